/- isElement, l2Vector; AdjointOf of both packages. No condition but what each theorem names. -/
import Derived.Test.YticebbkmakpkjaaAdjW
namespace Go.Proofs.Yticebbkmakpkjaa
set_option linter.unusedVariables false
set_option linter.unusedSimpArgs false
set_option maxRecDepth 20000
open Go.RowKit Go.Sort
set_option maxHeartbeats 4000000
/-- an element of an algebra -/
def elB (p n : Int) (xs : List Int) : Bool := ((xs.length : Int) == n) && resB xs p
theorem elB_cases (p n : Int) (xs : List Int) : (((xs.length : Int) == n) = false ∧ elB p n xs = false) ∨ (((xs.length : Int) == n) = true ∧ resB xs p = false ∧ elB p n xs = false) ∨ (((xs.length : Int) == n) = true ∧ resB xs p = true ∧ elB p n xs = true) := by
  unfold elB
  rcases ((xs.length : Int) == n) with _ | _ <;> rcases resB xs p with _ | _ <;> simp
theorem isElement_any {B : Nat} (p n : Int) (l k m km : Nat) (A Am : Option Addr) (xs : List Int) (w : World) (h : RdI w B Am m xs) (hB : B ≤ w.heap.size) (hp0 : 0 ≤ p) (hp1 : p ≤ 1000000000000) :
    Calls Try.prog 81 #[.agg #[.int .i64 p, .int .i64 n, .slice A l k], .slice Am m km] w (Rv (.bool (elB p n xs)) w) := by
  obtain rfl : xs.length = m := h.1
  rcases elB_cases p n xs with ⟨e1, eq⟩ | ⟨e1, e2, eq⟩ | ⟨e1, e2, eq⟩
  · rw [eq]
    clear eq
    go_enter Try.func81, Try.ntmps81
    go_wp2
    go_ret
    exact ⟨rfl, (by repeat' (first | (with_reducible exact Below.refl _ _) | (with_reducible refine Below.setCell ?_ (by first | exact Nat.le_refl _ | omega | (simp only [World.size_alloc, World.size_setCell, World.heap_drewN]; omega) | (simp; omega)) _) | (with_reducible refine Below.alloc ?_ (by first | exact Nat.le_refl _ | omega | (simp only [World.size_alloc, World.size_setCell, World.heap_drewN]; omega) | (simp; omega)) _) | (with_reducible refine below_drewN ?_ _) | (with_reducible refine Below.drew ?_)))⟩
  all_goals
    rw [eq]
    have E2 := Lib.hid e2
    clear eq e2
    go_enter Try.func81, Try.ntmps81
    go_wp2_with (go_at_call 124; refine (residues_any Am _ km p xs _ (B := B) (by exact h.below ((by repeat' (first | (with_reducible exact Below.refl _ _) | (with_reducible refine Below.setCell ?_ (by first | exact Nat.le_refl _ | omega | (simp only [World.size_alloc, World.size_setCell, World.heap_drewN]; omega) | (simp; omega)) _) | (with_reducible refine Below.alloc ?_ (by first | exact Nat.le_refl _ | omega | (simp only [World.size_alloc, World.size_setCell, World.heap_drewN]; omega) | (simp; omega)) _) | (with_reducible refine below_drewN ?_ _) | (with_reducible refine Below.drew ?_))) : Below w.heap.size w _) hB) (by first | exact Nat.le_refl _ | omega | (simp only [World.size_alloc, World.size_setCell, World.heap_drewN]; omega) | (simp; omega)) hp0 hp1).mono ?_; rintro e w1 ⟨rfl, hb⟩; rw [E2.out])
    go_ret
    exact ⟨rfl, (by repeat' (first | (with_reducible exact Below.refl _ _) | (with_reducible refine Below.setCell ?_ (by first | exact Nat.le_refl _ | omega | (simp only [World.size_alloc, World.size_setCell, World.heap_drewN]; omega) | (simp; omega)) _) | (with_reducible refine Below.alloc ?_ (by first | exact Nat.le_refl _ | omega | (simp only [World.size_alloc, World.size_setCell, World.heap_drewN]; omega) | (simp; omega)) _) | (with_reducible refine below_drewN ?_ _) | (with_reducible refine Below.drew ?_) | (with_reducible refine Below.trans ?_ (hb.mono (by first | exact Nat.le_refl _ | omega | (simp only [World.size_alloc, World.size_setCell, World.heap_drewN]; omega) | (simp; omega))))))⟩
theorem l2Vector_any {B : Nat} (p n : Int) (l k m km : Nat) (A Am : Option Addr) (xs : List Int) (w : World) (h : RdI w B Am m xs) (hB : B ≤ w.heap.size) :
    Calls Try.prog 76 #[.agg #[.int .i64 p, .int .i64 n, .slice A l k], .slice Am m km] w (Rv (.bool (elB p n xs)) w) := by
  obtain rfl : xs.length = m := h.1
  rcases elB_cases p n xs with ⟨e1, eq⟩ | ⟨e1, e2, eq⟩ | ⟨e1, e2, eq⟩
  · rw [eq]
    clear eq
    go_enter Try.func76, Try.ntmps76
    go_wp2
    go_ret
    exact ⟨rfl, (by repeat' (first | (with_reducible exact Below.refl _ _) | (with_reducible refine Below.setCell ?_ (by first | exact Nat.le_refl _ | omega | (simp only [World.size_alloc, World.size_setCell, World.heap_drewN]; omega) | (simp; omega)) _) | (with_reducible refine Below.alloc ?_ (by first | exact Nat.le_refl _ | omega | (simp only [World.size_alloc, World.size_setCell, World.heap_drewN]; omega) | (simp; omega)) _) | (with_reducible refine below_drewN ?_ _) | (with_reducible refine Below.drew ?_)))⟩
  all_goals
    rw [eq]
    have E2 := Lib.hid e2
    clear eq e2
    go_enter Try.func76, Try.ntmps76
    go_wp2_with (go_at_call 122; refine (l1Residues_any Am _ km p xs _ (B := B) (by exact h.below ((by repeat' (first | (with_reducible exact Below.refl _ _) | (with_reducible refine Below.setCell ?_ (by first | exact Nat.le_refl _ | omega | (simp only [World.size_alloc, World.size_setCell, World.heap_drewN]; omega) | (simp; omega)) _) | (with_reducible refine Below.alloc ?_ (by first | exact Nat.le_refl _ | omega | (simp only [World.size_alloc, World.size_setCell, World.heap_drewN]; omega) | (simp; omega)) _) | (with_reducible refine below_drewN ?_ _) | (with_reducible refine Below.drew ?_))) : Below w.heap.size w _) hB)).mono ?_; rintro e w1 ⟨rfl, q, rfl⟩; rw [E2.out])
    go_ret
    exact ⟨rfl, (by repeat' (first | (with_reducible exact Below.refl _ _) | (with_reducible refine Below.setCell ?_ (by first | exact Nat.le_refl _ | omega | (simp only [World.size_alloc, World.size_setCell, World.heap_drewN]; omega) | (simp; omega)) _) | (with_reducible refine Below.alloc ?_ (by first | exact Nat.le_refl _ | omega | (simp only [World.size_alloc, World.size_setCell, World.heap_drewN]; omega) | (simp; omega)) _) | (with_reducible refine below_drewN ?_ _) | (with_reducible refine Below.drew ?_)))⟩
end Go.Proofs.Yticebbkmakpkjaa
