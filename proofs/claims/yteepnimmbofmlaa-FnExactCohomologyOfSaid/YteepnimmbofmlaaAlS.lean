/- The laws' helpers on algebras: size and copy. No condition but what each theorem names. -/
import Derived.Test.YteepnimmbofmlaaAlgW
import Derived.Test.YteepnimmbofmlaaLawK
namespace Go.Proofs.Yteepnimmbofmlaa
set_option linter.unusedVariables false
set_option linter.unusedSimpArgs false
set_option maxRecDepth 20000
open Go.RowKit
set_option maxHeartbeats 400000
theorem szAlgebra_any (p q : Int) (A : Option Addr) (n cap : Nat) (l : Int) (w : World) (hn : n ≤ maxLen) (h0 : 0 ≤ l) (h1 : l ≤ 1048576) :
    Calls Try.prog 5 #[.agg #[.int .i64 p, .int .i64 q, .slice A n cap], .int .i64 l] w (Rv (.int .i64 (if (n : Int) ≤ l then l - n else -1)) w) := by
  by_cases h : (n : Int) ≤ l
  · rw [if_pos h]
    have h2 : ¬ l - (n : Int) < 0 := by omega
    have Hi := Lib.hid (show (if (n : Int) ≤ l then l - n else -1) = l - n from if_pos h)
    go_enter Try.func5, Try.ntmps5
    go_wp2_with (go_at_call 19; refine (szIntS_any _ _ _ _ _ hn h0 h1).mono ?_; rintro e w' ⟨rfl, rfl⟩; rw [Hi.out])
    go_ret
    exact ⟨rfl, (by repeat' (first | (with_reducible exact Below.refl _ _) | (with_reducible refine Below.setCell ?_ (by first | exact Nat.le_refl _ | omega | (simp only [World.size_alloc, World.size_setCell, World.heap_drewN]; omega) | (simp; omega)) _) | (with_reducible refine Below.alloc ?_ (by first | exact Nat.le_refl _ | omega | (simp only [World.size_alloc, World.size_setCell, World.heap_drewN]; omega) | (simp; omega)) _) | (with_reducible refine below_drewN ?_ _) | (with_reducible refine Below.drew ?_)))⟩
  · rw [if_neg h]
    have Hi := Lib.hid (show (if (n : Int) ≤ l then l - n else -1) = -1 from if_neg h)
    go_enter Try.func5, Try.ntmps5
    go_wp2_with (go_at_call 19; refine (szIntS_any _ _ _ _ _ hn h0 h1).mono ?_; rintro e w' ⟨rfl, rfl⟩; rw [Hi.out])
    go_ret
    exact ⟨rfl, (by repeat' (first | (with_reducible exact Below.refl _ _) | (with_reducible refine Below.setCell ?_ (by first | exact Nat.le_refl _ | omega | (simp only [World.size_alloc, World.size_setCell, World.heap_drewN]; omega) | (simp; omega)) _) | (with_reducible refine Below.alloc ?_ (by first | exact Nat.le_refl _ | omega | (simp only [World.size_alloc, World.size_setCell, World.heap_drewN]; omega) | (simp; omega)) _) | (with_reducible refine below_drewN ?_ _) | (with_reducible refine Below.drew ?_)))⟩
theorem toAlgebra_any {B : Nat} (p q : Int) (A : Option Addr) (n cap : Nat) (d : List Int) (w : World) (h : RdI w B A n d) (hB : B ≤ w.heap.size) (hn : n ≤ 1073741824) :
    Calls Try.prog 7 #[.agg #[.int .i64 p, .int .i64 q, .slice A n cap]] w (RetA p q d w) := by
  go_enter Try.func7, Try.ntmps7
  go_wp2_with (go_at_call 22; refine (toIntS_any A n cap d _ (B := B) (by exact h.below ((by repeat' (first | (with_reducible exact Below.refl _ _) | (with_reducible refine Below.setCell ?_ (by first | exact Nat.le_refl _ | omega | (simp only [World.size_alloc, World.size_setCell, World.heap_drewN]; omega) | (simp; omega)) _) | (with_reducible refine Below.alloc ?_ (by first | exact Nat.le_refl _ | omega | (simp only [World.size_alloc, World.size_setCell, World.heap_drewN]; omega) | (simp; omega)) _) | (with_reducible refine below_drewN ?_ _) | (with_reducible refine Below.drew ?_))) : Below w.heap.size w _) hB) (by first | exact Nat.le_refl _ | omega | (simp only [World.size_alloc, World.size_setCell, World.heap_drewN]; omega) | (simp; omega)) hn).mono ?_; rintro e w1 ⟨A', n', c', rfl, hdA_, hb, ho⟩; obtain ⟨hcb, hfb⟩ := bcell hb)
  simp only [World.size_alloc] at ho
  have hs := hb.size
  simp only [World.size_alloc] at hs
  refine bodyPost_ret (v := .agg #[.int .i64 p, .int .i64 q, .slice A' n' c']) (by simp [results, Try.results7, go_sem, hcb]) rfl ⟨_, _, _, rfl, (by first | assumption | exact Hd.nil | exact Hd.self (by first | omega | (unfold maxLen; omega))), (by repeat' (first | (with_reducible exact Below.refl _ _) | (with_reducible refine Below.setCell ?_ (by first | exact Nat.le_refl _ | omega | (simp only [World.size_alloc, World.size_setCell, World.heap_drewN]; omega) | (simp; omega)) _) | (with_reducible refine Below.alloc ?_ (by first | exact Nat.le_refl _ | omega | (simp only [World.size_alloc, World.size_setCell, World.heap_drewN]; omega) | (simp; omega)) _) | (with_reducible refine below_drewN ?_ _) | (with_reducible refine Below.drew ?_) | (with_reducible refine Below.trans ?_ (hb.mono (by first | exact Nat.le_refl _ | omega | (simp only [World.size_alloc, World.size_setCell, World.heap_drewN]; omega) | (simp; omega)))))), ?_⟩
  simp only [World.size_setCell]
  exact (((((ho.setLow (by simp) _).setLow (by simp) _).setLow (by simp) _).setLow (by simp) _)).down (by omega)
end Go.Proofs.Yteepnimmbofmlaa
