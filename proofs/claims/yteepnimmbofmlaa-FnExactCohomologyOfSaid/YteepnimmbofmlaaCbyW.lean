/- l4Small, CochainOk of both packages. No condition but what each theorem names. -/
import Derived.Test.YteepnimmbofmlaaAIkW
import Derived.Test.YteepnimmbofmlaaSubW
import Derived.Test.YteepnimmbofmlaaVfW
import Derived.Test.YteepnimmbofmlaaAdOW
import Derived.Test.YteepnimmbofmlaaGrwT
import Derived.Deep.RegionHeld3
namespace Go.Proofs.Yteepnimmbofmlaa
set_option linter.unusedVariables false
set_option linter.unusedSimpArgs false
set_option maxRecDepth 20000
open Go.RowKit Go.Sort
set_option maxHeartbeats 4000000
/-- a cochain's numbers -/
def chB (p q : Int) (d : List Int) (k : Int) (v : List Int) : Bool := okA p q d && decide (q ≤ 7) && (decide (0 ≤ k) && decide (k ≤ q)) && ((v.length : Int) == (((subs q.toNat k.toNat 0).length : Nat) : Int)) && resB v p
theorem chB_cases (p q : Int) (d : List Int) (k : Int) (v : List Int) :
    (okA p q d = false ∧ chB p q d k v = false) ∨
    (okA p q d = true ∧ decide (q ≤ 7) = false ∧ chB p q d k v = false) ∨
    (okA p q d = true ∧ decide (q ≤ 7) = true ∧ (decide (0 ≤ k) && decide (k ≤ q)) = false ∧ chB p q d k v = false) ∨
    (okA p q d = true ∧ decide (q ≤ 7) = true ∧ (decide (0 ≤ k) && decide (k ≤ q)) = true ∧ ((v.length : Int) == (((subs q.toNat k.toNat 0).length : Nat) : Int)) = false ∧ chB p q d k v = false) ∨
    (okA p q d = true ∧ decide (q ≤ 7) = true ∧ (decide (0 ≤ k) && decide (k ≤ q)) = true ∧ ((v.length : Int) == (((subs q.toNat k.toNat 0).length : Nat) : Int)) = true ∧ chB p q d k v = resB v p) := by
  unfold chB
  rcases okA p q d with _ | _ <;> rcases decide (q ≤ 7) with _ | _ <;> rcases (decide (0 ≤ k) && decide (k ≤ q)) with _ | _ <;> rcases ((v.length : Int) == (((subs q.toNat k.toNat 0).length : Nat) : Int)) with _ | _ <;> simp
theorem l4Small_any {B : Nat} (p q : Int) (n k : Nat) (A : Option Addr) (d : List Int) (w : World) (h : RdI w B A n d) (hd : Hd A n k) (hB : B ≤ w.heap.size) :
    Calls Try.prog 28 #[.agg #[.int .i64 p, .int .i64 q, .slice A n k]] w (Rv (.bool (okA p q d && decide (q ≤ 7))) w) := by
  rcases e1 : okA p q d with _ | _
  · have E1 := Lib.hid e1
    clear e1
    go_enter Try.func28, Try.ntmps28
    go_wp2_with fail
    refine (sAlg_any p q n k A d _ (B := B) (by exact h.below ((by repeat' (first | (with_reducible exact Below.refl _ _) | (with_reducible refine Below.setCell ?_ (by first | exact Nat.le_refl _ | omega | (simp only [World.size_alloc, World.size_setCell, World.heap_drewN]; omega) | (simp; omega)) _) | (with_reducible refine Below.alloc ?_ (by first | exact Nat.le_refl _ | omega | (simp only [World.size_alloc, World.size_setCell, World.heap_drewN]; omega) | (simp; omega)) _) | (with_reducible refine below_drewN ?_ _) | (with_reducible refine Below.drew ?_))) : Below w.heap.size w _) hB) hd (by first | exact Nat.le_refl _ | omega | (simp only [World.size_alloc, World.size_setCell, World.heap_drewN]; omega) | (simp; omega))).mono ?_
    rintro e w1 ⟨rfl, hb1⟩
    have b1 : Box w1 (w.heap.size) #[.int .i64 p, .int .i64 q, .slice A n k] := by
      have hq := (Box.new w #[.int .i64 p, .int .i64 q, .slice A n k] 29).below hb1 (by first | omega | (simp only [World.size_alloc]; omega) | (simp; omega))
      (try simp only [World.size_alloc] at hq)
      exact hq
    have hq1 : Below w.heap.size w w1 := (by repeat' (first | (with_reducible exact Below.refl _ _) | (with_reducible refine Below.setCell ?_ (by first | exact Nat.le_refl _ | omega | (simp only [World.size_alloc, World.size_setCell, World.heap_drewN]; omega) | (simp; omega)) _) | (with_reducible refine Below.alloc ?_ (by first | exact Nat.le_refl _ | omega | (simp only [World.size_alloc, World.size_setCell, World.heap_drewN]; omega) | (simp; omega)) _) | (with_reducible refine below_drewN ?_ _) | (with_reducible refine Below.drew ?_) | (with_reducible refine Below.trans ?_ (hb1.mono (by first | exact Nat.le_refl _ | omega | (simp only [World.size_alloc, World.size_setCell, World.heap_drewN]; omega) | (simp; omega))))))
    have hs1 := hb1.size
    simp only [World.size_alloc] at hs1
    clear hb1
    rw [E1.out]
    go_wp2
    go_ret
    exact ⟨rfl, hq1⟩
  · rcases e2 : decide (q ≤ 7) with _ | _
    all_goals
      have E1 := Lib.hid e1
      clear e1
      go_enter Try.func28, Try.ntmps28
      go_wp2_with fail
      refine (sAlg_any p q n k A d _ (B := B) (by exact h.below ((by repeat' (first | (with_reducible exact Below.refl _ _) | (with_reducible refine Below.setCell ?_ (by first | exact Nat.le_refl _ | omega | (simp only [World.size_alloc, World.size_setCell, World.heap_drewN]; omega) | (simp; omega)) _) | (with_reducible refine Below.alloc ?_ (by first | exact Nat.le_refl _ | omega | (simp only [World.size_alloc, World.size_setCell, World.heap_drewN]; omega) | (simp; omega)) _) | (with_reducible refine below_drewN ?_ _) | (with_reducible refine Below.drew ?_))) : Below w.heap.size w _) hB) hd (by first | exact Nat.le_refl _ | omega | (simp only [World.size_alloc, World.size_setCell, World.heap_drewN]; omega) | (simp; omega))).mono ?_
      rintro e w1 ⟨rfl, hb1⟩
      have b1 : Box w1 (w.heap.size) #[.int .i64 p, .int .i64 q, .slice A n k] := by
        have hq := (Box.new w #[.int .i64 p, .int .i64 q, .slice A n k] 29).below hb1 (by first | omega | (simp only [World.size_alloc]; omega) | (simp; omega))
        (try simp only [World.size_alloc] at hq)
        exact hq
      have hq1 : Below w.heap.size w w1 := (by repeat' (first | (with_reducible exact Below.refl _ _) | (with_reducible refine Below.setCell ?_ (by first | exact Nat.le_refl _ | omega | (simp only [World.size_alloc, World.size_setCell, World.heap_drewN]; omega) | (simp; omega)) _) | (with_reducible refine Below.alloc ?_ (by first | exact Nat.le_refl _ | omega | (simp only [World.size_alloc, World.size_setCell, World.heap_drewN]; omega) | (simp; omega)) _) | (with_reducible refine below_drewN ?_ _) | (with_reducible refine Below.drew ?_) | (with_reducible refine Below.trans ?_ (hb1.mono (by first | exact Nat.le_refl _ | omega | (simp only [World.size_alloc, World.size_setCell, World.heap_drewN]; omega) | (simp; omega))))))
      have hs1 := hb1.size
      simp only [World.size_alloc] at hs1
      clear hb1
      rw [E1.out]
      obtain ⟨x0, x1, x2⟩ := b1.three
      go_wp2
      go_ret
      exact ⟨rfl, hq1⟩
end Go.Proofs.Yteepnimmbofmlaa
namespace Go.Proofs.Yteepnimmbofmlaa
set_option linter.unusedVariables false
set_option linter.unusedSimpArgs false
set_option maxRecDepth 20000
open Go.RowKit Go.Sort
set_option maxHeartbeats 4000000
/-- the numbers of the contraction: the first j -/
def cbL (N K : Nat) (p : Int) (v x : List Int) (j : Nat) : List Int := (List.range j).map fun t => vfV N p v x (row (subs N K 0) t)
theorem cbL_succ (N K : Nat) (p : Int) (v x : List Int) (j : Nat) : cbL N K p v x (j + 1) = cbL N K p v x j ++ [vfV N p v x (row (subs N K 0) j)] := by simp [cbL, List.range_succ]
theorem subs_rng (n : Nat) : ∀ k low, ∀ r ∈ subs n k low, ∀ x ∈ r, 0 ≤ x ∧ x < n := by
  intro k
  induction k with
  | zero => intro low r hr x hx; simp [subs] at hr; subst hr; cases hx
  | succ k ih =>
    intro low r hr x hx
    simp only [subs, List.mem_flatMap, List.mem_map] at hr
    obtain ⟨i, hi, s, hs, rfl⟩ := hr
    rw [List.mem_range'_1] at hi
    rcases List.mem_cons.1 hx with e | e
    · omega
    · exact ih _ s hs x e
theorem cby_start {p q K : Int} {d v x : List Int} (hch : chB p q d K v = true) (hel : elB p q x = true) (hK : K ≠ 0) : ∃ N K' : Nat, q = N ∧ K = ((K' + 1 : Nat) : Int) ∧ N ≤ 7 ∧ K' + 1 ≤ N ∧ okA p N d = true ∧ isP p = true ∧ v.length = (subs N (K' + 1) 0).length ∧ resB v p = true ∧ x.length = N ∧ resB x p = true ∧ chB p N d ((K' + 1 : Nat) : Int) v = true ∧ elB p N x = true := by
  have h0 := hch
  have h1 := hel
  unfold chB at hch
  unfold elB at hel
  simp only [Bool.and_eq_true, decide_eq_true_eq, beq_iff_eq] at hch hel
  obtain ⟨⟨⟨⟨a1, a2⟩, a3, a4⟩, a5⟩, a6⟩ := hch
  obtain ⟨k1, k2, -⟩ := okA_bd a1
  obtain ⟨N, rfl⟩ := Int.eq_ofNat_of_zero_le k2
  obtain ⟨K', rfl⟩ := Int.eq_ofNat_of_zero_le a3
  obtain ⟨K', rfl⟩ : ∃ t, K' = t + 1 := ⟨K' - 1, by omega⟩
  simp only [Int.toNat_natCast] at a5
  exact ⟨N, K', rfl, rfl, by omega, by omega, a1, k1, by omega, a6, by omega, hel.2, h0, h1⟩
end Go.Proofs.Yteepnimmbofmlaa
