/- The walks over matrices by value: the laws' helpers, MatrixOk, ZeroMatrix, UnitMatrix of both packages. No condition but what each theorem names. -/
import Derived.Test.YtefgklgacojljaaFunW
namespace Go.Proofs.Ytefgklgacojljaa
set_option linter.unusedVariables false
set_option linter.unusedSimpArgs false
open Go.RowKit
set_option maxHeartbeats 400000
theorem l1Zero_any (p r c : Int) (w : World) (hr0 : 0 ≤ r) (hr1 : r ≤ 100) (hc0 : 0 ≤ c) (hc1 : c ≤ 100) :
    Calls Try.prog 92 #[.int .i64 p, .int .i64 r, .int .i64 c] w (RetM p r c (List.replicate (r * c).toNat 0) w) := by
  have hm0 : 0 ≤ r * c := Int.mul_nonneg hr0 hc0
  have hm1 : r * c ≤ 100 * 100 := Int.mul_le_mul hr1 hc1 hc0 (by omega)
  go_enter Try.func92, Try.ntmps92
  go_wp2_with (at_make; refine wpList_mkI _ rfl _ _ 22 rfl 3 Try.underlying22 Try.infoI .i64 .i64 _ _ (r * c).toNat rfl rfl (by omega) (by omega) (by omega) ?_; intro w1 ho hb hs; obtain ⟨hcb, hfb⟩ := bcell hb)
  simp only [World.size_alloc] at ho hs
  refine bodyPost_ret (v := .agg #[.int .i64 p, .int .i64 r, .int .i64 c, .slice (some ⟨w.heap.size + 1, 0, none⟩) (r * c).toNat (r * c).toNat]) (by simp [results, Try.results92, go_sem, hcb]) rfl ⟨_, _, _, rfl, (by first | assumption | exact Hd.nil | exact Hd.self (by first | omega | (unfold maxLen; omega))), (by repeat' (first | (with_reducible exact Below.refl _ _) | (with_reducible refine Below.setCell ?_ (by first | exact Nat.le_refl _ | omega | (simp only [World.size_alloc, World.size_setCell, World.heap_drewN]; omega) | (simp; omega)) _) | (with_reducible refine Below.alloc ?_ (by first | exact Nat.le_refl _ | omega | (simp only [World.size_alloc, World.size_setCell, World.heap_drewN]; omega) | (simp; omega)) _) | (with_reducible refine below_drewN ?_ _) | (with_reducible refine Below.drew ?_) | (with_reducible refine Below.trans ?_ (hb.mono (by first | exact Nat.le_refl _ | omega | (simp only [World.size_alloc, World.size_setCell, World.heap_drewN]; omega) | (simp; omega)))))), ?_⟩
  simp only [World.size_setCell]
  exact (((((ho.setLow (by simp) _).setLow (by simp) _).setLow (by simp) _).setLow (by simp) _)).down (by omega)

/-- the arguments at which a matrix of zeros is made -/
def okZ (p r c : Int) : Prop := isP p = true ∧ (0 ≤ r ∧ r ≤ 40) ∧ (0 ≤ c ∧ c ≤ 40)
theorem okZ_cases {p r c : Int} (h : ¬ okZ p r c) : isP p = false ∨ (isP p = true ∧ (decide (0 ≤ r) && decide (r ≤ 40)) = false) ∨ (isP p = true ∧ (decide (0 ≤ r) && decide (r ≤ 40)) = true ∧ (decide (0 ≤ c) && decide (c ≤ 40)) = false) := by
  unfold okZ at h
  rcases hp : isP p with _ | _
  · exact .inl rfl
  · rcases hr : (decide (0 ≤ r) && decide (r ≤ 40)) with _ | _
    · exact .inr (.inl ⟨rfl, rfl⟩)
    · refine .inr (.inr ⟨rfl, rfl, ?_⟩)
      rcases hc : (decide (0 ≤ c) && decide (c ≤ 40)) with _ | _
      · rfl
      · exfalso; apply h
        simp at hr hc
        exact ⟨hp, hr, hc⟩
/-! ### the laws' helpers -/
theorem szMatrix_any (p r c : Int) (A : Option Addr) (n cap : Nat) (l : Int) (w : World) (hn : n ≤ maxLen) (h0 : 0 ≤ l) (h1 : l ≤ 1048576) :
    Calls Try.prog 15 #[.agg #[.int .i64 p, .int .i64 r, .int .i64 c, .slice A n cap], .int .i64 l] w (Rv (.int .i64 (if (n : Int) ≤ l then l - n else -1)) w) := by
  by_cases h : (n : Int) ≤ l
  · rw [if_pos h]
    have h2 : ¬ l - (n : Int) < 0 := by omega
    have Hi := Lib.hid (show (if (n : Int) ≤ l then l - n else -1) = l - n from if_pos h)
    go_enter Try.func15, Try.ntmps15
    go_wp2_with (go_at_call 48; refine (szIntS_any _ _ _ _ _ hn h0 h1).mono ?_; rintro e w' ⟨rfl, rfl⟩; rw [Hi.out])
    go_ret
    exact ⟨rfl, (by repeat' (first | (with_reducible exact Below.refl _ _) | (with_reducible refine Below.setCell ?_ (by first | exact Nat.le_refl _ | omega | (simp only [World.size_alloc, World.size_setCell, World.heap_drewN]; omega) | (simp; omega)) _) | (with_reducible refine Below.alloc ?_ (by first | exact Nat.le_refl _ | omega | (simp only [World.size_alloc, World.size_setCell, World.heap_drewN]; omega) | (simp; omega)) _) | (with_reducible refine below_drewN ?_ _) | (with_reducible refine Below.drew ?_)))⟩
  · rw [if_neg h]
    have Hi := Lib.hid (show (if (n : Int) ≤ l then l - n else -1) = -1 from if_neg h)
    go_enter Try.func15, Try.ntmps15
    go_wp2_with (go_at_call 48; refine (szIntS_any _ _ _ _ _ hn h0 h1).mono ?_; rintro e w' ⟨rfl, rfl⟩; rw [Hi.out])
    go_ret
    exact ⟨rfl, (by repeat' (first | (with_reducible exact Below.refl _ _) | (with_reducible refine Below.setCell ?_ (by first | exact Nat.le_refl _ | omega | (simp only [World.size_alloc, World.size_setCell, World.heap_drewN]; omega) | (simp; omega)) _) | (with_reducible refine Below.alloc ?_ (by first | exact Nat.le_refl _ | omega | (simp only [World.size_alloc, World.size_setCell, World.heap_drewN]; omega) | (simp; omega)) _) | (with_reducible refine below_drewN ?_ _) | (with_reducible refine Below.drew ?_)))⟩

end Go.Proofs.Ytefgklgacojljaa
