/- The walks over matrices by value: the laws' helpers, MatrixOk, ZeroMatrix, UnitMatrix of both packages. No condition but what each theorem names. -/
import Derived.Test.YtlemdaclmagcjaaFunW
namespace Go.Proofs.Ytlemdaclmagcjaa
set_option linter.unusedVariables false
set_option linter.unusedSimpArgs false
open Go.RowKit
set_option maxHeartbeats 400000
theorem l1Zero_any (p r c : Int) (w : World) (hr0 : 0 ≤ r) (hr1 : r ≤ 100) (hc0 : 0 ≤ c) (hc1 : c ≤ 100) :
    Calls Try.prog 62 #[.int .i64 p, .int .i64 r, .int .i64 c] w (RetM p r c (List.replicate (r * c).toNat 0) w) := by
  have hm0 : 0 ≤ r * c := Int.mul_nonneg hr0 hc0
  have hm1 : r * c ≤ 100 * 100 := Int.mul_le_mul hr1 hc1 hc0 (by omega)
  go_enter Try.func62, Try.ntmps62
  go_wp2_with (at_make; refine wpList_mkI _ rfl _ _ 26 rfl 3 Try.underlying26 Try.infoI .i64 .i64 _ _ (r * c).toNat rfl rfl (by omega) (by omega) (by omega) ?_; intro w1 ho hb hs; obtain ⟨hcb, hfb⟩ := bcell hb)
  simp only [World.size_alloc] at ho hs
  refine bodyPost_ret (v := .agg #[.int .i64 p, .int .i64 r, .int .i64 c, .slice (some ⟨w.heap.size + 1, 0, none⟩) (r * c).toNat (r * c).toNat]) (by simp [results, Try.results62, go_sem, hcb]) rfl ⟨_, _, _, rfl, (by first | assumption | exact Hd.nil | exact Hd.self (by first | omega | (unfold maxLen; omega))), (by repeat' (first | (with_reducible exact Below.refl _ _) | (with_reducible refine Below.setCell ?_ (by first | exact Nat.le_refl _ | omega | (simp only [World.size_alloc, World.size_setCell, World.heap_drewN]; omega) | (simp; omega)) _) | (with_reducible refine Below.alloc ?_ (by first | exact Nat.le_refl _ | omega | (simp only [World.size_alloc, World.size_setCell, World.heap_drewN]; omega) | (simp; omega)) _) | (with_reducible refine below_drewN ?_ _) | (with_reducible refine Below.drew ?_) | (with_reducible refine Below.trans ?_ (hb.mono (by first | exact Nat.le_refl _ | omega | (simp only [World.size_alloc, World.size_setCell, World.heap_drewN]; omega) | (simp; omega)))))), ?_⟩
  simp only [World.size_setCell]
  exact (((((ho.setLow (by simp) _).setLow (by simp) _).setLow (by simp) _).setLow (by simp) _)).down (by omega)

/-- the arguments at which a matrix of zeros is made -/
def okZ (p r c : Int) : Prop := isP p = true ∧ (0 ≤ r ∧ r ≤ 40) ∧ (0 ≤ c ∧ c ≤ 40)
theorem sZero_ok (p r c : Int) (w : World) (h : okZ p r c) :
    Calls Try.prog 32 #[.int .i64 p, .int .i64 r, .int .i64 c] w (RetM p r c (List.replicate (r * c).toNat 0) w) := by
  obtain ⟨hp, ⟨hr0, hr1⟩, hc0, hc1⟩ := h
  have e1 : (decide (0 ≤ r) && decide (r ≤ 40)) = true := by simp; omega
  have e2 : (decide (0 ≤ c) && decide (c ≤ 40)) = true := by simp; omega
  go_enter Try.func32, Try.ntmps32
  go_wp2_with (first | (go_at_call 16; refine (sp_any _ _).mono ?_; rintro e w' ⟨rfl, rfl⟩) | (go_at_call 56; refine (l1In_any _ _ _ _).mono ?_; rintro e w' ⟨rfl, rfl⟩) | (go_at_call 62; refine (l1Zero_any _ _ _ _ (by omega) (by omega) (by omega) (by omega)).mono ?_; rintro e w1 ⟨A, n, cap, rfl, hdA, hb, ho⟩; obtain ⟨hcb, hfb⟩ := bcell hb))
  simp only [World.size_alloc] at ho
  have hs := hb.size
  simp only [World.size_alloc] at hs
  refine bodyPost_ret (v := .agg #[.int .i64 p, .int .i64 r, .int .i64 c, .slice A n cap]) (by simp [results, Try.results32, go_sem, hcb]) rfl ⟨_, _, _, rfl, (by first | assumption | exact Hd.nil | exact Hd.self (by first | omega | (unfold maxLen; omega))), (by repeat' (first | (with_reducible exact Below.refl _ _) | (with_reducible refine Below.setCell ?_ (by first | exact Nat.le_refl _ | omega | (simp only [World.size_alloc, World.size_setCell, World.heap_drewN]; omega) | (simp; omega)) _) | (with_reducible refine Below.alloc ?_ (by first | exact Nat.le_refl _ | omega | (simp only [World.size_alloc, World.size_setCell, World.heap_drewN]; omega) | (simp; omega)) _) | (with_reducible refine below_drewN ?_ _) | (with_reducible refine Below.drew ?_) | (with_reducible refine Below.trans ?_ (hb.mono (by first | exact Nat.le_refl _ | omega | (simp only [World.size_alloc, World.size_setCell, World.heap_drewN]; omega) | (simp; omega)))))), ?_⟩
  simp only [World.size_setCell]
  exact (((((ho.setLow (by simp) _).setLow (by simp) _).setLow (by simp) _).setLow (by simp) _)).down (by omega)

theorem iZero_ok (p r c : Int) (w : World) (h : okZ p r c) :
    Calls Try.prog 33 #[.int .i64 p, .int .i64 r, .int .i64 c] w (RetM p r c (List.replicate (r * c).toNat 0) w) := by
  obtain ⟨hp, ⟨hr0, hr1⟩, hc0, hc1⟩ := h
  have hm0 : 0 ≤ r * c := Int.mul_nonneg hr0 hc0
  have hm1 : r * c ≤ 40 * 40 := Int.mul_le_mul hr1 hc1 hc0 (by omega)
  have e1 : (decide (0 ≤ r) && decide (r ≤ 40)) = true := by simp; omega
  have e2 : (decide (0 ≤ c) && decide (c ≤ 40)) = true := by simp; omega
  go_enter Try.func33, Try.ntmps33
  go_wp2_with (first | (go_at_call 17; refine (ip_any _ _).mono ?_; rintro e w' ⟨rfl, rfl⟩) | (go_at_call 51; refine (inside_any _ _ _ _).mono ?_; rintro e w' ⟨rfl, rfl⟩) | (at_make; refine wpList_mkI _ rfl _ _ 26 rfl 3 Try.underlying26 Try.infoI .i64 .i64 _ _ (r * c).toNat rfl rfl (by omega) (by omega) (by omega) ?_; intro w1 ho hb hs; obtain ⟨hcb, hfb⟩ := bcell hb))
  simp only [World.size_alloc] at ho hs
  refine bodyPost_ret (v := .agg #[.int .i64 p, .int .i64 r, .int .i64 c, .slice (some ⟨w.heap.size + 1, 0, none⟩) (r * c).toNat (r * c).toNat]) (by simp [results, Try.results33, go_sem, hcb]) rfl ⟨_, _, _, rfl, (by first | assumption | exact Hd.nil | exact Hd.self (by first | omega | (unfold maxLen; omega))), (by repeat' (first | (with_reducible exact Below.refl _ _) | (with_reducible refine Below.setCell ?_ (by first | exact Nat.le_refl _ | omega | (simp only [World.size_alloc, World.size_setCell, World.heap_drewN]; omega) | (simp; omega)) _) | (with_reducible refine Below.alloc ?_ (by first | exact Nat.le_refl _ | omega | (simp only [World.size_alloc, World.size_setCell, World.heap_drewN]; omega) | (simp; omega)) _) | (with_reducible refine below_drewN ?_ _) | (with_reducible refine Below.drew ?_) | (with_reducible refine Below.trans ?_ (hb.mono (by first | exact Nat.le_refl _ | omega | (simp only [World.size_alloc, World.size_setCell, World.heap_drewN]; omega) | (simp; omega)))))), ?_⟩
  simp only [World.size_setCell]
  exact (((((ho.setLow (by simp) _).setLow (by simp) _).setLow (by simp) _).setLow (by simp) _)).down (by omega)

theorem okZ_cases {p r c : Int} (h : ¬ okZ p r c) : isP p = false ∨ (isP p = true ∧ (decide (0 ≤ r) && decide (r ≤ 40)) = false) ∨ (isP p = true ∧ (decide (0 ≤ r) && decide (r ≤ 40)) = true ∧ (decide (0 ≤ c) && decide (c ≤ 40)) = false) := by
  unfold okZ at h
  rcases hp : isP p with _ | _
  · exact .inl rfl
  · rcases hr : (decide (0 ≤ r) && decide (r ≤ 40)) with _ | _
    · exact .inr (.inl ⟨rfl, rfl⟩)
    · refine .inr (.inr ⟨rfl, rfl, ?_⟩)
      rcases hc : (decide (0 ≤ c) && decide (c ≤ 40)) with _ | _
      · rfl
      · exfalso; apply h
        simp at hr hc
        exact ⟨hp, hr, hc⟩
theorem sZero_bad (p r c : Int) (w : World) (h : ¬ okZ p r c) :
    Calls Try.prog 32 #[.int .i64 p, .int .i64 r, .int .i64 c] w (RetM 0 0 0 [] w) := by
  rcases okZ_cases h with hp | ⟨hp, e1⟩ | ⟨hp, e1, e2⟩
  all_goals
    clear h
    go_enter Try.func32, Try.ntmps32
    go_wp2_with (first | (go_at_call 16; refine (sp_any _ _).mono ?_; rintro e w' ⟨rfl, rfl⟩) | (go_at_call 56; refine (l1In_any _ _ _ _).mono ?_; rintro e w' ⟨rfl, rfl⟩))
    refine bodyPost_ret (v := .agg #[.int .i64 0, .int .i64 0, .int .i64 0, .slice none 0 0]) (by simp [results, Try.results32, go_sem]) rfl ⟨_, _, _, rfl, (by first | assumption | exact Hd.nil | exact Hd.self (by first | omega | (unfold maxLen; omega))), (by repeat' (first | (with_reducible exact Below.refl _ _) | (with_reducible refine Below.setCell ?_ (by first | exact Nat.le_refl _ | omega | (simp only [World.size_alloc, World.size_setCell, World.heap_drewN]; omega) | (simp; omega)) _) | (with_reducible refine Below.alloc ?_ (by first | exact Nat.le_refl _ | omega | (simp only [World.size_alloc, World.size_setCell, World.heap_drewN]; omega) | (simp; omega)) _) | (with_reducible refine below_drewN ?_ _) | (with_reducible refine Below.drew ?_))), OwI.emp _ _ _ _⟩
theorem iZero_bad (p r c : Int) (w : World) (h : ¬ okZ p r c) :
    Calls Try.prog 33 #[.int .i64 p, .int .i64 r, .int .i64 c] w (RetM 0 0 0 [] w) := by
  rcases okZ_cases h with hp | ⟨hp, e1⟩ | ⟨hp, e1, e2⟩
  all_goals
    clear h
    go_enter Try.func33, Try.ntmps33
    go_wp2_with (first | (go_at_call 17; refine (ip_any _ _).mono ?_; rintro e w' ⟨rfl, rfl⟩) | (go_at_call 51; refine (inside_any _ _ _ _).mono ?_; rintro e w' ⟨rfl, rfl⟩))
    refine bodyPost_ret (v := .agg #[.int .i64 0, .int .i64 0, .int .i64 0, .slice none 0 0]) (by simp [results, Try.results33, go_sem]) rfl ⟨_, _, _, rfl, (by first | assumption | exact Hd.nil | exact Hd.self (by first | omega | (unfold maxLen; omega))), (by repeat' (first | (with_reducible exact Below.refl _ _) | (with_reducible refine Below.setCell ?_ (by first | exact Nat.le_refl _ | omega | (simp only [World.size_alloc, World.size_setCell, World.heap_drewN]; omega) | (simp; omega)) _) | (with_reducible refine Below.alloc ?_ (by first | exact Nat.le_refl _ | omega | (simp only [World.size_alloc, World.size_setCell, World.heap_drewN]; omega) | (simp; omega)) _) | (with_reducible refine below_drewN ?_ _) | (with_reducible refine Below.drew ?_))), OwI.emp _ _ _ _⟩

/-! ### the laws' helpers -/
theorem szMatrix_any (p r c : Int) (A : Option Addr) (n cap : Nat) (l : Int) (w : World) (hn : n ≤ maxLen) (h0 : 0 ≤ l) (h1 : l ≤ 1048576) :
    Calls Try.prog 39 #[.agg #[.int .i64 p, .int .i64 r, .int .i64 c, .slice A n cap], .int .i64 l] w (Rv (.int .i64 (if (n : Int) ≤ l then l - n else -1)) w) := by
  by_cases h : (n : Int) ≤ l
  · rw [if_pos h]
    have h2 : ¬ l - (n : Int) < 0 := by omega
    have Hi := Lib.hid (show (if (n : Int) ≤ l then l - n else -1) = l - n from if_pos h)
    go_enter Try.func39, Try.ntmps39
    go_wp2_with (go_at_call 64; refine (szIntS_any _ _ _ _ _ hn h0 h1).mono ?_; rintro e w' ⟨rfl, rfl⟩; rw [Hi.out])
    go_ret
    exact ⟨rfl, (by repeat' (first | (with_reducible exact Below.refl _ _) | (with_reducible refine Below.setCell ?_ (by first | exact Nat.le_refl _ | omega | (simp only [World.size_alloc, World.size_setCell, World.heap_drewN]; omega) | (simp; omega)) _) | (with_reducible refine Below.alloc ?_ (by first | exact Nat.le_refl _ | omega | (simp only [World.size_alloc, World.size_setCell, World.heap_drewN]; omega) | (simp; omega)) _) | (with_reducible refine below_drewN ?_ _) | (with_reducible refine Below.drew ?_)))⟩
  · rw [if_neg h]
    have Hi := Lib.hid (show (if (n : Int) ≤ l then l - n else -1) = -1 from if_neg h)
    go_enter Try.func39, Try.ntmps39
    go_wp2_with (go_at_call 64; refine (szIntS_any _ _ _ _ _ hn h0 h1).mono ?_; rintro e w' ⟨rfl, rfl⟩; rw [Hi.out])
    go_ret
    exact ⟨rfl, (by repeat' (first | (with_reducible exact Below.refl _ _) | (with_reducible refine Below.setCell ?_ (by first | exact Nat.le_refl _ | omega | (simp only [World.size_alloc, World.size_setCell, World.heap_drewN]; omega) | (simp; omega)) _) | (with_reducible refine Below.alloc ?_ (by first | exact Nat.le_refl _ | omega | (simp only [World.size_alloc, World.size_setCell, World.heap_drewN]; omega) | (simp; omega)) _) | (with_reducible refine below_drewN ?_ _) | (with_reducible refine Below.drew ?_)))⟩

end Go.Proofs.Ytlemdaclmagcjaa
