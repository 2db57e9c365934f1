/- The laws' helpers over algebras by value: eqAlgebra, markAlgebra, heldAlgebra; AbelianAlgebra of both packages. No condition but what each theorem names. -/
import Derived.Test.YtlemdaclmagcjaaMat2W
namespace Go.Proofs.Ytlemdaclmagcjaa
set_option linter.unusedVariables false
set_option linter.unusedSimpArgs false
open Go.RowKit
set_option maxHeartbeats 400000
theorem eqAlgebra_any {B1 B2 : Nat} (p1 r1 : Int) (A1 : Option Addr) (n1 k1 : Nat) (d1 : List Int) (p2 r2 : Int) (A2 : Option Addr) (n2 k2 : Nat) (d2 : List Int) (w : World)
    (h1 : RdI w B1 A1 n1 d1) (hB1 : B1 ≤ w.heap.size) (h2 : RdI w B2 A2 n2 d2) (hB2 : B2 ≤ w.heap.size) :
    Calls Try.prog 24 #[.agg #[.int .i64 p1, .int .i64 r1, .slice A1 n1 k1], .agg #[.int .i64 p2, .int .i64 r2, .slice A2 n2 k2]] w (Rv (.bool (p1 == p2 && r1 == r2 && d1 == d2)) w) := by
  by_cases e1 : p1 = p2
  · have f1 : (p1 != p2) = false := by simpa using e1
    by_cases e2 : r1 = r2
    · have f2 : (r1 != r2) = false := by simpa using e2
      have HE := Lib.hid (show (p1 == p2 && r1 == r2 && d1 == d2) = (d1 == d2) by rw [e1, e2]; simp)
      clear e1 e2
      go_enter Try.func24, Try.ntmps24
      rcases Bool.eq_false_or_eq_true (d1 == d2) with hd | hd
      all_goals
        have Hd := Lib.hid hd
        clear hd
        go_wp2_with (go_at_call 57; refine (eqIntS_any A1 A2 n1 k1 n2 k2 d1 d2 _ (B1 := B1) (B2 := B2) (by exact h1.below ((by repeat' (first | (with_reducible exact Below.refl _ _) | (with_reducible refine Below.setCell ?_ (by first | exact Nat.le_refl _ | omega | (simp only [World.size_alloc, World.size_setCell, World.heap_drewN]; omega) | (simp; omega)) _) | (with_reducible refine Below.alloc ?_ (by first | exact Nat.le_refl _ | omega | (simp only [World.size_alloc, World.size_setCell, World.heap_drewN]; omega) | (simp; omega)) _) | (with_reducible refine below_drewN ?_ _) | (with_reducible refine Below.drew ?_))) : Below w.heap.size w _) hB1) (by exact h2.below ((by repeat' (first | (with_reducible exact Below.refl _ _) | (with_reducible refine Below.setCell ?_ (by first | exact Nat.le_refl _ | omega | (simp only [World.size_alloc, World.size_setCell, World.heap_drewN]; omega) | (simp; omega)) _) | (with_reducible refine Below.alloc ?_ (by first | exact Nat.le_refl _ | omega | (simp only [World.size_alloc, World.size_setCell, World.heap_drewN]; omega) | (simp; omega)) _) | (with_reducible refine below_drewN ?_ _) | (with_reducible refine Below.drew ?_))) : Below w.heap.size w _) hB2)).mono ?_; rintro e w1 ⟨rfl, q, rfl⟩; rw [Hd.out])
        go_ret
        exact ⟨by rw [HE.out, Hd.out]; rfl, (by repeat' (first | (with_reducible exact Below.refl _ _) | (with_reducible refine Below.setCell ?_ (by first | exact Nat.le_refl _ | omega | (simp only [World.size_alloc, World.size_setCell, World.heap_drewN]; omega) | (simp; omega)) _) | (with_reducible refine Below.alloc ?_ (by first | exact Nat.le_refl _ | omega | (simp only [World.size_alloc, World.size_setCell, World.heap_drewN]; omega) | (simp; omega)) _) | (with_reducible refine below_drewN ?_ _) | (with_reducible refine Below.drew ?_)))⟩
    · have f2 : (r1 != r2) = true := by simpa using e2
      have HE := Lib.hid (show (p1 == p2 && r1 == r2 && d1 == d2) = false by simp [e2])
      clear e1 e2
      go_enter Try.func24, Try.ntmps24
      go_wp2
      go_ret
      exact ⟨by rw [HE.out]; rfl, (by repeat' (first | (with_reducible exact Below.refl _ _) | (with_reducible refine Below.setCell ?_ (by first | exact Nat.le_refl _ | omega | (simp only [World.size_alloc, World.size_setCell, World.heap_drewN]; omega) | (simp; omega)) _) | (with_reducible refine Below.alloc ?_ (by first | exact Nat.le_refl _ | omega | (simp only [World.size_alloc, World.size_setCell, World.heap_drewN]; omega) | (simp; omega)) _) | (with_reducible refine below_drewN ?_ _) | (with_reducible refine Below.drew ?_)))⟩
  · have f1 : (p1 != p2) = true := by simpa using e1
    have HE := Lib.hid (show (p1 == p2 && r1 == r2 && d1 == d2) = false by simp [e1])
    clear e1
    go_enter Try.func24, Try.ntmps24
    go_wp2
    go_ret
    exact ⟨by rw [HE.out]; rfl, (by repeat' (first | (with_reducible exact Below.refl _ _) | (with_reducible refine Below.setCell ?_ (by first | exact Nat.le_refl _ | omega | (simp only [World.size_alloc, World.size_setCell, World.heap_drewN]; omega) | (simp; omega)) _) | (with_reducible refine Below.alloc ?_ (by first | exact Nat.le_refl _ | omega | (simp only [World.size_alloc, World.size_setCell, World.heap_drewN]; omega) | (simp; omega)) _) | (with_reducible refine below_drewN ?_ _) | (with_reducible refine Below.drew ?_)))⟩
theorem markAlgebra_any {B0 B : Nat} (p r : Int) (A : Option Addr) (n cap : Nat) (d : List Int) (k : Int) (w : World) (h : OwI w B0 B A n d) (hB : B ≤ w.heap.size) (hk0 : 0 ≤ k) (hk1 : k + n ≤ 1000000000000) :
    Calls Try.prog 25 #[.agg #[.int .i64 p, .int .i64 r, .slice A n cap], .int .i64 k] w (RetMark B0 B A n k w) := by
  go_enter Try.func25, Try.ntmps25
  go_wp2_with (go_at_call 58; refine (markIntS_any A n cap k d _ (B0 := B0) (B := B) (by exact h.below ((by repeat' (first | (with_reducible exact Below.refl _ _) | (with_reducible refine Below.setCell ?_ (by first | exact Nat.le_refl _ | omega | (simp only [World.size_alloc, World.size_setCell, World.heap_drewN]; omega) | (simp; omega)) _) | (with_reducible refine Below.alloc ?_ (by first | exact Nat.le_refl _ | omega | (simp only [World.size_alloc, World.size_setCell, World.heap_drewN]; omega) | (simp; omega)) _) | (with_reducible refine below_drewN ?_ _) | (with_reducible refine Below.drew ?_))) : Below w.heap.size w _) hB) hk0 hk1).mono ?_; rintro e w1 ⟨rfl, hb, ho⟩)
  go_ret
  exact ⟨rfl, ((Chg.refl _ _ _).alloc _).trans hb, ho⟩
theorem heldAlgebra_any {B : Nat} (p r : Int) (A : Option Addr) (n cap : Nat) (k : Int) (w : World) (h : RdI w B A n (mkI k n)) (hB : B ≤ w.heap.size) (hk0 : 0 ≤ k) (hk1 : k + n ≤ 1000000000000) :
    Calls Try.prog 26 #[.agg #[.int .i64 p, .int .i64 r, .slice A n cap], .int .i64 k] w (Rv (.int .i64 (k + n)) w) := by
  have hk : ¬ (k + (n : Int)) < 0 := by omega
  go_enter Try.func26, Try.ntmps26
  go_wp2_with (go_at_call 59; refine (heldIntS_any A n cap k _ (B := B) (by exact h.below ((by repeat' (first | (with_reducible exact Below.refl _ _) | (with_reducible refine Below.setCell ?_ (by first | exact Nat.le_refl _ | omega | (simp only [World.size_alloc, World.size_setCell, World.heap_drewN]; omega) | (simp; omega)) _) | (with_reducible refine Below.alloc ?_ (by first | exact Nat.le_refl _ | omega | (simp only [World.size_alloc, World.size_setCell, World.heap_drewN]; omega) | (simp; omega)) _) | (with_reducible refine below_drewN ?_ _) | (with_reducible refine Below.drew ?_))) : Below w.heap.size w _) hB) hk0 hk1).mono ?_; rintro e w1 ⟨rfl, rfl⟩)
  go_ret
  exact ⟨rfl, (by repeat' (first | (with_reducible exact Below.refl _ _) | (with_reducible refine Below.setCell ?_ (by first | exact Nat.le_refl _ | omega | (simp only [World.size_alloc, World.size_setCell, World.heap_drewN]; omega) | (simp; omega)) _) | (with_reducible refine Below.alloc ?_ (by first | exact Nat.le_refl _ | omega | (simp only [World.size_alloc, World.size_setCell, World.heap_drewN]; omega) | (simp; omega)) _) | (with_reducible refine below_drewN ?_ _) | (with_reducible refine Below.drew ?_)))⟩

def okAb (p n : Int) : Prop := isP p = true ∧ (0 ≤ n ∧ n ≤ 28)
theorem okAb_cases {p n : Int} (h : ¬ okAb p n) : isP p = false ∨ (isP p = true ∧ (decide (0 ≤ n) && decide (n ≤ 28)) = false) := by
  unfold okAb at h
  rcases hp : isP p with _ | _
  · exact .inl rfl
  · refine .inr ⟨rfl, ?_⟩
    rcases hr : (decide (0 ≤ n) && decide (n ≤ 28)) with _ | _
    · rfl
    · exfalso; apply h
      simp at hr
      exact ⟨hp, hr⟩
theorem sAb_ok (p n : Int) (w : World) (h : okAb p n) :
    Calls Try.prog 22 #[.int .i64 p, .int .i64 n] w (RetA p n (List.replicate (n * n * n).toNat 0) w) := by
  obtain ⟨hp, hn0, hn1⟩ := h
  have hm0 : 0 ≤ n * n := Int.mul_nonneg hn0 hn0
  have hm1 : n * n ≤ 28 * 28 := Int.mul_le_mul hn1 hn1 hn0 (by omega)
  have hm2 : 0 ≤ n * n * n := Int.mul_nonneg hm0 hn0
  have hm3 : n * n * n ≤ 28 * 28 * 28 := Int.mul_le_mul hm1 hn1 hn0 (by omega)
  have e1 : (decide (0 ≤ n) && decide (n ≤ 28)) = true := by simp; omega
  go_enter Try.func22, Try.ntmps22
  go_wp2_with (first | (go_at_call 16; refine (sp_any _ _).mono ?_; rintro e w' ⟨rfl, rfl⟩) | (go_at_call 56; refine (l1In_any _ _ _ _).mono ?_; rintro e w' ⟨rfl, rfl⟩) | (at_make; refine wpList_mkI _ rfl _ _ 26 rfl 3 Try.underlying26 Try.infoI .i64 .i64 _ _ (n * n * n).toNat rfl rfl (by omega) (by omega) (by omega) ?_; intro w1 ho hb hs; obtain ⟨hcb, hfb⟩ := bcell hb))
  simp only [World.size_alloc] at ho hs
  refine bodyPost_ret (v := .agg #[.int .i64 p, .int .i64 n, .slice (some ⟨w.heap.size + 1, 0, none⟩) (n * n * n).toNat (n * n * n).toNat]) (by simp [results, Try.results22, go_sem, hcb]) rfl ⟨_, _, _, rfl, (by first | assumption | exact Hd.nil | exact Hd.self (by first | omega | (unfold maxLen; omega))), (by repeat' (first | (with_reducible exact Below.refl _ _) | (with_reducible refine Below.setCell ?_ (by first | exact Nat.le_refl _ | omega | (simp only [World.size_alloc, World.size_setCell, World.heap_drewN]; omega) | (simp; omega)) _) | (with_reducible refine Below.alloc ?_ (by first | exact Nat.le_refl _ | omega | (simp only [World.size_alloc, World.size_setCell, World.heap_drewN]; omega) | (simp; omega)) _) | (with_reducible refine below_drewN ?_ _) | (with_reducible refine Below.drew ?_) | (with_reducible refine Below.trans ?_ (hb.mono (by first | exact Nat.le_refl _ | omega | (simp only [World.size_alloc, World.size_setCell, World.heap_drewN]; omega) | (simp; omega)))))), ?_⟩
  simp only [World.size_setCell]
  exact ((((ho.setLow (by simp) _).setLow (by simp) _).setLow (by simp) _)).down (by omega)
theorem iAb_ok (p n : Int) (w : World) (h : okAb p n) :
    Calls Try.prog 23 #[.int .i64 p, .int .i64 n] w (RetA p n (List.replicate (n * n * n).toNat 0) w) := by
  obtain ⟨hp, hn0, hn1⟩ := h
  have hm0 : 0 ≤ n * n := Int.mul_nonneg hn0 hn0
  have hm1 : n * n ≤ 28 * 28 := Int.mul_le_mul hn1 hn1 hn0 (by omega)
  have hm2 : 0 ≤ n * n * n := Int.mul_nonneg hm0 hn0
  have hm3 : n * n * n ≤ 28 * 28 * 28 := Int.mul_le_mul hm1 hn1 hn0 (by omega)
  have e1 : (decide (0 ≤ n) && decide (n ≤ 28)) = true := by simp; omega
  go_enter Try.func23, Try.ntmps23
  go_wp2_with (first | (go_at_call 17; refine (ip_any _ _).mono ?_; rintro e w' ⟨rfl, rfl⟩) | (go_at_call 51; refine (inside_any _ _ _ _).mono ?_; rintro e w' ⟨rfl, rfl⟩) | (at_make; refine wpList_mkI _ rfl _ _ 26 rfl 3 Try.underlying26 Try.infoI .i64 .i64 _ _ (n * n * n).toNat rfl rfl (by omega) (by omega) (by omega) ?_; intro w1 ho hb hs; obtain ⟨hcb, hfb⟩ := bcell hb))
  simp only [World.size_alloc] at ho hs
  refine bodyPost_ret (v := .agg #[.int .i64 p, .int .i64 n, .slice (some ⟨w.heap.size + 1, 0, none⟩) (n * n * n).toNat (n * n * n).toNat]) (by simp [results, Try.results23, go_sem, hcb]) rfl ⟨_, _, _, rfl, (by first | assumption | exact Hd.nil | exact Hd.self (by first | omega | (unfold maxLen; omega))), (by repeat' (first | (with_reducible exact Below.refl _ _) | (with_reducible refine Below.setCell ?_ (by first | exact Nat.le_refl _ | omega | (simp only [World.size_alloc, World.size_setCell, World.heap_drewN]; omega) | (simp; omega)) _) | (with_reducible refine Below.alloc ?_ (by first | exact Nat.le_refl _ | omega | (simp only [World.size_alloc, World.size_setCell, World.heap_drewN]; omega) | (simp; omega)) _) | (with_reducible refine below_drewN ?_ _) | (with_reducible refine Below.drew ?_) | (with_reducible refine Below.trans ?_ (hb.mono (by first | exact Nat.le_refl _ | omega | (simp only [World.size_alloc, World.size_setCell, World.heap_drewN]; omega) | (simp; omega)))))), ?_⟩
  simp only [World.size_setCell]
  exact ((((ho.setLow (by simp) _).setLow (by simp) _).setLow (by simp) _)).down (by omega)
theorem sAb_bad (p n : Int) (w : World) (h : ¬ okAb p n) :
    Calls Try.prog 22 #[.int .i64 p, .int .i64 n] w (RetA 0 0 [] w) := by
  rcases okAb_cases h with hp | ⟨hp, e1⟩
  all_goals
    clear h
    go_enter Try.func22, Try.ntmps22
    go_wp2_with (first | (go_at_call 16; refine (sp_any _ _).mono ?_; rintro e w' ⟨rfl, rfl⟩) | (go_at_call 56; refine (l1In_any _ _ _ _).mono ?_; rintro e w' ⟨rfl, rfl⟩))
    refine bodyPost_ret (v := .agg #[.int .i64 0, .int .i64 0, .slice none 0 0]) (by simp [results, Try.results22, go_sem]) rfl ⟨_, _, _, rfl, (by first | assumption | exact Hd.nil | exact Hd.self (by first | omega | (unfold maxLen; omega))), (by repeat' (first | (with_reducible exact Below.refl _ _) | (with_reducible refine Below.setCell ?_ (by first | exact Nat.le_refl _ | omega | (simp only [World.size_alloc, World.size_setCell, World.heap_drewN]; omega) | (simp; omega)) _) | (with_reducible refine Below.alloc ?_ (by first | exact Nat.le_refl _ | omega | (simp only [World.size_alloc, World.size_setCell, World.heap_drewN]; omega) | (simp; omega)) _) | (with_reducible refine below_drewN ?_ _) | (with_reducible refine Below.drew ?_))), OwI.emp _ _ _ _⟩
theorem iAb_bad (p n : Int) (w : World) (h : ¬ okAb p n) :
    Calls Try.prog 23 #[.int .i64 p, .int .i64 n] w (RetA 0 0 [] w) := by
  rcases okAb_cases h with hp | ⟨hp, e1⟩
  all_goals
    clear h
    go_enter Try.func23, Try.ntmps23
    go_wp2_with (first | (go_at_call 17; refine (ip_any _ _).mono ?_; rintro e w' ⟨rfl, rfl⟩) | (go_at_call 51; refine (inside_any _ _ _ _).mono ?_; rintro e w' ⟨rfl, rfl⟩))
    refine bodyPost_ret (v := .agg #[.int .i64 0, .int .i64 0, .slice none 0 0]) (by simp [results, Try.results23, go_sem]) rfl ⟨_, _, _, rfl, (by first | assumption | exact Hd.nil | exact Hd.self (by first | omega | (unfold maxLen; omega))), (by repeat' (first | (with_reducible exact Below.refl _ _) | (with_reducible refine Below.setCell ?_ (by first | exact Nat.le_refl _ | omega | (simp only [World.size_alloc, World.size_setCell, World.heap_drewN]; omega) | (simp; omega)) _) | (with_reducible refine Below.alloc ?_ (by first | exact Nat.le_refl _ | omega | (simp only [World.size_alloc, World.size_setCell, World.heap_drewN]; omega) | (simp; omega)) _) | (with_reducible refine below_drewN ?_ _) | (with_reducible refine Below.drew ?_))), OwI.emp _ _ _ _⟩
end Go.Proofs.Ytlemdaclmagcjaa
