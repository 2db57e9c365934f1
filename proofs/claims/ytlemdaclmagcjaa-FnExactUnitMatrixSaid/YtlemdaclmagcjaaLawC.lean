/- The walk of the law on UnitMatrix. No condition. -/
import Derived.Test.YtlemdaclmagcjaaUnitW
namespace Go.Proofs.Ytlemdaclmagcjaa
open Go.RowKit
set_option maxHeartbeats 1000000 in
theorem law_UnitMatrix_gen (a1 a2 : Int) (P R C : Int) (D : List Int) (hD : D.length ≤ 1073741824) (w : World)
    (hS : Hid (∀ w, Calls Try.prog 37 #[.int .i64 a1, .int .i64 a2] w (RetM P R C D w)))
    (hI : Hid (∀ w, Calls Try.prog 38 #[.int .i64 a1, .int .i64 a2] w (RetM P R C D w))) :
    Calls Try.prog 10 #[.int .i64 a1, .int .i64 a2] w (Rv (.bool true) w) := by
  have HT : (P == P && R == R && C == C && D == D) = true := by simp
  go_enter Try.func10, Try.ntmps10
  go_wp2_with fail
  refine (hS.out _).mono ?_
  rintro e w1 ⟨A0, n0, k0, rfl, hb1, ho1⟩
  have hs1 := hb1.size
  go_wp2_with fail
  refine (hI.out _).mono ?_
  rintro e w2 ⟨A1, n1, k1, rfl, hb2, ho2⟩
  obtain ⟨hc2, hf2⟩ := bcell hb2
  clear hf2
  have hs2 := hb2.size
  have hn1 := ho2.size
  simp only [World.size_alloc] at hs2 ho2
  have hz2 : w1.heap.size < w2.heap.size := by omega
  go_wp2_with fail
  refine (eqMatrix_any P R C A1 n1 k1 D P R C A0 n0 k0 D _ (B1 := w2.heap.size) (B2 := w1.heap.size) (by exact ho2.rd.below ((by repeat' (first | (with_reducible exact Below.refl _ _) | (with_reducible refine Below.setCell ?_ (by first | exact Nat.le_refl _ | omega | (simp only [World.size_alloc, World.size_setCell, World.heap_drewN]; omega) | (simp; omega)) _) | (with_reducible refine Below.alloc ?_ (by first | exact Nat.le_refl _ | omega | (simp only [World.size_alloc, World.size_setCell, World.heap_drewN]; omega) | (simp; omega)) _) | (with_reducible refine below_drewN ?_ _) | (with_reducible refine Below.drew ?_))) : Below w2.heap.size w2 _) (by omega)) (by first | exact Nat.le_refl _ | omega | (simp; done) | (simp; omega)) (by exact ho1.rd.below ((by repeat' (first | (with_reducible exact Below.refl _ _) | (with_reducible refine Below.setCell ?_ (by first | exact Nat.le_refl _ | omega | (simp only [World.size_alloc, World.size_setCell, World.heap_drewN]; omega) | (simp; omega)) _) | (with_reducible refine Below.alloc ?_ (by first | exact Nat.le_refl _ | omega | (simp only [World.size_alloc, World.size_setCell, World.heap_drewN]; omega) | (simp; omega)) _) | (with_reducible refine below_drewN ?_ _) | (with_reducible refine Below.drew ?_) | (with_reducible refine Below.trans ?_ (hb2.mono (by first | exact Nat.le_refl _ | omega | (simp only [World.size_alloc, World.size_setCell, World.heap_drewN]; omega) | (simp; omega)))))) : Below w1.heap.size w1 _) (by omega)) (by first | exact Nat.le_refl _ | omega | (simp; done) | (simp; omega))).mono ?_
  rintro e w3 ⟨rfl, hb3⟩
  rw [HT]
  obtain ⟨hc3, hf3⟩ := bcell hb3
  clear hf3
  have hs3 := hb3.size
  simp only [World.size_alloc] at hs3
  have hz3 : w1.heap.size < w3.heap.size := by omega
  have hz3' : w2.heap.size < w3.heap.size := by omega
  go_wp2_with fail
  have ho3 := ho2.below ((by repeat' (first | (with_reducible exact Below.refl _ _) | (with_reducible refine Below.setCell ?_ (by first | exact Nat.le_refl _ | omega | (simp only [World.size_alloc, World.size_setCell, World.heap_drewN]; omega) | (simp; omega)) _) | (with_reducible refine Below.alloc ?_ (by first | exact Nat.le_refl _ | omega | (simp only [World.size_alloc, World.size_setCell, World.heap_drewN]; omega) | (simp; omega)) _) | (with_reducible refine below_drewN ?_ _) | (with_reducible refine Below.drew ?_) | (with_reducible refine Below.trans ?_ (hb3.mono (by first | exact Nat.le_refl _ | omega | (simp only [World.size_alloc, World.size_setCell, World.heap_drewN]; omega) | (simp; omega)))))) : Below w2.heap.size w2 w3) (by omega)
  refine (markMatrix_any P R C A1 n1 k1 D 1 _ (B0 := w1.heap.size + 1) (B := w2.heap.size) ho3 (by first | exact Nat.le_refl _ | omega | (simp; done) | (simp; omega)) (by omega) (by omega)).mono ?_
  rintro e w4 ⟨rfl, hb4, ho4⟩
  have hc4 := hb4.cell
  have hs4 := hb4.size
  have hx1 : w1.heap.size < w1.heap.size + 1 := by omega
  have hz4 : w1.heap.size < w4.heap.size := by omega
  have hz4' : w2.heap.size < w4.heap.size := by omega
  have hw0 : w4.cell? ⟨w1.heap.size, 0, none⟩ = w3.cell? ⟨w1.heap.size, 0, none⟩ := hc4 _ _ (.inl (by omega)) (by omega)
  have hm1 : ∀ o, w4.cell? ⟨w1.heap.size, o, none⟩ = w3.cell? ⟨w1.heap.size, o, none⟩ := fun o => hc4 _ _ (.inl (by omega)) (by omega)
  have hm2 : ∀ o, w4.cell? ⟨w2.heap.size, o, none⟩ = w3.cell? ⟨w2.heap.size, o, none⟩ := fun o => hc4 _ _ (.inr (by omega)) (by omega)
  clear hc4 hw0
  go_wp2_with fail
  refine (heldMatrix_any P R C A1 n1 k1 1 _ (B := w2.heap.size) ho4.rd (by first | exact Nat.le_refl _ | omega | (simp; done) | (simp; omega)) (by omega) (by omega)).mono ?_
  rintro e w5 ⟨rfl, hb5⟩
  obtain ⟨hc5, hf5⟩ := bcell hb5
  clear hf5
  have hs5 := hb5.size
  have hz5 : w1.heap.size < w5.heap.size := by omega
  have hz5' : w2.heap.size < w5.heap.size := by omega
  have hge : ¬ (1 + (n1 : Int)) < 0 := by omega
  go_wp2_with fail
  refine (hI.out _).mono ?_
  rintro e w6 ⟨A2, n2, k2, rfl, hb6, ho6⟩
  obtain ⟨hc6, hf6⟩ := bcell hb6
  clear hf6
  have hs6 := hb6.size
  have hz6 : w1.heap.size < w6.heap.size := by omega
  have hz6' : w2.heap.size < w6.heap.size := by omega
  go_wp2_with fail
  refine (eqMatrix_any P R C A2 n2 k2 D P R C A0 n0 k0 D _ (B1 := w6.heap.size) (B2 := w1.heap.size) (by exact ho6.rd.below ((by repeat' (first | (with_reducible exact Below.refl _ _) | (with_reducible refine Below.setCell ?_ (by first | exact Nat.le_refl _ | omega | (simp only [World.size_alloc, World.size_setCell, World.heap_drewN]; omega) | (simp; omega)) _) | (with_reducible refine Below.alloc ?_ (by first | exact Nat.le_refl _ | omega | (simp only [World.size_alloc, World.size_setCell, World.heap_drewN]; omega) | (simp; omega)) _) | (with_reducible refine below_drewN ?_ _) | (with_reducible refine Below.drew ?_))) : Below w6.heap.size w6 _) (by omega)) (by first | exact Nat.le_refl _ | omega | (simp; done) | (simp; omega)) (by exact (((ho1.rd.below ((by repeat' (first | (with_reducible exact Below.refl _ _) | (with_reducible refine Below.setCell ?_ (by first | exact Nat.le_refl _ | omega | (simp only [World.size_alloc, World.size_setCell, World.heap_drewN]; omega) | (simp; omega)) _) | (with_reducible refine Below.alloc ?_ (by first | exact Nat.le_refl _ | omega | (simp only [World.size_alloc, World.size_setCell, World.heap_drewN]; omega) | (simp; omega)) _) | (with_reducible refine below_drewN ?_ _) | (with_reducible refine Below.drew ?_) | (with_reducible refine Below.trans ?_ (hb2.mono (by first | exact Nat.le_refl _ | omega | (simp only [World.size_alloc, World.size_setCell, World.heap_drewN]; omega) | (simp; omega)))) | (with_reducible refine Below.trans ?_ (hb3.mono (by first | exact Nat.le_refl _ | omega | (simp only [World.size_alloc, World.size_setCell, World.heap_drewN]; omega) | (simp; omega)))))) : Below w1.heap.size w1 w3) (by omega)).below (hb4.below (by omega)) (by omega)).below ((by repeat' (first | (with_reducible exact Below.refl _ _) | (with_reducible refine Below.setCell ?_ (by first | exact Nat.le_refl _ | omega | (simp only [World.size_alloc, World.size_setCell, World.heap_drewN]; omega) | (simp; omega)) _) | (with_reducible refine Below.alloc ?_ (by first | exact Nat.le_refl _ | omega | (simp only [World.size_alloc, World.size_setCell, World.heap_drewN]; omega) | (simp; omega)) _) | (with_reducible refine below_drewN ?_ _) | (with_reducible refine Below.drew ?_) | (with_reducible refine Below.trans ?_ (hb5.mono (by first | exact Nat.le_refl _ | omega | (simp only [World.size_alloc, World.size_setCell, World.heap_drewN]; omega) | (simp; omega)))) | (with_reducible refine Below.trans ?_ (hb6.mono (by first | exact Nat.le_refl _ | omega | (simp only [World.size_alloc, World.size_setCell, World.heap_drewN]; omega) | (simp; omega)))))) : Below w1.heap.size w4 _) (by omega))) (by first | exact Nat.le_refl _ | omega | (simp; done) | (simp; omega))).mono ?_
  rintro e w7 ⟨rfl, hb7⟩
  rw [HT]
  obtain ⟨hc7, hf7⟩ := bcell hb7
  clear hf7
  have hs7 := hb7.size
  simp only [World.size_alloc] at hs7
  have hz7 : w1.heap.size < w7.heap.size := by omega
  have hz7' : w2.heap.size < w7.heap.size := by omega
  have hz7'' : w6.heap.size < w7.heap.size := by omega
  have hy1 : w1.heap.size < w6.heap.size + 1 := by omega
  have hy2 : w2.heap.size < w6.heap.size + 1 := by omega
  go_wp2_with fail
  refine (heldMatrix_any P R C A1 n1 k1 1 _ (B := w2.heap.size) (by exact ho4.rd.below ((by repeat' (first | (with_reducible exact Below.refl _ _) | (with_reducible refine Below.setCell ?_ (by first | exact Nat.le_refl _ | omega | (simp only [World.size_alloc, World.size_setCell, World.heap_drewN]; omega) | (simp; omega)) _) | (with_reducible refine Below.alloc ?_ (by first | exact Nat.le_refl _ | omega | (simp only [World.size_alloc, World.size_setCell, World.heap_drewN]; omega) | (simp; omega)) _) | (with_reducible refine below_drewN ?_ _) | (with_reducible refine Below.drew ?_) | (with_reducible refine Below.trans ?_ (hb5.mono (by first | exact Nat.le_refl _ | omega | (simp only [World.size_alloc, World.size_setCell, World.heap_drewN]; omega) | (simp; omega)))) | (with_reducible refine Below.trans ?_ (hb6.mono (by first | exact Nat.le_refl _ | omega | (simp only [World.size_alloc, World.size_setCell, World.heap_drewN]; omega) | (simp; omega)))) | (with_reducible refine Below.trans ?_ (hb7.mono (by first | exact Nat.le_refl _ | omega | (simp only [World.size_alloc, World.size_setCell, World.heap_drewN]; omega) | (simp; omega)))))) : Below w2.heap.size w4 _) (by omega)) (by first | exact Nat.le_refl _ | omega | (simp; done) | (simp; omega)) (by omega) (by omega)).mono ?_
  rintro e w8 ⟨rfl, hb8⟩
  go_wp2
  go_ret
  exact ⟨rfl, ((((by repeat' (first | (with_reducible exact Below.refl _ _) | (with_reducible refine Below.setCell ?_ (by first | exact Nat.le_refl _ | omega | (simp only [World.size_alloc, World.size_setCell, World.heap_drewN]; omega) | (simp; omega)) _) | (with_reducible refine Below.alloc ?_ (by first | exact Nat.le_refl _ | omega | (simp only [World.size_alloc, World.size_setCell, World.heap_drewN]; omega) | (simp; omega)) _) | (with_reducible refine below_drewN ?_ _) | (with_reducible refine Below.drew ?_) | (with_reducible refine Below.trans ?_ (hb1.mono (by first | exact Nat.le_refl _ | omega | (simp only [World.size_alloc, World.size_setCell, World.heap_drewN]; omega) | (simp; omega)))) | (with_reducible refine Below.trans ?_ (hb2.mono (by first | exact Nat.le_refl _ | omega | (simp only [World.size_alloc, World.size_setCell, World.heap_drewN]; omega) | (simp; omega)))) | (with_reducible refine Below.trans ?_ (hb3.mono (by first | exact Nat.le_refl _ | omega | (simp only [World.size_alloc, World.size_setCell, World.heap_drewN]; omega) | (simp; omega)))))) : Below w.heap.size w w3)).trans ((hb4.below (by omega)).mono (by omega))).trans ((by repeat' (first | (with_reducible exact Below.refl _ _) | (with_reducible refine Below.setCell ?_ (by first | exact Nat.le_refl _ | omega | (simp only [World.size_alloc, World.size_setCell, World.heap_drewN]; omega) | (simp; omega)) _) | (with_reducible refine Below.alloc ?_ (by first | exact Nat.le_refl _ | omega | (simp only [World.size_alloc, World.size_setCell, World.heap_drewN]; omega) | (simp; omega)) _) | (with_reducible refine below_drewN ?_ _) | (with_reducible refine Below.drew ?_) | (with_reducible refine Below.trans ?_ (hb5.mono (by first | exact Nat.le_refl _ | omega | (simp only [World.size_alloc, World.size_setCell, World.heap_drewN]; omega) | (simp; omega)))) | (with_reducible refine Below.trans ?_ (hb6.mono (by first | exact Nat.le_refl _ | omega | (simp only [World.size_alloc, World.size_setCell, World.heap_drewN]; omega) | (simp; omega)))) | (with_reducible refine Below.trans ?_ (hb7.mono (by first | exact Nat.le_refl _ | omega | (simp only [World.size_alloc, World.size_setCell, World.heap_drewN]; omega) | (simp; omega)))) | (with_reducible refine Below.trans ?_ (hb8.mono (by first | exact Nat.le_refl _ | omega | (simp only [World.size_alloc, World.size_setCell, World.heap_drewN]; omega) | (simp; omega)))))) : Below w.heap.size w4 w8)⟩
theorem walk_FnExactUnitMatrix (a1 : Int) (w1 : (Lit.int .i64 a1).wf = true) (a2 : Int) (w2 : (Lit.int .i64 a2).wf = true) (w : World) :
    Calls Try.prog 10 #[.int .i64 a1, .int .i64 a2] w fun e w' => e = .returned (.bool true) ∧ Below w.heap.size w w' := by
  by_cases h : okZ a1 a2 a2
  · obtain ⟨n, rfl⟩ := Int.eq_ofNat_of_zero_le h.2.1.1
    refine law_UnitMatrix_gen a1 n a1 n n _ ?_ w (Lib.hid fun w => sUnit_ok _ _ w h) (Lib.hid fun w => iUnit_ok _ _ w h)
    rw [unitD_len]
    have := h.2.1.2
    have : n * n ≤ 40 * 40 := Nat.mul_le_mul (by omega) (by omega)
    omega
  · exact law_UnitMatrix_gen a1 a2 0 0 0 [] (by simp) w (Lib.hid fun w => sUnit_bad _ _ w h) (Lib.hid fun w => iUnit_bad _ _ w h)
end Go.Proofs.Ytlemdaclmagcjaa
