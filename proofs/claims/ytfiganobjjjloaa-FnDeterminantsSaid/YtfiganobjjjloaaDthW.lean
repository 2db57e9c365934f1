/- DrawThree: three good square matrices of one prime. No condition. -/
import Derived.Test.YtfiganobjjjloaaLawFnNilpotent
import Derived.Test.YtfiganobjjjloaaLwsW
namespace Go.Proofs.Ytfiganobjjjloaa
set_option linter.unusedVariables false
set_option linter.unusedSimpArgs false
set_option maxRecDepth 20000
open Go.RowKit Go.Sort
set_option maxHeartbeats 8000000
theorem below4 {w w' : World} {B R : Nat} (hb : Below B w w') (hR : B ≤ R) (v0 v1 v2 v3 : Value) : Below B w ((((w'.setCell ⟨R, 0, none⟩ v0).setCell ⟨R, 1, none⟩ v1).setCell ⟨R, 2, none⟩ v2).setCell ⟨R, 3, none⟩ v3) :=
  (((hb.setCell (by exact hR) _).setCell (by exact hR) _).setCell (by exact hR) _).setCell (by exact hR) _
theorem own4 {w' : World} {B0 B R n : Nat} {A : Option Addr} {d : List Int} (ho : OwI w' B0 B A n d) (hR : R < B0) (v0 v1 v2 v3 : Value) : OwI ((((w'.setCell ⟨R, 0, none⟩ v0).setCell ⟨R, 1, none⟩ v1).setCell ⟨R, 2, none⟩ v2).setCell ⟨R, 3, none⟩ v3) B0 B A n d :=
  (((ho.setLow (by exact hR) _).setLow (by exact hR) _).setLow (by exact hR) _).setLow (by exact hR) _
/-- three good square matrices that are drawn -/
def DrawnT (w : World) (e : Ending) (w' : World) : Prop :=
  ∃ (p : Int) (N : Nat) (da db : List Int) (A1 A2 : Option Addr) (n1 k1 n2 k2 : Nat) (A3 : Option Addr) (n3 k3 : Nat), okM p N N da = true ∧ okM p N N db = true ∧ N ≤ 4 ∧ e = .returned (.tuple #[.agg #[.int .i64 p, .int .i64 N, .int .i64 N, .slice A1 n1 k1], .agg #[.int .i64 p, .int .i64 N, .int .i64 N, .slice A2 n2 k2], .agg #[.int .i64 p, .int .i64 N, .int .i64 N, .slice A3 n3 k3]]) ∧ Hd A1 n1 k1 ∧ Hd A2 n2 k2 ∧ Below w.heap.size w w' ∧ OwI w' w.heap.size w'.heap.size A1 n1 da ∧ OwI w' w.heap.size w'.heap.size A2 n2 db
theorem drawThree_any {B : Nat} (A : Option Addr) (n k : Nat) (w : World) (h : RdB w B A n) (hB : B ≤ w.heap.size) : Calls Try.prog 33 #[.slice A n k] w (DrawnT w) := by
  have hx := ((Box.new w #[.int .i64 0, .int .i64 0, .int .i64 0, .slice none 0 0] 26).alloc (.cells #[.int .i64 0, .int .i64 0, .int .i64 0, .slice none 0 0] 26)).alloc (.cells #[.int .i64 0, .int .i64 0, .int .i64 0, .slice none 0 0] 26)
  have hy := (Box.new (w.alloc (.cells #[.int .i64 0, .int .i64 0, .int .i64 0, .slice none 0 0] 26)) #[.int .i64 0, .int .i64 0, .int .i64 0, .slice none 0 0] 26).alloc (.cells #[.int .i64 0, .int .i64 0, .int .i64 0, .slice none 0 0] 26)
  have hz := Box.new ((w.alloc (.cells #[.int .i64 0, .int .i64 0, .int .i64 0, .slice none 0 0] 26)).alloc (.cells #[.int .i64 0, .int .i64 0, .int .i64 0, .slice none 0 0] 26)) #[.int .i64 0, .int .i64 0, .int .i64 0, .slice none 0 0] 26
  have hr := h.below ((((Below.refl _ w).alloc (Nat.le_refl _) (.cells #[.int .i64 0, .int .i64 0, .int .i64 0, .slice none 0 0] 26)).alloc (by simp) (.cells #[.int .i64 0, .int .i64 0, .int .i64 0, .slice none 0 0] 26)).alloc (by simp; omega) (.cells #[.int .i64 0, .int .i64 0, .int .i64 0, .slice none 0 0] 26)) hB
  simp only [World.size_alloc] at hy hz
  go_enter Try.func33, Try.ntmps33
  go_wp2_with fail
  refine (l1New_any A n k _ hr (by simp only [World.size_alloc]; omega)).mono ?_
  rintro e w1 ⟨g, rfl, hg, hC1, hb1⟩
  simp only [World.size_alloc] at hg
  have hs1 := hb1.size
  simp only [World.size_alloc] at hs1
  have hx1 := hx.below hb1 (by simp only [World.size_alloc]; omega)
  have hy1 := hy.below hb1 (by simp only [World.size_alloc]; omega)
  have hz1 := hz.below hb1 (by simp only [World.size_alloc]; omega)
  have hq1 : Below w.heap.size w w1 := (by repeat' (first | (with_reducible exact Below.refl _ _) | (with_reducible refine Below.setCell ?_ (by first | exact Nat.le_refl _ | omega | (simp only [World.size_alloc, World.size_setCell, World.heap_drewN]; omega) | (simp; omega)) _) | (with_reducible refine Below.alloc ?_ (by first | exact Nat.le_refl _ | omega | (simp only [World.size_alloc, World.size_setCell, World.heap_drewN]; omega) | (simp; omega)) _) | (with_reducible refine below_drewN ?_ _) | (with_reducible refine Below.drew ?_) | (with_reducible refine Below.trans ?_ (hb1.mono (by first | exact Nat.le_refl _ | omega | (simp only [World.size_alloc, World.size_setCell, World.heap_drewN]; omega) | (simp; omega))))))
  clear hx hy hz hb1 hr
  go_wp2_with fail
  refine (l12Prime_any w1 hC1).mono ?_
  rintro e w2 ⟨p, ⟨hp, hp101⟩, rfl, hC2, hG2⟩
  have HP := Lib.hid hp
  obtain ⟨hp1, hp2⟩ := isP_bd hp
  have hs2 := hG2.size
  have hx2 := hx1.chg hG2 (.inl (by omega))
  have hy2 := hy1.chg hG2 (.inl (by omega))
  have hz2 := hz1.chg hG2 (.inl (by omega))
  have hq2 := hq1.trans ((hG2.below (by have := hC1.lt; omega)).mono (by omega))
  clear hp hx1 hy1 hz1 hC1
  go_wp2_with fail
  refine (l1Below_any 5 w2 hC2 (by omega)).mono ?_
  rintro e w3 ⟨vN, ⟨hN0, hN1, -⟩, rfl, hC3, hG3⟩
  obtain ⟨N, rfl⟩ := Int.eq_ofNat_of_zero_le hN0
  have hN : N ≤ 4 := by have := hN1 (by omega); omega
  have hs3 := hG3.size
  have hx3 := hx2.chg hG3 (.inl (by omega))
  have hy3 := hy2.chg hG3 (.inl (by omega))
  have hz3 := hz2.chg hG3 (.inl (by omega))
  have hq3 := hq2.trans ((hG3.below (by have := hC2.lt; omega)).mono (by omega))
  have hgl := hC3.lt
  clear hN0 hN1 hx2 hy2 hz2 hC2 hq1 hq2 hG2 hG3
  go_wp2_with fail
  refine (l12Matrix_any p N N w3 hC3 (by omega) hp2 (by omega) (by omega)).mono ?_
  rintro e w5 ⟨d5, A5, n5, k5, -, hl5, hr5, rfl, hd5, hC5, hG5, ho5⟩
  have hs5 := hG5.size
  have HOK5 := Lib.hid (okM_mk HP.out hN hl5 hr5)
  clear hl5 hr5
  go_wp2_with fail
  refine (l12Matrix_any p N N w5 hC5 (by omega) hp2 (by omega) (by omega)).mono ?_
  rintro e w6 ⟨d6, A6, n6, k6, -, hl6, hr6, rfl, hd6, hC6, hG6, ho6⟩
  have hs6 := hG6.size
  have HOK6 := Lib.hid (okM_mk HP.out hN hl6 hr6)
  clear hl6 hr6
  go_wp2_with fail
  refine (l12Matrix_any p N N w6 hC6 (by omega) hp2 (by omega) (by omega)).mono ?_
  rintro e w7 ⟨d7, A7, n7, k7, -, hl7, hr7, rfl, hd7, hC7, hG7, ho7⟩
  have hs7 := hG7.size
  clear hl7 hr7
  have hG := (hG5.trans hG6).trans hG7
  have hx7 := hx3.chg hG (.inl (by omega))
  have hy7 := hy3.chg hG (.inl (by omega))
  have hz7 := hz3.chg hG (.inl (by omega))
  have hq7 := hq3.trans ((hG.below (by omega)).mono (by omega))
  have hm6 := ho6.chgHi hG7 (by omega) (by omega)
  have hm5 := ho5.chgHi (hG6.trans hG7) (by omega) (by omega)
  clear hx3 hy3 hz3 hq3 hG5 hG6 hG7 hG ho5 ho6 ho7
  obtain ⟨x0, x1, x2, x3⟩ := hx7.four
  obtain ⟨y0, y1, y2, y3⟩ := hy7.four
  obtain ⟨z0, z1, z2, z3⟩ := hz7.four
  have xf := hx7.fz
  have yf := hy7.fz
  have zf := hz7.fz
  go_wp2
  exact bodyPost_ret (v := .tuple #[.agg #[.int .i64 p, .int .i64 N, .int .i64 N, .slice A5 n5 k5], .agg #[.int .i64 p, .int .i64 N, .int .i64 N, .slice A6 n6 k6], .agg #[.int .i64 p, .int .i64 N, .int .i64 N, .slice A7 n7 k7]]) (by simp [results, Try.results33, go_sem, x0, x1, x2, x3, y0, y1, y2, y3, z0, z1, z2, z3]) rfl
    ⟨p, N, d5, d6, A5, A6, n5, k5, n6, k6, A7, n7, k7, HOK5.out, HOK6.out, hN, rfl, hd5, hd6, below4 (below4 (below4 hq7 (by omega) _ _ _ _) (by omega) _ _ _ _) (by omega) _ _ _ _,
      ((own4 (own4 (own4 hm5 (by omega) _ _ _ _) (by omega) _ _ _ _) (by omega) _ _ _ _).down (by omega)).up (by simp only [World.size_setCell]; omega),
      ((own4 (own4 (own4 hm6 (by omega) _ _ _ _) (by omega) _ _ _ _) (by omega) _ _ _ _).down (by omega)).up (by simp only [World.size_setCell]; omega)⟩
end Go.Proofs.Ytfiganobjjjloaa
