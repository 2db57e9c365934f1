/- DrawSystem: a good matrix and a list of residues of its height. No condition. -/
import Derived.Test.YtfiganobjjjloaaLawFnNilpotent
import Derived.Test.YtfiganobjjjloaaL1SpW
import Derived.Test.YtfiganobjjjloaaUndW
import Derived.Deep.RegionHeld3
namespace Go.Proofs.Ytfiganobjjjloaa
set_option linter.unusedVariables false
set_option linter.unusedSimpArgs false
set_option maxRecDepth 20000
open Go.RowKit Go.Sort
set_option maxHeartbeats 8000000
/-- a good matrix and a list that are drawn -/
def DrawnS (w : World) (e : Ending) (w' : World) : Prop :=
  ∃ (p : Int) (R C : Nat) (d v : List Int) (A1 Av : Option Addr) (n1 k1 kv : Nat), okM p R C d = true ∧ resB v p = true ∧ R ≤ 4 ∧ C ≤ 4 ∧ e = .returned (.tuple #[.agg #[.int .i64 p, .int .i64 R, .int .i64 C, .slice A1 n1 k1], .slice Av R kv]) ∧ Hd A1 n1 k1 ∧ Hd Av R kv ∧ Below w.heap.size w w' ∧ OwI w' w.heap.size w'.heap.size A1 n1 d ∧ OwI w' w.heap.size w'.heap.size Av R v
theorem okM_mk2 {p : Int} {R C : Nat} {d : List Int} (hp : isP p = true) (hR : R ≤ 40) (hC : C ≤ 40) (hl : d.length = R * C) (hr : resB d p = true) : okM p R C d = true := by
  unfold okM
  rw [hp, hr]
  have e : (d.length : Int) = (R : Int) * (C : Int) := by rw [hl, Int.natCast_mul]
  simp [e]; omega
theorem below4' {w w' : World} {B R : Nat} (hb : Below B w w') (hR : B ≤ R) (v0 v1 v2 v3 : Value) : Below B w ((((w'.setCell ⟨R, 0, none⟩ v0).setCell ⟨R, 1, none⟩ v1).setCell ⟨R, 2, none⟩ v2).setCell ⟨R, 3, none⟩ v3) :=
  (((hb.setCell (by exact hR) _).setCell (by exact hR) _).setCell (by exact hR) _).setCell (by exact hR) _
theorem own4' {w' : World} {B0 B R n : Nat} {A : Option Addr} {d : List Int} (ho : OwI w' B0 B A n d) (hR : R < B0) (v0 v1 v2 v3 : Value) : OwI ((((w'.setCell ⟨R, 0, none⟩ v0).setCell ⟨R, 1, none⟩ v1).setCell ⟨R, 2, none⟩ v2).setCell ⟨R, 3, none⟩ v3) B0 B A n d :=
  (((ho.setLow (by exact hR) _).setLow (by exact hR) _).setLow (by exact hR) _).setLow (by exact hR) _
theorem run_fldS (x y z : Int) (A : Option Addr) (n k : Nat) (w : World) : (Instr.field 26 (.agg #[.int .i64 x, .int .i64 y, .int .i64 z, .slice A n k]) 3).run Try.prog w = .ok (.slice A n k) w := by kernel_rfl
theorem drawSystem_any {B : Nat} (A : Option Addr) (n k : Nat) (w : World) (h : RdB w B A n) (hB : B ≤ w.heap.size) : Calls Try.prog 20 #[.slice A n k] w (DrawnS w) := by
  have hz := Box.new w #[.int .i64 0, .int .i64 0, .int .i64 0, .slice none 0 0] 26
  have hr := h.below ((Below.refl _ w).alloc (Nat.le_refl _) (.cells #[.int .i64 0, .int .i64 0, .int .i64 0, .slice none 0 0] 26)) hB
  go_enter Try.func20, Try.ntmps20
  go_wp2_with fail
  refine (l1New_any A n k _ hr (by rw [World.size_alloc]; omega)).mono ?_
  rintro e w1 ⟨g, rfl, hg, hC1, hb1⟩
  rw [World.size_alloc] at hg
  have hs1 := hb1.size
  rw [World.size_alloc] at hs1
  have hz1 := hz.below hb1 (by simp)
  have hq1 : Below w.heap.size w w1 := (by repeat' (first | (with_reducible exact Below.refl _ _) | (with_reducible refine Below.setCell ?_ (by first | exact Nat.le_refl _ | omega | (simp only [World.size_alloc, World.size_setCell, World.heap_drewN]; omega) | (simp; omega)) _) | (with_reducible refine Below.alloc ?_ (by first | exact Nat.le_refl _ | omega | (simp only [World.size_alloc, World.size_setCell, World.heap_drewN]; omega) | (simp; omega)) _) | (with_reducible refine below_drewN ?_ _) | (with_reducible refine Below.drew ?_) | (with_reducible refine Below.trans ?_ (hb1.mono (by first | exact Nat.le_refl _ | omega | (simp only [World.size_alloc, World.size_setCell, World.heap_drewN]; omega) | (simp; omega))))))
  clear hz hb1 hr
  go_wp2_with fail
  refine (l12Prime_any w1 hC1).mono ?_
  rintro e w2 ⟨p, ⟨hp, hp101⟩, rfl, hC2, hG2⟩
  have HP := Lib.hid hp
  obtain ⟨hp1, hp2⟩ := isP_bd hp
  have hs2 := hG2.size
  clear hp
  go_wp2_with fail
  refine (l1Below_any 5 w2 hC2 (by omega)).mono ?_
  rintro e w3 ⟨vR, ⟨hR0, hR1, -⟩, rfl, hC3, hG3⟩
  obtain ⟨R, rfl⟩ := Int.eq_ofNat_of_zero_le hR0
  have hR : R ≤ 4 := by have := hR1 (by omega); omega
  have hs3 := hG3.size
  go_wp2_with fail
  refine (l1Below_any 5 w3 hC3 (by omega)).mono ?_
  rintro e w4 ⟨vC, ⟨hc0, hc1, -⟩, rfl, hC4, hG4⟩
  obtain ⟨C, rfl⟩ := Int.eq_ofNat_of_zero_le hc0
  have hC : C ≤ 4 := by have := hc1 (by omega); omega
  have hs4 := hG4.size
  clear hR0 hR1 hc0 hc1
  go_wp2_with fail
  refine (l12Matrix_any p R C w4 hC4 (by omega) hp2 (by omega) (by omega)).mono ?_
  rintro e w5 ⟨d5, A5, n5, k5, -, hl5, hr5, rfl, hd5, hC5, hG5, ho5⟩
  have hs5 := hG5.size
  have HOK := Lib.hid (okM_mk2 HP.out (show R ≤ 40 by omega) (show C ≤ 40 by omega) hl5 hr5)
  have HRS := Lib.hid hr5
  have HL5 := Lib.hid (show n5 = R * C by rw [← ho5.1]; exact hl5)
  clear hl5 hr5
  have hG := ((hG2.trans hG3).trans hG4).trans hG5
  have hgl := hC1.lt
  have hz5 := (hz1.chg hG (.inl (by omega))).alloc (.cells #[.int .i64 p, .int .i64 R, .int .i64 C, .slice A5 n5 k5] 26)
  have hq5 := (hq1.trans ((hG.below (by omega)).mono (by omega))).alloc (by omega) (.cells #[.int .i64 p, .int .i64 R, .int .i64 C, .slice A5 n5 k5] 26)
  have hm5 := Box.new w5 #[.int .i64 p, .int .i64 R, .int .i64 C, .slice A5 n5 k5] 26
  have hC5 := hC5.alloc (.cells #[.int .i64 p, .int .i64 R, .int .i64 C, .slice A5 n5 k5] 26)
  have ho5 := ho5.alloc (Nat.le_refl _) (.cells #[.int .i64 p, .int .i64 R, .int .i64 C, .slice A5 n5 k5] 26)
  have hsa : (w5.alloc (.cells #[.int .i64 p, .int .i64 R, .int .i64 C, .slice A5 n5 k5] 26)).heap.size = w5.heap.size + 1 := by simp
  obtain ⟨x0, x1, x2, x3⟩ := hm5.four
  clear hz1 hq1 hC1 hC2 hC3 hC4 hG2 hG3 hG4 hG5 hG
  go_wp2_with fail
  generalize w5.alloc (.cells #[.int .i64 p, .int .i64 R, .int .i64 C, .slice A5 n5 k5] 26) = W5 at *
  refine (l12List_any p W5 hC5 (by omega) hp2 (n := R) (by omega)).mono ?_
  rintro e w6 ⟨v6, A6, k6, hvl, hvr, rfl, hd6, hC6, hG6, ho6⟩
  have hs6 := hG6.size
  have hz6 := hz5.chg hG6 (.inl (by omega))
  have hm6 := hm5.chg hG6 (.inr (by omega))
  have om6 := ho5.chgHi hG6 (by omega) (by omega)
  have hq6 := hq5.trans ((hG6.below (by omega)).mono (by omega))
  have HV := Lib.hid hvr
  clear hvr x0 x1 x2 x3 hz5 hm5 ho5 hq5 hC5 hG6
  go_wp2_with fail
  refine (l1Once_any 3 w6 hC6 (by omega)).mono ?_
  rintro e w7 ⟨bb, rfl, hC7, hG7⟩
  have hs7 := hG7.size
  have hz7 := hz6.chg hG7 (.inl (by omega))
  have hm7 := hm6.chg hG7 (.inr (by omega))
  have om7 := om6.chgHi hG7 (by omega) (by omega)
  have ov7 := ho6.chgHi hG7 (by omega) (by omega)
  have hq7 := hq6.trans ((hG7.below (by omega)).mono (by omega))
  clear hz6 hm6 om6 ho6 hq6 hC6 hG7
  rcases bb with _ | _
  · obtain ⟨x0, x1, x2, x3⟩ := hm7.four
    go_wp2_with fail
    clear x0 x1 x2 x3
    have hfd := run_fldS
    go_region_held3 (fun w' => w'.cell? ⟨w5.heap.size, 0, none⟩ = some (.int .i64 p) ∧ w'.cell? ⟨w5.heap.size, 1, none⟩ = some (.int .i64 R) ∧ w'.cell? ⟨w5.heap.size, 2, none⟩ = some (.int .i64 C) ∧ w'.cell? ⟨w5.heap.size, 3, none⟩ = some (.slice A5 n5 k5)) (first | exact hm7.four | exact hm8.four | exact hm9.four | exact hm10.four | exact hm11.four)
      (first
        | (go_at_call 77; refine (l12List_any p _ (by exact hC7) (by omega) hp2 (n := C) (by omega)).mono ?_; rintro e w8 ⟨x8, A8, k8, hxl, hxr, rfl, hd8, hC8, hG8, ho8⟩; have hG8 : Chg g (g + 1) w7 w8 := ⟨hG8.os, hG8.tape, hG8.output, hG8.size, hG8.block⟩; have hs8 := hG8.size; have hm8 := hm7.chg hG8 (.inr (by omega)); have om8 := om7.chgHi hG8 (by omega) (by omega); have hxf := (by rw [← hxl]; exact colL_flat x8 : (colL x8 C).flatten = x8); have HXF := Lib.hid hxf; have HXR := Lib.hid hxr; have HXL := Lib.hid hxl; clear hxf hxr hxl)
        | (go_at_call 81; refine (l12Column_any (B := w8.heap.size) A8 C k8 x8 _ (by exact ho8.rd) (by exact Nat.le_refl _) (by omega)).mono ?_; rintro e w9 ⟨A9, n9, k9, rfl, hd9, hb9, hst9, hT9⟩; have hs9 := hb9.size; have hm9 := hm8.step hb9; have om9 := om8.below hb9 (by omega); have hn9 := (by have := hT9.len; rw [← this]; simp [colL] : n9 = C); have HN9 := Lib.hid hn9; clear hn9)
        | (go_at_call 80; refine (l1Rows_any (B := w9.heap.size) p 1 A9 n9 k9 hst9 (colL x8 C) _ (by exact hT9.rd) (by exact Nat.le_refl _) (by rw [HXF.out, HXL.out]; omega)).mono ?_; rw [HXF.out, HN9.out]; rintro e w10 ⟨A10, n10, k10, rfl, hd10, hb10, ho10⟩; have hs10 := hb10.size; have hm10 := hm9.step hb10; have om10 := om9.below hb10 (by omega); have HL10 := Lib.hid (show n10 = C * 1 by rw [← ho10.1, HXL.out, Nat.mul_one]))
        | (go_at_call 79; refine (l1Mul_any (B1 := w5.heap.size) (B2 := w10.heap.size) p p R C 1 n5 k5 n10 k10 A5 A10 d5 x8 _ (by exact om10.rd) (by omega) (by exact ho10.rd) (by exact Nat.le_refl _) (by omega) (by omega) (by omega) HL5.out HL10.out (by omega) hp2 HRS.out HXR.out).mono ?_; rintro e w11 ⟨A11, n11, k11, rfl, hd11, hb11, ho11⟩; have hs11 := hb11.size; have hm11 := hm10.step hb11))
    obtain rfl : n11 = R := by have := ho11.1; rw [mulD, tab_len, Nat.mul_one] at this; exact this.symm
    have hz11 := (((hz7.chg hG8 (.inl (by omega))).step hb9).step hb10).step hb11
    have om11 := om10.below hb11 (by omega)
    have hq11 := (((hq7.trans ((hG8.below (by omega)).mono (by omega))).trans (hb9.mono (by omega))).trans (hb10.mono (by omega))).trans (hb11.mono (by omega))
    obtain ⟨x0, x1, x2, x3⟩ := hm11.four
    obtain ⟨z0, z1, z2, z3⟩ := hz11.four
    have zf := hz11.fz
    go_wp2
    exact bodyPost_ret (v := .tuple #[.agg #[.int .i64 p, .int .i64 n11, .int .i64 C, .slice A5 n5 k5], .slice A11 n11 k11]) (by simp [results, Try.results20, go_sem, z0, z1, z2, z3]) rfl
      ⟨p, n11, C, d5, mulD n11 C 1 d5 x8 p, A5, A11, n5, k5, k11, HOK.out, resB_mulD (by omega), hR, hC, rfl, hd5, hd11, below4' hq11 (by omega) _ _ _ _, ((own4' om11 (by omega) _ _ _ _).down (by omega)).up (by simp only [World.size_setCell]; omega), ((own4' ho11 (by omega) _ _ _ _).down (by omega)).up (by simp only [World.size_setCell]; omega)⟩
  · obtain ⟨x0, x1, x2, x3⟩ := hm7.four
    obtain ⟨z0, z1, z2, z3⟩ := hz7.four
    have zf := hz7.fz
    go_wp2
    exact bodyPost_ret (v := .tuple #[.agg #[.int .i64 p, .int .i64 R, .int .i64 C, .slice A5 n5 k5], .slice A6 R k6]) (by simp [results, Try.results20, go_sem, z0, z1, z2, z3]) rfl
      ⟨p, R, C, d5, v6, A5, A6, n5, k5, k6, HOK.out, HV.out, hR, hC, rfl, hd5, hd6, below4' hq7 (by omega) _ _ _ _, ((own4' om7 (by omega) _ _ _ _).down (by omega)).up (by simp only [World.size_setCell]; omega), ((own4' ov7 (by omega) _ _ _ _).down (by omega)).up (by simp only [World.size_setCell]; omega)⟩
end Go.Proofs.Ytfiganobjjjloaa
