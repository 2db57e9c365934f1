/- DrawSpaces: two spaces of one place and a vector. No condition. -/
import Derived.Test.YtfiganobjjjloaaDsyW
import Derived.Test.YtfiganobjjjloaaSps
import Derived.Deep.RegionHeld3
namespace Go.Proofs.Ytfiganobjjjloaa
set_option linter.unusedVariables false
set_option linter.unusedSimpArgs false
set_option maxRecDepth 20000
open Go.RowKit Go.Sort
set_option maxHeartbeats 8000000
/-- two spaces and a vector that are drawn -/
def DrawnP (w : World) (e : Ending) (w' : World) : Prop :=
  ∃ (p : Int) (R1 R2 C : Nat) (d1 d2 v : List Int) (A1 A2 Av : Option Addr) (n1 k1 n2 k2 kv : Nat), spB p R1 C d1 = true ∧ spB p R2 C d2 = true ∧ resB v p = true ∧ C ≤ 5 ∧ e = .returned (.tuple #[.agg #[.int .i64 p, .int .i64 R1, .int .i64 C, .slice A1 n1 k1], .agg #[.int .i64 p, .int .i64 R2, .int .i64 C, .slice A2 n2 k2], .slice Av C kv]) ∧ Hd A1 n1 k1 ∧ Hd A2 n2 k2 ∧ Hd Av C kv ∧ Below w.heap.size w w' ∧ OwI w' w.heap.size w'.heap.size A1 n1 d1 ∧ OwI w' w.heap.size w'.heap.size A2 n2 d2 ∧ OwI w' w.heap.size w'.heap.size Av C v
theorem OwI.dr1 {w : World} {B0 B n : Nat} {A : Option Addr} {xs : List Int} (h : OwI w B0 B A n xs) : OwI w.drew B0 B A n xs := h
theorem sp_rrI {p : Int} (hp : isP p = true) {R C : Nat} {f : Tb} (hf : ResF f p) (hC : C ≤ 40) : spB p (rr R p f C).rk C (tab (rr R p f C).rk C (rr R p f C).f) = true := by
  have hb := isP_bd hp
  obtain ⟨n, rfl⟩ := Int.eq_ofNat_of_zero_le (show 0 ≤ p by omega)
  haveI : NeZero n := ⟨by omega⟩
  exact sp_rr hp hf hC
set_option maxRecDepth 100000 in
theorem drawSpaces_any {B : Nat} (A : Option Addr) (n k : Nat) (w : World) (h : RdB w B A n) (hB : B ≤ w.heap.size) : Calls Try.prog 37 #[.slice A n k] w (DrawnP w) := by
  have hz := (Box.new w #[.int .i64 0, .int .i64 0, .int .i64 0, .slice none 0 0] 26).alloc (.cells #[.int .i64 0, .int .i64 0, .int .i64 0, .slice none 0 0] 26)
  have hy := Box.new (w.alloc (.cells #[.int .i64 0, .int .i64 0, .int .i64 0, .slice none 0 0] 26)) #[.int .i64 0, .int .i64 0, .int .i64 0, .slice none 0 0] 26
  have hr := h.below (((Below.refl _ w).alloc (Nat.le_refl _) (.cells #[.int .i64 0, .int .i64 0, .int .i64 0, .slice none 0 0] 26)).alloc (by simp) (.cells #[.int .i64 0, .int .i64 0, .int .i64 0, .slice none 0 0] 26)) hB
  simp only [World.size_alloc] at hy
  go_enter Try.func37, Try.ntmps37
  go_wp2_with fail
  refine (l1New_any A n k _ hr (by simp only [World.size_alloc]; omega)).mono ?_
  rintro e w1 ⟨g, rfl, hg, hC1, hb1⟩
  simp only [World.size_alloc] at hg
  have hs1 := hb1.size
  simp only [World.size_alloc] at hs1
  have hz1 := hz.below hb1 (by simp; omega)
  have hy1 := hy.below hb1 (by simp)
  have hq1 : Below w.heap.size w w1 := (by repeat' (first | (with_reducible exact Below.refl _ _) | (with_reducible refine Below.setCell ?_ (by first | exact Nat.le_refl _ | omega | (simp only [World.size_alloc, World.size_setCell, World.heap_drewN]; omega) | (simp; omega)) _) | (with_reducible refine Below.alloc ?_ (by first | exact Nat.le_refl _ | omega | (simp only [World.size_alloc, World.size_setCell, World.heap_drewN]; omega) | (simp; omega)) _) | (with_reducible refine below_drewN ?_ _) | (with_reducible refine Below.drew ?_) | (with_reducible refine Below.trans ?_ (hb1.mono (by first | exact Nat.le_refl _ | omega | (simp only [World.size_alloc, World.size_setCell, World.heap_drewN]; omega) | (simp; omega))))))
  clear hz hy hb1 hr
  go_wp2_with fail
  refine (l12Prime_any w1 hC1).mono ?_
  rintro e w2 ⟨p, ⟨hp, hp101⟩, rfl, hC2, hG2⟩
  have HP := Lib.hid hp
  obtain ⟨hp1, hp2⟩ := isP_bd hp
  have hs2 := hG2.size
  clear hp
  go_wp2_with fail
  refine (l1Below_any 5 w2 hC2 (by omega)).mono ?_
  rintro e w3 ⟨vC, ⟨hc0, hc1, -⟩, rfl, hC3, hG3⟩
  have hs3 := hG3.size
  have hvC := hc1 (by omega)
  obtain ⟨C, hC⟩ : ∃ C : Nat, (C : Int) = 1 + vC := ⟨(1 + vC).toNat, by omega⟩
  have hC5 : C ≤ 5 := by omega
  have hCw : (1 : Int) + vC = (C : Int) := hC.symm
  have hCw2 : vC + (1 : Int) = (C : Int) := by omega
  clear hC hc0 hc1
  go_wp2_with fail
  clear hCw hCw2
  have hgl := hC1.lt
  have hG23 := hG2.trans hG3
  have hz := hz1.chg hG23 (.inl (by omega))
  have hy := hy1.chg hG23 (.inl (by omega))
  have hq := hq1.trans ((hG23.below (by omega)).mono (by omega))
  have hCu := hC3
  clear hz1 hy1 hq1 hC1 hC2 hC3 hG2 hG3 hG23
  go_wp2_with fail
  refine (l1Below_any 5 w3 hCu (by omega)).mono ?_
  rintro e w4a ⟨vR, ⟨hR0, hR1', -⟩, rfl, hCu4a, hG4a⟩
  obtain ⟨Q4, rfl⟩ := Int.eq_ofNat_of_zero_le hR0
  have hQ4 : Q4 ≤ 4 := by have := hR1' (by omega); omega
  have hs4a := hG4a.size
  clear hR0 hR1'
  go_wp2_with fail
  refine (l12Matrix_any p Q4 C w4a hCu4a (by omega) hp2 (by omega) (by omega)).mono ?_
  rintro e w4b ⟨e4, A4b, n4b, k4b, -, hl4b, hr4b, rfl, hd4b, hCu4b, hG4b, ho4b⟩
  have hs4b := hG4b.size
  have HL4b := Lib.hid (show n4b = Q4 * C by rw [← ho4b.1]; exact hl4b)
  have hn4b : n4b ≤ 20 := by rw [HL4b.out]; exact Nat.mul_le_mul hQ4 hC5
  obtain ⟨R1, hR1⟩ : ∃ x, x = (rr Q4 p (matF e4 C) C).rk := ⟨_, rfl⟩
  obtain ⟨D1, hD1⟩ : ∃ x, x = tab (rr Q4 p (matF e4 C) C).rk C (rr Q4 p (matF e4 C) C).f := ⟨_, rfl⟩
  have HSP4 := Lib.hid (show spB p R1 C D1 = true by rw [hR1, hD1]; exact sp_rrI HP.out (matF_res (by omega) hr4b) (by omega))
  have hR1C : R1 ≤ C := by rw [hR1]; exact rk_leC _ _ _ _
  have HR1 := Lib.hid hR1
  have HD1 := Lib.hid hD1
  have HR4b := Lib.hid hr4b
  clear hR1 hD1 hl4b hr4b
  go_wp2_with fail
  refine (l1Span_any (B := w4b.heap.size) p Q4 C n4b k4b A4b e4 w4b ho4b.rd hd4b (Nat.le_refl _) HL4b.out (by omega) (by omega) (by omega) HP.out HR4b.out).mono ?_
  rw [← HD1.out, ← HR1.out]
  rintro e w4c ⟨A4, n4, k4, rfl, hd4, hb4, ho4⟩
  have hs4c := hb4.size
  have hG4 := (hG4a.trans hG4b).plus hb4
  have hCu := (hCu4b.plus hb4).alloc (.cells #[.int .i64 p, .int .i64 R1, .int .i64 C, .slice A4 n4 k4] 26)
  have hq := (hq.trans ((hG4.below (by omega)).mono (by omega))).alloc (by omega) (.cells #[.int .i64 p, .int .i64 R1, .int .i64 C, .slice A4 n4 k4] 26)
  have hz := (hz.chg hG4 (.inl (by omega))).alloc (.cells #[.int .i64 p, .int .i64 R1, .int .i64 C, .slice A4 n4 k4] 26)
  have hy := (hy.chg hG4 (.inl (by omega))).alloc (.cells #[.int .i64 p, .int .i64 R1, .int .i64 C, .slice A4 n4 k4] 26)
  have hx4 := Box.new w4c #[.int .i64 p, .int .i64 R1, .int .i64 C, .slice A4 n4 k4] 26
  have ho4 := ho4.alloc (Nat.le_refl _) (.cells #[.int .i64 p, .int .i64 R1, .int .i64 C, .slice A4 n4 k4] 26)
  have hs4d : (w4c.alloc (.cells #[.int .i64 p, .int .i64 R1, .int .i64 C, .slice A4 n4 k4] 26)).heap.size = w4c.heap.size + 1 := by simp
  clear hG4a hG4b hb4 hCu4a hCu4b ho4b hG4
  go_wp2_with fail
  generalize w4c.alloc (.cells #[.int .i64 p, .int .i64 R1, .int .i64 C, .slice A4 n4 k4] 26) = W4 at *
  go_wp2_with fail
  refine (l1Below_any 5 W4 hCu (by omega)).mono ?_
  rintro e w5a ⟨vR, ⟨hR0, hR1', -⟩, rfl, hCu5a, hG5a⟩
  obtain ⟨Q5, rfl⟩ := Int.eq_ofNat_of_zero_le hR0
  have hQ5 : Q5 ≤ 4 := by have := hR1' (by omega); omega
  have hs5a := hG5a.size
  clear hR0 hR1'
  go_wp2_with fail
  refine (l12Matrix_any p Q5 C w5a hCu5a (by omega) hp2 (by omega) (by omega)).mono ?_
  rintro e w5b ⟨e5, A5b, n5b, k5b, -, hl5b, hr5b, rfl, hd5b, hCu5b, hG5b, ho5b⟩
  have hs5b := hG5b.size
  have HL5b := Lib.hid (show n5b = Q5 * C by rw [← ho5b.1]; exact hl5b)
  have hn5b : n5b ≤ 20 := by rw [HL5b.out]; exact Nat.mul_le_mul hQ5 hC5
  obtain ⟨R2, hR2⟩ : ∃ x, x = (rr Q5 p (matF e5 C) C).rk := ⟨_, rfl⟩
  obtain ⟨D2, hD2⟩ : ∃ x, x = tab (rr Q5 p (matF e5 C) C).rk C (rr Q5 p (matF e5 C) C).f := ⟨_, rfl⟩
  have HSP5 := Lib.hid (show spB p R2 C D2 = true by rw [hR2, hD2]; exact sp_rrI HP.out (matF_res (by omega) hr5b) (by omega))
  have hR2C : R2 ≤ C := by rw [hR2]; exact rk_leC _ _ _ _
  have HR2 := Lib.hid hR2
  have HD2 := Lib.hid hD2
  have HR5b := Lib.hid hr5b
  clear hR2 hD2 hl5b hr5b
  go_wp2_with fail
  refine (l1Span_any (B := w5b.heap.size) p Q5 C n5b k5b A5b e5 w5b ho5b.rd hd5b (Nat.le_refl _) HL5b.out (by omega) (by omega) (by omega) HP.out HR5b.out).mono ?_
  rw [← HD2.out, ← HR2.out]
  rintro e w5c ⟨A5, n5, k5, rfl, hd5, hb5, ho5⟩
  have hs5c := hb5.size
  have hG5 := (hG5a.trans hG5b).plus hb5
  have hCu := (hCu5b.plus hb5).alloc (.cells #[.int .i64 p, .int .i64 R2, .int .i64 C, .slice A5 n5 k5] 26)
  have hq := (hq.trans ((hG5.below (by omega)).mono (by omega))).alloc (by omega) (.cells #[.int .i64 p, .int .i64 R2, .int .i64 C, .slice A5 n5 k5] 26)
  have hz := (hz.chg hG5 (.inl (by omega))).alloc (.cells #[.int .i64 p, .int .i64 R2, .int .i64 C, .slice A5 n5 k5] 26)
  have hy := (hy.chg hG5 (.inl (by omega))).alloc (.cells #[.int .i64 p, .int .i64 R2, .int .i64 C, .slice A5 n5 k5] 26)
  have hx4 := (hx4.chg hG5 (.inr (by omega))).alloc (.cells #[.int .i64 p, .int .i64 R2, .int .i64 C, .slice A5 n5 k5] 26)
  have ho4 := (ho4.chgHi hG5 (by omega) (by omega)).alloc (by omega) (.cells #[.int .i64 p, .int .i64 R2, .int .i64 C, .slice A5 n5 k5] 26)
  have hx5 := Box.new w5c #[.int .i64 p, .int .i64 R2, .int .i64 C, .slice A5 n5 k5] 26
  have ho5 := ho5.alloc (Nat.le_refl _) (.cells #[.int .i64 p, .int .i64 R2, .int .i64 C, .slice A5 n5 k5] 26)
  have hs5d : (w5c.alloc (.cells #[.int .i64 p, .int .i64 R2, .int .i64 C, .slice A5 n5 k5] 26)).heap.size = w5c.heap.size + 1 := by simp
  clear hG5a hG5b hb5 hCu5a hCu5b ho5b hG5
  go_wp2_with fail
  generalize w5c.alloc (.cells #[.int .i64 p, .int .i64 R2, .int .i64 C, .slice A5 n5 k5] 26) = W5 at *
  refine (l1Once_any 4 W5 hCu (by omega)).mono ?_
  rintro e w6 ⟨bb, rfl, hCu6, hG6⟩
  have hs6 := hG6.size
  have hz := hz.chg hG6 (.inl (by omega))
  have hy := hy.chg hG6 (.inl (by omega))
  have hx4 := hx4.chg hG6 (.inr (by omega))
  have hx5 := hx5.chg hG6 (.inr (by omega))
  have ho4 := ho4.chgHi hG6 (by omega) (by omega)
  have ho5 := ho5.chgHi hG6 (by omega) (by omega)
  have hq := hq.trans ((hG6.below (by omega)).mono (by omega))
  have hCu := hCu6
  clear hCu6 hG6
  rcases bb with _ | _
  · obtain ⟨R3, D3, A3, n3, k3, lo5, hi5, hx3, ho3, HSP3, hd3, hlo5, hlo6, hhi5⟩ : ∃ (R3 : Nat) (D3 : List Int) (A3 : Option Addr) (n3 k3 lo5 hi5 : Nat), Box w6 w5c.heap.size #[.int .i64 p, .int .i64 R3, .int .i64 C, .slice A3 n3 k3] ∧ OwI w6 lo5 hi5 A3 n3 D3 ∧ Hid (spB p R3 C D3 = true) ∧ Hd A3 n3 k3 ∧ g < lo5 ∧ w.heap.size + 1 < lo5 ∧ hi5 ≤ w6.heap.size := ⟨R2, D2, A5, n5, k5, _, _, hx5, ho5, HSP5, hd5, by omega, by omega, by omega⟩
    have h4lo : g < w4b.heap.size := by omega
    have h4hi : w4c.heap.size ≤ w6.heap.size := by omega
    clear hx5 ho5
    go_wp2_with fail
    generalize w6 = w7 at *
    obtain ⟨-, -, -, hll1, hrr1, -, -⟩ := space_ok HSP4.out
    have HA4 := Lib.hid (show n4 = R1 * C by rw [← ho4.1]; exact hll1)
    have HR4 := Lib.hid hrr1
    clear hll1 hrr1
    refine (l12List_any p w7 hCu (by omega) hp2 (n := C) (by omega)).mono ?_
    rintro e w8 ⟨v8, A8, k8, hvl, hvr, rfl, hd8, hCu8, hG8, ho8⟩
    have hs8 := hG8.size
    have hz := hz.chg hG8 (.inl (by omega))
    have hy := hy.chg hG8 (.inl (by omega))
    have hx4 := hx4.chg hG8 (.inr (by omega))
    have hx3 := hx3.chg hG8 (.inr (by omega))
    have ho4 := ho4.chgHi hG8 (by omega) (by omega)
    have ho3 := ho3.chgHi hG8 (by omega) (by omega)
    have hq := hq.trans ((hG8.below (by omega)).mono (by omega))
    have HV := Lib.hid hvr
    clear hvr hG8 hCu
    go_wp2_with fail
    refine (l1Once_any 3 w8 hCu8 (by omega)).mono ?_
    rintro e w9 ⟨cc, rfl, hCu9, hG9⟩
    have hs9 := hG9.size
    have hz := hz.chg hG9 (.inl (by omega))
    have hy := hy.chg hG9 (.inl (by omega))
    have hx4 := hx4.chg hG9 (.inr (by omega))
    have hx3 := hx3.chg hG9 (.inr (by omega))
    have ho4 := ho4.chgHi hG9 (by omega) (by omega)
    have ho3 := ho3.chgHi hG9 (by omega) (by omega)
    have hov := ho8.chgHi hG9 (by omega) (by omega)
    have hq := hq.trans ((hG9.below (by omega)).mono (by omega))
    clear hG9 hCu8 ho8
    rcases cc with _ | _
    · obtain ⟨x0, x1, x2, x3⟩ := hx4.four
      go_wp2_with fail
      clear x0 x1 x2 x3
      have hfd := run_fldS
      go_region_held3 (fun w' => w'.cell? ⟨w4c.heap.size, 0, none⟩ = some (.int .i64 p) ∧ w'.cell? ⟨w4c.heap.size, 1, none⟩ = some (.int .i64 R1) ∧ w'.cell? ⟨w4c.heap.size, 2, none⟩ = some (.int .i64 C) ∧ w'.cell? ⟨w4c.heap.size, 3, none⟩ = some (.slice A4 n4 k4)) (first | exact hx4.four | exact hm10.four | exact hm11.four)
        (first
          | (go_at_call 75; refine (l12Matrix_any p 1 R1 _ (by exact hCu9) (by omega) hp2 (by omega) (by omega)).mono ?_; rintro e w10 ⟨x10, A10, n10, k10, -, hxl, hxr, rfl, hd10, hC10, hG10, ho10⟩; have hG10 : Chg g (g + 1) w9 w10 := ⟨hG10.os, hG10.tape, hG10.output, hG10.size, hG10.block⟩; have hs10 := hG10.size; have hm10 := hx4.chg hG10 (.inr (by omega)); have om10 := ho4.chgHi hG10 (by omega) (by omega); have HL10 := Lib.hid (show n10 = 1 * R1 by rw [← ho10.1]; exact hxl); have HR10 := Lib.hid hxr; clear hxl hxr)
          | (go_at_call 79; refine (l1Mul_any (B1 := w10.heap.size) (B2 := w4c.heap.size) p p 1 R1 C n10 k10 n4 k4 A10 A4 x10 D1 _ (by exact ho10.rd) (by exact Nat.le_refl _) (by exact om10.rd) (by omega) (by omega) (by omega) (by omega) HL10.out HA4.out (by omega) hp2 HR10.out HR4.out).mono ?_; rintro e w11 ⟨A11, n11, k11, rfl, hd11, hb11, ho11⟩; have hs11 := hb11.size; have hm11 := hm10.step hb11))
      obtain rfl : n11 = C := by have := ho11.1; rw [mulD, tab_len, Nat.one_mul] at this; exact this.symm
      have hz := (hz.chg hG10 (.inl (by omega))).step hb11
      have hy := (hy.chg hG10 (.inl (by omega))).step hb11
      have hx3 := (hx3.chg hG10 (.inr (by omega))).step hb11
      have om11 := om10.below hb11 (by omega)
      have o511 := (ho3.chgHi hG10 (by omega) (by omega)).below hb11 (by omega)
      have hq := (hq.trans ((hG10.below (by omega)).mono (by omega))).trans (hb11.mono (by omega))
      clear hx4
      have hx4 := hm11
      obtain ⟨x0, x1, x2, x3⟩ := hx4.four
      obtain ⟨y0, y1, y2, y3⟩ := hx3.four
      obtain ⟨z0, z1, z2, z3⟩ := hz.four
      obtain ⟨t0, t1, t2, t3⟩ := hy.four
      have zf := hz.fz
      have tf := hy.fz
      have hne1 : w.heap.size ≠ w4c.heap.size := by omega
      have hne2 : w.heap.size ≠ w5c.heap.size := by omega
      have hne3 : w.heap.size + 1 ≠ w5c.heap.size := by omega
      have hne4 : w.heap.size + 1 ≠ w4c.heap.size := by omega
      go_wp2_with fail
      go_region
      all_goals
        go_wp2
        exact bodyPost_ret (v := .tuple #[.agg #[.int .i64 p, .int .i64 R1, .int .i64 n11, .slice A4 n4 k4], .agg #[.int .i64 p, .int .i64 R3, .int .i64 n11, .slice A3 n3 k3], .slice A11 n11 k11]) (by simp [results, Try.results37, go_sem, z0, z1, z2, z3, t0, t1, t2, t3]) rfl
          ⟨p, R1, R3, n11, D1, D3, mulD 1 R1 n11 x10 D1 p, A4, A3, A11, n4, k4, n3, k3, k11, HSP4.out, HSP3.out, resB_mulD (by omega), hC5, rfl, hd4, hd3, hd11, Below.drew1 _ (below4' (below4' hq (by omega) _ _ _ _) (by omega) _ _ _ _),
            OwI.up (OwI.down (own4' (own4' om11 (by omega) _ _ _ _) (by omega) _ _ _ _).dr1 (by omega)) (by rw [size_drew]; simp only [World.size_setCell]; omega),
            OwI.up (OwI.down (own4' (own4' o511 (by omega) _ _ _ _) (by omega) _ _ _ _).dr1 (by omega)) (by rw [size_drew]; simp only [World.size_setCell]; omega),
            OwI.up (OwI.down (own4' (own4' ho11 (by omega) _ _ _ _) (by omega) _ _ _ _).dr1 (by omega)) (by rw [size_drew]; simp only [World.size_setCell]; omega)⟩
    · skip
      obtain ⟨x0, x1, x2, x3⟩ := hx4.four
      obtain ⟨y0, y1, y2, y3⟩ := hx3.four
      obtain ⟨z0, z1, z2, z3⟩ := hz.four
      obtain ⟨t0, t1, t2, t3⟩ := hy.four
      have zf := hz.fz
      have tf := hy.fz
      have hne1 : w.heap.size ≠ w4c.heap.size := by omega
      have hne2 : w.heap.size ≠ w5c.heap.size := by omega
      have hne3 : w.heap.size + 1 ≠ w5c.heap.size := by omega
      have hne4 : w.heap.size + 1 ≠ w4c.heap.size := by omega
      go_wp2_with fail
      go_region
      all_goals
        go_wp2
        exact bodyPost_ret (v := .tuple #[.agg #[.int .i64 p, .int .i64 R1, .int .i64 C, .slice A4 n4 k4], .agg #[.int .i64 p, .int .i64 R3, .int .i64 C, .slice A3 n3 k3], .slice A8 C k8]) (by simp [results, Try.results37, go_sem, z0, z1, z2, z3, t0, t1, t2, t3]) rfl
          ⟨p, R1, R3, C, D1, D3, v8, A4, A3, A8, n4, k4, n3, k3, k8, HSP4.out, HSP3.out, HV.out, hC5, rfl, hd4, hd3, hd8, Below.drew1 _ (below4' (below4' hq (by omega) _ _ _ _) (by omega) _ _ _ _),
            OwI.up (OwI.down (own4' (own4' ho4 (by omega) _ _ _ _) (by omega) _ _ _ _).dr1 (by omega)) (by rw [size_drew]; simp only [World.size_setCell]; omega),
            OwI.up (OwI.down (own4' (own4' ho3 (by omega) _ _ _ _) (by omega) _ _ _ _).dr1 (by omega)) (by rw [size_drew]; simp only [World.size_setCell]; omega),
            OwI.up (OwI.down (own4' (own4' hov (by omega) _ _ _ _) (by omega) _ _ _ _).dr1 (by omega)) (by rw [size_drew]; simp only [World.size_setCell]; omega)⟩
  · obtain ⟨-, -, -, hll1, hrr1, -, -⟩ := space_ok HSP4.out
    obtain ⟨-, -, -, hll2, hrr2, -, -⟩ := space_ok HSP5.out
    have HA := Lib.hid (show n4 = R1 * C by rw [← ho4.1]; exact hll1)
    have HB5 := Lib.hid (show n5 = R2 * C by rw [← ho5.1]; exact hll2)
    have HC1 := Lib.hid hrr1
    have HC2 := Lib.hid hrr2
    obtain ⟨R3, hR3⟩ : ∃ x, x = (rr (R1 + R2) p (matF (D1 ++ D2) C) C).rk := ⟨_, rfl⟩
    obtain ⟨D3, hD3⟩ : ∃ x, x = tab (rr (R1 + R2) p (matF (D1 ++ D2) C) C).rk C (rr (R1 + R2) p (matF (D1 ++ D2) C) C).f := ⟨_, rfl⟩
    have HSP3 := Lib.hid (show spB p R3 C D3 = true by rw [hR3, hD3]; exact sp_rrI HP.out (matF_res (by omega) (resB_app hrr1 hrr2)) (by omega))
    have HR3 := Lib.hid hR3
    have HD3 := Lib.hid hD3
    clear hll1 hll2 hrr1 hrr2 hR3 hD3
    obtain ⟨x0, x1, x2, x3⟩ := hx4.four
    obtain ⟨y0, y1, y2, y3⟩ := hx5.four
    go_wp2_with fail
    refine (l1Join_any (B := w6.heap.size) p R1 R2 C n4 k4 n5 k5 p C A4 A5 D1 D2 w6 (ho4.rd.up (by omega)) hd4 (ho5.rd.up (by omega)) hd5 (Nat.le_refl _) HA.out HB5.out (by omega) (by omega) (by omega) HP.out HC1.out HC2.out).mono ?_
    rw [← HD3.out, ← HR3.out]
    rintro e w6j ⟨A3, n3, k3, rfl, hd3, hbj, hoj⟩
    have hsj := hbj.size
    clear x0 x1 x2 x3 y0 y1 y2 y3
    have hx5j := hx5.step hbj
    have hz := (((((hz.step hbj).other (p := ⟨w5c.heap.size, 0, none⟩) (by show w.heap.size ≠ w5c.heap.size; omega) (.int .i64 p)).other (p := ⟨w5c.heap.size, 1, none⟩) (by show w.heap.size ≠ w5c.heap.size; omega) (.int .i64 R3)).other (p := ⟨w5c.heap.size, 2, none⟩) (by show w.heap.size ≠ w5c.heap.size; omega) (.int .i64 C)).other (p := ⟨w5c.heap.size, 3, none⟩) (by show w.heap.size ≠ w5c.heap.size; omega) (.slice A3 n3 k3))
    have hy := (((((hy.step hbj).other (p := ⟨w5c.heap.size, 0, none⟩) (by show w.heap.size + 1 ≠ w5c.heap.size; omega) (.int .i64 p)).other (p := ⟨w5c.heap.size, 1, none⟩) (by show w.heap.size + 1 ≠ w5c.heap.size; omega) (.int .i64 R3)).other (p := ⟨w5c.heap.size, 2, none⟩) (by show w.heap.size + 1 ≠ w5c.heap.size; omega) (.int .i64 C)).other (p := ⟨w5c.heap.size, 3, none⟩) (by show w.heap.size + 1 ≠ w5c.heap.size; omega) (.slice A3 n3 k3))
    have hx4 := (((((hx4.step hbj).other (p := ⟨w5c.heap.size, 0, none⟩) (by show w4c.heap.size ≠ w5c.heap.size; omega) (.int .i64 p)).other (p := ⟨w5c.heap.size, 1, none⟩) (by show w4c.heap.size ≠ w5c.heap.size; omega) (.int .i64 R3)).other (p := ⟨w5c.heap.size, 2, none⟩) (by show w4c.heap.size ≠ w5c.heap.size; omega) (.int .i64 C)).other (p := ⟨w5c.heap.size, 3, none⟩) (by show w4c.heap.size ≠ w5c.heap.size; omega) (.slice A3 n3 k3))
    have hx3 := hx5j.set4 (.int .i64 p) (.int .i64 R3) (.int .i64 C) (.slice A3 n3 k3)
    have ho4 := (((((ho4.below hbj (by omega)).setCell (p := ⟨w5c.heap.size, 0, none⟩) (by show w4c.heap.size ≤ w5c.heap.size; omega) (.int .i64 p)).setCell (p := ⟨w5c.heap.size, 1, none⟩) (by show w4c.heap.size ≤ w5c.heap.size; omega) (.int .i64 R3)).setCell (p := ⟨w5c.heap.size, 2, none⟩) (by show w4c.heap.size ≤ w5c.heap.size; omega) (.int .i64 C)).setCell (p := ⟨w5c.heap.size, 3, none⟩) (by show w4c.heap.size ≤ w5c.heap.size; omega) (.slice A3 n3 k3))
    have ho3 := own4' hoj (R := w5c.heap.size) (by omega) (.int .i64 p) (.int .i64 R3) (.int .i64 C) (.slice A3 n3 k3)
    have hq := below4' (hq.trans (hbj.mono (by omega))) (R := w5c.heap.size) (by omega) (.int .i64 p) (.int .i64 R3) (.int .i64 C) (.slice A3 n3 k3)
    have hCu := ((((hCu.plus hbj).setCell (p := ⟨w5c.heap.size, 0, none⟩) (by show g < w5c.heap.size; omega) (.int .i64 p)).setCell (p := ⟨w5c.heap.size, 1, none⟩) (by show g < w5c.heap.size; omega) (.int .i64 R3)).setCell (p := ⟨w5c.heap.size, 2, none⟩) (by show g < w5c.heap.size; omega) (.int .i64 C)).setCell (p := ⟨w5c.heap.size, 3, none⟩) (by show g < w5c.heap.size; omega) (.slice A3 n3 k3)
    obtain ⟨y0, y1, y2, y3⟩ := hx5j.four
    have yf := hx5j.fz
    have hs7 : w6j.heap.size ≤ ((((w6j.setCell ⟨w5c.heap.size, 0, none⟩ (.int .i64 p)).setCell ⟨w5c.heap.size, 1, none⟩ (.int .i64 R3)).setCell ⟨w5c.heap.size, 2, none⟩ (.int .i64 C)).setCell ⟨w5c.heap.size, 3, none⟩ (.slice A3 n3 k3)).heap.size := by simp
    obtain ⟨lo5, hi5, ho3, hlo5, hlo6, hhi5⟩ : ∃ lo5 hi5, OwI ((((w6j.setCell ⟨w5c.heap.size, 0, none⟩ (.int .i64 p)).setCell ⟨w5c.heap.size, 1, none⟩ (.int .i64 R3)).setCell ⟨w5c.heap.size, 2, none⟩ (.int .i64 C)).setCell ⟨w5c.heap.size, 3, none⟩ (.slice A3 n3 k3)) lo5 hi5 A3 n3 D3 ∧ g < lo5 ∧ w.heap.size + 1 < lo5 ∧ hi5 ≤ ((((w6j.setCell ⟨w5c.heap.size, 0, none⟩ (.int .i64 p)).setCell ⟨w5c.heap.size, 1, none⟩ (.int .i64 R3)).setCell ⟨w5c.heap.size, 2, none⟩ (.int .i64 C)).setCell ⟨w5c.heap.size, 3, none⟩ (.slice A3 n3 k3)).heap.size := ⟨_, _, ho3, by omega, by omega, by simp⟩
    go_wp2_with fail
    clear y0 y1 y2 y3 yf hx5j hbj hoj hx5 ho5
    generalize ((((w6j.setCell ⟨w5c.heap.size, 0, none⟩ (.int .i64 p)).setCell ⟨w5c.heap.size, 1, none⟩ (.int .i64 R3)).setCell ⟨w5c.heap.size, 2, none⟩ (.int .i64 C)).setCell ⟨w5c.heap.size, 3, none⟩ (.slice A3 n3 k3)) = w7 at *
    have h4lo : g < w4b.heap.size := by omega
    have h4hi : w4c.heap.size ≤ w7.heap.size := by omega
    obtain ⟨-, -, -, hll1, hrr1, -, -⟩ := space_ok HSP4.out
    have HA4 := Lib.hid (show n4 = R1 * C by rw [← ho4.1]; exact hll1)
    have HR4 := Lib.hid hrr1
    clear hll1 hrr1
    refine (l12List_any p w7 hCu (by omega) hp2 (n := C) (by omega)).mono ?_
    rintro e w8 ⟨v8, A8, k8, hvl, hvr, rfl, hd8, hCu8, hG8, ho8⟩
    have hs8 := hG8.size
    have hz := hz.chg hG8 (.inl (by omega))
    have hy := hy.chg hG8 (.inl (by omega))
    have hx4 := hx4.chg hG8 (.inr (by omega))
    have hx3 := hx3.chg hG8 (.inr (by omega))
    have ho4 := ho4.chgHi hG8 (by omega) (by omega)
    have ho3 := ho3.chgHi hG8 (by omega) (by omega)
    have hq := hq.trans ((hG8.below (by omega)).mono (by omega))
    have HV := Lib.hid hvr
    clear hvr hG8 hCu
    go_wp2_with fail
    refine (l1Once_any 3 w8 hCu8 (by omega)).mono ?_
    rintro e w9 ⟨cc, rfl, hCu9, hG9⟩
    have hs9 := hG9.size
    have hz := hz.chg hG9 (.inl (by omega))
    have hy := hy.chg hG9 (.inl (by omega))
    have hx4 := hx4.chg hG9 (.inr (by omega))
    have hx3 := hx3.chg hG9 (.inr (by omega))
    have ho4 := ho4.chgHi hG9 (by omega) (by omega)
    have ho3 := ho3.chgHi hG9 (by omega) (by omega)
    have hov := ho8.chgHi hG9 (by omega) (by omega)
    have hq := hq.trans ((hG9.below (by omega)).mono (by omega))
    clear hG9 hCu8 ho8
    rcases cc with _ | _
    · obtain ⟨x0, x1, x2, x3⟩ := hx4.four
      go_wp2_with fail
      clear x0 x1 x2 x3
      have hfd := run_fldS
      go_region_held3 (fun w' => w'.cell? ⟨w4c.heap.size, 0, none⟩ = some (.int .i64 p) ∧ w'.cell? ⟨w4c.heap.size, 1, none⟩ = some (.int .i64 R1) ∧ w'.cell? ⟨w4c.heap.size, 2, none⟩ = some (.int .i64 C) ∧ w'.cell? ⟨w4c.heap.size, 3, none⟩ = some (.slice A4 n4 k4)) (first | exact hx4.four | exact hm10.four | exact hm11.four)
        (first
          | (go_at_call 75; refine (l12Matrix_any p 1 R1 _ (by exact hCu9) (by omega) hp2 (by omega) (by omega)).mono ?_; rintro e w10 ⟨x10, A10, n10, k10, -, hxl, hxr, rfl, hd10, hC10, hG10, ho10⟩; have hG10 : Chg g (g + 1) w9 w10 := ⟨hG10.os, hG10.tape, hG10.output, hG10.size, hG10.block⟩; have hs10 := hG10.size; have hm10 := hx4.chg hG10 (.inr (by omega)); have om10 := ho4.chgHi hG10 (by omega) (by omega); have HL10 := Lib.hid (show n10 = 1 * R1 by rw [← ho10.1]; exact hxl); have HR10 := Lib.hid hxr; clear hxl hxr)
          | (go_at_call 79; refine (l1Mul_any (B1 := w10.heap.size) (B2 := w4c.heap.size) p p 1 R1 C n10 k10 n4 k4 A10 A4 x10 D1 _ (by exact ho10.rd) (by exact Nat.le_refl _) (by exact om10.rd) (by omega) (by omega) (by omega) (by omega) HL10.out HA4.out (by omega) hp2 HR10.out HR4.out).mono ?_; rintro e w11 ⟨A11, n11, k11, rfl, hd11, hb11, ho11⟩; have hs11 := hb11.size; have hm11 := hm10.step hb11))
      obtain rfl : n11 = C := by have := ho11.1; rw [mulD, tab_len, Nat.one_mul] at this; exact this.symm
      have hz := (hz.chg hG10 (.inl (by omega))).step hb11
      have hy := (hy.chg hG10 (.inl (by omega))).step hb11
      have hx3 := (hx3.chg hG10 (.inr (by omega))).step hb11
      have om11 := om10.below hb11 (by omega)
      have o511 := (ho3.chgHi hG10 (by omega) (by omega)).below hb11 (by omega)
      have hq := (hq.trans ((hG10.below (by omega)).mono (by omega))).trans (hb11.mono (by omega))
      clear hx4
      have hx4 := hm11
      obtain ⟨x0, x1, x2, x3⟩ := hx4.four
      obtain ⟨y0, y1, y2, y3⟩ := hx3.four
      obtain ⟨z0, z1, z2, z3⟩ := hz.four
      obtain ⟨t0, t1, t2, t3⟩ := hy.four
      have zf := hz.fz
      have tf := hy.fz
      have hne1 : w.heap.size ≠ w4c.heap.size := by omega
      have hne2 : w.heap.size ≠ w5c.heap.size := by omega
      have hne3 : w.heap.size + 1 ≠ w5c.heap.size := by omega
      have hne4 : w.heap.size + 1 ≠ w4c.heap.size := by omega
      go_wp2_with fail
      go_region
      all_goals
        go_wp2
        exact bodyPost_ret (v := .tuple #[.agg #[.int .i64 p, .int .i64 R1, .int .i64 n11, .slice A4 n4 k4], .agg #[.int .i64 p, .int .i64 R3, .int .i64 n11, .slice A3 n3 k3], .slice A11 n11 k11]) (by simp [results, Try.results37, go_sem, z0, z1, z2, z3, t0, t1, t2, t3]) rfl
          ⟨p, R1, R3, n11, D1, D3, mulD 1 R1 n11 x10 D1 p, A4, A3, A11, n4, k4, n3, k3, k11, HSP4.out, HSP3.out, resB_mulD (by omega), hC5, rfl, hd4, hd3, hd11, Below.drew1 _ (below4' (below4' hq (by omega) _ _ _ _) (by omega) _ _ _ _),
            OwI.up (OwI.down (own4' (own4' om11 (by omega) _ _ _ _) (by omega) _ _ _ _).dr1 (by omega)) (by rw [size_drew]; simp only [World.size_setCell]; omega),
            OwI.up (OwI.down (own4' (own4' o511 (by omega) _ _ _ _) (by omega) _ _ _ _).dr1 (by omega)) (by rw [size_drew]; simp only [World.size_setCell]; omega),
            OwI.up (OwI.down (own4' (own4' ho11 (by omega) _ _ _ _) (by omega) _ _ _ _).dr1 (by omega)) (by rw [size_drew]; simp only [World.size_setCell]; omega)⟩
    · skip
      obtain ⟨x0, x1, x2, x3⟩ := hx4.four
      obtain ⟨y0, y1, y2, y3⟩ := hx3.four
      obtain ⟨z0, z1, z2, z3⟩ := hz.four
      obtain ⟨t0, t1, t2, t3⟩ := hy.four
      have zf := hz.fz
      have tf := hy.fz
      have hne1 : w.heap.size ≠ w4c.heap.size := by omega
      have hne2 : w.heap.size ≠ w5c.heap.size := by omega
      have hne3 : w.heap.size + 1 ≠ w5c.heap.size := by omega
      have hne4 : w.heap.size + 1 ≠ w4c.heap.size := by omega
      go_wp2_with fail
      go_region
      all_goals
        go_wp2
        exact bodyPost_ret (v := .tuple #[.agg #[.int .i64 p, .int .i64 R1, .int .i64 C, .slice A4 n4 k4], .agg #[.int .i64 p, .int .i64 R3, .int .i64 C, .slice A3 n3 k3], .slice A8 C k8]) (by simp [results, Try.results37, go_sem, z0, z1, z2, z3, t0, t1, t2, t3]) rfl
          ⟨p, R1, R3, C, D1, D3, v8, A4, A3, A8, n4, k4, n3, k3, k8, HSP4.out, HSP3.out, HV.out, hC5, rfl, hd4, hd3, hd8, Below.drew1 _ (below4' (below4' hq (by omega) _ _ _ _) (by omega) _ _ _ _),
            OwI.up (OwI.down (own4' (own4' ho4 (by omega) _ _ _ _) (by omega) _ _ _ _).dr1 (by omega)) (by rw [size_drew]; simp only [World.size_setCell]; omega),
            OwI.up (OwI.down (own4' (own4' ho3 (by omega) _ _ _ _) (by omega) _ _ _ _).dr1 (by omega)) (by rw [size_drew]; simp only [World.size_setCell]; omega),
            OwI.up (OwI.down (own4' (own4' hov (by omega) _ _ _ _) (by omega) _ _ _ _).dr1 (by omega)) (by rw [size_drew]; simp only [World.size_setCell]; omega)⟩
end Go.Proofs.Ytfiganobjjjloaa
