/- The walk of the law on PrimitiveOf. No condition. -/
import Derived.Test.YticebbkmakpkjaaPrmW
import Derived.Test.YticebbkmakpkjaaAlS
import Derived.Test.YticebbkmakpkjaaLawK
import Derived.Deep.DeepCutAuto
namespace Go.Proofs.Yticebbkmakpkjaa
set_option linter.unusedVariables false
set_option linter.unusedSimpArgs false
set_option maxRecDepth 20000
open Go.RowKit
set_option maxRecDepth 100000 in
set_option maxHeartbeats 4000000 in
theorem law_PrimitiveOf_in (p0 q0 : Int) (A0 : Option Addr) (n0 k0 : Nat) (d0 : List Int) (a1 : Int) (A2 : Option Addr) (n2 k2 : Nat) (d2 : List Int) (w : World) (h0 : RdI w w.heap.size A0 n0 d0) (h2 : RdI w w.heap.size A2 n2 d2) (hn : n0 ≤ 1048576) (hn2 : n2 ≤ 1048576) (D0 : List Int) (V1 : Bool) (hD0 : D0.length ≤ 1073741824)
    (hS : Hid (∀ (B : Nat) (A0 : Option Addr) (n0 k0 : Nat) (A2 : Option Addr) (n2 k2 : Nat) (w : World), RdI w B A0 n0 d0 → Hd A0 n0 k0 → RdI w B A2 n2 d2 → Hd A2 n2 k2 → B ≤ w.heap.size → Calls Try.prog 33 #[.agg #[.int .i64 p0, .int .i64 q0, .slice A0 n0 k0], .int .i64 a1, .slice A2 n2 k2] w (RetIB D0 V1 w)))
    (hI : Hid (∀ (B : Nat) (A0 : Option Addr) (n0 k0 : Nat) (A2 : Option Addr) (n2 k2 : Nat) (w : World), RdI w B A0 n0 d0 → Hd A0 n0 k0 → RdI w B A2 n2 d2 → Hd A2 n2 k2 → B ≤ w.heap.size → Calls Try.prog 34 #[.agg #[.int .i64 p0, .int .i64 q0, .slice A0 n0 k0], .int .i64 a1, .slice A2 n2 k2] w (RetIB D0 V1 w))) :
    Calls Try.prog 8 #[.agg #[.int .i64 p0, .int .i64 q0, .slice A0 n0 k0], .int .i64 a1, .slice A2 n2 k2] w (Rv (.bool true) w) := by
  have HT0 : (p0 == p0 && q0 == q0 && d0 == d0) = true := by simp
  have hdl0 : d0.length ≤ 1048576 := by have := h0.1; omega
  have HT2 : (d2 == d2) = true := by simp
  have hdl2 : d2.length ≤ 1048576 := by have := h2.1; omega
  have HR0 : (D0 == D0) = true := by simp
  have HR1 : (V1 != V1) = false := by simp
  have HN0 := Lib.hid (show (if (n0 : Int) ≤ 1048576 then (1048576 : Int) - n0 else -1) = 1048576 - n0 from if_pos (by omega))
  have hl0 : ¬ ((1048576 - n0) : Int) < 0 := by omega
  have hv2 : ¬ (1048576 : Int) < (n2 : Int) := by omega
  go_enter Try.func8, Try.ntmps8
  have tot_0 : Below w.heap.size w w := Below.refl _ _
  have a0_0 := h0
  have a2_0 := h2
  clear h0 h2
  go_wp2_with fail
  refine (szAlgebra_any p0 q0 A0 n0 k0 (1048576) _ (by unfold maxLen; omega) (by omega) (by omega)).mono ?_
  rintro e w1 ⟨rfl, hb1⟩
  simp only [World.size_alloc] at hb1
  have hs1 := hb1.size
  simp only [World.size_alloc] at hs1
  have ba0_1 : Box w1 (w.heap.size) #[.int .i64 p0, .int .i64 q0, .slice A0 n0 k0] := by
    have hq := ((Box.new w #[.int .i64 p0, .int .i64 q0, .slice A0 n0 k0] _)).below hb1 (by first | omega | (simp only [World.size_alloc]; omega) | (simp; omega))
    (try simp only [World.size_alloc] at hq)
    exact hq
  have a0_1 := ((a0_0.alloc (by first | omega | (simp only [World.size_alloc]; omega) | (simp; omega)) _)).below hb1 (by omega)
  have a2_1 := ((a2_0.alloc (by first | omega | (simp only [World.size_alloc]; omega) | (simp; omega)) _)).below hb1 (by omega)
  have tot_1 : Below w.heap.size w w1 := (tot_0.alloc (by first | omega | (simp only [World.size_alloc]; omega) | (simp; omega)) _).trans (hb1.mono (by omega))
  clear a0_0 a2_0 tot_0 hb1
  rw [HN0.out]
  have hN2 : w.heap.size ≤ w1.heap.size := by omega
  go_upto_region 7 with fail
  go_cut [8, 9] (fun s8 s9 wx => CutI w1 D0 s8 wx ∧ s9 = .bool V1)
  have hlt0 : w.heap.size < w1.heap.size := by omega
  case first =>
    have hcur : Below w1.heap.size w1 w1 := Below.refl _ _
    obtain ⟨cz0_0, cz0_1, cz0_2⟩ := ba0_1.three
    go_wp2_with (first | (go_at_call_of 17 (Value.agg #[.int .i64 p0, .int .i64 q0, .slice A0 n0 k0]); refine (toAlgebra_any p0 q0 A0 n0 k0 d0 _ (B := w.heap.size) (by first | with_reducible exact a0_1.below hcur hN2 | with_reducible exact a0_1.below (Below.alo hcur) hN2 | with_reducible exact a0_1.below (Below.drew hcur) hN2 | with_reducible exact a0_1.below (Below.drew (Below.alo hcur)) hN2) (by first | with_reducible exact Nat.le_trans hN2 (hcur).size | with_reducible exact Nat.le_trans hN2 ((Below.alo hcur)).size | with_reducible exact Nat.le_trans hN2 ((Below.drew hcur)).size | with_reducible exact Nat.le_trans hN2 ((Below.drew (Below.alo hcur))).size) (by omega)).mono ?_; rintro e wc0 ⟨Ac0, nc0, kc0, rfl, hdc0, hbc0, hoc0⟩; have hrc0 := hoc0.rd; clear hoc0; (try with_reducible replace hbx := hbx.step hbc0); (first | ((with_reducible have hbx := Box.newA hbc0); have hgb := hcur.size) | ((with_reducible have hbx := Box.newAD hbc0); have hgb := hcur.size) | skip); (first | with_reducible replace hcur := Below.step hcur hbc0 | with_reducible replace hcur := Below.stepA hcur hbc0 | with_reducible replace hcur := Below.stepD hcur hbc0 | with_reducible replace hcur := Below.stepAD hcur hbc0); (first | with_reducible replace hrc2 := hrc2.step hbc0 | with_reducible replace hrc2 := hrc2.stepA hbc0 | skip); clear hbc0) | (go_at_call_of 18 (Value.slice A2 n2 k2); refine (toIntS_any A2 n2 k2 d2 _ (B := w.heap.size) (by first | with_reducible exact a2_1.below hcur hN2 | with_reducible exact a2_1.below (Below.alo hcur) hN2 | with_reducible exact a2_1.below (Below.drew hcur) hN2 | with_reducible exact a2_1.below (Below.drew (Below.alo hcur)) hN2) (by first | with_reducible exact Nat.le_trans hN2 (hcur).size | with_reducible exact Nat.le_trans hN2 ((Below.alo hcur)).size | with_reducible exact Nat.le_trans hN2 ((Below.drew hcur)).size | with_reducible exact Nat.le_trans hN2 ((Below.drew (Below.alo hcur))).size) (by omega)).mono ?_; rintro e wc2 ⟨Ac2, nc2, kc2, rfl, hdc2, hbc2, hoc2⟩; have hrc2 := hoc2.rd; clear hoc2; (try with_reducible replace hbx := hbx.step hbc2); (first | ((with_reducible have hbx := Box.newA hbc2); have hgb := hcur.size) | ((with_reducible have hbx := Box.newAD hbc2); have hgb := hcur.size) | skip); (first | with_reducible replace hcur := Below.step hcur hbc2 | with_reducible replace hcur := Below.stepA hcur hbc2 | with_reducible replace hcur := Below.stepD hcur hbc2 | with_reducible replace hcur := Below.stepAD hcur hbc2); (first | with_reducible replace hrc0 := hrc0.step hbc2 | with_reducible replace hrc0 := hrc0.stepA hbc2 | skip); clear hbc2) | (go_at_call 33; refine (hS.out _ Ac0 nc0 kc0 Ac2 nc2 kc2 _ (by first | with_reducible exact hrc0 | with_reducible exact hrc0.alo) hdc0 (by first | with_reducible exact hrc2 | with_reducible exact hrc2.alo) hdc2 (Nat.le_refl _)).mono ?_; rintro e wr ⟨Aw0r, nw0r, kw0r, rfl, hdAw0r, hbr, hq⟩; (try have hg2 := hbx.lt); have hlo := hcur.size; (try with_reducible replace hbx := hbx.step hbr); (first | ((with_reducible have hbx := Box.newA hbr); have hgb := hcur.size) | ((with_reducible have hbx := Box.newAD hbr); have hgb := hcur.size) | skip); (first | with_reducible replace hcur := Below.step hcur hbr | with_reducible replace hcur := Below.stepA hcur hbr | with_reducible replace hcur := Below.stepD hcur hbr | with_reducible replace hcur := Below.stepAD hcur hbr); (first | with_reducible replace hrc0 := hrc0.step hbr | with_reducible replace hrc0 := hrc0.stepA hbr | skip); (first | with_reducible replace hrc2 := hrc2.step hbr | with_reducible replace hrc2 := hrc2.stepA hbr | skip); (try obtain ⟨gc0, gc1, gc2, gc3⟩ := hbx.four); (try obtain ⟨gc0, gc1, gc2⟩ := hbx.three); (try have gcf := hbx.fz); clear hbr))
    all_goals
      go_meet
      first | exact ⟨CutI.a hcur hq hdAw0r hlo, rfl⟩ | exact CutI.a hcur hq hdAw0r hlo
  case rest =>
    obtain ⟨w2, hww⟩ : ∃ x, x = wc := ⟨_, rfl⟩
    subst hww
    obtain ⟨⟨Aw0r, nw0r, kw0r, low0r, hiw0r, rfl, hdAw0r, hq, ho2w0r, ho3w0r, hb2⟩, rfl⟩ := hcut
    have hs2 := hb2.size
    have ba0_2 := (ba0_1).below hb2 (by omega)
    have a0_2 := (a0_1).below hb2 (by omega)
    have a2_2 := (a2_1).below hb2 (by omega)
    have tot_2 : Below w.heap.size w w2 := tot_1.trans (hb2.mono (by omega))
    clear ba0_1 a0_1 a2_1 tot_1 hb2
    have w0r_2 := hq
    clear hq
    have hNw0r : nw0r ≤ 1073741824 := by have := w0r_2.size; omega
    obtain ⟨z_ba0_0, z_ba0_1, z_ba0_2⟩ := ba0_2.three
    have zz_ba0 : w.heap.size < w2.heap.size := by omega
    go_wp2_with fail
    refine (toAlgebra_any p0 q0 A0 n0 k0 d0 _ (B := w.heap.size) (by exact (a0_2)) (by first | exact Nat.le_refl _ | omega | (simp only [World.size_alloc]; omega) | (simp; omega)) (by omega)).mono ?_
    rintro e w3 ⟨Ax0, nx0, kx0, rfl, hdAx0, hb3, hq⟩
    clear z_ba0_0 z_ba0_1 z_ba0_2 zz_ba0
    have hs3 := hb3.size
    have ba0_3 := (ba0_2).below hb3 (by omega)
    have a0_3 := (a0_2).below hb3 (by omega)
    have a2_3 := (a2_2).below hb3 (by omega)
    have w0r_3 := (w0r_2).below hb3 (by omega)
    have tot_3 : Below w.heap.size w w3 := tot_2.trans (hb3.mono (by omega))
    clear ba0_2 a0_2 a2_2 w0r_2 tot_2 hb3
    try simp only [World.size_alloc] at hq
    have x0_3 := hq
    clear hq
    have hNx0 : nx0 ≤ 1048576 := by have := x0_3.size; omega
    go_wp2_with fail
    refine (toIntS_any A2 n2 k2 d2 _ (B := w.heap.size) (by exact ((a2_3.alloc (by first | omega | (simp only [World.size_alloc]; omega) | (simp; omega)) _))) (by first | exact Nat.le_refl _ | omega | (simp only [World.size_alloc]; omega) | (simp; omega)) (by omega)).mono ?_
    rintro e w4 ⟨Ax2, nx2, kx2, rfl, hdAx2, hb4, hq⟩
    simp only [World.size_alloc] at hb4
    have hs4 := hb4.size
    simp only [World.size_alloc] at hs4
    have bx0_4 : Box w4 (w3.heap.size) #[.int .i64 p0, .int .i64 q0, .slice Ax0 nx0 kx0] := by
      have hq := ((Box.new w3 #[.int .i64 p0, .int .i64 q0, .slice Ax0 nx0 kx0] _)).below hb4 (by first | omega | (simp only [World.size_alloc]; omega) | (simp; omega))
      (try simp only [World.size_alloc] at hq)
      exact hq
    have ba0_4 := ((ba0_3.alloc _)).below hb4 (by omega)
    have a0_4 := ((a0_3.alloc (by first | omega | (simp only [World.size_alloc]; omega) | (simp; omega)) _)).below hb4 (by omega)
    have a2_4 := ((a2_3.alloc (by first | omega | (simp only [World.size_alloc]; omega) | (simp; omega)) _)).below hb4 (by omega)
    have w0r_4 := ((w0r_3.alloc (by first | omega | (simp only [World.size_alloc]; omega) | (simp; omega)) _)).below hb4 (by omega)
    have x0_4 := ((x0_3.alloc (by first | omega | (simp only [World.size_alloc]; omega) | (simp; omega)) _)).below hb4 (by omega)
    have tot_4 : Below w.heap.size w w4 := (tot_3.alloc (by first | omega | (simp only [World.size_alloc]; omega) | (simp; omega)) _).trans (hb4.mono (by omega))
    clear ba0_3 a0_3 a2_3 w0r_3 x0_3 tot_3 hb4
    try simp only [World.size_alloc] at hq
    have x2_4 := hq
    clear hq
    have hNx2 : nx2 ≤ 1048576 := by have := x2_4.size; omega
    obtain ⟨z_bx0_0, z_bx0_1, z_bx0_2⟩ := bx0_4.three
    have zz_bx0 : w3.heap.size < w4.heap.size := by omega
    go_wp2_with fail
    refine (hI.out (w4.heap.size) Ax0 nx0 kx0 Ax2 nx2 kx2 _ (by exact (x0_4).rd.up (by first | exact Nat.le_refl _ | omega | (simp only [World.size_alloc]; omega) | (simp; omega))) hdAx0 (by exact (x2_4).rd.up (by first | exact Nat.le_refl _ | omega | (simp only [World.size_alloc]; omega) | (simp; omega))) hdAx2 (by first | exact Nat.le_refl _ | omega | (simp only [World.size_alloc]; omega) | (simp; omega))).mono ?_
    rintro e w5 ⟨Ag0r, ng0r, kg0r, rfl, hdAg0r, hb5, hq⟩
    clear z_bx0_0 z_bx0_1 z_bx0_2 zz_bx0
    have hs5 := hb5.size
    have bx0_5 := (bx0_4).below hb5 (by omega)
    have ba0_5 := (ba0_4).below hb5 (by omega)
    have a0_5 := (a0_4).below hb5 (by omega)
    have a2_5 := (a2_4).below hb5 (by omega)
    have w0r_5 := (w0r_4).below hb5 (by omega)
    have x0_5 := (x0_4).below hb5 (by omega)
    have x2_5 := (x2_4).below hb5 (by omega)
    have tot_5 : Below w.heap.size w w5 := tot_4.trans (hb5.mono (by omega))
    clear bx0_4 ba0_4 a0_4 a2_4 w0r_4 x0_4 x2_4 tot_4 hb5
    try simp only [World.size_alloc] at hq
    have g0r_5 := hq
    clear hq
    have hNg0r : ng0r ≤ 1073741824 := by have := g0r_5.size; omega
    go_wp2_with fail
    refine (eqIntS_rv Ag0r Aw0r ng0r kg0r nw0r kw0r D0 D0 _ (B1 := w5.heap.size) (B2 := hiw0r) (by exact (g0r_5).rd) (by exact (w0r_5).rd)).mono ?_
    rintro e w6 ⟨rfl, hb6⟩
    have hs6 := hb6.size
    have bx0_6 := (bx0_5).below hb6 (by omega)
    have ba0_6 := (ba0_5).below hb6 (by omega)
    have a0_6 := (a0_5).below hb6 (by omega)
    have a2_6 := (a2_5).below hb6 (by omega)
    have w0r_6 := (w0r_5).below hb6 (by omega)
    have x0_6 := (x0_5).below hb6 (by omega)
    have x2_6 := (x2_5).below hb6 (by omega)
    have g0r_6 := (g0r_5).below hb6 (by omega)
    have tot_6 : Below w.heap.size w w6 := tot_5.trans (hb6.mono (by omega))
    clear bx0_5 ba0_5 a0_5 a2_5 w0r_5 x0_5 x2_5 g0r_5 tot_5 hb6
    rw [HR0]
    go_wp2_with fail
    go_region_held3 (fun w' => (w'.cell? ⟨w3.heap.size, 0, none⟩ = some (.int .i64 p0) ∧ w'.cell? ⟨w3.heap.size, 1, none⟩ = some (.int .i64 q0) ∧ w'.cell? ⟨w3.heap.size, 2, none⟩ = some (.slice Ax0 nx0 kx0)) ∧ w'.cell? ⟨w.heap.size, 0, none⟩ = some (.int .i64 p0) ∧ w'.cell? ⟨w.heap.size, 1, none⟩ = some (.int .i64 q0) ∧ w'.cell? ⟨w.heap.size, 2, none⟩ = some (.slice A0 n0 k0)) (first | exact ⟨bx0_6.three, ba0_6.three⟩ | exact ⟨(bx0_6.drew.below hbc (by show _ < w6.heap.size; omega)).three, (ba0_6.drew.below hbc (by show _ < w6.heap.size; omega)).three⟩ | exact ⟨((bx0_6.drew.below hbc (by show _ < w6.heap.size; omega)).below hbd (by first | omega | (simp only [World.size_alloc]; omega) | (simp; omega))).three, ((ba0_6.drew.below hbc (by show _ < w6.heap.size; omega)).below hbd (by first | omega | (simp only [World.size_alloc]; omega) | (simp; omega))).three⟩) (first | (go_at_call 17; refine (toAlgebra_any p0 q0 A0 n0 k0 d0 _ (B := w.heap.size) (by exact a0_6) (by show _ ≤ w6.heap.size; omega) (by omega)).mono ?_; rintro e wc ⟨Ay, ny, ky, rfl, hdAy, hbc, hoc⟩; have hsc : w6.heap.size ≤ wc.heap.size := hbc.size) | (go_at_call 20; refine (eqAlgebra_any p0 q0 Ax0 nx0 kx0 d0 p0 q0 Ay ny ky d0 _ (B1 := w3.heap.size) (B2 := wc.heap.size) (by exact (show OwI w6.drew (w2.heap.size) (w3.heap.size) Ax0 nx0 d0 from x0_6).rd.below hbc (by show _ ≤ w6.heap.size; omega)) (by omega) (by exact hoc.rd) (Nat.le_refl _)).mono ?_; rintro e wd ⟨rfl, hbd⟩; rw [HT0]; have hsd := hbd.size))
    have hb7 : Below w6.heap.size w6 wd := (Below.trans (a := w6) (b := w6.drew) ⟨rfl, rfl, rfl, Nat.le_refl _, fun _ _ => rfl⟩ (show Below w6.heap.size w6.drew wc from hbc)).trans (hbd.mono (by omega))
    clear hbc hbd hoc
    obtain ⟨w7, hww⟩ : ∃ x, x = wd := ⟨_, rfl⟩
    subst hww
    clear hsc hsd
    have hs7 := hb7.size
    have bx0_7 := (bx0_6).below hb7 (by omega)
    have ba0_7 := (ba0_6).below hb7 (by omega)
    have a0_7 := (a0_6).below hb7 (by omega)
    have a2_7 := (a2_6).below hb7 (by omega)
    have w0r_7 := (w0r_6).below hb7 (by omega)
    have x0_7 := (x0_6).below hb7 (by omega)
    have x2_7 := (x2_6).below hb7 (by omega)
    have g0r_7 := (g0r_6).below hb7 (by omega)
    have tot_7 : Below w.heap.size w w7 := tot_6.trans (hb7.mono (by omega))
    clear bx0_6 ba0_6 a0_6 a2_6 w0r_6 x0_6 x2_6 g0r_6 tot_6 hb7
    go_wp2_with fail
    refine (toIntS_any A2 n2 k2 d2 _ (B := w.heap.size) (by exact (a2_7)) (by first | exact Nat.le_refl _ | omega | (simp only [World.size_alloc]; omega) | (simp; omega)) (by omega)).mono ?_
    rintro e w8 ⟨Ay2, ny2, ky2, rfl, _, hb8, hq⟩
    have hs8 := hb8.size
    have bx0_8 := (bx0_7).below hb8 (by omega)
    have ba0_8 := (ba0_7).below hb8 (by omega)
    have a0_8 := (a0_7).below hb8 (by omega)
    have a2_8 := (a2_7).below hb8 (by omega)
    have w0r_8 := (w0r_7).below hb8 (by omega)
    have x0_8 := (x0_7).below hb8 (by omega)
    have x2_8 := (x2_7).below hb8 (by omega)
    have g0r_8 := (g0r_7).below hb8 (by omega)
    have tot_8 : Below w.heap.size w w8 := tot_7.trans (hb8.mono (by omega))
    clear bx0_7 ba0_7 a0_7 a2_7 w0r_7 x0_7 x2_7 g0r_7 tot_7 hb8
    try simp only [World.size_alloc] at hq
    have y2_8 := hq
    clear hq
    go_wp2_with fail
    refine (eqIntS_rv Ax2 Ay2 nx2 kx2 ny2 ky2 d2 d2 _ (B1 := w4.heap.size) (B2 := w8.heap.size) (by exact (x2_8).rd) (by exact (y2_8).rd)).mono ?_
    rintro e w9 ⟨rfl, hb9⟩
    have hs9 := hb9.size
    have bx0_9 := (bx0_8).below hb9 (by omega)
    have ba0_9 := (ba0_8).below hb9 (by omega)
    have a0_9 := (a0_8).below hb9 (by omega)
    have a2_9 := (a2_8).below hb9 (by omega)
    have w0r_9 := (w0r_8).below hb9 (by omega)
    have x0_9 := (x0_8).below hb9 (by omega)
    have x2_9 := (x2_8).below hb9 (by omega)
    have g0r_9 := (g0r_8).below hb9 (by omega)
    have y2_9 := (y2_8).below hb9 (by omega)
    have tot_9 : Below w.heap.size w w9 := tot_8.trans (hb9.mono (by omega))
    clear bx0_8 ba0_8 a0_8 a2_8 w0r_8 x0_8 x2_8 g0r_8 y2_8 tot_8 hb9
    rw [HT2]
    clear y2_9
    obtain ⟨z_bx0_0, z_bx0_1, z_bx0_2⟩ := bx0_9.three
    have zz_bx0 : w3.heap.size < w9.heap.size := by omega
    go_wp2_with fail
    refine (markAlgebra_any p0 q0 Ax0 nx0 kx0 d0 (1) _ (B0 := w2.heap.size) (B := w3.heap.size) (by exact (x0_9)) (by first | exact Nat.le_refl _ | omega | (simp only [World.size_alloc]; omega) | (simp; omega)) (by omega) (by omega)).mono ?_
    rintro e w10 ⟨rfl, hb10, hq⟩
    clear z_bx0_0 z_bx0_1 z_bx0_2 zz_bx0
    have hs10 := hb10.size
    have bx0_10 := (bx0_9).chg hb10 (by omega)
    have ba0_10 := (ba0_9).chg hb10 (by omega)
    have a0_10 := (a0_9).below (hb10.below (by first | omega | (simp only [World.size_alloc]; omega) | (simp; omega))) (by omega)
    have a2_10 := (a2_9).below (hb10.below (by first | omega | (simp only [World.size_alloc]; omega) | (simp; omega))) (by omega)
    have w0r_10 := (w0r_9).below (hb10.below (by first | omega | (simp only [World.size_alloc]; omega) | (simp; omega))) (by omega)
    have x2_10 := (x2_9).chgHi hb10 (by omega) (by first | omega | (simp only [World.size_alloc]; omega) | (simp; omega))
    have g0r_10 := (g0r_9).chgHi hb10 (by omega) (by first | omega | (simp only [World.size_alloc]; omega) | (simp; omega))
    have tot_10 : Below w.heap.size w w10 := tot_9.trans ((hb10.below (by first | omega | (simp only [World.size_alloc]; omega) | (simp; omega))).mono (by omega))
    clear bx0_9 ba0_9 a0_9 a2_9 w0r_9 x0_9 x2_9 g0r_9 tot_9 hb10
    clear hq
    have hkk0 : ¬ (1 + (nx0 : Int) : Int) < 0 := by omega
    go_wp2_with fail
    refine (markIntS_any Ax2 nx2 kx2 (1 + (nx0 : Int)) d2 _ (B0 := w3.heap.size + 1) (B := w4.heap.size) (by exact (x2_10)) (by omega) (by omega)).mono ?_
    rintro e w11 ⟨rfl, hb11, hq⟩
    have hs11 := hb11.size
    have bx0_11 := (bx0_10).chg hb11 (by omega)
    have ba0_11 := (ba0_10).chg hb11 (by omega)
    have a0_11 := (a0_10).below (hb11.below (by first | omega | (simp only [World.size_alloc]; omega) | (simp; omega))) (by omega)
    have a2_11 := (a2_10).below (hb11.below (by first | omega | (simp only [World.size_alloc]; omega) | (simp; omega))) (by omega)
    have w0r_11 := (w0r_10).below (hb11.below (by first | omega | (simp only [World.size_alloc]; omega) | (simp; omega))) (by omega)
    have g0r_11 := (g0r_10).chgHi hb11 (by omega) (by first | omega | (simp only [World.size_alloc]; omega) | (simp; omega))
    have tot_11 : Below w.heap.size w w11 := tot_10.trans ((hb11.below (by first | omega | (simp only [World.size_alloc]; omega) | (simp; omega))).mono (by omega))
    clear bx0_10 ba0_10 a0_10 a2_10 w0r_10 x2_10 g0r_10 tot_10 hb11
    clear hq
    have hkk2 : ¬ ((1 + (nx0 : Int)) + (nx2 : Int) : Int) < 0 := by omega
    go_wp2_with fail
    refine (eqIntS_rv Ag0r Aw0r ng0r kg0r nw0r kw0r D0 D0 _ (B1 := w5.heap.size) (B2 := hiw0r) (by exact (g0r_11).rd) (by exact (w0r_11).rd)).mono ?_
    rintro e w12 ⟨rfl, hb12⟩
    have hs12 := hb12.size
    have bx0_12 := (bx0_11).below hb12 (by omega)
    have ba0_12 := (ba0_11).below hb12 (by omega)
    have a0_12 := (a0_11).below hb12 (by omega)
    have a2_12 := (a2_11).below hb12 (by omega)
    have w0r_12 := (w0r_11).below hb12 (by omega)
    have g0r_12 := (g0r_11).below hb12 (by omega)
    have tot_12 : Below w.heap.size w w12 := tot_11.trans (hb12.mono (by omega))
    clear bx0_11 ba0_11 a0_11 a2_11 w0r_11 g0r_11 tot_11 hb12
    rw [HR0]
    go_wp2_with fail
    refine (markIntS_any Ag0r ng0r kg0r 1 D0 _ (B0 := w4.heap.size) (B := w5.heap.size) (by exact (g0r_12)) (by omega) (by omega)).mono ?_
    rintro e w13 ⟨rfl, hb13, hq⟩
    have hs13 := hb13.size
    have bx0_13 := (bx0_12).chg hb13 (by omega)
    have ba0_13 := (ba0_12).chg hb13 (by omega)
    have a0_13 := (a0_12).below (hb13.below (by first | omega | (simp only [World.size_alloc]; omega) | (simp; omega))) (by omega)
    have a2_13 := (a2_12).below (hb13.below (by first | omega | (simp only [World.size_alloc]; omega) | (simp; omega))) (by omega)
    have w0r_13 := (w0r_12).below (hb13.below (by first | omega | (simp only [World.size_alloc]; omega) | (simp; omega))) (by omega)
    have tot_13 : Below w.heap.size w w13 := tot_12.trans ((hb13.below (by first | omega | (simp only [World.size_alloc]; omega) | (simp; omega))).mono (by omega))
    clear bx0_12 ba0_12 a0_12 a2_12 w0r_12 g0r_12 tot_12 hb13
    have g0r_13 := hq
    clear hq
    have hge : ¬ (1 + ((ng0r : Nat) : Int)) < 0 := by omega
    have hne : (1 + ((ng0r : Nat) : Int) != 1 + ((ng0r : Nat) : Int)) = false := by simp
    go_wp2_with fail
    refine (heldIntS_rv Ag0r ng0r kg0r 1 _ (B := w5.heap.size) (by exact (g0r_13).rd) (by omega) (by omega)).mono ?_
    rintro e w14 ⟨rfl, hb14⟩
    have hs14 := hb14.size
    have bx0_14 := (bx0_13).below hb14 (by omega)
    have ba0_14 := (ba0_13).below hb14 (by omega)
    have a0_14 := (a0_13).below hb14 (by omega)
    have a2_14 := (a2_13).below hb14 (by omega)
    have w0r_14 := (w0r_13).below hb14 (by omega)
    have g0r_14 := (g0r_13).below hb14 (by omega)
    have tot_14 : Below w.heap.size w w14 := tot_13.trans (hb14.mono (by omega))
    clear bx0_13 ba0_13 a0_13 a2_13 w0r_13 g0r_13 tot_13 hb14
    have hN15 : w.heap.size ≤ w14.heap.size := by omega
    go_upto_region 30 with fail
    go_cut [17, 18] (fun s17 s18 wx => CutI w14 D0 s17 wx ∧ s18 = .bool V1)
    have hlt0 : w.heap.size < w14.heap.size := by omega
    case first =>
      have hcur : Below w14.heap.size w14 w14 := Below.refl _ _
      obtain ⟨cz0_0, cz0_1, cz0_2⟩ := ba0_14.three
      go_wp2_with (first | (go_at_call_of 17 (Value.agg #[.int .i64 p0, .int .i64 q0, .slice A0 n0 k0]); refine (toAlgebra_any p0 q0 A0 n0 k0 d0 _ (B := w.heap.size) (by first | with_reducible exact a0_14.below hcur hN15 | with_reducible exact a0_14.below (Below.alo hcur) hN15 | with_reducible exact a0_14.below (Below.drew hcur) hN15 | with_reducible exact a0_14.below (Below.drew (Below.alo hcur)) hN15) (by first | with_reducible exact Nat.le_trans hN15 (hcur).size | with_reducible exact Nat.le_trans hN15 ((Below.alo hcur)).size | with_reducible exact Nat.le_trans hN15 ((Below.drew hcur)).size | with_reducible exact Nat.le_trans hN15 ((Below.drew (Below.alo hcur))).size) (by omega)).mono ?_; rintro e wc0 ⟨Ac0, nc0, kc0, rfl, hdc0, hbc0, hoc0⟩; have hrc0 := hoc0.rd; clear hoc0; (try with_reducible replace hbx := hbx.step hbc0); (first | ((with_reducible have hbx := Box.newA hbc0); have hgb := hcur.size) | ((with_reducible have hbx := Box.newAD hbc0); have hgb := hcur.size) | skip); (first | with_reducible replace hcur := Below.step hcur hbc0 | with_reducible replace hcur := Below.stepA hcur hbc0 | with_reducible replace hcur := Below.stepD hcur hbc0 | with_reducible replace hcur := Below.stepAD hcur hbc0); (first | with_reducible replace hrc2 := hrc2.step hbc0 | with_reducible replace hrc2 := hrc2.stepA hbc0 | skip); clear hbc0) | (go_at_call_of 18 (Value.slice A2 n2 k2); refine (toIntS_any A2 n2 k2 d2 _ (B := w.heap.size) (by first | with_reducible exact a2_14.below hcur hN15 | with_reducible exact a2_14.below (Below.alo hcur) hN15 | with_reducible exact a2_14.below (Below.drew hcur) hN15 | with_reducible exact a2_14.below (Below.drew (Below.alo hcur)) hN15) (by first | with_reducible exact Nat.le_trans hN15 (hcur).size | with_reducible exact Nat.le_trans hN15 ((Below.alo hcur)).size | with_reducible exact Nat.le_trans hN15 ((Below.drew hcur)).size | with_reducible exact Nat.le_trans hN15 ((Below.drew (Below.alo hcur))).size) (by omega)).mono ?_; rintro e wc2 ⟨Ac2, nc2, kc2, rfl, hdc2, hbc2, hoc2⟩; have hrc2 := hoc2.rd; clear hoc2; (try with_reducible replace hbx := hbx.step hbc2); (first | ((with_reducible have hbx := Box.newA hbc2); have hgb := hcur.size) | ((with_reducible have hbx := Box.newAD hbc2); have hgb := hcur.size) | skip); (first | with_reducible replace hcur := Below.step hcur hbc2 | with_reducible replace hcur := Below.stepA hcur hbc2 | with_reducible replace hcur := Below.stepD hcur hbc2 | with_reducible replace hcur := Below.stepAD hcur hbc2); (first | with_reducible replace hrc0 := hrc0.step hbc2 | with_reducible replace hrc0 := hrc0.stepA hbc2 | skip); clear hbc2) | (go_at_call 34; refine (hI.out _ Ac0 nc0 kc0 Ac2 nc2 kc2 _ (by first | with_reducible exact hrc0 | with_reducible exact hrc0.alo) hdc0 (by first | with_reducible exact hrc2 | with_reducible exact hrc2.alo) hdc2 (Nat.le_refl _)).mono ?_; rintro e wr ⟨Ah0r, nh0r, kh0r, rfl, hdAh0r, hbr, hq⟩; (try have hg2 := hbx.lt); have hlo := hcur.size; (try with_reducible replace hbx := hbx.step hbr); (first | ((with_reducible have hbx := Box.newA hbr); have hgb := hcur.size) | ((with_reducible have hbx := Box.newAD hbr); have hgb := hcur.size) | skip); (first | with_reducible replace hcur := Below.step hcur hbr | with_reducible replace hcur := Below.stepA hcur hbr | with_reducible replace hcur := Below.stepD hcur hbr | with_reducible replace hcur := Below.stepAD hcur hbr); (first | with_reducible replace hrc0 := hrc0.step hbr | with_reducible replace hrc0 := hrc0.stepA hbr | skip); (first | with_reducible replace hrc2 := hrc2.step hbr | with_reducible replace hrc2 := hrc2.stepA hbr | skip); (try obtain ⟨gc0, gc1, gc2, gc3⟩ := hbx.four); (try obtain ⟨gc0, gc1, gc2⟩ := hbx.three); (try have gcf := hbx.fz); clear hbr))
      all_goals
        go_meet
        first | exact ⟨CutI.a hcur hq hdAh0r hlo, rfl⟩ | exact CutI.a hcur hq hdAh0r hlo
    case rest =>
      obtain ⟨w15, hww⟩ : ∃ x, x = wc := ⟨_, rfl⟩
      subst hww
      obtain ⟨⟨Ah0r, nh0r, kh0r, loh0r, hih0r, rfl, hdAh0r, hq, ho2h0r, ho3h0r, hb15⟩, rfl⟩ := hcut
      have hs15 := hb15.size
      have bx0_15 := (bx0_14).below hb15 (by omega)
      have ba0_15 := (ba0_14).below hb15 (by omega)
      have a0_15 := (a0_14).below hb15 (by omega)
      have a2_15 := (a2_14).below hb15 (by omega)
      have w0r_15 := (w0r_14).below hb15 (by omega)
      have g0r_15 := (g0r_14).below hb15 (by omega)
      have tot_15 : Below w.heap.size w w15 := tot_14.trans (hb15.mono (by omega))
      clear bx0_14 ba0_14 a0_14 a2_14 w0r_14 g0r_14 tot_14 hb15
      have h0r_15 := hq
      clear hq
      have hNh0r : nh0r ≤ 1073741824 := by have := h0r_15.size; omega
      go_wp2_with fail
      refine (eqIntS_rv Ah0r Aw0r nh0r kh0r nw0r kw0r D0 D0 _ (B1 := hih0r) (B2 := hiw0r) (by exact (h0r_15).rd) (by exact (w0r_15).rd)).mono ?_
      rintro e w16 ⟨rfl, hb16⟩
      have hs16 := hb16.size
      have bx0_16 := (bx0_15).below hb16 (by omega)
      have ba0_16 := (ba0_15).below hb16 (by omega)
      have a0_16 := (a0_15).below hb16 (by omega)
      have a2_16 := (a2_15).below hb16 (by omega)
      have w0r_16 := (w0r_15).below hb16 (by omega)
      have g0r_16 := (g0r_15).below hb16 (by omega)
      have h0r_16 := (h0r_15).below hb16 (by omega)
      have tot_16 : Below w.heap.size w w16 := tot_15.trans (hb16.mono (by omega))
      clear bx0_15 ba0_15 a0_15 a2_15 w0r_15 g0r_15 h0r_15 tot_15 hb16
      rw [HR0]
      go_wp2_with fail
      refine (heldIntS_rv Ag0r ng0r kg0r 1 _ (B := w5.heap.size) (by exact (g0r_16).rd) (by omega) (by omega)).mono ?_
      rintro e w17 ⟨rfl, hb17⟩
      have hs17 := hb17.size
      have bx0_17 := (bx0_16).below hb17 (by omega)
      have ba0_17 := (ba0_16).below hb17 (by omega)
      have a0_17 := (a0_16).below hb17 (by omega)
      have a2_17 := (a2_16).below hb17 (by omega)
      have w0r_17 := (w0r_16).below hb17 (by omega)
      have g0r_17 := (g0r_16).below hb17 (by omega)
      have h0r_17 := (h0r_16).below hb17 (by omega)
      have tot_17 : Below w.heap.size w w17 := tot_16.trans (hb17.mono (by omega))
      clear bx0_16 ba0_16 a0_16 a2_16 w0r_16 g0r_16 h0r_16 tot_16 hb17
      go_wp2
      go_ret
      exact ⟨rfl, tot_17⟩
theorem law_PrimitiveOf_out2 (p0 q0 : Int) (A0 : Option Addr) (n0 k0 : Nat) (a1 : Int) (A2 : Option Addr) (n2 k2 : Nat) (w : World)  (hx : ¬ n2 ≤ 1048576) :
    Calls Try.prog 8 #[.agg #[.int .i64 p0, .int .i64 q0, .slice A0 n0 k0], .int .i64 a1, .slice A2 n2 k2] w (Rv (.bool true) w) := by
  have hvx : (1048576 : Int) < (n2 : Int) := by omega
  go_enter Try.func8, Try.ntmps8
  go_wp2
  go_ret
  exact ⟨rfl, (by repeat' (first | (with_reducible exact Below.refl _ _) | (with_reducible refine Below.setCell ?_ (by first | exact Nat.le_refl _ | omega | (simp only [World.size_alloc, World.size_setCell, World.heap_drewN]; omega) | (simp; omega)) _) | (with_reducible refine Below.alloc ?_ (by first | exact Nat.le_refl _ | omega | (simp only [World.size_alloc, World.size_setCell, World.heap_drewN]; omega) | (simp; omega)) _) | (with_reducible refine below_drewN ?_ _) | (with_reducible refine Below.drew ?_)))⟩
theorem law_PrimitiveOf_out0 (p0 q0 : Int) (A0 : Option Addr) (n0 k0 : Nat) (a1 : Int) (A2 : Option Addr) (n2 k2 : Nat) (w : World) (hm : n0 ≤ maxLen) (hn2 : n2 ≤ 1048576) (hx : ¬ n0 ≤ 1048576) :
    Calls Try.prog 8 #[.agg #[.int .i64 p0, .int .i64 q0, .slice A0 n0 k0], .int .i64 a1, .slice A2 n2 k2] w (Rv (.bool true) w) := by
  have hv2 : ¬ (1048576 : Int) < (n2 : Int) := by omega
  have HN0 := Lib.hid (show (if (n0 : Int) ≤ 1048576 then (1048576 : Int) - n0 else -1) = -1 from if_neg (by omega))
  go_enter Try.func8, Try.ntmps8
  have tot_0 : Below w.heap.size w w := Below.refl _ _
  go_wp2_with fail
  refine (szAlgebra_any p0 q0 A0 n0 k0 (1048576) _ hm (by omega) (by omega)).mono ?_
  rintro e w1 ⟨rfl, hb1⟩
  simp only [World.size_alloc] at hb1
  have hs1 := hb1.size
  simp only [World.size_alloc] at hs1
  have ba0_1 : Box w1 (w.heap.size) #[.int .i64 p0, .int .i64 q0, .slice A0 n0 k0] := by
    have hq := ((Box.new w #[.int .i64 p0, .int .i64 q0, .slice A0 n0 k0] _)).below hb1 (by first | omega | (simp only [World.size_alloc]; omega) | (simp; omega))
    (try simp only [World.size_alloc] at hq)
    exact hq
  have tot_1 : Below w.heap.size w w1 := (tot_0.alloc (by first | omega | (simp only [World.size_alloc]; omega) | (simp; omega)) _).trans (hb1.mono (by omega))
  clear tot_0 hb1
  rw [HN0.out]
  go_wp2
  go_ret
  exact ⟨rfl, tot_1⟩
theorem in_PrimitiveOf (p0 q0 : Int) (A0 : Option Addr) (n0 k0 : Nat) (d0 : List Int) (a1 : Int) (A2 : Option Addr) (n2 k2 : Nat) (d2 : List Int) (w : World) (h0 : RdI w w.heap.size A0 n0 d0) (h2 : RdI w w.heap.size A2 n2 d2) (hn : n0 ≤ 1048576) (hn2 : n2 ≤ 1048576) :
    Calls Try.prog 8 #[.agg #[.int .i64 p0, .int .i64 q0, .slice A0 n0 k0], .int .i64 a1, .slice A2 n2 k2] w (Rv (.bool true) w) := by
  rcases hch : chB p0 q0 d0 a1 d2 with _ | _
  · exact law_PrimitiveOf_in _ _ _ _ _ _ _ _ _ _ _ w h0 h2 hn hn2 [] false (by simp) (Lib.hid fun B A n k A' n' k' w h hd h' hd' hB => sPrm_no _ _ _ _ _ _ _ _ _ _ _ _ h hd h' hB hch) (Lib.hid fun B A n k A' n' k' w h hd h' hd' hB => iPrm_no _ _ _ _ _ _ _ _ _ _ _ _ h hd h' hB hch)
  · obtain ⟨N, K, rfl, rfl, hN, hK, hok, hp, hl, hr, hvl, hvr, hch⟩ := dfo_start hch
    rcases K with _ | K
    · exact law_PrimitiveOf_in _ _ _ _ _ _ _ _ _ _ _ w h0 h2 hn hn2 [] (zeroB d2) (by simp) (Lib.hid fun B A n k A' n' k' w h hd h' hd' hB => sPrm_zero _ _ _ _ _ _ _ _ _ _ _ h hd h' hB hch) (Lib.hid fun B A n k A' n' k' w h hd h' hd' hB => iPrm_zero _ _ _ _ _ _ _ _ _ _ _ h hd h' hB hch)
    · have h35 := nS_le hN (show K ≤ 8 by omega)
      exact law_PrimitiveOf_in _ _ _ _ _ _ _ _ _ _ _ w h0 h2 hn hn2 (solX (prS N K p0 d0 d2) (nS N K)) (solB (prS N K p0 d0 d2) (nS N K)) (by have := solX_le (prS N K p0 d0 d2) (nS N K); omega) (Lib.hid fun B A n k A' n' k' w h hd h' hd' hB => sPrm_ok _ _ _ _ _ _ _ _ _ _ _ _ h hd h' hB hN hK hp hl hr hvl hvr hch) (Lib.hid fun B A n k A' n' k' w h hd h' hd' hB => iPrm_ok _ _ _ _ _ _ _ _ _ _ _ _ h hd h' hB hN hK hp hl hr hvl hvr hch)
theorem walk_FnExactPrimitiveOf {w : World} (p0 q0 : Int) (v0p0 : (Lit.int .i64 p0).wf = true) (v0q0 : (Lit.int .i64 q0).wf = true) (A0 : Option Addr) (n0 k0 : Nat) (z0 : List Int) (y0 : IsRow .i64 w A0 n0 k0 z0) (a1 : Int) (v1 : (Lit.int .i64 a1).wf = true) (A2 : Option Addr) (n2 k2 : Nat) (z2 : List Int) (y2 : IsRow .i64 w A2 n2 k2 z2) :
    Calls Try.prog 8 #[.agg #[.int .i64 p0, .int .i64 q0, .slice A0 n0 k0], .int .i64 a1, .slice A2 n2 k2] w fun e w' => e = .returned (.bool true) ∧ Below w.heap.size w w' := by
  by_cases hn2 : n2 ≤ 1048576
  case neg => exact law_PrimitiveOf_out2 p0 q0 A0 n0 k0 a1 A2 n2 k2 w  hn2
  by_cases hm0 : n0 ≤ 1048576
  case neg => exact law_PrimitiveOf_out0 p0 q0 A0 n0 k0 a1 A2 n2 k2 w (RdI.ofRow y0).2.1 hn2  hm0
  exact in_PrimitiveOf p0 q0 A0 n0 k0 _ a1 A2 n2 k2 _ w (RdI.ofRow y0) (RdI.ofRow y2) hm0 hn2 
end Go.Proofs.Yticebbkmakpkjaa
