/- The walk of the law on AlongOf. No condition. -/
import Derived.Test.YticebbkmakpkjaaAlo2W
import Derived.Test.YticebbkmakpkjaaAlS
import Derived.Test.YticebbkmakpkjaaLawK
import Derived.Deep.DeepCutAuto
namespace Go.Proofs.Yticebbkmakpkjaa
set_option linter.unusedVariables false
set_option linter.unusedSimpArgs false
set_option maxRecDepth 20000
open Go.RowKit
set_option maxRecDepth 100000 in
set_option maxHeartbeats 4000000 in
theorem law_AlongOf_in (p0 q0 : Int) (A0 : Option Addr) (n0 k0 : Nat) (d0 : List Int) (A1 : Option Addr) (n1 k1 : Nat) (d1 : List Int) (a2 : Int) (A3 : Option Addr) (n3 k3 : Nat) (d3 : List Int) (w : World) (h0 : RdI w w.heap.size A0 n0 d0) (h1 : RdI w w.heap.size A1 n1 d1) (h3 : RdI w w.heap.size A3 n3 d3) (hn : n0 ≤ 1048576) (hn1 : n1 ≤ 1048576) (hn3 : n3 ≤ 1048576) (D0 : List Int) (hD0 : D0.length ≤ 1073741824)
    (hS : Hid (∀ (B : Nat) (A0 : Option Addr) (n0 k0 : Nat) (A1 : Option Addr) (n1 k1 : Nat) (A3 : Option Addr) (n3 k3 : Nat) (w : World), RdI w B A0 n0 d0 → Hd A0 n0 k0 → RdI w B A1 n1 d1 → Hd A1 n1 k1 → RdI w B A3 n3 d3 → Hd A3 n3 k3 → B ≤ w.heap.size → Calls Try.prog 27 #[.agg #[.int .i64 p0, .int .i64 q0, .slice A0 n0 k0], .slice A1 n1 k1, .int .i64 a2, .slice A3 n3 k3] w (RetI D0 w)))
    (hI : Hid (∀ (B : Nat) (A0 : Option Addr) (n0 k0 : Nat) (A1 : Option Addr) (n1 k1 : Nat) (A3 : Option Addr) (n3 k3 : Nat) (w : World), RdI w B A0 n0 d0 → Hd A0 n0 k0 → RdI w B A1 n1 d1 → Hd A1 n1 k1 → RdI w B A3 n3 d3 → Hd A3 n3 k3 → B ≤ w.heap.size → Calls Try.prog 28 #[.agg #[.int .i64 p0, .int .i64 q0, .slice A0 n0 k0], .slice A1 n1 k1, .int .i64 a2, .slice A3 n3 k3] w (RetI D0 w))) :
    Calls Try.prog 5 #[.agg #[.int .i64 p0, .int .i64 q0, .slice A0 n0 k0], .slice A1 n1 k1, .int .i64 a2, .slice A3 n3 k3] w (Rv (.bool true) w) := by
  have HT0 : (p0 == p0 && q0 == q0 && d0 == d0) = true := by simp
  have hdl0 : d0.length ≤ 1048576 := by have := h0.1; omega
  have HT1 : (d1 == d1) = true := by simp
  have hdl1 : d1.length ≤ 1048576 := by have := h1.1; omega
  have HT3 : (d3 == d3) = true := by simp
  have hdl3 : d3.length ≤ 1048576 := by have := h3.1; omega
  have HR0 : (D0 == D0) = true := by simp
  have HN0 := Lib.hid (show (if (n0 : Int) ≤ 1048576 then (1048576 : Int) - n0 else -1) = 1048576 - n0 from if_pos (by omega))
  have hl0 : ¬ ((1048576 - n0) : Int) < 0 := by omega
  have hv1 : ¬ (1048576 : Int) < (n1 : Int) := by omega
  have hv3 : ¬ (1048576 : Int) < (n3 : Int) := by omega
  go_enter Try.func5, Try.ntmps5
  have tot_0 : Below w.heap.size w w := Below.refl _ _
  have a0_0 := h0
  have a1_0 := h1
  have a3_0 := h3
  clear h0 h1 h3
  go_wp2_with fail
  refine (szAlgebra_any p0 q0 A0 n0 k0 (1048576) _ (by unfold maxLen; omega) (by omega) (by omega)).mono ?_
  rintro e w1 ⟨rfl, hb1⟩
  simp only [World.size_alloc] at hb1
  have hs1 := hb1.size
  simp only [World.size_alloc] at hs1
  have ba0_1 : Box w1 (w.heap.size) #[.int .i64 p0, .int .i64 q0, .slice A0 n0 k0] := by
    have hq := ((Box.new w #[.int .i64 p0, .int .i64 q0, .slice A0 n0 k0] _)).below hb1 (by first | omega | (simp only [World.size_alloc]; omega) | (simp; omega))
    (try simp only [World.size_alloc] at hq)
    exact hq
  have a0_1 := ((a0_0.alloc (by first | omega | (simp only [World.size_alloc]; omega) | (simp; omega)) _)).below hb1 (by omega)
  have a1_1 := ((a1_0.alloc (by first | omega | (simp only [World.size_alloc]; omega) | (simp; omega)) _)).below hb1 (by omega)
  have a3_1 := ((a3_0.alloc (by first | omega | (simp only [World.size_alloc]; omega) | (simp; omega)) _)).below hb1 (by omega)
  have tot_1 : Below w.heap.size w w1 := (tot_0.alloc (by first | omega | (simp only [World.size_alloc]; omega) | (simp; omega)) _).trans (hb1.mono (by omega))
  clear a0_0 a1_0 a3_0 tot_0 hb1
  rw [HN0.out]
  have hN2 : w.heap.size ≤ w1.heap.size := by omega
  go_upto_region 9 with fail
  go_cut [10] (fun s10 wx => CutI w1 D0 s10 wx)
  have hlt0 : w.heap.size < w1.heap.size := by omega
  case first =>
    have hcur : Below w1.heap.size w1 w1 := Below.refl _ _
    obtain ⟨cz0_0, cz0_1, cz0_2⟩ := ba0_1.three
    go_wp2_with (first | (go_at_call_of 17 (Value.agg #[.int .i64 p0, .int .i64 q0, .slice A0 n0 k0]); refine (toAlgebra_any p0 q0 A0 n0 k0 d0 _ (B := w.heap.size) (by first | with_reducible exact a0_1.below hcur hN2 | with_reducible exact a0_1.below (Below.alo hcur) hN2 | with_reducible exact a0_1.below (Below.drew hcur) hN2 | with_reducible exact a0_1.below (Below.drew (Below.alo hcur)) hN2) (by first | with_reducible exact Nat.le_trans hN2 (hcur).size | with_reducible exact Nat.le_trans hN2 ((Below.alo hcur)).size | with_reducible exact Nat.le_trans hN2 ((Below.drew hcur)).size | with_reducible exact Nat.le_trans hN2 ((Below.drew (Below.alo hcur))).size) (by omega)).mono ?_; rintro e wc0 ⟨Ac0, nc0, kc0, rfl, hdc0, hbc0, hoc0⟩; have hrc0 := hoc0.rd; clear hoc0; (try with_reducible replace hbx := hbx.step hbc0); (first | ((with_reducible have hbx := Box.newA hbc0); have hgb := hcur.size) | ((with_reducible have hbx := Box.newAD hbc0); have hgb := hcur.size) | skip); (first | with_reducible replace hcur := Below.step hcur hbc0 | with_reducible replace hcur := Below.stepA hcur hbc0 | with_reducible replace hcur := Below.stepD hcur hbc0 | with_reducible replace hcur := Below.stepAD hcur hbc0); (first | with_reducible replace hrc1 := hrc1.step hbc0 | with_reducible replace hrc1 := hrc1.stepA hbc0 | skip); (first | with_reducible replace hrc3 := hrc3.step hbc0 | with_reducible replace hrc3 := hrc3.stepA hbc0 | skip); clear hbc0) | (go_at_call_of 18 (Value.slice A1 n1 k1); refine (toIntS_any A1 n1 k1 d1 _ (B := w.heap.size) (by first | with_reducible exact a1_1.below hcur hN2 | with_reducible exact a1_1.below (Below.alo hcur) hN2 | with_reducible exact a1_1.below (Below.drew hcur) hN2 | with_reducible exact a1_1.below (Below.drew (Below.alo hcur)) hN2) (by first | with_reducible exact Nat.le_trans hN2 (hcur).size | with_reducible exact Nat.le_trans hN2 ((Below.alo hcur)).size | with_reducible exact Nat.le_trans hN2 ((Below.drew hcur)).size | with_reducible exact Nat.le_trans hN2 ((Below.drew (Below.alo hcur))).size) (by omega)).mono ?_; rintro e wc1 ⟨Ac1, nc1, kc1, rfl, hdc1, hbc1, hoc1⟩; have hrc1 := hoc1.rd; clear hoc1; (try with_reducible replace hbx := hbx.step hbc1); (first | ((with_reducible have hbx := Box.newA hbc1); have hgb := hcur.size) | ((with_reducible have hbx := Box.newAD hbc1); have hgb := hcur.size) | skip); (first | with_reducible replace hcur := Below.step hcur hbc1 | with_reducible replace hcur := Below.stepA hcur hbc1 | with_reducible replace hcur := Below.stepD hcur hbc1 | with_reducible replace hcur := Below.stepAD hcur hbc1); (first | with_reducible replace hrc0 := hrc0.step hbc1 | with_reducible replace hrc0 := hrc0.stepA hbc1 | skip); (first | with_reducible replace hrc3 := hrc3.step hbc1 | with_reducible replace hrc3 := hrc3.stepA hbc1 | skip); clear hbc1) | (go_at_call_of 18 (Value.slice A3 n3 k3); refine (toIntS_any A3 n3 k3 d3 _ (B := w.heap.size) (by first | with_reducible exact a3_1.below hcur hN2 | with_reducible exact a3_1.below (Below.alo hcur) hN2 | with_reducible exact a3_1.below (Below.drew hcur) hN2 | with_reducible exact a3_1.below (Below.drew (Below.alo hcur)) hN2) (by first | with_reducible exact Nat.le_trans hN2 (hcur).size | with_reducible exact Nat.le_trans hN2 ((Below.alo hcur)).size | with_reducible exact Nat.le_trans hN2 ((Below.drew hcur)).size | with_reducible exact Nat.le_trans hN2 ((Below.drew (Below.alo hcur))).size) (by omega)).mono ?_; rintro e wc3 ⟨Ac3, nc3, kc3, rfl, hdc3, hbc3, hoc3⟩; have hrc3 := hoc3.rd; clear hoc3; (try with_reducible replace hbx := hbx.step hbc3); (first | ((with_reducible have hbx := Box.newA hbc3); have hgb := hcur.size) | ((with_reducible have hbx := Box.newAD hbc3); have hgb := hcur.size) | skip); (first | with_reducible replace hcur := Below.step hcur hbc3 | with_reducible replace hcur := Below.stepA hcur hbc3 | with_reducible replace hcur := Below.stepD hcur hbc3 | with_reducible replace hcur := Below.stepAD hcur hbc3); (first | with_reducible replace hrc0 := hrc0.step hbc3 | with_reducible replace hrc0 := hrc0.stepA hbc3 | skip); (first | with_reducible replace hrc1 := hrc1.step hbc3 | with_reducible replace hrc1 := hrc1.stepA hbc3 | skip); clear hbc3) | (go_at_call 27; refine (hS.out _ Ac0 nc0 kc0 Ac1 nc1 kc1 Ac3 nc3 kc3 _ (by first | with_reducible exact hrc0 | with_reducible exact hrc0.alo) hdc0 (by first | with_reducible exact hrc1 | with_reducible exact hrc1.alo) hdc1 (by first | with_reducible exact hrc3 | with_reducible exact hrc3.alo) hdc3 (Nat.le_refl _)).mono ?_; rintro e wr ⟨Aw0r, nw0r, kw0r, rfl, hdAw0r, hbr, hq⟩; (try have hg2 := hbx.lt); have hlo := hcur.size; (try with_reducible replace hbx := hbx.step hbr); (first | ((with_reducible have hbx := Box.newA hbr); have hgb := hcur.size) | ((with_reducible have hbx := Box.newAD hbr); have hgb := hcur.size) | skip); (first | with_reducible replace hcur := Below.step hcur hbr | with_reducible replace hcur := Below.stepA hcur hbr | with_reducible replace hcur := Below.stepD hcur hbr | with_reducible replace hcur := Below.stepAD hcur hbr); (first | with_reducible replace hrc0 := hrc0.step hbr | with_reducible replace hrc0 := hrc0.stepA hbr | skip); (first | with_reducible replace hrc1 := hrc1.step hbr | with_reducible replace hrc1 := hrc1.stepA hbr | skip); (first | with_reducible replace hrc3 := hrc3.step hbr | with_reducible replace hrc3 := hrc3.stepA hbr | skip); (try obtain ⟨gc0, gc1, gc2, gc3⟩ := hbx.four); (try obtain ⟨gc0, gc1, gc2⟩ := hbx.three); (try have gcf := hbx.fz); clear hbr))
    all_goals
      go_meet
      first | exact CutI.a hcur hq hdAw0r hlo
  case rest =>
    obtain ⟨w2, hww⟩ : ∃ x, x = wc := ⟨_, rfl⟩
    subst hww
    obtain ⟨Aw0r, nw0r, kw0r, low0r, hiw0r, rfl, hdAw0r, hq, ho2w0r, ho3w0r, hb2⟩ := hcut
    have hs2 := hb2.size
    have ba0_2 := (ba0_1).below hb2 (by omega)
    have a0_2 := (a0_1).below hb2 (by omega)
    have a1_2 := (a1_1).below hb2 (by omega)
    have a3_2 := (a3_1).below hb2 (by omega)
    have tot_2 : Below w.heap.size w w2 := tot_1.trans (hb2.mono (by omega))
    clear ba0_1 a0_1 a1_1 a3_1 tot_1 hb2
    have w0r_2 := hq
    clear hq
    have hNw0r : nw0r ≤ 1073741824 := by have := w0r_2.size; omega
    obtain ⟨z_ba0_0, z_ba0_1, z_ba0_2⟩ := ba0_2.three
    have zz_ba0 : w.heap.size < w2.heap.size := by omega
    go_wp2_with fail
    refine (toAlgebra_any p0 q0 A0 n0 k0 d0 _ (B := w.heap.size) (by exact (a0_2)) (by first | exact Nat.le_refl _ | omega | (simp only [World.size_alloc]; omega) | (simp; omega)) (by omega)).mono ?_
    rintro e w3 ⟨Ax0, nx0, kx0, rfl, hdAx0, hb3, hq⟩
    clear z_ba0_0 z_ba0_1 z_ba0_2 zz_ba0
    have hs3 := hb3.size
    have ba0_3 := (ba0_2).below hb3 (by omega)
    have a0_3 := (a0_2).below hb3 (by omega)
    have a1_3 := (a1_2).below hb3 (by omega)
    have a3_3 := (a3_2).below hb3 (by omega)
    have w0r_3 := (w0r_2).below hb3 (by omega)
    have tot_3 : Below w.heap.size w w3 := tot_2.trans (hb3.mono (by omega))
    clear ba0_2 a0_2 a1_2 a3_2 w0r_2 tot_2 hb3
    try simp only [World.size_alloc] at hq
    have x0_3 := hq
    clear hq
    have hNx0 : nx0 ≤ 1048576 := by have := x0_3.size; omega
    go_wp2_with fail
    refine (toIntS_any A1 n1 k1 d1 _ (B := w.heap.size) (by exact ((a1_3.alloc (by first | omega | (simp only [World.size_alloc]; omega) | (simp; omega)) _))) (by first | exact Nat.le_refl _ | omega | (simp only [World.size_alloc]; omega) | (simp; omega)) (by omega)).mono ?_
    rintro e w4 ⟨Ax1, nx1, kx1, rfl, hdAx1, hb4, hq⟩
    simp only [World.size_alloc] at hb4
    have hs4 := hb4.size
    simp only [World.size_alloc] at hs4
    have bx0_4 : Box w4 (w3.heap.size) #[.int .i64 p0, .int .i64 q0, .slice Ax0 nx0 kx0] := by
      have hq := ((Box.new w3 #[.int .i64 p0, .int .i64 q0, .slice Ax0 nx0 kx0] _)).below hb4 (by first | omega | (simp only [World.size_alloc]; omega) | (simp; omega))
      (try simp only [World.size_alloc] at hq)
      exact hq
    have ba0_4 := ((ba0_3.alloc _)).below hb4 (by omega)
    have a0_4 := ((a0_3.alloc (by first | omega | (simp only [World.size_alloc]; omega) | (simp; omega)) _)).below hb4 (by omega)
    have a1_4 := ((a1_3.alloc (by first | omega | (simp only [World.size_alloc]; omega) | (simp; omega)) _)).below hb4 (by omega)
    have a3_4 := ((a3_3.alloc (by first | omega | (simp only [World.size_alloc]; omega) | (simp; omega)) _)).below hb4 (by omega)
    have w0r_4 := ((w0r_3.alloc (by first | omega | (simp only [World.size_alloc]; omega) | (simp; omega)) _)).below hb4 (by omega)
    have x0_4 := ((x0_3.alloc (by first | omega | (simp only [World.size_alloc]; omega) | (simp; omega)) _)).below hb4 (by omega)
    have tot_4 : Below w.heap.size w w4 := (tot_3.alloc (by first | omega | (simp only [World.size_alloc]; omega) | (simp; omega)) _).trans (hb4.mono (by omega))
    clear ba0_3 a0_3 a1_3 a3_3 w0r_3 x0_3 tot_3 hb4
    try simp only [World.size_alloc] at hq
    have x1_4 := hq
    clear hq
    have hNx1 : nx1 ≤ 1048576 := by have := x1_4.size; omega
    go_wp2_with fail
    refine (toIntS_any A3 n3 k3 d3 _ (B := w.heap.size) (by exact (a3_4)) (by first | exact Nat.le_refl _ | omega | (simp only [World.size_alloc]; omega) | (simp; omega)) (by omega)).mono ?_
    rintro e w5 ⟨Ax3, nx3, kx3, rfl, hdAx3, hb5, hq⟩
    have hs5 := hb5.size
    have bx0_5 := (bx0_4).below hb5 (by omega)
    have ba0_5 := (ba0_4).below hb5 (by omega)
    have a0_5 := (a0_4).below hb5 (by omega)
    have a1_5 := (a1_4).below hb5 (by omega)
    have a3_5 := (a3_4).below hb5 (by omega)
    have w0r_5 := (w0r_4).below hb5 (by omega)
    have x0_5 := (x0_4).below hb5 (by omega)
    have x1_5 := (x1_4).below hb5 (by omega)
    have tot_5 : Below w.heap.size w w5 := tot_4.trans (hb5.mono (by omega))
    clear bx0_4 ba0_4 a0_4 a1_4 a3_4 w0r_4 x0_4 x1_4 tot_4 hb5
    try simp only [World.size_alloc] at hq
    have x3_5 := hq
    clear hq
    have hNx3 : nx3 ≤ 1048576 := by have := x3_5.size; omega
    obtain ⟨z_bx0_0, z_bx0_1, z_bx0_2⟩ := bx0_5.three
    have zz_bx0 : w3.heap.size < w5.heap.size := by omega
    go_wp2_with fail
    refine (hI.out (w5.heap.size) Ax0 nx0 kx0 Ax1 nx1 kx1 Ax3 nx3 kx3 _ (by exact (x0_5).rd.up (by first | exact Nat.le_refl _ | omega | (simp only [World.size_alloc]; omega) | (simp; omega))) hdAx0 (by exact (x1_5).rd.up (by first | exact Nat.le_refl _ | omega | (simp only [World.size_alloc]; omega) | (simp; omega))) hdAx1 (by exact (x3_5).rd.up (by first | exact Nat.le_refl _ | omega | (simp only [World.size_alloc]; omega) | (simp; omega))) hdAx3 (by first | exact Nat.le_refl _ | omega | (simp only [World.size_alloc]; omega) | (simp; omega))).mono ?_
    rintro e w6 ⟨Ag0r, ng0r, kg0r, rfl, hdAg0r, hb6, hq⟩
    clear z_bx0_0 z_bx0_1 z_bx0_2 zz_bx0
    have hs6 := hb6.size
    have bx0_6 := (bx0_5).below hb6 (by omega)
    have ba0_6 := (ba0_5).below hb6 (by omega)
    have a0_6 := (a0_5).below hb6 (by omega)
    have a1_6 := (a1_5).below hb6 (by omega)
    have a3_6 := (a3_5).below hb6 (by omega)
    have w0r_6 := (w0r_5).below hb6 (by omega)
    have x0_6 := (x0_5).below hb6 (by omega)
    have x1_6 := (x1_5).below hb6 (by omega)
    have x3_6 := (x3_5).below hb6 (by omega)
    have tot_6 : Below w.heap.size w w6 := tot_5.trans (hb6.mono (by omega))
    clear bx0_5 ba0_5 a0_5 a1_5 a3_5 w0r_5 x0_5 x1_5 x3_5 tot_5 hb6
    try simp only [World.size_alloc] at hq
    have g0r_6 := hq
    clear hq
    have hNg0r : ng0r ≤ 1073741824 := by have := g0r_6.size; omega
    go_wp2_with fail
    refine (eqIntS_rv Ag0r Aw0r ng0r kg0r nw0r kw0r D0 D0 _ (B1 := w6.heap.size) (B2 := hiw0r) (by exact (g0r_6).rd) (by exact (w0r_6).rd)).mono ?_
    rintro e w7 ⟨rfl, hb7⟩
    have hs7 := hb7.size
    have bx0_7 := (bx0_6).below hb7 (by omega)
    have ba0_7 := (ba0_6).below hb7 (by omega)
    have a0_7 := (a0_6).below hb7 (by omega)
    have a1_7 := (a1_6).below hb7 (by omega)
    have a3_7 := (a3_6).below hb7 (by omega)
    have w0r_7 := (w0r_6).below hb7 (by omega)
    have x0_7 := (x0_6).below hb7 (by omega)
    have x1_7 := (x1_6).below hb7 (by omega)
    have x3_7 := (x3_6).below hb7 (by omega)
    have g0r_7 := (g0r_6).below hb7 (by omega)
    have tot_7 : Below w.heap.size w w7 := tot_6.trans (hb7.mono (by omega))
    clear bx0_6 ba0_6 a0_6 a1_6 a3_6 w0r_6 x0_6 x1_6 x3_6 g0r_6 tot_6 hb7
    rw [HR0]
    go_wp2_with fail
    go_region_held3 (fun w' => (w'.cell? ⟨w3.heap.size, 0, none⟩ = some (.int .i64 p0) ∧ w'.cell? ⟨w3.heap.size, 1, none⟩ = some (.int .i64 q0) ∧ w'.cell? ⟨w3.heap.size, 2, none⟩ = some (.slice Ax0 nx0 kx0)) ∧ w'.cell? ⟨w.heap.size, 0, none⟩ = some (.int .i64 p0) ∧ w'.cell? ⟨w.heap.size, 1, none⟩ = some (.int .i64 q0) ∧ w'.cell? ⟨w.heap.size, 2, none⟩ = some (.slice A0 n0 k0)) (first | exact ⟨bx0_7.three, ba0_7.three⟩ | exact ⟨(bx0_7.drew.below hbc (by show _ < w7.heap.size; omega)).three, (ba0_7.drew.below hbc (by show _ < w7.heap.size; omega)).three⟩ | exact ⟨((bx0_7.drew.below hbc (by show _ < w7.heap.size; omega)).below hbd (by first | omega | (simp only [World.size_alloc]; omega) | (simp; omega))).three, ((ba0_7.drew.below hbc (by show _ < w7.heap.size; omega)).below hbd (by first | omega | (simp only [World.size_alloc]; omega) | (simp; omega))).three⟩) (first | (go_at_call 17; refine (toAlgebra_any p0 q0 A0 n0 k0 d0 _ (B := w.heap.size) (by exact a0_7) (by show _ ≤ w7.heap.size; omega) (by omega)).mono ?_; rintro e wc ⟨Ay, ny, ky, rfl, hdAy, hbc, hoc⟩; have hsc : w7.heap.size ≤ wc.heap.size := hbc.size) | (go_at_call 20; refine (eqAlgebra_any p0 q0 Ax0 nx0 kx0 d0 p0 q0 Ay ny ky d0 _ (B1 := w3.heap.size) (B2 := wc.heap.size) (by exact (show OwI w7.drew (w2.heap.size) (w3.heap.size) Ax0 nx0 d0 from x0_7).rd.below hbc (by show _ ≤ w7.heap.size; omega)) (by omega) (by exact hoc.rd) (Nat.le_refl _)).mono ?_; rintro e wd ⟨rfl, hbd⟩; rw [HT0]; have hsd := hbd.size))
    have hb8 : Below w7.heap.size w7 wd := (Below.trans (a := w7) (b := w7.drew) ⟨rfl, rfl, rfl, Nat.le_refl _, fun _ _ => rfl⟩ (show Below w7.heap.size w7.drew wc from hbc)).trans (hbd.mono (by omega))
    clear hbc hbd hoc
    obtain ⟨w8, hww⟩ : ∃ x, x = wd := ⟨_, rfl⟩
    subst hww
    clear hsc hsd
    have hs8 := hb8.size
    have bx0_8 := (bx0_7).below hb8 (by omega)
    have ba0_8 := (ba0_7).below hb8 (by omega)
    have a0_8 := (a0_7).below hb8 (by omega)
    have a1_8 := (a1_7).below hb8 (by omega)
    have a3_8 := (a3_7).below hb8 (by omega)
    have w0r_8 := (w0r_7).below hb8 (by omega)
    have x0_8 := (x0_7).below hb8 (by omega)
    have x1_8 := (x1_7).below hb8 (by omega)
    have x3_8 := (x3_7).below hb8 (by omega)
    have g0r_8 := (g0r_7).below hb8 (by omega)
    have tot_8 : Below w.heap.size w w8 := tot_7.trans (hb8.mono (by omega))
    clear bx0_7 ba0_7 a0_7 a1_7 a3_7 w0r_7 x0_7 x1_7 x3_7 g0r_7 tot_7 hb8
    go_wp2_with fail
    refine (toIntS_any A1 n1 k1 d1 _ (B := w.heap.size) (by exact (a1_8)) (by first | exact Nat.le_refl _ | omega | (simp only [World.size_alloc]; omega) | (simp; omega)) (by omega)).mono ?_
    rintro e w9 ⟨Ay1, ny1, ky1, rfl, _, hb9, hq⟩
    have hs9 := hb9.size
    have bx0_9 := (bx0_8).below hb9 (by omega)
    have ba0_9 := (ba0_8).below hb9 (by omega)
    have a0_9 := (a0_8).below hb9 (by omega)
    have a1_9 := (a1_8).below hb9 (by omega)
    have a3_9 := (a3_8).below hb9 (by omega)
    have w0r_9 := (w0r_8).below hb9 (by omega)
    have x0_9 := (x0_8).below hb9 (by omega)
    have x1_9 := (x1_8).below hb9 (by omega)
    have x3_9 := (x3_8).below hb9 (by omega)
    have g0r_9 := (g0r_8).below hb9 (by omega)
    have tot_9 : Below w.heap.size w w9 := tot_8.trans (hb9.mono (by omega))
    clear bx0_8 ba0_8 a0_8 a1_8 a3_8 w0r_8 x0_8 x1_8 x3_8 g0r_8 tot_8 hb9
    try simp only [World.size_alloc] at hq
    have y1_9 := hq
    clear hq
    go_wp2_with fail
    refine (eqIntS_rv Ax1 Ay1 nx1 kx1 ny1 ky1 d1 d1 _ (B1 := w4.heap.size) (B2 := w9.heap.size) (by exact (x1_9).rd) (by exact (y1_9).rd)).mono ?_
    rintro e w10 ⟨rfl, hb10⟩
    have hs10 := hb10.size
    have bx0_10 := (bx0_9).below hb10 (by omega)
    have ba0_10 := (ba0_9).below hb10 (by omega)
    have a0_10 := (a0_9).below hb10 (by omega)
    have a1_10 := (a1_9).below hb10 (by omega)
    have a3_10 := (a3_9).below hb10 (by omega)
    have w0r_10 := (w0r_9).below hb10 (by omega)
    have x0_10 := (x0_9).below hb10 (by omega)
    have x1_10 := (x1_9).below hb10 (by omega)
    have x3_10 := (x3_9).below hb10 (by omega)
    have g0r_10 := (g0r_9).below hb10 (by omega)
    have y1_10 := (y1_9).below hb10 (by omega)
    have tot_10 : Below w.heap.size w w10 := tot_9.trans (hb10.mono (by omega))
    clear bx0_9 ba0_9 a0_9 a1_9 a3_9 w0r_9 x0_9 x1_9 x3_9 g0r_9 y1_9 tot_9 hb10
    rw [HT1]
    clear y1_10
    go_wp2_with fail
    refine (toIntS_any A3 n3 k3 d3 _ (B := w.heap.size) (by exact (a3_10)) (by first | exact Nat.le_refl _ | omega | (simp only [World.size_alloc]; omega) | (simp; omega)) (by omega)).mono ?_
    rintro e w11 ⟨Ay3, ny3, ky3, rfl, _, hb11, hq⟩
    have hs11 := hb11.size
    have bx0_11 := (bx0_10).below hb11 (by omega)
    have ba0_11 := (ba0_10).below hb11 (by omega)
    have a0_11 := (a0_10).below hb11 (by omega)
    have a1_11 := (a1_10).below hb11 (by omega)
    have a3_11 := (a3_10).below hb11 (by omega)
    have w0r_11 := (w0r_10).below hb11 (by omega)
    have x0_11 := (x0_10).below hb11 (by omega)
    have x1_11 := (x1_10).below hb11 (by omega)
    have x3_11 := (x3_10).below hb11 (by omega)
    have g0r_11 := (g0r_10).below hb11 (by omega)
    have tot_11 : Below w.heap.size w w11 := tot_10.trans (hb11.mono (by omega))
    clear bx0_10 ba0_10 a0_10 a1_10 a3_10 w0r_10 x0_10 x1_10 x3_10 g0r_10 tot_10 hb11
    try simp only [World.size_alloc] at hq
    have y3_11 := hq
    clear hq
    go_wp2_with fail
    refine (eqIntS_rv Ax3 Ay3 nx3 kx3 ny3 ky3 d3 d3 _ (B1 := w5.heap.size) (B2 := w11.heap.size) (by exact (x3_11).rd) (by exact (y3_11).rd)).mono ?_
    rintro e w12 ⟨rfl, hb12⟩
    have hs12 := hb12.size
    have bx0_12 := (bx0_11).below hb12 (by omega)
    have ba0_12 := (ba0_11).below hb12 (by omega)
    have a0_12 := (a0_11).below hb12 (by omega)
    have a1_12 := (a1_11).below hb12 (by omega)
    have a3_12 := (a3_11).below hb12 (by omega)
    have w0r_12 := (w0r_11).below hb12 (by omega)
    have x0_12 := (x0_11).below hb12 (by omega)
    have x1_12 := (x1_11).below hb12 (by omega)
    have x3_12 := (x3_11).below hb12 (by omega)
    have g0r_12 := (g0r_11).below hb12 (by omega)
    have y3_12 := (y3_11).below hb12 (by omega)
    have tot_12 : Below w.heap.size w w12 := tot_11.trans (hb12.mono (by omega))
    clear bx0_11 ba0_11 a0_11 a1_11 a3_11 w0r_11 x0_11 x1_11 x3_11 g0r_11 y3_11 tot_11 hb12
    rw [HT3]
    clear y3_12
    obtain ⟨z_bx0_0, z_bx0_1, z_bx0_2⟩ := bx0_12.three
    have zz_bx0 : w3.heap.size < w12.heap.size := by omega
    go_wp2_with fail
    refine (markAlgebra_any p0 q0 Ax0 nx0 kx0 d0 (1) _ (B0 := w2.heap.size) (B := w3.heap.size) (by exact (x0_12)) (by first | exact Nat.le_refl _ | omega | (simp only [World.size_alloc]; omega) | (simp; omega)) (by omega) (by omega)).mono ?_
    rintro e w13 ⟨rfl, hb13, hq⟩
    clear z_bx0_0 z_bx0_1 z_bx0_2 zz_bx0
    have hs13 := hb13.size
    have bx0_13 := (bx0_12).chg hb13 (by omega)
    have ba0_13 := (ba0_12).chg hb13 (by omega)
    have a0_13 := (a0_12).below (hb13.below (by first | omega | (simp only [World.size_alloc]; omega) | (simp; omega))) (by omega)
    have a1_13 := (a1_12).below (hb13.below (by first | omega | (simp only [World.size_alloc]; omega) | (simp; omega))) (by omega)
    have a3_13 := (a3_12).below (hb13.below (by first | omega | (simp only [World.size_alloc]; omega) | (simp; omega))) (by omega)
    have w0r_13 := (w0r_12).below (hb13.below (by first | omega | (simp only [World.size_alloc]; omega) | (simp; omega))) (by omega)
    have x1_13 := (x1_12).chgHi hb13 (by omega) (by first | omega | (simp only [World.size_alloc]; omega) | (simp; omega))
    have x3_13 := (x3_12).chgHi hb13 (by omega) (by first | omega | (simp only [World.size_alloc]; omega) | (simp; omega))
    have g0r_13 := (g0r_12).chgHi hb13 (by omega) (by first | omega | (simp only [World.size_alloc]; omega) | (simp; omega))
    have tot_13 : Below w.heap.size w w13 := tot_12.trans ((hb13.below (by first | omega | (simp only [World.size_alloc]; omega) | (simp; omega))).mono (by omega))
    clear bx0_12 ba0_12 a0_12 a1_12 a3_12 w0r_12 x0_12 x1_12 x3_12 g0r_12 tot_12 hb13
    clear hq
    have hkk0 : ¬ (1 + (nx0 : Int) : Int) < 0 := by omega
    go_wp2_with fail
    refine (markIntS_any Ax1 nx1 kx1 (1 + (nx0 : Int)) d1 _ (B0 := w3.heap.size + 1) (B := w4.heap.size) (by exact (x1_13)) (by omega) (by omega)).mono ?_
    rintro e w14 ⟨rfl, hb14, hq⟩
    have hs14 := hb14.size
    have bx0_14 := (bx0_13).chg hb14 (by omega)
    have ba0_14 := (ba0_13).chg hb14 (by omega)
    have a0_14 := (a0_13).below (hb14.below (by first | omega | (simp only [World.size_alloc]; omega) | (simp; omega))) (by omega)
    have a1_14 := (a1_13).below (hb14.below (by first | omega | (simp only [World.size_alloc]; omega) | (simp; omega))) (by omega)
    have a3_14 := (a3_13).below (hb14.below (by first | omega | (simp only [World.size_alloc]; omega) | (simp; omega))) (by omega)
    have w0r_14 := (w0r_13).below (hb14.below (by first | omega | (simp only [World.size_alloc]; omega) | (simp; omega))) (by omega)
    have x3_14 := (x3_13).chgHi hb14 (by omega) (by first | omega | (simp only [World.size_alloc]; omega) | (simp; omega))
    have g0r_14 := (g0r_13).chgHi hb14 (by omega) (by first | omega | (simp only [World.size_alloc]; omega) | (simp; omega))
    have tot_14 : Below w.heap.size w w14 := tot_13.trans ((hb14.below (by first | omega | (simp only [World.size_alloc]; omega) | (simp; omega))).mono (by omega))
    clear bx0_13 ba0_13 a0_13 a1_13 a3_13 w0r_13 x1_13 x3_13 g0r_13 tot_13 hb14
    clear hq
    have hkk1 : ¬ ((1 + (nx0 : Int)) + (nx1 : Int) : Int) < 0 := by omega
    go_wp2_with fail
    refine (markIntS_any Ax3 nx3 kx3 ((1 + (nx0 : Int)) + (nx1 : Int)) d3 _ (B0 := w4.heap.size) (B := w5.heap.size) (by exact (x3_14)) (by omega) (by omega)).mono ?_
    rintro e w15 ⟨rfl, hb15, hq⟩
    have hs15 := hb15.size
    have bx0_15 := (bx0_14).chg hb15 (by omega)
    have ba0_15 := (ba0_14).chg hb15 (by omega)
    have a0_15 := (a0_14).below (hb15.below (by first | omega | (simp only [World.size_alloc]; omega) | (simp; omega))) (by omega)
    have a1_15 := (a1_14).below (hb15.below (by first | omega | (simp only [World.size_alloc]; omega) | (simp; omega))) (by omega)
    have a3_15 := (a3_14).below (hb15.below (by first | omega | (simp only [World.size_alloc]; omega) | (simp; omega))) (by omega)
    have w0r_15 := (w0r_14).below (hb15.below (by first | omega | (simp only [World.size_alloc]; omega) | (simp; omega))) (by omega)
    have g0r_15 := (g0r_14).chgHi hb15 (by omega) (by first | omega | (simp only [World.size_alloc]; omega) | (simp; omega))
    have tot_15 : Below w.heap.size w w15 := tot_14.trans ((hb15.below (by first | omega | (simp only [World.size_alloc]; omega) | (simp; omega))).mono (by omega))
    clear bx0_14 ba0_14 a0_14 a1_14 a3_14 w0r_14 x3_14 g0r_14 tot_14 hb15
    clear hq
    have hkk3 : ¬ (((1 + (nx0 : Int)) + (nx1 : Int)) + (nx3 : Int) : Int) < 0 := by omega
    go_wp2_with fail
    refine (eqIntS_rv Ag0r Aw0r ng0r kg0r nw0r kw0r D0 D0 _ (B1 := w6.heap.size) (B2 := hiw0r) (by exact (g0r_15).rd) (by exact (w0r_15).rd)).mono ?_
    rintro e w16 ⟨rfl, hb16⟩
    have hs16 := hb16.size
    have bx0_16 := (bx0_15).below hb16 (by omega)
    have ba0_16 := (ba0_15).below hb16 (by omega)
    have a0_16 := (a0_15).below hb16 (by omega)
    have a1_16 := (a1_15).below hb16 (by omega)
    have a3_16 := (a3_15).below hb16 (by omega)
    have w0r_16 := (w0r_15).below hb16 (by omega)
    have g0r_16 := (g0r_15).below hb16 (by omega)
    have tot_16 : Below w.heap.size w w16 := tot_15.trans (hb16.mono (by omega))
    clear bx0_15 ba0_15 a0_15 a1_15 a3_15 w0r_15 g0r_15 tot_15 hb16
    rw [HR0]
    go_wp2_with fail
    refine (markIntS_any Ag0r ng0r kg0r 1 D0 _ (B0 := w5.heap.size) (B := w6.heap.size) (by exact (g0r_16)) (by omega) (by omega)).mono ?_
    rintro e w17 ⟨rfl, hb17, hq⟩
    have hs17 := hb17.size
    have bx0_17 := (bx0_16).chg hb17 (by omega)
    have ba0_17 := (ba0_16).chg hb17 (by omega)
    have a0_17 := (a0_16).below (hb17.below (by first | omega | (simp only [World.size_alloc]; omega) | (simp; omega))) (by omega)
    have a1_17 := (a1_16).below (hb17.below (by first | omega | (simp only [World.size_alloc]; omega) | (simp; omega))) (by omega)
    have a3_17 := (a3_16).below (hb17.below (by first | omega | (simp only [World.size_alloc]; omega) | (simp; omega))) (by omega)
    have w0r_17 := (w0r_16).below (hb17.below (by first | omega | (simp only [World.size_alloc]; omega) | (simp; omega))) (by omega)
    have tot_17 : Below w.heap.size w w17 := tot_16.trans ((hb17.below (by first | omega | (simp only [World.size_alloc]; omega) | (simp; omega))).mono (by omega))
    clear bx0_16 ba0_16 a0_16 a1_16 a3_16 w0r_16 g0r_16 tot_16 hb17
    have g0r_17 := hq
    clear hq
    have hge : ¬ (1 + ((ng0r : Nat) : Int)) < 0 := by omega
    have hne : (1 + ((ng0r : Nat) : Int) != 1 + ((ng0r : Nat) : Int)) = false := by simp
    go_wp2_with fail
    refine (heldIntS_rv Ag0r ng0r kg0r 1 _ (B := w6.heap.size) (by exact (g0r_17).rd) (by omega) (by omega)).mono ?_
    rintro e w18 ⟨rfl, hb18⟩
    have hs18 := hb18.size
    have bx0_18 := (bx0_17).below hb18 (by omega)
    have ba0_18 := (ba0_17).below hb18 (by omega)
    have a0_18 := (a0_17).below hb18 (by omega)
    have a1_18 := (a1_17).below hb18 (by omega)
    have a3_18 := (a3_17).below hb18 (by omega)
    have w0r_18 := (w0r_17).below hb18 (by omega)
    have g0r_18 := (g0r_17).below hb18 (by omega)
    have tot_18 : Below w.heap.size w w18 := tot_17.trans (hb18.mono (by omega))
    clear bx0_17 ba0_17 a0_17 a1_17 a3_17 w0r_17 g0r_17 tot_17 hb18
    have hN19 : w.heap.size ≤ w18.heap.size := by omega
    go_upto_region 36 with fail
    go_cut [18] (fun s18 wx => CutI w18 D0 s18 wx)
    have hlt0 : w.heap.size < w18.heap.size := by omega
    case first =>
      have hcur : Below w18.heap.size w18 w18 := Below.refl _ _
      obtain ⟨cz0_0, cz0_1, cz0_2⟩ := ba0_18.three
      go_wp2_with (first | (go_at_call_of 17 (Value.agg #[.int .i64 p0, .int .i64 q0, .slice A0 n0 k0]); refine (toAlgebra_any p0 q0 A0 n0 k0 d0 _ (B := w.heap.size) (by first | with_reducible exact a0_18.below hcur hN19 | with_reducible exact a0_18.below (Below.alo hcur) hN19 | with_reducible exact a0_18.below (Below.drew hcur) hN19 | with_reducible exact a0_18.below (Below.drew (Below.alo hcur)) hN19) (by first | with_reducible exact Nat.le_trans hN19 (hcur).size | with_reducible exact Nat.le_trans hN19 ((Below.alo hcur)).size | with_reducible exact Nat.le_trans hN19 ((Below.drew hcur)).size | with_reducible exact Nat.le_trans hN19 ((Below.drew (Below.alo hcur))).size) (by omega)).mono ?_; rintro e wc0 ⟨Ac0, nc0, kc0, rfl, hdc0, hbc0, hoc0⟩; have hrc0 := hoc0.rd; clear hoc0; (try with_reducible replace hbx := hbx.step hbc0); (first | ((with_reducible have hbx := Box.newA hbc0); have hgb := hcur.size) | ((with_reducible have hbx := Box.newAD hbc0); have hgb := hcur.size) | skip); (first | with_reducible replace hcur := Below.step hcur hbc0 | with_reducible replace hcur := Below.stepA hcur hbc0 | with_reducible replace hcur := Below.stepD hcur hbc0 | with_reducible replace hcur := Below.stepAD hcur hbc0); (first | with_reducible replace hrc1 := hrc1.step hbc0 | with_reducible replace hrc1 := hrc1.stepA hbc0 | skip); (first | with_reducible replace hrc3 := hrc3.step hbc0 | with_reducible replace hrc3 := hrc3.stepA hbc0 | skip); clear hbc0) | (go_at_call_of 18 (Value.slice A1 n1 k1); refine (toIntS_any A1 n1 k1 d1 _ (B := w.heap.size) (by first | with_reducible exact a1_18.below hcur hN19 | with_reducible exact a1_18.below (Below.alo hcur) hN19 | with_reducible exact a1_18.below (Below.drew hcur) hN19 | with_reducible exact a1_18.below (Below.drew (Below.alo hcur)) hN19) (by first | with_reducible exact Nat.le_trans hN19 (hcur).size | with_reducible exact Nat.le_trans hN19 ((Below.alo hcur)).size | with_reducible exact Nat.le_trans hN19 ((Below.drew hcur)).size | with_reducible exact Nat.le_trans hN19 ((Below.drew (Below.alo hcur))).size) (by omega)).mono ?_; rintro e wc1 ⟨Ac1, nc1, kc1, rfl, hdc1, hbc1, hoc1⟩; have hrc1 := hoc1.rd; clear hoc1; (try with_reducible replace hbx := hbx.step hbc1); (first | ((with_reducible have hbx := Box.newA hbc1); have hgb := hcur.size) | ((with_reducible have hbx := Box.newAD hbc1); have hgb := hcur.size) | skip); (first | with_reducible replace hcur := Below.step hcur hbc1 | with_reducible replace hcur := Below.stepA hcur hbc1 | with_reducible replace hcur := Below.stepD hcur hbc1 | with_reducible replace hcur := Below.stepAD hcur hbc1); (first | with_reducible replace hrc0 := hrc0.step hbc1 | with_reducible replace hrc0 := hrc0.stepA hbc1 | skip); (first | with_reducible replace hrc3 := hrc3.step hbc1 | with_reducible replace hrc3 := hrc3.stepA hbc1 | skip); clear hbc1) | (go_at_call_of 18 (Value.slice A3 n3 k3); refine (toIntS_any A3 n3 k3 d3 _ (B := w.heap.size) (by first | with_reducible exact a3_18.below hcur hN19 | with_reducible exact a3_18.below (Below.alo hcur) hN19 | with_reducible exact a3_18.below (Below.drew hcur) hN19 | with_reducible exact a3_18.below (Below.drew (Below.alo hcur)) hN19) (by first | with_reducible exact Nat.le_trans hN19 (hcur).size | with_reducible exact Nat.le_trans hN19 ((Below.alo hcur)).size | with_reducible exact Nat.le_trans hN19 ((Below.drew hcur)).size | with_reducible exact Nat.le_trans hN19 ((Below.drew (Below.alo hcur))).size) (by omega)).mono ?_; rintro e wc3 ⟨Ac3, nc3, kc3, rfl, hdc3, hbc3, hoc3⟩; have hrc3 := hoc3.rd; clear hoc3; (try with_reducible replace hbx := hbx.step hbc3); (first | ((with_reducible have hbx := Box.newA hbc3); have hgb := hcur.size) | ((with_reducible have hbx := Box.newAD hbc3); have hgb := hcur.size) | skip); (first | with_reducible replace hcur := Below.step hcur hbc3 | with_reducible replace hcur := Below.stepA hcur hbc3 | with_reducible replace hcur := Below.stepD hcur hbc3 | with_reducible replace hcur := Below.stepAD hcur hbc3); (first | with_reducible replace hrc0 := hrc0.step hbc3 | with_reducible replace hrc0 := hrc0.stepA hbc3 | skip); (first | with_reducible replace hrc1 := hrc1.step hbc3 | with_reducible replace hrc1 := hrc1.stepA hbc3 | skip); clear hbc3) | (go_at_call 28; refine (hI.out _ Ac0 nc0 kc0 Ac1 nc1 kc1 Ac3 nc3 kc3 _ (by first | with_reducible exact hrc0 | with_reducible exact hrc0.alo) hdc0 (by first | with_reducible exact hrc1 | with_reducible exact hrc1.alo) hdc1 (by first | with_reducible exact hrc3 | with_reducible exact hrc3.alo) hdc3 (Nat.le_refl _)).mono ?_; rintro e wr ⟨Ah0r, nh0r, kh0r, rfl, hdAh0r, hbr, hq⟩; (try have hg2 := hbx.lt); have hlo := hcur.size; (try with_reducible replace hbx := hbx.step hbr); (first | ((with_reducible have hbx := Box.newA hbr); have hgb := hcur.size) | ((with_reducible have hbx := Box.newAD hbr); have hgb := hcur.size) | skip); (first | with_reducible replace hcur := Below.step hcur hbr | with_reducible replace hcur := Below.stepA hcur hbr | with_reducible replace hcur := Below.stepD hcur hbr | with_reducible replace hcur := Below.stepAD hcur hbr); (first | with_reducible replace hrc0 := hrc0.step hbr | with_reducible replace hrc0 := hrc0.stepA hbr | skip); (first | with_reducible replace hrc1 := hrc1.step hbr | with_reducible replace hrc1 := hrc1.stepA hbr | skip); (first | with_reducible replace hrc3 := hrc3.step hbr | with_reducible replace hrc3 := hrc3.stepA hbr | skip); (try obtain ⟨gc0, gc1, gc2, gc3⟩ := hbx.four); (try obtain ⟨gc0, gc1, gc2⟩ := hbx.three); (try have gcf := hbx.fz); clear hbr))
      all_goals
        go_meet
        first | exact CutI.a hcur hq hdAh0r hlo
    case rest =>
      obtain ⟨w19, hww⟩ : ∃ x, x = wc := ⟨_, rfl⟩
      subst hww
      obtain ⟨Ah0r, nh0r, kh0r, loh0r, hih0r, rfl, hdAh0r, hq, ho2h0r, ho3h0r, hb19⟩ := hcut
      have hs19 := hb19.size
      have bx0_19 := (bx0_18).below hb19 (by omega)
      have ba0_19 := (ba0_18).below hb19 (by omega)
      have a0_19 := (a0_18).below hb19 (by omega)
      have a1_19 := (a1_18).below hb19 (by omega)
      have a3_19 := (a3_18).below hb19 (by omega)
      have w0r_19 := (w0r_18).below hb19 (by omega)
      have g0r_19 := (g0r_18).below hb19 (by omega)
      have tot_19 : Below w.heap.size w w19 := tot_18.trans (hb19.mono (by omega))
      clear bx0_18 ba0_18 a0_18 a1_18 a3_18 w0r_18 g0r_18 tot_18 hb19
      have h0r_19 := hq
      clear hq
      have hNh0r : nh0r ≤ 1073741824 := by have := h0r_19.size; omega
      go_wp2_with fail
      refine (eqIntS_rv Ah0r Aw0r nh0r kh0r nw0r kw0r D0 D0 _ (B1 := hih0r) (B2 := hiw0r) (by exact (h0r_19).rd) (by exact (w0r_19).rd)).mono ?_
      rintro e w20 ⟨rfl, hb20⟩
      have hs20 := hb20.size
      have bx0_20 := (bx0_19).below hb20 (by omega)
      have ba0_20 := (ba0_19).below hb20 (by omega)
      have a0_20 := (a0_19).below hb20 (by omega)
      have a1_20 := (a1_19).below hb20 (by omega)
      have a3_20 := (a3_19).below hb20 (by omega)
      have w0r_20 := (w0r_19).below hb20 (by omega)
      have g0r_20 := (g0r_19).below hb20 (by omega)
      have h0r_20 := (h0r_19).below hb20 (by omega)
      have tot_20 : Below w.heap.size w w20 := tot_19.trans (hb20.mono (by omega))
      clear bx0_19 ba0_19 a0_19 a1_19 a3_19 w0r_19 g0r_19 h0r_19 tot_19 hb20
      rw [HR0]
      go_wp2_with fail
      refine (heldIntS_rv Ag0r ng0r kg0r 1 _ (B := w6.heap.size) (by exact (g0r_20).rd) (by omega) (by omega)).mono ?_
      rintro e w21 ⟨rfl, hb21⟩
      have hs21 := hb21.size
      have bx0_21 := (bx0_20).below hb21 (by omega)
      have ba0_21 := (ba0_20).below hb21 (by omega)
      have a0_21 := (a0_20).below hb21 (by omega)
      have a1_21 := (a1_20).below hb21 (by omega)
      have a3_21 := (a3_20).below hb21 (by omega)
      have w0r_21 := (w0r_20).below hb21 (by omega)
      have g0r_21 := (g0r_20).below hb21 (by omega)
      have h0r_21 := (h0r_20).below hb21 (by omega)
      have tot_21 : Below w.heap.size w w21 := tot_20.trans (hb21.mono (by omega))
      clear bx0_20 ba0_20 a0_20 a1_20 a3_20 w0r_20 g0r_20 h0r_20 tot_20 hb21
      go_wp2
      go_ret
      exact ⟨rfl, tot_21⟩
theorem law_AlongOf_out1 (p0 q0 : Int) (A0 : Option Addr) (n0 k0 : Nat) (A1 : Option Addr) (n1 k1 : Nat) (a2 : Int) (A3 : Option Addr) (n3 k3 : Nat) (w : World)  (hx : ¬ n1 ≤ 1048576) :
    Calls Try.prog 5 #[.agg #[.int .i64 p0, .int .i64 q0, .slice A0 n0 k0], .slice A1 n1 k1, .int .i64 a2, .slice A3 n3 k3] w (Rv (.bool true) w) := by
  have hvx : (1048576 : Int) < (n1 : Int) := by omega
  go_enter Try.func5, Try.ntmps5
  go_wp2
  go_ret
  exact ⟨rfl, (by repeat' (first | (with_reducible exact Below.refl _ _) | (with_reducible refine Below.setCell ?_ (by first | exact Nat.le_refl _ | omega | (simp only [World.size_alloc, World.size_setCell, World.heap_drewN]; omega) | (simp; omega)) _) | (with_reducible refine Below.alloc ?_ (by first | exact Nat.le_refl _ | omega | (simp only [World.size_alloc, World.size_setCell, World.heap_drewN]; omega) | (simp; omega)) _) | (with_reducible refine below_drewN ?_ _) | (with_reducible refine Below.drew ?_)))⟩
theorem law_AlongOf_out3 (p0 q0 : Int) (A0 : Option Addr) (n0 k0 : Nat) (A1 : Option Addr) (n1 k1 : Nat) (a2 : Int) (A3 : Option Addr) (n3 k3 : Nat) (w : World) (hn1 : n1 ≤ 1048576) (hx : ¬ n3 ≤ 1048576) :
    Calls Try.prog 5 #[.agg #[.int .i64 p0, .int .i64 q0, .slice A0 n0 k0], .slice A1 n1 k1, .int .i64 a2, .slice A3 n3 k3] w (Rv (.bool true) w) := by
  have hv1 : ¬ (1048576 : Int) < (n1 : Int) := by omega
  have hvx : (1048576 : Int) < (n3 : Int) := by omega
  go_enter Try.func5, Try.ntmps5
  go_wp2
  go_ret
  exact ⟨rfl, (by repeat' (first | (with_reducible exact Below.refl _ _) | (with_reducible refine Below.setCell ?_ (by first | exact Nat.le_refl _ | omega | (simp only [World.size_alloc, World.size_setCell, World.heap_drewN]; omega) | (simp; omega)) _) | (with_reducible refine Below.alloc ?_ (by first | exact Nat.le_refl _ | omega | (simp only [World.size_alloc, World.size_setCell, World.heap_drewN]; omega) | (simp; omega)) _) | (with_reducible refine below_drewN ?_ _) | (with_reducible refine Below.drew ?_)))⟩
theorem law_AlongOf_out0 (p0 q0 : Int) (A0 : Option Addr) (n0 k0 : Nat) (A1 : Option Addr) (n1 k1 : Nat) (a2 : Int) (A3 : Option Addr) (n3 k3 : Nat) (w : World) (hm : n0 ≤ maxLen) (hn1 : n1 ≤ 1048576) (hn3 : n3 ≤ 1048576) (hx : ¬ n0 ≤ 1048576) :
    Calls Try.prog 5 #[.agg #[.int .i64 p0, .int .i64 q0, .slice A0 n0 k0], .slice A1 n1 k1, .int .i64 a2, .slice A3 n3 k3] w (Rv (.bool true) w) := by
  have hv1 : ¬ (1048576 : Int) < (n1 : Int) := by omega
  have hv3 : ¬ (1048576 : Int) < (n3 : Int) := by omega
  have HN0 := Lib.hid (show (if (n0 : Int) ≤ 1048576 then (1048576 : Int) - n0 else -1) = -1 from if_neg (by omega))
  go_enter Try.func5, Try.ntmps5
  have tot_0 : Below w.heap.size w w := Below.refl _ _
  go_wp2_with fail
  refine (szAlgebra_any p0 q0 A0 n0 k0 (1048576) _ hm (by omega) (by omega)).mono ?_
  rintro e w1 ⟨rfl, hb1⟩
  simp only [World.size_alloc] at hb1
  have hs1 := hb1.size
  simp only [World.size_alloc] at hs1
  have ba0_1 : Box w1 (w.heap.size) #[.int .i64 p0, .int .i64 q0, .slice A0 n0 k0] := by
    have hq := ((Box.new w #[.int .i64 p0, .int .i64 q0, .slice A0 n0 k0] _)).below hb1 (by first | omega | (simp only [World.size_alloc]; omega) | (simp; omega))
    (try simp only [World.size_alloc] at hq)
    exact hq
  have tot_1 : Below w.heap.size w w1 := (tot_0.alloc (by first | omega | (simp only [World.size_alloc]; omega) | (simp; omega)) _).trans (hb1.mono (by omega))
  clear tot_0 hb1
  rw [HN0.out]
  go_wp2
  go_ret
  exact ⟨rfl, tot_1⟩
theorem in_AlongOf (p0 q0 : Int) (A0 : Option Addr) (n0 k0 : Nat) (d0 : List Int) (A1 : Option Addr) (n1 k1 : Nat) (d1 : List Int) (a2 : Int) (A3 : Option Addr) (n3 k3 : Nat) (d3 : List Int) (w : World) (h0 : RdI w w.heap.size A0 n0 d0) (h1 : RdI w w.heap.size A1 n1 d1) (h3 : RdI w w.heap.size A3 n3 d3) (hn : n0 ≤ 1048576) (hn1 : n1 ≤ 1048576) (hn3 : n3 ≤ 1048576) :
    Calls Try.prog 5 #[.agg #[.int .i64 p0, .int .i64 q0, .slice A0 n0 k0], .slice A1 n1 k1, .int .i64 a2, .slice A3 n3 k3] w (Rv (.bool true) w) := by
  rcases hch : chB p0 q0 d0 a2 d3 with _ | _
  · exact law_AlongOf_in _ _ _ _ _ _ _ _ _ _ _ _ _ _ _ w h0 h1 h3 hn hn1 hn3 [] (by simp) (Lib.hid fun B A n k A' n' k' A'' n'' k'' w h hd h' hd' h'' hd'' hB => sAlo_no1 _ _ _ _ _ _ _ _ _ _ _ _ _ _ d1 _ h hd h'' hB hch) (Lib.hid fun B A n k A' n' k' A'' n'' k'' w h hd h' hd' h'' hd'' hB => iAlo_no1 _ _ _ _ _ _ _ _ _ _ _ _ _ _ d1 _ h hd h'' hB hch)
  · rcases hel : elB p0 q0 d1 with _ | _
    · exact law_AlongOf_in _ _ _ _ _ _ _ _ _ _ _ _ _ _ _ w h0 h1 h3 hn hn1 hn3 [] (by simp) (Lib.hid fun B A n k A' n' k' A'' n'' k'' w h hd h' hd' h'' hd'' hB => sAlo_no2 _ _ _ _ _ _ _ _ _ _ _ _ _ _ _ _ h hd h'' h' hB hch hel) (Lib.hid fun B A n k A' n' k' A'' n'' k'' w h hd h' hd' h'' hd'' hB => iAlo_no2 _ _ _ _ _ _ _ _ _ _ _ _ _ _ _ _ h hd h'' h' hB hch hel)
    · obtain ⟨N, K, rfl, rfl, hN, hK, hp, hl, hr, hvl, hvr, hxl, hxr, hch, hel⟩ := alo_start hch hel
      refine law_AlongOf_in _ _ _ _ _ _ _ _ _ _ _ _ _ _ _ w h0 h1 h3 hn hn1 hn3 (aoL N K p0 d0 d3 d1 (subs N K 0).length) ?_ (Lib.hid fun B A n k A' n' k' A'' n'' k'' w h hd h' hd' h'' hd'' hB => ?_) (Lib.hid fun B A n k A' n' k' A'' n'' k'' w h hd h' hd' h'' hd'' hB => ?_)
      · have h1 := subs_count N K 0
        have h2 := pow_bd hN (show K ≤ 8 by omega)
        simp [aoL]; omega
      · obtain rfl : N = n' := by rw [← hxl]; exact h'.1
        exact sAlo_ok _ _ _ _ _ _ _ _ _ _ _ _ _ _ _ h hd h'' h' hB hN hK hp hl hr hvl hvr hxr hch hel
      · obtain rfl : N = n' := by rw [← hxl]; exact h'.1
        exact iAlo_ok _ _ _ _ _ _ _ _ _ _ _ _ _ _ _ h hd h'' h' hB hN hK hp hl hr hvl hvr hxr hch hel
theorem walk_FnExactAlongOf {w : World} (p0 q0 : Int) (v0p0 : (Lit.int .i64 p0).wf = true) (v0q0 : (Lit.int .i64 q0).wf = true) (A0 : Option Addr) (n0 k0 : Nat) (z0 : List Int) (y0 : IsRow .i64 w A0 n0 k0 z0) (A1 : Option Addr) (n1 k1 : Nat) (z1 : List Int) (y1 : IsRow .i64 w A1 n1 k1 z1) (a2 : Int) (v2 : (Lit.int .i64 a2).wf = true) (A3 : Option Addr) (n3 k3 : Nat) (z3 : List Int) (y3 : IsRow .i64 w A3 n3 k3 z3) :
    Calls Try.prog 5 #[.agg #[.int .i64 p0, .int .i64 q0, .slice A0 n0 k0], .slice A1 n1 k1, .int .i64 a2, .slice A3 n3 k3] w fun e w' => e = .returned (.bool true) ∧ Below w.heap.size w w' := by
  by_cases hn1 : n1 ≤ 1048576
  case neg => exact law_AlongOf_out1 p0 q0 A0 n0 k0 A1 n1 k1 a2 A3 n3 k3 w  hn1
  by_cases hn3 : n3 ≤ 1048576
  case neg => exact law_AlongOf_out3 p0 q0 A0 n0 k0 A1 n1 k1 a2 A3 n3 k3 w hn1  hn3
  by_cases hm0 : n0 ≤ 1048576
  case neg => exact law_AlongOf_out0 p0 q0 A0 n0 k0 A1 n1 k1 a2 A3 n3 k3 w (RdI.ofRow y0).2.1 hn1 hn3  hm0
  exact in_AlongOf p0 q0 A0 n0 k0 _ A1 n1 k1 _ a2 A3 n3 k3 _ w (RdI.ofRow y0) (RdI.ofRow y1) (RdI.ofRow y3) hm0 hn1 hn3 
end Go.Proofs.Yticebbkmakpkjaa
