/- The walk of the law on SumAlgebras. No condition. -/
import Derived.Test.YticebbkmakpkjaaSmeW
import Derived.Test.YticebbkmakpkjaaSmbW
import Derived.Test.YticebbkmakpkjaaSmaW
import Derived.Test.YticebbkmakpkjaaAlS
import Derived.Test.YticebbkmakpkjaaLawK
import Derived.Deep.DeepCutAuto
namespace Go.Proofs.Yticebbkmakpkjaa
set_option linter.unusedVariables false
set_option linter.unusedSimpArgs false
set_option maxRecDepth 20000
open Go.RowKit
set_option maxRecDepth 100000 in
set_option maxHeartbeats 4000000 in
theorem law_SumAlgebras_in (p0 q0 : Int) (A0 : Option Addr) (n0 k0 : Nat) (d0 : List Int) (p1 q1 : Int) (A1 : Option Addr) (n1 k1 : Nat) (d1 : List Int) (w : World) (h0 : RdI w w.heap.size A0 n0 d0) (h1 : RdI w w.heap.size A1 n1 d1) (hn : n0 + n1 ≤ 1048576) (P0 Q0 : Int) (D0 : List Int) (V1 : Bool) (hD0 : D0.length ≤ 1073741824)
    (hS : Hid (∀ (B : Nat) (A0 : Option Addr) (n0 k0 : Nat) (A1 : Option Addr) (n1 k1 : Nat) (w : World), RdI w B A0 n0 d0 → Hd A0 n0 k0 → RdI w B A1 n1 d1 → Hd A1 n1 k1 → B ≤ w.heap.size → Calls Try.prog 40 #[.agg #[.int .i64 p0, .int .i64 q0, .slice A0 n0 k0], .agg #[.int .i64 p1, .int .i64 q1, .slice A1 n1 k1]] w (RetAB P0 Q0 D0 V1 w)))
    (hI : Hid (∀ (B : Nat) (A0 : Option Addr) (n0 k0 : Nat) (A1 : Option Addr) (n1 k1 : Nat) (w : World), RdI w B A0 n0 d0 → Hd A0 n0 k0 → RdI w B A1 n1 d1 → Hd A1 n1 k1 → B ≤ w.heap.size → Calls Try.prog 41 #[.agg #[.int .i64 p0, .int .i64 q0, .slice A0 n0 k0], .agg #[.int .i64 p1, .int .i64 q1, .slice A1 n1 k1]] w (RetAB P0 Q0 D0 V1 w))) :
    Calls Try.prog 10 #[.agg #[.int .i64 p0, .int .i64 q0, .slice A0 n0 k0], .agg #[.int .i64 p1, .int .i64 q1, .slice A1 n1 k1]] w (Rv (.bool true) w) := by
  have HT0 : (p0 == p0 && q0 == q0 && d0 == d0) = true := by simp
  have hdl0 : d0.length ≤ 1048576 := by have := h0.1; omega
  have HT1 : (p1 == p1 && q1 == q1 && d1 == d1) = true := by simp
  have hdl1 : d1.length ≤ 1048576 := by have := h1.1; omega
  have HR0 : (P0 == P0 && Q0 == Q0 && D0 == D0) = true := by simp
  have HR1 : (V1 != V1) = false := by simp
  have HN0 := Lib.hid (show (if (n0 : Int) ≤ 1048576 then (1048576 : Int) - n0 else -1) = 1048576 - n0 from if_pos (by omega))
  have hl0 : ¬ ((1048576 - n0) : Int) < 0 := by omega
  have HN1 := Lib.hid (show (if (n1 : Int) ≤ (1048576 - n0) then ((1048576 - n0) : Int) - n1 else -1) = (1048576 - n0) - n1 from if_pos (by omega))
  have hl1 : ¬ (((1048576 - n0) - n1) : Int) < 0 := by omega
  go_enter Try.func10, Try.ntmps10
  have tot_0 : Below w.heap.size w w := Below.refl _ _
  have a0_0 := h0
  have a1_0 := h1
  clear h0 h1
  go_wp2_with fail
  refine (szAlgebra_any p0 q0 A0 n0 k0 (1048576) _ (by unfold maxLen; omega) (by omega) (by omega)).mono ?_
  rintro e w1 ⟨rfl, hb1⟩
  simp only [World.size_alloc] at hb1
  have hs1 := hb1.size
  simp only [World.size_alloc] at hs1
  have ba0_1 : Box w1 (w.heap.size) #[.int .i64 p0, .int .i64 q0, .slice A0 n0 k0] := by
    have hq := (((Box.new w #[.int .i64 p0, .int .i64 q0, .slice A0 n0 k0] _).alloc _)).below hb1 (by first | omega | (simp only [World.size_alloc]; omega) | (simp; omega))
    (try simp only [World.size_alloc] at hq)
    exact hq
  have ba1_1 : Box w1 (w.heap.size + 1) #[.int .i64 p1, .int .i64 q1, .slice A1 n1 k1] := by
    have hq := ((Box.new (w.alloc _) #[.int .i64 p1, .int .i64 q1, .slice A1 n1 k1] _)).below hb1 (by first | omega | (simp only [World.size_alloc]; omega) | (simp; omega))
    (try simp only [World.size_alloc] at hq)
    exact hq
  have a0_1 := (((a0_0.alloc (by first | omega | (simp only [World.size_alloc]; omega) | (simp; omega)) _).alloc (by first | omega | (simp only [World.size_alloc]; omega) | (simp; omega)) _)).below hb1 (by omega)
  have a1_1 := (((a1_0.alloc (by first | omega | (simp only [World.size_alloc]; omega) | (simp; omega)) _).alloc (by first | omega | (simp only [World.size_alloc]; omega) | (simp; omega)) _)).below hb1 (by omega)
  have tot_1 : Below w.heap.size w w1 := ((tot_0.alloc (by first | omega | (simp only [World.size_alloc]; omega) | (simp; omega)) _).alloc (by first | omega | (simp only [World.size_alloc]; omega) | (simp; omega)) _).trans (hb1.mono (by omega))
  clear a0_0 a1_0 tot_0 hb1
  rw [HN0.out]
  obtain ⟨z_ba1_0, z_ba1_1, z_ba1_2⟩ := ba1_1.three
  have zz_ba1 : w.heap.size + 1 < w1.heap.size := by omega
  go_wp2_with fail
  refine (szAlgebra_any p1 q1 A1 n1 k1 ((1048576 - n0)) _ (by unfold maxLen; omega) (by omega) (by omega)).mono ?_
  rintro e w2 ⟨rfl, hb2⟩
  clear z_ba1_0 z_ba1_1 z_ba1_2 zz_ba1
  have hs2 := hb2.size
  have ba0_2 := (ba0_1).below hb2 (by omega)
  have ba1_2 := (ba1_1).below hb2 (by omega)
  have a0_2 := (a0_1).below hb2 (by omega)
  have a1_2 := (a1_1).below hb2 (by omega)
  have tot_2 : Below w.heap.size w w2 := tot_1.trans (hb2.mono (by omega))
  clear ba0_1 ba1_1 a0_1 a1_1 tot_1 hb2
  rw [HN1.out]
  have hN3 : w.heap.size ≤ w2.heap.size := by omega
  go_upto_region 8 with fail
  go_cut [6, 7] (fun s6 s7 wx => CutA w2 P0 Q0 D0 s6 wx ∧ s7 = .bool V1)
  have hlt0 : w.heap.size < w2.heap.size := by omega
  have hlt1 : w.heap.size + 1 < w2.heap.size := by omega
  case first =>
    have hcur : Below w2.heap.size w2 w2 := Below.refl _ _
    go_region_held3 (fun w' => (w'.cell? ⟨w.heap.size, 0, none⟩ = some (.int .i64 p0) ∧ w'.cell? ⟨w.heap.size, 1, none⟩ = some (.int .i64 q0) ∧ w'.cell? ⟨w.heap.size, 2, none⟩ = some (.slice A0 n0 k0)) ∧ (w'.cell? ⟨w.heap.size + 1, 0, none⟩ = some (.int .i64 p1) ∧ w'.cell? ⟨w.heap.size + 1, 1, none⟩ = some (.int .i64 q1) ∧ w'.cell? ⟨w.heap.size + 1, 2, none⟩ = some (.slice A1 n1 k1))) ((first | with_reducible exact ⟨(ba0_2.below hcur hlt0).three, (ba1_2.below hcur hlt1).three⟩ | with_reducible exact ⟨(ba0_2.below (Below.alo hcur) hlt0).three, (ba1_2.below (Below.alo hcur) hlt1).three⟩ | with_reducible exact ⟨(ba0_2.below (Below.drew hcur) hlt0).three, (ba1_2.below (Below.drew hcur) hlt1).three⟩ | with_reducible exact ⟨(ba0_2.below (Below.drew (Below.alo hcur)) hlt0).three, (ba1_2.below (Below.drew (Below.alo hcur)) hlt1).three⟩ | with_reducible exact ⟨(ba0_2.below (by repeat' (first | exact hcur | exact Below.alo hcur | (refine Below.setCell ?_ hgb _))) hlt0).three, (ba1_2.below (by repeat' (first | exact hcur | exact Below.alo hcur | (refine Below.setCell ?_ hgb _))) hlt1).three⟩)) (first | (go_at_call_of 17 (Value.agg #[.int .i64 p0, .int .i64 q0, .slice A0 n0 k0]); refine (toAlgebra_any p0 q0 A0 n0 k0 d0 _ (B := w.heap.size) (by first | with_reducible exact a0_2.below hcur hN3 | with_reducible exact a0_2.below (Below.alo hcur) hN3 | with_reducible exact a0_2.below (Below.drew hcur) hN3 | with_reducible exact a0_2.below (Below.drew (Below.alo hcur)) hN3) (by first | with_reducible exact Nat.le_trans hN3 (hcur).size | with_reducible exact Nat.le_trans hN3 ((Below.alo hcur)).size | with_reducible exact Nat.le_trans hN3 ((Below.drew hcur)).size | with_reducible exact Nat.le_trans hN3 ((Below.drew (Below.alo hcur))).size) (by omega)).mono ?_; rintro e wc0 ⟨Ac0, nc0, kc0, rfl, hdc0, hbc0, hoc0⟩; have hrc0 := hoc0.rd; clear hoc0; (try with_reducible replace hbx := hbx.step hbc0); (first | ((with_reducible have hbx := Box.newA hbc0); have hgb := hcur.size) | ((with_reducible have hbx := Box.newAD hbc0); have hgb := hcur.size) | skip); (first | with_reducible replace hcur := Below.step hcur hbc0 | with_reducible replace hcur := Below.stepA hcur hbc0 | with_reducible replace hcur := Below.stepD hcur hbc0 | with_reducible replace hcur := Below.stepAD hcur hbc0); (first | with_reducible replace hrc1 := hrc1.step hbc0 | with_reducible replace hrc1 := hrc1.stepA hbc0 | skip); clear hbc0) | (go_at_call_of 17 (Value.agg #[.int .i64 p1, .int .i64 q1, .slice A1 n1 k1]); refine (toAlgebra_any p1 q1 A1 n1 k1 d1 _ (B := w.heap.size) (by first | with_reducible exact a1_2.below hcur hN3 | with_reducible exact a1_2.below (Below.alo hcur) hN3 | with_reducible exact a1_2.below (Below.drew hcur) hN3 | with_reducible exact a1_2.below (Below.drew (Below.alo hcur)) hN3) (by first | with_reducible exact Nat.le_trans hN3 (hcur).size | with_reducible exact Nat.le_trans hN3 ((Below.alo hcur)).size | with_reducible exact Nat.le_trans hN3 ((Below.drew hcur)).size | with_reducible exact Nat.le_trans hN3 ((Below.drew (Below.alo hcur))).size) (by omega)).mono ?_; rintro e wc1 ⟨Ac1, nc1, kc1, rfl, hdc1, hbc1, hoc1⟩; have hrc1 := hoc1.rd; clear hoc1; (try with_reducible replace hbx := hbx.step hbc1); (first | ((with_reducible have hbx := Box.newA hbc1); have hgb := hcur.size) | ((with_reducible have hbx := Box.newAD hbc1); have hgb := hcur.size) | skip); (first | with_reducible replace hcur := Below.step hcur hbc1 | with_reducible replace hcur := Below.stepA hcur hbc1 | with_reducible replace hcur := Below.stepD hcur hbc1 | with_reducible replace hcur := Below.stepAD hcur hbc1); (first | with_reducible replace hrc0 := hrc0.step hbc1 | with_reducible replace hrc0 := hrc0.stepA hbc1 | skip); clear hbc1) | (go_at_call 40; refine (hS.out _ Ac0 nc0 kc0 Ac1 nc1 kc1 _ (by first | with_reducible exact hrc0 | with_reducible exact hrc0.alo) hdc0 (by first | with_reducible exact hrc1 | with_reducible exact hrc1.alo) hdc1 (Nat.le_refl _)).mono ?_; rintro e wr ⟨Aw0r, nw0r, kw0r, rfl, hdAw0r, hbr, hq⟩; (try have hg2 := hbx.lt); have hlo := hcur.size; (try with_reducible replace hbx := hbx.step hbr); (first | ((with_reducible have hbx := Box.newA hbr); have hgb := hcur.size) | ((with_reducible have hbx := Box.newAD hbr); have hgb := hcur.size) | skip); (first | with_reducible replace hcur := Below.step hcur hbr | with_reducible replace hcur := Below.stepA hcur hbr | with_reducible replace hcur := Below.stepD hcur hbr | with_reducible replace hcur := Below.stepAD hcur hbr); (first | with_reducible replace hrc0 := hrc0.step hbr | with_reducible replace hrc0 := hrc0.stepA hbr | skip); (first | with_reducible replace hrc1 := hrc1.step hbr | with_reducible replace hrc1 := hrc1.stepA hbr | skip); (try obtain ⟨gc0, gc1, gc2, gc3⟩ := hbx.four); (try obtain ⟨gc0, gc1, gc2⟩ := hbx.three); (try have gcf := hbx.fz); clear hbr))
    all_goals
      go_wp2_with fail
      go_meet
      first | exact ⟨CutA.a hcur hq hdAw0r (by first | exact hlo | exact Nat.le_trans hlo (by simp)) _, rfl⟩ | exact ⟨CutA.b hcur hbx hq hdAw0r (by first | exact hlo | exact Nat.le_trans hlo (by simp)) hgb (by first | exact hg2 | simp), rfl⟩ | exact CutA.a hcur hq hdAw0r (by first | exact hlo | exact Nat.le_trans hlo (by simp)) _ | exact CutA.b hcur hbx hq hdAw0r (by first | exact hlo | exact Nat.le_trans hlo (by simp)) hgb (by first | exact hg2 | simp)
  case rest =>
    obtain ⟨w3, hww⟩ : ∃ x, x = wc := ⟨_, rfl⟩
    subst hww
    obtain ⟨⟨gbw0r, Aw0r, nw0r, kw0r, low0r, hiw0r, rfl, hdAw0r, hbx, hq, ho1w0r, ho2w0r, ho3w0r, ho4w0r, ho5w0r, hb3⟩, rfl⟩ := hcut
    have hs3 := hb3.size
    have ba0_3 := (ba0_2).below hb3 (by omega)
    have ba1_3 := (ba1_2).below hb3 (by omega)
    have a0_3 := (a0_2).below hb3 (by omega)
    have a1_3 := (a1_2).below hb3 (by omega)
    have tot_3 : Below w.heap.size w w3 := tot_2.trans (hb3.mono (by omega))
    clear ba0_2 ba1_2 a0_2 a1_2 tot_2 hb3
    have w0r_3 := hq
    clear hq
    have hNw0r : nw0r ≤ 1073741824 := by have := w0r_3.size; omega
    have bw0r_3 := hbx
    clear hbx
    obtain ⟨z_ba0_0, z_ba0_1, z_ba0_2⟩ := ba0_3.three
    have zz_ba0 : w.heap.size < w3.heap.size := by omega
    go_wp2_with fail
    refine (toAlgebra_any p0 q0 A0 n0 k0 d0 _ (B := w.heap.size) (by exact (a0_3)) (by first | exact Nat.le_refl _ | omega | (simp only [World.size_alloc]; omega) | (simp; omega)) (by omega)).mono ?_
    rintro e w4 ⟨Ax0, nx0, kx0, rfl, hdAx0, hb4, hq⟩
    clear z_ba0_0 z_ba0_1 z_ba0_2 zz_ba0
    have hs4 := hb4.size
    have ba0_4 := (ba0_3).below hb4 (by omega)
    have ba1_4 := (ba1_3).below hb4 (by omega)
    have a0_4 := (a0_3).below hb4 (by omega)
    have a1_4 := (a1_3).below hb4 (by omega)
    have w0r_4 := (w0r_3).below hb4 (by omega)
    have bw0r_4 := (bw0r_3).below hb4 (by omega)
    have tot_4 : Below w.heap.size w w4 := tot_3.trans (hb4.mono (by omega))
    clear ba0_3 ba1_3 a0_3 a1_3 w0r_3 bw0r_3 tot_3 hb4
    try simp only [World.size_alloc] at hq
    have x0_4 := hq
    clear hq
    have hNx0 : nx0 ≤ 1048576 := by have := x0_4.size; omega
    obtain ⟨z_ba1_0, z_ba1_1, z_ba1_2⟩ := ba1_4.three
    have zz_ba1 : w.heap.size + 1 < w4.heap.size := by omega
    go_wp2_with fail
    refine (toAlgebra_any p1 q1 A1 n1 k1 d1 _ (B := w.heap.size) (by exact ((a1_4.alloc (by first | omega | (simp only [World.size_alloc]; omega) | (simp; omega)) _))) (by first | exact Nat.le_refl _ | omega | (simp only [World.size_alloc]; omega) | (simp; omega)) (by omega)).mono ?_
    rintro e w5 ⟨Ax1, nx1, kx1, rfl, hdAx1, hb5, hq⟩
    clear z_ba1_0 z_ba1_1 z_ba1_2 zz_ba1
    simp only [World.size_alloc] at hb5
    have hs5 := hb5.size
    simp only [World.size_alloc] at hs5
    have bx0_5 : Box w5 (w4.heap.size) #[.int .i64 p0, .int .i64 q0, .slice Ax0 nx0 kx0] := by
      have hq := ((Box.new w4 #[.int .i64 p0, .int .i64 q0, .slice Ax0 nx0 kx0] _)).below hb5 (by first | omega | (simp only [World.size_alloc]; omega) | (simp; omega))
      (try simp only [World.size_alloc] at hq)
      exact hq
    have ba0_5 := ((ba0_4.alloc _)).below hb5 (by omega)
    have ba1_5 := ((ba1_4.alloc _)).below hb5 (by omega)
    have a0_5 := ((a0_4.alloc (by first | omega | (simp only [World.size_alloc]; omega) | (simp; omega)) _)).below hb5 (by omega)
    have a1_5 := ((a1_4.alloc (by first | omega | (simp only [World.size_alloc]; omega) | (simp; omega)) _)).below hb5 (by omega)
    have w0r_5 := ((w0r_4.alloc (by first | omega | (simp only [World.size_alloc]; omega) | (simp; omega)) _)).below hb5 (by omega)
    have bw0r_5 := ((bw0r_4.alloc _)).below hb5 (by omega)
    have x0_5 := ((x0_4.alloc (by first | omega | (simp only [World.size_alloc]; omega) | (simp; omega)) _)).below hb5 (by omega)
    have tot_5 : Below w.heap.size w w5 := (tot_4.alloc (by first | omega | (simp only [World.size_alloc]; omega) | (simp; omega)) _).trans (hb5.mono (by omega))
    clear ba0_4 ba1_4 a0_4 a1_4 w0r_4 bw0r_4 x0_4 tot_4 hb5
    try simp only [World.size_alloc] at hq
    have x1_5 := hq
    clear hq
    have hNx1 : nx1 ≤ 1048576 := by have := x1_5.size; omega
    obtain ⟨z_bx0_0, z_bx0_1, z_bx0_2⟩ := bx0_5.three
    have zz_bx0 : w4.heap.size < w5.heap.size := by omega
    go_wp2_with fail
    refine (hI.out (w5.heap.size + 1) Ax0 nx0 kx0 Ax1 nx1 kx1 _ (by exact ((x0_5.alloc (by first | omega | (simp only [World.size_alloc]; omega) | (simp; omega)) _)).rd.up (by first | exact Nat.le_refl _ | omega | (simp only [World.size_alloc]; omega) | (simp; omega))) hdAx0 (by exact ((x1_5.alloc (by first | omega | (simp only [World.size_alloc]; omega) | (simp; omega)) _)).rd.up (by first | exact Nat.le_refl _ | omega | (simp only [World.size_alloc]; omega) | (simp; omega))) hdAx1 (by first | exact Nat.le_refl _ | omega | (simp only [World.size_alloc]; omega) | (simp; omega))).mono ?_
    rintro e w6 ⟨Ag0r, ng0r, kg0r, rfl, hdAg0r, hb6, hq⟩
    clear z_bx0_0 z_bx0_1 z_bx0_2 zz_bx0
    simp only [World.size_alloc] at hb6
    have hs6 := hb6.size
    simp only [World.size_alloc] at hs6
    have bx1_6 : Box w6 (w5.heap.size) #[.int .i64 p1, .int .i64 q1, .slice Ax1 nx1 kx1] := by
      have hq := ((Box.new w5 #[.int .i64 p1, .int .i64 q1, .slice Ax1 nx1 kx1] _)).below hb6 (by first | omega | (simp only [World.size_alloc]; omega) | (simp; omega))
      (try simp only [World.size_alloc] at hq)
      exact hq
    have bx0_6 := ((bx0_5.alloc _)).below hb6 (by omega)
    have ba0_6 := ((ba0_5.alloc _)).below hb6 (by omega)
    have ba1_6 := ((ba1_5.alloc _)).below hb6 (by omega)
    have a0_6 := ((a0_5.alloc (by first | omega | (simp only [World.size_alloc]; omega) | (simp; omega)) _)).below hb6 (by omega)
    have a1_6 := ((a1_5.alloc (by first | omega | (simp only [World.size_alloc]; omega) | (simp; omega)) _)).below hb6 (by omega)
    have w0r_6 := ((w0r_5.alloc (by first | omega | (simp only [World.size_alloc]; omega) | (simp; omega)) _)).below hb6 (by omega)
    have bw0r_6 := ((bw0r_5.alloc _)).below hb6 (by omega)
    have x0_6 := ((x0_5.alloc (by first | omega | (simp only [World.size_alloc]; omega) | (simp; omega)) _)).below hb6 (by omega)
    have x1_6 := ((x1_5.alloc (by first | omega | (simp only [World.size_alloc]; omega) | (simp; omega)) _)).below hb6 (by omega)
    have tot_6 : Below w.heap.size w w6 := (tot_5.alloc (by first | omega | (simp only [World.size_alloc]; omega) | (simp; omega)) _).trans (hb6.mono (by omega))
    clear bx0_5 ba0_5 ba1_5 a0_5 a1_5 w0r_5 bw0r_5 x0_5 x1_5 tot_5 hb6
    try simp only [World.size_alloc] at hq
    have g0r_6 := hq
    clear hq
    have hNg0r : ng0r ≤ 1073741824 := by have := g0r_6.size; omega
    obtain ⟨z_bw0r_0, z_bw0r_1, z_bw0r_2⟩ := bw0r_6.three
    have zz_bw0r : gbw0r < w6.heap.size := by omega
    go_wp2_with fail
    refine (eqAlgebra_any P0 Q0 Ag0r ng0r kg0r D0 P0 Q0 Aw0r nw0r kw0r D0 _ (B1 := w6.heap.size) (B2 := hiw0r) (by exact ((g0r_6.alloc (by first | omega | (simp only [World.size_alloc]; omega) | (simp; omega)) _)).rd) (by first | exact Nat.le_refl _ | omega | (simp only [World.size_alloc]; omega) | (simp; omega)) (by exact ((w0r_6.alloc (by first | omega | (simp only [World.size_alloc]; omega) | (simp; omega)) _)).rd) (by first | exact Nat.le_refl _ | omega | (simp only [World.size_alloc]; omega) | (simp; omega))).mono ?_
    rintro e w7 ⟨rfl, hb7⟩
    clear z_bw0r_0 z_bw0r_1 z_bw0r_2 zz_bw0r
    simp only [World.size_alloc] at hb7
    have hs7 := hb7.size
    simp only [World.size_alloc] at hs7
    have bg0r_7 : Box w7 (w6.heap.size) #[.int .i64 P0, .int .i64 Q0, .slice Ag0r ng0r kg0r] := by
      have hq := ((Box.new w6 #[.int .i64 P0, .int .i64 Q0, .slice Ag0r ng0r kg0r] _)).below hb7 (by first | omega | (simp only [World.size_alloc]; omega) | (simp; omega))
      (try simp only [World.size_alloc] at hq)
      exact hq
    have bx1_7 := ((bx1_6.alloc _)).below hb7 (by omega)
    have bx0_7 := ((bx0_6.alloc _)).below hb7 (by omega)
    have ba0_7 := ((ba0_6.alloc _)).below hb7 (by omega)
    have ba1_7 := ((ba1_6.alloc _)).below hb7 (by omega)
    have a0_7 := ((a0_6.alloc (by first | omega | (simp only [World.size_alloc]; omega) | (simp; omega)) _)).below hb7 (by omega)
    have a1_7 := ((a1_6.alloc (by first | omega | (simp only [World.size_alloc]; omega) | (simp; omega)) _)).below hb7 (by omega)
    have w0r_7 := ((w0r_6.alloc (by first | omega | (simp only [World.size_alloc]; omega) | (simp; omega)) _)).below hb7 (by omega)
    have bw0r_7 := ((bw0r_6.alloc _)).below hb7 (by omega)
    have x0_7 := ((x0_6.alloc (by first | omega | (simp only [World.size_alloc]; omega) | (simp; omega)) _)).below hb7 (by omega)
    have x1_7 := ((x1_6.alloc (by first | omega | (simp only [World.size_alloc]; omega) | (simp; omega)) _)).below hb7 (by omega)
    have g0r_7 := ((g0r_6.alloc (by first | omega | (simp only [World.size_alloc]; omega) | (simp; omega)) _)).below hb7 (by omega)
    have tot_7 : Below w.heap.size w w7 := (tot_6.alloc (by first | omega | (simp only [World.size_alloc]; omega) | (simp; omega)) _).trans (hb7.mono (by omega))
    clear bx1_6 bx0_6 ba0_6 ba1_6 a0_6 a1_6 w0r_6 bw0r_6 x0_6 x1_6 g0r_6 tot_6 hb7
    rw [HR0]
    go_wp2_with fail
    go_region_held3 (fun w' => (w'.cell? ⟨w4.heap.size, 0, none⟩ = some (.int .i64 p0) ∧ w'.cell? ⟨w4.heap.size, 1, none⟩ = some (.int .i64 q0) ∧ w'.cell? ⟨w4.heap.size, 2, none⟩ = some (.slice Ax0 nx0 kx0)) ∧ w'.cell? ⟨w.heap.size, 0, none⟩ = some (.int .i64 p0) ∧ w'.cell? ⟨w.heap.size, 1, none⟩ = some (.int .i64 q0) ∧ w'.cell? ⟨w.heap.size, 2, none⟩ = some (.slice A0 n0 k0)) (first | exact ⟨bx0_7.three, ba0_7.three⟩ | exact ⟨(bx0_7.drew.below hbc (by show _ < w7.heap.size; omega)).three, (ba0_7.drew.below hbc (by show _ < w7.heap.size; omega)).three⟩ | exact ⟨((bx0_7.drew.below hbc (by show _ < w7.heap.size; omega)).below hbd (by first | omega | (simp only [World.size_alloc]; omega) | (simp; omega))).three, ((ba0_7.drew.below hbc (by show _ < w7.heap.size; omega)).below hbd (by first | omega | (simp only [World.size_alloc]; omega) | (simp; omega))).three⟩) (first | (go_at_call 17; refine (toAlgebra_any p0 q0 A0 n0 k0 d0 _ (B := w.heap.size) (by exact a0_7) (by show _ ≤ w7.heap.size; omega) (by omega)).mono ?_; rintro e wc ⟨Ay, ny, ky, rfl, hdAy, hbc, hoc⟩; have hsc : w7.heap.size ≤ wc.heap.size := hbc.size) | (go_at_call 20; refine (eqAlgebra_any p0 q0 Ax0 nx0 kx0 d0 p0 q0 Ay ny ky d0 _ (B1 := w4.heap.size) (B2 := wc.heap.size) (by exact (show OwI w7.drew (w3.heap.size) (w4.heap.size) Ax0 nx0 d0 from x0_7).rd.below hbc (by show _ ≤ w7.heap.size; omega)) (by omega) (by exact hoc.rd) (Nat.le_refl _)).mono ?_; rintro e wd ⟨rfl, hbd⟩; rw [HT0]; have hsd := hbd.size))
    have hb8 : Below w7.heap.size w7 wd := (Below.trans (a := w7) (b := w7.drew) ⟨rfl, rfl, rfl, Nat.le_refl _, fun _ _ => rfl⟩ (show Below w7.heap.size w7.drew wc from hbc)).trans (hbd.mono (by omega))
    clear hbc hbd hoc
    obtain ⟨w8, hww⟩ : ∃ x, x = wd := ⟨_, rfl⟩
    subst hww
    clear hsc hsd
    have hs8 := hb8.size
    have bg0r_8 := (bg0r_7).below hb8 (by omega)
    have bx1_8 := (bx1_7).below hb8 (by omega)
    have bx0_8 := (bx0_7).below hb8 (by omega)
    have ba0_8 := (ba0_7).below hb8 (by omega)
    have ba1_8 := (ba1_7).below hb8 (by omega)
    have a0_8 := (a0_7).below hb8 (by omega)
    have a1_8 := (a1_7).below hb8 (by omega)
    have w0r_8 := (w0r_7).below hb8 (by omega)
    have bw0r_8 := (bw0r_7).below hb8 (by omega)
    have x0_8 := (x0_7).below hb8 (by omega)
    have x1_8 := (x1_7).below hb8 (by omega)
    have g0r_8 := (g0r_7).below hb8 (by omega)
    have tot_8 : Below w.heap.size w w8 := tot_7.trans (hb8.mono (by omega))
    clear bg0r_7 bx1_7 bx0_7 ba0_7 ba1_7 a0_7 a1_7 w0r_7 bw0r_7 x0_7 x1_7 g0r_7 tot_7 hb8
    go_wp2_with fail
    go_region_held3 (fun w' => (w'.cell? ⟨w5.heap.size, 0, none⟩ = some (.int .i64 p1) ∧ w'.cell? ⟨w5.heap.size, 1, none⟩ = some (.int .i64 q1) ∧ w'.cell? ⟨w5.heap.size, 2, none⟩ = some (.slice Ax1 nx1 kx1)) ∧ w'.cell? ⟨w.heap.size + 1, 0, none⟩ = some (.int .i64 p1) ∧ w'.cell? ⟨w.heap.size + 1, 1, none⟩ = some (.int .i64 q1) ∧ w'.cell? ⟨w.heap.size + 1, 2, none⟩ = some (.slice A1 n1 k1)) (first | exact ⟨bx1_8.three, ba1_8.three⟩ | exact ⟨(bx1_8.drew.below hbc (by show _ < w8.heap.size; omega)).three, (ba1_8.drew.below hbc (by show _ < w8.heap.size; omega)).three⟩ | exact ⟨((bx1_8.drew.below hbc (by show _ < w8.heap.size; omega)).below hbd (by first | omega | (simp only [World.size_alloc]; omega) | (simp; omega))).three, ((ba1_8.drew.below hbc (by show _ < w8.heap.size; omega)).below hbd (by first | omega | (simp only [World.size_alloc]; omega) | (simp; omega))).three⟩) (first | (go_at_call 17; refine (toAlgebra_any p1 q1 A1 n1 k1 d1 _ (B := w.heap.size) (by exact a1_8) (by show _ ≤ w8.heap.size; omega) (by omega)).mono ?_; rintro e wc ⟨Ay, ny, ky, rfl, hdAy, hbc, hoc⟩; have hsc : w8.heap.size ≤ wc.heap.size := hbc.size) | (go_at_call 20; refine (eqAlgebra_any p1 q1 Ax1 nx1 kx1 d1 p1 q1 Ay ny ky d1 _ (B1 := w5.heap.size) (B2 := wc.heap.size) (by exact (show OwI w8.drew (w4.heap.size + 1) (w5.heap.size) Ax1 nx1 d1 from x1_8).rd.below hbc (by show _ ≤ w8.heap.size; omega)) (by omega) (by exact hoc.rd) (Nat.le_refl _)).mono ?_; rintro e wd ⟨rfl, hbd⟩; rw [HT1]; have hsd := hbd.size))
    have hb9 : Below w8.heap.size w8 wd := (Below.trans (a := w8) (b := w8.drew) ⟨rfl, rfl, rfl, Nat.le_refl _, fun _ _ => rfl⟩ (show Below w8.heap.size w8.drew wc from hbc)).trans (hbd.mono (by omega))
    clear hbc hbd hoc
    obtain ⟨w9, hww⟩ : ∃ x, x = wd := ⟨_, rfl⟩
    subst hww
    clear hsc hsd
    have hs9 := hb9.size
    have bg0r_9 := (bg0r_8).below hb9 (by omega)
    have bx1_9 := (bx1_8).below hb9 (by omega)
    have bx0_9 := (bx0_8).below hb9 (by omega)
    have ba0_9 := (ba0_8).below hb9 (by omega)
    have ba1_9 := (ba1_8).below hb9 (by omega)
    have a0_9 := (a0_8).below hb9 (by omega)
    have a1_9 := (a1_8).below hb9 (by omega)
    have w0r_9 := (w0r_8).below hb9 (by omega)
    have bw0r_9 := (bw0r_8).below hb9 (by omega)
    have x0_9 := (x0_8).below hb9 (by omega)
    have x1_9 := (x1_8).below hb9 (by omega)
    have g0r_9 := (g0r_8).below hb9 (by omega)
    have tot_9 : Below w.heap.size w w9 := tot_8.trans (hb9.mono (by omega))
    clear bg0r_8 bx1_8 bx0_8 ba0_8 ba1_8 a0_8 a1_8 w0r_8 bw0r_8 x0_8 x1_8 g0r_8 tot_8 hb9
    obtain ⟨z_bx0_0, z_bx0_1, z_bx0_2⟩ := bx0_9.three
    have zz_bx0 : w4.heap.size < w9.heap.size := by omega
    go_wp2_with fail
    refine (markAlgebra_any p0 q0 Ax0 nx0 kx0 d0 (1) _ (B0 := w3.heap.size) (B := w4.heap.size) (by exact (x0_9)) (by first | exact Nat.le_refl _ | omega | (simp only [World.size_alloc]; omega) | (simp; omega)) (by omega) (by omega)).mono ?_
    rintro e w10 ⟨rfl, hb10, hq⟩
    clear z_bx0_0 z_bx0_1 z_bx0_2 zz_bx0
    have hs10 := hb10.size
    have bg0r_10 := (bg0r_9).chg hb10 (by omega)
    have bx1_10 := (bx1_9).chg hb10 (by omega)
    have bx0_10 := (bx0_9).chg hb10 (by omega)
    have ba0_10 := (ba0_9).chg hb10 (by omega)
    have ba1_10 := (ba1_9).chg hb10 (by omega)
    have a0_10 := (a0_9).below (hb10.below (by first | omega | (simp only [World.size_alloc]; omega) | (simp; omega))) (by omega)
    have a1_10 := (a1_9).below (hb10.below (by first | omega | (simp only [World.size_alloc]; omega) | (simp; omega))) (by omega)
    have w0r_10 := (w0r_9).below (hb10.below (by first | omega | (simp only [World.size_alloc]; omega) | (simp; omega))) (by omega)
    have bw0r_10 := (bw0r_9).chg hb10 (by omega)
    have x1_10 := (x1_9).chgHi hb10 (by omega) (by first | omega | (simp only [World.size_alloc]; omega) | (simp; omega))
    have g0r_10 := (g0r_9).chgHi hb10 (by omega) (by first | omega | (simp only [World.size_alloc]; omega) | (simp; omega))
    have tot_10 : Below w.heap.size w w10 := tot_9.trans ((hb10.below (by first | omega | (simp only [World.size_alloc]; omega) | (simp; omega))).mono (by omega))
    clear bg0r_9 bx1_9 bx0_9 ba0_9 ba1_9 a0_9 a1_9 w0r_9 bw0r_9 x0_9 x1_9 g0r_9 tot_9 hb10
    clear hq
    have hkk0 : ¬ (1 + (nx0 : Int) : Int) < 0 := by omega
    obtain ⟨z_bx1_0, z_bx1_1, z_bx1_2⟩ := bx1_10.three
    have zz_bx1 : w5.heap.size < w10.heap.size := by omega
    go_wp2_with fail
    refine (markAlgebra_any p1 q1 Ax1 nx1 kx1 d1 (1 + (nx0 : Int)) _ (B0 := w4.heap.size + 1) (B := w5.heap.size) (by exact (x1_10)) (by first | exact Nat.le_refl _ | omega | (simp only [World.size_alloc]; omega) | (simp; omega)) (by omega) (by omega)).mono ?_
    rintro e w11 ⟨rfl, hb11, hq⟩
    clear z_bx1_0 z_bx1_1 z_bx1_2 zz_bx1
    have hs11 := hb11.size
    have bg0r_11 := (bg0r_10).chg hb11 (by omega)
    have bx1_11 := (bx1_10).chg hb11 (by omega)
    have bx0_11 := (bx0_10).chg hb11 (by omega)
    have ba0_11 := (ba0_10).chg hb11 (by omega)
    have ba1_11 := (ba1_10).chg hb11 (by omega)
    have a0_11 := (a0_10).below (hb11.below (by first | omega | (simp only [World.size_alloc]; omega) | (simp; omega))) (by omega)
    have a1_11 := (a1_10).below (hb11.below (by first | omega | (simp only [World.size_alloc]; omega) | (simp; omega))) (by omega)
    have w0r_11 := (w0r_10).below (hb11.below (by first | omega | (simp only [World.size_alloc]; omega) | (simp; omega))) (by omega)
    have bw0r_11 := (bw0r_10).chg hb11 (by omega)
    have g0r_11 := (g0r_10).chgHi hb11 (by omega) (by first | omega | (simp only [World.size_alloc]; omega) | (simp; omega))
    have tot_11 : Below w.heap.size w w11 := tot_10.trans ((hb11.below (by first | omega | (simp only [World.size_alloc]; omega) | (simp; omega))).mono (by omega))
    clear bg0r_10 bx1_10 bx0_10 ba0_10 ba1_10 a0_10 a1_10 w0r_10 bw0r_10 x1_10 g0r_10 tot_10 hb11
    clear hq
    have hkk1 : ¬ ((1 + (nx0 : Int)) + (nx1 : Int) : Int) < 0 := by omega
    obtain ⟨z_bg0r_0, z_bg0r_1, z_bg0r_2⟩ := bg0r_11.three
    have zz_bg0r : w6.heap.size < w11.heap.size := by omega
    obtain ⟨z_bw0r_0, z_bw0r_1, z_bw0r_2⟩ := bw0r_11.three
    have zz_bw0r : gbw0r < w11.heap.size := by omega
    go_wp2_with fail
    refine (eqAlgebra_any P0 Q0 Ag0r ng0r kg0r D0 P0 Q0 Aw0r nw0r kw0r D0 _ (B1 := w6.heap.size) (B2 := hiw0r) (by exact (g0r_11).rd) (by first | exact Nat.le_refl _ | omega | (simp only [World.size_alloc]; omega) | (simp; omega)) (by exact (w0r_11).rd) (by first | exact Nat.le_refl _ | omega | (simp only [World.size_alloc]; omega) | (simp; omega))).mono ?_
    rintro e w12 ⟨rfl, hb12⟩
    clear z_bg0r_0 z_bg0r_1 z_bg0r_2 zz_bg0r z_bw0r_0 z_bw0r_1 z_bw0r_2 zz_bw0r
    have hs12 := hb12.size
    have bg0r_12 := (bg0r_11).below hb12 (by omega)
    have bx1_12 := (bx1_11).below hb12 (by omega)
    have bx0_12 := (bx0_11).below hb12 (by omega)
    have ba0_12 := (ba0_11).below hb12 (by omega)
    have ba1_12 := (ba1_11).below hb12 (by omega)
    have a0_12 := (a0_11).below hb12 (by omega)
    have a1_12 := (a1_11).below hb12 (by omega)
    have w0r_12 := (w0r_11).below hb12 (by omega)
    have bw0r_12 := (bw0r_11).below hb12 (by omega)
    have g0r_12 := (g0r_11).below hb12 (by omega)
    have tot_12 : Below w.heap.size w w12 := tot_11.trans (hb12.mono (by omega))
    clear bg0r_11 bx1_11 bx0_11 ba0_11 ba1_11 a0_11 a1_11 w0r_11 bw0r_11 g0r_11 tot_11 hb12
    rw [HR0]
    obtain ⟨z_bg0r_0, z_bg0r_1, z_bg0r_2⟩ := bg0r_12.three
    have zz_bg0r : w6.heap.size < w12.heap.size := by omega
    go_wp2_with fail
    refine (markAlgebra_any P0 Q0 Ag0r ng0r kg0r D0 1 _ (B0 := w5.heap.size + 1) (B := w6.heap.size) (by exact (g0r_12)) (by first | exact Nat.le_refl _ | omega | (simp only [World.size_alloc]; omega) | (simp; omega)) (by omega) (by omega)).mono ?_
    rintro e w13 ⟨rfl, hb13, hq⟩
    clear z_bg0r_0 z_bg0r_1 z_bg0r_2 zz_bg0r
    have hs13 := hb13.size
    have bg0r_13 := (bg0r_12).chg hb13 (by omega)
    have bx1_13 := (bx1_12).chg hb13 (by omega)
    have bx0_13 := (bx0_12).chg hb13 (by omega)
    have ba0_13 := (ba0_12).chg hb13 (by omega)
    have ba1_13 := (ba1_12).chg hb13 (by omega)
    have a0_13 := (a0_12).below (hb13.below (by first | omega | (simp only [World.size_alloc]; omega) | (simp; omega))) (by omega)
    have a1_13 := (a1_12).below (hb13.below (by first | omega | (simp only [World.size_alloc]; omega) | (simp; omega))) (by omega)
    have w0r_13 := (w0r_12).below (hb13.below (by first | omega | (simp only [World.size_alloc]; omega) | (simp; omega))) (by omega)
    have bw0r_13 := (bw0r_12).chg hb13 (by omega)
    have tot_13 : Below w.heap.size w w13 := tot_12.trans ((hb13.below (by first | omega | (simp only [World.size_alloc]; omega) | (simp; omega))).mono (by omega))
    clear bg0r_12 bx1_12 bx0_12 ba0_12 ba1_12 a0_12 a1_12 w0r_12 bw0r_12 g0r_12 tot_12 hb13
    have g0r_13 := hq
    clear hq
    have hge : ¬ (1 + ((ng0r : Nat) : Int)) < 0 := by omega
    have hne : (1 + ((ng0r : Nat) : Int) != 1 + ((ng0r : Nat) : Int)) = false := by simp
    obtain ⟨z_bg0r_0, z_bg0r_1, z_bg0r_2⟩ := bg0r_13.three
    have zz_bg0r : w6.heap.size < w13.heap.size := by omega
    go_wp2_with fail
    refine (heldAlgebra_any P0 Q0 Ag0r ng0r kg0r 1 _ (B := w6.heap.size) (by exact (g0r_13).rd) (by first | exact Nat.le_refl _ | omega | (simp only [World.size_alloc]; omega) | (simp; omega)) (by omega) (by omega)).mono ?_
    rintro e w14 ⟨rfl, hb14⟩
    clear z_bg0r_0 z_bg0r_1 z_bg0r_2 zz_bg0r
    have hs14 := hb14.size
    have bg0r_14 := (bg0r_13).below hb14 (by omega)
    have bx1_14 := (bx1_13).below hb14 (by omega)
    have bx0_14 := (bx0_13).below hb14 (by omega)
    have ba0_14 := (ba0_13).below hb14 (by omega)
    have ba1_14 := (ba1_13).below hb14 (by omega)
    have a0_14 := (a0_13).below hb14 (by omega)
    have a1_14 := (a1_13).below hb14 (by omega)
    have w0r_14 := (w0r_13).below hb14 (by omega)
    have bw0r_14 := (bw0r_13).below hb14 (by omega)
    have g0r_14 := (g0r_13).below hb14 (by omega)
    have tot_14 : Below w.heap.size w w14 := tot_13.trans (hb14.mono (by omega))
    clear bg0r_13 bx1_13 bx0_13 ba0_13 ba1_13 a0_13 a1_13 w0r_13 bw0r_13 g0r_13 tot_13 hb14
    have hN15 : w.heap.size ≤ w14.heap.size := by omega
    go_upto_region 31 with fail
    go_cut [15, 16] (fun s15 s16 wx => CutA w14 P0 Q0 D0 s15 wx ∧ s16 = .bool V1)
    have hlt0 : w.heap.size < w14.heap.size := by omega
    have hlt1 : w.heap.size + 1 < w14.heap.size := by omega
    case first =>
      have hcur : Below w14.heap.size w14 w14 := Below.refl _ _
      go_region_held3 (fun w' => (w'.cell? ⟨w.heap.size, 0, none⟩ = some (.int .i64 p0) ∧ w'.cell? ⟨w.heap.size, 1, none⟩ = some (.int .i64 q0) ∧ w'.cell? ⟨w.heap.size, 2, none⟩ = some (.slice A0 n0 k0)) ∧ (w'.cell? ⟨w.heap.size + 1, 0, none⟩ = some (.int .i64 p1) ∧ w'.cell? ⟨w.heap.size + 1, 1, none⟩ = some (.int .i64 q1) ∧ w'.cell? ⟨w.heap.size + 1, 2, none⟩ = some (.slice A1 n1 k1))) ((first | with_reducible exact ⟨(ba0_14.below hcur hlt0).three, (ba1_14.below hcur hlt1).three⟩ | with_reducible exact ⟨(ba0_14.below (Below.alo hcur) hlt0).three, (ba1_14.below (Below.alo hcur) hlt1).three⟩ | with_reducible exact ⟨(ba0_14.below (Below.drew hcur) hlt0).three, (ba1_14.below (Below.drew hcur) hlt1).three⟩ | with_reducible exact ⟨(ba0_14.below (Below.drew (Below.alo hcur)) hlt0).three, (ba1_14.below (Below.drew (Below.alo hcur)) hlt1).three⟩ | with_reducible exact ⟨(ba0_14.below (by repeat' (first | exact hcur | exact Below.alo hcur | (refine Below.setCell ?_ hgb _))) hlt0).three, (ba1_14.below (by repeat' (first | exact hcur | exact Below.alo hcur | (refine Below.setCell ?_ hgb _))) hlt1).three⟩)) (first | (go_at_call_of 17 (Value.agg #[.int .i64 p0, .int .i64 q0, .slice A0 n0 k0]); refine (toAlgebra_any p0 q0 A0 n0 k0 d0 _ (B := w.heap.size) (by first | with_reducible exact a0_14.below hcur hN15 | with_reducible exact a0_14.below (Below.alo hcur) hN15 | with_reducible exact a0_14.below (Below.drew hcur) hN15 | with_reducible exact a0_14.below (Below.drew (Below.alo hcur)) hN15) (by first | with_reducible exact Nat.le_trans hN15 (hcur).size | with_reducible exact Nat.le_trans hN15 ((Below.alo hcur)).size | with_reducible exact Nat.le_trans hN15 ((Below.drew hcur)).size | with_reducible exact Nat.le_trans hN15 ((Below.drew (Below.alo hcur))).size) (by omega)).mono ?_; rintro e wc0 ⟨Ac0, nc0, kc0, rfl, hdc0, hbc0, hoc0⟩; have hrc0 := hoc0.rd; clear hoc0; (try with_reducible replace hbx := hbx.step hbc0); (first | ((with_reducible have hbx := Box.newA hbc0); have hgb := hcur.size) | ((with_reducible have hbx := Box.newAD hbc0); have hgb := hcur.size) | skip); (first | with_reducible replace hcur := Below.step hcur hbc0 | with_reducible replace hcur := Below.stepA hcur hbc0 | with_reducible replace hcur := Below.stepD hcur hbc0 | with_reducible replace hcur := Below.stepAD hcur hbc0); (first | with_reducible replace hrc1 := hrc1.step hbc0 | with_reducible replace hrc1 := hrc1.stepA hbc0 | skip); clear hbc0) | (go_at_call_of 17 (Value.agg #[.int .i64 p1, .int .i64 q1, .slice A1 n1 k1]); refine (toAlgebra_any p1 q1 A1 n1 k1 d1 _ (B := w.heap.size) (by first | with_reducible exact a1_14.below hcur hN15 | with_reducible exact a1_14.below (Below.alo hcur) hN15 | with_reducible exact a1_14.below (Below.drew hcur) hN15 | with_reducible exact a1_14.below (Below.drew (Below.alo hcur)) hN15) (by first | with_reducible exact Nat.le_trans hN15 (hcur).size | with_reducible exact Nat.le_trans hN15 ((Below.alo hcur)).size | with_reducible exact Nat.le_trans hN15 ((Below.drew hcur)).size | with_reducible exact Nat.le_trans hN15 ((Below.drew (Below.alo hcur))).size) (by omega)).mono ?_; rintro e wc1 ⟨Ac1, nc1, kc1, rfl, hdc1, hbc1, hoc1⟩; have hrc1 := hoc1.rd; clear hoc1; (try with_reducible replace hbx := hbx.step hbc1); (first | ((with_reducible have hbx := Box.newA hbc1); have hgb := hcur.size) | ((with_reducible have hbx := Box.newAD hbc1); have hgb := hcur.size) | skip); (first | with_reducible replace hcur := Below.step hcur hbc1 | with_reducible replace hcur := Below.stepA hcur hbc1 | with_reducible replace hcur := Below.stepD hcur hbc1 | with_reducible replace hcur := Below.stepAD hcur hbc1); (first | with_reducible replace hrc0 := hrc0.step hbc1 | with_reducible replace hrc0 := hrc0.stepA hbc1 | skip); clear hbc1) | (go_at_call 41; refine (hI.out _ Ac0 nc0 kc0 Ac1 nc1 kc1 _ (by first | with_reducible exact hrc0 | with_reducible exact hrc0.alo) hdc0 (by first | with_reducible exact hrc1 | with_reducible exact hrc1.alo) hdc1 (Nat.le_refl _)).mono ?_; rintro e wr ⟨Ah0r, nh0r, kh0r, rfl, hdAh0r, hbr, hq⟩; (try have hg2 := hbx.lt); have hlo := hcur.size; (try with_reducible replace hbx := hbx.step hbr); (first | ((with_reducible have hbx := Box.newA hbr); have hgb := hcur.size) | ((with_reducible have hbx := Box.newAD hbr); have hgb := hcur.size) | skip); (first | with_reducible replace hcur := Below.step hcur hbr | with_reducible replace hcur := Below.stepA hcur hbr | with_reducible replace hcur := Below.stepD hcur hbr | with_reducible replace hcur := Below.stepAD hcur hbr); (first | with_reducible replace hrc0 := hrc0.step hbr | with_reducible replace hrc0 := hrc0.stepA hbr | skip); (first | with_reducible replace hrc1 := hrc1.step hbr | with_reducible replace hrc1 := hrc1.stepA hbr | skip); (try obtain ⟨gc0, gc1, gc2, gc3⟩ := hbx.four); (try obtain ⟨gc0, gc1, gc2⟩ := hbx.three); (try have gcf := hbx.fz); clear hbr))
      all_goals
        go_wp2_with fail
        go_meet
        first | exact ⟨CutA.a hcur hq hdAh0r (by first | exact hlo | exact Nat.le_trans hlo (by simp)) _, rfl⟩ | exact ⟨CutA.b hcur hbx hq hdAh0r (by first | exact hlo | exact Nat.le_trans hlo (by simp)) hgb (by first | exact hg2 | simp), rfl⟩ | exact CutA.a hcur hq hdAh0r (by first | exact hlo | exact Nat.le_trans hlo (by simp)) _ | exact CutA.b hcur hbx hq hdAh0r (by first | exact hlo | exact Nat.le_trans hlo (by simp)) hgb (by first | exact hg2 | simp)
    case rest =>
      obtain ⟨w15, hww⟩ : ∃ x, x = wc := ⟨_, rfl⟩
      subst hww
      obtain ⟨⟨gbh0r, Ah0r, nh0r, kh0r, loh0r, hih0r, rfl, hdAh0r, hbx, hq, ho1h0r, ho2h0r, ho3h0r, ho4h0r, ho5h0r, hb15⟩, rfl⟩ := hcut
      have hs15 := hb15.size
      have bg0r_15 := (bg0r_14).below hb15 (by omega)
      have bx1_15 := (bx1_14).below hb15 (by omega)
      have bx0_15 := (bx0_14).below hb15 (by omega)
      have ba0_15 := (ba0_14).below hb15 (by omega)
      have ba1_15 := (ba1_14).below hb15 (by omega)
      have a0_15 := (a0_14).below hb15 (by omega)
      have a1_15 := (a1_14).below hb15 (by omega)
      have w0r_15 := (w0r_14).below hb15 (by omega)
      have bw0r_15 := (bw0r_14).below hb15 (by omega)
      have g0r_15 := (g0r_14).below hb15 (by omega)
      have tot_15 : Below w.heap.size w w15 := tot_14.trans (hb15.mono (by omega))
      clear bg0r_14 bx1_14 bx0_14 ba0_14 ba1_14 a0_14 a1_14 w0r_14 bw0r_14 g0r_14 tot_14 hb15
      have h0r_15 := hq
      clear hq
      have hNh0r : nh0r ≤ 1073741824 := by have := h0r_15.size; omega
      have bh0r_15 := hbx
      clear hbx
      obtain ⟨z_bh0r_0, z_bh0r_1, z_bh0r_2⟩ := bh0r_15.three
      have zz_bh0r : gbh0r < w15.heap.size := by omega
      obtain ⟨z_bw0r_0, z_bw0r_1, z_bw0r_2⟩ := bw0r_15.three
      have zz_bw0r : gbw0r < w15.heap.size := by omega
      go_wp2_with fail
      refine (eqAlgebra_any P0 Q0 Ah0r nh0r kh0r D0 P0 Q0 Aw0r nw0r kw0r D0 _ (B1 := hih0r) (B2 := hiw0r) (by exact (h0r_15).rd) (by first | exact Nat.le_refl _ | omega | (simp only [World.size_alloc]; omega) | (simp; omega)) (by exact (w0r_15).rd) (by first | exact Nat.le_refl _ | omega | (simp only [World.size_alloc]; omega) | (simp; omega))).mono ?_
      rintro e w16 ⟨rfl, hb16⟩
      clear z_bh0r_0 z_bh0r_1 z_bh0r_2 zz_bh0r z_bw0r_0 z_bw0r_1 z_bw0r_2 zz_bw0r
      have hs16 := hb16.size
      have bg0r_16 := (bg0r_15).below hb16 (by omega)
      have bx1_16 := (bx1_15).below hb16 (by omega)
      have bx0_16 := (bx0_15).below hb16 (by omega)
      have ba0_16 := (ba0_15).below hb16 (by omega)
      have ba1_16 := (ba1_15).below hb16 (by omega)
      have a0_16 := (a0_15).below hb16 (by omega)
      have a1_16 := (a1_15).below hb16 (by omega)
      have w0r_16 := (w0r_15).below hb16 (by omega)
      have bw0r_16 := (bw0r_15).below hb16 (by omega)
      have g0r_16 := (g0r_15).below hb16 (by omega)
      have h0r_16 := (h0r_15).below hb16 (by omega)
      have bh0r_16 := (bh0r_15).below hb16 (by omega)
      have tot_16 : Below w.heap.size w w16 := tot_15.trans (hb16.mono (by omega))
      clear bg0r_15 bx1_15 bx0_15 ba0_15 ba1_15 a0_15 a1_15 w0r_15 bw0r_15 g0r_15 h0r_15 bh0r_15 tot_15 hb16
      rw [HR0]
      obtain ⟨z_bg0r_0, z_bg0r_1, z_bg0r_2⟩ := bg0r_16.three
      have zz_bg0r : w6.heap.size < w16.heap.size := by omega
      go_wp2_with fail
      refine (heldAlgebra_any P0 Q0 Ag0r ng0r kg0r 1 _ (B := w6.heap.size) (by exact (g0r_16).rd) (by first | exact Nat.le_refl _ | omega | (simp only [World.size_alloc]; omega) | (simp; omega)) (by omega) (by omega)).mono ?_
      rintro e w17 ⟨rfl, hb17⟩
      clear z_bg0r_0 z_bg0r_1 z_bg0r_2 zz_bg0r
      have hs17 := hb17.size
      have bg0r_17 := (bg0r_16).below hb17 (by omega)
      have bx1_17 := (bx1_16).below hb17 (by omega)
      have bx0_17 := (bx0_16).below hb17 (by omega)
      have ba0_17 := (ba0_16).below hb17 (by omega)
      have ba1_17 := (ba1_16).below hb17 (by omega)
      have a0_17 := (a0_16).below hb17 (by omega)
      have a1_17 := (a1_16).below hb17 (by omega)
      have w0r_17 := (w0r_16).below hb17 (by omega)
      have bw0r_17 := (bw0r_16).below hb17 (by omega)
      have g0r_17 := (g0r_16).below hb17 (by omega)
      have h0r_17 := (h0r_16).below hb17 (by omega)
      have bh0r_17 := (bh0r_16).below hb17 (by omega)
      have tot_17 : Below w.heap.size w w17 := tot_16.trans (hb17.mono (by omega))
      clear bg0r_16 bx1_16 bx0_16 ba0_16 ba1_16 a0_16 a1_16 w0r_16 bw0r_16 g0r_16 h0r_16 bh0r_16 tot_16 hb17
      go_wp2
      go_ret
      exact ⟨rfl, tot_17⟩
theorem law_SumAlgebras_out0 (p0 q0 : Int) (A0 : Option Addr) (n0 k0 : Nat) (p1 q1 : Int) (A1 : Option Addr) (n1 k1 : Nat) (w : World) (hm : n0 ≤ maxLen)  (hx : ¬ n0 ≤ 1048576) :
    Calls Try.prog 10 #[.agg #[.int .i64 p0, .int .i64 q0, .slice A0 n0 k0], .agg #[.int .i64 p1, .int .i64 q1, .slice A1 n1 k1]] w (Rv (.bool true) w) := by
  have HN0 := Lib.hid (show (if (n0 : Int) ≤ 1048576 then (1048576 : Int) - n0 else -1) = -1 from if_neg (by omega))
  go_enter Try.func10, Try.ntmps10
  have tot_0 : Below w.heap.size w w := Below.refl _ _
  go_wp2_with fail
  refine (szAlgebra_any p0 q0 A0 n0 k0 (1048576) _ hm (by omega) (by omega)).mono ?_
  rintro e w1 ⟨rfl, hb1⟩
  simp only [World.size_alloc] at hb1
  have hs1 := hb1.size
  simp only [World.size_alloc] at hs1
  have ba0_1 : Box w1 (w.heap.size) #[.int .i64 p0, .int .i64 q0, .slice A0 n0 k0] := by
    have hq := (((Box.new w #[.int .i64 p0, .int .i64 q0, .slice A0 n0 k0] _).alloc _)).below hb1 (by first | omega | (simp only [World.size_alloc]; omega) | (simp; omega))
    (try simp only [World.size_alloc] at hq)
    exact hq
  have ba1_1 : Box w1 (w.heap.size + 1) #[.int .i64 p1, .int .i64 q1, .slice A1 n1 k1] := by
    have hq := ((Box.new (w.alloc _) #[.int .i64 p1, .int .i64 q1, .slice A1 n1 k1] _)).below hb1 (by first | omega | (simp only [World.size_alloc]; omega) | (simp; omega))
    (try simp only [World.size_alloc] at hq)
    exact hq
  have tot_1 : Below w.heap.size w w1 := ((tot_0.alloc (by first | omega | (simp only [World.size_alloc]; omega) | (simp; omega)) _).alloc (by first | omega | (simp only [World.size_alloc]; omega) | (simp; omega)) _).trans (hb1.mono (by omega))
  clear tot_0 hb1
  rw [HN0.out]
  go_wp2
  go_ret
  exact ⟨rfl, tot_1⟩
theorem law_SumAlgebras_out1 (p0 q0 : Int) (A0 : Option Addr) (n0 k0 : Nat) (p1 q1 : Int) (A1 : Option Addr) (n1 k1 : Nat) (w : World) (hm : n1 ≤ maxLen)  (hn : n0 ≤ 1048576) (hx : ¬ n0 + n1 ≤ 1048576) :
    Calls Try.prog 10 #[.agg #[.int .i64 p0, .int .i64 q0, .slice A0 n0 k0], .agg #[.int .i64 p1, .int .i64 q1, .slice A1 n1 k1]] w (Rv (.bool true) w) := by
  have HN0 := Lib.hid (show (if (n0 : Int) ≤ 1048576 then (1048576 : Int) - n0 else -1) = 1048576 - n0 from if_pos (by omega))
  have hl0 : ¬ ((1048576 - n0) : Int) < 0 := by omega
  have HN1 := Lib.hid (show (if (n1 : Int) ≤ (1048576 - n0) then ((1048576 - n0) : Int) - n1 else -1) = -1 from if_neg (by omega))
  go_enter Try.func10, Try.ntmps10
  have tot_0 : Below w.heap.size w w := Below.refl _ _
  go_wp2_with fail
  refine (szAlgebra_any p0 q0 A0 n0 k0 (1048576) _ (by unfold maxLen; omega) (by omega) (by omega)).mono ?_
  rintro e w1 ⟨rfl, hb1⟩
  simp only [World.size_alloc] at hb1
  have hs1 := hb1.size
  simp only [World.size_alloc] at hs1
  have ba0_1 : Box w1 (w.heap.size) #[.int .i64 p0, .int .i64 q0, .slice A0 n0 k0] := by
    have hq := (((Box.new w #[.int .i64 p0, .int .i64 q0, .slice A0 n0 k0] _).alloc _)).below hb1 (by first | omega | (simp only [World.size_alloc]; omega) | (simp; omega))
    (try simp only [World.size_alloc] at hq)
    exact hq
  have ba1_1 : Box w1 (w.heap.size + 1) #[.int .i64 p1, .int .i64 q1, .slice A1 n1 k1] := by
    have hq := ((Box.new (w.alloc _) #[.int .i64 p1, .int .i64 q1, .slice A1 n1 k1] _)).below hb1 (by first | omega | (simp only [World.size_alloc]; omega) | (simp; omega))
    (try simp only [World.size_alloc] at hq)
    exact hq
  have tot_1 : Below w.heap.size w w1 := ((tot_0.alloc (by first | omega | (simp only [World.size_alloc]; omega) | (simp; omega)) _).alloc (by first | omega | (simp only [World.size_alloc]; omega) | (simp; omega)) _).trans (hb1.mono (by omega))
  clear tot_0 hb1
  rw [HN0.out]
  obtain ⟨z_ba1_0, z_ba1_1, z_ba1_2⟩ := ba1_1.three
  have zz_ba1 : w.heap.size + 1 < w1.heap.size := by omega
  go_wp2_with fail
  refine (szAlgebra_any p1 q1 A1 n1 k1 ((1048576 - n0)) _ hm (by omega) (by omega)).mono ?_
  rintro e w2 ⟨rfl, hb2⟩
  clear z_ba1_0 z_ba1_1 z_ba1_2 zz_ba1
  have hs2 := hb2.size
  have ba0_2 := (ba0_1).below hb2 (by omega)
  have ba1_2 := (ba1_1).below hb2 (by omega)
  have tot_2 : Below w.heap.size w w2 := tot_1.trans (hb2.mono (by omega))
  clear ba0_1 ba1_1 tot_1 hb2
  rw [HN1.out]
  go_wp2
  go_ret
  exact ⟨rfl, tot_2⟩
theorem in_SumAlgebras (p0 q0 : Int) (A0 : Option Addr) (n0 k0 : Nat) (d0 : List Int) (p1 q1 : Int) (A1 : Option Addr) (n1 k1 : Nat) (d1 : List Int) (w : World) (h0 : RdI w w.heap.size A0 n0 d0) (h1 : RdI w w.heap.size A1 n1 d1) (hn : n0 + n1 ≤ 1048576) :
    Calls Try.prog 10 #[.agg #[.int .i64 p0, .int .i64 q0, .slice A0 n0 k0], .agg #[.int .i64 p1, .int .i64 q1, .slice A1 n1 k1]] w (Rv (.bool true) w) := by
  rcases hok : okA p0 q0 d0 with _ | _
  · exact law_SumAlgebras_in _ _ _ _ _ _ _ _ _ _ _ _ w h0 h1 hn 0 0 [] false (by simp) (Lib.hid fun B A n k A' n' k' w h hd h' hd' hB => sSma_no1 _ _ _ _ _ _ _ _ _ _ _ d1 _ h hd hB hok) (Lib.hid fun B A n k A' n' k' w h hd h' hd' hB => iSma_no1 _ _ _ _ _ _ _ _ _ _ _ d1 _ h hd hB hok)
  · rcases hok2 : okA p1 q1 d1 with _ | _
    · exact law_SumAlgebras_in _ _ _ _ _ _ _ _ _ _ _ _ w h0 h1 hn 0 0 [] false (by simp) (Lib.hid fun B A n k A' n' k' w h hd h' hd' hB => sSma_no2 _ _ _ _ _ _ _ _ _ _ _ _ _ h hd h' hd' hB hok hok2) (Lib.hid fun B A n k A' n' k' w h hd h' hd' hB => iSma_no2 _ _ _ _ _ _ _ _ _ _ _ _ _ h hd h' hd' hB hok hok2)
    · obtain ⟨hp, u1, u2, u3, u4, u5, u6⟩ := okA_bd hok
      obtain ⟨hp', v1, v2, v3, v4, v5, v6⟩ := okA_bd hok2
      obtain ⟨N1, rfl⟩ := Int.eq_ofNat_of_zero_le u1
      obtain ⟨N2, rfl⟩ := Int.eq_ofNat_of_zero_le v1
      rw [Int.toNat_natCast] at u3 u5 v3 v5
      by_cases hno : p0 ≠ p1 ∨ 28 < N1 + N2
      · exact law_SumAlgebras_in _ _ _ _ _ _ _ _ _ _ _ _ w h0 h1 hn 0 0 [] false (by simp) (Lib.hid fun B A n k A' n' k' w h hd h' hd' hB => sSma_no3 _ _ _ _ _ _ _ _ _ _ _ _ _ h hd h' hd' hB hok hok2 (by omega) (by omega) hno) (Lib.hid fun B A n k A' n' k' w h hd h' hd' hB => iSma_no3 _ _ _ _ _ _ _ _ _ _ _ _ _ h hd h' hd' hB hok hok2 (by omega) (by omega) hno)
      · obtain ⟨hpp, hN⟩ := not_or.1 hno
        have hpp : p0 = p1 := Decidable.not_not.1 hpp
        subst hpp
        have hN : N1 + N2 ≤ 28 := by omega
        have hEQ := sm_eq (by have := (isP_bd hp).1; omega) u4 v4 u5 v5
        have hle : (tb3 (N1 + N2) (smT N1 N2 d0 d1)).length ≤ 1073741824 := by
          rw [tb3_len]
          have : (N1 + N2) * (N1 + N2) * (N1 + N2) ≤ 28 * 28 * 28 := Nat.mul_le_mul (Nat.mul_le_mul hN hN) hN
          omega
        exact law_SumAlgebras_in _ _ _ _ _ _ _ _ _ _ _ _ w h0 h1 hn _ _ _ true hle (Lib.hid fun B A n k A' n' k' w h hd h' hd' hB => sSma_ok _ N1 N2 n k n' k' A A' d0 d1 w h hd h' hd' hB hok hok2 hN u3 v3) (Lib.hid fun B A n k A' n' k' w h hd h' hd' hB => (by have hh := iSma_ok _ N1 N2 n k n' k' A A' d0 d1 w h hd h' hd' hB hok hok2 hN hp u3 v3 u4 v4; rw [hEQ] at hh; exact hh))
theorem walk_FnExactSumAlgebras {w : World} (p0 q0 : Int) (v0p0 : (Lit.int .i64 p0).wf = true) (v0q0 : (Lit.int .i64 q0).wf = true) (A0 : Option Addr) (n0 k0 : Nat) (z0 : List Int) (y0 : IsRow .i64 w A0 n0 k0 z0) (p1 q1 : Int) (v1p1 : (Lit.int .i64 p1).wf = true) (v1q1 : (Lit.int .i64 q1).wf = true) (A1 : Option Addr) (n1 k1 : Nat) (z1 : List Int) (y1 : IsRow .i64 w A1 n1 k1 z1) :
    Calls Try.prog 10 #[.agg #[.int .i64 p0, .int .i64 q0, .slice A0 n0 k0], .agg #[.int .i64 p1, .int .i64 q1, .slice A1 n1 k1]] w fun e w' => e = .returned (.bool true) ∧ Below w.heap.size w w' := by
  by_cases hm0 : n0 ≤ 1048576
  case neg => exact law_SumAlgebras_out0 p0 q0 A0 n0 k0 p1 q1 A1 n1 k1 w (RdI.ofRow y0).2.1  hm0
  by_cases hm1 : n0 + n1 ≤ 1048576
  case neg => exact law_SumAlgebras_out1 p0 q0 A0 n0 k0 p1 q1 A1 n1 k1 w (RdI.ofRow y1).2.1 hm0 hm1
  exact in_SumAlgebras p0 q0 A0 n0 k0 _ p1 q1 A1 n1 k1 _ w (RdI.ofRow y0) (RdI.ofRow y1) hm1 
end Go.Proofs.Yticebbkmakpkjaa
