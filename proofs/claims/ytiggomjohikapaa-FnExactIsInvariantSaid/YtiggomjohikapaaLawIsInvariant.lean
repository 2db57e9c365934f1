/- The walk of the law on IsInvariant. No condition. -/
import Derived.Test.YtiggomjohikapaaInvrW
import Derived.Test.YtiggomjohikapaaAlS
import Derived.Test.YtiggomjohikapaaLawK
import Derived.Deep.DeepCutAuto
namespace Go.Proofs.Ytiggomjohikapaa
set_option linter.unusedVariables false
set_option linter.unusedSimpArgs false
set_option maxRecDepth 20000
open Go.RowKit
set_option maxRecDepth 100000 in
set_option maxHeartbeats 4000000 in
theorem law_IsInvariant_in (p0 q0 : Int) (A0 : Option Addr) (n0 k0 : Nat) (d0 : List Int) (p1 r1 c1 : Int) (A1 : Option Addr) (n1 k1 : Nat) (d1 : List Int) (w : World) (h0 : RdI w w.heap.size A0 n0 d0) (h1 : RdI w w.heap.size A1 n1 d1) (hn : n0 + n1 ≤ 1048576) (V0 : Bool) 
    (hS : Hid (∀ (B : Nat) (A0 : Option Addr) (n0 k0 : Nat) (A1 : Option Addr) (n1 k1 : Nat) (w : World), RdI w B A0 n0 d0 → Hd A0 n0 k0 → RdI w B A1 n1 d1 → Hd A1 n1 k1 → B ≤ w.heap.size → Calls Try.prog 41 #[.agg #[.int .i64 p0, .int .i64 q0, .slice A0 n0 k0], .agg #[.int .i64 p1, .int .i64 r1, .int .i64 c1, .slice A1 n1 k1]] w (Rv (.bool V0) w)))
    (hI : Hid (∀ (B : Nat) (A0 : Option Addr) (n0 k0 : Nat) (A1 : Option Addr) (n1 k1 : Nat) (w : World), RdI w B A0 n0 d0 → Hd A0 n0 k0 → RdI w B A1 n1 d1 → Hd A1 n1 k1 → B ≤ w.heap.size → Calls Try.prog 42 #[.agg #[.int .i64 p0, .int .i64 q0, .slice A0 n0 k0], .agg #[.int .i64 p1, .int .i64 r1, .int .i64 c1, .slice A1 n1 k1]] w (Rv (.bool V0) w))) :
    Calls Try.prog 9 #[.agg #[.int .i64 p0, .int .i64 q0, .slice A0 n0 k0], .agg #[.int .i64 p1, .int .i64 r1, .int .i64 c1, .slice A1 n1 k1]] w (Rv (.bool true) w) := by
  have HT0 : (p0 == p0 && q0 == q0 && d0 == d0) = true := by simp
  have hdl0 : d0.length ≤ 1048576 := by have := h0.1; omega
  have HT1 : (p1 == p1 && r1 == r1 && c1 == c1 && d1 == d1) = true := by simp
  have hdl1 : d1.length ≤ 1048576 := by have := h1.1; omega
  have HR0 : (V0 != V0) = false := by simp
  have HN0 := Lib.hid (show (if (n0 : Int) ≤ 1048576 then (1048576 : Int) - n0 else -1) = 1048576 - n0 from if_pos (by omega))
  have hl0 : ¬ ((1048576 - n0) : Int) < 0 := by omega
  have HN1 := Lib.hid (show (if (n1 : Int) ≤ (1048576 - n0) then ((1048576 - n0) : Int) - n1 else -1) = (1048576 - n0) - n1 from if_pos (by omega))
  have hl1 : ¬ (((1048576 - n0) - n1) : Int) < 0 := by omega
  go_enter Try.func9, Try.ntmps9
  have tot_0 : Below w.heap.size w w := Below.refl _ _
  have a0_0 := h0
  have a1_0 := h1
  clear h0 h1
  go_wp2_with fail
  refine (szAlgebra_any p0 q0 A0 n0 k0 (1048576) _ (by unfold maxLen; omega) (by omega) (by omega)).mono ?_
  rintro e w1 ⟨rfl, hb1⟩
  simp only [World.size_alloc] at hb1
  have hs1 := hb1.size
  simp only [World.size_alloc] at hs1
  have ba0_1 : Box w1 (w.heap.size) #[.int .i64 p0, .int .i64 q0, .slice A0 n0 k0] := by
    have hq := (((Box.new w #[.int .i64 p0, .int .i64 q0, .slice A0 n0 k0] _).alloc _)).below hb1 (by first | omega | (simp only [World.size_alloc]; omega) | (simp; omega))
    (try simp only [World.size_alloc] at hq)
    exact hq
  have ba1_1 : Box w1 (w.heap.size + 1) #[.int .i64 p1, .int .i64 r1, .int .i64 c1, .slice A1 n1 k1] := by
    have hq := ((Box.new (w.alloc _) #[.int .i64 p1, .int .i64 r1, .int .i64 c1, .slice A1 n1 k1] _)).below hb1 (by first | omega | (simp only [World.size_alloc]; omega) | (simp; omega))
    (try simp only [World.size_alloc] at hq)
    exact hq
  have a0_1 := (((a0_0.alloc (by first | omega | (simp only [World.size_alloc]; omega) | (simp; omega)) _).alloc (by first | omega | (simp only [World.size_alloc]; omega) | (simp; omega)) _)).below hb1 (by omega)
  have a1_1 := (((a1_0.alloc (by first | omega | (simp only [World.size_alloc]; omega) | (simp; omega)) _).alloc (by first | omega | (simp only [World.size_alloc]; omega) | (simp; omega)) _)).below hb1 (by omega)
  have tot_1 : Below w.heap.size w w1 := ((tot_0.alloc (by first | omega | (simp only [World.size_alloc]; omega) | (simp; omega)) _).alloc (by first | omega | (simp only [World.size_alloc]; omega) | (simp; omega)) _).trans (hb1.mono (by omega))
  clear a0_0 a1_0 tot_0 hb1
  rw [HN0.out]
  obtain ⟨z_ba1_0, z_ba1_1, z_ba1_2, z_ba1_3⟩ := ba1_1.four
  have zz_ba1 : w.heap.size + 1 < w1.heap.size := by omega
  go_wp2_with fail
  refine (szMatrix_any p1 r1 c1 A1 n1 k1 ((1048576 - n0)) _ (by unfold maxLen; omega) (by omega) (by omega)).mono ?_
  rintro e w2 ⟨rfl, hb2⟩
  clear z_ba1_0 z_ba1_1 z_ba1_2 z_ba1_3 zz_ba1
  have hs2 := hb2.size
  have ba0_2 := (ba0_1).below hb2 (by omega)
  have ba1_2 := (ba1_1).below hb2 (by omega)
  have a0_2 := (a0_1).below hb2 (by omega)
  have a1_2 := (a1_1).below hb2 (by omega)
  have tot_2 : Below w.heap.size w w2 := tot_1.trans (hb2.mono (by omega))
  clear ba0_1 ba1_1 a0_1 a1_1 tot_1 hb2
  rw [HN1.out]
  have hN3 : w.heap.size ≤ w2.heap.size := by omega
  go_upto_region 8 with fail
  go_cut [6] (fun s6 wx => s6 = .bool V0 ∧ Below w2.heap.size w2 wx)
  have hlt0 : w.heap.size < w2.heap.size := by omega
  have hlt1 : w.heap.size + 1 < w2.heap.size := by omega
  case first =>
    have hcur : Below w2.heap.size w2 w2 := Below.refl _ _
    go_region_held3 (fun w' => (w'.cell? ⟨w.heap.size, 0, none⟩ = some (.int .i64 p0) ∧ w'.cell? ⟨w.heap.size, 1, none⟩ = some (.int .i64 q0) ∧ w'.cell? ⟨w.heap.size, 2, none⟩ = some (.slice A0 n0 k0)) ∧ (w'.cell? ⟨w.heap.size + 1, 0, none⟩ = some (.int .i64 p1) ∧ w'.cell? ⟨w.heap.size + 1, 1, none⟩ = some (.int .i64 r1) ∧ w'.cell? ⟨w.heap.size + 1, 2, none⟩ = some (.int .i64 c1) ∧ w'.cell? ⟨w.heap.size + 1, 3, none⟩ = some (.slice A1 n1 k1))) ((first | with_reducible exact ⟨(ba0_2.below hcur hlt0).three, (ba1_2.below hcur hlt1).four⟩ | with_reducible exact ⟨(ba0_2.below (Below.alo hcur) hlt0).three, (ba1_2.below (Below.alo hcur) hlt1).four⟩ | with_reducible exact ⟨(ba0_2.below (Below.drew hcur) hlt0).three, (ba1_2.below (Below.drew hcur) hlt1).four⟩ | with_reducible exact ⟨(ba0_2.below (Below.drew (Below.alo hcur)) hlt0).three, (ba1_2.below (Below.drew (Below.alo hcur)) hlt1).four⟩ | with_reducible exact ⟨(ba0_2.below (by repeat' (first | exact hcur | exact Below.alo hcur | (refine Below.setCell ?_ hgb _))) hlt0).three, (ba1_2.below (by repeat' (first | exact hcur | exact Below.alo hcur | (refine Below.setCell ?_ hgb _))) hlt1).four⟩)) (first | (go_at_call_of 18 (Value.agg #[.int .i64 p0, .int .i64 q0, .slice A0 n0 k0]); refine (toAlgebra_any p0 q0 A0 n0 k0 d0 _ (B := w.heap.size) (by first | with_reducible exact a0_2.below hcur hN3 | with_reducible exact a0_2.below (Below.alo hcur) hN3 | with_reducible exact a0_2.below (Below.drew hcur) hN3 | with_reducible exact a0_2.below (Below.drew (Below.alo hcur)) hN3) (by first | with_reducible exact Nat.le_trans hN3 (hcur).size | with_reducible exact Nat.le_trans hN3 ((Below.alo hcur)).size | with_reducible exact Nat.le_trans hN3 ((Below.drew hcur)).size | with_reducible exact Nat.le_trans hN3 ((Below.drew (Below.alo hcur))).size) (by omega)).mono ?_; rintro e wc0 ⟨Ac0, nc0, kc0, rfl, hdc0, hbc0, hoc0⟩; have hrc0 := hoc0.rd; clear hoc0; (try with_reducible replace hbx := hbx.step hbc0); (first | ((with_reducible have hbx := Box.newA hbc0); have hgb := hcur.size) | ((with_reducible have hbx := Box.newAD hbc0); have hgb := hcur.size) | skip); (first | with_reducible replace hcur := Below.step hcur hbc0 | with_reducible replace hcur := Below.stepA hcur hbc0 | with_reducible replace hcur := Below.stepD hcur hbc0 | with_reducible replace hcur := Below.stepAD hcur hbc0); (first | with_reducible replace hrc1 := hrc1.step hbc0 | with_reducible replace hrc1 := hrc1.stepA hbc0 | skip); clear hbc0) | (go_at_call_of 39 (Value.agg #[.int .i64 p1, .int .i64 r1, .int .i64 c1, .slice A1 n1 k1]); refine (toMatrix_any p1 r1 c1 A1 n1 k1 d1 _ (B := w.heap.size) (by first | with_reducible exact a1_2.below hcur hN3 | with_reducible exact a1_2.below (Below.alo hcur) hN3 | with_reducible exact a1_2.below (Below.drew hcur) hN3 | with_reducible exact a1_2.below (Below.drew (Below.alo hcur)) hN3) (by first | with_reducible exact Nat.le_trans hN3 (hcur).size | with_reducible exact Nat.le_trans hN3 ((Below.alo hcur)).size | with_reducible exact Nat.le_trans hN3 ((Below.drew hcur)).size | with_reducible exact Nat.le_trans hN3 ((Below.drew (Below.alo hcur))).size) (by omega)).mono ?_; rintro e wc1 ⟨Ac1, nc1, kc1, rfl, hdc1, hbc1, hoc1⟩; have hrc1 := hoc1.rd; clear hoc1; (try with_reducible replace hbx := hbx.step hbc1); (first | ((with_reducible have hbx := Box.newA hbc1); have hgb := hcur.size) | ((with_reducible have hbx := Box.newAD hbc1); have hgb := hcur.size) | skip); (first | with_reducible replace hcur := Below.step hcur hbc1 | with_reducible replace hcur := Below.stepA hcur hbc1 | with_reducible replace hcur := Below.stepD hcur hbc1 | with_reducible replace hcur := Below.stepAD hcur hbc1); (first | with_reducible replace hrc0 := hrc0.step hbc1 | with_reducible replace hrc0 := hrc0.stepA hbc1 | skip); clear hbc1) | (go_at_call 41; refine (hS.out _ Ac0 nc0 kc0 Ac1 nc1 kc1 _ (by first | with_reducible exact hrc0 | with_reducible exact hrc0.alo) hdc0 (by first | with_reducible exact hrc1 | with_reducible exact hrc1.alo) hdc1 (Nat.le_refl _)).mono ?_; rintro e wr ⟨rfl, hbr⟩; (try have hg2 := hbx.lt); have hlo := hcur.size; (try with_reducible replace hbx := hbx.step hbr); (first | ((with_reducible have hbx := Box.newA hbr); have hgb := hcur.size) | ((with_reducible have hbx := Box.newAD hbr); have hgb := hcur.size) | skip); (first | with_reducible replace hcur := Below.step hcur hbr | with_reducible replace hcur := Below.stepA hcur hbr | with_reducible replace hcur := Below.stepD hcur hbr | with_reducible replace hcur := Below.stepAD hcur hbr); (first | with_reducible replace hrc0 := hrc0.step hbr | with_reducible replace hrc0 := hrc0.stepA hbr | skip); (first | with_reducible replace hrc1 := hrc1.step hbr | with_reducible replace hrc1 := hrc1.stepA hbr | skip); (try obtain ⟨gc0, gc1, gc2, gc3⟩ := hbx.four); (try obtain ⟨gc0, gc1, gc2⟩ := hbx.three); (try have gcf := hbx.fz); clear hbr))
    all_goals
      go_wp2_with fail
      go_meet
      exact ⟨rfl, hcur⟩
  case rest =>
    obtain ⟨w3, hww⟩ : ∃ x, x = wc := ⟨_, rfl⟩
    subst hww
    obtain ⟨rfl, hb3⟩ := hcut
    have hs3 := hb3.size
    have ba0_3 := (ba0_2).below hb3 (by omega)
    have ba1_3 := (ba1_2).below hb3 (by omega)
    have a0_3 := (a0_2).below hb3 (by omega)
    have a1_3 := (a1_2).below hb3 (by omega)
    have tot_3 : Below w.heap.size w w3 := tot_2.trans (hb3.mono (by omega))
    clear ba0_2 ba1_2 a0_2 a1_2 tot_2 hb3
    obtain ⟨z_ba0_0, z_ba0_1, z_ba0_2⟩ := ba0_3.three
    have zz_ba0 : w.heap.size < w3.heap.size := by omega
    go_wp2_with fail
    refine (toAlgebra_any p0 q0 A0 n0 k0 d0 _ (B := w.heap.size) (by exact (a0_3)) (by first | exact Nat.le_refl _ | omega | (simp only [World.size_alloc]; omega) | (simp; omega)) (by omega)).mono ?_
    rintro e w4 ⟨Ax0, nx0, kx0, rfl, hdAx0, hb4, hq⟩
    clear z_ba0_0 z_ba0_1 z_ba0_2 zz_ba0
    have hs4 := hb4.size
    have ba0_4 := (ba0_3).below hb4 (by omega)
    have ba1_4 := (ba1_3).below hb4 (by omega)
    have a0_4 := (a0_3).below hb4 (by omega)
    have a1_4 := (a1_3).below hb4 (by omega)
    have tot_4 : Below w.heap.size w w4 := tot_3.trans (hb4.mono (by omega))
    clear ba0_3 ba1_3 a0_3 a1_3 tot_3 hb4
    try simp only [World.size_alloc] at hq
    have x0_4 := hq
    clear hq
    have hNx0 : nx0 ≤ 1048576 := by have := x0_4.size; omega
    obtain ⟨z_ba1_0, z_ba1_1, z_ba1_2, z_ba1_3⟩ := ba1_4.four
    have zz_ba1 : w.heap.size + 1 < w4.heap.size := by omega
    go_wp2_with fail
    refine (toMatrix_any p1 r1 c1 A1 n1 k1 d1 _ (B := w.heap.size) (by exact ((a1_4.alloc (by first | omega | (simp only [World.size_alloc]; omega) | (simp; omega)) _))) (by first | exact Nat.le_refl _ | omega | (simp only [World.size_alloc]; omega) | (simp; omega)) (by omega)).mono ?_
    rintro e w5 ⟨Ax1, nx1, kx1, rfl, hdAx1, hb5, hq⟩
    clear z_ba1_0 z_ba1_1 z_ba1_2 z_ba1_3 zz_ba1
    simp only [World.size_alloc] at hb5
    have hs5 := hb5.size
    simp only [World.size_alloc] at hs5
    have bx0_5 : Box w5 (w4.heap.size) #[.int .i64 p0, .int .i64 q0, .slice Ax0 nx0 kx0] := by
      have hq := ((Box.new w4 #[.int .i64 p0, .int .i64 q0, .slice Ax0 nx0 kx0] _)).below hb5 (by first | omega | (simp only [World.size_alloc]; omega) | (simp; omega))
      (try simp only [World.size_alloc] at hq)
      exact hq
    have ba0_5 := ((ba0_4.alloc _)).below hb5 (by omega)
    have ba1_5 := ((ba1_4.alloc _)).below hb5 (by omega)
    have a0_5 := ((a0_4.alloc (by first | omega | (simp only [World.size_alloc]; omega) | (simp; omega)) _)).below hb5 (by omega)
    have a1_5 := ((a1_4.alloc (by first | omega | (simp only [World.size_alloc]; omega) | (simp; omega)) _)).below hb5 (by omega)
    have x0_5 := ((x0_4.alloc (by first | omega | (simp only [World.size_alloc]; omega) | (simp; omega)) _)).below hb5 (by omega)
    have tot_5 : Below w.heap.size w w5 := (tot_4.alloc (by first | omega | (simp only [World.size_alloc]; omega) | (simp; omega)) _).trans (hb5.mono (by omega))
    clear ba0_4 ba1_4 a0_4 a1_4 x0_4 tot_4 hb5
    try simp only [World.size_alloc] at hq
    have x1_5 := hq
    clear hq
    have hNx1 : nx1 ≤ 1048576 := by have := x1_5.size; omega
    obtain ⟨z_bx0_0, z_bx0_1, z_bx0_2⟩ := bx0_5.three
    have zz_bx0 : w4.heap.size < w5.heap.size := by omega
    go_wp2_with fail
    refine (hI.out (w5.heap.size + 1) Ax0 nx0 kx0 Ax1 nx1 kx1 _ (by exact ((x0_5.alloc (by first | omega | (simp only [World.size_alloc]; omega) | (simp; omega)) _)).rd.up (by first | exact Nat.le_refl _ | omega | (simp only [World.size_alloc]; omega) | (simp; omega))) hdAx0 (by exact ((x1_5.alloc (by first | omega | (simp only [World.size_alloc]; omega) | (simp; omega)) _)).rd.up (by first | exact Nat.le_refl _ | omega | (simp only [World.size_alloc]; omega) | (simp; omega))) hdAx1 (by first | exact Nat.le_refl _ | omega | (simp only [World.size_alloc]; omega) | (simp; omega))).mono ?_
    rintro e w6 ⟨rfl, hb6⟩
    clear z_bx0_0 z_bx0_1 z_bx0_2 zz_bx0
    simp only [World.size_alloc] at hb6
    have hs6 := hb6.size
    simp only [World.size_alloc] at hs6
    have bx1_6 : Box w6 (w5.heap.size) #[.int .i64 p1, .int .i64 r1, .int .i64 c1, .slice Ax1 nx1 kx1] := by
      have hq := ((Box.new w5 #[.int .i64 p1, .int .i64 r1, .int .i64 c1, .slice Ax1 nx1 kx1] _)).below hb6 (by first | omega | (simp only [World.size_alloc]; omega) | (simp; omega))
      (try simp only [World.size_alloc] at hq)
      exact hq
    have bx0_6 := ((bx0_5.alloc _)).below hb6 (by omega)
    have ba0_6 := ((ba0_5.alloc _)).below hb6 (by omega)
    have ba1_6 := ((ba1_5.alloc _)).below hb6 (by omega)
    have a0_6 := ((a0_5.alloc (by first | omega | (simp only [World.size_alloc]; omega) | (simp; omega)) _)).below hb6 (by omega)
    have a1_6 := ((a1_5.alloc (by first | omega | (simp only [World.size_alloc]; omega) | (simp; omega)) _)).below hb6 (by omega)
    have x0_6 := ((x0_5.alloc (by first | omega | (simp only [World.size_alloc]; omega) | (simp; omega)) _)).below hb6 (by omega)
    have x1_6 := ((x1_5.alloc (by first | omega | (simp only [World.size_alloc]; omega) | (simp; omega)) _)).below hb6 (by omega)
    have tot_6 : Below w.heap.size w w6 := (tot_5.alloc (by first | omega | (simp only [World.size_alloc]; omega) | (simp; omega)) _).trans (hb6.mono (by omega))
    clear bx0_5 ba0_5 ba1_5 a0_5 a1_5 x0_5 x1_5 tot_5 hb6
    go_wp2_with fail
    go_region_held3 (fun w' => (w'.cell? ⟨w4.heap.size, 0, none⟩ = some (.int .i64 p0) ∧ w'.cell? ⟨w4.heap.size, 1, none⟩ = some (.int .i64 q0) ∧ w'.cell? ⟨w4.heap.size, 2, none⟩ = some (.slice Ax0 nx0 kx0)) ∧ w'.cell? ⟨w.heap.size, 0, none⟩ = some (.int .i64 p0) ∧ w'.cell? ⟨w.heap.size, 1, none⟩ = some (.int .i64 q0) ∧ w'.cell? ⟨w.heap.size, 2, none⟩ = some (.slice A0 n0 k0)) (first | exact ⟨bx0_6.three, ba0_6.three⟩ | exact ⟨(bx0_6.drew.below hbc (by show _ < w6.heap.size; omega)).three, (ba0_6.drew.below hbc (by show _ < w6.heap.size; omega)).three⟩ | exact ⟨((bx0_6.drew.below hbc (by show _ < w6.heap.size; omega)).below hbd (by first | omega | (simp only [World.size_alloc]; omega) | (simp; omega))).three, ((ba0_6.drew.below hbc (by show _ < w6.heap.size; omega)).below hbd (by first | omega | (simp only [World.size_alloc]; omega) | (simp; omega))).three⟩) (first | (go_at_call 18; refine (toAlgebra_any p0 q0 A0 n0 k0 d0 _ (B := w.heap.size) (by exact a0_6) (by show _ ≤ w6.heap.size; omega) (by omega)).mono ?_; rintro e wc ⟨Ay, ny, ky, rfl, hdAy, hbc, hoc⟩; have hsc : w6.heap.size ≤ wc.heap.size := hbc.size) | (go_at_call 20; refine (eqAlgebra_any p0 q0 Ax0 nx0 kx0 d0 p0 q0 Ay ny ky d0 _ (B1 := w4.heap.size) (B2 := wc.heap.size) (by exact (show OwI w6.drew (w3.heap.size) (w4.heap.size) Ax0 nx0 d0 from x0_6).rd.below hbc (by show _ ≤ w6.heap.size; omega)) (by omega) (by exact hoc.rd) (Nat.le_refl _)).mono ?_; rintro e wd ⟨rfl, hbd⟩; rw [HT0]; have hsd := hbd.size))
    have hb7 : Below w6.heap.size w6 wd := (Below.trans (a := w6) (b := w6.drew) ⟨rfl, rfl, rfl, Nat.le_refl _, fun _ _ => rfl⟩ (show Below w6.heap.size w6.drew wc from hbc)).trans (hbd.mono (by omega))
    clear hbc hbd hoc
    obtain ⟨w7, hww⟩ : ∃ x, x = wd := ⟨_, rfl⟩
    subst hww
    clear hsc hsd
    have hs7 := hb7.size
    have bx1_7 := (bx1_6).below hb7 (by omega)
    have bx0_7 := (bx0_6).below hb7 (by omega)
    have ba0_7 := (ba0_6).below hb7 (by omega)
    have ba1_7 := (ba1_6).below hb7 (by omega)
    have a0_7 := (a0_6).below hb7 (by omega)
    have a1_7 := (a1_6).below hb7 (by omega)
    have x0_7 := (x0_6).below hb7 (by omega)
    have x1_7 := (x1_6).below hb7 (by omega)
    have tot_7 : Below w.heap.size w w7 := tot_6.trans (hb7.mono (by omega))
    clear bx1_6 bx0_6 ba0_6 ba1_6 a0_6 a1_6 x0_6 x1_6 tot_6 hb7
    go_wp2_with fail
    go_region_held3 (fun w' => (w'.cell? ⟨w5.heap.size, 0, none⟩ = some (.int .i64 p1) ∧ w'.cell? ⟨w5.heap.size, 1, none⟩ = some (.int .i64 r1) ∧ w'.cell? ⟨w5.heap.size, 2, none⟩ = some (.int .i64 c1) ∧ w'.cell? ⟨w5.heap.size, 3, none⟩ = some (.slice Ax1 nx1 kx1)) ∧ w'.cell? ⟨w.heap.size + 1, 0, none⟩ = some (.int .i64 p1) ∧ w'.cell? ⟨w.heap.size + 1, 1, none⟩ = some (.int .i64 r1) ∧ w'.cell? ⟨w.heap.size + 1, 2, none⟩ = some (.int .i64 c1) ∧ w'.cell? ⟨w.heap.size + 1, 3, none⟩ = some (.slice A1 n1 k1)) (first | exact ⟨bx1_7.four, ba1_7.four⟩ | exact ⟨(bx1_7.drew.below hbc (by show _ < w7.heap.size; omega)).four, (ba1_7.drew.below hbc (by show _ < w7.heap.size; omega)).four⟩ | exact ⟨((bx1_7.drew.below hbc (by show _ < w7.heap.size; omega)).below hbd (by first | omega | (simp only [World.size_alloc]; omega) | (simp; omega))).four, ((ba1_7.drew.below hbc (by show _ < w7.heap.size; omega)).below hbd (by first | omega | (simp only [World.size_alloc]; omega) | (simp; omega))).four⟩) (first | (go_at_call 39; refine (toMatrix_any p1 r1 c1 A1 n1 k1 d1 _ (B := w.heap.size) (by exact a1_7) (by show _ ≤ w7.heap.size; omega) (by omega)).mono ?_; rintro e wc ⟨Ay, ny, ky, rfl, hdAy, hbc, hoc⟩; have hsc : w7.heap.size ≤ wc.heap.size := hbc.size) | (go_at_call 32; refine (eqMatrix_any p1 r1 c1 Ax1 nx1 kx1 d1 p1 r1 c1 Ay ny ky d1 _ (B1 := w5.heap.size) (B2 := wc.heap.size) (by exact (show OwI w7.drew (w4.heap.size + 1) (w5.heap.size) Ax1 nx1 d1 from x1_7).rd.below hbc (by show _ ≤ w7.heap.size; omega)) (by omega) (by exact hoc.rd) (Nat.le_refl _)).mono ?_; rintro e wd ⟨rfl, hbd⟩; rw [HT1]; have hsd := hbd.size))
    have hb8 : Below w7.heap.size w7 wd := (Below.trans (a := w7) (b := w7.drew) ⟨rfl, rfl, rfl, Nat.le_refl _, fun _ _ => rfl⟩ (show Below w7.heap.size w7.drew wc from hbc)).trans (hbd.mono (by omega))
    clear hbc hbd hoc
    obtain ⟨w8, hww⟩ : ∃ x, x = wd := ⟨_, rfl⟩
    subst hww
    clear hsc hsd
    have hs8 := hb8.size
    have bx1_8 := (bx1_7).below hb8 (by omega)
    have bx0_8 := (bx0_7).below hb8 (by omega)
    have ba0_8 := (ba0_7).below hb8 (by omega)
    have ba1_8 := (ba1_7).below hb8 (by omega)
    have a0_8 := (a0_7).below hb8 (by omega)
    have a1_8 := (a1_7).below hb8 (by omega)
    have x0_8 := (x0_7).below hb8 (by omega)
    have x1_8 := (x1_7).below hb8 (by omega)
    have tot_8 : Below w.heap.size w w8 := tot_7.trans (hb8.mono (by omega))
    clear bx1_7 bx0_7 ba0_7 ba1_7 a0_7 a1_7 x0_7 x1_7 tot_7 hb8
    go_wp2
    go_ret
    exact ⟨rfl, tot_8⟩
theorem law_IsInvariant_out0 (p0 q0 : Int) (A0 : Option Addr) (n0 k0 : Nat) (p1 r1 c1 : Int) (A1 : Option Addr) (n1 k1 : Nat) (w : World) (hm : n0 ≤ maxLen)  (hx : ¬ n0 ≤ 1048576) :
    Calls Try.prog 9 #[.agg #[.int .i64 p0, .int .i64 q0, .slice A0 n0 k0], .agg #[.int .i64 p1, .int .i64 r1, .int .i64 c1, .slice A1 n1 k1]] w (Rv (.bool true) w) := by
  have HN0 := Lib.hid (show (if (n0 : Int) ≤ 1048576 then (1048576 : Int) - n0 else -1) = -1 from if_neg (by omega))
  go_enter Try.func9, Try.ntmps9
  have tot_0 : Below w.heap.size w w := Below.refl _ _
  go_wp2_with fail
  refine (szAlgebra_any p0 q0 A0 n0 k0 (1048576) _ hm (by omega) (by omega)).mono ?_
  rintro e w1 ⟨rfl, hb1⟩
  simp only [World.size_alloc] at hb1
  have hs1 := hb1.size
  simp only [World.size_alloc] at hs1
  have ba0_1 : Box w1 (w.heap.size) #[.int .i64 p0, .int .i64 q0, .slice A0 n0 k0] := by
    have hq := (((Box.new w #[.int .i64 p0, .int .i64 q0, .slice A0 n0 k0] _).alloc _)).below hb1 (by first | omega | (simp only [World.size_alloc]; omega) | (simp; omega))
    (try simp only [World.size_alloc] at hq)
    exact hq
  have ba1_1 : Box w1 (w.heap.size + 1) #[.int .i64 p1, .int .i64 r1, .int .i64 c1, .slice A1 n1 k1] := by
    have hq := ((Box.new (w.alloc _) #[.int .i64 p1, .int .i64 r1, .int .i64 c1, .slice A1 n1 k1] _)).below hb1 (by first | omega | (simp only [World.size_alloc]; omega) | (simp; omega))
    (try simp only [World.size_alloc] at hq)
    exact hq
  have tot_1 : Below w.heap.size w w1 := ((tot_0.alloc (by first | omega | (simp only [World.size_alloc]; omega) | (simp; omega)) _).alloc (by first | omega | (simp only [World.size_alloc]; omega) | (simp; omega)) _).trans (hb1.mono (by omega))
  clear tot_0 hb1
  rw [HN0.out]
  go_wp2
  go_ret
  exact ⟨rfl, tot_1⟩
theorem law_IsInvariant_out1 (p0 q0 : Int) (A0 : Option Addr) (n0 k0 : Nat) (p1 r1 c1 : Int) (A1 : Option Addr) (n1 k1 : Nat) (w : World) (hm : n1 ≤ maxLen)  (hn : n0 ≤ 1048576) (hx : ¬ n0 + n1 ≤ 1048576) :
    Calls Try.prog 9 #[.agg #[.int .i64 p0, .int .i64 q0, .slice A0 n0 k0], .agg #[.int .i64 p1, .int .i64 r1, .int .i64 c1, .slice A1 n1 k1]] w (Rv (.bool true) w) := by
  have HN0 := Lib.hid (show (if (n0 : Int) ≤ 1048576 then (1048576 : Int) - n0 else -1) = 1048576 - n0 from if_pos (by omega))
  have hl0 : ¬ ((1048576 - n0) : Int) < 0 := by omega
  have HN1 := Lib.hid (show (if (n1 : Int) ≤ (1048576 - n0) then ((1048576 - n0) : Int) - n1 else -1) = -1 from if_neg (by omega))
  go_enter Try.func9, Try.ntmps9
  have tot_0 : Below w.heap.size w w := Below.refl _ _
  go_wp2_with fail
  refine (szAlgebra_any p0 q0 A0 n0 k0 (1048576) _ (by unfold maxLen; omega) (by omega) (by omega)).mono ?_
  rintro e w1 ⟨rfl, hb1⟩
  simp only [World.size_alloc] at hb1
  have hs1 := hb1.size
  simp only [World.size_alloc] at hs1
  have ba0_1 : Box w1 (w.heap.size) #[.int .i64 p0, .int .i64 q0, .slice A0 n0 k0] := by
    have hq := (((Box.new w #[.int .i64 p0, .int .i64 q0, .slice A0 n0 k0] _).alloc _)).below hb1 (by first | omega | (simp only [World.size_alloc]; omega) | (simp; omega))
    (try simp only [World.size_alloc] at hq)
    exact hq
  have ba1_1 : Box w1 (w.heap.size + 1) #[.int .i64 p1, .int .i64 r1, .int .i64 c1, .slice A1 n1 k1] := by
    have hq := ((Box.new (w.alloc _) #[.int .i64 p1, .int .i64 r1, .int .i64 c1, .slice A1 n1 k1] _)).below hb1 (by first | omega | (simp only [World.size_alloc]; omega) | (simp; omega))
    (try simp only [World.size_alloc] at hq)
    exact hq
  have tot_1 : Below w.heap.size w w1 := ((tot_0.alloc (by first | omega | (simp only [World.size_alloc]; omega) | (simp; omega)) _).alloc (by first | omega | (simp only [World.size_alloc]; omega) | (simp; omega)) _).trans (hb1.mono (by omega))
  clear tot_0 hb1
  rw [HN0.out]
  obtain ⟨z_ba1_0, z_ba1_1, z_ba1_2, z_ba1_3⟩ := ba1_1.four
  have zz_ba1 : w.heap.size + 1 < w1.heap.size := by omega
  go_wp2_with fail
  refine (szMatrix_any p1 r1 c1 A1 n1 k1 ((1048576 - n0)) _ hm (by omega) (by omega)).mono ?_
  rintro e w2 ⟨rfl, hb2⟩
  clear z_ba1_0 z_ba1_1 z_ba1_2 z_ba1_3 zz_ba1
  have hs2 := hb2.size
  have ba0_2 := (ba0_1).below hb2 (by omega)
  have ba1_2 := (ba1_1).below hb2 (by omega)
  have tot_2 : Below w.heap.size w w2 := tot_1.trans (hb2.mono (by omega))
  clear ba0_1 ba1_1 tot_1 hb2
  rw [HN1.out]
  go_wp2
  go_ret
  exact ⟨rfl, tot_2⟩
theorem in_IsInvariant (p0 q0 : Int) (A0 : Option Addr) (n0 k0 : Nat) (d0 : List Int) (p1 r1 c1 : Int) (A1 : Option Addr) (n1 k1 : Nat) (d1 : List Int) (w : World) (h0 : RdI w w.heap.size A0 n0 d0) (h1 : RdI w w.heap.size A1 n1 d1) (hn : n0 + n1 ≤ 1048576) :
    Calls Try.prog 9 #[.agg #[.int .i64 p0, .int .i64 q0, .slice A0 n0 k0], .agg #[.int .i64 p1, .int .i64 r1, .int .i64 c1, .slice A1 n1 k1]] w (Rv (.bool true) w) := by
  rcases hfo : foB p0 q0 d0 p1 r1 c1 d1 with _ | _
  · exact law_IsInvariant_in _ _ _ _ _ _ _ _ _ _ _ _ _ w h0 h1 hn false (Lib.hid fun B A n k A' n' k' w h hd h' hd' hB => sInv_no _ _ _ _ _ _ _ _ _ _ _ _ _ _ h hd h' hB hfo) (Lib.hid fun B A n k A' n' k' w h hd h' hd' hB => iInv_no _ _ _ _ _ _ _ _ _ _ _ _ _ _ h hd h' hB hfo)
  · obtain ⟨N, rfl, rfl, rfl, rfl, hN, hp, hdl, hr, hal, hml, hmr, hok, hfr⟩ := coc_start hfo
    exact law_IsInvariant_in _ _ _ _ _ _ _ _ _ _ _ _ _ w h0 h1 hn (invB N p1 (matF d1 N) d0) (Lib.hid fun B A n k A' n' k' w h hd h' hd' hB => sInv_ok _ _ _ _ _ _ _ _ _ _ _ h hd h' hd' hB hN hp hdl hr hal hml hmr hok hfr) (Lib.hid fun B A n k A' n' k' w h hd h' hd' hB => iInv_ok _ _ _ _ _ _ _ _ _ _ _ h hd h' hB hN hp hdl hr hal hml hmr hok hfr)
theorem walk_FnExactIsInvariant {w : World} (p0 q0 : Int) (v0p0 : (Lit.int .i64 p0).wf = true) (v0q0 : (Lit.int .i64 q0).wf = true) (A0 : Option Addr) (n0 k0 : Nat) (z0 : List Int) (y0 : IsRow .i64 w A0 n0 k0 z0) (p1 r1 c1 : Int) (v1p1 : (Lit.int .i64 p1).wf = true) (v1r1 : (Lit.int .i64 r1).wf = true) (v1c1 : (Lit.int .i64 c1).wf = true) (A1 : Option Addr) (n1 k1 : Nat) (z1 : List Int) (y1 : IsRow .i64 w A1 n1 k1 z1) :
    Calls Try.prog 9 #[.agg #[.int .i64 p0, .int .i64 q0, .slice A0 n0 k0], .agg #[.int .i64 p1, .int .i64 r1, .int .i64 c1, .slice A1 n1 k1]] w fun e w' => e = .returned (.bool true) ∧ Below w.heap.size w w' := by
  by_cases hm0 : n0 ≤ 1048576
  case neg => exact law_IsInvariant_out0 p0 q0 A0 n0 k0 p1 r1 c1 A1 n1 k1 w (RdI.ofRow y0).2.1  hm0
  by_cases hm1 : n0 + n1 ≤ 1048576
  case neg => exact law_IsInvariant_out1 p0 q0 A0 n0 k0 p1 r1 c1 A1 n1 k1 w (RdI.ofRow y1).2.1 hm0 hm1
  exact in_IsInvariant p0 q0 A0 n0 k0 _ p1 r1 c1 A1 n1 k1 _ w (RdI.ofRow y0) (RdI.ofRow y1) hm1 
end Go.Proofs.Ytiggomjohikapaa
