/- The walk of the law on OrthogonalOf. No condition. -/
import Derived.Test.YtiggomjohikapaaOrt2W
import Derived.Test.YtiggomjohikapaaAlS
import Derived.Test.YtiggomjohikapaaLawK
import Derived.Deep.DeepCutAuto
namespace Go.Proofs.Ytiggomjohikapaa
set_option linter.unusedVariables false
set_option linter.unusedSimpArgs false
set_option maxRecDepth 20000
open Go.RowKit
set_option maxRecDepth 100000 in
set_option maxHeartbeats 4000000 in
theorem law_OrthogonalOf_in (p0 q0 : Int) (A0 : Option Addr) (n0 k0 : Nat) (d0 : List Int) (p1 r1 c1 : Int) (A1 : Option Addr) (n1 k1 : Nat) (d1 : List Int) (p2 r2 c2 : Int) (A2 : Option Addr) (n2 k2 : Nat) (d2 : List Int) (w : World) (h0 : RdI w w.heap.size A0 n0 d0) (h1 : RdI w w.heap.size A1 n1 d1) (h2 : RdI w w.heap.size A2 n2 d2) (hn : n0 + n1 + n2 ≤ 1048576) (P0 R0 C0 : Int) (D0 : List Int) (V1 : Bool) (hD0 : D0.length ≤ 1073741824)
    (hS : Hid (∀ (B : Nat) (A0 : Option Addr) (n0 k0 : Nat) (A1 : Option Addr) (n1 k1 : Nat) (A2 : Option Addr) (n2 k2 : Nat) (w : World), RdI w B A0 n0 d0 → Hd A0 n0 k0 → RdI w B A1 n1 d1 → Hd A1 n1 k1 → RdI w B A2 n2 d2 → Hd A2 n2 k2 → B ≤ w.heap.size → Calls Try.prog 56 #[.agg #[.int .i64 p0, .int .i64 q0, .slice A0 n0 k0], .agg #[.int .i64 p1, .int .i64 r1, .int .i64 c1, .slice A1 n1 k1], .agg #[.int .i64 p2, .int .i64 r2, .int .i64 c2, .slice A2 n2 k2]] w (RetMB P0 R0 C0 D0 V1 w)))
    (hI : Hid (∀ (B : Nat) (A0 : Option Addr) (n0 k0 : Nat) (A1 : Option Addr) (n1 k1 : Nat) (A2 : Option Addr) (n2 k2 : Nat) (w : World), RdI w B A0 n0 d0 → Hd A0 n0 k0 → RdI w B A1 n1 d1 → Hd A1 n1 k1 → RdI w B A2 n2 d2 → Hd A2 n2 k2 → B ≤ w.heap.size → Calls Try.prog 57 #[.agg #[.int .i64 p0, .int .i64 q0, .slice A0 n0 k0], .agg #[.int .i64 p1, .int .i64 r1, .int .i64 c1, .slice A1 n1 k1], .agg #[.int .i64 p2, .int .i64 r2, .int .i64 c2, .slice A2 n2 k2]] w (RetMB P0 R0 C0 D0 V1 w))) :
    Calls Try.prog 15 #[.agg #[.int .i64 p0, .int .i64 q0, .slice A0 n0 k0], .agg #[.int .i64 p1, .int .i64 r1, .int .i64 c1, .slice A1 n1 k1], .agg #[.int .i64 p2, .int .i64 r2, .int .i64 c2, .slice A2 n2 k2]] w (Rv (.bool true) w) := by
  have HT0 : (p0 == p0 && q0 == q0 && d0 == d0) = true := by simp
  have hdl0 : d0.length ≤ 1048576 := by have := h0.1; omega
  have HT1 : (p1 == p1 && r1 == r1 && c1 == c1 && d1 == d1) = true := by simp
  have hdl1 : d1.length ≤ 1048576 := by have := h1.1; omega
  have HT2 : (p2 == p2 && r2 == r2 && c2 == c2 && d2 == d2) = true := by simp
  have hdl2 : d2.length ≤ 1048576 := by have := h2.1; omega
  have HR0 : (P0 == P0 && R0 == R0 && C0 == C0 && D0 == D0) = true := by simp
  have HR1 : (V1 != V1) = false := by simp
  have HN0 := Lib.hid (show (if (n0 : Int) ≤ 1048576 then (1048576 : Int) - n0 else -1) = 1048576 - n0 from if_pos (by omega))
  have hl0 : ¬ ((1048576 - n0) : Int) < 0 := by omega
  have HN1 := Lib.hid (show (if (n1 : Int) ≤ (1048576 - n0) then ((1048576 - n0) : Int) - n1 else -1) = (1048576 - n0) - n1 from if_pos (by omega))
  have hl1 : ¬ (((1048576 - n0) - n1) : Int) < 0 := by omega
  have HN2 := Lib.hid (show (if (n2 : Int) ≤ ((1048576 - n0) - n1) then (((1048576 - n0) - n1) : Int) - n2 else -1) = ((1048576 - n0) - n1) - n2 from if_pos (by omega))
  have hl2 : ¬ ((((1048576 - n0) - n1) - n2) : Int) < 0 := by omega
  go_enter Try.func15, Try.ntmps15
  have tot_0 : Below w.heap.size w w := Below.refl _ _
  have a0_0 := h0
  have a1_0 := h1
  have a2_0 := h2
  clear h0 h1 h2
  go_wp2_with fail
  refine (szAlgebra_any p0 q0 A0 n0 k0 (1048576) _ (by unfold maxLen; omega) (by omega) (by omega)).mono ?_
  rintro e w1 ⟨rfl, hb1⟩
  simp only [World.size_alloc] at hb1
  have hs1 := hb1.size
  simp only [World.size_alloc] at hs1
  have ba0_1 : Box w1 (w.heap.size) #[.int .i64 p0, .int .i64 q0, .slice A0 n0 k0] := by
    have hq := ((((Box.new w #[.int .i64 p0, .int .i64 q0, .slice A0 n0 k0] _).alloc _).alloc _)).below hb1 (by first | omega | (simp only [World.size_alloc]; omega) | (simp; omega))
    (try simp only [World.size_alloc] at hq)
    exact hq
  have ba1_1 : Box w1 (w.heap.size + 1) #[.int .i64 p1, .int .i64 r1, .int .i64 c1, .slice A1 n1 k1] := by
    have hq := (((Box.new (w.alloc _) #[.int .i64 p1, .int .i64 r1, .int .i64 c1, .slice A1 n1 k1] _).alloc _)).below hb1 (by first | omega | (simp only [World.size_alloc]; omega) | (simp; omega))
    (try simp only [World.size_alloc] at hq)
    exact hq
  have ba2_1 : Box w1 (w.heap.size + 1 + 1) #[.int .i64 p2, .int .i64 r2, .int .i64 c2, .slice A2 n2 k2] := by
    have hq := ((Box.new ((w.alloc _).alloc _) #[.int .i64 p2, .int .i64 r2, .int .i64 c2, .slice A2 n2 k2] _)).below hb1 (by first | omega | (simp only [World.size_alloc]; omega) | (simp; omega))
    (try simp only [World.size_alloc] at hq)
    exact hq
  have a0_1 := ((((a0_0.alloc (by first | omega | (simp only [World.size_alloc]; omega) | (simp; omega)) _).alloc (by first | omega | (simp only [World.size_alloc]; omega) | (simp; omega)) _).alloc (by first | omega | (simp only [World.size_alloc]; omega) | (simp; omega)) _)).below hb1 (by omega)
  have a1_1 := ((((a1_0.alloc (by first | omega | (simp only [World.size_alloc]; omega) | (simp; omega)) _).alloc (by first | omega | (simp only [World.size_alloc]; omega) | (simp; omega)) _).alloc (by first | omega | (simp only [World.size_alloc]; omega) | (simp; omega)) _)).below hb1 (by omega)
  have a2_1 := ((((a2_0.alloc (by first | omega | (simp only [World.size_alloc]; omega) | (simp; omega)) _).alloc (by first | omega | (simp only [World.size_alloc]; omega) | (simp; omega)) _).alloc (by first | omega | (simp only [World.size_alloc]; omega) | (simp; omega)) _)).below hb1 (by omega)
  have tot_1 : Below w.heap.size w w1 := (((tot_0.alloc (by first | omega | (simp only [World.size_alloc]; omega) | (simp; omega)) _).alloc (by first | omega | (simp only [World.size_alloc]; omega) | (simp; omega)) _).alloc (by first | omega | (simp only [World.size_alloc]; omega) | (simp; omega)) _).trans (hb1.mono (by omega))
  clear a0_0 a1_0 a2_0 tot_0 hb1
  rw [HN0.out]
  obtain ⟨z_ba1_0, z_ba1_1, z_ba1_2, z_ba1_3⟩ := ba1_1.four
  have zz_ba1 : w.heap.size + 1 < w1.heap.size := by omega
  go_wp2_with fail
  refine (szMatrix_any p1 r1 c1 A1 n1 k1 ((1048576 - n0)) _ (by unfold maxLen; omega) (by omega) (by omega)).mono ?_
  rintro e w2 ⟨rfl, hb2⟩
  clear z_ba1_0 z_ba1_1 z_ba1_2 z_ba1_3 zz_ba1
  have hs2 := hb2.size
  have ba0_2 := (ba0_1).below hb2 (by omega)
  have ba1_2 := (ba1_1).below hb2 (by omega)
  have ba2_2 := (ba2_1).below hb2 (by omega)
  have a0_2 := (a0_1).below hb2 (by omega)
  have a1_2 := (a1_1).below hb2 (by omega)
  have a2_2 := (a2_1).below hb2 (by omega)
  have tot_2 : Below w.heap.size w w2 := tot_1.trans (hb2.mono (by omega))
  clear ba0_1 ba1_1 ba2_1 a0_1 a1_1 a2_1 tot_1 hb2
  rw [HN1.out]
  obtain ⟨z_ba2_0, z_ba2_1, z_ba2_2, z_ba2_3⟩ := ba2_2.four
  have zz_ba2 : w.heap.size + 1 + 1 < w2.heap.size := by omega
  go_wp2_with fail
  refine (szMatrix_any p2 r2 c2 A2 n2 k2 (((1048576 - n0) - n1)) _ (by unfold maxLen; omega) (by omega) (by omega)).mono ?_
  rintro e w3 ⟨rfl, hb3⟩
  clear z_ba2_0 z_ba2_1 z_ba2_2 z_ba2_3 zz_ba2
  have hs3 := hb3.size
  have ba0_3 := (ba0_2).below hb3 (by omega)
  have ba1_3 := (ba1_2).below hb3 (by omega)
  have ba2_3 := (ba2_2).below hb3 (by omega)
  have a0_3 := (a0_2).below hb3 (by omega)
  have a1_3 := (a1_2).below hb3 (by omega)
  have a2_3 := (a2_2).below hb3 (by omega)
  have tot_3 : Below w.heap.size w w3 := tot_2.trans (hb3.mono (by omega))
  clear ba0_2 ba1_2 ba2_2 a0_2 a1_2 a2_2 tot_2 hb3
  rw [HN2.out]
  have hN4 : w.heap.size ≤ w3.heap.size := by omega
  go_upto_region 11 with fail
  go_cut [8, 9] (fun s8 s9 wx => CutM w3 P0 R0 C0 D0 s8 wx ∧ s9 = .bool V1)
  have hlt0 : w.heap.size < w3.heap.size := by omega
  have hlt1 : w.heap.size + 1 < w3.heap.size := by omega
  have hlt2 : w.heap.size + 1 + 1 < w3.heap.size := by omega
  case first =>
    have hcur : Below w3.heap.size w3 w3 := Below.refl _ _
    go_region_held3 (fun w' => (w'.cell? ⟨w.heap.size, 0, none⟩ = some (.int .i64 p0) ∧ w'.cell? ⟨w.heap.size, 1, none⟩ = some (.int .i64 q0) ∧ w'.cell? ⟨w.heap.size, 2, none⟩ = some (.slice A0 n0 k0)) ∧ (w'.cell? ⟨w.heap.size + 1, 0, none⟩ = some (.int .i64 p1) ∧ w'.cell? ⟨w.heap.size + 1, 1, none⟩ = some (.int .i64 r1) ∧ w'.cell? ⟨w.heap.size + 1, 2, none⟩ = some (.int .i64 c1) ∧ w'.cell? ⟨w.heap.size + 1, 3, none⟩ = some (.slice A1 n1 k1)) ∧ (w'.cell? ⟨w.heap.size + 1 + 1, 0, none⟩ = some (.int .i64 p2) ∧ w'.cell? ⟨w.heap.size + 1 + 1, 1, none⟩ = some (.int .i64 r2) ∧ w'.cell? ⟨w.heap.size + 1 + 1, 2, none⟩ = some (.int .i64 c2) ∧ w'.cell? ⟨w.heap.size + 1 + 1, 3, none⟩ = some (.slice A2 n2 k2))) ((first | with_reducible exact ⟨(ba0_3.below hcur hlt0).three, (ba1_3.below hcur hlt1).four, (ba2_3.below hcur hlt2).four⟩ | with_reducible exact ⟨(ba0_3.below (Below.alo hcur) hlt0).three, (ba1_3.below (Below.alo hcur) hlt1).four, (ba2_3.below (Below.alo hcur) hlt2).four⟩ | with_reducible exact ⟨(ba0_3.below (Below.drew hcur) hlt0).three, (ba1_3.below (Below.drew hcur) hlt1).four, (ba2_3.below (Below.drew hcur) hlt2).four⟩ | with_reducible exact ⟨(ba0_3.below (Below.drew (Below.alo hcur)) hlt0).three, (ba1_3.below (Below.drew (Below.alo hcur)) hlt1).four, (ba2_3.below (Below.drew (Below.alo hcur)) hlt2).four⟩ | with_reducible exact ⟨(ba0_3.below (by repeat' (first | exact hcur | exact Below.alo hcur | (refine Below.setCell ?_ hgb _))) hlt0).three, (ba1_3.below (by repeat' (first | exact hcur | exact Below.alo hcur | (refine Below.setCell ?_ hgb _))) hlt1).four, (ba2_3.below (by repeat' (first | exact hcur | exact Below.alo hcur | (refine Below.setCell ?_ hgb _))) hlt2).four⟩)) (first | (go_at_call_of 18 (Value.agg #[.int .i64 p0, .int .i64 q0, .slice A0 n0 k0]); refine (toAlgebra_any p0 q0 A0 n0 k0 d0 _ (B := w.heap.size) (by first | with_reducible exact a0_3.below hcur hN4 | with_reducible exact a0_3.below (Below.alo hcur) hN4 | with_reducible exact a0_3.below (Below.drew hcur) hN4 | with_reducible exact a0_3.below (Below.drew (Below.alo hcur)) hN4) (by first | with_reducible exact Nat.le_trans hN4 (hcur).size | with_reducible exact Nat.le_trans hN4 ((Below.alo hcur)).size | with_reducible exact Nat.le_trans hN4 ((Below.drew hcur)).size | with_reducible exact Nat.le_trans hN4 ((Below.drew (Below.alo hcur))).size) (by omega)).mono ?_; rintro e wc0 ⟨Ac0, nc0, kc0, rfl, hdc0, hbc0, hoc0⟩; have hrc0 := hoc0.rd; clear hoc0; (try with_reducible replace hbx := hbx.step hbc0); (first | ((with_reducible have hbx := Box.newA hbc0); have hgb := hcur.size) | ((with_reducible have hbx := Box.newAD hbc0); have hgb := hcur.size) | skip); (first | with_reducible replace hcur := Below.step hcur hbc0 | with_reducible replace hcur := Below.stepA hcur hbc0 | with_reducible replace hcur := Below.stepD hcur hbc0 | with_reducible replace hcur := Below.stepAD hcur hbc0); (first | with_reducible replace hrc1 := hrc1.step hbc0 | with_reducible replace hrc1 := hrc1.stepA hbc0 | skip); (first | with_reducible replace hrc2 := hrc2.step hbc0 | with_reducible replace hrc2 := hrc2.stepA hbc0 | skip); clear hbc0) | (go_at_call_of 39 (Value.agg #[.int .i64 p1, .int .i64 r1, .int .i64 c1, .slice A1 n1 k1]); refine (toMatrix_any p1 r1 c1 A1 n1 k1 d1 _ (B := w.heap.size) (by first | with_reducible exact a1_3.below hcur hN4 | with_reducible exact a1_3.below (Below.alo hcur) hN4 | with_reducible exact a1_3.below (Below.drew hcur) hN4 | with_reducible exact a1_3.below (Below.drew (Below.alo hcur)) hN4) (by first | with_reducible exact Nat.le_trans hN4 (hcur).size | with_reducible exact Nat.le_trans hN4 ((Below.alo hcur)).size | with_reducible exact Nat.le_trans hN4 ((Below.drew hcur)).size | with_reducible exact Nat.le_trans hN4 ((Below.drew (Below.alo hcur))).size) (by omega)).mono ?_; rintro e wc1 ⟨Ac1, nc1, kc1, rfl, hdc1, hbc1, hoc1⟩; have hrc1 := hoc1.rd; clear hoc1; (try with_reducible replace hbx := hbx.step hbc1); (first | ((with_reducible have hbx := Box.newA hbc1); have hgb := hcur.size) | ((with_reducible have hbx := Box.newAD hbc1); have hgb := hcur.size) | skip); (first | with_reducible replace hcur := Below.step hcur hbc1 | with_reducible replace hcur := Below.stepA hcur hbc1 | with_reducible replace hcur := Below.stepD hcur hbc1 | with_reducible replace hcur := Below.stepAD hcur hbc1); (first | with_reducible replace hrc0 := hrc0.step hbc1 | with_reducible replace hrc0 := hrc0.stepA hbc1 | skip); (first | with_reducible replace hrc2 := hrc2.step hbc1 | with_reducible replace hrc2 := hrc2.stepA hbc1 | skip); clear hbc1) | (go_at_call_of 39 (Value.agg #[.int .i64 p2, .int .i64 r2, .int .i64 c2, .slice A2 n2 k2]); refine (toMatrix_any p2 r2 c2 A2 n2 k2 d2 _ (B := w.heap.size) (by first | with_reducible exact a2_3.below hcur hN4 | with_reducible exact a2_3.below (Below.alo hcur) hN4 | with_reducible exact a2_3.below (Below.drew hcur) hN4 | with_reducible exact a2_3.below (Below.drew (Below.alo hcur)) hN4) (by first | with_reducible exact Nat.le_trans hN4 (hcur).size | with_reducible exact Nat.le_trans hN4 ((Below.alo hcur)).size | with_reducible exact Nat.le_trans hN4 ((Below.drew hcur)).size | with_reducible exact Nat.le_trans hN4 ((Below.drew (Below.alo hcur))).size) (by omega)).mono ?_; rintro e wc2 ⟨Ac2, nc2, kc2, rfl, hdc2, hbc2, hoc2⟩; have hrc2 := hoc2.rd; clear hoc2; (try with_reducible replace hbx := hbx.step hbc2); (first | ((with_reducible have hbx := Box.newA hbc2); have hgb := hcur.size) | ((with_reducible have hbx := Box.newAD hbc2); have hgb := hcur.size) | skip); (first | with_reducible replace hcur := Below.step hcur hbc2 | with_reducible replace hcur := Below.stepA hcur hbc2 | with_reducible replace hcur := Below.stepD hcur hbc2 | with_reducible replace hcur := Below.stepAD hcur hbc2); (first | with_reducible replace hrc0 := hrc0.step hbc2 | with_reducible replace hrc0 := hrc0.stepA hbc2 | skip); (first | with_reducible replace hrc1 := hrc1.step hbc2 | with_reducible replace hrc1 := hrc1.stepA hbc2 | skip); clear hbc2) | (go_at_call 56; refine (hS.out _ Ac0 nc0 kc0 Ac1 nc1 kc1 Ac2 nc2 kc2 _ (by first | with_reducible exact hrc0 | with_reducible exact hrc0.alo) hdc0 (by first | with_reducible exact hrc1 | with_reducible exact hrc1.alo) hdc1 (by first | with_reducible exact hrc2 | with_reducible exact hrc2.alo) hdc2 (Nat.le_refl _)).mono ?_; rintro e wr ⟨Aw0r, nw0r, kw0r, rfl, hdAw0r, hbr, hq⟩; (try have hg2 := hbx.lt); have hlo := hcur.size; (try with_reducible replace hbx := hbx.step hbr); (first | ((with_reducible have hbx := Box.newA hbr); have hgb := hcur.size) | ((with_reducible have hbx := Box.newAD hbr); have hgb := hcur.size) | skip); (first | with_reducible replace hcur := Below.step hcur hbr | with_reducible replace hcur := Below.stepA hcur hbr | with_reducible replace hcur := Below.stepD hcur hbr | with_reducible replace hcur := Below.stepAD hcur hbr); (first | with_reducible replace hrc0 := hrc0.step hbr | with_reducible replace hrc0 := hrc0.stepA hbr | skip); (first | with_reducible replace hrc1 := hrc1.step hbr | with_reducible replace hrc1 := hrc1.stepA hbr | skip); (first | with_reducible replace hrc2 := hrc2.step hbr | with_reducible replace hrc2 := hrc2.stepA hbr | skip); (try obtain ⟨gc0, gc1, gc2, gc3⟩ := hbx.four); (try obtain ⟨gc0, gc1, gc2⟩ := hbx.three); (try have gcf := hbx.fz); clear hbr))
    all_goals
      go_wp2_with fail
      go_meet
      first | exact ⟨CutM.a hcur hq hdAw0r (by first | exact hlo | exact Nat.le_trans hlo (by simp)) _, rfl⟩ | exact ⟨CutM.b hcur hbx hq hdAw0r (by first | exact hlo | exact Nat.le_trans hlo (by simp)) hgb (by first | exact hg2 | simp), rfl⟩ | exact CutM.a hcur hq hdAw0r (by first | exact hlo | exact Nat.le_trans hlo (by simp)) _ | exact CutM.b hcur hbx hq hdAw0r (by first | exact hlo | exact Nat.le_trans hlo (by simp)) hgb (by first | exact hg2 | simp)
  case rest =>
    obtain ⟨w4, hww⟩ : ∃ x, x = wc := ⟨_, rfl⟩
    subst hww
    obtain ⟨⟨gbw0r, Aw0r, nw0r, kw0r, low0r, hiw0r, rfl, hdAw0r, hbx, hq, ho1w0r, ho2w0r, ho3w0r, ho4w0r, ho5w0r, hb4⟩, rfl⟩ := hcut
    have hs4 := hb4.size
    have ba0_4 := (ba0_3).below hb4 (by omega)
    have ba1_4 := (ba1_3).below hb4 (by omega)
    have ba2_4 := (ba2_3).below hb4 (by omega)
    have a0_4 := (a0_3).below hb4 (by omega)
    have a1_4 := (a1_3).below hb4 (by omega)
    have a2_4 := (a2_3).below hb4 (by omega)
    have tot_4 : Below w.heap.size w w4 := tot_3.trans (hb4.mono (by omega))
    clear ba0_3 ba1_3 ba2_3 a0_3 a1_3 a2_3 tot_3 hb4
    have w0r_4 := hq
    clear hq
    have hNw0r : nw0r ≤ 1073741824 := by have := w0r_4.size; omega
    have bw0r_4 := hbx
    clear hbx
    obtain ⟨z_ba0_0, z_ba0_1, z_ba0_2⟩ := ba0_4.three
    have zz_ba0 : w.heap.size < w4.heap.size := by omega
    go_wp2_with fail
    refine (toAlgebra_any p0 q0 A0 n0 k0 d0 _ (B := w.heap.size) (by exact (a0_4)) (by first | exact Nat.le_refl _ | omega | (simp only [World.size_alloc]; omega) | (simp; omega)) (by omega)).mono ?_
    rintro e w5 ⟨Ax0, nx0, kx0, rfl, hdAx0, hb5, hq⟩
    clear z_ba0_0 z_ba0_1 z_ba0_2 zz_ba0
    have hs5 := hb5.size
    have ba0_5 := (ba0_4).below hb5 (by omega)
    have ba1_5 := (ba1_4).below hb5 (by omega)
    have ba2_5 := (ba2_4).below hb5 (by omega)
    have a0_5 := (a0_4).below hb5 (by omega)
    have a1_5 := (a1_4).below hb5 (by omega)
    have a2_5 := (a2_4).below hb5 (by omega)
    have w0r_5 := (w0r_4).below hb5 (by omega)
    have bw0r_5 := (bw0r_4).below hb5 (by omega)
    have tot_5 : Below w.heap.size w w5 := tot_4.trans (hb5.mono (by omega))
    clear ba0_4 ba1_4 ba2_4 a0_4 a1_4 a2_4 w0r_4 bw0r_4 tot_4 hb5
    try simp only [World.size_alloc] at hq
    have x0_5 := hq
    clear hq
    have hNx0 : nx0 ≤ 1048576 := by have := x0_5.size; omega
    obtain ⟨z_ba1_0, z_ba1_1, z_ba1_2, z_ba1_3⟩ := ba1_5.four
    have zz_ba1 : w.heap.size + 1 < w5.heap.size := by omega
    go_wp2_with fail
    refine (toMatrix_any p1 r1 c1 A1 n1 k1 d1 _ (B := w.heap.size) (by exact ((a1_5.alloc (by first | omega | (simp only [World.size_alloc]; omega) | (simp; omega)) _))) (by first | exact Nat.le_refl _ | omega | (simp only [World.size_alloc]; omega) | (simp; omega)) (by omega)).mono ?_
    rintro e w6 ⟨Ax1, nx1, kx1, rfl, hdAx1, hb6, hq⟩
    clear z_ba1_0 z_ba1_1 z_ba1_2 z_ba1_3 zz_ba1
    simp only [World.size_alloc] at hb6
    have hs6 := hb6.size
    simp only [World.size_alloc] at hs6
    have bx0_6 : Box w6 (w5.heap.size) #[.int .i64 p0, .int .i64 q0, .slice Ax0 nx0 kx0] := by
      have hq := ((Box.new w5 #[.int .i64 p0, .int .i64 q0, .slice Ax0 nx0 kx0] _)).below hb6 (by first | omega | (simp only [World.size_alloc]; omega) | (simp; omega))
      (try simp only [World.size_alloc] at hq)
      exact hq
    have ba0_6 := ((ba0_5.alloc _)).below hb6 (by omega)
    have ba1_6 := ((ba1_5.alloc _)).below hb6 (by omega)
    have ba2_6 := ((ba2_5.alloc _)).below hb6 (by omega)
    have a0_6 := ((a0_5.alloc (by first | omega | (simp only [World.size_alloc]; omega) | (simp; omega)) _)).below hb6 (by omega)
    have a1_6 := ((a1_5.alloc (by first | omega | (simp only [World.size_alloc]; omega) | (simp; omega)) _)).below hb6 (by omega)
    have a2_6 := ((a2_5.alloc (by first | omega | (simp only [World.size_alloc]; omega) | (simp; omega)) _)).below hb6 (by omega)
    have w0r_6 := ((w0r_5.alloc (by first | omega | (simp only [World.size_alloc]; omega) | (simp; omega)) _)).below hb6 (by omega)
    have bw0r_6 := ((bw0r_5.alloc _)).below hb6 (by omega)
    have x0_6 := ((x0_5.alloc (by first | omega | (simp only [World.size_alloc]; omega) | (simp; omega)) _)).below hb6 (by omega)
    have tot_6 : Below w.heap.size w w6 := (tot_5.alloc (by first | omega | (simp only [World.size_alloc]; omega) | (simp; omega)) _).trans (hb6.mono (by omega))
    clear ba0_5 ba1_5 ba2_5 a0_5 a1_5 a2_5 w0r_5 bw0r_5 x0_5 tot_5 hb6
    try simp only [World.size_alloc] at hq
    have x1_6 := hq
    clear hq
    have hNx1 : nx1 ≤ 1048576 := by have := x1_6.size; omega
    obtain ⟨z_ba2_0, z_ba2_1, z_ba2_2, z_ba2_3⟩ := ba2_6.four
    have zz_ba2 : w.heap.size + 1 + 1 < w6.heap.size := by omega
    go_wp2_with fail
    refine (toMatrix_any p2 r2 c2 A2 n2 k2 d2 _ (B := w.heap.size) (by exact ((a2_6.alloc (by first | omega | (simp only [World.size_alloc]; omega) | (simp; omega)) _))) (by first | exact Nat.le_refl _ | omega | (simp only [World.size_alloc]; omega) | (simp; omega)) (by omega)).mono ?_
    rintro e w7 ⟨Ax2, nx2, kx2, rfl, hdAx2, hb7, hq⟩
    clear z_ba2_0 z_ba2_1 z_ba2_2 z_ba2_3 zz_ba2
    simp only [World.size_alloc] at hb7
    have hs7 := hb7.size
    simp only [World.size_alloc] at hs7
    have bx1_7 : Box w7 (w6.heap.size) #[.int .i64 p1, .int .i64 r1, .int .i64 c1, .slice Ax1 nx1 kx1] := by
      have hq := ((Box.new w6 #[.int .i64 p1, .int .i64 r1, .int .i64 c1, .slice Ax1 nx1 kx1] _)).below hb7 (by first | omega | (simp only [World.size_alloc]; omega) | (simp; omega))
      (try simp only [World.size_alloc] at hq)
      exact hq
    have bx0_7 := ((bx0_6.alloc _)).below hb7 (by omega)
    have ba0_7 := ((ba0_6.alloc _)).below hb7 (by omega)
    have ba1_7 := ((ba1_6.alloc _)).below hb7 (by omega)
    have ba2_7 := ((ba2_6.alloc _)).below hb7 (by omega)
    have a0_7 := ((a0_6.alloc (by first | omega | (simp only [World.size_alloc]; omega) | (simp; omega)) _)).below hb7 (by omega)
    have a1_7 := ((a1_6.alloc (by first | omega | (simp only [World.size_alloc]; omega) | (simp; omega)) _)).below hb7 (by omega)
    have a2_7 := ((a2_6.alloc (by first | omega | (simp only [World.size_alloc]; omega) | (simp; omega)) _)).below hb7 (by omega)
    have w0r_7 := ((w0r_6.alloc (by first | omega | (simp only [World.size_alloc]; omega) | (simp; omega)) _)).below hb7 (by omega)
    have bw0r_7 := ((bw0r_6.alloc _)).below hb7 (by omega)
    have x0_7 := ((x0_6.alloc (by first | omega | (simp only [World.size_alloc]; omega) | (simp; omega)) _)).below hb7 (by omega)
    have x1_7 := ((x1_6.alloc (by first | omega | (simp only [World.size_alloc]; omega) | (simp; omega)) _)).below hb7 (by omega)
    have tot_7 : Below w.heap.size w w7 := (tot_6.alloc (by first | omega | (simp only [World.size_alloc]; omega) | (simp; omega)) _).trans (hb7.mono (by omega))
    clear bx0_6 ba0_6 ba1_6 ba2_6 a0_6 a1_6 a2_6 w0r_6 bw0r_6 x0_6 x1_6 tot_6 hb7
    try simp only [World.size_alloc] at hq
    have x2_7 := hq
    clear hq
    have hNx2 : nx2 ≤ 1048576 := by have := x2_7.size; omega
    obtain ⟨z_bx0_0, z_bx0_1, z_bx0_2⟩ := bx0_7.three
    have zz_bx0 : w5.heap.size < w7.heap.size := by omega
    obtain ⟨z_bx1_0, z_bx1_1, z_bx1_2, z_bx1_3⟩ := bx1_7.four
    have zz_bx1 : w6.heap.size < w7.heap.size := by omega
    go_wp2_with fail
    refine (hI.out (w7.heap.size + 1) Ax0 nx0 kx0 Ax1 nx1 kx1 Ax2 nx2 kx2 _ (by exact ((x0_7.alloc (by first | omega | (simp only [World.size_alloc]; omega) | (simp; omega)) _)).rd.up (by first | exact Nat.le_refl _ | omega | (simp only [World.size_alloc]; omega) | (simp; omega))) hdAx0 (by exact ((x1_7.alloc (by first | omega | (simp only [World.size_alloc]; omega) | (simp; omega)) _)).rd.up (by first | exact Nat.le_refl _ | omega | (simp only [World.size_alloc]; omega) | (simp; omega))) hdAx1 (by exact ((x2_7.alloc (by first | omega | (simp only [World.size_alloc]; omega) | (simp; omega)) _)).rd.up (by first | exact Nat.le_refl _ | omega | (simp only [World.size_alloc]; omega) | (simp; omega))) hdAx2 (by first | exact Nat.le_refl _ | omega | (simp only [World.size_alloc]; omega) | (simp; omega))).mono ?_
    rintro e w8 ⟨Ag0r, ng0r, kg0r, rfl, hdAg0r, hb8, hq⟩
    clear z_bx0_0 z_bx0_1 z_bx0_2 zz_bx0 z_bx1_0 z_bx1_1 z_bx1_2 z_bx1_3 zz_bx1
    simp only [World.size_alloc] at hb8
    have hs8 := hb8.size
    simp only [World.size_alloc] at hs8
    have bx2_8 : Box w8 (w7.heap.size) #[.int .i64 p2, .int .i64 r2, .int .i64 c2, .slice Ax2 nx2 kx2] := by
      have hq := ((Box.new w7 #[.int .i64 p2, .int .i64 r2, .int .i64 c2, .slice Ax2 nx2 kx2] _)).below hb8 (by first | omega | (simp only [World.size_alloc]; omega) | (simp; omega))
      (try simp only [World.size_alloc] at hq)
      exact hq
    have bx1_8 := ((bx1_7.alloc _)).below hb8 (by omega)
    have bx0_8 := ((bx0_7.alloc _)).below hb8 (by omega)
    have ba0_8 := ((ba0_7.alloc _)).below hb8 (by omega)
    have ba1_8 := ((ba1_7.alloc _)).below hb8 (by omega)
    have ba2_8 := ((ba2_7.alloc _)).below hb8 (by omega)
    have a0_8 := ((a0_7.alloc (by first | omega | (simp only [World.size_alloc]; omega) | (simp; omega)) _)).below hb8 (by omega)
    have a1_8 := ((a1_7.alloc (by first | omega | (simp only [World.size_alloc]; omega) | (simp; omega)) _)).below hb8 (by omega)
    have a2_8 := ((a2_7.alloc (by first | omega | (simp only [World.size_alloc]; omega) | (simp; omega)) _)).below hb8 (by omega)
    have w0r_8 := ((w0r_7.alloc (by first | omega | (simp only [World.size_alloc]; omega) | (simp; omega)) _)).below hb8 (by omega)
    have bw0r_8 := ((bw0r_7.alloc _)).below hb8 (by omega)
    have x0_8 := ((x0_7.alloc (by first | omega | (simp only [World.size_alloc]; omega) | (simp; omega)) _)).below hb8 (by omega)
    have x1_8 := ((x1_7.alloc (by first | omega | (simp only [World.size_alloc]; omega) | (simp; omega)) _)).below hb8 (by omega)
    have x2_8 := ((x2_7.alloc (by first | omega | (simp only [World.size_alloc]; omega) | (simp; omega)) _)).below hb8 (by omega)
    have tot_8 : Below w.heap.size w w8 := (tot_7.alloc (by first | omega | (simp only [World.size_alloc]; omega) | (simp; omega)) _).trans (hb8.mono (by omega))
    clear bx1_7 bx0_7 ba0_7 ba1_7 ba2_7 a0_7 a1_7 a2_7 w0r_7 bw0r_7 x0_7 x1_7 x2_7 tot_7 hb8
    try simp only [World.size_alloc] at hq
    have g0r_8 := hq
    clear hq
    have hNg0r : ng0r ≤ 1073741824 := by have := g0r_8.size; omega
    obtain ⟨z_bw0r_0, z_bw0r_1, z_bw0r_2, z_bw0r_3⟩ := bw0r_8.four
    have zz_bw0r : gbw0r < w8.heap.size := by omega
    go_wp2_with fail
    refine (eqMatrix_any P0 R0 C0 Ag0r ng0r kg0r D0 P0 R0 C0 Aw0r nw0r kw0r D0 _ (B1 := w8.heap.size) (B2 := hiw0r) (by exact ((g0r_8.alloc (by first | omega | (simp only [World.size_alloc]; omega) | (simp; omega)) _)).rd) (by first | exact Nat.le_refl _ | omega | (simp only [World.size_alloc]; omega) | (simp; omega)) (by exact ((w0r_8.alloc (by first | omega | (simp only [World.size_alloc]; omega) | (simp; omega)) _)).rd) (by first | exact Nat.le_refl _ | omega | (simp only [World.size_alloc]; omega) | (simp; omega))).mono ?_
    rintro e w9 ⟨rfl, hb9⟩
    clear z_bw0r_0 z_bw0r_1 z_bw0r_2 z_bw0r_3 zz_bw0r
    simp only [World.size_alloc] at hb9
    have hs9 := hb9.size
    simp only [World.size_alloc] at hs9
    have bg0r_9 : Box w9 (w8.heap.size) #[.int .i64 P0, .int .i64 R0, .int .i64 C0, .slice Ag0r ng0r kg0r] := by
      have hq := ((Box.new w8 #[.int .i64 P0, .int .i64 R0, .int .i64 C0, .slice Ag0r ng0r kg0r] _)).below hb9 (by first | omega | (simp only [World.size_alloc]; omega) | (simp; omega))
      (try simp only [World.size_alloc] at hq)
      exact hq
    have bx2_9 := ((bx2_8.alloc _)).below hb9 (by omega)
    have bx1_9 := ((bx1_8.alloc _)).below hb9 (by omega)
    have bx0_9 := ((bx0_8.alloc _)).below hb9 (by omega)
    have ba0_9 := ((ba0_8.alloc _)).below hb9 (by omega)
    have ba1_9 := ((ba1_8.alloc _)).below hb9 (by omega)
    have ba2_9 := ((ba2_8.alloc _)).below hb9 (by omega)
    have a0_9 := ((a0_8.alloc (by first | omega | (simp only [World.size_alloc]; omega) | (simp; omega)) _)).below hb9 (by omega)
    have a1_9 := ((a1_8.alloc (by first | omega | (simp only [World.size_alloc]; omega) | (simp; omega)) _)).below hb9 (by omega)
    have a2_9 := ((a2_8.alloc (by first | omega | (simp only [World.size_alloc]; omega) | (simp; omega)) _)).below hb9 (by omega)
    have w0r_9 := ((w0r_8.alloc (by first | omega | (simp only [World.size_alloc]; omega) | (simp; omega)) _)).below hb9 (by omega)
    have bw0r_9 := ((bw0r_8.alloc _)).below hb9 (by omega)
    have x0_9 := ((x0_8.alloc (by first | omega | (simp only [World.size_alloc]; omega) | (simp; omega)) _)).below hb9 (by omega)
    have x1_9 := ((x1_8.alloc (by first | omega | (simp only [World.size_alloc]; omega) | (simp; omega)) _)).below hb9 (by omega)
    have x2_9 := ((x2_8.alloc (by first | omega | (simp only [World.size_alloc]; omega) | (simp; omega)) _)).below hb9 (by omega)
    have g0r_9 := ((g0r_8.alloc (by first | omega | (simp only [World.size_alloc]; omega) | (simp; omega)) _)).below hb9 (by omega)
    have tot_9 : Below w.heap.size w w9 := (tot_8.alloc (by first | omega | (simp only [World.size_alloc]; omega) | (simp; omega)) _).trans (hb9.mono (by omega))
    clear bx2_8 bx1_8 bx0_8 ba0_8 ba1_8 ba2_8 a0_8 a1_8 a2_8 w0r_8 bw0r_8 x0_8 x1_8 x2_8 g0r_8 tot_8 hb9
    rw [HR0]
    go_wp2_with fail
    go_region_held3 (fun w' => (w'.cell? ⟨w5.heap.size, 0, none⟩ = some (.int .i64 p0) ∧ w'.cell? ⟨w5.heap.size, 1, none⟩ = some (.int .i64 q0) ∧ w'.cell? ⟨w5.heap.size, 2, none⟩ = some (.slice Ax0 nx0 kx0)) ∧ w'.cell? ⟨w.heap.size, 0, none⟩ = some (.int .i64 p0) ∧ w'.cell? ⟨w.heap.size, 1, none⟩ = some (.int .i64 q0) ∧ w'.cell? ⟨w.heap.size, 2, none⟩ = some (.slice A0 n0 k0)) (first | exact ⟨bx0_9.three, ba0_9.three⟩ | exact ⟨(bx0_9.drew.below hbc (by show _ < w9.heap.size; omega)).three, (ba0_9.drew.below hbc (by show _ < w9.heap.size; omega)).three⟩ | exact ⟨((bx0_9.drew.below hbc (by show _ < w9.heap.size; omega)).below hbd (by first | omega | (simp only [World.size_alloc]; omega) | (simp; omega))).three, ((ba0_9.drew.below hbc (by show _ < w9.heap.size; omega)).below hbd (by first | omega | (simp only [World.size_alloc]; omega) | (simp; omega))).three⟩) (first | (go_at_call 18; refine (toAlgebra_any p0 q0 A0 n0 k0 d0 _ (B := w.heap.size) (by exact a0_9) (by show _ ≤ w9.heap.size; omega) (by omega)).mono ?_; rintro e wc ⟨Ay, ny, ky, rfl, hdAy, hbc, hoc⟩; have hsc : w9.heap.size ≤ wc.heap.size := hbc.size) | (go_at_call 20; refine (eqAlgebra_any p0 q0 Ax0 nx0 kx0 d0 p0 q0 Ay ny ky d0 _ (B1 := w5.heap.size) (B2 := wc.heap.size) (by exact (show OwI w9.drew (w4.heap.size) (w5.heap.size) Ax0 nx0 d0 from x0_9).rd.below hbc (by show _ ≤ w9.heap.size; omega)) (by omega) (by exact hoc.rd) (Nat.le_refl _)).mono ?_; rintro e wd ⟨rfl, hbd⟩; rw [HT0]; have hsd := hbd.size))
    have hb10 : Below w9.heap.size w9 wd := (Below.trans (a := w9) (b := w9.drew) ⟨rfl, rfl, rfl, Nat.le_refl _, fun _ _ => rfl⟩ (show Below w9.heap.size w9.drew wc from hbc)).trans (hbd.mono (by omega))
    clear hbc hbd hoc
    obtain ⟨w10, hww⟩ : ∃ x, x = wd := ⟨_, rfl⟩
    subst hww
    clear hsc hsd
    have hs10 := hb10.size
    have bg0r_10 := (bg0r_9).below hb10 (by omega)
    have bx2_10 := (bx2_9).below hb10 (by omega)
    have bx1_10 := (bx1_9).below hb10 (by omega)
    have bx0_10 := (bx0_9).below hb10 (by omega)
    have ba0_10 := (ba0_9).below hb10 (by omega)
    have ba1_10 := (ba1_9).below hb10 (by omega)
    have ba2_10 := (ba2_9).below hb10 (by omega)
    have a0_10 := (a0_9).below hb10 (by omega)
    have a1_10 := (a1_9).below hb10 (by omega)
    have a2_10 := (a2_9).below hb10 (by omega)
    have w0r_10 := (w0r_9).below hb10 (by omega)
    have bw0r_10 := (bw0r_9).below hb10 (by omega)
    have x0_10 := (x0_9).below hb10 (by omega)
    have x1_10 := (x1_9).below hb10 (by omega)
    have x2_10 := (x2_9).below hb10 (by omega)
    have g0r_10 := (g0r_9).below hb10 (by omega)
    have tot_10 : Below w.heap.size w w10 := tot_9.trans (hb10.mono (by omega))
    clear bg0r_9 bx2_9 bx1_9 bx0_9 ba0_9 ba1_9 ba2_9 a0_9 a1_9 a2_9 w0r_9 bw0r_9 x0_9 x1_9 x2_9 g0r_9 tot_9 hb10
    go_wp2_with fail
    go_region_held3 (fun w' => (w'.cell? ⟨w6.heap.size, 0, none⟩ = some (.int .i64 p1) ∧ w'.cell? ⟨w6.heap.size, 1, none⟩ = some (.int .i64 r1) ∧ w'.cell? ⟨w6.heap.size, 2, none⟩ = some (.int .i64 c1) ∧ w'.cell? ⟨w6.heap.size, 3, none⟩ = some (.slice Ax1 nx1 kx1)) ∧ w'.cell? ⟨w.heap.size + 1, 0, none⟩ = some (.int .i64 p1) ∧ w'.cell? ⟨w.heap.size + 1, 1, none⟩ = some (.int .i64 r1) ∧ w'.cell? ⟨w.heap.size + 1, 2, none⟩ = some (.int .i64 c1) ∧ w'.cell? ⟨w.heap.size + 1, 3, none⟩ = some (.slice A1 n1 k1)) (first | exact ⟨bx1_10.four, ba1_10.four⟩ | exact ⟨(bx1_10.drew.below hbc (by show _ < w10.heap.size; omega)).four, (ba1_10.drew.below hbc (by show _ < w10.heap.size; omega)).four⟩ | exact ⟨((bx1_10.drew.below hbc (by show _ < w10.heap.size; omega)).below hbd (by first | omega | (simp only [World.size_alloc]; omega) | (simp; omega))).four, ((ba1_10.drew.below hbc (by show _ < w10.heap.size; omega)).below hbd (by first | omega | (simp only [World.size_alloc]; omega) | (simp; omega))).four⟩) (first | (go_at_call 39; refine (toMatrix_any p1 r1 c1 A1 n1 k1 d1 _ (B := w.heap.size) (by exact a1_10) (by show _ ≤ w10.heap.size; omega) (by omega)).mono ?_; rintro e wc ⟨Ay, ny, ky, rfl, hdAy, hbc, hoc⟩; have hsc : w10.heap.size ≤ wc.heap.size := hbc.size) | (go_at_call 32; refine (eqMatrix_any p1 r1 c1 Ax1 nx1 kx1 d1 p1 r1 c1 Ay ny ky d1 _ (B1 := w6.heap.size) (B2 := wc.heap.size) (by exact (show OwI w10.drew (w5.heap.size + 1) (w6.heap.size) Ax1 nx1 d1 from x1_10).rd.below hbc (by show _ ≤ w10.heap.size; omega)) (by omega) (by exact hoc.rd) (Nat.le_refl _)).mono ?_; rintro e wd ⟨rfl, hbd⟩; rw [HT1]; have hsd := hbd.size))
    have hb11 : Below w10.heap.size w10 wd := (Below.trans (a := w10) (b := w10.drew) ⟨rfl, rfl, rfl, Nat.le_refl _, fun _ _ => rfl⟩ (show Below w10.heap.size w10.drew wc from hbc)).trans (hbd.mono (by omega))
    clear hbc hbd hoc
    obtain ⟨w11, hww⟩ : ∃ x, x = wd := ⟨_, rfl⟩
    subst hww
    clear hsc hsd
    have hs11 := hb11.size
    have bg0r_11 := (bg0r_10).below hb11 (by omega)
    have bx2_11 := (bx2_10).below hb11 (by omega)
    have bx1_11 := (bx1_10).below hb11 (by omega)
    have bx0_11 := (bx0_10).below hb11 (by omega)
    have ba0_11 := (ba0_10).below hb11 (by omega)
    have ba1_11 := (ba1_10).below hb11 (by omega)
    have ba2_11 := (ba2_10).below hb11 (by omega)
    have a0_11 := (a0_10).below hb11 (by omega)
    have a1_11 := (a1_10).below hb11 (by omega)
    have a2_11 := (a2_10).below hb11 (by omega)
    have w0r_11 := (w0r_10).below hb11 (by omega)
    have bw0r_11 := (bw0r_10).below hb11 (by omega)
    have x0_11 := (x0_10).below hb11 (by omega)
    have x1_11 := (x1_10).below hb11 (by omega)
    have x2_11 := (x2_10).below hb11 (by omega)
    have g0r_11 := (g0r_10).below hb11 (by omega)
    have tot_11 : Below w.heap.size w w11 := tot_10.trans (hb11.mono (by omega))
    clear bg0r_10 bx2_10 bx1_10 bx0_10 ba0_10 ba1_10 ba2_10 a0_10 a1_10 a2_10 w0r_10 bw0r_10 x0_10 x1_10 x2_10 g0r_10 tot_10 hb11
    go_wp2_with fail
    go_region_held3 (fun w' => (w'.cell? ⟨w7.heap.size, 0, none⟩ = some (.int .i64 p2) ∧ w'.cell? ⟨w7.heap.size, 1, none⟩ = some (.int .i64 r2) ∧ w'.cell? ⟨w7.heap.size, 2, none⟩ = some (.int .i64 c2) ∧ w'.cell? ⟨w7.heap.size, 3, none⟩ = some (.slice Ax2 nx2 kx2)) ∧ w'.cell? ⟨w.heap.size + 1 + 1, 0, none⟩ = some (.int .i64 p2) ∧ w'.cell? ⟨w.heap.size + 1 + 1, 1, none⟩ = some (.int .i64 r2) ∧ w'.cell? ⟨w.heap.size + 1 + 1, 2, none⟩ = some (.int .i64 c2) ∧ w'.cell? ⟨w.heap.size + 1 + 1, 3, none⟩ = some (.slice A2 n2 k2)) (first | exact ⟨bx2_11.four, ba2_11.four⟩ | exact ⟨(bx2_11.drew.below hbc (by show _ < w11.heap.size; omega)).four, (ba2_11.drew.below hbc (by show _ < w11.heap.size; omega)).four⟩ | exact ⟨((bx2_11.drew.below hbc (by show _ < w11.heap.size; omega)).below hbd (by first | omega | (simp only [World.size_alloc]; omega) | (simp; omega))).four, ((ba2_11.drew.below hbc (by show _ < w11.heap.size; omega)).below hbd (by first | omega | (simp only [World.size_alloc]; omega) | (simp; omega))).four⟩) (first | (go_at_call 39; refine (toMatrix_any p2 r2 c2 A2 n2 k2 d2 _ (B := w.heap.size) (by exact a2_11) (by show _ ≤ w11.heap.size; omega) (by omega)).mono ?_; rintro e wc ⟨Ay, ny, ky, rfl, hdAy, hbc, hoc⟩; have hsc : w11.heap.size ≤ wc.heap.size := hbc.size) | (go_at_call 32; refine (eqMatrix_any p2 r2 c2 Ax2 nx2 kx2 d2 p2 r2 c2 Ay ny ky d2 _ (B1 := w7.heap.size) (B2 := wc.heap.size) (by exact (show OwI w11.drew (w6.heap.size + 1) (w7.heap.size) Ax2 nx2 d2 from x2_11).rd.below hbc (by show _ ≤ w11.heap.size; omega)) (by omega) (by exact hoc.rd) (Nat.le_refl _)).mono ?_; rintro e wd ⟨rfl, hbd⟩; rw [HT2]; have hsd := hbd.size))
    have hb12 : Below w11.heap.size w11 wd := (Below.trans (a := w11) (b := w11.drew) ⟨rfl, rfl, rfl, Nat.le_refl _, fun _ _ => rfl⟩ (show Below w11.heap.size w11.drew wc from hbc)).trans (hbd.mono (by omega))
    clear hbc hbd hoc
    obtain ⟨w12, hww⟩ : ∃ x, x = wd := ⟨_, rfl⟩
    subst hww
    clear hsc hsd
    have hs12 := hb12.size
    have bg0r_12 := (bg0r_11).below hb12 (by omega)
    have bx2_12 := (bx2_11).below hb12 (by omega)
    have bx1_12 := (bx1_11).below hb12 (by omega)
    have bx0_12 := (bx0_11).below hb12 (by omega)
    have ba0_12 := (ba0_11).below hb12 (by omega)
    have ba1_12 := (ba1_11).below hb12 (by omega)
    have ba2_12 := (ba2_11).below hb12 (by omega)
    have a0_12 := (a0_11).below hb12 (by omega)
    have a1_12 := (a1_11).below hb12 (by omega)
    have a2_12 := (a2_11).below hb12 (by omega)
    have w0r_12 := (w0r_11).below hb12 (by omega)
    have bw0r_12 := (bw0r_11).below hb12 (by omega)
    have x0_12 := (x0_11).below hb12 (by omega)
    have x1_12 := (x1_11).below hb12 (by omega)
    have x2_12 := (x2_11).below hb12 (by omega)
    have g0r_12 := (g0r_11).below hb12 (by omega)
    have tot_12 : Below w.heap.size w w12 := tot_11.trans (hb12.mono (by omega))
    clear bg0r_11 bx2_11 bx1_11 bx0_11 ba0_11 ba1_11 ba2_11 a0_11 a1_11 a2_11 w0r_11 bw0r_11 x0_11 x1_11 x2_11 g0r_11 tot_11 hb12
    obtain ⟨z_bx0_0, z_bx0_1, z_bx0_2⟩ := bx0_12.three
    have zz_bx0 : w5.heap.size < w12.heap.size := by omega
    go_wp2_with fail
    refine (markAlgebra_any p0 q0 Ax0 nx0 kx0 d0 (1) _ (B0 := w4.heap.size) (B := w5.heap.size) (by exact (x0_12)) (by first | exact Nat.le_refl _ | omega | (simp only [World.size_alloc]; omega) | (simp; omega)) (by omega) (by omega)).mono ?_
    rintro e w13 ⟨rfl, hb13, hq⟩
    clear z_bx0_0 z_bx0_1 z_bx0_2 zz_bx0
    have hs13 := hb13.size
    have bg0r_13 := (bg0r_12).chg hb13 (by omega)
    have bx2_13 := (bx2_12).chg hb13 (by omega)
    have bx1_13 := (bx1_12).chg hb13 (by omega)
    have bx0_13 := (bx0_12).chg hb13 (by omega)
    have ba0_13 := (ba0_12).chg hb13 (by omega)
    have ba1_13 := (ba1_12).chg hb13 (by omega)
    have ba2_13 := (ba2_12).chg hb13 (by omega)
    have a0_13 := (a0_12).below (hb13.below (by first | omega | (simp only [World.size_alloc]; omega) | (simp; omega))) (by omega)
    have a1_13 := (a1_12).below (hb13.below (by first | omega | (simp only [World.size_alloc]; omega) | (simp; omega))) (by omega)
    have a2_13 := (a2_12).below (hb13.below (by first | omega | (simp only [World.size_alloc]; omega) | (simp; omega))) (by omega)
    have w0r_13 := (w0r_12).below (hb13.below (by first | omega | (simp only [World.size_alloc]; omega) | (simp; omega))) (by omega)
    have bw0r_13 := (bw0r_12).chg hb13 (by omega)
    have x1_13 := (x1_12).chgHi hb13 (by omega) (by first | omega | (simp only [World.size_alloc]; omega) | (simp; omega))
    have x2_13 := (x2_12).chgHi hb13 (by omega) (by first | omega | (simp only [World.size_alloc]; omega) | (simp; omega))
    have g0r_13 := (g0r_12).chgHi hb13 (by omega) (by first | omega | (simp only [World.size_alloc]; omega) | (simp; omega))
    have tot_13 : Below w.heap.size w w13 := tot_12.trans ((hb13.below (by first | omega | (simp only [World.size_alloc]; omega) | (simp; omega))).mono (by omega))
    clear bg0r_12 bx2_12 bx1_12 bx0_12 ba0_12 ba1_12 ba2_12 a0_12 a1_12 a2_12 w0r_12 bw0r_12 x0_12 x1_12 x2_12 g0r_12 tot_12 hb13
    clear hq
    have hkk0 : ¬ (1 + (nx0 : Int) : Int) < 0 := by omega
    obtain ⟨z_bx1_0, z_bx1_1, z_bx1_2, z_bx1_3⟩ := bx1_13.four
    have zz_bx1 : w6.heap.size < w13.heap.size := by omega
    go_wp2_with fail
    refine (markMatrix_any p1 r1 c1 Ax1 nx1 kx1 d1 (1 + (nx0 : Int)) _ (B0 := w5.heap.size + 1) (B := w6.heap.size) (by exact (x1_13)) (by first | exact Nat.le_refl _ | omega | (simp only [World.size_alloc]; omega) | (simp; omega)) (by omega) (by omega)).mono ?_
    rintro e w14 ⟨rfl, hb14, hq⟩
    clear z_bx1_0 z_bx1_1 z_bx1_2 z_bx1_3 zz_bx1
    have hs14 := hb14.size
    have bg0r_14 := (bg0r_13).chg hb14 (by omega)
    have bx2_14 := (bx2_13).chg hb14 (by omega)
    have bx1_14 := (bx1_13).chg hb14 (by omega)
    have bx0_14 := (bx0_13).chg hb14 (by omega)
    have ba0_14 := (ba0_13).chg hb14 (by omega)
    have ba1_14 := (ba1_13).chg hb14 (by omega)
    have ba2_14 := (ba2_13).chg hb14 (by omega)
    have a0_14 := (a0_13).below (hb14.below (by first | omega | (simp only [World.size_alloc]; omega) | (simp; omega))) (by omega)
    have a1_14 := (a1_13).below (hb14.below (by first | omega | (simp only [World.size_alloc]; omega) | (simp; omega))) (by omega)
    have a2_14 := (a2_13).below (hb14.below (by first | omega | (simp only [World.size_alloc]; omega) | (simp; omega))) (by omega)
    have w0r_14 := (w0r_13).below (hb14.below (by first | omega | (simp only [World.size_alloc]; omega) | (simp; omega))) (by omega)
    have bw0r_14 := (bw0r_13).chg hb14 (by omega)
    have x2_14 := (x2_13).chgHi hb14 (by omega) (by first | omega | (simp only [World.size_alloc]; omega) | (simp; omega))
    have g0r_14 := (g0r_13).chgHi hb14 (by omega) (by first | omega | (simp only [World.size_alloc]; omega) | (simp; omega))
    have tot_14 : Below w.heap.size w w14 := tot_13.trans ((hb14.below (by first | omega | (simp only [World.size_alloc]; omega) | (simp; omega))).mono (by omega))
    clear bg0r_13 bx2_13 bx1_13 bx0_13 ba0_13 ba1_13 ba2_13 a0_13 a1_13 a2_13 w0r_13 bw0r_13 x1_13 x2_13 g0r_13 tot_13 hb14
    clear hq
    have hkk1 : ¬ ((1 + (nx0 : Int)) + (nx1 : Int) : Int) < 0 := by omega
    obtain ⟨z_bx2_0, z_bx2_1, z_bx2_2, z_bx2_3⟩ := bx2_14.four
    have zz_bx2 : w7.heap.size < w14.heap.size := by omega
    go_wp2_with fail
    refine (markMatrix_any p2 r2 c2 Ax2 nx2 kx2 d2 ((1 + (nx0 : Int)) + (nx1 : Int)) _ (B0 := w6.heap.size + 1) (B := w7.heap.size) (by exact (x2_14)) (by first | exact Nat.le_refl _ | omega | (simp only [World.size_alloc]; omega) | (simp; omega)) (by omega) (by omega)).mono ?_
    rintro e w15 ⟨rfl, hb15, hq⟩
    clear z_bx2_0 z_bx2_1 z_bx2_2 z_bx2_3 zz_bx2
    have hs15 := hb15.size
    have bg0r_15 := (bg0r_14).chg hb15 (by omega)
    have bx2_15 := (bx2_14).chg hb15 (by omega)
    have bx1_15 := (bx1_14).chg hb15 (by omega)
    have bx0_15 := (bx0_14).chg hb15 (by omega)
    have ba0_15 := (ba0_14).chg hb15 (by omega)
    have ba1_15 := (ba1_14).chg hb15 (by omega)
    have ba2_15 := (ba2_14).chg hb15 (by omega)
    have a0_15 := (a0_14).below (hb15.below (by first | omega | (simp only [World.size_alloc]; omega) | (simp; omega))) (by omega)
    have a1_15 := (a1_14).below (hb15.below (by first | omega | (simp only [World.size_alloc]; omega) | (simp; omega))) (by omega)
    have a2_15 := (a2_14).below (hb15.below (by first | omega | (simp only [World.size_alloc]; omega) | (simp; omega))) (by omega)
    have w0r_15 := (w0r_14).below (hb15.below (by first | omega | (simp only [World.size_alloc]; omega) | (simp; omega))) (by omega)
    have bw0r_15 := (bw0r_14).chg hb15 (by omega)
    have g0r_15 := (g0r_14).chgHi hb15 (by omega) (by first | omega | (simp only [World.size_alloc]; omega) | (simp; omega))
    have tot_15 : Below w.heap.size w w15 := tot_14.trans ((hb15.below (by first | omega | (simp only [World.size_alloc]; omega) | (simp; omega))).mono (by omega))
    clear bg0r_14 bx2_14 bx1_14 bx0_14 ba0_14 ba1_14 ba2_14 a0_14 a1_14 a2_14 w0r_14 bw0r_14 x2_14 g0r_14 tot_14 hb15
    clear hq
    have hkk2 : ¬ (((1 + (nx0 : Int)) + (nx1 : Int)) + (nx2 : Int) : Int) < 0 := by omega
    obtain ⟨z_bg0r_0, z_bg0r_1, z_bg0r_2, z_bg0r_3⟩ := bg0r_15.four
    have zz_bg0r : w8.heap.size < w15.heap.size := by omega
    obtain ⟨z_bw0r_0, z_bw0r_1, z_bw0r_2, z_bw0r_3⟩ := bw0r_15.four
    have zz_bw0r : gbw0r < w15.heap.size := by omega
    go_wp2_with fail
    refine (eqMatrix_any P0 R0 C0 Ag0r ng0r kg0r D0 P0 R0 C0 Aw0r nw0r kw0r D0 _ (B1 := w8.heap.size) (B2 := hiw0r) (by exact (g0r_15).rd) (by first | exact Nat.le_refl _ | omega | (simp only [World.size_alloc]; omega) | (simp; omega)) (by exact (w0r_15).rd) (by first | exact Nat.le_refl _ | omega | (simp only [World.size_alloc]; omega) | (simp; omega))).mono ?_
    rintro e w16 ⟨rfl, hb16⟩
    clear z_bg0r_0 z_bg0r_1 z_bg0r_2 z_bg0r_3 zz_bg0r z_bw0r_0 z_bw0r_1 z_bw0r_2 z_bw0r_3 zz_bw0r
    have hs16 := hb16.size
    have bg0r_16 := (bg0r_15).below hb16 (by omega)
    have bx2_16 := (bx2_15).below hb16 (by omega)
    have bx1_16 := (bx1_15).below hb16 (by omega)
    have bx0_16 := (bx0_15).below hb16 (by omega)
    have ba0_16 := (ba0_15).below hb16 (by omega)
    have ba1_16 := (ba1_15).below hb16 (by omega)
    have ba2_16 := (ba2_15).below hb16 (by omega)
    have a0_16 := (a0_15).below hb16 (by omega)
    have a1_16 := (a1_15).below hb16 (by omega)
    have a2_16 := (a2_15).below hb16 (by omega)
    have w0r_16 := (w0r_15).below hb16 (by omega)
    have bw0r_16 := (bw0r_15).below hb16 (by omega)
    have g0r_16 := (g0r_15).below hb16 (by omega)
    have tot_16 : Below w.heap.size w w16 := tot_15.trans (hb16.mono (by omega))
    clear bg0r_15 bx2_15 bx1_15 bx0_15 ba0_15 ba1_15 ba2_15 a0_15 a1_15 a2_15 w0r_15 bw0r_15 g0r_15 tot_15 hb16
    rw [HR0]
    obtain ⟨z_bg0r_0, z_bg0r_1, z_bg0r_2, z_bg0r_3⟩ := bg0r_16.four
    have zz_bg0r : w8.heap.size < w16.heap.size := by omega
    go_wp2_with fail
    refine (markMatrix_any P0 R0 C0 Ag0r ng0r kg0r D0 1 _ (B0 := w7.heap.size + 1) (B := w8.heap.size) (by exact (g0r_16)) (by first | exact Nat.le_refl _ | omega | (simp only [World.size_alloc]; omega) | (simp; omega)) (by omega) (by omega)).mono ?_
    rintro e w17 ⟨rfl, hb17, hq⟩
    clear z_bg0r_0 z_bg0r_1 z_bg0r_2 z_bg0r_3 zz_bg0r
    have hs17 := hb17.size
    have bg0r_17 := (bg0r_16).chg hb17 (by omega)
    have bx2_17 := (bx2_16).chg hb17 (by omega)
    have bx1_17 := (bx1_16).chg hb17 (by omega)
    have bx0_17 := (bx0_16).chg hb17 (by omega)
    have ba0_17 := (ba0_16).chg hb17 (by omega)
    have ba1_17 := (ba1_16).chg hb17 (by omega)
    have ba2_17 := (ba2_16).chg hb17 (by omega)
    have a0_17 := (a0_16).below (hb17.below (by first | omega | (simp only [World.size_alloc]; omega) | (simp; omega))) (by omega)
    have a1_17 := (a1_16).below (hb17.below (by first | omega | (simp only [World.size_alloc]; omega) | (simp; omega))) (by omega)
    have a2_17 := (a2_16).below (hb17.below (by first | omega | (simp only [World.size_alloc]; omega) | (simp; omega))) (by omega)
    have w0r_17 := (w0r_16).below (hb17.below (by first | omega | (simp only [World.size_alloc]; omega) | (simp; omega))) (by omega)
    have bw0r_17 := (bw0r_16).chg hb17 (by omega)
    have tot_17 : Below w.heap.size w w17 := tot_16.trans ((hb17.below (by first | omega | (simp only [World.size_alloc]; omega) | (simp; omega))).mono (by omega))
    clear bg0r_16 bx2_16 bx1_16 bx0_16 ba0_16 ba1_16 ba2_16 a0_16 a1_16 a2_16 w0r_16 bw0r_16 g0r_16 tot_16 hb17
    have g0r_17 := hq
    clear hq
    have hge : ¬ (1 + ((ng0r : Nat) : Int)) < 0 := by omega
    have hne : (1 + ((ng0r : Nat) : Int) != 1 + ((ng0r : Nat) : Int)) = false := by simp
    obtain ⟨z_bg0r_0, z_bg0r_1, z_bg0r_2, z_bg0r_3⟩ := bg0r_17.four
    have zz_bg0r : w8.heap.size < w17.heap.size := by omega
    go_wp2_with fail
    refine (heldMatrix_any P0 R0 C0 Ag0r ng0r kg0r 1 _ (B := w8.heap.size) (by exact (g0r_17).rd) (by first | exact Nat.le_refl _ | omega | (simp only [World.size_alloc]; omega) | (simp; omega)) (by omega) (by omega)).mono ?_
    rintro e w18 ⟨rfl, hb18⟩
    clear z_bg0r_0 z_bg0r_1 z_bg0r_2 z_bg0r_3 zz_bg0r
    have hs18 := hb18.size
    have bg0r_18 := (bg0r_17).below hb18 (by omega)
    have bx2_18 := (bx2_17).below hb18 (by omega)
    have bx1_18 := (bx1_17).below hb18 (by omega)
    have bx0_18 := (bx0_17).below hb18 (by omega)
    have ba0_18 := (ba0_17).below hb18 (by omega)
    have ba1_18 := (ba1_17).below hb18 (by omega)
    have ba2_18 := (ba2_17).below hb18 (by omega)
    have a0_18 := (a0_17).below hb18 (by omega)
    have a1_18 := (a1_17).below hb18 (by omega)
    have a2_18 := (a2_17).below hb18 (by omega)
    have w0r_18 := (w0r_17).below hb18 (by omega)
    have bw0r_18 := (bw0r_17).below hb18 (by omega)
    have g0r_18 := (g0r_17).below hb18 (by omega)
    have tot_18 : Below w.heap.size w w18 := tot_17.trans (hb18.mono (by omega))
    clear bg0r_17 bx2_17 bx1_17 bx0_17 ba0_17 ba1_17 ba2_17 a0_17 a1_17 a2_17 w0r_17 bw0r_17 g0r_17 tot_17 hb18
    have hN19 : w.heap.size ≤ w18.heap.size := by omega
    go_upto_region 38 with fail
    go_cut [18, 19] (fun s18 s19 wx => CutM w18 P0 R0 C0 D0 s18 wx ∧ s19 = .bool V1)
    have hlt0 : w.heap.size < w18.heap.size := by omega
    have hlt1 : w.heap.size + 1 < w18.heap.size := by omega
    have hlt2 : w.heap.size + 1 + 1 < w18.heap.size := by omega
    case first =>
      have hcur : Below w18.heap.size w18 w18 := Below.refl _ _
      go_region_held3 (fun w' => (w'.cell? ⟨w.heap.size, 0, none⟩ = some (.int .i64 p0) ∧ w'.cell? ⟨w.heap.size, 1, none⟩ = some (.int .i64 q0) ∧ w'.cell? ⟨w.heap.size, 2, none⟩ = some (.slice A0 n0 k0)) ∧ (w'.cell? ⟨w.heap.size + 1, 0, none⟩ = some (.int .i64 p1) ∧ w'.cell? ⟨w.heap.size + 1, 1, none⟩ = some (.int .i64 r1) ∧ w'.cell? ⟨w.heap.size + 1, 2, none⟩ = some (.int .i64 c1) ∧ w'.cell? ⟨w.heap.size + 1, 3, none⟩ = some (.slice A1 n1 k1)) ∧ (w'.cell? ⟨w.heap.size + 1 + 1, 0, none⟩ = some (.int .i64 p2) ∧ w'.cell? ⟨w.heap.size + 1 + 1, 1, none⟩ = some (.int .i64 r2) ∧ w'.cell? ⟨w.heap.size + 1 + 1, 2, none⟩ = some (.int .i64 c2) ∧ w'.cell? ⟨w.heap.size + 1 + 1, 3, none⟩ = some (.slice A2 n2 k2))) ((first | with_reducible exact ⟨(ba0_18.below hcur hlt0).three, (ba1_18.below hcur hlt1).four, (ba2_18.below hcur hlt2).four⟩ | with_reducible exact ⟨(ba0_18.below (Below.alo hcur) hlt0).three, (ba1_18.below (Below.alo hcur) hlt1).four, (ba2_18.below (Below.alo hcur) hlt2).four⟩ | with_reducible exact ⟨(ba0_18.below (Below.drew hcur) hlt0).three, (ba1_18.below (Below.drew hcur) hlt1).four, (ba2_18.below (Below.drew hcur) hlt2).four⟩ | with_reducible exact ⟨(ba0_18.below (Below.drew (Below.alo hcur)) hlt0).three, (ba1_18.below (Below.drew (Below.alo hcur)) hlt1).four, (ba2_18.below (Below.drew (Below.alo hcur)) hlt2).four⟩ | with_reducible exact ⟨(ba0_18.below (by repeat' (first | exact hcur | exact Below.alo hcur | (refine Below.setCell ?_ hgb _))) hlt0).three, (ba1_18.below (by repeat' (first | exact hcur | exact Below.alo hcur | (refine Below.setCell ?_ hgb _))) hlt1).four, (ba2_18.below (by repeat' (first | exact hcur | exact Below.alo hcur | (refine Below.setCell ?_ hgb _))) hlt2).four⟩)) (first | (go_at_call_of 18 (Value.agg #[.int .i64 p0, .int .i64 q0, .slice A0 n0 k0]); refine (toAlgebra_any p0 q0 A0 n0 k0 d0 _ (B := w.heap.size) (by first | with_reducible exact a0_18.below hcur hN19 | with_reducible exact a0_18.below (Below.alo hcur) hN19 | with_reducible exact a0_18.below (Below.drew hcur) hN19 | with_reducible exact a0_18.below (Below.drew (Below.alo hcur)) hN19) (by first | with_reducible exact Nat.le_trans hN19 (hcur).size | with_reducible exact Nat.le_trans hN19 ((Below.alo hcur)).size | with_reducible exact Nat.le_trans hN19 ((Below.drew hcur)).size | with_reducible exact Nat.le_trans hN19 ((Below.drew (Below.alo hcur))).size) (by omega)).mono ?_; rintro e wc0 ⟨Ac0, nc0, kc0, rfl, hdc0, hbc0, hoc0⟩; have hrc0 := hoc0.rd; clear hoc0; (try with_reducible replace hbx := hbx.step hbc0); (first | ((with_reducible have hbx := Box.newA hbc0); have hgb := hcur.size) | ((with_reducible have hbx := Box.newAD hbc0); have hgb := hcur.size) | skip); (first | with_reducible replace hcur := Below.step hcur hbc0 | with_reducible replace hcur := Below.stepA hcur hbc0 | with_reducible replace hcur := Below.stepD hcur hbc0 | with_reducible replace hcur := Below.stepAD hcur hbc0); (first | with_reducible replace hrc1 := hrc1.step hbc0 | with_reducible replace hrc1 := hrc1.stepA hbc0 | skip); (first | with_reducible replace hrc2 := hrc2.step hbc0 | with_reducible replace hrc2 := hrc2.stepA hbc0 | skip); clear hbc0) | (go_at_call_of 39 (Value.agg #[.int .i64 p1, .int .i64 r1, .int .i64 c1, .slice A1 n1 k1]); refine (toMatrix_any p1 r1 c1 A1 n1 k1 d1 _ (B := w.heap.size) (by first | with_reducible exact a1_18.below hcur hN19 | with_reducible exact a1_18.below (Below.alo hcur) hN19 | with_reducible exact a1_18.below (Below.drew hcur) hN19 | with_reducible exact a1_18.below (Below.drew (Below.alo hcur)) hN19) (by first | with_reducible exact Nat.le_trans hN19 (hcur).size | with_reducible exact Nat.le_trans hN19 ((Below.alo hcur)).size | with_reducible exact Nat.le_trans hN19 ((Below.drew hcur)).size | with_reducible exact Nat.le_trans hN19 ((Below.drew (Below.alo hcur))).size) (by omega)).mono ?_; rintro e wc1 ⟨Ac1, nc1, kc1, rfl, hdc1, hbc1, hoc1⟩; have hrc1 := hoc1.rd; clear hoc1; (try with_reducible replace hbx := hbx.step hbc1); (first | ((with_reducible have hbx := Box.newA hbc1); have hgb := hcur.size) | ((with_reducible have hbx := Box.newAD hbc1); have hgb := hcur.size) | skip); (first | with_reducible replace hcur := Below.step hcur hbc1 | with_reducible replace hcur := Below.stepA hcur hbc1 | with_reducible replace hcur := Below.stepD hcur hbc1 | with_reducible replace hcur := Below.stepAD hcur hbc1); (first | with_reducible replace hrc0 := hrc0.step hbc1 | with_reducible replace hrc0 := hrc0.stepA hbc1 | skip); (first | with_reducible replace hrc2 := hrc2.step hbc1 | with_reducible replace hrc2 := hrc2.stepA hbc1 | skip); clear hbc1) | (go_at_call_of 39 (Value.agg #[.int .i64 p2, .int .i64 r2, .int .i64 c2, .slice A2 n2 k2]); refine (toMatrix_any p2 r2 c2 A2 n2 k2 d2 _ (B := w.heap.size) (by first | with_reducible exact a2_18.below hcur hN19 | with_reducible exact a2_18.below (Below.alo hcur) hN19 | with_reducible exact a2_18.below (Below.drew hcur) hN19 | with_reducible exact a2_18.below (Below.drew (Below.alo hcur)) hN19) (by first | with_reducible exact Nat.le_trans hN19 (hcur).size | with_reducible exact Nat.le_trans hN19 ((Below.alo hcur)).size | with_reducible exact Nat.le_trans hN19 ((Below.drew hcur)).size | with_reducible exact Nat.le_trans hN19 ((Below.drew (Below.alo hcur))).size) (by omega)).mono ?_; rintro e wc2 ⟨Ac2, nc2, kc2, rfl, hdc2, hbc2, hoc2⟩; have hrc2 := hoc2.rd; clear hoc2; (try with_reducible replace hbx := hbx.step hbc2); (first | ((with_reducible have hbx := Box.newA hbc2); have hgb := hcur.size) | ((with_reducible have hbx := Box.newAD hbc2); have hgb := hcur.size) | skip); (first | with_reducible replace hcur := Below.step hcur hbc2 | with_reducible replace hcur := Below.stepA hcur hbc2 | with_reducible replace hcur := Below.stepD hcur hbc2 | with_reducible replace hcur := Below.stepAD hcur hbc2); (first | with_reducible replace hrc0 := hrc0.step hbc2 | with_reducible replace hrc0 := hrc0.stepA hbc2 | skip); (first | with_reducible replace hrc1 := hrc1.step hbc2 | with_reducible replace hrc1 := hrc1.stepA hbc2 | skip); clear hbc2) | (go_at_call 57; refine (hI.out _ Ac0 nc0 kc0 Ac1 nc1 kc1 Ac2 nc2 kc2 _ (by first | with_reducible exact hrc0 | with_reducible exact hrc0.alo) hdc0 (by first | with_reducible exact hrc1 | with_reducible exact hrc1.alo) hdc1 (by first | with_reducible exact hrc2 | with_reducible exact hrc2.alo) hdc2 (Nat.le_refl _)).mono ?_; rintro e wr ⟨Ah0r, nh0r, kh0r, rfl, hdAh0r, hbr, hq⟩; (try have hg2 := hbx.lt); have hlo := hcur.size; (try with_reducible replace hbx := hbx.step hbr); (first | ((with_reducible have hbx := Box.newA hbr); have hgb := hcur.size) | ((with_reducible have hbx := Box.newAD hbr); have hgb := hcur.size) | skip); (first | with_reducible replace hcur := Below.step hcur hbr | with_reducible replace hcur := Below.stepA hcur hbr | with_reducible replace hcur := Below.stepD hcur hbr | with_reducible replace hcur := Below.stepAD hcur hbr); (first | with_reducible replace hrc0 := hrc0.step hbr | with_reducible replace hrc0 := hrc0.stepA hbr | skip); (first | with_reducible replace hrc1 := hrc1.step hbr | with_reducible replace hrc1 := hrc1.stepA hbr | skip); (first | with_reducible replace hrc2 := hrc2.step hbr | with_reducible replace hrc2 := hrc2.stepA hbr | skip); (try obtain ⟨gc0, gc1, gc2, gc3⟩ := hbx.four); (try obtain ⟨gc0, gc1, gc2⟩ := hbx.three); (try have gcf := hbx.fz); clear hbr))
      all_goals
        go_wp2_with fail
        go_meet
        first | exact ⟨CutM.a hcur hq hdAh0r (by first | exact hlo | exact Nat.le_trans hlo (by simp)) _, rfl⟩ | exact ⟨CutM.b hcur hbx hq hdAh0r (by first | exact hlo | exact Nat.le_trans hlo (by simp)) hgb (by first | exact hg2 | simp), rfl⟩ | exact CutM.a hcur hq hdAh0r (by first | exact hlo | exact Nat.le_trans hlo (by simp)) _ | exact CutM.b hcur hbx hq hdAh0r (by first | exact hlo | exact Nat.le_trans hlo (by simp)) hgb (by first | exact hg2 | simp)
    case rest =>
      obtain ⟨w19, hww⟩ : ∃ x, x = wc := ⟨_, rfl⟩
      subst hww
      obtain ⟨⟨gbh0r, Ah0r, nh0r, kh0r, loh0r, hih0r, rfl, hdAh0r, hbx, hq, ho1h0r, ho2h0r, ho3h0r, ho4h0r, ho5h0r, hb19⟩, rfl⟩ := hcut
      have hs19 := hb19.size
      have bg0r_19 := (bg0r_18).below hb19 (by omega)
      have bx2_19 := (bx2_18).below hb19 (by omega)
      have bx1_19 := (bx1_18).below hb19 (by omega)
      have bx0_19 := (bx0_18).below hb19 (by omega)
      have ba0_19 := (ba0_18).below hb19 (by omega)
      have ba1_19 := (ba1_18).below hb19 (by omega)
      have ba2_19 := (ba2_18).below hb19 (by omega)
      have a0_19 := (a0_18).below hb19 (by omega)
      have a1_19 := (a1_18).below hb19 (by omega)
      have a2_19 := (a2_18).below hb19 (by omega)
      have w0r_19 := (w0r_18).below hb19 (by omega)
      have bw0r_19 := (bw0r_18).below hb19 (by omega)
      have g0r_19 := (g0r_18).below hb19 (by omega)
      have tot_19 : Below w.heap.size w w19 := tot_18.trans (hb19.mono (by omega))
      clear bg0r_18 bx2_18 bx1_18 bx0_18 ba0_18 ba1_18 ba2_18 a0_18 a1_18 a2_18 w0r_18 bw0r_18 g0r_18 tot_18 hb19
      have h0r_19 := hq
      clear hq
      have hNh0r : nh0r ≤ 1073741824 := by have := h0r_19.size; omega
      have bh0r_19 := hbx
      clear hbx
      obtain ⟨z_bh0r_0, z_bh0r_1, z_bh0r_2, z_bh0r_3⟩ := bh0r_19.four
      have zz_bh0r : gbh0r < w19.heap.size := by omega
      obtain ⟨z_bw0r_0, z_bw0r_1, z_bw0r_2, z_bw0r_3⟩ := bw0r_19.four
      have zz_bw0r : gbw0r < w19.heap.size := by omega
      go_wp2_with fail
      refine (eqMatrix_any P0 R0 C0 Ah0r nh0r kh0r D0 P0 R0 C0 Aw0r nw0r kw0r D0 _ (B1 := hih0r) (B2 := hiw0r) (by exact (h0r_19).rd) (by first | exact Nat.le_refl _ | omega | (simp only [World.size_alloc]; omega) | (simp; omega)) (by exact (w0r_19).rd) (by first | exact Nat.le_refl _ | omega | (simp only [World.size_alloc]; omega) | (simp; omega))).mono ?_
      rintro e w20 ⟨rfl, hb20⟩
      clear z_bh0r_0 z_bh0r_1 z_bh0r_2 z_bh0r_3 zz_bh0r z_bw0r_0 z_bw0r_1 z_bw0r_2 z_bw0r_3 zz_bw0r
      have hs20 := hb20.size
      have bg0r_20 := (bg0r_19).below hb20 (by omega)
      have bx2_20 := (bx2_19).below hb20 (by omega)
      have bx1_20 := (bx1_19).below hb20 (by omega)
      have bx0_20 := (bx0_19).below hb20 (by omega)
      have ba0_20 := (ba0_19).below hb20 (by omega)
      have ba1_20 := (ba1_19).below hb20 (by omega)
      have ba2_20 := (ba2_19).below hb20 (by omega)
      have a0_20 := (a0_19).below hb20 (by omega)
      have a1_20 := (a1_19).below hb20 (by omega)
      have a2_20 := (a2_19).below hb20 (by omega)
      have w0r_20 := (w0r_19).below hb20 (by omega)
      have bw0r_20 := (bw0r_19).below hb20 (by omega)
      have g0r_20 := (g0r_19).below hb20 (by omega)
      have h0r_20 := (h0r_19).below hb20 (by omega)
      have bh0r_20 := (bh0r_19).below hb20 (by omega)
      have tot_20 : Below w.heap.size w w20 := tot_19.trans (hb20.mono (by omega))
      clear bg0r_19 bx2_19 bx1_19 bx0_19 ba0_19 ba1_19 ba2_19 a0_19 a1_19 a2_19 w0r_19 bw0r_19 g0r_19 h0r_19 bh0r_19 tot_19 hb20
      rw [HR0]
      obtain ⟨z_bg0r_0, z_bg0r_1, z_bg0r_2, z_bg0r_3⟩ := bg0r_20.four
      have zz_bg0r : w8.heap.size < w20.heap.size := by omega
      go_wp2_with fail
      refine (heldMatrix_any P0 R0 C0 Ag0r ng0r kg0r 1 _ (B := w8.heap.size) (by exact (g0r_20).rd) (by first | exact Nat.le_refl _ | omega | (simp only [World.size_alloc]; omega) | (simp; omega)) (by omega) (by omega)).mono ?_
      rintro e w21 ⟨rfl, hb21⟩
      clear z_bg0r_0 z_bg0r_1 z_bg0r_2 z_bg0r_3 zz_bg0r
      have hs21 := hb21.size
      have bg0r_21 := (bg0r_20).below hb21 (by omega)
      have bx2_21 := (bx2_20).below hb21 (by omega)
      have bx1_21 := (bx1_20).below hb21 (by omega)
      have bx0_21 := (bx0_20).below hb21 (by omega)
      have ba0_21 := (ba0_20).below hb21 (by omega)
      have ba1_21 := (ba1_20).below hb21 (by omega)
      have ba2_21 := (ba2_20).below hb21 (by omega)
      have a0_21 := (a0_20).below hb21 (by omega)
      have a1_21 := (a1_20).below hb21 (by omega)
      have a2_21 := (a2_20).below hb21 (by omega)
      have w0r_21 := (w0r_20).below hb21 (by omega)
      have bw0r_21 := (bw0r_20).below hb21 (by omega)
      have g0r_21 := (g0r_20).below hb21 (by omega)
      have h0r_21 := (h0r_20).below hb21 (by omega)
      have bh0r_21 := (bh0r_20).below hb21 (by omega)
      have tot_21 : Below w.heap.size w w21 := tot_20.trans (hb21.mono (by omega))
      clear bg0r_20 bx2_20 bx1_20 bx0_20 ba0_20 ba1_20 ba2_20 a0_20 a1_20 a2_20 w0r_20 bw0r_20 g0r_20 h0r_20 bh0r_20 tot_20 hb21
      go_wp2
      go_ret
      exact ⟨rfl, tot_21⟩
theorem law_OrthogonalOf_out0 (p0 q0 : Int) (A0 : Option Addr) (n0 k0 : Nat) (p1 r1 c1 : Int) (A1 : Option Addr) (n1 k1 : Nat) (p2 r2 c2 : Int) (A2 : Option Addr) (n2 k2 : Nat) (w : World) (hm : n0 ≤ maxLen)  (hx : ¬ n0 ≤ 1048576) :
    Calls Try.prog 15 #[.agg #[.int .i64 p0, .int .i64 q0, .slice A0 n0 k0], .agg #[.int .i64 p1, .int .i64 r1, .int .i64 c1, .slice A1 n1 k1], .agg #[.int .i64 p2, .int .i64 r2, .int .i64 c2, .slice A2 n2 k2]] w (Rv (.bool true) w) := by
  have HN0 := Lib.hid (show (if (n0 : Int) ≤ 1048576 then (1048576 : Int) - n0 else -1) = -1 from if_neg (by omega))
  go_enter Try.func15, Try.ntmps15
  have tot_0 : Below w.heap.size w w := Below.refl _ _
  go_wp2_with fail
  refine (szAlgebra_any p0 q0 A0 n0 k0 (1048576) _ hm (by omega) (by omega)).mono ?_
  rintro e w1 ⟨rfl, hb1⟩
  simp only [World.size_alloc] at hb1
  have hs1 := hb1.size
  simp only [World.size_alloc] at hs1
  have ba0_1 : Box w1 (w.heap.size) #[.int .i64 p0, .int .i64 q0, .slice A0 n0 k0] := by
    have hq := ((((Box.new w #[.int .i64 p0, .int .i64 q0, .slice A0 n0 k0] _).alloc _).alloc _)).below hb1 (by first | omega | (simp only [World.size_alloc]; omega) | (simp; omega))
    (try simp only [World.size_alloc] at hq)
    exact hq
  have ba1_1 : Box w1 (w.heap.size + 1) #[.int .i64 p1, .int .i64 r1, .int .i64 c1, .slice A1 n1 k1] := by
    have hq := (((Box.new (w.alloc _) #[.int .i64 p1, .int .i64 r1, .int .i64 c1, .slice A1 n1 k1] _).alloc _)).below hb1 (by first | omega | (simp only [World.size_alloc]; omega) | (simp; omega))
    (try simp only [World.size_alloc] at hq)
    exact hq
  have ba2_1 : Box w1 (w.heap.size + 1 + 1) #[.int .i64 p2, .int .i64 r2, .int .i64 c2, .slice A2 n2 k2] := by
    have hq := ((Box.new ((w.alloc _).alloc _) #[.int .i64 p2, .int .i64 r2, .int .i64 c2, .slice A2 n2 k2] _)).below hb1 (by first | omega | (simp only [World.size_alloc]; omega) | (simp; omega))
    (try simp only [World.size_alloc] at hq)
    exact hq
  have tot_1 : Below w.heap.size w w1 := (((tot_0.alloc (by first | omega | (simp only [World.size_alloc]; omega) | (simp; omega)) _).alloc (by first | omega | (simp only [World.size_alloc]; omega) | (simp; omega)) _).alloc (by first | omega | (simp only [World.size_alloc]; omega) | (simp; omega)) _).trans (hb1.mono (by omega))
  clear tot_0 hb1
  rw [HN0.out]
  go_wp2
  go_ret
  exact ⟨rfl, tot_1⟩
theorem law_OrthogonalOf_out1 (p0 q0 : Int) (A0 : Option Addr) (n0 k0 : Nat) (p1 r1 c1 : Int) (A1 : Option Addr) (n1 k1 : Nat) (p2 r2 c2 : Int) (A2 : Option Addr) (n2 k2 : Nat) (w : World) (hm : n1 ≤ maxLen)  (hn : n0 ≤ 1048576) (hx : ¬ n0 + n1 ≤ 1048576) :
    Calls Try.prog 15 #[.agg #[.int .i64 p0, .int .i64 q0, .slice A0 n0 k0], .agg #[.int .i64 p1, .int .i64 r1, .int .i64 c1, .slice A1 n1 k1], .agg #[.int .i64 p2, .int .i64 r2, .int .i64 c2, .slice A2 n2 k2]] w (Rv (.bool true) w) := by
  have HN0 := Lib.hid (show (if (n0 : Int) ≤ 1048576 then (1048576 : Int) - n0 else -1) = 1048576 - n0 from if_pos (by omega))
  have hl0 : ¬ ((1048576 - n0) : Int) < 0 := by omega
  have HN1 := Lib.hid (show (if (n1 : Int) ≤ (1048576 - n0) then ((1048576 - n0) : Int) - n1 else -1) = -1 from if_neg (by omega))
  go_enter Try.func15, Try.ntmps15
  have tot_0 : Below w.heap.size w w := Below.refl _ _
  go_wp2_with fail
  refine (szAlgebra_any p0 q0 A0 n0 k0 (1048576) _ (by unfold maxLen; omega) (by omega) (by omega)).mono ?_
  rintro e w1 ⟨rfl, hb1⟩
  simp only [World.size_alloc] at hb1
  have hs1 := hb1.size
  simp only [World.size_alloc] at hs1
  have ba0_1 : Box w1 (w.heap.size) #[.int .i64 p0, .int .i64 q0, .slice A0 n0 k0] := by
    have hq := ((((Box.new w #[.int .i64 p0, .int .i64 q0, .slice A0 n0 k0] _).alloc _).alloc _)).below hb1 (by first | omega | (simp only [World.size_alloc]; omega) | (simp; omega))
    (try simp only [World.size_alloc] at hq)
    exact hq
  have ba1_1 : Box w1 (w.heap.size + 1) #[.int .i64 p1, .int .i64 r1, .int .i64 c1, .slice A1 n1 k1] := by
    have hq := (((Box.new (w.alloc _) #[.int .i64 p1, .int .i64 r1, .int .i64 c1, .slice A1 n1 k1] _).alloc _)).below hb1 (by first | omega | (simp only [World.size_alloc]; omega) | (simp; omega))
    (try simp only [World.size_alloc] at hq)
    exact hq
  have ba2_1 : Box w1 (w.heap.size + 1 + 1) #[.int .i64 p2, .int .i64 r2, .int .i64 c2, .slice A2 n2 k2] := by
    have hq := ((Box.new ((w.alloc _).alloc _) #[.int .i64 p2, .int .i64 r2, .int .i64 c2, .slice A2 n2 k2] _)).below hb1 (by first | omega | (simp only [World.size_alloc]; omega) | (simp; omega))
    (try simp only [World.size_alloc] at hq)
    exact hq
  have tot_1 : Below w.heap.size w w1 := (((tot_0.alloc (by first | omega | (simp only [World.size_alloc]; omega) | (simp; omega)) _).alloc (by first | omega | (simp only [World.size_alloc]; omega) | (simp; omega)) _).alloc (by first | omega | (simp only [World.size_alloc]; omega) | (simp; omega)) _).trans (hb1.mono (by omega))
  clear tot_0 hb1
  rw [HN0.out]
  obtain ⟨z_ba1_0, z_ba1_1, z_ba1_2, z_ba1_3⟩ := ba1_1.four
  have zz_ba1 : w.heap.size + 1 < w1.heap.size := by omega
  go_wp2_with fail
  refine (szMatrix_any p1 r1 c1 A1 n1 k1 ((1048576 - n0)) _ hm (by omega) (by omega)).mono ?_
  rintro e w2 ⟨rfl, hb2⟩
  clear z_ba1_0 z_ba1_1 z_ba1_2 z_ba1_3 zz_ba1
  have hs2 := hb2.size
  have ba0_2 := (ba0_1).below hb2 (by omega)
  have ba1_2 := (ba1_1).below hb2 (by omega)
  have ba2_2 := (ba2_1).below hb2 (by omega)
  have tot_2 : Below w.heap.size w w2 := tot_1.trans (hb2.mono (by omega))
  clear ba0_1 ba1_1 ba2_1 tot_1 hb2
  rw [HN1.out]
  go_wp2
  go_ret
  exact ⟨rfl, tot_2⟩
theorem law_OrthogonalOf_out2 (p0 q0 : Int) (A0 : Option Addr) (n0 k0 : Nat) (p1 r1 c1 : Int) (A1 : Option Addr) (n1 k1 : Nat) (p2 r2 c2 : Int) (A2 : Option Addr) (n2 k2 : Nat) (w : World) (hm : n2 ≤ maxLen)  (hn : n0 + n1 ≤ 1048576) (hx : ¬ n0 + n1 + n2 ≤ 1048576) :
    Calls Try.prog 15 #[.agg #[.int .i64 p0, .int .i64 q0, .slice A0 n0 k0], .agg #[.int .i64 p1, .int .i64 r1, .int .i64 c1, .slice A1 n1 k1], .agg #[.int .i64 p2, .int .i64 r2, .int .i64 c2, .slice A2 n2 k2]] w (Rv (.bool true) w) := by
  have HN0 := Lib.hid (show (if (n0 : Int) ≤ 1048576 then (1048576 : Int) - n0 else -1) = 1048576 - n0 from if_pos (by omega))
  have hl0 : ¬ ((1048576 - n0) : Int) < 0 := by omega
  have HN1 := Lib.hid (show (if (n1 : Int) ≤ (1048576 - n0) then ((1048576 - n0) : Int) - n1 else -1) = (1048576 - n0) - n1 from if_pos (by omega))
  have hl1 : ¬ (((1048576 - n0) - n1) : Int) < 0 := by omega
  have HN2 := Lib.hid (show (if (n2 : Int) ≤ ((1048576 - n0) - n1) then (((1048576 - n0) - n1) : Int) - n2 else -1) = -1 from if_neg (by omega))
  go_enter Try.func15, Try.ntmps15
  have tot_0 : Below w.heap.size w w := Below.refl _ _
  go_wp2_with fail
  refine (szAlgebra_any p0 q0 A0 n0 k0 (1048576) _ (by unfold maxLen; omega) (by omega) (by omega)).mono ?_
  rintro e w1 ⟨rfl, hb1⟩
  simp only [World.size_alloc] at hb1
  have hs1 := hb1.size
  simp only [World.size_alloc] at hs1
  have ba0_1 : Box w1 (w.heap.size) #[.int .i64 p0, .int .i64 q0, .slice A0 n0 k0] := by
    have hq := ((((Box.new w #[.int .i64 p0, .int .i64 q0, .slice A0 n0 k0] _).alloc _).alloc _)).below hb1 (by first | omega | (simp only [World.size_alloc]; omega) | (simp; omega))
    (try simp only [World.size_alloc] at hq)
    exact hq
  have ba1_1 : Box w1 (w.heap.size + 1) #[.int .i64 p1, .int .i64 r1, .int .i64 c1, .slice A1 n1 k1] := by
    have hq := (((Box.new (w.alloc _) #[.int .i64 p1, .int .i64 r1, .int .i64 c1, .slice A1 n1 k1] _).alloc _)).below hb1 (by first | omega | (simp only [World.size_alloc]; omega) | (simp; omega))
    (try simp only [World.size_alloc] at hq)
    exact hq
  have ba2_1 : Box w1 (w.heap.size + 1 + 1) #[.int .i64 p2, .int .i64 r2, .int .i64 c2, .slice A2 n2 k2] := by
    have hq := ((Box.new ((w.alloc _).alloc _) #[.int .i64 p2, .int .i64 r2, .int .i64 c2, .slice A2 n2 k2] _)).below hb1 (by first | omega | (simp only [World.size_alloc]; omega) | (simp; omega))
    (try simp only [World.size_alloc] at hq)
    exact hq
  have tot_1 : Below w.heap.size w w1 := (((tot_0.alloc (by first | omega | (simp only [World.size_alloc]; omega) | (simp; omega)) _).alloc (by first | omega | (simp only [World.size_alloc]; omega) | (simp; omega)) _).alloc (by first | omega | (simp only [World.size_alloc]; omega) | (simp; omega)) _).trans (hb1.mono (by omega))
  clear tot_0 hb1
  rw [HN0.out]
  obtain ⟨z_ba1_0, z_ba1_1, z_ba1_2, z_ba1_3⟩ := ba1_1.four
  have zz_ba1 : w.heap.size + 1 < w1.heap.size := by omega
  go_wp2_with fail
  refine (szMatrix_any p1 r1 c1 A1 n1 k1 ((1048576 - n0)) _ (by unfold maxLen; omega) (by omega) (by omega)).mono ?_
  rintro e w2 ⟨rfl, hb2⟩
  clear z_ba1_0 z_ba1_1 z_ba1_2 z_ba1_3 zz_ba1
  have hs2 := hb2.size
  have ba0_2 := (ba0_1).below hb2 (by omega)
  have ba1_2 := (ba1_1).below hb2 (by omega)
  have ba2_2 := (ba2_1).below hb2 (by omega)
  have tot_2 : Below w.heap.size w w2 := tot_1.trans (hb2.mono (by omega))
  clear ba0_1 ba1_1 ba2_1 tot_1 hb2
  rw [HN1.out]
  obtain ⟨z_ba2_0, z_ba2_1, z_ba2_2, z_ba2_3⟩ := ba2_2.four
  have zz_ba2 : w.heap.size + 1 + 1 < w2.heap.size := by omega
  go_wp2_with fail
  refine (szMatrix_any p2 r2 c2 A2 n2 k2 (((1048576 - n0) - n1)) _ hm (by omega) (by omega)).mono ?_
  rintro e w3 ⟨rfl, hb3⟩
  clear z_ba2_0 z_ba2_1 z_ba2_2 z_ba2_3 zz_ba2
  have hs3 := hb3.size
  have ba0_3 := (ba0_2).below hb3 (by omega)
  have ba1_3 := (ba1_2).below hb3 (by omega)
  have ba2_3 := (ba2_2).below hb3 (by omega)
  have tot_3 : Below w.heap.size w w3 := tot_2.trans (hb3.mono (by omega))
  clear ba0_2 ba1_2 ba2_2 tot_2 hb3
  rw [HN2.out]
  go_wp2
  go_ret
  exact ⟨rfl, tot_3⟩
set_option maxHeartbeats 2000000 in
theorem in_OrthogonalOf (p0 q0 : Int) (A0 : Option Addr) (n0 k0 : Nat) (d0 : List Int) (p1 r1 c1 : Int) (A1 : Option Addr) (n1 k1 : Nat) (d1 : List Int) (p2 r2 c2 : Int) (A2 : Option Addr) (n2 k2 : Nat) (d2 : List Int) (w : World) (h0 : RdI w w.heap.size A0 n0 d0) (h1 : RdI w w.heap.size A1 n1 d1) (h2 : RdI w w.heap.size A2 n2 d2) (hn : n0 + n1 + n2 ≤ 1048576) :
    Calls Try.prog 15 #[.agg #[.int .i64 p0, .int .i64 q0, .slice A0 n0 k0], .agg #[.int .i64 p1, .int .i64 r1, .int .i64 c1, .slice A1 n1 k1], .agg #[.int .i64 p2, .int .i64 r2, .int .i64 c2, .slice A2 n2 k2]] w (Rv (.bool true) w) := by
  rcases hou : ouB p0 q0 d0 p1 r1 c1 d1 p2 r2 c2 d2 with _ | _
  · exact law_OrthogonalOf_in _ _ _ _ _ _ _ _ _ _ _ _ _ _ _ _ _ _ _ _ w h0 h1 h2 hn 0 0 0 [] false (by simp) (Lib.hid fun B A n k A' n' k' A'' n'' k'' w h hd h' hd' h'' hd'' hB => sOrt_bad _ _ _ _ _ _ _ _ _ _ _ _ _ _ _ _ _ _ _ _ _ h hd h' h'' hd'' hB hou) (Lib.hid fun B A n k A' n' k' A'' n'' k'' w h hd h' hd' h'' hd'' hB => iOrt_bad _ _ _ _ _ _ _ _ _ _ _ _ _ _ _ _ _ _ _ _ _ h hd h' h'' hd'' hB hou)
  · obtain ⟨N, R, rfl, rfl, rfl, rfl, rfl, rfl, rfl, hN, hR, hp, hfl, hfr, hsl, hsr, hsu, hfrm⟩ := ort_start hou
    refine law_OrthogonalOf_in _ _ _ _ _ _ _ _ _ _ _ _ _ _ _ _ _ _ _ _ w h0 h1 h2 hn p2 (orS R N p2 d1 d2).rk N (tab (orS R N p2 d1 d2).rk N (orS R N p2 d1 d2).f) true ?_ (Lib.hid fun B A n k A' n' k' A'' n'' k'' w h hd h' hd' h'' hd'' hB => sOrt_ok _ _ _ _ _ _ _ _ _ _ _ _ _ _ _ _ h hd h' h'' hd'' hB hN hR hp hfl hfr hsl hsr hsu hfrm) (Lib.hid fun B A n k A' n' k' A'' n'' k'' w h hd h' hd' h'' hd'' hB => iOrt_ok _ _ _ _ _ _ _ _ _ _ _ _ _ _ _ _ h hd h' h'' hd'' hB hN hR hp hfl hfr hsl hsr hsu hfrm)
    rw [tab_len]
    have h6 : (orS R N p2 d1 d2).rk ≤ N := Nat.le_trans (rr_rk _ _ _ _).1 (kerL_len _ _ _ _)
    have : (orS R N p2 d1 d2).rk * N ≤ 28 * 28 := Nat.mul_le_mul (by omega) hN
    omega
theorem walk_FnExactOrthogonalOf {w : World} (p0 q0 : Int) (v0p0 : (Lit.int .i64 p0).wf = true) (v0q0 : (Lit.int .i64 q0).wf = true) (A0 : Option Addr) (n0 k0 : Nat) (z0 : List Int) (y0 : IsRow .i64 w A0 n0 k0 z0) (p1 r1 c1 : Int) (v1p1 : (Lit.int .i64 p1).wf = true) (v1r1 : (Lit.int .i64 r1).wf = true) (v1c1 : (Lit.int .i64 c1).wf = true) (A1 : Option Addr) (n1 k1 : Nat) (z1 : List Int) (y1 : IsRow .i64 w A1 n1 k1 z1) (p2 r2 c2 : Int) (v2p2 : (Lit.int .i64 p2).wf = true) (v2r2 : (Lit.int .i64 r2).wf = true) (v2c2 : (Lit.int .i64 c2).wf = true) (A2 : Option Addr) (n2 k2 : Nat) (z2 : List Int) (y2 : IsRow .i64 w A2 n2 k2 z2) :
    Calls Try.prog 15 #[.agg #[.int .i64 p0, .int .i64 q0, .slice A0 n0 k0], .agg #[.int .i64 p1, .int .i64 r1, .int .i64 c1, .slice A1 n1 k1], .agg #[.int .i64 p2, .int .i64 r2, .int .i64 c2, .slice A2 n2 k2]] w fun e w' => e = .returned (.bool true) ∧ Below w.heap.size w w' := by
  by_cases hm0 : n0 ≤ 1048576
  case neg => exact law_OrthogonalOf_out0 p0 q0 A0 n0 k0 p1 r1 c1 A1 n1 k1 p2 r2 c2 A2 n2 k2 w (RdI.ofRow y0).2.1  hm0
  by_cases hm1 : n0 + n1 ≤ 1048576
  case neg => exact law_OrthogonalOf_out1 p0 q0 A0 n0 k0 p1 r1 c1 A1 n1 k1 p2 r2 c2 A2 n2 k2 w (RdI.ofRow y1).2.1 hm0 hm1
  by_cases hm2 : n0 + n1 + n2 ≤ 1048576
  case neg => exact law_OrthogonalOf_out2 p0 q0 A0 n0 k0 p1 r1 c1 A1 n1 k1 p2 r2 c2 A2 n2 k2 w (RdI.ofRow y2).2.1 hm1 hm2
  exact in_OrthogonalOf p0 q0 A0 n0 k0 _ p1 r1 c1 A1 n1 k1 _ p2 r2 c2 A2 n2 k2 _ w (RdI.ofRow y0) (RdI.ofRow y1) (RdI.ofRow y2) hm2 
end Go.Proofs.Ytiggomjohikapaa
