/- The walk of the law on CohomologyOf. No condition. -/
import Derived.Test.YteepnimmbofmlaaCohS
import Derived.Test.YteepnimmbofmlaaCohI
import Derived.Test.YteepnimmbofmlaaAlS
import Derived.Test.YteepnimmbofmlaaLawK
import Derived.Deep.DeepCutAuto
namespace Go.Proofs.Yteepnimmbofmlaa
set_option linter.unusedVariables false
set_option linter.unusedSimpArgs false
set_option maxRecDepth 20000
open Go.RowKit
set_option maxRecDepth 100000 in
set_option maxHeartbeats 4000000 in
theorem law_CohomologyOf_in (p0 q0 : Int) (A0 : Option Addr) (n0 k0 : Nat) (d0 : List Int) (a1 : Int) (w : World) (h0 : RdI w w.heap.size A0 n0 d0) (hn : n0 ≤ 1048576) (D0 : List (List Int)) (hD0 : flen D0 ≤ 1073741824)
    (hS : Hid (∀ (B : Nat) (A0 : Option Addr) (n0 k0 : Nat) (w : World), RdI w B A0 n0 d0 → Hd A0 n0 k0 → B ≤ w.heap.size → Calls Try.prog 14 #[.agg #[.int .i64 p0, .int .i64 q0, .slice A0 n0 k0], .int .i64 a1] w (RetT D0 w)))
    (hI : Hid (∀ (B : Nat) (A0 : Option Addr) (n0 k0 : Nat) (w : World), RdI w B A0 n0 d0 → Hd A0 n0 k0 → B ≤ w.heap.size → Calls Try.prog 15 #[.agg #[.int .i64 p0, .int .i64 q0, .slice A0 n0 k0], .int .i64 a1] w (RetT D0 w))) :
    Calls Try.prog 4 #[.agg #[.int .i64 p0, .int .i64 q0, .slice A0 n0 k0], .int .i64 a1] w (Rv (.bool true) w) := by
  have HT0 : (p0 == p0 && q0 == q0 && d0 == d0) = true := by simp
  have hdl0 : d0.length ≤ 1048576 := by have := h0.1; omega
  have HR0 : (D0 == D0) = true := by simp
  have HN0 := Lib.hid (show (if (n0 : Int) ≤ 1048576 then (1048576 : Int) - n0 else -1) = 1048576 - n0 from if_pos (by omega))
  have hl0 : ¬ ((1048576 - n0) : Int) < 0 := by omega
  go_enter Try.func4, Try.ntmps4
  have tot_0 : Below w.heap.size w w := Below.refl _ _
  have a0_0 := h0
  clear h0
  go_wp2_with fail
  refine (szAlgebra_any p0 q0 A0 n0 k0 (1048576) _ (by unfold maxLen; omega) (by omega) (by omega)).mono ?_
  rintro e w1 ⟨rfl, hb1⟩
  simp only [World.size_alloc] at hb1
  have hs1 := hb1.size
  simp only [World.size_alloc] at hs1
  have ba0_1 : Box w1 (w.heap.size) #[.int .i64 p0, .int .i64 q0, .slice A0 n0 k0] := by
    have hq := ((Box.new w #[.int .i64 p0, .int .i64 q0, .slice A0 n0 k0] _)).below hb1 (by first | omega | (simp only [World.size_alloc]; omega) | (simp; omega))
    (try simp only [World.size_alloc] at hq)
    exact hq
  have a0_1 := ((a0_0.alloc (by first | omega | (simp only [World.size_alloc]; omega) | (simp; omega)) _)).below hb1 (by omega)
  have tot_1 : Below w.heap.size w w1 := (tot_0.alloc (by first | omega | (simp only [World.size_alloc]; omega) | (simp; omega)) _).trans (hb1.mono (by omega))
  clear a0_0 tot_0 hb1
  rw [HN0.out]
  obtain ⟨z_ba0_0, z_ba0_1, z_ba0_2⟩ := ba0_1.three
  have zz_ba0 : w.heap.size < w1.heap.size := by omega
  go_wp2_with fail
  refine (toAlgebra_any p0 q0 A0 n0 k0 d0 _ (B := w.heap.size) (by exact (a0_1)) (by first | exact Nat.le_refl _ | omega | (simp only [World.size_alloc]; omega) | (simp; omega)) (by omega)).mono ?_
  rintro e w2 ⟨As0, ns0, ks0, rfl, hdAs0, hb2, hq⟩
  clear z_ba0_0 z_ba0_1 z_ba0_2 zz_ba0
  have hs2 := hb2.size
  have ba0_2 := (ba0_1).below hb2 (by omega)
  have a0_2 := (a0_1).below hb2 (by omega)
  have tot_2 : Below w.heap.size w w2 := tot_1.trans (hb2.mono (by omega))
  clear ba0_1 a0_1 tot_1 hb2
  have s0_2 := hq
  clear hq
  go_wp2_with fail
  refine (hS.out (w2.heap.size) As0 ns0 ks0 _ (by exact (s0_2).rd.up (by first | exact Nat.le_refl _ | omega | (simp only [World.size_alloc]; omega) | (simp; omega))) hdAs0 (by first | exact Nat.le_refl _ | omega | (simp only [World.size_alloc]; omega) | (simp; omega))).mono ?_
  rintro e w3 ⟨Aw0r, nw0r, kw0r, rfl, hdAw0r, hb3, hhw0r, hq⟩
  have hs3 := hb3.size
  have ba0_3 := (ba0_2).below hb3 (by omega)
  have a0_3 := (a0_2).below hb3 (by omega)
  have s0_3 := (s0_2).below hb3 (by omega)
  have tot_3 : Below w.heap.size w w3 := tot_2.trans (hb3.mono (by omega))
  clear ba0_2 a0_2 s0_2 tot_2 hb3
  clear s0_3
  try simp only [World.size_alloc] at hq
  have w0r_3 := hq
  clear hq
  skip
  obtain ⟨z_ba0_0, z_ba0_1, z_ba0_2⟩ := ba0_3.three
  have zz_ba0 : w.heap.size < w3.heap.size := by omega
  go_wp2_with fail
  refine (toAlgebra_any p0 q0 A0 n0 k0 d0 _ (B := w.heap.size) (by exact (a0_3)) (by first | exact Nat.le_refl _ | omega | (simp only [World.size_alloc]; omega) | (simp; omega)) (by omega)).mono ?_
  rintro e w4 ⟨Ax0, nx0, kx0, rfl, hdAx0, hb4, hq⟩
  clear z_ba0_0 z_ba0_1 z_ba0_2 zz_ba0
  have hs4 := hb4.size
  have ba0_4 := (ba0_3).below hb4 (by omega)
  have a0_4 := (a0_3).below hb4 (by omega)
  have w0r_4 := (w0r_3).below hb4 (by omega)
  have tot_4 : Below w.heap.size w w4 := tot_3.trans (hb4.mono (by omega))
  clear ba0_3 a0_3 w0r_3 tot_3 hb4
  try simp only [World.size_alloc] at hq
  have x0_4 := hq
  clear hq
  have hNx0 : nx0 ≤ 1048576 := by have := x0_4.size; omega
  go_wp2_with fail
  refine (hI.out (w4.heap.size + 1) Ax0 nx0 kx0 _ (by exact ((x0_4.alloc (by first | omega | (simp only [World.size_alloc]; omega) | (simp; omega)) _)).rd.up (by first | exact Nat.le_refl _ | omega | (simp only [World.size_alloc]; omega) | (simp; omega))) hdAx0 (by first | exact Nat.le_refl _ | omega | (simp only [World.size_alloc]; omega) | (simp; omega))).mono ?_
  rintro e w5 ⟨Ag0r, ng0r, kg0r, rfl, hdAg0r, hb5, hhg0r, hq⟩
  simp only [World.size_alloc] at hb5
  have hs5 := hb5.size
  simp only [World.size_alloc] at hs5
  have bx0_5 : Box w5 (w4.heap.size) #[.int .i64 p0, .int .i64 q0, .slice Ax0 nx0 kx0] := by
    have hq := ((Box.new w4 #[.int .i64 p0, .int .i64 q0, .slice Ax0 nx0 kx0] _)).below hb5 (by first | omega | (simp only [World.size_alloc]; omega) | (simp; omega))
    (try simp only [World.size_alloc] at hq)
    exact hq
  have ba0_5 := ((ba0_4.alloc _)).below hb5 (by omega)
  have a0_5 := ((a0_4.alloc (by first | omega | (simp only [World.size_alloc]; omega) | (simp; omega)) _)).below hb5 (by omega)
  have w0r_5 := ((w0r_4.alloc (by first | omega | (simp only [World.size_alloc]; omega) | (simp; omega)) _)).below hb5 (by omega)
  have x0_5 := ((x0_4.alloc (by first | omega | (simp only [World.size_alloc]; omega) | (simp; omega)) _)).below hb5 (by omega)
  have tot_5 : Below w.heap.size w w5 := (tot_4.alloc (by first | omega | (simp only [World.size_alloc]; omega) | (simp; omega)) _).trans (hb5.mono (by omega))
  clear ba0_4 a0_4 w0r_4 x0_4 tot_4 hb5
  try simp only [World.size_alloc] at hq
  have g0r_5 := hq
  clear hq
  skip
  go_wp2_with fail
  refine (eqIntSS_any Ag0r Aw0r ng0r kg0r nw0r kw0r D0 D0 _ (B1 := w5.heap.size) (B2 := w3.heap.size) (by exact (g0r_5).rd) (by first | exact Nat.le_refl _ | omega | (simp only [World.size_alloc]; omega) | (simp; omega)) (by exact (w0r_5).rd) (by first | exact Nat.le_refl _ | omega | (simp only [World.size_alloc]; omega) | (simp; omega))).mono ?_
  rintro e w6 ⟨rfl, hb6⟩
  have hs6 := hb6.size
  have bx0_6 := (bx0_5).below hb6 (by omega)
  have ba0_6 := (ba0_5).below hb6 (by omega)
  have a0_6 := (a0_5).below hb6 (by omega)
  have w0r_6 := (w0r_5).below hb6 (by omega)
  have x0_6 := (x0_5).below hb6 (by omega)
  have g0r_6 := (g0r_5).below hb6 (by omega)
  have tot_6 : Below w.heap.size w w6 := tot_5.trans (hb6.mono (by omega))
  clear bx0_5 ba0_5 a0_5 w0r_5 x0_5 g0r_5 tot_5 hb6
  rw [HR0]
  go_wp2_with fail
  go_region_held3 (fun w' => (w'.cell? ⟨w4.heap.size, 0, none⟩ = some (.int .i64 p0) ∧ w'.cell? ⟨w4.heap.size, 1, none⟩ = some (.int .i64 q0) ∧ w'.cell? ⟨w4.heap.size, 2, none⟩ = some (.slice Ax0 nx0 kx0)) ∧ w'.cell? ⟨w.heap.size, 0, none⟩ = some (.int .i64 p0) ∧ w'.cell? ⟨w.heap.size, 1, none⟩ = some (.int .i64 q0) ∧ w'.cell? ⟨w.heap.size, 2, none⟩ = some (.slice A0 n0 k0)) (first | exact ⟨bx0_6.three, ba0_6.three⟩ | exact ⟨(bx0_6.drew.below hbc (by show _ < w6.heap.size; omega)).three, (ba0_6.drew.below hbc (by show _ < w6.heap.size; omega)).three⟩ | exact ⟨((bx0_6.drew.below hbc (by show _ < w6.heap.size; omega)).below hbd (by first | omega | (simp only [World.size_alloc]; omega) | (simp; omega))).three, ((ba0_6.drew.below hbc (by show _ < w6.heap.size; omega)).below hbd (by first | omega | (simp only [World.size_alloc]; omega) | (simp; omega))).three⟩) (first | (go_at_call 7; refine (toAlgebra_any p0 q0 A0 n0 k0 d0 _ (B := w.heap.size) (by exact a0_6) (by show _ ≤ w6.heap.size; omega) (by omega)).mono ?_; rintro e wc ⟨Ay, ny, ky, rfl, hdAy, hbc, hoc⟩; have hsc : w6.heap.size ≤ wc.heap.size := hbc.size) | (go_at_call 10; refine (eqAlgebra_any p0 q0 Ax0 nx0 kx0 d0 p0 q0 Ay ny ky d0 _ (B1 := w4.heap.size) (B2 := wc.heap.size) (by exact (show OwI w6.drew (w3.heap.size) (w4.heap.size) Ax0 nx0 d0 from x0_6).rd.below hbc (by show _ ≤ w6.heap.size; omega)) (by omega) (by exact hoc.rd) (Nat.le_refl _)).mono ?_; rintro e wd ⟨rfl, hbd⟩; rw [HT0]; have hsd := hbd.size))
  have hb7 : Below w6.heap.size w6 wd := (Below.trans (a := w6) (b := w6.drew) ⟨rfl, rfl, rfl, Nat.le_refl _, fun _ _ => rfl⟩ (show Below w6.heap.size w6.drew wc from hbc)).trans (hbd.mono (by omega))
  clear hbc hbd hoc
  obtain ⟨w7, hww⟩ : ∃ x, x = wd := ⟨_, rfl⟩
  subst hww
  clear hsc hsd
  have hs7 := hb7.size
  have bx0_7 := (bx0_6).below hb7 (by omega)
  have ba0_7 := (ba0_6).below hb7 (by omega)
  have a0_7 := (a0_6).below hb7 (by omega)
  have w0r_7 := (w0r_6).below hb7 (by omega)
  have x0_7 := (x0_6).below hb7 (by omega)
  have g0r_7 := (g0r_6).below hb7 (by omega)
  have tot_7 : Below w.heap.size w w7 := tot_6.trans (hb7.mono (by omega))
  clear bx0_6 ba0_6 a0_6 w0r_6 x0_6 g0r_6 tot_6 hb7
  obtain ⟨z_bx0_0, z_bx0_1, z_bx0_2⟩ := bx0_7.three
  have zz_bx0 : w4.heap.size < w7.heap.size := by omega
  go_wp2_with fail
  refine (markAlgebra_any p0 q0 Ax0 nx0 kx0 d0 (1) _ (B0 := w3.heap.size) (B := w4.heap.size) (by exact (x0_7)) (by first | exact Nat.le_refl _ | omega | (simp only [World.size_alloc]; omega) | (simp; omega)) (by omega) (by omega)).mono ?_
  rintro e w8 ⟨rfl, hb8, hq⟩
  clear z_bx0_0 z_bx0_1 z_bx0_2 zz_bx0
  have hs8 := hb8.size
  have bx0_8 := (bx0_7).chg hb8 (by omega)
  have ba0_8 := (ba0_7).chg hb8 (by omega)
  have a0_8 := (a0_7).below (hb8.below (by first | omega | (simp only [World.size_alloc]; omega) | (simp; omega))) (by omega)
  have w0r_8 := (w0r_7).below (hb8.below (by first | omega | (simp only [World.size_alloc]; omega) | (simp; omega))) (by omega)
  have g0r_8 := (g0r_7).chgHi hb8 (by omega) (by first | omega | (simp only [World.size_alloc]; omega) | (simp; omega))
  have tot_8 : Below w.heap.size w w8 := tot_7.trans ((hb8.below (by first | omega | (simp only [World.size_alloc]; omega) | (simp; omega))).mono (by omega))
  clear bx0_7 ba0_7 a0_7 w0r_7 x0_7 g0r_7 tot_7 hb8
  clear hq
  have hkk0 : ¬ (1 + (nx0 : Int) : Int) < 0 := by omega
  go_wp2_with fail
  refine (eqIntSS_any Ag0r Aw0r ng0r kg0r nw0r kw0r D0 D0 _ (B1 := w5.heap.size) (B2 := w3.heap.size) (by exact (g0r_8).rd) (by first | exact Nat.le_refl _ | omega | (simp only [World.size_alloc]; omega) | (simp; omega)) (by exact (w0r_8).rd) (by first | exact Nat.le_refl _ | omega | (simp only [World.size_alloc]; omega) | (simp; omega))).mono ?_
  rintro e w9 ⟨rfl, hb9⟩
  have hs9 := hb9.size
  have bx0_9 := (bx0_8).below hb9 (by omega)
  have ba0_9 := (ba0_8).below hb9 (by omega)
  have a0_9 := (a0_8).below hb9 (by omega)
  have w0r_9 := (w0r_8).below hb9 (by omega)
  have g0r_9 := (g0r_8).below hb9 (by omega)
  have tot_9 : Below w.heap.size w w9 := tot_8.trans (hb9.mono (by omega))
  clear bx0_8 ba0_8 a0_8 w0r_8 g0r_8 tot_8 hb9
  rw [HR0]
  go_wp2_with fail
  refine (markIntSS_any Ag0r ng0r kg0r 1 D0 _ (B0 := w4.heap.size + 1) (B := w5.heap.size) (by exact (g0r_9)) (by first | exact Nat.le_refl _ | omega | (simp only [World.size_alloc]; omega) | (simp; omega)) (by omega) (by omega)).mono ?_
  rintro e w10 ⟨rfl, hb10, hq⟩
  have hs10 := hb10.size
  have bx0_10 := (bx0_9).chg hb10 (by omega)
  have ba0_10 := (ba0_9).chg hb10 (by omega)
  have a0_10 := (a0_9).below (hb10.below (by first | omega | (simp only [World.size_alloc]; omega) | (simp; omega))) (by omega)
  have w0r_10 := (w0r_9).below (hb10.below (by first | omega | (simp only [World.size_alloc]; omega) | (simp; omega))) (by omega)
  have tot_10 : Below w.heap.size w w10 := tot_9.trans ((hb10.below (by first | omega | (simp only [World.size_alloc]; omega) | (simp; omega))).mono (by omega))
  clear bx0_9 ba0_9 a0_9 w0r_9 g0r_9 tot_9 hb10
  have g0r_10 := hq
  clear hq
  have hge : ¬ (1 + ((flen D0 : Nat) : Int)) < 0 := by omega
  have hne : (1 + ((flen D0 : Nat) : Int) != 1 + ((flen D0 : Nat) : Int)) = false := by simp
  go_wp2_with fail
  refine (heldIntSS_any Ag0r ng0r kg0r 1 D0 _ (B := w5.heap.size) (by exact (g0r_10).rd) (by first | exact Nat.le_refl _ | omega | (simp only [World.size_alloc]; omega) | (simp; omega)) (by omega) (by omega)).mono ?_
  rintro e w11 ⟨rfl, hb11⟩
  have hs11 := hb11.size
  have bx0_11 := (bx0_10).below hb11 (by omega)
  have ba0_11 := (ba0_10).below hb11 (by omega)
  have a0_11 := (a0_10).below hb11 (by omega)
  have w0r_11 := (w0r_10).below hb11 (by omega)
  have g0r_11 := (g0r_10).below hb11 (by omega)
  have tot_11 : Below w.heap.size w w11 := tot_10.trans (hb11.mono (by omega))
  clear bx0_10 ba0_10 a0_10 w0r_10 g0r_10 tot_10 hb11
  obtain ⟨z_ba0_0, z_ba0_1, z_ba0_2⟩ := ba0_11.three
  have zz_ba0 : w.heap.size < w11.heap.size := by omega
  go_wp2_with fail
  refine (toAlgebra_any p0 q0 A0 n0 k0 d0 _ (B := w.heap.size) (by exact (a0_11)) (by first | exact Nat.le_refl _ | omega | (simp only [World.size_alloc]; omega) | (simp; omega)) (by omega)).mono ?_
  rintro e w12 ⟨At0, nt0, kt0, rfl, hdAt0, hb12, hq⟩
  clear z_ba0_0 z_ba0_1 z_ba0_2 zz_ba0
  have hs12 := hb12.size
  have bx0_12 := (bx0_11).below hb12 (by omega)
  have ba0_12 := (ba0_11).below hb12 (by omega)
  have a0_12 := (a0_11).below hb12 (by omega)
  have w0r_12 := (w0r_11).below hb12 (by omega)
  have g0r_12 := (g0r_11).below hb12 (by omega)
  have tot_12 : Below w.heap.size w w12 := tot_11.trans (hb12.mono (by omega))
  clear bx0_11 ba0_11 a0_11 w0r_11 g0r_11 tot_11 hb12
  have t0_12 := hq
  clear hq
  go_wp2_with fail
  refine (hI.out (w12.heap.size) At0 nt0 kt0 _ (by exact (t0_12).rd.up (by first | exact Nat.le_refl _ | omega | (simp only [World.size_alloc]; omega) | (simp; omega))) hdAt0 (by first | exact Nat.le_refl _ | omega | (simp only [World.size_alloc]; omega) | (simp; omega))).mono ?_
  rintro e w13 ⟨Ah0r, nh0r, kh0r, rfl, hdAh0r, hb13, hhh0r, hq⟩
  have hs13 := hb13.size
  have bx0_13 := (bx0_12).below hb13 (by omega)
  have ba0_13 := (ba0_12).below hb13 (by omega)
  have a0_13 := (a0_12).below hb13 (by omega)
  have w0r_13 := (w0r_12).below hb13 (by omega)
  have g0r_13 := (g0r_12).below hb13 (by omega)
  have t0_13 := (t0_12).below hb13 (by omega)
  have tot_13 : Below w.heap.size w w13 := tot_12.trans (hb13.mono (by omega))
  clear bx0_12 ba0_12 a0_12 w0r_12 g0r_12 t0_12 tot_12 hb13
  clear t0_13
  try simp only [World.size_alloc] at hq
  have h0r_13 := hq
  clear hq
  skip
  go_wp2_with fail
  refine (eqIntSS_any Ah0r Aw0r nh0r kh0r nw0r kw0r D0 D0 _ (B1 := w13.heap.size) (B2 := w3.heap.size) (by exact (h0r_13).rd) (by first | exact Nat.le_refl _ | omega | (simp only [World.size_alloc]; omega) | (simp; omega)) (by exact (w0r_13).rd) (by first | exact Nat.le_refl _ | omega | (simp only [World.size_alloc]; omega) | (simp; omega))).mono ?_
  rintro e w14 ⟨rfl, hb14⟩
  have hs14 := hb14.size
  have bx0_14 := (bx0_13).below hb14 (by omega)
  have ba0_14 := (ba0_13).below hb14 (by omega)
  have a0_14 := (a0_13).below hb14 (by omega)
  have w0r_14 := (w0r_13).below hb14 (by omega)
  have g0r_14 := (g0r_13).below hb14 (by omega)
  have h0r_14 := (h0r_13).below hb14 (by omega)
  have tot_14 : Below w.heap.size w w14 := tot_13.trans (hb14.mono (by omega))
  clear bx0_13 ba0_13 a0_13 w0r_13 g0r_13 h0r_13 tot_13 hb14
  rw [HR0]
  go_wp2_with fail
  refine (heldIntSS_any Ag0r ng0r kg0r 1 D0 _ (B := w5.heap.size) (by exact (g0r_14).rd) (by first | exact Nat.le_refl _ | omega | (simp only [World.size_alloc]; omega) | (simp; omega)) (by omega) (by omega)).mono ?_
  rintro e w15 ⟨rfl, hb15⟩
  have hs15 := hb15.size
  have bx0_15 := (bx0_14).below hb15 (by omega)
  have ba0_15 := (ba0_14).below hb15 (by omega)
  have a0_15 := (a0_14).below hb15 (by omega)
  have w0r_15 := (w0r_14).below hb15 (by omega)
  have g0r_15 := (g0r_14).below hb15 (by omega)
  have h0r_15 := (h0r_14).below hb15 (by omega)
  have tot_15 : Below w.heap.size w w15 := tot_14.trans (hb15.mono (by omega))
  clear bx0_14 ba0_14 a0_14 w0r_14 g0r_14 h0r_14 tot_14 hb15
  go_wp2
  go_ret
  exact ⟨rfl, tot_15⟩
theorem law_CohomologyOf_out0 (p0 q0 : Int) (A0 : Option Addr) (n0 k0 : Nat) (a1 : Int) (w : World) (hm : n0 ≤ maxLen)  (hx : ¬ n0 ≤ 1048576) :
    Calls Try.prog 4 #[.agg #[.int .i64 p0, .int .i64 q0, .slice A0 n0 k0], .int .i64 a1] w (Rv (.bool true) w) := by
  have HN0 := Lib.hid (show (if (n0 : Int) ≤ 1048576 then (1048576 : Int) - n0 else -1) = -1 from if_neg (by omega))
  go_enter Try.func4, Try.ntmps4
  have tot_0 : Below w.heap.size w w := Below.refl _ _
  go_wp2_with fail
  refine (szAlgebra_any p0 q0 A0 n0 k0 (1048576) _ hm (by omega) (by omega)).mono ?_
  rintro e w1 ⟨rfl, hb1⟩
  simp only [World.size_alloc] at hb1
  have hs1 := hb1.size
  simp only [World.size_alloc] at hs1
  have ba0_1 : Box w1 (w.heap.size) #[.int .i64 p0, .int .i64 q0, .slice A0 n0 k0] := by
    have hq := ((Box.new w #[.int .i64 p0, .int .i64 q0, .slice A0 n0 k0] _)).below hb1 (by first | omega | (simp only [World.size_alloc]; omega) | (simp; omega))
    (try simp only [World.size_alloc] at hq)
    exact hq
  have tot_1 : Below w.heap.size w w1 := (tot_0.alloc (by first | omega | (simp only [World.size_alloc]; omega) | (simp; omega)) _).trans (hb1.mono (by omega))
  clear tot_0 hb1
  rw [HN0.out]
  go_wp2
  go_ret
  exact ⟨rfl, tot_1⟩
theorem flen_map {f : Nat → List Int} {c : Nat} (h : ∀ i, (f i).length = c) : ∀ I : List Nat, flen (I.map f) = I.length * c
  | [] => by simp [flen]
  | a :: I => by
    have ih := flen_map h I
    unfold flen at ih ⊢
    rw [List.map_cons, List.flatten_cons, List.length_append, h, ih, List.length_cons, Nat.succ_mul]
    omega
theorem coh_start {p q x : Int} {d : List Int} (h : (okA p q d && decide (q ≤ 7) && (decide (0 ≤ x) && decide (x ≤ q))) = true) : ∃ N K : Nat, q = N ∧ x = K ∧ N ≤ 7 ∧ K ≤ N ∧ isP p = true ∧ d.length = N * N * N ∧ resB d p = true ∧ okA p N d = true := by
  simp only [Bool.and_eq_true, decide_eq_true_eq] at h
  obtain ⟨⟨h0, hq⟩, hx0, hxq⟩ := h
  have h1 := h0
  obtain ⟨k1, k2, k3, k4, k5, k6⟩ := okA_bd h0
  obtain ⟨N, rfl⟩ := Int.eq_ofNat_of_zero_le k2
  obtain ⟨K, rfl⟩ := Int.eq_ofNat_of_zero_le hx0
  exact ⟨N, K, rfl, rfl, by omega, by omega, k1, by simpa using k4, k5, h1⟩
theorem in_CohomologyOf (p0 q0 : Int) (A0 : Option Addr) (n0 k0 : Nat) (d0 : List Int) (a1 : Int) (w : World) (h0 : RdI w w.heap.size A0 n0 d0) (hn : n0 ≤ 1048576) :
    Calls Try.prog 4 #[.agg #[.int .i64 p0, .int .i64 q0, .slice A0 n0 k0], .int .i64 a1] w (Rv (.bool true) w) := by
  rcases hno : (okA p0 q0 d0 && decide (q0 ≤ 7) && (decide (0 ≤ a1) && decide (a1 ≤ q0))) with _ | _
  · exact law_CohomologyOf_in _ _ _ _ _ _ _ w h0 hn [] (by simp [flen]) (Lib.hid fun B A n k w h hd hB => sCoh_no _ _ _ _ _ _ _ _ h hd hB hno) (Lib.hid fun B A n k w h hd hB => iCoh_no _ _ _ _ _ _ _ _ h hd hB hno)
  · obtain ⟨N, K, rfl, rfl, hN, hK, hp, hl, hr, hok⟩ := coh_start hno
    refine law_CohomologyOf_in _ _ _ _ _ _ _ w h0 hn (chL N K p0 d0 (clR N K p0 d0)) ?_ (Lib.hid fun B A n k w h hd hB => sCoh_ok _ _ _ _ _ _ _ _ h hd hB hN hK hp hl hr hok) (Lib.hid fun B A n k w h hd hB => iCoh_ok _ _ _ _ _ _ _ _ h hd hB hN hK hp hl hr hok)
    have h1 := nS_le hN (show K ≤ 8 by omega)
    have h2 := clR_le (N := N) (K := K) p0 d0
    have h3 : (chI N K p0 d0 (clR N K p0 d0)).length ≤ clR N K p0 d0 := coI_len _ _ _ _ _
    have e : flen (chL N K p0 d0 (clR N K p0 d0)) = (chI N K p0 d0 (clR N K p0 d0)).length * nS N K := flen_map (fun i => clV_len N K p0 d0 i) _
    have h4 : (chI N K p0 d0 (clR N K p0 d0)).length * nS N K ≤ 35 * 35 := Nat.mul_le_mul (by omega) h1
    omega
theorem walk_FnExactCohomologyOf {w : World} (p0 q0 : Int) (v0p0 : (Lit.int .i64 p0).wf = true) (v0q0 : (Lit.int .i64 q0).wf = true) (A0 : Option Addr) (n0 k0 : Nat) (z0 : List Int) (y0 : IsRow .i64 w A0 n0 k0 z0) (a1 : Int) (v1 : (Lit.int .i64 a1).wf = true) :
    Calls Try.prog 4 #[.agg #[.int .i64 p0, .int .i64 q0, .slice A0 n0 k0], .int .i64 a1] w fun e w' => e = .returned (.bool true) ∧ Below w.heap.size w w' := by
  by_cases hm0 : n0 ≤ 1048576
  case neg => exact law_CohomologyOf_out0 p0 q0 A0 n0 k0 a1 w (RdI.ofRow y0).2.1  hm0
  exact in_CohomologyOf p0 q0 A0 n0 k0 _ a1 w (RdI.ofRow y0) hm0 
end Go.Proofs.Yteepnimmbofmlaa
