/- The walk of the law on ReduceMatrix. No condition. -/
import Derived.Test.YtefgklgacojljaaTop2W
import Derived.Test.YtefgklgacojljaaLawK
import Derived.Deep.DeepCutAuto
namespace Go.Proofs.Ytefgklgacojljaa
set_option linter.unusedVariables false
set_option linter.unusedSimpArgs false
open Go.RowKit
set_option maxRecDepth 100000 in
set_option maxHeartbeats 4000000 in
theorem law_ReduceMatrix_in (p0 r0 c0 : Int) (A0 : Option Addr) (n0 k0 : Nat) (d0 : List Int) (w : World) (h0 : RdI w w.heap.size A0 n0 d0) (hn : n0 ≤ 1048576) (P0 R0 C0 : Int) (D0 : List Int) (D1 : List Int) (hD0 : D0.length ≤ 1073741824) (hD1 : D1.length ≤ 1073741824)
    (hS : Hid (∀ (B : Nat) (A0 : Option Addr) (n0 k0 : Nat) (w : World), RdI w B A0 n0 d0 → Hd A0 n0 k0 → B ≤ w.heap.size → Calls Try.prog 22 #[.agg #[.int .i64 p0, .int .i64 r0, .int .i64 c0, .slice A0 n0 k0]] w (RetMS P0 R0 C0 D0 D1 w)))
    (hI : Hid (∀ (B : Nat) (A0 : Option Addr) (n0 k0 : Nat) (w : World), RdI w B A0 n0 d0 → Hd A0 n0 k0 → B ≤ w.heap.size → Calls Try.prog 23 #[.agg #[.int .i64 p0, .int .i64 r0, .int .i64 c0, .slice A0 n0 k0]] w (RetMS P0 R0 C0 D0 D1 w))) :
    Calls Try.prog 5 #[.agg #[.int .i64 p0, .int .i64 r0, .int .i64 c0, .slice A0 n0 k0]] w (Rv (.bool true) w) := by
  have HT0 : (p0 == p0 && r0 == r0 && c0 == c0 && d0 == d0) = true := by simp
  have hdl0 : d0.length ≤ 1048576 := by have := h0.1; omega
  have HR0 : (P0 == P0 && R0 == R0 && C0 == C0 && D0 == D0) = true := by simp
  have HR1 : (D1 == D1) = true := by simp
  have HN0 := Lib.hid (show (if (n0 : Int) ≤ 1048576 then (1048576 : Int) - n0 else -1) = 1048576 - n0 from if_pos (by omega))
  have hl0 : ¬ ((1048576 - n0) : Int) < 0 := by omega
  go_enter Try.func5, Try.ntmps5
  have tot_0 : Below w.heap.size w w := Below.refl _ _
  have a0_0 := h0
  clear h0
  go_wp2_with fail
  refine (szMatrix_any p0 r0 c0 A0 n0 k0 (1048576) _ (by unfold maxLen; omega) (by omega) (by omega)).mono ?_
  rintro e w1 ⟨rfl, hb1⟩
  simp only [World.size_alloc] at hb1
  have hs1 := hb1.size
  simp only [World.size_alloc] at hs1
  have ba0_1 : Box w1 (w.heap.size) #[.int .i64 p0, .int .i64 r0, .int .i64 c0, .slice A0 n0 k0] := by
    have hq := ((Box.new w #[.int .i64 p0, .int .i64 r0, .int .i64 c0, .slice A0 n0 k0] _)).below hb1 (by first | omega | (simp only [World.size_alloc]; omega) | (simp; omega))
    (try simp only [World.size_alloc] at hq)
    exact hq
  have a0_1 := ((a0_0.alloc (by first | omega | (simp only [World.size_alloc]; omega) | (simp; omega)) _)).below hb1 (by omega)
  have tot_1 : Below w.heap.size w w1 := (tot_0.alloc (by first | omega | (simp only [World.size_alloc]; omega) | (simp; omega)) _).trans (hb1.mono (by omega))
  clear a0_0 tot_0 hb1
  rw [HN0.out]
  obtain ⟨z_ba0_0, z_ba0_1, z_ba0_2, z_ba0_3⟩ := ba0_1.four
  have zz_ba0 : w.heap.size < w1.heap.size := by omega
  go_wp2_with fail
  refine (toMatrix_any p0 r0 c0 A0 n0 k0 d0 _ (B := w.heap.size) (by exact (a0_1)) (by first | exact Nat.le_refl _ | omega | (simp only [World.size_alloc]; omega) | (simp; omega)) (by omega)).mono ?_
  rintro e w2 ⟨As0, ns0, ks0, rfl, hdAs0, hb2, hq⟩
  clear z_ba0_0 z_ba0_1 z_ba0_2 z_ba0_3 zz_ba0
  have hs2 := hb2.size
  have ba0_2 := (ba0_1).below hb2 (by omega)
  have a0_2 := (a0_1).below hb2 (by omega)
  have tot_2 : Below w.heap.size w w2 := tot_1.trans (hb2.mono (by omega))
  clear ba0_1 a0_1 tot_1 hb2
  have s0_2 := hq
  clear hq
  go_wp2_with fail
  refine (hS.out (w2.heap.size) As0 ns0 ks0 _ (by exact (s0_2).rd.up (by first | exact Nat.le_refl _ | omega | (simp only [World.size_alloc]; omega) | (simp; omega))) hdAs0 (by first | exact Nat.le_refl _ | omega | (simp only [World.size_alloc]; omega) | (simp; omega))).mono ?_
  rintro e w3 ⟨Aw0r, nw0r, kw0r, Aw1r, nw1r, kw1r, low0r, hiw0r, low1r, hiw1r, rfl, hdAw0r, hdAw1r, hb3, hq, hq2, hl1w0r, hl2w0r, hl3w0r, hl4w0r, hdisw0r, hl5w0r, hl6w0r⟩
  have hs3 := hb3.size
  have ba0_3 := (ba0_2).below hb3 (by omega)
  have a0_3 := (a0_2).below hb3 (by omega)
  have s0_3 := (s0_2).below hb3 (by omega)
  have tot_3 : Below w.heap.size w w3 := tot_2.trans (hb3.mono (by omega))
  clear ba0_2 a0_2 s0_2 tot_2 hb3
  clear s0_3
  try simp only [World.size_alloc] at hl1w0r hl3w0r
  have w0r_3 := hq
  clear hq
  have hNw0r : nw0r ≤ 1073741824 := by have := w0r_3.size; omega
  have w1r_3 := hq2
  clear hq2
  have hNw1r : nw1r ≤ 1073741824 := by have := w1r_3.size; omega
  obtain ⟨z_ba0_0, z_ba0_1, z_ba0_2, z_ba0_3⟩ := ba0_3.four
  have zz_ba0 : w.heap.size < w3.heap.size := by omega
  go_wp2_with fail
  refine (toMatrix_any p0 r0 c0 A0 n0 k0 d0 _ (B := w.heap.size) (by exact ((a0_3.alloc (by first | omega | (simp only [World.size_alloc]; omega) | (simp; omega)) _))) (by first | exact Nat.le_refl _ | omega | (simp only [World.size_alloc]; omega) | (simp; omega)) (by omega)).mono ?_
  rintro e w4 ⟨Ax0, nx0, kx0, rfl, hdAx0, hb4, hq⟩
  clear z_ba0_0 z_ba0_1 z_ba0_2 z_ba0_3 zz_ba0
  simp only [World.size_alloc] at hb4
  have hs4 := hb4.size
  simp only [World.size_alloc] at hs4
  have bw0r_4 : Box w4 (w3.heap.size) #[.int .i64 P0, .int .i64 R0, .int .i64 C0, .slice Aw0r nw0r kw0r] := by
    have hq := ((Box.new w3 #[.int .i64 P0, .int .i64 R0, .int .i64 C0, .slice Aw0r nw0r kw0r] _)).below hb4 (by first | omega | (simp only [World.size_alloc]; omega) | (simp; omega))
    (try simp only [World.size_alloc] at hq)
    exact hq
  have ba0_4 := ((ba0_3.alloc _)).below hb4 (by omega)
  have a0_4 := ((a0_3.alloc (by first | omega | (simp only [World.size_alloc]; omega) | (simp; omega)) _)).below hb4 (by omega)
  have w0r_4 := ((w0r_3.alloc (by first | omega | (simp only [World.size_alloc]; omega) | (simp; omega)) _)).below hb4 (by omega)
  have w1r_4 := ((w1r_3.alloc (by first | omega | (simp only [World.size_alloc]; omega) | (simp; omega)) _)).below hb4 (by omega)
  have tot_4 : Below w.heap.size w w4 := (tot_3.alloc (by first | omega | (simp only [World.size_alloc]; omega) | (simp; omega)) _).trans (hb4.mono (by omega))
  clear ba0_3 a0_3 w0r_3 w1r_3 tot_3 hb4
  try simp only [World.size_alloc] at hq
  have x0_4 := hq
  clear hq
  have hNx0 : nx0 ≤ 1048576 := by have := x0_4.size; omega
  go_wp2_with fail
  refine (hI.out (w4.heap.size + 1) Ax0 nx0 kx0 _ (by exact ((x0_4.alloc (by first | omega | (simp only [World.size_alloc]; omega) | (simp; omega)) _)).rd.up (by first | exact Nat.le_refl _ | omega | (simp only [World.size_alloc]; omega) | (simp; omega))) hdAx0 (by first | exact Nat.le_refl _ | omega | (simp only [World.size_alloc]; omega) | (simp; omega))).mono ?_
  rintro e w5 ⟨Ag0r, ng0r, kg0r, Ag1r, ng1r, kg1r, log0r, hig0r, log1r, hig1r, rfl, hdAg0r, hdAg1r, hb5, hq, hq2, hl1g0r, hl2g0r, hl3g0r, hl4g0r, hdisg0r, hl5g0r, hl6g0r⟩
  simp only [World.size_alloc] at hb5
  have hs5 := hb5.size
  simp only [World.size_alloc] at hs5
  have bx0_5 : Box w5 (w4.heap.size) #[.int .i64 p0, .int .i64 r0, .int .i64 c0, .slice Ax0 nx0 kx0] := by
    have hq := ((Box.new w4 #[.int .i64 p0, .int .i64 r0, .int .i64 c0, .slice Ax0 nx0 kx0] _)).below hb5 (by first | omega | (simp only [World.size_alloc]; omega) | (simp; omega))
    (try simp only [World.size_alloc] at hq)
    exact hq
  have bw0r_5 := ((bw0r_4.alloc _)).below hb5 (by omega)
  have ba0_5 := ((ba0_4.alloc _)).below hb5 (by omega)
  have a0_5 := ((a0_4.alloc (by first | omega | (simp only [World.size_alloc]; omega) | (simp; omega)) _)).below hb5 (by omega)
  have w0r_5 := ((w0r_4.alloc (by first | omega | (simp only [World.size_alloc]; omega) | (simp; omega)) _)).below hb5 (by omega)
  have w1r_5 := ((w1r_4.alloc (by first | omega | (simp only [World.size_alloc]; omega) | (simp; omega)) _)).below hb5 (by omega)
  have x0_5 := ((x0_4.alloc (by first | omega | (simp only [World.size_alloc]; omega) | (simp; omega)) _)).below hb5 (by omega)
  have tot_5 : Below w.heap.size w w5 := (tot_4.alloc (by first | omega | (simp only [World.size_alloc]; omega) | (simp; omega)) _).trans (hb5.mono (by omega))
  clear bw0r_4 ba0_4 a0_4 w0r_4 w1r_4 x0_4 tot_4 hb5
  try simp only [World.size_alloc] at hl1g0r hl3g0r
  have g0r_5 := hq
  clear hq
  have hNg0r : ng0r ≤ 1073741824 := by have := g0r_5.size; omega
  have g1r_5 := hq2
  clear hq2
  have hNg1r : ng1r ≤ 1073741824 := by have := g1r_5.size; omega
  obtain ⟨z_bw0r_0, z_bw0r_1, z_bw0r_2, z_bw0r_3⟩ := bw0r_5.four
  have zz_bw0r : w3.heap.size < w5.heap.size := by omega
  go_wp2_with fail
  refine (eqMatrix_any P0 R0 C0 Ag0r ng0r kg0r D0 P0 R0 C0 Aw0r nw0r kw0r D0 _ (B1 := hig0r) (B2 := hiw0r) (by exact ((g0r_5.alloc (by first | omega | (simp only [World.size_alloc]; omega) | (simp; omega)) _)).rd) (by first | exact Nat.le_refl _ | omega | (simp only [World.size_alloc]; omega) | (simp; omega)) (by exact ((w0r_5.alloc (by first | omega | (simp only [World.size_alloc]; omega) | (simp; omega)) _)).rd) (by first | exact Nat.le_refl _ | omega | (simp only [World.size_alloc]; omega) | (simp; omega))).mono ?_
  rintro e w6 ⟨rfl, hb6⟩
  clear z_bw0r_0 z_bw0r_1 z_bw0r_2 z_bw0r_3 zz_bw0r
  simp only [World.size_alloc] at hb6
  have hs6 := hb6.size
  simp only [World.size_alloc] at hs6
  have bg0r_6 : Box w6 (w5.heap.size) #[.int .i64 P0, .int .i64 R0, .int .i64 C0, .slice Ag0r ng0r kg0r] := by
    have hq := ((Box.new w5 #[.int .i64 P0, .int .i64 R0, .int .i64 C0, .slice Ag0r ng0r kg0r] _)).below hb6 (by first | omega | (simp only [World.size_alloc]; omega) | (simp; omega))
    (try simp only [World.size_alloc] at hq)
    exact hq
  have bx0_6 := ((bx0_5.alloc _)).below hb6 (by omega)
  have bw0r_6 := ((bw0r_5.alloc _)).below hb6 (by omega)
  have ba0_6 := ((ba0_5.alloc _)).below hb6 (by omega)
  have a0_6 := ((a0_5.alloc (by first | omega | (simp only [World.size_alloc]; omega) | (simp; omega)) _)).below hb6 (by omega)
  have w0r_6 := ((w0r_5.alloc (by first | omega | (simp only [World.size_alloc]; omega) | (simp; omega)) _)).below hb6 (by omega)
  have w1r_6 := ((w1r_5.alloc (by first | omega | (simp only [World.size_alloc]; omega) | (simp; omega)) _)).below hb6 (by omega)
  have x0_6 := ((x0_5.alloc (by first | omega | (simp only [World.size_alloc]; omega) | (simp; omega)) _)).below hb6 (by omega)
  have g0r_6 := ((g0r_5.alloc (by first | omega | (simp only [World.size_alloc]; omega) | (simp; omega)) _)).below hb6 (by omega)
  have g1r_6 := ((g1r_5.alloc (by first | omega | (simp only [World.size_alloc]; omega) | (simp; omega)) _)).below hb6 (by omega)
  have tot_6 : Below w.heap.size w w6 := (tot_5.alloc (by first | omega | (simp only [World.size_alloc]; omega) | (simp; omega)) _).trans (hb6.mono (by omega))
  clear bx0_5 bw0r_5 ba0_5 a0_5 w0r_5 w1r_5 x0_5 g0r_5 g1r_5 tot_5 hb6
  rw [HR0]
  go_wp2_with fail
  refine (eqIntS_rv Ag1r Aw1r ng1r kg1r nw1r kw1r D1 D1 _ (B1 := hig1r) (B2 := hiw1r) (by exact (g1r_6).rd) (by exact (w1r_6).rd)).mono ?_
  rintro e w7 ⟨rfl, hb7⟩
  have hs7 := hb7.size
  have bg0r_7 := (bg0r_6).below hb7 (by omega)
  have bx0_7 := (bx0_6).below hb7 (by omega)
  have bw0r_7 := (bw0r_6).below hb7 (by omega)
  have ba0_7 := (ba0_6).below hb7 (by omega)
  have a0_7 := (a0_6).below hb7 (by omega)
  have w0r_7 := (w0r_6).below hb7 (by omega)
  have w1r_7 := (w1r_6).below hb7 (by omega)
  have x0_7 := (x0_6).below hb7 (by omega)
  have g0r_7 := (g0r_6).below hb7 (by omega)
  have g1r_7 := (g1r_6).below hb7 (by omega)
  have tot_7 : Below w.heap.size w w7 := tot_6.trans (hb7.mono (by omega))
  clear bg0r_6 bx0_6 bw0r_6 ba0_6 a0_6 w0r_6 w1r_6 x0_6 g0r_6 g1r_6 tot_6 hb7
  rw [HR1]
  go_wp2_with fail
  go_region_held3 (fun w' => (w'.cell? ⟨w4.heap.size, 0, none⟩ = some (.int .i64 p0) ∧ w'.cell? ⟨w4.heap.size, 1, none⟩ = some (.int .i64 r0) ∧ w'.cell? ⟨w4.heap.size, 2, none⟩ = some (.int .i64 c0) ∧ w'.cell? ⟨w4.heap.size, 3, none⟩ = some (.slice Ax0 nx0 kx0)) ∧ w'.cell? ⟨w.heap.size, 0, none⟩ = some (.int .i64 p0) ∧ w'.cell? ⟨w.heap.size, 1, none⟩ = some (.int .i64 r0) ∧ w'.cell? ⟨w.heap.size, 2, none⟩ = some (.int .i64 c0) ∧ w'.cell? ⟨w.heap.size, 3, none⟩ = some (.slice A0 n0 k0)) (first | exact ⟨bx0_7.four, ba0_7.four⟩ | exact ⟨(bx0_7.drew.below hbc (by show _ < w7.heap.size; omega)).four, (ba0_7.drew.below hbc (by show _ < w7.heap.size; omega)).four⟩ | exact ⟨((bx0_7.drew.below hbc (by show _ < w7.heap.size; omega)).below hbd (by first | omega | (simp only [World.size_alloc]; omega) | (simp; omega))).four, ((ba0_7.drew.below hbc (by show _ < w7.heap.size; omega)).below hbd (by first | omega | (simp only [World.size_alloc]; omega) | (simp; omega))).four⟩) (first | (go_at_call 17; refine (toMatrix_any p0 r0 c0 A0 n0 k0 d0 _ (B := w.heap.size) (by exact a0_7) (by show _ ≤ w7.heap.size; omega) (by omega)).mono ?_; rintro e wc ⟨Ay, ny, ky, rfl, hdAy, hbc, hoc⟩; have hsc : w7.heap.size ≤ wc.heap.size := hbc.size) | (go_at_call 19; refine (eqMatrix_any p0 r0 c0 Ax0 nx0 kx0 d0 p0 r0 c0 Ay ny ky d0 _ (B1 := w4.heap.size) (B2 := wc.heap.size) (by exact (show OwI w7.drew (w3.heap.size + 1) (w4.heap.size) Ax0 nx0 d0 from x0_7).rd.below hbc (by show _ ≤ w7.heap.size; omega)) (by omega) (by exact hoc.rd) (Nat.le_refl _)).mono ?_; rintro e wd ⟨rfl, hbd⟩; rw [HT0]; have hsd := hbd.size))
  have hb8 : Below w7.heap.size w7 wd := (Below.trans (a := w7) (b := w7.drew) ⟨rfl, rfl, rfl, Nat.le_refl _, fun _ _ => rfl⟩ (show Below w7.heap.size w7.drew wc from hbc)).trans (hbd.mono (by omega))
  clear hbc hbd hoc
  obtain ⟨w8, hww⟩ : ∃ x, x = wd := ⟨_, rfl⟩
  subst hww
  clear hsc hsd
  have hs8 := hb8.size
  have bg0r_8 := (bg0r_7).below hb8 (by omega)
  have bx0_8 := (bx0_7).below hb8 (by omega)
  have bw0r_8 := (bw0r_7).below hb8 (by omega)
  have ba0_8 := (ba0_7).below hb8 (by omega)
  have a0_8 := (a0_7).below hb8 (by omega)
  have w0r_8 := (w0r_7).below hb8 (by omega)
  have w1r_8 := (w1r_7).below hb8 (by omega)
  have x0_8 := (x0_7).below hb8 (by omega)
  have g0r_8 := (g0r_7).below hb8 (by omega)
  have g1r_8 := (g1r_7).below hb8 (by omega)
  have tot_8 : Below w.heap.size w w8 := tot_7.trans (hb8.mono (by omega))
  clear bg0r_7 bx0_7 bw0r_7 ba0_7 a0_7 w0r_7 w1r_7 x0_7 g0r_7 g1r_7 tot_7 hb8
  obtain ⟨z_bx0_0, z_bx0_1, z_bx0_2, z_bx0_3⟩ := bx0_8.four
  have zz_bx0 : w4.heap.size < w8.heap.size := by omega
  go_wp2_with fail
  refine (markMatrix_any p0 r0 c0 Ax0 nx0 kx0 d0 (1) _ (B0 := w3.heap.size + 1) (B := w4.heap.size) (by exact (x0_8)) (by first | exact Nat.le_refl _ | omega | (simp only [World.size_alloc]; omega) | (simp; omega)) (by omega) (by omega)).mono ?_
  rintro e w9 ⟨rfl, hb9, hq⟩
  clear z_bx0_0 z_bx0_1 z_bx0_2 z_bx0_3 zz_bx0
  have hs9 := hb9.size
  have bg0r_9 := (bg0r_8).chg hb9 (by omega)
  have bx0_9 := (bx0_8).chg hb9 (by omega)
  have bw0r_9 := (bw0r_8).chg hb9 (by omega)
  have ba0_9 := (ba0_8).chg hb9 (by omega)
  have a0_9 := (a0_8).below (hb9.below (by first | omega | (simp only [World.size_alloc]; omega) | (simp; omega))) (by omega)
  have w0r_9 := (w0r_8).below (hb9.below (by first | omega | (simp only [World.size_alloc]; omega) | (simp; omega))) (by omega)
  have w1r_9 := (w1r_8).below (hb9.below (by first | omega | (simp only [World.size_alloc]; omega) | (simp; omega))) (by omega)
  have g0r_9 := (g0r_8).chgHi hb9 (by omega) (by first | omega | (simp only [World.size_alloc]; omega) | (simp; omega))
  have g1r_9 := (g1r_8).chgHi hb9 (by omega) (by first | omega | (simp only [World.size_alloc]; omega) | (simp; omega))
  have tot_9 : Below w.heap.size w w9 := tot_8.trans ((hb9.below (by first | omega | (simp only [World.size_alloc]; omega) | (simp; omega))).mono (by omega))
  clear bg0r_8 bx0_8 bw0r_8 ba0_8 a0_8 w0r_8 w1r_8 x0_8 g0r_8 g1r_8 tot_8 hb9
  clear hq
  have hkk0 : ¬ (1 + (nx0 : Int) : Int) < 0 := by omega
  obtain ⟨z_bg0r_0, z_bg0r_1, z_bg0r_2, z_bg0r_3⟩ := bg0r_9.four
  have zz_bg0r : w5.heap.size < w9.heap.size := by omega
  obtain ⟨z_bw0r_0, z_bw0r_1, z_bw0r_2, z_bw0r_3⟩ := bw0r_9.four
  have zz_bw0r : w3.heap.size < w9.heap.size := by omega
  go_wp2_with fail
  refine (eqMatrix_any P0 R0 C0 Ag0r ng0r kg0r D0 P0 R0 C0 Aw0r nw0r kw0r D0 _ (B1 := hig0r) (B2 := hiw0r) (by exact (g0r_9).rd) (by first | exact Nat.le_refl _ | omega | (simp only [World.size_alloc]; omega) | (simp; omega)) (by exact (w0r_9).rd) (by first | exact Nat.le_refl _ | omega | (simp only [World.size_alloc]; omega) | (simp; omega))).mono ?_
  rintro e w10 ⟨rfl, hb10⟩
  clear z_bg0r_0 z_bg0r_1 z_bg0r_2 z_bg0r_3 zz_bg0r z_bw0r_0 z_bw0r_1 z_bw0r_2 z_bw0r_3 zz_bw0r
  have hs10 := hb10.size
  have bg0r_10 := (bg0r_9).below hb10 (by omega)
  have bx0_10 := (bx0_9).below hb10 (by omega)
  have bw0r_10 := (bw0r_9).below hb10 (by omega)
  have ba0_10 := (ba0_9).below hb10 (by omega)
  have a0_10 := (a0_9).below hb10 (by omega)
  have w0r_10 := (w0r_9).below hb10 (by omega)
  have w1r_10 := (w1r_9).below hb10 (by omega)
  have g0r_10 := (g0r_9).below hb10 (by omega)
  have g1r_10 := (g1r_9).below hb10 (by omega)
  have tot_10 : Below w.heap.size w w10 := tot_9.trans (hb10.mono (by omega))
  clear bg0r_9 bx0_9 bw0r_9 ba0_9 a0_9 w0r_9 w1r_9 g0r_9 g1r_9 tot_9 hb10
  rw [HR0]
  go_wp2_with fail
  refine (eqIntS_rv Ag1r Aw1r ng1r kg1r nw1r kw1r D1 D1 _ (B1 := hig1r) (B2 := hiw1r) (by exact (g1r_10).rd) (by exact (w1r_10).rd)).mono ?_
  rintro e w11 ⟨rfl, hb11⟩
  have hs11 := hb11.size
  have bg0r_11 := (bg0r_10).below hb11 (by omega)
  have bx0_11 := (bx0_10).below hb11 (by omega)
  have bw0r_11 := (bw0r_10).below hb11 (by omega)
  have ba0_11 := (ba0_10).below hb11 (by omega)
  have a0_11 := (a0_10).below hb11 (by omega)
  have w0r_11 := (w0r_10).below hb11 (by omega)
  have w1r_11 := (w1r_10).below hb11 (by omega)
  have g0r_11 := (g0r_10).below hb11 (by omega)
  have g1r_11 := (g1r_10).below hb11 (by omega)
  have tot_11 : Below w.heap.size w w11 := tot_10.trans (hb11.mono (by omega))
  clear bg0r_10 bx0_10 bw0r_10 ba0_10 a0_10 w0r_10 w1r_10 g0r_10 g1r_10 tot_10 hb11
  rw [HR1]
  obtain ⟨z_bg0r_0, z_bg0r_1, z_bg0r_2, z_bg0r_3⟩ := bg0r_11.four
  have zz_bg0r : w5.heap.size < w11.heap.size := by omega
  go_wp2_with fail
  refine (markMatrix_any P0 R0 C0 Ag0r ng0r kg0r D0 1 _ (B0 := log0r) (B := hig0r) (by exact (g0r_11)) (by first | exact Nat.le_refl _ | omega | (simp only [World.size_alloc]; omega) | (simp; omega)) (by omega) (by omega)).mono ?_
  rintro e w12 ⟨rfl, hb12, hq⟩
  clear z_bg0r_0 z_bg0r_1 z_bg0r_2 z_bg0r_3 zz_bg0r
  have hs12 := hb12.size
  have bg0r_12 := (bg0r_11).chg hb12 (by omega)
  have bx0_12 := (bx0_11).chg hb12 (by omega)
  have bw0r_12 := (bw0r_11).chg hb12 (by omega)
  have ba0_12 := (ba0_11).chg hb12 (by omega)
  have a0_12 := (a0_11).below (hb12.below (by first | omega | (simp only [World.size_alloc]; omega) | (simp; omega))) (by omega)
  have w0r_12 := (w0r_11).below (hb12.below (by first | omega | (simp only [World.size_alloc]; omega) | (simp; omega))) (by omega)
  have w1r_12 := (w1r_11).below (hb12.below (by first | omega | (simp only [World.size_alloc]; omega) | (simp; omega))) (by omega)
  have g1r_12 := (g1r_11).chgOff hb12 (by omega) (by first | omega | (simp only [World.size_alloc]; omega) | (simp; omega))
  have tot_12 : Below w.heap.size w w12 := tot_11.trans ((hb12.below (by first | omega | (simp only [World.size_alloc]; omega) | (simp; omega))).mono (by omega))
  clear bg0r_11 bx0_11 bw0r_11 ba0_11 a0_11 w0r_11 w1r_11 g0r_11 g1r_11 tot_11 hb12
  have g0r_12 := hq
  clear hq
  have hgeg0r : ¬ (1 + ((ng0r : Nat) : Int)) < 0 := by omega
  have hneg0r : ((1 + ((ng0r : Nat) : Int)) != (1 + ((ng0r : Nat) : Int))) = false := by simp
  go_wp2_with fail
  refine (markIntS_any Ag1r ng1r kg1r (1 + (ng0r : Int)) D1 _ (B0 := log1r) (B := hig1r) (by exact (g1r_12)) (by omega) (by omega)).mono ?_
  rintro e w13 ⟨rfl, hb13, hq⟩
  have hs13 := hb13.size
  have bg0r_13 := (bg0r_12).chg hb13 (by omega)
  have bx0_13 := (bx0_12).chg hb13 (by omega)
  have bw0r_13 := (bw0r_12).chg hb13 (by omega)
  have ba0_13 := (ba0_12).chg hb13 (by omega)
  have a0_13 := (a0_12).below (hb13.below (by first | omega | (simp only [World.size_alloc]; omega) | (simp; omega))) (by omega)
  have w0r_13 := (w0r_12).below (hb13.below (by first | omega | (simp only [World.size_alloc]; omega) | (simp; omega))) (by omega)
  have w1r_13 := (w1r_12).below (hb13.below (by first | omega | (simp only [World.size_alloc]; omega) | (simp; omega))) (by omega)
  have g0r_13 := (g0r_12).chgOff hb13 (by omega) (by first | omega | (simp only [World.size_alloc]; omega) | (simp; omega))
  have tot_13 : Below w.heap.size w w13 := tot_12.trans ((hb13.below (by first | omega | (simp only [World.size_alloc]; omega) | (simp; omega))).mono (by omega))
  clear bg0r_12 bx0_12 bw0r_12 ba0_12 a0_12 w0r_12 w1r_12 g1r_12 g0r_12 tot_12 hb13
  have g1r_13 := hq
  clear hq
  have hgeg1r : ¬ ((1 + (ng0r : Int)) + ((ng1r : Nat) : Int)) < 0 := by omega
  have hneg1r : (((1 + (ng0r : Int)) + ((ng1r : Nat) : Int)) != ((1 + (ng0r : Int)) + ((ng1r : Nat) : Int))) = false := by simp
  obtain ⟨z_bg0r_0, z_bg0r_1, z_bg0r_2, z_bg0r_3⟩ := bg0r_13.four
  have zz_bg0r : w5.heap.size < w13.heap.size := by omega
  go_wp2_with fail
  refine (heldMatrix_any P0 R0 C0 Ag0r ng0r kg0r 1 _ (B := hig0r) (by exact (g0r_13).rd) (by first | exact Nat.le_refl _ | omega | (simp only [World.size_alloc]; omega) | (simp; omega)) (by omega) (by omega)).mono ?_
  rintro e w14 ⟨rfl, hb14⟩
  clear z_bg0r_0 z_bg0r_1 z_bg0r_2 z_bg0r_3 zz_bg0r
  have hs14 := hb14.size
  have bg0r_14 := (bg0r_13).below hb14 (by omega)
  have bx0_14 := (bx0_13).below hb14 (by omega)
  have bw0r_14 := (bw0r_13).below hb14 (by omega)
  have ba0_14 := (ba0_13).below hb14 (by omega)
  have a0_14 := (a0_13).below hb14 (by omega)
  have w0r_14 := (w0r_13).below hb14 (by omega)
  have w1r_14 := (w1r_13).below hb14 (by omega)
  have g0r_14 := (g0r_13).below hb14 (by omega)
  have g1r_14 := (g1r_13).below hb14 (by omega)
  have tot_14 : Below w.heap.size w w14 := tot_13.trans (hb14.mono (by omega))
  clear bg0r_13 bx0_13 bw0r_13 ba0_13 a0_13 w0r_13 w1r_13 g0r_13 g1r_13 tot_13 hb14
  go_wp2_with fail
  refine (heldIntS_rv Ag1r ng1r kg1r (1 + (ng0r : Int)) _ (B := hig1r) (by exact (g1r_14).rd) (by omega) (by omega)).mono ?_
  rintro e w15 ⟨rfl, hb15⟩
  have hs15 := hb15.size
  have bg0r_15 := (bg0r_14).below hb15 (by omega)
  have bx0_15 := (bx0_14).below hb15 (by omega)
  have bw0r_15 := (bw0r_14).below hb15 (by omega)
  have ba0_15 := (ba0_14).below hb15 (by omega)
  have a0_15 := (a0_14).below hb15 (by omega)
  have w0r_15 := (w0r_14).below hb15 (by omega)
  have w1r_15 := (w1r_14).below hb15 (by omega)
  have g0r_15 := (g0r_14).below hb15 (by omega)
  have g1r_15 := (g1r_14).below hb15 (by omega)
  have tot_15 : Below w.heap.size w w15 := tot_14.trans (hb15.mono (by omega))
  clear bg0r_14 bx0_14 bw0r_14 ba0_14 a0_14 w0r_14 w1r_14 g0r_14 g1r_14 tot_14 hb15
  obtain ⟨z_ba0_0, z_ba0_1, z_ba0_2, z_ba0_3⟩ := ba0_15.four
  have zz_ba0 : w.heap.size < w15.heap.size := by omega
  go_wp2_with fail
  refine (toMatrix_any p0 r0 c0 A0 n0 k0 d0 _ (B := w.heap.size) (by exact (a0_15)) (by first | exact Nat.le_refl _ | omega | (simp only [World.size_alloc]; omega) | (simp; omega)) (by omega)).mono ?_
  rintro e w16 ⟨At0, nt0, kt0, rfl, hdAt0, hb16, hq⟩
  clear z_ba0_0 z_ba0_1 z_ba0_2 z_ba0_3 zz_ba0
  have hs16 := hb16.size
  have bg0r_16 := (bg0r_15).below hb16 (by omega)
  have bx0_16 := (bx0_15).below hb16 (by omega)
  have bw0r_16 := (bw0r_15).below hb16 (by omega)
  have ba0_16 := (ba0_15).below hb16 (by omega)
  have a0_16 := (a0_15).below hb16 (by omega)
  have w0r_16 := (w0r_15).below hb16 (by omega)
  have w1r_16 := (w1r_15).below hb16 (by omega)
  have g0r_16 := (g0r_15).below hb16 (by omega)
  have g1r_16 := (g1r_15).below hb16 (by omega)
  have tot_16 : Below w.heap.size w w16 := tot_15.trans (hb16.mono (by omega))
  clear bg0r_15 bx0_15 bw0r_15 ba0_15 a0_15 w0r_15 w1r_15 g0r_15 g1r_15 tot_15 hb16
  have t0_16 := hq
  clear hq
  go_wp2_with fail
  refine (hI.out (w16.heap.size) At0 nt0 kt0 _ (by exact (t0_16).rd.up (by first | exact Nat.le_refl _ | omega | (simp only [World.size_alloc]; omega) | (simp; omega))) hdAt0 (by first | exact Nat.le_refl _ | omega | (simp only [World.size_alloc]; omega) | (simp; omega))).mono ?_
  rintro e w17 ⟨Ah0r, nh0r, kh0r, Ah1r, nh1r, kh1r, loh0r, hih0r, loh1r, hih1r, rfl, hdAh0r, hdAh1r, hb17, hq, hq2, hl1h0r, hl2h0r, hl3h0r, hl4h0r, hdish0r, hl5h0r, hl6h0r⟩
  have hs17 := hb17.size
  have bg0r_17 := (bg0r_16).below hb17 (by omega)
  have bx0_17 := (bx0_16).below hb17 (by omega)
  have bw0r_17 := (bw0r_16).below hb17 (by omega)
  have ba0_17 := (ba0_16).below hb17 (by omega)
  have a0_17 := (a0_16).below hb17 (by omega)
  have w0r_17 := (w0r_16).below hb17 (by omega)
  have w1r_17 := (w1r_16).below hb17 (by omega)
  have g0r_17 := (g0r_16).below hb17 (by omega)
  have g1r_17 := (g1r_16).below hb17 (by omega)
  have t0_17 := (t0_16).below hb17 (by omega)
  have tot_17 : Below w.heap.size w w17 := tot_16.trans (hb17.mono (by omega))
  clear bg0r_16 bx0_16 bw0r_16 ba0_16 a0_16 w0r_16 w1r_16 g0r_16 g1r_16 t0_16 tot_16 hb17
  clear t0_17
  try simp only [World.size_alloc] at hl1h0r hl3h0r
  have h0r_17 := hq
  clear hq
  have hNh0r : nh0r ≤ 1073741824 := by have := h0r_17.size; omega
  have h1r_17 := hq2
  clear hq2
  have hNh1r : nh1r ≤ 1073741824 := by have := h1r_17.size; omega
  obtain ⟨z_bw0r_0, z_bw0r_1, z_bw0r_2, z_bw0r_3⟩ := bw0r_17.four
  have zz_bw0r : w3.heap.size < w17.heap.size := by omega
  go_wp2_with fail
  refine (eqMatrix_any P0 R0 C0 Ah0r nh0r kh0r D0 P0 R0 C0 Aw0r nw0r kw0r D0 _ (B1 := hih0r) (B2 := hiw0r) (by exact ((h0r_17.alloc (by first | omega | (simp only [World.size_alloc]; omega) | (simp; omega)) _)).rd) (by first | exact Nat.le_refl _ | omega | (simp only [World.size_alloc]; omega) | (simp; omega)) (by exact ((w0r_17.alloc (by first | omega | (simp only [World.size_alloc]; omega) | (simp; omega)) _)).rd) (by first | exact Nat.le_refl _ | omega | (simp only [World.size_alloc]; omega) | (simp; omega))).mono ?_
  rintro e w18 ⟨rfl, hb18⟩
  clear z_bw0r_0 z_bw0r_1 z_bw0r_2 z_bw0r_3 zz_bw0r
  simp only [World.size_alloc] at hb18
  have hs18 := hb18.size
  simp only [World.size_alloc] at hs18
  have bh0r_18 : Box w18 (w17.heap.size) #[.int .i64 P0, .int .i64 R0, .int .i64 C0, .slice Ah0r nh0r kh0r] := by
    have hq := ((Box.new w17 #[.int .i64 P0, .int .i64 R0, .int .i64 C0, .slice Ah0r nh0r kh0r] _)).below hb18 (by first | omega | (simp only [World.size_alloc]; omega) | (simp; omega))
    (try simp only [World.size_alloc] at hq)
    exact hq
  have bg0r_18 := ((bg0r_17.alloc _)).below hb18 (by omega)
  have bx0_18 := ((bx0_17.alloc _)).below hb18 (by omega)
  have bw0r_18 := ((bw0r_17.alloc _)).below hb18 (by omega)
  have ba0_18 := ((ba0_17.alloc _)).below hb18 (by omega)
  have a0_18 := ((a0_17.alloc (by first | omega | (simp only [World.size_alloc]; omega) | (simp; omega)) _)).below hb18 (by omega)
  have w0r_18 := ((w0r_17.alloc (by first | omega | (simp only [World.size_alloc]; omega) | (simp; omega)) _)).below hb18 (by omega)
  have w1r_18 := ((w1r_17.alloc (by first | omega | (simp only [World.size_alloc]; omega) | (simp; omega)) _)).below hb18 (by omega)
  have g0r_18 := ((g0r_17.alloc (by first | omega | (simp only [World.size_alloc]; omega) | (simp; omega)) _)).below hb18 (by omega)
  have g1r_18 := ((g1r_17.alloc (by first | omega | (simp only [World.size_alloc]; omega) | (simp; omega)) _)).below hb18 (by omega)
  have h0r_18 := ((h0r_17.alloc (by first | omega | (simp only [World.size_alloc]; omega) | (simp; omega)) _)).below hb18 (by omega)
  have h1r_18 := ((h1r_17.alloc (by first | omega | (simp only [World.size_alloc]; omega) | (simp; omega)) _)).below hb18 (by omega)
  have tot_18 : Below w.heap.size w w18 := (tot_17.alloc (by first | omega | (simp only [World.size_alloc]; omega) | (simp; omega)) _).trans (hb18.mono (by omega))
  clear bg0r_17 bx0_17 bw0r_17 ba0_17 a0_17 w0r_17 w1r_17 g0r_17 g1r_17 h0r_17 h1r_17 tot_17 hb18
  rw [HR0]
  go_wp2_with fail
  refine (eqIntS_rv Ah1r Aw1r nh1r kh1r nw1r kw1r D1 D1 _ (B1 := hih1r) (B2 := hiw1r) (by exact (h1r_18).rd) (by exact (w1r_18).rd)).mono ?_
  rintro e w19 ⟨rfl, hb19⟩
  have hs19 := hb19.size
  have bh0r_19 := (bh0r_18).below hb19 (by omega)
  have bg0r_19 := (bg0r_18).below hb19 (by omega)
  have bx0_19 := (bx0_18).below hb19 (by omega)
  have bw0r_19 := (bw0r_18).below hb19 (by omega)
  have ba0_19 := (ba0_18).below hb19 (by omega)
  have a0_19 := (a0_18).below hb19 (by omega)
  have w0r_19 := (w0r_18).below hb19 (by omega)
  have w1r_19 := (w1r_18).below hb19 (by omega)
  have g0r_19 := (g0r_18).below hb19 (by omega)
  have g1r_19 := (g1r_18).below hb19 (by omega)
  have h0r_19 := (h0r_18).below hb19 (by omega)
  have h1r_19 := (h1r_18).below hb19 (by omega)
  have tot_19 : Below w.heap.size w w19 := tot_18.trans (hb19.mono (by omega))
  clear bh0r_18 bg0r_18 bx0_18 bw0r_18 ba0_18 a0_18 w0r_18 w1r_18 g0r_18 g1r_18 h0r_18 h1r_18 tot_18 hb19
  rw [HR1]
  obtain ⟨z_bg0r_0, z_bg0r_1, z_bg0r_2, z_bg0r_3⟩ := bg0r_19.four
  have zz_bg0r : w5.heap.size < w19.heap.size := by omega
  go_wp2_with fail
  refine (heldMatrix_any P0 R0 C0 Ag0r ng0r kg0r 1 _ (B := hig0r) (by exact (g0r_19).rd) (by first | exact Nat.le_refl _ | omega | (simp only [World.size_alloc]; omega) | (simp; omega)) (by omega) (by omega)).mono ?_
  rintro e w20 ⟨rfl, hb20⟩
  clear z_bg0r_0 z_bg0r_1 z_bg0r_2 z_bg0r_3 zz_bg0r
  have hs20 := hb20.size
  have bh0r_20 := (bh0r_19).below hb20 (by omega)
  have bg0r_20 := (bg0r_19).below hb20 (by omega)
  have bx0_20 := (bx0_19).below hb20 (by omega)
  have bw0r_20 := (bw0r_19).below hb20 (by omega)
  have ba0_20 := (ba0_19).below hb20 (by omega)
  have a0_20 := (a0_19).below hb20 (by omega)
  have w0r_20 := (w0r_19).below hb20 (by omega)
  have w1r_20 := (w1r_19).below hb20 (by omega)
  have g0r_20 := (g0r_19).below hb20 (by omega)
  have g1r_20 := (g1r_19).below hb20 (by omega)
  have h0r_20 := (h0r_19).below hb20 (by omega)
  have h1r_20 := (h1r_19).below hb20 (by omega)
  have tot_20 : Below w.heap.size w w20 := tot_19.trans (hb20.mono (by omega))
  clear bh0r_19 bg0r_19 bx0_19 bw0r_19 ba0_19 a0_19 w0r_19 w1r_19 g0r_19 g1r_19 h0r_19 h1r_19 tot_19 hb20
  go_wp2_with fail
  refine (heldIntS_rv Ag1r ng1r kg1r (1 + (ng0r : Int)) _ (B := hig1r) (by exact (g1r_20).rd) (by omega) (by omega)).mono ?_
  rintro e w21 ⟨rfl, hb21⟩
  have hs21 := hb21.size
  have bh0r_21 := (bh0r_20).below hb21 (by omega)
  have bg0r_21 := (bg0r_20).below hb21 (by omega)
  have bx0_21 := (bx0_20).below hb21 (by omega)
  have bw0r_21 := (bw0r_20).below hb21 (by omega)
  have ba0_21 := (ba0_20).below hb21 (by omega)
  have a0_21 := (a0_20).below hb21 (by omega)
  have w0r_21 := (w0r_20).below hb21 (by omega)
  have w1r_21 := (w1r_20).below hb21 (by omega)
  have g0r_21 := (g0r_20).below hb21 (by omega)
  have g1r_21 := (g1r_20).below hb21 (by omega)
  have h0r_21 := (h0r_20).below hb21 (by omega)
  have h1r_21 := (h1r_20).below hb21 (by omega)
  have tot_21 : Below w.heap.size w w21 := tot_20.trans (hb21.mono (by omega))
  clear bh0r_20 bg0r_20 bx0_20 bw0r_20 ba0_20 a0_20 w0r_20 w1r_20 g0r_20 g1r_20 h0r_20 h1r_20 tot_20 hb21
  go_wp2
  go_ret
  exact ⟨rfl, tot_21⟩
theorem law_ReduceMatrix_out0 (p0 r0 c0 : Int) (A0 : Option Addr) (n0 k0 : Nat) (w : World) (hm : n0 ≤ maxLen)  (hx : ¬ n0 ≤ 1048576) :
    Calls Try.prog 5 #[.agg #[.int .i64 p0, .int .i64 r0, .int .i64 c0, .slice A0 n0 k0]] w (Rv (.bool true) w) := by
  have HN0 := Lib.hid (show (if (n0 : Int) ≤ 1048576 then (1048576 : Int) - n0 else -1) = -1 from if_neg (by omega))
  go_enter Try.func5, Try.ntmps5
  have tot_0 : Below w.heap.size w w := Below.refl _ _
  go_wp2_with fail
  refine (szMatrix_any p0 r0 c0 A0 n0 k0 (1048576) _ hm (by omega) (by omega)).mono ?_
  rintro e w1 ⟨rfl, hb1⟩
  simp only [World.size_alloc] at hb1
  have hs1 := hb1.size
  simp only [World.size_alloc] at hs1
  have ba0_1 : Box w1 (w.heap.size) #[.int .i64 p0, .int .i64 r0, .int .i64 c0, .slice A0 n0 k0] := by
    have hq := ((Box.new w #[.int .i64 p0, .int .i64 r0, .int .i64 c0, .slice A0 n0 k0] _)).below hb1 (by first | omega | (simp only [World.size_alloc]; omega) | (simp; omega))
    (try simp only [World.size_alloc] at hq)
    exact hq
  have tot_1 : Below w.heap.size w w1 := (tot_0.alloc (by first | omega | (simp only [World.size_alloc]; omega) | (simp; omega)) _).trans (hb1.mono (by omega))
  clear tot_0 hb1
  rw [HN0.out]
  go_wp2
  go_ret
  exact ⟨rfl, tot_1⟩
theorem in_ReduceMatrix (p0 r0 c0 : Int) (A0 : Option Addr) (n0 k0 : Nat) (d0 : List Int) (w : World) (h0 : RdI w w.heap.size A0 n0 d0) (hn : n0 ≤ 1048576) :
    Calls Try.prog 5 #[.agg #[.int .i64 p0, .int .i64 r0, .int .i64 c0, .slice A0 n0 k0]] w (Rv (.bool true) w) := by
  rcases hok : okM p0 r0 c0 d0 with _ | _
  · exact law_ReduceMatrix_in _ _ _ _ _ _ _ w h0 hn 0 0 0 [] [] (by simp) (by simp) (Lib.hid fun B A n k w h _ hB => sRed_bad _ _ _ _ _ _ _ _ h hB hok) (Lib.hid fun B A n k w h _ hB => iRed_bad _ _ _ _ _ _ _ _ h hB hok)
  · obtain ⟨_, ⟨h1, h2⟩, ⟨h3, h4⟩, h5, _⟩ := okM_bd hok
    obtain ⟨R, rfl⟩ := Int.eq_ofNat_of_zero_le h1
    obtain ⟨C, rfl⟩ := Int.eq_ofNat_of_zero_le h3
    refine law_ReduceMatrix_in _ _ _ _ _ _ _ w h0 hn p0 R C (tab R C (rr R p0 (matF d0 C) C).f) (pvI (rr R p0 (matF d0 C) C).pv) ?_ ?_ (Lib.hid fun B A n k w h hd hB => sRed_ok _ _ _ _ _ _ _ _ h hd hB hok) (Lib.hid fun B A n k w h hd hB => iRed_ok _ _ _ _ _ _ _ _ h hd hB hok)
    · rw [tab_len]
      have : R * C ≤ 40 * 40 := Nat.mul_le_mul (by omega) (by omega)
      omega
    · rw [pvI_len]
      have := rr_rk R p0 (matF d0 C) C
      omega
theorem walk_FnExactReduceMatrix {w : World} (p0 r0 c0 : Int) (v0p0 : (Lit.int .i64 p0).wf = true) (v0r0 : (Lit.int .i64 r0).wf = true) (v0c0 : (Lit.int .i64 c0).wf = true) (A0 : Option Addr) (n0 k0 : Nat) (z0 : List Int) (y0 : IsRow .i64 w A0 n0 k0 z0) :
    Calls Try.prog 5 #[.agg #[.int .i64 p0, .int .i64 r0, .int .i64 c0, .slice A0 n0 k0]] w fun e w' => e = .returned (.bool true) ∧ Below w.heap.size w w' := by
  by_cases hm0 : n0 ≤ 1048576
  case neg => exact law_ReduceMatrix_out0 p0 r0 c0 A0 n0 k0 w (RdI.ofRow y0).2.1  hm0
  exact in_ReduceMatrix p0 r0 c0 A0 n0 k0 _ w (RdI.ofRow y0) hm0 
end Go.Proofs.Ytefgklgacojljaa
