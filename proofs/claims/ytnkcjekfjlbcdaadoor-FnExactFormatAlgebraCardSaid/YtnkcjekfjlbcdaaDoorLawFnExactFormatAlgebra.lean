/- The walk of the law on FormatAlgebra. No condition. -/
import Derived.Test.YtnkcjekfjlbcdaaDoorFaI
import Derived.Test.YtnkcjekfjlbcdaaDoorAlS
import Derived.Test.YtnkcjekfjlbcdaaDoorLawK
import Derived.Deep.RegionHeld3
namespace Go.Proofs.YtnkcjekfjlbcdaaDoor
set_option linter.unusedVariables false
set_option linter.unusedSimpArgs false
set_option maxRecDepth 20000
open Go Go.RowKit
set_option maxRecDepth 100000 in
set_option maxHeartbeats 4000000 in
theorem law_FormatAlgebra_in (p0 q0 : Int) (A0 : Option Addr) (n0 k0 : Nat) (d0 : List Int) (w : World) (h0 : RdI w w.heap.size A0 n0 d0) (hn : n0 ≤ 1048576) (ht : Tabs w.heap.size w) (V0 : ByteArray) 
    (hS : Hid (∀ (B : Nat) (A0 : Option Addr) (n0 k0 : Nat) (w : World), RdI w B A0 n0 d0 → Hd A0 n0 k0 → B ≤ w.heap.size → Calls Tryd.prog 5 #[.agg #[.int .i64 p0, .int .i64 q0, .slice A0 n0 k0]] w (Rv (.string V0) w)))
    (hI : Hid (∀ (B : Nat) (A0 : Option Addr) (n0 k0 : Nat) (w : World), RdI w B A0 n0 d0 → Hd A0 n0 k0 → B ≤ w.heap.size → Tabs w.heap.size w → Calls Tryd.prog 7 #[.agg #[.int .i64 p0, .int .i64 q0, .slice A0 n0 k0]] w (Rv (.string V0) w))) :
    Calls Tryd.prog 3 #[.agg #[.int .i64 p0, .int .i64 q0, .slice A0 n0 k0]] w (Rv (.bool true) w) := by
  have HT0 : (p0 == p0 && q0 == q0 && d0 == d0) = true := by simp
  have hdl0 : d0.length ≤ 1048576 := by have := h0.1; omega
  have HN0 := Lib.hid (show (if (n0 : Int) ≤ 1048576 then (1048576 : Int) - n0 else -1) = 1048576 - n0 from if_pos (by omega))
  have hl0 : ¬ ((1048576 - n0) : Int) < 0 := by omega
  go_enter Tryd.func3, Tryd.ntmps3
  have tot_0 : Below w.heap.size w w := Below.refl _ _
  have a0_0 := h0
  clear h0
  go_wp2_with fail
  refine (szAlgebra_any p0 q0 A0 n0 k0 (1048576) _ (by unfold maxLen; omega) (by omega) (by omega)).mono ?_
  rintro e w1 ⟨rfl, hb1⟩
  simp only [World.size_alloc] at hb1
  have hs1 := hb1.size
  simp only [World.size_alloc] at hs1
  have ba0_1 : Box w1 (w.heap.size) #[.int .i64 p0, .int .i64 q0, .slice A0 n0 k0] := by
    have hq := ((Box.new w #[.int .i64 p0, .int .i64 q0, .slice A0 n0 k0] _)).below hb1 (by first | omega | (simp only [World.size_alloc]; omega) | (simp; omega))
    (try simp only [World.size_alloc] at hq)
    exact hq
  have a0_1 := ((a0_0.alloc (by first | omega | (simp only [World.size_alloc]; omega) | (simp; omega)) _)).below hb1 (by omega)
  have tot_1 : Below w.heap.size w w1 := (tot_0.alloc (by first | omega | (simp only [World.size_alloc]; omega) | (simp; omega)) _).trans (hb1.mono (by omega))
  clear a0_0 tot_0 hb1
  rw [HN0.out]
  obtain ⟨z_ba0_0, z_ba0_1, z_ba0_2⟩ := ba0_1.three
  have zz_ba0 : w.heap.size < w1.heap.size := by omega
  go_wp2_with fail
  refine (toAlgebra_any p0 q0 A0 n0 k0 d0 _ (B := w.heap.size) (by exact (a0_1)) (by first | exact Nat.le_refl _ | omega | (simp only [World.size_alloc]; omega) | (simp; omega)) (by omega)).mono ?_
  rintro e w2 ⟨As0, ns0, ks0, rfl, hdAs0, hb2, hq⟩
  clear z_ba0_0 z_ba0_1 z_ba0_2 zz_ba0
  have hs2 := hb2.size
  have ba0_2 := (ba0_1).below hb2 (by omega)
  have a0_2 := (a0_1).below hb2 (by omega)
  have tot_2 : Below w.heap.size w w2 := tot_1.trans (hb2.mono (by omega))
  clear ba0_1 a0_1 tot_1 hb2
  have s0_2 := hq
  clear hq
  go_wp2_with fail
  refine (hS.out (w2.heap.size) As0 ns0 ks0 _ (by exact (s0_2).rd.up (by first | exact Nat.le_refl _ | omega | (simp only [World.size_alloc]; omega) | (simp; omega))) hdAs0 (by first | exact Nat.le_refl _ | omega | (simp only [World.size_alloc]; omega) | (simp; omega))).mono ?_
  rintro e w3 ⟨rfl, hb3⟩
  have hs3 := hb3.size
  have ba0_3 := (ba0_2).below hb3 (by omega)
  have a0_3 := (a0_2).below hb3 (by omega)
  have s0_3 := (s0_2).below hb3 (by omega)
  have tot_3 : Below w.heap.size w w3 := tot_2.trans (hb3.mono (by omega))
  clear ba0_2 a0_2 s0_2 tot_2 hb3
  clear s0_3
  obtain ⟨z_ba0_0, z_ba0_1, z_ba0_2⟩ := ba0_3.three
  have zz_ba0 : w.heap.size < w3.heap.size := by omega
  go_wp2_with fail
  refine (toAlgebra_any p0 q0 A0 n0 k0 d0 _ (B := w.heap.size) (by exact (a0_3)) (by first | exact Nat.le_refl _ | omega | (simp only [World.size_alloc]; omega) | (simp; omega)) (by omega)).mono ?_
  rintro e w4 ⟨Ax0, nx0, kx0, rfl, hdAx0, hb4, hq⟩
  clear z_ba0_0 z_ba0_1 z_ba0_2 zz_ba0
  have hs4 := hb4.size
  have ba0_4 := (ba0_3).below hb4 (by omega)
  have a0_4 := (a0_3).below hb4 (by omega)
  have tot_4 : Below w.heap.size w w4 := tot_3.trans (hb4.mono (by omega))
  clear ba0_3 a0_3 tot_3 hb4
  try simp only [World.size_alloc] at hq
  have x0_4 := hq
  clear hq
  have hNx0 : nx0 ≤ 1048576 := by have := x0_4.size; omega
  go_wp2_with fail
  refine (hI.out (w4.heap.size + 1) Ax0 nx0 kx0 _ (by exact ((x0_4.alloc (by first | omega | (simp only [World.size_alloc]; omega) | (simp; omega)) _)).rd.up (by first | exact Nat.le_refl _ | omega | (simp only [World.size_alloc]; omega) | (simp; omega))) hdAx0 (by first | exact Nat.le_refl _ | omega | (simp only [World.size_alloc]; omega) | (simp; omega)) (tabs_on2 ht (tot_4.alloc (by omega) _) (by simp; omega))).mono ?_
  rintro e w5 ⟨rfl, hb5⟩
  simp only [World.size_alloc] at hb5
  have hs5 := hb5.size
  simp only [World.size_alloc] at hs5
  have bx0_5 : Box w5 (w4.heap.size) #[.int .i64 p0, .int .i64 q0, .slice Ax0 nx0 kx0] := by
    have hq := ((Box.new w4 #[.int .i64 p0, .int .i64 q0, .slice Ax0 nx0 kx0] _)).below hb5 (by first | omega | (simp only [World.size_alloc]; omega) | (simp; omega))
    (try simp only [World.size_alloc] at hq)
    exact hq
  have ba0_5 := ((ba0_4.alloc _)).below hb5 (by omega)
  have a0_5 := ((a0_4.alloc (by first | omega | (simp only [World.size_alloc]; omega) | (simp; omega)) _)).below hb5 (by omega)
  have x0_5 := ((x0_4.alloc (by first | omega | (simp only [World.size_alloc]; omega) | (simp; omega)) _)).below hb5 (by omega)
  have tot_5 : Below w.heap.size w w5 := (tot_4.alloc (by first | omega | (simp only [World.size_alloc]; omega) | (simp; omega)) _).trans (hb5.mono (by omega))
  clear ba0_4 a0_4 x0_4 tot_4 hb5
  go_wp2_with fail
  go_region_held3 (fun w' => (w'.cell? ⟨w4.heap.size, 0, none⟩ = some (.int .i64 p0) ∧ w'.cell? ⟨w4.heap.size, 1, none⟩ = some (.int .i64 q0) ∧ w'.cell? ⟨w4.heap.size, 2, none⟩ = some (.slice Ax0 nx0 kx0)) ∧ w'.cell? ⟨w.heap.size, 0, none⟩ = some (.int .i64 p0) ∧ w'.cell? ⟨w.heap.size, 1, none⟩ = some (.int .i64 q0) ∧ w'.cell? ⟨w.heap.size, 2, none⟩ = some (.slice A0 n0 k0)) (first | exact ⟨bx0_5.three, ba0_5.three⟩ | exact ⟨(bx0_5.drew.below hbc (by show _ < w5.heap.size; omega)).three, (ba0_5.drew.below hbc (by show _ < w5.heap.size; omega)).three⟩ | exact ⟨((bx0_5.drew.below hbc (by show _ < w5.heap.size; omega)).below hbd (by first | omega | (simp only [World.size_alloc]; omega) | (simp; omega))).three, ((ba0_5.drew.below hbc (by show _ < w5.heap.size; omega)).below hbd (by first | omega | (simp only [World.size_alloc]; omega) | (simp; omega))).three⟩) (first | (go_at_call 6; refine (toAlgebra_any p0 q0 A0 n0 k0 d0 _ (B := w.heap.size) (by exact a0_5) (by show _ ≤ w5.heap.size; omega) (by omega)).mono ?_; rintro e wc ⟨Ay, ny, ky, rfl, hdAy, hbc, hoc⟩; have hsc : w5.heap.size ≤ wc.heap.size := hbc.size) | (go_at_call 8; refine (eqAlgebra_any p0 q0 Ax0 nx0 kx0 d0 p0 q0 Ay ny ky d0 _ (B1 := w4.heap.size) (B2 := wc.heap.size) (by exact (show OwI w5.drew (w3.heap.size) (w4.heap.size) Ax0 nx0 d0 from x0_5).rd.below hbc (by show _ ≤ w5.heap.size; omega)) (by omega) (by exact hoc.rd) (Nat.le_refl _)).mono ?_; rintro e wd ⟨rfl, hbd⟩; rw [HT0]; have hsd := hbd.size))
  have hb6 : Below w5.heap.size w5 wd := (Below.trans (a := w5) (b := w5.drew) ⟨rfl, rfl, rfl, Nat.le_refl _, fun _ _ => rfl⟩ (show Below w5.heap.size w5.drew wc from hbc)).trans (hbd.mono (by omega))
  clear hbc hbd hoc
  obtain ⟨w6, hww⟩ : ∃ x, x = wd := ⟨_, rfl⟩
  subst hww
  clear hsc hsd
  have hs6 := hb6.size
  have bx0_6 := (bx0_5).below hb6 (by omega)
  have ba0_6 := (ba0_5).below hb6 (by omega)
  have a0_6 := (a0_5).below hb6 (by omega)
  have x0_6 := (x0_5).below hb6 (by omega)
  have tot_6 : Below w.heap.size w w6 := tot_5.trans (hb6.mono (by omega))
  clear bx0_5 ba0_5 a0_5 x0_5 tot_5 hb6
  go_wp2
  go_ret
  exact ⟨rfl, tot_6⟩
theorem law_FormatAlgebra_out0 (p0 q0 : Int) (A0 : Option Addr) (n0 k0 : Nat) (w : World) (hm : n0 ≤ maxLen)  (hx : ¬ n0 ≤ 1048576) :
    Calls Tryd.prog 3 #[.agg #[.int .i64 p0, .int .i64 q0, .slice A0 n0 k0]] w (Rv (.bool true) w) := by
  have HN0 := Lib.hid (show (if (n0 : Int) ≤ 1048576 then (1048576 : Int) - n0 else -1) = -1 from if_neg (by omega))
  go_enter Tryd.func3, Tryd.ntmps3
  have tot_0 : Below w.heap.size w w := Below.refl _ _
  go_wp2_with fail
  refine (szAlgebra_any p0 q0 A0 n0 k0 (1048576) _ hm (by omega) (by omega)).mono ?_
  rintro e w1 ⟨rfl, hb1⟩
  simp only [World.size_alloc] at hb1
  have hs1 := hb1.size
  simp only [World.size_alloc] at hs1
  have ba0_1 : Box w1 (w.heap.size) #[.int .i64 p0, .int .i64 q0, .slice A0 n0 k0] := by
    have hq := ((Box.new w #[.int .i64 p0, .int .i64 q0, .slice A0 n0 k0] _)).below hb1 (by first | omega | (simp only [World.size_alloc]; omega) | (simp; omega))
    (try simp only [World.size_alloc] at hq)
    exact hq
  have tot_1 : Below w.heap.size w w1 := (tot_0.alloc (by first | omega | (simp only [World.size_alloc]; omega) | (simp; omega)) _).trans (hb1.mono (by omega))
  clear tot_0 hb1
  rw [HN0.out]
  go_wp2
  go_ret
  exact ⟨rfl, tot_1⟩
theorem in_FormatAlgebra (p0 q0 : Int) (A0 : Option Addr) (n0 k0 : Nat) (d0 : List Int) (w : World) (h0 : RdI w w.heap.size A0 n0 d0) (hn : n0 ≤ 1048576) (ht : Tabs w.heap.size w) :
    Calls Tryd.prog 3 #[.agg #[.int .i64 p0, .int .i64 q0, .slice A0 n0 k0]] w (Rv (.bool true) w) := by
  rcases hok : okA p0 q0 d0 with _ | _
  · exact law_FormatAlgebra_in _ _ _ _ _ _ w h0 hn ht ⟨#[]⟩ (Lib.hid fun B A n k w h hd hB => sFal_no _ _ _ _ _ _ _ h hd hB hok) (Lib.hid fun B A n k w h hd hB ht => iFal_no _ _ _ _ _ _ _ h hd hB hok)
  · obtain ⟨_, a1, a2, _⟩ := okA_bd hok
    obtain ⟨N, rfl⟩ := Int.eq_ofNat_of_zero_le a1
    exact law_FormatAlgebra_in _ _ _ _ _ _ w h0 hn ht _ (Lib.hid fun B A n k w h hd hB => sFal_ok _ _ _ _ _ _ _ h hd hB hok) (Lib.hid fun B A n k w h hd hB ht => iFal_ok _ _ _ _ _ _ _ h hd hB hok ht)
theorem walk_FnExactFormatAlgebra {w : World} (p0 q0 : Int) (v0p0 : (Lit.int .i64 p0).wf = true) (v0q0 : (Lit.int .i64 q0).wf = true) (A0 : Option Addr) (n0 k0 : Nat) (z0 : List Int) (y0 : IsRow .i64 w A0 n0 k0 z0) (ht : Tabs w.heap.size w) :
    Calls Tryd.prog 3 #[.agg #[.int .i64 p0, .int .i64 q0, .slice A0 n0 k0]] w fun e w' => e = .returned (.bool true) ∧ Below w.heap.size w w' := by
  by_cases hm0 : n0 ≤ 1048576
  case neg => exact law_FormatAlgebra_out0 p0 q0 A0 n0 k0 w (RdI.ofRow y0).2.1  hm0
  exact in_FormatAlgebra p0 q0 A0 n0 k0 _ w (RdI.ofRow y0) hm0 ht
end Go.Proofs.YtnkcjekfjlbcdaaDoor
