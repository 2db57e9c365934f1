/- The walk of the law on SubsetsOf. No condition. -/
import Derived.Test.YtlemdaclmagcjaaSub2W
import Derived.Test.YtlemdaclmagcjaaLawK
import Derived.Deep.DeepCutAuto
namespace Go.Proofs.Ytlemdaclmagcjaa
set_option linter.unusedVariables false
set_option linter.unusedSimpArgs false
open Go.RowKit
set_option maxRecDepth 100000 in
set_option maxHeartbeats 4000000 in
theorem law_SubsetsOf_in (a0 : Int) (a1 : Int) (w : World)  (D0 : List (List Int)) (hD0 : flen D0 ≤ 1073741824)
    (hS : Hid (∀ (w : World), Calls Try.prog 27 #[.int .i64 a0, .int .i64 a1] w (RetT D0 w)))
    (hI : Hid (∀ (w : World), Calls Try.prog 28 #[.int .i64 a0, .int .i64 a1] w (RetT D0 w))) :
    Calls Try.prog 8 #[.int .i64 a0, .int .i64 a1] w (Rv (.bool true) w) := by
  have HR0 : (D0 == D0) = true := by simp
  go_enter Try.func8, Try.ntmps8
  have tot_0 : Below w.heap.size w w := Below.refl _ _
  skip
  go_wp2_with fail
  refine (hS.out _).mono ?_
  rintro e w1 ⟨Aw0r, nw0r, kw0r, rfl, hdAw0r, hb1, hhw0r, hq⟩
  have hs1 := hb1.size
  have tot_1 : Below w.heap.size w w1 := tot_0.trans (hb1.mono (by omega))
  clear tot_0 hb1
  try simp only [World.size_alloc] at hq
  have w0r_1 := hq
  clear hq
  skip
  go_wp2_with fail
  refine (hI.out _).mono ?_
  rintro e w2 ⟨Ag0r, ng0r, kg0r, rfl, hdAg0r, hb2, hhg0r, hq⟩
  have hs2 := hb2.size
  have w0r_2 := (w0r_1).below hb2 (by omega)
  have tot_2 : Below w.heap.size w w2 := tot_1.trans (hb2.mono (by omega))
  clear w0r_1 tot_1 hb2
  try simp only [World.size_alloc] at hq
  have g0r_2 := hq
  clear hq
  skip
  go_wp2_with fail
  refine (eqIntSS_any Ag0r Aw0r ng0r kg0r nw0r kw0r D0 D0 _ (B1 := w2.heap.size) (B2 := w1.heap.size) (by exact (g0r_2).rd) (by first | exact Nat.le_refl _ | omega | (simp only [World.size_alloc]; omega) | (simp; omega)) (by exact (w0r_2).rd) (by first | exact Nat.le_refl _ | omega | (simp only [World.size_alloc]; omega) | (simp; omega))).mono ?_
  rintro e w3 ⟨rfl, hb3⟩
  have hs3 := hb3.size
  have w0r_3 := (w0r_2).below hb3 (by omega)
  have g0r_3 := (g0r_2).below hb3 (by omega)
  have tot_3 : Below w.heap.size w w3 := tot_2.trans (hb3.mono (by omega))
  clear w0r_2 g0r_2 tot_2 hb3
  rw [HR0]
  go_wp2_with fail
  refine (markIntSS_any Ag0r ng0r kg0r 1 D0 _ (B0 := w1.heap.size) (B := w2.heap.size) (by exact (g0r_3)) (by first | exact Nat.le_refl _ | omega | (simp only [World.size_alloc]; omega) | (simp; omega)) (by omega) (by omega)).mono ?_
  rintro e w4 ⟨rfl, hb4, hq⟩
  have hs4 := hb4.size
  have w0r_4 := (w0r_3).below (hb4.below (by first | omega | (simp only [World.size_alloc]; omega) | (simp; omega))) (by omega)
  have tot_4 : Below w.heap.size w w4 := tot_3.trans ((hb4.below (by first | omega | (simp only [World.size_alloc]; omega) | (simp; omega))).mono (by omega))
  clear w0r_3 g0r_3 tot_3 hb4
  have g0r_4 := hq
  clear hq
  have hge : ¬ (1 + ((flen D0 : Nat) : Int)) < 0 := by omega
  have hne : (1 + ((flen D0 : Nat) : Int) != 1 + ((flen D0 : Nat) : Int)) = false := by simp
  go_wp2_with fail
  refine (heldIntSS_any Ag0r ng0r kg0r 1 D0 _ (B := w2.heap.size) (by exact (g0r_4).rd) (by first | exact Nat.le_refl _ | omega | (simp only [World.size_alloc]; omega) | (simp; omega)) (by omega) (by omega)).mono ?_
  rintro e w5 ⟨rfl, hb5⟩
  have hs5 := hb5.size
  have w0r_5 := (w0r_4).below hb5 (by omega)
  have g0r_5 := (g0r_4).below hb5 (by omega)
  have tot_5 : Below w.heap.size w w5 := tot_4.trans (hb5.mono (by omega))
  clear w0r_4 g0r_4 tot_4 hb5
  go_wp2_with fail
  refine (hI.out _).mono ?_
  rintro e w6 ⟨Ah0r, nh0r, kh0r, rfl, hdAh0r, hb6, hhh0r, hq⟩
  have hs6 := hb6.size
  have w0r_6 := (w0r_5).below hb6 (by omega)
  have g0r_6 := (g0r_5).below hb6 (by omega)
  have tot_6 : Below w.heap.size w w6 := tot_5.trans (hb6.mono (by omega))
  clear w0r_5 g0r_5 tot_5 hb6
  try simp only [World.size_alloc] at hq
  have h0r_6 := hq
  clear hq
  skip
  go_wp2_with fail
  refine (eqIntSS_any Ah0r Aw0r nh0r kh0r nw0r kw0r D0 D0 _ (B1 := w6.heap.size) (B2 := w1.heap.size) (by exact (h0r_6).rd) (by first | exact Nat.le_refl _ | omega | (simp only [World.size_alloc]; omega) | (simp; omega)) (by exact (w0r_6).rd) (by first | exact Nat.le_refl _ | omega | (simp only [World.size_alloc]; omega) | (simp; omega))).mono ?_
  rintro e w7 ⟨rfl, hb7⟩
  have hs7 := hb7.size
  have w0r_7 := (w0r_6).below hb7 (by omega)
  have g0r_7 := (g0r_6).below hb7 (by omega)
  have h0r_7 := (h0r_6).below hb7 (by omega)
  have tot_7 : Below w.heap.size w w7 := tot_6.trans (hb7.mono (by omega))
  clear w0r_6 g0r_6 h0r_6 tot_6 hb7
  rw [HR0]
  go_wp2_with fail
  refine (heldIntSS_any Ag0r ng0r kg0r 1 D0 _ (B := w2.heap.size) (by exact (g0r_7).rd) (by first | exact Nat.le_refl _ | omega | (simp only [World.size_alloc]; omega) | (simp; omega)) (by omega) (by omega)).mono ?_
  rintro e w8 ⟨rfl, hb8⟩
  have hs8 := hb8.size
  have w0r_8 := (w0r_7).below hb8 (by omega)
  have g0r_8 := (g0r_7).below hb8 (by omega)
  have h0r_8 := (h0r_7).below hb8 (by omega)
  have tot_8 : Below w.heap.size w w8 := tot_7.trans (hb8.mono (by omega))
  clear w0r_7 g0r_7 h0r_7 tot_7 hb8
  go_wp2
  go_ret
  exact ⟨rfl, tot_8⟩
theorem in_SubsetsOf (a0 a1 : Int) (w : World) :
    Calls Try.prog 8 #[.int .i64 a0, .int .i64 a1] w (Rv (.bool true) w) := by
  by_cases h : (0 ≤ a0 ∧ a0 ≤ 7) ∧ 0 ≤ a1 ∧ a1 ≤ a0
  · obtain ⟨⟨h1, h2⟩, h3, h4⟩ := h
    obtain ⟨n, rfl⟩ := Int.eq_ofNat_of_zero_le h1
    obtain ⟨k, rfl⟩ := Int.eq_ofNat_of_zero_le h3
    exact law_SubsetsOf_in _ _ w (subs n k 0) (subs_flat n k (by omega) (by omega)) (Lib.hid fun w => sSub_ok n k w (by omega) (by omega)) (Lib.hid fun w => iSub_ok n k w (by omega) (by omega))
  · exact law_SubsetsOf_in _ _ w [] (by simp [flen]) (Lib.hid fun w => sSub_bad _ _ w h) (Lib.hid fun w => iSub_bad _ _ w h)
theorem walk_FnExactSubsetsOf {w : World} (a0 : Int) (v0 : (Lit.int .i64 a0).wf = true) (a1 : Int) (v1 : (Lit.int .i64 a1).wf = true) :
    Calls Try.prog 8 #[.int .i64 a0, .int .i64 a1] w fun e w' => e = .returned (.bool true) ∧ Below w.heap.size w w' := by
  exact in_SubsetsOf a0 a1 w  
end Go.Proofs.Ytlemdaclmagcjaa
