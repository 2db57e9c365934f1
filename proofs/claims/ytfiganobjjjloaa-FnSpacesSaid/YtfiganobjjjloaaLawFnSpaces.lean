/- The walk of the law on spaces. No condition. -/
import Derived.Test.YtfiganobjjjloaaDspW
import Derived.Test.YtfiganobjjjloaaSps
import Derived.Test.YtfiganobjjjloaaMeetW
import Derived.Test.YtfiganobjjjloaaTopW
import Derived.Test.YtfiganobjjjloaaLwsW
import Derived.Test.YtfiganobjjjloaaRin
import Derived.Deep.RegionHeld3
import Derived.Deep.DeepCutAuto
namespace Go.Proofs.Ytfiganobjjjloaa
set_option linter.unusedVariables false
set_option linter.unusedSimpArgs false
set_option maxRecDepth 20000
open Go.RowKit Go.Sort
set_option maxHeartbeats 8000000
theorem both_mk {p : Int} {R1 R2 C : Nat} {d1 d2 : List Int} (h1 : spB p R1 C d1 = true) (h2 : spB p R2 C d2 = true) : bothB p R1 C d1 p R2 C d2 = true := by
  unfold bothB; rw [h1, h2]; simp
set_option maxRecDepth 100000 in
theorem walk_FnSpaces {w : World} (A0 : Option Addr) (n0 k0 : Nat) (z0 : List Int) (y0 : IsRow .u8 w A0 n0 k0 z0) :
    Calls Try.prog 7 #[.slice A0 n0 k0] w fun e w' => e = .returned (.bool true) ∧ Below w.heap.size w w' := by
  have hr := RdB.ofRow y0
  have hnm := hr.1
  unfold maxLen at hnm
  by_cases hbig : 1048576 < n0
  · go_enter Try.func7, Try.ntmps7
    go_wp2_with (go_at_call 19; refine (big_any _ (by omega)).mono ?_; rintro e w' ⟨rfl, rfl⟩)
    go_ret
    exact ⟨rfl, Below.refl _ _⟩
  · go_enter Try.func7, Try.ntmps7
    go_wp2_with (go_at_call 19; refine (big_any _ (by omega)).mono ?_; rintro e w' ⟨rfl, rfl⟩)
    refine (drawSpaces_any A0 n0 k0 w hr (Nat.le_refl _)).mono ?_
    rintro e w1 ⟨p, R1, R2, C, d1, d2, v, A1, A2, Av, n1, k1, n2, k2, kv, hs1, hs2, hvr, hC, rfl, hd1, hd2, hdv, hb1, ho1, ho2, hov⟩
    have HF := Lib.hid (sps_facts hs1 hs2)
    obtain ⟨hp, hR1, hC40, hl1, hr1, -, -⟩ := space_ok hs1
    obtain ⟨-, hR2, -, hl2, hr2, -, -⟩ := space_ok hs2
    obtain ⟨hp1, hp2⟩ := isP_bd hp
    have HP := Lib.hid hp
    have HS1 := Lib.hid hs1
    have HS2 := Lib.hid hs2
    have HVR := Lib.hid hvr
    obtain ⟨SR, hSR⟩ : ∃ x, x = (rr (R1 + R2) p (matF (d1 ++ d2) C) C).rk := ⟨_, rfl⟩
    obtain ⟨SD, hSD⟩ : ∃ x, x = tab (rr (R1 + R2) p (matF (d1 ++ d2) C) C).rk C (rr (R1 + R2) p (matF (d1 ++ d2) C) C).f := ⟨_, rfl⟩
    obtain ⟨MR, hMR⟩ : ∃ x, x = (miS R1 R2 C p d1 d2).rk := ⟨_, rfl⟩
    obtain ⟨MD, hMD⟩ : ∃ x, x = tab (miS R1 R2 C p d1 d2).rk C (miS R1 R2 C p d1 d2).f := ⟨_, rfl⟩
    obtain ⟨hSS, hMM, hdim, hw1, hw2, hw3, hw4, hw5⟩ := HF.out
    rw [← hSD, ← hSR] at hSS hw1 hw2
    rw [← hMD, ← hMR] at hMM hw3 hw4
    rw [← hSR, ← hMR] at hdim
    rw [← hMR] at hw5
    have HSS := Lib.hid hSS
    have HMM := Lib.hid hMM
    have HW1 := Lib.hid hw1
    have HW2 := Lib.hid hw2
    have HW3 := Lib.hid hw3
    have HW4 := Lib.hid hw4
    have HW5 := Lib.hid hw5
    have HSR := Lib.hid hSR
    have HSD := Lib.hid hSD
    have HMR := Lib.hid hMR
    have HMD := Lib.hid hMD
    obtain ⟨-, hSR40, -, -, -, -, -⟩ := space_ok hSS
    obtain ⟨-, hMR40, -, -, -, -, -⟩ := space_ok hMM
    have hz1 := hb1.size
    have ha := ho1.rd
    have hb := ho2.rd
    have hv := hov.rd
    have hxa := (Box.new w1 #[.int .i64 p, .int .i64 R1, .int .i64 C, .slice A1 n1 k1] 26).alloc (.cells #[.int .i64 p, .int .i64 R2, .int .i64 C, .slice A2 n2 k2] 26)
    have hxb := Box.new (w1.alloc (.cells #[.int .i64 p, .int .i64 R1, .int .i64 C, .slice A1 n1 k1] 26)) #[.int .i64 p, .int .i64 R2, .int .i64 C, .slice A2 n2 k2] 26
    rw [World.size_alloc] at hxb
    have hq11 : Below w1.heap.size w1 ((w1.alloc (.cells #[.int .i64 p, .int .i64 R1, .int .i64 C, .slice A1 n1 k1] 26)).alloc (.cells #[.int .i64 p, .int .i64 R2, .int .i64 C, .slice A2 n2 k2] 26)) := ((Below.refl _ _).alloc (Nat.le_refl _) _).alloc (by simp) _
    have ha := ha.below hq11 (Nat.le_refl _)
    have hb := hb.below hq11 (Nat.le_refl _)
    have hv := hv.below hq11 (Nat.le_refl _)
    have hq := hb1.trans (hq11.mono (by omega))
    have hza : ((w1.alloc (.cells #[.int .i64 p, .int .i64 R1, .int .i64 C, .slice A1 n1 k1] 26)).alloc (.cells #[.int .i64 p, .int .i64 R2, .int .i64 C, .slice A2 n2 k2] 26)).heap.size = w1.heap.size + 2 := by simp
    clear hp hs1 hs2 hvr hSR hSD hMR hMD hSS hMM hw1 hw2 hw3 hw4 hw5 hb1 ho1 ho2 hov hr y0 hq11 hl1 hl2 hr1 hr2
    obtain ⟨x0, x1, x2, x3⟩ := hxa.four
    obtain ⟨y0, y1, y2, y3⟩ := hxb.four
    go_wp2_with fail
    generalize (w1.alloc (.cells #[.int .i64 p, .int .i64 R1, .int .i64 C, .slice A1 n1 k1] 26)).alloc (.cells #[.int .i64 p, .int .i64 R2, .int .i64 C, .slice A2 n2 k2] 26) = W1 at *
    refine (iSum_ok (B := w1.heap.size) p R1 R2 C n1 k1 n2 k2 A1 A2 d1 d2 W1 ha hd1 hb hd2 (by omega) (both_mk HS1.out HS2.out)).mono ?_
    rw [← HSD.out, ← HSR.out]
    rintro e w2 ⟨A3, n3, k3, rfl, hd3, hb2, ho3⟩
    have hz2 := hb2.size
    have hb22 := hb2.alloc hz2 (.cells #[.int .i64 p, .int .i64 SR, .int .i64 C, .slice A3 n3 k3] 26)
    have hxa := hxa.step hb22
    have hxb := hxb.step hb22
    have ha := ha.below hb22 (by omega)
    have hb := hb.below hb22 (by omega)
    have hv := hv.below hb22 (by omega)
    have hq := hq.trans (hb22.mono (by omega))
    have hxs := Box.new w2 #[.int .i64 p, .int .i64 SR, .int .i64 C, .slice A3 n3 k3] 26
    have hcs := ho3.rd.alloc (Nat.le_refl _) (.cells #[.int .i64 p, .int .i64 SR, .int .i64 C, .slice A3 n3 k3] 26)
    have hzb : (w2.alloc (.cells #[.int .i64 p, .int .i64 SR, .int .i64 C, .slice A3 n3 k3] 26)).heap.size = w2.heap.size + 1 := by simp
    clear x0 x1 x2 x3 y0 y1 y2 y3 hb2 hb22 ho3
    obtain ⟨x0, x1, x2, x3⟩ := hxa.four
    obtain ⟨y0, y1, y2, y3⟩ := hxb.four
    go_wp2_with fail
    generalize w2.alloc (.cells #[.int .i64 p, .int .i64 SR, .int .i64 C, .slice A3 n3 k3] 26) = W2 at *
    refine (iMeet_ok (B := w1.heap.size) p R1 R2 C n1 k1 n2 k2 A1 A2 d1 d2 W2 ha hd1 hb hd2 (by omega) (both_mk HS1.out HS2.out)).mono ?_
    rw [← HMD.out, ← HMR.out]
    rintro e w3 ⟨A4, n4, k4, rfl, hd4, hb3, ho4⟩
    have hz3 := hb3.size
    have hb33 := hb3.alloc hz3 (.cells #[.int .i64 p, .int .i64 MR, .int .i64 C, .slice A4 n4 k4] 26)
    have hxa := hxa.step hb33
    have hxb := hxb.step hb33
    have hxs := hxs.step hb33
    have ha := ha.below hb33 (by omega)
    have hb := hb.below hb33 (by omega)
    have hv := hv.below hb33 (by omega)
    have hcs := hcs.below hb33 (by omega)
    have hq := hq.trans (hb33.mono (by omega))
    have hxm := Box.new w3 #[.int .i64 p, .int .i64 MR, .int .i64 C, .slice A4 n4 k4] 26
    have hcm := ho4.rd.alloc (Nat.le_refl _) (.cells #[.int .i64 p, .int .i64 MR, .int .i64 C, .slice A4 n4 k4] 26)
    have hzc : (w3.alloc (.cells #[.int .i64 p, .int .i64 MR, .int .i64 C, .slice A4 n4 k4] 26)).heap.size = w3.heap.size + 1 := by simp
    clear x0 x1 x2 x3 y0 y1 y2 y3 hb3 hb33 ho4
    obtain ⟨s0, s1, s2, s3⟩ := hxs.four
    go_wp2_with fail
    generalize w3.alloc (.cells #[.int .i64 p, .int .i64 MR, .int .i64 C, .slice A4 n4 k4] 26) = W3 at *
    refine (iSp_any (B := w2.heap.size) p SR C n3 k3 A3 SD W3 hcs hd3 (by omega)).mono ?_
    rw [HSS.out]
    rintro e w4 ⟨rfl, hb4⟩
    have hz4 := hb4.size
    have hxa := hxa.step hb4
    have hxb := hxb.step hb4
    have hxs := hxs.step hb4
    have hxm := hxm.step hb4
    have ha := ha.below hb4 (by omega)
    have hb := hb.below hb4 (by omega)
    have hv := hv.below hb4 (by omega)
    have hcs := hcs.below hb4 (by omega)
    have hcm := hcm.below hb4 (by omega)
    have hq := hq.trans (hb4.mono (by omega))
    clear s0 s1 s2 s3 hb4
    obtain ⟨m0, m1, m2, m3⟩ := hxm.four
    go_wp2_with fail
    refine (iSp_any (B := w3.heap.size) p MR C n4 k4 A4 MD w4 hcm hd4 (by omega)).mono ?_
    rw [HMM.out]
    rintro e w5 ⟨rfl, hb5⟩
    have hz5 := hb5.size
    have hxa := hxa.step hb5
    have hxb := hxb.step hb5
    have hxs := hxs.step hb5
    have hxm := hxm.step hb5
    have ha := (ha.below hb5 (by omega)).up (show _ ≤ w5.heap.size by omega)
    have hb := (hb.below hb5 (by omega)).up (show _ ≤ w5.heap.size by omega)
    have hv := (hv.below hb5 (by omega)).up (show _ ≤ w5.heap.size by omega)
    have hcs := (hcs.below hb5 (by omega)).up (show _ ≤ w5.heap.size by omega)
    have hcm := (hcm.below hb5 (by omega)).up (show _ ≤ w5.heap.size by omega)
    have hq := hq.trans (hb5.mono (by omega))
    clear m0 m1 m2 m3 hb5
    obtain ⟨x0, x1, x2, x3⟩ := hxa.four
    obtain ⟨y0, y1, y2, y3⟩ := hxb.four
    obtain ⟨s0, s1, s2, s3⟩ := hxs.four
    obtain ⟨m0, m1, m2, m3⟩ := hxm.four
    have hdimI : (SR : Int) + (MR : Int) = (R1 : Int) + (R2 : Int) := by omega
    go_wp2_with fail
    obtain ⟨be, hbe⟩ : ∃ be, wiB R1 R2 C p d1 d2 = be := ⟨_, rfl⟩
    have hMB : ((MR : Int) == (R1 : Int)) = be := by
      have := HW5.out
      rw [hbe] at this
      rcases be with _ | _
      · rw [beq_eq_false_iff_ne]; intro e; have := this.2 (by omega); cases this
      · rw [beq_iff_eq]; have := this.1 rfl; omega
    have HBE := Lib.hid hbe
    clear hbe x0 x1 x2 x3 y0 y1 y2 y3 s0 s1 s2 s3 m0 m1 m2 m3
    refine wp_region_val (fun vs => ⟨#[Value.slice A0 n0 k0, undef, Value.bool false, Value.pointer (some ⟨w1.heap.size, 0, none⟩), Value.pointer (some ⟨w1.heap.size + 1, 0, none⟩), Value.slice Av C kv, Value.pointer (some ⟨w2.heap.size, 0, none⟩), Value.bool true, Value.pointer (some ⟨w3.heap.size, 0, none⟩), Value.bool true, undef, undef, undef, undef, Value.slice A0 n0 k0, Value.bool false, Value.tuple #[Value.agg #[Value.int IntKind.i64 p, Value.int IntKind.i64 ↑R1, Value.int IntKind.i64 ↑C, Value.slice A1 n1 k1], Value.agg #[Value.int IntKind.i64 p, Value.int IntKind.i64 ↑R2, Value.int IntKind.i64 ↑C, Value.slice A2 n2 k2], Value.slice Av C kv], Value.slice A0 n0 k0, Value.tuple #[Value.agg #[Value.int IntKind.i64 p, Value.int IntKind.i64 ↑R1, Value.int IntKind.i64 ↑C, Value.slice A1 n1 k1], Value.agg #[Value.int IntKind.i64 p, Value.int IntKind.i64 ↑R2, Value.int IntKind.i64 ↑C, Value.slice A2 n2 k2], Value.slice Av C kv], Value.agg #[Value.int IntKind.i64 p, Value.int IntKind.i64 ↑R1, Value.int IntKind.i64 ↑C, Value.slice A1 n1 k1], Value.agg #[Value.int IntKind.i64 p, Value.int IntKind.i64 ↑R2, Value.int IntKind.i64 ↑C, Value.slice A2 n2 k2], Value.slice Av C kv, Value.tuple #[Value.agg #[Value.int IntKind.i64 p, Value.int IntKind.i64 ↑SR, Value.int IntKind.i64 ↑C, Value.slice A3 n3 k3], Value.bool true], Value.agg #[Value.int IntKind.i64 p, Value.int IntKind.i64 ↑R1, Value.int IntKind.i64 ↑C, Value.slice A1 n1 k1], Value.agg #[Value.int IntKind.i64 p, Value.int IntKind.i64 ↑R2, Value.int IntKind.i64 ↑C, Value.slice A2 n2 k2], Value.tuple #[Value.agg #[Value.int IntKind.i64 p, Value.int IntKind.i64 ↑SR, Value.int IntKind.i64 ↑C, Value.slice A3 n3 k3], Value.bool true], Value.agg #[Value.int IntKind.i64 p, Value.int IntKind.i64 ↑SR, Value.int IntKind.i64 ↑C, Value.slice A3 n3 k3], Value.bool true, Value.tuple #[Value.agg #[Value.int IntKind.i64 p, Value.int IntKind.i64 ↑MR, Value.int IntKind.i64 ↑C, Value.slice A4 n4 k4], Value.bool true], Value.agg #[Value.int IntKind.i64 p, Value.int IntKind.i64 ↑R1, Value.int IntKind.i64 ↑C, Value.slice A1 n1 k1], Value.agg #[Value.int IntKind.i64 p, Value.int IntKind.i64 ↑R2, Value.int IntKind.i64 ↑C, Value.slice A2 n2 k2], Value.tuple #[Value.agg #[Value.int IntKind.i64 p, Value.int IntKind.i64 ↑MR, Value.int IntKind.i64 ↑C, Value.slice A4 n4 k4], Value.bool true], Value.agg #[Value.int IntKind.i64 p, Value.int IntKind.i64 ↑MR, Value.int IntKind.i64 ↑C, Value.slice A4 n4 k4], Value.bool true, Value.bool true, Value.bool false, Value.bool false, Value.bool true, Value.bool false, Value.bool false, Value.bool false, Value.agg #[Value.int IntKind.i64 p, Value.int IntKind.i64 ↑SR, Value.int IntKind.i64 ↑C, Value.slice A3 n3 k3], Value.bool true, Value.bool false, Value.bool false, Value.bool false, Value.agg #[Value.int IntKind.i64 p, Value.int IntKind.i64 ↑MR, Value.int IntKind.i64 ↑C, Value.slice A4 n4 k4], Value.bool true, Value.bool false, Value.bool false, Value.bool false, Value.pointer (some ⟨w2.heap.size, 1, none⟩), Value.int IntKind.i64 ↑SR, Value.pointer (some ⟨w3.heap.size, 1, none⟩), Value.int IntKind.i64 ↑MR, Value.int IntKind.i64 (↑R1 + ↑R2), Value.pointer (some ⟨w1.heap.size, 1, none⟩), Value.int IntKind.i64 ↑R1, Value.pointer (some ⟨w1.heap.size + 1, 1, none⟩), Value.int IntKind.i64 ↑R2, Value.int IntKind.i64 (↑R1 + ↑R2), Value.bool false, Value.bool false, vs 0, vs 1, vs 2, vs 3, vs 4, vs 5, vs 6, vs 7, vs 8, vs 9, vs 10, vs 11, vs 12, vs 13, vs 14, vs 15, vs 16, vs 17, vs 18, vs 19, vs 20, vs 21, vs 22, vs 23, vs 24, vs 25, vs 26, vs 27, vs 28, vs 29, vs 30, vs 31, vs 32, undef, undef, undef, undef, undef, undef, undef, undef, undef, undef, undef, undef, undef, undef, undef, undef, undef, undef, undef, undef, undef, undef, undef, undef, undef, undef, undef, undef, undef, undef, undef, undef, undef, undef, undef, undef, undef, undef, undef, undef, undef, undef, undef, undef, undef, undef, undef, undef, undef, undef, undef, undef, undef, undef, undef, undef, undef], []⟩) (fun k => ([.eq (.agg #[.int .i64 p, .int .i64 R1, .int .i64 C, .slice A1 n1 k1]), .eq (.agg #[.int .i64 p, .int .i64 SR, .int .i64 C, .slice A3 n3 k3]), .eq (.bool true), .eq (.bool false), .eq (.bool false), .eq (.agg #[.int .i64 p, .int .i64 R2, .int .i64 C, .slice A2 n2 k2]), .eq (.agg #[.int .i64 p, .int .i64 SR, .int .i64 C, .slice A3 n3 k3]), .eq (.bool true), .eq (.bool false), .eq (.bool false), .eq (.bool false), .eq (.agg #[.int .i64 p, .int .i64 MR, .int .i64 C, .slice A4 n4 k4]), .eq (.agg #[.int .i64 p, .int .i64 R1, .int .i64 C, .slice A1 n1 k1]), .eq (.bool true), .eq (.bool false), .eq (.bool false), .eq (.bool false), .eq (.agg #[.int .i64 p, .int .i64 MR, .int .i64 C, .slice A4 n4 k4]), .eq (.agg #[.int .i64 p, .int .i64 R2, .int .i64 C, .slice A2 n2 k2]), .eq (.bool true), .eq (.bool false), .eq (.bool false), .eq (.bool false), .eq (.agg #[.int .i64 p, .int .i64 R1, .int .i64 C, .slice A1 n1 k1]), .eq (.agg #[.int .i64 p, .int .i64 R2, .int .i64 C, .slice A2 n2 k2]), .eq (.bool be), .eq (.pointer (some ⟨w3.heap.size, 1, none⟩)), .eq (.int .i64 MR), .eq (.pointer (some ⟨w1.heap.size, 1, none⟩)), .eq (.int .i64 R1), .eq (.bool be), .eq (.bool false), .eq (.bool false)] : List VS).getD k .any) (fun k => undef) (w5.heap.size) w5 (by rfl) (by rfl) (Below.refl _ _) (by kernel_rfl) ?_ ?_ (Nat.le_refl _)
    · rintro i oi vs wx ho hbl hd K hK
      have hi : i < 33 := by
        rcases Nat.lt_or_ge i 33 with h | h
        · exact h
        · rw [Array.getElem?_eq_none (by simpa using h)] at ho; cases ho
      have hsw := hbl.size
      rcases i with _ | _ | _ | _ | _ | _ | _ | _ | _ | _ | _ | _ | _ | _ | _ | _ | _ | _ | _ | _ | _ | _ | _ | _ | _ | _ | _ | _ | _ | _ | _ | _ | _ | i''
      · obtain rfl := Option.some.inj ho
        clear ho hi
        refine ite_take (by rfl) ?_
        obtain ⟨x0, x1, x2, x3⟩ := (hxa.step hbl).four
        go_simp
        exact hK _ _ rfl (Below.refl _ _)
      · obtain rfl := Option.some.inj ho
        clear ho hi
        refine ite_take (by rfl) ?_
        obtain ⟨x0, x1, x2, x3⟩ := (hxs.step hbl).four
        go_simp
        exact hK _ _ rfl (Below.refl _ _)
      · obtain rfl := Option.some.inj ho
        clear ho hi
        have e0 : vs 0 = .agg #[.int .i64 p, .int .i64 R1, .int .i64 C, .slice A1 n1 k1] := hd 0 (by rfl)
        obtain ⟨vs, rfl⟩ := vs_at e0
        have e1 : vs 1 = .agg #[.int .i64 p, .int .i64 SR, .int .i64 C, .slice A3 n3 k3] := hd 1 (by rfl)
        obtain ⟨vs, rfl⟩ := vs_at e1
        refine ite_take (by rfl) ?_
        (try simp only [↓reduceIte, Nat.reduceEqDiff])
        go_simp
        refine (iSbs_ok (B := w5.heap.size) p R1 SR C n1 k1 n3 k3 A1 A3 d1 SD _ (ha.below hbl (Nat.le_refl _)) hd1 (hcs.below hbl (Nat.le_refl _)) hd3 (by omega) (both_mk HS1.out HSS.out)).mono ?_
        rw [HW1.out]
        rintro e wc ⟨rfl, hbc⟩
        go_simp
        exact hK _ _ rfl hbc
      · obtain rfl := Option.some.inj ho
        clear ho hi
        have e2 : vs 2 = .bool true := hd 2 (by rfl)
        obtain ⟨vs, rfl⟩ := vs_at e2
        refine ite_take (by rfl) ?_
        (try simp only [↓reduceIte, Nat.reduceEqDiff])
        go_simp
        exact hK _ _ rfl (Below.refl _ _)
      · obtain rfl := Option.some.inj ho
        clear ho hi
        have e3 : vs 3 = .bool false := hd 3 (by rfl)
        obtain ⟨vs, rfl⟩ := vs_at e3
        refine ite_take (by rfl) ?_
        (try simp only [↓reduceIte, Nat.reduceEqDiff])
        go_simp
        exact hK _ _ rfl (Below.refl _ _)
      · obtain rfl := Option.some.inj ho
        clear ho hi
        have e4 : vs 4 = .bool false := hd 4 (by rfl)
        obtain ⟨vs, rfl⟩ := vs_at e4
        refine ite_take (wanted_yes (b := false) rfl rfl rfl rfl rfl) ?_
        (try simp only [↓reduceIte, Nat.reduceEqDiff])
        obtain ⟨x0, x1, x2, x3⟩ := (hxb.step hbl).four
        go_simp
        exact hK _ _ rfl (Below.refl _ _)
      · obtain rfl := Option.some.inj ho
        clear ho hi
        have e4 : vs 4 = .bool false := hd 4 (by rfl)
        obtain ⟨vs, rfl⟩ := vs_at e4
        refine ite_take (wanted_yes (b := false) rfl rfl rfl rfl rfl) ?_
        (try simp only [↓reduceIte, Nat.reduceEqDiff])
        obtain ⟨x0, x1, x2, x3⟩ := (hxs.step hbl).four
        go_simp
        exact hK _ _ rfl (Below.refl _ _)
      · obtain rfl := Option.some.inj ho
        clear ho hi
        have e4 : vs 4 = .bool false := hd 4 (by rfl)
        obtain ⟨vs, rfl⟩ := vs_at e4
        have e5 : vs 5 = .agg #[.int .i64 p, .int .i64 R2, .int .i64 C, .slice A2 n2 k2] := hd 5 (by rfl)
        obtain ⟨vs, rfl⟩ := vs_at e5
        have e6 : vs 6 = .agg #[.int .i64 p, .int .i64 SR, .int .i64 C, .slice A3 n3 k3] := hd 6 (by rfl)
        obtain ⟨vs, rfl⟩ := vs_at e6
        refine ite_take (wanted_yes (b := false) rfl rfl rfl rfl rfl) ?_
        (try simp only [↓reduceIte, Nat.reduceEqDiff])
        go_simp
        refine (iSbs_ok (B := w5.heap.size) p R2 SR C n2 k2 n3 k3 A2 A3 d2 SD _ (hb.below hbl (Nat.le_refl _)) hd2 (hcs.below hbl (Nat.le_refl _)) hd3 (by omega) (both_mk HS2.out HSS.out)).mono ?_
        rw [HW2.out]
        rintro e wc ⟨rfl, hbc⟩
        go_simp
        exact hK _ _ rfl hbc
      · obtain rfl := Option.some.inj ho
        clear ho hi
        have e4 : vs 4 = .bool false := hd 4 (by rfl)
        obtain ⟨vs, rfl⟩ := vs_at e4
        have e7 : vs 7 = .bool true := hd 7 (by rfl)
        obtain ⟨vs, rfl⟩ := vs_at e7
        refine ite_take (wanted_yes (b := false) rfl rfl rfl rfl rfl) ?_
        (try simp only [↓reduceIte, Nat.reduceEqDiff])
        go_simp
        exact hK _ _ rfl (Below.refl _ _)
      · obtain rfl := Option.some.inj ho
        clear ho hi
        have e4 : vs 4 = .bool false := hd 4 (by rfl)
        obtain ⟨vs, rfl⟩ := vs_at e4
        have e8 : vs 8 = .bool false := hd 8 (by rfl)
        obtain ⟨vs, rfl⟩ := vs_at e8
        refine ite_take (by rfl) ?_
        (try simp only [↓reduceIte, Nat.reduceEqDiff])
        go_simp
        exact hK _ _ rfl (Below.refl _ _)
      · obtain rfl := Option.some.inj ho
        clear ho hi
        have e9 : vs 9 = .bool false := hd 9 (by rfl)
        obtain ⟨vs, rfl⟩ := vs_at e9
        refine ite_take (by rfl) ?_
        (try simp only [↓reduceIte, Nat.reduceEqDiff])
        go_simp
        exact hK _ _ rfl (Below.refl _ _)
      · obtain rfl := Option.some.inj ho
        clear ho hi
        have e10 : vs 10 = .bool false := hd 10 (by rfl)
        obtain ⟨vs, rfl⟩ := vs_at e10
        refine ite_take (wanted_yes (b := false) rfl rfl rfl rfl rfl) ?_
        (try simp only [↓reduceIte, Nat.reduceEqDiff])
        obtain ⟨x0, x1, x2, x3⟩ := (hxm.step hbl).four
        go_simp
        exact hK _ _ rfl (Below.refl _ _)
      · obtain rfl := Option.some.inj ho
        clear ho hi
        have e10 : vs 10 = .bool false := hd 10 (by rfl)
        obtain ⟨vs, rfl⟩ := vs_at e10
        refine ite_take (wanted_yes (b := false) rfl rfl rfl rfl rfl) ?_
        (try simp only [↓reduceIte, Nat.reduceEqDiff])
        obtain ⟨x0, x1, x2, x3⟩ := (hxa.step hbl).four
        go_simp
        exact hK _ _ rfl (Below.refl _ _)
      · obtain rfl := Option.some.inj ho
        clear ho hi
        have e10 : vs 10 = .bool false := hd 10 (by rfl)
        obtain ⟨vs, rfl⟩ := vs_at e10
        have e11 : vs 11 = .agg #[.int .i64 p, .int .i64 MR, .int .i64 C, .slice A4 n4 k4] := hd 11 (by rfl)
        obtain ⟨vs, rfl⟩ := vs_at e11
        have e12 : vs 12 = .agg #[.int .i64 p, .int .i64 R1, .int .i64 C, .slice A1 n1 k1] := hd 12 (by rfl)
        obtain ⟨vs, rfl⟩ := vs_at e12
        refine ite_take (wanted_yes (b := false) rfl rfl rfl rfl rfl) ?_
        (try simp only [↓reduceIte, Nat.reduceEqDiff])
        go_simp
        refine (iSbs_ok (B := w5.heap.size) p MR R1 C n4 k4 n1 k1 A4 A1 MD d1 _ (hcm.below hbl (Nat.le_refl _)) hd4 (ha.below hbl (Nat.le_refl _)) hd1 (by omega) (both_mk HMM.out HS1.out)).mono ?_
        rw [HW3.out]
        rintro e wc ⟨rfl, hbc⟩
        go_simp
        exact hK _ _ rfl hbc
      · obtain rfl := Option.some.inj ho
        clear ho hi
        have e10 : vs 10 = .bool false := hd 10 (by rfl)
        obtain ⟨vs, rfl⟩ := vs_at e10
        have e13 : vs 13 = .bool true := hd 13 (by rfl)
        obtain ⟨vs, rfl⟩ := vs_at e13
        refine ite_take (wanted_yes (b := false) rfl rfl rfl rfl rfl) ?_
        (try simp only [↓reduceIte, Nat.reduceEqDiff])
        go_simp
        exact hK _ _ rfl (Below.refl _ _)
      · obtain rfl := Option.some.inj ho
        clear ho hi
        have e10 : vs 10 = .bool false := hd 10 (by rfl)
        obtain ⟨vs, rfl⟩ := vs_at e10
        have e14 : vs 14 = .bool false := hd 14 (by rfl)
        obtain ⟨vs, rfl⟩ := vs_at e14
        refine ite_take (by rfl) ?_
        (try simp only [↓reduceIte, Nat.reduceEqDiff])
        go_simp
        exact hK _ _ rfl (Below.refl _ _)
      · obtain rfl := Option.some.inj ho
        clear ho hi
        have e15 : vs 15 = .bool false := hd 15 (by rfl)
        obtain ⟨vs, rfl⟩ := vs_at e15
        refine ite_take (by rfl) ?_
        (try simp only [↓reduceIte, Nat.reduceEqDiff])
        go_simp
        exact hK _ _ rfl (Below.refl _ _)
      · obtain rfl := Option.some.inj ho
        clear ho hi
        have e16 : vs 16 = .bool false := hd 16 (by rfl)
        obtain ⟨vs, rfl⟩ := vs_at e16
        refine ite_take (wanted_yes (b := false) rfl rfl rfl rfl rfl) ?_
        (try simp only [↓reduceIte, Nat.reduceEqDiff])
        obtain ⟨x0, x1, x2, x3⟩ := (hxm.step hbl).four
        go_simp
        exact hK _ _ rfl (Below.refl _ _)
      · obtain rfl := Option.some.inj ho
        clear ho hi
        have e16 : vs 16 = .bool false := hd 16 (by rfl)
        obtain ⟨vs, rfl⟩ := vs_at e16
        refine ite_take (wanted_yes (b := false) rfl rfl rfl rfl rfl) ?_
        (try simp only [↓reduceIte, Nat.reduceEqDiff])
        obtain ⟨x0, x1, x2, x3⟩ := (hxb.step hbl).four
        go_simp
        exact hK _ _ rfl (Below.refl _ _)
      · obtain rfl := Option.some.inj ho
        clear ho hi
        have e16 : vs 16 = .bool false := hd 16 (by rfl)
        obtain ⟨vs, rfl⟩ := vs_at e16
        have e17 : vs 17 = .agg #[.int .i64 p, .int .i64 MR, .int .i64 C, .slice A4 n4 k4] := hd 17 (by rfl)
        obtain ⟨vs, rfl⟩ := vs_at e17
        have e18 : vs 18 = .agg #[.int .i64 p, .int .i64 R2, .int .i64 C, .slice A2 n2 k2] := hd 18 (by rfl)
        obtain ⟨vs, rfl⟩ := vs_at e18
        refine ite_take (wanted_yes (b := false) rfl rfl rfl rfl rfl) ?_
        (try simp only [↓reduceIte, Nat.reduceEqDiff])
        go_simp
        refine (iSbs_ok (B := w5.heap.size) p MR R2 C n4 k4 n2 k2 A4 A2 MD d2 _ (hcm.below hbl (Nat.le_refl _)) hd4 (hb.below hbl (Nat.le_refl _)) hd2 (by omega) (both_mk HMM.out HS2.out)).mono ?_
        rw [HW4.out]
        rintro e wc ⟨rfl, hbc⟩
        go_simp
        exact hK _ _ rfl hbc
      · obtain rfl := Option.some.inj ho
        clear ho hi
        have e16 : vs 16 = .bool false := hd 16 (by rfl)
        obtain ⟨vs, rfl⟩ := vs_at e16
        have e19 : vs 19 = .bool true := hd 19 (by rfl)
        obtain ⟨vs, rfl⟩ := vs_at e19
        refine ite_take (wanted_yes (b := false) rfl rfl rfl rfl rfl) ?_
        (try simp only [↓reduceIte, Nat.reduceEqDiff])
        go_simp
        exact hK _ _ rfl (Below.refl _ _)
      · obtain rfl := Option.some.inj ho
        clear ho hi
        have e16 : vs 16 = .bool false := hd 16 (by rfl)
        obtain ⟨vs, rfl⟩ := vs_at e16
        have e20 : vs 20 = .bool false := hd 20 (by rfl)
        obtain ⟨vs, rfl⟩ := vs_at e20
        refine ite_take (by rfl) ?_
        (try simp only [↓reduceIte, Nat.reduceEqDiff])
        go_simp
        exact hK _ _ rfl (Below.refl _ _)
      · obtain rfl := Option.some.inj ho
        clear ho hi
        have e21 : vs 21 = .bool false := hd 21 (by rfl)
        obtain ⟨vs, rfl⟩ := vs_at e21
        refine ite_take (by rfl) ?_
        (try simp only [↓reduceIte, Nat.reduceEqDiff])
        go_simp
        exact hK _ _ rfl (Below.refl _ _)
      · obtain rfl := Option.some.inj ho
        clear ho hi
        have e22 : vs 22 = .bool false := hd 22 (by rfl)
        obtain ⟨vs, rfl⟩ := vs_at e22
        refine ite_take (wanted_yes (b := false) rfl rfl rfl rfl rfl) ?_
        (try simp only [↓reduceIte, Nat.reduceEqDiff])
        obtain ⟨x0, x1, x2, x3⟩ := (hxa.step hbl).four
        go_simp
        exact hK _ _ rfl (Below.refl _ _)
      · obtain rfl := Option.some.inj ho
        clear ho hi
        have e22 : vs 22 = .bool false := hd 22 (by rfl)
        obtain ⟨vs, rfl⟩ := vs_at e22
        refine ite_take (wanted_yes (b := false) rfl rfl rfl rfl rfl) ?_
        (try simp only [↓reduceIte, Nat.reduceEqDiff])
        obtain ⟨x0, x1, x2, x3⟩ := (hxb.step hbl).four
        go_simp
        exact hK _ _ rfl (Below.refl _ _)
      · obtain rfl := Option.some.inj ho
        clear ho hi
        have e22 : vs 22 = .bool false := hd 22 (by rfl)
        obtain ⟨vs, rfl⟩ := vs_at e22
        have e23 : vs 23 = .agg #[.int .i64 p, .int .i64 R1, .int .i64 C, .slice A1 n1 k1] := hd 23 (by rfl)
        obtain ⟨vs, rfl⟩ := vs_at e23
        have e24 : vs 24 = .agg #[.int .i64 p, .int .i64 R2, .int .i64 C, .slice A2 n2 k2] := hd 24 (by rfl)
        obtain ⟨vs, rfl⟩ := vs_at e24
        refine ite_take (wanted_yes (b := false) rfl rfl rfl rfl rfl) ?_
        (try simp only [↓reduceIte, Nat.reduceEqDiff])
        go_simp
        refine (iSbs_ok (B := w5.heap.size) p R1 R2 C n1 k1 n2 k2 A1 A2 d1 d2 _ (ha.below hbl (Nat.le_refl _)) hd1 (hb.below hbl (Nat.le_refl _)) hd2 (by omega) (both_mk HS1.out HS2.out)).mono ?_
        rw [HBE.out]
        rintro e wc ⟨rfl, hbc⟩
        go_simp
        exact hK _ _ rfl hbc
      · obtain rfl := Option.some.inj ho
        clear ho hi
        have e22 : vs 22 = .bool false := hd 22 (by rfl)
        obtain ⟨vs, rfl⟩ := vs_at e22
        refine ite_take (wanted_yes (b := false) rfl rfl rfl rfl rfl) ?_
        (try simp only [↓reduceIte, Nat.reduceEqDiff])
        go_simp
        exact hK _ _ rfl (Below.refl _ _)
      · obtain rfl := Option.some.inj ho
        clear ho hi
        have e22 : vs 22 = .bool false := hd 22 (by rfl)
        obtain ⟨vs, rfl⟩ := vs_at e22
        have e26 : vs 26 = .pointer (some ⟨w3.heap.size, 1, none⟩) := hd 26 (by rfl)
        obtain ⟨vs, rfl⟩ := vs_at e26
        refine ite_take (wanted_yes (b := false) rfl rfl rfl rfl rfl) ?_
        (try simp only [↓reduceIte, Nat.reduceEqDiff])
        obtain ⟨x0, x1, x2, x3⟩ := (hxm.step hbl).four
        go_simp
        exact hK _ _ rfl (Below.refl _ _)
      · obtain rfl := Option.some.inj ho
        clear ho hi
        have e22 : vs 22 = .bool false := hd 22 (by rfl)
        obtain ⟨vs, rfl⟩ := vs_at e22
        refine ite_take (wanted_yes (b := false) rfl rfl rfl rfl rfl) ?_
        (try simp only [↓reduceIte, Nat.reduceEqDiff])
        go_simp
        exact hK _ _ rfl (Below.refl _ _)
      · obtain rfl := Option.some.inj ho
        clear ho hi
        have e22 : vs 22 = .bool false := hd 22 (by rfl)
        obtain ⟨vs, rfl⟩ := vs_at e22
        have e28 : vs 28 = .pointer (some ⟨w1.heap.size, 1, none⟩) := hd 28 (by rfl)
        obtain ⟨vs, rfl⟩ := vs_at e28
        refine ite_take (wanted_yes (b := false) rfl rfl rfl rfl rfl) ?_
        (try simp only [↓reduceIte, Nat.reduceEqDiff])
        obtain ⟨x0, x1, x2, x3⟩ := (hxa.step hbl).four
        go_simp
        exact hK _ _ rfl (Below.refl _ _)
      · obtain rfl := Option.some.inj ho
        clear ho hi
        have e22 : vs 22 = .bool false := hd 22 (by rfl)
        obtain ⟨vs, rfl⟩ := vs_at e22
        have e27 : vs 27 = .int .i64 MR := hd 27 (by rfl)
        obtain ⟨vs, rfl⟩ := vs_at e27
        have e29 : vs 29 = .int .i64 R1 := hd 29 (by rfl)
        obtain ⟨vs, rfl⟩ := vs_at e29
        refine ite_take (wanted_yes (b := false) rfl rfl rfl rfl rfl) ?_
        (try simp only [↓reduceIte, Nat.reduceEqDiff])
        go_simp
        exact hK _ _ rfl (Below.refl _ _)
      · obtain rfl := Option.some.inj ho
        clear ho hi
        have e22 : vs 22 = .bool false := hd 22 (by rfl)
        obtain ⟨vs, rfl⟩ := vs_at e22
        have e25 : vs 25 = .bool be := hd 25 (by rfl)
        obtain ⟨vs, rfl⟩ := vs_at e25
        have e30 : vs 30 = .bool be := hd 30 (by rfl)
        obtain ⟨vs, rfl⟩ := vs_at e30
        refine ite_take (wanted_yes (b := false) rfl rfl rfl rfl rfl) ?_
        (try simp only [↓reduceIte, Nat.reduceEqDiff])
        go_simp
        exact hK _ _ rfl (Below.refl _ _)
      · obtain rfl := Option.some.inj ho
        clear ho hi
        have e22 : vs 22 = .bool false := hd 22 (by rfl)
        obtain ⟨vs, rfl⟩ := vs_at e22
        have e31 : vs 31 = .bool false := hd 31 (by rfl)
        obtain ⟨vs, rfl⟩ := vs_at e31
        refine ite_take (by rfl) ?_
        (try simp only [↓reduceIte, Nat.reduceEqDiff])
        go_simp
        exact hK _ _ rfl (Below.refl _ _)
      · exact absurd hi (by omega)
    · intro vs wx hbl hall
      have hsw := hbl.size
      have e32 : vs 32 = .bool false := hall 32 (by decide)
      clear hall
      have hxa := hxa.step hbl
      have hxb := hxb.step hbl
      have hxs := hxs.step hbl
      have hxm := hxm.step hbl
      have ha := (ha.below hbl (Nat.le_refl _)).up (show _ ≤ wx.heap.size by omega)
      have hb := (hb.below hbl (Nat.le_refl _)).up (show _ ≤ wx.heap.size by omega)
      have hv := (hv.below hbl (Nat.le_refl _)).up (show _ ≤ wx.heap.size by omega)
      have hcs := (hcs.below hbl (Nat.le_refl _)).up (show _ ≤ wx.heap.size by omega)
      have hcm := (hcm.below hbl (Nat.le_refl _)).up (show _ ≤ wx.heap.size by omega)
      have hq := hq.trans (hbl.mono (by omega))
      generalize vs 32 = v95 at *
      subst e32
      generalize vs 0 = v63
      generalize vs 1 = v64
      generalize vs 2 = v65
      generalize vs 3 = v66
      generalize vs 4 = v67
      generalize vs 5 = v68
      generalize vs 6 = v69
      generalize vs 7 = v70
      generalize vs 8 = v71
      generalize vs 9 = v72
      generalize vs 10 = v73
      generalize vs 11 = v74
      generalize vs 12 = v75
      generalize vs 13 = v76
      generalize vs 14 = v77
      generalize vs 15 = v78
      generalize vs 16 = v79
      generalize vs 17 = v80
      generalize vs 18 = v81
      generalize vs 19 = v82
      generalize vs 20 = v83
      generalize vs 21 = v84
      generalize vs 22 = v85
      generalize vs 23 = v86
      generalize vs 24 = v87
      generalize vs 25 = v88
      generalize vs 26 = v89
      generalize vs 27 = v90
      generalize vs 28 = v91
      generalize vs 29 = v92
      generalize vs 30 = v93
      generalize vs 31 = v94
      clear hbl
      go_wp2_with fail
      obtain ⟨wz, hwz⟩ : ∃ wz, wz = wx := ⟨_, rfl⟩
      rw [← hwz] at hxa hxb hxs hxm ha hb hv hcs hcm hq hsw ⊢
      clear hwz wx
      clear hMB HBE
      have HSN := Lib.hid (sps_span HSS.out)
      have HZ := Lib.hid (show okZ p SR SR from ⟨HP.out, ⟨by omega, by omega⟩, ⟨by omega, by omega⟩⟩)
      have HOKU := Lib.hid (okM_mk2 HP.out hSR40 hSR40 (unitD_len SR SR) (resB_unitD hp1 SR))
      have HSR2 := Lib.hid (show resB (scD (unitD SR SR) (p - 1) p) p = true from resB_true fun k hk => by rw [scD_get (by rw [scD_len] at hk; exact hk)]; exact ⟨Int.emod_nonneg _ (by omega), Int.emod_lt_of_pos _ (by omega)⟩)
      have HOKS := Lib.hid (okM_mk2 HP.out hSR40 hSR40 (by rw [scD_len, unitD_len]) HSR2.out)
      have HOKP := Lib.hid (okM_mk2 (d := mulD SR SR C (scD (unitD SR SR) (p - 1) p) SD p) HP.out hSR40 hC40 (by rw [mulD, tab_len]) (resB_mulD (by omega)))
      have HPM := Lib.hid (show (p - 1) % p = p - 1 from Int.emod_eq_of_lt (by omega) (by omega))
      have hpw : IntKind.i64.wrap (p - 1) = p - 1 := IntWalk.i64_in _ (by omega)
      refine wp_region_val (fun vs => ⟨#[Value.slice A0 n0 k0, undef, Value.bool false, Value.pointer (some ⟨w1.heap.size, 0, none⟩), Value.pointer (some ⟨w1.heap.size + 1, 0, none⟩), Value.slice Av C kv, Value.pointer (some ⟨w2.heap.size, 0, none⟩), Value.bool true, Value.pointer (some ⟨w3.heap.size, 0, none⟩), Value.bool true, undef, undef, undef, undef, Value.slice A0 n0 k0, Value.bool false, Value.tuple #[Value.agg #[Value.int IntKind.i64 p, Value.int IntKind.i64 ↑R1, Value.int IntKind.i64 ↑C, Value.slice A1 n1 k1], Value.agg #[Value.int IntKind.i64 p, Value.int IntKind.i64 ↑R2, Value.int IntKind.i64 ↑C, Value.slice A2 n2 k2], Value.slice Av C kv], Value.slice A0 n0 k0, Value.tuple #[Value.agg #[Value.int IntKind.i64 p, Value.int IntKind.i64 ↑R1, Value.int IntKind.i64 ↑C, Value.slice A1 n1 k1], Value.agg #[Value.int IntKind.i64 p, Value.int IntKind.i64 ↑R2, Value.int IntKind.i64 ↑C, Value.slice A2 n2 k2], Value.slice Av C kv], Value.agg #[Value.int IntKind.i64 p, Value.int IntKind.i64 ↑R1, Value.int IntKind.i64 ↑C, Value.slice A1 n1 k1], Value.agg #[Value.int IntKind.i64 p, Value.int IntKind.i64 ↑R2, Value.int IntKind.i64 ↑C, Value.slice A2 n2 k2], Value.slice Av C kv, Value.tuple #[Value.agg #[Value.int IntKind.i64 p, Value.int IntKind.i64 ↑SR, Value.int IntKind.i64 ↑C, Value.slice A3 n3 k3], Value.bool true], Value.agg #[Value.int IntKind.i64 p, Value.int IntKind.i64 ↑R1, Value.int IntKind.i64 ↑C, Value.slice A1 n1 k1], Value.agg #[Value.int IntKind.i64 p, Value.int IntKind.i64 ↑R2, Value.int IntKind.i64 ↑C, Value.slice A2 n2 k2], Value.tuple #[Value.agg #[Value.int IntKind.i64 p, Value.int IntKind.i64 ↑SR, Value.int IntKind.i64 ↑C, Value.slice A3 n3 k3], Value.bool true], Value.agg #[Value.int IntKind.i64 p, Value.int IntKind.i64 ↑SR, Value.int IntKind.i64 ↑C, Value.slice A3 n3 k3], Value.bool true, Value.tuple #[Value.agg #[Value.int IntKind.i64 p, Value.int IntKind.i64 ↑MR, Value.int IntKind.i64 ↑C, Value.slice A4 n4 k4], Value.bool true], Value.agg #[Value.int IntKind.i64 p, Value.int IntKind.i64 ↑R1, Value.int IntKind.i64 ↑C, Value.slice A1 n1 k1], Value.agg #[Value.int IntKind.i64 p, Value.int IntKind.i64 ↑R2, Value.int IntKind.i64 ↑C, Value.slice A2 n2 k2], Value.tuple #[Value.agg #[Value.int IntKind.i64 p, Value.int IntKind.i64 ↑MR, Value.int IntKind.i64 ↑C, Value.slice A4 n4 k4], Value.bool true], Value.agg #[Value.int IntKind.i64 p, Value.int IntKind.i64 ↑MR, Value.int IntKind.i64 ↑C, Value.slice A4 n4 k4], Value.bool true, Value.bool true, Value.bool false, Value.bool false, Value.bool true, Value.bool false, Value.bool false, Value.bool false, Value.agg #[Value.int IntKind.i64 p, Value.int IntKind.i64 ↑SR, Value.int IntKind.i64 ↑C, Value.slice A3 n3 k3], Value.bool true, Value.bool false, Value.bool false, Value.bool false, Value.agg #[Value.int IntKind.i64 p, Value.int IntKind.i64 ↑MR, Value.int IntKind.i64 ↑C, Value.slice A4 n4 k4], Value.bool true, Value.bool false, Value.bool false, Value.bool false, Value.pointer (some ⟨w2.heap.size, 1, none⟩), Value.int IntKind.i64 ↑SR, Value.pointer (some ⟨w3.heap.size, 1, none⟩), Value.int IntKind.i64 ↑MR, Value.int IntKind.i64 (↑R1 + ↑R2), Value.pointer (some ⟨w1.heap.size, 1, none⟩), Value.int IntKind.i64 ↑R1, Value.pointer (some ⟨w1.heap.size + 1, 1, none⟩), Value.int IntKind.i64 ↑R2, Value.int IntKind.i64 (↑R1 + ↑R2), Value.bool false, Value.bool false, v63, v64, v65, v66, v67, v68, v69, v70, v71, v72, v73, v74, v75, v76, v77, v78, v79, v80, v81, v82, v83, v84, v85, v86, v87, v88, v89, v90, v91, v92, v93, v94, .bool false, vs 0, vs 1, vs 2, vs 3, vs 4, vs 5, vs 6, vs 7, vs 8, vs 9, vs 10, vs 11, vs 12, vs 13, vs 14, vs 15, vs 16, vs 17, vs 18, vs 19, vs 20, vs 21, undef, undef, undef, undef, undef, undef, undef, undef, undef, undef, undef, undef, undef, undef, undef, undef, undef, undef, undef, undef, undef, undef, undef, undef, undef, undef, undef, undef, undef, undef, undef, undef, undef, undef, undef], []⟩) (fun k => ([.eq (.agg #[.int .i64 p, .int .i64 SR, .int .i64 C, .slice A3 n3 k3]), .mat p SR C SD, .eq (.agg #[.int .i64 p, .int .i64 SR, .int .i64 C, .slice A3 n3 k3]), .eq (.bool true), .eq (.bool false), .eq (.bool false), .eq (.pointer (some ⟨w2.heap.size, 0, none⟩)), .eq (.int .i64 p), .eq (.pointer (some ⟨w2.heap.size, 1, none⟩)), .eq (.int .i64 SR), .mat p SR SR (unitD SR SR), .eq (.pointer (some ⟨w2.heap.size, 0, none⟩)), .eq (.int .i64 p), .eq (.int .i64 (p - 1)), .mat p SR SR (scD (unitD SR SR) (p - 1) p), .eq (.agg #[.int .i64 p, .int .i64 SR, .int .i64 C, .slice A3 n3 k3]), .mat p SR C (mulD SR SR C (scD (unitD SR SR) (p - 1) p) SD p), .mat p SR C SD, .eq (.agg #[.int .i64 p, .int .i64 SR, .int .i64 C, .slice A3 n3 k3]), .eq (.bool true), .eq (.bool false), .eq (.bool false)] : List VS).getD k .any) (fun k => undef) (wz.heap.size) wz (by rfl) (by rfl) (Below.refl _ _) (by kernel_rfl) ?_ ?_ (Nat.le_refl _)
      · rintro i oi vs wx ho hbl hd K hK
        have hi : i < 22 := by
          rcases Nat.lt_or_ge i 22 with h | h
          · exact h
          · rw [Array.getElem?_eq_none (by simpa using h)] at ho; cases ho
        have hsw := hbl.size
        rcases i with _ | _ | _ | _ | _ | _ | _ | _ | _ | _ | _ | _ | _ | _ | _ | _ | _ | _ | _ | _ | _ | _ | i''
        · obtain rfl := Option.some.inj ho
          clear ho hi
          refine ite_take (by rfl) ?_
          obtain ⟨x0, x1, x2, x3⟩ := (hxs.step hbl).four
          go_simp
          exact hK _ _ rfl (Below.refl _ _)
        · obtain rfl := Option.some.inj ho
          clear ho hi
          have e0 : vs 0 = .agg #[.int .i64 p, .int .i64 SR, .int .i64 C, .slice A3 n3 k3] := hd 0 (by rfl)
          obtain ⟨vs, rfl⟩ := vs_at e0
          refine ite_take (by rfl) ?_
          (try simp only [↓reduceIte, Nat.reduceEqDiff])
          go_simp
          refine (iSpan_ok (B := wz.heap.size) p SR C n3 k3 A3 SD _ (hcs.below hbl (Nat.le_refl _)) hd3 (by omega) (spB_ok1 HSS.out)).mono ?_
          rw [HSN.out.1.1, HSN.out.1.2]
          rintro e wc ⟨Ac, nc, kc, rfl, hdc, hbc, hoc⟩
          go_simp
          exact hK _ _ ⟨Ac, nc, kc, rfl, hdc, hoc.rd⟩ hbc
        · obtain rfl := Option.some.inj ho
          clear ho hi
          refine ite_take (by rfl) ?_
          obtain ⟨x0, x1, x2, x3⟩ := (hxs.step hbl).four
          go_simp
          exact hK _ _ rfl (Below.refl _ _)
        · obtain rfl := Option.some.inj ho
          clear ho hi
          obtain ⟨Av1, nv1, kv1, e1, hdv1, hrv1⟩ := hd 1 (by rfl)
          obtain ⟨vs, rfl⟩ := vs_at e1
          have e2 : vs 2 = .agg #[.int .i64 p, .int .i64 SR, .int .i64 C, .slice A3 n3 k3] := hd 2 (by rfl)
          obtain ⟨vs, rfl⟩ := vs_at e2
          refine ite_take (by rfl) ?_
          (try simp only [↓reduceIte, Nat.reduceEqDiff])
          go_simp
          refine (lequal_any p SR C _ _ _ _ p SR C _ _ _ _ _ (B1 := wx.heap.size) (B2 := wz.heap.size) hrv1 (Nat.le_refl _) (hcs.below hbl (Nat.le_refl _)) (by omega)).mono ?_
          rintro e wc ⟨rfl, hbc⟩
          rw [show (p == p && (SR : Int) == (SR : Int) && (C : Int) == (C : Int) && SD == SD) = true by simp]
          go_simp
          exact hK _ _ rfl hbc
        · obtain rfl := Option.some.inj ho
          clear ho hi
          have e3 : vs 3 = .bool true := hd 3 (by rfl)
          obtain ⟨vs, rfl⟩ := vs_at e3
          refine ite_take (by rfl) ?_
          (try simp only [↓reduceIte, Nat.reduceEqDiff])
          go_simp
          exact hK _ _ rfl (Below.refl _ _)
        · obtain rfl := Option.some.inj ho
          clear ho hi
          have e4 : vs 4 = .bool false := hd 4 (by rfl)
          obtain ⟨vs, rfl⟩ := vs_at e4
          refine ite_take (by rfl) ?_
          (try simp only [↓reduceIte, Nat.reduceEqDiff])
          go_simp
          exact hK _ _ rfl (Below.refl _ _)
        · obtain rfl := Option.some.inj ho
          clear ho hi
          have e5 : vs 5 = .bool false := hd 5 (by rfl)
          obtain ⟨vs, rfl⟩ := vs_at e5
          refine ite_take (wanted_yes (b := false) rfl rfl rfl rfl rfl) ?_
          (try simp only [↓reduceIte, Nat.reduceEqDiff])
          go_simp
          exact hK _ _ rfl (Below.refl _ _)
        · obtain rfl := Option.some.inj ho
          clear ho hi
          have e5 : vs 5 = .bool false := hd 5 (by rfl)
          obtain ⟨vs, rfl⟩ := vs_at e5
          have e6 : vs 6 = .pointer (some ⟨w2.heap.size, 0, none⟩) := hd 6 (by rfl)
          obtain ⟨vs, rfl⟩ := vs_at e6
          refine ite_take (wanted_yes (b := false) rfl rfl rfl rfl rfl) ?_
          (try simp only [↓reduceIte, Nat.reduceEqDiff])
          obtain ⟨x0, x1, x2, x3⟩ := (hxs.step hbl).four
          go_simp
          exact hK _ _ rfl (Below.refl _ _)
        · obtain rfl := Option.some.inj ho
          clear ho hi
          have e5 : vs 5 = .bool false := hd 5 (by rfl)
          obtain ⟨vs, rfl⟩ := vs_at e5
          refine ite_take (wanted_yes (b := false) rfl rfl rfl rfl rfl) ?_
          (try simp only [↓reduceIte, Nat.reduceEqDiff])
          go_simp
          exact hK _ _ rfl (Below.refl _ _)
        · obtain rfl := Option.some.inj ho
          clear ho hi
          have e5 : vs 5 = .bool false := hd 5 (by rfl)
          obtain ⟨vs, rfl⟩ := vs_at e5
          have e8 : vs 8 = .pointer (some ⟨w2.heap.size, 1, none⟩) := hd 8 (by rfl)
          obtain ⟨vs, rfl⟩ := vs_at e8
          refine ite_take (wanted_yes (b := false) rfl rfl rfl rfl rfl) ?_
          (try simp only [↓reduceIte, Nat.reduceEqDiff])
          obtain ⟨x0, x1, x2, x3⟩ := (hxs.step hbl).four
          go_simp
          exact hK _ _ rfl (Below.refl _ _)
        · obtain rfl := Option.some.inj ho
          clear ho hi
          have e5 : vs 5 = .bool false := hd 5 (by rfl)
          obtain ⟨vs, rfl⟩ := vs_at e5
          have e7 : vs 7 = .int .i64 p := hd 7 (by rfl)
          obtain ⟨vs, rfl⟩ := vs_at e7
          have e9 : vs 9 = .int .i64 SR := hd 9 (by rfl)
          obtain ⟨vs, rfl⟩ := vs_at e9
          refine ite_take (wanted_yes (b := false) rfl rfl rfl rfl rfl) ?_
          (try simp only [↓reduceIte, Nat.reduceEqDiff])
          go_simp
          refine (sUnit_ok p SR _ HZ.out).mono ?_
          rintro e wc ⟨Ac, nc, kc, rfl, hdc, hbc, hoc⟩
          go_simp
          exact hK _ _ ⟨Ac, nc, kc, rfl, hdc, hoc.rd⟩ hbc
        · obtain rfl := Option.some.inj ho
          clear ho hi
          have e5 : vs 5 = .bool false := hd 5 (by rfl)
          obtain ⟨vs, rfl⟩ := vs_at e5
          refine ite_take (wanted_yes (b := false) rfl rfl rfl rfl rfl) ?_
          (try simp only [↓reduceIte, Nat.reduceEqDiff])
          go_simp
          exact hK _ _ rfl (Below.refl _ _)
        · obtain rfl := Option.some.inj ho
          clear ho hi
          have e5 : vs 5 = .bool false := hd 5 (by rfl)
          obtain ⟨vs, rfl⟩ := vs_at e5
          have e11 : vs 11 = .pointer (some ⟨w2.heap.size, 0, none⟩) := hd 11 (by rfl)
          obtain ⟨vs, rfl⟩ := vs_at e11
          refine ite_take (wanted_yes (b := false) rfl rfl rfl rfl rfl) ?_
          (try simp only [↓reduceIte, Nat.reduceEqDiff])
          obtain ⟨x0, x1, x2, x3⟩ := (hxs.step hbl).four
          go_simp
          exact hK _ _ rfl (Below.refl _ _)
        · obtain rfl := Option.some.inj ho
          clear ho hi
          have e5 : vs 5 = .bool false := hd 5 (by rfl)
          obtain ⟨vs, rfl⟩ := vs_at e5
          have e12 : vs 12 = .int .i64 p := hd 12 (by rfl)
          obtain ⟨vs, rfl⟩ := vs_at e12
          refine ite_take (wanted_yes (b := false) rfl rfl rfl rfl rfl) ?_
          (try simp only [↓reduceIte, Nat.reduceEqDiff])
          go_simp
          exact hK _ _ rfl (Below.refl _ _)
        · obtain rfl := Option.some.inj ho
          clear ho hi
          have e5 : vs 5 = .bool false := hd 5 (by rfl)
          obtain ⟨vs, rfl⟩ := vs_at e5
          obtain ⟨Av10, nv10, kv10, e10, hdv10, hrv10⟩ := hd 10 (by rfl)
          obtain ⟨vs, rfl⟩ := vs_at e10
          have e13 : vs 13 = .int .i64 (p - 1) := hd 13 (by rfl)
          obtain ⟨vs, rfl⟩ := vs_at e13
          refine ite_take (wanted_yes (b := false) rfl rfl rfl rfl rfl) ?_
          (try simp only [↓reduceIte, Nat.reduceEqDiff])
          go_simp
          refine (scale_ok (B := wx.heap.size) p SR SR _ _ (p - 1) _ (unitD SR SR) _ hrv10 hdv10 (Nat.le_refl _) HOKU.out).mono ?_
          rw [HPM.out]
          rintro e wc ⟨Ac, nc, kc, rfl, hdc, hbc, hoc⟩
          go_simp
          exact hK _ _ ⟨Ac, nc, kc, rfl, hdc, hoc.rd⟩ hbc
        · obtain rfl := Option.some.inj ho
          clear ho hi
          have e5 : vs 5 = .bool false := hd 5 (by rfl)
          obtain ⟨vs, rfl⟩ := vs_at e5
          refine ite_take (wanted_yes (b := false) rfl rfl rfl rfl rfl) ?_
          (try simp only [↓reduceIte, Nat.reduceEqDiff])
          obtain ⟨x0, x1, x2, x3⟩ := (hxs.step hbl).four
          go_simp
          exact hK _ _ rfl (Below.refl _ _)
        · obtain rfl := Option.some.inj ho
          clear ho hi
          have e5 : vs 5 = .bool false := hd 5 (by rfl)
          obtain ⟨vs, rfl⟩ := vs_at e5
          obtain ⟨Av14, nv14, kv14, e14, hdv14, hrv14⟩ := hd 14 (by rfl)
          obtain ⟨vs, rfl⟩ := vs_at e14
          have e15 : vs 15 = .agg #[.int .i64 p, .int .i64 SR, .int .i64 C, .slice A3 n3 k3] := hd 15 (by rfl)
          obtain ⟨vs, rfl⟩ := vs_at e15
          refine ite_take (wanted_yes (b := false) rfl rfl rfl rfl rfl) ?_
          (try simp only [↓reduceIte, Nat.reduceEqDiff])
          go_simp
          refine (ltimes_ok p SR SR C _ _ n3 k3 _ A3 _ SD _ (B := wx.heap.size) hrv14 ((hcs.below hbl (Nat.le_refl _)).up (by omega)) hd3 (Nat.le_refl _) HOKS.out (spB_ok1 HSS.out)).mono ?_
          rintro e wc ⟨Ac, nc, kc, rfl, hdc, hbc, hoc⟩
          go_simp
          exact hK _ _ ⟨Ac, nc, kc, rfl, hdc, hoc.rd⟩ hbc
        · obtain rfl := Option.some.inj ho
          clear ho hi
          have e5 : vs 5 = .bool false := hd 5 (by rfl)
          obtain ⟨vs, rfl⟩ := vs_at e5
          obtain ⟨Av16, nv16, kv16, e16, hdv16, hrv16⟩ := hd 16 (by rfl)
          obtain ⟨vs, rfl⟩ := vs_at e16
          refine ite_take (wanted_yes (b := false) rfl rfl rfl rfl rfl) ?_
          (try simp only [↓reduceIte, Nat.reduceEqDiff])
          go_simp
          refine (iSpan_ok (B := wx.heap.size) p SR C _ _ _ (mulD SR SR C (scD (unitD SR SR) (p - 1) p) SD p) _ hrv16 hdv16 (Nat.le_refl _) HOKP.out).mono ?_
          rw [HSN.out.2.1, HSN.out.2.2]
          rintro e wc ⟨Ac, nc, kc, rfl, hdc, hbc, hoc⟩
          go_simp
          exact hK _ _ ⟨Ac, nc, kc, rfl, hdc, hoc.rd⟩ hbc
        · obtain rfl := Option.some.inj ho
          clear ho hi
          have e5 : vs 5 = .bool false := hd 5 (by rfl)
          obtain ⟨vs, rfl⟩ := vs_at e5
          refine ite_take (wanted_yes (b := false) rfl rfl rfl rfl rfl) ?_
          (try simp only [↓reduceIte, Nat.reduceEqDiff])
          obtain ⟨x0, x1, x2, x3⟩ := (hxs.step hbl).four
          go_simp
          exact hK _ _ rfl (Below.refl _ _)
        · obtain rfl := Option.some.inj ho
          clear ho hi
          have e5 : vs 5 = .bool false := hd 5 (by rfl)
          obtain ⟨vs, rfl⟩ := vs_at e5
          obtain ⟨Av17, nv17, kv17, e17, hdv17, hrv17⟩ := hd 17 (by rfl)
          obtain ⟨vs, rfl⟩ := vs_at e17
          have e18 : vs 18 = .agg #[.int .i64 p, .int .i64 SR, .int .i64 C, .slice A3 n3 k3] := hd 18 (by rfl)
          obtain ⟨vs, rfl⟩ := vs_at e18
          refine ite_take (wanted_yes (b := false) rfl rfl rfl rfl rfl) ?_
          (try simp only [↓reduceIte, Nat.reduceEqDiff])
          go_simp
          refine (lequal_any p SR C _ _ _ _ p SR C _ _ _ _ _ (B1 := wx.heap.size) (B2 := wz.heap.size) hrv17 (Nat.le_refl _) (hcs.below hbl (Nat.le_refl _)) (by omega)).mono ?_
          rintro e wc ⟨rfl, hbc⟩
          rw [show (p == p && (SR : Int) == (SR : Int) && (C : Int) == (C : Int) && SD == SD) = true by simp]
          go_simp
          exact hK _ _ rfl hbc
        · obtain rfl := Option.some.inj ho
          clear ho hi
          have e5 : vs 5 = .bool false := hd 5 (by rfl)
          obtain ⟨vs, rfl⟩ := vs_at e5
          have e19 : vs 19 = .bool true := hd 19 (by rfl)
          obtain ⟨vs, rfl⟩ := vs_at e19
          refine ite_take (wanted_yes (b := false) rfl rfl rfl rfl rfl) ?_
          (try simp only [↓reduceIte, Nat.reduceEqDiff])
          go_simp
          exact hK _ _ rfl (Below.refl _ _)
        · obtain rfl := Option.some.inj ho
          clear ho hi
          have e5 : vs 5 = .bool false := hd 5 (by rfl)
          obtain ⟨vs, rfl⟩ := vs_at e5
          have e20 : vs 20 = .bool false := hd 20 (by rfl)
          obtain ⟨vs, rfl⟩ := vs_at e20
          refine ite_take (by rfl) ?_
          (try simp only [↓reduceIte, Nat.reduceEqDiff])
          go_simp
          exact hK _ _ rfl (Below.refl _ _)
        · exact absurd hi (by omega)
      · intro vs wx hbl hall
        have hsw := hbl.size
        have e21 : vs 21 = .bool false := hall 21 (by decide)
        clear hall
        have hxa := hxa.step hbl
        have hxb := hxb.step hbl
        have hxs := hxs.step hbl
        have hxm := hxm.step hbl
        have ha := (ha.below hbl (Nat.le_refl _)).up (show _ ≤ wx.heap.size by omega)
        have hb := (hb.below hbl (Nat.le_refl _)).up (show _ ≤ wx.heap.size by omega)
        have hv := (hv.below hbl (Nat.le_refl _)).up (show _ ≤ wx.heap.size by omega)
        have hcs := (hcs.below hbl (Nat.le_refl _)).up (show _ ≤ wx.heap.size by omega)
        have hcm := (hcm.below hbl (Nat.le_refl _)).up (show _ ≤ wx.heap.size by omega)
        have hq := hq.trans (hbl.mono (by omega))
        generalize vs 21 = v117 at *
        subst e21
        generalize vs 0 = v96
        generalize vs 1 = v97
        generalize vs 2 = v98
        generalize vs 3 = v99
        generalize vs 4 = v100
        generalize vs 5 = v101
        generalize vs 6 = v102
        generalize vs 7 = v103
        generalize vs 8 = v104
        generalize vs 9 = v105
        generalize vs 10 = v106
        generalize vs 11 = v107
        generalize vs 12 = v108
        generalize vs 13 = v109
        generalize vs 14 = v110
        generalize vs 15 = v111
        generalize vs 16 = v112
        generalize vs 17 = v113
        generalize vs 18 = v114
        generalize vs 19 = v115
        generalize vs 20 = v116
        clear hbl hpw
        have HCO := Lib.hid (sps_coord HS1.out HSS.out HW1.out (hv.1) HVR.out)
        obtain ⟨i1, hi1⟩ : ∃ b, inB R1 C p d1 v = b := ⟨_, rfl⟩
        obtain ⟨i2, hi2⟩ : ∃ b, inB SR C p SD v = b := ⟨_, rfl⟩
        have HI1 := Lib.hid hi1
        have HI2 := Lib.hid hi2
        clear hi1 hi2
        have HL1 := Lib.hid (show n1 = R1 * C by obtain ⟨-, -, -, h, -⟩ := space_ok HS1.out; rw [← h]; exact ha.1.symm)
        have HL3 := Lib.hid (show n3 = SR * C by obtain ⟨-, -, -, h, -⟩ := space_ok HSS.out; rw [← h]; exact hcs.1.symm)
        have HRD1 := Lib.hid (show resB d1 p = true by obtain ⟨-, -, -, -, h, -⟩ := space_ok HS1.out; exact h)
        have HRD3 := Lib.hid (show resB SD p = true by obtain ⟨-, -, -, -, h, -⟩ := space_ok HSS.out; exact h)
        obtain ⟨x0, x1, x2, x3⟩ := hxa.four
        go_wp2_with fail
        refine (iCoo_ok (B := wx.heap.size) (Bv := wx.heap.size) p R1 C n1 k1 A1 d1 Av kv v wx ha hd1 (Nat.le_refl _) hv hdv (Nat.le_refl _) HS1.out HVR.out).mono ?_
        rw [HI1.out]
        rintro e w6 ⟨A6, n6, k6, rfl, hd6, hb6, ho6⟩
        have hz6 := hb6.size
        have hxa := hxa.step hb6
        have hxs := hxs.step hb6
        have ha := (ha.below hb6 (Nat.le_refl _)).up hz6
        have hv := (hv.below hb6 (Nat.le_refl _)).up hz6
        have hcs := (hcs.below hb6 (Nat.le_refl _)).up hz6
        have hq := hq.trans (hb6.mono (by omega))
        have hr6 := ho6.rd
        clear x0 x1 x2 x3 hb6 ho6
        obtain ⟨s0, s1, s2, s3⟩ := hxs.four
        go_wp2_with fail
        refine (iCoo_ok (B := w6.heap.size) (Bv := w6.heap.size) p SR C n3 k3 A3 SD Av kv v w6 hcs hd3 (Nat.le_refl _) hv hdv (Nat.le_refl _) HSS.out HVR.out).mono ?_
        rw [HI2.out]
        rintro e w7 ⟨A7, n7, k7, rfl, hd7, hb7, ho7⟩
        have hz7 := hb7.size
        have hxa := hxa.step hb7
        have hxs := hxs.step hb7
        have ha := (ha.below hb7 (Nat.le_refl _)).up hz7
        have hv := (hv.below hb7 (Nat.le_refl _)).up hz7
        have hcs := (hcs.below hb7 (Nat.le_refl _)).up hz7
        have hq := hq.trans (hb7.mono (by omega))
        have hr6 := (hr6.below hb7 (Nat.le_refl _)).up hz7
        have hr7 := ho7.rd
        clear s0 s1 s2 s3 hb7 ho7
        have hvv : (v == v) = true := by simp
        rcases i2 with _ | _
        · have h1 : i1 = false := by
            rcases i1 with _ | _
            · rfl
            · have := (HCO.out.1 HI1.out).2; rw [HI2.out] at this; cases this
          subst h1
          go_wp2
          go_ret
          exact ⟨rfl, hq⟩
        · have HU2 := Lib.hid (HCO.out.2 HI2.out)
          obtain rfl : n7 = SR := by rw [← hr7.1]; unfold coL; rw [if_pos HI2.out, coX_len]
          have HX7 := Lib.hid (show resB (coL n7 C p SD v) p = true by unfold coL; rw [if_pos HI2.out]; exact resB_true fun k hk => by rw [gI_lt hk]; simp only [coX, List.getElem_map]; exact gI_res (by omega) HVR.out _)
          rcases i1 with _ | _
          · obtain ⟨s0, s1, s2, s3⟩ := hxs.four
            go_wp2_with fail
            refine (lunder_any (B := w7.heap.size) (Bv := w7.heap.size) p n7 C n3 k3 A3 SD A7 k7 (coL n7 C p SD v) w7 hcs (by omega) hr7 (by omega) HL3.out (by omega) (by omega) (by omega) hp2 HRD3.out HX7.out).mono ?_
            rw [HU2.out]
            rintro e w9 ⟨A9, n9, k9, rfl, hd9, hb9, ho9⟩
            have hz9 := hb9.size
            have hxa := hxa.step hb9
            have hxs := hxs.step hb9
            have ha := (ha.below hb9 (by omega)).up (show _ ≤ w9.heap.size by omega)
            have hv := (hv.below hb9 (by omega)).up (show _ ≤ w9.heap.size by omega)
            have hcs := (hcs.below hb9 (by omega)).up (show _ ≤ w9.heap.size by omega)
            have hr6 := (hr6.below hb9 (by omega)).up (show _ ≤ w9.heap.size by omega)
            have hr7 := (hr7.below hb9 (by omega)).up (show _ ≤ w9.heap.size by omega)
            have hq := hq.trans (hb9.mono (by omega))
            go_wp2_with fail
            refine (lints_any (B1 := w9.heap.size) (B2 := w9.heap.size) A9 Av n9 k9 C kv v v w9 ho9.rd hv).mono ?_
            rw [hvv]
            rintro e w' ⟨rfl, q, rfl⟩
            go_wp2
            go_ret
            exact ⟨rfl, below_drewN hq _⟩
          · have HU1 := Lib.hid ((HCO.out.1 HI1.out).1)
            obtain rfl : n6 = R1 := by rw [← hr6.1]; unfold coL; rw [if_pos HI1.out, coX_len]
            have HX6 := Lib.hid (show resB (coL n6 C p d1 v) p = true by unfold coL; rw [if_pos HI1.out]; exact resB_true fun k hk => by rw [gI_lt hk]; simp only [coX, List.getElem_map]; exact gI_res (by omega) HVR.out _)
            obtain ⟨x0, x1, x2, x3⟩ := hxa.four
            go_wp2_with fail
            refine (lunder_any (B := w7.heap.size) (Bv := w7.heap.size) p n6 C n1 k1 A1 d1 A6 k6 (coL n6 C p d1 v) w7 ha (by omega) hr6 (by omega) HL1.out (by omega) (by omega) (by omega) hp2 HRD1.out HX6.out).mono ?_
            rw [HU1.out]
            rintro e w9 ⟨A9, n9, k9, rfl, hd9, hb9, ho9⟩
            have hz9 := hb9.size
            have hxa := hxa.step hb9
            have hxs := hxs.step hb9
            have ha := (ha.below hb9 (by omega)).up (show _ ≤ w9.heap.size by omega)
            have hv := (hv.below hb9 (by omega)).up (show _ ≤ w9.heap.size by omega)
            have hcs := (hcs.below hb9 (by omega)).up (show _ ≤ w9.heap.size by omega)
            have hr6 := (hr6.below hb9 (by omega)).up (show _ ≤ w9.heap.size by omega)
            have hr7 := (hr7.below hb9 (by omega)).up (show _ ≤ w9.heap.size by omega)
            have hq := hq.trans (hb9.mono (by omega))
            go_wp2_with fail
            refine (lints_any (B1 := w9.heap.size) (B2 := w9.heap.size) A9 Av n9 k9 C kv v v w9 ho9.rd hv).mono ?_
            rw [hvv]
            rintro e w' ⟨rfl, q, rfl⟩
            clear x0 x1 x2 x3
            obtain ⟨s0, s1, s2, s3⟩ := hxs.four
            have s0' : (w9.drewN q).cell? ⟨w2.heap.size, 0, none⟩ = some (.int .i64 p) := s0
            have s1' : (w9.drewN q).cell? ⟨w2.heap.size, 1, none⟩ = some (.int .i64 n7) := s1
            have s2' : (w9.drewN q).cell? ⟨w2.heap.size, 2, none⟩ = some (.int .i64 C) := s2
            have s3' : (w9.drewN q).cell? ⟨w2.heap.size, 3, none⟩ = some (.slice A3 n3 k3) := s3
            have hcs : RdI (w9.drewN q) (w9.drewN q).heap.size A3 n3 SD := hcs
            have hr7 : RdI (w9.drewN q) (w9.drewN q).heap.size A7 n7 (coL n7 C p SD v) := hr7
            have hv : RdI (w9.drewN q) (w9.drewN q).heap.size Av C v := hv
            have hzy : w9.heap.size ≤ (w9.drewN q).heap.size := Nat.le_refl _
            have hxs : Box (w9.drewN q) w2.heap.size _ := hxs
            have hxa : Box (w9.drewN q) w1.heap.size _ := hxa
            have ha : RdI (w9.drewN q) (w9.drewN q).heap.size A1 n1 d1 := ha
            have hr6 : RdI (w9.drewN q) (w9.drewN q).heap.size A6 n6 (coL n6 C p d1 v) := hr6
            have hq := below_drewN hq q
            clear s0 s1 s2 s3
            go_wp2_with fail
            generalize w9.drewN q = wy at *
            refine (lunder_any (B := wy.heap.size) (Bv := wy.heap.size) p n7 C n3 k3 A3 SD A7 k7 (coL n7 C p SD v) wy hcs (by omega) hr7 (by omega) HL3.out (by omega) (by omega) (by omega) hp2 HRD3.out HX7.out).mono ?_
            rw [HU2.out]
            rintro e w9 ⟨A9, n9, k9, rfl, hd9, hb9, ho9⟩
            have hz9 := hb9.size
            have hxa := hxa.step hb9
            have hxs := hxs.step hb9
            have ha := (ha.below hb9 (by omega)).up (show _ ≤ w9.heap.size by omega)
            have hv := (hv.below hb9 (by omega)).up (show _ ≤ w9.heap.size by omega)
            have hcs := (hcs.below hb9 (by omega)).up (show _ ≤ w9.heap.size by omega)
            have hr6 := (hr6.below hb9 (by omega)).up (show _ ≤ w9.heap.size by omega)
            have hr7 := (hr7.below hb9 (by omega)).up (show _ ≤ w9.heap.size by omega)
            have hq := hq.trans (hb9.mono (by omega))
            go_wp2_with fail
            refine (lints_any (B1 := w9.heap.size) (B2 := w9.heap.size) A9 Av n9 k9 C kv v v w9 ho9.rd hv).mono ?_
            rw [hvv]
            rintro e w' ⟨rfl, q, rfl⟩
            go_wp2
            go_ret
            exact ⟨rfl, below_drewN hq _⟩
end Go.Proofs.Ytfiganobjjjloaa
