/- The walk of the law on determinants. No condition. -/
import Derived.Test.YtfiganobjjjloaaDthW
import Derived.Test.YtfiganobjjjloaaDtf
import Derived.Test.YtfiganobjjjloaaDetW
import Derived.Test.YtfiganobjjjloaaTopW
import Derived.Test.YtfiganobjjjloaaInmW
import Derived.Test.YtfiganobjjjloaaRin
import Derived.Deep.RegionHeld3
import Derived.Deep.DeepCutAuto
namespace Go.Proofs.Ytfiganobjjjloaa
set_option linter.unusedVariables false
set_option linter.unusedSimpArgs false
set_option maxRecDepth 20000
open Go.RowKit Go.Sort
set_option maxHeartbeats 8000000
theorem run_fld1 (x y z : Int) (A : Option Addr) (n k : Nat) (w : World) : (Instr.field 26 (.agg #[.int .i64 x, .int .i64 y, .int .i64 z, .slice A n k]) 1).run Try.prog w = .ok (.int .i64 y) w := by kernel_rfl
set_option maxRecDepth 100000 in
theorem walk_FnDeterminants {w : World} (A0 : Option Addr) (n0 k0 : Nat) (z0 : List Int) (y0 : IsRow .u8 w A0 n0 k0 z0) :
    Calls Try.prog 6 #[.slice A0 n0 k0] w fun e w' => e = .returned (.bool true) ∧ Below w.heap.size w w' := by
  have hr := RdB.ofRow y0
  have hnm := hr.1
  unfold maxLen at hnm
  by_cases hbig : 1048576 < n0
  · go_enter Try.func6, Try.ntmps6
    go_wp2_with (go_at_call 19; refine (big_any _ (by omega)).mono ?_; rintro e w' ⟨rfl, rfl⟩)
    go_ret
    exact ⟨rfl, Below.refl _ _⟩
  · go_enter Try.func6, Try.ntmps6
    go_wp2_with (go_at_call 19; refine (big_any _ (by omega)).mono ?_; rintro e w' ⟨rfl, rfl⟩)
    refine (drawThree_any A0 n0 k0 w hr (Nat.le_refl _)).mono ?_
    rintro e w1 ⟨p, N, da, db, A1, A2, n1, k1, n2, k2, A3, n3, k3, hok1, hok2, hN, rfl, hd1, hd2, hb1, ho1, ho2⟩
    have HOK1 := Lib.hid hok1
    have HOK2 := Lib.hid hok2
    obtain ⟨hp, -, -, hl1, hres1⟩ := okM_bd hok1
    obtain ⟨-, -, -, hl2, hres2⟩ := okM_bd hok2
    obtain ⟨hp1, hp2⟩ := isP_bd hp
    have HP := Lib.hid hp
    have hs1 := hb1.size
    have HPR := Lib.hid (det_prod (N := N) hp hres1 hres2)
    have hx0 := detV_bd (N := N) (f := matF da N) (show 1 ≤ p by omega)
    have hy0 := detV_bd (N := N) (f := matF db N) (show 1 ≤ p by omega)
    have HOK3 := Lib.hid (okM_mk (d := mulD N N N da db p) hp hN (by rw [mulD, tab_len]) (resB_mulD (by omega)))
    have HF := Lib.hid (det_facts (N := N) hp hres1)
    obtain ⟨X, hX⟩ : ∃ X, X = detV N p (matF da N) := ⟨_, rfl⟩
    obtain ⟨Y, hY⟩ : ∃ Y, Y = detV N p (matF db N) := ⟨_, rfl⟩
    obtain ⟨Z, hZ⟩ : ∃ Z, Z = detV N p (matF (mulD N N N da db p) N) := ⟨_, rfl⟩
    rw [← hX] at hx0
    rw [← hY] at hy0
    have HX := Lib.hid hX
    have HY := Lib.hid hY
    have HZ := Lib.hid hZ
    have hxy : 0 ≤ X * Y ∧ X * Y ≤ 9223372036854775807 := ⟨Int.mul_nonneg hx0.1 hy0.1, by
      have a := Int.mul_le_mul (show X ≤ 32767 by omega) (show Y ≤ 32767 by omega) hy0.1 (by omega)
      omega⟩
    have hwr : IntKind.i64.wrap (X * Y) = X * Y := IntWalk.i64_in _ (by omega)
    have hpne : p ≠ 0 := by omega
    clear hok1 hok2 hl1 hl2 hres1 hres2 hp hX hY hZ hr y0
    have hm1 := (Box.new w1 #[.int .i64 p, .int .i64 N, .int .i64 N, .slice A1 n1 k1] 26).alloc (.cells #[.int .i64 p, .int .i64 N, .int .i64 N, .slice A2 n2 k2] 26) |>.alloc (.cells #[.int .i64 p, .int .i64 N, .int .i64 N, .slice A3 n3 k3] 26)
    have hm2 := (Box.new (w1.alloc (.cells #[.int .i64 p, .int .i64 N, .int .i64 N, .slice A1 n1 k1] 26)) #[.int .i64 p, .int .i64 N, .int .i64 N, .slice A2 n2 k2] 26).alloc (.cells #[.int .i64 p, .int .i64 N, .int .i64 N, .slice A3 n3 k3] 26)
    simp only [World.size_alloc] at hm2
    obtain ⟨x0, x1, x2, x3⟩ := hm1.four
    obtain ⟨y0, y1, y2, y3⟩ := hm2.four
    have hW : ∃ W1, W1 = ((w1.alloc (.cells #[.int .i64 p, .int .i64 N, .int .i64 N, .slice A1 n1 k1] 26)).alloc (.cells #[.int .i64 p, .int .i64 N, .int .i64 N, .slice A2 n2 k2] 26)).alloc (.cells #[.int .i64 p, .int .i64 N, .int .i64 N, .slice A3 n3 k3] 26) := ⟨_, rfl⟩
    have hq1 : Below w.heap.size w (((w1.alloc (.cells #[.int .i64 p, .int .i64 N, .int .i64 N, .slice A1 n1 k1] 26)).alloc (.cells #[.int .i64 p, .int .i64 N, .int .i64 N, .slice A2 n2 k2] 26)).alloc (.cells #[.int .i64 p, .int .i64 N, .int .i64 N, .slice A3 n3 k3] 26)) := ((hb1.alloc (by omega) _).alloc (by simp; omega) _).alloc (by simp; omega) _
    have ho3 := ((ho1.alloc (Nat.le_refl _) (.cells #[.int .i64 p, .int .i64 N, .int .i64 N, .slice A1 n1 k1] 26)).alloc (by simp) (.cells #[.int .i64 p, .int .i64 N, .int .i64 N, .slice A2 n2 k2] 26)).alloc (by simp; omega) (.cells #[.int .i64 p, .int .i64 N, .int .i64 N, .slice A3 n3 k3] 26)
    have ho4 := ((ho2.alloc (Nat.le_refl _) (.cells #[.int .i64 p, .int .i64 N, .int .i64 N, .slice A1 n1 k1] 26)).alloc (by simp) (.cells #[.int .i64 p, .int .i64 N, .int .i64 N, .slice A2 n2 k2] 26)).alloc (by simp; omega) (.cells #[.int .i64 p, .int .i64 N, .int .i64 N, .slice A3 n3 k3] 26)
    have hsz : (((w1.alloc (.cells #[.int .i64 p, .int .i64 N, .int .i64 N, .slice A1 n1 k1] 26)).alloc (.cells #[.int .i64 p, .int .i64 N, .int .i64 N, .slice A2 n2 k2] 26)).alloc (.cells #[.int .i64 p, .int .i64 N, .int .i64 N, .slice A3 n3 k3] 26)).heap.size = w1.heap.size + 3 := by simp
    clear hW hb1 ho1 ho2
    go_wp2_with fail
    generalize ((w1.alloc (.cells #[.int .i64 p, .int .i64 N, .int .i64 N, .slice A1 n1 k1] 26)).alloc (.cells #[.int .i64 p, .int .i64 N, .int .i64 N, .slice A2 n2 k2] 26)).alloc (.cells #[.int .i64 p, .int .i64 N, .int .i64 N, .slice A3 n3 k3] 26) = W1 at *
    refine (iDet_ok (B := w1.heap.size) p N n1 k1 A1 da W1 ho3.rd hd1 (by omega) HOK1.out).mono ?_
    rintro e w2 ⟨rfl, hb2⟩
    rw [← HX.out]
    have hs2 := hb2.size
    have hm1 := hm1.below hb2 (by omega)
    have hm2 := hm2.below hb2 (by omega)
    have ho3 := ho3.below hb2 (by omega)
    have ho4 := ho4.below hb2 (by omega)
    have hq2 := hq1.trans (hb2.mono (by omega))
    obtain ⟨x0, x1, x2, x3⟩ := hm1.four
    obtain ⟨y0, y1, y2, y3⟩ := hm2.four
    go_wp2_with fail
    refine (iDet_ok (B := w1.heap.size) p N n2 k2 A2 db w2 ho4.rd hd2 (by omega) HOK2.out).mono ?_
    rintro e w3 ⟨rfl, hb3⟩
    rw [← HY.out]
    have hs3 := hb3.size
    have hm1 := hm1.below hb3 (by omega)
    have hm2 := hm2.below hb3 (by omega)
    have ho3 := ho3.below hb3 (by omega)
    have ho4 := ho4.below hb3 (by omega)
    have hq3 := hq2.trans (hb3.mono (by omega))
    obtain ⟨x0, x1, x2, x3⟩ := hm1.four
    obtain ⟨y0, y1, y2, y3⟩ := hm2.four
    go_wp2_with fail
    refine (ltimes_ok p N N N n1 k1 n2 k2 A1 A2 da db w3 (B := w1.heap.size) ho3.rd ho4.rd hd2 (by omega) HOK1.out HOK2.out).mono ?_
    rintro e w4 ⟨A4, n4, k4, rfl, hd4, hb4, ho5⟩
    have hs4 := hb4.size
    have hm1 := hm1.below hb4 (by omega)
    have hm2 := hm2.below hb4 (by omega)
    have ho3 := ho3.below hb4 (by omega)
    have hq4 := hq3.trans (hb4.mono (by omega))
    go_wp2_with fail
    refine (iDet_ok (B := w4.heap.size) p N n4 k4 A4 (mulD N N N da db p) w4 ho5.rd hd4 (by omega) HOK3.out).mono ?_
    rintro e w5 ⟨rfl, hb5⟩
    rw [← HZ.out]
    have hs5 := hb5.size
    have hm1 := hm1.below hb5 (by omega)
    have ho3 := ho3.below hb5 (by omega)
    have hq5 := hq4.trans (hb5.mono (by omega))
    obtain ⟨x0, x1, x2, x3⟩ := hm1.four
    have hXY : X * Y % p = Z := by rw [HX.out, HY.out, HZ.out]; exact HPR.out
    go_wp2_with fail
    rcases hiv : ivB N p da with _ | _
    · refine (iInv_no (B := w1.heap.size) p N n1 k1 A1 da w5 ho3.rd hd1 (by omega) HOK1.out hiv).mono ?_
      rintro e w6 ⟨A6, n6, k6, rfl, hd6, hb6, ho6⟩
      have hs6 := hb6.size
      have hX0 : X = 0 := by
        rw [HX.out]
        have := HF.out.1
        exact Classical.byContradiction fun h => by rw [this.2 h] at hiv; cases hiv
      have hm1 := (hm1.below hb6 (by omega)).alloc (.cells #[.int .i64 0, .int .i64 0, .int .i64 0, .slice A6 n6 k6] 26)
      have ho3 := (ho3.below hb6 (by omega)).alloc (by omega) (.cells #[.int .i64 0, .int .i64 0, .int .i64 0, .slice A6 n6 k6] 26)
      have hq6 := (hq5.trans (hb6.mono (by omega))).alloc (by omega) (.cells #[.int .i64 0, .int .i64 0, .int .i64 0, .slice A6 n6 k6] 26)
      obtain ⟨x0, x1, x2, x3⟩ := hm1.four
      go_wp2_with fail
      have hsz6 : (w6.alloc (.cells #[.int .i64 0, .int .i64 0, .int .i64 0, .slice A6 n6 k6] 26)).heap.size = w6.heap.size + 1 := by simp
      obtain ⟨RK, hRK⟩ : ∃ RK, RK = (rr N p (matF da N) N).rk := ⟨_, rfl⟩
      obtain ⟨KR, hKR⟩ : ∃ KR, KR = (kerS N N p (matF da N)).rk := ⟨_, rfl⟩
      have hf2 := HF.out.2.1
      have hf3 := HF.out.2.2.1
      rw [← hRK] at hf2 hf3
      rw [← hKR] at hf3
      have hRN : ((RK : Int) == (N : Int)) = false := by
        rw [hiv] at hf2
        have h0 : RK ≠ N := fun h => by have := hf2.2 h; cases this
        rw [beq_eq_false_iff_ne]; omega
      have hadd : IntKind.i64.wrap ((RK : Int) + (KR : Int)) = (N : Int) := by rw [IntWalk.i64_in _ (by omega)]; omega
      have hNN : ((N : Int) != (N : Int)) = false := by simp
      have hfd : ∀ (A : Option Addr) (n k : Nat) (w : World), (Instr.field 26 (.agg #[.int .i64 p, .int .i64 KR, .int .i64 N, .slice A n k]) 1).run Try.prog w = .ok (.int .i64 KR) w := fun A n k w => run_fld1 p KR N A n k w
      have HRK := Lib.hid hRK
      have HKR := Lib.hid hKR
      clear hRK hKR hf2 hf3 x0 x1 x2 x3
      generalize w6.alloc (.cells #[.int .i64 0, .int .i64 0, .int .i64 0, .slice A6 n6 k6] 26) = W6 at *
      refine wp_region_val (fun vs => ⟨#[Value.slice A0 n0 k0, undef, Value.bool false, Value.pointer (some ⟨w1.heap.size, 0, none⟩), Value.pointer (some ⟨w1.heap.size + 1, 0, none⟩), Value.pointer (some ⟨w1.heap.size + 1 + 1, 0, none⟩), Value.int IntKind.i64 0, Value.bool true, Value.int IntKind.i64 Y, Value.bool true, Value.int IntKind.i64 Z, Value.bool true, Value.pointer (some ⟨w6.heap.size, 0, none⟩), Value.bool false, Value.slice A0 n0 k0, Value.bool false, Value.tuple #[Value.agg #[Value.int IntKind.i64 p, Value.int IntKind.i64 ↑N, Value.int IntKind.i64 ↑N, Value.slice A1 n1 k1], Value.agg #[Value.int IntKind.i64 p, Value.int IntKind.i64 ↑N, Value.int IntKind.i64 ↑N, Value.slice A2 n2 k2], Value.agg #[Value.int IntKind.i64 p, Value.int IntKind.i64 ↑N, Value.int IntKind.i64 ↑N, Value.slice A3 n3 k3]], Value.slice A0 n0 k0, Value.tuple #[Value.agg #[Value.int IntKind.i64 p, Value.int IntKind.i64 ↑N, Value.int IntKind.i64 ↑N, Value.slice A1 n1 k1], Value.agg #[Value.int IntKind.i64 p, Value.int IntKind.i64 ↑N, Value.int IntKind.i64 ↑N, Value.slice A2 n2 k2], Value.agg #[Value.int IntKind.i64 p, Value.int IntKind.i64 ↑N, Value.int IntKind.i64 ↑N, Value.slice A3 n3 k3]], Value.agg #[Value.int IntKind.i64 p, Value.int IntKind.i64 ↑N, Value.int IntKind.i64 ↑N, Value.slice A1 n1 k1], Value.agg #[Value.int IntKind.i64 p, Value.int IntKind.i64 ↑N, Value.int IntKind.i64 ↑N, Value.slice A2 n2 k2], Value.agg #[Value.int IntKind.i64 p, Value.int IntKind.i64 ↑N, Value.int IntKind.i64 ↑N, Value.slice A3 n3 k3], Value.tuple #[Value.int IntKind.i64 0, Value.bool true], Value.agg #[Value.int IntKind.i64 p, Value.int IntKind.i64 ↑N, Value.int IntKind.i64 ↑N, Value.slice A1 n1 k1], Value.tuple #[Value.int IntKind.i64 0, Value.bool true], Value.int IntKind.i64 0, Value.bool true, Value.tuple #[Value.int IntKind.i64 Y, Value.bool true], Value.agg #[Value.int IntKind.i64 p, Value.int IntKind.i64 ↑N, Value.int IntKind.i64 ↑N, Value.slice A2 n2 k2], Value.tuple #[Value.int IntKind.i64 Y, Value.bool true], Value.int IntKind.i64 Y, Value.bool true, Value.tuple #[Value.int IntKind.i64 Z, Value.bool true], Value.agg #[Value.int IntKind.i64 p, Value.int IntKind.i64 ↑N, Value.int IntKind.i64 ↑N, Value.slice A1 n1 k1], Value.agg #[Value.int IntKind.i64 p, Value.int IntKind.i64 ↑N, Value.int IntKind.i64 ↑N, Value.slice A2 n2 k2], Value.agg #[Value.int IntKind.i64 p, Value.int IntKind.i64 ↑N, Value.int IntKind.i64 ↑N, Value.slice A4 n4 k4], Value.tuple #[Value.int IntKind.i64 Z, Value.bool true], Value.int IntKind.i64 Z, Value.bool true, Value.bool true, Value.bool false, Value.bool false, Value.bool true, Value.bool false, Value.bool false, Value.bool false, Value.bool true, Value.bool false, Value.bool false, Value.bool false, Value.int IntKind.i64 0, Value.int IntKind.i64 Y, Value.int IntKind.i64 0, Value.pointer (some ⟨w1.heap.size, 0, none⟩), Value.int IntKind.i64 p, Value.int IntKind.i64 0, Value.int IntKind.i64 Z, Value.bool false, Value.bool false, Value.tuple #[Value.agg #[Value.int IntKind.i64 0, Value.int IntKind.i64 0, Value.int IntKind.i64 0, Value.slice A6 n6 k6], Value.bool false], Value.agg #[Value.int IntKind.i64 p, Value.int IntKind.i64 ↑N, Value.int IntKind.i64 ↑N, Value.slice A1 n1 k1], Value.tuple #[Value.agg #[Value.int IntKind.i64 0, Value.int IntKind.i64 0, Value.int IntKind.i64 0, Value.slice A6 n6 k6], Value.bool false], Value.agg #[Value.int IntKind.i64 0, Value.int IntKind.i64 0, Value.int IntKind.i64 0, Value.slice A6 n6 k6], Value.bool false, vs 0, vs 1, vs 2, vs 3, vs 4, vs 5, vs 6, vs 7, vs 8, vs 9, vs 10, vs 11, vs 12, vs 13, vs 14, vs 15, vs 16, vs 17, vs 18, vs 19, vs 20, vs 21, vs 22, vs 23, undef, undef, undef, undef, undef, undef, undef, undef, undef, undef, undef, undef, undef, undef, undef, undef, undef, undef, undef, undef, undef, undef, undef, undef], []⟩) (fun k => ([.eq (.bool false), .eq (.int .i64 0), .eq (.bool false), .eq (.bool false), .eq (.bool false), .eq (.agg #[.int .i64 p, .int .i64 N, .int .i64 N, .slice A1 n1 k1]), .eq (.int .i64 RK), .eq (.pointer (some ⟨w1.heap.size, 1, none⟩)), .eq (.int .i64 N), .eq (.bool false), .eq (.bool false), .eq (.bool false), .eq (.bool false), .eq (.bool false), .eq (.agg #[.int .i64 p, .int .i64 N, .int .i64 N, .slice A1 n1 k1]), .eq (.int .i64 RK), .eq (.agg #[.int .i64 p, .int .i64 N, .int .i64 N, .slice A1 n1 k1]), .mat p KR N (tab KR N (kerS N N p (matF da N)).f), .eq (.int .i64 KR), .eq (.int .i64 N), .eq (.pointer (some ⟨w1.heap.size, 2, none⟩)), .eq (.int .i64 N), .eq (.bool false), .eq (.bool false)] : List VS).getD k .any) (fun k => undef) (W6.heap.size) W6 (by rfl) (by rfl) (Below.refl _ _) (by kernel_rfl) ?_ ?_ (Nat.le_refl _)
      · rintro i oi vs wx ho hbl hd K hK
        have hi : i < 24 := by
          rcases Nat.lt_or_ge i 24 with h | h
          · exact h
          · rw [Array.getElem?_eq_none (by simpa using h)] at ho; cases ho
        have hsw := hbl.size
        rcases i with _ | _ | _ | _ | _ | _ | _ | _ | _ | _ | _ | _ | _ | _ | _ | _ | _ | _ | _ | _ | _ | _ | _ | _ | i''
        · obtain rfl := Option.some.inj ho
          clear ho hi
          refine ite_take (by rfl) ?_
          go_simp
          exact hK _ _ rfl (Below.refl _ _)
        · obtain rfl := Option.some.inj ho
          clear ho hi
          refine ite_take (by rfl) ?_
          go_simp
          exact hK _ _ rfl (Below.refl _ _)
        · obtain rfl := Option.some.inj ho
          clear ho hi
          have e1 : vs 1 = .int .i64 0 := hd 1 (by rfl)
          obtain ⟨vs, rfl⟩ := vs_at e1
          refine ite_take (by rfl) ?_
          (try simp only [↓reduceIte, Nat.reduceEqDiff])
          go_simp
          exact hK _ _ rfl (Below.refl _ _)
        · obtain rfl := Option.some.inj ho
          clear ho hi
          have e0 : vs 0 = .bool false := hd 0 (by rfl)
          obtain ⟨vs, rfl⟩ := vs_at e0
          have e2 : vs 2 = .bool false := hd 2 (by rfl)
          obtain ⟨vs, rfl⟩ := vs_at e2
          refine ite_take (by rfl) ?_
          (try simp only [↓reduceIte, Nat.reduceEqDiff])
          go_simp
          exact hK _ _ rfl (Below.refl _ _)
        · obtain rfl := Option.some.inj ho
          clear ho hi
          have e3 : vs 3 = .bool false := hd 3 (by rfl)
          obtain ⟨vs, rfl⟩ := vs_at e3
          refine ite_take (by rfl) ?_
          (try simp only [↓reduceIte, Nat.reduceEqDiff])
          go_simp
          exact hK _ _ rfl (Below.refl _ _)
        · obtain rfl := Option.some.inj ho
          clear ho hi
          have e4 : vs 4 = .bool false := hd 4 (by rfl)
          obtain ⟨vs, rfl⟩ := vs_at e4
          refine ite_take (wanted_yes (b := false) rfl rfl rfl rfl rfl) ?_
          (try simp only [↓reduceIte, Nat.reduceEqDiff])
          obtain ⟨x0, x1, x2, x3⟩ := (hm1.step hbl).four
          go_simp
          exact hK _ _ rfl (Below.refl _ _)
        · obtain rfl := Option.some.inj ho
          clear ho hi
          have e4 : vs 4 = .bool false := hd 4 (by rfl)
          obtain ⟨vs, rfl⟩ := vs_at e4
          have e5 : vs 5 = .agg #[.int .i64 p, .int .i64 N, .int .i64 N, .slice A1 n1 k1] := hd 5 (by rfl)
          obtain ⟨vs, rfl⟩ := vs_at e5
          refine ite_take (wanted_yes (b := false) rfl rfl rfl rfl rfl) ?_
          (try simp only [↓reduceIte, Nat.reduceEqDiff])
          go_simp
          refine (iRank_ok (B := w1.heap.size) p N N n1 k1 A1 da _ (ho3.rd.below hbl (by omega)) hd1 (by omega) HOK1.out).mono ?_
          rintro e wc ⟨rfl, hbc⟩
          rw [← HRK.out]
          go_simp
          exact hK _ _ rfl hbc
        · obtain rfl := Option.some.inj ho
          clear ho hi
          have e4 : vs 4 = .bool false := hd 4 (by rfl)
          obtain ⟨vs, rfl⟩ := vs_at e4
          refine ite_take (wanted_yes (b := false) rfl rfl rfl rfl rfl) ?_
          (try simp only [↓reduceIte, Nat.reduceEqDiff])
          go_simp
          exact hK _ _ rfl (Below.refl _ _)
        · obtain rfl := Option.some.inj ho
          clear ho hi
          have e4 : vs 4 = .bool false := hd 4 (by rfl)
          obtain ⟨vs, rfl⟩ := vs_at e4
          have e7 : vs 7 = .pointer (some ⟨w1.heap.size, 1, none⟩) := hd 7 (by rfl)
          obtain ⟨vs, rfl⟩ := vs_at e7
          refine ite_take (wanted_yes (b := false) rfl rfl rfl rfl rfl) ?_
          (try simp only [↓reduceIte, Nat.reduceEqDiff])
          obtain ⟨x0, x1, x2, x3⟩ := (hm1.step hbl).four
          go_simp
          exact hK _ _ rfl (Below.refl _ _)
        · obtain rfl := Option.some.inj ho
          clear ho hi
          have e4 : vs 4 = .bool false := hd 4 (by rfl)
          obtain ⟨vs, rfl⟩ := vs_at e4
          have e6 : vs 6 = .int .i64 RK := hd 6 (by rfl)
          obtain ⟨vs, rfl⟩ := vs_at e6
          have e8 : vs 8 = .int .i64 N := hd 8 (by rfl)
          obtain ⟨vs, rfl⟩ := vs_at e8
          refine ite_take (wanted_yes (b := false) rfl rfl rfl rfl rfl) ?_
          (try simp only [↓reduceIte, Nat.reduceEqDiff])
          go_simp
          exact hK _ _ rfl (Below.refl _ _)
        · obtain rfl := Option.some.inj ho
          clear ho hi
          have e4 : vs 4 = .bool false := hd 4 (by rfl)
          obtain ⟨vs, rfl⟩ := vs_at e4
          refine ite_take (wanted_yes (b := false) rfl rfl rfl rfl rfl) ?_
          (try simp only [↓reduceIte, Nat.reduceEqDiff])
          go_simp
          exact hK _ _ rfl (Below.refl _ _)
        · obtain rfl := Option.some.inj ho
          clear ho hi
          have e4 : vs 4 = .bool false := hd 4 (by rfl)
          obtain ⟨vs, rfl⟩ := vs_at e4
          have e9 : vs 9 = .bool false := hd 9 (by rfl)
          obtain ⟨vs, rfl⟩ := vs_at e9
          have e10 : vs 10 = .bool false := hd 10 (by rfl)
          obtain ⟨vs, rfl⟩ := vs_at e10
          refine ite_take (wanted_yes (b := false) rfl rfl rfl rfl rfl) ?_
          (try simp only [↓reduceIte, Nat.reduceEqDiff])
          go_simp
          exact hK _ _ rfl (Below.refl _ _)
        · obtain rfl := Option.some.inj ho
          clear ho hi
          have e4 : vs 4 = .bool false := hd 4 (by rfl)
          obtain ⟨vs, rfl⟩ := vs_at e4
          have e11 : vs 11 = .bool false := hd 11 (by rfl)
          obtain ⟨vs, rfl⟩ := vs_at e11
          refine ite_take (by rfl) ?_
          (try simp only [↓reduceIte, Nat.reduceEqDiff])
          go_simp
          exact hK _ _ rfl (Below.refl _ _)
        · obtain rfl := Option.some.inj ho
          clear ho hi
          have e12 : vs 12 = .bool false := hd 12 (by rfl)
          obtain ⟨vs, rfl⟩ := vs_at e12
          refine ite_take (by rfl) ?_
          (try simp only [↓reduceIte, Nat.reduceEqDiff])
          go_simp
          exact hK _ _ rfl (Below.refl _ _)
        · obtain rfl := Option.some.inj ho
          clear ho hi
          have e13 : vs 13 = .bool false := hd 13 (by rfl)
          obtain ⟨vs, rfl⟩ := vs_at e13
          refine ite_take (wanted_yes (b := false) rfl rfl rfl rfl rfl) ?_
          (try simp only [↓reduceIte, Nat.reduceEqDiff])
          obtain ⟨x0, x1, x2, x3⟩ := (hm1.step hbl).four
          go_simp
          exact hK _ _ rfl (Below.refl _ _)
        · obtain rfl := Option.some.inj ho
          clear ho hi
          have e13 : vs 13 = .bool false := hd 13 (by rfl)
          obtain ⟨vs, rfl⟩ := vs_at e13
          have e14 : vs 14 = .agg #[.int .i64 p, .int .i64 N, .int .i64 N, .slice A1 n1 k1] := hd 14 (by rfl)
          obtain ⟨vs, rfl⟩ := vs_at e14
          refine ite_take (wanted_yes (b := false) rfl rfl rfl rfl rfl) ?_
          (try simp only [↓reduceIte, Nat.reduceEqDiff])
          go_simp
          refine (iRank_ok (B := w1.heap.size) p N N n1 k1 A1 da _ (ho3.rd.below hbl (by omega)) hd1 (by omega) HOK1.out).mono ?_
          rintro e wc ⟨rfl, hbc⟩
          rw [← HRK.out]
          go_simp
          exact hK _ _ rfl hbc
        · obtain rfl := Option.some.inj ho
          clear ho hi
          have e13 : vs 13 = .bool false := hd 13 (by rfl)
          obtain ⟨vs, rfl⟩ := vs_at e13
          refine ite_take (wanted_yes (b := false) rfl rfl rfl rfl rfl) ?_
          (try simp only [↓reduceIte, Nat.reduceEqDiff])
          obtain ⟨x0, x1, x2, x3⟩ := (hm1.step hbl).four
          go_simp
          exact hK _ _ rfl (Below.refl _ _)
        · obtain rfl := Option.some.inj ho
          clear ho hi
          have e13 : vs 13 = .bool false := hd 13 (by rfl)
          obtain ⟨vs, rfl⟩ := vs_at e13
          have e16 : vs 16 = .agg #[.int .i64 p, .int .i64 N, .int .i64 N, .slice A1 n1 k1] := hd 16 (by rfl)
          obtain ⟨vs, rfl⟩ := vs_at e16
          refine ite_take (wanted_yes (b := false) rfl rfl rfl rfl rfl) ?_
          (try simp only [↓reduceIte, Nat.reduceEqDiff])
          go_simp
          refine (iKern_ok (B := w1.heap.size) p N N n1 k1 A1 da _ (ho3.rd.below hbl (by omega)) hd1 (by omega) HOK1.out).mono ?_
          rw [← HKR.out]
          rintro e wc ⟨Ac, nc, kc, rfl, hdc, hbc, hoc⟩
          go_simp
          exact hK _ _ ⟨Ac, nc, kc, rfl, hdc, hoc.rd⟩ hbc
        · obtain rfl := Option.some.inj ho
          clear ho hi
          have e13 : vs 13 = .bool false := hd 13 (by rfl)
          obtain ⟨vs, rfl⟩ := vs_at e13
          obtain ⟨Av17, nv17, kv17, e17, hdv17, hrv17⟩ := hd 17 (by rfl)
          obtain ⟨vs, rfl⟩ := vs_at e17
          refine ite_take (wanted_yes (b := false) rfl rfl rfl rfl rfl) ?_
          (try simp only [↓reduceIte, Nat.reduceEqDiff])
          go_simp
          exact hK _ _ rfl (Below.refl _ _)
        · obtain rfl := Option.some.inj ho
          clear ho hi
          have e13 : vs 13 = .bool false := hd 13 (by rfl)
          obtain ⟨vs, rfl⟩ := vs_at e13
          have e15 : vs 15 = .int .i64 RK := hd 15 (by rfl)
          obtain ⟨vs, rfl⟩ := vs_at e15
          have e18 : vs 18 = .int .i64 KR := hd 18 (by rfl)
          obtain ⟨vs, rfl⟩ := vs_at e18
          refine ite_take (wanted_yes (b := false) rfl rfl rfl rfl rfl) ?_
          (try simp only [↓reduceIte, Nat.reduceEqDiff])
          go_simp
          exact hK _ _ rfl (Below.refl _ _)
        · obtain rfl := Option.some.inj ho
          clear ho hi
          have e13 : vs 13 = .bool false := hd 13 (by rfl)
          obtain ⟨vs, rfl⟩ := vs_at e13
          refine ite_take (wanted_yes (b := false) rfl rfl rfl rfl rfl) ?_
          (try simp only [↓reduceIte, Nat.reduceEqDiff])
          go_simp
          exact hK _ _ rfl (Below.refl _ _)
        · obtain rfl := Option.some.inj ho
          clear ho hi
          have e13 : vs 13 = .bool false := hd 13 (by rfl)
          obtain ⟨vs, rfl⟩ := vs_at e13
          have e20 : vs 20 = .pointer (some ⟨w1.heap.size, 2, none⟩) := hd 20 (by rfl)
          obtain ⟨vs, rfl⟩ := vs_at e20
          refine ite_take (wanted_yes (b := false) rfl rfl rfl rfl rfl) ?_
          (try simp only [↓reduceIte, Nat.reduceEqDiff])
          obtain ⟨x0, x1, x2, x3⟩ := (hm1.step hbl).four
          go_simp
          exact hK _ _ rfl (Below.refl _ _)
        · obtain rfl := Option.some.inj ho
          clear ho hi
          have e13 : vs 13 = .bool false := hd 13 (by rfl)
          obtain ⟨vs, rfl⟩ := vs_at e13
          have e19 : vs 19 = .int .i64 N := hd 19 (by rfl)
          obtain ⟨vs, rfl⟩ := vs_at e19
          have e21 : vs 21 = .int .i64 N := hd 21 (by rfl)
          obtain ⟨vs, rfl⟩ := vs_at e21
          refine ite_take (wanted_yes (b := false) rfl rfl rfl rfl rfl) ?_
          (try simp only [↓reduceIte, Nat.reduceEqDiff])
          go_simp
          exact hK _ _ rfl (Below.refl _ _)
        · obtain rfl := Option.some.inj ho
          clear ho hi
          have e13 : vs 13 = .bool false := hd 13 (by rfl)
          obtain ⟨vs, rfl⟩ := vs_at e13
          have e22 : vs 22 = .bool false := hd 22 (by rfl)
          obtain ⟨vs, rfl⟩ := vs_at e22
          refine ite_take (by rfl) ?_
          (try simp only [↓reduceIte, Nat.reduceEqDiff])
          go_simp
          exact hK _ _ rfl (Below.refl _ _)
        · exact absurd hi (by omega)
      · intro vs wx hbl hall
        have hsw := hbl.size
        have e23 : vs 23 = .bool false := hall 23 (by decide)
        clear hall
        have hm1 := hm1.step hbl
        have ho3 := ho3.below hbl (by omega)
        have hq6 := hq6.trans (hbl.mono (by omega))
        generalize vs 23 = v87 at *
        subst e23
        generalize vs 0 = v64
        generalize vs 1 = v65
        generalize vs 2 = v66
        generalize vs 3 = v67
        generalize vs 4 = v68
        generalize vs 5 = v69
        generalize vs 6 = v70
        generalize vs 7 = v71
        generalize vs 8 = v72
        generalize vs 9 = v73
        generalize vs 10 = v74
        generalize vs 11 = v75
        generalize vs 12 = v76
        generalize vs 13 = v77
        generalize vs 14 = v78
        generalize vs 15 = v79
        generalize vs 16 = v80
        generalize vs 17 = v81
        generalize vs 18 = v82
        generalize vs 19 = v83
        generalize vs 20 = v84
        generalize vs 21 = v85
        generalize vs 22 = v86
        go_wp2_with fail
        obtain ⟨wz, hwz⟩ : ∃ wz, wz = wx := ⟨_, rfl⟩
        rw [← hwz] at hm1 ho3 hq6 hsw ⊢
        clear hbl
        clear hwz wx
        refine wp_region_val (fun vs => ⟨#[Value.slice A0 n0 k0, undef, vs 24, Value.pointer (some ⟨w1.heap.size, 0, none⟩), Value.pointer (some ⟨w1.heap.size + 1, 0, none⟩), Value.pointer (some ⟨w1.heap.size + 1 + 1, 0, none⟩), Value.int IntKind.i64 0, Value.bool true, Value.int IntKind.i64 Y, Value.bool true, Value.int IntKind.i64 Z, Value.bool true, Value.pointer (some ⟨w6.heap.size, 0, none⟩), Value.bool false, Value.slice A0 n0 k0, Value.bool false, Value.tuple #[Value.agg #[Value.int IntKind.i64 p, Value.int IntKind.i64 ↑N, Value.int IntKind.i64 ↑N, Value.slice A1 n1 k1], Value.agg #[Value.int IntKind.i64 p, Value.int IntKind.i64 ↑N, Value.int IntKind.i64 ↑N, Value.slice A2 n2 k2], Value.agg #[Value.int IntKind.i64 p, Value.int IntKind.i64 ↑N, Value.int IntKind.i64 ↑N, Value.slice A3 n3 k3]], Value.slice A0 n0 k0, Value.tuple #[Value.agg #[Value.int IntKind.i64 p, Value.int IntKind.i64 ↑N, Value.int IntKind.i64 ↑N, Value.slice A1 n1 k1], Value.agg #[Value.int IntKind.i64 p, Value.int IntKind.i64 ↑N, Value.int IntKind.i64 ↑N, Value.slice A2 n2 k2], Value.agg #[Value.int IntKind.i64 p, Value.int IntKind.i64 ↑N, Value.int IntKind.i64 ↑N, Value.slice A3 n3 k3]], Value.agg #[Value.int IntKind.i64 p, Value.int IntKind.i64 ↑N, Value.int IntKind.i64 ↑N, Value.slice A1 n1 k1], Value.agg #[Value.int IntKind.i64 p, Value.int IntKind.i64 ↑N, Value.int IntKind.i64 ↑N, Value.slice A2 n2 k2], Value.agg #[Value.int IntKind.i64 p, Value.int IntKind.i64 ↑N, Value.int IntKind.i64 ↑N, Value.slice A3 n3 k3], Value.tuple #[Value.int IntKind.i64 0, Value.bool true], Value.agg #[Value.int IntKind.i64 p, Value.int IntKind.i64 ↑N, Value.int IntKind.i64 ↑N, Value.slice A1 n1 k1], Value.tuple #[Value.int IntKind.i64 0, Value.bool true], Value.int IntKind.i64 0, Value.bool true, Value.tuple #[Value.int IntKind.i64 Y, Value.bool true], Value.agg #[Value.int IntKind.i64 p, Value.int IntKind.i64 ↑N, Value.int IntKind.i64 ↑N, Value.slice A2 n2 k2], Value.tuple #[Value.int IntKind.i64 Y, Value.bool true], Value.int IntKind.i64 Y, Value.bool true, Value.tuple #[Value.int IntKind.i64 Z, Value.bool true], Value.agg #[Value.int IntKind.i64 p, Value.int IntKind.i64 ↑N, Value.int IntKind.i64 ↑N, Value.slice A1 n1 k1], Value.agg #[Value.int IntKind.i64 p, Value.int IntKind.i64 ↑N, Value.int IntKind.i64 ↑N, Value.slice A2 n2 k2], Value.agg #[Value.int IntKind.i64 p, Value.int IntKind.i64 ↑N, Value.int IntKind.i64 ↑N, Value.slice A4 n4 k4], Value.tuple #[Value.int IntKind.i64 Z, Value.bool true], Value.int IntKind.i64 Z, Value.bool true, Value.bool true, Value.bool false, Value.bool false, Value.bool true, Value.bool false, Value.bool false, Value.bool false, Value.bool true, Value.bool false, Value.bool false, Value.bool false, Value.int IntKind.i64 0, Value.int IntKind.i64 Y, Value.int IntKind.i64 0, Value.pointer (some ⟨w1.heap.size, 0, none⟩), Value.int IntKind.i64 p, Value.int IntKind.i64 0, Value.int IntKind.i64 Z, Value.bool false, Value.bool false, Value.tuple #[Value.agg #[Value.int IntKind.i64 0, Value.int IntKind.i64 0, Value.int IntKind.i64 0, Value.slice A6 n6 k6], Value.bool false], Value.agg #[Value.int IntKind.i64 p, Value.int IntKind.i64 ↑N, Value.int IntKind.i64 ↑N, Value.slice A1 n1 k1], Value.tuple #[Value.agg #[Value.int IntKind.i64 0, Value.int IntKind.i64 0, Value.int IntKind.i64 0, Value.slice A6 n6 k6], Value.bool false], Value.agg #[Value.int IntKind.i64 0, Value.int IntKind.i64 0, Value.int IntKind.i64 0, Value.slice A6 n6 k6], Value.bool false, v64, v65, v66, v67, v68, v69, v70, v71, v72, v73, v74, v75, v76, v77, v78, v79, v80, v81, v82, v83, v84, v85, v86, .bool false, vs 0, vs 1, vs 2, vs 3, vs 4, vs 5, vs 6, vs 7, vs 8, vs 9, vs 10, vs 11, vs 12, vs 13, vs 14, vs 15, vs 16, vs 17, vs 18, vs 19, vs 20, vs 21, vs 22, vs 23], []⟩) (fun k => ([.eq (.bool false), .eq (.bool true), .eq (.bool true), .eq (undef), .eq (undef), .eq (undef), .eq (undef), .eq (undef), .eq (undef), .eq (undef), .eq (undef), .eq (undef), .eq (undef), .eq (undef), .eq (undef), .eq (undef), .eq (undef), .eq (undef), .eq (undef), .eq (undef), .eq (undef), .eq (undef), .eq (undef), .eq (.bool true), .eq (.bool true)] : List VS).getD k .any) (fun k => if k = 24 then (Value.bool false) else undef) (wz.heap.size) wz (by rfl) (by rfl) (Below.refl _ _) (by kernel_rfl) ?_ ?_ (Nat.le_refl _)
        · rintro i oi vs wx ho hbl hd K hK
          have hi : i < 25 := by
            rcases Nat.lt_or_ge i 25 with h | h
            · exact h
            · rw [Array.getElem?_eq_none (by simpa using h)] at ho; cases ho
          have hsw := hbl.size
          rcases i with _ | _ | _ | _ | _ | _ | _ | _ | _ | _ | _ | _ | _ | _ | _ | _ | _ | _ | _ | _ | _ | _ | _ | _ | _ | i''
          · obtain rfl := Option.some.inj ho
            clear ho hi
            refine ite_take (by rfl) ?_
            go_simp
            exact hK _ _ rfl (Below.refl _ _)
          · obtain rfl := Option.some.inj ho
            clear ho hi
            have e0 : vs 0 = .bool false := hd 0 (by rfl)
            obtain ⟨vs, rfl⟩ := vs_at e0
            refine ite_take (by rfl) ?_
            (try simp only [↓reduceIte, Nat.reduceEqDiff])
            go_simp
            exact hK _ _ rfl (Below.refl _ _)
          · obtain rfl := Option.some.inj ho
            clear ho hi
            have e1 : vs 1 = .bool true := hd 1 (by rfl)
            obtain ⟨vs, rfl⟩ := vs_at e1
            refine ite_take (by rfl) ?_
            (try simp only [↓reduceIte, Nat.reduceEqDiff])
            go_simp
            exact hK _ _ rfl (Below.refl _ _)
          · obtain rfl := Option.some.inj ho
            clear ho hi
            have e2 : vs 2 = .bool true := hd 2 (by rfl)
            obtain ⟨vs, rfl⟩ := vs_at e2
            refine ite_skip (wanted_no (b := true) rfl rfl rfl rfl rfl) ?_
            (try simp only [↓reduceIte, Nat.reduceEqDiff])
            exact hK _ _ rfl (Below.refl _ _)
          · obtain rfl := Option.some.inj ho
            clear ho hi
            have e2 : vs 2 = .bool true := hd 2 (by rfl)
            obtain ⟨vs, rfl⟩ := vs_at e2
            refine ite_skip (wanted_no (b := true) rfl rfl rfl rfl rfl) ?_
            (try simp only [↓reduceIte, Nat.reduceEqDiff])
            exact hK _ _ rfl (Below.refl _ _)
          · obtain rfl := Option.some.inj ho
            clear ho hi
            have e2 : vs 2 = .bool true := hd 2 (by rfl)
            obtain ⟨vs, rfl⟩ := vs_at e2
            have e3 : vs 3 = undef := hd 3 (by rfl)
            obtain ⟨vs, rfl⟩ := vs_at e3
            have e4 : vs 4 = undef := hd 4 (by rfl)
            obtain ⟨vs, rfl⟩ := vs_at e4
            refine ite_skip (wanted_no (b := true) rfl rfl rfl rfl rfl) ?_
            (try simp only [↓reduceIte, Nat.reduceEqDiff])
            exact hK _ _ rfl (Below.refl _ _)
          · obtain rfl := Option.some.inj ho
            clear ho hi
            have e2 : vs 2 = .bool true := hd 2 (by rfl)
            obtain ⟨vs, rfl⟩ := vs_at e2
            refine ite_skip (wanted_no (b := true) rfl rfl rfl rfl rfl) ?_
            (try simp only [↓reduceIte, Nat.reduceEqDiff])
            exact hK _ _ rfl (Below.refl _ _)
          · obtain rfl := Option.some.inj ho
            clear ho hi
            have e2 : vs 2 = .bool true := hd 2 (by rfl)
            obtain ⟨vs, rfl⟩ := vs_at e2
            have e6 : vs 6 = undef := hd 6 (by rfl)
            obtain ⟨vs, rfl⟩ := vs_at e6
            refine ite_skip (wanted_no (b := true) rfl rfl rfl rfl rfl) ?_
            (try simp only [↓reduceIte, Nat.reduceEqDiff])
            exact hK _ _ rfl (Below.refl _ _)
          · obtain rfl := Option.some.inj ho
            clear ho hi
            have e2 : vs 2 = .bool true := hd 2 (by rfl)
            obtain ⟨vs, rfl⟩ := vs_at e2
            refine ite_skip (wanted_no (b := true) rfl rfl rfl rfl rfl) ?_
            (try simp only [↓reduceIte, Nat.reduceEqDiff])
            exact hK _ _ rfl (Below.refl _ _)
          · obtain rfl := Option.some.inj ho
            clear ho hi
            have e2 : vs 2 = .bool true := hd 2 (by rfl)
            obtain ⟨vs, rfl⟩ := vs_at e2
            have e8 : vs 8 = undef := hd 8 (by rfl)
            obtain ⟨vs, rfl⟩ := vs_at e8
            refine ite_skip (wanted_no (b := true) rfl rfl rfl rfl rfl) ?_
            (try simp only [↓reduceIte, Nat.reduceEqDiff])
            exact hK _ _ rfl (Below.refl _ _)
          · obtain rfl := Option.some.inj ho
            clear ho hi
            have e2 : vs 2 = .bool true := hd 2 (by rfl)
            obtain ⟨vs, rfl⟩ := vs_at e2
            have e7 : vs 7 = undef := hd 7 (by rfl)
            obtain ⟨vs, rfl⟩ := vs_at e7
            have e9 : vs 9 = undef := hd 9 (by rfl)
            obtain ⟨vs, rfl⟩ := vs_at e9
            refine ite_skip (wanted_no (b := true) rfl rfl rfl rfl rfl) ?_
            (try simp only [↓reduceIte, Nat.reduceEqDiff])
            exact hK _ _ rfl (Below.refl _ _)
          · obtain rfl := Option.some.inj ho
            clear ho hi
            have e2 : vs 2 = .bool true := hd 2 (by rfl)
            obtain ⟨vs, rfl⟩ := vs_at e2
            have e5 : vs 5 = undef := hd 5 (by rfl)
            obtain ⟨vs, rfl⟩ := vs_at e5
            have e10 : vs 10 = undef := hd 10 (by rfl)
            obtain ⟨vs, rfl⟩ := vs_at e10
            refine ite_skip (wanted_no (b := true) rfl rfl rfl rfl rfl) ?_
            (try simp only [↓reduceIte, Nat.reduceEqDiff])
            exact hK _ _ rfl (Below.refl _ _)
          · obtain rfl := Option.some.inj ho
            clear ho hi
            have e2 : vs 2 = .bool true := hd 2 (by rfl)
            obtain ⟨vs, rfl⟩ := vs_at e2
            have e11 : vs 11 = undef := hd 11 (by rfl)
            obtain ⟨vs, rfl⟩ := vs_at e11
            refine ite_skip (wanted_no (b := true) rfl rfl rfl rfl rfl) ?_
            (try simp only [↓reduceIte, Nat.reduceEqDiff])
            exact hK _ _ rfl (Below.refl _ _)
          · obtain rfl := Option.some.inj ho
            clear ho hi
            have e12 : vs 12 = undef := hd 12 (by rfl)
            obtain ⟨vs, rfl⟩ := vs_at e12
            refine ite_skip (wanted_un rfl rfl rfl rfl) ?_
            (try simp only [↓reduceIte, Nat.reduceEqDiff])
            exact hK _ _ rfl (Below.refl _ _)
          · obtain rfl := Option.some.inj ho
            clear ho hi
            have e12 : vs 12 = undef := hd 12 (by rfl)
            obtain ⟨vs, rfl⟩ := vs_at e12
            refine ite_skip (wanted_un rfl rfl rfl rfl) ?_
            (try simp only [↓reduceIte, Nat.reduceEqDiff])
            exact hK _ _ rfl (Below.refl _ _)
          · obtain rfl := Option.some.inj ho
            clear ho hi
            have e12 : vs 12 = undef := hd 12 (by rfl)
            obtain ⟨vs, rfl⟩ := vs_at e12
            have e13 : vs 13 = undef := hd 13 (by rfl)
            obtain ⟨vs, rfl⟩ := vs_at e13
            have e14 : vs 14 = undef := hd 14 (by rfl)
            obtain ⟨vs, rfl⟩ := vs_at e14
            refine ite_skip (wanted_un rfl rfl rfl rfl) ?_
            (try simp only [↓reduceIte, Nat.reduceEqDiff])
            exact hK _ _ rfl (Below.refl _ _)
          · obtain rfl := Option.some.inj ho
            clear ho hi
            have e12 : vs 12 = undef := hd 12 (by rfl)
            obtain ⟨vs, rfl⟩ := vs_at e12
            refine ite_skip (wanted_un rfl rfl rfl rfl) ?_
            (try simp only [↓reduceIte, Nat.reduceEqDiff])
            exact hK _ _ rfl (Below.refl _ _)
          · obtain rfl := Option.some.inj ho
            clear ho hi
            have e12 : vs 12 = undef := hd 12 (by rfl)
            obtain ⟨vs, rfl⟩ := vs_at e12
            have e16 : vs 16 = undef := hd 16 (by rfl)
            obtain ⟨vs, rfl⟩ := vs_at e16
            refine ite_skip (wanted_un rfl rfl rfl rfl) ?_
            (try simp only [↓reduceIte, Nat.reduceEqDiff])
            exact hK _ _ rfl (Below.refl _ _)
          · obtain rfl := Option.some.inj ho
            clear ho hi
            have e12 : vs 12 = undef := hd 12 (by rfl)
            obtain ⟨vs, rfl⟩ := vs_at e12
            refine ite_skip (wanted_un rfl rfl rfl rfl) ?_
            (try simp only [↓reduceIte, Nat.reduceEqDiff])
            exact hK _ _ rfl (Below.refl _ _)
          · obtain rfl := Option.some.inj ho
            clear ho hi
            have e12 : vs 12 = undef := hd 12 (by rfl)
            obtain ⟨vs, rfl⟩ := vs_at e12
            have e18 : vs 18 = undef := hd 18 (by rfl)
            obtain ⟨vs, rfl⟩ := vs_at e18
            refine ite_skip (wanted_un rfl rfl rfl rfl) ?_
            (try simp only [↓reduceIte, Nat.reduceEqDiff])
            exact hK _ _ rfl (Below.refl _ _)
          · obtain rfl := Option.some.inj ho
            clear ho hi
            have e12 : vs 12 = undef := hd 12 (by rfl)
            obtain ⟨vs, rfl⟩ := vs_at e12
            have e17 : vs 17 = undef := hd 17 (by rfl)
            obtain ⟨vs, rfl⟩ := vs_at e17
            have e19 : vs 19 = undef := hd 19 (by rfl)
            obtain ⟨vs, rfl⟩ := vs_at e19
            refine ite_skip (wanted_un rfl rfl rfl rfl) ?_
            (try simp only [↓reduceIte, Nat.reduceEqDiff])
            exact hK _ _ rfl (Below.refl _ _)
          · obtain rfl := Option.some.inj ho
            clear ho hi
            have e12 : vs 12 = undef := hd 12 (by rfl)
            obtain ⟨vs, rfl⟩ := vs_at e12
            have e15 : vs 15 = undef := hd 15 (by rfl)
            obtain ⟨vs, rfl⟩ := vs_at e15
            have e20 : vs 20 = undef := hd 20 (by rfl)
            obtain ⟨vs, rfl⟩ := vs_at e20
            refine ite_skip (wanted_un rfl rfl rfl rfl) ?_
            (try simp only [↓reduceIte, Nat.reduceEqDiff])
            exact hK _ _ rfl (Below.refl _ _)
          · obtain rfl := Option.some.inj ho
            clear ho hi
            have e2 : vs 2 = .bool true := hd 2 (by rfl)
            obtain ⟨vs, rfl⟩ := vs_at e2
            have e12 : vs 12 = undef := hd 12 (by rfl)
            obtain ⟨vs, rfl⟩ := vs_at e12
            have e21 : vs 21 = undef := hd 21 (by rfl)
            obtain ⟨vs, rfl⟩ := vs_at e21
            refine ite_skip (wanted_no (b := true) rfl rfl rfl rfl rfl) ?_
            (try simp only [↓reduceIte, Nat.reduceEqDiff])
            exact hK _ _ rfl (Below.refl _ _)
          · obtain rfl := Option.some.inj ho
            clear ho hi
            have e2 : vs 2 = .bool true := hd 2 (by rfl)
            obtain ⟨vs, rfl⟩ := vs_at e2
            have e22 : vs 22 = undef := hd 22 (by rfl)
            obtain ⟨vs, rfl⟩ := vs_at e22
            refine ite_take (by rfl) ?_
            (try simp only [↓reduceIte, Nat.reduceEqDiff])
            go_simp
            exact hK _ _ rfl (Below.refl _ _)
          · obtain rfl := Option.some.inj ho
            clear ho hi
            have e23 : vs 23 = .bool true := hd 23 (by rfl)
            obtain ⟨vs, rfl⟩ := vs_at e23
            refine ite_take (by rfl) ?_
            (try simp only [↓reduceIte, Nat.reduceEqDiff])
            go_simp
            exact hK _ _ rfl (Below.refl _ _)
          · exact absurd hi (by omega)
        · intro vs wx hbl hall
          have hsw := hbl.size
          have e24 : vs 24 = .bool true := hall 24 (by decide)
          clear hall
          generalize vs 24 = v2 at *
          subst e24
          go_wp2
          go_ret
          exact ⟨rfl, hq6.trans (hbl.mono (by omega))⟩
    · refine (iInv_yes (B := w1.heap.size) p N n1 k1 A1 da w5 ho3.rd hd1 (by omega) HOK1.out hiv).mono ?_
      rintro e w6 ⟨A6, n6, k6, rfl, hd6, hb6, ho6⟩
      have hs6 := hb6.size
      have hX0 : X ≠ 0 := by rw [HX.out]; exact HF.out.1.1 hiv
      have hm1 := (hm1.below hb6 (by omega)).alloc (.cells #[.int .i64 p, .int .i64 N, .int .i64 N, .slice A6 n6 k6] 26)
      have ho3 := (ho3.below hb6 (by omega)).alloc (by omega) (.cells #[.int .i64 p, .int .i64 N, .int .i64 N, .slice A6 n6 k6] 26)
      have hq6 := (hq5.trans (hb6.mono (by omega))).alloc (by omega) (.cells #[.int .i64 p, .int .i64 N, .int .i64 N, .slice A6 n6 k6] 26)
      have hm6 := Box.new w6 #[.int .i64 p, .int .i64 N, .int .i64 N, .slice A6 n6 k6] 26
      have ho7 := ho6.alloc (Nat.le_refl _) (.cells #[.int .i64 p, .int .i64 N, .int .i64 N, .slice A6 n6 k6] 26)
      obtain ⟨x0, x1, x2, x3⟩ := hm1.four
      obtain ⟨y0, y1, y2, y3⟩ := hm6.four
      go_wp2_with fail
      have hsz6 : (w6.alloc (.cells #[.int .i64 p, .int .i64 N, .int .i64 N, .slice A6 n6 k6] 26)).heap.size = w6.heap.size + 1 := by simp
      obtain ⟨RK, hRK⟩ : ∃ RK, RK = (rr N p (matF da N) N).rk := ⟨_, rfl⟩
      obtain ⟨KR, hKR⟩ : ∃ KR, KR = (kerS N N p (matF da N)).rk := ⟨_, rfl⟩
      have hf2 := HF.out.2.1
      have hf3 := HF.out.2.2.1
      rw [← hRK] at hf2 hf3
      rw [← hKR] at hf3
      have hRN : ((RK : Int) == (N : Int)) = true := by
        rw [hiv] at hf2
        have := hf2.1 rfl; rw [beq_iff_eq]; omega
      have hadd : IntKind.i64.wrap ((RK : Int) + (KR : Int)) = (N : Int) := by rw [IntWalk.i64_in _ (by omega)]; omega
      have hNN : ((N : Int) != (N : Int)) = false := by simp
      have hfd : ∀ (A : Option Addr) (n k : Nat) (w : World), (Instr.field 26 (.agg #[.int .i64 p, .int .i64 KR, .int .i64 N, .slice A n k]) 1).run Try.prog w = .ok (.int .i64 KR) w := fun A n k w => run_fld1 p KR N A n k w
      have hXne : (X != 0) = true := by simpa using hX0
      have HRK := Lib.hid hRK
      have HKR := Lib.hid hKR
      clear hRK hKR hf2 hf3 x0 x1 x2 x3 y0 y1 y2 y3
      generalize w6.alloc (.cells #[.int .i64 p, .int .i64 N, .int .i64 N, .slice A6 n6 k6] 26) = W6 at *
      refine wp_region_val (fun vs => ⟨#[Value.slice A0 n0 k0, undef, Value.bool false, Value.pointer (some ⟨w1.heap.size, 0, none⟩), Value.pointer (some ⟨w1.heap.size + 1, 0, none⟩), Value.pointer (some ⟨w1.heap.size + 1 + 1, 0, none⟩), Value.int IntKind.i64 X, Value.bool true, Value.int IntKind.i64 Y, Value.bool true, Value.int IntKind.i64 Z, Value.bool true, Value.pointer (some ⟨w6.heap.size, 0, none⟩), Value.bool true, Value.slice A0 n0 k0, Value.bool false, Value.tuple #[Value.agg #[Value.int IntKind.i64 p, Value.int IntKind.i64 ↑N, Value.int IntKind.i64 ↑N, Value.slice A1 n1 k1], Value.agg #[Value.int IntKind.i64 p, Value.int IntKind.i64 ↑N, Value.int IntKind.i64 ↑N, Value.slice A2 n2 k2], Value.agg #[Value.int IntKind.i64 p, Value.int IntKind.i64 ↑N, Value.int IntKind.i64 ↑N, Value.slice A3 n3 k3]], Value.slice A0 n0 k0, Value.tuple #[Value.agg #[Value.int IntKind.i64 p, Value.int IntKind.i64 ↑N, Value.int IntKind.i64 ↑N, Value.slice A1 n1 k1], Value.agg #[Value.int IntKind.i64 p, Value.int IntKind.i64 ↑N, Value.int IntKind.i64 ↑N, Value.slice A2 n2 k2], Value.agg #[Value.int IntKind.i64 p, Value.int IntKind.i64 ↑N, Value.int IntKind.i64 ↑N, Value.slice A3 n3 k3]], Value.agg #[Value.int IntKind.i64 p, Value.int IntKind.i64 ↑N, Value.int IntKind.i64 ↑N, Value.slice A1 n1 k1], Value.agg #[Value.int IntKind.i64 p, Value.int IntKind.i64 ↑N, Value.int IntKind.i64 ↑N, Value.slice A2 n2 k2], Value.agg #[Value.int IntKind.i64 p, Value.int IntKind.i64 ↑N, Value.int IntKind.i64 ↑N, Value.slice A3 n3 k3], Value.tuple #[Value.int IntKind.i64 X, Value.bool true], Value.agg #[Value.int IntKind.i64 p, Value.int IntKind.i64 ↑N, Value.int IntKind.i64 ↑N, Value.slice A1 n1 k1], Value.tuple #[Value.int IntKind.i64 X, Value.bool true], Value.int IntKind.i64 X, Value.bool true, Value.tuple #[Value.int IntKind.i64 Y, Value.bool true], Value.agg #[Value.int IntKind.i64 p, Value.int IntKind.i64 ↑N, Value.int IntKind.i64 ↑N, Value.slice A2 n2 k2], Value.tuple #[Value.int IntKind.i64 Y, Value.bool true], Value.int IntKind.i64 Y, Value.bool true, Value.tuple #[Value.int IntKind.i64 Z, Value.bool true], Value.agg #[Value.int IntKind.i64 p, Value.int IntKind.i64 ↑N, Value.int IntKind.i64 ↑N, Value.slice A1 n1 k1], Value.agg #[Value.int IntKind.i64 p, Value.int IntKind.i64 ↑N, Value.int IntKind.i64 ↑N, Value.slice A2 n2 k2], Value.agg #[Value.int IntKind.i64 p, Value.int IntKind.i64 ↑N, Value.int IntKind.i64 ↑N, Value.slice A4 n4 k4], Value.tuple #[Value.int IntKind.i64 Z, Value.bool true], Value.int IntKind.i64 Z, Value.bool true, Value.bool true, Value.bool false, Value.bool false, Value.bool true, Value.bool false, Value.bool false, Value.bool false, Value.bool true, Value.bool false, Value.bool false, Value.bool false, Value.int IntKind.i64 X, Value.int IntKind.i64 Y, Value.int IntKind.i64 (X * Y), Value.pointer (some ⟨w1.heap.size, 0, none⟩), Value.int IntKind.i64 p, Value.int IntKind.i64 Z, Value.int IntKind.i64 Z, Value.bool false, Value.bool false, Value.tuple #[Value.agg #[Value.int IntKind.i64 p, Value.int IntKind.i64 ↑N, Value.int IntKind.i64 ↑N, Value.slice A6 n6 k6], Value.bool true], Value.agg #[Value.int IntKind.i64 p, Value.int IntKind.i64 ↑N, Value.int IntKind.i64 ↑N, Value.slice A1 n1 k1], Value.tuple #[Value.agg #[Value.int IntKind.i64 p, Value.int IntKind.i64 ↑N, Value.int IntKind.i64 ↑N, Value.slice A6 n6 k6], Value.bool true], Value.agg #[Value.int IntKind.i64 p, Value.int IntKind.i64 ↑N, Value.int IntKind.i64 ↑N, Value.slice A6 n6 k6], Value.bool true, vs 0, vs 1, vs 2, vs 3, vs 4, vs 5, vs 6, vs 7, vs 8, vs 9, vs 10, vs 11, vs 12, vs 13, vs 14, vs 15, vs 16, vs 17, vs 18, vs 19, vs 20, vs 21, vs 22, vs 23, undef, undef, undef, undef, undef, undef, undef, undef, undef, undef, undef, undef, undef, undef, undef, undef, undef, undef, undef, undef, undef, undef, undef, undef], []⟩) (fun k => ([.eq (.bool true), .eq (.int .i64 X), .eq (.bool true), .eq (.bool false), .eq (.bool false), .eq (.agg #[.int .i64 p, .int .i64 N, .int .i64 N, .slice A1 n1 k1]), .eq (.int .i64 RK), .eq (.pointer (some ⟨w1.heap.size, 1, none⟩)), .eq (.int .i64 N), .eq (.bool true), .eq (.bool true), .eq (.bool false), .eq (.bool false), .eq (.bool false), .eq (.agg #[.int .i64 p, .int .i64 N, .int .i64 N, .slice A1 n1 k1]), .eq (.int .i64 RK), .eq (.agg #[.int .i64 p, .int .i64 N, .int .i64 N, .slice A1 n1 k1]), .mat p KR N (tab KR N (kerS N N p (matF da N)).f), .eq (.int .i64 KR), .eq (.int .i64 N), .eq (.pointer (some ⟨w1.heap.size, 2, none⟩)), .eq (.int .i64 N), .eq (.bool false), .eq (.bool false)] : List VS).getD k .any) (fun k => undef) (W6.heap.size) W6 (by rfl) (by rfl) (Below.refl _ _) (by kernel_rfl) ?_ ?_ (Nat.le_refl _)
      · rintro i oi vs wx ho hbl hd K hK
        have hi : i < 24 := by
          rcases Nat.lt_or_ge i 24 with h | h
          · exact h
          · rw [Array.getElem?_eq_none (by simpa using h)] at ho; cases ho
        have hsw := hbl.size
        rcases i with _ | _ | _ | _ | _ | _ | _ | _ | _ | _ | _ | _ | _ | _ | _ | _ | _ | _ | _ | _ | _ | _ | _ | _ | i''
        · obtain rfl := Option.some.inj ho
          clear ho hi
          refine ite_take (by rfl) ?_
          go_simp
          exact hK _ _ rfl (Below.refl _ _)
        · obtain rfl := Option.some.inj ho
          clear ho hi
          refine ite_take (by rfl) ?_
          go_simp
          exact hK _ _ rfl (Below.refl _ _)
        · obtain rfl := Option.some.inj ho
          clear ho hi
          have e1 : vs 1 = .int .i64 X := hd 1 (by rfl)
          obtain ⟨vs, rfl⟩ := vs_at e1
          refine ite_take (by rfl) ?_
          (try simp only [↓reduceIte, Nat.reduceEqDiff])
          go_simp
          exact hK _ _ rfl (Below.refl _ _)
        · obtain rfl := Option.some.inj ho
          clear ho hi
          have e0 : vs 0 = .bool true := hd 0 (by rfl)
          obtain ⟨vs, rfl⟩ := vs_at e0
          have e2 : vs 2 = .bool true := hd 2 (by rfl)
          obtain ⟨vs, rfl⟩ := vs_at e2
          refine ite_take (by rfl) ?_
          (try simp only [↓reduceIte, Nat.reduceEqDiff])
          go_simp
          exact hK _ _ rfl (Below.refl _ _)
        · obtain rfl := Option.some.inj ho
          clear ho hi
          have e3 : vs 3 = .bool false := hd 3 (by rfl)
          obtain ⟨vs, rfl⟩ := vs_at e3
          refine ite_take (by rfl) ?_
          (try simp only [↓reduceIte, Nat.reduceEqDiff])
          go_simp
          exact hK _ _ rfl (Below.refl _ _)
        · obtain rfl := Option.some.inj ho
          clear ho hi
          have e4 : vs 4 = .bool false := hd 4 (by rfl)
          obtain ⟨vs, rfl⟩ := vs_at e4
          refine ite_take (wanted_yes (b := false) rfl rfl rfl rfl rfl) ?_
          (try simp only [↓reduceIte, Nat.reduceEqDiff])
          obtain ⟨x0, x1, x2, x3⟩ := (hm1.step hbl).four
          go_simp
          exact hK _ _ rfl (Below.refl _ _)
        · obtain rfl := Option.some.inj ho
          clear ho hi
          have e4 : vs 4 = .bool false := hd 4 (by rfl)
          obtain ⟨vs, rfl⟩ := vs_at e4
          have e5 : vs 5 = .agg #[.int .i64 p, .int .i64 N, .int .i64 N, .slice A1 n1 k1] := hd 5 (by rfl)
          obtain ⟨vs, rfl⟩ := vs_at e5
          refine ite_take (wanted_yes (b := false) rfl rfl rfl rfl rfl) ?_
          (try simp only [↓reduceIte, Nat.reduceEqDiff])
          go_simp
          refine (iRank_ok (B := w1.heap.size) p N N n1 k1 A1 da _ (ho3.rd.below hbl (by omega)) hd1 (by omega) HOK1.out).mono ?_
          rintro e wc ⟨rfl, hbc⟩
          rw [← HRK.out]
          go_simp
          exact hK _ _ rfl hbc
        · obtain rfl := Option.some.inj ho
          clear ho hi
          have e4 : vs 4 = .bool false := hd 4 (by rfl)
          obtain ⟨vs, rfl⟩ := vs_at e4
          refine ite_take (wanted_yes (b := false) rfl rfl rfl rfl rfl) ?_
          (try simp only [↓reduceIte, Nat.reduceEqDiff])
          go_simp
          exact hK _ _ rfl (Below.refl _ _)
        · obtain rfl := Option.some.inj ho
          clear ho hi
          have e4 : vs 4 = .bool false := hd 4 (by rfl)
          obtain ⟨vs, rfl⟩ := vs_at e4
          have e7 : vs 7 = .pointer (some ⟨w1.heap.size, 1, none⟩) := hd 7 (by rfl)
          obtain ⟨vs, rfl⟩ := vs_at e7
          refine ite_take (wanted_yes (b := false) rfl rfl rfl rfl rfl) ?_
          (try simp only [↓reduceIte, Nat.reduceEqDiff])
          obtain ⟨x0, x1, x2, x3⟩ := (hm1.step hbl).four
          go_simp
          exact hK _ _ rfl (Below.refl _ _)
        · obtain rfl := Option.some.inj ho
          clear ho hi
          have e4 : vs 4 = .bool false := hd 4 (by rfl)
          obtain ⟨vs, rfl⟩ := vs_at e4
          have e6 : vs 6 = .int .i64 RK := hd 6 (by rfl)
          obtain ⟨vs, rfl⟩ := vs_at e6
          have e8 : vs 8 = .int .i64 N := hd 8 (by rfl)
          obtain ⟨vs, rfl⟩ := vs_at e8
          refine ite_take (wanted_yes (b := false) rfl rfl rfl rfl rfl) ?_
          (try simp only [↓reduceIte, Nat.reduceEqDiff])
          go_simp
          exact hK _ _ rfl (Below.refl _ _)
        · obtain rfl := Option.some.inj ho
          clear ho hi
          have e4 : vs 4 = .bool false := hd 4 (by rfl)
          obtain ⟨vs, rfl⟩ := vs_at e4
          refine ite_take (wanted_yes (b := false) rfl rfl rfl rfl rfl) ?_
          (try simp only [↓reduceIte, Nat.reduceEqDiff])
          go_simp
          exact hK _ _ rfl (Below.refl _ _)
        · obtain rfl := Option.some.inj ho
          clear ho hi
          have e4 : vs 4 = .bool false := hd 4 (by rfl)
          obtain ⟨vs, rfl⟩ := vs_at e4
          have e9 : vs 9 = .bool true := hd 9 (by rfl)
          obtain ⟨vs, rfl⟩ := vs_at e9
          have e10 : vs 10 = .bool true := hd 10 (by rfl)
          obtain ⟨vs, rfl⟩ := vs_at e10
          refine ite_take (wanted_yes (b := false) rfl rfl rfl rfl rfl) ?_
          (try simp only [↓reduceIte, Nat.reduceEqDiff])
          go_simp
          exact hK _ _ rfl (Below.refl _ _)
        · obtain rfl := Option.some.inj ho
          clear ho hi
          have e4 : vs 4 = .bool false := hd 4 (by rfl)
          obtain ⟨vs, rfl⟩ := vs_at e4
          have e11 : vs 11 = .bool false := hd 11 (by rfl)
          obtain ⟨vs, rfl⟩ := vs_at e11
          refine ite_take (by rfl) ?_
          (try simp only [↓reduceIte, Nat.reduceEqDiff])
          go_simp
          exact hK _ _ rfl (Below.refl _ _)
        · obtain rfl := Option.some.inj ho
          clear ho hi
          have e12 : vs 12 = .bool false := hd 12 (by rfl)
          obtain ⟨vs, rfl⟩ := vs_at e12
          refine ite_take (by rfl) ?_
          (try simp only [↓reduceIte, Nat.reduceEqDiff])
          go_simp
          exact hK _ _ rfl (Below.refl _ _)
        · obtain rfl := Option.some.inj ho
          clear ho hi
          have e13 : vs 13 = .bool false := hd 13 (by rfl)
          obtain ⟨vs, rfl⟩ := vs_at e13
          refine ite_take (wanted_yes (b := false) rfl rfl rfl rfl rfl) ?_
          (try simp only [↓reduceIte, Nat.reduceEqDiff])
          obtain ⟨x0, x1, x2, x3⟩ := (hm1.step hbl).four
          go_simp
          exact hK _ _ rfl (Below.refl _ _)
        · obtain rfl := Option.some.inj ho
          clear ho hi
          have e13 : vs 13 = .bool false := hd 13 (by rfl)
          obtain ⟨vs, rfl⟩ := vs_at e13
          have e14 : vs 14 = .agg #[.int .i64 p, .int .i64 N, .int .i64 N, .slice A1 n1 k1] := hd 14 (by rfl)
          obtain ⟨vs, rfl⟩ := vs_at e14
          refine ite_take (wanted_yes (b := false) rfl rfl rfl rfl rfl) ?_
          (try simp only [↓reduceIte, Nat.reduceEqDiff])
          go_simp
          refine (iRank_ok (B := w1.heap.size) p N N n1 k1 A1 da _ (ho3.rd.below hbl (by omega)) hd1 (by omega) HOK1.out).mono ?_
          rintro e wc ⟨rfl, hbc⟩
          rw [← HRK.out]
          go_simp
          exact hK _ _ rfl hbc
        · obtain rfl := Option.some.inj ho
          clear ho hi
          have e13 : vs 13 = .bool false := hd 13 (by rfl)
          obtain ⟨vs, rfl⟩ := vs_at e13
          refine ite_take (wanted_yes (b := false) rfl rfl rfl rfl rfl) ?_
          (try simp only [↓reduceIte, Nat.reduceEqDiff])
          obtain ⟨x0, x1, x2, x3⟩ := (hm1.step hbl).four
          go_simp
          exact hK _ _ rfl (Below.refl _ _)
        · obtain rfl := Option.some.inj ho
          clear ho hi
          have e13 : vs 13 = .bool false := hd 13 (by rfl)
          obtain ⟨vs, rfl⟩ := vs_at e13
          have e16 : vs 16 = .agg #[.int .i64 p, .int .i64 N, .int .i64 N, .slice A1 n1 k1] := hd 16 (by rfl)
          obtain ⟨vs, rfl⟩ := vs_at e16
          refine ite_take (wanted_yes (b := false) rfl rfl rfl rfl rfl) ?_
          (try simp only [↓reduceIte, Nat.reduceEqDiff])
          go_simp
          refine (iKern_ok (B := w1.heap.size) p N N n1 k1 A1 da _ (ho3.rd.below hbl (by omega)) hd1 (by omega) HOK1.out).mono ?_
          rw [← HKR.out]
          rintro e wc ⟨Ac, nc, kc, rfl, hdc, hbc, hoc⟩
          go_simp
          exact hK _ _ ⟨Ac, nc, kc, rfl, hdc, hoc.rd⟩ hbc
        · obtain rfl := Option.some.inj ho
          clear ho hi
          have e13 : vs 13 = .bool false := hd 13 (by rfl)
          obtain ⟨vs, rfl⟩ := vs_at e13
          obtain ⟨Av17, nv17, kv17, e17, hdv17, hrv17⟩ := hd 17 (by rfl)
          obtain ⟨vs, rfl⟩ := vs_at e17
          refine ite_take (wanted_yes (b := false) rfl rfl rfl rfl rfl) ?_
          (try simp only [↓reduceIte, Nat.reduceEqDiff])
          go_simp
          exact hK _ _ rfl (Below.refl _ _)
        · obtain rfl := Option.some.inj ho
          clear ho hi
          have e13 : vs 13 = .bool false := hd 13 (by rfl)
          obtain ⟨vs, rfl⟩ := vs_at e13
          have e15 : vs 15 = .int .i64 RK := hd 15 (by rfl)
          obtain ⟨vs, rfl⟩ := vs_at e15
          have e18 : vs 18 = .int .i64 KR := hd 18 (by rfl)
          obtain ⟨vs, rfl⟩ := vs_at e18
          refine ite_take (wanted_yes (b := false) rfl rfl rfl rfl rfl) ?_
          (try simp only [↓reduceIte, Nat.reduceEqDiff])
          go_simp
          exact hK _ _ rfl (Below.refl _ _)
        · obtain rfl := Option.some.inj ho
          clear ho hi
          have e13 : vs 13 = .bool false := hd 13 (by rfl)
          obtain ⟨vs, rfl⟩ := vs_at e13
          refine ite_take (wanted_yes (b := false) rfl rfl rfl rfl rfl) ?_
          (try simp only [↓reduceIte, Nat.reduceEqDiff])
          go_simp
          exact hK _ _ rfl (Below.refl _ _)
        · obtain rfl := Option.some.inj ho
          clear ho hi
          have e13 : vs 13 = .bool false := hd 13 (by rfl)
          obtain ⟨vs, rfl⟩ := vs_at e13
          have e20 : vs 20 = .pointer (some ⟨w1.heap.size, 2, none⟩) := hd 20 (by rfl)
          obtain ⟨vs, rfl⟩ := vs_at e20
          refine ite_take (wanted_yes (b := false) rfl rfl rfl rfl rfl) ?_
          (try simp only [↓reduceIte, Nat.reduceEqDiff])
          obtain ⟨x0, x1, x2, x3⟩ := (hm1.step hbl).four
          go_simp
          exact hK _ _ rfl (Below.refl _ _)
        · obtain rfl := Option.some.inj ho
          clear ho hi
          have e13 : vs 13 = .bool false := hd 13 (by rfl)
          obtain ⟨vs, rfl⟩ := vs_at e13
          have e19 : vs 19 = .int .i64 N := hd 19 (by rfl)
          obtain ⟨vs, rfl⟩ := vs_at e19
          have e21 : vs 21 = .int .i64 N := hd 21 (by rfl)
          obtain ⟨vs, rfl⟩ := vs_at e21
          refine ite_take (wanted_yes (b := false) rfl rfl rfl rfl rfl) ?_
          (try simp only [↓reduceIte, Nat.reduceEqDiff])
          go_simp
          exact hK _ _ rfl (Below.refl _ _)
        · obtain rfl := Option.some.inj ho
          clear ho hi
          have e13 : vs 13 = .bool false := hd 13 (by rfl)
          obtain ⟨vs, rfl⟩ := vs_at e13
          have e22 : vs 22 = .bool false := hd 22 (by rfl)
          obtain ⟨vs, rfl⟩ := vs_at e22
          refine ite_take (by rfl) ?_
          (try simp only [↓reduceIte, Nat.reduceEqDiff])
          go_simp
          exact hK _ _ rfl (Below.refl _ _)
        · exact absurd hi (by omega)
      · intro vs wx hbl hall
        have hsw := hbl.size
        have e23 : vs 23 = .bool false := hall 23 (by decide)
        clear hall
        have hm1 := hm1.step hbl
        have ho3 := ho3.below hbl (by omega)
        have hq6 := hq6.trans (hbl.mono (by omega))
        have hm6 := hm6.step hbl
        have ho7 := ho7.below hbl (by omega)
        generalize vs 23 = v87 at *
        subst e23
        generalize vs 0 = v64
        generalize vs 1 = v65
        generalize vs 2 = v66
        generalize vs 3 = v67
        generalize vs 4 = v68
        generalize vs 5 = v69
        generalize vs 6 = v70
        generalize vs 7 = v71
        generalize vs 8 = v72
        generalize vs 9 = v73
        generalize vs 10 = v74
        generalize vs 11 = v75
        generalize vs 12 = v76
        generalize vs 13 = v77
        generalize vs 14 = v78
        generalize vs 15 = v79
        generalize vs 16 = v80
        generalize vs 17 = v81
        generalize vs 18 = v82
        generalize vs 19 = v83
        generalize vs 20 = v84
        generalize vs 21 = v85
        generalize vs 22 = v86
        go_wp2_with fail
        obtain ⟨wz, hwz⟩ : ∃ wz, wz = wx := ⟨_, rfl⟩
        rw [← hwz] at hm1 ho3 hq6 hsw hm6 ho7 ⊢
        clear hbl
        clear hwz wx
        have HIR := Lib.hid (show resB (ivD N p da) p = true from resB_tab fun i j _ _ => rr_res (by omega) (ivF_res (by omega) (okM_bd HOK1.out).2.2.2.2) _ i _)
        have HMI := Lib.hid (HF.out.2.2.2 hiv)
        have HOKI := Lib.hid (okM_mk (d := ivD N p da) HP.out hN (tab_len _ _ _) HIR.out)
        have HZ := Lib.hid (show okZ p N N from ⟨HP.out, ⟨by omega, by omega⟩, ⟨by omega, by omega⟩⟩)
        refine wp_region_val (fun vs => ⟨#[Value.slice A0 n0 k0, undef, vs 24, Value.pointer (some ⟨w1.heap.size, 0, none⟩), Value.pointer (some ⟨w1.heap.size + 1, 0, none⟩), Value.pointer (some ⟨w1.heap.size + 1 + 1, 0, none⟩), Value.int IntKind.i64 X, Value.bool true, Value.int IntKind.i64 Y, Value.bool true, Value.int IntKind.i64 Z, Value.bool true, Value.pointer (some ⟨w6.heap.size, 0, none⟩), Value.bool true, Value.slice A0 n0 k0, Value.bool false, Value.tuple #[Value.agg #[Value.int IntKind.i64 p, Value.int IntKind.i64 ↑N, Value.int IntKind.i64 ↑N, Value.slice A1 n1 k1], Value.agg #[Value.int IntKind.i64 p, Value.int IntKind.i64 ↑N, Value.int IntKind.i64 ↑N, Value.slice A2 n2 k2], Value.agg #[Value.int IntKind.i64 p, Value.int IntKind.i64 ↑N, Value.int IntKind.i64 ↑N, Value.slice A3 n3 k3]], Value.slice A0 n0 k0, Value.tuple #[Value.agg #[Value.int IntKind.i64 p, Value.int IntKind.i64 ↑N, Value.int IntKind.i64 ↑N, Value.slice A1 n1 k1], Value.agg #[Value.int IntKind.i64 p, Value.int IntKind.i64 ↑N, Value.int IntKind.i64 ↑N, Value.slice A2 n2 k2], Value.agg #[Value.int IntKind.i64 p, Value.int IntKind.i64 ↑N, Value.int IntKind.i64 ↑N, Value.slice A3 n3 k3]], Value.agg #[Value.int IntKind.i64 p, Value.int IntKind.i64 ↑N, Value.int IntKind.i64 ↑N, Value.slice A1 n1 k1], Value.agg #[Value.int IntKind.i64 p, Value.int IntKind.i64 ↑N, Value.int IntKind.i64 ↑N, Value.slice A2 n2 k2], Value.agg #[Value.int IntKind.i64 p, Value.int IntKind.i64 ↑N, Value.int IntKind.i64 ↑N, Value.slice A3 n3 k3], Value.tuple #[Value.int IntKind.i64 X, Value.bool true], Value.agg #[Value.int IntKind.i64 p, Value.int IntKind.i64 ↑N, Value.int IntKind.i64 ↑N, Value.slice A1 n1 k1], Value.tuple #[Value.int IntKind.i64 X, Value.bool true], Value.int IntKind.i64 X, Value.bool true, Value.tuple #[Value.int IntKind.i64 Y, Value.bool true], Value.agg #[Value.int IntKind.i64 p, Value.int IntKind.i64 ↑N, Value.int IntKind.i64 ↑N, Value.slice A2 n2 k2], Value.tuple #[Value.int IntKind.i64 Y, Value.bool true], Value.int IntKind.i64 Y, Value.bool true, Value.tuple #[Value.int IntKind.i64 Z, Value.bool true], Value.agg #[Value.int IntKind.i64 p, Value.int IntKind.i64 ↑N, Value.int IntKind.i64 ↑N, Value.slice A1 n1 k1], Value.agg #[Value.int IntKind.i64 p, Value.int IntKind.i64 ↑N, Value.int IntKind.i64 ↑N, Value.slice A2 n2 k2], Value.agg #[Value.int IntKind.i64 p, Value.int IntKind.i64 ↑N, Value.int IntKind.i64 ↑N, Value.slice A4 n4 k4], Value.tuple #[Value.int IntKind.i64 Z, Value.bool true], Value.int IntKind.i64 Z, Value.bool true, Value.bool true, Value.bool false, Value.bool false, Value.bool true, Value.bool false, Value.bool false, Value.bool false, Value.bool true, Value.bool false, Value.bool false, Value.bool false, Value.int IntKind.i64 X, Value.int IntKind.i64 Y, Value.int IntKind.i64 (X * Y), Value.pointer (some ⟨w1.heap.size, 0, none⟩), Value.int IntKind.i64 p, Value.int IntKind.i64 Z, Value.int IntKind.i64 Z, Value.bool false, Value.bool false, Value.tuple #[Value.agg #[Value.int IntKind.i64 p, Value.int IntKind.i64 ↑N, Value.int IntKind.i64 ↑N, Value.slice A6 n6 k6], Value.bool true], Value.agg #[Value.int IntKind.i64 p, Value.int IntKind.i64 ↑N, Value.int IntKind.i64 ↑N, Value.slice A1 n1 k1], Value.tuple #[Value.agg #[Value.int IntKind.i64 p, Value.int IntKind.i64 ↑N, Value.int IntKind.i64 ↑N, Value.slice A6 n6 k6], Value.bool true], Value.agg #[Value.int IntKind.i64 p, Value.int IntKind.i64 ↑N, Value.int IntKind.i64 ↑N, Value.slice A6 n6 k6], Value.bool true, v64, v65, v66, v67, v68, v69, v70, v71, v72, v73, v74, v75, v76, v77, v78, v79, v80, v81, v82, v83, v84, v85, v86, .bool false, vs 0, vs 1, vs 2, vs 3, vs 4, vs 5, vs 6, vs 7, vs 8, vs 9, vs 10, vs 11, vs 12, vs 13, vs 14, vs 15, vs 16, vs 17, vs 18, vs 19, vs 20, vs 21, vs 22, vs 23], []⟩) (fun k => ([.eq (.bool true), .eq (.bool false), .eq (.bool false), .eq (.agg #[.int .i64 p, .int .i64 N, .int .i64 N, .slice A1 n1 k1]), .eq (.agg #[.int .i64 p, .int .i64 N, .int .i64 N, .slice A6 n6 k6]), .mat p N N (mulD N N N da (ivD N p da) p), .eq (.pointer (some ⟨w1.heap.size, 0, none⟩)), .eq (.int .i64 p), .eq (.pointer (some ⟨w1.heap.size, 1, none⟩)), .eq (.int .i64 N), .mat p N N (unitD N N), .eq (.bool true), .eq (.bool true), .eq (.agg #[.int .i64 p, .int .i64 N, .int .i64 N, .slice A6 n6 k6]), .eq (.agg #[.int .i64 p, .int .i64 N, .int .i64 N, .slice A1 n1 k1]), .mat p N N (mulD N N N (ivD N p da) da p), .eq (.pointer (some ⟨w1.heap.size, 0, none⟩)), .eq (.int .i64 p), .eq (.pointer (some ⟨w1.heap.size, 1, none⟩)), .eq (.int .i64 N), .mat p N N (unitD N N), .eq (.bool true), .eq (.bool true), .eq (.bool true), .eq (.bool true)] : List VS).getD k .any) (fun k => if k = 24 then (Value.bool false) else undef) (wz.heap.size) wz (by rfl) (by rfl) (Below.refl _ _) (by kernel_rfl) ?_ ?_ (Nat.le_refl _)
        · rintro i oi vs wx ho hbl hd K hK
          have hi : i < 25 := by
            rcases Nat.lt_or_ge i 25 with h | h
            · exact h
            · rw [Array.getElem?_eq_none (by simpa using h)] at ho; cases ho
          have hsw := hbl.size
          rcases i with _ | _ | _ | _ | _ | _ | _ | _ | _ | _ | _ | _ | _ | _ | _ | _ | _ | _ | _ | _ | _ | _ | _ | _ | _ | i''
          · obtain rfl := Option.some.inj ho
            clear ho hi
            refine ite_take (by rfl) ?_
            go_simp
            exact hK _ _ rfl (Below.refl _ _)
          · obtain rfl := Option.some.inj ho
            clear ho hi
            have e0 : vs 0 = .bool true := hd 0 (by rfl)
            obtain ⟨vs, rfl⟩ := vs_at e0
            refine ite_take (by rfl) ?_
            (try simp only [↓reduceIte, Nat.reduceEqDiff])
            go_simp
            exact hK _ _ rfl (Below.refl _ _)
          · obtain rfl := Option.some.inj ho
            clear ho hi
            have e1 : vs 1 = .bool false := hd 1 (by rfl)
            obtain ⟨vs, rfl⟩ := vs_at e1
            refine ite_take (by rfl) ?_
            (try simp only [↓reduceIte, Nat.reduceEqDiff])
            go_simp
            exact hK _ _ rfl (Below.refl _ _)
          · obtain rfl := Option.some.inj ho
            clear ho hi
            have e2 : vs 2 = .bool false := hd 2 (by rfl)
            obtain ⟨vs, rfl⟩ := vs_at e2
            refine ite_take (wanted_yes (b := false) rfl rfl rfl rfl rfl) ?_
            (try simp only [↓reduceIte, Nat.reduceEqDiff])
            obtain ⟨x0, x1, x2, x3⟩ := (hm1.step hbl).four
            go_simp
            exact hK _ _ rfl (Below.refl _ _)
          · obtain rfl := Option.some.inj ho
            clear ho hi
            have e2 : vs 2 = .bool false := hd 2 (by rfl)
            obtain ⟨vs, rfl⟩ := vs_at e2
            refine ite_take (wanted_yes (b := false) rfl rfl rfl rfl rfl) ?_
            (try simp only [↓reduceIte, Nat.reduceEqDiff])
            obtain ⟨y0, y1, y2, y3⟩ := (hm6.step hbl).four
            go_simp
            exact hK _ _ rfl (Below.refl _ _)
          · obtain rfl := Option.some.inj ho
            clear ho hi
            have e2 : vs 2 = .bool false := hd 2 (by rfl)
            obtain ⟨vs, rfl⟩ := vs_at e2
            have e3 : vs 3 = .agg #[.int .i64 p, .int .i64 N, .int .i64 N, .slice A1 n1 k1] := hd 3 (by rfl)
            obtain ⟨vs, rfl⟩ := vs_at e3
            have e4 : vs 4 = .agg #[.int .i64 p, .int .i64 N, .int .i64 N, .slice A6 n6 k6] := hd 4 (by rfl)
            obtain ⟨vs, rfl⟩ := vs_at e4
            refine ite_take (wanted_yes (b := false) rfl rfl rfl rfl rfl) ?_
            (try simp only [↓reduceIte, Nat.reduceEqDiff])
            go_simp
            refine (ltimes_ok p N N N n1 k1 n6 k6 A1 A6 da (ivD N p da) _ (B := wx.heap.size) (ho3.rd.below hbl (by omega) |>.up (by omega)) (ho7.rd.below hbl (by omega) |>.up (by omega)) hd6 (Nat.le_refl _) HOK1.out HOKI.out).mono ?_
            rintro e wc ⟨Ac, nc, kc, rfl, hdc, hbc, hoc⟩
            go_simp
            exact hK _ _ ⟨Ac, nc, kc, rfl, hdc, hoc.rd⟩ hbc
          · obtain rfl := Option.some.inj ho
            clear ho hi
            have e2 : vs 2 = .bool false := hd 2 (by rfl)
            obtain ⟨vs, rfl⟩ := vs_at e2
            refine ite_take (wanted_yes (b := false) rfl rfl rfl rfl rfl) ?_
            (try simp only [↓reduceIte, Nat.reduceEqDiff])
            go_simp
            exact hK _ _ rfl (Below.refl _ _)
          · obtain rfl := Option.some.inj ho
            clear ho hi
            have e2 : vs 2 = .bool false := hd 2 (by rfl)
            obtain ⟨vs, rfl⟩ := vs_at e2
            have e6 : vs 6 = .pointer (some ⟨w1.heap.size, 0, none⟩) := hd 6 (by rfl)
            obtain ⟨vs, rfl⟩ := vs_at e6
            refine ite_take (wanted_yes (b := false) rfl rfl rfl rfl rfl) ?_
            (try simp only [↓reduceIte, Nat.reduceEqDiff])
            obtain ⟨x0, x1, x2, x3⟩ := (hm1.step hbl).four
            go_simp
            exact hK _ _ rfl (Below.refl _ _)
          · obtain rfl := Option.some.inj ho
            clear ho hi
            have e2 : vs 2 = .bool false := hd 2 (by rfl)
            obtain ⟨vs, rfl⟩ := vs_at e2
            refine ite_take (wanted_yes (b := false) rfl rfl rfl rfl rfl) ?_
            (try simp only [↓reduceIte, Nat.reduceEqDiff])
            go_simp
            exact hK _ _ rfl (Below.refl _ _)
          · obtain rfl := Option.some.inj ho
            clear ho hi
            have e2 : vs 2 = .bool false := hd 2 (by rfl)
            obtain ⟨vs, rfl⟩ := vs_at e2
            have e8 : vs 8 = .pointer (some ⟨w1.heap.size, 1, none⟩) := hd 8 (by rfl)
            obtain ⟨vs, rfl⟩ := vs_at e8
            refine ite_take (wanted_yes (b := false) rfl rfl rfl rfl rfl) ?_
            (try simp only [↓reduceIte, Nat.reduceEqDiff])
            obtain ⟨x0, x1, x2, x3⟩ := (hm1.step hbl).four
            go_simp
            exact hK _ _ rfl (Below.refl _ _)
          · obtain rfl := Option.some.inj ho
            clear ho hi
            have e2 : vs 2 = .bool false := hd 2 (by rfl)
            obtain ⟨vs, rfl⟩ := vs_at e2
            have e7 : vs 7 = .int .i64 p := hd 7 (by rfl)
            obtain ⟨vs, rfl⟩ := vs_at e7
            have e9 : vs 9 = .int .i64 N := hd 9 (by rfl)
            obtain ⟨vs, rfl⟩ := vs_at e9
            refine ite_take (wanted_yes (b := false) rfl rfl rfl rfl rfl) ?_
            (try simp only [↓reduceIte, Nat.reduceEqDiff])
            go_simp
            refine (sUnit_ok p N _ HZ.out).mono ?_
            rintro e wc ⟨Ac, nc, kc, rfl, hdc, hbc, hoc⟩
            go_simp
            exact hK _ _ ⟨Ac, nc, kc, rfl, hdc, hoc.rd⟩ hbc
          · obtain rfl := Option.some.inj ho
            clear ho hi
            have e2 : vs 2 = .bool false := hd 2 (by rfl)
            obtain ⟨vs, rfl⟩ := vs_at e2
            obtain ⟨Av5, nv5, kv5, e5, hdv5, hrv5⟩ := hd 5 (by rfl)
            obtain ⟨vs, rfl⟩ := vs_at e5
            obtain ⟨Av10, nv10, kv10, e10, hdv10, hrv10⟩ := hd 10 (by rfl)
            obtain ⟨vs, rfl⟩ := vs_at e10
            refine ite_take (wanted_yes (b := false) rfl rfl rfl rfl rfl) ?_
            (try simp only [↓reduceIte, Nat.reduceEqDiff])
            go_simp
            refine (lequal_any p N N _ _ _ _ p N N _ _ _ _ _ (B1 := wx.heap.size) (B2 := wx.heap.size) hrv5 (Nat.le_refl _) hrv10 (Nat.le_refl _)).mono ?_
            rintro e wc ⟨rfl, hbc⟩
            rw [show (p == p && (N : Int) == (N : Int) && (N : Int) == (N : Int) && mulD N N N da (ivD N p da) p == unitD N N) = true by rw [HMI.out.1]; simp]
            go_simp
            exact hK _ _ rfl hbc
          · obtain rfl := Option.some.inj ho
            clear ho hi
            have e2 : vs 2 = .bool false := hd 2 (by rfl)
            obtain ⟨vs, rfl⟩ := vs_at e2
            have e11 : vs 11 = .bool true := hd 11 (by rfl)
            obtain ⟨vs, rfl⟩ := vs_at e11
            refine ite_take (wanted_yes (b := false) rfl rfl rfl rfl rfl) ?_
            (try simp only [↓reduceIte, Nat.reduceEqDiff])
            go_simp
            exact hK _ _ rfl (Below.refl _ _)
          · obtain rfl := Option.some.inj ho
            clear ho hi
            have e12 : vs 12 = .bool true := hd 12 (by rfl)
            obtain ⟨vs, rfl⟩ := vs_at e12
            refine ite_take (wanted_yes (b := true) rfl rfl rfl rfl rfl) ?_
            (try simp only [↓reduceIte, Nat.reduceEqDiff])
            obtain ⟨y0, y1, y2, y3⟩ := (hm6.step hbl).four
            go_simp
            exact hK _ _ rfl (Below.refl _ _)
          · obtain rfl := Option.some.inj ho
            clear ho hi
            have e12 : vs 12 = .bool true := hd 12 (by rfl)
            obtain ⟨vs, rfl⟩ := vs_at e12
            refine ite_take (wanted_yes (b := true) rfl rfl rfl rfl rfl) ?_
            (try simp only [↓reduceIte, Nat.reduceEqDiff])
            obtain ⟨x0, x1, x2, x3⟩ := (hm1.step hbl).four
            go_simp
            exact hK _ _ rfl (Below.refl _ _)
          · obtain rfl := Option.some.inj ho
            clear ho hi
            have e12 : vs 12 = .bool true := hd 12 (by rfl)
            obtain ⟨vs, rfl⟩ := vs_at e12
            have e13 : vs 13 = .agg #[.int .i64 p, .int .i64 N, .int .i64 N, .slice A6 n6 k6] := hd 13 (by rfl)
            obtain ⟨vs, rfl⟩ := vs_at e13
            have e14 : vs 14 = .agg #[.int .i64 p, .int .i64 N, .int .i64 N, .slice A1 n1 k1] := hd 14 (by rfl)
            obtain ⟨vs, rfl⟩ := vs_at e14
            refine ite_take (wanted_yes (b := true) rfl rfl rfl rfl rfl) ?_
            (try simp only [↓reduceIte, Nat.reduceEqDiff])
            go_simp
            refine (ltimes_ok p N N N n6 k6 n1 k1 A6 A1 (ivD N p da) da _ (B := wx.heap.size) (ho7.rd.below hbl (by omega) |>.up (by omega)) (ho3.rd.below hbl (by omega) |>.up (by omega)) hd1 (Nat.le_refl _) HOKI.out HOK1.out).mono ?_
            rintro e wc ⟨Ac, nc, kc, rfl, hdc, hbc, hoc⟩
            go_simp
            exact hK _ _ ⟨Ac, nc, kc, rfl, hdc, hoc.rd⟩ hbc
          · obtain rfl := Option.some.inj ho
            clear ho hi
            have e12 : vs 12 = .bool true := hd 12 (by rfl)
            obtain ⟨vs, rfl⟩ := vs_at e12
            refine ite_take (wanted_yes (b := true) rfl rfl rfl rfl rfl) ?_
            (try simp only [↓reduceIte, Nat.reduceEqDiff])
            go_simp
            exact hK _ _ rfl (Below.refl _ _)
          · obtain rfl := Option.some.inj ho
            clear ho hi
            have e12 : vs 12 = .bool true := hd 12 (by rfl)
            obtain ⟨vs, rfl⟩ := vs_at e12
            have e16 : vs 16 = .pointer (some ⟨w1.heap.size, 0, none⟩) := hd 16 (by rfl)
            obtain ⟨vs, rfl⟩ := vs_at e16
            refine ite_take (wanted_yes (b := true) rfl rfl rfl rfl rfl) ?_
            (try simp only [↓reduceIte, Nat.reduceEqDiff])
            obtain ⟨x0, x1, x2, x3⟩ := (hm1.step hbl).four
            go_simp
            exact hK _ _ rfl (Below.refl _ _)
          · obtain rfl := Option.some.inj ho
            clear ho hi
            have e12 : vs 12 = .bool true := hd 12 (by rfl)
            obtain ⟨vs, rfl⟩ := vs_at e12
            refine ite_take (wanted_yes (b := true) rfl rfl rfl rfl rfl) ?_
            (try simp only [↓reduceIte, Nat.reduceEqDiff])
            go_simp
            exact hK _ _ rfl (Below.refl _ _)
          · obtain rfl := Option.some.inj ho
            clear ho hi
            have e12 : vs 12 = .bool true := hd 12 (by rfl)
            obtain ⟨vs, rfl⟩ := vs_at e12
            have e18 : vs 18 = .pointer (some ⟨w1.heap.size, 1, none⟩) := hd 18 (by rfl)
            obtain ⟨vs, rfl⟩ := vs_at e18
            refine ite_take (wanted_yes (b := true) rfl rfl rfl rfl rfl) ?_
            (try simp only [↓reduceIte, Nat.reduceEqDiff])
            obtain ⟨x0, x1, x2, x3⟩ := (hm1.step hbl).four
            go_simp
            exact hK _ _ rfl (Below.refl _ _)
          · obtain rfl := Option.some.inj ho
            clear ho hi
            have e12 : vs 12 = .bool true := hd 12 (by rfl)
            obtain ⟨vs, rfl⟩ := vs_at e12
            have e17 : vs 17 = .int .i64 p := hd 17 (by rfl)
            obtain ⟨vs, rfl⟩ := vs_at e17
            have e19 : vs 19 = .int .i64 N := hd 19 (by rfl)
            obtain ⟨vs, rfl⟩ := vs_at e19
            refine ite_take (wanted_yes (b := true) rfl rfl rfl rfl rfl) ?_
            (try simp only [↓reduceIte, Nat.reduceEqDiff])
            go_simp
            refine (sUnit_ok p N _ HZ.out).mono ?_
            rintro e wc ⟨Ac, nc, kc, rfl, hdc, hbc, hoc⟩
            go_simp
            exact hK _ _ ⟨Ac, nc, kc, rfl, hdc, hoc.rd⟩ hbc
          · obtain rfl := Option.some.inj ho
            clear ho hi
            have e12 : vs 12 = .bool true := hd 12 (by rfl)
            obtain ⟨vs, rfl⟩ := vs_at e12
            obtain ⟨Av15, nv15, kv15, e15, hdv15, hrv15⟩ := hd 15 (by rfl)
            obtain ⟨vs, rfl⟩ := vs_at e15
            obtain ⟨Av20, nv20, kv20, e20, hdv20, hrv20⟩ := hd 20 (by rfl)
            obtain ⟨vs, rfl⟩ := vs_at e20
            refine ite_take (wanted_yes (b := true) rfl rfl rfl rfl rfl) ?_
            (try simp only [↓reduceIte, Nat.reduceEqDiff])
            go_simp
            refine (lequal_any p N N _ _ _ _ p N N _ _ _ _ _ (B1 := wx.heap.size) (B2 := wx.heap.size) hrv15 (Nat.le_refl _) hrv20 (Nat.le_refl _)).mono ?_
            rintro e wc ⟨rfl, hbc⟩
            rw [show (p == p && (N : Int) == (N : Int) && (N : Int) == (N : Int) && mulD N N N (ivD N p da) da p == unitD N N) = true by rw [HMI.out.2]; simp]
            go_simp
            exact hK _ _ rfl hbc
          · obtain rfl := Option.some.inj ho
            clear ho hi
            have e2 : vs 2 = .bool false := hd 2 (by rfl)
            obtain ⟨vs, rfl⟩ := vs_at e2
            have e12 : vs 12 = .bool true := hd 12 (by rfl)
            obtain ⟨vs, rfl⟩ := vs_at e12
            have e21 : vs 21 = .bool true := hd 21 (by rfl)
            obtain ⟨vs, rfl⟩ := vs_at e21
            refine ite_take (wanted_yes (b := false) rfl rfl rfl rfl rfl) ?_
            (try simp only [↓reduceIte, Nat.reduceEqDiff])
            go_simp
            exact hK _ _ rfl (Below.refl _ _)
          · obtain rfl := Option.some.inj ho
            clear ho hi
            have e2 : vs 2 = .bool false := hd 2 (by rfl)
            obtain ⟨vs, rfl⟩ := vs_at e2
            have e22 : vs 22 = .bool true := hd 22 (by rfl)
            obtain ⟨vs, rfl⟩ := vs_at e22
            refine ite_take (by rfl) ?_
            (try simp only [↓reduceIte, Nat.reduceEqDiff])
            go_simp
            exact hK _ _ rfl (Below.refl _ _)
          · obtain rfl := Option.some.inj ho
            clear ho hi
            have e23 : vs 23 = .bool true := hd 23 (by rfl)
            obtain ⟨vs, rfl⟩ := vs_at e23
            refine ite_take (by rfl) ?_
            (try simp only [↓reduceIte, Nat.reduceEqDiff])
            go_simp
            exact hK _ _ rfl (Below.refl _ _)
          · exact absurd hi (by omega)
        · intro vs wx hbl hall
          have hsw := hbl.size
          have e24 : vs 24 = .bool true := hall 24 (by decide)
          clear hall
          generalize vs 24 = v2 at *
          subst e24
          go_wp2
          go_ret
          exact ⟨rfl, hq6.trans (hbl.mono (by omega))⟩
end Go.Proofs.Ytfiganobjjjloaa
