/- The walk of the law on systems. No condition. -/
import Derived.Test.YtfiganobjjjloaaDsyW
import Derived.Test.YtfiganobjjjloaaSee
import Derived.Test.YtfiganobjjjloaaSolTW
import Derived.Test.YtfiganobjjjloaaTopW
import Derived.Test.YtfiganobjjjloaaLwsW
import Derived.Test.YtfiganobjjjloaaRin
import Derived.Deep.RegionLaw
import Derived.Deep.RegionHeld3
import Derived.Deep.DeepCutAuto
namespace Go.Proofs.Ytfiganobjjjloaa
set_option linter.unusedVariables false
set_option linter.unusedSimpArgs false
set_option maxRecDepth 20000
open Go.RowKit Go.Sort
set_option maxHeartbeats 8000000
set_option maxRecDepth 100000 in
theorem walk_FnSolved {w : World} (A0 : Option Addr) (n0 k0 : Nat) (z0 : List Int) (y0 : IsRow .u8 w A0 n0 k0 z0) :
    Calls Try.prog 4 #[.slice A0 n0 k0] w fun e w' => e = .returned (.bool true) ∧ Below w.heap.size w w' := by
  have hr := RdB.ofRow y0
  have hnm := hr.1
  unfold maxLen at hnm
  by_cases hbig : 1048576 < n0
  · go_enter Try.func4, Try.ntmps4
    go_wp2_with (go_at_call 19; refine (big_any _ (by omega)).mono ?_; rintro e w' ⟨rfl, rfl⟩)
    go_ret
    exact ⟨rfl, Below.refl _ _⟩
  · go_enter Try.func4, Try.ntmps4
    go_wp2_with (go_at_call 19; refine (big_any _ (by omega)).mono ?_; rintro e w' ⟨rfl, rfl⟩)
    refine (drawSystem_any A0 n0 k0 w hr (Nat.le_refl _)).mono ?_
    rintro e w1 ⟨p, R, C, d, v, A1, Av, n1, k1, kv, hok, hvr, hR, hC, rfl, hd1, hdv, hb1, ho1, hov⟩
    obtain ⟨hp, -, -, hl, hres⟩ := okM_bd hok
    obtain ⟨hp1, hp2⟩ := isP_bd hp
    have hl : d.length = R * C := by rw [← Int.natCast_mul] at hl; omega
    have HF := Lib.hid (svd_facts (R := R) (C := C) hp hres hov.1 hvr)
    have HOK := Lib.hid hok
    have HVR := Lib.hid hvr
    have HL := Lib.hid (show n1 = R * C by rw [← ho1.1]; exact hl)
    obtain ⟨C1, hC1⟩ : ∃ C1, C1 = C + 1 := ⟨_, rfl⟩
    have HWS := Lib.hid (show ∀ i : Nat, i < R → tab (i + 1) C1 (augF (matF d C) v C) = tab i C1 (augF (matF d C) v C) ++ sub d (i * C) C ++ [gI v i] from fun i hi => by rw [hC1]; exact wide_succ hl hi)
    have hC1i : (C : Int) + 1 = (C1 : Int) := by omega
    have HOKW := Lib.hid (show okM p R C1 (tab R C1 (augF (matF d C) v C)) = true from okM_mk2 hp (by omega) (by omega) (tab_len _ _ _) (tab_res (augF_res (by omega) (matF_res (by omega) hres) hvr)))
    have HP := Lib.hid hp
    obtain ⟨X, hX⟩ : ∃ X, X = solX (rr R p (augF (matF d C) v C) (C + 1)) C := ⟨_, rfl⟩
    obtain ⟨bb, hbb⟩ : ∃ b, b = solB (rr R p (augF (matF d C) v C) (C + 1)) C := ⟨_, rfl⟩
    have HX := Lib.hid hX
    have HXS := Lib.hid (show resB X p = true by rw [hX]; exact solX_res (by omega) (rr_res (by omega) (augF_res (by omega) (matF_res (by omega) hres) hvr) _))
    have HBB := Lib.hid hbb
    have HC1 := Lib.hid hC1
    have hs1 := hb1.size
    have hm1 := Box.new w1 #[.int .i64 p, .int .i64 R, .int .i64 C, .slice A1 n1 k1] 26
    have oa1 := ho1.alloc (Nat.le_refl _) (.cells #[.int .i64 p, .int .i64 R, .int .i64 C, .slice A1 n1 k1] 26)
    have ov1 := hov.alloc (Nat.le_refl _) (.cells #[.int .i64 p, .int .i64 R, .int .i64 C, .slice A1 n1 k1] 26)
    have hq1 := hb1.alloc (by omega) (.cells #[.int .i64 p, .int .i64 R, .int .i64 C, .slice A1 n1 k1] 26)
    have hsa : (w1.alloc (.cells #[.int .i64 p, .int .i64 R, .int .i64 C, .slice A1 n1 k1] 26)).heap.size = w1.heap.size + 1 := by simp
    clear hok hp hl hres hvr hX hbb hC1 hb1 ho1 hov hr y0
    obtain ⟨x0, x1, x2, x3⟩ := hm1.four
    go_wp2_with fail
    generalize w1.alloc (.cells #[.int .i64 p, .int .i64 R, .int .i64 C, .slice A1 n1 k1] 26) = W1 at *
    refine (iSol_ok (B := w1.heap.size) (Bv := w1.heap.size) p R C n1 k1 A1 d Av kv v W1 oa1.rd hd1 (by omega) ov1.rd (by omega) HOK.out HVR.out).mono ?_
    rw [← HX.out, ← HBB.out]
    rintro e w2 ⟨A2, n2, k2, rfl, hd2, hb2, ox2⟩
    have hs2 := hb2.size
    have hm2 := (hm1.below hb2 (by omega)).alloc (.cells #[.int .i64 p, .int .i64 R, .int .i64 C1, .slice none 0 0] 26)
    have oa2 := (oa1.below hb2 (by omega)).alloc (by omega) (.cells #[.int .i64 p, .int .i64 R, .int .i64 C1, .slice none 0 0] 26)
    have ov2 := (ov1.below hb2 (by omega)).alloc (by omega) (.cells #[.int .i64 p, .int .i64 R, .int .i64 C1, .slice none 0 0] 26)
    have ox3 := ox2.alloc (Nat.le_refl _) (.cells #[.int .i64 p, .int .i64 R, .int .i64 C1, .slice none 0 0] 26)
    have hw2 := Box.new w2 #[.int .i64 p, .int .i64 R, .int .i64 C1, .slice none 0 0] 26
    have hq2 := (hq1.trans (hb2.mono (by omega))).alloc (by omega) (.cells #[.int .i64 p, .int .i64 R, .int .i64 C1, .slice none 0 0] 26)
    have hsb : (w2.alloc (.cells #[.int .i64 p, .int .i64 R, .int .i64 C1, .slice none 0 0] 26)).heap.size = w2.heap.size + 1 := by simp
    have hx2 := hm1.below hb2 (by omega)
    clear x0 x1 x2 x3 hm1 oa1 ov1 hq1 hb2 ox2
    obtain ⟨x0, x1, x2, x3⟩ := hx2.four
    go_wp2_with fail
    clear x0 x1 x2 x3 hx2
    clear hC1i
    generalize w2.alloc (.cells #[.int .i64 p, .int .i64 R, .int .i64 C1, .slice none 0 0] 26) = W2 at *
    have hn1 : n1 ≤ 16 := by rw [HL.out]; exact Nat.mul_le_mul hR hC
    have hC5 : C1 ≤ 5 := by have := HC1.out; omega
    go_loopw [8] (fun ii wr => ∃ (i : Nat) (vr : Value), i ≤ R ∧ ii = .int .i64 i ∧ Box wr w2.heap.size #[.int .i64 p, .int .i64 R, .int .i64 C1, vr] ∧ wr.ownsRow (w2.heap.size + 1) 3 1 vr (i * C1) ((tab i C1 (augF (matF d C) v C)).map (Value.int .i64)) ∧ Below w2.heap.size W2 wr ∧ w2.heap.size + 1 ≤ wr.heap.size) (fun ii _ => R - (intOf ii).toNat)
    case atStart => exact ⟨0, _, by omega, rfl, hw2, by have := World.ownsRow_nil W2 (w2.heap.size + 1) 3 1; simpa [tab] using this, Below.refl _ _, by omega⟩
    case round =>
      clear hw2
      obtain ⟨i, vr, hi, rfl, hbx, ho, hbl, hsz⟩ := hrel
      have hma := hm2.below hbl (by omega)
      have hra := oa2.rd.below hbl (by omega)
      have hrv := ov2.rd.below hbl (by omega)
      have hq := hq2.trans (hbl.mono (by omega))
      obtain ⟨x0, x1, x2, x3⟩ := hma.four
      by_cases hlt : i < R
      · obtain ⟨Ar, kr, hdr, hpr, hrow⟩ := lrow_any (p := p) (r := R) (k := k1) hd1 HL.out hlt (by omega) (by omega) (by omega)
        have hrr := hpr _ _ _ hra
        obtain ⟨m, hm⟩ : ∃ m, m = i * C1 := ⟨_, rfl⟩
        have hm20 : m ≤ 20 := by rw [hm]; exact Nat.mul_le_mul (show i ≤ 4 by omega) hC5
        rw [← hm] at ho
        have HM := Lib.hid (show m + C + 1 = (i + 1) * C1 by rw [hm, Nat.add_mul, Nat.one_mul]; have := HC1.out; omega)
        have HS := Lib.hid (HWS.out i hlt)
        obtain ⟨bv, ov, rfl⟩ := hrv.addr (by omega)
        have hvb : bv < w1.heap.size := by obtain ⟨b', o', e, hb, -⟩ := hrv.2.2 (by omega); injection e with e; injection e with e1 e2; omega
        have hcv := hrv.at_ hlt
        have hrow2 := hrr
        have HO := Lib.hid ho
        have HPR := Lib.hid hpr
        have hbc : Below wr.heap.size wr wr := Below.refl _ _
        have hbxc := hbx
        have y3 : wr.cell? ⟨w2.heap.size, 3, none⟩ = some vr := hbx.cell rfl
        have yf := hbx.fz
        clear hm ho hpr
        go_wp2_with fail
        go_region_law (first
          | (go_simp; go_at_call 22; refine (hrow _).mono ?_; rintro e wc ⟨rfl, hbq⟩; have hbq := (by first | with_reducible exact Below.ofDrew hbq | exact hbq : Below wr.heap.size wr wc); have hsc := hbq.size; have hbxc := hbx.step hbq; have y3 : wc.cell? ⟨w2.heap.size, 3, none⟩ = some vr := hbxc.cell rfl; have yf := hbxc.fz; have hrow2 := hrr.below hbq (by omega))
          | (refine step_apI (v := vr) (w := wc) (lo := w2.heap.size + 1) (n := m) (xs := tab i C1 (augF (matF d C) v C)) (ys := sub d (i * C) C) (m := C) rfl (.tmp 42) (.tmp 45) rfl rfl (ownsRow_keep HO.out (fun b _ h => hbq.block b h)) rfl hrow2 hdr (by omega) (by omega) ?_; intro v5 w5 ho5 hg5 hv5; obtain ⟨A5, c5, rfl, hd5⟩ := own_hd ho5; have hlo := fun b e => ((ownsRow_keep HO.out (fun b _ h => hbq.block b h)).lt b e).1; have hbx5 := hbxc.keep (hg5.block _ hbxc.lt (fun e => by have := hlo _ e.symm; omega)); have y3 : w5.cell? ⟨w2.heap.size, 3, none⟩ = some vr := hbx5.cell rfl; have yf := hbx5.fz))
        all_goals
          have hb5 := ((hbl.trans (hbq.mono (by omega))).grown hg5 (by omega) (fun q e => by have := hlo q e; omega))
          have hs5 := hg5.size
          have ho6 := ownsRow_other ho5 (a := ⟨w2.heap.size, 3, none⟩) (fun e => by have := (show w2.heap.size + 1 ≤ w2.heap.size from (ho5.lt _ e).1); omega) (.slice A5 (m + C) c5)
          have hbx6 : Box (w5.setCell ⟨w2.heap.size, 3, none⟩ (.slice A5 (m + C) c5)) w2.heap.size #[.int .i64 p, .int .i64 R, .int .i64 C1, .slice A5 (m + C) c5] := hbx5.set 3 (.slice A5 (m + C) c5)
          have hb6 : Below w2.heap.size W2 (w5.setCell ⟨w2.heap.size, 3, none⟩ (.slice A5 (m + C) c5)) := hb5.setCell (by exact Nat.le_refl _) _
          have hs6 : w5.heap.size ≤ (w5.setCell ⟨w2.heap.size, 3, none⟩ (.slice A5 (m + C) c5)).heap.size := by simp
          have hcv6 := (ov2.rd.below hb6 (by omega)).at_ hlt
          clear y3 yf x0 x1 x2 x3 hcv ho5 hg5 hv5 hb5 hbx5 hbxc hrow2 hbq hbx hrv hra hma HO hlo hbl hq hbc hrr
          go_wp2_with fail
          generalize w5.setCell ⟨w2.heap.size, 3, none⟩ (.slice A5 (m + C) c5) = W6 at *
          have y3 : W6.cell? ⟨w2.heap.size, 3, none⟩ = some (.slice A5 (m + C) c5) := hbx6.cell rfl
          have yf := hbx6.fz
          have y3a : (W6.alloc (.cells #[.int .i64 (gI v i)] 3)).cell? ⟨w2.heap.size, 3, none⟩ = some (.slice A5 (m + C) c5) := (hbx6.alloc _).cell rfl
          have HO6 := Lib.hid ho6
          have HX6 := Lib.hid hbx6
          clear ho6 hbx6
          go_region_law ((refine step_apI (v := .slice A5 (m + C) c5) (w := (W6.alloc (.cells #[.int .i64 (gI v i)] 3)).drew) (lo := w2.heap.size + 1) (n := m + C) (xs := tab i C1 (augF (matF d C) v C) ++ sub d (i * C) C) (ys := [gI v i]) (m := 1) rfl (.tmp 49) (.tmp 54) rfl rfl (ownsRow_keep (HO6.out.alloc (.cells #[.int .i64 (gI v i)] 3)) (fun _ _ _ => rfl)) rfl (OwI.one W6 (gI v i) 3).rd (Hd.self (by unfold maxLen; omega)) (by omega) (by rw [size_drew, World.size_alloc]; omega) ?_; intro v7 w7 ho7 hg7 hv7; obtain ⟨A7, c7, rfl, hd7⟩ := own_hd ho7; have hlo7 := fun b e => (HO6.out.lt b e).1; have hbx7 : Box w7 w2.heap.size _ := ((HX6.out.alloc _).drew).keep (hg7.block _ ((HX6.out.alloc _).drew).lt (fun e => by have := hlo7 _ e.symm; omega)); have y37 : w7.cell? ⟨w2.heap.size, 3, none⟩ = some (.slice A5 (m + C) c5) := hbx7.cell rfl; have yf7 := hbx7.fz))
          all_goals
            have hb7 := (Below.drew1 _ (hb6.alloc (by omega) (.cells #[.int .i64 (gI v i)] 3))).grown hg7 (by rw [size_drew, World.size_alloc]; omega) (fun q e => by have := hlo7 q e; omega)
            have hs7 := hb7.size
            have HB8 := Lib.hid (hb7.setCell (p := ⟨w2.heap.size, 3, none⟩) (by exact Nat.le_refl _) (.slice A7 (m + C + 1) c7))
            have HX8 := Lib.hid (show Box (w7.setCell ⟨w2.heap.size, 3, none⟩ (.slice A7 (m + C + 1) c7)) w2.heap.size #[.int .i64 p, .int .i64 R, .int .i64 C1, .slice A7 (m + C + 1) c7] from hbx7.set 3 _)
            have HO8 := Lib.hid (show (w7.setCell ⟨w2.heap.size, 3, none⟩ (.slice A7 (m + C + 1) c7)).ownsRow (w2.heap.size + 1) 3 1 (.slice A7 (m + C + 1) c7) ((i + 1) * C1) ((tab (i + 1) C1 (augF (matF d C) v C)).map (Value.int .i64)) by
              rw [HS.out, ← HM.out]
              exact ownsRow_other ho7 (a := ⟨w2.heap.size, 3, none⟩) (fun e => by have := (show w2.heap.size + 1 ≤ w2.heap.size from (ho7.lt _ e).1); omega) _)
            clear y3 yf y3a y37 yf7 hbx7 ho7 hg7 hv7 hb7 hb6 hcv6
            go_wp2
            go_roundw
            case rel => exact ⟨i + 1, _, by omega, by go_num, HX8.out, HO8.out, HB8.out, by simp only [World.size_setCell]; omega⟩
            case measure => simp [intOf]; omega
      · obtain rfl : R = i := by omega
        obtain ⟨A5, c5, rfl, hd5⟩ := own_hd ho
        have how := ofOwn' ho (by have : R * C1 ≤ 20 := Nat.mul_le_mul (show R ≤ 4 by omega) hC5
                                  unfold maxLen; omega)
        obtain ⟨RK, hRK⟩ : ∃ RK, RK = (rr R p (matF d C) C).rk := ⟨_, rfl⟩
        obtain ⟨RW, hRW⟩ : ∃ RW, RW = (rr R p (matF (tab R C1 (augF (matF d C) v C)) C1) C1).rk := ⟨_, rfl⟩
        have hsv := HF.out.1
        rw [← HC1.out, (rr_congr (R := R) (C := C1) (p := p) (f := augF (matF d C) v C) (g := matF (tab R C1 (augF (matF d C) v C)) C1) (fun i j hi hj => (matF_tab' hi hj).symm) C1 (Nat.le_refl _)).1, ← hRW, ← hRK] at hsv
        have hbe : (bb != ((RW : Int) == (RK : Int))) = false := by
          have h1 : bb = true ↔ RW = RK := by rw [HBB.out, ← HC1.out]; exact hsv
          rcases bb with _ | _
          · have : ¬ RW = RK := fun h => by have := h1.2 h; cases this
            have h2 : ((RW : Int) == (RK : Int)) = false := by rw [beq_eq_false_iff_ne]; omega
            rw [h2]; rfl
          · have := h1.1 rfl
            have h2 : ((RW : Int) == (RK : Int)) = true := by rw [beq_iff_eq]; omega
            rw [h2]; rfl
        have HRK := Lib.hid hRK
        have HRW := Lib.hid hRW
        clear hsv hRK hRW ho
        go_wp2_with fail
        obtain ⟨be, hbe2⟩ : ∃ be, ((RW : Int) == (RK : Int)) = be := ⟨_, rfl⟩
        rw [hbe2] at hbe
        have hbe3 : (bb == be) = true := by revert hbe; cases bb <;> cases be <;> decide
        clear x0 x1 x2 x3
        refine wp_region_val (fun vs => ⟨#[Value.slice A0 n0 k0, undef, Value.bool false, Value.pointer (some ⟨w1.heap.size, 0, none⟩), Value.slice Av R kv, Value.slice A2 n2 k2, Value.bool bb, Value.pointer (some ⟨w2.heap.size, 0, none⟩), Value.int IntKind.i64 ↑R, undef, undef, undef, undef, undef, Value.slice A0 n0 k0, Value.bool false, Value.tuple #[Value.agg #[Value.int IntKind.i64 p, Value.int IntKind.i64 ↑R, Value.int IntKind.i64 ↑C, Value.slice A1 n1 k1], Value.slice Av R kv], Value.slice A0 n0 k0, Value.tuple #[Value.agg #[Value.int IntKind.i64 p, Value.int IntKind.i64 ↑R, Value.int IntKind.i64 ↑C, Value.slice A1 n1 k1], Value.slice Av R kv], Value.agg #[Value.int IntKind.i64 p, Value.int IntKind.i64 ↑R, Value.int IntKind.i64 ↑C, Value.slice A1 n1 k1], Value.slice Av R kv, Value.tuple #[Value.slice A2 n2 k2, Value.bool bb], Value.agg #[Value.int IntKind.i64 p, Value.int IntKind.i64 ↑R, Value.int IntKind.i64 ↑C, Value.slice A1 n1 k1], Value.slice Av R kv, Value.tuple #[Value.slice A2 n2 k2, Value.bool bb], Value.slice A2 n2 k2, Value.bool bb, Value.pointer (some ⟨w1.heap.size, 0, none⟩), Value.int IntKind.i64 p, Value.pointer (some ⟨w1.heap.size, 1, none⟩), Value.int IntKind.i64 ↑R, Value.pointer (some ⟨w1.heap.size, 2, none⟩), Value.int IntKind.i64 ↑C, Value.int IntKind.i64 ↑C1, Value.agg #[Value.int IntKind.i64 p, Value.int IntKind.i64 ↑R, Value.int IntKind.i64 ↑C1, Value.slice none 0 0], Value.int IntKind.i64 ↑R, Value.pointer (some ⟨w1.heap.size, 1, none⟩), Value.int IntKind.i64 ↑R, Value.bool false, u39, u40, u41, u42, u43, u44, u45, u46, u47, u48, u49, u50, u51, u52, u53, u54, u55, u56, vs 0, vs 1, vs 2, vs 3, vs 4, vs 5, vs 6, undef, undef, undef, undef, undef, undef, undef, undef, undef, undef, undef, undef, undef, undef, undef, undef, undef, undef, undef, undef, undef, undef, undef, undef, undef, undef, undef, undef, undef, undef, undef, undef, undef, undef, undef, undef, undef, undef, undef, undef, undef, undef, undef, undef, undef, undef, undef, undef, undef, undef, undef, undef, undef, undef, undef], []⟩) (fun k => ([.eq (.bool bb), .eq (.agg #[.int .i64 p, .int .i64 R, .int .i64 C1, .slice A5 (R * C1) c5]), .eq (.int .i64 RW), .eq (.agg #[.int .i64 p, .int .i64 R, .int .i64 C, .slice A1 n1 k1]), .eq (.int .i64 RK), .eq (.bool be), .eq (.bool false)] : List VS).getD k .any) (fun k => undef) (wr.heap.size) wr (by rfl) (by rfl) (Below.refl _ _) (by kernel_rfl) ?_ ?_ (Nat.le_refl _)
        · rintro i oi vs wx ho hbl2 hd K hK
          have hi : i < 7 := by
            rcases Nat.lt_or_ge i 7 with h | h
            · exact h
            · rw [Array.getElem?_eq_none (by simpa using h)] at ho; cases ho
          have hsw := hbl2.size
          rcases i with _ | _ | _ | _ | _ | _ | _ | i''
          · obtain rfl := Option.some.inj ho
            clear ho hi
            refine ite_take (by rfl) ?_
            go_simp
            exact hK _ _ rfl (Below.refl _ _)
          · obtain rfl := Option.some.inj ho
            clear ho hi
            refine ite_take (by rfl) ?_
            obtain ⟨y0, y1, y2, y3⟩ := (hbx.step hbl2).four
            go_simp
            exact hK _ _ rfl (Below.refl _ _)
          · obtain rfl := Option.some.inj ho
            clear ho hi
            have e1 : vs 1 = .agg #[.int .i64 p, .int .i64 R, .int .i64 C1, .slice A5 (R * C1) c5] := hd 1 (by rfl)
            obtain ⟨vs, rfl⟩ := vs_at e1
            refine ite_take (by rfl) ?_
            (try simp only [↓reduceIte, Nat.reduceEqDiff])
            go_simp
            refine (iRank_ok (B := wr.heap.size) p R C1 (R * C1) c5 A5 (tab R C1 (augF (matF d C) v C)) _ (how.rd.below hbl2 (Nat.le_refl _)) hd5 (by omega) HOKW.out).mono ?_
            rintro e wc ⟨rfl, hbc⟩
            rw [← HRW.out]
            go_simp
            exact hK _ _ rfl hbc
          · obtain rfl := Option.some.inj ho
            clear ho hi
            refine ite_take (by rfl) ?_
            obtain ⟨x0, x1, x2, x3⟩ := (hma.step hbl2).four
            go_simp
            exact hK _ _ rfl (Below.refl _ _)
          · obtain rfl := Option.some.inj ho
            clear ho hi
            have e3 : vs 3 = .agg #[.int .i64 p, .int .i64 R, .int .i64 C, .slice A1 n1 k1] := hd 3 (by rfl)
            obtain ⟨vs, rfl⟩ := vs_at e3
            refine ite_take (by rfl) ?_
            (try simp only [↓reduceIte, Nat.reduceEqDiff])
            go_simp
            refine (iRank_ok (B := wr.heap.size) p R C n1 k1 A1 d _ ((hra.up (by omega)).below hbl2 (Nat.le_refl _)) hd1 (by omega) HOK.out).mono ?_
            rintro e wc ⟨rfl, hbc⟩
            rw [← HRK.out]
            go_simp
            exact hK _ _ rfl hbc
          · obtain rfl := Option.some.inj ho
            clear ho hi
            have e2 : vs 2 = .int .i64 RW := hd 2 (by rfl)
            obtain ⟨vs, rfl⟩ := vs_at e2
            have e4 : vs 4 = .int .i64 RK := hd 4 (by rfl)
            obtain ⟨vs, rfl⟩ := vs_at e4
            refine ite_take (by rfl) ?_
            (try simp only [↓reduceIte, Nat.reduceEqDiff])
            go_simp
            exact hK _ _ rfl (Below.refl _ _)
          · obtain rfl := Option.some.inj ho
            clear ho hi
            have e0 : vs 0 = .bool bb := hd 0 (by rfl)
            obtain ⟨vs, rfl⟩ := vs_at e0
            have e5 : vs 5 = .bool be := hd 5 (by rfl)
            obtain ⟨vs, rfl⟩ := vs_at e5
            refine ite_take (by rfl) ?_
            (try simp only [↓reduceIte, Nat.reduceEqDiff])
            go_simp
            exact hK _ _ rfl (Below.refl _ _)
          · exact absurd hi (by omega)
        · intro vs wx hbl2 hall
          have hsw := hbl2.size
          have e6 : vs 6 = .bool false := hall 6 (by decide)
          clear hall
          have hma := hma.step hbl2
          have hra := (hra.up (show _ ≤ wr.heap.size by omega)).below hbl2 (Nat.le_refl _)
          have hrv := (hrv.up (show _ ≤ wr.heap.size by omega)).below hbl2 (Nat.le_refl _)
          have hrx := ((ox3.rd.below hbl (by omega)).up (by omega)).below hbl2 (Nat.le_refl _)
          have hq := hq.trans (hbl2.mono (by omega))
          generalize vs 6 = v63 at *
          subst e6
          generalize vs 0 = v57
          generalize vs 1 = v58
          generalize vs 2 = v59
          generalize vs 3 = v60
          generalize vs 4 = v61
          generalize vs 5 = v62
          obtain ⟨x0, x1, x2, x3⟩ := hma.four
          clear hbe hbe3 hbe2 hbx how hbl hbl2
          go_wp2_with fail
          refine (iRed_ok (B := wr.heap.size) p R C n1 k1 A1 d wx hra hd1 (by omega) HOK.out).mono ?_
          rintro e w4 ⟨A4, n4, k4, A6, n6, k6, lo1, hi1, lo2, hi2, rfl, hd4, hd6, hb4, o4, o6, hlo1, hhi1, hlo2, hhi2, -, -, -⟩
          obtain ⟨PV, hPV⟩ : ∃ PV, PV = (rr R p (matF d C) C).pv := ⟨_, rfl⟩
          rw [← hPV] at o6
          have hpl : PV.length = n6 := by rw [← o6.1, pvI_len]
          have HPL := Lib.hid hpl
          have hpn : n6 ≤ 4 := by rw [← hpl, hPV, (rr_rk _ _ _ _).2]; have := (rr_rk R p (matF d C) C).1; omega
          have HPV := Lib.hid (show ∀ c ∈ PV, c < C by rw [hPV]; exact rr_pv R p (matF d C) C)
          have HPE := Lib.hid hPV
          have hs4 := hb4.size
          have hmk := mkB_run (C : Int) C rfl (by omega)
          have hma4 := hma.step hb4
          have hra4 := hra.below hb4 (by omega)
          have hrv4 := hrv.below hb4 (by omega)
          have hrx4 := hrx.below hb4 (by omega)
          have hq4 := hq.trans (hb4.mono (by omega))
          clear x0 x1 x2 x3 hpl hPV hma hra hrv hrx hq hb4
          obtain ⟨x0, x1, x2, x3⟩ := (hma4.alloc (.cells #[.int .i64 p, .int .i64 R, .int .i64 C, .slice A4 n4 k4] 26)).four
          go_wp2_with fail
          clear x0 x1 x2 x3 hmk
          have hbs := Box.new (w4.alloc (.cells #[.int .i64 p, .int .i64 R, .int .i64 C, .slice A4 n4 k4] 26)) (bcs (fun _ => false) C) 4
          rw [World.size_alloc] at hbs
          have hb45 : Below w4.heap.size w4 ((w4.alloc (.cells #[.int .i64 p, .int .i64 R, .int .i64 C, .slice A4 n4 k4] 26)).alloc (.cells (bcs (fun _ => false) C) 4)) := ((Below.refl _ _).alloc (Nat.le_refl _) _).alloc (by simp) _
          have hma5 := hma4.step hb45
          have hra5 := (hra4.up (show _ ≤ w4.heap.size by omega)).below hb45 (Nat.le_refl _)
          have hrv5 := (hrv4.up (show _ ≤ w4.heap.size by omega)).below hb45 (Nat.le_refl _)
          have hrx5 := (hrx4.up (show _ ≤ w4.heap.size by omega)).below hb45 (Nat.le_refl _)
          have hrp5 := (o6.rd.up hhi2).below hb45 (Nat.le_refl _)
          have hq5 := hq4.trans (hb45.mono (by omega))
          have hs5 : w4.heap.size + 2 ≤ ((w4.alloc (.cells #[.int .i64 p, .int .i64 R, .int .i64 C, .slice A4 n4 k4] 26)).alloc (.cells (bcs (fun _ => false) C) 4)).heap.size := by simp
          clear hb45 hma4 hra4 hrv4 hrx4 o6 o4 hq4
          generalize (w4.alloc (.cells #[.int .i64 p, .int .i64 R, .int .i64 C, .slice A4 n4 k4] 26)).alloc (.cells (bcs (fun _ => false) C) 4) = W5 at *
          obtain ⟨wo, hwo⟩ : ∃ wo, wo = wx := ⟨_, rfl⟩
          clear hwo
          go_loopw [12] (fun ii wr => ∃ t : Nat, t ≤ n6 ∧ ii = .int .i64 t ∧ Box wr (w4.heap.size + 1) (bcs (fun j => (PV.take t).contains j) C) ∧ Below (w4.heap.size + 1) W5 wr) (fun ii _ => n6 - (intOf ii).toNat)
          case atStart => exact ⟨0, by omega, rfl, hbs, Below.refl _ _⟩
          case round =>
            clear hbs
            obtain ⟨t, ht, rfl, hbs, hbl2⟩ := hrel
            by_cases hlt : t < n6
            · have hrp := hrp5.below hbl2 (by omega)
              obtain ⟨bp, op, rfl⟩ := hrp.addr (by omega)
              have hcp := hrp.at_ hlt
              have htl : t < PV.length := by rw [HPL.out]; exact hlt
              have hpc : pg PV t < C := HPV.out _ (pg_mem htl)
              rw [pvI_get htl] at hcp
              have hcs := hbs.cell (bcs_get (f := fun j => (PV.take t).contains j) hpc)
              have hfs := hbs.fz
              have HST := Lib.hid (seen_step htl)
              have HBS := Lib.hid (hbs.set (pg PV t) (.bool true))
              rw [bcs_set hpc, HST.out] at HBS
              obtain ⟨c, hc⟩ : ∃ c, c = pg PV t := ⟨_, rfl⟩
              rw [← hc] at hcp hcs hpc HBS
              clear hc hbs HST htl
              go_wp2
              go_roundw
              case rel => exact ⟨t + 1, by omega, by go_num, HBS.out, hbl2.setCell (by exact Nat.le_refl _) _⟩
              case measure => simp [intOf]; omega
            · obtain rfl : n6 = t := by omega
              rw [show PV.take n6 = PV from List.take_of_length_le (by rw [HPL.out]; exact Nat.le_refl _)] at hbs
              have hra := hra5.below hbl2 (by omega)
              have hrv := hrv5.below hbl2 (by omega)
              have hrx := hrx5.below hbl2 (by omega)
              have hma := hma5.below hbl2 (by omega)
              have hq := hq5.trans (hbl2.mono (by omega))
              have hsr := hbl2.size
              have hxl : n2 ≤ C := by rw [← hrx.1, HX.out]; exact solX_le _ _
              have HX0 := Lib.hid HF.out.2.1
              rw [← HX.out, ← HPE.out] at HX0
              clear hbl2 hra5 hrv5 hrx5 hma5 hq5 hrp5
              go_wp2_with fail
              go_loop [13] (fun ii => ∃ k : Nat, k ≤ n2 ∧ ii = .int .i64 k) (fun ii => n2 - (intOf ii).toNat)
              case atStart => exact ⟨0, by omega, rfl⟩
              case round =>
                obtain ⟨k, hk, rfl⟩ := hrel
                by_cases hlt3 : k < n2
                · have hcs := hbs.cell (bcs_get (f := fun j => PV.contains j) (show k < C by omega))
                  obtain ⟨bx, ox, rfl⟩ := hrx.addr (by omega)
                  have hcx := hrx.at_ hlt3
                  rcases hin : PV.contains k with _ | _
                  · rw [hin] at hcs
                    have h0 : gI X k = 0 := HX0.out k (by rw [hrx.1]; exact hlt3) (fun h => by rw [List.contains_iff_mem.2 h] at hin; cases hin)
                    rw [h0] at hcx
                    clear h0 hin
                    go_wp2
                    go_round
                    case rel => exact ⟨k + 1, by omega, by go_num⟩
                    case measure => simp [intOf]; omega
                  · rw [hin] at hcs
                    clear hin
                    go_wp2
                    go_round
                    case rel => exact ⟨k + 1, by omega, by go_num⟩
                    case measure => simp [intOf]; omega
                · obtain rfl : n2 = k := by omega
                  rcases bb with _ | _
                  · go_wp2
                    go_ret
                    exact ⟨rfl, hq⟩
                  · have h3 := HF.out.2.2 HBB.out.symm
                    rw [← HX.out] at h3
                    obtain rfl : n2 = C := by rw [← hrx.1]; exact h3.1
                    have HU := Lib.hid h3.2
                    have HTR := Lib.hid (show resB (trD R n2 d) p = true from resB_tab fun i j _ _ => gI_res (by omega) (okM_bd HOK.out).2.2.2.2 _)
                    have HXR := Lib.hid (show resB X p = true from HXS.out)
                    obtain ⟨x0, x1, x2, x3⟩ := hma.four
                    clear h3
                    go_wp2_with fail
                    refine (iTr_ok (B := w4.heap.size) p R n2 n1 k1 A1 d wr hra (by omega) HOK.out).mono ?_
                    rintro e w9 ⟨A9, n9, k9, rfl, hd9, hb9, ho9⟩
                    have hs9 := hb9.size
                    have HL9 := Lib.hid (show n9 = n2 * R by have := ho9.1; rw [trD, tab_len] at this; exact this.symm)
                    have hrx9 := hrx.below hb9 (by omega)
                    have hrv9 := hrv.below hb9 (by omega)
                    have hq9 := hq.trans (hb9.mono (by omega))
                    clear x0 x1 x2 x3
                    go_wp2_with fail
                    refine (lunder_any (B := w9.heap.size) (Bv := w4.heap.size) p n2 R n9 k9 A9 (trD R n2 d) A2 k2 X w9 ho9.rd (Nat.le_refl _) hrx9 (by omega) HL9.out (by omega) (by omega) (by omega) hp2 HTR.out HXR.out).mono ?_
                    rw [HU.out]
                    rintro e w10 ⟨A10, n10, k10, rfl, hd10, hb10, ho10⟩
                    have hs10 := hb10.size
                    have hrv10 := hrv9.below hb10 (by omega)
                    have hq10 := hq9.trans (hb10.mono (by omega))
                    go_wp2_with fail
                    refine (lints_any (B1 := w10.heap.size) (B2 := w4.heap.size) A10 Av n10 k10 R kv v v w10 ho10.rd hrv10).mono ?_
                    rw [show (v == v) = true by simp]
                    rintro e w11 ⟨rfl, q, rfl⟩
                    go_wp2
                    go_ret
                    exact ⟨rfl, below_drewN hq10 _⟩
end Go.Proofs.Ytfiganobjjjloaa
