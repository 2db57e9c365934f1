/- FormatAlgebra of the reference. No condition but what each theorem names. -/
import Derived.Test.YtnkcjekfjlbcdaaDoorFal
import Derived.Test.YtnkcjekfjlbcdaaDoorAIkW
import Derived.Test.YtnkcjekfjlbcdaaDoorRin
namespace Go.Proofs.YtnkcjekfjlbcdaaDoor
set_option linter.unusedVariables false
set_option linter.unusedSimpArgs false
set_option maxRecDepth 20000
open Go Go.RowKit
set_option maxHeartbeats 4000000
theorem RdI.four (w : World) (a b c d : Int) (T : TypeId) : RdI (w.alloc (.cells #[.int .i64 a, .int .i64 b, .int .i64 c, .int .i64 d] T)) (w.heap.size + 1) (some ⟨w.heap.size, 0, none⟩) 4 [a, b, c, d] :=
  ⟨rfl, by unfold maxLen; omega, fun _ => ⟨_, _, rfl, by omega, fun j hj => by
    rw [Nat.zero_add]
    refine (Box.new w _ _).cell ?_
    match j, hj with
    | 0, _ => rfl
    | 1, _ => rfl
    | 2, _ => rfl
    | 3, _ => rfl⟩⟩
theorem sFal_no {B : Nat} (p n : Int) (l k : Nat) (A : Option Addr) (d : List Int) (w : World) (h : RdI w B A l d) (hd : Hd A l k) (hB : B ≤ w.heap.size) (hok : okA p n d = false) :
    Calls Tryd.prog 5 #[.agg #[.int .i64 p, .int .i64 n, .slice A l k]] w (Rv (.string ⟨#[]⟩) w) := by
  have hbx := Box.new w #[.int .i64 p, .int .i64 n, .slice A l k] 27
  obtain ⟨x0, x1, x2⟩ := hbx.three
  have hr := h.alloc hB (.cells #[.int .i64 p, .int .i64 n, .slice A l k] 27)
  go_enter Tryd.func5, Tryd.ntmps5
  go_wp2_with fail
  refine (sAlg_any (B := B) p n l k A d _ hr hd (by rw [World.size_alloc]; omega)).mono ?_
  rw [hok]
  rintro e w1 ⟨rfl, hb1⟩
  go_wp2
  go_ret
  exact ⟨rfl, (by repeat' (first | (with_reducible exact Below.refl _ _) | (with_reducible refine Below.setCell ?_ (by first | exact Nat.le_refl _ | omega | (simp only [World.size_alloc, World.size_setCell, World.heap_drewN]; omega) | (simp; omega)) _) | (with_reducible refine Below.alloc ?_ (by first | exact Nat.le_refl _ | omega | (simp only [World.size_alloc, World.size_setCell, World.heap_drewN]; omega) | (simp; omega)) _) | (with_reducible refine below_drewN ?_ _) | (with_reducible refine Below.drew ?_) | (with_reducible refine Below.trans ?_ (hb1.mono (by first | exact Nat.le_refl _ | omega | (simp only [World.size_alloc, World.size_setCell, World.heap_drewN]; omega) | (simp; omega))))))⟩
theorem sFal_ok {B : Nat} (p : Int) (N l k : Nat) (A : Option Addr) (d : List Int) (w : World) (h : RdI w B A l d) (hd : Hd A l k) (hB : B ≤ w.heap.size) (hok : okA p N d = true) :
    Calls Tryd.prog 5 #[.agg #[.int .i64 p, .int .i64 N, .slice A l k]] w (Rv (.string ⟨(fmtA p N d).toArray⟩) w) := by
  have hbx := Box.new w #[.int .i64 p, .int .i64 N, .slice A l k] 27
  obtain ⟨x0, x1, x2⟩ := hbx.three
  have hr := h.alloc hB (.cells #[.int .i64 p, .int .i64 N, .slice A l k] 27)
  go_enter Tryd.func5, Tryd.ntmps5
  go_wp2_with fail
  refine (sAlg_any (B := B) p N l k A d _ hr hd (by rw [World.size_alloc]; omega)).mono ?_
  rw [hok]
  rintro e w1 ⟨rfl, hb1⟩
  have hs1 := hb1.size
  rw [World.size_alloc] at hs1
  have hb := hbx.below hb1 (by simp)
  have hr1 := hr.below hb1 (by rw [World.size_alloc]; omega)
  have hq1 : Below w.heap.size w w1 := (by repeat' (first | (with_reducible exact Below.refl _ _) | (with_reducible refine Below.setCell ?_ (by first | exact Nat.le_refl _ | omega | (simp only [World.size_alloc, World.size_setCell, World.heap_drewN]; omega) | (simp; omega)) _) | (with_reducible refine Below.alloc ?_ (by first | exact Nat.le_refl _ | omega | (simp only [World.size_alloc, World.size_setCell, World.heap_drewN]; omega) | (simp; omega)) _) | (with_reducible refine below_drewN ?_ _) | (with_reducible refine Below.drew ?_) | (with_reducible refine Below.trans ?_ (hb1.mono (by first | exact Nat.le_refl _ | omega | (simp only [World.size_alloc, World.size_setCell, World.heap_drewN]; omega) | (simp; omega))))))
  clear x0 x1 x2 hbx hr hb1
  go_wp2_with fail
  obtain ⟨hp, _, hN28, hl, hres, _⟩ := okA_bd hok
  obtain ⟨hp1, hp2⟩ := isP_bd hp
  have hN : N ≤ 28 := by omega
  rw [Int.toNat_natCast] at hl
  have HL2 := Lib.hid (show l = N * N * N by rw [← h.1]; exact hl)
  obtain ⟨sp, hsp⟩ : ∃ sp, sp = (⟨(Lib.itoa p).toArray⟩ : ByteArray) := ⟨_, rfl⟩
  obtain ⟨sn, hsn⟩ : ∃ sn, sn = (⟨(Lib.itoa (N : Int)).toArray⟩ : ByteArray) := ⟨_, rfl⟩
  have HC1 := Lib.hid (show ∀ w, Calls Tryd.prog 11 #[.int .i64 p] w fun e w' => e = .returned (.string sp) ∧ Below w.heap.size w w' from fun w => by rw [hsp]; exact sFmt_any p w (by omega) (by omega))
  have HC2 := Lib.hid (show ∀ w, Calls Tryd.prog 11 #[.int .i64 (N : Int)] w fun e w' => e = .returned (.string sn) ∧ Below w.heap.size w w' from fun w => by rw [hsn]; exact sFmt_any N w (by omega) (by omega))
  have hsp1 : sp.size ≤ 21 := by rw [hsp]; have := Lib.itoa_length_le p (by omega) (by omega); simpa [ByteArray.size] using this
  have hsn1 : sn.size ≤ 21 := by rw [hsn]; have := Lib.itoa_length_le (N : Int) (by omega) (by omega); simpa [ByteArray.size] using this
  have HSP := Lib.hid hsp
  have HSN := Lib.hid hsn
  have HRS := Lib.hid hres
  clear hsp hsn hres hp hok
  refine wp_region_val (fun vs => ⟨#[Value.agg #[Value.int IntKind.i64 p, Value.int IntKind.i64 ↑N, Value.slice A l k], Value.pointer (some ⟨w.heap.size, 0, none⟩), Value.string { data := #[] }, vs 9, undef, undef, undef, Value.agg #[Value.int IntKind.i64 p, Value.int IntKind.i64 ↑N, Value.slice A l k], Value.bool true, Value.bool false, vs 0, vs 1, vs 2, vs 3, vs 4, vs 5, vs 6, vs 7, vs 8, undef, undef, undef, undef, undef, undef, undef, undef, undef, undef, undef, undef, undef, undef, undef, undef, undef, undef, undef, undef, undef, undef, undef, undef, undef, undef, undef, undef, undef, undef, undef, undef, undef, undef, undef, undef, undef, undef, undef, undef, undef, undef, undef], []⟩) (fun k => ([.eq (.pointer (some ⟨w.heap.size, 0, none⟩)), .eq (.int .i64 p), .eq (.string sp), .eq (.string (sp ++ ⟨#[32]⟩)), .eq (.pointer (some ⟨w.heap.size, 1, none⟩)), .eq (.int .i64 N), .eq (.string sn), .eq (.string (sp ++ ⟨#[32]⟩ ++ sn)), .eq (.string (sp ++ ⟨#[32]⟩ ++ sn ++ ⟨#[10]⟩)), .eq (.string (sp ++ ⟨#[32]⟩ ++ sn ++ ⟨#[10]⟩))] : List VS).getD k .any) (fun k => undef) (w1.heap.size) w1 (by rfl) (by rfl) (Below.refl _ _) (by kernel_rfl) ?_ ?_ (Nat.le_refl _)
  · rintro i oi vs wx ho hbl hd K hK
    have hi : i < 10 := by
      rcases Nat.lt_or_ge i 10 with h | h
      · exact h
      · rw [Array.getElem?_eq_none (by simpa using h)] at ho; cases ho
    have hsw := hbl.size
    rcases i with _ | _ | _ | _ | _ | _ | _ | _ | _ | _ | i''
    · obtain rfl := Option.some.inj ho
      clear ho hi
      refine ite_take (by rfl) ?_
      go_simp
      exact hK _ _ rfl (Below.refl _ _)
    · obtain rfl := Option.some.inj ho
      clear ho hi
      have e0 : vs 0 = .pointer (some ⟨w.heap.size, 0, none⟩) := hd 0 (by rfl)
      obtain ⟨vs, rfl⟩ := vs_at e0
      refine ite_take (by rfl) ?_
      (try simp only [↓reduceIte, Nat.reduceEqDiff])
      obtain ⟨x0, x1, x2⟩ := (hb.step hbl).three
      go_simp
      exact hK _ _ rfl (Below.refl _ _)
    · obtain rfl := Option.some.inj ho
      clear ho hi
      have e1 : vs 1 = .int .i64 p := hd 1 (by rfl)
      obtain ⟨vs, rfl⟩ := vs_at e1
      refine ite_take (by rfl) ?_
      (try simp only [↓reduceIte, Nat.reduceEqDiff])
      go_simp
      refine (HC1.out _).mono ?_
      rintro e wc ⟨rfl, hbc⟩
      go_simp
      exact hK _ _ rfl hbc
    · obtain rfl := Option.some.inj ho
      clear ho hi
      have e2 : vs 2 = .string sp := hd 2 (by rfl)
      obtain ⟨vs, rfl⟩ := vs_at e2
      refine ite_take (by rfl) ?_
      (try simp only [↓reduceIte, Nat.reduceEqDiff])
      go_simp
      rw [if_neg (by omega)]
      go_simp
      exact hK _ _ rfl (Below.refl _ _)
    · obtain rfl := Option.some.inj ho
      clear ho hi
      refine ite_take (by rfl) ?_
      go_simp
      exact hK _ _ rfl (Below.refl _ _)
    · obtain rfl := Option.some.inj ho
      clear ho hi
      have e4 : vs 4 = .pointer (some ⟨w.heap.size, 1, none⟩) := hd 4 (by rfl)
      obtain ⟨vs, rfl⟩ := vs_at e4
      refine ite_take (by rfl) ?_
      (try simp only [↓reduceIte, Nat.reduceEqDiff])
      obtain ⟨x0, x1, x2⟩ := (hb.step hbl).three
      go_simp
      exact hK _ _ rfl (Below.refl _ _)
    · obtain rfl := Option.some.inj ho
      clear ho hi
      have e5 : vs 5 = .int .i64 N := hd 5 (by rfl)
      obtain ⟨vs, rfl⟩ := vs_at e5
      refine ite_take (by rfl) ?_
      (try simp only [↓reduceIte, Nat.reduceEqDiff])
      go_simp
      refine (HC2.out _).mono ?_
      rintro e wc ⟨rfl, hbc⟩
      go_simp
      exact hK _ _ rfl hbc
    · obtain rfl := Option.some.inj ho
      clear ho hi
      have e3 : vs 3 = .string (sp ++ ⟨#[32]⟩) := hd 3 (by rfl)
      obtain ⟨vs, rfl⟩ := vs_at e3
      have e6 : vs 6 = .string sn := hd 6 (by rfl)
      obtain ⟨vs, rfl⟩ := vs_at e6
      refine ite_take (by rfl) ?_
      (try simp only [↓reduceIte, Nat.reduceEqDiff])
      go_simp
      rw [if_neg (by omega)]
      go_simp
      exact hK _ _ rfl (Below.refl _ _)
    · obtain rfl := Option.some.inj ho
      clear ho hi
      have e7 : vs 7 = .string (sp ++ ⟨#[32]⟩ ++ sn) := hd 7 (by rfl)
      obtain ⟨vs, rfl⟩ := vs_at e7
      refine ite_take (by rfl) ?_
      (try simp only [↓reduceIte, Nat.reduceEqDiff])
      go_simp
      rw [if_neg (by omega)]
      go_simp
      exact hK _ _ rfl (Below.refl _ _)
    · obtain rfl := Option.some.inj ho
      clear ho hi
      have e8 : vs 8 = .string (sp ++ ⟨#[32]⟩ ++ sn ++ ⟨#[10]⟩) := hd 8 (by rfl)
      obtain ⟨vs, rfl⟩ := vs_at e8
      refine ite_take (by rfl) ?_
      (try simp only [↓reduceIte, Nat.reduceEqDiff])
      go_simp
      exact hK _ _ rfl (Below.refl _ _)
    · exact absurd hi (by omega)
  · intro vs wx hbl hall
    have hsw := hbl.size
    have e9 := hall 9 (by decide)
    clear hall
    have hbx := hb.step hbl
    have hrx := hr1.below hbl (by omega)
    have hqx := hq1.trans (hbl.mono (by omega))
    have HS := Lib.hid (show (sp ++ ⟨#[32]⟩ ++ sn ++ ⟨#[10]⟩ : ByteArray) = ⟨(headF p N).toArray⟩ by
      rw [headF_eq, HSP.out, HSN.out, show (⟨#[32]⟩ : ByteArray) = ⟨([32] : List UInt8).toArray⟩ from rfl, show (⟨#[10]⟩ : ByteArray) = ⟨([10] : List UInt8).toArray⟩ from rfl, bytes_app, bytes_app, bytes_app]
      simp)
    have e9' : vs 9 = .string ⟨(headF p N).toArray⟩ := by rw [← HS.out]; exact e9
    clear e9
    generalize vs 9 = v9 at e9' ⊢
    subst e9'
    generalize vs 0 = v10
    generalize vs 1 = v11
    generalize vs 2 = v12
    generalize vs 3 = v13
    generalize vs 4 = v14
    generalize vs 5 = v15
    generalize vs 6 = v16
    generalize vs 7 = v17
    generalize vs 8 = v18
    clear hb hr1 hq1 hbl
    have hhd := headF_len (p := p) (N := N) (by omega) (by omega)
    have HT := Lib.hid (show In64T N d from fun i j k hi hj hk => by
      have := resB_get HRS.out (show (i * N + j) * N + k < d.length by rw [hl]; exact tA_lt hi hj hk)
      unfold tA; omega)
    go_wp2_with fail
    go_loopw [3, 4] (fun s i wr => ∃ (m : Nat) (X : List UInt8), m ≤ N ∧ i = .int .i64 m ∧ s = .string ⟨X.toArray⟩ ∧ Hid (X = headF p N ++ lnI N d m) ∧ Below wx.heap.size wx wr) (fun _ i _ => N - (intOf i).toNat)
    case atStart => exact ⟨0, headF p N, by omega, rfl, rfl, Lib.hid (by simp [lnI]), Below.refl _ _⟩
    case round =>
      obtain ⟨m, X, hm, rfl, rfl, HX, hbm⟩ := hrel
      have HLI := Lib.hid (lnI_len HT.out hN m hm)
      have hs0 := hbm.size
      obtain ⟨x0, x1, x2⟩ := (hbx.step hbm).three
      by_cases hlt : m < N
      · go_wp2_with fail
        go_loopw [3, 5] (fun s i wb => ∃ (j : Nat) (Y : List UInt8), m + 1 ≤ j ∧ j ≤ N ∧ i = .int .i64 j ∧ s = .string ⟨Y.toArray⟩ ∧ Hid (Y = headF p N ++ lnI N d m ++ lnJ N d m j) ∧ Below wx.heap.size wx wb) (fun _ i _ => N - (intOf i).toNat)
        case atStart => exact ⟨m + 1, X, by omega, by omega, by go_num, rfl, Lib.hid (by rw [lnJ_low _ _ _ _ (Nat.le_refl _), List.append_nil, HX.out]), hbm⟩
        case round =>
          clear x0 x1 x2
          obtain ⟨j, Y, hj0, hj, rfl, rfl, HY, hbj⟩ := hrel
          have HLJ := Lib.hid (lnJ_len HT.out hN hlt j hj)
          have hs1 := hbj.size
          obtain ⟨x0, x1, x2⟩ := (hbx.step hbj).three
          by_cases hltj : j < N
          · go_wp2_with fail
            go_loopw [3, 6] (fun s i wc => ∃ (t : Nat) (Z : List UInt8), t ≤ N ∧ i = .int .i64 t ∧ s = .string ⟨Z.toArray⟩ ∧ Hid (Z = headF p N ++ lnI N d m ++ lnJ N d m j ++ lnK N d m j t) ∧ Below wx.heap.size wx wc) (fun _ i _ => N - (intOf i).toNat)
            case atStart => exact ⟨0, Y, by omega, rfl, rfl, Lib.hid (by rw [HY.out]; simp [lnK]), hbj⟩
            case round =>
              clear x0 x1 x2
              obtain ⟨t, Z, ht, rfl, rfl, HZ, hbt⟩ := hrel
              have HLK := Lib.hid (lnK_len HT.out hN hlt hltj t ht)
              have hs2 := hbt.size
              obtain ⟨x0, x1, x2⟩ := (hbx.step hbt).three
              by_cases hltt : t < N
              · have hrt := hrx.below hbt (by omega)
                go_wp2_with fail
                refine (l2Get_any (p := p) (k := k) wr hrt (by omega) HL2.out hlt hltj hltt (by omega)).mono ?_
                rintro e w4 ⟨rfl, hb4⟩
                obtain ⟨c, hcc⟩ : ∃ c, tA N d m j t = c := ⟨_, rfl⟩
                rw [hcc]
                have HCC := Lib.hid hcc
                have hcb := HT.out m j t hlt hltj hltt
                rw [hcc] at hcb
                have hs4 := hb4.size
                have hb4' := hbt.trans (hb4.mono hs2)
                clear hcc
                by_cases hc0 : c = 0
                · have HK := Lib.hid (lnK_zero (N := N) (d := d) (i := m) (j := j) (m := t) (by rw [HCC.out]; exact hc0))
                  subst hc0
                  go_wp2
                  go_roundw
                  case rel => exact ⟨t + 1, Z, by omega, by go_num, rfl, Lib.hid (by rw [HK.out, HZ.out]), hb4'⟩
                  case measure => simp [intOf]; omega
                · have HK := Lib.hid (lnK_line (N := N) (d := d) (i := m) (j := j) (m := t) (by rw [HCC.out]; exact hc0))
                  rw [HCC.out] at HK
                  have hcn : (c != 0) = true := by simpa using hc0
                  have hr4 := hrx.below hb4' (by omega)
                  clear x0 x1 x2 hc0
                  obtain ⟨x0, x1, x2⟩ := (hbx.step hb4').three
                  go_wp2_with fail
                  refine (l2Get_any (p := p) (k := k) w4 hr4 (by omega) HL2.out hlt hltj hltt (by omega)).mono ?_
                  rw [HCC.out]
                  rintro e w5 ⟨rfl, hb5⟩
                  have hs5 := hb5.size
                  have hb5' := hb4'.trans (hb5.mono (by omega))
                  have hR4 := RdI.four w5 (m : Int) (j : Int) (t : Int) c 3
                  go_wp2_with fail
                  refine (sFms_any (B := w5.heap.size + 1) _ 4 4 _ _ hR4 (by rw [World.size_alloc]; omega) (by omega) (lineF_in (by omega) (by omega) (by omega) hcb)).mono ?_
                  rintro e w6 ⟨rfl, hb6⟩
                  have hs6 := hb6.size
                  rw [World.size_alloc] at hs6
                  have hb6' := hb5'.trans (((Below.refl w5.heap.size w5).alloc (Nat.le_refl _) (.cells #[.int .i64 (m : Int), .int .i64 (j : Int), .int .i64 (t : Int), .int .i64 c] 3)).trans (hb6.mono (by simp)) |>.mono (by omega))
                  obtain ⟨F, hF⟩ : ∃ F, F = fmtL [(m : Int), (j : Int), (t : Int), c] := ⟨_, rfl⟩
                  have hFl : F.length ≤ 88 := by rw [hF]; have := lineF_len (i := m) (j := j) (k := t) (c := c) (by omega) (by omega) (by omega) hcb; unfold lineF at this; rw [List.length_append] at this; simp at this ⊢; omega
                  rw [← hF]
                  have HF := Lib.hid hF
                  clear hF hR4 hb5' hb6 hb5 hr4 x0 x1 x2
                  have hZl : Z.length ≤ 2100000 := by
                    rw [HZ.out]
                    simp only [List.length_append]
                    have h1 := HLI.out
                    have h2 := HLJ.out
                    have h3 := HLK.out
                    omega
                  have HSS := Lib.hid (show ({ data := Z.toArray } ++ { data := F.toArray } ++ { data := #[10] } : ByteArray) = ⟨(Z ++ F ++ [10]).toArray⟩ by
                    rw [show ({ data := #[10] } : ByteArray) = ⟨([10] : List UInt8).toArray⟩ from rfl, bytes_app, bytes_app])
                  go_wp2
                  go_roundw
                  case rel => exact ⟨t + 1, Z ++ F ++ [10], by omega, by go_num, by rw [HSS.out], Lib.hid (by rw [HK.out, HZ.out, HF.out]; unfold lineF; simp only [List.append_assoc]), hb6'⟩
                  case measure => simp [intOf]; omega
              · obtain rfl : t = N := by omega
                have HSJ := Lib.hid (lnJ_succ (N := t) (d := d) (show m < j by omega))
                go_wp2
                go_roundw
                case rel => exact ⟨j + 1, Z, by omega, by omega, by go_num, rfl, Lib.hid (by rw [HSJ.out, HZ.out, List.append_assoc _ (lnJ t d m j)]), hbt⟩
                case measure => simp [intOf]; omega
          · obtain rfl : j = N := by omega
            go_wp2
            go_roundw
            case rel => exact ⟨m + 1, Y, by omega, by go_num, rfl, Lib.hid (by rw [lnI, HY.out, List.append_assoc _ (lnI j d m)]), hbj⟩
            case measure => simp [intOf]; omega
      · obtain rfl : m = N := by omega
        have HW := Lib.hid (show wholeF p m d = X by rw [HX.out]; rfl)
        have hqr := hqx.trans (hbm.mono (by omega))
        have hXl : X.length ≤ 2100000 := by
          rw [HX.out]
          simp only [List.length_append]
          have h1 := HLI.out
          omega
        by_cases hbig : 60000 < X.length
        · have hF := Lib.hid (show fmtA p m d = [] by unfold fmtA; rw [HW.out, if_pos hbig])
          have hb : decide ((60000 : Int) < (X.length : Int)) = true := by simp; omega
          go_wp2
          go_ret
          exact ⟨by rw [hF.out]; rfl, hqr⟩
        · have hF := Lib.hid (show fmtA p m d = X by unfold fmtA; rw [HW.out, if_neg hbig])
          have hb : decide ((60000 : Int) < (X.length : Int)) = false := by simp; omega
          go_wp2
          go_ret
          exact ⟨by rw [hF.out]; rfl, hqr⟩
end Go.Proofs.YtnkcjekfjlbcdaaDoor
