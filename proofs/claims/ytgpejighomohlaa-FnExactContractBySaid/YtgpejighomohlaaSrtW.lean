/- ordered, l4Sorted: sorting by exchanges, with the sign. No condition but what each theorem names. -/
import Derived.Test.YtgpejighomohlaaSrt
import Derived.Test.YtgpejighomohlaaTbl
import Derived.Test.YtgpejighomohlaaCpW
import Derived.Test.YtgpejighomohlaaTail
namespace Go.Proofs.Ytgpejighomohlaa
set_option linter.unusedVariables false
set_option linter.unusedSimpArgs false
set_option maxRecDepth 20000
open Go.RowKit Go.Sort
set_option maxHeartbeats 4000000
/-- a call that hands back a new slice and a number -/
def RetSI (xs : List Int) (s : Int) (w : World) (e : Ending) (w' : World) : Prop :=
  ∃ A n c, e = .returned (.tuple #[.slice A n c, .int .i64 s]) ∧ Hd A n c ∧ Below w.heap.size w w' ∧ OwI w' w.heap.size w'.heap.size A n xs
theorem RetSI.nil {l : List Int} {w w' : World} (h1 : srtL l = []) (h2 : srtS l = 0) (hb : Below w.heap.size w w') : RetSI (srtL l) (srtS l) w (.returned (.tuple #[.slice none 0 0, .int .i64 0])) w' := by
  rw [h1, h2]
  exact ⟨none, 0, 0, rfl, Hd.nil, hb, OwI.emp _ _ _ _⟩
set_option maxRecDepth 100000 in
theorem ordered_any {B : Nat} (n k : Nat) (A : Option Addr) (l : List Int) (w : World) (h : RdI w B A n l) (hd : Hd A n k) (hB : B ≤ w.heap.size) (hn : n ≤ 1000) :
    Calls Try.prog 90 #[.slice A n k] w (RetSI (srtL l) (srtS l) w) := by
  have hll := h.1
  have HLL := Lib.hid hll
  clear hll
  go_enter Try.func90, Try.ntmps90
  go_wp2_with fail
  refine (clone_any (B := B) A n k l _ h hd hB (by omega)).mono ?_
  rintro e w1 ⟨A1, n1, k1, rfl, hd1, hb1, ho1⟩
  obtain rfl : n = n1 := by have := ho1.1; rw [HLL.out] at this; exact this
  have hs1 := hb1.size
  clear h
  go_wp2_with fail
  go_loopw [5, 12] (fun s i wr => ∃ (i' : Nat) (xs : List Int) (s' : Int), i' ≤ n ∧ i = .int .i64 i' ∧ s = .int .i64 s' ∧ Chg w.heap.size w1.heap.size w1 wr ∧ OwI wr w.heap.size w1.heap.size A1 n xs ∧ Hid (SrtP l xs s' ∧ PreI xs i')) (fun _ i _ => n - (intOf i).toNat)
  case atStart => exact ⟨0, l, 1, by omega, rfl, rfl, Chg.refl _ _ _, ho1, srtP_start l, fun a b hab hb => absurd hb (by omega)⟩
  case round =>
    clear ho1
    obtain ⟨i, xs, s, hi, rfl, rfl, hch, ho, HP⟩ := hrel
    by_cases hlt : i < n
    · go_wp2_with fail
      obtain ⟨wo, rfl⟩ : ∃ wo : World, wo = wr := ⟨_, rfl⟩
      go_loopw [5, 7] (fun s j wr => ∃ (j' : Nat) (xs : List Int) (s' : Int), j' ≤ i ∧ j = .int .i64 j' ∧ s = .int .i64 s' ∧ Chg w.heap.size w1.heap.size w1 wr ∧ OwI wr w.heap.size w1.heap.size A1 n xs ∧ Hid (SrtP l xs s' ∧ InsI xs i j')) (fun _ j _ => (intOf j).toNat)
      case atStart => exact ⟨i, xs, s, by omega, rfl, rfl, hch, ho, HP.out.1, ins_start HP.out.2⟩
      case round =>
        clear hch ho HP
        obtain ⟨j, xs, s, hj, rfl, rfl, hch, ho, HP⟩ := hrel
        have hsz := hch.size
        rcases Nat.eq_zero_or_pos j with hj0 | hj0
        · subst hj0
          go_wp2_with fail
          (refine wp_region_quiet_below (w := wr) (by kernel_rfl) (by kernel_rfl) ?_; (repeat (go_big_quiet_step (fail))); refine wpQuiet_nil ?_; rintro W ⟨pp, hW⟩; have hbW : Below wr.heap.size wr W := hW ▸ below_regrown _ _ _; clear hW)
          go_wp2
          go_roundw
          case rel => exact ⟨i + 1, xs, s, by omega, by go_num, rfl, hch.trans (Chg.ofBelow hbW (Nat.le_refl _)), ho.below hbW (by omega), HP.out.1, ins_zero HP.out.2⟩
          case measure => simp [intOf]; omega
        · obtain ⟨j, rfl⟩ : ∃ j', j = j' + 1 := ⟨j - 1, by omega⟩
          clear hj0
          obtain ⟨b, o, rfl⟩ := ho.addr (by omega)
          obtain ⟨hc1, hf1⟩ := ho.at_ (show j < n by omega)
          obtain ⟨hc2, hf2⟩ := ho.at_ (show j + 1 < n by omega)
          have hxl := ho.1
          have HXL := Lib.hid hxl
          have HO := Lib.hid ho
          have q1 := cell_regrown hc1
          have q2 := cell_regrown hc2
          have n1 : (0 : Int) ≤ (j : Int) + 1 := by omega
          have n2 : ((j : Int) + 1).toNat = j + 1 := by omega
          have n3 : (j : Int) + 1 < n := by omega
          have n4 : (j : Int) < n := by omega
          have n5 : (0 : Int) < (j : Int) + 1 := by omega
          have w5 : IntKind.i64.wrap ((j : Int) + 1 - 1) = j := by rw [Int.add_sub_cancel]; exact IntWalk.i64_in _ (by omega)
          have w6 : IntKind.i64.wrap (j : Int) = j := IntWalk.i64_in _ (by omega)
          clear hxl hf1 hf2 ho
          rcases Int.lt_trichotomy (gI xs j) (gI xs (j + 1)) with hg | hg | hg
          · have t1 : decide (gI xs (j + 1) ≤ gI xs j) = false := by simpa using hg
            have HG := Lib.hid hg
            clear hg hc1 hc2
            go_wp2_with fail
            (refine wp_region_quiet_below (w := wr) (by kernel_rfl) (by kernel_rfl) ?_; (repeat (go_big_quiet_step (fail))); refine wpQuiet_nil ?_; rintro W ⟨pp, hW⟩; have hbW : Below wr.heap.size wr W := hW ▸ below_regrown _ _ _; clear hW)
            clear q1 q2 w5 w6
            go_wp2
            go_roundw
            case rel => exact ⟨i + 1, xs, s, by omega, by go_num, rfl, hch.trans (Chg.ofBelow hbW (Nat.le_refl _)), HO.out.below hbW (by omega), HP.out.1, ins_stop HP.out.2 HG.out⟩
            case measure => simp [intOf]; omega
          · have t1 : decide (gI xs (j + 1) ≤ gI xs j) = true := by simp; omega
            have t2 : (gI xs j == gI xs (j + 1)) = true := by simpa using hg
            have HG := Lib.hid hg
            clear hg hc1 hc2
            go_wp2_with fail
            (refine wp_region_quiet_below (w := wr) (by kernel_rfl) (by kernel_rfl) ?_; (repeat (go_big_quiet_step (fail))); refine wpQuiet_nil ?_; rintro W ⟨pp, hW⟩; have hbW : Below wr.heap.size wr W := hW ▸ below_regrown _ _ _; clear hW)
            obtain ⟨wa, hwa⟩ : ∃ wa : World, wa = W := ⟨_, rfl⟩
            have hbA : Below wr.heap.size wr wa := hwa ▸ hbW
            have hoA := HO.out.below hbA (by omega)
            rw [← hwa]
            clear hwa hbW q1 q2
            obtain ⟨hc1, -⟩ := hoA.at_ (show j < n by omega)
            obtain ⟨hc2, -⟩ := hoA.at_ (show j + 1 < n by omega)
            have q1 := cell_regrown hc1
            have q2 := cell_regrown hc2
            clear hc1 hc2
            go_wp2_with fail
            (refine wp_region_quiet_below (w := wa) (by kernel_rfl) (by kernel_rfl) ?_; (repeat (go_big_quiet_step (fail))); refine wpQuiet_nil ?_; rintro W ⟨pp, hW⟩; have hbW : Below wa.heap.size wa W := hW ▸ below_regrown _ _ _; clear hW)
            have hsA := hbA.size
            have hD := srt_dup HP.out.1.1 (a := j) (b := j + 1) (by omega) (by rw [HXL.out]; omega) HG.out
            have HD := Lib.hid hD
            clear q1 q2 w5 w6 hD
            go_wp2
            go_ret2
            exact RetSI.nil HD.out.1 HD.out.2 ((hb1.trans (hch.below (by omega))).trans ((hbA.trans (hbW.mono (by omega))).mono (by omega)))
          · have t1 : decide (gI xs (j + 1) ≤ gI xs j) = true := by simp; omega
            have t2 : (gI xs j == gI xs (j + 1)) = false := by simp; omega
            have HG := Lib.hid hg
            clear hg hc1 hc2
            go_wp2_with fail
            (refine wp_region_quiet_below (w := wr) (by kernel_rfl) (by kernel_rfl) ?_; (repeat (go_big_quiet_step (fail))); refine wpQuiet_nil ?_; rintro W ⟨pp, hW⟩; have hbW : Below wr.heap.size wr W := hW ▸ below_regrown _ _ _; clear hW)
            obtain ⟨wa, hwa⟩ : ∃ wa : World, wa = W := ⟨_, rfl⟩
            have hbA : Below wr.heap.size wr wa := hwa ▸ hbW
            have hoA := HO.out.below hbA (by omega)
            rw [← hwa]
            clear hwa hbW q1 q2
            obtain ⟨hc1, -⟩ := hoA.at_ (show j < n by omega)
            obtain ⟨hc2, -⟩ := hoA.at_ (show j + 1 < n by omega)
            have q1 := cell_regrown hc1
            have q2 := cell_regrown hc2
            clear hc1 hc2
            go_wp2_with fail
            (refine wp_region_quiet_below (w := wa) (by kernel_rfl) (by kernel_rfl) ?_; (repeat (go_big_quiet_step (fail))); refine wpQuiet_nil ?_; rintro W ⟨pp, hW⟩; have hbW : Below wa.heap.size wa W := hW ▸ below_regrown _ _ _; clear hW)
            have hsA := hbA.size
            obtain ⟨wd, hwd⟩ : ∃ wd : World, wd = W := ⟨_, rfl⟩
            have hbD : Below wa.heap.size wa wd := hwd ▸ hbW
            have hoD := hoA.below hbD (by omega)
            rw [← hwd]
            clear hwd hbW q1 q2
            obtain ⟨hc1, hf1⟩ := hoD.at_ (show j < n by omega)
            obtain ⟨hc2, hf2⟩ := hoD.at_ (show j + 1 < n by omega)
            have hsb := HP.out.1.2.2
            have hs' : -2 ≤ s ∧ s ≤ 2 := by omega
            have hch2 := hch.trans (Chg.ofBelow (hbA.trans (hbD.mono (by omega))) (Nat.le_refl _))
            have hbk := hoD.blk (by omega)
            have hst := (hoD.store (k := j) (v := gI xs (j + 1)) (by omega)).store (k := j + 1) (v := gI xs j) (by omega)
            have HST := Lib.hid hst
            have HPS := Lib.hid (show SrtP l (swp xs j) (-s) from srtP_swap HP.out.1 (by rw [HXL.out]; omega) HG.out)
            have HIS := Lib.hid (show InsI (swp xs j) i j from ins_step hj (by rw [HXL.out]; exact hlt) HP.out.2 HG.out)
            clear hoD hoA hsb hst
            go_wp2_with fail
            go_region
            all_goals
              have w7 : IntKind.i64.wrap (-s) = -s := IntWalk.i64_in _ (by omega)
              go_wp2
              go_roundw
              case rel => exact ⟨j, swp xs j, -s, by omega, by go_num, by first | rfl | rw [w7], ((hch2.setCell (p := ⟨b, o + j, none⟩) (by exact hbk.1) (by exact hbk.2) _).setCell (p := ⟨b, o + (j + 1), none⟩) (by exact hbk.1) (by exact hbk.2) _).trans ⟨rfl, rfl, rfl, Nat.le_refl _, fun _ _ _ => rfl⟩, by exact HST.out, HPS.out, HIS.out⟩
              case measure => first | (simp [intOf]; done) | (simp [intOf]; omega)
    · obtain rfl : n = i := by omega
      have HD := Lib.hid (srt_done HP.out.1.1 HP.out.1.2.1 (fun a b hab hb => HP.out.2 a b hab (by rw [ho.1] at hb; exact hb)))
      have hsz := hch.size
      go_wp2
      go_ret2
      rw [HD.out.1, HD.out.2]
      exact ⟨_, _, _, rfl, hd1, hb1.trans (hch.below (by omega)), ho.up (by omega)⟩
set_option maxRecDepth 100000 in
theorem l4Sorted_any {B : Nat} (n k : Nat) (A : Option Addr) (l : List Int) (w : World) (h : RdI w B A n l) (hd : Hd A n k) (hB : B ≤ w.heap.size) (hn : n ≤ 1000) :
    Calls Try.prog 85 #[.slice A n k] w (RetSI (srtL l) (srtS l) w) := by
  have hll := h.1
  have HLL := Lib.hid hll
  clear hll
  go_enter Try.func85, Try.ntmps85
  go_wp2_with fail
  refine (l1Ints_any (B := B) A n k l _ h hd hB (by omega)).mono ?_
  rintro e w1 ⟨A1, n1, k1, rfl, hd1, hb1, ho1⟩
  obtain rfl : n = n1 := by have := ho1.1; rw [HLL.out] at this; exact this
  have hs1 := hb1.size
  clear h
  go_wp2_with fail
  go_loopw [5, 6] (fun s i wr => ∃ (i' : Nat) (xs : List Int) (s' : Int), i' ≤ n ∧ i = .int .i64 i' ∧ s = .int .i64 s' ∧ Chg w.heap.size w1.heap.size w1 wr ∧ OwI wr w.heap.size w1.heap.size A1 n xs ∧ Hid (SrtP l xs s' ∧ SufI xs i')) (fun _ i _ => n - (intOf i).toNat)
  case atStart => exact ⟨0, l, 1, by omega, rfl, rfl, Chg.refl _ _ _, ho1, srtP_start l, fun a b hab hb hc => by omega⟩
  case round =>
    clear ho1
    obtain ⟨i, xs, s, hi, rfl, rfl, hch, ho, HP⟩ := hrel
    by_cases hlt : i < n
    · go_wp2_with fail
      obtain ⟨wo, rfl⟩ : ∃ wo : World, wo = wr := ⟨_, rfl⟩
      go_loopw [5, 7] (fun s j wr => ∃ (j' : Nat) (xs : List Int) (s' : Int), j' + 1 ≤ n ∧ j = .int .i64 j' ∧ s = .int .i64 s' ∧ Chg w.heap.size w1.heap.size w1 wr ∧ OwI wr w.heap.size w1.heap.size A1 n xs ∧ Hid (SrtP l xs s' ∧ BubI xs i j')) (fun _ j _ => n - (intOf j).toNat)
      case atStart => exact ⟨0, xs, s, by omega, rfl, rfl, hch, ho, HP.out.1, bub_start HP.out.2⟩
      case round =>
        clear hch ho HP
        obtain ⟨j, xs, s, hj, rfl, rfl, hch, ho, HP⟩ := hrel
        have hsz := hch.size
        by_cases hltj : j + 1 < n
        · obtain ⟨b, o, rfl⟩ := ho.addr (by omega)
          obtain ⟨hc1, hf1⟩ := ho.at_ (show j < n by omega)
          obtain ⟨hc2, hf2⟩ := ho.at_ hltj
          have hxl := ho.1
          have HXL := Lib.hid hxl
          have HO := Lib.hid ho
          have q1 := cell_regrown hc1
          have q2 := cell_regrown hc2
          have n2 : ((j : Int) + 1).toNat = j + 1 := by omega
          have n3 : (j : Int) + 1 < n := by omega
          have n4 : (j : Int) < n := by omega
          have w5 : IntKind.i64.wrap ((j : Int) + 1) = (j : Int) + 1 := IntWalk.i64_in _ (by omega)
          clear hxl hf1 hf2 ho
          rcases Int.lt_trichotomy (gI xs j) (gI xs (j + 1)) with hg | hg | hg
          · have t1 : decide (gI xs (j + 1) < gI xs j) = false := by simp; omega
            have t2 : (gI xs j == gI xs (j + 1)) = false := by simp; omega
            have HG := Lib.hid hg
            clear hg hc1 hc2
            go_wp2_with fail
            (refine wp_region_quiet_below (w := wr) (by kernel_rfl) (by kernel_rfl) ?_; (repeat (go_big_quiet_step (fail))); refine wpQuiet_nil ?_; rintro W ⟨pp, hW⟩; have hbW : Below wr.heap.size wr W := hW ▸ below_regrown _ _ _; clear hW)
            obtain ⟨wa, hwa⟩ : ∃ wa : World, wa = W := ⟨_, rfl⟩
            have hbA : Below wr.heap.size wr wa := hwa ▸ hbW
            have hoA := HO.out.below hbA (by omega)
            rw [← hwa]
            clear hwa hbW q1 q2
            obtain ⟨hc1, -⟩ := hoA.at_ (show j < n by omega)
            obtain ⟨hc2, -⟩ := hoA.at_ hltj
            have q1 := cell_regrown hc1
            have q2 := cell_regrown hc2
            clear hc1 hc2
            go_wp2_with fail
            (refine wp_region_quiet_below (w := wa) (by kernel_rfl) (by kernel_rfl) ?_; (repeat (go_big_quiet_step (fail))); refine wpQuiet_nil ?_; rintro W ⟨pp, hW⟩; have hbW : Below wa.heap.size wa W := hW ▸ below_regrown _ _ _; clear hW)
            have hsA := hbA.size
            clear q1 q2 w5
            go_wp2
            go_roundw
            case rel => exact ⟨j + 1, xs, s, by omega, by go_num, rfl, hch.trans (Chg.ofBelow (hbA.trans (hbW.mono (by omega))) (Nat.le_refl _)), hoA.below hbW (by omega), HP.out.1, bub_keep (by rw [HXL.out]; exact hltj) HP.out.2 HG.out⟩
            case measure => simp [intOf]; omega
          · have t2 : (gI xs j == gI xs (j + 1)) = true := by simpa using hg
            have HG := Lib.hid hg
            clear hg hc1 hc2
            go_wp2_with fail
            (refine wp_region_quiet_below (w := wr) (by kernel_rfl) (by kernel_rfl) ?_; (repeat (go_big_quiet_step (fail))); refine wpQuiet_nil ?_; rintro W ⟨pp, hW⟩; have hbW : Below wr.heap.size wr W := hW ▸ below_regrown _ _ _; clear hW)
            have hD := srt_dup HP.out.1.1 (a := j) (b := j + 1) (by omega) (by rw [HXL.out]; omega) HG.out
            have HD := Lib.hid hD
            clear q1 q2 w5 hD
            go_wp2
            go_ret2
            exact RetSI.nil HD.out.1 HD.out.2 ((hb1.trans (hch.below (by omega))).trans (hbW.mono (by omega)))
          · have t1 : decide (gI xs (j + 1) < gI xs j) = true := by simp; omega
            have t2 : (gI xs j == gI xs (j + 1)) = false := by simp; omega
            have HG := Lib.hid hg
            clear hg hc1 hc2
            go_wp2_with fail
            (refine wp_region_quiet_below (w := wr) (by kernel_rfl) (by kernel_rfl) ?_; (repeat (go_big_quiet_step (fail))); refine wpQuiet_nil ?_; rintro W ⟨pp, hW⟩; have hbW : Below wr.heap.size wr W := hW ▸ below_regrown _ _ _; clear hW)
            obtain ⟨wa, hwa⟩ : ∃ wa : World, wa = W := ⟨_, rfl⟩
            have hbA : Below wr.heap.size wr wa := hwa ▸ hbW
            have hoA := HO.out.below hbA (by omega)
            rw [← hwa]
            clear hwa hbW q1 q2
            obtain ⟨hc1, -⟩ := hoA.at_ (show j < n by omega)
            obtain ⟨hc2, -⟩ := hoA.at_ hltj
            have q1 := cell_regrown hc1
            have q2 := cell_regrown hc2
            clear hc1 hc2
            go_wp2_with fail
            (refine wp_region_quiet_below (w := wa) (by kernel_rfl) (by kernel_rfl) ?_; (repeat (go_big_quiet_step (fail))); refine wpQuiet_nil ?_; rintro W ⟨pp, hW⟩; have hbW : Below wa.heap.size wa W := hW ▸ below_regrown _ _ _; clear hW)
            have hsA := hbA.size
            obtain ⟨wd, hwd⟩ : ∃ wd : World, wd = W := ⟨_, rfl⟩
            have hbD : Below wa.heap.size wa wd := hwd ▸ hbW
            have hoD := hoA.below hbD (by omega)
            rw [← hwd]
            clear hwd hbW q1 q2
            obtain ⟨hc1, hf1⟩ := hoD.at_ (show j < n by omega)
            obtain ⟨hc2, hf2⟩ := hoD.at_ hltj
            have hsb := HP.out.1.2.2
            have hs' : -2 ≤ s ∧ s ≤ 2 := by omega
            have hch2 := hch.trans (Chg.ofBelow (hbA.trans (hbD.mono (by omega))) (Nat.le_refl _))
            have hbk := hoD.blk (by omega)
            have hst := (hoD.store (k := j) (v := gI xs (j + 1)) (by omega)).store (k := j + 1) (v := gI xs j) (by omega)
            have HST := Lib.hid hst
            have HPS := Lib.hid (show SrtP l (swp xs j) (-s) from srtP_swap HP.out.1 (by rw [HXL.out]; omega) HG.out)
            have HIS := Lib.hid (show BubI (swp xs j) i (j + 1) from bub_swap (by rw [HXL.out]; exact hltj) HP.out.2 HG.out)
            have w7 : IntKind.i64.wrap (-s) = -s := IntWalk.i64_in _ (by omega)
            clear hoD hoA hsb hst w5
            go_wp2
            go_roundw
            case rel => exact ⟨j + 1, swp xs j, -s, by omega, by go_num, by first | rfl | rw [w7], (hch2.setCell (p := ⟨b, o + j, none⟩) (by exact hbk.1) (by exact hbk.2) _).setCell (p := ⟨b, o + (j + 1), none⟩) (by exact hbk.1) (by exact hbk.2) _, by exact HST.out, HPS.out, HIS.out⟩
            case measure => first | (simp [intOf]; done) | (simp [intOf]; omega)
        · have hle : n ≤ j + 1 := by omega
          have HL := Lib.hid (show SufI xs (i + 1) from bub_done (by rw [ho.1]; exact hlt) (by rw [ho.1]; exact hle) HP.out.2)
          go_wp2
          go_roundw
          case rel => exact ⟨i + 1, xs, s, by omega, by go_num, rfl, hch, ho, HP.out.1, HL.out⟩
          case measure => simp [intOf]; omega
    · obtain rfl : n = i := by omega
      have HD := Lib.hid (srt_done HP.out.1.1 HP.out.1.2.1 (fun a b hab hb => HP.out.2 a b hab hb (by rw [ho.1]; omega)))
      have hsz := hch.size
      go_wp2
      go_ret2
      rw [HD.out.1, HD.out.2]
      exact ⟨_, _, _, rfl, hd1, hb1.trans (hch.below (by omega)), ho.up (by omega)⟩
end Go.Proofs.Ytgpejighomohlaa
