/- subsets, l4Subsets, SubsetsOf of both packages. No condition but what each theorem names. -/
import Derived.Test.YtgpejighomohlaaSub
import Derived.Deep.LoopGhost
namespace Go.Proofs.Ytgpejighomohlaa
set_option linter.unusedVariables false
set_option linter.unusedSimpArgs false
set_option maxRecDepth 20000
open Go.RowKit
set_option maxHeartbeats 1000000
theorem sSubs_any (n : Nat) (hn : n ≤ 7) (k : Nat) : ∀ (K L : Int) (low : Nat) (w : World), k ≤ 8 → low ≤ 100 → Hid (K = k) → Hid (L = low) →
    Calls Try.prog 68 #[.int .i64 n, .int .i64 K, .int .i64 L] w (RetT (subs n k low) w) := by
  induction k with
  | zero =>
    intro K L low w hk hlow hK hL
    have hz : (K == 0) = true := by have := hK.out; simp; omega
    go_enter Try.func68, Try.ntmps68
    go_wp2
    go_ret
    refine ⟨_, _, _, rfl, Hd.self (by unfold maxLen; omega), ((Below.refl _ _).alloc (Nat.le_refl _) _).alloc (by simp) _, _, (OwT.one w _).up ?_⟩
    simp
  | succ k ih =>
    intro K L low w hk hlow hK hL
    have hz : (K == 0) = false := by have := hK.out; simp; omega
    have hK1 : 1 ≤ K := by have := hK.out; omega
    have hK2 : K ≤ 9 := by have := hK.out; omega
    have IH := Lib.hid ih
    have hcnt := pow_bd hn (show k ≤ 8 by omega)
    clear ih
    go_enter Try.func68, Try.ntmps68
    go_wp2_with fail
    go_loopw [7, 8] (fun v i wr => ∃ (i' cnt hi : Nat) (hs : List Hdr), low ≤ i' ∧ i' ≤ 100 ∧ (i' ≤ n ∨ i' = low) ∧ i = .int .i64 i' ∧ OwT wr w.heap.size hi v cnt hs (subsTo n k low (i' - low)) ∧ Below w.heap.size w wr ∧ hi ≤ wr.heap.size) (fun _ i _ => n - (intOf i).toNat)
    case atStart => exact ⟨low, 0, w.heap.size + 1, [], by omega, hlow, .inr rfl, by rw [hL.out], by rw [Nat.sub_self]; exact OwT.made w, (Below.refl _ _).alloc (Nat.le_refl _) _, by simp⟩
    case round =>
      obtain ⟨i, cnt, hi, hs, hlo, hi100, hmx, rfl, hT, hB, hhi⟩ := hrel
      obtain ⟨wo, rfl⟩ : ∃ x, x = wr := ⟨wr, rfl⟩
      have hBs := hB.size
      by_cases hlt : i < n
      · go_wp2_with fail
        refine (IH.out (K - 1) (↑i + 1) (i + 1) _ (by omega) (by omega) (Lib.hid (by have := hK.out; omega)) (Lib.hid (by omega))).mono ?_
        rintro e w1 ⟨A1, n1, c1, rfl, hd1, hb1, hs1, hT1⟩
        have hs1' := hb1.size
        have hTo := hT.below hb1 hhi
        have hB1 := hB.trans (hb1.mono hBs)
        have hblk : ∀ b, u7.ownBlock = some b → b < wo.heap.size := fun b e => by have := hT.blk b e; omega
        have HBL := Lib.hid hblk
        have hmax := hT1.max
        unfold maxLen at hmax
        have HSZ := Lib.hid (show (subs n k (i + 1)).length = n1 from hT1.len)
        clear hT hB hblk hb1
        go_wp2_with fail
        go_loopw [7, 10] (fun v jj wr => ∃ (j cnt hi : Nat) (hs : List Hdr), j ≤ n1 ∧ jj = .int .i64 j ∧ OwT wr w.heap.size hi v cnt hs (subsTo n k low (i - low) ++ ((subs n k (i + 1)).take j).map fun r => (i : Int) :: r) ∧ Below w.heap.size w wr ∧ hi ≤ wr.heap.size ∧ OwT wr wo.heap.size w1.heap.size (.slice A1 n1 c1) n1 hs1 (subs n k (i + 1)) ∧ w1.heap.size ≤ wr.heap.size ∧ Hid (∀ b, v.ownBlock = some b → b < wo.heap.size ∨ w1.heap.size ≤ b)) (fun _ jj _ => n1 - (intOf jj).toNat)
        case atStart => exact ⟨0, cnt, hi, hs, by omega, rfl, by simpa using hTo, hB1, by omega, hT1, Nat.le_refl _, fun b e => .inl (HBL.out b e)⟩
        case round =>
          clear hTo hB1 HBL
          obtain ⟨j, cnt', hi', hs', hj, rfl, hTx, hBx, hhx, hTr, hwx, hbx⟩ := hrel
          have hBxs := hBx.size
          by_cases hlt2 : j < n1
          · obtain ⟨g1, cc, e1, hg0, hg1, _, _, hcl⟩ := hTr.addr (by omega)
            injection e1 with e1 e2 e3
            subst e1 e3
            have hcx := (hcl j hlt2).1
            obtain ⟨hrw, hhd⟩ := hTr.rows j hlt2
            have hrl : (row (subs n k (i + 1)) j).length = k := subs_row (by rw [HSZ.out]; exact hlt2)
            unfold slv at hcx
            generalize hdr hs1 j = H at hcx hrw hhd
            obtain ⟨Aj, nj, cj⟩ := H
            simp only at hcx hrw hhd
            have hnj : nj ≤ 8 := by have := hrw.1; omega
            have hcn : cnt' ≤ 1073741824 := by
              have h1 := hTx.len
              have h2 := subsTo_count n k low (n ^ k) (subs_count n k) (i - low)
              have h3 := subs_count n k (i + 1)
              have h4 : (i - low) * n ^ k ≤ 7 * 5764801 := Nat.mul_le_mul (by omega) hcnt
              rw [List.length_append, List.length_map, List.length_take] at h1
              omega
            have hB0 : Below wr.heap.size wr (wr.alloc (.cells #[.int .i64 i] 3)) := (Below.refl _ _).alloc (Nat.le_refl _) _
            have hgz : g1 < wr.heap.size := by omega
            clear hrl hcl
            go_wp2_with (first | (at_builtin; refine wpList_apI (v := .slice (some ⟨wr.heap.size, 0, none⟩) 1 1) (w := wr.alloc (.cells #[.int .i64 i] 3)) (lo := wr.heap.size) (n := 1) (xs := [(i : Int)]) rfl (.tmp 36) (.tmp 40) rfl rfl (World.ownsRow_lit wr #[.int .i64 i] 1 (Nat.le_refl _) (by unfold maxLen; omega) rfl) rfl (hrw.rd.below hB0 (by omega)) hhd (by omega) (by simp) ?_; intro v1 w2 ho1 hg1' hv1; obtain ⟨Av, cv, rfl, hdv⟩ := own_hd ho1; have hB2 : Below wr.heap.size wr w2 := hB0.grown hg1' (by simp) (fun q e => by injection e with e; have e' : wr.heap.size = q := e; omega); have hs2 := hg1'.size; rw [World.size_alloc] at hs2; have hrow := ofOwn' ho1 (by unfold maxLen; omega); have hT2 := hTx.below hB2 hhx; have hT2' := hT2.alloc (o := .cells #[.slice Av (1 + nj) cv] 22) (by omega)) | (at_builtin; refine wpList_apT (v := u7) (w := w2.alloc (.cells #[.slice Av (1 + nj) cv] 22)) (lo := w.heap.size) (b := w2.heap.size) (u := .slice Av (1 + nj) cv) rfl (.tmp 34) (.tmp 42) rfl rfl hT2'.tbl rfl (Box.new w2 _ _).one rfl hcn (by rw [World.size_alloc]; omega) ?_; intro v2 w3 ho2 hg2 hv2))
            have hpush := hT2'.push (hd := (Av, 1 + nj, cv)) ho2 hg2 hv2 (hrow.alloc (Nat.le_refl _) _) hdv (by omega) (by omega) (by simp) (by simp; omega)
            have hs3 := hg2.size
            simp only [World.size_alloc] at hs3
            have hB3 : Below w.heap.size w w3 := ((hBx.trans (hB2.mono hBxs)).alloc (by omega) _).grown hg2 (by simp; omega) (fun q e => (hT2'.tbl.lt q e).1)
            have hTr3 : OwT w3 wo.heap.size w1.heap.size (.slice (some ⟨g1, 0, none⟩) n1 c1) n1 hs1 (subs n k (i + 1)) := ((hTr.below hB2 hwx).alloc (by omega) _).keep fun b h1 h2 h3 => hg2.block b h3 (fun e => by have := hbx.out b e.symm; omega)
            have HB : Hid (∀ b, v2.ownBlock = some b → b < wo.heap.size ∨ w1.heap.size ≤ b) := fun b e => by
              rcases hv2 with h | h
              · exact hbx.out b (by rw [← h]; exact e)
              · rw [h] at e; injection e with e; right; rw [World.size_alloc] at e; omega
            have HX := Lib.hid (show subsTo n k low (i - low) ++ ((subs n k (i + 1)).take (j + 1)).map (fun r => (i : Int) :: r) = (subsTo n k low (i - low) ++ ((subs n k (i + 1)).take j).map fun r => (i : Int) :: r) ++ [(i : Int) :: row (subs n k (i + 1)) j] by
              rw [take_row (by rw [HSZ.out]; exact hlt2), List.map_append, List.append_assoc]; rfl)
            clear hT2 hT2' ho1 ho2 hrow hv1 hv2 hg1' hg2 hTx hTr hrw
            go_wp2
            go_roundw
            case rel => exact ⟨j + 1, _, _, _, by omega, by go_num, by rw [HX.out]; exact hpush, hB3, Nat.le_refl _, hTr3, by omega, HB⟩
            case measure => simp [intOf]; omega
          · have hjn : j = n1 := by omega
            have HX := Lib.hid (show subsTo n k low (i + 1 - low) = subsTo n k low (i - low) ++ ((subs n k (i + 1)).take j).map fun r => (i : Int) :: r by
              rw [show i + 1 - low = (i - low) + 1 by omega, subsTo_succ, List.take_of_length_le (by rw [HSZ.out]; omega), show low + (i - low) = i by omega])
            go_wp2
            go_roundw
            case rel => exact ⟨i + 1, cnt', hi', hs', by omega, by omega, .inl (by omega), by go_num, by rw [HX.out]; exact hTx, hBx, hhx⟩
            case measure => simp [intOf]; omega
      · obtain ⟨A, c, rfl, hd⟩ := hT.hd
        have HX := Lib.hid (show subs n (k + 1) low = subsTo n k low (i - low) by
          rw [subs_succ, show n - low = i - low by omega])
        go_wp2
        go_ret
        exact ⟨_, _, _, rfl, hd, hB, hs, by rw [HX.out]; exact hT.up hhi⟩
theorem iSubs_any (n : Nat) (hn : n ≤ 7) (k : Nat) : ∀ (K L : Int) (low : Nat) (w : World), k ≤ 8 → low ≤ 100 → Hid (K = k) → Hid (L = low) →
    Calls Try.prog 78 #[.int .i64 L, .int .i64 n, .int .i64 K] w (RetT (subs n k low) w) := by
  induction k with
  | zero =>
    intro K L low w hk hlow hK hL
    have hz : (K == 0) = true := by have := hK.out; simp; omega
    go_enter Try.func78, Try.ntmps78
    go_wp2
    go_ret
    refine ⟨_, _, _, rfl, Hd.self (by unfold maxLen; omega), ((Below.refl _ _).alloc (Nat.le_refl _) _).alloc (by simp) _, _, (OwT.one w _).up ?_⟩
    simp
  | succ k ih =>
    intro K L low w hk hlow hK hL
    have hz : (K == 0) = false := by have := hK.out; simp; omega
    have hK1 : 1 ≤ K := by have := hK.out; omega
    have hK2 : K ≤ 9 := by have := hK.out; omega
    have IH := Lib.hid ih
    have hcnt := pow_bd hn (show k ≤ 8 by omega)
    clear ih
    go_enter Try.func78, Try.ntmps78
    go_wp2_with fail
    go_loopw [7, 8] (fun v i wr => ∃ (i' cnt hi : Nat) (hs : List Hdr), low ≤ i' ∧ i' ≤ 100 ∧ (i' ≤ n ∨ i' = low) ∧ i = .int .i64 i' ∧ OwT wr w.heap.size hi v cnt hs (subsTo n k low (i' - low)) ∧ Below w.heap.size w wr ∧ hi ≤ wr.heap.size) (fun _ i _ => n - (intOf i).toNat)
    case atStart => exact ⟨low, 0, w.heap.size + 1, [], by omega, hlow, .inr rfl, by rw [hL.out], by rw [Nat.sub_self]; exact OwT.made w, (Below.refl _ _).alloc (Nat.le_refl _) _, by simp⟩
    case round =>
      obtain ⟨i, cnt, hi, hs, hlo, hi100, hmx, rfl, hT, hB, hhi⟩ := hrel
      obtain ⟨wo, rfl⟩ : ∃ x, x = wr := ⟨wr, rfl⟩
      have hBs := hB.size
      by_cases hlt : i < n
      · go_wp2_with fail
        refine (IH.out (K - 1) (↑i + 1) (i + 1) _ (by omega) (by omega) (Lib.hid (by have := hK.out; omega)) (Lib.hid (by omega))).mono ?_
        rintro e w1 ⟨A1, n1, c1, rfl, hd1, hb1, hs1, hT1⟩
        have hs1' := hb1.size
        have hTo := hT.below hb1 hhi
        have hB1 := hB.trans (hb1.mono hBs)
        have hblk : ∀ b, u7.ownBlock = some b → b < wo.heap.size := fun b e => by have := hT.blk b e; omega
        have HBL := Lib.hid hblk
        have hmax := hT1.max
        unfold maxLen at hmax
        have HSZ := Lib.hid (show (subs n k (i + 1)).length = n1 from hT1.len)
        clear hT hB hblk hb1
        go_wp2_with fail
        go_loopw [7, 29] (fun v jj wr => ∃ (j cnt hi : Nat) (hs : List Hdr), j ≤ n1 ∧ jj = .int .i64 j ∧ OwT wr w.heap.size hi v cnt hs (subsTo n k low (i - low) ++ ((subs n k (i + 1)).take j).map fun r => (i : Int) :: r) ∧ Below w.heap.size w wr ∧ hi ≤ wr.heap.size ∧ OwT wr wo.heap.size w1.heap.size (.slice A1 n1 c1) n1 hs1 (subs n k (i + 1)) ∧ w1.heap.size ≤ wr.heap.size ∧ Hid (∀ b, v.ownBlock = some b → b < wo.heap.size ∨ w1.heap.size ≤ b)) (fun _ jj _ => n1 - (intOf jj).toNat)
        case atStart => exact ⟨0, cnt, hi, hs, by omega, rfl, by simpa using hTo, hB1, by omega, hT1, Nat.le_refl _, fun b e => .inl (HBL.out b e)⟩
        case round =>
          clear hTo hB1 HBL
          obtain ⟨j, cnt', hi', hs', hj, rfl, hTx, hBx, hhx, hTr, hwx, hbx⟩ := hrel
          have hBxs := hBx.size
          by_cases hlt2 : j < n1
          · obtain ⟨g1, cc, e1, hg0, hg1, _, _, hcl⟩ := hTr.addr (by omega)
            injection e1 with e1 e2 e3
            subst e1 e3
            have hcx := (hcl j hlt2).1
            obtain ⟨hrw, hhd⟩ := hTr.rows j hlt2
            have hrl : (row (subs n k (i + 1)) j).length = k := subs_row (by rw [HSZ.out]; exact hlt2)
            unfold slv at hcx
            generalize hdr hs1 j = H at hcx hrw hhd
            obtain ⟨Aj, nj, cj⟩ := H
            simp only at hcx hrw hhd
            have hnj : nj ≤ 8 := by have := hrw.1; omega
            have hcn : cnt' ≤ 1073741824 := by
              have h1 := hTx.len
              have h2 := subsTo_count n k low (n ^ k) (subs_count n k) (i - low)
              have h3 := subs_count n k (i + 1)
              have h4 : (i - low) * n ^ k ≤ 7 * 5764801 := Nat.mul_le_mul (by omega) hcnt
              rw [List.length_append, List.length_map, List.length_take] at h1
              omega
            have hB0 : Below wr.heap.size wr (wr.alloc (.cells #[.int .i64 i] 3)) := (Below.refl _ _).alloc (Nat.le_refl _) _
            have hgz : g1 < wr.heap.size := by omega
            clear hrl hcl
            go_wp2_with (first | (at_builtin; refine wpList_apI (v := .slice (some ⟨wr.heap.size, 0, none⟩) 1 1) (w := wr.alloc (.cells #[.int .i64 i] 3)) (lo := wr.heap.size) (n := 1) (xs := [(i : Int)]) rfl (.tmp 35) (.tmp 36) rfl rfl (World.ownsRow_lit wr #[.int .i64 i] 1 (Nat.le_refl _) (by unfold maxLen; omega) rfl) rfl (hrw.rd.below hB0 (by omega)) hhd (by omega) (by simp) ?_; intro v1 w2 ho1 hg1' hv1; obtain ⟨Av, cv, rfl, hdv⟩ := own_hd ho1; have hB2 : Below wr.heap.size wr w2 := hB0.grown hg1' (by simp) (fun q e => by injection e with e; have e' : wr.heap.size = q := e; omega); have hs2 := hg1'.size; rw [World.size_alloc] at hs2; have hrow := ofOwn' ho1 (by unfold maxLen; omega); have hT2 := hTx.below hB2 hhx; have hT2' := hT2.alloc (o := .cells #[.slice Av (1 + nj) cv] 22) (by omega)) | (at_builtin; refine wpList_apT (v := u7) (w := w2.alloc (.cells #[.slice Av (1 + nj) cv] 22)) (lo := w.heap.size) (b := w2.heap.size) (u := .slice Av (1 + nj) cv) rfl (.tmp 33) (.tmp 38) rfl rfl hT2'.tbl rfl (Box.new w2 _ _).one rfl hcn (by rw [World.size_alloc]; omega) ?_; intro v2 w3 ho2 hg2 hv2))
            have hpush := hT2'.push (hd := (Av, 1 + nj, cv)) ho2 hg2 hv2 (hrow.alloc (Nat.le_refl _) _) hdv (by omega) (by omega) (by simp) (by simp; omega)
            have hs3 := hg2.size
            simp only [World.size_alloc] at hs3
            have hB3 : Below w.heap.size w w3 := ((hBx.trans (hB2.mono hBxs)).alloc (by omega) _).grown hg2 (by simp; omega) (fun q e => (hT2'.tbl.lt q e).1)
            have hTr3 : OwT w3 wo.heap.size w1.heap.size (.slice (some ⟨g1, 0, none⟩) n1 c1) n1 hs1 (subs n k (i + 1)) := ((hTr.below hB2 hwx).alloc (by omega) _).keep fun b h1 h2 h3 => hg2.block b h3 (fun e => by have := hbx.out b e.symm; omega)
            have HB : Hid (∀ b, v2.ownBlock = some b → b < wo.heap.size ∨ w1.heap.size ≤ b) := fun b e => by
              rcases hv2 with h | h
              · exact hbx.out b (by rw [← h]; exact e)
              · rw [h] at e; injection e with e; right; rw [World.size_alloc] at e; omega
            have HX := Lib.hid (show subsTo n k low (i - low) ++ ((subs n k (i + 1)).take (j + 1)).map (fun r => (i : Int) :: r) = (subsTo n k low (i - low) ++ ((subs n k (i + 1)).take j).map fun r => (i : Int) :: r) ++ [(i : Int) :: row (subs n k (i + 1)) j] by
              rw [take_row (by rw [HSZ.out]; exact hlt2), List.map_append, List.append_assoc]; rfl)
            clear hT2 hT2' ho1 ho2 hrow hv1 hv2 hg1' hg2 hTx hTr hrw
            go_wp2
            go_roundw
            case rel => exact ⟨j + 1, _, _, _, by omega, by go_num, by rw [HX.out]; exact hpush, hB3, Nat.le_refl _, hTr3, by omega, HB⟩
            case measure => simp [intOf]; omega
          · have hjn : j = n1 := by omega
            have HX := Lib.hid (show subsTo n k low (i + 1 - low) = subsTo n k low (i - low) ++ ((subs n k (i + 1)).take j).map fun r => (i : Int) :: r by
              rw [show i + 1 - low = (i - low) + 1 by omega, subsTo_succ, List.take_of_length_le (by rw [HSZ.out]; omega), show low + (i - low) = i by omega])
            go_wp2
            go_roundw
            case rel => exact ⟨i + 1, cnt', hi', hs', by omega, by omega, .inl (by omega), by go_num, by rw [HX.out]; exact hTx, hBx, hhx⟩
            case measure => simp [intOf]; omega
      · obtain ⟨A, c, rfl, hd⟩ := hT.hd
        have HX := Lib.hid (show subs n (k + 1) low = subsTo n k low (i - low) by
          rw [subs_succ, show n - low = i - low by omega])
        go_wp2
        go_ret
        exact ⟨_, _, _, rfl, hd, hB, hs, by rw [HX.out]; exact hT.up hhi⟩
end Go.Proofs.Ytgpejighomohlaa
