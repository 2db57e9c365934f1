/- Ascending lists of k numbers from low to n - 1. No program in sight. -/
import Derived.Test.YteepnimmbofmlaaTbl
import Derived.Deep.LoopGhost
namespace Go.Proofs.Yteepnimmbofmlaa
set_option linter.unusedVariables false
set_option linter.unusedSimpArgs false
set_option maxRecDepth 20000
open Go.RowKit
def subs (n : Nat) : Nat → Nat → List (List Int)
  | 0, _ => [[]]
  | k + 1, low => (List.range' low (n - low)).flatMap fun i => (subs n k (i + 1)).map fun r => (i : Int) :: r
/-- those that begin with low .. low + m - 1 -/
def subsTo (n k low m : Nat) : List (List Int) := (List.range' low m).flatMap fun i => (subs n k (i + 1)).map fun r => (i : Int) :: r
theorem subs_succ (n k low : Nat) : subs n (k + 1) low = subsTo n k low (n - low) := rfl
theorem subsTo_zero (n k low : Nat) : subsTo n k low 0 = [] := rfl
theorem subsTo_succ (n k low m : Nat) : subsTo n k low (m + 1) = subsTo n k low m ++ (subs n k (low + m + 1)).map fun r => ((low + m : Nat) : Int) :: r := by
  unfold subsTo
  rw [List.range'_concat, List.flatMap_append]
  simp
theorem subs_len (n : Nat) : ∀ k low, ∀ r ∈ subs n k low, r.length = k := by
  intro k
  induction k with
  | zero => intro low r hr; simp [subs] at hr; subst hr; rfl
  | succ k ih =>
    intro low r hr
    simp only [subs, List.mem_flatMap, List.mem_map] at hr
    obtain ⟨i, _, s, hs, rfl⟩ := hr
    simp [ih _ s hs]
theorem subsTo_count (n k low : Nat) (c : Nat) (h : ∀ l, (subs n k l).length ≤ c) (m : Nat) : (subsTo n k low m).length ≤ m * c := by
  induction m with
  | zero => simp [subsTo_zero]
  | succ m ih =>
    rw [subsTo_succ, List.length_append, List.length_map, Nat.add_mul]
    have := h (low + m + 1)
    omega
theorem subs_count (n : Nat) : ∀ k low, (subs n k low).length ≤ n ^ k := by
  intro k
  induction k with
  | zero => intro low; simp [subs]
  | succ k ih =>
    intro low
    rw [subs_succ]
    have h1 := subsTo_count n k low (n ^ k) ih (n - low)
    have h2 : (n - low) * n ^ k ≤ n * n ^ k := Nat.mul_le_mul_right _ (by omega)
    rw [Nat.pow_succ, Nat.mul_comm (n ^ k) n]
    omega
theorem pow_bd {n k : Nat} (hn : n ≤ 7) (hk : k ≤ 8) : n ^ k ≤ 5764801 := by
  calc n ^ k ≤ 7 ^ k := Nat.pow_le_pow_left hn k
    _ ≤ 7 ^ 8 := Nat.pow_le_pow_right (by omega) hk
    _ = 5764801 := by decide
theorem subs_row {n k low j : Nat} (h : j < (subs n k low).length) : (row (subs n k low) j).length = k := by
  rw [row_lt h]; exact subs_len n k low _ (List.getElem_mem h)
theorem take_row {xss : List (List Int)} {j : Nat} (h : j < xss.length) : xss.take (j + 1) = xss.take j ++ [row xss j] := by
  rw [List.take_succ_eq_append_getElem h, row_lt h]
end Go.Proofs.Yteepnimmbofmlaa
namespace Go.Proofs.Yteepnimmbofmlaa
set_option linter.unusedVariables false
set_option linter.unusedSimpArgs false
set_option maxRecDepth 20000
open Go.RowKit
set_option maxHeartbeats 1000000
theorem sSubs_any (n : Nat) (hn : n ≤ 7) (k : Nat) : ∀ (K L : Int) (low : Nat) (w : World), k ≤ 8 → low ≤ 100 → Hid (K = k) → Hid (L = low) →
    Calls Try.prog 30 #[.int .i64 n, .int .i64 K, .int .i64 L] w (RetT (subs n k low) w) := by
  induction k with
  | zero =>
    intro K L low w hk hlow hK hL
    have hz : (K == 0) = true := by have := hK.out; simp; omega
    go_enter Try.func30, Try.ntmps30
    go_wp2
    go_ret
    refine ⟨_, _, _, rfl, Hd.self (by unfold maxLen; omega), ((Below.refl _ _).alloc (Nat.le_refl _) _).alloc (by simp) _, _, (OwT.one w _).up ?_⟩
    simp
  | succ k ih =>
    intro K L low w hk hlow hK hL
    have hz : (K == 0) = false := by have := hK.out; simp; omega
    have hK1 : 1 ≤ K := by have := hK.out; omega
    have hK2 : K ≤ 9 := by have := hK.out; omega
    have IH := Lib.hid ih
    have hcnt := pow_bd hn (show k ≤ 8 by omega)
    clear ih
    go_enter Try.func30, Try.ntmps30
    go_wp2_with fail
    go_loopw [7, 8] (fun v i wr => ∃ (i' cnt hi : Nat) (hs : List Hdr), low ≤ i' ∧ i' ≤ 100 ∧ (i' ≤ n ∨ i' = low) ∧ i = .int .i64 i' ∧ OwT wr w.heap.size hi v cnt hs (subsTo n k low (i' - low)) ∧ Below w.heap.size w wr ∧ hi ≤ wr.heap.size) (fun _ i _ => n - (intOf i).toNat)
    case atStart => exact ⟨low, 0, w.heap.size + 1, [], by omega, hlow, .inr rfl, by rw [hL.out], by rw [Nat.sub_self]; exact OwT.made w, (Below.refl _ _).alloc (Nat.le_refl _) _, by simp⟩
    case round =>
      obtain ⟨i, cnt, hi, hs, hlo, hi100, hmx, rfl, hT, hB, hhi⟩ := hrel
      obtain ⟨wo, rfl⟩ : ∃ x, x = wr := ⟨wr, rfl⟩
      have hBs := hB.size
      by_cases hlt : i < n
      · go_wp2_with fail
        refine (IH.out (K - 1) (↑i + 1) (i + 1) _ (by omega) (by omega) (Lib.hid (by have := hK.out; omega)) (Lib.hid (by omega))).mono ?_
        rintro e w1 ⟨A1, n1, c1, rfl, hd1, hb1, hs1, hT1⟩
        have hs1' := hb1.size
        have hTo := hT.below hb1 hhi
        have hB1 := hB.trans (hb1.mono hBs)
        have hblk : ∀ b, u7.ownBlock = some b → b < wo.heap.size := fun b e => by have := hT.blk b e; omega
        have HBL := Lib.hid hblk
        have hmax := hT1.max
        unfold maxLen at hmax
        have HSZ := Lib.hid (show (subs n k (i + 1)).length = n1 from hT1.len)
        clear hT hB hblk hb1
        go_wp2_with fail
        go_loopw [7, 10] (fun v jj wr => ∃ (j cnt hi : Nat) (hs : List Hdr), j ≤ n1 ∧ jj = .int .i64 j ∧ OwT wr w.heap.size hi v cnt hs (subsTo n k low (i - low) ++ ((subs n k (i + 1)).take j).map fun r => (i : Int) :: r) ∧ Below w.heap.size w wr ∧ hi ≤ wr.heap.size ∧ OwT wr wo.heap.size w1.heap.size (.slice A1 n1 c1) n1 hs1 (subs n k (i + 1)) ∧ w1.heap.size ≤ wr.heap.size ∧ Hid (∀ b, v.ownBlock = some b → b < wo.heap.size ∨ w1.heap.size ≤ b)) (fun _ jj _ => n1 - (intOf jj).toNat)
        case atStart => exact ⟨0, cnt, hi, hs, by omega, rfl, by simpa using hTo, hB1, by omega, hT1, Nat.le_refl _, fun b e => .inl (HBL.out b e)⟩
        case round =>
          clear hTo hB1 HBL
          obtain ⟨j, cnt', hi', hs', hj, rfl, hTx, hBx, hhx, hTr, hwx, hbx⟩ := hrel
          have hBxs := hBx.size
          by_cases hlt2 : j < n1
          · obtain ⟨g1, cc, e1, hg0, hg1, _, _, hcl⟩ := hTr.addr (by omega)
            injection e1 with e1 e2 e3
            subst e1 e3
            have hcx := (hcl j hlt2).1
            obtain ⟨hrw, hhd⟩ := hTr.rows j hlt2
            have hrl : (row (subs n k (i + 1)) j).length = k := subs_row (by rw [HSZ.out]; exact hlt2)
            unfold slv at hcx
            generalize hdr hs1 j = H at hcx hrw hhd
            obtain ⟨Aj, nj, cj⟩ := H
            simp only at hcx hrw hhd
            have hnj : nj ≤ 8 := by have := hrw.1; omega
            have hcn : cnt' ≤ 1073741824 := by
              have h1 := hTx.len
              have h2 := subsTo_count n k low (n ^ k) (subs_count n k) (i - low)
              have h3 := subs_count n k (i + 1)
              have h4 : (i - low) * n ^ k ≤ 7 * 5764801 := Nat.mul_le_mul (by omega) hcnt
              rw [List.length_append, List.length_map, List.length_take] at h1
              omega
            have hB0 : Below wr.heap.size wr (wr.alloc (.cells #[.int .i64 i] 3)) := (Below.refl _ _).alloc (Nat.le_refl _) _
            have hgz : g1 < wr.heap.size := by omega
            clear hrl hcl
            go_wp2_with (first | (at_builtin; refine wpList_apI (v := .slice (some ⟨wr.heap.size, 0, none⟩) 1 1) (w := wr.alloc (.cells #[.int .i64 i] 3)) (lo := wr.heap.size) (n := 1) (xs := [(i : Int)]) rfl (.tmp 36) (.tmp 40) rfl rfl (World.ownsRow_lit wr #[.int .i64 i] 1 (Nat.le_refl _) (by unfold maxLen; omega) rfl) rfl (hrw.rd.below hB0 (by omega)) hhd (by omega) (by simp) ?_; intro v1 w2 ho1 hg1' hv1; obtain ⟨Av, cv, rfl, hdv⟩ := own_hd ho1; have hB2 : Below wr.heap.size wr w2 := hB0.grown hg1' (by simp) (fun q e => by injection e with e; have e' : wr.heap.size = q := e; omega); have hs2 := hg1'.size; rw [World.size_alloc] at hs2; have hrow := ofOwn' ho1 (by unfold maxLen; omega); have hT2 := hTx.below hB2 hhx; have hT2' := hT2.alloc (o := .cells #[.slice Av (1 + nj) cv] 22) (by omega)) | (at_builtin; refine wpList_apT (v := u7) (w := w2.alloc (.cells #[.slice Av (1 + nj) cv] 22)) (lo := w.heap.size) (b := w2.heap.size) (u := .slice Av (1 + nj) cv) rfl (.tmp 34) (.tmp 42) rfl rfl hT2'.tbl rfl (Box.new w2 _ _).one rfl hcn (by rw [World.size_alloc]; omega) ?_; intro v2 w3 ho2 hg2 hv2))
            have hpush := hT2'.push (hd := (Av, 1 + nj, cv)) ho2 hg2 hv2 (hrow.alloc (Nat.le_refl _) _) hdv (by omega) (by omega) (by simp) (by simp; omega)
            have hs3 := hg2.size
            simp only [World.size_alloc] at hs3
            have hB3 : Below w.heap.size w w3 := ((hBx.trans (hB2.mono hBxs)).alloc (by omega) _).grown hg2 (by simp; omega) (fun q e => (hT2'.tbl.lt q e).1)
            have hTr3 : OwT w3 wo.heap.size w1.heap.size (.slice (some ⟨g1, 0, none⟩) n1 c1) n1 hs1 (subs n k (i + 1)) := ((hTr.below hB2 hwx).alloc (by omega) _).keep fun b h1 h2 h3 => hg2.block b h3 (fun e => by have := hbx.out b e.symm; omega)
            have HB : Hid (∀ b, v2.ownBlock = some b → b < wo.heap.size ∨ w1.heap.size ≤ b) := fun b e => by
              rcases hv2 with h | h
              · exact hbx.out b (by rw [← h]; exact e)
              · rw [h] at e; injection e with e; right; rw [World.size_alloc] at e; omega
            have HX := Lib.hid (show subsTo n k low (i - low) ++ ((subs n k (i + 1)).take (j + 1)).map (fun r => (i : Int) :: r) = (subsTo n k low (i - low) ++ ((subs n k (i + 1)).take j).map fun r => (i : Int) :: r) ++ [(i : Int) :: row (subs n k (i + 1)) j] by
              rw [take_row (by rw [HSZ.out]; exact hlt2), List.map_append, List.append_assoc]; rfl)
            clear hT2 hT2' ho1 ho2 hrow hv1 hv2 hg1' hg2 hTx hTr hrw
            go_wp2
            go_roundw
            case rel => exact ⟨j + 1, _, _, _, by omega, by go_num, by rw [HX.out]; exact hpush, hB3, Nat.le_refl _, hTr3, by omega, HB⟩
            case measure => simp [intOf]; omega
          · have hjn : j = n1 := by omega
            have HX := Lib.hid (show subsTo n k low (i + 1 - low) = subsTo n k low (i - low) ++ ((subs n k (i + 1)).take j).map fun r => (i : Int) :: r by
              rw [show i + 1 - low = (i - low) + 1 by omega, subsTo_succ, List.take_of_length_le (by rw [HSZ.out]; omega), show low + (i - low) = i by omega])
            go_wp2
            go_roundw
            case rel => exact ⟨i + 1, cnt', hi', hs', by omega, by omega, .inl (by omega), by go_num, by rw [HX.out]; exact hTx, hBx, hhx⟩
            case measure => simp [intOf]; omega
      · obtain ⟨A, c, rfl, hd⟩ := hT.hd
        have HX := Lib.hid (show subs n (k + 1) low = subsTo n k low (i - low) by
          rw [subs_succ, show n - low = i - low by omega])
        go_wp2
        go_ret
        exact ⟨_, _, _, rfl, hd, hB, hs, by rw [HX.out]; exact hT.up hhi⟩
theorem iSubs_any (n : Nat) (hn : n ≤ 7) (k : Nat) : ∀ (K L : Int) (low : Nat) (w : World), k ≤ 8 → low ≤ 100 → Hid (K = k) → Hid (L = low) →
    Calls Try.prog 74 #[.int .i64 L, .int .i64 n, .int .i64 K] w (RetT (subs n k low) w) := by
  induction k with
  | zero =>
    intro K L low w hk hlow hK hL
    have hz : (K == 0) = true := by have := hK.out; simp; omega
    go_enter Try.func74, Try.ntmps74
    go_wp2
    go_ret
    refine ⟨_, _, _, rfl, Hd.self (by unfold maxLen; omega), ((Below.refl _ _).alloc (Nat.le_refl _) _).alloc (by simp) _, _, (OwT.one w _).up ?_⟩
    simp
  | succ k ih =>
    intro K L low w hk hlow hK hL
    have hz : (K == 0) = false := by have := hK.out; simp; omega
    have hK1 : 1 ≤ K := by have := hK.out; omega
    have hK2 : K ≤ 9 := by have := hK.out; omega
    have IH := Lib.hid ih
    have hcnt := pow_bd hn (show k ≤ 8 by omega)
    clear ih
    go_enter Try.func74, Try.ntmps74
    go_wp2_with fail
    go_loopw [7, 8] (fun v i wr => ∃ (i' cnt hi : Nat) (hs : List Hdr), low ≤ i' ∧ i' ≤ 100 ∧ (i' ≤ n ∨ i' = low) ∧ i = .int .i64 i' ∧ OwT wr w.heap.size hi v cnt hs (subsTo n k low (i' - low)) ∧ Below w.heap.size w wr ∧ hi ≤ wr.heap.size) (fun _ i _ => n - (intOf i).toNat)
    case atStart => exact ⟨low, 0, w.heap.size + 1, [], by omega, hlow, .inr rfl, by rw [hL.out], by rw [Nat.sub_self]; exact OwT.made w, (Below.refl _ _).alloc (Nat.le_refl _) _, by simp⟩
    case round =>
      obtain ⟨i, cnt, hi, hs, hlo, hi100, hmx, rfl, hT, hB, hhi⟩ := hrel
      obtain ⟨wo, rfl⟩ : ∃ x, x = wr := ⟨wr, rfl⟩
      have hBs := hB.size
      by_cases hlt : i < n
      · go_wp2_with fail
        refine (IH.out (K - 1) (↑i + 1) (i + 1) _ (by omega) (by omega) (Lib.hid (by have := hK.out; omega)) (Lib.hid (by omega))).mono ?_
        rintro e w1 ⟨A1, n1, c1, rfl, hd1, hb1, hs1, hT1⟩
        have hs1' := hb1.size
        have hTo := hT.below hb1 hhi
        have hB1 := hB.trans (hb1.mono hBs)
        have hblk : ∀ b, u7.ownBlock = some b → b < wo.heap.size := fun b e => by have := hT.blk b e; omega
        have HBL := Lib.hid hblk
        have hmax := hT1.max
        unfold maxLen at hmax
        have HSZ := Lib.hid (show (subs n k (i + 1)).length = n1 from hT1.len)
        clear hT hB hblk hb1
        go_wp2_with fail
        go_loopw [7, 29] (fun v jj wr => ∃ (j cnt hi : Nat) (hs : List Hdr), j ≤ n1 ∧ jj = .int .i64 j ∧ OwT wr w.heap.size hi v cnt hs (subsTo n k low (i - low) ++ ((subs n k (i + 1)).take j).map fun r => (i : Int) :: r) ∧ Below w.heap.size w wr ∧ hi ≤ wr.heap.size ∧ OwT wr wo.heap.size w1.heap.size (.slice A1 n1 c1) n1 hs1 (subs n k (i + 1)) ∧ w1.heap.size ≤ wr.heap.size ∧ Hid (∀ b, v.ownBlock = some b → b < wo.heap.size ∨ w1.heap.size ≤ b)) (fun _ jj _ => n1 - (intOf jj).toNat)
        case atStart => exact ⟨0, cnt, hi, hs, by omega, rfl, by simpa using hTo, hB1, by omega, hT1, Nat.le_refl _, fun b e => .inl (HBL.out b e)⟩
        case round =>
          clear hTo hB1 HBL
          obtain ⟨j, cnt', hi', hs', hj, rfl, hTx, hBx, hhx, hTr, hwx, hbx⟩ := hrel
          have hBxs := hBx.size
          by_cases hlt2 : j < n1
          · obtain ⟨g1, cc, e1, hg0, hg1, _, _, hcl⟩ := hTr.addr (by omega)
            injection e1 with e1 e2 e3
            subst e1 e3
            have hcx := (hcl j hlt2).1
            obtain ⟨hrw, hhd⟩ := hTr.rows j hlt2
            have hrl : (row (subs n k (i + 1)) j).length = k := subs_row (by rw [HSZ.out]; exact hlt2)
            unfold slv at hcx
            generalize hdr hs1 j = H at hcx hrw hhd
            obtain ⟨Aj, nj, cj⟩ := H
            simp only at hcx hrw hhd
            have hnj : nj ≤ 8 := by have := hrw.1; omega
            have hcn : cnt' ≤ 1073741824 := by
              have h1 := hTx.len
              have h2 := subsTo_count n k low (n ^ k) (subs_count n k) (i - low)
              have h3 := subs_count n k (i + 1)
              have h4 : (i - low) * n ^ k ≤ 7 * 5764801 := Nat.mul_le_mul (by omega) hcnt
              rw [List.length_append, List.length_map, List.length_take] at h1
              omega
            have hB0 : Below wr.heap.size wr (wr.alloc (.cells #[.int .i64 i] 3)) := (Below.refl _ _).alloc (Nat.le_refl _) _
            have hgz : g1 < wr.heap.size := by omega
            clear hrl hcl
            go_wp2_with (first | (at_builtin; refine wpList_apI (v := .slice (some ⟨wr.heap.size, 0, none⟩) 1 1) (w := wr.alloc (.cells #[.int .i64 i] 3)) (lo := wr.heap.size) (n := 1) (xs := [(i : Int)]) rfl (.tmp 35) (.tmp 36) rfl rfl (World.ownsRow_lit wr #[.int .i64 i] 1 (Nat.le_refl _) (by unfold maxLen; omega) rfl) rfl (hrw.rd.below hB0 (by omega)) hhd (by omega) (by simp) ?_; intro v1 w2 ho1 hg1' hv1; obtain ⟨Av, cv, rfl, hdv⟩ := own_hd ho1; have hB2 : Below wr.heap.size wr w2 := hB0.grown hg1' (by simp) (fun q e => by injection e with e; have e' : wr.heap.size = q := e; omega); have hs2 := hg1'.size; rw [World.size_alloc] at hs2; have hrow := ofOwn' ho1 (by unfold maxLen; omega); have hT2 := hTx.below hB2 hhx; have hT2' := hT2.alloc (o := .cells #[.slice Av (1 + nj) cv] 22) (by omega)) | (at_builtin; refine wpList_apT (v := u7) (w := w2.alloc (.cells #[.slice Av (1 + nj) cv] 22)) (lo := w.heap.size) (b := w2.heap.size) (u := .slice Av (1 + nj) cv) rfl (.tmp 33) (.tmp 38) rfl rfl hT2'.tbl rfl (Box.new w2 _ _).one rfl hcn (by rw [World.size_alloc]; omega) ?_; intro v2 w3 ho2 hg2 hv2))
            have hpush := hT2'.push (hd := (Av, 1 + nj, cv)) ho2 hg2 hv2 (hrow.alloc (Nat.le_refl _) _) hdv (by omega) (by omega) (by simp) (by simp; omega)
            have hs3 := hg2.size
            simp only [World.size_alloc] at hs3
            have hB3 : Below w.heap.size w w3 := ((hBx.trans (hB2.mono hBxs)).alloc (by omega) _).grown hg2 (by simp; omega) (fun q e => (hT2'.tbl.lt q e).1)
            have hTr3 : OwT w3 wo.heap.size w1.heap.size (.slice (some ⟨g1, 0, none⟩) n1 c1) n1 hs1 (subs n k (i + 1)) := ((hTr.below hB2 hwx).alloc (by omega) _).keep fun b h1 h2 h3 => hg2.block b h3 (fun e => by have := hbx.out b e.symm; omega)
            have HB : Hid (∀ b, v2.ownBlock = some b → b < wo.heap.size ∨ w1.heap.size ≤ b) := fun b e => by
              rcases hv2 with h | h
              · exact hbx.out b (by rw [← h]; exact e)
              · rw [h] at e; injection e with e; right; rw [World.size_alloc] at e; omega
            have HX := Lib.hid (show subsTo n k low (i - low) ++ ((subs n k (i + 1)).take (j + 1)).map (fun r => (i : Int) :: r) = (subsTo n k low (i - low) ++ ((subs n k (i + 1)).take j).map fun r => (i : Int) :: r) ++ [(i : Int) :: row (subs n k (i + 1)) j] by
              rw [take_row (by rw [HSZ.out]; exact hlt2), List.map_append, List.append_assoc]; rfl)
            clear hT2 hT2' ho1 ho2 hrow hv1 hv2 hg1' hg2 hTx hTr hrw
            go_wp2
            go_roundw
            case rel => exact ⟨j + 1, _, _, _, by omega, by go_num, by rw [HX.out]; exact hpush, hB3, Nat.le_refl _, hTr3, by omega, HB⟩
            case measure => simp [intOf]; omega
          · have hjn : j = n1 := by omega
            have HX := Lib.hid (show subsTo n k low (i + 1 - low) = subsTo n k low (i - low) ++ ((subs n k (i + 1)).take j).map fun r => (i : Int) :: r by
              rw [show i + 1 - low = (i - low) + 1 by omega, subsTo_succ, List.take_of_length_le (by rw [HSZ.out]; omega), show low + (i - low) = i by omega])
            go_wp2
            go_roundw
            case rel => exact ⟨i + 1, cnt', hi', hs', by omega, by omega, .inl (by omega), by go_num, by rw [HX.out]; exact hTx, hBx, hhx⟩
            case measure => simp [intOf]; omega
      · obtain ⟨A, c, rfl, hd⟩ := hT.hd
        have HX := Lib.hid (show subs n (k + 1) low = subsTo n k low (i - low) by
          rw [subs_succ, show n - low = i - low by omega])
        go_wp2
        go_ret
        exact ⟨_, _, _, rfl, hd, hB, hs, by rw [HX.out]; exact hT.up hhi⟩
end Go.Proofs.Yteepnimmbofmlaa
namespace Go.Proofs.Yteepnimmbofmlaa
set_option linter.unusedVariables false
set_option linter.unusedSimpArgs false
set_option maxRecDepth 20000
open Go.RowKit
set_option maxHeartbeats 1000000
theorem beqT_false {xs ys : List (List Int)} (j : Nat) (hj : j < xs.length) (h : (row xs j == row ys j) = false) : (xs == ys) = false := by
  rw [beq_eq_false_iff_ne]
  intro e
  subst e
  simp at h
theorem beqT_true {xs ys : List (List Int)} (hl : xs.length = ys.length) (h : ∀ j, j < xs.length → (row xs j == row ys j) = true) : (xs == ys) = true := by
  have : xs = ys := ext_row hl fun k hk => by have := h k hk; simpa using this
  rw [this]; simp
theorem eqIntSS_any {B1 B2 : Nat} (A1 A2 : Option Addr) (n1 c1 n2 c2 : Nat) {hs1 hs2 : List Hdr} (xs ys : List (List Int)) (w : World) (h1 : RdT w B1 A1 n1 hs1 xs) (hB1 : B1 ≤ w.heap.size) (h2 : RdT w B2 A2 n2 hs2 ys) (hB2 : B2 ≤ w.heap.size) :
    Calls Try.prog 16 #[.slice A1 n1 c1, .slice A2 n2 c2] w (Rv (.bool (xs == ys)) w) := by
  have hm1 := h1.max
  have hm2 := h2.max
  unfold maxLen at hm1 hm2
  have HL := Lib.hid (And.intro h1.len h2.len)
  by_cases hne : n1 = n2
  · subst hne
    rcases Nat.eq_zero_or_pos n1 with h0 | hpos
    · subst h0
      have hx : xs = [] := List.eq_nil_of_length_eq_zero h1.len
      have hy : ys = [] := List.eq_nil_of_length_eq_zero h2.len
      subst hx hy
      go_enter Try.func16, Try.ntmps16
      go_wp2
      go_loop [5] (fun i => i = .int .i64 0) (fun _ => 0)
      case atStart => rfl
      case round =>
        obtain rfl := hrel
        go_wp2
        go_ret
        exact ⟨rfl, Below.refl _ _⟩
    · obtain ⟨b1, o1, rfl, hb1, hx⟩ := h1.tbl hpos
      obtain ⟨b2, o2, rfl, hb2, hy⟩ := h2.tbl hpos
      go_enter Try.func16, Try.ntmps16
      go_wp2
      go_loopw [5] (fun i wr => ∃ k : Nat, k ≤ n1 ∧ i = .int .i64 k ∧ Below w.heap.size w wr ∧ Hid (∀ j, j < k → (row xs j == row ys j) = true)) (fun i _ => n1 - (intOf i).toNat)
      case atStart => exact ⟨0, by omega, rfl, Below.refl _ _, fun j hj => by omega⟩
      case round =>
        obtain ⟨k, hk, rfl, hb, he⟩ := hrel
        have hsz := hb.size
        by_cases hlt : k < n1
        · have cx := (hb.cell (p := ⟨b1, o1 + k, none⟩) (by show b1 < _; omega)).trans (hx k hlt)
          have cy := (hb.cell (p := ⟨b2, o2 + k, none⟩) (by show b2 < _; omega)).trans (hy k hlt)
          have rx := (h1.rows k hlt).1.below hb hB1
          have ry := (h2.rows k hlt).1.below hb hB2
          unfold slv at cx cy
          rcases hq : (row xs k == row ys k) with _ | _
          all_goals
            have HQ := Lib.hid hq
            clear hq
            clear hx hy
            go_wp2_with fail
            go_region_held3 (fun w' => w'.cell? ⟨b1, o1 + k, none⟩ = some (.slice (hdr hs1 k).1 (hdr hs1 k).2.1 (hdr hs1 k).2.2) ∧ w'.cell? ⟨b2, o2 + k, none⟩ = some (.slice (hdr hs2 k).1 (hdr hs2 k).2.1 (hdr hs2 k).2.2)) (first | exact ⟨cx, cy⟩ | exact ⟨(hb6.cell (by show b1 < wr.heap.size; omega)).trans cx, (hb6.cell (by show b2 < wr.heap.size; omega)).trans cy⟩) (first | (go_at_call 25; refine (eqIntS_rv _ _ _ _ _ _ (row xs k) (row ys k) _ (B1 := B1) (B2 := B2) (by exact rx) (by exact ry)).mono ?_; rintro e w6 ⟨rfl, hb6⟩; rw [HQ.out]))
          · go_wp2
            go_ret
            exact ⟨by rw [beqT_false k (by rw [HL.out.1]; exact hlt) HQ.out]; rfl, (Below.drew hb).trans (hb6.mono hsz)⟩
          · go_wp2
            go_roundw
            case rel => exact ⟨k + 1, by omega, by go_num, (Below.drew hb).trans (hb6.mono hsz), fun j hj => by
              by_cases hjk : j = k
              · subst hjk; exact HQ.out
              · exact he.out j (by omega)⟩
            case measure => simp [intOf]; omega
        · have hkn : k = n1 := by omega
          subst hkn
          clear hx hy
          go_wp2
          go_ret
          exact ⟨by rw [beqT_true (by rw [HL.out.1, HL.out.2]) (fun j hj => he.out j (by have := HL.out.1; omega))]; rfl, hb⟩
  · have hb : ((n1 : Int) != (n2 : Int)) = true := by simp; omega
    have Hn := Lib.hid (show (xs == ys) = false by
      rw [beq_eq_false_iff_ne]; intro e; subst e; have := HL.out; omega)
    go_enter Try.func16, Try.ntmps16
    go_wp2
    go_ret
    exact ⟨by rw [Hn.out]; rfl, Below.refl _ _⟩

/-- the marks in the rows, one row after the other -/
def mkT (k : Int) : List (List Int) → List (List Int)
  | [] => []
  | xs :: r => mkI k xs.length :: mkT (k + xs.length) r
/-- how many numbers the first m rows hold -/
def tot (xss : List (List Int)) : Nat → Nat
  | 0 => 0
  | m + 1 => tot xss m + (row xss m).length
theorem mkT_row : ∀ (xss : List (List Int)) (k : Int) (j : Nat), j < xss.length → row (mkT k xss) j = mkI (k + tot xss j) (row xss j).length
  | [], k, j, h => by simp at h
  | xs :: r, k, 0, h => by simp [mkT, row, tot]
  | xs :: r, k, j + 1, h => by
    have e1 : ∀ m, tot (xs :: r) (m + 1) = xs.length + tot r m := by
      intro m
      induction m with
      | zero => simp [tot, row]
      | succ m ih => rw [tot, ih, tot]; simp [row]; omega
    have := mkT_row r (k + xs.length) j (by simpa using h)
    have e2 : row (mkT k (xs :: r)) (j + 1) = row (mkT (k + xs.length) r) j := by simp [mkT, row]
    rw [e2, this, e1]
    have e3 : row (xs :: r) (j + 1) = row r j := by simp [row]
    rw [e3]
    congr 1
    omega
theorem mkT_len (xss : List (List Int)) : ∀ k, (mkT k xss).length = xss.length := by
  induction xss with
  | nil => intro k; rfl
  | cons a r ih => intro k; simp [mkT, ih]
/-- how many numbers there are -/
def flen (xss : List (List Int)) : Nat := xss.flatten.length
theorem tot_all (xss : List (List Int)) : tot xss xss.length = flen xss := by
  show tot xss xss.length = xss.flatten.length
  induction xss with
  | nil => rfl
  | cons a r ih =>
    have e1 : ∀ m, tot (a :: r) (m + 1) = a.length + tot r m := by
      intro m
      induction m with
      | zero => simp [tot, row]
      | succ m ih => rw [tot, ih, tot]; simp [row]; omega
    rw [List.length_cons, e1, show tot r r.length = r.flatten.length from ih]; simp
theorem tot_mono (xss : List (List Int)) {i j : Nat} (h : i ≤ j) : tot xss i ≤ tot xss j := by
  induction j with
  | zero => rw [show i = 0 by omega]; exact Nat.le_refl _
  | succ j ih =>
    by_cases e : i = j + 1
    · subst e; exact Nat.le_refl _
    · have := ih (by omega); simp only [tot]; omega
/-- what marking a table leaves -/
def RetMarkT (B0 B : Nat) (v : Value) (n : Nat) (hs : List Hdr) (xss : List (List Int)) (k : Int) (w : World) (e : Ending) (w' : World) : Prop :=
  e = .returned (.int .i64 (k + flen xss)) ∧ Chg B0 B w w' ∧ OwT w' B0 B v n hs (mkT k xss)
theorem markIntSS_any {B0 B : Nat} (A : Option Addr) (n c : Nat) (k : Int) {hs : List Hdr} (xss : List (List Int)) (w : World) (h : OwT w B0 B (.slice A n c) n hs xss) (hB : B ≤ w.heap.size) (hk0 : 0 ≤ k) (hk1 : k + flen xss ≤ 1000000000000) :
    Calls Try.prog 17 #[.slice A n c, .int .i64 k] w (RetMarkT B0 B (.slice A n c) n hs xss k w) := by
  have hm := h.max
  unfold maxLen at hm
  have HL := Lib.hid h.len
  have HT := Lib.hid (tot_all xss)
  rcases Nat.eq_zero_or_pos n with h0 | hpos
  · subst h0
    have hx : xss = [] := List.eq_nil_of_length_eq_zero h.len
    subst hx
    go_enter Try.func17, Try.ntmps17
    go_wp2
    go_loop [1, 5] (fun kk i => kk = .int .i64 k ∧ i = .int .i64 0) (fun _ _ => 0)
    case atStart => exact ⟨rfl, rfl⟩
    case round =>
      obtain ⟨rfl, rfl⟩ := hrel
      go_wp2
      go_ret
      exact ⟨by simp [flen], Chg.refl _ _ _, h⟩
  · obtain ⟨g, c', e, hg0, hg1, _, _, hc⟩ := h.addr hpos
    injection e with e1 e2 e3
    subst e1 e3
    have hc' := hc
    go_enter Try.func17, Try.ntmps17
    go_wp2
    go_loopw [1, 5] (fun kk i wr => ∃ (j : Nat) (D : List (List Int)), j ≤ n ∧ kk = .int .i64 (k + tot xss j) ∧ i = .int .i64 j ∧ Chg B0 B w wr ∧ OwT wr B0 B (.slice (some ⟨g, 0, none⟩) n c) n hs D ∧ Hid (∀ t, t < n → row D t = if t < j then mkI (k + tot xss t) (row xss t).length else row xss t)) (fun _ i _ => n - (intOf i).toNat)
    case atStart => exact ⟨0, xss, by omega, by simp [tot], rfl, Chg.refl _ _ _, h, fun t ht => by rw [if_neg (by omega)]⟩
    case round =>
      obtain ⟨j, D, hj, rfl, rfl, hch, hor, hP⟩ := hrel
      by_cases hlt : j < n
      · obtain ⟨g', c2, e, _, _, _, _, hcc⟩ := hor.addr hpos
        injection e with e1 e2 e3
        injection e1 with e1
        injection e1 with e1
        subst e1
        obtain ⟨hcl, hfz⟩ := hcc j hlt
        unfold slv at hcl
        obtain ⟨hr, hd⟩ := hor.rows j hlt
        have hrow := hP.out j hlt
        rw [if_neg (by omega)] at hrow
        have t1 := tot_mono xss (show j + 1 ≤ n by omega)
        have t2 : tot xss n = flen xss := by rw [← HT.out, HL.out]
        have t3 : tot xss (j + 1) = tot xss j + (row xss j).length := rfl
        have hlen : (row xss j).length = (hdr hs j).2.1 := by rw [← hrow]; exact hr.1
        have HE := Lib.hid (And.intro hrow (And.intro hlen t3))
        clear hc hc' hcc e2 e3
        rw [hrow] at hr
        have hkj : k + (tot xss j : Int) + ((hdr hs j).2.1 : Int) ≤ 1000000000000 := by rw [← hlen]; omega
        have hkj0 : 0 ≤ k + (tot xss j : Int) := by omega
        clear hrow hlen t3 t2 t1
        rcases Nat.eq_zero_or_pos (hdr hs j).2.1 with hz | hz
        · have HZ := Lib.hid hz
          have hemp : row xss j = [] := List.eq_nil_of_length_eq_zero (by rw [HE.out.2.1, hz])
          clear hz
          go_wp2_with fail
          refine (markIntS_any (hdr hs j).1 (hdr hs j).2.1 _ (k + tot xss j) (row xss j) _ (B0 := 0) (B := 0) (by rw [HZ.out, hemp]; exact OwI.emp _ _ _ _) hkj0 hkj).mono ?_
          rintro e w6 ⟨rfl, hc6, _⟩
          have hor6 := hor.keep (w' := w6) fun b _ _ hs => hc6.block b hs (by omega)
          go_wp2
          go_roundw
          case rel =>
            refine ⟨j + 1, D, by omega, by rw [HE.out.2.2, HE.out.2.1]; go_num, by go_num, hch.trans hc6.ofNone, hor6, fun t ht => ?_⟩
            rw [hP.out t ht]
            by_cases htj : t = j
            · subst htj
              rw [if_neg (by omega), if_pos (by omega), hemp]; rfl
            · by_cases h1 : t < j
              · rw [if_pos h1, if_pos (by omega)]
              · rw [if_neg h1, if_neg (by omega)]
          case measure => simp [intOf]; omega
        · obtain ⟨b, o, eA⟩ := hr.addr hz
          rw [eA] at hr
          have hbl := hr.blk hz
          have hrt := hr.tight
          clear hr
          have EA := Lib.hid eA
          have HZ := Lib.hid hz
          clear eA hz
          go_wp2_with fail
          refine (markIntS_any (hdr hs j).1 (hdr hs j).2.1 _ (k + tot xss j) (row xss j) _ (B0 := b) (B := b + 1) (by rw [EA.out]; exact hrt) hkj0 hkj).mono ?_
          rintro e w6 ⟨rfl, hc6, ho6⟩
          rw [EA.out] at ho6
          have hor6 := hor.setRow hlt HZ.out EA.out hc6 ho6
          go_wp2
          go_roundw
          case rel =>
            refine ⟨j + 1, _, by omega, by rw [HE.out.2.2, HE.out.2.1]; go_num, by go_num, hch.trans (hc6.mono hbl.1 (by omega)), hor6, fun t ht => ?_⟩
            rw [row_set (by rw [hor.len]; exact hlt)]
            by_cases htj : t = j
            · subst htj
              rw [if_pos rfl, if_pos (by omega), HE.out.2.1]
            · rw [if_neg htj, hP.out t ht]
              by_cases h1 : t < j
              · rw [if_pos h1, if_pos (by omega)]
              · rw [if_neg h1, if_neg (by omega)]
          case measure => simp [intOf]; omega
      · have hjn : j = n := by omega
        subst hjn
        have hD : D = mkT k xss := by
          refine ext_row (by rw [hor.len, mkT_len, HL.out]) fun t ht => ?_
          rw [hor.len] at ht
          rw [hP.out t ht, if_pos ht, mkT_row _ _ _ (by rw [HL.out]; exact ht)]
        subst hD
        have HTT := Lib.hid (show tot xss j = flen xss by rw [← HT.out, HL.out])
        clear hc hc'
        go_wp2
        go_ret
        exact ⟨by rw [HTT.out]; rfl, hch, hor⟩
theorem heldIntSS_any {B : Nat} (A : Option Addr) (n c : Nat) (k : Int) {hs : List Hdr} (xss : List (List Int)) (w : World) (h : RdT w B A n hs (mkT k xss)) (hB : B ≤ w.heap.size) (hk0 : 0 ≤ k) (hk1 : k + flen xss ≤ 1000000000000) :
    Calls Try.prog 18 #[.slice A n c, .int .i64 k] w (Rv (.int .i64 (k + flen xss)) w) := by
  have hm := h.max
  unfold maxLen at hm
  have HL := Lib.hid (show xss.length = n by rw [← h.len, mkT_len])
  have HT := Lib.hid (tot_all xss)
  rcases Nat.eq_zero_or_pos n with h0 | hpos
  · subst h0
    have hx : xss = [] := List.eq_nil_of_length_eq_zero HL.out
    subst hx
    go_enter Try.func18, Try.ntmps18
    go_wp2
    go_loop [1, 5] (fun kk i => kk = .int .i64 k ∧ i = .int .i64 0) (fun _ _ => 0)
    case atStart => exact ⟨rfl, rfl⟩
    case round =>
      obtain ⟨rfl, rfl⟩ := hrel
      go_wp2
      go_ret
      exact ⟨by simp [flen], Below.refl _ _⟩
  · obtain ⟨b1, o1, rfl, hb1, hx⟩ := h.tbl hpos
    go_enter Try.func18, Try.ntmps18
    go_wp2
    go_loopw [1, 5] (fun kk i wr => ∃ j : Nat, j ≤ n ∧ kk = .int .i64 (k + tot xss j) ∧ i = .int .i64 j ∧ Below w.heap.size w wr) (fun _ i _ => n - (intOf i).toNat)
    case atStart => exact ⟨0, by omega, by simp [tot], rfl, Below.refl _ _⟩
    case round =>
      obtain ⟨j, hj, rfl, rfl, hb⟩ := hrel
      by_cases hlt : j < n
      · have cx := (hb.cell (p := ⟨b1, o1 + j, none⟩) (by show b1 < _; omega)).trans (hx j hlt)
        unfold slv at cx
        have hr := (h.rows j hlt).1.below hb hB
        rw [mkT_row _ _ _ (by rw [HL.out]; exact hlt)] at hr
        have t1 := tot_mono xss (show j + 1 ≤ n by omega)
        have t2 : tot xss n = flen xss := by rw [← HT.out, HL.out]
        have t3 : tot xss (j + 1) = tot xss j + (row xss j).length := rfl
        have hlen : (row xss j).length = (hdr hs j).2.1 := by have := hr.1; rw [mkI_len] at this; exact this
        rw [hlen] at hr
        have HE := Lib.hid (And.intro hlen t3)
        have hkj : k + (tot xss j : Int) + ((hdr hs j).2.1 : Int) ≤ 1000000000000 := by rw [← hlen]; omega
        have hkj0 : 0 ≤ k + (tot xss j : Int) := by omega
        have hge : ¬ (k + (tot xss j : Int) + ((hdr hs j).2.1 : Int)) < 0 := by omega
        clear hx hlen t3 t2 t1
        go_wp2_with fail
        refine (heldIntS_rv (hdr hs j).1 (hdr hs j).2.1 _ (k + tot xss j) _ (B := B) hr hkj0 hkj).mono ?_
        rintro e w6 ⟨rfl, hb6⟩
        go_wp2
        go_roundw
        case rel => exact ⟨j + 1, by omega, by rw [HE.out.2, HE.out.1]; go_num, by go_num, hb.trans (hb6.mono hb.size)⟩
        case measure => simp [intOf]; omega
      · have hjn : j = n := by omega
        subst hjn
        have HTT := Lib.hid (show tot xss j = flen xss by rw [← HT.out, HL.out])
        clear hx
        go_wp2
        go_ret
        exact ⟨by rw [HTT.out]; rfl, hb⟩
end Go.Proofs.Yteepnimmbofmlaa
namespace Go.Proofs.Yteepnimmbofmlaa
set_option linter.unusedVariables false
set_option linter.unusedSimpArgs false
set_option maxRecDepth 20000
open Go.RowKit
set_option maxHeartbeats 1000000
theorem iSub_ok (n k : Nat) (w : World) (hn : n ≤ 7) (hk : k ≤ n) :
    Calls Try.prog 43 #[.int .i64 n, .int .i64 k] w (RetT (subs n k 0) w) := by
  have e1 : (decide (0 ≤ (n : Int)) && decide ((n : Int) ≤ 7)) = true := by simp; omega
  have e2 : (decide (0 ≤ (k : Int)) && decide ((k : Int) ≤ (n : Int))) = true := by simp; omega
  go_enter Try.func43, Try.ntmps43
  go_wp2_with (first | (go_at_call 41; refine (inside_any _ _ _ _).mono ?_; rintro e w' ⟨rfl, rfl⟩) | (go_at_call 74; refine (iSubs_any n hn k k 0 0 _ (by omega) (by omega) (Lib.hid rfl) (Lib.hid rfl)).mono ?_; rintro e w1 ⟨A, m, c, rfl, hd, hb, hs, hT⟩))
  go_ret
  exact ⟨_, _, _, rfl, hd, hb, hs, hT⟩
theorem iSub_bad (n k : Int) (w : World) (h : ¬ ((0 ≤ n ∧ n ≤ 7) ∧ 0 ≤ k ∧ k ≤ n)) :
    Calls Try.prog 43 #[.int .i64 n, .int .i64 k] w (RetT [] w) := by
  have HC : (decide (0 ≤ n) && decide (n ≤ 7)) = false ∨ ((decide (0 ≤ n) && decide (n ≤ 7)) = true ∧ (decide (0 ≤ k) && decide (k ≤ n)) = false) := by
    rcases e : (decide (0 ≤ n) && decide (n ≤ 7)) with _ | _
    · exact .inl rfl
    · refine .inr ⟨rfl, ?_⟩
      rcases e2 : (decide (0 ≤ k) && decide (k ≤ n)) with _ | _
      · rfl
      · exfalso; apply h
        simp at e e2
        exact ⟨e, e2⟩
  clear h
  rcases HC with e1 | ⟨e1, e2⟩
  all_goals
    go_enter Try.func43, Try.ntmps43
    go_wp2_with (go_at_call 41; refine (inside_any _ _ _ _).mono ?_; rintro e w' ⟨rfl, rfl⟩)
    go_ret
    exact ⟨_, _, _, rfl, Hd.nil, Below.refl _ _, _, OwT.nil _ _ _⟩
/-- what a statement that calls for a table leaves -/
theorem subs_flat (n k : Nat) (hn : n ≤ 7) (hk : k ≤ 8) : flen (subs n k 0) ≤ 1073741824 := by
  have h : ∀ xss : List (List Int), (∀ r ∈ xss, r.length = k) → xss.flatten.length = xss.length * k := by
    intro xss
    induction xss with
    | nil => intro _; simp
    | cons a r ih =>
      intro h
      rw [List.flatten_cons, List.length_append, ih (fun x hx => h x (List.mem_cons_of_mem _ hx)), h a (List.mem_cons_self ..), List.length_cons, Nat.add_mul]
      omega
  show (subs n k 0).flatten.length ≤ _
  rw [h _ (subs_len n k 0)]
  have h1 := subs_count n k 0
  have h2 := pow_bd hn hk
  calc (subs n k 0).length * k ≤ 5764801 * 8 := Nat.mul_le_mul (by omega) hk
    _ ≤ 1073741824 := by decide
end Go.Proofs.Yteepnimmbofmlaa
