/- ParseInts of the program. No condition but what each theorem names. -/
import Derived.Test.YtnkcjekfjlbcdaaGreatDoorPrsW
import Derived.Test.YtnkcjekfjlbcdaaGreatDoorAtoW
namespace Go.Proofs.YtnkcjekfjlbcdaaGreatDoor
set_option linter.unusedVariables false
set_option linter.unusedSimpArgs false
set_option maxRecDepth 20000
open Go Go.RowKit
set_option maxHeartbeats 4000000
theorem iPrs_any (l : List UInt8) (s : ByteArray) (w : World) (hs : s.data.toList = l) (hl : l.length ≤ 1048576) (ht : Tabs w.heap.size w) (he : Errs w) :
    Calls Tryz.prog 16 #[.string s] w (PrsR l w) := by
  have hls : s.size = l.length := by rw [← hs]; rfl
  have hq0 : Below w.heap.size w (w.alloc (.cells #[] 3)) := (by repeat' (first | (with_reducible exact Below.refl _ _) | (with_reducible refine Below.setCell ?_ (by first | exact Nat.le_refl _ | omega | (simp only [World.size_alloc, World.size_setCell, World.heap_drewN]; omega) | (simp; omega)) _) | (with_reducible refine Below.alloc ?_ (by first | exact Nat.le_refl _ | omega | (simp only [World.size_alloc, World.size_setCell, World.heap_drewN]; omega) | (simp; omega)) _) | (with_reducible refine below_drewN ?_ _) | (with_reducible refine Below.drew ?_)))
  by_cases hz : l = []
  · have hse : s.toList.isEmpty = true := by rw [Lib.toList_data, hs, hz]; rfl
    have HP := Lib.hid (show parL l = some [] by unfold parL; rw [if_pos hz])
    have hG := Grw.start w 3 rfl
    clear hs hz hls hl
    obtain ⟨A, k, hv, hd, ho⟩ := hG.ret (by omega)
    injection hv with hv1 _ hv2
    subst hv1 hv2
    go_enter Tryz.func16, Tryz.ntmps16
    go_wp2
    exact bodyPost_ret (v := .tuple #[.slice (some ⟨w.heap.size, 0, none⟩) 0 0, .bool true]) (by simp [results, Tryz.results16, go_sem]) rfl ⟨_, _, _, _, _, rfl, hd, hq0, ho, HP.out, fun h => (by cases h), by omega⟩
  · have hse : s.toList.isEmpty = false := by rw [Lib.toList_data, hs]; simpa using hz
    have HP := Lib.hid (parL_ne hz)
    have HSL := Lib.hid hs
    have hsp := split_any l s (w.alloc (.cells #[] 3)) hs (by omega) (he.on hq0)
    have hwl0 := wrdB_words s
    rw [hs] at hwl0
    have hbx := Box.new (w.alloc (.cells #[] 3)) ((wrdB s).map Value.string).toArray 9
    have hq1 : Below w.heap.size w ((w.alloc (.cells #[] 3)).alloc (.cells ((wrdB s).map Value.string).toArray 9)) := (by repeat' (first | (with_reducible exact Below.refl _ _) | (with_reducible refine Below.setCell ?_ (by first | exact Nat.le_refl _ | omega | (simp only [World.size_alloc, World.size_setCell, World.heap_drewN]; omega) | (simp; omega)) _) | (with_reducible refine Below.alloc ?_ (by first | exact Nat.le_refl _ | omega | (simp only [World.size_alloc, World.size_setCell, World.heap_drewN]; omega) | (simp; omega)) _) | (with_reducible refine below_drewN ?_ _) | (with_reducible refine Below.drew ?_) | (with_reducible refine Below.trans ?_ (hq0.mono (by first | exact Nat.le_refl _ | omega | (simp only [World.size_alloc, World.size_setCell, World.heap_drewN]; omega) | (simp; omega))))))
    have hG := Grw.start' w 3 (w1 := (w.alloc (.cells #[] 3)).alloc (.cells ((wrdB s).map Value.string).toArray 9)) rfl ((Below.refl _ _).alloc (by simp) _)
    rw [World.size_alloc] at hsp hbx
    generalize wrdB s = ws at hsp hwl0 hbx hq1 hG
    have HWL := Lib.hid hwl0
    have hnw : ws.length ≤ l.length + 1 := by
      have h1 := congrArg List.length hwl0
      rw [List.length_map] at h1
      have := (spl_all _ l (Nat.le_refl _)).2.1
      have h2 := Lib.count_le l [32]
      have h3 : ∀ m (l : List UInt8), l.length ≤ m → (splitW l).length ≤ l.length + 1 := by
        intro m
        induction m with
        | zero =>
          intro l hl
          obtain rfl : l = [] := List.eq_nil_of_length_eq_zero (by omega)
          exact Nat.le_refl _
        | succ m ih =>
          intro l hl
          by_cases hm : (32 : UInt8) ∈ l
          · obtain ⟨a, b, rfl, ha⟩ := List.eq_append_cons_of_mem hm
            rw [splitW_cut ha]
            have := ih b (by simp only [List.length_append, List.length_cons] at hl; omega)
            simp only [List.length_append, List.length_cons]; omega
          · rw [splitW_none hm]; simp
      have := h3 _ l (Nat.le_refl _)
      omega
    have HLE := Lib.hid (spl_all _ l (Nat.le_refl _)).2.2
    clear hs hz hwl0
    generalize hW1 : (w.alloc (.cells #[] 3)).alloc (.cells (ws.map Value.string).toArray 9) = w1 at hsp hbx hq1 hG
    go_enter Tryz.func16, Tryz.ntmps16
    go_wp2_with fail
    refine hsp.mono ?_
    rintro e w1' ⟨rfl, hw1⟩
    subst hw1
    clear hsp hq0 hW1
    go_wp2_with fail
    go_loopw [4, 16] (fun v i wr => ∃ (j : Nat) (xs : List Int), j ≤ ws.length ∧ i = .int .i64 j ∧ xs.length = j ∧ Grw w.heap.size w1' wr v j xs ∧ Hid (parW ((splitW l).take j) = some xs)) (fun _ i _ => ws.length - (intOf i).toNat)
    case atStart => exact ⟨0, [], by omega, rfl, rfl, hG, Lib.hid rfl⟩
    case round =>
      clear hG
      obtain ⟨j, xs, hj, rfl, hxl, hG, HX⟩ := hrel
      have hsz := hG.size
      have hsw := hq1.size
      have hq := hq1.trans hG.below
      by_cases hlt : j < ws.length
      · have hbr := hbx.chg hG.chg (Or.inr (Nat.le_refl _))
        have hc := hbr.cell (i := j) (v := .string (ws[j]'hlt)) (by simp [hlt])
        obtain ⟨t, htt⟩ : ∃ t, ws[j]'hlt = t := ⟨_, rfl⟩
        rw [htt] at hc
        obtain ⟨wd, hwd⟩ : ∃ wd, t.data.toList = wd := ⟨_, rfl⟩
        have hsj : (splitW l)[j]? = some wd := by
          rw [← HWL.out, List.getElem?_map, List.getElem?_eq_getElem hlt, htt]
          show some (t.data.toList) = _
          rw [hwd]
        have hdl : wd.length ≤ 4294967280 := by
          have := HLE.out wd (List.mem_of_getElem? hsj)
          omega
        have HS1 := Lib.hid (show (splitW l).take (j + 1) = (splitW l).take j ++ [wd] by rw [List.take_add_one, hsj]; rfl)
        have HS2 := Lib.hid (show numW wd = none → parL l = none by
          intro hn
          rw [HP.out, ← List.take_append_drop j (splitW l), List.drop_eq_getElem?_toList_append, hsj]
          exact parW_bad hn)
        have hat := atoi_any wd t wr hwd hdl (he.on hq)
        have HTD := Lib.hid hwd
        clear htt hwd hsj
        go_wp2_with fail
        refine hat.mono ?_
        rintro e w2 ⟨hb2, ⟨v, hv, hv0, hv1, rfl⟩ | ⟨v, tt, p, hv, rfl⟩⟩
        · have hs2 := hb2.size
          have hG2 := hG.step hb2
          have hq2 : Below w.heap.size w w2 := hq1.trans hG2.below
          have HV := Lib.hid hv
          clear hv hat hG hc hbr
          go_wp2_with fail
          refine (iIns_any v (-999999999) 999999999 w2).mono ?_
          rintro e w3 ⟨rfl, rfl⟩
          cases hI : insB v (-999999999) 999999999 with
          | false =>
            have HR := Lib.hid (HS2.out (numW_none fun ⟨n, hn⟩ => by
              obtain rfl := HV.out n hn
              unfold insB at hI
              exact (of_decide_eq_false hI) ⟨hn.1, hn.2.1⟩))
            go_wp2
            exact bodyPost_ret (v := .tuple #[.slice none 0 0, .bool false]) (by simp [results, Tryz.results16, go_sem]) rfl (prs_bad HR.out hq2)
          | true =>
            have HI := Lib.hid (show -999999999 ≤ v ∧ v ≤ 999999999 by unfold insB at hI; exact of_decide_eq_true hI)
            clear hI
            go_wp2_with fail
            refine (iFmt_any (B := w.heap.size) v w3 hv0 hv1 (ht.on hq2)).mono ?_
            rintro e w4 ⟨rfl, hb4⟩
            have hs4 := hb4.size
            have hG4 := hG2.step hb4
            have hq4 : Below w.heap.size w w4 := hq1.trans hG4.below
            obtain ⟨t4, ht4⟩ : ∃ t4, t4 = (⟨(Lib.itoa v).toArray⟩ : ByteArray) := ⟨_, rfl⟩
            rw [← ht4]
            by_cases heq : Lib.itoa v = wd
            · have hcm : (t4.toList == t.toList) = true := by rw [Lib.toList_data, Lib.toList_data, HTD.out, ht4]; simpa using heq
              have HN := Lib.hid (numW_some (show okN v wd from ⟨HI.out.1, HI.out.2, heq⟩))
              have HX2 := Lib.hid (show parW ((splitW l).take (j + 1)) = some (xs ++ [v]) by rw [HS1.out]; exact parW_snoc HX.out HN.out)
              have hcl := (Box.new w4 #[.int .i64 v] 3).one
              have hRO := (OwI.one1 w4 v).rd
              have hT4 := hG4.own.alloc (.cells #[.int .i64 v] 3)
              clear heq ht4 hG2
              go_wp2_with (at_builtin; refine wpList_apI (v := u4) (w := w4.alloc (.cells #[.int .i64 v] 3)) (lo := w.heap.size) (n := j) (xs := xs) (ys := [v]) (m := 1) rfl (.tmp 38) (.tmp 40) rfl rfl hT4 rfl hRO (Hd.self (by unfold maxLen; omega)) (by omega) (by simp; omega) ?_; intro v5 w5 ho5 hg5 hv5)
              have hG5 := hG4.push ho5 hg5 hv5
              clear hG4 ho5 hg5 hv5 hT4
              go_wp2
              go_roundw
              case rel => exact ⟨j + 1, xs ++ [v], by omega, by go_num, by simp [hxl], hG5, HX2⟩
              case measure => simp [intOf]; omega
            · have hcm : (t4.toList == t.toList) = false := by rw [Lib.toList_data, Lib.toList_data, HTD.out, ht4]; simpa using heq
              have HR := Lib.hid (HS2.out (numW_none fun ⟨n, hn⟩ => by
                obtain rfl := HV.out n hn
                exact heq hn.2.2))
              clear heq ht4 hG2
              go_wp2
              exact bodyPost_ret (v := .tuple #[.slice none 0 0, .bool false]) (by simp [results, Tryz.results16, go_sem]) rfl (prs_bad HR.out hq4)
        · have hq2 : Below w.heap.size w w2 := hq1.trans (hG.step hb2).below
          have HR := Lib.hid (HS2.out (numW_none fun ⟨n, hn⟩ => hv n hn))
          clear hv hat
          go_wp2
          exact bodyPost_ret (v := .tuple #[.slice none 0 0, .bool false]) (by simp [results, Tryz.results16, go_sem]) rfl (prs_bad HR.out hq2)
      · obtain rfl : j = ws.length := by omega
        have HE := Lib.hid (show parW (splitW l) = some xs by
          have h1 := congrArg List.length HWL.out
          rw [List.length_map] at h1
          have h2 := HX.out
          rw [h1, List.take_length] at h2
          exact h2)
        obtain ⟨A, k, rfl, hd, ho⟩ := hG.ret (by omega)
        clear hG
        go_wp2
        exact bodyPost_ret (v := .tuple #[.slice A ws.length k, .bool true]) (by simp [results, Tryz.results16, go_sem]) rfl ⟨_, _, _, _, _, rfl, hd, hq, ho, by rw [HP.out, HE.out, if_pos rfl], fun h => (by cases h), hnw⟩
end Go.Proofs.YtnkcjekfjlbcdaaGreatDoor
