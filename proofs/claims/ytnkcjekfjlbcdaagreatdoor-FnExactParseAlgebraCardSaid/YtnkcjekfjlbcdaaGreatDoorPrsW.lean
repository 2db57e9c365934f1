/- ParseInts of both packages. No condition but what each theorem names. -/
import Derived.Test.YtnkcjekfjlbcdaaGreatDoorNumW
import Derived.Test.YtnkcjekfjlbcdaaGreatDoorShp
import Derived.Test.YtnkcjekfjlbcdaaGreatDoorItoW
import Derived.Test.YtnkcjekfjlbcdaaGreatDoorGrwT
import Derived.Lib.AtoiAllCases
import Derived.Lib.SmallJoins
namespace Go.Proofs.YtnkcjekfjlbcdaaGreatDoor
set_option linter.unusedVariables false
set_option linter.unusedSimpArgs false
set_option maxRecDepth 20000
open Go Go.RowKit
set_option maxHeartbeats 4000000
/-- what a text of numbers reads as -/
noncomputable def parL (l : List UInt8) : Option (List Int) := if l = [] then some [] else parW (splitW l)
/-- the reference's state ahead of byte i: the word began at st, the numbers xs are behind -/
def CutP (l : List UInt8) (i st : Nat) (xs : List Int) : Prop :=
  st ≤ i ∧ xs.length ≤ i ∧ (i ≤ l.length → ∃ D cur a, cutF (l.take i) = (D, cur) ∧ l.take i = a ++ cur ∧ a.length = st ∧ parW D = some xs) ∧ (l.length < i → parW (splitW l) = some xs)
theorem cutP_start (l : List UInt8) : CutP l 0 0 [] := ⟨Nat.le_refl _, Nat.le_refl _, fun _ => ⟨[], [], [], rfl, rfl, rfl, rfl⟩, fun h => by omega⟩
theorem cutP_go {l : List UInt8} {i st : Nat} {xs : List Int} (h : CutP l i st xs) (hi : i < l.length) (hc : l[i]'hi ≠ 32) : CutP l (i + 1) st xs := by
  obtain ⟨h1, h2, h3, _⟩ := h
  refine ⟨by omega, by omega, fun _ => ?_, fun h => by omega⟩
  obtain ⟨D, cur, a, e1, e2, e3, e4⟩ := h3 (by omega)
  refine ⟨D, cur ++ [l[i]'hi], a, ?_, ?_, e3, e4⟩
  · rw [List.take_add_one, List.getElem?_eq_getElem hi]
    show cutF (l.take i ++ [l[i]]) = _
    rw [cutF_snoc, e1]; simp [cutS, hc]
  · rw [List.take_add_one, List.getElem?_eq_getElem hi, e2]; simp
theorem cutP_word {l : List UInt8} {i st : Nat} {xs : List Int} (h : CutP l i st xs) (hi : i ≤ l.length) (hc : ∀ h : i < l.length, l[i]'h = 32) :
    (numW ((l.drop st).take (i - st)) = none → parW (splitW l) = none) ∧ ∀ n, numW ((l.drop st).take (i - st)) = some n → CutP l (i + 1) (i + 1) (xs ++ [n]) := by
  obtain ⟨h1, h2, h3, _⟩ := h
  obtain ⟨D, cur, a, e1, e2, e3, e4⟩ := h3 hi
  have hw : (l.drop st).take (i - st) = cur := by
    rw [← List.drop_take, e2, ← e3, List.drop_left]
  rw [hw]
  rcases Nat.lt_or_ge i l.length with hlt | hge
  · have hs : l = l.take i ++ 32 :: l.drop (i + 1) := by
      conv => lhs; rw [← List.take_append_drop i l, List.drop_eq_getElem_cons hlt, hc hlt]
    refine ⟨fun hn => ?_, fun n hn => ⟨Nat.le_refl _, by simp; omega, fun _ => ⟨D ++ [cur], [], l.take (i + 1), ?_, by simp, by simp; omega, parW_snoc e4 hn⟩, fun h => by omega⟩⟩
    · rw [hs, splitW_at e1]; exact parW_bad hn
    · rw [List.take_add_one, List.getElem?_eq_getElem hlt, hc hlt]
      show cutF (l.take i ++ [32]) = _
      rw [cutF_snoc, e1]; simp [cutS]
  · have hs : l.take i = l := List.take_of_length_le (by omega)
    rw [hs] at e1
    rw [splitW_end e1]
    exact ⟨fun hn => parW_bad hn, fun n hn => ⟨Nat.le_refl _, by simp; omega, fun h => by omega, fun _ => by rw [splitW_end e1]; exact parW_snoc e4 hn⟩⟩
/-- the answer on a text -/
def PrsR (l : List UInt8) (w : World) (e : Ending) (w' : World) : Prop :=
  ∃ A n k b xs, e = .returned (.tuple #[.slice A n k, .bool b]) ∧ Hd A n k ∧ Below w.heap.size w w' ∧ OwI w' w.heap.size w'.heap.size A n xs ∧ parL l = (if b = true then some xs else none) ∧ (b = false → xs = []) ∧ n ≤ l.length + 1
theorem prs_bad {l : List UInt8} {w w' : World} (h : parL l = none) (hb : Below w.heap.size w w') : PrsR l w (.returned (.tuple #[.slice none 0 0, .bool false])) w' :=
  ⟨none, 0, 0, false, [], rfl, (by first | assumption | exact Hd.nil | exact Hd.self (by first | omega | (unfold maxLen; omega))), hb, OwI.emp _ _ _ _, h, fun _ => rfl, by omega⟩
theorem parL_ne {l : List UInt8} (h : l ≠ []) : parL l = parW (splitW l) := by unfold parL; rw [if_neg h]
theorem OwI.one1 (w : World) (x : Int) : OwI (w.alloc (.cells #[.int .i64 x] 3)) w.heap.size (w.heap.size + 1) (some ⟨w.heap.size, 0, none⟩) 1 [x] := by
  refine ⟨rfl, by unfold maxLen; omega, fun _ => ⟨_, 0, rfl, Nat.le_refl _, Nat.lt_succ_self _, fun j hj => ?_⟩⟩
  obtain rfl : j = 0 := by omega
  exact ⟨(Box.new w #[.int .i64 x] 3).cell rfl, (Box.new w #[.int .i64 x] 3).fz 0⟩
theorem sPrs_any (l : List UInt8) (s : ByteArray) (w : World) (hs : s.data.toList = l) (hl : l.length ≤ 1048576) :
    Calls Tryz.prog 10 #[.string s] w (PrsR l w) := by
  have hls : s.size = l.length := by rw [← hs]; rfl
  have hat : ∀ (i : Nat) (hi : i < l.length), (s[i]'(by omega)) = l[i]'hi := fun i hi => by subst hs; rfl
  have HAT := Lib.hid hat
  have HSL := Lib.hid hs
  have hG := Grw.start w 3 rfl
  have hq0 : Below w.heap.size w (w.alloc (.cells #[] 3)) := (by repeat' (first | (with_reducible exact Below.refl _ _) | (with_reducible refine Below.setCell ?_ (by first | exact Nat.le_refl _ | omega | (simp only [World.size_alloc, World.size_setCell, World.heap_drewN]; omega) | (simp; omega)) _) | (with_reducible refine Below.alloc ?_ (by first | exact Nat.le_refl _ | omega | (simp only [World.size_alloc, World.size_setCell, World.heap_drewN]; omega) | (simp; omega)) _) | (with_reducible refine below_drewN ?_ _) | (with_reducible refine Below.drew ?_)))
  clear hat
  by_cases hz : l = []
  · have hse : s.toList.isEmpty = true := by rw [Lib.toList_data, hs, hz]; rfl
    have HP := Lib.hid (show parL l = some [] by unfold parL; rw [if_pos hz])
    clear hs hz HAT hls hl
    obtain ⟨A, k, hv, hd, ho⟩ := hG.ret (by omega)
    injection hv with hv1 _ hv2
    subst hv1 hv2
    go_enter Tryz.func10, Tryz.ntmps10
    go_wp2
    exact bodyPost_ret (v := .tuple #[.slice (some ⟨w.heap.size, 0, none⟩) 0 0, .bool true]) (by simp [results, Tryz.results10, go_sem]) rfl ⟨_, _, _, _, _, rfl, hd, hq0, ho, HP.out, fun h => (by cases h), by omega⟩
  · have hse : s.toList.isEmpty = false := by rw [Lib.toList_data, hs]; simpa using hz
    have HP := Lib.hid (parL_ne hz)
    have HC := Lib.hid (cutP_start l)
    clear hs hz
    go_enter Tryz.func10, Tryz.ntmps10
    go_wp2_with fail
    go_loopw [4, 5, 6] (fun v st i wr => ∃ (j b : Nat) (xs : List Int), j ≤ l.length + 1 ∧ b ≤ j ∧ i = .int .i64 j ∧ st = .int .i64 b ∧ Grw w.heap.size (w.alloc (.cells #[] 3)) wr v xs.length xs ∧ Hid (CutP l j b xs)) (fun _ _ i _ => l.length + 1 - (intOf i).toNat)
    case atStart => exact ⟨0, 0, [], by omega, by omega, rfl, rfl, hG, HC⟩
    case round =>
      clear hG HC
      obtain ⟨j, b, xs, hj, hbj, rfl, rfl, hG, HC⟩ := hrel
      have hsz := hG.size
      simp only [World.size_alloc] at hsz
      by_cases hle : j ≤ l.length
      · have hex : (s.extract b j).data.toList = (l.drop b).take (j - b) := by rw [Lib.extract_data, HSL.out]
        have hxl : ((l.drop b).take (j - b)).length ≤ 4294967280 := by rw [List.length_take, List.length_drop]; omega
        have hxn : xs.length ≤ j := HC.out.2.1
        by_cases hgo : ∃ h : j < l.length, l[j]'h ≠ 32
        · obtain ⟨hlt, hc⟩ := hgo
          have hcs : (((s[j]'(by omega)).toNat : Int) == 32) = false := by
            rw [HAT.out j hlt, beq_eq_false_iff_ne]
            intro e
            exact hc (UInt8.toNat_inj.1 (by exact_mod_cast e))
          have HC2 := Lib.hid (cutP_go HC.out hlt hc)
          have HG := Lib.hid hG
          clear hG hc hex
          go_wp2
          go_roundw
          case rel => exact ⟨j + 1, b, xs, by omega, by omega, by go_num, rfl, HG.out, HC2⟩
          case measure => simp [intOf]; omega
        · have hc : ∀ h : j < l.length, l[j]'h = 32 := fun h => Classical.byContradiction fun h2 => hgo ⟨h, h2⟩
          have HW := Lib.hid (cutP_word HC.out hle hc)
          have HBD := Lib.hid HC.out.2.1
          rcases Nat.lt_or_ge j l.length with hlt | hge
          · have hcs : (((s[j]'(by omega)).toNat : Int) == 32) = true := by rw [HAT.out j hlt, hc hlt]; rfl
            clear hc hgo
            go_wp2_with fail
            refine (sNum_any ((l.drop b).take (j - b)) (s.extract b j) wr hex hxl).mono ?_
            rintro e w2 ⟨n, ok, rfl, hnw, hb2⟩
            have hs2 := hb2.size
            have hG2 := hG.step hb2
            have hq2 : Below w.heap.size w w2 := hq0.trans hG2.below
            cases ok with
            | false =>
              have HR := Lib.hid (show parL l = none by rw [HP.out]; exact HW.out.1 hnw)
              clear hG hG2 hnw
              go_wp2
              exact bodyPost_ret (v := .tuple #[.slice none 0 0, .bool false]) (by simp [results, Tryz.results10, go_sem]) rfl (prs_bad HR.out hq2)
            | true =>
              have HC2 := Lib.hid (HW.out.2 n hnw)
              have hcl := (Box.new w2 #[.int .i64 n] 3).one
              have hRO := (OwI.one1 w2 n).rd
              have hT2 := hG2.own.alloc (.cells #[.int .i64 n] 3)
              have hcn : xs.length ≤ 1073741823 := by omega
              clear hG hnw
              go_wp2_with (at_builtin; refine wpList_apI (v := u4) (w := w2.alloc (.cells #[.int .i64 n] 3)) (lo := w.heap.size) (n := xs.length) (xs := xs) (ys := [n]) (m := 1) rfl (.tmp 39) (.tmp 41) rfl rfl hT2 rfl hRO (Hd.self (by unfold maxLen; omega)) (by omega) (by simp; omega) ?_; intro v5 w5 ho5 hg5 hv5)
              have hG5 := hG2.push ho5 hg5 hv5
              clear hG2 ho5 hg5 hv5 hT2
              go_wp2
              go_roundw
              case rel => exact ⟨j + 1, j + 1, xs ++ [n], by omega, by omega, by go_num, by go_num, by rw [List.length_append]; exact hG5, HC2⟩
              case measure => simp [intOf]; omega
          · obtain rfl : j = l.length := by omega
            clear hc hgo
            go_wp2_with fail
            refine (sNum_any ((l.drop b).take (l.length - b)) (s.extract b l.length) wr hex hxl).mono ?_
            rintro e w2 ⟨n, ok, rfl, hnw, hb2⟩
            have hs2 := hb2.size
            have hG2 := hG.step hb2
            have hq2 : Below w.heap.size w w2 := hq0.trans hG2.below
            cases ok with
            | false =>
              have HR := Lib.hid (show parL l = none by rw [HP.out]; exact HW.out.1 hnw)
              clear hG hG2 hnw
              go_wp2
              exact bodyPost_ret (v := .tuple #[.slice none 0 0, .bool false]) (by simp [results, Tryz.results10, go_sem]) rfl (prs_bad HR.out hq2)
            | true =>
              have HC2 := Lib.hid (HW.out.2 n hnw)
              have hcl := (Box.new w2 #[.int .i64 n] 3).one
              have hRO := (OwI.one1 w2 n).rd
              have hT2 := hG2.own.alloc (.cells #[.int .i64 n] 3)
              have hcn : xs.length ≤ 1073741823 := by omega
              clear hG hnw
              go_wp2_with (at_builtin; refine wpList_apI (v := u4) (w := w2.alloc (.cells #[.int .i64 n] 3)) (lo := w.heap.size) (n := xs.length) (xs := xs) (ys := [n]) (m := 1) rfl (.tmp 39) (.tmp 41) rfl rfl hT2 rfl hRO (Hd.self (by unfold maxLen; omega)) (by omega) (by simp; omega) ?_; intro v5 w5 ho5 hg5 hv5)
              have hG5 := hG2.push ho5 hg5 hv5
              clear hG2 ho5 hg5 hv5 hT2
              go_wp2
              go_roundw
              case rel => exact ⟨l.length + 1, l.length + 1, xs ++ [n], by omega, by omega, by go_num, by go_num, by rw [List.length_append]; exact hG5, HC2⟩
              case measure => simp [intOf]
      · obtain rfl : j = l.length + 1 := by omega
        have HE := Lib.hid (HC.out.2.2.2 (by omega))
        have HBD := Lib.hid HC.out.2.1
        have hbd := HBD.out
        obtain ⟨A, k, rfl, hd, ho⟩ := hG.ret (by omega)
        have hq2 : Below w.heap.size w wr := hq0.trans hG.below
        clear hG
        go_wp2
        exact bodyPost_ret (v := .tuple #[.slice A xs.length k, .bool true]) (by simp [results, Tryz.results10, go_sem]) rfl ⟨_, _, _, _, _, rfl, hd, hq2, ho, by rw [HP.out, HE.out, if_pos rfl], fun h => (by cases h), HBD.out⟩
end Go.Proofs.YtnkcjekfjlbcdaaGreatDoor
