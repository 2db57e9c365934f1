/- l2Lines of the reference: a text cut at its line ends. strings.Split at line ends. No condition but what each theorem names. -/
import Derived.Test.YtnkcjekfjlbcdaaGreatDoorPal
import Derived.Test.YtnkcjekfjlbcdaaGreatDoorFaI
import Derived.Test.YtnkcjekfjlbcdaaGreatDoorPriW
namespace Go.Proofs.YtnkcjekfjlbcdaaGreatDoor
set_option linter.unusedVariables false
set_option linter.unusedSimpArgs false
set_option maxRecDepth 20000
open Go Go.RowKit
set_option maxHeartbeats 4000000
/-- a slice of strings that is read -/
def RdS (w : World) (B : Nat) (A : Option Addr) (n : Nat) (bs : List ByteArray) : Prop :=
  bs.length = n ∧ (0 < n → ∃ g, A = some ⟨g, 0, none⟩ ∧ g < B ∧ ∀ j x, bs[j]? = some x → w.cell? ⟨g, j, none⟩ = some (.string x))
theorem RdS.below {w w' : World} {B B' n : Nat} {A : Option Addr} {bs : List ByteArray} (h : RdS w B A n bs) (hb : Below B' w w') (hB : B ≤ B') : RdS w' B A n bs :=
  ⟨h.1, fun hn => by
    obtain ⟨g, e, hg, hc⟩ := h.2 hn
    exact ⟨g, e, hg, fun j x hx => (hb.cell (p := ⟨g, j, none⟩) (by show g < B'; omega)).trans (hc j x hx)⟩⟩
theorem RdS.setCell {w : World} {B n : Nat} {A : Option Addr} {bs : List ByteArray} (h : RdS w B A n bs) {p : Addr} (hp : B ≤ p.block) (v : Value) : RdS (w.setCell p v) B A n bs :=
  h.below ((Below.refl B w).setCell hp v) (Nat.le_refl _)
theorem RdS.up {w : World} {B B' n : Nat} {A : Option Addr} {bs : List ByteArray} (h : RdS w B A n bs) (hB : B ≤ B') : RdS w B' A n bs :=
  ⟨h.1, fun hn => by obtain ⟨g, e, hg, hc⟩ := h.2 hn; exact ⟨g, e, by omega, hc⟩⟩
theorem RdS.ofOwn {w : World} {base n c : Nat} {e : TypeId} {A : Option Addr} {bs : List ByteArray} (h : w.ownsRow base e 1 (.slice A n c) n (bs.map Value.string)) : RdS w w.heap.size A n bs := by
  have hl : bs.length = n := by have := h.1; simpa using this
  refine ⟨hl, fun hn => ?_⟩
  rcases h.2 with ⟨hv, h0⟩ | ⟨g, cap, cur, hv, hg, hh, h1, h2, h3, h4⟩
  · omega
  · obtain ⟨hA, _⟩ : A = some ⟨g, 0, none⟩ ∧ c = cap := by injection hv with a b d; exact ⟨a, d⟩
    subst hA
    have hlt : g < w.heap.size := by
      rcases Nat.lt_or_ge g w.heap.size with h | h
      · exact h
      · rw [Array.getElem?_eq_none h] at hh; cases hh
    refine ⟨g, rfl, hlt, fun j x hx => ?_⟩
    have hj : j < n := by rw [← hl]; exact (List.getElem?_eq_some_iff.1 hx).1
    rw [cell_of_row w g _ cur e (0, 0) hh]
    have h5 : (cur.toList.take (n * 1))[j]? = (bs.map Value.string)[j]? := by rw [h4]
    rw [List.getElem?_take, if_pos (by omega), List.getElem?_map, hx] at h5
    simpa using h5
theorem own_hdS {w : World} {base n : Nat} {e : TypeId} {v : Value} {bs : List Value} (h : w.ownsRow base e 1 v n bs) (hn : n ≤ 1073741824) : ∃ A c, v = .slice A n c ∧ Hd A n c := by
  obtain ⟨A, c, e, hd⟩ := own_hd h
  exact ⟨A, c, e, hd⟩
/-- the reference's state ahead of byte i -/
def LnP (l : List UInt8) (i st : Nat) (bs : List ByteArray) : Prop :=
  st ≤ i ∧ bs.length ≤ i ∧ ∃ cur a, lnF (l.take i) = (bs.map (·.data.toList), cur) ∧ l.take i = a ++ cur ∧ a.length = st
theorem LnP.start (l : List UInt8) : LnP l 0 0 [] := ⟨Nat.le_refl _, Nat.le_refl _, [], [], rfl, rfl, rfl⟩
theorem LnP.go {l : List UInt8} {i st : Nat} {bs : List ByteArray} (h : LnP l i st bs) (hi : i < l.length) (hc : l[i]'hi ≠ 10) : LnP l (i + 1) st bs := by
  obtain ⟨h1, h2, cur, a, e1, e2, e3⟩ := h
  refine ⟨by omega, by omega, cur ++ [l[i]'hi], a, ?_, ?_, e3⟩
  · rw [List.take_add_one, List.getElem?_eq_getElem hi]
    show lnF (l.take i ++ [l[i]]) = _
    rw [lnF_snoc, e1]; simp [lnS, hc]
  · rw [List.take_add_one, List.getElem?_eq_getElem hi, e2]; simp
theorem LnP.word {l : List UInt8} {s : ByteArray} (hs : s.data.toList = l) {i st : Nat} {bs : List ByteArray} (h : LnP l i st bs) (hi : i < l.length) (hc : l[i]'hi = 10) : LnP l (i + 1) (i + 1) (bs ++ [s.extract st i]) := by
  obtain ⟨h1, h2, cur, a, e1, e2, e3⟩ := h
  have hw : (s.extract st i).data.toList = cur := by
    rw [Lib.extract_data, hs, ← List.drop_take, e2, ← e3, List.drop_left]
  refine ⟨Nat.le_refl _, by simp; omega, [], l.take (i + 1), ?_, by simp, by simp; omega⟩
  rw [List.take_add_one, List.getElem?_eq_getElem hi, hc]
  show lnF (l.take i ++ [10]) = _
  rw [lnF_snoc, e1, List.map_append, List.map_cons, List.map_nil, hw]; rfl
theorem LnP.fin {l : List UInt8} {st : Nat} {bs : List ByteArray} (h : LnP l l.length st bs) : (lnF l).1 = bs.map (·.data.toList) ∧ ((lnF l).2 = [] ↔ st = l.length) := by
  obtain ⟨h1, h2, cur, a, e1, e2, e3⟩ := h
  rw [List.take_length] at e1 e2
  rw [e1]
  refine ⟨rfl, ?_⟩
  have := congrArg List.length e2
  rw [List.length_append] at this
  show cur = [] ↔ _
  constructor
  · intro h; rw [h] at this; simp at this; omega
  · intro h; exact List.eq_nil_of_length_eq_zero (by omega)
/-- the lines of a text -/
def RetLn (l : List UInt8) (w : World) (e : Ending) (w' : World) : Prop :=
  ∃ A n k b bs, e = .returned (.tuple #[.slice A n k, .bool b]) ∧ Hd A n k ∧ Below w.heap.size w w' ∧ RdS w' w'.heap.size A n bs ∧ (lnF l).1 = bs.map (·.data.toList) ∧ (b = true ↔ (lnF l).2 = []) ∧ n ≤ l.length
theorem lines_any (l : List UInt8) (s : ByteArray) (w : World) (hs : s.data.toList = l) (hl : l.length ≤ 1048576) :
    Calls Tryz.prog 9 #[.string s] w (RetLn l w) := by
  have hls : s.size = l.length := by rw [← hs]; rfl
  have HAT := Lib.hid (show ∀ (i : Nat) (hi : i < l.length), (s[i]'(by omega)) = l[i]'hi from fun i hi => by subst hs; rfl)
  have HSL := Lib.hid hs
  have hq0 : Below w.heap.size w (w.alloc (.cells #[] 9)) := (by repeat' (first | (with_reducible exact Below.refl _ _) | (with_reducible refine Below.setCell ?_ (by first | exact Nat.le_refl _ | omega | (simp only [World.size_alloc, World.size_setCell, World.heap_drewN]; omega) | (simp; omega)) _) | (with_reducible refine Below.alloc ?_ (by first | exact Nat.le_refl _ | omega | (simp only [World.size_alloc, World.size_setCell, World.heap_drewN]; omega) | (simp; omega)) _) | (with_reducible refine below_drewN ?_ _) | (with_reducible refine Below.drew ?_)))
  have hown0 : (w.alloc (.cells #[] 9)).ownsRow w.heap.size 9 1 (.slice (some ⟨w.heap.size, 0, none⟩) 0 0) 0 (([] : List ByteArray).map Value.string) := by
    have := World.ownsRow_lit (base := w.heap.size) (e := 9) (size := 1) w #[] 0 (Nat.le_refl _) (by unfold maxLen; omega) rfl
    simpa using this
  have HC := Lib.hid (LnP.start l)
  clear hs
  go_enter Tryz.func9, Tryz.ntmps9
  go_wp2_with fail
  go_loopw [4, 5, 6] (fun v st i wr => ∃ (j b : Nat) (bs : List ByteArray), j ≤ l.length ∧ b ≤ j ∧ bs.length ≤ j ∧ i = .int .i64 j ∧ st = .int .i64 b ∧ wr.ownsRow w.heap.size 9 1 v bs.length (bs.map Value.string) ∧ Below w.heap.size w wr ∧ Hid (LnP l j b bs)) (fun _ _ i _ => l.length - (intOf i).toNat)
  case atStart => exact ⟨0, 0, [], by omega, by omega, Nat.le_refl _, rfl, rfl, hown0, hq0, HC⟩
  case round =>
    clear hown0 hq0 HC
    obtain ⟨j, b, bs, hj, hbj, hbs, rfl, rfl, hown, hbl, HC⟩ := hrel
    have hsz := hbl.size
    by_cases hlt : j < l.length
    · have HO := Lib.hid hown
      by_cases hc : l[j]'hlt = 10
      · have hcs : (((s[j]'(by omega)).toNat : Int) == 10) = true := by rw [HAT.out j hlt, hc]; rfl
        have HC2 := Lib.hid (LnP.word HSL.out HC.out hlt hc)
        have hlo := fun b e => (hown.lt b e).1
        have hcl := (Box.new wr #[.string (s.extract b j)] 9).one
        have HO2 := Lib.hid (show (wr.alloc (.cells #[.string (s.extract b j)] 9)).ownsRow w.heap.size 9 1 u4 bs.length (bs.map Value.string) from hown.alloc _)
        have hcn : bs.length ≤ 1073741823 := by omega
        clear hown hc
        go_wp2_with (at_builtin; refine wpList_apS (v := u4) (w := wr.alloc (.cells #[.string (s.extract b j)] 9)) (lo := w.heap.size) (b := wr.heap.size) (u := .string (s.extract b j)) rfl (.tmp 18) (.tmp 23) rfl rfl HO2.out rfl hcl rfl (by omega) (by rw [World.size_alloc]; omega) ?_; intro v5 w5 ho5 hg5 hv5)
        have hb5 : Below w.heap.size w w5 := (hbl.alloc (by omega) (.cells #[.string (s.extract b j)] 9)).grown hg5 (by rw [World.size_alloc]; omega) (fun q e => hlo q e)
        have HO5 := Lib.hid (show w5.ownsRow w.heap.size 9 1 v5 (bs ++ [s.extract b j]).length ((bs ++ [s.extract b j]).map Value.string) by
          rw [List.map_append, List.length_append]; exact ho5)
        clear ho5 hg5 hv5 hcl hlo
        go_wp2
        go_roundw
        case rel => exact ⟨j + 1, j + 1, bs ++ [s.extract b j], by omega, by omega, by rw [List.length_append]; simp; omega, by go_num, by go_num, HO5.out, hb5, HC2⟩
        case measure => simp [intOf]; omega
      · have hcs : (((s[j]'(by omega)).toNat : Int) == 10) = false := by
          rw [HAT.out j hlt, beq_eq_false_iff_ne]
          intro e
          exact hc (UInt8.toNat_inj.1 (by exact_mod_cast e))
        have HC2 := Lib.hid (LnP.go HC.out hlt hc)
        clear hc hown
        go_wp2
        go_roundw
        case rel => exact ⟨j + 1, b, bs, by omega, by omega, by omega, by go_num, rfl, HO.out, hbl, HC2⟩
        case measure => simp [intOf]; omega
    · obtain rfl : j = l.length := by omega
      obtain ⟨A, k, rfl, hd⟩ := own_hdS hown (by omega)
      have hrd := RdS.ofOwn hown
      obtain ⟨hf1, hf2⟩ := HC.out.fin
      have HF1 := Lib.hid hf1
      by_cases hbe : b = l.length
      · have HF2 := Lib.hid (hf2.2 hbe)
        have hE : ((b : Int) == (l.length : Int)) = true := by rw [hbe]; simp
        have HRD := Lib.hid hrd
        clear hf1 hf2 hbe hown hrd
        go_wp2
        exact bodyPost_ret (v := .tuple #[.slice A bs.length k, .bool true]) (by simp [results, Tryz.results9, go_sem]) rfl ⟨_, _, _, _, _, rfl, hd, hbl, HRD.out, HF1.out, ⟨fun _ => HF2.out, fun _ => rfl⟩, by omega⟩
      · have HF2 := Lib.hid (fun h => hbe (hf2.1 h))
        have hE : ((b : Int) == (l.length : Int)) = false := by rw [beq_eq_false_iff_ne]; omega
        have HRD := Lib.hid hrd
        clear hf1 hf2 hbe hown hrd
        go_wp2
        exact bodyPost_ret (v := .tuple #[.slice A bs.length k, .bool false]) (by simp [results, Tryz.results9, go_sem]) rfl ⟨_, _, _, _, _, rfl, hd, hbl, HRD.out, HF1.out, ⟨fun h => (by cases h), fun h => absurd h HF2.out⟩, by omega⟩
/-- the pieces at the line ends, as strings -/
def lnsB (s : ByteArray) : List ByteArray := Lib.splitB ⟨#[10]⟩ 0 (Lib.countB s ⟨#[10]⟩) s
theorem lnsB_lines (s : ByteArray) : (lnsB s).map (·.data.toList) = splitL s.data.toList := splitB_lines s
theorem split10_any (l : List UInt8) (s : ByteArray) (w : World) (hs : s.data.toList = l) (hl : l.length ≤ 4294967280) (he : Errs w) :
    Calls Tryz.prog 15 #[.string s, .string ⟨#[10]⟩] w fun e w' => e = .returned (.slice (some ⟨w.heap.size, 0, none⟩) (lnsB s).length (lnsB s).length) ∧ w' = w.alloc (.cells ((lnsB s).map Value.string).toArray 9) := by
  have hls : s.size = l.length := by rw [← hs]; rfl
  obtain ⟨_, _, m, hm⟩ := he
  have hn : Lib.countB s ⟨#[10]⟩ + 1 = (lnsB s).length := by
    have h1 := congrArg List.length (lnsB_lines s)
    rw [List.length_map] at h1
    rw [h1]
    exact (spl10_all _ _ (Nat.le_refl _)).2
  refine (Tryz.strings_Split s ⟨#[10]⟩ m w (by omega) hm (by decide)).mono ?_
  rintro e w' ⟨rfl, rfl⟩
  rw [hn]
  exact ⟨rfl, rfl⟩
end Go.Proofs.YtnkcjekfjlbcdaaGreatDoor
