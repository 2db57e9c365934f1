/- The walk of the law on ParseInts, under the tables and the variables that the row lists. -/
import Derived.Test.YtfhijaldecbahaaDoorPriW
import Derived.Test.YtfhijaldecbahaaDoorAlgW
import Derived.Test.YtfhijaldecbahaaDoorLawK
import Derived.OpenShut
namespace Go.Proofs.YtfhijaldecbahaaDoor
set_option linter.unusedVariables false
set_option linter.unusedSimpArgs false
set_option maxRecDepth 20000
open Go Go.RowKit
set_option maxHeartbeats 4000000
def RetPB (D : List Int) (V : Bool) (w : World) (e : Ending) (w' : World) : Prop :=
  ∃ A n k, e = .returned (.tuple #[.slice A n k, .bool V]) ∧ Hd A n k ∧ Below w.heap.size w w' ∧ OwI w' w.heap.size w'.heap.size A n D ∧ n ≤ 2000000
theorem prs_ret (l : List UInt8) (hl : l.length ≤ 1048576) : ∃ D V, ∀ w e w', PrsR l w e w' → RetPB D V w e w' := by
  cases h : parL l with
  | none =>
    refine ⟨[], false, ?_⟩
    rintro w e w' ⟨A, n, k, b, xs, rfl, hd, hb, ho, hp, hx, hn⟩
    cases b with
    | true => rw [h, if_pos rfl] at hp; cases hp
    | false => obtain rfl := hx rfl; exact ⟨A, n, k, rfl, hd, hb, ho, by omega⟩
  | some ys =>
    refine ⟨ys, true, ?_⟩
    rintro w e w' ⟨A, n, k, b, xs, rfl, hd, hb, ho, hp, hx, hn⟩
    cases b with
    | false => rw [h, if_neg (by decide)] at hp; cases hp
    | true =>
      rw [h, if_pos rfl] at hp
      injection hp with hp
      subst hp
      exact ⟨A, n, k, rfl, hd, hb, ho, by omega⟩
theorem walk_FnExactParseInts {w : World} (s : ByteArray) (hz : s.size ≤ maxLen) (ht : Tabs w.heap.size w) (he : Errs w) :
    Calls Tryd.prog 3 #[.string s] w fun e w' => e = .returned (.bool true) ∧ Below w.heap.size w w' := by
  clear hz
  obtain ⟨l, hs⟩ : ∃ l, s.data.toList = l := ⟨_, rfl⟩
  have hls : s.size = l.length := by rw [← hs]; rfl
  by_cases hbig : 1048576 < l.length
  · have hb : decide ((1048576 : Int) < (l.length : Int)) = true := by simp; omega
    go_enter Tryd.func3, Tryd.ntmps3
    go_wp2
    go_ret
    exact ⟨rfl, Below.refl _ _⟩
  · have hb : decide ((1048576 : Int) < (l.length : Int)) = false := by simp; omega
    obtain ⟨D, V, HD⟩ := prs_ret l (by omega)
    have HD := Lib.hid HD
    have HSL := Lib.hid hs
    have HR0 : (D == D) = true := by simp
    have HR1 : (V == V) = true := by simp
    clear hs
    go_enter Tryd.func3, Tryd.ntmps3
    go_wp2_with fail
    refine (sPrs_any l s w HSL.out (by omega)).mono ?_
    intro e w1 hx1
    obtain ⟨Aw, nw, kw, rfl, hdw, hb1, ow1, hnw⟩ := HD.out _ _ _ hx1
    clear hx1
    have hs1 := hb1.size
    go_wp2_with fail
    refine (iPrs_any l s w1 HSL.out (by omega) (tabs_on2 ht hb1 (by omega)) (he.on hb1)).mono ?_
    intro e w2 hx2
    obtain ⟨Ag, ng, kg, rfl, hdg, hb2, og2, hng⟩ := HD.out _ _ _ hx2
    clear hx2
    have hs2 := hb2.size
    have hq2 := hb1.trans (hb2.mono hs1)
    have ow2 := ow1.below hb2 (by omega)
    clear ow1
    go_wp2_with fail
    refine (eqIntS_rv Ag Aw ng kg nw kw D D _ (B1 := w2.heap.size) (B2 := w1.heap.size) og2.rd ow2.rd).mono ?_
    rintro e w3 ⟨rfl, hb3⟩
    have hs3 := hb3.size
    have hq3 := hq2.trans (hb3.mono (by omega))
    have ow3 := ow2.below hb3 (by omega)
    have og3 := og2.below hb3 (by omega)
    clear ow2 og2
    rw [HR0]
    go_wp2_with fail
    refine (markIntS_any Ag ng kg 1 D _ (B0 := w1.heap.size) (B := w2.heap.size) og3 (by omega) (by omega)).mono ?_
    rintro e w4 ⟨rfl, hc4, og4⟩
    have hs4 := hc4.size
    have hb4 := hc4.below (by omega : w1.heap.size ≤ w3.heap.size)
    have hq4 := hq3.trans (hb4.mono (by omega))
    have ow4 := ow3.below hb4 (by omega)
    clear ow3 og3
    have hge : ¬ (1 + ((ng : Nat) : Int)) < 0 := by omega
    have hne : (1 + ((ng : Nat) : Int) != 1 + ((ng : Nat) : Int)) = false := by simp
    go_wp2_with fail
    refine (heldIntS_rv Ag ng kg 1 _ (B := w2.heap.size) og4.rd (by omega) (by omega)).mono ?_
    rintro e w5 ⟨rfl, hb5⟩
    have hs5 := hb5.size
    have hq5 := hq4.trans (hb5.mono (by omega))
    have ow5 := ow4.below hb5 (by omega)
    have og5 := og4.below hb5 (by omega)
    clear ow4 og4
    go_wp2_with fail
    refine (iPrs_any l s w5 HSL.out (by omega) (tabs_on2 ht hq5 (by omega)) (he.on hq5)).mono ?_
    intro e w6 hx6
    obtain ⟨Ah, nh, kh, rfl, hdh, hb6, oh6, hnh⟩ := HD.out _ _ _ hx6
    clear hx6
    have hs6 := hb6.size
    have hq6 := hq5.trans (hb6.mono (by omega))
    have ow6 := ow5.below hb6 (by omega)
    have og6 := og5.below hb6 (by omega)
    clear ow5 og5
    go_wp2_with fail
    refine (eqIntS_rv Ah Aw nh kh nw kw D D _ (B1 := w6.heap.size) (B2 := w1.heap.size) oh6.rd ow6.rd).mono ?_
    rintro e w7 ⟨rfl, hb7⟩
    have hs7 := hb7.size
    have hq7 := hq6.trans (hb7.mono (by omega))
    have og7 := og6.below hb7 (by omega)
    clear ow6 og6
    rw [HR0]
    go_wp2_with fail
    refine (heldIntS_rv Ag ng kg 1 _ (B := w2.heap.size) og7.rd (by omega) (by omega)).mono ?_
    rintro e w8 ⟨rfl, hb8⟩
    have hq8 := hq7.trans (hb8.mono (by omega))
    go_wp2
    go_ret
    exact ⟨rfl, hq8⟩
end Go.Proofs.YtfhijaldecbahaaDoor
