/- strconv.Atoi and strings.Split in this seat's words; inside. -/
import Derived.Test.YtfhijaldecbahaaDoorSpl
import Derived.Test.YtfhijaldecbahaaDoorShp
import Derived.Test.YtfhijaldecbahaaDoorMem
import Derived.Lib.AtoiAllCases
import Derived.Lib.SmallJoins
import Derived.WalkSpells
namespace Go.Proofs.YtfhijaldecbahaaDoor
set_option linter.unusedVariables false
set_option linter.unusedSimpArgs false
set_option maxRecDepth 20000
open Go Go.RowKit
set_option maxHeartbeats 4000000
/-- the variables that Atoi and Split read -/
def Errs (w : World) : Prop := (∃ ev, w.cell? ⟨0, 0, none⟩ = some ev ∧ (ev = .nilIface ∨ ∃ te pe, ev = .iface te pe)) ∧ (∃ ev, w.cell? ⟨1, 0, none⟩ = some ev ∧ (ev = .nilIface ∨ ∃ te pe, ev = .iface te pe)) ∧ ∃ m, w.cell? ⟨2, 0, none⟩ = some (.int .i64 m)
theorem Errs.on {w w1 : World} (h : Errs w) (hb : Below w.heap.size w w1) : Errs w1 := by
  obtain ⟨⟨e0, h0, k0⟩, ⟨e1, h1, k1⟩, m, h2⟩ := h
  exact ⟨⟨e0, cell_later hb h0, k0⟩, ⟨e1, cell_later hb h1, k1⟩, m, cell_later hb h2⟩
/-- what Atoi hands back -/
def AtoR (l : List UInt8) (w : World) (e : Ending) (w' : World) : Prop :=
  Below w.heap.size w w' ∧ ((∃ v, (∀ n, okN n l → n = v) ∧ -9223372036854775808 ≤ v ∧ v ≤ 9223372036854775807 ∧ e = .returned (.tuple #[.int .i64 v, .nilIface])) ∨
    (∃ v t p, (∀ n, ¬ okN n l) ∧ e = .returned (.tuple #[.int .i64 v, .iface t p])))
theorem atoi_any (l : List UInt8) (s : ByteArray) (w : World) (hs : s.data.toList = l) (hl : l.length ≤ 4294967280) (he : Errs w) :
    Calls Tryd.prog 31 #[.string s] w (AtoR l w) := by
  have hls : s.size = l.length := by rw [← hs]; rfl
  obtain ⟨⟨e0, h0, k0⟩, ⟨e1, h1, k1⟩, _⟩ := he
  cases h : Lib.atoiAll l
  · rename_i v
    refine (Tryd.strconv_Atoi_ok s (by omega) v (by rw [hs]; exact h) w).mono ?_
    rintro e w' ⟨rfl, hw⟩
    have hb := Lib.atoiAll_bounds h
    refine ⟨?_, .inl ⟨v, fun n hn => ?_, hb.1, hb.2, rfl⟩⟩
    · rcases hw with rfl | ⟨t, rfl⟩
      · exact Below.refl _ _
      · exact Joins.below_bytesWorld _ _ _ _ (Nat.le_refl _)
    · have := ok_atoi hn
      rw [h] at this
      injection this with this
      exact this.symm
  · refine (Tryd.strconv_Atoi_none s (by omega) (fun v k => by rw [hs, h] at k; cases k) (fun k => by rw [hs, h] at k; cases k) e0 w h0 k0).mono ?_
    rintro e w' ⟨N, rfl, _, _, hb⟩
    refine ⟨hb, .inr ⟨_, _, _, fun n hn => ?_, rfl⟩⟩
    have := ok_atoi hn
    rw [h] at this
    cases this
  · refine (Tryd.strconv_Atoi_range s (by omega) (by rw [hs]; exact h) e1 w h1 k1).mono ?_
    rintro e w' ⟨N, rfl, _, _, hb⟩
    refine ⟨hb, .inr ⟨_, _, _, fun n hn => ?_, rfl⟩⟩
    have := ok_atoi hn
    rw [h] at this
    cases this
/-- the words, as strings -/
def wrdB (s : ByteArray) : List ByteArray := Lib.splitB ⟨#[32]⟩ 0 (Lib.countB s ⟨#[32]⟩) s
theorem wrdB_words (s : ByteArray) : (wrdB s).map (·.data.toList) = splitW s.data.toList := splitB_words s
theorem split_any (l : List UInt8) (s : ByteArray) (w : World) (hs : s.data.toList = l) (hl : l.length ≤ 4294967280) (he : Errs w) :
    Calls Tryd.prog 30 #[.string s, .string ⟨#[32]⟩] w fun e w' => e = .returned (.slice (some ⟨w.heap.size, 0, none⟩) (wrdB s).length (wrdB s).length) ∧ w' = w.alloc (.cells ((wrdB s).map Value.string).toArray 9) := by
  have hls : s.size = l.length := by rw [← hs]; rfl
  obtain ⟨_, _, m, hm⟩ := he
  have hn : Lib.countB s ⟨#[32]⟩ + 1 = (wrdB s).length := by
    have h1 := congrArg List.length (wrdB_words s)
    rw [List.length_map] at h1
    rw [h1]
    exact (spl_all _ _ (Nat.le_refl _)).2.1
  refine (Tryd.strings_Split s ⟨#[32]⟩ m w (by omega) hm (by decide)).mono ?_
  rintro e w' ⟨rfl, rfl⟩
  rw [hn]
  exact ⟨rfl, rfl⟩
/-- is n between a and b -/
def insB (n a b : Int) : Bool := decide (a ≤ n ∧ n ≤ b)
theorem iIns_any (n a b : Int) (w : World) :
    Calls Tryd.prog 32 #[.int .i64 n, .int .i64 a, .int .i64 b] w fun e w' => e = .returned (.bool (insB n a b)) ∧ w' = w := by
  by_cases h1 : a ≤ n
  · by_cases h2 : n ≤ b
    · have HD := Lib.hid (show insB n a b = true from decide_eq_true ⟨h1, h2⟩)
      go_enter Tryd.func32, Tryd.ntmps32
      go_wp2
      go_ret
      exact ⟨by rw [HD.out]; rfl, rfl⟩
    · have HD := Lib.hid (show insB n a b = false from decide_eq_false fun h => h2 h.2)
      go_enter Tryd.func32, Tryd.ntmps32
      go_wp2
      go_ret
      exact ⟨by rw [HD.out]; rfl, rfl⟩
  · have HD := Lib.hid (show insB n a b = false from decide_eq_false fun h => h1 h.1)
    go_enter Tryd.func32, Tryd.ntmps32
    go_wp2
    go_ret
    exact ⟨by rw [HD.out]; rfl, rfl⟩
end Go.Proofs.YtfhijaldecbahaaDoor
