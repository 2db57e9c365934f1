/- l4Without: a list without its element i. No condition but what the theorem names. -/
import Derived.Test.YteepnimmbofmlaaSumW
import Derived.Test.YteepnimmbofmlaaDifW
namespace Go.Proofs.Yteepnimmbofmlaa
set_option linter.unusedVariables false
set_option linter.unusedSimpArgs false
set_option maxRecDepth 20000
open Go.RowKit Go.Sort
set_option maxHeartbeats 4000000
theorem isuf_run {A : Option Addr} {n k lo : Nat} (L : Int) (hL : L = lo) (hd : Hd A n k) (h1 : lo ≤ n) :
    ∃ A', Hd A' (n - lo) (k - lo) ∧ (∀ (w : World) (B : Nat) (d : List Int), RdI w B A n d → RdI w B A' (n - lo) (sub d lo (n - lo))) ∧
      ∀ w : World, Sem.run Try.prog (Instr.sliceAt 22 (.slice A n k) (some (.int .i64 L)) none none) w = .ok (.slice A' (n - lo) (k - lo)) w := by
  subst hL
  rcases hd with ⟨rfl, rfl, rfl⟩ | ⟨b, o, rfl, h3, h4⟩
  · have e2 : lo = 0 := by omega
    subst e2
    refine ⟨none, Hd.nil, fun w B d h => ?_, fun w => ?_⟩
    · have := h.nilOf; subst this; exact h
    · rw [run_sliceAt_slice _ _ _ _ _ _ Try.underlying22, run_slice_l _ _ _ _ _ Try.underlying22 _ _ (by omega) (by omega)]
      rfl
  · unfold maxLen at h4
    by_cases e : k = lo
    · refine ⟨some ⟨b, o, none⟩, Hd.mk (by omega) (by unfold maxLen; omega), fun w B d h => ?_, fun w => ?_⟩
      · have e1 : n - lo = 0 := by omega
        rw [e1]
        have : sub d lo 0 = [] := by simp [sub]
        rw [this]; exact RdI.emp _ _ _
      · rw [run_sliceAt_slice _ _ _ _ _ _ Try.underlying22, run_slice_l _ _ _ _ _ Try.underlying22 _ _ (by omega) (by omega)]
        simp only [Int.toNat_natCast, sliced, if_pos e]
        rfl
    · refine ⟨some ⟨b, o + lo, none⟩, Hd.mk (by omega) (by unfold maxLen; omega), fun w B d h => h.part (by omega), fun w => ?_⟩
      rw [run_sliceAt_slice _ _ _ _ _ _ Try.underlying22, run_slice_l _ _ _ _ _ Try.underlying22 _ _ (by omega) (by omega)]
      simp only [Int.toNat_natCast, sliced, if_neg e]
      have : (sizeOf (Program.elem Try.prog 22)).run Try.prog w = .ok 1 w := by kernel_rfl
      rw [this]
      simp [Result.andThen, Addr.add]
theorem RdI.take {w : World} {B n m : Nat} {A : Option Addr} {d : List Int} (h : RdI w B A n d) (hm : m ≤ n) : RdI w B A m (d.take m) := by
  refine ⟨by rw [List.length_take, h.1]; omega, by have := h.2.1; omega, fun hp => ?_⟩
  obtain ⟨b, o, e, h1, hc⟩ := h.2.2 (by omega)
  refine ⟨b, o, e, h1, fun j hj => ?_⟩
  have := hc j (by omega)
  have e : gI (d.take m) j = gI d j := by unfold gI; simp [List.getD_eq_getElem?_getD, List.getElem?_take, hj]
  rwa [e]
theorem without_any {B : Nat} (n k i : Nat) (A : Option Addr) (xs : List Int) (w : World) (h : RdI w B A n xs) (hd : Hd A n k) (hB : B ≤ w.heap.size) (hi : i < n) (hn : n ≤ 1000) :
    Calls Try.prog 90 #[.slice A n k, .int .i64 i] w (RetI (xs.eraseIdx i) w) := by
  have HX := Lib.hid (show xs.take i ++ sub xs (i + 1) (n - (i + 1)) = xs.eraseIdx i by
    rw [List.eraseIdx_eq_take_drop_succ]
    unfold sub
    have e : (xs.drop (i + 1)).take (n - (i + 1)) = xs.drop (i + 1) := List.take_of_length_le (by rw [List.length_drop, h.1]; omega)
    rw [e])
  have r1 := ipart_run (i : Int) rfl hd (show i ≤ n by omega)
  obtain ⟨A2, hd2, hp2, r2⟩ := isuf_run ((i : Int) + 1) (by omega) hd (show i + 1 ≤ n by omega)
  have h1 := h.take (show i ≤ n by omega)
  have h2 := hp2 _ _ _ h
  have hd1 : Hd A i k := hd.take (by omega)
  have hw1 : IntKind.i64.wrap ((i : Int) + 1) = (i : Int) + 1 := IntWalk.i64_in _ (by omega)
  clear hp2 hd
  go_enter Try.func90, Try.ntmps90
  go_wp2_with fail
  go_region_held3 (fun w' => True) (exact trivial)
    (first
      | (go_at_call 40; refine (l1Ints_own (B := B) A i k (xs.take i) w.drew (by exact h1) hd1 (by exact hB) (by omega)).mono ?_; rintro e wc ⟨v3, rfl, ho3, hb⟩; have hb0 := Below.ofDrew hb; clear hb; rw [size_drew] at ho3; have hsz := hb0.size; have h2 := h2.below hb0 hB; have hn3 : (xs.take i).length = i := h1.1; rw [hn3] at ho3; have hlo3 := fun b e => (ho3.lt b e).1)
      | (refine step_apI (v := v3) (w := wc) (lo := w.heap.size) (n := i) (xs := xs.take i) (ys := sub xs (i + 1) (n - (i + 1))) (m := n - (i + 1)) rfl (.tmp 8) (.tmp 12) rfl rfl ho3 rfl h2 hd2 (by omega) hsz ?_; intro v4 w4 ho4 hg4 hv4; obtain ⟨A4, c4, rfl, hd4⟩ := own_hd ho4; have hb := (Below.refl w.heap.size wc).grown hg4 hsz (fun q e => hlo3 q e); have hbw := (hb0.trans hb); have hor := ofOwn' ho4 (by unfold maxLen; omega)))
  go_wp2
  go_ret
  exact ⟨_, _, _, rfl, hd4, hbw, by rw [← HX.out]; exact hor⟩
end Go.Proofs.Yteepnimmbofmlaa
