/- slices.Clone at []int; a part of a slice as a run equation. No condition but what each theorem names. -/
import Derived.Test.YtefgklgacojljaaTbl
import Derived.Test.YtefgklgacojljaaMul
namespace Go.Proofs.Ytefgklgacojljaa
set_option linter.unusedVariables false
set_option linter.unusedSimpArgs false
open Go.RowKit
set_option maxHeartbeats 1000000
theorem own_hd {w : World} {base : Nat} {e : TypeId} {v : Value} {n : Nat} {xs : List Value} (h : w.ownsRow base e 1 v n xs) : ∃ A c, v = .slice A n c ∧ Hd A n c := by
  rcases h.2 with ⟨h1, h2⟩ | ⟨g, cap, cur, e, _, _, h1, h2, _⟩
  · subst h2; exact ⟨none, 0, h1, Hd.nil⟩
  · exact ⟨_, _, e, Hd.mk h1 h2⟩
theorem ofOwn' {w : World} {base n c : Nat} {A : Option Addr} {e : TypeId} {xs : List Int} (h : w.ownsRow base e 1 (.slice A n c) n (xs.map (Value.int .i64))) (hn : n ≤ maxLen) : OwI w base w.heap.size A n xs := OwI.ofOwn h hn
theorem clone_any {B : Nat} (A : Option Addr) (n c : Nat) (xs : List Int) (w : World) (h : RdI w B A n xs) (hd : Hd A n c) (hB : B ≤ w.heap.size) (hn : n ≤ 1073741824) :
    Calls Try.prog 88 #[.slice A n c] w (RetI xs w) := by
  have hnil := fun (w : World) (a : Option Addr) (n c n' c' : Nat) => Lib.run_eql_slice_nil (P := Try.prog) w 22 3 a n c n' c' Try.underlying22
  rcases hd with ⟨rfl, rfl, rfl⟩ | ⟨b, o, rfl, h1, h2⟩
  · have hx := h.nilOf
    subst hx
    go_enter Try.func88, Try.ntmps88
    go_wp2
    go_ret
    exact ⟨_, _, _, rfl, Hd.nil, Below.refl _ _, OwI.emp _ _ _ _⟩
  · go_enter Try.func88, Try.ntmps88
    go_wp2_with (at_builtin; refine wpList_apI (v := .slice (some ⟨w.heap.size, 0, none⟩) 0 0) (w := w.alloc (.cells #[] 3)) (lo := w.heap.size) (n := 0) (xs := []) rfl (.tmp 5) (.tmp 6) rfl rfl (World.ownsRow_lit w #[] 0 (Nat.le_refl _) (by unfold maxLen; omega) rfl) rfl (h.alloc hB _) (Hd.mk h1 h2) (by omega) (by simp) ?_; intro v1 w1 ho hg hv; obtain ⟨A', c', rfl, hd'⟩ := own_hd ho)
    have hr := ofOwn' ho (by unfold maxLen; omega)
    have hb : Below w.heap.size w w1 := ((Below.refl _ _).alloc (Nat.le_refl _) _).grown hg (by simp) (fun q e => by injection e with e; have e' : w.heap.size = q := e; omega)
    go_ret
    rw [Nat.zero_add] at *
    exact ⟨_, _, _, rfl, hd', hb, by simpa using hr⟩
/-- a part of a slice: the value once told; where it lies does not matter -/
theorem part_run {A : Option Addr} {n k lo hi : Nat} (L H : Int) (hL : L = lo) (hH : H = hi) (hd : Hd A n k) (h1 : lo ≤ hi) (h2 : hi ≤ n) :
    ∃ A', Hd A' (hi - lo) (k - lo) ∧ (∀ (w : World) (B : Nat) (d : List Int), RdI w B A n d → RdI w B A' (hi - lo) (sub d lo (hi - lo))) ∧
      ∀ w : World, Sem.run Try.prog (Instr.sliceAt 22 (.slice A n k) (some (.int .i64 L)) (some (.int .i64 H)) none) w = .ok (.slice A' (hi - lo) (k - lo)) w := by
  subst hL hH
  rcases hd with ⟨rfl, rfl, rfl⟩ | ⟨b, o, rfl, h3, h4⟩
  · have e1 : hi = 0 := by omega
    have e2 : lo = 0 := by omega
    subst e1 e2
    refine ⟨none, Hd.nil, fun w B d h => ?_, fun w => ?_⟩
    · have := h.nilOf; subst this; exact h
    · rw [run_sliceAt_slice _ _ _ _ _ _ Try.underlying22, run_slice_lh _ _ _ _ _ Try.underlying22 _ _ _ _ (by omega) (by omega) (by omega)]
      rfl
  · unfold maxLen at h4
    by_cases e : k = lo
    · refine ⟨some ⟨b, o, none⟩, Hd.mk (by omega) (by unfold maxLen; omega), fun w B d h => ?_, fun w => ?_⟩
      · have e1 : hi - lo = 0 := by omega
        rw [e1]
        have : sub d lo 0 = [] := by simp [sub]
        rw [this]; exact RdI.emp _ _ _
      · rw [run_sliceAt_slice _ _ _ _ _ _ Try.underlying22, run_slice_lh _ _ _ _ _ Try.underlying22 _ _ _ _ (by omega) (by omega) (by omega)]
        simp only [Int.toNat_natCast, sliced, if_pos e]
        rfl
    · refine ⟨some ⟨b, o + lo, none⟩, Hd.mk (by omega) (by unfold maxLen; omega), fun w B d h => h.part (by omega), fun w => ?_⟩
      rw [run_sliceAt_slice _ _ _ _ _ _ Try.underlying22, run_slice_lh _ _ _ _ _ Try.underlying22 _ _ _ _ (by omega) (by omega) (by omega)]
      simp only [Int.toNat_natCast, sliced, if_neg e]
      have : (sizeOf (Program.elem Try.prog 22)).run Try.prog w = .ok 1 w := by kernel_rfl
      rw [this]
      simp only [Result.andThen, Option.map_some, add_mk, Nat.mul_one]
end Go.Proofs.Ytefgklgacojljaa
