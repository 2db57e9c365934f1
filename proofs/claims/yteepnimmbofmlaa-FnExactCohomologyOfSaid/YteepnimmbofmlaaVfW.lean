/- Sorting by exchanges of neighbours, with the sign. No program in sight. -/
import Derived.Test.YteepnimmbofmlaaMem
import Derived.Test.YteepnimmbofmlaaTbl
import Derived.Test.YteepnimmbofmlaaCpW
import Derived.Test.YteepnimmbofmlaaLawK
import Derived.Test.YteepnimmbofmlaaSubW
import Derived.Test.YteepnimmbofmlaaLibW
import Derived.Test.YteepnimmbofmlaaAlg
import Derived.Test.YteepnimmbofmlaaLieW
import Derived.Deep.RegionHeld3
namespace Go.Proofs.Yteepnimmbofmlaa
set_option linter.unusedVariables false
set_option linter.unusedSimpArgs false
set_option maxRecDepth 20000
open Go.RowKit
/-- the sign that x brings among those behind it -/
def sg1 (x : Int) : List Int → Int
  | [] => 1
  | y :: ys => (if y < x then -1 else 1) * sg1 x ys
/-- the sign of a list -/
def sgn : List Int → Int
  | [] => 1
  | x :: xs => sg1 x xs * sgn xs
theorem sg1_perm {x : Int} {xs ys : List Int} (h : xs.Perm ys) : sg1 x xs = sg1 x ys := by
  induction h with
  | nil => rfl
  | cons a _ ih => simp only [sg1]; rw [ih]
  | swap a b l => simp only [sg1]; rw [Int.mul_left_comm]
  | trans _ _ ih1 ih2 => exact ih1.trans ih2
theorem sg1_one (x : Int) (xs : List Int) : sg1 x xs = 1 ∨ sg1 x xs = -1 := by
  induction xs with
  | nil => exact .inl rfl
  | cons y ys ih => simp only [sg1]; split <;> rcases ih with h | h <;> rw [h] <;> simp
theorem sgn_one (xs : List Int) : sgn xs = 1 ∨ sgn xs = -1 := by
  induction xs with
  | nil => exact .inl rfl
  | cons x xs ih => simp only [sgn]; rcases ih with h | h <;> rcases sg1_one x xs with h2 | h2 <;> rw [h, h2] <;> simp
theorem sgn_swap {a b : Int} (h : b < a) (pre post : List Int) : sgn (pre ++ a :: b :: post) = - sgn (pre ++ b :: a :: post) := by
  induction pre with
  | nil =>
    simp only [List.nil_append, sgn, sg1]
    rw [if_pos h, if_neg (by omega)]
    rw [Int.one_mul, Int.neg_one_mul, Int.neg_mul, Int.mul_left_comm]
  | cons x pre ih =>
    simp only [List.cons_append, sgn]
    rw [ih, sg1_perm (x := x) (show (pre ++ a :: b :: post).Perm (pre ++ b :: a :: post) from List.Perm.append_left _ (List.Perm.swap _ _ _)), Int.mul_neg]
theorem sg1_asc {x : Int} {xs : List Int} (h : ∀ y ∈ xs, x < y) : sg1 x xs = 1 := by
  induction xs with
  | nil => rfl
  | cons y ys ih =>
    simp only [sg1]
    rw [if_neg (by have := h y (List.mem_cons_self ..); omega), ih fun z hz => h z (List.mem_cons_of_mem _ hz)]; rfl
theorem sgn_asc {xs : List Int} (h : xs.Pairwise (· < ·)) : sgn xs = 1 := by
  induction xs with
  | nil => rfl
  | cons x xs ih =>
    rw [List.pairwise_cons] at h
    simp only [sgn]
    rw [sg1_asc h.1, ih h.2]; rfl
/-- the numbers at t and t + 1 exchanged -/
def swp (xs : List Int) (t : Nat) : List Int := (xs.set t (gI xs (t + 1))).set (t + 1) (gI xs t)
theorem swp_len (xs : List Int) (t : Nat) : (swp xs t).length = xs.length := by simp [swp]
theorem swp_get {xs : List Int} {t : Nat} (h : t + 1 < xs.length) (k : Nat) : gI (swp xs t) k = if k = t + 1 then gI xs t else if k = t then gI xs (t + 1) else gI xs k := by
  unfold swp
  rw [gI_set _ _ _ _ (by simpa using h)]
  split
  · rfl
  · rw [gI_set _ _ _ _ (by omega)]
theorem parts {xs : List Int} {t : Nat} (h : t + 1 < xs.length) : xs = xs.take t ++ gI xs t :: gI xs (t + 1) :: xs.drop (t + 2) := by
  have e1 : xs.drop t = gI xs t :: xs.drop (t + 1) := by rw [gI_lt (show t < xs.length by omega)]; exact List.drop_eq_getElem_cons (by omega)
  have e2 : xs.drop (t + 1) = gI xs (t + 1) :: xs.drop (t + 2) := by rw [gI_lt h]; exact List.drop_eq_getElem_cons h
  conv => lhs; rw [← List.take_append_drop t xs, e1, e2]
theorem swp_parts {xs : List Int} {t : Nat} (h : t + 1 < xs.length) : swp xs t = xs.take t ++ gI xs (t + 1) :: gI xs t :: xs.drop (t + 2) := by
  have hl : (xs.take t ++ gI xs (t + 1) :: gI xs t :: xs.drop (t + 2)).length = xs.length := by simp; omega
  refine ext_gI (by rw [swp_len, hl]) fun k hk => ?_
  rw [swp_len] at hk
  have e := gI_lt (xs := xs.take t ++ gI xs (t + 1) :: gI xs t :: xs.drop (t + 2)) (k := k) (by rw [hl]; exact hk)
  rw [swp_get h, e]
  have ht : (xs.take t).length = t := by simp; omega
  by_cases h1 : k < t
  · rw [if_neg (by omega), if_neg (by omega), List.getElem_append_left (by omega), gI_lt hk]; simp
  · rw [List.getElem_append_right (by omega)]
    simp only [ht]
    by_cases h2 : k = t
    · subst h2; rw [if_neg (by omega), if_pos rfl]; simp
    · by_cases h3 : k = t + 1
      · subst h3; rw [if_pos rfl]; simp
      · rw [if_neg h3, if_neg h2, gI_lt hk]
        obtain ⟨m, rfl⟩ : ∃ m, k = t + 2 + m := ⟨k - (t + 2), by omega⟩
        simp [show t + 2 + m - t = m + 2 by omega]
theorem swp_perm {xs : List Int} {t : Nat} (h : t + 1 < xs.length) : (swp xs t).Perm xs := by
  rw [swp_parts h]
  conv => rhs; rw [parts h]
  exact List.Perm.append_left _ (List.Perm.swap _ _ _)
theorem swp_sgn {xs : List Int} {t : Nat} (h : t + 1 < xs.length) (hg : gI xs (t + 1) < gI xs t) : sgn (swp xs t) = - sgn xs := by
  rw [swp_parts h]
  conv => rhs; rw [parts h, sgn_swap hg]
  omega
/-- the list in ascending order -/
def asc (l : List Int) : List Int := l.mergeSort (fun a b => decide (a ≤ b))
theorem asc_perm (l : List Int) : (asc l).Perm l := List.mergeSort_perm _ _
theorem asc_le (l : List Int) : (asc l).Pairwise (· ≤ ·) := by
  unfold asc
  have := List.pairwise_mergeSort (le := fun a b : Int => decide (a ≤ b)) (by simp; intro a b c; omega) (by simp; intro a b; omega) l
  simpa using this
theorem pw_of_gI {xs : List Int} (h : ∀ a b, a < b → b < xs.length → gI xs a < gI xs b) : xs.Pairwise (· < ·) := by
  rw [List.pairwise_iff_getElem]
  intro i j hi hj hij
  have := h i j hij hj
  rwa [gI_lt hi, gI_lt hj] at this
theorem asc_of {xs l : List Int} (hp : xs.Perm l) (h : xs.Pairwise (· < ·)) : xs = asc l := by
  refine List.Perm.eq_of_pairwise (le := (· ≤ ·)) (fun a b _ _ h1 h2 => by omega) (h.imp fun h => by omega) (asc_le l) (hp.trans (asc_perm l).symm)
theorem nodup_of_asc {xs : List Int} (h : xs.Pairwise (· < ·)) : xs.Nodup := h.imp fun h => by omega
/-- two equal numbers -/
theorem not_nodup {xs l : List Int} (hp : xs.Perm l) {a b : Nat} (hab : a < b) (hb : b < xs.length) (h : gI xs a = gI xs b) : ¬ l.Nodup := by
  rw [← hp.nodup_iff]
  intro hn
  have := (List.pairwise_iff_getElem.1 hn) a b (by omega) hb hab
  rw [gI_lt (by omega), gI_lt hb] at h
  exact this h
/-- what both sorts hand back -/
def srtL (l : List Int) : List Int := if l.Nodup then asc l else []
def srtS (l : List Int) : Int := if l.Nodup then sgn l else 0
theorem srt_done {xs l : List Int} {s : Int} (hp : xs.Perm l) (hs : s * sgn xs = sgn l) (h : ∀ a b, a < b → b < xs.length → gI xs a < gI xs b) : srtL l = xs ∧ srtS l = s := by
  have hw := pw_of_gI h
  have hn : l.Nodup := hp.nodup_iff.1 (nodup_of_asc hw)
  unfold srtL srtS
  rw [if_pos hn, if_pos hn, asc_of hp hw]
  refine ⟨rfl, ?_⟩
  rw [← hs, sgn_asc hw, Int.mul_one]
theorem srt_dup {xs l : List Int} (hp : xs.Perm l) {a b : Nat} (hab : a < b) (hb : b < xs.length) (h : gI xs a = gI xs b) : srtL l = [] ∧ srtS l = 0 := by
  have := not_nodup hp hab hb h
  unfold srtL srtS
  rw [if_neg this, if_neg this]
  exact ⟨rfl, rfl⟩
/-! ### insertion: the first i are in order; the one at j sinks -/
/-- all pairs up to i are in order, but those whose greater place is j -/
def InsI (xs : List Int) (i j : Nat) : Prop := ∀ a b, a < b → b < i + 1 → b ≠ j → gI xs a < gI xs b
def PreI (xs : List Int) (i : Nat) : Prop := ∀ a b, a < b → b < i → gI xs a < gI xs b
theorem ins_start {xs : List Int} {i : Nat} (h : PreI xs i) : InsI xs i i := fun a b hab hb hne => h a b hab (by omega)
theorem ins_zero {xs : List Int} {i : Nat} (h : InsI xs i 0) : PreI xs (i + 1) := fun a b hab hb => h a b hab hb (by omega)
theorem ins_stop {xs : List Int} {i j : Nat} (h : InsI xs i (j + 1)) (hg : gI xs j < gI xs (j + 1)) : PreI xs (i + 1) := fun a b hab hb => by
  by_cases e : b = j + 1
  · subst e
    by_cases e2 : a = j
    · subst e2; exact hg
    · have := h a j (by omega) (by omega) (by omega)
      omega
  · exact h a b hab hb e
theorem ins_step {xs : List Int} {i j : Nat} (hij : j + 1 ≤ i) (hi : i < xs.length) (h : InsI xs i (j + 1)) (hg : gI xs (j + 1) < gI xs j) : InsI (swp xs j) i j := fun a b hab hb hne => by
  rw [swp_get (by omega), swp_get (by omega)]
  by_cases b1 : b = j + 1
  · subst b1
    rw [if_neg (by omega), if_pos rfl]
    by_cases a1 : a = j
    · rw [if_pos a1]; exact hg
    · rw [if_neg a1]; exact h a j (by omega) (by omega) (by omega)
  · rw [if_neg b1, if_neg hne]
    by_cases a1 : a = j + 1
    · subst a1
      rw [if_pos rfl]
      exact h j b (by omega) hb (by omega)
    · rw [if_neg a1]
      by_cases a2 : a = j
      · subst a2
        rw [if_pos rfl]
        exact h (a + 1) b (by omega) hb (by omega)
      · rw [if_neg a2]
        exact h a b hab hb (by omega)
/-! ### bubble: the last i are in order and above all others; the one at j is the greatest so far -/
def SufI (xs : List Int) (i : Nat) : Prop := ∀ a b, a < b → b < xs.length → xs.length ≤ b + i → gI xs a < gI xs b
def BubI (xs : List Int) (i j : Nat) : Prop := SufI xs i ∧ ∀ a, a < min j (xs.length - 1 - i) → gI xs a < gI xs (min j (xs.length - 1 - i))
theorem bub_start {xs : List Int} {i : Nat} (h : SufI xs i) : BubI xs i 0 := ⟨h, fun a ha => by omega⟩
theorem bub_done {xs : List Int} {i j : Nat} (hi : i < xs.length) (hj : xs.length ≤ j + 1) (h : BubI xs i j) : SufI xs (i + 1) := fun a b hab hb hbi => by
  by_cases e : xs.length ≤ b + i
  · exact h.1 a b hab hb e
  · have h2 := h.2 a (by omega)
    rw [show min j (xs.length - 1 - i) = b by omega] at h2
    exact h2
theorem bub_keep {xs : List Int} {i j : Nat} (hj : j + 1 < xs.length) (h : BubI xs i j) (hg : gI xs j < gI xs (j + 1)) : BubI xs i (j + 1) := by
  refine ⟨h.1, fun a ha => ?_⟩
  by_cases e : j + 1 ≤ xs.length - 1 - i
  · rw [show min (j + 1) (xs.length - 1 - i) = j + 1 by omega] at ha ⊢
    by_cases e2 : a = j
    · subst e2; exact hg
    · have := h.2 a (by omega)
      rw [show min j (xs.length - 1 - i) = j by omega] at this
      omega
  · rw [show min (j + 1) (xs.length - 1 - i) = min j (xs.length - 1 - i) by omega] at ha ⊢
    exact h.2 a ha
theorem bub_swap {xs : List Int} {i j : Nat} (hj : j + 1 < xs.length) (h : BubI xs i j) (hg : gI xs (j + 1) < gI xs j) : BubI (swp xs j) i (j + 1) := by
  have hlt : j + 1 + i < xs.length := by
    rcases Nat.lt_or_ge (j + 1 + i) xs.length with h1 | h1
    · exact h1
    · have := h.1 j (j + 1) (by omega) hj (by omega)
      omega
  refine ⟨fun a b hab hb hbi => ?_, fun a ha => ?_⟩
  · rw [swp_len] at hb hbi
    rw [swp_get hj, swp_get hj, if_neg (show ¬ b = j + 1 by omega), if_neg (show ¬ b = j by omega)]
    split
    · exact h.1 j b (by omega) hb hbi
    · split
      · exact h.1 (j + 1) b (by omega) hb hbi
      · exact h.1 a b hab hb hbi
  · rw [swp_len] at ha ⊢
    rw [show min (j + 1) (xs.length - 1 - i) = j + 1 by omega] at ha ⊢
    rw [swp_get hj, swp_get hj, if_pos rfl, if_neg (show ¬ a = j + 1 by omega)]
    by_cases e : a = j
    · rw [if_pos e]; exact hg
    · rw [if_neg e]
      have := h.2 a (by omega)
      rw [show min j (xs.length - 1 - i) = j by omega] at this
      exact this
/-- the state of both sorts: a permutation with its sign -/
def SrtP (l xs : List Int) (s : Int) : Prop := xs.Perm l ∧ s * sgn xs = sgn l ∧ (s = 1 ∨ s = -1)
theorem srtP_start (l : List Int) : SrtP l l 1 := ⟨List.Perm.refl _, by rw [Int.one_mul], .inl rfl⟩
theorem srtP_swap {l xs : List Int} {s : Int} {t : Nat} (h : SrtP l xs s) (ht : t + 1 < xs.length) (hg : gI xs (t + 1) < gI xs t) : SrtP l (swp xs t) (-s) := by
  refine ⟨(swp_perm ht).trans h.1, ?_, by rcases h.2.2 with e | e <;> rw [e] <;> simp⟩
  rw [swp_sgn ht hg, Int.neg_mul, Int.mul_neg, Int.neg_neg, h.2.1]
end Go.Proofs.Yteepnimmbofmlaa
namespace Go.Proofs.Yteepnimmbofmlaa
set_option linter.unusedVariables false
set_option linter.unusedSimpArgs false
set_option maxRecDepth 20000
open Go.RowKit Go.Sort
set_option maxHeartbeats 4000000
/-- a call that hands back a new slice and a number -/
def RetSI (xs : List Int) (s : Int) (w : World) (e : Ending) (w' : World) : Prop :=
  ∃ A n c, e = .returned (.tuple #[.slice A n c, .int .i64 s]) ∧ Hd A n c ∧ Below w.heap.size w w' ∧ OwI w' w.heap.size w'.heap.size A n xs
theorem RetSI.nil {l : List Int} {w w' : World} (h1 : srtL l = []) (h2 : srtS l = 0) (hb : Below w.heap.size w w') : RetSI (srtL l) (srtS l) w (.returned (.tuple #[.slice none 0 0, .int .i64 0])) w' := by
  rw [h1, h2]
  exact ⟨none, 0, 0, rfl, Hd.nil, hb, OwI.emp _ _ _ _⟩
set_option maxRecDepth 100000 in
theorem ordered_any {B : Nat} (n k : Nat) (A : Option Addr) (l : List Int) (w : World) (h : RdI w B A n l) (hd : Hd A n k) (hB : B ≤ w.heap.size) (hn : n ≤ 1000) :
    Calls Try.prog 106 #[.slice A n k] w (RetSI (srtL l) (srtS l) w) := by
  have hll := h.1
  have HLL := Lib.hid hll
  clear hll
  go_enter Try.func106, Try.ntmps106
  go_wp2_with fail
  refine (clone_any (B := B) A n k l _ h hd hB (by omega)).mono ?_
  rintro e w1 ⟨A1, n1, k1, rfl, hd1, hb1, ho1⟩
  obtain rfl : n = n1 := by have := ho1.1; rw [HLL.out] at this; exact this
  have hs1 := hb1.size
  clear h
  go_wp2_with fail
  go_loopw [5, 12] (fun s i wr => ∃ (i' : Nat) (xs : List Int) (s' : Int), i' ≤ n ∧ i = .int .i64 i' ∧ s = .int .i64 s' ∧ Chg w.heap.size w1.heap.size w1 wr ∧ OwI wr w.heap.size w1.heap.size A1 n xs ∧ Hid (SrtP l xs s' ∧ PreI xs i')) (fun _ i _ => n - (intOf i).toNat)
  case atStart => exact ⟨0, l, 1, by omega, rfl, rfl, Chg.refl _ _ _, ho1, srtP_start l, fun a b hab hb => absurd hb (by omega)⟩
  case round =>
    clear ho1
    obtain ⟨i, xs, s, hi, rfl, rfl, hch, ho, HP⟩ := hrel
    by_cases hlt : i < n
    · go_wp2_with fail
      obtain ⟨wo, rfl⟩ : ∃ wo : World, wo = wr := ⟨_, rfl⟩
      go_loopw [5, 7] (fun s j wr => ∃ (j' : Nat) (xs : List Int) (s' : Int), j' ≤ i ∧ j = .int .i64 j' ∧ s = .int .i64 s' ∧ Chg w.heap.size w1.heap.size w1 wr ∧ OwI wr w.heap.size w1.heap.size A1 n xs ∧ Hid (SrtP l xs s' ∧ InsI xs i j')) (fun _ j _ => (intOf j).toNat)
      case atStart => exact ⟨i, xs, s, by omega, rfl, rfl, hch, ho, HP.out.1, ins_start HP.out.2⟩
      case round =>
        clear hch ho HP
        obtain ⟨j, xs, s, hj, rfl, rfl, hch, ho, HP⟩ := hrel
        have hsz := hch.size
        rcases Nat.eq_zero_or_pos j with hj0 | hj0
        · subst hj0
          go_wp2_with fail
          (refine wp_region_quiet_below (w := wr) (by kernel_rfl) (by kernel_rfl) ?_; (repeat (go_big_quiet_step (fail))); refine wpQuiet_nil ?_; rintro W ⟨pp, hW⟩; have hbW : Below wr.heap.size wr W := hW ▸ below_regrown _ _ _; clear hW)
          go_wp2
          go_roundw
          case rel => exact ⟨i + 1, xs, s, by omega, by go_num, rfl, hch.trans (Chg.ofBelow hbW (Nat.le_refl _)), ho.below hbW (by omega), HP.out.1, ins_zero HP.out.2⟩
          case measure => simp [intOf]; omega
        · obtain ⟨j, rfl⟩ : ∃ j', j = j' + 1 := ⟨j - 1, by omega⟩
          clear hj0
          obtain ⟨b, o, rfl⟩ := ho.addr (by omega)
          obtain ⟨hc1, hf1⟩ := ho.at_ (show j < n by omega)
          obtain ⟨hc2, hf2⟩ := ho.at_ (show j + 1 < n by omega)
          have hxl := ho.1
          have HXL := Lib.hid hxl
          have HO := Lib.hid ho
          have q1 := cell_regrown hc1
          have q2 := cell_regrown hc2
          have n1 : (0 : Int) ≤ (j : Int) + 1 := by omega
          have n2 : ((j : Int) + 1).toNat = j + 1 := by omega
          have n3 : (j : Int) + 1 < n := by omega
          have n4 : (j : Int) < n := by omega
          have n5 : (0 : Int) < (j : Int) + 1 := by omega
          have w5 : IntKind.i64.wrap ((j : Int) + 1 - 1) = j := by rw [Int.add_sub_cancel]; exact IntWalk.i64_in _ (by omega)
          have w6 : IntKind.i64.wrap (j : Int) = j := IntWalk.i64_in _ (by omega)
          clear hxl hf1 hf2 ho
          rcases Int.lt_trichotomy (gI xs j) (gI xs (j + 1)) with hg | hg | hg
          · have t1 : decide (gI xs (j + 1) ≤ gI xs j) = false := by simpa using hg
            have HG := Lib.hid hg
            clear hg hc1 hc2
            go_wp2_with fail
            (refine wp_region_quiet_below (w := wr) (by kernel_rfl) (by kernel_rfl) ?_; (repeat (go_big_quiet_step (fail))); refine wpQuiet_nil ?_; rintro W ⟨pp, hW⟩; have hbW : Below wr.heap.size wr W := hW ▸ below_regrown _ _ _; clear hW)
            clear q1 q2 w5 w6
            go_wp2
            go_roundw
            case rel => exact ⟨i + 1, xs, s, by omega, by go_num, rfl, hch.trans (Chg.ofBelow hbW (Nat.le_refl _)), HO.out.below hbW (by omega), HP.out.1, ins_stop HP.out.2 HG.out⟩
            case measure => simp [intOf]; omega
          · have t1 : decide (gI xs (j + 1) ≤ gI xs j) = true := by simp; omega
            have t2 : (gI xs j == gI xs (j + 1)) = true := by simpa using hg
            have HG := Lib.hid hg
            clear hg hc1 hc2
            go_wp2_with fail
            (refine wp_region_quiet_below (w := wr) (by kernel_rfl) (by kernel_rfl) ?_; (repeat (go_big_quiet_step (fail))); refine wpQuiet_nil ?_; rintro W ⟨pp, hW⟩; have hbW : Below wr.heap.size wr W := hW ▸ below_regrown _ _ _; clear hW)
            obtain ⟨wa, hwa⟩ : ∃ wa : World, wa = W := ⟨_, rfl⟩
            have hbA : Below wr.heap.size wr wa := hwa ▸ hbW
            have hoA := HO.out.below hbA (by omega)
            rw [← hwa]
            clear hwa hbW q1 q2
            obtain ⟨hc1, -⟩ := hoA.at_ (show j < n by omega)
            obtain ⟨hc2, -⟩ := hoA.at_ (show j + 1 < n by omega)
            have q1 := cell_regrown hc1
            have q2 := cell_regrown hc2
            clear hc1 hc2
            go_wp2_with fail
            (refine wp_region_quiet_below (w := wa) (by kernel_rfl) (by kernel_rfl) ?_; (repeat (go_big_quiet_step (fail))); refine wpQuiet_nil ?_; rintro W ⟨pp, hW⟩; have hbW : Below wa.heap.size wa W := hW ▸ below_regrown _ _ _; clear hW)
            have hsA := hbA.size
            have hD := srt_dup HP.out.1.1 (a := j) (b := j + 1) (by omega) (by rw [HXL.out]; omega) HG.out
            have HD := Lib.hid hD
            clear q1 q2 w5 w6 hD
            go_wp2
            go_ret2
            exact RetSI.nil HD.out.1 HD.out.2 ((hb1.trans (hch.below (by omega))).trans ((hbA.trans (hbW.mono (by omega))).mono (by omega)))
          · have t1 : decide (gI xs (j + 1) ≤ gI xs j) = true := by simp; omega
            have t2 : (gI xs j == gI xs (j + 1)) = false := by simp; omega
            have HG := Lib.hid hg
            clear hg hc1 hc2
            go_wp2_with fail
            (refine wp_region_quiet_below (w := wr) (by kernel_rfl) (by kernel_rfl) ?_; (repeat (go_big_quiet_step (fail))); refine wpQuiet_nil ?_; rintro W ⟨pp, hW⟩; have hbW : Below wr.heap.size wr W := hW ▸ below_regrown _ _ _; clear hW)
            obtain ⟨wa, hwa⟩ : ∃ wa : World, wa = W := ⟨_, rfl⟩
            have hbA : Below wr.heap.size wr wa := hwa ▸ hbW
            have hoA := HO.out.below hbA (by omega)
            rw [← hwa]
            clear hwa hbW q1 q2
            obtain ⟨hc1, -⟩ := hoA.at_ (show j < n by omega)
            obtain ⟨hc2, -⟩ := hoA.at_ (show j + 1 < n by omega)
            have q1 := cell_regrown hc1
            have q2 := cell_regrown hc2
            clear hc1 hc2
            go_wp2_with fail
            (refine wp_region_quiet_below (w := wa) (by kernel_rfl) (by kernel_rfl) ?_; (repeat (go_big_quiet_step (fail))); refine wpQuiet_nil ?_; rintro W ⟨pp, hW⟩; have hbW : Below wa.heap.size wa W := hW ▸ below_regrown _ _ _; clear hW)
            have hsA := hbA.size
            obtain ⟨wd, hwd⟩ : ∃ wd : World, wd = W := ⟨_, rfl⟩
            have hbD : Below wa.heap.size wa wd := hwd ▸ hbW
            have hoD := hoA.below hbD (by omega)
            rw [← hwd]
            clear hwd hbW q1 q2
            obtain ⟨hc1, hf1⟩ := hoD.at_ (show j < n by omega)
            obtain ⟨hc2, hf2⟩ := hoD.at_ (show j + 1 < n by omega)
            have hsb := HP.out.1.2.2
            have hs' : -2 ≤ s ∧ s ≤ 2 := by omega
            have hch2 := hch.trans (Chg.ofBelow (hbA.trans (hbD.mono (by omega))) (Nat.le_refl _))
            have hbk := hoD.blk (by omega)
            have hst := (hoD.store (k := j) (v := gI xs (j + 1)) (by omega)).store (k := j + 1) (v := gI xs j) (by omega)
            have HST := Lib.hid hst
            have HPS := Lib.hid (show SrtP l (swp xs j) (-s) from srtP_swap HP.out.1 (by rw [HXL.out]; omega) HG.out)
            have HIS := Lib.hid (show InsI (swp xs j) i j from ins_step hj (by rw [HXL.out]; exact hlt) HP.out.2 HG.out)
            clear hoD hoA hsb hst
            go_wp2_with fail
            go_region
            all_goals
              have w7 : IntKind.i64.wrap (-s) = -s := IntWalk.i64_in _ (by omega)
              go_wp2
              go_roundw
              case rel => exact ⟨j, swp xs j, -s, by omega, by go_num, by first | rfl | rw [w7], ((hch2.setCell (p := ⟨b, o + j, none⟩) (by exact hbk.1) (by exact hbk.2) _).setCell (p := ⟨b, o + (j + 1), none⟩) (by exact hbk.1) (by exact hbk.2) _).trans ⟨rfl, rfl, rfl, Nat.le_refl _, fun _ _ _ => rfl⟩, by exact HST.out, HPS.out, HIS.out⟩
              case measure => first | (simp [intOf]; done) | (simp [intOf]; omega)
    · obtain rfl : n = i := by omega
      have HD := Lib.hid (srt_done HP.out.1.1 HP.out.1.2.1 (fun a b hab hb => HP.out.2 a b hab (by rw [ho.1] at hb; exact hb)))
      have hsz := hch.size
      go_wp2
      go_ret2
      rw [HD.out.1, HD.out.2]
      exact ⟨_, _, _, rfl, hd1, hb1.trans (hch.below (by omega)), ho.up (by omega)⟩
set_option maxRecDepth 100000 in
theorem l4Sorted_any {B : Nat} (n k : Nat) (A : Option Addr) (l : List Int) (w : World) (h : RdI w B A n l) (hd : Hd A n k) (hB : B ≤ w.heap.size) (hn : n ≤ 1000) :
    Calls Try.prog 104 #[.slice A n k] w (RetSI (srtL l) (srtS l) w) := by
  have hll := h.1
  have HLL := Lib.hid hll
  clear hll
  go_enter Try.func104, Try.ntmps104
  go_wp2_with fail
  refine (l1Ints_any (B := B) A n k l _ h hd hB (by omega)).mono ?_
  rintro e w1 ⟨A1, n1, k1, rfl, hd1, hb1, ho1⟩
  obtain rfl : n = n1 := by have := ho1.1; rw [HLL.out] at this; exact this
  have hs1 := hb1.size
  clear h
  go_wp2_with fail
  go_loopw [5, 6] (fun s i wr => ∃ (i' : Nat) (xs : List Int) (s' : Int), i' ≤ n ∧ i = .int .i64 i' ∧ s = .int .i64 s' ∧ Chg w.heap.size w1.heap.size w1 wr ∧ OwI wr w.heap.size w1.heap.size A1 n xs ∧ Hid (SrtP l xs s' ∧ SufI xs i')) (fun _ i _ => n - (intOf i).toNat)
  case atStart => exact ⟨0, l, 1, by omega, rfl, rfl, Chg.refl _ _ _, ho1, srtP_start l, fun a b hab hb hc => by omega⟩
  case round =>
    clear ho1
    obtain ⟨i, xs, s, hi, rfl, rfl, hch, ho, HP⟩ := hrel
    by_cases hlt : i < n
    · go_wp2_with fail
      obtain ⟨wo, rfl⟩ : ∃ wo : World, wo = wr := ⟨_, rfl⟩
      go_loopw [5, 7] (fun s j wr => ∃ (j' : Nat) (xs : List Int) (s' : Int), j' + 1 ≤ n ∧ j = .int .i64 j' ∧ s = .int .i64 s' ∧ Chg w.heap.size w1.heap.size w1 wr ∧ OwI wr w.heap.size w1.heap.size A1 n xs ∧ Hid (SrtP l xs s' ∧ BubI xs i j')) (fun _ j _ => n - (intOf j).toNat)
      case atStart => exact ⟨0, xs, s, by omega, rfl, rfl, hch, ho, HP.out.1, bub_start HP.out.2⟩
      case round =>
        clear hch ho HP
        obtain ⟨j, xs, s, hj, rfl, rfl, hch, ho, HP⟩ := hrel
        have hsz := hch.size
        by_cases hltj : j + 1 < n
        · obtain ⟨b, o, rfl⟩ := ho.addr (by omega)
          obtain ⟨hc1, hf1⟩ := ho.at_ (show j < n by omega)
          obtain ⟨hc2, hf2⟩ := ho.at_ hltj
          have hxl := ho.1
          have HXL := Lib.hid hxl
          have HO := Lib.hid ho
          have q1 := cell_regrown hc1
          have q2 := cell_regrown hc2
          have n2 : ((j : Int) + 1).toNat = j + 1 := by omega
          have n3 : (j : Int) + 1 < n := by omega
          have n4 : (j : Int) < n := by omega
          have w5 : IntKind.i64.wrap ((j : Int) + 1) = (j : Int) + 1 := IntWalk.i64_in _ (by omega)
          clear hxl hf1 hf2 ho
          rcases Int.lt_trichotomy (gI xs j) (gI xs (j + 1)) with hg | hg | hg
          · have t1 : decide (gI xs (j + 1) < gI xs j) = false := by simp; omega
            have t2 : (gI xs j == gI xs (j + 1)) = false := by simp; omega
            have HG := Lib.hid hg
            clear hg hc1 hc2
            go_wp2_with fail
            (refine wp_region_quiet_below (w := wr) (by kernel_rfl) (by kernel_rfl) ?_; (repeat (go_big_quiet_step (fail))); refine wpQuiet_nil ?_; rintro W ⟨pp, hW⟩; have hbW : Below wr.heap.size wr W := hW ▸ below_regrown _ _ _; clear hW)
            obtain ⟨wa, hwa⟩ : ∃ wa : World, wa = W := ⟨_, rfl⟩
            have hbA : Below wr.heap.size wr wa := hwa ▸ hbW
            have hoA := HO.out.below hbA (by omega)
            rw [← hwa]
            clear hwa hbW q1 q2
            obtain ⟨hc1, -⟩ := hoA.at_ (show j < n by omega)
            obtain ⟨hc2, -⟩ := hoA.at_ hltj
            have q1 := cell_regrown hc1
            have q2 := cell_regrown hc2
            clear hc1 hc2
            go_wp2_with fail
            (refine wp_region_quiet_below (w := wa) (by kernel_rfl) (by kernel_rfl) ?_; (repeat (go_big_quiet_step (fail))); refine wpQuiet_nil ?_; rintro W ⟨pp, hW⟩; have hbW : Below wa.heap.size wa W := hW ▸ below_regrown _ _ _; clear hW)
            have hsA := hbA.size
            clear q1 q2 w5
            go_wp2
            go_roundw
            case rel => exact ⟨j + 1, xs, s, by omega, by go_num, rfl, hch.trans (Chg.ofBelow (hbA.trans (hbW.mono (by omega))) (Nat.le_refl _)), hoA.below hbW (by omega), HP.out.1, bub_keep (by rw [HXL.out]; exact hltj) HP.out.2 HG.out⟩
            case measure => simp [intOf]; omega
          · have t2 : (gI xs j == gI xs (j + 1)) = true := by simpa using hg
            have HG := Lib.hid hg
            clear hg hc1 hc2
            go_wp2_with fail
            (refine wp_region_quiet_below (w := wr) (by kernel_rfl) (by kernel_rfl) ?_; (repeat (go_big_quiet_step (fail))); refine wpQuiet_nil ?_; rintro W ⟨pp, hW⟩; have hbW : Below wr.heap.size wr W := hW ▸ below_regrown _ _ _; clear hW)
            have hD := srt_dup HP.out.1.1 (a := j) (b := j + 1) (by omega) (by rw [HXL.out]; omega) HG.out
            have HD := Lib.hid hD
            clear q1 q2 w5 hD
            go_wp2
            go_ret2
            exact RetSI.nil HD.out.1 HD.out.2 ((hb1.trans (hch.below (by omega))).trans (hbW.mono (by omega)))
          · have t1 : decide (gI xs (j + 1) < gI xs j) = true := by simp; omega
            have t2 : (gI xs j == gI xs (j + 1)) = false := by simp; omega
            have HG := Lib.hid hg
            clear hg hc1 hc2
            go_wp2_with fail
            (refine wp_region_quiet_below (w := wr) (by kernel_rfl) (by kernel_rfl) ?_; (repeat (go_big_quiet_step (fail))); refine wpQuiet_nil ?_; rintro W ⟨pp, hW⟩; have hbW : Below wr.heap.size wr W := hW ▸ below_regrown _ _ _; clear hW)
            obtain ⟨wa, hwa⟩ : ∃ wa : World, wa = W := ⟨_, rfl⟩
            have hbA : Below wr.heap.size wr wa := hwa ▸ hbW
            have hoA := HO.out.below hbA (by omega)
            rw [← hwa]
            clear hwa hbW q1 q2
            obtain ⟨hc1, -⟩ := hoA.at_ (show j < n by omega)
            obtain ⟨hc2, -⟩ := hoA.at_ hltj
            have q1 := cell_regrown hc1
            have q2 := cell_regrown hc2
            clear hc1 hc2
            go_wp2_with fail
            (refine wp_region_quiet_below (w := wa) (by kernel_rfl) (by kernel_rfl) ?_; (repeat (go_big_quiet_step (fail))); refine wpQuiet_nil ?_; rintro W ⟨pp, hW⟩; have hbW : Below wa.heap.size wa W := hW ▸ below_regrown _ _ _; clear hW)
            have hsA := hbA.size
            obtain ⟨wd, hwd⟩ : ∃ wd : World, wd = W := ⟨_, rfl⟩
            have hbD : Below wa.heap.size wa wd := hwd ▸ hbW
            have hoD := hoA.below hbD (by omega)
            rw [← hwd]
            clear hwd hbW q1 q2
            obtain ⟨hc1, hf1⟩ := hoD.at_ (show j < n by omega)
            obtain ⟨hc2, hf2⟩ := hoD.at_ hltj
            have hsb := HP.out.1.2.2
            have hs' : -2 ≤ s ∧ s ≤ 2 := by omega
            have hch2 := hch.trans (Chg.ofBelow (hbA.trans (hbD.mono (by omega))) (Nat.le_refl _))
            have hbk := hoD.blk (by omega)
            have hst := (hoD.store (k := j) (v := gI xs (j + 1)) (by omega)).store (k := j + 1) (v := gI xs j) (by omega)
            have HST := Lib.hid hst
            have HPS := Lib.hid (show SrtP l (swp xs j) (-s) from srtP_swap HP.out.1 (by rw [HXL.out]; omega) HG.out)
            have HIS := Lib.hid (show BubI (swp xs j) i (j + 1) from bub_swap (by rw [HXL.out]; exact hltj) HP.out.2 HG.out)
            have w7 : IntKind.i64.wrap (-s) = -s := IntWalk.i64_in _ (by omega)
            clear hoD hoA hsb hst w5
            go_wp2
            go_roundw
            case rel => exact ⟨j + 1, swp xs j, -s, by omega, by go_num, by first | rfl | rw [w7], (hch2.setCell (p := ⟨b, o + j, none⟩) (by exact hbk.1) (by exact hbk.2) _).setCell (p := ⟨b, o + (j + 1), none⟩) (by exact hbk.1) (by exact hbk.2) _, by exact HST.out, HPS.out, HIS.out⟩
            case measure => first | (simp [intOf]; done) | (simp [intOf]; omega)
        · have hle : n ≤ j + 1 := by omega
          have HL := Lib.hid (show SufI xs (i + 1) from bub_done (by rw [ho.1]; exact hlt) (by rw [ho.1]; exact hle) HP.out.2)
          go_wp2
          go_roundw
          case rel => exact ⟨i + 1, xs, s, by omega, by go_num, rfl, hch, ho, HP.out.1, HL.out⟩
          case measure => simp [intOf]; omega
    · obtain rfl : n = i := by omega
      have HD := Lib.hid (srt_done HP.out.1.1 HP.out.1.2.1 (fun a b hab hb => HP.out.2 a b hab hb (by rw [ho.1]; omega)))
      have hsz := hch.size
      go_wp2
      go_ret2
      rw [HD.out.1, HD.out.2]
      exact ⟨_, _, _, rfl, hd1, hb1.trans (hch.below (by omega)), ho.up (by omega)⟩
end Go.Proofs.Yteepnimmbofmlaa
namespace Go.Proofs.Yteepnimmbofmlaa
set_option linter.unusedVariables false
set_option linter.unusedSimpArgs false
set_option maxRecDepth 20000
open Go.RowKit
/-- the first place of xs -/
def idxR (xss : List (List Int)) (xs : List Int) : Nat := xss.findIdx (· == xs)
theorem idxR_hit {xss : List (List Int)} {xs : List Int} {k : Nat} (hk : k < xss.length) (h : row xss k = xs) (hb : ∀ j, j < k → row xss j ≠ xs) : idxR xss xs = k := by
  unfold idxR
  rw [List.findIdx_eq hk]
  refine ⟨by rw [row_lt hk] at h; simp [h], fun j hj => ?_⟩
  have := hb j hj
  rw [row_lt (by omega)] at this
  simpa using this
theorem idxR_lt {xss : List (List Int)} {xs : List Int} (h : xs ∈ xss) : idxR xss xs < xss.length := by
  unfold idxR
  rw [List.findIdx_lt_length]
  exact ⟨xs, h, by simp⟩
theorem idxR_row {xss : List (List Int)} {xs : List Int} (h : xs ∈ xss) : row xss (idxR xss xs) = xs := by
  rw [row_lt (idxR_lt h)]
  have := List.findIdx_getElem (xs := xss) (p := (· == xs)) (w := idxR_lt h)
  exact (by simpa using this : xss[List.findIdx (fun x => x == xs) xss]'(idxR_lt h) = xs)
theorem mem_subs (n : Nat) : ∀ (xs : List Int) (low : Nat), xs.Pairwise (· < ·) → (∀ x ∈ xs, (low : Int) ≤ x ∧ x < n) → xs ∈ subs n xs.length low := by
  intro xs
  induction xs with
  | nil => intro low _ _; simp [subs]
  | cons x xs ih =>
    intro low hp hr
    rw [List.pairwise_cons] at hp
    have hx := hr x (List.mem_cons_self ..)
    obtain ⟨i, rfl⟩ := Int.eq_ofNat_of_zero_le (show 0 ≤ x by omega)
    simp only [List.length_cons, subs, List.mem_flatMap, List.mem_map]
    refine ⟨i, ?_, xs, ih (i + 1) hp.2 (fun y hy => ?_), rfl⟩
    · rw [List.mem_range'_1]; omega
    · have h1 := hp.1 y hy
      have h2 := hr y (List.mem_cons_of_mem _ hy)
      omega
theorem srt_mem {n : Nat} {l : List Int} (hr : ∀ x ∈ l, 0 ≤ x ∧ x < n) (h : srtS l ≠ 0) : srtL l ∈ subs n l.length 0 := by
  have hn : l.Nodup := by
    by_cases e : l.Nodup
    · exact e
    · unfold srtS at h; rw [if_neg e] at h; exact absurd rfl h
  unfold srtL
  rw [if_pos hn]
  have hp := asc_perm l
  have hpw : (asc l).Pairwise (· < ·) := by
    have h1 := asc_le l
    have h2 : (asc l).Nodup := hp.nodup_iff.2 hn
    exact (h1.and h2).imp fun ⟨a, b⟩ => by omega
  have := mem_subs n (asc l) 0 hpw (fun x hx => hr x (hp.mem_iff.1 hx))
  rwa [hp.length_eq] at this
theorem srtS_bd (l : List Int) : srtS l = 0 ∨ srtS l = 1 ∨ srtS l = -1 := by
  unfold srtS
  split
  · exact .inr (sgn_one l)
  · exact .inl rfl
/-- the value of a cochain at basis elements -/
def valV (n : Nat) (p : Int) (v l : List Int) : Int := if srtS l = 0 then 0 else srtS l * gI v (idxR (subs n l.length 0) (srtL l)) % p
theorem valV_bd {n : Nat} {p : Int} (hp : 1 ≤ p) (v l : List Int) : 0 ≤ valV n p v l ∧ valV n p v l < p := by
  unfold valV
  split
  · omega
  · exact ⟨Int.emod_nonneg _ (by omega), Int.emod_lt_of_pos _ (by omega)⟩
end Go.Proofs.Yteepnimmbofmlaa
namespace Go.Proofs.Yteepnimmbofmlaa
set_option linter.unusedVariables false
set_option linter.unusedSimpArgs false
set_option maxRecDepth 20000
open Go.RowKit Go.Sort
set_option maxHeartbeats 4000000
theorem l4Index_any {B : Nat} (N n k : Nat) (A : Option Addr) (xs : List Int) (w : World) (h : RdI w B A n xs) (hB : B ≤ w.heap.size) (hN : N ≤ 7) (hn : n ≤ 8) (hm : xs ∈ subs N n 0) :
    Calls Try.prog 105 #[.int .i64 N, .slice A n k] w (Rv (.int .i64 (idxR (subs N n 0) xs)) w) := by
  have HM := Lib.hid hm
  have hSL : (subs N n 0).length ≤ 5764801 := Nat.le_trans (subs_count N n 0) (pow_bd hN hn)
  clear hm
  go_enter Try.func105, Try.ntmps105
  go_wp2_with fail
  refine (sSubs_any N hN n n 0 0 _ hn (by omega) (Lib.hid rfl) (Lib.hid rfl)).mono ?_
  rintro e w1 ⟨A1, n1, k1, rfl, hd1, hb1, hs1, hT1⟩
  obtain rfl : (subs N n 0).length = n1 := hT1.len
  have hr1 := h.below hb1 hB
  have hsz1 := hb1.size
  have hTr := hT1.rd
  clear hT1 h
  go_wp2_with fail
  go_loopw [6] (fun i wr => ∃ j : Nat, j ≤ (subs N n 0).length ∧ i = .int .i64 j ∧ Hid (∀ t, t < j → row (subs N n 0) t ≠ xs) ∧ SameD w1 wr) (fun i _ => (subs N n 0).length - (intOf i).toNat)
  case atStart => exact ⟨0, by omega, rfl, fun t ht => by omega, SameD.refl _⟩
  case round =>
    obtain ⟨j, hj, rfl, he, q, rfl⟩ := hrel
    by_cases hlt : j < (subs N n 0).length
    · obtain ⟨b, o, rfl, hbT, hcT⟩ := hTr.tbl (by omega)
      have hci := hcT j hlt
      unfold slv at hci
      obtain ⟨hr, hdd⟩ := hTr.rows j hlt
      rcases hz : (row (subs N n 0) j == xs) with _ | _
      all_goals
        have HZ := Lib.hid hz
        clear hz hcT
        go_wp2_with (go_at_call 110; refine (l1Same_any _ A _ _ n k (row (subs N n 0) j) xs _ (B1 := w1.heap.size) (B2 := B) (hr.drewN q) (hr1.drewN q)).mono ?_; rintro e w3 ⟨rfl, q3, rfl⟩; rw [HZ.out])
      · go_roundw
        case rel => exact ⟨j + 1, by omega, by go_num, fun t ht => by
          rcases Nat.lt_or_ge t j with h | h
          · exact he.out t h
          · obtain rfl : t = j := by omega
            have := HZ.out
            simpa using this, (by first | exact SameD.refl _ | exact ⟨_, rfl⟩ | exact SameD.two _ _ _ | exact (SameD.two _ _ _).drewN _)⟩
        case measure => simp [intOf]; omega
      · have HI := Lib.hid (idxR_hit hlt (by have := HZ.out; simpa using this) he.out)
        go_ret
        exact ⟨by rw [HI.out]; rfl, (by repeat' (first | (with_reducible exact Below.refl _ _) | (with_reducible refine Below.setCell ?_ (by first | exact Nat.le_refl _ | omega | (simp only [World.size_alloc, World.size_setCell, World.heap_drewN]; omega) | (simp; omega)) _) | (with_reducible refine Below.alloc ?_ (by first | exact Nat.le_refl _ | omega | (simp only [World.size_alloc, World.size_setCell, World.heap_drewN]; omega) | (simp; omega)) _) | (with_reducible refine below_drewN ?_ _) | (with_reducible refine Below.drew ?_) | (with_reducible refine Below.trans ?_ (hb1.mono (by first | exact Nat.le_refl _ | omega | (simp only [World.size_alloc, World.size_setCell, World.heap_drewN]; omega) | (simp; omega))))))⟩
    · exfalso
      have h1 := idxR_lt HM.out
      have h2 := idxR_row HM.out
      exact he.out _ (by omega) h2
theorem idxT_any {B : Nat} (n c : Nat) (A : Option Addr) (hs : List Hdr) (xss : List (List Int)) (F : FuncId) (cap : Array Value) (xs : List Int) (w : World) (h : RdT w B A n hs xss) (hB : B ≤ w.heap.size)
    (hcf : ∀ (args : Array Value) (w : World), Sem.run Try.prog (callFunc F args) w = .ok (.enter F args) w)
    (hf : Hid (∀ j w', j < n → SameD w w' → Calls Try.prog F (#[slv (hdr hs j)] ++ cap) w' (Qt (.bool (row xss j == xs)) w'))) (hm : xs ∈ xss) :
    Calls Try.prog 107 #[.slice A n c, .func (.func F) #[] cap] w (Qt (.int .i64 (idxR xss xs)) w) := by
  have HM := Lib.hid hm
  have HLN := Lib.hid h.len
  have hmx := h.max
  unfold maxLen at hmx
  have HT := Lib.hid h
  clear hm h
  go_enter Try.func107, Try.ntmps107
  go_wp2_with fail
  go_loopw [8] (fun i wr => ∃ j : Nat, j ≤ n ∧ i = .int .i64 j ∧ Hid (∀ t, t < j → row xss t ≠ xs) ∧ SameD w wr) (fun i _ => n - (intOf i).toNat)
  case atStart => exact ⟨0, by omega, rfl, fun t ht => by omega, SameD.refl _⟩
  case round =>
    obtain ⟨j, hj, rfl, he, q, rfl⟩ := hrel
    by_cases hlt : j < n
    · obtain ⟨b, o, rfl, hbT, hcT⟩ := HT.out.tbl (by omega)
      have hci : (w.drewN q).cell? ⟨b, o + j, none⟩ = some (slv (hdr hs j)) := hcT j hlt
      have hL : j < xss.length := by rw [HLN.out]; exact hlt
      clear hcT
      rcases hz : (row xss j == xs) with _ | _
      · have HZ := Lib.hid hz
        clear hz
        go_wp2_with fail
        refine (hf.out j _ hlt ⟨q, rfl⟩).mono ?_
        rw [HZ.out]
        rintro e w' ⟨rfl, q3, rfl⟩
        go_wp2
        go_roundw
        case rel => exact ⟨j + 1, by omega, by go_num, fun t ht => by
          rcases Nat.lt_or_ge t j with h | h
          · exact he.out t h
          · obtain rfl : t = j := by omega
            have := HZ.out
            simpa using this, (by first | exact SameD.refl _ | exact ⟨_, rfl⟩ | exact SameD.two _ _ _ | exact (SameD.two _ _ _).drewN _)⟩
        case measure => simp [intOf]; omega
      · have HZ := Lib.hid hz
        have HI := Lib.hid (idxR_hit hL (by simpa using hz) he.out)
        clear hz
        go_wp2_with fail
        refine (hf.out j _ hlt ⟨q, rfl⟩).mono ?_
        rw [HZ.out]
        rintro e w' ⟨rfl, q3, rfl⟩
        go_wp2
        go_ret
        exact ⟨by rw [HI.out]; rfl, (by first | exact SameD.refl _ | exact ⟨_, rfl⟩ | exact SameD.two _ _ _ | exact (SameD.two _ _ _).drewN _)⟩
    · exfalso
      have h1 := idxR_lt HM.out
      rw [HLN.out] at h1
      exact he.out _ (by omega) (idxR_row HM.out)
theorem valC_any {B1 B2 : Nat} (g n1 k1 n2 k2 : Nat) (A1 A2 : Option Addr) (ys xs : List Int) (w : World) (h1 : RdI w B1 A1 n1 ys) (h2 : RdI w B2 A2 n2 xs) (hg : w.cell? ⟨g, 0, none⟩ = some (.slice A2 n2 k2)) :
    Calls Try.prog 108 #[.slice A1 n1 k1, .pointer (some ⟨g, 0, none⟩)] w (Qt (.bool (ys == xs)) w) := by
  rcases hz : (ys == xs) with _ | _
  all_goals
    have HZ := Lib.hid hz
    clear hz
    go_enter Try.func108, Try.ntmps108
    go_wp2_with (go_at_call 109; refine (slEqual_any A1 A2 n1 k1 n2 k2 ys xs _ (B1 := B1) (B2 := B2) h1 h2).mono ?_; rintro e w3 ⟨rfl, q3, rfl⟩; rw [HZ.out])
    go_ret
    exact ⟨rfl, (by first | exact SameD.refl _ | exact ⟨_, rfl⟩ | exact SameD.two _ _ _ | exact (SameD.two _ _ _).drewN _)⟩
set_option maxRecDepth 100000 in
theorem value_any {B : Nat} (p : Int) (N n k m km q kq : Nat) (A Av Al : Option Addr) (v l : List Int) (w : World) (hv : RdI w B Av m v) (hl : RdI w B Al q l) (hdl : Hd Al q kq) (hB : B ≤ w.heap.size) (hN : N ≤ 7) (hq : q ≤ 8) (hm : m = (subs N q 0).length) (hp1 : 2 ≤ p) (hp2 : p ≤ 10007) (hrv : ∀ j, 0 ≤ gI v j ∧ gI v j < p) (hrl : ∀ x ∈ l, 0 ≤ x ∧ x < N) :
    Calls Try.prog 101 #[.agg #[.int .i64 p, .int .i64 N, .slice A n k], .slice Av m km, .slice Al q kq] w (Rv (.int .i64 (valV N p v l)) w) := by
  have HRV := Lib.hid hrv
  have hll := hl.1
  have hsb := srtS_bd l
  have hx0 := Box.new w #[.int .i64 p, .int .i64 N, .slice A n k] 55
  have hv0 := hv.alloc hB (.cells #[.int .i64 p, .int .i64 N, .slice A n k] 55)
  have hl0 := hl.alloc hB (.cells #[.int .i64 p, .int .i64 N, .slice A n k] 55)
  have HMM := Lib.hid hm
  have HMS := Lib.hid (show srtS l ≠ 0 → srtL l ∈ subs N q 0 from fun h => by rw [← hll]; exact srt_mem hrl h)
  have HVZ := Lib.hid (show srtS l = 0 → valV N p v l = 0 from fun h => by unfold valV; rw [if_pos h])
  have HVN := Lib.hid (show srtS l ≠ 0 → valV N p v l = srtS l * gI v (idxR (subs N q 0) (srtL l)) % p from fun h => by unfold valV; rw [if_neg h, hll])
  have HSLL := Lib.hid (show srtS l ≠ 0 → (srtL l).length = q from fun h => by
    have := srt_mem hrl h
    rw [hll] at this
    exact subs_len N q 0 _ this)
  generalize hsS : srtS l = s at *
  generalize hsL : srtL l = ys at *
  have HSS := Lib.hid hsS
  have HSL := Lib.hid hsL
  clear hm hrv hrl hll hsS hsL hv hl
  go_enter Try.func101, Try.ntmps101
  go_wp2_with fail
  refine (ordered_any (B := B) q kq Al l _ hl0 hdl (by simp; omega) (by omega)).mono ?_
  rw [HSS.out, HSL.out]
  rintro e w1 ⟨A1, n1, k1, rfl, hd1, hb1, ho1⟩
  have hs1 := hb1.size
  simp only [World.size_alloc] at hs1 ho1
  by_cases hz : s = 0
  · have hz' : (s == 0) = true := by simpa using hz
    have HV := Lib.hid (HVZ.out hz)
    clear hz
    go_wp2
    go_ret
    exact ⟨by rw [HV.out]; rfl, (by repeat' (first | (with_reducible exact Below.refl _ _) | (with_reducible refine Below.setCell ?_ (by first | exact Nat.le_refl _ | omega | (simp only [World.size_alloc, World.size_setCell, World.heap_drewN]; omega) | (simp; omega)) _) | (with_reducible refine Below.alloc ?_ (by first | exact Nat.le_refl _ | omega | (simp only [World.size_alloc, World.size_setCell, World.heap_drewN]; omega) | (simp; omega)) _) | (with_reducible refine below_drewN ?_ _) | (with_reducible refine Below.drew ?_) | (with_reducible refine Below.trans ?_ (hb1.mono (by first | exact Nat.le_refl _ | omega | (simp only [World.size_alloc, World.size_setCell, World.heap_drewN]; omega) | (simp; omega))))))⟩
  · have hz' : (s == 0) = false := by simpa using hz
    have HV := Lib.hid (HVN.out hz)
    have HM := Lib.hid (HMS.out hz)
    obtain rfl : q = n1 := by rw [← ho1.1]; exact (HSLL.out hz).symm
    have hs' : s = 1 ∨ s = -1 := by omega
    clear hz HVZ HVN HMS hsb
    have hx := (hx0.below hb1 (by simp)).alloc (.cells #[.slice A1 q k1] 22)
    have hvr := (hv0.below hb1 (by simp; omega)).alloc (by omega) (.cells #[.slice A1 q k1] 22)
    have hor := ho1.rd.alloc (Nat.le_refl _) (.cells #[.slice A1 q k1] 22)
    have hg := Box.new w1 #[.slice A1 q k1] 22
    have hqq : Below w.heap.size w (w1.alloc (.cells #[.slice A1 q k1] 22)) := (by repeat' (first | (with_reducible exact Below.refl _ _) | (with_reducible refine Below.setCell ?_ (by first | exact Nat.le_refl _ | omega | (simp only [World.size_alloc, World.size_setCell, World.heap_drewN]; omega) | (simp; omega)) _) | (with_reducible refine Below.alloc ?_ (by first | exact Nat.le_refl _ | omega | (simp only [World.size_alloc, World.size_setCell, World.heap_drewN]; omega) | (simp; omega)) _) | (with_reducible refine below_drewN ?_ _) | (with_reducible refine Below.drew ?_) | (with_reducible refine Below.trans ?_ (hb1.mono (by first | exact Nat.le_refl _ | omega | (simp only [World.size_alloc, World.size_setCell, World.heap_drewN]; omega) | (simp; omega))))))
    clear hb1 ho1 hv0 hl0 hx0
    obtain ⟨x0, x1, x2⟩ := hx.three
    go_wp2_with fail
    refine (iSubs_any N hN q q 0 0 _ hq (by omega) (Lib.hid rfl) (Lib.hid rfl)).mono ?_
    rintro e w2 ⟨A2, n2, k2, rfl, hd2, hb2, hs2, hT2⟩
    obtain rfl : (subs N q 0).length = n2 := hT2.len
    have hsz2 := hb2.size
    simp only [World.size_alloc] at hsz2
    have hx := hx.below hb2 (by simp; omega)
    have hvr := hvr.below hb2 (by simp; omega)
    have hor := hor.below hb2 (by simp)
    have hg := hg.below hb2 (by simp)
    have hqq := hqq.trans (hb2.mono (by simp; omega))
    have hTr := hT2.rd
    clear hb2 hT2 x0 x1 x2
    go_wp2_with fail
    refine (idxT_any (B := w2.heap.size) _ k2 A2 hs2 (subs N q 0) 108 #[.pointer (some ⟨w1.heap.size, 0, none⟩)] ys _ hTr (Nat.le_refl _) (fun a w => by kernel_rfl) (Lib.hid fun j w' hj hq' => ?_) HM.out).mono ?_
    · obtain ⟨q', rfl⟩ := hq'
      exact valC_any w1.heap.size _ _ q k1 _ A1 (row (subs N q 0) j) ys _ (((hTr.rows j hj).1).drewN q') (hor.drewN q') (hg.drewN q').one
    rintro e w3 ⟨rfl, q3, rfl⟩
    have HT := Lib.hid (show idxR (subs N q 0) ys < m by rw [HMM.out]; exact idxR_lt HM.out)
    generalize idxR (subs N q 0) ys = t at *
    obtain ⟨wd, hwd⟩ : ∃ wd : World, wd = w2.drewN q3 := ⟨_, rfl⟩
    have hx : Box wd w.heap.size _ := hwd ▸ hx.drewN q3
    have hvr : RdI wd B Av m v := hwd ▸ hvr.drewN q3
    have hqq : Below w.heap.size w wd := hwd ▸ below_drewN hqq q3
    rw [← hwd]
    clear hwd hor hg hTr hd2
    have htl := HT.out
    obtain ⟨bv, ov, rfl⟩ := hvr.addr (by omega)
    have hcv := hvr.at_ htl
    have vb := HRV.out t
    obtain ⟨x0, x1, x2⟩ := hx.three
    have q0 := cell_regrown x0
    have q1 := cell_regrown hcv
    obtain ⟨y, hy⟩ : ∃ y, y = gI v t := ⟨_, rfl⟩
    rw [← hy] at HV vb q1
    have hsy : -10007 ≤ s * y ∧ s * y ≤ 10007 := by rcases hs' with e | e <;> rw [e] <;> omega
    have hwr : IntKind.i64.wrap (s * y) = s * y := IntWalk.i64_in _ (by omega)
    have cM : ∀ d os, Calls Try.prog 78 #[.int .i64 (s * y), .int .i64 p] (grow (redrawn wd d) os) fun e w'' => e = .returned (.int .i64 (s * y % p)) ∧ ∃ p : Regrown, w'' = grow (redrawn wd p.d) p.os :=
      fun d os => Calls.regrown_of ((mod_any (s * y) p _ (by omega) (by omega)).mono fun _ _ ⟨a, b⟩ => ⟨a, b ▸ Below.refl _ _⟩)
    clear x0 x1 x2 hcv hy hvr hx
    go_wp2_with fail
    (refine wp_region_quiet_below (w := wd) (by kernel_rfl) (by kernel_rfl) ?_; (repeat (go_big_quiet_step (with_reducible exact cM _ _))); refine wpQuiet_nil ?_; rintro W ⟨pp, hW⟩; have hbW : Below wd.heap.size wd W := hW ▸ below_regrown _ _ _; clear hW)
    clear q0 q1 cM hwr
    have hsd := hqq.size
    go_wp2
    go_ret
    exact ⟨by rw [HV.out]; rfl, (by repeat' (first | (with_reducible exact Below.refl _ _) | (with_reducible refine Below.setCell ?_ (by first | exact Nat.le_refl _ | omega | (simp only [World.size_alloc, World.size_setCell, World.heap_drewN]; omega) | (simp; omega)) _) | (with_reducible refine Below.alloc ?_ (by first | exact Nat.le_refl _ | omega | (simp only [World.size_alloc, World.size_setCell, World.heap_drewN]; omega) | (simp; omega)) _) | (with_reducible refine below_drewN ?_ _) | (with_reducible refine Below.drew ?_) | (with_reducible refine Below.trans ?_ (hbW.mono (by first | exact Nat.le_refl _ | omega | (simp only [World.size_alloc, World.size_setCell, World.heap_drewN]; omega) | (simp; omega)))) | (with_reducible refine Below.trans ?_ (hqq.mono (by first | exact Nat.le_refl _ | omega | (simp only [World.size_alloc, World.size_setCell, World.heap_drewN]; omega) | (simp; omega))))))⟩
set_option maxRecDepth 100000 in
theorem l4Value_any {B : Nat} (p : Int) (N n k m km q kq : Nat) (A Av Al : Option Addr) (v l : List Int) (w : World) (hv : RdI w B Av m v) (hl : RdI w B Al q l) (hdl : Hd Al q kq) (hB : B ≤ w.heap.size) (hN : N ≤ 7) (hq : q ≤ 8) (hm : m = (subs N q 0).length) (hp1 : 2 ≤ p) (hp2 : p ≤ 10007) (hrv : ∀ j, 0 ≤ gI v j ∧ gI v j < p) (hrl : ∀ x ∈ l, 0 ≤ x ∧ x < N) :
    Calls Try.prog 100 #[.agg #[.int .i64 p, .int .i64 N, .slice A n k], .slice Av m km, .slice Al q kq] w (Rv (.int .i64 (valV N p v l)) w) := by
  have HRV := Lib.hid hrv
  have hll := hl.1
  have hsb := srtS_bd l
  have hx0 := Box.new w #[.int .i64 p, .int .i64 N, .slice A n k] 29
  have hv0 := hv.alloc hB (.cells #[.int .i64 p, .int .i64 N, .slice A n k] 29)
  have hl0 := hl.alloc hB (.cells #[.int .i64 p, .int .i64 N, .slice A n k] 29)
  have HMM := Lib.hid hm
  have HMS := Lib.hid (show srtS l ≠ 0 → srtL l ∈ subs N q 0 from fun h => by rw [← hll]; exact srt_mem hrl h)
  have HVZ := Lib.hid (show srtS l = 0 → valV N p v l = 0 from fun h => by unfold valV; rw [if_pos h])
  have HVN := Lib.hid (show srtS l ≠ 0 → valV N p v l = srtS l * gI v (idxR (subs N q 0) (srtL l)) % p from fun h => by unfold valV; rw [if_neg h, hll])
  have HSLL := Lib.hid (show srtS l ≠ 0 → (srtL l).length = q from fun h => by
    have := srt_mem hrl h
    rw [hll] at this
    exact subs_len N q 0 _ this)
  generalize hsS : srtS l = s at *
  generalize hsL : srtL l = ys at *
  have HSS := Lib.hid hsS
  have HSL := Lib.hid hsL
  clear hm hrv hrl hll hsS hsL hv hl
  go_enter Try.func100, Try.ntmps100
  go_wp2_with fail
  refine (l4Sorted_any (B := B) q kq Al l _ hl0 hdl (by simp; omega) (by omega)).mono ?_
  rw [HSS.out, HSL.out]
  rintro e w1 ⟨A1, n1, k1, rfl, hd1, hb1, ho1⟩
  have hs1 := hb1.size
  simp only [World.size_alloc] at hs1 ho1
  by_cases hz : s = 0
  · have hz' : (s == 0) = true := by simpa using hz
    have HV := Lib.hid (HVZ.out hz)
    clear hz
    go_wp2
    go_ret
    exact ⟨by rw [HV.out]; rfl, (by repeat' (first | (with_reducible exact Below.refl _ _) | (with_reducible refine Below.setCell ?_ (by first | exact Nat.le_refl _ | omega | (simp only [World.size_alloc, World.size_setCell, World.heap_drewN]; omega) | (simp; omega)) _) | (with_reducible refine Below.alloc ?_ (by first | exact Nat.le_refl _ | omega | (simp only [World.size_alloc, World.size_setCell, World.heap_drewN]; omega) | (simp; omega)) _) | (with_reducible refine below_drewN ?_ _) | (with_reducible refine Below.drew ?_) | (with_reducible refine Below.trans ?_ (hb1.mono (by first | exact Nat.le_refl _ | omega | (simp only [World.size_alloc, World.size_setCell, World.heap_drewN]; omega) | (simp; omega))))))⟩
  · have hz' : (s == 0) = false := by simpa using hz
    have HV := Lib.hid (HVN.out hz)
    have HM := Lib.hid (HMS.out hz)
    obtain rfl : q = n1 := by rw [← ho1.1]; exact (HSLL.out hz).symm
    have hs' : s = 1 ∨ s = -1 := by omega
    clear hz HVZ HVN HMS hsb
    have hx := hx0.below hb1 (by simp)
    have hvr := hv0.below hb1 (by simp; omega)
    have hor := ho1.rd
    have hqq : Below w.heap.size w w1 := (by repeat' (first | (with_reducible exact Below.refl _ _) | (with_reducible refine Below.setCell ?_ (by first | exact Nat.le_refl _ | omega | (simp only [World.size_alloc, World.size_setCell, World.heap_drewN]; omega) | (simp; omega)) _) | (with_reducible refine Below.alloc ?_ (by first | exact Nat.le_refl _ | omega | (simp only [World.size_alloc, World.size_setCell, World.heap_drewN]; omega) | (simp; omega)) _) | (with_reducible refine below_drewN ?_ _) | (with_reducible refine Below.drew ?_) | (with_reducible refine Below.trans ?_ (hb1.mono (by first | exact Nat.le_refl _ | omega | (simp only [World.size_alloc, World.size_setCell, World.heap_drewN]; omega) | (simp; omega))))))
    have hlt1 : B ≤ w1.heap.size := by omega
    clear hb1 ho1 hv0 hl0 hx0
    have HT := Lib.hid (show idxR (subs N q 0) ys < m by rw [HMM.out]; exact idxR_lt HM.out)
    have cI : ∀ d os, Calls Try.prog 105 #[.int .i64 N, .slice A1 q k1] (grow (redrawn w1 d) os) fun e w'' => e = .returned (.int .i64 (idxR (subs N q 0) ys)) ∧ ∃ p : Regrown, w'' = grow (redrawn w1 p.d) p.os :=
      fun d os => Calls.regrown_of (l4Index_any (B := w1.heap.size) N q k1 A1 ys _ (hor.below (below_regrown w1 d os) (Nat.le_refl _)) (below_regrown w1 d os).size hN hq HM.out)
    generalize idxR (subs N q 0) ys = t at *
    have htl := HT.out
    obtain ⟨bv, ov, rfl⟩ := hvr.addr (by omega)
    have hcv := hvr.at_ htl
    have vb := HRV.out t
    obtain ⟨x0, x1, x2⟩ := hx.three
    have q0 := cell_regrown x0
    have q1 := cell_regrown x1
    have q2 := cell_regrown hcv
    obtain ⟨y, hy⟩ : ∃ y, y = gI v t := ⟨_, rfl⟩
    rw [← hy] at HV vb q2
    have hsy : -10007 ≤ s * y ∧ s * y ≤ 10007 := by rcases hs' with e | e <;> rw [e] <;> omega
    have hwr : IntKind.i64.wrap (s * y) = s * y := IntWalk.i64_in _ (by omega)
    have cM : ∀ d os, Calls Try.prog 71 #[.int .i64 (s * y), .int .i64 p] (grow (redrawn w1 d) os) fun e w'' => e = .returned (.int .i64 (s * y % p)) ∧ ∃ p : Regrown, w'' = grow (redrawn w1 p.d) p.os :=
      fun d os => Calls.regrown_of ((l1Mod_any (s * y) p _ (by omega) (by omega)).mono fun _ _ ⟨a, b⟩ => ⟨a, b ▸ Below.refl _ _⟩)
    clear x0 x1 x2 hcv hy hvr hx hor
    go_wp2_with fail
    (refine wp_region_quiet_below (w := w1) (by kernel_rfl) (by kernel_rfl) ?_; (repeat (go_big_quiet_step (first | with_reducible exact cM _ _ | with_reducible exact cI _ _))); refine wpQuiet_nil ?_; rintro W ⟨pp, hW⟩; have hbW : Below w1.heap.size w1 W := hW ▸ below_regrown _ _ _; clear hW)
    clear q0 q1 q2 cM cI hwr
    go_wp2
    go_ret
    exact ⟨by rw [HV.out]; rfl, (by repeat' (first | (with_reducible exact Below.refl _ _) | (with_reducible refine Below.setCell ?_ (by first | exact Nat.le_refl _ | omega | (simp only [World.size_alloc, World.size_setCell, World.heap_drewN]; omega) | (simp; omega)) _) | (with_reducible refine Below.alloc ?_ (by first | exact Nat.le_refl _ | omega | (simp only [World.size_alloc, World.size_setCell, World.heap_drewN]; omega) | (simp; omega)) _) | (with_reducible refine below_drewN ?_ _) | (with_reducible refine Below.drew ?_) | (with_reducible refine Below.trans ?_ (hbW.mono (by first | exact Nat.le_refl _ | omega | (simp only [World.size_alloc, World.size_setCell, World.heap_drewN]; omega) | (simp; omega)))) | (with_reducible refine Below.trans ?_ (hqq.mono (by first | exact Nat.le_refl _ | omega | (simp only [World.size_alloc, World.size_setCell, World.heap_drewN]; omega) | (simp; omega))))))⟩
end Go.Proofs.Yteepnimmbofmlaa
namespace Go.Proofs.Yteepnimmbofmlaa
set_option linter.unusedVariables false
set_option linter.unusedSimpArgs false
set_option maxRecDepth 20000
open Go.RowKit Go.Sort
set_option maxHeartbeats 4000000
/-- the value of a cochain at an element and basis elements: the first m numbers -/
def vfS (N : Nat) (p : Int) (v u l : List Int) (m : Nat) : Int := sI m fun i => gI u i * valV N p v ((i : Int) :: l)
def vfV (N : Nat) (p : Int) (v u l : List Int) : Int := vfS N p v u l N % p
theorem vfS_step (N : Nat) (p : Int) (v u l : List Int) (m : Nat) : (vfS N p v u l m % p + gI u m * valV N p v ((m : Int) :: l)) % p = vfS N p v u l (m + 1) % p := by rw [mod_add]; rfl
theorem vfS_skip {N : Nat} {p : Int} {v u l : List Int} {m : Nat} (h : gI u m = 0) : vfS N p v u l (m + 1) = vfS N p v u l m := by
  show vfS N p v u l m + gI u m * _ = _
  rw [h]; simp
theorem vfV_bd {N : Nat} {p : Int} (hp : 1 ≤ p) (v u l : List Int) : 0 ≤ vfV N p v u l ∧ vfV N p v u l < p := mod_bd hp
set_option maxRecDepth 100000 in
theorem valueFor_any {B : Nat} (p : Int) (N n k m km ku q kq : Nat) (A Av Au Al : Option Addr) (v u l : List Int) (w : World) (hv : RdI w B Av m v) (hu : RdI w B Au N u) (hl : RdI w B Al q l) (hdl : Hd Al q kq) (hB : B ≤ w.heap.size) (hN : N ≤ 7) (hq : q + 1 ≤ 8) (hm : m = (subs N (q + 1) 0).length) (hp1 : 2 ≤ p) (hp2 : p ≤ 10007) (hrv : ∀ j, 0 ≤ gI v j ∧ gI v j < p) (hru : ∀ j, 0 ≤ gI u j ∧ gI u j < p) (hrl : ∀ x ∈ l, 0 ≤ x ∧ x < N) :
    Calls Try.prog 94 #[.agg #[.int .i64 p, .int .i64 N, .slice A n k], .slice Av m km, .slice Au N ku, .slice Al q kq] w (Rv (.int .i64 (vfV N p v u l)) w) := by
  have HRV := Lib.hid hrv
  have HRU := Lib.hid hru
  have HRL := Lib.hid hrl
  have HM := Lib.hid (show m = (subs N (1 + q) 0).length by rw [Nat.add_comm]; exact hm)
  have hpe : (p == 0) = false := by simp; omega
  have hpn : p ≠ 0 := by omega
  have hx0 := Box.new w #[.int .i64 p, .int .i64 N, .slice A n k] 55
  have hv0 := hv.alloc hB (.cells #[.int .i64 p, .int .i64 N, .slice A n k] 55)
  have hu0 := hu.alloc hB (.cells #[.int .i64 p, .int .i64 N, .slice A n k] 55)
  have hl0 := hl.alloc hB (.cells #[.int .i64 p, .int .i64 N, .slice A n k] 55)
  clear hrv hru hrl hm hv hu hl
  go_enter Try.func94, Try.ntmps94
  go_wp2_with fail
  go_loopw [9, 14] (fun s i wr => ∃ m : Nat, m ≤ N ∧ i = .int .i64 m ∧ s = .int .i64 (vfS N p v u l m % p) ∧ Below (w.heap.size + 1) (w.alloc (.cells #[.int .i64 p, .int .i64 N, .slice A n k] 55)) wr) (fun _ i _ => N - (intOf i).toNat)
  case atStart => exact ⟨0, by omega, rfl, by simp [vfS, sI], Below.refl _ _⟩
  case round =>
    obtain ⟨t, ht, rfl, rfl, hb⟩ := hrel
    have hsz := hb.size
    rw [World.size_alloc] at hsz
    have hx := hx0.below hb (by omega)
    obtain ⟨x0, x1, x2⟩ := hx.three
    by_cases hlt : t < N
    · have hvr := hv0.below hb (by omega)
      have hur := hu0.below hb (by omega)
      have hlr := hl0.below hb (by omega)
      obtain ⟨bU, oU, rfl⟩ := hur.addr (by omega)
      have hue := hur.at_ hlt
      by_cases hz : gI u t = 0
      · have hz' : (gI u t != 0) = false := by simpa using hz
        have HS := Lib.hid (vfS_skip (N := N) (p := p) (v := v) (l := l) hz)
        clear hz
        go_wp2
        go_roundw
        case rel => exact ⟨t + 1, by omega, by go_num, by rw [HS.out], hb⟩
        case measure => simp [intOf]; omega
      · have hz' : (gI u t != 0) = true := by simpa using hz
        clear hz
        have hub := HRU.out t
        have HST := Lib.hid (vfS_step N p v u l t)
        have hvb := valV_bd (n := N) (p := p) (by omega) v ((t : Int) :: l)
        have hsb := mod_bd (x := vfS N p v u l t) (p := p) (by omega)
        obtain ⟨y, hy⟩ : ∃ y, y = valV N p v ((t : Int) :: l) := ⟨_, rfl⟩
        have HY := Lib.hid (show valV N p v ((t : Int) :: l) = y from hy.symm)
        rw [← hy] at HST hvb
        obtain ⟨S, hS⟩ : ∃ S, S = vfS N p v u l t % p := ⟨_, rfl⟩
        rw [← hS] at HST hsb ⊢
        obtain ⟨x, hxx⟩ : ∃ x, x = gI u t := ⟨_, rfl⟩
        have HCX := Lib.hid (show ∀ w' : World, RdI w' B (some ⟨bU, oU, none⟩) N u → w'.cell? ⟨bU, oU + t, none⟩ = some (.int .i64 x) from fun w' h => by rw [hxx]; exact h.at_ hlt)
        rw [← hxx] at HST hub hue hz'
        clear hy hS hxx
        have m1 : 0 ≤ x * y := Int.mul_nonneg hub.1 hvb.1
        have m2 : x * y ≤ 10007 * 10007 := Int.mul_le_mul (by omega) (by omega) hvb.1 (by omega)
        have w1 : IntKind.i64.wrap (x * y) = x * y := IntWalk.i64_in _ (by omega)
        obtain ⟨z, hzz⟩ : ∃ z, z = S + x * y := ⟨_, rfl⟩
        have w2 : IntKind.i64.wrap (S + x * y) = z := by rw [hzz]; exact IntWalk.i64_in _ (by omega)
        rw [← hzz] at HST
        have hz0 : 0 ≤ z := by omega
        obtain ⟨r, hr⟩ : ∃ r, r = z % p := ⟨_, rfl⟩
        have w3 : z.tmod p = r := by rw [hr]; exact Int.tmod_eq_emod_of_nonneg hz0
        have mb : 0 ≤ r ∧ r < p := hr ▸ mod_bd (x := z) (p := p) (by omega)
        rw [← hr] at HST
        have w4 : IntKind.i64.wrap r = r := IntWalk.i64_in _ (by omega)
        have HIR := Lib.hid (show ∀ e ∈ (t : Int) :: l, 0 ≤ e ∧ e < N from fun e he => by
          rcases List.mem_cons.1 he with h | h
          · omega
          · exact HRL.out e h)
        have hown := World.ownsRow_lit (base := wr.heap.size) (e := 3) (size := 1) wr.drew #[.int .i64 (t : Int)] 1 (by exact Nat.le_refl _) (by unfold maxLen; omega) rfl
        have HOWN := Lib.hid hown
        clear hzz hr hown m1 m2
        go_wp2_with fail
        clear x0 x1 x2
        have hueH := Lib.hid hue
        go_region_held3 (fun w' => w'.cell? ⟨w.heap.size, 0, none⟩ = some (.int .i64 p) ∧ w'.cell? ⟨w.heap.size, 1, none⟩ = some (.int .i64 N) ∧ w'.cell? ⟨w.heap.size, 2, none⟩ = some (.slice A n k)) (first | exact hx.three | exact (hx.alloc _).three)
          (first
            | (refine step_apI (v := .slice (some ⟨wr.heap.size, 0, none⟩) 1 1) (w := wr.drew.alloc (.cells #[.int .i64 (t : Int)] 3)) (lo := wr.heap.size) (n := 1) (xs := [(t : Int)]) (ys := l) (B := B) rfl (.tmp 26) (.tmp 27) rfl rfl HOWN.out rfl ((hlr.below (Below.drew1 _ (Below.refl B wr)) (Nat.le_refl _)).alloc (by rw [size_drew]; omega) _) hdl (by omega) (by simp [size_drew]) ?_; intro v2 w5 ho2 hg2 hv2; obtain ⟨A2, c2, rfl, hd2⟩ := own_hd ho2; have hr2 := ofOwn' ho2 (by unfold maxLen; omega); have hb5 : Below wr.heap.size wr w5 := ((Below.drew1 _ (Below.refl wr.heap.size wr)).alloc (by rw [size_drew]; exact Nat.le_refl _) _).grown hg2 (by simp [size_drew]) (fun q e => by injection e with e; have e' : wr.heap.size = q := e; omega); have hs5 := hb5.size; have hx : Box w5 w.heap.size _ := hx.below hb5 (by omega); have hueH := Lib.hid (HCX.out _ (hur.below hb5 (by omega))))
            | (go_at_call 101; refine (value_any (B := w5.heap.size) p N n k m km (1 + q) c2 A Av A2 v ((t : Int) :: l) _ ((hvr.below hb5 (by omega)).up (by omega)) hr2.rd hd2 (Nat.le_refl _) hN (by omega) HM.out hp1 hp2 HRV.out HIR.out).mono ?_; rw [HY.out]; rintro e w6 ⟨rfl, hb6⟩; have hs6 := hb6.size; have hb56 : Below wr.heap.size wr w6 := hb5.trans (hb6.mono hs5); have hx : Box w6 w.heap.size _ := hx.below hb6 (by omega); have hueH := Lib.hid (HCX.out _ (hur.below hb56 (by omega)))))
        clear hx hue ho2 hg2 hv2 hr2 hb5 hb6 w1 w2 w3 w4 hueH
        go_wp2
        go_roundw
        case rel => exact ⟨t + 1, by omega, by go_num, by rw [HST.out], hb.trans (hb56.mono (by omega))⟩
        case measure => simp [intOf]; omega
    · obtain rfl : N = t := by omega
      go_wp2
      go_ret
      exact ⟨rfl, (by repeat' (first | (with_reducible exact Below.refl _ _) | (with_reducible refine Below.setCell ?_ (by first | exact Nat.le_refl _ | omega | (simp only [World.size_alloc, World.size_setCell, World.heap_drewN]; omega) | (simp; omega)) _) | (with_reducible refine Below.alloc ?_ (by first | exact Nat.le_refl _ | omega | (simp only [World.size_alloc, World.size_setCell, World.heap_drewN]; omega) | (simp; omega)) _) | (with_reducible refine below_drewN ?_ _) | (with_reducible refine Below.drew ?_) | (with_reducible refine Below.trans ?_ (hb.mono (by first | exact Nat.le_refl _ | omega | (simp only [World.size_alloc, World.size_setCell, World.heap_drewN]; omega) | (simp; omega))))))⟩
set_option maxRecDepth 100000 in
theorem l4First_any {B : Nat} (p : Int) (N n k m km ku q kq : Nat) (A Av Au Al : Option Addr) (v u l : List Int) (w : World) (hv : RdI w B Av m v) (hu : RdI w B Au N u) (hl : RdI w B Al q l) (hdl : Hd Al q kq) (hB : B ≤ w.heap.size) (hN : N ≤ 7) (hq : q + 1 ≤ 8) (hm : m = (subs N (q + 1) 0).length) (hp1 : 2 ≤ p) (hp2 : p ≤ 10007) (hrv : ∀ j, 0 ≤ gI v j ∧ gI v j < p) (hru : ∀ j, 0 ≤ gI u j ∧ gI u j < p) (hrl : ∀ x ∈ l, 0 ≤ x ∧ x < N) :
    Calls Try.prog 91 #[.agg #[.int .i64 p, .int .i64 N, .slice A n k], .slice Av m km, .slice Au N ku, .slice Al q kq] w (Rv (.int .i64 (vfV N p v u l)) w) := by
  have HRV := Lib.hid hrv
  have HRU := Lib.hid hru
  have HRL := Lib.hid hrl
  have HM := Lib.hid (show m = (subs N (1 + q) 0).length by rw [Nat.add_comm]; exact hm)
  have hpe : (p == 0) = false := by simp; omega
  have hpn : p ≠ 0 := by omega
  have hx0 := Box.new w #[.int .i64 p, .int .i64 N, .slice A n k] 29
  have hv0 := hv.alloc hB (.cells #[.int .i64 p, .int .i64 N, .slice A n k] 29)
  have hu0 := hu.alloc hB (.cells #[.int .i64 p, .int .i64 N, .slice A n k] 29)
  have hl0 := hl.alloc hB (.cells #[.int .i64 p, .int .i64 N, .slice A n k] 29)
  clear hrv hru hrl hm hv hu hl
  go_enter Try.func91, Try.ntmps91
  go_wp2_with fail
  go_loopw [9, 10] (fun s i wr => ∃ m : Nat, m ≤ N ∧ i = .int .i64 m ∧ s = .int .i64 (vfS N p v u l m % p) ∧ Below (w.heap.size + 1) (w.alloc (.cells #[.int .i64 p, .int .i64 N, .slice A n k] 29)) wr) (fun _ i _ => N - (intOf i).toNat)
  case atStart => exact ⟨0, by omega, rfl, by simp [vfS, sI], Below.refl _ _⟩
  case round =>
    obtain ⟨t, ht, rfl, rfl, hb⟩ := hrel
    have hsz := hb.size
    rw [World.size_alloc] at hsz
    have hx := hx0.below hb (by omega)
    obtain ⟨x0, x1, x2⟩ := hx.three
    by_cases hlt : t < N
    · have hvr := hv0.below hb (by omega)
      have hur := hu0.below hb (by omega)
      have hlr := hl0.below hb (by omega)
      obtain ⟨bU, oU, rfl⟩ := hur.addr (by omega)
      have hue := hur.at_ hlt
      by_cases hz : gI u t = 0
      · have hz' : (gI u t != 0) = false := by simpa using hz
        have HS := Lib.hid (vfS_skip (N := N) (p := p) (v := v) (l := l) hz)
        clear hz
        go_wp2
        go_roundw
        case rel => exact ⟨t + 1, by omega, by go_num, by rw [HS.out], hb⟩
        case measure => simp [intOf]; omega
      · have hz' : (gI u t != 0) = true := by simpa using hz
        clear hz
        have hub := HRU.out t
        have HST := Lib.hid (vfS_step N p v u l t)
        have hvb := valV_bd (n := N) (p := p) (by omega) v ((t : Int) :: l)
        have hsb := mod_bd (x := vfS N p v u l t) (p := p) (by omega)
        obtain ⟨y, hy⟩ : ∃ y, y = valV N p v ((t : Int) :: l) := ⟨_, rfl⟩
        have HY := Lib.hid (show valV N p v ((t : Int) :: l) = y from hy.symm)
        rw [← hy] at HST hvb
        obtain ⟨S, hS⟩ : ∃ S, S = vfS N p v u l t % p := ⟨_, rfl⟩
        rw [← hS] at HST hsb ⊢
        obtain ⟨x, hxx⟩ : ∃ x, x = gI u t := ⟨_, rfl⟩
        have HCX := Lib.hid (show ∀ w' : World, RdI w' B (some ⟨bU, oU, none⟩) N u → w'.cell? ⟨bU, oU + t, none⟩ = some (.int .i64 x) from fun w' h => by rw [hxx]; exact h.at_ hlt)
        rw [← hxx] at HST hub hue hz'
        clear hy hS hxx
        have m1 : 0 ≤ x * y := Int.mul_nonneg hub.1 hvb.1
        have m2 : x * y ≤ 10007 * 10007 := Int.mul_le_mul (by omega) (by omega) hvb.1 (by omega)
        have w1 : IntKind.i64.wrap (x * y) = x * y := IntWalk.i64_in _ (by omega)
        obtain ⟨z, hzz⟩ : ∃ z, z = S + x * y := ⟨_, rfl⟩
        have w2 : IntKind.i64.wrap (S + x * y) = z := by rw [hzz]; exact IntWalk.i64_in _ (by omega)
        rw [← hzz] at HST
        have hz0 : 0 ≤ z := by omega
        obtain ⟨r, hr⟩ : ∃ r, r = z % p := ⟨_, rfl⟩
        have w3 : z.tmod p = r := by rw [hr]; exact Int.tmod_eq_emod_of_nonneg hz0
        have mb : 0 ≤ r ∧ r < p := hr ▸ mod_bd (x := z) (p := p) (by omega)
        rw [← hr] at HST
        have w4 : IntKind.i64.wrap r = r := IntWalk.i64_in _ (by omega)
        have HIR := Lib.hid (show ∀ e ∈ (t : Int) :: l, 0 ≤ e ∧ e < N from fun e he => by
          rcases List.mem_cons.1 he with h | h
          · omega
          · exact HRL.out e h)
        have hown := World.ownsRow_lit (base := wr.heap.size) (e := 3) (size := 1) wr.drew #[.int .i64 (t : Int)] 1 (by exact Nat.le_refl _) (by unfold maxLen; omega) rfl
        have HOWN := Lib.hid hown
        clear hzz hr hown m1 m2
        go_wp2_with fail
        clear x0 x1 x2
        have hueH := Lib.hid hue
        go_region_held3 (fun w' => (w'.cell? ⟨w.heap.size, 0, none⟩ = some (.int .i64 p) ∧ w'.cell? ⟨w.heap.size, 1, none⟩ = some (.int .i64 N) ∧ w'.cell? ⟨w.heap.size, 2, none⟩ = some (.slice A n k)) ∧ w'.cell? ⟨bU, oU + t, none⟩ = some (.int .i64 x)) (first | exact ⟨hx.three, hueH.out⟩ | exact ⟨(hx.alloc (.cells #[.int .i64 (t : Int)] 3)).three, HCX.out _ (hur.alloc (by omega) (.cells #[.int .i64 (t : Int)] 3))⟩)
          (first
            | (refine step_apI (v := .slice (some ⟨wr.heap.size, 0, none⟩) 1 1) (w := wr.drew.alloc (.cells #[.int .i64 (t : Int)] 3)) (lo := wr.heap.size) (n := 1) (xs := [(t : Int)]) (ys := l) (B := B) rfl (.tmp 30) (.tmp 31) rfl rfl HOWN.out rfl ((hlr.below (Below.drew1 _ (Below.refl B wr)) (Nat.le_refl _)).alloc (by rw [size_drew]; omega) _) hdl (by omega) (by simp [size_drew]) ?_; intro v2 w5 ho2 hg2 hv2; obtain ⟨A2, c2, rfl, hd2⟩ := own_hd ho2; have hr2 := ofOwn' ho2 (by unfold maxLen; omega); have hb5 : Below wr.heap.size wr w5 := ((Below.drew1 _ (Below.refl wr.heap.size wr)).alloc (by rw [size_drew]; exact Nat.le_refl _) _).grown hg2 (by simp [size_drew]) (fun q e => by injection e with e; have e' : wr.heap.size = q := e; omega); have hs5 := hb5.size; have hx : Box w5 w.heap.size _ := hx.below hb5 (by omega); have hueH := Lib.hid (HCX.out _ (hur.below hb5 (by omega))))
            | (go_at_call 100; refine (l4Value_any (B := w5.heap.size) p N n k m km (1 + q) c2 A Av A2 v ((t : Int) :: l) _ ((hvr.below hb5 (by omega)).up (by omega)) hr2.rd hd2 (Nat.le_refl _) hN (by omega) HM.out hp1 hp2 HRV.out HIR.out).mono ?_; rw [HY.out]; rintro e w6 ⟨rfl, hb6⟩; have hs6 := hb6.size; have hb56 : Below wr.heap.size wr w6 := hb5.trans (hb6.mono hs5); have hx : Box w6 w.heap.size _ := hx.below hb6 (by omega); have hueH := Lib.hid (HCX.out _ (hur.below hb56 (by omega)))))
        clear hx hue ho2 hg2 hv2 hr2 hb5 hb6 w1 w2 w3 w4 hueH
        go_wp2
        go_roundw
        case rel => exact ⟨t + 1, by omega, by go_num, by rw [HST.out], hb.trans (hb56.mono (by omega))⟩
        case measure => simp [intOf]; omega
    · obtain rfl : N = t := by omega
      go_wp2
      go_ret
      exact ⟨rfl, (by repeat' (first | (with_reducible exact Below.refl _ _) | (with_reducible refine Below.setCell ?_ (by first | exact Nat.le_refl _ | omega | (simp only [World.size_alloc, World.size_setCell, World.heap_drewN]; omega) | (simp; omega)) _) | (with_reducible refine Below.alloc ?_ (by first | exact Nat.le_refl _ | omega | (simp only [World.size_alloc, World.size_setCell, World.heap_drewN]; omega) | (simp; omega)) _) | (with_reducible refine below_drewN ?_ _) | (with_reducible refine Below.drew ?_) | (with_reducible refine Below.trans ?_ (hb.mono (by first | exact Nat.le_refl _ | omega | (simp only [World.size_alloc, World.size_setCell, World.heap_drewN]; omega) | (simp; omega))))))⟩
end Go.Proofs.Yteepnimmbofmlaa
