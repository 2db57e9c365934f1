/- Sorting by exchanges of neighbours, with the sign. No program in sight. -/
import Derived.Test.YtgpejighomohlaaMem
namespace Go.Proofs.Ytgpejighomohlaa
set_option linter.unusedVariables false
set_option linter.unusedSimpArgs false
set_option maxRecDepth 20000
open Go.RowKit
/-- the sign that x brings among those behind it -/
def sg1 (x : Int) : List Int → Int
  | [] => 1
  | y :: ys => (if y < x then -1 else 1) * sg1 x ys
/-- the sign of a list -/
def sgn : List Int → Int
  | [] => 1
  | x :: xs => sg1 x xs * sgn xs
theorem sg1_perm {x : Int} {xs ys : List Int} (h : xs.Perm ys) : sg1 x xs = sg1 x ys := by
  induction h with
  | nil => rfl
  | cons a _ ih => simp only [sg1]; rw [ih]
  | swap a b l => simp only [sg1]; rw [Int.mul_left_comm]
  | trans _ _ ih1 ih2 => exact ih1.trans ih2
theorem sg1_one (x : Int) (xs : List Int) : sg1 x xs = 1 ∨ sg1 x xs = -1 := by
  induction xs with
  | nil => exact .inl rfl
  | cons y ys ih => simp only [sg1]; split <;> rcases ih with h | h <;> rw [h] <;> simp
theorem sgn_one (xs : List Int) : sgn xs = 1 ∨ sgn xs = -1 := by
  induction xs with
  | nil => exact .inl rfl
  | cons x xs ih => simp only [sgn]; rcases ih with h | h <;> rcases sg1_one x xs with h2 | h2 <;> rw [h, h2] <;> simp
theorem sgn_swap {a b : Int} (h : b < a) (pre post : List Int) : sgn (pre ++ a :: b :: post) = - sgn (pre ++ b :: a :: post) := by
  induction pre with
  | nil =>
    simp only [List.nil_append, sgn, sg1]
    rw [if_pos h, if_neg (by omega)]
    rw [Int.one_mul, Int.neg_one_mul, Int.neg_mul, Int.mul_left_comm]
  | cons x pre ih =>
    simp only [List.cons_append, sgn]
    rw [ih, sg1_perm (x := x) (show (pre ++ a :: b :: post).Perm (pre ++ b :: a :: post) from List.Perm.append_left _ (List.Perm.swap _ _ _)), Int.mul_neg]
theorem sg1_asc {x : Int} {xs : List Int} (h : ∀ y ∈ xs, x < y) : sg1 x xs = 1 := by
  induction xs with
  | nil => rfl
  | cons y ys ih =>
    simp only [sg1]
    rw [if_neg (by have := h y (List.mem_cons_self ..); omega), ih fun z hz => h z (List.mem_cons_of_mem _ hz)]; rfl
theorem sgn_asc {xs : List Int} (h : xs.Pairwise (· < ·)) : sgn xs = 1 := by
  induction xs with
  | nil => rfl
  | cons x xs ih =>
    rw [List.pairwise_cons] at h
    simp only [sgn]
    rw [sg1_asc h.1, ih h.2]; rfl
/-- the numbers at t and t + 1 exchanged -/
def swp (xs : List Int) (t : Nat) : List Int := (xs.set t (gI xs (t + 1))).set (t + 1) (gI xs t)
theorem swp_len (xs : List Int) (t : Nat) : (swp xs t).length = xs.length := by simp [swp]
theorem swp_get {xs : List Int} {t : Nat} (h : t + 1 < xs.length) (k : Nat) : gI (swp xs t) k = if k = t + 1 then gI xs t else if k = t then gI xs (t + 1) else gI xs k := by
  unfold swp
  rw [gI_set _ _ _ _ (by simpa using h)]
  split
  · rfl
  · rw [gI_set _ _ _ _ (by omega)]
theorem parts {xs : List Int} {t : Nat} (h : t + 1 < xs.length) : xs = xs.take t ++ gI xs t :: gI xs (t + 1) :: xs.drop (t + 2) := by
  have e1 : xs.drop t = gI xs t :: xs.drop (t + 1) := by rw [gI_lt (show t < xs.length by omega)]; exact List.drop_eq_getElem_cons (by omega)
  have e2 : xs.drop (t + 1) = gI xs (t + 1) :: xs.drop (t + 2) := by rw [gI_lt h]; exact List.drop_eq_getElem_cons h
  conv => lhs; rw [← List.take_append_drop t xs, e1, e2]
theorem swp_parts {xs : List Int} {t : Nat} (h : t + 1 < xs.length) : swp xs t = xs.take t ++ gI xs (t + 1) :: gI xs t :: xs.drop (t + 2) := by
  have hl : (xs.take t ++ gI xs (t + 1) :: gI xs t :: xs.drop (t + 2)).length = xs.length := by simp; omega
  refine ext_gI (by rw [swp_len, hl]) fun k hk => ?_
  rw [swp_len] at hk
  have e := gI_lt (xs := xs.take t ++ gI xs (t + 1) :: gI xs t :: xs.drop (t + 2)) (k := k) (by rw [hl]; exact hk)
  rw [swp_get h, e]
  have ht : (xs.take t).length = t := by simp; omega
  by_cases h1 : k < t
  · rw [if_neg (by omega), if_neg (by omega), List.getElem_append_left (by omega), gI_lt hk]; simp
  · rw [List.getElem_append_right (by omega)]
    simp only [ht]
    by_cases h2 : k = t
    · subst h2; rw [if_neg (by omega), if_pos rfl]; simp
    · by_cases h3 : k = t + 1
      · subst h3; rw [if_pos rfl]; simp
      · rw [if_neg h3, if_neg h2, gI_lt hk]
        obtain ⟨m, rfl⟩ : ∃ m, k = t + 2 + m := ⟨k - (t + 2), by omega⟩
        simp [show t + 2 + m - t = m + 2 by omega]
theorem swp_perm {xs : List Int} {t : Nat} (h : t + 1 < xs.length) : (swp xs t).Perm xs := by
  rw [swp_parts h]
  conv => rhs; rw [parts h]
  exact List.Perm.append_left _ (List.Perm.swap _ _ _)
theorem swp_sgn {xs : List Int} {t : Nat} (h : t + 1 < xs.length) (hg : gI xs (t + 1) < gI xs t) : sgn (swp xs t) = - sgn xs := by
  rw [swp_parts h]
  conv => rhs; rw [parts h, sgn_swap hg]
  omega
/-- the list in ascending order -/
def asc (l : List Int) : List Int := l.mergeSort (fun a b => decide (a ≤ b))
theorem asc_perm (l : List Int) : (asc l).Perm l := List.mergeSort_perm _ _
theorem asc_le (l : List Int) : (asc l).Pairwise (· ≤ ·) := by
  unfold asc
  have := List.pairwise_mergeSort (le := fun a b : Int => decide (a ≤ b)) (by simp; intro a b c; omega) (by simp; intro a b; omega) l
  simpa using this
theorem pw_of_gI {xs : List Int} (h : ∀ a b, a < b → b < xs.length → gI xs a < gI xs b) : xs.Pairwise (· < ·) := by
  rw [List.pairwise_iff_getElem]
  intro i j hi hj hij
  have := h i j hij hj
  rwa [gI_lt hi, gI_lt hj] at this
theorem asc_of {xs l : List Int} (hp : xs.Perm l) (h : xs.Pairwise (· < ·)) : xs = asc l := by
  refine List.Perm.eq_of_pairwise (le := (· ≤ ·)) (fun a b _ _ h1 h2 => by omega) (h.imp fun h => by omega) (asc_le l) (hp.trans (asc_perm l).symm)
theorem nodup_of_asc {xs : List Int} (h : xs.Pairwise (· < ·)) : xs.Nodup := h.imp fun h => by omega
/-- two equal numbers -/
theorem not_nodup {xs l : List Int} (hp : xs.Perm l) {a b : Nat} (hab : a < b) (hb : b < xs.length) (h : gI xs a = gI xs b) : ¬ l.Nodup := by
  rw [← hp.nodup_iff]
  intro hn
  have := (List.pairwise_iff_getElem.1 hn) a b (by omega) hb hab
  rw [gI_lt (by omega), gI_lt hb] at h
  exact this h
/-- what both sorts hand back -/
def srtL (l : List Int) : List Int := if l.Nodup then asc l else []
def srtS (l : List Int) : Int := if l.Nodup then sgn l else 0
theorem srt_done {xs l : List Int} {s : Int} (hp : xs.Perm l) (hs : s * sgn xs = sgn l) (h : ∀ a b, a < b → b < xs.length → gI xs a < gI xs b) : srtL l = xs ∧ srtS l = s := by
  have hw := pw_of_gI h
  have hn : l.Nodup := hp.nodup_iff.1 (nodup_of_asc hw)
  unfold srtL srtS
  rw [if_pos hn, if_pos hn, asc_of hp hw]
  refine ⟨rfl, ?_⟩
  rw [← hs, sgn_asc hw, Int.mul_one]
theorem srt_dup {xs l : List Int} (hp : xs.Perm l) {a b : Nat} (hab : a < b) (hb : b < xs.length) (h : gI xs a = gI xs b) : srtL l = [] ∧ srtS l = 0 := by
  have := not_nodup hp hab hb h
  unfold srtL srtS
  rw [if_neg this, if_neg this]
  exact ⟨rfl, rfl⟩
/-! ### insertion: the first i are in order; the one at j sinks -/
/-- all pairs up to i are in order, but those whose greater place is j -/
def InsI (xs : List Int) (i j : Nat) : Prop := ∀ a b, a < b → b < i + 1 → b ≠ j → gI xs a < gI xs b
def PreI (xs : List Int) (i : Nat) : Prop := ∀ a b, a < b → b < i → gI xs a < gI xs b
theorem ins_start {xs : List Int} {i : Nat} (h : PreI xs i) : InsI xs i i := fun a b hab hb hne => h a b hab (by omega)
theorem ins_zero {xs : List Int} {i : Nat} (h : InsI xs i 0) : PreI xs (i + 1) := fun a b hab hb => h a b hab hb (by omega)
theorem ins_stop {xs : List Int} {i j : Nat} (h : InsI xs i (j + 1)) (hg : gI xs j < gI xs (j + 1)) : PreI xs (i + 1) := fun a b hab hb => by
  by_cases e : b = j + 1
  · subst e
    by_cases e2 : a = j
    · subst e2; exact hg
    · have := h a j (by omega) (by omega) (by omega)
      omega
  · exact h a b hab hb e
theorem ins_step {xs : List Int} {i j : Nat} (hij : j + 1 ≤ i) (hi : i < xs.length) (h : InsI xs i (j + 1)) (hg : gI xs (j + 1) < gI xs j) : InsI (swp xs j) i j := fun a b hab hb hne => by
  rw [swp_get (by omega), swp_get (by omega)]
  by_cases b1 : b = j + 1
  · subst b1
    rw [if_neg (by omega), if_pos rfl]
    by_cases a1 : a = j
    · rw [if_pos a1]; exact hg
    · rw [if_neg a1]; exact h a j (by omega) (by omega) (by omega)
  · rw [if_neg b1, if_neg hne]
    by_cases a1 : a = j + 1
    · subst a1
      rw [if_pos rfl]
      exact h j b (by omega) hb (by omega)
    · rw [if_neg a1]
      by_cases a2 : a = j
      · subst a2
        rw [if_pos rfl]
        exact h (a + 1) b (by omega) hb (by omega)
      · rw [if_neg a2]
        exact h a b hab hb (by omega)
/-! ### bubble: the last i are in order and above all others; the one at j is the greatest so far -/
def SufI (xs : List Int) (i : Nat) : Prop := ∀ a b, a < b → b < xs.length → xs.length ≤ b + i → gI xs a < gI xs b
def BubI (xs : List Int) (i j : Nat) : Prop := SufI xs i ∧ ∀ a, a < min j (xs.length - 1 - i) → gI xs a < gI xs (min j (xs.length - 1 - i))
theorem bub_start {xs : List Int} {i : Nat} (h : SufI xs i) : BubI xs i 0 := ⟨h, fun a ha => by omega⟩
theorem bub_done {xs : List Int} {i j : Nat} (hi : i < xs.length) (hj : xs.length ≤ j + 1) (h : BubI xs i j) : SufI xs (i + 1) := fun a b hab hb hbi => by
  by_cases e : xs.length ≤ b + i
  · exact h.1 a b hab hb e
  · have h2 := h.2 a (by omega)
    rw [show min j (xs.length - 1 - i) = b by omega] at h2
    exact h2
theorem bub_keep {xs : List Int} {i j : Nat} (hj : j + 1 < xs.length) (h : BubI xs i j) (hg : gI xs j < gI xs (j + 1)) : BubI xs i (j + 1) := by
  refine ⟨h.1, fun a ha => ?_⟩
  by_cases e : j + 1 ≤ xs.length - 1 - i
  · rw [show min (j + 1) (xs.length - 1 - i) = j + 1 by omega] at ha ⊢
    by_cases e2 : a = j
    · subst e2; exact hg
    · have := h.2 a (by omega)
      rw [show min j (xs.length - 1 - i) = j by omega] at this
      omega
  · rw [show min (j + 1) (xs.length - 1 - i) = min j (xs.length - 1 - i) by omega] at ha ⊢
    exact h.2 a ha
theorem bub_swap {xs : List Int} {i j : Nat} (hj : j + 1 < xs.length) (h : BubI xs i j) (hg : gI xs (j + 1) < gI xs j) : BubI (swp xs j) i (j + 1) := by
  have hlt : j + 1 + i < xs.length := by
    rcases Nat.lt_or_ge (j + 1 + i) xs.length with h1 | h1
    · exact h1
    · have := h.1 j (j + 1) (by omega) hj (by omega)
      omega
  refine ⟨fun a b hab hb hbi => ?_, fun a ha => ?_⟩
  · rw [swp_len] at hb hbi
    rw [swp_get hj, swp_get hj, if_neg (show ¬ b = j + 1 by omega), if_neg (show ¬ b = j by omega)]
    split
    · exact h.1 j b (by omega) hb hbi
    · split
      · exact h.1 (j + 1) b (by omega) hb hbi
      · exact h.1 a b hab hb hbi
  · rw [swp_len] at ha ⊢
    rw [show min (j + 1) (xs.length - 1 - i) = j + 1 by omega] at ha ⊢
    rw [swp_get hj, swp_get hj, if_pos rfl, if_neg (show ¬ a = j + 1 by omega)]
    by_cases e : a = j
    · rw [if_pos e]; exact hg
    · rw [if_neg e]
      have := h.2 a (by omega)
      rw [show min j (xs.length - 1 - i) = j by omega] at this
      exact this
/-- the state of both sorts: a permutation with its sign -/
def SrtP (l xs : List Int) (s : Int) : Prop := xs.Perm l ∧ s * sgn xs = sgn l ∧ (s = 1 ∨ s = -1)
theorem srtP_start (l : List Int) : SrtP l l 1 := ⟨List.Perm.refl _, by rw [Int.one_mul], .inl rfl⟩
theorem srtP_swap {l xs : List Int} {s : Int} {t : Nat} (h : SrtP l xs s) (ht : t + 1 < xs.length) (hg : gI xs (t + 1) < gI xs t) : SrtP l (swp xs t) (-s) := by
  refine ⟨(swp_perm ht).trans h.1, ?_, by rcases h.2.2 with e | e <;> rw [e] <;> simp⟩
  rw [swp_sgn ht hg, Int.neg_mul, Int.mul_neg, Int.neg_neg, h.2.1]
end Go.Proofs.Ytgpejighomohlaa
