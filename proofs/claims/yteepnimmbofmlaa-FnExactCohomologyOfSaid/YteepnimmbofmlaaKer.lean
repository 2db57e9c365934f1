/- The vectors of the null space that a reduced table gives, as both texts make them. No program in sight. -/
import Derived.Test.YteepnimmbofmlaaCat
import Derived.Test.YteepnimmbofmlaaLibW
namespace Go.Proofs.Yteepnimmbofmlaa
set_option linter.unusedVariables false
set_option linter.unusedSimpArgs false
set_option maxRecDepth 20000
open Go.RowKit
theorem rr_sorted (R : Nat) (p : Int) (f : Tb) (c : Nat) : (rr R p f c).pv.Pairwise (· < ·) := by
  induction c with
  | zero => simp [rr]
  | succ c ih =>
    simp only [rr, rstep]
    split
    · rw [List.pairwise_append]
      refine ⟨ih, by simp, fun a ha b hb => ?_⟩
      simp at hb; subst hb; exact rr_pv R p f b a ha
    · exact ih
/-- the i-th of a list of columns -/
def pg (l : List Nat) (i : Nat) : Nat := l.getD i 0
theorem pg_lt {l : List Nat} {i : Nat} (h : i < l.length) : pg l i = l[i] := by simp [pg, h]
theorem pg_app {l : List Nat} {c i : Nat} (h : i < l.length) : pg (l ++ [c]) i = pg l i := by
  rw [pg_lt (by simp; omega), pg_lt h, List.getElem_append_left h]
theorem pg_end {l : List Nat} {c : Nat} : pg (l ++ [c]) l.length = c := by rw [pg_lt (by simp)]; simp
theorem pg_mem {l : List Nat} {i : Nat} (h : i < l.length) : pg l i ∈ l := by rw [pg_lt h]; exact List.getElem_mem h
theorem mem_pg {l : List Nat} {c : Nat} (h : c ∈ l) : ∃ i, i < l.length ∧ pg l i = c := by
  obtain ⟨i, hi, rfl⟩ := List.mem_iff_getElem.1 h
  exact ⟨i, hi, pg_lt hi⟩
theorem pg_mono {l : List Nat} (h : l.Pairwise (· < ·)) {i j : Nat} (hij : i < j) (hj : j < l.length) : pg l i < pg l j := by
  rw [pg_lt (by omega), pg_lt hj]
  exact List.pairwise_iff_getElem.1 h i j (by omega) hj hij
theorem pg_inj {l : List Nat} (h : l.Pairwise (· < ·)) {i j : Nat} (hi : i < l.length) (hj : j < l.length) (e : pg l i = pg l j) : i = j := by
  rcases Nat.lt_trichotomy i j with h1 | h1 | h1
  · have := pg_mono h h1 hj; omega
  · exact h1
  · have := pg_mono h h1 hi; omega
theorem idx_pg {l : List Nat} (h : l.Pairwise (· < ·)) {i : Nat} (hi : i < l.length) : l.idxOf (pg l i) = i := by
  have h1 : pg l i ∈ l := pg_mem hi
  have h2 := List.idxOf_lt_length_iff.2 h1
  refine pg_inj h h2 hi ?_
  rw [pg_lt h2]
  exact List.getElem_idxOf h2
theorem pvI_get {l : List Nat} {i : Nat} (h : i < l.length) : gI (pvI l) i = (pg l i : Int) := by
  rw [gI_lt (by rw [pvI_len]; exact h), pg_lt h]; simp [pvI]
/-- the vector of a free column, the first m pivots filled in -/
def fvP (s : RS) (p : Int) (c m : Nat) (j : Nat) : Int := if j = c then 1 else if s.pv.idxOf j < m then (0 - s.f (s.pv.idxOf j) c) % p else 0
theorem fvP_zero (s : RS) (p : Int) (c j : Nat) : fvP s p c 0 j = if j = c then 1 else 0 := by unfold fvP; rw [if_neg (Nat.not_lt_zero _)]
theorem fvP_succ {s : RS} {p : Int} {c m : Nat} (hs : s.pv.Pairwise (· < ·)) (hm : m < s.pv.length) (hc : c ∉ s.pv) (j : Nat) : (if j = pg s.pv m then (0 - s.f m c) % p else fvP s p c m j) = fvP s p c (m + 1) j := by
  have hne : pg s.pv m ≠ c := fun e => hc (e ▸ pg_mem hm)
  by_cases e : j = pg s.pv m
  · subst e
    rw [if_pos rfl]; unfold fvP
    rw [if_neg hne, idx_pg hs hm, if_pos (by omega)]
  · rw [if_neg e]; unfold fvP
    by_cases e2 : j = c
    · rw [if_pos e2, if_pos e2]
    · rw [if_neg e2, if_neg e2]
      have : s.pv.idxOf j ≠ m := fun e3 => e (by
        have h1 : s.pv.idxOf j < s.pv.length := by omega
        have h2 : s.pv[s.pv.idxOf j] = j := List.getElem_idxOf h1
        rw [pg_lt hm]; rw [← h2]; congr 1)
      by_cases e4 : s.pv.idxOf j < m
      · rw [if_pos e4, if_pos (by omega)]
      · rw [if_neg e4, if_neg (by omega)]
theorem fvP_bd {s : RS} {p : Int} (hp : 2 ≤ p) (c m j : Nat) : 0 ≤ fvP s p c m j ∧ fvP s p c m j < p := by
  unfold fvP
  split
  · omega
  · split
    · exact ⟨Int.emod_nonneg _ (by omega), Int.emod_lt_of_pos _ (by omega)⟩
    · omega
/-- the free columns below c -/
def frees (pv : List Nat) (c : Nat) : List Nat := (List.range c).filter fun x => !pv.contains x
theorem frees_succ (pv : List Nat) (c : Nat) : frees pv (c + 1) = if c ∈ pv then frees pv c else frees pv c ++ [c] := by
  unfold frees
  rw [List.range_succ, List.filter_append]
  by_cases h : c ∈ pv <;> simp [h]
/-- the vectors of the free columns below c -/
def kerL (s : RS) (p : Int) (C c : Nat) : List (List Int) := (frees s.pv c).map fun x => (List.range C).map (fvP s p x s.pv.length)
theorem kerL_succ (s : RS) (p : Int) (C c : Nat) : kerL s p C (c + 1) = if c ∈ s.pv then kerL s p C c else kerL s p C c ++ [(List.range C).map (fvP s p c s.pv.length)] := by
  unfold kerL
  rw [frees_succ]
  split <;> simp
theorem kerL_len (s : RS) (p : Int) (C c : Nat) : (kerL s p C c).length ≤ c := by
  unfold kerL frees
  rw [List.length_map]
  have := List.length_filter_le (fun x => !s.pv.contains x) (List.range c)
  simpa using this
theorem kerL_row {s : RS} {p : Int} {C c i : Nat} (h : i < (kerL s p C c).length) : ∃ x, row (kerL s p C c) i = (List.range C).map (fvP s p x s.pv.length) := by
  rw [row_lt h]
  exact ⟨(frees s.pv c)[i]'(by simpa [kerL] using h), by simp [kerL]⟩
/-- as a table -/
def kerF (s : RS) (p : Int) (C : Nat) : Tb := fun i j => gI (row (kerL s p C C) i) j
theorem kerF_FF (s : RS) (p : Int) (C : Nat) : FF (kerL s p C C) (kerL s p C C).length C (kerF s p C) := by
  intro i hi
  obtain ⟨x, hx⟩ := kerL_row hi
  exact ⟨by rw [hx]; simp, fun j _ => rfl⟩
theorem kerF_res {s : RS} {p : Int} (hp : 2 ≤ p) (C : Nat) : ResF (kerF s p C) p := by
  intro i j
  unfold kerF
  rcases Nat.lt_or_ge i (kerL s p C C).length with hi | hi
  · obtain ⟨x, hx⟩ := kerL_row hi
    rw [hx]
    rcases Nat.lt_or_ge j C with hj | hj
    · rw [gI_lt (by simpa using hj)]; simp; exact fvP_bd hp x _ j
    · rw [gI_ge (by simpa using hj)]; omega
  · have : row (kerL s p C C) i = [] := by unfold row; rw [List.getD_eq_getElem?_getD, List.getElem?_eq_none hi]; rfl
    rw [this]
    simp [gI]; omega
/-- the reduced basis of the null space of a table -/
def kerS (R C : Nat) (p : Int) (f : Tb) : RS := rr (kerL (rr R p f C) p C C).length p (kerF (rr R p f C) p C) C
theorem any_mem (l : List Nat) (c : Nat) : ((pvI l).any fun y => (c : Int) == y) = decide (c ∈ l) := by
  unfold pvI
  rw [Bool.eq_iff_iff]
  simp only [List.any_map, List.any_eq_true, Function.comp, beq_iff_eq, decide_eq_true_eq]
  constructor
  · rintro ⟨x, hx, e⟩
    have : c = x := by omega
    subst this; exact hx
  · intro h; exact ⟨c, h, rfl⟩
end Go.Proofs.Yteepnimmbofmlaa
