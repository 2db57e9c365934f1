/- The place of an ascending list among the subsets; the value of a cochain. No program in sight. -/
import Derived.Test.YtgpejighomohlaaSrt
import Derived.Test.YtgpejighomohlaaSub
namespace Go.Proofs.Ytgpejighomohlaa
set_option linter.unusedVariables false
set_option linter.unusedSimpArgs false
set_option maxRecDepth 20000
open Go.RowKit
/-- the first place of xs -/
def idxR (xss : List (List Int)) (xs : List Int) : Nat := xss.findIdx (· == xs)
theorem idxR_hit {xss : List (List Int)} {xs : List Int} {k : Nat} (hk : k < xss.length) (h : row xss k = xs) (hb : ∀ j, j < k → row xss j ≠ xs) : idxR xss xs = k := by
  unfold idxR
  rw [List.findIdx_eq hk]
  refine ⟨by rw [row_lt hk] at h; simp [h], fun j hj => ?_⟩
  have := hb j hj
  rw [row_lt (by omega)] at this
  simpa using this
theorem idxR_lt {xss : List (List Int)} {xs : List Int} (h : xs ∈ xss) : idxR xss xs < xss.length := by
  unfold idxR
  rw [List.findIdx_lt_length]
  exact ⟨xs, h, by simp⟩
theorem idxR_row {xss : List (List Int)} {xs : List Int} (h : xs ∈ xss) : row xss (idxR xss xs) = xs := by
  rw [row_lt (idxR_lt h)]
  have := List.findIdx_getElem (xs := xss) (p := (· == xs)) (w := idxR_lt h)
  exact (by simpa using this : xss[List.findIdx (fun x => x == xs) xss]'(idxR_lt h) = xs)
theorem mem_subs (n : Nat) : ∀ (xs : List Int) (low : Nat), xs.Pairwise (· < ·) → (∀ x ∈ xs, (low : Int) ≤ x ∧ x < n) → xs ∈ subs n xs.length low := by
  intro xs
  induction xs with
  | nil => intro low _ _; simp [subs]
  | cons x xs ih =>
    intro low hp hr
    rw [List.pairwise_cons] at hp
    have hx := hr x (List.mem_cons_self ..)
    obtain ⟨i, rfl⟩ := Int.eq_ofNat_of_zero_le (show 0 ≤ x by omega)
    simp only [List.length_cons, subs, List.mem_flatMap, List.mem_map]
    refine ⟨i, ?_, xs, ih (i + 1) hp.2 (fun y hy => ?_), rfl⟩
    · rw [List.mem_range'_1]; omega
    · have h1 := hp.1 y hy
      have h2 := hr y (List.mem_cons_of_mem _ hy)
      omega
theorem srt_mem {n : Nat} {l : List Int} (hr : ∀ x ∈ l, 0 ≤ x ∧ x < n) (h : srtS l ≠ 0) : srtL l ∈ subs n l.length 0 := by
  have hn : l.Nodup := by
    by_cases e : l.Nodup
    · exact e
    · unfold srtS at h; rw [if_neg e] at h; exact absurd rfl h
  unfold srtL
  rw [if_pos hn]
  have hp := asc_perm l
  have hpw : (asc l).Pairwise (· < ·) := by
    have h1 := asc_le l
    have h2 : (asc l).Nodup := hp.nodup_iff.2 hn
    exact (h1.and h2).imp fun ⟨a, b⟩ => by omega
  have := mem_subs n (asc l) 0 hpw (fun x hx => hr x (hp.mem_iff.1 hx))
  rwa [hp.length_eq] at this
theorem srtS_bd (l : List Int) : srtS l = 0 ∨ srtS l = 1 ∨ srtS l = -1 := by
  unfold srtS
  split
  · exact .inr (sgn_one l)
  · exact .inl rfl
/-- the value of a cochain at basis elements -/
def valV (n : Nat) (p : Int) (v l : List Int) : Int := if srtS l = 0 then 0 else srtS l * gI v (idxR (subs n l.length 0) (srtL l)) % p
theorem valV_bd {n : Nat} {p : Int} (hp : 1 ≤ p) (v l : List Int) : 0 ≤ valV n p v l ∧ valV n p v l < p := by
  unfold valV
  split
  · omega
  · exact ⟨Int.emod_nonneg _ (by omega), Int.emod_lt_of_pos _ (by omega)⟩
end Go.Proofs.Ytgpejighomohlaa
