/- Ascending lists of k numbers from low to n - 1. No program in sight. -/
import Derived.Test.YtgpejighomohlaaTbl
namespace Go.Proofs.Ytgpejighomohlaa
set_option linter.unusedVariables false
set_option linter.unusedSimpArgs false
set_option maxRecDepth 20000
open Go.RowKit
def subs (n : Nat) : Nat → Nat → List (List Int)
  | 0, _ => [[]]
  | k + 1, low => (List.range' low (n - low)).flatMap fun i => (subs n k (i + 1)).map fun r => (i : Int) :: r
/-- those that begin with low .. low + m - 1 -/
def subsTo (n k low m : Nat) : List (List Int) := (List.range' low m).flatMap fun i => (subs n k (i + 1)).map fun r => (i : Int) :: r
theorem subs_succ (n k low : Nat) : subs n (k + 1) low = subsTo n k low (n - low) := rfl
theorem subsTo_zero (n k low : Nat) : subsTo n k low 0 = [] := rfl
theorem subsTo_succ (n k low m : Nat) : subsTo n k low (m + 1) = subsTo n k low m ++ (subs n k (low + m + 1)).map fun r => ((low + m : Nat) : Int) :: r := by
  unfold subsTo
  rw [List.range'_concat, List.flatMap_append]
  simp
theorem subs_len (n : Nat) : ∀ k low, ∀ r ∈ subs n k low, r.length = k := by
  intro k
  induction k with
  | zero => intro low r hr; simp [subs] at hr; subst hr; rfl
  | succ k ih =>
    intro low r hr
    simp only [subs, List.mem_flatMap, List.mem_map] at hr
    obtain ⟨i, _, s, hs, rfl⟩ := hr
    simp [ih _ s hs]
theorem subsTo_count (n k low : Nat) (c : Nat) (h : ∀ l, (subs n k l).length ≤ c) (m : Nat) : (subsTo n k low m).length ≤ m * c := by
  induction m with
  | zero => simp [subsTo_zero]
  | succ m ih =>
    rw [subsTo_succ, List.length_append, List.length_map, Nat.add_mul]
    have := h (low + m + 1)
    omega
theorem subs_count (n : Nat) : ∀ k low, (subs n k low).length ≤ n ^ k := by
  intro k
  induction k with
  | zero => intro low; simp [subs]
  | succ k ih =>
    intro low
    rw [subs_succ]
    have h1 := subsTo_count n k low (n ^ k) ih (n - low)
    have h2 : (n - low) * n ^ k ≤ n * n ^ k := Nat.mul_le_mul_right _ (by omega)
    rw [Nat.pow_succ, Nat.mul_comm (n ^ k) n]
    omega
theorem pow_bd {n k : Nat} (hn : n ≤ 7) (hk : k ≤ 8) : n ^ k ≤ 5764801 := by
  calc n ^ k ≤ 7 ^ k := Nat.pow_le_pow_left hn k
    _ ≤ 7 ^ 8 := Nat.pow_le_pow_right (by omega) hk
    _ = 5764801 := by decide
theorem subs_row {n k low j : Nat} (h : j < (subs n k low).length) : (row (subs n k low) j).length = k := by
  rw [row_lt h]; exact subs_len n k low _ (List.getElem_mem h)
theorem take_row {xss : List (List Int)} {j : Nat} (h : j < xss.length) : xss.take (j + 1) = xss.take j ++ [row xss j] := by
  rw [List.take_succ_eq_append_getElem h, row_lt h]
end Go.Proofs.Ytgpejighomohlaa
