/- AlgebraOk in plain numbers: its cases. No condition but what each theorem names. -/
import Derived.Test.YtgpejighomohlaaAlg
namespace Go.Proofs.Ytgpejighomohlaa
set_option linter.unusedVariables false
set_option linter.unusedSimpArgs false
set_option maxRecDepth 20000
open Go.RowKit
theorem okA_cases (p n : Int) (d : List Int) :
    (isP p = false ∧ okA p n d = false) ∨
    (isP p = true ∧ (decide (0 ≤ n) && decide (n ≤ 28)) = false ∧ okA p n d = false) ∨
    (isP p = true ∧ (decide (0 ≤ n) && decide (n ≤ 28)) = true ∧ ((d.length : Int) == n * n * n) = false ∧ okA p n d = false) ∨
    (isP p = true ∧ (decide (0 ≤ n) && decide (n ≤ 28)) = true ∧ ((d.length : Int) == n * n * n) = true ∧ resB d p = false ∧ okA p n d = false) ∨
    (isP p = true ∧ (decide (0 ≤ n) && decide (n ≤ 28)) = true ∧ ((d.length : Int) == n * n * n) = true ∧ resB d p = true ∧ okA p n d = (altB n.toNat p d && jacB n.toNat p d)) := by
  have e : decide ((d.length : Int) = n * n * n) = ((d.length : Int) == n * n * n) := rfl
  unfold okA
  rw [e]
  rcases isP p with _ | _ <;> rcases decide (0 ≤ n) with _ | _ <;> rcases decide (n ≤ 28) with _ | _ <;> rcases ((d.length : Int) == n * n * n) with _ | _ <;> rcases resB d p with _ | _ <;> simp
theorem cube_bd {n : Int} (e : (decide (0 ≤ n) && decide (n ≤ 28)) = true) : 0 ≤ n ∧ n ≤ 28 ∧ 0 ≤ n * n ∧ n * n ≤ 784 ∧ 0 ≤ n * n * n ∧ n * n * n ≤ 21952 := by
  simp at e
  have h1 : 0 ≤ n * n := Int.mul_nonneg e.1 e.1
  have h2 : n * n ≤ 28 * 28 := Int.mul_le_mul e.2 e.2 e.1 (by omega)
  have h3 : 0 ≤ n * n * n := Int.mul_nonneg h1 e.1
  have h4 : n * n * n ≤ 784 * 28 := Int.mul_le_mul (by omega) e.2 e.1 (by omega)
  exact ⟨e.1, e.2, h1, by omega, h3, by omega⟩
/-- one of the table's conditions -/
def alt1 (n : Nat) (p : Int) (d : List Int) (i j k : Nat) : Bool := decide ((tA n d i j k + tA n d j i k) % p = 0 ∧ (i = j → tA n d i j k = 0))
theorem alt_split (i j : Nat) (v1 s : Int) : decide (s = 0 ∧ (i = j → v1 = 0)) = !(((i : Int) == (j : Int)) && (v1 != 0) || (s != 0)) := by
  have hc : ((i : Int) == (j : Int)) = decide (i = j) := by rw [Bool.eq_iff_iff]; simp; omega
  rw [hc]
  by_cases h1 : i = j <;> by_cases h2 : v1 = 0 <;> by_cases h3 : s = 0 <;> simp [h1, h2, h3]
theorem altB_no {n : Nat} {p : Int} {d : List Int} {i j k : Nat} (hi : i < n) (hj : j < i + 1) (hk : k < n) (h : alt1 n p d i j k = false) : altB n p d = false := by
  unfold altB
  rw [decide_eq_false_iff_not]
  intro hA
  have := hA i hi j hj k hk
  unfold alt1 at h
  rw [decide_eq_false_iff_not] at h
  exact h this
theorem altB_yes {n : Nat} {p : Int} {d : List Int} (h : ∀ i, i < n → ∀ j, j < i + 1 → ∀ k, k < n → alt1 n p d i j k = true) : altB n p d = true := by
  unfold altB
  rw [decide_eq_true_eq]
  intro i hi j hj k hk
  have := h i hi j hj k hk
  unfold alt1 at this
  rwa [decide_eq_true_eq] at this
end Go.Proofs.Ytgpejighomohlaa
