/- l1Unit, UnitMatrix of both packages. No condition but what each theorem names. -/
import Derived.Test.YtiggomjohikapaaAlgW
namespace Go.Proofs.Ytiggomjohikapaa
set_option linter.unusedVariables false
set_option linter.unusedSimpArgs false
set_option maxRecDepth 20000
open Go.RowKit
set_option maxHeartbeats 400000
/-- the unit matrix's numbers as the texts fill them in: k ones -/
def unitD (n : Nat) : Nat → List Int
  | 0 => List.replicate (n * n) 0
  | k + 1 => (unitD n k).set (k * n + k) 1
theorem unitD_len (n k : Nat) : (unitD n k).length = n * n := by
  induction k with
  | zero => simp [unitD]
  | succ k ih => simp [unitD, ih]
theorem diag_lt {n k : Nat} (h : k < n) : k * n + k < n * n := by
  calc k * n + k < k * n + n := by omega
    _ = (k + 1) * n := by rw [Nat.add_mul]; omega
    _ ≤ n * n := Nat.mul_le_mul_right _ (by omega)
theorem natsq (n : Nat) : ((n : Int) * (n : Int)).toNat = n * n := by rw [← Int.natCast_mul]; rfl

theorem okU_cases {p n : Int} (h : ¬ okZ p n n) : isP p = false ∨ (isP p = true ∧ (decide (0 ≤ n) && decide (n ≤ 40)) = false) := by
  rcases okZ_cases h with h | h | ⟨_, h1, h2⟩
  · exact .inl h
  · exact .inr h
  · rw [h1] at h2; cases h2
end Go.Proofs.Ytiggomjohikapaa
