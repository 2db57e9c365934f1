/- The laws' helpers over algebras by value: eqAlgebra, markAlgebra, heldAlgebra; AbelianAlgebra of both packages. No condition but what each theorem names. -/
import Derived.Test.YtefgklgacojljaaMat2W
namespace Go.Proofs.Ytefgklgacojljaa
set_option linter.unusedVariables false
set_option linter.unusedSimpArgs false
open Go.RowKit
set_option maxHeartbeats 400000
def okAb (p n : Int) : Prop := isP p = true ∧ (0 ≤ n ∧ n ≤ 28)
theorem okAb_cases {p n : Int} (h : ¬ okAb p n) : isP p = false ∨ (isP p = true ∧ (decide (0 ≤ n) && decide (n ≤ 28)) = false) := by
  unfold okAb at h
  rcases hp : isP p with _ | _
  · exact .inl rfl
  · refine .inr ⟨rfl, ?_⟩
    rcases hr : (decide (0 ≤ n) && decide (n ≤ 28)) with _ | _
    · rfl
    · exfalso; apply h
      simp at hr
      exact ⟨hp, hr⟩
end Go.Proofs.Ytefgklgacojljaa
