/- isElement, l2Vector; AdjointOf of both packages. No condition but what each theorem names. -/
import Derived.Test.YteepnimmbofmlaaAdjW
namespace Go.Proofs.Yteepnimmbofmlaa
set_option linter.unusedVariables false
set_option linter.unusedSimpArgs false
set_option maxRecDepth 20000
open Go.RowKit Go.Sort
set_option maxHeartbeats 4000000
/-- an element of an algebra -/
def elB (p n : Int) (xs : List Int) : Bool := ((xs.length : Int) == n) && resB xs p
theorem elB_cases (p n : Int) (xs : List Int) : (((xs.length : Int) == n) = false ∧ elB p n xs = false) ∨ (((xs.length : Int) == n) = true ∧ resB xs p = false ∧ elB p n xs = false) ∨ (((xs.length : Int) == n) = true ∧ resB xs p = true ∧ elB p n xs = true) := by
  unfold elB
  rcases ((xs.length : Int) == n) with _ | _ <;> rcases resB xs p with _ | _ <;> simp
end Go.Proofs.Yteepnimmbofmlaa
