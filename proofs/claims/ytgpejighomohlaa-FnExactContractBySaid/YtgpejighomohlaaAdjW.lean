/- The matrix of a bracket: lie.adjoint, l2Adjoint; isElement, l2Vector; AdjointOf. No condition but what each theorem names. -/
import Derived.Test.YtgpejighomohlaaAOkW
import Derived.Test.YtgpejighomohlaaAIkW
import Derived.Test.YtgpejighomohlaaGrwT
import Derived.Test.YtgpejighomohlaaCat
import Derived.Test.YtgpejighomohlaaL1SpW
import Derived.Deep.RegionHeld3
namespace Go.Proofs.Ytgpejighomohlaa
set_option linter.unusedVariables false
set_option linter.unusedSimpArgs false
set_option maxRecDepth 20000
open Go.RowKit Go.Sort
set_option maxHeartbeats 4000000
def adF (n : Nat) (p : Int) (d u : List Int) : Nat → Nat → Int := fun j l => rgS n d u j l n % p
theorem adR_succ (n : Nat) (p : Int) (d u : List Int) (m : Nat) : tabR (m + 1) n (adF n p d u) = tabR m n (adF n p d u) ++ [rgV n p d u m n] := tabR_succ m n _
theorem adF_bd {n : Nat} {p : Int} (hp : 1 ≤ p) (d u : List Int) (i j : Nat) : 0 ≤ adF n p d u i j ∧ adF n p d u i j < p := mod_bd hp
end Go.Proofs.Ytgpejighomohlaa
