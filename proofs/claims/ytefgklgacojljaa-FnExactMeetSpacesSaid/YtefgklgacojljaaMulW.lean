/- times: the product of two matrices. No condition but what each theorem names. -/
import Derived.Test.YtefgklgacojljaaTrW
import Derived.Test.YtefgklgacojljaaMk
import Derived.Test.YtefgklgacojljaaTab
import Derived.Test.YtefgklgacojljaaTail
import Derived.RegionTactic
import Derived.Deep.DeepCutAuto
namespace Go.Proofs.Ytefgklgacojljaa
set_option linter.unusedVariables false
set_option linter.unusedSimpArgs false
open Go.RowKit Go.Sort
set_option maxHeartbeats 1000000
end Go.Proofs.Ytefgklgacojljaa
namespace Go.Proofs.Ytefgklgacojljaa
set_option linter.unusedVariables false
set_option linter.unusedSimpArgs false
open Go.RowKit
set_option maxHeartbeats 1000000
end Go.Proofs.Ytefgklgacojljaa
namespace Go.Proofs.Ytefgklgacojljaa
set_option linter.unusedVariables false
set_option linter.unusedSimpArgs false
open Go.RowKit Go.Sort
set_option maxHeartbeats 1000000
end Go.Proofs.Ytefgklgacojljaa
namespace Go.Proofs.Ytefgklgacojljaa
set_option linter.unusedVariables false
set_option linter.unusedSimpArgs false
open Go.RowKit
set_option maxHeartbeats 1000000
theorem retMB4 {w w' : World} {B B0 R : Nat} {p r c : Int} {A : Option Addr} {n cap : Nat} {d : List Int} {b : Bool} (hb : Below w.heap.size w w') (ho : OwI w' B0 B A n d) (hR : w.heap.size ≤ R) (hR2 : R < B0) (hB : B ≤ w'.heap.size) (v0 v1 v2 v3 : Value) (hd : Hd A n cap := by first | assumption | exact Hd.self (by unfold maxLen; omega)) :
    RetMB p r c d b w (.returned (.tuple #[.agg #[.int .i64 p, .int .i64 r, .int .i64 c, .slice A n cap], .bool b])) ((((w'.setCell ⟨R, 0, none⟩ v0).setCell ⟨R, 1, none⟩ v1).setCell ⟨R, 2, none⟩ v2).setCell ⟨R, 3, none⟩ v3) := by
  obtain ⟨A', n', c', e, h1, h2, h3⟩ := retM4 (p := p) (r := r) (c := c) hb ho hR hR2 hB v0 v1 v2 v3 hd
  injection e with e
  injection e with e
  simp at e
  obtain ⟨rfl, rfl, rfl⟩ := e
  exact ⟨_, _, _, rfl, h1, h2, h3⟩
end Go.Proofs.Ytefgklgacojljaa
