/- ReduceMatrix, RankOf of both packages; span, l1Span, SpanOf. No condition but what each theorem names. -/
import Derived.Test.YtfiganobjjjloaaL1RW
import Derived.Test.YtfiganobjjjloaaCat
namespace Go.Proofs.Ytfiganobjjjloaa
set_option linter.unusedVariables false
set_option linter.unusedSimpArgs false
set_option maxRecDepth 20000
open Go.RowKit
set_option maxHeartbeats 2000000
/-- a call that hands back a new matrix and a new slice -/
def RetMS (p r c : Int) (d : List Int) (xs : List Int) (w : World) (e : Ending) (w' : World) : Prop :=
  ∃ A n k A2 n2 k2 mid, e = .returned (.tuple #[.agg #[.int .i64 p, .int .i64 r, .int .i64 c, .slice A n k], .slice A2 n2 k2]) ∧ Hd A n k ∧ Hd A2 n2 k2 ∧ Below w.heap.size w w' ∧ OwI w' w.heap.size mid A n d ∧ OwI w' mid w'.heap.size A2 n2 xs ∧ w.heap.size ≤ mid ∧ mid ≤ w'.heap.size
/-- the row-reduced form -/
abbrev rrM (R C : Nat) (p : Int) (d : List Int) : RS := rr R p (matF d C) C
end Go.Proofs.Ytfiganobjjjloaa
