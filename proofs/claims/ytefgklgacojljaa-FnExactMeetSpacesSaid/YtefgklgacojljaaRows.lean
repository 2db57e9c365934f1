/-
  No cell of these rows narrows 'for every input' (looked for: loops, veiled, ifaces, maps, wideKeys, modest, calm, conditions, laid).
  DERIVED. THE GIVEN ROWS OF THIS SEAT. 12 by the template 'for every input the law returns true; each argument reads behind the call as it read before'; 0 by the template 'total and deterministic' (their statements: YtefgklgacojljaaTotals.lean).
  GIVEN WITH THE SEED: the statements are not yours to turn. If you find one false, say at which input.
  Laid BY PROGRAM, IN A SANDBOX (cutbox-rows.mjs): the forced cells as the released guide's own fill.sh prints them over the translation fc673634951cbc0c… (all of the seat's roots in one cut). By AI agents, Wed Nov 11 2026. No macro, syntax, notation, axiom, sorry.
-/
import Derived.Test.YtefgklgacojljaaChecked
import GoSem.Claim
import GoSem.ClaimJoined
import GoSem.ClaimMapViews
import Derived.JoinedTies
import Derived.KernelRfl
namespace Go.Proofs.Ytefgklgacojljaa
/- THE CELL 'sum', in the pinned program and in every row, IS THE sha256 OF THE DUMP (.gsa) THAT YtefgklgacojljaaProg.lean LOADS. Nothing in Lean hashes anything: it is a label: what it is worth is what the hold of that sum in a sandbox is worth. -/
noncomputable def Try.pinned : Pinned := { name := "ytefgklgacojljaa", sum := "fc673634951cbc0ca24da404d31570a3062d19abdd5d19439fd316241e64b646", checked := Try.checked }
namespace Rows
def none {H : Type} : Left H := { results := [], args := [] }

/-- 'laws.FnExactDeterminantOf': WHATEVER THE INPUT: true; the input reads as it did. -/
def fnExactDeterminantOfSpec : ChangeSpec := { name := "fnExactDeterminantOf", fn := fun _ => fun
  | [d] => { results := [.lit (.bool true)], args := [d] }
  | _ => none }
def fnExactDeterminantOfRow : OpenClaim := { program := "ytefgklgacojljaa", sum := "fc673634951cbc0ca24da404d31570a3062d19abdd5d19439fd316241e64b646", func := "loop.example/g03109/laws.FnExactDeterminantOf", spec := "fnExactDeterminantOf", unfollowed := true, recurses := true, apart := false }
def FnExactDeterminantOfSaid : Prop := fnExactDeterminantOfRow.holds Try.pinned (OpenSpec.ofChange fnExactDeterminantOfSpec)

/-- ITS FALSE NEIGHBOUR: 'it returns false'. Refute it at one input. -/
def fnExactDeterminantOfWrong : ChangeSpec := { name := "fnExactDeterminantOf", fn := fun _ => fun
  | [d] => { results := [.lit (.bool false)], args := [d] }
  | _ => none }
def FnExactDeterminantOfWrongFalsely : Prop := fnExactDeterminantOfRow.holds Try.pinned (OpenSpec.ofChange fnExactDeterminantOfWrong)

/-- 'laws.FnExactRankOf': WHATEVER THE INPUT: true; the input reads as it did. -/
def fnExactRankOfSpec : ChangeSpec := { name := "fnExactRankOf", fn := fun _ => fun
  | [d] => { results := [.lit (.bool true)], args := [d] }
  | _ => none }
def fnExactRankOfRow : OpenClaim := { program := "ytefgklgacojljaa", sum := "fc673634951cbc0ca24da404d31570a3062d19abdd5d19439fd316241e64b646", func := "loop.example/g03109/laws.FnExactRankOf", spec := "fnExactRankOf", unfollowed := true, recurses := true, apart := false }
def FnExactRankOfSaid : Prop := fnExactRankOfRow.holds Try.pinned (OpenSpec.ofChange fnExactRankOfSpec)

/-- ITS FALSE NEIGHBOUR: 'it returns false'. Refute it at one input. -/
def fnExactRankOfWrong : ChangeSpec := { name := "fnExactRankOf", fn := fun _ => fun
  | [d] => { results := [.lit (.bool false)], args := [d] }
  | _ => none }
def FnExactRankOfWrongFalsely : Prop := fnExactRankOfRow.holds Try.pinned (OpenSpec.ofChange fnExactRankOfWrong)

/-- 'laws.FnExactReduceMatrix': WHATEVER THE INPUT: true; the input reads as it did. -/
def fnExactReduceMatrixSpec : ChangeSpec := { name := "fnExactReduceMatrix", fn := fun _ => fun
  | [d] => { results := [.lit (.bool true)], args := [d] }
  | _ => none }
def fnExactReduceMatrixRow : OpenClaim := { program := "ytefgklgacojljaa", sum := "fc673634951cbc0ca24da404d31570a3062d19abdd5d19439fd316241e64b646", func := "loop.example/g03109/laws.FnExactReduceMatrix", spec := "fnExactReduceMatrix", unfollowed := true, recurses := true, apart := false }
def FnExactReduceMatrixSaid : Prop := fnExactReduceMatrixRow.holds Try.pinned (OpenSpec.ofChange fnExactReduceMatrixSpec)

/-- ITS FALSE NEIGHBOUR: 'it returns false'. Refute it at one input. -/
def fnExactReduceMatrixWrong : ChangeSpec := { name := "fnExactReduceMatrix", fn := fun _ => fun
  | [d] => { results := [.lit (.bool false)], args := [d] }
  | _ => none }
def FnExactReduceMatrixWrongFalsely : Prop := fnExactReduceMatrixRow.holds Try.pinned (OpenSpec.ofChange fnExactReduceMatrixWrong)

/-- 'laws.FnExactSpaceOk': WHATEVER THE INPUT: true; the input reads as it did. -/
def fnExactSpaceOkSpec : ChangeSpec := { name := "fnExactSpaceOk", fn := fun _ => fun
  | [d] => { results := [.lit (.bool true)], args := [d] }
  | _ => none }
def fnExactSpaceOkRow : OpenClaim := { program := "ytefgklgacojljaa", sum := "fc673634951cbc0ca24da404d31570a3062d19abdd5d19439fd316241e64b646", func := "loop.example/g03109/laws.FnExactSpaceOk", spec := "fnExactSpaceOk", unfollowed := true, recurses := true, apart := false }
def FnExactSpaceOkSaid : Prop := fnExactSpaceOkRow.holds Try.pinned (OpenSpec.ofChange fnExactSpaceOkSpec)

/-- ITS FALSE NEIGHBOUR: 'it returns false'. Refute it at one input. -/
def fnExactSpaceOkWrong : ChangeSpec := { name := "fnExactSpaceOk", fn := fun _ => fun
  | [d] => { results := [.lit (.bool false)], args := [d] }
  | _ => none }
def FnExactSpaceOkWrongFalsely : Prop := fnExactSpaceOkRow.holds Try.pinned (OpenSpec.ofChange fnExactSpaceOkWrong)

/-- 'laws.FnExactSolveMatrix': WHATEVER THE INPUT: true; the input reads as it did. -/
def fnExactSolveMatrixSpec : ChangeSpec := { name := "fnExactSolveMatrix", fn := fun _ => fun
  | [d1, d2] => { results := [.lit (.bool true)], args := [d1, d2] }
  | _ => none }
def fnExactSolveMatrixRow : OpenClaim := { program := "ytefgklgacojljaa", sum := "fc673634951cbc0ca24da404d31570a3062d19abdd5d19439fd316241e64b646", func := "loop.example/g03109/laws.FnExactSolveMatrix", spec := "fnExactSolveMatrix", unfollowed := true, recurses := true, apart := false }
def FnExactSolveMatrixSaid : Prop := fnExactSolveMatrixRow.holds Try.pinned (OpenSpec.ofChange fnExactSolveMatrixSpec)

/-- ITS FALSE NEIGHBOUR: 'it returns false'. Refute it at one input. -/
def fnExactSolveMatrixWrong : ChangeSpec := { name := "fnExactSolveMatrix", fn := fun _ => fun
  | [d1, d2] => { results := [.lit (.bool false)], args := [d1, d2] }
  | _ => none }
def FnExactSolveMatrixWrongFalsely : Prop := fnExactSolveMatrixRow.holds Try.pinned (OpenSpec.ofChange fnExactSolveMatrixWrong)

/-- 'laws.FnExactSpanOf': WHATEVER THE INPUT: true; the input reads as it did. -/
def fnExactSpanOfSpec : ChangeSpec := { name := "fnExactSpanOf", fn := fun _ => fun
  | [d] => { results := [.lit (.bool true)], args := [d] }
  | _ => none }
def fnExactSpanOfRow : OpenClaim := { program := "ytefgklgacojljaa", sum := "fc673634951cbc0ca24da404d31570a3062d19abdd5d19439fd316241e64b646", func := "loop.example/g03109/laws.FnExactSpanOf", spec := "fnExactSpanOf", unfollowed := true, recurses := true, apart := false }
def FnExactSpanOfSaid : Prop := fnExactSpanOfRow.holds Try.pinned (OpenSpec.ofChange fnExactSpanOfSpec)

/-- ITS FALSE NEIGHBOUR: 'it returns false'. Refute it at one input. -/
def fnExactSpanOfWrong : ChangeSpec := { name := "fnExactSpanOf", fn := fun _ => fun
  | [d] => { results := [.lit (.bool false)], args := [d] }
  | _ => none }
def FnExactSpanOfWrongFalsely : Prop := fnExactSpanOfRow.holds Try.pinned (OpenSpec.ofChange fnExactSpanOfWrong)

/-- 'laws.FnExactSumSpaces': WHATEVER THE INPUT: true; the input reads as it did. -/
def fnExactSumSpacesSpec : ChangeSpec := { name := "fnExactSumSpaces", fn := fun _ => fun
  | [d1, d2] => { results := [.lit (.bool true)], args := [d1, d2] }
  | _ => none }
def fnExactSumSpacesRow : OpenClaim := { program := "ytefgklgacojljaa", sum := "fc673634951cbc0ca24da404d31570a3062d19abdd5d19439fd316241e64b646", func := "loop.example/g03109/laws.FnExactSumSpaces", spec := "fnExactSumSpaces", unfollowed := true, recurses := true, apart := false }
def FnExactSumSpacesSaid : Prop := fnExactSumSpacesRow.holds Try.pinned (OpenSpec.ofChange fnExactSumSpacesSpec)

/-- ITS FALSE NEIGHBOUR: 'it returns false'. Refute it at one input. -/
def fnExactSumSpacesWrong : ChangeSpec := { name := "fnExactSumSpaces", fn := fun _ => fun
  | [d1, d2] => { results := [.lit (.bool false)], args := [d1, d2] }
  | _ => none }
def FnExactSumSpacesWrongFalsely : Prop := fnExactSumSpacesRow.holds Try.pinned (OpenSpec.ofChange fnExactSumSpacesWrong)

/-- 'laws.FnExactInverseMatrix': WHATEVER THE INPUT: true; the input reads as it did. -/
def fnExactInverseMatrixSpec : ChangeSpec := { name := "fnExactInverseMatrix", fn := fun _ => fun
  | [d] => { results := [.lit (.bool true)], args := [d] }
  | _ => none }
def fnExactInverseMatrixRow : OpenClaim := { program := "ytefgklgacojljaa", sum := "fc673634951cbc0ca24da404d31570a3062d19abdd5d19439fd316241e64b646", func := "loop.example/g03109/laws.FnExactInverseMatrix", spec := "fnExactInverseMatrix", unfollowed := true, recurses := true, apart := false }
def FnExactInverseMatrixSaid : Prop := fnExactInverseMatrixRow.holds Try.pinned (OpenSpec.ofChange fnExactInverseMatrixSpec)

/-- ITS FALSE NEIGHBOUR: 'it returns false'. Refute it at one input. -/
def fnExactInverseMatrixWrong : ChangeSpec := { name := "fnExactInverseMatrix", fn := fun _ => fun
  | [d] => { results := [.lit (.bool false)], args := [d] }
  | _ => none }
def FnExactInverseMatrixWrongFalsely : Prop := fnExactInverseMatrixRow.holds Try.pinned (OpenSpec.ofChange fnExactInverseMatrixWrong)

/-- 'laws.FnExactKernelOf': WHATEVER THE INPUT: true; the input reads as it did. -/
def fnExactKernelOfSpec : ChangeSpec := { name := "fnExactKernelOf", fn := fun _ => fun
  | [d] => { results := [.lit (.bool true)], args := [d] }
  | _ => none }
def fnExactKernelOfRow : OpenClaim := { program := "ytefgklgacojljaa", sum := "fc673634951cbc0ca24da404d31570a3062d19abdd5d19439fd316241e64b646", func := "loop.example/g03109/laws.FnExactKernelOf", spec := "fnExactKernelOf", unfollowed := true, recurses := true, apart := false }
def FnExactKernelOfSaid : Prop := fnExactKernelOfRow.holds Try.pinned (OpenSpec.ofChange fnExactKernelOfSpec)

/-- ITS FALSE NEIGHBOUR: 'it returns false'. Refute it at one input. -/
def fnExactKernelOfWrong : ChangeSpec := { name := "fnExactKernelOf", fn := fun _ => fun
  | [d] => { results := [.lit (.bool false)], args := [d] }
  | _ => none }
def FnExactKernelOfWrongFalsely : Prop := fnExactKernelOfRow.holds Try.pinned (OpenSpec.ofChange fnExactKernelOfWrong)

/-- 'laws.FnExactIsSubspace': WHATEVER THE INPUT: true; the input reads as it did. -/
def fnExactIsSubspaceSpec : ChangeSpec := { name := "fnExactIsSubspace", fn := fun _ => fun
  | [d1, d2] => { results := [.lit (.bool true)], args := [d1, d2] }
  | _ => none }
def fnExactIsSubspaceRow : OpenClaim := { program := "ytefgklgacojljaa", sum := "fc673634951cbc0ca24da404d31570a3062d19abdd5d19439fd316241e64b646", func := "loop.example/g03109/laws.FnExactIsSubspace", spec := "fnExactIsSubspace", unfollowed := true, recurses := true, apart := false }
def FnExactIsSubspaceSaid : Prop := fnExactIsSubspaceRow.holds Try.pinned (OpenSpec.ofChange fnExactIsSubspaceSpec)

/-- ITS FALSE NEIGHBOUR: 'it returns false'. Refute it at one input. -/
def fnExactIsSubspaceWrong : ChangeSpec := { name := "fnExactIsSubspace", fn := fun _ => fun
  | [d1, d2] => { results := [.lit (.bool false)], args := [d1, d2] }
  | _ => none }
def FnExactIsSubspaceWrongFalsely : Prop := fnExactIsSubspaceRow.holds Try.pinned (OpenSpec.ofChange fnExactIsSubspaceWrong)

/-- 'laws.FnExactCoordinatesIn': WHATEVER THE INPUT: true; the input reads as it did. -/
def fnExactCoordinatesInSpec : ChangeSpec := { name := "fnExactCoordinatesIn", fn := fun _ => fun
  | [d1, d2] => { results := [.lit (.bool true)], args := [d1, d2] }
  | _ => none }
def fnExactCoordinatesInRow : OpenClaim := { program := "ytefgklgacojljaa", sum := "fc673634951cbc0ca24da404d31570a3062d19abdd5d19439fd316241e64b646", func := "loop.example/g03109/laws.FnExactCoordinatesIn", spec := "fnExactCoordinatesIn", unfollowed := true, recurses := true, apart := false }
def FnExactCoordinatesInSaid : Prop := fnExactCoordinatesInRow.holds Try.pinned (OpenSpec.ofChange fnExactCoordinatesInSpec)

/-- ITS FALSE NEIGHBOUR: 'it returns false'. Refute it at one input. -/
def fnExactCoordinatesInWrong : ChangeSpec := { name := "fnExactCoordinatesIn", fn := fun _ => fun
  | [d1, d2] => { results := [.lit (.bool false)], args := [d1, d2] }
  | _ => none }
def FnExactCoordinatesInWrongFalsely : Prop := fnExactCoordinatesInRow.holds Try.pinned (OpenSpec.ofChange fnExactCoordinatesInWrong)

/-- 'laws.FnExactMeetSpaces': WHATEVER THE INPUT: true; the input reads as it did. -/
def fnExactMeetSpacesSpec : ChangeSpec := { name := "fnExactMeetSpaces", fn := fun _ => fun
  | [d1, d2] => { results := [.lit (.bool true)], args := [d1, d2] }
  | _ => none }
def fnExactMeetSpacesRow : OpenClaim := { program := "ytefgklgacojljaa", sum := "fc673634951cbc0ca24da404d31570a3062d19abdd5d19439fd316241e64b646", func := "loop.example/g03109/laws.FnExactMeetSpaces", spec := "fnExactMeetSpaces", unfollowed := true, recurses := true, apart := false }
def FnExactMeetSpacesSaid : Prop := fnExactMeetSpacesRow.holds Try.pinned (OpenSpec.ofChange fnExactMeetSpacesSpec)

/-- ITS FALSE NEIGHBOUR: 'it returns false'. Refute it at one input. -/
def fnExactMeetSpacesWrong : ChangeSpec := { name := "fnExactMeetSpaces", fn := fun _ => fun
  | [d1, d2] => { results := [.lit (.bool false)], args := [d1, d2] }
  | _ => none }
def FnExactMeetSpacesWrongFalsely : Prop := fnExactMeetSpacesRow.holds Try.pinned (OpenSpec.ofChange fnExactMeetSpacesWrong)

/- THE SECOND FORM. 'bulk': how many values and letters a reading holds, each counted each time it is reached (what is shared counts as often as it is met; a slice's spare places count too). A statement '..UptoSaid' is the law's where the arguments, and the package variables that the reading takes, are together of bulk at most 1048576: NARROWER than '..Said'. Prove '..Said' where nothing that the law and all that it calls make is longer than what came in: it says more and counts as full. Else prove '..UptoSaid'. A law counts once. -/
mutual
def uptoBulk {H : Type} : DataW H → Nat
  | .lit (.string bytes) => bytes.length + 1
  | .lit _ => 1
  | .nil => 1
  | .ptr d => uptoBulk d + 1
  | .slice elems spare => uptoBulkAll elems + uptoBulkAll spare + 1
  | .agg parts => uptoBulkAll parts + 1
  | .iface _ d => uptoBulk d + 1
  | .map entries => uptoBulkEntries entries + 1
  | .held _ => 1
def uptoBulkAll {H : Type} : List (DataW H) → Nat
  | [] => 0
  | d :: r => uptoBulk d + uptoBulkAll r
def uptoBulkEntries {H : Type} : List (Lit × DataW H) → Nat
  | [] => 0
  | x :: r => uptoBulkEntry x + uptoBulkEntries r
def uptoBulkEntry {H : Type} : Lit × DataW H → Nat
  | (.string bytes, d) => bytes.length + uptoBulk d + 1
  | (_, d) => uptoBulk d + 1
 end
def uptoSmall : (H : Type) → List (DataW H) → Bool := fun _ ds => decide (uptoBulkAll ds ≤ 1048576)
def OpenSpec.upto (s : _root_.Go.ChangeSpec) : _root_.Go.OpenSpec := { _root_.Go.OpenSpec.ofChange s with cond := some uptoSmall }

/-- 'laws.FnExactDeterminantOf', WHERE WHAT IT READS IS OF BULK AT MOST 1048576: true; the input reads as it did. -/
def fnExactDeterminantOfUptoRow : OpenClaim := { program := "ytefgklgacojljaa", sum := "fc673634951cbc0ca24da404d31570a3062d19abdd5d19439fd316241e64b646", func := "loop.example/g03109/laws.FnExactDeterminantOf", spec := "fnExactDeterminantOf", unfollowed := true, recurses := true, apart := false, narrowed := true }
def FnExactDeterminantOfUptoSaid : Prop := fnExactDeterminantOfUptoRow.holds Try.pinned (OpenSpec.upto fnExactDeterminantOfSpec)

/-- 'laws.FnExactRankOf', WHERE WHAT IT READS IS OF BULK AT MOST 1048576: true; the input reads as it did. -/
def fnExactRankOfUptoRow : OpenClaim := { program := "ytefgklgacojljaa", sum := "fc673634951cbc0ca24da404d31570a3062d19abdd5d19439fd316241e64b646", func := "loop.example/g03109/laws.FnExactRankOf", spec := "fnExactRankOf", unfollowed := true, recurses := true, apart := false, narrowed := true }
def FnExactRankOfUptoSaid : Prop := fnExactRankOfUptoRow.holds Try.pinned (OpenSpec.upto fnExactRankOfSpec)

/-- 'laws.FnExactReduceMatrix', WHERE WHAT IT READS IS OF BULK AT MOST 1048576: true; the input reads as it did. -/
def fnExactReduceMatrixUptoRow : OpenClaim := { program := "ytefgklgacojljaa", sum := "fc673634951cbc0ca24da404d31570a3062d19abdd5d19439fd316241e64b646", func := "loop.example/g03109/laws.FnExactReduceMatrix", spec := "fnExactReduceMatrix", unfollowed := true, recurses := true, apart := false, narrowed := true }
def FnExactReduceMatrixUptoSaid : Prop := fnExactReduceMatrixUptoRow.holds Try.pinned (OpenSpec.upto fnExactReduceMatrixSpec)

/-- 'laws.FnExactSpaceOk', WHERE WHAT IT READS IS OF BULK AT MOST 1048576: true; the input reads as it did. -/
def fnExactSpaceOkUptoRow : OpenClaim := { program := "ytefgklgacojljaa", sum := "fc673634951cbc0ca24da404d31570a3062d19abdd5d19439fd316241e64b646", func := "loop.example/g03109/laws.FnExactSpaceOk", spec := "fnExactSpaceOk", unfollowed := true, recurses := true, apart := false, narrowed := true }
def FnExactSpaceOkUptoSaid : Prop := fnExactSpaceOkUptoRow.holds Try.pinned (OpenSpec.upto fnExactSpaceOkSpec)

/-- 'laws.FnExactSolveMatrix', WHERE WHAT IT READS IS OF BULK AT MOST 1048576: true; the input reads as it did. -/
def fnExactSolveMatrixUptoRow : OpenClaim := { program := "ytefgklgacojljaa", sum := "fc673634951cbc0ca24da404d31570a3062d19abdd5d19439fd316241e64b646", func := "loop.example/g03109/laws.FnExactSolveMatrix", spec := "fnExactSolveMatrix", unfollowed := true, recurses := true, apart := false, narrowed := true }
def FnExactSolveMatrixUptoSaid : Prop := fnExactSolveMatrixUptoRow.holds Try.pinned (OpenSpec.upto fnExactSolveMatrixSpec)

/-- 'laws.FnExactSpanOf', WHERE WHAT IT READS IS OF BULK AT MOST 1048576: true; the input reads as it did. -/
def fnExactSpanOfUptoRow : OpenClaim := { program := "ytefgklgacojljaa", sum := "fc673634951cbc0ca24da404d31570a3062d19abdd5d19439fd316241e64b646", func := "loop.example/g03109/laws.FnExactSpanOf", spec := "fnExactSpanOf", unfollowed := true, recurses := true, apart := false, narrowed := true }
def FnExactSpanOfUptoSaid : Prop := fnExactSpanOfUptoRow.holds Try.pinned (OpenSpec.upto fnExactSpanOfSpec)

/-- 'laws.FnExactSumSpaces', WHERE WHAT IT READS IS OF BULK AT MOST 1048576: true; the input reads as it did. -/
def fnExactSumSpacesUptoRow : OpenClaim := { program := "ytefgklgacojljaa", sum := "fc673634951cbc0ca24da404d31570a3062d19abdd5d19439fd316241e64b646", func := "loop.example/g03109/laws.FnExactSumSpaces", spec := "fnExactSumSpaces", unfollowed := true, recurses := true, apart := false, narrowed := true }
def FnExactSumSpacesUptoSaid : Prop := fnExactSumSpacesUptoRow.holds Try.pinned (OpenSpec.upto fnExactSumSpacesSpec)

/-- 'laws.FnExactInverseMatrix', WHERE WHAT IT READS IS OF BULK AT MOST 1048576: true; the input reads as it did. -/
def fnExactInverseMatrixUptoRow : OpenClaim := { program := "ytefgklgacojljaa", sum := "fc673634951cbc0ca24da404d31570a3062d19abdd5d19439fd316241e64b646", func := "loop.example/g03109/laws.FnExactInverseMatrix", spec := "fnExactInverseMatrix", unfollowed := true, recurses := true, apart := false, narrowed := true }
def FnExactInverseMatrixUptoSaid : Prop := fnExactInverseMatrixUptoRow.holds Try.pinned (OpenSpec.upto fnExactInverseMatrixSpec)

/-- 'laws.FnExactKernelOf', WHERE WHAT IT READS IS OF BULK AT MOST 1048576: true; the input reads as it did. -/
def fnExactKernelOfUptoRow : OpenClaim := { program := "ytefgklgacojljaa", sum := "fc673634951cbc0ca24da404d31570a3062d19abdd5d19439fd316241e64b646", func := "loop.example/g03109/laws.FnExactKernelOf", spec := "fnExactKernelOf", unfollowed := true, recurses := true, apart := false, narrowed := true }
def FnExactKernelOfUptoSaid : Prop := fnExactKernelOfUptoRow.holds Try.pinned (OpenSpec.upto fnExactKernelOfSpec)

/-- 'laws.FnExactIsSubspace', WHERE WHAT IT READS IS OF BULK AT MOST 1048576: true; the input reads as it did. -/
def fnExactIsSubspaceUptoRow : OpenClaim := { program := "ytefgklgacojljaa", sum := "fc673634951cbc0ca24da404d31570a3062d19abdd5d19439fd316241e64b646", func := "loop.example/g03109/laws.FnExactIsSubspace", spec := "fnExactIsSubspace", unfollowed := true, recurses := true, apart := false, narrowed := true }
def FnExactIsSubspaceUptoSaid : Prop := fnExactIsSubspaceUptoRow.holds Try.pinned (OpenSpec.upto fnExactIsSubspaceSpec)

/-- 'laws.FnExactCoordinatesIn', WHERE WHAT IT READS IS OF BULK AT MOST 1048576: true; the input reads as it did. -/
def fnExactCoordinatesInUptoRow : OpenClaim := { program := "ytefgklgacojljaa", sum := "fc673634951cbc0ca24da404d31570a3062d19abdd5d19439fd316241e64b646", func := "loop.example/g03109/laws.FnExactCoordinatesIn", spec := "fnExactCoordinatesIn", unfollowed := true, recurses := true, apart := false, narrowed := true }
def FnExactCoordinatesInUptoSaid : Prop := fnExactCoordinatesInUptoRow.holds Try.pinned (OpenSpec.upto fnExactCoordinatesInSpec)

/-- 'laws.FnExactMeetSpaces', WHERE WHAT IT READS IS OF BULK AT MOST 1048576: true; the input reads as it did. -/
def fnExactMeetSpacesUptoRow : OpenClaim := { program := "ytefgklgacojljaa", sum := "fc673634951cbc0ca24da404d31570a3062d19abdd5d19439fd316241e64b646", func := "loop.example/g03109/laws.FnExactMeetSpaces", spec := "fnExactMeetSpaces", unfollowed := true, recurses := true, apart := false, narrowed := true }
def FnExactMeetSpacesUptoSaid : Prop := fnExactMeetSpacesUptoRow.holds Try.pinned (OpenSpec.upto fnExactMeetSpacesSpec)

end Rows
end Go.Proofs.Ytefgklgacojljaa
