/-
  No cell of these rows narrows 'for every input' (looked for: loops, veiled, ifaces, maps, wideKeys, modest, calm, conditions, laid).
  DERIVED. THE GIVEN ROWS OF THIS SEAT. 12 by the template 'for every input the law returns true; each argument reads behind the call as it read before'; 0 by the template 'total and deterministic' (their statements: YtgpejighomohlaaTotals.lean).
  GIVEN WITH THE SEED: the statements are not yours to turn. If you find one false, say at which input.
  Laid BY PROGRAM, IN A SANDBOX (cutbox-rows.mjs): the forced cells as the released guide's own fill.sh prints them over the translation 9e114d66f0e8b74a… (all of the seat's roots in one cut). By AI agents, Wed Nov 11 2026. No macro, syntax, notation, axiom, sorry.
-/
import Derived.Test.YtgpejighomohlaaChecked
import GoSem.Claim
import GoSem.ClaimJoined
import GoSem.ClaimMapViews
import Derived.JoinedTies
import Derived.KernelRfl
namespace Go.Proofs.Ytgpejighomohlaa
/- THE CELL 'sum', in the pinned program and in every row, IS THE sha256 OF THE DUMP (.gsa) THAT YtgpejighomohlaaProg.lean LOADS. Nothing in Lean hashes anything: it is a label: what it is worth is what the hold of that sum in a sandbox is worth. -/
noncomputable def Try.pinned : Pinned := { name := "ytgpejighomohlaa", sum := "9e114d66f0e8b74abe569c3da1b1613508780158b5723b825d88cbd524392be5", checked := Try.checked }
namespace Rows
def none {H : Type} : Left H := { results := [], args := [] }

/-- 'laws.FnExactCochainOk': WHATEVER THE INPUT: true; the input reads as it did. -/
def fnExactCochainOkSpec : ChangeSpec := { name := "fnExactCochainOk", fn := fun _ => fun
  | [d1, d2, d3] => { results := [.lit (.bool true)], args := [d1, d2, d3] }
  | _ => none }
def fnExactCochainOkRow : OpenClaim := { program := "ytgpejighomohlaa", sum := "9e114d66f0e8b74abe569c3da1b1613508780158b5723b825d88cbd524392be5", func := "loop.example/g03109/laws.FnExactCochainOk", spec := "fnExactCochainOk", unfollowed := true, recurses := true, apart := false }
def FnExactCochainOkSaid : Prop := fnExactCochainOkRow.holds Try.pinned (OpenSpec.ofChange fnExactCochainOkSpec)

/-- ITS FALSE NEIGHBOUR: 'it returns false'. Refute it at one input. -/
def fnExactCochainOkWrong : ChangeSpec := { name := "fnExactCochainOk", fn := fun _ => fun
  | [d1, d2, d3] => { results := [.lit (.bool false)], args := [d1, d2, d3] }
  | _ => none }
def FnExactCochainOkWrongFalsely : Prop := fnExactCochainOkRow.holds Try.pinned (OpenSpec.ofChange fnExactCochainOkWrong)

/-- 'laws.FnExactContractBy': WHATEVER THE INPUT: true; the input reads as it did. -/
def fnExactContractBySpec : ChangeSpec := { name := "fnExactContractBy", fn := fun _ => fun
  | [d1, d2, d3, d4] => { results := [.lit (.bool true)], args := [d1, d2, d3, d4] }
  | _ => none }
def fnExactContractByRow : OpenClaim := { program := "ytgpejighomohlaa", sum := "9e114d66f0e8b74abe569c3da1b1613508780158b5723b825d88cbd524392be5", func := "loop.example/g03109/laws.FnExactContractBy", spec := "fnExactContractBy", unfollowed := true, recurses := true, apart := false }
def FnExactContractBySaid : Prop := fnExactContractByRow.holds Try.pinned (OpenSpec.ofChange fnExactContractBySpec)

/-- ITS FALSE NEIGHBOUR: 'it returns false'. Refute it at one input. -/
def fnExactContractByWrong : ChangeSpec := { name := "fnExactContractBy", fn := fun _ => fun
  | [d1, d2, d3, d4] => { results := [.lit (.bool false)], args := [d1, d2, d3, d4] }
  | _ => none }
def FnExactContractByWrongFalsely : Prop := fnExactContractByRow.holds Try.pinned (OpenSpec.ofChange fnExactContractByWrong)

/-- 'laws.FnExactIsClosed': WHATEVER THE INPUT: true; the input reads as it did. -/
def fnExactIsClosedSpec : ChangeSpec := { name := "fnExactIsClosed", fn := fun _ => fun
  | [d1, d2, d3] => { results := [.lit (.bool true)], args := [d1, d2, d3] }
  | _ => none }
def fnExactIsClosedRow : OpenClaim := { program := "ytgpejighomohlaa", sum := "9e114d66f0e8b74abe569c3da1b1613508780158b5723b825d88cbd524392be5", func := "loop.example/g03109/laws.FnExactIsClosed", spec := "fnExactIsClosed", unfollowed := true, recurses := true, apart := false }
def FnExactIsClosedSaid : Prop := fnExactIsClosedRow.holds Try.pinned (OpenSpec.ofChange fnExactIsClosedSpec)

/-- ITS FALSE NEIGHBOUR: 'it returns false'. Refute it at one input. -/
def fnExactIsClosedWrong : ChangeSpec := { name := "fnExactIsClosed", fn := fun _ => fun
  | [d1, d2, d3] => { results := [.lit (.bool false)], args := [d1, d2, d3] }
  | _ => none }
def FnExactIsClosedWrongFalsely : Prop := fnExactIsClosedRow.holds Try.pinned (OpenSpec.ofChange fnExactIsClosedWrong)

/-- 'laws.FnExactWedgeOf': WHATEVER THE INPUT: true; the input reads as it did. -/
def fnExactWedgeOfSpec : ChangeSpec := { name := "fnExactWedgeOf", fn := fun _ => fun
  | [d1, d2, d3, d4, d5] => { results := [.lit (.bool true)], args := [d1, d2, d3, d4, d5] }
  | _ => none }
def fnExactWedgeOfRow : OpenClaim := { program := "ytgpejighomohlaa", sum := "9e114d66f0e8b74abe569c3da1b1613508780158b5723b825d88cbd524392be5", func := "loop.example/g03109/laws.FnExactWedgeOf", spec := "fnExactWedgeOf", unfollowed := true, recurses := true, apart := false }
def FnExactWedgeOfSaid : Prop := fnExactWedgeOfRow.holds Try.pinned (OpenSpec.ofChange fnExactWedgeOfSpec)

/-- ITS FALSE NEIGHBOUR: 'it returns false'. Refute it at one input. -/
def fnExactWedgeOfWrong : ChangeSpec := { name := "fnExactWedgeOf", fn := fun _ => fun
  | [d1, d2, d3, d4, d5] => { results := [.lit (.bool false)], args := [d1, d2, d3, d4, d5] }
  | _ => none }
def FnExactWedgeOfWrongFalsely : Prop := fnExactWedgeOfRow.holds Try.pinned (OpenSpec.ofChange fnExactWedgeOfWrong)

/-- 'laws.FnExactAlongOf': WHATEVER THE INPUT: true; the input reads as it did. -/
def fnExactAlongOfSpec : ChangeSpec := { name := "fnExactAlongOf", fn := fun _ => fun
  | [d1, d2, d3, d4] => { results := [.lit (.bool true)], args := [d1, d2, d3, d4] }
  | _ => none }
def fnExactAlongOfRow : OpenClaim := { program := "ytgpejighomohlaa", sum := "9e114d66f0e8b74abe569c3da1b1613508780158b5723b825d88cbd524392be5", func := "loop.example/g03109/laws.FnExactAlongOf", spec := "fnExactAlongOf", unfollowed := true, recurses := true, apart := false }
def FnExactAlongOfSaid : Prop := fnExactAlongOfRow.holds Try.pinned (OpenSpec.ofChange fnExactAlongOfSpec)

/-- ITS FALSE NEIGHBOUR: 'it returns false'. Refute it at one input. -/
def fnExactAlongOfWrong : ChangeSpec := { name := "fnExactAlongOf", fn := fun _ => fun
  | [d1, d2, d3, d4] => { results := [.lit (.bool false)], args := [d1, d2, d3, d4] }
  | _ => none }
def FnExactAlongOfWrongFalsely : Prop := fnExactAlongOfRow.holds Try.pinned (OpenSpec.ofChange fnExactAlongOfWrong)

/-- 'laws.FnExactDifferentialOf': WHATEVER THE INPUT: true; the input reads as it did. -/
def fnExactDifferentialOfSpec : ChangeSpec := { name := "fnExactDifferentialOf", fn := fun _ => fun
  | [d1, d2, d3] => { results := [.lit (.bool true)], args := [d1, d2, d3] }
  | _ => none }
def fnExactDifferentialOfRow : OpenClaim := { program := "ytgpejighomohlaa", sum := "9e114d66f0e8b74abe569c3da1b1613508780158b5723b825d88cbd524392be5", func := "loop.example/g03109/laws.FnExactDifferentialOf", spec := "fnExactDifferentialOf", unfollowed := true, recurses := true, apart := false }
def FnExactDifferentialOfSaid : Prop := fnExactDifferentialOfRow.holds Try.pinned (OpenSpec.ofChange fnExactDifferentialOfSpec)

/-- ITS FALSE NEIGHBOUR: 'it returns false'. Refute it at one input. -/
def fnExactDifferentialOfWrong : ChangeSpec := { name := "fnExactDifferentialOf", fn := fun _ => fun
  | [d1, d2, d3] => { results := [.lit (.bool false)], args := [d1, d2, d3] }
  | _ => none }
def FnExactDifferentialOfWrongFalsely : Prop := fnExactDifferentialOfRow.holds Try.pinned (OpenSpec.ofChange fnExactDifferentialOfWrong)

/-- 'laws.FnExactBettiOf': WHATEVER THE INPUT: true; the input reads as it did. -/
def fnExactBettiOfSpec : ChangeSpec := { name := "fnExactBettiOf", fn := fun _ => fun
  | [d] => { results := [.lit (.bool true)], args := [d] }
  | _ => none }
def fnExactBettiOfRow : OpenClaim := { program := "ytgpejighomohlaa", sum := "9e114d66f0e8b74abe569c3da1b1613508780158b5723b825d88cbd524392be5", func := "loop.example/g03109/laws.FnExactBettiOf", spec := "fnExactBettiOf", unfollowed := true, recurses := true, apart := false }
def FnExactBettiOfSaid : Prop := fnExactBettiOfRow.holds Try.pinned (OpenSpec.ofChange fnExactBettiOfSpec)

/-- ITS FALSE NEIGHBOUR: 'it returns false'. Refute it at one input. -/
def fnExactBettiOfWrong : ChangeSpec := { name := "fnExactBettiOf", fn := fun _ => fun
  | [d] => { results := [.lit (.bool false)], args := [d] }
  | _ => none }
def FnExactBettiOfWrongFalsely : Prop := fnExactBettiOfRow.holds Try.pinned (OpenSpec.ofChange fnExactBettiOfWrong)

/-- 'laws.FnExactPrimitiveOf': WHATEVER THE INPUT: true; the input reads as it did. -/
def fnExactPrimitiveOfSpec : ChangeSpec := { name := "fnExactPrimitiveOf", fn := fun _ => fun
  | [d1, d2, d3] => { results := [.lit (.bool true)], args := [d1, d2, d3] }
  | _ => none }
def fnExactPrimitiveOfRow : OpenClaim := { program := "ytgpejighomohlaa", sum := "9e114d66f0e8b74abe569c3da1b1613508780158b5723b825d88cbd524392be5", func := "loop.example/g03109/laws.FnExactPrimitiveOf", spec := "fnExactPrimitiveOf", unfollowed := true, recurses := true, apart := false }
def FnExactPrimitiveOfSaid : Prop := fnExactPrimitiveOfRow.holds Try.pinned (OpenSpec.ofChange fnExactPrimitiveOfSpec)

/-- ITS FALSE NEIGHBOUR: 'it returns false'. Refute it at one input. -/
def fnExactPrimitiveOfWrong : ChangeSpec := { name := "fnExactPrimitiveOf", fn := fun _ => fun
  | [d1, d2, d3] => { results := [.lit (.bool false)], args := [d1, d2, d3] }
  | _ => none }
def FnExactPrimitiveOfWrongFalsely : Prop := fnExactPrimitiveOfRow.holds Try.pinned (OpenSpec.ofChange fnExactPrimitiveOfWrong)

/-- 'laws.FnExactCohomologyOf': WHATEVER THE INPUT: true; the input reads as it did. -/
def fnExactCohomologyOfSpec : ChangeSpec := { name := "fnExactCohomologyOf", fn := fun _ => fun
  | [d1, d2] => { results := [.lit (.bool true)], args := [d1, d2] }
  | _ => none }
def fnExactCohomologyOfRow : OpenClaim := { program := "ytgpejighomohlaa", sum := "9e114d66f0e8b74abe569c3da1b1613508780158b5723b825d88cbd524392be5", func := "loop.example/g03109/laws.FnExactCohomologyOf", spec := "fnExactCohomologyOf", unfollowed := true, recurses := true, apart := false }
def FnExactCohomologyOfSaid : Prop := fnExactCohomologyOfRow.holds Try.pinned (OpenSpec.ofChange fnExactCohomologyOfSpec)

/-- ITS FALSE NEIGHBOUR: 'it returns false'. Refute it at one input. -/
def fnExactCohomologyOfWrong : ChangeSpec := { name := "fnExactCohomologyOf", fn := fun _ => fun
  | [d1, d2] => { results := [.lit (.bool false)], args := [d1, d2] }
  | _ => none }
def FnExactCohomologyOfWrongFalsely : Prop := fnExactCohomologyOfRow.holds Try.pinned (OpenSpec.ofChange fnExactCohomologyOfWrong)

/-- 'laws.FnExactInverseMatrix': WHATEVER THE INPUT: true; the input reads as it did. -/
def fnExactInverseMatrixSpec : ChangeSpec := { name := "fnExactInverseMatrix", fn := fun _ => fun
  | [d] => { results := [.lit (.bool true)], args := [d] }
  | _ => none }
def fnExactInverseMatrixRow : OpenClaim := { program := "ytgpejighomohlaa", sum := "9e114d66f0e8b74abe569c3da1b1613508780158b5723b825d88cbd524392be5", func := "loop.example/g03109/laws.FnExactInverseMatrix", spec := "fnExactInverseMatrix", unfollowed := true, recurses := true, apart := false }
def FnExactInverseMatrixSaid : Prop := fnExactInverseMatrixRow.holds Try.pinned (OpenSpec.ofChange fnExactInverseMatrixSpec)

/-- ITS FALSE NEIGHBOUR: 'it returns false'. Refute it at one input. -/
def fnExactInverseMatrixWrong : ChangeSpec := { name := "fnExactInverseMatrix", fn := fun _ => fun
  | [d] => { results := [.lit (.bool false)], args := [d] }
  | _ => none }
def FnExactInverseMatrixWrongFalsely : Prop := fnExactInverseMatrixRow.holds Try.pinned (OpenSpec.ofChange fnExactInverseMatrixWrong)

/-- 'laws.FnSolved': WHATEVER THE INPUT: true; the input reads as it did. -/
def fnSolvedSpec : ChangeSpec := { name := "fnSolved", fn := fun _ => fun
  | [d] => { results := [.lit (.bool true)], args := [d] }
  | _ => none }
def fnSolvedRow : OpenClaim := { program := "ytgpejighomohlaa", sum := "9e114d66f0e8b74abe569c3da1b1613508780158b5723b825d88cbd524392be5", func := "loop.example/g03109/laws.FnSolved", spec := "fnSolved", unfollowed := true, recurses := true, apart := false }
def FnSolvedSaid : Prop := fnSolvedRow.holds Try.pinned (OpenSpec.ofChange fnSolvedSpec)

/-- ITS FALSE NEIGHBOUR: 'it returns false'. Refute it at one input. -/
def fnSolvedWrong : ChangeSpec := { name := "fnSolved", fn := fun _ => fun
  | [d] => { results := [.lit (.bool false)], args := [d] }
  | _ => none }
def FnSolvedWrongFalsely : Prop := fnSolvedRow.holds Try.pinned (OpenSpec.ofChange fnSolvedWrong)

/-- 'laws.FnNilpotent': WHATEVER THE INPUT: true; the input reads as it did. -/
def fnNilpotentSpec : ChangeSpec := { name := "fnNilpotent", fn := fun _ => fun
  | [d] => { results := [.lit (.bool true)], args := [d] }
  | _ => none }
def fnNilpotentRow : OpenClaim := { program := "ytgpejighomohlaa", sum := "9e114d66f0e8b74abe569c3da1b1613508780158b5723b825d88cbd524392be5", func := "loop.example/g03109/laws.FnNilpotent", spec := "fnNilpotent", unfollowed := true, recurses := true, apart := false }
def FnNilpotentSaid : Prop := fnNilpotentRow.holds Try.pinned (OpenSpec.ofChange fnNilpotentSpec)

/-- ITS FALSE NEIGHBOUR: 'it returns false'. Refute it at one input. -/
def fnNilpotentWrong : ChangeSpec := { name := "fnNilpotent", fn := fun _ => fun
  | [d] => { results := [.lit (.bool false)], args := [d] }
  | _ => none }
def FnNilpotentWrongFalsely : Prop := fnNilpotentRow.holds Try.pinned (OpenSpec.ofChange fnNilpotentWrong)

/- THE SECOND FORM. 'bulk': how many values and letters a reading holds, each counted each time it is reached (what is shared counts as often as it is met; a slice's spare places count too). A statement '..UptoSaid' is the law's where the arguments, and the package variables that the reading takes, are together of bulk at most 1048576: NARROWER than '..Said'. Prove '..Said' where nothing that the law and all that it calls make is longer than what came in: it says more and counts as full. Else prove '..UptoSaid'. A law counts once. -/
mutual
def uptoBulk {H : Type} : DataW H → Nat
  | .lit (.string bytes) => bytes.length + 1
  | .lit _ => 1
  | .nil => 1
  | .ptr d => uptoBulk d + 1
  | .slice elems spare => uptoBulkAll elems + uptoBulkAll spare + 1
  | .agg parts => uptoBulkAll parts + 1
  | .iface _ d => uptoBulk d + 1
  | .map entries => uptoBulkEntries entries + 1
  | .held _ => 1
def uptoBulkAll {H : Type} : List (DataW H) → Nat
  | [] => 0
  | d :: r => uptoBulk d + uptoBulkAll r
def uptoBulkEntries {H : Type} : List (Lit × DataW H) → Nat
  | [] => 0
  | x :: r => uptoBulkEntry x + uptoBulkEntries r
def uptoBulkEntry {H : Type} : Lit × DataW H → Nat
  | (.string bytes, d) => bytes.length + uptoBulk d + 1
  | (_, d) => uptoBulk d + 1
 end
def uptoSmall : (H : Type) → List (DataW H) → Bool := fun _ ds => decide (uptoBulkAll ds ≤ 1048576)
def OpenSpec.upto (s : _root_.Go.ChangeSpec) : _root_.Go.OpenSpec := { _root_.Go.OpenSpec.ofChange s with cond := some uptoSmall }

/-- 'laws.FnExactCochainOk', WHERE WHAT IT READS IS OF BULK AT MOST 1048576: true; the input reads as it did. -/
def fnExactCochainOkUptoRow : OpenClaim := { program := "ytgpejighomohlaa", sum := "9e114d66f0e8b74abe569c3da1b1613508780158b5723b825d88cbd524392be5", func := "loop.example/g03109/laws.FnExactCochainOk", spec := "fnExactCochainOk", unfollowed := true, recurses := true, apart := false, narrowed := true }
def FnExactCochainOkUptoSaid : Prop := fnExactCochainOkUptoRow.holds Try.pinned (OpenSpec.upto fnExactCochainOkSpec)

/-- 'laws.FnExactContractBy', WHERE WHAT IT READS IS OF BULK AT MOST 1048576: true; the input reads as it did. -/
def fnExactContractByUptoRow : OpenClaim := { program := "ytgpejighomohlaa", sum := "9e114d66f0e8b74abe569c3da1b1613508780158b5723b825d88cbd524392be5", func := "loop.example/g03109/laws.FnExactContractBy", spec := "fnExactContractBy", unfollowed := true, recurses := true, apart := false, narrowed := true }
def FnExactContractByUptoSaid : Prop := fnExactContractByUptoRow.holds Try.pinned (OpenSpec.upto fnExactContractBySpec)

/-- 'laws.FnExactIsClosed', WHERE WHAT IT READS IS OF BULK AT MOST 1048576: true; the input reads as it did. -/
def fnExactIsClosedUptoRow : OpenClaim := { program := "ytgpejighomohlaa", sum := "9e114d66f0e8b74abe569c3da1b1613508780158b5723b825d88cbd524392be5", func := "loop.example/g03109/laws.FnExactIsClosed", spec := "fnExactIsClosed", unfollowed := true, recurses := true, apart := false, narrowed := true }
def FnExactIsClosedUptoSaid : Prop := fnExactIsClosedUptoRow.holds Try.pinned (OpenSpec.upto fnExactIsClosedSpec)

/-- 'laws.FnExactWedgeOf', WHERE WHAT IT READS IS OF BULK AT MOST 1048576: true; the input reads as it did. -/
def fnExactWedgeOfUptoRow : OpenClaim := { program := "ytgpejighomohlaa", sum := "9e114d66f0e8b74abe569c3da1b1613508780158b5723b825d88cbd524392be5", func := "loop.example/g03109/laws.FnExactWedgeOf", spec := "fnExactWedgeOf", unfollowed := true, recurses := true, apart := false, narrowed := true }
def FnExactWedgeOfUptoSaid : Prop := fnExactWedgeOfUptoRow.holds Try.pinned (OpenSpec.upto fnExactWedgeOfSpec)

/-- 'laws.FnExactAlongOf', WHERE WHAT IT READS IS OF BULK AT MOST 1048576: true; the input reads as it did. -/
def fnExactAlongOfUptoRow : OpenClaim := { program := "ytgpejighomohlaa", sum := "9e114d66f0e8b74abe569c3da1b1613508780158b5723b825d88cbd524392be5", func := "loop.example/g03109/laws.FnExactAlongOf", spec := "fnExactAlongOf", unfollowed := true, recurses := true, apart := false, narrowed := true }
def FnExactAlongOfUptoSaid : Prop := fnExactAlongOfUptoRow.holds Try.pinned (OpenSpec.upto fnExactAlongOfSpec)

/-- 'laws.FnExactDifferentialOf', WHERE WHAT IT READS IS OF BULK AT MOST 1048576: true; the input reads as it did. -/
def fnExactDifferentialOfUptoRow : OpenClaim := { program := "ytgpejighomohlaa", sum := "9e114d66f0e8b74abe569c3da1b1613508780158b5723b825d88cbd524392be5", func := "loop.example/g03109/laws.FnExactDifferentialOf", spec := "fnExactDifferentialOf", unfollowed := true, recurses := true, apart := false, narrowed := true }
def FnExactDifferentialOfUptoSaid : Prop := fnExactDifferentialOfUptoRow.holds Try.pinned (OpenSpec.upto fnExactDifferentialOfSpec)

/-- 'laws.FnExactBettiOf', WHERE WHAT IT READS IS OF BULK AT MOST 1048576: true; the input reads as it did. -/
def fnExactBettiOfUptoRow : OpenClaim := { program := "ytgpejighomohlaa", sum := "9e114d66f0e8b74abe569c3da1b1613508780158b5723b825d88cbd524392be5", func := "loop.example/g03109/laws.FnExactBettiOf", spec := "fnExactBettiOf", unfollowed := true, recurses := true, apart := false, narrowed := true }
def FnExactBettiOfUptoSaid : Prop := fnExactBettiOfUptoRow.holds Try.pinned (OpenSpec.upto fnExactBettiOfSpec)

/-- 'laws.FnExactPrimitiveOf', WHERE WHAT IT READS IS OF BULK AT MOST 1048576: true; the input reads as it did. -/
def fnExactPrimitiveOfUptoRow : OpenClaim := { program := "ytgpejighomohlaa", sum := "9e114d66f0e8b74abe569c3da1b1613508780158b5723b825d88cbd524392be5", func := "loop.example/g03109/laws.FnExactPrimitiveOf", spec := "fnExactPrimitiveOf", unfollowed := true, recurses := true, apart := false, narrowed := true }
def FnExactPrimitiveOfUptoSaid : Prop := fnExactPrimitiveOfUptoRow.holds Try.pinned (OpenSpec.upto fnExactPrimitiveOfSpec)

/-- 'laws.FnExactCohomologyOf', WHERE WHAT IT READS IS OF BULK AT MOST 1048576: true; the input reads as it did. -/
def fnExactCohomologyOfUptoRow : OpenClaim := { program := "ytgpejighomohlaa", sum := "9e114d66f0e8b74abe569c3da1b1613508780158b5723b825d88cbd524392be5", func := "loop.example/g03109/laws.FnExactCohomologyOf", spec := "fnExactCohomologyOf", unfollowed := true, recurses := true, apart := false, narrowed := true }
def FnExactCohomologyOfUptoSaid : Prop := fnExactCohomologyOfUptoRow.holds Try.pinned (OpenSpec.upto fnExactCohomologyOfSpec)

/-- 'laws.FnExactInverseMatrix', WHERE WHAT IT READS IS OF BULK AT MOST 1048576: true; the input reads as it did. -/
def fnExactInverseMatrixUptoRow : OpenClaim := { program := "ytgpejighomohlaa", sum := "9e114d66f0e8b74abe569c3da1b1613508780158b5723b825d88cbd524392be5", func := "loop.example/g03109/laws.FnExactInverseMatrix", spec := "fnExactInverseMatrix", unfollowed := true, recurses := true, apart := false, narrowed := true }
def FnExactInverseMatrixUptoSaid : Prop := fnExactInverseMatrixUptoRow.holds Try.pinned (OpenSpec.upto fnExactInverseMatrixSpec)

/-- 'laws.FnSolved', WHERE WHAT IT READS IS OF BULK AT MOST 1048576: true; the input reads as it did. -/
def fnSolvedUptoRow : OpenClaim := { program := "ytgpejighomohlaa", sum := "9e114d66f0e8b74abe569c3da1b1613508780158b5723b825d88cbd524392be5", func := "loop.example/g03109/laws.FnSolved", spec := "fnSolved", unfollowed := true, recurses := true, apart := false, narrowed := true }
def FnSolvedUptoSaid : Prop := fnSolvedUptoRow.holds Try.pinned (OpenSpec.upto fnSolvedSpec)

/-- 'laws.FnNilpotent', WHERE WHAT IT READS IS OF BULK AT MOST 1048576: true; the input reads as it did. -/
def fnNilpotentUptoRow : OpenClaim := { program := "ytgpejighomohlaa", sum := "9e114d66f0e8b74abe569c3da1b1613508780158b5723b825d88cbd524392be5", func := "loop.example/g03109/laws.FnNilpotent", spec := "fnNilpotent", unfollowed := true, recurses := true, apart := false, narrowed := true }
def FnNilpotentUptoSaid : Prop := fnNilpotentUptoRow.holds Try.pinned (OpenSpec.upto fnNilpotentSpec)

end Rows
end Go.Proofs.Ytgpejighomohlaa
