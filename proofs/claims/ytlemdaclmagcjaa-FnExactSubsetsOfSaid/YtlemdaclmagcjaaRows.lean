/-
  No cell of these rows narrows 'for every input' (looked for: loops, veiled, ifaces, maps, wideKeys, modest, calm, conditions, laid).
  DERIVED. THE GIVEN ROWS OF THIS SEAT. 13 by the template 'for every input the law returns true; each argument reads behind the call as it read before'; 0 by the template 'total and deterministic' (their statements: YtlemdaclmagcjaaTotals.lean).
  GIVEN WITH THE SEED: the statements are not yours to turn. If you find one false, say at which input.
  Laid BY PROGRAM, IN A SANDBOX (cutbox-rows.mjs): the forced cells as the released guide's own fill.sh prints them over the translation e8c3e3d3e9b9eeab… (all of the seat's roots in one cut). By AI agents, Wed Nov 11 2026. No macro, syntax, notation, axiom, sorry.
-/
import Derived.Test.YtlemdaclmagcjaaChecked
import GoSem.Claim
import GoSem.ClaimJoined
import GoSem.ClaimMapViews
import Derived.JoinedTies
import Derived.KernelRfl
namespace Go.Proofs.Ytlemdaclmagcjaa
/- THE CELL 'sum', in the pinned program and in every row, IS THE sha256 OF THE DUMP (.gsa) THAT YtlemdaclmagcjaaProg.lean LOADS. Nothing in Lean hashes anything: it is a label: what it is worth is what the hold of that sum in a sandbox is worth. -/
noncomputable def Try.pinned : Pinned := { name := "ytlemdaclmagcjaa", sum := "e8c3e3d3e9b9eeab036f16479aeb0d3705c002f26b6576429d12585a1de9b5c8", checked := Try.checked }
namespace Rows
def none {H : Type} : Left H := { results := [], args := [] }

/-- 'laws.FnExactConstants': WHATEVER THE INPUT: true; the input reads as it did. -/
def fnExactConstantsSpec : ChangeSpec := { name := "fnExactConstants", fn := fun _ => fun
  | [] => { results := [.lit (.bool true)], args := [] }
  | _ => none }
def fnExactConstantsRow : OpenClaim := { program := "ytlemdaclmagcjaa", sum := "e8c3e3d3e9b9eeab036f16479aeb0d3705c002f26b6576429d12585a1de9b5c8", func := "loop.example/g03109/laws.FnExactConstants", spec := "fnExactConstants", apart := false }
def FnExactConstantsSaid : Prop := fnExactConstantsRow.holds Try.pinned (OpenSpec.ofChange fnExactConstantsSpec)

/-- ITS FALSE NEIGHBOUR: 'it returns false'. Refute it at one input. -/
def fnExactConstantsWrong : ChangeSpec := { name := "fnExactConstants", fn := fun _ => fun
  | [] => { results := [.lit (.bool false)], args := [] }
  | _ => none }
def FnExactConstantsWrongFalsely : Prop := fnExactConstantsRow.holds Try.pinned (OpenSpec.ofChange fnExactConstantsWrong)

/-- 'laws.FnExactIsPrime': WHATEVER THE INPUT: true; the input reads as it did. -/
def fnExactIsPrimeSpec : ChangeSpec := { name := "fnExactIsPrime", fn := fun _ => fun
  | [d] => { results := [.lit (.bool true)], args := [d] }
  | _ => none }
def fnExactIsPrimeRow : OpenClaim := { program := "ytlemdaclmagcjaa", sum := "e8c3e3d3e9b9eeab036f16479aeb0d3705c002f26b6576429d12585a1de9b5c8", func := "loop.example/g03109/laws.FnExactIsPrime", spec := "fnExactIsPrime", apart := false }
def FnExactIsPrimeSaid : Prop := fnExactIsPrimeRow.holds Try.pinned (OpenSpec.ofChange fnExactIsPrimeSpec)

/-- ITS FALSE NEIGHBOUR: 'it returns false'. Refute it at one input. -/
def fnExactIsPrimeWrong : ChangeSpec := { name := "fnExactIsPrime", fn := fun _ => fun
  | [d] => { results := [.lit (.bool false)], args := [d] }
  | _ => none }
def FnExactIsPrimeWrongFalsely : Prop := fnExactIsPrimeRow.holds Try.pinned (OpenSpec.ofChange fnExactIsPrimeWrong)

/-- 'laws.FnExactResidue': WHATEVER THE INPUT: true; the input reads as it did. -/
def fnExactResidueSpec : ChangeSpec := { name := "fnExactResidue", fn := fun _ => fun
  | [d1, d2] => { results := [.lit (.bool true)], args := [d1, d2] }
  | _ => none }
def fnExactResidueRow : OpenClaim := { program := "ytlemdaclmagcjaa", sum := "e8c3e3d3e9b9eeab036f16479aeb0d3705c002f26b6576429d12585a1de9b5c8", func := "loop.example/g03109/laws.FnExactResidue", spec := "fnExactResidue", apart := false }
def FnExactResidueSaid : Prop := fnExactResidueRow.holds Try.pinned (OpenSpec.ofChange fnExactResidueSpec)

/-- ITS FALSE NEIGHBOUR: 'it returns false'. Refute it at one input. -/
def fnExactResidueWrong : ChangeSpec := { name := "fnExactResidue", fn := fun _ => fun
  | [d1, d2] => { results := [.lit (.bool false)], args := [d1, d2] }
  | _ => none }
def FnExactResidueWrongFalsely : Prop := fnExactResidueRow.holds Try.pinned (OpenSpec.ofChange fnExactResidueWrong)

/-- 'laws.FnExactInverseOf': WHATEVER THE INPUT: true; the input reads as it did. -/
def fnExactInverseOfSpec : ChangeSpec := { name := "fnExactInverseOf", fn := fun _ => fun
  | [d1, d2] => { results := [.lit (.bool true)], args := [d1, d2] }
  | _ => none }
def fnExactInverseOfRow : OpenClaim := { program := "ytlemdaclmagcjaa", sum := "e8c3e3d3e9b9eeab036f16479aeb0d3705c002f26b6576429d12585a1de9b5c8", func := "loop.example/g03109/laws.FnExactInverseOf", spec := "fnExactInverseOf", apart := false }
def FnExactInverseOfSaid : Prop := fnExactInverseOfRow.holds Try.pinned (OpenSpec.ofChange fnExactInverseOfSpec)

/-- ITS FALSE NEIGHBOUR: 'it returns false'. Refute it at one input. -/
def fnExactInverseOfWrong : ChangeSpec := { name := "fnExactInverseOf", fn := fun _ => fun
  | [d1, d2] => { results := [.lit (.bool false)], args := [d1, d2] }
  | _ => none }
def FnExactInverseOfWrongFalsely : Prop := fnExactInverseOfRow.holds Try.pinned (OpenSpec.ofChange fnExactInverseOfWrong)

/-- 'laws.FnExactAbelianAlgebra': WHATEVER THE INPUT: true; the input reads as it did. -/
def fnExactAbelianAlgebraSpec : ChangeSpec := { name := "fnExactAbelianAlgebra", fn := fun _ => fun
  | [d1, d2] => { results := [.lit (.bool true)], args := [d1, d2] }
  | _ => none }
def fnExactAbelianAlgebraRow : OpenClaim := { program := "ytlemdaclmagcjaa", sum := "e8c3e3d3e9b9eeab036f16479aeb0d3705c002f26b6576429d12585a1de9b5c8", func := "loop.example/g03109/laws.FnExactAbelianAlgebra", spec := "fnExactAbelianAlgebra", apart := false }
def FnExactAbelianAlgebraSaid : Prop := fnExactAbelianAlgebraRow.holds Try.pinned (OpenSpec.ofChange fnExactAbelianAlgebraSpec)

/-- ITS FALSE NEIGHBOUR: 'it returns false'. Refute it at one input. -/
def fnExactAbelianAlgebraWrong : ChangeSpec := { name := "fnExactAbelianAlgebra", fn := fun _ => fun
  | [d1, d2] => { results := [.lit (.bool false)], args := [d1, d2] }
  | _ => none }
def FnExactAbelianAlgebraWrongFalsely : Prop := fnExactAbelianAlgebraRow.holds Try.pinned (OpenSpec.ofChange fnExactAbelianAlgebraWrong)

/-- 'laws.FnExactSubsetsOf': WHATEVER THE INPUT: true; the input reads as it did. -/
def fnExactSubsetsOfSpec : ChangeSpec := { name := "fnExactSubsetsOf", fn := fun _ => fun
  | [d1, d2] => { results := [.lit (.bool true)], args := [d1, d2] }
  | _ => none }
def fnExactSubsetsOfRow : OpenClaim := { program := "ytlemdaclmagcjaa", sum := "e8c3e3d3e9b9eeab036f16479aeb0d3705c002f26b6576429d12585a1de9b5c8", func := "loop.example/g03109/laws.FnExactSubsetsOf", spec := "fnExactSubsetsOf", recurses := true, apart := false }
def FnExactSubsetsOfSaid : Prop := fnExactSubsetsOfRow.holds Try.pinned (OpenSpec.ofChange fnExactSubsetsOfSpec)

/-- ITS FALSE NEIGHBOUR: 'it returns false'. Refute it at one input. -/
def fnExactSubsetsOfWrong : ChangeSpec := { name := "fnExactSubsetsOf", fn := fun _ => fun
  | [d1, d2] => { results := [.lit (.bool false)], args := [d1, d2] }
  | _ => none }
def FnExactSubsetsOfWrongFalsely : Prop := fnExactSubsetsOfRow.holds Try.pinned (OpenSpec.ofChange fnExactSubsetsOfWrong)

/-- 'laws.FnExactZeroMatrix': WHATEVER THE INPUT: true; the input reads as it did. -/
def fnExactZeroMatrixSpec : ChangeSpec := { name := "fnExactZeroMatrix", fn := fun _ => fun
  | [d1, d2, d3] => { results := [.lit (.bool true)], args := [d1, d2, d3] }
  | _ => none }
def fnExactZeroMatrixRow : OpenClaim := { program := "ytlemdaclmagcjaa", sum := "e8c3e3d3e9b9eeab036f16479aeb0d3705c002f26b6576429d12585a1de9b5c8", func := "loop.example/g03109/laws.FnExactZeroMatrix", spec := "fnExactZeroMatrix", apart := false }
def FnExactZeroMatrixSaid : Prop := fnExactZeroMatrixRow.holds Try.pinned (OpenSpec.ofChange fnExactZeroMatrixSpec)

/-- ITS FALSE NEIGHBOUR: 'it returns false'. Refute it at one input. -/
def fnExactZeroMatrixWrong : ChangeSpec := { name := "fnExactZeroMatrix", fn := fun _ => fun
  | [d1, d2, d3] => { results := [.lit (.bool false)], args := [d1, d2, d3] }
  | _ => none }
def FnExactZeroMatrixWrongFalsely : Prop := fnExactZeroMatrixRow.holds Try.pinned (OpenSpec.ofChange fnExactZeroMatrixWrong)

/-- 'laws.FnExactUnitMatrix': WHATEVER THE INPUT: true; the input reads as it did. -/
def fnExactUnitMatrixSpec : ChangeSpec := { name := "fnExactUnitMatrix", fn := fun _ => fun
  | [d1, d2] => { results := [.lit (.bool true)], args := [d1, d2] }
  | _ => none }
def fnExactUnitMatrixRow : OpenClaim := { program := "ytlemdaclmagcjaa", sum := "e8c3e3d3e9b9eeab036f16479aeb0d3705c002f26b6576429d12585a1de9b5c8", func := "loop.example/g03109/laws.FnExactUnitMatrix", spec := "fnExactUnitMatrix", apart := false }
def FnExactUnitMatrixSaid : Prop := fnExactUnitMatrixRow.holds Try.pinned (OpenSpec.ofChange fnExactUnitMatrixSpec)

/-- ITS FALSE NEIGHBOUR: 'it returns false'. Refute it at one input. -/
def fnExactUnitMatrixWrong : ChangeSpec := { name := "fnExactUnitMatrix", fn := fun _ => fun
  | [d1, d2] => { results := [.lit (.bool false)], args := [d1, d2] }
  | _ => none }
def FnExactUnitMatrixWrongFalsely : Prop := fnExactUnitMatrixRow.holds Try.pinned (OpenSpec.ofChange fnExactUnitMatrixWrong)

/-- 'laws.FnExactMatrixOk': WHATEVER THE INPUT: true; the input reads as it did. -/
def fnExactMatrixOkSpec : ChangeSpec := { name := "fnExactMatrixOk", fn := fun _ => fun
  | [d] => { results := [.lit (.bool true)], args := [d] }
  | _ => none }
def fnExactMatrixOkRow : OpenClaim := { program := "ytlemdaclmagcjaa", sum := "e8c3e3d3e9b9eeab036f16479aeb0d3705c002f26b6576429d12585a1de9b5c8", func := "loop.example/g03109/laws.FnExactMatrixOk", spec := "fnExactMatrixOk", unfollowed := true, recurses := true, apart := false }
def FnExactMatrixOkSaid : Prop := fnExactMatrixOkRow.holds Try.pinned (OpenSpec.ofChange fnExactMatrixOkSpec)

/-- ITS FALSE NEIGHBOUR: 'it returns false'. Refute it at one input. -/
def fnExactMatrixOkWrong : ChangeSpec := { name := "fnExactMatrixOk", fn := fun _ => fun
  | [d] => { results := [.lit (.bool false)], args := [d] }
  | _ => none }
def FnExactMatrixOkWrongFalsely : Prop := fnExactMatrixOkRow.holds Try.pinned (OpenSpec.ofChange fnExactMatrixOkWrong)

/-- 'laws.FnExactTraceOf': WHATEVER THE INPUT: true; the input reads as it did. -/
def fnExactTraceOfSpec : ChangeSpec := { name := "fnExactTraceOf", fn := fun _ => fun
  | [d] => { results := [.lit (.bool true)], args := [d] }
  | _ => none }
def fnExactTraceOfRow : OpenClaim := { program := "ytlemdaclmagcjaa", sum := "e8c3e3d3e9b9eeab036f16479aeb0d3705c002f26b6576429d12585a1de9b5c8", func := "loop.example/g03109/laws.FnExactTraceOf", spec := "fnExactTraceOf", unfollowed := true, recurses := true, apart := false }
def FnExactTraceOfSaid : Prop := fnExactTraceOfRow.holds Try.pinned (OpenSpec.ofChange fnExactTraceOfSpec)

/-- ITS FALSE NEIGHBOUR: 'it returns false'. Refute it at one input. -/
def fnExactTraceOfWrong : ChangeSpec := { name := "fnExactTraceOf", fn := fun _ => fun
  | [d] => { results := [.lit (.bool false)], args := [d] }
  | _ => none }
def FnExactTraceOfWrongFalsely : Prop := fnExactTraceOfRow.holds Try.pinned (OpenSpec.ofChange fnExactTraceOfWrong)

/-- 'laws.FnExactTransposeMatrix': WHATEVER THE INPUT: true; the input reads as it did. -/
def fnExactTransposeMatrixSpec : ChangeSpec := { name := "fnExactTransposeMatrix", fn := fun _ => fun
  | [d] => { results := [.lit (.bool true)], args := [d] }
  | _ => none }
def fnExactTransposeMatrixRow : OpenClaim := { program := "ytlemdaclmagcjaa", sum := "e8c3e3d3e9b9eeab036f16479aeb0d3705c002f26b6576429d12585a1de9b5c8", func := "loop.example/g03109/laws.FnExactTransposeMatrix", spec := "fnExactTransposeMatrix", unfollowed := true, recurses := true, apart := false }
def FnExactTransposeMatrixSaid : Prop := fnExactTransposeMatrixRow.holds Try.pinned (OpenSpec.ofChange fnExactTransposeMatrixSpec)

/-- ITS FALSE NEIGHBOUR: 'it returns false'. Refute it at one input. -/
def fnExactTransposeMatrixWrong : ChangeSpec := { name := "fnExactTransposeMatrix", fn := fun _ => fun
  | [d] => { results := [.lit (.bool false)], args := [d] }
  | _ => none }
def FnExactTransposeMatrixWrongFalsely : Prop := fnExactTransposeMatrixRow.holds Try.pinned (OpenSpec.ofChange fnExactTransposeMatrixWrong)

/-- 'laws.FnExactMulMatrices': WHATEVER THE INPUT: true; the input reads as it did. -/
def fnExactMulMatricesSpec : ChangeSpec := { name := "fnExactMulMatrices", fn := fun _ => fun
  | [d1, d2] => { results := [.lit (.bool true)], args := [d1, d2] }
  | _ => none }
def fnExactMulMatricesRow : OpenClaim := { program := "ytlemdaclmagcjaa", sum := "e8c3e3d3e9b9eeab036f16479aeb0d3705c002f26b6576429d12585a1de9b5c8", func := "loop.example/g03109/laws.FnExactMulMatrices", spec := "fnExactMulMatrices", unfollowed := true, recurses := true, apart := false }
def FnExactMulMatricesSaid : Prop := fnExactMulMatricesRow.holds Try.pinned (OpenSpec.ofChange fnExactMulMatricesSpec)

/-- ITS FALSE NEIGHBOUR: 'it returns false'. Refute it at one input. -/
def fnExactMulMatricesWrong : ChangeSpec := { name := "fnExactMulMatrices", fn := fun _ => fun
  | [d1, d2] => { results := [.lit (.bool false)], args := [d1, d2] }
  | _ => none }
def FnExactMulMatricesWrongFalsely : Prop := fnExactMulMatricesRow.holds Try.pinned (OpenSpec.ofChange fnExactMulMatricesWrong)

/-- 'laws.FnExactNilpotencyOf': WHATEVER THE INPUT: true; the input reads as it did. -/
def fnExactNilpotencyOfSpec : ChangeSpec := { name := "fnExactNilpotencyOf", fn := fun _ => fun
  | [d] => { results := [.lit (.bool true)], args := [d] }
  | _ => none }
def fnExactNilpotencyOfRow : OpenClaim := { program := "ytlemdaclmagcjaa", sum := "e8c3e3d3e9b9eeab036f16479aeb0d3705c002f26b6576429d12585a1de9b5c8", func := "loop.example/g03109/laws.FnExactNilpotencyOf", spec := "fnExactNilpotencyOf", unfollowed := true, recurses := true, apart := false }
def FnExactNilpotencyOfSaid : Prop := fnExactNilpotencyOfRow.holds Try.pinned (OpenSpec.ofChange fnExactNilpotencyOfSpec)

/-- ITS FALSE NEIGHBOUR: 'it returns false'. Refute it at one input. -/
def fnExactNilpotencyOfWrong : ChangeSpec := { name := "fnExactNilpotencyOf", fn := fun _ => fun
  | [d] => { results := [.lit (.bool false)], args := [d] }
  | _ => none }
def FnExactNilpotencyOfWrongFalsely : Prop := fnExactNilpotencyOfRow.holds Try.pinned (OpenSpec.ofChange fnExactNilpotencyOfWrong)

/- THE SECOND FORM. 'bulk': how many values and letters a reading holds, each counted each time it is reached (what is shared counts as often as it is met; a slice's spare places count too). A statement '..UptoSaid' is the law's where the arguments, and the package variables that the reading takes, are together of bulk at most 1048576: NARROWER than '..Said'. Prove '..Said' where nothing that the law and all that it calls make is longer than what came in: it says more and counts as full. Else prove '..UptoSaid'. A law counts once. -/
mutual
def uptoBulk {H : Type} : DataW H → Nat
  | .lit (.string bytes) => bytes.length + 1
  | .lit _ => 1
  | .nil => 1
  | .ptr d => uptoBulk d + 1
  | .slice elems spare => uptoBulkAll elems + uptoBulkAll spare + 1
  | .agg parts => uptoBulkAll parts + 1
  | .iface _ d => uptoBulk d + 1
  | .map entries => uptoBulkEntries entries + 1
  | .held _ => 1
def uptoBulkAll {H : Type} : List (DataW H) → Nat
  | [] => 0
  | d :: r => uptoBulk d + uptoBulkAll r
def uptoBulkEntries {H : Type} : List (Lit × DataW H) → Nat
  | [] => 0
  | x :: r => uptoBulkEntry x + uptoBulkEntries r
def uptoBulkEntry {H : Type} : Lit × DataW H → Nat
  | (.string bytes, d) => bytes.length + uptoBulk d + 1
  | (_, d) => uptoBulk d + 1
 end
def uptoSmall : (H : Type) → List (DataW H) → Bool := fun _ ds => decide (uptoBulkAll ds ≤ 1048576)
def OpenSpec.upto (s : _root_.Go.ChangeSpec) : _root_.Go.OpenSpec := { _root_.Go.OpenSpec.ofChange s with cond := some uptoSmall }

/-- 'laws.FnExactConstants', WHERE WHAT IT READS IS OF BULK AT MOST 1048576: true; the input reads as it did. -/
def fnExactConstantsUptoRow : OpenClaim := { program := "ytlemdaclmagcjaa", sum := "e8c3e3d3e9b9eeab036f16479aeb0d3705c002f26b6576429d12585a1de9b5c8", func := "loop.example/g03109/laws.FnExactConstants", spec := "fnExactConstants", apart := false, narrowed := true }
def FnExactConstantsUptoSaid : Prop := fnExactConstantsUptoRow.holds Try.pinned (OpenSpec.upto fnExactConstantsSpec)

/-- 'laws.FnExactIsPrime', WHERE WHAT IT READS IS OF BULK AT MOST 1048576: true; the input reads as it did. -/
def fnExactIsPrimeUptoRow : OpenClaim := { program := "ytlemdaclmagcjaa", sum := "e8c3e3d3e9b9eeab036f16479aeb0d3705c002f26b6576429d12585a1de9b5c8", func := "loop.example/g03109/laws.FnExactIsPrime", spec := "fnExactIsPrime", apart := false, narrowed := true }
def FnExactIsPrimeUptoSaid : Prop := fnExactIsPrimeUptoRow.holds Try.pinned (OpenSpec.upto fnExactIsPrimeSpec)

/-- 'laws.FnExactResidue', WHERE WHAT IT READS IS OF BULK AT MOST 1048576: true; the input reads as it did. -/
def fnExactResidueUptoRow : OpenClaim := { program := "ytlemdaclmagcjaa", sum := "e8c3e3d3e9b9eeab036f16479aeb0d3705c002f26b6576429d12585a1de9b5c8", func := "loop.example/g03109/laws.FnExactResidue", spec := "fnExactResidue", apart := false, narrowed := true }
def FnExactResidueUptoSaid : Prop := fnExactResidueUptoRow.holds Try.pinned (OpenSpec.upto fnExactResidueSpec)

/-- 'laws.FnExactInverseOf', WHERE WHAT IT READS IS OF BULK AT MOST 1048576: true; the input reads as it did. -/
def fnExactInverseOfUptoRow : OpenClaim := { program := "ytlemdaclmagcjaa", sum := "e8c3e3d3e9b9eeab036f16479aeb0d3705c002f26b6576429d12585a1de9b5c8", func := "loop.example/g03109/laws.FnExactInverseOf", spec := "fnExactInverseOf", apart := false, narrowed := true }
def FnExactInverseOfUptoSaid : Prop := fnExactInverseOfUptoRow.holds Try.pinned (OpenSpec.upto fnExactInverseOfSpec)

/-- 'laws.FnExactAbelianAlgebra', WHERE WHAT IT READS IS OF BULK AT MOST 1048576: true; the input reads as it did. -/
def fnExactAbelianAlgebraUptoRow : OpenClaim := { program := "ytlemdaclmagcjaa", sum := "e8c3e3d3e9b9eeab036f16479aeb0d3705c002f26b6576429d12585a1de9b5c8", func := "loop.example/g03109/laws.FnExactAbelianAlgebra", spec := "fnExactAbelianAlgebra", apart := false, narrowed := true }
def FnExactAbelianAlgebraUptoSaid : Prop := fnExactAbelianAlgebraUptoRow.holds Try.pinned (OpenSpec.upto fnExactAbelianAlgebraSpec)

/-- 'laws.FnExactSubsetsOf', WHERE WHAT IT READS IS OF BULK AT MOST 1048576: true; the input reads as it did. -/
def fnExactSubsetsOfUptoRow : OpenClaim := { program := "ytlemdaclmagcjaa", sum := "e8c3e3d3e9b9eeab036f16479aeb0d3705c002f26b6576429d12585a1de9b5c8", func := "loop.example/g03109/laws.FnExactSubsetsOf", spec := "fnExactSubsetsOf", recurses := true, apart := false, narrowed := true }
def FnExactSubsetsOfUptoSaid : Prop := fnExactSubsetsOfUptoRow.holds Try.pinned (OpenSpec.upto fnExactSubsetsOfSpec)

/-- 'laws.FnExactZeroMatrix', WHERE WHAT IT READS IS OF BULK AT MOST 1048576: true; the input reads as it did. -/
def fnExactZeroMatrixUptoRow : OpenClaim := { program := "ytlemdaclmagcjaa", sum := "e8c3e3d3e9b9eeab036f16479aeb0d3705c002f26b6576429d12585a1de9b5c8", func := "loop.example/g03109/laws.FnExactZeroMatrix", spec := "fnExactZeroMatrix", apart := false, narrowed := true }
def FnExactZeroMatrixUptoSaid : Prop := fnExactZeroMatrixUptoRow.holds Try.pinned (OpenSpec.upto fnExactZeroMatrixSpec)

/-- 'laws.FnExactUnitMatrix', WHERE WHAT IT READS IS OF BULK AT MOST 1048576: true; the input reads as it did. -/
def fnExactUnitMatrixUptoRow : OpenClaim := { program := "ytlemdaclmagcjaa", sum := "e8c3e3d3e9b9eeab036f16479aeb0d3705c002f26b6576429d12585a1de9b5c8", func := "loop.example/g03109/laws.FnExactUnitMatrix", spec := "fnExactUnitMatrix", apart := false, narrowed := true }
def FnExactUnitMatrixUptoSaid : Prop := fnExactUnitMatrixUptoRow.holds Try.pinned (OpenSpec.upto fnExactUnitMatrixSpec)

/-- 'laws.FnExactMatrixOk', WHERE WHAT IT READS IS OF BULK AT MOST 1048576: true; the input reads as it did. -/
def fnExactMatrixOkUptoRow : OpenClaim := { program := "ytlemdaclmagcjaa", sum := "e8c3e3d3e9b9eeab036f16479aeb0d3705c002f26b6576429d12585a1de9b5c8", func := "loop.example/g03109/laws.FnExactMatrixOk", spec := "fnExactMatrixOk", unfollowed := true, recurses := true, apart := false, narrowed := true }
def FnExactMatrixOkUptoSaid : Prop := fnExactMatrixOkUptoRow.holds Try.pinned (OpenSpec.upto fnExactMatrixOkSpec)

/-- 'laws.FnExactTraceOf', WHERE WHAT IT READS IS OF BULK AT MOST 1048576: true; the input reads as it did. -/
def fnExactTraceOfUptoRow : OpenClaim := { program := "ytlemdaclmagcjaa", sum := "e8c3e3d3e9b9eeab036f16479aeb0d3705c002f26b6576429d12585a1de9b5c8", func := "loop.example/g03109/laws.FnExactTraceOf", spec := "fnExactTraceOf", unfollowed := true, recurses := true, apart := false, narrowed := true }
def FnExactTraceOfUptoSaid : Prop := fnExactTraceOfUptoRow.holds Try.pinned (OpenSpec.upto fnExactTraceOfSpec)

/-- 'laws.FnExactTransposeMatrix', WHERE WHAT IT READS IS OF BULK AT MOST 1048576: true; the input reads as it did. -/
def fnExactTransposeMatrixUptoRow : OpenClaim := { program := "ytlemdaclmagcjaa", sum := "e8c3e3d3e9b9eeab036f16479aeb0d3705c002f26b6576429d12585a1de9b5c8", func := "loop.example/g03109/laws.FnExactTransposeMatrix", spec := "fnExactTransposeMatrix", unfollowed := true, recurses := true, apart := false, narrowed := true }
def FnExactTransposeMatrixUptoSaid : Prop := fnExactTransposeMatrixUptoRow.holds Try.pinned (OpenSpec.upto fnExactTransposeMatrixSpec)

/-- 'laws.FnExactMulMatrices', WHERE WHAT IT READS IS OF BULK AT MOST 1048576: true; the input reads as it did. -/
def fnExactMulMatricesUptoRow : OpenClaim := { program := "ytlemdaclmagcjaa", sum := "e8c3e3d3e9b9eeab036f16479aeb0d3705c002f26b6576429d12585a1de9b5c8", func := "loop.example/g03109/laws.FnExactMulMatrices", spec := "fnExactMulMatrices", unfollowed := true, recurses := true, apart := false, narrowed := true }
def FnExactMulMatricesUptoSaid : Prop := fnExactMulMatricesUptoRow.holds Try.pinned (OpenSpec.upto fnExactMulMatricesSpec)

/-- 'laws.FnExactNilpotencyOf', WHERE WHAT IT READS IS OF BULK AT MOST 1048576: true; the input reads as it did. -/
def fnExactNilpotencyOfUptoRow : OpenClaim := { program := "ytlemdaclmagcjaa", sum := "e8c3e3d3e9b9eeab036f16479aeb0d3705c002f26b6576429d12585a1de9b5c8", func := "loop.example/g03109/laws.FnExactNilpotencyOf", spec := "fnExactNilpotencyOf", unfollowed := true, recurses := true, apart := false, narrowed := true }
def FnExactNilpotencyOfUptoSaid : Prop := fnExactNilpotencyOfUptoRow.holds Try.pinned (OpenSpec.upto fnExactNilpotencyOfSpec)

end Rows
end Go.Proofs.Ytlemdaclmagcjaa
