/-
  No cell of these rows narrows 'for every input' (looked for: loops, veiled, ifaces, maps, wideKeys, modest, calm, conditions, laid).
  DERIVED. THE GIVEN ROWS OF THIS SEAT. 13 by the template 'for every input the law returns true; each argument reads behind the call as it read before'; 0 by the template 'total and deterministic' (their statements: YtiggomjohikapaaTotals.lean).
  GIVEN WITH THE SEED: the statements are not yours to turn. If you find one false, say at which input.
  Laid BY PROGRAM, IN A SANDBOX (cutbox-rows.mjs): the forced cells as the released guide's own fill.sh prints them over the translation aa5e3af27a7b4ced… (all of the seat's roots in one cut). By AI agents, Wed Nov 11 2026. No macro, syntax, notation, axiom, sorry.
-/
import Derived.Test.YtiggomjohikapaaChecked
import GoSem.Claim
import GoSem.ClaimJoined
import GoSem.ClaimMapViews
import Derived.JoinedTies
import Derived.KernelRfl
namespace Go.Proofs.Ytiggomjohikapaa
/- THE CELL 'sum', in the pinned program and in every row, IS THE sha256 OF THE DUMP (.gsa) THAT YtiggomjohikapaaProg.lean LOADS. Nothing in Lean hashes anything: it is a label: what it is worth is what the hold of that sum in a sandbox is worth. -/
noncomputable def Try.pinned : Pinned := { name := "ytiggomjohikapaa", sum := "aa5e3af27a7b4ced28be087aed19dbb1b943d698abdbd97d1a07781fa0a6c10b", checked := Try.checked }
namespace Rows
def none {H : Type} : Left H := { results := [], args := [] }

/-- 'laws.FnExactAlgebraOk': WHATEVER THE INPUT: true; the input reads as it did. -/
def fnExactAlgebraOkSpec : ChangeSpec := { name := "fnExactAlgebraOk", fn := fun _ => fun
  | [d] => { results := [.lit (.bool true)], args := [d] }
  | _ => none }
def fnExactAlgebraOkRow : OpenClaim := { program := "ytiggomjohikapaa", sum := "aa5e3af27a7b4ced28be087aed19dbb1b943d698abdbd97d1a07781fa0a6c10b", func := "loop.example/g03109/laws.FnExactAlgebraOk", spec := "fnExactAlgebraOk", unfollowed := true, recurses := true, apart := false }
def FnExactAlgebraOkSaid : Prop := fnExactAlgebraOkRow.holds Try.pinned (OpenSpec.ofChange fnExactAlgebraOkSpec)

/-- ITS FALSE NEIGHBOUR: 'it returns false'. Refute it at one input. -/
def fnExactAlgebraOkWrong : ChangeSpec := { name := "fnExactAlgebraOk", fn := fun _ => fun
  | [d] => { results := [.lit (.bool false)], args := [d] }
  | _ => none }
def FnExactAlgebraOkWrongFalsely : Prop := fnExactAlgebraOkRow.holds Try.pinned (OpenSpec.ofChange fnExactAlgebraOkWrong)

/-- 'laws.FnExactEqualAlgebras': WHATEVER THE INPUT: true; the input reads as it did. -/
def fnExactEqualAlgebrasSpec : ChangeSpec := { name := "fnExactEqualAlgebras", fn := fun _ => fun
  | [d1, d2] => { results := [.lit (.bool true)], args := [d1, d2] }
  | _ => none }
def fnExactEqualAlgebrasRow : OpenClaim := { program := "ytiggomjohikapaa", sum := "aa5e3af27a7b4ced28be087aed19dbb1b943d698abdbd97d1a07781fa0a6c10b", func := "loop.example/g03109/laws.FnExactEqualAlgebras", spec := "fnExactEqualAlgebras", unfollowed := true, recurses := true, apart := false }
def FnExactEqualAlgebrasSaid : Prop := fnExactEqualAlgebrasRow.holds Try.pinned (OpenSpec.ofChange fnExactEqualAlgebrasSpec)

/-- ITS FALSE NEIGHBOUR: 'it returns false'. Refute it at one input. -/
def fnExactEqualAlgebrasWrong : ChangeSpec := { name := "fnExactEqualAlgebras", fn := fun _ => fun
  | [d1, d2] => { results := [.lit (.bool false)], args := [d1, d2] }
  | _ => none }
def FnExactEqualAlgebrasWrongFalsely : Prop := fnExactEqualAlgebrasRow.holds Try.pinned (OpenSpec.ofChange fnExactEqualAlgebrasWrong)

/-- 'laws.FnExactSumAlgebras': WHATEVER THE INPUT: true; the input reads as it did. -/
def fnExactSumAlgebrasSpec : ChangeSpec := { name := "fnExactSumAlgebras", fn := fun _ => fun
  | [d1, d2] => { results := [.lit (.bool true)], args := [d1, d2] }
  | _ => none }
def fnExactSumAlgebrasRow : OpenClaim := { program := "ytiggomjohikapaa", sum := "aa5e3af27a7b4ced28be087aed19dbb1b943d698abdbd97d1a07781fa0a6c10b", func := "loop.example/g03109/laws.FnExactSumAlgebras", spec := "fnExactSumAlgebras", unfollowed := true, recurses := true, apart := false }
def FnExactSumAlgebrasSaid : Prop := fnExactSumAlgebrasRow.holds Try.pinned (OpenSpec.ofChange fnExactSumAlgebrasSpec)

/-- ITS FALSE NEIGHBOUR: 'it returns false'. Refute it at one input. -/
def fnExactSumAlgebrasWrong : ChangeSpec := { name := "fnExactSumAlgebras", fn := fun _ => fun
  | [d1, d2] => { results := [.lit (.bool false)], args := [d1, d2] }
  | _ => none }
def FnExactSumAlgebrasWrongFalsely : Prop := fnExactSumAlgebrasRow.holds Try.pinned (OpenSpec.ofChange fnExactSumAlgebrasWrong)

/-- 'laws.FnExactIsUnimodular': WHATEVER THE INPUT: true; the input reads as it did. -/
def fnExactIsUnimodularSpec : ChangeSpec := { name := "fnExactIsUnimodular", fn := fun _ => fun
  | [d] => { results := [.lit (.bool true)], args := [d] }
  | _ => none }
def fnExactIsUnimodularRow : OpenClaim := { program := "ytiggomjohikapaa", sum := "aa5e3af27a7b4ced28be087aed19dbb1b943d698abdbd97d1a07781fa0a6c10b", func := "loop.example/g03109/laws.FnExactIsUnimodular", spec := "fnExactIsUnimodular", unfollowed := true, recurses := true, apart := false }
def FnExactIsUnimodularSaid : Prop := fnExactIsUnimodularRow.holds Try.pinned (OpenSpec.ofChange fnExactIsUnimodularSpec)

/-- ITS FALSE NEIGHBOUR: 'it returns false'. Refute it at one input. -/
def fnExactIsUnimodularWrong : ChangeSpec := { name := "fnExactIsUnimodular", fn := fun _ => fun
  | [d] => { results := [.lit (.bool false)], args := [d] }
  | _ => none }
def FnExactIsUnimodularWrongFalsely : Prop := fnExactIsUnimodularRow.holds Try.pinned (OpenSpec.ofChange fnExactIsUnimodularWrong)

/-- 'laws.FnExactAdjointOf': WHATEVER THE INPUT: true; the input reads as it did. -/
def fnExactAdjointOfSpec : ChangeSpec := { name := "fnExactAdjointOf", fn := fun _ => fun
  | [d1, d2] => { results := [.lit (.bool true)], args := [d1, d2] }
  | _ => none }
def fnExactAdjointOfRow : OpenClaim := { program := "ytiggomjohikapaa", sum := "aa5e3af27a7b4ced28be087aed19dbb1b943d698abdbd97d1a07781fa0a6c10b", func := "loop.example/g03109/laws.FnExactAdjointOf", spec := "fnExactAdjointOf", unfollowed := true, recurses := true, apart := false }
def FnExactAdjointOfSaid : Prop := fnExactAdjointOfRow.holds Try.pinned (OpenSpec.ofChange fnExactAdjointOfSpec)

/-- ITS FALSE NEIGHBOUR: 'it returns false'. Refute it at one input. -/
def fnExactAdjointOfWrong : ChangeSpec := { name := "fnExactAdjointOf", fn := fun _ => fun
  | [d1, d2] => { results := [.lit (.bool false)], args := [d1, d2] }
  | _ => none }
def FnExactAdjointOfWrongFalsely : Prop := fnExactAdjointOfRow.holds Try.pinned (OpenSpec.ofChange fnExactAdjointOfWrong)

/-- 'laws.FnExactIsCocycle': WHATEVER THE INPUT: true; the input reads as it did. -/
def fnExactIsCocycleSpec : ChangeSpec := { name := "fnExactIsCocycle", fn := fun _ => fun
  | [d1, d2] => { results := [.lit (.bool true)], args := [d1, d2] }
  | _ => none }
def fnExactIsCocycleRow : OpenClaim := { program := "ytiggomjohikapaa", sum := "aa5e3af27a7b4ced28be087aed19dbb1b943d698abdbd97d1a07781fa0a6c10b", func := "loop.example/g03109/laws.FnExactIsCocycle", spec := "fnExactIsCocycle", unfollowed := true, recurses := true, apart := false }
def FnExactIsCocycleSaid : Prop := fnExactIsCocycleRow.holds Try.pinned (OpenSpec.ofChange fnExactIsCocycleSpec)

/-- ITS FALSE NEIGHBOUR: 'it returns false'. Refute it at one input. -/
def fnExactIsCocycleWrong : ChangeSpec := { name := "fnExactIsCocycle", fn := fun _ => fun
  | [d1, d2] => { results := [.lit (.bool false)], args := [d1, d2] }
  | _ => none }
def FnExactIsCocycleWrongFalsely : Prop := fnExactIsCocycleRow.holds Try.pinned (OpenSpec.ofChange fnExactIsCocycleWrong)

/-- 'laws.FnExactIsInvariant': WHATEVER THE INPUT: true; the input reads as it did. -/
def fnExactIsInvariantSpec : ChangeSpec := { name := "fnExactIsInvariant", fn := fun _ => fun
  | [d1, d2] => { results := [.lit (.bool true)], args := [d1, d2] }
  | _ => none }
def fnExactIsInvariantRow : OpenClaim := { program := "ytiggomjohikapaa", sum := "aa5e3af27a7b4ced28be087aed19dbb1b943d698abdbd97d1a07781fa0a6c10b", func := "loop.example/g03109/laws.FnExactIsInvariant", spec := "fnExactIsInvariant", unfollowed := true, recurses := true, apart := false }
def FnExactIsInvariantSaid : Prop := fnExactIsInvariantRow.holds Try.pinned (OpenSpec.ofChange fnExactIsInvariantSpec)

/-- ITS FALSE NEIGHBOUR: 'it returns false'. Refute it at one input. -/
def fnExactIsInvariantWrong : ChangeSpec := { name := "fnExactIsInvariant", fn := fun _ => fun
  | [d1, d2] => { results := [.lit (.bool false)], args := [d1, d2] }
  | _ => none }
def FnExactIsInvariantWrongFalsely : Prop := fnExactIsInvariantRow.holds Try.pinned (OpenSpec.ofChange fnExactIsInvariantWrong)

/-- 'laws.FnExactKillingForm': WHATEVER THE INPUT: true; the input reads as it did. -/
def fnExactKillingFormSpec : ChangeSpec := { name := "fnExactKillingForm", fn := fun _ => fun
  | [d] => { results := [.lit (.bool true)], args := [d] }
  | _ => none }
def fnExactKillingFormRow : OpenClaim := { program := "ytiggomjohikapaa", sum := "aa5e3af27a7b4ced28be087aed19dbb1b943d698abdbd97d1a07781fa0a6c10b", func := "loop.example/g03109/laws.FnExactKillingForm", spec := "fnExactKillingForm", unfollowed := true, recurses := true, apart := false }
def FnExactKillingFormSaid : Prop := fnExactKillingFormRow.holds Try.pinned (OpenSpec.ofChange fnExactKillingFormSpec)

/-- ITS FALSE NEIGHBOUR: 'it returns false'. Refute it at one input. -/
def fnExactKillingFormWrong : ChangeSpec := { name := "fnExactKillingForm", fn := fun _ => fun
  | [d] => { results := [.lit (.bool false)], args := [d] }
  | _ => none }
def FnExactKillingFormWrongFalsely : Prop := fnExactKillingFormRow.holds Try.pinned (OpenSpec.ofChange fnExactKillingFormWrong)

/-- 'laws.FnExactExtendBy': WHATEVER THE INPUT: true; the input reads as it did. -/
def fnExactExtendBySpec : ChangeSpec := { name := "fnExactExtendBy", fn := fun _ => fun
  | [d1, d2] => { results := [.lit (.bool true)], args := [d1, d2] }
  | _ => none }
def fnExactExtendByRow : OpenClaim := { program := "ytiggomjohikapaa", sum := "aa5e3af27a7b4ced28be087aed19dbb1b943d698abdbd97d1a07781fa0a6c10b", func := "loop.example/g03109/laws.FnExactExtendBy", spec := "fnExactExtendBy", unfollowed := true, recurses := true, apart := false }
def FnExactExtendBySaid : Prop := fnExactExtendByRow.holds Try.pinned (OpenSpec.ofChange fnExactExtendBySpec)

/-- ITS FALSE NEIGHBOUR: 'it returns false'. Refute it at one input. -/
def fnExactExtendByWrong : ChangeSpec := { name := "fnExactExtendBy", fn := fun _ => fun
  | [d1, d2] => { results := [.lit (.bool false)], args := [d1, d2] }
  | _ => none }
def FnExactExtendByWrongFalsely : Prop := fnExactExtendByRow.holds Try.pinned (OpenSpec.ofChange fnExactExtendByWrong)

/-- 'laws.FnExactInnerDerivations': WHATEVER THE INPUT: true; the input reads as it did. -/
def fnExactInnerDerivationsSpec : ChangeSpec := { name := "fnExactInnerDerivations", fn := fun _ => fun
  | [d] => { results := [.lit (.bool true)], args := [d] }
  | _ => none }
def fnExactInnerDerivationsRow : OpenClaim := { program := "ytiggomjohikapaa", sum := "aa5e3af27a7b4ced28be087aed19dbb1b943d698abdbd97d1a07781fa0a6c10b", func := "loop.example/g03109/laws.FnExactInnerDerivations", spec := "fnExactInnerDerivations", unfollowed := true, recurses := true, apart := false }
def FnExactInnerDerivationsSaid : Prop := fnExactInnerDerivationsRow.holds Try.pinned (OpenSpec.ofChange fnExactInnerDerivationsSpec)

/-- ITS FALSE NEIGHBOUR: 'it returns false'. Refute it at one input. -/
def fnExactInnerDerivationsWrong : ChangeSpec := { name := "fnExactInnerDerivations", fn := fun _ => fun
  | [d] => { results := [.lit (.bool false)], args := [d] }
  | _ => none }
def FnExactInnerDerivationsWrongFalsely : Prop := fnExactInnerDerivationsRow.holds Try.pinned (OpenSpec.ofChange fnExactInnerDerivationsWrong)

/-- 'laws.FnExactDerivations': WHATEVER THE INPUT: true; the input reads as it did. -/
def fnExactDerivationsSpec : ChangeSpec := { name := "fnExactDerivations", fn := fun _ => fun
  | [d] => { results := [.lit (.bool true)], args := [d] }
  | _ => none }
def fnExactDerivationsRow : OpenClaim := { program := "ytiggomjohikapaa", sum := "aa5e3af27a7b4ced28be087aed19dbb1b943d698abdbd97d1a07781fa0a6c10b", func := "loop.example/g03109/laws.FnExactDerivations", spec := "fnExactDerivations", unfollowed := true, recurses := true, apart := false }
def FnExactDerivationsSaid : Prop := fnExactDerivationsRow.holds Try.pinned (OpenSpec.ofChange fnExactDerivationsSpec)

/-- ITS FALSE NEIGHBOUR: 'it returns false'. Refute it at one input. -/
def fnExactDerivationsWrong : ChangeSpec := { name := "fnExactDerivations", fn := fun _ => fun
  | [d] => { results := [.lit (.bool false)], args := [d] }
  | _ => none }
def FnExactDerivationsWrongFalsely : Prop := fnExactDerivationsRow.holds Try.pinned (OpenSpec.ofChange fnExactDerivationsWrong)

/-- 'laws.FnExactInvariantForms': WHATEVER THE INPUT: true; the input reads as it did. -/
def fnExactInvariantFormsSpec : ChangeSpec := { name := "fnExactInvariantForms", fn := fun _ => fun
  | [d] => { results := [.lit (.bool true)], args := [d] }
  | _ => none }
def fnExactInvariantFormsRow : OpenClaim := { program := "ytiggomjohikapaa", sum := "aa5e3af27a7b4ced28be087aed19dbb1b943d698abdbd97d1a07781fa0a6c10b", func := "loop.example/g03109/laws.FnExactInvariantForms", spec := "fnExactInvariantForms", unfollowed := true, recurses := true, apart := false }
def FnExactInvariantFormsSaid : Prop := fnExactInvariantFormsRow.holds Try.pinned (OpenSpec.ofChange fnExactInvariantFormsSpec)

/-- ITS FALSE NEIGHBOUR: 'it returns false'. Refute it at one input. -/
def fnExactInvariantFormsWrong : ChangeSpec := { name := "fnExactInvariantForms", fn := fun _ => fun
  | [d] => { results := [.lit (.bool false)], args := [d] }
  | _ => none }
def FnExactInvariantFormsWrongFalsely : Prop := fnExactInvariantFormsRow.holds Try.pinned (OpenSpec.ofChange fnExactInvariantFormsWrong)

/-- 'laws.FnExactOrthogonalOf': WHATEVER THE INPUT: true; the input reads as it did. -/
def fnExactOrthogonalOfSpec : ChangeSpec := { name := "fnExactOrthogonalOf", fn := fun _ => fun
  | [d1, d2, d3] => { results := [.lit (.bool true)], args := [d1, d2, d3] }
  | _ => none }
def fnExactOrthogonalOfRow : OpenClaim := { program := "ytiggomjohikapaa", sum := "aa5e3af27a7b4ced28be087aed19dbb1b943d698abdbd97d1a07781fa0a6c10b", func := "loop.example/g03109/laws.FnExactOrthogonalOf", spec := "fnExactOrthogonalOf", unfollowed := true, recurses := true, apart := false }
def FnExactOrthogonalOfSaid : Prop := fnExactOrthogonalOfRow.holds Try.pinned (OpenSpec.ofChange fnExactOrthogonalOfSpec)

/-- ITS FALSE NEIGHBOUR: 'it returns false'. Refute it at one input. -/
def fnExactOrthogonalOfWrong : ChangeSpec := { name := "fnExactOrthogonalOf", fn := fun _ => fun
  | [d1, d2, d3] => { results := [.lit (.bool false)], args := [d1, d2, d3] }
  | _ => none }
def FnExactOrthogonalOfWrongFalsely : Prop := fnExactOrthogonalOfRow.holds Try.pinned (OpenSpec.ofChange fnExactOrthogonalOfWrong)

/- THE SECOND FORM. 'bulk': how many values and letters a reading holds, each counted each time it is reached (what is shared counts as often as it is met; a slice's spare places count too). A statement '..UptoSaid' is the law's where the arguments, and the package variables that the reading takes, are together of bulk at most 1048576: NARROWER than '..Said'. Prove '..Said' where nothing that the law and all that it calls make is longer than what came in: it says more and counts as full. Else prove '..UptoSaid'. A law counts once. -/
mutual
def uptoBulk {H : Type} : DataW H → Nat
  | .lit (.string bytes) => bytes.length + 1
  | .lit _ => 1
  | .nil => 1
  | .ptr d => uptoBulk d + 1
  | .slice elems spare => uptoBulkAll elems + uptoBulkAll spare + 1
  | .agg parts => uptoBulkAll parts + 1
  | .iface _ d => uptoBulk d + 1
  | .map entries => uptoBulkEntries entries + 1
  | .held _ => 1
def uptoBulkAll {H : Type} : List (DataW H) → Nat
  | [] => 0
  | d :: r => uptoBulk d + uptoBulkAll r
def uptoBulkEntries {H : Type} : List (Lit × DataW H) → Nat
  | [] => 0
  | x :: r => uptoBulkEntry x + uptoBulkEntries r
def uptoBulkEntry {H : Type} : Lit × DataW H → Nat
  | (.string bytes, d) => bytes.length + uptoBulk d + 1
  | (_, d) => uptoBulk d + 1
 end
def uptoSmall : (H : Type) → List (DataW H) → Bool := fun _ ds => decide (uptoBulkAll ds ≤ 1048576)
def OpenSpec.upto (s : _root_.Go.ChangeSpec) : _root_.Go.OpenSpec := { _root_.Go.OpenSpec.ofChange s with cond := some uptoSmall }

/-- 'laws.FnExactAlgebraOk', WHERE WHAT IT READS IS OF BULK AT MOST 1048576: true; the input reads as it did. -/
def fnExactAlgebraOkUptoRow : OpenClaim := { program := "ytiggomjohikapaa", sum := "aa5e3af27a7b4ced28be087aed19dbb1b943d698abdbd97d1a07781fa0a6c10b", func := "loop.example/g03109/laws.FnExactAlgebraOk", spec := "fnExactAlgebraOk", unfollowed := true, recurses := true, apart := false, narrowed := true }
def FnExactAlgebraOkUptoSaid : Prop := fnExactAlgebraOkUptoRow.holds Try.pinned (OpenSpec.upto fnExactAlgebraOkSpec)

/-- 'laws.FnExactEqualAlgebras', WHERE WHAT IT READS IS OF BULK AT MOST 1048576: true; the input reads as it did. -/
def fnExactEqualAlgebrasUptoRow : OpenClaim := { program := "ytiggomjohikapaa", sum := "aa5e3af27a7b4ced28be087aed19dbb1b943d698abdbd97d1a07781fa0a6c10b", func := "loop.example/g03109/laws.FnExactEqualAlgebras", spec := "fnExactEqualAlgebras", unfollowed := true, recurses := true, apart := false, narrowed := true }
def FnExactEqualAlgebrasUptoSaid : Prop := fnExactEqualAlgebrasUptoRow.holds Try.pinned (OpenSpec.upto fnExactEqualAlgebrasSpec)

/-- 'laws.FnExactSumAlgebras', WHERE WHAT IT READS IS OF BULK AT MOST 1048576: true; the input reads as it did. -/
def fnExactSumAlgebrasUptoRow : OpenClaim := { program := "ytiggomjohikapaa", sum := "aa5e3af27a7b4ced28be087aed19dbb1b943d698abdbd97d1a07781fa0a6c10b", func := "loop.example/g03109/laws.FnExactSumAlgebras", spec := "fnExactSumAlgebras", unfollowed := true, recurses := true, apart := false, narrowed := true }
def FnExactSumAlgebrasUptoSaid : Prop := fnExactSumAlgebrasUptoRow.holds Try.pinned (OpenSpec.upto fnExactSumAlgebrasSpec)

/-- 'laws.FnExactIsUnimodular', WHERE WHAT IT READS IS OF BULK AT MOST 1048576: true; the input reads as it did. -/
def fnExactIsUnimodularUptoRow : OpenClaim := { program := "ytiggomjohikapaa", sum := "aa5e3af27a7b4ced28be087aed19dbb1b943d698abdbd97d1a07781fa0a6c10b", func := "loop.example/g03109/laws.FnExactIsUnimodular", spec := "fnExactIsUnimodular", unfollowed := true, recurses := true, apart := false, narrowed := true }
def FnExactIsUnimodularUptoSaid : Prop := fnExactIsUnimodularUptoRow.holds Try.pinned (OpenSpec.upto fnExactIsUnimodularSpec)

/-- 'laws.FnExactAdjointOf', WHERE WHAT IT READS IS OF BULK AT MOST 1048576: true; the input reads as it did. -/
def fnExactAdjointOfUptoRow : OpenClaim := { program := "ytiggomjohikapaa", sum := "aa5e3af27a7b4ced28be087aed19dbb1b943d698abdbd97d1a07781fa0a6c10b", func := "loop.example/g03109/laws.FnExactAdjointOf", spec := "fnExactAdjointOf", unfollowed := true, recurses := true, apart := false, narrowed := true }
def FnExactAdjointOfUptoSaid : Prop := fnExactAdjointOfUptoRow.holds Try.pinned (OpenSpec.upto fnExactAdjointOfSpec)

/-- 'laws.FnExactIsCocycle', WHERE WHAT IT READS IS OF BULK AT MOST 1048576: true; the input reads as it did. -/
def fnExactIsCocycleUptoRow : OpenClaim := { program := "ytiggomjohikapaa", sum := "aa5e3af27a7b4ced28be087aed19dbb1b943d698abdbd97d1a07781fa0a6c10b", func := "loop.example/g03109/laws.FnExactIsCocycle", spec := "fnExactIsCocycle", unfollowed := true, recurses := true, apart := false, narrowed := true }
def FnExactIsCocycleUptoSaid : Prop := fnExactIsCocycleUptoRow.holds Try.pinned (OpenSpec.upto fnExactIsCocycleSpec)

/-- 'laws.FnExactIsInvariant', WHERE WHAT IT READS IS OF BULK AT MOST 1048576: true; the input reads as it did. -/
def fnExactIsInvariantUptoRow : OpenClaim := { program := "ytiggomjohikapaa", sum := "aa5e3af27a7b4ced28be087aed19dbb1b943d698abdbd97d1a07781fa0a6c10b", func := "loop.example/g03109/laws.FnExactIsInvariant", spec := "fnExactIsInvariant", unfollowed := true, recurses := true, apart := false, narrowed := true }
def FnExactIsInvariantUptoSaid : Prop := fnExactIsInvariantUptoRow.holds Try.pinned (OpenSpec.upto fnExactIsInvariantSpec)

/-- 'laws.FnExactKillingForm', WHERE WHAT IT READS IS OF BULK AT MOST 1048576: true; the input reads as it did. -/
def fnExactKillingFormUptoRow : OpenClaim := { program := "ytiggomjohikapaa", sum := "aa5e3af27a7b4ced28be087aed19dbb1b943d698abdbd97d1a07781fa0a6c10b", func := "loop.example/g03109/laws.FnExactKillingForm", spec := "fnExactKillingForm", unfollowed := true, recurses := true, apart := false, narrowed := true }
def FnExactKillingFormUptoSaid : Prop := fnExactKillingFormUptoRow.holds Try.pinned (OpenSpec.upto fnExactKillingFormSpec)

/-- 'laws.FnExactExtendBy', WHERE WHAT IT READS IS OF BULK AT MOST 1048576: true; the input reads as it did. -/
def fnExactExtendByUptoRow : OpenClaim := { program := "ytiggomjohikapaa", sum := "aa5e3af27a7b4ced28be087aed19dbb1b943d698abdbd97d1a07781fa0a6c10b", func := "loop.example/g03109/laws.FnExactExtendBy", spec := "fnExactExtendBy", unfollowed := true, recurses := true, apart := false, narrowed := true }
def FnExactExtendByUptoSaid : Prop := fnExactExtendByUptoRow.holds Try.pinned (OpenSpec.upto fnExactExtendBySpec)

/-- 'laws.FnExactInnerDerivations', WHERE WHAT IT READS IS OF BULK AT MOST 1048576: true; the input reads as it did. -/
def fnExactInnerDerivationsUptoRow : OpenClaim := { program := "ytiggomjohikapaa", sum := "aa5e3af27a7b4ced28be087aed19dbb1b943d698abdbd97d1a07781fa0a6c10b", func := "loop.example/g03109/laws.FnExactInnerDerivations", spec := "fnExactInnerDerivations", unfollowed := true, recurses := true, apart := false, narrowed := true }
def FnExactInnerDerivationsUptoSaid : Prop := fnExactInnerDerivationsUptoRow.holds Try.pinned (OpenSpec.upto fnExactInnerDerivationsSpec)

/-- 'laws.FnExactDerivations', WHERE WHAT IT READS IS OF BULK AT MOST 1048576: true; the input reads as it did. -/
def fnExactDerivationsUptoRow : OpenClaim := { program := "ytiggomjohikapaa", sum := "aa5e3af27a7b4ced28be087aed19dbb1b943d698abdbd97d1a07781fa0a6c10b", func := "loop.example/g03109/laws.FnExactDerivations", spec := "fnExactDerivations", unfollowed := true, recurses := true, apart := false, narrowed := true }
def FnExactDerivationsUptoSaid : Prop := fnExactDerivationsUptoRow.holds Try.pinned (OpenSpec.upto fnExactDerivationsSpec)

/-- 'laws.FnExactInvariantForms', WHERE WHAT IT READS IS OF BULK AT MOST 1048576: true; the input reads as it did. -/
def fnExactInvariantFormsUptoRow : OpenClaim := { program := "ytiggomjohikapaa", sum := "aa5e3af27a7b4ced28be087aed19dbb1b943d698abdbd97d1a07781fa0a6c10b", func := "loop.example/g03109/laws.FnExactInvariantForms", spec := "fnExactInvariantForms", unfollowed := true, recurses := true, apart := false, narrowed := true }
def FnExactInvariantFormsUptoSaid : Prop := fnExactInvariantFormsUptoRow.holds Try.pinned (OpenSpec.upto fnExactInvariantFormsSpec)

/-- 'laws.FnExactOrthogonalOf', WHERE WHAT IT READS IS OF BULK AT MOST 1048576: true; the input reads as it did. -/
def fnExactOrthogonalOfUptoRow : OpenClaim := { program := "ytiggomjohikapaa", sum := "aa5e3af27a7b4ced28be087aed19dbb1b943d698abdbd97d1a07781fa0a6c10b", func := "loop.example/g03109/laws.FnExactOrthogonalOf", spec := "fnExactOrthogonalOf", unfollowed := true, recurses := true, apart := false, narrowed := true }
def FnExactOrthogonalOfUptoSaid : Prop := fnExactOrthogonalOfUptoRow.holds Try.pinned (OpenSpec.upto fnExactOrthogonalOfSpec)

end Rows
end Go.Proofs.Ytiggomjohikapaa
