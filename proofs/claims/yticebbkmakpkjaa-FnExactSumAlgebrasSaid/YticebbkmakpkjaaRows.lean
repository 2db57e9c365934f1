/-
  No cell of these rows narrows 'for every input' (looked for: loops, veiled, ifaces, maps, wideKeys, modest, calm, conditions, laid).
  DERIVED. THE GIVEN ROWS OF THIS SEAT. 12 by the template 'for every input the law returns true; each argument reads behind the call as it read before'; 0 by the template 'total and deterministic' (their statements: YticebbkmakpkjaaTotals.lean).
  GIVEN WITH THE SEED: the statements are not yours to turn. If you find one false, say at which input.
  Laid BY PROGRAM, IN A SANDBOX (cutbox-rows.mjs): the forced cells as the released guide's own fill.sh prints them over the translation 7a21ecb860716f46… (all of the seat's roots in one cut). By AI agents, Wed Nov 11 2026. No macro, syntax, notation, axiom, sorry.
-/
import Derived.Test.YticebbkmakpkjaaChecked
import GoSem.Claim
import GoSem.ClaimJoined
import GoSem.ClaimMapViews
import Derived.JoinedTies
import Derived.KernelRfl
namespace Go.Proofs.Yticebbkmakpkjaa
/- THE CELL 'sum', in the pinned program and in every row, IS THE sha256 OF THE DUMP (.gsa) THAT YticebbkmakpkjaaProg.lean LOADS. Nothing in Lean hashes anything: it is a label: what it is worth is what the hold of that sum in a sandbox is worth. -/
noncomputable def Try.pinned : Pinned := { name := "yticebbkmakpkjaa", sum := "7a21ecb860716f46cb4bdbc782a97a45dfbdb0b025025234fbc8561ea3b5dbca", checked := Try.checked }
namespace Rows
def none {H : Type} : Left H := { results := [], args := [] }

/-- 'laws.FnExactIsClosed': WHATEVER THE INPUT: true; the input reads as it did. -/
def fnExactIsClosedSpec : ChangeSpec := { name := "fnExactIsClosed", fn := fun _ => fun
  | [d1, d2, d3] => { results := [.lit (.bool true)], args := [d1, d2, d3] }
  | _ => none }
def fnExactIsClosedRow : OpenClaim := { program := "yticebbkmakpkjaa", sum := "7a21ecb860716f46cb4bdbc782a97a45dfbdb0b025025234fbc8561ea3b5dbca", func := "loop.example/g03109/laws.FnExactIsClosed", spec := "fnExactIsClosed", unfollowed := true, recurses := true, apart := false }
def FnExactIsClosedSaid : Prop := fnExactIsClosedRow.holds Try.pinned (OpenSpec.ofChange fnExactIsClosedSpec)

/-- ITS FALSE NEIGHBOUR: 'it returns false'. Refute it at one input. -/
def fnExactIsClosedWrong : ChangeSpec := { name := "fnExactIsClosed", fn := fun _ => fun
  | [d1, d2, d3] => { results := [.lit (.bool false)], args := [d1, d2, d3] }
  | _ => none }
def FnExactIsClosedWrongFalsely : Prop := fnExactIsClosedRow.holds Try.pinned (OpenSpec.ofChange fnExactIsClosedWrong)

/-- 'laws.FnExactWedgeOf': WHATEVER THE INPUT: true; the input reads as it did. -/
def fnExactWedgeOfSpec : ChangeSpec := { name := "fnExactWedgeOf", fn := fun _ => fun
  | [d1, d2, d3, d4, d5] => { results := [.lit (.bool true)], args := [d1, d2, d3, d4, d5] }
  | _ => none }
def fnExactWedgeOfRow : OpenClaim := { program := "yticebbkmakpkjaa", sum := "7a21ecb860716f46cb4bdbc782a97a45dfbdb0b025025234fbc8561ea3b5dbca", func := "loop.example/g03109/laws.FnExactWedgeOf", spec := "fnExactWedgeOf", unfollowed := true, recurses := true, apart := false }
def FnExactWedgeOfSaid : Prop := fnExactWedgeOfRow.holds Try.pinned (OpenSpec.ofChange fnExactWedgeOfSpec)

/-- ITS FALSE NEIGHBOUR: 'it returns false'. Refute it at one input. -/
def fnExactWedgeOfWrong : ChangeSpec := { name := "fnExactWedgeOf", fn := fun _ => fun
  | [d1, d2, d3, d4, d5] => { results := [.lit (.bool false)], args := [d1, d2, d3, d4, d5] }
  | _ => none }
def FnExactWedgeOfWrongFalsely : Prop := fnExactWedgeOfRow.holds Try.pinned (OpenSpec.ofChange fnExactWedgeOfWrong)

/-- 'laws.FnExactAlongOf': WHATEVER THE INPUT: true; the input reads as it did. -/
def fnExactAlongOfSpec : ChangeSpec := { name := "fnExactAlongOf", fn := fun _ => fun
  | [d1, d2, d3, d4] => { results := [.lit (.bool true)], args := [d1, d2, d3, d4] }
  | _ => none }
def fnExactAlongOfRow : OpenClaim := { program := "yticebbkmakpkjaa", sum := "7a21ecb860716f46cb4bdbc782a97a45dfbdb0b025025234fbc8561ea3b5dbca", func := "loop.example/g03109/laws.FnExactAlongOf", spec := "fnExactAlongOf", unfollowed := true, recurses := true, apart := false }
def FnExactAlongOfSaid : Prop := fnExactAlongOfRow.holds Try.pinned (OpenSpec.ofChange fnExactAlongOfSpec)

/-- ITS FALSE NEIGHBOUR: 'it returns false'. Refute it at one input. -/
def fnExactAlongOfWrong : ChangeSpec := { name := "fnExactAlongOf", fn := fun _ => fun
  | [d1, d2, d3, d4] => { results := [.lit (.bool false)], args := [d1, d2, d3, d4] }
  | _ => none }
def FnExactAlongOfWrongFalsely : Prop := fnExactAlongOfRow.holds Try.pinned (OpenSpec.ofChange fnExactAlongOfWrong)

/-- 'laws.FnExactDifferentialOf': WHATEVER THE INPUT: true; the input reads as it did. -/
def fnExactDifferentialOfSpec : ChangeSpec := { name := "fnExactDifferentialOf", fn := fun _ => fun
  | [d1, d2, d3] => { results := [.lit (.bool true)], args := [d1, d2, d3] }
  | _ => none }
def fnExactDifferentialOfRow : OpenClaim := { program := "yticebbkmakpkjaa", sum := "7a21ecb860716f46cb4bdbc782a97a45dfbdb0b025025234fbc8561ea3b5dbca", func := "loop.example/g03109/laws.FnExactDifferentialOf", spec := "fnExactDifferentialOf", unfollowed := true, recurses := true, apart := false }
def FnExactDifferentialOfSaid : Prop := fnExactDifferentialOfRow.holds Try.pinned (OpenSpec.ofChange fnExactDifferentialOfSpec)

/-- ITS FALSE NEIGHBOUR: 'it returns false'. Refute it at one input. -/
def fnExactDifferentialOfWrong : ChangeSpec := { name := "fnExactDifferentialOf", fn := fun _ => fun
  | [d1, d2, d3] => { results := [.lit (.bool false)], args := [d1, d2, d3] }
  | _ => none }
def FnExactDifferentialOfWrongFalsely : Prop := fnExactDifferentialOfRow.holds Try.pinned (OpenSpec.ofChange fnExactDifferentialOfWrong)

/-- 'laws.FnExactBettiOf': WHATEVER THE INPUT: true; the input reads as it did. -/
def fnExactBettiOfSpec : ChangeSpec := { name := "fnExactBettiOf", fn := fun _ => fun
  | [d] => { results := [.lit (.bool true)], args := [d] }
  | _ => none }
def fnExactBettiOfRow : OpenClaim := { program := "yticebbkmakpkjaa", sum := "7a21ecb860716f46cb4bdbc782a97a45dfbdb0b025025234fbc8561ea3b5dbca", func := "loop.example/g03109/laws.FnExactBettiOf", spec := "fnExactBettiOf", unfollowed := true, recurses := true, apart := false }
def FnExactBettiOfSaid : Prop := fnExactBettiOfRow.holds Try.pinned (OpenSpec.ofChange fnExactBettiOfSpec)

/-- ITS FALSE NEIGHBOUR: 'it returns false'. Refute it at one input. -/
def fnExactBettiOfWrong : ChangeSpec := { name := "fnExactBettiOf", fn := fun _ => fun
  | [d] => { results := [.lit (.bool false)], args := [d] }
  | _ => none }
def FnExactBettiOfWrongFalsely : Prop := fnExactBettiOfRow.holds Try.pinned (OpenSpec.ofChange fnExactBettiOfWrong)

/-- 'laws.FnExactPrimitiveOf': WHATEVER THE INPUT: true; the input reads as it did. -/
def fnExactPrimitiveOfSpec : ChangeSpec := { name := "fnExactPrimitiveOf", fn := fun _ => fun
  | [d1, d2, d3] => { results := [.lit (.bool true)], args := [d1, d2, d3] }
  | _ => none }
def fnExactPrimitiveOfRow : OpenClaim := { program := "yticebbkmakpkjaa", sum := "7a21ecb860716f46cb4bdbc782a97a45dfbdb0b025025234fbc8561ea3b5dbca", func := "loop.example/g03109/laws.FnExactPrimitiveOf", spec := "fnExactPrimitiveOf", unfollowed := true, recurses := true, apart := false }
def FnExactPrimitiveOfSaid : Prop := fnExactPrimitiveOfRow.holds Try.pinned (OpenSpec.ofChange fnExactPrimitiveOfSpec)

/-- ITS FALSE NEIGHBOUR: 'it returns false'. Refute it at one input. -/
def fnExactPrimitiveOfWrong : ChangeSpec := { name := "fnExactPrimitiveOf", fn := fun _ => fun
  | [d1, d2, d3] => { results := [.lit (.bool false)], args := [d1, d2, d3] }
  | _ => none }
def FnExactPrimitiveOfWrongFalsely : Prop := fnExactPrimitiveOfRow.holds Try.pinned (OpenSpec.ofChange fnExactPrimitiveOfWrong)

/-- 'laws.FnExactCohomologyOf': WHATEVER THE INPUT: true; the input reads as it did. -/
def fnExactCohomologyOfSpec : ChangeSpec := { name := "fnExactCohomologyOf", fn := fun _ => fun
  | [d1, d2] => { results := [.lit (.bool true)], args := [d1, d2] }
  | _ => none }
def fnExactCohomologyOfRow : OpenClaim := { program := "yticebbkmakpkjaa", sum := "7a21ecb860716f46cb4bdbc782a97a45dfbdb0b025025234fbc8561ea3b5dbca", func := "loop.example/g03109/laws.FnExactCohomologyOf", spec := "fnExactCohomologyOf", unfollowed := true, recurses := true, apart := false }
def FnExactCohomologyOfSaid : Prop := fnExactCohomologyOfRow.holds Try.pinned (OpenSpec.ofChange fnExactCohomologyOfSpec)

/-- ITS FALSE NEIGHBOUR: 'it returns false'. Refute it at one input. -/
def fnExactCohomologyOfWrong : ChangeSpec := { name := "fnExactCohomologyOf", fn := fun _ => fun
  | [d1, d2] => { results := [.lit (.bool false)], args := [d1, d2] }
  | _ => none }
def FnExactCohomologyOfWrongFalsely : Prop := fnExactCohomologyOfRow.holds Try.pinned (OpenSpec.ofChange fnExactCohomologyOfWrong)

/-- 'laws.FnExactSumAlgebras': WHATEVER THE INPUT: true; the input reads as it did. -/
def fnExactSumAlgebrasSpec : ChangeSpec := { name := "fnExactSumAlgebras", fn := fun _ => fun
  | [d1, d2] => { results := [.lit (.bool true)], args := [d1, d2] }
  | _ => none }
def fnExactSumAlgebrasRow : OpenClaim := { program := "yticebbkmakpkjaa", sum := "7a21ecb860716f46cb4bdbc782a97a45dfbdb0b025025234fbc8561ea3b5dbca", func := "loop.example/g03109/laws.FnExactSumAlgebras", spec := "fnExactSumAlgebras", unfollowed := true, recurses := true, apart := false }
def FnExactSumAlgebrasSaid : Prop := fnExactSumAlgebrasRow.holds Try.pinned (OpenSpec.ofChange fnExactSumAlgebrasSpec)

/-- ITS FALSE NEIGHBOUR: 'it returns false'. Refute it at one input. -/
def fnExactSumAlgebrasWrong : ChangeSpec := { name := "fnExactSumAlgebras", fn := fun _ => fun
  | [d1, d2] => { results := [.lit (.bool false)], args := [d1, d2] }
  | _ => none }
def FnExactSumAlgebrasWrongFalsely : Prop := fnExactSumAlgebrasRow.holds Try.pinned (OpenSpec.ofChange fnExactSumAlgebrasWrong)

/-- 'laws.FnExactKillingForm': WHATEVER THE INPUT: true; the input reads as it did. -/
def fnExactKillingFormSpec : ChangeSpec := { name := "fnExactKillingForm", fn := fun _ => fun
  | [d] => { results := [.lit (.bool true)], args := [d] }
  | _ => none }
def fnExactKillingFormRow : OpenClaim := { program := "yticebbkmakpkjaa", sum := "7a21ecb860716f46cb4bdbc782a97a45dfbdb0b025025234fbc8561ea3b5dbca", func := "loop.example/g03109/laws.FnExactKillingForm", spec := "fnExactKillingForm", unfollowed := true, recurses := true, apart := false }
def FnExactKillingFormSaid : Prop := fnExactKillingFormRow.holds Try.pinned (OpenSpec.ofChange fnExactKillingFormSpec)

/-- ITS FALSE NEIGHBOUR: 'it returns false'. Refute it at one input. -/
def fnExactKillingFormWrong : ChangeSpec := { name := "fnExactKillingForm", fn := fun _ => fun
  | [d] => { results := [.lit (.bool false)], args := [d] }
  | _ => none }
def FnExactKillingFormWrongFalsely : Prop := fnExactKillingFormRow.holds Try.pinned (OpenSpec.ofChange fnExactKillingFormWrong)

/-- 'laws.FnExactExtendBy': WHATEVER THE INPUT: true; the input reads as it did. -/
def fnExactExtendBySpec : ChangeSpec := { name := "fnExactExtendBy", fn := fun _ => fun
  | [d1, d2] => { results := [.lit (.bool true)], args := [d1, d2] }
  | _ => none }
def fnExactExtendByRow : OpenClaim := { program := "yticebbkmakpkjaa", sum := "7a21ecb860716f46cb4bdbc782a97a45dfbdb0b025025234fbc8561ea3b5dbca", func := "loop.example/g03109/laws.FnExactExtendBy", spec := "fnExactExtendBy", unfollowed := true, recurses := true, apart := false }
def FnExactExtendBySaid : Prop := fnExactExtendByRow.holds Try.pinned (OpenSpec.ofChange fnExactExtendBySpec)

/-- ITS FALSE NEIGHBOUR: 'it returns false'. Refute it at one input. -/
def fnExactExtendByWrong : ChangeSpec := { name := "fnExactExtendBy", fn := fun _ => fun
  | [d1, d2] => { results := [.lit (.bool false)], args := [d1, d2] }
  | _ => none }
def FnExactExtendByWrongFalsely : Prop := fnExactExtendByRow.holds Try.pinned (OpenSpec.ofChange fnExactExtendByWrong)

/-- 'laws.FnExactDerivations': WHATEVER THE INPUT: true; the input reads as it did. -/
def fnExactDerivationsSpec : ChangeSpec := { name := "fnExactDerivations", fn := fun _ => fun
  | [d] => { results := [.lit (.bool true)], args := [d] }
  | _ => none }
def fnExactDerivationsRow : OpenClaim := { program := "yticebbkmakpkjaa", sum := "7a21ecb860716f46cb4bdbc782a97a45dfbdb0b025025234fbc8561ea3b5dbca", func := "loop.example/g03109/laws.FnExactDerivations", spec := "fnExactDerivations", unfollowed := true, recurses := true, apart := false }
def FnExactDerivationsSaid : Prop := fnExactDerivationsRow.holds Try.pinned (OpenSpec.ofChange fnExactDerivationsSpec)

/-- ITS FALSE NEIGHBOUR: 'it returns false'. Refute it at one input. -/
def fnExactDerivationsWrong : ChangeSpec := { name := "fnExactDerivations", fn := fun _ => fun
  | [d] => { results := [.lit (.bool false)], args := [d] }
  | _ => none }
def FnExactDerivationsWrongFalsely : Prop := fnExactDerivationsRow.holds Try.pinned (OpenSpec.ofChange fnExactDerivationsWrong)

/-- 'laws.FnExactInvariantForms': WHATEVER THE INPUT: true; the input reads as it did. -/
def fnExactInvariantFormsSpec : ChangeSpec := { name := "fnExactInvariantForms", fn := fun _ => fun
  | [d] => { results := [.lit (.bool true)], args := [d] }
  | _ => none }
def fnExactInvariantFormsRow : OpenClaim := { program := "yticebbkmakpkjaa", sum := "7a21ecb860716f46cb4bdbc782a97a45dfbdb0b025025234fbc8561ea3b5dbca", func := "loop.example/g03109/laws.FnExactInvariantForms", spec := "fnExactInvariantForms", unfollowed := true, recurses := true, apart := false }
def FnExactInvariantFormsSaid : Prop := fnExactInvariantFormsRow.holds Try.pinned (OpenSpec.ofChange fnExactInvariantFormsSpec)

/-- ITS FALSE NEIGHBOUR: 'it returns false'. Refute it at one input. -/
def fnExactInvariantFormsWrong : ChangeSpec := { name := "fnExactInvariantForms", fn := fun _ => fun
  | [d] => { results := [.lit (.bool false)], args := [d] }
  | _ => none }
def FnExactInvariantFormsWrongFalsely : Prop := fnExactInvariantFormsRow.holds Try.pinned (OpenSpec.ofChange fnExactInvariantFormsWrong)

/- THE SECOND FORM. 'bulk': how many values and letters a reading holds, each counted each time it is reached (what is shared counts as often as it is met; a slice's spare places count too). A statement '..UptoSaid' is the law's where the arguments, and the package variables that the reading takes, are together of bulk at most 1048576: NARROWER than '..Said'. Prove '..Said' where nothing that the law and all that it calls make is longer than what came in: it says more and counts as full. Else prove '..UptoSaid'. A law counts once. -/
mutual
def uptoBulk {H : Type} : DataW H → Nat
  | .lit (.string bytes) => bytes.length + 1
  | .lit _ => 1
  | .nil => 1
  | .ptr d => uptoBulk d + 1
  | .slice elems spare => uptoBulkAll elems + uptoBulkAll spare + 1
  | .agg parts => uptoBulkAll parts + 1
  | .iface _ d => uptoBulk d + 1
  | .map entries => uptoBulkEntries entries + 1
  | .held _ => 1
def uptoBulkAll {H : Type} : List (DataW H) → Nat
  | [] => 0
  | d :: r => uptoBulk d + uptoBulkAll r
def uptoBulkEntries {H : Type} : List (Lit × DataW H) → Nat
  | [] => 0
  | x :: r => uptoBulkEntry x + uptoBulkEntries r
def uptoBulkEntry {H : Type} : Lit × DataW H → Nat
  | (.string bytes, d) => bytes.length + uptoBulk d + 1
  | (_, d) => uptoBulk d + 1
 end
def uptoSmall : (H : Type) → List (DataW H) → Bool := fun _ ds => decide (uptoBulkAll ds ≤ 1048576)
def OpenSpec.upto (s : _root_.Go.ChangeSpec) : _root_.Go.OpenSpec := { _root_.Go.OpenSpec.ofChange s with cond := some uptoSmall }

/-- 'laws.FnExactIsClosed', WHERE WHAT IT READS IS OF BULK AT MOST 1048576: true; the input reads as it did. -/
def fnExactIsClosedUptoRow : OpenClaim := { program := "yticebbkmakpkjaa", sum := "7a21ecb860716f46cb4bdbc782a97a45dfbdb0b025025234fbc8561ea3b5dbca", func := "loop.example/g03109/laws.FnExactIsClosed", spec := "fnExactIsClosed", unfollowed := true, recurses := true, apart := false, narrowed := true }
def FnExactIsClosedUptoSaid : Prop := fnExactIsClosedUptoRow.holds Try.pinned (OpenSpec.upto fnExactIsClosedSpec)

/-- 'laws.FnExactWedgeOf', WHERE WHAT IT READS IS OF BULK AT MOST 1048576: true; the input reads as it did. -/
def fnExactWedgeOfUptoRow : OpenClaim := { program := "yticebbkmakpkjaa", sum := "7a21ecb860716f46cb4bdbc782a97a45dfbdb0b025025234fbc8561ea3b5dbca", func := "loop.example/g03109/laws.FnExactWedgeOf", spec := "fnExactWedgeOf", unfollowed := true, recurses := true, apart := false, narrowed := true }
def FnExactWedgeOfUptoSaid : Prop := fnExactWedgeOfUptoRow.holds Try.pinned (OpenSpec.upto fnExactWedgeOfSpec)

/-- 'laws.FnExactAlongOf', WHERE WHAT IT READS IS OF BULK AT MOST 1048576: true; the input reads as it did. -/
def fnExactAlongOfUptoRow : OpenClaim := { program := "yticebbkmakpkjaa", sum := "7a21ecb860716f46cb4bdbc782a97a45dfbdb0b025025234fbc8561ea3b5dbca", func := "loop.example/g03109/laws.FnExactAlongOf", spec := "fnExactAlongOf", unfollowed := true, recurses := true, apart := false, narrowed := true }
def FnExactAlongOfUptoSaid : Prop := fnExactAlongOfUptoRow.holds Try.pinned (OpenSpec.upto fnExactAlongOfSpec)

/-- 'laws.FnExactDifferentialOf', WHERE WHAT IT READS IS OF BULK AT MOST 1048576: true; the input reads as it did. -/
def fnExactDifferentialOfUptoRow : OpenClaim := { program := "yticebbkmakpkjaa", sum := "7a21ecb860716f46cb4bdbc782a97a45dfbdb0b025025234fbc8561ea3b5dbca", func := "loop.example/g03109/laws.FnExactDifferentialOf", spec := "fnExactDifferentialOf", unfollowed := true, recurses := true, apart := false, narrowed := true }
def FnExactDifferentialOfUptoSaid : Prop := fnExactDifferentialOfUptoRow.holds Try.pinned (OpenSpec.upto fnExactDifferentialOfSpec)

/-- 'laws.FnExactBettiOf', WHERE WHAT IT READS IS OF BULK AT MOST 1048576: true; the input reads as it did. -/
def fnExactBettiOfUptoRow : OpenClaim := { program := "yticebbkmakpkjaa", sum := "7a21ecb860716f46cb4bdbc782a97a45dfbdb0b025025234fbc8561ea3b5dbca", func := "loop.example/g03109/laws.FnExactBettiOf", spec := "fnExactBettiOf", unfollowed := true, recurses := true, apart := false, narrowed := true }
def FnExactBettiOfUptoSaid : Prop := fnExactBettiOfUptoRow.holds Try.pinned (OpenSpec.upto fnExactBettiOfSpec)

/-- 'laws.FnExactPrimitiveOf', WHERE WHAT IT READS IS OF BULK AT MOST 1048576: true; the input reads as it did. -/
def fnExactPrimitiveOfUptoRow : OpenClaim := { program := "yticebbkmakpkjaa", sum := "7a21ecb860716f46cb4bdbc782a97a45dfbdb0b025025234fbc8561ea3b5dbca", func := "loop.example/g03109/laws.FnExactPrimitiveOf", spec := "fnExactPrimitiveOf", unfollowed := true, recurses := true, apart := false, narrowed := true }
def FnExactPrimitiveOfUptoSaid : Prop := fnExactPrimitiveOfUptoRow.holds Try.pinned (OpenSpec.upto fnExactPrimitiveOfSpec)

/-- 'laws.FnExactCohomologyOf', WHERE WHAT IT READS IS OF BULK AT MOST 1048576: true; the input reads as it did. -/
def fnExactCohomologyOfUptoRow : OpenClaim := { program := "yticebbkmakpkjaa", sum := "7a21ecb860716f46cb4bdbc782a97a45dfbdb0b025025234fbc8561ea3b5dbca", func := "loop.example/g03109/laws.FnExactCohomologyOf", spec := "fnExactCohomologyOf", unfollowed := true, recurses := true, apart := false, narrowed := true }
def FnExactCohomologyOfUptoSaid : Prop := fnExactCohomologyOfUptoRow.holds Try.pinned (OpenSpec.upto fnExactCohomologyOfSpec)

/-- 'laws.FnExactSumAlgebras', WHERE WHAT IT READS IS OF BULK AT MOST 1048576: true; the input reads as it did. -/
def fnExactSumAlgebrasUptoRow : OpenClaim := { program := "yticebbkmakpkjaa", sum := "7a21ecb860716f46cb4bdbc782a97a45dfbdb0b025025234fbc8561ea3b5dbca", func := "loop.example/g03109/laws.FnExactSumAlgebras", spec := "fnExactSumAlgebras", unfollowed := true, recurses := true, apart := false, narrowed := true }
def FnExactSumAlgebrasUptoSaid : Prop := fnExactSumAlgebrasUptoRow.holds Try.pinned (OpenSpec.upto fnExactSumAlgebrasSpec)

/-- 'laws.FnExactKillingForm', WHERE WHAT IT READS IS OF BULK AT MOST 1048576: true; the input reads as it did. -/
def fnExactKillingFormUptoRow : OpenClaim := { program := "yticebbkmakpkjaa", sum := "7a21ecb860716f46cb4bdbc782a97a45dfbdb0b025025234fbc8561ea3b5dbca", func := "loop.example/g03109/laws.FnExactKillingForm", spec := "fnExactKillingForm", unfollowed := true, recurses := true, apart := false, narrowed := true }
def FnExactKillingFormUptoSaid : Prop := fnExactKillingFormUptoRow.holds Try.pinned (OpenSpec.upto fnExactKillingFormSpec)

/-- 'laws.FnExactExtendBy', WHERE WHAT IT READS IS OF BULK AT MOST 1048576: true; the input reads as it did. -/
def fnExactExtendByUptoRow : OpenClaim := { program := "yticebbkmakpkjaa", sum := "7a21ecb860716f46cb4bdbc782a97a45dfbdb0b025025234fbc8561ea3b5dbca", func := "loop.example/g03109/laws.FnExactExtendBy", spec := "fnExactExtendBy", unfollowed := true, recurses := true, apart := false, narrowed := true }
def FnExactExtendByUptoSaid : Prop := fnExactExtendByUptoRow.holds Try.pinned (OpenSpec.upto fnExactExtendBySpec)

/-- 'laws.FnExactDerivations', WHERE WHAT IT READS IS OF BULK AT MOST 1048576: true; the input reads as it did. -/
def fnExactDerivationsUptoRow : OpenClaim := { program := "yticebbkmakpkjaa", sum := "7a21ecb860716f46cb4bdbc782a97a45dfbdb0b025025234fbc8561ea3b5dbca", func := "loop.example/g03109/laws.FnExactDerivations", spec := "fnExactDerivations", unfollowed := true, recurses := true, apart := false, narrowed := true }
def FnExactDerivationsUptoSaid : Prop := fnExactDerivationsUptoRow.holds Try.pinned (OpenSpec.upto fnExactDerivationsSpec)

/-- 'laws.FnExactInvariantForms', WHERE WHAT IT READS IS OF BULK AT MOST 1048576: true; the input reads as it did. -/
def fnExactInvariantFormsUptoRow : OpenClaim := { program := "yticebbkmakpkjaa", sum := "7a21ecb860716f46cb4bdbc782a97a45dfbdb0b025025234fbc8561ea3b5dbca", func := "loop.example/g03109/laws.FnExactInvariantForms", spec := "fnExactInvariantForms", unfollowed := true, recurses := true, apart := false, narrowed := true }
def FnExactInvariantFormsUptoSaid : Prop := fnExactInvariantFormsUptoRow.holds Try.pinned (OpenSpec.upto fnExactInvariantFormsSpec)

end Rows
end Go.Proofs.Yticebbkmakpkjaa
