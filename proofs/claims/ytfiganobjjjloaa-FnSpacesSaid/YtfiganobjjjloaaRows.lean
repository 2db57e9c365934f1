/-
  No cell of these rows narrows 'for every input' (looked for: loops, veiled, ifaces, maps, wideKeys, modest, calm, conditions, laid).
  DERIVED. THE GIVEN ROWS OF THIS SEAT. 9 by the template 'for every input the law returns true; each argument reads behind the call as it read before'; 0 by the template 'total and deterministic' (their statements: YtfiganobjjjloaaTotals.lean).
  GIVEN WITH THE SEED: the statements are not yours to turn. If you find one false, say at which input.
  Laid BY PROGRAM, IN A SANDBOX (cutbox-rows.mjs): the forced cells as the released guide's own fill.sh prints them over the translation dd9f280f22f57dc6… (all of the seat's roots in one cut). By AI agents, Wed Nov 11 2026. No macro, syntax, notation, axiom, sorry.
-/
import Derived.Test.YtfiganobjjjloaaChecked
import GoSem.Claim
import GoSem.ClaimJoined
import GoSem.ClaimMapViews
import Derived.JoinedTies
import Derived.KernelRfl
namespace Go.Proofs.Ytfiganobjjjloaa
/- THE CELL 'sum', in the pinned program and in every row, IS THE sha256 OF THE DUMP (.gsa) THAT YtfiganobjjjloaaProg.lean LOADS. Nothing in Lean hashes anything: it is a label: what it is worth is what the hold of that sum in a sandbox is worth. -/
noncomputable def Try.pinned : Pinned := { name := "ytfiganobjjjloaa", sum := "dd9f280f22f57dc6cf6fc1031833cc3d803a74ff1daaacbcb019aba54bfc80d7", checked := Try.checked }
namespace Rows
def none {H : Type} : Left H := { results := [], args := [] }

/-- 'laws.FnExactInverseMatrix': WHATEVER THE INPUT: true; the input reads as it did. -/
def fnExactInverseMatrixSpec : ChangeSpec := { name := "fnExactInverseMatrix", fn := fun _ => fun
  | [d] => { results := [.lit (.bool true)], args := [d] }
  | _ => none }
def fnExactInverseMatrixRow : OpenClaim := { program := "ytfiganobjjjloaa", sum := "dd9f280f22f57dc6cf6fc1031833cc3d803a74ff1daaacbcb019aba54bfc80d7", func := "loop.example/g03109/laws.FnExactInverseMatrix", spec := "fnExactInverseMatrix", unfollowed := true, recurses := true, apart := false }
def FnExactInverseMatrixSaid : Prop := fnExactInverseMatrixRow.holds Try.pinned (OpenSpec.ofChange fnExactInverseMatrixSpec)

/-- ITS FALSE NEIGHBOUR: 'it returns false'. Refute it at one input. -/
def fnExactInverseMatrixWrong : ChangeSpec := { name := "fnExactInverseMatrix", fn := fun _ => fun
  | [d] => { results := [.lit (.bool false)], args := [d] }
  | _ => none }
def FnExactInverseMatrixWrongFalsely : Prop := fnExactInverseMatrixRow.holds Try.pinned (OpenSpec.ofChange fnExactInverseMatrixWrong)

/-- 'laws.FnSolved': WHATEVER THE INPUT: true; the input reads as it did. -/
def fnSolvedSpec : ChangeSpec := { name := "fnSolved", fn := fun _ => fun
  | [d] => { results := [.lit (.bool true)], args := [d] }
  | _ => none }
def fnSolvedRow : OpenClaim := { program := "ytfiganobjjjloaa", sum := "dd9f280f22f57dc6cf6fc1031833cc3d803a74ff1daaacbcb019aba54bfc80d7", func := "loop.example/g03109/laws.FnSolved", spec := "fnSolved", unfollowed := true, recurses := true, apart := false }
def FnSolvedSaid : Prop := fnSolvedRow.holds Try.pinned (OpenSpec.ofChange fnSolvedSpec)

/-- ITS FALSE NEIGHBOUR: 'it returns false'. Refute it at one input. -/
def fnSolvedWrong : ChangeSpec := { name := "fnSolved", fn := fun _ => fun
  | [d] => { results := [.lit (.bool false)], args := [d] }
  | _ => none }
def FnSolvedWrongFalsely : Prop := fnSolvedRow.holds Try.pinned (OpenSpec.ofChange fnSolvedWrong)

/-- 'laws.FnNilpotent': WHATEVER THE INPUT: true; the input reads as it did. -/
def fnNilpotentSpec : ChangeSpec := { name := "fnNilpotent", fn := fun _ => fun
  | [d] => { results := [.lit (.bool true)], args := [d] }
  | _ => none }
def fnNilpotentRow : OpenClaim := { program := "ytfiganobjjjloaa", sum := "dd9f280f22f57dc6cf6fc1031833cc3d803a74ff1daaacbcb019aba54bfc80d7", func := "loop.example/g03109/laws.FnNilpotent", spec := "fnNilpotent", unfollowed := true, recurses := true, apart := false }
def FnNilpotentSaid : Prop := fnNilpotentRow.holds Try.pinned (OpenSpec.ofChange fnNilpotentSpec)

/-- ITS FALSE NEIGHBOUR: 'it returns false'. Refute it at one input. -/
def fnNilpotentWrong : ChangeSpec := { name := "fnNilpotent", fn := fun _ => fun
  | [d] => { results := [.lit (.bool false)], args := [d] }
  | _ => none }
def FnNilpotentWrongFalsely : Prop := fnNilpotentRow.holds Try.pinned (OpenSpec.ofChange fnNilpotentWrong)

/-- 'laws.FnDeterminants': WHATEVER THE INPUT: true; the input reads as it did. -/
def fnDeterminantsSpec : ChangeSpec := { name := "fnDeterminants", fn := fun _ => fun
  | [d] => { results := [.lit (.bool true)], args := [d] }
  | _ => none }
def fnDeterminantsRow : OpenClaim := { program := "ytfiganobjjjloaa", sum := "dd9f280f22f57dc6cf6fc1031833cc3d803a74ff1daaacbcb019aba54bfc80d7", func := "loop.example/g03109/laws.FnDeterminants", spec := "fnDeterminants", unfollowed := true, recurses := true, apart := false }
def FnDeterminantsSaid : Prop := fnDeterminantsRow.holds Try.pinned (OpenSpec.ofChange fnDeterminantsSpec)

/-- ITS FALSE NEIGHBOUR: 'it returns false'. Refute it at one input. -/
def fnDeterminantsWrong : ChangeSpec := { name := "fnDeterminants", fn := fun _ => fun
  | [d] => { results := [.lit (.bool false)], args := [d] }
  | _ => none }
def FnDeterminantsWrongFalsely : Prop := fnDeterminantsRow.holds Try.pinned (OpenSpec.ofChange fnDeterminantsWrong)

/-- 'laws.FnSpaces': WHATEVER THE INPUT: true; the input reads as it did. -/
def fnSpacesSpec : ChangeSpec := { name := "fnSpaces", fn := fun _ => fun
  | [d] => { results := [.lit (.bool true)], args := [d] }
  | _ => none }
def fnSpacesRow : OpenClaim := { program := "ytfiganobjjjloaa", sum := "dd9f280f22f57dc6cf6fc1031833cc3d803a74ff1daaacbcb019aba54bfc80d7", func := "loop.example/g03109/laws.FnSpaces", spec := "fnSpaces", unfollowed := true, recurses := true, apart := false }
def FnSpacesSaid : Prop := fnSpacesRow.holds Try.pinned (OpenSpec.ofChange fnSpacesSpec)

/-- ITS FALSE NEIGHBOUR: 'it returns false'. Refute it at one input. -/
def fnSpacesWrong : ChangeSpec := { name := "fnSpaces", fn := fun _ => fun
  | [d] => { results := [.lit (.bool false)], args := [d] }
  | _ => none }
def FnSpacesWrongFalsely : Prop := fnSpacesRow.holds Try.pinned (OpenSpec.ofChange fnSpacesWrong)

/-- 'laws.FnExactKillingForm': WHATEVER THE INPUT: true; the input reads as it did. -/
def fnExactKillingFormSpec : ChangeSpec := { name := "fnExactKillingForm", fn := fun _ => fun
  | [d] => { results := [.lit (.bool true)], args := [d] }
  | _ => none }
def fnExactKillingFormRow : OpenClaim := { program := "ytfiganobjjjloaa", sum := "dd9f280f22f57dc6cf6fc1031833cc3d803a74ff1daaacbcb019aba54bfc80d7", func := "loop.example/g03109/laws.FnExactKillingForm", spec := "fnExactKillingForm", unfollowed := true, recurses := true, apart := false }
def FnExactKillingFormSaid : Prop := fnExactKillingFormRow.holds Try.pinned (OpenSpec.ofChange fnExactKillingFormSpec)

/-- ITS FALSE NEIGHBOUR: 'it returns false'. Refute it at one input. -/
def fnExactKillingFormWrong : ChangeSpec := { name := "fnExactKillingForm", fn := fun _ => fun
  | [d] => { results := [.lit (.bool false)], args := [d] }
  | _ => none }
def FnExactKillingFormWrongFalsely : Prop := fnExactKillingFormRow.holds Try.pinned (OpenSpec.ofChange fnExactKillingFormWrong)

/-- 'laws.FnExactDerivations': WHATEVER THE INPUT: true; the input reads as it did. -/
def fnExactDerivationsSpec : ChangeSpec := { name := "fnExactDerivations", fn := fun _ => fun
  | [d] => { results := [.lit (.bool true)], args := [d] }
  | _ => none }
def fnExactDerivationsRow : OpenClaim := { program := "ytfiganobjjjloaa", sum := "dd9f280f22f57dc6cf6fc1031833cc3d803a74ff1daaacbcb019aba54bfc80d7", func := "loop.example/g03109/laws.FnExactDerivations", spec := "fnExactDerivations", unfollowed := true, recurses := true, apart := false }
def FnExactDerivationsSaid : Prop := fnExactDerivationsRow.holds Try.pinned (OpenSpec.ofChange fnExactDerivationsSpec)

/-- ITS FALSE NEIGHBOUR: 'it returns false'. Refute it at one input. -/
def fnExactDerivationsWrong : ChangeSpec := { name := "fnExactDerivations", fn := fun _ => fun
  | [d] => { results := [.lit (.bool false)], args := [d] }
  | _ => none }
def FnExactDerivationsWrongFalsely : Prop := fnExactDerivationsRow.holds Try.pinned (OpenSpec.ofChange fnExactDerivationsWrong)

/-- 'laws.FnExactInvariantForms': WHATEVER THE INPUT: true; the input reads as it did. -/
def fnExactInvariantFormsSpec : ChangeSpec := { name := "fnExactInvariantForms", fn := fun _ => fun
  | [d] => { results := [.lit (.bool true)], args := [d] }
  | _ => none }
def fnExactInvariantFormsRow : OpenClaim := { program := "ytfiganobjjjloaa", sum := "dd9f280f22f57dc6cf6fc1031833cc3d803a74ff1daaacbcb019aba54bfc80d7", func := "loop.example/g03109/laws.FnExactInvariantForms", spec := "fnExactInvariantForms", unfollowed := true, recurses := true, apart := false }
def FnExactInvariantFormsSaid : Prop := fnExactInvariantFormsRow.holds Try.pinned (OpenSpec.ofChange fnExactInvariantFormsSpec)

/-- ITS FALSE NEIGHBOUR: 'it returns false'. Refute it at one input. -/
def fnExactInvariantFormsWrong : ChangeSpec := { name := "fnExactInvariantForms", fn := fun _ => fun
  | [d] => { results := [.lit (.bool false)], args := [d] }
  | _ => none }
def FnExactInvariantFormsWrongFalsely : Prop := fnExactInvariantFormsRow.holds Try.pinned (OpenSpec.ofChange fnExactInvariantFormsWrong)

/-- 'laws.FnExactCohomologyOf': WHATEVER THE INPUT: true; the input reads as it did. -/
def fnExactCohomologyOfSpec : ChangeSpec := { name := "fnExactCohomologyOf", fn := fun _ => fun
  | [d1, d2] => { results := [.lit (.bool true)], args := [d1, d2] }
  | _ => none }
def fnExactCohomologyOfRow : OpenClaim := { program := "ytfiganobjjjloaa", sum := "dd9f280f22f57dc6cf6fc1031833cc3d803a74ff1daaacbcb019aba54bfc80d7", func := "loop.example/g03109/laws.FnExactCohomologyOf", spec := "fnExactCohomologyOf", unfollowed := true, recurses := true, apart := false }
def FnExactCohomologyOfSaid : Prop := fnExactCohomologyOfRow.holds Try.pinned (OpenSpec.ofChange fnExactCohomologyOfSpec)

/-- ITS FALSE NEIGHBOUR: 'it returns false'. Refute it at one input. -/
def fnExactCohomologyOfWrong : ChangeSpec := { name := "fnExactCohomologyOf", fn := fun _ => fun
  | [d1, d2] => { results := [.lit (.bool false)], args := [d1, d2] }
  | _ => none }
def FnExactCohomologyOfWrongFalsely : Prop := fnExactCohomologyOfRow.holds Try.pinned (OpenSpec.ofChange fnExactCohomologyOfWrong)

/- THE SECOND FORM. 'bulk': how many values and letters a reading holds, each counted each time it is reached (what is shared counts as often as it is met; a slice's spare places count too). A statement '..UptoSaid' is the law's where the arguments, and the package variables that the reading takes, are together of bulk at most 1048576: NARROWER than '..Said'. Prove '..Said' where nothing that the law and all that it calls make is longer than what came in: it says more and counts as full. Else prove '..UptoSaid'. A law counts once. -/
mutual
def uptoBulk {H : Type} : DataW H → Nat
  | .lit (.string bytes) => bytes.length + 1
  | .lit _ => 1
  | .nil => 1
  | .ptr d => uptoBulk d + 1
  | .slice elems spare => uptoBulkAll elems + uptoBulkAll spare + 1
  | .agg parts => uptoBulkAll parts + 1
  | .iface _ d => uptoBulk d + 1
  | .map entries => uptoBulkEntries entries + 1
  | .held _ => 1
def uptoBulkAll {H : Type} : List (DataW H) → Nat
  | [] => 0
  | d :: r => uptoBulk d + uptoBulkAll r
def uptoBulkEntries {H : Type} : List (Lit × DataW H) → Nat
  | [] => 0
  | x :: r => uptoBulkEntry x + uptoBulkEntries r
def uptoBulkEntry {H : Type} : Lit × DataW H → Nat
  | (.string bytes, d) => bytes.length + uptoBulk d + 1
  | (_, d) => uptoBulk d + 1
 end
def uptoSmall : (H : Type) → List (DataW H) → Bool := fun _ ds => decide (uptoBulkAll ds ≤ 1048576)
def OpenSpec.upto (s : _root_.Go.ChangeSpec) : _root_.Go.OpenSpec := { _root_.Go.OpenSpec.ofChange s with cond := some uptoSmall }

/-- 'laws.FnExactInverseMatrix', WHERE WHAT IT READS IS OF BULK AT MOST 1048576: true; the input reads as it did. -/
def fnExactInverseMatrixUptoRow : OpenClaim := { program := "ytfiganobjjjloaa", sum := "dd9f280f22f57dc6cf6fc1031833cc3d803a74ff1daaacbcb019aba54bfc80d7", func := "loop.example/g03109/laws.FnExactInverseMatrix", spec := "fnExactInverseMatrix", unfollowed := true, recurses := true, apart := false, narrowed := true }
def FnExactInverseMatrixUptoSaid : Prop := fnExactInverseMatrixUptoRow.holds Try.pinned (OpenSpec.upto fnExactInverseMatrixSpec)

/-- 'laws.FnSolved', WHERE WHAT IT READS IS OF BULK AT MOST 1048576: true; the input reads as it did. -/
def fnSolvedUptoRow : OpenClaim := { program := "ytfiganobjjjloaa", sum := "dd9f280f22f57dc6cf6fc1031833cc3d803a74ff1daaacbcb019aba54bfc80d7", func := "loop.example/g03109/laws.FnSolved", spec := "fnSolved", unfollowed := true, recurses := true, apart := false, narrowed := true }
def FnSolvedUptoSaid : Prop := fnSolvedUptoRow.holds Try.pinned (OpenSpec.upto fnSolvedSpec)

/-- 'laws.FnNilpotent', WHERE WHAT IT READS IS OF BULK AT MOST 1048576: true; the input reads as it did. -/
def fnNilpotentUptoRow : OpenClaim := { program := "ytfiganobjjjloaa", sum := "dd9f280f22f57dc6cf6fc1031833cc3d803a74ff1daaacbcb019aba54bfc80d7", func := "loop.example/g03109/laws.FnNilpotent", spec := "fnNilpotent", unfollowed := true, recurses := true, apart := false, narrowed := true }
def FnNilpotentUptoSaid : Prop := fnNilpotentUptoRow.holds Try.pinned (OpenSpec.upto fnNilpotentSpec)

/-- 'laws.FnDeterminants', WHERE WHAT IT READS IS OF BULK AT MOST 1048576: true; the input reads as it did. -/
def fnDeterminantsUptoRow : OpenClaim := { program := "ytfiganobjjjloaa", sum := "dd9f280f22f57dc6cf6fc1031833cc3d803a74ff1daaacbcb019aba54bfc80d7", func := "loop.example/g03109/laws.FnDeterminants", spec := "fnDeterminants", unfollowed := true, recurses := true, apart := false, narrowed := true }
def FnDeterminantsUptoSaid : Prop := fnDeterminantsUptoRow.holds Try.pinned (OpenSpec.upto fnDeterminantsSpec)

/-- 'laws.FnSpaces', WHERE WHAT IT READS IS OF BULK AT MOST 1048576: true; the input reads as it did. -/
def fnSpacesUptoRow : OpenClaim := { program := "ytfiganobjjjloaa", sum := "dd9f280f22f57dc6cf6fc1031833cc3d803a74ff1daaacbcb019aba54bfc80d7", func := "loop.example/g03109/laws.FnSpaces", spec := "fnSpaces", unfollowed := true, recurses := true, apart := false, narrowed := true }
def FnSpacesUptoSaid : Prop := fnSpacesUptoRow.holds Try.pinned (OpenSpec.upto fnSpacesSpec)

/-- 'laws.FnExactKillingForm', WHERE WHAT IT READS IS OF BULK AT MOST 1048576: true; the input reads as it did. -/
def fnExactKillingFormUptoRow : OpenClaim := { program := "ytfiganobjjjloaa", sum := "dd9f280f22f57dc6cf6fc1031833cc3d803a74ff1daaacbcb019aba54bfc80d7", func := "loop.example/g03109/laws.FnExactKillingForm", spec := "fnExactKillingForm", unfollowed := true, recurses := true, apart := false, narrowed := true }
def FnExactKillingFormUptoSaid : Prop := fnExactKillingFormUptoRow.holds Try.pinned (OpenSpec.upto fnExactKillingFormSpec)

/-- 'laws.FnExactDerivations', WHERE WHAT IT READS IS OF BULK AT MOST 1048576: true; the input reads as it did. -/
def fnExactDerivationsUptoRow : OpenClaim := { program := "ytfiganobjjjloaa", sum := "dd9f280f22f57dc6cf6fc1031833cc3d803a74ff1daaacbcb019aba54bfc80d7", func := "loop.example/g03109/laws.FnExactDerivations", spec := "fnExactDerivations", unfollowed := true, recurses := true, apart := false, narrowed := true }
def FnExactDerivationsUptoSaid : Prop := fnExactDerivationsUptoRow.holds Try.pinned (OpenSpec.upto fnExactDerivationsSpec)

/-- 'laws.FnExactInvariantForms', WHERE WHAT IT READS IS OF BULK AT MOST 1048576: true; the input reads as it did. -/
def fnExactInvariantFormsUptoRow : OpenClaim := { program := "ytfiganobjjjloaa", sum := "dd9f280f22f57dc6cf6fc1031833cc3d803a74ff1daaacbcb019aba54bfc80d7", func := "loop.example/g03109/laws.FnExactInvariantForms", spec := "fnExactInvariantForms", unfollowed := true, recurses := true, apart := false, narrowed := true }
def FnExactInvariantFormsUptoSaid : Prop := fnExactInvariantFormsUptoRow.holds Try.pinned (OpenSpec.upto fnExactInvariantFormsSpec)

/-- 'laws.FnExactCohomologyOf', WHERE WHAT IT READS IS OF BULK AT MOST 1048576: true; the input reads as it did. -/
def fnExactCohomologyOfUptoRow : OpenClaim := { program := "ytfiganobjjjloaa", sum := "dd9f280f22f57dc6cf6fc1031833cc3d803a74ff1daaacbcb019aba54bfc80d7", func := "loop.example/g03109/laws.FnExactCohomologyOf", spec := "fnExactCohomologyOf", unfollowed := true, recurses := true, apart := false, narrowed := true }
def FnExactCohomologyOfUptoSaid : Prop := fnExactCohomologyOfUptoRow.holds Try.pinned (OpenSpec.upto fnExactCohomologyOfSpec)

end Rows
end Go.Proofs.Ytfiganobjjjloaa
