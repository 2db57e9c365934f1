/-
  DERIVED. GIVEN WITH THE SEED: THE CARDS: each row of YtnkcjekfjlbcdaaDoorRows.lean that lists a variable, with what it lists TIED to the program's text (the seventh form; the later family's looks); each row that meets fmt, with fmt's text TOLD by the authors' own Lean function (tested against real Go, not proved from fmt's source: count such statements apart). THE CARD IS WHAT COUNTS. Prove the row's statement (the work); the ties are given (YtnkcjekfjlbcdaaDoorTie.lean); close each card by the builder's one call (the guide's Derived/Test/ToyasCard.lean, 'card_holds'). Laid BY PROGRAM, IN A SANDBOX (cutbox-door.mjs). By AI agents, Wed Nov 11 2026. No macro, syntax, notation, axiom, sorry.
-/
import Derived.Test.YtnkcjekfjlbcdaaDoorRows
import GoSem.ClaimSeven
namespace Go.Proofs.YtnkcjekfjlbcdaaDoor
namespace Rows

/-- THE TIED CARD OF 'laws.FnExactFormatAlgebra'. -/
def fnExactFormatAlgebraCard : Claim7 := { stood := { row := fnExactFormatAlgebraRow, standIns := [], harness := (true, "306e707341c0998ad1965557a3054e588ee8c72cbbc381de898e68a14abbbdc2"), looks := false }, kinds := [], alts := [], laidByText := true, laidKinds := [.data, .data, .data], laidTests := true, laidLooks := .later }
def FnExactFormatAlgebraCardSaid : Prop := Claim7.holds Tryd.pinned (.plain (OpenSpec.ofChange fnExactFormatAlgebraSpec)) fnExactFormatAlgebraCard

/-- THE SECOND FORM's CARD OF 'laws.FnExactFormatAlgebra'. -/
def fnExactFormatAlgebraUptoCard : Claim7 := { stood := { row := fnExactFormatAlgebraUptoRow, standIns := [], harness := (true, "306e707341c0998ad1965557a3054e588ee8c72cbbc381de898e68a14abbbdc2"), looks := false }, kinds := [], alts := [], laidByText := true, laidKinds := [.data, .data, .data], laidTests := true, laidLooks := .later }
def FnExactFormatAlgebraUptoCardSaid : Prop := Claim7.holds Tryd.pinned (.plain (OpenSpec.upto fnExactFormatAlgebraSpec)) fnExactFormatAlgebraUptoCard
end Rows
end Go.Proofs.YtnkcjekfjlbcdaaDoor
