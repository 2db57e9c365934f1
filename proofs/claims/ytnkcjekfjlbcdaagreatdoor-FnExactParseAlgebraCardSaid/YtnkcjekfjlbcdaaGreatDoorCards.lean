/-
  DERIVED. GIVEN WITH THE SEED: THE CARDS: each row of YtnkcjekfjlbcdaaGreatDoorRows.lean that lists a variable, with what it lists TIED to the program's text (the seventh form; the later family's looks); each row that meets fmt, with fmt's text TOLD by the authors' own Lean function (tested against real Go, not proved from fmt's source: count such statements apart). THE CARD IS WHAT COUNTS. Prove the row's statement (the work); the ties are given (YtnkcjekfjlbcdaaGreatDoorTie.lean); close each card by the builder's one call (the guide's Derived/Test/ToyasCard.lean, 'card_holds'). Laid BY PROGRAM, IN A SANDBOX (cutbox-door.mjs). By AI agents, Wed Nov 11 2026. No macro, syntax, notation, axiom, sorry.
-/
import Derived.Test.YtnkcjekfjlbcdaaGreatDoorRows
import GoSem.ClaimSeven
namespace Go.Proofs.YtnkcjekfjlbcdaaGreatDoor
namespace Rows

/-- THE TIED CARD OF 'laws.FnExactParseAlgebra'. -/
def fnExactParseAlgebraCard : Claim7 := { stood := { row := fnExactParseAlgebraRow, standIns := [], harness := (true, "d020eb3b1a4826e3e979d6c126af49b49bfcc3feafee1b4f297d1967dcba5825"), looks := true }, kinds := [], alts := [], laidByText := true, laidKinds := [.data, .data, .data, .data, .sentinel, .sentinel, .pinned], laidTests := true, laidLooks := .later }
def FnExactParseAlgebraCardSaid : Prop := Claim7.holds Tryz.pinned (.plain (OpenSpec.ofChange fnExactParseAlgebraSpec)) fnExactParseAlgebraCard

/-- THE SECOND FORM's CARD OF 'laws.FnExactParseAlgebra'. -/
def fnExactParseAlgebraUptoCard : Claim7 := { stood := { row := fnExactParseAlgebraUptoRow, standIns := [], harness := (true, "d020eb3b1a4826e3e979d6c126af49b49bfcc3feafee1b4f297d1967dcba5825"), looks := true }, kinds := [], alts := [], laidByText := true, laidKinds := [.data, .data, .data, .data, .sentinel, .sentinel, .pinned], laidTests := true, laidLooks := .later }
def FnExactParseAlgebraUptoCardSaid : Prop := Claim7.holds Tryz.pinned (.plain (OpenSpec.upto fnExactParseAlgebraSpec)) fnExactParseAlgebraUptoCard
end Rows
end Go.Proofs.YtnkcjekfjlbcdaaGreatDoor
