/-
  DERIVED. GIVEN WITH THE SEED: THE CARDS: each row of YtfhijaldecbahaaDoorRows.lean that lists a variable, with what it lists TIED to the program's text (the seventh form; the later family's looks); each row that meets fmt, with fmt's text TOLD by the authors' own Lean function (tested against real Go, not proved from fmt's source: count such statements apart). THE CARD IS WHAT COUNTS. Prove the row's statement (the work); the ties are given (YtfhijaldecbahaaDoorTie.lean); close each card by the builder's one call (the guide's Derived/Test/ToyasCard.lean, 'card_holds'). Laid BY PROGRAM, IN A SANDBOX (cutbox-door.mjs). By AI agents, Wed Nov 11 2026. No macro, syntax, notation, axiom, sorry.
-/
import Derived.Test.YtfhijaldecbahaaDoorRows
import GoSem.ClaimSeven
namespace Go.Proofs.YtfhijaldecbahaaDoor
namespace Rows

/-- THE TIED CARD OF 'laws.FnExactParseInts'. -/
def fnExactParseIntsCard : Claim7 := { stood := { row := fnExactParseIntsRow, standIns := [], harness := (true, "00cff4fccd920dfa585f17c81768bec38e2d650fd0fda89fc6cab133afdec0fd"), looks := true }, kinds := [], alts := [], laidByText := true, laidKinds := [.data, .data, .data, .data, .sentinel, .sentinel, .pinned], laidTests := true, laidLooks := .later }
def FnExactParseIntsCardSaid : Prop := Claim7.holds Tryd.pinned (.plain (OpenSpec.ofChange fnExactParseIntsSpec)) fnExactParseIntsCard

/-- THE TIED CARD OF 'laws.FnInts'. -/
def fnIntsCard : Claim7 := { stood := { row := fnIntsRow, standIns := [], harness := (true, "00cff4fccd920dfa585f17c81768bec38e2d650fd0fda89fc6cab133afdec0fd"), looks := true }, kinds := [], alts := [], laidByText := true, laidKinds := [.data, .data, .data, .data, .sentinel, .sentinel, .pinned], laidTests := true, laidLooks := .later }
def FnIntsCardSaid : Prop := Claim7.holds Tryd.pinned (.plain (OpenSpec.ofChange fnIntsSpec)) fnIntsCard

/-- THE TIED CARD OF 'laws.FnExactFormatInt'. -/
def fnExactFormatIntCard : Claim7 := { stood := { row := fnExactFormatIntRow, standIns := [], harness := (true, "00cff4fccd920dfa585f17c81768bec38e2d650fd0fda89fc6cab133afdec0fd"), looks := true }, kinds := [], alts := [], laidByText := true, laidKinds := [.data, .data, .data], laidTests := true, laidLooks := .later }
def FnExactFormatIntCardSaid : Prop := Claim7.holds Tryd.pinned (.plain (OpenSpec.ofChange fnExactFormatIntSpec)) fnExactFormatIntCard

/-- THE TIED CARD OF 'laws.FnExactFormatInts'. -/
def fnExactFormatIntsCard : Claim7 := { stood := { row := fnExactFormatIntsRow, standIns := [], harness := (true, "00cff4fccd920dfa585f17c81768bec38e2d650fd0fda89fc6cab133afdec0fd"), looks := true }, kinds := [], alts := [], laidByText := true, laidKinds := [.data, .data, .data], laidTests := true, laidLooks := .later }
def FnExactFormatIntsCardSaid : Prop := Claim7.holds Tryd.pinned (.plain (OpenSpec.ofChange fnExactFormatIntsSpec)) fnExactFormatIntsCard

/-- THE TIED CARD OF 'laws.FnExactFormatAlgebra'. -/
def fnExactFormatAlgebraCard : Claim7 := { stood := { row := fnExactFormatAlgebraRow, standIns := [], harness := (true, "00cff4fccd920dfa585f17c81768bec38e2d650fd0fda89fc6cab133afdec0fd"), looks := true }, kinds := [], alts := [], laidByText := true, laidKinds := [.data, .data, .data], laidTests := true, laidLooks := .later }
def FnExactFormatAlgebraCardSaid : Prop := Claim7.holds Tryd.pinned (.plain (OpenSpec.ofChange fnExactFormatAlgebraSpec)) fnExactFormatAlgebraCard

/-- THE SECOND FORM's CARD OF 'laws.FnExactParseInts'. -/
def fnExactParseIntsUptoCard : Claim7 := { stood := { row := fnExactParseIntsUptoRow, standIns := [], harness := (true, "00cff4fccd920dfa585f17c81768bec38e2d650fd0fda89fc6cab133afdec0fd"), looks := true }, kinds := [], alts := [], laidByText := true, laidKinds := [.data, .data, .data, .data, .sentinel, .sentinel, .pinned], laidTests := true, laidLooks := .later }
def FnExactParseIntsUptoCardSaid : Prop := Claim7.holds Tryd.pinned (.plain (OpenSpec.upto fnExactParseIntsSpec)) fnExactParseIntsUptoCard

/-- THE SECOND FORM's CARD OF 'laws.FnInts'. -/
def fnIntsUptoCard : Claim7 := { stood := { row := fnIntsUptoRow, standIns := [], harness := (true, "00cff4fccd920dfa585f17c81768bec38e2d650fd0fda89fc6cab133afdec0fd"), looks := true }, kinds := [], alts := [], laidByText := true, laidKinds := [.data, .data, .data, .data, .sentinel, .sentinel, .pinned], laidTests := true, laidLooks := .later }
def FnIntsUptoCardSaid : Prop := Claim7.holds Tryd.pinned (.plain (OpenSpec.upto fnIntsSpec)) fnIntsUptoCard

/-- THE SECOND FORM's CARD OF 'laws.FnExactFormatInt'. -/
def fnExactFormatIntUptoCard : Claim7 := { stood := { row := fnExactFormatIntUptoRow, standIns := [], harness := (true, "00cff4fccd920dfa585f17c81768bec38e2d650fd0fda89fc6cab133afdec0fd"), looks := true }, kinds := [], alts := [], laidByText := true, laidKinds := [.data, .data, .data], laidTests := true, laidLooks := .later }
def FnExactFormatIntUptoCardSaid : Prop := Claim7.holds Tryd.pinned (.plain (OpenSpec.upto fnExactFormatIntSpec)) fnExactFormatIntUptoCard

/-- THE SECOND FORM's CARD OF 'laws.FnExactFormatInts'. -/
def fnExactFormatIntsUptoCard : Claim7 := { stood := { row := fnExactFormatIntsUptoRow, standIns := [], harness := (true, "00cff4fccd920dfa585f17c81768bec38e2d650fd0fda89fc6cab133afdec0fd"), looks := true }, kinds := [], alts := [], laidByText := true, laidKinds := [.data, .data, .data], laidTests := true, laidLooks := .later }
def FnExactFormatIntsUptoCardSaid : Prop := Claim7.holds Tryd.pinned (.plain (OpenSpec.upto fnExactFormatIntsSpec)) fnExactFormatIntsUptoCard

/-- THE SECOND FORM's CARD OF 'laws.FnExactFormatAlgebra'. -/
def fnExactFormatAlgebraUptoCard : Claim7 := { stood := { row := fnExactFormatAlgebraUptoRow, standIns := [], harness := (true, "00cff4fccd920dfa585f17c81768bec38e2d650fd0fda89fc6cab133afdec0fd"), looks := true }, kinds := [], alts := [], laidByText := true, laidKinds := [.data, .data, .data], laidTests := true, laidLooks := .later }
def FnExactFormatAlgebraUptoCardSaid : Prop := Claim7.holds Tryd.pinned (.plain (OpenSpec.upto fnExactFormatAlgebraSpec)) fnExactFormatAlgebraUptoCard
end Rows
end Go.Proofs.YtfhijaldecbahaaDoor
