/-
  DERIVED. GIVEN WITH THE SEED: THE CARDS: each row of YtpjhmeicbjkcdaaGreatDoorRows.lean that lists a variable, with what it lists TIED to the program's text (the seventh form; the later family's looks); each row that meets fmt, with fmt's text TOLD by the authors' own Lean function (tested against real Go, not proved from fmt's source: count such statements apart). THE CARD IS WHAT COUNTS. Prove the row's statement (the work); the ties are given (YtpjhmeicbjkcdaaGreatDoorTie.lean); close each card by the builder's one call (the guide's Derived/Test/ToyasCard.lean, 'card_holds'). Laid BY PROGRAM, IN A SANDBOX (cutbox-door.mjs). By AI agents, Wed Nov 11 2026. No macro, syntax, notation, axiom, sorry.
-/
import Derived.Test.YtpjhmeicbjkcdaaGreatDoorRows
import GoSem.ClaimSeven
namespace Go.Proofs.YtpjhmeicbjkcdaaGreatDoor
namespace Rows

/-- THE TIED CARD OF 'dowellaw36.DocumentChecks'. -/
def documentChecksCard : Claim7 := { stood := { row := documentChecksRow, standIns := [], harness := (true, "5524b49a99c14b84714612f17c4273e75e7ba66b67a78b9d8144231c70c6d12f"), looks := true }, kinds := [], alts := [], laidByText := true, laidKinds := [.data, .data, .data, .data, .sentinel, .sentinel, .listed, .data, .pinned], laidTests := true, laidLooks := .later }
def DocumentChecksCardSaid : Prop := Claim7.holds Tryz.pinned (.plain (OpenSpec.ofChange documentChecksSpec)) documentChecksCard

/-- THE TIED CARD OF 'dowellaw36.DocumentExprs'. -/
def documentExprsCard : Claim7 := { stood := { row := documentExprsRow, standIns := [], harness := (true, "5524b49a99c14b84714612f17c4273e75e7ba66b67a78b9d8144231c70c6d12f"), looks := true }, kinds := [], alts := [], laidByText := true, laidKinds := [.data, .data, .data, .data, .sentinel, .sentinel, .listed, .data, .pinned], laidTests := true, laidLooks := .later }
def DocumentExprsCardSaid : Prop := Claim7.holds Tryz.pinned (.plain (OpenSpec.ofChange documentExprsSpec)) documentExprsCard

/-- THE TIED CARD OF 'dowellaw36.DocumentBegins'. -/
def documentBeginsCard : Claim7 := { stood := { row := documentBeginsRow, standIns := [], harness := (true, "5524b49a99c14b84714612f17c4273e75e7ba66b67a78b9d8144231c70c6d12f"), looks := true }, kinds := [], alts := [], laidByText := true, laidKinds := [.data, .data, .data, .data, .sentinel, .sentinel, .listed, .data, .pinned], laidTests := true, laidLooks := .later }
def DocumentBeginsCardSaid : Prop := Claim7.holds Tryz.pinned (.plain (OpenSpec.ofChange documentBeginsSpec)) documentBeginsCard

/-- THE TIED CARD OF 'dowellaw36.DocumentBlanks'. -/
def documentBlanksCard : Claim7 := { stood := { row := documentBlanksRow, standIns := [], harness := (true, "5524b49a99c14b84714612f17c4273e75e7ba66b67a78b9d8144231c70c6d12f"), looks := true }, kinds := [], alts := [], laidByText := true, laidKinds := [.data, .data, .data, .data, .sentinel, .sentinel, .listed, .data, .pinned], laidTests := true, laidLooks := .later }
def DocumentBlanksCardSaid : Prop := Claim7.holds Tryz.pinned (.plain (OpenSpec.ofChange documentBlanksSpec)) documentBlanksCard

/-- THE TIED CARD OF 'dowellaw36.DocumentEquals'. -/
def documentEqualsCard : Claim7 := { stood := { row := documentEqualsRow, standIns := [], harness := (true, "5524b49a99c14b84714612f17c4273e75e7ba66b67a78b9d8144231c70c6d12f"), looks := true }, kinds := [], alts := [], laidByText := true, laidKinds := [.data, .data, .data, .data, .sentinel, .sentinel, .listed, .data, .pinned], laidTests := true, laidLooks := .later }
def DocumentEqualsCardSaid : Prop := Claim7.holds Tryz.pinned (.plain (OpenSpec.ofChange documentEqualsSpec)) documentEqualsCard

/-- THE TIED CARD OF 'dowellaw36.DocumentReturns'. -/
def documentReturnsCard : Claim7 := { stood := { row := documentReturnsRow, standIns := [], harness := (true, "5524b49a99c14b84714612f17c4273e75e7ba66b67a78b9d8144231c70c6d12f"), looks := true }, kinds := [], alts := [], laidByText := true, laidKinds := [.data, .data, .data, .data, .sentinel, .sentinel, .listed, .data, .pinned], laidTests := true, laidLooks := .later }
def DocumentReturnsCardSaid : Prop := Claim7.holds Tryz.pinned (.plain (OpenSpec.ofChange documentReturnsSpec)) documentReturnsCard

/-- THE SECOND FORM's CARD OF 'dowellaw36.DocumentChecks'. -/
def documentChecksUptoCard : Claim7 := { stood := { row := documentChecksUptoRow, standIns := [], harness := (true, "5524b49a99c14b84714612f17c4273e75e7ba66b67a78b9d8144231c70c6d12f"), looks := true }, kinds := [], alts := [], laidByText := true, laidKinds := [.data, .data, .data, .data, .sentinel, .sentinel, .listed, .data, .pinned], laidTests := true, laidLooks := .later }
def DocumentChecksUptoCardSaid : Prop := Claim7.holds Tryz.pinned (.plain (OpenSpec.upto documentChecksSpec)) documentChecksUptoCard

/-- THE SECOND FORM's CARD OF 'dowellaw36.DocumentExprs'. -/
def documentExprsUptoCard : Claim7 := { stood := { row := documentExprsUptoRow, standIns := [], harness := (true, "5524b49a99c14b84714612f17c4273e75e7ba66b67a78b9d8144231c70c6d12f"), looks := true }, kinds := [], alts := [], laidByText := true, laidKinds := [.data, .data, .data, .data, .sentinel, .sentinel, .listed, .data, .pinned], laidTests := true, laidLooks := .later }
def DocumentExprsUptoCardSaid : Prop := Claim7.holds Tryz.pinned (.plain (OpenSpec.upto documentExprsSpec)) documentExprsUptoCard

/-- THE SECOND FORM's CARD OF 'dowellaw36.DocumentBegins'. -/
def documentBeginsUptoCard : Claim7 := { stood := { row := documentBeginsUptoRow, standIns := [], harness := (true, "5524b49a99c14b84714612f17c4273e75e7ba66b67a78b9d8144231c70c6d12f"), looks := true }, kinds := [], alts := [], laidByText := true, laidKinds := [.data, .data, .data, .data, .sentinel, .sentinel, .listed, .data, .pinned], laidTests := true, laidLooks := .later }
def DocumentBeginsUptoCardSaid : Prop := Claim7.holds Tryz.pinned (.plain (OpenSpec.upto documentBeginsSpec)) documentBeginsUptoCard

/-- THE SECOND FORM's CARD OF 'dowellaw36.DocumentBlanks'. -/
def documentBlanksUptoCard : Claim7 := { stood := { row := documentBlanksUptoRow, standIns := [], harness := (true, "5524b49a99c14b84714612f17c4273e75e7ba66b67a78b9d8144231c70c6d12f"), looks := true }, kinds := [], alts := [], laidByText := true, laidKinds := [.data, .data, .data, .data, .sentinel, .sentinel, .listed, .data, .pinned], laidTests := true, laidLooks := .later }
def DocumentBlanksUptoCardSaid : Prop := Claim7.holds Tryz.pinned (.plain (OpenSpec.upto documentBlanksSpec)) documentBlanksUptoCard

/-- THE SECOND FORM's CARD OF 'dowellaw36.DocumentEquals'. -/
def documentEqualsUptoCard : Claim7 := { stood := { row := documentEqualsUptoRow, standIns := [], harness := (true, "5524b49a99c14b84714612f17c4273e75e7ba66b67a78b9d8144231c70c6d12f"), looks := true }, kinds := [], alts := [], laidByText := true, laidKinds := [.data, .data, .data, .data, .sentinel, .sentinel, .listed, .data, .pinned], laidTests := true, laidLooks := .later }
def DocumentEqualsUptoCardSaid : Prop := Claim7.holds Tryz.pinned (.plain (OpenSpec.upto documentEqualsSpec)) documentEqualsUptoCard

/-- THE SECOND FORM's CARD OF 'dowellaw36.DocumentReturns'. -/
def documentReturnsUptoCard : Claim7 := { stood := { row := documentReturnsUptoRow, standIns := [], harness := (true, "5524b49a99c14b84714612f17c4273e75e7ba66b67a78b9d8144231c70c6d12f"), looks := true }, kinds := [], alts := [], laidByText := true, laidKinds := [.data, .data, .data, .data, .sentinel, .sentinel, .listed, .data, .pinned], laidTests := true, laidLooks := .later }
def DocumentReturnsUptoCardSaid : Prop := Claim7.holds Tryz.pinned (.plain (OpenSpec.upto documentReturnsSpec)) documentReturnsUptoCard
end Rows
end Go.Proofs.YtpjhmeicbjkcdaaGreatDoor
