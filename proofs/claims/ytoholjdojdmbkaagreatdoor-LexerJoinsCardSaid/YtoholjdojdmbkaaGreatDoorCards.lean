/-
  DERIVED. GIVEN WITH THE SEED: THE CARDS: each row of YtoholjdojdmbkaaGreatDoorRows.lean that lists a variable, with what it lists TIED to the program's text (the seventh form; the later family's looks); each row that meets fmt, with fmt's text TOLD by the authors' own Lean function (tested against real Go, not proved from fmt's source: count such statements apart). THE CARD IS WHAT COUNTS. Prove the row's statement (the work); the ties are given (YtoholjdojdmbkaaGreatDoorTie.lean); close each card by the builder's one call (the guide's Derived/Test/ToyasCard.lean, 'card_holds'). Laid BY PROGRAM, IN A SANDBOX (cutbox-door.mjs). By AI agents, Wed Nov 11 2026. No macro, syntax, notation, axiom, sorry.
-/
import Derived.Test.YtoholjdojdmbkaaGreatDoorRows
import GoSem.ClaimSeven
namespace Go.Proofs.YtoholjdojdmbkaaGreatDoor
namespace Rows

/-- THE TIED CARD OF 'dowellaw35.LexerLengths'. -/
def lexerLengthsCard : Claim7 := { stood := { row := lexerLengthsRow, standIns := [], harness := (true, "61d5449f289b5a2e451e918eae790f02ed5e9ba3fbebab91adf65fecef4ed2ae"), looks := true }, kinds := [], alts := [], laidByText := true, laidKinds := [.data, .data, .data, .data, .sentinel, .sentinel, .listed, .data, .pinned], laidTests := true, laidLooks := .later }
def LexerLengthsCardSaid : Prop := Claim7.holds Tryz.pinned (.plain (OpenSpec.ofChange lexerLengthsSpec)) lexerLengthsCard

/-- THE TIED CARD OF 'dowellaw35.LexerFollows'. -/
def lexerFollowsCard : Claim7 := { stood := { row := lexerFollowsRow, standIns := [], harness := (true, "61d5449f289b5a2e451e918eae790f02ed5e9ba3fbebab91adf65fecef4ed2ae"), looks := true }, kinds := [], alts := [], laidByText := true, laidKinds := [.data, .data, .data, .data, .sentinel, .sentinel, .listed, .data, .pinned], laidTests := true, laidLooks := .later }
def LexerFollowsCardSaid : Prop := Claim7.holds Tryz.pinned (.plain (OpenSpec.ofChange lexerFollowsSpec)) lexerFollowsCard

/-- THE TIED CARD OF 'dowellaw35.LexerScans'. -/
def lexerScansCard : Claim7 := { stood := { row := lexerScansRow, standIns := [], harness := (true, "61d5449f289b5a2e451e918eae790f02ed5e9ba3fbebab91adf65fecef4ed2ae"), looks := true }, kinds := [], alts := [], laidByText := true, laidKinds := [.data, .data, .data, .data, .sentinel, .sentinel, .listed, .data, .pinned], laidTests := true, laidLooks := .later }
def LexerScansCardSaid : Prop := Claim7.holds Tryz.pinned (.plain (OpenSpec.ofChange lexerScansSpec)) lexerScansCard

/-- THE TIED CARD OF 'dowellaw35.LexerReads'. -/
def lexerReadsCard : Claim7 := { stood := { row := lexerReadsRow, standIns := [], harness := (true, "61d5449f289b5a2e451e918eae790f02ed5e9ba3fbebab91adf65fecef4ed2ae"), looks := true }, kinds := [], alts := [], laidByText := true, laidKinds := [.data, .data, .data, .data, .sentinel, .sentinel, .listed, .data, .pinned], laidTests := true, laidLooks := .later }
def LexerReadsCardSaid : Prop := Claim7.holds Tryz.pinned (.plain (OpenSpec.ofChange lexerReadsSpec)) lexerReadsCard

/-- THE TIED CARD OF 'dowellaw35.LexerNil'. -/
def lexerNilCard : Claim7 := { stood := { row := lexerNilRow, standIns := [], harness := (true, "61d5449f289b5a2e451e918eae790f02ed5e9ba3fbebab91adf65fecef4ed2ae"), looks := true }, kinds := [], alts := [], laidByText := true, laidKinds := [.data, .data, .data, .data, .sentinel, .sentinel, .listed, .data, .pinned], laidTests := true, laidLooks := .later }
def LexerNilCardSaid : Prop := Claim7.holds Tryz.pinned (.plain (OpenSpec.ofChange lexerNilSpec)) lexerNilCard

/-- THE TIED CARD OF 'dowellaw35.LexerNumbers'. -/
def lexerNumbersCard : Claim7 := { stood := { row := lexerNumbersRow, standIns := [], harness := (true, "61d5449f289b5a2e451e918eae790f02ed5e9ba3fbebab91adf65fecef4ed2ae"), looks := true }, kinds := [], alts := [], laidByText := true, laidKinds := [.data, .data, .data, .data, .sentinel, .sentinel, .listed, .data, .pinned], laidTests := true, laidLooks := .later }
def LexerNumbersCardSaid : Prop := Claim7.holds Tryz.pinned (.plain (OpenSpec.ofChange lexerNumbersSpec)) lexerNumbersCard

/-- THE TIED CARD OF 'dowellaw35.LexerPlaces'. -/
def lexerPlacesCard : Claim7 := { stood := { row := lexerPlacesRow, standIns := [], harness := (true, "61d5449f289b5a2e451e918eae790f02ed5e9ba3fbebab91adf65fecef4ed2ae"), looks := true }, kinds := [], alts := [], laidByText := true, laidKinds := [.data, .data, .data, .data, .sentinel, .sentinel, .listed, .data, .pinned], laidTests := true, laidLooks := .later }
def LexerPlacesCardSaid : Prop := Claim7.holds Tryz.pinned (.plain (OpenSpec.ofChange lexerPlacesSpec)) lexerPlacesCard

/-- THE TIED CARD OF 'dowellaw35.LexerQuotes'. -/
def lexerQuotesCard : Claim7 := { stood := { row := lexerQuotesRow, standIns := [], harness := (true, "61d5449f289b5a2e451e918eae790f02ed5e9ba3fbebab91adf65fecef4ed2ae"), looks := true }, kinds := [], alts := [], laidByText := true, laidKinds := [.data, .data, .data, .data, .sentinel, .sentinel, .listed, .data, .pinned], laidTests := true, laidLooks := .later }
def LexerQuotesCardSaid : Prop := Claim7.holds Tryz.pinned (.plain (OpenSpec.ofChange lexerQuotesSpec)) lexerQuotesCard

/-- THE TIED CARD OF 'dowellaw35.LexerJoins'. -/
def lexerJoinsCard : Claim7 := { stood := { row := lexerJoinsRow, standIns := [], harness := (true, "61d5449f289b5a2e451e918eae790f02ed5e9ba3fbebab91adf65fecef4ed2ae"), looks := true }, kinds := [], alts := [], laidByText := true, laidKinds := [.data, .data, .data, .data, .sentinel, .sentinel, .listed, .data, .pinned], laidTests := true, laidLooks := .later }
def LexerJoinsCardSaid : Prop := Claim7.holds Tryz.pinned (.plain (OpenSpec.ofChange lexerJoinsSpec)) lexerJoinsCard

/-- THE SECOND FORM's CARD OF 'dowellaw35.LexerLengths'. -/
def lexerLengthsUptoCard : Claim7 := { stood := { row := lexerLengthsUptoRow, standIns := [], harness := (true, "61d5449f289b5a2e451e918eae790f02ed5e9ba3fbebab91adf65fecef4ed2ae"), looks := true }, kinds := [], alts := [], laidByText := true, laidKinds := [.data, .data, .data, .data, .sentinel, .sentinel, .listed, .data, .pinned], laidTests := true, laidLooks := .later }
def LexerLengthsUptoCardSaid : Prop := Claim7.holds Tryz.pinned (.plain (OpenSpec.upto lexerLengthsSpec)) lexerLengthsUptoCard

/-- THE SECOND FORM's CARD OF 'dowellaw35.LexerFollows'. -/
def lexerFollowsUptoCard : Claim7 := { stood := { row := lexerFollowsUptoRow, standIns := [], harness := (true, "61d5449f289b5a2e451e918eae790f02ed5e9ba3fbebab91adf65fecef4ed2ae"), looks := true }, kinds := [], alts := [], laidByText := true, laidKinds := [.data, .data, .data, .data, .sentinel, .sentinel, .listed, .data, .pinned], laidTests := true, laidLooks := .later }
def LexerFollowsUptoCardSaid : Prop := Claim7.holds Tryz.pinned (.plain (OpenSpec.upto lexerFollowsSpec)) lexerFollowsUptoCard

/-- THE SECOND FORM's CARD OF 'dowellaw35.LexerScans'. -/
def lexerScansUptoCard : Claim7 := { stood := { row := lexerScansUptoRow, standIns := [], harness := (true, "61d5449f289b5a2e451e918eae790f02ed5e9ba3fbebab91adf65fecef4ed2ae"), looks := true }, kinds := [], alts := [], laidByText := true, laidKinds := [.data, .data, .data, .data, .sentinel, .sentinel, .listed, .data, .pinned], laidTests := true, laidLooks := .later }
def LexerScansUptoCardSaid : Prop := Claim7.holds Tryz.pinned (.plain (OpenSpec.upto lexerScansSpec)) lexerScansUptoCard

/-- THE SECOND FORM's CARD OF 'dowellaw35.LexerReads'. -/
def lexerReadsUptoCard : Claim7 := { stood := { row := lexerReadsUptoRow, standIns := [], harness := (true, "61d5449f289b5a2e451e918eae790f02ed5e9ba3fbebab91adf65fecef4ed2ae"), looks := true }, kinds := [], alts := [], laidByText := true, laidKinds := [.data, .data, .data, .data, .sentinel, .sentinel, .listed, .data, .pinned], laidTests := true, laidLooks := .later }
def LexerReadsUptoCardSaid : Prop := Claim7.holds Tryz.pinned (.plain (OpenSpec.upto lexerReadsSpec)) lexerReadsUptoCard

/-- THE SECOND FORM's CARD OF 'dowellaw35.LexerNil'. -/
def lexerNilUptoCard : Claim7 := { stood := { row := lexerNilUptoRow, standIns := [], harness := (true, "61d5449f289b5a2e451e918eae790f02ed5e9ba3fbebab91adf65fecef4ed2ae"), looks := true }, kinds := [], alts := [], laidByText := true, laidKinds := [.data, .data, .data, .data, .sentinel, .sentinel, .listed, .data, .pinned], laidTests := true, laidLooks := .later }
def LexerNilUptoCardSaid : Prop := Claim7.holds Tryz.pinned (.plain (OpenSpec.upto lexerNilSpec)) lexerNilUptoCard

/-- THE SECOND FORM's CARD OF 'dowellaw35.LexerNumbers'. -/
def lexerNumbersUptoCard : Claim7 := { stood := { row := lexerNumbersUptoRow, standIns := [], harness := (true, "61d5449f289b5a2e451e918eae790f02ed5e9ba3fbebab91adf65fecef4ed2ae"), looks := true }, kinds := [], alts := [], laidByText := true, laidKinds := [.data, .data, .data, .data, .sentinel, .sentinel, .listed, .data, .pinned], laidTests := true, laidLooks := .later }
def LexerNumbersUptoCardSaid : Prop := Claim7.holds Tryz.pinned (.plain (OpenSpec.upto lexerNumbersSpec)) lexerNumbersUptoCard

/-- THE SECOND FORM's CARD OF 'dowellaw35.LexerPlaces'. -/
def lexerPlacesUptoCard : Claim7 := { stood := { row := lexerPlacesUptoRow, standIns := [], harness := (true, "61d5449f289b5a2e451e918eae790f02ed5e9ba3fbebab91adf65fecef4ed2ae"), looks := true }, kinds := [], alts := [], laidByText := true, laidKinds := [.data, .data, .data, .data, .sentinel, .sentinel, .listed, .data, .pinned], laidTests := true, laidLooks := .later }
def LexerPlacesUptoCardSaid : Prop := Claim7.holds Tryz.pinned (.plain (OpenSpec.upto lexerPlacesSpec)) lexerPlacesUptoCard

/-- THE SECOND FORM's CARD OF 'dowellaw35.LexerQuotes'. -/
def lexerQuotesUptoCard : Claim7 := { stood := { row := lexerQuotesUptoRow, standIns := [], harness := (true, "61d5449f289b5a2e451e918eae790f02ed5e9ba3fbebab91adf65fecef4ed2ae"), looks := true }, kinds := [], alts := [], laidByText := true, laidKinds := [.data, .data, .data, .data, .sentinel, .sentinel, .listed, .data, .pinned], laidTests := true, laidLooks := .later }
def LexerQuotesUptoCardSaid : Prop := Claim7.holds Tryz.pinned (.plain (OpenSpec.upto lexerQuotesSpec)) lexerQuotesUptoCard

/-- THE SECOND FORM's CARD OF 'dowellaw35.LexerJoins'. -/
def lexerJoinsUptoCard : Claim7 := { stood := { row := lexerJoinsUptoRow, standIns := [], harness := (true, "61d5449f289b5a2e451e918eae790f02ed5e9ba3fbebab91adf65fecef4ed2ae"), looks := true }, kinds := [], alts := [], laidByText := true, laidKinds := [.data, .data, .data, .data, .sentinel, .sentinel, .listed, .data, .pinned], laidTests := true, laidLooks := .later }
def LexerJoinsUptoCardSaid : Prop := Claim7.holds Tryz.pinned (.plain (OpenSpec.upto lexerJoinsSpec)) lexerJoinsUptoCard
end Rows
end Go.Proofs.YtoholjdojdmbkaaGreatDoor
