/-
  DERIVED. GIVEN WITH THE SEED: THE CARDS: each row of YtbcjdjlihhlkaaaGreatDoorRows.lean that lists a variable, with what it lists TIED to the program's text (the seventh form; the later family's looks); each row that meets fmt, with fmt's text TOLD by the authors' own Lean function (tested against real Go, not proved from fmt's source: count such statements apart). THE CARD IS WHAT COUNTS. Prove the row's statement (the work); the ties are given (YtbcjdjlihhlkaaaGreatDoorTie.lean); close each card by the builder's one call (the guide's Derived/Test/ToyasCard.lean, 'card_holds'). Laid BY PROGRAM, IN A SANDBOX (cutbox-door.mjs). By AI agents, Wed Nov 11 2026. No macro, syntax, notation, axiom, sorry.
-/
import Derived.Test.YtbcjdjlihhlkaaaGreatDoorRows
import GoSem.ClaimSeven
namespace Go.Proofs.YtbcjdjlihhlkaaaGreatDoor
namespace Rows

/-- THE TIED CARD OF 'dowellaw24.RemovableErrors'. -/
def removableErrorsCard : Claim7 := { stood := { row := removableErrorsRow, standIns := [], harness := (true, "73d000a1e9d8a88db5319f72d39a6363fbef829f30abd29b013047163f127d02"), looks := false }, kinds := [], alts := [], laidByText := true, laidKinds := [.data], laidTests := true, laidLooks := .later }
def RemovableErrorsCardSaid : Prop := Claim7.holds Tryz.pinned (.plain (OpenSpec.ofChange removableErrorsSpec)) removableErrorsCard

/-- THE TIED CARD OF 'dowellaw24.RemovableConnected'. -/
def removableConnectedCard : Claim7 := { stood := { row := removableConnectedRow, standIns := [], harness := (true, "73d000a1e9d8a88db5319f72d39a6363fbef829f30abd29b013047163f127d02"), looks := false }, kinds := [], alts := [], laidByText := true, laidKinds := [.data], laidTests := true, laidLooks := .later }
def RemovableConnectedCardSaid : Prop := Claim7.holds Tryz.pinned (.plain (OpenSpec.ofChange removableConnectedSpec)) removableConnectedCard

/-- THE SECOND FORM's CARD OF 'dowellaw24.RemovableErrors'. -/
def removableErrorsUptoCard : Claim7 := { stood := { row := removableErrorsUptoRow, standIns := [], harness := (true, "73d000a1e9d8a88db5319f72d39a6363fbef829f30abd29b013047163f127d02"), looks := false }, kinds := [], alts := [], laidByText := true, laidKinds := [.data], laidTests := true, laidLooks := .later }
def RemovableErrorsUptoCardSaid : Prop := Claim7.holds Tryz.pinned (.plain (OpenSpec.upto removableErrorsSpec)) removableErrorsUptoCard

/-- THE SECOND FORM's CARD OF 'dowellaw24.RemovableConnected'. -/
def removableConnectedUptoCard : Claim7 := { stood := { row := removableConnectedUptoRow, standIns := [], harness := (true, "73d000a1e9d8a88db5319f72d39a6363fbef829f30abd29b013047163f127d02"), looks := false }, kinds := [], alts := [], laidByText := true, laidKinds := [.data], laidTests := true, laidLooks := .later }
def RemovableConnectedUptoCardSaid : Prop := Claim7.holds Tryz.pinned (.plain (OpenSpec.upto removableConnectedSpec)) removableConnectedUptoCard
end Rows
end Go.Proofs.YtbcjdjlihhlkaaaGreatDoor
