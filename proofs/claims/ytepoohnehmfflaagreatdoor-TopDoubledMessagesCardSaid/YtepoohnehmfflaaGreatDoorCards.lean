/-
  DERIVED. GIVEN WITH THE SEED: THE CARDS: each row of YtepoohnehmfflaaGreatDoorRows.lean that lists a variable, with what it lists TIED to the program's text (the seventh form; the later family's looks); each row that meets fmt, with fmt's text TOLD by the authors' own Lean function (tested against real Go, not proved from fmt's source: count such statements apart). THE CARD IS WHAT COUNTS. Prove the row's statement (the work); the ties are given (YtepoohnehmfflaaGreatDoorTie.lean); close each card by the builder's one call (the guide's Derived/Test/ToyasCard.lean, 'card_holds'). Laid BY PROGRAM, IN A SANDBOX (cutbox-door.mjs). By AI agents, Wed Nov 11 2026. No macro, syntax, notation, axiom, sorry.
-/
import Derived.Test.YtepoohnehmfflaaGreatDoorRows
import GoSem.ClaimSeven
namespace Go.Proofs.YtepoohnehmfflaaGreatDoor
namespace Rows

/-- THE TIED CARD OF 'chargeparktop.TopDoubledMessages'. -/
def topDoubledMessagesCard : Claim7 := { stood := { row := topDoubledMessagesRow, standIns := [], harness := (true, "2aac838e837a7f1cf8e3994b6ab2f7f23b2498b649fd60ea6d3cfa0e64ca00fd"), looks := true }, kinds := [], alts := [], laidByText := true, laidKinds := [.data, .data, .data], laidTests := true, laidLooks := .later }
def TopDoubledMessagesCardSaid : Prop := Claim7.holds Tryz.pinned (.plain (OpenSpec.ofChange topDoubledMessagesSpec)) topDoubledMessagesCard

/-- THE SECOND FORM's CARD OF 'chargeparktop.TopDoubledMessages'. -/
def topDoubledMessagesUptoCard : Claim7 := { stood := { row := topDoubledMessagesUptoRow, standIns := [], harness := (true, "2aac838e837a7f1cf8e3994b6ab2f7f23b2498b649fd60ea6d3cfa0e64ca00fd"), looks := true }, kinds := [], alts := [], laidByText := true, laidKinds := [.data, .data, .data], laidTests := true, laidLooks := .later }
def TopDoubledMessagesUptoCardSaid : Prop := Claim7.holds Tryz.pinned (.plain (OpenSpec.upto topDoubledMessagesSpec)) topDoubledMessagesUptoCard
end Rows
end Go.Proofs.YtepoohnehmfflaaGreatDoor
