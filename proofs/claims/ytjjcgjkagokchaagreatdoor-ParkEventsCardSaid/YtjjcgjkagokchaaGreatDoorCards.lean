/-
  DERIVED. GIVEN WITH THE SEED: THE CARDS: each row of YtjjcgjkagokchaaGreatDoorRows.lean that lists a variable, with what it lists TIED to the program's text (the seventh form; the later family's looks); each row that meets fmt, with fmt's text TOLD by the authors' own Lean function (tested against real Go, not proved from fmt's source: count such statements apart). THE CARD IS WHAT COUNTS. Prove the row's statement (the work); the ties are given (YtjjcgjkagokchaaGreatDoorTie.lean); close each card by the builder's one call (the guide's Derived/Test/ToyasCard.lean, 'card_holds'). Laid BY PROGRAM, IN A SANDBOX (cutbox-door.mjs). By AI agents, Wed Nov 11 2026. No macro, syntax, notation, axiom, sorry.
-/
import Derived.Test.YtjjcgjkagokchaaGreatDoorRows
import GoSem.ClaimSeven
namespace Go.Proofs.YtjjcgjkagokchaaGreatDoor
namespace Rows

/-- THE TIED CARD OF 'chargeparklaw44.ParkEvents'. -/
def parkEventsCard : Claim7 := { stood := { row := parkEventsRow, standIns := [], harness := (true, "5857edb60ec15b388046ba3f44a2d0c20864e5327951d50040307e79be5e0511"), looks := true }, kinds := [], alts := [], laidByText := true, laidKinds := [.data, .data, .data], laidTests := true, laidLooks := .later }
def ParkEventsCardSaid : Prop := Claim7.holds Tryz.pinned (.plain (OpenSpec.ofChange parkEventsSpec)) parkEventsCard

/-- THE SECOND FORM's CARD OF 'chargeparklaw44.ParkEvents'. -/
def parkEventsUptoCard : Claim7 := { stood := { row := parkEventsUptoRow, standIns := [], harness := (true, "5857edb60ec15b388046ba3f44a2d0c20864e5327951d50040307e79be5e0511"), looks := true }, kinds := [], alts := [], laidByText := true, laidKinds := [.data, .data, .data], laidTests := true, laidLooks := .later }
def ParkEventsUptoCardSaid : Prop := Claim7.holds Tryz.pinned (.plain (OpenSpec.upto parkEventsSpec)) parkEventsUptoCard
end Rows
end Go.Proofs.YtjjcgjkagokchaaGreatDoor
