/-
  DERIVED. GIVEN WITH THE SEED: THE CARDS: each row of YtpfblnbippcdjaaGreatDoorRows.lean that lists a variable, with what it lists TIED to the program's text (the seventh form; the later family's looks); each row that meets fmt, with fmt's text TOLD by the authors' own Lean function (tested against real Go, not proved from fmt's source: count such statements apart). THE CARD IS WHAT COUNTS. Prove the row's statement (the work); the ties are given (YtpfblnbippcdjaaGreatDoorTie.lean); close each card by the builder's one call (the guide's Derived/Test/ToyasCard.lean, 'card_holds'). Laid BY PROGRAM, IN A SANDBOX (cutbox-door.mjs). By AI agents, Wed Nov 11 2026. No macro, syntax, notation, axiom, sorry.
-/
import Derived.Test.YtpfblnbippcdjaaGreatDoorRows
import GoSem.ClaimSeven
namespace Go.Proofs.YtpfblnbippcdjaaGreatDoor
namespace Rows

/-- THE TIED CARD OF 'chargeparklaw44.ParkFailure'. -/
def parkFailureCard : Claim7 := { stood := { row := parkFailureRow, standIns := [], harness := (true, "0c6f0725b25d95b9021347ef5c4dd731f510c297a44d51c90b5e09108e82f3ee"), looks := true }, kinds := [], alts := [], laidByText := true, laidKinds := [.data, .data, .data], laidTests := true, laidLooks := .later }
def ParkFailureCardSaid : Prop := Claim7.holds Tryz.pinned (.plain (OpenSpec.ofChange parkFailureSpec)) parkFailureCard

/-- THE SECOND FORM's CARD OF 'chargeparklaw44.ParkFailure'. -/
def parkFailureUptoCard : Claim7 := { stood := { row := parkFailureUptoRow, standIns := [], harness := (true, "0c6f0725b25d95b9021347ef5c4dd731f510c297a44d51c90b5e09108e82f3ee"), looks := true }, kinds := [], alts := [], laidByText := true, laidKinds := [.data, .data, .data], laidTests := true, laidLooks := .later }
def ParkFailureUptoCardSaid : Prop := Claim7.holds Tryz.pinned (.plain (OpenSpec.upto parkFailureSpec)) parkFailureUptoCard
end Rows
end Go.Proofs.YtpfblnbippcdjaaGreatDoor
