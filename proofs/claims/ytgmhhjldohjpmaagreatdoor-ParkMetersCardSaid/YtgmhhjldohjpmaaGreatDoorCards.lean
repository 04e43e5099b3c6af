/-
  DERIVED. GIVEN WITH THE SEED: THE CARDS: each row of YtgmhhjldohjpmaaGreatDoorRows.lean that lists a variable, with what it lists TIED to the program's text (the seventh form; the later family's looks); each row that meets fmt, with fmt's text TOLD by the authors' own Lean function (tested against real Go, not proved from fmt's source: count such statements apart). THE CARD IS WHAT COUNTS. Prove the row's statement (the work); the ties are given (YtgmhhjldohjpmaaGreatDoorTie.lean); close each card by the builder's one call (the guide's Derived/Test/ToyasCard.lean, 'card_holds'). Laid BY PROGRAM, IN A SANDBOX (cutbox-door.mjs). By AI agents, Wed Nov 11 2026. No macro, syntax, notation, axiom, sorry.
-/
import Derived.Test.YtgmhhjldohjpmaaGreatDoorRows
import GoSem.ClaimSeven
namespace Go.Proofs.YtgmhhjldohjpmaaGreatDoor
namespace Rows

/-- THE TIED CARD OF 'chargeparklaw44.ParkMeters'. -/
def parkMetersCard : Claim7 := { stood := { row := parkMetersRow, standIns := [], harness := (true, "fc93ccba7bf9007482a16966bfd9658e5ac8d11c088025255b0d583fbc9d557a"), looks := true }, kinds := [], alts := [], laidByText := true, laidKinds := [.data, .data, .data], laidTests := true, laidLooks := .later }
def ParkMetersCardSaid : Prop := Claim7.holds Tryz.pinned (.plain (OpenSpec.ofChange parkMetersSpec)) parkMetersCard

/-- THE SECOND FORM's CARD OF 'chargeparklaw44.ParkMeters'. -/
def parkMetersUptoCard : Claim7 := { stood := { row := parkMetersUptoRow, standIns := [], harness := (true, "fc93ccba7bf9007482a16966bfd9658e5ac8d11c088025255b0d583fbc9d557a"), looks := true }, kinds := [], alts := [], laidByText := true, laidKinds := [.data, .data, .data], laidTests := true, laidLooks := .later }
def ParkMetersUptoCardSaid : Prop := Claim7.holds Tryz.pinned (.plain (OpenSpec.upto parkMetersSpec)) parkMetersUptoCard
end Rows
end Go.Proofs.YtgmhhjldohjpmaaGreatDoor
