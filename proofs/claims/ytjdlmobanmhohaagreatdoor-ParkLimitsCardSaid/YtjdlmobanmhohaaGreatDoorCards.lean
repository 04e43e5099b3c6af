/-
  DERIVED. GIVEN WITH THE SEED: THE CARDS: each row of YtjdlmobanmhohaaGreatDoorRows.lean that lists a variable, with what it lists TIED to the program's text (the seventh form; the later family's looks); each row that meets fmt, with fmt's text TOLD by the authors' own Lean function (tested against real Go, not proved from fmt's source: count such statements apart). THE CARD IS WHAT COUNTS. Prove the row's statement (the work); the ties are given (YtjdlmobanmhohaaGreatDoorTie.lean); close each card by the builder's one call (the guide's Derived/Test/ToyasCard.lean, 'card_holds'). Laid BY PROGRAM, IN A SANDBOX (cutbox-door.mjs). By AI agents, Wed Nov 11 2026. No macro, syntax, notation, axiom, sorry.
-/
import Derived.Test.YtjdlmobanmhohaaGreatDoorRows
import GoSem.ClaimSeven
namespace Go.Proofs.YtjdlmobanmhohaaGreatDoor
namespace Rows

/-- THE TIED CARD OF 'chargeparklaw44.ParkLimits'. -/
def parkLimitsCard : Claim7 := { stood := { row := parkLimitsRow, standIns := [], harness := (true, "d89eee04829e9a8ad9e25782547e95b898f97d84154148852dc2a17cdafbfec5"), looks := true }, kinds := [], alts := [], laidByText := true, laidKinds := [.data, .data, .data], laidTests := true, laidLooks := .later }
def ParkLimitsCardSaid : Prop := Claim7.holds Tryz.pinned (.plain (OpenSpec.ofChange parkLimitsSpec)) parkLimitsCard

/-- THE SECOND FORM's CARD OF 'chargeparklaw44.ParkLimits'. -/
def parkLimitsUptoCard : Claim7 := { stood := { row := parkLimitsUptoRow, standIns := [], harness := (true, "d89eee04829e9a8ad9e25782547e95b898f97d84154148852dc2a17cdafbfec5"), looks := true }, kinds := [], alts := [], laidByText := true, laidKinds := [.data, .data, .data], laidTests := true, laidLooks := .later }
def ParkLimitsUptoCardSaid : Prop := Claim7.holds Tryz.pinned (.plain (OpenSpec.upto parkLimitsSpec)) parkLimitsUptoCard
end Rows
end Go.Proofs.YtjdlmobanmhohaaGreatDoor
