/-
  DERIVED. GIVEN WITH THE SEED: THE CARDS: each row of YtipodhghjclmbaaGreatDoorRows.lean that lists a variable, with what it lists TIED to the program's text (the seventh form; the later family's looks); each row that meets fmt, with fmt's text TOLD by the authors' own Lean function (tested against real Go, not proved from fmt's source: count such statements apart). THE CARD IS WHAT COUNTS. Prove the row's statement (the work); the ties are given (YtipodhghjclmbaaGreatDoorTie.lean); close each card by the builder's one call (the guide's Derived/Test/ToyasCard.lean, 'card_holds'). Laid BY PROGRAM, IN A SANDBOX (cutbox-door.mjs). By AI agents, Wed Nov 11 2026. No macro, syntax, notation, axiom, sorry.
-/
import Derived.Test.YtipodhghjclmbaaGreatDoorRows
import GoSem.ClaimSeven
namespace Go.Proofs.YtipodhghjclmbaaGreatDoor
namespace Rows

/-- THE TIED CARD OF 'chargeparklaw44.ParkLeases'. -/
def parkLeasesCard : Claim7 := { stood := { row := parkLeasesRow, standIns := [], harness := (true, "357ac79df01e90cb15afac01852bab25028ef646d33da283658a92ebd0cc8208"), looks := true }, kinds := [], alts := [], laidByText := true, laidKinds := [.data, .data, .data], laidTests := true, laidLooks := .later }
def ParkLeasesCardSaid : Prop := Claim7.holds Tryz.pinned (.plain (OpenSpec.ofChange parkLeasesSpec)) parkLeasesCard

/-- THE SECOND FORM's CARD OF 'chargeparklaw44.ParkLeases'. -/
def parkLeasesUptoCard : Claim7 := { stood := { row := parkLeasesUptoRow, standIns := [], harness := (true, "357ac79df01e90cb15afac01852bab25028ef646d33da283658a92ebd0cc8208"), looks := true }, kinds := [], alts := [], laidByText := true, laidKinds := [.data, .data, .data], laidTests := true, laidLooks := .later }
def ParkLeasesUptoCardSaid : Prop := Claim7.holds Tryz.pinned (.plain (OpenSpec.upto parkLeasesSpec)) parkLeasesUptoCard
end Rows
end Go.Proofs.YtipodhghjclmbaaGreatDoor
