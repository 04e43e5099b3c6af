/-
  DERIVED. GIVEN WITH THE SEED: THE CARDS: each row of YtmlcgekfmlidcaaGreatDoorRows.lean that lists a variable, with what it lists TIED to the program's text (the seventh form; the later family's looks); each row that meets fmt, with fmt's text TOLD by the authors' own Lean function (tested against real Go, not proved from fmt's source: count such statements apart). THE CARD IS WHAT COUNTS. Prove the row's statement (the work); the ties are given (YtmlcgekfmlidcaaGreatDoorTie.lean); close each card by the builder's one call (the guide's Derived/Test/ToyasCard.lean, 'card_holds'). Laid BY PROGRAM, IN A SANDBOX (cutbox-door.mjs). By AI agents, Wed Nov 11 2026. No macro, syntax, notation, axiom, sorry.
-/
import Derived.Test.YtmlcgekfmlidcaaGreatDoorRows
import GoSem.ClaimSeven
namespace Go.Proofs.YtmlcgekfmlidcaaGreatDoor
namespace Rows

/-- THE TIED CARD OF 'chargeparklaw44.ParkTargets'. -/
def parkTargetsCard : Claim7 := { stood := { row := parkTargetsRow, standIns := [], harness := (true, "aafe95b40dc200da06949da20e8960fc4f5288edf8716eaa00a99a1a558dff32"), looks := true }, kinds := [], alts := [], laidByText := true, laidKinds := [.data, .data, .data], laidTests := true, laidLooks := .later }
def ParkTargetsCardSaid : Prop := Claim7.holds Tryz.pinned (.plain (OpenSpec.ofChange parkTargetsSpec)) parkTargetsCard

/-- THE SECOND FORM's CARD OF 'chargeparklaw44.ParkTargets'. -/
def parkTargetsUptoCard : Claim7 := { stood := { row := parkTargetsUptoRow, standIns := [], harness := (true, "aafe95b40dc200da06949da20e8960fc4f5288edf8716eaa00a99a1a558dff32"), looks := true }, kinds := [], alts := [], laidByText := true, laidKinds := [.data, .data, .data], laidTests := true, laidLooks := .later }
def ParkTargetsUptoCardSaid : Prop := Claim7.holds Tryz.pinned (.plain (OpenSpec.upto parkTargetsSpec)) parkTargetsUptoCard
end Rows
end Go.Proofs.YtmlcgekfmlidcaaGreatDoor
