/-
  DERIVED. GIVEN WITH THE SEED: THE CARDS: each row of YtpdndmobphnjcaaGreatDoorRows.lean that lists a variable, with what it lists TIED to the program's text (the seventh form; the later family's looks); each row that meets fmt, with fmt's text TOLD by the authors' own Lean function (tested against real Go, not proved from fmt's source: count such statements apart). THE CARD IS WHAT COUNTS. Prove the row's statement (the work); the ties are given (YtpdndmobphnjcaaGreatDoorTie.lean); close each card by the builder's one call (the guide's Derived/Test/ToyasCard.lean, 'card_holds'). Laid BY PROGRAM, IN A SANDBOX (cutbox-door.mjs). By AI agents, Wed Nov 11 2026. No macro, syntax, notation, axiom, sorry.
-/
import Derived.Test.YtpdndmobphnjcaaGreatDoorRows
import GoSem.ClaimSeven
namespace Go.Proofs.YtpdndmobphnjcaaGreatDoor
namespace Rows

/-- THE TIED CARD OF 'chargeparktop.TopParkUnharmed'. -/
def topParkUnharmedCard : Claim7 := { stood := { row := topParkUnharmedRow, standIns := [], harness := (true, "7090d21802c897ed675fab87144b92bf6eed20199b69f0e80b7e119deab3c901"), looks := true }, kinds := [], alts := [], laidByText := true, laidKinds := [.data, .data, .data], laidTests := true, laidLooks := .later }
def TopParkUnharmedCardSaid : Prop := Claim7.holds Tryz.pinned (.plain (OpenSpec.ofChange topParkUnharmedSpec)) topParkUnharmedCard

/-- THE SECOND FORM's CARD OF 'chargeparktop.TopParkUnharmed'. -/
def topParkUnharmedUptoCard : Claim7 := { stood := { row := topParkUnharmedUptoRow, standIns := [], harness := (true, "7090d21802c897ed675fab87144b92bf6eed20199b69f0e80b7e119deab3c901"), looks := true }, kinds := [], alts := [], laidByText := true, laidKinds := [.data, .data, .data], laidTests := true, laidLooks := .later }
def TopParkUnharmedUptoCardSaid : Prop := Claim7.holds Tryz.pinned (.plain (OpenSpec.upto topParkUnharmedSpec)) topParkUnharmedUptoCard
end Rows
end Go.Proofs.YtpdndmobphnjcaaGreatDoor
