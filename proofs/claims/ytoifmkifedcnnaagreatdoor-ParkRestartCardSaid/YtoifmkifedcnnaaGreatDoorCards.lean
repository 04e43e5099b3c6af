/-
  DERIVED. GIVEN WITH THE SEED: THE CARDS: each row of YtoifmkifedcnnaaGreatDoorRows.lean that lists a variable, with what it lists TIED to the program's text (the seventh form; the later family's looks); each row that meets fmt, with fmt's text TOLD by the authors' own Lean function (tested against real Go, not proved from fmt's source: count such statements apart). THE CARD IS WHAT COUNTS. Prove the row's statement (the work); the ties are given (YtoifmkifedcnnaaGreatDoorTie.lean); close each card by the builder's one call (the guide's Derived/Test/ToyasCard.lean, 'card_holds'). Laid BY PROGRAM, IN A SANDBOX (cutbox-door.mjs). By AI agents, Wed Nov 11 2026. No macro, syntax, notation, axiom, sorry.
-/
import Derived.Test.YtoifmkifedcnnaaGreatDoorRows
import GoSem.ClaimSeven
namespace Go.Proofs.YtoifmkifedcnnaaGreatDoor
namespace Rows

/-- THE TIED CARD OF 'chargeparklaw44.ParkRestart'. -/
def parkRestartCard : Claim7 := { stood := { row := parkRestartRow, standIns := [], harness := (true, "7ada960cbca264f0733c4a720ee17353749889254cd16b2650eccc535ee8e3d7"), looks := true }, kinds := [], alts := [], laidByText := true, laidKinds := [.data, .data, .data], laidTests := true, laidLooks := .later }
def ParkRestartCardSaid : Prop := Claim7.holds Tryz.pinned (.plain (OpenSpec.ofChange parkRestartSpec)) parkRestartCard

/-- THE SECOND FORM's CARD OF 'chargeparklaw44.ParkRestart'. -/
def parkRestartUptoCard : Claim7 := { stood := { row := parkRestartUptoRow, standIns := [], harness := (true, "7ada960cbca264f0733c4a720ee17353749889254cd16b2650eccc535ee8e3d7"), looks := true }, kinds := [], alts := [], laidByText := true, laidKinds := [.data, .data, .data], laidTests := true, laidLooks := .later }
def ParkRestartUptoCardSaid : Prop := Claim7.holds Tryz.pinned (.plain (OpenSpec.upto parkRestartSpec)) parkRestartUptoCard
end Rows
end Go.Proofs.YtoifmkifedcnnaaGreatDoor
