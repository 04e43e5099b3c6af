/-
  DERIVED. GIVEN WITH THE SEED: THE CARDS: each row of YtcdkianomnhhmaaGreatDoorRows.lean that lists a variable, with what it lists TIED to the program's text (the seventh form; the later family's looks); each row that meets fmt, with fmt's text TOLD by the authors' own Lean function (tested against real Go, not proved from fmt's source: count such statements apart). THE CARD IS WHAT COUNTS. Prove the row's statement (the work); the ties are given (YtcdkianomnhhmaaGreatDoorTie.lean); close each card by the builder's one call (the guide's Derived/Test/ToyasCard.lean, 'card_holds'). Laid BY PROGRAM, IN A SANDBOX (cutbox-door.mjs). By AI agents, Wed Nov 11 2026. No macro, syntax, notation, axiom, sorry.
-/
import Derived.Test.YtcdkianomnhhmaaGreatDoorRows
import GoSem.ClaimSeven
namespace Go.Proofs.YtcdkianomnhhmaaGreatDoor
namespace Rows

/-- THE TIED CARD OF 'chargeparktop.TopTornStore'. -/
def topTornStoreCard : Claim7 := { stood := { row := topTornStoreRow, standIns := [], harness := (true, "51bc03eff9b2a643bea51bd570a113f723e1c0aed48082f9e2806d52815ad16c"), looks := true }, kinds := [], alts := [], laidByText := true, laidKinds := [.data, .data, .data], laidTests := true, laidLooks := .later }
def TopTornStoreCardSaid : Prop := Claim7.holds Tryz.pinned (.plain (OpenSpec.ofChange topTornStoreSpec)) topTornStoreCard

/-- THE SECOND FORM's CARD OF 'chargeparktop.TopTornStore'. -/
def topTornStoreUptoCard : Claim7 := { stood := { row := topTornStoreUptoRow, standIns := [], harness := (true, "51bc03eff9b2a643bea51bd570a113f723e1c0aed48082f9e2806d52815ad16c"), looks := true }, kinds := [], alts := [], laidByText := true, laidKinds := [.data, .data, .data], laidTests := true, laidLooks := .later }
def TopTornStoreUptoCardSaid : Prop := Claim7.holds Tryz.pinned (.plain (OpenSpec.upto topTornStoreSpec)) topTornStoreUptoCard
end Rows
end Go.Proofs.YtcdkianomnhhmaaGreatDoor
