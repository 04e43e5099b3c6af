/-
  DERIVED. GIVEN WITH THE SEED: THE CARDS: each row of YtlihnbimgclogaaGreatDoorRows.lean that lists a variable, with what it lists TIED to the program's text (the seventh form; the later family's looks); each row that meets fmt, with fmt's text TOLD by the authors' own Lean function (tested against real Go, not proved from fmt's source: count such statements apart). THE CARD IS WHAT COUNTS. Prove the row's statement (the work); the ties are given (YtlihnbimgclogaaGreatDoorTie.lean); close each card by the builder's one call (the guide's Derived/Test/ToyasCard.lean, 'card_holds'). Laid BY PROGRAM, IN A SANDBOX (cutbox-door.mjs). By AI agents, Wed Nov 11 2026. No macro, syntax, notation, axiom, sorry.
-/
import Derived.Test.YtlihnbimgclogaaGreatDoorRows
import GoSem.ClaimSeven
namespace Go.Proofs.YtlihnbimgclogaaGreatDoor
namespace Rows

/-- THE TIED CARD OF 'chargeparklaw25.ControlMatchesReference'. -/
def controlMatchesReferenceCard : Claim7 := { stood := { row := controlMatchesReferenceRow, standIns := [], harness := (true, "b4559f00ccf406fe17b7e7b8033c54ebe90ef60c81d6bca295877dbbec26d8d6"), looks := false }, kinds := [], alts := [], laidByText := true, laidKinds := [.data], laidTests := true, laidLooks := .later }
def ControlMatchesReferenceCardSaid : Prop := Claim7.holds Tryz.pinned (.plain (OpenSpec.ofChange controlMatchesReferenceSpec)) controlMatchesReferenceCard

/-- THE TIED CARD OF 'chargeparklaw25.ControlOrder'. -/
def controlOrderCard : Claim7 := { stood := { row := controlOrderRow, standIns := [], harness := (true, "b4559f00ccf406fe17b7e7b8033c54ebe90ef60c81d6bca295877dbbec26d8d6"), looks := false }, kinds := [], alts := [], laidByText := true, laidKinds := [.data], laidTests := true, laidLooks := .later }
def ControlOrderCardSaid : Prop := Claim7.holds Tryz.pinned (.plain (OpenSpec.ofChange controlOrderSpec)) controlOrderCard

/-- THE TIED CARD OF 'chargeparklaw25.ControlTargets'. -/
def controlTargetsCard : Claim7 := { stood := { row := controlTargetsRow, standIns := [], harness := (true, "b4559f00ccf406fe17b7e7b8033c54ebe90ef60c81d6bca295877dbbec26d8d6"), looks := false }, kinds := [], alts := [], laidByText := true, laidKinds := [.data], laidTests := true, laidLooks := .later }
def ControlTargetsCardSaid : Prop := Claim7.holds Tryz.pinned (.plain (OpenSpec.ofChange controlTargetsSpec)) controlTargetsCard

/-- THE TIED CARD OF 'chargeparklaw25.ControlPrecedence'. -/
def controlPrecedenceCard : Claim7 := { stood := { row := controlPrecedenceRow, standIns := [], harness := (true, "b4559f00ccf406fe17b7e7b8033c54ebe90ef60c81d6bca295877dbbec26d8d6"), looks := false }, kinds := [], alts := [], laidByText := true, laidKinds := [.data], laidTests := true, laidLooks := .later }
def ControlPrecedenceCardSaid : Prop := Claim7.holds Tryz.pinned (.plain (OpenSpec.ofChange controlPrecedenceSpec)) controlPrecedenceCard

/-- THE TIED CARD OF 'chargeparklaw25.ControlWishes'. -/
def controlWishesCard : Claim7 := { stood := { row := controlWishesRow, standIns := [], harness := (true, "b4559f00ccf406fe17b7e7b8033c54ebe90ef60c81d6bca295877dbbec26d8d6"), looks := false }, kinds := [], alts := [], laidByText := true, laidKinds := [.data], laidTests := true, laidLooks := .later }
def ControlWishesCardSaid : Prop := Claim7.holds Tryz.pinned (.plain (OpenSpec.ofChange controlWishesSpec)) controlWishesCard

/-- THE TIED CARD OF 'chargeparklaw25.ControlLeases'. -/
def controlLeasesCard : Claim7 := { stood := { row := controlLeasesRow, standIns := [], harness := (true, "b4559f00ccf406fe17b7e7b8033c54ebe90ef60c81d6bca295877dbbec26d8d6"), looks := false }, kinds := [], alts := [], laidByText := true, laidKinds := [.data], laidTests := true, laidLooks := .later }
def ControlLeasesCardSaid : Prop := Claim7.holds Tryz.pinned (.plain (OpenSpec.ofChange controlLeasesSpec)) controlLeasesCard

/-- THE TIED CARD OF 'chargeparklaw25.ControlSettles'. -/
def controlSettlesCard : Claim7 := { stood := { row := controlSettlesRow, standIns := [], harness := (true, "b4559f00ccf406fe17b7e7b8033c54ebe90ef60c81d6bca295877dbbec26d8d6"), looks := false }, kinds := [], alts := [], laidByText := true, laidKinds := [.data], laidTests := true, laidLooks := .later }
def ControlSettlesCardSaid : Prop := Claim7.holds Tryz.pinned (.plain (OpenSpec.ofChange controlSettlesSpec)) controlSettlesCard

/-- THE TIED CARD OF 'chargeparklaw25.ControlSafe'. -/
def controlSafeCard : Claim7 := { stood := { row := controlSafeRow, standIns := [], harness := (true, "b4559f00ccf406fe17b7e7b8033c54ebe90ef60c81d6bca295877dbbec26d8d6"), looks := false }, kinds := [], alts := [], laidByText := true, laidKinds := [.data], laidTests := true, laidLooks := .later }
def ControlSafeCardSaid : Prop := Claim7.holds Tryz.pinned (.plain (OpenSpec.ofChange controlSafeSpec)) controlSafeCard

/-- THE SECOND FORM's CARD OF 'chargeparklaw25.ControlMatchesReference'. -/
def controlMatchesReferenceUptoCard : Claim7 := { stood := { row := controlMatchesReferenceUptoRow, standIns := [], harness := (true, "b4559f00ccf406fe17b7e7b8033c54ebe90ef60c81d6bca295877dbbec26d8d6"), looks := false }, kinds := [], alts := [], laidByText := true, laidKinds := [.data], laidTests := true, laidLooks := .later }
def ControlMatchesReferenceUptoCardSaid : Prop := Claim7.holds Tryz.pinned (.plain (OpenSpec.upto controlMatchesReferenceSpec)) controlMatchesReferenceUptoCard

/-- THE SECOND FORM's CARD OF 'chargeparklaw25.ControlOrder'. -/
def controlOrderUptoCard : Claim7 := { stood := { row := controlOrderUptoRow, standIns := [], harness := (true, "b4559f00ccf406fe17b7e7b8033c54ebe90ef60c81d6bca295877dbbec26d8d6"), looks := false }, kinds := [], alts := [], laidByText := true, laidKinds := [.data], laidTests := true, laidLooks := .later }
def ControlOrderUptoCardSaid : Prop := Claim7.holds Tryz.pinned (.plain (OpenSpec.upto controlOrderSpec)) controlOrderUptoCard

/-- THE SECOND FORM's CARD OF 'chargeparklaw25.ControlTargets'. -/
def controlTargetsUptoCard : Claim7 := { stood := { row := controlTargetsUptoRow, standIns := [], harness := (true, "b4559f00ccf406fe17b7e7b8033c54ebe90ef60c81d6bca295877dbbec26d8d6"), looks := false }, kinds := [], alts := [], laidByText := true, laidKinds := [.data], laidTests := true, laidLooks := .later }
def ControlTargetsUptoCardSaid : Prop := Claim7.holds Tryz.pinned (.plain (OpenSpec.upto controlTargetsSpec)) controlTargetsUptoCard

/-- THE SECOND FORM's CARD OF 'chargeparklaw25.ControlPrecedence'. -/
def controlPrecedenceUptoCard : Claim7 := { stood := { row := controlPrecedenceUptoRow, standIns := [], harness := (true, "b4559f00ccf406fe17b7e7b8033c54ebe90ef60c81d6bca295877dbbec26d8d6"), looks := false }, kinds := [], alts := [], laidByText := true, laidKinds := [.data], laidTests := true, laidLooks := .later }
def ControlPrecedenceUptoCardSaid : Prop := Claim7.holds Tryz.pinned (.plain (OpenSpec.upto controlPrecedenceSpec)) controlPrecedenceUptoCard

/-- THE SECOND FORM's CARD OF 'chargeparklaw25.ControlWishes'. -/
def controlWishesUptoCard : Claim7 := { stood := { row := controlWishesUptoRow, standIns := [], harness := (true, "b4559f00ccf406fe17b7e7b8033c54ebe90ef60c81d6bca295877dbbec26d8d6"), looks := false }, kinds := [], alts := [], laidByText := true, laidKinds := [.data], laidTests := true, laidLooks := .later }
def ControlWishesUptoCardSaid : Prop := Claim7.holds Tryz.pinned (.plain (OpenSpec.upto controlWishesSpec)) controlWishesUptoCard

/-- THE SECOND FORM's CARD OF 'chargeparklaw25.ControlLeases'. -/
def controlLeasesUptoCard : Claim7 := { stood := { row := controlLeasesUptoRow, standIns := [], harness := (true, "b4559f00ccf406fe17b7e7b8033c54ebe90ef60c81d6bca295877dbbec26d8d6"), looks := false }, kinds := [], alts := [], laidByText := true, laidKinds := [.data], laidTests := true, laidLooks := .later }
def ControlLeasesUptoCardSaid : Prop := Claim7.holds Tryz.pinned (.plain (OpenSpec.upto controlLeasesSpec)) controlLeasesUptoCard

/-- THE SECOND FORM's CARD OF 'chargeparklaw25.ControlSettles'. -/
def controlSettlesUptoCard : Claim7 := { stood := { row := controlSettlesUptoRow, standIns := [], harness := (true, "b4559f00ccf406fe17b7e7b8033c54ebe90ef60c81d6bca295877dbbec26d8d6"), looks := false }, kinds := [], alts := [], laidByText := true, laidKinds := [.data], laidTests := true, laidLooks := .later }
def ControlSettlesUptoCardSaid : Prop := Claim7.holds Tryz.pinned (.plain (OpenSpec.upto controlSettlesSpec)) controlSettlesUptoCard

/-- THE SECOND FORM's CARD OF 'chargeparklaw25.ControlSafe'. -/
def controlSafeUptoCard : Claim7 := { stood := { row := controlSafeUptoRow, standIns := [], harness := (true, "b4559f00ccf406fe17b7e7b8033c54ebe90ef60c81d6bca295877dbbec26d8d6"), looks := false }, kinds := [], alts := [], laidByText := true, laidKinds := [.data], laidTests := true, laidLooks := .later }
def ControlSafeUptoCardSaid : Prop := Claim7.holds Tryz.pinned (.plain (OpenSpec.upto controlSafeSpec)) controlSafeUptoCard
end Rows
end Go.Proofs.YtlihnbimgclogaaGreatDoor
