/-
  DERIVED. GIVEN WITH THE SEED: THE CARDS: each row of YtgghdejgfihkcaaDoorRows.lean that lists a variable, with what it lists TIED to the program's text (the seventh form; the later family's looks); each row that meets fmt, with fmt's text TOLD by the authors' own Lean function (tested against real Go, not proved from fmt's source: count such statements apart). THE CARD IS WHAT COUNTS. Prove the row's statement (the work); the ties are given (YtgghdejgfihkcaaDoorTie.lean); close each card by the builder's one call (the guide's Derived/Test/ToyasCard.lean, 'card_holds'). Laid BY PROGRAM, IN A SANDBOX (cutbox-door.mjs). By AI agents, Wed Nov 11 2026. No macro, syntax, notation, axiom, sorry.
-/
import Derived.Test.YtgghdejgfihkcaaDoorRows
import GoSem.ClaimSeven
namespace Go.Proofs.YtgghdejgfihkcaaDoor
namespace Rows

/-- THE TIED CARD OF 'chargeparklaw24.RampMatchesReference'. -/
def rampMatchesReferenceCard : Claim7 := { stood := { row := rampMatchesReferenceRow, standIns := [], harness := (true, "b70f7e7570bad1b653bf04f98ec0f6b485bcec5ed0cff87e0f22f41d3a58d0cc"), looks := false }, kinds := [], alts := [], laidByText := true, laidKinds := [.data], laidTests := true, laidLooks := .later }
def RampMatchesReferenceCardSaid : Prop := Claim7.holds Tryd.pinned (.plain (OpenSpec.ofChange rampMatchesReferenceSpec)) rampMatchesReferenceCard

/-- THE TIED CARD OF 'chargeparklaw24.RampNeverMore'. -/
def rampNeverMoreCard : Claim7 := { stood := { row := rampNeverMoreRow, standIns := [], harness := (true, "b70f7e7570bad1b653bf04f98ec0f6b485bcec5ed0cff87e0f22f41d3a58d0cc"), looks := false }, kinds := [], alts := [], laidByText := true, laidKinds := [.data], laidTests := true, laidLooks := .later }
def RampNeverMoreCardSaid : Prop := Claim7.holds Tryd.pinned (.plain (OpenSpec.ofChange rampNeverMoreSpec)) rampNeverMoreCard

/-- THE TIED CARD OF 'chargeparklaw24.RampRest'. -/
def rampRestCard : Claim7 := { stood := { row := rampRestRow, standIns := [], harness := (true, "b70f7e7570bad1b653bf04f98ec0f6b485bcec5ed0cff87e0f22f41d3a58d0cc"), looks := false }, kinds := [], alts := [], laidByText := true, laidKinds := [.data], laidTests := true, laidLooks := .later }
def RampRestCardSaid : Prop := Claim7.holds Tryd.pinned (.plain (OpenSpec.ofChange rampRestSpec)) rampRestCard

/-- THE TIED CARD OF 'chargeparklaw24.RampArrives'. -/
def rampArrivesCard : Claim7 := { stood := { row := rampArrivesRow, standIns := [], harness := (true, "b70f7e7570bad1b653bf04f98ec0f6b485bcec5ed0cff87e0f22f41d3a58d0cc"), looks := false }, kinds := [], alts := [], laidByText := true, laidKinds := [.data], laidTests := true, laidLooks := .later }
def RampArrivesCardSaid : Prop := Claim7.holds Tryd.pinned (.plain (OpenSpec.ofChange rampArrivesSpec)) rampArrivesCard

/-- THE TIED CARD OF 'chargeparklaw24.RampOrder'. -/
def rampOrderCard : Claim7 := { stood := { row := rampOrderRow, standIns := [], harness := (true, "b70f7e7570bad1b653bf04f98ec0f6b485bcec5ed0cff87e0f22f41d3a58d0cc"), looks := false }, kinds := [], alts := [], laidByText := true, laidKinds := [.data], laidTests := true, laidLooks := .later }
def RampOrderCardSaid : Prop := Claim7.holds Tryd.pinned (.plain (OpenSpec.ofChange rampOrderSpec)) rampOrderCard

/-- THE TIED CARD OF 'chargeparklaw24.RampSince'. -/
def rampSinceCard : Claim7 := { stood := { row := rampSinceRow, standIns := [], harness := (true, "b70f7e7570bad1b653bf04f98ec0f6b485bcec5ed0cff87e0f22f41d3a58d0cc"), looks := false }, kinds := [], alts := [], laidByText := true, laidKinds := [.data], laidTests := true, laidLooks := .later }
def RampSinceCardSaid : Prop := Claim7.holds Tryd.pinned (.plain (OpenSpec.ofChange rampSinceSpec)) rampSinceCard

/-- THE SECOND FORM's CARD OF 'chargeparklaw24.RampMatchesReference'. -/
def rampMatchesReferenceUptoCard : Claim7 := { stood := { row := rampMatchesReferenceUptoRow, standIns := [], harness := (true, "b70f7e7570bad1b653bf04f98ec0f6b485bcec5ed0cff87e0f22f41d3a58d0cc"), looks := false }, kinds := [], alts := [], laidByText := true, laidKinds := [.data], laidTests := true, laidLooks := .later }
def RampMatchesReferenceUptoCardSaid : Prop := Claim7.holds Tryd.pinned (.plain (OpenSpec.upto rampMatchesReferenceSpec)) rampMatchesReferenceUptoCard

/-- THE SECOND FORM's CARD OF 'chargeparklaw24.RampNeverMore'. -/
def rampNeverMoreUptoCard : Claim7 := { stood := { row := rampNeverMoreUptoRow, standIns := [], harness := (true, "b70f7e7570bad1b653bf04f98ec0f6b485bcec5ed0cff87e0f22f41d3a58d0cc"), looks := false }, kinds := [], alts := [], laidByText := true, laidKinds := [.data], laidTests := true, laidLooks := .later }
def RampNeverMoreUptoCardSaid : Prop := Claim7.holds Tryd.pinned (.plain (OpenSpec.upto rampNeverMoreSpec)) rampNeverMoreUptoCard

/-- THE SECOND FORM's CARD OF 'chargeparklaw24.RampRest'. -/
def rampRestUptoCard : Claim7 := { stood := { row := rampRestUptoRow, standIns := [], harness := (true, "b70f7e7570bad1b653bf04f98ec0f6b485bcec5ed0cff87e0f22f41d3a58d0cc"), looks := false }, kinds := [], alts := [], laidByText := true, laidKinds := [.data], laidTests := true, laidLooks := .later }
def RampRestUptoCardSaid : Prop := Claim7.holds Tryd.pinned (.plain (OpenSpec.upto rampRestSpec)) rampRestUptoCard

/-- THE SECOND FORM's CARD OF 'chargeparklaw24.RampArrives'. -/
def rampArrivesUptoCard : Claim7 := { stood := { row := rampArrivesUptoRow, standIns := [], harness := (true, "b70f7e7570bad1b653bf04f98ec0f6b485bcec5ed0cff87e0f22f41d3a58d0cc"), looks := false }, kinds := [], alts := [], laidByText := true, laidKinds := [.data], laidTests := true, laidLooks := .later }
def RampArrivesUptoCardSaid : Prop := Claim7.holds Tryd.pinned (.plain (OpenSpec.upto rampArrivesSpec)) rampArrivesUptoCard

/-- THE SECOND FORM's CARD OF 'chargeparklaw24.RampOrder'. -/
def rampOrderUptoCard : Claim7 := { stood := { row := rampOrderUptoRow, standIns := [], harness := (true, "b70f7e7570bad1b653bf04f98ec0f6b485bcec5ed0cff87e0f22f41d3a58d0cc"), looks := false }, kinds := [], alts := [], laidByText := true, laidKinds := [.data], laidTests := true, laidLooks := .later }
def RampOrderUptoCardSaid : Prop := Claim7.holds Tryd.pinned (.plain (OpenSpec.upto rampOrderSpec)) rampOrderUptoCard

/-- THE SECOND FORM's CARD OF 'chargeparklaw24.RampSince'. -/
def rampSinceUptoCard : Claim7 := { stood := { row := rampSinceUptoRow, standIns := [], harness := (true, "b70f7e7570bad1b653bf04f98ec0f6b485bcec5ed0cff87e0f22f41d3a58d0cc"), looks := false }, kinds := [], alts := [], laidByText := true, laidKinds := [.data], laidTests := true, laidLooks := .later }
def RampSinceUptoCardSaid : Prop := Claim7.holds Tryd.pinned (.plain (OpenSpec.upto rampSinceSpec)) rampSinceUptoCard
end Rows
end Go.Proofs.YtgghdejgfihkcaaDoor
