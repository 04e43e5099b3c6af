/- Helpers for ParkEvents. Conditions: none. -/
import Derived.Test.YtjjcgjkagokchaaGreatDoorQz6
set_option linter.defProp false
set_option linter.unusedVariables false
set_option linter.unusedSimpArgs false
noncomputable section
open List renaming length→M,length→aa,replicate→aq,range→au
open Bool renaming true→U,true→ae,false→X,false→af
open Go.Value renaming int→ag
open Option renaming some→ah,none→aj
open Go.IntKind renaming i64→J,i64→ai,u8→aw,u32→ax
open True renaming intro→ak
open Decidable renaming decide→an
open ByteArray renaming mk→av
open Go.Region renaming ready→ay,wanted→az
open Go.Instr renaming findNow→aA
namespace Go.Proofs.YtjjcgjkagokchaaGreatDoor
set_option maxRecDepth 100000
set_option maxHeartbeats 4000000
open Go.Proofs.Tryz
open Go.Sx Go.ChangeShapes Go.WideShapes Go.ChangeAt Go.RowKit
namespace ParkEvents
def n1:prog.inPlace 3=["internal/reflectlite.TypeOf"]:=AM
def n2:prog.unfollowed 3=true:=AM
def n3:prog.recurses 3=true:=AM
def n4:prog.varsNamed 3=["chargepark/ramp.happens", "chargepark/vault.widths", "chargepark/charger.afterwards"]:=AM
def n5:(f3.params.toList++(OpenSpec.ofChange Rows.parkEventsSpec).bare.plain.varTypes prog).any (prog.loopsFrom ·)=false:=AM
def closed:joinedFacts prog 3 f3 (OpenSpec.ofChange Rows.parkEventsSpec).bare Rows.parkEventsRow=true:=by
 unfold joinedFacts;rw [n1,n2,n3,n4,n5]
 kernel_rfl
end ParkEvents
end Go.Proofs.YtjjcgjkagokchaaGreatDoor
end
