/- ParkEvents returns true for all arguments: an event changes nothing but what it may change. Conditions: none. -/
import Derived.Test.YtjjcgjkagokchaaGreatDoorQz7
set_option linter.defProp false
set_option linter.unusedVariables false
set_option linter.unusedSimpArgs false
noncomputable section
open List renaming length→M,length→aa,replicate→aq,range→au
open Bool renaming true→U,true→ae,false→X,false→af
open Go.Value renaming int→ag
open Option renaming some→ah,none→aj
open Go.IntKind renaming i64→J,i64→ai,u8→aw,u32→ax
open True renaming intro→ak
open Decidable renaming decide→an
open ByteArray renaming mk→av
open Go.Region renaming ready→ay,wanted→az
open Go.Instr renaming findNow→aA
namespace Go.Proofs.YtjjcgjkagokchaaGreatDoor
set_option maxRecDepth 100000
set_option maxHeartbeats 4000000
open Go.Proofs.Tryz
open Go.Sx Go.ChangeShapes Go.WideShapes Go.ChangeAt Go.RowKit
namespace ParkEvents
def laid_met (os:Os):laidMet prog Rows.parkEventsRow.laid ((laidWorld os).forCall (λ_ _=>0) ⟨#[],#[.agg #[.slice aj 0 0,.slice aj 0 0,.slice aj 0 0,.slice aj 0 0,.slice aj 0 0,ag J 0,.bool X,.slice aj 0 0,ag J 0,.slice aj 0 0,.slice aj 0 0,ag J 0,.slice aj 0 0,.slice aj 0 0,.slice aj 0 0,.slice aj 0 0,.slice aj 0 0,.slice aj 0 0,.slice aj 0 0,.slice aj 0 0],.agg #[ag J 0,ag J 0,ag J 0,ag J 0,ag J 0,ag J 0,ag J 0,ag J 0,.bool X,ag J 0,ag J 0,ag J 0]],[]⟩).memory:=
 laidMet_of_run' 8 AM AM
def reads (os:Os) {H:Type}(enc:TypeId×Value->H):∃places,DataW.whole enc prog ((laidWorld os).forCall (λ_ _=>0) ⟨#[],#[.agg #[.slice aj 0 0,.slice aj 0 0,.slice aj 0 0,.slice aj 0 0,.slice aj 0 0,ag J 0,.bool X,.slice aj 0 0,ag J 0,.slice aj 0 0,.slice aj 0 0,ag J 0,.slice aj 0 0,.slice aj 0 0,.slice aj 0 0,.slice aj 0 0,.slice aj 0 0,.slice aj 0 0,.slice aj 0 0,.slice aj 0 0],.agg #[ag J 0,ag J 0,ag J 0,ag J 0,ag J 0,ag J 0,ag J 0,ag J 0,.bool X,ag J 0,ag J 0,ag J 0]],[]⟩).memory f3.params.toList Rows.parkEventsSpec.vars X #[.agg #[.slice aj 0 0,.slice aj 0 0,.slice aj 0 0,.slice aj 0 0,.slice aj 0 0,ag J 0,.bool X,.slice aj 0 0,ag J 0,.slice aj 0 0,.slice aj 0 0,ag J 0,.slice aj 0 0,.slice aj 0 0,.slice aj 0 0,.slice aj 0 0,.slice aj 0 0,.slice aj 0 0,.slice aj 0 0,.slice aj 0 0],.agg #[ag J 0,ag J 0,ag J 0,ag J 0,ag J 0,ag J 0,ag J 0,ag J 0,.bool X,ag J 0,ag J 0,ag J 0]].toList 8=ah ([.agg [.agg [.nil,.nil,.nil,.nil,.nil],.lit<|.int J 0,.agg [.lit<|.bool X,.nil,.agg [.lit<|.int J 0,.nil],.nil,.lit<|.int J 0],.nil,.nil,.nil,.nil,.nil,.nil,.nil,.nil],.agg [.lit<|.int J 0,.lit<|.int J 0,.lit<|.int J 0,.agg [.lit<|.int J 0,.lit<|.int J 0,.lit<|.int J 0,.lit<|.int J 0,.lit<|.int J 0],.agg [.lit<|.bool X,.lit<|.int J 0,.lit<|.int J 0,.lit<|.int J 0]]],[],places):=
 ⟨[],AM⟩
def lifted (os:Os) (started:os.Started) (H:Type) (enc:TypeId×Value->H) (F:Stop.Interp):
  ReturnsInHanded {} Tryz.checked os 3 .any ((OpenSpec.ofChange Rows.parkEventsSpec).preRow enc prog f3 Rows.parkEventsRow.domain X Rows.parkEventsRow.laid) (((OpenSpec.ofChange Rows.parkEventsSpec).at F).post enc prog f3 X U X X):=by
 obtain ⟨places,hx⟩:=reads os enc
 refine returnsInHanded_of_row (C:=Tryz.checked) (s:=OpenSpec.ofChange Rows.parkEventsSpec) own started AM func3
  (witness_row_at (enc:=enc) (C:=Tryz.checked) X (laidWorld os) #[.agg #[.slice aj 0 0,.slice aj 0 0,.slice aj 0 0,.slice aj 0 0,.slice aj 0 0,ag J 0,.bool X,.slice aj 0 0,ag J 0,.slice aj 0 0,.slice aj 0 0,ag J 0,.slice aj 0 0,.slice aj 0 0,.slice aj 0 0,.slice aj 0 0,.slice aj 0 0,.slice aj 0 0,.slice aj 0 0,.slice aj 0 0],.agg #[ag J 0,ag J 0,ag J 0,ag J 0,ag J 0,ag J 0,ag J 0,ag J 0,.bool X,ag J 0,ag J 0,ag J 0]] rfl AM AM AM
   (OpenSpec.preRow_of_cond 8 hx AM (λk hk=>by cases hk) AM<|laid_met os)) ?_
 intro W base args ds gs before hval hW _ _ hz hL _ _;exact contract H enc W base args ds gs before hval hW hL hz
def said:Rows.ParkEventsSaid:=
 OpenClaim.holds_of_cond 3 f3 rfl rfl rfl rfl rfl rfl rfl ⟨rfl,rfl,rfl,rfl,rfl⟩ rfl rfl rfl rfl rfl AM func3 closed
  (C9 AM) (by unfold Func.isWrapper;first|(rw [AD sS];kernel_rfl) |(rw [AE sS];exact ⟨rfl,rfl⟩))
  (λos started H enc _ F=>by rw [OpenClaim.pre_eq_preRow];exact lifted os started H enc F)
def plain (f:bg) (fn:aL8) (hf:Tryz.pinned.checked.prog.funcNamed "chargepark/chargeparklaw44.ParkEvents"=ah f) (hfn:Tryz.pinned.checked.prog.funcs[f]? =ah fn):
  U=Tryz.pinned.checked.prog.looks []/\∀(j:aC) t,fn.params[j]? =ah t->Tryz.pinned.checked.prog.wantsStandIn t=false:=by
 obtain rfl:f=3:=DE ((show prog.funcNamed "chargepark/chargeparklaw44.ParkEvents"=ah 3 by kernel_rfl).symm.trans hf) |>.symm
 obtain rfl:fn=f3:=(DE<|func3.symm.trans hfn).symm;refine ⟨AM,λj t ht=>?_⟩
 have h:f3.params.toList.all (λt=>!prog.wantsStandIn t)=true:=AM
 have:=B7.1 h t<|by simpa using Array.mem_of_getElem? ht
 show prog.wantsStandIn t=X
 simpa using this
def card:Rows.ParkEventsCardSaid:=
 Claim7.holds_tied_plain_at .later [] _ _ _ _ said (λ_ h=>Ab) AM (λ_ h=>Ab) parkEvents_row_tie rfl ⟨rfl,rfl⟩ AM rfl plain AM
end ParkEvents
theorem parkEvents_card:Rows.ParkEventsCardSaid:=ParkEvents.card
end Go.Proofs.YtjjcgjkagokchaaGreatDoor
end
