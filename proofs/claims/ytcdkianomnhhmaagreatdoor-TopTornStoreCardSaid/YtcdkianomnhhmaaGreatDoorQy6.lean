/- TopTornStore returns true for all arguments: if the power of the controller goes in the middle of a flash write, the currents exceed no limit. Conditions: none. -/
import Derived.Test.YtcdkianomnhhmaaGreatDoorQy5
set_option linter.defProp false
set_option linter.unusedVariables false
set_option linter.unusedSimpArgs false
noncomputable section
open List renaming length→M,length→aa,replicate→aq,range→au
open Bool renaming true→U,true→ae,false→X,false→af
open Go.Value renaming int→ag
open Option renaming some→ah,none→aj
open Go.IntKind renaming i64→J,i64→ai,u8→aw,u32→ax
open True renaming intro→ak
open Decidable renaming decide→an
open ByteArray renaming mk→av
open Go.Region renaming ready→ay,wanted→az
open Go.Instr renaming findNow→aA
namespace Go.Proofs.YtcdkianomnhhmaaGreatDoor
set_option maxRecDepth 100000
set_option maxHeartbeats 4000000
open Go.Proofs.Tryz
open Go.Sx Go.ChangeShapes Go.WideShapes Go.ChangeAt Go.RowKit
namespace TopTornStore
def wf_u8 {d:(Ty.int aw).D}(h:HF (.int aw) d):(0:Y)<=d/\d<=(255:Y):=by
 exact aIR
def wf_u16 {d:(Ty.int .u16).D}(h:HF (.int .u16) d):(0:Y)<=d/\d<=(65535:Y):=by
 exact aIR
def amg {l:List ((.pair (.int aw)<|.pair (.int aw)<|.pair (.int .u16)<|.pair AK Ac):Ty).D}(h:HF (.sl<|.pair (.int aw)<|.pair (.int aw)<|.pair (.int .u16)<|.pair AK Ac) l):M l<=17592186044416:=by
 have h2:M l*mb (.pair (.int aw)<|.pair (.int aw)<|.pair (.int .u16)<|.pair AK Ac)<=reachBytes:=h.1.2
 have e:mb (.pair (.int aw)<|.pair (.int aw)<|.pair (.int .u16)<|.pair AK Ac)=69:=AS
 rw [e] at h2;unfold reachBytes at h2;omega
def opened (ls:aKZ) (h:XJ prog 8 f3.params.toList ls):(acD<|Nz prog f3.params.toList ls).all (λx=>x=.v (.bool U)):=by
 rw [Tryz.params3] at h|-;simp only [XJ] at h;obtain ⟨l0,_,rfl,h0,l1,_,rfl,h1,l2,_,rfl,h2,l3,_,rfl,h3,l4,_,rfl,h4,rfl⟩:=h;obtain ⟨d0,rfl,w0⟩:=XI (ty:=(.pair (.sl AX)<|.pair (.sl .str)<|.pair (.sl Ad)<|.pair (.sl AZ)<|.sl Ae)) AO h0;obtain ⟨d1,rfl,w1⟩:=XI (ty:=(.sl<|.int J)) AO h1;obtain ⟨d2,rfl,w2⟩:=XI (ty:=(.sl<|.pair (.int aw)<|.pair (.int aw)<|.pair (.int .u16)<|.pair AK Ac)) AO h2;obtain ⟨d3,rfl,w3⟩:=XI (ty:=(.int .u16)) AO h3;obtain ⟨d4,rfl,w4⟩:=XI (ty:=(.int aw)) AO h4;simp only [Nz,pLV,Tryz.underlying30,Tryz.underlying29,Tryz.underlying28,Tryz.underlying31,Tryz.underlying5];refine all_of_eq (t':=T.req (((0:Y)<=d3/\d3<=(65535:Y))/\((0:Y)<=d4/\d4<=(255:Y))/\M d2<=17592186044416)<|T.ok<|LV.v<|Value.bool U) AO ?_;exact ⟨⟨wf_u16 w3,wf_u8 w4,amg w2⟩,rfl⟩
def contract (H:Type) (enc:TypeId×Value->H) (W:aO) (base:aC) (args:aW) (ds gs:List<|DataW H) (before:aKI)
  (hval:∀(j:aC) t v,f3.params[j]? =ah t->args[j]? =ah v->Value.okWide prog W .any base t v)
  (hW:DataW.Whole enc prog f3.params.toList Rows.topTornStoreSpec.vars X W args.toList ds gs before) (hL:laidMetH prog Rows.topTornStoreRow.laid W) {us:bw} (hz:(DataW.weightsEach prog (f3.params.toList++us)<|ds++gs).all (·<=reachBytes)=U):
  Calls prog 3 args W λe W'=>∃v,e=.returned v/\Rows.topTornStoreSpec.post enc prog f3 X U X X W args v W':=by
 refine afG (m:=8) (tb:=4) auu laidOut AO AO Tryz.underlying4 rfl ?_ AO opened (agu hL) hval hW hz;obtain ⟨p,q,hA,_⟩:=hW
 have hl:=aev hA
 rw [Tryz.params3] at hl
 match ds,hl with
 | [_,_,_,_,_],_=>exact ⟨rfl,rfl,rfl⟩
def laid_met (os:Os):laidMet prog Rows.topTornStoreRow.laid ((laidWorld os).forCall (λ_ _=>0) ⟨#[],#[.agg #[.slice aj 0 0,.slice aj 0 0,.slice aj 0 0,.slice aj 0 0,.slice aj 0 0],.slice aj 0 0,.slice aj 0 0,ag .u16 0,ag aw 0],[]⟩).memory:=
 laidMet_of_run' 8 AO AO
def reads (os:Os) {H:Type}(enc:TypeId×Value->H):∃places,DataW.whole enc prog ((laidWorld os).forCall (λ_ _=>0) ⟨#[],#[.agg #[.slice aj 0 0,.slice aj 0 0,.slice aj 0 0,.slice aj 0 0,.slice aj 0 0],.slice aj 0 0,.slice aj 0 0,ag .u16 0,ag aw 0],[]⟩).memory f3.params.toList Rows.topTornStoreSpec.vars X #[.agg #[.slice aj 0 0,.slice aj 0 0,.slice aj 0 0,.slice aj 0 0,.slice aj 0 0],.slice aj 0 0,.slice aj 0 0,ag .u16 0,ag aw 0].toList 8=ah ([.agg [.nil,.nil,.nil,.nil,.nil],.nil,.nil,.lit<|.int .u16 0,.lit<|.int aw 0],[],places):=
 ⟨[],AO⟩
def lifted (os:Os) (started:os.Started) (H:Type) (enc:TypeId×Value->H) (F:Stop.Interp):
  ReturnsInHanded {} Tryz.checked os 3 .any ((OpenSpec.ofChange Rows.topTornStoreSpec).preRow enc prog f3 Rows.topTornStoreRow.domain X Rows.topTornStoreRow.laid) (((OpenSpec.ofChange Rows.topTornStoreSpec).at F).post enc prog f3 X U X X):=by
 obtain ⟨places,hx⟩:=reads os enc
 refine returnsInHanded_of_row (C:=Tryz.checked) (s:=OpenSpec.ofChange Rows.topTornStoreSpec) own started AO func3
  (witness_row_at (enc:=enc) (C:=Tryz.checked) X (laidWorld os) #[.agg #[.slice aj 0 0,.slice aj 0 0,.slice aj 0 0,.slice aj 0 0,.slice aj 0 0],.slice aj 0 0,.slice aj 0 0,ag .u16 0,ag aw 0] rfl AO AO AO
   (OpenSpec.preRow_of_cond 8 hx AO (λk hk=>Kf) AO<|laid_met os)) ?_
 intro W base args ds gs before hval hW _ _ hz hL _ _;exact contract H enc W base args ds gs before hval hW hL hz
def said:Rows.TopTornStoreSaid:=
 OpenClaim.holds_of_cond 3 f3 rfl rfl rfl rfl rfl rfl rfl ⟨rfl,rfl,rfl,rfl,rfl⟩ rfl rfl rfl rfl rfl AO func3 AO
  (CW AO) (by unfold Func.isWrapper;first|(rw [AB tj];kernel_rfl) |(rw [AD tj];exact ⟨rfl,rfl⟩))
  (λos started H enc _ F=>by rw [OpenClaim.pre_eq_preRow];exact lifted os started H enc F)
def plain (f:bn) (fn:aKG) (hf:Tryz.pinned.checked.prog.funcNamed "chargepark/chargeparktop.TopTornStore"=ah f) (hfn:Tryz.pinned.checked.prog.funcs[f]? =ah fn):
  U=Tryz.pinned.checked.prog.looks []/\∀(j:aC) t,fn.params[j]? =ah t->Tryz.pinned.checked.prog.wantsStandIn t=false:=by
 obtain rfl:f=3:=Dd ((show prog.funcNamed "chargepark/chargeparktop.TopTornStore"=ah 3 by kernel_rfl).symm.trans hf) |>.symm
 obtain rfl:fn=f3:=(Dd<|func3.symm.trans hfn).symm;refine ⟨AO,λj t ht=>?_⟩
 have h:f3.params.toList.all (λt=>!prog.wantsStandIn t)=true:=AO
 have:=B9.1 h t<|by simpa using Array.mem_of_getElem? ht
 show prog.wantsStandIn t=X
 simpa using this
def card:Rows.TopTornStoreCardSaid:=
 Claim7.holds_tied_plain_at .later [] _ _ _ _ said (λ_ h=>Ai) AO (λ_ h=>Ai) topTornStore_row_tie rfl ⟨rfl,rfl⟩ AO rfl plain AO
end TopTornStore
theorem topTornStore_card:Rows.TopTornStoreCardSaid:=TopTornStore.card
end Go.Proofs.YtcdkianomnhhmaaGreatDoor
end
