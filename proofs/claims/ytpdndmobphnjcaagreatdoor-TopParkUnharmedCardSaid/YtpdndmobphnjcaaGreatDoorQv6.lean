/- TopParkUnharmed: no fuse melts, no cable gets warmer than it may, and no neutral conductor carries more than it may. -/
import Derived.Test.YtpdndmobphnjcaaGreatDoorQv5
set_option linter.defProp false
set_option linter.unusedVariables false
set_option linter.unusedSimpArgs false
noncomputable section
open List renaming length→M,length→aa,replicate→aq,range→au
open Bool renaming true→U,true→ae,false→X,false→af
open Go.Value renaming int→ag
open Option renaming some→ah,none→aj
open Go.IntKind renaming i64→J,i64→ai,u8→aw,u32→ax
open True renaming intro→ak
open Decidable renaming decide→an
open ByteArray renaming mk→av
open Go.Region renaming ready→ay,wanted→az
open Go.Instr renaming findNow→aA
namespace Go.Proofs.YtpdndmobphnjcaaGreatDoor
set_option maxRecDepth 100000
set_option maxHeartbeats 4000000
open Go.Proofs.Tryz
open Go.Sx Go.ChangeShapes Go.WideShapes Go.ChangeAt Go.RowKit
namespace TopParkUnharmed
def ay4 {l:List ((.pair (.int aw)<|.pair (.int aw)<|.pair (.int .u16)<|.pair AO Ai):Ty).D}(h:wfD (.sl<|.pair (.int aw)<|.pair (.int aw)<|.pair (.int .u16)<|.pair AO Ai) l):M l<=17592186044416:=by
 have h2:M l*mb (.pair (.int aw)<|.pair (.int aw)<|.pair (.int .u16)<|.pair AO Ai)<=reachBytes:=h.1.2
 have e:mb (.pair (.int aw)<|.pair (.int aw)<|.pair (.int .u16)<|.pair AO Ai)=69:=Ad
 rw [e] at h2;unfold reachBytes at h2;omega
def opened (ls:aYf) (h:XR prog 8 f3.params.toList ls):(aar<|SL prog f3.params.toList ls).all (λx=>x=.v (.bool U)):=by
 rw [Tryz.params3] at h|-;simp only [XR] at h;obtain ⟨l0,_,rfl,h0,l1,_,rfl,h1,l2,_,rfl,h2,rfl⟩:=h;obtain ⟨d0,rfl,w0⟩:=vD (ty:=(.pair (.sl Ae)<|.pair (.sl .str)<|.pair (.sl Ak)<|.pair (.sl Af)<|.sl Al)) AV h0;obtain ⟨d1,rfl,w1⟩:=vD (ty:=(.sl<|.int J)) AV h1;obtain ⟨d2,rfl,w2⟩:=vD (ty:=(.sl<|.pair (.int aw)<|.pair (.int aw)<|.pair (.int .u16)<|.pair AO Ai)) AV h2;simp only [SL,pLV,Tryz.underlying30,Tryz.underlying29,Tryz.underlying28];refine aGl (t':=T.req (M d2<=17592186044416)<|T.ok<|LV.v<|Value.bool U) AV ?_;exact ⟨ay4 w2,rfl⟩
def contract (H:Type) (enc:TypeId×Value->H) (W:aO) (base:aC) (args:aX) (ds gs:List<|DataW H) (before:aXY)
  (hval:∀(j:aC) t v,f3.params[j]? =ah t->args[j]? =ah v->Value.okWide prog W .any base t v)
  (hW:DataW.Whole enc prog f3.params.toList Rows.topParkUnharmedSpec.vars X W args.toList ds gs before) (hL:laidMetH prog Rows.topParkUnharmedRow.laid W) {us:bu} (hz:(DataW.weightsEach prog (f3.params.toList++us)<|ds++gs).all (·<=reachBytes)=U):
  Calls prog 3 args W λe W'=>∃v,e=.returned v/\Rows.topParkUnharmedSpec.post enc prog f3 X U X X W args v W':=by
 refine ads (m:=8) (tb:=4) akf laidOut AV AV Tryz.underlying4 rfl ?_ AV opened (arJ hL) hval hW hz;obtain ⟨p,q,hA,_⟩:=hW
 have hl:=aGw hA
 rw [Tryz.params3] at hl
 match ds,hl with
 | [_,_,_],_=>exact ⟨rfl,rfl,rfl⟩
def laid_met (os:Os):laidMet prog Rows.topParkUnharmedRow.laid ((laidWorld os).forCall (λ_ _=>0) ⟨#[],#[.agg #[.slice aj 0 0,.slice aj 0 0,.slice aj 0 0,.slice aj 0 0,.slice aj 0 0],.slice aj 0 0,.slice aj 0 0],[]⟩).memory:=
 laidMet_of_run' 8 AV AV
def reads (os:Os) {H:Type}(enc:TypeId×Value->H):∃places,DataW.whole enc prog ((laidWorld os).forCall (λ_ _=>0) ⟨#[],#[.agg #[.slice aj 0 0,.slice aj 0 0,.slice aj 0 0,.slice aj 0 0,.slice aj 0 0],.slice aj 0 0,.slice aj 0 0],[]⟩).memory f3.params.toList Rows.topParkUnharmedSpec.vars X #[.agg #[.slice aj 0 0,.slice aj 0 0,.slice aj 0 0,.slice aj 0 0,.slice aj 0 0],.slice aj 0 0,.slice aj 0 0].toList 8=ah ([.agg [.nil,.nil,.nil,.nil,.nil],.nil,.nil],[],places):=
 ⟨[],AV⟩
def lifted (os:Os) (started:os.Started) (H:Type) (enc:TypeId×Value->H) (F:Stop.Interp):
  ReturnsInHanded {} Tryz.checked os 3 .any ((OpenSpec.ofChange Rows.topParkUnharmedSpec).preRow enc prog f3 Rows.topParkUnharmedRow.domain X Rows.topParkUnharmedRow.laid) (((OpenSpec.ofChange Rows.topParkUnharmedSpec).at F).post enc prog f3 X U X X):=by
 obtain ⟨places,hx⟩:=reads os enc
 refine returnsInHanded_of_row (C:=Tryz.checked) (s:=OpenSpec.ofChange Rows.topParkUnharmedSpec) own started AV func3
  (witness_row_at (enc:=enc) (C:=Tryz.checked) X (laidWorld os) #[.agg #[.slice aj 0 0,.slice aj 0 0,.slice aj 0 0,.slice aj 0 0,.slice aj 0 0],.slice aj 0 0,.slice aj 0 0] rfl AV AV AV
   (OpenSpec.preRow_of_cond 8 hx AV (λk hk=>NJ) AV<|laid_met os)) ?_
 intro W base args ds gs before hval hW _ _ hz hL _ _;exact contract H enc W base args ds gs before hval hW hL hz
def said:Rows.TopParkUnharmedSaid:=
 OpenClaim.holds_of_cond 3 f3 rfl rfl rfl rfl rfl rfl rfl ⟨rfl,rfl,rfl,rfl,rfl⟩ rfl rfl rfl rfl rfl AV func3 AV
  (DJ AV) (by unfold Func.isWrapper;first|(rw [AD<|by decide+kernel];kernel_rfl) |(rw [AE<|by decide+kernel];exact ⟨rfl,rfl⟩))
  (λos started H enc _ F=>by rw [OpenClaim.pre_eq_preRow];exact lifted os started H enc F)
def plain (f:bn) (fn:aXX) (hf:Tryz.pinned.checked.prog.funcNamed "chargepark/chargeparktop.TopParkUnharmed"=ah f) (hfn:Tryz.pinned.checked.prog.funcs[f]? =ah fn):
  U=Tryz.pinned.checked.prog.looks []/\∀(j:aC) t,fn.params[j]? =ah t->Tryz.pinned.checked.prog.wantsStandIn t=false:=by
 obtain rfl:f=3:=Ej ((show prog.funcNamed "chargepark/chargeparktop.TopParkUnharmed"=ah 3 by kernel_rfl).symm.trans hf) |>.symm
 obtain rfl:fn=f3:=(Ej<|func3.symm.trans hfn).symm;refine ⟨AV,λj t ht=>?_⟩
 have h:f3.params.toList.all (λt=>!prog.wantsStandIn t)=true:=AV
 have:=BO.1 h t<|by simpa using Array.mem_of_getElem? ht
 show prog.wantsStandIn t=X
 simpa using this
def card:Rows.TopParkUnharmedCardSaid:=
 Claim7.holds_tied_plain_at .later [] _ _ _ _ said (λ_ h=>As) AV (λ_ h=>As) topParkUnharmed_row_tie rfl ⟨rfl,rfl⟩ AV rfl plain AV
end TopParkUnharmed
theorem topParkUnharmed_card:Rows.TopParkUnharmedCardSaid:=TopParkUnharmed.card
end Go.Proofs.YtpdndmobphnjcaaGreatDoor
end
