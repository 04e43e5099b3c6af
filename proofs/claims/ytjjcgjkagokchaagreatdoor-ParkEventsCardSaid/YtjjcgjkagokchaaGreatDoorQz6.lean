/- Helpers for ParkEvents. Conditions: none. -/
import Derived.Test.YtjjcgjkagokchaaGreatDoorQz5
set_option linter.defProp false
set_option linter.unusedVariables false
set_option linter.unusedSimpArgs false
noncomputable section
open List renaming length→M,length→aa,replicate→aq,range→au
open Bool renaming true→U,true→ae,false→X,false→af
open Go.Value renaming int→ag
open Option renaming some→ah,none→aj
open Go.IntKind renaming i64→J,i64→ai,u8→aw,u32→ax
open True renaming intro→ak
open Decidable renaming decide→an
open ByteArray renaming mk→av
open Go.Region renaming ready→ay,wanted→az
open Go.Instr renaming findNow→aA
namespace Go.Proofs.YtjjcgjkagokchaaGreatDoor
set_option maxRecDepth 100000
set_option maxHeartbeats 4000000
open Go.Proofs.Tryz
open Go.Sx Go.ChangeShapes Go.WideShapes Go.ChangeAt Go.RowKit
namespace ParkEvents
def wf_u8 {d:(Ty.int aw).D}(h:Gj (.int aw) d):(0:Y)<=d/\d<=(255:Y):=by
 simp only [Gj,Lit.wf,AS] at h;exact ⟨C9 h.1,C9 h.2⟩
def P1 {e:Ty}{l:List e.D}(h:Gj (.sl e) l) (hm:8<=mb e):M l<=17592186044416:=by
 have h2:M l*mb e<=reachBytes:=h.1.2
 have h3:M l*8<=M l*mb e:=Nat.mul_le_mul_left _ hm
 unfold reachBytes at h2;omega
def pkD (d:(Ty.D<|.pair (.pair (.sl AR)<|.pair (.sl .str)<|.pair (.sl AY)<|.pair (.sl AX)<|.sl AZ)<|.pair (.int J)<|.pair (.pair .bool<|.pair (.sl AL)<|.pair (.pair (.int J)<|.sl<|.int aw)<|.pair (.sl Ae)<|.int J)<|.pair (.sl Al)<|.pair (.sl AL)<|.pair (.sl Ap)<|.pair (.sl Az)<|.pair (.sl Aq)<|.pair (.sl Au)<|.pair (.sl<|.int J)<|.sl<|.int J)):PK:=⟨d.1.1,d.1.2.1,d.1.2.2.1,d.1.2.2.2.1,d.1.2.2.2.2,d.2.1,d.2.2.1.1,d.2.2.1.2.1,d.2.2.1.2.2.1.1,d.2.2.1.2.2.1.2,d.2.2.1.2.2.2.1,d.2.2.1.2.2.2.2,d.2.2.2.1,d.2.2.2.2.1,d.2.2.2.2.2.1,d.2.2.2.2.2.2.1,d.2.2.2.2.2.2.2.1,d.2.2.2.2.2.2.2.2.1,d.2.2.2.2.2.2.2.2.2.1,d.2.2.2.2.2.2.2.2.2.2⟩
def avw {d:(Ty.D<|.pair (.pair (.sl AR)<|.pair (.sl .str)<|.pair (.sl AY)<|.pair (.sl AX)<|.sl AZ)<|.pair (.int J)<|.pair (.pair .bool<|.pair (.sl AL)<|.pair (.pair (.int J)<|.sl<|.int aw)<|.pair (.sl Ae)<|.int J)<|.pair (.sl Al)<|.pair (.sl AL)<|.pair (.sl Ap)<|.pair (.sl Az)<|.pair (.sl Aq)<|.pair (.sl Au)<|.pair (.sl<|.int J)<|.sl<|.int J)}(h:Gj (.pair (.pair (.sl AR)<|.pair (.sl .str)<|.pair (.sl AY)<|.pair (.sl AX)<|.sl AZ)<|.pair (.int J)<|.pair (.pair .bool<|.pair (.sl AL)<|.pair (.pair (.int J)<|.sl<|.int aw)<|.pair (.sl Ae)<|.int J)<|.pair (.sl Al)<|.pair (.sl AL)<|.pair (.sl Ap)<|.pair (.sl Az)<|.pair (.sl Aq)<|.pair (.sl Au)<|.pair (.sl<|.int J)<|.sl<|.int J) d):Fw (pkD d):=by
 obtain ⟨_,_,⟨_,_,⟨_,h0⟩,_,_⟩,h1,h2,h3,h4,h5,_,h6,h7⟩:=h;exact ⟨P1 h3 AT,P1 h1 AT,P1 h2 AT,P1 h4 AT,P1 h5 AT,P1 h6 AT,P1 h7 AT,λx hx=>wf_u8<|h0.2 x hx⟩
def opened (ls:aMq) (h:Wy prog 8 f3.params.toList ls):(ab4<|Nr prog f3.params.toList ls).all (λx=>x=.v (.bool U)):=by
 rw [Tryz.params3] at h|-;simp only [Wy] at h;obtain ⟨l0,_,rfl,h0,l1,_,rfl,h1,rfl⟩:=h;obtain ⟨d0,rfl,w0⟩:=aCa (ty:=(.pair (.pair (.sl AR)<|.pair (.sl .str)<|.pair (.sl AY)<|.pair (.sl AX)<|.sl AZ)<|.pair (.int J)<|.pair (.pair .bool<|.pair (.sl AL)<|.pair (.pair (.int J)<|.sl<|.int aw)<|.pair (.sl Ae)<|.int J)<|.pair (.sl Al)<|.pair (.sl AL)<|.pair (.sl Ap)<|.pair (.sl Az)<|.pair (.sl Aq)<|.pair (.sl Au)<|.pair (.sl<|.int J)<|.sl<|.int J)) AM h0;obtain ⟨d1,rfl,w1⟩:=aCa (ty:=(.pair (.int J)<|.pair (.int J)<|.pair (.int J)<|.pair AL Aq)) AM h1;simp only [Nr,pLV,Tryz.underlying44,Tryz.underlying50];refine all_of_eq (t':=T.req (Fw<|pkD d0)<|T.ok<|LV.v<|Value.bool U) AM ?_;exact ⟨avw w0,rfl⟩
def contract (H:Type) (enc:TypeId×Value->H) (W:aO) (base:aC) (args:aW) (ds gs:List<|DataW H) (before:aL9)
  (hval:∀(j:aC) t v,f3.params[j]? =ah t->args[j]? =ah v->Value.okWide prog W .any base t v)
  (hW:DataW.Whole enc prog f3.params.toList Rows.parkEventsSpec.vars X W args.toList ds gs before) (hL:laidMetH prog Rows.parkEventsRow.laid W) {us:bu} (hz:(DataW.weightsEach prog (f3.params.toList++us)<|ds++gs).all (·<=reachBytes)=U):
  Calls prog 3 args W λe W'=>∃v,e=.returned v/\Rows.parkEventsSpec.post enc prog f3 X U X X W args v W':=by
 refine aeL (m:=8) (tb:=4) avZ laidOut AM AM Tryz.underlying4 rfl ?_ AM opened (afv hL) hval hW hz;obtain ⟨p,q,hA,_⟩:=hW
 have hl:=aeE hA
 rw [Tryz.params3] at hl
 match ds,hl with
 | [_,_],_=>exact ⟨rfl,rfl,rfl⟩
end ParkEvents
end Go.Proofs.YtjjcgjkagokchaaGreatDoor
end
