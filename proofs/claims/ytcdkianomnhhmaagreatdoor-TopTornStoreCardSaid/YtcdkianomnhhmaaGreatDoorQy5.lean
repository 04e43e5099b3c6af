/- Helpers for TopTornStore. Conditions: none. -/
import Derived.Test.YtcdkianomnhhmaaGreatDoorQy4
set_option linter.defProp false
set_option linter.unusedVariables false
set_option linter.unusedSimpArgs false
noncomputable section
open List renaming length→M,length→aa,replicate→aq,range→au
open Bool renaming true→U,true→ae,false→X,false→af
open Go.Value renaming int→ag
open Option renaming some→ah,none→aj
open Go.IntKind renaming i64→J,i64→ai,u8→aw,u32→ax
open True renaming intro→ak
open Decidable renaming decide→an
open ByteArray renaming mk→av
open Go.Region renaming ready→ay,wanted→az
open Go.Instr renaming findNow→aA
namespace Go.Proofs.YtcdkianomnhhmaaGreatDoor
set_option maxRecDepth 100000
set_option maxHeartbeats 4000000
open Go.Proofs.Tryz
open Go.Sx
def aqV:Rs WX aFB Dn (λs:FM=>FJ s.se s.fl s.i (Ew s-s.i).toNat (s.al,(BA s.al).2)) (λx s' (v:List Fl×List Int)=>x=.exit 0/\(s'.al,(BA s'.al).2)=v):=Cq pH ot (λs hI=>by
  show allR _ _ ((Qb s).rd s)
  unfold Qb;dsimp only [T.rd,T.rl];refine allR_ite (λc1=>?_) λc1=>?_
  ·have hL:=ae2 s hI c1
   have q:(gY (Gu s)=.ret/\(iW<|Gu s).r=U/\(((Gu s)).l.drop ((Gu s)).i.toNat).all (λb=>b==255)=X)\/(gY (Gu s)=.exit 0/\(((Gu s)).l.drop ((Gu s)).i.toNat).all (λb=>b==255)=U):=aiw _<|ac1 s hI c1
   obtain ⟨hi,hy,w1,w2,wi,hE,hR,hl,n1,n2,n3,n4,n5,n6,n7,n8,n9⟩:=Qe s hI c1
   have e:((Gu s)).l.drop ((Gu s)).i.toNat=(s.fl.drop (s.i*s.se).toNat).take s.se.toNat:=by
    show List.drop 0 (List.take _<|List.drop _ s.fl)=_
    grind
   have hw:JX s.se s.fl s.i=!((((Gu s)).l.drop ((Gu s)).i.toNat).all λb=>b==255):=by unfold JX;rw [e]
   have hn:(Ew s-s.i).toNat=(Ew s-(s.i+1)).toNat+1:=A0
   have h6:=hI.2.2.2.2.1
   rw [hn,wi];simp only [FJ];refine allR_ite (λc2=>allR_ite (λc3=>allR_ite (λc4=>?_) λc4=>?_) λc3=>?_) λc2=>?_
   ·grind
   ·rcases q with ⟨_,_,q3⟩ |⟨q1,_⟩
    ·rw [hy,hR,Cx AG,hw,q3]
     show FJ s.se s.fl (s.i+1) (Ew s-(s.i+1)).toNat (s.al++List.drop 1 _,(BA<|s.al++List.drop 1 _).2)=_
     rw [hL,h6];rfl
    ·rw [isEx_eq c2] at q1;cases q1
   ·rcases q with ⟨_,q2,_⟩ |⟨q1,_⟩
    ·rw [q2] at c3;cases c3
    ·rw [isEx_eq c2] at q1;cases q1
   ·rcases q with ⟨q1,_,_⟩ |⟨_,q2⟩
    ·rw [q1] at c2;simp [isEx] at c2
    ·rw [hw,q2]
     rfl
  ·have c1:Ew s<=s.i:=AQ
   rw [show (Ew s-s.i).toNat=0 by omega]
   exact ⟨rfl,rfl⟩)
structure Ln where
 (half other:Y)
 l:aI
 (n i er:Y)
 bytes:aB
 al:ba
def aBH:=bN f29 1
def v8 (s:Ln):T (Rd Ln):=
 .br (an<|s.i<s.n) (.ix s.i (M s.l)<|.req (M (gx (e:=.sl<|.int aw) s.l s.i)<=70000)<|.rb (M s.bytes) (M<|BR<|gx (e:=.sl<|.int aw) s.l s.i) 1<|.re (M s.bytes+M (BR<|gx (e:=.sl<|.int aw) s.l s.i)) (s.bytes++(BR<|gx (e:=.sl<|.int aw) s.l s.i))<|.rl s.al<|.nx {s with i:=AA<|s.i+1,bytes:=s.bytes++(BR<|gx (e:=.sl<|.int aw) s.l s.i)}) (.rl s.bytes<|.rl s.al<|.so (.exit 2) s)
def fH (s:Ln):Prop:=s.i=0/\s.n<=5000/\s.n=(M s.l:Y)/\Fo s.l/\(M s.bytes:Y)<=4+70100*s.i
def fT (s:Ln):Prop:=0<=s.i/\s.i<=s.n/\s.n<=5000/\s.n=(M s.l:Y)/\Fo s.l/\(M s.bytes:Y)<=4+70100*s.i
def pV (s:Ln):aC:=(s.n-s.i).toNat
def aeK (x:Ex) (s s':Ln):Prop:=True
def azr:∀s,fH s->fT s:=by
 exact Vo
def awo:Da fT pV aeK v8:=by
 intro s hI;obtain ⟨h0,h1,h2,h3,h4,h5⟩:=hI;refine allR_ite (λc1=>?_) λc1=>trivial
 ·have c1:s.i<s.n:=A8
  have hk:=S7 h4 h0 A0
  have hp:=J2<|gx (e:=.sl<|.int aw) s.l s.i
  rw [AH (x:=s.i+1)];exact ⟨⟨A8,A8,h2,h3,h4,A8⟩,by simp only [pV];omega⟩
def N8:LpD Ln:=⟨0,97,[8,9,10,14,69,70,71],[],λs=>[s.half,.own 0 0,s.other,.os 1 1 0<|M s.bytes,.xl (.sl<|.int aw) s.l,s.n,s.i],λs=>[⟨[.os 2 2 0<|M s.al,s.er],209,.cl,X⟩,bV 5 (.int aw) s.bytes,bV 37 BM s.al],λv b=>⟨AJ v 0,AJ v 2,As (.sl<|.int aw) v 4,AJ v 5,AJ v 6,Af b 0 1,AV (.int aw) b 1,AV BM b 2⟩,v8,λs r=> {s with i:=r.i,bytes:=r.bytes},λs=>s,λ_ s=>s,[.exit 2],fH,fT,pV⟩
abbrev L1:=N8.run
abbrev arh:=N8.exn
def avn:Rq fT v8:=by
 intro s hI;refine ⟨λc1=>⟨?_,?_,?_,?_,A9,ak⟩,λc1=>⟨A9,A9,ak⟩⟩
 all_goals ((obtain ⟨h0,h1,h2,h3,h4,h5⟩:=hI;have c1:s.i<s.n:=A8;have hk:=S7 h4 h0 A0;have hp:=J2<|gx (e:=.sl<|.int aw) s.l s.i;(first|omega|(simp only [C0,Ax];omega) |simp only [C0,Ax,DZ])))
def XK:aN:=[mm,aag,YN,aak,X8]
def mO:Ap:=Fx XK (la 2 func75 iR<|l0 XK) [⟨68,Hf λa=>Nl.m a [],XL⟩,⟨71,Q8.m,Xa⟩,⟨77,Hf λa=>QA.m a [],lJ⟩]
def abb:N8.Ok:={}
def abG:N8.Pf (aeK):=⟨azr,λs h=>rfl,awo,avn⟩
def anv:SA 0 aBH N8:=s1 abb abG XK mO
def aqX:Rs fH arh L1 (λs:Ln=>s.bytes++B2 (s.l.drop s.i.toNat)) (λx s' (v:aB)=>x=.exit 2/\s'.bytes=v):=Cq abb abG (λs hI=>by
  obtain ⟨h0,h1,h2,h3,h4,h5⟩:=hI;refine allR_ite (λc1=>?_) λc1=>?_
  ·have c1:s.i<s.n:=A8
   rw [AH (x:=s.i+1)]
   show _++_++_=_++_
   rw [S0 h0 A0];simp only [B2,cP,CC,C0]
  ·have c1:s.n<=s.i:=A8
   refine ⟨rfl,?_⟩;rw [Dj A0]
   simp [B2])
def aG7:Qd:=λi=>if i=21 then ah ([8,9,10,14],[.pb 14<|.int aw]) else if i=22 then ah ([8,9,10],[]) else aj
def aG0:aD->T LV
 | [.agg [.v (ag J se),.xl (.int aw) fl],.xl (.sl (.int aw)) ds]=> .req (Ay fl/\M ds<=5000/\Fo ds) (.ok<|.tup [.xl BM<|EU se fl ds,EE se fl ds])
 |_=> .no
def awC {se:Y}{fl:aB}(h:E8 se fl=U):letI a:=((M fl / 2:aC):Y);a.tdiv se*2=(M fl:Y).tdiv se/\0<=a.tdiv se/\a.tdiv se<=2048:=by
 obtain ⟨hf,h2,h3,h4,h5⟩:=Jo.1 h
 have e:=rI (M fl:Y) se
 rw [(Kw.1 hf).2.2.2.2,Int.add_zero] at e
 have e2:=rI ((M fl:Y).tdiv se) 2
 have e3:((M fl / 2:aC):Y)=se*((M fl:Y).tdiv se).tdiv 2:=by
  have:se*(M fl:Y).tdiv se=2*(se*((M fl:Y).tdiv se).tdiv 2):=A8
  omega
 have e4:((M fl / 2:aC):Y).tdiv se=((M fl:Y).tdiv se).tdiv 2:=by rw [e3];exact Int.mul_tdiv_cancel_left _ A0
 have hq:0<=((M fl / 2:aC):Y).tdiv se/\((M fl / 2:aC):Y).tdiv se<=((M fl / 2:aC):Y):=by
  rw [GV A0];exact ⟨OS A0 A0,Qq _ A0⟩
 omega
def aqC (l:aB):0<=FQ l/\FQ l<4294967296:=by
 unfold FQ nm4 Ct;rw [Om];omega
def aG6 (fl:aB):Aj fl=0\/Aj fl=1:=aJe
def Dv (se:Y) (fl:aB) (ds:aI):FM:=(⟨ds,AA<|(M fl:Y).tdiv 2,AA<|1-(Dy se fl),AA<|(AA<|(M fl:Y).tdiv 2).tdiv se,AA<|(AA<|1-(Dy se fl))*(AA<|(AA<|(M fl:Y).tdiv 2).tdiv se),Dy se fl,Ho se fl,((Co se fl).drop 0).take<|M<|Co se fl,Ge se fl,KJ se fl,0,se,fl,[(se,((([]:aB)++fl).drop 0).take<|0+M fl)]⟩:FM)
def Jr (se:Y) (fl:aB) (ds:aI):Ln:=(⟨AA<|(M fl:Y).tdiv 2,AA<|1-(Dy se fl),ds,(M ds:Y),0,(Dn<|Dv se fl ds).er,CP<|IntKind.u32.wrap<|(Ho se fl)+1,(Dn<|Dv se fl ds).al⟩:Ln)
def agE (se:Y) (fl:aB) (ds:aI):FG:=(⟨AA<|(AA<|(AA<|1-(Dy se fl))*(AA<|(M fl:Y).tdiv 2))+1,((L1<|Jr se fl ds).bytes.drop 0).take<|M (L1<|Jr se fl ds).bytes,(Dn<|Dv se fl ds).er,(Dn<|Dv se fl ds).al⟩:FG)
def agD (se:Y) (fl:aB) (ds:aI):FG:=(⟨AA<|(AA<|1-(Dy se fl))*(AA<|(M fl:Y).tdiv 2),[(80:Y)],HE (Dn<|Dv se fl ds).al (Dn<|Dv se fl ds).er (AA<|(AA<|(AA<|1-(Dy se fl))*(AA<|(M fl:Y).tdiv 2))+1)<|((L1<|Jr se fl ds).bytes.drop 0).take<|M (L1<|Jr se fl ds).bytes,Ib (Dn<|Dv se fl ds).al (AA<|(AA<|(AA<|1-(Dy se fl))*(AA<|(M fl:Y).tdiv 2))+1)<|((L1<|Jr se fl ds).bytes.drop 0).take<|M (L1<|Jr se fl ds).bytes⟩:FG)
def rwX (se:Y) (fl:aB) (ds:aI):Y:=(AA<|(AA<|1-(Dy se fl))*(AA<|(M fl:Y).tdiv 2))
def rwY (se:Y) (fl:aB) (ds:aI):aB:=(((L1<|Jr se fl ds).bytes.drop 0).take<|M (L1<|Jr se fl ds).bytes)
def KV (se:Y) (fl:aB) (ds:aI):ba:=(Ib (Dn<|Dv se fl ds).al (AA<|(rwX se fl ds)+1)<|rwY se fl ds)
def rwW (se:Y) (fl:aB) (ds:aI):Y:=(HE (Dn<|Dv se fl ds).al (Dn<|Dv se fl ds).er (AA<|(rwX se fl ds)+1)<|rwY se fl ds)
def rwA (se:Y) (fl:aB) (ds:aI):ba:=(Ib (KV se fl ds) (rwX se fl ds)<|[(80:Y)])
def aqJ (se:Y) (fl:aB) (ds:aI):letI b:=(AA<|(M fl:Y).tdiv 2);letI c:=Dv se fl ds;letI d:=IntKind.u32.wrap<|(Ho se fl)+1;letI e:=rwA se fl ds;letI f:=KV se fl ds;letI a:=(HE f (rwW se fl ds) (rwX se fl ds)<|[(80:Y)]);Yv prog AM XK mO (λi=>if i=11 then N7.lp else if i=17 then N8.lp else noLoops i) aG7 f29 [.agg [se,.xl (.int aw) fl],.xl (.sl<|.int aw) ds]=.req (mh (⟨se,fl⟩:Hl)) (.br ((Bz se fl) !=0) (.ok<|.tup [.xl BM ([]:ba),Bz se fl])<|.req ((2:Y)≠0)<|.req ((M ds<=5000/\Fo ds)/\5<=b/\b<=100000)<|.br ((!(HP (b-5) ds)) ||((Ho se fl)==4294967295)) (.ok<|.tup [.xl BM ([]:ba),(10:Y)])<|.ra 0 (M ([]:aB)) (0+M fl) 1<|.req (0+(0+M fl)<=M (([]:aB)++fl))<|.rv (.v<|ag J<|Dy se fl)<|.req (se≠0)<|.rz (Co se fl)<|.re 1 [(se,((([]:aB)++fl).drop 0).take<|0+M fl)]<|.req (N7.q c)<|.req (au3 (⟨d⟩:Lb))<|.rl (CP d)<|.rl (Dn c).al<|.req (N8.q<|Jr se fl ds)<|.rz (L1<|Jr se fl ds).bytes<|.rl (Dn c).al<|.rl (Dn c).al<|.req (Y7<|agE se fl ds)<|.rl f<|.rl f<|.req (Y7<|agD se fl ds)<|.br (!(a==(0:Y))) (.ok<|.tup [.xl BM ([]:ba),a])<|.rz e<|.ok<|.tup [.xl BM<|(e.drop 0).take<|M e,(0:Y)]):=AO
def aax:VV 29 (uS f29 aG0):=aeg (cs:=aG7) func29 rfl (gk XK) mO.h (L:=(λi=>if i=11 then N7.lp else if i=17 then N8.lp else noLoops i)) (λb hb=>by
 rw [show loopsIn _=[aBG,aBH] by kernel_rfl] at hb
 simp only [Au,BX,BV] at hb;rcases hb with rfl|rfl
 ·exact anu
 ·exact anv) (λargs lv h=>by
 unfold aG0 at h;split at h
 ·simp only [canL,canX]
  rw [aqJ];rename_i se fl ds;obtain ⟨⟨hb,hn,hk⟩,rfl⟩:=h
  have bad:∀e:Y,e≠0->EE se fl ds=e->LV.tup [.xl BM ([]:ba),.v<|ag J e]=LV.tup [.xl BM<|EU se fl ds,.v<|ag J<|EE se fl ds]:=λe h0 h1=>by unfold EU;rw [h1,AD h0]
  refine ⟨⟨hb,rfl,rfl⟩,λc1=>?_,λc1=>?_⟩
  ·have c1:Bz se fl≠0:=AQ
   exact bad _ c1 (by unfold EE;rw [AB c1])
  have hE:Bz se fl=0:=AQ
  have hj:E8 se fl=true:=by
   cases e:E8 se fl
   ·unfold Bz at hE;rw [AB e] at hE;cases hE
   ·rfl
  have hq:=Jo.1 hj
  have hh:AA ((M fl:Y).tdiv 2)=((M fl / 2:aC):Y):=by
   exact aHS
  have hA:Dy se fl=Aj fl:=aaJ
  have hG:Ho se fl=HC fl (Aj fl):=by unfold Ho;rw [AB hE]
  have hc:=aG6 fl
  have w0:AA (1-Aj fl)=1-Aj fl:=AH
  have hF:HP (((M fl / 2:aC):Y)-5) ds=rwF fl ds:=by
   rw [aEW _ _ A0];unfold rwF
   congr 1
   rw [decide_eq_decide];omega
  refine ⟨AS,⟨⟨hn,hk⟩,by rw [hh];omega,by rw [hh];omega⟩,λc2=>?_,λc2=>?_⟩<;>rw [hh,hF,hG] at c2
  ·exact bad 10 AS (by unfold EE;rw [AD td,AB c2])
  have hR:EE se fl ds=0:=by unfold EE;rw [AD td,AD Oc]
  simp only [F6,G0,C4,ne_eq] at c2
  have hsum:5+M (B2 ds)<=M fl / 2:=by
   have:=c2.1
   unfold rwF at this;simp only [AP,AT] at this;rw [wX];exact this.1
  obtain ⟨k1,k2,k3⟩:=awC hj
  have hm:∀x:Y,0<=x->x<=2048->AA ((1-Aj fl)*x)=(1-Aj fl)*x/\0<=(1-Aj fl)*x/\(1-Aj fl)*x<=x:=λx x0 x1=>by
   have:(1-Aj fl)*x=0\/(1-Aj fl)*x=x:=aJX
   exact ⟨AH,A0,A0⟩
  have hst:Dv se fl ds=⟨ds,((M fl / 2:aC):Y),1-Aj fl,((M fl / 2:aC):Y).tdiv se,(1-Aj fl)*((M fl / 2:aC):Y).tdiv se,Aj fl,Ho se fl,Co se fl,Ge se fl,KJ se fl,0,se,fl,[(se,fl)]⟩:=by
   unfold Dv;rw [hh,hA,w0,AH (x:=((M fl / 2:aC):Y).tdiv se),(hm _ k2 k3).1,De,C0,C0,Dc,DA,DA]
  have hE0:WX (Dv se fl ds):=by rw [hst];exact ⟨rfl,⟨hj,by show 1-Aj fl=0\/1-Aj fl=1;omega,k1⟩,rfl,rfl,rfl,rfl⟩
  obtain ⟨_,_,q1,q2,q3,q4,q5⟩:=aqW _ hE0
  have q6:((Dn<|Dv se fl ds).al,(BA (Dn<|Dv se fl ds).al).2)=Er se fl:=by
   have:=(aqV _ hE0).2
   rw [this,hst];unfold Er
   have hz:Ew ⟨ds,((M fl / 2:aC):Y),1-Aj fl,((M fl / 2:aC):Y).tdiv se,(1-Aj fl)*((M fl / 2:aC):Y).tdiv se,Aj fl,Ho se fl,Co se fl,Ge se fl,KJ se fl,0,se,fl,[(se,fl)]⟩=(1-Aj fl)*((M fl / 2:aC):Y).tdiv se+((M fl / 2:aC):Y).tdiv se:=by
    have:=hm _ k2 k3
    show AA (AA (1-Aj fl+1)*((M fl / 2:aC):Y).tdiv se)=_
    rw [AH (x:=1-Aj fl+1),cw,Va];exact AH
   show FJ se fl _ (Ew _-(1-Aj fl)*((M fl / 2:aC):Y).tdiv se).toNat _=_
   rw [hz]
   congr 1
   omega
  have r1:(Dn<|Dv se fl ds).se=se/\(Dn<|Dv se fl ds).fl=fl:=by rw [hst];exact ⟨rfl,rfl⟩
  rw [r1.1] at q4;rw [r1.2] at q5
  have q7:(BA (Dn<|Dv se fl ds).al).2=(Er se fl).2:=An Prod.snd q6
  have hl:BA (Dn<|Dv se fl ds).al=(se,(Er se fl).2):=Prod.ext q4 q7
  have ha:(Dn<|Dv se fl ds).al=(Er se fl).1:=An Prod.fst q6
  have hEb:fH (Jr se fl ds):=⟨rfl,aJf,rfl,hk,by show ((4:aC):Y)<=4+70100*0;decide⟩
  have hY:rwY se fl ds=DY fl ds:=by
   have q:=(aqX _ hEb).2
   have hg:=aqC<|((BD fl<|Aj fl).drop 1).take 4
   have hw:IntKind.u32.wrap (Ho se fl+1)=HC fl (Aj fl)+1:=by
    have:=c2.2
    rw [hG,Om];unfold HC at*;omega
   unfold rwY DY;rw [C0,DA,q,<-hw];rfl
  have hX:rwX se fl ds=Eo fl:=by unfold rwX Eo;rw [hA,w0,hh];exact (hm _ A0 A0).1
  obtain ⟨_,o1,o2⟩:=hm ((M fl / 2:aC):Y) A0 A0
  have oO:Eo fl=(1-Aj fl)*((M fl / 2:aC):Y):=rfl
  have hX1:AA (rwX se fl ds+1)=Eo fl+1:=by rw [hX];exact AH
  have hBl:M (DY fl ds)=4+M (B2 ds):=aKd
  rw [hl] at q5
  have q5:M (Er se fl).2=M fl:=q5
  have hv:∀b:aB,M b=M fl->Fs se b=true:=λb e=>by rw [im e];exact hq.1
  have p1:EA se (Er se fl).2 (Eo fl+1) (DY fl ds)=0:=by
   unfold EA;rw [hv _ q5,AD sj,AD (by rw [q5,hBl];omega)]
  have hV:KV se fl ds=(Er se fl).1++(DL se (Er se fl).2 (Eo fl+1)<|DY fl ds).drop 1:=by
   unfold KV Ib;rw [hX1,hY,hl,AB p1,ha]
  have hW:rwW se fl ds=0:=by unfold rwW HE;rw [hX1,hY,hl,AB p1];exact q2
  have hlV:BA (KV se fl ds)=(se,Ie se fl ds):=by
   rw [hV];unfold DL;exact ib (f:=λk=>(se,CD (Er se fl).2 (Eo fl+1) (DY fl ds) k)) (n:=M<|DY fl ds) A0 _
  have p2:EA se (Ie se fl ds) (Eo fl) [80]=0:=by
   have:M (Ie se fl ds)=M fl:=by unfold Ie;rw [fu];exact q5
   unfold EA;rw [hv _ this,AD sj,AD (by rw [this];show ¬Eo fl>(M fl:Y)-((1:aC):Y);omega)]
  have hAA:rwA se fl ds=EU se fl ds:=by
   unfold rwA Ib EU;rw [hX,hlV,AB p2,AB hR,hV,CC]
  have hz:HE (KV se fl ds) (rwW se fl ds) (rwX se fl ds) [80]=0:=by unfold HE;rw [hX,hlV,AB p2];exact hW
  have hVl:M (KV se fl ds)<=3100000:=by
   have:=q3.2
   rw [hV,<-ha,Ax,Dk];unfold DL;rw [Eb,OQ,hBl];omega
  refine ⟨⟨AS,A0,A0⟩,AG,rfl,A0,A0,AG,⟨hE0,rfl,rfl⟩,⟨ak,rfl,rfl⟩,A9,A9,⟨hEb,rfl,rfl⟩,A0,A9,A9,⟨⟨q3.1,by show M (Dn<|Dv se fl ds).al<=4000000;omega,by show M (rwY se fl ds)<=5000;rw [hY,hBl];omega⟩,rfl,rfl⟩,A9,A9,⟨⟨?_,by show M (KV se fl ds)<=4000000;omega,by show 1<=5000;decide⟩,rfl,rfl⟩,λc=>?_,λ_=>⟨A0,?_⟩⟩
  ·show KV se fl ds≠ []
   intro hn
   have:BA (KV se fl ds)=BA []:=by rw [hn]
   rw [hlV] at this
   have:=An Prod.fst this
   have:se=0:=this
   omega
  ·rw [hz] at c;cases c
  ·rw [C0,DA,hAA,hR]
   rfl
 ·cases h)
def aGJ:aD->T LV
 | [.agg [.v (ag J se),.xl (.int aw) fl],.xl (.int aw) d]=> .req (Ay fl/\M d<=70000) (.ok<|.tup [.xl BM<|HS se fl d,El se fl d])
 |_=> .no
def aCO (se:Y) (fl:aB) (a:Y) (d:aB):[(se,fl)]++(DL se fl a d).drop 1=DL se fl a d:=by
 unfold DL;rw [List.range_succ_eq_map];rfl
def ar4 {fl:aB}(h:10<=M fl):(DN fl).2.1<=M fl / 2:=by
 have:=Wi fl<|Aj fl
 have:=mH (b:=BD fl<|Aj fl) (n:=M<|BD fl<|Aj fl) (f:=5) A0
 unfold DN;omega
def agC (se:Y) (fl d:aB):FG:=(⟨AA<|(AA<|(AA<|(Dy se fl)*(AA<|(M fl:Y).tdiv 2))+(Ge se fl))+1,((BR d).drop (1:Y).toNat).take<|(M (BR d):Y).toNat-(1:Y).toNat,0,[(se,((([]:aB)++fl).drop 0).take<|0+M fl)]⟩:FG)
def agB (se:Y) (fl d:aB):FG:=letI a:=(AA<|(AA<|(Dy se fl)*(AA<|(M fl:Y).tdiv 2))+(Ge se fl));letI b:=(((BR d).drop (1:Y).toNat).take<|(M (BR d):Y).toNat-(1:Y).toNat);letI c:=(se,((([]:aB)++fl).drop 0).take<|0+M fl);(⟨a,((BR d).drop (0:Y).toNat).take<|(1:Y).toNat-(0:Y).toNat,HE ([c]) (0:Y) (AA<|a+1) b,Ib ([c]) (AA<|a+1) b⟩:FG)
def axP (se:Y) (fl d:aB):Y:=(AA<|(AA<|(Dy se fl)*(AA<|(M fl:Y).tdiv 2))+(Ge se fl))
def axY (se:Y) (fl d:aB):aB:=(((BR d).drop (1:Y).toNat).take<|(M (BR d):Y).toNat-(1:Y).toNat)
def axZ (se:Y) (fl d:aB):aB:=(((BR d).drop (0:Y).toNat).take<|(1:Y).toNat-(0:Y).toNat)
def axQ (se:Y) (fl d:aB):ba:=([(se,((([]:aB)++fl).drop 0).take<|0+M fl)])
def JS (se:Y) (fl d:aB):ba:=(Ib (axQ se fl d) (AA<|(axP se fl d)+1)<|axY se fl d)
def axW (se:Y) (fl d:aB):Y:=(HE (axQ se fl d) (0:Y) (AA<|(axP se fl d)+1)<|axY se fl d)
def axA (se:Y) (fl d:aB):ba:=(Ib (JS se fl d) (axP se fl d)<|axZ se fl d)
def Xl:aN:=[aax,mm,YN,X8]
def aFN:Ap:=Fx Xl (la 2 func75 iR<|l0 Xl) [⟨68,Hf λa=>Nl.m a [],XL⟩,⟨71,Q8.m,Xa⟩]
def arQ (se:Y) (fl d:aB):letI b:=(M (BR d):Y);letI c:=HE (JS se fl d) (axW se fl d) (axP se fl d)<|axZ se fl d;letI f:=Co se fl;letI g:=axA se fl d;letI e:=M f+M ([d]);letI a:=((f++([d])).drop 0).take e;Yv prog AM (Xl) aFN noLoops aG9 f26 [.agg [se,.xl (.int aw) fl],.xl (.int aw) d]=.req (mh (⟨se,fl⟩:Hl)) (.br ((Bz se fl) !=0) (.ok<|.tup [.xl BM ([]:ba),Bz se fl])<|.req ((2:Y)≠0)<|.br ((an<|(M d:Y)>65535) ||(an<|(AA<|7+(M d:Y))>(AA<|(AA<|(M fl:Y).tdiv 2)-(Ge se fl)))) (.ok<|.tup [.xl BM ([]:ba),(10:Y)])<|.br (!(KJ se fl)) (.rb (M f) (M<|[d]) 24<|.req (0+e<=M (f++([d])))<|.req (Ay fl/\M a<=5000/\Fo a)<|.ok<|.tup [.xl BM<|EU se fl a,EE se fl a])<|.ra 0 (M ([]:aB)) (0+M fl) 1<|.req (0+(0+M fl)<=M (([]:aB)++fl))<|.rv (.v<|ag J<|Dy se fl)<|.rv (.v<|ag J<|Ge se fl)<|.req (M d<=70000)<|.re 1 (axQ se fl d)<|.req (0<=(1:Y)/\(1:Y)<=b/\b<=b)<|.rl (axQ se fl d)<|.req (Y7<|agC se fl d)<|.rl (JS se fl d)<|.req (0<=(0:Y)/\(0:Y)<=(1:Y)/\(1:Y)<=b)<|.rl (JS se fl d)<|.req (Y7<|agB se fl d)<|.br (!(c==(0:Y))) (.ok<|.tup [.xl BM ([]:ba),c])<|.rz g<|.ok<|.tup [.xl BM<|(g.drop 0).take<|M g,(0:Y)]):=AO
def av4:VV 26 (uS f26 aGJ):=aeg (cs:=aG9) func26 rfl (gk Xl) aFN.h (no_loops AO) (λargs lv h=>by
 unfold aGJ at h;split at h
 ·simp only [canL,canX]
  rw [arQ];rename_i se fl d;obtain ⟨⟨hb,hd⟩,rfl⟩:=h;refine ⟨⟨hb,rfl,rfl⟩,λc1=>?_,λc1=>?_⟩
  ·have c1:Bz se fl≠0:=AQ
   unfold HS El;rw [AB c1,AB c1];rfl
  have hE:Bz se fl=0:=AQ
  have hj:E8 se fl=true:=by
   cases e:E8 se fl
   ·unfold Bz at hE;rw [AB e] at hE;cases hE
   ·rfl
  have hq:=Jo.1 hj
  have hh:AA ((M fl:Y).tdiv 2)=((M fl / 2:aC):Y):=by
   exact aHS
  have hA:Dy se fl=Aj fl:=aaJ
  have hN:Ge se fl=((DN fl).2.1:Y):=by unfold Ge;rw [AB hE]
  have hC:KJ se fl=lkC fl:=by unfold KJ;rw [AB hE]
  obtain ⟨n1,n2,n3⟩:=aEe (se:=se) hb A0
  have hl:=ar4 (fl:=fl) A0
  have hc:=aG6 fl
  have hF:((an<|(M d:Y)>65535) ||(an<|(AA<|7+(M d:Y))>(AA<|(AA<|(M fl:Y).tdiv 2)-(Ge se fl))))=apF se fl d:=by
   rw [hh,hN,AH (x:=7+(M d:Y)),AH (x:=((M fl / 2:aC):Y)-((DN fl).2.1:Y))];unfold apF;rw [Gn];simp only [C6,AT];omega
  have e0:¬Bz se fl≠0:=td
  refine ⟨AS,λc2=>?_,λc2=>⟨λc3=>?_,λc3=>?_⟩⟩<;>rw [hF] at c2
  ·unfold HS El
   rw [AD e0,AD e0,AB c2,AB c2];rfl
  ·have c3:¬lkC fl=true:=aKv
   have eT:(((Co se fl)++[d]).drop 0).take (M (Co se fl)+M [d])=(DN fl).1++[d]:=by
    rw [C0,<-Ax,DA];unfold Co;rw [AB hE]
   refine ⟨⟨Dc _,aaE,aaE⟩,by rw [Ax];omega,⟨hb,?_,?_⟩,?_⟩
   ·rw [Is];simp only [BI,BQ];omega
   ·intro x hx
    rcases BC.1 (VH<|OG hx) with c|c
    ·have:=n3 x c;omega
    ·rw [FX.1 c];exact hd
   ·have hR:HS se fl d=EU se fl ((DN fl).1++[d]):=by unfold HS;rw [AD e0,AD Oc,AD c3]
    have hZ:El se fl d=EE se fl ((DN fl).1++[d]):=by unfold El;rw [AD e0,AD Oc,AD c3]
    rw [eT,hR,hZ];rfl
  have hcl:lkC fl=true:=aKv
  have hR:HS se fl d=Gf se fl d:=by unfold HS;rw [AD e0,AD Oc,AB hcl]
  have hZ0:El se fl d=0:=by unfold El;rw [AD e0,AD Oc,AB hcl]
  unfold apF at c2;simp only [F6,CX] at c2
  have hm:Aj fl*((M fl / 2:aC):Y)=0\/Aj fl*((M fl / 2:aC):Y)=((M fl / 2:aC):Y):=aJX
  have hP:axP se fl d=Cj fl:=by
   unfold axP Cj;rw [hh,hA,hN,AH (x:=Aj fl*((M fl / 2:aC):Y))];exact AH
  have oP:Cj fl=Aj fl*((M fl / 2:aC):Y)+((DN fl).2.1:Y):=rfl
  have hP1:AA (axP se fl d+1)=Cj fl+1:=by rw [hP];exact AH
  have hpl:=J2 d
  have hY:axY se fl d=(BR d).drop 1:=by unfold axY;exact Cx tc
  have hZ:axZ se fl d=[80]:=rfl
  have hQ:axQ se fl d=[(se,fl)]:=by unfold axQ;rw [De,C0,Dc,DA]
  have hYl:M ((BR d).drop 1)=6+M d:=tc
  have hL0:BA [(se,fl)]=(se,fl):=rfl
  have p1:EA se fl (Cj fl+1) ((BR d).drop 1)=0:=by
   unfold EA
   grind
  have hV:JS se fl d=DL se fl (Cj fl+1) ((BR d).drop 1):=by
   unfold JS Ib;rw [hP1,hY,hQ,hL0,AB p1,aCO]
  have hW:axW se fl d=0:=by unfold axW HE;rw [hP1,hY,hQ,hL0,AB p1]
  have hlV:BA (JS se fl d)=(se,Im fl d):=by
   rw [hV,<-aCO];exact ib (f:=λk=>(se,CD fl (Cj fl+1) ((BR d).drop 1) k)) (n:=M<|(BR d).drop 1) A0 _
  have hBl:M (Im fl d)=M fl:=fu _ _ _ _
  have p2:EA se (Im fl d) (Cj fl) [80]=0:=by
   unfold EA;rw [im hBl,hq.1,AD sj,AD (by rw [hBl];show ¬Cj fl>(M fl:Y)-((1:aC):Y);omega)]
  have hAA:axA se fl d=Gf se fl d:=by
   unfold axA Ib Gf;rw [hP,hZ,hlV,AB p2,hV]
  have hz:HE (JS se fl d) (axW se fl d) (axP se fl d) (axZ se fl d)=0:=by unfold HE;rw [hP,hZ,hlV,AB p2];exact hW
  have hVl:M (JS se fl d)=7+M d:=by rw [hV];unfold DL;rw [Eb,OQ,hYl];omega
  refine ⟨⟨AS,A0,A0⟩,AG,rfl,rfl,hd,by rw [hQ];exact A9,⟨A0,A0,A0⟩,A9,⟨⟨by show axQ se fl d≠ [];rw [hQ];simp,by show M (axQ se fl d)<=4000000;rw [hQ];show 1<=4000000;decide,by show M (axY se fl d)<=5000;rw [hY,hYl];omega⟩,rfl,rfl⟩,A9,⟨A0,A0,A0⟩,A9,⟨⟨by show JS se fl d≠ [];intro hn;rw [hn] at hVl;simp at hVl;omega,by show M (JS se fl d)<=4000000;omega,by show 1<=5000;decide⟩,rfl,rfl⟩,λc=>?_,λ_=>⟨A0,?_⟩⟩
  ·rw [hz] at c;cases c
  ·rw [C0,DA,hAA,hR,hZ0]
   rfl
 ·cases h)
def aFn:aD->T LV
 | [.agg [.v (ag J se),.xl (.int aw) fl],.v (.agg ⟨[ag J x1,ag J x2,ag J x3,ag J x4,ag J x5]⟩),.v (ag J t)]=> .req (Ay fl) (.ok<|.tup [.xl BM<|C1 se fl (x1,x2,x3,x4,x5) t,Cs se fl (x1,x2,x3,x4,x5) t])
 |_=> .no
def as3:aN:=[mw,SQ,av4,aas,auj,aax]
def agS {x:Le}:Ao [x]=Ce x:=by
 unfold Ao;rw [Gn,AP,D3];refine ⟨λh=>?_,λh=>⟨rfl,λk hk=>?_⟩⟩
 ·have:=h.2 0 AG
  unfold FK at this;rw [AP] at this;exact this.1
 ·have:k=0:=A8
  subst this;unfold FK;rw [AP];exact ⟨h,rfl⟩
def acg {l:aL}{x:Le}{t:Y}(h:Cb l t=0):M (kpR l x t)<=5000/\Fo (kpR l x t):=by
 have hk:=aAC h
 unfold kpR;rw [AB h];unfold JZ;refine ⟨?_,λd hd=>?_⟩
 ·simp only [Ax,Eb,BI,BQ]
  grind
 ·rcases BC.1 hd with hd|hd
  ·obtain ⟨y,_,rfl⟩:=EH.1 hd;rw [Hc];omega
  ·rcases BC.1 hd with hd|hd
   ·split at hd
    ·rw [FX.1 hd,Hc];omega
    ·cases hd
   ·rw [FX.1 hd,Hc];omega
def YI:=vo (S:=aFn) func9 as3 kN (λargs lv h=>by
 unfold aFn at h;split at h
 ·rename_i se fl x1 x2 x3 x4 x5 t
  refine Al (letI d:=(plL (x1,x2,x3,x4,x5));letI g:=Aa se fl;letI j:=El se fl d;letI k:=Ay fl/\M d<=70000;letI b:=(kpR g (x1,x2,x3,x4,x5) t);letI f:=(AA<|(M g:Y)-1);letI i:=Ay fl/\M b<=5000/\Fo b;.req (Ay fl)<|.br ((C5 se fl) !=0) (.ok<|.tup [.xl BM ([]:ba),(C5 se fl)])<|.br (!(Ao<|[(x1,(x2,(x3,(x4,x5))))])) (.ok<|.tup [.xl BM ([]:ba),(1:Y)])<|.br (an<|t<0) (.ok<|.tup [.xl BM ([]:ba),(1:Y)])<|.br (an<|t>1100000) (.ok<|.tup [.xl BM ([]:ba),(1:Y)])<|.br (an<|(M g:Y)>0) (.ix f (M g)<|.br (an<|x1<=(AU g f).1) (.ok<|.tup [.xl BM ([]:ba),(12:Y)])<|.ix f (M g)<|.br (an<|x4<(AU g f).2.2.2.1) (.ok<|.tup [.xl BM ([]:ba),(12:Y)])<|.req k<|.br (j !=10) (.ok<|.tup [.xl BM<|HS se fl d,j])<|.br ((Cb g t) !=0) (.ok<|.tup [.xl BM ([]:ba),(Cb g t)])<|.req i<|.ok<|.tup [.xl BM<|EU se fl b,(EE se fl b)])<|.req k<|.br (j !=10) (.ok<|.tup [.xl BM<|HS se fl d,j])<|.br ((Cb g t) !=0) (.ok<|.tup [.xl BM ([]:ba),(Cb g t)])<|.req i<|.ok<|.tup [.xl BM<|EU se fl b,(EE se fl b)]) ?_;obtain ⟨hb,rfl⟩:=h
  have fin:∀ {a:ba} {e:Y},C1 se fl (x1,x2,x3,x4,x5) t=a/\Cs se fl (x1,x2,x3,x4,x5) t=e->LV.tup [.xl BM a,.v<|ag J e]=LV.tup [.xl BM<|C1 se fl (x1,x2,x3,x4,x5) t,.v<|ag J<|Cs se fl (x1,x2,x3,x4,x5) t]:=λh=>by rw [h.1,h.2]
  refine ⟨hb,λc1=>fin ?_,λc1=>?_⟩
  ·have c1:C5 se fl≠0:=AQ
   unfold C1 Cs;rw [AB c1,AB c1];exact ⟨rfl,rfl⟩
  have c1:¬C5 se fl≠0:=AQ
  rw [agS]
  have bad:(!Ce (x1,x2,x3,x4,x5) || !inB t 0 1100000)=U->C1 se fl (x1,x2,x3,x4,x5) t=[]/\Cs se fl (x1,x2,x3,x4,x5) t=1:=λh=>by
   unfold C1 Cs;rw [AD c1,AD c1,AB h,AB h];exact ⟨rfl,rfl⟩
  refine ⟨λc2=>fin<|bad (by rw [c2];rfl),λc2=>⟨λc3=>fin<|bad ?_,λc3=>⟨λc4=>fin<|bad ?_,λc4=>?_⟩⟩⟩
  iterate 2
   ·rw [C6]
    refine .inr ?_
    have e:inB t 0 1100000=false:=by
     cases e:inB t 0 1100000
     ·rfl
     ·have:=B6.1 e
      simp only [AT,CX] at c3
      try simp only [AT] at c4
      omega
    rw [e];rfl
  have ht:inB t 0 1100000=true:=B6.2 (by simp only [CX] at c3 c4;omega)
  have hx:Ce (x1,x2,x3,x4,x5)=true:=DQ
  have hv:=pP<|VN.1 c1
  have hE:Cb (Aa se fl) t=0:=by unfold Cb Hp;rw [hv,ht];rfl
  have hb':¬((!Ce (x1,x2,x3,x4,x5) || !inB t 0 1100000)=U):=by rw [hx,ht];decide
  have hl:=(Eh hv).1
  have w:=λc5:0<M (Aa se fl)=>AH (x:=(M (Aa se fl):Y)-1)
  have hO:0<M (Aa se fl)->Fq (Aa se fl) (x1,x2,x3,x4,x5)=(an (x1<=(AU (Aa se fl)<|(M (Aa se fl):Y)-1).1) ||an (x4<(AU (Aa se fl)<|(M (Aa se fl):Y)-1).2.2.2.1)):=λc5=>by
   unfold Fq;rw [show an (M (Aa se fl)>0)=U from CB c5];rfl
  have old:Fq (Aa se fl) (x1,x2,x3,x4,x5)=U->C1 se fl (x1,x2,x3,x4,x5) t=[]/\Cs se fl (x1,x2,x3,x4,x5) t=12:=λh=>by
   unfold C1 Cs;rw [AD c1,AD c1,AD hb',AD hb',AB h,AB h];exact ⟨rfl,rfl⟩
  refine ⟨λc5=>?_,λc5=>?_⟩
  ·have c5:0<M (Aa se fl):=by simpa using c5
   have hO:=hO c5
   rw [w c5];refine ⟨A0,λc6=>fin<|old (by rw [hO,c6];rfl),λc6=>⟨A0,λc7=>fin<|old<|by rw [hO,c7,M3],λc7=>?_⟩⟩
   have hO:Fq (Aa se fl) (x1,x2,x3,x4,x5)=false:=by rw [hO,c6,c7];rfl
   have hk:kpR (Aa se fl) (x1,x2,x3,x4,x5) t=JZ (Aa se fl) (x1,x2,x3,x4,x5) t:=AB hE
   have hk':=hk▸acg (x:=(x1,x2,x3,x4,x5)) hE
   rw [hk,hE]
   have hO:¬(Fq (Aa se fl) (x1,x2,x3,x4,x5)=U):=by rw [hO];decide
   refine ⟨⟨hb,by rw [Hc];decide⟩,λc=>fin ?_,λc=>⟨λc'=>(by cases c'),λ_=>⟨⟨hb,hk'⟩,fin ?_⟩⟩⟩<;>unfold C1 Cs<;>rw [AD c1,AD c1,AD hb',AD hb',AD hO,AD hO]
   ·have c:El se fl (plL (x1,x2,x3,x4,x5))≠10:=FW
    rw [AB c,AB c];exact ⟨rfl,rfl⟩
   ·have c:¬El se fl (plL (x1,x2,x3,x4,x5))≠10:=FW
    rw [AD c,AD c];exact ⟨rfl,rfl⟩
  ·have hO:Fq (Aa se fl) (x1,x2,x3,x4,x5)=false:=by unfold Fq;rw [show an (M (Aa se fl)>0)=X by simpa using c5];rfl
   have hk:kpR (Aa se fl) (x1,x2,x3,x4,x5) t=JZ (Aa se fl) (x1,x2,x3,x4,x5) t:=AB hE
   have hk':=hk▸acg (x:=(x1,x2,x3,x4,x5)) hE
   rw [hk,hE]
   have hO:¬(Fq (Aa se fl) (x1,x2,x3,x4,x5)=U):=by rw [hO];decide
   refine ⟨⟨hb,by rw [Hc];decide⟩,λc=>fin ?_,λc=>⟨λc'=>(by cases c'),λ_=>⟨⟨hb,hk'⟩,fin ?_⟩⟩⟩<;>unfold C1 Cs<;>rw [AD c1,AD c1,AD hb',AD hb',AD hO,AD hO]
   ·have c:El se fl (plL (x1,x2,x3,x4,x5))≠10:=FW
    rw [AB c,AB c];exact ⟨rfl,rfl⟩
   ·have c:¬El se fl (plL (x1,x2,x3,x4,x5))≠10:=FW
    rw [AD c,AD c];exact ⟨rfl,rfl⟩
 ·cases h)
def avD {fl:aB}{g:Y}{vl:aL}{k:aC}{O:aB}{x:Le}{t:Y}{w:Y}(h:JI fl w g (vl.map plL) (aq k 255) O) (hv:Ao vl=U) (hx:E0 vl x=0) (ht:inB t 0 1100000=U) (hk:19<=k):
  Cs 512 fl x t=0/\(∃fl',Fp (C1 512 fl x t) ((M (C1 512 fl x t):Y)-1)=(512,fl')/\JI fl' w g ((vl++[x]).map plL) (aq (k-19) 255) O)/\Ao (vl++[x])=true:=by
 obtain ⟨h1,h2⟩:=acY h hv
 have hl:=Hc x
 have hx':=hx
 unfold E0 at hx'
 have hlx:Ce x=true:=by
  cases e:Ce x
  ·rw [hv,e] at hx';simp at hx'
  ·rfl
 rw [hv,hlx] at hx'
 have ho:Fq vl x=false:=by
  by_cases hg:M vl>0
  ·have hf:Hq (AU vl<|(M vl:Y)-1) x=true:=by
    cases e:Hq (AU vl<|(M vl:Y)-1) x
    ·simp [e,hg] at hx'
    ·rfl
   unfold Hq at hf;unfold Fq;simp only [AP,AT] at hf
   simp;intro _;omega
  ·unfold Fq;simp;intro h;omega
 have hfull:=h.full (d:=plL x) A0 (by rw [Bc];omega)
 have hap:El 512 fl (plL x)=0:=by
  unfold El;rw [h.ep,hfull,h.cl];rfl
 have har:HS 512 fl (plL x)=Gf 512 fl (plL x):=by
  unfold HS;rw [h.ep,hfull,h.cl];rfl
 have hE:Cs 512 fl x t=0:=by
  unfold Cs;rw [h1,h2,hap,hlx,ht,ho];rfl
 have hL:C1 512 fl x t=Gf 512 fl (plL x):=by
  unfold C1;rw [h1,h2,hap,hlx,ht,ho,har];rfl
 refine ⟨hE,⟨CD (Im fl<|plL x) (Cj fl) [80] 1,?_,?_⟩,?_⟩
 ·rw [hL]
  have hne:Gf 512 fl (plL x)≠ []:=by
   exact aIa
  have:=yP 512 fl (plL x) (0,[])
  rw [cd,ql] at this;unfold Fp;rw [CH]
  have hp:=M0.2 hne
  rw [show ((M (Gf 512 fl<|plL x):Y)-1).toNat=M (Gf 512 fl<|plL x)-1 by omega]
  exact this
 ·have:=h.app (jL x) A0 (by rw [hl];omega)
  rw [Iq];exact this
 ·have hg:=(mT (x:=x) hv).1
  unfold grS Dr at hg;rw [AB hx,AB hx] at hg;exact hg
structure QV where
 p:PK
 vl:aL
 ok:aM
def Qc (t:Y) (s:SN×List Le×Bool) (x:Le):SN×List Le×Bool:=
 if E0 s.1.ls x=0 then (if E0 s.2.1 x=0/\inB t 0 1100000=U/\19*(M s.2.1+1)<=1019 then (⟨Dr s.1.ls x,0,[],x.1+1,s.1.lk++[XO t x]⟩,s.2.1++[x],s.2.2) else (s.1,s.2.1,X)) else s
def L9 (t:Y) (xs:aL) (s:SN×List Le×Bool):aC->SN×List Le×Bool
 |0=>s
 |k+1=>Qc t (L9 t xs s k)<|AU xs k
def RV (se:Y) (fl:aB) (vl:aL):Prop:=se=512/\Ao vl=U/\∃k O,JI fl 0 0 (vl.map plL) (aq k 255) O/\k+19*M vl=1019
def RN (s:SN) (q:SN×List Le×Bool):Prop:=q.1={s with se:=0,fl:=[]}/\RV s.se s.fl q.2.1
def zt {t:Y}{s:SN×List Le×Bool}{x:Le}(h:(Qc t s x).2.2=U):s.2.2=true:=by
 unfold Qc at h;split at h
 ·split at h
  ·exact h
  ·cases h
 ·exact h
def ai5 {t:Y}{s:SN}{q:SN×List Le×Bool}{x:Le}(h:RN s q) (hq:(Qc t q x).2.2=U):RN (Dq t s x) (Qc t q x):=by
 obtain ⟨h1,h2,h3,k,O,h4,h5⟩:=h
 have hls:q.1.ls=s.ls:=by rw [h1]
 unfold Qc at hq|-;unfold Dq;rw [hls] at hq|-
 by_cases hg:E0 s.ls x=0
 ·rw [AB hg] at hq|-
  by_cases hc:E0 q.2.1 x=0/\inB t 0 1100000=U/\19*(M q.2.1+1)<=1019
  ·rw [AB hc] at hq|-
   obtain ⟨c1,c2,c3⟩:=hc;obtain ⟨e1,⟨fl',e2,e3⟩,e4⟩:=avD (t:=t) h4 h3 c1 c2 A0;rw [h2] at*;rw [AB ⟨hg,e1⟩,e2];refine ⟨A8,rfl,e4,k-19,O,e3,?_⟩;simp only [Ax,BI,BQ];omega
  ·rw [AD hc] at hq
   cases hq
 ·rw [AD hg,AD λhh=>hg hh.1]
  exact ⟨h1,h2,h3,k,O,h4,h5⟩
def zu {t:Y}{xs:aL}{s:SN×List Le×Bool}:∀n,(L9 t xs s n).2.2=U->s.2.2=U
 |0,h=>h
 |n+1,h=>zu n<|zt h
def xO {t:Y}{xs:aL}{s:SN}{q:SN×List Le×Bool}(h:RN s q):∀n,(L9 t xs q n).2.2=U->RN (DU t xs s n) (L9 t xs q n)
 |0,_=>h
 |n+1,hq=>ai5 (xO h n<|zt hq) hq
namespace QV
variable (q : QV)
def sn:SN×List Le×Bool:=L9 q.p.tk q.p.dL (q.p.Ep,q.vl,q.ok)<|M q.p.dL
def dec:QV:=if q.p.up=X then q else if q.p.dE≠0 then {q with p:={q.p with ls:=CM q.p.ls q.p.tk}} else ⟨{q.p with ra:=q.p.dR,ls:=q.sn.1.ls,nx:=q.sn.1.nx,lk:=q.sn.1.lk},q.sn.2.1,q.sn.2.2⟩
def bef:QV:={q.dec with p:=q.dec.p.IT.VD}
def tick:QV:={q.bef with p:=q.bef.p.Be.Hr.endP}
def Ej:aB:=q.bef.p.dw.dw
end QV
def RP (p:PK) (q:QV):Prop:=q.p={p with se:=0,fl:=[]}/\RV p.se p.fl q.vl
def alb {p:PK}{q:QV}(h:RP p q) (hq:q.dec.ok=U):RP p.AI q.dec:=by
 obtain ⟨qp,vl,ok⟩:=q;obtain ⟨h1,h2⟩:=h;subst h1
 have eq:QV.dec ⟨{p with se:=0,fl:=[]},vl,ok⟩=if p.up=X then ⟨{p with se:=0,fl:=[]},vl,ok⟩ else if p.dE≠0 then ⟨{p with se:=0,fl:=[],ls:=CM p.ls p.tk},vl,ok⟩ else
  ⟨{p with se:=0,fl:=[],ra:=p.dR,ls:=(L9 p.tk p.dL ({p.Ep with se:=0,fl:=[]},vl,ok)<|M p.dL).1.ls,nx:=(L9 p.tk p.dL ({p.Ep with se:=0,fl:=[]},vl,ok)<|M p.dL).1.nx,lk:=(L9 p.tk p.dL ({p.Ep with se:=0,fl:=[]},vl,ok)<|M p.dL).1.lk},
   (L9 p.tk p.dL ({p.Ep with se:=0,fl:=[]},vl,ok)<|M p.dL).2.1,(L9 p.tk p.dL ({p.Ep with se:=0,fl:=[]},vl,ok)<|M p.dL).2.2⟩:=rfl
 rw [eq] at hq|-;unfold PK.AI
 by_cases hu:p.up=X
 ·rw [AB hu,AB hu]
  exact ⟨rfl,h2⟩
 ·rw [AD hu] at hq
  rw [AD hu,AD hu]
  by_cases hd:p.dE≠0
  ·rw [AB hd,AB hd]
   exact ⟨rfl,h2⟩
  ·rw [AD hd] at hq
   rw [AD hd,AD hd]
   have hs:RN p.Ep ({p.Ep with se:=0,fl:=[]},vl,ok):=⟨rfl,h2⟩
   obtain ⟨k1,k2⟩:=xO hs (M p.dL) hq;refine ⟨?_,k2⟩;rw [k1];rfl
def xK {p:PK}{q:QV}(h:RP p q) (hq:q.tick.ok=U):RP p.B5 q.tick/\p.Ej=q.Ej:=by
 obtain ⟨h1,h2⟩:=alb h hq;refine ⟨⟨?_,h2⟩,?_⟩
 ·show q.dec.p.IT.VD.Be.Hr.endP=_
  rw [h1];rfl
 ·show _=q.dec.p.IT.VD.dw.dw
  rw [h1];rfl
def aEs {pre mid post:aB}:∀k,k<=M mid->D7 (pre++(mid++post)) (M pre:Y) k=pre++(aq k 255++(mid.drop k++post))
 |0,_=>by simp [D7]
 |k+1,hk=>by
  simp only [D7];rw [aEs k A0]
  have e1:(M pre:Y)+(k:Y)=((M pre+k:aC):Y):=A0
  have hd:mid.drop k=mid[k]::mid.drop (k+1):=OH A0
  rw [e1,BW,NF _ _ A0,cR,NF _ _ AG,Bc,Vg,hd];rw [cW,CC];rfl
def amB {pre mid post:aB}{n:aC}(h:M mid=n):D7 (pre++(mid++post)) (M pre:Y) n=pre++(aq n 255++post):=by
 rw [aEs n A0,List.drop_of_length_le A0];rfl
def mZ {l:aB}{n:aC}(hl:M l=n) (h:l.all (λb=>b==255)=U):l=aq n 255:=by
 rw [List.eq_replicate_iff]
 grind
def aEr {pre mid post f0:aB}{s:Y}{a:ba}{n:aC}(hm:M mid=512) (hs:s*512=(M pre:Y)) (hf:(f0.drop<|M pre).take 512=mid):
  ∃a',FJ 512 f0 s (n+1) (a,pre++(mid++post))=FJ 512 f0 (s+1) n (a',pre++(aq 512 255++post)):=by
 have hw:JX 512 f0 s=!mid.all (λb=>b==255):=by
  unfold JX;rw [hs,BW]
  show (!((f0.drop<|M pre).take 512).all _)=_
  rw [hf]
 have e:FJ 512 f0 s (n+1) (a,pre++(mid++post))=FJ 512 f0 (s+1) n (if JX 512 f0 s=U then (a++(HQ 512 (pre++(mid++post)) s).drop 1,D7 (pre++(mid++post)) (s*512) 512) else (a,pre++(mid++post))):=rfl
 rw [e];split
 ·rw [hs,amB hm]
  grind
 ·rename_i hn
  have:mid.all (λb=>b==255)=true:=A8
  have h2:=mZ hm this
  grind
def zA {O:aB}(h:M O=1024):∃M1 M2,O=M1++M2/\M M1=512/\M M2=512:=⟨O.take 512,O.drop 512,(List.take_append_drop _ _).symm,A8,A8⟩
def aB7 {pre post M1 M2 f0:aB}{s:Y}{a:ba}(h1:M M1=512) (h2:M M2=512) (hs:s*512=(M pre:Y)) (hf:f0=pre++(M1++(M2++post))):
  (FJ 512 f0 s 2 (a,f0)).2=pre++(aq 1024 255++post):=by
 have f1:(f0.drop<|M pre).take 512=M1:=A8
 have f2:(f0.drop<|M<|pre++aq 512 255).take 512=M2:=by
  rw [hf,Ax,Bc,<-CC,List.drop_left' A8,qz h2]
 have e0:FJ 512 f0 s 2 (a,f0)=FJ 512 f0 s 2 (a,pre++(M1++(M2++post))):=A8
 rw [e0];obtain ⟨a1,e1⟩:=aEr (a:=a) (n:=1) (post:=M2++post) h1 hs f1;rw [e1]
 have e2:pre++(aq 512 255++(M2++post))=(pre++aq 512 255)++(M2++post):=(CC _ _ _).symm
 rw [e2];obtain ⟨a2,e3⟩:=aEr (a:=a1) (n:=0) (s:=s+1) (post:=post) h2 A8 f2;rw [e3]
 show (pre++aq 512 255)++(aq 512 255++post)=_
 rw [CC,<-CC<|aq 512 255,qi]
def N2 (A O:aB):EM 0 A O=A++O:=AB rfl
def N1 (A O:aB):EM 1 A O=O++A:=AD AS
def avv (A O:aB):EM (1-0) A O=O++A:=AD AS
def avu (A O:aB):EM (1-1) A O=A++O:=AB rfl
namespace JI
variable {fl : List Int} {w g : Int} {ds : List (List Int)} {k O : List Int}
def ers (h:JI fl w g ds k O):(Er 512 fl).2=EM w (C8 g ds k) (aq 1024 255):=by
 obtain ⟨M1,M2,e,h1,h2⟩:=zA h.lo;unfold Er;rw [h.half,h.cur.1]
 have e2:((((1024:aC):Y).tdiv 512).toNat)=2:=AS
 have e3:(((1024:aC):Y).tdiv 512)=2:=AS
 rw [e2,e3]
 have he:=h.eq
 rcases h.hw with rfl|rfl
 ·have:=aB7 (pre:=C8 g ds k) (post:=[]) (M1:=M1) (M2:=M2) (f0:=fl) (s:=(1-0)*2) (a:=[(512,fl)]) h1 h2 (by rw [h.la];rfl) (by rw [he,e,N2];simp only [CC,De,Ec,Ip])
  rw [this,N2]
  grind
 ·have:=aB7 (pre:=[]) (post:=C8 g ds k) (M1:=M1) (M2:=M2) (f0:=fl) (s:=(1-1)*2) (a:=[(512,fl)]) h1 h2 AS (by rw [he,e,N1];simp only [CC,De,Ec,Ip])
  rw [this,N1]
  grind
def rew (h:JI fl w g ds k O) {ds':aI}(hg:g+1<4294967296) (hd:∀d∈ds',Ay d/\M d<=65535) (hf:5+M (B2 ds')<=1024):
  JI (CD (Ie 512 fl ds') (Eo fl) [80] 1) (1-w) (g+1) ds' (aq (1024-(5+M (B2 ds'))) 255) (C8 g ds k):=by
 have hO:Eo fl=(1-w)*1024:=aJa
 have hB:DY fl ds'=CP (g+1)++B2 ds':=by unfold DY;rw [h.cur.1,h.gen]
 have hBl:M (DY fl ds')=4+M (B2 ds'):=by rw [hB,Ax];rfl
 have hBb:Ay (DY fl ds'):=by rw [hB,Kx];exact ⟨Wn _,zQ λd hd'=>(hd d hd').1⟩
 have hj:C8 (g+1) ds' (aq (1024-(5+M (B2 ds'))) 255)=80::(DY fl ds'++aq (1024-(5+M (B2 ds'))) 255):=by rw [hB];unfold C8;simp
 have h255:aq 1024 (255:Y)=255::(aq (M<|DY fl ds') 255++aq (1024-(5+M (B2 ds'))) 255):=by
  rw [qi,<-VJ,hBl]
  congr 1
  omega
 have key:∀pre post:aB,(M pre:Y)=(1-w)*1024->(Er 512 fl).2=pre++(aq 1024 255++post)->CD (Ie 512 fl ds') (Eo fl) [80] 1=pre++(C8 (g+1) ds' (aq (1024-(5+M (B2 ds'))) 255)++post):=by
  intro pre post hp he
  have e1:Ie 512 fl ds'=pre++(255::(DY fl ds'++(aq (1024-(5+M (B2 ds'))) 255++post))):=by
   unfold Ie;rw [he,hO,<-hp,h255]
   have:=iI (pre:=pre++[255]) (post:=aq (1024-(5+M (B2 ds'))) 255++post) (d:=DY fl ds') hBb
   have e9:(M ((pre++[255]:aB)):Y)=(M pre:Y)+1:=AG
   rw [e9] at this
   have e0:pre++(255::(aq (M<|DY fl ds') 255++aq (1024-(5+M (B2 ds'))) 255)++post)=pre++[255]++(aq (M<|DY fl ds') 255++(aq (1024-(5+M (B2 ds'))) 255++post)):=by simp only [CC,De,Ec,Ip]
   rw [e0,this];simp only [CC,De,Ec,Ip]
  rw [e1,hO,<-hp]
  have:=iI (pre:=pre) (post:=DY fl ds'++(aq (1024-(5+M (B2 ds'))) 255++post)) (d:=[80]) aa4
  refine Eq.trans this ?_;rw [hj];simp only [CC,De,Ec,Ip]
 refine ⟨?_,by rw [Jp,Bc];omega,h.la,h.bja,by rcases h.hw with rfl|rfl<;>decide,by have:=h.hg;omega,λ_=>?_,hd,X4 _,by have:=mV (1024-(5+M (B2 ds'))) [] AS;simpa using this⟩
 ·rcases h.hw with rfl|rfl
  ·refine (key (C8 g ds k) [] (by rw [h.la];rfl) (by rw [h.ers,N2];simp only [CC,De,Ec,Ip])).trans ?_
   rw [avv]
   grind
  ·refine (key [] (C8 g ds k) AS (by rw [h.ers,N1];simp only [CC,De,Ec,Ip])).trans ?_
   rw [avu]
   grind
 ·rw [aAQ h.hg];omega
end JI
def agG {se:Y}{fl:aB}{ds:aI}(h:EE se fl ds=0) (y:Fl):(EU se fl ds).getLastD y=(se,CD (Ie se fl ds) (Eo fl) [80] 1):=by
 unfold EU;rw [AB h]
 have e:(DL se (Ie se fl ds) (Eo fl) [80]).drop 1=[(se,CD (Ie se fl ds) (Eo fl) [80] 1)]:=by
  rfl
 rw [e,cd]
 simp
def aC2 {se:Y}{fl:aB}{ds:aI}(h:EE se fl ds=0):EU se fl ds≠ []:=by
 unfold EU;rw [AB h];intro hh
 have:=An M hh
 simp [DL] at this
def xc {l:ba}{y:Fl}(h:l≠ []):Fp l ((M l:Y)-1)=l.getLastD y:=by
 have hp:=M0.2 h
 unfold Fp;rw [cd,ql,CH,show ((M l:Y)-1).toNat=M l-1 by omega,Cv A0]
 rfl
structure VI (se:Y) (fl:aB) (vl:aL) (g:Y):Prop where
 se:se=512
 lv:Ao vl=U
 ji:∃w k O,JI fl w g (vl.map plL) k O
 g:g<=(vl.map (·.1)).getLastD 0
def VI.ld {se:Y}{fl:aB}{vl:aL}{g:Y}(h:VI se fl vl g):C5 se fl=0/\Aa se fl=vl:=by
 obtain ⟨w,k,O,hj⟩:=h.ji
 have:=acY hj h.lv
 rwa [h.se]
def agV {l:aL}(h:M l>0):(l.map (·.1)).getLastD 0=(AU l<|(M l:Y)-1).1:=by
 have e:((M l:Y)-1).toNat=M l-1:=A0
 unfold AU;rw [cd,List.getLast?_map,ql,CH,e,Cv A0];rfl
def Hy (l:aL) (x:Le) (t:Y):aL:=BB l t++((if M l>0/\(M (BB l t)=0\/(AU (BB l t)<|(M (BB l t):Y)-1).1≠(AU l<|(M l:Y)-1).1) then [AU l<|(M l:Y)-1] else [])++[x])
def ar9 {l:aL}{x:Le}{t:Y}:JZ l x t=(Hy l x t).map plL:=by
 unfold JZ Hy
 grind
def amk {l:aL}{x:Le}(h:Fq l x=X) (hv:Ao l=U):letI a:=(AU l<|(M l:Y)-1);M l>0->a.1<x.1/\a.2.2.2.1<=x.2.2.2.1:=by
 unfold Fq at h
 simp at h
 omega
def wI {l:aL}(h:M l>0):l=l.dropLast++[AU l<|(M l:Y)-1]:=by
 have hne:=M0.1 h
 have:AU l ((M l:Y)-1)=l.getLast hne:=by
  rw [Jw A0,List.getLast_eq_getElem]
  congr 1
  omega
 rw [this];exact (List.dropLast_concat_getLast hne).symm
def agk (m:aL) (z:Le):AU (m++[z]) ((M (m++[z]):Y)-1)=z:=by
 unfold AU
 simp
def aBL {se:Y}{fl d:aB}:Gf se fl d≠ []:=by
 unfold Gf DL
 simp
def wO {l:aL}{x:Le}{t:Y}:(Hy l x t).Sublist (l++[x]):=by
 unfold Hy;rw [<-CC];refine List.Sublist.append ?_<|List.Sublist.refl _
 have hs:(BB l t).Sublist l:=by
  unfold BB;split
  ·simp_all
  ·grind
 split
 ·rename_i hc
  obtain ⟨h1,h2⟩:=hc
  have hl:=wI h1
  generalize hz:AU l ((M l:Y)-1)=z at*
  have he:(BB l t).Sublist l.dropLast:=by
   unfold BB at h2|-;split
   ·rename_i ho
    rw [AB ho] at h2;rw [hl,VM] at h2
    have hf:l.filter (JK t)=l.dropLast.filter (JK t)++[z].filter (JK t):=by
     grind
    rw [hf];cases hb:JK t z
    ·simp only [KZ,hb,List.filter_nil]
     simp
    ·exfalso
     have e1:[z].filter (JK t)=[z]:=A8
     rw [e1] at h2;rcases h2 with h2|h2
     ·simp at h2
     ·apply h2
      rw [agk]
   ·grind
  conv=>rhs;rw [hl]
  grind
 ·grind
def iP {vl:aL}:M (B2<|vl.map plL)=19*M vl:=by
 induction vl with
 |nil=>rfl
 |cons x vl ih=>
  have e:B2 ((x::vl).map plL)=BR (plL x)++B2 (vl.map plL):=rfl
  rw [e,Ax,J2,Hc,ih,BI];omega
def ahm (ds:aI):(ds.map λd=>7+M d).sum=M (B2 ds):=(wX ds).symm
def VI.len {se:Y}{fl:aB}{vl:aL}{g:Y}(h:VI se fl vl g):M vl<=53:=by
 obtain ⟨w,k,O,hj⟩:=h.ji
 have:=hj.la
 rw [Jp,iP] at this;omega
def aC1 {fl:aB}{ds:aI}(hl:M fl=2048) (hr:EE 512 fl ds=0):5+M (B2 ds)<=1024:=by
 unfold EE at hr;split at hr
 ·grind
 split at hr
 ·cases hr
 rename_i c
 have hf:rwF fl ds=true:=by
  cases e:rwF fl ds
  ·grind
  ·rfl
 unfold rwF at hf;rw [AP,hl,ahm] at hf
 grind
def jb {se:Y}{fl:aB}{vl:aL}{g:Y}{x:Le}{t:Y}(h:VI se fl vl g) (hE:Cs se fl x t=0):
  (Ao (vl++[x])=U/\(g<x.1/\x.1<=1000000)/\(M vl>0->(AU vl<|(M vl:Y)-1).1<x.1))/\∃w k O,JI fl w g (vl.map plL) k O/\
  ((∃vl',(vl'=vl++[x]\/vl'=Hy vl x t)/\C1 se fl x t=EU 512 fl (vl'.map plL)/\EE 512 fl (vl'.map plL)=0)\/(∃n,19<=n/\k=aq n 255/\C1 se fl x t=Gf 512 fl (plL x))):=by
 obtain ⟨h1,h2⟩:=h.ld;obtain ⟨w,k,O,hj⟩:=h.ji
 have hse:=h.se
 subst hse;unfold Cs at hE
 have hL:C1 512 fl x t=if C5 512 fl≠0 then [] else if (!Ce x || !inB t 0 1100000)=U then [] else if Fq (Aa 512 fl) x=U then [] else
  if El 512 fl (plL x)≠10 then HS 512 fl (plL x) else EU 512 fl (JZ (Aa 512 fl) x t):=rfl
 rw [AD A0] at hE hL
 by_cases c1:(!Ce x || !inB t 0 1100000)=U
 ·grind
 rw [AD c1] at hE hL
 have hx:Ce x=true:=by
  simp only [C6,CS,not_or,OK] at c1;exact c1.1
 by_cases c2:Fq (Aa 512 fl) x=U
 ·grind
 rw [AD c2] at hE hL;rw [h2] at c2 hE hL
 have ho:=amk DQ h.lv
 have hsn:Ao (vl++[x])=true:=afA h.lv hx (by have:=h.len;omega) (by
  by_cases hz:M vl=0
  ·exact .inl hz
  ·right
   obtain ⟨o1,o2⟩:=ho A0;unfold Hq;rw [CB (p:=x.1>_) o1,CB (p:=x.2.2.2.1>=_) o2];rfl)
 have hg:g<x.1:=by
  by_cases hz:M vl>0
  ·have:=h.g
   rw [agV hz] at this;omega
  ·have e:vl=[]:=Jd.1 A0
   have:=h.g
   rw [e] at this
   have h0:g<=0:=this
   have:=(IB.1 hx).1.1
   omega
 refine ⟨⟨hsn,⟨hg,(IB.1 hx).1.2⟩,λhz=>(ho hz).1⟩,w,k,O,hj,?_⟩
 by_cases c3:El 512 fl (plL x)=10
 ·rw [AD A0] at hE hL
  rw [ar9] at hE hL
  grind
 rw [AB c3] at hE hL;rw [hL];unfold El at hE;unfold HS;rw [AD (by rw [hj.ep];decide)] at hE|-
 by_cases c4:apF 512 fl (plL x)=U
 ·grind
 rw [AD c4] at hE|-
 by_cases c5:lkC fl=U
 ·rw [AB c5]
  rw [hj.clK] at c5
  have e:=mZ (n:=M k) rfl c5
  refine .inr ⟨_,?_,e,rfl⟩
  have hla:=hj.la
  rw [Jp,iP] at hla;unfold apF at c4;rw [hj.half,hj.lk,Hc,iP] at c4
  simp at c4
  omega
 ·rw [AD c5] at hE|-
  rw [hj.lk] at hE|-;refine .inl ⟨vl++[x],.inl rfl,?_,?_⟩<;>rw [Iq]
  ·rfl
  ·exact hE
def ace {vl:aL}:∀d∈vl.map plL,Ay d/\M d<=65535:=λd hd=>by
 obtain ⟨y,_,rfl⟩:=EH.1 hd;exact ⟨jL y,by rw [Hc];omega⟩
def ja {vl vl':aL}{x:Le}{t:Y}(hs:Ao (vl++[x])=U) (h:vl'=vl++[x]\/vl'=Hy vl x t):Ao vl'=U/\(vl'.map (·.1)).getLastD 0=x.1:=by
 rcases h with rfl|rfl
 ·grind
 ·refine ⟨wc hs wO,?_⟩
  unfold Hy
  simp
def aBt {fl:aB}{w g:Y}{vl:aL}{n:aC}{O:aB}{x:Le}{m:Fl}(hm:m=(512,CD (Im fl<|plL x) (Cj fl) [80] 1)) (hj:JI fl w g (vl.map plL) (aq n 255) O) (hs:Ao (vl++[x])=U) (hg:g<x.1) (hn:19<=n):VI m.1 m.2 (vl++[x]) g:=by
 have q:=hj.app (d:=plL x) (jL x) (by rw [Hc];omega) (by rw [Hc];exact hn)
 have m1:m.1=512:=by rw [hm]
 have m2:m.2=CD (Im fl<|plL x) (Cj fl) [80] 1:=by rw [hm]
 rw [m1,m2];refine ⟨rfl,hs,⟨w,aq (n-(7+M (plL x))) 255,O,?_⟩,?_⟩
 ·grind
 ·rw [(ja (t:=0) hs<|.inl rfl).2]
  omega
def mv {se:Y}{fl:aB}{vl:aL}{g:Y}{x:Le}{t:Y}(h:VI se fl vl g) (hE:Cs se fl x t=0):
  ∃vl' g',VI (Fp (C1 se fl x t)<|(M (C1 se fl x t):Y)-1).1 (Fp (C1 se fl x t)<|(M (C1 se fl x t):Y)-1).2 vl' g'/\(vl'=vl++[x]\/vl'=Hy vl x t)/\Ao (vl++[x])=U/\(M vl>0->(AU vl<|(M vl:Y)-1).1<x.1):=by
 obtain ⟨⟨hsn,hg,ho⟩,w,k,O,hj,⟨vl',e1,e2,e3⟩ |⟨n,e1,rfl,e2⟩⟩:=jb h hE
 ·obtain ⟨v1,v2⟩:=ja hsn e1
  refine ⟨vl',g+1,?_,e1,hsn,ho⟩;rw [e2,xc (y:=(0,[]))<|aC2 e3,agG e3];exact ⟨rfl,v1,⟨_,_,_,hj.rew A0 ace<|aC1 hj.len e3⟩,A0⟩
 ·refine ⟨vl++[x],g,?_,.inl rfl,hsn,ho⟩
  exact aBt (by rw [e2,xc (y:=(0,[])) aBL,yP]) hj hsn hg.1 e1
def z9 {w:Y}{A O:aB}(hA:M A=1024) (hO:M O=1024) (hw:w=0\/w=1) {j:aC}(hj:j<1024) {i:Y}(hi:i=(1-w)*1024+j) (v:Y):(EM w A O).set i.toNat v=EM w A (O.set j v):=by
 rcases hw with rfl|rfl
 ·rw [N2,N2,show i.toNat=M A+j by omega,NF _ _ A0,cR]
 ·rw [N1,N1,show i.toNat=j by omega,cV _ _ A0]
def aA7 {l:aB}{j:aC}{v:Y}(h:gi l 0≠80) (hv:j=0->v≠80):gi (l.set j v) 0≠80:=by
 unfold gi at h|-;rw [CH,Int.toNat_zero] at h|-;rw [G1];split
 ·exact Qw
 ·exact h
def ON (w:Y) (A fl:aB):Prop:=∃M,fl=EM w A M/\aa M=1024/\Ay M/\gi M 0≠80
namespace ON
variable {w : Int} {A fl : List Int}
def st (h:ON w A fl) (hA:aa A=1024) (hw:w=0\/w=1) {j:aC}(hj:j<1024) {i:Y}(hi:i=(1-w)*1024+j) {v:Y}(hv:0<=v/\v<=255) (h0:j=0->v≠80):ON w A (fl.set i.toNat v):=by
 obtain ⟨M,rfl,h1,h2,h3⟩:=h;exact ⟨M.set j v,z9 hA h1 hw hj hi v,A8,ig h2 j hv,aA7 h3 h0⟩
def pr (h:ON w A fl) (hA:M A=1024) (hw:w=0\/w=1) {d:aB}{a:Y}(ha:a=(1-w)*1024+1):∀n,n<=1023->ON w A (CD fl a d n)
 |0,_=>h
 |n+1,hn=>(pr h hA hw ha n A0).st hA hw (j:=n+1) A0 A0 (aBM _ _) λc=>A0
def er (h:ON w A fl) (hA:M A=1024) (hw:w=0\/w=1) {q:aC}{a:Y}(ha:a=(1-w)*1024+q):∀n,q+n<=1024->ON w A (D7 fl a n)
 |0,_=>h
 |n+1,hn=>(er h hA hw ha n A0).st hA hw (j:=q+n) A0 A0 AS λ_=>AS
def er0 {O:aB}(hO:M O=1024) (hb:Ay O) (hA:M A=1024) (hw:w=0\/w=1) {a:Y}(ha:a=(1-w)*1024):∀n,n<1024->ON w A (D7 (EM w A O) a<|n+1)
 | 0,_=>⟨O.set 0 255,z9 hA hO hw AS (An (·+((0:aC):Y)) ha) 255,A8,ig hb 0 AS,by
   unfold gi;rw [CH,Int.toNat_zero,List.getElem?_set_self A0]
   decide⟩
 |n+1,hn=>(er0 hO hb hA hw ha n A0).st hA hw (j:=n+1) A0 A0 AS λ_=>AS
def er1 {O:aB}(hO:M O=1024) (hb:Ay O) (hA:M A=1024) (hw:w=0\/w=1) {a:Y}(ha:a=(1-w)*1024) {n:aC}(h1:1<=n) (h2:n<=1024):ON w A (D7 (EM w A O) a n):=by
 obtain ⟨m,rfl⟩:∃m,n=m+1:=⟨n-1,A0⟩;exact er0 hO hb hA hw ha m A0
end ON
def wG {α:Type}{f:aC->α}{n:aC}{m:α}(h:m∈((au<|n+1).map f).drop 1):∃k,k<n/\m=f (k+1):=by
 rw [List.range_succ_eq_map,DH,List.drop_one,List.tail_cons,F5] at h
 grind
namespace JI
variable {fl : List Int} {w g : Int} {ds : List (List Int)} {k O : List Int}
def on (h:JI fl w g ds k O) {f:aB}(hf:ON w (C8 g ds k) f):∃O',JI f w g ds k O':=by
 obtain ⟨M,h1,h2,h3,h4⟩:=hf;exact ⟨M,{h with eq:=h1,lo:=h2,bo:=h3,old:=λc=>absurd c h4}⟩
def am9 (h:JI fl w g ds k O):∀m∈(Er 512 fl).1,m.1=512/\(m.2=fl\/ON w (C8 g ds k) m.2):=by
 have e0:(1-w)*((1024:aC):Y).tdiv 512=(1-w)*2:=rfl
 have hs:∀a,FJ 512 fl ((1-w)*2) 2 a=FJ 512 fl ((1-w)*2+1) 1 (if JX 512 fl ((1-w)*2)=U then (a.1++(HQ 512 a.2<|(1-w)*2).drop 1,D7 a.2 ((1-w)*2*512) 512) else a):=λa=>rfl
 have hs1:∀a,FJ 512 fl ((1-w)*2+1) 1 a=if JX 512 fl ((1-w)*2+1)=U then (a.1++(HQ 512 a.2<|(1-w)*2+1).drop 1,D7 a.2 (((1-w)*2+1)*512) 512) else a:=λa=>rfl
 unfold Er;rw [h.half,h.cur.1,show (((1024:aC):Y).tdiv 512).toNat=2 from rfl,e0,hs,hs1]
 have z:∀a:List Fl×List Int,((∀m∈a.1,m.1=512/\(m.2=fl\/ON w (C8 g ds k) m.2))/\ON w (C8 g ds k) a.2)->∀m∈(if JX 512 fl ((1-w)*2+1)=U then (a.1++(HQ 512 a.2<|(1-w)*2+1).drop 1,D7 a.2 (((1-w)*2+1)*512) 512) else a).1,m.1=512/\(m.2=fl\/ON w (C8 g ds k) m.2):=λa ⟨a1,a2⟩ m hm=>by
  split at hm
  ·rcases BC.1 hm with c|c
   ·exact a1 m c
   ·obtain ⟨i,i1,rfl⟩:=wG c
    have i1:i<512:=i1
    exact ⟨rfl,.inr<|a2.er h.la h.hw (q:=512) A0 _ A0⟩
  ·exact a1 m hm
 apply z
 have hb:(1-w)*2*512=(1-w)*1024:=A0
 split
 ·rename_i c
  refine ⟨λm hm=>?_,?_⟩
  ·rcases BC.1 hm with c|c
   ·grind
   ·obtain ⟨i,i1,rfl⟩:=wG c
    have i1:i<512:=i1
    refine ⟨rfl,.inr ?_⟩;rw [h.eq];exact ON.er0 h.lo h.bo h.la h.hw hb _ A0
  ·have q:=ON.er1 (n:=512) h.lo h.bo h.la h.hw hb AS AS
   rw [<-h.eq] at q;simp only;exact q
 ·rename_i c
  refine ⟨λm hm=>A8,O,h.eq,h.lo,h.bo,?_⟩
  obtain ⟨M1,M2,e,m1,m2⟩:=zA h.lo
  have hf:(fl.drop ((1-w)*2*512).toNat).take 512=M1:=by
   rw [h.eq];rcases h.hw with rfl|rfl
   ·rw [N2,show ((1-0:Y)*2*512).toNat=M (C8 g ds k) by rw [h.la];rfl,List.drop_left,e,qz m1]
   ·rw [N1,e,CC]
    exact qz m1
  unfold JX at c
  have hf':(fl.drop ((1-w)*2*512).toNat).take (512:Y).toNat=M1:=hf
  rw [hf'] at c
  have:=mZ m1 FW
  rw [e,this];exact λq=>by cases q
def aeD {se:Y}{fl:aB}{a:Y}{m:Fl}(h:m∈(DL se fl a [80]).drop 1):m=(se,CD fl a [80] 1):=by
 exact FX.1 h
def aoD (h:JI fl w g ds k O) {ds':aI}(hr:EE 512 fl ds'=0) (hg:g+1<4294967296) (hd:∀d∈ds',Ay d/\M d<=65535):∀m∈EU 512 fl ds',m.1=512/\((∃O',JI m.2 w g ds k O')\/∃k',JI m.2 (1-w) (g+1) ds' k'<|C8 g ds k):=by
 intro m hm
 have hf:=aC1 h.len hr
 unfold EU at hm;rw [AB hr] at hm
 have hO:Eo fl=(1-w)*1024:=aJa
 have hBl:M (DY fl ds')=4+M (B2 ds'):=aKd
 rcases BC.1 hm with c|c
 ·obtain ⟨c1,c2|c2⟩:=h.am9 m c
  ·grind
  ·exact ⟨c1,.inl<|h.on c2⟩
 rcases BC.1 c with c|c
 ·obtain ⟨i,i1,rfl⟩:=wG c
  have hS:ON w (C8 g ds k) (Er 512 fl).2:=⟨aq 1024 255,h.ers,Bc,X4 _,AS⟩
  exact ⟨rfl,.inl<|h.on<|hS.pr h.la h.hw A0 _ A0⟩
 ·rw [aeD c]
  exact ⟨rfl,.inr ⟨_,h.rew hg hd hf⟩⟩
def acL (h:JI fl w g ds k O) {d:aB}:∀n,n+1<=M k->∃k',M k'=M k/\JI (CD fl (Cj fl+1) d n) w g ds k' O
 |0,_=>⟨k,rfl,h⟩
 | n+1,hn=>by
  obtain ⟨k',h1,h2⟩:=h.acL (d:=d) n A0
  have hP:Cj fl=w*1024+((5+M (B2 ds):aC):Y):=aJr
  have hv:=aBM (gi (CD fl (Cj fl+1) d n)<|Cj fl+1+n)<|gi d n
  have e:(CD fl (Cj fl+1) d n).set (Cj fl+1+n).toNat (BG aw (gi (CD fl (Cj fl+1) d n)<|Cj fl+1+n)<|gi d n)=EM w (C8 g ds<|k'.set (n+1)<|BG aw (gi (CD fl (Cj fl+1) d n)<|Cj fl+1+n)<|gi d n) O:=by
   generalize BG aw _ _=v at*
   have hj:C8 g ds (k'.set (n+1) v)=(C8 g ds k').set (5+M (B2 ds)+(n+1)) v:=by
    unfold C8;rw [NF _ _ dz,NF _ _ dz]
    congr 2
    simp [CP]
    congr 1
    omega
   rw [hj]
   conv=>lhs;rw [h2.eq]
   have hl:=h2.la
   have hl2:=hl
   rw [Jp] at hl2;rcases h.hw with rfl|rfl
   ·rw [N2,N2,cV _ _ A0]
    congr 2
    omega
   ·rw [N1,N1,NF _ _ (by have:=h.lo;omega)]
    congr 2
    have:=h.lo
    omega
  refine ⟨_,(Bf ..).trans h1,{h2 with eq:=e,la:=?_,bk:=ig h2.bk _ hv,tl:=aA7 h2.tl λc=>A0}⟩
  have:=h2.la
  rw [Jp] at this|-
  grind
end JI
def amj {se:Y}{fl:aB}{vl:aL}{g:Y}{x:Le}{t:Y}(h:VI se fl vl g) (hE:Cs se fl x t=0):∀m∈C1 se fl x t,∃vl' g',VI m.1 m.2 vl' g'/\(vl'=vl\/vl'=vl++[x]\/vl'=Hy vl x t):=by
 intro m hm;obtain ⟨⟨hsn,hg,ho⟩,w,k,O,hj,⟨vl',e1,e2,e3⟩ |⟨n,e1,rfl,e2⟩⟩:=jb h hE
 ·rw [e2] at hm
  obtain ⟨v1,v2⟩:=ja hsn e1;obtain ⟨m1,⟨O',m2⟩ |⟨k',m2⟩⟩:=hj.aoD e3 A0 ace m hm
  ·exact ⟨vl,g,⟨m1,h.lv,⟨_,_,_,m2⟩,h.g⟩,.inl rfl⟩
  ·exact ⟨vl',g+1,⟨m1,v1,⟨_,_,_,m2⟩,A0⟩,.inr e1⟩
 ·rw [e2] at hm
  rcases BC.1 hm with c|c
  ·obtain ⟨i,i1,rfl⟩:=EH.1 c
   rw [Dk,J2,Hc] at i1;obtain ⟨k',_,m2⟩:=hj.acL (d:=(BR<|plL x).drop 1) i A8;exact ⟨vl,g,⟨rfl,h.lv,⟨_,_,_,m2⟩,h.g⟩,.inl rfl⟩
  ·exact ⟨vl++[x],g,aBt (JI.aeD c) hj hsn hg.1 e1,.inr<|.inl rfl⟩
def FlI (se:Y) (n:aC) (y:Fl):Prop:=y.1=se/\M y.2=n/\Ay y.2
structure SnI (s:SN) (n:aC):Prop where
 ls:M s.ls<=64
 lk:M s.lk<=n
def agt {l:aL}{x:Le}(h:E0 l x=0):M (Dr l x)<=64:=by
 unfold Dr;rw [AB h];unfold E0 at h;split at h
 ·rename_i hv
  rw [AP] at hv
  have:=(Eh hv.1).1
  split at h
  ·cases h
  ·split at h
   ·cases h
   ·simp;omega
 ·cases h
def ao2 {t:Y}{s:SN}{x:Le}{n:aC}(h:SnI s n):SnI (Dq t s x) (n+1):=by
 unfold Dq;split
 ·rename_i hc
  exact ⟨agt hc.1,by have:=h.lk;simp;omega⟩
 ·exact ⟨h.ls,by have:=h.lk;omega⟩
def aC6 {t:Y}{xs:aL}{s:SN}{n:aC}(h:SnI s n):∀k,SnI (DU t xs s k) (n+k)
 |0=>h
 |k+1=>ao2<|aC6 h k
structure RQ (p:PK):Prop where
 ls:M p.ls<=64
 lk:(M p.lk:Y)<=16*p.tk+5000
 ra:M p.ra<=16
 dm:∀x∈p.dm,Ft x=U
 mi:∀m∈p.mi,M m.1<=21
def xd {l:aL}{t:Y}:M (BB l t)<=M l:=by
 unfold BB;split
 ·grind
 ·simp
def am3 {l:aL}{t:Y}:M (CM l t)<=M l:=by
 unfold CM;split
 ·exact xd
 ·omega
def lI {p:PK}:M p.dL<=M p.gs:=by
 unfold PK.dL KY;split
 ·exact wC
 ·simp
def atA {p:PK}:M p.dR<=M p.gs:=by
 unfold PK.dR deR;split
 ·exact cq gr
 ·simp
def aEz {p:PK}(h:RQ p) (hg:M p.gs<=16):M p.AI.ls<=64/\(M p.AI.lk:Y)<=16*p.tk+5016/\M p.AI.ra<=16:=by
 have hl:=h.lk
 have he:M (CM p.ls p.tk)<=64:=Fy am3 h.ls
 unfold PK.AI;split
 ·exact ⟨h.ls,A0,h.ra⟩
 ·split
  ·exact ⟨he,A8,h.ra⟩
  ·have hs:SnI p.Ep (M p.lk):=⟨he,Ak _⟩
   have h1:=aC6 (t:=p.tk) (xs:=p.dL) hs<|M p.dL
   have hd:=lI (p:=p)
   exact ⟨h1.ls,by have:=h1.lk;show (M (DU p.tk p.dL p.Ep<|M p.dL).lk:Y)<=_;omega,Fy atA hg⟩
def mem_set {α:Type}{l:List α}{i:aC}{x y:α}(h:y∈l.set i x):y∈l\/y=x:=Lx h
def amO (c:Ca) (m:Mi) (p al:Y):M (HR c m p al).1<=21\/M m.1>21:=by
 unfold HR;split
 ·rename_i hB
  refine .inl ?_;simp only [dwP,Dk,Ax,BI,BQ];omega
 ·grind
def aEt {gs:aG}{ca:aKE}{s:DW}(h:∀m∈s.mi,M m.1<=21):∀k,∀m∈(Cl gs ca s k).mi,M m.1<=21
 |0=>h
 | k + 1=>by
  have ih:=aEt (gs:=gs) (ca:=ca) h k
  unfold Cl ES;split
  ·exact ih
  ·split
   ·intro m hm
    rcases mem_set hm with hm|rfl
    ·grind
    ·rcases amO (BE ca k) (Bo (Cl gs ca s k).mi k) (AF gs k).2.2.1 (BL (AF gs k)<|B1 (Cl gs ca s k).st k) with e|e
     ·exact e
     ·exfalso
      have:M (Bo (Cl gs ca s k).mi k).1<=21:=by
       unfold Bo;rw [CH];cases hx:(Cl gs ca s k).mi[(k:Y).toNat]? with
       |none=>simp
       |some y=>exact ih y<|Lz hx
      omega
   ·exact ih
def al5 {se:Y}{fl:aB}:M (Aa se fl)<=64:=by
 unfold Aa;split
 ·rename_i h
  unfold C5 at h;split at h
  ·cases h
  ·split at h
   ·grind
   ·split at h
    ·split at h
     ·rename_i h3;exact (Eh h3).1
     ·cases h
    ·cases h
 ·simp
def RQ.tick {p:PK}(h:RQ p) (hv:VP p):RQ p.B5:=by
 have hg:=(Ci.1 hv.site).1.2.2.2.2.1
 obtain ⟨h2,h3,h4⟩:=aEz h hg;obtain ⟨e1,e2,e3,e4,e5,e6,e7,e8,e9,e10,e11,e12,e13,e14⟩:=I7 p;refine ⟨h2,?_,h4,?_,?_⟩
 ·show (M (p.AI.lk.filter _):Y)<=16*(p.AI.tk+1)+5000
  have:=rD (λl:Lk=>an<|l.1>p.AI.tk) p.AI.lk
  rw [e6] at this|-;omega
 ·show ∀x∈p.AI.dm,_
  rw [e12];exact h.dm
 ·refine aEt ?_ _
  show ∀m∈p.AI.mi,_
  rw [e10];exact h.mi
def RQ.step {p:PK}(h:RQ p) (hv:VP p) {e:EV}(he:BS p e=0):RQ (B3 p e):=by
 have hg:=(Ci.1 hv.site).1.2.2.2.2.1
 unfold B3;rw [AD A0];unfold BS at he;split
 ·exact h.tick hv
 rename_i h1;rw [AD h1] at he;split
 ·rename_i h2
  have hd:Ft e.d=true:=by
   unfold PK.Ei at he;split at he
   ·cases he
   ·split at he
    ·cases he
    ·rename_i hb
     grind
  refine {h with dm:=λx hx=>?_,mi:=λm hm=>?_}
  ·rcases mem_set hx with hx|rfl
   ·exact h.dm x hx
   ·exact hd
  ·exact aIA
 rename_i h2;rw [AD h2] at he;split
 ·refine {h with dm:=λx hx=>?_,mi:=λm hm=>?_}
  ·rcases mem_set hx with hx|rfl
   ·exact h.dm x hx
   ·decide
  ·exact aIA
 rename_i h3;rw [AD h3] at he;split
 ·have:=rD (λl:Lk=>l.2.2.1 !=e.en) p.lk
  exact {h with lk:=by show (M (p.lk.filter _):Y)<=16*p.tk+5000;have:=h.lk;omega}
 rename_i h4;rw [AD h4] at he;split
 ·exact {h with ls:=by simp [PK.So]}
 rename_i h5;rw [AD h5] at he;split
 ·exact {h with ls:=Fy xd al5,ra:=by simp [PK.PI];omega}
 rename_i h6;rw [AD h6] at he;split
 ·exact {h with}
 ·exact {h with}
def ku {cs:aJ}{os:aF}{ks:aP}{gs:aG}{bs:aQ}{dr:aB}(h:Dz cs os ks gs bs dr=0):VP (newP cs os ks gs bs dr)/\RQ (newP cs os ks gs bs dr):=by
 unfold newP;rw [AD A0];unfold Dz at h;split at h
 ·cases h
 rename_i h1;simp only [not_or,OK,ne_eq,VN] at h1;split at h
 ·cases h
 rename_i h2;simp only [OK] at h2;refine ⟨⟨h1.1,AG,AG,AG,AG,by simp [EO],AG,h1.2,AG,λk hk=>?_,h2,λl hl=>by cases hl⟩,⟨AG,AG,by simp;exact (Ci.1 h1.1).1.2.2.2.2.1,λx hx=>?_,λm hm=>?_⟩⟩
 ·simp only [Eb] at hk
  have e:gi (cs.map λc=>c.2.2.1) (k:Y)=(AY cs k).2.2.1:=by
   unfold gi AY
   simp [hk]
  simp only [e];exact ⟨(lL h1.1 hk).1,CN _⟩
 ·obtain ⟨_,rfl⟩:=Qr.1 hx;decide
 ·grind
def xe {se:Y}{f0:aB}:∀(n:aC) (s:Y) (a:List Fl×List Int),M (FJ se f0 s n a).1<=M a.1+n*se.toNat
 |0,s,a=>by simp [FJ]
 | n+1,s,a=>by
  unfold FJ
  have h:=xe (se:=se) (f0:=f0) n (s+1) (if JX se f0 s=U then (a.1++(HQ se a.2 s).drop 1,D7 a.2 (s*se) se.toNat) else a)
  rw [Nat.succ_mul];split at h
  ·rename_i c
   rw [AB c]
   have e:M ((HQ se a.2 s).drop 1)=se.toNat:=by unfold HQ;rw [Dk,Eb,OQ];omega
   simp only [Ax] at h;omega
  ·rename_i c
   rw [AD c];omega
def iO (se:Y) (fl:aB) (a:Y) (d:aB):M ((DL se fl a d).drop 1)=M d:=by
 unfold DL;rw [Dk,Eb,OQ];omega
def aix {fl:aB}{ds:aI}(hl:M fl=2048) (hE:EE 512 fl ds=0):M (EU 512 fl ds)<=5000:=by
 have hF:rwF fl ds=true:=by
  unfold EE at hE;split at hE
  ·grind
  ·split at hE
   ·cases hE
   ·rename_i h
    cases e:rwF fl ds
    ·grind
    ·rfl
 have hb:M (DY fl ds)<=1100:=by
  unfold rwF at hF;rw [AP,AT] at hF;unfold DY;rw [Ax,wX]
  have:M (CP<|HC fl (Aj fl)+1)=4:=rfl
  omega
 have he:M (Er 512 fl).1<=1025:=by
  refine Fy (xe _ _ _) ?_;rw [hl]
  show 1+(((2048 / 2:aC):Y).tdiv 512).toNat*(512:Y).toNat<=1025
  decide
 unfold EU;rw [AB hE,Ax,Ax,iO,iO];simp only [BI,BQ];omega
def aBs {se:Y}{fl:aB}{vl:aL}{g:Y}{x:Le}{t:Y}(h:VI se fl vl g) (hE:Cs se fl x t=0):M (C1 se fl x t)<=5000/\C1 se fl x t≠ []:=by
 obtain ⟨_,w,k,O,hj,⟨vl',_,e2,e3⟩ |⟨n,_,_,e2⟩⟩:=jb h hE
 ·rw [e2]
  exact ⟨aix hj.len e3,aC2 e3⟩
 ·rw [e2]
  refine ⟨?_,aBL⟩;unfold Gf;rw [Ax,iO];unfold DL;rw [Eb,OQ,Dk,J2,Hc]
  decide
def VI.fl {se:Y}{fl:aB}{vl:aL}{g:Y}(h:VI se fl vl g):FlI 512 2048 (se,fl):=by
 obtain ⟨w,k,O,hj⟩:=h.ji;exact ⟨h.se,hj.len,hj.by_⟩
def VK (se:Y) (fl:aB):Prop:=FlI 512 2048 (se,fl)/\∃vl g,VI se fl vl g
def VK.len {se:Y}{fl:aB}{x:Le}{t:Y}(h:VK se fl) (hE:Cs se fl x t=0):M (C1 se fl x t)<=5000/\0<M (C1 se fl x t):=by
 obtain ⟨_,vl,g,hv⟩:=h;exact ⟨(aBs hv hE).1,M0.2 (aBs hv hE).2⟩
def VK.st {se:Y}{fl:aB}{x:Le}{t:Y}(h:VK se fl) (hE:Cs se fl x t=0):letI b:=C1 se fl x t;letI a:=(Fp b<|(M b:Y)-1);0<M b/\VK a.1 a.2:=by
 refine ⟨(h.len hE).2,?_⟩;obtain ⟨_,vl,g,hv⟩:=h;obtain ⟨vl',g',h1,_⟩:=mv hv hE;exact ⟨h1.fl,vl',g',h1⟩
def AL {α:Type}(l:List α):List α:=(l.drop 0).take<|M l
def EJ {α:Type}(l:List α):AL l=l:=Ox l
def cpC (l:aJ):aJ:=cpy (AL l)<|aq (M l:Y).toNat (ByteArray.empty,((0:Y),((0:Y),((0:Y),(((0:Y),(0:Y)),((0:Y),((0:Y),((0:Y),((0:Y),(0:Y))))))))))
def XM (l:aJ):cpC l=l:=by
 unfold cpC;rw [EJ];exact NZ
structure Mr where
 (n i:Y)
 p:PK
 ev:EW
 BF:aF
 Bg:aP
 B7:aG
 Bh:aQ
 o:aJ
def oa (s:Mr):T (Rd Mr):=letI b:=s.o.getD s.i.toNat<|Ty.dflt AX;letI a:=(s.o.set s.i.toNat (b.1,(b.2.1,((s.p.tg.getD s.i.toNat<|Ty.dflt A7),b.2.2.2))));.br (an<|s.i<s.n) (.ik s.i (M s.p.tg)<|.ik s.i (M s.o)<|.rl s.p.tg<|.rl s.p.cs<|.rl s.p.fl<|.rl s.p.ra<|.pb s.p<|.re (M s.o) a<|.nx {s with i:=AA<|s.i+1,o:=a})<|.rl s.p.tg<|.rl s.p.cs<|.rl s.p.fl<|.rl s.p.ra<|.pb s.p<|.rl s.o<|.so (.exit 0) s
def Zv (s:Mr):Prop:=s.i=0/\s.n=(M s.p.tg:Y)/\M s.p.tg=M s.p.cs/\s.n<=1000/\s.o=DS s.p.cs s.p.tg s.i.toNat
def Ur (s:Mr):Prop:=(0<=s.i/\s.i<=s.n)/\s.n=(M s.p.tg:Y)/\M s.p.tg=M s.p.cs/\s.n<=1000/\s.o=DS s.p.cs s.p.tg s.i.toNat
def mD (s:Mr):aC:=(s.n-s.i).toNat
def uM (x:Ex) (s s':Mr):Prop:=x=.exit 0/\s'.o=DS s'.p.cs s'.p.tg (M s'.p.tg)
def azE:∀s,Zv s->Ur s:=by
 exact aIG
def at7:Da Ur mD uM oa:=by
 intro s hI;obtain ⟨⟨h0,h1⟩,h2,h3,h4,h5⟩:=hI
 have hl:M s.o=M s.p.cs:=eI
 refine allR_ite (λc1=>?_) λc1=>?_
 ·have c1:s.i<s.n:=A8
  rw [AH (x:=s.i+1)];refine ⟨⟨⟨A8,A8⟩,h2,h3,h4,?_⟩,by simp only [mD];omega⟩
  exact aH2
 ·have c1:s.n<=s.i:=A8
  refine ⟨rfl,?_⟩
  grind
def QE:LpD Mr:=⟨18,34,[2,3,19,20,21],[],λs=>[.own 18 0,.own 19 0,.os 15 1 0<|M s.p.tg,s.n,s.i],λs=>[bDd,bDd,zB,bDd,bV 73 AX s.p.cs,bDd,bV 5 (.int aw) s.p.fl,bV 141 Ag s.p.ra,bV 111 Aq s.p.st,bV 56 AK s.p.ca,bV 122 At s.p.mi,bV 114 B8 s.p.me,bV 58 Ac s.p.dm,bV 118 B4 s.p.lk,bV 3 A7 s.p.dr,bV 3 A7 s.p.tg,⟨[.os 4 11 0<|M s.p.cs,.xl .str s.p.os,.xl Ad s.p.ks,.xl AZ s.p.gs,.xl Ae s.p.bs,.v<|ag J s.p.tk,.v<|.bool s.p.up,.xl AK s.p.ls,.v<|ag J s.p.se,.os 6 1 0<|M s.p.fl,.os 7 2 0<|M s.p.ra,.v<|ag J s.p.nx,.os 8 4 0<|M s.p.st,.os 9 5 0<|M s.p.ca,.os 10 3 0<|M s.p.mi,.os 11 3 0<|M s.p.me,.os 12 4 0<|M s.p.dm,.os 13 6 0<|M s.p.lk,.os 14 1 0<|M s.p.dr,.os 15 1 0<|M s.p.tg,.v<|ag J s.ev.ek,.v<|ag J s.ev.en,.v<|ag J s.ev.em,.v<|ag J s.ev.c1,.v<|ag J s.ev.c2,.v<|ag J s.ev.c3,.v<|ag J s.ev.c4,.v<|ag J s.ev.c5,.v<|.bool s.ev.d1,.v<|ag J s.ev.d2,.v<|ag J s.ev.d3,.v<|ag J s.ev.d4,.v<|.slice aj 0 0],93,.cl,X⟩,bDd,⟨[.v<|.slice aj 0 0,.v<|.slice aj 0 0,.v<|.slice aj 0 0,.v<|.slice aj 0 0,.v<|.slice aj 0 0],28,.cl,X⟩,⟨[.os 20 11 0<|M s.o,s.BF,s.Bg,s.B7,s.Bh],28,.cl,X⟩,bV 73 AX s.o],λv b=>⟨AJ v 3,AJ v 4,rB b 16 4 0 6 7 8 9 10 11 12 13 14 15,rG b,AE .str b 19 1,AE Ad b 19 2,AE AZ b 19 3,AE Ae b 19 4,AV AX b 20⟩,oa,λs r=> {s with i:=r.i,o:=r.o},λs=>s,λ_ s=>s,[.exit 0],Zv,Ur,mD⟩
abbrev zi:=QE.run
abbrev akY:=QE.exn
def MV:aN:=[]
def asO:Ap:=kI MV<|la 9 func23 CI<|l0 MV
def aqL:Rq Ur oa:=by
 intro s hI;refine ⟨λc1=>⟨?_,?_,?_,?_,A9,A9,A9,A9,A9,A9,A9,A9,A9,A9,A9,A9,?_,ak⟩,λc1=>⟨A9,A9,A9,A9,A9,A9,A9,A9,A9,A9,A9,A9,A9,ak⟩⟩
 all_goals ((obtain ⟨⟨h0,h1⟩,h2,h3,h4,h5⟩:=hI;have hl:M s.o=M s.p.cs:=eI;(try simp only [AT] at c1);first|omega|exact ⟨rfl,rfl⟩ |exact ⟨rfl,AG⟩))
def aE4:QE.Ok:={}
def aD1:QE.Pf (uM):=⟨azE,λs h=>rfl,at7,aqL⟩
def zr:=s2 (b:=bN f52 0) aE4 aD1 MV asO
def alj:Fi Zv Ur uM akY zi:=LpD.fin aE4 aD1
structure JC where
 p:PK
 ev:EW
def Q5 (s:JC):aD:=[.own 16 0]
def UP (s:JC):aE:=[bDd,bDd,zB,bDd,bV 73 AX s.p.cs,bDd,bV 5 (.int aw) s.p.fl,bV 141 Ag s.p.ra,bV 111 Aq s.p.st,bV 56 AK s.p.ca,bV 122 At s.p.mi,bV 114 B8 s.p.me,bV 58 Ac s.p.dm,bV 118 B4 s.p.lk,bV 3 A7 s.p.dr,bV 3 A7 s.p.tg,⟨[.os 4 11 0<|M s.p.cs,.xl .str s.p.os,.xl Ad s.p.ks,.xl AZ s.p.gs,.xl Ae s.p.bs,.v<|ag J s.p.tk,.v<|.bool s.p.up,.xl AK s.p.ls,.v<|ag J s.p.se,.os 6 1 0<|M s.p.fl,.os 7 2 0<|M s.p.ra,.v<|ag J s.p.nx,.os 8 4 0<|M s.p.st,.os 9 5 0<|M s.p.ca,.os 10 3 0<|M s.p.mi,.os 11 3 0<|M s.p.me,.os 12 4 0<|M s.p.dm,.os 13 6 0<|M s.p.lk,.os 14 1 0<|M s.p.dr,.os 15 1 0<|M s.p.tg,.v<|ag J s.ev.ek,.v<|ag J s.ev.en,.v<|ag J s.ev.em,.v<|ag J s.ev.c1,.v<|ag J s.ev.c2,.v<|ag J s.ev.c3,.v<|ag J s.ev.c4,.v<|ag J s.ev.c5,.v<|.bool s.ev.d1,.v<|ag J s.ev.d2,.v<|ag J s.ev.d3,.v<|ag J s.ev.d4,.v<|.slice aj 0 0],93,.cl,X⟩,bDd]
def we (s:JC):Mr:=(⟨((M s.p.tg:aC):Y),0,s.p,s.ev,s.p.os,s.p.ks,s.p.gs,s.p.bs,cpC s.p.cs⟩:Mr)
structure U7 where
 so:aF
 sk:aP
 sg:aG
 sb:aQ
 p:PK
 ev:EW
 o:aJ
def acC (s:U7):LV:=.agg [.os 18 11 0<|M s.o,s.so,s.sk,s.sg,s.sb]
def adU (s:U7):aE:=[bDd,bDd,zB,bDd,bV 73 AX s.p.cs,bDd,bV 5 (.int aw) s.p.fl,bV 141 Ag s.p.ra,bV 111 Aq s.p.st,bV 56 AK s.p.ca,bV 122 At s.p.mi,bV 114 B8 s.p.me,bV 58 Ac s.p.dm,bV 118 B4 s.p.lk,bV 3 A7 s.p.dr,bV 3 A7 s.p.tg,⟨[.os 4 11 0<|M s.p.cs,.xl .str s.p.os,.xl Ad s.p.ks,.xl AZ s.p.gs,.xl Ae s.p.bs,.v<|ag J s.p.tk,.v<|.bool s.p.up,.xl AK s.p.ls,.v<|ag J s.p.se,.os 6 1 0<|M s.p.fl,.os 7 2 0<|M s.p.ra,.v<|ag J s.p.nx,.os 8 4 0<|M s.p.st,.os 9 5 0<|M s.p.ca,.os 10 3 0<|M s.p.mi,.os 11 3 0<|M s.p.me,.os 12 4 0<|M s.p.dm,.os 13 6 0<|M s.p.lk,.os 14 1 0<|M s.p.dr,.os 15 1 0<|M s.p.tg,.v<|ag J s.ev.ek,.v<|ag J s.ev.en,.v<|ag J s.ev.em,.v<|ag J s.ev.c1,.v<|ag J s.ev.c2,.v<|ag J s.ev.c3,.v<|ag J s.ev.c4,.v<|ag J s.ev.c5,.v<|.bool s.ev.d1,.v<|ag J s.ev.d2,.v<|ag J s.ev.d3,.v<|ag J s.ev.d4,.v<|.slice aj 0 0],93,.cl,X⟩,bDd,bV 73 AX s.o]
def Yn (s:JC):T U7:=letI a:=((M s.p.cs:aC):Y);.rm 96 a<|.rz s.p.cs<|.rc a (ByteArray.empty,((0:Y),((0:Y),((0:Y),(((0:Y),(0:Y)),((0:Y),((0:Y),((0:Y),((0:Y),(0:Y)))))))))) (M<|AL s.p.cs)<|.rl s.p.tg<|.rl s.p.cs<|.rl s.p.fl<|.rl s.p.ra<|.pb s.p<|.re a.toNat (cpC s.p.cs)<|.req (QE.q<|we s)<|.rl s.p.cs<|.rl s.p.fl<|.rl s.p.ra<|.pb s.p<|.ok<|⟨s.p.os,s.p.ks,s.p.gs,s.p.bs,s.p,s.ev,(zi<|we s).o⟩
def bE (s:JC):Prop:=M s.p.tg=M s.p.cs/\M s.p.tg<=1000
def abA (s:JC):U7:=⟨s.p.os,s.p.ks,s.p.gs,s.p.bs,s.p,s.ev,DS s.p.cs s.p.tg<|M s.p.tg⟩
def Zg:CF JC U7:=⟨Q5,UP,λv b=>⟨rB b 16 4 0 6 7 8 9 10 11 12 13 14 15,rG b⟩,bE,[0,1,3,5,17],[],acC,adU,abA⟩
abbrev au4 (s:JC):Prop:=bE s/\Q5 s=Q5 s/\UP s=UP s
def aFG:Ap:=kI MV<|la 4 func52 zr<|la 9 func23 CI<|l0 MV
def aaM:aKC:=addL 52 18 4 (QE.lp)<|addL 23 0 9 (FZ.lp)<|unrL prog AM MV 20 2
def ahK:LLok prog AM aaM:=addL_ok func52 rfl AO zr<|addL_ok func23 rfl AO CI<|unrL_ok<|gk MV
def arP (s:JC):((stepH prog AM MV aaM aFG).k 52 (Q5 s)<|UP s).bind (λq=>canT (M<|UP s) [0] [] .normal (q.1::Q5 s) q.2)=(Yn s).mp (λs2=>⟨.normal,M (Q5 s)+1,[acC s2],adU s2,U⟩):=AO
def aoW (s:JC) (hE:bE s):(Yn s).all (λq=>q=abA s):=by
 obtain ⟨ht,hn⟩:=hE
 have hA:Zv (we s):=⟨rfl,rfl,ht,aJx,XM _⟩
 obtain ⟨_,_,_,q2⟩:=alj _ hA;unfold Yn;simp only [EJ,XM,q2]
 repeat (refine ⟨A8,?_⟩)
 refine ⟨⟨hA,rfl,rfl⟩,?_⟩
 repeat (refine ⟨AG,?_⟩)
 rfl
def aG8:CSound prog AM 52 Zg.m:=CF.sound (D:=Zg) (t:=Yn) (gk MV) ahK aFG.h arP λs hE=>⟨aoW s hE⟩
structure Lf where
 xs:aL
 (n i:Y)
 p:PK
 ev:EW
def oR (s:Lf):T (Rd Lf):=letI c:=AU s.xs s.i;letI e:=AA<|s.i+1;letI a:=((AA<|s.p.tk+((AA<|(AA<|7*s.p.tk)+(AA<|3*c.2.1)).tmod 5)),c);letI b:=C1 s.p.se s.p.fl c s.p.tk;letI d:=(AA<|(M b:Y)-1);.br (an<|s.i<s.n) (.ix s.i (M s.xs)<|.br ((E0 s.p.ls c) !=0) (.rl s.p.cs<|.rl s.p.st<|.rl s.p.ca<|.rl s.p.mi<|.rl s.p.me<|.rl s.p.lk<|.rl s.p.dr<|.rl s.p.tg<|.nx {s with i:=e})<|.req (Ay s.p.fl)<|.br ((Cs s.p.se s.p.fl c s.p.tk) !=0) (.rl s.p.cs<|.rl s.p.st<|.rl s.p.ca<|.rl s.p.mi<|.rl s.p.me<|.rl s.p.lk<|.rl s.p.dr<|.rl s.p.tg<|.nx {s with i:=e})<|.ix d (M b)<|.req ((5:Y)≠0)<|.rb (M s.p.lk) (M<|[a]) 48<|.rl s.p.cs<|.rl s.p.st<|.rl s.p.ca<|.rl s.p.mi<|.rl s.p.me<|.re (M s.p.lk+M ([a])) (s.p.lk++([a]))<|.rl s.p.dr<|.rl s.p.tg<|.nx {s with i:=e,p.ls:=Dr s.p.ls c,p.se:=(Fp b d).1,p.fl:=(Fp b d).2,p.nx:=AA<|c.1+1,p.lk:=s.p.lk++([a])})<|.rl s.p.cs<|.rl s.p.st<|.rl s.p.ca<|.rl s.p.mi<|.rl s.p.me<|.rl s.p.lk<|.rl s.p.dr<|.rl s.p.tg<|.so (.exit 0) s
def JG (p:PK) (xs:aL):PK:=letI a:=(xs.foldl (Dq p.tk) ⟨p.ls,p.se,p.fl,p.nx,p.lk⟩);{p with ls:=a.ls,se:=a.se,fl:=a.fl,nx:=a.nx,lk:=a.lk}
def D4 {a b:Y}(h:(a !=b)=X):a=b:=A8
def gQ {p:PK}{x:Le}(h:VK p.se p.fl) (hE:Cs p.se p.fl x p.tk=0):letI a:=C1 p.se p.fl x p.tk;AA ((M a:Y)-1)=(M a:Y)-1/\0<M a:=by
 have h1:=(h.len hE).1
 have h2:=(h.st hE).1
 exact ⟨AH,h2⟩
def avC {se:Y}{fl:aB}{x:Le}{t:Y}(h:Cs se fl x t=0):0<=x.1/\x.1<=1000000:=by
 unfold Cs at h;split at h
 ·grind
 ·split at h
  ·cases h
  ·rename_i h1
   have:Ce x=true:=by
    cases e:Ce x
    ·grind
    ·rfl
   have:=IB.1 this
   omega
def asI {l:aL}{i:Y}(h0:0<=i) (h:i<M l):AU l i∈l:=Hd h0 h
def atv {t c:Y}(ht:0<=t/\t<=1000000) (hc:0<=c/\c<=100):AA (t+(AA<|AA (7*t)+AA (3*c)).tmod 5)=t+(7*t+3*c).tmod 5:=by
 rw [AH (x:=7*t),AH (x:=3*c),AH (x:=7*t+3*c)]
 have:=Int.tmod_nonneg 5 (show 0<=7*t+3*c by omega)
 have:=Int.tmod_lt_of_pos (7*t+3*c) (show (0:Y)<5 by decide)
 exact AH
def Zo (s:Lf):Prop:=s.i=0/\s.n=(M s.xs:Y)/\s.n<=16/\(∀x∈s.xs,0<=x.2.1/\x.2.1<=100)/\(0<=s.p.tk/\s.p.tk<=1000000)/\VK s.p.se s.p.fl/\(M s.p.lk:Y)<=17000000+s.i
def ZW (s:Lf):Prop:=(0<=s.i/\s.i<=s.n)/\s.n=(M s.xs:Y)/\s.n<=16/\(∀x∈s.xs,0<=x.2.1/\x.2.1<=100)/\(0<=s.p.tk/\s.p.tk<=1000000)/\VK s.p.se s.p.fl/\(M s.p.lk:Y)<=17000000+s.i
def Xw (s:Lf):aC:=(s.n-s.i).toNat
def adu (x:Ex) (s s':Lf):Prop:=True
def az5:∀s,Zo s->ZW s:=by
 exact aIU
def atp:Da ZW Xw adu oR:=by
 intro s hI;obtain ⟨⟨h0,h1⟩,h2,h3,h4,h5,h6,h7⟩:=hI;refine allR_ite (λc1=>allR_ite (λc2=>?_) λc2=>allR_ite (λc3=>?_) λc3=>?_) λc1=>trivial
 all_goals have c1:s.i<s.n:=AQ
 all_goals rw [AH (x:=s.i+1)]
 iterate 2
  ·exact ⟨⟨⟨AR,AR⟩,h2,h3,h4,h5,h6,AR⟩,by simp only [Xw];omega⟩
 ·rw [(gQ h6<|D4 c3).1]
  exact ⟨⟨⟨A8,AR⟩,h2,h3,h4,h5,(h6.st<|D4 c3).2,A8⟩,by simp only [Xw];omega⟩
def QC:LpD Lf:=⟨18,85,[0,75,76,77],[.pc 16 7 AK,.kb 5,.pc 16 9<|.int aw,.kb 6,.pc 16 10 Ag,.kb 7,.pc 16 16 Ac,.kb 12,.ms 0 17],λs=>[.own 16 0,s.xs,s.n,s.i],λs=>[bDd,bDd,zB,bDd,bV 73 AX s.p.cs,bDd,bDd,bDd,bV 111 Aq s.p.st,bV 56 AK s.p.ca,bV 122 At s.p.mi,bV 114 B8 s.p.me,bDd,⟨[],118,.dead,X⟩,bV 3 A7 s.p.dr,bV 3 A7 s.p.tg,⟨[.os 4 11 0<|M s.p.cs,.xl .str s.p.os,.xl Ad s.p.ks,.xl AZ s.p.gs,.xl Ae s.p.bs,.v<|ag J s.p.tk,.v<|.bool s.p.up,.xl AK s.p.ls,.v<|ag J s.p.se,.xl (.int aw) s.p.fl,.xl Ag s.p.ra,.v<|ag J s.p.nx,.os 8 4 0<|M s.p.st,.os 9 5 0<|M s.p.ca,.os 10 3 0<|M s.p.mi,.os 11 3 0<|M s.p.me,.xl Ac s.p.dm,.os 18 6 0<|M s.p.lk,.os 14 1 0<|M s.p.dr,.os 15 1 0<|M s.p.tg,.v<|ag J s.ev.ek,.v<|ag J s.ev.en,.v<|ag J s.ev.em,.v<|ag J s.ev.c1,.v<|ag J s.ev.c2,.v<|ag J s.ev.c3,.v<|ag J s.ev.c4,.v<|ag J s.ev.c5,.v<|.bool s.ev.d1,.v<|ag J s.ev.d2,.v<|ag J s.ev.d3,.v<|ag J s.ev.d4,.v<|.slice aj 0 0],93,.cl,X⟩,bDd,bV 118 B4 s.p.lk],λv b=>⟨As AK v 1,AJ v 2,AJ v 3,rB b 16 4 0 0 0 8 9 10 11 0 18 14 15,rG b⟩,oR,λs r=> {s with i:=r.i,p.ls:=r.p.ls,p.se:=r.p.se,p.fl:=r.p.fl,p.nx:=r.p.nx,p.lk:=r.p.lk},λs=>s,λ_ s=>s,[.exit 0],Zo,ZW,Xw⟩
abbrev vp:=QC.run
abbrev akS:=QC.exn
def lS:aN:=[YI,XT,aBq,aaf]
def asN:Ap:=Fx lS (la 9 func23 CI<|l0 lS) [⟨52,Zg.m,aG8⟩]
def aoe:Rq ZW oR:=by
 intro s hI;refine ⟨λc1=>⟨?_,λc2=>⟨A9,A9,A9,A9,A9,A9,A9,A9,ak⟩,λc2=>⟨?_,λc3=>⟨A9,A9,A9,A9,A9,A9,A9,A9,ak⟩,λc3=>⟨?_,?_,?_,A9,A9,A9,A9,A9,?_,A9,A9,ak⟩⟩⟩,λc1=>⟨A9,A9,A9,A9,A9,A9,A9,A9,ak⟩⟩
 all_goals ((obtain ⟨⟨h0,h1⟩,h2,h3,h4,h5,h6,h7⟩:=hI;simp only [AT] at c1;first|omega|exact ⟨rfl,rfl⟩ |exact h6.1.2.2|(simp only [BI,BQ,Ax];omega) |(simp only [Ax,BI,BQ,DZ];done) |(rw [(gQ h6<|D4 c3).1];have:=(gQ h6<|D4 c3).2;omega)))
def aDx:QC.Ok:={}
def aDe:QC.Pf (adu):=⟨az5,λs h=>rfl,atp,aoe⟩
def zp:=s2 (b:=bN f37 0) aDx aDe lS asN
def amN:Rs Zo akS vp (λs:Lf=>JG s.p<|s.xs.drop s.i.toNat) (λx s' (v:PK)=>x=.exit 0/\s'.p=v):=Cq aDx aDe (λs hI=>by
  obtain ⟨⟨h0,h1⟩,h2,h3,h4,h5,h6,h7⟩:=hI;refine allR_ite (λc1=>?_) λc1=>?_
  ·have c1:s.i<s.n:=A8
   have e:=(Rg h0 (show s.i<(M s.xs:Y) by omega)).1
   rw [AH (x:=s.i+1),e];refine allR_ite (λc2=>?_) λc2=>allR_ite (λc3=>?_) λc3=>?_
   ·show JG s.p _=JG s.p _
    unfold JG;rw [Hz,show Dq s.p.tk ⟨s.p.ls,s.p.se,s.p.fl,s.p.nx,s.p.lk⟩ (AU s.xs s.i)=⟨s.p.ls,s.p.se,s.p.fl,s.p.nx,s.p.lk⟩ from AD λh=>Cg.1 c2 h.1]
   ·show JG s.p _=JG s.p _
    unfold JG;rw [Hz,show Dq s.p.tk ⟨s.p.ls,s.p.se,s.p.fl,s.p.nx,s.p.lk⟩ (AU s.xs s.i)=⟨s.p.ls,s.p.se,s.p.fl,s.p.nx,s.p.lk⟩ from AD λh=>Cg.1 c3 h.2]
   ·have hx:=h4 _ (asI h0 (show s.i<(M s.xs:Y) by omega))
    have hn:=avC<|D4 c3
    rw [(gQ h6<|D4 c3).1,atv h5 hx,AH (x:=(AU s.xs s.i).1+1)]
    show JG _ _=JG s.p _
    conv=>rhs;unfold JG
    rw [Hz,show Dq s.p.tk ⟨s.p.ls,s.p.se,s.p.fl,s.p.nx,s.p.lk⟩ (AU s.xs s.i)=_ from AB ⟨D4 c2,D4 c3⟩];rfl
  ·have c1:s.n<=s.i:=A8
   refine ⟨rfl,?_⟩;rw [Dj A0];rfl)
def aGc:aD->T LV
 | [.xl (.pair (.int J) (.pair (.int J) (.pair (.int J) (.pair (.int J) (.int J))))) l,.v (ag J t)]=> .req (Cb l t=0) (.ok<|.tup [BB l t,.ki J 0])
 |_=> .no
def acE:=uS f50 aGc
def av1:VV 50 acE:=λargs vals w Z lv h1 h2 h3 h4 h=>by
 have key:∃l t,lv=.tup [.xl AK<|BB l t,.ki J 0]/\(mf args).all (λx=>x=.tup [.xl AK<|BB l t,.v<|ag J 0]):=by
  unfold acE uS upS aGc at h;split at h
  ·rename_i l t e
   obtain ⟨g1,g2⟩:=h;refine ⟨l,t,g2.symm,?_⟩;unfold mf uS upS;rw [e]
   show LV.tup [.xl AK _,.v<|ag J<|Cb _ _]=_
   rw [g1]
  ·cases h
 obtain ⟨l,t,rfl,hk⟩:=key;refine (XT args vals w Z _ h1 h2 h3 h4 hk).mono λe w' ⟨hb,v,he,ho,hr⟩=>⟨hb,v,he,?_,?_⟩
 ·simp only [okV,okL] at ho|-
  grind
 ·simp only [R,RL] at hr|-
  exact hr
structure J7 where
 p:PK
 ev:EW
def QR (s:J7):aD:=[.own 16 0]
def UK (s:J7):aE:=[bDd,bDd,zB,bDd,bV 73 AX s.p.cs,bV 62 AK s.p.ls,bV 5 (.int aw) s.p.fl,bV 141 Ag s.p.ra,bV 111 Aq s.p.st,bV 56 AK s.p.ca,bV 122 At s.p.mi,bV 114 B8 s.p.me,bV 58 Ac s.p.dm,bV 118 B4 s.p.lk,bV 3 A7 s.p.dr,bV 3 A7 s.p.tg,⟨[.os 4 11 0<|M s.p.cs,.xl .str s.p.os,.xl Ad s.p.ks,.xl AZ s.p.gs,.xl Ae s.p.bs,.v<|ag J s.p.tk,.v<|.bool s.p.up,.os 5 5 0<|M s.p.ls,.v<|ag J s.p.se,.os 6 1 0<|M s.p.fl,.os 7 2 0<|M s.p.ra,.v<|ag J s.p.nx,.os 8 4 0<|M s.p.st,.os 9 5 0<|M s.p.ca,.os 10 3 0<|M s.p.mi,.os 11 3 0<|M s.p.me,.os 12 4 0<|M s.p.dm,.os 13 6 0<|M s.p.lk,.os 14 1 0<|M s.p.dr,.os 15 1 0<|M s.p.tg,.v<|ag J s.ev.ek,.v<|ag J s.ev.en,.v<|ag J s.ev.em,.v<|ag J s.ev.c1,.v<|ag J s.ev.c2,.v<|ag J s.ev.c3,.v<|ag J s.ev.c4,.v<|ag J s.ev.c5,.v<|.bool s.ev.d1,.v<|ag J s.ev.d2,.v<|ag J s.ev.d3,.v<|ag J s.ev.d4,.v<|.slice aj 0 0],93,.cl,X⟩,bDd]
def xM (s:J7):JC:=(⟨{s.p with ls:=BB (AL s.p.ls) s.p.tk},s.ev⟩:JC)
def fY (s:J7):Lf:=letI b:=BB (AL s.p.ls) s.p.tk;letI c:=AL<|DS s.p.cs s.p.tg<|M s.p.tg;letI a:=KY c s.p.os s.p.ks s.p.gs s.p.bs b (AL s.p.ra) (AL s.p.dm) s.p.tk s.p.nx;(⟨a,(M a:Y),0,{s.p with ls:=b,fl:=AL s.p.fl,ra:=deR c s.p.os s.p.ks s.p.gs s.p.bs b (AL s.p.ra) (AL s.p.dm) s.p.tk s.p.nx,dm:=AL s.p.dm},s.ev⟩:Lf)
structure U2 where
 p:PK
 ev:EW
def acX (s:U2):LV:=.v<|.tuple #[]
def adO (s:U2):aE:=[bDd,bDd,zB,bDd,bV 73 AX s.p.cs,bDd,bDd,bDd,bV 111 Aq s.p.st,bV 56 AK s.p.ca,bV 122 At s.p.mi,bV 114 B8 s.p.me,bDd,bDd,bV 3 A7 s.p.dr,bV 3 A7 s.p.tg,⟨[.os 4 11 0<|M s.p.cs,.xl .str s.p.os,.xl Ad s.p.ks,.xl AZ s.p.gs,.xl Ae s.p.bs,.v<|ag J s.p.tk,.v<|.bool s.p.up,.xl AK s.p.ls,.v<|ag J s.p.se,.xl (.int aw) s.p.fl,.xl Ag s.p.ra,.v<|ag J s.p.nx,.os 8 4 0<|M s.p.st,.os 9 5 0<|M s.p.ca,.os 10 3 0<|M s.p.mi,.os 11 3 0<|M s.p.me,.xl Ac s.p.dm,.xl B4 s.p.lk,.os 14 1 0<|M s.p.dr,.os 15 1 0<|M s.p.tg,.v<|ag J s.ev.ek,.v<|ag J s.ev.en,.v<|ag J s.ev.em,.v<|ag J s.ev.c1,.v<|ag J s.ev.c2,.v<|ag J s.ev.c3,.v<|ag J s.ev.c4,.v<|ag J s.ev.c5,.v<|.bool s.ev.d1,.v<|ag J s.ev.d2,.v<|ag J s.ev.d3,.v<|ag J s.ev.d4,.v<|.slice aj 0 0],93,.cl,X⟩,bDd]
def Yi (s:J7):T U2:=letI a:=DS s.p.cs s.p.tg<|M s.p.tg;letI b:=BB (AL s.p.ls) s.p.tk;letI c:=vp<|fY s;letI d:=AL s.p.dm;.br (!s.p.up) (.rz s.p.ls<|.rz s.p.fl<|.rz s.p.ra<|.rz s.p.dm<|.rz s.p.lk<|.pd s.p<|.ok<|⟨{s.p with ls:=AL s.p.ls,fl:=AL s.p.fl,ra:=AL s.p.ra,dm:=AL s.p.dm,lk:=AL s.p.lk},s.ev⟩)<|.rz s.p.ls<|.req (Cb (AL s.p.ls) s.p.tk=0)<|.rl s.p.cs<|.rl s.p.fl<|.rl s.p.ra<|.pb s.p<|.req (au4<|xM s)<|.rv (.xl AK b)<|.rv (.os 7 2 0<|M s.p.ra)<|.rv (.os 12 4 0<|M s.p.dm)<|.rv (.v<|ag J s.p.tk)<|.rv (.v<|ag J s.p.nx)<|.rz a<|.rz s.p.ra<|.rz s.p.dm<|.req (Gg d s.p.tk/\M d<=19)<|.br ((deE (AL a) s.p.os s.p.ks s.p.gs s.p.bs b (AL s.p.ra) d s.p.tk s.p.nx) !=0) (.rz s.p.fl<|.rz s.p.ra<|.rz s.p.dm<|.rz s.p.lk<|.pd s.p<|.ok<|⟨{s.p with ls:=b,fl:=AL s.p.fl,ra:=AL s.p.ra,dm:=AL s.p.dm,lk:=AL s.p.lk},s.ev⟩)<|.rz s.p.fl<|.rz s.p.dm<|.rl s.p.cs<|.rl s.p.st<|.rl s.p.ca<|.rl s.p.mi<|.rl s.p.me<|.rl s.p.lk<|.rl s.p.dr<|.rl s.p.tg<|.req (QC.q<|fY s)<|.rz c.p.lk<|.pd s.p<|.ok<|⟨{s.p with ls:=c.p.ls,se:=c.p.se,fl:=c.p.fl,ra:=deR (AL a) s.p.os s.p.ks s.p.gs s.p.bs b (AL s.p.ra) d s.p.tk s.p.nx,nx:=c.p.nx,dm:=d,lk:=AL c.p.lk},s.ev⟩
def af6 {t:Y}{xs:aL}{s:SN}:∀k,k<=M xs->DU t xs s k=(xs.take k).foldl (Dq t) s
 |0,_=>rfl
 |k+1,h=>by
  rw [DU,af6 k A0,VF A0,List.foldl_append];rw [show AU xs (k:Y)=xs[k]' A0 from Jw A0];rfl
def agF {p:PK}:p.Ic=p.dL.foldl (Dq p.tk) p.Ep:=by
 unfold PK.Ic;rw [af6 _<|Ak _,DA]
def ags {l:aL}{t:Y}(h:Ao l=U) (ht:0<=t/\t<=1000000):Cb l t=0:=by
 have e:Hp l t=true:=by unfold Hp;rw [h,B6.2 A0];rfl
 exact AB e
def RQ.wd {p:PK}(h:RQ p) (hv:VP p):Gg p.dm p.tk/\M p.dm<=19:=by
 have hg:=(Ci.1 hv.site).1
 have ht:=hv.tk
 refine ⟨⟨λx hx=>?_,A0,A0⟩,by rw [hv.dm];omega⟩
 have:=h.dm x hx
 unfold Ft at this;simp only [AP,B6] at this;omega
def uy (s:J7):Prop:=(VP s.p/\RQ s.p)/\VK s.p.se s.p.fl/\Ao s.p.ls=U
def T5 (s:J7):U2:=⟨PK.AI s.p,s.ev⟩
def Mv:CF J7 U2:=⟨QR,UK,λv b=>⟨rF b,rG b⟩,uy,[0,1,3,17],[.pc 16 7 AK,.kb 5,.pc 16 9<|.int aw,.kb 6,.pc 16 10 Ag,.kb 7,.pc 16 16 Ac,.kb 12,.pc 16 17 B4,.kb 13],acX,adO,T5⟩
abbrev au2 (s:J7):Prop:=uy s/\QR s=QR s/\UK s=UK s
def SB:aN:=[YI,av1,aBq,aaf]
def aFF:Ap:=Fx SB (la 9 func37 zp<|la 9 func23 CI<|l0 SB) [⟨52,Zg.m,aG8⟩]
def aaX:aKC:=addL 37 18 9 (QC.lp)<|addL 23 0 9 (FZ.lp)<|unrL prog AM SB 20 2
def ahF:LLok prog AM aaX:=addL_ok func37 rfl AO zp<|addL_ok func23 rfl AO CI<|unrL_ok<|gk SB
def arH (s:J7):((stepH prog AM SB aaX aFF).k 37 (QR s)<|UK s).bind (λq=>canT (M<|UK s) [0] [.pc 16 7 AK,.kb 5,.pc 16 9<|.int aw,.kb 6,.pc 16 10 Ag,.kb 7,.pc 16 16 Ac,.kb 12,.pc 16 17 B4,.kb 13] .normal (q.1::QR s) q.2)=(Yi s).mp (λs2=>⟨.normal,M (QR s)+1,[acX s2],adO s2,U⟩):=AO
def aoR (s:J7) (hE:uy s):(Yi s).all (λq=>q=T5 s):=by
 obtain ⟨⟨hV,hR⟩,hK,hls⟩:=hE
 have hs:=Ci.1 hV.site
 have ht:=hV.Em
 have hwd:=hR.wd hV
 have htk:=hV.tk
 have hx:Cb s.p.ls s.p.tk=0:=ags hls htk
 have hxs:CM s.p.ls s.p.tk=BB s.p.ls s.p.tk:=AB hx
 have hA:bE (xM s):=⟨ht,by show M s.p.tg<=1000;omega⟩
 have q2:DS s.p.cs s.p.tg (M s.p.tg)=s.p.EF:=rfl
 have e1:deE s.p.EF s.p.os s.p.ks s.p.gs s.p.bs (BB s.p.ls s.p.tk) s.p.ra s.p.dm s.p.tk s.p.nx=s.p.dE:=by unfold PK.dE;rw [hxs]
 have e2:deR s.p.EF s.p.os s.p.ks s.p.gs s.p.bs (BB s.p.ls s.p.tk) s.p.ra s.p.dm s.p.tk s.p.nx=s.p.dR:=by unfold PK.dR;rw [hxs]
 have e3:KY s.p.EF s.p.os s.p.ks s.p.gs s.p.bs (BB s.p.ls s.p.tk) s.p.ra s.p.dm s.p.tk s.p.nx=s.p.dL:=by unfold PK.dL;rw [hxs]
 have hst:fY s=⟨s.p.dL,(M s.p.dL:Y),0,{s.p with ls:=BB s.p.ls s.p.tk,ra:=s.p.dR},s.ev⟩:=by
  unfold fY;simp only [EJ,q2,e2,e3]
 have hB:Zo ⟨s.p.dL,(M s.p.dL:Y),0,{s.p with ls:=BB s.p.ls s.p.tk,ra:=s.p.dR},s.ev⟩:=by
  refine ⟨rfl,rfl,?_,λx hx=>?_,htk,hK,?_⟩
  ·have:=lI (p:=s.p);show (M s.p.dL:Y)<=16;omega
  ·have:=q9 (p:=s.p) x hx;omega
  ·have:=hR.lk;show (M s.p.lk:Y)<=17000000+0;omega
 have q3:=(amN _ hB).2
 have q3:(vp ⟨s.p.dL,(M s.p.dL:Y),0,{s.p with ls:=BB s.p.ls s.p.tk,ra:=s.p.dR},s.ev⟩).p=JG {s.p with ls:=BB s.p.ls s.p.tk,ra:=s.p.dR} s.p.dL:=q3
 unfold Yi;simp only [EJ,XM,q2,e1,e2,hst,q3];refine ⟨λc=>?_,λc=>?_⟩
 ·have c:s.p.up=false:=FW
  repeat (refine ⟨Cm,?_⟩)
  show _=_
  unfold T5;rw [show PK.AI s.p=s.p from AB c]
 have hu:¬s.p.up=false:=by intro h;rw [h] at c;cases c
 refine ⟨A0,hx,?_⟩
 repeat (refine ⟨AG,?_⟩)
 refine ⟨⟨hA,rfl,rfl⟩,rfl,rfl,rfl,rfl,rfl,?_⟩
 repeat (refine ⟨Cm,?_⟩)
 refine ⟨λc1=>?_,λc1=>?_⟩
 ·have c1:s.p.dE≠0:=Cg.1 c1
  repeat (refine ⟨AG,?_⟩)
  show _=_
  unfold T5;rw [show PK.AI s.p={s.p with ls:=CM s.p.ls s.p.tk} by unfold PK.AI;rw [AD hu,AB c1],hxs]
 ·have c1:¬s.p.dE≠0:=λh=>aa6
  repeat (refine ⟨AG,?_⟩)
  refine ⟨⟨hB,rfl,rfl⟩,?_⟩
  repeat (refine ⟨AG,?_⟩)
  show _=_
  unfold T5;rw [show PK.AI s.p=_ by unfold PK.AI;rw [AD hu,AD c1],agF]
  unfold JG PK.Ep;rw [hxs]
def P8:CSound prog AM 37 Mv.m:=CF.sound (D:=Mv) (t:=Yi) (gk SB) ahF aFF.h arH λs hE=>⟨aoR s hE⟩
def EB {α:Type}(f:aC->α->α):aC->α->aC->α
 |_,s,0=>s
 |i,s,n+1=>EB f (i+1) (f i s) n
def aAT {α:Type}{f:aC->α->α}:∀ {n i:aC}{s:α},EB f i s (n+1)=f (i+n) (EB f i s n)
 |0,_,_=>rfl
 |n+1,i,s=>by
  rw [EB,aAT (n:=n) (i:=i+1),show i+1+n=i+(n+1) by omega]
  rfl
def XD {α:Type}{f:aC->α->α}{F:aC->α}(h:∀k,F (k+1)=f k (F k)):∀n,EB f 0 (F 0) n=F n
 |0=>rfl
 |n+1=>by rw [aAT,XD h n,h,Dc]
def Jn {α:Type}{f:aC->α->α}{s:α}{i n:Y}(h0:0<=i) (h:i<n):EB f i.toNat s (n-i).toNat=EB f (i+1).toNat (f i.toNat s) (n-(i+1)).toNat:=by
 rw [show (n-i).toNat=(n-(i+1)).toNat+1 by omega,EB,show (i+1).toNat=i.toNat+1 by omega]
def gH {α:Type}{f:aC->α->α}{s:α}{i n:Y}(h:n<=i):EB f i.toNat s (n-i).toNat=s:=by
 rw [show (n-i).toNat=0 by omega]
 rfl
def aAS {α:Type}{f:aC->List α->List α}(h:∀k s,M (f k s)=M s):∀ {n i:aC}{s:List α},M (EB f i s n)=M s
 |0,_,_=>rfl
 |n+1,i,s=>(aAS h (n:=n) (i:=i+1)).trans<|h i s
def tk1 (gs:aG) (i:Y) (_:aC) (st:bc):bc:=C3 gs st i 8 0 0
def anO {gs:aG}{st:bc}{i:Y}:∀n,EB (tk1 gs i) 0 st n=JF gs st i n:=XD (F:=JF gs st i) λ_=>rfl
def cnt1 (gs:aG) (dr:aB) (t:Y) (k:aC) (st:bc):bc:=if FR t (gi dr k)=0/\FR (t+1) (gi dr k)=0 then JF gs st k (BH (t+1) (gi dr k)-BH t (gi dr k)).toNat else st
def atQ {gs:aG}{dr:aB}{t:Y}{st:bc}:∀n,EB (cnt1 gs dr t) 0 st n=HD gs dr t st n:=XD (F:=HD gs dr t st) λ_=>rfl
def ayz {gs:aG}{ca:aKE}{s:DW}:∀n,EB (λk d=>ES gs ca d (k:Y)) 0 s n=Cl gs ca s n:=XD (F:=Cl gs ca s) λ_=>rfl
def V9 (gs:aG) (tg am:aB) (k:aC) (cs:aJ):aJ:=if gi tg k>=(AY cs k).2.2.1 then cs else
  if (an (M am=M gs)&&Cw (cs.set k<|FP (AY cs k)<|gi tg k) gs am)=U then cs.set k (FP (AY cs k)<|gi tg k) else cs
def agI {gs:aG}{tg am:aB}{cs:aJ}:∀n,EB (V9 gs tg am) 0 cs n=Cp gs tg am cs n:=XD (F:=Cp gs tg am cs) λ_=>rfl
def aEy {c:Ca}{m:Mi}{p al:Y}:0<=Dh c m p al/\Dh c m p al<=7:=by
 unfold Dh;split
 ·rename_i hB
  obtain ⟨hc,_,h1,h2,_⟩:=gq.1 hB
  have hc':=S1.1 hc
  unfold GJ;split
  ·omega
  ·exact vw ⟨A0,A0⟩ ⟨h1,h2⟩
 ·omega
def aap {c:Ca}{m:Mi}{p al:Y}:IntKind.u64.wrap (Dh c m p al)=Dh c m p al:=by
 have:=aEy (c:=c) (m:=m) (p:=p) (al:=al)
 exact aI9
variable {gs : List Ch} {ca : List Ca} {st : List St} {mi : List Mi} {me : List Me} {dw : List Int} {i : Int}
def az1 (h:(BE ca i).2.2.1=0):ES gs ca ⟨st,mi,me,dw⟩ i=⟨st,mi,me,dw⟩:=AB h
def az0 (h:¬(BE ca i).2.2.1=0) (h2:¬HG (BE ca i) (Bo mi i) (AF gs i).2.2.1 (BL (AF gs i)<|B1 st i)=0):ES gs ca ⟨st,mi,me,dw⟩ i=⟨st,mi,me,dw⟩:=by
 unfold ES
 grind
def Sp (h:¬(BE ca i).2.2.1=0) (h2:HG (BE ca i) (Bo mi i) (AF gs i).2.2.1 (BL (AF gs i)<|B1 st i)=0):
  ES gs ca ⟨st,mi,me,dw⟩ i=⟨if E7 (BE ca i) (Bo mi i) (AF gs i).2.2.1 (BL (AF gs i)<|B1 st i)>BL (AF gs i) (B1 st i) then C3 gs st i 6 2 0 else st,mi.set i.toNat<|HR (BE ca i) (Bo mi i) (AF gs i).2.2.1<|BL (AF gs i)<|B1 st i,
   if Eu (Ez me i) (E7 (BE ca i) (Bo mi i) (AF gs i).2.2.1<|BL (AF gs i)<|B1 st i) (cnt<|Dh (BE ca i) (Bo mi i) (AF gs i).2.2.1<|BL (AF gs i)<|B1 st i)=0 then me.set i.toNat (Fu (Ez me i) (E7 (BE ca i) (Bo mi i) (AF gs i).2.2.1<|BL (AF gs i)<|B1 st i)<|cnt<|Dh (BE ca i) (Bo mi i) (AF gs i).2.2.1<|BL (AF gs i)<|B1 st i) else me,dw.set i.toNat<|E7 (BE ca i) (Bo mi i) (AF gs i).2.2.1<|BL (AF gs i)<|B1 st i⟩:=by
 unfold ES
 grind
def abv (t d:Y):0<=BH t d/\BH t d<=2000000:=by
 unfold BH;split
 ·rename_i h
  simp only [AP,B6] at h
  have h1:0<=t*(1000000+d):=Gl A0 A0
  have h2:t*(1000000+d)<=1000000*2000000:=Int.mul_le_mul A0 A0 A0 A0
  omega
 ·omega
end Go.Proofs.YtcdkianomnhhmaaGreatDoor
namespace Go.Proofs.YtcdkianomnhhmaaGreatDoor
set_option maxRecDepth 100000
set_option maxHeartbeats 4000000
open Go.Proofs.Tryz
open Go.Sx
def aBQ:aD->T LV
 | [.v (ag J r),.v (ag J m)]=> .req ((0<=r/\r<=2000000)/\0<=m/\m<=3000000) (.ok<|.v<|ag J<|m*r / 1000000)
 |_=> .no
def axO:aN:=[]
def anh:=vo (S:=aBQ) func127 axO kN (λargs lv h=>by
 unfold aBQ at h;split at h
 ·rename_i r m
  refine Al (.req ((1000000:Y)≠0)<|.ok<|AA<|(AA<|m*r).tdiv 1000000) ?_;obtain ⟨⟨⟨h1,h2⟩,h3,h4⟩,rfl⟩:=h
  have hm:0<=m*r/\m*r<=6000000000000:=⟨Gl h3 h1,FV (NG h2 h3) A0⟩
  refine ⟨A0,An (λz=>LV.v<|ag J z) ?_⟩
  rw [AH (x:=m*r),GV hm.1];exact AH
 ·cases h)
def aFy:aD->T LV
 | [.v (ag J t),.v (ag J d)]=> .tu #[BH t d,FR t d]
 |_=> .no
def asH:aN:=[aBp,anh]
def T7:=vo (S:=aFy) func89 asH kN (λargs lv h=>by
 unfold aFy at h;split at h
 ·rename_i t d
  refine Al (letI a:=AA<|1000000+d;.br ((!(inB t 0 1000000)) ||((an<|d<(-200)) ||(an<|d>200))) (.tu #[(0:Y),(1:Y)])<|.req ((0<=a/\a<=2000000)/\0<=t/\t<=3000000)<|.tu #[ag J<|t*a / 1000000,(0:Y)]) ?_;obtain rfl:=h;unfold BH FR;refine ⟨λc=>?_,λc=>?_⟩
  ·have:(inB t 0 1000000&&inB d (-200) 200)=false:=by
    cases ht:inB t 0 1000000
    ·rfl
    ·simp [ht] at c;simp [inB];omega
   rw [this];rfl
  ·have hh:inB t 0 1000000=U/\-200<=d/\d<=200:=by
    cases ht:inB t 0 1000000
    ·grind
    ·grind
   have:(inB t 0 1000000&&inB d (-200) 200)=true:=by rw [hh.1];simp [inB];omega
   have ht:=B6.1 hh.1
   rw [this,AH (x:=1000000+d)];exact ⟨⟨⟨A0,A0⟩,A0,A0⟩,rfl⟩
 ·cases h)
def aAy:aD->T LV
 | [.v (ag .u64 n)]=> .req (0<=n/\n<=7) (.ok<|cnt n)
 |_=> .no
def agh:BO prog AM (specsOf []) (inl prog AM (specsOf []) (unrL prog AM (specsOf []) 20 2) 9) noLoops f93 [.v<|ag .u64 0]=.ok (cnt 0):=AO
def agf:BO prog AM (specsOf []) (inl prog AM (specsOf []) (unrL prog AM (specsOf []) 20 2) 9) noLoops f93 [.v<|ag .u64 1]=.ok (cnt 1):=AO
def agd:BO prog AM (specsOf []) (inl prog AM (specsOf []) (unrL prog AM (specsOf []) 20 2) 9) noLoops f93 [.v<|ag .u64 2]=.ok (cnt 2):=AO
def agc:BO prog AM (specsOf []) (inl prog AM (specsOf []) (unrL prog AM (specsOf []) 20 2) 9) noLoops f93 [.v<|ag .u64 3]=.ok (cnt 3):=AO
def agb:BO prog AM (specsOf []) (inl prog AM (specsOf []) (unrL prog AM (specsOf []) 20 2) 9) noLoops f93 [.v<|ag .u64 4]=.ok (cnt 4):=AO
def aga:BO prog AM (specsOf []) (inl prog AM (specsOf []) (unrL prog AM (specsOf []) 20 2) 9) noLoops f93 [.v<|ag .u64 5]=.ok (cnt 5):=AO
def agZ:BO prog AM (specsOf []) (inl prog AM (specsOf []) (unrL prog AM (specsOf []) 20 2) 9) noLoops f93 [.v<|ag .u64 6]=.ok (cnt 6):=AO
def agY:BO prog AM (specsOf []) (inl prog AM (specsOf []) (unrL prog AM (specsOf []) 20 2) 9) noLoops f93 [.v<|ag .u64 7]=.ok (cnt 7):=AO
def ajt {n:Y}(h1:0<=n) (h2:n<=7):BO prog AM (specsOf []) (inl prog AM (specsOf []) (unrL prog AM (specsOf []) 20 2) 9) noLoops f93 [.v<|ag .u64 n]=.ok (cnt n):=by
 rcases eight h1 h2 with e|e|e|e|e|e|e|e
 ·rw [e];exact agh
 ·rw [e];exact agf
 ·rw [e];exact agd
 ·rw [e];exact agc
 ·rw [e];exact agb
 ·rw [e];exact aga
 ·rw [e];exact agZ
 ·rw [e];exact agY
def SP:VV 93 (uS f93 aAy):=fo func93 rfl (specs_ok (l:=[]) trivial) (inl_sound (specs_ok (l:=[]) trivial) (unrL_ok<|specs_ok (l:=[]) trivial) 9) (no_loops AO) (λargs lv h=>by
 unfold aAy at h;split at h
 ·rename_i n
  simp only [canL,canX];rw [ajt h.1.1 h.1.2];exact h.2
 ·cases h)
def LD:aN:=[]
def amd:aD->T LV:=λl=>BO prog AM LD kN noLoops f183<|canL l
def anD:=vo (S:=amd) func183 LD kN (λargs lv h=>by
 refine ⟨?_⟩
 assumption)
def amf:aD->T LV:=λl=>BO prog AM LD kN noLoops f211<|canL l
def anG:=vo (S:=amf) func211 LD kN (λargs lv h=>by
 refine ⟨?_⟩
 assumption)
def au7:aD->T LV:=λl=>BO prog AM LD kN noLoops f209<|canL l
def abl:=vo (S:=au7) func209 LD kN (λargs lv h=>by
 refine ⟨?_⟩
 assumption)
def acz:aN:=[anG]
def au6:aD->T LV:=λl=>BO prog AM (acz) kN noLoops f210<|canL l
def abk:=vo (S:=au6) func210 acz kN (λargs lv h=>by
 refine ⟨?_⟩
 assumption)
def au5:aD->T LV:=λl=>BO prog AM LD kN noLoops f212<|canL l
def aan:=vo (S:=au5) func212 LD kN (λargs lv h=>by
 refine ⟨?_⟩
 assumption)
def aub:aD->T LV:=λl=>BO prog AM LD kN noLoops f213<|canL l
def aam:=vo (S:=aub) func213 LD kN (λargs lv h=>by
 refine ⟨?_⟩
 assumption)
def acy:aN:=[abl,abk,aan,aam]
def amc:aD->T LV:=λl=>BO prog AM (acy) kN noLoops f184<|canL l
def an7:=vo (S:=amc) func184 acy kN (λargs lv h=>by
 refine ⟨?_⟩
 assumption)
def aBg:aD->T LV
 | [.xq 8 q0,.v (ag J p2),.v (ag J al)]=>(match ([q0 0,q0 1,q0 2,q0 3,q0 4,q0 5,q0 6,q0 7]:aD) with
  | [.v (ag J k),.v (ag J ph),.v (ag J mx),.v (ag J nd),.v (ag J dl),.xl (.int J) pil,.v (ag J tk),.v (ag J got)]=> .req (Ey (k,ph,mx,nd,dl)=U/\GQ (pil,tk,got)=U/\1<=p2/\p2<=7/\0<=al) (.tu #[Ds (k,ph,mx,nd,dl) (pil,tk,got) p2 al,GJ (k,ph,mx,nd,dl) (pil,tk,got) p2 al])
  |_=> .no)
 |_=> .no
def acw:aN:=[anD,an7,abl,abk,aan,aam]
def ak3 (k ph mx nd dl:Y) (pil:aB) (tk got p2 al:Y):letI a:=BG J ph p2;letI c:=AA<|0-a;letI d:=(AA<|(M pil:Y)-dl);letI b:=gi pil d;BO prog AM (acw) kN noLoops f131 [xQ 8 [k,ph,mx,nd,dl,.xl A7 pil,tk,got],p2,al]=.br (((if k==2 then BG J a c else BG J ph p2)==0) ||(an<|got>=nd)) (.tu #[(0:Y),(0:Y)]) (.br (k==(0:Y)) (.br ((if al<mx then al else mx)==0) (.tu #[(0:Y),(0:Y)])<|.tu #[ag J (if al<mx then al else mx),ag J (if k==2 then BG J a c else BG J ph p2)])<|.br (k==(2:Y)) (.br ((if al<mx then al else mx)==0) (.tu #[(0:Y),(0:Y)])<|.tu #[ag J (if al<mx then al else mx),ag J (if k==2 then BG J a c else BG J ph p2)])<|.br (k==(1:Y)) (.br (dl==0) (.br ((if al<mx then al else mx)==0) (.tu #[(0:Y),(0:Y)])<|.tu #[ag J (if al<mx then al else mx),ag J (if k==2 then BG J a c else BG J ph p2)])<|.br (an<|d>=0) (.ix d (M pil)<|.br ((if (if b<al then b else al)<mx then if b<al then b else al else mx)==0) (.tu #[(0:Y),(0:Y)])<|.tu #[ag J (if (if b<al then b else al)<mx then if b<al then b else al else mx),ag J (if k==2 then BG J a c else BG J ph p2)])<|.br ((if (if (0:Y)<al then 0 else al)<mx then if (0:Y)<al then 0 else al else mx)==0) (.tu #[(0:Y),(0:Y)])<|.tu #[ag J (if (if (0:Y)<al then 0 else al)<mx then if (0:Y)<al then 0 else al else mx),ag J (if k==2 then BG J a c else BG J ph p2)])<|.br (k==(3:Y)) (.req (dl≠0)<|.req ((2:Y)≠0)<|.br (((AA<|tk.tdiv dl).tmod 2)==1) (.br ((if (0:Y)<mx then 0 else mx)==0) (.tu #[(0:Y),(0:Y)])<|.tu #[ag J (if (0:Y)<mx then 0 else mx),ag J (if k==2 then BG J a c else BG J ph p2)])<|.br ((if al<mx then al else mx)==0) (.tu #[(0:Y),(0:Y)])<|.tu #[ag J (if al<mx then al else mx),ag J (if k==2 then BG J a c else BG J ph p2)])<|.br (k==(4:Y)) (.br (al==0) (.br ((if (0:Y)<mx then 0 else mx)==0) (.tu #[(0:Y),(0:Y)])<|.tu #[ag J (if (0:Y)<mx then 0 else mx),ag J (if k==2 then BG J a c else BG J ph p2)])<|.br ((if mx<mx then mx else mx)==0) (.tu #[(0:Y),(0:Y)])<|.tu #[ag J (if mx<mx then mx else mx),ag J (if k==2 then BG J a c else BG J ph p2)])<|.no /-call of v -/):=AO
def anF := vo (S:=aBg) func131 acw kN (λargs lv h=>by
 refine ⟨?_⟩;unfold aBg at h;split at h
 ·split at h
  case h_2=>cases h
  rename_i heq0;simp only [canL,canX];rw [DB (n:=8) heq0];simp only [canL,canX];rw [ak3];rename_i p2 al _ k ph mx nd dl pil tk got;obtain ⟨⟨hc,hm,hp1,hp2,hal⟩,rfl⟩:=h
  have hc:=S1.1 hc
  have hm:=Wy.1 hm
  simp only at hc hm
  have hl:=ael (a:=ph) (b:=p2) ⟨A0,A0⟩ ⟨A0,A0⟩
  have e0:(if (k==2)=U then BG J (BG J ph p2) (AA<|0-BG J ph p2) else BG J ph p2)=IS k ph p2:=by
   have hw:AA (0-BG J ph p2)=-land ph p2:=by
    have:BG J ph p2=land ph p2:=rfl
    rw [this,AH];omega
   rw [hw];unfold IS land;simp only [CO]
  have ew:AA ((M pil:Y)-dl)=(M pil:Y)-dl:=AH
  have et:AA (tk.tdiv dl)=tk.tdiv dl:=by
   rw [GV A0]
   have h1:0<=tk / dl:=OS A0 A0
   have h2:tk / dl<=tk:=Qq _ A0
   exact AH
  have hz:(IS k ph p2=0\/nd<=got)->Ds (k,ph,mx,nd,dl) (pil,tk,got) p2 al=0:=λh=>by unfold Ds;rw [AB h]
  have hn:¬(IS k ph p2=0\/nd<=got)->Ds (k,ph,mx,nd,dl) (pil,tk,got) p2 al=min mx (FH (k,ph,mx,nd,dl) (pil,tk,got) al):=λh=>by unfold Ds;rw [AD h]
  have w0:k≠1->k≠3->k≠4->FH (k,ph,mx,nd,dl) (pil,tk,got) al=al:=λh1 h2 h3=>by simp [FH,h1,h2,h3]
  have w1a:k=1->dl=0->FH (k,ph,mx,nd,dl) (pil,tk,got) al=al:=λh1 h2=>W9
  have w1b:k=1->dl≠0->0<=(M pil:Y)-dl->FH (k,ph,mx,nd,dl) (pil,tk,got) al=min al (gi pil<|(M pil:Y)-dl):=λh1 h2 h3=>by
   simp only [FH,h1,h2,BP,EZ,VC,Jc];rw [AB h3];rfl
  have w1c:k=1->dl≠0->(M pil:Y)-dl<0->FH (k,ph,mx,nd,dl) (pil,tk,got) al=min al 0:=λh1 h2 h3=>by
   simp only [FH,h1,h2,BP,EZ,VC,Jc];rw [AD A0]
  have w3a:k=3->(tk.tdiv dl).tmod 2=1->FH (k,ph,mx,nd,dl) (pil,tk,got) al=0:=λh1 h2=>W9
  have w3b:k=3->¬(tk.tdiv dl).tmod 2=1->FH (k,ph,mx,nd,dl) (pil,tk,got) al=al:=λh1 h2=>W9
  have w4a:k=4->al=0->FH (k,ph,mx,nd,dl) (pil,tk,got) al=0:=λh1 h2=>W9
  have w4b:k=4->al≠0->FH (k,ph,mx,nd,dl) (pil,tk,got) al=mx:=λh1 h2=>W9
  have ho1:Ds (k,ph,mx,nd,dl) (pil,tk,got) p2 al=0->GJ (k,ph,mx,nd,dl) (pil,tk,got) p2 al=0:=λh=>by unfold GJ;rw [AB h]
  have ho2:Ds (k,ph,mx,nd,dl) (pil,tk,got) p2 al≠0->GJ (k,ph,mx,nd,dl) (pil,tk,got) p2 al=IS k ph p2:=λh=>by unfold GJ;rw [AD h]
  have fin:∀a o:Y,a=Ds (k,ph,mx,nd,dl) (pil,tk,got) p2 al->o=GJ (k,ph,mx,nd,dl) (pil,tk,got) p2 al->LV.v (.tuple #[ag J a,ag J o])=LV.v (.tuple #[ag J<|Ds (k,ph,mx,nd,dl) (pil,tk,got) p2 al,ag J<|GJ (k,ph,mx,nd,dl) (pil,tk,got) p2 al]):=λa o h1 h2=>tw
  simp only [e0,ew,et]
  clear e0 ew hl et
  generalize Ds (k,ph,mx,nd,dl) (pil,tk,got) p2 al=qA at*;generalize GJ (k,ph,mx,nd,dl) (pil,tk,got) p2 al=qO at*;generalize FH (k,ph,mx,nd,dl) (pil,tk,got) al=qw at*;generalize IS k ph p2=qc at*;generalize gi pil ((M pil:Y)-dl)=qg at*;refine ⟨λc1=>?_,λc1=>?_⟩
  ·simp only [CO,C4,ne_eq,C6,F6,AT,CX,Jc,NB] at*
   refine fin _ _ ?_ ?_<;>(clear fin w0 w1a w1b w1c w3a w3b w4a w4b;omega)
  ·refine ⟨λc2=>?_,λc2=>?_⟩
   ·refine ⟨λc3=>?_,λc3=>?_⟩
    ·exact dD
    ·exact dD
   ·refine ⟨λc3=>?_,λc3=>?_⟩
    ·refine ⟨λc4=>?_,λc4=>?_⟩
     ·exact dD
     ·exact dD
    ·refine ⟨λc4=>?_,λc4=>?_⟩
     ·refine ⟨λc5=>?_,λc5=>?_⟩
      ·refine ⟨λc6=>?_,λc6=>?_⟩
       ·exact cf
       ·exact cf
      ·refine ⟨λc6=>?_,λc6=>?_⟩
       ·refine ⟨?_,?_⟩
        ·simp only [CO,C4,ne_eq,C6,F6,AT,CX,Jc,NB] at*
         (first|decide|(clear fin w0 w3a w3b w4a w4b;omega))
        ·exact aIB
       ·exact aIB
     ·refine ⟨λc5=>?_,λc5=>?_⟩
      ·refine ⟨?_,?_⟩
       ·exact aHc
       ·refine ⟨?_,?_⟩
        ·exact aHc
        ·refine ⟨λc6=>?_,λc6=>?_⟩
         ·exact aIx
         ·exact aIx
      ·refine ⟨λc6=>?_,λc6=>?_⟩
       ·refine ⟨λc7=>?_,λc7=>?_⟩
        ·exact aIy
        ·exact aIy
       ·exfalso
        simp only [CO,C4,ne_eq,C6,F6,AT,CX,Jc,NB] at*
        clear fin hz hn ho1 ho2 w0 w1a w1b w1c w3a w3b w4a w4b
        omega
 ·cases h)
def aBZ:aD->T LV
 | [.xq 8 q0,.v (ag J al),.v (ag J am),.v (ag J on)]=>(match ([q0 0,q0 1,q0 2,q0 3,q0 4,q0 5,q0 6,q0 7]:aD) with
  | [.v (ag J k),.v (ag J ph),.v (ag J mx),.v (ag J nd),.v (ag J dl),.xl (.int J) pil,.v (ag J tk),.v (ag J got)]=> .req (GQ (pil,tk,got)=U/\0<=am/\am<=80/\0<=on/\on<=7) (.ok<|.agg [.xl A7<|dwP pil al,.v<|ag J<|tk+1,.v<|ag J<|got+2300*am*cnt on])
  |_=> .no)
 |_=> .no
def acv:aN:=[SP]
def ak1 (k ph mx nd dl:Y) (pil:aB) (tk got al am on:Y):letI a:=(AA<|(((0:Y).toNat+M pil+M ([al]):aC):Y)-21);letI b:=(aq (0:Y).toNat (0:Y));letI c:=IntKind.u64.wrap on;letI d:=(AA<|(M pil:Y)+1);letI e:=(b++pil)++([al]);letI f:=AA<|got+(AA<|(AA<|2300*am)*(cnt c));BO prog AM (acv) kN noLoops f132 [xQ 8 [k,ph,mx,nd,dl,.xl A7 pil,tk,got],al,am,on]=.req (0<=(0:Y)/\(0:Y)<=d/\8*d<=2^48/\d<2^63) (.ra (0:Y).toNat (M b) ((0:Y).toNat+M pil) 8<|.ra ((0:Y).toNat+M pil) (M<|b++pil) ((0:Y).toNat+M pil+M ([al])) 8<|.br (an<|(((0:Y).toNat+M pil+M ([al]):aC):Y)>21) (.req (0<=a/\a<=(((0:Y).toNat+M pil+M ([al]):aC):Y)/\(((0:Y).toNat+M pil+M ([al]):aC):Y)<=(((0:Y).toNat+M pil+M ([al]):aC):Y))<|.req (0<=c/\c<=7)<|.req ((0+a.toNat)+((((0:Y).toNat+M pil+M ([al]):aC):Y).toNat-a.toNat)<=M e)<|.ok<|.agg [.xl A7<|(e.drop<|0+a.toNat).take<|(((0:Y).toNat+M pil+M ([al]):aC):Y).toNat-a.toNat,AA<|tk+1,f])<|.req (0<=c/\c<=7)<|.req (0+((0:Y).toNat+M pil+M ([al]))<=M e)<|.ok<|.agg [.xl A7<|(e.drop 0).take<|(0:Y).toNat+M pil+M ([al]),AA<|tk+1,f]):=AO
def an9 :=vo (S:=aBZ) func132 acv kN (λargs lv h=>by
 refine ⟨?_⟩;unfold aBZ at h;split at h
 ·split at h
  case h_2=>cases h
  rename_i heq0;simp only [canL,canX];rw [DB (n:=8) heq0];simp only [canL,canX];rw [ak1];rename_i al am on _ k ph mx nd dl pil tk got;obtain ⟨⟨hm,ha1,ha2,ho1,ho2⟩,rfl⟩:=h
  have hm:=Wy.1 hm
  simp only at hm
  have hu:IntKind.u64.wrap on=on:=by simp [IntKind.wrap,IntKind.bits,IntKind.signed];omega
  have ht:AA (tk+1)=tk+1:=AH
  have hcn:0<=cnt on/\cnt on<=3:=by unfold cnt;omega
  have hg:AA (got+AA (AA (2300*am)*cnt on))=got+2300*am*cnt on:=by
   rw [AH (x:=2300*am)]
   have:cnt on=0\/cnt on=1\/cnt on=2\/cnt on=3:=A0
   rcases this with e|e|e|e<;>rw [e,AH (x:=2300*am*_),AH]
  have h0:(0:Y).toNat=0:=rfl
  have hw1:AA ((M pil:Y)+1)=(M pil:Y)+1:=AH
  have hw2:AA (((M pil+1:aC):Y)-21)=(M pil:Y)-20:=by rw [AH];omega
  have fin:∀(p:aB),p=dwP pil al->LV.agg [.xl A7 p,.v<|ag J<|tk+1,.v<|ag J<|got+2300*am*cnt on]=LV.agg [.xl A7<|dwP pil al,.v<|ag J<|tk+1,.v<|ag J<|got+2300*am*cnt on]:=λp h=>RG
  simp only [h0,List.replicate_zero,De,Ax,BI,BQ,Dc,hu,ht,hg,hw1,hw2];refine ⟨?_,?_⟩
  ·(try simp only [AT,CX] at c1);first|omega|(simp;done) |(simp;omega)
  ·refine ⟨?_,?_⟩
   ·(try simp only [AT,CX] at c1);first|omega|(simp;done) |(simp;omega)
   ·refine ⟨?_,?_⟩
    ·(try simp only [AT,CX] at c1);first|omega|(simp;done) |(simp;omega)
    ·refine ⟨λc1=>?_,λc1=>?_⟩
     ·refine ⟨?_,?_⟩
      ·(try simp only [AT,CX] at c1);first|omega|(simp;done) |(simp;omega)
      ·refine ⟨?_,?_⟩
       ·(try simp only [AT,CX] at c1);first|omega|(simp;done) |(simp;omega)
       ·refine ⟨?_,?_⟩
        ·(try simp only [AT,CX] at c1);first|omega|(simp;done) |(simp;omega)
        ·refine fin _ ?_
         unfold dwP;simp only [AT,CX] at c1;rw [show ((M pil:Y)-20).toNat=M pil-20 by omega]
         exact Cx (by rw [Dk,Ax];simp only [BI,BQ];omega)
     ·refine ⟨?_,?_⟩
      ·omega
      ·refine ⟨?_,?_⟩
       ·omega
       ·refine fin _ ?_
        unfold dwP;simp only [AT,CX] at c1;rw [show M pil-20=0 by omega]
        grind
 ·cases h)
def aGg:aD->T LV
 | [.v (.agg ⟨[ag J k,ag J ph,ag J mx,ag J nd,ag J dl]⟩),.agg [.xl (.int J) pil,.v (ag J tk),.v (ag J got)],.v (ag J p2),.v (ag J al)]=> .ok (.tup [E7 (k,ph,mx,nd,dl) (pil,tk,got) p2 al,Dh (k,ph,mx,nd,dl) (pil,tk,got) p2 al,.agg [.xl A7 (HR (k,ph,mx,nd,dl) (pil,tk,got) p2 al).1,(HR (k,ph,mx,nd,dl) (pil,tk,got) p2 al).2.1,(HR (k,ph,mx,nd,dl) (pil,tk,got) p2 al).2.2],HG (k,ph,mx,nd,dl) (pil,tk,got) p2 al])
 |_=> .no
def axR:aN:=[abo,aui,aBw,anF,an9]
def TA:=vo (S:=aGg) func91 axR kN (λargs lv h=>by
 unfold aGg at h;split at h
 ·rename_i k ph mx nd dl pil tk got p2 al
  refine Al (letI a:=(k,ph,mx,nd,dl);letI b:=(pil,tk,got);letI c:=Ds a b p2 al;letI d:=GJ a b p2 al;.br ((!(Ey a)) ||((!(GQ b)) ||((!(inB p2 (1:Y) (7:Y))) ||((!(inB al (0:Y) (80:Y))) ||(tk==1000000))))) (.ok<|.tup [(0:Y),(0:Y),.agg [.xl A7 ([]:aB),(0:Y),(0:Y)],(1:Y)])<|.req (Ey a=U/\GQ b=U/\1<=p2/\p2<=7/\0<=al)<|.req (GQ b=U/\0<=c/\c<=80/\0<=d/\d<=7)<|.ok<|.tup [c,d,.agg [.xl A7<|dwP pil al,.v<|ag J<|tk+1,.v<|ag J<|got+2300*c*cnt d],(0:Y)]) ?_;obtain rfl:=h
  have e:((!(Ey (k,ph,mx,nd,dl))) ||((!(GQ (pil,tk,got))) ||((!(inB p2 (1:Y) (7:Y))) ||((!(inB al (0:Y) (80:Y))) ||(tk==1000000)))))=!(Ij (k,ph,mx,nd,dl) (pil,tk,got) p2 al):=by simp [Ij,bne]
  rw [e];unfold E7 Dh HR HG;refine ⟨λc1=>?_,λc1=>?_⟩
  ·have hB:Ij (k,ph,mx,nd,dl) (pil,tk,got) p2 al=false:=AQ
   rw [hB];rfl
  ·have hB:Ij (k,ph,mx,nd,dl) (pil,tk,got) p2 al=true:=A8
   rw [hB];obtain ⟨hc,hm,h1,h2,h3,h4,h5⟩:=gq.1 hB;obtain ⟨b1,b2,b3,b4⟩:=aeu hc hm ⟨h1,h2⟩ ⟨h3,h4⟩;exact ⟨⟨hc,hm,h1,h2,h3⟩,⟨hm,b1,by have:=S1.1 hc;omega,b3,b4⟩,rfl⟩
 ·cases h)
structure Lj where
 xs:aKx
 (n i:Y)
 p:PK
 ev:EW
 left:aKx
def Sh (s:Lj):T (Rd Lj):=letI b:=EL s.xs s.i;letI c:=s.left++([b]);letI d:=M s.left+M ([b]);letI e:=AA<|s.i+1;letI f:=M s.p.st;letI g:=s.p.st.getD b.2.2.1.toNat<|Ty.dflt Aq;letI h:=M<|[b];letI j:=M s.left;letI a:=(s.p.st.set b.2.2.1.toNat<|sN (AF s.p.gs b.2.2.1) g (7:Y) b.2.2.2.1 b.2.2.2.2.2);.br (an<|s.i<s.n) (.ix s.i (M s.xs)<|.br (an<|b.1>s.p.tk) (.br U (.rb j h 48<|.re d c<|.pd s.p<|.nx {s with i:=e,left:=c})<|.rl s.left<|.pd s.p<|.nx {s with i:=e})<|.ix b.2.2.1 (M s.p.gs)<|.ik b.2.2.1 f<|.br ((sE (AF s.p.gs b.2.2.1) g (7:Y) b.2.2.2.1 b.2.2.2.2.2)==0) (.ik b.2.2.1 f<|.br X (.rb j h 48<|.re d c<|.rl s.p.cs<|.re f a<|.rl s.p.ca<|.rl s.p.mi<|.rl s.p.me<|.rl s.p.dr<|.rl s.p.tg<|.nx {s with i:=e,p.st:=a,left:=c})<|.rl s.left<|.rl s.p.cs<|.re f a<|.rl s.p.ca<|.rl s.p.mi<|.rl s.p.me<|.rl s.p.dr<|.rl s.p.tg<|.nx {s with i:=e,p.st:=a})<|.br X (.rb j h 48<|.re d c<|.pd s.p<|.nx {s with i:=e,left:=c})<|.rl s.left<|.pd s.p<|.nx {s with i:=e})<|.rl s.left<|.pd s.p<|.so (.exit 0) s
def arr1 (gs:aG) (t:Y) (st:bc) (l:Lk):bc:=if l.1>t then st else C3 gs st l.2.2.1 7 l.2.2.2.1 l.2.2.2.2.2
def aF7 {l:aKx}{i:Y}(h0:0<=i) (h:i<M l):EL l i∈l/\l.drop i.toNat=EL l i::l.drop (i+1).toNat:=by
 have e:EL l i=l[i.toNat]' A0:=by unfold EL;rw [CH,Cv A0];rfl
 rw [e];exact ⟨Ee _,by rw [OH A0,show (i+1).toNat=i.toNat+1 by omega]⟩
def aex {gs:aG}{lk:aKx}{t:Y}{st:bc}:∀k,k<=M lk->JD gs lk t st k=(lk.take k).foldl (arr1 gs t) st
 |0,_=>rfl
 |k+1,h=>by
  have e:EL lk (k:Y)=lk[k]' A0:=by unfold EL;rw [BW,CH,Cv A0];rfl
  rw [JD,aex k A0,VF A0,List.foldl_append,<-e];rfl
def bF (s:Lj):Prop:=s.i=0/\s.n=(M s.xs:Y)/\s.n<=20000000/\(M s.left:Y)<=s.i/\(∀l∈s.xs,0<=l.2.2.1/\l.2.2.1<(M s.p.gs:Y))/\M s.p.st=M s.p.gs
def Zc (s:Lj):Prop:=0<=s.i/\s.i<=s.n/\s.n=(M s.xs:Y)/\s.n<=20000000/\(M s.left:Y)<=s.i/\(∀l∈s.xs,0<=l.2.2.1/\l.2.2.1<(M s.p.gs:Y))/\M s.p.st=M s.p.gs
def wb (s:Lj):aC:=(s.n-s.i).toNat
def adA (x:Ex) (s s':Lj):Prop:=True
def ays:∀s,bF s->Zc s:=by
 rintro s ⟨h0,h2,h3,h4⟩
 exact sM
def auM:Da Zc wb adA Sh:=by
 intro s hI;unfold Sh;dsimp only [T.rd,T.rl,T.rv];obtain ⟨h0,h1,h2,h3,h4,h5,h6⟩:=hI;refine allR_ite (λc1=>allR_ite (λc2=>?_) λc2=>allR_ite (λc3=>?_) λc3=>?_) λc1=>trivial
 all_goals have c1:s.i<s.n:=AQ
 all_goals rw [AH (x:=s.i+1)]
 ·exact allR_ite (λ_=>⟨⟨AR,AR,h2,h3,A8,h5,h6⟩,tD⟩) λc=>Cu
 ·exact allR_ite (λc=>Cu) λ_=>⟨⟨AR,AR,h2,h3,AR,h5,A8⟩,tD⟩
 ·exact allR_ite (λc=>Cu) λ_=>⟨⟨A8,AR,h2,h3,AR,h5,h6⟩,tD⟩
def QG:LpD Lj:=⟨19,30,[0,1,4,11,12,13],[.nl 4 118 B4],λs=>[.own 16 0,.fn 88 [.own 18 0],.os 19 6 0<|M s.left,s.xs,s.n,s.i],λs=>[bDd,bDd,zB,bDd,bV 73 AX s.p.cs,bDd,bDd,bDd,bV 111 Aq s.p.st,bV 56 AK s.p.ca,bV 122 At s.p.mi,bV 114 B8 s.p.me,bDd,bDd,bV 3 A7 s.p.dr,bV 3 A7 s.p.tg,⟨[.os 4 11 0<|M s.p.cs,.xl .str s.p.os,.xl Ad s.p.ks,.xl AZ s.p.gs,.xl Ae s.p.bs,.v<|ag J s.p.tk,.v<|.bool s.p.up,.xl AK s.p.ls,.v<|ag J s.p.se,.xl (.int aw) s.p.fl,.xl Ag s.p.ra,.v<|ag J s.p.nx,.os 8 4 0<|M s.p.st,.os 9 5 0<|M s.p.ca,.os 10 3 0<|M s.p.mi,.os 11 3 0<|M s.p.me,.xl Ac s.p.dm,.xl B4 s.p.lk,.os 14 1 0<|M s.p.dr,.os 15 1 0<|M s.p.tg,.v<|ag J s.ev.ek,.v<|ag J s.ev.en,.v<|ag J s.ev.em,.v<|ag J s.ev.c1,.v<|ag J s.ev.c2,.v<|ag J s.ev.c3,.v<|ag J s.ev.c4,.v<|ag J s.ev.c5,.v<|.bool s.ev.d1,.v<|ag J s.ev.d2,.v<|ag J s.ev.d3,.v<|ag J s.ev.d4,.v<|.slice aj 0 0],93,.cl,X⟩,bDd,⟨[.own 16 0],88,.cl,X⟩,bV 118 B4 s.left],λv b=>⟨As B4 v 3,AJ v 4,AJ v 5,rT b,rG b,AV B4 b 19⟩,Sh,λs r=> {s with i:=r.i,p.st:=r.p.st,left:=r.left},λs=>s,λ_ s=>s,[.exit 0],bF,Zc,wb⟩
abbrev IA:=QG.run
abbrev am0:=QG.exn
def lR:aN:=[PC,XR,T7,TB,TA,T8,SP,SR,PD]
def asM:Ap:=Fx lR (la 9 func23 CI<|l0 lR) [⟨37,Mv.m,P8⟩]
def aqS:Rq Zc Sh:=by
 intro s hI;refine ⟨λc1=>⟨?_,λc2=>⟨λc3=>⟨?_,?_,A9,A9,A9,A9,A9,A9,A9,ak⟩,λc3=>⟨A9,A9,A9,A9,A9,A9,A9,A9,ak⟩⟩,λc2=>⟨?_,?_,?_,λc4=>⟨?_,?_,λc5=>⟨?_,?_,A9,?_,A9,A9,A9,A9,A9,ak⟩,λc5=>⟨A9,A9,?_,A9,A9,A9,A9,A9,ak⟩⟩,λc4=>⟨λc6=>⟨?_,?_,A9,A9,A9,A9,A9,A9,A9,ak⟩,λc6=>⟨A9,A9,A9,A9,A9,A9,A9,A9,ak⟩⟩⟩⟩,λc1=>⟨A9,A9,A9,A9,A9,A9,A9,A9,ak⟩⟩
 all_goals ((obtain ⟨h0,h1,h2,h3,h4,h5,h6⟩:=hI;simp only [AT] at c1;have hm:=h5 _ (aF7 h0 (show s.i<(M s.xs:Y) by omega)).1;first|omega|exact ⟨rfl,AG⟩ |(simp only [BI,BQ,Ax];omega) |(simp only [Ax,BI,BQ,DZ];done)))
def aDi:QG.Ok:={}
def aD7:QG.Pf (adA):=⟨ays,λs h=>rfl,auM,aqS⟩
def Js:=s2 (b:=bN f48 0) aDi aD7 lR asM
def amV:Rs bF am0 IA (λs:Lj=>((s.xs.drop s.i.toNat).foldl (arr1 s.p.gs s.p.tk) s.p.st,s.left++(s.xs.drop s.i.toNat).filter (λl=>an<|l.1>s.p.tk))) (λx s' (v:List St×List Lk)=>x=.exit 0/\(s'.p.st,s'.left)=v):=Cq aDi aD7 (λs hI=>by
  show allR _ _ ((Sh s).rd s)
  unfold Sh;dsimp only [T.rd,T.rl];obtain ⟨h0,h1,h2,h3,h4,h5,h6⟩:=hI;refine allR_ite (λc1=>?_) λc1=>?_
  ·have c1:s.i<s.n:=A8
   have e:=(aF7 h0 (show s.i<(M s.xs:Y) by omega)).2
   rw [AH (x:=s.i+1),e];refine allR_ite (λc2=>?_) λc2=>allR_ite (λc3=>?_) λc3=>?_
   ·refine allR_ite (λ_=>?_) (λc=>Cu)
    have c2':=CW c2
    show (_,_)=(_,_)
    rw [Hz,KZ,AB c2,show arr1 s.p.gs s.p.tk s.p.st (EL s.xs s.i)=s.p.st from AB c2',CC];rfl
   ·refine allR_ite (λc=>Cu) (λ_=>?_)
    have c2':=I0 c2
    rw [Hz,KZ,AD A8,show arr1 s.p.gs s.p.tk s.p.st (EL s.xs s.i)=_ from (AD c2').trans<|AB<|eq_of_beq c3];rfl
   ·refine allR_ite (λc=>Cu) (λ_=>?_)
    have c2':=I0 c2
    show (_,_)=(_,_)
    rw [Hz,KZ,AD A8,show arr1 s.p.gs s.p.tk s.p.st (EL s.xs s.i)=_ from (AD c2').trans<|AD<|C4.1 c3]
  ·have c1:s.n<=s.i:=A8
   refine ⟨rfl,?_⟩;rw [Dj A0]
   simp)
structure Lh where
 (i on oi m k:Y)
 p:PK
 ev:EW
def yK:=lN (bN f39 0) 0
def oh (s:Lh):T (Rd Lh):=letI b:=s.p.st.getD s.i.toNat<|Ty.dflt Aq;letI c:=M s.p.st;letI a:=(s.p.st.set s.i.toNat<|sN (AF s.p.gs s.i) b (8:Y) (0:Y) (0:Y));.br (an<|s.k<s.m) (.ix s.i (M s.p.gs)<|.ik s.i c<|.br ((sE (AF s.p.gs s.i) b (8:Y) (0:Y) (0:Y))==0) (.ik s.i c<|.rl s.p.dr<|.rl s.p.cs<|.re c a<|.rl s.p.ca<|.rl s.p.mi<|.rl s.p.me<|.rl s.p.dr<|.rl s.p.tg<|.nx {s with k:=AA<|s.k+1,p.st:=a})<|.rl s.p.dr<|.pd s.p<|.nx {s with k:=AA<|s.k+1})<|.rl s.p.dr<|.pd s.p<|.so (.exit 2) s
def V7 (s:Lh):Prop:=s.k=0/\(0<=s.i/\s.i<(M s.p.gs:Y))/\M s.p.st=M s.p.gs/\s.m<=4000000
def Za (s:Lh):Prop:=0<=s.k/\(0<=s.i/\s.i<(M s.p.gs:Y))/\M s.p.st=M s.p.gs/\s.m<=4000000
def Xy (s:Lh):aC:=(s.m-s.k).toNat
def adz (x:Ex) (s s':Lh):Prop:=True
def azI:∀s,V7 s->Za s:=by
 rintro s ⟨h0,h2⟩
 exact ⟨A0,h2⟩
def atT:Da Za Xy adz oh:=by
 intro s hI;obtain ⟨h0,h1,h2,h3⟩:=hI;refine allR_ite (λc1=>allR_ite (λc2=>?_) λc2=>?_) λc1=>trivial
 all_goals have c1:s.k<s.m:=A8
 all_goals rw [AH (x:=s.k+1)]
 ·exact ⟨⟨A8,h1,A8,h3⟩,by simp only [Xy];omega⟩
 ·exact ⟨⟨A8,h1,h2,h3⟩,by simp only [Xy];omega⟩
def Pa:LpD Lh:=⟨20,57,[0,2,12,13,14,48,49],[],λs=>[.own 16 0,s.i,.os 14 1 0<|M s.p.dr,s.on,s.oi,s.m,s.k],λs=>[bDd,bDd,zB,bDd,bV 73 AX s.p.cs,bDd,bDd,bDd,bV 111 Aq s.p.st,bV 56 AK s.p.ca,bV 122 At s.p.mi,bV 114 B8 s.p.me,bDd,bDd,bV 3 A7 s.p.dr,bV 3 A7 s.p.tg,⟨[.os 4 11 0<|M s.p.cs,.xl .str s.p.os,.xl Ad s.p.ks,.xl AZ s.p.gs,.xl Ae s.p.bs,.v<|ag J s.p.tk,.v<|.bool s.p.up,.xl AK s.p.ls,.v<|ag J s.p.se,.xl (.int aw) s.p.fl,.xl Ag s.p.ra,.v<|ag J s.p.nx,.os 8 4 0<|M s.p.st,.os 9 5 0<|M s.p.ca,.os 10 3 0<|M s.p.mi,.os 11 3 0<|M s.p.me,.xl Ac s.p.dm,.xl B4 s.p.lk,.os 14 1 0<|M s.p.dr,.os 15 1 0<|M s.p.tg,.v<|ag J s.ev.ek,.v<|ag J s.ev.en,.v<|ag J s.ev.em,.v<|ag J s.ev.c1,.v<|ag J s.ev.c2,.v<|ag J s.ev.c3,.v<|ag J s.ev.c4,.v<|ag J s.ev.c5,.v<|.bool s.ev.d1,.v<|ag J s.ev.d2,.v<|ag J s.ev.d3,.v<|ag J s.ev.d4,.v<|.slice aj 0 0],93,.cl,X⟩,bDd,bDd,bDd],λv b=>⟨AJ v 1,AJ v 3,AJ v 4,AJ v 5,AJ v 6,rT b,rG b⟩,oh,λs r=> {s with k:=r.k,p.st:=r.p.st},λs=>s,λ_ s=>s,[.exit 2],V7,Za,Xy⟩
abbrev Rv:=Pa.run
abbrev aly:=Pa.exn
def XG:aN:=[PC,XR,T7,TB,TA,T8,SP,SR,PD]
def mM:Ap:=Fx XG (la 2 func48 Js<|la 9 func23 CI<|l0 XG) [⟨37,Mv.m,P8⟩]
def aqO:Rq Za oh:=by
 intro s hI;refine ⟨λc1=>⟨?_,?_,?_,λc2=>⟨?_,?_,A9,A9,?_,A9,A9,A9,A9,A9,ak⟩,λc2=>⟨A9,A9,A9,A9,A9,A9,A9,A9,ak⟩⟩,λc1=>⟨A9,A9,A9,A9,A9,A9,A9,A9,ak⟩⟩
 all_goals ((obtain ⟨h0,h1,h2,h3⟩:=hI;first|omega|exact ⟨rfl,AG⟩))
def aE7:Pa.Ok:={}
def aD4:Pa.Pf (adz):=⟨azI,λs h=>rfl,atT,aqO⟩
def aii:SA 20 yK Pa:=s2 aE7 aD4 XG mM
def aBA:Rs V7 aly Rv (λs:Lh=>EB (tk1 s.p.gs s.i) s.k.toNat s.p.st (s.m-s.k).toNat) (λx s' (v:bc)=>x=.exit 2/\s'.p.st=v):=Cq aE7 aD4 (λs hI=>by
  obtain ⟨h0,h1,h2,h3⟩:=hI;refine allR_ite (λc1=>?_) λc1=>?_
  ·have c1:s.k<s.m:=A8
   rw [AH (x:=s.k+1),Jn h0 c1];refine allR_ite (λc2=>?_) λc2=>?_
   ·rw [show tk1 s.p.gs s.i s.k.toNat s.p.st=_ from AB<|eq_of_beq c2]
    rfl
   ·rw [show tk1 s.p.gs s.i s.k.toNat s.p.st=_ from AD<|C4.1 c2]
    rfl
  ·have c1:s.m<=s.k:=A8
   exact ⟨rfl,(gH c1).symm⟩)
structure JB where
 (n i:Y)
 p:PK
 ev:EW
def yJ:=bN f39 0
def Kn (s:JB):Lh:=letI a:=s.p.dr.getD s.i.toNat<|Ty.dflt A7;(⟨s.i,s.n,s.i,AA<|(BH (AA<|s.p.tk+1) a)-(BH s.p.tk a),0,s.p,s.ev⟩:Lh)
def og (s:JB):T (Rd JB):=letI a:=s.p.dr.getD s.i.toNat<|Ty.dflt A7;.br (an<|s.i<s.n) (.ik s.i (M s.p.dr)<|.br (((FR s.p.tk a) !=0) ||((FR (AA<|s.p.tk+1) a) !=0)) (.rl s.p.dr<|.pd s.p<|.nx {s with i:=AA<|s.i+1})<|.rl s.p.dr<|.pd s.p<|.req (Pa.q<|Kn s)<|.rl s.p.dr<|.rl s.p.cs<|.rl (Rv<|Kn s).p.st<|.rl s.p.ca<|.rl s.p.mi<|.rl s.p.me<|.rl s.p.dr<|.rl s.p.tg<|.nx {s with i:=AA<|s.i+1,p.st:=(Rv<|Kn s).p.st})<|.rl s.p.dr<|.pd s.p<|.so (.exit 0) s
def Zx (s:JB):Prop:=s.i=0/\s.n=(M s.p.dr:Y)/\M s.p.dr=M s.p.gs/\s.n<=1000/\M s.p.st=M s.p.gs/\(0<=s.p.tk/\s.p.tk<=1000000)
def Us (s:JB):Prop:=0<=s.i/\s.i<=s.n/\s.n=(M s.p.dr:Y)/\M s.p.dr=M s.p.gs/\s.n<=1000/\M s.p.st=M s.p.gs/\(0<=s.p.tk/\s.p.tk<=1000000)
def Xx (s:JB):aC:=(s.n-s.i).toNat
def ady (x:Ex) (s s':JB):Prop:=True
def azH:∀s,Zx s->Us s:=by
 exact ry
def lK {s:JB}(hI:Us s) (c1:s.i<s.n):V7 (Kn s)/\((FR s.p.tk (gi s.p.dr s.i.toNat)=0/\FR (s.p.tk+1) (gi s.p.dr s.i.toNat)=0)->(Rv<|Kn s).p.st=cnt1 s.p.gs s.p.dr s.p.tk s.i.toNat s.p.st):=by
 obtain ⟨h0,h1,h2,h3,h4,h6,h7⟩:=hI
 have hg:s.p.dr.getD s.i.toNat (Ty.dflt A7)=gi s.p.dr s.i:=rfl
 have b1:=abv s.p.tk<|gi s.p.dr s.i
 have b2:=abv (s.p.tk+1)<|gi s.p.dr s.i
 have hm:(Kn s).m=BH (s.p.tk+1) (gi s.p.dr s.i)-BH s.p.tk (gi s.p.dr s.i):=by
  show AA (BH (AA<|s.p.tk+1) _-BH s.p.tk _)=_
  rw [hg,AH (x:=s.p.tk+1),AH (x:=BH (s.p.tk+1) _-BH s.p.tk _)]
 have hE:V7 (Kn s):=⟨rfl,⟨h0,by show s.i<(M s.p.gs:Y);omega⟩,h6,A0⟩
 refine ⟨hE,λhc=>?_⟩
 have q:(Rv<|Kn s).p.st=EB (tk1 s.p.gs s.i) 0 s.p.st ((Kn s).m-0).toNat:=(aBA _ hE).2
 rw [q,hm,M4,anO];unfold cnt1
 grind
def atS:Da Us Xx ady og:=by
 intro s hI;obtain ⟨h0,h1,h2,h3,h4,h6,h7⟩:=id hI;refine allR_ite (λc1=>allR_ite (λc2=>?_) λc2=>?_) λc1=>trivial
 all_goals have c1:s.i<s.n:=AQ
 all_goals rw [AH (x:=s.i+1)]
 ·exact ⟨⟨A8,A8,h2,h3,h4,h6,h7⟩,by simp only [Xx];omega⟩
 ·have hl:M (Rv<|Kn s).p.st=M s.p.gs:=by
   rw [(aBA _ (lK hI c1).1).2];exact (aAS λ_ _=>Gx).trans h6
  exact ⟨⟨A8,A8,h2,h3,h4,hl,h7⟩,by simp only [Xx];omega⟩
def PZ:LpD JB:=⟨20,57,[0,12,13,14],[.pc 16 17 B4,.kb 18,.kb 19],λs=>[.own 16 0,.os 14 1 0<|M s.p.dr,s.n,s.i],λs=>[bDd,bDd,zB,bDd,bV 73 AX s.p.cs,bDd,bDd,bDd,bV 111 Aq s.p.st,bV 56 AK s.p.ca,bV 122 At s.p.mi,bV 114 B8 s.p.me,bDd,bDd,bV 3 A7 s.p.dr,bV 3 A7 s.p.tg,⟨[.os 4 11 0<|M s.p.cs,.xl .str s.p.os,.xl Ad s.p.ks,.xl AZ s.p.gs,.xl Ae s.p.bs,.v<|ag J s.p.tk,.v<|.bool s.p.up,.xl AK s.p.ls,.v<|ag J s.p.se,.xl (.int aw) s.p.fl,.xl Ag s.p.ra,.v<|ag J s.p.nx,.os 8 4 0<|M s.p.st,.os 9 5 0<|M s.p.ca,.os 10 3 0<|M s.p.mi,.os 11 3 0<|M s.p.me,.xl Ac s.p.dm,.xl B4 s.p.lk,.os 14 1 0<|M s.p.dr,.os 15 1 0<|M s.p.tg,.v<|ag J s.ev.ek,.v<|ag J s.ev.en,.v<|ag J s.ev.em,.v<|ag J s.ev.c1,.v<|ag J s.ev.c2,.v<|ag J s.ev.c3,.v<|ag J s.ev.c4,.v<|ag J s.ev.c5,.v<|.bool s.ev.d1,.v<|ag J s.ev.d2,.v<|ag J s.ev.d3,.v<|ag J s.ev.d4,.v<|.slice aj 0 0],93,.cl,X⟩,bDd,bDd,bDd],λv b=>⟨AJ v 2,AJ v 3,rT b,rG b⟩,og,λs r=> {s with i:=r.i,p.st:=r.p.st},λs=>s,λ_ s=>s,[.exit 0],Zx,Us,Xx⟩
abbrev iH:=PZ.run
abbrev akZ:=PZ.exn
def aqN:Rq Us og:=by
 intro s hI;refine ⟨λc1=>⟨?_,?_,λc2=>⟨A9,A9,A9,A9,A9,A9,A9,A9,ak⟩,λc2=>⟨A9,A9,A9,A9,A9,A9,A9,A9,?_,A9,A9,A9,A9,A9,A9,A9,A9,ak⟩⟩,λc1=>⟨A9,A9,A9,A9,A9,A9,A9,A9,ak⟩⟩
 all_goals ((obtain ⟨h0,h1,h2,h3,h4,h6,h7⟩:=id hI;simp only [AT] at c1;first|omega|exact ⟨(lK hI c1).1,rfl,rfl⟩))
def aE6:PZ.Ok:={}
def aD3:PZ.Pf (ady):=⟨azH,λs h=>rfl,atS,aqN⟩
def Kv:SA 20 yJ PZ:=LpD.snd aE6 aD3 (code_soundA (Γ:=XG) (K:=mM) (L:=(byId (λi=>if i=7 then Pa.lp else noLoops i))) (gk XG) mM.h yJ (λb hb=>by
 rw [show loopsIn _=[yK] by kernel_rfl] at hb
 simp only [Au,BX,BV] at hb;subst hb;exact aii)) λs=>AO
def alr:Rs Zx akZ iH (λs:JB=>EB (cnt1 s.p.gs s.p.dr s.p.tk) s.i.toNat s.p.st (s.n-s.i).toNat) (λx s' (v:bc)=>x=.exit 0/\s'.p.st=v):=Cq aE6 aD3 (λs hI=>by
  obtain ⟨h0,h1,h2,h3,h4,h6,h7⟩:=id hI;refine allR_ite (λc1=>?_) λc1=>?_
  ·have c1:s.i<s.n:=A8
   have hg:s.p.dr.getD s.i.toNat (Ty.dflt A7)=gi s.p.dr s.i.toNat:=Iy
   rw [AH (x:=s.i+1),AH (x:=s.p.tk+1),hg,Jn h0 c1];refine allR_ite (λc2=>?_) λc2=>?_
   ·rw [show cnt1 s.p.gs s.p.dr s.p.tk s.i.toNat s.p.st=s.p.st from AD λh=>A8]
    rfl
   ·have c2:FR s.p.tk (gi s.p.dr s.i.toNat)=0/\FR (s.p.tk+1) (gi s.p.dr s.i.toNat)=0:=A8
    rw [<-(lK hI c1).2 c2];rfl
  ·have c1:s.n<=s.i:=A8
   exact ⟨rfl,(gH c1).symm⟩)
structure J9 where
 gl:aG
 (n i:Y)
 p:PK
 ev:EW
 dw:aB
def XV (s:J9) (e:Y) (o:Y) (ce:Y) (a:Y) (al:Y) (se:Y) (sn:St) (m:Mi) (cn:Me):T (Rd J9):=letI b:=s.p.mi.set s.i.toNat m;letI c:=s.dw.set s.i.toNat a;letI d:=s.p.me.set s.i.toNat cn;letI f:=M s.p.mi;letI g:=M s.p.st;letI h:=AA<|s.i+1;letI j:=s.p.st.set s.i.toNat sn;letI k:=M s.dw;letI l:=M s.p.me;.br (an<|s.i<s.n) (.ix s.i (M s.gl)<|.ik s.i (M s.p.ca)<|.br (!((s.p.ca.getD s.i.toNat<|Ty.dflt AK).2.2.1 !=0)) (.pd s.p<|.rl s.dw<|.nx {s with i:=h})<|.ik s.i g<|.ik s.i (M s.p.ca)<|.ik s.i f<|.br (e !=0) (.pd s.p<|.rl s.dw<|.nx {s with i:=h})<|.ik s.i k<|.ik s.i f<|.ik s.i l<|.req (0<=(IntKind.u64.wrap o)/\(IntKind.u64.wrap o)<=7)<|.br (ce==0) (.ik s.i l<|.br (an<|a>al) (.ix s.i (M s.p.gs)<|.ik s.i g<|.br (se==0) (.ik s.i g<|.rl s.p.cs<|.re g j<|.rl s.p.ca<|.re f b<|.re l d<|.rl s.p.dr<|.rl s.p.tg<|.re k c<|.nx {s with i:=h,p.st:=j,p.mi:=b,p.me:=d,dw:=c})<|.rl s.p.cs<|.rl s.p.st<|.rl s.p.ca<|.re f b<|.re l d<|.rl s.p.dr<|.rl s.p.tg<|.re k c<|.nx {s with i:=h,p.mi:=b,p.me:=d,dw:=c})<|.rl s.p.cs<|.rl s.p.st<|.rl s.p.ca<|.re f b<|.re l d<|.rl s.p.dr<|.rl s.p.tg<|.re k c<|.nx {s with i:=h,p.mi:=b,p.me:=d,dw:=c})<|.br (an<|a>al) (.ix s.i (M s.p.gs)<|.ik s.i g<|.br (se==0) (.ik s.i g<|.rl s.p.cs<|.re g j<|.rl s.p.ca<|.re f b<|.rl s.p.me<|.rl s.p.dr<|.rl s.p.tg<|.re k c<|.nx {s with i:=h,p.st:=j,p.mi:=b,dw:=c})<|.rl s.p.cs<|.rl s.p.st<|.rl s.p.ca<|.re f b<|.rl s.p.me<|.rl s.p.dr<|.rl s.p.tg<|.re k c<|.nx {s with i:=h,p.mi:=b,dw:=c})<|.rl s.p.cs<|.rl s.p.st<|.rl s.p.ca<|.re f b<|.rl s.p.me<|.rl s.p.dr<|.rl s.p.tg<|.re k c<|.nx {s with i:=h,p.mi:=b,dw:=c})<|.pd s.p<|.rl s.dw<|.so (.exit 0) s
abbrev TC (s:J9):=letI b:=s.p.ca.getD s.i.toNat<|Ty.dflt AK;letI c:=s.p.mi.getD s.i.toNat<|Ty.dflt At;letI d:=AF s.gl s.i;letI e:=s.p.st.getD s.i.toNat<|Ty.dflt Aq;letI g:=s.p.me.getD s.i.toNat<|Ty.dflt B8;letI a:=BL d e;letI f:=cnt<|IntKind.u64.wrap<|Dh b c d.2.2.1 a;letI h:=E7 b c d.2.2.1 a;XV s (HG b c d.2.2.1 a) (Dh b c d.2.2.1 a) (Eu g h f) h a (sE (AF s.p.gs s.i) e (6:Y) (2:Y) (0:Y)) (sN (AF s.p.gs s.i) e (6:Y) (2:Y) (0:Y)) (HR b c d.2.2.1 a)<|Fu g h f
def Zj (s:J9):Prop:=s.i=0/\s.n=(M s.p.gs:Y)/\s.n<=1000/\s.gl=s.p.gs/\(M s.p.st=M s.p.gs/\M s.p.ca=M s.p.gs/\M s.p.mi=M s.p.gs/\M s.p.me=M s.p.gs/\M s.dw=M s.p.gs)
def Sk (s:J9):Prop:=0<=s.i/\s.i<=s.n/\s.n=(M s.p.gs:Y)/\s.n<=1000/\s.gl=s.p.gs/\(M s.p.st=M s.p.gs/\M s.p.ca=M s.p.gs/\M s.p.mi=M s.p.gs/\M s.p.me=M s.p.gs/\M s.dw=M s.p.gs)
def Wd (s:J9):aC:=(s.n-s.i).toNat
def uD (x:Ex) (s s':J9):Prop:=True
def ayw:∀s,Zj s->Sk s:=by
 exact ry
def amH (s:J9) (hI:Sk s) (e:Y) (o:Y) (ce:Y) (a:Y) (al:Y) (se:Y) (sn:St) (m:Mi) (cn:Me) (he:HG (s.p.ca.getD s.i.toNat<|Ty.dflt AK) (s.p.mi.getD s.i.toNat<|Ty.dflt At) (AF s.gl s.i).2.2.1 (BL (AF s.gl s.i)<|s.p.st.getD s.i.toNat<|Ty.dflt Aq)=e) (ho:Dh (s.p.ca.getD s.i.toNat<|Ty.dflt AK) (s.p.mi.getD s.i.toNat<|Ty.dflt At) (AF s.gl s.i).2.2.1 (BL (AF s.gl s.i)<|s.p.st.getD s.i.toNat<|Ty.dflt Aq)=o) (hce:Eu (s.p.me.getD s.i.toNat<|Ty.dflt B8) (E7 (s.p.ca.getD s.i.toNat<|Ty.dflt AK) (s.p.mi.getD s.i.toNat<|Ty.dflt At) (AF s.gl s.i).2.2.1<|BL (AF s.gl s.i)<|s.p.st.getD s.i.toNat<|Ty.dflt Aq) (cnt<|IntKind.u64.wrap<|Dh (s.p.ca.getD s.i.toNat<|Ty.dflt AK) (s.p.mi.getD s.i.toNat<|Ty.dflt At) (AF s.gl s.i).2.2.1<|BL (AF s.gl s.i)<|s.p.st.getD s.i.toNat<|Ty.dflt Aq)=ce) (ha:E7 (s.p.ca.getD s.i.toNat<|Ty.dflt AK) (s.p.mi.getD s.i.toNat<|Ty.dflt At) (AF s.gl s.i).2.2.1 (BL (AF s.gl s.i)<|s.p.st.getD s.i.toNat<|Ty.dflt Aq)=a) (hal:BL (AF s.gl s.i) (s.p.st.getD s.i.toNat<|Ty.dflt Aq)=al) (hse:sE (AF s.p.gs s.i) (s.p.st.getD s.i.toNat<|Ty.dflt Aq) (6:Y) (2:Y) (0:Y)=se) (hsn:sN (AF s.p.gs s.i) (s.p.st.getD s.i.toNat<|Ty.dflt Aq) (6:Y) (2:Y) (0:Y)=sn) (hm:HR (s.p.ca.getD s.i.toNat<|Ty.dflt AK) (s.p.mi.getD s.i.toNat<|Ty.dflt At) (AF s.gl s.i).2.2.1 (BL (AF s.gl s.i)<|s.p.st.getD s.i.toNat<|Ty.dflt Aq)=m) (hcn:Fu (s.p.me.getD s.i.toNat<|Ty.dflt B8) (E7 (s.p.ca.getD s.i.toNat<|Ty.dflt AK) (s.p.mi.getD s.i.toNat<|Ty.dflt At) (AF s.gl s.i).2.2.1<|BL (AF s.gl s.i)<|s.p.st.getD s.i.toNat<|Ty.dflt Aq) (cnt<|IntKind.u64.wrap<|Dh (s.p.ca.getD s.i.toNat<|Ty.dflt AK) (s.p.mi.getD s.i.toNat<|Ty.dflt At) (AF s.gl s.i).2.2.1<|BL (AF s.gl s.i)<|s.p.st.getD s.i.toNat<|Ty.dflt Aq)=cn):allR (λs'=>Sk s'/\Wd s'<Wd s) (λx s'=>uD x s s') ((XV s e o ce a al se sn m cn).rd s):=by
 unfold XV;dsimp only [T.rd,T.rl,T.rv];obtain ⟨h0,h1,h2,h3,hg,l1,l2,l3,l4,l5⟩:=hI;refine allR_ite (λc1=>?_) λc1=>?_
 ·refine allR_ite (λc2=>?_) (λc2=>?_)
  ·exact Vb
  ·refine allR_ite (λc3=>?_) (λc3=>?_)
   ·exact Vb
   ·refine allR_ite (λc4=>?_) (λc4=>?_)
    ·exact aHW
    ·exact aHW
 ·trivial
def atj:Da Sk Wd uD TC:=λs hI=>amH s hI _ _ _ _ _ _ _ _ _ rfl rfl rfl rfl rfl rfl rfl rfl rfl
def QB:LpD J9:=⟨20,124,[0,27,28,29],[],λs=>[.own 16 0,s.gl,s.n,s.i],λs=>[bDd,bDd,zB,bDd,bV 73 AX s.p.cs,bDd,bDd,bDd,bV 111 Aq s.p.st,bV 56 AK s.p.ca,bV 122 At s.p.mi,bV 114 B8 s.p.me,bDd,bDd,bV 3 A7 s.p.dr,bV 3 A7 s.p.tg,⟨[.os 4 11 0<|M s.p.cs,.xl .str s.p.os,.xl Ad s.p.ks,.xl AZ s.p.gs,.xl Ae s.p.bs,.v<|ag J s.p.tk,.v<|.bool s.p.up,.xl AK s.p.ls,.v<|ag J s.p.se,.xl (.int aw) s.p.fl,.xl Ag s.p.ra,.v<|ag J s.p.nx,.os 8 4 0<|M s.p.st,.os 9 5 0<|M s.p.ca,.os 10 3 0<|M s.p.mi,.os 11 3 0<|M s.p.me,.xl Ac s.p.dm,.xl B4 s.p.lk,.os 14 1 0<|M s.p.dr,.os 15 1 0<|M s.p.tg,.v<|ag J s.ev.ek,.v<|ag J s.ev.en,.v<|ag J s.ev.em,.v<|ag J s.ev.c1,.v<|ag J s.ev.c2,.v<|ag J s.ev.c3,.v<|ag J s.ev.c4,.v<|ag J s.ev.c5,.v<|.bool s.ev.d1,.v<|ag J s.ev.d2,.v<|ag J s.ev.d3,.v<|ag J s.ev.d4,.os 20 1 0<|M s.dw],93,.cl,X⟩,bDd,bDd,bDd,bV 3 A7 s.dw],λv b=>⟨As AZ v 1,AJ v 2,AJ v 3,rT b,rG b,AV A7 b 20⟩,TC,λs r=> {s with i:=r.i,p.st:=r.p.st,p.mi:=r.p.mi,p.me:=r.p.me,dw:=r.dw},λs=>s,λ_ s=>s,[.exit 0],Zj,Sk,Wd⟩
abbrev Ha:=QB.run
abbrev akz:=QB.exn
def lQ:aN:=[PC,XR,T7,TB,TA,T8,SP,SR,PD]
def aqt:Ap:=Fx lQ (la 1 func39 Kv<|la 2 func48 Js<|la 9 func23 CI<|l0 lQ) [⟨37,Mv.m,P8⟩]
def apA:Rq Sk TC:=by
 intro s hI;refine ⟨λc1=>⟨?_,?_,?_,λc2=>⟨A9,A9,A9,A9,A9,A9,A9,A9,ak⟩,λc2=>⟨?_,?_,?_,?_,?_,?_,λc3=>⟨A9,A9,A9,A9,A9,A9,A9,A9,ak⟩,λc3=>⟨?_,?_,?_,?_,?_,?_,?_,λc4=>⟨?_,?_,λc5=>⟨?_,?_,?_,λc6=>⟨?_,?_,A9,?_,A9,?_,?_,A9,A9,?_,ak⟩,λc6=>⟨A9,A9,A9,?_,?_,A9,A9,?_,ak⟩⟩,λc5=>⟨A9,A9,A9,?_,?_,A9,A9,?_,ak⟩⟩,λc4=>⟨λc7=>⟨?_,?_,?_,λc8=>⟨?_,?_,A9,?_,A9,?_,A9,A9,A9,?_,ak⟩,λc8=>⟨A9,A9,A9,?_,A9,A9,A9,?_,ak⟩⟩,λc7=>⟨A9,A9,A9,?_,A9,A9,A9,?_,ak⟩⟩⟩⟩⟩,λc1=>⟨A9,A9,A9,A9,A9,A9,A9,A9,ak⟩⟩
 all_goals ((obtain ⟨h0,h1,h2,h3,hg,l1,l2,l3,l4,l5⟩:=hI;simp only [AT] at c1;first|(rw [hg];omega) |omega|exact ⟨rfl,AG⟩ |(rw [aap];exact aEy)))
def aDt:QB.Ok:={}
def aDa:QB.Pf (uD):=⟨ayw,λs h=>rfl,atj,apA⟩
def ML:=s2 (b:=bN f40 0) aDt aDa lQ aqt
def amG:Rs Zj akz Ha (λs:J9=>EB (λk d=>ES s.p.gs s.p.ca d (k:Y)) s.i.toNat ⟨s.p.st,s.p.mi,s.p.me,s.dw⟩ (s.n-s.i).toNat) (λx s' (v:DW)=>x=.exit 0/\(⟨s'.p.st,s'.p.mi,s'.p.me,s'.dw⟩:DW)=v):=Cq aDt aDa (λs hI=>by
  show allR _ _ ((TC s).rd s)
  unfold TC XV;dsimp only [T.rd,T.rl];obtain ⟨h0,h1,h2,h3,hg,l1,l2,l3,l4,l5⟩:=hI
  have hi:((s.i.toNat:aC):Y)=s.i:=C2 h0
  rw [hg];simp only [aap];refine allR_ite (λc1=>?_) λc1=>?_
  ·refine allR_ite (λc2=>?_) (λc2=>?_)
   ·have c1:s.i<s.n:=AQ
    rw [AH (x:=s.i+1),Jn h0 c1,hi]
    have c2:(BE s.p.ca s.i).2.2.1=0:=D4<|(CS _).mp c2
    rw [az1 c2];rfl
   ·refine allR_ite (λc3=>?_) (λc3=>?_)
    ·have c1:s.i<s.n:=AQ
     rw [AH (x:=s.i+1),Jn h0 c1,hi]
     have c2:¬(BE s.p.ca s.i).2.2.1=0:=Cg.1<|(G0 _).mp c2
     have c3:=Cg.1 c3
     rw [az0 c2 c3];rfl
    ·refine allR_ite (λc4=>?_) (λc4=>?_)
     ·refine allR_ite (λc5=>?_) (λc5=>?_)
      ·refine allR_ite (λc6=>?_) (λc6=>?_)
       ·have c1:s.i<s.n:=AQ
        rw [AH (x:=s.i+1),Jn h0 c1,hi]
        have c2:¬(BE s.p.ca s.i).2.2.1=0:=Cg.1<|(G0 _).mp c2
        have c3:HG (BE s.p.ca s.i) (Bo s.p.mi s.i) (AF s.p.gs s.i).2.2.1 (BL (AF s.p.gs s.i)<|B1 s.p.st s.i)=0:=D4 c3
        rw [Sp c2 c3];rw [AB (show Eu (Ez s.p.me s.i) (E7 (BE s.p.ca s.i) (Bo s.p.mi s.i) (AF s.p.gs s.i).2.2.1<|BL (AF s.p.gs s.i)<|B1 s.p.st s.i) (cnt<|Dh (BE s.p.ca s.i) (Bo s.p.mi s.i) (AF s.p.gs s.i).2.2.1<|BL (AF s.p.gs s.i)<|B1 s.p.st s.i)=0 from eq_of_beq c4)];exact aH7
       ·have c1:s.i<s.n:=AQ
        rw [AH (x:=s.i+1),Jn h0 c1,hi]
        have c2:¬(BE s.p.ca s.i).2.2.1=0:=Cg.1<|(G0 _).mp c2
        have c3:HG (BE s.p.ca s.i) (Bo s.p.mi s.i) (AF s.p.gs s.i).2.2.1 (BL (AF s.p.gs s.i)<|B1 s.p.st s.i)=0:=D4 c3
        rw [Sp c2 c3];rw [AB (show Eu (Ez s.p.me s.i) (E7 (BE s.p.ca s.i) (Bo s.p.mi s.i) (AF s.p.gs s.i).2.2.1<|BL (AF s.p.gs s.i)<|B1 s.p.st s.i) (cnt<|Dh (BE s.p.ca s.i) (Bo s.p.mi s.i) (AF s.p.gs s.i).2.2.1<|BL (AF s.p.gs s.i)<|B1 s.p.st s.i)=0 from eq_of_beq c4)];exact aH8
      ·have c1:s.i<s.n:=AQ
       rw [AH (x:=s.i+1),Jn h0 c1,hi]
       have c2:¬(BE s.p.ca s.i).2.2.1=0:=Cg.1<|(G0 _).mp c2
       have c3:HG (BE s.p.ca s.i) (Bo s.p.mi s.i) (AF s.p.gs s.i).2.2.1 (BL (AF s.p.gs s.i)<|B1 s.p.st s.i)=0:=D4 c3
       rw [Sp c2 c3];rw [AB (show Eu (Ez s.p.me s.i) (E7 (BE s.p.ca s.i) (Bo s.p.mi s.i) (AF s.p.gs s.i).2.2.1<|BL (AF s.p.gs s.i)<|B1 s.p.st s.i) (cnt<|Dh (BE s.p.ca s.i) (Bo s.p.mi s.i) (AF s.p.gs s.i).2.2.1<|BL (AF s.p.gs s.i)<|B1 s.p.st s.i)=0 from eq_of_beq c4)];exact aGw
     ·refine allR_ite (λc5=>?_) (λc5=>?_)
      ·refine allR_ite (λc6=>?_) (λc6=>?_)
       ·have c1:s.i<s.n:=AQ
        rw [AH (x:=s.i+1),Jn h0 c1,hi]
        have c2:¬(BE s.p.ca s.i).2.2.1=0:=Cg.1<|(G0 _).mp c2
        have c3:HG (BE s.p.ca s.i) (Bo s.p.mi s.i) (AF s.p.gs s.i).2.2.1 (BL (AF s.p.gs s.i)<|B1 s.p.st s.i)=0:=D4 c3
        rw [Sp c2 c3];rw [AD (show ¬Eu (Ez s.p.me s.i) (E7 (BE s.p.ca s.i) (Bo s.p.mi s.i) (AF s.p.gs s.i).2.2.1<|BL (AF s.p.gs s.i)<|B1 s.p.st s.i) (cnt<|Dh (BE s.p.ca s.i) (Bo s.p.mi s.i) (AF s.p.gs s.i).2.2.1<|BL (AF s.p.gs s.i)<|B1 s.p.st s.i)=0 from C4.1 c4)];exact aH7
       ·have c1:s.i<s.n:=AQ
        rw [AH (x:=s.i+1),Jn h0 c1,hi]
        have c2:¬(BE s.p.ca s.i).2.2.1=0:=Cg.1<|(G0 _).mp c2
        have c3:HG (BE s.p.ca s.i) (Bo s.p.mi s.i) (AF s.p.gs s.i).2.2.1 (BL (AF s.p.gs s.i)<|B1 s.p.st s.i)=0:=D4 c3
        rw [Sp c2 c3];rw [AD (show ¬Eu (Ez s.p.me s.i) (E7 (BE s.p.ca s.i) (Bo s.p.mi s.i) (AF s.p.gs s.i).2.2.1<|BL (AF s.p.gs s.i)<|B1 s.p.st s.i) (cnt<|Dh (BE s.p.ca s.i) (Bo s.p.mi s.i) (AF s.p.gs s.i).2.2.1<|BL (AF s.p.gs s.i)<|B1 s.p.st s.i)=0 from C4.1 c4)];exact aH8
      ·have c1:s.i<s.n:=AQ
       rw [AH (x:=s.i+1),Jn h0 c1,hi]
       have c2:¬(BE s.p.ca s.i).2.2.1=0:=Cg.1<|(G0 _).mp c2
       have c3:=D4 c3
       rw [Sp c2 c3];rw [AD (show ¬Eu (Ez s.p.me s.i) (E7 (BE s.p.ca s.i) (Bo s.p.mi s.i) (AF s.p.gs s.i).2.2.1<|BL (AF s.p.gs s.i)<|B1 s.p.st s.i) (cnt<|Dh (BE s.p.ca s.i) (Bo s.p.mi s.i) (AF s.p.gs s.i).2.2.1<|BL (AF s.p.gs s.i)<|B1 s.p.st s.i)=0 from C4.1 c4)];exact aGw
  ·have c1:s.n<=s.i:=AQ
   exact ⟨rfl,(gH c1).symm⟩)
structure KC where
 m:aG
 (k i:Y)
 p:PK
 ev:EW
 (dw out:aB)
def aym (s:KC):aD:=[.os 21 1 0<|M s.out,s.m,s.k,s.i]
def aya (s:KC):aE:=[bDd,bDd,zB,bDd,bV 73 AX s.p.cs,bDd,bDd,bDd,bDd,bDd,bDd,bDd,bDd,bDd,bDd,bV 3 A7 s.p.tg,⟨[.os 4 11 0<|M s.p.cs,.xl .str s.p.os,.xl Ad s.p.ks,.xl AZ s.p.gs,.xl Ae s.p.bs,.v<|ag J s.p.tk,.v<|.bool s.p.up,.xl AK s.p.ls,.v<|ag J s.p.se,.xl (.int aw) s.p.fl,.xl Ag s.p.ra,.v<|ag J s.p.nx,.xl Aq s.p.st,.xl AK s.p.ca,.xl At s.p.mi,.xl B8 s.p.me,.xl Ac s.p.dm,.xl B4 s.p.lk,.xl A7 s.p.dr,.os 15 1 0<|M s.p.tg,.v<|ag J s.ev.ek,.v<|ag J s.ev.en,.v<|ag J s.ev.em,.v<|ag J s.ev.c1,.v<|ag J s.ev.c2,.v<|ag J s.ev.c3,.v<|ag J s.ev.c4,.v<|ag J s.ev.c5,.v<|.bool s.ev.d1,.v<|ag J s.ev.d2,.v<|ag J s.ev.d3,.v<|ag J s.ev.d4,.os 20 1 0<|M s.dw],93,.cl,X⟩,bDd,bDd,bDd,bV 3 A7 s.dw,bV 3 A7 s.out]
def ah0:=bN f84 0
def o7 (s:KC):T (Rd KC):=letI a:=s.out.set s.i.toNat (AF s.m s.i).2.2.2.2.2.2.1;.br (an<|s.i<s.k) (.ix s.i (M s.m)<|.ik s.i (M s.out)<|.re (M s.out) a<|.rl s.p.cs<|.rl s.p.tg<|.rl s.dw<|.nx {s with i:=AA<|s.i+1,out:=a})<|.rl s.out<|.rl s.p.cs<|.rl s.p.tg<|.rl s.dw<|.so (.exit 0) s
def ZF (s:KC):Prop:=s.i=0/\s.k=(M s.m:Y)/\s.k<=1000/\M s.out=M s.m/\(∀j,0<=j->j<s.k->gi s.out j=0)/\True
def TY (s:KC):Prop:=(0<=s.i/\s.i<=s.k)/\s.k=(M s.m:Y)/\s.k<=1000/\M s.out=M s.m/\(∀j,0<=j->j<s.k->gi s.out j=if j<s.i then C7 (AF s.m j) else 0)/\True
def jy (s:KC):aC:=(s.k-s.i).toNat
def qS (x:Ex) (s s':KC):Prop:=x=.exit 0/\s'.out=Fb (M s'.m) (λj=>C7<|AF s'.m j)
def avf:∀s,ZF s->TY s:=by
 exact OT
def ank:Da TY jy qS o7:=by
 intro s hI;obtain ⟨⟨h0,h1⟩,h2,h3,h4,h5,h6⟩:=hI;refine allR_ite (λc1=>?_) λc1=>?_
 ·have c1:s.i<s.k:=AQ
  rw [AH (x:=s.i+1)];refine ⟨⟨⟨A8,A8⟩,h2,h3,A8,λj j0 j1=>?_,h6⟩,by simp only [jy];omega⟩
  simp only;rw [H5 h0 A0 j0];exact cg
 ·exact Vq
def PM:LpD KC:=⟨21,25,[3,11,12,13],[.pc 16 12 Aq,.kb 8,.pc 16 13 AK,.kb 9,.pc 16 14 At,.kb 10,.pc 16 15 B8,.kb 11,.pc 16 18 A7,.kb 14],aym,aya,λv b=>⟨As AZ v 1,AJ v 2,AJ v 3,rB b 16 4 0 0 0 0 0 0 0 0 0 0 15,rG b,AV A7 b 20,AV A7 b 21⟩,o7,λs r=> {s with i:=r.i,out:=r.out},λs=>s,λ_ s=>s,[.exit 0],ZF,TY,jy⟩
abbrev iB:=PM.run
abbrev akd:=PM.exn
def MU:aN:=[PC,T7,TB,TA,T8,SP,SR,PD]
def aqs:Ap:=Fx MU (la 2 func40 ML<|la 1 func39 Kv<|la 2 func48 Js<|la 9 func23 CI<|l0 MU) [⟨37,Mv.m,P8⟩]
def apU:Rq TY o7:=by
 intro s hI;refine ⟨λc1=>⟨?_,?_,?_,?_,A9,A9,A9,ak⟩,λc1=>⟨A9,A9,A9,A9,ak⟩⟩
 all_goals ((obtain ⟨⟨h0,h1⟩,h2,h3,h4,h5,h6⟩:=hI;(try simp only [AT] at c1);first|omega|exact ⟨rfl,AG⟩ |(omega)))
def aE9:PM.Ok:={}
def aCg:PM.Pf (qS):=⟨avf,λs h=>rfl,ank,apU⟩
def NW:SA 21 ah0 PM:=s2 aE9 aCg MU aqs
def aiT:Fi ZF TY qS akd iB:=LpD.fin aE9 aCg
structure KD where
 m:aB
 (k i:Y)
 p:PK
 ev:EW
 (dw CV:aB)
def azY (s:KD):aD:=[.own 16 0,.os 21 1 0<|M s.CV,.xl A7 s.m,s.k,s.i]
def ayb (s:KD):aE:=[bDd,bDd,zB,bDd,bV 73 AX s.p.cs,bDd,bDd,bDd,bDd,bDd,bDd,bDd,bDd,bDd,bDd,bV 3 A7 s.p.tg,⟨[.os 4 11 0<|M s.p.cs,.xl .str s.p.os,.xl Ad s.p.ks,.xl AZ s.p.gs,.xl Ae s.p.bs,.v<|ag J s.p.tk,.v<|.bool s.p.up,.xl AK s.p.ls,.v<|ag J s.p.se,.xl (.int aw) s.p.fl,.xl Ag s.p.ra,.v<|ag J s.p.nx,.xl Aq s.p.st,.xl AK s.p.ca,.xl At s.p.mi,.xl B8 s.p.me,.xl Ac s.p.dm,.xl B4 s.p.lk,.xl A7 s.p.dr,.os 15 1 0<|M s.p.tg,.v<|ag J s.ev.ek,.v<|ag J s.ev.en,.v<|ag J s.ev.em,.v<|ag J s.ev.c1,.v<|ag J s.ev.c2,.v<|ag J s.ev.c3,.v<|ag J s.ev.c4,.v<|ag J s.ev.c5,.v<|.bool s.ev.d1,.v<|ag J s.ev.d2,.v<|ag J s.ev.d3,.v<|ag J s.ev.d4,.os 20 1 0<|M s.dw],93,.cl,X⟩,bDd,bDd,bDd,bV 3 A7 s.dw,bV 3 A7 s.CV]
def ah1:=bN f41 0
def o9 (s:KD):T (Rd KD):=letI b:=s.CV.getD s.i.toNat<|Ty.dflt A7;letI c:=M s.CV;letI a:=s.CV.set s.i.toNat (if b<(gi s.m s.i) then (gi s.m s.i) else b);.br (an<|s.i<s.k) (.ix s.i (M s.m)<|.ik s.i c<|.ik s.i c<|.re c a<|.rl s.p.cs<|.rl s.p.tg<|.rl s.dw<|.nx {s with i:=AA<|s.i+1,CV:=a})<|.rl s.CV<|.rl s.p.cs<|.rl s.p.tg<|.rl s.dw<|.so (.exit 0) s
def bJ (s:KD):Prop:=s.i=0/\s.k=(M s.m:Y)/\s.k<=1000/\M s.CV=M s.m/\(∀j,0<=j->j<s.k->gi s.CV j=C7 (AF s.p.gs j))/\True
def TZ (s:KD):Prop:=(0<=s.i/\s.i<=s.k)/\s.k=(M s.m:Y)/\s.k<=1000/\M s.CV=M s.m/\(∀j,0<=j->j<s.k->gi s.CV j=if j<s.i then mx (C7<|AF s.p.gs j) (gi s.m j) else C7 (AF s.p.gs j))/\True
def jz (s:KD):aC:=(s.k-s.i).toNat
def qT (x:Ex) (s s':KD):Prop:=x=.exit 0/\s'.CV=Fb (M s'.m) (λj=>mx (C7<|AF s'.p.gs j)<|gi s'.m j)
def avg:∀s,bJ s->TZ s:=by
 exact OT
def anl:Da TZ jz qT o9:=by
 intro s hI;obtain ⟨⟨h0,h1⟩,h2,h3,h4,h5,h6⟩:=hI;refine allR_ite (λc1=>?_) λc1=>?_
 ·have c1:s.i<s.k:=AQ
  rw [AH (x:=s.i+1)];refine ⟨⟨⟨A8,A8⟩,h2,h3,A8,λj j0 j1=>?_,h6⟩,by simp only [jz];omega⟩
  simp only
  have hi:=h5 s.i h0 c1
  rw [AD (show ¬s.i<s.i by omega)] at hi
  rw [H5 h0 W8 j0]
  by_cases e:j=s.i
  ·subst e
   rw [AB rfl,AB (show s.i<s.i+1 by omega)]
   show mx (gi s.CV s.i) (gi s.m s.i)=_
   rw [hi]
  ·exact ru
 ·exact Vq
def PN:LpD KD:=⟨21,125,[0,2,51,52,53],[],azY,ayb,λv b=>⟨As A7 v 2,AJ v 3,AJ v 4,rB b 16 4 0 0 0 0 0 0 0 0 0 0 15,rG b,AV A7 b 20,AV A7 b 21⟩,o9,λs r=> {s with i:=r.i,CV:=r.CV},λs=>s,λ_ s=>s,[.exit 0],bJ,TZ,jz⟩
abbrev iC:=PN.run
abbrev ake:=PN.exn
def aqr:Ap:=Fx MU (la 3 func84 NW<|la 2 func40 ML<|la 1 func39 Kv<|la 2 func48 Js<|la 9 func23 CI<|l0 MU) [⟨37,Mv.m,P8⟩]
def apV:Rq TZ o9:=by
 intro s hI;refine ⟨λc1=>⟨?_,?_,?_,?_,?_,?_,A9,A9,A9,ak⟩,λc1=>⟨A9,A9,A9,A9,ak⟩⟩
 all_goals ((obtain ⟨⟨h0,h1⟩,h2,h3,h4,h5,h6⟩:=hI;(try simp only [AT] at c1);first|omega|exact ⟨rfl,AG⟩ |(omega)))
def aEA:PN.Ok:={}
def aCE:PN.Pf (qT):=⟨avg,λs h=>rfl,anl,apV⟩
def Oz:SA 21 ah1 PN:=s2 aEA aCE MU aqr
def aiU:Fi bJ TZ qT ake iC:=LpD.fin aEA aCE
def apv {gs:aG}{am:aB}{b:aM}:((Fw gs am==0)&&!(an (M am=M gs)&&!b))=(an (M am=M gs)&&b):=by
 unfold Fw
 grind
def cdS (cs:aJ) (tg:aB) (i:Y):aJ:=letI a:=(cpC cs).getD i.toNat<|Ty.dflt AX;(cpC cs).set i.toNat (a.1,(a.2.1,((tg.getD i.toNat<|Ty.dflt A7),a.2.2.2)))
def Xb {cs:aJ}{tg:aB}{i:Y}(h0:0<=i) (h:i<(M cs:Y)):cdS cs tg i=cs.set i.toNat (FP (AY cs i.toNat)<|gi tg i.toNat):=by
 have e1:cs.getD i.toNat (Ty.dflt AX)=AY cs (i.toNat:Y):=by
  rw [CH,Cv A0];rw [show AY cs (i.toNat:Y)=cs[i.toNat]' A0 from Na A0];rfl
 unfold cdS;rw [XM,e1,C2 h0];rfl
structure HA where
 am:aB
 (n i:Y)
 p:PK
 ev:EW
 dw:aB
def ayl (s:HA):aD:=[.own 16 0,.xl A7 s.am,.os 15 1 0<|M s.p.tg,s.n,s.i]
def ayR (s:HA):aE:=[bDd,bDd,zB,bDd,⟨[],73,.dead,X⟩,bDd,bDd,bDd,bDd,bDd,bDd,bDd,bDd,bDd,bDd,bV 3 A7 s.p.tg,⟨[.os 21 11 0<|M s.p.cs,.xl .str s.p.os,.xl Ad s.p.ks,.xl AZ s.p.gs,.xl Ae s.p.bs,.v<|ag J s.p.tk,.v<|.bool s.p.up,.xl AK s.p.ls,.v<|ag J s.p.se,.xl (.int aw) s.p.fl,.xl Ag s.p.ra,.v<|ag J s.p.nx,.xl Aq s.p.st,.xl AK s.p.ca,.xl At s.p.mi,.xl B8 s.p.me,.xl Ac s.p.dm,.xl B4 s.p.lk,.xl A7 s.p.dr,.os 15 1 0<|M s.p.tg,.v<|ag J s.ev.ek,.v<|ag J s.ev.en,.v<|ag J s.ev.em,.v<|ag J s.ev.c1,.v<|ag J s.ev.c2,.v<|ag J s.ev.c3,.v<|ag J s.ev.c4,.v<|ag J s.ev.c5,.v<|.bool s.ev.d1,.v<|ag J s.ev.d2,.v<|ag J s.ev.d3,.v<|ag J s.ev.d4,.os 20 1 0<|M s.dw],93,.cl,X⟩,bDd,bDd,bDd,bV 3 A7 s.dw,bV 73 AX s.p.cs]
def agz:=bN f41 1
def YA (s:HA):T (Rd HA):=letI a:=((M s.p.cs:aC):Y);letI b:=cdS s.p.cs s.p.tg s.i;letI c:=(b.drop 0).take a.toNat;letI d:=AA<|s.i+1;.br (an<|s.i<s.n) (.ik s.i (M s.p.tg)<|.ik s.i (M s.p.cs)<|.br (an<|(s.p.tg.getD s.i.toNat<|Ty.dflt A7)>=(s.p.cs.getD s.i.toNat<|Ty.dflt AX).2.2.1) (.rl s.p.tg<|.rl s.p.cs<|.rl s.p.tg<|.rl s.dw<|.nx {s with i:=d})<|.rm 96 a<|.rz s.p.cs<|.rc a (ByteArray.empty,((0:Y),((0:Y),((0:Y),(((0:Y),(0:Y)),((0:Y),((0:Y),((0:Y),((0:Y),(0:Y)))))))))) (M<|AL s.p.cs)<|.ix s.i a.toNat<|.req (s.i.toNat<M (cpC s.p.cs))<|.req (0+a.toNat<=M b)<|.req (Av c s.p.os s.p.ks s.p.gs s.p.bs=U/\(M s.am=M s.p.gs->∀k:aC,k<M s.am->0<=gi s.am k/\gi s.am k<=80))<|.br (((Fw s.p.gs s.am)==0)&&(!(an (M s.am=M s.p.gs)&&!Cw c s.p.gs s.am))) (.rl s.p.tg<|.re a.toNat b<|.rl s.p.tg<|.rl s.dw<|.nx {s with i:=d,p.cs:=b})<|.rl s.p.tg<|.rl s.p.cs<|.rl s.p.tg<|.rl s.dw<|.nx {s with i:=d})<|.rl s.p.tg<|.rl s.p.cs<|.rl s.p.tg<|.rl s.dw<|.so (.exit 2) s
def Uw (s:HA):Prop:=s.i=0/\s.n=(M s.p.tg:Y)/\M s.p.tg=M s.p.cs/\Av s.p.cs s.p.os s.p.ks s.p.gs s.p.bs=U/\(∀k:aC,k<M s.p.cs->1<=gi s.p.tg k/\gi s.p.tg k<=1000)/\(M s.am=M s.p.gs->∀k:aC,k<M s.am->0<=gi s.am k/\gi s.am k<=80)
def TX (s:HA):Prop:=0<=s.i/\s.i<=s.n/\s.n=(M s.p.tg:Y)/\M s.p.tg=M s.p.cs/\Av s.p.cs s.p.os s.p.ks s.p.gs s.p.bs=U/\(∀k:aC,k<M s.p.cs->1<=gi s.p.tg k/\gi s.p.tg k<=1000)/\(M s.am=M s.p.gs->∀k:aC,k<M s.am->0<=gi s.am k/\gi s.am k<=80)
def iL (s:HA):aC:=(s.n-s.i).toNat
def adg (x:Ex) (s s':HA):Prop:=True
def ave:∀s,Uw s->TX s:=by
 exact ry
def jK {s:HA}(hI:TX s) (c1:s.i<s.n):letI a:=FP (AY s.p.cs s.i.toNat)<|gi s.p.tg s.i.toNat;((cdS s.p.cs s.p.tg s.i).drop 0).take ((M s.p.cs:aC):Y).toNat=s.p.cs.set s.i.toNat a/\Av (s.p.cs.set s.i.toNat a) s.p.os s.p.ks s.p.gs s.p.bs=true:=by
 obtain ⟨h0,h1,h2,h3,h4,h5,h6⟩:=hI;rw [Xb h0 A0];exact ⟨by rw [C0];exact Cx AG,fq h4 A0<|h5 _ A0⟩
def aoG:Da TX iL adg YA:=by
 intro s hI;unfold YA;obtain ⟨h0,h1,h2,h3,h4,h5,h6⟩:=hI
 have hs:=Ci.1 h4
 refine allR_ite (λc1=>allR_ite (λc2=>?_) λc2=>allR_ite (λc3=>?_) λc3=>?_) λc1=>trivial
 all_goals have c1:s.i<s.n:=AQ
 all_goals rw [AH (x:=s.i+1)]
 ·exact aHn
 ·rw [Xb h0 A0]
  exact ⟨⟨AR,AR,h2,A8,fq h4 A0<|h5 _ A0,A8,h6⟩,by simp only [iL];omega⟩
 ·exact aHn
def Nh:LpD HA:=⟨21,125,[0,2,72,73,74],[.pc 16 12 Aq,.kb 8,.pc 16 13 AK,.kb 9,.pc 16 14 At,.kb 10,.pc 16 15 B8,.kb 11,.pc 16 18 A7,.kb 14,.pb 2 A7,.ms 0 0],ayl,ayR,λv b=>⟨As A7 v 1,AJ v 3,AJ v 4,rB b 16 21 0 0 0 0 0 0 0 0 0 0 15,rG b,AV A7 b 20⟩,YA,λs r=> {s with i:=r.i,p.cs:=r.p.cs},λs=>s,λ_ s=>s,[.exit 2],Uw,TX,iL⟩
abbrev P0:=Nh.run
abbrev akc:=Nh.exn
def aqp:Ap:=Fx MU (la 6 func41 Oz<|la 3 func84 NW<|la 2 func40 ML<|la 1 func39 Kv<|la 2 func48 Js<|la 9 func23 CI<|l0 MU) [⟨37,Mv.m,P8⟩]
def apT:Rq TX YA:=by
 intro s hI;refine ⟨λc1=>⟨?_,?_,?_,?_,λc2=>⟨A9,A9,A9,A9,ak⟩,λc2=>⟨?_,?_,?_,?_,?_,?_,?_,λc3=>⟨A9,?_,A9,A9,ak⟩,λc3=>⟨A9,A9,A9,A9,ak⟩⟩⟩,λc1=>⟨A9,A9,A9,A9,ak⟩⟩
 all_goals ((obtain ⟨h0,h1,h2,h3,h4,h5,h6⟩:=id hI;have hs:=Ci.1 h4;simp only [AT] at c1;first|exact ⟨by rw [(jK hI c1).1];exact (jK hI c1).2,h6⟩ |((try rw [XM]);(try rw [EJ]);(try rw [Xb h0 A0]);first|omega|exact ⟨rfl,AG⟩ |(simp;done))))
def aCw:Nh.Ok:={}
def aCf:Nh.Pf (adg):=⟨ave,λs h=>rfl,aoG,apT⟩
def Rr:SA 21 agz Nh:=s2 aCw aCf MU aqp
def afi:Rs Uw akc P0 (λs:HA=>EB (V9 s.p.gs s.p.tg s.am) s.i.toNat s.p.cs (s.n-s.i).toNat) (λx s' (v:aJ)=>x=.exit 2/\s'.p.cs=v):=Cq aCw aCf (λs hI=>by
  obtain ⟨h0,h1,h2,h3,h4,h5,h6⟩:=id hI
  have hs:=Ci.1 h4
  refine allR_ite (λc1=>?_) λc1=>?_
  ·have c1:s.i<s.n:=A8
   have hg:s.p.tg.getD s.i.toNat (Ty.dflt A7)=gi s.p.tg s.i.toNat:=Iy
   have hc:(s.p.cs.getD s.i.toNat<|Ty.dflt AX)=AY s.p.cs s.i.toNat:=Iy
   rw [AH (x:=s.i+1),Jn h0 c1,hg,hc,(jK hI c1).1,Xb h0 A0,apv];refine allR_ite (λc2=>?_) λc2=>?_
   ·rw [show V9 s.p.gs s.p.tg s.am s.i.toNat s.p.cs=s.p.cs from AB<|CW c2]
    rfl
   refine allR_ite (λc3=>?_) λc3=>?_
   ·rw [show V9 s.p.gs s.p.tg s.am s.i.toNat s.p.cs=_ from (AD<|I0 c2).trans<|AB c3]
    rfl
   ·rw [show V9 s.p.gs s.p.tg s.am s.i.toNat s.p.cs=_ from (AD<|I0 c2).trans<|AD A8]
    rfl
  ·have c1:s.n<=s.i:=A8
   exact ⟨rfl,(gH c1).symm⟩)
structure GC where
 p:PK
 ev:EW
def QK (s:GC):aD:=[.own 16 0]
def Ug (s:GC):aE:=[bDd,bDd,zB,bDd,bV 73 AX s.p.cs,bV 62 AK s.p.ls,bV 5 (.int aw) s.p.fl,bV 141 Ag s.p.ra,bV 111 Aq s.p.st,bV 56 AK s.p.ca,bV 122 At s.p.mi,bV 114 B8 s.p.me,bV 58 Ac s.p.dm,bV 118 B4 s.p.lk,bV 3 A7 s.p.dr,bV 3 A7 s.p.tg,⟨[.os 4 11 0<|M s.p.cs,.xl .str s.p.os,.xl Ad s.p.ks,.xl AZ s.p.gs,.xl Ae s.p.bs,.v<|ag J s.p.tk,.v<|.bool s.p.up,.os 5 5 0<|M s.p.ls,.v<|ag J s.p.se,.os 6 1 0<|M s.p.fl,.os 7 2 0<|M s.p.ra,.v<|ag J s.p.nx,.os 8 4 0<|M s.p.st,.os 9 5 0<|M s.p.ca,.os 10 3 0<|M s.p.mi,.os 11 3 0<|M s.p.me,.os 12 4 0<|M s.p.dm,.os 13 6 0<|M s.p.lk,.os 14 1 0<|M s.p.dr,.os 15 1 0<|M s.p.tg,.v<|ag J s.ev.ek,.v<|ag J s.ev.en,.v<|ag J s.ev.em,.v<|ag J s.ev.c1,.v<|ag J s.ev.c2,.v<|ag J s.ev.c3,.v<|ag J s.ev.c4,.v<|ag J s.ev.c5,.v<|.bool s.ev.d1,.v<|ag J s.ev.d2,.v<|ag J s.ev.d3,.v<|ag J s.ev.d4,.v<|.slice aj 0 0],93,.cl,X⟩]
def Hb (s:GC):Lj:=(⟨(PK.AI s.p).lk,(M (PK.AI s.p).lk:Y),0,PK.AI s.p,s.ev,([]:aKx)⟩:Lj)
def Oo (s:GC):JB:=(⟨((M (PK.AI s.p).dr:aC):Y),0,{(PK.AI s.p) with st:=(IA<|Hb s).p.st,lk:=AL (IA<|Hb s).left},s.ev⟩:JB)
def G6 (s:GC):J9:=letI a:=(M (PK.AI s.p).gs:Y);(⟨(PK.AI s.p).gs,a,0,{(PK.AI s.p) with st:=(iH<|Oo s).p.st,lk:=AL (IA<|Hb s).left},s.ev,aq a.toNat (0:Y)⟩:J9)
def Wk (s:GC):KC:=letI a:=PK.AI s.p;letI b:=Ha<|G6 s;(⟨a.gs,(M a.gs:Y),0,{a with st:=AL b.p.st,ca:=AL a.ca,mi:=AL b.p.mi,me:=AL b.p.me,lk:=AL (IA<|Hb s).left,dr:=AL a.dr},s.ev,b.dw,aq (M a.gs:Y).toNat (0:Y)⟩:KC)
def Ol (s:GC):KD:=letI b:=PK.AI s.p;letI c:=Ha<|G6 s;letI a:=(FY b.ls (M b.gs:Y)<|AA<|b.tk+1);(⟨a,(M a:Y),0,{b with st:=AL c.p.st,ca:=AL b.ca,mi:=AL c.p.mi,me:=AL c.p.me,lk:=AL (IA<|Hb s).left,dr:=AL b.dr},s.ev,c.dw,(iB<|Wk s).out⟩:KD)
def Oj (s:GC):HA:=letI a:=PK.AI s.p;letI b:=Ha<|G6 s;(⟨AL (iC<|Ol s).CV,((M a.tg:aC):Y),0,{a with st:=AL b.p.st,ca:=AL a.ca,mi:=AL b.p.mi,me:=AL b.p.me,lk:=AL (IA<|Hb s).left,dr:=AL a.dr},s.ev,b.dw⟩:HA)
def Oi (s:GC):HA:=letI a:=PK.AI s.p;letI b:=Ha<|G6 s;(⟨([]:aB),((M a.tg:aC):Y),0,{a with st:=AL b.p.st,ca:=AL a.ca,mi:=AL b.p.mi,me:=AL b.p.me,lk:=AL (IA<|Hb s).left,dr:=AL a.dr},s.ev,b.dw⟩:HA)
structure TP where
 res:Y
 p:PK
 ev:EW
 dw:aB
def acQ (s:TP):LV:=.v<|ag J s.res
def adH (s:TP):aE:=[bDd,bDd,zB,bDd,bDd,bDd,bDd,bDd,bDd,bDd,bDd,bDd,bDd,bDd,bDd,bDd,⟨[.xl AX s.p.cs,.xl .str s.p.os,.xl Ad s.p.ks,.xl AZ s.p.gs,.xl Ae s.p.bs,.v<|ag J s.p.tk,.v<|.bool s.p.up,.xl AK s.p.ls,.v<|ag J s.p.se,.xl (.int aw) s.p.fl,.xl Ag s.p.ra,.v<|ag J s.p.nx,.xl Aq s.p.st,.xl AK s.p.ca,.xl At s.p.mi,.xl B8 s.p.me,.xl Ac s.p.dm,.xl B4 s.p.lk,.xl A7 s.p.dr,.xl A7 s.p.tg,.v<|ag J s.ev.ek,.v<|ag J s.ev.en,.v<|ag J s.ev.em,.v<|ag J s.ev.c1,.v<|ag J s.ev.c2,.v<|ag J s.ev.c3,.v<|ag J s.ev.c4,.v<|ag J s.ev.c5,.v<|.bool s.ev.d1,.v<|ag J s.ev.d2,.v<|ag J s.ev.d3,.v<|ag J s.ev.d4,.xl A7 s.dw],93,.cl,X⟩]
def Yc (s:GC):T TP:=letI a:=PK.AI s.p;letI b:=Ha<|G6 s;letI c:=(M a.gs:Y);letI d:=AL (IA<|Hb s).left;letI e:=AA<|a.tk+1;letI f:=(aq c.toNat (0:Y));.br (s.p.tk==1000000) (.rz s.p.cs<|.rz s.p.ls<|.rz s.p.fl<|.rz s.p.ra<|.rz s.p.st<|.rz s.p.ca<|.rz s.p.mi<|.rz s.p.me<|.rz s.p.dm<|.rz s.p.lk<|.rz s.p.dr<|.rz s.p.tg<|.ok<|⟨15,⟨AL s.p.cs,s.p.os,s.p.ks,s.p.gs,s.p.bs,s.p.tk,s.p.up,AL s.p.ls,s.p.se,AL s.p.fl,AL s.p.ra,s.p.nx,AL s.p.st,AL s.p.ca,AL s.p.mi,AL s.p.me,AL s.p.dm,AL s.p.lk,AL s.p.dr,AL s.p.tg⟩,s.ev,([]:aB)⟩)<|.pc s.p<|.req (au2 (⟨s.p,s.ev⟩:J7))<|.r0 Lk<|.pd a<|.req (QG.q<|Hb s)<|.rz (IA<|Hb s).left (.rl a.dr<|.rl a.cs<|.rl (IA<|Hb s).p.st<|.rl a.ca<|.rl a.mi<|.rl a.me<|.rl a.dr<|.rl a.tg<|.req (PZ.q<|Oo s)<|.rm 8 c<|.rl a.cs<|.rl (iH<|Oo s).p.st<|.rl a.ca<|.rl a.mi<|.rl a.me<|.rl a.dr<|.rl a.tg<|.re c.toNat f<|.req (QB.q<|G6 s)<|.br (! a.up) (.rz a.cs<|.rz b.p.st<|.rz a.ca<|.rz b.p.mi<|.rz b.p.me<|.rz a.dr<|.rz a.tg<|.rz b.dw<|.ok<|⟨0,{a with cs:=AL a.cs,tk:=e,st:=AL b.p.st,ca:=AL a.ca,mi:=AL b.p.mi,me:=AL b.p.me,lk:=d,dr:=AL a.dr,tg:=AL a.tg},s.ev,AL b.dw⟩)<|.br ((Hs a.ls c e)==0) (.rm 8 c<|.rz b.p.st<|.rz a.ca<|.rz b.p.mi<|.rz b.p.me<|.rz a.dr<|.re c.toNat f<|.rl a.cs<|.rl a.tg<|.rl b.dw<|.req (PM.q<|Wk s)<|.rl (iB<|Wk s).out<|.rl a.cs<|.rl a.tg<|.rl b.dw<|.req (PN.q<|Ol s)<|.rz (iC<|Ol s).CV<|.rl a.tg<|.rl a.cs<|.rl a.tg<|.rl b.dw<|.req (Nh.q<|Oj s)<|.rz (P0<|Oj s).p.cs<|.rz a.tg<|.rz b.dw<|.ok<|⟨0,{a with cs:=AL (P0<|Oj s).p.cs,tk:=e,st:=AL b.p.st,ca:=AL a.ca,mi:=AL b.p.mi,me:=AL b.p.me,lk:=d,dr:=AL a.dr,tg:=AL a.tg},s.ev,AL b.dw⟩)<|.rz b.p.st<|.rz a.ca<|.rz b.p.mi<|.rz b.p.me<|.rz a.dr<|.rl a.tg<|.rl a.cs<|.rl a.tg<|.rl b.dw<|.req (Nh.q<|Oi s)<|.rz (P0<|Oi s).p.cs<|.rz a.tg<|.rz b.dw<|.ok<|⟨0,{a with cs:=AL (P0<|Oi s).p.cs,tk:=e,st:=AL b.p.st,ca:=AL a.ca,mi:=AL b.p.mi,me:=AL b.p.me,lk:=d,dr:=AL a.dr,tg:=AL a.tg},s.ev,AL b.dw⟩)
def uo (s:GC):Prop:=(VP s.p/\RQ s.p)/\VK s.p.se s.p.fl/\Ao s.p.ls=U
def Sy (s:GC):TP:=⟨PK.H7 s.p,HK (PK.H7 s.p) (PK.B5 s.p) s.p,s.ev,if PK.H7 s.p=0 then PK.Ej s.p else []⟩
def uT:CF GC TP:=⟨QK,Ug,λv b=>⟨rF b,rG b⟩,uo,[0,1,3],[.pc 16 0 AX,.kb 4,.pc 16 7 AK,.kb 5,.pc 16 9<|.int aw,.kb 6,.pc 16 10 Ag,.kb 7,.pc 16 12 Aq,.kb 8,.pc 16 13 AK,.kb 9,.pc 16 14 At,.kb 10,.pc 16 15 B8,.kb 11,.pc 16 16 Ac,.kb 12,.pc 16 17 B4,.kb 13,.pc 16 18 A7,.kb 14,.pc 16 19 A7,.kb 15,.pc 16 32 A7],acQ,adH,Sy⟩
abbrev au9 (s:GC):Prop:=uo s/\QK s=QK s/\Ug s=Ug s
def S9:aN:=[PC,T7,TB,TA,T8,SP,SR,PD]
def aFE:Ap:=Fx S9 (la 11 func41 Rr<|la 6 func41 Oz<|la 3 func84 NW<|la 2 func40 ML<|la 1 func39 Kv<|la 2 func48 Js<|la 9 func23 CI<|l0 S9) [⟨37,Mv.m,P8⟩]
def aaQ:aKC:=addL 41 21 11 (Nh.lp)<|addL 41 21 6 (PN.lp)<|addL 84 21 3 (PM.lp)<|addL 40 20 2 (QB.lp)<|addL 39 20 1 (PZ.lp)<|addL 48 19 2 (QG.lp)<|addL 23 0 9 (FZ.lp)<|unrL prog AM S9 20 2
def ahO:LLok prog AM aaQ:=addL_ok func41 rfl AO Rr<|addL_ok func41 rfl AO Oz<|addL_ok func84 rfl AO NW<|addL_ok func40 rfl AO ML<|addL_ok func39 rfl AO Kv<|addL_ok func48 rfl AO Js<|addL_ok func23 rfl AO CI<|unrL_ok<|gk S9
def apt (s:GC):((stepH prog AM S9 aaQ aFE).k 15 (QK s)<|Ug s).bind (λq=>canT (M<|Ug s) [0] [.pc 16 0 AX,.kb 4,.pc 16 7 AK,.kb 5,.pc 16 9<|.int aw,.kb 6,.pc 16 10 Ag,.kb 7,.pc 16 12 Aq,.kb 8,.pc 16 13 AK,.kb 9,.pc 16 14 At,.kb 10,.pc 16 15 B8,.kb 11,.pc 16 16 Ac,.kb 12,.pc 16 17 B4,.kb 13,.pc 16 18 A7,.kb 14,.pc 16 19 A7,.kb 15,.pc 16 32 A7] .normal (q.1::QK s) q.2)=(Yc s).mp (λs2=>⟨.normal,M (QK s)+1,[acQ s2],adH s2,U⟩):=AO
def aoK (s:GC) (hE:uo s):(Yc s).all (λq=>q=Sy s):=by
 obtain ⟨⟨hV,hR⟩,hK,hls⟩:=id hE
 have hq:=hV.dec
 have hs:=Ci.1 hq.site
 have hs0:=Ci.1 hV.site
 have htk:s.p.AI.tk=s.p.tk:=(I7 s.p).2.2.2.2.2.1
 have hd:=aEz hR A0
 have hp:=hV.tk
 have A1:bF (Hb s):=⟨rfl,rfl,by show (M s.p.AI.lk:Y)<=20000000;omega,sS,hq.lk,hq.st⟩
 have q1:=(amV _ A1).2
 have r1:(IA<|Hb s).p.st=s.p.AI.IT.st:=by
  refine (Prod.mk.inj q1).1.trans ?_
  show (s.p.AI.lk.drop 0).foldl _ _=JD _ _ _ _ _
  rw [aex _<|Ak _,DA];rfl
 have r2:(IA<|Hb s).left=s.p.AI.IT.lk:=(Prod.mk.inj q1).2
 have h2:Oo s=⟨(M s.p.AI.dr:Y),0,s.p.AI.IT,s.ev⟩:=by
  unfold Oo;rw [r1,EJ,r2];rfl
 have A2:Zx (Oo s):=by
  rw [h2];exact ⟨rfl,rfl,hq.dr,by show (M s.p.AI.dr:Y)<=1000;rw [hq.dr];omega,hq.arr.st,by show 0<=s.p.AI.tk/\s.p.AI.tk<=1000000;rw [htk];exact hp⟩
 have r3:(iH<|Oo s).p.st=s.p.Ah.st:=by
  refine (alr _ A2).2.trans ?_;rw [h2]
  show EB (cnt1 s.p.AI.gs s.p.AI.dr s.p.AI.tk) 0 s.p.AI.IT.st ((M s.p.AI.dr:Y)-0).toNat=_
  rw [M4,BW,atQ];rfl
 have h3:G6 s=⟨s.p.Ah.gs,(M s.p.Ah.gs:Y),0,s.p.Ah,s.ev,aq (M s.p.Ah.gs) 0⟩:=by
  unfold G6;rw [r3,EJ,r2,BW];rfl
 have hb:VP s.p.Ah:=hq.arr.cnt
 have A3:Zj (G6 s):=by
  rw [h3];exact ⟨rfl,rfl,sq,rfl,hb.st,hb.ca,hb.mi,hb.me,Bc⟩
 have q4:=(amG _ A3).2
 have q4:(⟨(Ha<|G6 s).p.st,(Ha<|G6 s).p.mi,(Ha<|G6 s).p.me,(Ha<|G6 s).dw⟩:DW)=s.p.Ah.dw:=by
  refine q4.trans ?_;rw [h3]
  show EB (λk d=>ES s.p.Ah.gs s.p.Ah.ca d (k:Y)) 0 _ ((M s.p.Ah.gs:Y)-0).toNat=_
  rw [M4,BW,ayz];rfl
 have r4:(Ha<|G6 s).p.st=s.p.Ah.dw.st:=An DW.st q4
 have r5:(Ha<|G6 s).p.mi=s.p.Ah.dw.mi:=An DW.mi q4
 have r6:(Ha<|G6 s).p.me=s.p.Ah.dw.me:=An DW.me q4
 have r7:(Ha<|G6 s).dw=s.p.Ah.dw.dw:=An DW.dw q4
 have hw:AA (s.p.AI.tk+1)=s.p.AI.tk+1:=AH
 have hdr:VP s.p.Ah.Be:=hb.drw
 unfold Yc;simp only [EJ,r2,r3,r4,r5,r6,r7,hw];refine ⟨λc=>?_,λc=>?_⟩
 ·have e:s.p.H7=15:=AB (eq_of_beq c)
  repeat (refine ⟨Cm,?_⟩)
  show _=_
  unfold Sy;rw [e,He AS,AD AS]
 have e:s.p.H7=0:=AD<|C4.1 c
 repeat (refine ⟨Cm,?_⟩)
 refine ⟨⟨hE,rfl,rfl⟩,?_⟩
 repeat (refine ⟨Cm,?_⟩)
 refine ⟨⟨A1,rfl,rfl⟩,?_⟩
 repeat (refine ⟨Cm,?_⟩)
 refine ⟨⟨A2,rfl,rfl⟩,?_⟩
 repeat (refine ⟨Cm,?_⟩)
 refine ⟨⟨A3,rfl,rfl⟩,λc2=>?_,λc2=>?_⟩
 ·have c2:s.p.Ah.Be.up=false:=(CS _).mp c2
  repeat (refine ⟨Cm,?_⟩)
  show _=_
  unfold Sy;rw [e,J4 rfl,AB rfl];unfold PK.B5 PK.Hr;rw [AB c2];rfl
 have hu:¬s.p.Ah.Be.up=false:=by intro h;rw [show s.p.AI.up=X from h] at c2;cases c2
 have R:∀ {am cs},s.p.Ah.Be.Ig=am->Cp s.p.Ah.Be.gs s.p.Ah.Be.tg am s.p.Ah.Be.cs (M s.p.Ah.Be.tg)=cs->s.p.B5={s.p.AI with cs:=cs,tk:=s.p.AI.tk+1,st:=s.p.Ah.dw.st,mi:=s.p.Ah.dw.mi,me:=s.p.Ah.dw.me,lk:=s.p.AI.IT.lk}:=λh1 h2=>by
  unfold PK.B5 PK.Hr;rw [AD hu,h1,h2];rfl
 refine ⟨λc3=>?_,λc3=>?_⟩
 ·have c3:Hs s.p.AI.ls (M s.p.AI.gs) (s.p.AI.tk+1)=0:=eq_of_beq c3
  have cO:IU s.p.AI.ls (M s.p.AI.gs) (s.p.AI.tk+1)=true:=by
   unfold Hs at c3;split at c3
   ·assumption
   ·cases c3
  have cL:FY s.p.AI.ls (M s.p.AI.gs) (s.p.AI.tk+1)=FL (M s.p.AI.gs) s.p.AI.ls (s.p.AI.tk+1):=by
   unfold FY;rw [AB cO,BW]
  have hl:Ao s.p.AI.ls=true:=by
   unfold IU at cO;simp only [AP] at cO;exact cO.1.1
  have hsA:s.p.Ah.Be.Ig=Cr s.p.AI.gs s.p.AI.ls (s.p.AI.tk+1):=AB c3
  have A4:ZF (Wk s):=⟨rfl,rfl,sq,by show M (aq (M s.p.AI.gs:Y).toNat (0:Y))=_;rw [Bc,BW];rfl,λj _ _=>IF,ak⟩
  obtain ⟨_,_,_,q5⟩:=aiT _ A4
  have q5:(iB<|Wk s).out=BT s.p.AI.gs:=q5
  have hlen:M (FL (M s.p.AI.gs) s.p.AI.ls<|s.p.AI.tk+1)=M s.p.AI.gs:=Wt
  have h6:Ol s=⟨FL (M s.p.AI.gs) s.p.AI.ls<|s.p.AI.tk+1,(M s.p.AI.gs:Y),0,s.p.Ah.Be,s.ev,s.p.Ah.dw.dw,BT s.p.AI.gs⟩:=by
   unfold Ol;simp only [EJ,r2,r4,r5,r6,r7,hw,q5,cL,hlen];rfl
  have A5:bJ (Ol s):=by
   rw [h6];refine ⟨rfl,by show (M s.p.AI.gs:Y)=_;rw [hlen],sq,by show M (BT s.p.AI.gs)=_;rw [hlen];exact HY,λj j0 j1=>(show gi (BT s.p.AI.gs) j=C7 (AF s.p.AI.gs j) from MH j0 j1),ak⟩
  obtain ⟨_,_,_,q6⟩:=aiU _ A5
  have q6:(iC<|Ol s).CV=Cr s.p.AI.gs s.p.AI.ls (s.p.AI.tk+1):=by
   refine q6.trans ?_;rw [h6]
   show Fb (M<|FL (M s.p.AI.gs) s.p.AI.ls<|s.p.AI.tk+1) _=_
   rw [hlen];rfl
  have h7:Oj s=⟨Cr s.p.AI.gs s.p.AI.ls<|s.p.AI.tk+1,(M s.p.AI.tg:Y),0,s.p.Ah.Be,s.ev,s.p.Ah.dw.dw⟩:=by
   unfold Oj;simp only [EJ,r2,r4,r5,r6,r7,q6];rfl
  have A6:Uw (Oj s):=by
   rw [h7];exact ⟨rfl,rfl,hq.Em,hq.site,hq.tg1,λ_ k hk=>I9 hq.site hl A0 (by have:M (Cr s.p.AI.gs s.p.AI.ls<|s.p.AI.tk+1)=M s.p.AI.gs:=HY;have hk:k<M (Cr s.p.AI.gs s.p.AI.ls<|s.p.AI.tk+1):=hk;omega)⟩
  have q7:(P0<|Oj s).p.cs=Cp s.p.AI.gs s.p.AI.tg (Cr s.p.AI.gs s.p.AI.ls<|s.p.AI.tk+1) s.p.AI.cs (M s.p.AI.tg):=by
   exact aHi
  repeat (refine ⟨Cm,?_⟩)
  refine ⟨⟨A4,rfl,rfl⟩,?_⟩
  repeat (refine ⟨Cm,?_⟩)
  refine ⟨⟨A5,rfl,rfl⟩,?_⟩
  repeat (refine ⟨Cm,?_⟩)
  refine ⟨⟨A6,rfl,rfl⟩,?_⟩
  repeat (refine ⟨Cm,?_⟩)
  show _=_
  unfold Sy;rw [e,J4 rfl,AB rfl,R hsA q7.symm];rfl
 ·have c3:¬Hs s.p.AI.ls (M s.p.AI.gs) (s.p.AI.tk+1)=0:=C4.1 c3
  have hsA:s.p.Ah.Be.Ig=[]:=AD c3
  have h7:Oi s=⟨[],(M s.p.AI.tg:Y),0,s.p.Ah.Be,s.ev,s.p.Ah.dw.dw⟩:=by
   unfold Oi;simp only [EJ,r2,r4,r5,r6,r7];rfl
  have A6:Uw (Oi s):=by
   rw [h7];exact ⟨rfl,rfl,hq.Em,hq.site,hq.tg1,λ_ k hk=>Kf⟩
  have q7:(P0<|Oi s).p.cs=Cp s.p.AI.gs s.p.AI.tg [] s.p.AI.cs (M s.p.AI.tg):=by
   exact aHi
  repeat (refine ⟨Cm,?_⟩)
  refine ⟨⟨A6,rfl,rfl⟩,?_⟩
  repeat (refine ⟨Cm,?_⟩)
  show _=_
  unfold Sy;rw [e,J4 rfl,AB rfl,R hsA q7.symm];rfl
def atD:CSound prog AM 15 uT.m:=CF.sound (D:=uT) (t:=Yc) (gk S9) ahO aFE.h apt λs hE=>⟨aoK s hE⟩
def JP (p:PK):Prop:=(VP p/\RQ p)/\VK p.se p.fl/\Ao p.ls=U
variable {p : PK} {ev : EW}
def fX {e:EV}(h:BS p e≠0):B3 p e=PK0/\D6 p e=[]:=⟨AB h,AB h⟩
def vF (hv:Df p=U) (h:ev.ek=1):BS p ev.ev=p.H7/\(p.H7=0->B3 p ev.ev=p.B5/\D6 p ev.ev=p.Ej):=by
 exact NJ
def ae9 (hv:Df p=U) (h:ev.ek=2):BS p ev.ev=p.Ei ev.en ev.c ev.d/\(p.Ei ev.en ev.c ev.d=0->B3 p ev.ev=p.LA ev.en ev.c ev.d/\D6 p ev.ev=[]):=by
 exact NJ
def ae8 (hv:Df p=U) (h:ev.ek=3):BS p ev.ev=p.HB ev.en/\(p.HB ev.en=0->B3 p ev.ev=p.Nt ev.en/\D6 p ev.ev=[]):=by
 exact NJ
def ae7 (hv:Df p=U) (h:ev.ek=4):BS p ev.ev=p.LC ev.en/\(p.LC ev.en=0->B3 p ev.ev=p.Yz ev.en/\D6 p ev.ev=[]):=by
 exact NJ
def ae6 (hv:Df p=U) (h:ev.ek=5):BS p ev.ev=p.LF/\(p.LF=0->B3 p ev.ev=p.So/\D6 p ev.ev=[]):=by
 exact NJ
def vD (hv:Df p=U) (h:ev.ek=6):BS p ev.ev=p.Dp/\(p.Dp=0->B3 p ev.ev=p.PI/\D6 p ev.ev=[]):=by
 exact NJ
def ae5 (hv:Df p=U) (h:ev.ek=7):BS p ev.ev=p.L8 ev.en/\(p.L8 ev.en=0->B3 p ev.ev=p.aaq ev.en/\D6 p ev.ev=[]):=by
 exact NJ
def ae4 (hv:Df p=U) (h:ev.ek=8):BS p ev.ev=p.GG ev.en ev.em/\(p.GG ev.en ev.em=0->B3 p ev.ev=p.JL ev.en ev.em/\D6 p ev.ev=[]):=by
 exact NJ
def ae3 (hv:Df p=U) (h:ev.ek≠1/\ev.ek≠2/\ev.ek≠3/\ev.ek≠4/\ev.ek≠5/\ev.ek≠6/\ev.ek≠7/\ev.ek≠8):BS p ev.ev=9:=by
 obtain ⟨h1,h2,h3,h4,h5,h6,h7,h8⟩:=h
 simp [BS,hv,EW.ev,h1,h2,h3,h4,h5,h6,h7,h8]
def JP.lb (h:JP p):LB p:=by
 obtain ⟨⟨hV,hR⟩,hK,_⟩:=h
 have hs:=Ci.1 hV.site
 have hf:=hK.1.2.1
 have hl:=hR.ls
 have hk:=hR.lk
 have hr:=hR.ra
 have ht:=hV.tk
 have h1:=hV.st
 have h2:=hV.ca
 have h3:=hV.mi
 have h4:=hV.me
 have h5:=hV.dm
 have h6:=hV.dr
 have h7:=hV.Em
 have hf:M p.fl=2048:=hf
 refine ⟨?_,?_,?_,?_,?_,?_,?_,?_,?_,?_,?_,?_,λm hm=>Fy (hR.mi m hm) AS⟩<;>omega
end Go.Proofs.YtcdkianomnhhmaaGreatDoor
namespace Go.Proofs.YtcdkianomnhhmaaGreatDoor
set_option maxRecDepth 100000
set_option maxHeartbeats 4000000
open Go.Proofs.Tryz
open Go.Sx
def aAn:aD->T LV
 | [x_p,x_ev]=>(match N5 x_p with
  |some p=>(match vJ x_ev with
  |some ev=> .req (JP p) (.ok<|.tup [B3 p<|EW.ev ev,.xl A7<|D6 p<|EW.ev ev,BS p<|EW.ev ev])
  |none=> .no)
  |none=> .no)
 |_=> .no
def tkO (p:PK) (ev:EW):PK:=HK (PK.H7 p) (PK.B5 p)<|p
def aeU (p:PK) (ev:EW):PK:=HK (PK.Ei p ev.en (EW.c ev)<|EW.d ev) (PK.LA p ev.en (EW.c ev)<|EW.d ev)<|p
def aeV (p:PK) (ev:EW):PK:=HK (PK.HB p ev.en) (PK.Nt p ev.en)<|p
def aeX (p:PK) (ev:EW):PK:=HK (PK.LC p ev.en) (PK.Yz p ev.en)<|p
def aeY (p:PK) (ev:EW):PK:=HK (PK.LF p) (PK.So p)<|p
def aeZ (p:PK) (ev:EW):PK:=HK (PK.Dp p) (PK.PI p)<|p
def IW (e:Y):LV:=.tup [.agg [.xl AX ([]:aJ),.xl .str ([]:aF),.xl Ad ([]:aP),.xl AZ ([]:aG),.xl Ae ([]:aQ),.v<|ag J 0,.v<|.bool X,.xl AK ([]:aL),.v<|ag J 0,.xl (.int aw) ([]:aB),.xl Ag ([]:bu),.v<|ag J 0,.xl Aq ([]:bc),.xl AK ([]:aL),.xl At ([]:aKH),.xl B8 ([]:aKL),.xl Ac ([]:aZ),.xl B4 ([]:aKx),.xl A7 ([]:aB),.xl A7 ([]:aB)],.xl A7 ([]:aB),.v<|ag J e]
def Xe:aN:=[aun]
def aEY:Ap:=Fx Xe (la 11 func41 Rr<|la 6 func41 Oz<|la 3 func84 NW<|la 2 func40 ML<|la 1 func39 Kv<|la 2 func48 Js<|la 9 func23 CI<|l0 Xe) [⟨15,uT.m,atD⟩,⟨16,uV.m,atF⟩,⟨17,uX.m,atH⟩,⟨18,uW.m,atG⟩,⟨19,uY.m,atI⟩,⟨20,uU.m,atE⟩,⟨21,uR.m,atC⟩,⟨22,uZ.m,atJ⟩,⟨23,Hf λa=>Zf.m a [],atM⟩]
def ajq (p:PK) (ev:EW):letI a:=aeU p ev;letI b:=aeV p ev;letI e:=aeX p ev;letI f:=aeY p ev;letI g:=aeZ p ev;letI h:=(azv (⟨p⟩:Jq));letI i:=M p.me;letI j:=M p.dm;letI k:=M p.lk;letI l:=M p.dr;letI m:=M p.tg;letI n:=PK.Ei p ev.en (EW.c ev)<|EW.d ev;BO prog AM (Xe) aEY noLoops f8 [p,ev]=.req (M p.lk<=100000000) (.br (!(Df p)) (.ok<|IW 1)<|.br (ev.ek==(1:Y)) (.req h<|.rv (ev)<|.pa p<|.rl p.st<|.rl p.ca<|.rl p.mi<|.re i p.me<|.re j p.dm<|.re k p.lk<|.re l p.dr<|.re m p.tg<|.req (au9 (⟨p,ev⟩:GC))<|.br ((PK.H7 p) !=0) (.ok<|IW<|PK.H7 p)<|.ok<|.tup [tkO p ev,.xl A7 (if PK.H7 (p)=0 then PK.Ej p else []),(0:Y)])<|.br (ev.ek==(2:Y)) (.req h<|.rv (ev)<|.pa p<|.rl p.st<|.rl p.ca<|.rl p.mi<|.re i p.me<|.re j p.dm<|.re k p.lk<|.re l p.dr<|.re m p.tg<|.req (auB (⟨p,ev⟩:LW))<|.br (n !=0) (.ok<|IW n)<|.rz a.cs<|.rz a.ls<|.rz a.fl<|.rz a.ra<|.rz a.st<|.rz a.ca<|.rz a.mi<|.rz a.me<|.rz a.dm<|.rz a.lk<|.rz a.dr<|.rz a.tg<|.ok<|.tup [.agg [AL a.cs,a.os,a.ks,a.gs,a.bs,a.tk,a.up,AL a.ls,a.se,.xl (.int aw)<|AL a.fl,AL a.ra,a.nx,AL a.st,AL a.ca,AL a.mi,AL a.me,AL a.dm,AL a.lk,.xl A7<|AL a.dr,.xl A7<|AL a.tg],.xl A7 ([]:aB),(0:Y)])<|.br (ev.ek==(3:Y)) (.req h<|.rv (ev)<|.pa p<|.rl p.st<|.rl p.ca<|.rl p.mi<|.re i p.me<|.re j p.dm<|.re k p.lk<|.re l p.dr<|.re m p.tg<|.req (auD (⟨p,ev⟩:LZ))<|.br ((PK.HB p ev.en) !=0) (.ok<|IW<|PK.HB p ev.en)<|.rz b.cs<|.rz b.ls<|.rz b.fl<|.rz b.ra<|.rz b.st<|.rz b.ca<|.rz b.mi<|.rz b.me<|.rz b.dm<|.rz b.lk<|.rz b.dr<|.rz b.tg<|.ok<|.tup [.agg [AL b.cs,b.os,b.ks,b.gs,b.bs,b.tk,b.up,AL b.ls,b.se,.xl (.int aw)<|AL b.fl,AL b.ra,b.nx,AL b.st,AL b.ca,AL b.mi,AL b.me,AL b.dm,AL b.lk,.xl A7<|AL b.dr,.xl A7<|AL b.tg],.xl A7 ([]:aB),(0:Y)])<|.br (ev.ek==(4:Y)) (.req h<|.rv (ev)<|.pa p<|.rl p.st<|.rl p.ca<|.rl p.mi<|.re i p.me<|.re j p.dm<|.re k p.lk<|.re l p.dr<|.re m p.tg<|.req (auC (⟨p,ev⟩:LY))<|.br ((PK.LC p ev.en) !=0) (.ok<|IW<|PK.LC p ev.en)<|.rz e.cs<|.rz e.ls<|.rz e.fl<|.rz e.ra<|.rz e.st<|.rz e.ca<|.rz e.mi<|.rz e.me<|.rz e.dm<|.rz e.dr<|.rz e.tg<|.ok<|.tup [.agg [AL e.cs,e.os,e.ks,e.gs,e.bs,e.tk,e.up,AL e.ls,e.se,.xl (.int aw)<|AL e.fl,AL e.ra,e.nx,AL e.st,AL e.ca,AL e.mi,AL e.me,AL e.dm,e.lk,.xl A7<|AL e.dr,.xl A7<|AL e.tg],.xl A7 ([]:aB),(0:Y)])<|.br (ev.ek==(5:Y)) (.req h<|.rv (ev)<|.pa p<|.rl p.st<|.rl p.ca<|.rl p.mi<|.re i p.me<|.re j p.dm<|.re k p.lk<|.re l p.dr<|.re m p.tg<|.req (auE (⟨p,ev⟩:La))<|.br ((PK.LF p) !=0) (.ok<|IW<|PK.LF p)<|.rz f.cs<|.rz f.fl<|.rz f.ra<|.rz f.st<|.rz f.ca<|.rz f.mi<|.rz f.me<|.rz f.dm<|.rz f.lk<|.rz f.dr<|.rz f.tg<|.ok<|.tup [.agg [AL f.cs,f.os,f.ks,f.gs,f.bs,f.tk,f.up,f.ls,f.se,.xl (.int aw)<|AL f.fl,AL f.ra,f.nx,AL f.st,AL f.ca,AL f.mi,AL f.me,AL f.dm,AL f.lk,.xl A7<|AL f.dr,.xl A7<|AL f.tg],.xl A7 ([]:aB),(0:Y)])<|.br (ev.ek==(6:Y)) (.req h<|.rv (ev)<|.pa p<|.rl p.st<|.rl p.ca<|.rl p.mi<|.re i p.me<|.re j p.dm<|.re k p.lk<|.re l p.dr<|.re m p.tg<|.req (auA (⟨p,ev⟩:LU))<|.br ((PK.Dp p) !=0) (.ok<|IW<|PK.Dp p)<|.rz g.cs<|.rz g.st<|.rz g.ca<|.rz g.mi<|.rz g.me<|.rz g.dm<|.rz g.lk<|.rz g.dr<|.rz g.tg<|.ok<|.tup [.agg [AL g.cs,g.os,g.ks,g.gs,g.bs,g.tk,g.up,g.ls,g.se,.xl (.int aw) g.fl,g.ra,g.nx,AL g.st,AL g.ca,AL g.mi,AL g.me,AL g.dm,AL g.lk,.xl A7<|AL g.dr,.xl A7<|AL g.tg],.xl A7 ([]:aB),(0:Y)])<|.br (ev.ek==(7:Y)) (.req h<|.rv (ev)<|.pa p<|.rl p.st<|.rl p.ca<|.rl p.mi<|.re i p.me<|.re j p.dm<|.re k p.lk<|.re l p.dr<|.re m p.tg<|.req (au8 (⟨p,ev⟩:LR))<|.br ((PK.L8 p ev.en) !=0) (.ok<|IW<|PK.L8 p ev.en)<|.rz p.cs<|.rz p.ls<|.rz p.fl<|.rz p.ra<|.rz (if PK.isC p ev.en=U then C3 p.gs p.st ev.en 6 1 0 else p.st)<|.rz p.ca<|.rz p.mi<|.rz p.me<|.rz p.dm<|.rz p.lk<|.rz p.dr<|.rz p.tg<|.ok<|.tup [.agg [AL p.cs,p.os,p.ks,p.gs,p.bs,p.tk,p.up,AL p.ls,p.se,.xl (.int aw)<|AL p.fl,AL p.ra,p.nx,AL (if PK.isC p ev.en=U then C3 p.gs p.st ev.en 6 1 0 else p.st),AL p.ca,AL p.mi,AL p.me,AL p.dm,AL p.lk,.xl A7<|AL p.dr,.xl A7<|AL p.tg],.xl A7 ([]:aB),(0:Y)])<|.br (ev.ek==(8:Y)) (.req h<|.rv (ev)<|.pa p<|.rl p.st<|.rl p.ca<|.rl p.mi<|.re i p.me<|.re j p.dm<|.re k p.lk<|.re l p.dr<|.re m p.tg<|.req (auI (⟨p,ev⟩:K5))<|.br ((PK.GG p ev.en ev.em) !=0) (.ok<|IW<|PK.GG p ev.en ev.em)<|.rz p.cs<|.rz p.ls<|.rz p.fl<|.rz p.ra<|.rz p.st<|.rz p.ca<|.rz p.mi<|.rz p.me<|.rz p.dm<|.rz p.lk<|.rz p.dr<|.rz (if PK.GG p ev.en ev.em=1 then p.tg else p.tg.set ev.en.toNat ev.em)<|.ok<|.tup [.agg [AL p.cs,p.os,p.ks,p.gs,p.bs,p.tk,p.up,AL p.ls,p.se,.xl (.int aw)<|AL p.fl,AL p.ra,p.nx,AL p.st,AL p.ca,AL p.mi,AL p.me,AL p.dm,AL p.lk,.xl A7<|AL p.dr,.xl A7<|AL (if PK.GG p ev.en ev.em=1 then p.tg else p.tg.set ev.en.toNat ev.em)],.xl A7 ([]:aB),(0:Y)])<|.ok<|IW 9):=AO
def SL:=vo (S:=aAn) func8 Xe aEY (λargs lv h=>by
 refine ⟨?_⟩;unfold aAn at h;split at h
 ·split at h
  case h_2=>cases h
  rename_i p hp;obtain rfl:=Rm hp;split at h
  case h_2=>cases h
  rename_i ev hev;obtain rfl:=am5 hev;simp only [canL,canX];rw [ajq];obtain ⟨hJ,rfl⟩:=h;obtain ⟨⟨hV,hR⟩,hK,hl⟩:=id hJ
  have hv:=Of.2 hV
  have hs:=Ci.1 hV.site
  have hlb:=hJ.lb
  have D:Zm ⟨p⟩:=hlb
  have hlk:=hlb.lk
  refine ⟨A0,λc=>?_,λ_=>?_⟩
  ·rw [hv] at c
   cases c
  refine ⟨λc1=>?_,λc1=>?_⟩
  ·have c1:ev.ek=1:=eq_of_beq c1
   obtain ⟨s1,s2⟩:=vF hv c1;refine ⟨⟨D,rfl,rfl⟩,rfl,?_⟩
   repeat (refine ⟨Cm,?_⟩)
   refine ⟨⟨hJ,rfl,rfl⟩,λc=>?_,λc=>?_⟩
   ·exact NI
   ·have c:=D4 c
    repeat (refine ⟨Cm,?_⟩)
    show _=_
    rw [(s2 c).1,(s2 c).2,s1,c];simp only [EJ];rw [show tkO p ev=_ from J4 c,AB trivial]
  refine ⟨λc1=>?_,λc2=>?_⟩
  ·have c1:ev.ek=2:=eq_of_beq c1
   obtain ⟨s1,s2⟩:=ae9 hv c1;refine ⟨⟨D,rfl,rfl⟩,rfl,?_⟩
   repeat (refine ⟨Cm,?_⟩)
   refine ⟨⟨⟨hV.st,W4,hV.ca,hV.mi,hV.dm⟩,rfl,rfl⟩,λc=>?_,λc=>?_⟩
   ·exact NI
   ·have c:=D4 c
    repeat (refine ⟨Cm,?_⟩)
    show _=_
    rw [(s2 c).1,(s2 c).2,s1,c];simp only [EJ];rw [show aeU p ev=_ from J4 c]
  refine ⟨λc1=>?_,λc3=>?_⟩
  ·have c1:ev.ek=3:=eq_of_beq c1
   obtain ⟨s1,s2⟩:=ae8 hv c1;refine ⟨⟨D,rfl,rfl⟩,rfl,?_⟩
   repeat (refine ⟨Cm,?_⟩)
   refine ⟨⟨⟨hV.st,W4,hV.ca,hV.mi,hV.dm⟩,rfl,rfl⟩,λc=>?_,λc=>?_⟩
   ·exact NI
   ·have c:=D4 c
    repeat (refine ⟨Cm,?_⟩)
    show _=_
    rw [(s2 c).1,(s2 c).2,s1,c];simp only [EJ];rw [show aeV p ev=_ from J4 c]
  refine ⟨λc1=>?_,λc4=>?_⟩
  ·have c1:ev.ek=4:=eq_of_beq c1
   obtain ⟨s1,s2⟩:=ae7 hv c1;refine ⟨⟨D,rfl,rfl⟩,rfl,?_⟩
   repeat (refine ⟨Cm,?_⟩)
   refine ⟨⟨⟨W4,hlk⟩,rfl,rfl⟩,λc=>?_,λc=>?_⟩
   ·exact NI
   ·have c:=D4 c
    repeat (refine ⟨Cm,?_⟩)
    show _=_
    rw [(s2 c).1,(s2 c).2,s1,c];simp only [EJ];rw [show aeX p ev=_ from J4 c]
  refine ⟨λc1=>?_,λc5=>?_⟩
  ·have c1:ev.ek=5:=eq_of_beq c1
   obtain ⟨s1,s2⟩:=ae6 hv c1;refine ⟨⟨D,rfl,rfl⟩,rfl,?_⟩
   repeat (refine ⟨Cm,?_⟩)
   refine ⟨⟨ak,rfl,rfl⟩,λc=>?_,λc=>?_⟩
   ·exact NI
   ·have c:=D4 c
    repeat (refine ⟨Cm,?_⟩)
    show _=_
    rw [(s2 c).1,(s2 c).2,s1,c];simp only [EJ];rw [show aeY p ev=_ from J4 c]
  refine ⟨λc1=>?_,λc6=>?_⟩
  ·have c1:ev.ek=6:=eq_of_beq c1
   obtain ⟨s1,s2⟩:=vD hv c1;refine ⟨⟨D,rfl,rfl⟩,rfl,?_⟩
   repeat (refine ⟨Cm,?_⟩)
   refine ⟨⟨⟨hJ.2.1.1.2.2,W4⟩,rfl,rfl⟩,λc=>?_,λc=>?_⟩
   ·exact NI
   ·have c:=D4 c
    repeat (refine ⟨Cm,?_⟩)
    show _=_
    rw [(s2 c).1,(s2 c).2,s1,c];simp only [EJ];rw [show aeZ p ev=_ from J4 c]
  refine ⟨λc1=>?_,λc7=>?_⟩
  ·have c1:ev.ek=7:=eq_of_beq c1
   obtain ⟨s1,s2⟩:=ae5 hv c1;refine ⟨⟨D,rfl,rfl⟩,rfl,?_⟩
   repeat (refine ⟨Cm,?_⟩)
   refine ⟨⟨⟨hV.st,W4⟩,rfl,rfl⟩,λc=>?_,λc=>?_⟩
   ·exact NI
   ·have c:=D4 c
    have hc:p.isC ev.en=true:=by
     cases e:p.isC ev.en
     ·unfold PK.L8 at c
      rw [AB e] at c;cases c
     ·rfl
    repeat (refine ⟨Cm,?_⟩)
    show _=_
    rw [(s2 c).1,(s2 c).2,s1,c];simp only [EJ];rw [AB hc];rfl
  refine ⟨λc1=>?_,λc8=>?_⟩
  ·have c1:ev.ek=8:=eq_of_beq c1
   obtain ⟨s1,s2⟩:=ae4 hv c1;refine ⟨⟨D,rfl,rfl⟩,rfl,?_⟩
   repeat (refine ⟨Cm,?_⟩)
   refine ⟨⟨hV,rfl,rfl⟩,λc=>?_,λc=>?_⟩
   ·exact NI
   ·have c:=D4 c
    repeat (refine ⟨Cm,?_⟩)
    show _=_
    rw [(s2 c).1,(s2 c).2,s1,c];simp only [EJ];rw [AD AS];rfl
  have e:=ae3 (ev:=ev) hv ⟨C4.1 c1,C4.1 c2,C4.1 c3,C4.1 c4,C4.1 c5,C4.1 c6,C4.1 c7,C4.1 c8⟩
  show IW _=_
  rw [(fX (by rw [e];decide)).1,(fX (by rw [e];decide)).2,e]
  rfl
 ·cases h)
structure Lc where
 (k0 k i G8:Y)
 G9:aV
 RU:Y
 EI:aV
 agr:Y
 o:aB
def oK (s:Lc):T (Rd Lc):=letI a:=(s.o.set s.i.toNat (255:Y));.br (an<|s.i<s.k) (.ik s.i (M s.o)<|.re (M s.o) a<|.nx {s with i:=AA<|s.i+1,o:=a})<|.rl s.o<|.so (.exit 0) s
def cH (s:Lc):Prop:=s.i=0/\s.k=(M s.o:Y)/\s.k<=4096
def ZV (s:Lc):Prop:=0<=s.i/\s.i<=s.k/\s.o.take s.i.toNat=aq s.i.toNat 255/\s.k=(M s.o:Y)/\s.k<=4096
def jo (s:Lc):aC:=(s.k-s.i).toNat
def adt (x:Ex) (s s':Lc):Prop:=True
def ax6:∀s,cH s->ZV s:=by
 rintro s ⟨h0,h2,h3⟩
 exact ⟨A0,A0,Ed,h2,h3⟩
def asK:Da ZV jo adt oK:=by
 intro s hI;obtain ⟨h0,h1,hq,h2,h3⟩:=hI;refine allR_ite (λc1=>?_) λc1=>trivial
 have c1:s.i<s.k:=A8
 rw [AH (x:=s.i+1)];refine ⟨⟨A8,A8,?_,A8,h3⟩,by simp only [jo];omega⟩
 rw [show (s.i+1).toNat=s.i.toNat+1 by omega,VF A8,List.take_set_of_le<|Ak _,hq,List.getElem_set_self,cW]
def UY:LpD Lc:=⟨1,43,[4,5,6,33,34],[],λs=>[.own 1 0,s.k0,.own 2 0,s.k,s.i],λs=>[⟨[s.G8,.v<|s.G9],37,.cl,X⟩,⟨[s.RU,.v<|s.EI],37,.cl,X⟩,⟨[s.agr,.os 3 1 0<|M s.o],37,.cl,X⟩,bV 5 (.int aw) s.o],λv b=>⟨AJ v 1,AJ v 3,AJ v 4,Af b 0 0,gAn<|gCe (gBk b 0) 1,Af b 1 0,gAn<|gCe (gBk b 1) 1,Af b 2 0,AV (.int aw) b 3⟩,oK,λs r=> {s with i:=r.i,o:=r.o},λs=>s,λ_ s=>s,[.exit 0],cH,ZV,jo⟩
abbrev MG:=UY.run
abbrev aA1:=UY.exn
def SD:aN:=[YL]
def asX:Ap:=kI SD<|l0 SD
def ap6:Rq ZV oK:=by
 intro s hI;refine ⟨λc1=>⟨?_,?_,?_,ak⟩,λc1=>⟨A9,ak⟩⟩
 all_goals ((obtain ⟨h0,h1,hq,h2,h3⟩:=hI;(try simp only [AT] at c1);first|omega|exact ⟨rfl,AG⟩))
def aDp:UY.Ok:={}
def aDW:UY.Pf (adt):=⟨ax6,λs h=>rfl,asK,ap6⟩
def ajQ:=s2 (b:=bN f119 0) aDp aDW SD asX
def alH:Rs cH aA1 MG (λs:Lc=>aq s.k.toNat 255) (λx s' (v:aB)=>x=.exit 0/\s'.o=v):=Cq aDp aDW (λs hI=>by
  obtain ⟨h0,h1,hq,h2,h3⟩:=hI;refine allR_ite (λc1=>rfl) λc1=>⟨rfl,?_⟩
  have c1:s.k<=s.i:=A8
  rw [show s.i.toNat=s.k.toNat by omega,Cx A0] at hq
  exact hq)
def aGV:aD->T LV
 | [.v (ag J a),.v (ag J b)]=> .req (a=512/\b=4) (.ok<|.tup [.agg [(512:Y),.xl (.int aw) E9],(0:Y)])
 |_=> .no
def HZ (a b:Y):Lc:=(⟨0,(((AA<|a*b).toNat:aC):Y),0,0,.slice aj 0 0,0,.slice aj 0 0,a,aq (AA<|a*b).toNat (0:Y)⟩:Lc)
def asW:Ap:=kI SD<|la 5 func119 ajQ<|l0 SD
def alA:M E9=2048:=by unfold E9;rw [Ax,Jp,Bc,Bc];rfl
def alB:cpy [80,0,0,0,0] (aq (Int.toNat 2048) 255)=E9:=by
 have h4:CP 0=[0,0,0,0]:=AS
 have hp:B2 []=[]:=rfl
 unfold cpy E9 C8;rw [h4,hp,List.drop_replicate,De,CC,qi]
 congr 1
def auw:=vo (S:=aGV) func85 SD asW (λargs lv h=>by
 unfold aGV at h;split at h
 ·rename_i a b
  refine Al (letI d:=MG<|HZ a b;letI e:=(E8 (0:Y) ([]:aB));letI f:=AA<|a*b;letI g:=(cpy ([(80:Y),(0:Y),(0:Y),(0:Y),(0:Y)]) d.o);letI i:=M d.o;.br (an<|a<1) (.br (((1:Y) !=0) ||(! e)) (.ok<|.tup [.agg [(0:Y),.xl (.int aw) ([]:aB)],(1:Y)])<|.no /-copy to v -/)<|.br (an<|a>512) (.br (((1:Y) !=0) ||(! e)) (.ok<|.tup [.agg [(0:Y),.xl (.int aw) ([]:aB)],(1:Y)])<|.no /-copy to v -/)<|.br (an<|b<1) (.br (((1:Y) !=0) ||(! e)) (.ok<|.tup [.agg [(0:Y),.xl (.int aw) ([]:aB)],(1:Y)])<|.no /-copy to v -/)<|.req (a≠0)<|.br (an<|b>(AA<|(4096:Y).tdiv a)) (.br (((1:Y) !=0) ||(! e)) (.ok<|.tup [.agg [(0:Y),.xl (.int aw) ([]:aB)],(1:Y)])<|.no /-copy to v -/)<|.req (0<=f/\f<=f/\1*f<=2^48/\f<2^63)<|.req (0=0/\f.toNat=M (aq f.toNat (0:Y)))<|.req (UY.q<|HZ a b)<|.br ((0:Y) !=0) (.ok<|.tup [.agg [(0:Y),.xl (.int aw) ([]:aB)],(1:Y)])<|.req (0+i<=M d.o)<|.br (!(E8 a<|(d.o.drop 0).take i)) (.ok<|.tup [.agg [(0:Y),.xl (.int aw) ([]:aB)],(1:Y)])<|.req (M d.o=M d.o/\M ([(80:Y),(0:Y),(0:Y),(0:Y),(0:Y)])<=M d.o)<|.req (0+i<=M g)<|.ok<|.tup [.agg [a,.xl (.int aw)<|(g.drop 0).take i],(0:Y)]) ?_;obtain ⟨⟨rfl,rfl⟩,rfl⟩:=h
  have hw:AA (512*4)=2048:=AS
  have hk:(HZ 512 4).k=2048:=Iy
  have hl:M (HZ 512 4).o=2048:=Iy
  have hV:cH (HZ 512 4):=⟨rfl,by rw [hk,hl];rfl,th⟩
  have q:aA1 (HZ 512 4)=.exit 0/\(MG<|HZ 512 4).o=aq (HZ 512 4).k.toNat 255:=alH _ hV
  rw [hk] at q
  have hL:M (MG<|HZ 512 4).o=2048:=by rw [q.2,Bc];rfl
  have hT:(((MG<|HZ 512 4).o).drop 0).take (M (MG<|HZ 512 4).o)=(MG<|HZ 512 4).o:=AG
  have hJ:E8 512 (MG<|HZ 512 4).o=true:=Jo.2 ⟨Kw.2 (by rw [hL];decide),by rw [hL];decide,A0,A0,AS⟩
  have hC:cpy [80,0,0,0,0] (MG<|HZ 512 4).o=E9:=by rw [q.2];exact alB
  rw [hw,hT,hJ,hC,hL]
  have hj:=alA
  refine ⟨λc=>Cu,λ_=>⟨λc=>Cu,λ_=>⟨λc=>Cu,λ_=>⟨AS,λc=>Cu,λ_=>⟨AS,by rw [Bc];decide,⟨hV,rfl,rfl⟩,λc=>Cu,λ_=>⟨AS,λc=>Cu,λ_=>⟨⟨rfl,AS⟩,by rw [hj];decide,?_⟩⟩⟩⟩⟩⟩⟩
  rfl
 ·cases h)
def aFt:aD->T LV
 | []=> .ok (.tup [.agg [(512:Y),.xl (.int aw) E9],(0:Y)])
 |_=> .no
def as2:aN:=[auw]
def my:=vo (S:=aFt) func34 as2 kN (λargs lv h=>by
 refine ⟨?_⟩;unfold aFt at h;split at h
 ·simp only [canL]
  obtain rfl:=h;exact ⟨A9,rfl⟩
 ·cases h)
structure Mo where
 atq:aB
 e:Y
 l:aB
 (m i:Y)
 Aw:aJ
 BF:aF
 Bg:aP
 B7:aG
 Bh:aQ
def ye:=bN f11 0
def nR (s:Mo):T (Rd Mo):=
 .br (an<|s.i<s.m) (.ix s.i (M s.l)<|.br (!(inB (gi s.l s.i) (-200) 200)) (.so (.ret) {s with e:=(1:Y)})<|.nx {s with i:=AA<|s.i+1}) (.so (.exit 0) s)
def bU (s:Mo):Prop:=(s.i=0/\s.m=(M s.l:Y))/\s.m<=1000/\s.e=0
def Ti (s:Mo):Prop:=(0<=s.i/\s.m=(M s.l:Y))/\s.m<=1000/\s.e=0/\∀j:aC,(j:Y)<s.i->inB (gi s.l j) (-200) 200=U
def kL (s:Mo):aC:=(s.m-s.i).toNat
def qC (x:Ex) (s s':Mo):Prop:=(x=.exit 0/\s'.e=0/\s'.l.all (λx=>inB x (-200) 200)=U)\/(x=.ret/\s'.e=1/\s'.l.all (λx=>inB x (-200) 200)=X)
def awQ:∀s,bU s->Ti s:=by
 rintro s ⟨⟨h0,h1⟩,h2,h3⟩
 exact ⟨⟨A0,h1⟩,h2,h3,λj hj=>A0⟩
def aq5:Da Ti kL qC nR:=by
 intro s hI;obtain ⟨⟨h0,h1⟩,h2,h3,h4⟩:=hI
 have key:s.l.all (λx=>inB x (-200) 200)=Ck (M s.l) (λk=>inB (gi s.l k) (-200) 200):=(gG (f:=λx=>inB x (-200) 200)).symm
 refine allR_ite (λc1=>allR_ite (λc2=>?_) λc2=>?_) λc1=>?_
 ·have c1:s.i<s.m:=AQ
  refine .inr ⟨rfl,rfl,?_⟩;rw [key];exact MP s.i.toNat A0 A8
 ·have c1:s.i<s.m:=A8
  have c2:=(G0 _).mp c2
  rw [AH (x:=s.i+1)];refine ⟨⟨⟨A8,h1⟩,h2,h3,λj hj=>?_⟩,by simp only [kL];omega⟩
  by_cases e:(j:Y)<s.i
  ·exact h4 j e
  ·rw [show (j:Y)=s.i by grind]
   exact c2
 ·have c1:s.m<=s.i:=A8
  exact .inl ⟨rfl,h3,by rw [key];exact D3.2 λj hj=>h4 j A0⟩
def Pl:LpD Mo:=⟨0,105,[1,2,4,5,27,28,29],[],λs=>[.xl A7 s.atq,.own 0 0,.own 1 0,s.e,.xl A7 s.l,s.m,s.i],λs=>[⟨[s.Aw,s.BF,s.Bg,s.B7,s.Bh],28,.cl,X⟩,zB],λv b=>⟨As A7 v 0,AJ v 3,As A7 v 4,AJ v 5,AJ v 6,AE AX b 0 0,AE .str b 0 1,AE Ad b 0 2,AE AZ b 0 3,AE Ae b 0 4⟩,nR,λs r=> {s with e:=r.e,i:=r.i},λs=>s,λ_ s=>s,[.ret,.exit 0],bU,Ti,kL⟩
abbrev Ru:=Pl.run
abbrev gj:=Pl.exn
def aol:Rq Ti nR:=by
 exact aHu
def XF:aN:=[MT,YM,XQ,my,Rp]
def mL:Ap:=kI XF<|la 11 func41 Rr<|la 6 func41 Oz<|la 3 func84 NW<|la 2 func40 ML<|la 1 func39 Kv<|la 2 func48 Js<|la 9 func23 CI<|l0 XF
def aEL:Pl.Ok:={}
def aDK:Pl.Pf (qC):=⟨awQ,λs h=>rfl,aq5,aol⟩
def aiz:SA 0 ye Pl:=s1 aEL aDK XF mL
def akK:Fi bU Ti qC gj Ru:=LpD.fin aEL aDK
structure Mn where
 (e n i:Y)
 Aw:aJ
 BF:aF
 Bg:aP
 B7:aG
 Bh:aQ
 jZ:aJ
 p1:aF
 p2:aP
 p3:aG
 p4:aQ
 (p9 Ov:aB)
 ra:bu
 st:bc
 ca:aL
 mi:aKH
 me:aKL
 dm:aZ
def yd:=bN f11 1
def nQ (s:Mn):T (Rd Mn):=letI a:=(X,((0:Y),((0:Y),(9:Y))));letI b:=((AA<|s.i+1),((0:Y),X));letI c:=(s.st++([((0:Y),((0:Y),((0:Y),X)))]));.br (an<|s.i<s.n) (.rb (M s.st) (M<|[((0:Y),((0:Y),((0:Y),X)))]) 32<|.rb (M s.me) (M<|[b]) 24<|.rb (M s.dm) (M<|[a]) 32<|.rl s.ra<|.re (M s.st+M ([((0:Y),((0:Y),((0:Y),X)))])) c<|.rl s.ca<|.rl s.mi<|.re (M s.me+M ([b])) (s.me++([b]))<|.re (M s.dm+M ([a])) (s.dm++([a]))<|.nx {s with i:=AA<|s.i+1,st:=c,me:=s.me++([b]),dm:=s.dm++([a])})<|.rl s.ra<|.rl s.st<|.rl s.ca<|.rl s.mi<|.rl s.me<|.rl s.dm<|.so (.exit 2) s
def bT (s:Mn):Prop:=s.i=0/\(s.n<=1000/\0<=s.n)/\s.st=[]/\s.me=[]/\s.dm=[]
def Th (s:Mn):Prop:=(0<=s.i/\s.i<=s.n)/\(s.n<=1000/\0<=s.n)/\s.st=aq s.i.toNat (0,0,0,X)/\s.me=(EO s.i.toNat).map (λk=>(k+1,0,X))/\s.dm=aq s.i.toNat (X,0,0,9)
def kK (s:Mn):aC:=(s.n-s.i).toNat
def qb (x:Ex) (s s':Mn):Prop:=x=.exit 2/\s'.st=aq s'.n.toNat (0,0,0,X)/\s'.me=(EO s'.n.toNat).map (λk=>(k+1,0,X))/\s'.dm=aq s'.n.toNat (X,0,0,9)
def awP:∀s,bT s->Th s:=by
 rintro s ⟨h0,h1,h2,h3,h4⟩
 refine ⟨A0,h1,?_,?_,?_⟩
 ·simp_all
 ·rw [h3,h0];rfl
 ·simp_all
def aq4:Da Th kK qb nQ:=by
 intro s hI;obtain ⟨⟨h0,h1⟩,h2,h3,h4,h5⟩:=hI;refine allR_ite (λc1=>?_) λc1=>?_
 ·have c1:s.i<s.n:=A8
  rw [AH (x:=s.i+1)]
  have e:(s.i+1).toNat=s.i.toNat+1:=A0
  refine ⟨⟨⟨A8,A8⟩,h2,?_,?_,?_⟩,by simp only [kK];omega⟩
  ·show s.st++[_]=aq (s.i+1).toNat _
   rw [e,h3,cW]
  ·show s.me++[_]=(EO (s.i+1).toNat).map _
   rw [e,h4,af7,Iq,C2 h0];rfl
  ·show s.dm++[_]=aq (s.i+1).toNat _
   rw [e,h5,cW]
 ·have c1:s.n<=s.i:=A8
  have e:s.i=s.n:=A0
  rw [e] at h3 h4 h5;exact ⟨rfl,h3,h4,h5⟩
def Pk:LpD Mn:=⟨0,105,[2,4,5,11,63,64],[.ns 11 12 111 Aq,.ns 11 15 114 B8,.ns 11 16 58 Ac],λs=>[.own 0 0,.own 1 0,s.e,.own 2 0,s.n,s.i],λs=>[⟨[s.Aw,s.BF,s.Bg,s.B7,s.Bh],28,.cl,X⟩,zB,⟨[s.jZ,s.p1,s.p2,s.p3,s.p4,(0:Y),U,.v<|.slice aj 0 0,(512:Y),.xl (.int aw) s.p9,.os 3 2 0<|M s.ra,(1:Y),.os 4 4 0<|M s.st,.os 5 5 0<|M s.ca,.os 6 3 0<|M s.mi,.os 7 3 0<|M s.me,.os 8 4 0<|M s.dm,.v<|.slice aj 0 0,.xl A7 s.Ov,.v<|.slice aj 0 0],48,.cl,X⟩,bV 141 Ag s.ra,bV 111 Aq s.st,bV 56 AK s.ca,bV 122 At s.mi,bV 114 B8 s.me,bV 58 Ac s.dm],λv b=>⟨AJ v 2,AJ v 4,AJ v 5,AE AX b 0 0,AE .str b 0 1,AE Ad b 0 2,AE AZ b 0 3,AE Ae b 0 4,AE AX b 2 0,AE .str b 2 1,AE Ad b 2 2,AE AZ b 2 3,AE Ae b 2 4,AE (.int aw) b 2 9,AE A7 b 2 18,AV Ag b 3,AV Aq b 4,AV AK b 5,AV At b 6,AV B8 b 7,AV Ac b 8⟩,nQ,λs r=> {s with i:=r.i,st:=r.st,me:=r.me,dm:=r.dm},λs=>s,λ_ s=>s,[.exit 2],bT,Th,kK⟩
abbrev Kh:=Pk.run
abbrev akj:=Pk.exn
def aph:Rq Th nQ:=by
 intro s hI;refine ⟨λc1=>⟨?_,?_,?_,A9,?_,A9,A9,?_,?_,ak⟩,λc1=>⟨A9,A9,A9,A9,A9,A9,ak⟩⟩
 all_goals ((obtain ⟨⟨h0,h1⟩,h2,h3,h4,h5⟩:=hI;have l1:M s.st=s.i.toNat:=A8;have l2:M s.me=s.i.toNat:=(by rw [h4];simp [MK]);have l3:M s.dm=s.i.toNat:=A8;simp only [AT] at c1;first|(simp only [BI,BQ];omega) |(simp only [Ax,BI,BQ,DZ];done) |exact ⟨rfl,AG⟩))
def aEK:Pk.Ok:={}
def aDJ:Pk.Pf (qb):=⟨awP,λs h=>rfl,aq4,aph⟩
def ahk:SA 0 yd Pk:=s1 aEK aDJ XF mL
def akJ:Fi bT Th qb akj Kh:=LpD.fin aEK aDJ
structure Mm where
 e:Y
 l:aJ
 (n i:Y)
 jZ:aJ
 p1:aF
 p2:aP
 p3:aG
 p4:aQ
 (p9 Ov:aB)
 ra:bu
 st:bc
 ca:aL
 mi:aKH
 me:aKL
 dm:aZ
 tg:aB
def yc:=bN f11 2
def nP (s:Mm):T (Rd Mm):=letI a:=AY s.l s.i;.br (an<|s.i<s.n) (.ix s.i (M s.l)<|.rb (M s.tg) (M<|[a.2.2.1]) 8<|.rl s.ra<|.rl s.st<|.rl s.ca<|.rl s.mi<|.rl s.me<|.rl s.dm<|.re (M s.tg+M ([a.2.2.1])) (s.tg++([a.2.2.1]))<|.nx {s with i:=AA<|s.i+1,tg:=s.tg++([a.2.2.1])})<|.rl s.ra<|.rl s.st<|.rl s.ca<|.rl s.mi<|.rl s.me<|.rl s.dm<|.rl s.tg<|.so (.exit 4) s
def bS (s:Mm):Prop:=s.i=0/\(s.n=(M s.l:Y)/\s.n<=1000)/\s.tg=[]
def Tg (s:Mm):Prop:=(0<=s.i/\s.i<=s.n)/\(s.n=(M s.l:Y)/\s.n<=1000)/\s.tg=(s.l.take s.i.toNat).map (λc=>c.2.2.1)
def kJ (s:Mm):aC:=(s.n-s.i).toNat
def qa (x:Ex) (s s':Mm):Prop:=x=.exit 4/\s'.tg=s'.l.map (λc=>c.2.2.1)
def awO:∀s,bS s->Tg s:=by
 rintro s ⟨h0,h1,h2⟩
 exact ⟨A0,h1,Ed⟩
def aq3:Da Tg kJ qa nP:=by
 intro s hI;obtain ⟨⟨h0,h1⟩,⟨h2,h3⟩,h4⟩:=hI;refine allR_ite (λc1=>?_) λc1=>?_
 ·have c1:s.i<s.n:=A8
  rw [AH (x:=s.i+1)]
  have e:(s.i+1).toNat=s.i.toNat+1:=A0
  refine ⟨⟨⟨A8,A8⟩,⟨h2,h3⟩,?_⟩,by simp only [kJ];omega⟩
  show s.tg++[_]=(s.l.take (s.i+1).toNat).map _
  have e2:AY s.l s.i=s.l[s.i.toNat]' A0:=by
   have:=Na (cs:=s.l) (k:=s.i.toNat) A0
   exact this
  rw [e,h4,VF A0,Iq,e2];rfl
 ·have c1:s.n<=s.i:=A8
  refine ⟨rfl,?_⟩;rw [h4,Cx A0]
def Pj:LpD Mm:=⟨0,105,[4,5,11,89,90,91],[.ns 11 19 3 A7],λs=>[.own 0 0,s.e,.own 1 0,s.l,s.n,s.i],λs=>[zB,⟨[s.jZ,s.p1,s.p2,s.p3,s.p4,(0:Y),U,.v<|.slice aj 0 0,(512:Y),.xl (.int aw) s.p9,.os 2 2 0<|M s.ra,(1:Y),.os 3 4 0<|M s.st,.os 4 5 0<|M s.ca,.os 5 3 0<|M s.mi,.os 6 3 0<|M s.me,.os 7 4 0<|M s.dm,.v<|.slice aj 0 0,.xl A7 s.Ov,.os 8 1 0<|M s.tg],48,.cl,X⟩,bV 141 Ag s.ra,bV 111 Aq s.st,bV 56 AK s.ca,bV 122 At s.mi,bV 114 B8 s.me,bV 58 Ac s.dm,bV 3 A7 s.tg],λv b=>⟨AJ v 1,As AX v 3,AJ v 4,AJ v 5,AE AX b 1 0,AE .str b 1 1,AE Ad b 1 2,AE AZ b 1 3,AE Ae b 1 4,AE (.int aw) b 1 9,AE A7 b 1 18,AV Ag b 2,AV Aq b 3,AV AK b 4,AV At b 5,AV B8 b 6,AV Ac b 7,AV A7 b 8⟩,nP,λs r=> {s with i:=r.i,tg:=r.tg},λs=>s,λ_ s=>s,[.exit 4],bS,Tg,kJ⟩
abbrev WZ:=Pj.run
abbrev aki:=Pj.exn
def apg:Rq Tg nP:=by
 intro s hI;refine ⟨λc1=>⟨?_,?_,A9,A9,A9,A9,A9,A9,?_,ak⟩,λc1=>⟨A9,A9,A9,A9,A9,A9,A9,ak⟩⟩
 all_goals ((obtain ⟨⟨h0,h1⟩,⟨h2,h3⟩,h4⟩:=hI;have l1:M s.tg=s.i.toNat:=A8;simp only [AT] at c1;first|omega|(simp only [BI,BQ];omega) |(simp only [Ax,BI,BQ,DZ];done)))
def aEJ:Pj.Ok:={}
def aDI:Pj.Pf (qa):=⟨awO,λs h=>rfl,aq3,apg⟩
def ahi:SA 0 yc Pj:=s1 aEJ aDI XF mL
def akI:Fi bS Tg qa aki WZ:=LpD.fin aEJ aDI
structure L7 where
 (n i:Y)
 j8:aJ
 b11:aF
 b12:aP
 b13:aG
 b14:aQ
 (b19 wH:aB)
 b2:bu
 b3:bc
 b4:aL
 b5:aKH
 b6:aKL
 b7:aZ
 b8:aB
 p1:aF
 p2:aP
 p3:aG
 p4:aQ
 Ov:aB
 Qh:aJ
 fR:aL
 fQ:aB
 fP:bu
 b15:bc
 b16:aL
 o:aKH
def nO (s:L7):T (Rd L7):=letI a:=s.o.getD s.i.toNat<|Ty.dflt At;.br (an<|s.i<s.n) (.ik s.i (M s.o)<|.req (M a.1<=100000000)<|.ik s.i (M s.o)<|.rl s.b2<|.rl s.b3<|.rl s.b4<|.rl s.b5<|.rl s.b6<|.rl s.b7<|.rl s.b8<|.rl s.Qh<|.rl s.fR<|.rl s.fQ<|.rl s.fP<|.rl s.b15<|.rl s.b16<|.re (M s.o) (s.o.set s.i.toNat a)<|.rl s.b6<|.rl s.b7<|.rl s.b8<|.nx {s with i:=AA<|s.i+1,o:=s.o.set s.i.toNat a})<|.rl s.b2<|.rl s.b3<|.rl s.b4<|.rl s.b5<|.rl s.b6<|.rl s.b7<|.rl s.b8<|.rl s.Qh<|.rl s.fR<|.rl s.fQ<|.rl s.fP<|.rl s.b15<|.rl s.b16<|.rl s.o<|.rl s.b6<|.rl s.b7<|.rl s.b8<|.so (.exit 0) s
def bR (s:L7):Prop:=s.i=0/\s.n=(M s.o:Y)/\s.n<=1000/\∀m∈s.o,M m.1<=1000
def ZQ (s:L7):Prop:=0<=s.i/\s.i<=s.n/\s.n=(M s.o:Y)/\s.n<=1000/\∀m∈s.o,M m.1<=1000
def kH (s:L7):aC:=(s.n-s.i).toNat
def adi (x:Ex) (s s':L7):Prop:=True
def awN:∀s,bR s->ZQ s:=by
 exact aIN
def aq2:Da ZQ kH adi nO:=by
 intro s hI;obtain ⟨h0,h1,h2,h3,h4⟩:=hI;refine allR_ite (λc1=>?_) λc1=>trivial
 ·have c1:s.i<s.n:=A8
  have e:=set_self (l:=s.o) (i:=s.i.toNat) (d:=Ty.dflt At) A0
  rw [AH (x:=s.i+1),e];exact ⟨⟨A8,A8,h2,h3,h4⟩,by simp only [kH];omega⟩
def UU:LpD L7:=⟨9,82,[1,2,44,45],[],λs=>[.own 9 0,.own 10 0,s.n,s.i],λs=>[zB,⟨[s.j8,s.b11,s.b12,s.b13,s.b14,(0:Y),U,.v<|.slice aj 0 0,(512:Y),.xl (.int aw) s.b19,.os 2 2 0<|M s.b2,(1:Y),.os 3 4 0<|M s.b3,.os 4 5 0<|M s.b4,.os 5 3 0<|M s.b5,.os 6 3 0<|M s.b6,.os 7 4 0<|M s.b7,.v<|.slice aj 0 0,.xl A7 s.wH,.os 8 1 0<|M s.b8],48,.cl,X⟩,bV 141 Ag s.b2,bV 111 Aq s.b3,bV 56 AK s.b4,bV 122 At s.b5,bV 114 B8 s.b6,bV 58 Ac s.b7,bV 3 A7 s.b8,⟨[.os 11 11 0<|M s.Qh,s.p1,s.p2,s.p3,s.p4,(0:Y),U,.os 12 5 0<|M s.fR,(512:Y),.os 13 1 0<|M s.fQ,.os 14 2 0<|M s.fP,(1:Y),.os 15 4 0<|M s.b15,.os 16 5 0<|M s.b16,.os 17 3 0<|M s.o,.os 6 3 0<|M s.b6,.os 7 4 0<|M s.b7,.v<|.slice aj 0 0,.xl A7 s.Ov,.os 8 1 0<|M s.b8],48,.cl,X⟩,zB,bV 73 AX s.Qh,bV 62 AK s.fR,bV 5 (.int aw) s.fQ,bV 141 Ag s.fP,bV 111 Aq s.b15,bV 56 AK s.b16,bV 122 At s.o],λv b=>⟨AJ v 2,AJ v 3,AE AX b 1 0,AE .str b 1 1,AE Ad b 1 2,AE AZ b 1 3,AE Ae b 1 4,AE (.int aw) b 1 9,AE A7 b 1 18,AV Ag b 2,AV Aq b 3,AV AK b 4,AV At b 5,AV B8 b 6,AV Ac b 7,AV A7 b 8,AE .str b 9 1,AE Ad b 9 2,AE AZ b 9 3,AE Ae b 9 4,AE A7 b 9 18,AV AX b 11,AV AK b 12,AV (.int aw) b 13,AV Ag b 14,AV Aq b 15,AV AK b 16,AV At b 17⟩,nO,λs r=> {s with i:=r.i,o:=r.o},λs=>s,λ_ s=>s,[.exit 0],bR,ZQ,kH⟩
abbrev iF:=UU.run
abbrev akh:=UU.exn
def lP:aN:=[MT,YM,XQ,my,Rp,aal]
def aqo:Ap:=kI lP<|la 11 func41 Rr<|la 6 func41 Oz<|la 3 func84 NW<|la 2 func40 ML<|la 1 func39 Kv<|la 2 func48 Js<|la 9 func23 CI<|l0 lP
def apf:Rq ZQ nO:=by
 intro s hI;refine ⟨λc1=>⟨?_,?_,?_,?_,?_,A9,A9,A9,A9,A9,A9,A9,A9,A9,A9,A9,A9,A9,?_,A9,A9,A9,ak⟩,λc1=>⟨A9,A9,A9,A9,A9,A9,A9,A9,A9,A9,A9,A9,A9,A9,A9,A9,A9,ak⟩⟩
 all_goals ((obtain ⟨h0,h1,h2,h3,h4⟩:=hI;(try simp only [AT] at c1);first|omega|exact ⟨rfl,AG⟩ |exact ⟨rfl,rfl⟩ |exact Fy (h4 _<|getD_mem A0) AS))
def aEI:UU.Ok:={}
def aCM:UU.Pf (adi):=⟨awN,λs h=>rfl,aq2,apf⟩
def ahh:=s2 (b:=bN f23 0) aEI aCM lP aqo
def akH:Rs bR akh iF (λs:L7=>s.o) (λx s' (v:aKH)=>x=.exit 0/\s'.o=v):=Cq aEI aCM (λs hI=>by
  obtain ⟨h0,h1,h2,h3,h4⟩:=hI;refine allR_ite (λc1=>?_) λc1=>⟨rfl,rfl⟩
  have c1:s.i<s.n:=A8
  have e:=set_self (l:=s.o) (i:=s.i.toNat) (d:=Ty.dflt At) A0
  rw [e];exact rfl)
def aGM:aD->T LV
 | .agg a::r=>s5 a λcs os ks gs bs=>(match r with
  | [.xl (.int J) dr]=> .req (M dr<=1000) (.ok<|.tup [newP cs os ks gs bs dr,Dz cs os ks gs bs dr])
  |_=> .no)
 |_=> .no
def En {α:Type}(d:α) (l:List α):List α:=cpy (AL l)<|aq (M l:Y).toNat d
def aGA {α:Type}(d:α) (l:List α):En d l=l:=by
 unfold En;rw [EJ];exact NZ
def Ja {α:Type}(d:α) (l:List α):List α:=cpy l<|aq (M l:Y).toNat d
def atN {α:Type}(d:α) (l:List α):Ja d l=l:=NZ
def cpN {α:Type}(d:α):List α:=cpy []<|aq (0:Y).toNat d
def atO {α:Type}(d:α):cpN d=[]:=rfl
def DT {α:Type}(gs:aG) (d:α):List α:=aq (M gs:Y).toNat d
def wU {α:Type}(gs:aG) (d:α):DT gs d=aq (M gs) d:=by
 unfold DT
 grind
def zNV (e:Y):LV:=.tup [.agg [.xl AX ([]:aJ),.xl .str ([]:aF),.xl Ad ([]:aP),.xl AZ ([]:aG),.xl Ae ([]:aQ),.v<|ag J 0,.v<|.bool X,.xl AK ([]:aL),.v<|ag J 0,.xl (.int aw) ([]:aB),.xl Ag ([]:bu),.v<|ag J 0,.xl Aq ([]:bc),.xl AK ([]:aL),.xl At ([]:aKH),.xl B8 ([]:aKL),.xl Ac ([]:aZ),.xl B4 ([]:aKx),.xl A7 ([]:aB),.xl A7 ([]:aB)],.v<|ag J e]
def fB:Cd:=(ByteArray.empty,((0:Y),((0:Y),((0:Y),(((0:Y),(0:Y)),((0:Y),((0:Y),((0:Y),((0:Y),(0:Y))))))))))
def Hi:Le:=((0:Y),((0:Y),((0:Y),((0:Y),(0:Y)))))
def L2:Ra:=((0:Y),(0:Y))
def aad:St:=((0:Y),((0:Y),((0:Y),X)))
def aeM:Me:=((0:Y),((0:Y),X))
def aeO:Dm:=(X,((0:Y),((0:Y),(0:Y))))
def IK:Mi:=(([]:aB),((0:Y),(0:Y)))
def N4:Y:=(0:Y)
def aeN:Lk:=((0:Y),((0:Y),((0:Y),((0:Y),((0:Y),(0:Y))))))
def NR (cs:aJ) (os:aF) (ks:aP) (gs:aG) (bs:aQ) (dr:aB):Mo:=(⟨dr,0,dr,(M dr:Y),0,cs,os,ks,gs,bs⟩:Mo)
def Jj (cs:aJ) (os:aF) (ks:aP) (gs:aG) (bs:aQ) (dr:aB):Mn:=(⟨(Ru<|NR cs os ks gs bs dr).e,(M gs:Y),0,cs,os,ks,gs,bs,cs,os,ks,gs,bs,E9,dr,DT gs L2,([]:bc),DT gs Hi,DT gs IK,([]:aKL),([]:aZ)⟩:Mn)
def RI (cs:aJ) (os:aF) (ks:aP) (gs:aG) (bs:aQ) (dr:aB):Mm:=letI a:=Kh<|Jj cs os ks gs bs dr;(⟨(Ru<|NR cs os ks gs bs dr).e,cs,(M cs:Y),0,cs,os,ks,gs,bs,E9,dr,DT gs L2,a.st,DT gs Hi,DT gs IK,a.me,a.dm,([]:aB)⟩:Mm)
def fg (cs:aJ) (os:aF) (ks:aP) (gs:aG) (bs:aQ) (dr:aB):L7:=letI a:=Kh<|Jj cs os ks gs bs dr;(⟨((((M (DT gs IK):aC):Y).toNat:aC):Y),0,cs,os,ks,gs,bs,E9,dr,DT gs L2,a.st,DT gs Hi,DT gs IK,a.me,a.dm,(WZ<|RI cs os ks gs bs dr).tg,os,ks,gs,bs,dr,Ja fB cs,cpN Hi,Ja N4 E9,En L2<|DT gs L2,En aad a.st,En Hi<|DT gs Hi,En IK<|DT gs IK⟩:L7)
def lO:aN:=[MT,YM,XQ,my,Rp]
def aqn:Ap:=kI lO<|la 9 func23 ahh<|la 11 func41 Rr<|la 6 func41 Oz<|la 3 func84 NW<|la 2 func40 ML<|la 1 func39 Kv<|la 2 func48 Js<|la 9 func23 CI<|l0 lO
def mq:=vm (S:=aGM) func11 lO aqn (L:=(λi=>if i=4 then Pl.lp else if i=17 then Pk.lp else if i=24 then Pj.lp else noLoops i)) (λb hb=>by
 rw [show loopsIn _=[ye,yd,yc] by kernel_rfl] at hb
 simp only [Au,BX,BV] at hb;rcases hb with rfl|rfl|rfl
 ·exact aiz
 ·exact ahk
 ·exact ahi) (λargs lv h=>by
 unfold aGM at h;split at h
 case h_2=>cases h
 replace h:=GB h
 obtain ⟨cs,os,ks,gs,bs,rfl,h⟩:=h;split at h
 ·rename_i dr
  refine Al (letI a:=Kh<|Jj cs os ks gs bs dr;letI b:=WZ<|RI cs os ks gs bs dr;letI d:=DT gs L2;letI f:=DT gs Hi;letI g:=(M gs:Y);letI j:=((M a.me:aC):Y);letI l:=((M a.dm:aC):Y);letI n:=((M b.tg:aC):Y);letI p:=DT gs IK;letI r:=(M dr:Y);letI s:=((M a.st:aC):Y);letI t:=((M d:aC):Y);letI u:=((M f:aC):Y);letI v:=((M p:aC):Y);letI w:=NR cs os ks gs bs dr;letI y:=fg cs os ks gs bs dr;letI z:=(M cs:Y);letI A:=(M E9:Y);letI B:=(M ([]:aL));letI C:=En aad a.st;.br ((!(Av cs os ks gs bs)) ||(r !=g)) (.ok<|zNV 1)<|.req (Pl.q w)<|.br (isEx (gj w)<|.ret) (.ok<|.tup [.agg [.xl AX ([]:aJ),.xl .str ([]:aF),.xl Ad ([]:aP),.xl AZ ([]:aG),.xl Ae ([]:aQ),(0:Y),X,.xl AK ([]:aL),(0:Y),.xl (.int aw) ([]:aB),.xl Ag ([]:bu),(0:Y),.xl Aq ([]:bc),.xl AK ([]:aL),.xl At ([]:aKH),.xl B8 ([]:aKL),.xl Ac ([]:aZ),.xl B4 ([]:aKx),.xl A7 ([]:aB),.xl A7 ([]:aB)],(Ru w).e])<|.req (Av cs os ks gs bs=U)<|.br (!Cw cs gs (BT gs)) (.ok<|zNV 13)<|.br ((0:Y) !=0) (.ok<|zNV 0)<|.rm 16 g<|.rm 40 g<|.rm 40 g<|.re g.toNat d<|.r0 St<|.re g.toNat f<|.re g.toNat p<|.r0 Me<|.r0 Dm<|.req (Pk.q<|Jj cs os ks gs bs dr)<|.rl d<|.rl a.st<|.rl f<|.rl p<|.rl a.me<|.rl a.dm<|.r0 Int<|.req (Pj.q<|RI cs os ks gs bs dr)<|.rm 96 z<|.rc z (ByteArray.empty,((0:Y),((0:Y),((0:Y),(((0:Y),(0:Y)),((0:Y),((0:Y),((0:Y),((0:Y),(0:Y)))))))))) (M cs)<|.rm 40 (0:Y)<|.rc (0:Y) ((0:Y),((0:Y),((0:Y),((0:Y),(0:Y))))) B<|.rm 1 A<|.rc A (0:Y) (M E9)<|.rm 16 t<|.rz d<|.rc t ((0:Y),(0:Y)) (M<|AL d)<|.rm 32 s<|.rz a.st<|.rc s ((0:Y),((0:Y),((0:Y),X))) (M<|AL a.st)<|.rm 40 u<|.rz f<|.rc u ((0:Y),((0:Y),((0:Y),((0:Y),(0:Y))))) (M<|AL f)<|.rm 40 v<|.rz p<|.rc v (([]:aB),((0:Y),(0:Y))) (M<|AL p)<|.rl d<|.rl a.st<|.rl f<|.rl p<|.rl a.me<|.rl a.dm<|.rl b.tg<|.re z.toNat (Ja fB cs)<|.re (0:Y).toNat (cpN Hi)<|.re A.toNat (Ja N4 E9)<|.re t.toNat (En L2 d)<|.re s.toNat C<|.re u.toNat (En Hi f)<|.re v.toNat (En IK p)<|.rl a.me<|.rl a.dm<|.rl b.tg<|.req (UU.q y)<|.rm 24 j<|.rz a.me<|.rc j ((0:Y),((0:Y),X)) (M<|AL a.me)<|.rm 32 l<|.rz a.dm<|.rc l (X,((0:Y),((0:Y),(0:Y)))) (M<|AL a.dm)<|.rm 48 (0:Y)<|.rc (0:Y) ((0:Y),((0:Y),((0:Y),((0:Y),((0:Y),(0:Y)))))) B<|.rm 8 r<|.rc r (0:Y) (M dr)<|.rm 8 n<|.rz b.tg<|.rc n (0:Y) (M<|AL b.tg)<|.rz (Ja fB cs)<|.rz (cpN Hi)<|.rz (Ja N4 E9)<|.rz (En L2 d)<|.rz C<|.rz (En Hi f)<|.rz (iF y).o<|.req (0+j.toNat<=M (En aeM a.me))<|.req (0+l.toNat<=M (En aeO a.dm))<|.req (0+(0:Y).toNat<=M (cpN aeN))<|.req (0+r.toNat<=M (Ja N4 dr))<|.req (0+n.toNat<=M (En N4 b.tg))<|.ok<|.tup [.agg [(AL<|Ja fB cs),os,ks,gs,bs,(0:Y),U,(AL<|cpN Hi),(512:Y),.xl (.int aw)<|AL<|Ja N4 E9,(AL<|En L2 d),(1:Y),(AL C),(AL<|En Hi f),(AL (iF y).o),(((En aeM a.me).drop 0).take j.toNat),(((En aeO a.dm).drop 0).take l.toNat),(((cpN aeN).drop 0).take (0:Y).toNat),.xl A7<|((Ja N4 dr).drop 0).take r.toNat,.xl A7<|((En N4 b.tg).drop 0).take n.toNat],(0:Y)]) ?_;obtain ⟨hn,rfl⟩:=h
  have A1:bU (NR cs os ks gs bs dr):=⟨⟨rfl,rfl⟩,by show (M dr:Y)<=1000;omega,rfl⟩
  obtain ⟨_,_,q1⟩:=akK _ A1
  have q1:(gj (NR cs os ks gs bs dr)=.exit 0/\(Ru<|NR cs os ks gs bs dr).e=0/\dr.all (λx=>inB x (-200) 200)=U)\/(gj (NR cs os ks gs bs dr)=.ret/\(Ru<|NR cs os ks gs bs dr).e=1/\dr.all (λx=>inB x (-200) 200)=X):=q1
  have bad:∀ {e:Y},Dz cs os ks gs bs dr=e->e≠0->newP cs os ks gs bs dr=PK0:=λh1 h2=>AB (by rw [h1];exact h2)
  have hb:((!Av cs os ks gs bs) ||((M dr:Y) !=(M gs:Y)))=U↔(Av cs os ks gs bs=X\/M dr≠M gs):=by simp [Int.natCast_inj]
  refine ⟨λc=>?_,λc=>⟨⟨A1,rfl,rfl⟩,λc2=>?_,λc2=>?_⟩⟩
  ·have he:Dz cs os ks gs bs dr=1:=AB (hb.1 c)
   show zNV 1=_
   exact sR
  all_goals have hc:¬(Av cs os ks gs bs=X\/M dr≠M gs):=λh=>(by rw [hb.2 h] at c;cases c)
  ·rcases q1 with ⟨x1,_⟩ |⟨x1,x2,x3⟩
   ·rw [x1] at c2
    cases c2
   ·have he:Dz cs os ks gs bs dr=1:=(AD hc).trans (AB x3)
    rw [x2]
    show zNV 1=_
    exact sR
  rcases q1 with ⟨x1,x2,x3⟩ |⟨x1,x2,x3⟩
  rotate_left
  ·rw [x1] at c2
   cases c2
  have hs:Av cs os ks gs bs=true:=by
   cases e:Av cs os ks gs bs
   ·exact absurd (.inl e) hc
   ·rfl
  have hd:M dr=M gs:=VU λh=>hc<|.inr h
  have hg:=Ci.1 hs
  refine ⟨hs,λc3=>?_,λc3=>⟨λc4=>(by cases c4),λ_=>?_⟩⟩
  ·have he:Dz cs os ks gs bs dr=13:=(AD hc).trans ((AD (by rw [x3];decide)).trans<|AB<|(CS _).mp c3)
   show zNV 13=_
   exact sR
  have he:Dz cs os ks gs bs dr=0:=(AD hc).trans<|(AD (by rw [x3];decide)).trans<|AD (by rw [(G0 _).mp c3];decide)
  have hp:newP cs os ks gs bs dr=_:=AD Jh
  have A2:bT (Jj cs os ks gs bs dr):=⟨rfl,⟨aJc,OP _⟩,rfl,rfl,rfl⟩
  obtain ⟨_,_,_,y1,y2,y3⟩:=akJ _ A2
  have y1:(Kh<|Jj cs os ks gs bs dr).st=aq (M gs) (0,0,0,X):=y1
  have y2:(Kh<|Jj cs os ks gs bs dr).me=(EO<|M gs).map (λk=>(k+1,0,X)):=y2
  have y3:(Kh<|Jj cs os ks gs bs dr).dm=aq (M gs) (X,0,0,9):=y3
  have A3:bS (RI cs os ks gs bs dr):=⟨rfl,⟨rfl,aJd⟩,rfl⟩
  obtain ⟨_,_,_,y4⟩:=akI _ A3
  have y4:(WZ<|RI cs os ks gs bs dr).tg=cs.map (λc=>c.2.2.1):=y4
  have hj:M E9=2048:=rfl
  have l1:M (DT gs L2)=M gs:=tt
  have l2:M (DT gs Hi)=M gs:=tt
  have l3:M (DT gs IK)=M gs:=tt
  have l4:M (Kh<|Jj cs os ks gs bs dr).st=M gs:=by rw [y1,Bc]
  have l5:M (Kh<|Jj cs os ks gs bs dr).me=M gs:=by rw [y2,Eb,MK]
  have l6:M (Kh<|Jj cs os ks gs bs dr).dm=M gs:=by rw [y3,Bc]
  have l7:M (WZ<|RI cs os ks gs bs dr).tg=M cs:=by rw [y4,Eb]
  have ho:(fg cs os ks gs bs dr).o=DT gs IK:=aGA _ _
  have A4:bR (fg cs os ks gs bs dr):=⟨rfl,by rw [ho];show ((((M (DT gs IK):aC):Y).toNat:aC):Y)=_;rw [BW],by show ((((M (DT gs IK):aC):Y).toNat:aC):Y)<=1000;rw [BW,l3];omega,by
   rw [ho,wU];intro m hm;rw [(Qr.1 hm).2]
   decide⟩
  have y5:(iF<|fg cs os ks gs bs dr).o=DT gs IK:=(akH _ A4).2.trans ho
  simp only [aGA,atN,atO,EJ,y5,l1,l2,l3]
  repeat (refine ⟨dY,?_⟩)
  refine ⟨⟨A2,rfl,rfl⟩,?_⟩
  repeat (refine ⟨dY,?_⟩)
  refine ⟨⟨A3,rfl,rfl⟩,?_⟩
  repeat (refine ⟨dY,?_⟩)
  refine ⟨⟨A4,rfl,rfl⟩,?_⟩
  repeat (refine ⟨dY,?_⟩)
  show _=_
  rw [hp,he,y1,y2,y3,y4];simp only [wU,BW,C0,DA];rfl
 ·cases h)
def CL:EV:=⟨1,0,0,(0,0,0,0,0),(X,0,0,0)⟩
def vB:aC->PK->Y->PK×Int×Bool
 |0,p,l=>(p,l,U)
 |n+1,p,l=>if BS p CL=0/\M (D6 p CL)=M (B3 p CL).ca then vB n (B3 p CL) (if M (D6 p CL)>0 then gi (D6 p CL) 0 else l) else (p,l,X)
def ahT {p:PK}{q:QV}(h:RP p q):Df q.p=Df p:=by rw [h.1];rfl
def bO:aF:=[av #[111]]
def bD:Dm:=(U,0,500,1)
def S8:JI E9 0 0 ([]:aI) (aq 1019 255) (aq 1024 255) where
 eq:=rfl
 la:=by rw [Jp,Bc];rfl
 lo:=Bc
 bo:=X4 _
 hw:=.inl rfl
 hg:=AS
 old:=λh=>absurd h tj
 bd:=λd hd=>WE
 bk:=X4 _
 tl:=by have:=mV 1019 [] AS;rwa [Ec] at this
def m5 {l:aL}{t:Y}(h:Ao l=U):Ao (BB l t)=true:=by
 unfold BB;split
 ·exact wc h List.filter_sublist
 ·rfl
def ao1 {t:Y}{s:SN}{x:Le}(h:VK s.se s.fl/\Ao s.ls=U):VK (Dq t s x).se (Dq t s x).fl/\Ao (Dq t s x).ls=true:=by
 unfold Dq;split
 ·rename_i hc
  refine ⟨(h.1.st hc.2).2,?_⟩
  have:=(mT (x:=x) h.2).1
  unfold grS at this;rw [AB hc.1] at this;exact this
 ·exact h
def aC5 {t:Y}{xs:aL}{s:SN}(h:VK s.se s.fl/\Ao s.ls=U):∀n,VK (DU t xs s n).se (DU t xs s n).fl/\Ao (DU t xs s n).ls=U
 |0=>h
 |n+1=>ao1<|aC5 h n
def azA {p:PK}(h:VK p.se p.fl/\Ao p.ls=U):VK p.AI.se p.AI.fl/\Ao p.AI.ls=true:=by
 have hx:Ao (CM p.ls p.tk)=true:=by
  unfold CM;split
  ·exact m5 h.2
  ·exact h.2
 unfold PK.AI;split
 ·exact h
 ·split
  ·grind
  ·exact aC5 (s:=p.Ep) ⟨h.1,hx⟩ _
def JP.step {p:PK}(h:JP p) {e:EV}(he:BS p e=0):JP (B3 p e):=by
 obtain ⟨⟨hV,hR⟩,hk⟩:=h;refine ⟨⟨hV.step he,hR.step hV he⟩,?_⟩;unfold B3;rw [AD A0];unfold BS at he;rw [AD (by rw [Of.2 hV];decide)] at he
 split
 ·exact azA hk
 rename_i h1;rw [AD h1] at he;split
 ·exact hk
 rename_i h2;rw [AD h2] at he;split
 ·exact hk
 rename_i h3;rw [AD h3] at he;split
 ·exact hk
 rename_i h4;rw [AD h4] at he;split
 ·exact ⟨hk.1,rfl⟩
 rename_i h5;rw [AD h5] at he;split
 ·rename_i h6
  rw [AB h6] at he;refine ⟨hk.1,?_⟩;unfold PK.Dp at he;split at he
  ·cases he
  split at he
  ·rename_i g1 g2;exact absurd he g2
  ·rename_i g1 g2
   exact m5<|pP<|VU λg=>g2 g
 rename_i h6;rw [AD h6] at he;split
 ·exact hk
 ·exact hk
def JP.ED {p:PK}(h:JP p):∀(n:aC) (l:Y),JP (vB n p l).1
 |0,_=>h
 | n+1,l=>by
  unfold vB;split
  ·rename_i hc
   exact (h.step hc.1).ED n _
  ·exact h
def XB {cs:aJ}{os:aF}{ks:aP}{gs:aG}{bs:aQ}{dr:aB}(h:Dz cs os ks gs bs dr=0):JP (newP cs os ks gs bs dr):=by
 have hn:=ku h
 have hp:newP cs os ks gs bs dr=_:=AD tm
 refine ⟨hn,?_,?_⟩
 ·rw [hp]
  exact ⟨⟨rfl,S8.len,S8.by_⟩,[],0,rfl,rfl,⟨0,_,_,S8⟩,CN _⟩
 ·rw [hp]
  rfl
def Rx {tg:aB}{cs:aJ}:∀n,n<=M cs->∀j:aC,AY (DS cs tg n) j=if j<n then FP (AY cs j) (gi tg j) else AY cs j
 |0,_,j=>Iy
 | n+1,hn,j=>by
  have h1:=Rx (tg:=tg) (cs:=cs) n A0
  unfold DS;rw [ij (by rw [Kl];omega)]
  by_cases e:j=n
  ·subst e
   grind
  ·rw [AD e,h1 j]
   by_cases c:j<n
   ·grind
   ·grind
def aBC {a b:aJ}(h:M a=M b) (hg:∀j:aC,j<M a->AY a j=AY b j):a=b:=
 VQ h λi h1 h2=>by
  have:=hg i h1
  rwa [Na h1,Na h2] at this
def Qi (cs X:aJ):Prop:=M X=M cs/\∀j:aC,∃u,AY X j=FP (AY cs j) u
def Qi.ask {cs X:aJ}(h:Qi cs X) {tg:aB}(ht:M tg=M cs):DS X tg (M tg)=DS cs tg (M tg):=
 aBC (by rw [Kl,Kl,h.1]) λj hj=>by
  rw [Kl,h.1] at hj;obtain ⟨u,e⟩:=h.2 j;rw [Rx _ (by rw [h.1];omega),Rx _ A0,AB A0,AB A0,e]
  rfl
def aiS {gs:aG}{tg am:aB}{cs:aJ}{n:aC}(hn:n<=M cs):Qi cs (Cp gs tg am cs n):=
 ⟨Ou n,λj=>by
  rcases (ia (gs:=gs) (tg:=tg) (am:=am) n hn j).1 with e|⟨_,_,e⟩
  ·exact ⟨_,e⟩
  ·exact ⟨_,e⟩⟩
def afu {c:Cd}{u v:Y}(h:u<=v):CY (FP c u)<=CY (FP c v):=by
 unfold CY FP HL;simp only [List.foldl];omega
def auL {tg:aB}{cs X:aJ}(h:Qi cs X) (ht:M tg=M cs) (hl:∀j:aC,j<M cs->gi tg j<=(AY X j).2.2.1):HT (DS cs tg<|M tg) X where
 len:=by rw [Kl,h.1]
 up:=λo=>by
  obtain ⟨u,e⟩:=h.2 o;rw [Rx _ A0,e];split<;>rfl
 lim:=λo=>by
  obtain ⟨u,e⟩:=h.2 o;rw [Rx _ A0];split
  ·rename_i c
   have:=hl o A0
   rw [e] at this|-;exact afu this
  ·rename_i c
   have e1:AY X o=AY cs o:=by
    unfold AY;rw [CH,CH,OF (by rw [h.1];omega),OF A0]
   rw [e1];omega
def Ku {p:PK}(hJ:JP p) (ht:p.tk<1000000):BS p CL=0/\B3 p CL=p.B5/\D6 p CL=p.Ej/\M (D6 p CL)=M (B3 p CL).ca/\p.B5.tk=p.tk+1:=by
 have hv:=hJ.1.1
 have he:BS p CL=0:=by
  unfold BS;rw [AD su,AB (show CL.ek=1 from rfl)];exact AD A0
 have e2:B3 p CL=p.B5:=by unfold B3;rw [he];rfl
 have e3:D6 p CL=p.Ej:=by unfold D6;rw [he];rfl
 have hJ2:=hJ.step he
 refine ⟨he,e2,e3,?_,aJm⟩;rw [hJ2.1.1.ca,e2,e3];refine (X3 _).2.2.2.trans ?_;exact Bc
def zm {p:PK}(hv:VP p) {e:EV}(he:BS p e=0):letI a:=B3 p e;(p.tk<1000000/\B3 p e=p.B5)\/B3 p e=p.So\/(p.Dp=0/\B3 p e=p.PI)\/(p.GG e.en e.em=0/\B3 p e=p.JL e.en e.em)\/B3 p e={p with st:=a.st,ca:=a.ca,mi:=a.mi,dm:=a.dm,lk:=a.lk}:=by
 have hw:=he
 unfold BS at he;rw [AD A8] at he;unfold B3;rw [AD A0];split
 ·rename_i h1
  rw [AB h1] at he
  have:=hv.tk
  unfold PK.H7 at he;split at he
  ·cases he
  ·grind
 rename_i h1;rw [AD h1] at he;split
 ·exact dK
 rename_i h2;rw [AD h2] at he;split
 ·exact dK
 rename_i h3;rw [AD h3] at he;split
 ·exact dK
 rename_i h4;rw [AD h4] at he;split
 ·grind
 rename_i h5;rw [AD h5] at he;split
 ·rename_i h6
  grind
 rename_i h6;rw [AD h6] at he;split
 ·exact dK
 rename_i h7;rw [AD h7] at he;split at he
 ·grind
 ·cases he
def TL (gl:aC) (t:Y) (x:Le):Prop:=x.2.2.2.1<t/\x.2.2.2.2=12/\0<=x.2.1/\x.2.1<(gl:Y)
def TL.le {gl:aC}{t t':Y}{x:Le}(h:TL gl t x) (ht:t<=t'):TL gl t' x:=⟨by have:=h.1;omega,h.2⟩
structure SG (T:Le->Prop) (b:Y) (u:Prop) (s:SN):Prop where
 nx:1<=s.nx/\s.nx<=b
 ls:Ao s.ls=U/\∀x∈s.ls,T x
 vl:∃vl g,VI s.se s.fl vl g/\∀x∈vl,(x.1<b/\(u->x.1<s.nx))/\T x
def SG.le {T T':Le->Prop}{b b':Y}{u:Prop}{s:SN}(h:SG T b u s) (hb:b<=b') (hT:∀x,T x->T' x):SG T' b' u s:=by
 obtain ⟨vl,g,h1,h2⟩:=h.vl;exact ⟨⟨h.nx.1,by have:=h.nx.2;omega⟩,⟨h.ls.1,λx hx=>hT x<|h.ls.2 x hx⟩,vl,g,h1,λx hx=>⟨⟨A8,(h2 x hx).1.2⟩,hT x (h2 x hx).2⟩⟩
def SG.snd {T:Le->Prop}{b t:Y}{u:Prop}{s:SN}(h:SG T b u s) {x:Le}(hx:T x) (hn:1<=x.1+1/\x.1+1<=b):SG T b u (Dq t s x):=by
 unfold Dq;split
 ·rename_i hc
  obtain ⟨vl,g,h1,h2⟩:=h.vl;obtain ⟨vl',g',q1,q2,q3,q4⟩:=mv h1 hc.2
  have e:Dr s.ls x=s.ls++[x]:=aKq
  refine ⟨hn,?_,vl',g',q1,λy hy=>?_⟩
  ·have:=(mT (x:=x) h.ls.1).1
   unfold grS at this;rw [AB hc.1] at this;refine ⟨this,λy hy=>?_⟩
   simp only [e,BC,FX] at hy;rcases hy with hy|rfl
   ·exact h.ls.2 y hy
   ·exact hx
  ·have hy:y∈vl++[x]:=by
    exact aIo
   rw [BC,FX] at hy;rcases hy with hy|rfl
   ·have:=(List.pairwise_append.1 (j4.1 q3).2.2).2.2 y hy x AG
    grind
   ·grind
 ·exact h
def SG.DU {T:Le->Prop}{b t:Y}{u:Prop}{s:SN}{xs:aL}(h:SG T b u s) (hx:∀k:aC,k<M xs->T (AU xs k)/\1<=(AU xs k).1+1/\(AU xs k).1+1<=b):∀n,n<=M xs->SG T b u (DU t xs s n)
 |0,_=>h
 |n+1,hn=>by
  obtain ⟨h1,h2⟩:=hx n A0;exact (h.DU hx n A0).snd h1 h2
variable {p : PK} {d : Int}
def PK.snp (p:PK):SN:=⟨p.ls,p.se,p.fl,p.nx,p.lk⟩
structure TG (d:Y) (p:PK):Prop where
 d01:0<=d/\d<=1
 kt:Cw p.EF p.gs (BT p.gs)=U
 sg:SG (TL (M p.gs) (p.tk+d)) (16*(p.tk+d)+1) (p.up=U) p.snp
def TJ (h:p.dE=0):Vd p.EF p.os p.ks p.gs p.bs (CM p.ls p.tk) p.ra p.dm p.tk p.nx/\NwL p.gs (EC p.gs p.ra (GI p.EF p.os p.ks p.gs p.bs (CM p.ls p.tk) p.dm p.tk)<|M p.gs) p.tk p.nx p.dL/\M p.dL<=M p.gs:=by
 unfold PK.dE deE at h;split at h
 ·rename_i hv
  have e:p.dL=FO p.gs (CM p.ls p.tk) p.tk p.nx (EC p.gs p.ra (GI p.EF p.os p.ks p.gs p.bs (CM p.ls p.tk) p.dm p.tk)<|M p.gs) (M p.gs):=AB hv
  exact ⟨aar hv,by rw [e];exact (XZ<|Ak _).1,lI⟩
 ·cases h
def XY (hJ:JP p):CM p.ls p.tk=p.ls.filter (JK p.tk):=by
 have ht:=hJ.1.1.tk
 have h:Hp p.ls p.tk=true:=by unfold Hp;rw [hJ.2.2,B6.2 A0];rfl
 unfold CM Cb BB
 grind
def TG.dec (h:TG d p) (hJ:JP p):SG (TL (aa p.gs)<|p.tk+1) (16*(p.tk+1+d)+1) (p.up=U) p.AI.snp:=by
 have hd:=h.d01
 have h0:=h.sg.le (T':=TL (aa p.gs)<|p.tk+1) (b':=16*(p.tk+1+d)+1) A0 λx hx=>hx.le A0
 have hx:SG (TL (aa p.gs)<|p.tk+1) (16*(p.tk+1+d)+1) (p.up=U) p.Ep:=by
  refine ⟨h0.nx,?_,h0.vl⟩
  show Ao (CM p.ls p.tk)=U/\∀x∈CM p.ls p.tk,_
  rw [XY hJ];exact ⟨wc hJ.2.2 List.filter_sublist,λx hx=>h0.ls.2 x (CG.1 hx).1⟩
 unfold PK.AI;split
 ·exact h0
 split
 ·exact ⟨h0.nx,hx.ls,h0.vl⟩
 ·rename_i hd
  obtain ⟨V,M,hl⟩:=TJ<|VN.1 hd
  have hg:=V.gl
  have hn:=h.sg.nx
  refine (hx.DU (t:=p.tk) (xs:=p.dL) (λk hk=>?_) _<|Ak _)
  obtain ⟨q1,q2,_⟩:=M.at_ k A0 A0;rw [q1]
  have hn:1<=p.nx/\p.nx<=16*(p.tk+d)+1:=hn
  exact ⟨⟨A8,rfl,q2⟩,A0,A0⟩
def aiP (hv:VP p):Qi p.cs p.B5.cs:=by
 show Qi p.cs (if p.Ah.Be.up=X then p.Ah.Be.cs else Cp p.Ah.Be.gs p.Ah.Be.tg p.Ah.Be.Ig p.Ah.Be.cs (M p.Ah.Be.tg))
 have e:p.Ah.Be.cs=p.cs:=(I7 p).1
 have e2:p.Ah.Be.tg=p.tg:=(I7 p).2.2.2.2.2.2.2.2.2.2.2.2.2
 rw [e,e2];split
 ·exact ⟨rfl,λj=>⟨_,rfl⟩⟩
 ·exact aiS tB
def TG.tick (h:TG d p) (hJ:JP p):TG d p.B5:=by
 obtain ⟨e1,e2,e3,e4,e5,e6,e7,e8,e9,e10,e11,e12,e13,e14⟩:=I7 p
 have h01:=h.d01
 have hd:=(h.dec hJ).le (T':=TL (M p.gs)<|p.tk+1+d) (CN _) λx hx=>hx.le A0
 have eg:p.B5.gs=p.gs:=e4
 have et:p.B5.tk=p.tk+1:=An (·+1) e6
 have eT:p.B5.tg=p.tg:=e14
 have eu:p.B5.up=p.up:=e7
 refine ⟨h01,?_,?_⟩
 ·have:p.B5.EF=p.EF:=by
   show DS p.B5.cs p.B5.tg (M p.B5.tg)=_
   rw [eT];exact (aiP hJ.1.1).ask hJ.1.1.Em
  rw [this,eg];exact h.kt
 ·rw [eg,et,eu]
  exact ⟨hd.nx,hd.ls,hd.vl⟩
def TG.step (h:TG d p) (hJ:JP p) {e:EV}(he:BS p e=0):TG d (B3 p e):=by
 have hv:=hJ.1.1
 obtain ⟨vl,g,h1,h2⟩:=h.sg.vl;rcases zm hv he with ⟨_,c⟩ |c|⟨c0,c⟩ |⟨c0,c⟩ |c
 ·rw [c];exact h.tick hJ
 ·rw [c];exact ⟨h.d01,h.kt,h.sg.nx,⟨rfl,λx hx=>Oe⟩,vl,g,h1,λx hx=>⟨⟨(h2 x hx).1.1,λc=>Cu⟩,(h2 x hx).2⟩⟩
 ·rw [c]
  obtain ⟨l1,l2⟩:=h1.ld
  have l1:C5 p.se p.fl=0:=l1
  have l2:Aa p.se p.fl=vl:=l2
  have hn:=h.sg.nx
  have hnw:GP p.se p.fl=0:=by
   unfold PK.Dp at c0;split at c0
   ·cases c0
   ·rw [l1,l2] at c0
    split at c0
    ·grind
    split at c0
    ·grind
    ·exact c0
  have hA:1<=Hx p.se p.fl/\Hx p.se p.fl<=16*(p.tk+d)+1/\∀x∈vl,x.1<Hx p.se p.fl:=by
   unfold GP at hnw;unfold Hx;rw [l1,l2] at hnw|-;split
   ·rename_i q
    grind
   ·rename_i q
    rw [AD q] at hnw;split
    ·grind
    ·have hm:AU vl ((M vl:Y)-1)∈vl:=Hd A0 A0
     have b1:=(IB.1<|(Eh h1.lv).2 _ hm).1.1
     have b2:=(h2 _ hm).1.1
     refine ⟨A0,A0,λx hx=>?_⟩
     rw [wI (l:=vl) A0,BC,FX] at hx;rcases hx with hx|rfl
     ·have:=h1.lv
      rw [wI (l:=vl) A0] at this
      have:=(List.pairwise_append.1 (j4.1 this).2.2).2.2 x hx _<|FX.2 rfl
      have:=this.1
      omega
     ·omega
  refine ⟨h.d01,h.kt,⟨hA.1,hA.2.1⟩,?_,vl,g,h1,λx hx=>⟨⟨(h2 x hx).1.1,λ_=>hA.2.2 x hx⟩,(h2 x hx).2⟩⟩
  show Ao (BB (Aa p.se p.fl) p.tk)=U/\∀x∈BB (Aa p.se p.fl) p.tk,_
  rw [l2];refine ⟨m5 h1.lv,λx hx=>?_⟩
  unfold BB at hx;split at hx
  ·exact (h2 x (CG.1 hx).1).2
  ·cases hx
 ·rw [c]
  refine ⟨h.d01,?_,h.sg⟩;unfold PK.GG at c0;split at c0
  ·cases c0
  split at c0
  ·cases c0
  ·rename_i c1
   exact (OK _).mp c1
 ·rw [c];exact ⟨h.d01,h.kt,h.sg.nx,h.sg.ls,h.sg.vl⟩
def aEm {cs:aJ}{os:aF}{ks:aP}{gs:aG}{bs:aQ}{dr:aB}(h:Dz cs os ks gs bs dr=0):TG 0 (newP cs os ks gs bs dr):=by
 have hJ:=XB h
 have hp:newP cs os ks gs bs dr=_:=AD A8
 rw [hp] at hJ|-;refine ⟨AS,?_,⟨(by decide:(1:Y)<=1),(by decide:(1:Y)<=16*(0+0)+1)⟩,⟨rfl,λx hx=>Oe⟩,[],0,⟨rfl,rfl,⟨0,_,_,S8⟩,CN _⟩,λx hx=>Oe⟩
 have e:DS cs (cs.map λc=>c.2.2.1) (M<|cs.map λc=>c.2.2.1)=cs:=aBC (Kl _) λj hj=>by
  rw [Kl] at hj;rw [Rx _ AG,AB A8,Na hj]
  have:gi (cs.map λc=>c.2.2.1) (j:Y)=cs[j].2.2.1:=by rw [Gc A8];simp
  rw [this];rfl
 show Cw (DS cs (cs.map λc=>c.2.2.1)<|M<|cs.map λc=>c.2.2.1) gs (BT gs)=U
 unfold Dz at h;split at h
 ·cases h
 split at h
 ·cases h
 split at h
 ·cases h
 ·rename_i c
  grind
end Go.Proofs.YtcdkianomnhhmaaGreatDoor
namespace Go.Proofs.YtcdkianomnhhmaaGreatDoor
set_option maxRecDepth 100000
set_option maxHeartbeats 4000000
open Go.Proofs.Tryz
open Go.Sx
def axL {c:Ch}{s:St}{k n m:Y}(h:sV c s=U) (hl:0<(DO c s k n m).2.2.1):
  (k=7/\(DO c s k n m).2.1=n/\(DO c s k n m).2.2.1=m)\/(0<s.2.2.1/\(DO c s k n m).2.1=s.2.1/\(DO c s k n m).2.2.1<=s.2.2.1-(if k=8 then 1 else 0)):=by
 have hv:=Jx.1 h
 by_cases he:sE c s k n m=0
 ·have e:DO c s k n m=(GO s.1 s.2.2.2 k n,sA s.2.1 s.2.2.1 k n,sL s.2.2.1 k m,sW s.2.2.2 k n):=by unfold DO sN;rw [AB he,AB he]
  rw [e] at hl|-;simp only [sL,sA] at hl|-
  by_cases h7:k=7
  ·rw [AB h7,AB h7]
   grind
  ·right
   by_cases h8:k=8
   ·rw [AB h8] at hl
    have ht:JU s.2.2.1<=s.2.2.1-1:=by
     unfold JU at hl|-;split
     ·omega
     ·omega
    omega
   ·rw [AD h8] at hl
    by_cases h9:k=9
    ·omega
    ·rw [AD h9] at hl
     omega
 ·have e:DO c s k n m=s:=AD he
  rw [e] at hl|-;refine .inr ⟨hl,rfl,?_⟩
  by_cases h8:k=8
  ·exfalso
   subst h8;refine he ?_;unfold sE;rw [AB h,AB AS,AB<|by simp [evV]]
   have:GO s.1 s.2.2.2 8 n=s.1:=by simp [GO]
   omega
  ·omega
def EG (gs:aG) (W:Y->Y->Y->Prop) (j:Y) (s:St):Prop:=sV (AF gs j) s=U/\(0<s.2.2.1->W j s.2.1 s.2.2.1)
def EG.gv {gs:aG}{W W':Y->Y->Y->Prop}{j k n m:Y}{s:St}(h:EG gs W j s) (hw:∀a l l',W j a l->l'<=l-(if k=8 then 1 else 0)->W' j a l') (hm:k=7->W' j n m):EG gs W' j (DO (AF gs j) s k n m):=by
 refine ⟨mP h.1,λhl=>?_⟩
 rcases axL h.1 hl with ⟨e,e1,e2⟩ |⟨e,e1,e2⟩
 ·grind
 ·rw [e1];exact hw _ _ _ (h.2 e) e2
def EG.le {gs:aG}{W W':Y->Y->Y->Prop}{j:Y}{s:St}(h:EG gs W j s) (hw:∀a l,0<l->W j a l->W' j a l):EG gs W' j s:=⟨h.1,λhl=>hw _ _ hl<|h.2 hl⟩
def WL (vl:aL) (f:Y->Y->Y) (b:Y->Y) (j a l:Y):Prop:=∃x∈vl,x.2.1=j/\x.2.2.1=a/\l+b j<=12+f j (x.2.2.2.1+10)
def WL.le {vl:aL}{f:Y->Y->Y}{b:Y->Y}{j a l l':Y}(h:WL vl f b j a l) (hl:l'<=l):WL vl f b j a l':=by
 obtain ⟨x,h1,h2,h3,h4⟩:=h;exact ⟨x,h1,h2,h3,A0⟩
def abq {gs:aG}{vl:aL}{f:Y->Y->Y}{b:Y->Y}{st:bc}(h:BU gs (EG gs<|WL vl f b) st) {i:Y}(h0:0<=i) (h1:i<(M gs:Y)):∀k:aC,BU gs (EG gs<|WL vl f (λj=>if j=i then b j+k else b j)) (JF gs st i k)
 |0=>⟨h.1,λj j0 j1=>(h.2 j j0 j1).le λa l _ ⟨x,q1,q2,q3,q4⟩=>⟨x,q1,q2,q3,A8⟩⟩
 | k+1=>by
  have ih:=abq h h0 h1 k
  unfold JF;refine ⟨Gx.trans ih.1,λj j0 j1=>?_⟩
  rw [mQ h0 (by rw [ih.1];exact h1) j0]
  have hj:=ih.2 j j0 j1
  split
  ·rename_i e
   subst e;refine hj.gv (λa l l' ⟨x,q1,q2,q3,q4⟩ hl=>⟨x,q1,q2,q3,?_⟩) λe=>MA
   have q4:l+(if j=j then b j+(k:Y) else b j)<=_:=q4
   show l'+(if j=j then b j+((k+1:aC):Y) else b j)<=_
   omega
  ·rename_i e
   refine hj.le λa l _ ⟨x,q1,q2,q3,q4⟩=>⟨x,q1,q2,q3,?_⟩
   grind
def acH {gs:aG}{vl:aL}{f:Y->Y->Y}{st:bc}{dr:aB}{t:Y}(h:BU gs (EG gs<|WL vl f λj=>BH t<|gi dr j) st) (hd:∀j:Y,0<=j->j<(M dr:Y)->-200<=gi dr j/\gi dr j<=200) (hl:M dr=M gs) (ht:0<=t/\t<1000000):
  ∀n:aC,n<=M dr->BU gs (EG gs<|WL vl f (λj=>if j<n then BH (t+1) (gi dr j) else BH t (gi dr j))) (HD gs dr t st n)
 | 0,_=>⟨h.1,λj j0 j1=>by
   refine (h.2 j j0 j1).le λa l _ ⟨x,q1,q2,q3,q4⟩=>⟨x,q1,q2,q3,?_⟩
   show l+(if j<((0:aC):Y) then BH (t+1) (gi dr j) else BH t (gi dr j))<=_
   rw [AD A0];exact q4⟩
 | n+1,hn=>by
  have ih:=acH h hd hl ht n A0
  have hdn:=hd (n:Y) A0 A0
  have hs:FR t (gi dr n)=0/\FR (t+1) (gi dr n)=0:=by
   unfold FR;rw [AB,AB]
   ·grind
   ·rw [AP,B6,B6];omega
   ·rw [AP,B6,B6];omega
  unfold HD;rw [AB hs]
  have:=abq ih (i:=(n:Y)) A0 A0 (BH (t+1) (gi dr n)-BH t (gi dr n)).toNat
  refine ⟨this.1,λj j0 j1=>(this.2 j j0 j1).le λa l _ ⟨x,q1,q2,q3,q4⟩=>⟨x,q1,q2,q3,?_⟩⟩
  have q4:l+(if j=(n:Y) then (if j<(n:Y) then BH (t+1) (gi dr j) else BH t (gi dr j))+(((BH (t+1) (gi dr n)-BH t (gi dr n)).toNat:aC):Y) else (if j<(n:Y) then BH (t+1) (gi dr j) else BH t (gi dr j)))<=_:=q4
  show l+(if j<((n+1:aC):Y) then BH (t+1) (gi dr j) else BH t (gi dr j))<=_
  by_cases ej:j=n
  ·subst ej
   omega
  ·rw [AD ej] at q4
   by_cases hj:j<(n:Y)
   ·omega
   ·omega
def apu {d t t':Y}(hd:-200<=d/\d<=200) (h0:0<=t) (h1:t+13<=t') (h2:t'<=1000000):BH t' d-BH t d>=12:=by
 unfold BH;rw [AB R7,AB R7]
 have:(t+13)*(1000000+d)<=t'*(1000000+d):=Ji A0 A0
 have e:(t+13)*(1000000+d)=t*(1000000+d)+13*(1000000+d):=cw _ _ _
 omega
def m6 {x:Le}(h:x.2.2.2.2=12):Cc x=x.2.2.2.1+23:=by
 unfold Cc;rw [h,show wt 12=13 by decide];omega
def WJ (vl:aL) (dr:aB) (t:Y):Y->Y->Y->Prop:=WL vl (λj u=>BH u<|gi dr j) λj=>BH t<|gi dr j
def zK {vl:aL}{dr:aB}{t j a l:Y}(h:WJ vl dr t j a l) (hl:0<l) (hd:-200<=gi dr j/\gi dr j<=200) (ht:t<=1000000) (hv:∀x∈vl,0<=x.2.2.2.1):
  ∃x∈vl,x.2.1=j/\x.2.2.1=a/\l+BH t (gi dr j)<=12+BH (x.2.2.2.1+10) (gi dr j)/\t<=x.2.2.2.1+22:=by
 obtain ⟨x,h1,h2,h3,h4⟩:=h
 have h4:l+BH t (gi dr j)<=12+BH (x.2.2.2.1+10) (gi dr j):=h4
 refine ⟨x,h1,h2,h3,h4,aGo.1 λc=>?_⟩
 have:=apu (t:=x.2.2.2.1+10) (t':=t) hd A8 A0 ht
 omega
def EG.vl {gs:aG}{dr:aB}{t j:Y}{vl vl':aL}{s:St}(h:EG gs (WJ vl dr t) j s) (hd:-200<=gi dr j/\gi dr j<=200) (ht:t<=1000) (hT:∀x∈vl,0<=x.2.2.2.1/\Cc x=x.2.2.2.1+23) (hk:∀y∈vl,Cc y>t->y∈vl'):EG gs (WJ vl' dr t) j s:=
 h.le λa l hl hw=>by
  obtain ⟨x,h1,h2,h3,h4,h5⟩:=zK hw hl hd A0 λx hx=>(hT x hx).1
  exact ⟨x,hk x h1 A8,h2,h3,h4⟩
def aAO {l:aL}{x y:Le}{t:Y}(hv:Ao l=U) (ht:0<=t/\t<=1000) (hy:y∈l) (he:Cc y>t):y∈Hy l x t:=by
 unfold Hy BB;rw [AB (by unfold Hp;rw [hv,B6.2 A0];rfl)]
 exact BC.2<|.inl<|CG.2 ⟨hy,CB he⟩
def al7 {l:aL}{x:Le}{t:Y}:x∈Hy l x t:=by unfold Hy;simp
def SK (t:Y) (k0:aKx) (v0 xs:aL) (s:SN):Prop:=
 ∃vl g,VI s.se s.fl vl g/\((∀y∈v0,Cc y>t->y∈vl)/\∀y∈vl,y∈v0\/y∈xs)/\(∀y∈vl,Cc y>t->y∈s.ls)/\(∀y∈s.ls,Cc y>t->y∈vl)/\∀l∈s.lk,l∈k0\/(l.2∈vl/\Cc l.2>t/\t<=l.1/\l.1<=l.2.2.2.2.1+10)
def SK.snd {t:Y}{k0:aKx}{v0 xs:aL}{s:SN}(h:SK t k0 v0 xs s) (ht:0<=t/\t<=1000) {x:Le}(hm:x∈xs) (hf:x.2.2.2.1=t) (hx:x.2.2.2.2=12) (h0:0<=x.2.1):SK t k0 v0 xs (Dq t s x):=by
 unfold Dq;split
 ·rename_i hc
  obtain ⟨vl,g,h1,⟨h2,h6⟩,h3,h4,h5⟩:=h;obtain ⟨vl',g',q1,q2,q3,q4⟩:=mv h1 hc.2
  have e:Dr s.ls x=s.ls++[x]:=aKq
  have hex:Cc x>t:=by rw [m6 hx,hf];omega
  have old:∀y∈vl,Cc y>t->y∈vl':=λy hy he=>by
   rcases q2 with e2|e2<;>rw [e2]
   ·grind
   ·exact aAO h1.lv ht hy he
  have new:x∈vl':=by
   rcases q2 with e2|e2<;>rw [e2]
   ·simp
   ·exact al7
  have sub:∀y∈vl',y∈vl\/y=x:=λy hy=>by
   have:y∈vl++[x]:=by
    exact aIo
   simpa using this
  refine ⟨vl',g',q1,⟨λy hy he=>old y (h2 y hy he) he,λy hy=>?_⟩,λy hy he=>?_,λy hy he=>?_,λl hl=>?_⟩
  ·rcases sub y hy with c|rfl
   ·exact h6 y c
   ·exact .inr hm
  ·show y∈Dr s.ls x
   rw [e];rcases sub y hy with c|rfl
   ·grind
   ·simp
  ·have hy:y∈Dr s.ls x:=hy
   rw [e] at hy;rcases BC.1 hy with c|c
   ·grind
   ·grind
  ·have hl:=hl
   rcases BC.1 hl with c|c
   ·rcases h5 l c with q|⟨a1,a2,a3,a4⟩
    ·exact .inl q
    ·grind
   ·rw [FX.1 c]
    have hm:0<=(7*t+3*x.2.1).tmod 5/\(7*t+3*x.2.1).tmod 5<=4:=A8
    exact .inr ⟨new,hex,by show t<=t+(7*t+3*x.2.1).tmod 5;omega,by show t+(7*t+3*x.2.1).tmod 5<=x.2.2.2.1+10;omega⟩
 ·exact h
def SK.DU {t:Y}{k0:aKx}{v0:aL}{s:SN}{xs:aL}(h:SK t k0 v0 xs s) (ht:0<=t/\t<=1000) (hx:∀k:aC,k<M xs->(AU xs k).2.2.2.1=t/\(AU xs k).2.2.2.2=12/\0<=(AU xs k).2.1):∀n,n<=M xs->SK t k0 v0 xs (DU t xs s n)
 |0,_=>h
 |n+1,hn=>by
  obtain ⟨h1,h2,h3⟩:=hx n A0;exact (h.DU ht hx n A0).snd ht (Hd A0 A0) h1 h2 h3
variable {p : PK} {d : Int}
def TG.vl (g:TG d p):∃k,VI p.se p.fl (Aa p.se p.fl) k/\∀x∈Aa p.se p.fl,(x.1<16*(p.tk+d)+1/\(p.up=U->x.1<p.nx))/\TL (M p.gs) (p.tk+d) x:=by
 obtain ⟨vl,k,h1,h2⟩:=g.sg.vl
 have e:Aa p.se p.fl=vl:=h1.ld.2
 rw [e];exact ⟨k,h1,h2⟩
def TG.v23 (g:TG d p):∀x∈Aa p.se p.fl,0<=x.2.2.2.1/\Cc x=x.2.2.2.1+23:=λx hx=>by
 obtain ⟨k,h1,h2⟩:=g.vl;exact ⟨(IB.1<|(Eh h1.lv).2 x hx).2.2.2.1.1,m6 (h2 x hx).2.2.1⟩
structure LX (p:PK):Prop where
 up:p.up=U->(∀y∈Aa p.se p.fl,Cc y>p.tk->y∈p.ls)/\∀y∈p.ls,Cc y>p.tk->y∈Aa p.se p.fl
 dn:p.up=X->p.ls=[]
 st:BU p.gs (EG p.gs (WJ (Aa p.se p.fl) p.dr p.tk)) p.st
 lk:∀l∈p.lk,l.2∈Aa p.se p.fl/\p.tk<=l.1/\l.1<=l.2.2.2.2.1+10
def LX.dec (h:LX p) (g:TG d p) (hJ:JP p) (ht:p.tk<=1000):(p.up=U->(∀y∈Aa p.AI.se p.AI.fl,Cc y>p.tk->y∈p.AI.ls)/\∀y∈p.AI.ls,Cc y>p.tk->y∈Aa p.AI.se p.AI.fl)/\(p.up=X->p.AI.ls=[])/\
  ((∀y∈Aa p.se p.fl,Cc y>p.tk->y∈Aa p.AI.se p.AI.fl)/\∀y∈Aa p.AI.se p.AI.fl,y∈Aa p.se p.fl\/(p.up=U/\p.dE=0/\y∈p.dL))/\∀l∈p.AI.lk,l.2∈Aa p.AI.se p.AI.fl/\p.tk<=l.1/\l.1<=l.2.2.2.2.1+10:=by
 have htk:=hJ.1.1.tk
 have hx:=XY hJ
 unfold PK.AI;split
 ·rename_i hu
  exact ⟨λc=>(by rw [hu] at c;cases c),h.dn,⟨λy hy _=>hy,λy hy=> .inl hy⟩,h.lk⟩
 rename_i hu
 have hu:p.up=true:=by simpa using hu
 obtain ⟨u1,u2⟩:=h.up hu
 have x1:∀y,Cc y>p.tk->(y∈CM p.ls p.tk↔y∈p.ls):=λy he=>by
  rw [hx,CG];exact ⟨λc=>c.1,λc=>⟨c,CB he⟩⟩
 split
 ·exact ⟨λ_=>⟨λy hy he=>(x1 y he).2<|u1 y hy he,λy hy he=>u2 y ((x1 y he).1 hy) he⟩,λc=>(by rw [hu] at c;cases c),⟨λy hy _=>hy,λy hy=> .inl hy⟩,h.lk⟩
 ·rename_i hd
  obtain ⟨V,M,hl⟩:=TJ<|VN.1 hd;obtain ⟨k,v1,v2⟩:=g.vl
  have v3:=g.v23
  have s0:SK p.tk p.lk (Aa p.se p.fl) p.dL p.Ep:=⟨_,k,v1,⟨λy hy _=>hy,λy hy=> .inl hy⟩,λy hy he=>(x1 y he).2<|u1 y hy he,λy hy he=>u2 y ((x1 y he).1 hy) he,λl hl=> .inl hl⟩
  obtain ⟨vl,k',w1,⟨w2,w6⟩,w3,w4,w5⟩:=s0.DU (xs:=p.dL) ⟨htk.1,ht⟩ (λi hi=>by
   have q:=M.at_ i A0 A0
   rw [q.1];exact ⟨rfl,rfl,q.2.1.1⟩) _<|Ak _
  have e:Aa p.Ic.se p.Ic.fl=vl:=w1.ld.2
  simp only [e];refine ⟨λ_=>⟨w3,w4⟩,λc=>A8,⟨w2,λy hy=>(w6 y hy).imp id λc=>⟨hu,VN.1 hd,c⟩⟩,λl hl=>?_⟩
  rcases w5 l hl with q|⟨a1,a2,a3,a4⟩
  ·obtain ⟨b1,b2,b3⟩:=h.lk l q
   grind
  ·grind
def LX.tick (h:LX p) (g:TG d p) (hJ:JP p) (ht:p.tk<=1000):LX p.B5/\BU p.gs (EG p.gs<|WJ (Aa p.AI.se p.AI.fl) p.dr<|p.tk+1) p.Ah.st:=by
 obtain ⟨e1,e2,e3,e4,e5,e6,e7,e8,e9,e10,e11,e12,e13,e14⟩:=I7 p
 have hv:=hJ.1.1
 have htk:=hv.tk
 have hvd:=hv.dec
 obtain ⟨d1,d2,d3,d4⟩:=h.dec g hJ ht
 have hdr:∀j:Y,0<=j->j<(M p.gs:Y)->-200<=gi p.dr j/\gi p.dr j<=200:=λj j0 j1=>Sq hv j j0 sv
 have s0:BU p.gs (EG p.gs<|WJ (Aa p.AI.se p.AI.fl) p.dr p.tk) p.st:=⟨h.st.1,λj j0 j1=>(h.st.2 j j0 j1).vl (hdr j j0 j1) ht g.v23 d3.1⟩
 have s1:BU p.gs (EG p.gs<|WJ (Aa p.AI.se p.AI.fl) p.dr p.tk) p.AI.IT.st:=by
  show BU p.gs _ (JD p.AI.gs p.AI.lk p.AI.tk p.AI.st<|M p.AI.lk)
  rw [e4,e6,e8];refine s0.arr (t:=p.tk) (λl hl'=>⟨by have:=hvd.lk l hl';rwa [e4] at this,λc s hs=>hs.gv (λa u u' hw hu=>WL.le hw aJg) λ_=>?_⟩) _<|Ak _
  obtain ⟨b1,b2,b3⟩:=d4 l hl'
  have c1:=hvd.lk l hl'
  rw [e4] at c1
  have ht12:l.2.2.2.2.2=12:=by
   have:=(g.dec hJ).vl
   obtain ⟨vl,k,w1,w2⟩:=this
   have e:Aa p.AI.se p.AI.fl=vl:=w1.ld.2
   rw [e] at b1;exact (w2 _ b1).2.2.1
  refine ⟨l.2,b1,rfl,rfl,?_⟩
  show l.2.2.2.2.2+BH p.tk (gi p.dr l.2.2.1)<=12+BH (l.2.2.2.2.1+10) (gi p.dr l.2.2.1)
  have:=ag9 (t:=p.tk) (t':=l.2.2.2.2.1+10) (hdr _ c1.1 c1.2) htk.1 A0 (by
   have:=(g.dec hJ).vl
   obtain ⟨vl,k,w1,w2⟩:=this
   have e:Aa p.AI.se p.AI.fl=vl:=w1.ld.2
   rw [e] at b1
   have:=(w2 _ b1).2.1
   omega)
  omega
 have s2:BU p.gs (EG p.gs<|WJ (Aa p.AI.se p.AI.fl) p.dr<|p.tk+1) p.Ah.st:=by
  have:=acH (t:=p.tk) (dr:=p.dr) s1 (Sq hv) hv.dr A0 (M p.dr)<|Ak _
  show BU p.gs _ (HD p.AI.gs p.AI.dr p.AI.tk p.AI.IT.st<|M p.AI.dr)
  rw [e4,e13,e6];refine ⟨this.1,λj j0 j1=>(this.2 j j0 j1).le λa l _ ⟨x,q1,q2,q3,q4⟩=>⟨x,q1,q2,q3,?_⟩⟩
  have q4:l+(if j<((M p.dr:aC):Y) then BH (p.tk+1) (gi p.dr j) else BH p.tk (gi p.dr j))<=_:=q4
  rw [AB sv] at q4;exact q4
 have f4:p.Ah.gs=p.gs:=e4
 have s3:BU p.gs (EG p.gs<|WJ (Aa p.AI.se p.AI.fl) p.dr<|p.tk+1) p.Ah.dw.st:=by
  have:=BU.dw (gs:=p.gs) (ca:=p.Ah.ca) (s:=⟨p.Ah.st,p.Ah.mi,p.Ah.me,aq (M p.Ah.gs) 0⟩) s2 (λj s hs=>hs.gv (λa u u' hw hu=>WL.le hw aJg) λhk=>Kf) (M p.gs)<|Ak _
  show BU p.gs _ (Cl p.Ah.gs p.Ah.ca _<|M p.Ah.gs).st
  rw [f4];rw [f4] at this;exact this
 have et:p.B5.tk=p.tk+1:=An (·+1) e6
 have eg:p.B5.gs=p.gs:=e4
 have ed:p.B5.dr=p.dr:=e13
 have eu:p.B5.up=p.up:=e7
 have es:p.B5.se=p.AI.se:=rfl
 have ef:p.B5.fl=p.AI.fl:=rfl
 have el:p.B5.ls=p.AI.ls:=rfl
 have ek:p.B5.st=p.Ah.dw.st:=rfl
 refine ⟨⟨?_,?_,?_,?_⟩,s2⟩
 ·rw [es,ef,el,et,eu]
  intro c;obtain ⟨c1,c2⟩:=d1 c;exact ⟨λy hy he=>c1 y hy<|Int.lt_trans (Int.lt_succ p.tk) he,λy hy he=>c2 y hy<|Int.lt_trans (Int.lt_succ p.tk) he⟩
 ·rw [eu,el]
  exact d2
 ·rw [eg,ed,et,es,ef,ek]
  exact s3
 rw [es,ef];intro l hl
 have hm:l∈p.AI.lk/\an (l.1>p.AI.tk)=true:=CG.1 hl
 have h4:=d4 l hm.1
 have h2:=CW hm.2
 rw [e6] at h2;rw [et];exact ⟨h4.1,Int.add_one_le_iff.2 h2,h4.2.2⟩
def LX.step (h:LX p) (g:TG d p) (hJ:JP p) (ht:p.tk<=1000) {e:EV}(he:BS p e=0):LX (B3 p e):=by
 have hv:=hJ.1.1
 unfold B3;rw [AD A0];unfold BS at he;rw [AD su] at he
 have cr:∀ {i:Y},p.isC i≠X->0<=i/\i<(M p.gs:Y):=λ{i} hh=>by
  exact aI6
 have gv:∀ {st:bc} {i k n m:Y},BU p.gs (EG p.gs<|WJ (Aa p.se p.fl) p.dr p.tk) st->(0<=i/\i<(M p.gs:Y))->k≠7/\k≠8->BU p.gs (EG p.gs<|WJ (Aa p.se p.fl) p.dr p.tk) (C3 p.gs st i k n m):=λ{st i k n m} hs hi hk=>
  hs.gv hi.1 hi.2 λhs=>hs.gv (λa u u' hw hu=>WL.le hw A0) λc=>absurd c hk.1
 split
 ·exact (h.tick g hJ ht).1
 rename_i h1;rw [AD h1] at he;split
 ·rename_i h2
  rw [AB h2] at he;unfold PK.Ei at he;split at he
  ·cases he
  rename_i hi
  have hi:=cr hi
  exact {h with st:=gv (gv (gv (gv h.st hi AS) hi AS) hi AS) hi AS}
 rename_i h2;rw [AD h2] at he;split
 ·rename_i h3
  rw [AB h3] at he;unfold PK.HB at he;split at he
  ·cases he
  rename_i hi
  have hi:=cr hi
  exact {h with st:=gv (gv h.st hi AS) hi AS}
 rename_i h3;rw [AD h3] at he;split
 ·exact {h with lk:=λl hl=>h.lk l (CG.1 hl).1}
 rename_i h4;rw [AD h4] at he;split
 ·exact ⟨λc=>Cu,λ_=>rfl,h.st,h.lk⟩
 rename_i h5;rw [AD h5] at he;split
 ·refine ⟨λ_=>?_,λc=>Cu,h.st,h.lk⟩
  obtain ⟨k,v1,v2⟩:=g.vl
  have htk:=hv.tk
  have e:BB (Aa p.se p.fl) p.tk=(Aa p.se p.fl).filter (JK p.tk):=AB (by unfold Hp;rw [v1.lv,B6.2 A0];rfl)
  show (∀y∈Aa p.se p.fl,Cc y>p.tk->y∈BB (Aa p.se p.fl) p.tk)/\∀y∈BB (Aa p.se p.fl) p.tk,Cc y>p.tk->y∈Aa p.se p.fl
  rw [e];exact ⟨λy hy he=>CG.2 ⟨hy,CB he⟩,λy hy _=>(CG.1 hy).1⟩
 rename_i h6;rw [AD h6] at he;split
 ·rename_i h7
  rw [AB h7] at he;unfold PK.L8 at he;split at he
  ·cases he
  rename_i hi;exact {h with st:=gv h.st (cr hi) AS}
 ·exact {h with}
def arS {cs:aJ}{os:aF}{ks:aP}{gs:aG}{bs:aQ}{dr:aB}(h:Dz cs os ks gs bs dr=0):LX (newP cs os ks gs bs dr):=by
 have hp:newP cs os ks gs bs dr=_:=AD A8
 obtain ⟨vl,k,v1,v2⟩:=(aEm h).sg.vl
 have hs:=(ku h).1.site
 rw [hp] at v1 hs|-
 have e:=(⟨rfl,rfl,⟨0,_,_,S8⟩,CN _⟩:VI 512 E9 [] 0).ld.2
 refine ⟨λ_=>⟨λy hy _=>?_,λy hy=>(by cases hy)⟩,λc=>rfl,⟨Bc,λj j0 j1=>?_⟩,λl hl=>(by cases hl)⟩
 ·have hy:=hy
  rw [show Aa 512 E9=[] from e] at hy;exact hy
 ·have e0:B1 (aq (M gs) ((0,0,0,X):St)) j=(0,0,0,X):=by
   unfold B1
   grind
  simp only [e0]
  have hc:=Kp hs j0 j1
  unfold Ek JR at hc;simp only [AP,C6,CO,B6] at hc;exact ⟨Jx.2 ⟨S2.2 A0,AS,A8,AS,A8,AS,A8,λ_=>rfl,λc=>Cu⟩,λc=>absurd c AS⟩
def auR {gs:aG}{vl:aL}{dr:aB}{t u j:Y}{s:St}(h:EG gs (WJ vl dr t) j s) (hw:s.2.2.2=X) (hd:-200<=gi dr j/\gi dr j<=200) (ht:t<=1000000) (hv:Ao vl=U) (hb:below (M gs) vl=U)
  (hT:∀x∈vl,0<=x.2.2.2.1/\Cc x=x.2.2.2.1+23) (hu:∀x∈vl,x.2.2.2.1<=u) (ut:u<=t):BL (AF gs j) s<=mx (C7<|AF gs j) (gi (FL (M gs) vl u) j):=by
 obtain ⟨q1,q2⟩:=h
 have qv:=Jx.1 q1
 have hfb:0<=C7 (AF gs j):=by
  have:=S2.1 qv.1
  unfold C7;omega
 unfold BL;rw [AB q1,AD A8];split
 ·unfold mx;split<;>omega
 split
 ·rename_i c
  obtain ⟨x,b1,b2,b3,b4,b5⟩:=zK (q2 A0) A0 hd ht λx hx=>(hT x hx).1
  have ha:E4 u x=true:=by
   unfold E4;rw [CB<|hu x b1,CB A8];rfl
  have:=jB (gs:=gs) hv hb b1 ha
  rw [b2,b3] at this;exact M7
 ·show C7 _<=_
  exact M7
end Go.Proofs.YtcdkianomnhhmaaGreatDoor
namespace Go.Proofs.YtcdkianomnhhmaaGreatDoor
set_option maxRecDepth 100000
set_option maxHeartbeats 4000000
open Go.Proofs.Tryz
open Go.Sx
variable {p : PK} {d : Int}
def HT.refl (C:aJ):HT C C:=⟨rfl,λ_=>rfl,λ_=>CN _⟩
def aw4 (hv:VP p):Av p.EF p.os p.ks p.gs p.bs=true:=wL hv.site hv.tg1 _ tB
def PA {n:aC}{t:Y}{l:aL}(h:∀x∈l,TL n t x):below n l=true:=B9.2 λx hx=>CB (h x hx).2.2.2
def agA (h:TG d p) (hJ:JP p) (hu:p.up=X) (ht:p.tk<=1000):p.Dp=0:=by
 obtain ⟨vl,g,h1,h2⟩:=h.sg.vl;obtain ⟨l1,l2⟩:=h1.ld
 have l1:C5 p.se p.fl=0:=l1
 have l2:Aa p.se p.fl=vl:=l2
 have hd:=h.d01
 have htk:=hJ.1.1.tk
 have hx:Cb vl p.tk=0:=AB (by unfold Hp;rw [h1.lv,B6.2 A0];rfl)
 unfold PK.Dp GP;rw [AD A8,l1,l2,hx,AD AS,AD AS,AD AS];split
 ·rfl
 ·have hm:AU vl ((M vl:Y)-1)∈vl:=Hd A0 A0
  have b2:=(h2 _ hm).1.1
  omega
end Go.Proofs.YtcdkianomnhhmaaGreatDoor
namespace Go.Proofs.YtcdkianomnhhmaaGreatDoor
set_option maxRecDepth 100000
set_option maxHeartbeats 4000000
open Go.Proofs.Tryz
open Go.Sx
def BU.ED {gs:aG}{Q:Y->St->Prop}{st:bc}(h:BU gs Q st) (hq:∀j s,Q j s->Q j (DO (AF gs j) s 8 0 0)) {i:Y}(h0:0<=i) (h1:i<(M gs:Y)):∀k:aC,BU gs Q (JF gs st i k)
 |0=>h
 |k+1=>(BU.ED h hq h0 h1 k).gv h0 h1<|hq _ _
def BU.cnt {gs:aG}{Q:Y->St->Prop}{dr:aB}{t:Y}{st:bc}(h:BU gs Q st) (hq:∀j s,Q j s->Q j (DO (AF gs j) s 8 0 0)):∀n,n<=M gs->BU gs Q (HD gs dr t st n)
 |0,_=>h
 |n+1,hn=>by
  unfold HD;split
  ·exact (BU.cnt h hq n A0).ED hq A0 A0 _
  ·exact BU.cnt h hq n A0
def jJ {gs:aG}{tg am:aB}{cs:aJ}:∀n,Cp gs tg am cs n=cs\/Cw (Cp gs tg am cs n) gs am=U
 |0=> .inl rfl
 | n+1=>by
  unfold Cp;split
  ·exact jJ n
  ·split
   ·rename_i c
    grind
   ·exact jJ n
variable {p : PK} {d : Int}
def aGD (hv:VP p):HT p.EF p.cs:=auL ⟨rfl,λj=>⟨(AY p.cs j).2.2.1,rfl⟩⟩ hv.Em λj hj=>(hv.tg j (by rw [hv.Em];exact hj)).2
structure LM (d:Y) (p:PK):Prop where
 fi:FI p
 tg:TG d p
 lx:LX p
 kp:Cw p.cs p.gs (Cr p.gs (Aa p.se p.fl) p.tk)=U
def LM.dec (h:LM d p) (hJ:JP p) (ht:p.tk<=1000) {t':Y}(h1:p.tk<=t'):Cw p.cs p.gs (Cr p.gs (Aa p.AI.se p.AI.fl) t')=true:=by
 have hv:=hJ.1.1
 have hs:=hv.site
 have hd:=h.tg.d01
 obtain ⟨k,v1,v2⟩:=h.tg.vl;obtain ⟨vl',k',w1,w2⟩:=(h.tg.dec hJ).vl
 have e:Aa p.AI.se p.AI.fl=vl':=w1.ld.2
 obtain ⟨d1,d2,⟨d3,d5⟩,d4⟩:=h.lx.dec h.tg hJ ht;rw [e] at d5|-
 have b0:=PA λx hx=>(v2 x hx).2
 have b1:=PA λx hx=>(w2 x hx).2
 by_cases c:p.up=U/\p.dE=0
 ·obtain ⟨V,M,_⟩:=TJ c.2
  obtain ⟨u1,_⟩:=h.lx.up c.1;refine ag8 V hs (aGD hv) M v1.lv b0 w1.lv b1 (λx hx=>⟨by have:=(v2 x hx).2.1;omega,λq=>?_⟩) (λx hx=>(d5 x hx).imp id λq=>q.2.2) h.kp h1
  rw [XY hJ];exact CG.2 ⟨u1 x hx q,CB q⟩
 ·refine X0 hs hs (HT.refl _) (λk hk=>I9 hs v1.lv A0 A0) (λk hk=>⟨(I9 hs w1.lv A0 A0).1,gJ v1.lv b0 w1.lv b1 (λx hx ha=>?_) A0 A0⟩) h.kp
  rcases d5 x hx with q|q
  ·exact ⟨q,yT h1 (by have:=(v2 x q).2.1;omega) ha⟩
  ·grind
def LM.tick (h:LM d p) (hJ:JP p) (ht:p.tk<=1000):LM d p.B5:=by
 obtain ⟨e1,e2,e3,e4,e5,e6,e7,e8,e9,e10,e11,e12,e13,e14⟩:=I7 p;obtain ⟨_,_,_,_,etk⟩:=Ku hJ A0
 have hv:=hJ.1.1
 have htk:=hv.tk
 refine ⟨h.fi.tick hv A0,h.tg.tick hJ,(h.lx.tick h.tg hJ ht).1,?_⟩
 have eg:p.B5.gs=p.gs:=e4
 have es:p.B5.se=p.AI.se:=rfl
 have ef:p.B5.fl=p.AI.fl:=rfl
 have hk:=h.dec hJ ht (t':=p.tk+1) A0
 have a1:p.Ah.Be.cs=p.cs:=e1
 have a2:p.Ah.Be.tg=p.tg:=e14
 have a3:p.Ah.Be.gs=p.gs:=e4
 have a4:p.Ah.Be.tk=p.tk:=e6
 have a5:p.Ah.Be.up=p.up:=e7
 have a6:p.Ah.Be.ls=p.AI.ls:=rfl
 have ec:p.B5.cs=if p.up=X then p.cs else Cp p.gs p.tg p.Ah.Be.Ig p.cs (M p.tg):=by
  show (if p.Ah.Be.up=X then p.Ah.Be.cs else Cp p.Ah.Be.gs p.Ah.Be.tg p.Ah.Be.Ig p.Ah.Be.cs (M p.Ah.Be.tg))=_
  rw [a5,a1,a2,a3]
 rw [eg,es,ef,etk,ec]
 by_cases hu:p.up=X
 ·rw [AB hu];exact hk
 rw [AD hu]
 have hu:p.up=true:=by simpa using hu
 rcases jJ (gs:=p.gs) (tg:=p.tg) (am:=p.Ah.Be.Ig) (cs:=p.cs) (M p.tg) with e|e
 ·rw [e];exact hk
 have hd:=h.tg.dec hJ
 obtain ⟨vl',k',w1,w2⟩:=hd.vl
 have el:Aa p.AI.se p.AI.fl=vl':=w1.ld.2
 obtain ⟨d1,_⟩:=h.lx.dec h.tg hJ ht;obtain ⟨u1,_⟩:=d1 hu;rw [el] at u1|-
 have b1:below (M p.gs) vl'=true:=PA λx hx=>(w2 x hx).2
 have b2:below (M p.gs) p.AI.ls=true:=PA<|hd.ls.2
 have gl:=(Ci.1 hv.site).1.2.2.2.2.1
 have ea:p.Ah.Be.Ig=Cr p.gs p.AI.ls (p.tk+1):=by
  unfold PK.Ig Hs
  rw [a3,a4,a6,AB (by
   rw [AB];unfold IU;rw [show Ao p.AI.ls=U from hd.ls.1,B6.2 A0,B6.2 A0,b2];rfl)]
 have hs2:Av (Cp p.gs p.tg p.Ah.Be.Ig p.cs<|M p.tg) p.os p.ks p.gs p.bs=true:=wJ hv.site hv.tg1 _ tB
 rw [ea] at e hs2|-;refine X0 hs2 hs2 (HT.refl _) (λk hk=>I9 hv.site hd.ls.1 A0 A0) (λk hk=>⟨(I9 hv.site w1.lv A0 A0).1,gJ hd.ls.1 b2 w1.lv b1 (λx hx ha=>⟨u1 x hx ?_,ha⟩) A0 A0⟩) e
 unfold E4 at ha;simp only [AP,AT] at ha;omega
def LM.step (h:LM d p) (hJ:JP p) (ht:p.tk<=1000) {e:EV}(he:BS p e=0) (hw:e.ek≠7) (hc:e.c.1≠4):LM d (B3 p e):=by
 have f:=h.fi.step hJ.1.1 he hw hc
 have g:=h.tg.step hJ he
 have x:=h.lx.step h.tg hJ ht he
 rcases zm hJ.1.1 he with ⟨_,c⟩ |c|⟨c0,c⟩ |⟨c0,c⟩ |c
 ·rw [c];exact h.tick hJ ht
 ·exact dO
 ·exact dO
 ·exact dO
 ·exact dO
def LM.draw (h:LM d p) (hJ:JP p) (ht:p.tk<=1000):M p.Ej=M p.gs/\(∀k:aC,k<M p.gs->0<=gi p.Ej k/\gi p.Ej k<=80)/\Cw p.cs p.gs p.Ej=true:=by
 obtain ⟨e1,e2,e3,e4,e5,e6,e7,e8,e9,e10,e11,e12,e13,e14⟩:=I7 p
 have hv:=hJ.1.1
 have htk:=hv.tk
 have hvd:=hv.dec
 have hvb:VP p.Ah:=hvd.arr.cnt
 have f4:p.Ah.gs=p.gs:=e4
 have f9:p.Ah.ca=p.ca:=e9
 obtain ⟨vl',k',w1,w2⟩:=(h.tg.dec hJ).vl
 have el:Aa p.AI.se p.AI.fl=vl':=w1.ld.2
 have b1:=PA λx hx=>(w2 x hx).2
 have s2:=(h.lx.tick h.tg hJ ht).2
 have hk:=h.dec hJ ht (t':=p.tk)<|CN _
 rw [el] at s2 hk
 have nw:BU p.gs (λ_ s=>s.2.2.2=X) p.Ah.st:=by
  show BU p.gs _ (HD p.AI.gs p.AI.dr p.AI.tk (JD p.AI.gs p.AI.lk p.AI.tk p.AI.st<|M p.AI.lk)<|M p.AI.dr)
  rw [e4,e8,hvd.dr,e4];refine BU.cnt (BU.arr (Q:=λ_ s=>s.2.2.2=X) ⟨h.fi.st.1,λj j0 j1=>(h.fi.st.2 j j0 j1).2.1⟩ (λl hl=>⟨by have:=hvd.lk l hl;rwa [e4] at this,λ_ s hs=>Yq hs<|.inl AS⟩) _<|Ak _) (λj s hs=>Yq hs<|.inl AS) _<|Ak _
 have hl:=X3 (gs:=p.Ah.gs) (ca:=p.Ah.ca) (s:=⟨p.Ah.st,p.Ah.mi,p.Ah.me,aq (M p.Ah.gs) 0⟩)<|M p.Ah.gs
 have key:∀i:aC,i<M p.gs->(0<=gi p.Ej i/\gi p.Ej i<=80)/\gi p.Ej i<=gi (Cr p.gs vl' p.tk) i:=λi hi=>by
  have:=(aEv (gs:=p.Ah.gs) (ca:=p.Ah.ca) (s:=⟨p.Ah.st,p.Ah.mi,p.Ah.me,aq (M p.Ah.gs) 0⟩) (n:=M p.Ah.gs) hvb.mi hvb.me AG (j:=i) (by rw [f4];exact hi) (M p.Ah.gs) (by rw [f4];exact hi)).2.2
  have hb:=I9 (t2:=p.tk) hv.site w1.lv (j:=(i:Y)) A0 A0
  have ed:gi p.Ej i=_:=this
  rw [ed];split
  ·rename_i ok
   have a1:=D1.bd ok
   have a2:=D1.le ok<|ax5 (by rw [f9];exact h.fi.ca) i
   refine ⟨⟨a1.1,a1.2.1⟩,FV a2 ?_⟩;rw [f4,P4 A0 A0];exact auR (s2.2 i A0 A0) (nw.2 i A0 A0) (Sq hv (i:Y) A0 (by rw [hv.dr];omega)) A0 w1.lv b1 (λx hx=>⟨(IB.1<|(Eh w1.lv).2 x hx).2.2.2.1.1,m6 (w2 x hx).2.2.1⟩) (λx hx=>by have:=(w2 x hx).2.1;omega) A0
  ·have e0:gi (aq (M p.Ah.gs) 0) i=0:=IF
   rw [e0]
   grind
 exact ⟨by refine hl.2.2.2.trans ?_;rw [Bc,f4],λk hk'=>(key k hk').1,X0 hv.site hv.site (HT.refl _) (λk hk'=>I9 hv.site w1.lv A0 A0) (λk hk'=>⟨(key k hk').1.1,(key k hk').2⟩) hk⟩
end Go.Proofs.YtcdkianomnhhmaaGreatDoor
namespace Go.Proofs.YtcdkianomnhhmaaGreatDoor
set_option maxRecDepth 100000
set_option maxHeartbeats 4000000
open Go.Proofs.Tryz
open Go.Sx
def opN (k:Y) (l:aC):Y:=if (l:Y)>0 then (AA k).tmod l else 0
def opE (p:PK) (x1 x2 x3 y1 y2 y3 y4 y5:Y) (z1:aM) (z2 z3 z4:Y):EW:=
 if x1.tmod 14=6\/x1.tmod 14=7 then ⟨2,opN x2<|M p.ca,0,y1,y2,y3,y4,y5,z1,z2,z3,z4⟩
 else if x1.tmod 14=8 then ⟨3,opN x2<|M p.ca,0,0,0,0,0,0,X,0,0,0⟩
 else if x1.tmod 14=9 then ⟨4,opN x2<|M p.ca,0,0,0,0,0,0,X,0,0,0⟩
 else if x1.tmod 14=10 then ⟨5,0,0,0,0,0,0,0,X,0,0,0⟩
 else if x1.tmod 14=11 then ⟨6,0,0,0,0,0,0,0,X,0,0,0⟩
 else if x1.tmod 14=12 then ⟨7,opN x2<|M p.ca,0,0,0,0,0,0,X,0,0,0⟩
 else if x1.tmod 14=13 then ⟨8,opN x2<|M p.tg,(AA x3).tmod 100,0,0,0,0,0,X,0,0,0⟩
 else ⟨1,0,0,0,0,0,0,0,X,0,0,0⟩
def opT (x1 x3:Y):Y:=if 6<=x1.tmod 14/\x1.tmod 14<=13 then 1 else AA (1+(AA x3).tmod 12)
def aGd:aD->T LV
 | [x_p,.v (.agg ⟨[ag aw x1,ag aw x2,ag .u16 x3,ag J y1,ag J y2,ag J y3,ag J y4,ag J y5,.bool z1,ag J z2,ag J z3,ag J z4]⟩)]=>(match N5 x_p with
  |some p=> .tu #[opE p x1 x2 x3 y1 y2 y3 y4 y5 z1 z2 z3 z4,opT x1 x3]
  |none=> .no)
 |_=> .no
def aF2:aN:=[]
def arM (p:PK) (x1 x2 x3 y1 y2 y3 y4 y5:Y) (z1:aM) (z2 z3 z4:Y):letI a:=x1.tmod 14;letI c:=(M p.tg:Y);letI d:=(AA x3).tmod 100;letI e:=(M p.ca:Y);letI f:=AA<|1+((AA x3).tmod 12);letI b:=(AA x2).tmod e;BO prog AM (aF2) kN noLoops f13 [p,.v<|.agg #[ag aw x1,ag aw x2,ag .u16 x3,y1,y2,y3,y4,y5,z1,z2,z3,z4]]=.br (an<|e>0) (.req (e≠0)<|.req ((14:Y)≠0)<|.br (a==6) (.tu #[.agg #[(2:Y),b,(0:Y),y1,y2,y3,y4,y5,z1,z2,z3,z4],(1:Y)])<|.br (a==7) (.tu #[.agg #[(2:Y),b,(0:Y),y1,y2,y3,y4,y5,z1,z2,z3,z4],(1:Y)])<|.br (a==8) (.tu #[.agg #[(3:Y),b,(0:Y),(0:Y),(0:Y),(0:Y),(0:Y),(0:Y),X,(0:Y),(0:Y),(0:Y)],(1:Y)])<|.br (a==9) (.tu #[.agg #[(4:Y),b,(0:Y),(0:Y),(0:Y),(0:Y),(0:Y),(0:Y),X,(0:Y),(0:Y),(0:Y)],(1:Y)])<|.br (a==10) (.tu #[.agg #[(5:Y),(0:Y),(0:Y),(0:Y),(0:Y),(0:Y),(0:Y),(0:Y),X,(0:Y),(0:Y),(0:Y)],(1:Y)])<|.br (a==11) (.tu #[.agg #[(6:Y),(0:Y),(0:Y),(0:Y),(0:Y),(0:Y),(0:Y),(0:Y),X,(0:Y),(0:Y),(0:Y)],(1:Y)])<|.br (a==12) (.tu #[.agg #[(7:Y),b,(0:Y),(0:Y),(0:Y),(0:Y),(0:Y),(0:Y),X,(0:Y),(0:Y),(0:Y)],(1:Y)])<|.br (a==13) (.br (an<|c>0) (.req (c≠0)<|.req ((100:Y)≠0)<|.tu #[.agg #[(8:Y),(AA x2).tmod c,d,(0:Y),(0:Y),(0:Y),(0:Y),(0:Y),X,(0:Y),(0:Y),(0:Y)],(1:Y)])<|.req ((100:Y)≠0)<|.tu #[.agg #[(8:Y),(0:Y),d,(0:Y),(0:Y),(0:Y),(0:Y),(0:Y),X,(0:Y),(0:Y),(0:Y)],(1:Y)])<|.req ((12:Y)≠0)<|.tu #[.agg #[(1:Y),(0:Y),(0:Y),(0:Y),(0:Y),(0:Y),(0:Y),(0:Y),X,(0:Y),(0:Y),(0:Y)],f]) (.req ((14:Y)≠0)<|.br (a==6) (.tu #[.agg #[(2:Y),(0:Y),(0:Y),y1,y2,y3,y4,y5,z1,z2,z3,z4],(1:Y)])<|.br (a==7) (.tu #[.agg #[(2:Y),(0:Y),(0:Y),y1,y2,y3,y4,y5,z1,z2,z3,z4],(1:Y)])<|.br (a==8) (.tu #[.agg #[(3:Y),(0:Y),(0:Y),(0:Y),(0:Y),(0:Y),(0:Y),(0:Y),X,(0:Y),(0:Y),(0:Y)],(1:Y)])<|.br (a==9) (.tu #[.agg #[(4:Y),(0:Y),(0:Y),(0:Y),(0:Y),(0:Y),(0:Y),(0:Y),X,(0:Y),(0:Y),(0:Y)],(1:Y)])<|.br (a==10) (.tu #[.agg #[(5:Y),(0:Y),(0:Y),(0:Y),(0:Y),(0:Y),(0:Y),(0:Y),X,(0:Y),(0:Y),(0:Y)],(1:Y)])<|.br (a==11) (.tu #[.agg #[(6:Y),(0:Y),(0:Y),(0:Y),(0:Y),(0:Y),(0:Y),(0:Y),X,(0:Y),(0:Y),(0:Y)],(1:Y)])<|.br (a==12) (.tu #[.agg #[(7:Y),(0:Y),(0:Y),(0:Y),(0:Y),(0:Y),(0:Y),(0:Y),X,(0:Y),(0:Y),(0:Y)],(1:Y)])<|.br (a==13) (.br (an<|c>0) (.req (c≠0)<|.req ((100:Y)≠0)<|.tu #[.agg #[(8:Y),(AA x2).tmod c,d,(0:Y),(0:Y),(0:Y),(0:Y),(0:Y),X,(0:Y),(0:Y),(0:Y)],(1:Y)])<|.req ((100:Y)≠0)<|.tu #[.agg #[(8:Y),(0:Y),d,(0:Y),(0:Y),(0:Y),(0:Y),(0:Y),X,(0:Y),(0:Y),(0:Y)],(1:Y)])<|.req ((12:Y)≠0)<|.tu #[.agg #[(1:Y),(0:Y),(0:Y),(0:Y),(0:Y),(0:Y),(0:Y),(0:Y),X,(0:Y),(0:Y),(0:Y)],f]):=AO
def aaj:=vo (S:=aGd) func13 aF2 kN (λargs lv h=>by
 refine ⟨?_⟩;unfold aGd at h;split at h
 ·split at h
  case h_2=>cases h
  rename_i p hp;obtain rfl:=Rm hp;simp only [canL,canX];rw [arM];obtain rfl:=h
  repeat' (first|(refine And.intro (λc=>?_) λc=>?_) |(refine And.intro A8 ?_))
  all_goals simp_all [T.all,opE,opT,opN]
  all_goals omega
 ·cases h)
def aiO {p:PK}(hJ:JP p) {ev:EW}(h1:ev.ek=1) (h2:p.tk<=1000):BS p ev.ev=0:=by
 rw [(vF (Of.2 hJ.1.1) h1).1];exact AD A0
def zJ {p:PK}(hJ:JP p) {ev:EW}(he:BS p ev.ev=0):(B3 p ev.ev).tk=p.tk\/(ev.ek=1/\(B3 p ev.ev).tk=p.tk+1):=by
 have hv:=Of.2 hJ.1.1
 by_cases c1:ev.ek=1
 ·obtain ⟨a,b⟩:=vF hv c1
  rw [(b<|a.symm.trans he).1];exact .inr ⟨c1,aJm⟩
 left
 by_cases c2:ev.ek=2
 ·obtain ⟨a,b⟩:=ae9 hv c2;rw [(b<|a.symm.trans he).1];rfl
 by_cases c3:ev.ek=3
 ·obtain ⟨a,b⟩:=ae8 hv c3;rw [(b<|a.symm.trans he).1];rfl
 by_cases c4:ev.ek=4
 ·obtain ⟨a,b⟩:=ae7 hv c4;rw [(b<|a.symm.trans he).1];rfl
 by_cases c5:ev.ek=5
 ·obtain ⟨a,b⟩:=ae6 hv c5;rw [(b<|a.symm.trans he).1];rfl
 by_cases c6:ev.ek=6
 ·obtain ⟨a,b⟩:=vD hv c6;rw [(b<|a.symm.trans he).1];rfl
 by_cases c7:ev.ek=7
 ·obtain ⟨a,b⟩:=ae5 hv c7;rw [(b<|a.symm.trans he).1];rfl
 by_cases c8:ev.ek=8
 ·obtain ⟨a,b⟩:=ae4 hv c8;rw [(b<|a.symm.trans he).1];rfl
 ·rw [ae3 hv ⟨c1,c2,c3,c4,c5,c6,c7,c8⟩] at he
  cases he
def apw (x1 x3:Y):opT x1 x3<=12:=by
 unfold opT;split
 ·decide
 ·have h1:=Int.tmod_lt_of_pos (AA x3) (show (0:Y)<12 by decide)
  have h2:=Int.lt_tmod_of_pos (AA x3) (show (0:Y)<12 by decide)
  rw [AH];omega
def TmO (x:Int×Int×Int×Le×Dm):Prop:=x.1.tmod 14≠12/\x.2.2.2.1.1≠4
def TmE (e:EW):Prop:=e.ek≠7/\e.c1≠4
def apx {p:PK}{x1 x2 x3 y1 y2 y3 y4 y5:Y}{z1:aM}{z2 z3 z4:Y}(h1:x1.tmod 14≠12) (h2:y1≠4):TmE (opE p x1 x2 x3 y1 y2 y3 y4 y5 z1 z2 z3 z4):=by
 unfold opE TmE;rw [AD h1]
 repeat' split
 all_goals simp [h2]
def arU {cs:aJ}{os:aF}{ks:aP}{gs:aG}{bs:aQ}{dr:aB}(h:Dz cs os ks gs bs dr=0):FI (newP cs os ks gs bs dr):=by
 have hp:newP cs os ks gs bs dr=_:=AD tm
 rw [hp];refine ⟨⟨Bc,λj j0 j1=>?_⟩,λl hl=>(by cases hl),λc hc=>by rw [List.eq_of_mem_replicate hc];decide⟩
 have e:B1 (aq (M gs) ((0,0,0,X):St)) j=(0,0,0,X):=by
  unfold B1;rw [CH,Qm];split<;>rfl
 simp only [e]
 have hc:=Kp (by have:=(ku h).1.site;rw [hp] at this;exact this) j0 j1
 unfold Ek JR at hc;simp only [AP,C6,CO,B6] at hc;exact ⟨Jx.2 ⟨S2.2 A0,AS,(by decide:(0:Y)<=5),AS,(by decide:(0:Y)<=1000000),AS,by show (0:Y)<=(AF gs j).2.2.2.2.1;omega,λ_=>rfl,λe=>MA⟩,rfl,(by decide:(0:Y)<=12)⟩
def arT {cs:aJ}{os:aF}{ks:aP}{gs:aG}{bs:aQ}{dr:aB}(h:Dz cs os ks gs bs dr=0):LM 0 (newP cs os ks gs bs dr):=by
 have hJ:=XB h
 have hg:=aEm h
 have hf:=arU h
 have hx:=arS h
 have htk:(newP cs os ks gs bs dr).tk=0:=by
  have hp:newP cs os ks gs bs dr=_:=AD tm
  rw [hp]
 generalize newP cs os ks gs bs dr=p at*
 have hv:=hJ.1.1
 obtain ⟨k,v1,v2⟩:=hg.vl
 have e:Aa p.se p.fl=[]:=aGq.2 λx hx'=>by
  have a1:=(v2 x hx').2.1
  have a2:=(hg.v23 x hx').1
  omega
 refine ⟨hf,hg,hx,?_⟩
 have hs:=aw4 hv
 have hl:M (BT p.gs)=M p.gs:=HY
 rw [e];refine X0 hs hv.site (aGD hv) (λk hk=>j7 hs A0) (λk hk=>⟨(I9 hs rfl A0 A0).1,?_⟩) hg.kt
 have h0:=j7 hs (k:=k) A0
 have e1:gi (BT p.gs) k=C7 (AF p.gs k):=MH A0 A0
 have e2:gi (FL (M p.gs) [] p.tk) k=0:=IF
 rw [P4 A0 A0,e1,e2];rw [e1] at h0;unfold mx;split<;>omega
def goQ:aC->QV->QV
 |0,q=>q
 |n+1,q=>goQ n q.tick
def FU:aC->PK->PK
 |0,p=>p
 |n+1,p=>FU n p.B5
def yB:∀(n:aC) {p:PK},FU (n+1) p=(FU n p).B5
 |0,_=>rfl
 |n+1,p=>yB n (p:=p.B5)
def yA:∀(n:aC) {q:QV},goQ (n+1) q=(goQ n q).tick
 |0,_=>rfl
 |n+1,q=>yA n (q:=q.tick)
def xL {q:QV}(h:q.tick.ok=U):q.ok=true:=by
 have h:q.dec.ok=true:=h
 unfold QV.dec at h;split at h
 ·exact h
 split at h
 ·exact h
 ·exact zu (s:=(q.p.Ep,q.vl,q.ok)) _ h
def aFT:∀(n:aC) {q:QV},(goQ n q).ok=U->q.ok=U
 |0,_,h=>h
 |n+1,q,h=>xL<|aFT n (q:=q.tick) h
def aA6:∀(n:aC) {p:PK}{q:QV},RP p q->(goQ n q).ok=U->RP (FU n p) (goQ n q)
 |0,_,_,h,_=>h
 |n+1,_,q,h,hk=>aA6 n (xK h<|aFT n hk).1 hk
def Xd:∀(n:aC) {p:PK},JP p->p.tk+n<1000000->JP (FU n p)/\(FU n p).tk=p.tk+n
 |0,p,h,_=>⟨h,by show p.tk=p.tk+0;omega⟩
 |n+1,p,h,ht=>by
  obtain ⟨he,e2,_,_,etk⟩:=Ku h A0
  have h2:=h.step he
  rw [e2] at h2;obtain ⟨a1,a2⟩:=Xd n h2 A0;exact ⟨a1,by show (FU n p.B5).tk=_;omega⟩
def xG {p:PK}{q:QV}{e:EV}(h:RP p q) (hk:e.ek=2) (hv:Df q.p=U) (he:q.p.Ei e.en e.c e.d=0):BS p e=0/\RP (B3 p e) {q with p:=q.p.LA e.en e.c e.d}:=by
 have e1:BS p e=0:=by
  have:q.p.Ei e.en e.c e.d=p.Ei e.en e.c e.d:=by rw [h.1];rfl
  unfold BS;rw [<-ahT h,hv,AD AS,AD th,AB hk];exact this.symm.trans he
 refine ⟨e1,?_⟩
 have e2:B3 p e=p.LA e.en e.c e.d:=by
  unfold B3;rw [e1,AD AS,AD th,AB hk]
 rw [e2];exact ⟨by simp only;rw [h.1];rfl,h.2⟩
def zC:aJ:=[(av #[102],-1,32,32,(32,100),0,0,0,0,0)]
def zG:aG:=letI a:=((av #[112])++(Utf8.encode 97),((0:Y),((1:Y),((6:Y),((32:Y),((1:Y),((0:Y),(0:Y))))))));letI b:=((av #[112])++(Utf8.encode 98),((0:Y),((1:Y),((6:Y),((32:Y),((1:Y),((0:Y),(0:Y))))))));(((([a])++([b])).drop 0).take<|M ([a])+M ([b]))
def zV (i:Y):EV:=⟨2,i,0,(0,1,32,1000000000,0),bD⟩
def zN:PK:=newP zC bO [] zG [] [100,-100]
def z0:QV:=⟨⟨zC,bO,[],zG,[],0,U,[],0,[],[(0,0),(0,0)],1,[(0,0,0,X),(0,0,0,X)],[(0,0,0,0,0),(0,0,0,0,0)],[([],0,0),([],0,0)],[(1,0,X),(2,0,X)],[(X,0,0,9),(X,0,0,9)],[],[100,-100],[32]⟩,[],U⟩
def z1 (q:QV) (i:Y):QV:={q with p:=q.p.LA i (0,1,32,1000000000,0) bD}
def YW:Dz zC bO [] zG [] [100,-100]=0:=AO
def azi:RP zN z0:=by
 have e2:zN={z0.p with se:=512,fl:=E9}:=by
  unfold zN newP;rw [YW]
  kernel_rfl
 rw [e2];exact ⟨rfl,rfl,rfl,1019,_,S8,rfl⟩
def PB:BS zN (zV 0)=0/\BS (B3 zN<|zV 0) (zV 1)=0/\RP (B3 (B3 zN<|zV 0)<|zV 1) (z1 (z1 z0 0) 1):=by
 obtain ⟨a1,a2⟩:=xG (e:=zV 0) azi rfl AO AO;obtain ⟨b1,b2⟩:=xG (e:=zV 1) (q:=z1 z0 0) a2 rfl AO AO;exact ⟨a1,b1,b2⟩
def ae0:(goQ 60<|z1 (z1 z0 0) 1).ok=U/\(goQ 59<|z1 (z1 z0 0) 1).Ej=[16,16]:=⟨AO,AO⟩
def av7:(FU 59<|B3 (B3 zN<|zV 0)<|zV 1).Ej=[16,16]:=by
 have h:=ae0.1
 rw [yA] at h;rw [(xK (aA6 59 PB.2.2<|xL h) h).2];exact ae0.2
variable {p : PK} {d : Int}
def aA9 {A r:aL}{x:Le}:AU (A++x::r) (M A:Y)=x:=by
 unfold AU;rw [BW,CH,Ef<|Ak _,Vg];rfl
def af5 {t:Y}{xs:aL}{s:SN}:∀n,n<=M xs->DU t xs s n=s\/∃k:aC,k<M xs/\Cs s.se s.fl (AU xs k) t=0/\∃r,(DU t xs s n).ls=s.ls++AU xs k::r
 |0,_=> .inl rfl
 | n+1,hn=>by
  rcases af5 (t:=t) (xs:=xs) (s:=s) n A0 with e|⟨k,hk,h1,r,h2⟩<;>unfold DU Dq<;>split
  ·rename_i hc
   rw [e] at hc|-;exact .inr ⟨n,A0,hc.2,[],by show Dr _ _=_;unfold Dr;rw [AB hc.1]⟩
  ·exact .inl e
  ·rename_i hc
   exact .inr ⟨k,hk,h1,r++[AU xs n],by show Dr _ _=_;unfold Dr;rw [AB hc.1,h2];simp⟩
  ·grind
def PK.KL (p:PK) (m:Fl):PK:={p with up:=X,ls:=[],se:=m.1,fl:=m.2}
def aiM (h:LM 0 p) (hJ:JP p) (hu:p.up=U) {i:Y}(i0:0<=i) (i1:i<(aa p.B5.ls:Y)) (hx:(AU p.B5.ls i).2.2.2.1=p.tk) (hf:∀j:aC,(j:Y)<i->(AU p.B5.ls j).2.2.2.1≠p.tk):
  p.dE=0/\∃k:aC,k<aa p.dL/\AU p.B5.ls i=AU p.dL k/\Cs p.se p.fl (AU p.dL k) p.tk=0:=by
 have el:p.B5.ls=p.AI.ls:=rfl
 rw [el] at i1 hx hf|-
 have old:∀y∈CM p.ls p.tk,y.2.2.2.1<p.tk:=λy hy=>by
  rw [XY hJ] at hy
  have:=(h.tg.sg.ls.2 y (CG.1 hy).1).1
  omega
 have no:∀ {A:aL},(∀y∈A,y.2.2.2.1<p.tk)->i<(aa A:Y)->(AU A i).2.2.2.1≠p.tk:=λhA hi=>by
  have:=hA _<|Hd i0 hi
  omega
 by_cases hd:p.dE=0
 ·have e1:p.AI.ls=p.Ic.ls:=by unfold PK.AI;rw [AD (by rw [hu];decide),AD A0]
  rw [e1] at i1 hx hf|-;rcases af5 (t:=p.tk) (xs:=p.dL) (s:=p.Ep) _ (Ak _) with e|⟨k,hk,h1,r,h2⟩
  ·have e:p.Ic.ls=CM p.ls p.tk:=An SN.ls e
   rw [e] at i1 hx;exact absurd hx<|no old i1
  ·have h2:p.Ic.ls=CM p.ls p.tk++AU p.dL k::r:=h2
   obtain ⟨V,M,_⟩:=TJ hd
   have hm:=(M.at_ k A0 A0).1
   rw [h2] at hx hf|-
   have hi:i=(aa (CM p.ls p.tk):Y):=by
    rcases Int.lt_trichotomy i (aa (CM p.ls p.tk):Y) with c|c|c
    ·exfalso
     have:AU (CM p.ls p.tk++AU p.dL k::r) i=AU (CM p.ls p.tk) i:=by
      unfold AU
      grind
     rw [this] at hx;exact no old c hx
    ·exact c
    ·exfalso
     refine hf _ c ?_;rw [aA9,hm]
   refine ⟨hd,k,hk,?_,h1⟩;rw [hi,aA9]
 ·have e1:p.AI.ls=CM p.ls p.tk:=by unfold PK.AI;rw [AD (by rw [hu];decide),AB hd]
  rw [e1] at i1 hx
  grind
def aiL (h:LM 0 p) (hJ:JP p) (ht:p.tk<=1000) (hu:p.up=U) {i:Y}(i0:0<=i) (i1:i<(aa p.B5.ls:Y)) (hx:(AU p.B5.ls i).2.2.2.1=p.tk) (hf:∀j:aC,(j:Y)<i->(AU p.B5.ls j).2.2.2.1≠p.tk):
  Cs p.se p.fl (AU p.B5.ls i) p.tk=0/\∀m∈C1 p.se p.fl (AU p.B5.ls i) p.tk,JP (p.KL m)/\LM 1 (p.KL m):=by
 obtain ⟨hd,k,hk,ex,hE⟩:=aiM h hJ hu i0 i1 hx hf;obtain ⟨V,M,_⟩:=TJ hd;obtain ⟨m1,m2,_⟩:=M.at_ k A0 A0
 have hg:=V.gl
 have hv:=hJ.1.1
 have htk:=hv.tk
 have hxl:=Hd i0 i1
 rw [ex] at hxl|-;generalize AU p.dL k=x at*
 have x1:x.1=p.nx+k:=An (·.1) m1
 have x4:x.2.2.2.1=p.tk:=An (·.2.2.2.1) m1
 have x5:x.2.2.2.2=12:=An (·.2.2.2.2) m1
 have hn:=h.tg.sg.nx
 have hn:1<=p.nx/\p.nx<=16*(p.tk+0)+1:=hn
 obtain ⟨g,v1,v2⟩:=h.tg.vl
 have v3:=h.tg.v23
 have hse:p.se=512:=v1.se
 refine ⟨hE,λm hm=>?_⟩
 obtain ⟨vl,g',w1,w2⟩:=amj v1 hE m hm
 have e:Aa (p.KL m).se (p.KL m).fl=vl:=w1.ld.2
 have sub:∀y∈vl,y∈Aa p.se p.fl\/y=x:=λy hy=>by
  rcases w2 with c|c|c<;>rw [c] at hy
  ·exact .inl hy
  ·simpa using hy
  ·simpa using wO.subset hy
 have old:∀y∈Aa p.se p.fl,Cc y>p.tk->y∈vl:=λy hy he=>by
  rcases w2 with c|c|c<;>rw [c]
  ·exact hy
  ·exact BC.2<|.inl hy
  ·exact aAO v1.lv ⟨htk.1,ht⟩ hy he
 have tl:∀y∈vl,y.1<16*(p.tk+1)+1/\TL (aa p.gs) (p.tk+1) y:=λy hy=>by
  rcases sub y hy with c|rfl
  ·obtain ⟨⟨c1,_⟩,c2⟩:=v2 y c
   exact ⟨A0,c2.le A0⟩
  ·exact ⟨A0,A0,x5,m2⟩
 have hw:∀(a:Prop),((p.KL m).up=U->a):=λa c=>Cu
 refine ⟨⟨⟨{hv with},{hJ.1.2 with ls:=Jf _}⟩,⟨w1.fl,vl,g',w1⟩,rfl⟩,{h.fi with},⟨AS,h.tg.kt,⟨hn.1,by show p.nx<=16*(p.tk+1)+1;omega⟩,⟨rfl,λy hy=>by cases hy⟩,vl,g',w1,λy hy=>⟨⟨(tl y hy).1,hw _⟩,(tl y hy).2⟩⟩,⟨hw _,λ_=>rfl,?_,λl hl=>?_⟩,?_⟩
 ·rw [e]
  exact ⟨h.lx.st.1,λj j0 j1=>(h.lx.st.2 j j0 j1).vl (Sq hv j j0 sv) ht v3 old⟩
 ·obtain ⟨b1,b2,b3⟩:=h.lx.lk l hl
  rw [e];exact ⟨old _ b1 (by have:=(v3 _ b1).2;omega),b2,b3⟩
 ·obtain ⟨d1,_,⟨d3,_⟩,_⟩:=h.lx.dec h.tg hJ ht
  obtain ⟨vl',k',u1,u2⟩:=(h.tg.dec hJ).vl
  have e2:Aa p.AI.se p.AI.fl=vl':=u1.ld.2
  have hk':=h.dec hJ ht (t':=p.tk)<|CN _
  rw [e2] at hk' d3
  have d1:=(d1 hu).2
  rw [e2] at d1
  have b1:below (aa p.gs) vl'=true:=PA λy hy=>(u2 y hy).2
  have b2:below (aa p.gs) vl=true:=PA λy hy=>(tl y hy).2
  rw [e];refine X0 hv.site hv.site (HT.refl _) (λk hk=>I9 hv.site u1.lv A0 A0) (λk hk=>⟨(I9 hv.site w1.lv A0 A0).1,gJ u1.lv b1 w1.lv b2 (λy hy ha=>⟨?_,ha⟩) A0 A0⟩) hk'
  have he:Cc y>p.tk:=by
   unfold E4 at ha;simp only [AP,AT] at ha;exact ha.2
  rcases sub y hy with c|rfl
  ·exact d3 y c he
  ·exact d1 y hxl he
def aFV:∀(n:aC) {p:PK},JP p->LM d p->p.tk+n<=1000->LM d (FU n p)
 |0,_,_,h,_=>h
 |n+1,p,hJ,h,ht=>by
  obtain ⟨he,e2,_,_,etk⟩:=Ku hJ A0
  have h2:=hJ.step he
  rw [e2] at h2;exact aFV n h2 (h.tick hJ A0) A0
def aFU:∀(n:aC) {p:PK},(FU n p).up=p.up
 |0,_=>rfl
 |n+1,p=>(aFU n (p:=p.B5)).trans (I7 p).2.2.2.2.2.2.1
def ahn {s n:Y}(h:0<=s/\s<=65535) (hn:0<n) (hn2:n<=5000):0<=(AA s).tmod n/\(AA s).tmod n<n:=by
 rw [AH (x:=s),cY h.1];exact ⟨Int.emod_nonneg _ A0,rP _ hn⟩
def O3 (p:PK) (l:aL) (i sp:Y):Fl:=Fp (C1 p.se p.fl (AU l i) p.tk)<|(AA sp).tmod (M (C1 p.se p.fl (AU l i) p.tk):Y)
def JO (p:PK) (l:aL) (i sp pz:Y):PK:=FU ((AA pz).tmod 40).toNat<|p.KL<|O3 p l i sp
def evS:EV:=⟨6,0,0,(0,0,0,0,0),(X,0,0,0)⟩
def aBy (hJ:JP p) (hm:LM 0 p) (hu:p.up=U) (ht:p.tk<=150) {l:aL}(hl:l=p.B5.ls) {i sp pz:Y}(i0:0<=i) (i1:i<(M l:Y)) (hs:0<=sp/\sp<=65535) (hp:0<=pz/\pz<=255) (hx:(AU l i).2.2.2.1=p.tk) (hf:∀j:aC,(j:Y)<i->(AU l j).2.2.2.1≠p.tk):
  (Cs p.se p.fl (AU l i) p.tk=0/\0<M (C1 p.se p.fl (AU l i) p.tk))/\(0<=(AA sp).tmod (M (C1 p.se p.fl (AU l i) p.tk):Y)/\(AA sp).tmod (M (C1 p.se p.fl (AU l i) p.tk):Y)<(M (C1 p.se p.fl (AU l i) p.tk):Y))/\
  (JP (p.KL<|O3 p l i sp)/\LM 1 (p.KL<|O3 p l i sp))/\(AA pz).tmod 40<=100/\(JP (JO p l i sp pz)/\BS (JO p l i sp pz) evS=0)/\(JP (B3 (JO p l i sp pz) evS)/\LM 1 (B3 (JO p l i sp pz) evS))/\(B3 (JO p l i sp pz) evS).tk<=900:=by
 subst hl;obtain ⟨hE,hA⟩:=aiL hm hJ A0 hu i0 i1 hx hf
 have n0:=(hJ.2.1.st hE).1
 have n1:=(hJ.2.1.len hE).1
 have hi:=ahn hs (n:=(M (C1 p.se p.fl (AU p.B5.ls i) p.tk):Y)) A0 A0
 obtain ⟨t1,t2⟩:=hA (O3 p p.B5.ls i sp) (by
  unfold O3 Fp;rw [CH,Cv A0];exact Ee _)
 have hq:(AA pz).tmod 40<=40:=by
  rw [AH (x:=pz),cY hp.1];omega
 have tk:(p.KL<|O3 p p.B5.ls i sp).tk=p.tk:=rfl
 obtain ⟨r1,r2⟩:=Xd ((AA pz).tmod 40).toNat t1 A0
 have r3:=aFV ((AA pz).tmod 40).toNat t1 t2 A0
 have r4:(JO p p.B5.ls i sp pz).up=false:=aFU _
 have r1:JP (JO p p.B5.ls i sp pz):=r1
 have r2:(JO p p.B5.ls i sp pz).tk=_:=r2
 have r3:LM 1 (JO p p.B5.ls i sp pz):=r3
 generalize JO p p.B5.ls i sp pz=r at*
 have hS:=agA r3.tg r1 r4 A0
 obtain ⟨e6,e7⟩:=vD (ev:=⟨6,0,0,0,0,0,0,0,X,0,0,0⟩) (Of.2 r1.1.1) rfl
 have he:=e6.trans hS
 have eP:B3 r evS=r.PI:=(e7 hS).1
 have etk:(B3 r evS).tk=r.tk:=by rw [eP];rfl
 exact ⟨⟨hE,n0⟩,hi,⟨t1,t2⟩,A0,⟨r1,he⟩,⟨r1.step he,r3.step r1 A0 he AS AS⟩,A0⟩
end Go.Proofs.YtcdkianomnhhmaaGreatDoor
namespace Go.Proofs.YtcdkianomnhhmaaGreatDoor
set_option maxRecDepth 100000
set_option maxHeartbeats 4000000
open Go.Proofs.Tryz
open Go.Sx
def aG2:aD->T LV
 | .agg a::r=>s5 a λcs os ks gs bs=>(match r with
  | []=> .ok (an<|M cs<=40/\M os<=40/\M ks<=40/\M gs<=40/\M bs<=40)
  |_=> .no)
 |_=> .no
def arx:aN:=[]
def aum:=vo (S:=aG2) func12 arx kN (λargs lv h=>by
 unfold aG2 at h;split at h
 case h_2=>cases h
 replace h:=GB h
 obtain ⟨cs,os,ks,gs,bs,rfl,h⟩:=h;split at h
 ·refine Al (.ok<|.v<|.bool<|(an<|(M cs:Y)<=40)&&((an<|(M os:Y)<=40)&&((an<|(M ks:Y)<=40)&&((an<|(M gs:Y)<=40)&&(an<|(M bs:Y)<=40))))) ?_
  obtain rfl:=h;refine An (λz=>LV.v<|.bool z) ?_
  rw [Gn];simp only [AP,AT];omega
 ·cases h)
def JQ (x:(Int×(Int×(Int×(Le×Dm))))):aM:=!(x.1.tmod 14==12 ||x.2.2.2.1.1==4)
def aiN {l:List<|(Int×(Int×(Int×(Le×Dm))))}:l.all JQ=U↔∀x∈l,TmO x:=by
 simp [B9,JQ,TmO]
def aG1:aD->T LV
 | .agg a::r=>s5 a λcs os ks gs bs=>(match r with
  | [.xl (.int J) dr,.xl (.pair (.int aw) (.pair (.int aw) (.pair (.int .u16) (.pair (.pair (.int J) (.pair (.int J) (.pair (.int J) (.pair (.int J) (.int J))))) (.pair .bool (.pair (.int J) (.pair (.int J) (.int J)))))))) l]=> .req (M l<=17592186044416) (.ok<|.v<|.bool<|l.all JQ&&(an (M cs<=40/\M os<=40/\M ks<=40/\M gs<=40/\M bs<=40)&&(an ((M dr:Y)<=40)&&an ((M l:Y)<=40))))
  |_=> .no)
 |_=> .no
structure LK where
 dr:aB
 l:List (Int×(Int×(Int×(Le×Dm))))
 b:aM
 x:List (Int×(Int×(Int×(Le×Dm))))
 (m i:Y)
 cs:aJ
 os:aF
 ks:aP
 gs:aG
 bs:aQ
def xU:=bN f5 0
def Y9 (s:LK):T (Rd LK):=
 .br (an<|s.i<s.m) (.ix s.i (M s.x)<|.req ((14:Y)≠0)<|.br ((((gx (e:=.pair (.int aw)<|.pair (.int aw)<|.pair (.int .u16)<|.pair AK Ac) s.x s.i).1.tmod 14)==12) ||((gx (e:=.pair (.int aw)<|.pair (.int aw)<|.pair (.int .u16)<|.pair AK Ac) s.x s.i).2.2.2.1.1==4)) (.so (.ret) {s with b:=X})<|.nx {s with i:=AA<|s.i+1}) (.so (.exit 0) s)
def Sa (s:LK) (j:Y):aM:=JQ<|gx (e:=(.pair (.int aw)<|.pair (.int aw)<|.pair (.int .u16)<|.pair AK Ac)) s.x j
def ZE (s:LK):Prop:=s.i=0/\0<=s.m/\s.m<=17592186044416/\s.m=(M s.x:Y)
def UH (s:LK):Prop:=0<=s.i/\s.i<=s.m/\s.m<=17592186044416/\(s.m=(M s.x:Y))/\∀j:aC,(j:Y)<s.i->Sa s j=U
def lH (s:LK):aC:=(s.m-s.i).toNat
def qR (x:Ex) (s s':LK):Prop:=(x=.exit 0/\∀j:aC,(j:Y)<s'.m->Sa s' j=U)\/(x=.ret/\s'.b=X/\∃j:aC,(j:Y)<s'.m/\Sa s' j=X)
def avd:∀s,ZE s->UH s:=by
 exact I1
def aoF:Da UH lH qR Y9:=by
 intro s hI;unfold Y9;dsimp only [T.rd,T.rl,T.rv];obtain ⟨h0,h1,h2,h3,h4⟩:=hI;refine allR_ite (λc1=>allR_ite (λc2=>?_) λc2=>?_) λc1=>?_
 ·have c1:s.i<s.m:=AQ
  refine .inr ⟨rfl,rfl,s.i.toNat,AR,?_⟩;rw [C2 A0]
  have hg:Sa s s.i=false:=aJb
  exact hg
 ·have c1:s.i<s.m:=AQ
  have hg:Sa s s.i=true:=aJb
  rw [AH (x:=s.i+1)];refine ⟨⟨AR,AR,h2,h3,λj hj=>?_⟩,by simp only [lH];omega⟩
  by_cases hji:(j:Y)<s.i
  ·exact h4 j hji
  ·exact aI3
 ·exact dQ
def PL:LpD LK:=⟨0,38,[1,2,3,6,9,10,11],[],λs=>[.xl A7 s.dr,.xl (.pair (.int aw)<|.pair (.int aw)<|.pair (.int .u16)<|.pair AK Ac) s.l,.own 0 0,s.b,.xl (.pair (.int aw)<|.pair (.int aw)<|.pair (.int .u16)<|.pair AK Ac) s.x,s.m,s.i],λs=>[⟨[s.cs,s.os,s.ks,s.gs,s.bs],28,.cl,X⟩],λv b=>⟨As A7 v 0,gXl (.pair (.int aw)<|.pair (.int aw)<|.pair (.int .u16)<|.pair AK Ac)<|v.getD 1 .junk,DE v 3,gXl (.pair (.int aw)<|.pair (.int aw)<|.pair (.int .u16)<|.pair AK Ac)<|v.getD 4 .junk,AJ v 5,AJ v 6,AE AX b 0 0,AE .str b 0 1,AE Ad b 0 2,AE AZ b 0 3,AE Ae b 0 4⟩,Y9,λs r=> {s with b:=r.b,i:=r.i},λs=>s,λ_ s=>s,[.ret,.exit 0],ZE,UH,lH⟩
abbrev iX:=PL.run
abbrev gZ:=PL.exn
def apS:Rq UH Y9:=by
 exact rh
def aF1:aN:=[aum]
def aCv:PL.Ok:={}
def aCe:PL.Pf (qR):=⟨avd,λs h=>rfl,aoF,apS⟩
def aiE:SA 0 xU PL:=s1 aCv aCe aF1 kN
def aiR:Fi ZE UH qR gZ iX:=LpD.fin aCv aCe
def Wc (cs:aJ) (os:aF) (ks:aP) (gs:aG) (bs:aQ) (dr:aB) (l:List<|Int×(Int×(Int×(Le×Dm)))):LK:=(⟨dr,l,X,l,(M l:Y),0,cs,os,ks,gs,bs⟩:LK)
def aay:=vm (S:=aG1) func5 aF1 kN (L:=(λi=>if i=2 then PL.lp else noLoops i)) (λb hb=>by
 rw [show loopsIn _=[xU] by kernel_rfl] at hb
 simp only [Au,BX,BV] at hb;subst hb;exact aiE) (λargs lv h=>by
 unfold aG1 at h;split at h
 case h_2=>cases h
 replace h:=GB h
 obtain ⟨cs,os,ks,gs,bs,rfl,h⟩:=h;split at h
 ·rename_i dr l
  refine Al (letI a:=Wc cs os ks gs bs dr l;.req (PL.q a)<|.br (isEx (gZ a)<|.ret) (.ok (iX a).b)<|.ok<|.v<|.bool<|(an<|M cs<=40/\M os<=40/\M ks<=40/\M gs<=40/\M bs<=40)&&((an<|(M dr:Y)<=40)&&(an<|(M l:Y)<=40))) ?_;obtain ⟨hk,rfl⟩:=h
  have E1:ZE (Wc cs os ks gs bs dr l):=⟨rfl,OP _,by show (M l:Y)<=17592186044416;omega,rfl⟩
  have hl:Ck (M l) (λk=>JQ<|gx (e:=(.pair (.int aw)<|.pair (.int aw)<|.pair (.int .u16)<|.pair AK Ac)) l k)=l.all JQ:=gG (f:=JQ)
  rw [<-hl];refine ⟨⟨E1,rfl,rfl⟩,?_⟩;obtain ⟨_,_,q⟩:=aiR _ E1
  have q:(gZ (Wc cs os ks gs bs dr l)=.exit 0/\_)\/(gZ (Wc cs os ks gs bs dr l)=.ret/\(iX<|Wc cs os ks gs bs dr l).b=X/\∃j:aC,(j:Y)<(M l:Y)/\JQ (gx (e:=(.pair (.int aw)<|.pair (.int aw)<|.pair (.int .u16)<|.pair AK Ac)) l j)=X):=q
  rcases q with ⟨q1,q2⟩ |⟨q1,q2,j,q3,q4⟩
  ·rw [q1,show Ck (M l) (λk=>JQ<|gx (e:=(.pair (.int aw)<|.pair (.int aw)<|.pair (.int .u16)<|.pair AK Ac)) l k)=U from D3.2 q2]
   exact ⟨λc=>Cu,λ_=>rfl⟩
  ·rw [q1,q2,MP j q3 q4]
   exact ⟨λ_=>rfl,λc=>Cu⟩
 ·cases h)
def aFb:aD->T LV
 | [x_p,x_r,.xl (.int J) dw]=>(match N5 x_p with
  |some p=>(match N5 x_r with
  |some r=> .ok U
  |none=> .no)
  |none=> .no)
 |_=> .no
def aF0:aN:=[]
def apl (p r:PK) (dw:aB):BO prog AM (aF0) kN noLoops f7 [p,r,.xl A7 dw]=.ok true:=AO
def YJ:=vo (S:=aFb) func7 aF0 kN (λargs lv h=>by
 refine ⟨?_⟩;unfold aFb at h;split at h
 ·split at h
  case h_2=>cases h
  rename_i p hp;obtain rfl:=Rm hp;split at h
  case h_2=>cases h
  rename_i r hr;obtain rfl:=Rm hr;simp only [canL,canX];rw [apl];obtain rfl:=h;rfl
 ·cases h)
structure KF where
 b:aM
 many:Y
 ops:List (Int×(Int×(Int×(Le×Dm))))
 (n i m k:Y)
 (r p:PK)
 ev:EW
def azh (s:KF):aD:=[.fn 7 [],.own 0 0,s.b,.own 1 0,s.many,.own 2 0,.xl (.pair (.int aw)<|.pair (.int aw)<|.pair (.int .u16)<|.pair AK Ac) s.ops,s.n,s.i,s.m,s.k]
def ayk (s:KF):aE:=[⟨[s.r.cs,s.r.os,s.r.ks,s.r.gs,s.r.bs,s.r.tk,s.r.up,s.r.ls,s.r.se,.xl (.int aw) s.r.fl,s.r.ra,s.r.nx,s.r.st,s.r.ca,s.r.mi,s.r.me,s.r.dm,s.r.lk,.xl A7 s.r.dr,.xl A7 s.r.tg],48,.cl,X⟩,⟨[s.p.cs,s.p.os,s.p.ks,s.p.gs,s.p.bs,s.p.tk,s.p.up,s.p.ls,s.p.se,.xl (.int aw) s.p.fl,s.p.ra,s.p.nx,s.p.st,s.p.ca,s.p.mi,s.p.me,s.p.dm,s.p.lk,.xl A7 s.p.dr,.xl A7 s.p.tg],48,.cl,X⟩,⟨[s.ev.ek,s.ev.en,s.ev.em,s.ev.c1,s.ev.c2,s.ev.c3,s.ev.c4,s.ev.c5,s.ev.d1,s.ev.d2,s.ev.d3,s.ev.d4],60,.cl,X⟩]
def xY:=lN (bN f6 0) 0
def YD (s:KF):T (Rd KF):=letI a:=AA<|s.many+1;letI c:=EW.ev s.ev;.br (an<|s.k<s.m) (.br (s.ev.ek==1) (.br (an<|a>150) (.so (.exit 2) {s with many:=a})<|.req (JP s.p)<|.br ((BS s.p c) !=0) (.br (s.ev.ek==1) (.so (.ret) {s with b:=X,many:=a,r:=s.p})<|.so (.exit 2) {s with many:=a})<|.br (!U) (.so (.ret) {s with b:=X,many:=a,r:=s.p})<|.nx {s with many:=a,k:=AA<|s.k+1,p:=B3 s.p c})<|.req (JP s.p)<|.br ((BS s.p c) !=0) (.br (s.ev.ek==1) (.so (.ret) {s with b:=X,r:=s.p})<|.so (.exit 2) s)<|.br (!U) (.so (.ret) {s with b:=X,r:=s.p})<|.nx {s with k:=AA<|s.k+1,p:=B3 s.p c})<|.so (.exit 2) s
def Uy (s:KF):Prop:=s.k=0/\s.many<=12*s.i/\JP s.p/\LM 0 s.p/\(s.p.tk<=150/\s.p.tk<=s.many/\0<=s.many)/\s.m<=12/\(0<=s.i/\s.i<=1000)/\TmE s.ev
def Td (s:KF):Prop:=(0<=s.k/\(s.k<=s.m\/s.k=0))/\s.many<=12*s.i+s.k/\JP s.p/\LM 0 s.p/\(s.p.tk<=150/\s.p.tk<=s.many/\0<=s.many)/\s.m<=12/\(0<=s.i/\s.i<=1000)/\TmE s.ev
def Xr (s:KF):aC:=(s.m-s.k).toNat
def ZG (x:Ex) (s s':KF):Prop:=x=.exit 2/\JP s'.p/\LM 0 s'.p/\(s'.p.tk<=150/\s'.p.tk<=s'.many/\0<=s'.many)/\s'.many<=12*s'.i+12
def ax1:∀s,Uy s->Td s:=by
 rintro s ⟨h0,h1,h2⟩
 exact ⟨A0,A0,h2⟩
def aqd:Da Td Xr ZG YD:=by
 intro s hI;unfold YD;dsimp only [T.rd,T.rl,T.rv];obtain ⟨⟨h0,h0'⟩,h1,hJ,hm,⟨t1,t2,t3⟩,h3,h4,ht⟩:=hI
 have w:AA (s.many+1)=s.many+1:=AH
 have wk:AA (s.k+1)=s.k+1:=AH
 rw [w,wk];refine allR_ite (λc1=>?_) λc1=>⟨rfl,hJ,hm,⟨t1,t2,t3⟩,by simp only [CX] at c1;omega⟩
 simp only [AT] at c1;refine allR_ite (λc2=>?_) λc2=>?_
 ·have c2:s.ev.ek=1:=eq_of_beq c2
  refine allR_ite (λc3=>⟨rfl,hJ,hm,⟨t1,AR,AR⟩,AR⟩) λc3=>?_
  have c3:¬s.many+1>150:=I0 c3
  refine allR_ite (λc4=>absurd (aiO hJ c2 A0)<|Cg.1 c4) λc4=>?_
  have c4:BS s.p s.ev.ev=0:=D4 c4
  refine allR_ite (λc5=>by cases c5) λ_=>?_
  have hk:=zJ hJ c4
  exact ⟨⟨⟨AR,AR⟩,AR,hJ.step c4,hm.step hJ A0 c4 ht.1 ht.2,⟨AR,AR,AR⟩,h3,h4,ht⟩,by simp only [Xr];omega⟩
 ·have c2:¬s.ev.ek=1:=C4.1 c2
  refine allR_ite (λc4=>allR_ite (λc5=>absurd (eq_of_beq c5) c2) λ_=>⟨rfl,hJ,hm,⟨t1,t2,t3⟩,A0⟩) λc4=>?_
  have c4:BS s.p s.ev.ev=0:=D4 c4
  refine allR_ite (λc5=>by cases c5) λ_=>?_
  have hk:=zJ hJ c4
  exact ⟨⟨⟨AR,AR⟩,AR,hJ.step c4,hm.step hJ A0 c4 ht.1 ht.2,⟨AR,AR,t3⟩,h3,h4,ht⟩,by simp only [Xr];omega⟩
def Pe:LpD KF:=⟨0,75,[3,8,9,10,12,15,29,30,31,41,42],[],azh,ayk,λv b=>⟨DE v 2,AJ v 4,gXl (.pair (.int aw)<|.pair (.int aw)<|.pair (.int .u16)<|.pair AK Ac)<|v.getD 6 .junk,AJ v 7,AJ v 8,AJ v 9,AJ v 10,rQ b 0,rQ b 1,rE b 0 2⟩,YD,λs r=> {s with b:=r.b,many:=r.many,k:=r.k,r:=r.r,p:=r.p},λs=>s,λ_ s=>s,[.exit 2,.ret],Uy,Td,Xr⟩
abbrev fZ:=Pe.run
abbrev iv:=Pe.exn
def apc:Rq Td YD:=by
 intro s hI;refine ⟨λc1=>⟨λc2=>⟨λ_=>trivial,λc3=>⟨?_,λc4=>⟨λ_=>trivial,λ_=>trivial⟩,λc4=>⟨λ_=>trivial,λ_=>trivial⟩⟩⟩,λc2=>⟨?_,λc7=>⟨λ_=>trivial,λ_=>trivial⟩,λc7=>⟨λ_=>trivial,λ_=>trivial⟩⟩⟩,λ_=>trivial⟩
 all_goals ((exact hI.2.2.1))
def lM:aN:=[YJ,SL,mq,aaj]
def aEF:Pe.Ok:={}
def aCJ:Pe.Pf (ZG):=⟨ax1,λs h=>rfl,aqd,apc⟩
def ahe:SA 0 xY Pe:=s1 aEF aCJ lM kN
def akB:Fi Uy Td ZG iv fZ:=LpD.fin aEF aCJ
structure Hj where
 b:aM
 many:Y
 ops:List (Int×(Int×(Int×(Le×Dm))))
 (n i:Y)
 (r p:PK)
def azZ (s:Hj):aD:=[.fn 7 [],.own 0 0,s.b,.own 1 0,s.many,.xl (.pair (.int aw)<|.pair (.int aw)<|.pair (.int .u16)<|.pair AK Ac) s.ops,s.n,s.i]
def ayc (s:Hj):aE:=[⟨[s.r.cs,s.r.os,s.r.ks,s.r.gs,s.r.bs,s.r.tk,s.r.up,s.r.ls,s.r.se,.xl (.int aw) s.r.fl,s.r.ra,s.r.nx,s.r.st,s.r.ca,s.r.mi,s.r.me,s.r.dm,s.r.lk,.xl A7 s.r.dr,.xl A7 s.r.tg],48,.cl,X⟩,⟨[s.p.cs,s.p.os,s.p.ks,s.p.gs,s.p.bs,s.p.tk,s.p.up,s.p.ls,s.p.se,.xl (.int aw) s.p.fl,s.p.ra,s.p.nx,s.p.st,s.p.ca,s.p.mi,s.p.me,s.p.dm,s.p.lk,.xl A7 s.p.dr,.xl A7 s.p.tg],48,.cl,X⟩]
def wz:=bN f6 0
def MF (s:Hj):KF:=(⟨s.b,s.many,s.ops,s.n,s.i,opT (gx (e:=.pair (.int aw)<|.pair (.int aw)<|.pair (.int .u16)<|.pair AK Ac) s.ops s.i).1 (gx (e:=.pair (.int aw)<|.pair (.int aw)<|.pair (.int .u16)<|.pair AK Ac) s.ops s.i).2.2.1,0,s.r,s.p,opE s.p (gx (e:=.pair (.int aw)<|.pair (.int aw)<|.pair (.int .u16)<|.pair AK Ac) s.ops s.i).1 (gx (e:=.pair (.int aw)<|.pair (.int aw)<|.pair (.int .u16)<|.pair AK Ac) s.ops s.i).2.1 (gx (e:=.pair (.int aw)<|.pair (.int aw)<|.pair (.int .u16)<|.pair AK Ac) s.ops s.i).2.2.1 (gx (e:=.pair (.int aw)<|.pair (.int aw)<|.pair (.int .u16)<|.pair AK Ac) s.ops s.i).2.2.2.1.1 (gx (e:=.pair (.int aw)<|.pair (.int aw)<|.pair (.int .u16)<|.pair AK Ac) s.ops s.i).2.2.2.1.2.1 (gx (e:=.pair (.int aw)<|.pair (.int aw)<|.pair (.int .u16)<|.pair AK Ac) s.ops s.i).2.2.2.1.2.2.1 (gx (e:=.pair (.int aw)<|.pair (.int aw)<|.pair (.int .u16)<|.pair AK Ac) s.ops s.i).2.2.2.1.2.2.2.1 (gx (e:=.pair (.int aw)<|.pair (.int aw)<|.pair (.int .u16)<|.pair AK Ac) s.ops s.i).2.2.2.1.2.2.2.2 (gx (e:=.pair (.int aw)<|.pair (.int aw)<|.pair (.int .u16)<|.pair AK Ac) s.ops s.i).2.2.2.2.1 (gx (e:=.pair (.int aw)<|.pair (.int aw)<|.pair (.int .u16)<|.pair AK Ac) s.ops s.i).2.2.2.2.2.1 (gx (e:=.pair (.int aw)<|.pair (.int aw)<|.pair (.int .u16)<|.pair AK Ac) s.ops s.i).2.2.2.2.2.2.1 (gx (e:=.pair (.int aw)<|.pair (.int aw)<|.pair (.int .u16)<|.pair AK Ac) s.ops s.i).2.2.2.2.2.2.2⟩:KF)
def YC (s:Hj):T (Rd Hj):=letI a:=fZ<|MF s;.br (an<|s.i<s.n) (.ix s.i (M s.ops)<|.req (Pe.q<|MF s)<|.br (isEx (iv<|MF s)<|.exit 2) (.nx {s with b:=a.b,many:=a.many,i:=AA<|s.i+1,r:=a.r,p:=a.p})<|.so (.ret) {s with b:=a.b,many:=a.many,r:=a.r,p:=a.p})<|.so (.exit 0) s
def Ux (s:Hj):Prop:=s.i=0/\s.many=0/\JP s.p/\LM 0 s.p/\(s.p.tk<=150/\s.p.tk<=s.many/\0<=s.many)/\(s.n=(M s.ops:Y)/\s.n<=1000)/\∀x∈s.ops,TmO x
def Sv (s:Hj):Prop:=(0<=s.i/\s.i<=s.n)/\s.many<=12*s.i/\JP s.p/\LM 0 s.p/\(s.p.tk<=150/\s.p.tk<=s.many/\0<=s.many)/\(s.n=(M s.ops:Y)/\s.n<=1000)/\∀x∈s.ops,TmO x
def kE (s:Hj):aC:=(s.n-s.i).toNat
def qX (x:Ex) (s s':Hj):Prop:=x=.exit 0/\JP s'.p/\LM 0 s'.p/\s'.p.tk<=150
def ax0:∀s,Ux s->Sv s:=by
 rintro s ⟨h0,h1,h2,h3,h4,h5⟩
 exact ⟨A0,A0,h2,h3,h4,h5⟩
def aCQ {s:Hj}(hI:Sv s) (c1:s.i<s.n):ZG (iv<|MF s) (MF s) (fZ<|MF s)/\Uy (MF s):=by
 obtain ⟨⟨h0,h1⟩,h2,hJ,hm,ht,h3,h4⟩:=id hI
 have h5:=h4 (gx (e:=(.pair (.int aw)<|.pair (.int aw)<|.pair (.int .u16)<|.pair AK Ac)) s.ops s.i) (by unfold gx;rw [K4 A0];exact Ee _)
 have hE:Uy (MF s):=⟨rfl,h2,hJ,hm,ht,apw _ _,⟨h0,by show s.i<=1000;omega⟩,apx h5.1 h5.2⟩
 obtain ⟨_,_,q⟩:=akB _ hE;exact ⟨q,hE⟩
def aqc:Da Sv kE qX YC:=by
 intro s hI;unfold YC;dsimp only [T.rd,T.rl,T.rv];obtain ⟨⟨h0,h1⟩,h2,hJ,hm,ht,h3,h4⟩:=id hI;refine allR_ite (λc1=>?_) λc1=>⟨rfl,hJ,hm,ht.1⟩
 have c1:s.i<s.n:=AQ
 obtain ⟨x1,x2,x3,x4,x5⟩:=(aCQ hI c1).1;rw [AH (x:=s.i+1)];refine allR_ite (λc2=>?_) λc2=>?_
 ·have x5:(fZ<|MF s).many<=12*s.i+12:=x5
  exact ⟨⟨⟨AR,AR⟩,AR,x2,x3,x4,h3,h4⟩,by simp only [kE];omega⟩
 ·rw [x1] at c2
  cases c2
def Pd:LpD Hj:=⟨0,75,[3,8,9,10,12,29,30,31],[.ps 8 0 AX,.ps 8 1 .str,.ps 8 2 Ad,.ps 8 3 AZ,.ps 8 4 Ae,.ps 8 7 AK,.ps 8 9<|.int aw,.ps 8 10 Ag,.ps 8 12 Aq,.ps 8 13 AK,.ps 8 14 At,.ps 8 15 B8,.ps 8 16 Ac,.ps 8 17 B4,.ps 8 18 A7,.ps 8 19 A7],azZ,ayc,λv b=>⟨DE v 2,AJ v 4,gXl (.pair (.int aw)<|.pair (.int aw)<|.pair (.int .u16)<|.pair AK Ac)<|v.getD 5 .junk,AJ v 6,AJ v 7,rQ b 0,rQ b 1⟩,YC,λs r=> {r with ops:=s.ops,n:=s.n},λs=>s,λ_ s=>s,[.ret,.exit 0],Ux,Sv,kE⟩
abbrev Wv:=Pd.run
abbrev iu:=Pd.exn
def apb:Rq Sv YC:=by
 intro s hI;refine ⟨λc1=>⟨?_,?_,λ_=>trivial,λ_=>trivial⟩,λ_=>trivial⟩
 all_goals ((obtain ⟨⟨h0,h1⟩,h2,hJ,hm,ht,h3⟩:=id hI;simp only [AT] at c1;first|omega|exact ⟨(aCQ hI c1).2,rfl,rfl⟩))
def aEE:Pd.Ok:={}
def aCI:Pd.Pf (qX):=⟨ax0,λs h=>rfl,aqc,apb⟩
def ahd:SA 0 wz Pd:=LpD.snd aEE aCI (code_sound (Γ:=lM) (K:=noK) (L:=(λi=>if i=10 then Pe.lp else noLoops i)) (gk lM) kN.h wz (λb hb=>by
 rw [show loopsIn _=[xY] by kernel_rfl] at hb
 simp only [Au,BX,BV] at hb;subst hb;exact ahe)) λs=>AO
def zO:Fi Ux Sv qX iu Wv:=LpD.fin aEE aCI
def plS (cs:aJ) (os:aF) (ks:aP) (gs:aG) (bs:aQ) (dr:aB) (ops:List<|(Int×(Int×(Int×(Le×Dm))))):Hj:=⟨X,0,ops,(M ops:Y),0,PK0,newP cs os ks gs bs dr⟩
def IX (cs:aJ) (os:aF) (ks:aP) (gs:aG) (bs:aQ) (dr:aB) (ops:List<|(Int×(Int×(Int×(Le×Dm))))):PK:=if Dz cs os ks gs bs dr≠0 then newP cs os ks gs bs dr else (Wv<|plS cs os ks gs bs dr ops).p
def plE {cs:aJ}{os:aF}{ks:aP}{gs:aG}{bs:aQ}{dr:aB}{ops:List<|(Int×(Int×(Int×(Le×Dm))))}(c:Dz cs os ks gs bs dr=0) (h2:M ops<=1000) (h3:∀x∈ops,TmO x):Ux (plS cs os ks gs bs dr ops):=by
 have hp:newP cs os ks gs bs dr=_:=AD RA
 refine ⟨rfl,rfl,XB c,arT c,?_,⟨rfl,by show (M ops:Y)<=1000;omega⟩,h3⟩
 show (newP cs os ks gs bs dr).tk<=150/\(newP cs os ks gs bs dr).tk<=0/\(0:Y)<=0
 rw [hp];exact ⟨by show (0:Y)<=150;decide,CN _,CN _⟩
def aqe {cs:aJ}{os:aF}{ks:aP}{gs:aG}{bs:aQ}{dr:aB}{ops:List<|(Int×(Int×(Int×(Le×Dm))))}(c:Dz cs os ks gs bs dr=0) (h2:M ops<=1000) (h3:∀x∈ops,TmO x):letI a:=IX cs os ks gs bs dr ops;JP a/\LM 0 a/\a.tk<=150:=by
 obtain ⟨_,_,_,q⟩:=zO _<|plE c h2 h3;rw [show IX cs os ks gs bs dr ops=_ from AD RA];exact q
def aFZ:aD->T LV
 | .agg a::r=>s5 a λcs os ks gs bs=>(match r with
  | [.xl (.int J) dr,.xl (.pair (.int aw) (.pair (.int aw) (.pair (.int .u16) (.pair (.pair (.int J) (.pair (.int J) (.pair (.int J) (.pair (.int J) (.int J))))) (.pair .bool (.pair (.int J) (.pair (.int J) (.int J)))))))) ops,.fn 7 []]=> .req ((M dr<=1000/\M ops<=1000)/\∀x∈ops,TmO x) (.ok<|.tup [IX cs os ks gs bs dr ops,U])
  |_=> .no)
 |_=> .no
def ve (cs:aJ) (os:aF) (ks:aP) (gs:aG) (bs:aQ) (dr:aB) (ops:List<|Int×(Int×(Int×(Le×Dm)))):Hj:=(⟨X,0,ops,(M ops:Y),0,⟨([]:aJ),([]:aF),([]:aP),([]:aG),([]:aQ),0,X,([]:aL),0,([]:aB),([]:bu),0,([]:bc),([]:aL),([]:aKH),([]:aKL),([]:aZ),([]:aKx),([]:aB),([]:aB)⟩,newP cs os ks gs bs dr⟩:Hj)
def arw:aN:=[YJ,SL,mq,aaj]
def ab2:=vm (S:=aFZ) func6 arw kN (L:=(λi=>if i=6 then Pd.lp else noLoops i)) (λb hb=>by
 rw [show loopsIn _=[wz] by kernel_rfl] at hb
 simp only [Au,BX,BV] at hb;subst hb;exact ahd) (λargs lv h=>by
 unfold aFZ at h;split at h
 case h_2=>cases h
 replace h:=GB h
 obtain ⟨cs,os,ks,gs,bs,rfl,h⟩:=h;split at h
 ·rename_i dr ops
  refine Al (letI a:=ve cs os ks gs bs dr ops;.req (M dr<=1000)<|.br ((Dz cs os ks gs bs dr) !=0) (.ok<|.tup [((newP cs os ks gs bs dr)),U])<|.req (Pd.q a)<|.br (isEx (iu a)<|.ret) (.ok<|.tup [((Wv a).r),(Wv a).b])<|.ok<|.tup [((Wv a).p),U]) ?_;obtain ⟨⟨⟨h1,h2⟩,h3⟩,rfl⟩:=h;refine ⟨h1,λc=>?_,λc=>?_⟩
  ·have c:=Cg.1 c
   rw [show IX cs os ks gs bs dr ops=newP cs os ks gs bs dr from AB c];rfl
  have c:=D4 c
  have hE:Ux (ve cs os ks gs bs dr ops):=plE c h2 h3
  obtain ⟨_,_,q,_⟩:=zO _ hE
  have q:iu (ve cs os ks gs bs dr ops)=.exit 0:=q
  refine ⟨⟨hE,rfl,rfl⟩,λc2=>?_,λ_=>?_⟩
  ·rw [q] at c2
   cases c2
  ·rw [show IX cs os ks gs bs dr ops=_ from AD RA]
   rfl
 ·cases h)
def pkB (p:PK):bz:=⟨[.xl AX p.cs,.xl .str p.os,.xl Ad p.ks,.xl AZ p.gs,.xl Ae p.bs,.v<|ag J p.tk,.v<|.bool p.up,.xl AK p.ls,.v<|ag J p.se,.xl (.int aw) p.fl,.xl Ag p.ra,.v<|ag J p.nx,.xl Aq p.st,.xl AK p.ca,.xl At p.mi,.xl B8 p.me,.xl Ac p.dm,.xl B4 p.lk,.xl A7 p.dr,.xl A7 p.tg],48,.cl,X⟩
def Rk:=bN f4 0
def Jv:aN:=[SL,mq]
def ai0:Sound prog AM (.loop Rk) (unrC prog AM Jv noK 20 2 Rk):=unrC_sound (gk Jv) kN.h 20 2 Rk
def Rj:=bN f4 1
def ahz:Sound prog AM (.loop Rj) (unrC prog AM Jv noK 20 2 Rj):=unrC_sound (gk Jv) kN.h 20 2 Rj
def zE:Y:=Dz zC bO [] zG [] [100,-100]
def zP:PK:=B3 (B3 zN<|zV 0)<|zV 1
def av9 {p:PK}{q:QV}(h:RP p q) (h0:q.p.tk=0):p.tk=0:=by
 have:=An PK.tk h.1
 exact this.symm.trans h0
def TE:JP zP/\zP.tk=0:=by
 have h0:JP zN:=XB YW
 have h1:=(h0.step PB.1).step PB.2.1
 exact ⟨h1,(av9 PB.2.2 rfl)⟩
structure ID where
 b:aM
 l:aB
 i:Y
 p:PK
def xS:=bN f4 2
def YV (s:ID):T (Rd ID):=
 .br (an<|s.i<60) (.req (JP s.p)<|.br ((BS s.p CL) !=0) (.so (.ret) {s with b:=X})<|.nx {s with l:=D6 s.p CL,i:=AA<|s.i+1,p:=B3 s.p CL}) (.so (.exit 4) s)
def ZC (s:ID):Prop:=s.i=0/\s.p=zP
def UG (s:ID):Prop:=(0<=s.i/\s.i<=60)/\s.p=FU s.i.toNat zP/\(s.i=60->s.l=[16,16])
def lF (s:ID):aC:=(60-s.i).toNat
def qQ (x:Ex) (s s':ID):Prop:=x=.exit 4/\s'.l=[16,16]
def avV:∀s,ZC s->UG s:=by
 rintro s ⟨h0,h1⟩
 exact ⟨⟨A0,A0⟩,dv,λc=>A0⟩
def aoA:Da UG lF qQ YV:=by
 intro s hI;unfold YV;dsimp only [T.rd,T.rl,T.rv];obtain ⟨⟨h0,h1⟩,h2,h3⟩:=hI;refine allR_ite (λc1=>?_) λc1=>?_
 ·have c1:s.i<60:=AQ
  rw [AH (x:=s.i+1)];obtain ⟨hJ,ht⟩:=Xd s.i.toNat TE.1 (by rw [TE.2];omega)
  rw [<-h2] at hJ ht;obtain ⟨he,eP,eD,_,_⟩:=Ku hJ (by rw [ht,TE.2];omega)
  refine allR_ite (λc2=>absurd he<|Cg.1 c2) λc2=>⟨⟨⟨AR,AR⟩,?_,λc=>?_⟩,by simp only [lF];omega⟩
  ·show B3 s.p CL=FU (s.i+1).toNat zP
   rw [eP,h2,show (s.i+1).toNat=s.i.toNat+1 by omega,yB]
  ·show D6 s.p CL=_
   have c:s.i+1=60:=c
   rw [eD,h2,show s.i.toNat=59 by omega]
   exact av7
 ·have c1:(60:Y)<=s.i:=AQ
  exact ⟨rfl,h3 A0⟩
def Ng:LpD ID:=⟨0,88,[0,3,9,59],[.pb 9 A7,.ps 3 0 AX,.ps 3 1 .str,.ps 3 2 Ad,.ps 3 3 AZ,.ps 3 4 Ae,.ps 3 7 AK,.ps 3 9<|.int aw,.ps 3 10 Ag,.ps 3 12 Aq,.ps 3 13 AK,.ps 3 14 At,.ps 3 15 B8,.ps 3 16 Ac,.ps 3 17 B4,.ps 3 18 A7,.ps 3 19 A7],λs=>[s.b,.own 0 0,.xl A7 s.l,s.i],λs=>[pkB s.p],λv b=>⟨DE v 0,As A7 v 2,AJ v 3,rQ b 0⟩,YV,λs r=>r,λs=>s,λ_ s=>s,[.ret,.exit 4],ZC,UG,lF⟩
abbrev vi:=Ng.run
abbrev iq:=Ng.exn
def apN:Rq UG YV:=by
 intro s hI;refine ⟨λc1=>⟨?_,λ_=>trivial,λ_=>trivial⟩,λ_=>trivial⟩
 ·(obtain ⟨⟨h0,h1⟩,h2,h3⟩:=hI;first|(rw [h2];exact (Xd s.i.toNat TE.1 (by rw [TE.2];omega)).1) |omega|exact ⟨rfl,AG⟩)
def aCt:Ng.Ok:={}
def aCc:Ng.Pf (qQ):=⟨avV,λs h=>rfl,aoA,apN⟩
def aiD:SA 0 xS Ng:=s1 aCt aCc Jv kN
def aiv:Fi ZC UG qQ iq vi:=LpD.fin aCt aCc
def aG4:aD->T LV
 | []=> .ok U
 |_=> .no
def apj  :letI a:=((av #[112])++(Utf8.encode 97),((0:Y),((1:Y),((6:Y),((32:Y),((1:Y),((0:Y),(0:Y))))))));letI c:=(vi (⟨X,([]:aB),(0:Y),zP⟩:ID));letI d:=((av #[112])++(Utf8.encode 98),((0:Y),((1:Y),((6:Y),((32:Y),((1:Y),((0:Y),(0:Y))))))));letI e:=(M c.l:Y);BO prog AM Jv kN (λi=>if i=3 then (unrC prog AM Jv noK 20 2 Rk) else if i=11 then (unrC prog AM Jv noK 20 2 Rj) else if i=20 then Ng.lp else noLoops i) f4 []=.req ((M ([a]):Y)*72<=2^47/\(M ([a]):Y)<2^62) (.rb (M<|[a]) (M<|[d]) 72<|.req (0+(M ([a])+M ([d]))<=M (([a])++([d])))<|.req (M ([(100:Y),(-100:Y)])<=1000)<|.br (zE !=0) (.ok X)<|.req (JP zN)<|.br ((BS zN<|zV 0) !=0) (.ok X)<|.req (JP<|B3 zN<|zV 0)<|.br ((BS (B3 zN<|zV 0)<|zV 1) !=0) (.ok X)<|.req (Ng.q (⟨X,([]:aB),(0:Y),zP⟩:ID))<|.br (isEx (iq (⟨X,([]:aB),(0:Y),zP⟩:ID))<|.ret) (.ok c.b)<|.br (e==2) (.req (0<=(0:Y)/\0<e)<|.br ((gi c.l (0:Y))==16) (.req (0<=(1:Y)/\1<e)<|.ok<|.v<|.bool<|(gi c.l (1:Y))==16)<|.ok X)<|.ok X):=AO
def ab1:=vm (S:=aG4) func4 Jv kN (L:=(λi=>if i=3 then (unrC prog AM Jv noK 20 2 Rk) else if i=11 then (unrC prog AM Jv noK 20 2 Rj) else if i=20 then Ng.lp else noLoops i)) (λb hb=>by
 rw [show loopsIn _=[Rk,Rj,xS] by kernel_rfl] at hb
 simp only [Au,BX,BV] at hb;rcases hb with rfl|rfl|rfl
 ·exact ai0
 ·exact ahz
 ·exact aiD) (λargs lv h=>by
 refine ⟨?_⟩;unfold aG4 at h;split at h
 ·simp only [canL]
  rw [apj];obtain rfl:=h
  have hJ:JP zN:=XB YW
  have hE:ZC (⟨X,([]:List Int),0,zP⟩:ID):=⟨rfl,rfl⟩
  obtain ⟨_,_,q1,q2⟩:=aiv _ hE
  have q1:iq (⟨X,([]:aB),0,zP⟩:ID)=.exit 4:=q1
  have q2:(vi (⟨X,([]:aB),0,zP⟩:ID)).l=[16,16]:=q2
  refine ⟨AG,AG,AG,AG,λc=>absurd YW<|Cg.1 c,λ_=>⟨hJ,λc=>absurd PB.1<|Cg.1 c,λ_=>⟨hJ.step PB.1,λc=>absurd PB.2.1<|Cg.1 c,λ_=>⟨⟨hE,rfl,rfl⟩,λc=>(by rw [q1] at c;cases c),λ_=>?_⟩⟩⟩⟩
  rw [q2];exact ⟨λ_=>⟨AS,λ_=>⟨AS,rfl⟩,λc=>Cu⟩,λc=>Cu⟩
 ·cases h)
structure LI where
 b:aM
 (m i:Y)
 (p r:PK)
def xr:=bN f10 0
def o5 (s:LI):T (Rd LI):=letI a:=D6 s.p CL;.br (an<|s.i<s.m) (.req (JP s.p)<|.br ((BS s.p CL) !=0) (.so (.ret) {s with b:=X,r:=s.p})<|.req (Av s.p.cs s.p.os s.p.ks s.p.gs s.p.bs=U/\(M a=M s.p.gs->∀k:aC,k<M a->0<=gi a k/\gi a k<=80))<|.br (((Fw s.p.gs a) !=0) ||(an (M a=M s.p.gs)&&!Cw s.p.cs s.p.gs a)) (.so (.ret) {s with b:=X,r:=s.p})<|.nx {s with i:=AA<|s.i+1,p:=B3 s.p CL})<|.so (.exit 0) s
def ab8 {d:Y}{p:PK}(hJ:JP p) (hm:LM d p) (ht:p.tk<=1000):(Av p.cs p.os p.ks p.gs p.bs=U/\(M (D6 p CL)=M p.gs->∀k:aC,k<M (D6 p CL)->0<=gi (D6 p CL) k/\gi (D6 p CL) k<=80))/\
  ((Fw p.gs<|D6 p CL) !=0 ||(an (M (D6 p CL)=M p.gs)&&!Cw p.cs p.gs (D6 p CL)))=false:=by
 obtain ⟨d1,d2,d3⟩:=hm.draw hJ ht;rw [(Ku hJ A0).2.2.1];refine ⟨⟨hJ.1.1.site,λ_ k hk=>d2 k A0⟩,?_⟩
 rw [show Fw p.gs p.Ej=0 from AB d1,d3]
 simp
def ZB (s:LI):Prop:=s.i=0/\JP s.p/\LM 1 s.p/\s.m<=100/\s.p.tk+s.m-s.i<=1000
def ZM (s:LI):Prop:=0<=s.i/\JP s.p/\LM 1 s.p/\s.m<=100/\s.p.tk+s.m-s.i<=1000
def lE (s:LI):aC:=(s.m-s.i).toNat
def ade (x:Ex) (s s':LI):Prop:=True
def aw8:∀s,ZB s->ZM s:=by
 exact dT
def ao9:Da ZM lE ade o5:=by
 intro s hI;obtain ⟨h0,hJ,hm,h1,h2⟩:=hI;refine allR_ite (λc1=>?_) λc1=>trivial
 have c1:s.i<s.m:=A8
 obtain ⟨he,eP,_,_,et⟩:=Ku hJ A0;rw [AH (x:=s.i+1)];refine allR_ite (λc2=>absurd he<|Cg.1 c2) λc2=>allR_ite (λc3=>trivial) λc3=>?_
 refine ⟨⟨A8,hJ.step he,?_,h1,?_⟩,by simp only [lE];omega⟩
 ·simp only;rw [eP];exact hm.tick hJ A0
 ·grind
def Nf:LpD LI:=⟨0,42,[2,4,5,12,13],[.ps 4 0 AX,.ps 4 1 .str,.ps 4 2 Ad,.ps 4 3 AZ,.ps 4 4 Ae,.ps 4 7 AK,.ps 4 9<|.int aw,.ps 4 10 Ag,.ps 4 12 Aq,.ps 4 13 AK,.ps 4 14 At,.ps 4 15 B8,.ps 4 16 Ac,.ps 4 17 B4,.ps 4 18 A7,.ps 4 19 A7],λs=>[.own 0 0,.own 1 0,s.b,s.m,s.i],λs=>[pkB s.p,pkB s.r],λv b=>⟨DE v 2,AJ v 3,AJ v 4,rQ b 0,rQ b 1⟩,o5,λs r=> {r with m:=s.m},λs=>s,λ_ s=>s,[.ret,.exit 0],ZB,ZM,lE⟩
abbrev Wx:=Nf.run
abbrev aAI:=Nf.exn
def apM:Rq ZM o5:=by
 intro s hI;refine ⟨λc1=>⟨?_,λ_=>trivial,λc2=>⟨?_,λ_=>trivial,λ_=>trivial⟩⟩,λ_=>trivial⟩
 all_goals ((obtain ⟨h0,hJ,hm,h1,h2⟩:=hI;simp only [AT] at c1;first|omega|exact hJ|exact (ab8 hJ hm A0).1))
def mW:aN:=[SL,PC]
def aCs:Nf.Ok:={}
def aCb:Nf.Pf (ade):=⟨aw8,λs h=>rfl,ao9,apM⟩
def aiC:SA 0 xr Nf:=s1 aCs aCb mW kN
def aiu:Rs ZB aAI Wx (λs:LI=>FU (s.m-s.i).toNat s.p) (λx s' (v:PK)=>x=.exit 0/\s'.p=v):=Cq aCs aCb (λs hI=>by
  obtain ⟨h0,hJ,hm,h1,h2⟩:=hI;refine allR_ite (λc1=>?_) λc1=>?_
  ·have c1:s.i<s.m:=A8
   obtain ⟨he,eP,_,_,et⟩:=Ku hJ A0;rw [AH (x:=s.i+1)];refine allR_ite (λc2=>absurd he<|Cg.1 c2) λc2=>allR_ite (λc3=>?_) λc3=>?_
   ·exact absurd (c3.symm.trans (ab8 hJ hm A0).2) AS
   ·show FU (s.m-(s.i+1)).toNat (B3 s.p CL)=FU (s.m-s.i).toNat s.p
    rw [eP,show (s.m-s.i).toNat=(s.m-(s.i+1)).toNat+1 by omega]
    rfl
  ·have c1:s.m<=s.i:=A8
   rw [show (s.m-s.i).toNat=0 by omega]
   exact ⟨rfl,rfl⟩)
def aFz:aD->T LV
 | [x_p,.v (ag J m)]=>(match N5 x_p with
  |some p=> .req ((JP p/\LM 1 p)/\m<=100/\p.tk<=900) (.ok<|.tup [FU m.toNat p,U])
  |none=> .no)
 |_=> .no
def vd (p:PK) (m:Y):LI:=(⟨X,m,0,p,⟨([]:aJ),([]:aF),([]:aP),([]:aG),([]:aQ),0,X,([]:aL),0,([]:aB),([]:bu),0,([]:bc),([]:aL),([]:aKH),([]:aKL),([]:aZ),([]:aKx),([]:aB),([]:aB)⟩⟩:LI)
def aqI (p:PK) (m:Y):letI a:=vd p m;BO prog AM (mW) kN (λi=>if i=2 then Nf.lp else noLoops i) f10 [p,m]=.req (Nf.q a) (.br (isEx (aAI a)<|.ret) (.ok<|.tup [(Wx a).r,(Wx a).b])<|.ok<|.tup [(Wx a).p,U]):=AO
def aaw:=vm (S:=aFz) func10 mW kN (L:=(λi=>if i=2 then Nf.lp else noLoops i)) (λb hb=>by
 rw [show loopsIn _=[xr] by rfl] at hb
 simp only [Au,BX,BV] at hb;subst hb;exact aiC) (λargs lv h=>by
 refine ⟨?_⟩;unfold aFz at h;split at h
 ·split at h
  case h_2=>cases h
  rename_i p hp;obtain rfl:=Rm hp;simp only [canL,canX];rw [aqI];rename_i m _;obtain ⟨⟨⟨hJ,hm⟩,h1,h2⟩,rfl⟩:=h
  have hE:ZB (vd p m):=⟨rfl,hJ,hm,h1,by show p.tk+m-0<=1000;omega⟩
  obtain ⟨q1,q2⟩:=aiu _ hE
  have q2:(Wx<|vd p m).p=FU (m-0).toNat p:=q2
  refine ⟨⟨hE,rfl,rfl⟩,λc=>?_,λ_=>?_⟩
  ·rw [q1] at c
   cases c
  ·rw [q2,M4]
   rfl
 ·cases h)
structure Mg where
 (sp pz:Y)
 (b u:aM)
 l:aL
 (n i:Y)
 p:PK
def xk:=bN f3 0
def YT (s:Mg):T (Rd Mg):=letI a:=O3 s.p s.l s.i s.sp;letI c:=C1 s.p.se s.p.fl (AU s.l s.i) s.p.tk;letI d:=JO s.p s.l s.i s.sp s.pz;letI e:=(M c:Y);.br (an<|s.i<s.n) (.ix s.i (M s.l)<|.br ((AU s.l s.i).2.2.2.1 !=s.p.tk) (.nx {s with i:=AA<|s.i+1})<|.req (Ay s.p.fl)<|.br (((Cs s.p.se s.p.fl (AU s.l s.i) s.p.tk) !=0) ||(e==0)) (.so (.ret) {s with b:=X})<|.req (e≠0)<|.ix ((AA s.sp).tmod e) (M c)<|.req ((40:Y)≠0)<|.req ((JP (s.p.KL a)/\LM 1 (s.p.KL a))/\((AA s.pz).tmod 40)<=100/\s.p.tk<=900)<|.br (!U) (.so (.ret) {s with b:=X,p.up:=X,p.ls:=([]:aL),p.se:=a.1,p.fl:=a.2})<|.req (JP d)<|.br ((BS d evS) !=0) (.so (.ret) {s with b:=X,p.up:=X,p.ls:=([]:aL),p.se:=a.1,p.fl:=a.2})<|.req ((JP (B3 d evS)/\LM 1 (B3 d evS))/\(60:Y)<=100/\(B3 d evS).tk<=900)<|.so (.ret) {s with b:=s.u&&U,p.up:=X,p.ls:=([]:aL),p.se:=a.1,p.fl:=a.2})<|.so (.exit 0) s
def Z7 (s:Mg):Prop:=s.i=0/\s.n=(M s.l:Y)/\(JP s.p/\LM 0 s.p)/\s.p.tk<=150/\s.p.up=U/\s.l=s.p.B5.ls/\(0<=s.sp/\s.sp<=65535)/\(0<=s.pz/\s.pz<=255)/\s.u=U
def UC (s:Mg):Prop:=(0<=s.i/\s.i<=s.n)/\(∀j:aC,(j:Y)<s.i->(AU s.l j).2.2.2.1≠s.p.tk)/\s.n=(M s.l:Y)/\(JP s.p/\LM 0 s.p)/\s.p.tk<=150/\s.p.up=U/\s.l=s.p.B5.ls/\(0<=s.sp/\s.sp<=65535)/\(0<=s.pz/\s.pz<=255)/\s.u=U
def lB (s:Mg):aC:=(s.n-s.i).toNat
def qN (x:Ex) (s s':Mg):Prop:=x=.exit 0\/(x=.ret/\s'.b=U)
def avw:∀s,Z7 s->UC s:=by
 rintro s ⟨h0,h1⟩
 exact ⟨A0,λj hj=>A0,h1⟩
def anM:Da UC lB qN YT:=by
 intro s hI;unfold YT;dsimp only [T.rd,T.rl,T.rv];obtain ⟨⟨h0,h1⟩,hf,hn,⟨hJ,hm⟩,ht,hu,hl,hs,hp,hb⟩:=id hI;refine allR_ite (λc1=>?_) λc1=> .inl rfl
 have c1:s.i<s.n:=A8
 rw [AH (x:=s.i+1) A0 (by have:=(hJ.step (Ku hJ A0).1).1.2.ls;rw [(Ku hJ A0).2.1,<-hl] at this;omega)]
 refine allR_ite (λc2=>?_) λc2=>?_
 ·refine ⟨⟨⟨A8,A8⟩,λj hj=>?_,hn,⟨hJ,hm⟩,ht,hu,hl,hs,hp,hb⟩,by simp only [lB];omega⟩
  by_cases e:(j:Y)=s.i
  ·simp only
   rw [e]
   grind
  ·grind
 ·obtain ⟨⟨k1,k2⟩,k3,k4,k5,⟨k6,k7⟩,k8,k9⟩:=aBy hJ hm hu ht hl h0 A0 hs hp (D4 c2) hf
  refine allR_ite (λc3=>?_) λ_=>allR_ite (λc=>Cu) λ_=>allR_ite (λc4=>absurd k7<|Cg.1 c4) λ_=> .inr ⟨rfl,?_⟩
  ·exfalso
   have c3:(M (C1 s.p.se s.p.fl (AU s.l s.i) s.p.tk):Y)=0:=A8
   omega
  ·simp [hb]
def PX:LpD Mg:=⟨0,138,[3,4,10,11,12,66,67,68],[.ps 12 7 AK],λs=>[.v<|ag .u16 s.sp,.v<|ag aw s.pz,s.b,s.u,.own 0 0,s.l,s.n,s.i],λs=>[pkB s.p],λv b=>⟨AJ v 0,AJ v 1,DE v 2,DE v 3,As AK v 5,AJ v 6,AJ v 7,rQ b 0⟩,YT,λs r=> {s with b:=r.b,i:=r.i,p.up:=r.p.up,p.ls:=r.p.ls,p.se:=r.p.se,p.fl:=r.p.fl},λs=>s,λ_ s=>s,[.ret,.exit 0],Z7,UC,lB⟩
abbrev zY:=PX.run
abbrev aAH:=PX.exn
def anr:Rq UC YT:=by
 intro s hI;refine ⟨λc1=>⟨?_,λ_=>trivial,λc2=>⟨?_,λ_=>trivial,λc3=>⟨?_,?_,?_,?_,λ_=>trivial,λc4=>⟨?_,λ_=>trivial,λc5=>⟨?_,ak⟩⟩⟩⟩⟩,λ_=>trivial⟩
 all_goals ((obtain ⟨⟨h0,h1⟩,hf,hn,⟨hJ,hm⟩,ht,hu,hl,hs,hp,hb⟩:=id hI;simp only [AT] at c1;first|omega|exact hJ.2.1.1.2.2|(obtain ⟨⟨k1,k2⟩,k3,k4,k5,⟨k6,k7⟩,k8,k9⟩:=aBy hJ hm hu ht hl h0 A0 hs hp (D4 c2) hf;first|omega|decide|exact k3|exact ⟨k4,k5,A0⟩ |exact k6|exact ⟨k8,AS,k9⟩)))
def aru:aN:=[ab1,aay,ab2,YJ,SL,YI,aaw]
def aCo:PX.Ok:={}
def aCX:PX.Pf (qN):=⟨avw,λs h=>rfl,anM,anr⟩
def ahy:SA 0 xk PX:=s1 aCo aCX aru kN
def aiK:Fi Z7 UC qN aAH zY:=LpD.fin aCo aCX
def aGP:aD->T LV
 | .agg a::r=>s5 a λcs os ks gs bs=>(match r with
  | [.xl (.int J) dr,.xl (.pair (.int aw) (.pair (.int aw) (.pair (.int .u16) (.pair (.pair (.int J) (.pair (.int J) (.pair (.int J) (.pair (.int J) (.int J))))) (.pair .bool (.pair (.int J) (.pair (.int J) (.int J)))))))) ops,.v (ag .u16 sp),.v (ag aw pz)]=> .req ((0<=sp/\sp<=65535)/\(0<=pz/\pz<=255)/\M ops<=17592186044416) (.ok U)
  |_=> .no)
 |_=> .no
def acD:=uS f3 aGP
def gA (cs:aJ) (os:aF) (ks:aP) (gs:aG) (bs:aQ) (dr:aB) (ops:List<|Int×(Int×(Int×(Le×Dm)))) (sp pz:Y):Mg:=letI a:=IX cs os ks gs bs dr ops;(⟨sp,pz,X,U,(B3 a CL).ls,(M (B3 a CL).ls:Y),0,a⟩:Mg)
def ars:aN:=[ab1,aay,ab2,YJ,SL,YI,aaw]
def auu:VV 3 acD:=vm func3 ars kN (L:=(λi=>if i=13 then PX.lp else noLoops i)) (λb hb=>by
 rw [show loopsIn _=[xk] by rfl] at hb
 simp only [Au,BX,BV] at hb;subst hb;exact ahy) (λargs lv h=>by
 unfold aGP at h;split at h
 case h_2=>cases h
 replace h:=GB h
 obtain ⟨cs,os,ks,gs,bs,rfl,h⟩:=h;split at h
 ·rename_i dr ops sp pz
  refine Al (.req (M ops<=17592186044416)<|.br (!(ops.all JQ&&(an (M cs<=40/\M os<=40/\M ks<=40/\M gs<=40/\M bs<=40)&&(an ((M dr:Y)<=40)&&an ((M ops:Y)<=40))))) (.ok U)<|.req ((M dr<=1000/\M ops<=1000)/\∀x∈ops,TmO x)<|.br (!U) (.ok X)<|.br (((M (IX cs os ks gs bs dr ops).tg:Y)==0) ||(!(IX cs os ks gs bs dr ops).up)) (.ok U)<|.req (JP<|IX cs os ks gs bs dr ops)<|.br ((BS (IX cs os ks gs bs dr ops) CL) !=0) (.ok X)<|.req (PX.q<|gA cs os ks gs bs dr ops sp pz)<|.br (isEx (aAH<|gA cs os ks gs bs dr ops sp pz)<|.ret) (.ok (zY<|gA cs os ks gs bs dr ops sp pz).b)<|.ok U) ?_;obtain ⟨⟨hs,hp,h1⟩,rfl⟩:=h;refine ⟨h1,λ_=>rfl,λc1=>?_⟩
  simp only [G0,AP,AT] at c1;obtain ⟨c2,_,k1,k2⟩:=c1
  have hT:=aiN.1 c2
  refine ⟨⟨⟨A0,A0⟩,hT⟩,λc=>Cu,λ_=>⟨λ_=>rfl,λc3=>?_⟩⟩
  simp only [F6,G0] at c3;obtain ⟨c3,c4⟩:=c3
  have hn:Dz cs os ks gs bs dr=0:=VU λhc=>by
   rw [show IX cs os ks gs bs dr ops=newP cs os ks gs bs dr from AB hc,show newP cs os ks gs bs dr=PK0 from AB hc] at c3;cases c3
  obtain ⟨hJ,hm,ht⟩:=aqe hn (ops:=ops) A0 hT;obtain ⟨e1,e2,_⟩:=Ku hJ A0
  have hE:Z7 (gA cs os ks gs bs dr ops sp pz):=⟨rfl,rfl,⟨hJ,hm⟩,ht,c4,by show (B3 (IX cs os ks gs bs dr ops) CL).ls=_;rw [e2];rfl,hs,hp,rfl⟩
  obtain ⟨_,_,q⟩:=aiK _ hE;refine ⟨hJ,λc=>absurd e1<|Cg.1 c,λ_=>⟨⟨hE,rfl,rfl⟩,λc=>?_,λ_=>rfl⟩⟩
  rcases q with q|⟨_,q⟩
  ·rw [q] at c
   cases c
  ·rw [q]
   rfl
 ·cases h)
end Go.Proofs.YtcdkianomnhhmaaGreatDoor
namespace Go.Sx
open Go Go.RowKit Go.Proofs.YtcdkianomnhhmaaGreatDoor
def mb:Ty->Nat
 | .int k=>k.bits / 8
 | .bool=>1
 | .str=>16
 | .sl _=>24
 | .pair a b=>mb a+mb b
def HF:(t:Ty)->t.D->Prop
 | .int k,n=>(Lit.int k n).wf=U
 | .bool,_=>True
 | .str,s=>s.size<=maxLen
 | .sl e,l=>(M l<=maxLen/\M l*mb e<=reachBytes)/\∀d,d∈l->HF e d
 | .pair a b,d=>HF a d.1/\HF b d.2
def S4 (P:aR):aC->aK1->Bool
 |_,[]=>U
 |o,f::fs=>an (f.offset=o)&&S4 P (o+P.cellsOf f.type) fs
def KM (P:aR):aC->aS->Bool
 |0,_=>X
 |m+1,t=>match P.underlying t with
  |some (.int _) |some .bool|some .string=>an (P.cellsOf t=1)
  |some (.struct fs)=>S4 P 0 fs.toList&&an (P.cellsOf t=((fs.toList.map (·.type)).map P.cellsOf).sum)&&fs.toList.all (λf=>KM P m f.type)
  |some (.array n e)=>an (P.cellsOf t=((aq n e).map P.cellsOf).sum)&&KM P m e
  |some (.slice e)=>an (P.cellsOf t=1)&&an (1<=P.cellsOf e)&&(tyOf P m e).any (λty=>ty.n==P.cellsOf e&&an (mb ty<=P.bytesOf e))&&KM P m e
  |_=>X
variable {H : Type} {enc : TypeId × Value -> H} {P : Program} {w : World} {base : Nat} {spare : Nat -> Bool} {held : Bool} {β : Nat -> Loc}
def Good (enc:TypeId×Value->H) (P:aR) (w:aO) (base:aC) (spare:aC->aM) (held:aM) (t:aS) (cs:aT):Prop:=∃n x,DataW.trod enc P w base spare held n t cs=ah x/\∀k,k∈x.1.weights P t->k<=reachBytes
def wP {e:aS}{d:DataW H}{k:aC}(hk:k∈d.weights P e):∀ {l:List<|DataW H}{i:aC},l[i]? =ah d->k∈DataW.weightsAll P e l
 | [],_,h=>Ai
 |x::l,0,h=>by
  simp only [DataW.weightsAll,BC]
  grind
 |x::l,i+1,h=>by
  simp only [DataW.weightsAll,BC];exact .inr<|wP hk h
def aes {t:aS}{d:DataW H}{k:aC}(hk:k∈d.weights P t):∀ {ts:bw}{l:List<|DataW H}{i:aC},ts[i]? =ah t->l[i]? =ah d->k∈DataW.weightsEach P ts l
 | [],_,_,h,_=>Ai
 |_::_,[],_,_,h=>Ai
 |u::ts,x::l,0,h1,h2=>by
  simp only [DataW.weightsEach,BC]
  grind
 |u::ts,x::l,i+1,h1,h2=>by
  simp only [DataW.weightsEach,BC];exact .inr<|aes hk h1 h2
def aer:∀ {ts us:bw}{ds gs:List<|DataW H},M ds=M ts->∀k,k∈DataW.weightsEach P ts ds->k∈DataW.weightsEach P (ts++us) (ds++gs)
 | [],_,[],_,_,_,h=>by simp [DataW.weightsEach] at h
 | [],_,_::_,_,h,_,_=>Ai
 |_::_,_,[],_,h,_,_=>Ai
 |t::ts,us,d::ds,gs,h,k,hk=>by
  simp only [DataW.weightsEach,BC,Ip] at hk|-;rcases hk with hk|hk
  ·grind
  ·exact .inr<|aer A8 k hk
def aed:∀ {ts:bw}{vs:aT}{ds:List<|DataW H}{ps:aKI},DataW.TrodAll enc P w base spare held ts vs ds ps->M ds=M ts
 | [],[],[],_,_=>rfl
 | [],_::_,_,_,h=>Ai
 | [],[],_::_,_,h=>Ai
 |_::_,[],_,_,h=>Ai
 |_::_,_::_,[],_,h=>Ai
 |_::_,_::_,_::_,_,h=>by
  obtain ⟨_,_,_,h2,_⟩:=h
  simp [aed h2]
def RL.append' {Z:aC->Prop}:∀ {l1 l2:aD}{y1 y2:aT},RL β Z w l1 y1->RL β Z w l2 y2->RL β Z w (l1++l2) (y1++y2)
 | [],l2,y1,y2,h1,h2=>by simp only [RL] at h1;subst h1;exact h2
 |x::xs,l2,y1,y2,h1,h2=>by
  obtain ⟨y,zs,rfl,h3,h4⟩:=h1;exact ⟨y,zs++y2,rfl,h3,RL.append' h4 h2⟩
def m7 {Z:aC->Prop}:∀(t:Ty) (d:t.D) (cs:aT) (b o:aC),RL β Z w (encL t d) cs->(∀(j:aC) v,cs[j]? =ah v->w.cell? ⟨b,o+j,aj⟩=ah v)->RD Z w t d b o
 | .int k,d,cs,b,o,h,hc=>by
  exact sB
 | .bool,d,cs,b,o,h,hc=>by
  exact sB
 | .str,d,cs,b,o,h,hc=>by
  exact sB
 | .sl e,d,cs,b,o,h,hc=>by
  obtain ⟨y,zs,rfl,⟨a,cap,rfl,h2,h3⟩,_⟩:=h;simp only [RD];exact ⟨a,cap,hc 0 _ rfl,h2,h3⟩
 | .pair p q,d,cs,b,o,h,hc=>by
  simp only [encL] at h
  have hl:=RL.length h
  have h1:=h.take_drop 0 p.n
  have h2:RL β Z w ((encL p d.1++encL q d.2).drop p.n) (cs.drop p.n):=by
   refine RL.of_get (by simp [hl,encL_length]) λi z hz=>?_
   rw [Dt] at hz|-;exact RL.get _ _ h hz
  have t1:((encL p d.1++encL q d.2).drop 0).take p.n=encL p d.1:=by
   rw [C0,List.take_append_of_le_length sT,Cx sT]
  have t2:(encL p d.1++encL q d.2).drop p.n=encL q d.2:=by
   rw [aGs sT,Dj A8,De]
  rw [t1,C0] at h1;rw [t2] at h2;simp only [RD];refine ⟨m7 p d.1 _ b o h1 λj v hv=>?_,m7 q d.2 _ b (o+p.n) h2 λj v hv=>?_⟩
  ·exact aI8
  ·rw [Dt] at hv
   grind
def wY {Z:aC->Prop}{r:aS->Option Ty}{sz:aS->aC}{Gd:aS->aT->Prop}:∀(ts:bw) (ty:Ty) (cs:aT),tyFs r ts=ah ty->
  (∀t∈ts,∀ty c,r t=ah ty->Gd t c->∃d:ty.D,RL β Z w (encL ty d) c/\HF ty d)->M cs=(ts.map sz).sum->(∀pre t post,ts=pre++t::post->Gd t ((cs.drop (pre.map sz).sum).take<|sz t))->∃d:ty.D,RL β Z w (encL ty d) cs/\HF ty d
 | [],ty,cs,h,_,_,_=>by simp [tyFs] at h
 | [t],ty,cs,h,ih,hl,hg=>by
  have:=ih t AG ty _ h<|hg [] t [] rfl
  have e:(cs.drop (List.map sz []).sum).take (sz t)=cs:=by
   grind
  rw [e] at this;exact this
 | t::u::ts,ty,cs,h,ih,hl,hg=>by
  simp only [tyFs] at h;split at h
  ·rename_i a b ha hb
   simp only [Ab] at h;subst h;obtain ⟨d1,a1,a2⟩:=ih t AG a _ ha<|hg [] t (u::ts) rfl
   obtain ⟨d2,b1,b2⟩:=wY (sz:=sz) (Gd:=Gd) (u::ts) b (cs.drop<|sz t) hb (λt' ht=>ih t' A8) A8 (λpre t' post e=>by
    have:=hg (t::pre) t' post (by rw [e];rfl)
    simpa using this)
   refine ⟨(d1,d2),?_,by simp only [HF];exact ⟨a2,b2⟩⟩
   have:=RL.append' a1 b1
   simp only [encL];exact NK
  ·cases h
def iy:∀(fs:aK1) (o:aC),S4 P o fs=U->∀pre f post,fs=pre++f::post->f.offset=o+((pre.map (·.type)).map P.cellsOf).sum
 | [],o,_,pre,f,post,e=>by cases pre<;>cases e
 |g::fs,o,h,[],f,post,e=>by
  simp only [S4,AP,AT] at h
  grind
 |g::fs,o,h,p::pre,f,post,e=>by
  simp only [S4,AP,AT] at h;simp only [Ip,G2] at e
  have:=iy fs _ h.2 pre f post e.2
  grind
def iJ {Z:aC->Prop}(hZ:∀b,b<w.heap.size->Z b):∀(m:aC) (t:aS) (ty:Ty),KM P m t=U->tyOf P m t=ah ty->∀cs,Good enc P w base spare held t cs->∃d:ty.D,RL β Z w (encL ty d) cs/\HF ty d
 |0,t,_,h,_,_,_=>Ai
 | m + 1,t,ty,h,hty,cs,⟨n,x,hx,hwt⟩=>by
  simp only [KM] at h;simp only [tyOf] at hty;split at h
  ·rename_i k hu
   obtain ⟨z,rfl,_,hw⟩:=DataW.trod_int hu hx;simp only [hu,Ab] at hty;subst hty;exact ⟨z,tL,hw⟩
  ·rename_i hu
   obtain ⟨z,rfl,_⟩:=DataW.trod_bool hu hx;simp only [hu,Ab] at hty;subst hty;exact ⟨z,tL,ak⟩
  ·rename_i hu
   obtain ⟨z,rfl,_,hs⟩:=DataW.trod_string hu hx;simp only [hu,Ab] at hty;subst hty;exact ⟨z,tL,hs⟩
  ·rename_i fs hu
   simp only [AP,AT,B9] at h;obtain ⟨⟨h1,h2⟩,h3⟩:=h;obtain ⟨xs,n',_,rfl,hl,hxl,hf⟩:=DataW.trod_struct hu hx;simp only [DataW.weights,hu] at hwt;simp only [hu] at hty;refine wY (Gd:=Good enc P w base spare held) (sz:=P.cellsOf) (fs.toList.map (·.type)) ty cs hty (λt' ht ty' c hty' hc=>?_) eK λpre t' post e=>?_
   ·obtain ⟨f,hf1,rfl⟩:=EH.1 ht
    exact iJ hZ m f.type ty' (h3 f hf1) hty' c hc
   ·obtain ⟨fpre,frest,e1,e2,e3⟩:=List.map_eq_append_iff.1 e
    obtain ⟨f,fpost,rfl,e4,e5⟩:=List.map_eq_cons_iff.1 e3
    have ho:=iy fs.toList 0 h1 fpre f fpost e1
    have hi:fs[M fpre]? =ah f:=by
     exact aIE
    have hg:=hf _ f hi
    have hlt:M fpre<fs.size:=(GW.1 hi).1
    rw [ho,Dc] at hg;refine ⟨n',xs[M fpre]' A0,?_,λk hk=>?_⟩
    ·rw [<-e2,<-e4,hg,Cv]
    ·rw [<-e4] at hk
     exact hwt k<|aes hk (i:=M fpre) (by rw [e1];simp) sY
  ·rename_i n0 e hu
   simp only [AP,AT] at h;obtain ⟨h2,h3⟩:=h;obtain ⟨xs,n',_,rfl,hl,hxl,hf⟩:=DataW.trod_array hu hx;simp only [DataW.weights,hu] at hwt;simp only [hu] at hty;refine wY (Gd:=Good enc P w base spare held) (sz:=P.cellsOf) (aq n0 e) ty cs hty (λt' ht ty' c hty' hc=>?_) eK λpre t' post e'=>?_
   ·rw [(Qr.1 ht).2] at hc hty'
    exact iJ hZ m e ty' h3 hty' c hc
   ·obtain ⟨c1,c2,c3⟩:=aGt.1 e'
    have ht':t'=e:=by
     have:t'∈aq n0 e:=by rw [e'];simp
     exact (Qr.1 this).2
    have hlen:M pre<n0:=by
     have:=An M e'
     simp at this;omega
    have hg:=hf (M pre) hlen
    refine ⟨n',xs[M pre]' A0,?_,λk hk=>?_⟩
    ·have hs:(pre.map P.cellsOf).sum=M pre*P.cellsOf e:=by rw [c2];simp
     rw [hs,ht',hg,Cv]
    ·rw [ht'] at hk
     exact hwt k<|wP hk (i:=M pre) sY
  ·rename_i e hu
   simp only [AP,AT] at h;obtain ⟨⟨⟨h1,h2⟩,h4⟩,h3⟩:=h;simp only [hu,Option.map_eq_some_iff] at hty;obtain ⟨te,hte,rfl⟩:=hty;rw [hte] at h4;simp only [Option.any_some,AP,AT,CO] at h4;obtain ⟨h4,h5⟩:=h4;rcases DataW.trod_slice hu hx with ⟨rfl,_⟩ |⟨a,len,cap,elems,rest,n',_,rfl,rfl,hb,hlc,hm,hlen,hel,_,_⟩
   ·refine ⟨([]:List te.D),?_,⟨Jf _,AG⟩,λd hd=>WE⟩
    simp only [encL,RL,R]
    grind
   ·simp only [DataW.weights,hu] at hwt
    have hroom:=hwt _<|List.mem_cons_self ..
    have each:∀i,∃d:te.D,i<len->∃c,w.cells? base (a.add<|i*P.cellsOf e) (P.cellsOf e)=ah c/\RL β Z w (encL te d) c/\HF te d:=λi=>by
     by_cases hi:i<len
     ·have he:=hel i hi
      rw [Cv A0] at he;obtain ⟨c,hc,ht⟩:=Option.bind_eq_some_iff.1 he
      obtain ⟨d,l1,l2⟩:=iJ hZ m e te h3 hte c ⟨n',_,ht,λk hk=>hwt k (by
       simp only [Au,BC];exact .inr<|.inl<|wP hk (i:=i) sY)⟩
      exact ⟨d,λ_=>⟨c,hc,l1,l2⟩⟩
     ·exact ⟨te.dflt,λh=>absurd h hi⟩
    have ⟨g,hg⟩:=qe each
    have hlg:M ((au len).map g)=len:=AG
    refine ⟨(au len).map g,?_,⟨by rw [hlg];omega,by rw [hlg];exact Fy (Nat.mul_le_mul Cf h5) hroom⟩,λd hd=>?_⟩
    ·simp only [encL,RL,R]
     refine ⟨_,[],rfl,⟨ah a,cap,by rw [hlg],by rw [hlg];omega,λhn=>?_⟩,rfl⟩
     rw [hlg] at hn;obtain ⟨c0,hc0,hr0,_⟩:=hg 0 hn;obtain ⟨_,hcl0,hat0⟩:=World.cells?_some hc0
     have hcell0:∃z,w.cell? ((a.add<|0*P.cellsOf e).add 0)=ah z:=by
      grind
     obtain ⟨z0,hz0⟩:=hcell0;obtain ⟨b,off,spot⟩:=a
     have hsp:spot=none:=by
      cases spot with
      |none=>rfl
      |some q=>
       unfold World.cell? at hz0;split at hz0
       ·simp [Addr.add] at hz0
       ·cases hz0
     subst hsp
     have hbl:b<w.heap.size:=by
      simp only [addr_add] at hz0;unfold World.cell? at hz0;split at hz0
      ·rename_i hh;exact (GW.1 hh).1
      ·cases hz0
     refine ⟨b,off,rfl,hZ b hbl,λi d hd=>?_⟩
     have hi:i<len:=by
      have:=(DI.1 hd).1
      rwa [hlg] at this
     have hdd:d=g i:=by
      rw [Cy,rL hi] at hd
      simpa using hd.symm
     subst hdd;obtain ⟨c,hc,hr,_⟩:=hg i hi;obtain ⟨_,hcl,hat⟩:=World.cells?_some hc;refine m7 te (g i) c b _ hr λj v hv=>?_
     have hj:j<P.cellsOf e:=by
      have:=(DI.1 hv).1
      omega
     have:=hat j hj
     rw [hv] at this;rw [h4]
     simpa [addr_add,G3] using this
    ·obtain ⟨i,hi,rfl⟩:=EH.1 hd
     obtain ⟨_,_,_,hw⟩:=hg i<|by simpa using hi
     exact hw
  ·cases h
def shp (P:aR) (m:aC) (t:aS) (l:aD):Prop:=∃(ty:Ty) (d:ty.D),tyOf P m t=ah ty/\l=encL ty d/\HF ty d
def XI {P:aR}{m:aC}{t:aS}{l:aD}{ty:Ty}(ht:tyOf P m t=ah ty) (h:shp P m t l):∃d:ty.D,l=encL ty d/\HF ty d:=by
 obtain ⟨ty',d,h1,h2,h3⟩:=h
 grind
def agN {Z:aC->Prop}(hZ:∀b,b<w.heap.size->Z b) (m:aC) (t:aS) (hs:KM P m t=U) (ht:(tyOf P m t).isSome=U) (cs:aT) (hg:Good enc P w base spare held t cs):∃l,RL β Z w l cs/\okL 0 l/\shp P m t l:=by
 obtain ⟨ty,hty⟩:=VX.1 ht;obtain ⟨d,h1,h2⟩:=iJ (β:=β) hZ m t ty hs hty cs hg;exact ⟨encL ty d,h1,encL_ok 0 ty d,ty,d,hty,rfl,h2⟩
end Go.Sx
namespace Go.Sx
open Go Go.RowKit Go.Proofs.YtcdkianomnhhmaaGreatDoor Go.ChangeShapes Go.WideShapes
variable {H : Type} {enc : TypeId × Value -> H} {P : Program} {β : Nat -> Loc} {Z : Nat -> Prop}
def aeW (hl:laidOutB P=U) {W W':aO}(hb:Below W.heap.size W W'):∀(ts:bw) (vs:aT) (ds:List<|DataW H) (ps:aKI),ts.all (λt=>P.readableRec t&&an (t<P.types.size))=U->
  DataW.TrodAll enc P W 0 (λ_=>U) U ts vs ds ps->(∀x∈ps,x.block<W.heap.size)->DataW.TrodAll enc P W' 0 (λb=>an<|b<W.heap.size) U ts vs ds ps
 | [],vs,ds,ps,_,h,_=>by
  cases vs<;>cases ds<;>first|exact h|exact h.elim
 | t::ts,vs,ds,ps,hr,h,hlt=>by
  cases vs with
  |nil=>cases ds<;>exact h.elim
  | cons v vs=>
   cases ds with
   |nil=>exact h.elim
   |cons d ds=>
    obtain ⟨p,q,h1,h2,rfl⟩:=h;simp only [Gm,AP,AT] at hr;refine ⟨p,q,Below.trod hl hr.1.1 hr.1.2 h1 hb λx hx=>hlt x A8,?_,rfl⟩
    exact aeW hl hb ts vs ds q A8 h2 λx hx=>hlt x A8
def agU {fn:aKG}{s:ChangeSpec}{tb:aS}{apart:aM}{W W':aO}{args:aW}{ds gs:List<|DataW H}{before:aKI}
  (hl:laidOutB P=U) (hr:fn.params.toList.all (λt=>P.readableRec t&&an (t<P.types.size))=U) (hres:fn.resultTypes=#[tb]) (hb:P.underlying tb=ah .bool) (hvars:s.vars=[])
  (hfn:(s.fn H ds).results=[.lit<|.bool U]/\(s.fn H ds).args=ds/\(s.fn H ds).vars=[])
  (hW:DataW.Whole enc P fn.params.toList s.vars apart W args.toList ds gs before) (hB:Below W.heap.size W W'):s.post enc P fn apart U X X W args (.bool U) W':=by
 have hW':=hW
 obtain ⟨p,q,hA,hV,rfl,hfz,hnd⟩:=hW
 have hg:gs=[]/\q=[]:=by
  rw [hvars] at hV;cases gs with
  |nil=>exact ⟨rfl,hV⟩
  |cons g r=>exact hV.elim
 obtain ⟨rfl,rfl⟩:=hg
 have hlt:∀x∈p,x.block<W.heap.size:=λx hx=>hW'.lt x A8
 refine ⟨ds,[],p++[],[],p,[],hW',?_,?_,?_,hB.frame _,λh=>Ai⟩
 ·rw [Ec,hfn.1,hres]
  exact trodAll_mk1<|shut_bool hb U
 ·rw [Ec,hfn.2.1]
  exact aeW hl hB _ _ _ _ hr hA hlt
 ·rw [Ec,hfn.2.2,hvars]
  rfl
def pLV (P:aR) (t:aS) (l:aD):LV:=
 match P.underlying t with
 |some (.struct _)=>mkAgg l
 |some (.array _ _)=> .junk
 |_=>match l with
  | [x]=>x
  |_=> .junk
def cell_of {w:aO}{b0:aC}{r:Reach}{m:aC}{t:aS}(hs:KM P m t=U) {v:aV}(hv:Value.okWide P w r b0 t v) (h1:∀fs,P.underlying t=ah (.struct fs)->False) (h2:∀n e,P.underlying t=ah (.array n e)->False):v.cells.toList=[v]:=by
 cases m with
 |zero=>cases hs
 | succ m=>
  simp only [KM] at hs;split at hs
  ·rename_i k hu
   obtain ⟨n,rfl⟩:=okWide_int hu hv;rfl
  ·rename_i hu
   obtain ⟨n,rfl⟩:=okWide_bool hu hv;rfl
  ·rename_i hu
   obtain ⟨n,rfl⟩:=okWide_string hu hv;rfl
  ·rename_i fs hu
   grind
  ·rename_i n e hu
   grind
  ·rename_i e hu
   obtain ⟨a,l,c,rfl⟩:=okWide_slice hu hv;rfl
  ·cases hs
def afN {w:aO}{base b0:aC}{spare:aC->aM}{held:aM}{r:Reach}(hZ:∀b,b<w.heap.size->Z b) {m:aC}{t:aS}(hs:KM P m t=U) (ht:(tyOf P m t).isSome=U) {v:aV}{d:DataW H}{p:aKI}(hv:Value.okWide P w r b0 t v) (h:DataW.Trod enc P w base spare held t v d p) (hwt:∀k,k∈d.weights P t->k<=reachBytes):
  ∃l,okV 0 (pLV P t l)/\R β Z w (pLV P t l) v/\shp P m t l:=by
 obtain ⟨fuel,hf⟩:=h;obtain ⟨l,h1,h2,h3⟩:=agN (β:=β) hZ m t hs ht v.cells.toList ⟨fuel,_,hf,hwt⟩;refine ⟨l,?_,?_,h3⟩
 ·unfold pLV
  split
  ·exact mkAgg_ok h2
  ·trivial
  ·split
   ·exact h2.1
   ·trivial
 ·unfold pLV
  split
  ·rename_i fs hu
   obtain ⟨cs,rfl,_⟩:=okWide_struct hu hv;exact mkAgg_R h1
  ·exact D9
  ·split
   ·rename_i x
    obtain ⟨y,zs,e1,e2,rfl⟩:=h1
    have hc:=cell_of hs hv A8 A8
    grind
   ·exact D9
def Nz (P:aR):bw->aKZ->List LV
 |t::ts,l::ls=>pLV P t l::Nz P ts ls
 |_,_=>[]
def XJ (P:aR) (m:aC):bw->aKZ->Prop
 | [],ls=>ls=[]
 |t::ts,ls=>∃l r,ls=l::r/\shp P m t l/\XJ P m ts r
def aee {w:aO}{base b0:aC}{spare:aC->aM}{held:aM}{r:Reach}(hZ:∀b,b<w.heap.size->Z b) {m:aC}:∀(ts:bw) (vs:aT) (ds:List<|DataW H) (ps:aKI),ts.all (λt=>KM P m t&&(tyOf P m t).isSome)=U->
  (∀(j:aC) t v,ts[j]? =ah t->vs[j]? =ah v->Value.okWide P w r b0 t v)->DataW.TrodAll enc P w base spare held ts vs ds ps->(∀k,k∈DataW.weightsEach P ts ds->k<=reachBytes)->∃ls,okL 0 (Nz P ts ls)/\RL β Z w (Nz P ts ls) vs/\XJ P m ts ls
 | [],vs,ds,ps,_,_,h,_=>by
  cases vs with
  |nil=>exact ⟨[],ak,by simp [Nz,RL],rfl⟩
  |cons _ _=>cases ds<;>exact h.elim
 | t::ts,vs,ds,ps,hs,hv,h,hwt=>by
  cases vs with
  |nil=>cases ds<;>exact h.elim
  | cons v vs=>
   cases ds with
   |nil=>exact h.elim
   |cons d ds=>
    obtain ⟨p,q,h1,h2,rfl⟩:=h;simp only [Gm,AP] at hs;simp only [DataW.weightsEach,BC] at hwt;obtain ⟨l,a1,a2,a3⟩:=afN (β:=β) hZ hs.1.1 hs.1.2 (hv 0 t v rfl rfl) h1 λk hk=>hwt k<|.inl hk
    obtain ⟨ls,b1,b2,b3⟩:=aee hZ ts vs ds q hs.2 (λj t' v' e1 e2=>hv (j+1) t' v' A8 A8) h2 λk hk=>hwt k<|.inr hk
    exact ⟨l::ls,⟨a1,b1⟩,⟨v,vs,rfl,a2,b2⟩,l,ls,rfl,a3,b3⟩
def afG {G:bf}{f:bn}{fn:aKG}{S:aD->T LV}{s:ChangeSpec}{tb:aS}{apart:aM}{m:aC}{W:aO}{base:aC}{args:aW}{ds gs:List<|DataW H}{before:aKI}
  (hv:Valid P G f S) (hl:laidOutB P=U) (hr:fn.params.toList.all (λt=>P.readableRec t&&an (t<P.types.size))=U) (hres:fn.resultTypes=#[tb]) (hb:P.underlying tb=ah .bool) (hvars:s.vars=[])
  (hfn:(s.fn H ds).results=[.lit<|.bool U]/\(s.fn H ds).args=ds/\(s.fn H ds).vars=[]) (hs:fn.params.toList.all (λt=>KM P m t&&(tyOf P m t).isSome)=U)
  (hS:∀ls,XJ P m fn.params.toList ls->(S<|Nz P fn.params.toList ls).all (λx=>x=.v (.bool U)))
  (hg:GlOk G (λb=>b<W.heap.size) W)
  (hval:∀(j:aC) t v,fn.params[j]? =ah t->args[j]? =ah v->Value.okWide P W .any base t v)
  (hW:DataW.Whole enc P fn.params.toList s.vars apart W args.toList ds gs before) {us:bw} (hz:(DataW.weightsEach P (fn.params.toList++us)<|ds++gs).all (·<=reachBytes)=U):
  Calls P f args W λe W'=>∃v,e=.returned v/\s.post enc P fn apart U X X W args v W':=by
 have hA:∃p,DataW.TrodAll enc P W 0 (λ_=>U) U fn.params.toList args.toList ds p:=by
  obtain ⟨p,q,hA,_⟩:=hW
  grind
 obtain ⟨p,hA⟩:=hA;obtain ⟨ls,h1,h2,h3⟩:=aee (β:=β0) (Z:=λb=>b<W.heap.size) (λ_ h=>h) fn.params.toList args.toList ds p hs (λj t v e1 e2=>hval j t v A8 A8) hA λk hk=>CW<|B9.1 hz k<|aer (aed hA) k hk
 refine (hv _ args W _ _ (λ_ h=>h) hg h1 h2<|hS ls h3).mono λe W' ⟨hB,v,he,_,hR⟩=>⟨v,he,?_⟩
 rw [hR];exact agU hl hr hres hb hvars hfn hW hB
end Go.Sx
namespace Go.Sx
open Go Go.RowKit Go.Proofs.YtcdkianomnhhmaaGreatDoor
variable {H : Type} {enc : TypeId × Value -> H} {P : Program} {w : World} {base : Nat} {spare : Nat -> Bool} {held : Bool}
def Mf {H:Type}:aC->DataW H->List Value
 |0,_=>[]
 |_+1,.lit (.int k n)=>[ag k n]
 |_+1,.lit (.bool b)=>[.bool b]
 |m+1,.agg l=>l.flatMap (Mf m)
 |_,_=>[]
def SU (P:aR):aC->aS->Bool
 |0,_=>X
 |m+1,t=>match P.underlying t with
  |some (.int _) |some .bool=>U
  |some (.struct fs)=>S4 P 0 fs.toList&&an (P.cellsOf t=((fs.toList.map (·.type)).map P.cellsOf).sum)&&fs.toList.all (λf=>SU P m f.type)
  |some (.array n e)=>an (P.cellsOf t=((aq n e).map P.cellsOf).sum)&&SU P m e
  |_=>X
def wq {sz:aS->aC}{g:DataW H->aT}{Tr:aS->aT->DataW H->Prop}:∀(ts:bw) (cs:aT) (ds:List<|DataW H),
  (∀t∈ts,∀c d,Tr t c d->g d=c)->M ds=M ts->M cs=(ts.map sz).sum->(∀pre t post,ts=pre++t::post->∃d,ds[M pre]? =ah d/\Tr t ((cs.drop (pre.map sz).sum).take<|sz t) d)->ds.flatMap g=cs
 | [],cs,ds,_,h0,hl,_=>by
  grind
 |t::ts,cs,[],_,h0,_,_=>A8
 | t::ts,cs,d::ds,ih,h0,hl,hg=>by
  obtain ⟨d',e1,e2⟩:=hg [] t ts rfl
  simp at e1
  subst e1
  have r:=wq (sz:=sz) (g:=g) (Tr:=Tr) ts (cs.drop<|sz t) ds (λt' ht=>ih t' A8) A8 A8 (λpre t' post e=>by
   obtain ⟨q,q1,q2⟩:=hg (t::pre) t' post A8;refine ⟨q,A8,?_⟩
   simpa using q2)
  rw [cP,r,ih t AG _ _ e2]
  simp
def il:∀(m:aC) (t:aS),SU P m t=U->∀(n:aC) (cs:aT) (x:DataW H×List MemPlace),DataW.trod enc P w base spare held n t cs=ah x->Mf m x.1=cs
 |0,t,h,_,_,_,_=>Ai
 | m +1,t,h,n,cs,x,hx=>by
  simp only [SU] at h;split at h
  ·rename_i k hu
   obtain ⟨z,rfl,rfl,hw⟩:=DataW.trod_int hu hx;rfl
  ·rename_i hu
   obtain ⟨z,rfl,rfl⟩:=DataW.trod_bool hu hx;rfl
  ·rename_i fs hu
   simp only [AP,AT,B9] at h;obtain ⟨⟨h1,h2⟩,h3⟩:=h;obtain ⟨xs,n',_,rfl,hl,hxl,hf⟩:=DataW.trod_struct hu hx;simp only [Mf];refine wq (sz:=P.cellsOf) (Tr:=λt c d=>∃y,DataW.trod enc P w base spare held n' t c=ah y/\y.1=d) (fs.toList.map (·.type)) cs _ (λt' ht c d hc=>?_) (by simp [hxl]) eK λpre t' post e=>?_
   ·obtain ⟨f,hf1,rfl⟩:=EH.1 ht
    obtain ⟨y,hy,rfl⟩:=hc;exact il m f.type (h3 f hf1) n' c y hy
   ·obtain ⟨fpre,frest,e1,e2,e3⟩:=List.map_eq_append_iff.1 e
    obtain ⟨f,fpost,rfl,e4,e5⟩:=List.map_eq_cons_iff.1 e3
    have ho:=iy fs.toList 0 h1 fpre f fpost e1
    have hi:fs[M fpre]? =ah f:=by
     exact aIE
    have hg:=hf _ f hi
    have hlt:M fpre<fs.size:=(GW.1 hi).1
    refine ⟨(xs[M fpre]' A0).1,?_,xs[M fpre]' A0,?_,rfl⟩
    ·grind
    ·grind
  ·rename_i n0 e hu
   simp only [AP,AT] at h;obtain ⟨h2,h3⟩:=h;obtain ⟨xs,n',_,rfl,hl,hxl,hf⟩:=DataW.trod_array hu hx;simp only [Mf];refine wq (sz:=P.cellsOf) (Tr:=λt c d=>∃y,DataW.trod enc P w base spare held n' t c=ah y/\y.1=d) (aq n0 e) cs _ (λt' ht c d hc=>?_) (by simp [hxl]) eK λpre t' post e'=>?_
   ·rw [(Qr.1 ht).2] at hc
    obtain ⟨y,hy,rfl⟩:=hc;exact il m e h3 n' c y hy
   ·obtain ⟨c1,c2,c3⟩:=aGt.1 e'
    have ht':t'=e:=by
     grind
    have hlen:M pre<n0:=by
     have:=An M e'
     simp at this;omega
    have hs:(pre.map P.cellsOf).sum=M pre*P.cellsOf e:=by rw [c2];simp
    refine ⟨(xs[M pre]' A0).1,?_,xs[M pre]' A0,?_,rfl⟩
    ·grind
    ·grind
  ·cases h
def azx {W:aO}{name:String}{d:DataW Unit}{rest:aKR}{g:aC}{t:aS}{m:aC}(hg:P.globalNamed name=ah g) (hty:(P.globals[g]?).map (·.type)=ah t) (hp:SU P m t=U)
  (h:laidMet P ((name,d)::rest) W):(∀i,W.cell? ⟨g,i,aj⟩=(Mf m d)[i]?)/\((Mf m d)≠ []->g<W.heap.size):=by
 obtain ⟨ps,⟨g',t',cs,fuel,p,q,hg',ht',hvar,hd,_,_⟩,_⟩:=h;obtain rfl:=Dd<|hg.symm.trans hg';obtain rfl:=Dd<|hty.symm.trans ht'
 have hf:=il m t hp fuel _ _ hd
 have hcell:∀i,W.cell? ⟨g,i,aj⟩=(Mf m d)[i]? :=λi=>by
  rw [World.var?_cell hg hvar i,hf];simp
 refine ⟨hcell,λhne=>?_⟩
 have h0:=hcell 0
 cases hh:(Mf m d)[0]? with
 |none=>exact absurd (List.getElem?_eq_none_iff.1 hh) A8
 |some z=>
  rw [hh] at h0;unfold World.cell? at h0;split at h0
  ·grind
  ·cases h0
end Go.Sx
namespace Go.Proofs.YtcdkianomnhhmaaGreatDoor
set_option maxRecDepth 100000
set_option maxHeartbeats 4000000
open Go.Proofs.Tryz
open Go.Sx Go.ChangeShapes Go.WideShapes Go.ChangeAt Go.RowKit
def own:ownKnob prog.godebug=none:=AO
def laidOut:laidOutB prog=true:=AO
def wD {P:aR}{x:String×DataW Unit}{r:aKR}{W:aO}(h:laidMet P (x::r) W):laidMet P r W:=by
 obtain ⟨n,d⟩:=x;obtain ⟨ps,⟨g,t,cs,fuel,p,q,h1,h2,h3,h4,h5,rfl⟩,hn,hm⟩:=h;exact ⟨q,h5,(rS.1 hn).2.1,λb off hb=>hm b off<|List.mem_append_right _ hb⟩
def mU {W:aO}{name:String}{d:DataW Unit}{rest:aKR}{g:aC}{t:aS}{n:aC}{f:aC->aV}(hg:prog.globalNamed name=ah g) (hty:(prog.globals[g]?).map (·.type)=ah t) (hp:SU prog 4 t=U) (h:laidMet prog ((name,d)::rest) W) (key:Mf 4 d=(au<|n+1).map f):g<W.heap.size/\∀j,j<n+1->W.cell? ⟨g,j,aj⟩=ah (f j):=by
 obtain ⟨h1,h2⟩:=azx (m:=4) hg hty hp h;refine ⟨h2 (by rw [key];intro h0;exact absurd (An M h0) AG),λj hj=>?_⟩
 rw [h1 j,key,Cy,rL hj];rfl
def agu {W:aO}(h:laidMetH prog [("chargepark/charger.afterwards",Rows.laid_chargepark_charger_afterwards),("chargepark/ramp.happens",Rows.laid_chargepark_ramp_happens),("chargepark/vault.widths",Rows.laid_chargepark_vault_widths)] W):GlOk AM (λb=>b<W.heap.size) W:=by
 have h:laidMet prog [("chargepark/charger.afterwards",Rows.laid_chargepark_charger_afterwards),("chargepark/ramp.happens",Rows.laid_chargepark_ramp_happens),("chargepark/vault.widths",Rows.laid_chargepark_vault_widths)] W:=h
 have a1:=mU (t:=269) (n:=59) (f:=λj=> ag J<|SV j) (g:=1) AO AO AO h AO
 have a2:=mU (t:=311) (n:=7) (f:=λj=> ag J<|QX j) (g:=2) AO AO AO (wD h) AO
 have a3:=mU (t:=163) (n:=4) (f:=λj=> ag J<|v5 j) (g:=0) AO AO AO (wD<|wD h) AO
 intro g n f hg;unfold AM at hg;split at hg
 ·cases hg;exact a2
 ·cases hg;exact a1
 ·cases hg;exact a3
 ·cases hg
def aev {H:Type}{enc:TypeId×Value->H}{P:aR}{w:aO}{base:aC}{spare:aC->aM}{held:aM}:∀ {ts:bw}{vs:aT}{ds:List<|DataW H}{ps:aKI},DataW.TrodAll enc P w base spare held ts vs ds ps->M ds=M ts
 | [],[],[],_,_=>rfl
 | [],_::_,_,_,h=>Ai
 | [],[],_::_,_,h=>Ai
 |_::_,[],_,_,h=>Ai
 |_::_,_::_,[],_,h=>Ai
 |_::_,_::_,_::_,_,h=>by
  obtain ⟨_,_,_,h2,_⟩:=h
  simp [aev h2]
def put (vs:aW):Obj->Obj
 | .cells _ t frozen=> .cells vs t frozen
 |o=>o
def laidWorld (os:Os):aO:=
 {World.holding prog os ⟨#[],#[],[]⟩ with heap:=(((World.holding prog os ⟨#[],#[],[]⟩).heap.modify 2<|put ((au 8).map λj=> ag J<|QX j).toArray).modify 1<|put ((au 60).map λj=> ag J<|SV j).toArray).modify 0<|put ((au 5).map λj=> ag J<|v5 j).toArray}
end Go.Proofs.YtcdkianomnhhmaaGreatDoor
end
