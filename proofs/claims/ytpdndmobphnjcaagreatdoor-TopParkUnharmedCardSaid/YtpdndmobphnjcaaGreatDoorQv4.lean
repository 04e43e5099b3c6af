/- Helpers for TopParkUnharmed:. Conditions: none. -/
import Derived.Test.YtpdndmobphnjcaaGreatDoorQv3
set_option linter.defProp false
set_option linter.unusedVariables false
set_option linter.unusedSimpArgs false
noncomputable section
open List renaming length→M,length→aa,replicate→aq,range→au
open Bool renaming true→U,true→ae,false→X,false→af
open Go.Value renaming int→ag
open Option renaming some→ah,none→aj
open Go.IntKind renaming i64→J,i64→ai,u8→aw,u32→ax
open True renaming intro→ak
open Decidable renaming decide→an
open ByteArray renaming mk→av
open Go.Region renaming ready→ay,wanted→az
open Go.Instr renaming findNow→aA
namespace Go.Proofs.YtpdndmobphnjcaaGreatDoor
set_option maxRecDepth 100000
set_option maxHeartbeats 4000000
open Go.Proofs.Tryz
open Go.Sx
def aEZ (cs:aJ) (os:aE) (ks:aP) (gs:aF) (bs:aQ) (al mo od:aB):PT:=letI a:=J4<|NK cs os ks gs bs al mo od;letI b:=J7<|LZ cs os ks gs bs al mo od;(⟨gs,(M gs:Y),0,cs,os,ks,gs,bs,Jy cs os ks gs bs,(a.CP.drop 0).take<|M a.CP,(a.CO.drop 0).take<|M a.CO,(a.CN.drop 0).take<|M a.CN,(a.CM.drop 0).take<|M a.CM,(a.CL.drop 0).take<|M a.CL,(a.CK.drop 0).take<|M a.CK,(a.CJ.drop 0).take<|M a.CJ,(a.CI.drop 0).take<|M a.CI,(a.CR.drop 0).take<|M a.CR,(a.CQ.drop 0).take<|M a.CQ,(a.CG.drop 0).take<|M a.CG,(a.CF.drop 0).take<|M a.CF,(a.CE.drop 0).take<|M a.CE,(a.CD.drop 0).take<|M a.CD,(a.CC.drop 0).take<|M a.CC,(a.CB.drop 0).take<|M a.CB,al,aq (M gs:Y).toNat (0:Y),b.sums,b.levels⟩:PT)
def aCo:aN:=[XA,XO,XN,XP]
def aoA:Ax:=kI aCo<|la 8 func206 ux<|la 2 func202 gG<|la 3 func204 fT<|la 2 func202 Wn<|l0 aCo
def aRD:=vm (S:=aM1) func166 aCo aoA (L:=(λi=>if i=11 then Pd.lp else if i=21 then O9.lp else Ao i)) (λb hb=>by
 rw [show BC _=[tL,aIf] by kernel_rfl] at hb
 simp only [B6,Bv,Bt] at hb;rcases hb with rfl|rfl
 ·exact asn
 ·exact asl) (λargs lv h=>by
 unfold aM1 at h;split at h
 case h_2=>cases h
 replace h:=Ij h
 obtain ⟨cs,os,ks,gs,bs,rfl,h⟩:=h;split at h
 ·rename_i al mo od
  refine Aq (letI b:=aEZ cs os ks gs bs al mo od;letI d:=(M (Jy cs os ks gs bs):Y);letI g:=LZ cs os ks gs bs al mo od;letI j:=(M gs:Y);letI l:=(M al:Y);letI n:=((Qd b).out.drop 0).take<|M (Qd b).out;letI o:=NK cs os ks gs bs al mo od;letI s:=(aq d.toNat (0:Y));letI t:=(aq j.toNat (0:Y));letI u:=(M mo:Y);letI w:=(Bj (fR (⟨X,mo,u,0,cs,os,ks,gs,bs⟩:JK))<|.ret);letI x:=(U7.q (⟨X,mo,u,0,cs,os,ks,gs,bs⟩:JK));letI y:=(fK (⟨X,mo,u,0,cs,os,ks,gs,bs⟩:JK));letI z:=j<=1000;letI a:=J4 o;letI f:=(aq l.toNat (0:Y));.br ((OT cs os ks gs bs) !=0) (.ok<|.AQ [.xl A7 ([]:aB),(1:Y)])<|.br (l !=j) (.ok<|.AQ [.xl A7 ([]:aB),(1:Y)])<|.br (u !=j) (.ok<|.AQ [.xl A7 ([]:aB),(1:Y)])<|.req (U7.q (⟨X,al,l,0,cs,os,ks,gs,bs⟩:JK))<|.br (Bj (fR (⟨X,al,l,0,cs,os,ks,gs,bs⟩:JK))<|.ret) (.br (!(fK (⟨X,al,l,0,cs,os,ks,gs,bs⟩:JK)).r) (.ok<|.AQ [.xl A7 ([]:aB),(1:Y)])<|.req x<|.br w (.br (! y.r) (.ok<|.AQ [.xl A7 ([]:aB),(1:Y)])<|.req z<|.br (!(H4 od j)) (.ok<|.AQ [.xl A7 ([]:aB),(1:Y)])<|.rm 8 d<|.rm 8 l<|.r0 Int<|.r0 Int<|.r0 Int<|.r0 Int<|.r0 Int<|.r0 Int<|.r0 Int<|.r0 Int<|.r0 Int<|.r0 Int<|.r0 Int<|.r0 Int<|.r0 Int<|.r0 Int<|.r0 Int<|.r0 Int<|.re d.toNat s<|.re l.toNat f<|.req (Pe.q o)<|.rz a.CP<|.rz a.CO<|.rz a.CN<|.rz a.CM<|.rz a.CL<|.rz a.CK<|.rz a.CJ<|.rz a.CI<|.rz a.CR<|.rz a.CQ<|.rz a.CG<|.rz a.CF<|.rz a.CE<|.rz a.CD<|.rz a.CC<|.rz a.CB<|.rl a.sums<|.rl f<|.req (Pd.q g)<|.rm 8 j<|.re j.toNat t<|.rl (J7 g).sums<|.rl (J7 g).levels<|.req (O9.q b)<|.rz (Qd b).out<|.ok<|.AQ [.xl A7 n,(0:Y)])<|.br (!U) (.ok<|.AQ [.xl A7 ([]:aB),(1:Y)])<|.req z<|.br (!(H4 od j)) (.ok<|.AQ [.xl A7 ([]:aB),(1:Y)])<|.rm 8 d<|.rm 8 l<|.r0 Int<|.r0 Int<|.r0 Int<|.r0 Int<|.r0 Int<|.r0 Int<|.r0 Int<|.r0 Int<|.r0 Int<|.r0 Int<|.r0 Int<|.r0 Int<|.r0 Int<|.r0 Int<|.r0 Int<|.r0 Int<|.re d.toNat s<|.re l.toNat f<|.req (Pe.q o)<|.rz a.CP<|.rz a.CO<|.rz a.CN<|.rz a.CM<|.rz a.CL<|.rz a.CK<|.rz a.CJ<|.rz a.CI<|.rz a.CR<|.rz a.CQ<|.rz a.CG<|.rz a.CF<|.rz a.CE<|.rz a.CD<|.rz a.CC<|.rz a.CB<|.rl a.sums<|.rl f<|.req (Pd.q g)<|.rm 8 j<|.re j.toNat t<|.rl (J7 g).sums<|.rl (J7 g).levels<|.req (O9.q b)<|.rz (Qd b).out<|.ok<|.AQ [.xl A7 n,(0:Y)])<|.br (!U) (.ok<|.AQ [.xl A7 ([]:aB),(1:Y)])<|.req x<|.br w (.br (! y.r) (.ok<|.AQ [.xl A7 ([]:aB),(1:Y)])<|.req z<|.br (!(H4 od j)) (.ok<|.AQ [.xl A7 ([]:aB),(1:Y)])<|.rm 8 d<|.rm 8 l<|.r0 Int<|.r0 Int<|.r0 Int<|.r0 Int<|.r0 Int<|.r0 Int<|.r0 Int<|.r0 Int<|.r0 Int<|.r0 Int<|.r0 Int<|.r0 Int<|.r0 Int<|.r0 Int<|.r0 Int<|.r0 Int<|.re d.toNat s<|.re l.toNat f<|.req (Pe.q o)<|.rz a.CP<|.rz a.CO<|.rz a.CN<|.rz a.CM<|.rz a.CL<|.rz a.CK<|.rz a.CJ<|.rz a.CI<|.rz a.CR<|.rz a.CQ<|.rz a.CG<|.rz a.CF<|.rz a.CE<|.rz a.CD<|.rz a.CC<|.rz a.CB<|.rl a.sums<|.rl f<|.req (Pd.q g)<|.rm 8 j<|.re j.toNat t<|.rl (J7 g).sums<|.rl (J7 g).levels<|.req (O9.q b)<|.rz (Qd b).out<|.ok<|.AQ [.xl A7 n,(0:Y)])<|.br (!U) (.ok<|.AQ [.xl A7 ([]:aB),(1:Y)])<|.req z<|.br (!(H4 od j)) (.ok<|.AQ [.xl A7 ([]:aB),(1:Y)])<|.rm 8 d<|.rm 8 l<|.r0 Int<|.r0 Int<|.r0 Int<|.r0 Int<|.r0 Int<|.r0 Int<|.r0 Int<|.r0 Int<|.r0 Int<|.r0 Int<|.r0 Int<|.r0 Int<|.r0 Int<|.r0 Int<|.r0 Int<|.r0 Int<|.re d.toNat s<|.re l.toNat f<|.req (Pe.q o)<|.rz a.CP<|.rz a.CO<|.rz a.CN<|.rz a.CM<|.rz a.CL<|.rz a.CK<|.rz a.CJ<|.rz a.CI<|.rz a.CR<|.rz a.CQ<|.rz a.CG<|.rz a.CF<|.rz a.CE<|.rz a.CD<|.rz a.CC<|.rz a.CB<|.rl a.sums<|.rl f<|.req (Pd.q g)<|.rm 8 j<|.re j.toNat t<|.rl (J7 g).sums<|.rl (J7 g).levels<|.req (O9.q b)<|.rz (Qd b).out<|.ok<|.AQ [.xl A7 n,(0:Y)]) ?_;obtain rfl:=h
  have err:G1 cs os ks gs bs al mo od=X->LV.AQ [.xl A7 ([]:aB),.v<|ag J 1]=LV.AQ [.xl A7<|Fe cs os ks gs bs al mo od,.v<|ag J<|shE cs os ks gs bs al mo od]:=λh=>by
   unfold Fe shE;rw [h];rfl
  have no_:∀ {p:Prop},¬p->(G1 cs os ks gs bs al mo od=U->p)->G1 cs os ks gs bs al mo od=false:=λh1 h2=>by
   rw [IX];exact λh=>h1<|h2 h
  refine ⟨λc=>err<|no_ (p:=B9 cs os ks gs bs=U) (λh=>?_) λh=>(Lc.1 h).1,λc=>?_⟩
  ·unfold OT at c
   rw [h] at c
   simp at c
  have hv:B9 cs os ks gs bs=true:=by
   cases e:B9 cs os ks gs bs with
   |true=>rfl
   |false=>unfold OT at c;rw [e] at c;simp at c
  have hl:=(Cz.1 hv).1
  refine ⟨λc2=>err<|no_ (p:=M al=M gs) (by simp at c2;omega) λh=>(Lc.1 h).2.1,λc2=>?_⟩
  refine ⟨λc3=>err<|no_ (p:=M mo=M gs) oL λh=>(Lc.1 h).2.2.1,λc3=>?_⟩
  have c2:M al=M gs:=by simp at c2;omega
  have c3:M mo=M gs:=oL
  refine L4 ⟨⟨rfl,Aa,Aa,rfl⟩,rfl,rfl⟩ λhE1=>?_
  rcases aLB _ hE1.1 with ⟨q1,q2⟩ |⟨q1,q2,q3⟩
  rotate_left
  ·rw [q1,q2]
   refine ⟨λ_=>⟨λ_=>err<|no_ (p:=al.all ID=U) (by have q3:al.all ID=false:=q3;rw [q3];simp) λh=>(Lc.1 h).2.2.2.1,λh=>As⟩,λh=>As⟩
  rw [q1];refine ⟨λh=>As,λ_=>⟨λh=>As,λ_=>?_⟩⟩
  have q2:al.all ID=true:=q2
  refine L4 ⟨⟨rfl,Aa,Aa,rfl⟩,rfl,rfl⟩ λhE2=>?_
  rcases aLB _ hE2.1 with ⟨p1,p2⟩ |⟨p1,p2,p3⟩
  rotate_left
  ·rw [p1,p2]
   refine ⟨λ_=>⟨λ_=>err<|no_ (p:=mo.all ID=U) (by have p3:mo.all ID=false:=p3;rw [p3];simp) λh=>(Lc.1 h).2.2.2.2.1,λh=>As⟩,λh=>As⟩
  rw [p1];refine ⟨λh=>As,λ_=>⟨λh=>As,λ_=>?_⟩⟩
  have p2:mo.all ID=true:=p2
  refine ⟨A0,λc4=>err<|no_ (p:=H4 od (M gs:Y)=U) (by simp at c4;rw [c4];simp) λh=>(Lc.1 h).2.2.2.2.2,λc4=>?_⟩
  have c4:H4 od (M gs:Y)=true:=aAr
  have hok:G1 cs os ks gs bs al mo od=true:=Lc.2 ⟨hv,c2,c3,q2,p2,c4⟩
  obtain ⟨hT,hS⟩:=amJ hok
  have er:Jy cs os ks gs bs=D3 cs gs (M cs):=by unfold Jy;rw [AD hv]
  have hrl:=rU (cs:=cs) (gs:=gs) (k:=M cs)
  have hod:M od=M gs:=by
   unfold H4 at c4;simp only [AY,Ac] at c4;omega
  have hrn:(M (Jy cs os ks gs bs):Y)<=1000:=by rw [er];omega
  refine ⟨A0,A0,A9,A9,A9,A9,A9,A9,A9,A9,A9,A9,A9,A9,A9,A9,A9,A9,⟨rfl,AJ⟩,⟨rfl,AJ⟩,?_⟩
  have hN:UZ (NK cs os ks gs bs al mo od):=by
   refine ⟨rfl,λo ho=>?_,rfl,rfl,hrn,λr hr=>?_,hT.al,by show M (aq _ _)=M (Jy cs os ks gs bs);simp⟩
   ·simpa [Fx,NK] using ho
   ·have hr:r∈D3 cs gs (M cs):=by rw [<-er];exact hr
    obtain ⟨m1,m2,m3,m4⟩:=row_mem hr;refine ⟨A0,λm hm=>?_⟩
    have:=m2 m hm
    show 0<=m/\m<16/\m<(M al:Y)
    omega
  obtain ⟨nr1,nr2⟩:=avC _ hN
  have nr1:Fx (J4<|NK cs os ks gs bs al mo od)=OL (D3 cs gs<|M cs):=by rw [nr1,<-er];rfl
  have nr2:(J4<|NK cs os ks gs bs al mo od).sums=SM al (D3 cs gs<|M cs):=by rw [nr2,<-er];rfl
  refine ⟨⟨hN,rfl,rfl⟩,A0,A0,A0,A0,A0,A0,A0,A0,A0,A0,A0,A0,A0,A0,A0,A0,A9,A9,?_⟩
  have eO:Ks (LZ cs os ks gs bs al mo od)=Fx (J4<|NK cs os ks gs bs al mo od):=by
   unfold Ks Fx LZ;simp only [CZ,El]
  have hSh:mX (LZ cs os ks gs bs al mo od):=by
   refine ⟨rfl,by show (M od:Y)<=1000;omega,rfl,?_,?_⟩
   ·show OkT (Ks<|LZ cs os ks gs bs al mo od) (Jy cs os ks gs bs) gs al mo od
    rw [eO,nr1,er];exact hT
   ·show OkS (Jy cs os ks gs bs) od (J4<|NK cs os ks gs bs al mo od).sums _
    rw [nr2,er];exact hS
  have sr:=atj _ hSh
  have sr:(J7<|LZ cs os ks gs bs al mo od).levels=shV (D3 cs gs<|M cs) gs al mo od:=by
   rw [sr]
   show shl (Ks<|LZ cs os ks gs bs al mo od) (Jy cs os ks gs bs) gs al mo od 81 1 (J4<|NK cs os ks gs bs al mo od).sums _=_
   rw [eO,nr1,nr2,er];rfl
  obtain ⟨sl,sb⟩:=aRd hT 81 1 _ _ A0 A0 hS;refine ⟨⟨hSh,rfl,rfl⟩,A0,⟨rfl,AJ⟩,A9,A9,?_⟩
  have hX:mW (aEZ cs os ks gs bs al mo od):=by
   refine ⟨rfl,rfl,⟨rfl,aPz,?_⟩,λk h0 h1=>?_,?_⟩
   ·show M (J7<|LZ cs os ks gs bs al mo od).levels=M gs
    rw [sr];exact sl.trans (by rw [CV];exact c2)
   ·have:=NU hv h0 h1
    unfold G7 chW at this;simp only [AY,B8] at this
    show Dv (AG gs k).2.2.2.1 (AG gs k).2.2.2.2.1 (AG gs k).2.2.2.2.2.1=U
    exact Ig.2 A0
   ·show ∀k:aC,0<=(J7<|LZ cs os ks gs bs al mo od).levels.getD k 0/\(J7<|LZ cs os ks gs bs al mo od).levels.getD k 0<=80
    rw [sr];exact sb
  refine ⟨⟨hX,rfl,rfl⟩,A0,?_⟩;obtain ⟨s',_,_,x2⟩:=ati _ hX
  have x2:(Qd<|aEZ cs os ks gs bs al mo od).out=FZ gs (J7<|LZ cs os ks gs bs al mo od).levels:=x2
  show LV.AQ [LV.xl _ _,_]=_
  rw [CZ,El,x2,sr];unfold Fe shE;rw [AD hok,AD hok]
 ·cases h)
structure PJ where
 m:aF
 (k i:Y)
 out:aB
def aIT:=bN f165 0
def aC9 (s:PJ):T (Rd PJ):=letI a:=s.out.set s.i.toNat (AG s.m s.i).2.2.2.2.2.2.1;.br (an<|s.i<s.k) (.ix s.i (M s.m)<|.ik s.i (M s.out)<|.re (M s.out) a<|.nx {s with i:=AA<|s.i+1,out:=a})<|.rl s.out<|.so (.exit 0) s
def ou (s:PJ):Prop:=s.i=0/\s.k=(M s.m:Y)/\s.k<=1000/\M s.out=M s.m/\(∀j,0<=j->j<s.k->gi s.out j=0)/\True
def Zc (s:PJ):Prop:=(0<=s.i/\s.i<=s.k)/\s.k=(M s.m:Y)/\s.k<=1000/\M s.out=M s.m/\(∀j,0<=j->j<s.k->gi s.out j=if j<s.i then Ce (AG s.m j) else 0)/\True
def wT (s:PJ):aC:=(s.k-s.i).toNat
def aDn (x:Ex) (s s':PJ):Prop:=x=.exit 0/\s'.out=HX (M s'.m) (λj=>Ce<|AG s'.m j)
def aor:∀s,ou s->Zc s:=by
 exact T2
def ajo:Da Zc wT aDn aC9:=by
 intro s hI;obtain ⟨⟨h0,h1⟩,h2,h3,h4,h5,h6⟩:=hI;refine AH (λc1=>?_) λc1=>?_
 ·have c1:s.i<s.k:=AX
  rw [AI (x:=s.i+1)];refine ⟨⟨⟨A8,A8⟩,h2,h3,A8,λj j0 j1=>?_,h6⟩,by simp only [wT];omega⟩
  simp only;rw [JC h0 A0 j0];exact nT
 ·exact cD
def Q7:AR PJ:=⟨0,31,[3,17,18,19],[],λs=>[.os 0 1 0<|M s.out,s.m,s.k,s.i],λs=>[bV 3 A7 s.out],λv b=>⟨B1 Af v 1,AL v 2,AL v 3,Ab A7 b 0⟩,aC9,λs r=> {r with m:=s.m,k:=s.k},λs=>s,λ_ s=>s,[.exit 0],ou,Zc,wT⟩
abbrev aFF:=Q7.run
abbrev awy:=Q7.At
def afd:Rq Zc aC9:=by
 exact zY
def aCn:aN:=[]
def aT4:Q7.Ok:={}
def aSQ:Q7.Pf (aDn):=⟨aor,λs h=>rfl,ajo,afd⟩
def auJ:SA 0 aIT Q7:=s1 aT4 aSQ aCn kN
def awM:Fi ou Zc aDn awy aFF:=AR.fin aT4 aSQ
def aLV:aD->T LV
 | [.xq 9 q0]=>(match ([q0 0,q0 1,q0 2,q0 3,q0 4,q0 5,q0 6,q0 7,q0 8]:aD) with
  | [.xl (.pair .str (.pair (.int J) (.pair (.int J) (.pair (.int J) (.pair (.pair (.int J) (.int J)) (.pair (.int J) (.pair (.int J) (.pair (.int J) (.pair (.int J) (.int J)))))))))) cs,.xl (.str) os,.xl (.pair .str (.pair (.int J) (.pair (.int J) (.int J)))) ks,.xl (.pair .str (.pair (.int J) (.pair (.int J) (.pair (.int J) (.pair (.int J) (.pair (.int J) (.pair (.int J) (.int J)))))))) gs,.xl (.pair .str (.int J)) bs,.xl (.pair (.int J) (.pair (.int J) (.pair (.int J) (.pair (.int J) (.int J))))) l,.xl (.pair .bool (.pair (.int J) (.pair (.int J) (.int J)))) d,.v (ag J t),.xl (.int J) od]=> .req ((M gs:Y)<=1000) (.ok<|.xl A7<|Bq gs)
  |_=> .no)
 |_=> .no
def aur (cs:aJ) (os:aE) (ks:aP) (gs:aF) (bs:aQ) (l:aL) (d:ba) (t:Y) (od:aB):letI c:=(M gs:Y);letI a:=(aq c.toNat (0:Y));letI b:=(aFF (⟨gs,c,(0:Y),a⟩:PJ));Bw prog AT (aCn) kN (λi=>if i=3 then Q7.lp else Ao i) f165 [xQ 9 [cs,os,ks,gs,bs,l,d,t,.xl A7 od]]=.rm 8 c (.re c.toNat a<|.req (Q7.q (⟨gs,c,(0:Y),a⟩:PJ))<|.rz b.out<|.ok<|.xl A7<|(b.out.drop 0).take<|M b.out):=AV
def ayt:=vm (S:=aLV) func165 aCn kN (L:=(λi=>if i=3 then Q7.lp else Ao i)) (λb hb=>by
 rw [show BC _=[aIT] by kernel_rfl] at hb
 simp only [B6,Bv,Bt] at hb;subst hb;exact auJ) (λargs lv h=>by
 refine ⟨?_⟩;unfold aLV at h;split at h
 ·split at h
  case h_2=>cases h
  rename_i heq0;simp only [canL,canX];rw [E7 (n:=9) heq0];simp only [canL,canX];rw [aur];rename_i cs os ks gs bs l d t od;obtain ⟨hn,rfl⟩:=h
  have hE:ou ⟨gs,(M gs:Y),0,aq (M gs:Y).toNat 0⟩:=⟨rfl,rfl,hn,AJ,λj _ _=>Jx,ak⟩
  obtain ⟨_,_,q1,q2⟩:=awM _ hE
  have q2:(aFF ⟨gs,(M gs:Y),0,aq (M gs:Y).toNat 0⟩).out=Bq gs:=q2
  refine ⟨A0,⟨rfl,AJ⟩,⟨hE,rfl,rfl⟩,A0,?_⟩
  show LV.xl _ _=_
  rw [CZ,El,q2]
 ·cases h)
structure P8 where
 cs:aJ
 os:aE
 ks:aP
 gs:aF
 bs:aQ
 l:aL
 d:ba
 t:Y
 od:aB
 m:aF
 (k i:Y)
 wanted:aB
def aIQ:=bN f164 0
def kE (s:P8):T (Rd P8):=letI a:=s.wanted.set s.i.toNat (AG s.m s.i).2.2.2.2.1;.br (an<|s.i<s.k) (.ix s.i (M s.m)<|.ix s.i (M s.d)<|.br (E8 s.d s.i).1 (.ik s.i (M s.wanted)<|.re (M s.wanted) a<|.nx {s with i:=AA<|s.i+1,wanted:=a})<|.rl s.wanted<|.nx {s with i:=AA<|s.i+1})<|.rl s.wanted<|.so (.exit 0) s
def lM (s:P8):Prop:=s.i=0/\s.k=(M s.m:Y)/\s.k<=1000/\M s.wanted=M s.m/\(∀j,0<=j->j<s.k->gi s.wanted j=0)/\M s.d=M s.m
def ZZ (s:P8):Prop:=(0<=s.i/\s.i<=s.k)/\s.k=(M s.m:Y)/\s.k<=1000/\M s.wanted=M s.m/\(∀j,0<=j->j<s.k->gi s.wanted j=if j<s.i then if (E8 s.d j).1=U then (AG s.m j).2.2.2.2.1 else 0 else 0)/\M s.d=M s.m
def j8 (s:P8):aC:=(s.k-s.i).toNat
def aDk (x:Ex) (s s':P8):Prop:=x=.exit 0/\s'.wanted=HX (M s'.m) (λj=>if (E8 s'.d j).1=U then (AG s'.m j).2.2.2.2.1 else 0)
def aoj:∀s,lM s->ZZ s:=by
 exact T2
def ajc:Da ZZ j8 aDk kE:=by
 intro s hI;unfold kE;obtain ⟨⟨h0,h1⟩,h2,h3,h4,h5,h6⟩:=hI;refine AH (λc1=>?_) λc1=>?_
 ·refine AH (λc2=>?_) (λc2=>?_)
  ·have c1:s.i<s.k:=AX
   rw [AI (x:=s.i+1)];refine ⟨⟨⟨Aa,Aa⟩,h2,h3,A8,λj j0 j1=>?_,h6⟩,by simp only [j8];omega⟩
   simp only;rw [JC h0 cY j0]
   by_cases e:j=s.i
   ·subst e
    grind
   ·exact zy
  ·have c1:s.i<s.k:=AX
   rw [AI (x:=s.i+1)];refine ⟨⟨⟨Aa,Aa⟩,h2,h3,h4,λj j0 j1=>?_,h6⟩,by simp only [j8];omega⟩
   simp only;rw [h5 j j0 j1]
   by_cases e:j=s.i
   ·subst e
    grind
   ·by_cases q:j<s.i
    ·omega
    ·omega
 ·have c1:s.k<=s.i:=AX
  exact zg
def Q5:AR P8:=⟨0,53,[0,4,18,19,20],[],λs=>[xQ 9 [s.cs,s.os,s.ks,s.gs,s.bs,s.l,s.d,s.t,.xl A7 s.od],.os 0 1 0<|M s.wanted,s.m,s.k,s.i],λs=>[bV 3 A7 s.wanted],λv b=>⟨Ar Ae<|BV (v.getD 0 .junk) 0,Ar .str<|BV (v.getD 0 .junk) 1,Ar Ak<|BV (v.getD 0 .junk) 2,Ar Af<|BV (v.getD 0 .junk) 3,Ar Al<|BV (v.getD 0 .junk) 4,Ar AO<|BV (v.getD 0 .junk) 5,Ar Ai<|BV (v.getD 0 .junk) 6,gI<|BV (v.getD 0 .junk) 7,Ar A7<|BV (v.getD 0 .junk) 8,B1 Af v 2,AL v 3,AL v 4,Ab A7 b 0⟩,kE,λs r=> {s with i:=r.i,wanted:=r.wanted},λs=>s,λ_ s=>s,[.exit 0],lM,ZZ,j8⟩
abbrev aEl:=Q5.run
abbrev aws:=Q5.At
def afW:Rq ZZ kE:=by
 intro s hI;refine ⟨λc1=>⟨?_,?_,λc2=>⟨?_,?_,?_,ak⟩,λc2=>⟨A9,ak⟩⟩,λc1=>⟨A9,ak⟩⟩
 all_goals ((obtain ⟨⟨h0,h1⟩,h2,h3,h4,h5,h6⟩:=hI;(try simp only [Ac] at c1);first|omega|exact ⟨rfl,AJ⟩ |(omega)))
def aCm:aN:=[ayt,aRD]
def aTY:Q5.Ok:={}
def aT0:Q5.Pf (aDk):=⟨aoj,λs h=>rfl,ajc,afW⟩
def auE:SA 0 aIQ Q5:=s1 aTY aT0 aCm kN
def awd:Fi lM ZZ aDk aws aEl:=AR.fin aTY aT0
def aLQ:aD->T LV
 | [.xq 9 q0]=>(match ([q0 0,q0 1,q0 2,q0 3,q0 4,q0 5,q0 6,q0 7,q0 8]:aD) with
  | [.xl (.pair .str (.pair (.int J) (.pair (.int J) (.pair (.int J) (.pair (.pair (.int J) (.int J)) (.pair (.int J) (.pair (.int J) (.pair (.int J) (.pair (.int J) (.int J)))))))))) cs,.xl (.str) os,.xl (.pair .str (.pair (.int J) (.pair (.int J) (.int J)))) ks,.xl (.pair .str (.pair (.int J) (.pair (.int J) (.pair (.int J) (.pair (.int J) (.pair (.int J) (.pair (.int J) (.int J)))))))) gs,.xl (.pair .str (.int J)) bs,.xl (.pair (.int J) (.pair (.int J) (.pair (.int J) (.pair (.int J) (.int J))))) l,.xl (.pair .bool (.pair (.int J) (.pair (.int J) (.int J)))) d,.v (ag J t),.xl (.int J) od]=> .req ((M gs:Y)<=1000/\M d=M gs) (.ok<|.AQ [.xl A7<|Fe cs os ks gs bs (Bq gs) (JL gs d) od,shE cs os ks gs bs (Bq gs) (JL gs d) od])
  |_=> .no)
 |_=> .no
def auo (cs:aJ) (os:aE) (ks:aP) (gs:aF) (bs:aQ) (l:aL) (d:ba) (t:Y) (od:aB):letI b:=(M gs:Y);letI c:=(aq b.toNat (0:Y));letI a:=(aEl (⟨cs,os,ks,gs,bs,l,d,t,od,gs,b,(0:Y),c⟩:P8));letI e:=(a.wanted.drop 0).take<|M a.wanted;Bw prog AT (aCm) kN (λi=>if i=3 then Q5.lp else Ao i) f164 [xQ 9 [cs,os,ks,gs,bs,l,d,t,.xl A7 od]]=.rm 8 b (.re b.toNat c<|.req (Q5.q (⟨cs,os,ks,gs,bs,l,d,t,od,gs,b,(0:Y),c⟩:P8))<|.req (b<=1000)<|.rz a.wanted<|.ok<|.AQ [.xl A7<|Fe cs os ks gs bs (Bq gs) e od,shE cs os ks gs bs (Bq gs) e od]):=AV
def ayp:=vm (S:=aLQ) func164 aCm kN (L:=(λi=>if i=3 then Q5.lp else Ao i)) (λb hb=>by
 rw [show BC _=[aIQ] by kernel_rfl] at hb
 simp only [B6,Bv,Bt] at hb;subst hb;exact auE) (λargs lv h=>by
 refine ⟨?_⟩;unfold aLQ at h;split at h
 ·split at h
  case h_2=>cases h
  rename_i heq0;simp only [canL,canX];rw [E7 (n:=9) heq0];simp only [canL,canX];rw [auo];rename_i cs os ks gs bs l d t od;obtain ⟨⟨hn,hd⟩,rfl⟩:=h
  have hE:lM ⟨cs,os,ks,gs,bs,l,d,t,od,gs,(M gs:Y),0,aq (M gs:Y).toNat 0⟩:=⟨rfl,rfl,hn,AJ,λj _ _=>Jx,hd⟩
  obtain ⟨_,_,q1,q2⟩:=awd _ hE
  have q2:(aEl ⟨cs,os,ks,gs,bs,l,d,t,od,gs,(M gs:Y),0,aq (M gs:Y).toNat 0⟩).wanted=JL gs d:=q2
  refine ⟨A0,⟨rfl,AJ⟩,⟨hE,rfl,rfl⟩,hn,A0,?_⟩
  show LV.AQ [LV.xl _ _,_]=_
  rw [CZ,El,q2]
 ·cases h)
structure P7 where
 m:aF
 (k i:Y)
 out:aB
def aC7 (s:P7):T (Rd P7):=letI a:=s.out.set s.i.toNat (AG s.m s.i).2.2.2.2.2.2.1;.br (an<|s.i<s.k) (.ix s.i (M s.m)<|.ik s.i (M s.out)<|.re (M s.out) a<|.nx {s with i:=AA<|s.i+1,out:=a})<|.rl s.out<|.so (.exit 0) s
def lS (s:P7):Prop:=s.i=0/\s.k=(M s.m:Y)/\s.k<=1000/\M s.out=M s.m/\(∀j,0<=j->j<s.k->gi s.out j=0)/\True
def Zb (s:P7):Prop:=(0<=s.i/\s.i<=s.k)/\s.k=(M s.m:Y)/\s.k<=1000/\M s.out=M s.m/\(∀j,0<=j->j<s.k->gi s.out j=if j<s.i then Ce (AG s.m j) else 0)/\True
def wS (s:P7):aC:=(s.k-s.i).toNat
def aDm (x:Ex) (s s':P7):Prop:=x=.exit 0/\s'.out=HX (M s'.m) (λj=>Ce<|AG s'.m j)
def aoo:∀s,lS s->Zb s:=by
 exact T2
def ajj:Da Zb wS aDm aC7:=by
 intro s hI;obtain ⟨⟨h0,h1⟩,h2,h3,h4,h5,h6⟩:=hI;refine AH (λc1=>?_) λc1=>?_
 ·have c1:s.i<s.k:=AX
  rw [AI (x:=s.i+1)];refine ⟨⟨⟨A8,A8⟩,h2,h3,A8,λj j0 j1=>?_,h6⟩,by simp only [wS];omega⟩
  simp only;rw [JC h0 cY j0];exact nT
 ·exact cD
def ZM:AR P7:=⟨0,31,[3,17,18,19],[],λs=>[.os 0 1 0<|M s.out,s.m,s.k,s.i],λs=>[bV 3 A7 s.out],λv b=>⟨B1 Af v 1,AL v 2,AL v 3,Ab A7 b 0⟩,aC7,λs r=> {r with m:=s.m,k:=s.k},λs=>s,λ_ s=>s,[.exit 0],lS,Zb,wS⟩
abbrev dj:=ZM.run
abbrev awx:=ZM.At
def Pu:aN:=[XE,ayp,aRD]
def ao4:Ax:=kI Pu<|l0 Pu
def afb:Rq Zb aC7:=by
 exact zY
def aT3:ZM.Ok:={}
def aSP:ZM.Pf (aDm):=⟨aoo,λs h=>rfl,ajj,afb⟩
def auH:=s2 (b:=bN f165 0) aT3 aSP Pu ao4
def awk:Fi lS Zb aDm awx dj:=AR.fin aT3 aSP
structure P9 where
 cs:aJ
 os:aE
 ks:aP
 gs:aF
 bs:aQ
 l:aL
 d:ba
 t:Y
 (od targets m:aB)
 (k i:Y)
 alive:aB
def aIR:=bN f123 0
def aC5 (s:P9):T (Rd P9):=letI b:=s.alive.getD s.i.toNat<|Ty.dflt A7;letI c:=M s.alive;letI a:=s.alive.set s.i.toNat (if b<(gi s.m s.i) then (gi s.m s.i) else b);.br (an<|s.i<s.k) (.ix s.i (M s.m)<|.ik s.i c<|.ik s.i c<|.re c a<|.nx {s with i:=AA<|s.i+1,alive:=a})<|.rl s.alive<|.so (.exit 0) s
def lQ (s:P9):Prop:=s.i=0/\s.k=(M s.m:Y)/\s.k<=1000/\M s.alive=M s.m/\(∀j,0<=j->j<s.k->gi s.alive j=Ce (AG s.gs j))/\True
def Za (s:P9):Prop:=(0<=s.i/\s.i<=s.k)/\s.k=(M s.m:Y)/\s.k<=1000/\M s.alive=M s.m/\(∀j,0<=j->j<s.k->gi s.alive j=if j<s.i then mx (Ce<|AG s.gs j) (gi s.m j) else Ce (AG s.gs j))/\True
def wQ (s:P9):aC:=(s.k-s.i).toNat
def aDl (x:Ex) (s s':P9):Prop:=x=.exit 0/\s'.alive=HX (M s'.m) (λj=>mx (Ce<|AG s'.gs j)<|gi s'.m j)
def aom:∀s,lQ s->Za s:=by
 exact T2
def ajg:Da Za wQ aDl aC5:=by
 intro s hI;obtain ⟨⟨h0,h1⟩,h2,h3,h4,h5,h6⟩:=hI;refine AH (λc1=>?_) λc1=>?_
 ·have c1:s.i<s.k:=AX
  rw [AI (x:=s.i+1)];refine ⟨⟨⟨A8,A8⟩,h2,h3,A8,λj j0 j1=>?_,h6⟩,by simp only [wQ];omega⟩
  simp only
  have hi:=h5 s.i h0 c1
  rw [AE (show ¬s.i<s.i by omega)] at hi
  rw [JC h0 cY j0]
  by_cases e:j=s.i
  ·subst e
   rw [AD rfl,AD (show s.i<s.i+1 by omega)]
   show mx (gi s.alive s.i) (gi s.m s.i)=_
   rw [hi]
  ·exact zy
 ·have c1:s.k<=s.i:=AX
  exact zg
def Q6:AR P9:=⟨0,71,[0,4,7,41,42,43],[],λs=>[xQ 9 [s.cs,s.os,s.ks,s.gs,s.bs,s.l,s.d,s.t,.xl A7 s.od],.xl A7 s.targets,.os 0 1 0<|M s.alive,.xl A7 s.m,s.k,s.i],λs=>[bV 3 A7 s.alive],λv b=>⟨Ar Ae<|BV (v.getD 0 .junk) 0,Ar .str<|BV (v.getD 0 .junk) 1,Ar Ak<|BV (v.getD 0 .junk) 2,Ar Af<|BV (v.getD 0 .junk) 3,Ar Al<|BV (v.getD 0 .junk) 4,Ar AO<|BV (v.getD 0 .junk) 5,Ar Ai<|BV (v.getD 0 .junk) 6,gI<|BV (v.getD 0 .junk) 7,Ar A7<|BV (v.getD 0 .junk) 8,B1 A7 v 1,B1 A7 v 3,AL v 4,AL v 5,Ab A7 b 0⟩,aC5,λs r=> {s with i:=r.i,alive:=r.alive},λs=>s,λ_ s=>s,[.exit 0],lQ,Za,wQ⟩
abbrev aEm:=Q6.run
abbrev awv:=Q6.At
def afZ:Rq Za aC5:=by
 intro s hI;refine ⟨λc1=>⟨?_,?_,?_,?_,?_,?_,ak⟩,λc1=>⟨A9,ak⟩⟩
 all_goals ((obtain ⟨⟨h0,h1⟩,h2,h3,h4,h5,h6⟩:=hI;(try simp only [Ac] at c1);first|omega|exact ⟨rfl,AJ⟩ |(omega)))
def aCs:Ax:=kI Pu<|la 3 func165 auH<|l0 Pu
def aTb:Q6.Ok:={}
def aSN:Q6.Pf (aDl):=⟨aom,λs h=>rfl,ajg,afZ⟩
def auF:SA 0 aIR Q6:=s1 aTb aSN Pu aCs
def awh:Fi lQ Za aDl awv aEm:=AR.fin aTb aSN
def aLR:aD->T LV
 | [.xq 9 q0]=>(match ([q0 0,q0 1,q0 2,q0 3,q0 4,q0 5,q0 6,q0 7,q0 8]:aD) with
  | [.xl (.pair .str (.pair (.int J) (.pair (.int J) (.pair (.int J) (.pair (.pair (.int J) (.int J)) (.pair (.int J) (.pair (.int J) (.pair (.int J) (.pair (.int J) (.int J)))))))))) cs,.xl (.str) os,.xl (.pair .str (.pair (.int J) (.pair (.int J) (.int J)))) ks,.xl (.pair .str (.pair (.int J) (.pair (.int J) (.pair (.int J) (.pair (.int J) (.pair (.int J) (.pair (.int J) (.int J)))))))) gs,.xl (.pair .str (.int J)) bs,.xl (.pair (.int J) (.pair (.int J) (.pair (.int J) (.pair (.int J) (.int J))))) l,.xl (.pair .bool (.pair (.int J) (.pair (.int J) (.int J)))) d,.v (ag J t),.xl (.int J) od]=> .req (M d=M gs/\G1 cs os ks gs bs (Bq gs) (JL gs d) od=U/\K8 l (M gs:Y) t=U/\G1 cs os ks gs bs (D4 gs l t) (Fe cs os ks gs bs (Bq gs) (JL gs d) od) od=U) (.ok<|.AQ [.xl A7<|ofO cs os ks gs bs l d t od,(0:Y)])
  |_=> .no)
 |_=> .no
def aup (cs:aJ) (os:aE) (ks:aP) (gs:aF) (bs:aQ) (l:aL) (d:ba) (t:Y) (od:aB):letI b:=(M gs:Y);letI c:=(aq b.toNat (0:Y));letI e:=Fe cs os ks gs bs (Bq gs) (JL gs d) od;letI f:=(dj (⟨gs,b,(0:Y),c⟩:P7));letI h:=shE cs os ks gs bs (Bq gs) (JL gs d) od;letI j:=(M (HP l b t):Y);letI a:=(aEm (⟨cs,os,ks,gs,bs,l,d,t,od,e,HP l b t,j,(0:Y),f.out⟩:P9));letI g:=(a.alive.drop 0).take<|M a.alive;Bw prog AT (Pu) aCs (λi=>if i=9 then Q6.lp else Ao i) f123 [xQ 9 [cs,os,ks,gs,bs,l,d,t,.xl A7 od]]=.req (b<=1000/\M d=M gs) (.br (h !=0) (.ok<|.AQ [.xl A7 ([]:aB),h])<|.br ((JY l b t) !=0) (.ok<|.AQ [.xl A7 ([]:aB),JY l b t])<|.rm 8 b<|.re b.toNat c<|.req (ZM.q (⟨gs,b,(0:Y),c⟩:P7))<|.rl f.out<|.req (Q6.q (⟨cs,os,ks,gs,bs,l,d,t,od,e,HP l b t,j,(0:Y),f.out⟩:P9))<|.rz a.alive<|.ok<|.AQ [.xl A7<|Fe cs os ks gs bs g e od,shE cs os ks gs bs g e od]):=AV
def ayq:=vm (S:=aLR) func123 Pu aCs (L:=(λi=>if i=9 then Q6.lp else Ao i)) (λb hb=>by
 rw [show BC _=[aIR] by kernel_rfl] at hb
 simp only [B6,Bv,Bt] at hb;subst hb;exact auF) (λargs lv h=>by
 refine ⟨?_⟩;unfold aLR at h;split at h
 ·split at h
  case h_2=>cases h
  rename_i heq0;simp only [canL,canX];rw [E7 (n:=9) heq0];simp only [canL,canX];rw [aup];rename_i cs os ks gs bs l d t od;obtain ⟨⟨hd,hk,hv,hk2⟩,rfl⟩:=h
  have gl:=(Cz.1 (Lc.1 hk).1).1.2.2.2.2.1
  have ea:HP l (M gs:Y) t=GY (M gs) l t:=by unfold HP;rw [AD hv,C2]
  rw [aWs hk,show JY l (M gs:Y) t=0 by unfold JY;rw [AD hv]]
  refine ⟨⟨A0,hd⟩,λc=>absurd c Ad,λ_=>⟨λc=>absurd c Ad,λ_=>?_⟩⟩
  have hE:lS ⟨gs,(M gs:Y),0,aq (M gs:Y).toNat 0⟩:=⟨rfl,rfl,Aa,AJ,λj _ _=>Jx,ak⟩
  obtain ⟨_,_,q1,q2⟩:=awk _ hE
  have q2:(dj ⟨gs,(M gs:Y),0,aq (M gs:Y).toNat 0⟩).out=Bq gs:=q2
  have hE2:lQ ⟨cs,os,ks,gs,bs,l,d,t,od,Fe cs os ks gs bs (Bq gs) (JL gs d) od,HP l (M gs:Y) t,(M (HP l (M gs:Y) t):Y),0,(dj ⟨gs,(M gs:Y),0,aq (M gs:Y).toNat 0⟩).out⟩:=⟨rfl,rfl,by simp only;rw [ea,fQ];omega,by simp only;rw [q2,ea,fQ];exact Ib,λj j0 j1=>by
   simp only at j1|-;rw [ea,fQ] at j1;rw [q2];exact NQ j0 j1,ak⟩
  obtain ⟨_,_,q3,q4⟩:=awh _ hE2
  have q4:(aEm ⟨cs,os,ks,gs,bs,l,d,t,od,Fe cs os ks gs bs (Bq gs) (JL gs d) od,HP l (M gs:Y) t,(M (HP l (M gs:Y) t):Y),0,(dj ⟨gs,(M gs:Y),0,aq (M gs:Y).toNat 0⟩).out⟩).alive=D4 gs l t:=q4.trans (by
   show HX (M<|HP l (M gs:Y) t) (λj=>mx (Ce<|AG gs j)<|gi (HP l (M gs:Y) t) j)=_
   rw [ea,fQ];rfl)
  refine ⟨A0,⟨rfl,AJ⟩,⟨hE,rfl,rfl⟩,A9,⟨hE2,rfl,rfl⟩,A0,?_⟩
  show LV.AQ [LV.xl _ _,_]=_
  rw [CZ,El,q4,aWs hk2];rfl
 ·cases h)
def aCL:Array Tmp×Code×Code:=((JA<|f125.body.getD .skip)[0]?).getD (#[],.skip,.skip)
def alK:aX3:=aCL.1
def amx:bB:=aCL.2.1
def amn:bB:=aCL.2.2
structure Mq where
 i:Y
 cs:aJ
 os:aE
 ks:aP
 gs:aF
 bs:aQ
 l:aL
 d:ba
 t:Y
 od:aB
 (c a:Y)
 r:aM
 m:aL
 st:LS
def aC6 (s:Mq):T (Rd Mq):=
 .br (an<|s.i>=0) (.ix s.i (M s.m)<|.br ((Ap s.m s.i).2.1==s.c) (.so (.ret) {s with r:=(((Ap s.m s.i).2.2.1 !=s.a) ||(an<|(Ap s.m s.i).2.2.2.1<=(AA<|s.t-6))),st:=.done<|.ret})<|.nx {s with i:=AA<|s.i-1}) (.so (.exit 0) s)
def lR (s:Mq):Prop:=s.st=.ready/\s.i=(M s.m:Y)-1/\(M s.m:Y)<=1000/\0<=s.t/\s.t<=1000000
def mM (s:Mq):Prop:=s.st=.ready/\(-1<=s.i/\s.i<(M s.m:Y))/\(M s.m:Y)<=1000/\0<=s.t/\s.t<=1000000
def wR (s:Mq):aC:=(s.i+1).toNat
def acZ (x:Ex) (s s':Mq):Prop:=True
def aon:∀s,lR s->mM s:=by
 rintro s ⟨h0,h1,h2⟩
 exact ⟨h0,A0,h2⟩
def ajh:Da mM wR acZ aC6:=by
 intro s hI;obtain ⟨hs,⟨h0,h1⟩,h2⟩:=hI;refine AH (λc1=>AH (λc2=>trivial) λc2=>?_) λc1=>trivial
 have c1:0<=s.i:=A8
 rw [AI (x:=s.i-1)];exact ⟨⟨hs,⟨A8,A8⟩,h2⟩,by simp only [wR];omega⟩
def ZL:AR Mq:=⟨6,19,[0,1,3],[],λs=>[.CU 5,.own 4 0,s.i],λs=>[⟨[xQ 9 [s.cs,s.os,s.ks,s.gs,s.bs,s.l,s.d,s.t,.xl A7 s.od]],225,.cl,X⟩,⟨[s.c],3,.cl,X⟩,⟨[s.a],3,.cl,X⟩,⟨[s.r],4,.cl,X⟩,⟨[s.m],44,.cl,X⟩,⟨[.junk,.junk,.junk,.own 0 0,.own 1 0,.own 2 0,.own 3 0,.junk,.v<|.tuple #[],.junk,.junk,.junk,.junk,.junk,.junk,.junk,.junk,.junk,.junk,.junk,.junk,.junk,.junk,.junk,.junk,.junk,.v<|.tuple #[],.v<|.tuple #[],.v<|.tuple #[],.v<|.tuple #[],.v<|.tuple #[],.v<|.tuple #[],.v<|.tuple #[],.v<|.tuple #[],.v<|.tuple #[],.v<|.tuple #[],.v<|.tuple #[],.v<|.tuple #[],.v<|.tuple #[],.v<|.tuple #[],.v<|.tuple #[],.v<|.tuple #[],.v<|.tuple #[],.v<|.tuple #[],.v<|.tuple #[]],0,.Cq alK amx amn s.st,X⟩],λv b=>⟨AL v 2,Ar Ae<|BV (BD (Cc b 0) 0) 0,Ar .str<|BV (BD (Cc b 0) 0) 1,Ar Ak<|BV (BD (Cc b 0) 0) 2,Ar Af<|BV (BD (Cc b 0) 0) 3,Ar Al<|BV (BD (Cc b 0) 0) 4,Ar AO<|BV (BD (Cc b 0) 0) 5,Ar Ai<|BV (BD (Cc b 0) 0) 6,gI<|BV (BD (Cc b 0) 0) 7,Ar A7<|BV (BD (Cc b 0) 0) 8,Am b 1 0,Am b 2 0,cgB b 3 0,AF AO b 4 0,.ready⟩,aC6,λs r=> {r with cs:=s.cs,os:=s.os,ks:=s.ks,gs:=s.gs,bs:=s.bs,l:=s.l,d:=s.d,t:=s.t,od:=s.od,c:=s.c,a:=s.a,m:=s.m},λs=> {s with st:=.ready},λx s=> {s with st:=(match x with| .ret=>(.done<|.ret) | .exit 0=> .ready|_=> .ready)},[.ret,.exit 0],lR,mM,wR⟩
abbrev aJP:=ZL.run
abbrev aL5:=ZL.At
def RG:aN:=[]
def ao3:Ax:=kI RG<|l0 RG
def afa:Rq mM aC6:=by
 intro s hI;refine ⟨λc1=>⟨?_,λ_=>trivial,λ_=>trivial⟩,λ_=>trivial⟩
 ·(obtain ⟨hs,⟨h0,h1⟩,h2⟩:=hI;simp only [Ac] at c1;omega)
def aT2:ZL.Ok:={}
def aSO:ZL.Pf (acZ):=⟨aon,λs h=>by
 obtain ⟨i,cs,os,ks,gs,bs,l,d,t,od,c,a,r,m,st⟩:=s
 have e:=h.1
 subst e;rfl,ajh,afa⟩
def auG:=s2 (b:=bN f208 0) aT2 aSO RG ao3
def awj:Rs lR aL5 aJP (λs:Mq=>nwO s.a s.t<|(s.m.take (s.i+1).toNat).reverse.find? λx=>x.2.1==s.c) (λx s' (v:aM)=>(x=.ret/\s'.r=v)\/(x=.exit 0/\v=U)):=Dp aT2 aSO (λs hI=>by
  obtain ⟨hs,⟨h0,h1⟩,h2⟩:=hI;refine AH (λc1=>?_) λc1=>?_
  ·have c1:0<=s.i:=A8
   have e:=(Wf c1 (show s.i<(M s.m:Y) by omega)).2
   refine AH (λc2=> .inl ⟨rfl,?_⟩) λc2=>?_
   ·rw [e,List.reverse_append]
    show _=nwO s.a s.t (List.find? _ (Ap s.m s.i::_))
    rw [List.find?_cons_of_pos<|by exact c2]
    simp only [nwO];rw [AI (x:=s.t-6)]
   ·show nwO _ _ _=nwO _ _ _
    rw [AI (x:=s.i-1),e,List.reverse_append]
    show _=nwO s.a s.t (List.find? _ (Ap s.m s.i::_))
    rw [List.find?_cons_of_neg A8,show (s.i-1+1).toNat=s.i.toNat by omega]
    rfl
  ·have c1:s.i<0:=A8
   refine .inr ⟨rfl,?_⟩;rw [show (s.i+1).toNat=0 by omega]
   rfl)
def aLS:aD->T LV
 | [.xq 9 q0,.v (ag J i),.v (ag J a)]=>(match ([q0 0,q0 1,q0 2,q0 3,q0 4,q0 5,q0 6,q0 7,q0 8]:aD) with
  | [.xl (.pair .str (.pair (.int J) (.pair (.int J) (.pair (.int J) (.pair (.pair (.int J) (.int J)) (.pair (.int J) (.pair (.int J) (.pair (.int J) (.pair (.int J) (.int J)))))))))) cs,.xl (.str) os,.xl (.pair .str (.pair (.int J) (.pair (.int J) (.int J)))) ks,.xl (.pair .str (.pair (.int J) (.pair (.int J) (.pair (.int J) (.pair (.int J) (.pair (.int J) (.pair (.int J) (.int J)))))))) gs,.xl (.pair .str (.int J)) bs,.xl (.pair (.int J) (.pair (.int J) (.pair (.int J) (.pair (.int J) (.int J))))) l,.xl (.pair .bool (.pair (.int J) (.pair (.int J) (.int J)))) d,.v (ag J t),.xl (.int J) od]=> .req ((0<=i/\i<(M gs:Y))/\(M l:Y)<=1000/\0<=t/\t<=1000000) (.ok<|nwB gs l t i a)
  |_=> .no)
 |_=> .no
def aa0:Ax:=kI RG<|la 1 func208 auG<|l0 RG
def auq (cs:aJ) (os:aE) (ks:aP) (gs:aF) (bs:aQ) (l:aL) (d:ba) (t:Y) (od:aB) (i a:Y):letI b:=(AA<|(M l:Y)-1);Bw prog AT (RG) aa0 Ao f125 [xQ 9 [cs,os,ks,gs,bs,l,d,t,.xl A7 od],i,a]=.ix i (M gs) (.br (an<|a<=(AG gs i).2.2.2.2.2.2.1) (.ok X)<|.req (ZL.q (⟨b,cs,os,ks,gs,bs,l,d,t,od,i,a,X,l,.ready⟩:Mq))<|.br (Bj (aL5 (⟨b,cs,os,ks,gs,bs,l,d,t,od,i,a,X,l,.ready⟩:Mq))<|.ret) (.ok (aJP (⟨b,cs,os,ks,gs,bs,l,d,t,od,i,a,X,l,.ready⟩:Mq)).r)<|.ok U):=AV
def ayr:=vo (S:=aLS) func125 RG aa0 (λargs lv h=>by
 refine ⟨?_⟩;unfold aLS at h;split at h
 ·split at h
  case h_2=>cases h
  rename_i heq0;simp only [canL,canX];rw [E7 (n:=9) heq0];simp only [canL,canX];rw [auq];rename_i i a _ cs os ks gs bs l d t od;obtain ⟨⟨hi,hl,ht⟩,rfl⟩:=h;refine ⟨hi,λc=>B0 (λz=>LV.v<|.bool z) ?_,λc=>?_⟩
  ·have c:a<=Ce (AG gs i):=DJ c
   unfold nwB;rw [Ci c];rfl
  have c:¬a<=Ce (AG gs i):=KI c
  have hE:lR ⟨AA<|(M l:Y)-1,cs,os,ks,gs,bs,l,d,t,od,i,a,X,l,.ready⟩:=⟨rfl,by show AA ((M l:Y)-1)=_;rw [AI],hl,ht⟩
  have ev:nwB gs l t i a=nwO a t ((l.take (AA ((M l:Y)-1)+1).toNat).reverse.find? λx=>x.2.1==i):=by
   unfold nwB;rw [IV c,AI (x:=(M l:Y)-1),show ((M l:Y)-1+1).toNat=M l by omega,El]
   rfl
  refine ⟨⟨hE,rfl,rfl⟩,?_⟩;rcases awj _ hE with ⟨q1,q2⟩ |⟨q1,q2⟩<;>rw [q1]
  ·exact ⟨λ_=>B0 (λz=>LV.v<|.bool z)<|q2.trans ev.symm,λh=>As⟩
  ·exact ⟨λh=>As,λ_=>B0 (λz=>LV.v<|.bool z)<|q2.symm.trans ev.symm⟩
 ·cases h)
def aID:aD->T LV
 | [.v (ag J x)]=> .ok X
 |_=> .no
def Xu:aN:=[]
def asE:=vo (S:=aID) func197 Xu kN (λargs lv h=>by
 unfold aID at h;split at h
 ·rename_i x
  refine Aq (.ok<|.v<|.bool<|x !=x) ?_;obtain rfl:=h;exact B0 (λz=>LV.v<|.bool z) AJ
 ·cases h)
def aLZ:aD->T LV
 | [.v (ag J x),.v (ag J y)]=> .ok (cm x y)
 |_=> .no
def an8:aN:=[asE]
def ayx:=vo (S:=aLZ) func159 an8 kN (λargs lv h=>by
 unfold aLZ at h;split at h
 ·rename_i x y
  refine Aq (.br X (.br X (.ok (0:Y))<|.ok<|.v<|ag J (-1))<|.br X (.ok (1:Y))<|.br (an<|x<y) (.ok<|.v<|ag J (-1))<|.br (an<|x>y) (.ok (1:Y))<|.ok (0:Y)) ?_;obtain rfl:=h;unfold cm;refine ⟨λh=>As,λ_=>⟨λh=>As,λ_=>⟨λc=>?_,λc=>⟨λc2=>?_,λc2=>?_⟩⟩⟩⟩<;>refine B0 (λz=>LV.v<|ag J z) ?_
  ·grind
  ·grind
  ·grind
 ·cases h)
structure Mr where
 (r z:Y)
 l:aB
 (n i:Y)
def aIU:=bN f158 0
def aBi (s:Mr):T (Rd Mr):=
 .br (an<|s.i<s.n) (.ix s.i (M s.l)<|.br ((gi s.l s.i) !=s.z) (.so (.ret) {s with r:=gi s.l s.i})<|.nx {s with i:=AA<|s.i+1}) (.so (.exit 0) s)
def oy (s:Mr):Prop:=s.i=0/\s.n=(M s.l:Y)/\s.n<=1000/\s.z=0
def mN (s:Mr):Prop:=(0<=s.i/\s.i<=s.n)/\s.n=(M s.l:Y)/\s.n<=1000/\s.z=0
def wW (s:Mr):aC:=(s.n-s.i).toNat
def acd (x:Ex) (s s':Mr):Prop:=True
def aoJ:∀s,oy s->mN s:=by
 exact aPU
def ajK:Da mN wW acd aBi:=by
 intro s hI;obtain ⟨⟨h0,h1⟩,h2,h3,h4⟩:=hI;refine AH (λc1=>?_) λc1=>?_
 ·refine AH (λc2=>?_) (λc2=>?_)
  ·exact ak
  ·have c1:s.i<s.n:=A8
   rw [AI (x:=s.i+1)];exact ⟨⟨⟨A8,A8⟩,h2,h3,h4⟩,by simp only [wW];omega⟩
 ·exact ak
def Rk:AR Mr:=⟨0,18,[2,3,6,7,8],[],λs=>[s.r,s.z,.xl A7 s.l,s.n,s.i],λ_=>[],λv b=>⟨AL v 0,AL v 1,B1 A7 v 2,AL v 3,AL v 4⟩,aBi,λs r=> {s with r:=r.r,i:=r.i},λs=>s,λ_ s=>s,[.ret,.exit 0],oy,mN,wW⟩
abbrev aJR:=Rk.run
abbrev aL7:=Rk.At
def afg:Rq mN aBi:=by
 intro s hI;refine ⟨λc1=>⟨?_,λ_=>trivial,λ_=>trivial⟩,λ_=>trivial⟩
 ·(obtain ⟨⟨h0,h1⟩,h2,h3⟩:=hI;simp only [Ac] at c1;omega)
def aT7:Rk.Ok:={}
def aST:Rk.Pf (acd):=⟨aoJ,λs h=>rfl,ajK,afg⟩
def auK:SA 0 aIU Rk:=s1 aT7 aST Xu kN
def axX:Rs oy aL7 aJR (λs:Mr=>orI<|s.l.drop s.i.toNat) (λx s' (v:Y)=>(x=.ret/\s'.r=v)\/(x=.exit 0/\s'.z=v)):=Dp aT7 aST (λs hI=>by
  obtain ⟨⟨h0,h1⟩,h2,h3,h4⟩:=hI;refine AH (λc1=>?_) λc1=>?_
  ·have c1:s.i<s.n:=A8
   have e:=(gi_step h0 (show s.i<(M s.l:Y) by omega)).1
   rw [AI (x:=s.i+1)];refine AH (λc2=>?_) λc2=>?_
   ·refine .inl ⟨rfl,?_⟩
    rw [e,orI,AD A8]
   ·show orI _=orI _
    rw [e,orI,AE A8]
  ·have c1:s.n<=s.i:=A8
   refine .inr ⟨rfl,?_⟩;rw [FA A0,h4];rfl)
def aLa:aD->T LV
 | [.xl (.int J) l]=> .req ((M l:Y)<=1000) (.ok<|orI l)
 |_=> .no
def ayy:=vm (S:=aLa) func158 Xu kN (L:=(λi=>if i=3 then Rk.lp else Ao i)) (λb hb=>by
 rw [show BC _=[aIU] by kernel_rfl] at hb
 simp only [B6,Bv,Bt] at hb;subst hb;exact auK) (λargs lv h=>by
 unfold aLa at h;split at h
 ·rename_i l
  refine Aq (letI a:=(M l:Y);.req (Rk.q (⟨0,0,l,a,0⟩:Mr))<|.br (Bj (aL7 (⟨0,0,l,a,0⟩:Mr))<|.ret) (.ok (aJR (⟨0,0,l,a,0⟩:Mr)).r)<|.ok (0:Y)) ?_;obtain ⟨hl,rfl⟩:=h
  have hE:oy ⟨0,0,l,(M l:Y),0⟩:=⟨rfl,rfl,hl,rfl⟩
  refine ⟨⟨hE,rfl,rfl⟩,?_⟩;rcases axX _ hE with ⟨q1,q2⟩ |⟨q1,q2⟩<;>rw [q1]
  ·exact ⟨λ_=>B0 (λz=>LV.v<|ag J z) q2,λh=>As⟩
  ·exact ⟨λh=>As,λ_=>B0 (λz=>LV.v<|ag J z) q2⟩
 ·cases h)
def aM0:aD->T LV
 | [.v (ag J i),.xq 1 q0,.xq 1 q1]=>(match ([q0 0]:aD) with
  | [.xl (.pair .bool (.pair (.int J) (.pair (.int J) (.int J)))) d]=>(match ([q1 0]:aD) with
  | [.v (ag J t)]=> .req (Iv d t/\0<=i/\i<(M d:Y)) (.ok<|slk d t i)
  |_=> .no)
  |_=> .no)
 |_=> .no
def aui (i:Y) (d:ba) (t:Y):Bw prog AT (Xu) kN Ao f155 [i,xQ 1 [d],xQ 1 [t]]=.ix i (M d) (.ix i (M d)<|.ok<|AA<|(AA<|(E8 d i).2.2.1-t)-(E8 d i).2.1):=AV
def vK:=vo (S:=aM0) func155 Xu kN (λargs lv h=>by
 refine ⟨?_⟩;unfold aM0 at h;split at h
 ·split at h
  case h_2=>cases h
  rename_i heq0;split at h
  case h_2=>cases h
  rename_i heq1;simp only [canL,canX];rw [E7 (n:=1) heq0];rw [E7 (n:=1) heq1];simp only [canL,canX];rw [aui];rename_i i _ _ _ d _ t;obtain ⟨⟨hw,hi⟩,rfl⟩:=h
  have b:=ay5 hw hi.1 hi.2
  have ht:=hw.2
  refine ⟨hi,hi,B0 (λz=>LV.v<|ag J z) ?_⟩
  unfold slk;rw [AI (x:=(E8 d i).2.2.1-t),AI]
 ·cases h)
def aWR:aD->T LV
 | [.v (ag J a),.v (ag J b),.xq 1 q0,.xq 1 q1]=>(match ([q0 0]:aD) with
  | [.xl (.pair .bool (.pair (.int J) (.pair (.int J) (.int J)))) d]=>(match ([q1 0]:aD) with
  | [.fn 155 [.xq 1 q2,.xq 1 q3]]=>(match ([q2 0]:aD) with
  | [.xl (.pair .bool (.pair (.int J) (.pair (.int J) (.int J)))) e]=>(match ([q3 0]:aD) with
  | [.v (ag J t)]=> .req (d=e/\Iv d t/\(0<=a/\a<(M d:Y))/\0<=b/\b<(M d:Y)) (.ok<|cmD d t a b)
  |_=> .no)
  |_=> .no)
  |_=> .no)
  |_=> .no)
 |_=> .no
def ac7:aN:=[vK,ayy,ayx]
def ahf (a b:Y) (d e:ba) (t:Y):letI c:=cm (E8 d a).2.2.2 (E8 d b).2.2.2;letI f:=cm (slk e t a)<|slk e t b;Bw prog AT (ac7) kN Ao f157 [a,b,xQ 1 [d],xQ 1 [.fn 155 [xQ 1 [e],xQ 1 [t]]]]=.ix a (M d) (.ix b (M d)<|.req (Iv e t/\0<=a/\a<(M e:Y))<|.req (Iv e t/\0<=b/\b<(M e:Y))<|.req ((M ([c,f,cm a b]):Y)<=1000)<|.ok<|orI<|[c,f,cm a b]):=AV
def aXJ:=vo (S:=aWR) func157 ac7 kN (λargs lv h=>by
 refine ⟨?_⟩;unfold aWR at h;split at h
 ·split at h
  case h_2=>cases h
  rename_i heq0;split at h
  case h_2=>cases h
  rename_i heq1;split at h
  case h_2=>cases h
  rename_i heq2;split at h
  case h_2=>cases h
  rename_i heq3;simp only [canL,canX];rw [E7 (n:=1) heq0];rw [E7 (n:=1) heq1];simp only [canL,canX];rw [E7 (n:=1) heq2];rw [E7 (n:=1) heq3];simp only [canL,canX];rw [ahf];rename_i a b _ d _ _ _ _ e _ t;obtain ⟨⟨rfl,hw,ha,hb⟩,rfl⟩:=h;exact ⟨ha,hb,⟨hw,ha⟩,⟨hw,hb⟩,AJ,rfl⟩
 ·cases h)
structure PU where
 (n i:Y)
 d:ba
 tick:Y
 out:aB
def aIp:=bN f121 0
def aBR (s:PU):T (Rd PU):=letI a:=s.out.set s.i.toNat s.i;.br (an<|s.i<s.n) (.ik s.i (M s.out)<|.re (M s.out) a<|.nx {s with i:=AA<|s.i+1,out:=a})<|.rl s.out<|.so (.exit 0) s
def lV (s:PU):Prop:=s.i=0/\s.out=aq (M s.d) 0/\s.n=(M s.d:Y)/\s.n<=1000/\M s.out=M s.d
def YX (s:PU):Prop:=(0<=s.i/\s.i<=s.n)/\s.out=G2 s.i.toNat++aq (M s.d-s.i.toNat) 0/\s.n=(M s.d:Y)/\s.n<=1000/\M s.out=M s.d
def we (s:PU):aC:=(s.n-s.i).toNat
def aDU (x:Ex) (s s':PU):Prop:=x=.exit 0/\s'.out=G2 (M s'.d)
def amK:∀s,lV s->YX s:=by
 exact zn
def ah6:Da YX we aDU aBR:=by
 intro s hI;obtain ⟨⟨h0,h1⟩,h2,h3,h4,h5⟩:=hI;refine AH (λc1=>?_) λc1=>?_
 ·have c1:s.i<s.n:=AX
  rw [AI (x:=s.i+1)]
  have e:M s.d-s.i.toNat=(M s.d-(s.i+1).toNat)+1:=A0
  refine ⟨⟨⟨A8,A8⟩,?_,h3,h4,A8⟩,by simp only [we];omega⟩
  simp only
  have hs:=aJh (xs:=G2 s.i.toNat) (r:=M s.d-(s.i+1).toNat) (v:=s.i)
  rw [Oz] at hs;rw [h2,e,hs,show (s.i+1).toNat=s.i.toNat+1 by omega,aGO,Bs h0]
 ·have c1:s.n<=s.i:=AX
  refine ⟨rfl,?_⟩;rw [h2,show s.i.toNat=M s.d by omega]
  simp
def S1:AR PU:=⟨0,26,[2,3,5,12,13],[],λs=>[.own 0 0,.own 1 0,.os 2 1 0<|M s.out,s.n,s.i],λs=>[⟨[s.d],55,.cl,X⟩,⟨[s.tick],3,.cl,X⟩,bV 3 A7 s.out],λv b=>⟨AL v 3,AL v 4,AF Ai b 0 0,Am b 1 0,Ab A7 b 2⟩,aBR,λs r=> {s with i:=r.i,out:=r.out},λs=>s,λ_ s=>s,[.exit 0],lV,YX,we⟩
abbrev MT:=S1.run
abbrev avs:=S1.At
def afq:Rq YX aBR:=by
 intro s hI;refine ⟨λc1=>⟨?_,?_,?_,ak⟩,λc1=>⟨A9,ak⟩⟩
 all_goals ((obtain ⟨⟨h0,h1⟩,h2,h3,h4,h5⟩:=hI;simp only [Ac] at c1;first|omega|exact ⟨rfl,AJ⟩))
def Ph:aN:=[vK,aXJ]
def kQ:Ax:=kI Ph<|l0 Ph
def aTv:S1.Ok:={}
def aRn:S1.Pf (aDU):=⟨amK,λs h=>rfl,ah6,afq⟩
def atA:SA 0 aIp S1:=s1 aTv aRn Ph kQ
def av6:Fi lV YX aDU avs MT:=AR.fin aTv aRn
structure No where
 (a b i j:Y)
 b0:ba
 b1:Y
 data:aB
def aIL:=lN (bN f229 0) 0
def aBr (s:No):T (Rd No):=letI c:=s.data.getD s.j.toNat<|Ty.dflt A7;letI d:=AA<|s.j-1;letI e:=M s.data;letI b:=s.data.getD d.toNat<|Ty.dflt A7;letI f:=s.data.set s.j.toNat b;.br (an<|s.j>s.a) (.ik s.j e<|.ik d e<|.req (s.b0=s.b0/\Iv s.b0 s.b1/\(0<=c/\c<(M s.b0:Y))/\0<=b/\b<(M s.b0:Y))<|.br (an<|(cmD s.b0 s.b1 c b)<0) (.ix d e<|.ix s.j e<|.req (d.toNat<M s.data)<|.req (s.j.toNat<M s.data)<|.ik s.j e<|.ix d e<|.req (d.toNat<M f)<|.re e (f.set d.toNat c)<|.nx {s with j:=d,data:=f.set d.toNat c})<|.rl s.data<|.so (.exit 2) s)<|.rl s.data<|.so (.exit 2) s
def m8 (s:No):Prop:=s.a=0/\(0<=s.j/\s.j<(M s.data:Y))/\(M s.data=M s.b0/\(M s.data:Y)<=1000)/\(∀x∈s.data,0<=x/\x<(M s.b0:Y))/\Iv s.b0 s.b1
def mI (s:No):Prop:=s.a=0/\(0<=s.j/\s.j<(M s.data:Y))/\(M s.data=M s.b0/\(M s.data:Y)<=1000)/\(∀x∈s.data,0<=x/\x<(M s.b0:Y))/\Iv s.b0 s.b1
def xD (s:No):aC:=s.j.toNat
def acU (x:Ex) (s s':No):Prop:=x=.exit 2
def anz:∀s,m8 s->mI s:=by
 exact λs h=>h
def ahS:Da mI xD acU aBr:=by
 intro s hI;obtain ⟨h0,⟨h1,h2⟩,⟨h3,h3'⟩,h4,h5⟩:=hI;refine AH (λc1=>?_) λc1=>rfl
 have c1:s.a<s.j:=AX
 rw [AI (x:=s.j-1)];refine AH (λc2=>?_) λc2=>rfl
 have g0:=λ(k:aC) (hk:k<M s.data)=>h4 (s.data.getD k 0) GN
 have hm:∀x∈(s.data.set s.j.toNat<|s.data.getD (s.j-1).toNat 0).set (s.j-1).toNat (s.data.getD s.j.toNat 0),0<=x/\x<(M s.b0:Y):=λx hx=>by
  rcases Oa hx with hx|e
  ·rcases Oa hx with hx|e
   ·exact h4 x hx
   ·rw [e];exact g0 _ A0
  ·grind
 exact ⟨⟨h0,⟨Aa,A8⟩,⟨A8,A8⟩,hm,h5⟩,by simp only [xD];omega⟩
def Rg:AR No:=⟨4,53,[0,1,2,3,8,9],[],λs=>[.os 2 1 0<|M s.data,s.a,s.b,.fn 157 [.own 0 0,.own 3 0],s.i,s.j],λs=>[⟨[s.b0],55,.cl,X⟩,⟨[s.b1],3,.cl,X⟩,bV 3 A7 s.data,⟨[.fn 155 [.own 0 0,.own 1 0]],173,.cl,X⟩],λv b=>⟨AL v 1,AL v 2,AL v 4,AL v 5,AF Ai b 0 0,Am b 1 0,Ab A7 b 2⟩,aBr,λs r=> {s with j:=r.j,data:=r.data},λs=>s,λ_ s=>s,[.exit 2],m8,mI,xD⟩
abbrev sP:=Rg.run
abbrev awo:=Rg.At
def afN:Rq mI aBr:=by
 intro s hI;refine ⟨λc1=>⟨?_,?_,?_,?_,?_,λc2=>⟨?_,?_,?_,?_,?_,?_,?_,?_,?_,ak⟩,λc2=>⟨A9,ak⟩⟩,λc1=>⟨A9,ak⟩⟩
 all_goals ((obtain ⟨h0,⟨h1,h2⟩,⟨h3,h3'⟩,h4,h5⟩:=hI;simp only [Ac,gt_iff_lt] at c1;(try rw [AI (x:=s.j-1)]);have g0:∀k:aC,k<M s.data->0<=s.data.getD k (Ty.dflt A7)/\s.data.getD k (Ty.dflt A7)<(M s.b0:Y):=(λk hk=>h4 _ GN);first|omega|exact ⟨rfl,h5,g0 _ A0,g0 _ A0⟩ |(simp only [C4];omega) |exact ⟨rfl,AJ⟩))
def aTP:Rg.Ok:={}
def aSr:Rg.Pf (acU):=⟨anz,λs h=>rfl,ahS,afN⟩
def au9:SA 4 aIL Rg:=s2 aTP aSr Ph kQ
def aJw:Rs m8 awo sP (λs:No=>bub (ltD s.b0 s.b1) s.j.toNat s.data) (λx s' (v:aB)=>x=.exit 2/\s'.data=v):=Dp aTP aSr (λs hI=>by
  obtain ⟨h0,⟨h1,h2⟩,⟨h3,h3'⟩,h4,h5⟩:=hI;refine AH (λc1=>?_) λc1=>?_
  ·have c1:s.a<s.j:=A8
   rw [AI (x:=s.j-1)]
   have e:s.j.toNat=(s.j-1).toNat+1:=A0
   refine AH (λc2=>?_) λc2=>?_
   ·show bub _ _ _=bub _ _ _
    rw [e,bub,AD (by unfold ltD;rw [e] at c2;exact c2)]
    rfl
   ·refine ⟨rfl,?_⟩
    rw [e] at c2;rw [e,bub,AE λhh=>absurd ((show U=_ from hh.symm).trans c2) Ad]
  ·have c1:s.j<=s.a:=A8
   refine ⟨rfl,?_⟩;rw [show s.j.toNat=0 by omega]
   rfl)
structure Kk where
 (a b i:Y)
 b0:ba
 b1:Y
 data:aB
def aIM:=bN f229 0
def aBs (s:Kk):T (Rd Kk):=letI c:=(sP (⟨s.a,s.b,s.i,s.i,s.b0,s.b1,s.data⟩:No));.br (an<|s.i<s.b) (.rl s.data<|.req (Rg.q (⟨s.a,s.b,s.i,s.i,s.b0,s.b1,s.data⟩:No))<|.rl c.data<|.nx {s with i:=AA<|s.i+1,data:=c.data})<|.rl s.data<|.so (.exit 0) s
def m9 (s:Kk):Prop:=s.i=1/\(s.a=0/\s.b=(M s.data:Y))/\(M s.data=M s.b0/\(M s.data:Y)<=1000)/\(∀x∈s.data,0<=x/\x<(M s.b0:Y))/\Iv s.b0 s.b1
def ZT (s:Kk):Prop:=1<=s.i/\(s.a=0/\s.b=(M s.data:Y))/\(M s.data=M s.b0/\(M s.data:Y)<=1000)/\(∀x∈s.data,0<=x/\x<(M s.b0:Y))/\Iv s.b0 s.b1
def xE (s:Kk):aC:=(s.b-s.i).toNat
def acV (x:Ex) (s s':Kk):Prop:=x=.exit 0
def ao0:∀s,m9 s->ZT s:=by
 exact nq
def xr (s:Kk) (hI:ZT s) (c1:s.i<s.b):m8 ⟨s.a,s.b,s.i,s.i,s.b0,s.b1,s.data⟩:=by
 obtain ⟨h0,⟨h1,h2⟩,h3⟩:=hI;exact ⟨h1,⟨A8,A8⟩,h3⟩
def ahT:Da ZT xE acV aBs:=by
 intro s hI
 have hin:=λc1=>xr s hI c1
 obtain ⟨h0,⟨h1,h2⟩,⟨h3,h3'⟩,h4,h5⟩:=hI;refine AH (λc1=>?_) λc1=>rfl
 have c1:s.i<s.b:=A8
 obtain ⟨q1,q2⟩:=aJw _<|hin c1
 have hp:=arX (lt:=ltD s.b0 s.b1) (j:=s.i.toNat) (l:=s.data) A0
 rw [AI (x:=s.i+1),q2];exact ⟨⟨A8,⟨h1,by simp only [hp.length_eq];exact h2⟩,⟨by simp only [hp.length_eq];exact h3,by simp only [hp.length_eq];exact h3'⟩,λx hx=>h4 x<|hp.subset hx,h5⟩,by simp only [xE];omega⟩
def Rh:AR Kk:=⟨4,53,[0,1,2,3,8],[],λs=>[.os 2 1 0<|M s.data,s.a,s.b,.fn 157 [.own 0 0,.own 3 0],s.i],λs=>[⟨[s.b0],55,.cl,X⟩,⟨[s.b1],3,.cl,X⟩,bV 3 A7 s.data,⟨[.fn 155 [.own 0 0,.own 1 0]],173,.cl,X⟩],λv b=>⟨AL v 1,AL v 2,AL v 4,AF Ai b 0 0,Am b 1 0,Ab A7 b 2⟩,aBs,λs r=> {s with i:=r.i,data:=r.data},λs=>s,λ_ s=>s,[.exit 0],m9,ZT,xE⟩
abbrev WI:=Rh.run
abbrev awp:=Rh.At
def afO:Rq ZT aBs:=by
 intro s hI;refine ⟨λc1=>⟨A9,?_,A9,ak⟩,λc1=>⟨A9,ak⟩⟩
 ·exact ⟨xr s hI A8,rfl,rfl⟩
def aTQ:Rh.Ok:={}
def aSs:Rh.Pf (acV):=⟨ao0,λs h=>rfl,ahT,afO⟩
def ta:SA 4 aIM Rh:=AR.snd aTQ aSs (Fp (Γ:=Ph) (K:=kQ) (L:=(LF (λi=>if i=4 then Rg.lp else Ao i))) (gk Ph) kQ.h aIM (λb hb=>by
 rw [show BC _=[aIL] by kernel_rfl] at hb
 simp only [B6,Bv,Bt] at hb;subst hb;exact au9)) λs=>AV
def awE:Rs m9 awp WI (λs:Kk=>Mn (ltD s.b0 s.b1) s.data s.i.toNat) (λx s' (v:aB)=>x=.exit 0/\s'.data=v):=Dp aTQ aSs (λs hI=>by
  have hin:=λc1=>xr s hI c1
  obtain ⟨h0,⟨h1,h2⟩,⟨h3,h3'⟩,h4,h5⟩:=hI;refine AH (λc1=>?_) λc1=>?_
  ·have c1:s.i<s.b:=A8
   obtain ⟨q1,q2⟩:=aJw _<|hin c1
   have q2:(sP ⟨s.a,s.b,s.i,s.i,s.b0,s.b1,s.data⟩).data=bub (ltD s.b0 s.b1) s.i.toNat s.data:=q2
   rw [AI (x:=s.i+1)]
   show Mn _ _ _=Mn _ _ _
   rw [q2,show (s.i+1).toNat=s.i.toNat+1 by omega,aeP A0]
  ·have c1:s.b<=s.i:=A8
   exact ⟨rfl,(apx A0).symm⟩)
structure Ny where
 (n FU a b:Y)
 b0:ba
 b1:Y
 data:aB
def aBH (s:Ny):T (Rd Ny):=letI c:=(WI (⟨s.a,s.b,AA<|s.a+1,s.b0,s.b1,s.data⟩:Kk));.br (an<|s.b<=s.n) (.rl s.data<|.req (Rh.q (⟨s.a,s.b,AA<|s.a+1,s.b0,s.b1,s.data⟩:Kk))<|.re (M s.data) c.data<|.nx {s with a:=s.b,b:=AA<|s.b+s.FU,data:=c.data})<|.rl s.data<|.so (.exit 0) s
def mV (s:Ny):Prop:=s.b=20/\s.n<20
def YK (s:Ny):Prop:=s.b=20/\s.n<20
def aU3 (s:Ny):aC:=0
def aaz (x:Ex) (s s':Ny):Prop:=x=.exit 0
def alv:∀s,mV s->YK s:=by
 exact λs h=>h
def ayC:Da YK aU3 aaz aBH:=by
 intro s hI;obtain ⟨h0,h1⟩:=hI;refine AH (λc1=>absurd (show s.b<=s.n by grind) A0) λc1=>rfl
def ZC:AR Ny:=⟨4,63,[0,1,2,6,7,8],[],λs=>[.os 2 1 0<|M s.data,s.n,.fn 157 [.own 0 0,.own 3 0],s.FU,s.a,s.b],λs=>[⟨[s.b0],55,.cl,X⟩,⟨[s.b1],3,.cl,X⟩,bV 3 A7 s.data,⟨[.fn 155 [.own 0 0,.own 1 0]],173,.cl,X⟩],λv b=>⟨AL v 1,AL v 3,AL v 4,AL v 5,AF Ai b 0 0,Am b 1 0,Ab A7 b 2⟩,aBH,λs r=> {s with a:=r.a,b:=r.b,data:=r.data},λs=>s,λ_ s=>s,[.exit 0],mV,YK,aU3⟩
abbrev JD:=ZC.run
abbrev avk:=ZC.At
def ao9:Ax:=kI Ph<|la 1 func229 ta<|l0 Ph
def az0:Rq YK aBH:=by
 intro s hI;refine ⟨λc1=>⟨A9,?_,?_,ak⟩,λc1=>⟨A9,ak⟩⟩
 all_goals ((simp only [Ac] at c1;exact absurd c1 (by have:=hI;unfold YK at this;omega)))
def aTg:ZC.Ok:={}
def aS0:ZC.Pf (aaz):=⟨alv,λs h=>rfl,ayC,az0⟩
def aJU:=s2 (b:=bN f196 0) aTg aS0 Ph ao9
def atO:Rs mV avk JD (λs:Ny=>(s.data,s.a)) (λx s' (v:List Int×Int)=>x=.exit 0/\(s'.data,s'.a)=v):=Dp aTg aS0 (λs hI=>by
  obtain ⟨h0,h1⟩:=hI;exact AH (λc1=>absurd (show s.b<=s.n by grind) A0) λc1=>⟨rfl,rfl⟩)
def akG:aD->T LV:=λ_=> .req False<|.ok<|.v undef
def ayb:VV 230 akG:=by
 intro _ _ _ _ _ _ _ _ _ h;exact h.1.elim
structure PR where
 (n FU a b:Y)
 b0:ba
 b1:Y
 data:aB
def aHi:=lN (bN f196 1) 0
def aBF (s:PR):T (Rd PR):=
 .br (an<|s.b<=s.n) (.rz s.data<|.req False<|.rl s.data<|.nx {s with a:=s.b,b:=AA<|s.b+(AA<|2*s.FU)}) (.rl s.data<|.so (.exit 4) s)
def ack (s:PR):Prop:=False
def lG (s:PR):Prop:=False
def aU1 (s:PR):aC:=0
def aav (x:Ex) (s s':PR):Prop:=True
def alr:∀s,ack s->lG s:=by
 exact λs h=>h
def ayA:Da lG aU1 aav aBF:=by
 intro s hI;exact hI.elim
def Ub:AR PR:=⟨4,63,[0,1,2,6,7,8],[],λs=>[.os 2 1 0<|M s.data,s.n,.fn 157 [.own 0 0,.own 3 0],s.FU,s.a,s.b],λs=>[⟨[s.b0],55,.cl,X⟩,⟨[s.b1],3,.cl,X⟩,bV 3 A7 s.data,⟨[.fn 155 [.own 0 0,.own 1 0]],173,.cl,X⟩],λv b=>⟨AL v 1,AL v 3,AL v 4,AL v 5,AF Ai b 0 0,Am b 1 0,Ab A7 b 2⟩,aBF,λs r=> {s with a:=r.a,b:=r.b},λs=>s,λ_ s=>s,[.exit 4],ack,lG,aU1⟩
abbrev att:=Ub.run
def Pv:aN:=[vK,aXJ,ayb]
def aCt:Ax:=kI Pv<|la 2 func196 aJU<|la 1 func229 ta<|l0 Pv
def azY:Rq lG aBF:=by
 intro s hI;refine ⟨λc1=>⟨?_,?_,A9,ak⟩,λc1=>⟨A9,ak⟩⟩
 all_goals (exact hI.elim)
def ah4:Ub.Ok:={}
def agu:Ub.Pf (aav):=⟨alr,λs h=>rfl,ayA,azY⟩
def ash:SA 4 aHi Ub:=s2 ah4 agu Pv aCt
structure PS where
 (n FU:Y)
 b0:ba
 b1:Y
 data:aB
def aIe:=bN f196 1
def aBG (s:PS):T (Rd PS):=
 .br (an<|s.FU<s.n) (.rl s.data<|.req (Ub.q (⟨s.n,s.FU,0,AA<|2*s.FU,s.b0,s.b1,s.data⟩:PR))<|.br (an<|(AA<|(att (⟨s.n,s.FU,0,AA<|2*s.FU,s.b0,s.b1,s.data⟩:PR)).a+s.FU)<s.n) (.rz s.data<|.req False<|.rl s.data<|.nx {s with FU:=AA<|s.FU*2})<|.rl s.data<|.nx {s with FU:=AA<|s.FU*2}) (.rl s.data<|.so (.exit 2) s)
def aE6 (s:PS):Prop:=s.FU=20/\s.n<20
def YJ (s:PS):Prop:=s.FU=20/\s.n<20
def aU2 (s:PS):aC:=0
def aax (x:Ex) (s s':PS):Prop:=x=.exit 2
def alu:∀s,aE6 s->YJ s:=by
 exact λs h=>h
def ayB:Da YJ aU2 aax aBG:=by
 intro s hI;obtain ⟨h0,h1⟩:=hI;refine AH (λc1=>absurd (show s.FU<s.n by grind) A0) λc1=>rfl
def pE:AR PS:=⟨4,63,[0,1,2,6],[],λs=>[.os 2 1 0<|M s.data,s.n,.fn 157 [.own 0 0,.own 3 0],s.FU],λs=>[⟨[s.b0],55,.cl,X⟩,⟨[s.b1],3,.cl,X⟩,bV 3 A7 s.data,⟨[.fn 155 [.own 0 0,.own 1 0]],173,.cl,X⟩],λv b=>⟨AL v 1,AL v 3,AF Ai b 0 0,Am b 1 0,Ab A7 b 2⟩,aBG,λs r=> {s with FU:=r.FU},λs=>s,λ_ s=>s,[.exit 2],aE6,YJ,aU2⟩
def azZ:Rq YJ aBG:=by
 intro s hI;refine ⟨λc1=>⟨A9,?_,λc2=>⟨?_,?_,A9,ak⟩,λc2=>⟨A9,ak⟩⟩,λc1=>⟨A9,ak⟩⟩
 all_goals ((simp only [Ac] at c1;exact absurd c1 (by have:=hI;unfold YJ at this;omega)))
def ah5:pE.Ok:={}
def agv:pE.Pf (aax):=⟨alu,λs h=>rfl,ayB,azZ⟩
def asi:SA 4 aIe pE:=AR.snd ah5 agv (Fp (Γ:=Pv) (K:=aCt) (L:=(LF (λi=>if i=9 then Ub.lp else Ao i))) (gk Pv) aCt.h aIe (λb hb=>by
 rw [show BC _=[aHi] by kernel_rfl] at hb
 simp only [B6,Bv,Bt] at hb;subst hb;exact ash)) λs=>AV
def aM9:aD->T LV
 | [.xl (.pair .bool (.pair (.int J) (.pair (.int J) (.int J)))) d,.v (ag J t)]=> .req (Iv d t/\M d<=19) (.ok<|.xl A7<|HT d t)
 |_=> .no
def Lg (d:ba) (t:Y):PU:=(⟨(((M d:Y).toNat:aC):Y),0,d,t,aq (M d:Y).toNat (0:Y)⟩:PU)
def Ih (d:ba) (t:Y):Ny:=(⟨((M (MT<|Lg d t).out:aC):Y),20,0,20,d,t,(MT<|Lg d t).out⟩:Ny)
def WR (d:ba) (t:Y):Kk:=(⟨(JD<|Ih d t).a,((M (MT<|Lg d t).out:aC):Y),AA<|(JD<|Ih d t).a+1,d,t,(JD<|Ih d t).data⟩:Kk)
def aHW (d:ba) (t:Y):PS:=(⟨((M (MT<|Lg d t).out:aC):Y),20,d,t,(WI<|WR d t).data⟩:PS)
def ao8:Ax:=kI Pv<|la 7 func196 asi<|la 2 func196 aJU<|la 1 func229 ta<|l0 Pv
def ayd:=vm (S:=aM9) func121 Pv ao8 (L:=(λi=>if i=3 then S1.lp else Ao i)) (λb hb=>by
 rw [show BC _=[aIp] by kernel_rfl] at hb
 simp only [B6,Bv,Bt] at hb;subst hb;exact atA) (λargs lv h=>by
 unfold aM9 at h;split at h
 ·rename_i d t
  refine Aq (letI b:=M (MT<|Lg d t).out;letI c:=(M d:Y);letI e:=WI<|WR d t;.rm 8 c<|.re c.toNat (aq c.toNat (0:Y))<|.req (S1.q<|Lg d t)<|.rl (MT<|Lg d t).out<|.req (ZC.q<|Ih d t)<|.rl (JD<|Ih d t).data<|.req (Rh.q<|WR d t)<|.re (M (JD<|Ih d t).data) e.data<|.req (pE.q<|aHW d t)<|.req (0+b<=M e.data)<|.ok<|.xl A7<|(e.data.drop 0).take b) ?_;obtain ⟨⟨hw,hd⟩,rfl⟩:=h
  have hE:lV (Lg d t):=⟨rfl,LW,by show (((M d:Y).toNat:aC):Y)=(M d:Y);omega,by show (((M d:Y).toNat:aC):Y)<=1000;omega,by show M (aq _ (0:Y))=M d;rw [CV];omega⟩
  obtain ⟨_,_,_,q1⟩:=av6 _ hE
  have q1:(MT<|Lg d t).out=G2 (M d):=q1
  have hl:M (MT<|Lg d t).out=M d:=by rw [q1,Oz]
  have hE2:mV (Ih d t):=⟨rfl,aPo⟩
  obtain ⟨_,q2⟩:=atO _ hE2
  have q2a:(JD<|Ih d t).data=G2 (M d):=(B0 Prod.fst q2).trans q1
  have q2b:(JD<|Ih d t).a=0:=B0 Prod.snd q2
  have hE3:m9 (WR d t):=⟨by show AA ((JD<|Ih d t).a+1)=1;rw [q2b];rfl,⟨q2b,by show ((M (MT<|Lg d t).out:aC):Y)=(M (JD<|Ih d t).data:Y);rw [q2a,hl,Oz]⟩,⟨by show M (JD<|Ih d t).data=M d;rw [q2a,Oz],by show (M (JD<|Ih d t).data:Y)<=1000;rw [q2a,Oz];omega⟩,λx hx=>aHM.1 (by have hx:x∈(JD<|Ih d t).data:=hx;rw [q2a] at hx;exact hx),hw⟩
  obtain ⟨_,q3⟩:=awE _ hE3
  have q3:(WI<|WR d t).data=HT d t:=q3.trans (by
   show Mn (ltD d t) (JD<|Ih d t).data (AA<|(JD<|Ih d t).a+1).toNat=_
   rw [q2b,q2a];exact apw)
  have hl3:M (WI<|WR d t).data=M d:=by rw [q3,aHD]
  have hE4:aE6 (aHW d t):=⟨rfl,aPo⟩
  refine ⟨⟨A0,A0,A0,A0⟩,⟨rfl,AJ⟩,⟨hE,rfl,rfl⟩,A9,⟨hE2,rfl,rfl⟩,A9,⟨hE3,rfl,rfl⟩,⟨rfl,by rw [q2a,Oz,hl3]⟩,⟨hE4,rfl,rfl⟩,A0,?_⟩
  show LV.xl _ _=_
  rw [CZ,hl,<-hl3,El,q3]
 ·cases h)
structure Lr where
 rs:bw
 (tick n t15:Y)
 offers:aB
 m:aF
 (k i:Y)
 ajW:aJ
 c1:aE
 c2:aP
 c3:aF
 c4:aQ
 NV:aL
 aqM:ba
 Tn:Y
 (axn GO:aB)
 next:bw
 D2:aL
def aIS:=bN f98 0
def uu (s:Lr) (e:Y) (w:aM) (x:Y) (y:Y):T (Rd Lr):=letI a:=(s.n,(s.i,(x,(s.tick,(12:Y)))));letI b:=(s.next.set s.i.toNat (x,y));letI c:=s.GO.set s.i.toNat x;letI d:=M s.next;letI f:=M s.GO;.br (an<|s.i<s.k) (.ix s.i (M s.m)<|.ix s.i (M s.rs)<|.ix s.i (M s.offers)<|.br (e !=0) (.rl s.GO<|.rl s.next<|.rl s.D2<|.so (.ret) {s with t15:=(1:Y)})<|.ik s.i f<|.ik s.i d<|.req ((0<=s.i/\s.i<(M s.c3:Y))/\(M s.NV:Y)<=1000/\0<=s.Tn/\s.Tn<=1000000)<|.br w (.rb (M s.D2) (M<|[a]) 40<|.re f c<|.re d b<|.re (M s.D2+M ([a])) (s.D2++([a]))<|.nx {s with n:=AA<|s.n+1,i:=AA<|s.i+1,GO:=c,next:=b,D2:=s.D2++([a])})<|.re f c<|.re d b<|.rl s.D2<|.nx {s with i:=AA<|s.i+1,GO:=c,next:=b})<|.rl s.GO<|.rl s.next<|.rl s.D2<|.so (.exit 0) s
abbrev aC8 (s:Lr):=letI a:=AG s.m s.i;letI c:=C6 s.rs s.i;letI d:=gi s.offers s.i;letI b:=nA a.2.2.1 a.2.2.2.1 a.2.2.2.2.1 a.2.2.2.2.2.1 a.2.2.2.2.2.2.1 c.1 c.2 d;uu s (nE a.2.2.1 a.2.2.2.1 a.2.2.2.2.1 a.2.2.2.2.2.1 a.2.2.2.2.2.2.1 c.1 c.2 d) (nwB s.c3 s.NV s.Tn s.i b) b<|nS a.2.2.1 a.2.2.2.1 a.2.2.2.2.1 a.2.2.2.2.2.1 a.2.2.2.2.2.2.1 c.1 c.2 d
def Z9 (s:Lr):Prop:=s.i=0/\s.D2=[]/\(s.k=(M s.m:Y)/\s.k<=16)/\(s.c3=s.m/\s.Tn=s.tick)/\((M s.NV:Y)<=1000/\0<=s.tick/\s.tick<=1000000)/\(M s.rs=M s.m/\M s.offers=M s.m/\M s.GO=M s.m/\M s.next=M s.m)/\dcK s.m s.rs s.offers/\1<=s.n-(M s.D2:Y)/\s.n-(M s.D2:Y)<=999900
def RU (s:Lr):Prop:=letI a:=(M s.D2:Y);(0<=s.i/\s.i<=s.k)/\(∀j,0<=j->j<s.i->gi s.GO j=nxA (AG s.m j) (C6 s.rs j) (gi s.offers j)/\C6 s.next j=(nxA (AG s.m j) (C6 s.rs j)<|gi s.offers j,nxS (AG s.m j) (C6 s.rs j)<|gi s.offers j))/\s.D2=HL s.m s.NV s.tick (s.n-a) (FJ s.m s.rs s.offers<|M s.m) s.i.toNat/\(s.k=(M s.m:Y)/\s.k<=16)/\(s.c3=s.m/\s.Tn=s.tick)/\((M s.NV:Y)<=1000/\0<=s.tick/\s.tick<=1000000)/\(M s.rs=M s.m/\M s.offers=M s.m/\M s.GO=M s.m/\M s.next=M s.m)/\dcK s.m s.rs s.offers/\1<=s.n-a/\s.n-a<=999900
def XK (s:Lr):aC:=(s.k-s.i).toNat
def lE (x:Ex) (s s':Lr):Prop:=x=.exit 0/\s'.GO=FJ s'.m s'.rs s'.offers (M s'.m)/\s'.next=dcR s'.m s'.rs s'.offers (M s'.m)/\s'.D2=HL s'.m s'.NV s'.tick (s'.n-(M s'.D2:Y)) (FJ s'.m s'.rs s'.offers<|M s'.m) (M s'.m)
def aoq:∀s,Z9 s->RU s:=by
 rintro s ⟨h0,h1,h2⟩
 exact ⟨A0,λj j0 j1=>A0,oe,h2⟩
def awL (s:Lr) (hI:RU s) (e:Y) (w:aM) (x:Y) (y:Y) (he:nE (AG s.m s.i).2.2.1 (AG s.m s.i).2.2.2.1 (AG s.m s.i).2.2.2.2.1 (AG s.m s.i).2.2.2.2.2.1 (AG s.m s.i).2.2.2.2.2.2.1 (C6 s.rs s.i).1 (C6 s.rs s.i).2 (gi s.offers s.i)=e) (hw:nwB s.c3 s.NV s.Tn s.i (nA (AG s.m s.i).2.2.1 (AG s.m s.i).2.2.2.1 (AG s.m s.i).2.2.2.2.1 (AG s.m s.i).2.2.2.2.2.1 (AG s.m s.i).2.2.2.2.2.2.1 (C6 s.rs s.i).1 (C6 s.rs s.i).2<|gi s.offers s.i)=w) (hx:nA (AG s.m s.i).2.2.1 (AG s.m s.i).2.2.2.1 (AG s.m s.i).2.2.2.2.1 (AG s.m s.i).2.2.2.2.2.1 (AG s.m s.i).2.2.2.2.2.2.1 (C6 s.rs s.i).1 (C6 s.rs s.i).2 (gi s.offers s.i)=x) (hy:nS (AG s.m s.i).2.2.1 (AG s.m s.i).2.2.2.1 (AG s.m s.i).2.2.2.2.1 (AG s.m s.i).2.2.2.2.2.1 (AG s.m s.i).2.2.2.2.2.2.1 (C6 s.rs s.i).1 (C6 s.rs s.i).2 (gi s.offers s.i)=y):DF (λs'=>RU s'/\XK s'<XK s) (λx s'=>lE x s s') ((uu s e w x y).rd s):=by
 unfold uu;dsimp only [T.rd,T.rl,T.rv];obtain ⟨⟨h0,h1⟩,hA,hL,⟨h2,h3⟩,⟨h4,h5⟩,h6,⟨h7,h8,h9,h10⟩,hk,h11⟩:=hI
 have hll:M s.D2<=s.i.toNat:=aAU
 refine AH (λc1=>?_) λc1=>?_
 ·refine AH (λc2=>?_) (λc2=>?_)
  ·have c1:s.i<s.k:=AX
   have hm:s.i<(M s.m:Y):=A0
   exact absurd (he.symm.trans<|amd<|hk s.i h0 hm) Dl
  ·refine AH (λc3=>?_) (λc3=>?_)
   ·have c1:s.i<s.k:=AX
    have hm:s.i<(M s.m:Y):=A0
    have hx':nxA (AG s.m s.i) (C6 s.rs s.i) (gi s.offers s.i)=x:=hx
    have hy':nxS (AG s.m s.i) (C6 s.rs s.i) (gi s.offers s.i)=y:=hy
    have hA':∀j,0<=j->j<s.i+1->gi (s.GO.set s.i.toNat x) j=nxA (AG s.m j) (C6 s.rs j) (gi s.offers j)/\C6 (s.next.set s.i.toNat (x,y)) j=(nxA (AG s.m j) (C6 s.rs j)<|gi s.offers j,nxS (AG s.m j) (C6 s.rs j)<|gi s.offers j):=λj j0 j1=>by
     exact aON
    have hs:s.i.toNat+1=(s.i+1).toNat:=A0
    have hg:gi (FJ s.m s.rs s.offers<|M s.m) (s.i.toNat:aC)=x:=aQx
    have hw':nwB s.m s.NV s.tick (s.i.toNat:aC) x=w:=by rw [Bs h0,<-hw,h4,h5];rw [<-hx]
    rw [AI (x:=s.i+1),AI (x:=s.n+1)]
    have hn:s.n+1-((M (s.D2++[(s.n,s.i,x,s.tick,12)]):aC):Y)=s.n-(M s.D2:Y):=by
     exact aPG
    refine ⟨⟨⟨Aa,Aa⟩,hA',?_,⟨h2,h3⟩,⟨h4,h5⟩,h6,⟨h7,h8,aQh,aQe⟩,hk,by simp only;rw [hn];exact h11⟩,by simp only [XK];omega⟩
    simp only;rw [hn,<-hs,HL,<-hL,hg,hw',c3,AD rfl,Bs h0,show s.n-(M s.D2:Y)+(M s.D2:Y)=s.n by omega]
   ·have c1:s.i<s.k:=AX
    have hm:s.i<(M s.m:Y):=A0
    have hx':nxA (AG s.m s.i) (C6 s.rs s.i) (gi s.offers s.i)=x:=hx
    have hy':nxS (AG s.m s.i) (C6 s.rs s.i) (gi s.offers s.i)=y:=hy
    have hA':∀j,0<=j->j<s.i+1->gi (s.GO.set s.i.toNat x) j=nxA (AG s.m j) (C6 s.rs j) (gi s.offers j)/\C6 (s.next.set s.i.toNat (x,y)) j=(nxA (AG s.m j) (C6 s.rs j)<|gi s.offers j,nxS (AG s.m j) (C6 s.rs j)<|gi s.offers j):=λj j0 j1=>by
     exact aON
    have hs:s.i.toNat+1=(s.i+1).toNat:=A0
    have hg:gi (FJ s.m s.rs s.offers<|M s.m) (s.i.toNat:aC)=x:=aQx
    have hw':nwB s.m s.NV s.tick (s.i.toNat:aC) x=w:=A8
    rw [AI (x:=s.i+1)];refine ⟨⟨⟨Aa,Aa⟩,hA',?_,⟨h2,h3⟩,⟨h4,h5⟩,h6,⟨h7,h8,aQh,aQe⟩,hk,h11⟩,by simp only [XK];omega⟩
    simp only;rw [<-hs,HL,<-hL,hg,hw',c3,AE Ad,Gm]
 ·have c1:s.k<=s.i:=AX
  have hi:s.i.toNat=M s.m:=A0
  refine ⟨rfl,ad1 (by rw [h9];exact Ib.symm) λj j0 j1=>?_,avb (by rw [h10,gu]) λj j0 j1=>?_,by have hL':=hL;rw [hi] at hL';exact hL'⟩
  ·rw [FJ,Ib] at j1
   rw [FJ,NQ j0 j1];exact (hA j j0 A0).1
  ·rw [gu] at j1
   rw [ajm j0 j1];exact (hA j j0 A0).2
def ajl:Da RU XK lE aC8:=λs hI=>awL s hI _ _ _ _ rfl rfl rfl rfl
def Rj:AR Lr:=⟨0,108,[2,4,5,12,13,14,15,16,17,19,20,21,57,58,59],[.nl 21 139 AO],λs=>[s.rs,s.tick,s.n,.v<|.slice aj 0 0,.v<|.slice aj 0 0,.v<|.slice aj 0 0,s.t15,.own 0 0,.xl A7 s.offers,.os 1 1 0<|M s.GO,.os 2 2 0<|M s.next,.os 3 5 0<|M s.D2,s.m,s.k,s.i],λs=>[⟨[s.ajW,s.c1,s.c2,s.c3,s.c4,s.NV,s.aqM,s.Tn,.xl A7 s.axn],228,.cl,U⟩,bV 3 A7 s.GO,bV 143 Ag s.next,bV 139 AO s.D2],λv b=>⟨B1 Ag v 0,AL v 1,AL v 2,AL v 6,B1 A7 v 8,B1 Af v 12,AL v 13,AL v 14,AF Ae b 0 0,AF .str b 0 1,AF Ak b 0 2,AF Af b 0 3,AF Al b 0 4,AF AO b 0 5,AF Ai b 0 6,Am b 0 7,AF A7 b 0 8,Ab A7 b 1,Ab Ag b 2,Ab AO b 3⟩,aC8,λs r=> {s with n:=r.n,t15:=r.t15,i:=r.i,GO:=r.GO,next:=r.next,D2:=r.D2},λs=>s,λ_ s=>s,[.ret,.exit 0],Z9,RU,XK⟩
abbrev JE:=Rj.run
abbrev uZ:=Rj.At
def afc:Rq RU aC8:=by
 intro s hI;refine ⟨λc1=>⟨?_,?_,?_,λc2=>⟨A9,A9,A9,ak⟩,λc2=>⟨?_,?_,?_,?_,?_,λc3=>⟨?_,?_,?_,?_,ak⟩,λc3=>⟨?_,?_,A9,ak⟩⟩⟩,λc1=>⟨A9,A9,A9,ak⟩⟩
 all_goals ((obtain ⟨⟨h0,h1⟩,hA,hL,⟨h2,h3⟩,⟨h4,h5⟩,h6,⟨h7,h8,h9,h10⟩,hk,h11⟩:=hI;have hll:M s.D2<=s.i.toNat:=aAU;(try simp only [Ac] at c1);have hl3:M s.c3=M s.m:=B0 M h4;first|omega|exact ⟨rfl,AJ⟩ |(refine ⟨A0,?_,?_⟩<;>simp only [Bm,C3]<;>omega)))
def ac2:aN:=[ayd,ayo,ayq,ayf,ayr]
def va:Rj.Ok:={}
def vw:Rj.Pf (lE):=⟨aoq,λs h=>rfl,ajl,afc⟩
def auI:SA 0 aIS Rj:=s1 va vw ac2 kN
def awJ:Fi Z9 RU lE uZ JE:=AR.fin va vw
def awG:Rs Z9 uZ JE (λs:Lr=>s.n-(M s.D2:Y)) (λx s' (v:Y)=>s'.n-(M s'.D2:Y)=v):=Dp va vw (λs hI=>by
  obtain ⟨⟨h0,h1⟩,hA,hL,⟨h2,h3⟩,⟨h4,h5⟩,h6,⟨h7,h8,h9,h10⟩,hk,h11⟩:=hI
  have hll:M s.D2<=s.i.toNat:=aAU
  refine AH (λc1=>?_) λc1=>?_
  ·refine AH (λc2=>?_) (λc2=>?_)
   ·rfl
   ·refine AH (λc3=>?_) (λc3=>?_)
    ·have c1:s.i<s.k:=A8
     rw [AI (x:=s.n+1)]
     show s.n+1-((M (s.D2++[_]):aC):Y)=s.n-(M s.D2:Y)
     exact aPG
    ·rfl
  ·rfl)
def aLT:aD->T LV
 | .agg a::r=>s5 a λcs os ks gs bs=>(match r with
  | [.xl (.pair (.int J) (.pair (.int J) (.pair (.int J) (.pair (.int J) (.int J))))) l,.xl (.pair (.int J) (.int J)) rs,.xl (.pair .bool (.pair (.int J) (.pair (.int J) (.int J)))) d,.v (ag J t),.v (ag J n)]=> .req (Iv d t/\M d<=19) (.ok<|.AQ [.xl A7<|deA cs os ks gs bs l rs d t n,deR cs os ks gs bs l rs d t n,deL cs os ks gs bs l rs d t n,deE cs os ks gs bs l rs d t n])
  |_=> .no)
 |_=> .no
def df (cs:aJ) (os:aE) (ks:aP) (gs:aF) (bs:aQ) (l:aL) (rs:bw) (d:ba) (t n:Y):Lr:=letI a:=ofO cs os ks gs bs l d t<|HT d t;(⟨rs,t,n,0,a,gs,(M gs:Y),0,cs,os,ks,gs,bs,l,d,t,HT d t,aq (M a:Y).toNat (0:Y),aq (M a:Y).toNat ((0:Y),(0:Y)),([]:aL)⟩:Lr)
def aRM:=vm (S:=aLT) func98 ac2 kN (L:=(λi=>if i=11 then Rj.lp else Ao i)) (λb hb=>by
 rw [show BC _=[aIS] by kernel_rfl] at hb
 simp only [B6,Bv,Bt] at hb;subst hb;exact auI) (λargs lv h=>by
 unfold aLT at h;split at h
 case h_2=>cases h
 replace h:=Ij h
 obtain ⟨cs,os,ks,gs,bs,rfl,h⟩:=h;split at h
 ·rename_i l rs d t n
  refine Aq (letI a:=df cs os ks gs bs l rs d t n;letI b:=(M (ofO cs os ks gs bs l d t<|HT d t):Y);.req (Iv d t/\M d<=19)<|.br (!(Je cs os ks gs bs l rs d t n)) (.ok<|.AQ [.xl A7 ([]:aB),.xl Ag ([]:bw),.xl AO ([]:aL),(1:Y)])<|.req (M d=M gs/\G1 cs os ks gs bs (Bq gs) (JL gs d) (HT d t)=U/\K8 l (M gs:Y) t=U/\G1 cs os ks gs bs (D4 gs l t) (Fe cs os ks gs bs (Bq gs) (JL gs d)<|HT d t) (HT d t)=U)<|.br ((0:Y) !=0) (.ok<|.AQ [.xl A7 ([]:aB),.xl Ag ([]:bw),.xl AO ([]:aL),(1:Y)])<|.rm 8 b<|.rm 16 b<|.re b.toNat (aq b.toNat (0:Y))<|.re b.toNat (aq b.toNat ((0:Y),(0:Y)))<|.r0 Le<|.req (Rj.q a)<|.br (Bj (uZ a)<|.ret) (.ok<|.AQ [.xl A7 ([]:aB),.xl Ag ([]:bw),.xl AO ([]:aL),(JE a).t15])<|.rz (JE a).GO<|.rz (JE a).next (.rz (JE a).D2<|.ok<|.AQ [.xl A7<|((JE a).GO.drop 0).take<|M (JE a).GO,(((JE a).next.drop 0).take<|M (JE a).next),(((JE a).D2.drop 0).take<|M (JE a).D2),(0:Y)])) ?_;obtain ⟨hw,rfl⟩:=h;refine ⟨hw,λc=>?_,λc=>?_⟩
  ·unfold deA deR deL deE
   rw [ntW c];rfl
  have c:=nfW c
  have V:=aXm c
  have ol:M (ofO cs os ks gs bs l d t<|HT d t)=M gs:=(aaK V).1
  have hE:Z9 (df cs os ks gs bs l rs d t n):=⟨rfl,rfl,⟨rfl,by have:=V.gl;show (M gs:Y)<=16;omega⟩,A9,⟨by have:=(GP V.les).1;show (M l:Y)<=1000;omega,V.tb⟩,⟨V.rl,ol,by show M (aq _ (0:Y))=M gs;rw [CV];omega,by show M (aq _ ((0:Y),(0:Y)))=M gs;rw [CV];omega⟩,aUv V,by have:=V.nb;show 1<=n-(0:Y);omega,by have:=V.nb;show n-(0:Y)<=999900;omega⟩
  obtain ⟨_,_,q1,q2,q3,q4⟩:=awJ _ hE
  have hn:=awG _ hE
  have hn:=hn.trans<|QJ n
  have q2:(JE<|df cs os ks gs bs l rs d t n).GO=deA cs os ks gs bs l rs d t n:=q2.trans (by unfold deA;rw [AD c];rfl)
  have q3:(JE<|df cs os ks gs bs l rs d t n).next=deR cs os ks gs bs l rs d t n:=q3.trans (by unfold deR;rw [AD c];rfl)
  rw [hn] at q4
  have q4:(JE<|df cs os ks gs bs l rs d t n).D2=deL cs os ks gs bs l rs d t n:=q4.trans (by unfold deL;rw [AD c];rfl)
  have gl:=V.gl
  refine ⟨⟨V.dl,aXf V.si,axI V,ka V⟩,λc2=>absurd c2 Ad,λ_=>?_⟩
  refine ⟨by rw [ol];omega,by rw [ol];omega,⟨rfl,AJ⟩,⟨rfl,AJ⟩,A9,⟨hE,rfl,rfl⟩,?_⟩
  rw [q1];refine ⟨λh=>As,λ_=>⟨A0,A0,A0,?_⟩⟩
  show LV.AQ [LV.xl _ _,LV.xl _ _,LV.xl _ _,_]=_
  rw [CZ,El,CZ,El,CZ,El,q2,q3,q4];unfold deE;rw [AD c]
 ·cases h)
structure Nh where
 t5:Y
 t23:aB
 (t24 t25:Y)
 BE:aJ
 Bg:aE
 C9:aP
 BP:aF
 CA:aQ
 DE:aB
def aJ3:=bN f14 0
def aB5 (s:Nh):T (Rd Nh):=
 .br (an<|s.t25<s.t24) (.ix s.t25 (M s.t23)<|.br ((an<|(gi s.t23 s.t25)<0) ||(an<|(gi s.t23 s.t25)>80)) (.so (.ret) {s with t5:=(1:Y)})<|.nx {s with t25:=AA<|s.t25+1}) (.so (.exit 0) s)
def ln (s:Nh):Prop:=s.t5=0/\s.t25=0/\s.t24=(M s.t23:Y)/\s.t24<=1000/\∀k:aC,k<M s.t23->0<=gi s.t23 k/\gi s.t23 k<=80
def YB (s:Nh):Prop:=s.t5=0/\(0<=s.t25/\s.t25<=s.t24)/\s.t24=(M s.t23:Y)/\s.t24<=1000/\∀k:aC,k<M s.t23->0<=gi s.t23 k/\gi s.t23 k<=80
def x7 (s:Nh):aC:=(s.t24-s.t25).toNat
def aD5 (x:Ex) (s s':Nh):Prop:=x=.exit 0/\s'.t5=0
def amh:∀s,ln s->YB s:=by
 rintro s ⟨h9,h0,h1,h2,h3⟩
 exact ⟨h9,A0,h1,h2,h3⟩
def ahv:Da YB x7 aD5 aB5:=by
 intro s hI;obtain ⟨h9,⟨h0,h1⟩,h2,h3,h5⟩:=hI;refine AH (λc1=>AH (λc2=>?_) λc2=>?_) λc1=>?_
 ·exfalso
  have c1:s.t25<s.t24:=A8
  have:=h5 s.t25.toNat A0
  rw [Bs h0] at this;simp only [CS,Ac] at c2;omega
 ·have c1:s.t25<s.t24:=A8
  rw [AI (x:=s.t25+1)];exact ⟨⟨h9,⟨A8,A8⟩,h2,h3,h5⟩,by simp only [x7];omega⟩
 ·exact ⟨rfl,h9⟩
def SC:AR Nh:=⟨0,65,[2,3,4,5,23,24,25],[],λs=>[.own 0 0,.own 1 0,.v<|.slice aj 0 0,s.t5,.xl A7 s.t23,s.t24,s.t25],λs=>[⟨[s.BE,s.Bg,s.C9,s.BP,s.CA],28,.cl,X⟩,⟨[.xl A7 s.DE],29,.cl,X⟩],λv b=>⟨AL v 3,B1 A7 v 4,AL v 5,AL v 6,AF Ae b 0 0,AF .str b 0 1,AF Ak b 0 2,AF Af b 0 3,AF Al b 0 4,AF A7 b 1 0⟩,aB5,λs r=> {s with t5:=r.t5,t25:=r.t25},λs=>s,λ_ s=>s,[.ret,.exit 0],ln,YB,x7⟩
abbrev qY:=SC.run
abbrev aKv:=SC.At
def ag5:Rq YB aB5:=by
 intro s hI;refine ⟨λc1=>⟨?_,λ_=>trivial,λ_=>trivial⟩,λ_=>trivial⟩
 ·(simp only [Ac] at c1;obtain ⟨h9,⟨h0,h1⟩,h2,h3⟩:=hI;omega)
def iW:aN:=[PC,iP]
def aUT:Ax:=kI iW<|l0 iW
def aTH:SC.Ok:={}
def aSj:SC.Pf (aD5):=⟨amh,λs h=>rfl,ahv,ag5⟩
def asX:SA 0 aJ3 SC:=s1 aTH aSj iW aUT
def auU:Fi ln YB aD5 aKv qY:=AR.fin aTH aSj
def aCI:Array Tmp×Code×Code:=((JA<|f14.body.getD .skip)[0]?).getD (#[],.skip,.skip)
def alp:aX3:=aCI.1
def amv:bB:=aCI.2.1
def amk:bB:=aCI.2.2
structure K2 where
 BE:aJ
 Bg:aE
 C9:aP
 BP:aF
 CA:aQ
 c:Y
 Bi:aJ
 Gs:aE
 Gq:aP
 Gt:aF
 Gv:aQ
 b1:aB
 b3:bC
 b4:Y
 iA:bz
 (l8 J6 jS jG hM qe rp:Y)
 st:LS
def aB3 (s:K2):T (Rd K2):=letI b:=gi s.b1 s.b4;letI d:=s.c.toNat<M s.b3;letI e:=V5 s.b3 s.c.toNat b;letI g:=M s.b3;letI h:=M s.BE;letI i:=AZ s.BE s.c;letI k:=(Bn J s.J6 4) !=0;letI m:=s.c.toNat<M e;letI a:=Xm s.b3 s.c.toNat b;letI f:=V5 a s.c.toNat b;letI j:=s.c.toNat<M a;letI l:=s.c.toNat<M f;.br (an<|s.c>=0) (.ix s.c g<|.ix s.b4 (M s.b1)<|.br ((Bn J s.J6 1) !=0) (.req d<|.req d<|.br ((Bn J s.J6 2) !=0) (.req j<|.req j<|.br k (.req l<|.req l<|.ix s.c h<|.re g (up3 f s.c.toNat b)<|.nx {s with c:=i.2.1,b3:=up3 f s.c.toNat b})<|.ix s.c h<|.re g f<|.nx {s with c:=i.2.1,b3:=f})<|.br k (.req j<|.req j<|.ix s.c h<|.re g (up3 a s.c.toNat b)<|.nx {s with c:=i.2.1,b3:=up3 a s.c.toNat b})<|.ix s.c h<|.re g a<|.nx {s with c:=i.2.1,b3:=a})<|.br ((Bn J s.J6 2) !=0) (.req d<|.req d<|.br k (.req m<|.req m<|.ix s.c h<|.re g (up3 e s.c.toNat b)<|.nx {s with c:=i.2.1,b3:=up3 e s.c.toNat b})<|.ix s.c h<|.re g e<|.nx {s with c:=i.2.1,b3:=e})<|.br k (.req d<|.req d<|.ix s.c h<|.re g (up3 s.b3 s.c.toNat b)<|.nx {s with c:=i.2.1,b3:=up3 s.b3 s.c.toNat b})<|.ix s.c h<|.rl s.b3<|.nx {s with c:=i.2.1})<|.rl s.b3<|.so (.exit 0) s
def Ua (s:K2):Prop:=s.st=.ready/\Fm s.BE=U/\s.c<(M s.BE:Y)/\M s.b3=M s.BE/\(0<=s.b4/\s.b4<(M s.b1:Y))
def YA (s:K2):Prop:=s.st=.ready/\Fm s.BE=U/\s.c<(M s.BE:Y)/\M s.b3=M s.BE/\(0<=s.b4/\s.b4<(M s.b1:Y))
def aEh (s:K2):aC:=(s.c+1).toNat
def aD3 (x:Ex) (s s':K2):Prop:=x=.exit 0/\s'.c<0
def amf:∀s,Ua s->YA s:=by
 exact λs h=>h
def aht:Da YA aEh aD3 aB3:=by
 intro s hI;obtain ⟨h0,h1,h2,h3,h4⟩:=hI;refine AH (λc1=>?_) λc1=>?_
 ·have c1:0<=s.c:=AX
  have:=R6 h1 c1 h2
  exact AH (λ_=>AH (λ_=>AH (λ_=>⟨⟨h0,h1,Aa,T5,h4⟩,QX⟩) λ_=>⟨⟨h0,h1,Aa,T5,h4⟩,QX⟩) λ_=>AH (λ_=>⟨⟨h0,h1,Aa,T5,h4⟩,QX⟩) λ_=>⟨⟨h0,h1,Aa,T5,h4⟩,QX⟩) λ_=>AH (λ_=>AH (λ_=>⟨⟨h0,h1,Aa,T5,h4⟩,QX⟩) λ_=>⟨⟨h0,h1,Aa,T5,h4⟩,QX⟩) λ_=>AH (λ_=>⟨⟨h0,h1,Aa,T5,h4⟩,QX⟩) λ_=>⟨⟨h0,h1,Aa,A8,h4⟩,QX⟩
 ·have c1:¬(0<=s.c):=AX
  exact VL
def ZH:AR K2:=⟨7,18,[0,2,4],[],λs=>[.CU 6,xQ 5 [s.BE,s.Bg,s.C9,s.BP,s.CA],s.c],λs=>[⟨[s.Bi,s.Gs,s.Gq,s.Gt,s.Gv],28,.cl,X⟩,⟨[.xl A7 s.b1],29,.cl,X⟩,⟨[.os 3 3 0<|M s.b3],34,.cl,X⟩,⟨[],43,.vec (.pair A7 Ag) s.b3,X⟩,⟨[s.b4],3,.cl,X⟩,⟨[.v<|.string s.iA,s.l8,s.J6,s.jS,s.jG,s.hM,s.qe,s.rp],69,.cl,X⟩,⟨[.junk,.junk,.junk,.own 1 0,.junk,.junk,.junk,.junk,.own 2 0,.own 4 0,.own 5 0,.junk,.junk,.junk,.junk,.junk,.junk,.junk,.junk,.junk,.junk,.junk,.junk,.junk,.junk,.junk,.junk,.junk,.junk,.junk,.junk,.junk,.junk,.junk,.junk,.junk,.junk,.junk,.junk,.junk,.junk,.junk,.junk,.junk,.junk,.junk,.junk,.junk,.junk,.junk,.junk,.junk,.junk,.junk,.junk,.junk,.junk,.junk,.junk,.junk,.junk,.junk,.junk,.junk,.junk],0,.Cq alp amv amk s.st,X⟩],λv b=>⟨Ar Ae<|BV (v.getD 1 .junk) 0,Ar .str<|BV (v.getD 1 .junk) 1,Ar Ak<|BV (v.getD 1 .junk) 2,Ar Af<|BV (v.getD 1 .junk) 3,Ar Al<|BV (v.getD 1 .junk) 4,AL v 2,AF Ae b 0 0,AF .str b 0 1,AF Ak b 0 2,AF Af b 0 3,AF Al b 0 4,AF A7 b 1 0,Ab (.pair A7 Ag) b 3,Am b 4 0,gSr<|BD (Cc b 5) 0,Am b 5 1,Am b 5 2,Am b 5 3,Am b 5 4,Am b 5 5,Am b 5 6,Am b 5 7,.ready⟩,aB3,λs r=> {r with BE:=s.BE,Bg:=s.Bg,C9:=s.C9,BP:=s.BP,CA:=s.CA,Bi:=s.Bi,Gs:=s.Gs,Gq:=s.Gq,Gt:=s.Gt,Gv:=s.Gv,b1:=s.b1,b4:=s.b4,iA:=s.iA,l8:=s.l8,J6:=s.J6,jS:=s.jS,jG:=s.jG,hM:=s.hM,qe:=s.qe,rp:=s.rp,st:=s.st},λs=> {s with st:=.ready},λx s=> {s with st:=(match x with| .exit 0=> .ready|_=> .ready)},[.exit 0],Ua,YA,aEh⟩
abbrev TW:=ZH.run
abbrev aKu:=ZH.At
def ag3:Rq YA aB3:=by
 intro s hI;refine ⟨λc1=>⟨?_,?_,λc2=>⟨?_,?_,λc3=>⟨?_,?_,λc4=>⟨?_,?_,?_,?_,ak⟩,λc4=>⟨?_,?_,ak⟩⟩,λc3=>⟨λc5=>⟨?_,?_,?_,?_,ak⟩,λc5=>⟨?_,?_,ak⟩⟩⟩,λc2=>⟨λc6=>⟨?_,?_,λc7=>⟨?_,?_,?_,?_,ak⟩,λc7=>⟨?_,?_,ak⟩⟩,λc6=>⟨λc8=>⟨?_,?_,?_,?_,ak⟩,λc8=>⟨?_,A9,ak⟩⟩⟩⟩,λc1=>⟨A9,ak⟩⟩
 all_goals ((obtain ⟨h0,h1,h2,h3,h4⟩:=hI;simp only [Ac,MJ] at c1;first|omega|(simp only [aEc,aEb,aEa];omega) |simp [aEc,aEb,aEa]))
def wI:ZH.Ok:={}
def vu:ZH.Pf (aD3):=⟨amf,λs h=>by
 obtain ⟨BE,Bg,C9,BP,CA,c,Bi,Gs,Gq,Gt,Gv,b1,b3,b4,iA,l8,J6,jS,jG,hM,qe,rp,st⟩:=s
 have e:=h.1
 subst e;rfl,aht,ag3⟩
def aJW:=s2 (b:=bN f82 0) wI vu iW aUT
def auS:Fi Ua YA aD3 aKu TW:=AR.fin wI vu
def aqz (s:K2) (hE:Ua s):(λs:K2=>HI s.BE s.J6 (gi s.b1 s.b4) s.c s.b3) (TW s)=(λs:K2=>HI s.BE s.J6 (gi s.b1 s.b4) s.c s.b3) s:=by
 exact AR.Kv wI vu (λs:K2=>HI s.BE s.J6 (gi s.b1 s.b4) s.c s.b3) (λs hI=>by
  obtain ⟨h0,h1,h2,h3,h4⟩:=hI
  have hp:=ahM (ph:=s.J6) (v:=gi s.b1 s.b4) (l:=s.b3) h1 h2
  refine AH (λc1=>?_) λc1=>rfl
  have c1:0<=s.c:=A8
  rw [AD c1,akF A0] at hp
  refine AH (λd1=>AH (λd2=>AH (λd4=>?_) λd4=>?_) λd2=>AH (λd4=>?_) λd4=>?_) (λd1=>AH (λd2=>AH (λd4=>?_) λd4=>?_) λd2=>AH (λd4=>?_) λd4=>?_)<;>
   (show HI _ _ _ _ _=HI _ _ _ _ _;rw [hp];simp only [d1,d2,d4,Bu,Hy,GL])) s hE
def auR (s:K2) (hE:Ua s):aKu s=.exit 0/\(TW s).b3=HI s.BE s.J6 (gi s.b1 s.b4) s.c s.b3:=by
 have q3:=aqz s hE
 obtain ⟨s',hI,q1,q2⟩:=auS s hE;refine ⟨q1,?_⟩
 have q3:HI s.BE s.J6 (gi s.b1 s.b4) (TW s).c (TW s).b3=HI s.BE s.J6 (gi s.b1 s.b4) s.c s.b3:=q3
 rw [<-q3];unfold HI;rw [ldW,AE A0]
structure Ml where
 t5:Y
 t41:aF
 (t42 t43:Y)
 BE:aJ
 Bg:aE
 C9:aP
 BP:aF
 CA:aQ
 DE:aB
 b3:bC
def aJ2:=bN f14 1
def rj (s:Ml):K2:=(⟨s.BE,s.Bg,s.C9,s.BP,s.CA,(AG s.t41 s.t43).2.1,s.BE,s.Bg,s.C9,s.BP,s.CA,s.DE,s.b3,s.t43,(AG s.t41 s.t43).1,(AG s.t41 s.t43).2.1,(AG s.t41 s.t43).2.2.1,(AG s.t41 s.t43).2.2.2.1,(AG s.t41 s.t43).2.2.2.2.1,(AG s.t41 s.t43).2.2.2.2.2.1,(AG s.t41 s.t43).2.2.2.2.2.2.1,(AG s.t41 s.t43).2.2.2.2.2.2.2,.ready⟩:K2)
def aB4 (s:Ml):T (Rd Ml):=
 .br (an<|s.t43<s.t42) (.ix s.t43 (M s.t41)<|.rl s.b3<|.req (ZH.q<|rj s)<|.rl (TW<|rj s).b3<|.nx {s with t43:=AA<|s.t43+1,b3:=(TW<|rj s).b3}) (.rl s.b3<|.so (.exit 2) s)
def lh (s:Ml):Prop:=s.t43=0/\(s.t42=(M s.t41:Y)/\s.t42<=1000/\Fm s.BE=U/\atB s.BE s.t41=U/\M s.DE=M s.t41)/\s.b3=aq (M s.BE) (Ty.dflt<|.pair A7 Ag)
def UW (s:Ml):Prop:=(0<=s.t43/\s.t43<=s.t42)/\(s.t42=(M s.t41:Y)/\s.t42<=1000/\Fm s.BE=U/\atB s.BE s.t41=U/\M s.DE=M s.t41)/\s.b3=Iy s.BE s.t41 s.DE s.t43.toNat
def wz (s:Ml):aC:=(s.t42-s.t43).toNat
def aD4 (x:Ex) (s s':Ml):Prop:=x=.exit 2/\s'.b3=Iy s'.BE s'.t41 s'.DE (M s'.t41)
def amg:∀s,lh s->UW s:=by
 rintro s ⟨h0,h1,h2⟩
 exact ⟨A0,h1,by rw [h2,h0];rfl⟩
def aU5 (s:Ml) (hI:UW s) (c1:s.t43<s.t42):Ua (rj s):=by
 obtain ⟨⟨h0,h1⟩,⟨h2,h3,h4,h5,h6⟩,h7⟩:=hI;refine ⟨rfl,h4,jH h5 h0 A0,?_,⟨h0,?_⟩⟩
 ·show M s.b3=_
  rw [h7];exact uF h4 h5 _ A0
 ·show s.t43<(M s.DE:Y)
  omega
def ahu:Da UW wz aD4 aB4:=by
 intro s hI
 have hin:=λc1=>aU5 s hI c1
 obtain ⟨⟨h0,h1⟩,⟨h2,h3,h4,h5,h6⟩,h7⟩:=hI;refine AH (λc1=>?_) λc1=>?_
 ·have c1:s.t43<s.t42:=A8
  obtain ⟨_,q⟩:=auR _<|hin c1;rw [AI (x:=s.t43+1)];refine ⟨⟨⟨A8,A8⟩,⟨h2,h3,h4,h5,h6⟩,?_⟩,by simp only [wz];omega⟩
  rw [show (s.t43+1).toNat=s.t43.toNat+1 by omega,q]
  show HI s.BE (AG s.t41 s.t43).2.2.1 (gi s.DE s.t43) (AG s.t41 s.t43).2.1 s.b3=HI s.BE (AG s.t41 (s.t43.toNat:Y)).2.2.1 (gi s.DE (s.t43.toNat:Y)) (AG s.t41 (s.t43.toNat:Y)).2.1 (Iy s.BE s.t41 s.DE s.t43.toNat)
  grind
 ·have c1:s.t42<=s.t43:=A8
  refine ⟨rfl,?_⟩
  grind
def SB:AR Ml:=⟨0,65,[2,3,4,5,8,41,42,43],[],λs=>[.own 0 0,.own 1 0,.v<|.slice aj 0 0,s.t5,.own 2 0,s.t41,s.t42,s.t43],λs=>[⟨[s.BE,s.Bg,s.C9,s.BP,s.CA],28,.cl,X⟩,⟨[.xl A7 s.DE],29,.cl,X⟩,⟨[.os 3 3 0<|M s.b3],34,.cl,X⟩,⟨[],43,.vec (.pair A7 Ag) s.b3,X⟩],λv b=>⟨AL v 3,B1 Af v 5,AL v 6,AL v 7,AF Ae b 0 0,AF .str b 0 1,AF Ak b 0 2,AF Af b 0 3,AF Al b 0 4,AF A7 b 1 0,Ab (.pair A7 Ag) b 3⟩,aB4,λs r=> {r with t5:=s.t5,t41:=s.t41,t42:=s.t42,BE:=s.BE,Bg:=s.Bg,C9:=s.C9,BP:=s.BP,CA:=s.CA,DE:=s.DE},λs=>s,λ_ s=>s,[.exit 2],lh,UW,wz⟩
abbrev aFD:=SB.run
abbrev avR:=SB.At
def ag4:Rq UW aB4:=by
 intro s hI;refine ⟨λc1=>⟨?_,A9,?_,A9,ak⟩,λc1=>⟨A9,ak⟩⟩
 ·(obtain ⟨⟨h0,h1⟩,⟨h2,h3⟩,h4⟩:=hI;simp only [Ac] at c1;omega)
 ·exact ⟨aU5 s hI A8,rfl,rfl⟩
def xa:aN:=[PC,iP]
def aiX:Ax:=kI xa<|la 1 func82 aJW<|l0 xa
def aTG:SB.Ok:={}
def aSi:SB.Pf (aD4):=⟨amg,λs h=>rfl,ahu,ag4⟩
def asW:SA 0 aJ2 SB:=s1 aTG aSi xa aiX
def auT:Fi lh UW aD4 avR aFD:=AR.fin aTG aSi
def Ga (cs:aJ) (gs:aF) (am:aB):aW:=if M am=M gs then Iy cs gs am (M gs) else []
def Gg (gs:aF) (am:aB):Y:=if M am=M gs then 0 else 1
def aVw:aD->T LV
 | .agg a::r=>s5 a λcs os ks gs bs=>(match r with
  | [.xl (.int J) am]=> .req (B9 cs os ks gs bs=U/\(M am=M gs->∀k:aC,k<M am->0<=gi am k/\gi am k<=80)) (.ok<|.AQ [.xl (.pair A7 Ag)<|Ga cs gs am,Gg gs am])
  |_=> .no)
 |_=> .no
def xZ:aN:=[PC,iP]
def aiW:Ax:=kI xZ<|la 1 func82 aJW<|l0 xZ
def UH:=vm (S:=aVw) func14 xZ aiW (L:=(λi=>if i=4 then SC.lp else if i=11 then SB.lp else Ao i)) (λb hb=>by
 rw [show BC _=[aJ3,aJ2] by kernel_rfl] at hb
 simp only [B6,Bv,Bt] at hb;rcases hb with rfl|rfl
 ·exact asX
 ·exact asW) (λargs lv h=>by
 unfold aVw at h;split at h
 case h_2=>cases h
 replace h:=Ij h
 obtain ⟨cs,os,ks,gs,bs,rfl,h⟩:=h;split at h
 ·rename_i am
  refine Aq (letI e:=(M am:Y);letI f:=(M gs:Y);letI g:=(M cs:Y);letI b:=(qY (⟨0,am,e,0,cs,os,ks,gs,bs,am⟩:Nh));letI d:=(aq g.toNat ((0:Y),((0:Y),(0:Y))));letI a:=(aFD (⟨b.t5,gs,f,0,cs,os,ks,gs,bs,am,d⟩:Ml));.br ((!(B9 cs os ks gs bs)) ||(e !=f)) (.ok<|.AQ [.xl (.pair A7 Ag) ([]:bC),(1:Y)])<|.req (SC.q (⟨0,am,e,0,cs,os,ks,gs,bs,am⟩:Nh))<|.br (Bj (aKv (⟨0,am,e,0,cs,os,ks,gs,bs,am⟩:Nh))<|.ret) (.ok<|.AQ [.xl (.pair A7 Ag) ([]:bC),b.t5])<|.rm 24 g<|.re g.toNat d<|.req (SB.q (⟨b.t5,gs,f,0,cs,os,ks,gs,bs,am,d⟩:Ml))<|.rz a.b3<|.ok<|.AQ [.xl (.pair A7 Ag)<|(a.b3.drop 0).take<|M a.b3,(0:Y)]) ?_;obtain ⟨⟨hv,hr⟩,rfl⟩:=h
  by_cases hl:M am=M gs
  rotate_left
  ·refine ⟨λ_=>?_,λc=>?_⟩
   ·unfold Ga Gg
    rw [AE hl,AE hl];rfl
   ·rw [hv] at c;simp at c;omega
  have hr:=hr hl
  unfold Ga Gg;rw [AD hl,AD hl]
  have hb:=(Cz.1 hv).1
  have hA:ln ⟨0,am,(M am:Y),0,cs,os,ks,gs,bs,am⟩:=⟨rfl,rfl,rfl,A8,hr⟩
  obtain ⟨_,_,q1,q5⟩:=auU _ hA
  have hB:lh ⟨(qY ⟨0,am,(M am:Y),0,cs,os,ks,gs,bs,am⟩).t5,gs,(M gs:Y),0,cs,os,ks,gs,bs,am,aq (M cs:Y).toNat ((0:Y),((0:Y),(0:Y)))⟩:=⟨rfl,⟨rfl,A8,fI hv,fJ hv,hl⟩,by
   rw [C2];rfl⟩
  obtain ⟨_,_,q6,q7⟩:=auT _ hB
  have q7:(aFD ⟨(qY ⟨0,am,(M am:Y),0,cs,os,ks,gs,bs,am⟩).t5,gs,(M gs:Y),0,cs,os,ks,gs,bs,am,aq (M cs:Y).toNat ((0:Y),((0:Y),(0:Y)))⟩).b3=Iy cs gs am (M gs):=q7
  refine ⟨λc=>?_,λ_=>⟨⟨hA,rfl,rfl⟩,?_⟩⟩
  ·exfalso
   rw [hv,hl] at c
   simp at c
  ·rw [q1]
   refine ⟨λh=>As,λ_=>⟨A0,⟨rfl,AJ⟩,⟨hB,rfl,rfl⟩,A0,?_⟩⟩
   show LV.AQ _=LV.AQ _
   rw [CZ,El,q7]
 ·cases h)
def aCH:Array Tmp×Code×Code:=((JA<|f51.body.getD .skip)[0]?).getD (#[],.skip,.skip)
def aWt:aX3:=aCH.1
def aaR:bB:=aCH.2.1
def aWw:bB:=aCH.2.2
structure O6 where
 (c t7 t8 t11:Y)
 Bi:aJ
 Gs:aE
 Gq:aP
 Gt:aF
 Gv:aQ
 (J5 JB JJ:Y)
 b2:aM
 b3:Y
 b4:bC
 NP:aJ
 NS:aE
 NN:aP
 NO:aF
 Nb:aQ
 st:LS
def aIY:=lN (bN f117 0) 0
def kF (s:O6):T (Rd O6):=letI a:=CW<|AZ s.Bi s.c;letI b:=AA<|s.t11+1;letI d:=M s.Bi;.br (an<|s.t11<3) (.ix s.c (M s.b4)<|.br (s.t11==0) (.ix s.c d<|.br (an<|(gx (e:=.pair A7 Ag) s.b4 s.c).1>a) (.so (.ret) {s with J5:=s.c,JB:=s.t11,JJ:=(gx (e:=.pair A7 Ag) s.b4 s.c).1,b2:=U,b3:=(0:Y),st:=.done<|.ret})<|.nx {s with t11:=b})<|.br (s.t11==1) (.ix s.c d<|.br (an<|(gx (e:=.pair A7 Ag) s.b4 s.c).2.1>a) (.so (.ret) {s with J5:=s.c,JB:=s.t11,JJ:=(gx (e:=.pair A7 Ag) s.b4 s.c).2.1,b2:=U,b3:=(0:Y),st:=.done<|.ret})<|.nx {s with t11:=b})<|.br (s.t11==2) (.ix s.c d<|.br (an<|(gx (e:=.pair A7 Ag) s.b4 s.c).2.2>a) (.so (.ret) {s with J5:=s.c,JB:=s.t11,JJ:=(gx (e:=.pair A7 Ag) s.b4 s.c).2.2,b2:=U,b3:=(0:Y),st:=.done<|.ret})<|.nx {s with t11:=b})<|.no /-  -/)<|.so (.exit 2) s
def p0 (s:O6):Prop:=s.st=.ready/\s.t11=0/\(0<=s.c/\s.c<(M s.b4:Y))/\s.c<(M s.Bi:Y)
def mP (s:O6):Prop:=s.st=.ready/\(0<=s.t11/\s.t11<=3)/\(0<=s.c/\s.c<(M s.b4:Y))/\s.c<(M s.Bi:Y)
def iD (s:O6):aC:=(3-s.t11).toNat
def acg (x:Ex) (s s':O6):Prop:=True
def aoN:∀s,p0 s->mP s:=by
 rintro s ⟨h,h0,h1⟩
 exact ⟨h,A0,h1⟩
def ajQ:Da mP iD acg kF:=by
 intro s hI;obtain ⟨ht,h0,h1,h2⟩:=hI;refine AH (λc1=>?_) λc1=>?_
 ·refine AH (λc2=>?_) (λc2=>?_)
  ·refine AH (λc3=>?_) (λc3=>?_)
   ·trivial
   ·exact aNw
  ·refine AH (λc3=>?_) (λc3=>?_)
   ·refine AH (λc4=>?_) (λc4=>?_)
    ·trivial
    ·exact aNw
   ·refine AH (λc4=>?_) (λc4=>?_)
    ·refine AH (λc5=>?_) (λc5=>?_)
     ·trivial
     ·have c1:s.t11<3:=AX
      rw [AI (x:=s.t11+1)];exact ⟨⟨ht,⟨A8,A8⟩,h1,h2⟩,by simp only [iD];omega⟩
    ·exfalso
     simp only [Ac,CY,ne_eq] at*;omega
 ·trivial
def Ro:AR O6:=⟨7,22,[0,3,7,8,11],[],λs=>[.CU 6,s.c,s.t7,s.t8,s.t11],λs=>[⟨[s.Bi,s.Gs,s.Gq,s.Gt,s.Gv],28,.cl,X⟩,⟨[s.J5,s.JB,s.JJ],131,.cl,X⟩,⟨[s.b2],4,.cl,X⟩,⟨[s.b3],61,.cl,X⟩,⟨[.xl (.pair A7 Ag) s.b4],34,.cl,X⟩,⟨[s.NP,s.NS,s.NN,s.NO,s.Nb],28,.cl,X⟩,⟨[.junk,.junk,.own 0 0,.junk,.own 1 0,.own 2 0,.own 3 0,.own 4 0,.junk,.v<|.tuple #[],.v<|.tuple #[],.junk,.junk,.junk,.junk,.junk,.junk,.junk,.junk,.junk,.junk,.junk,.v<|.tuple #[],.v<|.tuple #[],.v<|.tuple #[],.v<|.tuple #[],.v<|.tuple #[],.v<|.tuple #[],.v<|.tuple #[],.v<|.tuple #[],.v<|.tuple #[],.v<|.tuple #[],.v<|.tuple #[],.v<|.tuple #[],.v<|.tuple #[],.v<|.tuple #[],.v<|.tuple #[],.v<|.tuple #[],.v<|.tuple #[],.v<|.tuple #[],.v<|.tuple #[],.v<|.tuple #[],.v<|.tuple #[],.v<|.tuple #[],.v<|.tuple #[],.v<|.tuple #[],.junk],0,.Cq aWt aaR aWw s.st,X⟩],λv b=>⟨AL v 1,AL v 2,AL v 3,AL v 4,AF Ae b 0 0,AF .str b 0 1,AF Ak b 0 2,AF Af b 0 3,AF Al b 0 4,Am b 1 0,Am b 1 1,Am b 1 2,cgB b 2 0,Am b 3 0,AF (.pair A7 Ag) b 4 0,AF Ae b 5 0,AF .str b 5 1,AF Ak b 5 2,AF Af b 5 3,AF Al b 5 4,.ready⟩,kF,λs r=> {r with c:=s.c,t7:=s.t7,t8:=s.t8,Bi:=s.Bi,Gs:=s.Gs,Gq:=s.Gq,Gt:=s.Gt,Gv:=s.Gv,b4:=s.b4,NP:=s.NP,NS:=s.NS,NN:=s.NN,NO:=s.NO,Nb:=s.Nb},λs=> {s with st:=.ready},λx s=> {s with st:=(match x with| .ret=>(.done<|.ret) | .exit 2=> .ready|_=> .ready)},[.ret,.exit 2],p0,mP,iD⟩
abbrev MW:=Ro.run
abbrev gn:=Ro.At
def XY:aN:=[UH,vL]
def xv:Ax:=kI XY<|l0 XY
def afB:Rq mP kF:=by
 intro s hI;refine ⟨λc1=>⟨?_,λc2=>⟨?_,λ_=>trivial,λ_=>trivial⟩,λc2=>⟨λc4=>⟨?_,λ_=>trivial,λ_=>trivial⟩,λc4=>⟨λc6=>⟨?_,λ_=>trivial,λ_=>trivial⟩,λc6=>?_⟩⟩⟩,λ_=>trivial⟩
 iterate 4 · (obtain ⟨ht,h0,h1,h2⟩:=hI;omega)
 ·(exfalso;obtain ⟨ht,h0,h1,h2⟩:=hI;simp only [Ac,CY,ne_eq] at*;omega)
def aTA:Ro.Ok:={}
def aSW:Ro.Pf (acg):=⟨aoN,λs h=>by
 obtain ⟨c,t7,t8,t11,Bi,Gs,Gq,Gt,Gv,J5,JB,JJ,b2,b3,b4,NP,NS,NN,NO,Nb,st⟩:=s
 have e:=h.1
 subst e;rfl,ajQ,afB⟩
def auM:SA 7 aIY Ro:=s2 aTA aSW XY xv
def axf:Rs p0 gn MW (λs:O6=>MF (CW<|AZ s.Bi s.c) (gLi s.b4 s.c) s.t11) (λx s' (v:aM)=>(x=.ret/\v=X/\s'.b2=U/\s'.b3=0)\/(x=.exit 2/\v=U)):=Dp aTA aSW (λs hI=>by
  show DF _ _ ((kF s).rd s)
  obtain ⟨ht,h0,h1,h2⟩:=hI;refine AH (λc1=>?_) λc1=>?_
  ·refine AH (λc2=>?_) (λc2=>?_)
   ·refine AH (λc3=>?_) (λc3=>?_)
    ·refine .inl ⟨rfl,?_,rfl,rfl⟩
     have c3:(gLi s.b4 s.c).1>CW (AZ s.Bi s.c):=DJ c3
     exact zm
    ·have c1:s.t11<3:=AX
     rw [AI (x:=s.t11+1)]
     have c3:¬(gLi s.b4 s.c).1>CW (AZ s.Bi s.c):=KI c3
     exact zq
   ·refine AH (λc3=>?_) (λc3=>?_)
    ·refine AH (λc4=>?_) (λc4=>?_)
     ·refine .inl ⟨rfl,?_,rfl,rfl⟩
      have c4:(gLi s.b4 s.c).2.1>CW (AZ s.Bi s.c):=DJ c4
      exact zm
     ·have c1:s.t11<3:=AX
      rw [AI (x:=s.t11+1)]
      have c4:¬(gLi s.b4 s.c).2.1>CW (AZ s.Bi s.c):=KI c4
      exact zq
    ·refine AH (λc4=>?_) (λc4=>?_)
     ·refine AH (λc5=>?_) (λc5=>?_)
      ·refine .inl ⟨rfl,?_,rfl,rfl⟩
       have c5:(gLi s.b4 s.c).2.2>CW (AZ s.Bi s.c):=DJ c5
       exact zm
      ·have c1:s.t11<3:=AX
       rw [AI (x:=s.t11+1)]
       have c5:¬(gLi s.b4 s.c).2.2>CW (AZ s.Bi s.c):=KI c5
       exact zq
     ·exfalso
      simp only [Ac,CY,ne_eq] at*;omega
  ·have c1:3<=s.t11:=AX
   refine .inr ⟨rfl,?_⟩;unfold MF;simp only [AY,CS,Ac];omega)
structure Kj where
 (t7 t8:Y)
 Bi:aJ
 Gs:aE
 Gq:aP
 Gt:aF
 Gv:aQ
 (J5 JB JJ:Y)
 b2:aM
 b3:Y
 b4:bC
 NP:aJ
 NS:aE
 NN:aP
 NO:aF
 Nb:aQ
 st:LS
def aIZ:=bN f117 0
def J8 (s:Kj):O6:=(⟨s.t8,s.t7,s.t8,0,s.Bi,s.Gs,s.Gq,s.Gt,s.Gv,s.J5,s.JB,s.JJ,s.b2,s.b3,s.b4,s.NP,s.NS,s.NN,s.NO,s.Nb,.ready⟩:O6)
def aBl (s:Kj):T (Rd Kj):=
 .br (an<|s.t8<s.t7) (.req (Ro.q<|J8 s)<|.br (Bj (gn<|J8 s)<|.ret) (.so (.ret) {s with J5:=(MW<|J8 s).J5,JB:=(MW<|J8 s).JB,JJ:=(MW<|J8 s).JJ,b2:=(MW<|J8 s).b2,b3:=(MW<|J8 s).b3,st:=.done<|.ret})<|.nx {s with t8:=AA<|s.t8+1,J5:=(MW<|J8 s).J5,JB:=(MW<|J8 s).JB,JJ:=(MW<|J8 s).JJ,b2:=(MW<|J8 s).b2,b3:=(MW<|J8 s).b3}) (.so (.exit 0) s)
def p7 (s:Kj):Prop:=s.st=.ready/\s.t8=0/\s.t7=(M s.Bi:Y)/\s.t7<=1000/\M s.b4=M s.Bi
def Zg (s:Kj):Prop:=s.st=.ready/\(0<=s.t8/\s.t8<=s.t7)/\s.t7=(M s.Bi:Y)/\s.t7<=1000/\M s.b4=M s.Bi
def wX (s:Kj):aC:=(s.t7-s.t8).toNat
def ach (x:Ex) (s s':Kj):Prop:=True
def aoO:∀s,p7 s->Zg s:=by
 rintro s ⟨h,h0,h1⟩
 exact ⟨h,A0,h1⟩
def aV2 (s:Kj) (hI:Zg s) (c1:s.t8<s.t7):p0 (J8 s):=by
 obtain ⟨ht,⟨h0,h1⟩,h2,h3,h4⟩:=hI;exact ⟨rfl,rfl,⟨h0,by show s.t8<(M s.b4:Y);omega⟩,by show s.t8<(M s.Bi:Y);omega⟩
def ajR:Da Zg wX ach aBl:=by
 intro s hI;obtain ⟨ht,⟨h0,h1⟩,h2,h3,h4⟩:=hI;refine AH (λc1=>AH (λc2=>trivial) λc2=>?_) λc1=>trivial
 have c1:s.t8<s.t7:=A8
 rw [AI (x:=s.t8+1)];exact ⟨⟨ht,⟨A8,A8⟩,h2,h3,h4⟩,by simp only [wX];omega⟩
def Uj:AR Kj:=⟨7,22,[0,7,8],[],λs=>[.CU 6,s.t7,s.t8],λs=>[⟨[s.Bi,s.Gs,s.Gq,s.Gt,s.Gv],28,.cl,X⟩,⟨[s.J5,s.JB,s.JJ],131,.cl,X⟩,⟨[s.b2],4,.cl,X⟩,⟨[s.b3],61,.cl,X⟩,⟨[.xl (.pair A7 Ag) s.b4],34,.cl,X⟩,⟨[s.NP,s.NS,s.NN,s.NO,s.Nb],28,.cl,X⟩,⟨[.junk,.junk,.own 0 0,.junk,.own 1 0,.own 2 0,.own 3 0,.own 4 0,.junk,.v<|.tuple #[],.v<|.tuple #[],.junk,.junk,.junk,.junk,.junk,.junk,.junk,.junk,.junk,.junk,.junk,.v<|.tuple #[],.v<|.tuple #[],.v<|.tuple #[],.v<|.tuple #[],.v<|.tuple #[],.v<|.tuple #[],.v<|.tuple #[],.v<|.tuple #[],.v<|.tuple #[],.v<|.tuple #[],.v<|.tuple #[],.v<|.tuple #[],.v<|.tuple #[],.v<|.tuple #[],.v<|.tuple #[],.v<|.tuple #[],.v<|.tuple #[],.v<|.tuple #[],.v<|.tuple #[],.v<|.tuple #[],.v<|.tuple #[],.v<|.tuple #[],.v<|.tuple #[],.v<|.tuple #[],.junk],0,.Cq aWt aaR aWw s.st,X⟩],λv b=>⟨AL v 1,AL v 2,AF Ae b 0 0,AF .str b 0 1,AF Ak b 0 2,AF Af b 0 3,AF Al b 0 4,Am b 1 0,Am b 1 1,Am b 1 2,cgB b 2 0,Am b 3 0,AF (.pair A7 Ag) b 4 0,AF Ae b 5 0,AF .str b 5 1,AF Ak b 5 2,AF Af b 5 3,AF Al b 5 4,.ready⟩,aBl,λs r=> {r with t7:=s.t7,Bi:=s.Bi,Gs:=s.Gs,Gq:=s.Gq,Gt:=s.Gt,Gv:=s.Gv,b4:=s.b4,NP:=s.NP,NS:=s.NS,NN:=s.NN,NO:=s.NO,Nb:=s.Nb},λs=> {s with st:=.ready},λx s=> {s with st:=(match x with| .ret=>(.done<|.ret) | .exit 0=> .ready|_=> .ready)},[.ret,.exit 0],p7,Zg,wX⟩
abbrev dt:=Uj.run
abbrev fo:=Uj.At
def afC:Rq Zg aBl:=by
 intro s hI;refine ⟨λc1=>⟨?_,λ_=>trivial,λ_=>trivial⟩,λ_=>trivial⟩
 ·exact ⟨aV2 s hI A8,rfl,rfl⟩
def aTB:Uj.Ok:={}
def aSX:Uj.Pf (ach):=⟨aoO,λs h=>by
 obtain ⟨t7,t8,Bi,Gs,Gq,Gt,Gv,J5,JB,JJ,b2,b3,b4,NP,NS,NN,NO,Nb,st⟩:=s
 have e:=h.1
 subst e;rfl,ajR,afC⟩
def auN:SA 7 aIZ Uj:=AR.snd aTB aSX (Fp (Γ:=XY) (K:=xv) (L:=(LF (λi=>if i=4 then Ro.lp else Ao i))) (gk XY) xv.h aIZ (λb hb=>by
 rw [show BC _=[aIY] by kernel_rfl] at hb
 simp only [B6,Bv,Bt] at hb;subst hb;exact auM)) λs=>AV
def axg:Rs p7 fo dt (λs:Kj=>((au<|M s.Bi).drop s.t8.toNat).all λo=>ckO (CW<|AZ s.Bi o)<|BT s.b4 o) (λx s' (v:aM)=>(x=.ret/\v=X/\s'.b2=U/\s'.b3=0)\/(x=.exit 0/\v=U)):=Dp aTB aSX (λs hI=>by
  have hin:=λc1=>aV2 s hI c1
  obtain ⟨ht,⟨h0,h1⟩,h2,h3,h4⟩:=hI;refine AH (λc1=>?_) λc1=>?_
  ·have c1:s.t8<s.t7:=AX
   have q:=axf _<|hin c1
   have e:((au<|M s.Bi).drop s.t8.toNat).all (λo=>ckO (CW<|AZ s.Bi o)<|BT s.b4 o)=(MF (CW<|AZ s.Bi s.t8) (gLi s.b4 s.t8) 0&&((au<|M s.Bi).drop (s.t8+1).toNat).all (λo=>ckO (CW<|AZ s.Bi o)<|BT s.b4 o)):=by
    rw [Sr DK,J2,nP,show (s.t8+1).toNat=s.t8.toNat+1 by omega,Bs h0,aoM]
    rfl
   refine AH (λc2=>?_) λc2=>?_
   ·rcases q with ⟨q1,q2,q3,q4⟩ |⟨q1,q2⟩
    ·refine .inl ⟨rfl,?_,q3,q4⟩
     rw [e]
     have q2:MF (CW<|AZ s.Bi s.t8) (gLi s.b4 s.t8) 0=false:=q2
     grind
    ·rw [show gn (J8 s)=_ from q1] at c2
     cases c2
   ·rcases q with ⟨q1,q2,q3,q4⟩ |⟨q1,q2⟩
    ·rw [show gn (J8 s)=_ from q1] at c2
     cases c2
    ·show List.all _ _=List.all _ _
     rw [e]
     have q2:MF (CW<|AZ s.Bi s.t8) (gLi s.b4 s.t8) 0=true:=q2
     rw [q2,ET,AI (x:=s.t8+1)]
  ·have c1:s.t7<=s.t8:=AX
   refine .inr ⟨rfl,?_⟩;rw [FA DK];rfl)
def vk1 (cs:aJ) (os:aE) (ks:aP) (gs:aF) (bs:aQ) (am:aB):Y:=if (an (M am=M gs)&&Bj (fo ⟨(M cs:Y),0,cs,os,ks,gs,bs,0,0,0,X,0,Ga cs gs am,cs,os,ks,gs,bs,.ready⟩) (.ret))=U then (dt ⟨(M cs:Y),0,cs,os,ks,gs,bs,0,0,0,X,0,Ga cs gs am,cs,os,ks,gs,bs,.ready⟩).J5 else 0
def vk2 (cs:aJ) (os:aE) (ks:aP) (gs:aF) (bs:aQ) (am:aB):Y:=if (an (M am=M gs)&&Bj (fo ⟨(M cs:Y),0,cs,os,ks,gs,bs,0,0,0,X,0,Ga cs gs am,cs,os,ks,gs,bs,.ready⟩) (.ret))=U then (dt ⟨(M cs:Y),0,cs,os,ks,gs,bs,0,0,0,X,0,Ga cs gs am,cs,os,ks,gs,bs,.ready⟩).JB else 0
def vk3 (cs:aJ) (os:aE) (ks:aP) (gs:aF) (bs:aQ) (am:aB):Y:=if (an (M am=M gs)&&Bj (fo ⟨(M cs:Y),0,cs,os,ks,gs,bs,0,0,0,X,0,Ga cs gs am,cs,os,ks,gs,bs,.ready⟩) (.ret))=U then (dt ⟨(M cs:Y),0,cs,os,ks,gs,bs,0,0,0,X,0,Ga cs gs am,cs,os,ks,gs,bs,.ready⟩).JJ else 0
def aMX:aD->T LV
 | [.agg [.xl (.pair .str (.pair (.int J) (.pair (.int J) (.pair (.int J) (.pair (.pair (.int J) (.int J)) (.pair (.int J) (.pair (.int J) (.pair (.int J) (.pair (.int J) (.int J)))))))))) cs,.xl (.str) os,.xl (.pair .str (.pair (.int J) (.pair (.int J) (.int J)))) ks,.xl (.pair .str (.pair (.int J) (.pair (.int J) (.pair (.int J) (.pair (.int J) (.pair (.int J) (.pair (.int J) (.int J)))))))) gs,.xl (.pair .str (.int J)) bs],.xl (.int J) am]=> .req (B9 cs os ks gs bs=U/\(M am=M gs->∀k:aC,k<M am->0<=gi am k/\gi am k<=80)) (.tu #[.agg #[vk1 cs os ks gs bs am,vk2 cs os ks gs bs am,vk3 cs os ks gs bs am],.bool<|an (M am=M gs)&&!DO cs gs am,Gg gs am])
 |_=> .no
def xY:aN:=[UH,vL]
def aiV:Ax:=kI xY<|la 1 func117 auN<|l0 xY
def XD:=vo (S:=aMX) func51 xY aiV (λargs lv h=>by
 unfold aMX at h;split at h
 ·rename_i cs os ks gs bs am
  refine Aq (letI b:=(M cs:Y);letI d:=Ga cs gs am;letI a:=(dt (⟨b,0,cs,os,ks,gs,bs,0,0,0,X,0,d,cs,os,ks,gs,bs,.ready⟩:Kj));.req (B9 cs os ks gs bs=U/\(M am=M gs->∀k:aC,k<M am->0<=gi am k/\gi am k<=80))<|.br ((Gg gs am) !=0) (.tu #[.agg #[(0:Y),(0:Y),(0:Y)],X,(1:Y)])<|.req (Uj.q (⟨b,0,cs,os,ks,gs,bs,0,0,0,X,0,d,cs,os,ks,gs,bs,.ready⟩:Kj))<|.br (Bj (fo (⟨b,0,cs,os,ks,gs,bs,0,0,0,X,0,d,cs,os,ks,gs,bs,.ready⟩:Kj))<|.ret) (.tu #[.agg #[a.J5,a.JB,a.JJ],a.b2,a.b3])<|.tu #[.agg #[(0:Y),(0:Y),(0:Y)],X,(0:Y)]) ?_;obtain ⟨hq,rfl⟩:=h
  have hv:=hq.1
  have hb:=(Cz.1 hv).1
  refine ⟨hq,λc=>?_,λc=>?_⟩
  ·have hl:¬(M am)=M gs:=λh=>by unfold Gg at c;rw [AD h] at c;cases c
   unfold vk1 vk2 vk3 Gg;simp only [AE hl,IV hl,QM,Hy,GL];rfl
  have hl:M am=M gs:=by
   unfold Gg at c;split at c
   ·assumption
   ·cases c
  have hX:Ga cs gs am=Iy cs gs am (M gs):=AD hl
  have hY:Gg gs am=0:=AD hl
  rw [hY,Ci hl,ET]
  have hE:p7 ⟨(M cs:Y),0,cs,os,ks,gs,bs,0,0,0,X,0,(Ga cs gs am),cs,os,ks,gs,bs,.ready⟩:=⟨rfl,rfl,rfl,aA8,by show M (Ga cs gs am)=M cs;rw [hX];exact uF (fI hv) (fJ hv) _<|Au _⟩
  refine ⟨⟨hE,rfl,rfl⟩,?_⟩
  have e:DO cs gs am=((au<|M cs).drop (0:Y).toNat).all (λo=>ckO (CW<|AZ cs o)<|BT (Ga cs gs am) o):=by rw [hX];rfl
  rcases axg _ hE with ⟨q1,q2,q3,q4⟩ |⟨q1,q2⟩
  ·have q2:DO cs gs am=false:=e.trans q2
   unfold vk1 vk2 vk3;simp only [Ci hl,ET];rw [q1,q3,q4,q2];exact ⟨λ_=>rfl,λh=>As⟩
  ·have q2:DO cs gs am=true:=e.trans q2
   unfold vk1 vk2 vk3;simp only [Ci hl,ET];rw [q1,q2];exact ⟨λh=>As,λ_=>rfl⟩
 ·cases h)
def fe {cs:aJ}{os:aE}{ks:aP}{gs:aF}{bs:aQ}(hs:B9 cs os ks gs bs=U) {k:aC}(hk:k<M (Bq gs)):0<=gi (Bq gs) k/\gi (Bq gs) k<=80:=by
 have hl:M (Bq gs)=M gs:=Ib
 rw [show gi (Bq gs) (k:Y)=Ce (AG gs k) from NQ A0 A0]
 have:=NU hs (c:=(k:Y)) A0 A0
 unfold G7 at this;simp only [AY] at this
 have:=iE this.2.2
 omega
structure PM where
 m:aF
 (k i:Y)
 out:aB
def aIo:=bN f52 0
def aBQ (s:PM):T (Rd PM):=letI a:=s.out.set s.i.toNat (AG s.m s.i).2.2.2.2.2.2.1;.br (an<|s.i<s.k) (.ix s.i (M s.m)<|.ik s.i (M s.out)<|.re (M s.out) a<|.nx {s with i:=AA<|s.i+1,out:=a})<|.rl s.out<|.so (.exit 0) s
def lU (s:PM):Prop:=s.i=0/\s.k=(M s.m:Y)/\s.k<=1000/\M s.out=M s.m/\(∀j,0<=j->j<s.k->gi s.out j=0)/\True
def YW (s:PM):Prop:=(0<=s.i/\s.i<=s.k)/\s.k=(M s.m:Y)/\s.k<=1000/\M s.out=M s.m/\(∀j,0<=j->j<s.k->gi s.out j=if j<s.i then Ce (AG s.m j) else 0)/\True
def wc (s:PM):aC:=(s.k-s.i).toNat
def aDT (x:Ex) (s s':PM):Prop:=x=.exit 0/\s'.out=HX (M s'.m) (λj=>Ce<|AG s'.m j)
def an7:∀s,lU s->YW s:=by
 exact T2
def agw:Da YW wc aDT aBQ:=by
 intro s hI;obtain ⟨⟨h0,h1⟩,h2,h3,h4,h5,h6⟩:=hI;refine AH (λc1=>?_) λc1=>?_
 ·have c1:s.i<s.k:=AX
  rw [AI (x:=s.i+1)];refine ⟨⟨⟨A8,A8⟩,h2,h3,A8,λj j0 j1=>?_,h6⟩,by simp only [wc];omega⟩
  simp only;rw [JC h0 cY j0];exact nT
 ·exact cD
def S0:AR PM:=⟨0,25,[3,11,12,13],[],λs=>[.os 0 1 0<|M s.out,s.m,s.k,s.i],λs=>[bV 3 A7 s.out],λv b=>⟨B1 Af v 1,AL v 2,AL v 3,Ab A7 b 0⟩,aBQ,λs r=> {r with m:=s.m,k:=s.k},λs=>s,λ_ s=>s,[.exit 0],lU,YW,wc⟩
abbrev aFC:=S0.run
abbrev avr:=S0.At
def afp:Rq YW aBQ:=by
 exact zY
def aUK:aN:=[]
def aTu:S0.Ok:={}
def aRm:S0.Pf (aDT):=⟨an7,λs h=>rfl,agw,afp⟩
def at7:SA 0 aIo S0:=s1 aTu aRm aUK kN
def av3:Fi lU YW aDT avr aFC:=AR.fin aTu aRm
def aM7:aD->T LV
 | .agg a::r=>s5 a λcs os ks gs bs=>(match r with
  | []=> .req ((M gs:Y)<=1000) (.ok<|.xl A7<|Bq gs)
  |_=> .no)
 |_=> .no
def iO:=vm (S:=aM7) func52 aUK kN (L:=(λi=>if i=3 then S0.lp else Ao i)) (λb hb=>by
 rw [show BC _=[aIo] by kernel_rfl] at hb
 simp only [B6,Bv,Bt] at hb;subst hb;exact at7) (λargs lv h=>by
 unfold aM7 at h;split at h
 case h_2=>cases h
 replace h:=Ij h
 obtain ⟨cs,os,ks,gs,bs,rfl,h⟩:=h;split at h
 ·refine Aq (letI c:=(M gs:Y);letI a:=(aq c.toNat (0:Y));letI b:=(aFC (⟨gs,c,0,a⟩:PM));.rm 8 c<|.re c.toNat a<|.req (S0.q (⟨gs,c,0,a⟩:PM))<|.rz b.out<|.ok<|.xl A7<|(b.out.drop 0).take<|M b.out) ?_
  obtain ⟨hn,rfl⟩:=h
  have hE:lU ⟨gs,(M gs:Y),0,aq (M gs:Y).toNat 0⟩:=⟨rfl,rfl,hn,AJ,λj _ _=>Jx,ak⟩
  obtain ⟨_,_,q1,q2⟩:=av3 _ hE
  have q2:(aFC ⟨gs,(M gs:Y),0,aq (M gs:Y).toNat 0⟩).out=Bq gs:=q2
  refine ⟨A0,⟨rfl,AJ⟩,⟨hE,rfl,rfl⟩,A0,?_⟩
  show LV.xl _ _=_
  rw [CZ,El,q2]
 ·cases h)
def aM5:aD->T LV
 | .agg a::r=>s5 a λcs os ks gs bs=>(match r with
  | []=> .req (B9 cs os ks gs bs=U) (.ok<|.v<|.bool<|!DO cs gs (Bq gs))
  |_=> .no)
 |_=> .no
def aiD:aN:=[XD,iO]
def iN:=vo (S:=aM5) func20 aiD kN (λargs lv h=>by
 unfold aM5 at h;split at h
 case h_2=>cases h
 replace h:=Ij h
 obtain ⟨cs,os,ks,gs,bs,rfl,h⟩:=h;split at h
 ·refine Aq (.req ((M gs:Y)<=1000)<|.req (B9 cs os ks gs bs=U/\(M (Bq gs)=M gs->∀k:aC,k<M (Bq gs)->0<=gi (Bq gs) k/\gi (Bq gs) k<=80))<|.ok<|.v<|.bool<|((Gg gs<|Bq gs)==0)&&(an (M (Bq gs)=M gs)&&!DO cs gs (Bq gs))) ?_
  obtain ⟨hs,rfl⟩:=h
  have hg:=(Cz.1 hs).1
  have hl:M (Bq gs)=M gs:=Ib
  have hY:Gg gs (Bq gs)=0:=AD hl
  refine ⟨A0,⟨hs,λ_ k hk=>fe hs hk⟩,?_⟩
  rw [hY,Ci hl];rfl
 ·cases h)
def aLb:aD->T LV
 | [.v (.agg ⟨[.string nm,ag J at_,ag J ph,ag J mn,ag J mx,ag J st,ag J fb,ag J ow]⟩),.v (.agg ⟨[ag J sp,ag J sa,ag J sl,.bool sw]⟩)]=> .ok (sV (nm,at_,ph,mn,mx,st,fb,ow) (sp,sa,sl,sw))
 |_=> .no
def ang:aN:=[Wl,fF,aXp]
def aRO:=vo (S:=aLb) func130 ang kN (λargs lv h=>by
 unfold aLb at h;split at h
 ·rename_i nm at_ ph mn mx st fb ow sp sa sl sw
  refine Aq (.br (!(J0 ph mn mx st fb)) (.ok X)<|.br ((sp==0)&&((sa==0)&&((sl==0)&&(sw==X)))) (.ok U)<|.ok<|.v<|.bool<|(inB sp (0:Y) (5:Y))&&((inB sl (0:Y) (1000000:Y))&&((inB sa (0:Y) mx)&&(if sl !=0 then (!sw) ||(sp==5) else (sa==0)&&((!sw) ||(sp==5)))))) ?_
  obtain rfl:=h;refine ⟨λh1=>?_,λh1=>⟨λh2=>?_,λh2=>?_⟩⟩
  all_goals refine B0 (λz=>LV.v<|.bool z) ?_
  ·simp at h1;simp [sV,h1]
  ·simp at h1 h2
   obtain ⟨rfl,rfl,rfl,rfl⟩:=h2
   have:=Wu.1 h1
   rw [T1,Mc]
   simp [h1];omega
  ·simp at h1
   unfold sV;simp only;rw [h1]
   by_cases hl:sl=0
   ·simp [hl]
   ·have:(sl !=0)=true:=oa
    simp [this]
 ·cases h)
def aWE:aD->T LV
 | [.v (.agg ⟨[.string nm,ag J at_,ag J ph,ag J mn,ag J mx,ag J st,ag J fb,ag J ow]⟩),.v (.agg ⟨[ag J ek,ag J en,ag J em]⟩)]=> .req (ek≠0) (.ok<|evV mx ek en em)
 |_=> .no
def anf:aN:=[fF]
def alD:=vo (S:=aWE) func144 anf kN (λargs lv h=>by
 unfold aWE at h;split at h
 ·rename_i nm at_ ph mn mx st fb ow ek en em
  refine Aq (.br (ek==4) (.ok<|inB en (0:Y) (1:Y))<|.br (ek==6) (.ok<|inB en (0:Y) (2:Y))<|.br (ek==7) (.br (!(inB em (1:Y) (1000000:Y))) (.ok X)<|.ok<|inB en (0:Y) mx)<|.br (ek==0) (.ok<|inB en (0:Y) mx)<|.ok U) ?_;obtain ⟨h0,rfl⟩:=h;refine ⟨λh1=>?_,λh1=>⟨λh2=>?_,λh2=>⟨λh3=>⟨λh4=>?_,λh4=>?_⟩,λh3=>⟨λh4=>?_,λh4=>?_⟩⟩⟩⟩
  all_goals refine B0 (λz=>LV.v<|.bool z) ?_
  all_goals simp_all [evV]
 ·cases h)
def aLU:aD->T LV
 | [.v (.agg ⟨[ag J sp,ag J sa,ag J sl,.bool sw]⟩),.v (.agg ⟨[ag J ek,ag J en,ag J em]⟩)]=> .ok (.v<|.agg #[dcP sp sw ek en,sa,sl,dcW sw ek en])
 |_=> .no
def ane:aN:=[]
def ays:=vo (S:=aLU) func145 ane kN (λargs lv h=>by
 unfold aLU at h;split at h
 ·rename_i sp sa sl sw ek en em
  refine Aq (.br (ek==4) (.br (en==1) (.ok<|.v<|.agg #[(3:Y),sa,sl,sw])<|.ok<|.v<|.agg #[(5:Y),sa,sl,sw])<|.br (ek==6) (.br (en==0) (.ok<|.v<|.agg #[(1:Y),sa,sl,.bool<|en==1])<|.ok<|.v<|.agg #[(5:Y),sa,sl,.bool<|en==1])<|.br (ek==2) (.br (!sw) (.ok<|.v<|.agg #[(0:Y),sa,sl,sw])<|.ok<|.v<|.agg #[sp,sa,sl,sw])<|.br (ek==9) (.br (!sw) (.ok<|.v<|.agg #[(1:Y),sa,sl,sw])<|.ok<|.v<|.agg #[sp,sa,sl,sw])<|.ok<|.v<|.agg #[sp,sa,sl,sw]) ?_;obtain rfl:=h
  have fin:∀(p:Y) (q:aM),p=dcP sp sw ek en->q=dcW sw ek en->LV.v (.agg #[ag J p,ag J sa,ag J sl,.bool q])=LV.v (.agg #[ag J<|dcP sp sw ek en,ag J sa,ag J sl,.bool<|dcW sw ek en]):=λp q h1 h2=>A8
  refine ⟨λh1=>⟨λh2=>?_,λh2=>?_⟩,λh1=>⟨λh2=>⟨λh3=>?_,λh3=>?_⟩,λh2=>⟨λh3=>⟨λh4=>?_,λh4=>?_⟩,λh3=>⟨λh4=>⟨λh5=>?_,λh5=>?_⟩,λh4=>?_⟩⟩⟩⟩
  all_goals refine fin _ _ ?_ ?_
  all_goals simp_all [dcP,dcW]
 ·cases h)
def aWP:aD->T LV
 | [.v (.agg ⟨[.string nm,ag J at_,ag J ph,ag J mn,ag J mx,ag J st,ag J fb,ag J ow]⟩),.v (.agg ⟨[ag J sp,ag J sa,ag J sl,.bool sw]⟩),.v (.agg ⟨[ag J ek,ag J en,ag J em]⟩)]=> .tu #[.agg #[(sN (nm,at_,ph,mn,mx,st,fb,ow) (sp,sa,sl,sw) ek en em).1,(sN (nm,at_,ph,mn,mx,st,fb,ow) (sp,sa,sl,sw) ek en em).2.1,(sN (nm,at_,ph,mn,mx,st,fb,ow) (sp,sa,sl,sw) ek en em).2.2.1,(sN (nm,at_,ph,mn,mx,st,fb,ow) (sp,sa,sl,sw) ek en em).2.2.2],sE (nm,at_,ph,mn,mx,st,fb,ow) (sp,sa,sl,sw) ek en em]
 |_=> .no
def aCl:aN:=[aRO,fF,alD,ays]
def ao2:Ax:=kI aCl<|l0 aCl
def RC:=vo (S:=aWP) func108 aCl ao2 (λargs lv h=>by
 unfold aWP at h;split at h
 ·rename_i nm at_ ph mn mx st fb ow sp sa sl sw ek en em
  refine Aq (letI a:=Tt<|ek.toNat*6+(sp.toNat*1+0);letI c:=AA<|sl-1;letI d:=dcP sp sw ek en;letI f:=dcW sw ek en;.br (!(sV (nm,at_,ph,mn,mx,st,fb,ow) (sp,sa,sl,sw))) (.tu #[.agg #[(0:Y),(0:Y),(0:Y),X],(1:Y)])<|.br (!(inB ek (1:Y) (9:Y))) (.tu #[.agg #[(0:Y),(0:Y),(0:Y),X],(9:Y)])<|.req (ek≠0)<|.br (!(evV mx ek en em)) (.tu #[.agg #[(0:Y),(0:Y),(0:Y),X],(1:Y)])<|.req (0<=ek/\ek<(10:Y))<|.req (0<=sp/\sp<(6:Y))<|.br (a==(-1)) (.tu #[.agg #[(0:Y),(0:Y),(0:Y),X],(6:Y)])<|.br (a==(-2)) (.br (ek==7) (.tu #[.agg #[sp,en,em,sw],(0:Y)])<|.br (ek==8) (.br ((if (0:Y)<c then AA (sl-1) else 0)==0) (.tu #[.agg #[sp,(0:Y),ag J (if (0:Y)<c then AA (sl-1) else 0),sw],(0:Y)])<|.tu #[.agg #[sp,sa,ag J (if (0:Y)<c then AA (sl-1) else 0),sw],(0:Y)])<|.br (ek==9) (.tu #[.agg #[sp,(0:Y),(0:Y),sw],(0:Y)])<|.tu #[.agg #[sp,sa,sl,sw],(0:Y)])<|.br (a==(-3)) (.br (ek==7) (.tu #[.agg #[d,en,em,f],(0:Y)])<|.br (ek==8) (.br ((if (0:Y)<c then AA (sl-1) else 0)==0) (.tu #[.agg #[d,(0:Y),ag J (if (0:Y)<c then AA (sl-1) else 0),f],(0:Y)])<|.tu #[.agg #[d,sa,ag J (if (0:Y)<c then AA (sl-1) else 0),f],(0:Y)])<|.br (ek==9) (.tu #[.agg #[d,(0:Y),(0:Y),f],(0:Y)])<|.tu #[.agg #[d,sa,sl,f],(0:Y)])<|.br (ek==7) (.tu #[.agg #[a,en,em,sw],(0:Y)])<|.br (ek==8) (.br ((if (0:Y)<c then AA (sl-1) else 0)==0) (.tu #[.agg #[a,(0:Y),ag J (if (0:Y)<c then AA (sl-1) else 0),sw],(0:Y)])<|.tu #[.agg #[a,sa,ag J (if (0:Y)<c then AA (sl-1) else 0),sw],(0:Y)])<|.br (ek==9) (.tu #[.agg #[a,(0:Y),(0:Y),sw],(0:Y)])<|.tu #[.agg #[a,sa,sl,sw],(0:Y)]) ?_
  obtain rfl:=h
  have bad:∀e,e≠0->(sE (nm,at_,ph,mn,mx,st,fb,ow) (sp,sa,sl,sw) ek en em)=e->LV.v (.tuple #[.agg #[ag J 0,ag J 0,ag J 0,.bool X],ag J e])=LV.v (.tuple #[.agg #[ag J (sN (nm,at_,ph,mn,mx,st,fb,ow) (sp,sa,sl,sw) ek en em).1,ag J (sN (nm,at_,ph,mn,mx,st,fb,ow) (sp,sa,sl,sw) ek en em).2.1,ag J (sN (nm,at_,ph,mn,mx,st,fb,ow) (sp,sa,sl,sw) ek en em).2.2.1,.bool (sN (nm,at_,ph,mn,mx,st,fb,ow) (sp,sa,sl,sw) ek en em).2.2.2],ag J<|sE (nm,at_,ph,mn,mx,st,fb,ow) (sp,sa,sl,sw) ek en em]):=λe h0 h1=>by
   unfold sN;rw [h1];simp only [AE h0]
  have good:∀(p q r:Y) (b:aM),(sE (nm,at_,ph,mn,mx,st,fb,ow) (sp,sa,sl,sw) ek en em)=0->p=IP sp sw ek en->q=sA sa sl ek en->r=sL sl ek em->b=sW sw ek en->LV.v (.tuple #[.agg #[ag J p,ag J q,ag J r,.bool b],ag J 0])=LV.v (.tuple #[.agg #[ag J (sN (nm,at_,ph,mn,mx,st,fb,ow) (sp,sa,sl,sw) ek en em).1,ag J (sN (nm,at_,ph,mn,mx,st,fb,ow) (sp,sa,sl,sw) ek en em).2.1,ag J (sN (nm,at_,ph,mn,mx,st,fb,ow) (sp,sa,sl,sw) ek en em).2.2.1,.bool (sN (nm,at_,ph,mn,mx,st,fb,ow) (sp,sa,sl,sw) ek en em).2.2.2],ag J<|sE (nm,at_,ph,mn,mx,st,fb,ow) (sp,sa,sl,sw) ek en em]):=λp q r b h0 h1 h2 h3 h4=>by
   unfold sN;rw [h0,h1,h2,h3,h4];simp only [Bu]
  refine ⟨λh1=>bad 1 Ad (by simp at h1;simp [sE,h1]),λh1=>⟨λh2=>bad 9 Ad (by simp at h1 h2;simp [sE,h1,h2]),λh2=>?_⟩⟩
  simp only [IW] at h1 h2
  have h2':=B8.1 h2
  refine ⟨A0,λh3=>bad 1 Ad (by simp at h3;simp [sE,h1,h2,h3]),λh3=>?_⟩
  simp only [IW] at h3;obtain ⟨g1,g2,g3,g4,g5,g6,g7,g8,g9⟩:=Mc.1 h1;simp only at g2 g3 g4 g5 g6 g7 g8 g9
  have hw:AA (sl-1)=sl-1:=AI
  have hn:(sE (nm,at_,ph,mn,mx,st,fb,ow) (sp,sa,sl,sw) ek en em)=if IP sp sw ek en<0 then 6 else 0:=by simp [sE,h1,h2,h3]
  have htk:(if (0:Y)<sl-1 then sl-1 else 0)=tkF sl:=rfl
  rw [hw,htk];refine ⟨A0,A0,?_⟩
  have hz:sw=X\/(sw=U/\sp=5):=by cases sw<;>simp_all
  rw [akE A0 A0 A0 A0]
  clear h1 h2 h3 bad good g1 g4 g5 g6 g7 g9 hw htk
  rcases hz with rfl|⟨rfl,rfl⟩
  ·rcases nine h2'.1 h2'.2 with rfl|rfl|rfl|rfl|rfl|rfl|rfl|rfl|rfl<;>rcases ap1 g2 g3 with rfl|rfl|rfl|rfl|rfl|rfl
   all_goals simp [T.all,pt,sN,hn,IP,sA,sL,sW,dcP,dcW]
   all_goals (try omega)
   all_goals (by_cases h4:en=1<;>by_cases h5:en=0<;>simp_all)
  ·rcases nine h2'.1 h2'.2 with rfl|rfl|rfl|rfl|rfl|rfl|rfl|rfl|rfl
   all_goals simp [T.all,pt,sN,hn,IP,sA,sL,sW,dcP,dcW]
   all_goals (try omega)
 ·cases h)
def aWY:aD->T LV
 | [.v (.agg ⟨[.string nm,ag J at_,ag J ph,ag J mn,ag J mx,ag J st,ag J fb,ag J ow]⟩),.v (.agg ⟨[ag J sp,ag J sa,ag J sl,.bool sw]⟩)]=> .ok (Bk (nm,at_,ph,mn,mx,st,fb,ow) (sp,sa,sl,sw))
 |_=> .no
def anc:aN:=[aRO]
def Xl:=vo (S:=aWY) func102 anc kN (λargs lv h=>by
 unfold aWY at h;split at h
 ·rename_i nm at_ ph mn mx st fb ow sp sa sl sw
  refine Aq (.br (!(sV (nm,at_,ph,mn,mx,st,fb,ow) (sp,sa,sl,sw))) (.ok (0:Y))<|.br sw (.ok mx)<|.br (sp !=4) (.ok (0:Y))<|.br (sl !=0) (.ok sa)<|.ok fb) ?_;obtain rfl:=h;refine ⟨λh1=>?_,λh1=>⟨λh2=>?_,λh2=>⟨λh3=>?_,λh3=>⟨λh4=>?_,λh4=>?_⟩⟩⟩⟩
  all_goals refine B0 (λz=>LV.v<|ag J z) ?_
  all_goals simp_all [Bk]
 ·cases h)
structure M8 where
 most:Y
 r:aM
 l:aB
 (n i:Y)
def aKc:=bN f136 0
def pH (s:M8):T (Rd M8):=
 .br (an<|s.i<s.n) (.ix s.i (M s.l)<|.br ((an<|(gi s.l s.i)<0) ||(an<|(gi s.l s.i)>s.most)) (.so (.ret) {s with r:=X})<|.nx {s with i:=AA<|s.i+1}) (.so (.exit 0) s)
def V8 (s:M8) (j:Y):aM:=inB (gi s.l j) 0 s.most
def qD (s:M8):Prop:=s.i=0/\0<=s.n/\s.n<=1000/\s.n=(M s.l:Y)
def dT (s:M8):Prop:=0<=s.i/\s.i<=s.n/\s.n<=1000/\(s.n=(M s.l:Y))/\∀j:aC,(j:Y)<s.i->V8 s j=U
def aCV (s:M8):aC:=(s.n-s.i).toNat
def yt (x:Ex) (s s':M8):Prop:=(x=.exit 0/\∀j:aC,(j:Y)<s'.n->V8 s' j=U)\/(x=.ret/\s'.r=X/\∃j:aC,(j:Y)<s'.n/\V8 s' j=X)
def ape:∀s,qD s->dT s:=by
 exact Jq
def akw:Da dT aCV yt pH:=by
 intro s hI;unfold pH;obtain ⟨h0,h1,h2,h3,h4⟩:=hI;refine AH (λc1=>AH (λc2=>?_) λc2=>?_) λc1=>?_
 ·have c1:s.i<s.n:=AX
  refine .inr ⟨rfl,rfl,s.i.toNat,A8,?_⟩
  have hg:V8 s s.i=false:=aQG
  exact hg
 ·have c1:s.i<s.n:=AX
  have hg:V8 s s.i=true:=aQG
  rw [AI (x:=s.i+1)];refine ⟨⟨A8,A8,h2,h3,λj hj=>?_⟩,by simp only [aCV];omega⟩
  exact LR
 ·exact Sy
def SU:AR M8:=⟨0,21,[0,4,7,8,9],[],λs=>[s.most,s.r,.xl A7 s.l,s.n,s.i],λ_=>[],λv b=>⟨AL v 0,EB v 1,B1 A7 v 2,AL v 3,AL v 4⟩,pH,λs r=> {s with r:=r.r,i:=r.i},λs=>s,λ_ s=>s,[.ret,.exit 0],qD,dT,aCV⟩
abbrev aS9:=SU.run
abbrev aV7:=SU.At
def alX:Rq dT pH:=by
 exact QS
def aUN:aN:=[]
def aa4:SU.Ok:={}
def aaY:SU.Pf (yt):=⟨ape,λs h=>rfl,akw,alX⟩
def azl:SA 0 aKc SU:=s1 aa4 aaY aUN kN
def ayQ:Fi qD dT yt aV7 aS9:=AR.fin aa4 aaY
def aVX:aD->T LV
 | [.v (ag J most),.xl (.int J) ns]=> .req (M ns<=1000) (.ok<|ns.all λp=>inB p 0 most)
 |_=> .no
def aXq:=vm (S:=aVX) func136 aUN kN (L:=(λi=>if i=2 then SU.lp else Ao i)) (λb hb=>by
 rw [show BC _=[aKc] by kernel_rfl] at hb
 simp only [B6,Bv,Bt] at hb;subst hb;exact azl) (λargs lv h=>by
 unfold aVX at h;split at h
 ·rename_i most ns
  refine Aq (letI a:=(M ns:Y);.req (SU.q (⟨most,X,ns,a,0⟩:M8))<|.br (Bj (aV7 (⟨most,X,ns,a,0⟩:M8))<|.ret) (.ok (aS9 (⟨most,X,ns,a,0⟩:M8)).r)<|.ok U) ?_;obtain ⟨h0,rfl⟩:=h
  have hE:qD ⟨most,X,ns,(M ns:Y),0⟩:=⟨rfl,Aa,Aa,rfl⟩
  obtain ⟨s',hI,hq⟩:=ayQ _ hE;rw [aW4];refine ⟨⟨hE,rfl,rfl⟩,?_⟩;rcases hq with ⟨q1,q2⟩ |⟨q1,q2,j,q3,q4⟩<;>rw [q1]
  ·rw [show D5 (M ns) (λj=>inB (gi ns j) 0 most)=U from DQ.2 q2]
   exact ⟨λh=>As,λ_=>rfl⟩
  ·rw [q2,show D5 (M ns) (λj=>inB (gi ns j) 0 most)=X from Nd j q3 q4]
   exact ⟨λ_=>rfl,λh=>As⟩
 ·cases h)
def aVr:aD->T LV
 | [.v (.agg ⟨[ag J sr,ag J rg,.bool bk]⟩)]=> .ok (meV (sr,rg,bk))
 |_=> .no
def aiN:aN:=[aXq]
def ake:=vo (S:=aVr) func135 aiN kN (λargs lv h=>by
 unfold aVr at h;split at h
 ·rename_i sr rg bk
  refine Aq (.req (M ([sr])<=1000)<|.br (([sr]).all λp=>inB p 0 (1000000:Y)) (.br (an<|rg>=(-1000000000000000)) (.ok<|an<|rg<=1000000000000000)<|.ok X)<|.ok X) ?_
  obtain rfl:=h;refine ⟨AJ,λc1=>⟨λc2=>?_,λc2=>?_⟩,λc1=>?_⟩
  all_goals refine B0 (λz=>LV.v<|.bool z) ?_
  all_goals simp only [J2,List.all_nil,nC] at c1
  all_goals first|(simp_all [meV];done) |(simp_all [meV];omega)
 ·cases h)
def aVs:aD->T LV
 | [.v (.agg ⟨[ag J sr,ag J rg,.bool bk]⟩),.v (ag J a),.v (ag J p)]=> .tu #[.agg #[(Hq (sr,rg,bk) a p).1,(Hq (sr,rg,bk) a p).2.1,(Hq (sr,rg,bk) a p).2.2],GA (sr,rg,bk) a p]
 |_=> .no
def xg:aN:=[ake,aXq]
def aik:Ax:=kI xg<|l0 xg
def Xi:=vo (S:=aVs) func104 xg aik (λargs lv h=>by
 unfold aVs at h;split at h
 ·rename_i sr rg bk a p
  refine Aq (letI b:=AA<|2300*a;.br (!(meV (sr,rg,bk))) (.tu #[.agg #[(0:Y),(0:Y),X],(1:Y)])<|.req (M ([a])<=1000)<|.br (!(([a]).all λp=>inB p 0 (80:Y))) (.tu #[.agg #[(0:Y),(0:Y),X],(1:Y)])<|.req (M ([p])<=1000)<|.br (!(([p]).all λp=>inB p 0 (3:Y))) (.tu #[.agg #[(0:Y),(0:Y),X],(1:Y)])<|.br bk (.br (!(meV (sr,(AA<|rg-(AA<|b*p)),bk))) (.tu #[.agg #[(0:Y),(0:Y),X],(3:Y)])<|.tu #[.agg #[sr,(AA<|rg-(AA<|b*p)),bk],(0:Y)])<|.br (!(meV (sr,(AA<|rg+(AA<|b*p)),bk))) (.tu #[.agg #[(0:Y),(0:Y),X],(3:Y)])<|.tu #[.agg #[sr,(AA<|rg+(AA<|b*p)),bk],(0:Y)]) ?_
  obtain rfl:=h
  have fin:∀(x1 x2:Y) (x3:aM) (e:Y),(x1,x2,x3)=Hq (sr,rg,bk) a p->e=GA (sr,rg,bk) a p->LV.v (.tuple #[.agg #[ag J x1,ag J x2,.bool x3],ag J e])=LV.v (.tuple #[.agg #[ag J (Hq (sr,rg,bk) a p).1,ag J (Hq (sr,rg,bk) a p).2.1,.bool (Hq (sr,rg,bk) a p).2.2],ag J<|GA (sr,rg,bk) a p]):=by
   intro x1 x2 x3 e h1 h2;rw [h2,<-h1]
  have hw:meV (sr,rg,bk)=U->inB a 0 80=U->inB p 0 3=U->AA (rg-AA (AA (2300*a)*p))=rg-2300*a*p/\AA (rg+AA (AA (2300*a)*p))=rg+2300*a*p:=by
   intro h1 h2 h3
   simp [meV,inB] at h1 h2 h3
   have hm:0<=2300*a*p/\2300*a*p<=552000:=⟨F7 A0 A0,F9 (Int.mul_le_mul (by omega:2300*a<=184000) (by omega:p<=3) A0 A0) A0⟩
   rw [AI (x:=2300*a),AI (x:=2300*a*p)];exact ⟨AI,AI⟩
  simp only [J2,List.all_nil,nC];refine ⟨λc1=>?_,λc1=>⟨AJ,λc2=>?_,λc2=>⟨AJ,λc3=>?_,λc3=>?_⟩⟩⟩
  ·refine fin _ _ _ _ ?_ ?_<;>simp at c1<;>simp [Hq,GA,mcB,c1]
  ·refine fin _ _ _ _ ?_ ?_<;>simp at c1 c2<;>simp [Hq,GA,mcB,c1,c2]
  ·refine fin _ _ _ _ ?_ ?_<;>simp at c1 c2 c3<;>simp [Hq,GA,mcB,c1,c2,c3]
  ·simp at c1 c2 c3
   obtain ⟨w1,w2⟩:=hw c1 c2 c3;rw [w1,w2];refine ⟨λc4=>⟨λc5=>?_,λc5=>?_⟩,λc4=>⟨λc5=>?_,λc5=>?_⟩⟩<;>subst c4<;>simp at c5<;>refine fin _ _ _ _ ?_ ?_<;>simp [Hq,GA,mcB,mcR,c1,c2,c3,c5]
 ·cases h)
def aVg:aD->T LV
 | [.v (ag J n),.v (ag J a),.v (ag J b)]=> .ok (inB n a b)
 |_=> .no
def aiM:aN:=[]
def UG:=vo (S:=aVg) func50 aiM kN (λargs lv h=>by
 unfold aVg at h;split at h
 ·rename_i n a b
  refine Aq (.ok<|.v<|.bool<|(an<|n>=a)&&(an<|n<=b)) ?_;exact h
 ·cases h)
def aVQ:aD->T LV
 | [.v (ag J n)]=> .ok (inB n (-200) 200)
 |_=> .no
def aiL:aN:=[UG]
def jf:=vo (S:=aVQ) func19 aiL kN (λargs lv h=>by
 unfold aVQ at h;split at h
 ·rename_i n
  refine Aq (.ok<|inB n (-200:Y) (200:Y)) ?_;exact h
 ·cases h)
def oX (e:Ty):LV->Option (List e.D)
 | .xl e' l=>match K7 e' e with
  |some ⟨h⟩=>ah (Kq h l)
  |none=>aj
 |_=>aj
def Il {e:Ty}{x:LV}{l:List e.D}(h:oX e x=ah l):x=.xl e l:=by
 unfold oX at h;split at h
 ·split at h
  ·rename_i h2 _
   subst h2;cases h;rfl
  ·cases h
 ·cases h
def oI:LV->Option Int
 | .v (ag J n)=>ah n
 |_=>aj
def aCi {x:LV}{n:Y}(h:oI x=ah n):x=.v (ag J n):=by
 unfold oI at h;exact aA4
def oB:LV->Option Bool
 | .v (.bool n)=>ah n
 |_=>aj
def amN {x:LV}{n:aM}(h:oB x=ah n):x=.v (.bool n):=by
 unfold oB at h;exact aA4
def cu:LV->Option PK
 | .agg [a0,a1,a2,a3,a4,a5,a6,a7,a8,a9,a10,a11,a12,a13,a14,a15,a16,a17,a18,a19]=>(oX Ae a0).bind λcs=>(oX .str a1).bind λos=>(oX Ak a2).bind λks=>(oX Af a3).bind λgs=>(oX Al a4).bind λbs=>(oI a5).bind λtk=>(oB a6).bind λup=>(oX AO a7).bind λls=>(oI a8).bind λse=>(oX (.int aw) a9).bind λfl=>(oX Ag a10).bind λra=>(oI a11).bind λnx=>(oX B4 a12).bind λst=>(oX AO a13).bind λca=>(oX BB a14).bind λmi=>(oX BS a15).bind λme=>(oX Ai a16).bind λdm=>(oX BM a17).bind λlk=>(oX A7 a18).bind λdr=>(oX A7 a19).bind λtg=>ah ⟨cs,os,ks,gs,bs,tk,up,ls,se,fl,ra,nx,st,ca,mi,me,dm,lk,dr,tg⟩
 |_=>aj
def uH {x:LV}{p:PK}(h:cu x=ah p):x=(p):=by
 unfold cu at h;split at h
 ·simp only [Option.bind_eq_some_iff] at h
  obtain ⟨cs,h0,os,h1,ks,h2,gs,h3,bs,h4,tk,h5,up,h6,ls,h7,se,h8,fl,h9,ra,h10,nx,h11,st,h12,ca,h13,mi,h14,me,h15,dm,h16,lk,h17,dr,h18,tg,h19,h⟩:=h;cases h;rw [Il h0,Il h1,Il h2,Il h3,Il h4,aCi h5,amN h6,Il h7,aCi h8,Il h9,Il h10,aCi h11,Il h12,Il h13,Il h14,Il h15,Il h16,Il h17,Il h18,Il h19]
 ·cases h
def WZ:=bN f24 0
def PD:aN:=[PC,jf,UG]
def asu:Sound prog AT (.loop WZ) (EY prog AT PD ER 20 2 WZ):=MQ (gk PD) kN.h 20 2 WZ
structure OE where
 r:aM
 n:Y
 l:aB
 (m i:Y)
 p:PK
def aIl:=bN f24 1
def aBP (s:OE):T (Rd OE):=
 .br (an<|s.i<s.m) (.ix s.i (M s.l)<|.ix s.i (M s.p.cs)<|.br (!(inB (gi s.l s.i) (1:Y) (AZ s.p.cs s.i).2.2.1)) (.so (.ret) {s with r:=X})<|.nx {s with i:=AA<|s.i+1}) (.so (.exit 2) s)
def RY (s:OE) (j:Y):aM:=inB (gi s.l j) 1 (AZ s.p.cs j).2.2.1
def mm (s:OE):Prop:=s.i=0/\0<=s.m/\s.m<=1000/\s.m=(M s.l:Y)/\M s.l=M s.p.cs
def YT (s:OE):Prop:=0<=s.i/\s.i<=s.m/\s.m<=1000/\(s.m=(M s.l:Y)/\M s.l=M s.p.cs)/\∀j:aC,(j:Y)<s.i->RY s j=U
def vX (s:OE):aC:=(s.m-s.i).toNat
def aDO (x:Ex) (s s':OE):Prop:=(x=.exit 2/\∀j:aC,(j:Y)<s'.m->RY s' j=U)\/(x=.ret/\s'.r=X/\∃j:aC,(j:Y)<s'.m/\RY s' j=X)
def an3:∀s,mm s->YT s:=by
 exact Jq
def agq:Da YT vX aDO aBP:=by
 intro s hI;obtain ⟨h0,h1,h2,h3,h4⟩:=hI;refine AH (λc1=>AH (λc2=>?_) λc2=>?_) λc1=>?_
 ·have c1:s.i<s.m:=AX
  refine .inr ⟨rfl,rfl,s.i.toNat,Aa,?_⟩
  have hg:RY s s.i=false:=by unfold RY;simp_all
  exact hg
 ·have c1:s.i<s.m:=AX
  have hg:RY s s.i=true:=by unfold RY;simp_all
  rw [AI (x:=s.i+1)];refine ⟨⟨A8,A8,h2,h3,λj hj=>?_⟩,by simp only [vX];omega⟩
  exact LR
 ·exact cB
def Pm:AR OE:=⟨0,105,[1,2,3,61,62,63],[],λs=>[.own 0 0,s.r,s.n,.xl A7 s.l,s.m,s.i],λs=>[⟨[s.p.cs,s.p.os,s.p.ks,s.p.gs,s.p.bs,s.p.tk,s.p.up,s.p.ls,s.p.se,.xl (.int aw) s.p.fl,s.p.ra,s.p.nx,s.p.st,s.p.ca,s.p.mi,s.p.me,s.p.dm,s.p.lk,.xl A7 s.p.dr,.xl A7 s.p.tg],58,.cl,X⟩],λv b=>⟨EB v 1,AL v 2,B1 A7 v 3,AL v 4,AL v 5,rQ b 0⟩,aBP,λs r=> {s with r:=r.r,i:=r.i},λs=>s,λ_ s=>s,[.ret,.exit 2],mm,YT,vX⟩
abbrev gN:=Pm.run
abbrev gb:=Pm.At
def afk:Rq YT aBP:=by
 exact za
def aTr:Pm.Ok:={}
def aRj:Pm.Pf (aDO):=⟨an3,λs h=>rfl,agq,afk⟩
def asx:SA 0 aIl Pm:=s1 aTr aRj PD kN
def atb:Fi mm YT aDO gb gN:=AR.fin aTr aRj
structure OD where
 r:aM
 n:Y
 l:aB
 (m i:Y)
 p:PK
def aIk:=bN f24 2
def aBO (s:OD):T (Rd OD):=
 .br (an<|s.i<s.m) (.ix s.i (M s.l)<|.br (!(inB (gi s.l s.i) (-200) 200)) (.so (.ret) {s with r:=X})<|.nx {s with i:=AA<|s.i+1}) (.so (.exit 4) s)
def RX (s:OD) (j:Y):aM:=inB (gi s.l j) (-200) 200
def ml (s:OD):Prop:=s.i=0/\0<=s.m/\s.m<=1000/\s.m=(M s.l:Y)
def YS (s:OD):Prop:=0<=s.i/\s.i<=s.m/\s.m<=1000/\(s.m=(M s.l:Y))/\∀j:aC,(j:Y)<s.i->RX s j=U
def vW (s:OD):aC:=(s.m-s.i).toNat
def aDM (x:Ex) (s s':OD):Prop:=(x=.exit 4/\∀j:aC,(j:Y)<s'.m->RX s' j=U)\/(x=.ret/\s'.r=X/\∃j:aC,(j:Y)<s'.m/\RX s' j=X)
def an2:∀s,ml s->YS s:=by
 exact Jq
def agp:Da YS vW aDM aBO:=by
 intro s hI;obtain ⟨h0,h1,h2,h3,h4⟩:=hI;refine AH (λc1=>AH (λc2=>?_) λc2=>?_) λc1=>?_
 ·have c1:s.i<s.m:=AX
  refine .inr ⟨rfl,rfl,s.i.toNat,A8,?_⟩
  have hg:RX s s.i=false:=by unfold RX;simp_all
  exact hg
 ·have c1:s.i<s.m:=AX
  have hg:RX s s.i=true:=by unfold RX;simp_all
  rw [AI (x:=s.i+1)];refine ⟨⟨A8,A8,h2,h3,λj hj=>?_⟩,by simp only [vW];omega⟩
  exact LR
 ·exact cB
def Pl:AR OD:=⟨0,105,[1,2,3,80,81,82],[],λs=>[.own 0 0,s.r,s.n,.xl A7 s.l,s.m,s.i],λs=>[⟨[s.p.cs,s.p.os,s.p.ks,s.p.gs,s.p.bs,s.p.tk,s.p.up,s.p.ls,s.p.se,.xl (.int aw) s.p.fl,s.p.ra,s.p.nx,s.p.st,s.p.ca,s.p.mi,s.p.me,s.p.dm,s.p.lk,.xl A7 s.p.dr,.xl A7 s.p.tg],58,.cl,X⟩],λv b=>⟨EB v 1,AL v 2,B1 A7 v 3,AL v 4,AL v 5,rQ b 0⟩,aBO,λs r=> {s with r:=r.r,i:=r.i},λs=>s,λ_ s=>s,[.ret,.exit 4],ml,YS,vW⟩
abbrev gM:=Pl.run
abbrev gZ:=Pl.At
def afj:Rq YS aBO:=by
 exact QS
def aTq:Pl.Ok:={}
def aRi:Pl.Pf (aDM):=⟨an2,λs h=>rfl,agp,afj⟩
def asw:SA 0 aIk Pl:=s1 aTq aRi PD kN
def ata:Fi ml YS aDM gZ gM:=AR.fin aTq aRi
structure OC where
 r:aM
 n:Y
 l:aXP
 (m i:Y)
def aIj:=bN f24 3
def aBN (s:OC):T (Rd OC):=
 .br (an<|s.i<s.m) (.ix s.i (M s.l)<|.br (!(inB (Fy s.l s.i).2.2.1 (0:Y)<|AA<|s.n-1)) (.so (.ret) {s with r:=X})<|.nx {s with i:=AA<|s.i+1}) (.so (.exit 6) s)
def U3 (s:OC) (j:Y):aM:=inB (Fy s.l j).2.2.1 0<|s.n-1
def mj (s:OC):Prop:=s.i=0/\0<=s.m/\s.m<=100000000/\s.m=(M s.l:Y)/\0<=s.n/\s.n<=16
def YR (s:OC):Prop:=0<=s.i/\s.i<=s.m/\s.m<=100000000/\(s.m=(M s.l:Y)/\0<=s.n/\s.n<=16)/\∀j:aC,(j:Y)<s.i->U3 s j=U
def vV (s:OC):aC:=(s.m-s.i).toNat
def aDL (x:Ex) (s s':OC):Prop:=(x=.exit 6/\∀j:aC,(j:Y)<s'.m->U3 s' j=U)\/(x=.ret/\s'.r=X/\∃j:aC,(j:Y)<s'.m/\U3 s' j=X)
def an1:∀s,mj s->YR s:=by
 exact Jq
def agn:Da YR vV aDL aBN:=by
 intro s hI;obtain ⟨h0,h1,h2,h3,h4⟩:=hI;refine AH (λc1=>AH (λc2=>?_) λc2=>?_) λc1=>?_
 ·have c1:s.i<s.m:=AX
  refine .inr ⟨rfl,rfl,s.i.toNat,Aa,?_⟩
  have hg:U3 s s.i=false:=aPk
  exact hg
 ·have c1:s.i<s.m:=AX
  have hg:U3 s s.i=true:=aPk
  rw [AI (x:=s.i+1)];refine ⟨⟨A8,A8,h2,h3,λj hj=>?_⟩,by simp only [vV];omega⟩
  exact LR
 ·exact cB
def Q2:AR OC:=⟨0,105,[2,3,91,92,93],[],λs=>[s.r,s.n,s.l,s.m,s.i],λ_=>[],λv b=>⟨EB v 0,AL v 1,B1 BM v 2,AL v 3,AL v 4⟩,aBN,λs r=> {s with r:=r.r,i:=r.i},λs=>s,λ_ s=>s,[.ret,.exit 6],mj,YR,vV⟩
abbrev tn:=Q2.run
abbrev gY:=Q2.At
def afi:Rq YR aBN:=by
 intro s hI;refine ⟨λc1=>⟨?_,λ_=>trivial,λ_=>trivial⟩,λ_=>trivial⟩
 ·(obtain ⟨h0,h1,h2,h3,h4⟩:=hI;obtain ⟨g0,g1,g2⟩:=h3;simp at c1;omega)
def aTp:Q2.Ok:={}
def aRh:Q2.Pf (aDL):=⟨an1,λs h=>rfl,agn,afi⟩
def asv:SA 0 aIj Q2:=s1 aTp aRh PD kN
def atZ:Fi mj YR aDL gY tn:=AR.fin aTp aRh
def rX {α:Type}{l:List α}{d:α}{f:α->aM}:D5 (M l) (λk=>f<|l.getD k.toNat d)=l.all f:=by
 rw [IZ,DQ,BO]
 constructor
 ·intro h x hx
  obtain ⟨k,hk,rfl⟩:=Hx.1 hx
  grind
 ·intro h j hj
  grind
def aVe:aD->T LV
 | [x_p]=>(match cu x_p with
  |some p=> .req (M p.lk<=100000000) (.ok<|Eu p)
  |none=> .no)
 |_=> .no
def Qi (p:PK):OE:=(⟨X,(M p.gs:Y),p.tg,(M p.tg:Y),0,p⟩:OE)
def Qh (p:PK):OD:=(⟨(gN<|Qi p).r,(M p.gs:Y),p.dr,(M p.dr:Y),0,p⟩:OD)
def TM (p:PK):OC:=(⟨(gM<|Qh p).r,(M p.gs:Y),p.lk,(M p.lk:Y),0⟩:OC)
def agY (p:PK):letI a:=(M p.gs:Y);Bw prog AT PD kN (λi=>if i=5 then (EY prog AT PD ER 20 2 WZ) else if i=13 then Pm.lp else if i=19 then Pl.lp else if i=25 then Q2.lp else Ao i) f24 [p]=.br ((!(B9 p.cs p.os p.ks p.gs p.bs)) ||(!(inB p.tk (0:Y) (1000000:Y)))) (.ok X) (.br ((M p.st:Y) !=a) (.ok X)<|.br ((M p.ca:Y) !=a) (.ok X)<|.br ((M p.mi:Y) !=a) (.ok X)<|.br ((M p.me:Y) !=a) (.ok X)<|.br ((M p.dm:Y) !=a) (.ok X)<|.br ((M p.dr:Y) !=a) (.ok X)<|.br ((M p.tg:Y) !=(M p.cs:Y)) (.ok X)<|.req (Pm.q<|Qi p)<|.br (Bj (gb<|Qi p)<|.ret) (.ok (gN<|Qi p).r)<|.req (Pl.q<|Qh p)<|.br (Bj (gZ<|Qh p)<|.ret) (.ok (gM<|Qh p).r)<|.req (Q2.q<|TM p)<|.br (Bj (gY<|TM p)<|.ret) (.ok (tn<|TM p).r)<|.ok U):=AV
def alG:=vm (S:=aVe) func24 PD kN (L:=(λi=>if i=5 then (EY prog AT PD ER 20 2 WZ) else if i=13 then Pm.lp else if i=19 then Pl.lp else if i=25 then Q2.lp else Ao i)) (λb hb=>by
 rw [show BC _=[WZ,aIl,aIk,aIj] by kernel_rfl] at hb
 simp only [B6,Bv,Bt] at hb;rcases hb with rfl|rfl|rfl|rfl
 ·exact asu
 ·exact asx
 ·exact asw
 ·exact asv) (λargs lv h=>by
 refine ⟨?_⟩;unfold aVe at h;split at h
 ·split at h
  case h_2=>cases h
  rename_i p hp;obtain rfl:=uH hp;simp only [canL,canX];rw [agY];obtain ⟨hk,rfl⟩:=h
  have op:Eu p=U->_:=λhv=>by unfold Eu at hv;simp only [AY,Ac] at hv;exact hv
  have no:(Eu p=U->False)->LV.v (.bool X)=LV.v (.bool<|Eu p):=λh=>by
   cases e:Eu p
   ·rfl
   ·exact (h e).elim
  refine ⟨λc1=>no λhv=>?_,λc1=>⟨λc2=>no λhv=>?_,λc2=>⟨λc3=>no λhv=>?_,λc3=>⟨λc4=>no λhv=>?_,λc4=>⟨λc5=>no λhv=>?_,λc5=>⟨λc6=>no λhv=>?_,λc6=>⟨λc7=>no λhv=>?_,λc7=>⟨λc8=>no λhv=>?_,λc8=>?_⟩⟩⟩⟩⟩⟩⟩⟩
  iterate 8
   ·obtain ⟨⟨h1,h2⟩,⟨h3,h4,h5,h6,h7,h8⟩,h9,_⟩:=op hv
    simp_all
  simp only [bne_eq_false_iff_eq,Int.natCast_inj,HN,IW] at c1 c2 c3 c4 c5 c6 c7 c8
  have hs:=Cz.1 c1.1
  have hv:Eu p=(D5 (M p.tg) (λk=>inB (gi p.tg k) 1 (AZ p.cs k).2.2.1)&&(p.dr.all (λx=>inB x (-200) 200)&&p.lk.all (λl=>inB l.2.2.1 0<|(M p.gs:Y)-1))):=by
   unfold Eu
   grind
  have hr:D5 (M p.dr) (λk=>inB (gi p.dr k) (-200) 200)=p.dr.all (λx=>inB x (-200) 200):=rX (f:=λx=>inB x (-200) 200)
  have hl:D5 (M p.lk) (λk=>inB (Fy p.lk k).2.2.1 0<|(M p.gs:Y)-1)=p.lk.all (λl=>inB l.2.2.1 0<|(M p.gs:Y)-1):=rX (f:=λl:Lk=>inB l.2.2.1 0<|(M p.gs:Y)-1)
  rw [hv,<-hr,<-hl]
  have E1:mm (Qi p):=⟨rfl,QL _,by show (M p.tg:Y)<=1000;omega,rfl,c8⟩
  have E2:ml (Qh p):=⟨rfl,QL _,by show (M p.dr:Y)<=1000;omega,rfl⟩
  have E3:mj (TM p):=⟨rfl,QL _,by show (M p.lk:Y)<=100000000;omega,rfl,QL _,by show (M p.gs:Y)<=16;omega⟩
  refine ⟨⟨E1,rfl,rfl⟩,?_⟩;obtain ⟨_,_,q⟩:=atb _ E1
  have q:(gb (Qi p)=.exit 2/\_)\/(gb (Qi p)=.ret/\(gN<|Qi p).r=X/\∃j:aC,(j:Y)<(M p.tg:Y)/\inB (gi p.tg j) 1 (AZ p.cs j).2.2.1=X):=q
  rcases q with ⟨q1,q2⟩ |⟨q1,q2,j,q3,q4⟩
  rotate_left
  ·exact zj
  rw [q1,show D5 (M p.tg) (λk=>inB (gi p.tg k) 1 (AZ p.cs k).2.2.1)=U from DQ.2 q2]
  refine ⟨λc=>DP,λ_=>⟨⟨E2,rfl,rfl⟩,?_⟩⟩
  obtain ⟨_,_,q⟩:=ata _ E2
  have q:(gZ (Qh p)=.exit 4/\_)\/(gZ (Qh p)=.ret/\(gM<|Qh p).r=X/\∃j:aC,(j:Y)<(M p.dr:Y)/\inB (gi p.dr j) (-200) 200=X):=q
  rcases q with ⟨q1,q2⟩ |⟨q1,q2,j,q3,q4⟩
  rotate_left
  ·exact zj
  rw [q1,show D5 (M p.dr) (λk=>inB (gi p.dr k) (-200) 200)=U from DQ.2 q2]
  refine ⟨λc=>DP,λ_=>⟨⟨E3,rfl,rfl⟩,?_⟩⟩
  obtain ⟨_,_,q⟩:=atZ _ E3
  have q:(gY (TM p)=.exit 6/\_)\/(gY (TM p)=.ret/\(tn<|TM p).r=X/\∃j:aC,(j:Y)<(M p.lk:Y)/\inB (Fy p.lk j).2.2.1 0 ((M p.gs:Y)-1)=X):=q
  rcases q with ⟨q1,q2⟩ |⟨q1,q2,j,q3,q4⟩
  rotate_left
  ·exact zj
  rw [q1,show D5 (M p.lk) (λk=>inB (Fy p.lk k).2.2.1 0<|(M p.gs:Y)-1)=U from DQ.2 q2]
  exact ⟨λc=>DP,λ_=>rfl⟩
 ·cases h)
def aWM:aD->T LV
 | [.xl (.int J) l]=> .req (M l<=100000000) (.ok<|.xl A7 l)
 |_=> .no
def Tl:aN:=[]
def aKT {α:Type}{l:List α}{d:α}{n:Y}(h:n=(M l:Y)):BF l (aq n.toNat d)=l:=by
 unfold BF
 simp_all
def getD_mem {α:Type}{l:List α}{i:aC}{d:α}(h:i<M l):l.getD i d∈l:=by
 grind
def set_self {α:Type}{l:List α}{i:aC}{d:α}(h:i<M l):l.set i (l.getD i d)=l:=by
 simp_all
def aXD:=vo (S:=aWM) func61 Tl kN (λargs lv h=>by
 unfold aWM at h;split at h
 ·rename_i l
  refine Aq (letI a:=(M l:Y);letI b:=(BF l<|aq a.toNat (0:Y));.rm 8 a<|.rc a (0:Y) (M l)<|.req (0+a.toNat<=M b)<|.ok<|.xl A7<|(b.drop 0).take a.toNat) ?_;obtain ⟨hl,rfl⟩:=h;rw [aKT rfl];refine ⟨A0,⟨AJ,AJ⟩,AJ,?_⟩;rw [C2,CZ,El];rfl
 ·cases h)
structure O4 where
 (n i:Y)
 p1:aE
 p2:aP
 p3:aF
 p4:aQ
 agx:Y
 adu:aM
 (p8 p11:Y)
 aqj:aX4
 aq1:ba
 av4:aXP
 (TP aq0:aB)
 (uN b11 b12 b13 b14:aV)
 axp:Y
 adi:aM
 b17:aV
 b18:Y
 (b19 b110:aV)
 Vu:Y
 (aqN ax8 arR aqO aez arS sH aey:aV)
 b2:aJ
 b3:aL
 b4:aB
 b5:bw
 b6:bf
 b7:aL
 o:aXZ
def aC4 (s:O4):T (Rd O4):=letI a:=s.o.getD s.i.toNat<|Ty.dflt BB;.br (an<|s.i<s.n) (.ik s.i (M s.o)<|.req (M a.1<=100000000)<|.ik s.i (M s.o)<|.rl s.b2<|.rl s.b3<|.rl s.b4<|.rl s.b5<|.rl s.b6<|.rl s.b7<|.re (M s.o) (s.o.set s.i.toNat a)<|.nx {s with i:=AA<|s.i+1,o:=s.o.set s.i.toNat a})<|.rl s.b2<|.rl s.b3<|.rl s.b4<|.rl s.b5<|.rl s.b6<|.rl s.b7<|.rl s.o<|.so (.exit 0) s
def lP (s:O4):Prop:=s.i=0/\s.n=(M s.o:Y)/\s.n<=1000/\∀m∈s.o,M m.1<=1000
def mL (s:O4):Prop:=0<=s.i/\s.i<=s.n/\s.n=(M s.o:Y)/\s.n<=1000/\∀m∈s.o,M m.1<=1000
def wP (s:O4):aC:=(s.n-s.i).toNat
def acY (x:Ex) (s s':O4):Prop:=True
def aol:∀s,lP s->mL s:=by
 exact aPO
def ajf:Da mL wP acY aC4:=by
 intro s hI;obtain ⟨h0,h1,h2,h3,h4⟩:=hI;refine AH (λc1=>?_) λc1=>trivial
 ·have c1:s.i<s.n:=A8
  have e:=set_self (l:=s.o) (i:=s.i.toNat) (d:=Ty.dflt BB) A0
  rw [AI (x:=s.i+1),e];exact ⟨⟨A8,A8,h2,h3,h4⟩,by simp only [wP];omega⟩
def HS:AR O4:=⟨0,82,[1,2,44,45],[],λs=>[.own 0 0,.own 1 0,s.n,s.i],λs=>[⟨[.os 2 11 0<|M s.b2,s.p1,s.p2,s.p3,s.p4,s.agx,s.adu,.os 3 5 0<|M s.b3,s.p8,.os 4 1 0<|M s.b4,.os 5 2 0<|M s.b5,s.p11,.os 6 4 0<|M s.b6,.os 7 5 0<|M s.b7,.os 8 3 0<|M s.o,s.aqj,s.aq1,s.av4,.xl A7 s.TP,.xl A7 s.aq0],58,.cl,X⟩,⟨[.v<|s.uN,.v<|s.b11,.v<|s.b12,.v<|s.b13,.v<|s.b14,s.axp,s.adi,.v<|s.b17,s.b18,.v<|s.b19,.v<|s.b110,s.Vu,.v<|s.aqN,.v<|s.ax8,.v<|s.arR,.v<|s.aqO,.v<|s.aez,.v<|s.arS,.v<|s.sH,.v<|s.aey],58,.cl,X⟩,bV 42 Ae s.b2,bV 139 AO s.b3,bV 5 (.int aw) s.b4,bV 143 Ag s.b5,bV 95 B4 s.b6,bV 75 AO s.b7,bV 148 BB s.o],λv b=>⟨AL v 2,AL v 3,AF .str b 0 1,AF Ak b 0 2,AF Af b 0 3,AF Al b 0 4,Am b 0 5,cgB b 0 6,Am b 0 8,Am b 0 11,AF BS b 0 15,AF Ai b 0 16,AF BM b 0 17,AF A7 b 0 18,AF A7 b 0 19,HJ<|BD (Cc b 1) 0,HJ<|BD (Cc b 1) 1,HJ<|BD (Cc b 1) 2,HJ<|BD (Cc b 1) 3,HJ<|BD (Cc b 1) 4,Am b 1 5,cgB b 1 6,HJ<|BD (Cc b 1) 7,Am b 1 8,HJ<|BD (Cc b 1) 9,HJ<|BD (Cc b 1) 10,Am b 1 11,HJ<|BD (Cc b 1) 12,HJ<|BD (Cc b 1) 13,HJ<|BD (Cc b 1) 14,HJ<|BD (Cc b 1) 15,HJ<|BD (Cc b 1) 16,HJ<|BD (Cc b 1) 17,HJ<|BD (Cc b 1) 18,HJ<|BD (Cc b 1) 19,Ab Ae b 2,Ab AO b 3,Ab (.int aw) b 4,Ab Ag b 5,Ab B4 b 6,Ab AO b 7,Ab BB b 8⟩,aC4,λs r=> {s with i:=r.i,o:=r.o},λs=>s,λ_ s=>s,[.exit 0],lP,mL,wP⟩
abbrev aJO:=HS.run
abbrev awu:=HS.At
def afY:Rq mL aC4:=by
 intro s hI;refine ⟨λc1=>⟨?_,?_,?_,?_,?_,A9,A9,A9,A9,A9,A9,?_,ak⟩,λc1=>⟨A9,A9,A9,A9,A9,A9,A9,ak⟩⟩
 all_goals ((obtain ⟨h0,h1,h2,h3,h4⟩:=hI;(try simp only [Ac] at c1);first|omega|exact ⟨rfl,AJ⟩ |exact ⟨rfl,rfl⟩ |exact I2 (h4 _<|getD_mem A0) Ad))
def xX:aN:=[aXD]
def ahJ:Ax:=kI xX<|l0 xX
def aTa:HS.Ok:={}
def aSM:HS.Pf (acY):=⟨aol,λs h=>rfl,ajf,afY⟩
def Cx:=s1 (b:=bN f23 0) aTa aSM xX ahJ
def awg:Rs lP awu aJO (λs:O4=>s.o) (λx s' (v:aXZ)=>x=.exit 0/\s'.o=v):=Dp aTa aSM (λs hI=>by
  obtain ⟨h0,h1,h2,h3,h4⟩:=hI;refine AH (λc1=>?_) λc1=>⟨rfl,rfl⟩
  have c1:s.i<s.n:=A8
  have e:=set_self (l:=s.o) (i:=s.i.toNat) (d:=Ty.dflt BB) A0
  rw [e];exact rfl)
structure Ma where
 p:PK
def V1 (s:Ma):aD:=[s.p]
def Zn (s:Ma):aG:=[]
def fH (s:Ma):O4:=(⟨(((M s.p.mi:Y).toNat:aC):Y),0,s.p.os,s.p.ks,s.p.gs,s.p.bs,s.p.tk,s.p.up,s.p.se,s.p.nx,s.p.me,s.p.dm,s.p.lk,s.p.dr,s.p.tg,.slice aj 0 0,.slice aj 0 0,.slice aj 0 0,.slice aj 0 0,.slice aj 0 0,0,X,.slice aj 0 0,0,.slice aj 0 0,.slice aj 0 0,0,.slice aj 0 0,.slice aj 0 0,.slice aj 0 0,.slice aj 0 0,.slice aj 0 0,.slice aj 0 0,.slice aj 0 0,.slice aj 0 0,BF s.p.cs<|aq (M s.p.cs:Y).toNat (ByteArray.empty,((0:Y),((0:Y),((0:Y),(((0:Y),(0:Y)),((0:Y),((0:Y),((0:Y),((0:Y),(0:Y)))))))))),BF s.p.ls<|aq (M s.p.ls:Y).toNat ((0:Y),((0:Y),((0:Y),((0:Y),(0:Y))))),BF s.p.fl<|aq (M s.p.fl:Y).toNat (0:Y),BF s.p.ra<|aq (M s.p.ra:Y).toNat ((0:Y),(0:Y)),BF s.p.st<|aq (M s.p.st:Y).toNat ((0:Y),((0:Y),((0:Y),X))),BF s.p.ca<|aq (M s.p.ca:Y).toNat ((0:Y),((0:Y),((0:Y),((0:Y),(0:Y))))),BF s.p.mi<|aq (M s.p.mi:Y).toNat (([]:aB),((0:Y),(0:Y)))⟩:O4)
structure Yo where
 p:PK
 (n7 n8 n9 n10 n11:aC)
def abh (s:Yo):LV:=.agg [.os 0 11 0<|M s.p.cs,s.p.os,s.p.ks,s.p.gs,s.p.bs,s.p.tk,s.p.up,.os 1 5 0<|M s.p.ls,s.p.se,.os 2 1 0<|M s.p.fl,.os 3 2 0<|M s.p.ra,s.p.nx,.os 4 4 0<|M s.p.st,.os 5 5 0<|M s.p.ca,.os 6 3 0<|M s.p.mi,.os 7 3 0 s.n7,.os 8 4 0 s.n8,.os 9 6 0 s.n9,.os 10 1 0 s.n10,.os 11 1 0 s.n11]
def acL (s:Yo):aG:=[bV 42 Ae s.p.cs,bV 139 AO s.p.ls,bV 5 (.int aw) s.p.fl,bV 143 Ag s.p.ra,bV 95 B4 s.p.st,bV 75 AO s.p.ca,bV 148 BB s.p.mi,bV 98 BS s.p.me,bV 77 Ai s.p.dm,bV 154 BM s.p.lk,bV 3 A7 s.p.dr,bV 3 A7 s.p.tg]
def kD (s:Ma):T Yo:=letI a:=(ByteArray.empty,((0:Y),((0:Y),((0:Y),(((0:Y),(0:Y)),((0:Y),((0:Y),((0:Y),((0:Y),(0:Y))))))))));letI f:=(M s.p.cs:Y);letI g:=(M s.p.fl:Y);letI h:=(M s.p.ls:Y);letI i:=(M s.p.ra:Y);letI j:=(M s.p.st:Y);letI k:=(M s.p.ca:Y);letI l:=(M s.p.mi:Y);letI m:=(M s.p.me:Y);letI n:=(M s.p.dm:Y);letI r:=(M s.p.lk:Y);letI t:=(M s.p.dr:Y);letI u:=(M s.p.tg:Y);letI v:=(BF s.p.fl<|aq g.toNat (0:Y));letI w:=BF s.p.cs<|aq f.toNat a;letI x:=(X,((0:Y),((0:Y),(0:Y))));letI b:=(BF s.p.ls<|aq h.toNat ((0:Y),((0:Y),((0:Y),((0:Y),(0:Y))))));letI c:=(BF s.p.ca<|aq k.toNat ((0:Y),((0:Y),((0:Y),((0:Y),(0:Y))))));letI d:=(BF s.p.st<|aq j.toNat ((0:Y),((0:Y),((0:Y),X))));letI e:=(BF s.p.ra<|aq i.toNat ((0:Y),(0:Y)));.rm 96 f<|.rc f a (M s.p.cs)<|.rm 40 h<|.rc h ((0:Y),((0:Y),((0:Y),((0:Y),(0:Y))))) (M s.p.ls)<|.rm 1 g<|.rc g (0:Y) (M s.p.fl)<|.rm 16 i<|.rc i ((0:Y),(0:Y)) (M s.p.ra)<|.rm 32 j<|.rc j ((0:Y),((0:Y),((0:Y),X))) (M s.p.st)<|.rm 40 k<|.rc k ((0:Y),((0:Y),((0:Y),((0:Y),(0:Y))))) (M s.p.ca)<|.rm 40 l<|.rc l (([]:aB),((0:Y),(0:Y))) (M s.p.mi)<|.re f.toNat w<|.re h.toNat b<|.re g.toNat v<|.re i.toNat e<|.re j.toNat d<|.re k.toNat c<|.re l.toNat (BF s.p.mi<|aq l.toNat (([]:aB),((0:Y),(0:Y))))<|.req (HS.q<|fH s)<|.rm 24 m<|.rc m ((0:Y),((0:Y),X)) (M s.p.me)<|.rm 32 n<|.rc n x (M s.p.dm)<|.rm 48 r<|.rc r ((0:Y),((0:Y),((0:Y),((0:Y),((0:Y),(0:Y)))))) (M s.p.lk)<|.rm 8 t<|.rc t (0:Y) (M s.p.dr)<|.rm 8 u<|.rc u (0:Y) (M s.p.tg)<|.ok<|⟨⟨w,s.p.os,s.p.ks,s.p.gs,s.p.bs,s.p.tk,s.p.up,b,s.p.se,v,e,s.p.nx,d,c,(aJO<|fH s).o,BF s.p.me<|aq m.toNat ((0:Y),((0:Y),X)),BF s.p.dm<|aq n.toNat x,BF s.p.lk<|aq r.toNat ((0:Y),((0:Y),((0:Y),((0:Y),((0:Y),(0:Y)))))),BF s.p.dr<|aq t.toNat (0:Y),BF s.p.tg<|aq u.toNat (0:Y)⟩,m.toNat,n.toNat,r.toNat,t.toNat,u.toNat⟩
def Qq {α:Type}{l:List α}{d:α}:BF l (aq (M l:Y).toNat d)=l:=aKT rfl
structure LB (p:PK):Prop where
 cs:M p.cs<=20000000
 ls:M p.ls<=20000000
 fl:M p.fl<=20000000
 ra:M p.ra<=20000000
 st:M p.st<=20000000
 ca:M p.ca<=20000000
 mi:M p.mi<=1000
 me:M p.me<=20000000
 dm:M p.dm<=20000000
 lk:M p.lk<=20000000
 dr:M p.dr<=20000000
 tg:M p.tg<=20000000
 mis:∀m∈p.mi,M m.1<=1000
def lL (s:Ma):Prop:=LB s.p
def aaU (s:Ma):Yo:=⟨s.p,M s.p.me,M s.p.dm,M s.p.lk,M s.p.dr,M s.p.tg⟩
def pF:DA Ma Yo:=⟨V1,Zn,λv b=>⟨⟨Ar Ae<|EF (v.getD 0 .junk) 0,Ar .str<|EF (v.getD 0 .junk) 1,Ar Ak<|EF (v.getD 0 .junk) 2,Ar Af<|EF (v.getD 0 .junk) 3,Ar Al<|EF (v.getD 0 .junk) 4,gI<|EF (v.getD 0 .junk) 5,gBo<|EF (v.getD 0 .junk) 6,Ar AO<|EF (v.getD 0 .junk) 7,gI<|EF (v.getD 0 .junk) 8,Ar (.int aw)<|EF (v.getD 0 .junk) 9,Ar Ag<|EF (v.getD 0 .junk) 10,gI<|EF (v.getD 0 .junk) 11,Ar B4<|EF (v.getD 0 .junk) 12,Ar AO<|EF (v.getD 0 .junk) 13,Ar BB<|EF (v.getD 0 .junk) 14,Ar BS<|EF (v.getD 0 .junk) 15,Ar Ai<|EF (v.getD 0 .junk) 16,Ar BM<|EF (v.getD 0 .junk) 17,Ar A7<|EF (v.getD 0 .junk) 18,Ar A7<|EF (v.getD 0 .junk) 19⟩⟩,lL,[],[],abh,acL,aaU⟩
abbrev azy (s:Ma):Prop:=lL s/\V1 s=V1 s/\Zn s=Zn s
def aUS:Ax:=kI Tl<|la 9 func23 Cx<|l0 Tl
def aWm:DZ:=DG 23 0 9 (HS.lp)<|EM prog AT Tl 20 2
def arq:EZ prog AT aWm:=DR func23 rfl AV Cx<|I9<|gk Tl
def agI (s:Ma):((Ep prog AT Tl aWm aUS).k 23 (V1 s)<|Zn s).bind (λq=>GW (M<|Zn s) [0] [] .normal (q.1::V1 s) q.2)=(kD s).mp (λs2=>⟨.normal,M (V1 s)+1,[abh s2],acL s2,U⟩):=AV
def azi (s:Ma) (hE:lL s):(kD s).all (λq=>q=aaU s):=by
 have ho:(fH s).o=s.p.mi:=Qq
 have hn:(fH s).n=(M s.p.mi:Y):=LW
 have hV:lP (fH s):=⟨rfl,A8,by rw [hn];have:=hE.mi;omega,by rw [ho];exact hE.mis⟩
 have hm:=(awg _ hV).2.trans Qq
 unfold kD;simp only [Qq,hm];obtain ⟨h1,h2,h3,h4,h5,h6,h7,h8,h9,h10,h11,h12,_⟩:=hE
 repeat (refine ⟨by first|omega|exact ⟨AJ,AJ⟩ |exact ⟨rfl,AJ⟩ |exact ⟨hV,rfl,rfl⟩,?_⟩)
 rfl
def axU:Dn prog AT 23 pF.m:=DA.sound (D:=pF) (t:=kD) (gk Tl) arq aUS.h agI λs hE=>⟨azi s hE⟩
def ajF:Dn prog AT 23 (R5 λa=>pF.m a []):=aHm axU
structure EW where
 (ek en em c1 c2 c3 c4 c5:Y)
 d1:aM
 (d2 d3 d4:Y)
instance:Coe EW Value:=⟨λe=> .agg #[ag J e.ek,ag J e.en,ag J e.em,ag J e.c1,ag J e.c2,ag J e.c3,ag J e.c4,ag J e.c5,.bool e.d1,ag J e.d2,ag J e.d3,ag J e.d4]⟩
instance:Coe EW LV:=⟨λe=> .v<|.agg #[ag J e.ek,ag J e.en,ag J e.em,ag J e.c1,ag J e.c2,ag J e.c3,ag J e.c4,ag J e.c5,.bool e.d1,ag J e.d2,ag J e.d3,ag J e.d4]⟩
def EW.c (e:EW):Ca:=(e.c1,e.c2,e.c3,e.c4,e.c5)
def EW.d (e:EW):Dm:=(e.d1,e.d2,e.d3,e.d4)
def EW.ev (e:EW):EV:=⟨e.ek,e.en,e.em,e.c,e.d⟩
def yQ:LV->Option EW
 | .v (.agg ⟨[ag J ek,ag J en,ag J em,ag J c1,ag J c2,ag J c3,ag J c4,ag J c5,.bool d1,ag J d2,ag J d3,ag J d4]⟩)=>ah ⟨ek,en,em,c1,c2,c3,c4,c5,d1,d2,d3,d4⟩
 |_=>aj
def awP {x:LV}{ev:EW}(h:yQ x=ah ev):x=(ev):=by
 unfold yQ at h;exact aA4
def zB:AB:=⟨[.v<|.slice aj 0 0,.v<|.slice aj 0 0,.v<|.slice aj 0 0,.v<|.slice aj 0 0,.v<|.slice aj 0 0,.v<|ag J 0,.v<|.bool X,.v<|.slice aj 0 0,.v<|ag J 0,.v<|.slice aj 0 0,.v<|.slice aj 0 0,.v<|ag J 0,.v<|.slice aj 0 0,.v<|.slice aj 0 0,.v<|.slice aj 0 0,.v<|.slice aj 0 0,.v<|.slice aj 0 0,.v<|.slice aj 0 0,.v<|.slice aj 0 0,.v<|.slice aj 0 0],58,.cl,X⟩
def eB (e:EW):AB:=⟨[.v<|ag J e.ek,.v<|ag J e.en,.v<|ag J e.em,.v<|ag J e.c1,.v<|ag J e.c2,.v<|ag J e.c3,.v<|ag J e.c4,.v<|ag J e.c5,.v<|.bool e.d1,.v<|ag J e.d2,.v<|ag J e.d3,.v<|ag J e.d4],68,.cl,X⟩
def rE (b:aG) (i q:aC):EW:=letI a:=Cc b q;⟨gI<|BD a<|i+0,gI<|BD a<|i+1,gI<|BD a<|i+2,gI<|BD a<|i+3,gI<|BD a<|i+4,gI<|BD a<|i+5,gI<|BD a<|i+6,gI<|BD a<|i+7,gBo<|BD a<|i+8,gI<|BD a<|i+9,gI<|BD a<|i+10,gI<|BD a<|i+11⟩
def rG (b:aG):EW:=rE b 20 16
structure Lx where
 (i k0 k1 k2:Y)
 p:PK
 ev:EW
def Uy (s:Lx):aD:=[.own 16 0,s.i,.v<|.agg #[s.k0,s.k1,s.k2]]
def Yz (s:Lx):aG:=[AP,AP,zB,AP,bV 42 Ae s.p.cs,bV 139 AO s.p.ls,bV 5 (.int aw) s.p.fl,bV 143 Ag s.p.ra,bV 95 B4 s.p.st,bV 75 AO s.p.ca,bV 148 BB s.p.mi,bV 98 BS s.p.me,bV 77 Ai s.p.dm,bV 154 BM s.p.lk,bV 3 A7 s.p.dr,bV 3 A7 s.p.tg,⟨[.os 4 11 0<|M s.p.cs,.xl .str s.p.os,.xl Ak s.p.ks,.xl Af s.p.gs,.xl Al s.p.bs,.v<|ag J s.p.tk,.v<|.bool s.p.up,.os 5 5 0<|M s.p.ls,.v<|ag J s.p.se,.os 6 1 0<|M s.p.fl,.os 7 2 0<|M s.p.ra,.v<|ag J s.p.nx,.os 8 4 0<|M s.p.st,.os 9 5 0<|M s.p.ca,.os 10 3 0<|M s.p.mi,.os 11 3 0<|M s.p.me,.os 12 4 0<|M s.p.dm,.os 13 6 0<|M s.p.lk,.os 14 1 0<|M s.p.dr,.os 15 1 0<|M s.p.tg,.v<|ag J s.ev.ek,.v<|ag J s.ev.en,.v<|ag J s.ev.em,.v<|ag J s.ev.c1,.v<|ag J s.ev.c2,.v<|ag J s.ev.c3,.v<|ag J s.ev.c4,.v<|ag J s.ev.c5,.v<|.bool s.ev.d1,.v<|ag J s.ev.d2,.v<|ag J s.ev.d3,.v<|ag J s.ev.d4,.v<|.slice aj 0 0],107,.cl,X⟩]
structure Yl where
 res:Y
 p:PK
 ev:EW
def abe (s:Yl):LV:=.v<|ag J s.res
def acI (s:Yl):aG:=[AP,AP,zB,AP,bV 42 Ae s.p.cs,bV 139 AO s.p.ls,bV 5 (.int aw) s.p.fl,bV 143 Ag s.p.ra,bV 95 B4 s.p.st,bV 75 AO s.p.ca,bV 148 BB s.p.mi,bV 98 BS s.p.me,bV 77 Ai s.p.dm,bV 154 BM s.p.lk,bV 3 A7 s.p.dr,bV 3 A7 s.p.tg,⟨[.os 4 11 0<|M s.p.cs,.xl .str s.p.os,.xl Ak s.p.ks,.xl Af s.p.gs,.xl Al s.p.bs,.v<|ag J s.p.tk,.v<|.bool s.p.up,.os 5 5 0<|M s.p.ls,.v<|ag J s.p.se,.os 6 1 0<|M s.p.fl,.os 7 2 0<|M s.p.ra,.v<|ag J s.p.nx,.os 8 4 0<|M s.p.st,.os 9 5 0<|M s.p.ca,.os 10 3 0<|M s.p.mi,.os 11 3 0<|M s.p.me,.os 12 4 0<|M s.p.dm,.os 13 6 0<|M s.p.lk,.os 14 1 0<|M s.p.dr,.os 15 1 0<|M s.p.tg,.v<|ag J s.ev.ek,.v<|ag J s.ev.en,.v<|ag J s.ev.em,.v<|ag J s.ev.c1,.v<|ag J s.ev.c2,.v<|ag J s.ev.c3,.v<|ag J s.ev.c4,.v<|ag J s.ev.c5,.v<|.bool s.ev.d1,.v<|ag J s.ev.d2,.v<|ag J s.ev.d3,.v<|ag J s.ev.d4,.v<|.slice aj 0 0],107,.cl,X⟩]
def aBu (s:Lx):T Yl:=letI c:=s.p.st.getD s.i.toNat<|Ty.dflt B4;letI d:=M s.p.st;letI a:=sE (AG s.p.gs s.i) c s.k0 s.k1 s.k2;letI b:=sN (AG s.p.gs s.i) c s.k0 s.k1 s.k2;.ix s.i (M s.p.gs)<|.ik s.i d<|.br (a==0) (.ik s.i d<|.pa s.p<|.re d (s.p.st.set s.i.toNat b)<|.rl s.p.ca<|.rl s.p.mi<|.rl s.p.me<|.rl s.p.dm<|.rl s.p.lk<|.rl s.p.dr<|.rl s.p.tg<|.ok<|⟨a,{s.p with st:=s.p.st.set s.i.toNat b},s.ev⟩)<|.pc s.p<|.ok<|⟨a,s.p,s.ev⟩
def aEJ (s:Lx):Prop:=0<=s.i/\s.i<(M s.p.gs:Y)/\M s.p.st=M s.p.gs
def kV (s:Lx):Yl:=⟨sE (AG s.p.gs s.i) (BJ s.p.st s.i) s.k0 s.k1 s.k2,{s.p with st:=CX s.p.gs s.p.st s.i s.k0 s.k1 s.k2},s.ev⟩
def aE2:DA Lx Yl:=⟨Uy,Yz,λv b=>⟨AL v 1,gI<|EF (v.getD 2 .junk) 0,gI<|EF (v.getD 2 .junk) 1,gI<|EF (v.getD 2 .junk) 2,rF b,rG b⟩,aEJ,[0,1,3],[],abe,acI,kV⟩
abbrev yB (s:Lx):Prop:=aEJ s/\Uy s=Uy s/\Yz s=Yz s
def iV:aN:=[RC]
def aWj:DZ:=DG 23 0 9 (HS.lp)<|EM prog AT (iV) 20 2
def as7:EZ prog AT aWj:=DR func23 rfl AV Cx<|I9<|gk iV
def agD (s:Lx):((Ep prog AT iV aWj ER).k 75 (Uy s)<|Yz s).bind (λq=>GW (M<|Yz s) [0] [] .normal (q.1::Uy s) q.2)=(aBu s).mp (λs2=>⟨.normal,M (Uy s)+1,[abe s2],acI s2,U⟩):=AV
def azf (s:Lx) (hE:aEJ s):(aBu s).all (λq=>q=kV s):=by
 obtain ⟨h0,h1,h2⟩:=hE;refine ⟨A0,A0,A0,λc=>?_,λc=>?_⟩
 ·have c:=eq_of_beq c
  have hg:CX s.p.gs s.p.st s.i s.k0 s.k1 s.k2=_:=AD c
  repeat (refine ⟨A8,?_⟩)
  unfold kV;rw [hg];rfl
 ·have c:=CY.1 c
  have hg:CX s.p.gs s.p.st s.i s.k0 s.k1 s.k2=s.p.st:=AE c
  repeat (refine ⟨AJ,?_⟩)
  unfold kV;rw [hg];rfl
def ajC:Dn prog AT 75 aE2.m:=DA.sound (D:=aE2) (t:=aBu) (gk iV) as7 Qe agD λs hE=>⟨azf s hE⟩
structure Mm where
 (n i:Y)
 p:PK
 ev:EW
 left:aXP
def aB8 (s:Mm):T (Rd Mm):=letI a:=s.p.lk.getD s.i.toNat<|Ty.dflt BM;.br (an<|s.i<s.n) (.ik s.i (M s.p.lk)<|.br (a.2.2.1 !=s.ev.en) (.rb (M s.left) (M<|[a]) 48<|.re (M s.left+M ([a])) (s.left++([a]))<|.rl s.p.lk<|.pc s.p<|.nx {s with i:=AA<|s.i+1,left:=s.left++([a])})<|.rl s.left<|.rl s.p.lk<|.pc s.p<|.nx {s with i:=AA<|s.i+1})<|.rl s.left<|.rl s.p.lk<|.pc s.p<|.so (.exit 0) s
def lz (s:Mm):Prop:=s.i=0/\s.n=(M s.p.lk:Y)/\s.n<=20000000/\(M s.left:Y)<=s.i
def lK (s:Mm):Prop:=0<=s.i/\s.i<=s.n/\s.n=(M s.p.lk:Y)/\s.n<=20000000/\(M s.left:Y)<=s.i
def j7 (s:Mm):aC:=(s.n-s.i).toNat
def acQ (x:Ex) (s s':Mm):Prop:=True
def amD:∀s,lz s->lK s:=by
 rintro s ⟨h0,h2,h3,h4⟩
 exact zv
def ai1:Da lK j7 acQ aB8:=by
 intro s hI;obtain ⟨h0,h1,h2,h3,h4⟩:=hI;refine AH (λc1=>AH (λc2=>?_) λc2=>?_) λc1=>trivial
 all_goals have c1:s.i<s.n:=AX
 all_goals rw [AI (x:=s.i+1)]
 ·exact ⟨⟨Aa,Aa,h2,h3,A8⟩,by simp only [j7];omega⟩
 ·exact ⟨⟨A8,A8,h2,h3,Aa⟩,by simp only [j7];omega⟩
def Km:AR Mm:=⟨18,30,[0,1,4,11,12,13],[.nl 4 154 BM],λs=>[.own 16 0,.fn 77 [.own 17 0],.os 18 6 0<|M s.left,.os 13 6 0<|M s.p.lk,s.n,s.i],λs=>[AP,AP,zB,AP,bV 42 Ae s.p.cs,bV 139 AO s.p.ls,bV 5 (.int aw) s.p.fl,bV 143 Ag s.p.ra,bV 95 B4 s.p.st,bV 75 AO s.p.ca,bV 148 BB s.p.mi,bV 98 BS s.p.me,bV 77 Ai s.p.dm,bV 154 BM s.p.lk,bV 3 A7 s.p.dr,bV 3 A7 s.p.tg,⟨[.os 4 11 0<|M s.p.cs,.xl .str s.p.os,.xl Ak s.p.ks,.xl Af s.p.gs,.xl Al s.p.bs,.v<|ag J s.p.tk,.v<|.bool s.p.up,.os 5 5 0<|M s.p.ls,.v<|ag J s.p.se,.os 6 1 0<|M s.p.fl,.os 7 2 0<|M s.p.ra,.v<|ag J s.p.nx,.os 8 4 0<|M s.p.st,.os 9 5 0<|M s.p.ca,.os 10 3 0<|M s.p.mi,.os 11 3 0<|M s.p.me,.os 12 4 0<|M s.p.dm,.os 13 6 0<|M s.p.lk,.os 14 1 0<|M s.p.dr,.os 15 1 0<|M s.p.tg,.v<|ag J s.ev.ek,.v<|ag J s.ev.en,.v<|ag J s.ev.em,.v<|ag J s.ev.c1,.v<|ag J s.ev.c2,.v<|ag J s.ev.c3,.v<|ag J s.ev.c4,.v<|ag J s.ev.c5,.v<|.bool s.ev.d1,.v<|ag J s.ev.d2,.v<|ag J s.ev.d3,.v<|ag J s.ev.d4,.v<|.slice aj 0 0],107,.cl,X⟩,⟨[.own 16 0],103,.cl,X⟩,bV 154 BM s.left],λv b=>⟨AL v 4,AL v 5,rF b,rG b,Ab BM b 18⟩,aB8,λs r=> {s with i:=r.i,left:=r.left},λs=>s,λ_ s=>s,[.exit 0],lz,lK,j7⟩
abbrev aFh:=Km.run
abbrev avW:=Km.At
def xW:aN:=[UG]
def ahI:Ax:=kI xW<|la 9 func23 Cx<|l0 xW
def afI:Rq lK aB8:=by
 intro s hI;refine ⟨λc1=>⟨?_,?_,λc2=>⟨?_,?_,A9,A9,A9,A9,A9,A9,A9,A9,A9,A9,A9,A9,A9,ak⟩,λc2=>⟨A9,A9,A9,A9,A9,A9,A9,A9,A9,A9,A9,A9,A9,A9,ak⟩⟩,λc1=>⟨A9,A9,A9,A9,A9,A9,A9,A9,A9,A9,A9,A9,A9,A9,ak⟩⟩
 all_goals ((obtain ⟨h0,h1,h2,h3,h4⟩:=hI;(try simp only [Ac] at c1);first|omega|exact ⟨rfl,rfl⟩ |(simp only [Bm,C3,BG];omega) |(simp only [BG,Bm,C3,Em];done)))
def aTK:Km.Ok:={}
def aSm:Km.Pf (acQ):=⟨amD,λs h=>rfl,ai1,afI⟩
def KW:=s2 (b:=bN f76 0) aTK aSm xW ahI
def arE {l:aXP}{i:Y}(h0:0<=i) (h:i<M l):l.drop i.toNat=l.getD i.toNat (Ty.dflt BM)::l.drop (i+1).toNat:=by
 rw [Sr A0,DH,Di A0,show (i+1).toNat=i.toNat+1 by omega]
 rfl
def auZ:Rs lz avW aFh (λs:Mm=>s.left++(s.p.lk.drop s.i.toNat).filter (λl=>l.2.2.1 !=s.ev.en)) (λx s' (v:aXP)=>x=.exit 0/\s'.left=v):=Dp aTK aSm (λs hI=>by
  obtain ⟨h0,h1,h2,h3,h4⟩:=hI;refine AH (λc1=>?_) λc1=>?_
  ·have c1:s.i<s.n:=A8
   rw [AI (x:=s.i+1),arE h0 A0];refine AH (λc2=>?_) λc2=>?_
   ·show _++[_]++_=_++_
    rw [NC,AD c2,Cw];rfl
   ·show _++_=_++_
    grind
  ·have c1:s.n<=s.i:=A8
   refine ⟨rfl,?_⟩;rw [FA A0]
   simp)
def Jk (e:Y) (a b:PK):PK:=if e=0 then a else b
def Lo {e:Y}{a b:PK}(h:e=0):Jk e a b=a:=AD h
def Jw {e:Y}{a b:PK}(h:e≠0):Jk e a b=b:=AE h
def Tc {α:Type}(l:List α):(l.drop 0).take (M l)=l:=AJ
def fz {l:aF}(h:M l<=1000):AA ((M l:Y)-1)=(M l:Y)-1:=AI
structure O0 where
 p:PK
 ev:EW
def US (s:O0):aD:=[.own 16 0]
def Yw (s:O0):aG:=[AP,AP,zB,AP,bV 42 Ae s.p.cs,bV 139 AO s.p.ls,bV 5 (.int aw) s.p.fl,bV 143 Ag s.p.ra,bV 95 B4 s.p.st,bV 75 AO s.p.ca,bV 148 BB s.p.mi,bV 98 BS s.p.me,bV 77 Ai s.p.dm,bV 154 BM s.p.lk,bV 3 A7 s.p.dr,bV 3 A7 s.p.tg,⟨[.os 4 11 0<|M s.p.cs,.xl .str s.p.os,.xl Ak s.p.ks,.xl Af s.p.gs,.xl Al s.p.bs,.v<|ag J s.p.tk,.v<|.bool s.p.up,.os 5 5 0<|M s.p.ls,.v<|ag J s.p.se,.os 6 1 0<|M s.p.fl,.os 7 2 0<|M s.p.ra,.v<|ag J s.p.nx,.os 8 4 0<|M s.p.st,.os 9 5 0<|M s.p.ca,.os 10 3 0<|M s.p.mi,.os 11 3 0<|M s.p.me,.os 12 4 0<|M s.p.dm,.os 13 6 0<|M s.p.lk,.os 14 1 0<|M s.p.dr,.os 15 1 0<|M s.p.tg,.v<|ag J s.ev.ek,.v<|ag J s.ev.en,.v<|ag J s.ev.em,.v<|ag J s.ev.c1,.v<|ag J s.ev.c2,.v<|ag J s.ev.c3,.v<|ag J s.ev.c4,.v<|ag J s.ev.c5,.v<|.bool s.ev.d1,.v<|ag J s.ev.d2,.v<|ag J s.ev.d3,.v<|ag J s.ev.d4,.v<|.slice aj 0 0],107,.cl,X⟩]
structure Yi where
 res:Y
 p:PK
 ev:EW
def abW (s:Yi):LV:=.v<|ag J s.res
def acF (s:Yi):aG:=[AP,AP,zB,AP,bV 42 Ae s.p.cs,AP,bV 5 (.int aw) s.p.fl,bV 143 Ag s.p.ra,bV 95 B4 s.p.st,bV 75 AO s.p.ca,bV 148 BB s.p.mi,bV 98 BS s.p.me,bV 77 Ai s.p.dm,bV 154 BM s.p.lk,bV 3 A7 s.p.dr,bV 3 A7 s.p.tg,⟨[.os 4 11 0<|M s.p.cs,.xl .str s.p.os,.xl Ak s.p.ks,.xl Af s.p.gs,.xl Al s.p.bs,.v<|ag J s.p.tk,.v<|.bool s.p.up,.xl AO s.p.ls,.v<|ag J s.p.se,.os 6 1 0<|M s.p.fl,.os 7 2 0<|M s.p.ra,.v<|ag J s.p.nx,.os 8 4 0<|M s.p.st,.os 9 5 0<|M s.p.ca,.os 10 3 0<|M s.p.mi,.os 11 3 0<|M s.p.me,.os 12 4 0<|M s.p.dm,.os 13 6 0<|M s.p.lk,.os 14 1 0<|M s.p.dr,.os 15 1 0<|M s.p.tg,.v<|ag J s.ev.ek,.v<|ag J s.ev.en,.v<|ag J s.ev.em,.v<|ag J s.ev.c1,.v<|ag J s.ev.c2,.v<|ag J s.ev.c3,.v<|ag J s.ev.c4,.v<|ag J s.ev.c5,.v<|.bool s.ev.d1,.v<|ag J s.ev.d2,.v<|ag J s.ev.d3,.v<|ag J s.ev.d4,.v<|.slice aj 0 0],107,.cl,X⟩]
def aBt (s:O0):T Yi:=
 .br (!s.p.up) (.rz s.p.ls<|.rl s.p.cs<|.rl s.p.fl<|.rl s.p.ra<|.pb s.p<|.ok<|⟨6,{s.p with ls:=(s.p.ls.drop 0).take<|M s.p.ls},s.ev⟩) (.rl s.p.cs<|.rl s.p.fl<|.rl s.p.ra<|.pb s.p<|.ok<|⟨0,{s.p with up:=X,ls:=([]:aL)},s.ev⟩)
def aEG (s:O0):Prop:=True
def kU (s:O0):Yi:=⟨PK.Nv s.p,Jk (PK.Nv s.p) (PK.Ur s.p) s.p,s.ev⟩
def aE0:DA O0 Yi:=⟨US,Yw,λv b=>⟨rF b,rG b⟩,aEG,[0,1,3],[.pc 16 7 AO,.kb 5],abW,acF,kU⟩
abbrev ajz (s:O0):Prop:=aEG s/\US s=US s/\Yw s=Yw s
def iU:aN:=[]
def aWg:DZ:=DG 76 18 2 (Km.lp)<|DG 23 0 9 (HS.lp)<|EM prog AT (iU) 20 2
def as4:EZ prog AT aWg:=DR func76 rfl AV KW<|DR func23 rfl AV Cx<|I9<|gk iU
def ag9 (s:O0):((Ep prog AT iU aWg ER).k 29 (US s)<|Yw s).bind (λq=>GW (M<|Yw s) [0] [.pc 16 7 AO,.kb 5] .normal (q.1::US s) q.2)=(aBt s).mp (λs2=>⟨.normal,M (US s)+1,[abW s2],acF s2,U⟩):=AV
def azc (s:O0) (hE:aEG s):(aBt s).all (λq=>q=kU s):=by
 refine ⟨λc=>⟨A0,?_⟩,λc=>?_⟩
 ·have c:s.p.up=false:=A8
  have he:s.p.Nv=6:=AD c
  rw [Tc]
  repeat (refine ⟨AJ,?_⟩)
  show _=_
  unfold kU;rw [Jw A8];rw [he]
 ·have c:s.p.up=true:=A8
  have he:s.p.Nv=0:=AE A8
  repeat (refine ⟨AJ,?_⟩)
  unfold kU;rw [he];rfl
def ajA:Dn prog AT 29 aE0.m:=DA.sound (D:=aE0) (t:=aBt) (gk iU) as4 Qe ag9 λs hE=>⟨azc s hE⟩
structure OJ where
 p:PK
 ev:EW
def UM (s:OJ):aD:=[.own 16 0]
def Yq (s:OJ):aG:=[AP,AP,zB,AP,bV 42 Ae s.p.cs,bV 139 AO s.p.ls,bV 5 (.int aw) s.p.fl,bV 143 Ag s.p.ra,bV 95 B4 s.p.st,bV 75 AO s.p.ca,bV 148 BB s.p.mi,bV 98 BS s.p.me,bV 77 Ai s.p.dm,bV 154 BM s.p.lk,bV 3 A7 s.p.dr,bV 3 A7 s.p.tg,⟨[.os 4 11 0<|M s.p.cs,.xl .str s.p.os,.xl Ak s.p.ks,.xl Af s.p.gs,.xl Al s.p.bs,.v<|ag J s.p.tk,.v<|.bool s.p.up,.os 5 5 0<|M s.p.ls,.v<|ag J s.p.se,.os 6 1 0<|M s.p.fl,.os 7 2 0<|M s.p.ra,.v<|ag J s.p.nx,.os 8 4 0<|M s.p.st,.os 9 5 0<|M s.p.ca,.os 10 3 0<|M s.p.mi,.os 11 3 0<|M s.p.me,.os 12 4 0<|M s.p.dm,.os 13 6 0<|M s.p.lk,.os 14 1 0<|M s.p.dr,.os 15 1 0<|M s.p.tg,.v<|ag J s.ev.ek,.v<|ag J s.ev.en,.v<|ag J s.ev.em,.v<|ag J s.ev.c1,.v<|ag J s.ev.c2,.v<|ag J s.ev.c3,.v<|ag J s.ev.c4,.v<|ag J s.ev.c5,.v<|.bool s.ev.d1,.v<|ag J s.ev.d2,.v<|ag J s.ev.d3,.v<|ag J s.ev.d4,.v<|.slice aj 0 0],107,.cl,X⟩]
structure Yc where
 res:Y
 p:PK
 ev:EW
def abP (s:Yc):LV:=.v<|ag J s.res
def aco (s:Yc):aG:=[AP,AP,zB,AP,bV 42 Ae s.p.cs,bV 139 AO s.p.ls,bV 5 (.int aw) s.p.fl,bV 143 Ag s.p.ra,bV 95 B4 s.p.st,bV 75 AO s.p.ca,bV 148 BB s.p.mi,bV 98 BS s.p.me,bV 77 Ai s.p.dm,bV 154 BM s.p.lk,bV 3 A7 s.p.dr,bV 3 A7 s.p.tg,⟨[.os 4 11 0<|M s.p.cs,.xl .str s.p.os,.xl Ak s.p.ks,.xl Af s.p.gs,.xl Al s.p.bs,.v<|ag J s.p.tk,.v<|.bool s.p.up,.os 5 5 0<|M s.p.ls,.v<|ag J s.p.se,.os 6 1 0<|M s.p.fl,.os 7 2 0<|M s.p.ra,.v<|ag J s.p.nx,.os 8 4 0<|M s.p.st,.os 9 5 0<|M s.p.ca,.os 10 3 0<|M s.p.mi,.os 11 3 0<|M s.p.me,.os 12 4 0<|M s.p.dm,.os 13 6 0<|M s.p.lk,.os 14 1 0<|M s.p.dr,.os 15 1 0<|M s.p.tg,.v<|ag J s.ev.ek,.v<|ag J s.ev.en,.v<|ag J s.ev.em,.v<|ag J s.ev.c1,.v<|ag J s.ev.c2,.v<|ag J s.ev.c3,.v<|ag J s.ev.c4,.v<|ag J s.ev.c5,.v<|.bool s.ev.d1,.v<|ag J s.ev.d2,.v<|ag J s.ev.d3,.v<|ag J s.ev.d4,.v<|.slice aj 0 0],107,.cl,X⟩]
def jy (s:OJ):T Yc:=letI a:=(CX s.p.gs s.p.st s.ev.en (6:Y) (1:Y) (0:Y));.br (!(inB s.ev.en (0:Y)<|AA<|(M s.p.gs:Y)-1)) (.pc s.p<|.ok<|⟨1,s.p,s.ev⟩)<|.pc s.p<|.req (yB (⟨s.ev.en,6,1,0,s.p,s.ev⟩:Lx))<|.pa s.p<|.rl a<|.rl s.p.ca<|.rl s.p.mi<|.rl s.p.me<|.rl s.p.dm<|.rl s.p.lk<|.rl s.p.dr<|.rl s.p.tg<|.ok<|⟨sE (AG s.p.gs s.ev.en) (BJ s.p.st s.ev.en) (6:Y) (1:Y) (0:Y),{s.p with st:=a},s.ev⟩
def aEA (s:OJ):Prop:=M s.p.st=M s.p.gs/\M s.p.gs<=1000
def kS (s:OJ):Yc:=⟨PK.Np s.p s.ev.en,{s.p with st:=if PK.isC s.p s.ev.en=U then CX s.p.gs s.p.st s.ev.en 6 1 0 else s.p.st},s.ev⟩
def aDt:DA OJ Yc:=⟨UM,Yq,λv b=>⟨rF b,rG b⟩,aEA,[0,1,3],[],abP,aco,kS⟩
abbrev ajt (s:OJ):Prop:=aEA s/\UM s=UM s/\Yq s=Yq s
def Ii:aN:=[UG]
def iq:Ax:=IT Ii (la 2 func76 KW<|la 9 func23 Cx<|l0 Ii) [⟨75,aE2.m,ajC⟩]
def aWa:DZ:=DG 76 18 2 (Km.lp)<|DG 23 0 9 (HS.lp)<|EM prog AT Ii 20 2
def arv:EZ prog AT aWa:=DR func76 rfl AV KW<|DR func23 rfl AV Cx<|I9<|gk Ii
def agd (s:OJ):((Ep prog AT Ii aWa iq).k 31 (UM s)<|Yq s).bind (λq=>GW (M<|Yq s) [0] [] .normal (q.1::UM s) q.2)=(jy s).mp (λs2=>⟨.normal,M (UM s)+1,[abP s2],aco s2,U⟩):=AV
def ayE (s:OJ) (hE:aEA s):(jy s).all (λq=>q=kS s):=by
 obtain ⟨h1,h2⟩:=hE;unfold jy;rw [fz h2];refine ⟨λc=>?_,λc=>?_⟩
 ·have c:s.p.isC s.ev.en=false:=QZ
  repeat (refine ⟨AJ,?_⟩)
  show _=_
  unfold kS PK.Np
  simp_all
 ·have c:s.p.isC s.ev.en=true:=QZ
  have ci:=B8.1 c
  have ci2:s.ev.en<(M s.p.gs:Y):=A0
  repeat (refine ⟨AJ,?_⟩)
  refine ⟨⟨⟨ci.1,ci2,h1⟩,rfl,rfl⟩,?_⟩
  repeat (refine ⟨AJ,?_⟩)
  show _=_
  unfold kS PK.Np
  grind
def ajs:Dn prog AT 31 aDt.m:=DA.sound (D:=aDt) (t:=jy) (gk Ii) arv iq.h agd λs hE=>⟨ayE s hE⟩
structure Nz where
 p:PK
 ev:EW
def UR (s:Nz):aD:=[.own 16 0]
def Yv (s:Nz):aG:=[AP,AP,zB,AP,bV 42 Ae s.p.cs,bV 139 AO s.p.ls,bV 5 (.int aw) s.p.fl,bV 143 Ag s.p.ra,bV 95 B4 s.p.st,bV 75 AO s.p.ca,bV 148 BB s.p.mi,bV 98 BS s.p.me,bV 77 Ai s.p.dm,bV 154 BM s.p.lk,bV 3 A7 s.p.dr,bV 3 A7 s.p.tg,⟨[.os 4 11 0<|M s.p.cs,.xl .str s.p.os,.xl Ak s.p.ks,.xl Af s.p.gs,.xl Al s.p.bs,.v<|ag J s.p.tk,.v<|.bool s.p.up,.os 5 5 0<|M s.p.ls,.v<|ag J s.p.se,.os 6 1 0<|M s.p.fl,.os 7 2 0<|M s.p.ra,.v<|ag J s.p.nx,.os 8 4 0<|M s.p.st,.os 9 5 0<|M s.p.ca,.os 10 3 0<|M s.p.mi,.os 11 3 0<|M s.p.me,.os 12 4 0<|M s.p.dm,.os 13 6 0<|M s.p.lk,.os 14 1 0<|M s.p.dr,.os 15 1 0<|M s.p.tg,.v<|ag J s.ev.ek,.v<|ag J s.ev.en,.v<|ag J s.ev.em,.v<|ag J s.ev.c1,.v<|ag J s.ev.c2,.v<|ag J s.ev.c3,.v<|ag J s.ev.c4,.v<|ag J s.ev.c5,.v<|.bool s.ev.d1,.v<|ag J s.ev.d2,.v<|ag J s.ev.d3,.v<|ag J s.ev.d4,.v<|.slice aj 0 0],107,.cl,X⟩]
structure Yh where
 res:Y
 p:PK
 ev:EW
def abU (s:Yh):LV:=.v<|ag J s.res
def acE (s:Yh):aG:=[AP,AP,zB,AP,bV 42 Ae s.p.cs,bV 139 AO s.p.ls,bV 5 (.int aw) s.p.fl,bV 143 Ag s.p.ra,bV 95 B4 s.p.st,bV 75 AO s.p.ca,bV 148 BB s.p.mi,bV 98 BS s.p.me,bV 77 Ai s.p.dm,bV 154 BM s.p.lk,bV 3 A7 s.p.dr,bV 3 A7 s.p.tg,⟨[.os 4 11 0<|M s.p.cs,.xl .str s.p.os,.xl Ak s.p.ks,.xl Af s.p.gs,.xl Al s.p.bs,.v<|ag J s.p.tk,.v<|.bool s.p.up,.os 5 5 0<|M s.p.ls,.v<|ag J s.p.se,.os 6 1 0<|M s.p.fl,.os 7 2 0<|M s.p.ra,.v<|ag J s.p.nx,.os 8 4 0<|M s.p.st,.os 9 5 0<|M s.p.ca,.os 10 3 0<|M s.p.mi,.os 11 3 0<|M s.p.me,.os 12 4 0<|M s.p.dm,.os 13 6 0<|M s.p.lk,.os 14 1 0<|M s.p.dr,.os 15 1 0<|M s.p.tg,.v<|ag J s.ev.ek,.v<|ag J s.ev.en,.v<|ag J s.ev.em,.v<|ag J s.ev.c1,.v<|ag J s.ev.c2,.v<|ag J s.ev.c3,.v<|ag J s.ev.c4,.v<|ag J s.ev.c5,.v<|.bool s.ev.d1,.v<|ag J s.ev.d2,.v<|ag J s.ev.d3,.v<|ag J s.ev.d4,.v<|.slice aj 0 0],107,.cl,X⟩]
def k9 (s:Nz):T Yh:=letI a:=(CX s.p.gs s.p.st s.ev.en (6:Y) (0:Y) (0:Y));letI b:=(CX s.p.gs a s.ev.en (2:Y) (0:Y) (0:Y));letI c:=(X,((0:Y),((0:Y),(9:Y))));letI d:=M s.p.ca;.br (!(inB s.ev.en (0:Y)<|AA<|(M s.p.gs:Y)-1)) (.pc s.p<|.ok<|⟨1,s.p,s.ev⟩)<|.ik s.ev.en d<|.br (!((s.p.ca.getD s.ev.en.toNat<|Ty.dflt AO).2.2.1 !=0)) (.pc s.p<|.ok<|⟨4,s.p,s.ev⟩)<|.pc s.p<|.req (yB (⟨s.ev.en,6,0,0,s.p,s.ev⟩:Lx))<|.pa s.p<|.rl a<|.rl s.p.ca<|.rl s.p.mi<|.rl s.p.me<|.rl s.p.dm<|.rl s.p.lk<|.rl s.p.dr<|.rl s.p.tg<|.req (yB (⟨s.ev.en,2,0,0,{s.p with st:=a},s.ev⟩:Lx))<|.ik s.ev.en d<|.ik s.ev.en (M s.p.mi)<|.ik s.ev.en (M s.p.dm)<|.pa s.p<|.rl b<|.re d (s.p.ca.set s.ev.en.toNat ((0:Y),((0:Y),((0:Y),((0:Y),(0:Y))))))<|.re (M s.p.mi) (s.p.mi.set s.ev.en.toNat (([]:aB),((0:Y),(0:Y))))<|.rl s.p.me<|.re (M s.p.dm) (s.p.dm.set s.ev.en.toNat c)<|.rl s.p.lk<|.rl s.p.dr<|.rl s.p.tg<|.ok<|⟨0,{s.p with st:=b,ca:=s.p.ca.set s.ev.en.toNat ((0:Y),((0:Y),((0:Y),((0:Y),(0:Y))))),mi:=s.p.mi.set s.ev.en.toNat (([]:aB),((0:Y),(0:Y))),dm:=s.p.dm.set s.ev.en.toNat c},s.ev⟩
def aEF (s:Nz):Prop:=M s.p.st=M s.p.gs/\M s.p.gs<=1000/\M s.p.ca=M s.p.gs/\M s.p.mi=M s.p.gs/\M s.p.dm=M s.p.gs
def Xp (s:Nz):Yh:=⟨PK.JN s.p s.ev.en,Jk (PK.JN s.p s.ev.en) (PK.Pr s.p s.ev.en) s.p,s.ev⟩
def aDz:DA Nz Yh:=⟨UR,Yv,λv b=>⟨rF b,rG b⟩,aEF,[0,1,3],[],abU,acE,Xp⟩
abbrev ajy (s:Nz):Prop:=aEF s/\UR s=UR s/\Yv s=Yv s
def aWf:DZ:=DG 76 18 2 (Km.lp)<|DG 23 0 9 (HS.lp)<|EM prog AT Ii 20 2
def as3:EZ prog AT aWf:=DR func76 rfl AV KW<|DR func23 rfl AV Cx<|I9<|gk Ii
def agk (s:Nz):((Ep prog AT Ii aWf iq).k 27 (UR s)<|Yv s).bind (λq=>GW (M<|Yv s) [0] [] .normal (q.1::UR s) q.2)=(k9 s).mp (λs2=>⟨.normal,M (UR s)+1,[abU s2],acE s2,U⟩):=AV
def azb (s:Nz) (hE:aEF s):(k9 s).all (λq=>q=Xp s):=by
 obtain ⟨h1,h2,h3,h4,h5⟩:=hE;unfold k9;rw [fz h2];refine ⟨λc=>?_,λc=>?_⟩
 ·have c:s.p.isC s.ev.en=false:=QZ
  have he:s.p.JN s.ev.en=1:=AD c
  repeat (refine ⟨AJ,?_⟩)
  show _=_
  unfold Xp;rw [Jw MM];rw [he]
 ·have c:s.p.isC s.ev.en=true:=QZ
  have ci:=B8.1 c
  have ci2:s.ev.en<(M s.p.gs:Y):=A0
  have hc:¬s.p.isC s.ev.en=false:=oZ
  refine ⟨A0,A0,λc2=>?_,λc2=>?_⟩
  ·have c2:(Be s.p.ca s.ev.en).2.2.1=0:=by simp only [DB,bne_eq_false_iff_eq] at c2;exact c2
   have he:s.p.JN s.ev.en=4:=by unfold PK.JN;rw [AE hc,AD c2]
   repeat (refine ⟨AJ,?_⟩)
   show _=_
   unfold Xp;rw [Jw MM];rw [he]
  ·have c2:¬(Be s.p.ca s.ev.en).2.2.1=0:=by simp only [IW,EH] at c2;exact c2
   have he:s.p.JN s.ev.en=0:=by unfold PK.JN;rw [AE hc,AE c2]
   have hg:M (CX s.p.gs s.p.st s.ev.en 6 0 0)=M s.p.gs:=by rw [JG];exact h1
   repeat (refine ⟨AJ,?_⟩)
   refine ⟨⟨⟨ci.1,ci2,h1⟩,rfl,rfl⟩,?_⟩
   repeat (refine ⟨A0,?_⟩)
   refine ⟨⟨⟨ci.1,ci2,hg⟩,rfl,rfl⟩,?_⟩
   repeat (refine ⟨A8,?_⟩)
   show _=_
   unfold Xp;rw [Lo he];rw [he];rfl
def aj9:Dn prog AT 27 aDz.m:=DA.sound (D:=aDz) (t:=k9) (gk Ii) as3 iq.h agk λs hE=>⟨azb s hE⟩
structure ON where
 p:PK
 ev:EW
def UQ (s:ON):aD:=[.own 16 0]
def Yu (s:ON):aG:=[AP,AP,zB,AP,bV 42 Ae s.p.cs,bV 139 AO s.p.ls,bV 5 (.int aw) s.p.fl,bV 143 Ag s.p.ra,bV 95 B4 s.p.st,bV 75 AO s.p.ca,bV 148 BB s.p.mi,bV 98 BS s.p.me,bV 77 Ai s.p.dm,bV 154 BM s.p.lk,bV 3 A7 s.p.dr,bV 3 A7 s.p.tg,⟨[.os 4 11 0<|M s.p.cs,.xl .str s.p.os,.xl Ak s.p.ks,.xl Af s.p.gs,.xl Al s.p.bs,.v<|ag J s.p.tk,.v<|.bool s.p.up,.os 5 5 0<|M s.p.ls,.v<|ag J s.p.se,.os 6 1 0<|M s.p.fl,.os 7 2 0<|M s.p.ra,.v<|ag J s.p.nx,.os 8 4 0<|M s.p.st,.os 9 5 0<|M s.p.ca,.os 10 3 0<|M s.p.mi,.os 11 3 0<|M s.p.me,.os 12 4 0<|M s.p.dm,.os 13 6 0<|M s.p.lk,.os 14 1 0<|M s.p.dr,.os 15 1 0<|M s.p.tg,.v<|ag J s.ev.ek,.v<|ag J s.ev.en,.v<|ag J s.ev.em,.v<|ag J s.ev.c1,.v<|ag J s.ev.c2,.v<|ag J s.ev.c3,.v<|ag J s.ev.c4,.v<|ag J s.ev.c5,.v<|.bool s.ev.d1,.v<|ag J s.ev.d2,.v<|ag J s.ev.d3,.v<|ag J s.ev.d4,.v<|.slice aj 0 0],107,.cl,X⟩]
structure Yg where
 res:Y
 p:PK
 ev:EW
def abT (s:Yg):LV:=.v<|ag J s.res
def acD (s:Yg):aG:=[AP,AP,zB,AP,bV 42 Ae s.p.cs,bV 139 AO s.p.ls,bV 5 (.int aw) s.p.fl,bV 143 Ag s.p.ra,bV 95 B4 s.p.st,bV 75 AO s.p.ca,bV 148 BB s.p.mi,bV 98 BS s.p.me,bV 77 Ai s.p.dm,AP,bV 3 A7 s.p.dr,bV 3 A7 s.p.tg,⟨[.os 4 11 0<|M s.p.cs,.xl .str s.p.os,.xl Ak s.p.ks,.xl Af s.p.gs,.xl Al s.p.bs,.v<|ag J s.p.tk,.v<|.bool s.p.up,.os 5 5 0<|M s.p.ls,.v<|ag J s.p.se,.os 6 1 0<|M s.p.fl,.os 7 2 0<|M s.p.ra,.v<|ag J s.p.nx,.os 8 4 0<|M s.p.st,.os 9 5 0<|M s.p.ca,.os 10 3 0<|M s.p.mi,.os 11 3 0<|M s.p.me,.os 12 4 0<|M s.p.dm,.xl BM s.p.lk,.os 14 1 0<|M s.p.dr,.os 15 1 0<|M s.p.tg,.v<|ag J s.ev.ek,.v<|ag J s.ev.en,.v<|ag J s.ev.em,.v<|ag J s.ev.c1,.v<|ag J s.ev.c2,.v<|ag J s.ev.c3,.v<|ag J s.ev.c4,.v<|ag J s.ev.c5,.v<|.bool s.ev.d1,.v<|ag J s.ev.d2,.v<|ag J s.ev.d3,.v<|ag J s.ev.d4,.v<|.slice aj 0 0],107,.cl,X⟩]
def k8 (s:ON):T Yg:=letI b:=((M s.p.lk:aC):Y);letI a:=(aFh (⟨b,0,s.p,s.ev,([]:aXP)⟩:Mm));.br (!(inB s.ev.en (0:Y)<|AA<|(M s.p.gs:Y)-1)) (.rz s.p.lk<|.pa s.p<|.rl s.p.st<|.rl s.p.ca<|.rl s.p.mi<|.rl s.p.me<|.rl s.p.dm<|.rl s.p.dr<|.rl s.p.tg<|.ok<|⟨1,{s.p with lk:=(s.p.lk.drop 0).take<|M s.p.lk},s.ev⟩)<|.r0 Lk<|.rl s.p.lk<|.pc s.p<|.req (Km.q (⟨b,0,s.p,s.ev,([]:aXP)⟩:Mm))<|.rz a.left<|.pa s.p<|.rl s.p.st<|.rl s.p.ca<|.rl s.p.mi<|.rl s.p.me<|.rl s.p.dm<|.rl s.p.dr<|.rl s.p.tg<|.ok<|⟨0,{s.p with lk:=(a.left.drop 0).take<|M a.left},s.ev⟩
def aEE (s:ON):Prop:=M s.p.gs<=1000/\M s.p.lk<=20000000
def kT (s:ON):Yg:=⟨PK.Nt s.p s.ev.en,Jk (PK.Nt s.p s.ev.en) (PK.kO s.p s.ev.en) s.p,s.ev⟩
def aDy:DA ON Yg:=⟨UQ,Yu,λv b=>⟨rF b,rG b⟩,aEE,[0,1,3],[.pc 16 17 BM,.kb 13],abT,acD,kT⟩
abbrev ajx (s:ON):Prop:=aEE s/\UQ s=UQ s/\Yu s=Yu s
def aUR:Ax:=kI Ii<|la 2 func76 KW<|la 9 func23 Cx<|l0 Ii
def aWe:DZ:=DG 76 18 2 (Km.lp)<|DG 23 0 9 (HS.lp)<|EM prog AT Ii 20 2
def as2:EZ prog AT aWe:=DR func76 rfl AV KW<|DR func23 rfl AV Cx<|I9<|gk Ii
def agj (s:ON):((Ep prog AT Ii aWe aUR).k 28 (UQ s)<|Yu s).bind (λq=>GW (M<|Yu s) [0] [.pc 16 17 BM,.kb 13] .normal (q.1::UQ s) q.2)=(k8 s).mp (λs2=>⟨.normal,M (UQ s)+1,[abT s2],acD s2,U⟩):=AV
def aza (s:ON) (hE:aEE s):(k8 s).all (λq=>q=kT s):=by
 obtain ⟨h1,h2⟩:=hE;unfold k8;rw [fz h1];refine ⟨λc=>⟨A0,?_⟩,λc=>?_⟩
 ·have c:s.p.isC s.ev.en=false:=QZ
  have he:s.p.Nt s.ev.en=1:=AD c
  rw [Tc]
  repeat (refine ⟨AJ,?_⟩)
  show _=_
  unfold kT;rw [Jw A8];rw [he]
 ·have c:s.p.isC s.ev.en=true:=QZ
  have he:s.p.Nt s.ev.en=0:=AE A8
  have hV:lz (⟨((M s.p.lk:aC):Y),(0:Y),s.p,s.ev,([]:aXP)⟩:Mm):=⟨rfl,rfl,A8,A8⟩
  have q:=(auZ _ hV).2
  rw [Tc,q]
  repeat (refine ⟨AJ,?_⟩)
  refine ⟨⟨hV,rfl,rfl⟩,?_⟩
  repeat (refine ⟨AJ,?_⟩)
  unfold kT;rw [he];rfl
def aj8:Dn prog AT 28 aDy.m:=DA.sound (D:=aDy) (t:=k8) (gk Ii) as2 aUR.h agj λs hE=>⟨aza s hE⟩
open Go.RowKit Go.Extern.Stop Go.Stop Go.Extern Go Go.Sx
def awU (v:aV) (w:aO):(Extern.ReflectliteType.typeOf #[.iface 61 v]).run prog w=.ok (.iface 355<|.agg #[.pointer<|ah ⟨3,61,aj⟩]) w:=AV
def aNP:aX->Sem Value:=Extern.ReflectliteType.method λt=>do Extern.Rtype.noPackHeld "Comparable" t;pure<|.bool (←typeInfo t).comparable
def ae6 (w:aO):(aNP #[.agg #[.pointer<|ah ⟨3,61,aj⟩]]).run prog w=.ok (.bool U) w:=AV
def awV (v:aV) (w:aO):(Go.method 496 355 v "Comparable").run prog w=.ok (271,v) w:=AV
def aoc (v:aV) (xT:aS) (w:aO):(Instr.typeAssert (.iface 61 v) xT 357 U).run prog w=.ok (.tuple #[.nilIface,.bool X]) w:=zH Tryz.underlying357 AV AV v xT w
def apq (v:aV) (xT:aS) (w:aO):(Instr.typeAssert (.iface 61 v) xT 360 U).run prog w=.ok (.tuple #[.nilIface,.bool X]) w:=zH Tryz.underlying360 AV AV v xT w
def ael (v:aV) (xT:aS) (w:aO):(Instr.typeAssert (.iface 61 v) xT 362 U).run prog w=.ok (.tuple #[.nilIface,.bool X]) w:=zH Tryz.underlying362 AV AV v xT w
def apo (n m:Y) (w:aO):Calls prog 238 #[.iface 61<|ag J n,.iface 61<|ag J m] w λe w'=>e=.returned (.bool<|n==m)/\w'=w:=by
 have hu:=Tryz.underlying348
 have h8:=@run_callFunc_extern prog 244 _ Extern.ReflectliteType.typeOf func244 AV AV AV AV
 have h32:=@run_callFunc_extern prog 271 _ aNP func271 AV AV AV AV
 have tT:=awU
 have cT:=ae6
 have mR:=awV
 have nE:=aoc
 have uE:=apq
 have vE:=ael
 have heq:=Go.Lib.run_eql_iface_int (P:=prog) w (k:=J) n m hu (by kernel_rfl:(prog.info? 61).map (·.comparable)=ah U) (by kernel_rfl:prog.underlying 61=ah (.int J))
 by_cases e:n=m
 ·subst e
  simp only [Oc] at heq|-;exact aNm
 ·have e':(n==m)=false:=aAe
  simp only [e'] at heq|-;exact aNm
def aat:aD->T LV
 | [.v (.iface 61 (ag J n)),.v (.iface 61 (ag J m))]=> .ok (.v<|.bool<|n==m)
 |_=> .no
def jV:VV 238 aat:=λargs vals w Z lv hz hg hok hr h=>by
 unfold aat at h;split at h
 ·rename_i n m
  subst h;simp only [RL,R] at hr
  have e2:vals=#[.iface 61<|ag J n,.iface 61<|ag J m]:=by
   grind
  rw [e2];refine (apo n m w).mono λe w' ⟨he,hw⟩=>?_
  subst hw;exact ⟨Below.refl _ _,_,he,ak,KM⟩
 ·cases h
def aVW:aD->T LV
 | [.agg [.v (ag J se),.xl (.int aw) fl]]=> .ok (Ho se fl)
 |_=> .no
def ig:aN:=[]
def Xj:=vo (S:=aVW) func120 ig kN (λargs lv h=>by
 unfold aVW at h;split at h
 ·rename_i se fl
  refine Aq (letI a:=(M fl:Y);.br (an<|se>=1) (.br (an<|se<=512) (.br (an<|a>=se) (.br (an<|a<=4096) (.req (se≠0)<|.ok<|.v<|.bool<|(a.tmod se)==0)<|.ok X)<|.ok X)<|.ok X)<|.ok X) ?_;obtain rfl:=h;unfold Ho;refine ⟨λc1=>⟨λc2=>⟨λc3=>⟨λc4=>⟨?_,?_⟩,λc4=>?_⟩,λc3=>?_⟩,λc2=>?_⟩,λc1=>?_⟩
  ·grind
  all_goals refine B0 (λz=>LV.v<|.bool z) ?_
  all_goals first|(simp_all;done) |(simp_all;intros;omega) |(simp_all;omega)
 ·cases h)
def aVO:aD->T LV
 | [.agg [.v (ag J se),.xl (.int aw) fl]]=> .ok (FF se fl)
 |_=> .no
def aiK:aN:=[Xj]
def aBd:=vo (S:=aVO) func97 aiK kN (λargs lv h=>by
 unfold aVO at h;split at h
 ·rename_i se fl
  refine Aq (.br (Ho se fl) (.req (se≠0)<|.req ((2:Y)≠0)<|.ok<|.v<|.bool<|(((AA<|(M fl:Y).tdiv se).tmod 2)==0)&&(an<|(M fl:Y)>=32))<|.ok X) ?_;obtain rfl:=h;unfold FF;refine ⟨λc1=>?_,λc1=>?_⟩
  ·have hv:=NZ.1 c1
   refine ⟨A0,Ad,?_⟩;refine B0 (λz=>LV.v<|.bool z) ?_
   rw [c1,AI (x:=(M fl:Y).tdiv se) (by rw [I0 A0];exact F9 Ad<|Sl A0 A0) (by rw [I0 A0];exact F9 (VB _ A0) A0)]
   rfl
  ·refine B0 (λz=>LV.v<|.bool z) ?_
   rw [c1];rfl
 ·cases h)
def aVU:aD->T LV
 | [.v (ag ax n)]=> .ok (.xl (.int aw)<|D6 n)
 |_=> .no
def akj:=vo (S:=aVU) func217 ig kN (λargs lv h=>by
 unfold aVU at h;split at h
 ·rename_i n
  refine Aq (.ok<|.xl (.int aw)<|[(IntKind.u8.wrap<|n.fdiv<|2^24),(IntKind.u8.wrap<|n.fdiv<|2^16),(IntKind.u8.wrap<|n.fdiv<|2^8),(IntKind.u8.wrap n)]) ?_;exact h
 ·cases h)
def aVo:aD->T LV
 | [.xl (.int aw) b]=> .req (4<=M b) (.ok<|.v<|ag ax<|HD b)
 |_=> .no
def aAy:=vo (S:=aVo) func188 ig kN (λargs lv h=>by
 unfold aVo at h;split at h
 ·rename_i b
  refine Aq (letI a:=(M b:Y);.req (0<=(0:Y)/\0<a)<|.req (0<=(1:Y)/\1<a)<|.req (0<=(2:Y)/\2<a)<|.req (0<=(3:Y)/\3<a)<|.ok<|.v<|ag ax<|Df ax (Df ax (Df ax (IntKind.u32.wrap<|(IntKind.u32.wrap<|gi b (0:Y))*2^24)<|IntKind.u32.wrap<|(IntKind.u32.wrap<|gi b (1:Y))*2^16)<|IntKind.u32.wrap<|(IntKind.u32.wrap<|gi b (2:Y))*2^8)<|IntKind.u32.wrap<|gi b (3:Y)) ?_;obtain ⟨h0,rfl⟩:=h;exact ⟨⟨A0,A0⟩,⟨A0,A0⟩,⟨A0,A0⟩,⟨A0,A0⟩,rfl⟩
 ·cases h)
def aWW:aD->T LV
 | [.agg [.v (ag J se),.xl (.int aw) fl],.v (ag J w)]=> .req ((w=0\/w=1)/\M fl<=4096) (.ok<|.xl (.int aw)<|Bp fl w)
 |_=> .no
def aBf:=vo (S:=aWW) func187 ig kN (λargs lv h=>by
 unfold aWW at h;split at h
 ·rename_i se fl w
  refine Aq (letI a:=(AA<|(M fl:Y).tdiv 2);letI b:=AA<|(AA<|w+1)*a;letI c:=AA<|w*a;.req ((2:Y)≠0)<|.req (0<=c/\c<=b/\b<=(M fl:Y)/\b=b)<|.ok<|.xl (.int aw)<|(fl.drop c.toNat).take<|b.toNat-c.toNat) ?_;obtain ⟨⟨h0,h1⟩,rfl⟩:=h
  have e1:(M fl:Y).tdiv 2=((M fl / 2:aC):Y):=AJ
  have e2:AA ((M fl / 2:aC):Y)=((M fl / 2:aC):Y):=AI
  rw [e1,e2];rcases h0 with rfl|rfl
  ·rw [Int.zero_mul,show (0:Y)+1=1 from rfl,show AA 0=0 from rfl,show AA 1=1 from rfl,Zz,e2]
   refine ⟨Ad,⟨A0,A0,A0,rfl⟩,?_⟩;refine B0 (LV.xl<|.int aw) ?_;rfl
  ·rw [Zz,show (1:Y)+1=2 from rfl,show AA 2=2 from rfl,e2,AI (x:=2*((M fl / 2:aC):Y))]
   refine ⟨Ad,⟨A0,A0,A0,rfl⟩,?_⟩;refine B0 (LV.xl<|.int aw) ?_
   congr 1
   omega
 ·cases h)
def aWN:aD->T LV
 | [.agg [.v (ag J se),.xl (.int aw) fl]]=> .req (FF se fl=U) (.tu #[Aw fl,IG fl])
 |_=> .no
def aiJ:aN:=[aBf,aAy]
def aXI := vo (S:=aWN) func186 aiJ kN (λargs lv h=>by
 unfold aWN at h;split at h
 ·rename_i se fl
  refine Aq (letI d:=(Bp fl (0:Y));letI f:=(Bp fl (1:Y));letI b:=((f.drop (1:Y).toNat).take<|(5:Y).toNat-(1:Y).toNat);letI c:=((d.drop (1:Y).toNat).take<|(5:Y).toNat-(1:Y).toNat);.req (((0:Y)=0\/(0:Y)=1)/\M fl<=4096)<|.req (((1:Y)=0\/(1:Y)=1)/\M fl<=4096)<|.req (0<=(0:Y)/\0<(M d:Y))<|.req (0<=(0:Y)/\0<(M f:Y))<|.br (((gi d (0:Y))==80)&&((gi f (0:Y))==80)) (.req (0<=(1:Y)/\(1:Y)<=(5:Y)/\(5:Y)<=(M f:Y))<|.req (4<=M b)<|.req (0<=(1:Y)/\(1:Y)<=(5:Y)/\(5:Y)<=(M d:Y))<|.req (4<=M c)<|.br (an<|(HD b)>(HD c)) (.tu #[(1:Y),(0:Y)])<|.tu #[(0:Y),(0:Y)])<|.br ((gi d (0:Y))==80) (.tu #[(0:Y),(0:Y)])<|.br ((gi f (0:Y))==80) (.tu #[(1:Y),(0:Y)])<|.tu #[(0:Y),(4:Y)]) ?_;obtain ⟨h0,rfl⟩:=h;obtain ⟨_,_,h32,hl,_⟩:=MX.1 h0
  have l0:=eQ fl 0
  have l1:=eQ fl 1
  have fin:∀a e:Y,a=Aw fl->e=IG fl->LV.v (.tuple #[ag J a,ag J e])=LV.v (.tuple #[ag J<|Aw fl,ag J<|IG fl]):=λa e h1 h2=>aAi
  have ew:∀w,HD (((Bp fl w).drop (1:Y).toNat).take<|(5:Y).toNat-(1:Y).toNat)=JW fl w:=λw=>rfl
  simp only [ew];refine ⟨?_,?_⟩
  ·first|exact ⟨Ad,hl⟩ |omega|decide|(refine ⟨?_,?_⟩<;>omega) |(simp only [MG,FQ];omega) |(refine ⟨Ad,Ad,?_⟩;omega)
  ·refine ⟨?_,?_⟩
   ·grind
   ·refine ⟨?_,?_⟩
    ·omega
    ·refine ⟨?_,?_⟩
     ·omega
     ·refine ⟨λc1=>?_,λc1=>?_⟩
      ·refine ⟨?_,?_⟩
       ·omega
       ·refine ⟨?_,?_⟩
        ·grind
        ·refine ⟨?_,?_⟩
         ·omega
         ·refine ⟨?_,?_⟩
          ·grind
          ·refine ⟨λc2=>?_,λc2=>?_⟩
           ·refine fin _ _ ?_ ?_<;>simp_all [Aw,IG]
           ·refine fin _ _ ?_ ?_<;>simp_all [Aw,IG]
      ·refine ⟨λc2=>?_,λc2=>?_⟩
       ·refine fin _ _ ?_ ?_<;>simp_all [Aw,IG]
       ·refine ⟨λc3=>?_,λc3=>?_⟩
        ·refine fin _ _ ?_ ?_<;>simp_all [Aw,IG]
        ·refine fin _ _ ?_ ?_<;>simp_all [Aw,IG]
 ·cases h)
structure Mx where
 x:Y
 t8:aI
 (t9 t10:Y)
 l:aB
 (n i:Y)
def aIJ:=lN (bN f224 0) 0
def aBA (s:Mx):T (Rd Mx):=
 .br (an<|s.i<s.n) (.ix s.i (M s.l)<|.nx {s with x:=IntKind.u32.wrap<|(aMb ax s.x<|IntKind.u32.wrap<|gi s.l s.i)*16777619,i:=AA<|s.i+1}) (.so (.exit 2) s)
def m6 (s:Mx):Prop:=s.i=0/\s.n<=70000/\s.n=(M s.l:Y)
def mH (s:Mx):Prop:=0<=s.i/\s.i<=s.n/\s.n<=70000/\s.n=(M s.l:Y)
def xA (s:Mx):aC:=(s.n-s.i).toNat
def acS (x:Ex) (s s':Mx):Prop:=True
def anv:∀s,m6 s->mH s:=by
 exact nz
def ahP:Da mH xA acS aBA:=by
 intro s hI;obtain ⟨h0,h1,h2,h3⟩:=hI;refine AH (λc1=>?_) λc1=>?_
 ·have c1:s.i<s.n:=A8
  rw [AI (x:=s.i+1)];exact ⟨⟨A8,A8,h2,h3⟩,by simp only [xA];omega⟩
 ·trivial
def Rc:AR Mx:=⟨0,28,[3,8,9,10,14,15,16],[],λs=>[.v<|ag ax s.x,.xl (.sl<|.int aw) s.t8,s.t9,s.t10,.xl (.int aw) s.l,s.n,s.i],λ_=>[],λv b=>⟨AL v 0,B1 (.sl<|.int aw) v 1,AL v 2,AL v 3,B1 (.int aw) v 4,AL v 5,AL v 6⟩,aBA,λs r=> {s with x:=r.x,i:=r.i},λs=>s,λ_ s=>s,[.exit 2],m6,mH,xA⟩
abbrev aJK:=Rc.run
abbrev avY:=Rc.At
def afK:Rq mH aBA:=by
 intro s hI;refine ⟨λc1=>⟨?_,ak⟩,λ_=>trivial⟩
 ·(obtain ⟨h0,h1,h2,h3⟩:=hI;simp only [Ac] at c1;omega)
def ic:aN:=[]
def aTM:Rc.Ok:={}
def aSo:Rc.Pf (acS):=⟨anv,λs h=>rfl,ahP,afK⟩
def au6:SA 0 aIJ Rc:=s1 aTM aSo ic kN
def aw6:Rs m6 avY aJK (λs:Mx=>Sd s.x<|s.l.drop s.i.toNat) (λx s' (v:Y)=>x=.exit 2/\s'.x=v):=Dp aTM aSo (λs hI=>by
  obtain ⟨h0,h1,h2,h3⟩:=hI;refine AH (λc1=>?_) λc1=>?_
  ·have c1:s.i<s.n:=A8
   rw [AI (x:=s.i+1)];rw [(gi_step h0 A0).1];rfl
  ·have c1:s.n<=s.i:=A8
   refine ⟨rfl,?_⟩;rw [FA A0];rfl)
structure My where
 x:Y
 l:aI
 (n i:Y)
def tM:=bN f224 0
def aBq (s:My):T (Rd My):=
 .br (an<|s.i<s.n) (.ix s.i (M s.l)<|.req (Rc.q (⟨s.x,s.l,s.n,s.i,gx (e:=.sl<|.int aw) s.l s.i,(M (gx (e:=.sl<|.int aw) s.l s.i):Y),0⟩:Mx))<|.nx {s with x:=(aJK (⟨s.x,s.l,s.n,s.i,gx (e:=.sl<|.int aw) s.l s.i,(M (gx (e:=.sl<|.int aw) s.l s.i):Y),0⟩:Mx)).x,i:=AA<|s.i+1}) (.so (.exit 0) s)
def IK (l:aI):Prop:=∀p∈l,M p<=70000
def X0 {l:aI}(h:IK l) {i:Y}(h0:0<=i) (h1:i<(M l:Y)):M (gx (e:=.sl<|.int aw) l i)<=70000:=by
 have:gx (e:=.sl<|.int aw) l i=l[i.toNat]' A0:=Lu A0
 rw [this];exact h _<|Gl _
def m7 (s:My):Prop:=s.i=0/\s.n<=1000/\s.n=(M s.l:Y)/\IK s.l
def ZR (s:My):Prop:=0<=s.i/\s.i<=s.n/\s.n<=1000/\s.n=(M s.l:Y)/\IK s.l
def xB (s:My):aC:=(s.n-s.i).toNat
def acT (x:Ex) (s s':My):Prop:=True
def anw:∀s,m7 s->ZR s:=by
 exact bQ
def aUi (s:My) (hI:ZR s) (c1:s.i<s.n):m6 (⟨s.x,s.l,s.n,s.i,(gx (e:=.sl<|.int aw) s.l s.i),(M (gx (e:=.sl<|.int aw) s.l s.i):Y),(0:Y)⟩:Mx):=by
 obtain ⟨h0,h1,h2,h3,h4⟩:=hI
 have:=X0 h4 h0 A0
 refine ⟨rfl,?_,rfl⟩
 show (M (gx (e:=.sl<|.int aw) s.l s.i):Y)<=70000
 omega
def ahQ:Da ZR xB acT aBq:=by
 intro s hI;obtain ⟨h0,h1,h2,h3,h4⟩:=hI;refine AH (λc1=>?_) λc1=>trivial
 have c1:s.i<s.n:=A8
 rw [AI (x:=s.i+1)];exact ⟨⟨A8,A8,h2,h3,h4⟩,by simp only [xB];omega⟩
def Re:AR My:=⟨0,28,[3,8,9,10],[],λs=>[.v<|ag ax s.x,.xl (.sl<|.int aw) s.l,s.n,s.i],λ_=>[],λv b=>⟨AL v 0,B1 (.sl<|.int aw) v 1,AL v 2,AL v 3⟩,aBq,λs r=> {r with l:=s.l,n:=s.n},λs=>s,λ_ s=>s,[.exit 0],m7,ZR,xB⟩
abbrev aJL:=Re.run
abbrev avZ:=Re.At
def afL:Rq ZR aBq:=by
 intro s hI;refine ⟨λc1=>⟨?_,?_,ak⟩,λ_=>trivial⟩
 ·exact aOV
 ·exact ⟨aUi s hI A8,rfl,rfl⟩
def aTN:Re.Ok:={}
def aSp:Re.Pf (acT):=⟨anw,λs h=>rfl,ahQ,afL⟩
def au7:SA 0 tM Re:=AR.snd aTN aSp (qo (Γ:=ic) (K:=ER) (L:=(λi=>if i=6 then Rc.lp else Ao i)) (gk ic) kN.h tM (λb hb=>by
 rw [show BC _=[aIJ] by kernel_rfl] at hb
 simp only [B6,Bv,Bt] at hb;subst hb;exact au6)) λs=>AV
def Wr {l:aI}{i:Y}(h0:0<=i) (h:i<(M l:Y)):l.drop i.toNat=gx (e:=.sl<|.int aw) l i::l.drop (i+1).toNat:=(Qt h0 h).1
def aw7:Rs m7 avZ aJL (λs:My=>(s.l.drop s.i.toNat).foldl Sd s.x) (λx s' (v:Y)=>x=.exit 0/\s'.x=v):=Dp aTN aSp (λs hI=>by
  have hin:=λc1=>aUi s hI c1
  obtain ⟨h0,h1,h2,h3,h4⟩:=hI;refine AH (λc1=>?_) λc1=>?_
  ·have c1:s.i<s.n:=A8
   rw [AI (x:=s.i+1)]
   have hr:=(aw6 _<|hin c1).2
   rw [hr,Wr h0 A0];rfl
  ·have c1:s.n<=s.i:=A8
   refine ⟨rfl,?_⟩;rw [FA A0];rfl)
def aWS:aD->T LV
 | [.xl (.sl (.int aw)) ps]=> .req (M ps<=1000/\IK ps) (.ok<|.v<|ag ax<|PL ps)
 |_=> .no
def aBe:=vm (S:=aWS) func224 ic kN (L:=(λi=>if i=3 then Re.lp else Ao i)) (λb hb=>by
 rw [show BC _=[tM] by kernel_rfl] at hb
 simp only [B6,Bv,Bt] at hb;subst hb;exact au7) (λargs lv h=>by
 unfold aWS at h;split at h
 ·rename_i ps
  refine Aq (.req (Re.q (⟨2166136261,ps,(M ps:Y),0⟩:My))<|.ok<|.v<|ag ax (aJL (⟨2166136261,ps,(M ps:Y),0⟩:My)).x) ?_;obtain ⟨⟨h0,h1⟩,rfl⟩:=h
  have hE:m7 ⟨2166136261,ps,(M ps:Y),0⟩:=⟨rfl,Aa,rfl,h1⟩
  obtain ⟨q1,q2⟩:=aw7 _ hE;refine ⟨⟨hE,rfl,rfl⟩,?_⟩;refine B0 (λz=>LV.v<|ag ax z) ?_
  exact q2
 ·cases h)
def akH:aD->T LV:=λ_=> .no
def aRF:VV 1000045 akH:=by
 intro _ _ _ _ _ _ _ _ _ h;exact h.elim
def aVj:aD->T LV
 | [.xl (.int aw) d]=> .req (M d<=70000) (.ok<|.xl (.int aw)<|C0 d)
 |_=> .no
def aiI:aN:=[akj,aBe,aRF]
def aAx:=vo (S:=aVj) func210 aiI kN (λargs lv h=>by
 unfold aVj at h;split at h
 ·rename_i d
  refine Aq (letI a:=(IntKind.u8.wrap<|(M d:Y).fdiv<|2^8);letI b:=(IntKind.u8.wrap (M d:Y));letI c:=(D6<|PL<|[(([a,b]).drop 0).take 2,d]);.req (0+2<=M ([a,b]))<|.ra 1 (M<|[(80:Y)]) (1+M ((([a,b]).drop 0).take 2)) 1<|.req (0+2<=M ([a,b]))<|.req (M ([(([a,b]).drop 0).take 2,d])<=1000/\IK ([(([a,b]).drop 0).take 2,d]))<|.ra (1+M ((([a,b]).drop 0).take 2)) (M<|([(80:Y)])++((([a,b]).drop 0).take 2)) (1+M ((([a,b]).drop 0).take 2)+M c) 1<|.ra (1+M ((([a,b]).drop 0).take 2)+M c) (M<|(([(80:Y)])++((([a,b]).drop 0).take 2))++c) (1+M ((([a,b]).drop 0).take 2)+M c+M d) 1<|.req (0+(1+M ((([a,b]).drop 0).take 2)+M c+M d)<=M (((([(80:Y)])++((([a,b]).drop 0).take 2))++c)++d))<|.ok<|.xl (.int aw)<|((((([(80:Y)])++((([a,b]).drop 0).take 2))++c)++d).drop 0).take<|1+M ((([a,b]).drop 0).take 2)+M c+M d) ?_;obtain ⟨h0,rfl⟩:=h
  have e:(([(IntKind.u8.wrap<|(M d:Y).fdiv<|2^8),(IntKind.u8.wrap (M d:Y))].drop 0).take 2)=szL d:=rfl
  have e2:M (szL d)=2:=rfl
  have e4:∀n,M (D6 n)=4:=λ_=>rfl
  simp only [e]
  have hk:IK [szL d,d]:=by
   intro p hp;simp only [B6,Bv,Bt] at hp;rcases hp with rfl|rfl
   ·rw [e2];omega
   ·exact h0
  iterate 7 refine ⟨A8,?_⟩
  refine B0 (LV.xl<|.int aw) ?_;rw [Dj A8];rfl
 ·cases h)
def aHy {b:aB}:∀ {n m f:aC},M b<=n+f->M b<=m+f->He b n f=He b m f
 |0,0,_,_,_=>rfl
 |0,m+1,f,h,_=>aQ0
 |n+1,0,f,_,h=>aQ0
 |n+1,m+1,f,h1,h2=>by
  simp only [He];rw [aHy (n:=n) (m:=m) (f:=f+7+GD b f) A0 A0]
def Jg (b:aB) (f:aC):List (List Int)×Nat×Bool:=He b (M b) f
def XL (b:aB) (f:aC):Jg b f=if f<M b/\gi b (f:Y)=80 then (if rcG b f then (HZ b f::(Jg b<|f+7+GD b f).1,(Jg b<|f+7+GD b f).2) else ([],f,X)) else ([],f,U):=by
 unfold Jg;rw [aHy (n:=M b) (m:=M b+1) (f:=f) A0 A0];rfl
def aCK:Array Tmp×Code×Code:=((JA<|f147.body.getD .skip)[0]?).getD (#[],.skip,.skip)
def alJ:aX3:=aCK.1
def amw:bB:=aCK.2.1
def aml:bB:=aCK.2.2
structure G0 where
 (from_ I7:Y)
 I8:aB
 (P6 Ou PE:Y)
 P0:aM
 (b2 ff dh EK:Y)
 fO:aM
 b:aB
 rs:aI
 st:LS
def lkS (s:G0):aB:=((s.b.drop (AA<|s.from_+1).toNat).take<|(AA<|s.from_+3).toNat-(AA<|s.from_+1).toNat)
def Ee (s:G0):Y:=(AA<|(AA<|(AA<|s.from_+7)+(AA<|(AA<|gi (lkS s) (0:Y))*2^8))+(AA<|gi (lkS s) (1:Y)))
def lkP (s:G0):aI:=([(s.b.drop (AA<|s.from_+1).toNat).take<|(AA<|s.from_+3).toNat-(AA<|s.from_+1).toNat,(s.b.drop (AA<|s.from_+7).toNat).take<|(Ee s).toNat-(AA<|s.from_+7).toNat])
def lkH (s:G0):aB:=((s.b.drop (AA<|s.from_+3).toNat).take<|(AA<|s.from_+7).toNat-(AA<|s.from_+3).toNat)
def LI (s:G0):aB:=((s.b.drop (AA<|s.from_+7).toNat).take<|(Ee s).toNat-(AA<|s.from_+7).toNat)
def QB (s:G0):T (Rd G0):=letI a:=(s.rs++([((([]:aB)++([]:aB)).drop 0).take<|0+M ([]:aB)]));letI c:=(M s.rs+M ([((([]:aB)++([]:aB)).drop 0).take<|0+M ([]:aB)]));letI d:=(s.rs++([((([]:aB)++(LI s)).drop 0).take<|0+M (LI s)]));letI e:=(M s.b:Y);letI f:=(M<|[((([]:aB)++([]:aB)).drop 0).take<|0+M ([]:aB)]);letI g:=(M s.rs+M ([((([]:aB)++(LI s)).drop 0).take<|0+M (LI s)]));letI h:=AA<|s.from_+7;letI i:=(M ([]:aB));letI j:=AA<|s.from_+3;letI k:=(PL<|lkP s)==(HD<|lkH s);letI l:=(M (lkS s):Y);letI m:=M s.rs;.br (an<|s.from_<e) (.ix s.from_ (M s.b)<|.br ((gi s.b s.from_)==80) (.br (an<|h<=e) (.req (0<=(AA<|s.from_+1)/\(AA<|s.from_+1)<=j/\j<=e)<|.req (0<=(0:Y)/\0<l)<|.req (0<=(1:Y)/\1<l)<|.br (an<|(Ee s)<=e) (.req (0<=h/\h<=(Ee s)/\(Ee s)<=e/\(Ee s)=(Ee s))<|.req (0<=j/\j<=h/\h<=e)<|.req (M (lkP s)<=1000/\IK (lkP s))<|.req (4<=M (lkH s))<|.br (! k) (.rl s.rs<|.so (.ret) {s with P6:=(0:Y),Ou:=(0:Y),PE:=(0:Y),P0:=X,b2:=(11:Y),st:=.done<|.ret})<|.ra 0 i (0+M (LI s)) 1<|.req (0+(0+M (LI s))<=M (([]:aB)++(LI s)))<|.rb m (M<|[((([]:aB)++(LI s)).drop 0).take<|0+M (LI s)]) 24<|.br (! k) (.re g d<|.so (.ret) {s with EK:=Ee s,rs:=d})<|.re g d<|.nx {s with from_:=Ee s,EK:=Ee s,rs:=d})<|.br (!X) (.rl s.rs<|.so (.ret) {s with P6:=(0:Y),Ou:=(0:Y),PE:=(0:Y),P0:=X,b2:=(11:Y),st:=.done<|.ret})<|.ra 0 i (0+M ([]:aB)) 1<|.req (0+(0+M ([]:aB))<=M (([]:aB)++([]:aB)))<|.rb m f 24<|.br (!X) (.re c a<|.so (.ret) {s with EK:=e,rs:=a})<|.re c a<|.nx {s with from_:=e,EK:=e,rs:=a})<|.br (!X) (.rl s.rs<|.so (.ret) {s with P6:=(0:Y),Ou:=(0:Y),PE:=(0:Y),P0:=X,b2:=(11:Y),st:=.done<|.ret})<|.ra 0 i (0+M ([]:aB)) 1<|.req (0+(0+M ([]:aB))<=M (([]:aB)++([]:aB)))<|.rb m f 24<|.br (!X) (.re c a<|.so (.ret) {s with EK:=e,rs:=a})<|.re c a<|.nx {s with from_:=e,EK:=e,rs:=a})<|.rl s.rs<|.so (.exit 0) s)<|.rl s.rs<|.so (.exit 0) s
def aCj {b:aB}(h:BL b) (i:Y):0<=gi b i/\gi b i<=255:=by
 unfold gi;rw [DH];cases e:b[i.toNat]? with
 |none=>decide
 |some x=>exact h x<|Of e
def abq {b:aB}{m n k:aC}(h:k<n):gi ((b.drop m).take n) (k:Y)=gi b ((m+k:aC):Y):=by
 unfold gi
 grind
def M4 (s:G0) (hb:BL s.b) (h0:0<=s.from_) (h7:s.from_+7<=(M s.b:Y)) (hl:M s.b<=4096):
  Ee s=s.from_+7+GD s.b s.from_.toNat/\M (lkS s)=2/\lkH s=(s.b.drop<|s.from_.toNat+3).take 4/\LI s=HZ s.b s.from_.toNat/\lkP s=[(s.b.drop<|s.from_.toNat+1).take 2,HZ s.b s.from_.toNat]:=by
 obtain ⟨f,hf⟩:=QP h0
 have w1:AA (s.from_+1)=s.from_+1:=AI
 have w3:AA (s.from_+3)=s.from_+3:=AI
 have w7:AA (s.from_+7)=s.from_+7:=AI
 have t1:(s.from_+1).toNat=f+1:=A0
 have t3:(s.from_+3).toNat=f+3:=A0
 have t7:(s.from_+7).toNat=f+7:=A0
 have tf:s.from_.toNat=f:=A0
 have eS:lkS s=(s.b.drop<|f+1).take 2:=by
  unfold lkS;rw [w1,w3,t1,t3,show f+3-(f+1)=2 by omega]
 have b1:=aCj hb ((f+1:aC):Y)
 have b2:=aCj hb ((f+2:aC):Y)
 have g0:gi (lkS s) (0:Y)=gi s.b ((f+1:aC):Y):=by rw [eS];exact abq (k:=0) Ad
 have g1:gi (lkS s) (1:Y)=gi s.b ((f+2:aC):Y):=by rw [eS];exact abq (k:=1) Ad
 have hN:GD s.b f=(gi s.b ((f+1:aC):Y)).toNat*256+(gi s.b ((f+2:aC):Y)).toNat:=rfl
 have eT:Ee s=s.from_+7+GD s.b f:=by
  unfold Ee;rw [g0,g1,w7,AI (x:=gi s.b ((f+1:aC):Y)),AI (x:=gi s.b ((f+1:aC):Y)*2^8),AI (x:=gi s.b ((f+2:aC):Y)),AI (x:=s.from_+7+gi s.b ((f+1:aC):Y)*2^8),AI];omega
 have eD:(s.b.drop (AA<|s.from_+7).toNat).take ((Ee s).toNat-(AA<|s.from_+7).toNat)=HZ s.b f:=by
  unfold HZ;rw [eT,w7,t7,show (s.from_+7+(GD s.b f:Y)).toNat-(f+7)=GD s.b f by omega]
 rw [tf];refine ⟨eT,by rw [eS];simp only [MG,FQ];omega,?_,eD,?_⟩
 ·unfold lkH
  rw [w3,w7,t3,t7,show f+7-(f+3)=4 by omega]
 ·unfold lkP
  rw [eD,w1,w3,t1,t3,show f+3-(f+1)=2 by omega]
def aN9 (s:G0) (hb:BL s.b) (h0:0<=s.from_) (h7:s.from_+7<=(M s.b:Y)) (hl:M s.b<=4096) (hT:Ee s<=(M s.b:Y)):rcG s.b s.from_.toNat=(PL (lkP s)==HD (lkH s)):=by
 obtain ⟨e1,e2,e3,e4,e5⟩:=M4 s hb h0 h7 hl;unfold rcG rcF;rw [e3,e5,Ci (p:=s.from_.toNat+7<=M s.b) A0,Ci (p:=s.from_.toNat+7+GD s.b s.from_.toNat<=M s.b) A0];rfl
def aNA (s:G0) (h0:0<=s.from_) (hl:M s.b<=4096) (h:(M s.b:Y)<s.from_+7\/(M s.b:Y)<s.from_+7+GD s.b s.from_.toNat):rcG s.b s.from_.toNat=false:=by
 unfold rcG rcF
 by_cases h1:s.from_.toNat+7<=M s.b
 ·rw [IV (p:=s.from_.toNat+7+GD s.b s.from_.toNat<=M s.b) A0,Sv]
  rfl
 ·rw [IV (p:=s.from_.toNat+7<=M s.b) h1]
  rfl
def aua (fx:Ex->G0->G0) (hr:∀s',fx .ret s'={s' with st:=.done .ret}) (h0:∀s',fx (.exit 0) s'={s' with st:=.ready}) (s:G0) (h:s.st=.ready):DF (λ_=>True) (λx s'=>fx x s'=s') ((QB s).rd s):=by
 obtain ⟨from_,I7,I8,P6,Ou,PE,P0,b2,ff,dh,EK,fO,b,rs,st⟩:=s;subst h;unfold QB;dsimp only [T.rd,T.rl,T.rv];refine AH (λc1=>?_) λc1=>?_
 ·refine AH (λc2=>?_) (λc2=>?_)
  ·refine AH (λc3=>?_) (λc3=>?_)
   ·refine AH (λc4=>?_) (λc4=>?_)
    ·refine AH (λc5=>?_) (λc5=>?_)
     ·exact hr _
     ·refine AH (λc6=>?_) (λc6=>?_)
      ·grind
      ·trivial
    ·refine AH (λc5=>?_) (λc5=>?_)
     ·exact hr _
     ·refine AH (λc6=>?_) (λc6=>?_)
      ·grind
      ·grind
   ·refine AH (λc4=>?_) (λc4=>?_)
    ·exact hr _
    ·refine AH (λc5=>?_) (λc5=>?_)
     ·grind
     ·grind
  ·exact h0 _
 ·exact h0 _
def qI (s:G0):Prop:=s.st=.ready/\5<=s.from_/\s.from_<=(M s.b:Y)/\M s.b<=4096/\BL s.b/\s.EK=s.from_/\(M s.rs:Y)<=s.from_
def pj (s:G0):Prop:=s.st=.ready/\5<=s.from_/\s.from_<=(M s.b:Y)/\M s.b<=4096/\BL s.b/\s.EK=s.from_/\(M s.rs:Y)<=s.from_
def aCc (s:G0):aC:=((M s.b:Y)-s.from_).toNat
def aNJ (x:Ex) (s s':G0):Prop:=True
def apH:∀s,qI s->pj s:=by
 exact λs h=>h
def amG:Da pj aCc aNJ QB:=by
 intro s hI;unfold QB;dsimp only [T.rd,T.rl,T.rv];refine AH (λc1=>?_) λc1=>?_
 ·refine AH (λc2=>?_) (λc2=>?_)
  ·refine AH (λc3=>?_) (λc3=>?_)
   ·refine AH (λc4=>?_) (λc4=>?_)
    ·refine AH (λc5=>?_) (λc5=>?_)
     ·trivial
     ·refine AH (λc6=>?_) (λc6=>?_)
      ·grind
      ·obtain ⟨ht,h5,hl,h4,hb,he,hr⟩:=hI
       have w7:AA (s.from_+7)=s.from_+7:=AI
       have c3:s.from_+7<=(M s.b:Y):=A8
       have c4:=DJ c4
       obtain ⟨e1,e2,e3,e4,e5⟩:=M4 s hb A0 c3 h4;refine ⟨⟨ht,A8,c4,h4,hb,rfl,?_⟩,?_⟩
       ·grind
       ·simp only [aCc];omega
    ·refine AH (λc5=>?_) (λc5=>?_)
     ·trivial
     ·refine AH (λc6=>?_) (λc6=>?_)
      ·grind
      ·grind
   ·refine AH (λc4=>?_) (λc4=>?_)
    ·trivial
    ·refine AH (λc5=>?_) (λc5=>?_)
     ·grind
     ·grind
  ·trivial
 ·trivial
def SX:AR G0:=⟨6,83,[0,1,3],[.nc 3 2 45<|.sl<|.int aw],λs=>[.CU 5,.own 4 0,s.from_],λs=>[⟨[s.I7,.xl (.int aw) s.I8],47,.cl,X⟩,⟨[s.P6,.v<|ag ax s.Ou,.v<|.slice aj 0 0,s.PE,s.P0],266,.cl,X⟩,⟨[s.b2],61,.cl,X⟩,⟨[s.ff,.v<|ag ax s.dh,.os 6 1 0<|M s.rs,s.EK,s.fO],266,.cl,X⟩,⟨[.xl (.int aw) s.b],45,.cl,X⟩,⟨[.junk,.junk,.own 1 0,.own 2 0,.junk,.junk,.junk,.own 3 0,.v<|.tuple #[],.junk,.junk,.junk,.junk,.junk,.junk,.junk,.junk,.junk,.junk,.junk,.junk,.junk,.junk,.junk,.junk,.junk,.junk,.junk,.junk,.junk,.junk,.junk,.junk,.junk,.v<|.tuple #[],.v<|.tuple #[],.v<|.tuple #[],.v<|.tuple #[],.v<|.tuple #[],.v<|.tuple #[],.v<|.tuple #[],.v<|.tuple #[],.v<|.tuple #[],.v<|.tuple #[],.v<|.tuple #[],.v<|.tuple #[],.v<|.tuple #[],.v<|.tuple #[],.v<|.tuple #[],.v<|.tuple #[],.v<|.tuple #[],.junk,.junk,.junk,.junk,.junk,.junk,.junk,.junk,.junk,.junk,.junk,.junk,.junk,.junk,.junk,.junk,.junk,.junk],0,.Cq alJ amw aml s.st,X⟩,⟨[],45,.vec (.sl<|.int aw) s.rs,X⟩],λv b=>⟨AL v 2,Am b 0 0,AF (.int aw) b 0 1,Am b 1 0,Am b 1 1,Am b 1 3,cgB b 1 4,Am b 2 0,Am b 3 0,Am b 3 1,Am b 3 3,cgB b 3 4,AF (.int aw) b 4 0,Ab (.sl<|.int aw) b 6,.ready⟩,QB,λs r=> {r with I7:=s.I7,I8:=s.I8,ff:=s.ff,dh:=s.dh,fO:=s.fO,b:=s.b},λs=> {s with st:=.ready},λx s=> {s with st:=(match x with| .ret=>(.done<|.ret) | .exit 0=> .ready|_=> .ready)},[.ret,.exit 0],qI,pj,aCc⟩
abbrev Gu:=SX.run
abbrev aVA:=SX.At
def xf:aN:=[aBd,aXI,aBf,aAy,aBe]
def aij:Ax:=kI xf<|l0 xf
def alg:Rq pj QB:=by
 intro s hI;refine ⟨λc1=>⟨?_,λc2=>⟨λc3=>⟨?_,?_,?_,λc4=>⟨?_,?_,?_,?_,λc5=>⟨A9,ak⟩,λc5=>⟨?_,?_,?_,λc6=>⟨?_,ak⟩,λc6=>⟨?_,ak⟩⟩⟩,λc4=>⟨λc7=>⟨A9,ak⟩,λc7=>⟨?_,?_,?_,λc8=>⟨?_,ak⟩,λc8=>⟨?_,ak⟩⟩⟩⟩,λc3=>⟨λc9=>⟨A9,ak⟩,λc9=>⟨?_,?_,?_,λc10=>⟨?_,ak⟩,λc10=>⟨?_,ak⟩⟩⟩⟩,λc2=>⟨A9,ak⟩⟩,λc1=>⟨A9,ak⟩⟩
 ·(obtain ⟨ht,h5,hl,h4,hb,he,hr⟩:=hI;have w7:AA (s.from_+7)=s.from_+7:=AI;have w1:AA (s.from_+1)=s.from_+1:=AI;have w3:AA (s.from_+3)=s.from_+3:=AI;simp only [Ac] at c1;omega)
 iterate 3 · (obtain ⟨ht,h5,hl,h4,hb,he,hr⟩:=hI;have w7:AA (s.from_+7)=s.from_+7:=AI;have w1:AA (s.from_+1)=s.from_+1:=AI;have w3:AA (s.from_+3)=s.from_+3:=AI;have k3:s.from_+7<=(M s.b:Y):=Ol;obtain ⟨e1,e2,e3,e4,e5⟩:=M4 s hb A0 k3 h4;(first|omega|(rw [w1,w3];omega) |(rw [w3,w7];omega)))
 iterate 2 · (obtain ⟨ht,h5,hl,h4,hb,he,hr⟩:=hI;have w7:AA (s.from_+7)=s.from_+7:=AI;have w1:AA (s.from_+1)=s.from_+1:=AI;have w3:AA (s.from_+3)=s.from_+3:=AI;have k3:s.from_+7<=(M s.b:Y):=Ol;obtain ⟨e1,e2,e3,e4,e5⟩:=M4 s hb A0 k3 h4;have k4:Ee s<=(M s.b:Y):=DJ c4;have hD:M (HZ s.b s.from_.toNat)<=4096:=cW;(first|omega|(rw [w1,w3];omega) |(rw [w3,w7];omega) |(rw [w7];exact ⟨A0,A0,k4,rfl⟩)))
 ·(obtain ⟨ht,h5,hl,h4,hb,he,hr⟩:=hI;have w7:AA (s.from_+7)=s.from_+7:=AI;have w1:AA (s.from_+1)=s.from_+1:=AI;have w3:AA (s.from_+3)=s.from_+3:=AI;have k3:s.from_+7<=(M s.b:Y):=Ol;obtain ⟨e1,e2,e3,e4,e5⟩:=M4 s hb A0 k3 h4;have k4:Ee s<=(M s.b:Y):=DJ c4;have hD:M (HZ s.b s.from_.toNat)<=4096:=cW;rw [e5];refine ⟨AJ,λp hp=>?_⟩;simp only [B6,Bv,Bt] at hp;rcases hp with rfl|rfl;(first|(simp only [MG,FQ];omega) |omega);omega)
 ·(obtain ⟨ht,h5,hl,h4,hb,he,hr⟩:=hI;have w7:AA (s.from_+7)=s.from_+7:=AI;have w1:AA (s.from_+1)=s.from_+1:=AI;have w3:AA (s.from_+3)=s.from_+3:=AI;have k3:s.from_+7<=(M s.b:Y):=Ol;obtain ⟨e1,e2,e3,e4,e5⟩:=M4 s hb A0 k3 h4;have k4:Ee s<=(M s.b:Y):=DJ c4;have hD:M (HZ s.b s.from_.toNat)<=4096:=cW;rw [e3];simp only [MG,FQ];omega)
 ·(obtain ⟨ht,h5,hl,h4,hb,he,hr⟩:=hI;have w7:AA (s.from_+7)=s.from_+7:=AI;have w1:AA (s.from_+1)=s.from_+1:=AI;have w3:AA (s.from_+3)=s.from_+3:=AI;have k3:s.from_+7<=(M s.b:Y):=Ol;obtain ⟨e1,e2,e3,e4,e5⟩:=M4 s hb A0 k3 h4;have k4:Ee s<=(M s.b:Y):=DJ c4;have hD:M (HZ s.b s.from_.toNat)<=4096:=cW;rw [e4];simp only [BG,Bm,C3,Em];try omega)
 ·grind
 iterate 3 · (obtain ⟨ht,h5,hl,h4,hb,he,hr⟩:=hI;have w7:AA (s.from_+7)=s.from_+7:=AI;have w1:AA (s.from_+1)=s.from_+1:=AI;have w3:AA (s.from_+3)=s.from_+3:=AI;have k3:s.from_+7<=(M s.b:Y):=Ol;obtain ⟨e1,e2,e3,e4,e5⟩:=M4 s hb A0 k3 h4;have k4:Ee s<=(M s.b:Y):=DJ c4;have hD:M (HZ s.b s.from_.toNat)<=4096:=cW;rw [e4];simp only [BG,Bm,C3,Em];try omega)
 iterate 5 · exact absurd c7 Ad
 iterate 5 · exact absurd c9 Ad
def aaD:SX.Ok:=⟨λs=>AV,λs _=>aua SX.fx (λ_=>rfl) (λ_=>rfl) (SX.rd s) rfl,λs=>rfl,λs t r=>rfl,λs=>rfl,λs=>AV⟩
def aah:SX.Pf (aNJ):=⟨apH,λs h=>by
 obtain ⟨from_,I7,I8,P6,Ou,PE,P0,b2,ff,dh,EK,fO,b,rs,st⟩:=s
 have e:=h.1
 subst e;rfl,amG,alg⟩
def azs:=s2 (b:=bN f223 0) aaD aah xf aij
def ai3:Rs qI aVA Gu (λs:G0=>(s.rs++(Jg s.b s.from_.toNat).1,(Jg s.b s.from_.toNat).2.1,(Jg s.b s.from_.toNat).2.2)) (λx s' (v:List (List Int)×Nat×Bool)=>(x=.exit 0/\s'.rs=v.1/\s'.EK=(v.2.1:Y)/\v.2.2=U)\/(x=.ret/\v.2.2=X/\s'.b2=11/\s'.P6=0/\s'.Ou=0/\s'.PE=0/\s'.P0=X)):=Dp aaD aah (λs hI=>by
  show DF _ _ ((QB s).rd s)
  unfold QB;dsimp only [T.rd,T.rl];refine AH (λc1=>?_) λc1=>?_
  ·refine AH (λc2=>?_) (λc2=>?_)
   ·refine AH (λc3=>?_) (λc3=>?_)
    ·refine AH (λc4=>?_) (λc4=>?_)
     ·refine AH (λc5=>?_) (λc5=>?_)
      ·obtain ⟨ht,h5,hl,h4,hb,he,hr⟩:=hI
       have w7:AA (s.from_+7)=s.from_+7:=AI
       have hq:=XL s.b s.from_.toNat
       rw [Bs A0] at hq;rw [AD ⟨oM,Dl⟩] at hq
       have k3:s.from_+7<=(M s.b:Y):=Ol
       obtain ⟨e1,e2,e3,e4,e5⟩:=M4 s hb A0 k3 h4
       have hg:=aN9 s hb A0 k3 h4<|DJ c4
       have hg:rcG s.b s.from_.toNat=false:=aR3
       exact zr
      ·refine AH (λc6=>?_) (λc6=>?_)
       ·exact absurd (c5.symm.trans c6) Ad
       ·obtain ⟨ht,h5,hl,h4,hb,he,hr⟩:=hI
        have w7:AA (s.from_+7)=s.from_+7:=AI
        have hq:=XL s.b s.from_.toNat
        rw [Bs A0] at hq;rw [AD ⟨oM,Dl⟩] at hq
        have k3:s.from_+7<=(M s.b:Y):=Ol
        obtain ⟨e1,e2,e3,e4,e5⟩:=M4 s hb A0 k3 h4
        have hg:=aN9 s hb A0 k3 h4<|DJ c4
        have hg:rcG s.b s.from_.toNat=true:=aR3
        rw [AD hg] at hq
        have et:(Ee s).toNat=s.from_.toNat+7+GD s.b s.from_.toNat:=A0
        have ed:((([]:aB)++LI s).drop 0).take (0+M (LI s))=HZ s.b s.from_.toNat:=by
         rw [e4,Ek,CZ,F8];exact Dj<|Au _
        show (s.rs++[_]++(Jg s.b (Ee s).toNat).1,(Jg s.b (Ee s).toNat).2.1,(Jg s.b (Ee s).toNat).2.2)=(s.rs++(Jg s.b s.from_.toNat).1,(Jg s.b s.from_.toNat).2.1,(Jg s.b s.from_.toNat).2.2)
        rw [ed,et,hq];simp only [Cw,LP,Ek]
     ·refine AH (λc5=>?_) (λc5=>?_)
      ·obtain ⟨ht,h5,hl,h4,hb,he,hr⟩:=hI
       have w7:AA (s.from_+7)=s.from_+7:=AI
       have hq:=XL s.b s.from_.toNat
       rw [Bs A0] at hq;rw [AD ⟨oM,Dl⟩] at hq
       have k3:s.from_+7<=(M s.b:Y):=Ol
       obtain ⟨e1,e2,e3,e4,e5⟩:=M4 s hb A0 k3 h4
       have hg:=aNA s A0 h4<|.inr (by have:=KI c4;omega)
       exact zr
      ·refine AH (λc6=>?_) (λc6=>?_)
       ·exact absurd c5 Ad
       ·exact absurd c5 Ad
    ·refine AH (λc4=>?_) (λc4=>?_)
     ·obtain ⟨ht,h5,hl,h4,hb,he,hr⟩:=hI
      have w7:AA (s.from_+7)=s.from_+7:=AI
      have hq:=XL s.b s.from_.toNat
      rw [Bs A0] at hq;rw [AD ⟨oM,Dl⟩] at hq
      have hg:=aNA s A0 h4<|.inl (by rw [w7] at c3;have:=KI c3;omega)
      exact zr
     ·refine AH (λc5=>?_) (λc5=>?_)
      ·exact absurd c4 Ad
      ·exact absurd c4 Ad
   ·obtain ⟨ht,h5,hl,h4,hb,he,hr⟩:=hI
    have hq:=XL s.b s.from_.toNat
    rw [Bs A0] at hq;rw [AE A8] at hq;rw [hq];exact .inl ⟨rfl,(Gm _).symm,Aa,rfl⟩
  ·obtain ⟨ht,h5,hl,h4,hb,he,hr⟩:=hI
   have hq:=XL s.b s.from_.toNat
   rw [Bs A0] at hq;rw [AE A8] at hq;rw [hq];exact .inl ⟨rfl,(Gm _).symm,Aa,rfl⟩)
structure N6 where
 l:aB
 (n i uO aEi yF:Y)
 tP:aM
 (b1 Ts WC Uv:Y)
 JH:aM
 rs:aI
def aKi:=bN f147 0
def aEU (s:N6):T (Rd N6):=
 .br (an<|s.i<s.n) (.ix s.i (M s.l)<|.br s.JH (.rl s.rs<|.nx {s with i:=AA<|s.i+1,JH:=((gi s.l s.i)==255)})<|.rl s.rs<|.nx {s with i:=AA<|s.i+1,JH:=X}) (.rl s.rs<|.so (.exit 2) s)
def qK (s:N6):Prop:=s.i=0/\s.n<=4096/\s.n=(M s.l:Y)
def q9 (s:N6):Prop:=0<=s.i/\s.i<=s.n/\s.n<=4096/\s.n=(M s.l:Y)
def yI (s:N6):aC:=(s.n-s.i).toNat
def aNK (x:Ex) (s s':N6):Prop:=True
def apM:∀s,qK s->q9 s:=by
 exact nz
def amI:Da q9 yI aNK aEU:=by
 intro s hI;obtain ⟨h0,h1,h2,h3⟩:=hI;refine AH (λc1=>?_) λc1=>?_
 ·refine AH (λc2=>?_) (λc2=>?_)
  ·exact aNn
  ·exact aNn
 ·trivial
def SY:AR N6:=⟨0,69,[2,3,7,54,55,56],[],λs=>[.own 0 0,.own 1 0,.own 2 0,.xl (.int aw) s.l,s.n,s.i],λs=>[⟨[s.uO,.v<|ag ax s.aEi,.v<|.slice aj 0 0,s.yF,s.tP],266,.cl,X⟩,⟨[s.b1],61,.cl,X⟩,⟨[s.Ts,.v<|ag ax s.WC,.os 3 1 0<|M s.rs,s.Uv,s.JH],266,.cl,X⟩,⟨[],45,.vec (.sl<|.int aw) s.rs,X⟩],λv b=>⟨B1 (.int aw) v 3,AL v 4,AL v 5,Am b 0 0,Am b 0 1,Am b 0 3,cgB b 0 4,Am b 1 0,Am b 2 0,Am b 2 1,Am b 2 3,cgB b 2 4,Ab (.sl<|.int aw) b 3⟩,aEU,λs r=> {s with i:=r.i,JH:=r.JH},λs=>s,λ_ s=>s,[.exit 2],qK,q9,yI⟩
abbrev vG:=SY.run
abbrev ai9:=SY.At
def ali:Rq q9 aEU:=by
 exact aOK
def ib:aN:=[aBd,aXI,aBf,aAy,aBe]
def aUX:Ax:=kI ib<|la 1 func223 azs<|l0 ib
def aaF:SY.Ok:={}
def aaj:SY.Pf (aNK):=⟨apM,λs h=>rfl,amI,ali⟩
def azt:SA 0 aKi SY:=s1 aaF aaj ib aUX
def ahN:Rs qK ai9 vG (λs:N6=>s.JH&&(s.l.drop s.i.toNat).all (λb=>b==255)) (λx s' (v:aM)=>x=.exit 2/\s'.JH=v):=Dp aaF aaj (λs hI=>by
  obtain ⟨h0,h1,h2,h3⟩:=hI;refine AH (λc1=>AH (λc2=>?_) λc2=>?_) λc1=>?_
  ·have c1:s.i<s.n:=A8
   rw [AI (x:=s.i+1)]
   show (_&&_)=(_&&_)
   rw [(gi_step h0 A0).1,J2,c2,ET]
  ·have c1:s.i<s.n:=A8
   rw [c2];rfl
  ·have c1:s.n<=s.i:=A8
   refine ⟨rfl,?_⟩;rw [FA A0];exact (nC _).symm)
def wK {b:aB}:∀ {n f:aC},f<=M b->(He b n f).2.1<=M b
 |0,_,h=>h
 | n+1,f,h=>by
  simp only [He];split
  ·split
   ·rename_i hg
    unfold rcG rcF at hg;simp only [AY,Ac] at hg;exact wK (n:=n) hg.1.2
   ·exact h
  ·exact h
def Es (se:Y) (fl:aB):Y:=if By se fl=0 then Aw fl else 0
def Io (se:Y) (fl:aB):Y:=if By se fl=0 then JW fl (Aw fl) else 0
def FE (se:Y) (fl:aB):aI:=if By se fl=0 then (F6 fl).1 else []
def HV (se:Y) (fl:aB):Y:=if By se fl=0 then ((F6 fl).2.1:Y) else 0
def L2 (se:Y) (fl:aB):aM:=if By se fl=0 then lkC fl else X
def aMR:aD->T LV
 | [.agg [.v (ag J se),.xl (.int aw) fl]]=> .req (BL fl) (.ok<|.AQ [.agg [Es se fl,.v<|ag ax<|Io se fl,.xl (.sl<|.int aw)<|FE se fl,HV se fl,L2 se fl],By se fl])
 |_=> .no
def En (se:Y) (fl:aB):G0:=(⟨5,se,fl,0,0,0,X,0,Aw fl,HD<|((Bp fl<|Aw fl).drop (1:Y).toNat).take<|(5:Y).toNat-(1:Y).toNat,5,U,Bp fl<|Aw fl,([]:aI),.ready⟩:G0)
def gE (se:Y) (fl:aB):N6:=(⟨((Bp fl<|Aw fl).drop (Gu<|En se fl).EK.toNat).take<|(M (Bp fl<|Aw fl):Y).toNat-(Gu<|En se fl).EK.toNat,(M (((Bp fl<|Aw fl).drop (Gu<|En se fl).EK.toNat).take<|(M (Bp fl<|Aw fl):Y).toNat-(Gu<|En se fl).EK.toNat):Y),0,(Gu<|En se fl).P6,(Gu<|En se fl).Ou,(Gu<|En se fl).PE,(Gu<|En se fl).P0,(Gu<|En se fl).b2,Aw fl,HD<|((Bp fl<|Aw fl).drop (1:Y).toNat).take<|(5:Y).toNat-(1:Y).toNat,(Gu<|En se fl).EK,U,(Gu<|En se fl).rs⟩:N6)
def iQ:=vm (S:=aMR) func147 ib aUX (L:=(λi=>if i=15 then SY.lp else Ao i)) (λb hb=>by
 rw [show BC _=[aKi] by kernel_rfl] at hb
 simp only [B6,Bv,Bt] at hb;subst hb;exact azt) (λargs lv h=>by
 unfold aMR at h;split at h
 ·rename_i se fl
  refine Aq (letI d:=Gu<|En se fl;letI f:=(M (Bp fl<|Aw fl):Y);letI j:=(((Bp fl<|Aw fl).drop (1:Y).toNat).take<|(5:Y).toNat-(1:Y).toNat);letI k:=List Int;.br (!(FF se fl)) (.ok<|.AQ [.agg [(0:Y),.v<|ag ax 0,.xl (.sl<|.int aw) ([]:List k),(0:Y),X],(1:Y)])<|.req (FF se fl=U)<|.br ((IG fl) !=0) (.ok<|.AQ [.agg [(0:Y),.v<|ag ax 0,.xl (.sl<|.int aw) ([]:List k),(0:Y),X],(IG fl)])<|.req (((Aw fl)=0\/(Aw fl)=1)/\M fl<=4096)<|.req (0<=(1:Y)/\(1:Y)<=(5:Y)/\(5:Y)<=f)<|.req (4<=M j)<|.r0 k<|.req (SX.q<|En se fl)<|.br (Bj (aVA<|En se fl)<|.ret) (.ok<|.AQ [.agg [d.P6,.v<|ag ax d.Ou,.xl (.sl<|.int aw) ([]:List k),d.PE,d.P0],d.b2])<|.req (0<=d.EK/\d.EK<=f/\f<=f)<|.rl d.rs<|.req (SY.q<|gE se fl)<|.rz d.rs<|.ok<|.AQ [.agg [(Aw fl),.v<|ag ax<|HD j,.xl (.sl<|.int aw)<|(d.rs.drop 0).take<|M d.rs,d.EK,(vG<|gE se fl).JH],(0:Y)]) ?_;obtain ⟨hb,rfl⟩:=h
  have fin:∀(a g:Y) (r:aI) (n:Y) (c:aM) (e:Y),a=Es se fl->g=Io se fl->r=FE se fl->n=HV se fl->c=L2 se fl->e=By se fl->
   LV.AQ [.agg [.v<|ag J a,.v<|ag ax g,.xl (.sl<|.int aw) r,.v<|ag J n,.v<|.bool c],.v<|ag J e]=LV.AQ [.agg [.v<|ag J<|Es se fl,.v<|ag ax<|Io se fl,.xl (.sl<|.int aw)<|FE se fl,.v<|ag J<|HV se fl,.v<|.bool<|L2 se fl],.v<|ag J<|By se fl]:=λa g r n c e h1 h2 h3 h4 h5 h6=>by rw [h1,h2,h3,h4,h5,h6]
  refine ⟨λc1=>?_,λc1=>⟨AX,λc2=>?_,λc2=>?_⟩⟩
  ·have c1:FF se fl=false:=AX
   have hE:By se fl=1:=by unfold By;rw [AD c1]
   refine fin _ _ _ _ _ _ ?_ ?_ ?_ ?_ ?_ hE.symm<;>simp [Es,Io,FE,HV,L2,hE]
  ·have c1:FF se fl=true:=AX
   have c2:IG fl≠0:=Dl
   have hE:By se fl=IG fl:=by unfold By;rw [AE cd,AD c2]
   refine fin _ _ _ _ _ _ ?_ ?_ ?_ ?_ ?_ hE.symm<;>simp [Es,Io,FE,HV,L2,hE,c2]
  have c1:FF se fl=true:=AX
  have c2:IG fl=0:=Dl
  have hj:=MX.1 c1
  have hw:Aw fl=0\/Aw fl=1:=aQk
  have hl:=eQ fl<|Aw fl
  have hab:BL (Bp fl<|Aw fl):=by
   intro x hx;unfold Bp at hx;split at hx
   ·exact hb x<|VA hx
   ·exact hb x<|QR<|VA hx
  have hQ:F6 fl=Jg (Bp fl<|Aw fl) 5:=rfl
  have hE0:qI (En se fl):=⟨rfl,by show (5:Y)<=5;decide,by show (5:Y)<=(M (Bp fl<|Aw fl):Y);omega,by show M (Bp fl<|Aw fl)<=4096;omega,hab,rfl,by show ((M ([]:aI):aC):Y)<=5;decide⟩
  have hr:=ai3 _ hE0
  have hv:(En se fl).rs=[]:=rfl
  have hf:(En se fl).from_.toNat=5:=rfl
  have hB:(En se fl).b=Bp fl (Aw fl):=rfl
  simp only [hv,hf,hB,Ek,<-hQ] at hr;refine ⟨⟨hw,hj.2.2.2.1⟩,⟨Ad,Ad,A0⟩,by simp only [MG,FQ];omega,A9,⟨hE0,rfl,rfl⟩,λc3=>?_,λc3=>?_⟩
  ·have c3:=Wj c3
   rcases hr with ⟨q1,_⟩ |⟨q1,q2,q3,q4,q5,q6,q7⟩
   ·rw [c3] at q1;cases q1
   ·have hE:By se fl=11:=by unfold By;rw [AE cd,AE cf,AE (by rw [q2];decide)]
    rw [q3,q4,q5,q6,q7];refine fin _ _ _ _ _ _ ?_ ?_ ?_ ?_ ?_ hE.symm<;>simp [Es,Io,FE,HV,L2,hE]
  ·rcases hr with ⟨q1,q2,q3,q4⟩ |⟨q1,_⟩
   ·have hE:By se fl=0:=by unfold By;rw [AE cd,AE cf,AD q4]
    have hn:(F6 fl).2.1<=M (Bp fl<|Aw fl):=wK A0
    have eL:((Bp fl<|Aw fl).drop (Gu<|En se fl).EK.toNat).take ((M (Bp fl<|Aw fl):Y).toNat-(Gu<|En se fl).EK.toNat)=(Bp fl<|Aw fl).drop (F6 fl).2.1:=by
     rw [q3,C2,C2];exact Dj aAs
    have hC:qK (gE se fl):=⟨rfl,by
     show (M (((Bp fl<|Aw fl).drop (Gu<|En se fl).EK.toNat).take<|(M (Bp fl<|Aw fl):Y).toNat-(Gu<|En se fl).EK.toNat):Y)<=4096
     rw [eL,FQ];omega,rfl⟩
    have hr2:(vG<|gE se fl).JH=(U&&((((Bp fl<|Aw fl).drop (Gu<|En se fl).EK.toNat).take<|(M (Bp fl<|Aw fl):Y).toNat-(Gu<|En se fl).EK.toNat).drop 0).all (λb=>b==255)):=(ahN _ hC).2
    rw [eL,CZ,ET] at hr2;refine ⟨⟨by rw [q3];omega,by rw [q3];omega,Cb _⟩,A9,⟨hC,rfl,rfl⟩,A0,?_⟩
    refine fin _ _ _ _ _ _ ?_ ?_ ?_ ?_ ?_ hE.symm
    ·unfold Es;rw [AD hE]
    ·unfold Io JW;rw [AD hE];rfl
    ·unfold FE;rw [AD hE,CZ,Dj<|Au _];exact q2
    ·unfold HV;rw [AD hE];exact q3
    ·unfold L2;rw [AD hE];exact hr2
   ·exfalso;rw [q1] at c3;simp [Bj] at c3
 ·cases h)
end Go.Proofs.YtpdndmobphnjcaaGreatDoor
namespace Go.Sx
open Go Go.RowKit Go.Proofs.YtpdndmobphnjcaaGreatDoor
variable {P : Program} {G : BA} {Γ : Specs} {K : Hand} {L : Lv} {Z0 : Gz} {w0 : World}
abbrev W1:=Nat->Option (List Nat×List Up)
def Xf (P:aR) (G:BA) (Γ:aXQ) (K:aX5) (L:Py) (cs:W1):bB->aD->aG->T (Ex×List LV×List AB)
 | .seq a b,F,H=>(Xf P G Γ K L cs a F H).bind λq=>match q.1 with
  | .normal=>match cs (H3 b) with
   |some (live,us)=>(GW 0 live us .normal q.2.1 q.2.2).bind λv=>if v.low then Xf P G Γ K L cs b (HO (M q.2.1) live v.vals) v.JX else .no
   |none=>Xf P G Γ K L cs b q.2.1 q.2.2
  |x=> .ok (x,q.2)
 |c,F,H=>DL P G Γ K L c F H
def aeD {L:Py}{cs:W1}(hΓ:∀g S,Γ g=ah S->Valid P G g S) (hK:Ft P G K) (c:bB) (hl:∀b∈BC c,Gx P G (AN 0) (.loop b)<|L b):Gx P G (AN 0) c (Xf P G Γ K L cs c):=by
 induction c with
 | seq c1 c2 ih1 ih2=>
  intro r w0 Z0 Z β F H a w ds Q x F' H' hA hr hD hW hF h hQ;obtain ⟨⟨y,F1,H1⟩,h1,h2⟩:=T.B7 h;obtain ⟨hr1,hr2⟩:=uK (show r=aj\/(IE c1&&IE c2)=U from hr);refine wpIn_seq<|ih1 (λb hb=>hl b T6) r w0 Z0 Z β F H a w ds _ y F1 H1 hA hr1 hD hW hF h1 λds' Z' β' a' w' e0 e1 e2=>?_
  cases y with
  | normal=>
   simp only at h2;split at h2
   ·rename_i live us hcs
    obtain ⟨v,h3,h4⟩:=T.B7 h2;split at h4
    ·rename_i hlow
     obtain ⟨_,_,Z2,β2,e3,e4⟩:=eM hA e1 e2 h3 hlow;exact ih2 (λb hb=>hl b T6) r w0 Z0 Z2 β2 _ _ a' w' ds' Q x F' H' hA hr2 e0 e3 e4 h4 hQ
    ·cases h4
   ·exact ih2 (λb hb=>hl b T6) r w0 Z0 Z' β' F1 H1 a' w' ds' Q x F' H' hA hr2 e0 e1 e2 h2 hQ
  |exit m=>
   obtain ⟨rfl,rfl,rfl⟩:=h2;exact hQ ds' Z' β' a' w' e0 e1 e2
  |ret=>
   obtain ⟨rfl,rfl,rfl⟩:=h2;exact hQ ds' Z' β' a' w' e0 e1 e2
 |_=>exact Fp hΓ hK _ hl
def l9 (P:aR) (G:BA) (Γ:aXQ) (K:aX5) (L:Lv) (cs:W1) (fn:aXX) (args:aD):T LV:=
 (match fn.body with
 |some c=>yU P fn (Xf P G Γ K (LF L) cs c) args
 |none=> .no).bind λx=> .ok<|canX<|upR P fn.resultTypes.toList x
def aFl {f:bn}{fn:aXX}{c:bB}{S:aD->T LV}{cs:W1}(hfn:P.funcs[f]? =ah fn) (hc:fn.body=ah c) (hΓ:∀g S,Γ g=ah S->Valid P G g S) (hK:Ft P G K)
  (hL:∀b∈BC c,Sound P G (.loop b)<|L<|H3 b) (hS:∀args lv,(S args).all (λx=>x=lv)->(l9 P G Γ K L cs fn<|canL args).all (λx=>x=lv)):Valid P G f (upS P fn.params.toList S):=
 aH2 (aFm hfn hc<|aeD (L:=LF L) (cs:=cs) hΓ hK c hL) (λargs lv h=>by have:=hS args lv h;unfold l9 at this;simpa only [hc] using this)
def T.yK {α:Type}:T α->T α
 | .br b t e=> .br b t.red e.red
 | .req p t=> .req p (T.yK t)
 |t=>t
def T.aIA {α:Type}{K:α->Prop}:∀ {t:T α},t.yK.all K->t.all K
 | .ok _,h=>h
 | .br _ _ _,h=>⟨λhb=>T.Ww<|h.1 hb,λhb=>T.Ww<|h.2 hb⟩
 | .req _ _,h=>⟨h.1,T.aIA h.2⟩
 | .no,h=>h
end Go.Sx
namespace Go.Proofs.YtpdndmobphnjcaaGreatDoor
set_option maxRecDepth 100000
set_option maxHeartbeats 4000000
open Go.Proofs.Tryz
open Go.Sx
def aW8:aD->T LV
 | [.v (.agg ⟨[ag J x1,ag J x2,ag J x3,ag J x4,ag J x5]⟩)]=> .ok (.xl (.int aw)<|B3 (x1,x2,x3,x4,x5))
 |_=> .no
def WW:=bN f175 0
def Lp:aN:=[]
def atS:Sound prog AT (.loop WW) (EY prog AT Lp ER 20 2 WW):=MQ (gk Lp) kN.h 20 2 WW
def agU (x1 x2 x3 x4 x5:Y):letI a:=(((((((((((((aq (0:Y).toNat (0:Y))++([IntKind.u8.wrap<|x1.fdiv<|2^(24)]))++([IntKind.u8.wrap<|x1.fdiv<|2^(16)]))++([IntKind.u8.wrap<|x1.fdiv<|2^(8)]))++([IntKind.u8.wrap<|x1.fdiv<|2^(0)]))++([IntKind.u8.wrap<|x2.fdiv<|2^(0)]))++([IntKind.u8.wrap<|x3.fdiv<|2^(0)]))++([IntKind.u8.wrap<|x4.fdiv<|2^(24)]))++([IntKind.u8.wrap<|x4.fdiv<|2^(16)]))++([IntKind.u8.wrap<|x4.fdiv<|2^(8)]))++([IntKind.u8.wrap<|x4.fdiv<|2^(0)]))++([IntKind.u8.wrap<|x5.fdiv<|2^(8)]))++([IntKind.u8.wrap<|x5.fdiv<|2^(0)]));(Bw prog AT Lp kN (λi=>if i=4 then (EY prog AT Lp ER 20 2 WW) else Ao i) f175 [.v<|.agg #[x1,x2,x3,x4,x5]]).red=.req (0<=(0:Y)/\(0:Y)<=(12:Y)/\1*(12:Y)<=2^48/\(12:Y)<2^63) (.req (0<=(24:Y))<|.ra 0 0 1 1<|.req (0<=(16:Y))<|.ra 1 1 2 1<|.req (0<=(8:Y))<|.ra 2 2 3 1<|.req (0<=(0:Y))<|.ra 3 3 4 1<|.req (0<=(0:Y))<|.ra 4 4 5 1<|.req (0<=(0:Y))<|.ra 5 5 6 1<|.req (0<=(24:Y))<|.ra 6 6 7 1<|.req (0<=(16:Y))<|.ra 7 7 8 1<|.req (0<=(8:Y))<|.ra 8 8 9 1<|.req (0<=(0:Y))<|.ra 9 9 10 1<|.req (0<=(8:Y))<|.ra 10 10 11 1<|.req (0<=(0:Y))<|.ra 11 11 12 1<|.req (0+12<=M a)<|.ok<|.xl (.int aw)<|(a.drop 0).take 12):=AV
def aXo:=vm (S:=aW8) func175 Lp kN (L:=(λi=>if i=4 then (EY prog AT Lp ER 20 2 WW) else Ao i)) (λb hb=>by
 rw [show BC _=[WW] by kernel_rfl] at hb
 simp only [B6,Bv,Bt] at hb;subst hb;exact atS) (λargs lv h=>by
 refine ⟨?_⟩;unfold aW8 at h;split at h
 ·simp only [canL,canX]
  refine @T.Ww _ _ _ ?_;rw [agU];obtain rfl:=h
  iterate 25 refine ⟨Ad,?_⟩
  refine ⟨Au _,?_⟩;simp only [T.all,Int.pow_zero,Int.fdiv_one];rfl
 ·cases h)
def upZ (d:aB):Le:=if M d=12 then Gb d else (0,0,0,0,0)
def aW6:aD->T LV
 | [.xl (.int aw) d]=> .req (BL d) (.tu #[.agg #[(upZ d).1,(upZ d).2.1,(upZ d).2.2.1,(upZ d).2.2.2.1,(upZ d).2.2.2.2],an<|M d=12])
 |_=> .no
def WV:=bN f110 0
def atQ:Sound prog AT (.loop WV) (EY prog AT Lp ER 20 2 WV):=MQ (gk Lp) kN.h 20 2 WV
def agT (d:aB):letI a:=(M d:Y);letI b:=AA<|0*2^8;(Bw prog AT Lp kN (λi=>if i=6 then (EY prog AT Lp ER 20 2 WV) else Ao i) f110 [.xl (.int aw) d]).yK=.br (a !=12) (.tu #[.agg #[(0:Y),(0:Y),(0:Y),(0:Y),(0:Y)],X]) (.req (0<=(0:Y)/\0<a)<|.req (0<=(1:Y)/\1<a)<|.req (0<=(2:Y)/\2<a)<|.req (0<=(3:Y)/\3<a)<|.req (0<=(4:Y)/\4<a)<|.req (0<=(5:Y)/\5<a)<|.req (0<=(6:Y)/\6<a)<|.req (0<=(7:Y)/\7<a)<|.req (0<=(8:Y)/\8<a)<|.req (0<=(9:Y)/\9<a)<|.req (0<=(10:Y)/\10<a)<|.req (0<=(11:Y)/\11<a)<|.tu #[.agg #[Df J (AA<|(Df J (AA<|(Df J (AA<|(Df J b<|AA<|gi d (0:Y))*2^8)<|AA<|gi d (1:Y))*2^8)<|AA<|gi d (2:Y))*2^8)<|AA<|gi d (3:Y),Df J b<|AA<|gi d (4:Y),Df J b<|AA<|gi d (5:Y),Df J (AA<|(Df J (AA<|(Df J (AA<|(Df J b<|AA<|gi d (6:Y))*2^8)<|AA<|gi d (7:Y))*2^8)<|AA<|gi d (8:Y))*2^8)<|AA<|gi d (9:Y),Df J (AA<|(Df J b<|AA<|gi d (10:Y))*2^8)<|AA<|gi d (11:Y)],U]):=AV
def o8 {a b:Y}(h0:0<=a) (h1:a<1099511627776) (hb:0<=b/\b<=255):Df J (AA<|a*2^8) (AA b)=a*256+b:=by
 rw [AI (x:=a*2^8),AI (x:=b)];obtain ⟨a,rfl⟩:=QP h0;obtain ⟨b,rfl⟩:=QP hb.1
 have e:∀n:aC,n<4611686018427387904->(BitVec.ofInt (IntKind.bits J) (n:Y)).toNat=n:=λn hn=>by
  show (BitVec.ofInt 64 (n:Y)).toNat=n
  rw [BitVec.toNat_ofInt];omega
 unfold Df;rw [show (a:Y)*2^8=((a*2^8:aC):Y) by omega,BitVec.toNat_or,e _ A0,e _ A0,j3 A0]
 show AA _=_
 rw [AI];omega
def aCw {w:Y}(hw:0<=w/\w<=255):Df J (AA<|0*2^8) (AA w)=w:=by
 rw [o8 A0 A0 hw];omega
def ab7 {z w:Y}(hz:0<=z/\z<=255) (hw:0<=w/\w<=255):Df J (AA<|Df J (AA<|0*2^8) (AA z)*2^8) (AA w)=z*256+w:=by
 rw [aCw hz,o8 A0 A0 hw]
def ab6 {x y z w:Y}(hx:0<=x/\x<=255) (hy:0<=y/\y<=255) (hz:0<=z/\z<=255) (hw:0<=w/\w<=255):
  Df J (AA<|Df J (AA<|Df J (AA<|Df J (AA<|0*2^8) (AA x)*2^8) (AA y)*2^8) (AA z)*2^8) (AA w)=x*16777216+y*65536+z*256+w:=by
 rw [ab7 hx hy,o8 A0 A0 hz,o8 A0 A0 hw];omega
def al9:=vm (S:=aW6) func110 Lp kN (L:=(λi=>if i=6 then (EY prog AT Lp ER 20 2 WV) else Ao i)) (λb hb=>by
 rw [show BC _=[WV] by kernel_rfl] at hb
 simp only [B6,Bv,Bt] at hb;subst hb;exact atQ) (λargs lv h=>by
 refine ⟨?_⟩;unfold aW6 at h;split at h
 ·simp only [canL,canX]
  refine @T.aIA _ _ _ ?_;rw [agT];rename_i d;obtain ⟨hb,rfl⟩:=h;refine ⟨λc=>?_,λc=>?_⟩
  ·have hl:¬(M d)=12:=VZ
   unfold upZ;rw [AE hl,IV hl];rfl
  have hl:M d=12:=VZ
  iterate 12 refine ⟨⟨Ad,A0⟩,?_⟩
  have b:=λi=>aCj hb i
  unfold upZ;rw [AD hl,Ci hl,ab6 (b 0) (b 1) (b 2)<|b 3,aCw<|b 4,aCw<|b 5,ab6 (b 6) (b 7) (b 8)<|b 9,ab7 (b 10)<|b 11];rfl
 ·cases h)
def aVN:aD->T LV
 | [.agg [.v (ag J se),.xl (.int aw) fl]]=> .req (BL fl) (.ok<|.AQ [.xl (.sl<|.int aw)<|FE se fl,By se fl])
 |_=> .no
def aiH:aN:=[iQ]
def akg:=vo (S:=aVN) func109 aiH kN (λargs lv h=>by
 unfold aVN at h;split at h
 ·rename_i se fl
  refine Aq (.req (BL fl)<|.br ((By se fl) !=0) (.ok<|.AQ [.xl (.sl<|.int aw) ([]:aI),(By se fl)])<|.ok<|.AQ [.xl (.sl<|.int aw)<|FE se fl,(0:Y)]) ?_;obtain ⟨h0,rfl⟩:=h;refine ⟨h0,λc=>?_,λc=>?_⟩
  ·have c:By se fl≠0:=A8
   unfold FE;rw [AE c];rfl
  ·have c:By se fl=0:=A8
   rw [c];rfl
 ·cases h)
def aaP {b:aB}:∀(n f:aC),M (He b n f).1<=n
 |0,_=>Au _
 | n+1,f=>by
  simp only [He];split
  ·split
   ·have:=aaP (b:=b) n (f+7+GD b f)
    grind
   ·grind
  ·grind
def aTy {b:aB}(h:BL b):∀(n f:aC),∀d∈(He b n f).1,BL d
 |0,_,d,hd=>Va
 | n+1,f,d,hd=>by
  simp only [He] at hd;split at hd
  ·split at hd
   ·rcases B6.1 hd with rfl|hd
    ·exact λx hx=>h x<|QR<|VA hx
    ·exact aTy h n _ d hd
   ·cases hd
  ·cases hd
def ai4 {se:Y}{fl:aB}(h:BL fl) (hl:M fl<=4096):M (FE se fl)<=4096/\∀d∈FE se fl,BL d:=by
 unfold FE;split
 ·have ha:=eQ fl (Aw fl)
  refine ⟨?_,aTy (λx hx=>?_) _ _⟩
  ·have:=aaP (b:=Bp fl<|Aw fl) (M<|Bp fl<|Aw fl) 5
   unfold F6;omega
  ·unfold Bp at hx
   split at hx
   ·exact h x<|VA hx
   ·exact h x<|QR<|VA hx
 ·grind
def anI {l:aI}(h:∀d∈l,BL d) {i:Y}(h0:0<=i) (h1:i<(M l:Y)):BL (gx (e:=.sl<|.int aw) l i):=by
 grind
structure Nx where
 e:Y
 l:aI
 (n i:Y)
 out:aL
def aHh:=bN f78 0
def aBE (s:Nx):T (Rd Nx):=
 .br (an<|s.i<s.n) (.ix s.i (M s.l)<|.req (BL<|gx (e:=.sl<|.int aw) s.l s.i)<|.br (!(an<|M (gx (e:=.sl<|.int aw) s.l s.i)=12)) (.rl s.out<|.so (.ret) {s with e:=(9:Y)})<|.rb (M s.out) (M<|[upZ<|gx (e:=.sl<|.int aw) s.l s.i]) 40<|.re (M s.out+M ([upZ<|gx (e:=.sl<|.int aw) s.l s.i])) (s.out++([upZ<|gx (e:=.sl<|.int aw) s.l s.i]))<|.nx {s with i:=AA<|s.i+1,out:=s.out++([upZ<|gx (e:=.sl<|.int aw) s.l s.i])}) (.rl s.out<|.so (.exit 0) s)
def mT (s:Nx):Prop:=s.i=0/\s.n<=5000/\s.n=(M s.l:Y)/\(∀d∈s.l,BL d)/\(M s.out:Y)<=s.i
def lF (s:Nx):Prop:=0<=s.i/\s.i<=s.n/\s.n<=5000/\s.n=(M s.l:Y)/\(∀d∈s.l,BL d)/\(M s.out:Y)<=s.i
def vk (s:Nx):aC:=(s.n-s.i).toNat
def aau (x:Ex) (s s':Nx):Prop:=True
def al8:∀s,mT s->lF s:=by
 exact bQ
def axv:Da lF vk aau aBE:=by
 intro s hI;obtain ⟨h0,h1,h2,h3,h4,h5⟩:=hI;refine AH (λc1=>AH (λc2=>trivial) λc2=>?_) λc1=>trivial
 ·have c1:s.i<s.n:=A8
  rw [AI (x:=s.i+1)];exact ⟨⟨A8,A8,h2,h3,h4,A8⟩,by simp only [vk];omega⟩
def RT:AR Nx:=⟨0,50,[2,3,6,28,29,30],[.nl 6 139 AO],λs=>[.v<|.slice aj 0 0,s.e,.os 0 5 0<|M s.out,.xl (.sl<|.int aw) s.l,s.n,s.i],λs=>[bV 139 AO s.out],λv b=>⟨AL v 1,B1 (.sl<|.int aw) v 3,AL v 4,AL v 5,Ab AO b 0⟩,aBE,λs r=> {r with l:=s.l,n:=s.n},λs=>s,λ_ s=>s,[.ret,.exit 0],mT,lF,vk⟩
abbrev qV:=RT.run
abbrev gU:=RT.At
def azW:Rq lF aBE:=by
 intro s hI;refine ⟨λc1=>⟨?_,?_,λc2=>⟨A9,ak⟩,λc2=>⟨?_,?_,ak⟩⟩,λc1=>⟨A9,ak⟩⟩
 all_goals ((obtain ⟨h0,h1,h2,h3,h4,h5⟩:=hI;have c1:s.i<s.n:=A8;have hb:=anI h4 h0 A0;(first|exact hb|omega|(simp only [Bm,C3];omega) |(simp only [BG,Bm,C3,Em]))))
def aUL:aN:=[akg,al9,XC]
def aTe:RT.Ok:={}
def aRy:RT.Pf (aau):=⟨al8,λs h=>rfl,axv,azW⟩
def asa:SA 0 aHh RT:=s1 aTe aRy aUL kN
def asA:Rs mT gU qV (λs:Nx=>(s.out++(s.l.drop s.i.toNat).map Gb,ldB<|s.l.drop s.i.toNat)) (λx s' (v:List Le×Bool)=>(x=.ret/\s'.e=9/\v.2=X)\/(x=.exit 0/\v=(s'.out,U))):=Dp aTe aRy (λs hI=>by
  obtain ⟨h0,h1,h2,h3,h4,h5⟩:=hI;refine AH (λc1=>AH (λc2=>?_) λc2=>?_) λc1=>?_
  ·have c1:s.i<s.n:=A8
   refine .inl ⟨rfl,rfl,?_⟩;simp only [Wr h0 (show s.i<(M s.l:Y) by omega),ldB,J2,yw,CY]
   grind
  ·have c1:s.i<s.n:=A8
   have c2:M (gx (e:=.sl<|.int aw) s.l s.i)=12:=A8
   have hz:upZ (gx (e:=.sl<|.int aw) s.l s.i)=Gb (gx (e:=.sl<|.int aw) s.l s.i):=AD c2
   rw [AI (x:=s.i+1),hz]
   show (_++[_]++_,_)=(_++_,_)
   rw [Wr h0 A0];simp only [ES,Cw,LP,Ek,ldB,J2,c2,Oc,ET]
  ·have c1:s.n<=s.i:=A8
   refine .inr ⟨rfl,?_⟩;rw [FA A0]
   simp [ldB])
def aWB:aD->T LV
 | [.agg [.v (ag J se),.xl (.int aw) fl]]=> .req (BL fl) (.ok<|.AQ [An se fl,Cg se fl])
 |_=> .no
def Qb (se:Y) (fl:aB):Nx:=(⟨0,FE se fl,(M (FE se fl):Y),0,([]:aL)⟩:Nx)
def aAv:=vm (S:=aWB) func78 aUL kN (L:=(λi=>if i=8 then RT.lp else Ao i)) (λb hb=>by
 rw [show BC _=[aHh] by kernel_rfl] at hb
 simp only [B6,Bv,Bt] at hb;subst hb;exact asa) (λargs lv h=>by
 unfold aWB at h;split at h
 ·rename_i se fl
  refine Aq (letI a:=qV<|Qb se fl;letI b:=(a.out.drop 0).take<|M a.out;.br ((se !=512) ||((M fl:Y) !=2048)) (.ok<|.AQ [.xl AO ([]:aL),(1:Y)])<|.req (BL fl)<|.br ((By se fl) !=0) (.ok<|.AQ [.xl AO ([]:aL),(By se fl)])<|.r0 Le<|.req (RT.q<|Qb se fl)<|.br (Bj (gU<|Qb se fl)<|.ret) (.ok<|.AQ [.xl AO ([]:aL),a.e])<|.rz a.out<|.br (!(B2 b)) (.ok<|.AQ [.xl AO ([]:aL),(9:Y)])<|.rz a.out<|.ok<|.AQ [b,(0:Y)]) ?_;obtain ⟨hb,rfl⟩:=h
  have bad:∀e:Y,e≠0->Cg se fl=e->LV.AQ [.xl AO ([]:aL),.v<|ag J e]=LV.AQ [.xl AO<|An se fl,.v<|ag J<|Cg se fl]:=λe h0 h1=>by unfold An;rw [h1,AE h0]
  refine ⟨λc1=>bad 1 Ad (by unfold Cg;exact AD c1),λc1=>⟨hb,λc2=>?_,λc2=>?_⟩⟩
  all_goals have h0:¬((!(se==512) || !((M fl:Y)==2048))=U):=A8
  ·have c2:By se fl≠0:=Dl
   exact bad _ c2 (by unfold Cg;rw [AE h0,AD c2])
  have hk:By se fl=0:=Dl
  have hl:M fl=2048:=by simp at h0;omega
  have hR:FE se fl=(F6 fl).1:=AD hk
  obtain ⟨n1,n2⟩:=ai4 (se:=se) hb A0
  have hV:mT (Qb se fl):=⟨rfl,by show (M (FE se fl):Y)<=5000;omega,rfl,n2,aAH⟩
  have q:(gU (Qb se fl)=.ret/\(qV<|Qb se fl).e=9/\ldB (FE se fl)=X)\/(gU (Qb se fl)=.exit 0/\((FE se fl).map Gb,ldB<|FE se fl)=((qV<|Qb se fl).out,U)):=asA _ hV
  have hk':¬By se fl≠0:=λh=>h hk
  refine ⟨A9,⟨hV,rfl,rfl⟩,λc3=>?_,λc3=>?_⟩
  ·rcases q with ⟨_,q2,q3⟩ |⟨q1,_⟩
   ·rw [q2]
    exact bad 9 Ad (by unfold Cg;rw [AE h0,AE hk',<-hR,AE (by rw [q3];decide)])
   ·rw [Wj c3] at q1;cases q1
  rcases q with ⟨q1,_⟩ |⟨_,q2⟩
  ·rw [q1] at c3;simp [Bj] at c3
  simp only [Az] at q2;rw [<-q2.1,CZ,El];refine ⟨A0,λc4=>?_,λc4=>⟨A0,?_⟩⟩
  ·exact bad 9 Ad (by unfold Cg;rw [AE h0,AE hk',<-hR,AD q2.2,AE aAr])
  ·have hE:Cg se fl=0:=by unfold Cg;rw [AE h0,AE hk',<-hR,AD q2.2,AD aAr]
   unfold An;rw [hE,AD rfl,hR];rfl
 ·cases h)
def aCr {se:Y}{fl:aB}(h:Cg se fl=0):B2 (An se fl)=true:=by
 unfold An;rw [AD h];unfold Cg at h;split at h
 ·cases h
 ·split at h
  ·grind
  ·split at h
   ·split at h
    ·assumption
    ·cases h
   ·cases h
def aW9:aD->T LV
 | [.agg [.v (ag J se),.xl (.int aw) fl]]=> .req (BL fl) (.tu #[Jl se fl,Iw se fl])
 |_=> .no
def aiG:aN:=[aAv]
def alA:=vo (S:=aW9) func80 aiG kN (λargs lv h=>by
 unfold aW9 at h;split at h
 ·rename_i se fl
  refine Aq (letI b:=(M (An se fl):Y);letI c:=Ap (An se fl)<|AA<|b-1;.req (BL fl)<|.br ((Cg se fl) !=0) (.tu #[(0:Y),(Cg se fl)])<|.br (b==0) (.tu #[(1:Y),(0:Y)])<|.ix (AA<|b-1) (M<|An se fl)<|.br (c.1==1000000) (.tu #[(0:Y),(10:Y)])<|.tu #[(AA<|c.1+1),(0:Y)]) ?_;obtain ⟨hb,rfl⟩:=h
  have fin:∀a e:Y,a=Jl se fl->e=Iw se fl->LV.v (.tuple #[ag J a,ag J e])=LV.v (.tuple #[ag J<|Jl se fl,ag J<|Iw se fl]):=λa e h1 h2=>aAi
  refine ⟨hb,λc1=>?_,λc1=>⟨λc2=>?_,λc2=>?_⟩⟩
  ·have c1:Cg se fl≠0:=AX
   refine fin _ _ ?_ ?_<;>simp [Jl,Iw,c1]
  all_goals have c1:Cg se fl=0:=AX
  ·have c2:M (An se fl)=0:=A8
   refine fin _ _ ?_ ?_<;>simp [Jl,Iw,c1,c2]
  ·have c2:¬(M<|An se fl)=0:=A8
   have hv:=GP<|aCr c1
   have hw:AA ((M (An se fl):Y)-1)=(M (An se fl):Y)-1:=AI
   have hn:=Ka.1<|hv.2 _<|Ll (l:=An se fl) (i:=(M (An se fl):Y)-1) A0 A0
   rw [hw];refine ⟨⟨A0,A0⟩,λc3=>?_,λc3=>?_⟩
   ·refine fin _ _ ?_ ?_<;>simp at c3<;>simp [Jl,Iw,c1,c2,c3]
   ·rw [AI]
    refine fin _ _ ?_ ?_<;>simp at c3<;>simp [Jl,Iw,c1,c2,c3]
 ·cases h)
def aLt:aD->T LV
 | [.v (ag J n),.v (ag J a),.v (ag J b)]=> .ok (inB n a b)
 |_=> .no
def anb:aN:=[]
def aRP:=vo (S:=aLt) func132 anb kN (λargs lv h=>by
 unfold aLt at h;split at h
 ·rename_i n a b
  refine Aq (.ok<|.v<|.bool<|(an<|n>=a)&&(an<|n<=b)) ?_;exact h
 ·cases h)
def aWV:aD->T LV
 | [.v (.agg ⟨[ag J k,ag J ph,ag J mx,ag J nd,ag J dl]⟩)]=> .ok (GI (k,ph,mx,nd,dl))
 |_=> .no
def aCk:aN:=[aRP]
def aXL:=vo (S:=aWV) func107 aCk kN (λargs lv h=>by
 unfold aWV at h;split at h
 ·rename_i k ph mx nd dl
  refine Aq (.ok<|.v<|.bool<|(inB k (0:Y) (4:Y))&&((inB ph (1:Y) (7:Y))&&((inB mx (1:Y) (80:Y))&&((inB nd (0:Y) (1000000000:Y))&&((inB dl (0:Y) (20:Y))&&((k !=3) ||(an<|dl>=1))))))) ?_;exact h
 ·cases h)
structure M7 where
 r:aM
 l:aB
 (n i:Y)
def aKb:=bN f131 0
def aER (s:M7):T (Rd M7):=
 .br (an<|s.i<s.n) (.ix s.i (M s.l)<|.br (!(inB (gi s.l s.i) (0:Y) (80:Y))) (.so (.ret) {s with r:=X})<|.nx {s with i:=AA<|s.i+1}) (.so (.exit 0) s)
def Sj (s:M7) (j:Y):aM:=inB (gi s.l j) 0 80
def qC (s:M7):Prop:=s.i=0/\0<=s.n/\s.n<=1000/\s.n=(M s.l:Y)
def dS (s:M7):Prop:=0<=s.i/\s.i<=s.n/\s.n<=1000/\(s.n=(M s.l:Y))/\∀j:aC,(j:Y)<s.i->Sj s j=U
def aCU (s:M7):aC:=(s.n-s.i).toNat
def yr (x:Ex) (s s':M7):Prop:=(x=.exit 0/\∀j:aC,(j:Y)<s'.n->Sj s' j=U)\/(x=.ret/\s'.r=X/\∃j:aC,(j:Y)<s'.n/\Sj s' j=X)
def apb:∀s,qC s->dS s:=by
 exact Jq
def al7:Da dS aCU yr aER:=by
 intro s hI;obtain ⟨h0,h1,h2,h3,h4⟩:=hI;refine AH (λc1=>AH (λc2=>?_) λc2=>?_) λc1=>?_
 ·have c1:s.i<s.n:=AX
  refine .inr ⟨rfl,rfl,s.i.toNat,A8,?_⟩
  have hg:Sj s s.i=false:=by unfold Sj;simp_all
  exact hg
 ·have c1:s.i<s.n:=AX
  have hg:Sj s s.i=true:=by unfold Sj;simp_all
  rw [AI (x:=s.i+1)];refine ⟨⟨A8,A8,h2,h3,λj hj=>?_⟩,by simp only [aCU];omega⟩
  exact LR
 ·exact Sy
def SS:AR M7:=⟨0,32,[2,22,23,24],[],λs=>[s.r,.xl A7 s.l,s.n,s.i],λ_=>[],λv b=>⟨EB v 0,B1 A7 v 1,AL v 2,AL v 3⟩,aER,λs r=> {r with l:=s.l,n:=s.n},λs=>s,λ_ s=>s,[.ret,.exit 0],qC,dS,aCU⟩
abbrev aS8:=SS.run
abbrev aV6:=SS.At
def alV:Rq dS aER:=by
 exact QS
def aa2:SS.Ok:={}
def aaW:SS.Pf (yr):=⟨apb,λs h=>rfl,al7,alV⟩
def azk:SA 0 aKb SS:=s1 aa2 aaW aCk kN
def axu:Fi qC dS yr aV6 aS8:=AR.fin aa2 aaW
def aWA:aD->T LV
 | [.agg [.xl (.int J) pil,.v (ag J tk),.v (ag J got)]]=> .ok (IQ (pil,tk,got))
 |_=> .no
def alB:=vm (S:=aWA) func131 aCk kN (L:=(λi=>if i=4 then SS.lp else Ao i)) (λb hb=>by
 rw [show BC _=[aKb] by kernel_rfl] at hb
 simp only [B6,Bv,Bt] at hb;subst hb;exact azk) (λargs lv h=>by
 unfold aWA at h;split at h
 ·rename_i pil tk got
  refine Aq (letI a:=(M pil:Y);.br ((an<|a>21) ||((!(inB tk (0:Y) (1000000:Y))) ||(!(inB got (0:Y) (2000000000:Y))))) (.ok X)<|.req (SS.q (⟨X,pil,a,0⟩:M7))<|.br (Bj (aV6 (⟨X,pil,a,0⟩:M7))<|.ret) (.ok (aS8 (⟨X,pil,a,0⟩:M7)).r)<|.ok U) ?_;obtain rfl:=h;refine ⟨λc1=>B0 (λz=>LV.v<|.bool z) ?_,λc1=>?_⟩
  ·rw [T1,IX]
   intro hm
   have:=fX.1 hm
   simp [inB] at c1
   simp only at this;omega
  ·have hE:qC ⟨X,pil,(M pil:Y),0⟩:=by simp [inB] at c1;exact ⟨rfl,AJ,A8,rfl⟩
   obtain ⟨s',hI,hq⟩:=axu _ hE
   have hm:IQ (pil,tk,got)=pil.all (λp=>inB p 0 80):=by
    simp [inB] at c1
    have h21:M pil<=21:=A0
    simp [IQ,inB,h21,c1]
   rw [hm,aW4];refine ⟨⟨hE,rfl,rfl⟩,?_⟩;rcases hq with ⟨q1,q2⟩ |⟨q1,q2,j,q3,q4⟩<;>rw [q1]
   ·rw [show D5 (M pil) (λj=>inB (gi pil j) 0 80)=U from DQ.2 q2]
    exact ⟨λh=>As,λ_=>rfl⟩
   ·rw [q2,show D5 (M pil) (λj=>inB (gi pil j) 0 80)=X from Nd j q3 q4]
    exact ⟨λ_=>rfl,λh=>As⟩
 ·cases h)
structure OK where
 p:PK
 ev:EW
def UO (s:OK):aD:=[.own 16 0]
def Ys (s:OK):aG:=[AP,AP,zB,AP,bV 42 Ae s.p.cs,bV 139 AO s.p.ls,bV 5 (.int aw) s.p.fl,bV 143 Ag s.p.ra,bV 95 B4 s.p.st,bV 75 AO s.p.ca,bV 148 BB s.p.mi,bV 98 BS s.p.me,bV 77 Ai s.p.dm,bV 154 BM s.p.lk,bV 3 A7 s.p.dr,bV 3 A7 s.p.tg,⟨[.os 4 11 0<|M s.p.cs,.xl .str s.p.os,.xl Ak s.p.ks,.xl Af s.p.gs,.xl Al s.p.bs,.v<|ag J s.p.tk,.v<|.bool s.p.up,.os 5 5 0<|M s.p.ls,.v<|ag J s.p.se,.os 6 1 0<|M s.p.fl,.os 7 2 0<|M s.p.ra,.v<|ag J s.p.nx,.os 8 4 0<|M s.p.st,.os 9 5 0<|M s.p.ca,.os 10 3 0<|M s.p.mi,.os 11 3 0<|M s.p.me,.os 12 4 0<|M s.p.dm,.os 13 6 0<|M s.p.lk,.os 14 1 0<|M s.p.dr,.os 15 1 0<|M s.p.tg,.v<|ag J s.ev.ek,.v<|ag J s.ev.en,.v<|ag J s.ev.em,.v<|ag J s.ev.c1,.v<|ag J s.ev.c2,.v<|ag J s.ev.c3,.v<|ag J s.ev.c4,.v<|ag J s.ev.c5,.v<|.bool s.ev.d1,.v<|ag J s.ev.d2,.v<|ag J s.ev.d3,.v<|ag J s.ev.d4,.v<|.slice aj 0 0],107,.cl,X⟩]
structure Ye where
 res:Y
 p:PK
 ev:EW
def abR (s:Ye):LV:=.v<|ag J s.res
def acr (s:Ye):aG:=[AP,AP,zB,AP,bV 42 Ae s.p.cs,AP,AP,AP,bV 95 B4 s.p.st,bV 75 AO s.p.ca,bV 148 BB s.p.mi,bV 98 BS s.p.me,bV 77 Ai s.p.dm,bV 154 BM s.p.lk,bV 3 A7 s.p.dr,bV 3 A7 s.p.tg,⟨[.os 4 11 0<|M s.p.cs,.xl .str s.p.os,.xl Ak s.p.ks,.xl Af s.p.gs,.xl Al s.p.bs,.v<|ag J s.p.tk,.v<|.bool s.p.up,.xl AO s.p.ls,.v<|ag J s.p.se,.xl (.int aw) s.p.fl,.xl Ag s.p.ra,.v<|ag J s.p.nx,.os 8 4 0<|M s.p.st,.os 9 5 0<|M s.p.ca,.os 10 3 0<|M s.p.mi,.os 11 3 0<|M s.p.me,.os 12 4 0<|M s.p.dm,.os 13 6 0<|M s.p.lk,.os 14 1 0<|M s.p.dr,.os 15 1 0<|M s.p.tg,.v<|ag J s.ev.ek,.v<|ag J s.ev.en,.v<|ag J s.ev.em,.v<|ag J s.ev.c1,.v<|ag J s.ev.c2,.v<|ag J s.ev.c3,.v<|ag J s.ev.c4,.v<|ag J s.ev.c5,.v<|.bool s.ev.d1,.v<|ag J s.ev.d2,.v<|ag J s.ev.d3,.v<|ag J s.ev.d4,.v<|.slice aj 0 0],107,.cl,X⟩]
def k6 (s:OK):T Ye:=letI b:=(M s.p.gs:Y);letI c:=s.p.fl.drop 0;letI d:=M s.p.fl;letI e:=(aq b.toNat ((0:Y),(0:Y)));letI f:=s.p.ls.drop 0;letI g:=M s.p.ls;letI h:=s.p.ra.drop 0;letI i:=M s.p.ra;letI a:=c.take d;letI j:=DT (An s.p.se a) s.p.tk;.br s.p.up (.rz s.p.ls<|.rz s.p.fl<|.rz s.p.ra<|.rl s.p.cs<|.pb s.p<|.ok<|⟨6,{s.p with ls:=f.take g,fl:=c.take d,ra:=h.take i},s.ev⟩)<|.rz s.p.fl<|.req (BL a)<|.br ((Cg s.p.se a) !=0) (.rz s.p.ls<|.rz s.p.fl<|.rz s.p.ra<|.rl s.p.cs<|.pb s.p<|.ok<|⟨Cg s.p.se a,{s.p with ls:=f.take g,fl:=c.take d,ra:=h.take i},s.ev⟩)<|.br (j !=0) (.rz s.p.ls<|.rz s.p.fl<|.rz s.p.ra<|.rl s.p.cs<|.pb s.p<|.ok<|⟨j,{s.p with ls:=f.take g,fl:=c.take d,ra:=h.take i},s.ev⟩)<|.rz s.p.fl<|.req (BL a)<|.br ((Iw s.p.se a) !=0) (.rz s.p.ls<|.rz s.p.fl<|.rz s.p.ra<|.rl s.p.cs<|.pb s.p<|.ok<|⟨Iw s.p.se a,{s.p with ls:=f.take g,fl:=c.take d,ra:=h.take i},s.ev⟩)<|.rm 16 b<|.rz s.p.fl<|.req (0+b.toNat<=M e)<|.rl s.p.cs<|.pb s.p<|.ok<|⟨0,{s.p with up:=U,ls:=BX (An s.p.se a) s.p.tk,fl:=c.take d,ra:=(e.drop 0).take b.toNat,nx:=Jl s.p.se a},s.ev⟩
def aEC (s:OK):Prop:=BL s.p.fl/\M s.p.gs<=1000
def R9 (s:OK):Ye:=⟨PK.Fv s.p,Jk (PK.Fv s.p) (PK.UK s.p) s.p,s.ev⟩
def aDw:DA OK Ye:=⟨UO,Ys,λv b=>⟨rF b,rG b⟩,aEC,[0,1,3],[.pc 16 7 AO,.kb 5,.pc 16 9<|.int aw,.kb 6,.pc 16 10 Ag,.kb 7],abR,acr,R9⟩
abbrev ajv (s:OK):Prop:=aEC s/\UO s=UO s/\Ys s=Ys s
def iy:aN:=[aAv,iR,alA]
def aWc:DZ:=DG 76 18 2 (Km.lp)<|DG 23 0 9 (HS.lp)<|EM prog AT (iy) 20 2
def arx:EZ prog AT aWc:=DR func76 rfl AV KW<|DR func23 rfl AV Cx<|I9<|gk iy
def agh (s:OK):((Ep prog AT iy aWc ER).k 30 (UO s)<|Ys s).bind (λq=>GW (M<|Ys s) [0] [.pc 16 7 AO,.kb 5,.pc 16 9<|.int aw,.kb 6,.pc 16 10 Ag,.kb 7] .normal (q.1::UO s) q.2)=(k6 s).mp (λs2=>⟨.normal,M (UO s)+1,[abR s2],acr s2,U⟩):=AV
def ayH (s:OK) (hE:aEC s):(k6 s).all (λq=>q=R9 s):=by
 obtain ⟨h1,h2⟩:=hE;unfold k6;simp only [Tc];refine ⟨λc=>?_,λc=>?_⟩
 ·have he:s.p.Fv=6:=by unfold PK.Fv;rw [AD c]
  repeat (refine ⟨AJ,?_⟩)
  show _=_
  unfold R9;rw [Jw MM];rw [he]
 have hu:¬s.p.up=true:=oZ
 repeat (refine ⟨A0,?_⟩)
 refine ⟨λc1=>?_,λc1=>?_⟩
 ·have c1:Cg s.p.se s.p.fl≠0:=EH.1 c1
  have he:s.p.Fv=Cg s.p.se s.p.fl:=by unfold PK.Fv;rw [AE hu,AD c1]
  repeat (refine ⟨AJ,?_⟩)
  show _=_
  unfold R9;rw [Jw aAN];rw [he]
 have c1:¬Cg s.p.se s.p.fl≠0:=λh=>aQW
 refine ⟨λc2=>?_,λc2=>?_⟩
 ·have c2:DT (An s.p.se s.p.fl) s.p.tk≠0:=EH.1 c2
  have he:s.p.Fv=DT (An s.p.se s.p.fl) s.p.tk:=by unfold PK.Fv;rw [AE hu,AE c1,AD c2]
  repeat (refine ⟨AJ,?_⟩)
  show _=_
  unfold R9;rw [Jw aAN];rw [he]
 have c2:¬DT (An s.p.se s.p.fl) s.p.tk≠0:=λh=>by rw [EH.2 h] at c2;cases c2
 repeat (refine ⟨A0,?_⟩)
 refine ⟨λc3=>?_,λc3=>?_⟩
 ·have c3:Iw s.p.se s.p.fl≠0:=EH.1 c3
  have he:s.p.Fv=Iw s.p.se s.p.fl:=by unfold PK.Fv;rw [AE hu,AE c1,AE c2]
  repeat (refine ⟨AJ,?_⟩)
  show _=_
  unfold R9;rw [Jw aAN];rw [he]
 have c3:Iw s.p.se s.p.fl=0:=mz λh=>by rw [EH.2 h] at c3;cases c3
 have he:s.p.Fv=0:=by unfold PK.Fv;rw [AE hu,AE c1,AE c2,c3]
 rw [show (aq (M s.p.gs:Y).toNat ((0:Y),(0:Y))).drop 0=aq (M s.p.gs) (0,0) by rw [C2];rfl,C2,Dj (by rw [CV];exact Au _)]
 repeat (refine ⟨A8,?_⟩)
 show _=_
 unfold R9;rw [Lo he];rw [he];rfl
def aj6:Dn prog AT 30 aDw.m:=DA.sound (D:=aDw) (t:=k6) (gk iy) arx Qe agh λs hE=>⟨ayH s hE⟩
def SI (c:Ca):Y:=if GI c=U then 0 else 1
def aLY:aD->T LV
 | [.v (.agg ⟨[ag J x1,ag J x2,ag J x3,ag J x4,ag J x5]⟩)]=> .ok (.AQ [.agg [.xl A7 ([]:aB),(0:Y),(0:Y)],SI (x1,x2,x3,x4,x5)])
 |_=> .no
def ait:aN:=[aXL]
def ayw:=vo (S:=aLY) func72 ait kN (λargs lv h=>by
 unfold aLY at h;split at h
 ·rename_i x1 x2 x3 x4 x5
  refine Aq (.br (!(GI (x1,x2,x3,x4,x5))) (.ok<|.AQ [.agg [.xl A7 ([]:aB),(0:Y),(0:Y)],(1:Y)])<|.ok<|.AQ [.agg [.xl A7 ([]:aB),(0:Y),(0:Y)],(0:Y)]) ?_;obtain rfl:=h;unfold SI;refine ⟨λc=>?_,λc=>?_⟩
  ·rw [AE A8]
   rfl
  ·rw [AD A8]
   rfl
 ·cases h)
structure Ku where
 (i k0 k1 k2:Y)
 p:PK
 ev:EW
def Uz (s:Ku):aD:=[.own 16 0,s.i,.v<|.agg #[s.k0,s.k1,s.k2]]
def Zl (s:Ku):aG:=[AP,AP,zB,AP,bV 42 Ae s.p.cs,bV 139 AO s.p.ls,bV 5 (.int aw) s.p.fl,bV 143 Ag s.p.ra,bV 95 B4 s.p.st,bV 75 AO s.p.ca,bV 148 BB s.p.mi,bV 98 BS s.p.me,bV 77 Ai s.p.dm,bV 154 BM s.p.lk,bV 3 A7 s.p.dr,bV 3 A7 s.p.tg,⟨[.os 4 11 0<|M s.p.cs,.xl .str s.p.os,.xl Ak s.p.ks,.xl Af s.p.gs,.xl Al s.p.bs,.v<|ag J s.p.tk,.v<|.bool s.p.up,.os 5 5 0<|M s.p.ls,.v<|ag J s.p.se,.os 6 1 0<|M s.p.fl,.os 7 2 0<|M s.p.ra,.v<|ag J s.p.nx,.os 8 4 0<|M s.p.st,.os 9 5 0<|M s.p.ca,.os 10 3 0<|M s.p.mi,.os 11 3 0<|M s.p.me,.os 12 4 0<|M s.p.dm,.os 13 6 0<|M s.p.lk,.os 14 1 0<|M s.p.dr,.os 15 1 0<|M s.p.tg,.v<|ag J s.ev.ek,.v<|ag J s.ev.en,.v<|ag J s.ev.em,.v<|ag J s.ev.c1,.v<|ag J s.ev.c2,.v<|ag J s.ev.c3,.v<|ag J s.ev.c4,.v<|ag J s.ev.c5,.v<|.bool s.ev.d1,.v<|ag J s.ev.d2,.v<|ag J s.ev.d3,.v<|ag J s.ev.d4,.v<|.slice aj 0 0],107,.cl,X⟩,AP,AP]
structure Ym where
 res:Y
 p:PK
 ev:EW
def abf (s:Ym):LV:=.v<|ag J s.res
def acJ (s:Ym):aG:=[AP,AP,zB,AP,bV 42 Ae s.p.cs,bV 139 AO s.p.ls,bV 5 (.int aw) s.p.fl,bV 143 Ag s.p.ra,bV 95 B4 s.p.st,bV 75 AO s.p.ca,bV 148 BB s.p.mi,bV 98 BS s.p.me,bV 77 Ai s.p.dm,bV 154 BM s.p.lk,bV 3 A7 s.p.dr,bV 3 A7 s.p.tg,⟨[.os 4 11 0<|M s.p.cs,.xl .str s.p.os,.xl Ak s.p.ks,.xl Af s.p.gs,.xl Al s.p.bs,.v<|ag J s.p.tk,.v<|.bool s.p.up,.os 5 5 0<|M s.p.ls,.v<|ag J s.p.se,.os 6 1 0<|M s.p.fl,.os 7 2 0<|M s.p.ra,.v<|ag J s.p.nx,.os 8 4 0<|M s.p.st,.os 9 5 0<|M s.p.ca,.os 10 3 0<|M s.p.mi,.os 11 3 0<|M s.p.me,.os 12 4 0<|M s.p.dm,.os 13 6 0<|M s.p.lk,.os 14 1 0<|M s.p.dr,.os 15 1 0<|M s.p.tg,.v<|ag J s.ev.ek,.v<|ag J s.ev.en,.v<|ag J s.ev.em,.v<|ag J s.ev.c1,.v<|ag J s.ev.c2,.v<|ag J s.ev.c3,.v<|ag J s.ev.c4,.v<|ag J s.ev.c5,.v<|.bool s.ev.d1,.v<|ag J s.ev.d2,.v<|ag J s.ev.d3,.v<|ag J s.ev.d4,.v<|.slice aj 0 0],107,.cl,X⟩,AP,AP]
def aBv (s:Ku):T Ym:=letI c:=s.p.st.getD s.i.toNat<|Ty.dflt B4;letI d:=M s.p.st;letI a:=sE (AG s.p.gs s.i) c s.k0 s.k1 s.k2;letI b:=sN (AG s.p.gs s.i) c s.k0 s.k1 s.k2;.ix s.i (M s.p.gs)<|.ik s.i d<|.br (a==0) (.ik s.i d<|.pa s.p<|.re d (s.p.st.set s.i.toNat b)<|.rl s.p.ca<|.rl s.p.mi<|.rl s.p.me<|.rl s.p.dm<|.rl s.p.lk<|.rl s.p.dr<|.rl s.p.tg<|.ok<|⟨a,{s.p with st:=s.p.st.set s.i.toNat b},s.ev⟩)<|.pc s.p<|.ok<|⟨a,s.p,s.ev⟩
def aEK (s:Ku):Prop:=0<=s.i/\s.i<(M s.p.gs:Y)/\M s.p.st=M s.p.gs
def kW (s:Ku):Ym:=⟨sE (AG s.p.gs s.i) (BJ s.p.st s.i) s.k0 s.k1 s.k2,{s.p with st:=CX s.p.gs s.p.st s.i s.k0 s.k1 s.k2},s.ev⟩
def aE3:DA Ku Ym:=⟨Uz,Zl,λv b=>⟨AL v 1,gI<|EF (v.getD 2 .junk) 0,gI<|EF (v.getD 2 .junk) 1,gI<|EF (v.getD 2 .junk) 2,rF b,rG b⟩,aEK,[0,1,3,17,18],[],abf,acJ,kW⟩
abbrev jJ (s:Ku):Prop:=aEK s/\Uz s=Uz s/\Zl s=Zl s
def iw:aN:=[RC]
def aWk:DZ:=DG 76 18 2 (Km.lp)<|DG 23 0 9 (HS.lp)<|EM prog AT (iw) 20 2
def aro:EZ prog AT aWk:=DR func76 rfl AV KW<|DR func23 rfl AV Cx<|I9<|gk iw
def agE (s:Ku):((Ep prog AT iw aWk ER).k 75 (Uz s)<|Zl s).bind (λq=>GW (M<|Zl s) [0] [] .normal (q.1::Uz s) q.2)=(aBv s).mp (λs2=>⟨.normal,M (Uz s)+1,[abf s2],acJ s2,U⟩):=AV
def azg (s:Ku) (hE:aEK s):(aBv s).all (λq=>q=kW s):=by
 obtain ⟨h0,h1,h2⟩:=hE;refine ⟨A0,A0,A0,λc=>?_,λc=>?_⟩
 ·have c:=eq_of_beq c
  have hg:CX s.p.gs s.p.st s.i s.k0 s.k1 s.k2=_:=AD c
  repeat (refine ⟨A8,?_⟩)
  unfold kW;rw [hg];rfl
 ·have c:=CY.1 c
  have hg:CX s.p.gs s.p.st s.i s.k0 s.k1 s.k2=s.p.st:=AE c
  repeat (refine ⟨AJ,?_⟩)
  unfold kW;rw [hg];rfl
def ajD:Dn prog AT 75 aE3.m:=DA.sound (D:=aE3) (t:=aBv) (gk iw) aro Qe agE λs hE=>⟨azg s hE⟩
structure OM where
 p:PK
 ev:EW
def UP (s:OM):aD:=[.own 16 0]
def Yt (s:OM):aG:=[AP,AP,zB,AP,bV 42 Ae s.p.cs,bV 139 AO s.p.ls,bV 5 (.int aw) s.p.fl,bV 143 Ag s.p.ra,bV 95 B4 s.p.st,bV 75 AO s.p.ca,bV 148 BB s.p.mi,bV 98 BS s.p.me,bV 77 Ai s.p.dm,bV 154 BM s.p.lk,bV 3 A7 s.p.dr,bV 3 A7 s.p.tg,⟨[.os 4 11 0<|M s.p.cs,.xl .str s.p.os,.xl Ak s.p.ks,.xl Af s.p.gs,.xl Al s.p.bs,.v<|ag J s.p.tk,.v<|.bool s.p.up,.os 5 5 0<|M s.p.ls,.v<|ag J s.p.se,.os 6 1 0<|M s.p.fl,.os 7 2 0<|M s.p.ra,.v<|ag J s.p.nx,.os 8 4 0<|M s.p.st,.os 9 5 0<|M s.p.ca,.os 10 3 0<|M s.p.mi,.os 11 3 0<|M s.p.me,.os 12 4 0<|M s.p.dm,.os 13 6 0<|M s.p.lk,.os 14 1 0<|M s.p.dr,.os 15 1 0<|M s.p.tg,.v<|ag J s.ev.ek,.v<|ag J s.ev.en,.v<|ag J s.ev.em,.v<|ag J s.ev.c1,.v<|ag J s.ev.c2,.v<|ag J s.ev.c3,.v<|ag J s.ev.c4,.v<|ag J s.ev.c5,.v<|.bool s.ev.d1,.v<|ag J s.ev.d2,.v<|ag J s.ev.d3,.v<|ag J s.ev.d4,.v<|.slice aj 0 0],107,.cl,X⟩]
structure Yf where
 res:Y
 p:PK
 ev:EW
def abS (s:Yf):LV:=.v<|ag J s.res
def acu (s:Yf):aG:=[AP,AP,zB,AP,bV 42 Ae s.p.cs,bV 139 AO s.p.ls,bV 5 (.int aw) s.p.fl,bV 143 Ag s.p.ra,bV 95 B4 s.p.st,bV 75 AO s.p.ca,bV 148 BB s.p.mi,bV 98 BS s.p.me,bV 77 Ai s.p.dm,bV 154 BM s.p.lk,bV 3 A7 s.p.dr,bV 3 A7 s.p.tg,⟨[.os 4 11 0<|M s.p.cs,.xl .str s.p.os,.xl Ak s.p.ks,.xl Af s.p.gs,.xl Al s.p.bs,.v<|ag J s.p.tk,.v<|.bool s.p.up,.os 5 5 0<|M s.p.ls,.v<|ag J s.p.se,.os 6 1 0<|M s.p.fl,.os 7 2 0<|M s.p.ra,.v<|ag J s.p.nx,.os 8 4 0<|M s.p.st,.os 9 5 0<|M s.p.ca,.os 10 3 0<|M s.p.mi,.os 11 3 0<|M s.p.me,.os 12 4 0<|M s.p.dm,.os 13 6 0<|M s.p.lk,.os 14 1 0<|M s.p.dr,.os 15 1 0<|M s.p.tg,.v<|ag J s.ev.ek,.v<|ag J s.ev.en,.v<|ag J s.ev.em,.v<|ag J s.ev.c1,.v<|ag J s.ev.c2,.v<|ag J s.ev.c3,.v<|ag J s.ev.c4,.v<|ag J s.ev.c5,.v<|.bool s.ev.d1,.v<|ag J s.ev.d2,.v<|ag J s.ev.d3,.v<|ag J s.ev.d4,.v<|.slice aj 0 0],107,.cl,X⟩]
def k7 (s:OM):T Yf:=letI c:=(s.p.mi.set s.ev.en.toNat (([]:aB),((0:Y),(0:Y))));letI f:=(CX s.p.gs s.p.st s.ev.en (1:Y) (0:Y) (0:Y));letI g:=(s.ev.c1,(s.ev.c2,(s.ev.c3,(s.ev.c4,s.ev.c5))));letI i:=(s.ev.d1,(s.ev.d2,(s.ev.d3,s.ev.d4)));letI j:=M s.p.ca;letI a:=s.p.ca.set s.ev.en.toNat g;letI b:=s.p.dm.set s.ev.en.toNat i;letI d:=(CX s.p.gs f s.ev.en (3:Y) (0:Y) (0:Y));letI e:=(CX s.p.gs d s.ev.en (4:Y) (1:Y) (0:Y));letI h:=(CX s.p.gs e s.ev.en (5:Y) (0:Y) (0:Y));.br (!(inB s.ev.en (0:Y)<|AA<|(M s.p.gs:Y)-1)) (.pc s.p<|.ok<|⟨1,s.p,s.ev⟩)<|.br ((SI (s.ev.c1,s.ev.c2,s.ev.c3,s.ev.c4,s.ev.c5)) !=0) (.pc s.p<|.ok<|⟨1,s.p,s.ev⟩)<|.br (!((inB s.ev.d2 (0:Y) (1000000000:Y))&&((inB s.ev.d3 (0:Y) (1000000:Y))&&(inB s.ev.d4 (1:Y) (9:Y))))) (.pc s.p<|.ok<|⟨1,s.p,s.ev⟩)<|.ik s.ev.en j<|.br ((s.p.ca.getD s.ev.en.toNat<|Ty.dflt AO).2.2.1 !=0) (.pc s.p<|.ok<|⟨6,s.p,s.ev⟩)<|.ik s.ev.en (M s.p.st)<|.br ((s.p.st.getD s.ev.en.toNat<|Ty.dflt B4).1 !=0) (.pc s.p<|.ok<|⟨6,s.p,s.ev⟩)<|.ik s.ev.en j<|.ik s.ev.en (M s.p.mi)<|.ik s.ev.en (M s.p.dm)<|.pa s.p<|.rl s.p.st<|.re j a<|.re (M s.p.mi) c<|.rl s.p.me<|.re (M s.p.dm) b<|.rl s.p.lk<|.rl s.p.dr<|.rl s.p.tg<|.req (jJ (⟨s.ev.en,1,0,0,{s.p with ca:=s.p.ca.set s.ev.en.toNat g,mi:=s.p.mi.set s.ev.en.toNat (([]:aB),((0:Y),(0:Y))),dm:=s.p.dm.set s.ev.en.toNat i},s.ev⟩:Ku))<|.pa s.p<|.rl f<|.rl a<|.rl c<|.rl s.p.me<|.rl b<|.rl s.p.lk<|.rl s.p.dr<|.rl s.p.tg<|.req (jJ (⟨s.ev.en,3,0,0,{s.p with st:=f,ca:=a,mi:=c,dm:=b},s.ev⟩:Ku))<|.pa s.p<|.rl d<|.rl a<|.rl c<|.rl s.p.me<|.rl b<|.rl s.p.lk<|.rl s.p.dr<|.rl s.p.tg<|.req (jJ (⟨s.ev.en,4,1,0,{s.p with st:=d,ca:=a,mi:=c,dm:=b},s.ev⟩:Ku))<|.pa s.p<|.rl e<|.rl a<|.rl c<|.rl s.p.me<|.rl b<|.rl s.p.lk<|.rl s.p.dr<|.rl s.p.tg<|.req (jJ (⟨s.ev.en,5,0,0,{s.p with st:=e,ca:=a,mi:=c,dm:=b},s.ev⟩:Ku))<|.pa s.p<|.rl h<|.rl a<|.rl c<|.rl s.p.me<|.rl b<|.rl s.p.lk<|.rl s.p.dr<|.rl s.p.tg<|.ok<|⟨0,{s.p with st:=h,ca:=a,mi:=c,dm:=b},s.ev⟩
def aRr {c:Ca}:SI c=0↔GI c=true:=by
 unfold SI
 grind
def aED (s:OM):Prop:=M s.p.st=M s.p.gs/\M s.p.gs<=1000/\M s.p.ca=M s.p.gs/\M s.p.mi=M s.p.gs/\M s.p.dm=M s.p.gs
def Q3 (s:OM):Yf:=⟨PK.GR s.p s.ev.en (EW.c s.ev)<|EW.d s.ev,Jk (PK.GR s.p s.ev.en (EW.c s.ev)<|EW.d s.ev) (PK.Nr s.p s.ev.en (EW.c s.ev)<|EW.d s.ev) s.p,s.ev⟩
def aDx:DA OM Yf:=⟨UP,Yt,λv b=>⟨rF b,rG b⟩,aED,[0,1,3],[],abS,acu,Q3⟩
abbrev ajw (s:OM):Prop:=aED s/\UP s=UP s/\Yt s=Yt s
def X6:aN:=[UG,ayw]
def aUQ:Ax:=IT X6 (la 2 func76 KW<|la 9 func23 Cx<|l0 X6) [⟨75,aE3.m,ajD⟩]
def aWd:DZ:=DG 76 18 2 (Km.lp)<|DG 23 0 9 (HS.lp)<|EM prog AT X6 20 2
def arz:EZ prog AT aWd:=DR func76 rfl AV KW<|DR func23 rfl AV Cx<|I9<|gk X6
def agi (s:OM):((Ep prog AT X6 aWd aUQ).k 26 (UP s)<|Yt s).bind (λq=>GW (M<|Yt s) [0] [] .normal (q.1::UP s) q.2)=(k7 s).mp (λs2=>⟨.normal,M (UP s)+1,[abS s2],acu s2,U⟩):=AV
def ayI (s:OM) (hE:aED s):(k7 s).all (λq=>q=Q3 s):=by
 obtain ⟨h1,h2,h3,h4,h5⟩:=hE;unfold k7;rw [fz h2];refine ⟨λc=>?_,λc=>?_⟩
 ·have c:s.p.isC s.ev.en=false:=QZ
  have he:s.p.GR s.ev.en s.ev.c s.ev.d=1:=AD c
  repeat (refine ⟨ML,?_⟩)
  show _=_
  unfold Q3;rw [Jw MM];rw [he]
 have c:s.p.isC s.ev.en=true:=QZ
 have ci:=B8.1 c
 have ci2:s.ev.en<(M s.p.gs:Y):=A0
 have hc:¬s.p.isC s.ev.en=false:=oZ
 have bad:(!GI s.ev.c || !HK s.ev.d)=U->s.p.GR s.ev.en s.ev.c s.ev.d=1:=λh=>by unfold PK.GR;rw [AE hc,AD h]
 refine ⟨λc1=>?_,λc1=>⟨λc2=>?_,λc2=>?_⟩⟩
 ·have c1:¬SI s.ev.c=0:=EH.1 c1
  have c1:GI s.ev.c=false:=by rw [aRr] at c1;simpa using c1
  have he:=bad (by rw [c1];rfl)
  repeat (refine ⟨ML,?_⟩)
  show _=_
  unfold Q3;rw [Jw MM];rw [he]
 ·have c2:(!HK s.ev.d)=true:=c2
  have he:=bad<|by rw [c2,Ob]
  repeat (refine ⟨ML,?_⟩)
  show _=_
  unfold Q3;rw [Jw MM];rw [he]
 have c1:GI s.ev.c=true:=aRr.1 (mz λh=>by rw [show (SI (s.ev.c1,s.ev.c2,s.ev.c3,s.ev.c4,s.ev.c5) !=0)=U from EH.2 h] at c1;cases c1)
 have c2:(!HK s.ev.d)=false:=c2
 have hb:¬(!GI s.ev.c || !HK s.ev.d)=true:=by rw [c1,c2];decide
 have six:((Be s.p.ca s.ev.en).2.2.1 !=0 ||(BJ s.p.st s.ev.en).1 !=0)=U->s.p.GR s.ev.en s.ev.c s.ev.d=6:=λh=>by unfold PK.GR;rw [AE hc,AE hb,AD h]
 repeat (refine ⟨ML,?_⟩)
 refine ⟨λc3=>?_,λc3=>?_⟩
 ·have c3:((Be s.p.ca s.ev.en).2.2.1 !=0)=true:=c3
  have he:=six (by rw [c3];rfl)
  repeat (refine ⟨ML,?_⟩)
  show _=_
  unfold Q3;rw [Jw MM];rw [he]
 repeat (refine ⟨ML,?_⟩)
 refine ⟨λc4=>?_,λc4=>?_⟩
 ·have c4:((BJ s.p.st s.ev.en).1 !=0)=true:=c4
  have he:=six<|by rw [c4,Ob]
  repeat (refine ⟨ML,?_⟩)
  show _=_
  unfold Q3;rw [Jw MM];rw [he]
 have c3:((Be s.p.ca s.ev.en).2.2.1 !=0)=false:=c3
 have c4:((BJ s.p.st s.ev.en).1 !=0)=false:=c4
 have he:s.p.GR s.ev.en s.ev.c s.ev.d=0:=by unfold PK.GR;rw [AE hc,AE hb,c3,c4];rfl
 have hg:∀(l:bf) (k n m:Y),M l=M s.p.gs->M (CX s.p.gs l s.ev.en k n m)=M s.p.gs:=λl k n m h=>by rw [JG];exact h
 repeat (refine ⟨ML,?_⟩)
 refine ⟨⟨⟨ci.1,ci2,h1⟩,rfl,rfl⟩,?_⟩
 repeat (refine ⟨ML,?_⟩)
 refine ⟨⟨⟨ci.1,ci2,hg _ _ _ _ h1⟩,rfl,rfl⟩,?_⟩
 repeat (refine ⟨ML,?_⟩)
 refine ⟨⟨⟨ci.1,ci2,hg _ _ _ _<|hg _ _ _ _ h1⟩,rfl,rfl⟩,?_⟩
 repeat (refine ⟨ML,?_⟩)
 refine ⟨⟨⟨ci.1,ci2,hg _ _ _ _<|hg _ _ _ _<|hg _ _ _ _ h1⟩,rfl,rfl⟩,?_⟩
 repeat (refine ⟨AJ,?_⟩)
 show _=_
 unfold Q3;rw [Lo he];rw [he];rfl
def aj7:Dn prog AT 26 aDx.m:=DA.sound (D:=aDx) (t:=k7) (gk X6) arz aUQ.h agi λs hE=>⟨ayI s hE⟩
structure Pa where
 (n i:Y)
 p:PK
 ev:EW
 Bg:aE
 C9:aP
 BP:aF
 CA:aQ
 o:aJ
def aCA (s:Pa):T (Rd Pa):=letI b:=s.o.getD s.i.toNat<|Ty.dflt Ae;letI a:=(s.o.set s.i.toNat (b.1,(b.2.1,((s.p.tg.getD s.i.toNat<|Ty.dflt A7),b.2.2.2))));.br (an<|s.i<s.n) (.ik s.i (M s.p.tg)<|.ik s.i (M s.o)<|.rl s.p.tg<|.pc s.p<|.re (M s.o) a<|.nx {s with i:=AA<|s.i+1,o:=a})<|.rl s.p.tg<|.pc s.p<|.rl s.o<|.so (.exit 0) s
def ov (s:Pa):Prop:=s.i=0/\s.n=(M s.p.tg:Y)/\M s.p.tg=M s.p.cs/\s.n<=1000/\s.o=E6 s.p.cs s.p.tg s.i.toNat
def Zd (s:Pa):Prop:=(0<=s.i/\s.i<=s.n)/\s.n=(M s.p.tg:Y)/\M s.p.tg=M s.p.cs/\s.n<=1000/\s.o=E6 s.p.cs s.p.tg s.i.toNat
def wU (s:Pa):aC:=(s.n-s.i).toNat
def aDo (x:Ex) (s s':Pa):Prop:=x=.exit 0/\s'.o=E6 s'.p.cs s'.p.tg (M s'.p.tg)
def aos:∀s,ov s->Zd s:=by
 exact aOW
def ajp:Da Zd wU aDo aCA:=by
 intro s hI;obtain ⟨⟨h0,h1⟩,h2,h3,h4,h5⟩:=hI
 have hl:M s.o=M s.p.cs:=oN
 refine AH (λc1=>?_) λc1=>?_
 ·have c1:s.i<s.n:=A8
  rw [AI (x:=s.i+1)];refine ⟨⟨⟨A8,A8⟩,h2,h3,h4,?_⟩,by simp only [wU];omega⟩
  exact aNZ
 ·have c1:s.n<=s.i:=A8
  refine ⟨rfl,?_⟩
  grind
def Uh:AR Pa:=⟨17,34,[2,3,19,20,21],[],λs=>[.own 17 0,.own 18 0,.os 15 1 0<|M s.p.tg,s.n,s.i],λs=>[AP,AP,zB,AP,bV 42 Ae s.p.cs,bV 139 AO s.p.ls,bV 5 (.int aw) s.p.fl,bV 143 Ag s.p.ra,bV 95 B4 s.p.st,bV 75 AO s.p.ca,bV 148 BB s.p.mi,bV 98 BS s.p.me,bV 77 Ai s.p.dm,bV 154 BM s.p.lk,bV 3 A7 s.p.dr,bV 3 A7 s.p.tg,⟨[.os 4 11 0<|M s.p.cs,.xl .str s.p.os,.xl Ak s.p.ks,.xl Af s.p.gs,.xl Al s.p.bs,.v<|ag J s.p.tk,.v<|.bool s.p.up,.os 5 5 0<|M s.p.ls,.v<|ag J s.p.se,.os 6 1 0<|M s.p.fl,.os 7 2 0<|M s.p.ra,.v<|ag J s.p.nx,.os 8 4 0<|M s.p.st,.os 9 5 0<|M s.p.ca,.os 10 3 0<|M s.p.mi,.os 11 3 0<|M s.p.me,.os 12 4 0<|M s.p.dm,.os 13 6 0<|M s.p.lk,.os 14 1 0<|M s.p.dr,.os 15 1 0<|M s.p.tg,.v<|ag J s.ev.ek,.v<|ag J s.ev.en,.v<|ag J s.ev.em,.v<|ag J s.ev.c1,.v<|ag J s.ev.c2,.v<|ag J s.ev.c3,.v<|ag J s.ev.c4,.v<|ag J s.ev.c5,.v<|.bool s.ev.d1,.v<|ag J s.ev.d2,.v<|ag J s.ev.d3,.v<|ag J s.ev.d4,.v<|.slice aj 0 0],107,.cl,X⟩,⟨[.v<|.slice aj 0 0,.v<|.slice aj 0 0,.v<|.slice aj 0 0,.v<|.slice aj 0 0,.v<|.slice aj 0 0],28,.cl,X⟩,⟨[.os 19 11 0<|M s.o,s.Bg,s.C9,s.BP,s.CA],28,.cl,X⟩,bV 42 Ae s.o],λv b=>⟨AL v 3,AL v 4,rF b,rG b,AF .str b 18 1,AF Ak b 18 2,AF Af b 18 3,AF Al b 18 4,Ab Ae b 19⟩,aCA,λs r=> {s with i:=r.i,o:=r.o},λs=>s,λ_ s=>s,[.exit 0],ov,Zd,wU⟩
abbrev eh:=Uh.run
abbrev awz:=Uh.At
def PH:aN:=[iN,UG]
def ahH:Ax:=kI PH<|la 2 func76 KW<|la 9 func23 Cx<|l0 PH
def afe:Rq Zd aCA:=by
 intro s hI;refine ⟨λc1=>⟨?_,?_,?_,?_,A9,A9,A9,A9,A9,A9,A9,A9,A9,A9,A9,A9,A9,?_,ak⟩,λc1=>⟨A9,A9,A9,A9,A9,A9,A9,A9,A9,A9,A9,A9,A9,A9,ak⟩⟩
 all_goals ((obtain ⟨⟨h0,h1⟩,h2,h3,h4,h5⟩:=hI;have hl:M s.o=M s.p.cs:=oN;(try simp only [Ac] at c1);first|omega|exact ⟨rfl,rfl⟩ |exact ⟨rfl,AJ⟩))
def aT5:Uh.Ok:={}
def aSR:Uh.Pf (aDo):=⟨aos,λs h=>rfl,ajp,afe⟩
def aJY:=s2 (b:=bN f81 0) aT5 aSR PH ahH
def awN:Fi ov Zd aDo awz eh:=AR.fin aT5 aSR
structure N0 where
 p:PK
 ev:EW
def Uw (s:N0):aD:=[.own 16 0]
def Yx (s:N0):aG:=[AP,AP,zB,AP,bV 42 Ae s.p.cs,bV 139 AO s.p.ls,bV 5 (.int aw) s.p.fl,bV 143 Ag s.p.ra,bV 95 B4 s.p.st,bV 75 AO s.p.ca,bV 148 BB s.p.mi,bV 98 BS s.p.me,bV 77 Ai s.p.dm,bV 154 BM s.p.lk,bV 3 A7 s.p.dr,bV 3 A7 s.p.tg,⟨[.os 4 11 0<|M s.p.cs,.xl .str s.p.os,.xl Ak s.p.ks,.xl Af s.p.gs,.xl Al s.p.bs,.v<|ag J s.p.tk,.v<|.bool s.p.up,.os 5 5 0<|M s.p.ls,.v<|ag J s.p.se,.os 6 1 0<|M s.p.fl,.os 7 2 0<|M s.p.ra,.v<|ag J s.p.nx,.os 8 4 0<|M s.p.st,.os 9 5 0<|M s.p.ca,.os 10 3 0<|M s.p.mi,.os 11 3 0<|M s.p.me,.os 12 4 0<|M s.p.dm,.os 13 6 0<|M s.p.lk,.os 14 1 0<|M s.p.dr,.os 15 1 0<|M s.p.tg,.v<|ag J s.ev.ek,.v<|ag J s.ev.en,.v<|ag J s.ev.em,.v<|ag J s.ev.c1,.v<|ag J s.ev.c2,.v<|ag J s.ev.c3,.v<|ag J s.ev.c4,.v<|ag J s.ev.c5,.v<|.bool s.ev.d1,.v<|ag J s.ev.d2,.v<|ag J s.ev.d3,.v<|ag J s.ev.d4,.v<|.slice aj 0 0],107,.cl,X⟩]
def TC (s:N0):Pa:=(⟨((M s.p.tg:aC):Y),0,{s.p with tg:=s.p.tg.set s.ev.en.toNat s.ev.em},s.ev,s.p.os,s.p.ks,s.p.gs,s.p.bs,BF ((s.p.cs.drop 0).take<|M s.p.cs)<|aq ((M s.p.cs:aC):Y).toNat (ByteArray.empty,((0:Y),((0:Y),((0:Y),(((0:Y),(0:Y)),((0:Y),((0:Y),((0:Y),((0:Y),(0:Y))))))))))⟩:Pa)
structure Yj where
 res:Y
 p:PK
 ev:EW
def abX (s:Yj):LV:=.v<|ag J s.res
def acG (s:Yj):aG:=[AP,AP,zB,AP,bV 42 Ae s.p.cs,bV 139 AO s.p.ls,bV 5 (.int aw) s.p.fl,bV 143 Ag s.p.ra,bV 95 B4 s.p.st,bV 75 AO s.p.ca,bV 148 BB s.p.mi,bV 98 BS s.p.me,bV 77 Ai s.p.dm,bV 154 BM s.p.lk,bV 3 A7 s.p.dr,bV 3 A7 s.p.tg,⟨[.os 4 11 0<|M s.p.cs,.xl .str s.p.os,.xl Ak s.p.ks,.xl Af s.p.gs,.xl Al s.p.bs,.v<|ag J s.p.tk,.v<|.bool s.p.up,.os 5 5 0<|M s.p.ls,.v<|ag J s.p.se,.os 6 1 0<|M s.p.fl,.os 7 2 0<|M s.p.ra,.v<|ag J s.p.nx,.os 8 4 0<|M s.p.st,.os 9 5 0<|M s.p.ca,.os 10 3 0<|M s.p.mi,.os 11 3 0<|M s.p.me,.os 12 4 0<|M s.p.dm,.os 13 6 0<|M s.p.lk,.os 14 1 0<|M s.p.dr,.os 15 1 0<|M s.p.tg,.v<|ag J s.ev.ek,.v<|ag J s.ev.en,.v<|ag J s.ev.em,.v<|ag J s.ev.c1,.v<|ag J s.ev.c2,.v<|ag J s.ev.c3,.v<|ag J s.ev.c4,.v<|ag J s.ev.c5,.v<|.bool s.ev.d1,.v<|ag J s.ev.d2,.v<|ag J s.ev.d3,.v<|ag J s.ev.d4,.v<|.slice aj 0 0],107,.cl,X⟩]
def kA (s:N0):T Yj:=letI a:=s.p.tg.set s.ev.en.toNat s.ev.em;letI b:=(ByteArray.empty,((0:Y),((0:Y),((0:Y),(((0:Y),(0:Y)),((0:Y),((0:Y),((0:Y),((0:Y),(0:Y))))))))));letI c:=((M s.p.cs:aC):Y);letI d:=((eh<|TC s).o.drop 0).take<|M (eh<|TC s).o;letI e:=(s.p.cs.drop 0).take<|M s.p.cs;letI f:=M s.p.tg;.br (!(inB s.ev.en (0:Y)<|AA<|c-1)) (.pc s.p<|.ok<|⟨1,s.p,s.ev⟩)<|.ik s.ev.en (M s.p.cs)<|.br (!(inB s.ev.em (1:Y) (s.p.cs.getD s.ev.en.toNat<|Ty.dflt Ae).2.2.1)) (.pc s.p<|.ok<|⟨1,s.p,s.ev⟩)<|.ik s.ev.en f<|.rm 96 c<|.rz s.p.cs<|.rc c b (M e)<|.re f a<|.pa s.p<|.rl s.p.st<|.rl s.p.ca<|.rl s.p.mi<|.rl s.p.me<|.rl s.p.dm<|.rl s.p.lk<|.rl s.p.dr<|.re f a<|.re c.toNat (BF e<|aq c.toNat b)<|.req (Uh.q<|TC s)<|.rz (eh<|TC s).o<|.req (B9 d s.p.os s.p.ks s.p.gs s.p.bs=U)<|.br (!DO d s.p.gs (Bq s.p.gs)) (.pa s.p<|.rl s.p.st<|.rl s.p.ca<|.rl s.p.mi<|.rl s.p.me<|.rl s.p.dm<|.rl s.p.lk<|.rl s.p.dr<|.rl a<|.ok<|⟨13,{s.p with tg:=a},s.ev⟩)<|.pa s.p<|.rl s.p.st<|.rl s.p.ca<|.rl s.p.mi<|.rl s.p.me<|.rl s.p.dm<|.rl s.p.lk<|.rl s.p.dr<|.rl a<|.ok<|⟨0,{s.p with tg:=a},s.ev⟩
def VP.der {p:PK}(h:VP p) {n m:Y}(hn:inB n 0 ((M p.cs:Y)-1)=U) (hm:inB m 1 (AZ p.cs n).2.2.1=U):B9 (p.LD n m).EG p.os p.ks p.gs p.bs=U/\M (p.LD n m).tg=M p.cs:=by
 have hn:=B8.1 hn
 have hm:=B8.1 hm
 have hl:M (p.LD n m).tg=M p.cs:=by show M (p.tg.set n.toNat m)=_;rw [C4];exact h.Ew
 have hk:=jO h.site (k:=n.toNat) A0
 rw [Bs hn.1] at hk;refine ⟨rN h.site (λk hk2=>?_) _ A0,hl⟩
 show 1<=gi (p.tg.set n.toNat m) k/\gi (p.tg.set n.toNat m) k<=1000
 rw [JC hn.1 (by have:=h.Ew;omega) A0]
 split
 ·omega
 ·exact h.tg1 k hk2
def aEH (s:N0):Prop:=VP s.p
def UE (s:N0):Yj:=⟨PK.IF s.p s.ev.en s.ev.em,{s.p with tg:=if PK.IF s.p s.ev.en s.ev.em=1 then s.p.tg else s.p.tg.set s.ev.en.toNat s.ev.em},s.ev⟩
def aE1:DA N0 Yj:=⟨Uw,Yx,λv b=>⟨rF b,rG b⟩,aEH,[0,1,3],[],abX,acG,UE⟩
abbrev ak0 (s:N0):Prop:=aEH s/\Uw s=Uw s/\Yx s=Yx s
def aUP:Ax:=kI PH<|la 4 func81 aJY<|la 2 func76 KW<|la 9 func23 Cx<|l0 PH
def aWh:DZ:=DG 81 17 4 (Uh.lp)<|DG 76 18 2 (Km.lp)<|DG 23 0 9 (HS.lp)<|EM prog AT PH 20 2
def as5:EZ prog AT aWh:=DR func81 rfl AV aJY<|DR func76 rfl AV KW<|DR func23 rfl AV Cx<|I9<|gk PH
def agA (s:N0):((Ep prog AT PH aWh aUP).k 32 (Uw s)<|Yx s).bind (λq=>GW (M<|Yx s) [0] [] .normal (q.1::Uw s) q.2)=(kA s).mp (λs2=>⟨.normal,M (Uw s)+1,[abX s2],acG s2,U⟩):=AV
def azd (s:N0) (hE:aEH s):(kA s).all (λq=>q=UE s):=by
 have hs:=Cz.1 hE.site
 have ht:=hE.Ew
 have hw:AA (((M s.p.cs:aC):Y)-1)=(M s.p.cs:Y)-1:=AI
 unfold kA;rw [hw];simp only [Tc,Qq]
 have one:(!inB s.ev.en 0 ((M s.p.cs:Y)-1) || !inB s.ev.em 1 (AZ s.p.cs s.ev.en).2.2.1)=U->s.p.IF s.ev.en s.ev.em=1:=λh=>AD h
 refine ⟨λc=>?_,λc=>?_⟩
 ·have he:=one (by rw [c];rfl)
  repeat (refine ⟨AJ,?_⟩)
  show _=_
  unfold UE;rw [AD he,he]
 have cn:inB s.ev.en 0 ((M s.p.cs:Y)-1)=true:=I3
 have ci:=B8.1 cn
 have hcd:s.p.cs.getD s.ev.en.toNat (Ty.dflt Ae)=AZ s.p.cs s.ev.en:=by
  rw [DH,Di A0]
  have:=Qx (cs:=s.p.cs) (k:=s.ev.en.toNat) A0
  rw [Bs ci.1] at this;rw [this];rfl
 rw [hcd]
 repeat (refine ⟨by first|omega|exact ⟨rfl,rfl⟩ |exact ⟨rfl,AJ⟩ |(refine ⟨?_,?_⟩<;>(simp;done)) |(rw [CV];omega),?_⟩)
 refine ⟨λc2=>?_,λc2=>?_⟩
 ·have he:=one (by rw [c2,Ob])
  repeat (refine ⟨AJ,?_⟩)
  show _=_
  unfold UE;rw [AD he,he]
 have cm:inB s.ev.em 1 (AZ s.p.cs s.ev.en).2.2.1=true:=Dl
 obtain ⟨k1,k2⟩:=hE.der cn cm
 have ho:(TC s).o=s.p.cs:=by
  show BF ((s.p.cs.drop 0).take _) _=_
  rw [Tc];exact Qq
 have hV:ov (TC s):=⟨rfl,by show (M s.p.tg:Y)=(M (s.p.tg.set s.ev.en.toNat s.ev.em):Y);rw [C4],k2,aQB,ho⟩
 obtain ⟨_,_,_,q2⟩:=awN _ hV
 have q2:(eh<|TC s).o=(s.p.LD s.ev.en s.ev.em).EG:=q2
 have nb:¬(!inB s.ev.en 0 ((M s.p.cs:Y)-1) || !inB s.ev.em 1 (AZ s.p.cs s.ev.en).2.2.1)=true:=by rw [cn,cm];decide
 rw [q2]
 repeat (refine ⟨A8,?_⟩)
 refine ⟨⟨hV,rfl,rfl⟩,?_⟩
 repeat (refine ⟨A0,?_⟩)
 refine ⟨λc3=>?_,λc3=>?_⟩
 ·have c3:DO (s.p.LD s.ev.en s.ev.em).EG s.p.gs (Bq s.p.gs)=false:=NI
  have he:s.p.IF s.ev.en s.ev.em=13:=by unfold PK.IF;rw [AE nb,AD c3]
  repeat (refine ⟨AJ,?_⟩)
  show _=_
  unfold UE;rw [AE MM,he]
 ·have c3:¬DO (s.p.LD s.ev.en s.ev.em).EG s.p.gs (Bq s.p.gs)=false:=NI
  have he:s.p.IF s.ev.en s.ev.em=0:=by unfold PK.IF;rw [AE nb,AE c3]
  repeat (refine ⟨AJ,?_⟩)
  show _=_
  unfold UE;rw [AE MM,he]
def ajB:Dn prog AT 32 aE1.m:=DA.sound (D:=aE1) (t:=kA) (gk PH) as5 aUP.h agA λs hE=>⟨azd s hE⟩
def aVS:aD->T LV
 | [.xl (.pair (.int J) (.pair (.int J) (.pair (.int J) (.pair (.int J) (.int J))))) l,.v (.agg ⟨[ag J nu,ag J co,ag J am,ag J fr,ag J tk]⟩)]=> .ok (.AQ [GS l (nu,co,am,fr,tk),Fa l (nu,co,am,fr,tk)])
 |_=> .no
def anj:aN:=[XC,aRJ,aWx]
def aWy:=vo (S:=aVS) func126 anj kN (λargs lv h=>by
 unfold aVS at h;split at h
 ·rename_i l nu co am fr tk
  refine Aq (letI a:=(aq (0:Y).toNat ((0:Y),((0:Y),((0:Y),((0:Y),(0:Y))))));letI b:=(nu,(co,(am,(fr,tk))));letI d:=(M l:Y);letI g:=AA<|d+1;letI i:=(a++l)++([b]);letI f:=((i.drop 0).take<|(0:Y).toNat+M l+M ([b]));.br ((!(B2 l)) ||(!(DN (nu,co,am,fr,tk)))) (.ok<|.AQ [.xl AO ([]:aL),(1:Y)])<|.br (an<|d>0) (.ix (AA<|d-1) (M l)<|.br (!(KA (Ap l<|AA<|d-1) (nu,co,am,fr,tk))) (.ok<|.AQ [.xl AO ([]:aL),(12:Y)])<|.br (d==64) (.ok<|.AQ [.xl AO ([]:aL),(10:Y)])<|.req (0<=(0:Y)/\(0:Y)<=g/\40*g<=2^48/\g<2^63)<|.ra (0:Y).toNat (M a) ((0:Y).toNat+M l) 40<|.ra ((0:Y).toNat+M l) (M<|a++l) ((0:Y).toNat+M l+M ([b])) 40<|.req (0+((0:Y).toNat+M l+M ([b]))<=M i)<|.ok<|.AQ [f,(0:Y)])<|.br (d==64) (.ok<|.AQ [.xl AO ([]:aL),(10:Y)])<|.req (0<=(0:Y)/\(0:Y)<=g/\40*g<=2^48/\g<2^63)<|.ra (0:Y).toNat (M a) ((0:Y).toNat+M l) 40<|.ra ((0:Y).toNat+M l) (M<|a++l) ((0:Y).toNat+M l+M ([b])) 40<|.req (0+((0:Y).toNat+M l+M ([b]))<=M i)<|.ok<|.AQ [f,(0:Y)]) ?_;obtain rfl:=h
  have bad:∀e:Y,e≠0->Fa l (nu,co,am,fr,tk)=e->LV.AQ [.xl AO ([]:aL),.v<|ag J e]=LV.AQ [.xl AO<|GS l (nu,co,am,fr,tk),.v<|ag J<|Fa l (nu,co,am,fr,tk)]:=λe h0 h1=>by
   unfold GS;rw [h1,AE h0]
  refine ⟨λc=>bad 1 Ad ?_,λc=>?_⟩
  ·unfold Fa
   grind
  have hk:(B2 l&&DN (nu,co,am,fr,tk))=true:=by revert c;cases B2 l<;>cases DN (nu,co,am,fr,tk)<;>simp
  have hl:M l<=64:=by rw [AY] at hk;exact (GP hk.1).1
  have w1:AA ((M l:Y)+1)=(M l:Y)+1:=AI
  have fin:(an (M l>0)&&!KA (Ap l<|(M l:Y)-1) (nu,co,am,fr,tk))=X->M l≠64->LV.AQ [.xl AO<|(l++[(nu,co,am,fr,tk)]).take<|0+M l+1,.v<|ag J 0]=LV.AQ [.xl AO<|GS l (nu,co,am,fr,tk),.v<|ag J<|Fa l (nu,co,am,fr,tk)]:=λh1 h2=>by
   have e:Fa l (nu,co,am,fr,tk)=0:=by unfold Fa;rw [AD hk,AE (by rw [h1];simp),AE h2]
   unfold GS;rw [e,AD rfl,Dj AJ]
  have rq:(0<=(0:Y)/\(0:Y)<=AA ((M l:Y)+1)/\40*AA ((M l:Y)+1)<=2^48/\AA ((M l:Y)+1)<2^63):=by rw [w1];omega
  refine ⟨λc2=>?_,λc2=>?_⟩
  ·have c2:0<M l:=by have:=DJ c2;omega
   have w2:AA ((M l:Y)-1)=(M l:Y)-1:=AI
   rw [w2];refine ⟨A0,λc3=>bad 12 Ad ?_,λc3=>⟨λc4=>bad 10 Ad ?_,λc4=>⟨rq,⟨rfl,DK,DK⟩,⟨AJ,DK,DK⟩,AJ,?_⟩⟩⟩
   ·unfold Fa
    rw [AD hk,AD (by rw [c3,Ci c2];rfl)]
   ·unfold Fa
    rw [AD hk,AE (by rw [c3];simp),AD aAT]
   ·exact fin (by rw [c3,Sv]) aAT
  ·have c2:¬(M l)>0:=by have:=KI c2;omega
   refine ⟨λc4=>bad 10 Ad ?_,λc4=>⟨rq,⟨rfl,DK,DK⟩,⟨AJ,DK,DK⟩,AJ,?_⟩⟩
   ·simp at c4;omega
   ·exact fin (by rw [IV c2,QM]) A0
 ·cases h)
structure OI where
 (l0 left l:aL)
 (n i aqH aqD ay1 ay0 asK:Y)
 o:aI
def aII:=bN f176 0
def aB9 (s:OI):T (Rd OI):=letI a:=Ap s.l s.i;.br (an<|s.i<s.n) (.ix s.i (M s.l)<|.rb (M s.o) (M<|[B3 a]) 24<|.re (M s.o+M ([B3 a])) (s.o++([B3 a]))<|.nx {s with i:=AA<|s.i+1,o:=s.o++([B3 a])})<|.rl s.o<|.so (.exit 0) s
def m5 (s:OI):Prop:=s.i=0/\s.n<=1000/\s.n=(M s.l:Y)/\(M s.o:Y)<=s.i
def mG (s:OI):Prop:=0<=s.i/\s.i<=s.n/\s.n<=1000/\s.n=(M s.l:Y)/\(M s.o:Y)<=s.i
def x9 (s:OI):aC:=(s.n-s.i).toNat
def acR (x:Ex) (s s':OI):Prop:=True
def anr:∀s,m5 s->mG s:=by
 exact bQ
def ahO:Da mG x9 acR aB9:=by
 intro s hI;obtain ⟨h0,h1,h2,h3,h4⟩:=hI;refine AH (λc1=>?_) λc1=>trivial
 have c1:s.i<s.n:=A8
 rw [AI (x:=s.i+1)];exact ⟨⟨A8,A8,h2,h3,A8⟩,by simp only [x9];omega⟩
def Rb:AR OI:=⟨0,71,[0,4,8,10,11,25,26,27],[.ns 10 0 45<|.sl<|.int aw],λs=>[s.l0,.own 0 0,s.left,.own 1 0,.fn 213 [.own 1 0],s.l,s.n,s.i],λs=>[⟨[s.aqH,s.aqD,s.ay1,s.ay0,s.asK],139,.cl,X⟩,⟨[.os 2 1 0<|M s.o],212,.cl,X⟩,⟨[],45,.vec (.sl<|.int aw) s.o,X⟩],λv b=>⟨B1 AO v 0,B1 AO v 2,B1 AO v 5,AL v 6,AL v 7,Am b 0 0,Am b 0 1,Am b 0 2,Am b 0 3,Am b 0 4,Ab (.sl<|.int aw) b 2⟩,aB9,λs r=> {s with i:=r.i,o:=r.o},λs=>s,λ_ s=>s,[.exit 0],m5,mG,x9⟩
abbrev qP:=Rb.run
abbrev aKx:=Rb.At
def afJ:Rq mG aB9:=by
 intro s hI;refine ⟨λc1=>⟨?_,?_,?_,ak⟩,λc1=>⟨A9,ak⟩⟩
 all_goals ((obtain ⟨h0,h1,h2,h3,h4⟩:=hI;simp only [Ac] at c1;(first|omega|(simp only [Bm,C3];omega) |(simp only [BG,Bm,C3,Em]))))
def iX:aN:=[iR,aXo]
def aUU:Ax:=kI iX<|l0 iX
def aTL:Rb.Ok:={}
def aSn:Rb.Pf (acR):=⟨anr,λs h=>rfl,ahO,afJ⟩
def au4:SA 0 aII Rb:=s1 aTL aSn iX aUU
def aw3:Rs m5 aKx qP (λs:OI=>s.o++(s.l.drop s.i.toNat).map B3) (λx s' (v:aI)=>x=.exit 0/\s'.o=v):=Dp aTL aSn (λs hI=>by
  obtain ⟨h0,h1,h2,h3,h4⟩:=hI;refine AH (λc1=>?_) λc1=>?_
  ·have c1:s.i<s.n:=A8
   rw [AI (x:=s.i+1)]
   show _++[_]++_=_++_
   rw [(Wf h0 A0).1]
   grind
  ·have c1:s.n<=s.i:=A8
   refine ⟨rfl,?_⟩;rw [FA A0]
   simp)
def Iu (l:aL) (x:Le) (t:Y):aI:=if DT l t=0 then IS l x t else []
def aWC:aD->T LV
 | [.xl (.pair (.int J) (.pair (.int J) (.pair (.int J) (.pair (.int J) (.int J))))) l,.v (.agg ⟨[ag J x1,ag J x2,ag J x3,ag J x4,ag J x5]⟩),.v (ag J t)]=> .ok (.AQ [.xl (.sl<|.int aw)<|Iu l (x1,x2,x3,x4,x5) t,DT l t])
 |_=> .no
def W2 (l:aL) (x1 x2 x3 x4 x5 t:Y):OI:=(⟨l,BX l t,BX l t,(M (BX l t):Y),0,x1,x2,x3,x4,x5,([]:aI)⟩:OI)
def aKp {l:aL}{t:Y}(h:DT l t=0):M l<=64/\M (BX l t)<=M l:=by
 unfold DT at h;split at h
 ·rename_i c
  refine ⟨(GP (by unfold L0 at c;rw [AY] at c;exact c.1)).1,?_⟩
  unfold BX
  grind
 ·cases h
def alC:=vm (S:=aWC) func176 iX aUU (L:=(λi=>if i=7 then Rb.lp else Ao i)) (λb hb=>by
 rw [show BC _=[aII] by kernel_rfl] at hb
 simp only [B6,Bv,Bt] at hb;subst hb;exact au4) (λargs lv h=>by
 unfold aWC at h;split at h
 ·rename_i l x1 x2 x3 x4 x5 t
  refine Aq (letI a:=qP<|W2 l x1 x2 x3 x4 x5 t;letI e:=(x1,x2,x3,x4,x5);letI f:=M a.o+M ([B3 e]);letI j:=(AA<|(M l:Y)-1);letI k:=(M (BX l t):Y);letI m:=M a.o;letI n:=a.o++([B3 e]);letI d:=Ap l j;letI g:=(a.o++([B3 d]))++([B3 e]);letI p:=M a.o+M ([B3 d]);letI r:=M<|a.o++([B3 d]);letI b:=M a.o+M ([B3 d])+M ([B3 e]);.br ((DT l t) !=0) (.ok<|.AQ [.xl (.sl<|.int aw) ([]:aI),(DT l t)])<|.r0 (List Int)<|.req (Rb.q<|W2 l x1 x2 x3 x4 x5 t)<|.br (an<|(M l:Y)>0) (.br (k==0) (.ix j (M l)<|.rb m (M<|[B3 d]) 24<|.ra p r b 24<|.req (0+b<=M g)<|.ok<|.AQ [.xl (.sl<|.int aw)<|(g.drop 0).take b,(0:Y)])<|.ix (AA<|k-1) (M<|BX l t)<|.ix j (M l)<|.br ((Ap (BX l t)<|AA<|k-1).1 !=d.1) (.ix j (M l)<|.rb m (M<|[B3 d]) 24<|.ra p r b 24<|.req (0+b<=M g)<|.ok<|.AQ [.xl (.sl<|.int aw)<|(g.drop 0).take b,(0:Y)])<|.rb m (M<|[B3 e]) 24<|.req (0+f<=M n)<|.ok<|.AQ [.xl (.sl<|.int aw)<|(n.drop 0).take f,(0:Y)])<|.rb m (M<|[B3 e]) 24<|.req (0+f<=M n)<|.ok<|.AQ [.xl (.sl<|.int aw)<|(n.drop 0).take f,(0:Y)]) ?_;obtain rfl:=h;refine ⟨λc=>?_,λc=>?_⟩
  ·have c:DT l t≠0:=I3
   unfold Iu;rw [AE c];rfl
  have hE:DT l t=0:=I3
  obtain ⟨k1,k2⟩:=aKp hE
  have hV:m5 (W2 l x1 x2 x3 x4 x5 t):=⟨rfl,by show (M (BX l t):Y)<=1000;omega,rfl,aAH⟩
  have q:aKx (W2 l x1 x2 x3 x4 x5 t)=.exit 0/\(qP<|W2 l x1 x2 x3 x4 x5 t).o=(BX l t).map B3:=aw3 _ hV
  have hR:Iu l (x1,x2,x3,x4,x5) t=IS l (x1,x2,x3,x4,x5) t:=AD hE
  have w1:=λ_:0<M l=>AI (x:=(M l:Y)-1)
  have w2:=λ_:0<M (BX l t)=>AI (x:=(M (BX l t):Y)-1)
  have hL:M (qP<|W2 l x1 x2 x3 x4 x5 t).o=M (BX l t):=by rw [q.2,GK]
  rw [hE,hR];unfold IS;refine ⟨A9,⟨hV,rfl,rfl⟩,λc1=>⟨λc2=>?_,λc2=>?_⟩,λc1=>?_⟩
  ·have c1:0<M l:=AX
   have c2:M (BX l t)=0:=Dl
   rw [w1 c1,AD ⟨c1,.inl c2⟩];refine ⟨A0,⟨F8 _,?_,?_⟩,⟨?_,?_,?_⟩,?_,?_⟩
   all_goals first|(simp only [BG,Bm,C3,hL];omega) |(rw [q.2,CZ,Dj oF];simp only [Cw,Ek];rfl)
  ·have c1:0<M l:=AX
   have c2:0<M (BX l t):=by simp at c2;exact Og.2 c2
   rw [w1 c1,w2 c2];refine ⟨A0,A0,λc3=>?_,λc3=>?_⟩
   ·rw [AD ⟨c1,.inr NI⟩]
    refine ⟨A0,⟨F8 _,?_,?_⟩,⟨?_,?_,?_⟩,?_,?_⟩
    all_goals first|(simp only [BG,Bm,C3,hL];omega) |(rw [q.2,CZ,Dj oF];simp only [Cw,Ek];rfl)
   ·rw [AE (by intro h;rcases h.2 with h|h;omega;simp at c3;exact h c3)]
    refine ⟨⟨F8 _,?_,?_⟩,?_,?_⟩
    all_goals first|(simp only [BG,Bm,C3,hL];omega) |(rw [q.2,CZ,Dj oF];simp only [Cw,Ek];rfl)
  ·have c1:¬0<M l:=AX
   rw [AE λh=>c1 h.1]
   refine ⟨⟨F8 _,?_,?_⟩,?_,?_⟩
   all_goals first|(simp only [BG,Bm,C3,hL];omega) |(rw [q.2,CZ,Dj oF];simp only [Cw,Ek];rfl)
 ·cases h)
def ia:aN:=[]
def akI:aD->T LV:=λl=>Bw prog AT (ia) kN Ao f241<|canL l
def aXA:=vo (S:=akI) func241 ia kN (λargs lv h=>by
 refine ⟨?_⟩
 assumption)
def akJ:aD->T LV:=λl=>Bw prog AT (ia) kN Ao f246<|canL l
def aXB:=vo (S:=akJ) func246 ia kN (λargs lv h=>by
 refine ⟨?_⟩
 assumption)
def s9 {l:aB}{n:aC}(h:M l=n):BF l (aq n (0:Y))=l:=by
 unfold BF
 simp_all
def rI {l:aB}{n:aC}(h:M l=n):((BF ((l.drop 0).take n)<|aq n (0:Y)).drop 0).take n=l:=by
 rw [CZ,CZ,Dj (l:=l) A0,s9 h,Dj A0]
def Tq {l:aB}{n:aC}(h:M l=n):(l.drop 0).take n=l:=by
 grind
def aCJ:Array Tmp×Code×Code:=((JA<|f242.body.getD .skip)[0]?).getD (#[],.skip,.skip)
def aWu:aX3:=aCJ.1
def aaS:bB:=aCJ.2.1
def aaQ:bB:=aCJ.2.2
structure MB where
 (n i I7:Y)
 (I8 b1:aB)
 rM:Y
 Gw:aB
 (b3 b4 I4:Y)
 b9:bc
 b10:aB
 st:LS
def LK (s:MB):aB:=(s.b10.set (AA<|s.b3+s.i).toNat<|Bn aw (s.b10.getD (AA<|s.b3+s.i).toNat<|Ty.dflt<|.int aw)<|gi s.b1 s.i)
def lpC (s:MB):aB:=((BF (((LK s).drop 0).take<|M s.b10)<|aq ((M s.b10:aC):Y).toNat (0:Y)).drop 0)
def pM (s:MB):T (Rd MB):=letI a:=((M s.b10:aC):Y);letI b:=(s.I4,(lpC s).take a.toNat);letI c:=M s.b10;letI d:=((LK s).drop 0).take c;.br (an<|s.i<s.n) (.ik (AA<|s.b3+s.i) c<|.ix s.i (M s.b1)<|.ik (AA<|s.b3+s.i) c<|.rm 1 a<|.req (0+c<=M (LK s))<|.rc a (0:Y) (M d)<|.req (0+a.toNat<=M (BF d<|aq a.toNat (0:Y)))<|.rb (M s.b9) (M<|[b]) 32<|.re (M s.b9+M ([b])) (s.b9++([b]))<|.re c (LK s)<|.nx {s with i:=AA<|s.i+1,b9:=s.b9++([b]),b10:=LK s})<|.rl s.b9<|.rl s.b10<|.so (.exit 0) s
def qH (s:MB):Prop:=s.st=.ready/\s.i=0/\(s.n=(M s.b1:Y)/\0<=s.n/\0<=s.b3/\s.b3+s.n<=(M s.Gw:Y)/\M s.Gw<=4096)/\s.b10=Dq s.Gw s.b3 s.b1 0/\s.b9=[(s.I4,Dq s.Gw s.b3 s.b1 0)]
def dM (s:MB):Prop:=s.st=.ready/\(0<=s.i/\s.i<=s.n)/\(s.n=(M s.b1:Y)/\0<=s.n/\0<=s.b3/\s.b3+s.n<=(M s.Gw:Y)/\M s.Gw<=4096)/\s.b10=Dq s.Gw s.b3 s.b1 s.i.toNat/\s.b9=(au<|s.i.toNat+1).map (λk:aC=>(s.I4,Dq s.Gw s.b3 s.b1 k))
def aCb (s:MB):aC:=(s.n-s.i).toNat
def yh (x:Ex) (s s':MB):Prop:=x=.exit 0/\s'.b9=Dw s'.I4 s'.Gw s'.b3 s'.b1
def apG:∀s,qH s->dM s:=by
 exact aP7
def amF:Da dM aCb yh pM:=by
 intro s hI;unfold pM;refine AH (λc1=>?_) λc1=>?_
 ·obtain ⟨ht,⟨h0,h1⟩,⟨hn,hn0,ha,hl,h4⟩,hb,ho⟩:=hI
  have hbl:M s.b10=M s.Gw:=aQi
  have c1:s.i<s.n:=AX
  have wa:AA (s.b3+s.i)=s.b3+s.i:=AI
  have hB:LK s=Dq s.Gw s.b3 s.b1 (s.i.toNat+1):=aPf
  have hBl:M (LK s)=M s.Gw:=aQj
  have hC:(lpC s).take ((M s.b10:aC):Y).toNat=LK s:=aQ2
  rw [AI (x:=s.i+1)]
  have et:(s.i+1).toNat=s.i.toNat+1:=A0
  refine ⟨⟨ht,⟨Aa,Aa⟩,⟨hn,hn0,ha,hl,h4⟩,?_,?_⟩,by simp only [aCb];omega⟩
  ·simp only [et]
   exact hB
  ·simp only [et]
   rw [Sk,KJ,<-ho,ES,LO,<-hB,<-hC]
 ·obtain ⟨ht,⟨h0,h1⟩,⟨hn,hn0,ha,hl,h4⟩,hb,ho⟩:=hI
  have c1:s.n<=s.i:=AX
  refine ⟨rfl,?_⟩;rw [ho]
  have e:s.i.toNat=M s.b1:=A0
  rw [e];rfl
def dd:AR MB:=⟨8,41,[0,3,4,6,15,16],[],λs=>[.CU 7,.own 5 0,.own 3 0,.own 8 0,s.n,s.i],λs=>[⟨[s.I7,.xl (.int aw) s.I8],47,.cl,X⟩,⟨[.xl (.int aw) s.b1],45,.cl,X⟩,⟨[s.rM,.xl (.int aw) s.Gw],47,.cl,X⟩,⟨[s.b3],3,.cl,X⟩,⟨[s.b4],3,.cl,X⟩,⟨[.fn 241 [.own 1 0]],342,.cl,X⟩,⟨[.os 9 2 0<|M s.b9],235,.cl,X⟩,⟨[.junk,.junk,.junk,.own 6 0,.v<|.tuple #[],.junk,.v<|.tuple #[],.v<|.tuple #[],.v<|.tuple #[],.v<|.tuple #[],.v<|.tuple #[],.junk],0,.Cq aWu aaS aaQ s.st,X⟩,⟨[s.I4,.os 10 1 0<|M s.b10],47,.cl,X⟩,bV 47 Bo s.b9,bV 5 (.int aw) s.b10],λv b=>⟨AL v 4,AL v 5,Am b 0 0,AF (.int aw) b 0 1,AF (.int aw) b 1 0,Am b 2 0,AF (.int aw) b 2 1,Am b 3 0,Am b 4 0,Am b 8 0,Ab Bo b 9,Ab (.int aw) b 10,.ready⟩,pM,λs r=> {r with n:=s.n,I7:=s.I7,I8:=s.I8,b1:=s.b1,rM:=s.rM,Gw:=s.Gw,b3:=s.b3,b4:=s.b4,I4:=s.I4,st:=s.st},λs=> {s with st:=.ready},λx s=> {s with st:=(match x with| .exit 0=> .ready|_=> .ready)},[.exit 0],qH,dM,aCb⟩
abbrev iL:=dd.run
abbrev ai7:=dd.At
def xe:aN:=[Xj,aXA]
def aii:Ax:=kI xe<|l0 xe
def alf:Rq dM pM:=by
 intro s hI;refine ⟨λc1=>⟨?_,?_,?_,?_,?_,?_,?_,?_,?_,?_,?_,?_,ak⟩,λc1=>⟨A9,A9,ak⟩⟩
 all_goals ((obtain ⟨ht,⟨h0,h1⟩,⟨hn,hn0,ha,hl,h4⟩,hb,ho⟩:=hI;have hbl:M s.b10=M s.Gw:=aQi;have c1:s.i<s.n:=A8;have wa:AA (s.b3+s.i)=s.b3+s.i:=AI;have hB:LK s=Dq s.Gw s.b3 s.b1 (s.i.toNat+1):=aPf;have hBl:M (LK s)=M s.Gw:=aQj;have hC:(lpC s).take ((M s.b10:aC):Y).toNat=LK s:=aQ2;(first|omega|exact ⟨rfl,AJ⟩ |(rw [wa];omega) |(rw [hC];simp only [BG,Bm,C3,ho,GK,Sq,Em];omega) |(rw [hBl];omega) |(rw [C2,CV,Tq A0];omega) |(rw [C2,Tq A0,s9 A0];omega))))
def aaC:dd.Ok:={}
def aag:dd.Pf (yh):=⟨apG,λs h=>by
 obtain ⟨n,i,I7,I8,b1,rM,Gw,b3,b4,I4,b9,b10,st⟩:=s
 have e:=h.1
 subst e;rfl,amF,alf⟩
def uy:=s2 (b:=bN f248 0) aaC aag xe aii
def ai2:Fi qH dM yh ai7 iL:=AR.fin aaC aag
structure MC where
 (n i I7:Y)
 I8:aB
 WO:Y
 Fq:aB
 (b2 b3 I4:Y)
 b8:bc
 b9:aB
 st:LS
def leB (s:MC):aB:=(s.b9.set (AA<|s.b2+s.i).toNat (255:Y))
def leC (s:MC):aB:=((BF (((leB s).drop 0).take<|M s.b9)<|aq ((M s.b9:aC):Y).toNat (0:Y)).drop 0)
def pN (s:MC):T (Rd MC):=letI a:=((M s.b9:aC):Y);letI b:=(s.I4,(leC s).take a.toNat);letI c:=M s.b9;letI d:=((leB s).drop 0).take c;.br (an<|s.i<s.n) (.ik (AA<|s.b2+s.i) c<|.ik (AA<|s.b2+s.i) c<|.rm 1 a<|.req (0+c<=M (leB s))<|.rc a (0:Y) (M d)<|.req (0+a.toNat<=M (BF d<|aq a.toNat (0:Y)))<|.rb (M s.b8) (M<|[b]) 32<|.re (M s.b8+M ([b])) (s.b8++([b]))<|.re c (leB s)<|.nx {s with i:=AA<|s.i+1,b8:=s.b8++([b]),b9:=leB s})<|.rl s.b8<|.rl s.b9<|.so (.exit 0) s
def qJ (s:MC):Prop:=s.st=.ready/\s.i=0/\(s.n=s.n/\0<=s.n/\0<=s.b2/\s.b2+s.n<=(M s.Fq:Y)/\M s.Fq<=4096)/\s.b9=F5 s.Fq s.b2 0/\s.b8=[(s.I4,F5 s.Fq s.b2 0)]
def dN (s:MC):Prop:=s.st=.ready/\(0<=s.i/\s.i<=s.n)/\(s.n=s.n/\0<=s.n/\0<=s.b2/\s.b2+s.n<=(M s.Fq:Y)/\M s.Fq<=4096)/\s.b9=F5 s.Fq s.b2 s.i.toNat/\s.b8=(au<|s.i.toNat+1).map (λk:aC=>(s.I4,F5 s.Fq s.b2 k))
def aCd (s:MC):aC:=(s.n-s.i).toNat
def yi (x:Ex) (s s':MC):Prop:=x=.exit 0/\s'.b8=(au<|s'.n.toNat+1).map (λk:aC=>(s'.I4,F5 s'.Fq s'.b2 k))
def apI:∀s,qJ s->dN s:=by
 exact aP7
def amH:Da dN aCd yi pN:=by
 intro s hI;unfold pN;refine AH (λc1=>?_) λc1=>?_
 ·obtain ⟨ht,⟨h0,h1⟩,⟨hn,hn0,ha,hl,h4⟩,hb,ho⟩:=hI
  have hbl:M s.b9=M s.Fq:=aR4
  have c1:s.i<s.n:=AX
  have wa:AA (s.b2+s.i)=s.b2+s.i:=AI
  have hB:leB s=F5 s.Fq s.b2 (s.i.toNat+1):=aPg
  have hBl:M (leB s)=M s.Fq:=aR5
  have hC:(leC s).take ((M s.b9:aC):Y).toNat=leB s:=aQ3
  rw [AI (x:=s.i+1)]
  have et:(s.i+1).toNat=s.i.toNat+1:=A0
  refine ⟨⟨ht,⟨Aa,Aa⟩,⟨hn,hn0,ha,hl,h4⟩,?_,?_⟩,by simp only [aCd];omega⟩
  ·simp only [et]
   exact hB
  ·simp only [et]
   rw [Sk,KJ,<-ho,ES,LO,<-hB,<-hC]
 ·obtain ⟨ht,⟨h0,h1⟩,⟨hn,hn0,ha,hl,h4⟩,hb,ho⟩:=hI
  have c1:s.n<=s.i:=AX
  refine ⟨rfl,?_⟩;rw [ho]
  have e:s.i.toNat=s.n.toNat:=A0
  rw [e]
def dV:AR MC:=⟨7,41,[0,3,4,6,15,16],[],λs=>[.CU 6,.own 4 0,.own 2 0,.own 7 0,s.n,s.i],λs=>[⟨[s.I7,.xl (.int aw) s.I8],47,.cl,X⟩,⟨[s.WO,.xl (.int aw) s.Fq],47,.cl,X⟩,⟨[s.b2],3,.cl,X⟩,⟨[s.b3],3,.cl,X⟩,⟨[.fn 246 []],342,.cl,X⟩,⟨[.os 8 2 0<|M s.b8],235,.cl,X⟩,⟨[.junk,.junk,.junk,.own 5 0,.v<|.tuple #[],.junk,.v<|.tuple #[],.v<|.tuple #[],.v<|.tuple #[],.v<|.tuple #[],.v<|.tuple #[],.junk],0,.Cq aWu aaS aaQ s.st,X⟩,⟨[s.I4,.os 9 1 0<|M s.b9],47,.cl,X⟩,bV 47 Bo s.b8,bV 5 (.int aw) s.b9],λv b=>⟨AL v 4,AL v 5,Am b 0 0,AF (.int aw) b 0 1,Am b 1 0,AF (.int aw) b 1 1,Am b 2 0,Am b 3 0,Am b 7 0,Ab Bo b 8,Ab (.int aw) b 9,.ready⟩,pN,λs r=> {r with n:=s.n,I7:=s.I7,I8:=s.I8,WO:=s.WO,Fq:=s.Fq,b2:=s.b2,b3:=s.b3,I4:=s.I4,st:=s.st},λs=> {s with st:=.ready},λx s=> {s with st:=(match x with| .exit 0=> .ready|_=> .ready)},[.exit 0],qJ,dN,aCd⟩
abbrev XF:=dV.run
abbrev ai8:=dV.At
def xd:aN:=[Xj,aXB]
def aif:Ax:=kI xd<|la 3 func248 uy<|l0 xd
def alh:Rq dN pN:=by
 intro s hI;refine ⟨λc1=>⟨?_,?_,?_,?_,?_,?_,?_,?_,?_,?_,?_,ak⟩,λc1=>⟨A9,A9,ak⟩⟩
 all_goals ((obtain ⟨ht,⟨h0,h1⟩,⟨hn,hn0,ha,hl,h4⟩,hb,ho⟩:=hI;have hbl:M s.b9=M s.Fq:=aR4;have c1:s.i<s.n:=A8;have wa:AA (s.b2+s.i)=s.b2+s.i:=AI;have hB:leB s=F5 s.Fq s.b2 (s.i.toNat+1):=aPg;have hBl:M (leB s)=M s.Fq:=aR5;have hC:(leC s).take ((M s.b9:aC):Y).toNat=leB s:=aQ3;(first|omega|exact ⟨rfl,AJ⟩ |(rw [wa];omega) |(rw [hC];simp only [BG,Bm,C3,ho,GK,Sq,Em];omega) |(rw [hBl];omega) |(rw [C2,CV,Tq A0];omega) |(rw [C2,Tq A0,s9 A0];omega))))
def aaE:dV.Ok:={}
def aai:dV.Pf (yi):=⟨apI,λs h=>by
 obtain ⟨n,i,I7,I8,WO,Fq,b2,b3,I4,b8,b9,st⟩:=s
 have e:=h.1
 subst e;rfl,amH,alh⟩
def aRW:=s2 (b:=bN f248 0) aaE aai xd aif
def ahL:Fi qJ dN yi ai8 XF:=AR.fin aaE aai
def V6 (se:Y) (fl:aB) (a:Y) (d:aB):bc:=if FG se fl a d=0 then Dw se fl a d else []
def Dz (se:Y) (fl:aB) (s:Y):bc:=if IU se fl s=0 then erL se fl s else []
def aVf:aD->T LV
 | [.agg [.v (ag J se),.xl (.int aw) fl],.v (ag J at_),.xl (.int aw) d]=> .req (M d<=1000000) (.ok<|.AQ [.xl Bo<|V6 se fl at_ d,FG se fl at_ d])
 |_=> .no
def adR (se:Y) (fl:aB) (at_:Y) (d:aB):MB:=(⟨(M d:Y),0,se,fl,d,se,fl,at_,(M d:Y),se,[(se,((BF (((BF fl<|aq (M fl:Y).toNat (0:Y)).drop 0).take (M fl:Y).toNat)<|aq (((M fl:Y).toNat:aC):Y).toNat (0:Y)).drop 0).take (((M fl:Y).toNat:aC):Y).toNat)],BF fl<|aq (M fl:Y).toNat (0:Y),.ready⟩:MB)
def xc:aN:=[Xj,aXA]
def aie:Ax:=kI xc<|la 3 func248 aRW<|la 3 func248 uy<|l0 xc
def alH:=vo (S:=aVf) func235 xc aie (λargs lv h=>by
 unfold aVf at h;split at h
 ·rename_i se fl at_ d
  refine Aq (letI b:=(M fl:Y);letI c:=(BF fl<|aq b.toNat (0:Y));letI e:=((b.toNat:aC):Y);letI g:=adR se fl at_ d;letI i:=(c.drop 0).take b.toNat;letI a:=(BF i<|aq e.toNat (0:Y));letI f:=(se,(a.drop 0).take e.toNat);.br ((!(Ho se fl)) ||(an<|at_<0)) (.ok<|.AQ [.xl Bo ([]:bc),(1:Y)])<|.br (an<|at_>(AA<|b-(M d:Y))) (.ok<|.AQ [.xl Bo ([]:bc),(3:Y)])<|.rm 1 b<|.rc b (0:Y) (M fl)<|.rm 1 e<|.req (0+b.toNat<=M c)<|.rc e (0:Y) (M i)<|.req (0+e.toNat<=M a)<|.req ((M ([f]):Y)*32<=2^47/\(M ([f]):Y)<2^62)<|.rl ([f])<|.re b.toNat c<|.req (dd.q g)<|.rz (iL g).b9<|.ok<|.AQ [.xl Bo<|((iL g).b9.drop 0).take<|M (iL g).b9,(0:Y)]) ?_;obtain ⟨hd,rfl⟩:=h;refine ⟨λc1=>?_,λc1=>⟨λc2=>?_,λc2=>?_⟩⟩
  ·have hE:FG se fl at_ d=1:=by unfold FG;rw [AD c1]
   unfold V6;rw [hE];rfl
  all_goals have c1':Ho se fl=U/\0<=at_:=by simp at c1;omega
  all_goals have hv:=NZ.1 c1'.1
  all_goals rw [AI (x:=(M fl:Y)-(M d:Y))] at c2
  ·have hE:FG se fl at_ d=3:=by unfold FG;rw [AE cd,AD<|DJ c2]
   unfold V6;rw [hE];rfl
  have c2:at_<=(M fl:Y)-(M d:Y):=Dl
  have hE:FG se fl at_ d=0:=by unfold FG;rw [AE cd,AE A0]
  have z1:BF fl (aq (M fl:Y).toNat (0:Y))=fl:=aR9
  have z2:((BF (((BF fl<|aq (M fl:Y).toNat (0:Y)).drop 0).take (M fl:Y).toNat)<|aq (((M fl:Y).toNat:aC):Y).toNat (0:Y)).drop 0).take (((M fl:Y).toNat:aC):Y).toNat=fl:=by
   rw [z1,C2,C2];exact rI rfl
  have z5:BF (((BF fl<|aq (M fl:Y).toNat (0:Y)).drop 0).take (M fl:Y).toNat) (aq (((M fl:Y).toNat:aC):Y).toNat (0:Y))=fl:=by
   grind
  have z6:((BF fl<|aq (M fl:Y).toNat (0:Y)).drop 0).take (M fl:Y).toNat=fl:=by
   rw [z1,C2,Tq rfl]
  have hL:qH (adR se fl at_ d):=⟨rfl,rfl,⟨rfl,by show (0:Y)<=(M d:Y);omega,c1'.2,by show at_+(M d:Y)<=(M fl:Y);omega,hv.2.2.2.1⟩,z1,aQn⟩
  obtain ⟨s',_,q1,q2⟩:=ai2 _ hL;refine ⟨?_,?_,?_,?_,?_,?_,?_,A9,?_,⟨hL,rfl,rfl⟩,A0,?_⟩
  iterate 8 · (first|omega|(rw [z6,CV];omega) |(rw [CV];omega) |(rw [z5];omega) |(rw [z1];omega) |(simp only [Bm,C3];decide))
  unfold V6;rw [AD hE,hE,CZ,Dj<|Au _,q2];rfl
 ·cases h)
def aWJ:aD->T LV
 | [.agg [.v (ag J se),.xl (.int aw) fl],.v (ag J sc)]=> .ok (.AQ [.xl Bo<|Dz se fl sc,IU se fl sc])
 |_=> .no
def qm (se:Y) (fl:aB) (sc:Y):MC:=(⟨se,0,se,fl,se,fl,AA<|sc*se,se,se,[(se,((BF (((BF fl<|aq (M fl:Y).toNat (0:Y)).drop 0).take (M fl:Y).toNat)<|aq (((M fl:Y).toNat:aC):Y).toNat (0:Y)).drop 0).take (((M fl:Y).toNat:aC):Y).toNat)],BF fl<|aq (M fl:Y).toNat (0:Y),.ready⟩:MC)
def xb:aN:=[Xj,aXB]
def aid:Ax:=kI xb<|la 3 func248 aRW<|la 3 func248 uy<|l0 xb
def aXC:=vo (S:=aWJ) func239 xb aid (λargs lv h=>by
 unfold aWJ at h;split at h
 ·rename_i se fl sc
  refine Aq (letI b:=(M fl:Y);letI c:=(BF fl<|aq b.toNat (0:Y));letI d:=((b.toNat:aC):Y);letI f:=qm se fl sc;letI g:=(c.drop 0).take b.toNat;letI a:=(BF g<|aq d.toNat (0:Y));letI e:=(se,(a.drop 0).take d.toNat);.br (!(Ho se fl)) (.ok<|.AQ [.xl Bo ([]:bc),(1:Y)])<|.br (an<|sc<0) (.ok<|.AQ [.xl Bo ([]:bc),(1:Y)])<|.req (se≠0)<|.br (an<|sc>=(AA<|b.tdiv se)) (.ok<|.AQ [.xl Bo ([]:bc),(1:Y)])<|.rm 1 b<|.rc b (0:Y) (M fl)<|.rm 1 d<|.req (0+b.toNat<=M c)<|.rc d (0:Y) (M g)<|.req (0+d.toNat<=M a)<|.req ((M ([e]):Y)*32<=2^47/\(M ([e]):Y)<2^62)<|.rl ([e])<|.re b.toNat c<|.req (dV.q f)<|.rz (XF f).b8<|.ok<|.AQ [.xl Bo<|((XF f).b8.drop 0).take<|M (XF f).b8,(0:Y)]) ?_;obtain rfl:=h
  have bad:IU se fl sc=1->LV.AQ [.xl Bo ([]:bc),.v<|ag J 1]=LV.AQ [.xl Bo<|Dz se fl sc,.v<|ag J<|IU se fl sc]:=λhE=>by unfold Dz;rw [hE];rfl
  refine ⟨λc1=>bad ?_,λc1=>⟨λc2=>bad ?_,λc2=>⟨?_,λc3=>bad ?_,λc3=>?_⟩⟩⟩
  ·unfold IU;rw [AD (by rw [c1];rfl)]
  ·unfold IU;rw [AD<|by rw [c2,Bool.true_or,Ob]]
  all_goals have hv:=NZ.1 AX
  ·omega
  all_goals have hd:0<=(M fl:Y).tdiv se/\(M fl:Y).tdiv se<=(M fl:Y):=(by rw [I0 A0];exact ⟨Sl A0 A0,VB _ A0⟩)
  all_goals (rw [AI (x:=(M fl:Y).tdiv se)] at c3)
  ·unfold IU;rw [AD<|by rw [c3,Ob,Ob]]
  have hE:IU se fl sc=0:=by unfold IU;rw [AE (by rw [c1,c2,c3];decide)]
  have c2:0<=sc:=Dl
  have c3:sc<(M fl:Y).tdiv se:=NI
  have hm:sc*se+se<=(M fl:Y):=by
   have h1:(sc+1)*se<=(M fl:Y).tdiv se*se:=Gn A0 A0
   have h2:(M fl:Y).tdiv se*se<=(M fl:Y):=by
    rw [I0 A0];exact Int.ediv_mul_le _ A0
   have h3:(sc+1)*se=sc*se+se:=by rw [VF,Zz]
   omega
  have hn:0<=sc*se:=F7 c2 A0
  have wm:AA (sc*se)=sc*se:=AI
  have z1:BF fl (aq (M fl:Y).toNat (0:Y))=fl:=aR9
  have z2:((BF (((BF fl<|aq (M fl:Y).toNat (0:Y)).drop 0).take (M fl:Y).toNat)<|aq (((M fl:Y).toNat:aC):Y).toNat (0:Y)).drop 0).take (((M fl:Y).toNat:aC):Y).toNat=fl:=by
   rw [z1,C2,C2];exact rI rfl
  have z5:BF (((BF fl<|aq (M fl:Y).toNat (0:Y)).drop 0).take (M fl:Y).toNat) (aq (((M fl:Y).toNat:aC):Y).toNat (0:Y))=fl:=by
   grind
  have z6:((BF fl<|aq (M fl:Y).toNat (0:Y)).drop 0).take (M fl:Y).toNat=fl:=by
   rw [z1,C2,Tq rfl]
  have hL:qJ (qm se fl sc):=⟨rfl,rfl,⟨rfl,by show (0:Y)<=se;omega,by show 0<=AA (sc*se);omega,by show AA (sc*se)+se<=(M fl:Y);omega,hv.2.2.2.1⟩,z1,aQn⟩
  obtain ⟨s',_,q1,q2⟩:=ahL _ hL
  have q2:(XF<|qm se fl sc).b8=(au<|se.toNat+1).map (λk:aC=>(se,F5 fl (AA<|sc*se) k)):=q2
  rw [wm] at q2
  have q2:(XF<|qm se fl sc).b8=erL se fl sc:=q2
  refine ⟨?_,?_,?_,?_,?_,?_,?_,A9,?_,⟨hL,rfl,rfl⟩,A0,?_⟩
  iterate 8 · (first|omega|(rw [z6,CV];omega) |(rw [CV];omega) |(rw [z5];omega) |(rw [z1];omega) |(simp only [Bm,C3];decide))
  unfold Dz;rw [AD hE,hE,CZ,Dj<|Au _,q2];rfl
 ·cases h)
def axN:aD->T LV:=λ_=> .no
def fZ:VV 1000235 axN:=by
 intro _ _ _ _ _ _ _ _ _ h;exact h.elim
def BW (al:bc):Fl:=Gc al<|(M al:Y)-1
def Jb (al:bc) (er a:Y) (d:aB):Y:=if FG (BW al).1 (BW al).2 a d=0 then er else FG (BW al).1 (BW al).2 a d
def spA (al:bc) (a:Y) (d:aB):bc:=if FG (BW al).1 (BW al).2 a d=0 then al++(Dw (BW al).1 (BW al).2 a d).drop 1 else al
def aUz:W1:=λi=>if i=10 then ah ([9,10,11],[]) else if i=11 then ah ([9,10,11],[]) else aj
structure H7 where
 at_:Y
 d:aB
 er:Y
 al:bc
def UL (s:H7):aD:=[.own 0 0,s.at_,.xl (.int aw) s.d]
def ZO (s:H7):aG:=[⟨[.os 1 2 0<|M s.al,s.er],336,.cl,X⟩,bV 47 Bo s.al]
structure Yb where
 er:Y
 al:bc
def ab9 (s:Yb):LV:=.v<|.tuple #[]
def acn (s:Yb):aG:=[⟨[.os 2 2 0<|M s.al,s.er],336,.cl,X⟩,⟨[],47,.dead,X⟩,bV 47 Bo s.al]
def aEY (s:H7):Y:=(AA<|((M s.al:aC):Y)-1)
def WD (s:H7):Fl:=(s.al.getD (aEY s).toNat<|Ty.dflt Bo)
def jl (s:H7):T Yb:=letI c:=FG (WD s).1 (WD s).2 s.at_ s.d;letI e:=V6 (WD s).1 (WD s).2 s.at_ s.d;letI b:=(M e:Y);letI a:=((e.drop (1:Y).toNat).take<|b.toNat-(1:Y).toNat);.ik (aEY s) (M s.al)<|.req (M s.d<=1000000)<|.br (!(c==(0:Y))) (.rl s.al<|.ok<|⟨c,s.al⟩)<|.req (0<=(1:Y)/\(1:Y)<=b/\b<=b)<|.rb (M s.al) (M a) 32<|.re (M s.al+M a) (s.al++a)<|.ok<|⟨s.er,s.al++a⟩
def aE7 (s:H7):Prop:=s.al≠ []/\M s.al<=4000000/\M s.d<=5000
def aCD (s:H7):Yb:=⟨Jb s.al s.er s.at_ s.d,spA s.al s.at_ s.d⟩
def Uc:DA H7 Yb:=⟨UL,ZO,λv b=>⟨AL v 1,B1 (.int aw) v 2,Am b 0 1,Ab Bo b 1⟩,aE7,[],[.ms 1 0],ab9,acn,aCD⟩
abbrev jI (s:H7):Prop:=aE7 s/\UL s=UL s/\ZO s=ZO s
def X9:aN:=[alH,jV,fZ]
def aUW:Ax:=kI X9<|l0 X9
def aWZ:DZ:=EM prog AT X9 20 2
def aru:EZ prog AT aWZ:=I9<|gk X9
def agV (s:H7):((Ep prog AT X9 aWZ aUW).k 211 (UL s)<|ZO s).bind (λq=>GW (M<|ZO s) [0] [.ms 1 0] .normal (q.1::UL s) q.2)=(jl s).mp (λs2=>⟨.normal,M (UL s)+1,[ab9 s2],acn s2,U⟩):=AV
def ayD (s:H7) (hE:aE7 s):(jl s).all (λq=>q=aCD s):=by
 obtain ⟨h0,h1,h2⟩:=hE
 have hp:=Og.2 h0
 have w:aEY s=(M s.al:Y)-1:=AI
 have hY:WD s=BW s.al:=by unfold WD BW Gc;rw [w];rfl
 unfold jl aCD Jb spA;rw [w,hY];refine ⟨A0,A0,A0,λc1=>?_,λc1=>?_⟩
 ·have c1:¬FG (BW s.al).1 (BW s.al).2 s.at_ s.d=0:=A8
  rw [AE c1,AE c1];exact ⟨A9,rfl⟩
 ·have c1:FG (BW s.al).1 (BW s.al).2 s.at_ s.d=0:=A8
  have hR:V6 (BW s.al).1 (BW s.al).2 s.at_ s.d=Dw (BW s.al).1 (BW s.al).2 s.at_ s.d:=AD c1
  have hl:M (Dw (BW s.al).1 (BW s.al).2 s.at_ s.d)=M s.d+1:=by unfold Dw;simp
  rw [AD c1,AD c1,hR,hl];rw [Dj A8];refine ⟨A0,A8,AJ,rfl⟩
def jN:Dn prog AT 211 Uc.m:=DA.sound (D:=Uc) (t:=jl) (gk X9) aru aUW.h agV λs hE=>⟨ayD s hE⟩
def Ji:Y->aI->Bool
 |_,[]=>U
 |left,d::ds=>if (an ((M d:Y)>65535) ||an (7+(M d:Y)>left))=U then X else Ji (left-(7+(M d:Y))) ds
def aUj:∀(ds:aI) (left:Y),0<=left->Ji left ds=(an ((((ds.map λd=>7+M d).sum:aC):Y)<=left)&&ds.all (λd=>an<|M d<=65535))
 | [],left,h=>by simp [Ji,h]
 | d::ds,left,h=>by
  simp only [Ji,ES,List.sum_cons,J2];split
  ·rename_i hc
   rw [Eq.comm,IX];intro hh;simp only [CS,AY,Ac] at hc hh;omega
  ·rename_i hc
   simp only [CS,Ac,not_or] at hc;rw [aUj ds _ A0,IZ]
   grind
structure ME where
 r:aM
 left:Y
 l:aI
 (n i:Y)
def aKk:=bN f214 0
def aEV (s:ME):T (Rd ME):=
 .br (an<|s.i<s.n) (.ix s.i (M s.l)<|.br ((an<|(M (gx (e:=.sl<|.int aw) s.l s.i):Y)>65535) ||(an<|(AA<|7+(M (gx (e:=.sl<|.int aw) s.l s.i):Y))>s.left)) (.so (.ret) {s with r:=X})<|.nx {s with left:=AA<|s.left-(AA<|7+(M (gx (e:=.sl<|.int aw) s.l s.i):Y)),i:=AA<|s.i+1}) (.so (.exit 0) s)
def qM (s:ME):Prop:=s.i=0/\s.n<=5000/\s.n=(M s.l:Y)/\IK s.l/\0<=s.left/\s.left<=100000
def qB (s:ME):Prop:=0<=s.i/\s.i<=s.n/\s.n<=5000/\s.n=(M s.l:Y)/\IK s.l/\0<=s.left/\s.left<=100000
def aCf (s:ME):aC:=(s.n-s.i).toNat
def aNL (x:Ex) (s s':ME):Prop:=True
def aox:∀s,qM s->qB s:=by
 exact bQ
def anF:Da qB aCf aNL aEV:=by
 intro s hI;obtain ⟨h0,h1,h2,h3,h4,h5,h6⟩:=hI;refine AH (λc1=>AH (λc2=>trivial) λc2=>?_) λc1=>trivial
 ·have c1:s.i<s.n:=A8
  have hk:=X0 h4 h0 A0
  have w:AA (7+(M (gx (e:=.sl<|.int aw) s.l s.i):Y))=7+(M (gx (e:=.sl<|.int aw) s.l s.i):Y):=AI
  rw [w,AI (x:=s.i+1),AI (x:=s.left-(7+(M (gx (e:=.sl<|.int aw) s.l s.i):Y)))];exact ⟨⟨A8,A8,h2,h3,h4,A8,A8⟩,by simp only [aCf];omega⟩
def Sa:AR ME:=⟨0,32,[4,5,10,11,12],[],λs=>[s.r,s.left,.xl (.sl<|.int aw) s.l,s.n,s.i],λ_=>[],λv b=>⟨EB v 0,AL v 1,B1 (.sl<|.int aw) v 2,AL v 3,AL v 4⟩,aEV,λs r=> {r with l:=s.l,n:=s.n},λs=>s,λ_ s=>s,[.ret,.exit 0],qM,qB,aCf⟩
abbrev aSD:=Sa.run
abbrev aVC:=Sa.At
def aln:Rq qB aEV:=by
 intro s hI;refine ⟨λc1=>⟨?_,λ_=>trivial,λ_=>trivial⟩,λ_=>trivial⟩
 ·exact aOV
def aUM:aN:=[fZ]
def aaI:Sa.Ok:={}
def aam:Sa.Pf (aNL):=⟨aox,λs h=>rfl,anF,aln⟩
def azw:SA 0 aKk Sa:=s1 aaI aam aUM kN
def aiS:Rs qM aVC aSD (λs:ME=>Ji s.left<|s.l.drop s.i.toNat) (λx s' (v:aM)=>(x=.ret/\s'.r=X/\v=X)\/(x=.exit 0/\v=U)):=Dp aaI aam (λs hI=>by
  obtain ⟨h0,h1,h2,h3,h4,h5,h6⟩:=hI;refine AH (λc1=>AH (λc2=>?_) λc2=>?_) λc1=>?_
  ·have c1:s.i<s.n:=A8
   have hk:=X0 h4 h0 A0
   have w:AA (7+(M (gx (e:=.sl<|.int aw) s.l s.i):Y))=7+(M (gx (e:=.sl<|.int aw) s.l s.i):Y):=AI
   rw [w] at c2;refine .inl ⟨rfl,rfl,?_⟩;rw [Wr h0 A0,Ji,AD c2]
  ·have c1:s.i<s.n:=A8
   have hk:=X0 h4 h0 A0
   have w:AA (7+(M (gx (e:=.sl<|.int aw) s.l s.i):Y))=7+(M (gx (e:=.sl<|.int aw) s.l s.i):Y):=AI
   rw [w,AI (x:=s.i+1),AI (x:=s.left-(7+(M (gx (e:=.sl<|.int aw) s.l s.i):Y)))]
   show Ji _ _=Ji _ _
   rw [Wr h0 A0,Ji,AE A8]
  ·have c1:s.n<=s.i:=A8
   refine .inr ⟨rfl,?_⟩;rw [FA A0];rfl)
def aVT:aD->T LV
 | [.xl (.sl (.int aw)) ds,.v (ag J sz)]=> .req ((M ds<=5000/\IK ds)/\5<=sz/\sz<=100000) (.ok<|Ji (sz-5) ds)
 |_=> .no
def aWz:=vm (S:=aVT) func214 aUM kN (L:=(λi=>if i=3 then Sa.lp else Ao i)) (λb hb=>by
 rw [show BC _=[aKk] by kernel_rfl] at hb
 simp only [B6,Bv,Bt] at hb;subst hb;exact azw) (λargs lv h=>by
 unfold aVT at h;split at h
 ·rename_i ds sz
  refine Aq (letI a:=(M ds:Y);.req (Sa.q (⟨X,(AA<|sz-5),ds,a,0⟩:ME))<|.br (Bj (aVC (⟨X,(AA<|sz-5),ds,a,0⟩:ME))<|.ret) (.ok (aSD (⟨X,(AA<|sz-5),ds,a,0⟩:ME)).r)<|.ok U) ?_;obtain ⟨⟨⟨h0,h1⟩,h2,h3⟩,rfl⟩:=h;rw [AI (x:=sz-5)]
  have hE:qM ⟨X,sz-5,ds,(M ds:Y),0⟩:=⟨rfl,aQl,rfl,h1,by show 0<=sz-5;omega,by show sz-5<=100000;omega⟩
  have q:=aiS _ hE
  refine ⟨⟨hE,rfl,rfl⟩,?_⟩
  have e:Ji (sz-5) (ds.drop (0:Y).toNat)=Ji (sz-5) ds:=rfl
  rw [<-e];rcases q with ⟨q1,q2,q3⟩ |⟨q1,q2⟩<;>rw [q1]
  ·refine ⟨λ_=>?_,λhc=>by cases hc⟩
   rw [q2];exact B0 (λz=>LV.v<|.bool z) q3.symm
  ·exact ⟨λhc=>(by cases hc),λ_=>B0 (λz=>LV.v<|.bool z) q2.symm⟩
 ·cases h)
structure O1 where
 n:Y
def V0 (s:O1):aD:=[.v<|ag ax s.n]
def Zm (s:O1):aG:=[]
structure Yn where
 l:aB
def abg (s:Yn):LV:=.os 0 1 0<|M s.l
def acK (s:Yn):aG:=[bV 5 (.int aw) s.l]
def aBx (s:O1):T Yn:=letI a:=IntKind.u8.wrap<|s.n.fdiv<|2^24;letI b:=IntKind.u8.wrap<|s.n.fdiv<|2^16;letI c:=IntKind.u8.wrap<|s.n.fdiv<|2^8;.re 4 [a,b,c,IntKind.u8.wrap s.n]<|.ok<|⟨[a,b,c,IntKind.u8.wrap s.n]⟩
def aEL (s:O1):Prop:=True
def aaT (s:O1):Yn:=⟨D6 s.n⟩
def Ue:DA O1 Yn:=⟨V0,Zm,λv b=>⟨AL v 0⟩,aEL,[],[],abg,acK,aaT⟩
abbrev ak2 (s:O1):Prop:=aEL s/\V0 s=V0 s/\Zm s=Zm s
def iZ:aN:=[aRF]
def aWl:DZ:=EM prog AT (iZ) 20 2
def arp:EZ prog AT aWl:=I9<|gk iZ
def agF (s:O1):((Ep prog AT iZ aWl ER).k 217 (V0 s)<|Zm s).bind (λq=>GW (M<|Zm s) [0] [] .normal (q.1::V0 s) q.2)=(aBx s).mp (λs2=>⟨.normal,M (V0 s)+1,[abg s2],acK s2,U⟩):=AV
def azh (s:O1) (hE:aEL s):(aBx s).all (λq=>q=aaT s):=by
 exact ⟨A9,rfl⟩
def axT:Dn prog AT 217 Ue.m:=DA.sound (D:=Ue) (t:=aBx) (gk iZ) arp Qe agF λs hE=>⟨azh s hE⟩
def xN:Dn prog AT 217 (R5 λa=>Ue.m a []):=aHm axT
def aep (m:bc) (z:Fl):BW (m++[z])=z:=by
 unfold BW Gc
 simp
def tz {f:aC->Fl}{n:aC}(h:1<=n) (al:bc):BW (al++((au<|n+1).map f).drop 1)=f n:=by
 rw [Sk,KJ,ES,LO,aNV A8,<-Cw];exact aep _ _
def uW {se:Y}{a b:aB}(h:M a=M b):Ho se a=Ho se b:=by unfold Ho;rw [h]
def am1 {se:Y}{fl:aB}(h:FF se fl=U) {i:Y}(h0:0<=i) (h1:i<(M fl:Y).tdiv se):0<=i*se/\(i+1)*se=i*se+se/\i*se+se<=(M fl:Y):=by
 obtain ⟨hf,h2,h3,h4,h5⟩:=MX.1 h
 have hm:=(NZ.1 hf).2.2.2.2
 have e:=Zw (M fl:Y) se
 have h6:(i+1)*se=i*se+se:=A8
 have h7:(i+1)*se<=(M fl:Y).tdiv se*se:=Gn A0 A0
 rw [VH] at e;exact ⟨F7 h0 A0,h6,A0⟩
structure OA where
 r:aM
 l:aB
 (n i uO aEi:Y)
 af0:aI
 yF:Y
 tP:aM
 (er se:Y)
 fl:aB
 al:bc
def aBK (s:OA):T (Rd OA):=
 .br (an<|s.i<s.n) (.ix s.i (M s.l)<|.br ((gi s.l s.i) !=255) (.rl s.al<|.so (.ret) {s with r:=U})<|.rl s.al<|.nx {s with i:=AA<|s.i+1}) (.rl s.al<|.so (.exit 0) s)
def mZ (s:OA):Prop:=s.i=0/\s.n<=4096/\s.n=(M s.l:Y)
def lH (s:OA):Prop:=0<=s.i/\s.i<=s.n/\s.n<=4096/\s.n=(M s.l:Y)
def vR (s:OA):aC:=(s.n-s.i).toNat
def ab2 (x:Ex) (s s':OA):Prop:=True
def am7:∀s,mZ s->lH s:=by
 exact nz
def azK:Da lH vR ab2 aBK:=by
 intro s hI;obtain ⟨h0,h1,h2,h3⟩:=hI;refine AH (λc1=>AH (λc2=>trivial) λc2=>?_) λc1=>trivial
 have c1:s.i<s.n:=A8
 rw [AI (x:=s.i+1)];exact ⟨⟨A8,A8,h2,h3⟩,by simp only [vR];omega⟩
def ZD:AR OA:=⟨4,26,[3,17,18,19],[],λs=>[s.r,.xl (.int aw) s.l,s.n,s.i],λs=>[⟨[s.uO,.v<|ag ax s.aEi,.xl (.sl<|.int aw) s.af0,s.yF,s.tP],266,.cl,X⟩,⟨[.os 3 2 0<|M s.al,s.er],336,.cl,X⟩,⟨[s.se,.xl (.int aw) s.fl],47,.cl,X⟩,bV 47 Bo s.al],λv b=>⟨EB v 0,B1 (.int aw) v 1,AL v 2,AL v 3,Am b 0 0,Am b 0 1,AF (.sl<|.int aw) b 0 2,Am b 0 3,cgB b 0 4,Am b 1 1,Am b 2 0,AF (.int aw) b 2 1,Ab Bo b 3⟩,aBK,λs r=> {s with r:=r.r,i:=r.i},λs=>s,λ_ s=>s,[.ret,.exit 0],mZ,lH,vR⟩
abbrev tl:=ZD.run
abbrev gV:=ZD.At
def X8:aN:=[iQ,aAx,aWz,jV,aXC,fZ]
def aic:Ax:=IT X8 (l0 X8) [⟨211,Uc.m,jN⟩,⟨217,R5 λa=>Ue.m a [],xN⟩]
def az5:Rq lH aBK:=by
 exact aOK
def aTk:ZD.Ok:={}
def aS4:ZD.Pf (ab2):=⟨am7,λs h=>rfl,azK,az5⟩
def tZ:=s2 (b:=bN f215 0) aTk aS4 X8 aic
def atr:Rs mZ gV tl (λs:OA=>(s.l.drop s.i.toNat).all λb=>b==255) (λx s' (v:aM)=>(x=.ret/\s'.r=U/\v=X)\/(x=.exit 0/\v=U)):=Dp aTk aS4 (λs hI=>by
  obtain ⟨h0,h1,h2,h3⟩:=hI;refine AH (λc1=>AH (λc2=>?_) λc2=>?_) λc1=>?_
  ·have c1:s.i<s.n:=A8
   refine .inl ⟨rfl,rfl,?_⟩
   have:(gi s.l s.i==255)=false:=A8
   rw [(gi_step h0 A0).1,J2,this];rfl
  ·have c1:s.i<s.n:=A8
   have:(gi s.l s.i==255)=true:=A8
   rw [AI (x:=s.i+1)]
   show List.all _ _=List.all _ _
   rw [(gi_step h0 A0).1,J2,this,ET]
  ·have c1:s.n<=s.i:=A8
   refine .inr ⟨rfl,?_⟩;rw [FA A0];rfl)
structure HB where
 keep:aI
 (half other Ds i Ts WC:Y)
 rL:aI
 Uv:Y
 JH:aM
 (er se:Y)
 fl:aB
 al:bc
def aKg:=bN f177 0
def J9 (s:HB):OA:=(⟨X,(s.fl.drop (AA<|s.i*s.se).toNat).take<|(AA<|(AA<|s.i+1)*s.se).toNat-(AA<|s.i*s.se).toNat,(M ((s.fl.drop (AA<|s.i*s.se).toNat).take<|(AA<|(AA<|s.i+1)*s.se).toNat-(AA<|s.i*s.se).toNat):Y),0,s.Ts,s.WC,s.rL,s.Uv,s.JH,s.er,s.se,s.fl,s.al⟩:OA)
def Ge (s:HB):Y:=(AA<|(AA<|s.other+1)*s.Ds)
def reI (s:HB):Y:=(AA<|((M s.al:aC):Y)-1)
def Bl (s:HB):Fl:=(s.al.getD (reI s).toNat<|Ty.dflt Bo)
def Vr (s:HB):T (Rd HB):=
 .br (an<|s.i<(Ge s)) (.req (0<=(AA<|s.i*s.se)/\(AA<|s.i*s.se)<=(AA<|(AA<|s.i+1)*s.se)/\(AA<|(AA<|s.i+1)*s.se)<=(M s.fl:Y))<|.rl s.al<|.req (ZD.q<|J9 s)<|.br (Bj (gV<|J9 s)<|.ret) (.br (tl<|J9 s).r (.ik (reI s) (M s.al)<|.br (!((IU (Bl s).1 (Bl s).2 s.i)==(0:Y))) (.rl s.al<|.nx {s with i:=AA<|s.i+1,er:=IU (Bl s).1 (Bl s).2 s.i})<|.req (0<=(1:Y)/\(1:Y)<=(M (Dz (Bl s).1 (Bl s).2 s.i):Y)/\(M (Dz (Bl s).1 (Bl s).2 s.i):Y)<=(M (Dz (Bl s).1 (Bl s).2 s.i):Y))<|.rb (M s.al) (M<|((Dz (Bl s).1 (Bl s).2 s.i).drop (1:Y).toNat).take<|(M (Dz (Bl s).1 (Bl s).2 s.i):Y).toNat-(1:Y).toNat) 32<|.re (M s.al+M (((Dz (Bl s).1 (Bl s).2 s.i).drop (1:Y).toNat).take<|(M (Dz (Bl s).1 (Bl s).2 s.i):Y).toNat-(1:Y).toNat)) (s.al++(((Dz (Bl s).1 (Bl s).2 s.i).drop (1:Y).toNat).take<|(M (Dz (Bl s).1 (Bl s).2 s.i):Y).toNat-(1:Y).toNat))<|.nx {s with i:=AA<|s.i+1,al:=s.al++(((Dz (Bl s).1 (Bl s).2 s.i).drop (1:Y).toNat).take<|(M (Dz (Bl s).1 (Bl s).2 s.i):Y).toNat-(1:Y).toNat)})<|.rl s.al<|.nx {s with i:=AA<|s.i+1})<|.br X (.ik (reI s) (M s.al)<|.br (!((IU (Bl s).1 (Bl s).2 s.i)==(0:Y))) (.rl s.al<|.nx {s with i:=AA<|s.i+1,er:=IU (Bl s).1 (Bl s).2 s.i})<|.req (0<=(1:Y)/\(1:Y)<=(M (Dz (Bl s).1 (Bl s).2 s.i):Y)/\(M (Dz (Bl s).1 (Bl s).2 s.i):Y)<=(M (Dz (Bl s).1 (Bl s).2 s.i):Y))<|.rb (M s.al) (M<|((Dz (Bl s).1 (Bl s).2 s.i).drop (1:Y).toNat).take<|(M (Dz (Bl s).1 (Bl s).2 s.i):Y).toNat-(1:Y).toNat) 32<|.re (M s.al+M (((Dz (Bl s).1 (Bl s).2 s.i).drop (1:Y).toNat).take<|(M (Dz (Bl s).1 (Bl s).2 s.i):Y).toNat-(1:Y).toNat)) (s.al++(((Dz (Bl s).1 (Bl s).2 s.i).drop (1:Y).toNat).take<|(M (Dz (Bl s).1 (Bl s).2 s.i):Y).toNat-(1:Y).toNat))<|.nx {s with i:=AA<|s.i+1,al:=s.al++(((Dz (Bl s).1 (Bl s).2 s.i).drop (1:Y).toNat).take<|(M (Dz (Bl s).1 (Bl s).2 s.i):Y).toNat-(1:Y).toNat)})<|.rl s.al<|.nx {s with i:=AA<|s.i+1}) (.rl s.al<|.so (.exit 0) s)
def KR (s:HB):Prop:=FF s.se s.fl=U/\(s.other=0\/s.other=1)/\s.Ds*2=(M s.fl:Y).tdiv s.se
def dZ (s:HB):Prop:=s.i=s.other*s.Ds/\KR s/\s.er=0/\M s.al=1/\(BW s.al).1=s.se/\M (BW s.al).2=M s.fl
def N7 (s:HB):Prop:=(s.other*s.Ds<=s.i/\s.i<=(s.other+1)*s.Ds)/\KR s/\s.er=0/\(s.al≠ []/\(M s.al:Y)<=1+600*s.i)/\(BW s.al).1=s.se/\M (BW s.al).2=M s.fl
def Y1 (s:HB):aC:=(Ge s-s.i).toNat
def yg (x:Ex) (s s':HB):Prop:=x=.exit 0/\s'.er=0/\(s'.al≠ []/\(M s'.al:Y)<=3000000)/\(BW s'.al).1=s'.se/\M (BW s'.al).2=M s'.fl
def ap7:∀s,dZ s->N7 s:=by
 rintro s ⟨h0,⟨h1,h2,h3⟩,h4,h5,h6,h7⟩
 have hj:=MX.1 h1
 have hs0:0<=s.Ds:=by have:0<=(M s.fl:Y).tdiv s.se:=(by rw [I0 A0];exact Sl A0 A0);omega
 have hz0:(s.other+1)*s.Ds=s.other*s.Ds+s.Ds:=A8
 have ho:0<=s.other*s.Ds:=A8
 exact ⟨⟨A0,A0⟩,⟨h1,h2,h3⟩,h4,⟨A8,A0⟩,h6,h7⟩
def Vi (s:HB) (hI:N7 s) (c1:an (s.i<Ge s)=U):reI s=(M s.al:Y)-1/\Bl s=BW s.al/\AA (s.i*s.se)=s.i*s.se/\AA (AA (s.i+1)*s.se)=s.i*s.se+s.se/\AA (s.i+1)=s.i+1/\
  IU (BW s.al).1 (BW s.al).2 s.i=0/\Dz (BW s.al).1 (BW s.al).2 s.i=erL (BW s.al).1 (BW s.al).2 s.i/\M (erL (BW s.al).1 (BW s.al).2 s.i)=s.se.toNat+1/\0<=s.i*s.se/\s.i*s.se+s.se<=(M s.fl:Y)/\1<=s.se/\s.se<=512/\s.i<Ge s/\0<=s.i/\s.i<=4096/\M s.fl<=4096/\Ge s=(s.other+1)*s.Ds:=by
 obtain ⟨h0,⟨h1,h2,h3⟩,h4,h5,h6,h7⟩:=hI
 have hj:=MX.1 h1
 have hf:=NZ.1 hj.1
 have hq:(M s.fl:Y).tdiv s.se<=(M s.fl:Y):=aQO
 have hp:=Og.2 h5.1
 have hz0:(s.other+1)*s.Ds=s.other*s.Ds+s.Ds:=by rw [VF,Zz]
 have ho:s.other*s.Ds=0\/s.other*s.Ds=s.Ds:=by rcases h2 with e|e<;>rw [e]<;>simp
 have hz:Ge s=s.other*s.Ds+s.Ds:=by unfold Ge;rw [AI (x:=s.other+1),hz0];exact AI
 have c1:s.i<Ge s:=DJ c1
 have hi:reI s=(M s.al:Y)-1:=AI
 have hk:=am1 h1 (i:=s.i) A0 A0
 have hfl:Ho s.se (BW s.al).2=true:=by rw [uW h7];exact hj.1
 have hE:IU (BW s.al).1 (BW s.al).2 s.i=0:=by unfold IU;rw [h6,hfl,h7,AE A8]
 refine ⟨hi,by unfold Bl BW Gc;rw [hi];rfl,AI,by rw [AI (x:=s.i+1),hk.2.1];exact AI,AI,hE,AD hE,by unfold erL;rw [h6];simp,A0,A0,A0,A0,c1,A0,A0,A0,A0⟩
def aWv (s:HB) (hI:N7 s) (c1:an (s.i<Ge s)=U):mZ (J9 s):=by
 obtain ⟨hi,hy,w1,w2,wi,hE,hR,hl,n1,n2,n3,n4,n5,n6,n7,n8,n9⟩:=Vi s hI c1;refine ⟨rfl,?_,rfl⟩
 show ((M (List.take _<|List.drop _ s.fl):aC):Y)<=4096
 simp only [MG,FQ];omega
def ap6 (s:HB) (hI:N7 s):(M s.al:Y)<=3000000:=by
 obtain ⟨h0,⟨h1,h2,h3⟩,h4,h5,h6,h7⟩:=hI
 have hj:=MX.1 h1
 have hq:(M s.fl:Y).tdiv s.se<=(M s.fl:Y):=aQO
 have hz0:(s.other+1)*s.Ds=s.other*s.Ds+s.Ds:=A8
 have ho:s.other*s.Ds=0\/s.other*s.Ds=s.Ds:=A8
 omega
def aMh (s:HB) (hI:N7 s) (c1:an (s.i<Ge s)=U):BW (s.al++(erL (BW s.al).1 (BW s.al).2 s.i).drop 1)=(s.se,F5 (BW s.al).2 (s.i*s.se) s.se.toNat):=by
 obtain ⟨hi,hy,w1,w2,wi,hE,hR,hl,n1,n2,n3,n4,n5,n6,n7,n8,n9⟩:=Vi s hI c1;rw [hI.2.2.2.2.1];exact tz (f:=λk=>(s.se,F5 (BW s.al).2 (s.i*s.se) k)) (n:=s.se.toNat) A0 s.al
def alO:Da N7 Y1 yg Vr:=by
 intro s hI;unfold Vr;dsimp only [T.rd,T.rl,T.rv];refine AH (λc1=>?_) λc1=>⟨rfl,hI.2.2.1,⟨hI.2.2.2.1.1,ap6 s hI⟩,hI.2.2.2.2.1,hI.2.2.2.2.2⟩
 have hL:=aMh s hI c1
 obtain ⟨hi,hy,w1,w2,wi,hE,hR,hl,n1,n2,n3,n4,n5,n6,n7,n8,n9⟩:=Vi s hI c1;obtain ⟨h0,hK,h4,h5,h6,h7⟩:=hI
 have st:∀al:bc,al≠ []->(M al:Y)<=601+600*s.i->(BW al).1=s.se->M (BW al).2=M s.fl->N7 {s with i:=s.i+1,al:=al}/\Y1 {s with i:=s.i+1,al:=al}<Y1 s:=λal a1 a2 a3 a4=>
  ⟨⟨⟨Aa,Aa⟩,hK,h4,⟨a1,Aa⟩,a3,a4⟩,by simp only [Y1];show (Ge s-(s.i+1)).toNat<_;omega⟩
 rw [wi];refine AH (λc2=>AH (λc3=>AH (λc4=>?_) λc4=>?_) λc3=>?_) λc2=>?_
 ·grind
 ·rw [hy,hR,Dj (by rw [FQ,hl];omega)]
  refine st _ (by simp [h5.1]) A8 ?_ ?_
  ·grind
  ·show M (BW<|s.al++List.drop 1 _).2=_;rw [hL,ep];exact h7
 all_goals exact st s.al h5.1 A0 h6 h7
def QG:AR HB:=⟨0,97,[1,6,8,9,10,11,12,13],[],λs=>[.xl (.sl<|.int aw) s.keep,.own 0 0,s.half,.own 1 0,s.other,.fn 215 [.own 2 0],s.Ds,s.i],λs=>[⟨[s.Ts,.v<|ag ax s.WC,.xl (.sl<|.int aw) s.rL,s.Uv,s.JH],266,.cl,X⟩,⟨[.os 3 2 0<|M s.al,s.er],336,.cl,X⟩,⟨[s.se,.xl (.int aw) s.fl],47,.cl,X⟩,bV 47 Bo s.al],λv b=>⟨B1 (.sl<|.int aw) v 0,AL v 2,AL v 4,AL v 6,AL v 7,Am b 0 0,Am b 0 1,AF (.sl<|.int aw) b 0 2,Am b 0 3,cgB b 0 4,Am b 1 1,Am b 2 0,AF (.int aw) b 2 1,Ab Bo b 3⟩,Vr,λs r=> {r with keep:=s.keep,half:=s.half,other:=s.other,Ds:=s.Ds,Ts:=s.Ts,WC:=s.WC,rL:=s.rL,Uv:=s.Uv,JH:=s.JH,se:=s.se,fl:=s.fl},λs=>s,λ_ s=>s,[.exit 0],dZ,N7,Y1⟩
abbrev FC:=QG.run
abbrev aV9:=QG.At
def ald:Rq N7 Vr:=by
 intro s hI;refine ⟨λc1=>⟨?_,A9,?_,λc2=>⟨λc3=>⟨?_,?_,λc4=>⟨A9,ak⟩,λc4=>⟨?_,?_,?_,ak⟩⟩,λc3=>⟨A9,ak⟩⟩,λc2=>⟨λc5=>⟨?_,?_,λc6=>⟨A9,ak⟩,λc6=>⟨?_,?_,?_,ak⟩⟩,λc5=>⟨A9,ak⟩⟩⟩,λc1=>⟨A9,ak⟩⟩
 ·(have hI':=hI.2.2.2.1;have hp:=Og.2 hI'.1;obtain ⟨hi,hy,w1,w2,wi,hE,hR,hl,n1,n2,n3,n4,n5,n6,n7,n8,n9⟩:=Vi s hI c1;(first|(rw [w1,w2];omega) |(rw [hi];omega) |(rw [hy,hR,hl];omega) |(rw [hy,hR,Dj AJ,FQ,hl];omega) |(simp only [BG,Em])))
 ·exact ⟨aWv s hI c1,rfl,rfl⟩
 iterate 10 · (have hI':=hI.2.2.2.1;have hp:=Og.2 hI'.1;obtain ⟨hi,hy,w1,w2,wi,hE,hR,hl,n1,n2,n3,n4,n5,n6,n7,n8,n9⟩:=Vi s hI c1;(first|(rw [w1,w2];omega) |(rw [hi];omega) |(rw [hy,hR,hl];omega) |(rw [hy,hR,Dj AJ,FQ,hl];omega) |(simp only [BG,Em])))
def aia:Ax:=IT X8 (la 2 func215 tZ<|l0 X8) [⟨211,Uc.m,jN⟩,⟨217,R5 λa=>Ue.m a [],xN⟩]
def aCS:QG.Ok:={}
def aCC:QG.Pf (yg):=⟨ap7,λs h=>rfl,alO,ald⟩
def azq:SA 0 aKg QG:=s1 aCS aCC X8 aia
def agl:Fi dZ N7 yg aV9 FC:=AR.fin aCS aCC
def afH:Rs dZ aV9 FC (λs:HB=>G3 s.se s.fl s.i (Ge s-s.i).toNat (s.al,(BW s.al).2)) (λx s' (v:List Fl×List Int)=>x=.exit 0/\(s'.al,(BW s'.al).2)=v):=Dp aCS aCC (λs hI=>by
  show DF _ _ ((Vr s).rd s)
  unfold Vr;dsimp only [T.rd,T.rl];refine AH (λc1=>?_) λc1=>?_
  ·have hL:=aMh s hI c1
   have q:(gV (J9 s)=.ret/\(tl<|J9 s).r=U/\(((J9 s)).l.drop ((J9 s)).i.toNat).all (λb=>b==255)=X)\/(gV (J9 s)=.exit 0/\(((J9 s)).l.drop ((J9 s)).i.toNat).all (λb=>b==255)=U):=atr _<|aWv s hI c1
   obtain ⟨hi,hy,w1,w2,wi,hE,hR,hl,n1,n2,n3,n4,n5,n6,n7,n8,n9⟩:=Vi s hI c1
   have e:((J9 s)).l.drop ((J9 s)).i.toNat=(s.fl.drop (s.i*s.se).toNat).take s.se.toNat:=by
    show List.drop 0 (List.take _<|List.drop _ s.fl)=_
    grind
   have hw:isW s.se s.fl s.i=!((((J9 s)).l.drop ((J9 s)).i.toNat).all λb=>b==255):=by unfold isW;rw [e]
   have hn:(Ge s-s.i).toNat=(Ge s-(s.i+1)).toNat+1:=A0
   have h6:=hI.2.2.2.2.1
   rw [hn,wi];simp only [G3];refine AH (λc2=>AH (λc3=>AH (λc4=>?_) λc4=>?_) λc3=>?_) λc2=>?_
   ·grind
   ·rcases q with ⟨_,_,q3⟩ |⟨q1,_⟩
    ·rw [hy,hR,Dj AJ,hw,q3]
     show G3 s.se s.fl (s.i+1) (Ge s-(s.i+1)).toNat (s.al++List.drop 1 _,(BW<|s.al++List.drop 1 _).2)=_
     rw [hL,h6];rfl
    ·rw [Wj c2] at q1;cases q1
   ·rcases q with ⟨_,q2,_⟩ |⟨q1,_⟩
    ·rw [q2] at c3;cases c3
    ·rw [Wj c2] at q1;cases q1
   ·rcases q with ⟨q1,_,_⟩ |⟨_,q2⟩
    ·rw [q1] at c2;simp [Bj] at c2
    ·rw [hw,q2]
     rfl
  ·have c1:Ge s<=s.i:=AX
   rw [show (Ge s-s.i).toNat=0 by omega]
   exact ⟨rfl,rfl⟩)
structure N5 where
 (half other:Y)
 l:aI
 (n i er:Y)
 bytes:aB
 al:bc
def aKh:=bN f177 1
def aET (s:N5):T (Rd N5):=
 .br (an<|s.i<s.n) (.ix s.i (M s.l)<|.req (M (gx (e:=.sl<|.int aw) s.l s.i)<=70000)<|.rb (M s.bytes) (M<|C0<|gx (e:=.sl<|.int aw) s.l s.i) 1<|.re (M s.bytes+M (C0<|gx (e:=.sl<|.int aw) s.l s.i)) (s.bytes++(C0<|gx (e:=.sl<|.int aw) s.l s.i))<|.rl s.al<|.nx {s with i:=AA<|s.i+1,bytes:=s.bytes++(C0<|gx (e:=.sl<|.int aw) s.l s.i)}) (.rl s.bytes<|.rl s.al<|.so (.exit 2) s)
def qG (s:N5):Prop:=s.i=0/\s.n<=5000/\s.n=(M s.l:Y)/\IK s.l/\(M s.bytes:Y)<=4+70100*s.i
def pg (s:N5):Prop:=0<=s.i/\s.i<=s.n/\s.n<=5000/\s.n=(M s.l:Y)/\IK s.l/\(M s.bytes:Y)<=4+70100*s.i
def aCa (s:N5):aC:=(s.n-s.i).toNat
def aNI (x:Ex) (s s':N5):Prop:=True
def ap8:∀s,qG s->pg s:=by
 exact bQ
def ams:Da pg aCa aNI aET:=by
 intro s hI;obtain ⟨h0,h1,h2,h3,h4,h5⟩:=hI;refine AH (λc1=>?_) λc1=>trivial
 ·have c1:s.i<s.n:=A8
  have hk:=X0 h4 h0 A0
  have hp:=MR<|gx (e:=.sl<|.int aw) s.l s.i
  rw [AI (x:=s.i+1)];exact ⟨⟨A8,A8,h2,h3,h4,A8⟩,by simp only [aCa];omega⟩
def QH:AR N5:=⟨0,97,[8,9,10,14,69,70,71],[],λs=>[s.half,.own 0 0,s.other,.os 1 1 0<|M s.bytes,.xl (.sl<|.int aw) s.l,s.n,s.i],λs=>[⟨[.os 2 2 0<|M s.al,s.er],336,.cl,X⟩,bV 5 (.int aw) s.bytes,bV 47 Bo s.al],λv b=>⟨AL v 0,AL v 2,B1 (.sl<|.int aw) v 4,AL v 5,AL v 6,Am b 0 1,Ab (.int aw) b 1,Ab Bo b 2⟩,aET,λs r=> {s with i:=r.i,bytes:=r.bytes},λs=>s,λ_ s=>s,[.exit 2],qG,pg,aCa⟩
abbrev Ni:=QH.run
abbrev ai6:=QH.At
def ale:Rq pg aET:=by
 intro s hI;refine ⟨λc1=>⟨?_,?_,?_,?_,A9,ak⟩,λc1=>⟨A9,A9,ak⟩⟩
 all_goals ((obtain ⟨h0,h1,h2,h3,h4,h5⟩:=hI;have c1:s.i<s.n:=A8;have hk:=X0 h4 h0 A0;have hp:=MR<|gx (e:=.sl<|.int aw) s.l s.i;(first|omega|(simp only [CZ,BG];omega) |simp only [CZ,BG,Em])))
def XZ:aN:=[iQ,aAx,aWz,jV,aXC,fZ]
def xw:Ax:=IT XZ (la 2 func215 tZ<|l0 XZ) [⟨211,Uc.m,jN⟩,⟨217,R5 λa=>Ue.m a [],xN⟩]
def aaA:QH.Ok:={}
def aaf:QH.Pf (aNI):=⟨ap8,λs h=>rfl,ams,ale⟩
def azr:SA 0 aKh QH:=s1 aaA aaf XZ xw
def agm:Rs qG ai6 Ni (λs:N5=>s.bytes++BR (s.l.drop s.i.toNat)) (λx s' (v:aB)=>x=.exit 2/\s'.bytes=v):=Dp aaA aaf (λs hI=>by
  obtain ⟨h0,h1,h2,h3,h4,h5⟩:=hI;refine AH (λc1=>?_) λc1=>?_
  ·have c1:s.i<s.n:=A8
   rw [AI (x:=s.i+1)]
   show _++_++_=_++_
   rw [Wr h0 A0];simp only [BR,nF,Cw,CZ]
  ·have c1:s.n<=s.i:=A8
   refine ⟨rfl,?_⟩;rw [FA A0]
   simp [BR])
def aUx:W1:=λi=>if i=21 then ah ([8,9,10,14],[.pb 14<|.int aw]) else if i=22 then ah ([8,9,10],[]) else aj
def aVZ:aD->T LV
 | [.agg [.v (ag J se),.xl (.int aw) fl],.xl (.sl (.int aw)) ds]=> .req (BL fl/\M ds<=5000/\IK ds) (.ok<|.AQ [.xl Bo<|GB se fl ds,GC se fl ds])
 |_=> .no
def am3 {se:Y}{fl:aB}(h:FF se fl=U):letI a:=((M fl / 2:aC):Y);a.tdiv se*2=(M fl:Y).tdiv se/\0<=a.tdiv se/\a.tdiv se<=2048:=by
 obtain ⟨hf,h2,h3,h4,h5⟩:=MX.1 h
 have e:=Zw (M fl:Y) se
 rw [(NZ.1 hf).2.2.2.2,Int.add_zero] at e
 have e2:=Zw ((M fl:Y).tdiv se) 2
 have e3:((M fl / 2:aC):Y)=se*((M fl:Y).tdiv se).tdiv 2:=by
  have:se*(M fl:Y).tdiv se=2*(se*((M fl:Y).tdiv se).tdiv 2):=A8
  omega
 have e4:((M fl / 2:aC):Y).tdiv se=((M fl:Y).tdiv se).tdiv 2:=by rw [e3];exact Int.mul_tdiv_cancel_left _ A0
 have hq:0<=((M fl / 2:aC):Y).tdiv se/\((M fl / 2:aC):Y).tdiv se<=((M fl / 2:aC):Y):=by
  rw [I0 A0];exact ⟨Sl A0 A0,VB _ A0⟩
 omega
def agR (l:aB):0<=HD l/\HD l<4294967296:=by
 unfold HD nm4 Df;rw [TF];omega
def aUw (fl:aB):Aw fl=0\/Aw fl=1:=aQk
def FV (se:Y) (fl:aB) (ds:aI):HB:=(⟨ds,AA<|(M fl:Y).tdiv 2,AA<|1-(Es se fl),AA<|(AA<|(M fl:Y).tdiv 2).tdiv se,AA<|(AA<|1-(Es se fl))*(AA<|(AA<|(M fl:Y).tdiv 2).tdiv se),Es se fl,Io se fl,FE se fl,HV se fl,L2 se fl,0,se,fl,[(se,((([]:aB)++fl).drop 0).take<|0+M fl)]⟩:HB)
def MU (se:Y) (fl:aB) (ds:aI):N5:=(⟨AA<|(M fl:Y).tdiv 2,AA<|1-(Es se fl),ds,(M ds:Y),0,(FC<|FV se fl ds).er,D6<|IntKind.u32.wrap<|(Io se fl)+1,(FC<|FV se fl ds).al⟩:N5)
def aqa (se:Y) (fl:aB) (ds:aI):H7:=(⟨AA<|(AA<|(AA<|1-(Es se fl))*(AA<|(M fl:Y).tdiv 2))+1,((Ni<|MU se fl ds).bytes.drop 0).take<|M (Ni<|MU se fl ds).bytes,(FC<|FV se fl ds).er,(FC<|FV se fl ds).al⟩:H7)
def aqZ (se:Y) (fl:aB) (ds:aI):H7:=(⟨AA<|(AA<|1-(Es se fl))*(AA<|(M fl:Y).tdiv 2),[(80:Y)],Jb (FC<|FV se fl ds).al (FC<|FV se fl ds).er (AA<|(AA<|(AA<|1-(Es se fl))*(AA<|(M fl:Y).tdiv 2))+1)<|((Ni<|MU se fl ds).bytes.drop 0).take<|M (Ni<|MU se fl ds).bytes,spA (FC<|FV se fl ds).al (AA<|(AA<|(AA<|1-(Es se fl))*(AA<|(M fl:Y).tdiv 2))+1)<|((Ni<|MU se fl ds).bytes.drop 0).take<|M (Ni<|MU se fl ds).bytes⟩:H7)
def rwX (se:Y) (fl:aB) (ds:aI):Y:=(AA<|(AA<|1-(Es se fl))*(AA<|(M fl:Y).tdiv 2))
def rwY (se:Y) (fl:aB) (ds:aI):aB:=(((Ni<|MU se fl ds).bytes.drop 0).take<|M (Ni<|MU se fl ds).bytes)
def rwV (se:Y) (fl:aB) (ds:aI):bc:=(spA (FC<|FV se fl ds).al (AA<|(rwX se fl ds)+1)<|rwY se fl ds)
def rwW (se:Y) (fl:aB) (ds:aI):Y:=(Jb (FC<|FV se fl ds).al (FC<|FV se fl ds).er (AA<|(rwX se fl ds)+1)<|rwY se fl ds)
def rwA (se:Y) (fl:aB) (ds:aI):bc:=(spA (rwV se fl ds) (rwX se fl ds)<|[(80:Y)])
def agW (se:Y) (fl:aB) (ds:aI):letI b:=(AA<|(M fl:Y).tdiv 2);letI c:=FV se fl ds;letI d:=IntKind.u32.wrap<|(Io se fl)+1;letI e:=rwV se fl ds;letI f:=rwA se fl ds;letI a:=(Jb e (rwW se fl ds) (rwX se fl ds)<|[(80:Y)]);l9 prog AT (XZ) xw (λi=>if i=11 then QG.lp else if i=17 then QH.lp else Ao i) aUx f177 [.agg [se,.xl (.int aw) fl],.xl (.sl<|.int aw) ds]=.req (BL fl) (.br ((By se fl) !=0) (.ok<|.AQ [.xl Bo ([]:bc),By se fl])<|.req ((2:Y)≠0)<|.req ((M ds<=5000/\IK ds)/\5<=b/\b<=100000)<|.br ((!(Ji (b-5) ds)) ||((Io se fl)==4294967295)) (.ok<|.AQ [.xl Bo ([]:bc),(10:Y)])<|.ra 0 (M ([]:aB)) (0+M fl) 1<|.req (0+(0+M fl)<=M (([]:aB)++fl))<|.rv (.v<|ag J<|Es se fl)<|.req (se≠0)<|.re 1 [(se,((([]:aB)++fl).drop 0).take<|0+M fl)]<|.req (QG.q c)<|.req (ak2 (⟨d⟩:O1))<|.rl (D6 d)<|.rl (FC c).al<|.req (QH.q<|MU se fl ds)<|.rz (Ni<|MU se fl ds).bytes<|.rl (FC c).al<|.rl (FC c).al<|.req (jI<|aqa se fl ds)<|.rl e<|.rl e<|.req (jI<|aqZ se fl ds)<|.br (!(a==(0:Y))) (.ok<|.AQ [.xl Bo ([]:bc),a])<|.rz f<|.ok<|.AQ [.xl Bo<|(f.drop 0).take<|M f,(0:Y)]):=AV
def aXr:VV 177 (uS f177 aVZ):=aFl (cs:=aUx) func177 rfl (gk XZ) xw.h (L:=(λi=>if i=11 then QG.lp else if i=17 then QH.lp else Ao i)) (λb hb=>by
 rw [show BC _=[aKg,aKh] by kernel_rfl] at hb
 simp only [B6,Bv,Bt] at hb;rcases hb with rfl|rfl
 ·exact azq
 ·exact azr) (λargs lv h=>by
 unfold aVZ at h;split at h
 ·simp only [canL,canX]
  rw [agW];rename_i se fl ds;obtain ⟨⟨hb,hn,hk⟩,rfl⟩:=h
  have bad:∀e:Y,e≠0->GC se fl ds=e->LV.AQ [.xl Bo ([]:bc),.v<|ag J e]=LV.AQ [.xl Bo<|GB se fl ds,.v<|ag J<|GC se fl ds]:=λe h0 h1=>by unfold GB;rw [h1,AE h0]
  refine ⟨hb,λc1=>?_,λc1=>?_⟩
  ·have c1:By se fl≠0:=AX
   exact bad _ c1 (by unfold GC;rw [AD c1])
  have hE:By se fl=0:=AX
  have hj:FF se fl=true:=by
   cases e:FF se fl
   ·unfold By at hE;rw [AD e] at hE;cases hE
   ·rfl
  have hq:=MX.1 hj
  have hh:AA ((M fl:Y).tdiv 2)=((M fl / 2:aC):Y):=by
   exact aP8
  have hA:Es se fl=Aw fl:=aRA
  have hG:Io se fl=JW fl (Aw fl):=by unfold Io;rw [AD hE]
  have hc:=aUw fl
  have w0:AA (1-Aw fl)=1-Aw fl:=AI
  have hF:Ji (((M fl / 2:aC):Y)-5) ds=rwF fl ds:=by
   rw [aUj _ _ A0];unfold rwF
   congr 1
   rw [decide_eq_decide];omega
  refine ⟨Ad,⟨⟨hn,hk⟩,by rw [hh];omega,by rw [hh];omega⟩,λc2=>?_,λc2=>?_⟩<;>rw [hh,hF,hG] at c2
  ·exact bad 10 Ad (by unfold GC;rw [AE aAt,AD c2])
  have hR:GC se fl ds=0:=by unfold GC;rw [AE aAt,AE cf]
  simp only [HN,IW,CY,ne_eq] at c2
  have hsum:5+M (BR ds)<=M fl / 2:=by
   have:=c2.1
   unfold rwF at this;simp only [AY,Ac] at this;rw [sQ];exact this.1
  obtain ⟨k1,k2,k3⟩:=am3 hj
  have hm:∀x:Y,0<=x->x<=2048->AA ((1-Aw fl)*x)=(1-Aw fl)*x/\0<=(1-Aw fl)*x/\(1-Aw fl)*x<=x:=λx x0 x1=>by
   have:(1-Aw fl)*x=0\/(1-Aw fl)*x=x:=aPv
   exact ⟨AI,A0,A0⟩
  have hst:FV se fl ds=⟨ds,((M fl / 2:aC):Y),1-Aw fl,((M fl / 2:aC):Y).tdiv se,(1-Aw fl)*((M fl / 2:aC):Y).tdiv se,Aw fl,Io se fl,FE se fl,HV se fl,L2 se fl,0,se,fl,[(se,fl)]⟩:=by
   unfold FV;rw [hh,hA,w0,AI (x:=((M fl / 2:aC):Y).tdiv se),(hm _ k2 k3).1,Ek,CZ,F8,El]
  have hE0:dZ (FV se fl ds):=by rw [hst];exact ⟨rfl,⟨hj,by show 1-Aw fl=0\/1-Aw fl=1;omega,k1⟩,rfl,rfl,rfl,rfl⟩
  obtain ⟨_,_,q1,q2,q3,q4,q5⟩:=agl _ hE0
  have q6:((FC<|FV se fl ds).al,(BW (FC<|FV se fl ds).al).2)=Hf se fl:=by
   have:=(afH _ hE0).2
   rw [this,hst];unfold Hf
   have hz:Ge ⟨ds,((M fl / 2:aC):Y),1-Aw fl,((M fl / 2:aC):Y).tdiv se,(1-Aw fl)*((M fl / 2:aC):Y).tdiv se,Aw fl,Io se fl,FE se fl,HV se fl,L2 se fl,0,se,fl,[(se,fl)]⟩=(1-Aw fl)*((M fl / 2:aC):Y).tdiv se+((M fl / 2:aC):Y).tdiv se:=by
    have:=hm _ k2 k3
    show AA (AA (1-Aw fl+1)*((M fl / 2:aC):Y).tdiv se)=_
    rw [AI (x:=1-Aw fl+1),VF,Zz];exact AI
   show G3 se fl _ (Ge _-(1-Aw fl)*((M fl / 2:aC):Y).tdiv se).toNat _=_
   rw [hz]
   congr 1
   omega
  have r1:(FC<|FV se fl ds).se=se/\(FC<|FV se fl ds).fl=fl:=by rw [hst];exact ⟨rfl,rfl⟩
  rw [r1.1] at q4;rw [r1.2] at q5
  have q7:(BW (FC<|FV se fl ds).al).2=(Hf se fl).2:=B0 Prod.snd q6
  have hl:BW (FC<|FV se fl ds).al=(se,(Hf se fl).2):=Prod.ext q4 q7
  have ha:(FC<|FV se fl ds).al=(Hf se fl).1:=B0 Prod.fst q6
  have hEb:qG (MU se fl ds):=⟨rfl,aQl,rfl,hk,by show ((4:aC):Y)<=4+70100*0;decide⟩
  have hY:rwY se fl ds=Eh fl ds:=by
   have q:=(agm _ hEb).2
   have hg:=agR<|((Bp fl<|Aw fl).drop 1).take 4
   have hw:IntKind.u32.wrap (Io se fl+1)=JW fl (Aw fl)+1:=by
    have:=c2.2
    rw [hG,TF];unfold JW at*;omega
   unfold rwY Eh;rw [CZ,El,q,<-hw];rfl
  have hX:rwX se fl ds=HF fl:=by unfold rwX HF;rw [hA,w0,hh];exact (hm _ A0 A0).1
  obtain ⟨_,o1,o2⟩:=hm ((M fl / 2:aC):Y) A0 A0
  have oO:HF fl=(1-Aw fl)*((M fl / 2:aC):Y):=rfl
  have hX1:AA (rwX se fl ds+1)=HF fl+1:=by rw [hX];exact AI
  have hBl:M (Eh fl ds)=4+M (BR ds):=by unfold Eh;rw [BG];rfl
  rw [hl] at q5
  have q5:M (Hf se fl).2=M fl:=q5
  have hv:∀b:aB,M b=M fl->Ho se b=true:=λb e=>by rw [uW e];exact hq.1
  have p1:FG se (Hf se fl).2 (HF fl+1) (Eh fl ds)=0:=by
   unfold FG
   grind
  have hV:rwV se fl ds=(Hf se fl).1++(Dw se (Hf se fl).2 (HF fl+1)<|Eh fl ds).drop 1:=by
   unfold rwV spA;rw [hX1,hY,hl,AD p1,ha]
  have hW:rwW se fl ds=0:=by unfold rwW Jb;rw [hX1,hY,hl,AD p1];exact q2
  have hlV:BW (rwV se fl ds)=(se,rwP se fl ds):=by
   rw [hV];unfold Dw;exact tz (f:=λk=>(se,Dq (Hf se fl).2 (HF fl+1) (Eh fl ds) k)) (n:=M<|Eh fl ds) A0 _
  have p2:FG se (rwP se fl ds) (HF fl) [80]=0:=by
   have:M (rwP se fl ds)=M fl:=by unfold rwP;rw [TE];exact q5
   unfold FG
   grind
  have hAA:rwA se fl ds=GB se fl ds:=by
   unfold rwA spA GB;rw [hX,hlV,AD p2,AD hR,hV,Cw]
  have hz:Jb (rwV se fl ds) (rwW se fl ds) (rwX se fl ds) [80]=0:=by unfold Jb;rw [hX,hlV,AD p2];exact hW
  have hVl:M (rwV se fl ds)<=3100000:=by
   have:=q3.2
   rw [hV,<-ha,BG,FQ];unfold Dw;rw [GK,Sq,hBl];omega
  refine ⟨⟨Ad,A0,A0⟩,AJ,rfl,A0,AJ,⟨hE0,rfl,rfl⟩,⟨ak,rfl,rfl⟩,A9,A9,⟨hEb,rfl,rfl⟩,A0,A9,A9,⟨⟨q3.1,by show M (FC<|FV se fl ds).al<=4000000;omega,by show M (rwY se fl ds)<=5000;rw [hY,hBl];omega⟩,rfl,rfl⟩,A9,A9,⟨⟨?_,by show M (rwV se fl ds)<=4000000;omega,by show 1<=5000;decide⟩,rfl,rfl⟩,λc=>?_,λ_=>⟨A0,?_⟩⟩
  ·show rwV se fl ds≠ []
   intro hn
   have:BW (rwV se fl ds)=BW []:=by rw [hn]
   rw [hlV] at this
   have:=B0 Prod.fst this
   have:se=0:=this
   omega
  ·rw [hz] at c;cases c
  ·rw [CZ,El,hAA,hR]
   rfl
 ·cases h)
def aWX:aD->T LV
 | [.agg [.v (ag J se),.xl (.int aw) fl],.xl (.int aw) d]=> .req (BL fl/\M d<=70000/\(By se fl=0->lkC fl=U)) (.ok<|.AQ [.xl Bo<|Hs se fl d,Ez se fl d])
 |_=> .no
def aRp (se:Y) (fl:aB) (a:Y) (d:aB):[(se,fl)]++(Dw se fl a d).drop 1=Dw se fl a d:=by
 unfold Dw;rw [List.range_succ_eq_map];rfl
def ahK {fl:aB}(h:10<=M fl):(F6 fl).2.1<=M fl / 2:=by
 have:=eQ fl<|Aw fl
 have:=wK (b:=Bp fl<|Aw fl) (n:=M<|Bp fl<|Aw fl) (f:=5) A0
 unfold F6;omega
def aqX (se:Y) (fl d:aB):H7:=(⟨AA<|(AA<|(AA<|(Es se fl)*(AA<|(M fl:Y).tdiv 2))+(HV se fl))+1,((C0 d).drop (1:Y).toNat).take<|(M (C0 d):Y).toNat-(1:Y).toNat,0,[(se,((([]:aB)++fl).drop 0).take<|0+M fl)]⟩:H7)
def aqW (se:Y) (fl d:aB):H7:=letI a:=(AA<|(AA<|(Es se fl)*(AA<|(M fl:Y).tdiv 2))+(HV se fl));letI b:=(((C0 d).drop (1:Y).toNat).take<|(M (C0 d):Y).toNat-(1:Y).toNat);letI c:=(se,((([]:aB)++fl).drop 0).take<|0+M fl);(⟨a,((C0 d).drop (0:Y).toNat).take<|(1:Y).toNat-(0:Y).toNat,Jb ([c]) (0:Y) (AA<|a+1) b,spA ([c]) (AA<|a+1) b⟩:H7)
def axP (se:Y) (fl d:aB):Y:=(AA<|(AA<|(Es se fl)*(AA<|(M fl:Y).tdiv 2))+(HV se fl))
def axY (se:Y) (fl d:aB):aB:=(((C0 d).drop (1:Y).toNat).take<|(M (C0 d):Y).toNat-(1:Y).toNat)
def axZ (se:Y) (fl d:aB):aB:=(((C0 d).drop (0:Y).toNat).take<|(1:Y).toNat-(0:Y).toNat)
def axQ (se:Y) (fl d:aB):bc:=([(se,((([]:aB)++fl).drop 0).take<|0+M fl)])
def axV (se:Y) (fl d:aB):bc:=(spA (axQ se fl d) (AA<|(axP se fl d)+1)<|axY se fl d)
def axW (se:Y) (fl d:aB):Y:=(Jb (axQ se fl d) (0:Y) (AA<|(axP se fl d)+1)<|axY se fl d)
def axA (se:Y) (fl d:aB):bc:=(spA (axV se fl d) (axP se fl d)<|axZ se fl d)
def iY:aN:=[iQ,aXr,aAx,jV,fZ]
def aUV:Ax:=IT iY (la 2 func215 tZ<|l0 iY) [⟨211,Uc.m,jN⟩]
def ahi (se:Y) (fl d:aB):letI a:=(M (C0 d):Y);letI c:=axV se fl d;letI e:=axA se fl d;letI b:=Jb c (axW se fl d) (axP se fl d)<|axZ se fl d;l9 prog AT (iY) aUV Ao aUz f174 [.agg [se,.xl (.int aw) fl],.xl (.int aw) d]=.req (BL fl) (.br ((By se fl) !=0) (.ok<|.AQ [.xl Bo ([]:bc),By se fl])<|.req ((2:Y)≠0)<|.br ((an<|(M d:Y)>65535) ||(an<|(AA<|7+(M d:Y))>(AA<|(AA<|(M fl:Y).tdiv 2)-(HV se fl)))) (.ok<|.AQ [.xl Bo ([]:bc),(10:Y)])<|.br (!(L2 se fl)) (.no /-append to xl -/)<|.ra 0 (M ([]:aB)) (0+M fl) 1<|.req (0+(0+M fl)<=M (([]:aB)++fl))<|.rv (.v<|ag J<|Es se fl)<|.rv (.v<|ag J<|HV se fl)<|.req (M d<=70000)<|.re 1 (axQ se fl d)<|.req (0<=(1:Y)/\(1:Y)<=a/\a<=a)<|.rl (axQ se fl d)<|.req (jI<|aqX se fl d)<|.rl c<|.req (0<=(0:Y)/\(0:Y)<=(1:Y)/\(1:Y)<=a)<|.rl c<|.req (jI<|aqW se fl d)<|.br (!(b==(0:Y))) (.ok<|.AQ [.xl Bo ([]:bc),b])<|.rz e<|.ok<|.AQ [.xl Bo<|(e.drop 0).take<|M e,(0:Y)]):=AV
def akp:VV 174 (uS f174 aWX):=aFl (cs:=aUz) func174 rfl (gk iY) aUV.h (tE AV) (λargs lv h=>by
 unfold aWX at h;split at h
 ·simp only [canL,canX]
  rw [ahi];rename_i se fl d;obtain ⟨⟨hb,hd,hcl⟩,rfl⟩:=h;refine ⟨hb,λc1=>?_,λc1=>?_⟩
  ·have c1:By se fl≠0:=AX
   unfold Hs Ez;rw [AD c1,AD c1];rfl
  have hE:By se fl=0:=AX
  have hj:FF se fl=true:=by
   cases e:FF se fl
   ·unfold By at hE;rw [AD e] at hE;cases hE
   ·rfl
  have hq:=MX.1 hj
  have hh:AA ((M fl:Y).tdiv 2)=((M fl / 2:aC):Y):=by
   exact aP8
  have hA:Es se fl=Aw fl:=aRA
  have hN:HV se fl=((F6 fl).2.1:Y):=by unfold HV;rw [AD hE]
  have hC:L2 se fl=true:=by unfold L2;rw [AD hE];exact hcl hE
  have hl:=ahK (fl:=fl) A0
  have hc:=aUw fl
  have hF:((an<|(M d:Y)>65535) ||(an<|(AA<|7+(M d:Y))>(AA<|(AA<|(M fl:Y).tdiv 2)-(HV se fl))))=apF se fl d:=by
   rw [hh,hN,AI (x:=7+(M d:Y)),AI (x:=((M fl / 2:aC):Y)-((F6 fl).2.1:Y))];unfold apF;rw [IZ];simp only [CS,Ac];omega
  have e0:¬By se fl≠0:=aAt
  refine ⟨Ad,λc2=>?_,λc2=>⟨λc3=>?_,λc3=>?_⟩⟩<;>rw [hF] at c2
  ·unfold Hs Ez
   rw [AE e0,AE e0,AD c2,AD c2];rfl
  ·rw [hC] at c3;cases c3
  have hR:Hs se fl d=Ht se fl d:=by unfold Hs;rw [AE e0,AE cf,AD<|hcl hE]
  have hZ0:Ez se fl d=0:=by unfold Ez;rw [AE e0,AE cf,AD<|hcl hE]
  unfold apF at c2;simp only [HN,DI] at c2
  have hm:Aw fl*((M fl / 2:aC):Y)=0\/Aw fl*((M fl / 2:aC):Y)=((M fl / 2:aC):Y):=aPv
  have hP:axP se fl d=Gj fl:=by
   unfold axP Gj;rw [hh,hA,hN,AI (x:=Aw fl*((M fl / 2:aC):Y))];exact AI
  have oP:Gj fl=Aw fl*((M fl / 2:aC):Y)+((F6 fl).2.1:Y):=rfl
  have hP1:AA (axP se fl d+1)=Gj fl+1:=by rw [hP];exact AI
  have hpl:=MR d
  have hY:axY se fl d=(C0 d).drop 1:=by unfold axY;exact Dj aAs
  have hZ:axZ se fl d=[80]:=rfl
  have hQ:axQ se fl d=[(se,fl)]:=by unfold axQ;rw [Ek,CZ,F8,El]
  have hYl:M ((C0 d).drop 1)=6+M d:=aAs
  have hL0:BW [(se,fl)]=(se,fl):=rfl
  have p1:FG se fl (Gj fl+1) ((C0 d).drop 1)=0:=by
   unfold FG
   grind
  have hV:axV se fl d=Dw se fl (Gj fl+1) ((C0 d).drop 1):=by
   unfold axV spA;rw [hP1,hY,hQ,hL0,AD p1,aRp]
  have hW:axW se fl d=0:=by unfold axW Jb;rw [hP1,hY,hQ,hL0,AD p1]
  have hlV:BW (axV se fl d)=(se,apB fl d):=by
   rw [hV,<-aRp];exact tz (f:=λk=>(se,Dq fl (Gj fl+1) ((C0 d).drop 1) k)) (n:=M<|(C0 d).drop 1) A0 _
  have hBl:M (apB fl d)=M fl:=TE _ _ _ _
  have p2:FG se (apB fl d) (Gj fl) [80]=0:=by
   unfold FG;rw [uW hBl,hq.1,AE (by simp only [Bool.not_true,DC,Ac];omega),AE (by rw [hBl];show ¬Gj fl>(M fl:Y)-((1:aC):Y);omega)]
  have hAA:axA se fl d=Ht se fl d:=by
   unfold axA spA Ht;rw [hP,hZ,hlV,AD p2,hV]
  have hz:Jb (axV se fl d) (axW se fl d) (axP se fl d) (axZ se fl d)=0:=by unfold Jb;rw [hP,hZ,hlV,AD p2];exact hW
  have hVl:M (axV se fl d)=7+M d:=by rw [hV];unfold Dw;rw [GK,Sq,hYl];omega
  refine ⟨⟨Ad,A0,A0⟩,AJ,rfl,rfl,hd,by rw [hQ];exact A9,⟨A0,A0,A0⟩,A9,⟨⟨by show axQ se fl d≠ [];rw [hQ];simp,by show M (axQ se fl d)<=4000000;rw [hQ];show 1<=4000000;decide,by show M (axY se fl d)<=5000;rw [hY,hYl];omega⟩,rfl,rfl⟩,A9,⟨A0,A0,A0⟩,A9,⟨⟨by show axV se fl d≠ [];intro hn;rw [hn] at hVl;simp at hVl;omega,by show M (axV se fl d)<=4000000;omega,by show 1<=5000;decide⟩,rfl,rfl⟩,λc=>?_,λ_=>⟨A0,?_⟩⟩
  ·rw [hz] at c;cases c
  ·rw [CZ,El,hAA,hR,hZ0]
   rfl
 ·cases h)
def aW7:aD->T LV
 | [.agg [.v (ag J se),.xl (.int aw) fl],.v (.agg ⟨[ag J x1,ag J x2,ag J x3,ag J x4,ag J x5]⟩),.v (ag J t)]=> .req (BL fl/\(By se fl=0->lkC fl=U)) (.ok<|.AQ [.xl Bo<|Cu se fl (x1,x2,x3,x4,x5) t,EO se fl (x1,x2,x3,x4,x5) t])
 |_=> .no
def aiF:aN:=[aAv,XC,akp,aXo,alC,aXr]
def aqv {x:Le}:B2 [x]=DN x:=by
 unfold B2;rw [IZ,AY,DQ];refine ⟨λh=>?_,λh=>⟨rfl,λk hk=>?_⟩⟩
 ·have:=h.2 0 AJ
  unfold HC at this;rw [AY] at this;exact this.1
 ·have:k=0:=A8
  subst this;unfold HC;rw [AY];exact ⟨h,rfl⟩
def aXx {l:aL}{x:Le}{t:Y}(h:DT l t=0):M (Iu l x t)<=5000/\IK (Iu l x t):=by
 have hk:=aKp h
 unfold Iu;rw [AD h];unfold IS;refine ⟨?_,λd hd=>?_⟩
 ·simp only [BG,GK,Bm,C3]
  grind
 ·rcases Bf.1 hd with hd|hd
  ·obtain ⟨y,_,rfl⟩:=FP.1 hd;rw [KX];omega
  ·rcases Bf.1 hd with hd|hd
   ·split at hd
    ·rw [Hz.1 hd,KX];omega
    ·cases hd
   ·rw [Hz.1 hd,KX];omega
end Go.Proofs.YtpdndmobphnjcaaGreatDoor
end
