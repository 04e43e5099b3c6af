/- Helpers for ParkEvents. Conditions: none. -/
import Derived.Test.YtjjcgjkagokchaaGreatDoorQz3
set_option linter.defProp false
set_option linter.unusedVariables false
set_option linter.unusedSimpArgs false
noncomputable section
open List renaming length→M,length→aa,replicate→aq,range→au
open Bool renaming true→U,true→ae,false→X,false→af
open Go.Value renaming int→ag
open Option renaming some→ah,none→aj
open Go.IntKind renaming i64→J,i64→ai,u8→aw,u32→ax
open True renaming intro→ak
open Decidable renaming decide→an
open ByteArray renaming mk→av
open Go.Region renaming ready→ay,wanted→az
open Go.Instr renaming findNow→aA
namespace Go.Proofs.YtjjcgjkagokchaaGreatDoor
set_option maxRecDepth 100000
set_option maxHeartbeats 4000000
open Go.Proofs.Tryz
open Go.Sx
def aCS:=vm (S:=aCI) func73 abq kN (L:=(λi=>if i=11 then Q1.lp else noLoops i)) (λb hb=>by
 rw [show loopsIn _=[yF] by kernel_rfl] at hb
 simp only [Ak,B8,B6] at hb;subst hb;exact ajG) (λargs lv h=>by
 unfold aCI at h;split at h
 case h_2=>cases h
 replace h:=GV h
 obtain ⟨cs,os,ks,gs,bs,rfl,h⟩:=h;split at h
 ·rename_i l rs d t n
  refine Af (letI a:=OU cs os ks gs bs l rs d t n;letI b:=(M (cB cs os ks gs bs l d t<|Eo d t):Y);.req (M d<=19)<|.br (!(Gk cs os ks gs bs l rs d t n)) (.ok<|.tup [.xl A7 ([]:aB),.xl Ae ([]:bp),.xl AL ([]:aN),(1:Y)])<|.req (M d=M gs/\E8 cs os ks gs bs (BQ gs) (GZ gs d) (Eo d t)=U/\It l (M gs:Y) t=U/\E8 cs os ks gs bs (Fa gs l t) (Dw cs os ks gs bs (BQ gs) (GZ gs d)<|Eo d t) (Eo d t)=U)<|.br ((0:Y) !=0) (.ok<|.tup [.xl A7 ([]:aB),.xl Ae ([]:bp),.xl AL ([]:aN),(1:Y)])<|.rm 8 b<|.rm 16 b<|.re b.toNat (aq b.toNat (0:Y))<|.re b.toNat (aq b.toNat ((0:Y),(0:Y)))<|.r0 Le<|.req (Q1.q a)<|.br (isEx (iZ a)<|.ret) (.ok<|.tup [.xl A7 ([]:aB),.xl Ae ([]:bp),.xl AL ([]:aN),(FU a).t15])<|.rz (FU a).E7<|.rz (FU a).next (.rz (FU a).C3<|.ok<|.tup [.xl A7<|((FU a).E7.drop 0).take<|M (FU a).E7,(((FU a).next.drop 0).take<|M (FU a).next),(((FU a).C3.drop 0).take<|M (FU a).C3),(0:Y)])) ?_;obtain ⟨hw,rfl⟩:=h;refine ⟨hw,λc=>?_,λc=>?_⟩
  ·unfold deA IA Iy deE
   rw [ntW c];rfl
  have c:=nfW c
  have V:=aw5 c
  have ol:M (cB cs os ks gs bs l d t<|Eo d t)=M gs:=(aa8 V).1
  have hE:Tu (OU cs os ks gs bs l rs d t n):=⟨rfl,rfl,⟨rfl,by have:=V.gl;show (M gs:Y)<=16;omega⟩,A9,⟨by have:=(Hi V.les).1;show (M l:Y)<=1000;omega,V.tb⟩,⟨V.rl,ol,by show M (aq _ (0:Y))=M gs;rw [Bv];omega,by show M (aq _ ((0:Y),(0:Y)))=M gs;rw [Bv];omega⟩,aua V,by have:=V.nb;show 1<=n-(0:Y);omega,by have:=V.nb;show n-(0:Y)<=999900;omega⟩
  obtain ⟨_,_,q1,q2,q3,q4⟩:=alW _ hE
  have hn:=alV _ hE
  have hn:(FU<|OU cs os ks gs bs l rs d t n).n-(M (FU<|OU cs os ks gs bs l rs d t n).C3:Y)=n:=hn.trans<|Mp n
  have q2:(FU<|OU cs os ks gs bs l rs d t n).E7=deA cs os ks gs bs l rs d t n:=q2.trans (by unfold deA;rw [AD c];rfl)
  have q3:(FU<|OU cs os ks gs bs l rs d t n).next=IA cs os ks gs bs l rs d t n:=q3.trans (by unfold IA;rw [AD c];rfl)
  rw [hn] at q4
  have q4:(FU<|OU cs os ks gs bs l rs d t n).C3=Iy cs os ks gs bs l rs d t n:=q4.trans (by unfold Iy;rw [AD c];rfl)
  have gl:=V.gl
  refine ⟨⟨V.dl,aal V.si,amV V,aa7 V⟩,λc2=>absurd c2 AT,λ_=>?_⟩
  refine ⟨by rw [ol];omega,by rw [ol];omega,⟨rfl,AH⟩,⟨rfl,AH⟩,A9,⟨hE,rfl,rfl⟩,?_⟩
  rw [q1];refine ⟨λh=>Ab,λ_=>⟨A0,A0,A0,?_⟩⟩
  show LV.tup [LV.xl _ _,LV.xl _ _,LV.xl _ _,_]=_
  rw [Bq,Cc,Bq,Cc,Bq,Cc,q2,q3,q4];unfold deE;rw [AD c]
 ·cases h)
structure KY where
 t5:Y
 t23:aB
 (t24 t25:Y)
 At:aK
 B9:aF
 BV:aP
 B1:aG
 BW:aQ
 CF:aB
def ya:=bN f93 0
def nr (s:KY):T (Rd KY):=
 .br (an<|s.t25<s.t24) (.ix s.t25 (M s.t23)<|.br ((an<|(gi s.t23 s.t25)<0) ||(an<|(gi s.t23 s.t25)>80)) (.so (.ret) {s with t5:=(1:Y)})<|.nx {s with t25:=AA<|s.t25+1}) (.so (.exit 0) s)
def bW (s:KY):Prop:=s.t5=0/\s.t25=0/\s.t24=(M s.t23:Y)/\s.t24<=1000/\∀k:aC,k<M s.t23->0<=gi s.t23 k/\gi s.t23 k<=80
def UT (s:KY):Prop:=s.t5=0/\(0<=s.t25/\s.t25<=s.t24)/\s.t24=(M s.t23:Y)/\s.t24<=1000/\∀k:aC,k<M s.t23->0<=gi s.t23 k/\gi s.t23 k<=80
def lF (s:KY):aC:=(s.t24-s.t25).toNat
def u0 (x:Ex) (s s':KY):Prop:=x=.exit 0/\s'.t5=0
def axy:∀s,bW s->UT s:=by
 rintro s ⟨h9,h0,h1,h2,h3⟩
 exact ⟨h9,A0,h1,h2,h3⟩
def aqo:Da UT lF u0 nr:=by
 intro s hI;obtain ⟨h9,⟨h0,h1⟩,h2,h3,h5⟩:=hI;refine allR_ite (λc1=>allR_ite (λc2=>?_) λc2=>?_) λc1=>?_
 ·exfalso
  have c1:s.t25<s.t24:=A8
  have:=h5 s.t25.toNat A0
  rw [Bu h0] at this;simp only [C5,AU] at c2;omega
 ·have c1:s.t25<s.t24:=A8
  rw [AG (x:=s.t25+1)];exact ⟨⟨h9,⟨A8,A8⟩,h2,h3,h5⟩,by simp only [lF];omega⟩
 ·exact ⟨rfl,h9⟩
def Pb:LpD KY:=⟨0,65,[2,3,4,5,23,24,25],[],λs=>[.own 0 0,.own 1 0,.v<|.slice aj 0 0,s.t5,.xl A7 s.t23,s.t24,s.t25],λs=>[⟨[s.At,s.B9,s.BV,s.B1,s.BW],28,.cl,X⟩,⟨[.xl A7 s.CF],42,.cl,X⟩],λv b=>⟨AJ v 3,Ag A7 v 4,AJ v 5,AJ v 6,AB AR b 0 0,AB .str b 0 1,AB AY b 0 2,AB AX b 0 3,AB AZ b 0 4,AB A7 b 1 0⟩,nr,λs r=> {s with t5:=r.t5,t25:=r.t25},λs=>s,λ_ s=>s,[.ret,.exit 0],bW,UT,lF⟩
abbrev fN:=Pb.run
abbrev aAa:=Pb.exn
def aoj:Rq UT nr:=by
 intro s hI;refine ⟨λc1=>⟨?_,λ_=>trivial,λ_=>trivial⟩,λ_=>trivial⟩
 ·(simp only [AU] at c1;obtain ⟨h9,⟨h0,h1⟩,h2,h3⟩:=hI;omega)
def XE:aM:=[M4,XS]
def aFc:Aj:=kI XE<|l0 XE
def aES:Pb.Ok:={}
def aDr:Pb.Pf (u0):=⟨axy,λs h=>rfl,aqo,aoj⟩
def ahx:SA 0 ya Pb:=s1 aES aDr XE aFc
def ajk:Fi bW UT u0 aAa fN:=LpD.fin aES aDr
def oT:Array Tmp×Code×Code:=((rangesIn<|f93.body.getD .skip)[0]?).getD (#[],.skip,.skip)
def awZ:aMe:=oT.1
def awu:bE:=oT.2.1
def awm:bE:=oT.2.2
structure HD where
 At:aK
 B9:aF
 BV:aP
 B1:aG
 BW:aQ
 c:Y
 BC:aK
 EU:aF
 EP:aP
 ER:aG
 EX:aQ
 b1:aB
 b3:aMg
 b4:Y
 gL:bz
 (Yo GL Xm Xb gK fP fm:Y)
 st:LS
def np (s:HD):T (Rd HD):=letI b:=gi s.b1 s.b4;letI d:=s.c.toNat<M s.b3;letI e:=Q8 s.b3 s.c.toNat b;letI g:=M s.b3;letI h:=M s.At;letI i:=Aa s.At s.c;letI k:=(BM J s.GL 4) !=0;letI m:=s.c.toNat<M e;letI a:=T0 s.b3 s.c.toNat b;letI f:=Q8 a s.c.toNat b;letI j:=s.c.toNat<M a;letI l:=s.c.toNat<M f;.br (an<|s.c>=0) (.ix s.c g<|.ix s.b4 (M s.b1)<|.br ((BM J s.GL 1) !=0) (.req d<|.req d<|.br ((BM J s.GL 2) !=0) (.req j<|.req j<|.br k (.req l<|.req l<|.ix s.c h<|.re g (IF f s.c.toNat b)<|.nx {s with c:=i.2.1,b3:=IF f s.c.toNat b})<|.ix s.c h<|.re g f<|.nx {s with c:=i.2.1,b3:=f})<|.br k (.req j<|.req j<|.ix s.c h<|.re g (IF a s.c.toNat b)<|.nx {s with c:=i.2.1,b3:=IF a s.c.toNat b})<|.ix s.c h<|.re g a<|.nx {s with c:=i.2.1,b3:=a})<|.br ((BM J s.GL 2) !=0) (.req d<|.req d<|.br k (.req m<|.req m<|.ix s.c h<|.re g (IF e s.c.toNat b)<|.nx {s with c:=i.2.1,b3:=IF e s.c.toNat b})<|.ix s.c h<|.re g e<|.nx {s with c:=i.2.1,b3:=e})<|.br k (.req d<|.req d<|.ix s.c h<|.re g (IF s.b3 s.c.toNat b)<|.nx {s with c:=i.2.1,b3:=IF s.b3 s.c.toNat b})<|.ix s.c h<|.rl s.b3<|.nx {s with c:=i.2.1})<|.rl s.b3<|.so (.exit 0) s
def SI (s:HD):Prop:=s.st=.ready/\EB s.At=U/\s.c<(M s.At:Y)/\M s.b3=M s.At/\(0<=s.b4/\s.b4<(M s.b1:Y))
def US (s:HD):Prop:=s.st=.ready/\EB s.At=U/\s.c<(M s.At:Y)/\M s.b3=M s.At/\(0<=s.b4/\s.b4<(M s.b1:Y))
def vq (s:HD):aC:=(s.c+1).toNat
def tw (x:Ex) (s s':HD):Prop:=x=.exit 0/\s'.c<0
def axw:∀s,SI s->US s:=by
 exact λs h=>h
def aqm:Da US vq tw np:=by
 intro s hI;obtain ⟨h0,h1,h2,h3,h4⟩:=hI;refine allR_ite (λc1=>?_) λc1=>?_
 ·have c1:0<=s.c:=AQ
  have:=NJ h1 c1 h2
  exact allR_ite (λ_=>allR_ite (λ_=>allR_ite (λ_=>⟨⟨h0,h1,AP,OP,h4⟩,Mw⟩) λ_=>⟨⟨h0,h1,AP,OP,h4⟩,Mw⟩) λ_=>allR_ite (λ_=>⟨⟨h0,h1,AP,OP,h4⟩,Mw⟩) λ_=>⟨⟨h0,h1,AP,OP,h4⟩,Mw⟩) λ_=>allR_ite (λ_=>allR_ite (λ_=>⟨⟨h0,h1,AP,OP,h4⟩,Mw⟩) λ_=>⟨⟨h0,h1,AP,OP,h4⟩,Mw⟩) λ_=>allR_ite (λ_=>⟨⟨h0,h1,AP,OP,h4⟩,Mw⟩) λ_=>⟨⟨h0,h1,AP,A8,h4⟩,Mw⟩
 ·have c1:¬(0<=s.c):=AQ
  exact Qa
def Uu:LpD HD:=⟨7,18,[0,2,4],[],λs=>[.yld 6,xQ 5 [s.At,s.B9,s.BV,s.B1,s.BW],s.c],λs=>[⟨[s.BC,s.EU,s.EP,s.ER,s.EX],28,.cl,X⟩,⟨[.xl A7 s.b1],42,.cl,X⟩,⟨[.os 3 3 0<|M s.b3],184,.cl,X⟩,⟨[],192,.vec (.pair A7 Ae) s.b3,X⟩,⟨[s.b4],3,.cl,X⟩,⟨[.v<|.string s.gL,s.Yo,s.GL,s.Xm,s.Xb,s.gK,s.fP,s.fm],106,.cl,X⟩,⟨[.junk,.junk,.junk,.own 1 0,.junk,.junk,.junk,.junk,.own 2 0,.own 4 0,.own 5 0,.junk,.junk,.junk,.junk,.junk,.junk,.junk,.junk,.junk,.junk,.junk,.junk,.junk,.junk,.junk,.junk,.junk,.junk,.junk,.junk,.junk,.junk,.junk,.junk,.junk,.junk,.junk,.junk,.junk,.junk,.junk,.junk,.junk,.junk,.junk,.junk,.junk,.junk,.junk,.junk,.junk,.junk,.junk,.junk,.junk,.junk,.junk,.junk,.junk,.junk,.junk,.junk,.junk,.junk],0,.lrec awZ awu awm s.st,X⟩],λv b=>⟨gXl AR<|gXq (v.getD 1 .junk) 0,gXl .str<|gXq (v.getD 1 .junk) 1,gXl AY<|gXq (v.getD 1 .junk) 2,gXl AX<|gXq (v.getD 1 .junk) 3,gXl AZ<|gXq (v.getD 1 .junk) 4,AJ v 2,AB AR b 0 0,AB .str b 0 1,AB AY b 0 2,AB AX b 0 3,AB AZ b 0 4,AB A7 b 1 0,AV (.pair A7 Ae) b 3,Ad b 4 0,gSr<|gCe (gBk b 5) 0,Ad b 5 1,Ad b 5 2,Ad b 5 3,Ad b 5 4,Ad b 5 5,Ad b 5 6,Ad b 5 7,.ready⟩,np,λs r=> {r with At:=s.At,B9:=s.B9,BV:=s.BV,B1:=s.B1,BW:=s.BW,BC:=s.BC,EU:=s.EU,EP:=s.EP,ER:=s.ER,EX:=s.EX,b1:=s.b1,b4:=s.b4,gL:=s.gL,Yo:=s.Yo,GL:=s.GL,Xm:=s.Xm,Xb:=s.Xb,gK:=s.gK,fP:=s.fP,fm:=s.fm,st:=s.st},λs=> {s with st:=.ready},λx s=> {s with st:=(match x with| .exit 0=> .ready|_=> .ready)},[.exit 0],SI,US,vq⟩
abbrev Ou:=Uu.run
abbrev aAI:=Uu.exn
def apN:Rq US np:=by
 intro s hI;refine ⟨λc1=>⟨?_,?_,λc2=>⟨?_,?_,λc3=>⟨?_,?_,λc4=>⟨?_,?_,?_,?_,ak⟩,λc4=>⟨?_,?_,ak⟩⟩,λc3=>⟨λc5=>⟨?_,?_,?_,?_,ak⟩,λc5=>⟨?_,?_,ak⟩⟩⟩,λc2=>⟨λc6=>⟨?_,?_,λc7=>⟨?_,?_,?_,?_,ak⟩,λc7=>⟨?_,?_,ak⟩⟩,λc6=>⟨λc8=>⟨?_,?_,?_,?_,ak⟩,λc8=>⟨?_,A9,ak⟩⟩⟩⟩,λc1=>⟨A9,ak⟩⟩
 all_goals ((obtain ⟨h0,h1,h2,h3,h4⟩:=hI;simp only [AU,JA] at c1;first|omega|(simp only [vk,vj,vi];omega) |simp [vk,vj,vi]))
def jQ:Uu.Ok:={}
def jn:Uu.Pf (tw):=⟨axw,λs h=>by
 obtain ⟨At,B9,BV,B1,BW,c,BC,EU,EP,ER,EX,b1,b3,b4,gL,Yo,GL,Xm,Xb,gK,fP,fm,st⟩:=s
 have e:=h.1
 subst e;rfl,aqm,apN⟩
def za:=s2 (b:=bN f175 0) jQ jn XE aFc
def aji:Fi SI US tw aAI Ou:=LpD.fin jQ jn
def afY (s:HD) (hE:SI s):(λs:HD=>FB s.At s.GL (gi s.b1 s.b4) s.c s.b3) (Ou s)=(λs:HD=>FB s.At s.GL (gi s.b1 s.b4) s.c s.b3) s:=by
 exact LpD.keepV jQ jn (λs:HD=>FB s.At s.GL (gi s.b1 s.b4) s.c s.b3) (λs hI=>by
  obtain ⟨h0,h1,h2,h3,h4⟩:=hI
  have hp:=asc (ph:=s.GL) (v:=gi s.b1 s.b4) (l:=s.b3) h1 h2
  refine allR_ite (λc1=>?_) λc1=>rfl
  have c1:0<=s.c:=A8
  rw [AD c1,avD A0] at hp
  refine allR_ite (λd1=>allR_ite (λd2=>allR_ite (λd4=>?_) λd4=>?_) λd2=>allR_ite (λd4=>?_) λd4=>?_) (λd1=>allR_ite (λd2=>allR_ite (λd4=>?_) λd4=>?_) λd2=>allR_ite (λd4=>?_) λd4=>?_)<;>
   (show FB _ _ _ _ _=FB _ _ _ _ _;rw [hp];simp only [d1,d2,d4,BP,FJ,E4])) s hE
def ajh (s:HD) (hE:SI s):aAI s=.exit 0/\(Ou s).b3=FB s.At s.GL (gi s.b1 s.b4) s.c s.b3:=by
 have q3:=afY s hE
 obtain ⟨s',hI,q1,q2⟩:=aji s hE;refine ⟨q1,?_⟩
 have q3:FB s.At s.GL (gi s.b1 s.b4) (Ou s).c (Ou s).b3=FB s.At s.GL (gi s.b1 s.b4) s.c s.b3:=q3
 rw [<-q3];unfold FB;rw [J3,AE A0]
structure JU where
 t5:Y
 t41:aG
 (t42 t43:Y)
 At:aK
 B9:aF
 BV:aP
 B1:aG
 BW:aQ
 CF:aB
 b3:aMg
def yZ:=bN f93 1
def fh (s:JU):HD:=(⟨s.At,s.B9,s.BV,s.B1,s.BW,(AF s.t41 s.t43).2.1,s.At,s.B9,s.BV,s.B1,s.BW,s.CF,s.b3,s.t43,(AF s.t41 s.t43).1,(AF s.t41 s.t43).2.1,(AF s.t41 s.t43).2.2.1,(AF s.t41 s.t43).2.2.2.1,(AF s.t41 s.t43).2.2.2.2.1,(AF s.t41 s.t43).2.2.2.2.2.1,(AF s.t41 s.t43).2.2.2.2.2.2.1,(AF s.t41 s.t43).2.2.2.2.2.2.2,.ready⟩:HD)
def nq (s:JU):T (Rd JU):=
 .br (an<|s.t43<s.t42) (.ix s.t43 (M s.t41)<|.rl s.b3<|.req (Uu.q<|fh s)<|.rl (Ou<|fh s).b3<|.nx {s with t43:=AA<|s.t43+1,b3:=(Ou<|fh s).b3}) (.rl s.b3<|.so (.exit 2) s)
def bU (s:JU):Prop:=s.t43=0/\(s.t42=(M s.t41:Y)/\s.t42<=1000/\EB s.At=U/\atB s.At s.t41=U/\M s.CF=M s.t41)/\s.b3=aq (M s.At) (Ty.dflt<|.pair A7 Ae)
def Su (s:JU):Prop:=(0<=s.t43/\s.t43<=s.t42)/\(s.t42=(M s.t41:Y)/\s.t42<=1000/\EB s.At=U/\atB s.At s.t41=U/\M s.CF=M s.t41)/\s.b3=ldS s.At s.t41 s.CF s.t43.toNat
def lE (s:JU):aC:=(s.t42-s.t43).toNat
def tz (x:Ex) (s s':JU):Prop:=x=.exit 2/\s'.b3=ldS s'.At s'.t41 s'.CF (M s'.t41)
def axx:∀s,bU s->Su s:=by
 rintro s ⟨h0,h1,h2⟩
 exact ⟨A0,h1,by rw [h2,h0];rfl⟩
def aF6 (s:JU) (hI:Su s) (c1:s.t43<s.t42):SI (fh s):=by
 obtain ⟨⟨h0,h1⟩,⟨h2,h3,h4,h5,h6⟩,h7⟩:=hI;refine ⟨rfl,h4,lO h5 h0 A0,?_,⟨h0,?_⟩⟩
 ·show M s.b3=_
  rw [h7];exact iC h4 h5 _ A0
 ·show s.t43<(M s.CF:Y)
  omega
def aqn:Da Su lE tz nq:=by
 intro s hI
 have hin:=λc1=>aF6 s hI c1
 obtain ⟨⟨h0,h1⟩,⟨h2,h3,h4,h5,h6⟩,h7⟩:=hI;refine allR_ite (λc1=>?_) λc1=>?_
 ·have c1:s.t43<s.t42:=A8
  obtain ⟨_,q⟩:=ajh _<|hin c1;rw [AG (x:=s.t43+1)];refine ⟨⟨⟨A8,A8⟩,⟨h2,h3,h4,h5,h6⟩,?_⟩,by simp only [lE];omega⟩
  rw [show (s.t43+1).toNat=s.t43.toNat+1 by omega,q]
  show FB s.At (AF s.t41 s.t43).2.2.1 (gi s.CF s.t43) (AF s.t41 s.t43).2.1 s.b3=FB s.At (AF s.t41 (s.t43.toNat:Y)).2.2.1 (gi s.CF (s.t43.toNat:Y)) (AF s.t41 (s.t43.toNat:Y)).2.1 (ldS s.At s.t41 s.CF s.t43.toNat)
  grind
 ·have c1:s.t42<=s.t43:=A8
  refine ⟨rfl,?_⟩
  grind
def Pa:LpD JU:=⟨0,65,[2,3,4,5,8,41,42,43],[],λs=>[.own 0 0,.own 1 0,.v<|.slice aj 0 0,s.t5,.own 2 0,s.t41,s.t42,s.t43],λs=>[⟨[s.At,s.B9,s.BV,s.B1,s.BW],28,.cl,X⟩,⟨[.xl A7 s.CF],42,.cl,X⟩,⟨[.os 3 3 0<|M s.b3],184,.cl,X⟩,⟨[],192,.vec (.pair A7 Ae) s.b3,X⟩],λv b=>⟨AJ v 3,Ag AX v 5,AJ v 6,AJ v 7,AB AR b 0 0,AB .str b 0 1,AB AY b 0 2,AB AX b 0 3,AB AZ b 0 4,AB A7 b 1 0,AV (.pair A7 Ae) b 3⟩,nq,λs r=> {r with t5:=s.t5,t41:=s.t41,t42:=s.t42,At:=s.At,B9:=s.B9,BV:=s.BV,B1:=s.B1,BW:=s.BW,CF:=s.CF},λs=>s,λ_ s=>s,[.exit 2],bU,Su,lE⟩
abbrev w4:=Pa.run
abbrev akl:=Pa.exn
def apO:Rq Su nq:=by
 intro s hI;refine ⟨λc1=>⟨?_,A9,?_,A9,ak⟩,λc1=>⟨A9,ak⟩⟩
 ·(obtain ⟨⟨h0,h1⟩,⟨h2,h3⟩,h4⟩:=hI;simp only [AU] at c1;omega)
 ·exact ⟨aF6 s hI A8,rfl,rfl⟩
def lQ:aM:=[M4,XS]
def asN:Aj:=kI lQ<|la 1 func175 za<|l0 lQ
def aER:Pa.Ok:={}
def aDq:Pa.Pf (tz):=⟨axx,λs h=>rfl,aqn,apO⟩
def ahw:SA 0 yZ Pa:=s1 aER aDq lQ asN
def ajj:Fi bU Su tz akl w4:=LpD.fin aER aDq
def HN (cs:aK) (gs:aG) (am:aB):aLX:=if M am=M gs then ldS cs gs am (M gs) else []
def Gp (gs:aG) (am:aB):Y:=if M am=M gs then 0 else 1
def aHL:aD->T LV
 | .agg a::r=>s5 a λcs os ks gs bs=>(match r with
  | [.xl (.int J) am]=> .req (B0 cs os ks gs bs=U/\(M am=M gs->∀k:aC,k<M am->0<=gi am k/\gi am k<=80)) (.ok<|.tup [.xl (.pair A7 Ae)<|HN cs gs am,Gp gs am])
  |_=> .no)
 |_=> .no
def lP:aM:=[M4,XS]
def asM:Aj:=kI lP<|la 1 func175 za<|l0 lP
def aLn:=vm (S:=aHL) func93 lP asM (L:=(λi=>if i=4 then Pb.lp else if i=11 then Pa.lp else noLoops i)) (λb hb=>by
 rw [show loopsIn _=[ya,yZ] by kernel_rfl] at hb
 simp only [Ak,B8,B6] at hb;rcases hb with rfl|rfl
 ·exact ahx
 ·exact ahw) (λargs lv h=>by
 unfold aHL at h;split at h
 case h_2=>cases h
 replace h:=GV h
 obtain ⟨cs,os,ks,gs,bs,rfl,h⟩:=h;split at h
 ·rename_i am
  refine Af (letI e:=(M am:Y);letI f:=(M gs:Y);letI g:=(M cs:Y);letI b:=(fN (⟨0,am,e,0,cs,os,ks,gs,bs,am⟩:KY));letI d:=(aq g.toNat ((0:Y),((0:Y),(0:Y))));letI a:=(w4 (⟨b.t5,gs,f,0,cs,os,ks,gs,bs,am,d⟩:JU));.br ((!(B0 cs os ks gs bs)) ||(e !=f)) (.ok<|.tup [.xl (.pair A7 Ae) ([]:aMg),(1:Y)])<|.req (Pb.q (⟨0,am,e,0,cs,os,ks,gs,bs,am⟩:KY))<|.br (isEx (aAa (⟨0,am,e,0,cs,os,ks,gs,bs,am⟩:KY))<|.ret) (.ok<|.tup [.xl (.pair A7 Ae) ([]:aMg),b.t5])<|.rm 24 g<|.re g.toNat d<|.req (Pa.q (⟨b.t5,gs,f,0,cs,os,ks,gs,bs,am,d⟩:JU))<|.rz a.b3<|.ok<|.tup [.xl (.pair A7 Ae)<|(a.b3.drop 0).take<|M a.b3,(0:Y)]) ?_;obtain ⟨⟨hv,hr⟩,rfl⟩:=h
  by_cases hl:M am=M gs
  rotate_left
  ·refine ⟨λ_=>?_,λc=>?_⟩
   ·unfold HN Gp
    rw [AE hl,AE hl];rfl
   ·rw [hv] at c;simp at c;omega
  have hr:=hr hl
  unfold HN Gp;rw [AD hl,AD hl]
  have hb:=(CV.1 hv).1
  have hA:bW ⟨0,am,(M am:Y),0,cs,os,ks,gs,bs,am⟩:=⟨rfl,rfl,rfl,A8,hr⟩
  obtain ⟨_,_,q1,q5⟩:=ajk _ hA
  have hB:bU ⟨(fN ⟨0,am,(M am:Y),0,cs,os,ks,gs,bs,am⟩).t5,gs,(M gs:Y),0,cs,os,ks,gs,bs,am,aq (M cs:Y).toNat ((0:Y),((0:Y),(0:Y)))⟩:=⟨rfl,⟨rfl,A8,wQ hv,wS hv,hl⟩,by
   rw [Bs];rfl⟩
  obtain ⟨_,_,q6,q7⟩:=ajj _ hB
  have q7:(w4 ⟨(fN ⟨0,am,(M am:Y),0,cs,os,ks,gs,bs,am⟩).t5,gs,(M gs:Y),0,cs,os,ks,gs,bs,am,aq (M cs:Y).toNat ((0:Y),((0:Y),(0:Y)))⟩).b3=ldS cs gs am (M gs):=q7
  refine ⟨λc=>?_,λ_=>⟨⟨hA,rfl,rfl⟩,?_⟩⟩
  ·exfalso
   rw [hv,hl] at c
   simp at c
  ·rw [q1]
   refine ⟨λh=>Ab,λ_=>⟨A0,⟨rfl,AH⟩,⟨hB,rfl,rfl⟩,A0,?_⟩⟩
   show LV.tup _=LV.tup _
   rw [Bq,Cc,q7]
 ·cases h)
section
variable {cs : List Cd} {os : List ByteArray} {ks : List Ko} {gs : List Ch} {bs : List Ba} {l : List Le} {rs : List Ra} {d : List Dm} {t n : Int}
structure NwL (gs:aG) (am:aB) (t n:Y) (m:aN):Prop where
 at_:∀k:Y,0<=k->k<(M m:Y)->An m k=(n+k,(An m k).2.1,gi am (An m k).2.1,t,12)/\(0<=(An m k).2.1/\(An m k).2.1<(M gs:Y))/\C7 (AF gs (An m k).2.1)<gi am (An m k).2.1
 up:∀k:Y,1<=k->k<(M m:Y)->(An m (k-1)).2.1<(An m k).2.1
def RM {m:aN}{x:Le}{k:Y}(h0:0<=k):An (m++[x]) k=if k<(M m:Y) then An m k else if k=(M m:Y) then x else (0,0,0,0,0):=by
 unfold An;rw [DC,DC];split
 ·grind
 ·rw [EK A0]
  split
  ·rw [show k.toNat-M m=0 by omega]
   rfl
  ·rw [VR A8]
   rfl
def aGd {am:aB}:∀ {K:aC},K<=M gs->NwL gs am t n (F7 gs l t n am K)/\∀x∈F7 gs l t n am K,x.2.1<(K:Y)
 |0,_=>⟨⟨λk h0 h1=>aLQ,λk h0 h1=>aLQ⟩,λx hx=>by cases hx⟩
 | K +1,h=>by
  obtain ⟨⟨h1,h2⟩,h3⟩:=aGd (am:=am) (K:=K) A0;rw [F7];split
  ·rename_i hn
   have hf:=arP hn
   refine ⟨⟨λk k0 k1=>?_,λk k0 k1=>?_⟩,λx hx=>?_⟩
   ·simp only [Av,BB,BG] at k1
    rw [RM k0];split
    ·grind
    ·rename_i hk
     have e:k=(M (F7 gs l t n am K):Y):=A0
     rw [AD e,e]
     grind
   ·simp only [Av,BB,BG] at k1
    rw [RM A0,RM A0,AD (show k-1<(M (F7 gs l t n am K):Y) by omega)]
    split
    ·grind
    ·rename_i hk
     rw [AD (show k=(M (F7 gs l t n am K):Y) by omega)]
     exact h3 _<|NA A0 A0
   ·rw [BN,IM] at hx
    rcases hx with hx|rfl
    ·have:=h3 x hx;omega
    ·simp only;omega
  ·rw [HX]
   exact ⟨⟨h1,h2⟩,λx hx=>by have:=h3 x hx;omega⟩
def afy:BX l=U↔M l<=64/\∀k:Y,0<=k->k<(M l:Y)->Cj (An l k)=U/\(k=0\/Is (An l<|k-1) (An l k)=U):=by
 unfold BX;rw [AS,AU,Cm];refine and_congr_right λ_=>⟨λh k k0 k1=>?_,λh j hj=>?_⟩
 ·have:=h k.toNat A0
  rw [Bu k0] at this;unfold Ee at this;rw [AS,C5,AU] at this;exact this
 ·obtain ⟨h1,h2⟩:=h j A0 hj
  unfold Ee
  grind
def afG {x:Le}(h:BX l=U) (hx:Cj x=U) (hl:M l<64) (hf:M l=0\/Is (An l<|(M l:Y)-1) x=U):BX (l++[x])=true:=by
 rw [afy] at h|-;refine ⟨A8,λk k0 k1=>?_⟩
 simp only [Av,BB,BG] at k1;rw [RM k0];split
 ·rename_i hk
  obtain ⟨h1,h2⟩:=h.2 k k0 hk;refine ⟨h1,?_⟩;rcases h2 with h2|h2
  ·grind
  ·by_cases e:k=0
   ·exact .inl e
   ·rw [RM A0,AD A0]
    grind
 ·rename_i hk
  have e:k=(M l:Y):=A0
  rw [AD e];refine ⟨hx,?_⟩;rcases hf with hf|hf
  ·omega
  ·by_cases e0:k=0
   ·grind
   ·rw [RM A0,AD A0,e]
    grind
structure Fit (l:aN) (n t:Y):Prop where
 les:BX l=U
 last:M l=0\/((An l ((M l:Y)-1)).1<n/\(An l ((M l:Y)-1)).2.2.2.1<=t)
def Fit.mono {n' t':Y}(h:Fit l n t) (hn:n<=n') (ht:t<=t'):Fit l n' t':=⟨h.les,by
 rcases h.last with h1|h1
 ·exact .inl h1
 ·exact .inr A0⟩
end
def grS (o:aN) (x:Le):aN:=if Df o x=0 then HM o x else o
def atd {o:aN}{x:Le}(h:BX o=U):BX (grS o x)=U/\(grS o x=o\/grS o x=o++[x]):=by
 unfold grS;split
 ·rename_i e
  have e2:HM o x=o++[x]:=by unfold HM;rw [AD e]
  rw [e2];refine ⟨?_,.inr rfl⟩;unfold Df at e;split at e
  ·rename_i c
   rw [AS] at c;split at e
   ·omega
   ·rename_i c2
    split at e
    ·omega
    ·rename_i c3
     have:=(Hi h).1
     refine afG h c.2 A0 ?_
     by_cases q:M o=0
     ·exact .inl q
     ·right
      grind
  ·omega
 ·grind
def ckO (m:Y) (e:Ld):aL:=an (e.1<=m)&&(an (e.2.1<=m)&&an (e.2.2<=m))
def ckN (cs:aK) (L:aLX) (k:aC):aL:=CO k λo=>ckO (DF<|Aa cs o)<|DB L o.toNat
def gLi (l:aLX) (i:Y):Ld:=gx (e:=.pair A7 Ae) l i
def Iv (m:Y) (e:Ld) (t:Y):aL:=(an (t>0) ||an (e.1<=m))&&((an (t>1) ||an (e.2.1<=m))&&(an (t>2) ||an (e.2.2<=m)))
def azj {m:Y}{e:Ld}:Iv m e 0=ckO m e:=by simp [Iv,ckO]
def GA (cs:aK) (gs:aG) (m:aB):aL:=ckN cs (ldS cs gs m<|M gs)<|M cs
section
variable {cs : List Cd} {os : List ByteArray} {ks : List Ko} {gs : List Ch} {bs : List Ba} {l : List Le} {rs : List Ra} {d : List Dm} {t n : Int}
def amW {j:Y}(j0:0<=j) (j1:j<(M gs:Y)):gi (Fa gs l t) j=mx (C7<|AF gs j) (gi (Jp (M gs) l t) j):=OV j0 j1
def agD {l2:aN}{t2:Y}(hs:B0 cs os ks gs bs=U) (hv:BX l2=U) {j:Y}(j0:0<=j) (j1:j<(M gs:Y)):0<=gi (Fa gs l2 t2) j/\gi (Fa gs l2 t2) j<=80:=by
 have hch:chW (AF gs j)=true:=by
  have:=N7 hs j0 j1
  unfold Es at this
  grind
 have hc:=gq hch
 have h:=pF (a:=0) (b:=80) (j:=j) AT<|aB3 (t:=t2) (m:=M gs) hv
 rw [amW j0 j1];unfold mx;omega
end
def oS:Array Tmp×Code×Code:=((rangesIn<|f70.body.getD .skip)[0]?).getD (#[],.skip,.skip)
def aas:aMe:=oS.1
def aax:bE:=oS.2.1
def aav:bE:=oS.2.2
structure LH where
 (c t7 t8 t11:Y)
 BC:aK
 EU:aF
 EP:aP
 ER:aG
 EX:aQ
 (GK GO GS:Y)
 b2:aL
 b3:Y
 b4:aMg
 KC:aK
 KF:aF
 KD:aP
 KE:aG
 KT:aQ
 st:LS
def yK:=lN (bN f133 0) 0
def Yb (s:LH):T (Rd LH):=letI a:=DF<|Aa s.BC s.c;letI b:=AA<|s.t11+1;letI d:=M s.BC;.br (an<|s.t11<3) (.ix s.c (M s.b4)<|.br (s.t11==0) (.ix s.c d<|.br (an<|(gx (e:=.pair A7 Ae) s.b4 s.c).1>a) (.so (.ret) {s with GK:=s.c,GO:=s.t11,GS:=(gx (e:=.pair A7 Ae) s.b4 s.c).1,b2:=U,b3:=(0:Y),st:=.done<|.ret})<|.nx {s with t11:=b})<|.br (s.t11==1) (.ix s.c d<|.br (an<|(gx (e:=.pair A7 Ae) s.b4 s.c).2.1>a) (.so (.ret) {s with GK:=s.c,GO:=s.t11,GS:=(gx (e:=.pair A7 Ae) s.b4 s.c).2.1,b2:=U,b3:=(0:Y),st:=.done<|.ret})<|.nx {s with t11:=b})<|.br (s.t11==2) (.ix s.c d<|.br (an<|(gx (e:=.pair A7 Ae) s.b4 s.c).2.2>a) (.so (.ret) {s with GK:=s.c,GO:=s.t11,GS:=(gx (e:=.pair A7 Ae) s.b4 s.c).2.2,b2:=U,b3:=(0:Y),st:=.done<|.ret})<|.nx {s with t11:=b})<|.no /-  -/)<|.so (.exit 2) s
def ZN (s:LH):Prop:=s.st=.ready/\s.t11=0/\(0<=s.c/\s.c<(M s.b4:Y))/\s.c<(M s.BC:Y)
def Z3 (s:LH):Prop:=s.st=.ready/\(0<=s.t11/\s.t11<=3)/\(0<=s.c/\s.c<(M s.b4:Y))/\s.c<(M s.BC:Y)
def gu (s:LH):aC:=(3-s.t11).toNat
def abz (x:Ex) (s s':LH):Prop:=True
def azk:∀s,ZN s->Z3 s:=by
 rintro s ⟨h,h0,h1⟩
 exact ⟨h,A0,h1⟩
def auD:Da Z3 gu abz Yb:=by
 intro s hI;obtain ⟨ht,h0,h1,h2⟩:=hI;refine allR_ite (λc1=>?_) λc1=>?_
 ·refine allR_ite (λc2=>?_) (λc2=>?_)
  ·refine allR_ite (λc3=>?_) (λc3=>?_)
   ·trivial
   ·exact aHz
  ·refine allR_ite (λc3=>?_) (λc3=>?_)
   ·refine allR_ite (λc4=>?_) (λc4=>?_)
    ·trivial
    ·exact aHz
   ·refine allR_ite (λc4=>?_) (λc4=>?_)
    ·refine allR_ite (λc5=>?_) (λc5=>?_)
     ·trivial
     ·have c1:s.t11<3:=AQ
      rw [AG (x:=s.t11+1)];exact ⟨⟨ht,⟨A8,A8⟩,h1,h2⟩,by simp only [gu];omega⟩
    ·exfalso
     simp only [AU,Bt,ne_eq] at*;omega
 ·trivial
def Q4:LpD LH:=⟨7,22,[0,3,7,8,11],[],λs=>[.yld 6,s.c,s.t7,s.t8,s.t11],λs=>[⟨[s.BC,s.EU,s.EP,s.ER,s.EX],28,.cl,X⟩,⟨[s.GK,s.GO,s.GS],147,.cl,X⟩,⟨[s.b2],4,.cl,X⟩,⟨[s.b3],53,.cl,X⟩,⟨[.xl (.pair A7 Ae) s.b4],184,.cl,X⟩,⟨[s.KC,s.KF,s.KD,s.KE,s.KT],28,.cl,X⟩,⟨[.junk,.junk,.own 0 0,.junk,.own 1 0,.own 2 0,.own 3 0,.own 4 0,.junk,.v<|.tuple #[],.v<|.tuple #[],.junk,.junk,.junk,.junk,.junk,.junk,.junk,.junk,.junk,.junk,.junk,.v<|.tuple #[],.v<|.tuple #[],.v<|.tuple #[],.v<|.tuple #[],.v<|.tuple #[],.v<|.tuple #[],.v<|.tuple #[],.v<|.tuple #[],.v<|.tuple #[],.v<|.tuple #[],.v<|.tuple #[],.v<|.tuple #[],.v<|.tuple #[],.v<|.tuple #[],.v<|.tuple #[],.v<|.tuple #[],.v<|.tuple #[],.v<|.tuple #[],.v<|.tuple #[],.v<|.tuple #[],.v<|.tuple #[],.v<|.tuple #[],.v<|.tuple #[],.v<|.tuple #[],.junk],0,.lrec aas aax aav s.st,X⟩],λv b=>⟨AJ v 1,AJ v 2,AJ v 3,AJ v 4,AB AR b 0 0,AB .str b 0 1,AB AY b 0 2,AB AX b 0 3,AB AZ b 0 4,Ad b 1 0,Ad b 1 1,Ad b 1 2,IB b 2 0,Ad b 3 0,AB (.pair A7 Ae) b 4 0,AB AR b 5 0,AB .str b 5 1,AB AY b 5 2,AB AX b 5 3,AB AZ b 5 4,.ready⟩,Yb,λs r=> {r with c:=s.c,t7:=s.t7,t8:=s.t8,BC:=s.BC,EU:=s.EU,EP:=s.EP,ER:=s.ER,EX:=s.EX,b4:=s.b4,KC:=s.KC,KF:=s.KF,KD:=s.KD,KE:=s.KE,KT:=s.KT},λs=> {s with st:=.ready},λx s=> {s with st:=(match x with| .ret=>(.done<|.ret) | .exit 2=> .ready|_=> .ready)},[.ret,.exit 2],ZN,Z3,gu⟩
abbrev JO:=Q4.run
abbrev gG:=Q4.exn
def X4:aM:=[aLn,iz]
def m7:Aj:=kI X4<|l0 X4
def aqC:Rq Z3 Yb:=by
 intro s hI;refine ⟨λc1=>⟨?_,λc2=>⟨?_,λ_=>trivial,λ_=>trivial⟩,λc2=>⟨λc4=>⟨?_,λ_=>trivial,λ_=>trivial⟩,λc4=>⟨λc6=>⟨?_,λ_=>trivial,λ_=>trivial⟩,λc6=>?_⟩⟩⟩,λ_=>trivial⟩
 iterate 4 · (obtain ⟨ht,h0,h1,h2⟩:=hI;omega)
 ·(exfalso;obtain ⟨ht,h0,h1,h2⟩:=hI;simp only [AU,Bt,ne_eq] at*;omega)
def aFT:Q4.Ok:={}
def aDj:Q4.Pf (abz):=⟨azk,λs h=>by
 obtain ⟨c,t7,t8,t11,BC,EU,EP,ER,EX,GK,GO,GS,b2,b3,b4,KC,KF,KD,KE,KT,st⟩:=s
 have e:=h.1
 subst e;rfl,auD,aqC⟩
def aiO:SA 7 yK Q4:=s2 aFT aDj X4 m7
def alm:Rs ZN gG JO (λs:LH=>Iv (DF<|Aa s.BC s.c) (gLi s.b4 s.c) s.t11) (λx s' (v:aL)=>(x=.ret/\v=X/\s'.b2=U/\s'.b3=0)\/(x=.exit 2/\v=U)):=CM aFT aDj (λs hI=>by
  show allR _ _ ((Yb s).rd s)
  obtain ⟨ht,h0,h1,h2⟩:=hI;refine allR_ite (λc1=>?_) λc1=>?_
  ·refine allR_ite (λc2=>?_) (λc2=>?_)
   ·refine allR_ite (λc3=>?_) (λc3=>?_)
    ·refine .inl ⟨rfl,?_,rfl,rfl⟩
     have c3:(gLi s.b4 s.c).1>DF (Aa s.BC s.c):=C9 c3
     exact qe
    ·have c1:s.t11<3:=AQ
     rw [AG (x:=s.t11+1)]
     have c3:¬(gLi s.b4 s.c).1>DF (Aa s.BC s.c):=Gu c3
     exact ql
   ·refine allR_ite (λc3=>?_) (λc3=>?_)
    ·refine allR_ite (λc4=>?_) (λc4=>?_)
     ·refine .inl ⟨rfl,?_,rfl,rfl⟩
      have c4:(gLi s.b4 s.c).2.1>DF (Aa s.BC s.c):=C9 c4
      exact qe
     ·have c1:s.t11<3:=AQ
      rw [AG (x:=s.t11+1)]
      have c4:¬(gLi s.b4 s.c).2.1>DF (Aa s.BC s.c):=Gu c4
      exact ql
    ·refine allR_ite (λc4=>?_) (λc4=>?_)
     ·refine allR_ite (λc5=>?_) (λc5=>?_)
      ·refine .inl ⟨rfl,?_,rfl,rfl⟩
       have c5:(gLi s.b4 s.c).2.2>DF (Aa s.BC s.c):=C9 c5
       exact qe
      ·have c1:s.t11<3:=AQ
       rw [AG (x:=s.t11+1)]
       have c5:¬(gLi s.b4 s.c).2.2>DF (Aa s.BC s.c):=Gu c5
       exact ql
     ·exfalso
      simp only [AU,Bt,ne_eq] at*;omega
  ·have c1:3<=s.t11:=AQ
   refine .inr ⟨rfl,?_⟩;unfold Iv;simp only [AS,C5,AU];omega)
structure Hl where
 (t7 t8:Y)
 BC:aK
 EU:aF
 EP:aP
 ER:aG
 EX:aQ
 (GK GO GS:Y)
 b2:aL
 b3:Y
 b4:aMg
 KC:aK
 KF:aF
 KD:aP
 KE:aG
 KT:aQ
 st:LS
def yL:=bN f133 0
def GM (s:Hl):LH:=(⟨s.t8,s.t7,s.t8,0,s.BC,s.EU,s.EP,s.ER,s.EX,s.GK,s.GO,s.GS,s.b2,s.b3,s.b4,s.KC,s.KF,s.KD,s.KE,s.KT,.ready⟩:LH)
def nZ (s:Hl):T (Rd Hl):=
 .br (an<|s.t8<s.t7) (.req (Q4.q<|GM s)<|.br (isEx (gG<|GM s)<|.ret) (.so (.ret) {s with GK:=(JO<|GM s).GK,GO:=(JO<|GM s).GO,GS:=(JO<|GM s).GS,b2:=(JO<|GM s).b2,b3:=(JO<|GM s).b3,st:=.done<|.ret})<|.nx {s with t8:=AA<|s.t8+1,GK:=(JO<|GM s).GK,GO:=(JO<|GM s).GO,GS:=(JO<|GM s).GS,b2:=(JO<|GM s).b2,b3:=(JO<|GM s).b3}) (.so (.exit 0) s)
def ZO (s:Hl):Prop:=s.st=.ready/\s.t8=0/\s.t7=(M s.BC:Y)/\s.t7<=1000/\M s.b4=M s.BC
def UE (s:Hl):Prop:=s.st=.ready/\(0<=s.t8/\s.t8<=s.t7)/\s.t7=(M s.BC:Y)/\s.t7<=1000/\M s.b4=M s.BC
def k8 (s:Hl):aC:=(s.t7-s.t8).toNat
def ac0 (x:Ex) (s s':Hl):Prop:=True
def azl:∀s,ZO s->UE s:=by
 rintro s ⟨h,h0,h1⟩
 exact ⟨h,A0,h1⟩
def aGF (s:Hl) (hI:UE s) (c1:s.t8<s.t7):ZN (GM s):=by
 obtain ⟨ht,⟨h0,h1⟩,h2,h3,h4⟩:=hI;exact ⟨rfl,rfl,⟨h0,by show s.t8<(M s.b4:Y);omega⟩,by show s.t8<(M s.BC:Y);omega⟩
def auE:Da UE k8 ac0 nZ:=by
 intro s hI;obtain ⟨ht,⟨h0,h1⟩,h2,h3,h4⟩:=hI;refine allR_ite (λc1=>allR_ite (λc2=>trivial) λc2=>?_) λc1=>trivial
 have c1:s.t8<s.t7:=A8
 rw [AG (x:=s.t8+1)];exact ⟨⟨ht,⟨A8,A8⟩,h2,h3,h4⟩,by simp only [k8];omega⟩
def SS:LpD Hl:=⟨7,22,[0,7,8],[],λs=>[.yld 6,s.t7,s.t8],λs=>[⟨[s.BC,s.EU,s.EP,s.ER,s.EX],28,.cl,X⟩,⟨[s.GK,s.GO,s.GS],147,.cl,X⟩,⟨[s.b2],4,.cl,X⟩,⟨[s.b3],53,.cl,X⟩,⟨[.xl (.pair A7 Ae) s.b4],184,.cl,X⟩,⟨[s.KC,s.KF,s.KD,s.KE,s.KT],28,.cl,X⟩,⟨[.junk,.junk,.own 0 0,.junk,.own 1 0,.own 2 0,.own 3 0,.own 4 0,.junk,.v<|.tuple #[],.v<|.tuple #[],.junk,.junk,.junk,.junk,.junk,.junk,.junk,.junk,.junk,.junk,.junk,.v<|.tuple #[],.v<|.tuple #[],.v<|.tuple #[],.v<|.tuple #[],.v<|.tuple #[],.v<|.tuple #[],.v<|.tuple #[],.v<|.tuple #[],.v<|.tuple #[],.v<|.tuple #[],.v<|.tuple #[],.v<|.tuple #[],.v<|.tuple #[],.v<|.tuple #[],.v<|.tuple #[],.v<|.tuple #[],.v<|.tuple #[],.v<|.tuple #[],.v<|.tuple #[],.v<|.tuple #[],.v<|.tuple #[],.v<|.tuple #[],.v<|.tuple #[],.v<|.tuple #[],.junk],0,.lrec aas aax aav s.st,X⟩],λv b=>⟨AJ v 1,AJ v 2,AB AR b 0 0,AB .str b 0 1,AB AY b 0 2,AB AX b 0 3,AB AZ b 0 4,Ad b 1 0,Ad b 1 1,Ad b 1 2,IB b 2 0,Ad b 3 0,AB (.pair A7 Ae) b 4 0,AB AR b 5 0,AB .str b 5 1,AB AY b 5 2,AB AX b 5 3,AB AZ b 5 4,.ready⟩,nZ,λs r=> {r with t7:=s.t7,BC:=s.BC,EU:=s.EU,EP:=s.EP,ER:=s.ER,EX:=s.EX,b4:=s.b4,KC:=s.KC,KF:=s.KF,KD:=s.KD,KE:=s.KE,KT:=s.KT},λs=> {s with st:=.ready},λx s=> {s with st:=(match x with| .ret=>(.done<|.ret) | .exit 0=> .ready|_=> .ready)},[.ret,.exit 0],ZO,UE,k8⟩
abbrev WV:=SS.run
abbrev Wq:=SS.exn
def aqD:Rq UE nZ:=by
 intro s hI;refine ⟨λc1=>⟨?_,λ_=>trivial,λ_=>trivial⟩,λ_=>trivial⟩
 ·exact ⟨aGF s hI A8,rfl,rfl⟩
def aFU:SS.Ok:={}
def aDk:SS.Pf (ac0):=⟨azl,λs h=>by
 obtain ⟨t7,t8,BC,EU,EP,ER,EX,GK,GO,GS,b2,b3,b4,KC,KF,KD,KE,KT,st⟩:=s
 have e:=h.1
 subst e;rfl,auE,aqD⟩
def aiP:SA 7 yL SS:=LpD.snd aFU aDk (code_soundA (Γ:=X4) (K:=m7) (L:=(byId (λi=>if i=4 then Q4.lp else noLoops i))) (gk X4) m7.h yL (λb hb=>by
 rw [show loopsIn _=[yK] by kernel_rfl] at hb
 simp only [Ak,B8,B6] at hb;subst hb;exact aiO)) λs=>AM
def aln:Rs ZO Wq WV (λs:Hl=>((au<|M s.BC).drop s.t8.toNat).all λo=>ckO (DF<|Aa s.BC o)<|DB s.b4 o) (λx s' (v:aL)=>(x=.ret/\v=X/\s'.b2=U/\s'.b3=0)\/(x=.exit 0/\v=U)):=CM aFU aDk (λs hI=>by
  have hin:=λc1=>aGF s hI c1
  obtain ⟨ht,⟨h0,h1⟩,h2,h3,h4⟩:=hI;refine allR_ite (λc1=>?_) λc1=>?_
  ·have c1:s.t8<s.t7:=AQ
   have q:=alm _<|hin c1
   have e:((au<|M s.BC).drop s.t8.toNat).all (λo=>ckO (DF<|Aa s.BC o)<|DB s.b4 o)=(Iv (DF<|Aa s.BC s.t8) (gLi s.b4 s.t8) 0&&((au<|M s.BC).drop (s.t8+1).toNat).all (λo=>ckO (DF<|Aa s.BC o)<|DB s.b4 o)):=by
    rw [QR CN,GD,cG,show (s.t8+1).toNat=s.t8.toNat+1 by omega,Bu h0,azj]
    rfl
   refine allR_ite (λc2=>?_) λc2=>?_
   ·rcases q with ⟨q1,q2,q3,q4⟩ |⟨q1,q2⟩
    ·refine .inl ⟨rfl,?_,q3,q4⟩
     rw [e]
     have q2:Iv (DF<|Aa s.BC s.t8) (gLi s.b4 s.t8) 0=false:=q2
     grind
    ·rw [show gG (GM s)=_ from q1] at c2
     cases c2
   ·rcases q with ⟨q1,q2,q3,q4⟩ |⟨q1,q2⟩
    ·rw [show gG (GM s)=_ from q1] at c2
     cases c2
    ·show List.all _ _=List.all _ _
     rw [e]
     have q2:Iv (DF<|Aa s.BC s.t8) (gLi s.b4 s.t8) 0=true:=q2
     rw [q2,Cr,AG (x:=s.t8+1)]
  ·have c1:s.t7<=s.t8:=AQ
   refine .inr ⟨rfl,?_⟩;rw [DD CN];rfl)
def vk1 (cs:aK) (os:aF) (ks:aP) (gs:aG) (bs:aQ) (am:aB):Y:=if (an (M am=M gs)&&isEx (Wq ⟨(M cs:Y),0,cs,os,ks,gs,bs,0,0,0,X,0,HN cs gs am,cs,os,ks,gs,bs,.ready⟩) (.ret))=U then (WV ⟨(M cs:Y),0,cs,os,ks,gs,bs,0,0,0,X,0,HN cs gs am,cs,os,ks,gs,bs,.ready⟩).GK else 0
def vk2 (cs:aK) (os:aF) (ks:aP) (gs:aG) (bs:aQ) (am:aB):Y:=if (an (M am=M gs)&&isEx (Wq ⟨(M cs:Y),0,cs,os,ks,gs,bs,0,0,0,X,0,HN cs gs am,cs,os,ks,gs,bs,.ready⟩) (.ret))=U then (WV ⟨(M cs:Y),0,cs,os,ks,gs,bs,0,0,0,X,0,HN cs gs am,cs,os,ks,gs,bs,.ready⟩).GO else 0
def vk3 (cs:aK) (os:aF) (ks:aP) (gs:aG) (bs:aQ) (am:aB):Y:=if (an (M am=M gs)&&isEx (Wq ⟨(M cs:Y),0,cs,os,ks,gs,bs,0,0,0,X,0,HN cs gs am,cs,os,ks,gs,bs,.ready⟩) (.ret))=U then (WV ⟨(M cs:Y),0,cs,os,ks,gs,bs,0,0,0,X,0,HN cs gs am,cs,os,ks,gs,bs,.ready⟩).GS else 0
def aB2:aD->T LV
 | [.agg [.xl (.pair .str (.pair (.int J) (.pair (.int J) (.pair (.int J) (.pair (.pair (.int J) (.int J)) (.pair (.int J) (.pair (.int J) (.pair (.int J) (.pair (.int J) (.int J)))))))))) cs,.xl (.str) os,.xl (.pair .str (.pair (.int J) (.pair (.int J) (.int J)))) ks,.xl (.pair .str (.pair (.int J) (.pair (.int J) (.pair (.int J) (.pair (.int J) (.pair (.int J) (.pair (.int J) (.int J)))))))) gs,.xl (.pair .str (.int J)) bs],.xl (.int J) am]=> .req (B0 cs os ks gs bs=U/\(M am=M gs->∀k:aC,k<M am->0<=gi am k/\gi am k<=80)) (.tu #[.agg #[vk1 cs os ks gs bs am,vk2 cs os ks gs bs am,vk3 cs os ks gs bs am],.bool<|an (M am=M gs)&&!GA cs gs am,Gp gs am])
 |_=> .no
def mM:aM:=[aLn,iz]
def asL:Aj:=kI mM<|la 1 func133 aiP<|l0 mM
def Rb:=vo (S:=aB2) func70 mM asL (λargs lv h=>by
 unfold aB2 at h;split at h
 ·rename_i cs os ks gs bs am
  refine Af (letI b:=(M cs:Y);letI d:=HN cs gs am;letI a:=(WV (⟨b,0,cs,os,ks,gs,bs,0,0,0,X,0,d,cs,os,ks,gs,bs,.ready⟩:Hl));.req (B0 cs os ks gs bs=U/\(M am=M gs->∀k:aC,k<M am->0<=gi am k/\gi am k<=80))<|.br ((Gp gs am) !=0) (.tu #[.agg #[(0:Y),(0:Y),(0:Y)],X,(1:Y)])<|.req (SS.q (⟨b,0,cs,os,ks,gs,bs,0,0,0,X,0,d,cs,os,ks,gs,bs,.ready⟩:Hl))<|.br (isEx (Wq (⟨b,0,cs,os,ks,gs,bs,0,0,0,X,0,d,cs,os,ks,gs,bs,.ready⟩:Hl))<|.ret) (.tu #[.agg #[a.GK,a.GO,a.GS],a.b2,a.b3])<|.tu #[.agg #[(0:Y),(0:Y),(0:Y)],X,(0:Y)]) ?_;obtain ⟨hq,rfl⟩:=h
  have hv:=hq.1
  have hb:=(CV.1 hv).1
  refine ⟨hq,λc=>?_,λc=>?_⟩
  ·have hl:¬(M am)=M gs:=λh=>by unfold Gp at c;rw [AD h] at c;cases c
   unfold vk1 vk2 vk3 Gp;simp only [AE hl,Fq hl,Mg,FJ,E4];rfl
  have hl:M am=M gs:=by
   unfold Gp at c;split at c
   ·assumption
   ·cases c
  have hX:HN cs gs am=ldS cs gs am (M gs):=AD hl
  have hY:Gp gs am=0:=AD hl
  rw [hY,Cq hl,Cr]
  have hE:ZO ⟨(M cs:Y),0,cs,os,ks,gs,bs,0,0,0,X,0,(HN cs gs am),cs,os,ks,gs,bs,.ready⟩:=⟨rfl,rfl,rfl,aKm,by show M (HN cs gs am)=M cs;rw [hX];exact iC (wQ hv) (wS hv) _<|Ar _⟩
  refine ⟨⟨hE,rfl,rfl⟩,?_⟩
  have e:GA cs gs am=((au<|M cs).drop (0:Y).toNat).all (λo=>ckO (DF<|Aa cs o)<|DB (HN cs gs am) o):=by rw [hX];rfl
  rcases aln _ hE with ⟨q1,q2,q3,q4⟩ |⟨q1,q2⟩
  ·have q2:GA cs gs am=false:=e.trans q2
   unfold vk1 vk2 vk3;simp only [Cq hl,Cr];rw [q1,q3,q4,q2];exact ⟨λ_=>rfl,λh=>Ab⟩
  ·have q2:GA cs gs am=true:=e.trans q2
   unfold vk1 vk2 vk3;simp only [Cq hl,Cr];rw [q1,q2];exact ⟨λh=>Ab,λ_=>rfl⟩
 ·cases h)
def alO {cs:aK}{os:aF}{ks:aP}{gs:aG}{bs:aQ}(hs:B0 cs os ks gs bs=U) {k:aC}(hk:k<M (BQ gs)):0<=gi (BQ gs) k/\gi (BQ gs) k<=80:=by
 have hl:M (BQ gs)=M gs:=Hb
 rw [show gi (BQ gs) (k:Y)=C7 (AF gs k) from OV A0 A0]
 have:=N7 hs (c:=(k:Y)) A0 A0
 unfold Es at this;simp only [AS] at this
 have:=gq this.2.2
 omega
structure M6 where
 m:aG
 (k i:Y)
 out:aB
def yN:=bN f71 0
def mS (s:M6):T (Rd M6):=letI a:=s.out.set s.i.toNat (AF s.m s.i).2.2.2.2.2.2.1;.br (an<|s.i<s.k) (.ix s.i (M s.m)<|.ik s.i (M s.out)<|.re (M s.out) a<|.nx {s with i:=AA<|s.i+1,out:=a})<|.rl s.out<|.so (.exit 0) s
def bK (s:M6):Prop:=s.i=0/\s.k=(M s.m:Y)/\s.k<=1000/\M s.out=M s.m/\(∀j,0<=j->j<s.k->gi s.out j=0)/\True
def TD (s:M6):Prop:=(0<=s.i/\s.i<=s.k)/\s.k=(M s.m:Y)/\s.k<=1000/\M s.out=M s.m/\(∀j,0<=j->j<s.k->gi s.out j=if j<s.i then C7 (AF s.m j) else 0)/\True
def ko (s:M6):aC:=(s.k-s.i).toNat
def tY (x:Ex) (s s':M6):Prop:=x=.exit 0/\s'.out=Ep (M s'.m) (λj=>C7<|AF s'.m j)
def awU:∀s,bK s->TD s:=by
 exact OJ
def aq1:Da TD ko tY mS:=by
 intro s hI;obtain ⟨⟨h0,h1⟩,h2,h3,h4,h5,h6⟩:=hI;refine allR_ite (λc1=>?_) λc1=>?_
 ·have c1:s.i<s.k:=AQ
  rw [AG (x:=s.i+1)];refine ⟨⟨⟨A8,A8⟩,h2,h3,A8,λj j0 j1=>?_,h6⟩,by simp only [ko];omega⟩
  simp only;rw [Hj h0 W6 j0];exact cb
 ·exact Vh
def PQ:LpD M6:=⟨0,25,[3,11,12,13],[],λs=>[.os 0 1 0<|M s.out,s.m,s.k,s.i],λs=>[bV 3 A7 s.out],λv b=>⟨Ag AX v 1,AJ v 2,AJ v 3,AV A7 b 0⟩,mS,λs r=> {r with m:=s.m,k:=s.k},λs=>s,λ_ s=>s,[.exit 0],bK,TD,ko⟩
abbrev vz:=PQ.run
abbrev akY:=PQ.exn
def ap4:Rq TD mS:=by
 exact qS
def aFn:aM:=[]
def aF4:PQ.Ok:={}
def aCl:PQ.Pf (tY):=⟨awU,λs h=>rfl,aq1,ap4⟩
def ahl:SA 0 yN PQ:=s1 aF4 aCl aFn kN
def aiM:Fi bK TD tY akY vz:=LpD.fin aF4 aCl
def aBL:aD->T LV
 | .agg a::r=>s5 a λcs os ks gs bs=>(match r with
  | []=> .req ((M gs:Y)<=1000) (.ok<|.xl A7<|BQ gs)
  |_=> .no)
 |_=> .no
def hM:=vm (S:=aBL) func71 aFn kN (L:=(λi=>if i=3 then PQ.lp else noLoops i)) (λb hb=>by
 rw [show loopsIn _=[yN] by kernel_rfl] at hb
 simp only [Ak,B8,B6] at hb;subst hb;exact ahl) (λargs lv h=>by
 unfold aBL at h;split at h
 case h_2=>cases h
 replace h:=GV h
 obtain ⟨cs,os,ks,gs,bs,rfl,h⟩:=h;split at h
 ·refine Af (letI c:=(M gs:Y);letI a:=(aq c.toNat (0:Y));letI b:=(vz (⟨gs,c,0,a⟩:M6));.rm 8 c<|.re c.toNat a<|.req (PQ.q (⟨gs,c,0,a⟩:M6))<|.rz b.out<|.ok<|.xl A7<|(b.out.drop 0).take<|M b.out) ?_
  obtain ⟨hn,rfl⟩:=h
  have hE:bK ⟨gs,(M gs:Y),0,aq (M gs:Y).toNat 0⟩:=⟨rfl,rfl,hn,AH,λj _ _=>KV,ak⟩
  obtain ⟨_,_,q1,q2⟩:=aiM _ hE
  have q2:(vz ⟨gs,(M gs:Y),0,aq (M gs:Y).toNat 0⟩).out=BQ gs:=q2
  refine ⟨A0,⟨rfl,AH⟩,⟨hE,rfl,rfl⟩,A0,?_⟩
  show LV.xl _ _=_
  rw [Bq,Cc,q2]
 ·cases h)
def aBJ:aD->T LV
 | .agg a::r=>s5 a λcs os ks gs bs=>(match r with
  | []=> .req (B0 cs os ks gs bs=U) (.ok<|.v<|.bool<|!GA cs gs (BQ gs))
  |_=> .no)
 |_=> .no
def atf:aM:=[Rb,hM]
def gw:=vo (S:=aBJ) func35 atf kN (λargs lv h=>by
 unfold aBJ at h;split at h
 case h_2=>cases h
 replace h:=GV h
 obtain ⟨cs,os,ks,gs,bs,rfl,h⟩:=h;split at h
 ·refine Af (.req ((M gs:Y)<=1000)<|.req (B0 cs os ks gs bs=U/\(M (BQ gs)=M gs->∀k:aC,k<M (BQ gs)->0<=gi (BQ gs) k/\gi (BQ gs) k<=80))<|.ok<|.v<|.bool<|((Gp gs<|BQ gs)==0)&&(an (M (BQ gs)=M gs)&&!GA cs gs (BQ gs))) ?_
  obtain ⟨hs,rfl⟩:=h
  have hg:=(CV.1 hs).1
  have hl:M (BQ gs)=M gs:=Hb
  have hY:Gp gs (BQ gs)=0:=AD hl
  refine ⟨A0,⟨hs,λ_ k hk=>alO hs hk⟩,?_⟩
  rw [hY,Cq hl];rfl
 ·cases h)
abbrev Al:Ty:=.pair A7<|.pair A7<|.pair A7 .bool
abbrev St:=Int×Int×Int×Bool
def bf:q_ (List St):=⟨⟩
instance:Coe (List St) LV:=⟨.xl Al⟩
def BI (l:bf) (n:Y):St:=l.getD n.toNat (0,0,0,X)
def sV (c:Ch) (s:St):aL:=G8 c.2.2.1 c.2.2.2.1 c.2.2.2.2.1 c.2.2.2.2.2.1 c.2.2.2.2.2.2.1&&(inB s.1 0 5&&(inB s.2.2.1 0 1000000&&(inB s.2.1 0 c.2.2.2.2.1&&((s.2.2.1 !=0 ||s.2.1==0)&&(!s.2.2.2 ||s.1==5)))))
def aD8 {c:Ch}{s:St}:sV c s=U↔G8 c.2.2.1 c.2.2.2.1 c.2.2.2.2.1 c.2.2.2.2.2.1 c.2.2.2.2.2.2.1=U/\0<=s.1/\s.1<=5/\0<=s.2.2.1/\s.2.2.1<=1000000/\0<=s.2.1/\s.2.1<=c.2.2.2.2.1/\(s.2.2.1=0->s.2.1=0)/\(s.2.2.2=U->s.1=5):=by
 obtain ⟨p,a,l,w⟩:=s;unfold sV;cases w<;>simp [C1]<;>omega
def evV (mx k n m:Y):aL:=if k=4 then inB n 0 1 else if k=6 then inB n 0 2 else if k=7 then inB m 1 1000000&&inB n 0 mx else U
def phF (p:Y) (w:aL) (k n:Y):Y:=
 if k=1 then (if p=0 then 1 else -1)
 else if k=2 then (if p=5/\w=U then 5 else if p=1\/p=5 then 0 else -1)
 else if k=3 then (if p=1 then 2 else -1)
 else if k=4 then (if p=2 then (if n=1 then 3 else 5) else -1)
 else if k=5 then (if p=3 then 4 else -1)
 else if k=6 then (if p=4 then (if n=0 then 1 else 5) else -1)
 else if k=9 then (if p=0\/w=U then p else 1)
 else p
def tkF (l:Y):Y:=if 0<l-1 then l-1 else 0
def sL (l k m:Y):Y:=if k=7 then m else if k=8 then tkF l else if k=9 then 0 else l
def sA (a l k n:Y):Y:=if k=7 then n else if k=8 then (if tkF l=0 then 0 else a) else if k=9 then 0 else a
def sW (w:aL) (k n:Y):aL:=w ||(k==6&&n==1)
def sE (c:Ch) (s:St) (k n m:Y):Y:=
 if sV c s=U then (if inB k 1 9=U then (if evV c.2.2.2.2.1 k n m=U then (if phF s.1 s.2.2.2 k n<0 then 6 else 0) else 1) else 9) else 1
def sN (c:Ch) (s:St) (k n m:Y):St:=if sE c s k n m=0 then (phF s.1 s.2.2.2 k n,sA s.2.1 s.2.2.1 k n,sL s.2.2.1 k m,sW s.2.2.2 k n) else (0,0,0,X)
def BH (c:Ch) (s:St):Y:=if sV c s=U then (if s.2.2.2=U then c.2.2.2.2.1 else if s.1≠4 then 0 else if s.2.2.1≠0 then s.2.1 else c.2.2.2.2.2.2.1) else 0
def fI (k p:Y):Y:=
 if k=1 then (if p=0 then 1 else -1)
 else if k=2 then (if p=1 then 0 else if p=5 then -3 else -1)
 else if k=3 then (if p=1 then 2 else -1)
 else if k=4 then (if p=2 then -3 else -1)
 else if k=5 then (if p=3 then 4 else -1)
 else if k=6 then (if p=4 then -3 else -1)
 else if k=7 then -2
 else if k=8 then -2
 else if p=0 then 0 else if p=5 then -3 else 1
def avC {k p:Y}(h1:1<=k) (h2:k<=9) (h3:0<=p) (h4:p<=5):Rl (k.toNat*6+(p.toNat*1+0))=fI k p:=by
 have key:∀e:Fin 10,∀s:Fin 6,1<=e.val->Rl (e.val*6+(s.val*1+0))=fI (e.val:Y) (s.val:Y):=AT
 have:=key ⟨k.toNat,A0⟩ ⟨p.toNat,A0⟩ A8
 grind
def O5 (p:Y) (w:aL) (k n:Y):Y:=if k=4 then (if n=1 then 3 else 5) else if k=6 then (if n=0 then 1 else 5) else if k=2 then (if w=U then p else 0) else if k=9 then (if w=U then p else 1) else p
def O4 (w:aL) (k n:Y):aL:=if k=6 then n==1 else w
def nine {k:Y}(h1:1<=k) (h2:k<=9):k=1\/k=2\/k=3\/k=4\/k=5\/k=6\/k=7\/k=8\/k=9:=A0
def agS {p:Y}(h1:0<=p) (h2:p<=5):p=0\/p=1\/p=2\/p=3\/p=4\/p=5:=A0
abbrev Ca:=Int×Int×Int×Int×Int
def aMc:q_ (List Ca):=⟨⟩
def BA (l:aMc) (n:Y):Ca:=l.getD n.toNat (0,0,0,0,0)
abbrev Ap:Ty:=.pair (.sl A7)<|.pair A7 A7
abbrev Mi:=List Int×Int×Int
def aL4:q_ (List Mi):=⟨⟩
instance:Coe (List Mi) LV:=⟨.xl Ap⟩
def Bz (l:aL4) (n:Y):Mi:=l.getD n.toNat ([],0,0)
abbrev Az:Ty:=.pair A7<|.pair A7 .bool
abbrev Me:=Int×Int×Bool
def aL6:q_ (List Me):=⟨⟩
instance:Coe (List Me) LV:=⟨.xl Az⟩
def FD (l:aL6) (n:Y):Me:=l.getD n.toNat (0,0,X)
def EJ (c:Ca):aL:=inB c.1 0 4&&(inB c.2.1 1 7&&(inB c.2.2.1 1 80&&(inB c.2.2.2.1 0 1000000000&&(inB c.2.2.2.2 0 20&&(c.1 !=3 ||an (c.2.2.2.2>=1))))))
def RS {c:Ca}:EJ c=U↔0<=c.1/\c.1<=4/\1<=c.2.1/\c.2.1<=7/\1<=c.2.2.1/\c.2.2.1<=80/\0<=c.2.2.2.1/\c.2.2.2.1<=1000000000/\0<=c.2.2.2.2/\c.2.2.2.2<=20/\(c.1=3->1<=c.2.2.2.2):=by
 simp [EJ,inB];omega
def G6 (m:Mi):aL:=an (M m.1<=21)&&(inB m.2.1 0 1000000&&(inB m.2.2 0 2000000000&&m.1.all (λp=>inB p 0 80)))
def Wt {m:Mi}:G6 m=U↔M m.1<=21/\0<=m.2.1/\m.2.1<=1000000/\0<=m.2.2/\m.2.2<=2000000000/\∀p∈m.1,0<=p/\p<=80:=by
 simp [G6,C1,and_assoc]
def cnt (n:Y):Y:=n%2+n / 2%2+n / 4%2
def aez {n:Y}:0<=cnt n/\cnt n<=3:=by unfold cnt;omega
def eight {n:Y}(h1:0<=n) (h2:n<=7):n=0\/n=1\/n=2\/n=3\/n=4\/n=5\/n=6\/n=7:=A0
def land (a b:Y):Y:=BM J a b
def Hz (k ph p:Y):Y:=if k=2 then land (land ph p) (-land ph p) else land ph p
def adz {a b:Y}(ha:0<=a/\a<=7) (hb:0<=b/\b<=7):0<=land a b/\land a b<=7/\0<=land (land a b) (-land a b)/\land (land a b) (-land a b)<=7/\(land a b≠0->land (land a b) (-land a b)≠0):=by
 have key:∀x y:Fin 8,0<=land x.val y.val/\land x.val y.val<=7/\0<=land (land x.val y.val) (-land x.val y.val)/\land (land x.val y.val) (-land x.val y.val)<=7/\(land x.val y.val≠0->land (land x.val y.val) (-land x.val y.val)≠0):=AT
 have:=key ⟨a.toNat,A0⟩ ⟨b.toNat,A0⟩
 simp only [Bu ha.1,Bu hb.1] at this;exact this
def VE (dl:Y) (pil:aB):Y:=if (M pil:Y)-dl>=0 then pil.getD ((M pil:Y)-dl).toNat 0 else 0
def FX (c:Ca) (m:Mi) (al:Y):Y:=
 if c.1=1 then (if c.2.2.2.2=0 then al else min al (VE c.2.2.2.2 m.1))
 else if c.1=3 then (if (m.2.1.tdiv c.2.2.2.2).tmod 2=1 then 0 else al)
 else if c.1=4 then (if al=0 then 0 else c.2.2.1) else al
def Dy (c:Ca) (m:Mi) (p al:Y):Y:=if Hz c.1 c.2.1 p=0\/m.2.2>=c.2.2.2.1 then 0 else min c.2.2.1 (FX c m al)
def Fc (c:Ca) (m:Mi) (p al:Y):Y:=if Dy c m p al=0 then 0 else Hz c.1 c.2.1 p
def dwP (pil:aB) (al:Y):aB:=(pil++[al]).drop<|M pil-20
def dwG (c:Ca) (m:Mi) (p al:Y):Y:=m.2.2+2300*Dy c m p al*cnt (Fc c m p al)
def J5 (c:Ca) (m:Mi) (p al:Y):aL:=EJ c&&(G6 m&&(inB p 1 7&&(inB al 0 80&&m.2.1 !=1000000)))
def gH {c:Ca}{m:Mi}{p al:Y}:J5 c m p al=U↔EJ c=U/\G6 m=U/\1<=p/\p<=7/\0<=al/\al<=80/\m.2.1≠1000000:=by
 simp [J5,C1,and_assoc]
def w8 {k ph p:Y}(h1:1<=ph/\ph<=7) (h2:1<=p/\p<=7):0<=Hz k ph p/\Hz k ph p<=7:=by
 obtain ⟨a1,a2,a3,a4,_⟩:=adz (a:=ph) (b:=p) ⟨A0,A0⟩ ⟨A0,A0⟩;unfold Hz;exact Vl
def ael {dl:Y}{pil:aB}(h:∀p∈pil,0<=p/\p<=80):0<=VE dl pil:=by
 unfold VE;split
 ·rw [DC]
  cases hg:pil[((M pil:Y)-dl).toNat]? with
  |none=>simp
  |some x=>simp;exact (h x<|Mj hg).1
 ·omega
def aeX {c:Ca}{m:Mi}{al:Y}(hc:EJ c=U) (hm:G6 m=U) (ha:0<=al):0<=FX c m al:=by
 have hc:=RS.1 hc
 have hm:=Wt.1 hm
 have:=ael (dl:=c.2.2.2.2) hm.2.2.2.2.2
 unfold FX
 repeat' split
 all_goals omega
def aeD {c:Ca}{m:Mi}{p al:Y}(hc:EJ c=U) (hm:G6 m=U) (hp:1<=p/\p<=7) (ha:0<=al/\al<=80):
  0<=Dy c m p al/\Dy c m p al<=c.2.2.1/\0<=Fc c m p al/\Fc c m p al<=7:=by
 have hw:=aeX hc hm ha.1
 have hc:=RS.1 hc
 have hs:=w8 (k:=c.1) (ph:=c.2.1) (p:=p) ⟨A0,A0⟩ hp
 have h1:0<=Dy c m p al/\Dy c m p al<=c.2.2.1:=by unfold Dy;split<;>omega
 refine ⟨h1.1,h1.2,?_⟩;unfold Fc;omega
def Di (c:Ca) (m:Mi) (p al:Y):Y:=if J5 c m p al=U then Dy c m p al else 0
def DL (c:Ca) (m:Mi) (p al:Y):Y:=if J5 c m p al=U then Fc c m p al else 0
def I9 (c:Ca) (m:Mi) (p al:Y):Mi:=if J5 c m p al=U then (dwP m.1 al,m.2.1+1,dwG c m p al) else ([],0,0)
def Gs (c:Ca) (m:Mi) (p al:Y):Y:=if J5 c m p al=U then 0 else 1
def meV (m:Me):aL:=inB m.1 0 1000000&&(an (m.2.1>=-1000000000000000)&&an (m.2.1<=1000000000000000))
def mcR (m:Me) (a p:Y):Y:=if m.2.2=U then m.2.1-2300*a*p else m.2.1+2300*a*p
def mcB (m:Me) (a p:Y):aL:=meV m&&(inB a 0 80&&inB p 0 3)
def Ei (m:Me) (a p:Y):Y:=if mcB m a p=U then (if meV (m.1,mcR m a p,m.2.2)=U then 0 else 3) else 1
def G7 (m:Me) (a p:Y):Me:=if Ei m a p=0 then (m.1,mcR m a p,m.2.2) else (0,0,X)
def F4 (t d:Y):Y:=if (inB t 0 1000000&&inB d (-200) 200)=U then t*(1000000+d) / 1000000 else 0
def IG (t d:Y):Y:=if (inB t 0 1000000&&inB d (-200) 200)=U then 0 else 1
def aGJ {l:aB}{f:Y->aL}:l.all f=CO (M l) (λj=>f<|gi l j):=by
 rw [GG,B7,Cm];refine ⟨λh j hj=>h _<|Ih A0 hj,λh x hx=>?_⟩
 obtain ⟨k,hk,rfl⟩:=GB.1 hx
 have:=h k A0
 rwa [G0 A8] at this
def aBs:aD->T LV
 | [.v (.agg ⟨[.string nm,ag J at_,ag J ph,ag J mn,ag J mx,ag J st,ag J fb,ag J ow]⟩),.v (.agg ⟨[ag J sp,ag J sa,ag J sl,.bool sw]⟩)]=> .ok (sV (nm,at_,ph,mn,mx,st,fb,ow) (sp,sa,sl,sw))
 |_=> .no
def az7:aM:=[RG,Wh,aa2]
def aCT:=vo (S:=aBs) func107 az7 kN (λargs lv h=>by
 unfold aBs at h;split at h
 ·rename_i nm at_ ph mn mx st fb ow sp sa sl sw
  refine Af (.br (!(G8 ph mn mx st fb)) (.ok X)<|.br ((sp==0)&&((sa==0)&&((sl==0)&&(sw==X)))) (.ok U)<|.ok<|.v<|.bool<|(inB sp (0:Y) (5:Y))&&((inB sl (0:Y) (1000000:Y))&&((inB sa (0:Y) mx)&&(if sl !=0 then (!sw) ||(sp==5) else (sa==0)&&((!sw) ||(sp==5)))))) ?_
  obtain rfl:=h;refine ⟨λh1=>?_,λh1=>⟨λh2=>?_,λh2=>?_⟩⟩
  all_goals refine Am (λz=>LV.v<|.bool z) ?_
  ·simp at h1;simp [sV,h1]
  ·simp at h1 h2
   obtain ⟨rfl,rfl,rfl,rfl⟩:=h2
   have:=aBb.1 h1
   rw [OM,aD8]
   simp [h1];omega
  ·simp at h1
   unfold sV;simp only;rw [h1]
   by_cases hl:sl=0
   ·simp [hl]
   ·have:(sl !=0)=true:=dh
    simp [this]
 ·cases h)
def aG9:aD->T LV
 | [.v (.agg ⟨[.string nm,ag J at_,ag J ph,ag J mn,ag J mx,ag J st,ag J fb,ag J ow]⟩),.v (.agg ⟨[ag J ek,ag J en,ag J em]⟩)]=> .req (ek≠0) (.ok<|evV mx ek en em)
 |_=> .no
def az5:aM:=[Wh]
def awC:=vo (S:=aG9) func121 az5 kN (λargs lv h=>by
 unfold aG9 at h;split at h
 ·rename_i nm at_ ph mn mx st fb ow ek en em
  refine Af (.br (ek==4) (.ok<|inB en (0:Y) (1:Y))<|.br (ek==6) (.ok<|inB en (0:Y) (2:Y))<|.br (ek==7) (.br (!(inB em (1:Y) (1000000:Y))) (.ok X)<|.ok<|inB en (0:Y) mx)<|.br (ek==0) (.ok<|inB en (0:Y) mx)<|.ok U) ?_;obtain ⟨h0,rfl⟩:=h;refine ⟨λh1=>?_,λh1=>⟨λh2=>?_,λh2=>⟨λh3=>⟨λh4=>?_,λh4=>?_⟩,λh3=>⟨λh4=>?_,λh4=>?_⟩⟩⟩⟩
  all_goals refine Am (λz=>LV.v<|.bool z) ?_
  all_goals simp_all [evV]
 ·cases h)
def aCJ:aD->T LV
 | [.v (.agg ⟨[ag J sp,ag J sa,ag J sl,.bool sw]⟩),.v (.agg ⟨[ag J ek,ag J en,ag J em]⟩)]=> .ok (.v<|.agg #[O5 sp sw ek en,sa,sl,O4 sw ek en])
 |_=> .no
def az4:aM:=[]
def an9:=vo (S:=aCJ) func122 az4 kN (λargs lv h=>by
 unfold aCJ at h;split at h
 ·rename_i sp sa sl sw ek en em
  refine Af (.br (ek==4) (.br (en==1) (.ok<|.v<|.agg #[(3:Y),sa,sl,sw])<|.ok<|.v<|.agg #[(5:Y),sa,sl,sw])<|.br (ek==6) (.br (en==0) (.ok<|.v<|.agg #[(1:Y),sa,sl,.bool<|en==1])<|.ok<|.v<|.agg #[(5:Y),sa,sl,.bool<|en==1])<|.br (ek==2) (.br (!sw) (.ok<|.v<|.agg #[(0:Y),sa,sl,sw])<|.ok<|.v<|.agg #[sp,sa,sl,sw])<|.br (ek==9) (.br (!sw) (.ok<|.v<|.agg #[(1:Y),sa,sl,sw])<|.ok<|.v<|.agg #[sp,sa,sl,sw])<|.ok<|.v<|.agg #[sp,sa,sl,sw]) ?_;obtain rfl:=h
  have fin:∀(p:Y) (q:aL),p=O5 sp sw ek en->q=O4 sw ek en->LV.v (.agg #[ag J p,ag J sa,ag J sl,.bool q])=LV.v (.agg #[ag J<|O5 sp sw ek en,ag J sa,ag J sl,.bool<|O4 sw ek en]):=λp q h1 h2=>A8
  refine ⟨λh1=>⟨λh2=>?_,λh2=>?_⟩,λh1=>⟨λh2=>⟨λh3=>?_,λh3=>?_⟩,λh2=>⟨λh3=>⟨λh4=>?_,λh4=>?_⟩,λh3=>⟨λh4=>⟨λh5=>?_,λh5=>?_⟩,λh4=>?_⟩⟩⟩⟩
  all_goals refine fin _ _ ?_ ?_
  all_goals simp_all [O5,O4]
 ·cases h)
def aGt:aD->T LV
 | [.v (.agg ⟨[.string nm,ag J at_,ag J ph,ag J mn,ag J mx,ag J st,ag J fb,ag J ow]⟩),.v (.agg ⟨[ag J sp,ag J sa,ag J sl,.bool sw]⟩),.v (.agg ⟨[ag J ek,ag J en,ag J em]⟩)]=> .tu #[.agg #[(sN (nm,at_,ph,mn,mx,st,fb,ow) (sp,sa,sl,sw) ek en em).1,(sN (nm,at_,ph,mn,mx,st,fb,ow) (sp,sa,sl,sw) ek en em).2.1,(sN (nm,at_,ph,mn,mx,st,fb,ow) (sp,sa,sl,sw) ek en em).2.2.1,(sN (nm,at_,ph,mn,mx,st,fb,ow) (sp,sa,sl,sw) ek en em).2.2.2],sE (nm,at_,ph,mn,mx,st,fb,ow) (sp,sa,sl,sw) ek en em]
 |_=> .no
def pH:aM:=[aCT,Wh,awC,an9]
def axK:Aj:=kI pH<|l0 pH
def P6:=vo (S:=aGt) func83 pH axK (λargs lv h=>by
 unfold aGt at h;split at h
 ·rename_i nm at_ ph mn mx st fb ow sp sa sl sw ek en em
  refine Af (letI a:=Rl<|ek.toNat*6+(sp.toNat*1+0);letI c:=AA<|sl-1;letI d:=O5 sp sw ek en;letI f:=O4 sw ek en;.br (!(sV (nm,at_,ph,mn,mx,st,fb,ow) (sp,sa,sl,sw))) (.tu #[.agg #[(0:Y),(0:Y),(0:Y),X],(1:Y)])<|.br (!(inB ek (1:Y) (9:Y))) (.tu #[.agg #[(0:Y),(0:Y),(0:Y),X],(9:Y)])<|.req (ek≠0)<|.br (!(evV mx ek en em)) (.tu #[.agg #[(0:Y),(0:Y),(0:Y),X],(1:Y)])<|.req (0<=ek/\ek<(10:Y))<|.req (0<=sp/\sp<(6:Y))<|.br (a==(-1)) (.tu #[.agg #[(0:Y),(0:Y),(0:Y),X],(6:Y)])<|.br (a==(-2)) (.br (ek==7) (.tu #[.agg #[sp,en,em,sw],(0:Y)])<|.br (ek==8) (.br ((if (0:Y)<c then AA (sl-1) else 0)==0) (.tu #[.agg #[sp,(0:Y),ag J (if (0:Y)<c then AA (sl-1) else 0),sw],(0:Y)])<|.tu #[.agg #[sp,sa,ag J (if (0:Y)<c then AA (sl-1) else 0),sw],(0:Y)])<|.br (ek==9) (.tu #[.agg #[sp,(0:Y),(0:Y),sw],(0:Y)])<|.tu #[.agg #[sp,sa,sl,sw],(0:Y)])<|.br (a==(-3)) (.br (ek==7) (.tu #[.agg #[d,en,em,f],(0:Y)])<|.br (ek==8) (.br ((if (0:Y)<c then AA (sl-1) else 0)==0) (.tu #[.agg #[d,(0:Y),ag J (if (0:Y)<c then AA (sl-1) else 0),f],(0:Y)])<|.tu #[.agg #[d,sa,ag J (if (0:Y)<c then AA (sl-1) else 0),f],(0:Y)])<|.br (ek==9) (.tu #[.agg #[d,(0:Y),(0:Y),f],(0:Y)])<|.tu #[.agg #[d,sa,sl,f],(0:Y)])<|.br (ek==7) (.tu #[.agg #[a,en,em,sw],(0:Y)])<|.br (ek==8) (.br ((if (0:Y)<c then AA (sl-1) else 0)==0) (.tu #[.agg #[a,(0:Y),ag J (if (0:Y)<c then AA (sl-1) else 0),sw],(0:Y)])<|.tu #[.agg #[a,sa,ag J (if (0:Y)<c then AA (sl-1) else 0),sw],(0:Y)])<|.br (ek==9) (.tu #[.agg #[a,(0:Y),(0:Y),sw],(0:Y)])<|.tu #[.agg #[a,sa,sl,sw],(0:Y)]) ?_
  obtain rfl:=h
  have bad:∀e,e≠0->(sE (nm,at_,ph,mn,mx,st,fb,ow) (sp,sa,sl,sw) ek en em)=e->LV.v (.tuple #[.agg #[ag J 0,ag J 0,ag J 0,.bool X],ag J e])=LV.v (.tuple #[.agg #[ag J (sN (nm,at_,ph,mn,mx,st,fb,ow) (sp,sa,sl,sw) ek en em).1,ag J (sN (nm,at_,ph,mn,mx,st,fb,ow) (sp,sa,sl,sw) ek en em).2.1,ag J (sN (nm,at_,ph,mn,mx,st,fb,ow) (sp,sa,sl,sw) ek en em).2.2.1,.bool (sN (nm,at_,ph,mn,mx,st,fb,ow) (sp,sa,sl,sw) ek en em).2.2.2],ag J<|sE (nm,at_,ph,mn,mx,st,fb,ow) (sp,sa,sl,sw) ek en em]):=λe h0 h1=>by
   unfold sN;rw [h1];simp only [AE h0]
  have good:∀(p q r:Y) (b:aL),(sE (nm,at_,ph,mn,mx,st,fb,ow) (sp,sa,sl,sw) ek en em)=0->p=phF sp sw ek en->q=sA sa sl ek en->r=sL sl ek em->b=sW sw ek en->LV.v (.tuple #[.agg #[ag J p,ag J q,ag J r,.bool b],ag J 0])=LV.v (.tuple #[.agg #[ag J (sN (nm,at_,ph,mn,mx,st,fb,ow) (sp,sa,sl,sw) ek en em).1,ag J (sN (nm,at_,ph,mn,mx,st,fb,ow) (sp,sa,sl,sw) ek en em).2.1,ag J (sN (nm,at_,ph,mn,mx,st,fb,ow) (sp,sa,sl,sw) ek en em).2.2.1,.bool (sN (nm,at_,ph,mn,mx,st,fb,ow) (sp,sa,sl,sw) ek en em).2.2.2],ag J<|sE (nm,at_,ph,mn,mx,st,fb,ow) (sp,sa,sl,sw) ek en em]):=λp q r b h0 h1 h2 h3 h4=>by
   unfold sN;rw [h0,h1,h2,h3,h4];simp only [BP]
  refine ⟨λh1=>bad 1 AT (by simp at h1;simp [sE,h1]),λh1=>⟨λh2=>bad 9 AT (by simp at h1 h2;simp [sE,h1,h2]),λh2=>?_⟩⟩
  simp only [GC] at h1 h2
  have h2':=C1.1 h2
  refine ⟨A0,λh3=>bad 1 AT (by simp at h3;simp [sE,h1,h2,h3]),λh3=>?_⟩
  simp only [GC] at h3;obtain ⟨g1,g2,g3,g4,g5,g6,g7,g8,g9⟩:=aD8.1 h1;simp only at g2 g3 g4 g5 g6 g7 g8 g9
  have hw:AA (sl-1)=sl-1:=AG
  have hn:(sE (nm,at_,ph,mn,mx,st,fb,ow) (sp,sa,sl,sw) ek en em)=if phF sp sw ek en<0 then 6 else 0:=by simp [sE,h1,h2,h3]
  have htk:(if (0:Y)<sl-1 then sl-1 else 0)=tkF sl:=rfl
  rw [hw,htk];refine ⟨A0,A0,?_⟩
  have hz:sw=X\/(sw=U/\sp=5):=by cases sw<;>simp_all
  rw [avC A0 A0 A0 A0]
  clear h1 h2 h3 bad good g1 g4 g5 g6 g7 g9 hw htk
  rcases hz with rfl|⟨rfl,rfl⟩
  ·rcases nine h2'.1 h2'.2 with rfl|rfl|rfl|rfl|rfl|rfl|rfl|rfl|rfl<;>rcases agS g2 g3 with rfl|rfl|rfl|rfl|rfl|rfl
   all_goals simp [T.all,fI,sN,hn,phF,sA,sL,sW,O5,O4]
   all_goals (try omega)
   all_goals (by_cases h4:en=1<;>by_cases h5:en=0<;>simp_all)
  ·rcases nine h2'.1 h2'.2 with rfl|rfl|rfl|rfl|rfl|rfl|rfl|rfl|rfl
   all_goals simp [T.all,fI,sN,hn,phF,sA,sL,sW,O5,O4]
   all_goals (try omega)
 ·cases h)
def aH1:aD->T LV
 | [.v (.agg ⟨[.string nm,ag J at_,ag J ph,ag J mn,ag J mx,ag J st,ag J fb,ag J ow]⟩),.v (.agg ⟨[ag J sp,ag J sa,ag J sl,.bool sw]⟩)]=> .ok (BH (nm,at_,ph,mn,mx,st,fb,ow) (sp,sa,sl,sw))
 |_=> .no
def ayz:aM:=[aCT]
def T5:=vo (S:=aH1) func77 ayz kN (λargs lv h=>by
 unfold aH1 at h;split at h
 ·rename_i nm at_ ph mn mx st fb ow sp sa sl sw
  refine Af (.br (!(sV (nm,at_,ph,mn,mx,st,fb,ow) (sp,sa,sl,sw))) (.ok (0:Y))<|.br sw (.ok mx)<|.br (sp !=4) (.ok (0:Y))<|.br (sl !=0) (.ok sa)<|.ok fb) ?_;obtain rfl:=h;refine ⟨λh1=>?_,λh1=>⟨λh2=>?_,λh2=>⟨λh3=>?_,λh3=>⟨λh4=>?_,λh4=>?_⟩⟩⟩⟩
  all_goals refine Am (λz=>LV.v<|ag J z) ?_
  all_goals simp_all [BH]
 ·cases h)
structure Ju where
 most:Y
 r:aL
 l:aB
 (n i:Y)
def aBf:=bN f113 0
def dt (s:Ju):T (Rd Ju):=
 .br (an<|s.i<s.n) (.ix s.i (M s.l)<|.br ((an<|(gi s.l s.i)<0) ||(an<|(gi s.l s.i)>s.most)) (.so (.ret) {s with r:=X})<|.nx {s with i:=AA<|s.i+1}) (.so (.exit 0) s)
def QA (s:Ju) (j:Y):aL:=inB (gi s.l j) 0 s.most
def eh (s:Ju):Prop:=s.i=0/\0<=s.n/\s.n<=1000/\s.n=(M s.l:Y)
def WG (s:Ju):Prop:=0<=s.i/\s.i<=s.n/\s.n<=1000/\(s.n=(M s.l:Y))/\∀j:aC,(j:Y)<s.i->QA s j=U
def ox (s:Ju):aC:=(s.n-s.i).toNat
def vg (x:Ex) (s s':Ju):Prop:=(x=.exit 0/\∀j:aC,(j:Y)<s'.n->QA s' j=U)\/(x=.ret/\s'.r=X/\∃j:aC,(j:Y)<s'.n/\QA s' j=X)
def az9:∀s,eh s->WG s:=by
 exact HY
def avh:Da WG ox vg dt:=by
 intro s hI;unfold dt;obtain ⟨h0,h1,h2,h3,h4⟩:=hI;refine allR_ite (λc1=>allR_ite (λc2=>?_) λc2=>?_) λc1=>?_
 ·have c1:s.i<s.n:=AQ
  refine .inr ⟨rfl,rfl,s.i.toNat,A8,?_⟩
  have hg:QA s s.i=false:=aKG
  exact hg
 ·have c1:s.i<s.n:=AQ
  have hg:QA s s.i=true:=aKG
  rw [AG (x:=s.i+1)];refine ⟨⟨A8,A8,h2,h3,λj hj=>?_⟩,by simp only [ox];omega⟩
  exact IT
 ·exact Mr
def Nz:LpD Ju:=⟨0,21,[0,4,7,8,9],[],λs=>[s.most,s.r,.xl A7 s.l,s.n,s.i],λ_=>[],λv b=>⟨AJ v 0,BU v 1,Ag A7 v 2,AJ v 3,AJ v 4⟩,dt,λs r=> {s with r:=r.r,i:=r.i},λs=>s,λ_ s=>s,[.ret,.exit 0],eh,WG,ox⟩
abbrev aDC:=Nz.run
abbrev aGS:=Nz.exn
def ax5:Rq WG dt:=by
 exact Mt
def aFa:aM:=[]
def aaP:Nz.Ok:={}
def aaC:Nz.Pf (vg):=⟨az9,λs h=>rfl,avh,ax5⟩
def aoC:SA 0 aBf Nz:=s1 aaP aaC aFa kN
def anL:Fi eh WG vg aGS aDC:=LpD.fin aaP aaC
def aGC:aD->T LV
 | [.v (ag J most),.xl (.int J) ns]=> .req (M ns<=1000) (.ok<|ns.all λp=>inB p 0 most)
 |_=> .no
def aa3:=vm (S:=aGC) func113 aFa kN (L:=(λi=>if i=2 then Nz.lp else noLoops i)) (λb hb=>by
 rw [show loopsIn _=[aBf] by kernel_rfl] at hb
 simp only [Ak,B8,B6] at hb;subst hb;exact aoC) (λargs lv h=>by
 unfold aGC at h;split at h
 ·rename_i most ns
  refine Af (letI a:=(M ns:Y);.req (Nz.q (⟨most,X,ns,a,0⟩:Ju))<|.br (isEx (aGS (⟨most,X,ns,a,0⟩:Ju))<|.ret) (.ok (aDC (⟨most,X,ns,a,0⟩:Ju)).r)<|.ok U) ?_;obtain ⟨h0,rfl⟩:=h
  have hE:eh ⟨most,X,ns,(M ns:Y),0⟩:=⟨rfl,AP,AP,rfl⟩
  obtain ⟨s',hI,hq⟩:=anL _ hE;rw [aGJ];refine ⟨⟨hE,rfl,rfl⟩,?_⟩;rcases hq with ⟨q1,q2⟩ |⟨q1,q2,j,q3,q4⟩<;>rw [q1]
  ·rw [show CO (M ns) (λj=>inB (gi ns j) 0 most)=U from Cm.2 q2]
   exact ⟨λh=>Ab,λ_=>rfl⟩
  ·rw [q2,show CO (M ns) (λj=>inB (gi ns j) 0 most)=X from Lu j q3 q4]
   exact ⟨λ_=>rfl,λh=>Ab⟩
 ·cases h)
def aHG:aD->T LV
 | [.v (.agg ⟨[ag J sr,ag J rg,.bool bk]⟩)]=> .ok (meV (sr,rg,bk))
 |_=> .no
def asz:aM:=[aa3]
def avY:=vo (S:=aHG) func112 asz kN (λargs lv h=>by
 unfold aHG at h;split at h
 ·rename_i sr rg bk
  refine Af (.req (M ([sr])<=1000)<|.br (([sr]).all λp=>inB p 0 (1000000:Y)) (.br (an<|rg>=(-1000000000000000)) (.ok<|an<|rg<=1000000000000000)<|.ok X)<|.ok X) ?_
  obtain rfl:=h;refine ⟨AH,λc1=>⟨λc2=>?_,λc2=>?_⟩,λc1=>?_⟩
  all_goals refine Am (λz=>LV.v<|.bool z) ?_
  all_goals simp only [GD,List.all_nil,cj] at c1
  all_goals first|(simp_all [meV];done) |(simp_all [meV];omega)
 ·cases h)
def aHH:aD->T LV
 | [.v (.agg ⟨[ag J sr,ag J rg,.bool bk]⟩),.v (ag J a),.v (ag J p)]=> .tu #[.agg #[(G7 (sr,rg,bk) a p).1,(G7 (sr,rg,bk) a p).2.1,(G7 (sr,rg,bk) a p).2.2],Ei (sr,rg,bk) a p]
 |_=> .no
def lZ:aM:=[avY,aa3]
def arz:Aj:=kI lZ<|l0 lZ
def T2:=vo (S:=aHH) func79 lZ arz (λargs lv h=>by
 unfold aHH at h;split at h
 ·rename_i sr rg bk a p
  refine Af (letI b:=AA<|2300*a;.br (!(meV (sr,rg,bk))) (.tu #[.agg #[(0:Y),(0:Y),X],(1:Y)])<|.req (M ([a])<=1000)<|.br (!(([a]).all λp=>inB p 0 (80:Y))) (.tu #[.agg #[(0:Y),(0:Y),X],(1:Y)])<|.req (M ([p])<=1000)<|.br (!(([p]).all λp=>inB p 0 (3:Y))) (.tu #[.agg #[(0:Y),(0:Y),X],(1:Y)])<|.br bk (.br (!(meV (sr,(AA<|rg-(AA<|b*p)),bk))) (.tu #[.agg #[(0:Y),(0:Y),X],(3:Y)])<|.tu #[.agg #[sr,(AA<|rg-(AA<|b*p)),bk],(0:Y)])<|.br (!(meV (sr,(AA<|rg+(AA<|b*p)),bk))) (.tu #[.agg #[(0:Y),(0:Y),X],(3:Y)])<|.tu #[.agg #[sr,(AA<|rg+(AA<|b*p)),bk],(0:Y)]) ?_
  obtain rfl:=h
  have fin:∀(x1 x2:Y) (x3:aL) (e:Y),(x1,x2,x3)=G7 (sr,rg,bk) a p->e=Ei (sr,rg,bk) a p->LV.v (.tuple #[.agg #[ag J x1,ag J x2,.bool x3],ag J e])=LV.v (.tuple #[.agg #[ag J (G7 (sr,rg,bk) a p).1,ag J (G7 (sr,rg,bk) a p).2.1,.bool (G7 (sr,rg,bk) a p).2.2],ag J<|Ei (sr,rg,bk) a p]):=by
   intro x1 x2 x3 e h1 h2;rw [h2,<-h1]
  have hw:meV (sr,rg,bk)=U->inB a 0 80=U->inB p 0 3=U->AA (rg-AA (AA (2300*a)*p))=rg-2300*a*p/\AA (rg+AA (AA (2300*a)*p))=rg+2300*a*p:=by
   intro h1 h2 h3
   simp [meV,inB] at h1 h2 h3
   have hm:0<=2300*a*p/\2300*a*p<=552000:=⟨GH A0 A0,OH (Int.mul_le_mul (by omega:2300*a<=184000) (by omega:p<=3) A0 A0) A0⟩
   rw [AG (x:=2300*a),AG (x:=2300*a*p)];exact ⟨AG,AG⟩
  simp only [GD,List.all_nil,cj];refine ⟨λc1=>?_,λc1=>⟨AH,λc2=>?_,λc2=>⟨AH,λc3=>?_,λc3=>?_⟩⟩⟩
  ·refine fin _ _ _ _ ?_ ?_<;>simp at c1<;>simp [G7,Ei,mcB,c1]
  ·refine fin _ _ _ _ ?_ ?_<;>simp at c1 c2<;>simp [G7,Ei,mcB,c1,c2]
  ·refine fin _ _ _ _ ?_ ?_<;>simp at c1 c2 c3<;>simp [G7,Ei,mcB,c1,c2,c3]
  ·simp at c1 c2 c3
   obtain ⟨w1,w2⟩:=hw c1 c2 c3;rw [w1,w2];refine ⟨λc4=>⟨λc5=>?_,λc5=>?_⟩,λc4=>⟨λc5=>?_,λc5=>?_⟩⟩<;>subst c4<;>simp at c5<;>refine fin _ _ _ _ ?_ ?_<;>simp [G7,Ei,mcB,mcR,c1,c2,c3,c5]
 ·cases h)
abbrev Au:Ty:=.pair A7 AL
abbrev Lk:=Int×Le
def aLZ:q_ (List Lk):=⟨⟩
def Dr (l:aLZ) (n:Y):Lk:=l.getD n.toNat (0,0,0,0,0,0)
structure PK where
 cs:aK
 os:aF
 ks:aP
 gs:aG
 bs:aQ
 tk:Y
 up:aL
 ls:aN
 se:Y
 fl:aB
 ra:bp
 nx:Y
 st:bf
 ca:aMc
 mi:aL4
 me:aL6
 dm:aZ
 lk:aLZ
 (dr tg:aB)
instance:Coe PK LV:=⟨λp=> .agg [.xl AR p.cs,.xl .str p.os,.xl AY p.ks,.xl AX p.gs,.xl AZ p.bs,.v<|ag J p.tk,.v<|.bool p.up,.xl AL p.ls,.v<|ag J p.se,.xl (.int aw) p.fl,.xl Ae p.ra,.v<|ag J p.nx,.xl Al p.st,.xl AL p.ca,.xl Ap p.mi,.xl Az p.me,.xl Aq p.dm,.xl Au p.lk,.xl A7 p.dr,.xl A7 p.tg]⟩
def rQ (b:aE) (q:aC):PK:=letI a:=gBk b q;⟨gXl AR<|gCe a 0,gXl .str<|gCe a 1,gXl AY<|gCe a 2,gXl AX<|gCe a 3,gXl AZ<|gCe a 4,gI<|gCe a 5,gBo<|gCe a 6,gXl AL<|gCe a 7,gI<|gCe a 8,gXl (.int aw)<|gCe a 9,gXl Ae<|gCe a 10,gI<|gCe a 11,gXl Al<|gCe a 12,gXl AL<|gCe a 13,gXl Ap<|gCe a 14,gXl Az<|gCe a 15,gXl Aq<|gCe a 16,gXl Au<|gCe a 17,gXl A7<|gCe a 18,gXl A7<|gCe a 19⟩
def rV (b:aE) (q j k:aC) (e:Ty):List e.D:=bif Nat.beq k 0 then gXl e (gCe (gBk b q) j) else gVe e (gBk b k)
def rB (b:aE) (q acs als afl ara ast aca ami ame adm alk adr atg:aC):PK:=letI a:=gBk b q;⟨rV b q 0 acs AR,gXl .str<|gCe a 1,gXl AY<|gCe a 2,gXl AX<|gCe a 3,gXl AZ<|gCe a 4,gI<|gCe a 5,gBo<|gCe a 6,rV b q 7 als AL,gI<|gCe a 8,rV b q 9 afl<|.int aw,rV b q 10 ara Ae,gI<|gCe a 11,rV b q 12 ast Al,rV b q 13 aca AL,rV b q 14 ami Ap,rV b q 15 ame Az,rV b q 16 adm Aq,rV b q 17 alk Au,rV b q 18 adr A7,rV b q 19 atg A7⟩
def rF (b:aE):PK:=rB b 16 4 5 6 7 8 9 10 11 12 13 14 15
def rT (b:aE):PK:=rB b 16 4 0 0 0 8 9 10 11 0 0 14 15
abbrev _root_.Go.Sx.T.pc {α:Type}(p:PK) (t:T α):T α:=.rl p.cs<|.rl p.ls<|.rl p.fl<|.rl p.ra<|.rl p.st<|.rl p.ca<|.rl p.mi<|.rl p.me<|.rl p.dm<|.rl p.lk<|.rl p.dr<|.rl p.tg t
abbrev _root_.Go.Sx.T.pd {α:Type}(p:PK) (t:T α):T α:=.rl p.cs<|.rl p.st<|.rl p.ca<|.rl p.mi<|.rl p.me<|.rl p.dr<|.rl p.tg t
abbrev _root_.Go.Sx.T.pb {α:Type}(p:PK) (t:T α):T α:=.rl p.st<|.rl p.ca<|.rl p.mi<|.rl p.me<|.rl p.dm<|.rl p.lk<|.rl p.dr<|.rl p.tg t
abbrev _root_.Go.Sx.T.pa {α:Type}(p:PK) (t:T α):T α:=.rl p.cs<|.rl p.ls<|.rl p.fl<|.rl p.ra t
instance:Coe (List Lk) LV:=⟨.xl Au⟩
namespace PK
variable (p : PK)
def sV:aL:=B0 p.cs p.os p.ks p.gs p.bs
end PK
def G3 (c:Cd) (t:Y):Cd:=(c.1,c.2.1,t,c.2.2.2)
def El (cs:aK) (tg:aB):aC->List Cd
 |0=>cs
 |k+1=>(El cs tg k).set k<|G3 (Aa (El cs tg k) k)<|gi tg k
def C6 (gs:aG) (st:bf) (i k n m:Y):bf:=if sE (AF gs i) (BI st i) k n m=0 then st.set i.toNat (sN (AF gs i) (BI st i) k n m) else st
def Mb (gs:aG) (lk:aLZ) (t:Y) (st:bf):aC->List St
 |0=>st
 |k+1=>if (Dr lk k).1>t then Mb gs lk t st k else C6 gs (Mb gs lk t st k) (Dr lk k).2.2.1 7 (Dr lk k).2.2.2.1 (Dr lk k).2.2.2.2.2
def No (gs:aG) (st:bf) (i:Y):aC->List St
 |0=>st
 |k+1=>C6 gs (No gs st i k) i 8 0 0
def Nu (gs:aG) (dr:aB) (t:Y) (st:bf):aC->List St
 |0=>st
 |k+1=>if IG t (gi dr k)=0/\IG (t+1) (gi dr k)=0 then No gs (Nu gs dr t st k) k (F4 (t+1) (gi dr k)-F4 t (gi dr k)).toNat else Nu gs dr t st k
structure DW where
 st:bf
 mi:aL4
 me:aL6
 dw:aB
def I3 (gs:aG) (ca:aMc) (s:DW) (i:Y):DW:=
 if (BA ca i).2.2.1=0 then s
 else if Gs (BA ca i) (Bz s.mi i) (AF gs i).2.2.1 (BH (AF gs i)<|BI s.st i)=0 then
  let a:=Di (BA ca i) (Bz s.mi i) (AF gs i).2.2.1<|BH (AF gs i)<|BI s.st i
  let o:=cnt<|DL (BA ca i) (Bz s.mi i) (AF gs i).2.2.1<|BH (AF gs i)<|BI s.st i
  ⟨if a>BH (AF gs i) (BI s.st i) then C6 gs s.st i 6 2 0 else s.st,s.mi.set i.toNat<|I9 (BA ca i) (Bz s.mi i) (AF gs i).2.2.1<|BH (AF gs i)<|BI s.st i,
   if Ei (FD s.me i) a o=0 then s.me.set i.toNat (G7 (FD s.me i) a o) else s.me,s.dw.set i.toNat a⟩
 else s
def Gr (gs:aG) (ca:aMc) (s:DW):aC->DW
 |0=>s
 |k+1=>I3 gs ca (Gr gs ca s k) k
def iT {cs:aK}{k:aC}{x:Cd}{j:aC}(hk:k<M cs):Aa (cs.set k x) (j:Y)=if j=k then x else Aa cs j:=by
 unfold Aa
 by_cases e:j=k
 ·grind
 ·grind
def Oz {cs:aK}{k:aC}(hk:k<M cs):Aa cs (k:Y)=cs[k]:=by
 unfold Aa
 simp [hk]
def fU {cs:aK}{os:aF}{ks:aP}{gs:aG}{bs:aQ}(h:B0 cs os ks gs bs=U) {k:aC}(hk:k<M cs) {t:Y}(ht:1<=t/\t<=1000):
  B0 (cs.set k<|G3 (Aa cs k) t) os ks gs bs=true:=by
 have hm:(cs.set k<|G3 (Aa cs k) t).map (·.1)=cs.map (·.1):=by
  rw [List.map_set]
  have:(G3 (Aa cs k) t).1=(cs.map (·.1))[k]' A8:=by
   rw [Oz hk];simp [G3]
  rw [this,List.set_getElem_self]
 unfold B0 Ie Iz at h|-;rw [hm,BR];simp only [AS] at h|-;obtain ⟨h1,h2,h3,h4,h5⟩:=h;refine ⟨h1,h2,h3,?_,h5⟩;rw [Cm] at h4|-;intro j hj
 have hc:=h4 j hj
 rw [iT hk];split
 ·rename_i e
  subst e;unfold Fe G3 at*;simp only [AS] at hc|-;exact ⟨hc.1,C1.2 ht,hc.2.2⟩
 ·exact hc
def aH8:aD->T LV
 | [.v (ag J n),.v (ag J a),.v (ag J b)]=> .ok (inB n a b)
 |_=> .no
def asy:aM:=[]
def S7:=vo (S:=aH8) func38 asy kN (λargs lv h=>by
 unfold aH8 at h;split at h
 ·rename_i n a b
  refine Af (.ok<|.v<|.bool<|(an<|n>=a)&&(an<|n<=b)) ?_;exact h
 ·cases h)
def aHP:aD->T LV
 | [.v (ag J n)]=> .ok (inB n (-200) 200)
 |_=> .no
def atp:aM:=[S7]
def YK:=vo (S:=aHP) func34 atp kN (λargs lv h=>by
 unfold aHP at h;split at h
 ·rename_i n
  refine Af (.ok<|inB n (-200:Y) (200:Y)) ?_;exact h
 ·cases h)
def As (l:aB):Prop:=∀x∈l,0<=x/\x<=255
def eU (x b:Y):Y:=IntKind.u32.wrap<|acv ax x (IntKind.u32.wrap b)*16777619
def Nv (x:Y) (l:aB):Y:=l.foldl eU x
def M5 (ps:aI):Y:=ps.foldl Nv 2166136261
def CD (n:Y):aB:=[IntKind.u8.wrap<|n.fdiv<|2^24,IntKind.u8.wrap<|n.fdiv<|2^16,IntKind.u8.wrap<|n.fdiv<|2^8,IntKind.u8.wrap n]
def nm4 (a b c d:Y):Y:=CU ax (CU ax (CU ax (IntKind.u32.wrap<|IntKind.u32.wrap a*2^24)<|IntKind.u32.wrap<|IntKind.u32.wrap b*2^16)<|IntKind.u32.wrap<|IntKind.u32.wrap c*2^8)<|IntKind.u32.wrap d
def Eh (l:aB):Y:=nm4 (gi l 0) (gi l 1) (gi l 2)<|gi l 3
def HS (d:aB):aB:=[IntKind.u8.wrap<|(M d:Y).fdiv<|2^8,IntKind.u8.wrap (M d:Y)]
def BO (d:aB):aB:=80::(HS d++(CD (M5 [HS d,d])++d))
def EY {n:Y}:IntKind.u8.wrap n=n%256:=aKD
def Oh {n:Y}:IntKind.u32.wrap n=n%4294967296:=aKD
def alh (x b:Y):0<=eU x b/\eU x b<4294967296:=by unfold eU;rw [Oh];omega
def alj {x:Y}(h:0<=x/\x<4294967296) (l:aB):0<=Nv x l/\Nv x l<4294967296:=by
 induction l generalizing x with
 |nil=>exact h
 |cons b l ih=>exact ih<|alh x b
def ali (ps:aI):0<=M5 ps/\M5 ps<4294967296:=by
 have:∀(ps:aI) (x:Y),0<=x/\x<4294967296->0<=ps.foldl Nv x/\ps.foldl Nv x<4294967296:=by
  intro ps
  induction ps with
  |nil=>intro x h;exact h
  |cons p ps ih=>intro x h;exact ih _<|alj h p
 exact this ps _ AT
def Xa {a b k:aC}(h:b<2^k):a*2^k |||b=a*2^k+b:=by
 rw [Nat.mul_comm,<-Nat.two_pow_add_eq_or_of_lt h]
def iP {a b:aC}(ha:a<4294967296) (hb:b<4294967296):CU ax (a:Y) (b:Y)=((a |||b:aC):Y):=by
 have h:=Nat.or_lt_two_pow (n:=32) ha hb
 unfold CU;rw [Oh]
 have e:∀n:aC,n<4294967296->(BitVec.ofInt (IntKind.bits ax) (n:Y)).toNat=n:=λn hn=>by
  show (BitVec.ofInt 32 (n:Y)).toNat=n
  grind
 rw [BitVec.toNat_or,e a ha,e b hb];omega
def ard {a b c d:Y}(ha:0<=a/\a<=255) (hb:0<=b/\b<=255) (hc:0<=c/\c<=255) (hd:0<=d/\d<=255):nm4 a b c d=a*16777216+b*65536+c*256+d:=by
 obtain ⟨a,rfl⟩:=Mo ha.1;obtain ⟨b,rfl⟩:=Mo hb.1;obtain ⟨c,rfl⟩:=Mo hc.1;obtain ⟨d,rfl⟩:=Mo hd.1;unfold nm4
 have e1:IntKind.u32.wrap (IntKind.u32.wrap (a:Y)*2^24)=((a*2^24:aC):Y):=s7
 have e2:IntKind.u32.wrap (IntKind.u32.wrap (b:Y)*2^16)=((b*2^16:aC):Y):=s7
 have e3:IntKind.u32.wrap (IntKind.u32.wrap (c:Y)*2^8)=((c*2^8:aC):Y):=s7
 have e4:IntKind.u32.wrap (d:Y)=((d:aC):Y):=by rw [Oh];omega
 rw [e1,e2,e3,e4,iP A0 A0,Xa A0,
  iP A0 A0,show a*2^24+b*2^16=(a*2^8+b)*2^16 by omega,Xa A0,
  iP A0 A0,show (a*2^8+b)*2^16+c*2^8=(a*2^16+b*2^8+c)*2^8 by omega,Xa A0]
 omega
def Wc (n:Y):As (CD n):=by
 intro x hx;simp only [CD,Ak,B8,B6] at hx;rcases hx with rfl|rfl|rfl|rfl<;>rw [EY]<;>omega
def aAj {n:Y}(h:0<=n/\n<4294967296):Eh (CD n)=n:=by
 have e:Eh (CD n)=nm4 (IntKind.u8.wrap<|n.fdiv<|2^24) (IntKind.u8.wrap<|n.fdiv<|2^16) (IntKind.u8.wrap<|n.fdiv<|2^8) (IntKind.u8.wrap n):=rfl
 rw [e,ard W7 W7 W7 W7,EY,EY,EY,EY,
  Mm _ AT,Mm _ AT,Mm _ AT]
 omega
def EC (b:aB) (f:aC):aC:=(gi b<|(f:Y)+1).toNat*256+(gi b<|(f:Y)+2).toNat
def rcF (b:aB) (f:aC):aL:=an (f+7<=M b)&&an (f+7+EC b f<=M b)
def Et (b:aB) (f:aC):aB:=(b.drop<|f+7).take<|EC b f
def J0 (b:aB) (f:aC):aL:=rcF b f&&(M5 [(b.drop<|f+1).take 2,Et b f]==Eh ((b.drop<|f+3).take 4))
def F5 (b:aB):aC->aC->List (List Int)×Nat×Bool
 |0,f=>([],f,U)
 |n+1,f=>if f<M b/\gi b (f:Y)=80 then (if J0 b f then (Et b f::(F5 b n<|f+7+EC b f).1,(F5 b n<|f+7+EC b f).2) else ([],f,X)) else ([],f,U)
def X0 {pre l:aB}{k:aC}:gi (pre++l) ((M pre+k:aC):Y)=l.getD k 0:=by
 unfold gi
 grind
def wY {pre l:aB}{k:aC}:(pre++l).drop (M pre+k)=l.drop k:=by
 simp_all
def KH (d:aB):M (BO d)=7+M d:=by simp [BO,HS,CD];omega
def aiF {pre rest d:aB}(hd:M d<=65535):let b:=pre++(BO d++rest);gi b (M pre:Y)=80/\M pre<M b/\EC b (M pre)=M d/\Et b (M pre)=d/\J0 b (M pre)=true:=by
 intro b
 have hl:M b=M pre+(7+M d+M rest):=by simp [b,KH]
 have g0:gi b (M pre:Y)=80:=X0 (k:=0)
 have hn:EC b (M pre)=M d:=by
  have e1:gi b ((M pre:Y)+1)=IntKind.u8.wrap ((M d:Y).fdiv<|2^8):=X0 (k:=1)
  have e2:gi b ((M pre:Y)+2)=IntKind.u8.wrap (M d:Y):=X0 (k:=2)
  unfold EC;rw [e1,e2,EY,EY,Mm _ AT];omega
 have d7:b.drop (M pre+7)=d++rest:=by
  rw [wY]
  simp [BO,HS,CD]
 have hD:Et b (M pre)=d:=by
  unfold Et
  grind
 have d1:(b.drop<|M pre+1).take 2=HS d:=by
  rw [wY]
  simp [BO,HS]
 have d3:(b.drop<|M pre+3).take 4=CD (M5 [HS d,d]):=by
  rw [wY]
  simp [BO,HS,CD]
 refine ⟨g0,A0,hn,hD,?_⟩;unfold J0 rcF;rw [hn,hD,d1,d3,aAj<|ali _]
 simp;omega
def BS (ds:aI):aB:=ds.flatMap BO
def xf {rest:aB}(hr:gi rest 0≠80):∀(ds:aI) (pre:aB) (n:aC),(∀d∈ds,M d<=65535)->M ds<n->
  F5 (pre++(BS ds++rest)) n (M pre)=(ds,M pre+M (BS ds),U)
 | [],pre,n,_,hn=>by
  obtain ⟨n,rfl⟩:∃m,n=m+1:=⟨n-1,A0⟩;simp only [BS,List.flatMap_nil,FK,F5];rw [AE]
  ·simp
  ·rintro ⟨_,h⟩
   rw [show ((M pre:aC):Y)=((M pre+0:aC):Y) by simp,X0] at h
   exact hr h
 |d::ds,pre,n,hd,hn=>by
  obtain ⟨n,rfl⟩:∃m,n=m+1:=⟨n-1,A0⟩
  have e:pre++(BS (d::ds)++rest)=pre++(BO d++(BS ds++rest)):=by simp [BS]
  rw [e];obtain ⟨h1,h2,h3,h4,h5⟩:=aiF (pre:=pre) (rest:=BS ds++rest)<|hd d AH;simp only [F5];rw [AD ⟨h2,h1⟩,AD h5,h3,h4]
  have e2:pre++(BO d++(BS ds++rest))=(pre++BO d)++(BS ds++rest):=AH
  have e3:M pre+7+M d=M (pre++BO d):=by simp [KH];omega
  rw [e2,e3,xf hr ds (pre++BO d) n (λx hx=>hd x A8) A8]
  simp [BS,KH];omega
abbrev BE:Ty:=.pair A7<|.sl<|.int aw
abbrev Fl:=Int×List Int
def ba:q_ (List Fl):=⟨⟩
def HP (l:ba) (n:Y):Fl:=l.getD n.toNat (0,[])
def FE (se:Y) (l:aB):aL:=letI a:=(M l:Y);decide (se>=1)&&(an (se<=512)&&(an (a>=se)&&(an (a<=4096)&&(a.tmod se==0))))
def KS {se:Y}{l:aB}:FE se l=U↔1<=se/\se<=512/\se<=(M l:Y)/\M l<=4096/\(M l:Y).tmod se=0:=by
 simp [FE];omega
def Dj (se:Y) (l:aB):aL:=FE se l&&(((M l:Y).tdiv se).tmod 2==0&&an ((M l:Y)>=32))
def JQ {se:Y}{l:aB}:Dj se l=U↔FE se l=U/\((M l:Y).tdiv se).tmod 2=0/\32<=M l/\M l<=4096/\1<=se:=by
 unfold Dj;simp only [AS,Cb,AU];refine ⟨λ⟨h1,h2,h3⟩=>⟨h1,h2,A0,(KS.1 h1).2.2.2.1,(KS.1 h1).1⟩,λ⟨h1,h2,h3,_,_⟩=>⟨h1,h2,A0⟩⟩
def B5 (l:aB) (w:Y):aB:=if w=0 then l.take (M l / 2) else (l.drop<|M l / 2).take (M l / 2)
def WZ (l:aB) (w:Y):M (B5 l w)=M l / 2:=by
 unfold B5
 grind
def Gc (l:aB) (w:Y):Y:=Eh<|((B5 l w).drop 1).take 4
def Ah (l:aB):Y:=if gi (B5 l 0) 0=80 then (if gi (B5 l 1) 0=80 then (if Gc l 1>Gc l 0 then 1 else 0) else 0) else if gi (B5 l 1) 0=80 then 1 else 0
def FZ (l:aB):Y:=if gi (B5 l 0) 0=80\/gi (B5 l 1) 0=80 then 0 else 4
def D8 (fl:aB) (a:Y) (d:aB):aC->List Int
 |0=>fl
 |k+1=>(D8 fl a d k).set (a+k).toNat<|BM aw (gi (D8 fl a d k)<|a+k)<|gi d k
def DK (se:Y) (fl:aB) (a:Y) (d:aB):ba:=(au<|M d+1).map λk=>(se,D8 fl a d k)
def Dl (se:Y) (fl:aB) (a:Y) (d:aB):Y:=if (!FE se fl ||an (a<0))=U then 1 else if a>(M fl:Y)-M d then 3 else 0
def Ej (fl:aB) (a:Y):aC->List Int
 |0=>fl
 |k+1=>(Ej fl a k).set (a+k).toNat 255
def J4 (se:Y) (fl:aB) (s:Y):ba:=(au<|se.toNat+1).map λk=>(se,Ej fl (s*se) k)
def Fg (se:Y) (fl:aB) (s:Y):Y:=if (!FE se fl ||(an (s<0) ||an (s>=(M fl:Y).tdiv se)))=U then 1 else 0
def Og (fl:aB) (a:Y) (d:aB) (k:aC):M (D8 fl a d k)=M fl:=by
 induction k with
 |zero=>rfl
 |succ k ih=>simp [D8,ih]
def Wb (fl:aB) (a:Y) (k:aC):M (Ej fl a k)=M fl:=by
 induction k with
 |zero=>rfl
 |succ k ih=>simp [Ej,ih]
def Ic {a b:aB}:As (a++b)↔As a/\As b:=by
 unfold As
 grind
def N9 {x:Y}{l:aB}:As (x::l)↔(0<=x/\x<=255)/\As l:=by
 unfold As
 simp
def Wr (k:aC):As (aq k 255):=by
 intro x hx;rw [QP] at hx;omega
def aBd {l:aB}(h:As l) (i:aC) {x:Y}(hx:0<=x/\x<=255):As (l.set i x):=by
 intro y hy;rcases O8 hy with h1|h1
 ·exact h y h1
 ·grind
def amS (x y:Y):0<=BM aw x y/\BM aw x y<=255:=by
 unfold BM;rw [EY];omega
def jd {fl:aB}(h:As fl) (a:Y) (d:aB) (k:aC):As (D8 fl a d k):=by
 induction k with
 |zero=>exact h
 |succ k ih=>exact aBd ih _<|amS _ _
def aGY {fl:aB}(h:As fl) (a:Y) (k:aC):As (Ej fl a k):=by
 induction k with
 |zero=>exact h
 |succ k ih=>exact aBd ih _ AT
def agC {x:Y}(h:0<=x/\x<=255):BM aw 255 x=x:=by
 unfold BM;rw [EY];obtain ⟨n,rfl⟩:=Mo h.1
 have e:(BitVec.ofInt (IntKind.bits aw) 255&&&BitVec.ofInt (IntKind.bits aw) (n:Y)).toNat=n:=by
  show (BitVec.ofInt 8 255&&&BitVec.ofInt 8 (n:Y)).toNat=n
  rw [show BitVec.ofInt 8 255=BitVec.allOnes 8 from rfl,BitVec.allOnes_and,BitVec.toNat_ofInt];omega
 omega
def aCq {pre post d:aB}(hd:As d):∀k,k<=M d->D8 (pre++(aq (M d) 255++post)) (M pre:Y) d k=pre++(d.take k++(aq (M d-k) 255++post))
 |0,_=>by simp [D8]
 | k+1,hk=>by
  simp only [D8];rw [aCq hd k A0];obtain ⟨j,hj⟩:∃j,M d-k=j+1:=⟨M d-k-1,A0⟩
  have e1:(M pre:Y)+(k:Y)=((M pre+k:aC):Y):=A0
  have ht:M (d.take k)=k:=A8
  have e2:gi (pre++(d.take k++(aq (M d-k) 255++post))) ((M pre:Y)+k)=255:=by
   rw [e1,X0,DC,EK A0,ht,Nat.sub_self,hj,cV];rfl
  have e3:gi d (k:Y)=d[k]:=G0 A0
  rw [e2,e3,agC<|hd _<|EL _,e1,Bs,List.set_append_right _ _ A0,Nat.add_sub_cancel_left,List.set_append_right _ _ A0,ht,Nat.sub_self,hj,cV];rw [show M d-(k+1)=j by omega,VI<|Nat.lt_of_succ_le hk]
  grind
def aAe {pre post d:aB}(hd:As d):D8 (pre++(aq (M d) 255++post)) (M pre:Y) d (M d)=pre++(d++post):=by
 rw [aCq hd _<|Ar _];simp
def EE (g:Y) (ds:aI) (k:aB):aB:=(80::CD g)++(BS ds++k)
def LQ (w:Y) (A O:aB):aB:=if w=0 then A++O else O++A
def xc (a b:aI):BS (a++b)=BS a++BS b:=by simp [BS]
def xb (ds:aI):M (BS ds)=(ds.map λd=>7+M d).sum:=by
 induction ds with
 |nil=>rfl
 |cons d ds ih=>simp only [BS,cJ,Av,D2,List.sum_cons,KH] at*;rw [ih]
def aiL (ds:aI):7*M ds<=M (BS ds):=by
 induction ds with
 |nil=>simp [BS]
 |cons d ds ih=>simp only [BS,cJ,Av,BB,KH] at*;omega
def aoZ (d:aB):As (HS d):=by
 intro x hx;simp only [HS,Ak,B8,B6] at hx;rcases hx with rfl|rfl<;>rw [EY]<;>omega
def aAg {d:aB}(h:As d):As (BO d):=by
 unfold BO;rw [N9,Ic,Ic];exact ⟨AT,aoZ d,Wc _,h⟩
def aAf {ds:aI}(h:∀d∈ds,As d):As (BS ds):=by
 induction ds with
 |nil=>intro x hx;simp [BS] at hx
 |cons d ds ih=>
  have e:BS (d::ds)=BO d++BS ds:=rfl
  rw [e,Ic];exact ⟨aAg<|h d AH,ih λx hx=>h x A8⟩
def aFl (k:aC) (rest:aB) (h:gi rest 0≠80):gi (aq k 255++rest) 0≠80:=by
 cases k with
 |zero=>simpa using h
 |succ k=>simp [gi,cV]
structure JI (fl:aB) (w g:Y) (ds:aI) (k O:aB):Prop where
 eq:fl=LQ w (EE g ds k) O
 la:M (EE g ds k)=1024
 lo:M O=1024
 bo:As O
 hw:w=0\/w=1
 hg:0<=g/\g<4294967296
 old:gi O 0=80->Eh ((O.drop 1).take 4)<g
 bd:∀d∈ds,As d/\M d<=65535
 bk:As k
 tl:gi k 0≠80
def RC (g:Y) (ds:aI) (k:aB):M (EE g ds k)=5+M (BS ds)+M k:=by
 simp [EE,CD];omega
def al4 {g:Y}(hg:0<=g/\g<4294967296) (ds:aI) (k:aB):Eh (((EE g ds k).drop 1).take 4)=g:=by
 have:((EE g ds k).drop 1).take 4=CD g:=by simp [EE,CD]
 rw [this,aAj hg]
def aeH {w:Y}{A O:aB}(hA:M A=1024) (hO:M O=1024) (hw:w=0\/w=1):B5 (LQ w A O) w=A/\B5 (LQ w A O) (1-w)=O:=by
 have hl:∀a b:aB,M a=1024->M b=1024->B5 (a++b) 0=a/\B5 (a++b) 1=b:=by
  intro a b ha hb
  have e:M (a++b) / 2=1024:=A8
  unfold B5
  grind
 rcases hw with rfl|rfl
 ·exact hl A O hA hO
 ·have:=hl O A hO hA
  exact ⟨this.2,this.1⟩
namespace JI
variable {fl : List Int} {w g : Int} {ds : List (List Int)} {k O : List Int}
def len (h:JI fl w g ds k O):M fl=2048:=by
 rw [h.eq];unfold LQ;split<;>simp [h.la,h.lo]
def bja (h:JI fl w g ds k O):As (EE g ds k):=by
 unfold EE;rw [Ic,Ic,N9];exact ⟨⟨AT,Wc _⟩,aAf λd hd=>(h.bd d hd).1,h.bk⟩
def by_ (h:JI fl w g ds k O):As fl:=by
 rw [h.eq];unfold LQ;split
 ·rw [Ic];exact ⟨h.bja,h.bo⟩
 ·rw [Ic];exact ⟨h.bo,h.bja⟩
def jv (h:JI fl w g ds k O):Dj 512 fl=true:=by
 rw [JQ,KS,h.len]
 decide
def ar (h:JI fl w g ds k O):B5 fl w=EE g ds k:=by rw [h.eq];exact (aeH h.la h.lo h.hw).1
def ao (h:JI fl w g ds k O):B5 fl (1-w)=O:=by rw [h.eq];exact (aeH h.la h.lo h.hw).2
def gen (h:JI fl w g ds k O):Gc fl w=g:=by unfold Gc;rw [h.ar,al4 h.hg]
def cur (h:JI fl w g ds k O):Ah fl=w/\FZ fl=0:=by
 have ha:=h.ar;have ho:=h.ao;have hgn:=h.gen
 have g80:gi (EE g ds k) 0=80:=rfl
 have hold:gi (B5 fl<|1-w) 0=80->Gc fl (1-w)<g:=by rw [ho];unfold Gc;rw [ho];exact h.old
 unfold Ah FZ;rcases h.hw with rfl|rfl
 ·have e:(1:Y)-0=1:=rfl
  rw [e] at hold;rw [ha,hgn];refine ⟨?_,A8⟩;rw [AD g80];split
  ·omega
  ·rfl
 ·have e:(1:Y)-1=0:=rfl
  rw [e] at hold;rw [ha,hgn];refine ⟨?_,A8⟩;split
  ·omega
  ·rfl
end JI
def Cz (fl:aB):List (List Int)×Nat×Bool:=F5 (B5 fl<|Ah fl) (M<|B5 fl<|Ah fl) 5
def BT (se:Y) (fl:aB):Y:=if Dj se fl=X then 1 else if FZ fl≠0 then FZ fl else if (Cz fl).2.2=U then 0 else 11
def lkC (fl:aB):aL:=((B5 fl<|Ah fl).drop (Cz fl).2.1).all λb=>b==255
def apF (se:Y) (fl d:aB):aL:=an (M d>65535) ||an (7+M d+(Cz fl).2.1>M fl / 2)
def EH (fl:aB):Y:=Ah fl*((M fl / 2:aC):Y)+(Cz fl).2.1
def apB (fl d:aB):aB:=D8 fl (EH fl+1) ((BO d).drop 1)<|M<|(BO d).drop 1
def G4 (se:Y) (fl d:aB):ba:=DK se fl (EH fl+1) ((BO d).drop 1)++(DK se (apB fl d) (EH fl) [80]).drop 1
def plL (x:Le):aB:=CD x.1++(IntKind.u8.wrap x.2.1::IntKind.u8.wrap x.2.2.1::(CD x.2.2.2.1++[IntKind.u8.wrap<|x.2.2.2.2.fdiv<|2^8,IntKind.u8.wrap x.2.2.2.2]))
def b4 (d:aB) (i:Y):Y:=gi d i*16777216+gi d (i+1)*65536+gi d (i+2)*256+gi d (i+3)
def Eg (d:aB):Le:=(b4 d 0,gi d 4,gi d 5,b4 d 6,gi d 10*256+gi d 11)
def NC (x:Le):M (plL x)=12:=rfl
def YP (n:Y):0<=IntKind.u8.wrap n/\IntKind.u8.wrap n<=255:=W7
def apy (x:Le):As (plL x):=by
 unfold plL;rw [Ic,N9,N9,Ic,N9,N9];exact ⟨Wc _,YP _,YP _,Wc _,YP _,YP _,λx hx=>by cases hx⟩
def zz {n:Y}(h:0<=n/\n<4294967296):IntKind.u8.wrap (n.fdiv<|2^24)*16777216+IntKind.u8.wrap (n.fdiv<|2^16)*65536+IntKind.u8.wrap (n.fdiv<|2^8)*256+IntKind.u8.wrap n=n:=by
 rw [EY,EY,EY,EY,Mm _ AT,Mm _ AT,Mm _ AT];omega
def ah8 {x:Le}(h:Cj x=U):Eg (plL x)=x:=by
 obtain ⟨nu,co,am,fr,tk⟩:=x;obtain ⟨h1,h2,h3,h4,h5⟩:=RK.1 h;simp only at h1 h2 h3 h4 h5
 have e1:b4 (plL (nu,co,am,fr,tk)) 0=nu:=zz (n:=nu) A0
 have e2:b4 (plL (nu,co,am,fr,tk)) 6=fr:=zz (n:=fr) A0
 have e3:gi (plL (nu,co,am,fr,tk)) 4=co:=by show IntKind.u8.wrap co=co;rw [EY];omega
 have e4:gi (plL (nu,co,am,fr,tk)) 5=am:=by show IntKind.u8.wrap am=am;rw [EY];omega
 have e5:gi (plL (nu,co,am,fr,tk)) 10*256+gi (plL (nu,co,am,fr,tk)) 11=tk:=by
  show IntKind.u8.wrap (tk.fdiv<|2^8)*256+IntKind.u8.wrap tk=tk
  rw [EY,EY,Mm _ AT];omega
 unfold Eg
 grind
def ldB (rs:aI):aL:=rs.all λd=>M d==12
def C0 (se:Y) (fl:aB):Y:=if (!(se==512) || !((M fl:Y)==2048))=U then 1 else if BT se fl≠0 then BT se fl else if ldB (Cz fl).1=U then (if BX ((Cz fl).1.map Eg)=U then 0 else 9) else 9
def B4 (se:Y) (fl:aB):aN:=if C0 se fl=0 then (Cz fl).1.map Eg else []
namespace JI
variable {fl : List Int} {w g : Int} {ds : List (List Int)} {k O : List Int} {n : Nat}
def lk (h:JI fl w g ds k O):Cz fl=(ds,5+M (BS ds),U):=by
 unfold Cz;rw [h.cur.1,h.ar,h.la]
 have hp:=aiL ds
 have hl:=h.la
 rw [RC] at hl
 have:=xf (rest:=k) h.tl ds (80::CD g) 1024 (λd hd=>(h.bd d hd).2) A0
 exact this
def vN (h:JI fl w g ds k O):BT 512 fl=0:=by
 unfold BT;rw [h.jv,h.cur.2,h.lk];rfl
def clK (h:JI fl w g ds k O):lkC fl=k.all (λb=>b==255):=by
 unfold lkC;rw [h.lk,h.cur.1,h.ar]
 have e:(EE g ds k).drop (5+M (BS ds))=k:=by
  unfold EE;rw [<-DQ];exact List.drop_left' (by simp [CD];omega)
 grind
def cl (h:JI fl w g ds (aq n 255) O):lkC fl=true:=by
 rw [h.clK,B7]
 grind
def half (h:JI fl w g ds k O):M fl / 2=1024:=by rw [h.len]
def full (h:JI fl w g ds k O) {d:aB}(hd:M d<=65535) (hk:7+M d<=M k):apF 512 fl d=false:=by
 unfold apF;rw [h.half,h.lk]
 have hl:=h.la
 rw [RC] at hl
 simp;omega
def aev (g:Y) (ds:aI) {k:aC}(n:aC) (hk:n<=k):EE g ds (aq k 255)=((80::CD g)++BS ds)++(aq n 255++aq (k-n) 255):=by
 unfold EE
 simp_all
def split {k:aC}(h:JI fl w g ds (aq k 255) O) (n:aC) (hk:n<=k):∃pre post,fl=pre++(aq n 255++post)/\(M pre:Y)=EH fl/\
  ∀x:aB,pre++(x++post)=LQ w (((80::CD g)++BS ds)++(x++aq (k-n) 255)) O:=by
 have hP:EH fl=w*1024+((5+M (BS ds):aC):Y):=by unfold EH;rw [h.half,h.cur.1,h.lk];rfl
 have h5:(M ((80::CD g)++BS ds):Y)=((5+M (BS ds):aC):Y):=by simp [CD];omega
 have he:=h.eq
 rw [aev g ds n hk] at he;rcases h.hw with rfl|rfl
 ·refine ⟨(80::CD g)++BS ds,aq (k-n) 255++O,?_,A0,λx=>?_⟩
  ·rw [he];unfold LQ;rw [AD rfl];simp only [DQ]
  ·unfold LQ;rw [AD rfl];simp only [DQ]
 ·refine ⟨O++((80::CD g)++BS ds),aq (k-n) 255,?_,by rw [hP,Av];have:=h.lo;omega,λx=>?_⟩
  ·rw [he];unfold LQ;rw [AE AT];simp only [DQ]
  ·unfold LQ;rw [AE AT];simp only [DQ]
def app {k:aC}(h:JI fl w g ds (aq k 255) O) {d:aB}(hb:As d) (hd:M d<=65535) (hk:7+M d<=k):
  JI (D8 (apB fl d) (EH fl) [80] 1) w g (ds++[d]) (aq (k-(7+M d)) 255) O:=by
 obtain ⟨pre,post,e1,e2,e3⟩:=h.split (7+M d) hk
 have hp:BO d=80::(BO d).drop 1:=rfl
 have hl:=KH d
 have hby:As ((BO d).drop 1):=by have:=aAg hb;rw [hp,N9] at this;exact this.2
 have eA:apB fl d=pre++(aq 1 255++((BO d).drop 1++post)):=by
  unfold apB
  have:=aAe (pre:=pre++[255]) (post:=post) (d:=(BO d).drop 1) hby
  rw [<-e2]
  have e9:(M ((pre++[255]:aB)):Y)=(M pre:Y)+1:=AH
  rw [e9] at this
  have e0:fl=pre++[255]++(aq (M<|(BO d).drop 1) 255++post):=by
   grind
  rw [<-e0] at this;rw [this];simp
 have eB:D8 (apB fl d) (EH fl) [80] 1=pre++(BO d++post):=by
  rw [eA,<-e2]
  have:=aAe (pre:=pre) (post:=(BO d).drop 1++post) (d:=[80]) (by intro x hx;simp at hx;omega)
  grind
 have eJ:EE g (ds++[d]) (aq (k-(7+M d)) 255)=((80::CD g)++BS ds)++(BO d++aq (k-(7+M d)) 255):=by
  unfold EE;rw [xc,show BS [d]=BO d by simp [BS]]
  simp only [DQ]
 refine ⟨by rw [eB,e3,eJ],?_,h.lo,h.bo,h.hw,h.hg,h.old,?_,?_,?_⟩
 ·have:=h.la
  rw [RC] at this;rw [Bv] at this;rw [RC,xc,Av,show BS [d]=BO d by simp [BS],hl,Bv];omega
 ·intro x hx
  rw [BN,IM] at hx;rcases hx with hx|rfl
  ·exact h.bd x hx
  ·exact ⟨hb,hd⟩
 ·exact Wr _
 ·have:=aFl (k-(7+M d)) [] AT;simpa using this
end JI
def agB (se:Y) (fl d:aB) (y:Fl):(G4 se fl d).getLastD y=(se,D8 (apB fl d) (EH fl) [80] 1):=by
 exact aIf
def axU {fl:aB}{w g:Y}{ls:aN}{k O:aB}(h:JI fl w g (ls.map plL) k O) (hv:BX ls=U):C0 512 fl=0/\B4 512 fl=ls:=by
 have h1:(ls.map plL).map Eg=ls:=by
  rw [Ek]
  have:=(Hi hv).2
  calc ls.map (Eg∘plL)=ls.map id:=Gv (λx hx=>ah8<|this x hx)
   _=ls:=QW _
 have h2:ldB (ls.map plL)=true:=by
  unfold ldB;rw [B7];intro d hd;obtain ⟨x,_,rfl⟩:=Dp.1 hd
  simp [NC]
 have h3:C0 512 fl=0:=by
  unfold C0;rw [h.vN,h.lk,h.len];simp only [h2,h1,hv];rfl
 refine ⟨h3,?_⟩;unfold B4
 rwa [AD h3,h.lk]
def isW (se:Y) (fl:aB) (s:Y):aL:=!(((fl.drop (s*se).toNat).take se.toNat).all λb=>b==255)
def HK (se:Y) (f0:aB) (s:Y):aC->List Fl×List Int->List Fl×List Int
 |0,a=>a
 |n+1,a=>HK se f0 (s+1) n (if isW se f0 s=U then (a.1++(J4 se a.2 s).drop 1,Ej a.2 (s*se) se.toNat) else a)
def rwF (fl:aB) (ds:aI):aL:=an (5+(ds.map λd=>7+M d).sum<=M fl / 2)&&ds.all (λd=>an<|M d<=65535)
def FG (se:Y) (fl:aB) (ds:aI):Y:=if BT se fl≠0 then BT se fl else if (!rwF fl ds ||(Gc fl (Ah fl)==4294967295))=U then 10 else 0
def Gl (se:Y) (fl:aB):List Fl×List Int:=letI a:=((M fl / 2:aC):Y);HK se fl ((1-Ah fl)*a.tdiv se) (a.tdiv se).toNat ([(se,fl)],fl)
def I6 (fl:aB):Y:=(1-Ah fl)*((M fl / 2:aC):Y)
def HT (fl:aB) (ds:aI):aB:=CD (Gc fl (Ah fl)+1)++BS ds
def rwP (se:Y) (fl:aB) (ds:aI):aB:=D8 (Gl se fl).2 (I6 fl+1) (HT fl ds)<|M<|HT fl ds
def FF (se:Y) (fl:aB) (ds:aI):ba:=if FG se fl ds=0 then (Gl se fl).1++((DK se (Gl se fl).2 (I6 fl+1)<|HT fl ds).drop 1++(DK se (rwP se fl ds) (I6 fl) [80]).drop 1) else []
def E9 (se:Y) (fl d:aB):Y:=if BT se fl≠0 then BT se fl else if apF se fl d=U then 10 else if lkC fl=U then 0 else FG se fl ((Cz fl).1++[d])
def Fj (se:Y) (fl d:aB):ba:=if BT se fl≠0 then [] else if apF se fl d=U then [] else if lkC fl=U then G4 se fl d else FF se fl ((Cz fl).1++[d])
def kpL (l:aN) (x:Le) (t:Y):aI:=letI a:=(An l<|(M l:Y)-1);((Bx l t).map plL)++((if M l>0/\(M (Bx l t)=0\/(An (Bx l t)<|(M (Bx l t):Y)-1).1≠a.1) then [plL a] else [])++[plL x])
def HR (l:aN) (x:Le):aL:=letI a:=(An l<|(M l:Y)-1);decide (M l>0)&&(an (x.1<=a.1) ||an (x.2.2.2.1<a.2.2.2.1))
def D9 (se:Y) (fl:aB) (x:Le) (t:Y):Y:=
 if C0 se fl≠0 then C0 se fl else if (!Cj x || !inB t 0 1100000)=U then 1 else if HR (B4 se fl) x=U then 12 else
 if E9 se fl (plL x)≠10 then E9 se fl (plL x) else FG se fl (kpL (B4 se fl) x t)
def CT (se:Y) (fl:aB) (x:Le) (t:Y):ba:=
 if C0 se fl≠0 then [] else if (!Cj x || !inB t 0 1100000)=U then [] else if HR (B4 se fl) x=U then [] else
 if E9 se fl (plL x)≠10 then Fj se fl (plL x) else FF se fl (kpL (B4 se fl) x t)
def HV (se:Y) (fl:aB):Y:=if C0 se fl≠0 then C0 se fl else if M (B4 se fl)=0 then 0 else if (An (B4 se fl)<|(M (B4 se fl):Y)-1).1=1000000 then 10 else 0
def nwA (se:Y) (fl:aB):Y:=letI a:=(An (B4 se fl)<|(M (B4 se fl):Y)-1);if C0 se fl≠0 then 0 else if M (B4 se fl)=0 then 1 else if a.1=1000000 then 0 else a.1+1
structure SN where
 ls:aN
 se:Y
 fl:aB
 nx:Y
 lk:aLZ
def Yn (t:Y) (x:Le):Lk:=(t+(7*t+3*x.2.1).tmod 5,x)
def HG (t:Y) (s:SN) (x:Le):SN:=
 if Df s.ls x=0/\D9 s.se s.fl x t=0 then
  ⟨HM s.ls x,(HP (CT s.se s.fl x t)<|(M (CT s.se s.fl x t):Y)-1).1,(HP (CT s.se s.fl x t)<|(M (CT s.se s.fl x t):Y)-1).2,x.1+1,s.lk++[Yn t x]⟩
 else s
def Jo (t:Y) (xs:aN) (s:SN):aC->SN
 |0=>s
 |k+1=>HG t (Jo t xs s k)<|An xs k
def G2 (l:aN) (t:Y):aN:=if Cw l t=0 then Bx l t else l
namespace PK
variable (p : PK)
def Fh:aK:=El p.cs p.tg<|M p.tg
def dE:Y:=deE p.Fh p.os p.ks p.gs p.bs (G2 p.ls p.tk) p.ra p.dm p.tk p.nx
def dR:bp:=IA p.Fh p.os p.ks p.gs p.bs (G2 p.ls p.tk) p.ra p.dm p.tk p.nx
def dL:aN:=Iy p.Fh p.os p.ks p.gs p.bs (G2 p.ls p.tk) p.ra p.dm p.tk p.nx
def Gf:SN:=⟨G2 p.ls p.tk,p.se,p.fl,p.nx,p.lk⟩
def sn1:SN:=Jo p.tk p.dL p.Gf<|M p.dL
def AK:PK:=if p.up=X then p else if p.dE≠0 then {p with ls:=G2 p.ls p.tk} else {p with ra:=p.dR,ls:=p.sn1.ls,se:=p.sn1.se,fl:=p.sn1.fl,nx:=p.sn1.nx,lk:=p.sn1.lk}
def LM:PK:={p with st:=Mb p.gs p.lk p.tk p.st<|M p.lk,lk:=p.lk.filter λl=>an<|l.1>p.tk}
def VG:PK:={p with st:=Nu p.gs p.dr p.tk p.st<|M p.dr}
def dw:DW:=Gr p.gs p.ca ⟨p.st,p.mi,p.me,aq (M p.gs) 0⟩<|M p.gs
def CX:PK:={p with st:=p.dw.st,mi:=p.dw.mi,me:=p.dw.me}
end PK
def DH (gs:aG) (tg:aB) (am:aB) (cs:aK):aC->List Cd
 |0=>cs
 |k+1=>if gi tg k>=(Aa (DH gs tg am cs k) k).2.2.1 then DH gs tg am cs k else
  if (an (M am=M gs)&&GA ((DH gs tg am cs k).set k<|G3 (Aa (DH gs tg am cs k) k)<|gi tg k) gs am)=U then (DH gs tg am cs k).set k (G3 (Aa (DH gs tg am cs k) k)<|gi tg k) else DH gs tg am cs k
namespace PK
variable (p : PK)
def rsA:aB:=if I0 p.ls (M p.gs) (p.tk+1)=0 then Fa p.gs p.ls (p.tk+1) else []
def HJ:PK:={p with cs:=if p.up=X then p.cs else DH p.gs p.tg p.rsA p.cs (M p.tg)}
def endP:PK:={p with tk:=p.tk+1}
def B2:PK:=p.AK.LM.VG
def GY:PK:=p.B2.CX.HJ.endP
def Ij:aB:=p.B2.dw.dw
def HB:Y:=if p.tk=1000000 then 15 else 0
end PK
namespace PK
variable (p : PK) (n m : Int) (c : Ca) (d : Dm)
def isC:aL:=inB n 0<|(M p.gs:Y)-1
def FV:Y:=if p.isC n=X then 1 else if (!EJ c || !Gt d)=U then 1 else if ((BA p.ca n).2.2.1 !=0 ||(BI p.st n).1 !=0)=U then 6 else 0
def oQ:bf:=C6 p.gs (C6 p.gs (C6 p.gs (C6 p.gs p.st n 1 0 0) n 3 0 0) n 4 1 0) n 5 0 0
def L6:PK:={p with ca:=p.ca.set n.toNat c,mi:=p.mi.set n.toNat ([],0,0),dm:=p.dm.set n.toNat d,st:=p.oQ n}
def Hp:Y:=if p.isC n=X then 1 else if (BA p.ca n).2.2.1=0 then 4 else 0
def NL:PK:={p with ca:=p.ca.set n.toNat (0,0,0,0,0),mi:=p.mi.set n.toNat ([],0,0),dm:=p.dm.set n.toNat (X,0,0,9),st:=C6 p.gs (C6 p.gs p.st n 6 0 0) n 2 0 0}
def L7:Y:=if p.isC n=X then 1 else 0
def Ym:PK:={p with lk:=p.lk.filter λl=>l.2.2.1 !=n}
def JX:Y:=if p.up=X then 6 else 0
def NU:PK:={p with up:=X,ls:=[]}
def Em:Y:=if p.up=U then 6 else if C0 p.se p.fl≠0 then C0 p.se p.fl else if Cw (B4 p.se p.fl) p.tk≠0 then Cw (B4 p.se p.fl) p.tk else HV p.se p.fl
def Sz:PK:={p with up:=U,ls:=Bx (B4 p.se p.fl) p.tk,nx:=nwA p.se p.fl,ra:=aq (M p.gs) (0,0)}
def M9:Y:=if p.isC n=X then 1 else sE (AF p.gs n) (BI p.st n) 6 1 0
def aLy:PK:={p with st:=C6 p.gs p.st n 6 1 0}
def Jq:PK:={p with tg:=p.tg.set n.toNat m}
def Ge:Y:=if (!inB n 0 ((M p.cs:Y)-1) || !inB m 1 (Aa p.cs n).2.2.1)=U then 1 else if GA (p.Jq n m).Fh p.gs (BQ p.gs)=X then 13 else 0
end PK
def CW (p:PK):aL:=(B0 p.cs p.os p.ks p.gs p.bs&&inB p.tk 0 1000000)&&((an (M p.st=M p.gs)&&(an (M p.ca=M p.gs)&&(an (M p.mi=M p.gs)&&(an (M p.me=M p.gs)&&(an (M p.dm=M p.gs)&&an (M p.dr=M p.gs))))))&&
 (an (M p.tg=M p.cs)&&(CO (M p.tg) (λk=>inB (gi p.tg k) 1 (Aa p.cs k).2.2.1)&&(p.dr.all (λx=>inB x (-200) 200)&&p.lk.all (λl=>inB l.2.2.1 0<|(M p.gs:Y)-1)))))
structure EV where
 (ek en em:Y)
 c:Ca
 d:Dm
def II:PK:=⟨[],[],[],[],[],0,X,[],0,[],[],0,[],[],[],[],[],[],[],[]⟩
def BJ (p:PK) (e:EV):Y:=if CW p=X then 1 else if e.ek=1 then p.HB else if e.ek=2 then p.FV e.en e.c e.d else if e.ek=3 then p.Hp e.en else if e.ek=4 then p.L7 e.en else if e.ek=5 then p.JX else if e.ek=6 then p.Em else if e.ek=7 then p.M9 e.en else if e.ek=8 then p.Ge e.en e.em else 9
def Ay (p:PK) (e:EV):PK:=if BJ p e≠0 then II else if e.ek=1 then p.GY else if e.ek=2 then p.L6 e.en e.c e.d else if e.ek=3 then p.NL e.en else if e.ek=4 then p.Ym e.en else if e.ek=5 then p.NU else if e.ek=6 then p.Sz else if e.ek=7 then p.aLy e.en else p.Jq e.en e.em
def Br (p:PK) (e:EV):aB:=if BJ p e≠0 then [] else if e.ek=1 then p.Ij else []
def DI (cs:aK) (os:aF) (ks:aP) (gs:aG) (bs:aQ) (dr:aB):Y:=
 if B0 cs os ks gs bs=X\/M dr≠M gs then 1 else if dr.all (λx=>inB x (-200) 200)=X then 1 else if GA cs gs (BQ gs)=X then 13 else 0
def DU:aB:=EE 0 [] (aq 1019 255)++aq 1024 255
def newP (cs:aK) (os:aF) (ks:aP) (gs:aG) (bs:aQ) (dr:aB):PK:=if DI cs os ks gs bs dr≠0 then II else
 ⟨cs,os,ks,gs,bs,0,U,[],512,DU,aq (M gs) (0,0),1,aq (M gs) (0,0,0,X),aq (M gs) (0,0,0,0,0),aq (M gs) ([],0,0),(Dt<|M gs).map λk=>(k+1,0,X),aq (M gs) (X,0,0,9),[],dr,cs.map λc=>c.2.2.1⟩
def oX (e:Ty):LV->Option (List e.D)
 | .xl e' l=>match tyEq e' e with
  |some ⟨h⟩=>ah (castL h l)
  |none=>aj
 |_=>aj
def Fz {e:Ty}{x:LV}{l:List e.D}(h:oX e x=ah l):x=.xl e l:=by
 unfold oX at h;split at h
 ·split at h
  ·rename_i h2 _
   subst h2;cases h;rfl
  ·cases h
 ·cases h
def oI:LV->Option Int
 | .v (ag J n)=>ah n
 |_=>aj
def pC {x:LV}{n:Y}(h:oI x=ah n):x=.v (ag J n):=by
 unfold oI at h;exact rL
def oB:LV->Option Bool
 | .v (.bool n)=>ah n
 |_=>aj
def awY {x:LV}{n:aL}(h:oB x=ah n):x=.v (.bool n):=by
 unfold oB at h;exact rL
def Jr:LV->Option PK
 | .agg [a0,a1,a2,a3,a4,a5,a6,a7,a8,a9,a10,a11,a12,a13,a14,a15,a16,a17,a18,a19]=>(oX AR a0).bind λcs=>(oX .str a1).bind λos=>(oX AY a2).bind λks=>(oX AX a3).bind λgs=>(oX AZ a4).bind λbs=>(oI a5).bind λtk=>(oB a6).bind λup=>(oX AL a7).bind λls=>(oI a8).bind λse=>(oX (.int aw) a9).bind λfl=>(oX Ae a10).bind λra=>(oI a11).bind λnx=>(oX Al a12).bind λst=>(oX AL a13).bind λca=>(oX Ap a14).bind λmi=>(oX Az a15).bind λme=>(oX Aq a16).bind λdm=>(oX Au a17).bind λlk=>(oX A7 a18).bind λdr=>(oX A7 a19).bind λtg=>ah ⟨cs,os,ks,gs,bs,tk,up,ls,se,fl,ra,nx,st,ca,mi,me,dm,lk,dr,tg⟩
 |_=>aj
def Ov {x:LV}{p:PK}(h:Jr x=ah p):x=(p):=by
 unfold Jr at h;split at h
 ·simp only [Option.bind_eq_some_iff] at h
  obtain ⟨cs,h0,os,h1,ks,h2,gs,h3,bs,h4,tk,h5,up,h6,ls,h7,se,h8,fl,h9,ra,h10,nx,h11,st,h12,ca,h13,mi,h14,me,h15,dm,h16,lk,h17,dr,h18,tg,h19,h⟩:=h;cases h;rw [Fz h0,Fz h1,Fz h2,Fz h3,Fz h4,pC h5,awY h6,Fz h7,pC h8,Fz h9,Fz h10,pC h11,Fz h12,Fz h13,Fz h14,Fz h15,Fz h16,Fz h17,Fz h18,Fz h19]
 ·cases h
def RA:=bN f14 0
def Lz:aM:=[M4,YK,S7]
def ahg:Sound prog AO (.loop RA) (unrC prog AO Lz noK 20 2 RA):=unrC_sound (gk Lz) kN.h 20 2 RA
structure Km where
 r:aL
 n:Y
 l:aB
 (m i:Y)
 p:PK
def yM:=bN f14 1
def nG (s:Km):T (Rd Km):=
 .br (an<|s.i<s.m) (.ix s.i (M s.l)<|.ix s.i (M s.p.cs)<|.br (!(inB (gi s.l s.i) (1:Y) (Aa s.p.cs s.i).2.2.1)) (.so (.ret) {s with r:=X})<|.nx {s with i:=AA<|s.i+1}) (.so (.exit 2) s)
def Pj (s:Km) (j:Y):aL:=inB (gi s.l j) 1 (Aa s.p.cs j).2.2.1
def bJ (s:Km):Prop:=s.i=0/\0<=s.m/\s.m<=1000/\s.m=(M s.l:Y)/\M s.l=M s.p.cs
def Tf (s:Km):Prop:=0<=s.i/\s.i<=s.m/\s.m<=1000/\(s.m=(M s.l:Y)/\M s.l=M s.p.cs)/\∀j:aC,(j:Y)<s.i->Pj s j=U
def kf (s:Km):aC:=(s.m-s.i).toNat
def tX (x:Ex) (s s':Km):Prop:=(x=.exit 2/\∀j:aC,(j:Y)<s'.m->Pj s' j=U)\/(x=.ret/\s'.r=X/\∃j:aC,(j:Y)<s'.m/\Pj s' j=X)
def awS:∀s,bJ s->Tf s:=by
 exact HY
def apw:Da Tf kf tX nG:=by
 intro s hI;obtain ⟨h0,h1,h2,h3,h4⟩:=hI;refine allR_ite (λc1=>allR_ite (λc2=>?_) λc2=>?_) λc1=>?_
 ·have c1:s.i<s.m:=AQ
  refine .inr ⟨rfl,rfl,s.i.toNat,AP,?_⟩
  have hg:Pj s s.i=false:=by unfold Pj;simp_all
  exact hg
 ·have c1:s.i<s.m:=AQ
  have hg:Pj s s.i=true:=by unfold Pj;simp_all
  rw [AG (x:=s.i+1)];refine ⟨⟨A8,A8,h2,h3,λj hj=>?_⟩,by simp only [kf];omega⟩
  exact IT
 ·exact qo
def Nc:LpD Km:=⟨0,105,[1,2,3,61,62,63],[],λs=>[.own 0 0,s.r,s.n,.xl A7 s.l,s.m,s.i],λs=>[⟨[s.p.cs,s.p.os,s.p.ks,s.p.gs,s.p.bs,s.p.tk,s.p.up,s.p.ls,s.p.se,.xl (.int aw) s.p.fl,s.p.ra,s.p.nx,s.p.st,s.p.ca,s.p.mi,s.p.me,s.p.dm,s.p.lk,.xl A7 s.p.dr,.xl A7 s.p.tg],44,.cl,X⟩],λv b=>⟨BU v 1,AJ v 2,Ag A7 v 3,AJ v 4,AJ v 5,rQ b 0⟩,nG,λs r=> {s with r:=r.r,i:=r.i},λs=>s,λ_ s=>s,[.ret,.exit 2],bJ,Tf,kf⟩
abbrev fw:=Nc.run
abbrev gd:=Nc.exn
def ap2:Rq Tf nG:=by
 exact aI2
def aF3:Nc.Ok:={}
def aCk:Nc.Pf (tX):=⟨awS,λs h=>rfl,apw,ap2⟩
def ahj:SA 0 yM Nc:=s1 aF3 aCk Lz kN
def aiI:Fi bJ Tf tX gd fw:=LpD.fin aF3 aCk
structure Kl where
 r:aL
 n:Y
 l:aB
 (m i:Y)
 p:PK
def xG:=bN f14 2
def nF (s:Kl):T (Rd Kl):=
 .br (an<|s.i<s.m) (.ix s.i (M s.l)<|.br (!(inB (gi s.l s.i) (-200) 200)) (.so (.ret) {s with r:=X})<|.nx {s with i:=AA<|s.i+1}) (.so (.exit 4) s)
def Ph (s:Kl) (j:Y):aL:=inB (gi s.l j) (-200) 200
def bI (s:Kl):Prop:=s.i=0/\0<=s.m/\s.m<=1000/\s.m=(M s.l:Y)
def Te (s:Kl):Prop:=0<=s.i/\s.i<=s.m/\s.m<=1000/\(s.m=(M s.l:Y))/\∀j:aC,(j:Y)<s.i->Ph s j=U
def ke (s:Kl):aC:=(s.m-s.i).toNat
def tW (x:Ex) (s s':Kl):Prop:=(x=.exit 4/\∀j:aC,(j:Y)<s'.m->Ph s' j=U)\/(x=.ret/\s'.r=X/\∃j:aC,(j:Y)<s'.m/\Ph s' j=X)
def awR:∀s,bI s->Te s:=by
 exact HY
def apv:Da Te ke tW nF:=by
 intro s hI;obtain ⟨h0,h1,h2,h3,h4⟩:=hI;refine allR_ite (λc1=>allR_ite (λc2=>?_) λc2=>?_) λc1=>?_
 ·have c1:s.i<s.m:=AQ
  refine .inr ⟨rfl,rfl,s.i.toNat,A8,?_⟩
  have hg:Ph s s.i=false:=by unfold Ph;simp_all
  exact hg
 ·have c1:s.i<s.m:=AQ
  have hg:Ph s s.i=true:=by unfold Ph;simp_all
  rw [AG (x:=s.i+1)];refine ⟨⟨A8,A8,h2,h3,λj hj=>?_⟩,by simp only [ke];omega⟩
  exact IT
 ·exact qo
def Nb:LpD Kl:=⟨0,105,[1,2,3,80,81,82],[],λs=>[.own 0 0,s.r,s.n,.xl A7 s.l,s.m,s.i],λs=>[⟨[s.p.cs,s.p.os,s.p.ks,s.p.gs,s.p.bs,s.p.tk,s.p.up,s.p.ls,s.p.se,.xl (.int aw) s.p.fl,s.p.ra,s.p.nx,s.p.st,s.p.ca,s.p.mi,s.p.me,s.p.dm,s.p.lk,.xl A7 s.p.dr,.xl A7 s.p.tg],44,.cl,X⟩],λv b=>⟨BU v 1,AJ v 2,Ag A7 v 3,AJ v 4,AJ v 5,rQ b 0⟩,nF,λs r=> {s with r:=r.r,i:=r.i},λs=>s,λ_ s=>s,[.ret,.exit 4],bI,Te,ke⟩
abbrev gF:=Nb.run
abbrev gZ:=Nb.exn
def ap1:Rq Te nF:=by
 exact Mt
def aF2:Nb.Ok:={}
def aCj:Nb.Pf (tW):=⟨awR,λs h=>rfl,apv,ap1⟩
def ahi:SA 0 xG Nb:=s1 aF2 aCj Lz kN
def aiH:Fi bI Te tW gZ gF:=LpD.fin aF2 aCj
structure Kk where
 r:aL
 n:Y
 l:aLZ
 (m i:Y)
def xF:=bN f14 3
def nD (s:Kk):T (Rd Kk):=
 .br (an<|s.i<s.m) (.ix s.i (M s.l)<|.br (!(inB (Dr s.l s.i).2.2.1 (0:Y)<|AA<|s.n-1)) (.so (.ret) {s with r:=X})<|.nx {s with i:=AA<|s.i+1}) (.so (.exit 6) s)
def S2 (s:Kk) (j:Y):aL:=inB (Dr s.l j).2.2.1 0<|s.n-1
def bH (s:Kk):Prop:=s.i=0/\0<=s.m/\s.m<=100000000/\s.m=(M s.l:Y)/\0<=s.n/\s.n<=16
def Td (s:Kk):Prop:=0<=s.i/\s.i<=s.m/\s.m<=100000000/\(s.m=(M s.l:Y)/\0<=s.n/\s.n<=16)/\∀j:aC,(j:Y)<s.i->S2 s j=U
def kc (s:Kk):aC:=(s.m-s.i).toNat
def pY (x:Ex) (s s':Kk):Prop:=(x=.exit 6/\∀j:aC,(j:Y)<s'.m->S2 s' j=U)\/(x=.ret/\s'.r=X/\∃j:aC,(j:Y)<s'.m/\S2 s' j=X)
def awQ:∀s,bH s->Td s:=by
 exact HY
def apu:Da Td kc pY nD:=by
 intro s hI;obtain ⟨h0,h1,h2,h3,h4⟩:=hI;refine allR_ite (λc1=>allR_ite (λc2=>?_) λc2=>?_) λc1=>?_
 ·have c1:s.i<s.m:=AQ
  refine .inr ⟨rfl,rfl,s.i.toNat,AP,?_⟩
  have hg:S2 s s.i=false:=aJk
  exact hg
 ·have c1:s.i<s.m:=AQ
  have hg:S2 s s.i=true:=aJk
  rw [AG (x:=s.i+1)];refine ⟨⟨A8,A8,h2,h3,λj hj=>?_⟩,by simp only [kc];omega⟩
  exact IT
 ·exact qo
def Na:LpD Kk:=⟨0,105,[2,3,91,92,93],[],λs=>[s.r,s.n,s.l,s.m,s.i],λ_=>[],λv b=>⟨BU v 0,AJ v 1,Ag Au v 2,AJ v 3,AJ v 4⟩,nD,λs r=> {s with r:=r.r,i:=r.i},λs=>s,λ_ s=>s,[.ret,.exit 6],bH,Td,kc⟩
abbrev iI:=Na.run
abbrev gY:=Na.exn
def ap0:Rq Td nD:=by
 intro s hI;refine ⟨λc1=>⟨?_,λ_=>trivial,λ_=>trivial⟩,λ_=>trivial⟩
 ·(obtain ⟨h0,h1,h2,h3,h4⟩:=hI;obtain ⟨g0,g1,g2⟩:=h3;simp at c1;omega)
def aF1:Na.Ok:={}
def aCi:Na.Pf (pY):=⟨awQ,λs h=>rfl,apu,ap0⟩
def ahh:SA 0 xF Na:=s1 aF1 aCi Lz kN
def aiG:Fi bH Td pY gY iI:=LpD.fin aF1 aCi
def fp {α:Type}{l:List α}{d:α}{f:α->aL}:CO (M l) (λk=>f<|l.getD k.toNat d)=l.all f:=by
 rw [GG,Cm,B7]
 constructor
 ·intro h x hx
  obtain ⟨k,hk,rfl⟩:=GB.1 hx
  grind
 ·intro h j hj
  grind
def aH6:aD->T LV
 | [x_p]=>(match Jr x_p with
  |some p=> .req (M p.lk<=100000000) (.ok<|CW p)
  |none=> .no)
 |_=> .no
def N6 (p:PK):Km:=(⟨X,(M p.gs:Y),p.tg,(M p.tg:Y),0,p⟩:Km)
def N5 (p:PK):Kl:=(⟨(fw<|N6 p).r,(M p.gs:Y),p.dr,(M p.dr:Y),0,p⟩:Kl)
def Oi (p:PK):Kk:=(⟨(gF<|N5 p).r,(M p.gs:Y),p.lk,(M p.lk:Y),0⟩:Kk)
def aqt (p:PK):letI a:=(M p.gs:Y);BD prog AO Lz kN (λi=>if i=5 then (unrC prog AO Lz noK 20 2 RA) else if i=13 then Nc.lp else if i=19 then Nb.lp else if i=25 then Na.lp else noLoops i) f14 [p]=.br ((!(B0 p.cs p.os p.ks p.gs p.bs)) ||(!(inB p.tk (0:Y) (1000000:Y)))) (.ok X) (.br ((M p.st:Y) !=a) (.ok X)<|.br ((M p.ca:Y) !=a) (.ok X)<|.br ((M p.mi:Y) !=a) (.ok X)<|.br ((M p.me:Y) !=a) (.ok X)<|.br ((M p.dm:Y) !=a) (.ok X)<|.br ((M p.dr:Y) !=a) (.ok X)<|.br ((M p.tg:Y) !=(M p.cs:Y)) (.ok X)<|.req (Nc.q<|N6 p)<|.br (isEx (gd<|N6 p)<|.ret) (.ok (fw<|N6 p).r)<|.req (Nb.q<|N5 p)<|.br (isEx (gZ<|N5 p)<|.ret) (.ok (gF<|N5 p).r)<|.req (Na.q<|Oi p)<|.br (isEx (gY<|Oi p)<|.ret) (.ok (iI<|Oi p).r)<|.ok U):=AM
def awG:=vm (S:=aH6) func14 Lz kN (L:=(λi=>if i=5 then (unrC prog AO Lz noK 20 2 RA) else if i=13 then Nc.lp else if i=19 then Nb.lp else if i=25 then Na.lp else noLoops i)) (λb hb=>by
 rw [show loopsIn _=[RA,yM,xG,xF] by kernel_rfl] at hb
 simp only [Ak,B8,B6] at hb;rcases hb with rfl|rfl|rfl|rfl
 ·exact ahg
 ·exact ahj
 ·exact ahi
 ·exact ahh) (λargs lv h=>by
 refine ⟨?_⟩;unfold aH6 at h;split at h
 ·split at h
  case h_2=>cases h
  rename_i p hp;obtain rfl:=Ov hp;simp only [canL,canX];rw [aqt];obtain ⟨hk,rfl⟩:=h
  have op:CW p=U->_:=λhv=>by unfold CW at hv;simp only [AS,AU] at hv;exact hv
  have no:(CW p=U->False)->LV.v (.bool X)=LV.v (.bool<|CW p):=λh=>by
   cases e:CW p
   ·rfl
   ·exact (h e).elim
  refine ⟨λc1=>no λhv=>?_,λc1=>⟨λc2=>no λhv=>?_,λc2=>⟨λc3=>no λhv=>?_,λc3=>⟨λc4=>no λhv=>?_,λc4=>⟨λc5=>no λhv=>?_,λc5=>⟨λc6=>no λhv=>?_,λc6=>⟨λc7=>no λhv=>?_,λc7=>⟨λc8=>no λhv=>?_,λc8=>?_⟩⟩⟩⟩⟩⟩⟩⟩
  iterate 8
   ·obtain ⟨⟨h1,h2⟩,⟨h3,h4,h5,h6,h7,h8⟩,h9,_⟩:=op hv
    simp_all
  simp only [bne_eq_false_iff_eq,Int.natCast_inj,EM,GC] at c1 c2 c3 c4 c5 c6 c7 c8
  have hs:=CV.1 c1.1
  have hv:CW p=(CO (M p.tg) (λk=>inB (gi p.tg k) 1 (Aa p.cs k).2.2.1)&&(p.dr.all (λx=>inB x (-200) 200)&&p.lk.all (λl=>inB l.2.2.1 0<|(M p.gs:Y)-1))):=by
   unfold CW
   grind
  have hr:CO (M p.dr) (λk=>inB (gi p.dr k) (-200) 200)=p.dr.all (λx=>inB x (-200) 200):=fp (f:=λx=>inB x (-200) 200)
  have hl:CO (M p.lk) (λk=>inB (Dr p.lk k).2.2.1 0<|(M p.gs:Y)-1)=p.lk.all (λl=>inB l.2.2.1 0<|(M p.gs:Y)-1):=fp (f:=λl:Lk=>inB l.2.2.1 0<|(M p.gs:Y)-1)
  rw [hv,<-hr,<-hl]
  have E1:bJ (N6 p):=⟨rfl,O6 _,by show (M p.tg:Y)<=1000;omega,rfl,c8⟩
  have E2:bI (N5 p):=⟨rfl,O6 _,by show (M p.dr:Y)<=1000;omega,rfl⟩
  have E3:bH (Oi p):=⟨rfl,O6 _,by show (M p.lk:Y)<=100000000;omega,rfl,O6 _,by show (M p.gs:Y)<=16;omega⟩
  refine ⟨⟨E1,rfl,rfl⟩,?_⟩;obtain ⟨_,_,q⟩:=aiI _ E1
  have q:(gd (N6 p)=.exit 2/\_)\/(gd (N6 p)=.ret/\(fw<|N6 p).r=X/\∃j:aC,(j:Y)<(M p.tg:Y)/\inB (gi p.tg j) 1 (Aa p.cs j).2.2.1=X):=q
  rcases q with ⟨q1,q2⟩ |⟨q1,q2,j,q3,q4⟩
  rotate_left
  ·exact qu
  rw [q1,show CO (M p.tg) (λk=>inB (gi p.tg k) 1 (Aa p.cs k).2.2.1)=U from Cm.2 q2]
  refine ⟨λc=>CP,λ_=>⟨⟨E2,rfl,rfl⟩,?_⟩⟩
  obtain ⟨_,_,q⟩:=aiH _ E2
  have q:(gZ (N5 p)=.exit 4/\_)\/(gZ (N5 p)=.ret/\(gF<|N5 p).r=X/\∃j:aC,(j:Y)<(M p.dr:Y)/\inB (gi p.dr j) (-200) 200=X):=q
  rcases q with ⟨q1,q2⟩ |⟨q1,q2,j,q3,q4⟩
  rotate_left
  ·exact qu
  rw [q1,show CO (M p.dr) (λk=>inB (gi p.dr k) (-200) 200)=U from Cm.2 q2]
  refine ⟨λc=>CP,λ_=>⟨⟨E3,rfl,rfl⟩,?_⟩⟩
  obtain ⟨_,_,q⟩:=aiG _ E3
  have q:(gY (Oi p)=.exit 6/\_)\/(gY (Oi p)=.ret/\(iI<|Oi p).r=X/\∃j:aC,(j:Y)<(M p.lk:Y)/\inB (Dr p.lk j).2.2.1 0 ((M p.gs:Y)-1)=X):=q
  rcases q with ⟨q1,q2⟩ |⟨q1,q2,j,q3,q4⟩
  rotate_left
  ·exact qu
  rw [q1,show CO (M p.lk) (λk=>inB (Dr p.lk k).2.2.1 0<|(M p.gs:Y)-1)=U from Cm.2 q2]
  exact ⟨λc=>CP,λ_=>rfl⟩
 ·cases h)
def aGr:aD->T LV
 | [.xl (.int J) l]=> .req (M l<=100000000) (.ok<|.xl A7 l)
 |_=> .no
def P4:aM:=[]
def aBZ {α:Type}{l:List α}{d:α}{n:Y}(h:n=(M l:Y)):cpy l (aq n.toNat d)=l:=by
 unfold cpy
 simp_all
def getD_mem {α:Type}{l:List α}{i:aC}{d:α}(h:i<M l):l.getD i d∈l:=by
 grind
def set_self {α:Type}{l:List α}{i:aC}{d:α}(h:i<M l):l.set i (l.getD i d)=l:=by
 simp_all
def aLu:=vo (S:=aGr) func63 P4 kN (λargs lv h=>by
 unfold aGr at h;split at h
 ·rename_i l
  refine Af (letI a:=(M l:Y);letI b:=(cpy l<|aq a.toNat (0:Y));.rm 8 a<|.rc a (0:Y) (M l)<|.req (0+a.toNat<=M b)<|.ok<|.xl A7<|(b.drop 0).take a.toNat) ?_;obtain ⟨hl,rfl⟩:=h;rw [aBZ rfl];refine ⟨A0,⟨AH,AH⟩,AH,?_⟩;rw [Bs,Bq,Cc];rfl
 ·cases h)
structure LF where
 (n i:Y)
 p1:aF
 p2:aP
 p3:aG
 p4:aQ
 arK:Y
 aeN:aL
 (p8 p11:Y)
 afT:aL6
 afF:aZ
 aiN:aLZ
 (Ol afE:aB)
 (iQ b11 b12 b13 b14:aV)
 alP:Y
 azv:aL
 b17:aV
 b18:Y
 (b19 b110:aV)
 QD:Y
 (af5 alQ ag8 af6 aei ag9 wC aeh:aV)
 b2:aK
 b3:aN
 b4:aB
 b5:bp
 b6:bf
 b7:aN
 o:aL4
def nN (s:LF):T (Rd LF):=letI a:=s.o.getD s.i.toNat<|Ty.dflt Ap;.br (an<|s.i<s.n) (.ik s.i (M s.o)<|.req (M a.1<=100000000)<|.ik s.i (M s.o)<|.rl s.b2<|.rl s.b3<|.rl s.b4<|.rl s.b5<|.rl s.b6<|.rl s.b7<|.re (M s.o) (s.o.set s.i.toNat a)<|.nx {s with i:=AA<|s.i+1,o:=s.o.set s.i.toNat a})<|.rl s.b2<|.rl s.b3<|.rl s.b4<|.rl s.b5<|.rl s.b6<|.rl s.b7<|.rl s.o<|.so (.exit 0) s
def Zn (s:LF):Prop:=s.i=0/\s.n=(M s.o:Y)/\s.n<=1000/\∀m∈s.o,M m.1<=1000
def Yw (s:LF):Prop:=0<=s.i/\s.i<=s.n/\s.n=(M s.o:Y)/\s.n<=1000/\∀m∈s.o,M m.1<=1000
def kX (s:LF):aC:=(s.n-s.i).toNat
def acn (x:Ex) (s s':LF):Prop:=True
def azQ:∀s,Zn s->Yw s:=by
 exact aJX
def auR:Da Yw kX acn nN:=by
 intro s hI;obtain ⟨h0,h1,h2,h3,h4⟩:=hI;refine allR_ite (λc1=>?_) λc1=>trivial
 ·have c1:s.i<s.n:=A8
  have e:=set_self (l:=s.o) (i:=s.i.toNat) (d:=Ty.dflt Ap) A0
  rw [AG (x:=s.i+1),e];exact ⟨⟨A8,A8,h2,h3,h4⟩,by simp only [kX];omega⟩
def Eb:LpD LF:=⟨0,82,[1,2,44,45],[],λs=>[.own 0 0,.own 1 0,s.n,s.i],λs=>[⟨[.os 2 11 0<|M s.b2,s.p1,s.p2,s.p3,s.p4,s.arK,s.aeN,.os 3 5 0<|M s.b3,s.p8,.os 4 1 0<|M s.b4,.os 5 2 0<|M s.b5,s.p11,.os 6 4 0<|M s.b6,.os 7 5 0<|M s.b7,.os 8 3 0<|M s.o,s.afT,s.afF,s.aiN,.xl A7 s.Ol,.xl A7 s.afE],44,.cl,X⟩,⟨[.v<|s.iQ,.v<|s.b11,.v<|s.b12,.v<|s.b13,.v<|s.b14,s.alP,s.azv,.v<|s.b17,s.b18,.v<|s.b19,.v<|s.b110,s.QD,.v<|s.af5,.v<|s.alQ,.v<|s.ag8,.v<|s.af6,.v<|s.aei,.v<|s.ag9,.v<|s.wC,.v<|s.aeh],44,.cl,X⟩,bV 62 AR s.b2,bV 87 AL s.b3,bV 5 (.int aw) s.b4,bV 90 Ae s.b5,bV 94 Al s.b6,bV 46 AL s.b7,bV 74 Ap s.o],λv b=>⟨AJ v 2,AJ v 3,AB .str b 0 1,AB AY b 0 2,AB AX b 0 3,AB AZ b 0 4,Ad b 0 5,IB b 0 6,Ad b 0 8,Ad b 0 11,AB Az b 0 15,AB Aq b 0 16,AB Au b 0 17,AB A7 b 0 18,AB A7 b 0 19,gAn<|gCe (gBk b 1) 0,gAn<|gCe (gBk b 1) 1,gAn<|gCe (gBk b 1) 2,gAn<|gCe (gBk b 1) 3,gAn<|gCe (gBk b 1) 4,Ad b 1 5,IB b 1 6,gAn<|gCe (gBk b 1) 7,Ad b 1 8,gAn<|gCe (gBk b 1) 9,gAn<|gCe (gBk b 1) 10,Ad b 1 11,gAn<|gCe (gBk b 1) 12,gAn<|gCe (gBk b 1) 13,gAn<|gCe (gBk b 1) 14,gAn<|gCe (gBk b 1) 15,gAn<|gCe (gBk b 1) 16,gAn<|gCe (gBk b 1) 17,gAn<|gCe (gBk b 1) 18,gAn<|gCe (gBk b 1) 19,AV AR b 2,AV AL b 3,AV (.int aw) b 4,AV Ae b 5,AV Al b 6,AV AL b 7,AV Ap b 8⟩,nN,λs r=> {s with i:=r.i,o:=r.o},λs=>s,λ_ s=>s,[.exit 0],Zn,Yw,kX⟩
abbrev zV:=Eb.run
abbrev akN:=Eb.exn
def aqh:Rq Yw nN:=by
 intro s hI;refine ⟨λc1=>⟨?_,?_,?_,?_,?_,A9,A9,A9,A9,A9,A9,?_,ak⟩,λc1=>⟨A9,A9,A9,A9,A9,A9,A9,ak⟩⟩
 all_goals ((obtain ⟨h0,h1,h2,h3,h4⟩:=hI;(try simp only [AU] at c1);first|omega|exact ⟨rfl,AH⟩ |exact ⟨rfl,rfl⟩ |exact E5 (h4 _<|getD_mem A0) AT))
def mL:aM:=[aLu]
def asK:Aj:=kI mL<|l0 mL
def aFJ:Eb.Ok:={}
def aDZ:Eb.Pf (acn):=⟨azQ,λs h=>rfl,auR,aqh⟩
def C2:=s1 (b:=bN f23 0) aFJ aDZ mL asK
def amK:Rs Zn akN zV (λs:LF=>s.o) (λx s' (v:aL4)=>x=.exit 0/\s'.o=v):=CM aFJ aDZ (λs hI=>by
  obtain ⟨h0,h1,h2,h3,h4⟩:=hI;refine allR_ite (λc1=>?_) λc1=>⟨rfl,rfl⟩
  have c1:s.i<s.n:=A8
  have e:=set_self (l:=s.o) (i:=s.i.toNat) (d:=Ty.dflt Ap) A0
  rw [e];exact rfl)
structure JL where
 p:PK
def Sj (s:JL):aD:=[s.p]
def Uo (s:JL):aE:=[]
def Wj (s:JL):LF:=(⟨(((M s.p.mi:Y).toNat:aC):Y),0,s.p.os,s.p.ks,s.p.gs,s.p.bs,s.p.tk,s.p.up,s.p.se,s.p.nx,s.p.me,s.p.dm,s.p.lk,s.p.dr,s.p.tg,.slice aj 0 0,.slice aj 0 0,.slice aj 0 0,.slice aj 0 0,.slice aj 0 0,0,X,.slice aj 0 0,0,.slice aj 0 0,.slice aj 0 0,0,.slice aj 0 0,.slice aj 0 0,.slice aj 0 0,.slice aj 0 0,.slice aj 0 0,.slice aj 0 0,.slice aj 0 0,.slice aj 0 0,cpy s.p.cs<|aq (M s.p.cs:Y).toNat (ByteArray.empty,((0:Y),((0:Y),((0:Y),(((0:Y),(0:Y)),((0:Y),((0:Y),((0:Y),((0:Y),(0:Y)))))))))),cpy s.p.ls<|aq (M s.p.ls:Y).toNat ((0:Y),((0:Y),((0:Y),((0:Y),(0:Y))))),cpy s.p.fl<|aq (M s.p.fl:Y).toNat (0:Y),cpy s.p.ra<|aq (M s.p.ra:Y).toNat ((0:Y),(0:Y)),cpy s.p.st<|aq (M s.p.st:Y).toNat ((0:Y),((0:Y),((0:Y),X))),cpy s.p.ca<|aq (M s.p.ca:Y).toNat ((0:Y),((0:Y),((0:Y),((0:Y),(0:Y))))),cpy s.p.mi<|aq (M s.p.mi:Y).toNat (([]:aB),((0:Y),(0:Y)))⟩:LF)
structure TL where
 p:PK
 (n7 n8 n9 n10 n11:aC)
def abW (s:TL):LV:=.agg [.os 0 11 0<|M s.p.cs,s.p.os,s.p.ks,s.p.gs,s.p.bs,s.p.tk,s.p.up,.os 1 5 0<|M s.p.ls,s.p.se,.os 2 1 0<|M s.p.fl,.os 3 2 0<|M s.p.ra,s.p.nx,.os 4 4 0<|M s.p.st,.os 5 5 0<|M s.p.ca,.os 6 3 0<|M s.p.mi,.os 7 3 0 s.n7,.os 8 4 0 s.n8,.os 9 6 0 s.n9,.os 10 1 0 s.n10,.os 11 1 0 s.n11]
def acR (s:TL):aE:=[bV 62 AR s.p.cs,bV 87 AL s.p.ls,bV 5 (.int aw) s.p.fl,bV 90 Ae s.p.ra,bV 94 Al s.p.st,bV 46 AL s.p.ca,bV 74 Ap s.p.mi,bV 66 Az s.p.me,bV 48 Aq s.p.dm,bV 99 Au s.p.lk,bV 3 A7 s.p.dr,bV 3 A7 s.p.tg]
def YY (s:JL):T TL:=letI a:=(ByteArray.empty,((0:Y),((0:Y),((0:Y),(((0:Y),(0:Y)),((0:Y),((0:Y),((0:Y),((0:Y),(0:Y))))))))));letI f:=(M s.p.cs:Y);letI g:=(M s.p.fl:Y);letI h:=(M s.p.ls:Y);letI i:=(M s.p.ra:Y);letI j:=(M s.p.st:Y);letI k:=(M s.p.ca:Y);letI l:=(M s.p.mi:Y);letI m:=(M s.p.me:Y);letI n:=(M s.p.dm:Y);letI r:=(M s.p.lk:Y);letI t:=(M s.p.dr:Y);letI u:=(M s.p.tg:Y);letI v:=(cpy s.p.fl<|aq g.toNat (0:Y));letI w:=cpy s.p.cs<|aq f.toNat a;letI x:=(X,((0:Y),((0:Y),(0:Y))));letI b:=(cpy s.p.ls<|aq h.toNat ((0:Y),((0:Y),((0:Y),((0:Y),(0:Y))))));letI c:=(cpy s.p.ca<|aq k.toNat ((0:Y),((0:Y),((0:Y),((0:Y),(0:Y))))));letI d:=(cpy s.p.st<|aq j.toNat ((0:Y),((0:Y),((0:Y),X))));letI e:=(cpy s.p.ra<|aq i.toNat ((0:Y),(0:Y)));.rm 96 f<|.rc f a (M s.p.cs)<|.rm 40 h<|.rc h ((0:Y),((0:Y),((0:Y),((0:Y),(0:Y))))) (M s.p.ls)<|.rm 1 g<|.rc g (0:Y) (M s.p.fl)<|.rm 16 i<|.rc i ((0:Y),(0:Y)) (M s.p.ra)<|.rm 32 j<|.rc j ((0:Y),((0:Y),((0:Y),X))) (M s.p.st)<|.rm 40 k<|.rc k ((0:Y),((0:Y),((0:Y),((0:Y),(0:Y))))) (M s.p.ca)<|.rm 40 l<|.rc l (([]:aB),((0:Y),(0:Y))) (M s.p.mi)<|.re f.toNat w<|.re h.toNat b<|.re g.toNat v<|.re i.toNat e<|.re j.toNat d<|.re k.toNat c<|.re l.toNat (cpy s.p.mi<|aq l.toNat (([]:aB),((0:Y),(0:Y))))<|.req (Eb.q<|Wj s)<|.rm 24 m<|.rc m ((0:Y),((0:Y),X)) (M s.p.me)<|.rm 32 n<|.rc n x (M s.p.dm)<|.rm 48 r<|.rc r ((0:Y),((0:Y),((0:Y),((0:Y),((0:Y),(0:Y)))))) (M s.p.lk)<|.rm 8 t<|.rc t (0:Y) (M s.p.dr)<|.rm 8 u<|.rc u (0:Y) (M s.p.tg)<|.ok<|⟨⟨w,s.p.os,s.p.ks,s.p.gs,s.p.bs,s.p.tk,s.p.up,b,s.p.se,v,e,s.p.nx,d,c,(zV<|Wj s).o,cpy s.p.me<|aq m.toNat ((0:Y),((0:Y),X)),cpy s.p.dm<|aq n.toNat x,cpy s.p.lk<|aq r.toNat ((0:Y),((0:Y),((0:Y),((0:Y),((0:Y),(0:Y)))))),cpy s.p.dr<|aq t.toNat (0:Y),cpy s.p.tg<|aq u.toNat (0:Y)⟩,m.toNat,n.toNat,r.toNat,t.toNat,u.toNat⟩
def NG {α:Type}{l:List α}{d:α}:cpy l (aq (M l:Y).toNat d)=l:=aBZ rfl
structure LB (p:PK):Prop where
 cs:M p.cs<=20000000
 ls:M p.ls<=20000000
 fl:M p.fl<=20000000
 ra:M p.ra<=20000000
 st:M p.st<=20000000
 ca:M p.ca<=20000000
 mi:M p.mi<=1000
 me:M p.me<=20000000
 dm:M p.dm<=20000000
 lk:M p.lk<=20000000
 dr:M p.dr<=20000000
 tg:M p.tg<=20000000
 mis:∀m∈p.mi,M m.1<=1000
def Zl (s:JL):Prop:=LB s.p
def ab1 (s:JL):TL:=⟨s.p,M s.p.me,M s.p.dm,M s.p.lk,M s.p.dr,M s.p.tg⟩
def bZ:C4 JL TL:=⟨Sj,Uo,λv b=>⟨⟨gXl AR<|gAg (v.getD 0 .junk) 0,gXl .str<|gAg (v.getD 0 .junk) 1,gXl AY<|gAg (v.getD 0 .junk) 2,gXl AX<|gAg (v.getD 0 .junk) 3,gXl AZ<|gAg (v.getD 0 .junk) 4,gI<|gAg (v.getD 0 .junk) 5,gBo<|gAg (v.getD 0 .junk) 6,gXl AL<|gAg (v.getD 0 .junk) 7,gI<|gAg (v.getD 0 .junk) 8,gXl (.int aw)<|gAg (v.getD 0 .junk) 9,gXl Ae<|gAg (v.getD 0 .junk) 10,gI<|gAg (v.getD 0 .junk) 11,gXl Al<|gAg (v.getD 0 .junk) 12,gXl AL<|gAg (v.getD 0 .junk) 13,gXl Ap<|gAg (v.getD 0 .junk) 14,gXl Az<|gAg (v.getD 0 .junk) 15,gXl Aq<|gAg (v.getD 0 .junk) 16,gXl Au<|gAg (v.getD 0 .junk) 17,gXl A7<|gAg (v.getD 0 .junk) 18,gXl A7<|gAg (v.getD 0 .junk) 19⟩⟩,Zl,[],[],abW,acR,ab1⟩
abbrev azq (s:JL):Prop:=Zl s/\Sj s=Sj s/\Uo s=Uo s
def aG5:Aj:=kI P4<|la 9 func23 C2<|l0 P4
def aLi:aL3:=addL 23 0 9 (Eb.lp)<|unrL prog AO P4 20 2
def agy:LLok prog AO aLi:=addL_ok func23 rfl AM C2<|unrL_ok<|gk P4
def arG (s:JL):((stepH prog AO P4 aLi aG5).k 23 (Sj s)<|Uo s).bind (λq=>canT (M<|Uo s) [0] [] .normal (q.1::Sj s) q.2)=(YY s).mp (λs2=>⟨.normal,M (Sj s)+1,[abW s2],acR s2,U⟩):=AM
def ao8 (s:JL) (hE:Zl s):(YY s).all (λq=>q=ab1 s):=by
 have ho:(Wj s).o=s.p.mi:=NG
 have hn:(Wj s).n=(M s.p.mi:Y):=Mz
 have hV:Zn (Wj s):=⟨rfl,A8,by rw [hn];have:=hE.mi;omega,by rw [ho];exact hE.mis⟩
 have hm:=(amK _ hV).2.trans NG
 unfold YY;simp only [NG,hm];obtain ⟨h1,h2,h3,h4,h5,h6,h7,h8,h9,h10,h11,h12,_⟩:=hE
 repeat (refine ⟨by first|omega|exact ⟨AH,AH⟩ |exact ⟨rfl,AH⟩ |exact ⟨hV,rfl,rfl⟩,?_⟩)
 rfl
def ald:CSound prog AO 23 bZ.m:=C4.sound (D:=bZ) (t:=YY) (gk P4) agy aG5.h arG λs hE=>⟨ao8 s hE⟩
def atw:CSound prog AO 23 (H8 λa=>bZ.m a []):=wW ald
structure EW where
 (ek en em c1 c2 c3 c4 c5:Y)
 d1:aL
 (d2 d3 d4:Y)
instance:Coe EW Value:=⟨λe=> .agg #[ag J e.ek,ag J e.en,ag J e.em,ag J e.c1,ag J e.c2,ag J e.c3,ag J e.c4,ag J e.c5,.bool e.d1,ag J e.d2,ag J e.d3,ag J e.d4]⟩
instance:Coe EW LV:=⟨λe=> .v<|.agg #[ag J e.ek,ag J e.en,ag J e.em,ag J e.c1,ag J e.c2,ag J e.c3,ag J e.c4,ag J e.c5,.bool e.d1,ag J e.d2,ag J e.d3,ag J e.d4]⟩
def EW.c (e:EW):Ca:=(e.c1,e.c2,e.c3,e.c4,e.c5)
def EW.d (e:EW):Dm:=(e.d1,e.d2,e.d3,e.d4)
def EW.ev (e:EW):EV:=⟨e.ek,e.en,e.em,e.c,e.d⟩
def VF:LV->Option EW
 | .v (.agg ⟨[ag J ek,ag J en,ag J em,ag J c1,ag J c2,ag J c3,ag J c4,ag J c5,.bool d1,ag J d2,ag J d3,ag J d4]⟩)=>ah ⟨ek,en,em,c1,c2,c3,c4,c5,d1,d2,d3,d4⟩
 |_=>aj
def aBW {x:LV}{ev:EW}(h:VF x=ah ev):x=(ev):=by
 unfold VF at h;exact rL
def zB:bx:=⟨[.v<|.slice aj 0 0,.v<|.slice aj 0 0,.v<|.slice aj 0 0,.v<|.slice aj 0 0,.v<|.slice aj 0 0,.v<|ag J 0,.v<|.bool X,.v<|.slice aj 0 0,.v<|ag J 0,.v<|.slice aj 0 0,.v<|.slice aj 0 0,.v<|ag J 0,.v<|.slice aj 0 0,.v<|.slice aj 0 0,.v<|.slice aj 0 0,.v<|.slice aj 0 0,.v<|.slice aj 0 0,.v<|.slice aj 0 0,.v<|.slice aj 0 0,.v<|.slice aj 0 0],44,.cl,X⟩
def eB (e:EW):bx:=⟨[.v<|ag J e.ek,.v<|ag J e.en,.v<|ag J e.em,.v<|ag J e.c1,.v<|ag J e.c2,.v<|ag J e.c3,.v<|ag J e.c4,.v<|ag J e.c5,.v<|.bool e.d1,.v<|ag J e.d2,.v<|ag J e.d3,.v<|ag J e.d4],68,.cl,X⟩
def rE (b:aE) (i q:aC):EW:=letI a:=gBk b q;⟨gI<|gCe a<|i+0,gI<|gCe a<|i+1,gI<|gCe a<|i+2,gI<|gCe a<|i+3,gI<|gCe a<|i+4,gI<|gCe a<|i+5,gI<|gCe a<|i+6,gI<|gCe a<|i+7,gBo<|gCe a<|i+8,gI<|gCe a<|i+9,gI<|gCe a<|i+10,gI<|gCe a<|i+11⟩
def rG (b:aE):EW:=rE b 20 16
structure Ik where
 (i k0 k1 k2:Y)
 p:PK
 ev:EW
def Sf (s:Ik):aD:=[.own 16 0,s.i,.v<|.agg #[s.k0,s.k1,s.k2]]
def Ul (s:Ik):aE:=[bDd,bDd,zB,bDd,bV 62 AR s.p.cs,bV 87 AL s.p.ls,bV 5 (.int aw) s.p.fl,bV 90 Ae s.p.ra,bV 94 Al s.p.st,bV 46 AL s.p.ca,bV 74 Ap s.p.mi,bV 66 Az s.p.me,bV 48 Aq s.p.dm,bV 99 Au s.p.lk,bV 3 A7 s.p.dr,bV 3 A7 s.p.tg,⟨[.os 4 11 0<|M s.p.cs,.xl .str s.p.os,.xl AY s.p.ks,.xl AX s.p.gs,.xl AZ s.p.bs,.v<|ag J s.p.tk,.v<|.bool s.p.up,.os 5 5 0<|M s.p.ls,.v<|ag J s.p.se,.os 6 1 0<|M s.p.fl,.os 7 2 0<|M s.p.ra,.v<|ag J s.p.nx,.os 8 4 0<|M s.p.st,.os 9 5 0<|M s.p.ca,.os 10 3 0<|M s.p.mi,.os 11 3 0<|M s.p.me,.os 12 4 0<|M s.p.dm,.os 13 6 0<|M s.p.lk,.os 14 1 0<|M s.p.dr,.os 15 1 0<|M s.p.tg,.v<|ag J s.ev.ek,.v<|ag J s.ev.en,.v<|ag J s.ev.em,.v<|ag J s.ev.c1,.v<|ag J s.ev.c2,.v<|ag J s.ev.c3,.v<|ag J s.ev.c4,.v<|ag J s.ev.c5,.v<|.bool s.ev.d1,.v<|ag J s.ev.d2,.v<|ag J s.ev.d3,.v<|ag J s.ev.d4,.v<|.slice aj 0 0],83,.cl,X⟩]
structure Tq where
 res:Y
 p:PK
 ev:EW
def abT (s:Tq):LV:=.v<|ag J s.res
def acO (s:Tq):aE:=[bDd,bDd,zB,bDd,bV 62 AR s.p.cs,bV 87 AL s.p.ls,bV 5 (.int aw) s.p.fl,bV 90 Ae s.p.ra,bV 94 Al s.p.st,bV 46 AL s.p.ca,bV 74 Ap s.p.mi,bV 66 Az s.p.me,bV 48 Aq s.p.dm,bV 99 Au s.p.lk,bV 3 A7 s.p.dr,bV 3 A7 s.p.tg,⟨[.os 4 11 0<|M s.p.cs,.xl .str s.p.os,.xl AY s.p.ks,.xl AX s.p.gs,.xl AZ s.p.bs,.v<|ag J s.p.tk,.v<|.bool s.p.up,.os 5 5 0<|M s.p.ls,.v<|ag J s.p.se,.os 6 1 0<|M s.p.fl,.os 7 2 0<|M s.p.ra,.v<|ag J s.p.nx,.os 8 4 0<|M s.p.st,.os 9 5 0<|M s.p.ca,.os 10 3 0<|M s.p.mi,.os 11 3 0<|M s.p.me,.os 12 4 0<|M s.p.dm,.os 13 6 0<|M s.p.lk,.os 14 1 0<|M s.p.dr,.os 15 1 0<|M s.p.tg,.v<|ag J s.ev.ek,.v<|ag J s.ev.en,.v<|ag J s.ev.em,.v<|ag J s.ev.c1,.v<|ag J s.ev.c2,.v<|ag J s.ev.c3,.v<|ag J s.ev.c4,.v<|ag J s.ev.c5,.v<|.bool s.ev.d1,.v<|ag J s.ev.d2,.v<|ag J s.ev.d3,.v<|ag J s.ev.d4,.v<|.slice aj 0 0],83,.cl,X⟩]
def oD (s:Ik):T Tq:=letI c:=s.p.st.getD s.i.toNat<|Ty.dflt Al;letI d:=M s.p.st;letI a:=sE (AF s.p.gs s.i) c s.k0 s.k1 s.k2;letI b:=sN (AF s.p.gs s.i) c s.k0 s.k1 s.k2;.ix s.i (M s.p.gs)<|.ik s.i d<|.br (a==0) (.ik s.i d<|.pa s.p<|.re d (s.p.st.set s.i.toNat b)<|.rl s.p.ca<|.rl s.p.mi<|.rl s.p.me<|.rl s.p.dm<|.rl s.p.lk<|.rl s.p.dr<|.rl s.p.tg<|.ok<|⟨a,{s.p with st:=s.p.st.set s.i.toNat b},s.ev⟩)<|.pc s.p<|.ok<|⟨a,s.p,s.ev⟩
def uK (s:Ik):Prop:=0<=s.i/\s.i<(M s.p.gs:Y)/\M s.p.st=M s.p.gs
def YT (s:Ik):Tq:=⟨sE (AF s.p.gs s.i) (BI s.p.st s.i) s.k0 s.k1 s.k2,{s.p with st:=C6 s.p.gs s.p.st s.i s.k0 s.k1 s.k2},s.ev⟩
def uo:C4 Ik Tq:=⟨Sf,Ul,λv b=>⟨AJ v 1,gI<|gAg (v.getD 2 .junk) 0,gI<|gAg (v.getD 2 .junk) 1,gI<|gAg (v.getD 2 .junk) 2,rF b,rG b⟩,uK,[0,1,3],[],abT,acO,YT⟩
abbrev mP (s:Ik):Prop:=uK s/\Sf s=Sf s/\Ul s=Ul s
def XD:aM:=[P6]
def aLf:aL3:=addL 23 0 9 (Eb.lp)<|unrL prog AO (XD) 20 2
def agv:LLok prog AO aLf:=addL_ok func23 rfl AM C2<|unrL_ok<|gk XD
def arC (s:Ik):((stepH prog AO XD aLf noK).k 49 (Sf s)<|Ul s).bind (λq=>canT (M<|Ul s) [0] [] .normal (q.1::Sf s) q.2)=(oD s).mp (λs2=>⟨.normal,M (Sf s)+1,[abT s2],acO s2,U⟩):=AM
def ao5 (s:Ik) (hE:uK s):(oD s).all (λq=>q=YT s):=by
 obtain ⟨h0,h1,h2⟩:=hE;refine ⟨A0,A0,A0,λc=>?_,λc=>?_⟩
 ·have c:=eq_of_beq c
  have hg:C6 s.p.gs s.p.st s.i s.k0 s.k1 s.k2=_:=AD c
  repeat (refine ⟨A8,?_⟩)
  unfold YT;rw [hg];rfl
 ·have c:=Bt.1 c
  have hg:C6 s.p.gs s.p.st s.i s.k0 s.k1 s.k2=s.p.st:=AE c
  repeat (refine ⟨AH,?_⟩)
  unfold YT;rw [hg];rfl
def atu:CSound prog AO 49 uo.m:=C4.sound (D:=uo) (t:=oD) (gk XD) agv noK_sound arC λs hE=>⟨ao5 s hE⟩
structure JV where
 (n i:Y)
 p:PK
 ev:EW
 left:aLZ
def nz (s:JV):T (Rd JV):=letI a:=s.p.lk.getD s.i.toNat<|Ty.dflt Au;.br (an<|s.i<s.n) (.ik s.i (M s.p.lk)<|.br (a.2.2.1 !=s.ev.en) (.rb (M s.left) (M<|[a]) 48<|.re (M s.left+M ([a])) (s.left++([a]))<|.rl s.p.lk<|.pc s.p<|.nx {s with i:=AA<|s.i+1,left:=s.left++([a])})<|.rl s.left<|.rl s.p.lk<|.pc s.p<|.nx {s with i:=AA<|s.i+1})<|.rl s.left<|.rl s.p.lk<|.pc s.p<|.so (.exit 0) s
def ZV (s:JV):Prop:=s.i=0/\s.n=(M s.p.lk:Y)/\s.n<=20000000/\(M s.left:Y)<=s.i
def ZE (s:JV):Prop:=0<=s.i/\s.i<=s.n/\s.n=(M s.p.lk:Y)/\s.n<=20000000/\(M s.left:Y)<=s.i
def XH (s:JV):aC:=(s.n-s.i).toNat
def acY (x:Ex) (s s':JV):Prop:=True
def ay2:∀s,ZV s->ZE s:=by
 rintro s ⟨h0,h2,h3,h4⟩
 exact qm
def asU:Da ZE XH acY nz:=by
 intro s hI;obtain ⟨h0,h1,h2,h3,h4⟩:=hI;refine allR_ite (λc1=>allR_ite (λc2=>?_) λc2=>?_) λc1=>trivial
 all_goals have c1:s.i<s.n:=AQ
 all_goals rw [AG (x:=s.i+1)]
 ·exact ⟨⟨AP,AP,h2,h3,A8⟩,by simp only [XH];omega⟩
 ·exact ⟨⟨A8,A8,h2,h3,AP⟩,by simp only [XH];omega⟩
def Hw:LpD JV:=⟨18,30,[0,1,4,11,12,13],[.nl 4 99 Au],λs=>[.own 16 0,.fn 51 [.own 17 0],.os 18 6 0<|M s.left,.os 13 6 0<|M s.p.lk,s.n,s.i],λs=>[bDd,bDd,zB,bDd,bV 62 AR s.p.cs,bV 87 AL s.p.ls,bV 5 (.int aw) s.p.fl,bV 90 Ae s.p.ra,bV 94 Al s.p.st,bV 46 AL s.p.ca,bV 74 Ap s.p.mi,bV 66 Az s.p.me,bV 48 Aq s.p.dm,bV 99 Au s.p.lk,bV 3 A7 s.p.dr,bV 3 A7 s.p.tg,⟨[.os 4 11 0<|M s.p.cs,.xl .str s.p.os,.xl AY s.p.ks,.xl AX s.p.gs,.xl AZ s.p.bs,.v<|ag J s.p.tk,.v<|.bool s.p.up,.os 5 5 0<|M s.p.ls,.v<|ag J s.p.se,.os 6 1 0<|M s.p.fl,.os 7 2 0<|M s.p.ra,.v<|ag J s.p.nx,.os 8 4 0<|M s.p.st,.os 9 5 0<|M s.p.ca,.os 10 3 0<|M s.p.mi,.os 11 3 0<|M s.p.me,.os 12 4 0<|M s.p.dm,.os 13 6 0<|M s.p.lk,.os 14 1 0<|M s.p.dr,.os 15 1 0<|M s.p.tg,.v<|ag J s.ev.ek,.v<|ag J s.ev.en,.v<|ag J s.ev.em,.v<|ag J s.ev.c1,.v<|ag J s.ev.c2,.v<|ag J s.ev.c3,.v<|ag J s.ev.c4,.v<|ag J s.ev.c5,.v<|.bool s.ev.d1,.v<|ag J s.ev.d2,.v<|ag J s.ev.d3,.v<|ag J s.ev.d4,.v<|.slice aj 0 0],83,.cl,X⟩,⟨[.own 16 0],78,.cl,X⟩,bV 99 Au s.left],λv b=>⟨AJ v 4,AJ v 5,rF b,rG b,AV Au b 18⟩,nz,λs r=> {s with i:=r.i,left:=r.left},λs=>s,λ_ s=>s,[.exit 0],ZV,ZE,XH⟩
abbrev ads:=Hw.run
abbrev ako:=Hw.exn
def mK:aM:=[S7]
def asJ:Aj:=kI mK<|la 9 func23 C2<|l0 mK
def aon:Rq ZE nz:=by
 intro s hI;refine ⟨λc1=>⟨?_,?_,λc2=>⟨?_,?_,A9,A9,A9,A9,A9,A9,A9,A9,A9,A9,A9,A9,A9,ak⟩,λc2=>⟨A9,A9,A9,A9,A9,A9,A9,A9,A9,A9,A9,A9,A9,A9,ak⟩⟩,λc1=>⟨A9,A9,A9,A9,A9,A9,A9,A9,A9,A9,A9,A9,A9,A9,ak⟩⟩
 all_goals ((obtain ⟨h0,h1,h2,h3,h4⟩:=hI;(try simp only [AU] at c1);first|omega|exact ⟨rfl,rfl⟩ |(simp only [BB,BG,Av];omega) |(simp only [Av,BB,BG,DR];done)))
def aEV:Hw.Ok:={}
def aDu:Hw.Pf (acY):=⟨ay2,λs h=>rfl,asU,aon⟩
def Hg:=s2 (b:=bN f50 0) aEV aDu mK asJ
def afo {l:aLZ}{i:Y}(h0:0<=i) (h:i<M l):l.drop i.toNat=l.getD i.toNat (Ty.dflt Au)::l.drop (i+1).toNat:=by
 rw [QR A0,DC,Cs A0,show (i+1).toNat=i.toNat+1 by omega]
 rfl
def ajq:Rs ZV ako ads (λs:JV=>s.left++(s.p.lk.drop s.i.toNat).filter (λl=>l.2.2.1 !=s.ev.en)) (λx s' (v:aLZ)=>x=.exit 0/\s'.left=v):=CM aEV aDu (λs hI=>by
  obtain ⟨h0,h1,h2,h3,h4⟩:=hI;refine allR_ite (λc1=>?_) λc1=>?_
  ·have c1:s.i<s.n:=A8
   rw [AG (x:=s.i+1),afo h0 A0];refine allR_ite (λc2=>?_) λc2=>?_
   ·show _++[_]++_=_++_
    rw [Ml,AD c2,DQ];rfl
   ·show _++_=_++_
    grind
  ·have c1:s.n<=s.i:=A8
   refine ⟨rfl,?_⟩;rw [DD A0]
   simp)
structure VP (p:PK):Prop where
 site:B0 p.cs p.os p.ks p.gs p.bs=U
 tk:0<=p.tk/\p.tk<=1000000
 st:M p.st=M p.gs
 ca:M p.ca=M p.gs
 mi:M p.mi=M p.gs
 me:M p.me=M p.gs
 dm:M p.dm=M p.gs
 dr:M p.dr=M p.gs
 Ew:M p.tg=M p.cs
 tg:∀k:aC,k<M p.tg->1<=gi p.tg k/\gi p.tg k<=(Aa p.cs k).2.2.1
 dr8:p.dr.all (λx=>inB x (-200) 200)=U
 lk:∀l∈p.lk,0<=l.2.2.1/\l.2.2.1<(M p.gs:Y)
def ff {p:PK}:CW p=U↔VP p:=by
 unfold CW;simp only [AS,AU,C1,Cm]
 constructor
 ·rintro ⟨⟨h1,h2⟩,⟨h3,h4,h5,h6,h7,h8⟩,h9,h10,h11,h12⟩
  exact ⟨h1,h2,h3,h4,h5,h6,h7,h8,h9,λk hk=>h10 k A0,h11,λl hl=>by have:=B7.1 h12 l hl;rw [C1] at this;omega⟩
 ·intro h
  refine ⟨⟨h.site,h.tk⟩,⟨h.st,h.ca,h.mi,h.me,h.dm,h.dr⟩,h.Ew,λk hk=>h.tg k A0,h.dr8,B7.2 λl hl=>C1.2 ?_⟩
  have:=h.lk l hl
  omega
def Ib {gs:aG}{st:bf}{i k n m:Y}:M (C6 gs st i k n m)=M st:=by
 unfold C6
 grind
def wU {gs:aG}{lk:aLZ}{t:Y}{st:bf}:∀k,M (Mb gs lk t st k)=M st
 |0=>rfl
 |k+1=>by
  unfold Mb;split
  ·exact wU k
  ·rw [Ib];exact wU k
def wv {gs:aG}{st:bf}{i:Y}:∀k,M (No gs st i k)=M st
 |0=>rfl
 |k+1=>by unfold No;rw [Ib];exact wv k
def wZ {gs:aG}{dr:aB}{t:Y}{st:bf}:∀k,M (Nu gs dr t st k)=M st
 |0=>rfl
 |k+1=>by
  unfold Nu;split
  ·rw [wv];exact wZ k
  ·exact wZ k
def amF {gs:aG}{ca:aMc}{s:DW}{i:Y}:letI a:=I3 gs ca s i;M a.st=M s.st/\M a.mi=M s.mi/\M a.me=M s.me/\M a.dw=M s.dw:=by
 unfold I3;split
 ·grind
 ·split
  ·refine ⟨?_,AH,?_,AH⟩
   ·simp only;split
    ·exact Ib
    ·rfl
   ·grind
  ·grind
def ic {gs:aG}{ca:aMc}{s:DW}:∀k,M (Gr gs ca s k).st=M s.st/\M (Gr gs ca s k).mi=M s.mi/\M (Gr gs ca s k).me=M s.me/\M (Gr gs ca s k).dw=M s.dw
 |0=>⟨rfl,rfl,rfl,rfl⟩
 |k+1=>by
  obtain ⟨h1,h2,h3,h4⟩:=ic (gs:=gs) (ca:=ca) (s:=s) k;obtain ⟨g1,g2,g3,g4⟩:=amF (gs:=gs) (ca:=ca) (s:=Gr gs ca s k) (i:=(k:Y));unfold Gr
  grind
def ln {cs:aK}{os:aF}{ks:aP}{gs:aG}{bs:aQ}(h:B0 cs os ks gs bs=U) {k:aC}(hk:k<M cs):1<=(Aa cs k).2.2.1/\(Aa cs k).2.2.1<=1000:=by
 have:=wR h (c:=(k:Y)) A0 A0
 unfold Fe at this;simp only [AS,C1] at this
 grind
def Oj {gs:aG}{tg am:aB}{cs:aK}:∀n,M (DH gs tg am cs n)=M cs
 |0=>rfl
 | n+1=>by
  unfold DH;split
  ·exact Oj n
  ·split
   ·rw [BR];exact Oj n
   ·exact Oj n
def iM {gs:aG}{tg am:aB}{cs:aK}:∀n,n<=M cs->∀j:aC,(Aa (DH gs tg am cs n) j=Aa cs j\/(j<n/\gi tg j<(Aa cs j).2.2.1/\Aa (DH gs tg am cs n) j=G3 (Aa cs j) (gi tg j)))/\(n<=j->Aa (DH gs tg am cs n) j=Aa cs j)
 |0,_,j=>⟨.inl rfl,λ_=>rfl⟩
 | n +1,hn,j=>by
  obtain ⟨h1,h2⟩:=iM (gs:=gs) (tg:=tg) (am:=am) (cs:=cs) n A0 j
  have hl:n<M (DH gs tg am cs n):=by rw [Oj];omega
  unfold DH;split
  ·grind
  ·rename_i hlt
   split
   ·rw [iT hl]
    by_cases e:j=n
    ·subst e
     grind
    ·rw [AE e]
     grind
   ·grind
def ae7 {gs:aG}{tg am:aB}{cs:aK}{os:aF}{ks:aP}{bs:aQ}(h:B0 cs os ks gs bs=U) (ht:∀k:aC,k<M cs->1<=gi tg k/\gi tg k<=1000):∀n,n<=M cs->B0 (DH gs tg am cs n) os ks gs bs=U
 |0,_=>h
 | n+1,hn=>by
  have h1:=ae7 (am:=am) h ht n A0
  unfold DH;split
  ·exact h1
  ·split
   ·exact fU h1 (by rw [Oj];omega)<|ht n A0
   ·exact h1
def vp {cs:aK}{tg:aB}:∀n,M (El cs tg n)=M cs
 |0=>rfl
 |n+1=>by unfold El;rw [BR];exact vp n
def aeF {tg:aB}{cs:aK}{os:aF}{ks:aP}{gs:aG}{bs:aQ}(h:B0 cs os ks gs bs=U) (ht:∀k:aC,k<M cs->1<=gi tg k/\gi tg k<=1000):∀n,n<=M cs->B0 (El cs tg n) os ks gs bs=U
 |0,_=>h
 |n+1,hn=>by
  exact fU (aeF h ht n A0) (by rw [vp];omega)<|ht n A0
def aGe {p:PK}:∀x∈p.dL,0<=x.2.1/\x.2.1<(M p.gs:Y):=by
 intro x hx;unfold PK.dL Iy at hx;split at hx
 ·obtain ⟨k,hk,rfl⟩:=GB.1 hx
  have:=(aGd (gs:=p.gs) (l:=G2 p.ls p.tk) (t:=p.tk) (n:=p.nx) (am:=Iw p.gs p.ra (ofL p.Fh p.os p.ks p.gs p.bs (G2 p.ls p.tk) p.dm p.tk)<|M p.gs)<|Ar _).1.at_ (k:Y) A0 A0
  rw [Ri A8] at this
  grind
 ·cases hx
def aiU {t:Y}{s:SN}{x:Le}:(HG t s x).lk=s.lk\/(HG t s x).lk=s.lk++[Yn t x]:=by
 unfold HG;exact Vl
def zf {t:Y}{xs:aN}{s:SN}:∀n,n<=M xs->(∀l∈(Jo t xs s n).lk,l∈s.lk\/∃x∈xs,l=Yn t x)/\M (Jo t xs s n).lk<=M s.lk+n
 |0,_=>⟨λl hl=> .inl hl,Ar _⟩
 | n+1,hn=>by
  obtain ⟨h1,h2⟩:=zf (t:=t) (xs:=xs) (s:=s) n A0;unfold Jo;rcases aiU (t:=t) (s:=Jo t xs s n) (x:=An xs n) with e|e<;>rw [e]
  ·grind
  ·refine ⟨λl hl=>?_,A8⟩
   rw [BN,IM] at hl;rcases hl with hl|rfl
   ·grind
   ·exact .inr ⟨_,NA A0 A0,rfl⟩
def alU {p:PK}(h:∀l∈p.lk,0<=l.2.2.1/\l.2.2.1<(M p.gs:Y)):∀l∈p.AK.lk,0<=l.2.2.1/\l.2.2.1<(M p.gs:Y):=by
 unfold PK.AK;split
 ·exact h
 ·split
  ·exact h
  ·intro l hl
   rcases (zf (t:=p.tk) (xs:=p.dL) (s:=p.Gf) _<|Ar _).1 l hl with e|⟨x,hx,rfl⟩
   ·exact h l e
   ·exact aGe x hx
def OY (p:PK):p.AK.cs=p.cs/\p.AK.os=p.os/\p.AK.ks=p.ks/\p.AK.gs=p.gs/\p.AK.bs=p.bs/\p.AK.tk=p.tk/\p.AK.up=p.up/\p.AK.st=p.st/\p.AK.ca=p.ca/\p.AK.mi=p.mi/\p.AK.me=p.me/\p.AK.dm=p.dm/\p.AK.dr=p.dr/\p.AK.tg=p.tg:=by
 unfold PK.AK;exact Vl
def VP.dec {p:PK}(h:VP p):VP p.AK:=by
 obtain ⟨e1,e2,e3,e4,e5,e6,e7,e8,e9,e10,e11,e12,e13,e14⟩:=OY p;refine ⟨?_,?_,?_,?_,?_,?_,?_,?_,?_,?_,?_,?_⟩
 ·rw [e1,e2,e3,e4,e5];exact h.site
 ·rw [e6];exact h.tk
 ·rw [e8,e4];exact h.st
 ·rw [e9,e4];exact h.ca
 ·rw [e10,e4];exact h.mi
 ·rw [e11,e4];exact h.me
 ·rw [e12,e4];exact h.dm
 ·rw [e13,e4];exact h.dr
 ·rw [e14,e1];exact h.Ew
 ·rw [e14,e1];exact h.tg
 ·rw [e13];exact h.dr8
 ·rw [e4];exact alU h.lk
def VP.arr {p:PK}(h:VP p):VP p.LM:={h with st:=(wU _).trans h.st,lk:=λl hl=>h.lk l<|(Fs.1 hl).1}
def VP.cnt {p:PK}(h:VP p):VP p.VG:={h with st:=(wZ _).trans h.st}
def VP.drw {p:PK}(h:VP p):VP p.CX:=
 have hl:=ic (gs:=p.gs) (ca:=p.ca) (s:=⟨p.st,p.mi,p.me,aq (M p.gs) 0⟩)<|M p.gs
 {h with st:=hl.1.trans h.st,mi:=hl.2.1.trans h.mi,me:=hl.2.2.1.trans h.me}
def VP.tg1 {p:PK}(h:VP p):∀k:aC,k<M p.cs->1<=gi p.tg k/\gi p.tg k<=1000:=λk hk=>by
 have:=h.tg k (by rw [h.Ew];omega)
 have:=ln h.site hk
 omega
def VP.rst {p:PK}(h:VP p):VP p.HJ:=by
 have hs:B0 p.HJ.cs p.os p.ks p.gs p.bs=true:=by
  unfold PK.HJ;split
  ·exact h.site
  ·rw [h.Ew];exact ae7 h.site h.tg1 _<|Ar _
 have hl:M p.HJ.cs=M p.cs:=by
  unfold PK.HJ;split
  ·rfl
  ·exact Oj _
 refine {h with site:=hs,Ew:=h.Ew.trans hl.symm,tg:=λk hk=>?_}
 have ht:=h.tg k hk
 refine ⟨ht.1,?_⟩;unfold PK.HJ;split
 ·exact ht.2
 ·rcases (iM (gs:=p.gs) (tg:=p.tg) (am:=p.rsA) (cs:=p.cs) (M p.tg) (by rw [h.Ew];omega) k).1 with e|⟨_,_,e⟩<;>rw [e]
  ·exact ht.2
  ·exact GF _
def VP.tick {p:PK}(h:VP p) (ht:p.tk≠1000000):VP p.GY:=by
 have h5:=h.dec.arr.cnt.drw.rst
 have et:p.B2.CX.HJ.tk=p.tk:=(OY p).2.2.2.2.2.1
 have:=h.tk
 exact {h5 with tk:=by show 0<=p.B2.CX.HJ.tk+1/\p.B2.CX.HJ.tk+1<=1000000;omega}
def afD {p:PK}{n:Y}:M (p.oQ n)=M p.st:=by
 unfold PK.oQ;rw [Ib,Ib,Ib,Ib]
def VP.step {p:PK}(h:VP p) {e:EV}(he:BJ p e=0):VP (Ay p e):=by
 unfold Ay;rw [AE A0];unfold BJ at he;rw [AE (by rw [ff.2 h];decide)] at he
 split
 ·rename_i h1
  rw [AD h1] at he;unfold PK.HB at he;exact h.tick (λhh=>by rw [AD hh] at he;omega)
 rename_i h1;rw [AE h1] at he;split
 ·exact {h with ca:=by simp only [PK.L6,BR];exact h.ca,mi:=by simp only [PK.L6,BR];exact h.mi,dm:=by simp only [PK.L6,BR];exact h.dm,st:=afD.trans h.st}
 rename_i h2;rw [AE h2] at he;split
 ·exact {h with ca:=by simp only [PK.NL,BR];exact h.ca,mi:=by simp only [PK.NL,BR];exact h.mi,dm:=by simp only [PK.NL,BR];exact h.dm,st:=by simp only [PK.NL,Ib];exact h.st}
 rename_i h3;rw [AE h3] at he;split
 ·exact {h with lk:=λl hl=>h.lk l<|(Fs.1 hl).1}
 rename_i h4;rw [AE h4] at he;split
 ·exact {h with}
 rename_i h5;rw [AE h5] at he;split
 ·exact {h with}
 rename_i h6;rw [AE h6] at he;split
 ·exact {h with st:=Ib.trans h.st}
 rename_i h7;rw [AE h7] at he;split at he
 ·unfold PK.Ge at he
  split at he
  ·cases he
  ·rename_i hb
   simp only [C5,C8,not_or,cI,C1] at hb;obtain ⟨⟨n0,n1⟩,m0,m1⟩:=hb;refine {h with Ew:=by simp only [PK.Jq,BR];exact h.Ew,tg:=λk hk=>?_}
   have hk':k<M p.tg:=by simpa only [PK.Jq,BR] using hk
   have ht:=h.tg k hk'
   show 1<=gi (p.tg.set e.en.toNat e.em) k/\gi (p.tg.set e.en.toNat e.em) k<=(Aa p.cs k).2.2.1
   unfold gi at ht|-;rw [DC,Fm]
   by_cases ek:e.en.toNat=(k:Y).toNat
   ·rw [AD ek,AD (by rw [Bs] at ek;omega)]
    rw [Bs] at ek
    have:e.en=(k:Y):=A0
    rw [<-this];exact ⟨m0,m1⟩
   ·rw [AE ek,<-DC]
    exact ht
 ·cases he
def Gm (e:Y) (a b:PK):PK:=if e=0 then a else b
def Ig {e:Y}{a b:PK}(h:e=0):Gm e a b=a:=AD h
def H7 {e:Y}{a b:PK}(h:e≠0):Gm e a b=b:=AE h
def Oy {α:Type}(l:List α):(l.drop 0).take (M l)=l:=AH
def gR {l:aG}(h:M l<=1000):AA ((M l:Y)-1)=(M l:Y)-1:=AG
structure Ky where
 p:PK
 ev:EW
def Sc (s:Ky):aD:=[.own 16 0]
def V9 (s:Ky):aE:=[bDd,bDd,zB,bDd,bV 62 AR s.p.cs,bV 87 AL s.p.ls,bV 5 (.int aw) s.p.fl,bV 90 Ae s.p.ra,bV 94 Al s.p.st,bV 46 AL s.p.ca,bV 74 Ap s.p.mi,bV 66 Az s.p.me,bV 48 Aq s.p.dm,bV 99 Au s.p.lk,bV 3 A7 s.p.dr,bV 3 A7 s.p.tg,⟨[.os 4 11 0<|M s.p.cs,.xl .str s.p.os,.xl AY s.p.ks,.xl AX s.p.gs,.xl AZ s.p.bs,.v<|ag J s.p.tk,.v<|.bool s.p.up,.os 5 5 0<|M s.p.ls,.v<|ag J s.p.se,.os 6 1 0<|M s.p.fl,.os 7 2 0<|M s.p.ra,.v<|ag J s.p.nx,.os 8 4 0<|M s.p.st,.os 9 5 0<|M s.p.ca,.os 10 3 0<|M s.p.mi,.os 11 3 0<|M s.p.me,.os 12 4 0<|M s.p.dm,.os 13 6 0<|M s.p.lk,.os 14 1 0<|M s.p.dr,.os 15 1 0<|M s.p.tg,.v<|ag J s.ev.ek,.v<|ag J s.ev.en,.v<|ag J s.ev.em,.v<|ag J s.ev.c1,.v<|ag J s.ev.c2,.v<|ag J s.ev.c3,.v<|ag J s.ev.c4,.v<|ag J s.ev.c5,.v<|.bool s.ev.d1,.v<|ag J s.ev.d2,.v<|ag J s.ev.d3,.v<|ag J s.ev.d4,.v<|.slice aj 0 0],83,.cl,X⟩]
structure Tn where
 res:Y
 p:PK
 ev:EW
def abQ (s:Tn):LV:=.v<|ag J s.res
def acC (s:Tn):aE:=[bDd,bDd,zB,bDd,bV 62 AR s.p.cs,bDd,bV 5 (.int aw) s.p.fl,bV 90 Ae s.p.ra,bV 94 Al s.p.st,bV 46 AL s.p.ca,bV 74 Ap s.p.mi,bV 66 Az s.p.me,bV 48 Aq s.p.dm,bV 99 Au s.p.lk,bV 3 A7 s.p.dr,bV 3 A7 s.p.tg,⟨[.os 4 11 0<|M s.p.cs,.xl .str s.p.os,.xl AY s.p.ks,.xl AX s.p.gs,.xl AZ s.p.bs,.v<|ag J s.p.tk,.v<|.bool s.p.up,.xl AL s.p.ls,.v<|ag J s.p.se,.os 6 1 0<|M s.p.fl,.os 7 2 0<|M s.p.ra,.v<|ag J s.p.nx,.os 8 4 0<|M s.p.st,.os 9 5 0<|M s.p.ca,.os 10 3 0<|M s.p.mi,.os 11 3 0<|M s.p.me,.os 12 4 0<|M s.p.dm,.os 13 6 0<|M s.p.lk,.os 14 1 0<|M s.p.dr,.os 15 1 0<|M s.p.tg,.v<|ag J s.ev.ek,.v<|ag J s.ev.en,.v<|ag J s.ev.em,.v<|ag J s.ev.c1,.v<|ag J s.ev.c2,.v<|ag J s.ev.c3,.v<|ag J s.ev.c4,.v<|ag J s.ev.c5,.v<|.bool s.ev.d1,.v<|ag J s.ev.d2,.v<|ag J s.ev.d3,.v<|ag J s.ev.d4,.v<|.slice aj 0 0],83,.cl,X⟩]
def oC (s:Ky):T Tn:=
 .br (!s.p.up) (.rz s.p.ls<|.rl s.p.cs<|.rl s.p.fl<|.rl s.p.ra<|.pb s.p<|.ok<|⟨6,{s.p with ls:=(s.p.ls.drop 0).take<|M s.p.ls},s.ev⟩) (.rl s.p.cs<|.rl s.p.fl<|.rl s.p.ra<|.pb s.p<|.ok<|⟨0,{s.p with up:=X,ls:=([]:aN)},s.ev⟩)
def uH (s:Ky):Prop:=True
def YS (s:Ky):Tn:=⟨PK.JX s.p,Gm (PK.JX s.p) (PK.NU s.p) s.p,s.ev⟩
def vB:C4 Ky Tn:=⟨Sc,V9,λv b=>⟨rF b,rG b⟩,uH,[0,1,3],[.pc 16 7 AL,.kb 5],abQ,acC,YS⟩
abbrev auv (s:Ky):Prop:=uH s/\Sc s=Sc s/\V9 s=V9 s
def XC:aM:=[]
def aLc:aL3:=addL 50 18 2 (Hw.lp)<|addL 23 0 9 (Eb.lp)<|unrL prog AO (XC) 20 2
def ags:LLok prog AO aLc:=addL_ok func50 rfl AM Hg<|addL_ok func23 rfl AM C2<|unrL_ok<|gk XC
def ar7 (s:Ky):((stepH prog AO XC aLc noK).k 19 (Sc s)<|V9 s).bind (λq=>canT (M<|V9 s) [0] [.pc 16 7 AL,.kb 5] .normal (q.1::Sc s) q.2)=(oC s).mp (λs2=>⟨.normal,M (Sc s)+1,[abQ s2],acC s2,U⟩):=AM
def ao2 (s:Ky) (hE:uH s):(oC s).all (λq=>q=YS s):=by
 refine ⟨λc=>⟨A0,?_⟩,λc=>?_⟩
 ·have c:s.p.up=false:=A8
  have he:s.p.JX=6:=AD c
  rw [Oy]
  repeat (refine ⟨AH,?_⟩)
  show _=_
  unfold YS;rw [H7 A8];rw [he]
 ·have c:s.p.up=true:=A8
  have he:s.p.JX=0:=AE A8
  repeat (refine ⟨AH,?_⟩)
  unfold YS;rw [he];rfl
def auo:CSound prog AO 19 vB.m:=C4.sound (D:=vB) (t:=oC) (gk XC) ags noK_sound ar7 λs hE=>⟨ao2 s hE⟩
structure Kt where
 p:PK
 ev:EW
def SW (s:Kt):aD:=[.own 16 0]
def V3 (s:Kt):aE:=[bDd,bDd,zB,bDd,bV 62 AR s.p.cs,bV 87 AL s.p.ls,bV 5 (.int aw) s.p.fl,bV 90 Ae s.p.ra,bV 94 Al s.p.st,bV 46 AL s.p.ca,bV 74 Ap s.p.mi,bV 66 Az s.p.me,bV 48 Aq s.p.dm,bV 99 Au s.p.lk,bV 3 A7 s.p.dr,bV 3 A7 s.p.tg,⟨[.os 4 11 0<|M s.p.cs,.xl .str s.p.os,.xl AY s.p.ks,.xl AX s.p.gs,.xl AZ s.p.bs,.v<|ag J s.p.tk,.v<|.bool s.p.up,.os 5 5 0<|M s.p.ls,.v<|ag J s.p.se,.os 6 1 0<|M s.p.fl,.os 7 2 0<|M s.p.ra,.v<|ag J s.p.nx,.os 8 4 0<|M s.p.st,.os 9 5 0<|M s.p.ca,.os 10 3 0<|M s.p.mi,.os 11 3 0<|M s.p.me,.os 12 4 0<|M s.p.dm,.os 13 6 0<|M s.p.lk,.os 14 1 0<|M s.p.dr,.os 15 1 0<|M s.p.tg,.v<|ag J s.ev.ek,.v<|ag J s.ev.en,.v<|ag J s.ev.em,.v<|ag J s.ev.c1,.v<|ag J s.ev.c2,.v<|ag J s.ev.c3,.v<|ag J s.ev.c4,.v<|ag J s.ev.c5,.v<|.bool s.ev.d1,.v<|ag J s.ev.d2,.v<|ag J s.ev.d3,.v<|ag J s.ev.d4,.v<|.slice aj 0 0],83,.cl,X⟩]
structure Th where
 res:Y
 p:PK
 ev:EW
def abK (s:Th):LV:=.v<|ag J s.res
def ac6 (s:Th):aE:=[bDd,bDd,zB,bDd,bV 62 AR s.p.cs,bV 87 AL s.p.ls,bV 5 (.int aw) s.p.fl,bV 90 Ae s.p.ra,bV 94 Al s.p.st,bV 46 AL s.p.ca,bV 74 Ap s.p.mi,bV 66 Az s.p.me,bV 48 Aq s.p.dm,bV 99 Au s.p.lk,bV 3 A7 s.p.dr,bV 3 A7 s.p.tg,⟨[.os 4 11 0<|M s.p.cs,.xl .str s.p.os,.xl AY s.p.ks,.xl AX s.p.gs,.xl AZ s.p.bs,.v<|ag J s.p.tk,.v<|.bool s.p.up,.os 5 5 0<|M s.p.ls,.v<|ag J s.p.se,.os 6 1 0<|M s.p.fl,.os 7 2 0<|M s.p.ra,.v<|ag J s.p.nx,.os 8 4 0<|M s.p.st,.os 9 5 0<|M s.p.ca,.os 10 3 0<|M s.p.mi,.os 11 3 0<|M s.p.me,.os 12 4 0<|M s.p.dm,.os 13 6 0<|M s.p.lk,.os 14 1 0<|M s.p.dr,.os 15 1 0<|M s.p.tg,.v<|ag J s.ev.ek,.v<|ag J s.ev.en,.v<|ag J s.ev.em,.v<|ag J s.ev.c1,.v<|ag J s.ev.c2,.v<|ag J s.ev.c3,.v<|ag J s.ev.c4,.v<|ag J s.ev.c5,.v<|.bool s.ev.d1,.v<|ag J s.ev.d2,.v<|ag J s.ev.d3,.v<|ag J s.ev.d4,.v<|.slice aj 0 0],83,.cl,X⟩]
def YB (s:Kt):T Th:=letI a:=(C6 s.p.gs s.p.st s.ev.en (6:Y) (1:Y) (0:Y));.br (!(inB s.ev.en (0:Y)<|AA<|(M s.p.gs:Y)-1)) (.pc s.p<|.ok<|⟨1,s.p,s.ev⟩)<|.pc s.p<|.req (mP (⟨s.ev.en,6,1,0,s.p,s.ev⟩:Ik))<|.pa s.p<|.rl a<|.rl s.p.ca<|.rl s.p.mi<|.rl s.p.me<|.rl s.p.dm<|.rl s.p.lk<|.rl s.p.dr<|.rl s.p.tg<|.ok<|⟨sE (AF s.p.gs s.ev.en) (BI s.p.st s.ev.en) (6:Y) (1:Y) (0:Y),{s.p with st:=a},s.ev⟩
def uf (s:Kt):Prop:=M s.p.st=M s.p.gs/\M s.p.gs<=1000
def YQ (s:Kt):Th:=⟨PK.M9 s.p s.ev.en,{s.p with st:=if PK.isC s.p s.ev.en=U then C6 s.p.gs s.p.st s.ev.en 6 1 0 else s.p.st},s.ev⟩
def uz:C4 Kt Th:=⟨SW,V3,λv b=>⟨rF b,rG b⟩,uf,[0,1,3],[],abK,ac6,YQ⟩
abbrev aup (s:Kt):Prop:=uf s/\SW s=SW s/\V3 s=V3 s
def Fy:aM:=[S7]
def XP:Aj:=FC Fy (la 2 func50 Hg<|la 9 func23 C2<|l0 Fy) [⟨49,uo.m,atu⟩]
def aLT:aL3:=addL 50 18 2 (Hw.lp)<|addL 23 0 9 (Eb.lp)<|unrL prog AO Fy 20 2
def ah2:LLok prog AO aLT:=addL_ok func50 rfl AM Hg<|addL_ok func23 rfl AM C2<|unrL_ok<|gk Fy
def ar0 (s:Kt):((stepH prog AO Fy aLT XP).k 21 (SW s)<|V3 s).bind (λq=>canT (M<|V3 s) [0] [] .normal (q.1::SW s) q.2)=(YB s).mp (λs2=>⟨.normal,M (SW s)+1,[abK s2],ac6 s2,U⟩):=AM
def aoh (s:Kt) (hE:uf s):(YB s).all (λq=>q=YQ s):=by
 obtain ⟨h1,h2⟩:=hE;unfold YB;rw [gR h2];refine ⟨λc=>?_,λc=>?_⟩
 ·have c:s.p.isC s.ev.en=false:=My
  repeat (refine ⟨AH,?_⟩)
  show _=_
  unfold YQ PK.M9
  simp_all
 ·have c:s.p.isC s.ev.en=true:=My
  have ci:=C1.1 c
  have ci2:s.ev.en<(M s.p.gs:Y):=A0
  repeat (refine ⟨AH,?_⟩)
  refine ⟨⟨⟨ci.1,ci2,h1⟩,rfl,rfl⟩,?_⟩
  repeat (refine ⟨AH,?_⟩)
  show _=_
  unfold YQ PK.M9
  grind
def aui:CSound prog AO 21 uz.m:=C4.sound (D:=uz) (t:=YB) (gk Fy) ah2 XP.h ar0 λs hE=>⟨aoh s hE⟩
structure Kx where
 p:PK
 ev:EW
def Sb (s:Kx):aD:=[.own 16 0]
def V8 (s:Kx):aE:=[bDd,bDd,zB,bDd,bV 62 AR s.p.cs,bV 87 AL s.p.ls,bV 5 (.int aw) s.p.fl,bV 90 Ae s.p.ra,bV 94 Al s.p.st,bV 46 AL s.p.ca,bV 74 Ap s.p.mi,bV 66 Az s.p.me,bV 48 Aq s.p.dm,bV 99 Au s.p.lk,bV 3 A7 s.p.dr,bV 3 A7 s.p.tg,⟨[.os 4 11 0<|M s.p.cs,.xl .str s.p.os,.xl AY s.p.ks,.xl AX s.p.gs,.xl AZ s.p.bs,.v<|ag J s.p.tk,.v<|.bool s.p.up,.os 5 5 0<|M s.p.ls,.v<|ag J s.p.se,.os 6 1 0<|M s.p.fl,.os 7 2 0<|M s.p.ra,.v<|ag J s.p.nx,.os 8 4 0<|M s.p.st,.os 9 5 0<|M s.p.ca,.os 10 3 0<|M s.p.mi,.os 11 3 0<|M s.p.me,.os 12 4 0<|M s.p.dm,.os 13 6 0<|M s.p.lk,.os 14 1 0<|M s.p.dr,.os 15 1 0<|M s.p.tg,.v<|ag J s.ev.ek,.v<|ag J s.ev.en,.v<|ag J s.ev.em,.v<|ag J s.ev.c1,.v<|ag J s.ev.c2,.v<|ag J s.ev.c3,.v<|ag J s.ev.c4,.v<|ag J s.ev.c5,.v<|.bool s.ev.d1,.v<|ag J s.ev.d2,.v<|ag J s.ev.d3,.v<|ag J s.ev.d4,.v<|.slice aj 0 0],83,.cl,X⟩]
structure Tm where
 res:Y
 p:PK
 ev:EW
def abP (s:Tm):LV:=.v<|ag J s.res
def acB (s:Tm):aE:=[bDd,bDd,zB,bDd,bV 62 AR s.p.cs,bV 87 AL s.p.ls,bV 5 (.int aw) s.p.fl,bV 90 Ae s.p.ra,bV 94 Al s.p.st,bV 46 AL s.p.ca,bV 74 Ap s.p.mi,bV 66 Az s.p.me,bV 48 Aq s.p.dm,bV 99 Au s.p.lk,bV 3 A7 s.p.dr,bV 3 A7 s.p.tg,⟨[.os 4 11 0<|M s.p.cs,.xl .str s.p.os,.xl AY s.p.ks,.xl AX s.p.gs,.xl AZ s.p.bs,.v<|ag J s.p.tk,.v<|.bool s.p.up,.os 5 5 0<|M s.p.ls,.v<|ag J s.p.se,.os 6 1 0<|M s.p.fl,.os 7 2 0<|M s.p.ra,.v<|ag J s.p.nx,.os 8 4 0<|M s.p.st,.os 9 5 0<|M s.p.ca,.os 10 3 0<|M s.p.mi,.os 11 3 0<|M s.p.me,.os 12 4 0<|M s.p.dm,.os 13 6 0<|M s.p.lk,.os 14 1 0<|M s.p.dr,.os 15 1 0<|M s.p.tg,.v<|ag J s.ev.ek,.v<|ag J s.ev.en,.v<|ag J s.ev.em,.v<|ag J s.ev.c1,.v<|ag J s.ev.c2,.v<|ag J s.ev.c3,.v<|ag J s.ev.c4,.v<|ag J s.ev.c5,.v<|.bool s.ev.d1,.v<|ag J s.ev.d2,.v<|ag J s.ev.d3,.v<|ag J s.ev.d4,.v<|.slice aj 0 0],83,.cl,X⟩]
def YG (s:Kx):T Tm:=letI a:=(C6 s.p.gs s.p.st s.ev.en (6:Y) (0:Y) (0:Y));letI b:=(C6 s.p.gs a s.ev.en (2:Y) (0:Y) (0:Y));letI c:=(X,((0:Y),((0:Y),(9:Y))));letI d:=M s.p.ca;.br (!(inB s.ev.en (0:Y)<|AA<|(M s.p.gs:Y)-1)) (.pc s.p<|.ok<|⟨1,s.p,s.ev⟩)<|.ik s.ev.en d<|.br (!((s.p.ca.getD s.ev.en.toNat<|Ty.dflt AL).2.2.1 !=0)) (.pc s.p<|.ok<|⟨4,s.p,s.ev⟩)<|.pc s.p<|.req (mP (⟨s.ev.en,6,0,0,s.p,s.ev⟩:Ik))<|.pa s.p<|.rl a<|.rl s.p.ca<|.rl s.p.mi<|.rl s.p.me<|.rl s.p.dm<|.rl s.p.lk<|.rl s.p.dr<|.rl s.p.tg<|.req (mP (⟨s.ev.en,2,0,0,{s.p with st:=a},s.ev⟩:Ik))<|.ik s.ev.en d<|.ik s.ev.en (M s.p.mi)<|.ik s.ev.en (M s.p.dm)<|.pa s.p<|.rl b<|.re d (s.p.ca.set s.ev.en.toNat ((0:Y),((0:Y),((0:Y),((0:Y),(0:Y))))))<|.re (M s.p.mi) (s.p.mi.set s.ev.en.toNat (([]:aB),((0:Y),(0:Y))))<|.rl s.p.me<|.re (M s.p.dm) (s.p.dm.set s.ev.en.toNat c)<|.rl s.p.lk<|.rl s.p.dr<|.rl s.p.tg<|.ok<|⟨0,{s.p with st:=b,ca:=s.p.ca.set s.ev.en.toNat ((0:Y),((0:Y),((0:Y),((0:Y),(0:Y))))),mi:=s.p.mi.set s.ev.en.toNat (([]:aB),((0:Y),(0:Y))),dm:=s.p.dm.set s.ev.en.toNat c},s.ev⟩
def uk (s:Kx):Prop:=M s.p.st=M s.p.gs/\M s.p.gs<=1000/\M s.p.ca=M s.p.gs/\M s.p.mi=M s.p.gs/\M s.p.dm=M s.p.gs
def TA (s:Kx):Tm:=⟨PK.Hp s.p s.ev.en,Gm (PK.Hp s.p s.ev.en) (PK.NL s.p s.ev.en) s.p,s.ev⟩
def vA:C4 Kx Tm:=⟨Sb,V8,λv b=>⟨rF b,rG b⟩,uk,[0,1,3],[],abP,acB,TA⟩
abbrev auu (s:Kx):Prop:=uk s/\Sb s=Sb s/\V8 s=V8 s
def aLb:aL3:=addL 50 18 2 (Hw.lp)<|addL 23 0 9 (Eb.lp)<|unrL prog AO Fy 20 2
def agr:LLok prog AO aLb:=addL_ok func50 rfl AM Hg<|addL_ok func23 rfl AM C2<|unrL_ok<|gk Fy
def ar6 (s:Kx):((stepH prog AO Fy aLb XP).k 17 (Sb s)<|V8 s).bind (λq=>canT (M<|V8 s) [0] [] .normal (q.1::Sb s) q.2)=(YG s).mp (λs2=>⟨.normal,M (Sb s)+1,[abP s2],acB s2,U⟩):=AM
def ao1 (s:Kx) (hE:uk s):(YG s).all (λq=>q=TA s):=by
 obtain ⟨h1,h2,h3,h4,h5⟩:=hE;unfold YG;rw [gR h2];refine ⟨λc=>?_,λc=>?_⟩
 ·have c:s.p.isC s.ev.en=false:=My
  have he:s.p.Hp s.ev.en=1:=AD c
  repeat (refine ⟨AH,?_⟩)
  show _=_
  unfold TA;rw [H7 JC];rw [he]
 ·have c:s.p.isC s.ev.en=true:=My
  have ci:=C1.1 c
  have ci2:s.ev.en<(M s.p.gs:Y):=A0
  have hc:¬s.p.isC s.ev.en=false:=sR
  refine ⟨A0,A0,λc2=>?_,λc2=>?_⟩
  ·have c2:(BA s.p.ca s.ev.en).2.2.1=0:=by simp only [C8,bne_eq_false_iff_eq] at c2;exact c2
   have he:s.p.Hp s.ev.en=4:=by unfold PK.Hp;rw [AE hc,AD c2]
   repeat (refine ⟨AH,?_⟩)
   show _=_
   unfold TA;rw [H7 JC];rw [he]
  ·have c2:¬(BA s.p.ca s.ev.en).2.2.1=0:=by simp only [GC,DP] at c2;exact c2
   have he:s.p.Hp s.ev.en=0:=by unfold PK.Hp;rw [AE hc,AE c2]
   have hg:M (C6 s.p.gs s.p.st s.ev.en 6 0 0)=M s.p.gs:=by rw [Ib];exact h1
   repeat (refine ⟨AH,?_⟩)
   refine ⟨⟨⟨ci.1,ci2,h1⟩,rfl,rfl⟩,?_⟩
   repeat (refine ⟨A0,?_⟩)
   refine ⟨⟨⟨ci.1,ci2,hg⟩,rfl,rfl⟩,?_⟩
   repeat (refine ⟨A8,?_⟩)
   show _=_
   unfold TA;rw [Ig he];rw [he];rfl
def aun:CSound prog AO 17 vA.m:=C4.sound (D:=vA) (t:=YG) (gk Fy) agr XP.h ar6 λs hE=>⟨ao1 s hE⟩
structure Kw where
 p:PK
 ev:EW
def Sa (s:Kw):aD:=[.own 16 0]
def V7 (s:Kw):aE:=[bDd,bDd,zB,bDd,bV 62 AR s.p.cs,bV 87 AL s.p.ls,bV 5 (.int aw) s.p.fl,bV 90 Ae s.p.ra,bV 94 Al s.p.st,bV 46 AL s.p.ca,bV 74 Ap s.p.mi,bV 66 Az s.p.me,bV 48 Aq s.p.dm,bV 99 Au s.p.lk,bV 3 A7 s.p.dr,bV 3 A7 s.p.tg,⟨[.os 4 11 0<|M s.p.cs,.xl .str s.p.os,.xl AY s.p.ks,.xl AX s.p.gs,.xl AZ s.p.bs,.v<|ag J s.p.tk,.v<|.bool s.p.up,.os 5 5 0<|M s.p.ls,.v<|ag J s.p.se,.os 6 1 0<|M s.p.fl,.os 7 2 0<|M s.p.ra,.v<|ag J s.p.nx,.os 8 4 0<|M s.p.st,.os 9 5 0<|M s.p.ca,.os 10 3 0<|M s.p.mi,.os 11 3 0<|M s.p.me,.os 12 4 0<|M s.p.dm,.os 13 6 0<|M s.p.lk,.os 14 1 0<|M s.p.dr,.os 15 1 0<|M s.p.tg,.v<|ag J s.ev.ek,.v<|ag J s.ev.en,.v<|ag J s.ev.em,.v<|ag J s.ev.c1,.v<|ag J s.ev.c2,.v<|ag J s.ev.c3,.v<|ag J s.ev.c4,.v<|ag J s.ev.c5,.v<|.bool s.ev.d1,.v<|ag J s.ev.d2,.v<|ag J s.ev.d3,.v<|ag J s.ev.d4,.v<|.slice aj 0 0],83,.cl,X⟩]
structure Tl where
 res:Y
 p:PK
 ev:EW
def abO (s:Tl):LV:=.v<|ag J s.res
def acA (s:Tl):aE:=[bDd,bDd,zB,bDd,bV 62 AR s.p.cs,bV 87 AL s.p.ls,bV 5 (.int aw) s.p.fl,bV 90 Ae s.p.ra,bV 94 Al s.p.st,bV 46 AL s.p.ca,bV 74 Ap s.p.mi,bV 66 Az s.p.me,bV 48 Aq s.p.dm,bDd,bV 3 A7 s.p.dr,bV 3 A7 s.p.tg,⟨[.os 4 11 0<|M s.p.cs,.xl .str s.p.os,.xl AY s.p.ks,.xl AX s.p.gs,.xl AZ s.p.bs,.v<|ag J s.p.tk,.v<|.bool s.p.up,.os 5 5 0<|M s.p.ls,.v<|ag J s.p.se,.os 6 1 0<|M s.p.fl,.os 7 2 0<|M s.p.ra,.v<|ag J s.p.nx,.os 8 4 0<|M s.p.st,.os 9 5 0<|M s.p.ca,.os 10 3 0<|M s.p.mi,.os 11 3 0<|M s.p.me,.os 12 4 0<|M s.p.dm,.xl Au s.p.lk,.os 14 1 0<|M s.p.dr,.os 15 1 0<|M s.p.tg,.v<|ag J s.ev.ek,.v<|ag J s.ev.en,.v<|ag J s.ev.em,.v<|ag J s.ev.c1,.v<|ag J s.ev.c2,.v<|ag J s.ev.c3,.v<|ag J s.ev.c4,.v<|ag J s.ev.c5,.v<|.bool s.ev.d1,.v<|ag J s.ev.d2,.v<|ag J s.ev.d3,.v<|ag J s.ev.d4,.v<|.slice aj 0 0],83,.cl,X⟩]
def YF (s:Kw):T Tl:=letI b:=((M s.p.lk:aC):Y);letI a:=(ads (⟨b,0,s.p,s.ev,([]:aLZ)⟩:JV));.br (!(inB s.ev.en (0:Y)<|AA<|(M s.p.gs:Y)-1)) (.rz s.p.lk<|.pa s.p<|.rl s.p.st<|.rl s.p.ca<|.rl s.p.mi<|.rl s.p.me<|.rl s.p.dm<|.rl s.p.dr<|.rl s.p.tg<|.ok<|⟨1,{s.p with lk:=(s.p.lk.drop 0).take<|M s.p.lk},s.ev⟩)<|.r0 Lk<|.rl s.p.lk<|.pc s.p<|.req (Hw.q (⟨b,0,s.p,s.ev,([]:aLZ)⟩:JV))<|.rz a.left<|.pa s.p<|.rl s.p.st<|.rl s.p.ca<|.rl s.p.mi<|.rl s.p.me<|.rl s.p.dm<|.rl s.p.dr<|.rl s.p.tg<|.ok<|⟨0,{s.p with lk:=(a.left.drop 0).take<|M a.left},s.ev⟩
def uj (s:Kw):Prop:=M s.p.gs<=1000/\M s.p.lk<=20000000
def YR (s:Kw):Tl:=⟨PK.L7 s.p s.ev.en,Gm (PK.L7 s.p s.ev.en) (PK.Ym s.p s.ev.en) s.p,s.ev⟩
def v9:C4 Kw Tl:=⟨Sa,V7,λv b=>⟨rF b,rG b⟩,uj,[0,1,3],[.pc 16 17 Au,.kb 13],abO,acA,YR⟩
abbrev aut (s:Kw):Prop:=uj s/\Sa s=Sa s/\V7 s=V7 s
def aG4:Aj:=kI Fy<|la 2 func50 Hg<|la 9 func23 C2<|l0 Fy
def aLa:aL3:=addL 50 18 2 (Hw.lp)<|addL 23 0 9 (Eb.lp)<|unrL prog AO Fy 20 2
def agq:LLok prog AO aLa:=addL_ok func50 rfl AM Hg<|addL_ok func23 rfl AM C2<|unrL_ok<|gk Fy
def ar5 (s:Kw):((stepH prog AO Fy aLa aG4).k 18 (Sa s)<|V7 s).bind (λq=>canT (M<|V7 s) [0] [.pc 16 17 Au,.kb 13] .normal (q.1::Sa s) q.2)=(YF s).mp (λs2=>⟨.normal,M (Sa s)+1,[abO s2],acA s2,U⟩):=AM
def ao0 (s:Kw) (hE:uj s):(YF s).all (λq=>q=YR s):=by
 obtain ⟨h1,h2⟩:=hE;unfold YF;rw [gR h1];refine ⟨λc=>⟨A0,?_⟩,λc=>?_⟩
 ·have c:s.p.isC s.ev.en=false:=My
  have he:s.p.L7 s.ev.en=1:=AD c
  rw [Oy]
  repeat (refine ⟨AH,?_⟩)
  show _=_
  unfold YR;rw [H7 A8];rw [he]
 ·have c:s.p.isC s.ev.en=true:=My
  have he:s.p.L7 s.ev.en=0:=AE A8
  have hV:ZV (⟨((M s.p.lk:Nat):Int),(0:Int),s.p,s.ev,([]:List Lk)⟩:JV):=⟨rfl,rfl,A8,A8⟩
  have q:=(ajq _ hV).2
  rw [Oy,q]
  repeat (refine ⟨AH,?_⟩)
  refine ⟨⟨hV,rfl,rfl⟩,?_⟩
  repeat (refine ⟨AH,?_⟩)
  unfold YR;rw [he];rfl
def aum:CSound prog AO 18 v9.m:=C4.sound (D:=v9) (t:=YF) (gk Fy) agq aG4.h ar5 λs hE=>⟨ao0 s hE⟩
open Go.RowKit Go.Extern.Stop Go.Stop Go.Extern Go Go.Sx
def am8 (v:aV) (w:aO):(Extern.ReflectliteType.typeOf #[.iface 53 v]).run prog w=.ok (.iface 346<|.agg #[.pointer<|ah ⟨3,53,aj⟩]) w:=AM
def adG:aW->Sem Value:=Extern.ReflectliteType.method λt=>do Extern.Rtype.noPackHeld "Comparable" t;pure<|.bool (←typeInfo t).comparable
def aeP (w:aO):(adG #[.agg #[.pointer<|ah ⟨3,53,aj⟩]]).run prog w=.ok (.bool U) w:=AM
def am9 (v:aV) (w:aO):(Go.method 488 346 v "Comparable").run prog w=.ok (261,v) w:=AM
def ay7 (v:aV) (xT:aS) (w:aO):(Instr.typeAssert (.iface 53 v) xT 348 U).run prog w=.ok (.tuple #[.nilIface,.bool X]) w:=qH Tryz.underlying348 AM AM v xT w
def aey (v:aV) (xT:aS) (w:aO):(Instr.typeAssert (.iface 53 v) xT 351 U).run prog w=.ok (.tuple #[.nilIface,.bool X]) w:=qH Tryz.underlying351 AM AM v xT w
def aem (v:aV) (xT:aS) (w:aO):(Instr.typeAssert (.iface 53 v) xT 353 U).run prog w=.ok (.tuple #[.nilIface,.bool X]) w:=qH Tryz.underlying353 AM AM v xT w
def aex (n m:Y) (w:aO):Calls prog 227 #[.iface 53<|ag J n,.iface 53<|ag J m] w λe w'=>e=.returned (.bool<|n==m)/\w'=w:=by
 have hu:=Tryz.underlying339
 have h8:=@run_callFunc_extern prog 235 _ Extern.ReflectliteType.typeOf func235 AM AM AM AM
 have h32:=@run_callFunc_extern prog 261 _ adG func261 AM AM AM AM
 have tT:=am8
 have cT:=aeP
 have mR:=am9
 have nE:=ay7
 have uE:=aey
 have vE:=aem
 have heq:=Go.Lib.run_eql_iface_int (P:=prog) w (k:=J) n m hu (by kernel_rfl:(prog.info? 53).map (·.comparable)=ah U) (by kernel_rfl:prog.underlying 53=ah (.int J))
 by_cases e:n=m
 ·subst e
  simp only [IQ] at heq|-;exact aIq
 ·have e':(n==m)=false:=sQ
  simp only [e'] at heq|-;exact aIq
def ab5:aD->T LV
 | [.v (.iface 53 (ag J n)),.v (.iface 53 (ag J m))]=> .ok (.v<|.bool<|n==m)
 |_=> .no
def YL:VV 227 ab5:=λargs vals w Z lv hz hg hok hr h=>by
 unfold ab5 at h;split at h
 ·rename_i n m
  subst h;simp only [RL,R] at hr
  have e2:vals=#[.iface 53<|ag J n,.iface 53<|ag J m]:=by
   grind
  rw [e2];refine (aex n m w).mono λe w' ⟨he,hw⟩=>?_
  subst hw;exact ⟨Below.refl _ _,_,he,ak,H0⟩
 ·cases h
def aGm:aD->T LV
 | [.agg [.v (ag J se),.xl (.int aw) fl]]=> .ok (FE se fl)
 |_=> .no
def Xj:aM:=[]
def T3:=vo (S:=aGm) func136 Xj kN (λargs lv h=>by
 unfold aGm at h;split at h
 ·rename_i se fl
  refine Af (letI a:=(M fl:Y);.br (an<|se>=1) (.br (an<|se<=512) (.br (an<|a>=se) (.br (an<|a<=4096) (.req (se≠0)<|.ok<|.v<|.bool<|(a.tmod se)==0)<|.ok X)<|.ok X)<|.ok X)<|.ok X) ?_;obtain rfl:=h;unfold FE;refine ⟨λc1=>⟨λc2=>⟨λc3=>⟨λc4=>⟨?_,?_⟩,λc4=>?_⟩,λc3=>?_⟩,λc2=>?_⟩,λc1=>?_⟩
  ·grind
  all_goals refine Am (λz=>LV.v<|.bool z) ?_
  all_goals first|(simp_all;done) |(simp_all;intros;omega) |(simp_all;omega)
 ·cases h)
def aHN:aD->T LV
 | [.agg [.v (ag J se),.xl (.int aw) fl]]=> .ok (Dj se fl)
 |_=> .no
def ato:aM:=[T3]
def YJ:=vo (S:=aHN) func97 ato kN (λargs lv h=>by
 unfold aHN at h;split at h
 ·rename_i se fl
  refine Af (.br (FE se fl) (.req (se≠0)<|.req ((2:Y)≠0)<|.ok<|.v<|.bool<|(((AA<|(M fl:Y).tdiv se).tmod 2)==0)&&(an<|(M fl:Y)>=32))<|.ok X) ?_;obtain rfl:=h;unfold Dj;refine ⟨λc1=>?_,λc1=>?_⟩
  ·have hv:=KS.1 c1
   refine ⟨A0,AT,?_⟩;refine Am (λz=>LV.v<|.bool z) ?_
   rw [c1,AG (x:=(M fl:Y).tdiv se) (by rw [Fo A0];exact OH AT<|OG A0 A0) (by rw [Fo A0];exact OH (QO _ A0) A0)]
   rfl
  ·refine Am (λz=>LV.v<|.bool z) ?_
   rw [c1];rfl
 ·cases h)
def aGl:aD->T LV
 | [.v (ag ax n)]=> .ok (.xl (.int aw)<|CD n)
 |_=> .no
def avd:=vo (S:=aGl) func202 Xj kN (λargs lv h=>by
 unfold aGl at h;split at h
 ·rename_i n
  refine Af (.ok<|.xl (.int aw)<|[(IntKind.u8.wrap<|n.fdiv<|2^24),(IntKind.u8.wrap<|n.fdiv<|2^16),(IntKind.u8.wrap<|n.fdiv<|2^8),(IntKind.u8.wrap n)]) ?_;exact h
 ·cases h)
def aHE:aD->T LV
 | [.xl (.int aw) b]=> .req (4<=M b) (.ok<|.v<|ag ax<|Eh b)
 |_=> .no
def YI:=vo (S:=aHE) func170 Xj kN (λargs lv h=>by
 unfold aHE at h;split at h
 ·rename_i b
  refine Af (letI a:=(M b:Y);.req (0<=(0:Y)/\0<a)<|.req (0<=(1:Y)/\1<a)<|.req (0<=(2:Y)/\2<a)<|.req (0<=(3:Y)/\3<a)<|.ok<|.v<|ag ax<|CU ax (CU ax (CU ax (IntKind.u32.wrap<|(IntKind.u32.wrap<|gi b (0:Y))*2^24)<|IntKind.u32.wrap<|(IntKind.u32.wrap<|gi b (1:Y))*2^16)<|IntKind.u32.wrap<|(IntKind.u32.wrap<|gi b (2:Y))*2^8)<|IntKind.u32.wrap<|gi b (3:Y)) ?_;obtain ⟨h0,rfl⟩:=h;exact ⟨⟨A0,A0⟩,⟨A0,A0⟩,⟨A0,A0⟩,⟨A0,A0⟩,rfl⟩
 ·cases h)
def aGz:aD->T LV
 | [.agg [.v (ag J se),.xl (.int aw) fl],.v (ag J w)]=> .req ((w=0\/w=1)/\M fl<=4096) (.ok<|.xl (.int aw)<|B5 fl w)
 |_=> .no
def YN:=vo (S:=aGz) func169 Xj kN (λargs lv h=>by
 unfold aGz at h;split at h
 ·rename_i se fl w
  refine Af (letI a:=(AA<|(M fl:Y).tdiv 2);letI b:=AA<|(AA<|w+1)*a;letI c:=AA<|w*a;.req ((2:Y)≠0)<|.req (0<=c/\c<=b/\b<=(M fl:Y)/\b=b)<|.ok<|.xl (.int aw)<|(fl.drop c.toNat).take<|b.toNat-c.toNat) ?_;obtain ⟨⟨h0,h1⟩,rfl⟩:=h
  have e1:(M fl:Y).tdiv 2=((M fl / 2:aC):Y):=AH
  have e2:AA ((M fl / 2:aC):Y)=((M fl / 2:aC):Y):=AG
  rw [e1,e2];rcases h0 with rfl|rfl
  ·rw [Int.zero_mul,show (0:Y)+1=1 from rfl,show AA 0=0 from rfl,show AA 1=1 from rfl,Ve,e2]
   refine ⟨AT,⟨A0,A0,A0,rfl⟩,?_⟩;refine Am (LV.xl<|.int aw) ?_;rfl
  ·rw [Ve,show (1:Y)+1=2 from rfl,show AA 2=2 from rfl,e2,AG (x:=2*((M fl / 2:aC):Y))]
   refine ⟨AT,⟨A0,A0,A0,rfl⟩,?_⟩;refine Am (LV.xl<|.int aw) ?_
   congr 1
   omega
 ·cases h)
def aGs:aD->T LV
 | [.agg [.v (ag J se),.xl (.int aw) fl]]=> .req (Dj se fl=U) (.tu #[Ah fl,FZ fl])
 |_=> .no
def atn:aM:=[YN,YI]
def nL := vo (S:=aGs) func168 atn kN (λargs lv h=>by
 unfold aGs at h;split at h
 ·rename_i se fl
  refine Af (letI d:=(B5 fl (0:Y));letI f:=(B5 fl (1:Y));letI b:=((f.drop (1:Y).toNat).take<|(5:Y).toNat-(1:Y).toNat);letI c:=((d.drop (1:Y).toNat).take<|(5:Y).toNat-(1:Y).toNat);.req (((0:Y)=0\/(0:Y)=1)/\M fl<=4096)<|.req (((1:Y)=0\/(1:Y)=1)/\M fl<=4096)<|.req (0<=(0:Y)/\0<(M d:Y))<|.req (0<=(0:Y)/\0<(M f:Y))<|.br (((gi d (0:Y))==80)&&((gi f (0:Y))==80)) (.req (0<=(1:Y)/\(1:Y)<=(5:Y)/\(5:Y)<=(M f:Y))<|.req (4<=M b)<|.req (0<=(1:Y)/\(1:Y)<=(5:Y)/\(5:Y)<=(M d:Y))<|.req (4<=M c)<|.br (an<|(Eh b)>(Eh c)) (.tu #[(1:Y),(0:Y)])<|.tu #[(0:Y),(0:Y)])<|.br ((gi d (0:Y))==80) (.tu #[(0:Y),(0:Y)])<|.br ((gi f (0:Y))==80) (.tu #[(1:Y),(0:Y)])<|.tu #[(0:Y),(4:Y)]) ?_;obtain ⟨h0,rfl⟩:=h;obtain ⟨_,_,h32,hl,_⟩:=JQ.1 h0
  have l0:=WZ fl 0
  have l1:=WZ fl 1
  have fin:∀a e:Y,a=Ah fl->e=FZ fl->LV.v (.tuple #[ag J a,ag J e])=LV.v (.tuple #[ag J<|Ah fl,ag J<|FZ fl]):=λa e h1 h2=>sY
  have ew:∀w,Eh (((B5 fl w).drop (1:Y).toNat).take<|(5:Y).toNat-(1:Y).toNat)=Gc fl w:=λw=>rfl
  simp only [ew];refine ⟨?_,?_⟩
  ·first|exact ⟨AT,hl⟩ |omega|decide|(refine ⟨?_,?_⟩<;>omega) |(simp only [IN,DV];omega) |(refine ⟨AT,AT,?_⟩;omega)
  ·refine ⟨?_,?_⟩
   ·grind
   ·refine ⟨?_,?_⟩
    ·omega
    ·refine ⟨?_,?_⟩
     ·omega
     ·refine ⟨λc1=>?_,λc1=>?_⟩
      ·refine ⟨?_,?_⟩
       ·omega
       ·refine ⟨?_,?_⟩
        ·grind
        ·refine ⟨?_,?_⟩
         ·omega
         ·refine ⟨?_,?_⟩
          ·grind
          ·refine ⟨λc2=>?_,λc2=>?_⟩
           ·refine fin _ _ ?_ ?_<;>simp_all [Ah,FZ]
           ·refine fin _ _ ?_ ?_<;>simp_all [Ah,FZ]
      ·refine ⟨λc2=>?_,λc2=>?_⟩
       ·refine fin _ _ ?_ ?_<;>simp_all [Ah,FZ]
       ·refine ⟨λc3=>?_,λc3=>?_⟩
        ·refine fin _ _ ?_ ?_<;>simp_all [Ah,FZ]
        ·refine fin _ _ ?_ ?_<;>simp_all [Ah,FZ]
 ·cases h)
structure Jc where
 x:Y
 t8:aI
 (t9 t10:Y)
 l:aB
 (n i:Y)
def yh:=lN (bN f209 0) 0
def o6 (s:Jc):T (Rd Jc):=
 .br (an<|s.i<s.n) (.ix s.i (M s.l)<|.nx {s with x:=IntKind.u32.wrap<|(acv ax s.x<|IntKind.u32.wrap<|gi s.l s.i)*16777619,i:=AA<|s.i+1}) (.so (.exit 2) s)
def Za (s:Jc):Prop:=s.i=0/\s.n<=70000/\s.n=(M s.l:Y)
def Ys (s:Jc):Prop:=0<=s.i/\s.i<=s.n/\s.n<=70000/\s.n=(M s.l:Y)
def kA (s:Jc):aC:=(s.n-s.i).toNat
def acf (x:Ex) (s s':Jc):Prop:=True
def axb:∀s,Za s->Ys s:=by
 exact cw
def asj:Da Ys kA acf o6:=by
 intro s hI;obtain ⟨h0,h1,h2,h3⟩:=hI;refine allR_ite (λc1=>?_) λc1=>?_
 ·have c1:s.i<s.n:=A8
  rw [AG (x:=s.i+1)];exact ⟨⟨A8,A8,h2,h3⟩,by simp only [kA];omega⟩
 ·trivial
def PB:LpD Jc:=⟨0,28,[3,8,9,10,14,15,16],[],λs=>[.v<|ag ax s.x,.xl (.sl<|.int aw) s.t8,s.t9,s.t10,.xl (.int aw) s.l,s.n,s.i],λ_=>[],λv b=>⟨AJ v 0,Ag (.sl<|.int aw) v 1,AJ v 2,AJ v 3,Ag (.int aw) v 4,AJ v 5,AJ v 6⟩,o6,λs r=> {s with x:=r.x,i:=r.i},λs=>s,λ_ s=>s,[.exit 2],Za,Ys,kA⟩
abbrev zI:=PB.run
abbrev akr:=PB.exn
def aos:Rq Ys o6:=by
 intro s hI;refine ⟨λc1=>⟨?_,ak⟩,λ_=>trivial⟩
 ·(obtain ⟨h0,h1,h2,h3⟩:=hI;simp only [AU] at c1;omega)
def Xi:aM:=[]
def aEa:PB.Ok:={}
def aDz:PB.Pf (acf):=⟨axb,λs h=>rfl,asj,aos⟩
def ahY:SA 0 yh PB:=s1 aEa aDz Xi kN
def al0:Rs Za akr zI (λs:Jc=>Nv s.x<|s.l.drop s.i.toNat) (λx s' (v:Y)=>x=.exit 2/\s'.x=v):=CM aEa aDz (λs hI=>by
  obtain ⟨h0,h1,h2,h3⟩:=hI;refine allR_ite (λc1=>?_) λc1=>?_
  ·have c1:s.i<s.n:=A8
   rw [AG (x:=s.i+1)];rw [(gi_step h0 A0).1];rfl
  ·have c1:s.n<=s.i:=A8
   refine ⟨rfl,?_⟩;rw [DD A0];rfl)
structure Jd where
 x:Y
 l:aI
 (n i:Y)
def wc:=bN f209 0
def o7 (s:Jd):T (Rd Jd):=
 .br (an<|s.i<s.n) (.ix s.i (M s.l)<|.req (PB.q (⟨s.x,s.l,s.n,s.i,gx (e:=.sl<|.int aw) s.l s.i,(M (gx (e:=.sl<|.int aw) s.l s.i):Y),0⟩:Jc))<|.nx {s with x:=(zI (⟨s.x,s.l,s.n,s.i,gx (e:=.sl<|.int aw) s.l s.i,(M (gx (e:=.sl<|.int aw) s.l s.i):Y),0⟩:Jc)).x,i:=AA<|s.i+1}) (.so (.exit 0) s)
def F6 (l:aI):Prop:=∀p∈l,M p<=70000
def Rm {l:aI}(h:F6 l) {i:Y}(h0:0<=i) (h1:i<(M l:Y)):M (gx (e:=.sl<|.int aw) l i)<=70000:=by
 have:gx (e:=.sl<|.int aw) l i=l[i.toNat]' A0:=L8 A0
 rw [this];exact h _<|EL _
def Zb (s:Jd):Prop:=s.i=0/\s.n<=1000/\s.n=(M s.l:Y)/\F6 s.l
def UZ (s:Jd):Prop:=0<=s.i/\s.i<=s.n/\s.n<=1000/\s.n=(M s.l:Y)/\F6 s.l
def kB (s:Jd):aC:=(s.n-s.i).toNat
def acg (x:Ex) (s s':Jd):Prop:=True
def axc:∀s,Zb s->UZ s:=by
 exact Vk
def aFw (s:Jd) (hI:UZ s) (c1:s.i<s.n):Za (⟨s.x,s.l,s.n,s.i,(gx (e:=.sl<|.int aw) s.l s.i),(M (gx (e:=.sl<|.int aw) s.l s.i):Y),(0:Y)⟩:Jc):=by
 obtain ⟨h0,h1,h2,h3,h4⟩:=hI
 have:=Rm h4 h0 A0
 refine ⟨rfl,?_,rfl⟩
 show (M (gx (e:=.sl<|.int aw) s.l s.i):Y)<=70000
 omega
def as2:Da UZ kB acg o7:=by
 intro s hI;obtain ⟨h0,h1,h2,h3,h4⟩:=hI;refine allR_ite (λc1=>?_) λc1=>trivial
 have c1:s.i<s.n:=A8
 rw [AG (x:=s.i+1)];exact ⟨⟨A8,A8,h2,h3,h4⟩,by simp only [kB];omega⟩
def PC:LpD Jd:=⟨0,28,[3,8,9,10],[],λs=>[.v<|ag ax s.x,.xl (.sl<|.int aw) s.l,s.n,s.i],λ_=>[],λv b=>⟨AJ v 0,Ag (.sl<|.int aw) v 1,AJ v 2,AJ v 3⟩,o7,λs r=> {r with l:=s.l,n:=s.n},λs=>s,λ_ s=>s,[.exit 0],Zb,UZ,kB⟩
abbrev zJ:=PC.run
abbrev aks:=PC.exn
def aqJ:Rq UZ o7:=by
 intro s hI;refine ⟨λc1=>⟨?_,?_,ak⟩,λ_=>trivial⟩
 ·exact aJQ
 ·exact ⟨aFw s hI A8,rfl,rfl⟩
def aEb:PC.Ok:={}
def aE0:PC.Pf (acg):=⟨axc,λs h=>rfl,as2,aqJ⟩
def ahZ:SA 0 wc PC:=LpD.snd aEb aE0 (code_sound (Γ:=Xi) (K:=noK) (L:=(λi=>if i=6 then PB.lp else noLoops i)) (gk Xi) kN.h wc (λb hb=>by
 rw [show loopsIn _=[yh] by kernel_rfl] at hb
 simp only [Ak,B8,B6] at hb;subst hb;exact ahY)) λs=>AM
def RR {l:aI}{i:Y}(h0:0<=i) (h:i<(M l:Y)):l.drop i.toNat=gx (e:=.sl<|.int aw) l i::l.drop (i+1).toNat:=(ND h0 h).1
def al1:Rs Zb aks zJ (λs:Jd=>(s.l.drop s.i.toNat).foldl Nv s.x) (λx s' (v:Y)=>x=.exit 0/\s'.x=v):=CM aEb aE0 (λs hI=>by
  have hin:=λc1=>aFw s hI c1
  obtain ⟨h0,h1,h2,h3,h4⟩:=hI;refine allR_ite (λc1=>?_) λc1=>?_
  ·have c1:s.i<s.n:=A8
   rw [AG (x:=s.i+1)]
   have hr:=(al0 _<|hin c1).2
   rw [hr,RR h0 A0];rfl
  ·have c1:s.n<=s.i:=A8
   refine ⟨rfl,?_⟩;rw [DD A0];rfl)
def aGv:aD->T LV
 | [.xl (.sl (.int aw)) ps]=> .req (M ps<=1000/\F6 ps) (.ok<|.v<|ag ax<|M5 ps)
 |_=> .no
def YM:=vm (S:=aGv) func209 Xi kN (L:=(λi=>if i=3 then PC.lp else noLoops i)) (λb hb=>by
 rw [show loopsIn _=[wc] by kernel_rfl] at hb
 simp only [Ak,B8,B6] at hb;subst hb;exact ahZ) (λargs lv h=>by
 unfold aGv at h;split at h
 ·rename_i ps
  refine Af (.req (PC.q (⟨2166136261,ps,(M ps:Y),0⟩:Jd))<|.ok<|.v<|ag ax (zJ (⟨2166136261,ps,(M ps:Y),0⟩:Jd)).x) ?_;obtain ⟨⟨h0,h1⟩,rfl⟩:=h
  have hE:Zb ⟨2166136261,ps,(M ps:Y),0⟩:=⟨rfl,AP,rfl,h1⟩
  obtain ⟨q1,q2⟩:=al1 _ hE;refine ⟨⟨hE,rfl,rfl⟩,?_⟩;refine Am (λz=>LV.v<|ag ax z) ?_
  exact q2
 ·cases h)
def avG:aD->T LV:=λ_=> .no
def aCN:VV 1000030 avG:=by
 exact qn
def aH9:aD->T LV
 | [.xl (.int aw) d]=> .req (M d<=70000) (.ok<|.xl (.int aw)<|BO d)
 |_=> .no
def atm:aM:=[avd,YM,aCN]
def nJ:=vo (S:=aH9) func195 atm kN (λargs lv h=>by
 unfold aH9 at h;split at h
 ·rename_i d
  refine Af (letI a:=(IntKind.u8.wrap<|(M d:Y).fdiv<|2^8);letI b:=(IntKind.u8.wrap (M d:Y));letI c:=(CD<|M5<|[(([a,b]).drop 0).take 2,d]);.req (0+2<=M ([a,b]))<|.ra 1 (M<|[(80:Y)]) (1+M ((([a,b]).drop 0).take 2)) 1<|.req (0+2<=M ([a,b]))<|.req (M ([(([a,b]).drop 0).take 2,d])<=1000/\F6 ([(([a,b]).drop 0).take 2,d]))<|.ra (1+M ((([a,b]).drop 0).take 2)) (M<|([(80:Y)])++((([a,b]).drop 0).take 2)) (1+M ((([a,b]).drop 0).take 2)+M c) 1<|.ra (1+M ((([a,b]).drop 0).take 2)+M c) (M<|(([(80:Y)])++((([a,b]).drop 0).take 2))++c) (1+M ((([a,b]).drop 0).take 2)+M c+M d) 1<|.req (0+(1+M ((([a,b]).drop 0).take 2)+M c+M d)<=M (((([(80:Y)])++((([a,b]).drop 0).take 2))++c)++d))<|.ok<|.xl (.int aw)<|((((([(80:Y)])++((([a,b]).drop 0).take 2))++c)++d).drop 0).take<|1+M ((([a,b]).drop 0).take 2)+M c+M d) ?_;obtain ⟨h0,rfl⟩:=h
  have e:(([(IntKind.u8.wrap<|(M d:Y).fdiv<|2^8),(IntKind.u8.wrap (M d:Y))].drop 0).take 2)=HS d:=rfl
  have e2:M (HS d)=2:=rfl
  have e4:∀n,M (CD n)=4:=λ_=>rfl
  simp only [e]
  have hk:F6 [HS d,d]:=by
   intro p hp;simp only [Ak,B8,B6] at hp;rcases hp with rfl|rfl
   ·rw [e2];omega
   ·exact h0
  iterate 7 refine ⟨A8,?_⟩
  refine Am (LV.xl<|.int aw) ?_;rw [CY A8];rfl
 ·cases h)
def xg {b:aB}:∀ {n m f:aC},M b<=n+f->M b<=m+f->F5 b n f=F5 b m f
 |0,0,_,_,_=>rfl
 |0,m+1,f,h,_=>aJx
 |n+1,0,f,_,h=>aJx
 |n+1,m+1,f,h1,h2=>by
  simp only [F5];rw [xg (n:=n) (m:=m) (f:=f+7+EC b f) A0 A0]
def Gn (b:aB) (f:aC):List (List Int)×Nat×Bool:=F5 b (M b) f
def RT (b:aB) (f:aC):Gn b f=if f<M b/\gi b (f:Y)=80 then (if J0 b f then (Et b f::(Gn b<|f+7+EC b f).1,(Gn b<|f+7+EC b f).2) else ([],f,X)) else ([],f,U):=by
 unfold Gn;rw [xg (n:=M b) (m:=M b+1) (f:=f) A0 A0];rfl
def oV:Array Tmp×Code×Code:=((rangesIn<|f124.body.getD .skip)[0]?).getD (#[],.skip,.skip)
def awc:aMe:=oV.1
def awv:bE:=oV.2.1
def awn:bE:=oV.2.2
structure Dv where
 (from_ FR:Y)
 FP:aB
 (Lt Ln M0:Y)
 Lq:aL
 (b2 Ws WS Ct:Y)
 Wf:aL
 b:aB
 rs:aI
 st:LS
def lkS (s:Dv):aB:=((s.b.drop (AA<|s.from_+1).toNat).take<|(AA<|s.from_+3).toNat-(AA<|s.from_+1).toNat)
def DO (s:Dv):Y:=(AA<|(AA<|(AA<|s.from_+7)+(AA<|(AA<|gi (lkS s) (0:Y))*2^8))+(AA<|gi (lkS s) (1:Y)))
def lkP (s:Dv):aI:=([(s.b.drop (AA<|s.from_+1).toNat).take<|(AA<|s.from_+3).toNat-(AA<|s.from_+1).toNat,(s.b.drop (AA<|s.from_+7).toNat).take<|(DO s).toNat-(AA<|s.from_+7).toNat])
def lkH (s:Dv):aB:=((s.b.drop (AA<|s.from_+3).toNat).take<|(AA<|s.from_+7).toNat-(AA<|s.from_+3).toNat)
def Iu (s:Dv):aB:=((s.b.drop (AA<|s.from_+7).toNat).take<|(DO s).toNat-(AA<|s.from_+7).toNat)
def MX (s:Dv):T (Rd Dv):=letI a:=(s.rs++([((([]:aB)++([]:aB)).drop 0).take<|0+M ([]:aB)]));letI c:=(M s.rs+M ([((([]:aB)++([]:aB)).drop 0).take<|0+M ([]:aB)]));letI d:=(s.rs++([((([]:aB)++(Iu s)).drop 0).take<|0+M (Iu s)]));letI e:=(M s.b:Y);letI f:=(M<|[((([]:aB)++([]:aB)).drop 0).take<|0+M ([]:aB)]);letI g:=(M s.rs+M ([((([]:aB)++(Iu s)).drop 0).take<|0+M (Iu s)]));letI h:=AA<|s.from_+7;letI i:=(M ([]:aB));letI j:=AA<|s.from_+3;letI k:=(M5<|lkP s)==(Eh<|lkH s);letI l:=(M (lkS s):Y);letI m:=M s.rs;.br (an<|s.from_<e) (.ix s.from_ (M s.b)<|.br ((gi s.b s.from_)==80) (.br (an<|h<=e) (.req (0<=(AA<|s.from_+1)/\(AA<|s.from_+1)<=j/\j<=e)<|.req (0<=(0:Y)/\0<l)<|.req (0<=(1:Y)/\1<l)<|.br (an<|(DO s)<=e) (.req (0<=h/\h<=(DO s)/\(DO s)<=e/\(DO s)=(DO s))<|.req (0<=j/\j<=h/\h<=e)<|.req (M (lkP s)<=1000/\F6 (lkP s))<|.req (4<=M (lkH s))<|.br (! k) (.rl s.rs<|.so (.ret) {s with Lt:=(0:Y),Ln:=(0:Y),M0:=(0:Y),Lq:=X,b2:=(11:Y),st:=.done<|.ret})<|.ra 0 i (0+M (Iu s)) 1<|.req (0+(0+M (Iu s))<=M (([]:aB)++(Iu s)))<|.rb m (M<|[((([]:aB)++(Iu s)).drop 0).take<|0+M (Iu s)]) 24<|.br (! k) (.re g d<|.so (.ret) {s with Ct:=DO s,rs:=d})<|.re g d<|.nx {s with from_:=DO s,Ct:=DO s,rs:=d})<|.br (!X) (.rl s.rs<|.so (.ret) {s with Lt:=(0:Y),Ln:=(0:Y),M0:=(0:Y),Lq:=X,b2:=(11:Y),st:=.done<|.ret})<|.ra 0 i (0+M ([]:aB)) 1<|.req (0+(0+M ([]:aB))<=M (([]:aB)++([]:aB)))<|.rb m f 24<|.br (!X) (.re c a<|.so (.ret) {s with Ct:=e,rs:=a})<|.re c a<|.nx {s with from_:=e,Ct:=e,rs:=a})<|.br (!X) (.rl s.rs<|.so (.ret) {s with Lt:=(0:Y),Ln:=(0:Y),M0:=(0:Y),Lq:=X,b2:=(11:Y),st:=.done<|.ret})<|.ra 0 i (0+M ([]:aB)) 1<|.req (0+(0+M ([]:aB))<=M (([]:aB)++([]:aB)))<|.rb m f 24<|.br (!X) (.re c a<|.so (.ret) {s with Ct:=e,rs:=a})<|.re c a<|.nx {s with from_:=e,Ct:=e,rs:=a})<|.rl s.rs<|.so (.exit 0) s)<|.rl s.rs<|.so (.exit 0) s
def pE {b:aB}(h:As b) (i:Y):0<=gi b i/\gi b i<=255:=by
 unfold gi;rw [DC];cases e:b[i.toNat]? with
 |none=>decide
 |some x=>exact h x<|Mj e
def abl {b:aB}{m n k:aC}(h:k<n):gi ((b.drop m).take n) (k:Y)=gi b ((m+k:aC):Y):=by
 unfold gi
 grind
def Js (s:Dv) (hb:As s.b) (h0:0<=s.from_) (h7:s.from_+7<=(M s.b:Y)) (hl:M s.b<=4096):
  DO s=s.from_+7+EC s.b s.from_.toNat/\M (lkS s)=2/\lkH s=(s.b.drop<|s.from_.toNat+3).take 4/\Iu s=Et s.b s.from_.toNat/\lkP s=[(s.b.drop<|s.from_.toNat+1).take 2,Et s.b s.from_.toNat]:=by
 obtain ⟨f,hf⟩:=Mo h0
 have w1:AA (s.from_+1)=s.from_+1:=AG
 have w3:AA (s.from_+3)=s.from_+3:=AG
 have w7:AA (s.from_+7)=s.from_+7:=AG
 have t1:(s.from_+1).toNat=f+1:=A0
 have t3:(s.from_+3).toNat=f+3:=A0
 have t7:(s.from_+7).toNat=f+7:=A0
 have tf:s.from_.toNat=f:=A0
 have eS:lkS s=(s.b.drop<|f+1).take 2:=by
  unfold lkS;rw [w1,w3,t1,t3,show f+3-(f+1)=2 by omega]
 have b1:=pE hb ((f+1:aC):Y)
 have b2:=pE hb ((f+2:aC):Y)
 have g0:gi (lkS s) (0:Y)=gi s.b ((f+1:aC):Y):=by rw [eS];exact abl (k:=0) AT
 have g1:gi (lkS s) (1:Y)=gi s.b ((f+2:aC):Y):=by rw [eS];exact abl (k:=1) AT
 have hN:EC s.b f=(gi s.b ((f+1:aC):Y)).toNat*256+(gi s.b ((f+2:aC):Y)).toNat:=rfl
 have eT:DO s=s.from_+7+EC s.b f:=by
  unfold DO;rw [g0,g1,w7,AG (x:=gi s.b ((f+1:aC):Y)),AG (x:=gi s.b ((f+1:aC):Y)*2^8),AG (x:=gi s.b ((f+2:aC):Y)),AG (x:=s.from_+7+gi s.b ((f+1:aC):Y)*2^8),AG];omega
 have eD:(s.b.drop (AA<|s.from_+7).toNat).take ((DO s).toNat-(AA<|s.from_+7).toNat)=Et s.b f:=by
  unfold Et;rw [eT,w7,t7,show (s.from_+7+(EC s.b f:Y)).toNat-(f+7)=EC s.b f by omega]
 rw [tf];refine ⟨eT,by rw [eS];simp only [IN,DV];omega,?_,eD,?_⟩
 ·unfold lkH
  rw [w3,w7,t3,t7,show f+7-(f+3)=4 by omega]
 ·unfold lkP
  rw [eD,w1,w3,t1,t3,show f+3-(f+1)=2 by omega]
def adD (s:Dv) (hb:As s.b) (h0:0<=s.from_) (h7:s.from_+7<=(M s.b:Y)) (hl:M s.b<=4096) (hT:DO s<=(M s.b:Y)):J0 s.b s.from_.toNat=(M5 (lkP s)==Eh (lkH s)):=by
 obtain ⟨e1,e2,e3,e4,e5⟩:=Js s hb h0 h7 hl;unfold J0 rcF;rw [e3,e5,Cq (p:=s.from_.toNat+7<=M s.b) A0,Cq (p:=s.from_.toNat+7+EC s.b s.from_.toNat<=M s.b) A0];rfl
def adF (s:Dv) (h0:0<=s.from_) (hl:M s.b<=4096) (h:(M s.b:Y)<s.from_+7\/(M s.b:Y)<s.from_+7+EC s.b s.from_.toNat):J0 s.b s.from_.toNat=false:=by
 unfold J0 rcF
 by_cases h1:s.from_.toNat+7<=M s.b
 ·rw [Fq (p:=s.from_.toNat+7+EC s.b s.from_.toNat<=M s.b) A0,LX]
  rfl
 ·rw [Fq (p:=s.from_.toNat+7<=M s.b) h1]
  rfl
def ajK (fx:Ex->Dv->Dv) (hr:∀s',fx .ret s'={s' with st:=.done .ret}) (h0:∀s',fx (.exit 0) s'={s' with st:=.ready}) (s:Dv) (h:s.st=.ready):allR (λ_=>True) (λx s'=>fx x s'=s') ((MX s).rd s):=by
 obtain ⟨from_,FR,FP,Lt,Ln,M0,Lq,b2,Ws,WS,Ct,Wf,b,rs,st⟩:=s;subst h;unfold MX;dsimp only [T.rd,T.rl,T.rv];refine allR_ite (λc1=>?_) λc1=>?_
 ·refine allR_ite (λc2=>?_) (λc2=>?_)
  ·refine allR_ite (λc3=>?_) (λc3=>?_)
   ·refine allR_ite (λc4=>?_) (λc4=>?_)
    ·refine allR_ite (λc5=>?_) (λc5=>?_)
     ·exact hr _
     ·refine allR_ite (λc6=>?_) (λc6=>?_)
      ·grind
      ·trivial
    ·refine allR_ite (λc5=>?_) (λc5=>?_)
     ·exact hr _
     ·exact aJG
   ·refine allR_ite (λc4=>?_) (λc4=>?_)
    ·exact hr _
    ·exact aJH
  ·exact h0 _
 ·exact h0 _
def fA (s:Dv):Prop:=s.st=.ready/\5<=s.from_/\s.from_<=(M s.b:Y)/\M s.b<=4096/\As s.b/\s.Ct=s.from_/\(M s.rs:Y)<=s.from_
def eW (s:Dv):Prop:=s.st=.ready/\5<=s.from_/\s.from_<=(M s.b:Y)/\M s.b<=4096/\As s.b/\s.Ct=s.from_/\(M s.rs:Y)<=s.from_
def pB (s:Dv):aC:=((M s.b:Y)-s.from_).toNat
def adL (x:Ex) (s s':Dv):Prop:=True
def agc:∀s,fA s->eW s:=by
 exact λs h=>h
def ay4:Da eW pB adL MX:=by
 intro s hI;unfold MX;dsimp only [T.rd,T.rl,T.rv];refine allR_ite (λc1=>?_) λc1=>?_
 ·refine allR_ite (λc2=>?_) (λc2=>?_)
  ·refine allR_ite (λc3=>?_) (λc3=>?_)
   ·refine allR_ite (λc4=>?_) (λc4=>?_)
    ·refine allR_ite (λc5=>?_) (λc5=>?_)
     ·trivial
     ·refine allR_ite (λc6=>?_) (λc6=>?_)
      ·grind
      ·obtain ⟨ht,h5,hl,h4,hb,he,hr⟩:=hI
       have w7:AA (s.from_+7)=s.from_+7:=AG
       have c3:s.from_+7<=(M s.b:Y):=A8
       have c4:=C9 c4
       obtain ⟨e1,e2,e3,e4,e5⟩:=Js s hb A0 c3 h4;refine ⟨⟨ht,A8,c4,h4,hb,rfl,?_⟩,?_⟩
       ·grind
       ·simp only [pB];omega
    ·refine allR_ite (λc5=>?_) (λc5=>?_)
     ·trivial
     ·exact aJG
   ·refine allR_ite (λc4=>?_) (λc4=>?_)
    ·trivial
    ·exact aJH
  ·trivial
 ·trivial
def Mf:LpD Dv:=⟨6,83,[0,1,3],[.nc 3 2 30<|.sl<|.int aw],λs=>[.yld 5,.own 4 0,s.from_],λs=>[⟨[s.FR,.xl (.int aw) s.FP],32,.cl,X⟩,⟨[s.Lt,.v<|ag ax s.Ln,.v<|.slice aj 0 0,s.M0,s.Lq],238,.cl,X⟩,⟨[s.b2],53,.cl,X⟩,⟨[s.Ws,.v<|ag ax s.WS,.os 6 1 0<|M s.rs,s.Ct,s.Wf],238,.cl,X⟩,⟨[.xl (.int aw) s.b],30,.cl,X⟩,⟨[.junk,.junk,.own 1 0,.own 2 0,.junk,.junk,.junk,.own 3 0,.v<|.tuple #[],.junk,.junk,.junk,.junk,.junk,.junk,.junk,.junk,.junk,.junk,.junk,.junk,.junk,.junk,.junk,.junk,.junk,.junk,.junk,.junk,.junk,.junk,.junk,.junk,.junk,.v<|.tuple #[],.v<|.tuple #[],.v<|.tuple #[],.v<|.tuple #[],.v<|.tuple #[],.v<|.tuple #[],.v<|.tuple #[],.v<|.tuple #[],.v<|.tuple #[],.v<|.tuple #[],.v<|.tuple #[],.v<|.tuple #[],.v<|.tuple #[],.v<|.tuple #[],.v<|.tuple #[],.v<|.tuple #[],.v<|.tuple #[],.junk,.junk,.junk,.junk,.junk,.junk,.junk,.junk,.junk,.junk,.junk,.junk,.junk,.junk,.junk,.junk,.junk,.junk],0,.lrec awc awv awn s.st,X⟩,⟨[],30,.vec (.sl<|.int aw) s.rs,X⟩],λv b=>⟨AJ v 2,Ad b 0 0,AB (.int aw) b 0 1,Ad b 1 0,Ad b 1 1,Ad b 1 3,IB b 1 4,Ad b 2 0,Ad b 3 0,Ad b 3 1,Ad b 3 3,IB b 3 4,AB (.int aw) b 4 0,AV (.sl<|.int aw) b 6,.ready⟩,MX,λs r=> {r with FR:=s.FR,FP:=s.FP,Ws:=s.Ws,WS:=s.WS,Wf:=s.Wf,b:=s.b},λs=> {s with st:=.ready},λx s=> {s with st:=(match x with| .ret=>(.done<|.ret) | .exit 0=> .ready|_=> .ready)},[.ret,.exit 0],fA,eW,pB⟩
abbrev Cf:=Mf.run
abbrev aGV:=Mf.exn
def lY:aM:=[YJ,nL,YN,YI,YM]
def arx:Aj:=kI lY<|l0 lY
def axD:Rq eW MX:=by
 intro s hI;refine ⟨λc1=>⟨?_,λc2=>⟨λc3=>⟨?_,?_,?_,λc4=>⟨?_,?_,?_,?_,λc5=>⟨A9,ak⟩,λc5=>⟨?_,?_,?_,λc6=>⟨?_,ak⟩,λc6=>⟨?_,ak⟩⟩⟩,λc4=>⟨λc7=>⟨A9,ak⟩,λc7=>⟨?_,?_,?_,λc8=>⟨?_,ak⟩,λc8=>⟨?_,ak⟩⟩⟩⟩,λc3=>⟨λc9=>⟨A9,ak⟩,λc9=>⟨?_,?_,?_,λc10=>⟨?_,ak⟩,λc10=>⟨?_,ak⟩⟩⟩⟩,λc2=>⟨A9,ak⟩⟩,λc1=>⟨A9,ak⟩⟩
 ·(obtain ⟨ht,h5,hl,h4,hb,he,hr⟩:=hI;have w7:AA (s.from_+7)=s.from_+7:=AG;have w1:AA (s.from_+1)=s.from_+1:=AG;have w3:AA (s.from_+3)=s.from_+3:=AG;simp only [AU] at c1;omega)
 iterate 3 · (obtain ⟨ht,h5,hl,h4,hb,he,hr⟩:=hI;have w7:AA (s.from_+7)=s.from_+7:=AG;have w1:AA (s.from_+1)=s.from_+1:=AG;have w3:AA (s.from_+3)=s.from_+3:=AG;have k3:s.from_+7<=(M s.b:Y):=Li;obtain ⟨e1,e2,e3,e4,e5⟩:=Js s hb A0 k3 h4;(first|omega|(rw [w1,w3];omega) |(rw [w3,w7];omega)))
 iterate 2 · (obtain ⟨ht,h5,hl,h4,hb,he,hr⟩:=hI;have w7:AA (s.from_+7)=s.from_+7:=AG;have w1:AA (s.from_+1)=s.from_+1:=AG;have w3:AA (s.from_+3)=s.from_+3:=AG;have k3:s.from_+7<=(M s.b:Y):=Li;obtain ⟨e1,e2,e3,e4,e5⟩:=Js s hb A0 k3 h4;have k4:DO s<=(M s.b:Y):=C9 c4;have hD:M (Et s.b s.from_.toNat)<=4096:=Vo;(first|omega|(rw [w1,w3];omega) |(rw [w3,w7];omega) |(rw [w7];exact ⟨A0,A0,k4,rfl⟩)))
 ·(obtain ⟨ht,h5,hl,h4,hb,he,hr⟩:=hI;have w7:AA (s.from_+7)=s.from_+7:=AG;have w1:AA (s.from_+1)=s.from_+1:=AG;have w3:AA (s.from_+3)=s.from_+3:=AG;have k3:s.from_+7<=(M s.b:Y):=Li;obtain ⟨e1,e2,e3,e4,e5⟩:=Js s hb A0 k3 h4;have k4:DO s<=(M s.b:Y):=C9 c4;have hD:M (Et s.b s.from_.toNat)<=4096:=Vo;rw [e5];refine ⟨AH,λp hp=>?_⟩;simp only [Ak,B8,B6] at hp;rcases hp with rfl|rfl;(first|(simp only [IN,DV];omega) |omega);omega)
 ·(obtain ⟨ht,h5,hl,h4,hb,he,hr⟩:=hI;have w7:AA (s.from_+7)=s.from_+7:=AG;have w1:AA (s.from_+1)=s.from_+1:=AG;have w3:AA (s.from_+3)=s.from_+3:=AG;have k3:s.from_+7<=(M s.b:Y):=Li;obtain ⟨e1,e2,e3,e4,e5⟩:=Js s hb A0 k3 h4;have k4:DO s<=(M s.b:Y):=C9 c4;have hD:M (Et s.b s.from_.toNat)<=4096:=Vo;rw [e3];simp only [IN,DV];omega)
 ·(obtain ⟨ht,h5,hl,h4,hb,he,hr⟩:=hI;have w7:AA (s.from_+7)=s.from_+7:=AG;have w1:AA (s.from_+1)=s.from_+1:=AG;have w3:AA (s.from_+3)=s.from_+3:=AG;have k3:s.from_+7<=(M s.b:Y):=Li;obtain ⟨e1,e2,e3,e4,e5⟩:=Js s hb A0 k3 h4;have k4:DO s<=(M s.b:Y):=C9 c4;have hD:M (Et s.b s.from_.toNat)<=4096:=Vo;rw [e4];simp only [Av,BB,BG,DR];try omega)
 ·grind
 iterate 3 · (obtain ⟨ht,h5,hl,h4,hb,he,hr⟩:=hI;have w7:AA (s.from_+7)=s.from_+7:=AG;have w1:AA (s.from_+1)=s.from_+1:=AG;have w3:AA (s.from_+3)=s.from_+3:=AG;have k3:s.from_+7<=(M s.b:Y):=Li;obtain ⟨e1,e2,e3,e4,e5⟩:=Js s hb A0 k3 h4;have k4:DO s<=(M s.b:Y):=C9 c4;have hD:M (Et s.b s.from_.toNat)<=4096:=Vo;rw [e4];simp only [Av,BB,BG,DR];try omega)
 iterate 5 · exact absurd c7 AT
 iterate 5 · exact absurd c9 AT
def aaV:Mf.Ok:=⟨λs=>AM,λs _=>ajK Mf.fx (λ_=>rfl) (λ_=>rfl) (Mf.rd s) rfl,λs=>rfl,λs t r=>rfl,λs=>rfl,λs=>AM⟩
def aaH:Mf.Pf (adL):=⟨agc,λs h=>by
 obtain ⟨from_,FR,FP,Lt,Ln,M0,Lq,b2,Ws,WS,Ct,Wf,b,rs,st⟩:=s
 have e:=h.1
 subst e;rfl,ay4,axD⟩
def iu:=s2 (b:=bN f208 0) aaV aaH lY arx
def asW:Rs fA aGV Cf (λs:Dv=>(s.rs++(Gn s.b s.from_.toNat).1,(Gn s.b s.from_.toNat).2.1,(Gn s.b s.from_.toNat).2.2)) (λx s' (v:List (List Int)×Nat×Bool)=>(x=.exit 0/\s'.rs=v.1/\s'.Ct=(v.2.1:Y)/\v.2.2=U)\/(x=.ret/\v.2.2=X/\s'.b2=11/\s'.Lt=0/\s'.Ln=0/\s'.M0=0/\s'.Lq=X)):=CM aaV aaH (λs hI=>by
  show allR _ _ ((MX s).rd s)
  unfold MX;dsimp only [T.rd,T.rl];refine allR_ite (λc1=>?_) λc1=>?_
  ·refine allR_ite (λc2=>?_) (λc2=>?_)
   ·refine allR_ite (λc3=>?_) (λc3=>?_)
    ·refine allR_ite (λc4=>?_) (λc4=>?_)
     ·refine allR_ite (λc5=>?_) (λc5=>?_)
      ·obtain ⟨ht,h5,hl,h4,hb,he,hr⟩:=hI
       have w7:AA (s.from_+7)=s.from_+7:=AG
       have hq:=RT s.b s.from_.toNat
       rw [Bu A0] at hq;rw [AD ⟨dP,D4⟩] at hq
       have k3:s.from_+7<=(M s.b:Y):=Li
       obtain ⟨e1,e2,e3,e4,e5⟩:=Js s hb A0 k3 h4
       have hg:=adD s hb A0 k3 h4<|C9 c4
       have hg:J0 s.b s.from_.toNat=false:=aLK
       exact qf
      ·refine allR_ite (λc6=>?_) (λc6=>?_)
       ·exact absurd (c5.symm.trans c6) AT
       ·obtain ⟨ht,h5,hl,h4,hb,he,hr⟩:=hI
        have w7:AA (s.from_+7)=s.from_+7:=AG
        have hq:=RT s.b s.from_.toNat
        rw [Bu A0] at hq;rw [AD ⟨dP,D4⟩] at hq
        have k3:s.from_+7<=(M s.b:Y):=Li
        obtain ⟨e1,e2,e3,e4,e5⟩:=Js s hb A0 k3 h4
        have hg:=adD s hb A0 k3 h4<|C9 c4
        have hg:J0 s.b s.from_.toNat=true:=aLK
        rw [AD hg] at hq
        have et:(DO s).toNat=s.from_.toNat+7+EC s.b s.from_.toNat:=A0
        have ed:((([]:aB)++Iu s).drop 0).take (0+M (Iu s))=Et s.b s.from_.toNat:=by
         rw [e4,FK,Bq,Ck];exact CY<|Ar _
        show (s.rs++[_]++(Gn s.b (DO s).toNat).1,(Gn s.b (DO s).toNat).2.1,(Gn s.b (DO s).toNat).2.2)=(s.rs++(Gn s.b s.from_.toNat).1,(Gn s.b s.from_.toNat).2.1,(Gn s.b s.from_.toNat).2.2)
        rw [ed,et,hq];simp only [DQ,cN,FK]
     ·refine allR_ite (λc5=>?_) (λc5=>?_)
      ·obtain ⟨ht,h5,hl,h4,hb,he,hr⟩:=hI
       have w7:AA (s.from_+7)=s.from_+7:=AG
       have hq:=RT s.b s.from_.toNat
       rw [Bu A0] at hq;rw [AD ⟨dP,D4⟩] at hq
       have k3:s.from_+7<=(M s.b:Y):=Li
       obtain ⟨e1,e2,e3,e4,e5⟩:=Js s hb A0 k3 h4
       have hg:=adF s A0 h4<|.inr (by have:=Gu c4;omega)
       exact qf
      ·refine allR_ite (λc6=>?_) (λc6=>?_)
       ·exact absurd c5 AT
       ·exact absurd c5 AT
    ·refine allR_ite (λc4=>?_) (λc4=>?_)
     ·obtain ⟨ht,h5,hl,h4,hb,he,hr⟩:=hI
      have w7:AA (s.from_+7)=s.from_+7:=AG
      have hq:=RT s.b s.from_.toNat
      rw [Bu A0] at hq;rw [AD ⟨dP,D4⟩] at hq
      have hg:=adF s A0 h4<|.inl (by rw [w7] at c3;have:=Gu c3;omega)
      exact qf
     ·refine allR_ite (λc5=>?_) (λc5=>?_)
      ·exact absurd c4 AT
      ·exact absurd c4 AT
   ·obtain ⟨ht,h5,hl,h4,hb,he,hr⟩:=hI
    have hq:=RT s.b s.from_.toNat
    rw [Bu A0] at hq;rw [AE A8] at hq;rw [hq];exact .inl ⟨rfl,(HX _).symm,AP,rfl⟩
  ·obtain ⟨ht,h5,hl,h4,hb,he,hr⟩:=hI
   have hq:=RT s.b s.from_.toNat
   rw [Bu A0] at hq;rw [AE A8] at hq;rw [hq];exact .inl ⟨rfl,(HX _).symm,AP,rfl⟩)
structure LO where
 l:aB
 (n i iR vr lM:Y)
 wg:aL
 (b1 Rk Qt Sq:Y)
 GR:aL
 rs:aI
def vI (s:LO):T (Rd LO):=
 .br (an<|s.i<s.n) (.ix s.i (M s.l)<|.br s.GR (.rl s.rs<|.nx {s with i:=AA<|s.i+1,GR:=((gi s.l s.i)==255)})<|.rl s.rs<|.nx {s with i:=AA<|s.i+1,GR:=X}) (.rl s.rs<|.so (.exit 2) s)
def fC (s:LO):Prop:=s.i=0/\s.n<=4096/\s.n=(M s.l:Y)
def eY (s:LO):Prop:=0<=s.i/\s.i<=s.n/\s.n<=4096/\s.n=(M s.l:Y)
def mQ (s:LO):aC:=(s.n-s.i).toNat
def adM (x:Ex) (s s':LO):Prop:=True
def agf:∀s,fC s->eY s:=by
 exact cw
def axX:Da eY mQ adM vI:=by
 intro s hI;obtain ⟨h0,h1,h2,h3⟩:=hI;refine allR_ite (λc1=>?_) λc1=>?_
 ·refine allR_ite (λc2=>?_) (λc2=>?_)
  ·exact aIs
  ·exact aIs
 ·trivial
def QH:LpD LO:=⟨0,69,[2,3,7,54,55,56],[],λs=>[.own 0 0,.own 1 0,.own 2 0,.xl (.int aw) s.l,s.n,s.i],λs=>[⟨[s.iR,.v<|ag ax s.vr,.v<|.slice aj 0 0,s.lM,s.wg],238,.cl,X⟩,⟨[s.b1],53,.cl,X⟩,⟨[s.Rk,.v<|ag ax s.Qt,.os 3 1 0<|M s.rs,s.Sq,s.GR],238,.cl,X⟩,⟨[],30,.vec (.sl<|.int aw) s.rs,X⟩],λv b=>⟨Ag (.int aw) v 3,AJ v 4,AJ v 5,Ad b 0 0,Ad b 0 1,Ad b 0 3,IB b 0 4,Ad b 1 0,Ad b 2 0,Ad b 2 1,Ad b 2 3,IB b 2 4,AV (.sl<|.int aw) b 3⟩,vI,λs r=> {s with i:=r.i,GR:=r.GR},λs=>s,λ_ s=>s,[.exit 2],fC,eY,mQ⟩
abbrev iv:=QH.run
abbrev atO:=QH.exn
def axF:Rq eY vI:=by
 exact aHo
def lX:aM:=[YJ,nL,YN,YI,YM]
def arv:Aj:=kI lX<|la 1 func208 iu<|l0 lX
def aaX:QH.Ok:={}
def aaJ:QH.Pf (adM):=⟨agf,λs h=>rfl,axX,axF⟩
def aCW:=s1 (b:=bN f124 0) aaX aaJ lX arv
def ash:Rs fC atO iv (λs:LO=>s.GR&&(s.l.drop s.i.toNat).all (λb=>b==255)) (λx s' (v:aL)=>x=.exit 2/\s'.GR=v):=CM aaX aaJ (λs hI=>by
  obtain ⟨h0,h1,h2,h3⟩:=hI;refine allR_ite (λc1=>allR_ite (λc2=>?_) λc2=>?_) λc1=>?_
  ·have c1:s.i<s.n:=A8
   rw [AG (x:=s.i+1)]
   show (_&&_)=(_&&_)
   rw [(gi_step h0 A0).1,GD,c2,Cr]
  ·have c1:s.i<s.n:=A8
   rw [c2];rfl
  ·have c1:s.n<=s.i:=A8
   refine ⟨rfl,?_⟩;rw [DD A0];exact (cj _).symm)
def lq {b:aB}:∀ {n f:aC},f<=M b->(F5 b n f).2.1<=M b
 |0,_,h=>h
 | n+1,f,h=>by
  simp only [F5];split
  ·split
   ·rename_i hg
    unfold J0 rcF at hg;simp only [AS,AU] at hg;exact lq (n:=n) hg.1.2
   ·exact h
  ·exact h
def De (se:Y) (fl:aB):Y:=if BT se fl=0 then Ah fl else 0
def HI (se:Y) (fl:aB):Y:=if BT se fl=0 then Gc fl (Ah fl) else 0
def CR (se:Y) (fl:aB):aI:=if BT se fl=0 then (Cz fl).1 else []
def G1 (se:Y) (fl:aB):Y:=if BT se fl=0 then ((Cz fl).2.1:Y) else 0
def Jm (se:Y) (fl:aB):aL:=if BT se fl=0 then lkC fl else X
end Go.Proofs.YtjjcgjkagokchaaGreatDoor
namespace Go.Sx
open Go Go.RowKit Go.Proofs.YtjjcgjkagokchaaGreatDoor
variable {P : Program} {G : Globs} {Γ : Specs} {K : Hand} {L : Loops} {Z0 : Gz} {w0 : World}
abbrev QI:=Nat->Option (List Nat×List Up)
def X8 (P:aR) (G:bb) (Γ:aLY) (K:aMf) (L:LoopC) (cs:QI):bE->aD->aE->T (Ex×List LV×List Blk)
 | .seq a b,F,H=>(X8 P G Γ K L cs a F H).bind λq=>match q.1 with
  | .normal=>match cs (firstR b) with
   |some (live,us)=>(canT 0 live us .normal q.2.1 q.2.2).bind λv=>if v.low then X8 P G Γ K L cs b (frameOf (M q.2.1) live v.vals) v.blks else .no
   |none=>X8 P G Γ K L cs b q.2.1 q.2.2
  |x=> .ok (x,q.2)
 |c,F,H=>codex P G Γ K L c F H
def aeQ {L:LoopC}{cs:QI}(hΓ:∀g S,Γ g=ah S->Valid P G g S) (hK:KSound P G K) (c:bE) (hl:∀b∈loopsIn c,SoundA P G (AN 0) (.loop b)<|L b):SoundA P G (AN 0) c (X8 P G Γ K L cs c):=by
 induction c with
 | seq c1 c2 ih1 ih2=>
  intro r w0 Z0 Z β F H a w ds Q x F' H' hA hr hD hW hF h hQ;obtain ⟨⟨y,F1,H1⟩,h1,h2⟩:=T.bind_all h;obtain ⟨hr1,hr2⟩:=nr_left (show r=aj\/(noRF c1&&noRF c2)=U from hr);refine wpIn_seq<|ih1 (λb hb=>hl b OO) r w0 Z0 Z β F H a w ds _ y F1 H1 hA hr1 hD hW hF h1 λds' Z' β' a' w' e0 e1 e2=>?_
  cases y with
  | normal=>
   simp only at h2;split at h2
   ·rename_i live us hcs
    obtain ⟨v,h3,h4⟩:=T.bind_all h2;split at h4
    ·rename_i hlow
     obtain ⟨_,_,Z2,β2,e3,e4⟩:=canT_sound hA e1 e2 h3 hlow;exact ih2 (λb hb=>hl b OO) r w0 Z0 Z2 β2 _ _ a' w' ds' Q x F' H' hA hr2 e0 e3 e4 h4 hQ
    ·cases h4
   ·exact ih2 (λb hb=>hl b OO) r w0 Z0 Z' β' F1 H1 a' w' ds' Q x F' H' hA hr2 e0 e1 e2 h2 hQ
  |exit m=>
   obtain ⟨rfl,rfl,rfl⟩:=h2;exact hQ ds' Z' β' a' w' e0 e1 e2
  |ret=>
   obtain ⟨rfl,rfl,rfl⟩:=h2;exact hQ ds' Z' β' a' w' e0 e1 e2
 |_=>exact code_soundA hΓ hK _ hl
def Yi (P:aR) (G:bb) (Γ:aLY) (K:aMf) (L:aMs) (cs:QI) (fn:aL8) (args:aD):T LV:=
 (match fn.body with
 |some c=>finX P fn (X8 P G Γ K (byId L) cs c) args
 |none=> .no).bind λx=> .ok<|canX<|upR P fn.resultTypes.toList x
def adt {f:bg}{fn:aL8}{c:bE}{S:aD->T LV}{cs:QI}(hfn:P.funcs[f]? =ah fn) (hc:fn.body=ah c) (hΓ:∀g S,Γ g=ah S->Valid P G g S) (hK:KSound P G K)
  (hL:∀b∈loopsIn c,Sound P G (.loop b)<|L<|firstR b) (hS:∀args lv,(S args).all (λx=>x=lv)->(Yi P G Γ K L cs fn<|canL args).all (λx=>x=lv)):Valid P G f (IE P fn.params.toList S):=
 wz (valid_core hfn hc<|aeQ (L:=byId L) (cs:=cs) hΓ hK c hL) (λargs lv h=>by have:=hS args lv h;unfold Yi at this;simpa only [hc] using this)
def T.vL {α:Type}:T α->T α
 | .br b t e=> .br b t.red e.red
 | .req p t=> .req p (T.vL t)
 |t=>t
def T.xo {α:Type}{K:α->Prop}:∀ {t:T α},t.vL.all K->t.all K
 | .ok _,h=>h
 | .br _ _ _,h=>⟨λhb=>T.RE<|h.1 hb,λhb=>T.RE<|h.2 hb⟩
 | .req _ _,h=>⟨h.1,T.xo h.2⟩
 | .no,h=>h
end Go.Sx
namespace Go.Proofs.YtjjcgjkagokchaaGreatDoor
set_option maxRecDepth 100000
set_option maxHeartbeats 4000000
open Go.Proofs.Tryz
open Go.Sx
def aa9 {b:aB}:∀(n f:aC),M (F5 b n f).1<=n
 |0,_=>Ar _
 | n+1,f=>by
  simp only [F5];split
  ·split
   ·have:=aa9 (b:=b) n (f+7+EC b f)
    grind
   ·grind
  ·grind
def aFs {b:aB}(h:As b):∀(n f:aC),∀d∈(F5 b n f).1,As d/\M d<=M b
 |0,_,d,hd=>OS
 | n+1,f,d,hd=>by
  simp only [F5] at hd;split at hd
  ·split at hd
   ·rcases Ak.1 hd with rfl|hd
    ·exact ⟨λx hx=>h x<|LY<|OA hx,by unfold Et;rw [IN,DV];omega⟩
    ·exact aFs h n _ d hd
   ·cases hd
  ·cases hd
def aFr {se:Y}{fl:aB}(h:As fl) (hl:M fl<=4096):M (CR se fl)<=4096/\(∀d∈CR se fl,As d)/\∀d∈CR se fl,M d<=4096:=by
 unfold CR;split
 ·have ha:=WZ fl (Ah fl)
  have hb:As (B5 fl<|Ah fl):=λx hx=>by
   unfold B5 at hx;split at hx
   ·exact h x<|OA hx
   ·exact h x<|LY<|OA hx
  have hg:=aFs hb (M<|B5 fl<|Ah fl) 5
  refine ⟨?_,λd hd=>(hg d hd).1,λd hd=>by have:=(hg d hd).2;omega⟩
  have:=aa9 (b:=B5 fl<|Ah fl) (M<|B5 fl<|Ah fl) 5
  unfold Cz;omega
 ·grind
structure HE where
 f0:Y
 f1:aB
def SV (s:HE):aD:=[.agg [s.f0,.xl (.int aw) s.f1]]
def V2 (s:HE):aE:=[]
def CC (s:HE):Dv:=(⟨5,s.f0,s.f1,0,0,0,X,0,Ah s.f1,Eh<|((B5 s.f1<|Ah s.f1).drop (1:Y).toNat).take<|(5:Y).toNat-(1:Y).toNat,5,U,B5 s.f1<|Ah s.f1,([]:aI),.ready⟩:Dv)
def gB (s:HE):LO:=(⟨((B5 s.f1<|Ah s.f1).drop (Cf<|CC s).Ct.toNat).take<|(M (B5 s.f1<|Ah s.f1):Y).toNat-(Cf<|CC s).Ct.toNat,(M (((B5 s.f1<|Ah s.f1).drop (Cf<|CC s).Ct.toNat).take<|(M (B5 s.f1<|Ah s.f1):Y).toNat-(Cf<|CC s).Ct.toNat):Y),0,(Cf<|CC s).Lt,(Cf<|CC s).Ln,(Cf<|CC s).M0,(Cf<|CC s).Lq,(Cf<|CC s).b2,Ah s.f1,Eh<|((B5 s.f1<|Ah s.f1).drop (1:Y).toNat).take<|(5:Y).toNat-(1:Y).toNat,(Cf<|CC s).Ct,U,(Cf<|CC s).rs⟩:LO)
structure Sr where
 (c0 c1 c3:Y)
 c4:aL
 e:Y
 rs:aI
def abJ (s:Sr):LV:=.tup [.agg [s.c0,.v<|ag ax s.c1,.os 0 1 0<|M s.rs,s.c3,s.c4],s.e]
def ac5 (s:Sr):aE:=[⟨[],30,.vec (.sl<|.int aw) s.rs,X⟩]
def Y8 (s:HE):T Sr:=
 .br (!(Dj s.f0 s.f1)) (.ok<|⟨0,0,0,X,1,([]:aI)⟩) (.req (Dj s.f0 s.f1=U)<|.br ((FZ s.f1) !=0) (.ok<|⟨0,0,0,X,FZ s.f1,([]:aI)⟩)<|.req (((Ah s.f1)=0\/(Ah s.f1)=1)/\M s.f1<=4096)<|.req (0<=(1:Y)/\(1:Y)<=(5:Y)/\(5:Y)<=(M (B5 s.f1<|Ah s.f1):Y))<|.req (4<=M (((B5 s.f1<|Ah s.f1).drop (1:Y).toNat).take<|(5:Y).toNat-(1:Y).toNat))<|.r0 (List Int)<|.req (Mf.q<|CC s)<|.br (isEx (aGV<|CC s)<|.ret) (.ok<|⟨(Cf<|CC s).Lt,(Cf<|CC s).Ln,(Cf<|CC s).M0,(Cf<|CC s).Lq,(Cf<|CC s).b2,([]:aI)⟩)<|.req (0<=(Cf<|CC s).Ct/\(Cf<|CC s).Ct<=(M (B5 s.f1<|Ah s.f1):Y)/\(M (B5 s.f1<|Ah s.f1):Y)<=(M (B5 s.f1<|Ah s.f1):Y))<|.rl (Cf<|CC s).rs<|.req (QH.q<|gB s)<|.ok<|⟨Ah s.f1,Eh<|((B5 s.f1<|Ah s.f1).drop (1:Y).toNat).take<|(5:Y).toNat-(1:Y).toNat,(Cf<|CC s).Ct,(iv<|gB s).GR,0,(Cf<|CC s).rs⟩)
def ud (s:HE):Prop:=As s.f1
def oN (s:HE):Sr:=⟨De s.f0 s.f1,HI s.f0 s.f1,G1 s.f0 s.f1,Jm s.f0 s.f1,BT s.f0 s.f1,CR s.f0 s.f1⟩
def Nd:C4 HE Sr:=⟨SV,V2,λv b=>⟨gI<|gAg (v.getD 0 .junk) 0,gXl (.int aw)<|gAg (v.getD 0 .junk) 1⟩,ud,[],[.tn 2 30<|.sl<|.int aw],abJ,ac5,oN⟩
abbrev mO (s:HE):Prop:=ud s/\SV s=SV s/\V2 s=V2 s
def Rx:aM:=[YJ,nL,YN,YI,YM]
def aFg:Aj:=kI Rx<|la 15 func124 aCW<|la 1 func208 iu<|l0 Rx
def aLS:aL3:=addL 124 0 15 (QH.lp)<|addL 208 6 1 (Mf.lp)<|unrL prog AO Rx 20 2
def ah1:LLok prog AO aLS:=addL_ok func124 rfl AM aCW<|addL_ok func208 rfl AM iu<|unrL_ok<|gk Rx
def aqz (s:HE):((stepH prog AO Rx aLS aFg).k 124 (SV s)<|V2 s).bind (λq=>canT (M<|V2 s) [0] [.tn 2 30<|.sl<|.int aw] .normal (q.1::SV s) q.2)=(Y8 s).mp (λs2=>⟨.normal,M (SV s)+1,[abJ s2],ac5 s2,U⟩):=AM
def aof (s:HE) (hE:ud s):(Y8 s).all (λq=>q=oN s):=by
 obtain ⟨se,fl⟩:=s
 have hb:As fl:=hE
 have fin:∀(a g:Y) (r:aI) (n:Y) (c:aL) (e:Y),a=De se fl->g=HI se fl->r=CR se fl->n=G1 se fl->c=Jm se fl->e=BT se fl->
  (⟨a,g,n,c,e,r⟩:Sr)=oN ⟨se,fl⟩:=λa g r n c e h1 h2 h3 h4 h5 h6=>by rw [h1,h2,h3,h4,h5,h6];rfl
 unfold Y8;dsimp only;refine ⟨λc1=>?_,λc1=>⟨AQ,λc2=>?_,λc2=>?_⟩⟩
 ·have c1:Dj se fl=false:=AQ
  have hE:BT se fl=1:=by unfold BT;rw [AD c1]
  exact aIj
 ·have c1:Dj se fl=true:=AQ
  have c2:FZ fl≠0:=D4
  have hE:BT se fl=FZ fl:=by unfold BT;rw [AE W2,AD c2]
  refine fin _ _ _ _ _ _ ?_ ?_ ?_ ?_ ?_ hE.symm<;>simp [De,HI,CR,G1,Jm,hE,c2]
 have c1:Dj se fl=true:=AQ
 have c2:FZ fl=0:=D4
 have hj:=JQ.1 c1
 have hw:Ah fl=0\/Ah fl=1:=aKn
 have hl:=WZ fl<|Ah fl
 have hab:As (B5 fl<|Ah fl):=by
  intro x hx;unfold B5 at hx;split at hx
  ·exact hb x<|OA hx
  ·exact hb x<|LY<|OA hx
 have hQ:Cz fl=Gn (B5 fl<|Ah fl) 5:=rfl
 have hE0:fA (CC ⟨se,fl⟩):=⟨rfl,by show (5:Y)<=5;decide,by show (5:Y)<=(M (B5 fl<|Ah fl):Y);omega,by show M (B5 fl<|Ah fl)<=4096;omega,hab,rfl,by show ((M ([]:aI):aC):Y)<=5;decide⟩
 have hr:=asW _ hE0
 have hv:(CC ⟨se,fl⟩).rs=[]:=rfl
 have hf:(CC ⟨se,fl⟩).from_.toNat=5:=rfl
 have hB:(CC ⟨se,fl⟩).b=B5 fl (Ah fl):=rfl
 simp only [hv,hf,hB,FK,<-hQ] at hr;refine ⟨⟨hw,hj.2.2.2.1⟩,⟨AT,AT,A0⟩,A8,A9,⟨hE0,rfl,rfl⟩,λc3=>?_,λc3=>?_⟩
 ·have c3:=isEx_eq c3
  rcases hr with ⟨q1,_⟩ |⟨q1,q2,q3,q4,q5,q6,q7⟩
  ·rw [c3] at q1;cases q1
  ·have hE:BT se fl=11:=by unfold BT;rw [AE W2,AE OR,AE (by rw [q2];decide)]
   rw [q3,q4,q5,q6,q7];exact aIj
 ·rcases hr with ⟨q1,q2,q3,q4⟩ |⟨q1,_⟩
  ·have hE:BT se fl=0:=by unfold BT;rw [AE W2,AE OR,AD q4]
   have hn:(Cz fl).2.1<=M (B5 fl<|Ah fl):=lq A0
   have eL:((B5 fl<|Ah fl).drop (Cf<|CC ⟨se,fl⟩).Ct.toNat).take ((M (B5 fl<|Ah fl):Y).toNat-(Cf<|CC ⟨se,fl⟩).Ct.toNat)=(B5 fl<|Ah fl).drop (Cz fl).2.1:=by
    rw [q3,Bs,Bs];exact CY sO
   have hC:fC (gB ⟨se,fl⟩):=⟨rfl,by
    show (M (((B5 fl<|Ah fl).drop (Cf<|CC ⟨se,fl⟩).Ct.toNat).take<|(M (B5 fl<|Ah fl):Y).toNat-(Cf<|CC ⟨se,fl⟩).Ct.toNat):Y)<=4096
    rw [eL,DV];omega,rfl⟩
   have hr2:(iv<|gB ⟨se,fl⟩).GR=(U&&((((B5 fl<|Ah fl).drop (Cf<|CC ⟨se,fl⟩).Ct.toNat).take<|(M (B5 fl<|Ah fl):Y).toNat-(Cf<|CC ⟨se,fl⟩).Ct.toNat).drop 0).all (λb=>b==255)):=(ash _ hC).2
   rw [eL,Bq,Cr] at hr2;refine ⟨⟨by rw [q3];omega,by rw [q3];omega,GF _⟩,A9,⟨hC,rfl,rfl⟩,?_⟩
   refine fin _ _ _ _ _ _ ?_ ?_ ?_ ?_ ?_ hE.symm
   ·unfold De;rw [AD hE]
   ·unfold HI Gc;rw [AD hE];rfl
   ·unfold CR;rw [AD hE];exact q2
   ·unfold G1;rw [AD hE];exact q3
   ·unfold Jm;rw [AD hE];exact hr2
  ·exfalso;rw [q1] at c3;simp [isEx] at c3
def alb:CSound prog AO 124 Nd.m:=C4.sound (D:=Nd) (t:=Y8) (gk Rx) ah1 aFg.h aqz λs hE=>⟨aof s hE⟩
def X6:CSound prog AO 124 (H8 λa=>Nd.m a []):=wW alb
def aGO:aD->T LV
 | [.v (.agg ⟨[ag J x1,ag J x2,ag J x3,ag J x4,ag J x5]⟩)]=> .ok (.xl (.int aw)<|plL (x1,x2,x3,x4,x5))
 |_=> .no
def R9:=bN f157 0
def Ii:aM:=[]
def ai2:Sound prog AO (.loop R9) (unrC prog AO Ii noK 20 2 R9):=unrC_sound (gk Ii) kN.h 20 2 R9
def arh (x1 x2 x3 x4 x5:Y):letI a:=(((((((((((((aq (0:Y).toNat (0:Y))++([IntKind.u8.wrap<|x1.fdiv<|2^(24)]))++([IntKind.u8.wrap<|x1.fdiv<|2^(16)]))++([IntKind.u8.wrap<|x1.fdiv<|2^(8)]))++([IntKind.u8.wrap<|x1.fdiv<|2^(0)]))++([IntKind.u8.wrap<|x2.fdiv<|2^(0)]))++([IntKind.u8.wrap<|x3.fdiv<|2^(0)]))++([IntKind.u8.wrap<|x4.fdiv<|2^(24)]))++([IntKind.u8.wrap<|x4.fdiv<|2^(16)]))++([IntKind.u8.wrap<|x4.fdiv<|2^(8)]))++([IntKind.u8.wrap<|x4.fdiv<|2^(0)]))++([IntKind.u8.wrap<|x5.fdiv<|2^(8)]))++([IntKind.u8.wrap<|x5.fdiv<|2^(0)]));(BD prog AO Ii kN (λi=>if i=4 then (unrC prog AO Ii noK 20 2 R9) else noLoops i) f157 [.v<|.agg #[x1,x2,x3,x4,x5]]).red=.req (0<=(0:Y)/\(0:Y)<=(12:Y)/\1*(12:Y)<=2^48/\(12:Y)<2^63) (.req (0<=(24:Y))<|.ra 0 0 1 1<|.req (0<=(16:Y))<|.ra 1 1 2 1<|.req (0<=(8:Y))<|.ra 2 2 3 1<|.req (0<=(0:Y))<|.ra 3 3 4 1<|.req (0<=(0:Y))<|.ra 4 4 5 1<|.req (0<=(0:Y))<|.ra 5 5 6 1<|.req (0<=(24:Y))<|.ra 6 6 7 1<|.req (0<=(16:Y))<|.ra 7 7 8 1<|.req (0<=(8:Y))<|.ra 8 8 9 1<|.req (0<=(0:Y))<|.ra 9 9 10 1<|.req (0<=(8:Y))<|.ra 10 10 11 1<|.req (0<=(0:Y))<|.ra 11 11 12 1<|.req (0+12<=M a)<|.ok<|.xl (.int aw)<|(a.drop 0).take 12):=AM
def aa1:=vm (S:=aGO) func157 Ii kN (L:=(λi=>if i=4 then (unrC prog AO Ii noK 20 2 R9) else noLoops i)) (λb hb=>by
 rw [show loopsIn _=[R9] by kernel_rfl] at hb
 simp only [Ak,B8,B6] at hb;subst hb;exact ai2) (λargs lv h=>by
 refine ⟨?_⟩;unfold aGO at h;split at h
 ·simp only [canL,canX]
  refine @T.RE _ _ _ ?_;rw [arh];obtain rfl:=h
  iterate 25 refine ⟨AT,?_⟩
  refine ⟨Ar _,?_⟩;simp only [T.all,Int.pow_zero,Int.fdiv_one];rfl
 ·cases h)
def ID (d:aB):Le:=if M d=12 then Eg d else (0,0,0,0,0)
def aGM:aD->T LV
 | [.xl (.int aw) d]=> .req (As d) (.tu #[.agg #[(ID d).1,(ID d).2.1,(ID d).2.2.1,(ID d).2.2.2.1,(ID d).2.2.2.2],an<|M d=12])
 |_=> .no
def R8:=bN f85 0
def ai1:Sound prog AO (.loop R8) (unrC prog AO Ii noK 20 2 R8):=unrC_sound (gk Ii) kN.h 20 2 R8
def arf (d:aB):letI a:=(M d:Y);letI b:=AA<|0*2^8;(BD prog AO Ii kN (λi=>if i=6 then (unrC prog AO Ii noK 20 2 R8) else noLoops i) f85 [.xl (.int aw) d]).vL=.br (a !=12) (.tu #[.agg #[(0:Y),(0:Y),(0:Y),(0:Y),(0:Y)],X]) (.req (0<=(0:Y)/\0<a)<|.req (0<=(1:Y)/\1<a)<|.req (0<=(2:Y)/\2<a)<|.req (0<=(3:Y)/\3<a)<|.req (0<=(4:Y)/\4<a)<|.req (0<=(5:Y)/\5<a)<|.req (0<=(6:Y)/\6<a)<|.req (0<=(7:Y)/\7<a)<|.req (0<=(8:Y)/\8<a)<|.req (0<=(9:Y)/\9<a)<|.req (0<=(10:Y)/\10<a)<|.req (0<=(11:Y)/\11<a)<|.tu #[.agg #[CU J (AA<|(CU J (AA<|(CU J (AA<|(CU J b<|AA<|gi d (0:Y))*2^8)<|AA<|gi d (1:Y))*2^8)<|AA<|gi d (2:Y))*2^8)<|AA<|gi d (3:Y),CU J b<|AA<|gi d (4:Y),CU J b<|AA<|gi d (5:Y),CU J (AA<|(CU J (AA<|(CU J (AA<|(CU J b<|AA<|gi d (6:Y))*2^8)<|AA<|gi d (7:Y))*2^8)<|AA<|gi d (8:Y))*2^8)<|AA<|gi d (9:Y),CU J (AA<|(CU J b<|AA<|gi d (10:Y))*2^8)<|AA<|gi d (11:Y)],U]):=AM
def o8 {a b:Y}(h0:0<=a) (h1:a<1099511627776) (hb:0<=b/\b<=255):CU J (AA<|a*2^8) (AA b)=a*256+b:=by
 rw [AG (x:=a*2^8),AG (x:=b)];obtain ⟨a,rfl⟩:=Mo h0;obtain ⟨b,rfl⟩:=Mo hb.1
 have e:∀n:aC,n<4611686018427387904->(BitVec.ofInt (IntKind.bits J) (n:Y)).toNat=n:=λn hn=>by
  show (BitVec.ofInt 64 (n:Y)).toNat=n
  rw [BitVec.toNat_ofInt];omega
 unfold CU;rw [show (a:Y)*2^8=((a*2^8:aC):Y) by omega,BitVec.toNat_or,e _ A0,e _ A0,Xa A0]
 show AA _=_
 rw [AG];omega
def pR {w:Y}(hw:0<=w/\w<=255):CU J (AA<|0*2^8) (AA w)=w:=by
 rw [o8 A0 A0 hw];omega
def abG {z w:Y}(hz:0<=z/\z<=255) (hw:0<=w/\w<=255):CU J (AA<|CU J (AA<|0*2^8) (AA z)*2^8) (AA w)=z*256+w:=by
 rw [pR hz,o8 A0 A0 hw]
def abE {x y z w:Y}(hx:0<=x/\x<=255) (hy:0<=y/\y<=255) (hz:0<=z/\z<=255) (hw:0<=w/\w<=255):
  CU J (AA<|CU J (AA<|CU J (AA<|CU J (AA<|0*2^8) (AA x)*2^8) (AA y)*2^8) (AA z)*2^8) (AA w)=x*16777216+y*65536+z*256+w:=by
 rw [abG hx hy,o8 A0 A0 hz,o8 A0 A0 hw];omega
def aw6:=vm (S:=aGM) func85 Ii kN (L:=(λi=>if i=6 then (unrC prog AO Ii noK 20 2 R8) else noLoops i)) (λb hb=>by
 rw [show loopsIn _=[R8] by kernel_rfl] at hb
 simp only [Ak,B8,B6] at hb;subst hb;exact ai1) (λargs lv h=>by
 refine ⟨?_⟩;unfold aGM at h;split at h
 ·simp only [canL,canX]
  refine @T.xo _ _ _ ?_;rw [arf];rename_i d;obtain ⟨hb,rfl⟩:=h;refine ⟨λc=>?_,λc=>?_⟩
  ·have hl:¬(M d)=12:=Ql
   unfold ID;rw [AE hl,Fq hl];rfl
  have hl:M d=12:=Ql
  iterate 12 refine ⟨⟨AT,A0⟩,?_⟩
  have b:=λi=>pE hb i
  unfold ID;rw [AD hl,Cq hl,abE (b 0) (b 1) (b 2)<|b 3,pR<|b 4,pR<|b 5,abE (b 6) (b 7) (b 8)<|b 9,abG (b 10)<|b 11];rfl
 ·cases h)
def aHM:aD->T LV
 | [.agg [.v (ag J se),.xl (.int aw) fl]]=> .req (As fl) (.ok<|.tup [.xl (.sl<|.int aw)<|CR se fl,BT se fl])
 |_=> .no
def lR:aM:=[]
def asQ:Aj:=FC lR (l0 lR) [⟨124,H8 λa=>Nd.m a [],X6⟩]
def ava:=vo (S:=aHM) func84 lR asQ (λargs lv h=>by
 unfold aHM at h;split at h
 ·rename_i se fl
  refine Af (.req (mO (⟨se,fl⟩:HE))<|.br ((BT se fl) !=0) (.ok<|.tup [.xl (.sl<|.int aw) ([]:aI),(BT se fl)])<|.rz (CR se fl)<|.ok<|.tup [.xl (.sl<|.int aw)<|((CR se fl).drop 0).take<|M<|CR se fl,(0:Y)]) ?_;obtain ⟨h0,rfl⟩:=h;refine ⟨⟨h0,rfl,rfl⟩,λc=>?_,λc=>⟨A0,?_⟩⟩
  ·have c:BT se fl≠0:=EO
   unfold CR;rw [AE c];rfl
  ·have c:BT se fl=0:=EO
   rw [c,Bq,Cc];rfl
 ·cases h)
def ayt {l:aI}(h:∀d∈l,As d) {i:Y}(h0:0<=i) (h1:i<(M l:Y)):As (gx (e:=.sl<|.int aw) l i):=by
 grind
structure Kf where
 e:Y
 l:aI
 (n i:Y)
 out:aN
def xR:=bN f52 0
def ml (s:Kf):T (Rd Kf):=
 .br (an<|s.i<s.n) (.ix s.i (M s.l)<|.req (As<|gx (e:=.sl<|.int aw) s.l s.i)<|.br (!(an<|M (gx (e:=.sl<|.int aw) s.l s.i)=12)) (.rl s.out<|.so (.ret) {s with e:=(9:Y)})<|.rb (M s.out) (M<|[ID<|gx (e:=.sl<|.int aw) s.l s.i]) 40<|.re (M s.out+M ([ID<|gx (e:=.sl<|.int aw) s.l s.i])) (s.out++([ID<|gx (e:=.sl<|.int aw) s.l s.i]))<|.nx {s with i:=AA<|s.i+1,out:=s.out++([ID<|gx (e:=.sl<|.int aw) s.l s.i])}) (.rl s.out<|.so (.exit 0) s)
def Zs (s:Kf):Prop:=s.i=0/\s.n<=5000/\s.n=(M s.l:Y)/\(∀d∈s.l,As d)/\(M s.out:Y)<=s.i
def Z8 (s:Kf):Prop:=0<=s.i/\s.i<=s.n/\s.n<=5000/\s.n=(M s.l:Y)/\(∀d∈s.l,As d)/\(M s.out:Y)<=s.i
def jZ (s:Kf):aC:=(s.n-s.i).toNat
def ab7 (x:Ex) (s s':Kf):Prop:=True
def aw4:∀s,Zs s->Z8 s:=by
 exact Vk
def amr:Da Z8 jZ ab7 ml:=by
 intro s hI;obtain ⟨h0,h1,h2,h3,h4,h5⟩:=hI;refine allR_ite (λc1=>allR_ite (λc2=>trivial) λc2=>?_) λc1=>trivial
 ·have c1:s.i<s.n:=A8
  rw [AG (x:=s.i+1)];exact ⟨⟨A8,A8,h2,h3,h4,A8⟩,by simp only [jZ];omega⟩
def PH:LpD Kf:=⟨0,50,[2,3,6,28,29,30],[.nl 6 87 AL],λs=>[.v<|.slice aj 0 0,s.e,.os 0 5 0<|M s.out,.xl (.sl<|.int aw) s.l,s.n,s.i],λs=>[bV 87 AL s.out],λv b=>⟨AJ v 1,Ag (.sl<|.int aw) v 3,AJ v 4,AJ v 5,AV AL b 0⟩,ml,λs r=> {r with l:=s.l,n:=s.n},λs=>s,λ_ s=>s,[.ret,.exit 0],Zs,Z8,jZ⟩
abbrev fM:=PH.run
abbrev gU:=PH.exn
def apf:Rq Z8 ml:=by
 intro s hI;refine ⟨λc1=>⟨?_,?_,λc2=>⟨A9,ak⟩,λc2=>⟨?_,?_,ak⟩⟩,λc1=>⟨A9,ak⟩⟩
 all_goals ((obtain ⟨h0,h1,h2,h3,h4,h5⟩:=hI;have c1:s.i<s.n:=A8;have hb:=ayt h4 h0 A0;(first|exact hb|omega|(simp only [BB,BG];omega) |(simp only [Av,BB,BG,DR]))))
def aFo:aM:=[ava,aw6,RZ]
def aEm:PH.Ok:={}
def aCw:PH.Pf (ab7):=⟨aw4,λs h=>rfl,amr,apf⟩
def ai7:SA 0 xR PH:=s1 aEm aCw aFo kN
def ahI:Rs Zs gU fM (λs:Kf=>(s.out++(s.l.drop s.i.toNat).map Eg,ldB<|s.l.drop s.i.toNat)) (λx s' (v:List Le×Bool)=>(x=.ret/\s'.e=9/\v.2=X)\/(x=.exit 0/\v=(s'.out,U))):=CM aEm aCw (λs hI=>by
  obtain ⟨h0,h1,h2,h3,h4,h5⟩:=hI;refine allR_ite (λc1=>allR_ite (λc2=>?_) λc2=>?_) λc1=>?_
  ·have c1:s.i<s.n:=A8
   refine .inl ⟨rfl,rfl,?_⟩;simp only [RR h0 (show s.i<(M s.l:Y) by omega),ldB,GD,aHV,Bt]
   grind
  ·have c1:s.i<s.n:=A8
   have c2:M (gx (e:=.sl<|.int aw) s.l s.i)=12:=A8
   have hz:ID (gx (e:=.sl<|.int aw) s.l s.i)=Eg (gx (e:=.sl<|.int aw) s.l s.i):=AD c2
   rw [AG (x:=s.i+1),hz]
   show (_++[_]++_,_)=(_++_,_)
   rw [RR h0 A0];simp only [D2,DQ,cN,FK,ldB,GD,c2,IQ,Cr]
  ·have c1:s.n<=s.i:=A8
   refine .inr ⟨rfl,?_⟩;rw [DD A0]
   simp [ldB])
def aG6:aD->T LV
 | [.agg [.v (ag J se),.xl (.int aw) fl]]=> .req (As fl) (.ok<|.tup [B4 se fl,C0 se fl])
 |_=> .no
def N2 (se:Y) (fl:aB):Kf:=(⟨0,CR se fl,(M (CR se fl):Y),0,([]:aN)⟩:Kf)
def nH:=vm (S:=aG6) func52 aFo kN (L:=(λi=>if i=8 then PH.lp else noLoops i)) (λb hb=>by
 rw [show loopsIn _=[xR] by kernel_rfl] at hb
 simp only [Ak,B8,B6] at hb;subst hb;exact ai7) (λargs lv h=>by
 unfold aG6 at h;split at h
 ·rename_i se fl
  refine Af (letI a:=fM<|N2 se fl;letI b:=(a.out.drop 0).take<|M a.out;.br ((se !=512) ||((M fl:Y) !=2048)) (.ok<|.tup [.xl AL ([]:aN),(1:Y)])<|.req (As fl)<|.br ((BT se fl) !=0) (.ok<|.tup [.xl AL ([]:aN),(BT se fl)])<|.r0 Le<|.req (PH.q<|N2 se fl)<|.br (isEx (gU<|N2 se fl)<|.ret) (.ok<|.tup [.xl AL ([]:aN),a.e])<|.rz a.out<|.br (!(BX b)) (.ok<|.tup [.xl AL ([]:aN),(9:Y)])<|.rz a.out<|.ok<|.tup [b,(0:Y)]) ?_;obtain ⟨hb,rfl⟩:=h
  have bad:∀e:Y,e≠0->C0 se fl=e->LV.tup [.xl AL ([]:aN),.v<|ag J e]=LV.tup [.xl AL<|B4 se fl,.v<|ag J<|C0 se fl]:=λe h0 h1=>by unfold B4;rw [h1,AE h0]
  refine ⟨λc1=>bad 1 AT (by unfold C0;exact AD c1),λc1=>⟨hb,λc2=>?_,λc2=>?_⟩⟩
  all_goals have h0:¬((!(se==512) || !((M fl:Y)==2048))=U):=(by intro h;rw [show ((se !=512) ||((M fl:Y) !=2048))=U from h] at c1;cases c1)
  ·have c2:BT se fl≠0:=D4
   exact bad _ c2 (by unfold C0;rw [AE h0,AD c2])
  have hk:BT se fl=0:=D4
  have hl:M fl=2048:=by simp at h0;omega
  have hR:CR se fl=(Cz fl).1:=AD hk
  obtain ⟨n1,n2,_⟩:=aFr (se:=se) hb A0
  have hV:Zs (N2 se fl):=⟨rfl,by show (M (CR se fl):Y)<=5000;omega,rfl,n2,rX⟩
  have q:(gU (N2 se fl)=.ret/\(fM<|N2 se fl).e=9/\ldB (CR se fl)=X)\/(gU (N2 se fl)=.exit 0/\((CR se fl).map Eg,ldB<|CR se fl)=((fM<|N2 se fl).out,U)):=ahI _ hV
  have hk':¬BT se fl≠0:=λh=>h hk
  refine ⟨A9,⟨hV,rfl,rfl⟩,λc3=>?_,λc3=>?_⟩
  ·rcases q with ⟨_,q2,q3⟩ |⟨q1,_⟩
   ·rw [q2]
    exact bad 9 AT (by unfold C0;rw [AE h0,AE hk',<-hR,AE (by rw [q3];decide)])
   ·rw [isEx_eq c3] at q1;cases q1
  rcases q with ⟨q1,_⟩ |⟨_,q2⟩
  ·rw [q1] at c3;simp [isEx] at c3
  simp only [Ai] at q2;rw [<-q2.1,Bq,Cc];refine ⟨A0,λc4=>?_,λc4=>⟨A0,?_⟩⟩
  ·exact bad 9 AT (by unfold C0;rw [AE h0,AE hk',<-hR,AD q2.2,AE tB])
  ·have hE:C0 se fl=0:=by unfold C0;rw [AE h0,AE hk',<-hR,AD q2.2,AD tB]
   unfold B4;rw [hE,AD rfl,hR];rfl
 ·cases h)
def aaA {se:Y}{fl:aB}(h:C0 se fl=0):BX (B4 se fl)=true:=by
 unfold B4;rw [AD h];unfold C0 at h;split at h
 ·cases h
 ·split at h
  ·grind
  ·split at h
   ·split at h
    ·assumption
    ·cases h
   ·cases h
def aGP:aD->T LV
 | [.agg [.v (ag J se),.xl (.int aw) fl]]=> .req (As fl) (.tu #[nwA se fl,HV se fl])
 |_=> .no
def atj:aM:=[nH]
def aw7:=vo (S:=aGP) func54 atj kN (λargs lv h=>by
 unfold aGP at h;split at h
 ·rename_i se fl
  refine Af (letI b:=(M (B4 se fl):Y);letI c:=An (B4 se fl)<|AA<|b-1;.req (As fl)<|.br ((C0 se fl) !=0) (.tu #[(0:Y),(C0 se fl)])<|.br (b==0) (.tu #[(1:Y),(0:Y)])<|.ix (AA<|b-1) (M<|B4 se fl)<|.br (c.1==1000000) (.tu #[(0:Y),(10:Y)])<|.tu #[(AA<|c.1+1),(0:Y)]) ?_;obtain ⟨hb,rfl⟩:=h
  have fin:∀a e:Y,a=nwA se fl->e=HV se fl->LV.v (.tuple #[ag J a,ag J e])=LV.v (.tuple #[ag J<|nwA se fl,ag J<|HV se fl]):=λa e h1 h2=>sY
  refine ⟨hb,λc1=>?_,λc1=>⟨λc2=>?_,λc2=>?_⟩⟩
  ·have c1:C0 se fl≠0:=AQ
   refine fin _ _ ?_ ?_<;>simp [nwA,HV,c1]
  all_goals have c1:C0 se fl=0:=AQ
  ·have c2:M (B4 se fl)=0:=A8
   refine fin _ _ ?_ ?_<;>simp [nwA,HV,c1,c2]
  ·have c2:¬(M<|B4 se fl)=0:=A8
   have hv:=Hi<|aaA c1
   have hw:AA ((M (B4 se fl):Y)-1)=(M (B4 se fl):Y)-1:=AG
   have hn:=RK.1<|hv.2 _<|NA (l:=B4 se fl) (i:=(M (B4 se fl):Y)-1) A0 A0
   rw [hw];refine ⟨⟨A0,A0⟩,λc3=>?_,λc3=>?_⟩
   ·refine fin _ _ ?_ ?_<;>simp at c3<;>simp [nwA,HV,c1,c2,c3]
   ·rw [AG]
    refine fin _ _ ?_ ?_<;>simp at c3<;>simp [nwA,HV,c1,c2,c3]
 ·cases h)
def aBv:aD->T LV
 | [.v (ag J n),.v (ag J a),.v (ag J b)]=> .ok (inB n a b)
 |_=> .no
def ayy:aM:=[]
def aCU:=vo (S:=aBv) func109 ayy kN (λargs lv h=>by
 unfold aBv at h;split at h
 ·rename_i n a b
  refine Af (.ok<|.v<|.bool<|(an<|n>=a)&&(an<|n<=b)) ?_;exact h
 ·cases h)
def aGy:aD->T LV
 | [.v (.agg ⟨[ag J k,ag J ph,ag J mx,ag J nd,ag J dl]⟩)]=> .ok (EJ (k,ph,mx,nd,dl))
 |_=> .no
def pG:aM:=[aCU]
def aaj:=vo (S:=aGy) func82 pG kN (λargs lv h=>by
 unfold aGy at h;split at h
 ·rename_i k ph mx nd dl
  refine Af (.ok<|.v<|.bool<|(inB k (0:Y) (4:Y))&&((inB ph (1:Y) (7:Y))&&((inB mx (1:Y) (80:Y))&&((inB nd (0:Y) (1000000000:Y))&&((inB dl (0:Y) (20:Y))&&((k !=3) ||(an<|dl>=1))))))) ?_;exact h
 ·cases h)
structure Jt where
 r:aL
 l:aB
 (n i:Y)
def aBe:=bN f108 0
def vF (s:Jt):T (Rd Jt):=
 .br (an<|s.i<s.n) (.ix s.i (M s.l)<|.br (!(inB (gi s.l s.i) (0:Y) (80:Y))) (.so (.ret) {s with r:=X})<|.nx {s with i:=AA<|s.i+1}) (.so (.exit 0) s)
def Nw (s:Jt) (j:Y):aL:=inB (gi s.l j) 0 80
def ef (s:Jt):Prop:=s.i=0/\0<=s.n/\s.n<=1000/\s.n=(M s.l:Y)
def WE (s:Jt):Prop:=0<=s.i/\s.i<=s.n/\s.n<=1000/\(s.n=(M s.l:Y))/\∀j:aC,(j:Y)<s.i->Nw s j=U
def ov (s:Jt):aC:=(s.n-s.i).toNat
def vf (x:Ex) (s s':Jt):Prop:=(x=.exit 0/\∀j:aC,(j:Y)<s'.n->Nw s' j=U)\/(x=.ret/\s'.r=X/\∃j:aC,(j:Y)<s'.n/\Nw s' j=X)
def az8:∀s,ef s->WE s:=by
 exact HY
def aw3:Da WE ov vf vF:=by
 intro s hI;obtain ⟨h0,h1,h2,h3,h4⟩:=hI;refine allR_ite (λc1=>allR_ite (λc2=>?_) λc2=>?_) λc1=>?_
 ·have c1:s.i<s.n:=AQ
  refine .inr ⟨rfl,rfl,s.i.toNat,A8,?_⟩
  have hg:Nw s s.i=false:=by unfold Nw;simp_all
  exact hg
 ·have c1:s.i<s.n:=AQ
  have hg:Nw s s.i=true:=by unfold Nw;simp_all
  rw [AG (x:=s.i+1)];refine ⟨⟨A8,A8,h2,h3,λj hj=>?_⟩,by simp only [ov];omega⟩
  exact IT
 ·exact Mr
def Ny:LpD Jt:=⟨0,32,[2,22,23,24],[],λs=>[s.r,.xl A7 s.l,s.n,s.i],λ_=>[],λv b=>⟨BU v 0,Ag A7 v 1,AJ v 2,AJ v 3⟩,vF,λs r=> {r with l:=s.l,n:=s.n},λs=>s,λ_ s=>s,[.ret,.exit 0],ef,WE,ov⟩
abbrev aDB:=Ny.run
abbrev aGR:=Ny.exn
def ax4:Rq WE vF:=by
 exact Mt
def aaO:Ny.Ok:={}
def aaB:Ny.Pf (vf):=⟨az8,λs h=>rfl,aw3,ax4⟩
def aoB:SA 0 aBe Ny:=s1 aaO aaB pG kN
def amq:Fi ef WE vf aGR aDB:=LpD.fin aaO aaB
def aGQ:aD->T LV
 | [.agg [.xl (.int J) pil,.v (ag J tk),.v (ag J got)]]=> .ok (G6 (pil,tk,got))
 |_=> .no
def aw8:=vm (S:=aGQ) func108 pG kN (L:=(λi=>if i=4 then Ny.lp else noLoops i)) (λb hb=>by
 rw [show loopsIn _=[aBe] by kernel_rfl] at hb
 simp only [Ak,B8,B6] at hb;subst hb;exact aoB) (λargs lv h=>by
 unfold aGQ at h;split at h
 ·rename_i pil tk got
  refine Af (letI a:=(M pil:Y);.br ((an<|a>21) ||((!(inB tk (0:Y) (1000000:Y))) ||(!(inB got (0:Y) (2000000000:Y))))) (.ok X)<|.req (Ny.q (⟨X,pil,a,0⟩:Jt))<|.br (isEx (aGR (⟨X,pil,a,0⟩:Jt))<|.ret) (.ok (aDB (⟨X,pil,a,0⟩:Jt)).r)<|.ok U) ?_;obtain rfl:=h;refine ⟨λc1=>Am (λz=>LV.v<|.bool z) ?_,λc1=>?_⟩
  ·rw [OM,Fk]
   intro hm
   have:=Wt.1 hm
   simp [inB] at c1
   simp only at this;omega
  ·have hE:ef ⟨X,pil,(M pil:Y),0⟩:=by simp [inB] at c1;exact ⟨rfl,AH,A8,rfl⟩
   obtain ⟨s',hI,hq⟩:=amq _ hE
   have hm:G6 (pil,tk,got)=pil.all (λp=>inB p 0 80):=by
    simp [inB] at c1
    have h21:M pil<=21:=A0
    simp [G6,inB,h21,c1]
   rw [hm,aGJ];refine ⟨⟨hE,rfl,rfl⟩,?_⟩;rcases hq with ⟨q1,q2⟩ |⟨q1,q2,j,q3,q4⟩<;>rw [q1]
   ·rw [show CO (M pil) (λj=>inB (gi pil j) 0 80)=U from Cm.2 q2]
    exact ⟨λh=>Ab,λ_=>rfl⟩
   ·rw [q2,show CO (M pil) (λj=>inB (gi pil j) 0 80)=X from Lu j q3 q4]
    exact ⟨λ_=>rfl,λh=>Ab⟩
 ·cases h)
structure Ku where
 p:PK
 ev:EW
def SY (s:Ku):aD:=[.own 16 0]
def V5 (s:Ku):aE:=[bDd,bDd,zB,bDd,bV 62 AR s.p.cs,bV 87 AL s.p.ls,bV 5 (.int aw) s.p.fl,bV 90 Ae s.p.ra,bV 94 Al s.p.st,bV 46 AL s.p.ca,bV 74 Ap s.p.mi,bV 66 Az s.p.me,bV 48 Aq s.p.dm,bV 99 Au s.p.lk,bV 3 A7 s.p.dr,bV 3 A7 s.p.tg,⟨[.os 4 11 0<|M s.p.cs,.xl .str s.p.os,.xl AY s.p.ks,.xl AX s.p.gs,.xl AZ s.p.bs,.v<|ag J s.p.tk,.v<|.bool s.p.up,.os 5 5 0<|M s.p.ls,.v<|ag J s.p.se,.os 6 1 0<|M s.p.fl,.os 7 2 0<|M s.p.ra,.v<|ag J s.p.nx,.os 8 4 0<|M s.p.st,.os 9 5 0<|M s.p.ca,.os 10 3 0<|M s.p.mi,.os 11 3 0<|M s.p.me,.os 12 4 0<|M s.p.dm,.os 13 6 0<|M s.p.lk,.os 14 1 0<|M s.p.dr,.os 15 1 0<|M s.p.tg,.v<|ag J s.ev.ek,.v<|ag J s.ev.en,.v<|ag J s.ev.em,.v<|ag J s.ev.c1,.v<|ag J s.ev.c2,.v<|ag J s.ev.c3,.v<|ag J s.ev.c4,.v<|ag J s.ev.c5,.v<|.bool s.ev.d1,.v<|ag J s.ev.d2,.v<|ag J s.ev.d3,.v<|ag J s.ev.d4,.v<|.slice aj 0 0],83,.cl,X⟩]
structure Tj where
 res:Y
 p:PK
 ev:EW
def abM (s:Tj):LV:=.v<|ag J s.res
def ac8 (s:Tj):aE:=[bDd,bDd,zB,bDd,bV 62 AR s.p.cs,bDd,bDd,bDd,bV 94 Al s.p.st,bV 46 AL s.p.ca,bV 74 Ap s.p.mi,bV 66 Az s.p.me,bV 48 Aq s.p.dm,bV 99 Au s.p.lk,bV 3 A7 s.p.dr,bV 3 A7 s.p.tg,⟨[.os 4 11 0<|M s.p.cs,.xl .str s.p.os,.xl AY s.p.ks,.xl AX s.p.gs,.xl AZ s.p.bs,.v<|ag J s.p.tk,.v<|.bool s.p.up,.xl AL s.p.ls,.v<|ag J s.p.se,.xl (.int aw) s.p.fl,.xl Ae s.p.ra,.v<|ag J s.p.nx,.os 8 4 0<|M s.p.st,.os 9 5 0<|M s.p.ca,.os 10 3 0<|M s.p.mi,.os 11 3 0<|M s.p.me,.os 12 4 0<|M s.p.dm,.os 13 6 0<|M s.p.lk,.os 14 1 0<|M s.p.dr,.os 15 1 0<|M s.p.tg,.v<|ag J s.ev.ek,.v<|ag J s.ev.en,.v<|ag J s.ev.em,.v<|ag J s.ev.c1,.v<|ag J s.ev.c2,.v<|ag J s.ev.c3,.v<|ag J s.ev.c4,.v<|ag J s.ev.c5,.v<|.bool s.ev.d1,.v<|ag J s.ev.d2,.v<|ag J s.ev.d3,.v<|ag J s.ev.d4,.v<|.slice aj 0 0],83,.cl,X⟩]
def YD (s:Ku):T Tj:=letI b:=(M s.p.gs:Y);letI c:=s.p.fl.drop 0;letI d:=M s.p.fl;letI e:=(aq b.toNat ((0:Y),(0:Y)));letI f:=s.p.ls.drop 0;letI g:=M s.p.ls;letI h:=s.p.ra.drop 0;letI i:=M s.p.ra;letI a:=c.take d;letI j:=Cw (B4 s.p.se a) s.p.tk;.br s.p.up (.rz s.p.ls<|.rz s.p.fl<|.rz s.p.ra<|.rl s.p.cs<|.pb s.p<|.ok<|⟨6,{s.p with ls:=f.take g,fl:=c.take d,ra:=h.take i},s.ev⟩)<|.rz s.p.fl<|.req (As a)<|.br ((C0 s.p.se a) !=0) (.rz s.p.ls<|.rz s.p.fl<|.rz s.p.ra<|.rl s.p.cs<|.pb s.p<|.ok<|⟨C0 s.p.se a,{s.p with ls:=f.take g,fl:=c.take d,ra:=h.take i},s.ev⟩)<|.br (j !=0) (.rz s.p.ls<|.rz s.p.fl<|.rz s.p.ra<|.rl s.p.cs<|.pb s.p<|.ok<|⟨j,{s.p with ls:=f.take g,fl:=c.take d,ra:=h.take i},s.ev⟩)<|.rz s.p.fl<|.req (As a)<|.br ((HV s.p.se a) !=0) (.rz s.p.ls<|.rz s.p.fl<|.rz s.p.ra<|.rl s.p.cs<|.pb s.p<|.ok<|⟨HV s.p.se a,{s.p with ls:=f.take g,fl:=c.take d,ra:=h.take i},s.ev⟩)<|.rm 16 b<|.rz s.p.fl<|.req (0+b.toNat<=M e)<|.rl s.p.cs<|.pb s.p<|.ok<|⟨0,{s.p with up:=U,ls:=Bx (B4 s.p.se a) s.p.tk,fl:=c.take d,ra:=(e.drop 0).take b.toNat,nx:=nwA s.p.se a},s.ev⟩
def uh (s:Ku):Prop:=As s.p.fl/\M s.p.gs<=1000
def PA (s:Ku):Tj:=⟨PK.Em s.p,Gm (PK.Em s.p) (PK.Sz s.p) s.p,s.ev⟩
def v7:C4 Ku Tj:=⟨SY,V5,λv b=>⟨rF b,rG b⟩,uh,[0,1,3],[.pc 16 7 AL,.kb 5,.pc 16 9<|.int aw,.kb 6,.pc 16 10 Ae,.kb 7],abM,ac8,PA⟩
abbrev aur (s:Ku):Prop:=uh s/\SY s=SY s/\V5 s=V5 s
def XB:aM:=[nH,XT,aw7]
def aLV:aL3:=addL 50 18 2 (Hw.lp)<|addL 23 0 9 (Eb.lp)<|unrL prog AO (XB) 20 2
def ah4:LLok prog AO aLV:=addL_ok func50 rfl AM Hg<|addL_ok func23 rfl AM C2<|unrL_ok<|gk XB
def ar2 (s:Ku):((stepH prog AO XB aLV noK).k 20 (SY s)<|V5 s).bind (λq=>canT (M<|V5 s) [0] [.pc 16 7 AL,.kb 5,.pc 16 9<|.int aw,.kb 6,.pc 16 10 Ae,.kb 7] .normal (q.1::SY s) q.2)=(YD s).mp (λs2=>⟨.normal,M (SY s)+1,[abM s2],ac8 s2,U⟩):=AM
def anx (s:Ku) (hE:uh s):(YD s).all (λq=>q=PA s):=by
 obtain ⟨h1,h2⟩:=hE;unfold YD;simp only [Oy];refine ⟨λc=>?_,λc=>?_⟩
 ·have he:s.p.Em=6:=by unfold PK.Em;rw [AD c]
  repeat (refine ⟨AH,?_⟩)
  show _=_
  unfold PA;rw [H7 JC];rw [he]
 have hu:¬s.p.up=true:=sR
 repeat (refine ⟨A0,?_⟩)
 refine ⟨λc1=>?_,λc1=>?_⟩
 ·have c1:C0 s.p.se s.p.fl≠0:=DP.1 c1
  have he:s.p.Em=C0 s.p.se s.p.fl:=by unfold PK.Em;rw [AE hu,AD c1]
  repeat (refine ⟨AH,?_⟩)
  show _=_
  unfold PA;rw [H7 s9];rw [he]
 have c1:¬C0 s.p.se s.p.fl≠0:=λh=>aKX
 refine ⟨λc2=>?_,λc2=>?_⟩
 ·have c2:Cw (B4 s.p.se s.p.fl) s.p.tk≠0:=DP.1 c2
  have he:s.p.Em=Cw (B4 s.p.se s.p.fl) s.p.tk:=by unfold PK.Em;rw [AE hu,AE c1,AD c2]
  repeat (refine ⟨AH,?_⟩)
  show _=_
  unfold PA;rw [H7 s9];rw [he]
 have c2:¬Cw (B4 s.p.se s.p.fl) s.p.tk≠0:=λh=>by rw [DP.2 h] at c2;cases c2
 repeat (refine ⟨A0,?_⟩)
 refine ⟨λc3=>?_,λc3=>?_⟩
 ·have c3:HV s.p.se s.p.fl≠0:=DP.1 c3
  have he:s.p.Em=HV s.p.se s.p.fl:=by unfold PK.Em;rw [AE hu,AE c1,AE c2]
  repeat (refine ⟨AH,?_⟩)
  show _=_
  unfold PA;rw [H7 s9];rw [he]
 have c3:HV s.p.se s.p.fl=0:=qN λh=>by rw [DP.2 h] at c3;cases c3
 have he:s.p.Em=0:=by unfold PK.Em;rw [AE hu,AE c1,AE c2,c3]
 rw [show (aq (M s.p.gs:Y).toNat ((0:Y),(0:Y))).drop 0=aq (M s.p.gs) (0,0) by rw [Bs];rfl,Bs,CY (by rw [Bv];exact Ar _)]
 repeat (refine ⟨A8,?_⟩)
 show _=_
 unfold PA;rw [Ig he];rw [he];rfl
def auk:CSound prog AO 20 v7.m:=C4.sound (D:=v7) (t:=YD) (gk XB) ah4 noK_sound ar2 λs hE=>⟨anx s hE⟩
def Nq (c:Ca):Y:=if EJ c=U then 0 else 1
def aBp:aD->T LV
 | [.v (.agg ⟨[ag J x1,ag J x2,ag J x3,ag J x4,ag J x5]⟩)]=> .ok (.tup [.agg [.xl A7 ([]:aB),(0:Y),(0:Y)],Nq (x1,x2,x3,x4,x5)])
 |_=> .no
def ate:aM:=[aaj]
def anE:=vo (S:=aBp) func46 ate kN (λargs lv h=>by
 unfold aBp at h;split at h
 ·rename_i x1 x2 x3 x4 x5
  refine Af (.br (!(EJ (x1,x2,x3,x4,x5))) (.ok<|.tup [.agg [.xl A7 ([]:aB),(0:Y),(0:Y)],(1:Y)])<|.ok<|.tup [.agg [.xl A7 ([]:aB),(0:Y),(0:Y)],(0:Y)]) ?_;obtain rfl:=h;unfold Nq;refine ⟨λc=>?_,λc=>?_⟩
  ·rw [AE A8]
   rfl
  ·rw [AD A8]
   rfl
 ·cases h)
structure Hv where
 (i k0 k1 k2:Y)
 p:PK
 ev:EW
def Sg (s:Hv):aD:=[.own 16 0,s.i,.v<|.agg #[s.k0,s.k1,s.k2]]
def Um (s:Hv):aE:=[bDd,bDd,zB,bDd,bV 62 AR s.p.cs,bV 87 AL s.p.ls,bV 5 (.int aw) s.p.fl,bV 90 Ae s.p.ra,bV 94 Al s.p.st,bV 46 AL s.p.ca,bV 74 Ap s.p.mi,bV 66 Az s.p.me,bV 48 Aq s.p.dm,bV 99 Au s.p.lk,bV 3 A7 s.p.dr,bV 3 A7 s.p.tg,⟨[.os 4 11 0<|M s.p.cs,.xl .str s.p.os,.xl AY s.p.ks,.xl AX s.p.gs,.xl AZ s.p.bs,.v<|ag J s.p.tk,.v<|.bool s.p.up,.os 5 5 0<|M s.p.ls,.v<|ag J s.p.se,.os 6 1 0<|M s.p.fl,.os 7 2 0<|M s.p.ra,.v<|ag J s.p.nx,.os 8 4 0<|M s.p.st,.os 9 5 0<|M s.p.ca,.os 10 3 0<|M s.p.mi,.os 11 3 0<|M s.p.me,.os 12 4 0<|M s.p.dm,.os 13 6 0<|M s.p.lk,.os 14 1 0<|M s.p.dr,.os 15 1 0<|M s.p.tg,.v<|ag J s.ev.ek,.v<|ag J s.ev.en,.v<|ag J s.ev.em,.v<|ag J s.ev.c1,.v<|ag J s.ev.c2,.v<|ag J s.ev.c3,.v<|ag J s.ev.c4,.v<|ag J s.ev.c5,.v<|.bool s.ev.d1,.v<|ag J s.ev.d2,.v<|ag J s.ev.d3,.v<|ag J s.ev.d4,.v<|.slice aj 0 0],83,.cl,X⟩,bDd,bDd]
structure TJ where
 res:Y
 p:PK
 ev:EW
def abU (s:TJ):LV:=.v<|ag J s.res
def acP (s:TJ):aE:=[bDd,bDd,zB,bDd,bV 62 AR s.p.cs,bV 87 AL s.p.ls,bV 5 (.int aw) s.p.fl,bV 90 Ae s.p.ra,bV 94 Al s.p.st,bV 46 AL s.p.ca,bV 74 Ap s.p.mi,bV 66 Az s.p.me,bV 48 Aq s.p.dm,bV 99 Au s.p.lk,bV 3 A7 s.p.dr,bV 3 A7 s.p.tg,⟨[.os 4 11 0<|M s.p.cs,.xl .str s.p.os,.xl AY s.p.ks,.xl AX s.p.gs,.xl AZ s.p.bs,.v<|ag J s.p.tk,.v<|.bool s.p.up,.os 5 5 0<|M s.p.ls,.v<|ag J s.p.se,.os 6 1 0<|M s.p.fl,.os 7 2 0<|M s.p.ra,.v<|ag J s.p.nx,.os 8 4 0<|M s.p.st,.os 9 5 0<|M s.p.ca,.os 10 3 0<|M s.p.mi,.os 11 3 0<|M s.p.me,.os 12 4 0<|M s.p.dm,.os 13 6 0<|M s.p.lk,.os 14 1 0<|M s.p.dr,.os 15 1 0<|M s.p.tg,.v<|ag J s.ev.ek,.v<|ag J s.ev.en,.v<|ag J s.ev.em,.v<|ag J s.ev.c1,.v<|ag J s.ev.c2,.v<|ag J s.ev.c3,.v<|ag J s.ev.c4,.v<|ag J s.ev.c5,.v<|.bool s.ev.d1,.v<|ag J s.ev.d2,.v<|ag J s.ev.d3,.v<|ag J s.ev.d4,.v<|.slice aj 0 0],83,.cl,X⟩,bDd,bDd]
def oE (s:Hv):T TJ:=letI c:=s.p.st.getD s.i.toNat<|Ty.dflt Al;letI d:=M s.p.st;letI a:=sE (AF s.p.gs s.i) c s.k0 s.k1 s.k2;letI b:=sN (AF s.p.gs s.i) c s.k0 s.k1 s.k2;.ix s.i (M s.p.gs)<|.ik s.i d<|.br (a==0) (.ik s.i d<|.pa s.p<|.re d (s.p.st.set s.i.toNat b)<|.rl s.p.ca<|.rl s.p.mi<|.rl s.p.me<|.rl s.p.dm<|.rl s.p.lk<|.rl s.p.dr<|.rl s.p.tg<|.ok<|⟨a,{s.p with st:=s.p.st.set s.i.toNat b},s.ev⟩)<|.pc s.p<|.ok<|⟨a,s.p,s.ev⟩
def uL (s:Hv):Prop:=0<=s.i/\s.i<(M s.p.gs:Y)/\M s.p.st=M s.p.gs
def YU (s:Hv):TJ:=⟨sE (AF s.p.gs s.i) (BI s.p.st s.i) s.k0 s.k1 s.k2,{s.p with st:=C6 s.p.gs s.p.st s.i s.k0 s.k1 s.k2},s.ev⟩
def uq:C4 Hv TJ:=⟨Sg,Um,λv b=>⟨AJ v 1,gI<|gAg (v.getD 2 .junk) 0,gI<|gAg (v.getD 2 .junk) 1,gI<|gAg (v.getD 2 .junk) 2,rF b,rG b⟩,uL,[0,1,3,17,18],[],abU,acP,YU⟩
abbrev Xd (s:Hv):Prop:=uL s/\Sg s=Sg s/\Um s=Um s
def XR:aM:=[P6]
def aLg:aL3:=addL 50 18 2 (Hw.lp)<|addL 23 0 9 (Eb.lp)<|unrL prog AO (XR) 20 2
def agw:LLok prog AO aLg:=addL_ok func50 rfl AM Hg<|addL_ok func23 rfl AM C2<|unrL_ok<|gk XR
def arD (s:Hv):((stepH prog AO XR aLg noK).k 49 (Sg s)<|Um s).bind (λq=>canT (M<|Um s) [0] [] .normal (q.1::Sg s) q.2)=(oE s).mp (λs2=>⟨.normal,M (Sg s)+1,[abU s2],acP s2,U⟩):=AM
def ao6 (s:Hv) (hE:uL s):(oE s).all (λq=>q=YU s):=by
 obtain ⟨h0,h1,h2⟩:=hE;refine ⟨A0,A0,A0,λc=>?_,λc=>?_⟩
 ·have c:=eq_of_beq c
  have hg:C6 s.p.gs s.p.st s.i s.k0 s.k1 s.k2=_:=AD c
  repeat (refine ⟨A8,?_⟩)
  unfold YU;rw [hg];rfl
 ·have c:=Bt.1 c
  have hg:C6 s.p.gs s.p.st s.i s.k0 s.k1 s.k2=s.p.st:=AE c
  repeat (refine ⟨AH,?_⟩)
  unfold YU;rw [hg];rfl
def atv:CSound prog AO 49 uq.m:=C4.sound (D:=uq) (t:=oE) (gk XR) agw noK_sound arD λs hE=>⟨ao6 s hE⟩
structure Kv where
 p:PK
 ev:EW
def SZ (s:Kv):aD:=[.own 16 0]
def V6 (s:Kv):aE:=[bDd,bDd,zB,bDd,bV 62 AR s.p.cs,bV 87 AL s.p.ls,bV 5 (.int aw) s.p.fl,bV 90 Ae s.p.ra,bV 94 Al s.p.st,bV 46 AL s.p.ca,bV 74 Ap s.p.mi,bV 66 Az s.p.me,bV 48 Aq s.p.dm,bV 99 Au s.p.lk,bV 3 A7 s.p.dr,bV 3 A7 s.p.tg,⟨[.os 4 11 0<|M s.p.cs,.xl .str s.p.os,.xl AY s.p.ks,.xl AX s.p.gs,.xl AZ s.p.bs,.v<|ag J s.p.tk,.v<|.bool s.p.up,.os 5 5 0<|M s.p.ls,.v<|ag J s.p.se,.os 6 1 0<|M s.p.fl,.os 7 2 0<|M s.p.ra,.v<|ag J s.p.nx,.os 8 4 0<|M s.p.st,.os 9 5 0<|M s.p.ca,.os 10 3 0<|M s.p.mi,.os 11 3 0<|M s.p.me,.os 12 4 0<|M s.p.dm,.os 13 6 0<|M s.p.lk,.os 14 1 0<|M s.p.dr,.os 15 1 0<|M s.p.tg,.v<|ag J s.ev.ek,.v<|ag J s.ev.en,.v<|ag J s.ev.em,.v<|ag J s.ev.c1,.v<|ag J s.ev.c2,.v<|ag J s.ev.c3,.v<|ag J s.ev.c4,.v<|ag J s.ev.c5,.v<|.bool s.ev.d1,.v<|ag J s.ev.d2,.v<|ag J s.ev.d3,.v<|ag J s.ev.d4,.v<|.slice aj 0 0],83,.cl,X⟩]
structure Tk where
 res:Y
 p:PK
 ev:EW
def abN (s:Tk):LV:=.v<|ag J s.res
def ac9 (s:Tk):aE:=[bDd,bDd,zB,bDd,bV 62 AR s.p.cs,bV 87 AL s.p.ls,bV 5 (.int aw) s.p.fl,bV 90 Ae s.p.ra,bV 94 Al s.p.st,bV 46 AL s.p.ca,bV 74 Ap s.p.mi,bV 66 Az s.p.me,bV 48 Aq s.p.dm,bV 99 Au s.p.lk,bV 3 A7 s.p.dr,bV 3 A7 s.p.tg,⟨[.os 4 11 0<|M s.p.cs,.xl .str s.p.os,.xl AY s.p.ks,.xl AX s.p.gs,.xl AZ s.p.bs,.v<|ag J s.p.tk,.v<|.bool s.p.up,.os 5 5 0<|M s.p.ls,.v<|ag J s.p.se,.os 6 1 0<|M s.p.fl,.os 7 2 0<|M s.p.ra,.v<|ag J s.p.nx,.os 8 4 0<|M s.p.st,.os 9 5 0<|M s.p.ca,.os 10 3 0<|M s.p.mi,.os 11 3 0<|M s.p.me,.os 12 4 0<|M s.p.dm,.os 13 6 0<|M s.p.lk,.os 14 1 0<|M s.p.dr,.os 15 1 0<|M s.p.tg,.v<|ag J s.ev.ek,.v<|ag J s.ev.en,.v<|ag J s.ev.em,.v<|ag J s.ev.c1,.v<|ag J s.ev.c2,.v<|ag J s.ev.c3,.v<|ag J s.ev.c4,.v<|ag J s.ev.c5,.v<|.bool s.ev.d1,.v<|ag J s.ev.d2,.v<|ag J s.ev.d3,.v<|ag J s.ev.d4,.v<|.slice aj 0 0],83,.cl,X⟩]
def YE (s:Kv):T Tk:=letI c:=(s.p.mi.set s.ev.en.toNat (([]:aB),((0:Y),(0:Y))));letI f:=(C6 s.p.gs s.p.st s.ev.en (1:Y) (0:Y) (0:Y));letI g:=(s.ev.c1,(s.ev.c2,(s.ev.c3,(s.ev.c4,s.ev.c5))));letI i:=(s.ev.d1,(s.ev.d2,(s.ev.d3,s.ev.d4)));letI j:=M s.p.ca;letI a:=s.p.ca.set s.ev.en.toNat g;letI b:=s.p.dm.set s.ev.en.toNat i;letI d:=(C6 s.p.gs f s.ev.en (3:Y) (0:Y) (0:Y));letI e:=(C6 s.p.gs d s.ev.en (4:Y) (1:Y) (0:Y));letI h:=(C6 s.p.gs e s.ev.en (5:Y) (0:Y) (0:Y));.br (!(inB s.ev.en (0:Y)<|AA<|(M s.p.gs:Y)-1)) (.pc s.p<|.ok<|⟨1,s.p,s.ev⟩)<|.br ((Nq (s.ev.c1,s.ev.c2,s.ev.c3,s.ev.c4,s.ev.c5)) !=0) (.pc s.p<|.ok<|⟨1,s.p,s.ev⟩)<|.br (!((inB s.ev.d2 (0:Y) (1000000000:Y))&&((inB s.ev.d3 (0:Y) (1000000:Y))&&(inB s.ev.d4 (1:Y) (9:Y))))) (.pc s.p<|.ok<|⟨1,s.p,s.ev⟩)<|.ik s.ev.en j<|.br ((s.p.ca.getD s.ev.en.toNat<|Ty.dflt AL).2.2.1 !=0) (.pc s.p<|.ok<|⟨6,s.p,s.ev⟩)<|.ik s.ev.en (M s.p.st)<|.br ((s.p.st.getD s.ev.en.toNat<|Ty.dflt Al).1 !=0) (.pc s.p<|.ok<|⟨6,s.p,s.ev⟩)<|.ik s.ev.en j<|.ik s.ev.en (M s.p.mi)<|.ik s.ev.en (M s.p.dm)<|.pa s.p<|.rl s.p.st<|.re j a<|.re (M s.p.mi) c<|.rl s.p.me<|.re (M s.p.dm) b<|.rl s.p.lk<|.rl s.p.dr<|.rl s.p.tg<|.req (Xd (⟨s.ev.en,1,0,0,{s.p with ca:=s.p.ca.set s.ev.en.toNat g,mi:=s.p.mi.set s.ev.en.toNat (([]:aB),((0:Y),(0:Y))),dm:=s.p.dm.set s.ev.en.toNat i},s.ev⟩:Hv))<|.pa s.p<|.rl f<|.rl a<|.rl c<|.rl s.p.me<|.rl b<|.rl s.p.lk<|.rl s.p.dr<|.rl s.p.tg<|.req (Xd (⟨s.ev.en,3,0,0,{s.p with st:=f,ca:=a,mi:=c,dm:=b},s.ev⟩:Hv))<|.pa s.p<|.rl d<|.rl a<|.rl c<|.rl s.p.me<|.rl b<|.rl s.p.lk<|.rl s.p.dr<|.rl s.p.tg<|.req (Xd (⟨s.ev.en,4,1,0,{s.p with st:=d,ca:=a,mi:=c,dm:=b},s.ev⟩:Hv))<|.pa s.p<|.rl e<|.rl a<|.rl c<|.rl s.p.me<|.rl b<|.rl s.p.lk<|.rl s.p.dr<|.rl s.p.tg<|.req (Xd (⟨s.ev.en,5,0,0,{s.p with st:=e,ca:=a,mi:=c,dm:=b},s.ev⟩:Hv))<|.pa s.p<|.rl h<|.rl a<|.rl c<|.rl s.p.me<|.rl b<|.rl s.p.lk<|.rl s.p.dr<|.rl s.p.tg<|.ok<|⟨0,{s.p with st:=h,ca:=a,mi:=c,dm:=b},s.ev⟩
def aCr {c:Ca}:Nq c=0↔EJ c=true:=by
 unfold Nq
 grind
def ui (s:Kv):Prop:=M s.p.st=M s.p.gs/\M s.p.gs<=1000/\M s.p.ca=M s.p.gs/\M s.p.mi=M s.p.gs/\M s.p.dm=M s.p.gs
def NK (s:Kv):Tk:=⟨PK.FV s.p s.ev.en (EW.c s.ev)<|EW.d s.ev,Gm (PK.FV s.p s.ev.en (EW.c s.ev)<|EW.d s.ev) (PK.L6 s.p s.ev.en (EW.c s.ev)<|EW.d s.ev) s.p,s.ev⟩
def v8:C4 Kv Tk:=⟨SZ,V6,λv b=>⟨rF b,rG b⟩,ui,[0,1,3],[],abN,ac9,NK⟩
abbrev aus (s:Kv):Prop:=ui s/\SZ s=SZ s/\V6 s=V6 s
def Rr:aM:=[S7,anE]
def aG3:Aj:=FC Rr (la 2 func50 Hg<|la 9 func23 C2<|l0 Rr) [⟨49,uq.m,atv⟩]
def aLW:aL3:=addL 50 18 2 (Hw.lp)<|addL 23 0 9 (Eb.lp)<|unrL prog AO Rr 20 2
def ah5:LLok prog AO aLW:=addL_ok func50 rfl AM Hg<|addL_ok func23 rfl AM C2<|unrL_ok<|gk Rr
def ar4 (s:Kv):((stepH prog AO Rr aLW aG3).k 16 (SZ s)<|V6 s).bind (λq=>canT (M<|V6 s) [0] [] .normal (q.1::SZ s) q.2)=(YE s).mp (λs2=>⟨.normal,M (SZ s)+1,[abN s2],ac9 s2,U⟩):=AM
def anz (s:Kv) (hE:ui s):(YE s).all (λq=>q=NK s):=by
 obtain ⟨h1,h2,h3,h4,h5⟩:=hE;unfold YE;rw [gR h2];refine ⟨λc=>?_,λc=>?_⟩
 ·have c:s.p.isC s.ev.en=false:=My
  have he:s.p.FV s.ev.en s.ev.c s.ev.d=1:=AD c
  repeat (refine ⟨JB,?_⟩)
  show _=_
  unfold NK;rw [H7 JC];rw [he]
 have c:s.p.isC s.ev.en=true:=My
 have ci:=C1.1 c
 have ci2:s.ev.en<(M s.p.gs:Y):=A0
 have hc:¬s.p.isC s.ev.en=false:=sR
 have bad:(!EJ s.ev.c || !Gt s.ev.d)=U->s.p.FV s.ev.en s.ev.c s.ev.d=1:=λh=>by unfold PK.FV;rw [AE hc,AD h]
 refine ⟨λc1=>?_,λc1=>⟨λc2=>?_,λc2=>?_⟩⟩
 ·have c1:¬Nq s.ev.c=0:=DP.1 c1
  have c1:EJ s.ev.c=false:=by rw [aCr] at c1;simpa using c1
  have he:=bad (by rw [c1];rfl)
  repeat (refine ⟨JB,?_⟩)
  show _=_
  unfold NK;rw [H7 JC];rw [he]
 ·have c2:(!Gt s.ev.d)=true:=c2
  have he:=bad<|by rw [c2,Lg]
  repeat (refine ⟨JB,?_⟩)
  show _=_
  unfold NK;rw [H7 JC];rw [he]
 have c1:EJ s.ev.c=true:=aCr.1 (qN λh=>by rw [show (Nq (s.ev.c1,s.ev.c2,s.ev.c3,s.ev.c4,s.ev.c5) !=0)=U from DP.2 h] at c1;cases c1)
 have c2:(!Gt s.ev.d)=false:=c2
 have hb:¬(!EJ s.ev.c || !Gt s.ev.d)=true:=by rw [c1,c2];decide
 have six:((BA s.p.ca s.ev.en).2.2.1 !=0 ||(BI s.p.st s.ev.en).1 !=0)=U->s.p.FV s.ev.en s.ev.c s.ev.d=6:=λh=>by unfold PK.FV;rw [AE hc,AE hb,AD h]
 repeat (refine ⟨JB,?_⟩)
 refine ⟨λc3=>?_,λc3=>?_⟩
 ·have c3:((BA s.p.ca s.ev.en).2.2.1 !=0)=true:=c3
  have he:=six (by rw [c3];rfl)
  repeat (refine ⟨JB,?_⟩)
  show _=_
  unfold NK;rw [H7 JC];rw [he]
 repeat (refine ⟨JB,?_⟩)
 refine ⟨λc4=>?_,λc4=>?_⟩
 ·have c4:((BI s.p.st s.ev.en).1 !=0)=true:=c4
  have he:=six<|by rw [c4,Lg]
  repeat (refine ⟨JB,?_⟩)
  show _=_
  unfold NK;rw [H7 JC];rw [he]
 have c3:((BA s.p.ca s.ev.en).2.2.1 !=0)=false:=c3
 have c4:((BI s.p.st s.ev.en).1 !=0)=false:=c4
 have he:s.p.FV s.ev.en s.ev.c s.ev.d=0:=by unfold PK.FV;rw [AE hc,AE hb,c3,c4];rfl
 have hg:∀(l:bf) (k n m:Y),M l=M s.p.gs->M (C6 s.p.gs l s.ev.en k n m)=M s.p.gs:=λl k n m h=>by rw [Ib];exact h
 repeat (refine ⟨JB,?_⟩)
 refine ⟨⟨⟨ci.1,ci2,h1⟩,rfl,rfl⟩,?_⟩
 repeat (refine ⟨JB,?_⟩)
 refine ⟨⟨⟨ci.1,ci2,hg _ _ _ _ h1⟩,rfl,rfl⟩,?_⟩
 repeat (refine ⟨JB,?_⟩)
 refine ⟨⟨⟨ci.1,ci2,hg _ _ _ _<|hg _ _ _ _ h1⟩,rfl,rfl⟩,?_⟩
 repeat (refine ⟨JB,?_⟩)
 refine ⟨⟨⟨ci.1,ci2,hg _ _ _ _<|hg _ _ _ _<|hg _ _ _ _ h1⟩,rfl,rfl⟩,?_⟩
 repeat (refine ⟨AH,?_⟩)
 show _=_
 unfold NK;rw [Ig he];rw [he];rfl
def aul:CSound prog AO 16 v8.m:=C4.sound (D:=v8) (t:=YE) (gk Rr) ah5 aG3.h ar4 λs hE=>⟨anz s hE⟩
structure MR where
 (n i:Y)
 p:PK
 ev:EW
 B9:aF
 BV:aP
 B1:aG
 BW:aQ
 o:aK
def nU (s:MR):T (Rd MR):=letI b:=s.o.getD s.i.toNat<|Ty.dflt AR;letI a:=(s.o.set s.i.toNat (b.1,(b.2.1,((s.p.tg.getD s.i.toNat<|Ty.dflt A7),b.2.2.2))));.br (an<|s.i<s.n) (.ik s.i (M s.p.tg)<|.ik s.i (M s.o)<|.rl s.p.tg<|.pc s.p<|.re (M s.o) a<|.nx {s with i:=AA<|s.i+1,o:=a})<|.rl s.p.tg<|.pc s.p<|.rl s.o<|.so (.exit 0) s
def ZJ (s:MR):Prop:=s.i=0/\s.n=(M s.p.tg:Y)/\M s.p.tg=M s.p.cs/\s.n<=1000/\s.o=El s.p.cs s.p.tg s.i.toNat
def UB (s:MR):Prop:=(0<=s.i/\s.i<=s.n)/\s.n=(M s.p.tg:Y)/\M s.p.tg=M s.p.cs/\s.n<=1000/\s.o=El s.p.cs s.p.tg s.i.toNat
def jx (s:MR):aC:=(s.n-s.i).toNat
def tR (x:Ex) (s s':MR):Prop:=x=.exit 0/\s'.o=El s'.p.cs s'.p.tg (M s'.p.tg)
def aze:∀s,ZJ s->UB s:=by
 exact aJR
def auf:Da UB jx tR nU:=by
 intro s hI;obtain ⟨⟨h0,h1⟩,h2,h3,h4,h5⟩:=hI
 have hl:M s.o=M s.p.cs:=dQ
 refine allR_ite (λc1=>?_) λc1=>?_
 ·have c1:s.i<s.n:=A8
  rw [AG (x:=s.i+1)];refine ⟨⟨⟨A8,A8⟩,h2,h3,h4,?_⟩,by simp only [jx];omega⟩
  exact aI6
 ·have c1:s.n<=s.i:=A8
  refine ⟨rfl,?_⟩
  grind
def SQ:LpD MR:=⟨17,34,[2,3,19,20,21],[],λs=>[.own 17 0,.own 18 0,.os 15 1 0<|M s.p.tg,s.n,s.i],λs=>[bDd,bDd,zB,bDd,bV 62 AR s.p.cs,bV 87 AL s.p.ls,bV 5 (.int aw) s.p.fl,bV 90 Ae s.p.ra,bV 94 Al s.p.st,bV 46 AL s.p.ca,bV 74 Ap s.p.mi,bV 66 Az s.p.me,bV 48 Aq s.p.dm,bV 99 Au s.p.lk,bV 3 A7 s.p.dr,bV 3 A7 s.p.tg,⟨[.os 4 11 0<|M s.p.cs,.xl .str s.p.os,.xl AY s.p.ks,.xl AX s.p.gs,.xl AZ s.p.bs,.v<|ag J s.p.tk,.v<|.bool s.p.up,.os 5 5 0<|M s.p.ls,.v<|ag J s.p.se,.os 6 1 0<|M s.p.fl,.os 7 2 0<|M s.p.ra,.v<|ag J s.p.nx,.os 8 4 0<|M s.p.st,.os 9 5 0<|M s.p.ca,.os 10 3 0<|M s.p.mi,.os 11 3 0<|M s.p.me,.os 12 4 0<|M s.p.dm,.os 13 6 0<|M s.p.lk,.os 14 1 0<|M s.p.dr,.os 15 1 0<|M s.p.tg,.v<|ag J s.ev.ek,.v<|ag J s.ev.en,.v<|ag J s.ev.em,.v<|ag J s.ev.c1,.v<|ag J s.ev.c2,.v<|ag J s.ev.c3,.v<|ag J s.ev.c4,.v<|ag J s.ev.c5,.v<|.bool s.ev.d1,.v<|ag J s.ev.d2,.v<|ag J s.ev.d3,.v<|ag J s.ev.d4,.v<|.slice aj 0 0],83,.cl,X⟩,⟨[.v<|.slice aj 0 0,.v<|.slice aj 0 0,.v<|.slice aj 0 0,.v<|.slice aj 0 0,.v<|.slice aj 0 0],28,.cl,X⟩,⟨[.os 19 11 0<|M s.o,s.B9,s.BV,s.B1,s.BW],28,.cl,X⟩,bV 62 AR s.o],λv b=>⟨AJ v 3,AJ v 4,rF b,rG b,AB .str b 18 1,AB AY b 18 2,AB AX b 18 3,AB AZ b 18 4,AV AR b 19⟩,nU,λs r=> {s with i:=r.i,o:=r.o},λs=>s,λ_ s=>s,[.exit 0],ZJ,UB,jx⟩
abbrev Wa:=SQ.run
abbrev akR:=SQ.exn
def Ly:aM:=[gw,S7]
def asI:Aj:=kI Ly<|la 2 func50 Hg<|la 9 func23 C2<|l0 Ly
def aq7:Rq UB nU:=by
 intro s hI;refine ⟨λc1=>⟨?_,?_,?_,?_,A9,A9,A9,A9,A9,A9,A9,A9,A9,A9,A9,A9,A9,?_,ak⟩,λc1=>⟨A9,A9,A9,A9,A9,A9,A9,A9,A9,A9,A9,A9,A9,A9,ak⟩⟩
 all_goals ((obtain ⟨⟨h0,h1⟩,h2,h3,h4,h5⟩:=hI;have hl:M s.o=M s.p.cs:=dQ;(try simp only [AU] at c1);first|omega|exact ⟨rfl,rfl⟩ |exact ⟨rfl,AH⟩))
def aFO:SQ.Ok:={}
def aDe:SQ.Pf (tR):=⟨aze,λs h=>rfl,auf,aq7⟩
def zd:=s2 (b:=bN f55 0) aFO aDe Ly asI
def alZ:Fi ZJ UB tR akR Wa:=LpD.fin aFO aDe
structure Jf where
 p:PK
 ev:EW
def Sd (s:Jf):aD:=[.own 16 0]
def Uj (s:Jf):aE:=[bDd,bDd,zB,bDd,bV 62 AR s.p.cs,bV 87 AL s.p.ls,bV 5 (.int aw) s.p.fl,bV 90 Ae s.p.ra,bV 94 Al s.p.st,bV 46 AL s.p.ca,bV 74 Ap s.p.mi,bV 66 Az s.p.me,bV 48 Aq s.p.dm,bV 99 Au s.p.lk,bV 3 A7 s.p.dr,bV 3 A7 s.p.tg,⟨[.os 4 11 0<|M s.p.cs,.xl .str s.p.os,.xl AY s.p.ks,.xl AX s.p.gs,.xl AZ s.p.bs,.v<|ag J s.p.tk,.v<|.bool s.p.up,.os 5 5 0<|M s.p.ls,.v<|ag J s.p.se,.os 6 1 0<|M s.p.fl,.os 7 2 0<|M s.p.ra,.v<|ag J s.p.nx,.os 8 4 0<|M s.p.st,.os 9 5 0<|M s.p.ca,.os 10 3 0<|M s.p.mi,.os 11 3 0<|M s.p.me,.os 12 4 0<|M s.p.dm,.os 13 6 0<|M s.p.lk,.os 14 1 0<|M s.p.dr,.os 15 1 0<|M s.p.tg,.v<|ag J s.ev.ek,.v<|ag J s.ev.en,.v<|ag J s.ev.em,.v<|ag J s.ev.c1,.v<|ag J s.ev.c2,.v<|ag J s.ev.c3,.v<|ag J s.ev.c4,.v<|ag J s.ev.c5,.v<|.bool s.ev.d1,.v<|ag J s.ev.d2,.v<|ag J s.ev.d3,.v<|ag J s.ev.d4,.v<|.slice aj 0 0],83,.cl,X⟩]
def OX (s:Jf):MR:=(⟨((M s.p.tg:aC):Y),0,{s.p with tg:=s.p.tg.set s.ev.en.toNat s.ev.em},s.ev,s.p.os,s.p.ks,s.p.gs,s.p.bs,cpy ((s.p.cs.drop 0).take<|M s.p.cs)<|aq ((M s.p.cs:aC):Y).toNat (ByteArray.empty,((0:Y),((0:Y),((0:Y),(((0:Y),(0:Y)),((0:Y),((0:Y),((0:Y),((0:Y),(0:Y))))))))))⟩:MR)
structure To where
 res:Y
 p:PK
 ev:EW
def abR (s:To):LV:=.v<|ag J s.res
def acD (s:To):aE:=[bDd,bDd,zB,bDd,bV 62 AR s.p.cs,bV 87 AL s.p.ls,bV 5 (.int aw) s.p.fl,bV 90 Ae s.p.ra,bV 94 Al s.p.st,bV 46 AL s.p.ca,bV 74 Ap s.p.mi,bV 66 Az s.p.me,bV 48 Aq s.p.dm,bV 99 Au s.p.lk,bV 3 A7 s.p.dr,bV 3 A7 s.p.tg,⟨[.os 4 11 0<|M s.p.cs,.xl .str s.p.os,.xl AY s.p.ks,.xl AX s.p.gs,.xl AZ s.p.bs,.v<|ag J s.p.tk,.v<|.bool s.p.up,.os 5 5 0<|M s.p.ls,.v<|ag J s.p.se,.os 6 1 0<|M s.p.fl,.os 7 2 0<|M s.p.ra,.v<|ag J s.p.nx,.os 8 4 0<|M s.p.st,.os 9 5 0<|M s.p.ca,.os 10 3 0<|M s.p.mi,.os 11 3 0<|M s.p.me,.os 12 4 0<|M s.p.dm,.os 13 6 0<|M s.p.lk,.os 14 1 0<|M s.p.dr,.os 15 1 0<|M s.p.tg,.v<|ag J s.ev.ek,.v<|ag J s.ev.en,.v<|ag J s.ev.em,.v<|ag J s.ev.c1,.v<|ag J s.ev.c2,.v<|ag J s.ev.c3,.v<|ag J s.ev.c4,.v<|ag J s.ev.c5,.v<|.bool s.ev.d1,.v<|ag J s.ev.d2,.v<|ag J s.ev.d3,.v<|ag J s.ev.d4,.v<|.slice aj 0 0],83,.cl,X⟩]
def YH (s:Jf):T To:=letI a:=s.p.tg.set s.ev.en.toNat s.ev.em;letI b:=(ByteArray.empty,((0:Y),((0:Y),((0:Y),(((0:Y),(0:Y)),((0:Y),((0:Y),((0:Y),((0:Y),(0:Y))))))))));letI c:=((M s.p.cs:aC):Y);letI d:=((Wa<|OX s).o.drop 0).take<|M (Wa<|OX s).o;letI e:=(s.p.cs.drop 0).take<|M s.p.cs;letI f:=M s.p.tg;.br (!(inB s.ev.en (0:Y)<|AA<|c-1)) (.pc s.p<|.ok<|⟨1,s.p,s.ev⟩)<|.ik s.ev.en (M s.p.cs)<|.br (!(inB s.ev.em (1:Y) (s.p.cs.getD s.ev.en.toNat<|Ty.dflt AR).2.2.1)) (.pc s.p<|.ok<|⟨1,s.p,s.ev⟩)<|.ik s.ev.en f<|.rm 96 c<|.rz s.p.cs<|.rc c b (M e)<|.re f a<|.pa s.p<|.rl s.p.st<|.rl s.p.ca<|.rl s.p.mi<|.rl s.p.me<|.rl s.p.dm<|.rl s.p.lk<|.rl s.p.dr<|.re f a<|.re c.toNat (cpy e<|aq c.toNat b)<|.req (SQ.q<|OX s)<|.rz (Wa<|OX s).o<|.req (B0 d s.p.os s.p.ks s.p.gs s.p.bs=U)<|.br (!GA d s.p.gs (BQ s.p.gs)) (.pa s.p<|.rl s.p.st<|.rl s.p.ca<|.rl s.p.mi<|.rl s.p.me<|.rl s.p.dm<|.rl s.p.lk<|.rl s.p.dr<|.rl a<|.ok<|⟨13,{s.p with tg:=a},s.ev⟩)<|.pa s.p<|.rl s.p.st<|.rl s.p.ca<|.rl s.p.mi<|.rl s.p.me<|.rl s.p.dm<|.rl s.p.lk<|.rl s.p.dr<|.rl a<|.ok<|⟨0,{s.p with tg:=a},s.ev⟩
def VP.der {p:PK}(h:VP p) {n m:Y}(hn:inB n 0 ((M p.cs:Y)-1)=U) (hm:inB m 1 (Aa p.cs n).2.2.1=U):B0 (p.Jq n m).Fh p.os p.ks p.gs p.bs=U/\M (p.Jq n m).tg=M p.cs:=by
 have hn:=C1.1 hn
 have hm:=C1.1 hm
 have hl:M (p.Jq n m).tg=M p.cs:=by show M (p.tg.set n.toNat m)=_;rw [BR];exact h.Ew
 have hk:=ln h.site (k:=n.toNat) A0
 rw [Bu hn.1] at hk;refine ⟨aeF h.site (λk hk2=>?_) _ A0,hl⟩
 show 1<=gi (p.tg.set n.toNat m) k/\gi (p.tg.set n.toNat m) k<=1000
 rw [Hj hn.1 (by have:=h.Ew;omega) A0]
 split
 ·omega
 ·exact h.tg1 k hk2
def uI (s:Jf):Prop:=VP s.p
def SE (s:Jf):To:=⟨PK.Ge s.p s.ev.en s.ev.em,{s.p with tg:=if PK.Ge s.p s.ev.en s.ev.em=1 then s.p.tg else s.p.tg.set s.ev.en.toNat s.ev.em},s.ev⟩
def um:C4 Jf To:=⟨Sd,Uj,λv b=>⟨rF b,rG b⟩,uI,[0,1,3],[],abR,acD,SE⟩
abbrev auw (s:Jf):Prop:=uI s/\Sd s=Sd s/\Uj s=Uj s
def aG2:Aj:=kI Ly<|la 4 func55 zd<|la 2 func50 Hg<|la 9 func23 C2<|l0 Ly
def aLd:aL3:=addL 55 17 4 (SQ.lp)<|addL 50 18 2 (Hw.lp)<|addL 23 0 9 (Eb.lp)<|unrL prog AO Ly 20 2
def agt:LLok prog AO aLd:=addL_ok func55 rfl AM zd<|addL_ok func50 rfl AM Hg<|addL_ok func23 rfl AM C2<|unrL_ok<|gk Ly
def ar8 (s:Jf):((stepH prog AO Ly aLd aG2).k 22 (Sd s)<|Uj s).bind (λq=>canT (M<|Uj s) [0] [] .normal (q.1::Sd s) q.2)=(YH s).mp (λs2=>⟨.normal,M (Sd s)+1,[abR s2],acD s2,U⟩):=AM
def ao3 (s:Jf) (hE:uI s):(YH s).all (λq=>q=SE s):=by
 have hs:=CV.1 hE.site
 have ht:=hE.Ew
 have hw:AA (((M s.p.cs:aC):Y)-1)=(M s.p.cs:Y)-1:=AG
 unfold YH;rw [hw];simp only [Oy,NG]
 have one:(!inB s.ev.en 0 ((M s.p.cs:Y)-1) || !inB s.ev.em 1 (Aa s.p.cs s.ev.en).2.2.1)=U->s.p.Ge s.ev.en s.ev.em=1:=λh=>AD h
 refine ⟨λc=>?_,λc=>?_⟩
 ·have he:=one (by rw [c];rfl)
  repeat (refine ⟨AH,?_⟩)
  show _=_
  unfold SE;rw [AD he,he]
 have cn:inB s.ev.en 0 ((M s.p.cs:Y)-1)=true:=EO
 have ci:=C1.1 cn
 have hcd:s.p.cs.getD s.ev.en.toNat (Ty.dflt AR)=Aa s.p.cs s.ev.en:=by
  rw [DC,Cs A0]
  have:=Oz (cs:=s.p.cs) (k:=s.ev.en.toNat) A0
  rw [Bu ci.1] at this;rw [this];rfl
 rw [hcd]
 repeat (refine ⟨by first|omega|exact ⟨rfl,rfl⟩ |exact ⟨rfl,AH⟩ |(refine ⟨?_,?_⟩<;>(simp;done)) |(rw [Bv];omega),?_⟩)
 refine ⟨λc2=>?_,λc2=>?_⟩
 ·have he:=one (by rw [c2,Lg])
  repeat (refine ⟨AH,?_⟩)
  show _=_
  unfold SE;rw [AD he,he]
 have cm:inB s.ev.em 1 (Aa s.p.cs s.ev.en).2.2.1=true:=D4
 obtain ⟨k1,k2⟩:=hE.der cn cm
 have ho:(OX s).o=s.p.cs:=by
  show cpy ((s.p.cs.drop 0).take _) _=_
  rw [Oy];exact NG
 have hV:ZJ (OX s):=⟨rfl,by show (M s.p.tg:Y)=(M (s.p.tg.set s.ev.en.toNat s.ev.em):Y);rw [BR],k2,aJp,ho⟩
 obtain ⟨_,_,_,q2⟩:=alZ _ hV
 have q2:(Wa<|OX s).o=(s.p.Jq s.ev.en s.ev.em).Fh:=q2
 have nb:¬(!inB s.ev.en 0 ((M s.p.cs:Y)-1) || !inB s.ev.em 1 (Aa s.p.cs s.ev.en).2.2.1)=true:=by rw [cn,cm];decide
 rw [q2]
 repeat (refine ⟨A8,?_⟩)
 refine ⟨⟨hV,rfl,rfl⟩,?_⟩
 repeat (refine ⟨A0,?_⟩)
 refine ⟨λc3=>?_,λc3=>?_⟩
 ·have c3:GA (s.p.Jq s.ev.en s.ev.em).Fh s.p.gs (BQ s.p.gs)=false:=Lh
  have he:s.p.Ge s.ev.en s.ev.em=13:=by unfold PK.Ge;rw [AE nb,AD c3]
  repeat (refine ⟨AH,?_⟩)
  show _=_
  unfold SE;rw [AE JC,he]
 ·have c3:¬GA (s.p.Jq s.ev.en s.ev.em).Fh s.p.gs (BQ s.p.gs)=false:=Lh
  have he:s.p.Ge s.ev.en s.ev.em=0:=by unfold PK.Ge;rw [AE nb,AE c3]
  repeat (refine ⟨AH,?_⟩)
  show _=_
  unfold SE;rw [AE JC,he]
def att:CSound prog AO 22 um.m:=C4.sound (D:=um) (t:=YH) (gk Ly) agt aG2.h ar8 λs hE=>⟨ao3 s hE⟩
def aHR:aD->T LV
 | [.xl (.pair (.int J) (.pair (.int J) (.pair (.int J) (.pair (.int J) (.int J))))) l,.v (.agg ⟨[ag J nu,ag J co,ag J am,ag J fr,ag J tk]⟩)]=> .ok (.tup [HM l (nu,co,am,fr,tk),Df l (nu,co,am,fr,tk)])
 |_=> .no
def ayG:aM:=[RZ,aCP,aLm]
def aLo:=vo (S:=aHR) func103 ayG kN (λargs lv h=>by
 unfold aHR at h;split at h
 ·rename_i l nu co am fr tk
  refine Af (letI a:=(aq (0:Y).toNat ((0:Y),((0:Y),((0:Y),((0:Y),(0:Y))))));letI b:=(nu,(co,(am,(fr,tk))));letI d:=(M l:Y);letI g:=AA<|d+1;letI i:=(a++l)++([b]);letI f:=((i.drop 0).take<|(0:Y).toNat+M l+M ([b]));.br ((!(BX l)) ||(!(Cj (nu,co,am,fr,tk)))) (.ok<|.tup [.xl AL ([]:aN),(1:Y)])<|.br (an<|d>0) (.ix (AA<|d-1) (M l)<|.br (!(Is (An l<|AA<|d-1) (nu,co,am,fr,tk))) (.ok<|.tup [.xl AL ([]:aN),(12:Y)])<|.br (d==64) (.ok<|.tup [.xl AL ([]:aN),(10:Y)])<|.req (0<=(0:Y)/\(0:Y)<=g/\40*g<=2^48/\g<2^63)<|.ra (0:Y).toNat (M a) ((0:Y).toNat+M l) 40<|.ra ((0:Y).toNat+M l) (M<|a++l) ((0:Y).toNat+M l+M ([b])) 40<|.req (0+((0:Y).toNat+M l+M ([b]))<=M i)<|.ok<|.tup [f,(0:Y)])<|.br (d==64) (.ok<|.tup [.xl AL ([]:aN),(10:Y)])<|.req (0<=(0:Y)/\(0:Y)<=g/\40*g<=2^48/\g<2^63)<|.ra (0:Y).toNat (M a) ((0:Y).toNat+M l) 40<|.ra ((0:Y).toNat+M l) (M<|a++l) ((0:Y).toNat+M l+M ([b])) 40<|.req (0+((0:Y).toNat+M l+M ([b]))<=M i)<|.ok<|.tup [f,(0:Y)]) ?_;obtain rfl:=h
  have bad:∀e:Y,e≠0->Df l (nu,co,am,fr,tk)=e->LV.tup [.xl AL ([]:aN),.v<|ag J e]=LV.tup [.xl AL<|HM l (nu,co,am,fr,tk),.v<|ag J<|Df l (nu,co,am,fr,tk)]:=λe h0 h1=>by
   unfold HM;rw [h1,AE h0]
  refine ⟨λc=>bad 1 AT ?_,λc=>?_⟩
  ·unfold Df
   grind
  have hk:(BX l&&Cj (nu,co,am,fr,tk))=true:=by revert c;cases BX l<;>cases Cj (nu,co,am,fr,tk)<;>simp
  have hl:M l<=64:=by rw [AS] at hk;exact (Hi hk.1).1
  have w1:AA ((M l:Y)+1)=(M l:Y)+1:=AG
  have fin:(an (M l>0)&&!Is (An l<|(M l:Y)-1) (nu,co,am,fr,tk))=X->M l≠64->LV.tup [.xl AL<|(l++[(nu,co,am,fr,tk)]).take<|0+M l+1,.v<|ag J 0]=LV.tup [.xl AL<|HM l (nu,co,am,fr,tk),.v<|ag J<|Df l (nu,co,am,fr,tk)]:=λh1 h2=>by
   have e:Df l (nu,co,am,fr,tk)=0:=by unfold Df;rw [AD hk,AE (by rw [h1];simp),AE h2]
   unfold HM;rw [e,AD rfl,CY AH]
  have rq:(0<=(0:Y)/\(0:Y)<=AA ((M l:Y)+1)/\40*AA ((M l:Y)+1)<=2^48/\AA ((M l:Y)+1)<2^63):=by rw [w1];omega
  refine ⟨λc2=>?_,λc2=>?_⟩
  ·have c2:0<M l:=by have:=C9 c2;omega
   have w2:AA ((M l:Y)-1)=(M l:Y)-1:=AG
   rw [w2];refine ⟨A0,λc3=>bad 12 AT ?_,λc3=>⟨λc4=>bad 10 AT ?_,λc4=>⟨rq,⟨rfl,CN,CN⟩,⟨AH,CN,CN⟩,AH,?_⟩⟩⟩
   ·unfold Df
    rw [AD hk,AD (by rw [c3,Cq c2];rfl)]
   ·unfold Df
    rw [AD hk,AE (by rw [c3];simp),AD ru]
   ·exact fin (by rw [c3,LX]) ru
  ·have c2:¬(M l)>0:=by have:=Gu c2;omega
   refine ⟨λc4=>bad 10 AT ?_,λc4=>⟨rq,⟨rfl,CN,CN⟩,⟨AH,CN,CN⟩,AH,?_⟩⟩
   ·simp at c4;omega
   ·exact fin (by rw [Fq c2,Mg]) A0
 ·cases h)
structure Ks where
 (l0 left l:aN)
 (n i afJ af8 amx amw ahC:Y)
 o:aI
def yg:=bN f158 0
def o5 (s:Ks):T (Rd Ks):=letI a:=An s.l s.i;.br (an<|s.i<s.n) (.ix s.i (M s.l)<|.rb (M s.o) (M<|[plL a]) 24<|.re (M s.o+M ([plL a])) (s.o++([plL a]))<|.nx {s with i:=AA<|s.i+1,o:=s.o++([plL a])})<|.rl s.o<|.so (.exit 0) s
def ZZ (s:Ks):Prop:=s.i=0/\s.n<=1000/\s.n=(M s.l:Y)/\(M s.o:Y)<=s.i
def Yr (s:Ks):Prop:=0<=s.i/\s.i<=s.n/\s.n<=1000/\s.n=(M s.l:Y)/\(M s.o:Y)<=s.i
def lK (s:Ks):aC:=(s.n-s.i).toNat
def ace (x:Ex) (s s':Ks):Prop:=True
def axa:∀s,ZZ s->Yr s:=by
 exact Vk
def asi:Da Yr lK ace o5:=by
 intro s hI;obtain ⟨h0,h1,h2,h3,h4⟩:=hI;refine allR_ite (λc1=>?_) λc1=>trivial
 have c1:s.i<s.n:=A8
 rw [AG (x:=s.i+1)];exact ⟨⟨A8,A8,h2,h3,A8⟩,by simp only [lK];omega⟩
def Pe:LpD Ks:=⟨0,71,[0,4,8,10,11,25,26,27],[.ns 10 0 30<|.sl<|.int aw],λs=>[s.l0,.own 0 0,s.left,.own 1 0,.fn 198 [.own 1 0],s.l,s.n,s.i],λs=>[⟨[s.afJ,s.af8,s.amx,s.amw,s.ahC],87,.cl,X⟩,⟨[.os 2 1 0<|M s.o],168,.cl,X⟩,⟨[],30,.vec (.sl<|.int aw) s.o,X⟩],λv b=>⟨Ag AL v 0,Ag AL v 2,Ag AL v 5,AJ v 6,AJ v 7,Ad b 0 0,Ad b 0 1,Ad b 0 2,Ad b 0 3,Ad b 0 4,AV (.sl<|.int aw) b 2⟩,o5,λs r=> {s with i:=r.i,o:=r.o},λs=>s,λ_ s=>s,[.exit 0],ZZ,Yr,lK⟩
abbrev fJ:=Pe.run
abbrev aAc:=Pe.exn
def aor:Rq Yr o5:=by
 intro s hI;refine ⟨λc1=>⟨?_,?_,?_,ak⟩,λc1=>⟨A9,ak⟩⟩
 all_goals ((obtain ⟨h0,h1,h2,h3,h4⟩:=hI;simp only [AU] at c1;(first|omega|(simp only [BB,BG];omega) |(simp only [Av,BB,BG,DR]))))
def Xe:aM:=[XT,aa1]
def aFd:Aj:=kI Xe<|l0 Xe
def aEZ:Pe.Ok:={}
def aDy:Pe.Pf (ace):=⟨axa,λs h=>rfl,asi,aor⟩
def ahX:SA 0 yg Pe:=s1 aEZ aDy Xe aFd
def aky:Rs ZZ aAc fJ (λs:Ks=>s.o++(s.l.drop s.i.toNat).map plL) (λx s' (v:aI)=>x=.exit 0/\s'.o=v):=CM aEZ aDy (λs hI=>by
  obtain ⟨h0,h1,h2,h3,h4⟩:=hI;refine allR_ite (λc1=>?_) λc1=>?_
  ·have c1:s.i<s.n:=A8
   rw [AG (x:=s.i+1)]
   show _++[_]++_=_++_
   rw [(On h0 A0).1]
   grind
  ·have c1:s.n<=s.i:=A8
   refine ⟨rfl,?_⟩;rw [DD A0]
   simp)
def kpR (l:aN) (x:Le) (t:Y):aI:=if Cw l t=0 then kpL l x t else []
def aG7:aD->T LV
 | [.xl (.pair (.int J) (.pair (.int J) (.pair (.int J) (.pair (.int J) (.int J))))) l,.v (.agg ⟨[ag J x1,ag J x2,ag J x3,ag J x4,ag J x5]⟩),.v (ag J t)]=> .ok (.tup [.xl (.sl<|.int aw)<|kpR l (x1,x2,x3,x4,x5) t,Cw l t])
 |_=> .no
def Qq (l:aN) (x1 x2 x3 x4 x5 t:Y):Ks:=(⟨l,Bx l t,Bx l t,(M (Bx l t):Y),0,x1,x2,x3,x4,x5,([]:aI)⟩:Ks)
def aA6 {l:aN}{t:Y}(h:Cw l t=0):M l<=64/\M (Bx l t)<=M l:=by
 unfold Cw at h;split at h
 ·rename_i c
  refine ⟨(Hi aK3).1,?_⟩;unfold Bx
  grind
 ·cases h
def aw9:=vm (S:=aG7) func158 Xe aFd (L:=(λi=>if i=7 then Pe.lp else noLoops i)) (λb hb=>by
 rw [show loopsIn _=[yg] by kernel_rfl] at hb
 simp only [Ak,B8,B6] at hb;subst hb;exact ahX) (λargs lv h=>by
 unfold aG7 at h;split at h
 ·rename_i l x1 x2 x3 x4 x5 t
  refine Af (letI b:=fJ<|Qq l x1 x2 x3 x4 x5 t;letI e:=(x1,x2,x3,x4,x5);letI f:=M b.o+M ([plL e]);letI j:=(AA<|(M l:Y)-1);letI k:=(M (Bx l t):Y);letI m:=M b.o;letI n:=b.o++([plL e]);letI d:=An l j;letI p:=M b.o+M ([plL d]);letI r:=b.o++([plL d]);letI a:=M b.o+M ([plL d])+M ([plL e]);letI g:=r++([plL e]);.br ((Cw l t) !=0) (.ok<|.tup [.xl (.sl<|.int aw) ([]:aI),(Cw l t)])<|.r0 (List Int)<|.req (Pe.q<|Qq l x1 x2 x3 x4 x5 t)<|.br (an<|(M l:Y)>0) (.br (k==0) (.ix j (M l)<|.rb m (M<|[plL d]) 24<|.ra p (M r) a 24<|.req (0+a<=M g)<|.ok<|.tup [.xl (.sl<|.int aw)<|(g.drop 0).take a,(0:Y)])<|.ix (AA<|k-1) (M<|Bx l t)<|.ix j (M l)<|.br ((An (Bx l t)<|AA<|k-1).1 !=d.1) (.ix j (M l)<|.rb m (M<|[plL d]) 24<|.ra p (M r) a 24<|.req (0+a<=M g)<|.ok<|.tup [.xl (.sl<|.int aw)<|(g.drop 0).take a,(0:Y)])<|.rb m (M<|[plL e]) 24<|.req (0+f<=M n)<|.ok<|.tup [.xl (.sl<|.int aw)<|(n.drop 0).take f,(0:Y)])<|.rb m (M<|[plL e]) 24<|.req (0+f<=M n)<|.ok<|.tup [.xl (.sl<|.int aw)<|(n.drop 0).take f,(0:Y)]) ?_;obtain rfl:=h;refine ⟨λc=>?_,λc=>?_⟩
  ·have c:Cw l t≠0:=EO
   unfold kpR;rw [AE c];rfl
  have hE:Cw l t=0:=EO
  obtain ⟨k1,k2⟩:=aA6 hE
  have hV:ZZ (Qq l x1 x2 x3 x4 x5 t):=⟨rfl,by show (M (Bx l t):Y)<=1000;omega,rfl,rX⟩
  have q:aAc (Qq l x1 x2 x3 x4 x5 t)=.exit 0/\(fJ<|Qq l x1 x2 x3 x4 x5 t).o=(Bx l t).map plL:=aky _ hV
  have hR:kpR l (x1,x2,x3,x4,x5) t=kpL l (x1,x2,x3,x4,x5) t:=AD hE
  have w1:=λ_:0<M l=>AG (x:=(M l:Y)-1)
  have w2:=λ_:0<M (Bx l t)=>AG (x:=(M (Bx l t):Y)-1)
  have hL:M (fJ<|Qq l x1 x2 x3 x4 x5 t).o=M (Bx l t):=by rw [q.2,Dz]
  rw [hE,hR];unfold kpL;refine ⟨A9,⟨hV,rfl,rfl⟩,λc1=>⟨λc2=>?_,λc2=>?_⟩,λc1=>?_⟩
  ·have c1:0<M l:=AQ
   have c2:M (Bx l t)=0:=D4
   rw [w1 c1,AD ⟨c1,.inl c2⟩];refine ⟨A0,⟨Ck _,?_,?_⟩,⟨?_,?_,?_⟩,?_,?_⟩
   all_goals first|(simp only [Av,BB,BG,hL];omega) |(rw [q.2,Bq,CY dN];simp only [DQ,FK];rfl)
  ·have c1:0<M l:=AQ
   have c2:0<M (Bx l t):=by simp at c2;exact Mk.2 c2
   rw [w1 c1,w2 c2];refine ⟨A0,A0,λc3=>?_,λc3=>?_⟩
   ·rw [AD ⟨c1,.inr Lh⟩]
    refine ⟨A0,⟨Ck _,?_,?_⟩,⟨?_,?_,?_⟩,?_,?_⟩
    all_goals first|(simp only [Av,BB,BG,hL];omega) |(rw [q.2,Bq,CY dN];simp only [DQ,FK];rfl)
   ·rw [AE (by intro h;rcases h.2 with h|h;omega;simp at c3;exact h c3)]
    refine ⟨⟨Ck _,?_,?_⟩,?_,?_⟩
    all_goals first|(simp only [Av,BB,BG,hL];omega) |(rw [q.2,Bq,CY dN];simp only [DQ,FK];rfl)
  ·have c1:¬0<M l:=AQ
   rw [AE λh=>c1 h.1]
   refine ⟨⟨Ck _,?_,?_⟩,?_,?_⟩
   all_goals first|(simp only [Av,BB,BG,hL];omega) |(rw [q.2,Bq,CY dN];simp only [DQ,FK];rfl)
 ·cases h)
def Xh:aM:=[]
def avI:aD->T LV:=λl=>BD prog AO (Xh) kN noLoops f232<|canL l
def aLq:=vo (S:=avI) func232 Xh kN (λargs lv h=>by
 refine ⟨?_⟩
 assumption)
def avJ:aD->T LV:=λl=>BD prog AO (Xh) kN noLoops f237<|canL l
def aLs:=vo (S:=avJ) func237 Xh kN (λargs lv h=>by
 refine ⟨?_⟩
 assumption)
def fk {l:aB}{n:aC}(h:M l=n):cpy l (aq n (0:Y))=l:=by
 unfold cpy
 simp_all
def fZ {l:aB}{n:aC}(h:M l=n):((cpy ((l.drop 0).take n)<|aq n (0:Y)).drop 0).take n=l:=by
 rw [Bq,Bq,CY (l:=l) A0,fk h,CY A0]
def Rj {l:aB}{n:aC}(h:M l=n):(l.drop 0).take n=l:=by
 grind
def oU:Array Tmp×Code×Code:=((rangesIn<|f233.body.getD .skip)[0]?).getD (#[],.skip,.skip)
def aat:aMe:=oU.1
def aay:bE:=oU.2.1
def aaw:bE:=oU.2.2
structure Jw where
 (n i FR:Y)
 (FP b1:aB)
 fc:Y
 ET:aB
 (b3 b4 FN:Y)
 b9:ba
 b10:aB
 st:LS
def I4 (s:Jw):aB:=(s.b10.set (AA<|s.b3+s.i).toNat<|BM aw (s.b10.getD (AA<|s.b3+s.i).toNat<|Ty.dflt<|.int aw)<|gi s.b1 s.i)
def lpC (s:Jw):aB:=((cpy (((I4 s).drop 0).take<|M s.b10)<|aq ((M s.b10:aC):Y).toNat (0:Y)).drop 0)
def dx (s:Jw):T (Rd Jw):=letI a:=((M s.b10:aC):Y);letI b:=(s.FN,(lpC s).take a.toNat);letI c:=M s.b10;letI d:=((I4 s).drop 0).take c;.br (an<|s.i<s.n) (.ik (AA<|s.b3+s.i) c<|.ix s.i (M s.b1)<|.ik (AA<|s.b3+s.i) c<|.rm 1 a<|.req (0+c<=M (I4 s))<|.rc a (0:Y) (M d)<|.req (0+a.toNat<=M (cpy d<|aq a.toNat (0:Y)))<|.rb (M s.b9) (M<|[b]) 32<|.re (M s.b9+M ([b])) (s.b9++([b]))<|.re c (I4 s)<|.nx {s with i:=AA<|s.i+1,b9:=s.b9++([b]),b10:=I4 s})<|.rl s.b9<|.rl s.b10<|.so (.exit 0) s
def eu (s:Jw):Prop:=s.st=.ready/\s.i=0/\(s.n=(M s.b1:Y)/\0<=s.n/\0<=s.b3/\s.b3+s.n<=(M s.ET:Y)/\M s.ET<=4096)/\s.b10=D8 s.ET s.b3 s.b1 0/\s.b9=[(s.FN,D8 s.ET s.b3 s.b1 0)]
def WK (s:Jw):Prop:=s.st=.ready/\(0<=s.i/\s.i<=s.n)/\(s.n=(M s.b1:Y)/\0<=s.n/\0<=s.b3/\s.b3+s.n<=(M s.ET:Y)/\M s.ET<=4096)/\s.b10=D8 s.ET s.b3 s.b1 s.i.toNat/\s.b9=(au<|s.i.toNat+1).map (λk:aC=>(s.FN,D8 s.ET s.b3 s.b1 k))
def pA (s:Jw):aC:=(s.n-s.i).toNat
def vW (x:Ex) (s s':Jw):Prop:=x=.exit 0/\s'.b9=DK s'.FN s'.ET s'.b3 s'.b1
def agb:∀s,eu s->WK s:=by
 exact aIW
def ay3:Da WK pA vW dx:=by
 intro s hI;unfold dx;refine allR_ite (λc1=>?_) λc1=>?_
 ·obtain ⟨ht,⟨h0,h1⟩,⟨hn,hn0,ha,hl,h4⟩,hb,ho⟩:=hI
  have hbl:M s.b10=M s.ET:=aKO
  have c1:s.i<s.n:=AQ
  have wa:AA (s.b3+s.i)=s.b3+s.i:=AG
  have hB:I4 s=D8 s.ET s.b3 s.b1 (s.i.toNat+1):=aKA
  have hBl:M (I4 s)=M s.ET:=aKP
  have hC:(lpC s).take ((M s.b10:aC):Y).toNat=I4 s:=aJy
  rw [AG (x:=s.i+1)]
  have et:(s.i+1).toNat=s.i.toNat+1:=A0
  refine ⟨⟨ht,⟨AP,AP⟩,⟨hn,hn0,ha,hl,h4⟩,?_,?_⟩,by simp only [pA];omega⟩
  ·simp only [et]
   exact hB
  ·simp only [et]
   rw [OF,J8,<-ho,D2,IL,<-hB,<-hC]
 ·obtain ⟨ht,⟨h0,h1⟩,⟨hn,hn0,ha,hl,h4⟩,hb,ho⟩:=hI
  have c1:s.n<=s.i:=AQ
  refine ⟨rfl,?_⟩;rw [ho]
  have e:s.i.toNat=M s.b1:=A0
  rw [e];rfl
def WN:LpD Jw:=⟨8,41,[0,3,4,6,15,16],[],λs=>[.yld 7,.own 5 0,.own 3 0,.own 8 0,s.n,s.i],λs=>[⟨[s.FR,.xl (.int aw) s.FP],32,.cl,X⟩,⟨[.xl (.int aw) s.b1],30,.cl,X⟩,⟨[s.fc,.xl (.int aw) s.ET],32,.cl,X⟩,⟨[s.b3],3,.cl,X⟩,⟨[s.b4],3,.cl,X⟩,⟨[.fn 232 [.own 1 0]],333,.cl,X⟩,⟨[.os 9 2 0<|M s.b9],205,.cl,X⟩,⟨[.junk,.junk,.junk,.own 6 0,.v<|.tuple #[],.junk,.v<|.tuple #[],.v<|.tuple #[],.v<|.tuple #[],.v<|.tuple #[],.v<|.tuple #[],.junk],0,.lrec aat aay aaw s.st,X⟩,⟨[s.FN,.os 10 1 0<|M s.b10],32,.cl,X⟩,bV 32 BE s.b9,bV 5 (.int aw) s.b10],λv b=>⟨AJ v 4,AJ v 5,Ad b 0 0,AB (.int aw) b 0 1,AB (.int aw) b 1 0,Ad b 2 0,AB (.int aw) b 2 1,Ad b 3 0,Ad b 4 0,Ad b 8 0,AV BE b 9,AV (.int aw) b 10,.ready⟩,dx,λs r=> {r with n:=s.n,FR:=s.FR,FP:=s.FP,b1:=s.b1,fc:=s.fc,ET:=s.ET,b3:=s.b3,b4:=s.b4,FN:=s.FN,st:=s.st},λs=> {s with st:=.ready},λx s=> {s with st:=(match x with| .exit 0=> .ready|_=> .ready)},[.exit 0],eu,WK,pA⟩
abbrev XW:=WN.run
abbrev atL:=WN.exn
def lV:aM:=[T3,aLq]
def aru:Aj:=kI lV<|l0 lV
def axC:Rq WK dx:=by
 intro s hI;refine ⟨λc1=>⟨?_,?_,?_,?_,?_,?_,?_,?_,?_,?_,?_,?_,ak⟩,λc1=>⟨A9,A9,ak⟩⟩
 all_goals ((obtain ⟨ht,⟨h0,h1⟩,⟨hn,hn0,ha,hl,h4⟩,hb,ho⟩:=hI;have hbl:M s.b10=M s.ET:=aKO;have c1:s.i<s.n:=A8;have wa:AA (s.b3+s.i)=s.b3+s.i:=AG;have hB:I4 s=D8 s.ET s.b3 s.b1 (s.i.toNat+1):=aKA;have hBl:M (I4 s)=M s.ET:=aKP;have hC:(lpC s).take ((M s.b10:aC):Y).toNat=I4 s:=aJy;(first|omega|exact ⟨rfl,AH⟩ |(rw [wa];omega) |(rw [hC];simp only [Av,BB,BG,ho,Dz,O7,DR];omega) |(rw [hBl];omega) |(rw [Bs,Bv,Rj A0];omega) |(rw [Bs,Rj A0,fk A0];omega))))
def aaU:WN.Ok:={}
def aaG:WN.Pf (vW):=⟨agb,λs h=>by
 obtain ⟨n,i,FR,FP,b1,fc,ET,b3,b4,FN,b9,b10,st⟩:=s
 have e:=h.1
 subst e;rfl,ay3,axC⟩
def ir:=s2 (b:=bN f239 0) aaU aaG lV aru
def asV:Fi eu WK vW atL XW:=LpD.fin aaU aaG
structure Jx where
 (n i FR:Y)
 FP:aB
 Qz:Y
 Dq:aB
 (b2 b3 FN:Y)
 b8:ba
 b9:aB
 st:LS
def leB (s:Jx):aB:=(s.b9.set (AA<|s.b2+s.i).toNat (255:Y))
def leC (s:Jx):aB:=((cpy (((leB s).drop 0).take<|M s.b9)<|aq ((M s.b9:aC):Y).toNat (0:Y)).drop 0)
def dy (s:Jx):T (Rd Jx):=letI a:=((M s.b9:aC):Y);letI b:=(s.FN,(leC s).take a.toNat);letI c:=M s.b9;letI d:=((leB s).drop 0).take c;.br (an<|s.i<s.n) (.ik (AA<|s.b2+s.i) c<|.ik (AA<|s.b2+s.i) c<|.rm 1 a<|.req (0+c<=M (leB s))<|.rc a (0:Y) (M d)<|.req (0+a.toNat<=M (cpy d<|aq a.toNat (0:Y)))<|.rb (M s.b8) (M<|[b]) 32<|.re (M s.b8+M ([b])) (s.b8++([b]))<|.re c (leB s)<|.nx {s with i:=AA<|s.i+1,b8:=s.b8++([b]),b9:=leB s})<|.rl s.b8<|.rl s.b9<|.so (.exit 0) s
def fB (s:Jx):Prop:=s.st=.ready/\s.i=0/\(s.n=s.n/\0<=s.n/\0<=s.b2/\s.b2+s.n<=(M s.Dq:Y)/\M s.Dq<=4096)/\s.b9=Ej s.Dq s.b2 0/\s.b8=[(s.FN,Ej s.Dq s.b2 0)]
def W9 (s:Jx):Prop:=s.st=.ready/\(0<=s.i/\s.i<=s.n)/\(s.n=s.n/\0<=s.n/\0<=s.b2/\s.b2+s.n<=(M s.Dq:Y)/\M s.Dq<=4096)/\s.b9=Ej s.Dq s.b2 s.i.toNat/\s.b8=(au<|s.i.toNat+1).map (λk:aC=>(s.FN,Ej s.Dq s.b2 k))
def oh (s:Jx):aC:=(s.n-s.i).toNat
def vX (x:Ex) (s s':Jx):Prop:=x=.exit 0/\s'.b8=(au<|s'.n.toNat+1).map (λk:aC=>(s'.FN,Ej s'.Dq s'.b2 k))
def agd:∀s,fB s->W9 s:=by
 exact aIW
def axO:Da W9 oh vX dy:=by
 intro s hI;unfold dy;refine allR_ite (λc1=>?_) λc1=>?_
 ·obtain ⟨ht,⟨h0,h1⟩,⟨hn,hn0,ha,hl,h4⟩,hb,ho⟩:=hI
  have hbl:M s.b9=M s.Dq:=aLL
  have c1:s.i<s.n:=AQ
  have wa:AA (s.b2+s.i)=s.b2+s.i:=AG
  have hB:leB s=Ej s.Dq s.b2 (s.i.toNat+1):=aKB
  have hBl:M (leB s)=M s.Dq:=aLM
  have hC:(leC s).take ((M s.b9:aC):Y).toNat=leB s:=aJz
  rw [AG (x:=s.i+1)]
  have et:(s.i+1).toNat=s.i.toNat+1:=A0
  refine ⟨⟨ht,⟨AP,AP⟩,⟨hn,hn0,ha,hl,h4⟩,?_,?_⟩,by simp only [oh];omega⟩
  ·simp only [et]
   exact hB
  ·simp only [et]
   rw [OF,J8,<-ho,D2,IL,<-hB,<-hC]
 ·obtain ⟨ht,⟨h0,h1⟩,⟨hn,hn0,ha,hl,h4⟩,hb,ho⟩:=hI
  have c1:s.n<=s.i:=AQ
  refine ⟨rfl,?_⟩;rw [ho]
  have e:s.i.toNat=s.n.toNat:=A0
  rw [e]
def WO:LpD Jx:=⟨7,41,[0,3,4,6,15,16],[],λs=>[.yld 6,.own 4 0,.own 2 0,.own 7 0,s.n,s.i],λs=>[⟨[s.FR,.xl (.int aw) s.FP],32,.cl,X⟩,⟨[s.Qz,.xl (.int aw) s.Dq],32,.cl,X⟩,⟨[s.b2],3,.cl,X⟩,⟨[s.b3],3,.cl,X⟩,⟨[.fn 237 []],333,.cl,X⟩,⟨[.os 8 2 0<|M s.b8],205,.cl,X⟩,⟨[.junk,.junk,.junk,.own 5 0,.v<|.tuple #[],.junk,.v<|.tuple #[],.v<|.tuple #[],.v<|.tuple #[],.v<|.tuple #[],.v<|.tuple #[],.junk],0,.lrec aat aay aaw s.st,X⟩,⟨[s.FN,.os 9 1 0<|M s.b9],32,.cl,X⟩,bV 32 BE s.b8,bV 5 (.int aw) s.b9],λv b=>⟨AJ v 4,AJ v 5,Ad b 0 0,AB (.int aw) b 0 1,Ad b 1 0,AB (.int aw) b 1 1,Ad b 2 0,Ad b 3 0,Ad b 7 0,AV BE b 8,AV (.int aw) b 9,.ready⟩,dy,λs r=> {r with n:=s.n,FR:=s.FR,FP:=s.FP,Qz:=s.Qz,Dq:=s.Dq,b2:=s.b2,b3:=s.b3,FN:=s.FN,st:=s.st},λs=> {s with st:=.ready},λx s=> {s with st:=(match x with| .exit 0=> .ready|_=> .ready)},[.exit 0],fB,W9,oh⟩
abbrev Re:=WO.run
abbrev atM:=WO.exn
def lU:aM:=[T3,aLs]
def ars:Aj:=kI lU<|la 3 func239 ir<|l0 lU
def axE:Rq W9 dy:=by
 intro s hI;refine ⟨λc1=>⟨?_,?_,?_,?_,?_,?_,?_,?_,?_,?_,?_,ak⟩,λc1=>⟨A9,A9,ak⟩⟩
 all_goals ((obtain ⟨ht,⟨h0,h1⟩,⟨hn,hn0,ha,hl,h4⟩,hb,ho⟩:=hI;have hbl:M s.b9=M s.Dq:=aLL;have c1:s.i<s.n:=A8;have wa:AA (s.b2+s.i)=s.b2+s.i:=AG;have hB:leB s=Ej s.Dq s.b2 (s.i.toNat+1):=aKB;have hBl:M (leB s)=M s.Dq:=aLM;have hC:(leC s).take ((M s.b9:aC):Y).toNat=leB s:=aJz;(first|omega|exact ⟨rfl,AH⟩ |(rw [wa];omega) |(rw [hC];simp only [Av,BB,BG,ho,Dz,O7,DR];omega) |(rw [hBl];omega) |(rw [Bs,Bv,Rj A0];omega) |(rw [Bs,Rj A0,fk A0];omega))))
def aaW:WO.Ok:={}
def aaI:WO.Pf (vX):=⟨agd,λs h=>by
 obtain ⟨n,i,FR,FP,Qz,Dq,b2,b3,FN,b8,b9,st⟩:=s
 have e:=h.1
 subst e;rfl,axO,axE⟩
def aCe:=s2 (b:=bN f239 0) aaW aaI lU ars
def asY:Fi fB W9 vX atM Re:=LpD.fin aaW aaI
def Q9 (se:Y) (fl:aB) (a:Y) (d:aB):ba:=if Dl se fl a d=0 then DK se fl a d else []
def Cp (se:Y) (fl:aB) (s:Y):ba:=if Fg se fl s=0 then J4 se fl s else []
def aH7:aD->T LV
 | [.agg [.v (ag J se),.xl (.int aw) fl],.v (ag J at_),.xl (.int aw) d]=> .req (M d<=1000000) (.ok<|.tup [.xl BE<|Q9 se fl at_ d,Dl se fl at_ d])
 |_=> .no
def adi (se:Y) (fl:aB) (at_:Y) (d:aB):Jw:=(⟨(M d:Y),0,se,fl,d,se,fl,at_,(M d:Y),se,[(se,((cpy (((cpy fl<|aq (M fl:Y).toNat (0:Y)).drop 0).take (M fl:Y).toNat)<|aq (((M fl:Y).toNat:aC):Y).toNat (0:Y)).drop 0).take (((M fl:Y).toNat:aC):Y).toNat)],cpy fl<|aq (M fl:Y).toNat (0:Y),.ready⟩:Jw)
def lT:aM:=[T3,aLq]
def arq:Aj:=kI lT<|la 3 func239 aCe<|la 3 func239 ir<|l0 lT
def awH:=vo (S:=aH7) func224 lT arq (λargs lv h=>by
 unfold aH7 at h;split at h
 ·rename_i se fl at_ d
  refine Af (letI b:=(M fl:Y);letI c:=(cpy fl<|aq b.toNat (0:Y));letI e:=((b.toNat:aC):Y);letI g:=adi se fl at_ d;letI i:=(c.drop 0).take b.toNat;letI a:=(cpy i<|aq e.toNat (0:Y));letI f:=(se,(a.drop 0).take e.toNat);.br ((!(FE se fl)) ||(an<|at_<0)) (.ok<|.tup [.xl BE ([]:ba),(1:Y)])<|.br (an<|at_>(AA<|b-(M d:Y))) (.ok<|.tup [.xl BE ([]:ba),(3:Y)])<|.rm 1 b<|.rc b (0:Y) (M fl)<|.rm 1 e<|.req (0+b.toNat<=M c)<|.rc e (0:Y) (M i)<|.req (0+e.toNat<=M a)<|.req ((M ([f]):Y)*32<=2^47/\(M ([f]):Y)<2^62)<|.rl ([f])<|.re b.toNat c<|.req (WN.q g)<|.rz (XW g).b9<|.ok<|.tup [.xl BE<|((XW g).b9.drop 0).take<|M (XW g).b9,(0:Y)]) ?_;obtain ⟨hd,rfl⟩:=h;refine ⟨λc1=>?_,λc1=>⟨λc2=>?_,λc2=>?_⟩⟩
  ·have hE:Dl se fl at_ d=1:=by unfold Dl;rw [AD c1]
   unfold Q9;rw [hE];rfl
  all_goals have c1':FE se fl=U/\0<=at_:=by simp at c1;omega
  all_goals have hv:=KS.1 c1'.1
  all_goals rw [AG (x:=(M fl:Y)-(M d:Y))] at c2
  ·have hE:Dl se fl at_ d=3:=by unfold Dl;rw [AE W2,AD<|C9 c2]
   unfold Q9;rw [hE];rfl
  have c2:at_<=(M fl:Y)-(M d:Y):=D4
  have hE:Dl se fl at_ d=0:=by unfold Dl;rw [AE W2,AE A0]
  have z1:cpy fl (aq (M fl:Y).toNat (0:Y))=fl:=aKx
  have z2:((cpy (((cpy fl<|aq (M fl:Y).toNat (0:Y)).drop 0).take (M fl:Y).toNat)<|aq (((M fl:Y).toNat:aC):Y).toNat (0:Y)).drop 0).take (((M fl:Y).toNat:aC):Y).toNat=fl:=by
   rw [z1,Bs,Bs];exact fZ rfl
  have z5:cpy (((cpy fl<|aq (M fl:Y).toNat (0:Y)).drop 0).take (M fl:Y).toNat) (aq (((M fl:Y).toNat:aC):Y).toNat (0:Y))=fl:=by
   grind
  have z6:((cpy fl<|aq (M fl:Y).toNat (0:Y)).drop 0).take (M fl:Y).toNat=fl:=by
   rw [z1,Bs,Rj rfl]
  have hL:eu (adi se fl at_ d):=⟨rfl,rfl,⟨rfl,by show (0:Y)<=(M d:Y);omega,c1'.2,by show at_+(M d:Y)<=(M fl:Y);omega,hv.2.2.2.1⟩,z1,aKq⟩
  obtain ⟨s',_,q1,q2⟩:=asV _ hL;refine ⟨?_,?_,?_,?_,?_,?_,?_,A9,?_,⟨hL,rfl,rfl⟩,A0,?_⟩
  iterate 8 · (first|omega|(rw [z6,Bv];omega) |(rw [Bv];omega) |(rw [z5];omega) |(rw [z1];omega) |(simp only [BB,BG];decide))
  unfold Q9;rw [AD hE,hE,Bq,CY<|Ar _,q2];rfl
 ·cases h)
def aGo:aD->T LV
 | [.agg [.v (ag J se),.xl (.int aw) fl],.v (ag J sc)]=> .ok (.tup [.xl BE<|Cp se fl sc,Fg se fl sc])
 |_=> .no
def fR (se:Y) (fl:aB) (sc:Y):Jx:=(⟨se,0,se,fl,se,fl,AA<|sc*se,se,se,[(se,((cpy (((cpy fl<|aq (M fl:Y).toNat (0:Y)).drop 0).take (M fl:Y).toNat)<|aq (((M fl:Y).toNat:aC):Y).toNat (0:Y)).drop 0).take (((M fl:Y).toNat:aC):Y).toNat)],cpy fl<|aq (M fl:Y).toNat (0:Y),.ready⟩:Jx)
def lS:aM:=[T3,aLs]
def arp:Aj:=kI lS<|la 3 func239 aCe<|la 3 func239 ir<|l0 lS
def aLt:=vo (S:=aGo) func228 lS arp (λargs lv h=>by
 unfold aGo at h;split at h
 ·rename_i se fl sc
  refine Af (letI b:=(M fl:Y);letI c:=(cpy fl<|aq b.toNat (0:Y));letI d:=((b.toNat:aC):Y);letI f:=fR se fl sc;letI g:=(c.drop 0).take b.toNat;letI a:=(cpy g<|aq d.toNat (0:Y));letI e:=(se,(a.drop 0).take d.toNat);.br (!(FE se fl)) (.ok<|.tup [.xl BE ([]:ba),(1:Y)])<|.br (an<|sc<0) (.ok<|.tup [.xl BE ([]:ba),(1:Y)])<|.req (se≠0)<|.br (an<|sc>=(AA<|b.tdiv se)) (.ok<|.tup [.xl BE ([]:ba),(1:Y)])<|.rm 1 b<|.rc b (0:Y) (M fl)<|.rm 1 d<|.req (0+b.toNat<=M c)<|.rc d (0:Y) (M g)<|.req (0+d.toNat<=M a)<|.req ((M ([e]):Y)*32<=2^47/\(M ([e]):Y)<2^62)<|.rl ([e])<|.re b.toNat c<|.req (WO.q f)<|.rz (Re f).b8<|.ok<|.tup [.xl BE<|((Re f).b8.drop 0).take<|M (Re f).b8,(0:Y)]) ?_;obtain rfl:=h
  have bad:Fg se fl sc=1->LV.tup [.xl BE ([]:ba),.v<|ag J 1]=LV.tup [.xl BE<|Cp se fl sc,.v<|ag J<|Fg se fl sc]:=λhE=>by unfold Cp;rw [hE];rfl
  refine ⟨λc1=>bad ?_,λc1=>⟨λc2=>bad ?_,λc2=>⟨?_,λc3=>bad ?_,λc3=>?_⟩⟩⟩
  ·unfold Fg;rw [AD (by rw [c1];rfl)]
  ·unfold Fg;rw [AD<|by rw [c2,Bool.true_or,Lg]]
  all_goals have hv:=KS.1 AQ
  ·omega
  all_goals have hd:0<=(M fl:Y).tdiv se/\(M fl:Y).tdiv se<=(M fl:Y):=(by rw [Fo A0];exact ⟨OG A0 A0,QO _ A0⟩)
  all_goals (rw [AG (x:=(M fl:Y).tdiv se)] at c3)
  ·unfold Fg;rw [AD<|by rw [c3,Lg,Lg]]
  have hE:Fg se fl sc=0:=by unfold Fg;rw [AE (by rw [c1,c2,c3];decide)]
  have c2:0<=sc:=D4
  have c3:sc<(M fl:Y).tdiv se:=Lh
  have hm:sc*se+se<=(M fl:Y):=by
   have h1:(sc+1)*se<=(M fl:Y).tdiv se*se:=OD A0 A0
   have h2:(M fl:Y).tdiv se*se<=(M fl:Y):=by
    rw [Fo A0];exact Int.ediv_mul_le _ A0
   have h3:(sc+1)*se=sc*se+se:=by rw [Int.add_mul,Ve]
   omega
  have hn:0<=sc*se:=GH c2 A0
  have wm:AA (sc*se)=sc*se:=AG
  have z1:cpy fl (aq (M fl:Y).toNat (0:Y))=fl:=aKx
  have z2:((cpy (((cpy fl<|aq (M fl:Y).toNat (0:Y)).drop 0).take (M fl:Y).toNat)<|aq (((M fl:Y).toNat:aC):Y).toNat (0:Y)).drop 0).take (((M fl:Y).toNat:aC):Y).toNat=fl:=by
   rw [z1,Bs,Bs];exact fZ rfl
  have z5:cpy (((cpy fl<|aq (M fl:Y).toNat (0:Y)).drop 0).take (M fl:Y).toNat) (aq (((M fl:Y).toNat:aC):Y).toNat (0:Y))=fl:=by
   grind
  have z6:((cpy fl<|aq (M fl:Y).toNat (0:Y)).drop 0).take (M fl:Y).toNat=fl:=by
   rw [z1,Bs,Rj rfl]
  have hL:fB (fR se fl sc):=⟨rfl,rfl,⟨rfl,by show (0:Y)<=se;omega,by show 0<=AA (sc*se);omega,by show AA (sc*se)+se<=(M fl:Y);omega,hv.2.2.2.1⟩,z1,aKq⟩
  obtain ⟨s',_,q1,q2⟩:=asY _ hL
  have q2:(Re<|fR se fl sc).b8=(au<|se.toNat+1).map (λk:aC=>(se,Ej fl (AA<|sc*se) k)):=q2
  rw [wm] at q2
  have q2:(Re<|fR se fl sc).b8=J4 se fl sc:=q2
  refine ⟨?_,?_,?_,?_,?_,?_,?_,A9,?_,⟨hL,rfl,rfl⟩,A0,?_⟩
  iterate 8 · (first|omega|(rw [z6,Bv];omega) |(rw [Bv];omega) |(rw [z5];omega) |(rw [z1];omega) |(simp only [BB,BG];decide))
  unfold Cp;rw [AD hE,hE,Bq,CY<|Ar _,q2];rfl
 ·cases h)
def amc:aD->T LV:=λ_=> .no
def Wm:VV 1000205 amc:=by
 exact qn
def B3 (al:ba):Fl:=HP al<|(M al:Y)-1
def Gg (al:ba) (er a:Y) (d:aB):Y:=if Dl (B3 al).1 (B3 al).2 a d=0 then er else Dl (B3 al).1 (B3 al).2 a d
def IH (al:ba) (a:Y) (d:aB):ba:=if Dl (B3 al).1 (B3 al).2 a d=0 then al++(DK (B3 al).1 (B3 al).2 a d).drop 1 else al
def aGi:QI:=λi=>if i=10 then ah ([9,10,11],[]) else if i=11 then ah ([9,10,11],[]) else aj
structure Ea where
 at_:Y
 d:aB
 er:Y
 al:ba
def SU (s:Ea):aD:=[.own 0 0,s.at_,.xl (.int aw) s.d]
def V1 (s:Ea):aE:=[⟨[.os 1 2 0<|M s.al,s.er],326,.cl,X⟩,bV 32 BE s.al]
structure Tg where
 er:Y
 al:ba
def abI (s:Tg):LV:=.v<|.tuple #[]
def ac4 (s:Tg):aE:=[⟨[.os 2 2 0<|M s.al,s.er],326,.cl,X⟩,⟨[],32,.dead,X⟩,bV 32 BE s.al]
def vJ (s:Ea):Y:=(AA<|((M s.al:aC):Y)-1)
def Qx (s:Ea):Fl:=(s.al.getD (vJ s).toNat<|Ty.dflt BE)
def Xz (s:Ea):T Tg:=letI c:=Dl (Qx s).1 (Qx s).2 s.at_ s.d;letI e:=Q9 (Qx s).1 (Qx s).2 s.at_ s.d;letI b:=(M e:Y);letI a:=((e.drop (1:Y).toNat).take<|b.toNat-(1:Y).toNat);.ik (vJ s) (M s.al)<|.req (M s.d<=1000000)<|.br (!(c==(0:Y))) (.rl s.al<|.ok<|⟨c,s.al⟩)<|.req (0<=(1:Y)/\(1:Y)<=b/\b<=b)<|.rb (M s.al) (M a) 32<|.re (M s.al+M a) (s.al++a)<|.ok<|⟨s.er,s.al++a⟩
def uW (s:Ea):Prop:=s.al≠ []/\M s.al<=4000000/\M s.d<=5000
def oM (s:Ea):Tg:=⟨Gg s.al s.er s.at_ s.d,IH s.al s.at_ s.d⟩
def SK:C4 Ea Tg:=⟨SU,V1,λv b=>⟨AJ v 1,Ag (.int aw) v 2,Ad b 0 1,AV BE b 1⟩,uW,[],[.ms 1 0],abI,ac4,oM⟩
abbrev Xc (s:Ea):Prop:=uW s/\SU s=SU s/\V1 s=V1 s
def Rv:aM:=[awH,YL,Wm]
def aFf:Aj:=kI Rv<|l0 Rv
def aLR:aL3:=unrL prog AO Rv 20 2
def ah0:LLok prog AO aLR:=unrL_ok<|gk Rv
def arl (s:Ea):((stepH prog AO Rv aLR aFf).k 196 (SU s)<|V1 s).bind (λq=>canT (M<|V1 s) [0] [.ms 1 0] .normal (q.1::SU s) q.2)=(Xz s).mp (λs2=>⟨.normal,M (SU s)+1,[abI s2],ac4 s2,U⟩):=AM
def aoe (s:Ea) (hE:uW s):(Xz s).all (λq=>q=oM s):=by
 obtain ⟨h0,h1,h2⟩:=hE
 have hp:=Mk.2 h0
 have w:vJ s=(M s.al:Y)-1:=AG
 have hY:Qx s=B3 s.al:=by unfold Qx B3 HP;rw [w];rfl
 unfold Xz oM Gg IH;rw [w,hY];refine ⟨A0,A0,A0,λc1=>?_,λc1=>?_⟩
 ·have c1:¬Dl (B3 s.al).1 (B3 s.al).2 s.at_ s.d=0:=A8
  rw [AE c1,AE c1];exact ⟨A9,rfl⟩
 ·have c1:Dl (B3 s.al).1 (B3 s.al).2 s.at_ s.d=0:=A8
  have hR:Q9 (B3 s.al).1 (B3 s.al).2 s.at_ s.d=DK (B3 s.al).1 (B3 s.al).2 s.at_ s.d:=AD c1
  have hl:M (DK (B3 s.al).1 (B3 s.al).2 s.at_ s.d)=M s.d+1:=by unfold DK;simp
  rw [AD c1,AD c1,hR,hl];rw [CY A8];refine ⟨A0,A8,AH,rfl⟩
def Xk:CSound prog AO 196 SK.m:=C4.sound (D:=SK) (t:=Xz) (gk Rv) ah0 aFf.h arl λs hE=>⟨aoe s hE⟩
def Gq:Y->aI->Bool
 |_,[]=>U
 |left,d::ds=>if (an ((M d:Y)>65535) ||an (7+(M d:Y)>left))=U then X else Gq (left-(7+(M d:Y))) ds
def aFx:∀(ds:aI) (left:Y),0<=left->Gq left ds=(an ((((ds.map λd=>7+M d).sum:aC):Y)<=left)&&ds.all (λd=>an<|M d<=65535))
 | [],left,h=>by simp [Gq,h]
 | d::ds,left,h=>by
  simp only [Gq,D2,List.sum_cons,GD];split
  ·rename_i hc
   rw [Eq.comm,Fk];intro hh;simp only [C5,AS,AU] at hc hh;omega
  ·rename_i hc
   simp only [C5,AU,not_or] at hc;rw [aFx ds _ A0,GG]
   grind
structure Jz where
 r:aL
 left:Y
 l:aI
 (n i:Y)
def aBk:=bN f199 0
def vK (s:Jz):T (Rd Jz):=
 .br (an<|s.i<s.n) (.ix s.i (M s.l)<|.br ((an<|(M (gx (e:=.sl<|.int aw) s.l s.i):Y)>65535) ||(an<|(AA<|7+(M (gx (e:=.sl<|.int aw) s.l s.i):Y))>s.left)) (.so (.ret) {s with r:=X})<|.nx {s with left:=AA<|s.left-(AA<|7+(M (gx (e:=.sl<|.int aw) s.l s.i):Y)),i:=AA<|s.i+1}) (.so (.exit 0) s)
def fE (s:Jz):Prop:=s.i=0/\s.n<=5000/\s.n=(M s.l:Y)/\F6 s.l/\0<=s.left/\s.left<=100000
def eZ (s:Jz):Prop:=0<=s.i/\s.i<=s.n/\s.n<=5000/\s.n=(M s.l:Y)/\F6 s.l/\0<=s.left/\s.left<=100000
def oq (s:Jz):aC:=(s.n-s.i).toNat
def adN (x:Ex) (s s':Jz):Prop:=True
def agH:∀s,fE s->eZ s:=by
 exact Vk
def ayT:Da eZ oq adN vK:=by
 intro s hI;obtain ⟨h0,h1,h2,h3,h4,h5,h6⟩:=hI;refine allR_ite (λc1=>allR_ite (λc2=>trivial) λc2=>?_) λc1=>trivial
 ·have c1:s.i<s.n:=A8
  have hk:=Rm h4 h0 A0
  have w:AA (7+(M (gx (e:=.sl<|.int aw) s.l s.i):Y))=7+(M (gx (e:=.sl<|.int aw) s.l s.i):Y):=AG
  rw [w,AG (x:=s.i+1),AG (x:=s.left-(7+(M (gx (e:=.sl<|.int aw) s.l s.i):Y)))];exact ⟨⟨A8,A8,h2,h3,h4,A8,A8⟩,by simp only [oq];omega⟩
def O2:LpD Jz:=⟨0,32,[4,5,10,11,12],[],λs=>[s.r,s.left,.xl (.sl<|.int aw) s.l,s.n,s.i],λ_=>[],λv b=>⟨BU v 0,AJ v 1,Ag (.sl<|.int aw) v 2,AJ v 3,AJ v 4⟩,vK,λs r=> {r with l:=s.l,n:=s.n},λs=>s,λ_ s=>s,[.ret,.exit 0],fE,eZ,oq⟩
abbrev aDF:=O2.run
abbrev aGX:=O2.exn
def axI:Rq eZ vK:=by
 intro s hI;refine ⟨λc1=>⟨?_,λ_=>trivial,λ_=>trivial⟩,λ_=>trivial⟩
 ·exact aJQ
def aFp:aM:=[Wm]
def aac:O2.Ok:={}
def aaM:O2.Pf (adN):=⟨agH,λs h=>rfl,ayT,axI⟩
def aoJ:SA 0 aBk O2:=s1 aac aaM aFp kN
def atE:Rs fE aGX aDF (λs:Jz=>Gq s.left<|s.l.drop s.i.toNat) (λx s' (v:aL)=>(x=.ret/\s'.r=X/\v=X)\/(x=.exit 0/\v=U)):=CM aac aaM (λs hI=>by
  obtain ⟨h0,h1,h2,h3,h4,h5,h6⟩:=hI;refine allR_ite (λc1=>allR_ite (λc2=>?_) λc2=>?_) λc1=>?_
  ·have c1:s.i<s.n:=A8
   have hk:=Rm h4 h0 A0
   have w:AA (7+(M (gx (e:=.sl<|.int aw) s.l s.i):Y))=7+(M (gx (e:=.sl<|.int aw) s.l s.i):Y):=AG
   rw [w] at c2;refine .inl ⟨rfl,rfl,?_⟩;rw [RR h0 A0,Gq,AD c2]
  ·have c1:s.i<s.n:=A8
   have hk:=Rm h4 h0 A0
   have w:AA (7+(M (gx (e:=.sl<|.int aw) s.l s.i):Y))=7+(M (gx (e:=.sl<|.int aw) s.l s.i):Y):=AG
   rw [w,AG (x:=s.i+1),AG (x:=s.left-(7+(M (gx (e:=.sl<|.int aw) s.l s.i):Y)))]
   show Gq _ _=Gq _ _
   rw [RR h0 A0,Gq,AE A8]
  ·have c1:s.n<=s.i:=A8
   refine .inr ⟨rfl,?_⟩;rw [DD A0];rfl)
def aGk:aD->T LV
 | [.xl (.sl (.int aw)) ds,.v (ag J sz)]=> .req ((M ds<=5000/\F6 ds)/\5<=sz/\sz<=100000) (.ok<|Gq (sz-5) ds)
 |_=> .no
def aLp:=vm (S:=aGk) func199 aFp kN (L:=(λi=>if i=3 then O2.lp else noLoops i)) (λb hb=>by
 rw [show loopsIn _=[aBk] by kernel_rfl] at hb
 simp only [Ak,B8,B6] at hb;subst hb;exact aoJ) (λargs lv h=>by
 unfold aGk at h;split at h
 ·rename_i ds sz
  refine Af (letI a:=(M ds:Y);.req (O2.q (⟨X,(AA<|sz-5),ds,a,0⟩:Jz))<|.br (isEx (aGX (⟨X,(AA<|sz-5),ds,a,0⟩:Jz))<|.ret) (.ok (aDF (⟨X,(AA<|sz-5),ds,a,0⟩:Jz)).r)<|.ok U) ?_;obtain ⟨⟨⟨h0,h1⟩,h2,h3⟩,rfl⟩:=h;rw [AG (x:=sz-5)]
  have hE:fE ⟨X,sz-5,ds,(M ds:Y),0⟩:=⟨rfl,aKo,rfl,h1,by show 0<=sz-5;omega,by show sz-5<=100000;omega⟩
  have q:=atE _ hE
  refine ⟨⟨hE,rfl,rfl⟩,?_⟩
  have e:Gq (sz-5) (ds.drop (0:Y).toNat)=Gq (sz-5) ds:=rfl
  rw [<-e];rcases q with ⟨q1,q2,q3⟩ |⟨q1,q2⟩<;>rw [q1]
  ·refine ⟨λ_=>?_,λhc=>by cases hc⟩
   rw [q2];exact Am (λz=>LV.v<|.bool z) q3.symm
  ·exact ⟨λhc=>(by cases hc),λ_=>Am (λz=>LV.v<|.bool z) q2.symm⟩
 ·cases h)
structure L1 where
 n:Y
def Sh (s:L1):aD:=[.v<|ag ax s.n]
def Un (s:L1):aE:=[]
structure TK where
 l:aB
def abV (s:TK):LV:=.os 0 1 0<|M s.l
def acQ (s:TK):aE:=[bV 5 (.int aw) s.l]
def oF (s:L1):T TK:=letI a:=IntKind.u8.wrap<|s.n.fdiv<|2^24;letI b:=IntKind.u8.wrap<|s.n.fdiv<|2^16;letI c:=IntKind.u8.wrap<|s.n.fdiv<|2^8;.re 4 [a,b,c,IntKind.u8.wrap s.n]<|.ok<|⟨[a,b,c,IntKind.u8.wrap s.n]⟩
def uN (s:L1):Prop:=True
def aaz (s:L1):TK:=⟨CD s.n⟩
def SP:C4 L1 TK:=⟨Sh,Un,λv b=>⟨AJ v 0⟩,uN,[],[],abV,acQ,aaz⟩
abbrev auz (s:L1):Prop:=uN s/\Sh s=Sh s/\Un s=Un s
def Xg:aM:=[aCN]
def aLh:aL3:=unrL prog AO (Xg) 20 2
def agx:LLok prog AO aLh:=unrL_ok<|gk Xg
def arE (s:L1):((stepH prog AO Xg aLh noK).k 202 (Sh s)<|Un s).bind (λq=>canT (M<|Un s) [0] [] .normal (q.1::Sh s) q.2)=(oF s).mp (λs2=>⟨.normal,M (Sh s)+1,[abV s2],acQ s2,U⟩):=AM
def ao7 (s:L1) (hE:uN s):(oF s).all (λq=>q=aaz s):=by
 exact ⟨A9,rfl⟩
def alc:CSound prog AO 202 SP.m:=C4.sound (D:=SP) (t:=oF) (gk Xg) agx noK_sound arE λs hE=>⟨ao7 s hE⟩
def lg:CSound prog AO 202 (H8 λa=>SP.m a []):=wW alc
def aer (m:ba) (z:Fl):B3 (m++[z])=z:=by
 unfold B3 HP
 simp
def iN {f:aC->Fl}{n:aC}(h:1<=n) (al:ba):B3 (al++((au<|n+1).map f).drop 1)=f n:=by
 rw [OF,J8,D2,IL,aHU A8,<-DQ];exact aer _ _
def iV {se:Y}{a b:aB}(h:M a=M b):FE se a=FE se b:=by unfold FE;rw [h]
def avV {se:Y}{fl:aB}(h:Dj se fl=U) {i:Y}(h0:0<=i) (h1:i<(M fl:Y).tdiv se):0<=i*se/\(i+1)*se=i*se+se/\i*se+se<=(M fl:Y):=by
 obtain ⟨hf,h2,h3,h4,h5⟩:=JQ.1 h
 have hm:=(KS.1 hf).2.2.2.2
 have e:=qI (M fl:Y) se
 have h6:(i+1)*se=i*se+se:=A8
 have h7:(i+1)*se<=(M fl:Y).tdiv se*se:=OD A0 A0
 rw [Int.mul_comm] at e;exact ⟨GH h0 A0,h6,A0⟩
structure Kj where
 r:aL
 l:aB
 (n i iR vr:Y)
 aej:aI
 lM:Y
 wg:aL
 (er se:Y)
 fl:aB
 al:ba
def mz (s:Kj):T (Rd Kj):=
 .br (an<|s.i<s.n) (.ix s.i (M s.l)<|.br ((gi s.l s.i) !=255) (.rl s.al<|.so (.ret) {s with r:=U})<|.rl s.al<|.nx {s with i:=AA<|s.i+1}) (.rl s.al<|.so (.exit 0) s)
def Zy (s:Kj):Prop:=s.i=0/\s.n<=4096/\s.n=(M s.l:Y)
def ZB (s:Kj):Prop:=0<=s.i/\s.i<=s.n/\s.n<=4096/\s.n=(M s.l:Y)
def jE (s:Kj):aC:=(s.n-s.i).toNat
def acT (x:Ex) (s s':Kj):Prop:=True
def avX:∀s,Zy s->ZB s:=by
 exact cw
def apV:Da ZB jE acT mz:=by
 intro s hI;obtain ⟨h0,h1,h2,h3⟩:=hI;refine allR_ite (λc1=>allR_ite (λc2=>trivial) λc2=>?_) λc1=>trivial
 have c1:s.i<s.n:=A8
 rw [AG (x:=s.i+1)];exact ⟨⟨A8,A8,h2,h3⟩,by simp only [jE];omega⟩
def Us:LpD Kj:=⟨4,26,[3,17,18,19],[],λs=>[s.r,.xl (.int aw) s.l,s.n,s.i],λs=>[⟨[s.iR,.v<|ag ax s.vr,.xl (.sl<|.int aw) s.aej,s.lM,s.wg],238,.cl,X⟩,⟨[.os 3 2 0<|M s.al,s.er],326,.cl,X⟩,⟨[s.se,.xl (.int aw) s.fl],32,.cl,X⟩,bV 32 BE s.al],λv b=>⟨BU v 0,Ag (.int aw) v 1,AJ v 2,AJ v 3,Ad b 0 0,Ad b 0 1,AB (.sl<|.int aw) b 0 2,Ad b 0 3,IB b 0 4,Ad b 1 1,Ad b 2 0,AB (.int aw) b 2 1,AV BE b 3⟩,mz,λs r=> {s with r:=r.r,i:=r.i},λs=>s,λ_ s=>s,[.ret,.exit 0],Zy,ZB,jE⟩
abbrev iH:=Us.run
abbrev gX:=Us.exn
def Ru:aM:=[nJ,aLp,YL,aLt,Wm]
def aro:Aj:=FC Ru (l0 Ru) [⟨124,H8 λa=>Nd.m a [],X6⟩,⟨196,SK.m,Xk⟩,⟨202,H8 λa=>SP.m a [],lg⟩]
def aow:Rq ZB mz:=by
 exact aHo
def aEx:Us.Ok:={}
def aD7:Us.Pf (acT):=⟨avX,λs h=>rfl,apV,aow⟩
def iE:=s2 (b:=bN f200 0) aEx aD7 Ru aro
def aie:Rs Zy gX iH (λs:Kj=>(s.l.drop s.i.toNat).all λb=>b==255) (λx s' (v:aL)=>(x=.ret/\s'.r=U/\v=X)\/(x=.exit 0/\v=U)):=CM aEx aD7 (λs hI=>by
  obtain ⟨h0,h1,h2,h3⟩:=hI;refine allR_ite (λc1=>allR_ite (λc2=>?_) λc2=>?_) λc1=>?_
  ·have c1:s.i<s.n:=A8
   refine .inl ⟨rfl,rfl,?_⟩
   have:(gi s.l s.i==255)=false:=A8
   rw [(gi_step h0 A0).1,GD,this];rfl
  ·have c1:s.i<s.n:=A8
   have:(gi s.l s.i==255)=true:=A8
   rw [AG (x:=s.i+1)]
   show List.all _ _=List.all _ _
   rw [(gi_step h0 A0).1,GD,this,Cr]
  ·have c1:s.n<=s.i:=A8
   refine .inr ⟨rfl,?_⟩;rw [DD A0];rfl)
structure Ef where
 keep:aI
 (half other Cg i Rk Qt:Y)
 fa:aI
 Sq:Y
 GR:aL
 (er se:Y)
 fl:aB
 al:ba
def aBh:=bN f159 0
def GN (s:Ef):Kj:=(⟨X,(s.fl.drop (AA<|s.i*s.se).toNat).take<|(AA<|(AA<|s.i+1)*s.se).toNat-(AA<|s.i*s.se).toNat,(M ((s.fl.drop (AA<|s.i*s.se).toNat).take<|(AA<|(AA<|s.i+1)*s.se).toNat-(AA<|s.i*s.se).toNat):Y),0,s.Rk,s.Qt,s.fa,s.Sq,s.GR,s.er,s.se,s.fl,s.al⟩:Kj)
def EG (s:Ef):Y:=(AA<|(AA<|s.other+1)*s.Cg)
def reI (s:Ef):Y:=(AA<|((M s.al:aC):Y)-1)
def BF (s:Ef):Fl:=(s.al.getD (reI s).toNat<|Ty.dflt BE)
def QJ (s:Ef):T (Rd Ef):=
 .br (an<|s.i<(EG s)) (.req (0<=(AA<|s.i*s.se)/\(AA<|s.i*s.se)<=(AA<|(AA<|s.i+1)*s.se)/\(AA<|(AA<|s.i+1)*s.se)<=(M s.fl:Y))<|.rl s.al<|.req (Us.q<|GN s)<|.br (isEx (gX<|GN s)<|.ret) (.br (iH<|GN s).r (.ik (reI s) (M s.al)<|.br (!((Fg (BF s).1 (BF s).2 s.i)==(0:Y))) (.rl s.al<|.nx {s with i:=AA<|s.i+1,er:=Fg (BF s).1 (BF s).2 s.i})<|.req (0<=(1:Y)/\(1:Y)<=(M (Cp (BF s).1 (BF s).2 s.i):Y)/\(M (Cp (BF s).1 (BF s).2 s.i):Y)<=(M (Cp (BF s).1 (BF s).2 s.i):Y))<|.rb (M s.al) (M<|((Cp (BF s).1 (BF s).2 s.i).drop (1:Y).toNat).take<|(M (Cp (BF s).1 (BF s).2 s.i):Y).toNat-(1:Y).toNat) 32<|.re (M s.al+M (((Cp (BF s).1 (BF s).2 s.i).drop (1:Y).toNat).take<|(M (Cp (BF s).1 (BF s).2 s.i):Y).toNat-(1:Y).toNat)) (s.al++(((Cp (BF s).1 (BF s).2 s.i).drop (1:Y).toNat).take<|(M (Cp (BF s).1 (BF s).2 s.i):Y).toNat-(1:Y).toNat))<|.nx {s with i:=AA<|s.i+1,al:=s.al++(((Cp (BF s).1 (BF s).2 s.i).drop (1:Y).toNat).take<|(M (Cp (BF s).1 (BF s).2 s.i):Y).toNat-(1:Y).toNat)})<|.rl s.al<|.nx {s with i:=AA<|s.i+1})<|.br X (.ik (reI s) (M s.al)<|.br (!((Fg (BF s).1 (BF s).2 s.i)==(0:Y))) (.rl s.al<|.nx {s with i:=AA<|s.i+1,er:=Fg (BF s).1 (BF s).2 s.i})<|.req (0<=(1:Y)/\(1:Y)<=(M (Cp (BF s).1 (BF s).2 s.i):Y)/\(M (Cp (BF s).1 (BF s).2 s.i):Y)<=(M (Cp (BF s).1 (BF s).2 s.i):Y))<|.rb (M s.al) (M<|((Cp (BF s).1 (BF s).2 s.i).drop (1:Y).toNat).take<|(M (Cp (BF s).1 (BF s).2 s.i):Y).toNat-(1:Y).toNat) 32<|.re (M s.al+M (((Cp (BF s).1 (BF s).2 s.i).drop (1:Y).toNat).take<|(M (Cp (BF s).1 (BF s).2 s.i):Y).toNat-(1:Y).toNat)) (s.al++(((Cp (BF s).1 (BF s).2 s.i).drop (1:Y).toNat).take<|(M (Cp (BF s).1 (BF s).2 s.i):Y).toNat-(1:Y).toNat))<|.nx {s with i:=AA<|s.i+1,al:=s.al++(((Cp (BF s).1 (BF s).2 s.i).drop (1:Y).toNat).take<|(M (Cp (BF s).1 (BF s).2 s.i):Y).toNat-(1:Y).toNat)})<|.rl s.al<|.nx {s with i:=AA<|s.i+1}) (.rl s.al<|.so (.exit 0) s)
def KR (s:Ef):Prop:=Dj s.se s.fl=U/\(s.other=0\/s.other=1)/\s.Cg*2=(M s.fl:Y).tdiv s.se
def WD (s:Ef):Prop:=s.i=s.other*s.Cg/\KR s/\s.er=0/\M s.al=1/\(B3 s.al).1=s.se/\M (B3 s.al).2=M s.fl
def LP (s:Ef):Prop:=(s.other*s.Cg<=s.i/\s.i<=(s.other+1)*s.Cg)/\KR s/\s.er=0/\(s.al≠ []/\(M s.al:Y)<=1+600*s.i)/\(B3 s.al).1=s.se/\M (B3 s.al).2=M s.fl
def TC (s:Ef):aC:=(EG s-s.i).toNat
def vV (x:Ex) (s s':Ef):Prop:=x=.exit 0/\s'.er=0/\(s'.al≠ []/\(M s'.al:Y)<=3000000)/\(B3 s'.al).1=s'.se/\M (B3 s'.al).2=M s'.fl
def agW:∀s,WD s->LP s:=by
 rintro s ⟨h0,⟨h1,h2,h3⟩,h4,h5,h6,h7⟩
 have hj:=JQ.1 h1
 have hs0:0<=s.Cg:=by have:0<=(M s.fl:Y).tdiv s.se:=(by rw [Fo A0];exact OG A0 A0);omega
 have hz0:(s.other+1)*s.Cg=s.other*s.Cg+s.Cg:=A8
 have ho:0<=s.other*s.Cg:=A8
 exact ⟨⟨A0,A0⟩,⟨h1,h2,h3⟩,h4,⟨A8,A0⟩,h6,h7⟩
def QL (s:Ef) (hI:LP s) (c1:an (s.i<EG s)=U):reI s=(M s.al:Y)-1/\BF s=B3 s.al/\AA (s.i*s.se)=s.i*s.se/\AA (AA (s.i+1)*s.se)=s.i*s.se+s.se/\AA (s.i+1)=s.i+1/\
  Fg (B3 s.al).1 (B3 s.al).2 s.i=0/\Cp (B3 s.al).1 (B3 s.al).2 s.i=J4 (B3 s.al).1 (B3 s.al).2 s.i/\M (J4 (B3 s.al).1 (B3 s.al).2 s.i)=s.se.toNat+1/\0<=s.i*s.se/\s.i*s.se+s.se<=(M s.fl:Y)/\1<=s.se/\s.se<=512/\s.i<EG s/\0<=s.i/\s.i<=4096/\M s.fl<=4096/\EG s=(s.other+1)*s.Cg:=by
 obtain ⟨h0,⟨h1,h2,h3⟩,h4,h5,h6,h7⟩:=hI
 have hj:=JQ.1 h1
 have hf:=KS.1 hj.1
 have hq:(M s.fl:Y).tdiv s.se<=(M s.fl:Y):=aJv
 have hp:=Mk.2 h5.1
 have hz0:(s.other+1)*s.Cg=s.other*s.Cg+s.Cg:=by rw [Int.add_mul,Ve]
 have ho:s.other*s.Cg=0\/s.other*s.Cg=s.Cg:=by rcases h2 with e|e<;>rw [e]<;>simp
 have hz:EG s=s.other*s.Cg+s.Cg:=by unfold EG;rw [AG (x:=s.other+1),hz0];exact AG
 have c1:s.i<EG s:=C9 c1
 have hi:reI s=(M s.al:Y)-1:=AG
 have hk:=avV h1 (i:=s.i) A0 A0
 have hfl:FE s.se (B3 s.al).2=true:=by rw [iV h7];exact hj.1
 have hE:Fg (B3 s.al).1 (B3 s.al).2 s.i=0:=by unfold Fg;rw [h6,hfl,h7,AE A8]
 refine ⟨hi,by unfold BF B3 HP;rw [hi];rfl,AG,by rw [AG (x:=s.i+1),hk.2.1];exact AG,AG,hE,AD hE,by unfold J4;rw [h6];simp,A0,A0,A0,A0,c1,A0,A0,A0,A0⟩
def aau (s:Ef) (hI:LP s) (c1:an (s.i<EG s)=U):Zy (GN s):=by
 obtain ⟨hi,hy,w1,w2,wi,hE,hR,hl,n1,n2,n3,n4,n5,n6,n7,n8,n9⟩:=QL s hI c1;refine ⟨rfl,?_,rfl⟩
 show ((M (List.take _<|List.drop _ s.fl):aC):Y)<=4096
 simp only [IN,DV];omega
def agV (s:Ef) (hI:LP s):(M s.al:Y)<=3000000:=by
 obtain ⟨h0,⟨h1,h2,h3⟩,h4,h5,h6,h7⟩:=hI
 have hj:=JQ.1 h1
 have hq:(M s.fl:Y).tdiv s.se<=(M s.fl:Y):=aJv
 have hz0:(s.other+1)*s.Cg=s.other*s.Cg+s.Cg:=A8
 have ho:s.other*s.Cg=0\/s.other*s.Cg=s.Cg:=A8
 omega
def acy (s:Ef) (hI:LP s) (c1:an (s.i<EG s)=U):B3 (s.al++(J4 (B3 s.al).1 (B3 s.al).2 s.i).drop 1)=(s.se,Ej (B3 s.al).2 (s.i*s.se) s.se.toNat):=by
 obtain ⟨hi,hy,w1,w2,wi,hE,hR,hl,n1,n2,n3,n4,n5,n6,n7,n8,n9⟩:=QL s hI c1;rw [hI.2.2.2.2.1];exact iN (f:=λk=>(s.se,Ej (B3 s.al).2 (s.i*s.se) k)) (n:=s.se.toNat) A0 s.al
def awl:Da LP TC vV QJ:=by
 intro s hI;unfold QJ;dsimp only [T.rd,T.rl,T.rv];refine allR_ite (λc1=>?_) λc1=>⟨rfl,hI.2.2.1,⟨hI.2.2.2.1.1,agV s hI⟩,hI.2.2.2.2.1,hI.2.2.2.2.2⟩
 have hL:=acy s hI c1
 obtain ⟨hi,hy,w1,w2,wi,hE,hR,hl,n1,n2,n3,n4,n5,n6,n7,n8,n9⟩:=QL s hI c1;obtain ⟨h0,hK,h4,h5,h6,h7⟩:=hI
 have st:∀al:ba,al≠ []->(M al:Y)<=601+600*s.i->(B3 al).1=s.se->M (B3 al).2=M s.fl->LP {s with i:=s.i+1,al:=al}/\TC {s with i:=s.i+1,al:=al}<TC s:=λal a1 a2 a3 a4=>
  ⟨⟨⟨AP,AP⟩,hK,h4,⟨a1,AP⟩,a3,a4⟩,by simp only [TC];show (EG s-(s.i+1)).toNat<_;omega⟩
 rw [wi];refine allR_ite (λc2=>allR_ite (λc3=>allR_ite (λc4=>?_) λc4=>?_) λc3=>?_) λc2=>?_
 ·grind
 ·rw [hy,hR,CY (by rw [DV,hl];omega)]
  refine st _ (by simp [h5.1]) A8 ?_ ?_
  ·grind
  ·show M (B3<|s.al++List.drop 1 _).2=_;rw [hL,Wb];exact h7
 all_goals exact st s.al h5.1 A0 h6 h7
def Mc:LpD Ef:=⟨0,97,[1,6,8,9,10,11,12,13],[.ps 6 2<|.sl<|.int aw],λs=>[.xl (.sl<|.int aw) s.keep,.own 0 0,s.half,.own 1 0,s.other,.fn 200 [.own 2 0],s.Cg,s.i],λs=>[⟨[s.Rk,.v<|ag ax s.Qt,.xl (.sl<|.int aw) s.fa,s.Sq,s.GR],238,.cl,X⟩,⟨[.os 3 2 0<|M s.al,s.er],326,.cl,X⟩,⟨[s.se,.xl (.int aw) s.fl],32,.cl,X⟩,bV 32 BE s.al],λv b=>⟨Ag (.sl<|.int aw) v 0,AJ v 2,AJ v 4,AJ v 6,AJ v 7,Ad b 0 0,Ad b 0 1,AB (.sl<|.int aw) b 0 2,Ad b 0 3,IB b 0 4,Ad b 1 1,Ad b 2 0,AB (.int aw) b 2 1,AV BE b 3⟩,QJ,λs r=> {r with keep:=s.keep,half:=s.half,other:=s.other,Cg:=s.Cg,Rk:=s.Rk,Qt:=s.Qt,fa:=s.fa,Sq:=s.Sq,GR:=s.GR,se:=s.se,fl:=s.fl},λs=>s,λ_ s=>s,[.exit 0],WD,LP,TC⟩
abbrev DT:=Mc.run
abbrev aGU:=Mc.exn
def ax9:Rq LP QJ:=by
 intro s hI;refine ⟨λc1=>⟨?_,A9,?_,λc2=>⟨λc3=>⟨?_,?_,λc4=>⟨A9,ak⟩,λc4=>⟨?_,?_,?_,ak⟩⟩,λc3=>⟨A9,ak⟩⟩,λc2=>⟨λc5=>⟨?_,?_,λc6=>⟨A9,ak⟩,λc6=>⟨?_,?_,?_,ak⟩⟩,λc5=>⟨A9,ak⟩⟩⟩,λc1=>⟨A9,ak⟩⟩
 ·(have hI':=hI.2.2.2.1;have hp:=Mk.2 hI'.1;obtain ⟨hi,hy,w1,w2,wi,hE,hR,hl,n1,n2,n3,n4,n5,n6,n7,n8,n9⟩:=QL s hI c1;(first|(rw [w1,w2];omega) |(rw [hi];omega) |(rw [hy,hR,hl];omega) |(rw [hy,hR,CY AH,DV,hl];omega) |(simp only [Av,DR])))
 ·exact ⟨aau s hI c1,rfl,rfl⟩
 iterate 10 · (have hI':=hI.2.2.2.1;have hp:=Mk.2 hI'.1;obtain ⟨hi,hy,w1,w2,wi,hE,hR,hl,n1,n2,n3,n4,n5,n6,n7,n8,n9⟩:=QL s hI c1;(first|(rw [w1,w2];omega) |(rw [hi];omega) |(rw [hy,hR,hl];omega) |(rw [hy,hR,CY AH,DV,hl];omega) |(simp only [Av,DR])))
def asR:Aj:=FC Ru (la 2 func200 iE<|l0 Ru) [⟨124,H8 λa=>Nd.m a [],X6⟩,⟨196,SK.m,Xk⟩,⟨202,H8 λa=>SP.m a [],lg⟩]
def og:Mc.Ok:={}
def oL:Mc.Pf (vV):=⟨agW,λs h=>rfl,awl,ax9⟩
def aoF:SA 0 aBh Mc:=s1 og oL Ru asR
def aps:Fi WD LP vV aGU DT:=LpD.fin og oL
def aqI:Rs WD aGU DT (λs:Ef=>HK s.se s.fl s.i (EG s-s.i).toNat (s.al,(B3 s.al).2)) (λx s' (v:List Fl×List Int)=>x=.exit 0/\(s'.al,(B3 s'.al).2)=v):=CM og oL (λs hI=>by
  show allR _ _ ((QJ s).rd s)
  unfold QJ;dsimp only [T.rd,T.rl];refine allR_ite (λc1=>?_) λc1=>?_
  ·have hL:=acy s hI c1
   have q:(gX (GN s)=.ret/\(iH<|GN s).r=U/\(((GN s)).l.drop ((GN s)).i.toNat).all (λb=>b==255)=X)\/(gX (GN s)=.exit 0/\(((GN s)).l.drop ((GN s)).i.toNat).all (λb=>b==255)=U):=aie _<|aau s hI c1
   obtain ⟨hi,hy,w1,w2,wi,hE,hR,hl,n1,n2,n3,n4,n5,n6,n7,n8,n9⟩:=QL s hI c1
   have e:((GN s)).l.drop ((GN s)).i.toNat=(s.fl.drop (s.i*s.se).toNat).take s.se.toNat:=by
    show List.drop 0 (List.take _<|List.drop _ s.fl)=_
    grind
   have hw:isW s.se s.fl s.i=!((((GN s)).l.drop ((GN s)).i.toNat).all λb=>b==255):=by unfold isW;rw [e]
   have hn:(EG s-s.i).toNat=(EG s-(s.i+1)).toNat+1:=A0
   have h6:=hI.2.2.2.2.1
   rw [hn,wi];simp only [HK];refine allR_ite (λc2=>allR_ite (λc3=>allR_ite (λc4=>?_) λc4=>?_) λc3=>?_) λc2=>?_
   ·grind
   ·rcases q with ⟨_,_,q3⟩ |⟨q1,_⟩
    ·rw [hy,hR,CY AH,hw,q3]
     show HK s.se s.fl (s.i+1) (EG s-(s.i+1)).toNat (s.al++List.drop 1 _,(B3<|s.al++List.drop 1 _).2)=_
     rw [hL,h6];rfl
    ·rw [isEx_eq c2] at q1;cases q1
   ·rcases q with ⟨_,q2,_⟩ |⟨q1,_⟩
    ·rw [q2] at c3;cases c3
    ·rw [isEx_eq c2] at q1;cases q1
   ·rcases q with ⟨q1,_,_⟩ |⟨_,q2⟩
    ·rw [q1] at c2;simp [isEx] at c2
    ·rw [hw,q2]
     rfl
  ·have c1:EG s<=s.i:=AQ
   rw [show (EG s-s.i).toNat=0 by omega]
   exact ⟨rfl,rfl⟩)
structure LN where
 (half other:Y)
 l:aI
 (n i er:Y)
 bytes:aB
 al:ba
def aBi:=bN f159 1
def vH (s:LN):T (Rd LN):=
 .br (an<|s.i<s.n) (.ix s.i (M s.l)<|.req (M (gx (e:=.sl<|.int aw) s.l s.i)<=70000)<|.rb (M s.bytes) (M<|BO<|gx (e:=.sl<|.int aw) s.l s.i) 1<|.re (M s.bytes+M (BO<|gx (e:=.sl<|.int aw) s.l s.i)) (s.bytes++(BO<|gx (e:=.sl<|.int aw) s.l s.i))<|.rl s.al<|.nx {s with i:=AA<|s.i+1,bytes:=s.bytes++(BO<|gx (e:=.sl<|.int aw) s.l s.i)}) (.rl s.bytes<|.rl s.al<|.so (.exit 2) s)
def ep (s:LN):Prop:=s.i=0/\s.n<=5000/\s.n=(M s.l:Y)/\F6 s.l/\(M s.bytes:Y)<=4+70100*s.i
def eV (s:LN):Prop:=0<=s.i/\s.i<=s.n/\s.n<=5000/\s.n=(M s.l:Y)/\F6 s.l/\(M s.bytes:Y)<=4+70100*s.i
def p7 (s:LN):aC:=(s.n-s.i).toNat
def adK (x:Ex) (s s':LN):Prop:=True
def agX:∀s,ep s->eV s:=by
 exact Vk
def aws:Da eV p7 adK vH:=by
 intro s hI;obtain ⟨h0,h1,h2,h3,h4,h5⟩:=hI;refine allR_ite (λc1=>?_) λc1=>trivial
 ·have c1:s.i<s.n:=A8
  have hk:=Rm h4 h0 A0
  have hp:=KH<|gx (e:=.sl<|.int aw) s.l s.i
  rw [AG (x:=s.i+1)];exact ⟨⟨A8,A8,h2,h3,h4,A8⟩,by simp only [p7];omega⟩
def Md:LpD LN:=⟨0,97,[8,9,10,14,69,70,71],[],λs=>[s.half,.own 0 0,s.other,.os 1 1 0<|M s.bytes,.xl (.sl<|.int aw) s.l,s.n,s.i],λs=>[⟨[.os 2 2 0<|M s.al,s.er],326,.cl,X⟩,bV 5 (.int aw) s.bytes,bV 32 BE s.al],λv b=>⟨AJ v 0,AJ v 2,Ag (.sl<|.int aw) v 4,AJ v 5,AJ v 6,Ad b 0 1,AV (.int aw) b 1,AV BE b 2⟩,vH,λs r=> {s with i:=r.i,bytes:=r.bytes},λs=>s,λ_ s=>s,[.exit 2],ep,eV,p7⟩
abbrev KU:=Md.run
abbrev atK:=Md.exn
def axB:Rq eV vH:=by
 intro s hI;refine ⟨λc1=>⟨?_,?_,?_,?_,A9,ak⟩,λc1=>⟨A9,A9,ak⟩⟩
 all_goals ((obtain ⟨h0,h1,h2,h3,h4,h5⟩:=hI;have c1:s.i<s.n:=A8;have hk:=Rm h4 h0 A0;have hp:=KH<|gx (e:=.sl<|.int aw) s.l s.i;(first|omega|(simp only [Bq,Av];omega) |simp only [Bq,Av,DR])))
def X5:aM:=[nJ,aLp,YL,aLt,Wm]
def m8:Aj:=FC X5 (la 2 func200 iE<|l0 X5) [⟨124,H8 λa=>Nd.m a [],X6⟩,⟨196,SK.m,Xk⟩,⟨202,H8 λa=>SP.m a [],lg⟩]
def aaS:Md.Ok:={}
def aaF:Md.Pf (adK):=⟨agX,λs h=>rfl,aws,axB⟩
def aoG:SA 0 aBi Md:=s1 aaS aaF X5 m8
def apt:Rs ep atK KU (λs:LN=>s.bytes++BS (s.l.drop s.i.toNat)) (λx s' (v:aB)=>x=.exit 2/\s'.bytes=v):=CM aaS aaF (λs hI=>by
  obtain ⟨h0,h1,h2,h3,h4,h5⟩:=hI;refine allR_ite (λc1=>?_) λc1=>?_
  ·have c1:s.i<s.n:=A8
   rw [AG (x:=s.i+1)]
   show _++_++_=_++_
   rw [RR h0 A0];simp only [BS,cJ,DQ,Bq]
  ·have c1:s.n<=s.i:=A8
   refine ⟨rfl,?_⟩;rw [DD A0]
   simp [BS])
def aGg:QI:=λi=>if i=21 then ah ([8,9,10,14],[.pb 14<|.int aw]) else if i=22 then ah ([8,9,10],[]) else aj
def aH3:aD->T LV
 | [.agg [.v (ag J se),.xl (.int aw) fl],.xl (.sl (.int aw)) ds]=> .req (As fl/\M ds<=5000/\F6 ds) (.ok<|.tup [.xl BE<|FF se fl ds,FG se fl ds])
 |_=> .no
def avW {se:Y}{fl:aB}(h:Dj se fl=U):letI a:=((M fl / 2:aC):Y);a.tdiv se*2=(M fl:Y).tdiv se/\0<=a.tdiv se/\a.tdiv se<=2048:=by
 obtain ⟨hf,h2,h3,h4,h5⟩:=JQ.1 h
 have e:=qI (M fl:Y) se
 rw [(KS.1 hf).2.2.2.2,Int.add_zero] at e
 have e2:=qI ((M fl:Y).tdiv se) 2
 have e3:((M fl / 2:aC):Y)=se*((M fl:Y).tdiv se).tdiv 2:=by
  have:se*(M fl:Y).tdiv se=2*(se*((M fl:Y).tdiv se).tdiv 2):=A8
  omega
 have e4:((M fl / 2:aC):Y).tdiv se=((M fl:Y).tdiv se).tdiv 2:=by rw [e3];exact Int.mul_tdiv_cancel_left _ A0
 have hq:0<=((M fl / 2:aC):Y).tdiv se/\((M fl / 2:aC):Y).tdiv se<=((M fl / 2:aC):Y):=by
  rw [Fo A0];exact ⟨OG A0 A0,QO _ A0⟩
 omega
def arb (l:aB):0<=Eh l/\Eh l<4294967296:=by
 unfold Eh nm4 CU;rw [Oh];omega
def aGf (fl:aB):Ah fl=0\/Ah fl=1:=aKn
def DZ (se:Y) (fl:aB) (ds:aI):Ef:=(⟨ds,AA<|(M fl:Y).tdiv 2,AA<|1-(De se fl),AA<|(AA<|(M fl:Y).tdiv 2).tdiv se,AA<|(AA<|1-(De se fl))*(AA<|(AA<|(M fl:Y).tdiv 2).tdiv se),De se fl,HI se fl,((CR se fl).drop 0).take<|M<|CR se fl,G1 se fl,Jm se fl,0,se,fl,[(se,((([]:aB)++fl).drop 0).take<|0+M fl)]⟩:Ef)
def JM (se:Y) (fl:aB) (ds:aI):LN:=(⟨AA<|(M fl:Y).tdiv 2,AA<|1-(De se fl),ds,(M ds:Y),0,(DT<|DZ se fl ds).er,CD<|IntKind.u32.wrap<|(HI se fl)+1,(DT<|DZ se fl ds).al⟩:LN)
def afP (se:Y) (fl:aB) (ds:aI):Ea:=(⟨AA<|(AA<|(AA<|1-(De se fl))*(AA<|(M fl:Y).tdiv 2))+1,((KU<|JM se fl ds).bytes.drop 0).take<|M (KU<|JM se fl ds).bytes,(DT<|DZ se fl ds).er,(DT<|DZ se fl ds).al⟩:Ea)
def afO (se:Y) (fl:aB) (ds:aI):Ea:=(⟨AA<|(AA<|1-(De se fl))*(AA<|(M fl:Y).tdiv 2),[(80:Y)],Gg (DT<|DZ se fl ds).al (DT<|DZ se fl ds).er (AA<|(AA<|(AA<|1-(De se fl))*(AA<|(M fl:Y).tdiv 2))+1)<|((KU<|JM se fl ds).bytes.drop 0).take<|M (KU<|JM se fl ds).bytes,IH (DT<|DZ se fl ds).al (AA<|(AA<|(AA<|1-(De se fl))*(AA<|(M fl:Y).tdiv 2))+1)<|((KU<|JM se fl ds).bytes.drop 0).take<|M (KU<|JM se fl ds).bytes⟩:Ea)
def rwX (se:Y) (fl:aB) (ds:aI):Y:=(AA<|(AA<|1-(De se fl))*(AA<|(M fl:Y).tdiv 2))
def rwY (se:Y) (fl:aB) (ds:aI):aB:=(((KU<|JM se fl ds).bytes.drop 0).take<|M (KU<|JM se fl ds).bytes)
def K0 (se:Y) (fl:aB) (ds:aI):ba:=(IH (DT<|DZ se fl ds).al (AA<|(rwX se fl ds)+1)<|rwY se fl ds)
def rwW (se:Y) (fl:aB) (ds:aI):Y:=(Gg (DT<|DZ se fl ds).al (DT<|DZ se fl ds).er (AA<|(rwX se fl ds)+1)<|rwY se fl ds)
def rwA (se:Y) (fl:aB) (ds:aI):ba:=(IH (K0 se fl ds) (rwX se fl ds)<|[(80:Y)])
def arn (se:Y) (fl:aB) (ds:aI):letI b:=(AA<|(M fl:Y).tdiv 2);letI c:=DZ se fl ds;letI d:=IntKind.u32.wrap<|(HI se fl)+1;letI e:=rwA se fl ds;letI f:=K0 se fl ds;letI a:=(Gg f (rwW se fl ds) (rwX se fl ds)<|[(80:Y)]);Yi prog AO X5 m8 (λi=>if i=11 then Mc.lp else if i=17 then Md.lp else noLoops i) aGg f159 [.agg [se,.xl (.int aw) fl],.xl (.sl<|.int aw) ds]=.req (mO (⟨se,fl⟩:HE)) (.br ((BT se fl) !=0) (.ok<|.tup [.xl BE ([]:ba),BT se fl])<|.req ((2:Y)≠0)<|.req ((M ds<=5000/\F6 ds)/\5<=b/\b<=100000)<|.br ((!(Gq (b-5) ds)) ||((HI se fl)==4294967295)) (.ok<|.tup [.xl BE ([]:ba),(10:Y)])<|.ra 0 (M ([]:aB)) (0+M fl) 1<|.req (0+(0+M fl)<=M (([]:aB)++fl))<|.rv (.v<|ag J<|De se fl)<|.req (se≠0)<|.rz (CR se fl)<|.re 1 [(se,((([]:aB)++fl).drop 0).take<|0+M fl)]<|.req (Mc.q c)<|.req (auz (⟨d⟩:L1))<|.rl (CD d)<|.rl (DT c).al<|.req (Md.q<|JM se fl ds)<|.rz (KU<|JM se fl ds).bytes<|.rl (DT c).al<|.rl (DT c).al<|.req (Xc<|afP se fl ds)<|.rl f<|.rl f<|.req (Xc<|afO se fl ds)<|.br (!(a==(0:Y))) (.ok<|.tup [.xl BE ([]:ba),a])<|.rz e<|.ok<|.tup [.xl BE<|(e.drop 0).take<|M e,(0:Y)]):=AM
def aa5:VV 159 (uS f159 aH3):=adt (cs:=aGg) func159 rfl (gk X5) m8.h (L:=(λi=>if i=11 then Mc.lp else if i=17 then Md.lp else noLoops i)) (λb hb=>by
 rw [show loopsIn _=[aBh,aBi] by kernel_rfl] at hb
 simp only [Ak,B8,B6] at hb;rcases hb with rfl|rfl
 ·exact aoF
 ·exact aoG) (λargs lv h=>by
 unfold aH3 at h;split at h
 ·simp only [canL,canX]
  rw [arn];rename_i se fl ds;obtain ⟨⟨hb,hn,hk⟩,rfl⟩:=h
  have bad:∀e:Y,e≠0->FG se fl ds=e->LV.tup [.xl BE ([]:ba),.v<|ag J e]=LV.tup [.xl BE<|FF se fl ds,.v<|ag J<|FG se fl ds]:=λe h0 h1=>by unfold FF;rw [h1,AE h0]
  refine ⟨⟨hb,rfl,rfl⟩,λc1=>?_,λc1=>?_⟩
  ·have c1:BT se fl≠0:=AQ
   exact bad _ c1 (by unfold FG;rw [AD c1])
  have hE:BT se fl=0:=AQ
  have hj:Dj se fl=true:=by
   cases e:Dj se fl
   ·unfold BT at hE;rw [AD e] at hE;cases hE
   ·rfl
  have hq:=JQ.1 hj
  have hh:AA ((M fl:Y).tdiv 2)=((M fl / 2:aC):Y):=by
   exact aIX
  have hA:De se fl=Ah fl:=aKy
  have hG:HI se fl=Gc fl (Ah fl):=by unfold HI;rw [AD hE]
  have hc:=aGf fl
  have w0:AA (1-Ah fl)=1-Ah fl:=AG
  have hF:Gq (((M fl / 2:aC):Y)-5) ds=rwF fl ds:=by
   rw [aFx _ _ A0];unfold rwF
   congr 1
   rw [decide_eq_decide];omega
  refine ⟨AT,⟨⟨hn,hk⟩,by rw [hh];omega,by rw [hh];omega⟩,λc2=>?_,λc2=>?_⟩<;>rw [hh,hF,hG] at c2
  ·exact bad 10 AT (by unfold FG;rw [AE sP,AD c2])
  have hR:FG se fl ds=0:=by unfold FG;rw [AE sP,AE OR]
  simp only [EM,GC,Bt,ne_eq] at c2
  have hsum:5+M (BS ds)<=M fl / 2:=by
   have:=c2.1
   unfold rwF at this;simp only [AS,AU] at this;rw [xb];exact this.1
  obtain ⟨k1,k2,k3⟩:=avW hj
  have hm:∀x:Y,0<=x->x<=2048->AA ((1-Ah fl)*x)=(1-Ah fl)*x/\0<=(1-Ah fl)*x/\(1-Ah fl)*x<=x:=λx x0 x1=>by
   have:(1-Ah fl)*x=0\/(1-Ah fl)*x=x:=aJs
   exact ⟨AG,A0,A0⟩
  have hst:DZ se fl ds=⟨ds,((M fl / 2:aC):Y),1-Ah fl,((M fl / 2:aC):Y).tdiv se,(1-Ah fl)*((M fl / 2:aC):Y).tdiv se,Ah fl,HI se fl,CR se fl,G1 se fl,Jm se fl,0,se,fl,[(se,fl)]⟩:=by
   unfold DZ;rw [hh,hA,w0,AG (x:=((M fl / 2:aC):Y).tdiv se),(hm _ k2 k3).1,FK,Bq,Bq,Ck,Cc,Cc]
  have hE0:WD (DZ se fl ds):=by rw [hst];exact ⟨rfl,⟨hj,by show 1-Ah fl=0\/1-Ah fl=1;omega,k1⟩,rfl,rfl,rfl,rfl⟩
  obtain ⟨_,_,q1,q2,q3,q4,q5⟩:=aps _ hE0
  have q6:((DT<|DZ se fl ds).al,(B3 (DT<|DZ se fl ds).al).2)=Gl se fl:=by
   have:=(aqI _ hE0).2
   rw [this,hst];unfold Gl
   have hz:EG ⟨ds,((M fl / 2:aC):Y),1-Ah fl,((M fl / 2:aC):Y).tdiv se,(1-Ah fl)*((M fl / 2:aC):Y).tdiv se,Ah fl,HI se fl,CR se fl,G1 se fl,Jm se fl,0,se,fl,[(se,fl)]⟩=(1-Ah fl)*((M fl / 2:aC):Y).tdiv se+((M fl / 2:aC):Y).tdiv se:=by
    have:=hm _ k2 k3
    show AA (AA (1-Ah fl+1)*((M fl / 2:aC):Y).tdiv se)=_
    rw [AG (x:=1-Ah fl+1),Int.add_mul,Ve];exact AG
   show HK se fl _ (EG _-(1-Ah fl)*((M fl / 2:aC):Y).tdiv se).toNat _=_
   rw [hz]
   congr 1
   omega
  have r1:(DT<|DZ se fl ds).se=se/\(DT<|DZ se fl ds).fl=fl:=by rw [hst];exact ⟨rfl,rfl⟩
  rw [r1.1] at q4;rw [r1.2] at q5
  have q7:(B3 (DT<|DZ se fl ds).al).2=(Gl se fl).2:=Am Prod.snd q6
  have hl:B3 (DT<|DZ se fl ds).al=(se,(Gl se fl).2):=Prod.ext q4 q7
  have ha:(DT<|DZ se fl ds).al=(Gl se fl).1:=Am Prod.fst q6
  have hEb:ep (JM se fl ds):=⟨rfl,aKo,rfl,hk,by show ((4:aC):Y)<=4+70100*0;decide⟩
  have hY:rwY se fl ds=HT fl ds:=by
   have q:=(apt _ hEb).2
   have hg:=arb<|((B5 fl<|Ah fl).drop 1).take 4
   have hw:IntKind.u32.wrap (HI se fl+1)=Gc fl (Ah fl)+1:=by
    have:=c2.2
    rw [hG,Oh];unfold Gc at*;omega
   unfold rwY HT;rw [Bq,Cc,q,<-hw];rfl
  have hX:rwX se fl ds=I6 fl:=by unfold rwX I6;rw [hA,w0,hh];exact (hm _ A0 A0).1
  obtain ⟨_,o1,o2⟩:=hm ((M fl / 2:aC):Y) A0 A0
  have oO:I6 fl=(1-Ah fl)*((M fl / 2:aC):Y):=rfl
  have hX1:AA (rwX se fl ds+1)=I6 fl+1:=by rw [hX];exact AG
  have hBl:M (HT fl ds)=4+M (BS ds):=by unfold HT;rw [Av];rfl
  rw [hl] at q5
  have q5:M (Gl se fl).2=M fl:=q5
  have hv:∀b:aB,M b=M fl->FE se b=true:=λb e=>by rw [iV e];exact hq.1
  have p1:Dl se (Gl se fl).2 (I6 fl+1) (HT fl ds)=0:=by
   unfold Dl;rw [hv _ q5,AE dI,AE (by rw [q5,hBl];omega)]
  have hV:K0 se fl ds=(Gl se fl).1++(DK se (Gl se fl).2 (I6 fl+1)<|HT fl ds).drop 1:=by
   unfold K0 IH;rw [hX1,hY,hl,AD p1,ha]
  have hW:rwW se fl ds=0:=by unfold rwW Gg;rw [hX1,hY,hl,AD p1];exact q2
  have hlV:B3 (K0 se fl ds)=(se,rwP se fl ds):=by
   rw [hV];unfold DK;exact iN (f:=λk=>(se,D8 (Gl se fl).2 (I6 fl+1) (HT fl ds) k)) (n:=M<|HT fl ds) A0 _
  have p2:Dl se (rwP se fl ds) (I6 fl) [80]=0:=by
   have:M (rwP se fl ds)=M fl:=by unfold rwP;rw [Og];exact q5
   unfold Dl;rw [hv _ this,AE dI,AE (by rw [this];show ¬I6 fl>(M fl:Y)-((1:aC):Y);omega)]
  have hAA:rwA se fl ds=FF se fl ds:=by
   unfold rwA IH FF;rw [hX,hlV,AD p2,AD hR,hV,DQ]
  have hz:Gg (K0 se fl ds) (rwW se fl ds) (rwX se fl ds) [80]=0:=by unfold Gg;rw [hX,hlV,AD p2];exact hW
  have hVl:M (K0 se fl ds)<=3100000:=by
   have:=q3.2
   rw [hV,<-ha,Av,DV];unfold DK;rw [Dz,O7,hBl];omega
  refine ⟨⟨AT,A0,A0⟩,AH,rfl,A0,A0,AH,⟨hE0,rfl,rfl⟩,⟨ak,rfl,rfl⟩,A9,A9,⟨hEb,rfl,rfl⟩,A0,A9,A9,⟨⟨q3.1,by show M (DT<|DZ se fl ds).al<=4000000;omega,by show M (rwY se fl ds)<=5000;rw [hY,hBl];omega⟩,rfl,rfl⟩,A9,A9,⟨⟨?_,by show M (K0 se fl ds)<=4000000;omega,by show 1<=5000;decide⟩,rfl,rfl⟩,λc=>?_,λ_=>⟨A0,?_⟩⟩
  ·show K0 se fl ds≠ []
   intro hn
   have:B3 (K0 se fl ds)=B3 []:=by rw [hn]
   rw [hlV] at this
   have:=Am Prod.fst this
   have:se=0:=this
   omega
  ·rw [hz] at c;cases c
  ·rw [Bq,Cc,hAA,hR]
   rfl
 ·cases h)
def aH0:aD->T LV
 | [.agg [.v (ag J se),.xl (.int aw) fl],.xl (.int aw) d]=> .req (As fl/\M d<=70000) (.ok<|.tup [.xl BE<|Fj se fl d,E9 se fl d])
 |_=> .no
def aCp (se:Y) (fl:aB) (a:Y) (d:aB):[(se,fl)]++(DK se fl a d).drop 1=DK se fl a d:=by
 unfold DK;rw [List.range_succ_eq_map];rfl
def asX {fl:aB}(h:10<=M fl):(Cz fl).2.1<=M fl / 2:=by
 have:=WZ fl<|Ah fl
 have:=lq (b:=B5 fl<|Ah fl) (n:=M<|B5 fl<|Ah fl) (f:=5) A0
 unfold Cz;omega
def afN (se:Y) (fl d:aB):Ea:=(⟨AA<|(AA<|(AA<|(De se fl)*(AA<|(M fl:Y).tdiv 2))+(G1 se fl))+1,((BO d).drop (1:Y).toNat).take<|(M (BO d):Y).toNat-(1:Y).toNat,0,[(se,((([]:aB)++fl).drop 0).take<|0+M fl)]⟩:Ea)
def afM (se:Y) (fl d:aB):Ea:=letI a:=(AA<|(AA<|(De se fl)*(AA<|(M fl:Y).tdiv 2))+(G1 se fl));letI b:=(((BO d).drop (1:Y).toNat).take<|(M (BO d):Y).toNat-(1:Y).toNat);letI c:=(se,((([]:aB)++fl).drop 0).take<|0+M fl);(⟨a,((BO d).drop (0:Y).toNat).take<|(1:Y).toNat-(0:Y).toNat,Gg ([c]) (0:Y) (AA<|a+1) b,IH ([c]) (AA<|a+1) b⟩:Ea)
def axP (se:Y) (fl d:aB):Y:=(AA<|(AA<|(De se fl)*(AA<|(M fl:Y).tdiv 2))+(G1 se fl))
def axY (se:Y) (fl d:aB):aB:=(((BO d).drop (1:Y).toNat).take<|(M (BO d):Y).toNat-(1:Y).toNat)
def axZ (se:Y) (fl d:aB):aB:=(((BO d).drop (0:Y).toNat).take<|(1:Y).toNat-(0:Y).toNat)
def axQ (se:Y) (fl d:aB):ba:=([(se,((([]:aB)++fl).drop 0).take<|0+M fl)])
def Ix (se:Y) (fl d:aB):ba:=(IH (axQ se fl d) (AA<|(axP se fl d)+1)<|axY se fl d)
def axW (se:Y) (fl d:aB):Y:=(Gg (axQ se fl d) (0:Y) (AA<|(axP se fl d)+1)<|axY se fl d)
def axA (se:Y) (fl d:aB):ba:=(IH (Ix se fl d) (axP se fl d)<|axZ se fl d)
def Xf:aM:=[aa5,nJ,YL,Wm]
def aFe:Aj:=FC Xf (la 2 func200 iE<|l0 Xf) [⟨124,H8 λa=>Nd.m a [],X6⟩,⟨196,SK.m,Xk⟩]
def arJ (se:Y) (fl d:aB):letI b:=(M (BO d):Y);letI c:=Gg (Ix se fl d) (axW se fl d) (axP se fl d)<|axZ se fl d;letI f:=CR se fl;letI g:=axA se fl d;letI e:=M f+M ([d]);letI a:=((f++([d])).drop 0).take e;Yi prog AO (Xf) aFe noLoops aGi f156 [.agg [se,.xl (.int aw) fl],.xl (.int aw) d]=.req (mO (⟨se,fl⟩:HE)) (.br ((BT se fl) !=0) (.ok<|.tup [.xl BE ([]:ba),BT se fl])<|.req ((2:Y)≠0)<|.br ((an<|(M d:Y)>65535) ||(an<|(AA<|7+(M d:Y))>(AA<|(AA<|(M fl:Y).tdiv 2)-(G1 se fl)))) (.ok<|.tup [.xl BE ([]:ba),(10:Y)])<|.br (!(Jm se fl)) (.rb (M f) (M<|[d]) 24<|.req (0+e<=M (f++([d])))<|.req (As fl/\M a<=5000/\F6 a)<|.ok<|.tup [.xl BE<|FF se fl a,FG se fl a])<|.ra 0 (M ([]:aB)) (0+M fl) 1<|.req (0+(0+M fl)<=M (([]:aB)++fl))<|.rv (.v<|ag J<|De se fl)<|.rv (.v<|ag J<|G1 se fl)<|.req (M d<=70000)<|.re 1 (axQ se fl d)<|.req (0<=(1:Y)/\(1:Y)<=b/\b<=b)<|.rl (axQ se fl d)<|.req (Xc<|afN se fl d)<|.rl (Ix se fl d)<|.req (0<=(0:Y)/\(0:Y)<=(1:Y)/\(1:Y)<=b)<|.rl (Ix se fl d)<|.req (Xc<|afM se fl d)<|.br (!(c==(0:Y))) (.ok<|.tup [.xl BE ([]:ba),c])<|.rz g<|.ok<|.tup [.xl BE<|(g.drop 0).take<|M g,(0:Y)]):=AM
def avg:VV 156 (uS f156 aH0):=adt (cs:=aGi) func156 rfl (gk Xf) aFe.h (no_loops AM) (λargs lv h=>by
 unfold aH0 at h;split at h
 ·simp only [canL,canX]
  rw [arJ];rename_i se fl d;obtain ⟨⟨hb,hd⟩,rfl⟩:=h;refine ⟨⟨hb,rfl,rfl⟩,λc1=>?_,λc1=>?_⟩
  ·have c1:BT se fl≠0:=AQ
   unfold Fj E9;rw [AD c1,AD c1];rfl
  have hE:BT se fl=0:=AQ
  have hj:Dj se fl=true:=by
   cases e:Dj se fl
   ·unfold BT at hE;rw [AD e] at hE;cases hE
   ·rfl
  have hq:=JQ.1 hj
  have hh:AA ((M fl:Y).tdiv 2)=((M fl / 2:aC):Y):=by
   exact aIX
  have hA:De se fl=Ah fl:=aKy
  have hN:G1 se fl=((Cz fl).2.1:Y):=by unfold G1;rw [AD hE]
  have hC:Jm se fl=lkC fl:=by unfold Jm;rw [AD hE]
  obtain ⟨n1,n2,n3⟩:=aFr (se:=se) hb A0
  have hl:=asX (fl:=fl) A0
  have hc:=aGf fl
  have hF:((an<|(M d:Y)>65535) ||(an<|(AA<|7+(M d:Y))>(AA<|(AA<|(M fl:Y).tdiv 2)-(G1 se fl))))=apF se fl d:=by
   rw [hh,hN,AG (x:=7+(M d:Y)),AG (x:=((M fl / 2:aC):Y)-((Cz fl).2.1:Y))];unfold apF;rw [GG];simp only [C5,AU];omega
  have e0:¬BT se fl≠0:=sP
  refine ⟨AT,λc2=>?_,λc2=>⟨λc3=>?_,λc3=>?_⟩⟩<;>rw [hF] at c2
  ·unfold Fj E9
   rw [AE e0,AE e0,AD c2,AD c2];rfl
  ·have c3:¬lkC fl=true:=aKR
   have eT:(((CR se fl)++[d]).drop 0).take (M (CR se fl)+M [d])=(Cz fl).1++[d]:=by
    rw [Bq,<-Av,Cc];unfold CR;rw [AD hE]
   refine ⟨⟨Ck _,aKe,aKe⟩,by rw [Av];omega,⟨hb,?_,?_⟩,?_⟩
   ·rw [IN];simp only [BB,BG];omega
   ·intro x hx
    rcases BN.1 (LY<|OA hx) with c|c
    ·have:=n3 x c;omega
    ·rw [IM.1 c];exact hd
   ·have hR:Fj se fl d=FF se fl ((Cz fl).1++[d]):=by unfold Fj;rw [AE e0,AE OR,AE c3]
    have hZ:E9 se fl d=FG se fl ((Cz fl).1++[d]):=by unfold E9;rw [AE e0,AE OR,AE c3]
    rw [eT,hR,hZ];rfl
  have hcl:lkC fl=true:=aKR
  have hR:Fj se fl d=G4 se fl d:=by unfold Fj;rw [AE e0,AE OR,AD hcl]
  have hZ0:E9 se fl d=0:=by unfold E9;rw [AE e0,AE OR,AD hcl]
  unfold apF at c2;simp only [EM,CJ] at c2
  have hm:Ah fl*((M fl / 2:aC):Y)=0\/Ah fl*((M fl / 2:aC):Y)=((M fl / 2:aC):Y):=aJs
  have hP:axP se fl d=EH fl:=by
   unfold axP EH;rw [hh,hA,hN,AG (x:=Ah fl*((M fl / 2:aC):Y))];exact AG
  have oP:EH fl=Ah fl*((M fl / 2:aC):Y)+((Cz fl).2.1:Y):=rfl
  have hP1:AA (axP se fl d+1)=EH fl+1:=by rw [hP];exact AG
  have hpl:=KH d
  have hY:axY se fl d=(BO d).drop 1:=by unfold axY;exact CY sO
  have hZ:axZ se fl d=[80]:=rfl
  have hQ:axQ se fl d=[(se,fl)]:=by unfold axQ;rw [FK,Bq,Ck,Cc]
  have hYl:M ((BO d).drop 1)=6+M d:=sO
  have hL0:B3 [(se,fl)]=(se,fl):=rfl
  have p1:Dl se fl (EH fl+1) ((BO d).drop 1)=0:=by
   unfold Dl;rw [hq.1,AE dI,AE (by rw [hYl];omega)]
  have hV:Ix se fl d=DK se fl (EH fl+1) ((BO d).drop 1):=by
   unfold Ix IH;rw [hP1,hY,hQ,hL0,AD p1,aCp]
  have hW:axW se fl d=0:=by unfold axW Gg;rw [hP1,hY,hQ,hL0,AD p1]
  have hlV:B3 (Ix se fl d)=(se,apB fl d):=by
   rw [hV,<-aCp];exact iN (f:=λk=>(se,D8 fl (EH fl+1) ((BO d).drop 1) k)) (n:=M<|(BO d).drop 1) A0 _
  have hBl:M (apB fl d)=M fl:=Og _ _ _ _
  have p2:Dl se (apB fl d) (EH fl) [80]=0:=by
   unfold Dl;rw [iV hBl,hq.1,AE dI,AE (by rw [hBl];show ¬EH fl>(M fl:Y)-((1:aC):Y);omega)]
  have hAA:axA se fl d=G4 se fl d:=by
   unfold axA IH G4;rw [hP,hZ,hlV,AD p2,hV]
  have hz:Gg (Ix se fl d) (axW se fl d) (axP se fl d) (axZ se fl d)=0:=by unfold Gg;rw [hP,hZ,hlV,AD p2];exact hW
  have hVl:M (Ix se fl d)=7+M d:=by rw [hV];unfold DK;rw [Dz,O7,hYl];omega
  refine ⟨⟨AT,A0,A0⟩,AH,rfl,rfl,hd,by rw [hQ];exact A9,⟨A0,A0,A0⟩,A9,⟨⟨by show axQ se fl d≠ [];rw [hQ];simp,by show M (axQ se fl d)<=4000000;rw [hQ];show 1<=4000000;decide,by show M (axY se fl d)<=5000;rw [hY,hYl];omega⟩,rfl,rfl⟩,A9,⟨A0,A0,A0⟩,A9,⟨⟨by show Ix se fl d≠ [];intro hn;rw [hn] at hVl;simp at hVl;omega,by show M (Ix se fl d)<=4000000;omega,by show 1<=5000;decide⟩,rfl,rfl⟩,λc=>?_,λ_=>⟨A0,?_⟩⟩
  ·rw [hz] at c;cases c
  ·rw [Bq,Cc,hAA,hR,hZ0]
   rfl
 ·cases h)
def aGN:aD->T LV
 | [.agg [.v (ag J se),.xl (.int aw) fl],.v (.agg ⟨[ag J x1,ag J x2,ag J x3,ag J x4,ag J x5]⟩),.v (ag J t)]=> .req (As fl) (.ok<|.tup [.xl BE<|CT se fl (x1,x2,x3,x4,x5) t,D9 se fl (x1,x2,x3,x4,x5) t])
 |_=> .no
def ati:aM:=[nH,RZ,avg,aa1,aw9,aa5]
def afx {x:Le}:BX [x]=Cj x:=by
 unfold BX;rw [GG,AS,Cm];refine ⟨λh=>?_,λh=>⟨rfl,λk hk=>?_⟩⟩
 ·have:=h.2 0 AH
  unfold Ee at this;rw [AS] at this;exact this.1
 ·have:k=0:=A8
  subst this;unfold Ee;rw [AS];exact ⟨h,rfl⟩
def abX {l:aN}{x:Le}{t:Y}(h:Cw l t=0):M (kpR l x t)<=5000/\F6 (kpR l x t):=by
 have hk:=aA6 h
 unfold kpR;rw [AD h];unfold kpL;refine ⟨?_,λd hd=>?_⟩
 ·simp only [Av,Dz,BB,BG]
  grind
 ·rcases BN.1 hd with hd|hd
  ·obtain ⟨y,_,rfl⟩:=Dp.1 hd;rw [NC];omega
  ·rcases BN.1 hd with hd|hd
   ·split at hd
    ·rw [IM.1 hd,NC];omega
    ·cases hd
   ·rw [IM.1 hd,NC];omega
def aa0:=vo (S:=aGN) func104 ati kN (λargs lv h=>by
 unfold aGN at h;split at h
 ·rename_i se fl x1 x2 x3 x4 x5 t
  refine Af (letI d:=(plL (x1,x2,x3,x4,x5));letI g:=B4 se fl;letI j:=E9 se fl d;letI k:=As fl/\M d<=70000;letI b:=(kpR g (x1,x2,x3,x4,x5) t);letI f:=(AA<|(M g:Y)-1);letI i:=As fl/\M b<=5000/\F6 b;.req (As fl)<|.br ((C0 se fl) !=0) (.ok<|.tup [.xl BE ([]:ba),(C0 se fl)])<|.br (!(BX<|[(x1,(x2,(x3,(x4,x5))))])) (.ok<|.tup [.xl BE ([]:ba),(1:Y)])<|.br (an<|t<0) (.ok<|.tup [.xl BE ([]:ba),(1:Y)])<|.br (an<|t>1100000) (.ok<|.tup [.xl BE ([]:ba),(1:Y)])<|.br (an<|(M g:Y)>0) (.ix f (M g)<|.br (an<|x1<=(An g f).1) (.ok<|.tup [.xl BE ([]:ba),(12:Y)])<|.ix f (M g)<|.br (an<|x4<(An g f).2.2.2.1) (.ok<|.tup [.xl BE ([]:ba),(12:Y)])<|.req k<|.br (j !=10) (.ok<|.tup [.xl BE<|Fj se fl d,j])<|.br ((Cw g t) !=0) (.ok<|.tup [.xl BE ([]:ba),(Cw g t)])<|.req i<|.ok<|.tup [.xl BE<|FF se fl b,(FG se fl b)])<|.req k<|.br (j !=10) (.ok<|.tup [.xl BE<|Fj se fl d,j])<|.br ((Cw g t) !=0) (.ok<|.tup [.xl BE ([]:ba),(Cw g t)])<|.req i<|.ok<|.tup [.xl BE<|FF se fl b,(FG se fl b)]) ?_;obtain ⟨hb,rfl⟩:=h
  have fin:∀ {a:ba} {e:Y},CT se fl (x1,x2,x3,x4,x5) t=a/\D9 se fl (x1,x2,x3,x4,x5) t=e->LV.tup [.xl BE a,.v<|ag J e]=LV.tup [.xl BE<|CT se fl (x1,x2,x3,x4,x5) t,.v<|ag J<|D9 se fl (x1,x2,x3,x4,x5) t]:=λh=>by rw [h.1,h.2]
  refine ⟨hb,λc1=>fin ?_,λc1=>?_⟩
  ·have c1:C0 se fl≠0:=AQ
   unfold CT D9;rw [AD c1,AD c1];exact ⟨rfl,rfl⟩
  have c1:¬C0 se fl≠0:=AQ
  rw [afx]
  have bad:(!Cj (x1,x2,x3,x4,x5) || !inB t 0 1100000)=U->CT se fl (x1,x2,x3,x4,x5) t=[]/\D9 se fl (x1,x2,x3,x4,x5) t=1:=λh=>by
   unfold CT D9;rw [AE c1,AE c1,AD h,AD h];exact ⟨rfl,rfl⟩
  refine ⟨λc2=>fin<|bad (by rw [c2];rfl),λc2=>⟨λc3=>fin<|bad ?_,λc3=>⟨λc4=>fin<|bad ?_,λc4=>?_⟩⟩⟩
  iterate 2
   ·rw [C5]
    refine .inr ?_
    have e:inB t 0 1100000=false:=by
     cases e:inB t 0 1100000
     ·rfl
     ·have:=C1.1 e
      simp only [AU,CJ] at c3
      try simp only [AU] at c4
      omega
    rw [e];rfl
  have ht:inB t 0 1100000=true:=C1.2 (by simp only [CJ] at c3 c4;omega)
  have hx:Cj (x1,x2,x3,x4,x5)=true:=D4
  have hv:=aaA<|qa.1 c1
  have hE:Cw (B4 se fl) t=0:=by unfold Cw Nn;rw [hv,ht];rfl
  have hb':¬((!Cj (x1,x2,x3,x4,x5) || !inB t 0 1100000)=U):=by rw [hx,ht];decide
  have hl:=(Hi hv).1
  have w:=λc5:0<M (B4 se fl)=>AG (x:=(M (B4 se fl):Y)-1)
  have hO:0<M (B4 se fl)->HR (B4 se fl) (x1,x2,x3,x4,x5)=(an (x1<=(An (B4 se fl)<|(M (B4 se fl):Y)-1).1) ||an (x4<(An (B4 se fl)<|(M (B4 se fl):Y)-1).2.2.2.1)):=λc5=>by
   unfold HR;rw [show an (M (B4 se fl)>0)=U from Cq c5];rfl
  have old:HR (B4 se fl) (x1,x2,x3,x4,x5)=U->CT se fl (x1,x2,x3,x4,x5) t=[]/\D9 se fl (x1,x2,x3,x4,x5) t=12:=λh=>by
   unfold CT D9;rw [AE c1,AE c1,AE hb',AE hb',AD h,AD h];exact ⟨rfl,rfl⟩
  refine ⟨λc5=>?_,λc5=>?_⟩
  ·have c5:0<M (B4 se fl):=by simpa using c5
   have hO:=hO c5
   rw [w c5];refine ⟨A0,λc6=>fin<|old (by rw [hO,c6];rfl),λc6=>⟨A0,λc7=>fin<|old<|by rw [hO,c7,Lg],λc7=>?_⟩⟩
   have hO:HR (B4 se fl) (x1,x2,x3,x4,x5)=false:=by rw [hO,c6,c7];rfl
   have hk:kpR (B4 se fl) (x1,x2,x3,x4,x5) t=kpL (B4 se fl) (x1,x2,x3,x4,x5) t:=AD hE
   have hk':=hk▸abX (x:=(x1,x2,x3,x4,x5)) hE
   rw [hk,hE]
   have hO:¬(HR (B4 se fl) (x1,x2,x3,x4,x5)=U):=by rw [hO];decide
   refine ⟨⟨hb,by rw [NC];decide⟩,λc=>fin ?_,λc=>⟨λc'=>(by cases c'),λ_=>⟨⟨hb,hk'⟩,fin ?_⟩⟩⟩<;>unfold CT D9<;>rw [AE c1,AE c1,AE hb',AE hb',AE hO,AE hO]
   ·have c:E9 se fl (plL (x1,x2,x3,x4,x5))≠10:=EO
    rw [AD c,AD c];exact ⟨rfl,rfl⟩
   ·have c:¬E9 se fl (plL (x1,x2,x3,x4,x5))≠10:=EO
    rw [AE c,AE c];exact ⟨rfl,rfl⟩
  ·have hO:HR (B4 se fl) (x1,x2,x3,x4,x5)=false:=by unfold HR;rw [show an (M (B4 se fl)>0)=X by simpa using c5];rfl
   have hk:kpR (B4 se fl) (x1,x2,x3,x4,x5) t=kpL (B4 se fl) (x1,x2,x3,x4,x5) t:=AD hE
   have hk':=hk▸abX (x:=(x1,x2,x3,x4,x5)) hE
   rw [hk,hE]
   have hO:¬(HR (B4 se fl) (x1,x2,x3,x4,x5)=U):=by rw [hO];decide
   refine ⟨⟨hb,by rw [NC];decide⟩,λc=>fin ?_,λc=>⟨λc'=>(by cases c'),λ_=>⟨⟨hb,hk'⟩,fin ?_⟩⟩⟩<;>unfold CT D9<;>rw [AE c1,AE c1,AE hb',AE hb',AE hO,AE hO]
   ·have c:E9 se fl (plL (x1,x2,x3,x4,x5))≠10:=EO
    rw [AD c,AD c];exact ⟨rfl,rfl⟩
   ·have c:¬E9 se fl (plL (x1,x2,x3,x4,x5))≠10:=EO
    rw [AE c,AE c];exact ⟨rfl,rfl⟩
 ·cases h)
def EI (se:Y) (n:aC) (y:Fl):Prop:=y.1=se/\M y.2=n/\As y.2
def XZ {se:Y}{fl:aB}{a:Y}{d:aB}{n:aC}(h:EI se n (se,fl)):∀y∈DK se fl a d,EI se n y:=by
 intro y hy;obtain ⟨k,_,rfl⟩:=Dp.1 hy;exact ⟨rfl,(Og _ _ _ _).trans h.2.1,jd h.2.2 _ _ _⟩
def atU {se:Y}{fl:aB}{s:Y}{n:aC}(h:EI se n (se,fl)):∀y∈J4 se fl s,EI se n y:=by
 intro y hy;obtain ⟨k,_,rfl⟩:=Dp.1 hy;exact ⟨rfl,(Wb _ _ _).trans h.2.1,aGY h.2.2 _ _⟩
def ib {se:Y}{f0:aB}{n:aC}:∀(m:aC) (s:Y) (a:List Fl×List Int),(∀y∈a.1,EI se n y)->EI se n (se,a.2)->(∀y∈(HK se f0 s m a).1,EI se n y)/\EI se n (se,(HK se f0 s m a).2)
 |0,_,_,h1,h2=>⟨h1,h2⟩
 | m+1,s,a,h1,h2=>by
  unfold HK;split
  ·refine ib m (s+1) _ (λy hy=>?_) ⟨rfl,(Wb _ _ _).trans h2.2.1,aGY h2.2.2 _ _⟩
   rcases BN.1 hy with hy|hy
   ·grind
   ·exact atU h2 y<|LY hy
  ·exact ib m (s+1) a h1 h2
def av4 {se:Y}{fl d:aB}{n:aC}(h:EI se n (se,fl)):∀y∈G4 se fl d,EI se n y:=by
 intro y hy;rcases BN.1 hy with hy|hy
 ·exact XZ h y hy
 ·exact XZ ⟨rfl,(Og _ _ _ _).trans h.2.1,jd h.2.2 _ _ _⟩ y<|LY hy
def aDA {se:Y}{fl:aB}{ds:aI}{n:aC}(h:EI se n (se,fl)):∀y∈FF se fl ds,EI se n y:=by
 intro y hy;unfold FF at hy;split at hy
 ·obtain ⟨k1,k2⟩:=ib (se:=se) (f0:=fl) (n:=n) (((M fl / 2:aC):Y).tdiv se).toNat ((1-Ah fl)*((M fl / 2:aC):Y).tdiv se) ([(se,fl)],fl) (λy hy=>A8) h
  rcases BN.1 hy with hy|hy
  ·exact k1 y hy
  ·rcases BN.1 hy with hy|hy
   ·exact XZ k2 y<|LY hy
   ·exact XZ ⟨rfl,(Og _ _ _ _).trans k2.2.1,jd k2.2.2 _ _ _⟩ y<|LY hy
 ·cases hy
def ia {se:Y}{f0:aB}:∀(m:aC) (s:Y) (a:List Fl×List Int),a.1≠ []->(HK se f0 s m a).1≠ []
 |0,_,_,h=>h
 |m+1,s,a,h=>by
  unfold HK;split
  ·exact ia m _ _ dn
  ·exact ia m _ _ h
def aD9 {se:Y}{fl:aB}{ds:aI}(h:FG se fl ds=0):FF se fl ds≠ []:=by
 unfold FF;rw [AD h]
 have:=ia (se:=se) (f0:=fl) (((M fl / 2:aC):Y).tdiv se).toNat ((1-Ah fl)*((M fl / 2:aC):Y).tdiv se) ([(se,fl)],fl) AH
 intro hh;rw [List.append_eq_nil_iff] at hh;exact this hh.1
def av3 {se:Y}{fl d:aB}:G4 se fl d≠ []:=by
 unfold G4 DK
 simp
def aLz {se:Y}{fl:aB}{x:Le}{t:Y}{n:aC}(h:EI se n (se,fl)):(∀y∈CT se fl x t,EI se n y)/\(D9 se fl x t=0->CT se fl x t≠ []):=by
 have ha:(∀y∈Fj se fl (plL x),EI se n y)/\(E9 se fl (plL x)=0->Fj se fl (plL x)≠ []):=by
  unfold Fj E9
  by_cases h1:BT se fl≠0
  ·grind
  ·rw [AE h1,AE h1]
   by_cases h2:apF se fl (plL x)=U
   ·grind
   ·rw [AE h2,AE h2]
    by_cases h3:lkC fl=U
    ·rw [AD h3,AD h3];exact ⟨av4 h,λ_=>av3⟩
    ·rw [AE h3,AE h3];exact ⟨aDA h,aD9⟩
 unfold CT D9
 by_cases h1:C0 se fl≠0
 ·grind
 ·rw [AE h1,AE h1]
  split
  ·grind
  ·split
   ·grind
   ·split
    ·exact ha
    ·exact ⟨aDA h,aD9⟩
def z3 {se:Y}{fl:aB}{x:Le}{t:Y}(hb:As fl) (hl:M fl<=5000) (hE:D9 se fl x t=0):letI a:=(HP (CT se fl x t)<|(M (CT se fl x t):Y)-1);As a.2/\M a.2<=5000:=by
 obtain ⟨k1,k2⟩:=aLz (x:=x) (t:=t) (show EI se (M fl) (se,fl) from ⟨rfl,rfl,hb⟩)
 have hne:=Mk.2<|k2 hE
 have hm:HP (CT se fl x t) ((M (CT se fl x t):Y)-1)∈CT se fl x t:=by
  unfold HP;rw [L8 A0];exact EL _
 obtain ⟨_,m2,m3⟩:=k1 _ hm;exact ⟨m3,A0⟩
structure SnI (s:SN) (n:aC):Prop where
 fl:As s.fl/\M s.fl<=5000
 ls:M s.ls<=100
 lk:M s.lk<=n
def afu {l:aN}{x:Le}(h:Df l x=0):M (HM l x)<=64:=by
 unfold HM;rw [AD h];unfold Df at h;split at h
 ·rename_i hv
  rw [AS] at hv
  have:=(Hi hv.1).1
  split at h
  ·cases h
  ·split at h
   ·cases h
   ·simp;omega
 ·cases h
def aoL {t:Y}{s:SN}{x:Le}{n:aC}(h:SnI s n):SnI (HG t s x) (n+1):=by
 unfold HG;split
 ·rename_i hc
  exact ⟨z3 h.fl.1 h.fl.2 hc.2,E5 (afu hc.1) AT,by have:=h.lk;simp;omega⟩
 ·exact ⟨h.fl,h.ls,by have:=h.lk;omega⟩
def aCX {t:Y}{xs:aN}{s:SN}{n:aC}(h:SnI s n):∀k,SnI (Jo t xs s k) (n+k)
 |0=>h
 |k+1=>aoL<|aCX h k
structure RQ (p:PK):Prop where
 fl:As p.fl/\M p.fl<=5000
 ls:M p.ls<=100
 lk:(M p.lk:Y)<=16*p.tk+1000
 ra:M p.ra<=40
 mi:∀m∈p.mi,M m.1<=40
def xK {l:aN}{t:Y}:M (Bx l t)<=M l:=by
 unfold Bx;split
 ·grind
 ·simp
def alr {l:aN}{t:Y}:M (G2 l t)<=M l:=by
 unfold G2;split
 ·exact xK
 ·omega
def yv {p:PK}:M p.dL<=M p.gs:=by
 unfold PK.dL Iy;split
 ·exact w9
 ·simp
def auh {p:PK}:M p.dR<=M p.gs:=by
 unfold PK.dR IA;split
 ·exact cq gJ
 ·simp
end Go.Proofs.YtjjcgjkagokchaaGreatDoor
end
