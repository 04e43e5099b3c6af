/- Helpers for ParkEvents. Conditions: none. -/
import Derived.Test.YtjjcgjkagokchaaGreatDoorQz4
set_option linter.defProp false
set_option linter.unusedVariables false
set_option linter.unusedSimpArgs false
noncomputable section
open List renaming length→M,length→aa,replicate→aq,range→au
open Bool renaming true→U,true→ae,false→X,false→af
open Go.Value renaming int→ag
open Option renaming some→ah,none→aj
open Go.IntKind renaming i64→J,i64→ai,u8→aw,u32→ax
open True renaming intro→ak
open Decidable renaming decide→an
open ByteArray renaming mk→av
open Go.Region renaming ready→ay,wanted→az
open Go.Instr renaming findNow→aA
namespace Go.Proofs.YtjjcgjkagokchaaGreatDoor
set_option maxRecDepth 100000
set_option maxHeartbeats 4000000
open Go.Proofs.Tryz
open Go.Sx
def aGc {p:PK}(h:RQ p) (hg:M p.gs<=16):(As p.AK.fl/\M p.AK.fl<=5000)/\M p.AK.ls<=100/\(M p.AK.lk:Y)<=16*p.tk+1016/\M p.AK.ra<=40:=by
 have hl:=h.lk
 have he:M (G2 p.ls p.tk)<=100:=E5 alr h.ls
 unfold PK.AK;split
 ·exact ⟨h.fl,h.ls,A0,h.ra⟩
 ·split
  ·exact ⟨h.fl,he,AP,h.ra⟩
  ·have hs:SnI p.Gf (M p.lk):=⟨h.fl,he,Ar _⟩
   have h1:=aCX (t:=p.tk) (xs:=p.dL) hs<|M p.dL
   have hd:=yv (p:=p)
   exact ⟨h1.fl,h1.ls,by have:=h1.lk;show (M (Jo p.tk p.dL p.Gf<|M p.dL).lk:Y)<=_;omega,E5 (E5 auh hg) AT⟩
def mem_set {α:Type}{l:List α}{i:aC}{x y:α}(h:y∈l.set i x):y∈l\/y=x:=O8 h
def amJ (c:Ca) (m:Mi) (p al:Y):M (I9 c m p al).1<=40:=by
 unfold I9;split
 ·rename_i hB
  have:=(Wt.1 (gH.1 hB).2.1).1
  simp only [dwP,DV,Av,BB,BG];omega
 ·simp
def aGa {gs:aG}{ca:aMc}{s:DW}(h:∀m∈s.mi,M m.1<=40):∀k,∀m∈(Gr gs ca s k).mi,M m.1<=40
 |0=>h
 | k+1=>by
  have ih:=aGa (gs:=gs) (ca:=ca) h k
  unfold Gr I3;split
  ·exact ih
  ·split
   ·intro m hm
    rcases mem_set hm with hm|rfl
    ·exact ih m hm
    ·exact amJ _ _ _ _
   ·exact ih
def ajQ {se:Y}{fl:aB}:M (B4 se fl)<=64:=by
 unfold B4;split
 ·rename_i h
  unfold C0 at h;split at h
  ·cases h
  ·split at h
   ·grind
   ·split at h
    ·split at h
     ·rename_i h3;exact (Hi h3).1
     ·cases h
    ·cases h
 ·simp
def RQ.tick {p:PK}(h:RQ p) (hv:VP p):RQ p.GY:=by
 have hg:=(CV.1 hv.site).1.2.2.2.2.1
 obtain ⟨h1,h2,h3,h4⟩:=aGc h hg;obtain ⟨e1,e2,e3,e4,e5,e6,e7,e8,e9,e10,e11,e12,e13,e14⟩:=OY p;refine ⟨h1,h2,?_,h4,?_⟩
 ·show (M (p.AK.lk.filter _):Y)<=16*(p.AK.tk+1)+1000
  have:=qG (λl:Lk=>an<|l.1>p.AK.tk) p.AK.lk
  rw [e6] at this|-;omega
 ·refine aGa ?_ _
  show ∀m∈p.AK.mi,_
  rw [e10];exact h.mi
def RQ.step {p:PK}(h:RQ p) (hv:VP p) {e:EV}(he:BJ p e=0):RQ (Ay p e):=by
 have hg:=(CV.1 hv.site).1.2.2.2.2.1
 unfold Ay;rw [AE A0];unfold BJ at he;rw [AE (by rw [ff.2 hv];decide)] at he
 split
 ·exact h.tick hv
 rename_i h1;rw [AE h1] at he;split
 ·rename_i h2
  rw [AD h2] at he;exact aIb
 rename_i h2;rw [AE h2] at he;split
 ·exact aIb
 rename_i h3;rw [AE h3] at he;split
 ·have:=qG (λl:Lk=>l.2.2.1 !=e.en) p.lk
  exact {h with lk:=by show (M (p.lk.filter _):Y)<=16*p.tk+1000;have:=h.lk;omega}
 rename_i h4;rw [AE h4] at he;split
 ·exact {h with ls:=by simp [PK.NU]}
 rename_i h5;rw [AE h5] at he;split
 ·exact {h with ls:=E5 xK<|E5 ajQ AT,ra:=by simp [PK.Sz];omega}
 rename_i h6;rw [AE h6] at he;split
 ·exact {h with}
 ·exact {h with}
def aqi {cs:aK}{os:aF}{ks:aP}{gs:aG}{bs:aQ}{dr:aB}(h:DI cs os ks gs bs dr=0):VP (newP cs os ks gs bs dr)/\RQ (newP cs os ks gs bs dr):=by
 unfold newP;rw [AE A0];unfold DI at h;split at h
 ·cases h
 rename_i h1;simp only [not_or,cI,ne_eq,qa] at h1;split at h
 ·cases h
 rename_i h2;simp only [cI] at h2
 have hb:As DU:=by
  unfold DU EE;rw [Ic,Ic,Ic,N9];exact ⟨⟨⟨AT,Wc _⟩,aAf λd hd=>OS,Wr _⟩,Wr _⟩
 have hl:M DU=2048:=aKj
 refine ⟨⟨h1.1,AH,AH,AH,AH,by simp [Dt],AH,h1.2,AH,λk hk=>?_,h2,λl hl=>by cases hl⟩,⟨⟨hb,by rw [hl];decide⟩,AH,AH,by simp;have:=(CV.1 h1.1).1.2.2.2.2.1;omega,λm hm=>?_⟩⟩
 ·simp only [Dz] at hk
  have e:gi (cs.map λc=>c.2.2.1) (k:Y)=(Aa cs k).2.2.1:=by
   unfold gi Aa
   simp [hk]
  simp only [e];exact ⟨(ln h1.1 hk).1,GF _⟩
 ·obtain ⟨_,rfl⟩:=QP.1 hm;simp
def xL {se:Y}{f0:aB}:∀(n:aC) (s:Y) (a:List Fl×List Int),M (HK se f0 s n a).1<=M a.1+n*se.toNat
 |0,s,a=>by simp [HK]
 | n+1,s,a=>by
  unfold HK
  have h:=xL (se:=se) (f0:=f0) n (s+1) (if isW se f0 s=U then (a.1++(J4 se a.2 s).drop 1,Ej a.2 (s*se) se.toNat) else a)
  rw [Nat.succ_mul];split at h
  ·rename_i c
   rw [AD c]
   have e:M ((J4 se a.2 s).drop 1)=se.toNat:=by unfold J4;rw [DV,Dz,O7];omega
   simp only [Av] at h;omega
  ·rename_i c
   rw [AE c];omega
def iO (se:Y) (fl:aB) (a:Y) (d:aB):M ((DK se fl a d).drop 1)=M d:=by
 unfold DK;rw [DV,Dz,O7];omega
def zl {fl:aB}{ds:aI}(hl:M fl=2048) (hE:FG 512 fl ds=0):M (FF 512 fl ds)<=5000:=by
 have hF:rwF fl ds=true:=by
  unfold FG at hE;split at hE
  ·grind
  ·split at hE
   ·cases hE
   ·rename_i h
    cases e:rwF fl ds
    ·grind
    ·rfl
 have hb:M (HT fl ds)<=1100:=by
  unfold rwF at hF;rw [AS,AU] at hF;unfold HT;rw [Av,xb]
  have:M (CD<|Gc fl (Ah fl)+1)=4:=rfl
  omega
 have he:M (Gl 512 fl).1<=1025:=by
  refine E5 (xL _ _ _) ?_;rw [hl]
  show 1+(((2048 / 2:aC):Y).tdiv 512).toNat*(512:Y).toNat<=1025
  decide
 unfold FF;rw [AD hE,Av,Av,iO,iO];simp only [BB,BG];omega
def ahD {se:Y}{fl:aB}{x:Le}{t:Y}(h:EI 512 2048 (se,fl)) (hE:D9 se fl x t=0):M (CT se fl x t)<=5000:=by
 have hs:=h.1
 subst hs
 have hl:=h.2.1
 unfold D9 at hE;unfold CT;split at hE
 ·grind
 rename_i h1;rw [AE h1];split at hE
 ·cases hE
 rename_i h2;rw [AE h2];split at hE
 ·cases hE
 rename_i h3;rw [AE h3];split at hE
 ·rename_i h4
  rw [AD h4];unfold E9 at hE;unfold Fj;split at hE
  ·grind
  rename_i h5;rw [AE h5];split at hE
  ·cases hE
  rename_i h6;rw [AE h6];split at hE
  ·rename_i h7
   rw [AD h7];unfold G4;rw [Av,iO];unfold DK;rw [Dz,O7,DV,KH,NC]
   decide
  ·rename_i h7
   rw [AE h7];exact zl hl hE
 ·rename_i h4
  rw [AE h4];exact zl hl hE
def amk {se:Y}{fl:aB}{x:Le}{t:Y}(h:D9 se fl x t=0):se=512/\M fl=2048:=by
 unfold D9 at h;split at h
 ·rename_i c;exact absurd h c
 ·rename_i c
  unfold C0 at c;split at c
  ·exact absurd AT c
  ·rename_i e
   simp only [C5,C8,Bt,not_or,qa] at e;omega
def JP (p:PK):Prop:=VP p/\RQ p
def AI {α:Type}(l:List α):List α:=(l.drop 0).take<|M l
def D5 {α:Type}(l:List α):AI l=l:=Oy l
def cpC (l:aK):aK:=cpy (AI l)<|aq (M l:Y).toNat (ByteArray.empty,((0:Y),((0:Y),((0:Y),(((0:Y),(0:Y)),((0:Y),((0:Y),((0:Y),((0:Y),(0:Y))))))))))
def X7 (l:aK):cpC l=l:=by
 unfold cpC;rw [D5];exact NG
structure MS where
 (n i:Y)
 p:PK
 ev:EW
 B9:aF
 BV:aP
 B1:aG
 BW:aQ
 o:aK
def nV (s:MS):T (Rd MS):=letI b:=s.o.getD s.i.toNat<|Ty.dflt AR;letI a:=(s.o.set s.i.toNat (b.1,(b.2.1,((s.p.tg.getD s.i.toNat<|Ty.dflt A7),b.2.2.2))));.br (an<|s.i<s.n) (.ik s.i (M s.p.tg)<|.ik s.i (M s.o)<|.rl s.p.tg<|.rl s.p.cs<|.rl s.p.fl<|.rl s.p.ra<|.pb s.p<|.re (M s.o) a<|.nx {s with i:=AA<|s.i+1,o:=a})<|.rl s.p.tg<|.rl s.p.cs<|.rl s.p.fl<|.rl s.p.ra<|.pb s.p<|.rl s.o<|.so (.exit 0) s
def ZK (s:MS):Prop:=s.i=0/\s.n=(M s.p.tg:Y)/\M s.p.tg=M s.p.cs/\s.n<=1000/\s.o=El s.p.cs s.p.tg s.i.toNat
def UC (s:MS):Prop:=(0<=s.i/\s.i<=s.n)/\s.n=(M s.p.tg:Y)/\M s.p.tg=M s.p.cs/\s.n<=1000/\s.o=El s.p.cs s.p.tg s.i.toNat
def jy (s:MS):aC:=(s.n-s.i).toNat
def tS (x:Ex) (s s':MS):Prop:=x=.exit 0/\s'.o=El s'.p.cs s'.p.tg (M s'.p.tg)
def azf:∀s,ZK s->UC s:=by
 exact aJR
def aug:Da UC jy tS nV:=by
 intro s hI;obtain ⟨⟨h0,h1⟩,h2,h3,h4,h5⟩:=hI
 have hl:M s.o=M s.p.cs:=dQ
 refine allR_ite (λc1=>?_) λc1=>?_
 ·have c1:s.i<s.n:=A8
  rw [AG (x:=s.i+1)];refine ⟨⟨⟨A8,A8⟩,h2,h3,h4,?_⟩,by simp only [jy];omega⟩
  exact aI6
 ·have c1:s.n<=s.i:=A8
  refine ⟨rfl,?_⟩
  grind
def SR:LpD MS:=⟨18,34,[2,3,19,20,21],[],λs=>[.own 18 0,.own 19 0,.os 15 1 0<|M s.p.tg,s.n,s.i],λs=>[bDd,bDd,zB,bDd,bV 62 AR s.p.cs,bDd,bV 5 (.int aw) s.p.fl,bV 90 Ae s.p.ra,bV 94 Al s.p.st,bV 46 AL s.p.ca,bV 74 Ap s.p.mi,bV 66 Az s.p.me,bV 48 Aq s.p.dm,bV 99 Au s.p.lk,bV 3 A7 s.p.dr,bV 3 A7 s.p.tg,⟨[.os 4 11 0<|M s.p.cs,.xl .str s.p.os,.xl AY s.p.ks,.xl AX s.p.gs,.xl AZ s.p.bs,.v<|ag J s.p.tk,.v<|.bool s.p.up,.xl AL s.p.ls,.v<|ag J s.p.se,.os 6 1 0<|M s.p.fl,.os 7 2 0<|M s.p.ra,.v<|ag J s.p.nx,.os 8 4 0<|M s.p.st,.os 9 5 0<|M s.p.ca,.os 10 3 0<|M s.p.mi,.os 11 3 0<|M s.p.me,.os 12 4 0<|M s.p.dm,.os 13 6 0<|M s.p.lk,.os 14 1 0<|M s.p.dr,.os 15 1 0<|M s.p.tg,.v<|ag J s.ev.ek,.v<|ag J s.ev.en,.v<|ag J s.ev.em,.v<|ag J s.ev.c1,.v<|ag J s.ev.c2,.v<|ag J s.ev.c3,.v<|ag J s.ev.c4,.v<|ag J s.ev.c5,.v<|.bool s.ev.d1,.v<|ag J s.ev.d2,.v<|ag J s.ev.d3,.v<|ag J s.ev.d4,.v<|.slice aj 0 0],83,.cl,X⟩,bDd,⟨[.v<|.slice aj 0 0,.v<|.slice aj 0 0,.v<|.slice aj 0 0,.v<|.slice aj 0 0,.v<|.slice aj 0 0],28,.cl,X⟩,⟨[.os 20 11 0<|M s.o,s.B9,s.BV,s.B1,s.BW],28,.cl,X⟩,bV 62 AR s.o],λv b=>⟨AJ v 3,AJ v 4,rB b 16 4 0 6 7 8 9 10 11 12 13 14 15,rG b,AB .str b 19 1,AB AY b 19 2,AB AX b 19 3,AB AZ b 19 4,AV AR b 20⟩,nV,λs r=> {s with i:=r.i,o:=r.o},λs=>s,λ_ s=>s,[.exit 0],ZK,UC,jy⟩
abbrev z8:=SR.run
abbrev akS:=SR.exn
def Lx:aM:=[]
def asH:Aj:=kI Lx<|la 9 func23 C2<|l0 Lx
def aq8:Rq UC nV:=by
 intro s hI;refine ⟨λc1=>⟨?_,?_,?_,?_,A9,A9,A9,A9,A9,A9,A9,A9,A9,A9,A9,A9,?_,ak⟩,λc1=>⟨A9,A9,A9,A9,A9,A9,A9,A9,A9,A9,A9,A9,A9,ak⟩⟩
 all_goals ((obtain ⟨⟨h0,h1⟩,h2,h3,h4,h5⟩:=hI;have hl:M s.o=M s.p.cs:=dQ;(try simp only [AU] at c1);first|omega|exact ⟨rfl,rfl⟩ |exact ⟨rfl,AH⟩))
def aFP:SR.Ok:={}
def aDf:SR.Pf (tS):=⟨azf,λs h=>rfl,aug,aq8⟩
def ze:=s2 (b:=bN f55 0) aFP aDf Lx asH
def ala:Fi ZK UC tS akS z8:=LpD.fin aFP aDf
structure HC where
 p:PK
 ev:EW
def SG (s:HC):aD:=[.own 16 0]
def Uq (s:HC):aE:=[bDd,bDd,zB,bDd,bV 62 AR s.p.cs,bDd,bV 5 (.int aw) s.p.fl,bV 90 Ae s.p.ra,bV 94 Al s.p.st,bV 46 AL s.p.ca,bV 74 Ap s.p.mi,bV 66 Az s.p.me,bV 48 Aq s.p.dm,bV 99 Au s.p.lk,bV 3 A7 s.p.dr,bV 3 A7 s.p.tg,⟨[.os 4 11 0<|M s.p.cs,.xl .str s.p.os,.xl AY s.p.ks,.xl AX s.p.gs,.xl AZ s.p.bs,.v<|ag J s.p.tk,.v<|.bool s.p.up,.xl AL s.p.ls,.v<|ag J s.p.se,.os 6 1 0<|M s.p.fl,.os 7 2 0<|M s.p.ra,.v<|ag J s.p.nx,.os 8 4 0<|M s.p.st,.os 9 5 0<|M s.p.ca,.os 10 3 0<|M s.p.mi,.os 11 3 0<|M s.p.me,.os 12 4 0<|M s.p.dm,.os 13 6 0<|M s.p.lk,.os 14 1 0<|M s.p.dr,.os 15 1 0<|M s.p.tg,.v<|ag J s.ev.ek,.v<|ag J s.ev.en,.v<|ag J s.ev.em,.v<|ag J s.ev.c1,.v<|ag J s.ev.c2,.v<|ag J s.ev.c3,.v<|ag J s.ev.c4,.v<|ag J s.ev.c5,.v<|.bool s.ev.d1,.v<|ag J s.ev.d2,.v<|ag J s.ev.d3,.v<|ag J s.ev.d4,.v<|.slice aj 0 0],83,.cl,X⟩,bDd]
def wO (s:HC):MS:=(⟨((M s.p.tg:aC):Y),0,s.p,s.ev,s.p.os,s.p.ks,s.p.gs,s.p.bs,cpC s.p.cs⟩:MS)
structure TM where
 so:aF
 sk:aP
 sg:aG
 sb:aQ
 p:PK
 ev:EW
 o:aK
def ab3 (s:TM):LV:=.agg [.os 18 11 0<|M s.o,s.so,s.sk,s.sg,s.sb]
def acS (s:TM):aE:=[bDd,bDd,zB,bDd,bV 62 AR s.p.cs,bDd,bV 5 (.int aw) s.p.fl,bV 90 Ae s.p.ra,bV 94 Al s.p.st,bV 46 AL s.p.ca,bV 74 Ap s.p.mi,bV 66 Az s.p.me,bV 48 Aq s.p.dm,bV 99 Au s.p.lk,bV 3 A7 s.p.dr,bV 3 A7 s.p.tg,⟨[.os 4 11 0<|M s.p.cs,.xl .str s.p.os,.xl AY s.p.ks,.xl AX s.p.gs,.xl AZ s.p.bs,.v<|ag J s.p.tk,.v<|.bool s.p.up,.xl AL s.p.ls,.v<|ag J s.p.se,.os 6 1 0<|M s.p.fl,.os 7 2 0<|M s.p.ra,.v<|ag J s.p.nx,.os 8 4 0<|M s.p.st,.os 9 5 0<|M s.p.ca,.os 10 3 0<|M s.p.mi,.os 11 3 0<|M s.p.me,.os 12 4 0<|M s.p.dm,.os 13 6 0<|M s.p.lk,.os 14 1 0<|M s.p.dr,.os 15 1 0<|M s.p.tg,.v<|ag J s.ev.ek,.v<|ag J s.ev.en,.v<|ag J s.ev.em,.v<|ag J s.ev.c1,.v<|ag J s.ev.c2,.v<|ag J s.ev.c3,.v<|ag J s.ev.c4,.v<|ag J s.ev.c5,.v<|.bool s.ev.d1,.v<|ag J s.ev.d2,.v<|ag J s.ev.d3,.v<|ag J s.ev.d4,.v<|.slice aj 0 0],83,.cl,X⟩,bDd,bV 62 AR s.o]
def Yc (s:HC):T TM:=letI a:=((M s.p.cs:aC):Y);.rm 96 a<|.rz s.p.cs<|.rc a (ByteArray.empty,((0:Y),((0:Y),((0:Y),(((0:Y),(0:Y)),((0:Y),((0:Y),((0:Y),((0:Y),(0:Y)))))))))) (M<|AI s.p.cs)<|.rl s.p.tg<|.rl s.p.cs<|.rl s.p.fl<|.rl s.p.ra<|.pb s.p<|.re a.toNat (cpC s.p.cs)<|.req (SR.q<|wO s)<|.rl s.p.cs<|.rl s.p.fl<|.rl s.p.ra<|.pb s.p<|.ok<|⟨s.p.os,s.p.ks,s.p.gs,s.p.bs,s.p,s.ev,(z8<|wO s).o⟩
def Tx (s:HC):Prop:=M s.p.tg=M s.p.cs/\M s.p.tg<=1000
def ab2 (s:HC):TM:=⟨s.p.os,s.p.ks,s.p.gs,s.p.bs,s.p,s.ev,El s.p.cs s.p.tg<|M s.p.tg⟩
def cA:C4 HC TM:=⟨SG,Uq,λv b=>⟨rB b 16 4 0 6 7 8 9 10 11 12 13 14 15,rG b⟩,Tx,[0,1,3,5,17],[],ab3,acS,ab2⟩
abbrev aLk (s:HC):Prop:=Tx s/\SG s=SG s/\Uq s=Uq s
def aG1:Aj:=kI Lx<|la 4 func55 ze<|la 9 func23 C2<|l0 Lx
def aLj:aL3:=addL 55 18 4 (SR.lp)<|addL 23 0 9 (Eb.lp)<|unrL prog AO Lx 20 2
def agz:LLok prog AO aLj:=addL_ok func55 rfl AM ze<|addL_ok func23 rfl AM C2<|unrL_ok<|gk Lx
def arI (s:HC):((stepH prog AO Lx aLj aG1).k 55 (SG s)<|Uq s).bind (λq=>canT (M<|Uq s) [0] [] .normal (q.1::SG s) q.2)=(Yc s).mp (λs2=>⟨.normal,M (SG s)+1,[ab3 s2],acS s2,U⟩):=AM
def ao9 (s:HC) (hE:Tx s):(Yc s).all (λq=>q=ab2 s):=by
 obtain ⟨ht,hn⟩:=hE
 have hA:ZK (wO s):=⟨rfl,rfl,ht,aJp,X7 _⟩
 obtain ⟨_,_,_,q2⟩:=ala _ hA;unfold Yc;simp only [D5,X7,q2]
 repeat (refine ⟨A8,?_⟩)
 refine ⟨⟨hA,rfl,rfl⟩,?_⟩
 repeat (refine ⟨AH,?_⟩)
 rfl
def aGh:CSound prog AO 55 cA.m:=C4.sound (D:=cA) (t:=Yc) (gk Lx) agz aG1.h arI λs hE=>⟨ao9 s hE⟩
structure Im where
 xs:aN
 (n i:Y)
 p:PK
 ev:EW
def Ya (s:Im):T (Rd Im):=letI c:=An s.xs s.i;letI e:=AA<|s.i+1;letI a:=((AA<|s.p.tk+((AA<|(AA<|7*s.p.tk)+(AA<|3*c.2.1)).tmod 5)),c);letI b:=CT s.p.se s.p.fl c s.p.tk;letI d:=(AA<|(M b:Y)-1);.br (an<|s.i<s.n) (.ix s.i (M s.xs)<|.br ((Df s.p.ls c) !=0) (.rl s.p.cs<|.rl s.p.st<|.rl s.p.ca<|.rl s.p.mi<|.rl s.p.me<|.rl s.p.lk<|.rl s.p.dr<|.rl s.p.tg<|.nx {s with i:=e})<|.req (As s.p.fl)<|.br ((D9 s.p.se s.p.fl c s.p.tk) !=0) (.rl s.p.cs<|.rl s.p.st<|.rl s.p.ca<|.rl s.p.mi<|.rl s.p.me<|.rl s.p.lk<|.rl s.p.dr<|.rl s.p.tg<|.nx {s with i:=e})<|.ix d (M b)<|.req ((5:Y)≠0)<|.rb (M s.p.lk) (M<|[a]) 48<|.rl s.p.cs<|.rl s.p.st<|.rl s.p.ca<|.rl s.p.mi<|.rl s.p.me<|.re (M s.p.lk+M ([a])) (s.p.lk++([a]))<|.rl s.p.dr<|.rl s.p.tg<|.nx {s with i:=e,p.ls:=HM s.p.ls c,p.se:=(HP b d).1,p.fl:=(HP b d).2,p.nx:=AA<|c.1+1,p.lk:=s.p.lk++([a])})<|.rl s.p.cs<|.rl s.p.st<|.rl s.p.ca<|.rl s.p.mi<|.rl s.p.me<|.rl s.p.lk<|.rl s.p.dr<|.rl s.p.tg<|.so (.exit 0) s
def Hx (p:PK) (xs:aN):PK:=letI a:=(xs.foldl (HG p.tk) ⟨p.ls,p.se,p.fl,p.nx,p.lk⟩);{p with ls:=a.ls,se:=a.se,fl:=a.fl,nx:=a.nx,lk:=a.lk}
def DG {a b:Y}(h:(a !=b)=X):a=b:=A8
def fz {p:PK}{x:Le}(h:As p.fl/\M p.fl<=5000) (hE:D9 p.se p.fl x p.tk=0):letI a:=CT p.se p.fl x p.tk;AA ((M a:Y)-1)=(M a:Y)-1/\0<M a:=by
 obtain ⟨e1,e2⟩:=amk hE
 have h1:=ahD (show EI 512 2048 (p.se,p.fl) from ⟨e1,e2,h.1⟩) hE
 have h2:=Mk.2<|(aLz (x:=x) (t:=p.tk) (show EI p.se (M p.fl) (p.se,p.fl) from ⟨rfl,rfl,h.1⟩)).2 hE
 exact ⟨AG,h2⟩
def avx {se:Y}{fl:aB}{x:Le}{t:Y}(h:D9 se fl x t=0):0<=x.1/\x.1<=1000000:=by
 unfold D9 at h;split at h
 ·grind
 ·split at h
  ·cases h
  ·rename_i h1
   have:Cj x=true:=by
    cases e:Cj x
    ·grind
    ·rfl
   have:=RK.1 this
   omega
def at6 {l:aN}{i:Y}(h0:0<=i) (h:i<M l):An l i∈l:=NA h0 h
def auU {t c:Y}(ht:0<=t/\t<=1000000) (hc:0<=c/\c<=100):AA (t+(AA<|AA (7*t)+AA (3*c)).tmod 5)=t+(7*t+3*c).tmod 5:=by
 rw [AG (x:=7*t),AG (x:=3*c),AG (x:=7*t+3*c)]
 have:=Int.tmod_nonneg 5 (show 0<=7*t+3*c by omega)
 have:=Int.tmod_lt_of_pos (7*t+3*c) (show (0:Y)<5 by decide)
 exact AG
def Tt (s:Im):Prop:=s.i=0/\s.n=(M s.xs:Y)/\s.n<=16/\(∀x∈s.xs,0<=x.2.1/\x.2.1<=100)/\(0<=s.p.tk/\s.p.tk<=1000000)/\(As s.p.fl/\M s.p.fl<=5000)/\(M s.p.lk:Y)<=17000000+s.i
def Yv (s:Im):Prop:=(0<=s.i/\s.i<=s.n)/\s.n=(M s.xs:Y)/\s.n<=16/\(∀x∈s.xs,0<=x.2.1/\x.2.1<=100)/\(0<=s.p.tk/\s.p.tk<=1000000)/\(As s.p.fl/\M s.p.fl<=5000)/\(M s.p.lk:Y)<=17000000+s.i
def XJ (s:Im):aC:=(s.n-s.i).toNat
def ack (x:Ex) (s s':Im):Prop:=True
def azP:∀s,Tt s->Yv s:=by
 exact aJ4
def auP:Da Yv XJ ack Ya:=by
 intro s hI;unfold Ya;dsimp only [T.rd,T.rl,T.rv];obtain ⟨⟨h0,h1⟩,h2,h3,h4,h5,h6,h7⟩:=hI;refine allR_ite (λc1=>allR_ite (λc2=>?_) λc2=>allR_ite (λc3=>?_) λc3=>?_) λc1=>trivial
 all_goals have c1:s.i<s.n:=AQ
 all_goals rw [AG (x:=s.i+1)]
 iterate 2
  ·exact ⟨⟨⟨AP,AP⟩,h2,h3,h4,h5,h6,AP⟩,by simp only [XJ];omega⟩
 ·rw [(fz h6<|DG c3).1]
  exact ⟨⟨⟨AP,AP⟩,h2,h3,h4,h5,z3 h6.1 h6.2<|DG c3,by simp only [Av,BB,BG];omega⟩,by simp only [XJ];omega⟩
def Q0:LpD Im:=⟨18,85,[0,75,76,77],[.pc 16 7 AL,.kb 5,.pc 16 9<|.int aw,.kb 6,.pc 16 10 Ae,.kb 7,.pc 16 16 Aq,.kb 12,.ms 0 17],λs=>[.own 16 0,s.xs,s.n,s.i],λs=>[bDd,bDd,zB,bDd,bV 62 AR s.p.cs,bDd,bDd,bDd,bV 94 Al s.p.st,bV 46 AL s.p.ca,bV 74 Ap s.p.mi,bV 66 Az s.p.me,bDd,⟨[],99,.dead,X⟩,bV 3 A7 s.p.dr,bV 3 A7 s.p.tg,⟨[.os 4 11 0<|M s.p.cs,.xl .str s.p.os,.xl AY s.p.ks,.xl AX s.p.gs,.xl AZ s.p.bs,.v<|ag J s.p.tk,.v<|.bool s.p.up,.xl AL s.p.ls,.v<|ag J s.p.se,.xl (.int aw) s.p.fl,.xl Ae s.p.ra,.v<|ag J s.p.nx,.os 8 4 0<|M s.p.st,.os 9 5 0<|M s.p.ca,.os 10 3 0<|M s.p.mi,.os 11 3 0<|M s.p.me,.xl Aq s.p.dm,.os 18 6 0<|M s.p.lk,.os 14 1 0<|M s.p.dr,.os 15 1 0<|M s.p.tg,.v<|ag J s.ev.ek,.v<|ag J s.ev.en,.v<|ag J s.ev.em,.v<|ag J s.ev.c1,.v<|ag J s.ev.c2,.v<|ag J s.ev.c3,.v<|ag J s.ev.c4,.v<|ag J s.ev.c5,.v<|.bool s.ev.d1,.v<|ag J s.ev.d2,.v<|ag J s.ev.d3,.v<|ag J s.ev.d4,.v<|.slice aj 0 0],83,.cl,X⟩,bDd,bV 99 Au s.p.lk],λv b=>⟨Ag AL v 1,AJ v 2,AJ v 3,rB b 16 4 0 0 0 8 9 10 11 0 18 14 15,rG b⟩,Ya,λs r=> {s with i:=r.i,p.ls:=r.p.ls,p.se:=r.p.se,p.fl:=r.p.fl,p.nx:=r.p.nx,p.lk:=r.p.lk},λs=>s,λ_ s=>s,[.exit 0],Tt,Yv,XJ⟩
abbrev WQ:=Q0.run
abbrev akM:=Q0.exn
def mJ:aM:=[XT,aCS,aLo,aa0]
def asG:Aj:=FC mJ (la 9 func23 C2<|l0 mJ) [⟨55,cA.m,aGh⟩]
def aqg:Rq Yv Ya:=by
 intro s hI;refine ⟨λc1=>⟨?_,λc2=>⟨A9,A9,A9,A9,A9,A9,A9,A9,ak⟩,λc2=>⟨?_,λc3=>⟨A9,A9,A9,A9,A9,A9,A9,A9,ak⟩,λc3=>⟨?_,?_,?_,A9,A9,A9,A9,A9,?_,A9,A9,ak⟩⟩⟩,λc1=>⟨A9,A9,A9,A9,A9,A9,A9,A9,ak⟩⟩
 all_goals ((obtain ⟨⟨h0,h1⟩,h2,h3,h4,h5,h6,h7⟩:=hI;simp only [AU] at c1;first|omega|exact ⟨rfl,rfl⟩ |exact h6.1|(simp only [BB,BG,Av];omega) |(simp only [Av,BB,BG,DR];done) |(rw [(fz h6<|DG c3).1];have:=(fz h6<|DG c3).2;omega)))
def aFI:Q0.Ok:={}
def aDY:Q0.Pf (ack):=⟨azP,λs h=>rfl,auP,aqg⟩
def zc:=s2 (b:=bN f39 0) aFI aDY mJ asG
def aBY:Rs Tt akM WQ (λs:Im=>Hx s.p<|s.xs.drop s.i.toNat) (λx s' (v:PK)=>x=.exit 0/\s'.p=v):=CM aFI aDY (λs hI=>by
  obtain ⟨⟨h0,h1⟩,h2,h3,h4,h5,h6,h7⟩:=hI;refine allR_ite (λc1=>?_) λc1=>?_
  ·have c1:s.i<s.n:=A8
   have e:=(On h0 (show s.i<(M s.xs:Y) by omega)).1
   rw [AG (x:=s.i+1),e];refine allR_ite (λc2=>?_) λc2=>allR_ite (λc3=>?_) λc3=>?_
   ·show Hx s.p _=Hx s.p _
    unfold Hx;rw [IJ,show HG s.p.tk ⟨s.p.ls,s.p.se,s.p.fl,s.p.nx,s.p.lk⟩ (An s.xs s.i)=⟨s.p.ls,s.p.se,s.p.fl,s.p.nx,s.p.lk⟩ from AE λh=>DP.1 c2 h.1]
   ·show Hx s.p _=Hx s.p _
    unfold Hx;rw [IJ,show HG s.p.tk ⟨s.p.ls,s.p.se,s.p.fl,s.p.nx,s.p.lk⟩ (An s.xs s.i)=⟨s.p.ls,s.p.se,s.p.fl,s.p.nx,s.p.lk⟩ from AE λh=>DP.1 c3 h.2]
   ·have hx:=h4 _ (at6 h0 (show s.i<(M s.xs:Y) by omega))
    have hn:=avx<|DG c3
    rw [(fz h6<|DG c3).1,auU h5 hx,AG (x:=(An s.xs s.i).1+1)]
    show Hx _ _=Hx s.p _
    conv=>rhs;unfold Hx
    rw [IJ,show HG s.p.tk ⟨s.p.ls,s.p.se,s.p.fl,s.p.nx,s.p.lk⟩ (An s.xs s.i)=_ from AD ⟨DG c2,DG c3⟩];rfl
  ·have c1:s.n<=s.i:=A8
   refine ⟨rfl,?_⟩;rw [DD A0];rfl)
structure Hu where
 p:PK
 ev:EW
def Se (s:Hu):aD:=[.own 16 0]
def Uk (s:Hu):aE:=[bDd,bDd,zB,bDd,bV 62 AR s.p.cs,bDd,bV 5 (.int aw) s.p.fl,bV 90 Ae s.p.ra,bV 94 Al s.p.st,bV 46 AL s.p.ca,bV 74 Ap s.p.mi,bV 66 Az s.p.me,bV 48 Aq s.p.dm,bV 99 Au s.p.lk,bV 3 A7 s.p.dr,bV 3 A7 s.p.tg,⟨[.os 4 11 0<|M s.p.cs,.xl .str s.p.os,.xl AY s.p.ks,.xl AX s.p.gs,.xl AZ s.p.bs,.v<|ag J s.p.tk,.v<|.bool s.p.up,.xl AL s.p.ls,.v<|ag J s.p.se,.os 6 1 0<|M s.p.fl,.os 7 2 0<|M s.p.ra,.v<|ag J s.p.nx,.os 8 4 0<|M s.p.st,.os 9 5 0<|M s.p.ca,.os 10 3 0<|M s.p.mi,.os 11 3 0<|M s.p.me,.os 12 4 0<|M s.p.dm,.os 13 6 0<|M s.p.lk,.os 14 1 0<|M s.p.dr,.os 15 1 0<|M s.p.tg,.v<|ag J s.ev.ek,.v<|ag J s.ev.en,.v<|ag J s.ev.em,.v<|ag J s.ev.c1,.v<|ag J s.ev.c2,.v<|ag J s.ev.c3,.v<|ag J s.ev.c4,.v<|ag J s.ev.c5,.v<|.bool s.ev.d1,.v<|ag J s.ev.d2,.v<|ag J s.ev.d3,.v<|ag J s.ev.d4,.v<|.slice aj 0 0],83,.cl,X⟩,bDd]
def fL (s:Hu):Im:=letI b:=AI<|El s.p.cs s.p.tg<|M s.p.tg;letI c:=Bx s.p.ls s.p.tk;letI a:=Iy b s.p.os s.p.ks s.p.gs s.p.bs c (AI s.p.ra) (AI s.p.dm) s.p.tk s.p.nx;(⟨a,(M a:Y),0,{s.p with ls:=c,fl:=AI s.p.fl,ra:=IA b s.p.os s.p.ks s.p.gs s.p.bs c (AI s.p.ra) (AI s.p.dm) s.p.tk s.p.nx,dm:=AI s.p.dm},s.ev⟩:Im)
def fK (s:Hu):Im:=letI b:=AI<|El s.p.cs s.p.tg<|M s.p.tg;letI a:=Iy b s.p.os s.p.ks s.p.gs s.p.bs s.p.ls (AI s.p.ra) (AI s.p.dm) s.p.tk s.p.nx;(⟨a,(M a:Y),0,{s.p with fl:=AI s.p.fl,ra:=IA b s.p.os s.p.ks s.p.gs s.p.bs s.p.ls (AI s.p.ra) (AI s.p.dm) s.p.tk s.p.nx,dm:=AI s.p.dm},s.ev⟩:Im)
structure Tp where
 p:PK
 ev:EW
def abS (s:Tp):LV:=.v<|.tuple #[]
def acN (s:Tp):aE:=[bDd,bDd,zB,bDd,bV 62 AR s.p.cs,bDd,bDd,bDd,bV 94 Al s.p.st,bV 46 AL s.p.ca,bV 74 Ap s.p.mi,bV 66 Az s.p.me,bDd,bDd,bV 3 A7 s.p.dr,bV 3 A7 s.p.tg,⟨[.os 4 11 0<|M s.p.cs,.xl .str s.p.os,.xl AY s.p.ks,.xl AX s.p.gs,.xl AZ s.p.bs,.v<|ag J s.p.tk,.v<|.bool s.p.up,.xl AL s.p.ls,.v<|ag J s.p.se,.xl (.int aw) s.p.fl,.xl Ae s.p.ra,.v<|ag J s.p.nx,.os 8 4 0<|M s.p.st,.os 9 5 0<|M s.p.ca,.os 10 3 0<|M s.p.mi,.os 11 3 0<|M s.p.me,.xl Aq s.p.dm,.xl Au s.p.lk,.os 14 1 0<|M s.p.dr,.os 15 1 0<|M s.p.tg,.v<|ag J s.ev.ek,.v<|ag J s.ev.en,.v<|ag J s.ev.em,.v<|ag J s.ev.c1,.v<|ag J s.ev.c2,.v<|ag J s.ev.c3,.v<|ag J s.ev.c4,.v<|ag J s.ev.c5,.v<|.bool s.ev.d1,.v<|ag J s.ev.d2,.v<|ag J s.ev.d3,.v<|ag J s.ev.d4,.v<|.slice aj 0 0],83,.cl,X⟩,bDd]
def Xo (s:Hu):T Tp:=letI a:=El s.p.cs s.p.tg<|M s.p.tg;letI b:=AI s.p.dm;letI c:=Bx s.p.ls s.p.tk;letI d:=WQ<|fL s;letI e:=WQ<|fK s;letI f:=AI s.p.ra;.br (!s.p.up) (.rz s.p.fl<|.rz s.p.ra<|.rz s.p.dm<|.rz s.p.lk<|.pd s.p<|.ok<|⟨{s.p with fl:=AI s.p.fl,ra:=AI s.p.ra,dm:=AI s.p.dm,lk:=AI s.p.lk},s.ev⟩)<|.br ((Cw s.p.ls s.p.tk)==0) (.rl s.p.cs<|.rl s.p.fl<|.rl s.p.ra<|.pb s.p<|.req (aLk (⟨{s.p with ls:=Bx s.p.ls s.p.tk},s.ev⟩:HC))<|.rv (.xl AL c)<|.rv (.os 7 2 0<|M s.p.ra)<|.rv (.os 12 4 0<|M s.p.dm)<|.rv (.v<|ag J s.p.tk)<|.rv (.v<|ag J s.p.nx)<|.rz a<|.rz s.p.ra<|.rz s.p.dm<|.req (M b<=19)<|.br ((deE (AI a) s.p.os s.p.ks s.p.gs s.p.bs c f b s.p.tk s.p.nx) !=0) (.rz s.p.fl<|.rz s.p.ra<|.rz s.p.dm<|.rz s.p.lk<|.pd s.p<|.ok<|⟨{s.p with ls:=c,fl:=AI s.p.fl,ra:=AI s.p.ra,dm:=AI s.p.dm,lk:=AI s.p.lk},s.ev⟩)<|.rz s.p.fl<|.rz s.p.dm<|.rl s.p.cs<|.rl s.p.st<|.rl s.p.ca<|.rl s.p.mi<|.rl s.p.me<|.rl s.p.lk<|.rl s.p.dr<|.rl s.p.tg<|.req (Q0.q<|fL s)<|.rz d.p.lk<|.pd s.p<|.ok<|⟨{s.p with ls:=d.p.ls,se:=d.p.se,fl:=d.p.fl,ra:=IA (AI a) s.p.os s.p.ks s.p.gs s.p.bs c f b s.p.tk s.p.nx,nx:=d.p.nx,dm:=b,lk:=AI d.p.lk},s.ev⟩)<|.rl s.p.cs<|.rl s.p.fl<|.rl s.p.ra<|.pb s.p<|.req (aLk (⟨s.p,s.ev⟩:HC))<|.rv (.xl AL s.p.ls)<|.rv (.os 7 2 0<|M s.p.ra)<|.rv (.os 12 4 0<|M s.p.dm)<|.rv (.v<|ag J s.p.tk)<|.rv (.v<|ag J s.p.nx)<|.rz a<|.rz s.p.ra<|.rz s.p.dm<|.req (M b<=19)<|.br ((deE (AI a) s.p.os s.p.ks s.p.gs s.p.bs s.p.ls f b s.p.tk s.p.nx) !=0) (.rz s.p.fl<|.rz s.p.ra<|.rz s.p.dm<|.rz s.p.lk<|.pd s.p<|.ok<|⟨{s.p with fl:=AI s.p.fl,ra:=AI s.p.ra,dm:=AI s.p.dm,lk:=AI s.p.lk},s.ev⟩)<|.rz s.p.fl<|.rz s.p.dm<|.rl s.p.cs<|.rl s.p.st<|.rl s.p.ca<|.rl s.p.mi<|.rl s.p.me<|.rl s.p.lk<|.rl s.p.dr<|.rl s.p.tg<|.req (Q0.q<|fK s)<|.rz e.p.lk<|.pd s.p<|.ok<|⟨{s.p with ls:=e.p.ls,se:=e.p.se,fl:=e.p.fl,ra:=IA (AI a) s.p.os s.p.ks s.p.gs s.p.bs s.p.ls f b s.p.tk s.p.nx,nx:=e.p.nx,dm:=b,lk:=AI e.p.lk},s.ev⟩
def ae6 {t:Y}{xs:aN}{s:SN}:∀k,k<=M xs->Jo t xs s k=(xs.take k).foldl (HG t) s
 |0,_=>rfl
 |k+1,h=>by
  rw [Jo,ae6 k A0,VI A0,List.foldl_append];rw [show An xs (k:Y)=xs[k]' A0 from Ri A0];rfl
def aeS {p:PK}:p.sn1=p.dL.foldl (HG p.tk) p.Gf:=by
 unfold PK.sn1;rw [ae6 _<|Ar _,Cc]
def uJ (s:Hu):Prop:=JP s.p
def X9 (s:Hu):Tp:=⟨PK.AK s.p,s.ev⟩
def ML:C4 Hu Tp:=⟨Se,Uk,λv b=>⟨rB b 16 4 0 6 7 8 9 10 11 12 13 14 15,rG b⟩,uJ,[0,1,3,5,17],[.pc 16 7 AL,.kb 5,.pc 16 9<|.int aw,.kb 6,.pc 16 10 Ae,.kb 7,.pc 16 16 Aq,.kb 12,.pc 16 17 Au,.kb 13],abS,acN,X9⟩
abbrev auy (s:Hu):Prop:=uJ s/\Se s=Se s/\Uk s=Uk s
def Rp:aM:=[XT,aCS,aLo,aa0]
def aG0:Aj:=FC Rp (la 9 func39 zc<|la 9 func23 C2<|l0 Rp) [⟨55,cA.m,aGh⟩]
def aLe:aL3:=addL 39 18 9 (Q0.lp)<|addL 23 0 9 (Eb.lp)<|unrL prog AO Rp 20 2
def agu:LLok prog AO aLe:=addL_ok func39 rfl AM zc<|addL_ok func23 rfl AM C2<|unrL_ok<|gk Rp
def ar9 (s:Hu):((stepH prog AO Rp aLe aG0).k 39 (Se s)<|Uk s).bind (λq=>canT (M<|Uk s) [0] [.pc 16 7 AL,.kb 5,.pc 16 9<|.int aw,.kb 6,.pc 16 10 Ae,.kb 7,.pc 16 16 Aq,.kb 12,.pc 16 17 Au,.kb 13] .normal (q.1::Se s) q.2)=(Xo s).mp (λs2=>⟨.normal,M (Se s)+1,[abS s2],acN s2,U⟩):=AM
def ao4 (s:Hu) (hE:uJ s):(Xo s).all (λq=>q=X9 s):=by
 obtain ⟨hV,hR⟩:=hE
 have hs:=CV.1 hV.site
 have hdm:=hV.dm
 have ht:=hV.Ew
 have htk:=hV.tk
 have q2:El s.p.cs s.p.tg (M s.p.tg)=s.p.Fh:=rfl
 unfold Xo;simp only [D5,X7,q2];refine ⟨λc=>?_,λc=>?_⟩
 ·have c:s.p.up=false:=EO
  repeat (refine ⟨CA,?_⟩)
  show _=_
  unfold X9;rw [show PK.AK s.p=s.p from AD c]
 have hu:¬s.p.up=false:=by intro h;rw [h] at c;cases c
 refine ⟨λhx=>?_,λhx=>?_⟩
 ·have hxs:G2 s.p.ls s.p.tk=Bx s.p.ls s.p.tk:=AD (eq_of_beq hx)
  have hA:Tx (⟨{s.p with ls:=Bx s.p.ls s.p.tk},s.ev⟩:HC):=⟨ht,aKt⟩
  have e1:deE s.p.Fh s.p.os s.p.ks s.p.gs s.p.bs (Bx s.p.ls s.p.tk) s.p.ra s.p.dm s.p.tk s.p.nx=s.p.dE:=aKz
  have e2:IA s.p.Fh s.p.os s.p.ks s.p.gs s.p.bs (Bx s.p.ls s.p.tk) s.p.ra s.p.dm s.p.tk s.p.nx=s.p.dR:=aLA
  have e3:Iy s.p.Fh s.p.os s.p.ks s.p.gs s.p.bs (Bx s.p.ls s.p.tk) s.p.ra s.p.dm s.p.tk s.p.nx=s.p.dL:=aLB
  have hst:fL s=⟨s.p.dL,(M s.p.dL:Y),0,{s.p with ls:=Bx s.p.ls s.p.tk,ra:=s.p.dR},s.ev⟩:=by
   unfold fL;simp only [D5,q2,e2,e3]
  have hB:Tt ⟨s.p.dL,(M s.p.dL:Y),0,{s.p with ls:=Bx s.p.ls s.p.tk,ra:=s.p.dR},s.ev⟩:=by
   exact aHk
  have q3:=(aBY _ hB).2
  have q3:(WQ ⟨s.p.dL,(M s.p.dL:Y),0,{s.p with ls:=Bx s.p.ls s.p.tk,ra:=s.p.dR},s.ev⟩).p=Hx {s.p with ls:=Bx s.p.ls s.p.tk,ra:=s.p.dR} s.p.dL:=q3
  exact aHe
 ·have hxs:G2 s.p.ls s.p.tk=s.p.ls:=AE (Bt.1 hx)
  have hA:Tx (⟨{s.p with ls:=s.p.ls},s.ev⟩:HC):=⟨ht,aKt⟩
  have e1:deE s.p.Fh s.p.os s.p.ks s.p.gs s.p.bs (s.p.ls) s.p.ra s.p.dm s.p.tk s.p.nx=s.p.dE:=aKz
  have e2:IA s.p.Fh s.p.os s.p.ks s.p.gs s.p.bs (s.p.ls) s.p.ra s.p.dm s.p.tk s.p.nx=s.p.dR:=aLA
  have e3:Iy s.p.Fh s.p.os s.p.ks s.p.gs s.p.bs (s.p.ls) s.p.ra s.p.dm s.p.tk s.p.nx=s.p.dL:=aLB
  have hst:fK s=⟨s.p.dL,(M s.p.dL:Y),0,{s.p with ls:=s.p.ls,ra:=s.p.dR},s.ev⟩:=by
   unfold fK;simp only [D5,q2,e2,e3]
  have hB:Tt ⟨s.p.dL,(M s.p.dL:Y),0,{s.p with ls:=s.p.ls,ra:=s.p.dR},s.ev⟩:=by
   exact aHk
  have q3:=(aBY _ hB).2
  have q3:(WQ ⟨s.p.dL,(M s.p.dL:Y),0,{s.p with ls:=s.p.ls,ra:=s.p.dR},s.ev⟩).p=Hx {s.p with ls:=s.p.ls,ra:=s.p.dR} s.p.dL:=q3
  exact aHe
def P5:CSound prog AO 39 (upM [.pc 16 7 AL,.kb 5] ML.m):=af9<|C4.sound (D:=ML) (t:=Xo) (gk Rp) agu aG0.h ar9 λs hE=>⟨ao4 s hE⟩
def Dk {α:Type}(f:aC->α->α):aC->α->aC->α
 |_,s,0=>s
 |i,s,n+1=>Dk f (i+1) (f i s) n
def aAn {α:Type}{f:aC->α->α}:∀ {n i:aC}{s:α},Dk f i s (n+1)=f (i+n) (Dk f i s n)
 |0,_,_=>rfl
 |n+1,i,s=>by
  rw [Dk,aAn (n:=n) (i:=i+1),show i+1+n=i+(n+1) by omega]
  rfl
def Wz {α:Type}{f:aC->α->α}{F:aC->α}(h:∀k,F (k+1)=f k (F k)):∀n,Dk f 0 (F 0) n=F n
 |0=>rfl
 |n+1=>by rw [aAn,Wz h n,h,Ck]
def JG {α:Type}{f:aC->α->α}{s:α}{i n:Y}(h0:0<=i) (h:i<n):Dk f i.toNat s (n-i).toNat=Dk f (i+1).toNat (f i.toNat s) (n-(i+1)).toNat:=by
 rw [show (n-i).toNat=(n-(i+1)).toNat+1 by omega,Dk,show (i+1).toNat=i.toNat+1 by omega]
def fq {α:Type}{f:aC->α->α}{s:α}{i n:Y}(h:n<=i):Dk f i.toNat s (n-i).toNat=s:=by
 rw [show (n-i).toNat=0 by omega]
 rfl
def aAm {α:Type}{f:aC->List α->List α}(h:∀k s,M (f k s)=M s):∀ {n i:aC}{s:List α},M (Dk f i s n)=M s
 |0,_,_=>rfl
 |n+1,i,s=>(aAm h (n:=n) (i:=i+1)).trans<|h i s
def tk1 (gs:aG) (i:Y) (_:aC) (st:bf):bf:=C6 gs st i 8 0 0
def an2 {gs:aG}{st:bf}{i:Y}:∀n,Dk (tk1 gs i) 0 st n=No gs st i n:=Wz (F:=No gs st i) λ_=>rfl
def cnt1 (gs:aG) (dr:aB) (t:Y) (k:aC) (st:bf):bf:=if IG t (gi dr k)=0/\IG (t+1) (gi dr k)=0 then No gs st k (F4 (t+1) (gi dr k)-F4 t (gi dr k)).toNat else st
def auA {gs:aG}{dr:aB}{t:Y}{st:bf}:∀n,Dk (cnt1 gs dr t) 0 st n=Nu gs dr t st n:=Wz (F:=Nu gs dr t st) λ_=>rfl
def ay9 {gs:aG}{ca:aMc}{s:DW}:∀n,Dk (λk d=>I3 gs ca d (k:Y)) 0 s n=Gr gs ca s n:=Wz (F:=Gr gs ca s) λ_=>rfl
def VB (gs:aG) (tg am:aB) (k:aC) (cs:aK):aK:=if gi tg k>=(Aa cs k).2.2.1 then cs else
  if (an (M am=M gs)&&GA (cs.set k<|G3 (Aa cs k)<|gi tg k) gs am)=U then cs.set k (G3 (Aa cs k)<|gi tg k) else cs
def afR {gs:aG}{tg am:aB}{cs:aK}:∀n,Dk (VB gs tg am) 0 cs n=DH gs tg am cs n:=Wz (F:=DH gs tg am cs) λ_=>rfl
def aGb {c:Ca}{m:Mi}{p al:Y}:0<=DL c m p al/\DL c m p al<=7:=by
 unfold DL;split
 ·rename_i hB
  obtain ⟨hc,_,h1,h2,_⟩:=gH.1 hB
  have hc':=RS.1 hc
  unfold Fc;split
  ·omega
  ·exact w8 ⟨A0,A0⟩ ⟨h1,h2⟩
 ·omega
def aLx {c:Ca}{m:Mi}{p al:Y}:IntKind.u64.wrap (DL c m p al)=DL c m p al:=by
 have:=aGb (c:=c) (m:=m) (p:=p) (al:=al)
 exact aJB
variable {gs : List Ch} {ca : List Ca} {st : List St} {mi : List Mi} {me : List Me} {dw : List Int} {i : Int}
def abD (h:(BA ca i).2.2.1=0):I3 gs ca ⟨st,mi,me,dw⟩ i=⟨st,mi,me,dw⟩:=AD h
def ayA (h:¬(BA ca i).2.2.1=0) (h2:¬Gs (BA ca i) (Bz mi i) (AF gs i).2.2.1 (BH (AF gs i)<|BI st i)=0):I3 gs ca ⟨st,mi,me,dw⟩ i=⟨st,mi,me,dw⟩:=by
 unfold I3
 grind
def Sp (h:¬(BA ca i).2.2.1=0) (h2:Gs (BA ca i) (Bz mi i) (AF gs i).2.2.1 (BH (AF gs i)<|BI st i)=0):
  I3 gs ca ⟨st,mi,me,dw⟩ i=⟨if Di (BA ca i) (Bz mi i) (AF gs i).2.2.1 (BH (AF gs i)<|BI st i)>BH (AF gs i) (BI st i) then C6 gs st i 6 2 0 else st,mi.set i.toNat<|I9 (BA ca i) (Bz mi i) (AF gs i).2.2.1<|BH (AF gs i)<|BI st i,
   if Ei (FD me i) (Di (BA ca i) (Bz mi i) (AF gs i).2.2.1<|BH (AF gs i)<|BI st i) (cnt<|DL (BA ca i) (Bz mi i) (AF gs i).2.2.1<|BH (AF gs i)<|BI st i)=0 then me.set i.toNat (G7 (FD me i) (Di (BA ca i) (Bz mi i) (AF gs i).2.2.1<|BH (AF gs i)<|BI st i)<|cnt<|DL (BA ca i) (Bz mi i) (AF gs i).2.2.1<|BH (AF gs i)<|BI st i) else me,dw.set i.toNat<|Di (BA ca i) (Bz mi i) (AF gs i).2.2.1<|BH (AF gs i)<|BI st i⟩:=by
 unfold I3
 grind
def aan (t d:Y):0<=F4 t d/\F4 t d<=2000000:=by
 unfold F4;split
 ·rename_i h
  simp only [AS,C1] at h
  have h1:0<=t*(1000000+d):=GH A0 A0
  have h2:t*(1000000+d)<=1000000*2000000:=Int.mul_le_mul A0 A0 A0 A0
  omega
 ·omega
end Go.Proofs.YtjjcgjkagokchaaGreatDoor
namespace Go.Proofs.YtjjcgjkagokchaaGreatDoor
set_option maxRecDepth 100000
set_option maxHeartbeats 4000000
open Go.Proofs.Tryz
open Go.Sx
def aCD:aD->T LV
 | [.v (ag J r),.v (ag J m)]=> .req ((0<=r/\r<=2000000)/\0<=m/\m<=3000000) (.ok<|.v<|ag J<|m*r / 1000000)
 |_=> .no
def ayw:aM:=[]
def an3:=vo (S:=aCD) func106 ayw kN (λargs lv h=>by
 unfold aCD at h;split at h
 ·rename_i r m
  refine Af (.req ((1000000:Y)≠0)<|.ok<|AA<|(AA<|m*r).tdiv 1000000) ?_;obtain ⟨⟨⟨h1,h2⟩,h3,h4⟩,rfl⟩:=h
  have hm:0<=m*r/\m*r<=6000000000000:=⟨GH h3 h1,OH (QQ h2 h3) A0⟩
  refine ⟨A0,Am (λz=>LV.v<|ag J z) ?_⟩
  rw [AG (x:=m*r),Fo hm.1];exact AG
 ·cases h)
def aH2:aD->T LV
 | [.v (ag J t),.v (ag J d)]=> .tu #[F4 t d,IG t d]
 |_=> .no
def at1:aM:=[aCR,an3]
def T1:=vo (S:=aH2) func76 at1 kN (λargs lv h=>by
 unfold aH2 at h;split at h
 ·rename_i t d
  refine Af (letI a:=AA<|1000000+d;.br ((!(inB t 0 1000000)) ||((an<|d<(-200)) ||(an<|d>200))) (.tu #[(0:Y),(1:Y)])<|.req ((0<=a/\a<=2000000)/\0<=t/\t<=3000000)<|.tu #[ag J<|t*a / 1000000,(0:Y)]) ?_;obtain rfl:=h;unfold F4 IG;refine ⟨λc=>?_,λc=>?_⟩
  ·have:(inB t 0 1000000&&inB d (-200) 200)=false:=by
    cases ht:inB t 0 1000000
    ·rfl
    ·simp [ht] at c;simp [inB];omega
   rw [this];rfl
  ·have hh:inB t 0 1000000=U/\-200<=d/\d<=200:=by
    cases ht:inB t 0 1000000
    ·grind
    ·grind
   have:(inB t 0 1000000&&inB d (-200) 200)=true:=by rw [hh.1];simp [inB];omega
   have ht:=C1.1 hh.1
   rw [this,AG (x:=1000000+d)];exact ⟨⟨⟨A0,A0⟩,A0,A0⟩,rfl⟩
 ·cases h)
def aBO:aD->T LV
 | [.v (ag .u64 n)]=> .req (0<=n/\n<=7) (.ok<|cnt n)
 |_=> .no
def afk:BD prog AO (specsOf []) (inl prog AO (specsOf []) (unrL prog AO (specsOf []) 20 2) 9) noLoops f80 [.v<|ag .u64 0]=.ok (cnt 0):=AM
def afj:BD prog AO (specsOf []) (inl prog AO (specsOf []) (unrL prog AO (specsOf []) 20 2) 9) noLoops f80 [.v<|ag .u64 1]=.ok (cnt 1):=AM
def afi:BD prog AO (specsOf []) (inl prog AO (specsOf []) (unrL prog AO (specsOf []) 20 2) 9) noLoops f80 [.v<|ag .u64 2]=.ok (cnt 2):=AM
def afh:BD prog AO (specsOf []) (inl prog AO (specsOf []) (unrL prog AO (specsOf []) 20 2) 9) noLoops f80 [.v<|ag .u64 3]=.ok (cnt 3):=AM
def afg:BD prog AO (specsOf []) (inl prog AO (specsOf []) (unrL prog AO (specsOf []) 20 2) 9) noLoops f80 [.v<|ag .u64 4]=.ok (cnt 4):=AM
def aff:BD prog AO (specsOf []) (inl prog AO (specsOf []) (unrL prog AO (specsOf []) 20 2) 9) noLoops f80 [.v<|ag .u64 5]=.ok (cnt 5):=AM
def afc:BD prog AO (specsOf []) (inl prog AO (specsOf []) (unrL prog AO (specsOf []) 20 2) 9) noLoops f80 [.v<|ag .u64 6]=.ok (cnt 6):=AM
def afb:BD prog AO (specsOf []) (inl prog AO (specsOf []) (unrL prog AO (specsOf []) 20 2) 9) noLoops f80 [.v<|ag .u64 7]=.ok (cnt 7):=AM
def ajV {n:Y}(h1:0<=n) (h2:n<=7):BD prog AO (specsOf []) (inl prog AO (specsOf []) (unrL prog AO (specsOf []) 20 2) 9) noLoops f80 [.v<|ag .u64 n]=.ok (cnt n):=by
 rcases eight h1 h2 with e|e|e|e|e|e|e|e
 ·rw [e];exact afk
 ·rw [e];exact afj
 ·rw [e];exact afi
 ·rw [e];exact afh
 ·rw [e];exact afg
 ·rw [e];exact aff
 ·rw [e];exact afc
 ·rw [e];exact afb
def RY:VV 80 (uS f80 aBO):=fS func80 rfl (specs_ok (l:=[]) trivial) (inl_sound (specs_ok (l:=[]) trivial) (unrL_ok<|specs_ok (l:=[]) trivial) 9) (no_loops AM) (λargs lv h=>by
 unfold aBO at h;split at h
 ·rename_i n
  simp only [canL,canX];rw [ajV h.1.1 h.1.2];exact h.2
 ·cases h)
def L9:aM:=[]
def amh:aD->T LV:=λl=>BD prog AO L9 kN noLoops f161<|canL l
def anH:=vo (S:=amh) func161 L9 kN (λargs lv h=>by
 refine ⟨?_⟩
 assumption)
def amj:aD->T LV:=λl=>BD prog AO L9 kN noLoops f205<|canL l
def anK:=vo (S:=amj) func205 L9 kN (λargs lv h=>by
 refine ⟨?_⟩
 assumption)
def avN:aD->T LV:=λl=>BD prog AO L9 kN noLoops f203<|canL l
def aag:=vo (S:=avN) func203 L9 kN (λargs lv h=>by
 refine ⟨?_⟩
 assumption)
def abp:aM:=[anK]
def avM:aD->T LV:=λl=>BD prog AO (abp) kN noLoops f204<|canL l
def aaf:=vo (S:=avM) func204 abp kN (λargs lv h=>by
 refine ⟨?_⟩
 assumption)
def avL:aD->T LV:=λl=>BD prog AO L9 kN noLoops f206<|canL l
def aae:=vo (S:=avL) func206 L9 kN (λargs lv h=>by
 refine ⟨?_⟩
 assumption)
def avK:aD->T LV:=λl=>BD prog AO L9 kN noLoops f207<|canL l
def aLv:=vo (S:=avK) func207 L9 kN (λargs lv h=>by
 refine ⟨?_⟩
 assumption)
def abo:aM:=[aag,aaf,aae,aLv]
def amg:aD->T LV:=λl=>BD prog AO (abo) kN noLoops f162<|canL l
def anB:=vo (S:=amg) func162 abo kN (λargs lv h=>by
 refine ⟨?_⟩
 assumption)
def aBu:aD->T LV
 | [.xq 8 q0,.v (ag J p2),.v (ag J al)]=>(match ([q0 0,q0 1,q0 2,q0 3,q0 4,q0 5,q0 6,q0 7]:aD) with
  | [.v (ag J k),.v (ag J ph),.v (ag J mx),.v (ag J nd),.v (ag J dl),.xl (.int J) pil,.v (ag J tk),.v (ag J got)]=> .req (EJ (k,ph,mx,nd,dl)=U/\G6 (pil,tk,got)=U/\1<=p2/\p2<=7/\0<=al) (.tu #[Dy (k,ph,mx,nd,dl) (pil,tk,got) p2 al,Fc (k,ph,mx,nd,dl) (pil,tk,got) p2 al])
  |_=> .no)
 |_=> .no
def abn:aM:=[anH,anB,aag,aaf,aae,aLv]
def ajf (k ph mx nd dl:Y) (pil:aB) (tk got p2 al:Y):letI a:=BM J ph p2;letI c:=AA<|0-a;letI d:=(AA<|(M pil:Y)-dl);letI b:=gi pil d;BD prog AO (abn) kN noLoops f110 [xQ 8 [k,ph,mx,nd,dl,.xl A7 pil,tk,got],p2,al]=.br (((if k==2 then BM J a c else BM J ph p2)==0) ||(an<|got>=nd)) (.tu #[(0:Y),(0:Y)]) (.br (k==(0:Y)) (.br ((if al<mx then al else mx)==0) (.tu #[(0:Y),(0:Y)])<|.tu #[ag J (if al<mx then al else mx),ag J (if k==2 then BM J a c else BM J ph p2)])<|.br (k==(2:Y)) (.br ((if al<mx then al else mx)==0) (.tu #[(0:Y),(0:Y)])<|.tu #[ag J (if al<mx then al else mx),ag J (if k==2 then BM J a c else BM J ph p2)])<|.br (k==(1:Y)) (.br (dl==0) (.br ((if al<mx then al else mx)==0) (.tu #[(0:Y),(0:Y)])<|.tu #[ag J (if al<mx then al else mx),ag J (if k==2 then BM J a c else BM J ph p2)])<|.br (an<|d>=0) (.ix d (M pil)<|.br ((if (if b<al then b else al)<mx then if b<al then b else al else mx)==0) (.tu #[(0:Y),(0:Y)])<|.tu #[ag J (if (if b<al then b else al)<mx then if b<al then b else al else mx),ag J (if k==2 then BM J a c else BM J ph p2)])<|.br ((if (if (0:Y)<al then 0 else al)<mx then if (0:Y)<al then 0 else al else mx)==0) (.tu #[(0:Y),(0:Y)])<|.tu #[ag J (if (if (0:Y)<al then 0 else al)<mx then if (0:Y)<al then 0 else al else mx),ag J (if k==2 then BM J a c else BM J ph p2)])<|.br (k==(3:Y)) (.req (dl≠0)<|.req ((2:Y)≠0)<|.br (((AA<|tk.tdiv dl).tmod 2)==1) (.br ((if (0:Y)<mx then 0 else mx)==0) (.tu #[(0:Y),(0:Y)])<|.tu #[ag J (if (0:Y)<mx then 0 else mx),ag J (if k==2 then BM J a c else BM J ph p2)])<|.br ((if al<mx then al else mx)==0) (.tu #[(0:Y),(0:Y)])<|.tu #[ag J (if al<mx then al else mx),ag J (if k==2 then BM J a c else BM J ph p2)])<|.br (k==(4:Y)) (.br (al==0) (.br ((if (0:Y)<mx then 0 else mx)==0) (.tu #[(0:Y),(0:Y)])<|.tu #[ag J (if (0:Y)<mx then 0 else mx),ag J (if k==2 then BM J a c else BM J ph p2)])<|.br ((if mx<mx then mx else mx)==0) (.tu #[(0:Y),(0:Y)])<|.tu #[ag J (if mx<mx then mx else mx),ag J (if k==2 then BM J a c else BM J ph p2)])<|.no /-call of v -/):=AM
def anJ := vo (S:=aBu) func110 abn kN (λargs lv h=>by
 refine ⟨?_⟩;unfold aBu at h;split at h
 ·split at h
  case h_2=>cases h
  rename_i heq0;simp only [canL,canX];rw [Cn (n:=8) heq0];simp only [canL,canX];rw [ajf];rename_i p2 al _ k ph mx nd dl pil tk got;obtain ⟨⟨hc,hm,hp1,hp2,hal⟩,rfl⟩:=h
  have hc:=RS.1 hc
  have hm:=Wt.1 hm
  simp only at hc hm
  have hl:=adz (a:=ph) (b:=p2) ⟨A0,A0⟩ ⟨A0,A0⟩
  have e0:(if (k==2)=U then BM J (BM J ph p2) (AA<|0-BM J ph p2) else BM J ph p2)=Hz k ph p2:=by
   have hw:AA (0-BM J ph p2)=-land ph p2:=by
    have:BM J ph p2=land ph p2:=rfl
    rw [this,AG];omega
   rw [hw];unfold Hz land;simp only [Cb]
  have ew:AA ((M pil:Y)-dl)=(M pil:Y)-dl:=AG
  have et:AA (tk.tdiv dl)=tk.tdiv dl:=by
   rw [Fo A0]
   have h1:0<=tk / dl:=OG A0 A0
   have h2:tk / dl<=tk:=QO _ A0
   exact AG
  have hz:(Hz k ph p2=0\/nd<=got)->Dy (k,ph,mx,nd,dl) (pil,tk,got) p2 al=0:=λh=>by unfold Dy;rw [AD h]
  have hn:¬(Hz k ph p2=0\/nd<=got)->Dy (k,ph,mx,nd,dl) (pil,tk,got) p2 al=min mx (FX (k,ph,mx,nd,dl) (pil,tk,got) al):=λh=>by unfold Dy;rw [AE h]
  have w0:k≠1->k≠3->k≠4->FX (k,ph,mx,nd,dl) (pil,tk,got) al=al:=λh1 h2 h3=>by simp [FX,h1,h2,h3]
  have w1a:k=1->dl=0->FX (k,ph,mx,nd,dl) (pil,tk,got) al=al:=λh1 h2=>W3
  have w1b:k=1->dl≠0->0<=(M pil:Y)-dl->FX (k,ph,mx,nd,dl) (pil,tk,got) al=min al (gi pil<|(M pil:Y)-dl):=λh1 h2 h3=>by
   simp only [FX,h1,h2,BP,E4,VE,JA];rw [AD h3];rfl
  have w1c:k=1->dl≠0->(M pil:Y)-dl<0->FX (k,ph,mx,nd,dl) (pil,tk,got) al=min al 0:=λh1 h2 h3=>by
   simp only [FX,h1,h2,BP,E4,VE,JA];rw [AE A0]
  have w3a:k=3->(tk.tdiv dl).tmod 2=1->FX (k,ph,mx,nd,dl) (pil,tk,got) al=0:=λh1 h2=>W3
  have w3b:k=3->¬(tk.tdiv dl).tmod 2=1->FX (k,ph,mx,nd,dl) (pil,tk,got) al=al:=λh1 h2=>W3
  have w4a:k=4->al=0->FX (k,ph,mx,nd,dl) (pil,tk,got) al=0:=λh1 h2=>W3
  have w4b:k=4->al≠0->FX (k,ph,mx,nd,dl) (pil,tk,got) al=mx:=λh1 h2=>W3
  have ho1:Dy (k,ph,mx,nd,dl) (pil,tk,got) p2 al=0->Fc (k,ph,mx,nd,dl) (pil,tk,got) p2 al=0:=λh=>by unfold Fc;rw [AD h]
  have ho2:Dy (k,ph,mx,nd,dl) (pil,tk,got) p2 al≠0->Fc (k,ph,mx,nd,dl) (pil,tk,got) p2 al=Hz k ph p2:=λh=>by unfold Fc;rw [AE h]
  have fin:∀a o:Y,a=Dy (k,ph,mx,nd,dl) (pil,tk,got) p2 al->o=Fc (k,ph,mx,nd,dl) (pil,tk,got) p2 al->LV.v (.tuple #[ag J a,ag J o])=LV.v (.tuple #[ag J<|Dy (k,ph,mx,nd,dl) (pil,tk,got) p2 al,ag J<|Fc (k,ph,mx,nd,dl) (pil,tk,got) p2 al]):=λa o h1 h2=>sY
  simp only [e0,ew,et]
  clear e0 ew hl et
  generalize Dy (k,ph,mx,nd,dl) (pil,tk,got) p2 al=qA at*;generalize Fc (k,ph,mx,nd,dl) (pil,tk,got) p2 al=qO at*;generalize FX (k,ph,mx,nd,dl) (pil,tk,got) al=qw at*;generalize Hz k ph p2=qc at*;generalize gi pil ((M pil:Y)-dl)=qg at*;refine ⟨λc1=>?_,λc1=>?_⟩
  ·simp only [Cb,Bt,ne_eq,C5,EM,AU,CJ,JA,Mn] at*
   refine fin _ _ ?_ ?_<;>(clear fin w0 w1a w1b w1c w3a w3b w4a w4b;omega)
  ·refine ⟨λc2=>?_,λc2=>?_⟩
   ·refine ⟨λc3=>?_,λc3=>?_⟩
    ·exact cd
    ·exact cd
   ·refine ⟨λc3=>?_,λc3=>?_⟩
    ·refine ⟨λc4=>?_,λc4=>?_⟩
     ·exact cd
     ·exact cd
    ·refine ⟨λc4=>?_,λc4=>?_⟩
     ·refine ⟨λc5=>?_,λc5=>?_⟩
      ·refine ⟨λc6=>?_,λc6=>?_⟩
       ·exact cZ
       ·exact cZ
      ·refine ⟨λc6=>?_,λc6=>?_⟩
       ·refine ⟨?_,?_⟩
        ·simp only [Cb,Bt,ne_eq,C5,EM,AU,CJ,JA,Mn] at*
         (first|decide|(clear fin w0 w3a w3b w4a w4b;omega))
        ·exact aJC
       ·exact aJC
     ·refine ⟨λc5=>?_,λc5=>?_⟩
      ·refine ⟨?_,?_⟩
       ·exact aIt
       ·refine ⟨?_,?_⟩
        ·exact aIt
        ·refine ⟨λc6=>?_,λc6=>?_⟩
         ·exact aJD
         ·exact aJD
      ·refine ⟨λc6=>?_,λc6=>?_⟩
       ·refine ⟨λc7=>?_,λc7=>?_⟩
        ·exact aJE
        ·exact aJE
       ·exfalso
        simp only [Cb,Bt,ne_eq,C5,EM,AU,CJ,JA,Mn] at*
        clear fin hz hn ho1 ho2 w0 w1a w1b w1c w3a w3b w4a w4b
        omega
 ·cases h)
def aBo:aD->T LV
 | [.xq 8 q0,.v (ag J al),.v (ag J am),.v (ag J on)]=>(match ([q0 0,q0 1,q0 2,q0 3,q0 4,q0 5,q0 6,q0 7]:aD) with
  | [.v (ag J k),.v (ag J ph),.v (ag J mx),.v (ag J nd),.v (ag J dl),.xl (.int J) pil,.v (ag J tk),.v (ag J got)]=> .req (G6 (pil,tk,got)=U/\0<=am/\am<=80/\0<=on/\on<=7) (.ok<|.agg [.xl A7<|dwP pil al,.v<|ag J<|tk+1,.v<|ag J<|got+2300*am*cnt on])
  |_=> .no)
 |_=> .no
def abm:aM:=[RY]
def ajd (k ph mx nd dl:Y) (pil:aB) (tk got al am on:Y):letI a:=(AA<|(((0:Y).toNat+M pil+M ([al]):aC):Y)-21);letI b:=(aq (0:Y).toNat (0:Y));letI c:=IntKind.u64.wrap on;letI d:=(AA<|(M pil:Y)+1);letI e:=(b++pil)++([al]);letI f:=AA<|got+(AA<|(AA<|2300*am)*(cnt c));BD prog AO (abm) kN noLoops f111 [xQ 8 [k,ph,mx,nd,dl,.xl A7 pil,tk,got],al,am,on]=.req (0<=(0:Y)/\(0:Y)<=d/\8*d<=2^48/\d<2^63) (.ra (0:Y).toNat (M b) ((0:Y).toNat+M pil) 8<|.ra ((0:Y).toNat+M pil) (M<|b++pil) ((0:Y).toNat+M pil+M ([al])) 8<|.br (an<|(((0:Y).toNat+M pil+M ([al]):aC):Y)>21) (.req (0<=a/\a<=(((0:Y).toNat+M pil+M ([al]):aC):Y)/\(((0:Y).toNat+M pil+M ([al]):aC):Y)<=(((0:Y).toNat+M pil+M ([al]):aC):Y))<|.req (0<=c/\c<=7)<|.req ((0+a.toNat)+((((0:Y).toNat+M pil+M ([al]):aC):Y).toNat-a.toNat)<=M e)<|.ok<|.agg [.xl A7<|(e.drop<|0+a.toNat).take<|(((0:Y).toNat+M pil+M ([al]):aC):Y).toNat-a.toNat,AA<|tk+1,f])<|.req (0<=c/\c<=7)<|.req (0+((0:Y).toNat+M pil+M ([al]))<=M e)<|.ok<|.agg [.xl A7<|(e.drop 0).take<|(0:Y).toNat+M pil+M ([al]),AA<|tk+1,f]):=AM
def anD :=vo (S:=aBo) func111 abm kN (λargs lv h=>by
 refine ⟨?_⟩;unfold aBo at h;split at h
 ·split at h
  case h_2=>cases h
  rename_i heq0;simp only [canL,canX];rw [Cn (n:=8) heq0];simp only [canL,canX];rw [ajd];rename_i al am on _ k ph mx nd dl pil tk got;obtain ⟨⟨hm,ha1,ha2,ho1,ho2⟩,rfl⟩:=h
  have hm:=Wt.1 hm
  simp only at hm
  have hu:IntKind.u64.wrap on=on:=by simp [IntKind.wrap,IntKind.bits,IntKind.signed];omega
  have ht:AA (tk+1)=tk+1:=AG
  have hcn:0<=cnt on/\cnt on<=3:=by unfold cnt;omega
  have hg:AA (got+AA (AA (2300*am)*cnt on))=got+2300*am*cnt on:=by
   rw [AG (x:=2300*am)]
   have:cnt on=0\/cnt on=1\/cnt on=2\/cnt on=3:=A0
   rcases this with e|e|e|e<;>rw [e,AG (x:=2300*am*_),AG]
  have h0:(0:Y).toNat=0:=rfl
  have hw1:AA ((M pil:Y)+1)=(M pil:Y)+1:=AG
  have hw2:AA (((M pil+1:aC):Y)-21)=(M pil:Y)-20:=by rw [AG];omega
  have fin:∀(p:aB),p=dwP pil al->LV.agg [.xl A7 p,.v<|ag J<|tk+1,.v<|ag J<|got+2300*am*cnt on]=LV.agg [.xl A7<|dwP pil al,.v<|ag J<|tk+1,.v<|ag J<|got+2300*am*cnt on]:=λp h=>Qo
  simp only [h0,List.replicate_zero,FK,Av,BB,BG,Ck,hu,ht,hg,hw1,hw2];refine ⟨?_,?_⟩
  ·(try simp only [AU,CJ] at c1);first|omega|(simp;done) |(simp;omega)
  ·refine ⟨?_,?_⟩
   ·(try simp only [AU,CJ] at c1);first|omega|(simp;done) |(simp;omega)
   ·refine ⟨?_,?_⟩
    ·(try simp only [AU,CJ] at c1);first|omega|(simp;done) |(simp;omega)
    ·refine ⟨λc1=>?_,λc1=>?_⟩
     ·refine ⟨?_,?_⟩
      ·(try simp only [AU,CJ] at c1);first|omega|(simp;done) |(simp;omega)
      ·refine ⟨?_,?_⟩
       ·(try simp only [AU,CJ] at c1);first|omega|(simp;done) |(simp;omega)
       ·refine ⟨?_,?_⟩
        ·(try simp only [AU,CJ] at c1);first|omega|(simp;done) |(simp;omega)
        ·refine fin _ ?_
         unfold dwP;simp only [AU,CJ] at c1;rw [show ((M pil:Y)-20).toNat=M pil-20 by omega]
         exact CY (by rw [DV,Av];simp only [BB,BG];omega)
     ·refine ⟨?_,?_⟩
      ·omega
      ·refine ⟨?_,?_⟩
       ·omega
       ·refine fin _ ?_
        unfold dwP;simp only [AU,CJ] at c1;rw [show M pil-20=0 by omega]
        grind
 ·cases h)
def aGq:aD->T LV
 | [.v (.agg ⟨[ag J k,ag J ph,ag J mx,ag J nd,ag J dl]⟩),.agg [.xl (.int J) pil,.v (ag J tk),.v (ag J got)],.v (ag J p2),.v (ag J al)]=> .ok (.tup [Di (k,ph,mx,nd,dl) (pil,tk,got) p2 al,DL (k,ph,mx,nd,dl) (pil,tk,got) p2 al,.agg [.xl A7 (I9 (k,ph,mx,nd,dl) (pil,tk,got) p2 al).1,(I9 (k,ph,mx,nd,dl) (pil,tk,got) p2 al).2.1,(I9 (k,ph,mx,nd,dl) (pil,tk,got) p2 al).2.2],Gs (k,ph,mx,nd,dl) (pil,tk,got) p2 al])
 |_=> .no
def ayx:aM:=[aaj,aw8,aCU,anJ,anD]
def T4:=vo (S:=aGq) func78 ayx kN (λargs lv h=>by
 unfold aGq at h;split at h
 ·rename_i k ph mx nd dl pil tk got p2 al
  refine Af (letI a:=(k,ph,mx,nd,dl);letI b:=(pil,tk,got);letI c:=Dy a b p2 al;letI d:=Fc a b p2 al;.br ((!(EJ a)) ||((!(G6 b)) ||((!(inB p2 (1:Y) (7:Y))) ||((!(inB al (0:Y) (80:Y))) ||(tk==1000000))))) (.ok<|.tup [(0:Y),(0:Y),.agg [.xl A7 ([]:aB),(0:Y),(0:Y)],(1:Y)])<|.req (EJ a=U/\G6 b=U/\1<=p2/\p2<=7/\0<=al)<|.req (G6 b=U/\0<=c/\c<=80/\0<=d/\d<=7)<|.ok<|.tup [c,d,.agg [.xl A7<|dwP pil al,.v<|ag J<|tk+1,.v<|ag J<|got+2300*c*cnt d],(0:Y)]) ?_;obtain rfl:=h
  have e:((!(EJ (k,ph,mx,nd,dl))) ||((!(G6 (pil,tk,got))) ||((!(inB p2 (1:Y) (7:Y))) ||((!(inB al (0:Y) (80:Y))) ||(tk==1000000)))))=!(J5 (k,ph,mx,nd,dl) (pil,tk,got) p2 al):=by simp [J5,bne]
  rw [e];unfold Di DL I9 Gs;refine ⟨λc1=>?_,λc1=>?_⟩
  ·have hB:J5 (k,ph,mx,nd,dl) (pil,tk,got) p2 al=false:=AQ
   rw [hB];rfl
  ·have hB:J5 (k,ph,mx,nd,dl) (pil,tk,got) p2 al=true:=A8
   rw [hB];obtain ⟨hc,hm,h1,h2,h3,h4,h5⟩:=gH.1 hB;obtain ⟨b1,b2,b3,b4⟩:=aeD hc hm ⟨h1,h2⟩ ⟨h3,h4⟩;exact ⟨⟨hc,hm,h1,h2,h3⟩,⟨hm,b1,by have:=RS.1 hc;omega,b3,b4⟩,rfl⟩
 ·cases h)
structure LI where
 xs:aLZ
 (n i:Y)
 p:PK
 ev:EW
 left:aLZ
def SC (s:LI):T (Rd LI):=letI b:=Dr s.xs s.i;letI c:=s.left++([b]);letI d:=M s.left+M ([b]);letI e:=AA<|s.i+1;letI f:=M s.p.st;letI g:=s.p.st.getD b.2.2.1.toNat<|Ty.dflt Al;letI h:=M<|[b];letI j:=M s.left;letI a:=(s.p.st.set b.2.2.1.toNat<|sN (AF s.p.gs b.2.2.1) g (7:Y) b.2.2.2.1 b.2.2.2.2.2);.br (an<|s.i<s.n) (.ix s.i (M s.xs)<|.br (an<|b.1>s.p.tk) (.br U (.rb j h 48<|.re d c<|.pd s.p<|.nx {s with i:=e,left:=c})<|.rl s.left<|.pd s.p<|.nx {s with i:=e})<|.ix b.2.2.1 (M s.p.gs)<|.ik b.2.2.1 f<|.br ((sE (AF s.p.gs b.2.2.1) g (7:Y) b.2.2.2.1 b.2.2.2.2.2)==0) (.ik b.2.2.1 f<|.br X (.rb j h 48<|.re d c<|.rl s.p.cs<|.re f a<|.rl s.p.ca<|.rl s.p.mi<|.rl s.p.me<|.rl s.p.dr<|.rl s.p.tg<|.nx {s with i:=e,p.st:=a,left:=c})<|.rl s.left<|.rl s.p.cs<|.re f a<|.rl s.p.ca<|.rl s.p.mi<|.rl s.p.me<|.rl s.p.dr<|.rl s.p.tg<|.nx {s with i:=e,p.st:=a})<|.br X (.rb j h 48<|.re d c<|.pd s.p<|.nx {s with i:=e,left:=c})<|.rl s.left<|.pd s.p<|.nx {s with i:=e})<|.rl s.left<|.pd s.p<|.so (.exit 0) s
def arr1 (gs:aG) (t:Y) (st:bf) (l:Lk):bf:=if l.1>t then st else C6 gs st l.2.2.1 7 l.2.2.2.1 l.2.2.2.2.2
def aFb {l:aLZ}{i:Y}(h0:0<=i) (h:i<M l):Dr l i∈l/\l.drop i.toNat=Dr l i::l.drop (i+1).toNat:=by
 have e:Dr l i=l[i.toNat]' A0:=by unfold Dr;rw [DC,Cs A0];rfl
 rw [e];exact ⟨EL _,by rw [QR A0,show (i+1).toNat=i.toNat+1 by omega]⟩
def aeG {gs:aG}{lk:aLZ}{t:Y}{st:bf}:∀k,k<=M lk->Mb gs lk t st k=(lk.take k).foldl (arr1 gs t) st
 |0,_=>rfl
 |k+1,h=>by
  have e:Dr lk (k:Y)=lk[k]' A0:=by unfold Dr;rw [Bs,DC,Cs A0];rfl
  rw [Mb,aeG k A0,VI A0,List.foldl_append,<-e];rfl
def ZQ (s:LI):Prop:=s.i=0/\s.n=(M s.xs:Y)/\s.n<=20000000/\(M s.left:Y)<=s.i/\(∀l∈s.xs,0<=l.2.2.1/\l.2.2.1<(M s.p.gs:Y))/\M s.p.st=M s.p.gs
def Zq (s:LI):Prop:=0<=s.i/\s.i<=s.n/\s.n=(M s.xs:Y)/\s.n<=20000000/\(M s.left:Y)<=s.i/\(∀l∈s.xs,0<=l.2.2.1/\l.2.2.1<(M s.p.gs:Y))/\M s.p.st=M s.p.gs
def wo (s:LI):aC:=(s.n-s.i).toNat
def ac1 (x:Ex) (s s':LI):Prop:=True
def azE:∀s,ZQ s->Zq s:=by
 rintro s ⟨h0,h2,h3,h4⟩
 exact qm
def av2:Da Zq wo ac1 SC:=by
 intro s hI;unfold SC;dsimp only [T.rd,T.rl,T.rv];obtain ⟨h0,h1,h2,h3,h4,h5,h6⟩:=hI;refine allR_ite (λc1=>allR_ite (λc2=>?_) λc2=>allR_ite (λc3=>?_) λc3=>?_) λc1=>trivial
 all_goals have c1:s.i<s.n:=AQ
 all_goals rw [AG (x:=s.i+1)]
 ·exact allR_ite (λ_=>⟨⟨AP,AP,h2,h3,A8,h5,h6⟩,sK⟩) λc=>CP
 ·exact allR_ite (λc=>CP) λ_=>⟨⟨AP,AP,h2,h3,AP,h5,A8⟩,sK⟩
 ·exact allR_ite (λc=>CP) λ_=>⟨⟨A8,AP,h2,h3,AP,h5,h6⟩,sK⟩
def Q5:LpD LI:=⟨19,30,[0,1,4,11,12,13],[.nl 4 99 Au],λs=>[.own 16 0,.fn 75 [.own 18 0],.os 19 6 0<|M s.left,s.xs,s.n,s.i],λs=>[bDd,bDd,zB,bDd,bV 62 AR s.p.cs,bDd,bDd,bDd,bV 94 Al s.p.st,bV 46 AL s.p.ca,bV 74 Ap s.p.mi,bV 66 Az s.p.me,bDd,bDd,bV 3 A7 s.p.dr,bV 3 A7 s.p.tg,⟨[.os 4 11 0<|M s.p.cs,.xl .str s.p.os,.xl AY s.p.ks,.xl AX s.p.gs,.xl AZ s.p.bs,.v<|ag J s.p.tk,.v<|.bool s.p.up,.xl AL s.p.ls,.v<|ag J s.p.se,.xl (.int aw) s.p.fl,.xl Ae s.p.ra,.v<|ag J s.p.nx,.os 8 4 0<|M s.p.st,.os 9 5 0<|M s.p.ca,.os 10 3 0<|M s.p.mi,.os 11 3 0<|M s.p.me,.xl Aq s.p.dm,.xl Au s.p.lk,.os 14 1 0<|M s.p.dr,.os 15 1 0<|M s.p.tg,.v<|ag J s.ev.ek,.v<|ag J s.ev.en,.v<|ag J s.ev.em,.v<|ag J s.ev.c1,.v<|ag J s.ev.c2,.v<|ag J s.ev.c3,.v<|ag J s.ev.c4,.v<|ag J s.ev.c5,.v<|.bool s.ev.d1,.v<|ag J s.ev.d2,.v<|ag J s.ev.d3,.v<|ag J s.ev.d4,.v<|.slice aj 0 0],83,.cl,X⟩,bDd,⟨[.own 16 0],78,.cl,X⟩,bV 99 Au s.left],λv b=>⟨Ag Au v 3,AJ v 4,AJ v 5,rT b,rG b,AV Au b 19⟩,SC,λs r=> {s with i:=r.i,p.st:=r.p.st,left:=r.left},λs=>s,λ_ s=>s,[.exit 0],ZQ,Zq,wo⟩
abbrev Hf:=Q5.run
abbrev alp:=Q5.exn
def mI:aM:=[Rb,hM,T1,T5,T4,T2,RY,Rc,P6]
def asF:Aj:=FC mI (la 9 func23 C2<|l0 mI) [⟨39,upM [.pc 16 7 AL,.kb 5] ML.m,P5⟩]
def aqF:Rq Zq SC:=by
 intro s hI;refine ⟨λc1=>⟨?_,λc2=>⟨λc3=>⟨?_,?_,A9,A9,A9,A9,A9,A9,A9,ak⟩,λc3=>⟨A9,A9,A9,A9,A9,A9,A9,A9,ak⟩⟩,λc2=>⟨?_,?_,?_,λc4=>⟨?_,?_,λc5=>⟨?_,?_,A9,?_,A9,A9,A9,A9,A9,ak⟩,λc5=>⟨A9,A9,?_,A9,A9,A9,A9,A9,ak⟩⟩,λc4=>⟨λc6=>⟨?_,?_,A9,A9,A9,A9,A9,A9,A9,ak⟩,λc6=>⟨A9,A9,A9,A9,A9,A9,A9,A9,ak⟩⟩⟩⟩,λc1=>⟨A9,A9,A9,A9,A9,A9,A9,A9,ak⟩⟩
 all_goals ((obtain ⟨h0,h1,h2,h3,h4,h5,h6⟩:=hI;simp only [AU] at c1;have hm:=h5 _ (aFb h0 (show s.i<(M s.xs:Y) by omega)).1;first|omega|exact ⟨rfl,AH⟩ |(simp only [BB,BG,Av];omega) |(simp only [Av,BB,BG,DR];done)))
def aFV:Q5.Ok:={}
def aDl:Q5.Pf (ac1):=⟨azE,λs h=>rfl,av2,aqF⟩
def Ia:=s2 (b:=bN f50 0) aFV aDl mI asF
def amR:Rs ZQ alp Hf (λs:LI=>((s.xs.drop s.i.toNat).foldl (arr1 s.p.gs s.p.tk) s.p.st,s.left++(s.xs.drop s.i.toNat).filter (λl=>an<|l.1>s.p.tk))) (λx s' (v:List St×List Lk)=>x=.exit 0/\(s'.p.st,s'.left)=v):=CM aFV aDl (λs hI=>by
  show allR _ _ ((SC s).rd s)
  unfold SC;dsimp only [T.rd,T.rl];obtain ⟨h0,h1,h2,h3,h4,h5,h6⟩:=hI;refine allR_ite (λc1=>?_) λc1=>?_
  ·have c1:s.i<s.n:=A8
   have e:=(aFb h0 (show s.i<(M s.xs:Y) by omega)).2
   rw [AG (x:=s.i+1),e];refine allR_ite (λc2=>?_) λc2=>allR_ite (λc3=>?_) λc3=>?_
   ·refine allR_ite (λ_=>?_) (λc=>CP)
    have c2':=C9 c2
    show (_,_)=(_,_)
    rw [IJ,Ml,AD c2,show arr1 s.p.gs s.p.tk s.p.st (Dr s.xs s.i)=s.p.st from AD c2',DQ];rfl
   ·refine allR_ite (λc=>CP) (λ_=>?_)
    have c2':=Gu c2
    rw [IJ,Ml,AE A8,show arr1 s.p.gs s.p.tk s.p.st (Dr s.xs s.i)=_ from (AE c2').trans<|AD<|eq_of_beq c3];rfl
   ·refine allR_ite (λc=>CP) (λ_=>?_)
    have c2':=Gu c2
    show (_,_)=(_,_)
    rw [IJ,Ml,AE A8,show arr1 s.p.gs s.p.tk s.p.st (Dr s.xs s.i)=_ from (AE c2').trans<|AE<|Bt.1 c3]
  ·have c1:s.n<=s.i:=A8
   refine ⟨rfl,?_⟩;rw [DD A0]
   simp)
structure LG where
 (i on oi m k:Y)
 p:PK
 ev:EW
def yJ:=lN (bN f41 0) 0
def nY (s:LG):T (Rd LG):=letI b:=s.p.st.getD s.i.toNat<|Ty.dflt Al;letI c:=M s.p.st;letI a:=(s.p.st.set s.i.toNat<|sN (AF s.p.gs s.i) b (8:Y) (0:Y) (0:Y));.br (an<|s.k<s.m) (.ix s.i (M s.p.gs)<|.ik s.i c<|.br ((sE (AF s.p.gs s.i) b (8:Y) (0:Y) (0:Y))==0) (.ik s.i c<|.rl s.p.dr<|.rl s.p.cs<|.re c a<|.rl s.p.ca<|.rl s.p.mi<|.rl s.p.me<|.rl s.p.dr<|.rl s.p.tg<|.nx {s with k:=AA<|s.k+1,p.st:=a})<|.rl s.p.dr<|.pd s.p<|.nx {s with k:=AA<|s.k+1})<|.rl s.p.dr<|.pd s.p<|.so (.exit 2) s
def Tv (s:LG):Prop:=s.k=0/\(0<=s.i/\s.i<(M s.p.gs:Y))/\M s.p.st=M s.p.gs/\s.m<=4000000
def Yz (s:LG):Prop:=0<=s.k/\(0<=s.i/\s.i<(M s.p.gs:Y))/\M s.p.st=M s.p.gs/\s.m<=4000000
def XL (s:LG):aC:=(s.m-s.k).toNat
def acu (x:Ex) (s s':LG):Prop:=True
def azi:∀s,Tv s->Yz s:=by
 rintro s ⟨h0,h2⟩
 exact ⟨A0,h2⟩
def auC:Da Yz XL acu nY:=by
 intro s hI;obtain ⟨h0,h1,h2,h3⟩:=hI;refine allR_ite (λc1=>allR_ite (λc2=>?_) λc2=>?_) λc1=>trivial
 all_goals have c1:s.k<s.m:=A8
 all_goals rw [AG (x:=s.k+1)]
 ·exact ⟨⟨A8,h1,A8,h3⟩,by simp only [XL];omega⟩
 ·exact ⟨⟨A8,h1,h2,h3⟩,by simp only [XL];omega⟩
def Q3:LpD LG:=⟨20,57,[0,2,12,13,14,48,49],[],λs=>[.own 16 0,s.i,.os 14 1 0<|M s.p.dr,s.on,s.oi,s.m,s.k],λs=>[bDd,bDd,zB,bDd,bV 62 AR s.p.cs,bDd,bDd,bDd,bV 94 Al s.p.st,bV 46 AL s.p.ca,bV 74 Ap s.p.mi,bV 66 Az s.p.me,bDd,bDd,bV 3 A7 s.p.dr,bV 3 A7 s.p.tg,⟨[.os 4 11 0<|M s.p.cs,.xl .str s.p.os,.xl AY s.p.ks,.xl AX s.p.gs,.xl AZ s.p.bs,.v<|ag J s.p.tk,.v<|.bool s.p.up,.xl AL s.p.ls,.v<|ag J s.p.se,.xl (.int aw) s.p.fl,.xl Ae s.p.ra,.v<|ag J s.p.nx,.os 8 4 0<|M s.p.st,.os 9 5 0<|M s.p.ca,.os 10 3 0<|M s.p.mi,.os 11 3 0<|M s.p.me,.xl Aq s.p.dm,.xl Au s.p.lk,.os 14 1 0<|M s.p.dr,.os 15 1 0<|M s.p.tg,.v<|ag J s.ev.ek,.v<|ag J s.ev.en,.v<|ag J s.ev.em,.v<|ag J s.ev.c1,.v<|ag J s.ev.c2,.v<|ag J s.ev.c3,.v<|ag J s.ev.c4,.v<|ag J s.ev.c5,.v<|.bool s.ev.d1,.v<|ag J s.ev.d2,.v<|ag J s.ev.d3,.v<|ag J s.ev.d4,.v<|.slice aj 0 0],83,.cl,X⟩,bDd,bDd,bDd],λv b=>⟨AJ v 1,AJ v 3,AJ v 4,AJ v 5,AJ v 6,rT b,rG b⟩,nY,λs r=> {s with k:=r.k,p.st:=r.p.st},λs=>s,λ_ s=>s,[.exit 2],Tv,Yz,XL⟩
abbrev RJ:=Q3.run
abbrev akU:=Q3.exn
def X3:aM:=[Rb,hM,T1,T5,T4,T2,RY,Rc,P6]
def m6:Aj:=FC X3 (la 2 func50 Ia<|la 9 func23 C2<|l0 X3) [⟨39,upM [.pc 16 7 AL,.kb 5] ML.m,P5⟩]
def aqB:Rq Yz nY:=by
 intro s hI;refine ⟨λc1=>⟨?_,?_,?_,λc2=>⟨?_,?_,A9,A9,?_,A9,A9,A9,A9,A9,ak⟩,λc2=>⟨A9,A9,A9,A9,A9,A9,A9,A9,ak⟩⟩,λc1=>⟨A9,A9,A9,A9,A9,A9,A9,A9,ak⟩⟩
 all_goals ((obtain ⟨h0,h1,h2,h3⟩:=hI;first|omega|exact ⟨rfl,AH⟩))
def aFS:Q3.Ok:={}
def aDi:Q3.Pf (acu):=⟨azi,λs h=>rfl,auC,aqB⟩
def ajJ:SA 20 yJ Q3:=s2 aFS aDi X3 m6
def aBa:Rs Tv akU RJ (λs:LG=>Dk (tk1 s.p.gs s.i) s.k.toNat s.p.st (s.m-s.k).toNat) (λx s' (v:bf)=>x=.exit 2/\s'.p.st=v):=CM aFS aDi (λs hI=>by
  obtain ⟨h0,h1,h2,h3⟩:=hI;refine allR_ite (λc1=>?_) λc1=>?_
  ·have c1:s.k<s.m:=A8
   rw [AG (x:=s.k+1),JG h0 c1];refine allR_ite (λc2=>?_) λc2=>?_
   ·rw [show tk1 s.p.gs s.i s.k.toNat s.p.st=_ from AD<|eq_of_beq c2]
    rfl
   ·rw [show tk1 s.p.gs s.i s.k.toNat s.p.st=_ from AE<|Bt.1 c2]
    rfl
  ·have c1:s.m<=s.k:=A8
   exact ⟨rfl,(fq c1).symm⟩)
structure Ip where
 (n i:Y)
 p:PK
 ev:EW
def yI:=bN f41 0
def KG (s:Ip):LG:=letI a:=s.p.dr.getD s.i.toNat<|Ty.dflt A7;(⟨s.i,s.n,s.i,AA<|(F4 (AA<|s.p.tk+1) a)-(F4 s.p.tk a),0,s.p,s.ev⟩:LG)
def nX (s:Ip):T (Rd Ip):=letI a:=s.p.dr.getD s.i.toNat<|Ty.dflt A7;.br (an<|s.i<s.n) (.ik s.i (M s.p.dr)<|.br (((IG s.p.tk a) !=0) ||((IG (AA<|s.p.tk+1) a) !=0)) (.rl s.p.dr<|.pd s.p<|.nx {s with i:=AA<|s.i+1})<|.rl s.p.dr<|.pd s.p<|.req (Q3.q<|KG s)<|.rl s.p.dr<|.rl s.p.cs<|.rl (RJ<|KG s).p.st<|.rl s.p.ca<|.rl s.p.mi<|.rl s.p.me<|.rl s.p.dr<|.rl s.p.tg<|.nx {s with i:=AA<|s.i+1,p.st:=(RJ<|KG s).p.st})<|.rl s.p.dr<|.pd s.p<|.so (.exit 0) s
def ZM (s:Ip):Prop:=s.i=0/\s.n=(M s.p.dr:Y)/\M s.p.dr=M s.p.gs/\s.n<=1000/\M s.p.st=M s.p.gs/\(0<=s.p.tk/\s.p.tk<=1000000)
def UD (s:Ip):Prop:=0<=s.i/\s.i<=s.n/\s.n=(M s.p.dr:Y)/\M s.p.dr=M s.p.gs/\s.n<=1000/\M s.p.st=M s.p.gs/\(0<=s.p.tk/\s.p.tk<=1000000)
def XK (s:Ip):aC:=(s.n-s.i).toNat
def acr (x:Ex) (s s':Ip):Prop:=True
def azh:∀s,ZM s->UD s:=by
 exact qy
def lh {s:Ip}(hI:UD s) (c1:s.i<s.n):Tv (KG s)/\((IG s.p.tk (gi s.p.dr s.i.toNat)=0/\IG (s.p.tk+1) (gi s.p.dr s.i.toNat)=0)->(RJ<|KG s).p.st=cnt1 s.p.gs s.p.dr s.p.tk s.i.toNat s.p.st):=by
 obtain ⟨h0,h1,h2,h3,h4,h6,h7⟩:=hI
 have hg:s.p.dr.getD s.i.toNat (Ty.dflt A7)=gi s.p.dr s.i:=rfl
 have b1:=aan s.p.tk<|gi s.p.dr s.i
 have b2:=aan (s.p.tk+1)<|gi s.p.dr s.i
 have hm:(KG s).m=F4 (s.p.tk+1) (gi s.p.dr s.i)-F4 s.p.tk (gi s.p.dr s.i):=by
  show AA (F4 (AA<|s.p.tk+1) _-F4 s.p.tk _)=_
  rw [hg,AG (x:=s.p.tk+1),AG (x:=F4 (s.p.tk+1) _-F4 s.p.tk _)]
 have hE:Tv (KG s):=⟨rfl,⟨h0,by show s.i<(M s.p.gs:Y);omega⟩,h6,A0⟩
 refine ⟨hE,λhc=>?_⟩
 have q:(RJ<|KG s).p.st=Dk (tk1 s.p.gs s.i) 0 s.p.st ((KG s).m-0).toNat:=(aBa _ hE).2
 rw [q,hm,Mp,an2];unfold cnt1
 grind
def auB:Da UD XK acr nX:=by
 intro s hI;obtain ⟨h0,h1,h2,h3,h4,h6,h7⟩:=id hI;refine allR_ite (λc1=>allR_ite (λc2=>?_) λc2=>?_) λc1=>trivial
 all_goals have c1:s.i<s.n:=AQ
 all_goals rw [AG (x:=s.i+1)]
 ·exact ⟨⟨A8,A8,h2,h3,h4,h6,h7⟩,by simp only [XK];omega⟩
 ·have hl:M (RJ<|KG s).p.st=M s.p.gs:=by
   rw [(aBa _ (lh hI c1).1).2];exact (aAm λ_ _=>Ib).trans h6
  exact ⟨⟨A8,A8,h2,h3,h4,hl,h7⟩,by simp only [XK];omega⟩
def NQ:LpD Ip:=⟨20,57,[0,12,13,14],[.pc 16 17 Au,.kb 18,.kb 19],λs=>[.own 16 0,.os 14 1 0<|M s.p.dr,s.n,s.i],λs=>[bDd,bDd,zB,bDd,bV 62 AR s.p.cs,bDd,bDd,bDd,bV 94 Al s.p.st,bV 46 AL s.p.ca,bV 74 Ap s.p.mi,bV 66 Az s.p.me,bDd,bDd,bV 3 A7 s.p.dr,bV 3 A7 s.p.tg,⟨[.os 4 11 0<|M s.p.cs,.xl .str s.p.os,.xl AY s.p.ks,.xl AX s.p.gs,.xl AZ s.p.bs,.v<|ag J s.p.tk,.v<|.bool s.p.up,.xl AL s.p.ls,.v<|ag J s.p.se,.xl (.int aw) s.p.fl,.xl Ae s.p.ra,.v<|ag J s.p.nx,.os 8 4 0<|M s.p.st,.os 9 5 0<|M s.p.ca,.os 10 3 0<|M s.p.mi,.os 11 3 0<|M s.p.me,.xl Aq s.p.dm,.xl Au s.p.lk,.os 14 1 0<|M s.p.dr,.os 15 1 0<|M s.p.tg,.v<|ag J s.ev.ek,.v<|ag J s.ev.en,.v<|ag J s.ev.em,.v<|ag J s.ev.c1,.v<|ag J s.ev.c2,.v<|ag J s.ev.c3,.v<|ag J s.ev.c4,.v<|ag J s.ev.c5,.v<|.bool s.ev.d1,.v<|ag J s.ev.d2,.v<|ag J s.ev.d3,.v<|ag J s.ev.d4,.v<|.slice aj 0 0],83,.cl,X⟩,bDd,bDd,bDd],λv b=>⟨AJ v 2,AJ v 3,rT b,rG b⟩,nX,λs r=> {s with i:=r.i,p.st:=r.p.st},λs=>s,λ_ s=>s,[.exit 0],ZM,UD,XK⟩
abbrev gN:=NQ.run
abbrev akT:=NQ.exn
def aqA:Rq UD nX:=by
 intro s hI;refine ⟨λc1=>⟨?_,?_,λc2=>⟨A9,A9,A9,A9,A9,A9,A9,A9,ak⟩,λc2=>⟨A9,A9,A9,A9,A9,A9,A9,A9,?_,A9,A9,A9,A9,A9,A9,A9,A9,ak⟩⟩,λc1=>⟨A9,A9,A9,A9,A9,A9,A9,A9,ak⟩⟩
 all_goals ((obtain ⟨h0,h1,h2,h3,h4,h6,h7⟩:=id hI;simp only [AU] at c1;first|omega|exact ⟨(lh hI c1).1,rfl,rfl⟩))
def aFR:NQ.Ok:={}
def aDh:NQ.Pf (acr):=⟨azh,λs h=>rfl,auB,aqA⟩
def JN:SA 20 yI NQ:=LpD.snd aFR aDh (code_soundA (Γ:=X3) (K:=m6) (L:=(byId (λi=>if i=7 then Q3.lp else noLoops i))) (gk X3) m6.h yI (λb hb=>by
 rw [show loopsIn _=[yJ] by kernel_rfl] at hb
 simp only [Ak,B8,B6] at hb;subst hb;exact ajJ)) λs=>AM
def alg:Rs ZM akT gN (λs:Ip=>Dk (cnt1 s.p.gs s.p.dr s.p.tk) s.i.toNat s.p.st (s.n-s.i).toNat) (λx s' (v:bf)=>x=.exit 0/\s'.p.st=v):=CM aFR aDh (λs hI=>by
  obtain ⟨h0,h1,h2,h3,h4,h6,h7⟩:=id hI;refine allR_ite (λc1=>?_) λc1=>?_
  ·have c1:s.i<s.n:=A8
   have hg:s.p.dr.getD s.i.toNat (Ty.dflt A7)=gi s.p.dr s.i.toNat:=Mz
   rw [AG (x:=s.i+1),AG (x:=s.p.tk+1),hg,JG h0 c1];refine allR_ite (λc2=>?_) λc2=>?_
   ·rw [show cnt1 s.p.gs s.p.dr s.p.tk s.i.toNat s.p.st=s.p.st from AE λh=>A8]
    rfl
   ·have c2:IG s.p.tk (gi s.p.dr s.i.toNat)=0/\IG (s.p.tk+1) (gi s.p.dr s.i.toNat)=0:=A8
    rw [<-(lh hI c1).2 c2];rfl
  ·have c1:s.n<=s.i:=A8
   exact ⟨rfl,(fq c1).symm⟩)
structure Il where
 gl:aG
 (n i:Y)
 p:PK
 ev:EW
 dw:aB
def XV (s:Il) (e:Y) (o:Y) (ce:Y) (a:Y) (al:Y) (se:Y) (sn:St) (m:Mi) (cn:Me):T (Rd Il):=letI b:=s.p.mi.set s.i.toNat m;letI c:=s.dw.set s.i.toNat a;letI d:=s.p.me.set s.i.toNat cn;letI f:=M s.p.mi;letI g:=M s.p.st;letI h:=AA<|s.i+1;letI j:=s.p.st.set s.i.toNat sn;letI k:=M s.dw;letI l:=M s.p.me;.br (an<|s.i<s.n) (.ix s.i (M s.gl)<|.ik s.i (M s.p.ca)<|.br (!((s.p.ca.getD s.i.toNat<|Ty.dflt AL).2.2.1 !=0)) (.pd s.p<|.rl s.dw<|.nx {s with i:=h})<|.ik s.i g<|.ik s.i (M s.p.ca)<|.ik s.i f<|.br (e !=0) (.pd s.p<|.rl s.dw<|.nx {s with i:=h})<|.ik s.i k<|.ik s.i f<|.ik s.i l<|.req (0<=(IntKind.u64.wrap o)/\(IntKind.u64.wrap o)<=7)<|.br (ce==0) (.ik s.i l<|.br (an<|a>al) (.ix s.i (M s.p.gs)<|.ik s.i g<|.br (se==0) (.ik s.i g<|.rl s.p.cs<|.re g j<|.rl s.p.ca<|.re f b<|.re l d<|.rl s.p.dr<|.rl s.p.tg<|.re k c<|.nx {s with i:=h,p.st:=j,p.mi:=b,p.me:=d,dw:=c})<|.rl s.p.cs<|.rl s.p.st<|.rl s.p.ca<|.re f b<|.re l d<|.rl s.p.dr<|.rl s.p.tg<|.re k c<|.nx {s with i:=h,p.mi:=b,p.me:=d,dw:=c})<|.rl s.p.cs<|.rl s.p.st<|.rl s.p.ca<|.re f b<|.re l d<|.rl s.p.dr<|.rl s.p.tg<|.re k c<|.nx {s with i:=h,p.mi:=b,p.me:=d,dw:=c})<|.br (an<|a>al) (.ix s.i (M s.p.gs)<|.ik s.i g<|.br (se==0) (.ik s.i g<|.rl s.p.cs<|.re g j<|.rl s.p.ca<|.re f b<|.rl s.p.me<|.rl s.p.dr<|.rl s.p.tg<|.re k c<|.nx {s with i:=h,p.st:=j,p.mi:=b,dw:=c})<|.rl s.p.cs<|.rl s.p.st<|.rl s.p.ca<|.re f b<|.rl s.p.me<|.rl s.p.dr<|.rl s.p.tg<|.re k c<|.nx {s with i:=h,p.mi:=b,dw:=c})<|.rl s.p.cs<|.rl s.p.st<|.rl s.p.ca<|.re f b<|.rl s.p.me<|.rl s.p.dr<|.rl s.p.tg<|.re k c<|.nx {s with i:=h,p.mi:=b,dw:=c})<|.pd s.p<|.rl s.dw<|.so (.exit 0) s
abbrev Sy (s:Il):=letI b:=s.p.ca.getD s.i.toNat<|Ty.dflt AL;letI c:=s.p.mi.getD s.i.toNat<|Ty.dflt Ap;letI d:=AF s.gl s.i;letI e:=s.p.st.getD s.i.toNat<|Ty.dflt Al;letI g:=s.p.me.getD s.i.toNat<|Ty.dflt Az;letI a:=BH d e;letI f:=cnt<|IntKind.u64.wrap<|DL b c d.2.2.1 a;letI h:=Di b c d.2.2.1 a;XV s (Gs b c d.2.2.1 a) (DL b c d.2.2.1 a) (Ei g h f) h a (sE (AF s.p.gs s.i) e (6:Y) (2:Y) (0:Y)) (sN (AF s.p.gs s.i) e (6:Y) (2:Y) (0:Y)) (I9 b c d.2.2.1 a)<|G7 g h f
def Zi (s:Il):Prop:=s.i=0/\s.n=(M s.p.gs:Y)/\s.n<=1000/\s.gl=s.p.gs/\(M s.p.st=M s.p.gs/\M s.p.ca=M s.p.gs/\M s.p.mi=M s.p.gs/\M s.p.me=M s.p.gs/\M s.dw=M s.p.gs)
def Sv (s:Il):Prop:=0<=s.i/\s.i<=s.n/\s.n=(M s.p.gs:Y)/\s.n<=1000/\s.gl=s.p.gs/\(M s.p.st=M s.p.gs/\M s.p.ca=M s.p.gs/\M s.p.mi=M s.p.gs/\M s.p.me=M s.p.gs/\M s.dw=M s.p.gs)
def WW (s:Il):aC:=(s.n-s.i).toNat
def tK (x:Ex) (s s':Il):Prop:=True
def ay8:∀s,Zi s->Sv s:=by
 exact qy
def amD (s:Il) (hI:Sv s) (e:Y) (o:Y) (ce:Y) (a:Y) (al:Y) (se:Y) (sn:St) (m:Mi) (cn:Me) (he:Gs (s.p.ca.getD s.i.toNat<|Ty.dflt AL) (s.p.mi.getD s.i.toNat<|Ty.dflt Ap) (AF s.gl s.i).2.2.1 (BH (AF s.gl s.i)<|s.p.st.getD s.i.toNat<|Ty.dflt Al)=e) (ho:DL (s.p.ca.getD s.i.toNat<|Ty.dflt AL) (s.p.mi.getD s.i.toNat<|Ty.dflt Ap) (AF s.gl s.i).2.2.1 (BH (AF s.gl s.i)<|s.p.st.getD s.i.toNat<|Ty.dflt Al)=o) (hce:Ei (s.p.me.getD s.i.toNat<|Ty.dflt Az) (Di (s.p.ca.getD s.i.toNat<|Ty.dflt AL) (s.p.mi.getD s.i.toNat<|Ty.dflt Ap) (AF s.gl s.i).2.2.1<|BH (AF s.gl s.i)<|s.p.st.getD s.i.toNat<|Ty.dflt Al) (cnt<|IntKind.u64.wrap<|DL (s.p.ca.getD s.i.toNat<|Ty.dflt AL) (s.p.mi.getD s.i.toNat<|Ty.dflt Ap) (AF s.gl s.i).2.2.1<|BH (AF s.gl s.i)<|s.p.st.getD s.i.toNat<|Ty.dflt Al)=ce) (ha:Di (s.p.ca.getD s.i.toNat<|Ty.dflt AL) (s.p.mi.getD s.i.toNat<|Ty.dflt Ap) (AF s.gl s.i).2.2.1 (BH (AF s.gl s.i)<|s.p.st.getD s.i.toNat<|Ty.dflt Al)=a) (hal:BH (AF s.gl s.i) (s.p.st.getD s.i.toNat<|Ty.dflt Al)=al) (hse:sE (AF s.p.gs s.i) (s.p.st.getD s.i.toNat<|Ty.dflt Al) (6:Y) (2:Y) (0:Y)=se) (hsn:sN (AF s.p.gs s.i) (s.p.st.getD s.i.toNat<|Ty.dflt Al) (6:Y) (2:Y) (0:Y)=sn) (hm:I9 (s.p.ca.getD s.i.toNat<|Ty.dflt AL) (s.p.mi.getD s.i.toNat<|Ty.dflt Ap) (AF s.gl s.i).2.2.1 (BH (AF s.gl s.i)<|s.p.st.getD s.i.toNat<|Ty.dflt Al)=m) (hcn:G7 (s.p.me.getD s.i.toNat<|Ty.dflt Az) (Di (s.p.ca.getD s.i.toNat<|Ty.dflt AL) (s.p.mi.getD s.i.toNat<|Ty.dflt Ap) (AF s.gl s.i).2.2.1<|BH (AF s.gl s.i)<|s.p.st.getD s.i.toNat<|Ty.dflt Al) (cnt<|IntKind.u64.wrap<|DL (s.p.ca.getD s.i.toNat<|Ty.dflt AL) (s.p.mi.getD s.i.toNat<|Ty.dflt Ap) (AF s.gl s.i).2.2.1<|BH (AF s.gl s.i)<|s.p.st.getD s.i.toNat<|Ty.dflt Al)=cn):allR (λs'=>Sv s'/\WW s'<WW s) (λx s'=>tK x s s') ((XV s e o ce a al se sn m cn).rd s):=by
 unfold XV;dsimp only [T.rd,T.rl,T.rv];obtain ⟨h0,h1,h2,h3,hg,l1,l2,l3,l4,l5⟩:=hI;refine allR_ite (λc1=>?_) λc1=>?_
 ·refine allR_ite (λc2=>?_) (λc2=>?_)
  ·exact Vf
  ·refine allR_ite (λc3=>?_) (λc3=>?_)
   ·exact Vf
   ·refine allR_ite (λc4=>?_) (λc4=>?_)
    ·exact aIn
    ·exact aIn
 ·trivial
def asv:Da Sv WW tK Sy:=λs hI=>amD s hI _ _ _ _ _ _ _ _ _ rfl rfl rfl rfl rfl rfl rfl rfl rfl
def Pz:LpD Il:=⟨20,124,[0,27,28,29],[],λs=>[.own 16 0,s.gl,s.n,s.i],λs=>[bDd,bDd,zB,bDd,bV 62 AR s.p.cs,bDd,bDd,bDd,bV 94 Al s.p.st,bV 46 AL s.p.ca,bV 74 Ap s.p.mi,bV 66 Az s.p.me,bDd,bDd,bV 3 A7 s.p.dr,bV 3 A7 s.p.tg,⟨[.os 4 11 0<|M s.p.cs,.xl .str s.p.os,.xl AY s.p.ks,.xl AX s.p.gs,.xl AZ s.p.bs,.v<|ag J s.p.tk,.v<|.bool s.p.up,.xl AL s.p.ls,.v<|ag J s.p.se,.xl (.int aw) s.p.fl,.xl Ae s.p.ra,.v<|ag J s.p.nx,.os 8 4 0<|M s.p.st,.os 9 5 0<|M s.p.ca,.os 10 3 0<|M s.p.mi,.os 11 3 0<|M s.p.me,.xl Aq s.p.dm,.xl Au s.p.lk,.os 14 1 0<|M s.p.dr,.os 15 1 0<|M s.p.tg,.v<|ag J s.ev.ek,.v<|ag J s.ev.en,.v<|ag J s.ev.em,.v<|ag J s.ev.c1,.v<|ag J s.ev.c2,.v<|ag J s.ev.c3,.v<|ag J s.ev.c4,.v<|ag J s.ev.c5,.v<|.bool s.ev.d1,.v<|ag J s.ev.d2,.v<|ag J s.ev.d3,.v<|ag J s.ev.d4,.os 20 1 0<|M s.dw],83,.cl,X⟩,bDd,bDd,bDd,bV 3 A7 s.dw],λv b=>⟨Ag AX v 1,AJ v 2,AJ v 3,rT b,rG b,AV A7 b 20⟩,Sy,λs r=> {s with i:=r.i,p.st:=r.p.st,p.mi:=r.p.mi,p.me:=r.p.me,dw:=r.dw},λs=>s,λ_ s=>s,[.exit 0],Zi,Sv,WW⟩
abbrev H5:=Pz.run
abbrev akw:=Pz.exn
def mH:aM:=[Rb,hM,T1,T5,T4,T2,RY,Rc,P6]
def asE:Aj:=FC mH (la 1 func41 JN<|la 2 func50 Ia<|la 9 func23 C2<|l0 mH) [⟨39,upM [.pc 16 7 AL,.kb 5] ML.m,P5⟩]
def aqb:Rq Sv Sy:=by
 intro s hI;refine ⟨λc1=>⟨?_,?_,?_,λc2=>⟨A9,A9,A9,A9,A9,A9,A9,A9,ak⟩,λc2=>⟨?_,?_,?_,?_,?_,?_,λc3=>⟨A9,A9,A9,A9,A9,A9,A9,A9,ak⟩,λc3=>⟨?_,?_,?_,?_,?_,?_,?_,λc4=>⟨?_,?_,λc5=>⟨?_,?_,?_,λc6=>⟨?_,?_,A9,?_,A9,?_,?_,A9,A9,?_,ak⟩,λc6=>⟨A9,A9,A9,?_,?_,A9,A9,?_,ak⟩⟩,λc5=>⟨A9,A9,A9,?_,?_,A9,A9,?_,ak⟩⟩,λc4=>⟨λc7=>⟨?_,?_,?_,λc8=>⟨?_,?_,A9,?_,A9,?_,A9,A9,A9,?_,ak⟩,λc8=>⟨A9,A9,A9,?_,A9,A9,A9,?_,ak⟩⟩,λc7=>⟨A9,A9,A9,?_,A9,A9,A9,?_,ak⟩⟩⟩⟩⟩,λc1=>⟨A9,A9,A9,A9,A9,A9,A9,A9,ak⟩⟩
 all_goals ((obtain ⟨h0,h1,h2,h3,hg,l1,l2,l3,l4,l5⟩:=hI;simp only [AU] at c1;first|(rw [hg];omega) |omega|exact ⟨rfl,AH⟩ |(rw [aLx];exact aGb)))
def aEL:Pz.Ok:={}
def aDU:Pz.Pf (tK):=⟨ay8,λs h=>rfl,asv,aqb⟩
def KO:=s2 (b:=bN f42 0) aEL aDU mH asE
def amB:Rs Zi akw H5 (λs:Il=>Dk (λk d=>I3 s.p.gs s.p.ca d (k:Y)) s.i.toNat ⟨s.p.st,s.p.mi,s.p.me,s.dw⟩ (s.n-s.i).toNat) (λx s' (v:DW)=>x=.exit 0/\(⟨s'.p.st,s'.p.mi,s'.p.me,s'.dw⟩:DW)=v):=CM aEL aDU (λs hI=>by
  show allR _ _ ((Sy s).rd s)
  unfold Sy XV;dsimp only [T.rd,T.rl];obtain ⟨h0,h1,h2,h3,hg,l1,l2,l3,l4,l5⟩:=hI
  have hi:((s.i.toNat:aC):Y)=s.i:=Bu h0
  rw [hg];simp only [aLx];refine allR_ite (λc1=>?_) λc1=>?_
  ·refine allR_ite (λc2=>?_) (λc2=>?_)
   ·have c1:s.i<s.n:=AQ
    rw [AG (x:=s.i+1),JG h0 c1,hi]
    have c2:(BA s.p.ca s.i).2.2.1=0:=DG<|(C8 _).mp c2
    rw [abD c2];rfl
   ·refine allR_ite (λc3=>?_) (λc3=>?_)
    ·have c1:s.i<s.n:=AQ
     rw [AG (x:=s.i+1),JG h0 c1,hi]
     have c2:¬(BA s.p.ca s.i).2.2.1=0:=DP.1<|(GC _).mp c2
     have c3:=DP.1 c3
     rw [ayA c2 c3];rfl
    ·refine allR_ite (λc4=>?_) (λc4=>?_)
     ·refine allR_ite (λc5=>?_) (λc5=>?_)
      ·refine allR_ite (λc6=>?_) (λc6=>?_)
       ·have c1:s.i<s.n:=AQ
        rw [AG (x:=s.i+1),JG h0 c1,hi]
        have c2:¬(BA s.p.ca s.i).2.2.1=0:=DP.1<|(GC _).mp c2
        have c3:Gs (BA s.p.ca s.i) (Bz s.p.mi s.i) (AF s.p.gs s.i).2.2.1 (BH (AF s.p.gs s.i)<|BI s.p.st s.i)=0:=DG c3
        rw [Sp c2 c3];rw [AD (show Ei (FD s.p.me s.i) (Di (BA s.p.ca s.i) (Bz s.p.mi s.i) (AF s.p.gs s.i).2.2.1<|BH (AF s.p.gs s.i)<|BI s.p.st s.i) (cnt<|DL (BA s.p.ca s.i) (Bz s.p.mi s.i) (AF s.p.gs s.i).2.2.1<|BH (AF s.p.gs s.i)<|BI s.p.st s.i)=0 from eq_of_beq c4)];exact aIB
       ·have c1:s.i<s.n:=AQ
        rw [AG (x:=s.i+1),JG h0 c1,hi]
        have c2:¬(BA s.p.ca s.i).2.2.1=0:=DP.1<|(GC _).mp c2
        have c3:Gs (BA s.p.ca s.i) (Bz s.p.mi s.i) (AF s.p.gs s.i).2.2.1 (BH (AF s.p.gs s.i)<|BI s.p.st s.i)=0:=DG c3
        rw [Sp c2 c3];rw [AD (show Ei (FD s.p.me s.i) (Di (BA s.p.ca s.i) (Bz s.p.mi s.i) (AF s.p.gs s.i).2.2.1<|BH (AF s.p.gs s.i)<|BI s.p.st s.i) (cnt<|DL (BA s.p.ca s.i) (Bz s.p.mi s.i) (AF s.p.gs s.i).2.2.1<|BH (AF s.p.gs s.i)<|BI s.p.st s.i)=0 from eq_of_beq c4)];exact aIC
      ·have c1:s.i<s.n:=AQ
       rw [AG (x:=s.i+1),JG h0 c1,hi]
       have c2:¬(BA s.p.ca s.i).2.2.1=0:=DP.1<|(GC _).mp c2
       have c3:Gs (BA s.p.ca s.i) (Bz s.p.mi s.i) (AF s.p.gs s.i).2.2.1 (BH (AF s.p.gs s.i)<|BI s.p.st s.i)=0:=DG c3
       rw [Sp c2 c3];rw [AD (show Ei (FD s.p.me s.i) (Di (BA s.p.ca s.i) (Bz s.p.mi s.i) (AF s.p.gs s.i).2.2.1<|BH (AF s.p.gs s.i)<|BI s.p.st s.i) (cnt<|DL (BA s.p.ca s.i) (Bz s.p.mi s.i) (AF s.p.gs s.i).2.2.1<|BH (AF s.p.gs s.i)<|BI s.p.st s.i)=0 from eq_of_beq c4)];exact aHq
     ·refine allR_ite (λc5=>?_) (λc5=>?_)
      ·refine allR_ite (λc6=>?_) (λc6=>?_)
       ·have c1:s.i<s.n:=AQ
        rw [AG (x:=s.i+1),JG h0 c1,hi]
        have c2:¬(BA s.p.ca s.i).2.2.1=0:=DP.1<|(GC _).mp c2
        have c3:Gs (BA s.p.ca s.i) (Bz s.p.mi s.i) (AF s.p.gs s.i).2.2.1 (BH (AF s.p.gs s.i)<|BI s.p.st s.i)=0:=DG c3
        rw [Sp c2 c3];rw [AE (show ¬Ei (FD s.p.me s.i) (Di (BA s.p.ca s.i) (Bz s.p.mi s.i) (AF s.p.gs s.i).2.2.1<|BH (AF s.p.gs s.i)<|BI s.p.st s.i) (cnt<|DL (BA s.p.ca s.i) (Bz s.p.mi s.i) (AF s.p.gs s.i).2.2.1<|BH (AF s.p.gs s.i)<|BI s.p.st s.i)=0 from Bt.1 c4)];exact aIB
       ·have c1:s.i<s.n:=AQ
        rw [AG (x:=s.i+1),JG h0 c1,hi]
        have c2:¬(BA s.p.ca s.i).2.2.1=0:=DP.1<|(GC _).mp c2
        have c3:Gs (BA s.p.ca s.i) (Bz s.p.mi s.i) (AF s.p.gs s.i).2.2.1 (BH (AF s.p.gs s.i)<|BI s.p.st s.i)=0:=DG c3
        rw [Sp c2 c3];rw [AE (show ¬Ei (FD s.p.me s.i) (Di (BA s.p.ca s.i) (Bz s.p.mi s.i) (AF s.p.gs s.i).2.2.1<|BH (AF s.p.gs s.i)<|BI s.p.st s.i) (cnt<|DL (BA s.p.ca s.i) (Bz s.p.mi s.i) (AF s.p.gs s.i).2.2.1<|BH (AF s.p.gs s.i)<|BI s.p.st s.i)=0 from Bt.1 c4)];exact aIC
      ·have c1:s.i<s.n:=AQ
       rw [AG (x:=s.i+1),JG h0 c1,hi]
       have c2:¬(BA s.p.ca s.i).2.2.1=0:=DP.1<|(GC _).mp c2
       have c3:=DG c3
       rw [Sp c2 c3];rw [AE (show ¬Ei (FD s.p.me s.i) (Di (BA s.p.ca s.i) (Bz s.p.mi s.i) (AF s.p.gs s.i).2.2.1<|BH (AF s.p.gs s.i)<|BI s.p.st s.i) (cnt<|DL (BA s.p.ca s.i) (Bz s.p.mi s.i) (AF s.p.gs s.i).2.2.1<|BH (AF s.p.gs s.i)<|BI s.p.st s.i)=0 from Bt.1 c4)];exact aHq
  ·have c1:s.n<=s.i:=AQ
   exact ⟨rfl,(fq c1).symm⟩)
structure JZ where
 m:aG
 (k i:Y)
 p:PK
 ev:EW
 (dw out:aB)
def azN (s:JZ):aD:=[.os 21 1 0<|M s.out,s.m,s.k,s.i]
def azJ (s:JZ):aE:=[bDd,bDd,zB,bDd,bV 62 AR s.p.cs,bDd,bDd,bDd,bDd,bDd,bDd,bDd,bDd,bDd,bDd,bV 3 A7 s.p.tg,⟨[.os 4 11 0<|M s.p.cs,.xl .str s.p.os,.xl AY s.p.ks,.xl AX s.p.gs,.xl AZ s.p.bs,.v<|ag J s.p.tk,.v<|.bool s.p.up,.xl AL s.p.ls,.v<|ag J s.p.se,.xl (.int aw) s.p.fl,.xl Ae s.p.ra,.v<|ag J s.p.nx,.xl Al s.p.st,.xl AL s.p.ca,.xl Ap s.p.mi,.xl Az s.p.me,.xl Aq s.p.dm,.xl Au s.p.lk,.xl A7 s.p.dr,.os 15 1 0<|M s.p.tg,.v<|ag J s.ev.ek,.v<|ag J s.ev.en,.v<|ag J s.ev.em,.v<|ag J s.ev.c1,.v<|ag J s.ev.c2,.v<|ag J s.ev.c3,.v<|ag J s.ev.c4,.v<|ag J s.ev.c5,.v<|.bool s.ev.d1,.v<|ag J s.ev.d2,.v<|ag J s.ev.d3,.v<|ag J s.ev.d4,.os 20 1 0<|M s.dw],83,.cl,X⟩,bDd,bDd,bDd,bV 3 A7 s.dw,bV 3 A7 s.out]
def ag6:=bN f71 0
def nB (s:JZ):T (Rd JZ):=letI a:=s.out.set s.i.toNat (AF s.m s.i).2.2.2.2.2.2.1;.br (an<|s.i<s.k) (.ix s.i (M s.m)<|.ik s.i (M s.out)<|.re (M s.out) a<|.rl s.p.cs<|.rl s.p.tg<|.rl s.dw<|.nx {s with i:=AA<|s.i+1,out:=a})<|.rl s.out<|.rl s.p.cs<|.rl s.p.tg<|.rl s.dw<|.so (.exit 0) s
def Zz (s:JZ):Prop:=s.i=0/\s.k=(M s.m:Y)/\s.k<=1000/\M s.out=M s.m/\(∀j,0<=j->j<s.k->gi s.out j=0)/\True
def Tb (s:JZ):Prop:=(0<=s.i/\s.i<=s.k)/\s.k=(M s.m:Y)/\s.k<=1000/\M s.out=M s.m/\(∀j,0<=j->j<s.k->gi s.out j=if j<s.i then C7 (AF s.m j) else 0)/\True
def jF (s:JZ):aC:=(s.k-s.i).toNat
def pW (x:Ex) (s s':JZ):Prop:=x=.exit 0/\s'.out=Ep (M s'.m) (λj=>C7<|AF s'.m j)
def ax2:∀s,Zz s->Tb s:=by
 exact OJ
def apZ:Da Tb jF pW nB:=by
 intro s hI;obtain ⟨⟨h0,h1⟩,h2,h3,h4,h5,h6⟩:=hI;refine allR_ite (λc1=>?_) λc1=>?_
 ·have c1:s.i<s.k:=AQ
  rw [AG (x:=s.i+1)];refine ⟨⟨⟨A8,A8⟩,h2,h3,A8,λj j0 j1=>?_,h6⟩,by simp only [jF];omega⟩
  simp only;rw [Hj h0 A0 j0];exact cb
 ·exact Vh
def NY:LpD JZ:=⟨21,25,[3,11,12,13],[.pc 16 12 Al,.kb 8,.pc 16 13 AL,.kb 9,.pc 16 14 Ap,.kb 10,.pc 16 15 Az,.kb 11,.pc 16 18 A7,.kb 14],azN,azJ,λv b=>⟨Ag AX v 1,AJ v 2,AJ v 3,rB b 16 4 0 0 0 0 0 0 0 0 0 0 15,rG b,AV A7 b 20,AV A7 b 21⟩,nB,λs r=> {s with i:=r.i,out:=r.out},λs=>s,λ_ s=>s,[.exit 0],Zz,Tb,jF⟩
abbrev Wo:=NY.run
abbrev akW:=NY.exn
def Lw:aM:=[Rb,T1,T5,T4,T2,RY,Rc,P6]
def asD:Aj:=FC Lw (la 2 func42 KO<|la 1 func41 JN<|la 2 func50 Ia<|la 9 func23 C2<|l0 Lw) [⟨39,upM [.pc 16 7 AL,.kb 5] ML.m,P5⟩]
def aoy:Rq Tb nB:=by
 intro s hI;refine ⟨λc1=>⟨?_,?_,?_,?_,A9,A9,A9,ak⟩,λc1=>⟨A9,A9,A9,A9,ak⟩⟩
 all_goals ((obtain ⟨⟨h0,h1⟩,h2,h3,h4,h5,h6⟩:=hI;(try simp only [AU] at c1);first|omega|exact ⟨rfl,AH⟩ |(omega)))
def aEz:NY.Ok:={}
def aCg:NY.Pf (pW):=⟨ax2,λs h=>rfl,apZ,aoy⟩
def Ls:SA 21 ag6 NY:=s2 aEz aCg Lw asD
def ail:Fi Zz Tb pW akW Wo:=LpD.fin aEz aCg
structure Ja where
 m:aB
 (k i:Y)
 p:PK
 ev:EW
 (dw CF:aB)
def azO (s:Ja):aD:=[.own 16 0,.os 21 1 0<|M s.CF,.xl A7 s.m,s.k,s.i]
def azK (s:Ja):aE:=[bDd,bDd,zB,bDd,bV 62 AR s.p.cs,bDd,bDd,bDd,bDd,bDd,bDd,bDd,bDd,bDd,bDd,bV 3 A7 s.p.tg,⟨[.os 4 11 0<|M s.p.cs,.xl .str s.p.os,.xl AY s.p.ks,.xl AX s.p.gs,.xl AZ s.p.bs,.v<|ag J s.p.tk,.v<|.bool s.p.up,.xl AL s.p.ls,.v<|ag J s.p.se,.xl (.int aw) s.p.fl,.xl Ae s.p.ra,.v<|ag J s.p.nx,.xl Al s.p.st,.xl AL s.p.ca,.xl Ap s.p.mi,.xl Az s.p.me,.xl Aq s.p.dm,.xl Au s.p.lk,.xl A7 s.p.dr,.os 15 1 0<|M s.p.tg,.v<|ag J s.ev.ek,.v<|ag J s.ev.en,.v<|ag J s.ev.em,.v<|ag J s.ev.c1,.v<|ag J s.ev.c2,.v<|ag J s.ev.c3,.v<|ag J s.ev.c4,.v<|ag J s.ev.c5,.v<|.bool s.ev.d1,.v<|ag J s.ev.d2,.v<|ag J s.ev.d3,.v<|ag J s.ev.d4,.os 20 1 0<|M s.dw],83,.cl,X⟩,bDd,bDd,bDd,bV 3 A7 s.dw,bV 3 A7 s.CF]
def ag7:=bN f43 0
def nC (s:Ja):T (Rd Ja):=letI b:=s.CF.getD s.i.toNat<|Ty.dflt A7;letI c:=M s.CF;letI a:=s.CF.set s.i.toNat (if b<(gi s.m s.i) then (gi s.m s.i) else b);.br (an<|s.i<s.k) (.ix s.i (M s.m)<|.ik s.i c<|.ik s.i c<|.re c a<|.rl s.p.cs<|.rl s.p.tg<|.rl s.dw<|.nx {s with i:=AA<|s.i+1,CF:=a})<|.rl s.CF<|.rl s.p.cs<|.rl s.p.tg<|.rl s.dw<|.so (.exit 0) s
def bF (s:Ja):Prop:=s.i=0/\s.k=(M s.m:Y)/\s.k<=1000/\M s.CF=M s.m/\(∀j,0<=j->j<s.k->gi s.CF j=C7 (AF s.p.gs j))/\True
def Tc (s:Ja):Prop:=(0<=s.i/\s.i<=s.k)/\s.k=(M s.m:Y)/\s.k<=1000/\M s.CF=M s.m/\(∀j,0<=j->j<s.k->gi s.CF j=if j<s.i then mx (C7<|AF s.p.gs j) (gi s.m j) else C7 (AF s.p.gs j))/\True
def ka (s:Ja):aC:=(s.k-s.i).toNat
def pX (x:Ex) (s s':Ja):Prop:=x=.exit 0/\s'.CF=Ep (M s'.m) (λj=>mx (C7<|AF s'.p.gs j)<|gi s'.m j)
def ax3:∀s,bF s->Tc s:=by
 exact OJ
def apa:Da Tc ka pX nC:=by
 intro s hI;obtain ⟨⟨h0,h1⟩,h2,h3,h4,h5,h6⟩:=hI;refine allR_ite (λc1=>?_) λc1=>?_
 ·have c1:s.i<s.k:=AQ
  rw [AG (x:=s.i+1)];refine ⟨⟨⟨A8,A8⟩,h2,h3,A8,λj j0 j1=>?_,h6⟩,by simp only [ka];omega⟩
  simp only
  have hi:=h5 s.i h0 c1
  rw [AE (show ¬s.i<s.i by omega)] at hi
  rw [Hj h0 W6 j0]
  by_cases e:j=s.i
  ·subst e
   rw [AD rfl,AD (show s.i<s.i+1 by omega)]
   show mx (gi s.CF s.i) (gi s.m s.i)=_
   rw [hi]
  ·exact qx
 ·exact Vh
def NZ:LpD Ja:=⟨21,125,[0,2,51,52,53],[],azO,azK,λv b=>⟨Ag A7 v 2,AJ v 3,AJ v 4,rB b 16 4 0 0 0 0 0 0 0 0 0 0 15,rG b,AV A7 b 20,AV A7 b 21⟩,nC,λs r=> {s with i:=r.i,CF:=r.CF},λs=>s,λ_ s=>s,[.exit 0],bF,Tc,ka⟩
abbrev gE:=NZ.run
abbrev akX:=NZ.exn
def asB:Aj:=FC Lw (la 3 func71 Ls<|la 2 func42 KO<|la 1 func41 JN<|la 2 func50 Ia<|la 9 func23 C2<|l0 Lw) [⟨39,upM [.pc 16 7 AL,.kb 5] ML.m,P5⟩]
def aoz:Rq Tc nC:=by
 intro s hI;refine ⟨λc1=>⟨?_,?_,?_,?_,?_,?_,A9,A9,A9,ak⟩,λc1=>⟨A9,A9,A9,A9,ak⟩⟩
 all_goals ((obtain ⟨⟨h0,h1⟩,h2,h3,h4,h5,h6⟩:=hI;(try simp only [AU] at c1);first|omega|exact ⟨rfl,AH⟩ |(omega)))
def aF0:NZ.Ok:={}
def aCh:NZ.Pf (pX):=⟨ax3,λs h=>rfl,apa,aoz⟩
def NB:SA 21 ag7 NZ:=s2 aF0 aCh Lw asB
def aim:Fi bF Tc pX akX gE:=LpD.fin aF0 aCh
def arL {gs:aG}{am:aB}{b:aL}:((Gp gs am==0)&&!(an (M am=M gs)&&!b))=(an (M am=M gs)&&b):=by
 unfold Gp
 grind
def cdS (cs:aK) (tg:aB) (i:Y):aK:=letI a:=(cpC cs).getD i.toNat<|Ty.dflt AR;(cpC cs).set i.toNat (a.1,(a.2.1,((tg.getD i.toNat<|Ty.dflt A7),a.2.2.2)))
def Xl {cs:aK}{tg:aB}{i:Y}(h0:0<=i) (h:i<(M cs:Y)):cdS cs tg i=cs.set i.toNat (G3 (Aa cs i.toNat)<|gi tg i.toNat):=by
 have e1:cs.getD i.toNat (Ty.dflt AR)=Aa cs (i.toNat:Y):=by
  rw [DC,Cs A0];rw [show Aa cs (i.toNat:Y)=cs[i.toNat]' A0 from Oz A0];rfl
 unfold cdS;rw [X7,e1,Bu h0];rfl
structure Gb where
 am:aB
 (n i:Y)
 p:PK
 ev:EW
 dw:aB
def azM (s:Gb):aD:=[.own 16 0,.xl A7 s.am,.os 15 1 0<|M s.p.tg,s.n,s.i]
def azI (s:Gb):aE:=[bDd,bDd,zB,bDd,⟨[],62,.dead,X⟩,bDd,bDd,bDd,bDd,bDd,bDd,bDd,bDd,bDd,bDd,bV 3 A7 s.p.tg,⟨[.os 21 11 0<|M s.p.cs,.xl .str s.p.os,.xl AY s.p.ks,.xl AX s.p.gs,.xl AZ s.p.bs,.v<|ag J s.p.tk,.v<|.bool s.p.up,.xl AL s.p.ls,.v<|ag J s.p.se,.xl (.int aw) s.p.fl,.xl Ae s.p.ra,.v<|ag J s.p.nx,.xl Al s.p.st,.xl AL s.p.ca,.xl Ap s.p.mi,.xl Az s.p.me,.xl Aq s.p.dm,.xl Au s.p.lk,.xl A7 s.p.dr,.os 15 1 0<|M s.p.tg,.v<|ag J s.ev.ek,.v<|ag J s.ev.en,.v<|ag J s.ev.em,.v<|ag J s.ev.c1,.v<|ag J s.ev.c2,.v<|ag J s.ev.c3,.v<|ag J s.ev.c4,.v<|ag J s.ev.c5,.v<|.bool s.ev.d1,.v<|ag J s.ev.d2,.v<|ag J s.ev.d3,.v<|ag J s.ev.d4,.os 20 1 0<|M s.dw],83,.cl,X⟩,bDd,bDd,bDd,bV 3 A7 s.dw,bV 62 AR s.p.cs]
def ag5:=bN f43 1
def Y5 (s:Gb):T (Rd Gb):=letI a:=((M s.p.cs:aC):Y);letI b:=cdS s.p.cs s.p.tg s.i;letI c:=(b.drop 0).take a.toNat;letI d:=AA<|s.i+1;.br (an<|s.i<s.n) (.ik s.i (M s.p.tg)<|.ik s.i (M s.p.cs)<|.br (an<|(s.p.tg.getD s.i.toNat<|Ty.dflt A7)>=(s.p.cs.getD s.i.toNat<|Ty.dflt AR).2.2.1) (.rl s.p.tg<|.rl s.p.cs<|.rl s.p.tg<|.rl s.dw<|.nx {s with i:=d})<|.rm 96 a<|.rz s.p.cs<|.rc a (ByteArray.empty,((0:Y),((0:Y),((0:Y),(((0:Y),(0:Y)),((0:Y),((0:Y),((0:Y),((0:Y),(0:Y)))))))))) (M<|AI s.p.cs)<|.ix s.i a.toNat<|.req (s.i.toNat<M (cpC s.p.cs))<|.req (0+a.toNat<=M b)<|.req (B0 c s.p.os s.p.ks s.p.gs s.p.bs=U/\(M s.am=M s.p.gs->∀k:aC,k<M s.am->0<=gi s.am k/\gi s.am k<=80))<|.br (((Gp s.p.gs s.am)==0)&&(!(an (M s.am=M s.p.gs)&&!GA c s.p.gs s.am))) (.rl s.p.tg<|.re a.toNat b<|.rl s.p.tg<|.rl s.dw<|.nx {s with i:=d,p.cs:=b})<|.rl s.p.tg<|.rl s.p.cs<|.rl s.p.tg<|.rl s.dw<|.nx {s with i:=d})<|.rl s.p.tg<|.rl s.p.cs<|.rl s.p.tg<|.rl s.dw<|.so (.exit 2) s
def UH (s:Gb):Prop:=s.i=0/\s.n=(M s.p.tg:Y)/\M s.p.tg=M s.p.cs/\B0 s.p.cs s.p.os s.p.ks s.p.gs s.p.bs=U/\(∀k:aC,k<M s.p.cs->1<=gi s.p.tg k/\gi s.p.tg k<=1000)/\(M s.am=M s.p.gs->∀k:aC,k<M s.am->0<=gi s.am k/\gi s.am k<=80)
def Ta (s:Gb):Prop:=0<=s.i/\s.i<=s.n/\s.n=(M s.p.tg:Y)/\M s.p.tg=M s.p.cs/\B0 s.p.cs s.p.os s.p.ks s.p.gs s.p.bs=U/\(∀k:aC,k<M s.p.cs->1<=gi s.p.tg k/\gi s.p.tg k<=1000)/\(M s.am=M s.p.gs->∀k:aC,k<M s.am->0<=gi s.am k/\gi s.am k<=80)
def gr (s:Gb):aC:=(s.n-s.i).toNat
def acU (x:Ex) (s s':Gb):Prop:=True
def ax1:∀s,UH s->Ta s:=by
 exact qy
def jc {s:Gb}(hI:Ta s) (c1:s.i<s.n):letI a:=G3 (Aa s.p.cs s.i.toNat)<|gi s.p.tg s.i.toNat;((cdS s.p.cs s.p.tg s.i).drop 0).take ((M s.p.cs:aC):Y).toNat=s.p.cs.set s.i.toNat a/\B0 (s.p.cs.set s.i.toNat a) s.p.os s.p.ks s.p.gs s.p.bs=true:=by
 obtain ⟨h0,h1,h2,h3,h4,h5,h6⟩:=hI;rw [Xl h0 A0];exact ⟨by rw [Bq];exact CY AH,fU h4 A0<|h5 _ A0⟩
def apY:Da Ta gr acU Y5:=by
 intro s hI;unfold Y5;obtain ⟨h0,h1,h2,h3,h4,h5,h6⟩:=hI
 have hs:=CV.1 h4
 refine allR_ite (λc1=>allR_ite (λc2=>?_) λc2=>allR_ite (λc3=>?_) λc3=>?_) λc1=>trivial
 all_goals have c1:s.i<s.n:=AQ
 all_goals rw [AG (x:=s.i+1)]
 ·exact aIT
 ·rw [Xl h0 A0]
  exact ⟨⟨AP,AP,h2,A8,fU h4 A0<|h5 _ A0,A8,h6⟩,by simp only [gr];omega⟩
 ·exact aIT
def MJ:LpD Gb:=⟨21,125,[0,2,72,73,74],[.pc 16 12 Al,.kb 8,.pc 16 13 AL,.kb 9,.pc 16 14 Ap,.kb 10,.pc 16 15 Az,.kb 11,.pc 16 18 A7,.kb 14,.pb 2 A7,.ms 0 0],azM,azI,λv b=>⟨Ag A7 v 1,AJ v 3,AJ v 4,rB b 16 21 0 0 0 0 0 0 0 0 0 0 15,rG b,AV A7 b 20⟩,Y5,λs r=> {s with i:=r.i,p.cs:=r.p.cs},λs=>s,λ_ s=>s,[.exit 2],UH,Ta,gr⟩
abbrev Ot:=MJ.run
abbrev alH:=MJ.exn
def asA:Aj:=FC Lw (la 6 func43 NB<|la 3 func71 Ls<|la 2 func42 KO<|la 1 func41 JN<|la 2 func50 Ia<|la 9 func23 C2<|l0 Lw) [⟨39,upM [.pc 16 7 AL,.kb 5] ML.m,P5⟩]
def aox:Rq Ta Y5:=by
 intro s hI;refine ⟨λc1=>⟨?_,?_,?_,?_,λc2=>⟨A9,A9,A9,A9,ak⟩,λc2=>⟨?_,?_,?_,?_,?_,?_,?_,λc3=>⟨A9,?_,A9,A9,ak⟩,λc3=>⟨A9,A9,A9,A9,ak⟩⟩⟩,λc1=>⟨A9,A9,A9,A9,ak⟩⟩
 all_goals ((obtain ⟨h0,h1,h2,h3,h4,h5,h6⟩:=id hI;have hs:=CV.1 h4;simp only [AU] at c1;first|exact ⟨by rw [(jc hI c1).1];exact (jc hI c1).2,h6⟩ |((try rw [X7]);(try rw [D5]);(try rw [Xl h0 A0]);first|omega|exact ⟨rfl,AH⟩ |(simp;done))))
def aEy:MJ.Ok:={}
def aCf:MJ.Pf (acU):=⟨ax1,λs h=>rfl,apY,aox⟩
def Oq:SA 21 ag5 MJ:=s2 aEy aCf Lw asA
def aes:Rs UH alH Ot (λs:Gb=>Dk (VB s.p.gs s.p.tg s.am) s.i.toNat s.p.cs (s.n-s.i).toNat) (λx s' (v:aK)=>x=.exit 2/\s'.p.cs=v):=CM aEy aCf (λs hI=>by
  obtain ⟨h0,h1,h2,h3,h4,h5,h6⟩:=id hI
  have hs:=CV.1 h4
  refine allR_ite (λc1=>?_) λc1=>?_
  ·have c1:s.i<s.n:=A8
   have hg:s.p.tg.getD s.i.toNat (Ty.dflt A7)=gi s.p.tg s.i.toNat:=Mz
   have hc:(s.p.cs.getD s.i.toNat<|Ty.dflt AR)=Aa s.p.cs s.i.toNat:=Mz
   rw [AG (x:=s.i+1),JG h0 c1,hg,hc,(jc hI c1).1,Xl h0 A0,arL];refine allR_ite (λc2=>?_) λc2=>?_
   ·rw [show VB s.p.gs s.p.tg s.am s.i.toNat s.p.cs=s.p.cs from AD<|C9 c2]
    rfl
   refine allR_ite (λc3=>?_) λc3=>?_
   ·rw [show VB s.p.gs s.p.tg s.am s.i.toNat s.p.cs=_ from (AE<|Gu c2).trans<|AD c3]
    rfl
   ·rw [show VB s.p.gs s.p.tg s.am s.i.toNat s.p.cs=_ from (AE<|Gu c2).trans<|AE A8]
    rfl
  ·have c1:s.n<=s.i:=A8
   exact ⟨rfl,(fq c1).symm⟩)
structure En where
 p:PK
 ev:EW
def SX (s:En):aD:=[.own 16 0]
def V4 (s:En):aE:=[bDd,bDd,zB,bDd,bV 62 AR s.p.cs,bV 87 AL s.p.ls,bV 5 (.int aw) s.p.fl,bV 90 Ae s.p.ra,bV 94 Al s.p.st,bV 46 AL s.p.ca,bV 74 Ap s.p.mi,bV 66 Az s.p.me,bV 48 Aq s.p.dm,bV 99 Au s.p.lk,bV 3 A7 s.p.dr,bV 3 A7 s.p.tg,⟨[.os 4 11 0<|M s.p.cs,.xl .str s.p.os,.xl AY s.p.ks,.xl AX s.p.gs,.xl AZ s.p.bs,.v<|ag J s.p.tk,.v<|.bool s.p.up,.os 5 5 0<|M s.p.ls,.v<|ag J s.p.se,.os 6 1 0<|M s.p.fl,.os 7 2 0<|M s.p.ra,.v<|ag J s.p.nx,.os 8 4 0<|M s.p.st,.os 9 5 0<|M s.p.ca,.os 10 3 0<|M s.p.mi,.os 11 3 0<|M s.p.me,.os 12 4 0<|M s.p.dm,.os 13 6 0<|M s.p.lk,.os 14 1 0<|M s.p.dr,.os 15 1 0<|M s.p.tg,.v<|ag J s.ev.ek,.v<|ag J s.ev.en,.v<|ag J s.ev.em,.v<|ag J s.ev.c1,.v<|ag J s.ev.c2,.v<|ag J s.ev.c3,.v<|ag J s.ev.c4,.v<|ag J s.ev.c5,.v<|.bool s.ev.d1,.v<|ag J s.ev.d2,.v<|ag J s.ev.d3,.v<|ag J s.ev.d4,.v<|.slice aj 0 0],83,.cl,X⟩]
def afL (s:En):Hu:=(⟨{s.p with ls:=AI s.p.ls},s.ev⟩:Hu)
def Fv (s:En):LI:=(⟨(PK.AK<|{s.p with ls:=AI s.p.ls}).lk,(M (PK.AK<|{s.p with ls:=AI s.p.ls}).lk:Y),0,PK.AK<|{s.p with ls:=AI s.p.ls},s.ev,([]:aLZ)⟩:LI)
def Of (s:En):Ip:=(⟨((M (PK.AK<|{s.p with ls:=AI s.p.ls}).dr:aC):Y),0,{(PK.AK<|{s.p with ls:=AI s.p.ls}) with st:=(Hf<|Fv s).p.st,lk:=AI (Hf<|Fv s).left},s.ev⟩:Ip)
def FO (s:En):Il:=(⟨(PK.AK<|{s.p with ls:=AI s.p.ls}).gs,(M (PK.AK<|{s.p with ls:=AI s.p.ls}).gs:Y),0,{(PK.AK<|{s.p with ls:=AI s.p.ls}) with st:=(gN<|Of s).p.st,lk:=AI (Hf<|Fv s).left},s.ev,aq (M (PK.AK<|{s.p with ls:=AI s.p.ls}).gs:Y).toNat (0:Y)⟩:Il)
def KL (s:En):JZ:=letI a:=H5<|FO s;(⟨(PK.AK<|{s.p with ls:=AI s.p.ls}).gs,(M (PK.AK<|{s.p with ls:=AI s.p.ls}).gs:Y),0,{(PK.AK<|{s.p with ls:=AI s.p.ls}) with st:=AI a.p.st,ca:=AI (PK.AK<|{s.p with ls:=AI s.p.ls}).ca,mi:=AI a.p.mi,me:=AI a.p.me,lk:=AI (Hf<|Fv s).left,dr:=AI (PK.AK<|{s.p with ls:=AI s.p.ls}).dr},s.ev,a.dw,aq (M (PK.AK<|{s.p with ls:=AI s.p.ls}).gs:Y).toNat (0:Y)⟩:JZ)
def Oe (s:En):Ja:=letI a:=H5<|FO s;(⟨Ec (PK.AK<|{s.p with ls:=AI s.p.ls}).ls (M (PK.AK<|{s.p with ls:=AI s.p.ls}).gs:Y)<|AA<|(PK.AK<|{s.p with ls:=AI s.p.ls}).tk+1,(M (Ec (PK.AK<|{s.p with ls:=AI s.p.ls}).ls (M (PK.AK<|{s.p with ls:=AI s.p.ls}).gs:Y)<|AA<|(PK.AK<|{s.p with ls:=AI s.p.ls}).tk+1):Y),0,{(PK.AK<|{s.p with ls:=AI s.p.ls}) with st:=AI a.p.st,ca:=AI (PK.AK<|{s.p with ls:=AI s.p.ls}).ca,mi:=AI a.p.mi,me:=AI a.p.me,lk:=AI (Hf<|Fv s).left,dr:=AI (PK.AK<|{s.p with ls:=AI s.p.ls}).dr},s.ev,a.dw,(Wo<|KL s).out⟩:Ja)
def Od (s:En):Gb:=letI a:=H5<|FO s;(⟨AI (gE<|Oe s).CF,((M (PK.AK<|{s.p with ls:=AI s.p.ls}).tg:aC):Y),0,{(PK.AK<|{s.p with ls:=AI s.p.ls}) with st:=AI a.p.st,ca:=AI (PK.AK<|{s.p with ls:=AI s.p.ls}).ca,mi:=AI a.p.mi,me:=AI a.p.me,lk:=AI (Hf<|Fv s).left,dr:=AI (PK.AK<|{s.p with ls:=AI s.p.ls}).dr},s.ev,a.dw⟩:Gb)
def Oc (s:En):Gb:=letI a:=H5<|FO s;(⟨([]:aB),((M (PK.AK<|{s.p with ls:=AI s.p.ls}).tg:aC):Y),0,{(PK.AK<|{s.p with ls:=AI s.p.ls}) with st:=AI a.p.st,ca:=AI (PK.AK<|{s.p with ls:=AI s.p.ls}).ca,mi:=AI a.p.mi,me:=AI a.p.me,lk:=AI (Hf<|Fv s).left,dr:=AI (PK.AK<|{s.p with ls:=AI s.p.ls}).dr},s.ev,a.dw⟩:Gb)
structure Ti where
 res:Y
 p:PK
 ev:EW
 dw:aB
def abL (s:Ti):LV:=.v<|ag J s.res
def ac7 (s:Ti):aE:=[bDd,bDd,zB,bDd,bDd,bDd,bDd,bDd,bDd,bDd,bDd,bDd,bDd,bDd,bDd,bDd,⟨[.xl AR s.p.cs,.xl .str s.p.os,.xl AY s.p.ks,.xl AX s.p.gs,.xl AZ s.p.bs,.v<|ag J s.p.tk,.v<|.bool s.p.up,.xl AL s.p.ls,.v<|ag J s.p.se,.xl (.int aw) s.p.fl,.xl Ae s.p.ra,.v<|ag J s.p.nx,.xl Al s.p.st,.xl AL s.p.ca,.xl Ap s.p.mi,.xl Az s.p.me,.xl Aq s.p.dm,.xl Au s.p.lk,.xl A7 s.p.dr,.xl A7 s.p.tg,.v<|ag J s.ev.ek,.v<|ag J s.ev.en,.v<|ag J s.ev.em,.v<|ag J s.ev.c1,.v<|ag J s.ev.c2,.v<|ag J s.ev.c3,.v<|ag J s.ev.c4,.v<|ag J s.ev.c5,.v<|.bool s.ev.d1,.v<|ag J s.ev.d2,.v<|ag J s.ev.d3,.v<|ag J s.ev.d4,.xl A7 s.dw],83,.cl,X⟩]
def YC (s:En):T Ti:=letI a:=H5<|FO s;letI b:=AI (Hf<|Fv s).left;.br (s.p.tk==1000000) (.rz s.p.cs<|.rz s.p.ls<|.rz s.p.fl<|.rz s.p.ra<|.rz s.p.st<|.rz s.p.ca<|.rz s.p.mi<|.rz s.p.me<|.rz s.p.dm<|.rz s.p.lk<|.rz s.p.dr<|.rz s.p.tg<|.ok<|⟨15,⟨AI s.p.cs,s.p.os,s.p.ks,s.p.gs,s.p.bs,s.p.tk,s.p.up,AI s.p.ls,s.p.se,AI s.p.fl,AI s.p.ra,s.p.nx,AI s.p.st,AI s.p.ca,AI s.p.mi,AI s.p.me,AI s.p.dm,AI s.p.lk,AI s.p.dr,AI s.p.tg⟩,s.ev,([]:aB)⟩)<|.rz s.p.ls<|.rl s.p.cs<|.rl s.p.fl<|.rl s.p.ra<|.pb s.p<|.req (auy<|afL s)<|.r0 Lk<|.pd (PK.AK<|{s.p with ls:=AI s.p.ls})<|.req (Q5.q<|Fv s)<|.rz (Hf<|Fv s).left (.rl (PK.AK<|{s.p with ls:=AI s.p.ls}).dr<|.rl (PK.AK<|{s.p with ls:=AI s.p.ls}).cs<|.rl (Hf<|Fv s).p.st<|.rl (PK.AK<|{s.p with ls:=AI s.p.ls}).ca<|.rl (PK.AK<|{s.p with ls:=AI s.p.ls}).mi<|.rl (PK.AK<|{s.p with ls:=AI s.p.ls}).me<|.rl (PK.AK<|{s.p with ls:=AI s.p.ls}).dr<|.rl (PK.AK<|{s.p with ls:=AI s.p.ls}).tg<|.req (NQ.q<|Of s)<|.rm 8 (M (PK.AK<|{s.p with ls:=AI s.p.ls}).gs:Y)<|.rl (PK.AK<|{s.p with ls:=AI s.p.ls}).cs<|.rl (gN<|Of s).p.st<|.rl (PK.AK<|{s.p with ls:=AI s.p.ls}).ca<|.rl (PK.AK<|{s.p with ls:=AI s.p.ls}).mi<|.rl (PK.AK<|{s.p with ls:=AI s.p.ls}).me<|.rl (PK.AK<|{s.p with ls:=AI s.p.ls}).dr<|.rl (PK.AK<|{s.p with ls:=AI s.p.ls}).tg<|.re (M (PK.AK<|{s.p with ls:=AI s.p.ls}).gs:Y).toNat (aq (M (PK.AK<|{s.p with ls:=AI s.p.ls}).gs:Y).toNat (0:Y))<|.req (Pz.q<|FO s)<|.br (!(PK.AK<|{s.p with ls:=AI s.p.ls}).up) (.rz (PK.AK<|{s.p with ls:=AI s.p.ls}).cs<|.rz a.p.st<|.rz (PK.AK<|{s.p with ls:=AI s.p.ls}).ca<|.rz a.p.mi<|.rz a.p.me<|.rz (PK.AK<|{s.p with ls:=AI s.p.ls}).dr<|.rz (PK.AK<|{s.p with ls:=AI s.p.ls}).tg<|.rz a.dw<|.ok<|⟨0,{(PK.AK<|{s.p with ls:=AI s.p.ls}) with cs:=AI (PK.AK<|{s.p with ls:=AI s.p.ls}).cs,tk:=AA<|(PK.AK<|{s.p with ls:=AI s.p.ls}).tk+1,st:=AI a.p.st,ca:=AI (PK.AK<|{s.p with ls:=AI s.p.ls}).ca,mi:=AI a.p.mi,me:=AI a.p.me,lk:=b,dr:=AI (PK.AK<|{s.p with ls:=AI s.p.ls}).dr,tg:=AI (PK.AK<|{s.p with ls:=AI s.p.ls}).tg},s.ev,AI a.dw⟩)<|.br ((I0 (PK.AK<|{s.p with ls:=AI s.p.ls}).ls (M (PK.AK<|{s.p with ls:=AI s.p.ls}).gs:Y)<|AA<|(PK.AK<|{s.p with ls:=AI s.p.ls}).tk+1)==0) (.rm 8 (M (PK.AK<|{s.p with ls:=AI s.p.ls}).gs:Y)<|.rz a.p.st<|.rz (PK.AK<|{s.p with ls:=AI s.p.ls}).ca<|.rz a.p.mi<|.rz a.p.me<|.rz (PK.AK<|{s.p with ls:=AI s.p.ls}).dr<|.re (M (PK.AK<|{s.p with ls:=AI s.p.ls}).gs:Y).toNat (aq (M (PK.AK<|{s.p with ls:=AI s.p.ls}).gs:Y).toNat (0:Y))<|.rl (PK.AK<|{s.p with ls:=AI s.p.ls}).cs<|.rl (PK.AK<|{s.p with ls:=AI s.p.ls}).tg<|.rl a.dw<|.req (NY.q<|KL s)<|.rl (Wo<|KL s).out<|.rl (PK.AK<|{s.p with ls:=AI s.p.ls}).cs<|.rl (PK.AK<|{s.p with ls:=AI s.p.ls}).tg<|.rl a.dw<|.req (NZ.q<|Oe s)<|.rz (gE<|Oe s).CF<|.rl (PK.AK<|{s.p with ls:=AI s.p.ls}).tg<|.rl (PK.AK<|{s.p with ls:=AI s.p.ls}).cs<|.rl (PK.AK<|{s.p with ls:=AI s.p.ls}).tg<|.rl a.dw<|.req (MJ.q<|Od s)<|.rz (Ot<|Od s).p.cs<|.rz (PK.AK<|{s.p with ls:=AI s.p.ls}).tg<|.rz a.dw<|.ok<|⟨0,{(PK.AK<|{s.p with ls:=AI s.p.ls}) with cs:=AI (Ot<|Od s).p.cs,tk:=AA<|(PK.AK<|{s.p with ls:=AI s.p.ls}).tk+1,st:=AI a.p.st,ca:=AI (PK.AK<|{s.p with ls:=AI s.p.ls}).ca,mi:=AI a.p.mi,me:=AI a.p.me,lk:=b,dr:=AI (PK.AK<|{s.p with ls:=AI s.p.ls}).dr,tg:=AI (PK.AK<|{s.p with ls:=AI s.p.ls}).tg},s.ev,AI a.dw⟩)<|.rz a.p.st<|.rz (PK.AK<|{s.p with ls:=AI s.p.ls}).ca<|.rz a.p.mi<|.rz a.p.me<|.rz (PK.AK<|{s.p with ls:=AI s.p.ls}).dr<|.rl (PK.AK<|{s.p with ls:=AI s.p.ls}).tg<|.rl (PK.AK<|{s.p with ls:=AI s.p.ls}).cs<|.rl (PK.AK<|{s.p with ls:=AI s.p.ls}).tg<|.rl a.dw<|.req (MJ.q<|Oc s)<|.rz (Ot<|Oc s).p.cs<|.rz (PK.AK<|{s.p with ls:=AI s.p.ls}).tg<|.rz a.dw<|.ok<|⟨0,{(PK.AK<|{s.p with ls:=AI s.p.ls}) with cs:=AI (Ot<|Oc s).p.cs,tk:=AA<|(PK.AK<|{s.p with ls:=AI s.p.ls}).tk+1,st:=AI a.p.st,ca:=AI (PK.AK<|{s.p with ls:=AI s.p.ls}).ca,mi:=AI a.p.mi,me:=AI a.p.me,lk:=b,dr:=AI (PK.AK<|{s.p with ls:=AI s.p.ls}).dr,tg:=AI (PK.AK<|{s.p with ls:=AI s.p.ls}).tg},s.ev,AI a.dw⟩)
def ug (s:En):Prop:=JP s.p
def SD (s:En):Ti:=⟨PK.HB s.p,Gm (PK.HB s.p) (PK.GY s.p) s.p,s.ev,if PK.HB s.p=0 then PK.Ij s.p else []⟩
def v5:C4 En Ti:=⟨SX,V4,λv b=>⟨rF b,rG b⟩,ug,[0,1,3],[.pc 16 0 AR,.kb 4,.pc 16 7 AL,.kb 5,.pc 16 9<|.int aw,.kb 6,.pc 16 10 Ae,.kb 7,.pc 16 12 Al,.kb 8,.pc 16 13 AL,.kb 9,.pc 16 14 Ap,.kb 10,.pc 16 15 Az,.kb 11,.pc 16 16 Aq,.kb 12,.pc 16 17 Au,.kb 13,.pc 16 18 A7,.kb 14,.pc 16 19 A7,.kb 15,.pc 16 32 A7],abL,ac7,SD⟩
abbrev auq (s:En):Prop:=ug s/\SX s=SX s/\V4 s=V4 s
def Ro:aM:=[Rb,T1,T5,T4,T2,RY,Rc,P6]
def aFz:Aj:=FC Ro (la 11 func43 Oq<|la 6 func43 NB<|la 3 func71 Ls<|la 2 func42 KO<|la 1 func41 JN<|la 2 func50 Ia<|la 9 func23 C2<|l0 Ro) [⟨39,upM [.pc 16 7 AL,.kb 5] ML.m,P5⟩]
def aLU:aL3:=addL 43 21 11 (MJ.lp)<|addL 43 21 6 (NZ.lp)<|addL 71 21 3 (NY.lp)<|addL 42 20 2 (Pz.lp)<|addL 41 20 1 (NQ.lp)<|addL 50 19 2 (Q5.lp)<|addL 23 0 9 (Eb.lp)<|unrL prog AO Ro 20 2
def ah3:LLok prog AO aLU:=addL_ok func43 rfl AM Oq<|addL_ok func43 rfl AM NB<|addL_ok func71 rfl AM Ls<|addL_ok func42 rfl AM KO<|addL_ok func41 rfl AM JN<|addL_ok func50 rfl AM Ia<|addL_ok func23 rfl AM C2<|unrL_ok<|gk Ro
def ar1 (s:En):((stepH prog AO Ro aLU aFz).k 15 (SX s)<|V4 s).bind (λq=>canT (M<|V4 s) [0] [.pc 16 0 AR,.kb 4,.pc 16 7 AL,.kb 5,.pc 16 9<|.int aw,.kb 6,.pc 16 10 Ae,.kb 7,.pc 16 12 Al,.kb 8,.pc 16 13 AL,.kb 9,.pc 16 14 Ap,.kb 10,.pc 16 15 Az,.kb 11,.pc 16 16 Aq,.kb 12,.pc 16 17 Au,.kb 13,.pc 16 18 A7,.kb 14,.pc 16 19 A7,.kb 15,.pc 16 32 A7] .normal (q.1::SX s) q.2)=(YC s).mp (λs2=>⟨.normal,M (SX s)+1,[abL s2],ac7 s2,U⟩):=AM
def aoi (s:En) (hE:ug s):(YC s).all (λq=>q=SD s):=by
 obtain ⟨hV,hR⟩:=id hE
 have hq:=hV.dec
 have hs:=CV.1 hq.site
 have hs0:=CV.1 hV.site
 have htk:s.p.AK.tk=s.p.tk:=(OY s.p).2.2.2.2.2.1
 have hd:=aGc hR A0
 have hp:=hV.tk
 have hC:PK.AK ({s.p with ls:=AI s.p.ls})=s.p.AK:=by rw [D5]
 have h1:Fv s=⟨s.p.AK.lk,(M s.p.AK.lk:Y),0,s.p.AK,s.ev,[]⟩:=by
  unfold Fv;rw [hC]
 have A1:ZQ (Fv s):=by
  rw [h1];exact ⟨rfl,rfl,by show (M s.p.AK.lk:Y)<=20000000;omega,rX,hq.lk,hq.st⟩
 have q1:=(amR _ A1).2
 have r1:(Hf<|Fv s).p.st=s.p.AK.LM.st:=by
  refine (Prod.mk.inj q1).1.trans ?_;rw [h1]
  show (s.p.AK.lk.drop 0).foldl _ _=Mb _ _ _ _ _
  rw [aeG _<|Ar _,Cc];rfl
 have r2:(Hf<|Fv s).left=s.p.AK.LM.lk:=by
  refine (Prod.mk.inj q1).2.trans ?_;rw [h1];rfl
 have h2:Of s=⟨(M s.p.AK.dr:Y),0,s.p.AK.LM,s.ev⟩:=by
  unfold Of;rw [hC,r1,D5,r2];rfl
 have A2:ZM (Of s):=by
  rw [h2];exact ⟨rfl,rfl,hq.dr,by show (M s.p.AK.dr:Y)<=1000;rw [hq.dr];omega,hq.arr.st,by show 0<=s.p.AK.tk/\s.p.AK.tk<=1000000;rw [htk];exact hp⟩
 have r3:(gN<|Of s).p.st=s.p.B2.st:=by
  refine (alg _ A2).2.trans ?_;rw [h2]
  show Dk (cnt1 s.p.AK.gs s.p.AK.dr s.p.AK.tk) 0 s.p.AK.LM.st ((M s.p.AK.dr:Y)-0).toNat=_
  rw [Mp,Bs,auA];rfl
 have h3:FO s=⟨s.p.B2.gs,(M s.p.B2.gs:Y),0,s.p.B2,s.ev,aq (M s.p.B2.gs) 0⟩:=by
  unfold FO;rw [hC,r3,D5,r2,Bs];rfl
 have hb:VP s.p.B2:=hq.arr.cnt
 have A3:Zi (FO s):=by
  rw [h3];exact ⟨rfl,rfl,rN,rfl,hb.st,hb.ca,hb.mi,hb.me,Bv⟩
 have q4:=(amB _ A3).2
 have q4:(⟨(H5<|FO s).p.st,(H5<|FO s).p.mi,(H5<|FO s).p.me,(H5<|FO s).dw⟩:DW)=s.p.B2.dw:=by
  refine q4.trans ?_;rw [h3]
  show Dk (λk d=>I3 s.p.B2.gs s.p.B2.ca d (k:Y)) 0 _ ((M s.p.B2.gs:Y)-0).toNat=_
  rw [Mp,Bs,ay9];rfl
 have r4:(H5<|FO s).p.st=s.p.B2.dw.st:=Am DW.st q4
 have r5:(H5<|FO s).p.mi=s.p.B2.dw.mi:=Am DW.mi q4
 have r6:(H5<|FO s).p.me=s.p.B2.dw.me:=Am DW.me q4
 have r7:(H5<|FO s).dw=s.p.B2.dw.dw:=Am DW.dw q4
 have hw:AA (s.p.AK.tk+1)=s.p.AK.tk+1:=AG
 have hdr:VP s.p.B2.CX:=hb.drw
 unfold YC;rw [hC];simp only [D5,r2,r3,r4,r5,r6,r7,hw];refine ⟨λc=>?_,λc=>?_⟩
 ·have e:s.p.HB=15:=AD (eq_of_beq c)
  repeat (refine ⟨CA,?_⟩)
  show _=_
  unfold SD;rw [e,H7 AT,AE AT]
 have e:s.p.HB=0:=AE<|Bt.1 c
 repeat (refine ⟨CA,?_⟩)
 refine ⟨⟨by show JP ({s.p with ls:=AI s.p.ls});rw [D5];exact hE,rfl,rfl⟩,?_⟩
 repeat (refine ⟨CA,?_⟩)
 refine ⟨⟨A1,rfl,rfl⟩,?_⟩
 repeat (refine ⟨CA,?_⟩)
 refine ⟨⟨A2,rfl,rfl⟩,?_⟩
 repeat (refine ⟨CA,?_⟩)
 refine ⟨⟨A3,rfl,rfl⟩,λc2=>?_,λc2=>?_⟩
 ·have c2:s.p.B2.CX.up=false:=(C8 _).mp c2
  repeat (refine ⟨CA,?_⟩)
  show _=_
  unfold SD;rw [e,Ig rfl,AD rfl];unfold PK.GY PK.HJ;rw [AD c2];rfl
 have hu:¬s.p.B2.CX.up=false:=by intro h;rw [show s.p.AK.up=X from h] at c2;cases c2
 have R:∀ {am cs},s.p.B2.CX.rsA=am->DH s.p.B2.CX.gs s.p.B2.CX.tg am s.p.B2.CX.cs (M s.p.B2.CX.tg)=cs->s.p.GY={s.p.AK with cs:=cs,tk:=s.p.AK.tk+1,st:=s.p.B2.dw.st,mi:=s.p.B2.dw.mi,me:=s.p.B2.dw.me,lk:=s.p.AK.LM.lk}:=λh1 h2=>by
  unfold PK.GY PK.HJ;rw [AE hu,h1,h2];rfl
 refine ⟨λc3=>?_,λc3=>?_⟩
 ·have c3:I0 s.p.AK.ls (M s.p.AK.gs) (s.p.AK.tk+1)=0:=eq_of_beq c3
  have cO:It s.p.AK.ls (M s.p.AK.gs) (s.p.AK.tk+1)=true:=by
   unfold I0 at c3;split at c3
   ·assumption
   ·cases c3
  have cL:Ec s.p.AK.ls (M s.p.AK.gs) (s.p.AK.tk+1)=Jp (M s.p.AK.gs) s.p.AK.ls (s.p.AK.tk+1):=by
   unfold Ec;rw [AD cO,Bs]
  have hl:BX s.p.AK.ls=true:=by
   unfold It at cO;simp only [AS] at cO;exact cO.1.1
  have hsA:s.p.B2.CX.rsA=Fa s.p.AK.gs s.p.AK.ls (s.p.AK.tk+1):=AD c3
  have A4:Zz (KL s):=by
   rw [show KL s=_ by unfold KL;rw [hC]]
   exact ⟨rfl,rfl,rN,by show M (aq (M s.p.AK.gs:Y).toNat (0:Y))=_;rw [Bv,Bs],λj _ _=>KV,ak⟩
  obtain ⟨_,_,_,q5⟩:=ail _ A4
  have q5:(Wo<|KL s).out=BQ (KL s).p.gs:=q5
  have q5:(Wo<|KL s).out=BQ s.p.AK.gs:=q5.trans (by unfold KL;rw [hC]<;>rfl)
  have hlen:M (Jp (M s.p.AK.gs) s.p.AK.ls<|s.p.AK.tk+1)=M s.p.AK.gs:=Wg
  have h6:Oe s=⟨Jp (M s.p.AK.gs) s.p.AK.ls<|s.p.AK.tk+1,(M s.p.AK.gs:Y),0,s.p.B2.CX,s.ev,s.p.B2.dw.dw,BQ s.p.AK.gs⟩:=by
   unfold Oe;rw [hC];simp only [D5,r2,r4,r5,r6,r7,hw,q5,cL,hlen];rfl
  have A5:bF (Oe s):=by
   rw [h6];refine ⟨rfl,by show (M s.p.AK.gs:Y)=_;rw [hlen],rN,by show M (BQ s.p.AK.gs)=_;rw [hlen];exact Hb,λj j0 j1=>(show gi (BQ s.p.AK.gs) j=C7 (AF s.p.AK.gs j) from OV j0 j1),ak⟩
  obtain ⟨_,_,_,q6⟩:=aim _ A5
  have q6:(gE<|Oe s).CF=Fa s.p.AK.gs s.p.AK.ls (s.p.AK.tk+1):=by
   refine q6.trans ?_;rw [h6]
   show Ep (M<|Jp (M s.p.AK.gs) s.p.AK.ls<|s.p.AK.tk+1) _=_
   rw [hlen];rfl
  have h7:Od s=⟨Fa s.p.AK.gs s.p.AK.ls<|s.p.AK.tk+1,(M s.p.AK.tg:Y),0,s.p.B2.CX,s.ev,s.p.B2.dw.dw⟩:=by
   unfold Od;rw [hC];simp only [D5,r2,r4,r5,r6,r7,q6];rfl
  have A6:UH (Od s):=by
   rw [h7];exact ⟨rfl,rfl,hq.Ew,hq.site,hq.tg1,λ_ k hk=>agD hq.site hl A0 (by have:M (Fa s.p.AK.gs s.p.AK.ls<|s.p.AK.tk+1)=M s.p.AK.gs:=Hb;have hk:k<M (Fa s.p.AK.gs s.p.AK.ls<|s.p.AK.tk+1):=hk;omega)⟩
  have q7:(Ot<|Od s).p.cs=DH s.p.AK.gs s.p.AK.tg (Fa s.p.AK.gs s.p.AK.ls<|s.p.AK.tk+1) s.p.AK.cs (M s.p.AK.tg):=by
   exact aIz
  repeat (refine ⟨CA,?_⟩)
  refine ⟨⟨A4,rfl,rfl⟩,?_⟩
  repeat (refine ⟨CA,?_⟩)
  refine ⟨⟨A5,rfl,rfl⟩,?_⟩
  repeat (refine ⟨CA,?_⟩)
  refine ⟨⟨A6,rfl,rfl⟩,?_⟩
  repeat (refine ⟨CA,?_⟩)
  show _=_
  unfold SD;rw [e,Ig rfl,AD rfl,R hsA q7.symm];rfl
 ·have c3:¬I0 s.p.AK.ls (M s.p.AK.gs) (s.p.AK.tk+1)=0:=Bt.1 c3
  have hsA:s.p.B2.CX.rsA=[]:=AE c3
  have h7:Oc s=⟨[],(M s.p.AK.tg:Y),0,s.p.B2.CX,s.ev,s.p.B2.dw.dw⟩:=by
   unfold Oc;rw [hC];simp only [D5,r2,r4,r5,r6,r7];rfl
  have A6:UH (Oc s):=by
   rw [h7];exact ⟨rfl,rfl,hq.Ew,hq.site,hq.tg1,λ_ k hk=>by cases hk⟩
  have q7:(Ot<|Oc s).p.cs=DH s.p.AK.gs s.p.AK.tg [] s.p.AK.cs (M s.p.AK.tg):=by
   exact aIz
  repeat (refine ⟨CA,?_⟩)
  refine ⟨⟨A6,rfl,rfl⟩,?_⟩
  repeat (refine ⟨CA,?_⟩)
  show _=_
  unfold SD;rw [e,Ig rfl,AD rfl,R hsA q7.symm];rfl
def auj:CSound prog AO 15 v5.m:=C4.sound (D:=v5) (t:=YC) (gk Ro) ah3 aFz.h ar1 λs hE=>⟨aoi s hE⟩
variable {p : PK} {ev : EW}
def OW {e:EV}(h:BJ p e≠0):Ay p e=II/\Br p e=[]:=⟨AD h,AD h⟩
def agR (hv:CW p=U) (h:ev.ek=1):BJ p ev.ev=p.HB/\(p.HB=0->Ay p ev.ev=p.GY/\Br p ev.ev=p.Ij):=by
 exact Mu
def agQ (hv:CW p=U) (h:ev.ek=2):BJ p ev.ev=p.FV ev.en ev.c ev.d/\(p.FV ev.en ev.c ev.d=0->Ay p ev.ev=p.L6 ev.en ev.c ev.d/\Br p ev.ev=[]):=by
 exact Mu
def agP (hv:CW p=U) (h:ev.ek=3):BJ p ev.ev=p.Hp ev.en/\(p.Hp ev.en=0->Ay p ev.ev=p.NL ev.en/\Br p ev.ev=[]):=by
 exact Mu
def agO (hv:CW p=U) (h:ev.ek=4):BJ p ev.ev=p.L7 ev.en/\(p.L7 ev.en=0->Ay p ev.ev=p.Ym ev.en/\Br p ev.ev=[]):=by
 exact Mu
def agN (hv:CW p=U) (h:ev.ek=5):BJ p ev.ev=p.JX/\(p.JX=0->Ay p ev.ev=p.NU/\Br p ev.ev=[]):=by
 exact Mu
def agM (hv:CW p=U) (h:ev.ek=6):BJ p ev.ev=p.Em/\(p.Em=0->Ay p ev.ev=p.Sz/\Br p ev.ev=[]):=by
 exact Mu
def agL (hv:CW p=U) (h:ev.ek=7):BJ p ev.ev=p.M9 ev.en/\(p.M9 ev.en=0->Ay p ev.ev=p.aLy ev.en/\Br p ev.ev=[]):=by
 exact Mu
def azD (hv:CW p=U) (h:ev.ek=8):BJ p ev.ev=p.Ge ev.en ev.em/\(p.Ge ev.en ev.em=0->Ay p ev.ev=p.Jq ev.en ev.em/\Br p ev.ev=[]):=by
 exact Mu
def azC (hv:CW p=U) (h:ev.ek≠1/\ev.ek≠2/\ev.ek≠3/\ev.ek≠4/\ev.ek≠5/\ev.ek≠6/\ev.ek≠7/\ev.ek≠8):BJ p ev.ev=9:=by
 obtain ⟨h1,h2,h3,h4,h5,h6,h7,h8⟩:=h
 simp [BJ,hv,EW.ev,h1,h2,h3,h4,h5,h6,h7,h8]
def JP.lb (h:JP p):LB p:=by
 obtain ⟨hV,hR⟩:=h
 have hs:=CV.1 hV.site
 have hf:=hR.fl.2
 have hl:=hR.ls
 have hk:=hR.lk
 have hr:=hR.ra
 have ht:=hV.tk
 have h1:=hV.st
 have h2:=hV.ca
 have h3:=hV.mi
 have h4:=hV.me
 have h5:=hV.dm
 have h6:=hV.dr
 have h7:=hV.Ew
 refine ⟨?_,?_,?_,?_,?_,?_,?_,?_,?_,?_,?_,?_,λm hm=>E5 (hR.mi m hm) AT⟩<;>omega
def GP (p:PK):Prop:=M p.lk<=100000000/\(VP p->JP p)
def JP.gp {p:PK}(h:JP p):GP p:=⟨by have:=h.lb.lk;omega,λ_=>h⟩
end Go.Proofs.YtjjcgjkagokchaaGreatDoor
namespace Go.Proofs.YtjjcgjkagokchaaGreatDoor
set_option maxRecDepth 100000
set_option maxHeartbeats 4000000
open Go.Proofs.Tryz
open Go.Sx
def aBC:aD->T LV
 | [x_p,x_ev]=>(match Jr x_p with
  |some p=>(match VF x_ev with
  |some ev=> .req (GP p) (.ok<|.tup [Ay p<|EW.ev ev,.xl A7<|Br p<|EW.ev ev,BJ p<|EW.ev ev])
  |none=> .no)
  |none=> .no)
 |_=> .no
def tkO (p:PK) (ev:EW):PK:=Gm (PK.HB p) (PK.GY p)<|p
def ada (p:PK) (ev:EW):PK:=Gm (PK.FV p ev.en (EW.c ev)<|EW.d ev) (PK.L6 p ev.en (EW.c ev)<|EW.d ev)<|p
def adb (p:PK) (ev:EW):PK:=Gm (PK.Hp p ev.en) (PK.NL p ev.en)<|p
def adf (p:PK) (ev:EW):PK:=Gm (PK.L7 p ev.en) (PK.Ym p ev.en)<|p
def adg (p:PK) (ev:EW):PK:=Gm (PK.JX p) (PK.NU p)<|p
def adh (p:PK) (ev:EW):PK:=Gm (PK.Em p) (PK.Sz p)<|p
def I2 (e:Y):LV:=.tup [.agg [.xl AR ([]:aK),.xl .str ([]:aF),.xl AY ([]:aP),.xl AX ([]:aG),.xl AZ ([]:aQ),.v<|ag J 0,.v<|.bool X,.xl AL ([]:aN),.v<|ag J 0,.xl (.int aw) ([]:aB),.xl Ae ([]:bp),.v<|ag J 0,.xl Al ([]:bf),.xl AL ([]:aN),.xl Ap ([]:aL4),.xl Az ([]:aL6),.xl Aq ([]:aZ),.xl Au ([]:aLZ),.xl A7 ([]:aB),.xl A7 ([]:aB)],.xl A7 ([]:aB),.v<|ag J e]
def XQ:aM:=[awG]
def aFy:Aj:=FC XQ (la 11 func43 Oq<|la 6 func43 NB<|la 3 func71 Ls<|la 2 func42 KO<|la 1 func41 JN<|la 2 func50 Ia<|la 9 func23 C2<|l0 XQ) [⟨15,v5.m,auj⟩,⟨16,v8.m,aul⟩,⟨17,vA.m,aun⟩,⟨18,v9.m,aum⟩,⟨19,vB.m,auo⟩,⟨20,v7.m,auk⟩,⟨21,uz.m,aui⟩,⟨22,um.m,att⟩,⟨23,H8 λa=>bZ.m a [],atw⟩]
def ajS (p:PK) (ev:EW):letI a:=ada p ev;letI b:=adb p ev;letI e:=adf p ev;letI f:=adg p ev;letI g:=adh p ev;letI h:=(azq (⟨p⟩:JL));letI i:=M p.me;letI j:=M p.dm;letI k:=M p.lk;letI l:=M p.dr;letI m:=M p.tg;letI n:=PK.FV p ev.en (EW.c ev)<|EW.d ev;BD prog AO (XQ) aFy noLoops f6 [p,ev]=.req (M p.lk<=100000000) (.br (!(CW p)) (.ok<|I2 1)<|.br (ev.ek==(1:Y)) (.req h<|.rv (ev)<|.pa p<|.rl p.st<|.rl p.ca<|.rl p.mi<|.re i p.me<|.re j p.dm<|.re k p.lk<|.re l p.dr<|.re m p.tg<|.req (auq (⟨p,ev⟩:En))<|.br ((PK.HB p) !=0) (.ok<|I2<|PK.HB p)<|.ok<|.tup [tkO p ev,.xl A7 (if PK.HB (p)=0 then PK.Ij p else []),(0:Y)])<|.br (ev.ek==(2:Y)) (.req h<|.rv (ev)<|.pa p<|.rl p.st<|.rl p.ca<|.rl p.mi<|.re i p.me<|.re j p.dm<|.re k p.lk<|.re l p.dr<|.re m p.tg<|.req (aus (⟨p,ev⟩:Kv))<|.br (n !=0) (.ok<|I2 n)<|.rz a.cs<|.rz a.ls<|.rz a.fl<|.rz a.ra<|.rz a.st<|.rz a.ca<|.rz a.mi<|.rz a.me<|.rz a.dm<|.rz a.lk<|.rz a.dr<|.rz a.tg<|.ok<|.tup [.agg [AI a.cs,a.os,a.ks,a.gs,a.bs,a.tk,a.up,AI a.ls,a.se,.xl (.int aw)<|AI a.fl,AI a.ra,a.nx,AI a.st,AI a.ca,AI a.mi,AI a.me,AI a.dm,AI a.lk,.xl A7<|AI a.dr,.xl A7<|AI a.tg],.xl A7 ([]:aB),(0:Y)])<|.br (ev.ek==(3:Y)) (.req h<|.rv (ev)<|.pa p<|.rl p.st<|.rl p.ca<|.rl p.mi<|.re i p.me<|.re j p.dm<|.re k p.lk<|.re l p.dr<|.re m p.tg<|.req (auu (⟨p,ev⟩:Kx))<|.br ((PK.Hp p ev.en) !=0) (.ok<|I2<|PK.Hp p ev.en)<|.rz b.cs<|.rz b.ls<|.rz b.fl<|.rz b.ra<|.rz b.st<|.rz b.ca<|.rz b.mi<|.rz b.me<|.rz b.dm<|.rz b.lk<|.rz b.dr<|.rz b.tg<|.ok<|.tup [.agg [AI b.cs,b.os,b.ks,b.gs,b.bs,b.tk,b.up,AI b.ls,b.se,.xl (.int aw)<|AI b.fl,AI b.ra,b.nx,AI b.st,AI b.ca,AI b.mi,AI b.me,AI b.dm,AI b.lk,.xl A7<|AI b.dr,.xl A7<|AI b.tg],.xl A7 ([]:aB),(0:Y)])<|.br (ev.ek==(4:Y)) (.req h<|.rv (ev)<|.pa p<|.rl p.st<|.rl p.ca<|.rl p.mi<|.re i p.me<|.re j p.dm<|.re k p.lk<|.re l p.dr<|.re m p.tg<|.req (aut (⟨p,ev⟩:Kw))<|.br ((PK.L7 p ev.en) !=0) (.ok<|I2<|PK.L7 p ev.en)<|.rz e.cs<|.rz e.ls<|.rz e.fl<|.rz e.ra<|.rz e.st<|.rz e.ca<|.rz e.mi<|.rz e.me<|.rz e.dm<|.rz e.dr<|.rz e.tg<|.ok<|.tup [.agg [AI e.cs,e.os,e.ks,e.gs,e.bs,e.tk,e.up,AI e.ls,e.se,.xl (.int aw)<|AI e.fl,AI e.ra,e.nx,AI e.st,AI e.ca,AI e.mi,AI e.me,AI e.dm,e.lk,.xl A7<|AI e.dr,.xl A7<|AI e.tg],.xl A7 ([]:aB),(0:Y)])<|.br (ev.ek==(5:Y)) (.req h<|.rv (ev)<|.pa p<|.rl p.st<|.rl p.ca<|.rl p.mi<|.re i p.me<|.re j p.dm<|.re k p.lk<|.re l p.dr<|.re m p.tg<|.req (auv (⟨p,ev⟩:Ky))<|.br ((PK.JX p) !=0) (.ok<|I2<|PK.JX p)<|.rz f.cs<|.rz f.fl<|.rz f.ra<|.rz f.st<|.rz f.ca<|.rz f.mi<|.rz f.me<|.rz f.dm<|.rz f.lk<|.rz f.dr<|.rz f.tg<|.ok<|.tup [.agg [AI f.cs,f.os,f.ks,f.gs,f.bs,f.tk,f.up,f.ls,f.se,.xl (.int aw)<|AI f.fl,AI f.ra,f.nx,AI f.st,AI f.ca,AI f.mi,AI f.me,AI f.dm,AI f.lk,.xl A7<|AI f.dr,.xl A7<|AI f.tg],.xl A7 ([]:aB),(0:Y)])<|.br (ev.ek==(6:Y)) (.req h<|.rv (ev)<|.pa p<|.rl p.st<|.rl p.ca<|.rl p.mi<|.re i p.me<|.re j p.dm<|.re k p.lk<|.re l p.dr<|.re m p.tg<|.req (aur (⟨p,ev⟩:Ku))<|.br ((PK.Em p) !=0) (.ok<|I2<|PK.Em p)<|.rz g.cs<|.rz g.st<|.rz g.ca<|.rz g.mi<|.rz g.me<|.rz g.dm<|.rz g.lk<|.rz g.dr<|.rz g.tg<|.ok<|.tup [.agg [AI g.cs,g.os,g.ks,g.gs,g.bs,g.tk,g.up,g.ls,g.se,.xl (.int aw) g.fl,g.ra,g.nx,AI g.st,AI g.ca,AI g.mi,AI g.me,AI g.dm,AI g.lk,.xl A7<|AI g.dr,.xl A7<|AI g.tg],.xl A7 ([]:aB),(0:Y)])<|.br (ev.ek==(7:Y)) (.req h<|.rv (ev)<|.pa p<|.rl p.st<|.rl p.ca<|.rl p.mi<|.re i p.me<|.re j p.dm<|.re k p.lk<|.re l p.dr<|.re m p.tg<|.req (aup (⟨p,ev⟩:Kt))<|.br ((PK.M9 p ev.en) !=0) (.ok<|I2<|PK.M9 p ev.en)<|.rz p.cs<|.rz p.ls<|.rz p.fl<|.rz p.ra<|.rz (if PK.isC p ev.en=U then C6 p.gs p.st ev.en 6 1 0 else p.st)<|.rz p.ca<|.rz p.mi<|.rz p.me<|.rz p.dm<|.rz p.lk<|.rz p.dr<|.rz p.tg<|.ok<|.tup [.agg [AI p.cs,p.os,p.ks,p.gs,p.bs,p.tk,p.up,AI p.ls,p.se,.xl (.int aw)<|AI p.fl,AI p.ra,p.nx,AI (if PK.isC p ev.en=U then C6 p.gs p.st ev.en 6 1 0 else p.st),AI p.ca,AI p.mi,AI p.me,AI p.dm,AI p.lk,.xl A7<|AI p.dr,.xl A7<|AI p.tg],.xl A7 ([]:aB),(0:Y)])<|.br (ev.ek==(8:Y)) (.req h<|.rv (ev)<|.pa p<|.rl p.st<|.rl p.ca<|.rl p.mi<|.re i p.me<|.re j p.dm<|.re k p.lk<|.re l p.dr<|.re m p.tg<|.req (auw (⟨p,ev⟩:Jf))<|.br ((PK.Ge p ev.en ev.em) !=0) (.ok<|I2<|PK.Ge p ev.en ev.em)<|.rz p.cs<|.rz p.ls<|.rz p.fl<|.rz p.ra<|.rz p.st<|.rz p.ca<|.rz p.mi<|.rz p.me<|.rz p.dm<|.rz p.lk<|.rz p.dr<|.rz (if PK.Ge p ev.en ev.em=1 then p.tg else p.tg.set ev.en.toNat ev.em)<|.ok<|.tup [.agg [AI p.cs,p.os,p.ks,p.gs,p.bs,p.tk,p.up,AI p.ls,p.se,.xl (.int aw)<|AI p.fl,AI p.ra,p.nx,AI p.st,AI p.ca,AI p.mi,AI p.me,AI p.dm,AI p.lk,.xl A7<|AI p.dr,.xl A7<|AI (if PK.Ge p ev.en ev.em=1 then p.tg else p.tg.set ev.en.toNat ev.em)],.xl A7 ([]:aB),(0:Y)])<|.ok<|I2 9):=AM
def gv:=vo (S:=aBC) func6 XQ aFy (λargs lv h=>by
 refine ⟨?_⟩;unfold aBC at h;split at h
 ·split at h
  case h_2=>cases h
  rename_i p hp;obtain rfl:=Ov hp;split at h
  case h_2=>cases h
  rename_i ev hev;obtain rfl:=aBW hev;simp only [canL,canX];rw [ajS];obtain ⟨⟨hk0,hJ⟩,rfl⟩:=h;refine ⟨hk0,λc=>?_,λc=>?_⟩
  ·have c:CW p=false:=(C8 _).mp c
   have e:BJ p (EW.ev ev)=1:=AD c
   show I2 _=_
   rw [(OW df).1,(OW df).2,e];rfl
  have hv:CW p=true:=EO
  have hJ:=hJ<|ff.1 hv
  obtain ⟨hV,hR⟩:=id hJ
  have hs:=CV.1 hV.site
  have hlb:=hJ.lb
  have D:Zl ⟨p⟩:=hlb
  have hlk:=hlb.lk
  refine ⟨λc1=>?_,λc1=>?_⟩
  ·have c1:ev.ek=1:=eq_of_beq c1
   obtain ⟨s1,s2⟩:=agR hv c1;refine ⟨⟨D,rfl,rfl⟩,rfl,?_⟩
   repeat (refine ⟨CA,?_⟩)
   refine ⟨⟨hJ,rfl,rfl⟩,λc=>?_,λc=>?_⟩
   ·exact Mq
   ·have c:=DG c
    repeat (refine ⟨CA,?_⟩)
    show _=_
    rw [(s2 c).1,(s2 c).2,s1,c];simp only [D5];rw [show tkO p ev=_ from Ig c,AD trivial]
  refine ⟨λc1=>?_,λc2=>?_⟩
  ·have c1:ev.ek=2:=eq_of_beq c1
   obtain ⟨s1,s2⟩:=agQ hv c1;refine ⟨⟨D,rfl,rfl⟩,rfl,?_⟩
   repeat (refine ⟨CA,?_⟩)
   refine ⟨⟨⟨hV.st,Vp,hV.ca,hV.mi,hV.dm⟩,rfl,rfl⟩,λc=>?_,λc=>?_⟩
   ·exact Mq
   ·have c:=DG c
    repeat (refine ⟨CA,?_⟩)
    show _=_
    rw [(s2 c).1,(s2 c).2,s1,c];simp only [D5];rw [show ada p ev=_ from Ig c]
  refine ⟨λc1=>?_,λc3=>?_⟩
  ·have c1:ev.ek=3:=eq_of_beq c1
   obtain ⟨s1,s2⟩:=agP hv c1;refine ⟨⟨D,rfl,rfl⟩,rfl,?_⟩
   repeat (refine ⟨CA,?_⟩)
   refine ⟨⟨⟨hV.st,Vp,hV.ca,hV.mi,hV.dm⟩,rfl,rfl⟩,λc=>?_,λc=>?_⟩
   ·exact Mq
   ·have c:=DG c
    repeat (refine ⟨CA,?_⟩)
    show _=_
    rw [(s2 c).1,(s2 c).2,s1,c];simp only [D5];rw [show adb p ev=_ from Ig c]
  refine ⟨λc1=>?_,λc4=>?_⟩
  ·have c1:ev.ek=4:=eq_of_beq c1
   obtain ⟨s1,s2⟩:=agO hv c1;refine ⟨⟨D,rfl,rfl⟩,rfl,?_⟩
   repeat (refine ⟨CA,?_⟩)
   refine ⟨⟨⟨Vp,hlk⟩,rfl,rfl⟩,λc=>?_,λc=>?_⟩
   ·exact Mq
   ·have c:=DG c
    repeat (refine ⟨CA,?_⟩)
    show _=_
    rw [(s2 c).1,(s2 c).2,s1,c];simp only [D5];rw [show adf p ev=_ from Ig c]
  refine ⟨λc1=>?_,λc5=>?_⟩
  ·have c1:ev.ek=5:=eq_of_beq c1
   obtain ⟨s1,s2⟩:=agN hv c1;refine ⟨⟨D,rfl,rfl⟩,rfl,?_⟩
   repeat (refine ⟨CA,?_⟩)
   refine ⟨⟨ak,rfl,rfl⟩,λc=>?_,λc=>?_⟩
   ·exact Mq
   ·have c:=DG c
    repeat (refine ⟨CA,?_⟩)
    show _=_
    rw [(s2 c).1,(s2 c).2,s1,c];simp only [D5];rw [show adg p ev=_ from Ig c]
  refine ⟨λc1=>?_,λc6=>?_⟩
  ·have c1:ev.ek=6:=eq_of_beq c1
   obtain ⟨s1,s2⟩:=agM hv c1;refine ⟨⟨D,rfl,rfl⟩,rfl,?_⟩
   repeat (refine ⟨CA,?_⟩)
   refine ⟨⟨⟨hR.fl.1,Vp⟩,rfl,rfl⟩,λc=>?_,λc=>?_⟩
   ·exact Mq
   ·have c:=DG c
    repeat (refine ⟨CA,?_⟩)
    show _=_
    rw [(s2 c).1,(s2 c).2,s1,c];simp only [D5];rw [show adh p ev=_ from Ig c]
  refine ⟨λc1=>?_,λc7=>?_⟩
  ·have c1:ev.ek=7:=eq_of_beq c1
   obtain ⟨s1,s2⟩:=agL hv c1;refine ⟨⟨D,rfl,rfl⟩,rfl,?_⟩
   repeat (refine ⟨CA,?_⟩)
   refine ⟨⟨⟨hV.st,Vp⟩,rfl,rfl⟩,λc=>?_,λc=>?_⟩
   ·exact Mq
   ·have c:=DG c
    have hc:p.isC ev.en=true:=by
     cases e:p.isC ev.en
     ·unfold PK.M9 at c
      rw [AD e] at c;cases c
     ·rfl
    repeat (refine ⟨CA,?_⟩)
    show _=_
    rw [(s2 c).1,(s2 c).2,s1,c];simp only [D5];rw [AD hc];rfl
  refine ⟨λc1=>?_,λc8=>?_⟩
  ·have c1:ev.ek=8:=eq_of_beq c1
   obtain ⟨s1,s2⟩:=azD hv c1;refine ⟨⟨D,rfl,rfl⟩,rfl,?_⟩
   repeat (refine ⟨CA,?_⟩)
   refine ⟨⟨hV,rfl,rfl⟩,λc=>?_,λc=>?_⟩
   ·exact Mq
   ·have c:=DG c
    repeat (refine ⟨CA,?_⟩)
    show _=_
    rw [(s2 c).1,(s2 c).2,s1,c];simp only [D5];rw [AE AT];rfl
  have e:=azC (ev:=ev) hv ⟨Bt.1 c1,Bt.1 c2,Bt.1 c3,Bt.1 c4,Bt.1 c5,Bt.1 c6,Bt.1 c7,Bt.1 c8⟩
  show I2 _=_
  rw [(OW df).1,(OW df).2,e];rfl
 ·cases h)
structure L2 where
 (k0 k i FR:Y)
 FP:aV
 Qz:Y
 Dq:aV
 aft:Y
 o:aB
def oG (s:L2):T (Rd L2):=letI a:=(s.o.set s.i.toNat (255:Y));.br (an<|s.i<s.k) (.ik s.i (M s.o)<|.re (M s.o) a<|.nx {s with i:=AA<|s.i+1,o:=a})<|.rl s.o<|.so (.exit 0) s
def Zf (s:L2):Prop:=s.i=0/\s.k=(M s.o:Y)/\s.k<=4096
def Yu (s:L2):Prop:=0<=s.i/\s.i<=s.k/\s.o.take s.i.toNat=aq s.i.toNat 255/\s.k=(M s.o:Y)/\s.k<=4096
def kH (s:L2):aC:=(s.k-s.i).toNat
def acj (x:Ex) (s s':L2):Prop:=True
def ayS:∀s,Zf s->Yu s:=by
 rintro s ⟨h0,h2,h3⟩
 exact ⟨A0,A0,EN,h2,h3⟩
def atD:Da Yu kH acj oG:=by
 intro s hI;obtain ⟨h0,h1,hq,h2,h3⟩:=hI;refine allR_ite (λc1=>?_) λc1=>trivial
 have c1:s.i<s.k:=A8
 rw [AG (x:=s.i+1)];refine ⟨⟨A8,A8,?_,A8,h3⟩,by simp only [kH];omega⟩
 rw [show (s.i+1).toNat=s.i.toNat+1 by omega,VI A8,List.take_set_of_le<|Ar _,hq,List.getElem_set_self,qJ]
def Uw:LpD L2:=⟨1,43,[4,5,6,33,34],[],λs=>[.own 1 0,s.k0,.own 2 0,s.k,s.i],λs=>[⟨[s.FR,.v<|s.FP],32,.cl,X⟩,⟨[s.Qz,.v<|s.Dq],32,.cl,X⟩,⟨[s.aft,.os 3 1 0<|M s.o],32,.cl,X⟩,bV 5 (.int aw) s.o],λv b=>⟨AJ v 1,AJ v 3,AJ v 4,Ad b 0 0,gAn<|gCe (gBk b 0) 1,Ad b 1 0,gAn<|gCe (gBk b 1) 1,Ad b 2 0,AV (.int aw) b 3⟩,oG,λs r=> {s with i:=r.i,o:=r.o},λs=>s,λ_ s=>s,[.exit 0],Zf,Yu,kH⟩
abbrev Lo:=Uw.run
abbrev zo:=Uw.exn
def Rt:aM:=[YJ]
def asP:Aj:=kI Rt<|l0 Rt
def aqP:Rq Yu oG:=by
 intro s hI;refine ⟨λc1=>⟨?_,?_,?_,ak⟩,λc1=>⟨A9,ak⟩⟩
 all_goals ((obtain ⟨h0,h1,hq,h2,h3⟩:=hI;(try simp only [AU] at c1);first|omega|exact ⟨rfl,AH⟩))
def aEh:Uw.Ok:={}
def aE6:Uw.Pf (acj):=⟨ayS,λs h=>rfl,atD,aqP⟩
def ait:=s2 (b:=bN f96 0) aEh aE6 Rt asP
def alA:Rs Zf zo Lo (λs:L2=>aq s.k.toNat 255) (λx s' (v:aB)=>x=.exit 0/\s'.o=v):=CM aEh aE6 (λs hI=>by
  obtain ⟨h0,h1,hq,h2,h3⟩:=hI;refine allR_ite (λc1=>rfl) λc1=>⟨rfl,?_⟩
  have c1:s.k<=s.i:=A8
  rw [show s.i.toNat=s.k.toNat by omega,CY A0] at hq
  exact hq)
def aHO:aD->T LV
 | [.v (ag J a),.v (ag J b)]=> .req (a=512/\b=4) (.ok<|.tup [.agg [(512:Y),.xl (.int aw) DU],(0:Y)])
 |_=> .no
def H4 (a b:Y):L2:=(⟨0,(((AA<|a*b).toNat:aC):Y),0,0,.slice aj 0 0,0,.slice aj 0 0,a,aq (AA<|a*b).toNat (0:Y)⟩:L2)
def asO:Aj:=kI Rt<|la 5 func96 ait<|l0 Rt
def al2:M DU=2048:=aKj
def al3:cpy [80,0,0,0,0] (aq (Int.toNat 2048) 255)=DU:=by
 have h4:CD 0=[0,0,0,0]:=AT
 have hp:BS []=[]:=rfl
 unfold cpy DU EE;rw [h4,hp,List.drop_replicate,FK,DQ,List.replicate_append_replicate]
 congr 1
def avb:=vo (S:=aHO) func72 Rt asO (λargs lv h=>by
 unfold aHO at h;split at h
 ·rename_i a b
  refine Af (letI d:=Lo<|H4 a b;letI e:=(Dj (0:Y) ([]:aB));letI f:=AA<|a*b;letI g:=(cpy ([(80:Y),(0:Y),(0:Y),(0:Y),(0:Y)]) d.o);letI i:=M d.o;.br (an<|a<1) (.br (((1:Y) !=0) ||(! e)) (.ok<|.tup [.agg [(0:Y),.xl (.int aw) ([]:aB)],(1:Y)])<|.no /-copy to v -/)<|.br (an<|a>512) (.br (((1:Y) !=0) ||(! e)) (.ok<|.tup [.agg [(0:Y),.xl (.int aw) ([]:aB)],(1:Y)])<|.no /-copy to v -/)<|.br (an<|b<1) (.br (((1:Y) !=0) ||(! e)) (.ok<|.tup [.agg [(0:Y),.xl (.int aw) ([]:aB)],(1:Y)])<|.no /-copy to v -/)<|.req (a≠0)<|.br (an<|b>(AA<|(4096:Y).tdiv a)) (.br (((1:Y) !=0) ||(! e)) (.ok<|.tup [.agg [(0:Y),.xl (.int aw) ([]:aB)],(1:Y)])<|.no /-copy to v -/)<|.req (0<=f/\f<=f/\1*f<=2^48/\f<2^63)<|.req (0=0/\f.toNat=M (aq f.toNat (0:Y)))<|.req (Uw.q<|H4 a b)<|.br ((0:Y) !=0) (.ok<|.tup [.agg [(0:Y),.xl (.int aw) ([]:aB)],(1:Y)])<|.req (0+i<=M d.o)<|.br (!(Dj a<|(d.o.drop 0).take i)) (.ok<|.tup [.agg [(0:Y),.xl (.int aw) ([]:aB)],(1:Y)])<|.req (M d.o=M d.o/\M ([(80:Y),(0:Y),(0:Y),(0:Y),(0:Y)])<=M d.o)<|.req (0+i<=M g)<|.ok<|.tup [.agg [a,.xl (.int aw)<|(g.drop 0).take i],(0:Y)]) ?_;obtain ⟨⟨rfl,rfl⟩,rfl⟩:=h
  have hw:AA (512*4)=2048:=AT
  have hk:(H4 512 4).k=2048:=Mz
  have hl:M (H4 512 4).o=2048:=Mz
  have hV:Zf (H4 512 4):=⟨rfl,by rw [hk,hl];rfl,by rw [hk];decide⟩
  have q:zo (H4 512 4)=.exit 0/\(Lo<|H4 512 4).o=aq (H4 512 4).k.toNat 255:=alA _ hV
  rw [hk] at q
  have hL:M (Lo<|H4 512 4).o=2048:=by rw [q.2,Bv];rfl
  have hT:(((Lo<|H4 512 4).o).drop 0).take (M (Lo<|H4 512 4).o)=(Lo<|H4 512 4).o:=AH
  have hJ:Dj 512 (Lo<|H4 512 4).o=true:=JQ.2 ⟨KS.2 (by rw [hL];decide),by rw [hL];decide,A0,A0,AT⟩
  have hC:cpy [80,0,0,0,0] (Lo<|H4 512 4).o=DU:=by rw [q.2];exact al3
  rw [hw,hT,hJ,hC,hL]
  have hj:=al2
  refine ⟨λc=>CP,λ_=>⟨λc=>CP,λ_=>⟨λc=>CP,λ_=>⟨AT,λc=>CP,λ_=>⟨AT,by rw [Bv];decide,⟨hV,rfl,rfl⟩,λc=>CP,λ_=>⟨AT,λc=>CP,λ_=>⟨⟨rfl,AT⟩,by rw [hj];decide,?_⟩⟩⟩⟩⟩⟩⟩
  rfl
 ·cases h)
def aG8:aD->T LV
 | []=> .ok (.tup [.agg [(512:Y),.xl (.int aw) DU],(0:Y)])
 |_=> .no
def ath:aM:=[avb]
def nI:=vo (S:=aG8) func36 ath kN (λargs lv h=>by
 refine ⟨?_⟩;unfold aG8 at h;split at h
 ·simp only [canL]
  obtain rfl:=h;exact ⟨A9,rfl⟩
 ·cases h)
structure MO where
 auQ:aB
 e:Y
 l:aB
 (m i:Y)
 At:aK
 B9:aF
 BV:aP
 B1:aG
 BW:aQ
def yR:=bN f10 0
def mX (s:MO):T (Rd MO):=
 .br (an<|s.i<s.m) (.ix s.i (M s.l)<|.br (!(inB (gi s.l s.i) (-200) 200)) (.so (.ret) {s with e:=(1:Y)})<|.nx {s with i:=AA<|s.i+1}) (.so (.exit 0) s)
def bT (s:MO):Prop:=(s.i=0/\s.m=(M s.l:Y))/\s.m<=1000/\s.e=0
def TH (s:MO):Prop:=(0<=s.i/\s.m=(M s.l:Y))/\s.m<=1000/\s.e=0/\∀j:aC,(j:Y)<s.i->inB (gi s.l j) (-200) 200=U
def l8 (s:MO):aC:=(s.m-s.i).toNat
def th (x:Ex) (s s':MO):Prop:=(x=.exit 0/\s'.e=0/\s'.l.all (λx=>inB x (-200) 200)=U)\/(x=.ret/\s'.e=1/\s'.l.all (λx=>inB x (-200) 200)=X)
def axk:∀s,bT s->TH s:=by
 rintro s ⟨⟨h0,h1⟩,h2,h3⟩
 exact ⟨⟨A0,h1⟩,h2,h3,λj hj=>A0⟩
def arT:Da TH l8 th mX:=by
 intro s hI;obtain ⟨⟨h0,h1⟩,h2,h3,h4⟩:=hI
 have key:s.l.all (λx=>inB x (-200) 200)=CO (M s.l) (λk=>inB (gi s.l k) (-200) 200):=(fp (f:=λx=>inB x (-200) 200)).symm
 refine allR_ite (λc1=>allR_ite (λc2=>?_) λc2=>?_) λc1=>?_
 ·have c1:s.i<s.m:=AQ
  refine .inr ⟨rfl,rfl,?_⟩;rw [key];exact Lu s.i.toNat A0 A8
 ·have c1:s.i<s.m:=A8
  have c2:=(GC _).mp c2
  rw [AG (x:=s.i+1)];refine ⟨⟨⟨A8,h1⟩,h2,h3,λj hj=>?_⟩,by simp only [l8];omega⟩
  by_cases e:(j:Y)<s.i
  ·exact h4 j e
  ·rw [show (j:Y)=s.i by grind]
   exact c2
 ·have c1:s.m<=s.i:=A8
  exact .inl ⟨rfl,h3,by rw [key];exact Cm.2 λj hj=>h4 j A0⟩
def PU:LpD MO:=⟨0,105,[1,2,4,5,27,28,29],[],λs=>[.xl A7 s.auQ,.own 0 0,.own 1 0,s.e,.xl A7 s.l,s.m,s.i],λs=>[⟨[s.At,s.B9,s.BV,s.B1,s.BW],28,.cl,X⟩,zB],λv b=>⟨Ag A7 v 0,AJ v 3,Ag A7 v 4,AJ v 5,AJ v 6,AB AR b 0 0,AB .str b 0 1,AB AY b 0 2,AB AX b 0 3,AB AZ b 0 4⟩,mX,λs r=> {s with e:=r.e,i:=r.i},λs=>s,λ_ s=>s,[.ret,.exit 0],bT,TH,l8⟩
abbrev RI:=PU.run
abbrev gg:=PU.exn
def ap9:Rq TH mX:=by
 exact qU
def X2:aM:=[M4,YK,gw,nI,RG]
def m5:Aj:=kI X2<|la 11 func43 Oq<|la 6 func43 NB<|la 3 func71 Ls<|la 2 func42 KO<|la 1 func41 JN<|la 2 func50 Ia<|la 9 func23 C2<|l0 X2
def aEQ:PU.Ok:={}
def aDp:PU.Pf (th):=⟨axk,λs h=>rfl,arT,ap9⟩
def ahp:SA 0 yR PU:=s1 aEQ aDp X2 m5
def ajx:Fi bT TH th gg RI:=LpD.fin aEQ aDp
structure MN where
 (e n i:Y)
 At:aK
 B9:aF
 BV:aP
 B1:aG
 BW:aQ
 jt:aK
 p1:aF
 p2:aP
 p3:aG
 p4:aQ
 (p9 Ol:aB)
 ra:bp
 st:bf
 ca:aN
 mi:aL4
 me:aL6
 dm:aZ
def yQ:=bN f10 1
def mW (s:MN):T (Rd MN):=letI a:=(X,((0:Y),((0:Y),(9:Y))));letI b:=((AA<|s.i+1),((0:Y),X));letI c:=(s.st++([((0:Y),((0:Y),((0:Y),X)))]));.br (an<|s.i<s.n) (.rb (M s.st) (M<|[((0:Y),((0:Y),((0:Y),X)))]) 32<|.rb (M s.me) (M<|[b]) 24<|.rb (M s.dm) (M<|[a]) 32<|.rl s.ra<|.re (M s.st+M ([((0:Y),((0:Y),((0:Y),X)))])) c<|.rl s.ca<|.rl s.mi<|.re (M s.me+M ([b])) (s.me++([b]))<|.re (M s.dm+M ([a])) (s.dm++([a]))<|.nx {s with i:=AA<|s.i+1,st:=c,me:=s.me++([b]),dm:=s.dm++([a])})<|.rl s.ra<|.rl s.st<|.rl s.ca<|.rl s.mi<|.rl s.me<|.rl s.dm<|.so (.exit 2) s
def bR (s:MN):Prop:=s.i=0/\(s.n<=1000/\0<=s.n)/\s.st=[]/\s.me=[]/\s.dm=[]
def TG (s:MN):Prop:=(0<=s.i/\s.i<=s.n)/\(s.n<=1000/\0<=s.n)/\s.st=aq s.i.toNat (0,0,0,X)/\s.me=(Dt s.i.toNat).map (λk=>(k+1,0,X))/\s.dm=aq s.i.toNat (X,0,0,9)
def kz (s:MN):aC:=(s.n-s.i).toNat
def td (x:Ex) (s s':MN):Prop:=x=.exit 2/\s'.st=aq s'.n.toNat (0,0,0,X)/\s'.me=(Dt s'.n.toNat).map (λk=>(k+1,0,X))/\s'.dm=aq s'.n.toNat (X,0,0,9)
def axj:∀s,bR s->TG s:=by
 rintro s ⟨h0,h1,h2,h3,h4⟩
 refine ⟨A0,h1,?_,?_,?_⟩
 ·simp_all
 ·rw [h3,h0];rfl
 ·simp_all
def arS:Da TG kz td mW:=by
 intro s hI;obtain ⟨⟨h0,h1⟩,h2,h3,h4,h5⟩:=hI;refine allR_ite (λc1=>?_) λc1=>?_
 ·have c1:s.i<s.n:=A8
  rw [AG (x:=s.i+1)]
  have e:(s.i+1).toNat=s.i.toNat+1:=A0
  refine ⟨⟨⟨A8,A8⟩,h2,?_,?_,?_⟩,by simp only [kz];omega⟩
  ·show s.st++[_]=aq (s.i+1).toNat _
   rw [e,h3,qJ]
  ·show s.me++[_]=(Dt (s.i+1).toNat).map _
   rw [e,h4,ae8,J8,Bu h0];rfl
  ·show s.dm++[_]=aq (s.i+1).toNat _
   rw [e,h5,qJ]
 ·have c1:s.n<=s.i:=A8
  have e:s.i=s.n:=A0
  rw [e] at h3 h4 h5;exact ⟨rfl,h3,h4,h5⟩
def PT:LpD MN:=⟨0,105,[2,4,5,11,63,64],[.ns 11 12 94 Al,.ns 11 15 66 Az,.ns 11 16 48 Aq],λs=>[.own 0 0,.own 1 0,s.e,.own 2 0,s.n,s.i],λs=>[⟨[s.At,s.B9,s.BV,s.B1,s.BW],28,.cl,X⟩,zB,⟨[s.jt,s.p1,s.p2,s.p3,s.p4,(0:Y),U,.v<|.slice aj 0 0,(512:Y),.xl (.int aw) s.p9,.os 3 2 0<|M s.ra,(1:Y),.os 4 4 0<|M s.st,.os 5 5 0<|M s.ca,.os 6 3 0<|M s.mi,.os 7 3 0<|M s.me,.os 8 4 0<|M s.dm,.v<|.slice aj 0 0,.xl A7 s.Ol,.v<|.slice aj 0 0],44,.cl,X⟩,bV 90 Ae s.ra,bV 94 Al s.st,bV 46 AL s.ca,bV 74 Ap s.mi,bV 66 Az s.me,bV 48 Aq s.dm],λv b=>⟨AJ v 2,AJ v 4,AJ v 5,AB AR b 0 0,AB .str b 0 1,AB AY b 0 2,AB AX b 0 3,AB AZ b 0 4,AB AR b 2 0,AB .str b 2 1,AB AY b 2 2,AB AX b 2 3,AB AZ b 2 4,AB (.int aw) b 2 9,AB A7 b 2 18,AV Ae b 3,AV Al b 4,AV AL b 5,AV Ap b 6,AV Az b 7,AV Aq b 8⟩,mW,λs r=> {s with i:=r.i,st:=r.st,me:=r.me,dm:=r.dm},λs=>s,λ_ s=>s,[.exit 2],bR,TG,kz⟩
abbrev KB:=PT.run
abbrev ake:=PT.exn
def ap8:Rq TG mW:=by
 intro s hI;refine ⟨λc1=>⟨?_,?_,?_,A9,?_,A9,A9,?_,?_,ak⟩,λc1=>⟨A9,A9,A9,A9,A9,A9,ak⟩⟩
 all_goals ((obtain ⟨⟨h0,h1⟩,h2,h3,h4,h5⟩:=hI;have l1:M s.st=s.i.toNat:=A8;have l2:M s.me=s.i.toNat:=(by rw [h4];simp [Lr]);have l3:M s.dm=s.i.toNat:=A8;simp only [AU] at c1;first|(simp only [BB,BG];omega) |(simp only [Av,BB,BG,DR];done) |exact ⟨rfl,AH⟩))
def aEP:PT.Ok:={}
def aDo:PT.Pf (td):=⟨axj,λs h=>rfl,arS,ap8⟩
def aho:SA 0 yQ PT:=s1 aEP aDo X2 m5
def ajw:Fi bR TG td ake KB:=LpD.fin aEP aDo
structure MM where
 e:Y
 l:aK
 (n i:Y)
 jt:aK
 p1:aF
 p2:aP
 p3:aG
 p4:aQ
 (p9 Ol:aB)
 ra:bp
 st:bf
 ca:aN
 mi:aL4
 me:aL6
 dm:aZ
 tg:aB
def yP:=bN f10 2
def mV (s:MM):T (Rd MM):=letI a:=Aa s.l s.i;.br (an<|s.i<s.n) (.ix s.i (M s.l)<|.rb (M s.tg) (M<|[a.2.2.1]) 8<|.rl s.ra<|.rl s.st<|.rl s.ca<|.rl s.mi<|.rl s.me<|.rl s.dm<|.re (M s.tg+M ([a.2.2.1])) (s.tg++([a.2.2.1]))<|.nx {s with i:=AA<|s.i+1,tg:=s.tg++([a.2.2.1])})<|.rl s.ra<|.rl s.st<|.rl s.ca<|.rl s.mi<|.rl s.me<|.rl s.dm<|.rl s.tg<|.so (.exit 4) s
def bP (s:MM):Prop:=s.i=0/\(s.n=(M s.l:Y)/\s.n<=1000)/\s.tg=[]
def TF (s:MM):Prop:=(0<=s.i/\s.i<=s.n)/\(s.n=(M s.l:Y)/\s.n<=1000)/\s.tg=(s.l.take s.i.toNat).map (λc=>c.2.2.1)
def kv (s:MM):aC:=(s.n-s.i).toNat
def tc (x:Ex) (s s':MM):Prop:=x=.exit 4/\s'.tg=s'.l.map (λc=>c.2.2.1)
def axi:∀s,bP s->TF s:=by
 rintro s ⟨h0,h1,h2⟩
 exact ⟨A0,h1,EN⟩
def arR:Da TF kv tc mV:=by
 intro s hI;obtain ⟨⟨h0,h1⟩,⟨h2,h3⟩,h4⟩:=hI;refine allR_ite (λc1=>?_) λc1=>?_
 ·have c1:s.i<s.n:=A8
  rw [AG (x:=s.i+1)]
  have e:(s.i+1).toNat=s.i.toNat+1:=A0
  refine ⟨⟨⟨A8,A8⟩,⟨h2,h3⟩,?_⟩,by simp only [kv];omega⟩
  show s.tg++[_]=(s.l.take (s.i+1).toNat).map _
  have e2:Aa s.l s.i=s.l[s.i.toNat]' A0:=by
   have:=Oz (cs:=s.l) (k:=s.i.toNat) A0
   exact this
  rw [e,h4,VI A0,J8,e2];rfl
 ·have c1:s.n<=s.i:=A8
  refine ⟨rfl,?_⟩;rw [h4,CY A0]
def PS:LpD MM:=⟨0,105,[4,5,11,89,90,91],[.ns 11 19 3 A7],λs=>[.own 0 0,s.e,.own 1 0,s.l,s.n,s.i],λs=>[zB,⟨[s.jt,s.p1,s.p2,s.p3,s.p4,(0:Y),U,.v<|.slice aj 0 0,(512:Y),.xl (.int aw) s.p9,.os 2 2 0<|M s.ra,(1:Y),.os 3 4 0<|M s.st,.os 4 5 0<|M s.ca,.os 5 3 0<|M s.mi,.os 6 3 0<|M s.me,.os 7 4 0<|M s.dm,.v<|.slice aj 0 0,.xl A7 s.Ol,.os 8 1 0<|M s.tg],44,.cl,X⟩,bV 90 Ae s.ra,bV 94 Al s.st,bV 46 AL s.ca,bV 74 Ap s.mi,bV 66 Az s.me,bV 48 Aq s.dm,bV 3 A7 s.tg],λv b=>⟨AJ v 1,Ag AR v 3,AJ v 4,AJ v 5,AB AR b 1 0,AB .str b 1 1,AB AY b 1 2,AB AX b 1 3,AB AZ b 1 4,AB (.int aw) b 1 9,AB A7 b 1 18,AV Ae b 2,AV Al b 3,AV AL b 4,AV Ap b 5,AV Az b 6,AV Aq b 7,AV A7 b 8⟩,mV,λs r=> {s with i:=r.i,tg:=r.tg},λs=>s,λ_ s=>s,[.exit 4],bP,TF,kv⟩
abbrev WR:=PS.run
abbrev akd:=PS.exn
def ap7:Rq TF mV:=by
 intro s hI;refine ⟨λc1=>⟨?_,?_,A9,A9,A9,A9,A9,A9,?_,ak⟩,λc1=>⟨A9,A9,A9,A9,A9,A9,A9,ak⟩⟩
 all_goals ((obtain ⟨⟨h0,h1⟩,⟨h2,h3⟩,h4⟩:=hI;have l1:M s.tg=s.i.toNat:=A8;simp only [AU] at c1;first|omega|(simp only [BB,BG];omega) |(simp only [Av,BB,BG,DR];done)))
def aEO:PS.Ok:={}
def aDn:PS.Pf (tc):=⟨axi,λs h=>rfl,arR,ap7⟩
def ahn:SA 0 yP PS:=s1 aEO aDn X2 m5
def ajv:Fi bP TF tc akd WR:=LpD.fin aEO aDn
structure Kn where
 (n i:Y)
 iQ:aK
 b11:aF
 b12:aP
 b13:aG
 b14:aQ
 (b19 wC:aB)
 b2:bp
 b3:bf
 b4:aN
 b5:aL4
 b6:aL6
 b7:aZ
 b8:aB
 p1:aF
 p2:aP
 p3:aG
 p4:aQ
 Ol:aB
 QD:aK
 fH:aN
 fG:aB
 eQ:bp
 b15:bf
 b16:aN
 o:aL4
def mU (s:Kn):T (Rd Kn):=letI a:=s.o.getD s.i.toNat<|Ty.dflt Ap;.br (an<|s.i<s.n) (.ik s.i (M s.o)<|.req (M a.1<=100000000)<|.ik s.i (M s.o)<|.rl s.b2<|.rl s.b3<|.rl s.b4<|.rl s.b5<|.rl s.b6<|.rl s.b7<|.rl s.b8<|.rl s.QD<|.rl s.fH<|.rl s.fG<|.rl s.eQ<|.rl s.b15<|.rl s.b16<|.re (M s.o) (s.o.set s.i.toNat a)<|.rl s.b6<|.rl s.b7<|.rl s.b8<|.nx {s with i:=AA<|s.i+1,o:=s.o.set s.i.toNat a})<|.rl s.b2<|.rl s.b3<|.rl s.b4<|.rl s.b5<|.rl s.b6<|.rl s.b7<|.rl s.b8<|.rl s.QD<|.rl s.fH<|.rl s.fG<|.rl s.eQ<|.rl s.b15<|.rl s.b16<|.rl s.o<|.rl s.b6<|.rl s.b7<|.rl s.b8<|.so (.exit 0) s
def bM (s:Kn):Prop:=s.i=0/\s.n=(M s.o:Y)/\s.n<=1000/\∀m∈s.o,M m.1<=1000
def ZD (s:Kn):Prop:=0<=s.i/\s.i<=s.n/\s.n=(M s.o:Y)/\s.n<=1000/\∀m∈s.o,M m.1<=1000
def ku (s:Kn):aC:=(s.n-s.i).toNat
def acW (x:Ex) (s s':Kn):Prop:=True
def axh:∀s,bM s->ZD s:=by
 exact aJX
def arQ:Da ZD ku acW mU:=by
 intro s hI;obtain ⟨h0,h1,h2,h3,h4⟩:=hI;refine allR_ite (λc1=>?_) λc1=>trivial
 ·have c1:s.i<s.n:=A8
  have e:=set_self (l:=s.o) (i:=s.i.toNat) (d:=Ty.dflt Ap) A0
  rw [AG (x:=s.i+1),e];exact ⟨⟨A8,A8,h2,h3,h4⟩,by simp only [ku];omega⟩
def SL:LpD Kn:=⟨9,82,[1,2,44,45],[],λs=>[.own 9 0,.own 10 0,s.n,s.i],λs=>[zB,⟨[s.iQ,s.b11,s.b12,s.b13,s.b14,(0:Y),U,.v<|.slice aj 0 0,(512:Y),.xl (.int aw) s.b19,.os 2 2 0<|M s.b2,(1:Y),.os 3 4 0<|M s.b3,.os 4 5 0<|M s.b4,.os 5 3 0<|M s.b5,.os 6 3 0<|M s.b6,.os 7 4 0<|M s.b7,.v<|.slice aj 0 0,.xl A7 s.wC,.os 8 1 0<|M s.b8],44,.cl,X⟩,bV 90 Ae s.b2,bV 94 Al s.b3,bV 46 AL s.b4,bV 74 Ap s.b5,bV 66 Az s.b6,bV 48 Aq s.b7,bV 3 A7 s.b8,⟨[.os 11 11 0<|M s.QD,s.p1,s.p2,s.p3,s.p4,(0:Y),U,.os 12 5 0<|M s.fH,(512:Y),.os 13 1 0<|M s.fG,.os 14 2 0<|M s.eQ,(1:Y),.os 15 4 0<|M s.b15,.os 16 5 0<|M s.b16,.os 17 3 0<|M s.o,.os 6 3 0<|M s.b6,.os 7 4 0<|M s.b7,.v<|.slice aj 0 0,.xl A7 s.Ol,.os 8 1 0<|M s.b8],44,.cl,X⟩,zB,bV 62 AR s.QD,bV 87 AL s.fH,bV 5 (.int aw) s.fG,bV 90 Ae s.eQ,bV 94 Al s.b15,bV 46 AL s.b16,bV 74 Ap s.o],λv b=>⟨AJ v 2,AJ v 3,AB AR b 1 0,AB .str b 1 1,AB AY b 1 2,AB AX b 1 3,AB AZ b 1 4,AB (.int aw) b 1 9,AB A7 b 1 18,AV Ae b 2,AV Al b 3,AV AL b 4,AV Ap b 5,AV Az b 6,AV Aq b 7,AV A7 b 8,AB .str b 9 1,AB AY b 9 2,AB AX b 9 3,AB AZ b 9 4,AB A7 b 9 18,AV AR b 11,AV AL b 12,AV (.int aw) b 13,AV Ae b 14,AV Al b 15,AV AL b 16,AV Ap b 17⟩,mU,λs r=> {s with i:=r.i,o:=r.o},λs=>s,λ_ s=>s,[.exit 0],bM,ZD,ku⟩
abbrev fy:=SL.run
abbrev akb:=SL.exn
def mG:aM:=[M4,YK,gw,nI,RG,aLu]
def as9:Aj:=kI mG<|la 11 func43 Oq<|la 6 func43 NB<|la 3 func71 Ls<|la 2 func42 KO<|la 1 func41 JN<|la 2 func50 Ia<|la 9 func23 C2<|l0 mG
def ap6:Rq ZD mU:=by
 intro s hI;refine ⟨λc1=>⟨?_,?_,?_,?_,?_,A9,A9,A9,A9,A9,A9,A9,A9,A9,A9,A9,A9,A9,?_,A9,A9,A9,ak⟩,λc1=>⟨A9,A9,A9,A9,A9,A9,A9,A9,A9,A9,A9,A9,A9,A9,A9,A9,A9,ak⟩⟩
 all_goals ((obtain ⟨h0,h1,h2,h3,h4⟩:=hI;(try simp only [AU] at c1);first|omega|exact ⟨rfl,AH⟩ |exact ⟨rfl,rfl⟩ |exact E5 (h4 _<|getD_mem A0) AT))
def aEN:SL.Ok:={}
def aCn:SL.Pf (acW):=⟨axh,λs h=>rfl,arQ,ap6⟩
def zZ:=s2 (b:=bN f23 0) aEN aCn mG as9
def aju:Rs bM akb fy (λs:Kn=>s.o) (λx s' (v:aL4)=>x=.exit 0/\s'.o=v):=CM aEN aCn (λs hI=>by
  obtain ⟨h0,h1,h2,h3,h4⟩:=hI;refine allR_ite (λc1=>?_) λc1=>⟨rfl,rfl⟩
  have c1:s.i<s.n:=A8
  have e:=set_self (l:=s.o) (i:=s.i.toNat) (d:=Ty.dflt Ap) A0
  rw [e];exact rfl)
def aHF:aD->T LV
 | .agg a::r=>s5 a λcs os ks gs bs=>(match r with
  | [.xl (.int J) dr]=> .req (M dr<=1000) (.ok<|.tup [newP cs os ks gs bs dr,DI cs os ks gs bs dr])
  |_=> .no)
 |_=> .no
def ED {α:Type}(d:α) (l:List α):List α:=cpy (AI l)<|aq (M l:Y).toNat d
def aGj {α:Type}(d:α) (l:List α):ED d l=l:=by
 unfold ED;rw [D5];exact NG
def J6 {α:Type}(d:α) (l:List α):List α:=cpy l<|aq (M l:Y).toNat d
def aty {α:Type}(d:α) (l:List α):J6 d l=l:=NG
def cpN {α:Type}(d:α):List α:=cpy []<|aq (0:Y).toNat d
def atz {α:Type}(d:α):cpN d=[]:=rfl
def D6 {α:Type}(gs:aG) (d:α):List α:=aq (M gs:Y).toNat d
def wL {α:Type}(gs:aG) (d:α):D6 gs d=aq (M gs) d:=by
 unfold D6
 grind
def zNV (e:Y):LV:=.tup [.agg [.xl AR ([]:aK),.xl .str ([]:aF),.xl AY ([]:aP),.xl AX ([]:aG),.xl AZ ([]:aQ),.v<|ag J 0,.v<|.bool X,.xl AL ([]:aN),.v<|ag J 0,.xl (.int aw) ([]:aB),.xl Ae ([]:bp),.v<|ag J 0,.xl Al ([]:bf),.xl AL ([]:aN),.xl Ap ([]:aL4),.xl Az ([]:aL6),.xl Aq ([]:aZ),.xl Au ([]:aLZ),.xl A7 ([]:aB),.xl A7 ([]:aB)],.v<|ag J e]
def eR:Cd:=(ByteArray.empty,((0:Y),((0:Y),((0:Y),(((0:Y),(0:Y)),((0:Y),((0:Y),((0:Y),((0:Y),(0:Y))))))))))
def HA:Le:=((0:Y),((0:Y),((0:Y),((0:Y),(0:Y)))))
def KW:Ra:=((0:Y),(0:Y))
def aLl:St:=((0:Y),((0:Y),((0:Y),X)))
def adO:Me:=((0:Y),((0:Y),X))
def adR:Dm:=(X,((0:Y),((0:Y),(0:Y))))
def Ho:Mi:=(([]:aB),((0:Y),(0:Y)))
def MZ:Y:=(0:Y)
def adQ:Lk:=((0:Y),((0:Y),((0:Y),((0:Y),((0:Y),(0:Y))))))
def N3 (cs:aK) (os:aF) (ks:aP) (gs:aG) (bs:aQ) (dr:aB):MO:=(⟨dr,0,dr,(M dr:Y),0,cs,os,ks,gs,bs⟩:MO)
def JD (cs:aK) (os:aF) (ks:aP) (gs:aG) (bs:aQ) (dr:aB):MN:=(⟨(RI<|N3 cs os ks gs bs dr).e,(M gs:Y),0,cs,os,ks,gs,bs,cs,os,ks,gs,bs,DU,dr,D6 gs KW,([]:bf),D6 gs HA,D6 gs Ho,([]:aL6),([]:aZ)⟩:MN)
def Qr (cs:aK) (os:aF) (ks:aP) (gs:aG) (bs:aQ) (dr:aB):MM:=letI a:=KB<|JD cs os ks gs bs dr;(⟨(RI<|N3 cs os ks gs bs dr).e,cs,(M cs:Y),0,cs,os,ks,gs,bs,DU,dr,D6 gs KW,a.st,D6 gs HA,D6 gs Ho,a.me,a.dm,([]:aB)⟩:MM)
def fO (cs:aK) (os:aF) (ks:aP) (gs:aG) (bs:aQ) (dr:aB):Kn:=letI a:=KB<|JD cs os ks gs bs dr;(⟨((((M (D6 gs Ho):aC):Y).toNat:aC):Y),0,cs,os,ks,gs,bs,DU,dr,D6 gs KW,a.st,D6 gs HA,D6 gs Ho,a.me,a.dm,(WR<|Qr cs os ks gs bs dr).tg,os,ks,gs,bs,dr,J6 eR cs,cpN HA,J6 MZ DU,ED KW<|D6 gs KW,ED aLl a.st,ED HA<|D6 gs HA,ED Ho<|D6 gs Ho⟩:Kn)
def mF:aM:=[M4,YK,gw,nI,RG]
def as8:Aj:=kI mF<|la 9 func23 zZ<|la 11 func43 Oq<|la 6 func43 NB<|la 3 func71 Ls<|la 2 func42 KO<|la 1 func41 JN<|la 2 func50 Ia<|la 9 func23 C2<|l0 mF
def awO:=vm (S:=aHF) func10 mF as8 (L:=(λi=>if i=4 then PU.lp else if i=17 then PT.lp else if i=24 then PS.lp else noLoops i)) (λb hb=>by
 rw [show loopsIn _=[yR,yQ,yP] by kernel_rfl] at hb
 simp only [Ak,B8,B6] at hb;rcases hb with rfl|rfl|rfl
 ·exact ahp
 ·exact aho
 ·exact ahn) (λargs lv h=>by
 unfold aHF at h;split at h
 case h_2=>cases h
 replace h:=GV h
 obtain ⟨cs,os,ks,gs,bs,rfl,h⟩:=h;split at h
 ·rename_i dr
  refine Af (letI a:=KB<|JD cs os ks gs bs dr;letI b:=WR<|Qr cs os ks gs bs dr;letI d:=D6 gs KW;letI f:=D6 gs HA;letI g:=(M gs:Y);letI j:=((M a.me:aC):Y);letI l:=((M a.dm:aC):Y);letI n:=((M b.tg:aC):Y);letI p:=D6 gs Ho;letI r:=(M dr:Y);letI s:=((M a.st:aC):Y);letI t:=((M d:aC):Y);letI u:=((M f:aC):Y);letI v:=((M p:aC):Y);letI w:=N3 cs os ks gs bs dr;letI y:=fO cs os ks gs bs dr;letI z:=(M cs:Y);letI A:=(M DU:Y);letI B:=(M ([]:aN));letI C:=ED aLl a.st;.br ((!(B0 cs os ks gs bs)) ||(r !=g)) (.ok<|zNV 1)<|.req (PU.q w)<|.br (isEx (gg w)<|.ret) (.ok<|.tup [.agg [.xl AR ([]:aK),.xl .str ([]:aF),.xl AY ([]:aP),.xl AX ([]:aG),.xl AZ ([]:aQ),(0:Y),X,.xl AL ([]:aN),(0:Y),.xl (.int aw) ([]:aB),.xl Ae ([]:bp),(0:Y),.xl Al ([]:bf),.xl AL ([]:aN),.xl Ap ([]:aL4),.xl Az ([]:aL6),.xl Aq ([]:aZ),.xl Au ([]:aLZ),.xl A7 ([]:aB),.xl A7 ([]:aB)],(RI w).e])<|.req (B0 cs os ks gs bs=U)<|.br (!GA cs gs (BQ gs)) (.ok<|zNV 13)<|.br ((0:Y) !=0) (.ok<|zNV 0)<|.rm 16 g<|.rm 40 g<|.rm 40 g<|.re g.toNat d<|.r0 St<|.re g.toNat f<|.re g.toNat p<|.r0 Me<|.r0 Dm<|.req (PT.q<|JD cs os ks gs bs dr)<|.rl d<|.rl a.st<|.rl f<|.rl p<|.rl a.me<|.rl a.dm<|.r0 Int<|.req (PS.q<|Qr cs os ks gs bs dr)<|.rm 96 z<|.rc z (ByteArray.empty,((0:Y),((0:Y),((0:Y),(((0:Y),(0:Y)),((0:Y),((0:Y),((0:Y),((0:Y),(0:Y)))))))))) (M cs)<|.rm 40 (0:Y)<|.rc (0:Y) ((0:Y),((0:Y),((0:Y),((0:Y),(0:Y))))) B<|.rm 1 A<|.rc A (0:Y) (M DU)<|.rm 16 t<|.rz d<|.rc t ((0:Y),(0:Y)) (M<|AI d)<|.rm 32 s<|.rz a.st<|.rc s ((0:Y),((0:Y),((0:Y),X))) (M<|AI a.st)<|.rm 40 u<|.rz f<|.rc u ((0:Y),((0:Y),((0:Y),((0:Y),(0:Y))))) (M<|AI f)<|.rm 40 v<|.rz p<|.rc v (([]:aB),((0:Y),(0:Y))) (M<|AI p)<|.rl d<|.rl a.st<|.rl f<|.rl p<|.rl a.me<|.rl a.dm<|.rl b.tg<|.re z.toNat (J6 eR cs)<|.re (0:Y).toNat (cpN HA)<|.re A.toNat (J6 MZ DU)<|.re t.toNat (ED KW d)<|.re s.toNat C<|.re u.toNat (ED HA f)<|.re v.toNat (ED Ho p)<|.rl a.me<|.rl a.dm<|.rl b.tg<|.req (SL.q y)<|.rm 24 j<|.rz a.me<|.rc j ((0:Y),((0:Y),X)) (M<|AI a.me)<|.rm 32 l<|.rz a.dm<|.rc l (X,((0:Y),((0:Y),(0:Y)))) (M<|AI a.dm)<|.rm 48 (0:Y)<|.rc (0:Y) ((0:Y),((0:Y),((0:Y),((0:Y),((0:Y),(0:Y)))))) B<|.rm 8 r<|.rc r (0:Y) (M dr)<|.rm 8 n<|.rz b.tg<|.rc n (0:Y) (M<|AI b.tg)<|.rz (J6 eR cs)<|.rz (cpN HA)<|.rz (J6 MZ DU)<|.rz (ED KW d)<|.rz C<|.rz (ED HA f)<|.rz (fy y).o<|.req (0+j.toNat<=M (ED adO a.me))<|.req (0+l.toNat<=M (ED adR a.dm))<|.req (0+(0:Y).toNat<=M (cpN adQ))<|.req (0+r.toNat<=M (J6 MZ dr))<|.req (0+n.toNat<=M (ED MZ b.tg))<|.ok<|.tup [.agg [(AI<|J6 eR cs),os,ks,gs,bs,(0:Y),U,(AI<|cpN HA),(512:Y),.xl (.int aw)<|AI<|J6 MZ DU,(AI<|ED KW d),(1:Y),(AI C),(AI<|ED HA f),(AI (fy y).o),(((ED adO a.me).drop 0).take j.toNat),(((ED adR a.dm).drop 0).take l.toNat),(((cpN adQ).drop 0).take (0:Y).toNat),.xl A7<|((J6 MZ dr).drop 0).take r.toNat,.xl A7<|((ED MZ b.tg).drop 0).take n.toNat],(0:Y)]) ?_;obtain ⟨hn,rfl⟩:=h
  have A1:bT (N3 cs os ks gs bs dr):=⟨⟨rfl,rfl⟩,by show (M dr:Y)<=1000;omega,rfl⟩
  obtain ⟨_,_,q1⟩:=ajx _ A1
  have q1:(gg (N3 cs os ks gs bs dr)=.exit 0/\(RI<|N3 cs os ks gs bs dr).e=0/\dr.all (λx=>inB x (-200) 200)=U)\/(gg (N3 cs os ks gs bs dr)=.ret/\(RI<|N3 cs os ks gs bs dr).e=1/\dr.all (λx=>inB x (-200) 200)=X):=q1
  have bad:∀ {e:Y},DI cs os ks gs bs dr=e->e≠0->newP cs os ks gs bs dr=II:=λh1 h2=>AD (by rw [h1];exact h2)
  have hb:((!B0 cs os ks gs bs) ||((M dr:Y) !=(M gs:Y)))=U↔(B0 cs os ks gs bs=X\/M dr≠M gs):=by simp [Int.natCast_inj]
  refine ⟨λc=>?_,λc=>⟨⟨A1,rfl,rfl⟩,λc2=>?_,λc2=>?_⟩⟩
  ·have he:DI cs os ks gs bs dr=1:=AD (hb.1 c)
   show zNV 1=_
   exact rI
  all_goals have hc:¬(B0 cs os ks gs bs=X\/M dr≠M gs):=λh=>(by rw [hb.2 h] at c;cases c)
  ·rcases q1 with ⟨x1,_⟩ |⟨x1,x2,x3⟩
   ·rw [x1] at c2
    cases c2
   ·have he:DI cs os ks gs bs dr=1:=(AE hc).trans (AD x3)
    rw [x2]
    show zNV 1=_
    exact rI
  rcases q1 with ⟨x1,x2,x3⟩ |⟨x1,x2,x3⟩
  rotate_left
  ·rw [x1] at c2
   cases c2
  have hs:B0 cs os ks gs bs=true:=by
   cases e:B0 cs os ks gs bs
   ·exact absurd (.inl e) hc
   ·rfl
  have hd:M dr=M gs:=qN λh=>hc<|.inr h
  have hg:=CV.1 hs
  refine ⟨hs,λc3=>?_,λc3=>⟨λc4=>(by cases c4),λ_=>?_⟩⟩
  ·have he:DI cs os ks gs bs dr=13:=(AE hc).trans ((AE (by rw [x3];decide)).trans<|AD<|(C8 _).mp c3)
   show zNV 13=_
   exact rI
  have he:DI cs os ks gs bs dr=0:=(AE hc).trans<|(AE (by rw [x3];decide)).trans<|AE (by rw [(GC _).mp c3];decide)
  have hp:newP cs os ks gs bs dr=_:=AE JC
  have A2:bR (JD cs os ks gs bs dr):=⟨rfl,⟨aKl,O6 _⟩,rfl,rfl,rfl⟩
  obtain ⟨_,_,_,y1,y2,y3⟩:=ajw _ A2
  have y1:(KB<|JD cs os ks gs bs dr).st=aq (M gs) (0,0,0,X):=y1
  have y2:(KB<|JD cs os ks gs bs dr).me=(Dt<|M gs).map (λk=>(k+1,0,X)):=y2
  have y3:(KB<|JD cs os ks gs bs dr).dm=aq (M gs) (X,0,0,9):=y3
  have A3:bP (Qr cs os ks gs bs dr):=⟨rfl,⟨rfl,aKm⟩,rfl⟩
  obtain ⟨_,_,_,y4⟩:=ajv _ A3
  have y4:(WR<|Qr cs os ks gs bs dr).tg=cs.map (λc=>c.2.2.1):=y4
  have hj:M DU=2048:=rfl
  have l1:M (D6 gs KW)=M gs:=sU
  have l2:M (D6 gs HA)=M gs:=sU
  have l3:M (D6 gs Ho)=M gs:=sU
  have l4:M (KB<|JD cs os ks gs bs dr).st=M gs:=by rw [y1,Bv]
  have l5:M (KB<|JD cs os ks gs bs dr).me=M gs:=by rw [y2,Dz,Lr]
  have l6:M (KB<|JD cs os ks gs bs dr).dm=M gs:=by rw [y3,Bv]
  have l7:M (WR<|Qr cs os ks gs bs dr).tg=M cs:=by rw [y4,Dz]
  have ho:(fO cs os ks gs bs dr).o=D6 gs Ho:=aGj _ _
  have A4:bM (fO cs os ks gs bs dr):=⟨rfl,by rw [ho];show ((((M (D6 gs Ho):aC):Y).toNat:aC):Y)=_;rw [Bs],by show ((((M (D6 gs Ho):aC):Y).toNat:aC):Y)<=1000;rw [Bs,l3];omega,by
   rw [ho,wL];intro m hm;rw [(QP.1 hm).2]
   decide⟩
  have y5:(fy<|fO cs os ks gs bs dr).o=D6 gs Ho:=(aju _ A4).2.trans ho
  simp only [aGj,aty,atz,D5,y5,l1,l2,l3]
  repeat (refine ⟨dF,?_⟩)
  refine ⟨⟨A2,rfl,rfl⟩,?_⟩
  repeat (refine ⟨dF,?_⟩)
  refine ⟨⟨A3,rfl,rfl⟩,?_⟩
  repeat (refine ⟨dF,?_⟩)
  refine ⟨⟨A4,rfl,rfl⟩,?_⟩
  repeat (refine ⟨dF,?_⟩)
  show _=_
  rw [hp,he,y1,y2,y3,y4];simp only [wL,Bs,Bq,Cc];rfl
 ·cases h)
def avy {fl:aB}{g:Y}{vl:aN}{k:aC}{O:aB}{x:Le}{t:Y}{w:Y}(h:JI fl w g (vl.map plL) (aq k 255) O) (hv:BX vl=U) (hx:Df vl x=0) (ht:inB t 0 1100000=U) (hk:19<=k):
  D9 512 fl x t=0/\(∃fl',HP (CT 512 fl x t) ((M (CT 512 fl x t):Y)-1)=(512,fl')/\JI fl' w g ((vl++[x]).map plL) (aq (k-19) 255) O)/\BX (vl++[x])=true:=by
 obtain ⟨h1,h2⟩:=axU h hv
 have hl:=NC x
 have hx':=hx
 unfold Df at hx'
 have hlx:Cj x=true:=by
  cases e:Cj x
  ·rw [hv,e] at hx';simp at hx'
  ·rfl
 rw [hv,hlx] at hx'
 have ho:HR vl x=false:=by
  by_cases hg:M vl>0
  ·have hf:Is (An vl<|(M vl:Y)-1) x=true:=by
    cases e:Is (An vl<|(M vl:Y)-1) x
    ·simp [e,hg] at hx'
    ·rfl
   unfold Is at hf;unfold HR;simp only [AS,AU] at hf
   simp;intro _;omega
  ·unfold HR;simp;intro h;omega
 have hfull:=h.full (d:=plL x) A0 (by rw [Bv];omega)
 have hap:E9 512 fl (plL x)=0:=by
  unfold E9;rw [h.vN,hfull,h.cl];rfl
 have har:Fj 512 fl (plL x)=G4 512 fl (plL x):=by
  unfold Fj;rw [h.vN,hfull,h.cl];rfl
 have hE:D9 512 fl x t=0:=by
  unfold D9;rw [h1,h2,hap,hlx,ht,ho];rfl
 have hL:CT 512 fl x t=G4 512 fl (plL x):=by
  unfold CT;rw [h1,h2,hap,hlx,ht,ho,har];rfl
 refine ⟨hE,⟨D8 (apB fl<|plL x) (EH fl) [80] 1,?_,?_⟩,?_⟩
 ·rw [hL]
  have hne:G4 512 fl (plL x)≠ []:=by
   exact aIf
  have:=agB 512 fl (plL x) (0,[])
  rw [List.getLastD_eq_getLast?,List.getLast?_eq_getElem?] at this;unfold HP;rw [DC]
  have hp:=Mk.2 hne
  rw [show ((M (G4 512 fl<|plL x):Y)-1).toNat=M (G4 512 fl<|plL x)-1 by omega]
  exact this
 ·have:=h.app (apy x) A0 (by rw [hl];omega)
  rw [J8];exact this
 ·have hg:=(atd (x:=x) hv).1
  unfold grS HM at hg;rw [AD hx,AD hx] at hg;exact hg
structure QV where
 p:PK
 vl:aN
 ok:aL
def QK (t:Y) (s:SN×List Le×Bool) (x:Le):SN×List Le×Bool:=
 if Df s.1.ls x=0 then (if Df s.2.1 x=0/\inB t 0 1100000=U/\19*(M s.2.1+1)<=1019 then (⟨HM s.1.ls x,0,[],x.1+1,s.1.lk++[Yn t x]⟩,s.2.1++[x],s.2.2) else (s.1,s.2.1,X)) else s
def MA (t:Y) (xs:aN) (s:SN×List Le×Bool):aC->SN×List Le×Bool
 |0=>s
 |k+1=>QK t (MA t xs s k)<|An xs k
def RV (se:Y) (fl:aB) (vl:aN):Prop:=se=512/\BX vl=U/\∃k O,JI fl 0 0 (vl.map plL) (aq k 255) O/\k+19*M vl=1019
def RN (s:SN) (q:SN×List Le×Bool):Prop:=q.1={s with se:=0,fl:=[]}/\RV s.se s.fl q.2.1
def aiT {t:Y}{s:SN×List Le×Bool}{x:Le}(h:(QK t s x).2.2=U):s.2.2=true:=by
 unfold QK at h;split at h
 ·split at h
  ·exact h
  ·cases h
 ·exact h
def ahc {t:Y}{s:SN}{q:SN×List Le×Bool}{x:Le}(h:RN s q) (hq:(QK t q x).2.2=U):RN (HG t s x) (QK t q x):=by
 obtain ⟨h1,h2,h3,k,O,h4,h5⟩:=h
 have hls:q.1.ls=s.ls:=by rw [h1]
 unfold QK at hq|-;unfold HG;rw [hls] at hq|-
 by_cases hg:Df s.ls x=0
 ·rw [AD hg] at hq|-
  by_cases hc:Df q.2.1 x=0/\inB t 0 1100000=U/\19*(M q.2.1+1)<=1019
  ·rw [AD hc] at hq|-
   obtain ⟨c1,c2,c3⟩:=hc;obtain ⟨e1,⟨fl',e2,e3⟩,e4⟩:=avy (t:=t) h4 h3 c1 c2 A0;rw [h2] at*;rw [AD ⟨hg,e1⟩,e2];refine ⟨A8,rfl,e4,k-19,O,e3,?_⟩;simp only [Av,BB,BG];omega
  ·rw [AE hc] at hq
   cases hq
 ·rw [AE hg,AE λhh=>hg hh.1]
  exact ⟨h1,h2,h3,k,O,h4,h5⟩
def xW {t:Y}{xs:aN}{s:SN}{q:SN×List Le×Bool}(h:RN s q):∀n,(MA t xs q n).2.2=U->RN (Jo t xs s n) (MA t xs q n)
 |0,_=>h
 |n+1,hq=>ahc (xW h n<|aiT hq) hq
namespace QV
variable (q : QV)
def sn:SN×List Le×Bool:=MA q.p.tk q.p.dL (q.p.Gf,q.vl,q.ok)<|M q.p.dL
def dec:QV:=if q.p.up=X then q else if q.p.dE≠0 then {q with p:={q.p with ls:=G2 q.p.ls q.p.tk}} else ⟨{q.p with ra:=q.p.dR,ls:=q.sn.1.ls,nx:=q.sn.1.nx,lk:=q.sn.1.lk},q.sn.2.1,q.sn.2.2⟩
def bef:QV:={q.dec with p:=q.dec.p.LM.VG}
def tick:QV:={q.bef with p:=q.bef.p.CX.HJ.endP}
def Ij:aB:=q.bef.p.dw.dw
end QV
def RP (p:PK) (q:QV):Prop:=q.p={p with se:=0,fl:=[]}/\RV p.se p.fl q.vl
def alT {p:PK}{q:QV}(h:RP p q) (hq:q.dec.ok=U):RP p.AK q.dec:=by
 obtain ⟨qp,vl,ok⟩:=q;obtain ⟨h1,h2⟩:=h;subst h1
 have eq:QV.dec ⟨{p with se:=0,fl:=[]},vl,ok⟩=if p.up=X then ⟨{p with se:=0,fl:=[]},vl,ok⟩ else if p.dE≠0 then ⟨{p with se:=0,fl:=[],ls:=G2 p.ls p.tk},vl,ok⟩ else
  ⟨{p with se:=0,fl:=[],ra:=p.dR,ls:=(MA p.tk p.dL ({p.Gf with se:=0,fl:=[]},vl,ok)<|M p.dL).1.ls,nx:=(MA p.tk p.dL ({p.Gf with se:=0,fl:=[]},vl,ok)<|M p.dL).1.nx,lk:=(MA p.tk p.dL ({p.Gf with se:=0,fl:=[]},vl,ok)<|M p.dL).1.lk},
   (MA p.tk p.dL ({p.Gf with se:=0,fl:=[]},vl,ok)<|M p.dL).2.1,(MA p.tk p.dL ({p.Gf with se:=0,fl:=[]},vl,ok)<|M p.dL).2.2⟩:=rfl
 rw [eq] at hq|-;unfold PK.AK
 by_cases hu:p.up=X
 ·rw [AD hu,AD hu]
  exact ⟨rfl,h2⟩
 ·rw [AE hu] at hq
  rw [AE hu,AE hu]
  by_cases hd:p.dE≠0
  ·rw [AD hd,AD hd]
   exact ⟨rfl,h2⟩
  ·rw [AE hd] at hq
   rw [AE hd,AE hd]
   have hs:RN p.Gf ({p.Gf with se:=0,fl:=[]},vl,ok):=⟨rfl,h2⟩
   obtain ⟨k1,k2⟩:=xW hs (M p.dL) hq;refine ⟨?_,k2⟩;rw [k1];rfl
def afI {p:PK}{q:QV}(h:RP p q) (hq:q.tick.ok=U):RP p.GY q.tick/\p.Ij=q.Ij:=by
 obtain ⟨h1,h2⟩:=alT h hq;refine ⟨⟨?_,h2⟩,?_⟩
 ·show q.dec.p.LM.VG.CX.HJ.endP=_
  rw [h1];rfl
 ·show _=q.dec.p.LM.VG.dw.dw
  rw [h1];rfl
def DN:EV:=⟨1,0,0,(0,0,0,0,0),(X,0,0,0)⟩
def CH:aC->PK->Y->PK×Int×Bool
 |0,p,l=>(p,l,U)
 |n+1,p,l=>if BJ p DN=0/\M (Br p DN)=M (Ay p DN).ca then CH n (Ay p DN) (if M (Br p DN)>0 then gi (Br p DN) 0 else l) else (p,l,X)
def vD (a:QV×Int):Option (QV×Int):=
 if (CW a.1.p&&(!(a.1.p.tk==1000000)&&(a.1.tick.ok&&(M a.1.Ij==M a.1.tick.p.ca&&an (M a.1.Ij>0)))))=U then ah (a.1.tick,gi a.1.Ij 0) else aj
def Cy:aC->QV×Int->Option (QV×Int)
 |0,a=>ah a
 |n+1,a=>(vD a).bind<|Cy n
def ahA {m n:aC}:∀ {a:QV×Int},Cy (m+n) a=(Cy m a).bind (Cy n):=by
 induction m with
 |zero=>intro a;rw [Ck];rfl
 |succ m ih=>
  intro a;rw [Nat.succ_add];simp only [Cy];cases vD a with
  |none=>rfl
  |some b=>exact ih
def JK {m n:aC}{a b c:QV×Int}(h1:Cy m a=ah b) (h2:Cy n b=ah c):Cy (m+n) a=ah c:=by rw [ahA,h1];exact h2
def wq {p:PK}{q:QV}(h:RP p q):CW q.p=CW p:=by rw [h.1];rfl
def gA {n:aC}:∀ {p:PK}{q:QV}{l:Y}{b:QV×Int},RP p q->Cy n (q,l)=ah b->∃p',CH n p l=(p',b.2,U)/\RP p' b.1:=by
 induction n with
 |zero=>
  intro p q l b h hq;simp only [Cy,Ac] at hq;subst hq;exact ⟨p,rfl,h⟩
 | succ n ih=>
  intro p q l b h hq;simp only [Cy] at hq;unfold vD at hq;split at hq
  ·rename_i hc
   simp only [AS,Cb,C8,Bt,AU] at hc;obtain ⟨c1,c2,c3,c4,c5⟩:=hc;obtain ⟨h1,h2⟩:=afI h c3
   have ek:q.p.tk=p.tk:=by rw [h.1]
   have e1:BJ p DN=0:=by
    unfold BJ;rw [<-wq h,c1,AE AT,AD (show DN.ek=1 from rfl)];unfold PK.HB;omega
   have e2:Ay p DN=p.GY:=sJ
   have e3:Br p DN=p.Ij:=aLC
   have e4:M q.tick.p.ca=M p.GY.ca:=by rw [h1.1]
   obtain ⟨p',k1,k2⟩:=ih h1 hq;refine ⟨p',?_,k2⟩;simp only [CH]
   grind
  ·cases hq
def bC (n:Y):aK:=[(av #[102],-1,n,32,(0,0),0,0,0,0,0)]
def bG:aG:=[(av #[112],0,1,6,32,1,6,0)]
def bO:aF:=[av #[111]]
def bA:Ca:=(0,1,20,1000000000,0)
def bD:Dm:=(U,0,500,1)
def bQ (tk:Y) (up:aL) (ls:aN) (ra:bp) (nx:Y) (st:bf) (ca:aMc) (mi:aL4) (me:aL6) (dm:aZ) (lk:aLZ) (vl:aN):QV:=
 ⟨⟨bC 32,bO,[],bG,[],tk,up,ls,0,[],ra,nx,st,ca,mi,me,dm,lk,[0],[32]⟩,vl,U⟩
def hqa:QV:=bQ 0 U [] [(0,0)] 1 [(0,0,0,X)] [(0,0,0,0,0)] [([],0,0)] [(1,0,X)] [(X,0,0,9)] [] []
def hqb:QV:=bQ 1 U [] [(0,1)] 1 [(0,0,0,X)] [(0,0,0,0,0)] [([],0,0)] [(1,0,X)] [(X,0,0,9)] [] []
def avn:Cy 1 (hqa,0)=ah (hqb,0):=AM
def hqc:QV:=bQ 1 U [] [(0,1)] 1 [(4,0,0,X)] [(0,1,20,1000000000,0)] [([],0,0)] [(1,0,X)] [(U,0,500,1)] [] []
def hqd:QV:=bQ 2 U [] [(0,2)] 1 [(4,0,0,X)] [(0,1,20,1000000000,0)] [([6],1,13800)] [(1,13800,X)] [(U,0,500,1)] [] []
def avm:Cy 1 (hqc,0)=ah (hqd,6):=AM
def ad5:QV:=bQ 8 U [(1,0,7,6,12),(2,0,8,7,12)] [(8,2)] 3 [(4,0,0,X)] [(0,1,20,1000000000,0)] [([6,6,6,6,6,6,6],7,96600)] [(1,96600,X)] [(U,0,500,1)] [(8,(1,0,7,6,12)),(11,(2,0,8,7,12))] [(1,0,7,6,12),(2,0,8,7,12)]
def aoY:Cy 6 (hqd,0)=ah (ad5,6):=AM
def ad4:QV:=bQ 14 U [(1,0,7,6,12),(2,0,8,7,12),(3,0,9,8,12),(4,0,10,9,12),(5,0,11,10,12),(6,0,12,11,12),(7,0,13,12,12),(8,0,14,13,12)] [(14,8)] 9 [(4,12,11,X)] [(0,1,20,1000000000,0)] [([6,6,6,6,6,6,6,7,9,11,8,10,12],13,227700)] [(1,227700,X)] [(U,0,500,1)] [(16,(7,0,13,12,12)),(14,(8,0,14,13,12))] [(1,0,7,6,12),(2,0,8,7,12),(3,0,9,8,12),(4,0,10,9,12),(5,0,11,10,12),(6,0,12,11,12),(7,0,13,12,12),(8,0,14,13,12)]
def aoX:Cy 6 (ad5,6)=ah (ad4,12):=AM
def ad3:QV:=bQ 20 U [(1,0,7,6,12),(2,0,8,7,12),(3,0,9,8,12),(4,0,10,9,12),(5,0,11,10,12),(6,0,12,11,12),(7,0,13,12,12),(8,0,14,13,12),(9,0,15,14,12),(10,0,16,15,12),(11,0,17,16,12),(12,0,18,17,12),(13,0,19,18,12),(14,0,20,19,12)] [(20,14)] 15 [(4,19,11,X)] [(0,1,20,1000000000,0)] [([6,6,6,6,6,6,6,7,9,11,8,10,12,14,16,13,15,17,19],19,443900)] [(1,443900,X)] [(U,0,500,1)] [(21,(12,0,18,17,12)),(22,(14,0,20,19,12))] [(1,0,7,6,12),(2,0,8,7,12),(3,0,9,8,12),(4,0,10,9,12),(5,0,11,10,12),(6,0,12,11,12),(7,0,13,12,12),(8,0,14,13,12),(9,0,15,14,12),(10,0,16,15,12),(11,0,17,16,12),(12,0,18,17,12),(13,0,19,18,12),(14,0,20,19,12)]
def aoW:Cy 6 (ad4,12)=ah (ad3,19):=AM
def ad2:QV:=bQ 26 U [(1,0,7,6,12),(2,0,8,7,12),(3,0,9,8,12),(4,0,10,9,12),(5,0,11,10,12),(6,0,12,11,12),(7,0,13,12,12),(8,0,14,13,12),(9,0,15,14,12),(10,0,16,15,12),(11,0,17,16,12),(12,0,18,17,12),(13,0,19,18,12),(14,0,20,19,12),(15,0,21,20,12),(16,0,22,21,12),(17,0,23,22,12),(18,0,24,23,12),(19,0,25,24,12),(20,0,26,25,12)] [(26,20)] 21 [(4,26,11,X)] [(0,1,20,1000000000,0)] [([6,6,6,7,9,11,8,10,12,14,16,13,15,17,19,21,18,20,22,24,26],25,715300)] [(1,715300,X)] [(U,0,500,1)] [(26,(17,0,23,22,12)),(27,(19,0,25,24,12))] [(1,0,7,6,12),(2,0,8,7,12),(3,0,9,8,12),(4,0,10,9,12),(5,0,11,10,12),(6,0,12,11,12),(7,0,13,12,12),(8,0,14,13,12),(9,0,15,14,12),(10,0,16,15,12),(11,0,17,16,12),(12,0,18,17,12),(13,0,19,18,12),(14,0,20,19,12),(15,0,21,20,12),(16,0,22,21,12),(17,0,23,22,12),(18,0,24,23,12),(19,0,25,24,12),(20,0,26,25,12)]
def aoV:Cy 6 (ad3,19)=ah (ad2,20):=AM
def ad1:QV:=bQ 32 U [(4,0,10,9,12),(5,0,11,10,12),(6,0,12,11,12),(7,0,13,12,12),(8,0,14,13,12),(9,0,15,14,12),(10,0,16,15,12),(11,0,17,16,12),(12,0,18,17,12),(13,0,19,18,12),(14,0,20,19,12),(15,0,21,20,12),(16,0,22,21,12),(17,0,23,22,12),(18,0,24,23,12),(19,0,25,24,12),(20,0,26,25,12),(21,0,27,26,12),(22,0,28,27,12),(23,0,29,28,12),(24,0,30,29,12),(25,0,31,30,12),(26,0,32,31,12)] [(32,26)] 27 [(4,28,11,X)] [(0,1,20,1000000000,0)] [([8,10,12,14,16,13,15,17,19,21,18,20,22,24,26,23,25,27,29,31,28],31,991300)] [(1,991300,X)] [(U,0,500,1)] [(32,(24,0,30,29,12)),(33,(26,0,32,31,12))] [(1,0,7,6,12),(2,0,8,7,12),(3,0,9,8,12),(4,0,10,9,12),(5,0,11,10,12),(6,0,12,11,12),(7,0,13,12,12),(8,0,14,13,12),(9,0,15,14,12),(10,0,16,15,12),(11,0,17,16,12),(12,0,18,17,12),(13,0,19,18,12),(14,0,20,19,12),(15,0,21,20,12),(16,0,22,21,12),(17,0,23,22,12),(18,0,24,23,12),(19,0,25,24,12),(20,0,26,25,12),(21,0,27,26,12),(22,0,28,27,12),(23,0,29,28,12),(24,0,30,29,12),(25,0,31,30,12),(26,0,32,31,12)]
def aoU:Cy 6 (ad2,20)=ah (ad1,20):=AM
def adC:QV:=bQ 38 U [(10,0,16,15,12),(11,0,17,16,12),(12,0,18,17,12),(13,0,19,18,12),(14,0,20,19,12),(15,0,21,20,12),(16,0,22,21,12),(17,0,23,22,12),(18,0,24,23,12),(19,0,25,24,12),(20,0,26,25,12),(21,0,27,26,12),(22,0,28,27,12),(23,0,29,28,12),(24,0,30,29,12),(25,0,31,30,12),(26,0,32,31,12),(27,0,32,37,12)] [(32,32)] 28 [(4,32,7,X)] [(0,1,20,1000000000,0)] [([15,17,19,21,18,20,22,24,26,23,25,27,29,31,28,30,32,32,32,32,32],37,1267300)] [(1,1267300,X)] [(U,0,500,1)] [(41,(27,0,32,37,12))] [(1,0,7,6,12),(2,0,8,7,12),(3,0,9,8,12),(4,0,10,9,12),(5,0,11,10,12),(6,0,12,11,12),(7,0,13,12,12),(8,0,14,13,12),(9,0,15,14,12),(10,0,16,15,12),(11,0,17,16,12),(12,0,18,17,12),(13,0,19,18,12),(14,0,20,19,12),(15,0,21,20,12),(16,0,22,21,12),(17,0,23,22,12),(18,0,24,23,12),(19,0,25,24,12),(20,0,26,25,12),(21,0,27,26,12),(22,0,28,27,12),(23,0,29,28,12),(24,0,30,29,12),(25,0,31,30,12),(26,0,32,31,12),(27,0,32,37,12)]
def aoT:Cy 6 (ad1,20)=ah (adC,20):=AM
def adB:QV:=bQ 44 U [(16,0,22,21,12),(17,0,23,22,12),(18,0,24,23,12),(19,0,25,24,12),(20,0,26,25,12),(21,0,27,26,12),(22,0,28,27,12),(23,0,29,28,12),(24,0,30,29,12),(25,0,31,30,12),(26,0,32,31,12),(27,0,32,37,12),(28,0,32,43,12)] [(32,38)] 29 [(4,32,9,X)] [(0,1,20,1000000000,0)] [([22,24,26,23,25,27,29,31,28,30,32,32,32,32,32,32,32,32,32,32,32],43,1543300)] [(1,1543300,X)] [(U,0,500,1)] [(44,(28,0,32,43,12))] [(1,0,7,6,12),(2,0,8,7,12),(3,0,9,8,12),(4,0,10,9,12),(5,0,11,10,12),(6,0,12,11,12),(7,0,13,12,12),(8,0,14,13,12),(9,0,15,14,12),(10,0,16,15,12),(11,0,17,16,12),(12,0,18,17,12),(13,0,19,18,12),(14,0,20,19,12),(15,0,21,20,12),(16,0,22,21,12),(17,0,23,22,12),(18,0,24,23,12),(19,0,25,24,12),(20,0,26,25,12),(21,0,27,26,12),(22,0,28,27,12),(23,0,29,28,12),(24,0,30,29,12),(25,0,31,30,12),(26,0,32,31,12),(27,0,32,37,12),(28,0,32,43,12)]
def aoS:Cy 6 (adC,20)=ah (adB,20):=AM
def adA:QV:=bQ 50 U [(22,0,28,27,12),(23,0,29,28,12),(24,0,30,29,12),(25,0,31,30,12),(26,0,32,31,12),(27,0,32,37,12),(28,0,32,43,12),(29,0,32,49,12)] [(32,44)] 30 [(4,32,6,X)] [(0,1,20,1000000000,0)] [([29,31,28,30,32,32,32,32,32,32,32,32,32,32,32,32,32,32,32,32,32],49,1819300)] [(1,1819300,X)] [(U,0,500,1)] [(52,(29,0,32,49,12))] [(1,0,7,6,12),(2,0,8,7,12),(3,0,9,8,12),(4,0,10,9,12),(5,0,11,10,12),(6,0,12,11,12),(7,0,13,12,12),(8,0,14,13,12),(9,0,15,14,12),(10,0,16,15,12),(11,0,17,16,12),(12,0,18,17,12),(13,0,19,18,12),(14,0,20,19,12),(15,0,21,20,12),(16,0,22,21,12),(17,0,23,22,12),(18,0,24,23,12),(19,0,25,24,12),(20,0,26,25,12),(21,0,27,26,12),(22,0,28,27,12),(23,0,29,28,12),(24,0,30,29,12),(25,0,31,30,12),(26,0,32,31,12),(27,0,32,37,12),(28,0,32,43,12),(29,0,32,49,12)]
def aoR:Cy 6 (adB,20)=ah (adA,20):=AM
def ad9:QV:=bQ 56 U [(27,0,32,37,12),(28,0,32,43,12),(29,0,32,49,12),(30,0,32,55,12)] [(32,50)] 31 [(4,32,11,X)] [(0,1,20,1000000000,0)] [([32,32,32,32,32,32,32,32,32,32,32,32,32,32,32,32,32,32,32,32,32],55,2095300)] [(1,2095300,X)] [(U,0,500,1)] [] [(1,0,7,6,12),(2,0,8,7,12),(3,0,9,8,12),(4,0,10,9,12),(5,0,11,10,12),(6,0,12,11,12),(7,0,13,12,12),(8,0,14,13,12),(9,0,15,14,12),(10,0,16,15,12),(11,0,17,16,12),(12,0,18,17,12),(13,0,19,18,12),(14,0,20,19,12),(15,0,21,20,12),(16,0,22,21,12),(17,0,23,22,12),(18,0,24,23,12),(19,0,25,24,12),(20,0,26,25,12),(21,0,27,26,12),(22,0,28,27,12),(23,0,29,28,12),(24,0,30,29,12),(25,0,31,30,12),(26,0,32,31,12),(27,0,32,37,12),(28,0,32,43,12),(29,0,32,49,12),(30,0,32,55,12)]
def aoQ:Cy 6 (adA,20)=ah (ad9,20):=AM
def vM:QV:=bQ 62 U [(28,0,32,43,12),(29,0,32,49,12),(30,0,32,55,12),(31,0,32,61,12)] [(32,56)] 32 [(4,32,5,X)] [(0,1,20,1000000000,0)] [([32,32,32,32,32,32,32,32,32,32,32,32,32,32,32,32,32,32,32,32,32],61,2371300)] [(1,2371300,X)] [(U,0,500,1)] [(63,(31,0,32,61,12))] [(1,0,7,6,12),(2,0,8,7,12),(3,0,9,8,12),(4,0,10,9,12),(5,0,11,10,12),(6,0,12,11,12),(7,0,13,12,12),(8,0,14,13,12),(9,0,15,14,12),(10,0,16,15,12),(11,0,17,16,12),(12,0,18,17,12),(13,0,19,18,12),(14,0,20,19,12),(15,0,21,20,12),(16,0,22,21,12),(17,0,23,22,12),(18,0,24,23,12),(19,0,25,24,12),(20,0,26,25,12),(21,0,27,26,12),(22,0,28,27,12),(23,0,29,28,12),(24,0,30,29,12),(25,0,31,30,12),(26,0,32,31,12),(27,0,32,37,12),(28,0,32,43,12),(29,0,32,49,12),(30,0,32,55,12),(31,0,32,61,12)]
def aoP:Cy 6 (ad9,20)=ah (vM,20):=AM
def hqe:QV:=bQ 62 X [] [(32,56)] 32 [(4,32,5,X)] [(0,1,20,1000000000,0)] [([32,32,32,32,32,32,32,32,32,32,32,32,32,32,32,32,32,32,32,32,32],61,2371300)] [(1,2371300,X)] [(U,0,500,1)] [(63,(31,0,32,61,12))] [(1,0,7,6,12),(2,0,8,7,12),(3,0,9,8,12),(4,0,10,9,12),(5,0,11,10,12),(6,0,12,11,12),(7,0,13,12,12),(8,0,14,13,12),(9,0,15,14,12),(10,0,16,15,12),(11,0,17,16,12),(12,0,18,17,12),(13,0,19,18,12),(14,0,20,19,12),(15,0,21,20,12),(16,0,22,21,12),(17,0,23,22,12),(18,0,24,23,12),(19,0,25,24,12),(20,0,26,25,12),(21,0,27,26,12),(22,0,28,27,12),(23,0,29,28,12),(24,0,30,29,12),(25,0,31,30,12),(26,0,32,31,12),(27,0,32,37,12),(28,0,32,43,12),(29,0,32,49,12),(30,0,32,55,12),(31,0,32,61,12)]
def ad8:QV:=bQ 70 X [] [(32,56)] 32 [(4,32,5,X)] [(0,1,20,1000000000,0)] [([32,32,32,32,32,32,32,32,32,32,32,32,32,32,32,32,32,32,32,32,32],69,2739300)] [(1,2739300,X)] [(U,0,500,1)] [] [(1,0,7,6,12),(2,0,8,7,12),(3,0,9,8,12),(4,0,10,9,12),(5,0,11,10,12),(6,0,12,11,12),(7,0,13,12,12),(8,0,14,13,12),(9,0,15,14,12),(10,0,16,15,12),(11,0,17,16,12),(12,0,18,17,12),(13,0,19,18,12),(14,0,20,19,12),(15,0,21,20,12),(16,0,22,21,12),(17,0,23,22,12),(18,0,24,23,12),(19,0,25,24,12),(20,0,26,25,12),(21,0,27,26,12),(22,0,28,27,12),(23,0,29,28,12),(24,0,30,29,12),(25,0,31,30,12),(26,0,32,31,12),(27,0,32,37,12),(28,0,32,43,12),(29,0,32,49,12),(30,0,32,55,12),(31,0,32,61,12)]
def aoO:Cy 8 (hqe,0)=ah (ad8,20):=AM
def ad7:QV:=bQ 78 X [] [(32,56)] 32 [(4,0,0,X)] [(0,1,20,1000000000,0)] [([32,32,32,32,32,32,32,32,32,32,32,32,32,32,32,32,32,6,6,6,6],77,2978500)] [(1,2978500,X)] [(U,0,500,1)] [] [(1,0,7,6,12),(2,0,8,7,12),(3,0,9,8,12),(4,0,10,9,12),(5,0,11,10,12),(6,0,12,11,12),(7,0,13,12,12),(8,0,14,13,12),(9,0,15,14,12),(10,0,16,15,12),(11,0,17,16,12),(12,0,18,17,12),(13,0,19,18,12),(14,0,20,19,12),(15,0,21,20,12),(16,0,22,21,12),(17,0,23,22,12),(18,0,24,23,12),(19,0,25,24,12),(20,0,26,25,12),(21,0,27,26,12),(22,0,28,27,12),(23,0,29,28,12),(24,0,30,29,12),(25,0,31,30,12),(26,0,32,31,12),(27,0,32,37,12),(28,0,32,43,12),(29,0,32,49,12),(30,0,32,55,12),(31,0,32,61,12)]
def aoN:Cy 8 (ad8,20)=ah (ad7,6):=AM
def agh:QV:=bQ 86 X [] [(32,56)] 32 [(4,0,0,X)] [(0,1,20,1000000000,0)] [([32,32,32,32,32,32,32,32,32,6,6,6,6,6,6,6,6,6,6,6,6],85,3088900)] [(1,3088900,X)] [(U,0,500,1)] [] [(1,0,7,6,12),(2,0,8,7,12),(3,0,9,8,12),(4,0,10,9,12),(5,0,11,10,12),(6,0,12,11,12),(7,0,13,12,12),(8,0,14,13,12),(9,0,15,14,12),(10,0,16,15,12),(11,0,17,16,12),(12,0,18,17,12),(13,0,19,18,12),(14,0,20,19,12),(15,0,21,20,12),(16,0,22,21,12),(17,0,23,22,12),(18,0,24,23,12),(19,0,25,24,12),(20,0,26,25,12),(21,0,27,26,12),(22,0,28,27,12),(23,0,29,28,12),(24,0,30,29,12),(25,0,31,30,12),(26,0,32,31,12),(27,0,32,37,12),(28,0,32,43,12),(29,0,32,49,12),(30,0,32,55,12),(31,0,32,61,12)]
def aoM:Cy 8 (ad7,6)=ah (agh,6):=AM
def as3:JI DU 0 0 ([]:aI) (aq 1019 255) (aq 1024 255) where
 eq:=rfl
 la:=by rw [RC,Bv];rfl
 lo:=Bv
 bo:=Wr _
 hw:=.inl rfl
 hg:=AT
 old:=λh=>absurd h sS
 bd:=λd hd=>OS
 bk:=Wr _
 tl:=by have:=aFl 1019 [] AT;rwa [HX] at this
def as7:RP (newP (bC 32) bO [] bG [] [0]) hqa:=by
 have e:DI (bC 32) bO [] bG [] [0]=0:=AM
 have e2:newP (bC 32) bO [] bG [] [0]={hqa.p with se:=512,fl:=DU}:=by
  unfold newP;rw [e]
  kernel_rfl
 rw [e2];exact ⟨rfl,rfl,rfl,1019,_,as3,rfl⟩
def I8:EV:=⟨2,0,0,bA,bD⟩
def evF:EV:=⟨5,0,0,(0,0,0,0,0),(X,0,0,0)⟩
def aiK {p:PK}{q:QV}(h:RP p q) (hv:CW q.p=U) (he:q.p.FV 0 bA bD=0):BJ p I8=0/\Br p I8=[]/\RP (Ay p I8) {q with p:=q.p.L6 0 bA bD}:=by
 have e1:BJ p I8=0:=by
  have:q.p.FV 0 bA bD=p.FV 0 bA bD:=by rw [h.1];rfl
  unfold BJ;rw [<-wq h,hv,AE AT,AE AT,AD (show I8.ek=2 from rfl)];exact this.symm.trans he
 refine ⟨e1,aLC,?_⟩
 have e2:Ay p I8=p.L6 0 bA bD:=sJ
 rw [e2];exact ⟨aLN,h.2⟩
def alC {p:PK}{q:QV}(h:RP p q) (hv:CW q.p=U) (he:q.p.up=U):BJ p evF=0/\RP (Ay p evF) {q with p:=q.p.NU}:=by
 have e1:BJ p evF=0:=by
  have:q.p.up=p.up:=by rw [h.1]
  unfold BJ;rw [<-wq h,hv,AE AT,AE AT,AE AT,AE AT,AE AT,AD (show evF.ek=5 from rfl)];unfold PK.JX;rw [<-this,he];rfl
 refine ⟨e1,?_⟩
 have e2:Ay p evF=p.NU:=sJ
 rw [e2];exact ⟨aLN,h.2⟩
def ayq:∃p1 p3 p4 p6,CH 1 (newP (bC 32) bO [] bG [] [0]) 0=(p1,0,U)/\p1.tk=1/\BJ p1 I8=0/\Br p1 I8=[]/\CH 1 (Ay p1 I8) 0=(p3,6,U)/\
  CH 60 p3 0=(p4,20,U)/\BJ p4 evF=0/\CH 24 (Ay p4 evF) 0=(p6,6,U):=by
 obtain ⟨p1,a1,a2⟩:=gA as7 avn;obtain ⟨a3,a4,a5⟩:=aiK a2 AM AM
 have hc:({hqb with p:=hqb.p.L6 0 bA bD}:QV)=hqc:=AM
 simp only [hc] at a5;obtain ⟨p3,b1,b2⟩:=gA a5 avm
 have t60:=JK (JK (JK (JK (JK (JK (JK (JK (JK aoY aoX) aoW) aoV) aoU) aoT) aoS) aoR) aoQ) aoP
 obtain ⟨p4,c1,c2⟩:=gA b2 t60;obtain ⟨c3,c4⟩:=alC c2 AM AM
 have he:({vM with p:=vM.p.NU}:QV)=hqe:=AM
 simp only [he] at c4
 have t24:=JK (JK aoO aoN) aoM
 obtain ⟨p6,d1,d2⟩:=gA c4 t24;exact ⟨p1,p3,p4,p6,a1,by have:=a2.1;have h:hqb.p.tk=1:=rfl;rw [this] at h;exact h,a3,a4,b1,c1,c3,d1⟩
def pD:DI (bC 32) bO [] bG [] [0]=0/\DI (bC 5) bO [] bG [] [0]=13:=⟨AM,AM⟩
structure D1 where
 c:Ca
 m:Mi
 e:Me
 (ph al:Y)
namespace D1
variable (d : D1)
def ok:aL:=!(d.c.2.2.1==0)&&(Gs d.c d.m d.ph d.al==0)
def a:Y:=Di d.c d.m d.ph d.al
def o:Y:=cnt<|DL d.c d.m d.ph d.al
end D1
def d1 (gs:aG) (ca:aMc) (s:DW) (j:Y):D1:=⟨BA ca j,Bz s.mi j,FD s.me j,(AF gs j).2.2.1,BH (AF gs j)<|BI s.st j⟩
def alf {k ph p:Y}(h1:1<=ph/\ph<=7) (h2:1<=p/\p<=7) (h:Hz k ph p≠0):1<=cnt (Hz k ph p):=by
 have:=w8 (k:=k) h1 h2
 unfold cnt;omega
def D1.bd {d:D1}(h:d.ok=U):0<=d.a/\d.a<=80/\0<=d.o/\d.o<=3/\(d.a≠0->1<=d.o)/\(I9 d.c d.m d.ph d.al).2.2=d.m.2.2+2300*d.a*d.o:=by
 unfold D1.ok at h;simp only [AS,C8,Bt,Cb] at h
 have hB:J5 d.c d.m d.ph d.al=true:=by
  have:=h.2
  unfold Gs at this;split at this
  ·assumption
  ·omega
 obtain ⟨hc,hm,h1,h2,h3,h4,_⟩:=gH.1 hB;obtain ⟨b1,b2,b3,b4⟩:=aeD hc hm ⟨h1,h2⟩ ⟨h3,h4⟩
 have hc':=RS.1 hc
 have hs:=aez (n:=DL d.c d.m d.ph d.al)
 have ea:d.a=Dy d.c d.m d.ph d.al:=by unfold D1.a Di;rw [AD hB]
 have eo:d.o=cnt (Fc d.c d.m d.ph d.al):=by unfold D1.o DL;rw [AD hB]
 refine ⟨A0,A0,hs.1,hs.2,λhz=>?_,?_⟩
 ·rw [eo]
  rw [ea] at hz;unfold Fc;rw [AE hz];refine alf ⟨A0,A0⟩ ⟨h1,h2⟩ λhq=>hz ?_
  unfold Dy
  grind
 ·unfold I9
  rw [AD hB,ea,eo];rfl
def JP.step {p:PK}(h:JP p) {e:EV}(he:BJ p e=0):JP (Ay p e):=⟨h.1.step he,h.2.step h.1 he⟩
def JP.Dn {p:PK}(h:JP p):∀(n:aC) (l:Y),JP (CH n p l).1
 |0,_=>h
 | n+1,l=>by
  unfold CH;split
  ·rename_i hc
   exact (h.step hc.1).Dn n _
  ·exact h
def aqj {cs:aK}{os:aF}{ks:aP}{gs:aG}{bs:aQ}{dr:aB}(h:DI cs os ks gs bs dr=0):JP (newP cs os ks gs bs dr):=by
 exact aqi h
variable {p : PK} {e : EV}
def alL {a b:aK}(h:M a=M b) (hg:∀j:aC,j<M a->Aa a j=Aa b j):a=b:=
 VW h λi h1 h2=>by
  have:=hg i h1
  rwa [Oz h1,Oz h2] at this
def QE (cs X:aK):Prop:=M X=M cs/\∀j:aC,∃u,Aa X j=G3 (Aa cs j) u
def aik {gs:aG}{tg am:aB}{cs:aK}{n:aC}(hn:n<=M cs):QE cs (DH gs tg am cs n):=
 ⟨Oj n,λj=>by
  rcases (iM (gs:=gs) (tg:=tg) (am:=am) n hn j).1 with e|⟨_,_,e⟩
  ·exact ⟨_,e⟩
  ·exact ⟨_,e⟩⟩
def ahB (hv:VP p):QE p.cs p.GY.cs:=by
 show QE p.cs (if p.B2.CX.up=X then p.B2.CX.cs else DH p.B2.CX.gs p.B2.CX.tg p.B2.CX.rsA p.B2.CX.cs (M p.B2.CX.tg))
 have e:p.B2.CX.cs=p.cs:=(OY p).1
 have e2:p.B2.CX.tg=p.tg:=(OY p).2.2.2.2.2.2.2.2.2.2.2.2.2
 rw [e,e2];split
 ·exact ⟨rfl,λj=>⟨_,rfl⟩⟩
 ·exact aik (by rw [hv.Ew];exact Ar _)
def aGZ {gs:aG}{ca:aMc}{s:DW}(h:∀j:Y,(BA ca j).2.2.1=0):∀n,Gr gs ca s n=s
 |0=>rfl
 |n+1=>by
  unfold Gr;rw [aGZ h n];exact abD<|h _
def crB (ca:aMc):aL:=ca.any λc=>c.2.2.1 !=0
def atx {ca:aMc}(h:crB ca=X) (j:Y):(BA ca j).2.2.1=0:=by
 unfold BA;rw [DC];cases hx:ca[j.toNat]? with
 |none=>rfl
 |some y=>
  have:=List.any_eq_false.1 h y<|Mj hx
  simpa using this
structure EvI (p:PK) (e:EV):Prop where
 si:(Ay p e).os=p.os/\(Ay p e).ks=p.ks/\(Ay p e).gs=p.gs/\(Ay p e).bs=p.bs
 cs:QE p.cs (Ay p e).cs
 ti:e.ek=1->(Ay p e).tk=p.tk+1/\M (Br p e)=M p.ca
 nt:e.ek≠1->(Ay p e).tk=p.tk/\Br p e=[]
 me:(crB p.ca&&(e.ek==1))=X->(Ay p e).me=p.me
 dw:crB p.ca=X->∀x∈Br p e,x=0
def agI (hv:VP p) (he:BJ p e=0):EvI p e:=by
 by_cases h1:e.ek=1
 ·have eP:Ay p e=p.GY:=by unfold Ay;rw [AE A0,AD h1]
  have eD:Br p e=p.Ij:=by unfold Br;rw [AE A0,AD h1]
  obtain ⟨e1,e2,e3,e4,e5,e6,e7,e8,e9,e10,e11,e12,e13,e14⟩:=OY p
  have hl:=ic (gs:=p.B2.gs) (ca:=p.B2.ca) (s:=⟨p.B2.st,p.B2.mi,p.B2.me,aq (M p.B2.gs) 0⟩)<|M p.B2.gs
  have f9:p.B2.ca=p.ca:=e9
  have no:crB p.ca=X->p.B2.dw=⟨p.B2.st,p.B2.mi,p.B2.me,aq (M p.B2.gs) 0⟩:=λc=>aGZ (by rw [f9];exact atx c) _
  rw [show EvI p e=EvI p e from rfl];refine ⟨by rw [eP];exact ⟨e2,e3,e4,e5⟩,by rw [eP];exact ahB hv,λ_=>⟨by rw [eP];exact Am (·+1) e6,?_⟩,λc=>absurd h1 c,λc=>?_,λc x hx=>?_⟩
  ·rw [eD,hv.ca]
   refine hl.2.2.2.trans ?_;rw [Bv];exact Am M e4
  ·rw [h1] at c
   have c:crB p.ca=false:=EO
   rw [eP]
   have:p.GY.me=p.B2.dw.me:=rfl
   rw [this,no c];exact e11
  ·rw [eD] at hx
   have hx:x∈p.B2.dw.dw:=hx
   rw [no c] at hx;exact List.eq_of_mem_replicate hx
 ·have eD:Br p e=[]:=by unfold Br;rw [AE A0,AE h1]
  have key:(Ay p e).cs=p.cs/\(Ay p e).os=p.os/\(Ay p e).ks=p.ks/\(Ay p e).gs=p.gs/\(Ay p e).bs=p.bs/\(Ay p e).tk=p.tk/\(Ay p e).me=p.me:=by
   unfold Ay;rw [AE A0,AE h1]
   repeat' split
   all_goals exact ⟨rfl,rfl,rfl,rfl,rfl,rfl,rfl⟩
  obtain ⟨k1,k2,k3,k4,k5,k6,k7⟩:=key;exact ⟨⟨k2,k3,k4,k5⟩,by rw [k1];exact ⟨rfl,λj=>⟨_,rfl⟩⟩,λc=>absurd c h1,λ_=>⟨k6,eD⟩,λ_=>k7,λ_ x hx=>by rw [eD] at hx;cases hx⟩
def QC (p:PK):aL:=p.mi.all (λm=>an<|(M m.1:Y)<=40)&&(an (M p.cs<=40/\M p.os<=40/\M p.ks<=40/\M p.gs<=40/\M p.bs<=40)&&(an ((M p.st:Y)+(M p.ca:Y)+(M p.mi:Y)+(M p.me:Y)+(M p.dm:Y)+(M p.dr:Y)+(M p.tg:Y)<=200)&&(an ((M p.lk:Y)<=150)&&(an ((M p.ls:Y)<=100)&&(an ((M p.ra:Y)<=40)&&an ((M p.fl:Y)<=4100))))))
structure Fw (p:PK):Prop where
 mi:M p.mi<=17592186044416
 st:M p.st<=17592186044416
 ca:M p.ca<=17592186044416
 me:M p.me<=17592186044416
 dm:M p.dm<=17592186044416
 dr:M p.dr<=17592186044416
 tg:M p.tg<=17592186044416
 fl:As p.fl
def atF (h:QC p=U) (hw:Fw p):GP p:=by
 unfold QC at h;simp only [AS,AU,B7] at h;obtain ⟨h1,h2,h3,h4,h5,h6,h7⟩:=h;exact ⟨A0,λhv=>⟨hv,⟨hw.fl,A0⟩,A0,by have:=hv.tk;omega,A0,λm hm=>by have:=h1 m hm;omega⟩⟩
end Go.Proofs.YtjjcgjkagokchaaGreatDoor
namespace Go.Proofs.YtjjcgjkagokchaaGreatDoor
set_option maxRecDepth 100000
set_option maxHeartbeats 4000000
open Go.Proofs.Tryz
open Go.Sx
structure Kg where
 e:Y
 b:aL
 (last n i:Y)
 (p r:PK)
def xS:=bN f12 0
def mm (s:Kg):T (Rd Kg):=letI a:=(M (Br s.p DN):Y);.br (an<|s.i<s.n) (.req (GP s.p)<|.br (((BJ s.p DN) !=0) ||(a !=(M (Ay s.p DN).ca:Y))) (.so (.ret) {s with e:=s.last,b:=X,r:=s.p})<|.br (an<|a>0) (.req (0<=(0:Y)/\0<a)<|.nx {s with last:=gi (Br s.p DN) (0:Y),i:=AA<|s.i+1,p:=Ay s.p DN})<|.nx {s with i:=AA<|s.i+1,p:=Ay s.p DN})<|.so (.exit 0) s
def Zt (s:Kg):Prop:=s.i=0/\s.n<=1000/\JP s.p
def Z9 (s:Kg):Prop:=0<=s.i/\s.n<=1000/\JP s.p
def ja (s:Kg):aC:=(s.n-s.i).toNat
def ab8 (x:Ex) (s s':Kg):Prop:=True
def avl:∀s,Zt s->Z9 s:=by
 exact dC
def an0:Da Z9 ja ab8 mm:=by
 intro s hI;obtain ⟨h0,h1,h2⟩:=hI;refine allR_ite (λc1=>allR_ite (λc2=>trivial) λc2=>allR_ite (λc3=>?_) λc3=>?_) λc1=>trivial
 all_goals have c1:s.i<s.n:=A8
 all_goals rw [AG (x:=s.i+1)]
 all_goals exact ⟨⟨A8,h1,h2.step<|DG (EM.1 c2).1⟩,by simp only [ja];omega⟩
def NW:LpD Kg:=⟨0,43,[2,4,5,6,7,11,12],[.ps 4 0 AR,.ps 4 1 .str,.ps 4 2 AY,.ps 4 3 AX,.ps 4 4 AZ,.ps 4 7 AL,.ps 4 9<|.int aw,.ps 4 10 Ae,.ps 4 12 Al,.ps 4 13 AL,.ps 4 14 Ap,.ps 4 15 Az,.ps 4 16 Aq,.ps 4 17 Au,.ps 4 18 A7,.ps 4 19 A7],λs=>[.own 0 0,.own 1 0,s.e,s.b,s.last,s.n,s.i],λs=>[⟨[s.p.cs,s.p.os,s.p.ks,s.p.gs,s.p.bs,s.p.tk,s.p.up,s.p.ls,s.p.se,.xl (.int aw) s.p.fl,s.p.ra,s.p.nx,s.p.st,s.p.ca,s.p.mi,s.p.me,s.p.dm,s.p.lk,.xl A7 s.p.dr,.xl A7 s.p.tg],44,.cl,X⟩,⟨[s.r.cs,s.r.os,s.r.ks,s.r.gs,s.r.bs,s.r.tk,s.r.up,s.r.ls,s.r.se,.xl (.int aw) s.r.fl,s.r.ra,s.r.nx,s.r.st,s.r.ca,s.r.mi,s.r.me,s.r.dm,s.r.lk,.xl A7 s.r.dr,.xl A7 s.r.tg],44,.cl,X⟩],λv b=>⟨AJ v 2,BU v 3,AJ v 4,AJ v 5,AJ v 6,rQ b 0,rQ b 1⟩,mm,λs r=> {r with n:=s.n},λs=>s,λ_ s=>s,[.ret,.exit 0],Zt,Z9,ja⟩
abbrev Oa:=NW.run
abbrev gV:=NW.exn
def apg:Rq Z9 mm:=by
 intro s hI;refine ⟨λc1=>⟨?_,λ_=>trivial,λc2=>⟨λc3=>⟨?_,ak⟩,λ_=>trivial⟩⟩,λ_=>trivial⟩
 all_goals ((obtain ⟨h0,h1,h2⟩:=hI;first|exact h2.gp|(simp only [AU] at c3;omega)))
def mE:aM:=[gv]
def aEn:NW.Ok:={}
def aCx:NW.Pf (ab8):=⟨avl,λs h=>rfl,an0,apg⟩
def ai8:SA 0 xS NW:=s1 aEn aCx mE kN
def ah9:Rs Zt gV Oa (λs:Kg=>CH (s.n-s.i).toNat s.p s.last) (λx s' (v:PK×Int×Bool)=>(x=.exit 0/\(s'.p,s'.last,U)=v)\/(x=.ret/\(s'.r,s'.e,s'.b)=v)):=CM aEn aCx (λs hI=>by
  obtain ⟨h0,h1,h2⟩:=hI;refine allR_ite (λc1=>?_) λc1=>?_
  ·have c1:s.i<s.n:=A8
   have e:(s.n-s.i).toNat=(s.n-(s.i+1)).toNat+1:=A0
   rw [AG (x:=s.i+1),e,CH];refine allR_ite (λc2=>?_) λc2=>?_
   ·have hc:¬(BJ s.p DN=0/\M (Br s.p DN)=M (Ay s.p DN).ca):=λh=>by
     rw [h.1,h.2] at c2
     simp at c2
    rw [AE hc];exact .inr ⟨rfl,rfl⟩
   ·have hc:BJ s.p DN=0/\M (Br s.p DN)=M (Ay s.p DN).ca:=by
     grind
    rw [AD hc];refine allR_ite (λc3=>?_) λc3=>?_
    ·have c3:M (Br s.p DN)>0:=A8
     rw [AD c3];rfl
    ·have c3:¬(M<|Br s.p DN)>0:=A8
     rw [AE c3];rfl
  ·have c1:s.n<=s.i:=A8
   rw [show (s.n-s.i).toNat=0 by omega]
   exact .inl ⟨rfl,rfl⟩)
def aGD:aD->T LV
 | [x_p,.v (ag J many)]=>(match Jr x_p with
  |some p=> .req (JP p/\many<=1000) (.ok<|.tup [(CH many.toNat p 0).1,(CH many.toNat p 0).2.1,(CH many.toNat p 0).2.2])
  |none=> .no)
 |_=> .no
def JF (p:PK) (many:Y):Kg:=(⟨0,X,0,many,0,p,⟨([]:aK),([]:aF),([]:aP),([]:aG),([]:aQ),0,X,([]:aN),0,([]:aB),([]:bp),0,([]:bf),([]:aN),([]:aL4),([]:aL6),([]:aZ),([]:aLZ),([]:aB),([]:aB)⟩⟩:Kg)
def arj (p:PK) (many:Y):letI a:=Oa<|JF p many;BD prog AO (mE) kN (λi=>if i=3 then NW.lp else noLoops i) f12 [p,many]=.req (NW.q<|JF p many) (.br (isEx (gV<|JF p many)<|.ret) (.ok<|.tup [a.r,a.e,a.b])<|.ok<|.tup [a.p,a.last,U]):=AM
def awE:=vm (S:=aGD) func12 mE kN (L:=(λi=>if i=3 then NW.lp else noLoops i)) (λb hb=>by
 rw [show loopsIn _=[xS] by kernel_rfl] at hb
 simp only [Ak,B8,B6] at hb;subst hb;exact ai8) (λargs lv h=>by
 refine ⟨?_⟩;unfold aGD at h;split at h
 ·split at h
  case h_2=>cases h
  rename_i p hp;obtain rfl:=Ov hp;simp only [canL,canX];rw [arj];rename_i many _;obtain ⟨⟨hJ,hm⟩,rfl⟩:=h
  have hE:Zt (JF p many):=⟨rfl,hm,hJ⟩
  have e:(many-0).toNat=many.toNat:=AH
  have q:(gV (JF p many)=.exit 0/\((Oa<|JF p many).p,(Oa<|JF p many).last,U)=CH many.toNat p 0)\/(gV (JF p many)=.ret/\((Oa<|JF p many).r,(Oa<|JF p many).e,(Oa<|JF p many).b)=CH many.toNat p 0):=by
   rw [<-e];exact ah9 _ hE
  refine ⟨⟨hE,rfl,rfl⟩,λc=>?_,λc=>?_⟩
  ·rcases q with ⟨x1,_⟩ |⟨_,x2⟩
   ·rw [x1] at c
    cases c
   ·rw [<-x2]
    rfl
  ·rcases q with ⟨_,x2⟩ |⟨x1,_⟩
   ·rw [<-x2]
    rfl
   ·rw [x1] at c
    cases c
 ·cases h)
def aGK:aD->T LV:=λ_=> .no
def anT:VV 1000022 aGK:=by
 exact qn
structure HF where
 DI:aK->aF->aP->aG->aQ->aB->Int
 newP:aK->aF->aP->aG->aQ->aB->PK
 BJ:PK->EV->Int
 Ay:PK->EV->PK
 Br:PK->EV->List Int
 CH:aC->PK->Y->PK×Int×Bool
 (JP GP:PK->Prop)
def hdF:HF:=⟨DI,newP,BJ,Ay,Br,CH,JP,GP⟩
def ag1 (F:HF):aD->T LV
 | [x_p,x_ev]=>(match Jr x_p with
  |some p=>(match VF x_ev with
  |some ev=> .req (F.GP p) (.ok<|.tup [F.Ay p<|EW.ev ev,.xl A7<|F.Br p<|EW.ev ev,F.BJ p<|EW.ev ev])
  |none=> .no)
  |none=> .no)
 |_=> .no
def amb (F:HF):aD->T LV:=IE prog f6.params.toList<|ag1 F
def amf (F:HF):aD->T LV
 | [.agg [.xl (.pair .str (.pair (.int J) (.pair (.int J) (.pair (.int J) (.pair (.pair (.int J) (.int J)) (.pair (.int J) (.pair (.int J) (.pair (.int J) (.pair (.int J) (.int J)))))))))) cs,.xl (.str) os,.xl (.pair .str (.pair (.int J) (.pair (.int J) (.int J)))) ks,.xl (.pair .str (.pair (.int J) (.pair (.int J) (.pair (.int J) (.pair (.int J) (.pair (.int J) (.pair (.int J) (.int J)))))))) gs,.xl (.pair .str (.int J)) bs],.xl (.int J) dr]=> .req (M dr<=1000) (.ok<|.tup [F.newP cs os ks gs bs dr,F.DI cs os ks gs bs dr])
 |_=> .no
def avH (F:HF):aD->T LV:=IE prog f10.params.toList<|amf F
def amd (F:HF):aD->T LV
 | [x_p,.v (ag J many)]=>(match Jr x_p with
  |some p=> .req (F.JP p/\many<=1000) (.ok<|.tup [(F.CH many.toNat p 0).1,(F.CH many.toNat p 0).2.1,(F.CH many.toNat p 0).2.2])
  |none=> .no)
 |_=> .no
def avE (F:HF):aD->T LV:=IE prog f12.params.toList<|amd F
def bS:aK:=letI a:=((bC 32).getD (0:Y).toNat<|Ty.dflt AR);(bC 32).set (0:Y).toNat (a.1,(a.2.1,((5:Y),a.2.2.2)))
def hN (F:HF):PK:=F.newP (((bC 32).drop 0).take 1) bO ([]:aP) bG ([]:aQ)<|[(0:Y)]
def hA (F:HF):PK×Int×Bool:=F.CH (1:Y).toNat (hN F) 0
def hB (F:HF):PK:=F.Ay (hA F).1<|EW.ev<|⟨2,0,0,0,1,20,1000000000,0,U,0,500,1⟩
def hC (F:HF):PK×Int×Bool:=F.CH (1:Y).toNat (hB F) 0
def hD (F:HF):PK×Int×Bool:=F.CH (60:Y).toNat (hC F).1 0
def hX (F:HF):PK:=F.Ay (hD F).1<|EW.ev<|⟨5,0,0,0,0,0,0,0,X,0,0,0⟩
def hL (F:HF):PK×Int×Bool:=F.CH (24:Y).toNat (hX F) 0
def abk (F:HF):hA F=F.CH 1 (hN F) 0:=rfl
def abj (F:HF):hB F=F.Ay (hA F).1 I8:=rfl
def abh (F:HF):hC F=F.CH 1 (hB F) 0:=rfl
def abg (F:HF):hD F=F.CH 60 (hC F).1 0:=rfl
def abf (F:HF):hX F=F.Ay (hD F).1 evF:=rfl
def ayr (F:HF):hL F=F.CH 24 (hX F) 0:=rfl
def ab6:aD->T LV
 | []=> .ok U
 |_=> .no
def X1:aM:=[gv,awO,awE,anT]
def lz:Aj:=kI X1<|la 9 func23 zZ<|la 11 func43 Oq<|la 6 func43 NB<|la 3 func71 Ls<|la 2 func42 KO<|la 1 func41 JN<|la 2 func50 Ia<|la 9 func23 C2<|l0 X1
def eK (F:HF):aLY:=specsOf [(6,amb F),(10,avH F),(12,avE F),(1000022,aGK)]
def ad6 (F:HF):aMf:=inl prog AO (eK F) (addL 23 9 9 (SL.lp)<|addL 43 21 11 (MJ.lp)<|addL 43 21 6 (NZ.lp)<|addL 71 21 3 (NY.lp)<|addL 42 20 2 (Pz.lp)<|addL 41 20 1 (NQ.lp)<|addL 50 19 2 (Q5.lp)<|addL 23 0 9 (Eb.lp)<|unrL prog AO (eK F) 20 2) 9
def arA (F:HF):letI a:=(EW.ev<|⟨2,0,0,0,1,20,1000000000,0,U,0,500,1⟩);letI b:=(hA F);BD prog AO (eK F) (ad6 F) noLoops f4 []=.req (0+1<=M (bC 32)) (.req (M ([(0:Y)])<=1000)<|.req (F.JP ((hN F))/\(1:Y)<=1000)<|.req (F.GP b.1)<|.req (F.JP ((hB F))/\(1:Y)<=1000)<|.req (F.JP ((hC F)).1/\(60:Y)<=1000)<|.req (F.GP ((hD F)).1)<|.req (F.JP ((hX F))/\(24:Y)<=1000)<|.req (0<=(0:Y)/\(0:Y)<((1:aC):Y))<|.req ((0:Y).toNat<M (bC 32))<|.req (0+1<=M bS)<|.req (M ([(0:Y)])<=1000)<|.ok<|.v<|.bool<|(((F.DI (((bC 32).drop 0).take 1) bO ([]:aP) bG ([]:aQ)<|[(0:Y)])==0)&&(((F.BJ b.1 a)==0)&&(((F.BJ ((hD F)).1<|EW.ev<|⟨5,0,0,0,0,0,0,0,X,0,0,0⟩)==0)&&(((F.DI ((bS.drop 0).take 1) bO ([]:aP) bG ([]:aQ)<|[(0:Y)])==13)&&(b.2.2&&(((hC F)).2.2&&(((hD F)).2.2&&(((hL F)).2.2&&((M (F.Br b.1 a):Y)==0)))))))))&&((b.2.1==0)&&((b.1.tk==1)&&((((hC F)).2.1==6)&&((((hD F)).2.1==20)&&(((hL F)).2.1==6)))))):=AM
def atX:X1=eK hdF:=AM
def as1:lz=ad6 hdF:=AM
def axu:letI a:=(EW.ev<|⟨2,0,0,0,1,20,1000000000,0,U,0,500,1⟩);letI b:=(hA hdF);letI c:=(hD hdF);BD prog AO (X1) lz noLoops f4 []=.req (0+1<=M (bC 32)) (.req (M ([(0:Y)])<=1000)<|.req (hdF.JP ((hN hdF))/\(1:Y)<=1000)<|.req (hdF.GP b.1)<|.req (hdF.JP ((hB hdF))/\(1:Y)<=1000)<|.req (hdF.JP ((hC hdF)).1/\(60:Y)<=1000)<|.req (hdF.GP c.1)<|.req (hdF.JP ((hX hdF))/\(24:Y)<=1000)<|.req (0<=(0:Y)/\(0:Y)<((1:aC):Y))<|.req ((0:Y).toNat<M (bC 32))<|.req (0+1<=M (bS))<|.req (M ([(0:Y)])<=1000)<|.ok<|.v<|.bool<|(((hdF.DI (((bC 32).drop 0).take 1) (bO) ([]:aP) (bG) ([]:aQ)<|[(0:Y)])==0)&&(((hdF.BJ b.1 a)==0)&&(((hdF.BJ c.1<|EW.ev<|⟨5,0,0,0,0,0,0,0,X,0,0,0⟩)==0)&&(((hdF.DI (((bS).drop 0).take 1) (bO) ([]:aP) (bG) ([]:aQ)<|[(0:Y)])==13)&&(b.2.2&&(((hC hdF)).2.2&&(c.2.2&&(((hL hdF)).2.2&&((M (hdF.Br b.1 a):Y)==0)))))))))&&((b.2.1==0)&&((b.1.tk==1)&&((((hC hdF)).2.1==6)&&((c.2.1==20)&&(((hL hdF)).2.1==6)))))):=by
 rw [atX,as1];exact arA hdF
def acw:=vo (S:=ab6) func4 X1 lz (λargs lv h=>by
 refine ⟨?_⟩;unfold ab6 at h;split at h
 ·simp only [canL]
  rw [axu];obtain rfl:=h;simp only [show hdF.DI=DI from rfl,show hdF.newP=newP from rfl,show hdF.BJ=BJ from rfl,show hdF.Ay=Ay from rfl,show hdF.Br=Br from rfl,show hdF.CH=CH from rfl,show hdF.JP=JP from rfl,show hdF.GP=GP from rfl];obtain ⟨p1,p3,p4,p6,a1,a2,a3,a4,a5,a6,a7,a8⟩:=ayq
  have eN:(hN hdF)=newP (bC 32) bO [] bG [] [0]:=rfl
  have t1:hdF.CH=CH:=rfl
  have t2:hdF.Ay=Ay:=rfl
  have eA:hA hdF=(p1,0,U):=by rw [abk,t1,eN];exact a1
  have eB:hB hdF=Ay p1 I8:=by rw [abj,t2,eA]
  have eC:hC hdF=(p3,6,U):=by rw [abh,t1,eB];exact a5
  have eD:hD hdF=(p4,20,U):=by rw [abg,t1,eC];exact a6
  have eX:hX hdF=Ay p4 evF:=by rw [abf,t2,eD]
  have eL:hL hdF=(p6,6,U):=by rw [ayr,t1,eX];exact a8
  have jN:JP (hN hdF):=by rw [eN];exact aqj pD.1
  have jA:JP (hA hdF).1:=by rw [abk,t1];exact jN.Dn _ _
  have sA:BJ (hA hdF).1 I8=0:=by rw [eA];exact a3
  have jB:JP (hB hdF):=by rw [abj,t2];exact jA.step sA
  have jC:JP (hC hdF).1:=by rw [abh,t1];exact jB.Dn _ _
  have jD:JP (hD hdF).1:=by rw [abg,t1];exact jC.Dn _ _
  have sD:BJ (hD hdF).1 evF=0:=by rw [eD];exact a7
  have jX:JP (hX hdF):=by rw [abf,t2];exact jD.step sD
  have n1:DI (((bC 32).drop 0).take 1) bO [] bG [] [(0:Y)]=0:=pD.1
  have n2:DI ((bS.drop 0).take 1) bO [] bG [] [(0:Y)]=13:=pD.2
  have b3:BJ p1 (EW.ev ⟨2,0,0,0,1,20,1000000000,0,U,0,500,1⟩)=0:=a3
  have b4:Br p1 (EW.ev ⟨2,0,0,0,1,20,1000000000,0,U,0,500,1⟩)=[]:=a4
  have b7:BJ p4 (EW.ev ⟨5,0,0,0,0,0,0,0,X,0,0,0⟩)=0:=a7
  refine ⟨AT,AT,⟨jN,AT⟩,jA.gp,⟨jB,AT⟩,⟨jC,AT⟩,jD.gp,⟨jX,AT⟩,AT,AT,AT,AT,?_⟩
  show LV.v (.bool _)=_
  simp only [n1,n2,eA,eC,eD,eL,a2,b3,b4,b7,BG];rfl
 ·cases h)
def aH4:aD->T LV
 | .agg a::r=>s5 a λcs os ks gs bs=>(match r with
  | []=> .ok (an<|M cs<=40/\M os<=40/\M ks<=40/\M gs<=40/\M bs<=40)
  |_=> .no)
 |_=> .no
def FT:aM:=[]
def awF:=vo (S:=aH4) func13 FT kN (λargs lv h=>by
 unfold aH4 at h;split at h
 case h_2=>cases h
 replace h:=GV h
 obtain ⟨cs,os,ks,gs,bs,rfl,h⟩:=h;split at h
 ·refine Af (.ok<|.v<|.bool<|(an<|(M cs:Y)<=40)&&((an<|(M os:Y)<=40)&&((an<|(M ks:Y)<=40)&&((an<|(M gs:Y)<=40)&&(an<|(M bs:Y)<=40))))) ?_
  obtain rfl:=h;refine Am (λz=>LV.v<|.bool z) ?_
  rw [GG];simp only [AS,AU];omega
 ·cases h)
structure LD where
 (a b:aL6)
 b0:aL
 (n i:Y)
def yA:=bN f9 0
def YX (s:LD):T (Rd LD):=
 .br (an<|s.i<s.n) (.ix s.i (M s.a)<|.ix s.i (M s.b)<|.br (!(((FD s.a s.i).1==(FD s.b s.i).1)&&(((FD s.a s.i).2.1==(FD s.b s.i).2.1)&&((FD s.a s.i).2.2==(FD s.b s.i).2.2)))) (.so (.ret) {s with b0:=X})<|.nx {s with i:=AA<|s.i+1}) (.so (.exit 0) s)
def uy (s:LD):Prop:=s.i=0/\s.a=s.b/\s.n=(M s.a:Y)/\(M s.a:Y)<=100000
def U4 (s:LD):Prop:=(0<=s.i/\s.i<=(M s.a:Y))/\s.a=s.b/\s.n=(M s.a:Y)/\(M s.a:Y)<=100000
def kU (s:LD):aC:=((M s.a:Y)-s.i).toNat
def tJ (x:Ex) (s s':LD):Prop:=x=.exit 0
def ay6:∀s,uy s->U4 s:=by
 exact Ft
def asu:Da U4 kU tJ YX:=by
 intro s hI;unfold YX;dsimp only [T.rd,T.rl,T.rv];obtain ⟨⟨h0,h1⟩,h2,h3,h4⟩:=hI;refine allR_ite (λc1=>?_) λc1=>rfl
 have c1:s.i<(M s.a:Y):=H3
 rw [AG (x:=s.i+1)];refine allR_ite (λc2=>?_) λc2=>⟨⟨⟨AP,AP⟩,h2,h3,h4⟩,by simp only [kU];omega⟩
 exact Gy
def Py:LpD LD:=⟨0,26,[0,1,4,12,13],[],λs=>[s.a,s.b,s.b0,s.n,s.i],λ_=>[],λv b=>⟨Ag Az v 0,Ag Az v 1,BU v 2,AJ v 3,AJ v 4⟩,YX,λs r=> {s with b0:=r.b0,i:=r.i},λs=>s,λ_ s=>s,[.ret,.exit 0],uy,U4,kU⟩
abbrev zT:=Py.run
abbrev aBQ:=Py.exn
def aqa:Rq U4 YX:=by
 exact Ms
def aEK:Py.Ok:={}
def aDT:Py.Pf (tJ):=⟨ay6,λs h=>rfl,asu,aqa⟩
def aj9:SA 0 yA Py:=s1 aEK aDT FT kN
def am7:Fi uy U4 tJ aBQ zT:=LpD.fin aEK aDT
def aCC:aD->T LV
 | [.xl (.pair (.int J) (.pair (.int J) .bool)) a,.xl (.pair (.int J) (.pair (.int J) .bool)) b]=> .req (a=b/\(M a:Y)<=100000) (.ok U)
 |_=> .no
def j3:=vm (S:=aCC) func9 FT kN (L:=(λi=>if i=4 then Py.lp else noLoops i)) (λb hb=>by
 rw [show loopsIn _=[yA] by kernel_rfl] at hb
 simp only [Ak,B8,B6] at hb;subst hb;exact aj9) (λargs lv h=>by
 unfold aCC at h;split at h
 ·rename_i a b
  refine Af (letI d:=(M a:Y);.br (d !=(M b:Y)) (.ok X)<|.req (Py.q (⟨a,b,X,d,0⟩:LD))<|.br (isEx (aBQ (⟨a,b,X,d,0⟩:LD))<|.ret) (.ok (zT (⟨a,b,X,d,0⟩:LD)).b0)<|.ok U) ?_;obtain ⟨⟨rfl,hl⟩,rfl⟩:=h;refine ⟨λc=>absurd c AH,λ_=>Cx ⟨⟨rfl,rfl,rfl,hl⟩,rfl,rfl⟩ λhE=>?_⟩
  obtain ⟨_,_,q⟩:=am7 _ hE.1;rw [q];exact ⟨λh=>Ab,λ_=>rfl⟩
 ·cases h)
structure LC where
 (a b:aN)
 b0:aL
 (n i:Y)
def y9:=bN f25 0
def YW (s:LC):T (Rd LC):=letI c:=An s.a s.i;letI d:=An s.b s.i;.br (an<|s.i<s.n) (.ix s.i (M s.a)<|.ix s.i (M s.b)<|.br (!((c.1==d.1)&&((c.2.1==d.2.1)&&((c.2.2.1==d.2.2.1)&&((c.2.2.2.1==d.2.2.2.1)&&(c.2.2.2.2==d.2.2.2.2)))))) (.so (.ret) {s with b0:=X})<|.nx {s with i:=AA<|s.i+1})<|.so (.exit 0) s
def ux (s:LC):Prop:=s.i=0/\s.a=s.b/\s.n=(M s.a:Y)/\(M s.a:Y)<=100000
def U3 (s:LC):Prop:=(0<=s.i/\s.i<=(M s.a:Y))/\s.a=s.b/\s.n=(M s.a:Y)/\(M s.a:Y)<=100000
def kT (s:LC):aC:=((M s.a:Y)-s.i).toNat
def tI (x:Ex) (s s':LC):Prop:=x=.exit 0
def ay5:∀s,ux s->U3 s:=by
 exact Ft
def asr:Da U3 kT tI YW:=by
 intro s hI;unfold YW;dsimp only [T.rd,T.rl,T.rv];obtain ⟨⟨h0,h1⟩,h2,h3,h4⟩:=hI;refine allR_ite (λc1=>?_) λc1=>rfl
 have c1:s.i<(M s.a:Y):=H3
 rw [AG (x:=s.i+1)];refine allR_ite (λc2=>?_) λc2=>⟨⟨⟨AP,AP⟩,h2,h3,h4⟩,by simp only [kT];omega⟩
 exact Gy
def Px:LpD LC:=⟨0,26,[0,1,4,12,13],[],λs=>[s.a,s.b,s.b0,s.n,s.i],λ_=>[],λv b=>⟨Ag AL v 0,Ag AL v 1,BU v 2,AJ v 3,AJ v 4⟩,YW,λs r=> {s with b0:=r.b0,i:=r.i},λs=>s,λ_ s=>s,[.ret,.exit 0],ux,U3,kT⟩
abbrev zS:=Px.run
abbrev aBP:=Px.exn
def aqZ:Rq U3 YW:=by
 exact Ms
def aEJ:Px.Ok:={}
def aDS:Px.Pf (tI):=⟨ay5,λs h=>rfl,asr,aqZ⟩
def aj7:SA 0 y9 Px:=s1 aEJ aDS FT kN
def am6:Fi ux U3 tI aBP zS:=LpD.fin aEJ aDS
def aCB:aD->T LV
 | [.xl (.pair (.int J) (.pair (.int J) (.pair (.int J) (.pair (.int J) (.int J))))) a,.xl (.pair (.int J) (.pair (.int J) (.pair (.int J) (.pair (.int J) (.int J))))) b]=> .req (a=b/\(M a:Y)<=100000) (.ok U)
 |_=> .no
def anm:=vm (S:=aCB) func25 FT kN (L:=(λi=>if i=4 then Px.lp else noLoops i)) (λb hb=>by
 rw [show loopsIn _=[y9] by kernel_rfl] at hb
 simp only [Ak,B8,B6] at hb;subst hb;exact aj7) (λargs lv h=>by
 unfold aCB at h;split at h
 ·rename_i a b
  refine Af (letI d:=(M a:Y);.br (d !=(M b:Y)) (.ok X)<|.req (Px.q (⟨a,b,X,d,0⟩:LC))<|.br (isEx (aBP (⟨a,b,X,d,0⟩:LC))<|.ret) (.ok (zS (⟨a,b,X,d,0⟩:LC)).b0)<|.ok U) ?_;obtain ⟨⟨rfl,hl⟩,rfl⟩:=h;refine ⟨λc=>absurd c AH,λ_=>Cx ⟨⟨rfl,rfl,rfl,hl⟩,rfl,rfl⟩ λhE=>?_⟩
  obtain ⟨_,_,q⟩:=am6 _ hE.1;rw [q];exact ⟨λh=>Ab,λ_=>rfl⟩
 ·cases h)
structure LA where
 (a b:bp)
 b0:aL
 (n i:Y)
def y8:=bN f26 0
def YV (s:LA):T (Rd LA):=
 .br (an<|s.i<s.n) (.ix s.i (M s.a)<|.ix s.i (M s.b)<|.br (!(((BL s.a s.i).1==(BL s.b s.i).1)&&((BL s.a s.i).2==(BL s.b s.i).2))) (.so (.ret) {s with b0:=X})<|.nx {s with i:=AA<|s.i+1}) (.so (.exit 0) s)
def uw (s:LA):Prop:=s.i=0/\s.a=s.b/\s.n=(M s.a:Y)/\(M s.a:Y)<=100000
def U2 (s:LA):Prop:=(0<=s.i/\s.i<=(M s.a:Y))/\s.a=s.b/\s.n=(M s.a:Y)/\(M s.a:Y)<=100000
def kS (s:LA):aC:=((M s.a:Y)-s.i).toNat
def tH (x:Ex) (s s':LA):Prop:=x=.exit 0
def ayc:∀s,uw s->U2 s:=by
 exact Ft
def asq:Da U2 kS tH YV:=by
 intro s hI;unfold YV;dsimp only [T.rd,T.rl,T.rv];obtain ⟨⟨h0,h1⟩,h2,h3,h4⟩:=hI;refine allR_ite (λc1=>?_) λc1=>rfl
 have c1:s.i<(M s.a:Y):=H3
 rw [AG (x:=s.i+1)];refine allR_ite (λc2=>?_) λc2=>⟨⟨⟨AP,AP⟩,h2,h3,h4⟩,by simp only [kS];omega⟩
 exact Gy
def Pw:LpD LA:=⟨0,26,[0,1,4,12,13],[],λs=>[s.a,s.b,s.b0,s.n,s.i],λ_=>[],λv b=>⟨Ag Ae v 0,Ag Ae v 1,BU v 2,AJ v 3,AJ v 4⟩,YV,λs r=> {s with b0:=r.b0,i:=r.i},λs=>s,λ_ s=>s,[.ret,.exit 0],uw,U2,kS⟩
abbrev zR:=Pw.run
abbrev zv:=Pw.exn
def aqY:Rq U2 YV:=by
 exact Ms
def aEI:Pw.Ok:={}
def aDR:Pw.Pf (tH):=⟨ayc,λs h=>rfl,asq,aqY⟩
def aj1:SA 0 y8 Pw:=s1 aEI aDR FT kN
def am5:Fi uw U2 tH zv zR:=LpD.fin aEI aDR
def aCA:aD->T LV
 | [.xl (.pair (.int J) (.int J)) a,.xl (.pair (.int J) (.int J)) b]=> .req (a=b/\(M a:Y)<=100000) (.ok U)
 |_=> .no
def anl:=vm (S:=aCA) func26 FT kN (L:=(λi=>if i=4 then Pw.lp else noLoops i)) (λb hb=>by
 rw [show loopsIn _=[y8] by kernel_rfl] at hb
 simp only [Ak,B8,B6] at hb;subst hb;exact aj1) (λargs lv h=>by
 unfold aCA at h;split at h
 ·rename_i a b
  refine Af (letI d:=(M a:Y);.br (d !=(M b:Y)) (.ok X)<|.req (Pw.q (⟨a,b,X,d,0⟩:LA))<|.br (isEx (zv (⟨a,b,X,d,0⟩:LA))<|.ret) (.ok (zR (⟨a,b,X,d,0⟩:LA)).b0)<|.ok U) ?_;obtain ⟨⟨rfl,hl⟩,rfl⟩:=h;refine ⟨λc=>absurd c AH,λ_=>Cx ⟨⟨rfl,rfl,rfl,hl⟩,rfl,rfl⟩ λhE=>?_⟩
  obtain ⟨_,_,q⟩:=am5 _ hE.1;rw [q];exact ⟨λh=>Ab,λ_=>rfl⟩
 ·cases h)
structure Ke where
 (a b:bf)
 b0:aL
 (n i:Y)
def y7:=bN f28 0
def Xw (s:Ke):T (Rd Ke):=letI c:=BI s.a s.i;letI d:=BI s.b s.i;.br (an<|s.i<s.n) (.ix s.i (M s.a)<|.ix s.i (M s.b)<|.br (!((c.1==d.1)&&((c.2.1==d.2.1)&&((c.2.2.1==d.2.2.1)&&(c.2.2.2==d.2.2.2))))) (.so (.ret) {s with b0:=X})<|.nx {s with i:=AA<|s.i+1})<|.so (.exit 0) s
def uv (s:Ke):Prop:=s.i=0/\s.a=s.b/\s.n=(M s.a:Y)/\(M s.a:Y)<=100000
def U1 (s:Ke):Prop:=(0<=s.i/\s.i<=(M s.a:Y))/\s.a=s.b/\s.n=(M s.a:Y)/\(M s.a:Y)<=100000
def kR (s:Ke):aC:=((M s.a:Y)-s.i).toNat
def tG (x:Ex) (s s':Ke):Prop:=x=.exit 0
def ayb:∀s,uv s->U1 s:=by
 exact Ft
def aso:Da U1 kR tG Xw:=by
 intro s hI;unfold Xw;dsimp only [T.rd,T.rl,T.rv];obtain ⟨⟨h0,h1⟩,h2,h3,h4⟩:=hI;refine allR_ite (λc1=>?_) λc1=>rfl
 have c1:s.i<(M s.a:Y):=H3
 rw [AG (x:=s.i+1)];refine allR_ite (λc2=>?_) λc2=>⟨⟨⟨AP,AP⟩,h2,h3,h4⟩,by simp only [kR];omega⟩
 exact Gy
def Pv:LpD Ke:=⟨0,26,[0,1,4,12,13],[],λs=>[s.a,s.b,s.b0,s.n,s.i],λ_=>[],λv b=>⟨Ag Al v 0,Ag Al v 1,BU v 2,AJ v 3,AJ v 4⟩,Xw,λs r=> {s with b0:=r.b0,i:=r.i},λs=>s,λ_ s=>s,[.ret,.exit 0],uv,U1,kR⟩
abbrev zQ:=Pv.run
abbrev zu:=Pv.exn
def aqX:Rq U1 Xw:=by
 exact Ms
def aEH:Pv.Ok:={}
def aDQ:Pv.Pf (tG):=⟨ayb,λs h=>rfl,aso,aqX⟩
def aj0:SA 0 y7 Pv:=s1 aEH aDQ FT kN
def am4:Fi uv U1 tG zu zQ:=LpD.fin aEH aDQ
def aC9:aD->T LV
 | [.xl (.pair (.int J) (.pair (.int J) (.pair (.int J) .bool))) a,.xl (.pair (.int J) (.pair (.int J) (.pair (.int J) .bool))) b]=> .req (a=b/\(M a:Y)<=100000) (.ok U)
 |_=> .no
def ank:=vm (S:=aC9) func28 FT kN (L:=(λi=>if i=4 then Pv.lp else noLoops i)) (λb hb=>by
 rw [show loopsIn _=[y7] by kernel_rfl] at hb
 simp only [Ak,B8,B6] at hb;subst hb;exact aj0) (λargs lv h=>by
 unfold aC9 at h;split at h
 ·rename_i a b
  refine Af (letI d:=(M a:Y);.br (d !=(M b:Y)) (.ok X)<|.req (Pv.q (⟨a,b,X,d,0⟩:Ke))<|.br (isEx (zu (⟨a,b,X,d,0⟩:Ke))<|.ret) (.ok (zQ (⟨a,b,X,d,0⟩:Ke)).b0)<|.ok U) ?_;obtain ⟨⟨rfl,hl⟩,rfl⟩:=h;refine ⟨λc=>absurd c AH,λ_=>Cx ⟨⟨rfl,rfl,rfl,hl⟩,rfl,rfl⟩ λhE=>?_⟩
  obtain ⟨_,_,q⟩:=am4 _ hE.1;rw [q];exact ⟨λh=>Ab,λ_=>rfl⟩
 ·cases h)
structure Kd where
 (a b:aN)
 b0:aL
 (n i:Y)
def y6:=bN f29 0
def Xv (s:Kd):T (Rd Kd):=letI c:=An s.a s.i;letI d:=An s.b s.i;.br (an<|s.i<s.n) (.ix s.i (M s.a)<|.ix s.i (M s.b)<|.br (!((c.1==d.1)&&((c.2.1==d.2.1)&&((c.2.2.1==d.2.2.1)&&((c.2.2.2.1==d.2.2.2.1)&&(c.2.2.2.2==d.2.2.2.2)))))) (.so (.ret) {s with b0:=X})<|.nx {s with i:=AA<|s.i+1})<|.so (.exit 0) s
def uu (s:Kd):Prop:=s.i=0/\s.a=s.b/\s.n=(M s.a:Y)/\(M s.a:Y)<=100000
def U0 (s:Kd):Prop:=(0<=s.i/\s.i<=(M s.a:Y))/\s.a=s.b/\s.n=(M s.a:Y)/\(M s.a:Y)<=100000
def kQ (s:Kd):aC:=((M s.a:Y)-s.i).toNat
def tF (x:Ex) (s s':Kd):Prop:=x=.exit 0
def aya:∀s,uu s->U0 s:=by
 exact Ft
def asn:Da U0 kQ tF Xv:=by
 intro s hI;unfold Xv;dsimp only [T.rd,T.rl,T.rv];obtain ⟨⟨h0,h1⟩,h2,h3,h4⟩:=hI;refine allR_ite (λc1=>?_) λc1=>rfl
 have c1:s.i<(M s.a:Y):=H3
 rw [AG (x:=s.i+1)];refine allR_ite (λc2=>?_) λc2=>⟨⟨⟨AP,AP⟩,h2,h3,h4⟩,by simp only [kQ];omega⟩
 exact Gy
def Pu:LpD Kd:=⟨0,26,[0,1,4,12,13],[],λs=>[s.a,s.b,s.b0,s.n,s.i],λ_=>[],λv b=>⟨Ag AL v 0,Ag AL v 1,BU v 2,AJ v 3,AJ v 4⟩,Xv,λs r=> {s with b0:=r.b0,i:=r.i},λs=>s,λ_ s=>s,[.ret,.exit 0],uu,U0,kQ⟩
abbrev zP:=Pu.run
abbrev zt:=Pu.exn
def aqW:Rq U0 Xv:=by
 exact Ms
def aEG:Pu.Ok:={}
def aDP:Pu.Pf (tF):=⟨aya,λs h=>rfl,asn,aqW⟩
def aiy:SA 0 y6 Pu:=s1 aEG aDP FT kN
def am3:Fi uu U0 tF zt zP:=LpD.fin aEG aDP
def aC8:aD->T LV
 | [.xl (.pair (.int J) (.pair (.int J) (.pair (.int J) (.pair (.int J) (.int J))))) a,.xl (.pair (.int J) (.pair (.int J) (.pair (.int J) (.pair (.int J) (.int J))))) b]=> .req (a=b/\(M a:Y)<=100000) (.ok U)
 |_=> .no
def anj:=vm (S:=aC8) func29 FT kN (L:=(λi=>if i=4 then Pu.lp else noLoops i)) (λb hb=>by
 rw [show loopsIn _=[y6] by kernel_rfl] at hb
 simp only [Ak,B8,B6] at hb;subst hb;exact aiy) (λargs lv h=>by
 unfold aC8 at h;split at h
 ·rename_i a b
  refine Af (letI d:=(M a:Y);.br (d !=(M b:Y)) (.ok X)<|.req (Pu.q (⟨a,b,X,d,0⟩:Kd))<|.br (isEx (zt (⟨a,b,X,d,0⟩:Kd))<|.ret) (.ok (zP (⟨a,b,X,d,0⟩:Kd)).b0)<|.ok U) ?_;obtain ⟨⟨rfl,hl⟩,rfl⟩:=h;refine ⟨λc=>absurd c AH,λ_=>Cx ⟨⟨rfl,rfl,rfl,hl⟩,rfl,rfl⟩ λhE=>?_⟩
  obtain ⟨_,_,q⟩:=am3 _ hE.1;rw [q];exact ⟨λh=>Ab,λ_=>rfl⟩
 ·cases h)
structure L5 where
 (a b:aZ)
 b0:aL
 (n i:Y)
def xz:=bN f30 0
def Xu (s:L5):T (Rd L5):=letI c:=Dh s.a s.i;letI d:=Dh s.b s.i;.br (an<|s.i<s.n) (.ix s.i (M s.a)<|.ix s.i (M s.b)<|.br (!((c.1==d.1)&&((c.2.1==d.2.1)&&((c.2.2.1==d.2.2.1)&&(c.2.2.2==d.2.2.2))))) (.so (.ret) {s with b0:=X})<|.nx {s with i:=AA<|s.i+1})<|.so (.exit 0) s
def ur (s:L5):Prop:=s.i=0/\s.a=s.b/\s.n=(M s.a:Y)/\(M s.a:Y)<=100000
def Tz (s:L5):Prop:=(0<=s.i/\s.i<=(M s.a:Y))/\s.a=s.b/\s.n=(M s.a:Y)/\(M s.a:Y)<=100000
def kP (s:L5):aC:=((M s.a:Y)-s.i).toNat
def tE (x:Ex) (s s':L5):Prop:=x=.exit 0
def ayZ:∀s,ur s->Tz s:=by
 exact Ft
def asl:Da Tz kP tE Xu:=by
 intro s hI;unfold Xu;dsimp only [T.rd,T.rl,T.rv];obtain ⟨⟨h0,h1⟩,h2,h3,h4⟩:=hI;refine allR_ite (λc1=>?_) λc1=>rfl
 have c1:s.i<(M s.a:Y):=H3
 rw [AG (x:=s.i+1)];refine allR_ite (λc2=>?_) λc2=>⟨⟨⟨AP,AP⟩,h2,h3,h4⟩,by simp only [kP];omega⟩
 exact Gy
def Pt:LpD L5:=⟨0,26,[0,1,4,12,13],[],λs=>[s.a,s.b,s.b0,s.n,s.i],λ_=>[],λv b=>⟨Ag Aq v 0,Ag Aq v 1,BU v 2,AJ v 3,AJ v 4⟩,Xu,λs r=> {s with b0:=r.b0,i:=r.i},λs=>s,λ_ s=>s,[.ret,.exit 0],ur,Tz,kP⟩
abbrev zO:=Pt.run
abbrev zr:=Pt.exn
def aqV:Rq Tz Xu:=by
 exact Ms
def aEF:Pt.Ok:={}
def aDO:Pt.Pf (tE):=⟨ayZ,λs h=>rfl,asl,aqV⟩
def aix:SA 0 xz Pt:=s1 aEF aDO FT kN
def am1:Fi ur Tz tE zr zO:=LpD.fin aEF aDO
def aC7:aD->T LV
 | [.xl (.pair .bool (.pair (.int J) (.pair (.int J) (.int J)))) a,.xl (.pair .bool (.pair (.int J) (.pair (.int J) (.int J)))) b]=> .req (a=b/\(M a:Y)<=100000) (.ok U)
 |_=> .no
def ani:=vm (S:=aC7) func30 FT kN (L:=(λi=>if i=4 then Pt.lp else noLoops i)) (λb hb=>by
 rw [show loopsIn _=[xz] by kernel_rfl] at hb
 simp only [Ak,B8,B6] at hb;subst hb;exact aix) (λargs lv h=>by
 unfold aC7 at h;split at h
 ·rename_i a b
  refine Af (letI d:=(M a:Y);.br (d !=(M b:Y)) (.ok X)<|.req (Pt.q (⟨a,b,X,d,0⟩:L5))<|.br (isEx (zr (⟨a,b,X,d,0⟩:L5))<|.ret) (.ok (zO (⟨a,b,X,d,0⟩:L5)).b0)<|.ok U) ?_;obtain ⟨⟨rfl,hl⟩,rfl⟩:=h;refine ⟨λc=>absurd c AH,λ_=>Cx ⟨⟨rfl,rfl,rfl,hl⟩,rfl,rfl⟩ λhE=>?_⟩
  obtain ⟨_,_,q⟩:=am1 _ hE.1;rw [q];exact ⟨λh=>Ab,λ_=>rfl⟩
 ·cases h)
structure L4 where
 (a b:aLZ)
 b0:aL
 (n i:Y)
def xy:=bN f31 0
def Xt (s:L4):T (Rd L4):=letI c:=Dr s.a s.i;letI d:=Dr s.b s.i;.br (an<|s.i<s.n) (.ix s.i (M s.a)<|.ix s.i (M s.b)<|.br (!((c.1==d.1)&&((c.2.1==d.2.1)&&((c.2.2.1==d.2.2.1)&&((c.2.2.2.1==d.2.2.2.1)&&((c.2.2.2.2.1==d.2.2.2.2.1)&&(c.2.2.2.2.2==d.2.2.2.2.2))))))) (.so (.ret) {s with b0:=X})<|.nx {s with i:=AA<|s.i+1})<|.so (.exit 0) s
def uP (s:L4):Prop:=s.i=0/\s.a=s.b/\s.n=(M s.a:Y)/\(M s.a:Y)<=100000
def Ui (s:L4):Prop:=(0<=s.i/\s.i<=(M s.a:Y))/\s.a=s.b/\s.n=(M s.a:Y)/\(M s.a:Y)<=100000
def kO (s:L4):aC:=((M s.a:Y)-s.i).toNat
def tD (x:Ex) (s s':L4):Prop:=x=.exit 0
def ayY:∀s,uP s->Ui s:=by
 exact Ft
def atW:Da Ui kO tD Xt:=by
 intro s hI;unfold Xt;dsimp only [T.rd,T.rl,T.rv];obtain ⟨⟨h0,h1⟩,h2,h3,h4⟩:=hI;refine allR_ite (λc1=>?_) λc1=>rfl
 have c1:s.i<(M s.a:Y):=H3
 rw [AG (x:=s.i+1)];refine allR_ite (λc2=>?_) λc2=>⟨⟨⟨AP,AP⟩,h2,h3,h4⟩,by simp only [kO];omega⟩
 exact Gy
def Pr:LpD L4:=⟨0,26,[0,1,4,12,13],[],λs=>[s.a,s.b,s.b0,s.n,s.i],λ_=>[],λv b=>⟨Ag Au v 0,Ag Au v 1,BU v 2,AJ v 3,AJ v 4⟩,Xt,λs r=> {s with b0:=r.b0,i:=r.i},λs=>s,λ_ s=>s,[.ret,.exit 0],uP,Ui,kO⟩
abbrev zN:=Pr.run
abbrev zq:=Pr.exn
def aqU:Rq Ui Xt:=by
 exact Ms
def aEE:Pr.Ok:={}
def aEB:Pr.Pf (tD):=⟨ayY,λs h=>rfl,atW,aqU⟩
def aiw:SA 0 xy Pr:=s1 aEE aEB FT kN
def am0:Fi uP Ui tD zq zN:=LpD.fin aEE aEB
def aC6:aD->T LV
 | [.xl (.pair (.int J) (.pair (.int J) (.pair (.int J) (.pair (.int J) (.pair (.int J) (.int J)))))) a,.xl (.pair (.int J) (.pair (.int J) (.pair (.int J) (.pair (.int J) (.pair (.int J) (.int J)))))) b]=> .req (a=b/\(M a:Y)<=100000) (.ok U)
 |_=> .no
def anh:=vm (S:=aC6) func31 FT kN (L:=(λi=>if i=4 then Pr.lp else noLoops i)) (λb hb=>by
 rw [show loopsIn _=[xy] by kernel_rfl] at hb
 simp only [Ak,B8,B6] at hb;subst hb;exact aiw) (λargs lv h=>by
 unfold aC6 at h;split at h
 ·rename_i a b
  refine Af (letI d:=(M a:Y);.br (d !=(M b:Y)) (.ok X)<|.req (Pr.q (⟨a,b,X,d,0⟩:L4))<|.br (isEx (zq (⟨a,b,X,d,0⟩:L4))<|.ret) (.ok (zN (⟨a,b,X,d,0⟩:L4)).b0)<|.ok U) ?_;obtain ⟨⟨rfl,hl⟩,rfl⟩:=h;refine ⟨λc=>absurd c AH,λ_=>Cx ⟨⟨rfl,rfl,rfl,hl⟩,rfl,rfl⟩ λhE=>?_⟩
  obtain ⟨_,_,q⟩:=am0 _ hE.1;rw [q];exact ⟨λh=>Ab,λ_=>rfl⟩
 ·cases h)
structure L3 where
 (a b:aB)
 b0:aL
 (n i:Y)
def xx:=bN f32 0
def Xs (s:L3):T (Rd L3):=
 .br (an<|s.i<s.n) (.ix s.i (M s.a)<|.ix s.i (M s.b)<|.br ((gi s.a s.i) !=(gi s.b s.i)) (.so (.ret) {s with b0:=X})<|.nx {s with i:=AA<|s.i+1}) (.so (.exit 0) s)
def uO (s:L3):Prop:=s.i=0/\s.a=s.b/\s.n=(M s.a:Y)/\(M s.a:Y)<=100000
def Uh (s:L3):Prop:=(0<=s.i/\s.i<=(M s.a:Y))/\s.a=s.b/\s.n=(M s.a:Y)/\(M s.a:Y)<=100000
def kM (s:L3):aC:=((M s.a:Y)-s.i).toNat
def tC (x:Ex) (s s':L3):Prop:=x=.exit 0
def ayX:∀s,uO s->Uh s:=by
 exact Ft
def atV:Da Uh kM tC Xs:=by
 intro s hI;unfold Xs;dsimp only [T.rd,T.rl,T.rv];obtain ⟨⟨h0,h1⟩,h2,h3,h4⟩:=hI;refine allR_ite (λc1=>?_) λc1=>rfl
 have c1:s.i<(M s.a:Y):=H3
 rw [AG (x:=s.i+1)];refine allR_ite (λc2=>?_) λc2=>⟨⟨⟨AP,AP⟩,h2,h3,h4⟩,by simp only [kM];omega⟩
 exact Gy
def Pq:LpD L3:=⟨0,26,[0,1,4,12,13],[],λs=>[.xl A7 s.a,.xl A7 s.b,s.b0,s.n,s.i],λ_=>[],λv b=>⟨Ag A7 v 0,Ag A7 v 1,BU v 2,AJ v 3,AJ v 4⟩,Xs,λs r=> {s with b0:=r.b0,i:=r.i},λs=>s,λ_ s=>s,[.ret,.exit 0],uO,Uh,kM⟩
abbrev zM:=Pq.run
abbrev zp:=Pq.exn
def aqT:Rq Uh Xs:=by
 exact Ms
def aED:Pq.Ok:={}
def aEA:Pq.Pf (tC):=⟨ayX,λs h=>rfl,atV,aqT⟩
def aiv:SA 0 xx Pq:=s1 aED aEA FT kN
def alz:Fi uO Uh tC zp zM:=LpD.fin aED aEA
def aC5:aD->T LV
 | [.xl (.int J) a,.xl (.int J) b]=> .req (a=b/\(M a:Y)<=100000) (.ok U)
 |_=> .no
def ang:=vm (S:=aC5) func32 FT kN (L:=(λi=>if i=4 then Pq.lp else noLoops i)) (λb hb=>by
 rw [show loopsIn _=[xx] by kernel_rfl] at hb
 simp only [Ak,B8,B6] at hb;subst hb;exact aiv) (λargs lv h=>by
 unfold aC5 at h;split at h
 ·rename_i a b
  refine Af (letI d:=(M a:Y);.br (d !=(M b:Y)) (.ok X)<|.req (Pq.q (⟨a,b,X,d,0⟩:L3))<|.br (isEx (zp (⟨a,b,X,d,0⟩:L3))<|.ret) (.ok (zM (⟨a,b,X,d,0⟩:L3)).b0)<|.ok U) ?_;obtain ⟨⟨rfl,hl⟩,rfl⟩:=h;refine ⟨λc=>absurd c AH,λ_=>Cx ⟨⟨rfl,rfl,rfl,hl⟩,rfl,rfl⟩ λhE=>?_⟩
  obtain ⟨_,_,q⟩:=alz _ hE.1;rw [q];exact ⟨λh=>Ab,λ_=>rfl⟩
 ·cases h)
structure KK where
 b0:aL
 i:Y
 cs:aK
 os:aF
 ks:aP
 gs:aG
 bs:aQ
 cs2:aK
 os2:aF
 CL:aP
 gs2:aG
 CG:aQ
def xC:=bN f8 0
def Y4 (s:KK):T (Rd KK):=letI a:=Aa s.cs2 s.i;letI b:=Aa s.cs s.i;.br (an<|s.i<(M s.cs:Y)) (.ix s.i (M s.cs)<|.ix s.i (M s.cs2)<|.br (!((b.1==a.1)&&((b.2.1==a.2.1)&&((b.2.2.1==a.2.2.1)&&((b.2.2.2.1==a.2.2.2.1)&&(((b.2.2.2.2.1.1==a.2.2.2.2.1.1)&&(b.2.2.2.2.1.2==a.2.2.2.2.1.2))&&((b.2.2.2.2.2.1==a.2.2.2.2.2.1)&&((b.2.2.2.2.2.2.1==a.2.2.2.2.2.2.1)&&((b.2.2.2.2.2.2.2.1==a.2.2.2.2.2.2.2.1)&&((b.2.2.2.2.2.2.2.2.1==a.2.2.2.2.2.2.2.2.1)&&(b.2.2.2.2.2.2.2.2.2==a.2.2.2.2.2.2.2.2.2))))))))))) (.so (.ret) {s with b0:=X})<|.nx {s with i:=AA<|s.i+1})<|.so (.exit 0) s
def ub (s:KK):Prop:=s.i=0/\s.cs=s.cs2/\(M s.cs:Y)<=100000
def TY (s:KK):Prop:=(0<=s.i/\s.i<=(M s.cs:Y))/\s.cs=s.cs2/\(M s.cs:Y)<=100000
def j7 (s:KK):aC:=((M s.cs:Y)-s.i).toNat
def pU (x:Ex) (s s':KK):Prop:=x=.exit 0
def avR:∀s,ub s->TY s:=by
 exact Ft
def anr:Da TY j7 pU Y4:=by
 intro s hI;unfold Y4;dsimp only [T.rd,T.rl,T.rv];obtain ⟨⟨h0,h1⟩,h2,h4⟩:=hI;refine allR_ite (λc1=>?_) λc1=>rfl
 have c1:s.i<(M s.cs:Y):=H3
 rw [AG (x:=s.i+1)];refine allR_ite (λc2=>?_) λc2=>⟨⟨⟨AP,AP⟩,h2,h4⟩,by simp only [j7];omega⟩
 exact Gy
def PN:LpD KK:=⟨0,143,[2,3,4,5],[],λs=>[.own 0 0,.own 1 0,s.b0,s.i],λs=>[⟨[s.cs,s.os,s.ks,s.gs,s.bs],28,.cl,X⟩,⟨[s.cs2,s.os2,s.CL,s.gs2,s.CG],28,.cl,X⟩],λv b=>⟨BU v 2,AJ v 3,AB AR b 0 0,AB .str b 0 1,AB AY b 0 2,AB AX b 0 3,AB AZ b 0 4,AB AR b 1 0,AB .str b 1 1,AB AY b 1 2,AB AX b 1 3,AB AZ b 1 4⟩,Y4,λs r=> {s with b0:=r.b0,i:=r.i},λs=>s,λ_ s=>s,[.ret,.exit 0],ub,TY,j7⟩
abbrev adS:=PN.run
abbrev aAH:=PN.exn
def apr:Rq TY Y4:=by
 exact QZ
def NI:aM:=[]
def aEu:PN.Ok:={}
def aD4:PN.Pf (pU):=⟨avR,λs h=>rfl,anr,apr⟩
def ahb:SA 0 xC PN:=s1 aEu aD4 NI kN
def aiZ:Fi ub TY pU aAH adS:=LpD.fin aEu aD4
structure KM where
 b0:aL
 i:Y
 cs:aK
 os:aF
 ks:aP
 gs:aG
 bs:aQ
 cs2:aK
 os2:aF
 CL:aP
 gs2:aG
 CG:aQ
def xB:=bN f8 1
def Y3 (s:KM):T (Rd KM):=
 .br (an<|s.i<(M s.os:Y)) (.ix s.i (M s.os)<|.ix s.i (M s.os2)<|.br (!((gS s.os s.i)==(gS s.os2 s.i))) (.so (.ret) {s with b0:=X})<|.nx {s with i:=AA<|s.i+1}) (.so (.exit 2) s)
def ua (s:KM):Prop:=s.i=0/\s.os=s.os2/\(M s.os:Y)<=100000
def TX (s:KM):Prop:=(0<=s.i/\s.i<=(M s.os:Y))/\s.os=s.os2/\(M s.os:Y)<=100000
def j6 (s:KM):aC:=((M s.os:Y)-s.i).toNat
def pT (x:Ex) (s s':KM):Prop:=x=.exit 2
def avQ:∀s,ua s->TX s:=by
 exact Ft
def anq:Da TX j6 pT Y3:=by
 intro s hI;unfold Y3;dsimp only [T.rd,T.rl,T.rv];obtain ⟨⟨h0,h1⟩,h2,h4⟩:=hI;refine allR_ite (λc1=>?_) λc1=>rfl
 have c1:s.i<(M s.os:Y):=H3
 rw [AG (x:=s.i+1)];refine allR_ite (λc2=>?_) λc2=>⟨⟨⟨AP,AP⟩,h2,h4⟩,by simp only [j6];omega⟩
 exact Gy
def PM:LpD KM:=⟨0,143,[2,3,4,6],[],λs=>[.own 0 0,.own 1 0,s.b0,s.i],λs=>[⟨[s.cs,s.os,s.ks,s.gs,s.bs],28,.cl,X⟩,⟨[s.cs2,s.os2,s.CL,s.gs2,s.CG],28,.cl,X⟩],λv b=>⟨BU v 2,AJ v 3,AB AR b 0 0,AB .str b 0 1,AB AY b 0 2,AB AX b 0 3,AB AZ b 0 4,AB AR b 1 0,AB .str b 1 1,AB AY b 1 2,AB AX b 1 3,AB AZ b 1 4⟩,Y3,λs r=> {s with b0:=r.b0,i:=r.i},λs=>s,λ_ s=>s,[.ret,.exit 2],ua,TX,j6⟩
abbrev adU:=PM.run
abbrev aAE:=PM.exn
def apq:Rq TX Y3:=by
 exact QZ
def aEt:PM.Ok:={}
def aD3:PM.Pf (pT):=⟨avQ,λs h=>rfl,anq,apq⟩
def aha:SA 0 xB PM:=s1 aEt aD3 NI kN
def aiY:Fi ua TX pT aAE adU:=LpD.fin aEt aD3
structure KP where
 b0:aL
 i:Y
 cs:aK
 os:aF
 ks:aP
 gs:aG
 bs:aQ
 cs2:aK
 os2:aF
 CL:aP
 gs2:aG
 CG:aQ
def xA:=bN f8 2
def Y2 (s:KP):T (Rd KP):=letI a:=Jl s.ks s.i;letI b:=Jl s.CL s.i;.br (an<|s.i<(M s.ks:Y)) (.ix s.i (M s.ks)<|.ix s.i (M s.CL)<|.br (!((a.1==b.1)&&((a.2.1==b.2.1)&&((a.2.2.1==b.2.2.1)&&(a.2.2.2==b.2.2.2))))) (.so (.ret) {s with b0:=X})<|.nx {s with i:=AA<|s.i+1})<|.so (.exit 4) s
def uZ (s:KP):Prop:=s.i=0/\s.ks=s.CL/\(M s.ks:Y)<=100000
def TW (s:KP):Prop:=(0<=s.i/\s.i<=(M s.ks:Y))/\s.ks=s.CL/\(M s.ks:Y)<=100000
def j5 (s:KP):aC:=((M s.ks:Y)-s.i).toNat
def pS (x:Ex) (s s':KP):Prop:=x=.exit 4
def avO:∀s,uZ s->TW s:=by
 exact Ft
def anp:Da TW j5 pS Y2:=by
 intro s hI;unfold Y2;dsimp only [T.rd,T.rl,T.rv];obtain ⟨⟨h0,h1⟩,h2,h4⟩:=hI;refine allR_ite (λc1=>?_) λc1=>rfl
 have c1:s.i<(M s.ks:Y):=H3
 rw [AG (x:=s.i+1)];refine allR_ite (λc2=>?_) λc2=>⟨⟨⟨AP,AP⟩,h2,h4⟩,by simp only [j5];omega⟩
 exact Gy
def PL:LpD KP:=⟨0,143,[2,3,4,7],[],λs=>[.own 0 0,.own 1 0,s.b0,s.i],λs=>[⟨[s.cs,s.os,s.ks,s.gs,s.bs],28,.cl,X⟩,⟨[s.cs2,s.os2,s.CL,s.gs2,s.CG],28,.cl,X⟩],λv b=>⟨BU v 2,AJ v 3,AB AR b 0 0,AB .str b 0 1,AB AY b 0 2,AB AX b 0 3,AB AZ b 0 4,AB AR b 1 0,AB .str b 1 1,AB AY b 1 2,AB AX b 1 3,AB AZ b 1 4⟩,Y2,λs r=> {s with b0:=r.b0,i:=r.i},λs=>s,λ_ s=>s,[.ret,.exit 4],uZ,TW,j5⟩
abbrev adW:=PL.run
abbrev aAD:=PL.exn
def apo:Rq TW Y2:=by
 exact QZ
def aEs:PL.Ok:={}
def aD2:PL.Pf (pS):=⟨avO,λs h=>rfl,anp,apo⟩
def aiE:SA 0 xA PL:=s1 aEs aD2 NI kN
def aiX:Fi uZ TW pS aAD adW:=LpD.fin aEs aD2
structure Ka where
 b0:aL
 i:Y
 cs:aK
 os:aF
 ks:aP
 gs:aG
 bs:aQ
 cs2:aK
 os2:aF
 CL:aP
 gs2:aG
 CG:aQ
def x9:=bN f8 3
def Y1 (s:Ka):T (Rd Ka):=letI a:=AF s.gs2 s.i;letI b:=AF s.gs s.i;.br (an<|s.i<(M s.gs:Y)) (.ix s.i (M s.gs)<|.ix s.i (M s.gs2)<|.br (!((b.1==a.1)&&((b.2.1==a.2.1)&&((b.2.2.1==a.2.2.1)&&((b.2.2.2.1==a.2.2.2.1)&&((b.2.2.2.2.1==a.2.2.2.2.1)&&((b.2.2.2.2.2.1==a.2.2.2.2.2.1)&&((b.2.2.2.2.2.2.1==a.2.2.2.2.2.2.1)&&(b.2.2.2.2.2.2.2==a.2.2.2.2.2.2.2))))))))) (.so (.ret) {s with b0:=X})<|.nx {s with i:=AA<|s.i+1})<|.so (.exit 6) s
def uY (s:Ka):Prop:=s.i=0/\s.gs=s.gs2/\(M s.gs:Y)<=100000
def TV (s:Ka):Prop:=(0<=s.i/\s.i<=(M s.gs:Y))/\s.gs=s.gs2/\(M s.gs:Y)<=100000
def j4 (s:Ka):aC:=((M s.gs:Y)-s.i).toNat
def pq (x:Ex) (s s':Ka):Prop:=x=.exit 6
def avv:∀s,uY s->TV s:=by
 exact Ft
def ano:Da TV j4 pq Y1:=by
 intro s hI;unfold Y1;dsimp only [T.rd,T.rl,T.rv];obtain ⟨⟨h0,h1⟩,h2,h4⟩:=hI;refine allR_ite (λc1=>?_) λc1=>rfl
 have c1:s.i<(M s.gs:Y):=H3
 rw [AG (x:=s.i+1)];refine allR_ite (λc2=>?_) λc2=>⟨⟨⟨AP,AP⟩,h2,h4⟩,by simp only [j4];omega⟩
 exact Gy
def PJ:LpD Ka:=⟨0,143,[2,3,4,8],[],λs=>[.own 0 0,.own 1 0,s.b0,s.i],λs=>[⟨[s.cs,s.os,s.ks,s.gs,s.bs],28,.cl,X⟩,⟨[s.cs2,s.os2,s.CL,s.gs2,s.CG],28,.cl,X⟩],λv b=>⟨BU v 2,AJ v 3,AB AR b 0 0,AB .str b 0 1,AB AY b 0 2,AB AX b 0 3,AB AZ b 0 4,AB AR b 1 0,AB .str b 1 1,AB AY b 1 2,AB AX b 1 3,AB AZ b 1 4⟩,Y1,λs r=> {s with b0:=r.b0,i:=r.i},λs=>s,λ_ s=>s,[.ret,.exit 6],uY,TV,j4⟩
abbrev adl:=PJ.run
abbrev aAC:=PJ.exn
def apn:Rq TV Y1:=by
 exact QZ
def aEr:PJ.Ok:={}
def aD1:PJ.Pf (pq):=⟨avv,λs h=>rfl,ano,apn⟩
def aiD:SA 0 x9 PJ:=s1 aEr aD1 NI kN
def aiW:Fi uY TV pq aAC adl:=LpD.fin aEr aD1
structure Ki where
 b0:aL
 i:Y
 cs:aK
 os:aF
 ks:aP
 gs:aG
 bs:aQ
 cs2:aK
 os2:aF
 CL:aP
 gs2:aG
 CG:aQ
def x8:=bN f8 4
def Y0 (s:Ki):T (Rd Ki):=
 .br (an<|s.i<(M s.bs:Y)) (.ix s.i (M s.bs)<|.ix s.i (M s.CG)<|.br (!(((HO s.bs s.i).1==(HO s.CG s.i).1)&&((HO s.bs s.i).2==(HO s.CG s.i).2))) (.so (.ret) {s with b0:=X})<|.nx {s with i:=AA<|s.i+1}) (.so (.exit 8) s)
def uX (s:Ki):Prop:=s.i=0/\s.bs=s.CG/\(M s.bs:Y)<=100000
def TU (s:Ki):Prop:=(0<=s.i/\s.i<=(M s.bs:Y))/\s.bs=s.CG/\(M s.bs:Y)<=100000
def jb (s:Ki):aC:=((M s.bs:Y)-s.i).toNat
def po (x:Ex) (s s':Ki):Prop:=x=.exit 8
def avu:∀s,uX s->TU s:=by
 exact Ft
def ann:Da TU jb po Y0:=by
 intro s hI;unfold Y0;dsimp only [T.rd,T.rl,T.rv];obtain ⟨⟨h0,h1⟩,h2,h4⟩:=hI;refine allR_ite (λc1=>?_) λc1=>rfl
 have c1:s.i<(M s.bs:Y):=H3
 rw [AG (x:=s.i+1)];refine allR_ite (λc2=>?_) λc2=>⟨⟨⟨AP,AP⟩,h2,h4⟩,by simp only [jb];omega⟩
 exact Gy
def PI:LpD Ki:=⟨0,143,[2,3,4,9],[],λs=>[.own 0 0,.own 1 0,s.b0,s.i],λs=>[⟨[s.cs,s.os,s.ks,s.gs,s.bs],28,.cl,X⟩,⟨[s.cs2,s.os2,s.CL,s.gs2,s.CG],28,.cl,X⟩],λv b=>⟨BU v 2,AJ v 3,AB AR b 0 0,AB .str b 0 1,AB AY b 0 2,AB AX b 0 3,AB AZ b 0 4,AB AR b 1 0,AB .str b 1 1,AB AY b 1 2,AB AX b 1 3,AB AZ b 1 4⟩,Y0,λs r=> {s with b0:=r.b0,i:=r.i},λs=>s,λ_ s=>s,[.ret,.exit 8],uX,TU,jb⟩
abbrev zF:=PI.run
abbrev aAB:=PI.exn
def apm:Rq TU Y0:=by
 exact QZ
def aEq:PI.Ok:={}
def aD0:PI.Pf (po):=⟨avu,λs h=>rfl,ann,apm⟩
def aiC:SA 0 x8 PI:=s1 aEq aD0 NI kN
def aiV:Fi uX TU po aAB zF:=LpD.fin aEq aD0
def aBF:aD->T LV
 | .agg a::r=>s5 a λcs os ks gs bs=>(match r with
  | [.agg [.xl (.pair .str (.pair (.int J) (.pair (.int J) (.pair (.int J) (.pair (.pair (.int J) (.int J)) (.pair (.int J) (.pair (.int J) (.pair (.int J) (.pair (.int J) (.int J)))))))))) cs2,.xl (.str) os2,.xl (.pair .str (.pair (.int J) (.pair (.int J) (.int J)))) CL,.xl (.pair .str (.pair (.int J) (.pair (.int J) (.pair (.int J) (.pair (.int J) (.pair (.int J) (.pair (.int J) (.int J)))))))) gs2,.xl (.pair .str (.int J)) CG]]=> .req ((cs=cs2/\os=os2/\ks=CL/\gs=gs2/\bs=CG)/\(M cs:Y)<=100000/\(M os:Y)<=100000/\(M ks:Y)<=100000/\(M gs:Y)<=100000/\(M bs:Y)<=100000) (.ok U)
  |_=> .no)
 |_=> .no
def iy:=vm (S:=aBF) func8 NI kN (L:=(λi=>if i=4 then PN.lp else if i=9 then PM.lp else if i=14 then PL.lp else if i=19 then PJ.lp else if i=24 then PI.lp else noLoops i)) (λb hb=>by
 rw [show loopsIn _=[xC,xB,xA,x9,x8] by kernel_rfl] at hb
 simp only [Ak,B8,B6] at hb;rcases hb with rfl|rfl|rfl|rfl|rfl
 ·exact ahb
 ·exact aha
 ·exact aiE
 ·exact aiD
 ·exact aiC) (λargs lv h=>by
 unfold aBF at h;split at h
 case h_2=>cases h
 replace h:=GV h
 obtain ⟨cs,os,ks,gs,bs,rfl,h⟩:=h;split at h
 ·rename_i cs2 os2 CL gs2 CG
  refine Af (letI d:=(adS (⟨X,0,cs,os,ks,gs,bs,cs2,os2,CL,gs2,CG⟩:KK));letI a:=(adU (⟨d.b0,0,cs,os,ks,gs,bs,cs2,os2,CL,gs2,CG⟩:KM));letI e:=(adW (⟨a.b0,0,cs,os,ks,gs,bs,cs2,os2,CL,gs2,CG⟩:KP));letI b:=(adl (⟨e.b0,0,cs,os,ks,gs,bs,cs2,os2,CL,gs2,CG⟩:Ka));.br (((M cs:Y) !=(M cs2:Y)) ||(((M os:Y) !=(M os2:Y)) ||(((M ks:Y) !=(M CL:Y)) ||(((M gs:Y) !=(M gs2:Y)) ||((M bs:Y) !=(M CG:Y)))))) (.ok X)<|.req (PN.q (⟨X,0,cs,os,ks,gs,bs,cs2,os2,CL,gs2,CG⟩:KK))<|.br (isEx (aAH (⟨X,0,cs,os,ks,gs,bs,cs2,os2,CL,gs2,CG⟩:KK))<|.ret) (.ok d.b0)<|.req (PM.q (⟨d.b0,0,cs,os,ks,gs,bs,cs2,os2,CL,gs2,CG⟩:KM))<|.br (isEx (aAE (⟨d.b0,0,cs,os,ks,gs,bs,cs2,os2,CL,gs2,CG⟩:KM))<|.ret) (.ok a.b0)<|.req (PL.q (⟨a.b0,0,cs,os,ks,gs,bs,cs2,os2,CL,gs2,CG⟩:KP))<|.br (isEx (aAD (⟨a.b0,0,cs,os,ks,gs,bs,cs2,os2,CL,gs2,CG⟩:KP))<|.ret) (.ok e.b0)<|.req (PJ.q (⟨e.b0,0,cs,os,ks,gs,bs,cs2,os2,CL,gs2,CG⟩:Ka))<|.br (isEx (aAC (⟨e.b0,0,cs,os,ks,gs,bs,cs2,os2,CL,gs2,CG⟩:Ka))<|.ret) (.ok b.b0)<|.req (PI.q (⟨b.b0,0,cs,os,ks,gs,bs,cs2,os2,CL,gs2,CG⟩:Ki))<|.br (isEx (aAB (⟨b.b0,0,cs,os,ks,gs,bs,cs2,os2,CL,gs2,CG⟩:Ki))<|.ret) (.ok (zF (⟨b.b0,0,cs,os,ks,gs,bs,cs2,os2,CL,gs2,CG⟩:Ki)).b0)<|.ok U) ?_;obtain ⟨⟨⟨rfl,rfl,rfl,rfl,rfl⟩,l0,l1,l2,l3,l4⟩,rfl⟩:=h;refine ⟨λc=>absurd c AH,λ_=>?_⟩
  refine Cx ⟨⟨rfl,rfl,l0⟩,rfl,rfl⟩ λhE=>?_
  obtain ⟨_,_,q⟩:=aiZ _ hE.1;rw [q];refine ⟨λh=>Ab,λ_=>?_⟩
  refine Cx ⟨⟨rfl,rfl,l1⟩,rfl,rfl⟩ λhE=>?_
  obtain ⟨_,_,q⟩:=aiY _ hE.1;rw [q];refine ⟨λh=>Ab,λ_=>?_⟩
  refine Cx ⟨⟨rfl,rfl,l2⟩,rfl,rfl⟩ λhE=>?_
  obtain ⟨_,_,q⟩:=aiX _ hE.1;rw [q];refine ⟨λh=>Ab,λ_=>?_⟩
  refine Cx ⟨⟨rfl,rfl,l3⟩,rfl,rfl⟩ λhE=>?_
  obtain ⟨_,_,q⟩:=aiW _ hE.1;rw [q];refine ⟨λh=>Ab,λ_=>?_⟩
  refine Cx ⟨⟨rfl,rfl,l4⟩,rfl,rfl⟩ λhE=>?_
  obtain ⟨_,_,q⟩:=aiV _ hE.1;rw [q];refine ⟨λh=>Ab,λ_=>?_⟩
  rfl
 ·cases h)
structure L0 where
 t4:aL
 (i se:Y)
 fl:aB
 se2:Y
 I7:aB
def xv:=bN f27 0
def Xq (s:L0):T (Rd L0):=
 .br (an<|s.i<(M s.fl:Y)) (.ix s.i (M s.fl)<|.ix s.i (M s.I7)<|.br ((gi s.fl s.i) !=(gi s.I7 s.i)) (.so (.ret) {s with t4:=X})<|.nx {s with i:=AA<|s.i+1}) (.so (.exit 0) s)
def uM (s:L0):Prop:=s.i=0/\s.fl=s.I7/\(M s.fl:Y)<=100000
def Ud (s:L0):Prop:=(0<=s.i/\s.i<=(M s.fl:Y))/\s.fl=s.I7/\(M s.fl:Y)<=100000
def kG (s:L0):aC:=((M s.fl:Y)-s.i).toNat
def uC (x:Ex) (s s':L0):Prop:=x=.exit 0
def ayR:∀s,uM s->Ud s:=by
 exact Ft
def atC:Da Ud kG uC Xq:=by
 intro s hI;unfold Xq;dsimp only [T.rd,T.rl,T.rv];obtain ⟨⟨h0,h1⟩,h2,h4⟩:=hI;refine allR_ite (λc1=>?_) λc1=>rfl
 have c1:s.i<(M s.fl:Y):=H3
 rw [AG (x:=s.i+1)];refine allR_ite (λc2=>?_) λc2=>⟨⟨⟨AP,AP⟩,h2,h4⟩,by simp only [kG];omega⟩
 exact Gy
def Po:LpD L0:=⟨0,38,[2,3,4,5],[],λs=>[.own 0 0,.own 1 0,s.t4,s.i],λs=>[⟨[s.se,.xl (.int aw) s.fl],32,.cl,X⟩,⟨[s.se2,.xl (.int aw) s.I7],32,.cl,X⟩],λv b=>⟨BU v 2,AJ v 3,Ad b 0 0,AB (.int aw) b 0 1,Ad b 1 0,AB (.int aw) b 1 1⟩,Xq,λs r=> {s with t4:=r.t4,i:=r.i},λs=>s,λ_ s=>s,[.ret,.exit 0],uM,Ud,kG⟩
abbrev zL:=Po.run
abbrev zn:=Po.exn
def aqO:Rq Ud Xq:=by
 exact QZ
def aEg:Po.Ok:={}
def aE5:Po.Pf (uC):=⟨ayR,λs h=>rfl,atC,aqO⟩
def ais:SA 0 xv Po:=s1 aEg aE5 NI kN
def al9:Fi uM Ud uC zn zL:=LpD.fin aEg aE5
def yj:aD->T LV
 | [.agg [.v (ag J se),.xl (.int aw) fl],.agg [.v (ag J se2),.xl (.int aw) I7]]=> .req ((se=se2/\fl=I7)/\(M fl:Y)<=100000) (.ok U)
 |_=> .no
def ahJ:=vm (S:=yj) func27 NI kN (L:=(λi=>if i=4 then Po.lp else noLoops i)) (λb hb=>by
 rw [show loopsIn _=[xv] by kernel_rfl] at hb
 simp only [Ak,B8,B6] at hb;subst hb;exact ais) (λargs lv h=>by
 unfold yj at h;split at h
 ·rename_i se fl se2 I7
  refine Af (.br ((se !=se2) ||((M fl:Y) !=(M I7:Y))) (.ok X)<|.req (Po.q (⟨X,0,se,fl,se2,I7⟩:L0))<|.br (isEx (zn (⟨X,0,se,fl,se2,I7⟩:L0))<|.ret) (.ok (zL (⟨X,0,se,fl,se2,I7⟩:L0)).t4)<|.ok U) ?_;obtain ⟨⟨⟨rfl,rfl⟩,l0⟩,rfl⟩:=h;refine ⟨λc=>absurd c AH,λ_=>?_⟩
  refine Cx ⟨⟨rfl,rfl,l0⟩,rfl,rfl⟩ λhE=>?_
  obtain ⟨_,_,q⟩:=al9 _ hE.1;rw [q];exact ⟨λh=>Ab,λ_=>rfl⟩
 ·cases h)
def yk:aD->T LV
 | [.agg [.xl (.int J) pa,.v (ag J ta),.v (ag J ga)],.agg [.xl (.int J) pb,.v (ag J tb),.v (ag J gb)]]=> .req False (.ok U)
 |_=> .no
def aB4:=uS f24 yk
def ahK:VV 24 aB4:=λargs vals w Z lv h1 h2 h3 h4 h=>by
 unfold aB4 uS IE yk at h;split at h
 ·exact h.1.elim
 ·cases h
structure MF where
 b0:aL
 (n i:Y)
 (p r:PK)
def x7:=bN f7 0
def Xy (s:MF):T (Rd MF):=
 .br (an<|s.i<s.n) (.ix s.i (M s.p.mi)<|.ix s.i (M s.r.mi)<|.req False<|.br (!U) (.so (.ret) {s with b0:=X})<|.nx {s with i:=AA<|s.i+1}) (.so (.exit 0) s)
def Zv (s:MF):Prop:=s.i=0/\s.n=0
def TT (s:MF):Prop:=s.i=0/\s.n=0
def aFE (s:MF):aC:=0
def pn (x:Ex) (s s':MF):Prop:=x=.exit 0
def avt:∀s,Zv s->TT s:=by
 exact λs h=>h
def aoA:Da TT aFE pn Xy:=by
 intro s hI;unfold Xy;dsimp only [T.rd,T.rl,T.rv];obtain ⟨h0,h1⟩:=hI;exact allR_ite (λc1=>absurd (C9 c1) A0) λc1=>rfl
def NX:LpD MF:=⟨0,136,[2,3,4,32,33],[],λs=>[.own 0 0,.own 1 0,s.b0,s.n,s.i],λs=>[⟨[s.p.cs,s.p.os,s.p.ks,s.p.gs,s.p.bs,s.p.tk,s.p.up,s.p.ls,s.p.se,.xl (.int aw) s.p.fl,s.p.ra,s.p.nx,s.p.st,s.p.ca,s.p.mi,s.p.me,s.p.dm,s.p.lk,.xl A7 s.p.dr,.xl A7 s.p.tg],44,.cl,X⟩,⟨[s.r.cs,s.r.os,s.r.ks,s.r.gs,s.r.bs,s.r.tk,s.r.up,s.r.ls,s.r.se,.xl (.int aw) s.r.fl,s.r.ra,s.r.nx,s.r.st,s.r.ca,s.r.mi,s.r.me,s.r.dm,s.r.lk,.xl A7 s.r.dr,.xl A7 s.r.tg],44,.cl,X⟩],λv b=>⟨BU v 2,AJ v 3,AJ v 4,rQ b 0,rQ b 1⟩,Xy,λs r=> {s with b0:=r.b0,i:=r.i},λs=>s,λ_ s=>s,[.ret,.exit 0],Zv,TT,aFE⟩
abbrev zE:=NX.run
abbrev iW:=NX.exn
def apl:Rq TT Xy:=by
 intro s hI;refine ⟨λc1=>⟨?_,?_,?_,λ_=>trivial,λ_=>trivial⟩,λ_=>trivial⟩
 all_goals ((exfalso;obtain ⟨h0,h1⟩:=hI;simp only [AU] at c1;omega))
def mD:aM:=[iy,j3,ahK,anm,anl,ahJ,ank,anj,ani,anh,ang]
def aEp:NX.Ok:={}
def aCz:NX.Pf (pn):=⟨avt,λs h=>rfl,aoA,apl⟩
def aiB:SA 0 x7 NX:=s1 aEp aCz mD kN
def ai0:Fi Zv TT pn iW zE:=LpD.fin aEp aCz
def aGE:aD->T LV
 | [x_p,x_r]=>(match Jr x_p with
  |some p=>(match Jr x_r with
  |some r=> .req (p=II/\r=II) (.ok U)
  |none=> .no)
  |none=> .no)
 |_=> .no
def Wi (p r:PK):MF:=(⟨X,(M p.mi:Y),0,p,r⟩:MF)
def ark (p r:PK):BD prog AO (mD) kN (λi=>if i=4 then NX.lp else noLoops i) f7 [p,r]=.br ((M p.mi:Y) !=(M r.mi:Y)) (.ok X) (.br (p.tk !=r.tk) (.ok X)<|.req ((p.cs=r.cs/\p.os=r.os/\p.ks=r.ks/\p.gs=r.gs/\p.bs=r.bs)/\(M p.cs:Y)<=100000/\(M p.os:Y)<=100000/\(M p.ks:Y)<=100000/\(M p.gs:Y)<=100000/\(M p.bs:Y)<=100000)<|.br (!U) (.ok X)<|.req (NX.q<|Wi p r)<|.br (isEx (iW<|Wi p r)<|.ret) (.ok (zE<|Wi p r).b0)<|.br (!(p.up==r.up)) (.ok X)<|.br (p.nx !=r.nx) (.ok X)<|.req (p.ls=r.ls/\(M p.ls:Y)<=100000)<|.br (!U) (.ok X)<|.req (p.ra=r.ra/\(M p.ra:Y)<=100000)<|.br (!U) (.ok X)<|.req ((p.se=r.se/\p.fl=r.fl)/\(M p.fl:Y)<=100000)<|.br (!U) (.ok X)<|.req (p.st=r.st/\(M p.st:Y)<=100000)<|.br U (.req (p.ca=r.ca/\(M p.ca:Y)<=100000)<|.br U (.req (p.me=r.me/\(M p.me:Y)<=100000)<|.br U (.req (p.dm=r.dm/\(M p.dm:Y)<=100000)<|.br U (.req (p.lk=r.lk/\(M p.lk:Y)<=100000)<|.br U (.req (p.dr=r.dr/\(M p.dr:Y)<=100000)<|.br U (.req (p.tg=r.tg/\(M p.tg:Y)<=100000)<|.ok U)<|.ok X)<|.ok X)<|.ok X)<|.ok X)<|.ok X)<|.ok X):=AM
def aa4:=vm (S:=aGE) func7 mD kN (L:=(λi=>if i=4 then NX.lp else noLoops i)) (λb hb=>by
 rw [show loopsIn _=[x7] by kernel_rfl] at hb
 simp only [Ak,B8,B6] at hb;subst hb;exact aiB) (λargs lv h=>by
 refine ⟨?_⟩;unfold aGE at h;split at h
 ·split at h
  case h_2=>cases h
  rename_i p hp;obtain rfl:=Ov hp;split at h
  case h_2=>cases h
  rename_i r hr;obtain rfl:=Ov hr;simp only [canL,canX];rw [ark];obtain ⟨⟨rfl,rfl⟩,rfl⟩:=h
  have hE:Zv (Wi II II):=⟨rfl,rfl⟩
  obtain ⟨_,_,q⟩:=ai0 _ hE
  have q:iW (Wi II II)=.exit 0:=q
  exact ⟨λc=>absurd c AT,λ_=>⟨λc=>absurd c AT,λ_=>⟨⟨⟨rfl,rfl,rfl,rfl,rfl⟩,AT,AT,AT,AT,AT⟩,⟨λc=>absurd c AT,λ_=>⟨⟨hE,rfl,rfl⟩,⟨λc=>(by rw [q] at c;cases c),λ_=>⟨λc=>absurd c AT,λ_=>⟨λc=>absurd c AT,λ_=>⟨⟨rfl,AT⟩,⟨λc=>absurd c AT,λ_=>⟨⟨rfl,AT⟩,⟨λc=>absurd c AT,λ_=>⟨⟨A9,AT⟩,⟨λc=>absurd c AT,λ_=>⟨⟨rfl,AT⟩,⟨λ_=>⟨⟨rfl,AT⟩,⟨λ_=>⟨⟨rfl,AT⟩,⟨λ_=>⟨⟨rfl,AT⟩,⟨λ_=>⟨⟨rfl,AT⟩,⟨λ_=>⟨⟨rfl,AT⟩,⟨λ_=>⟨⟨rfl,AT⟩,rfl⟩,λc=>CP⟩⟩,λc=>CP⟩⟩,λc=>CP⟩⟩,λc=>CP⟩⟩,λc=>CP⟩⟩,λc=>CP⟩⟩⟩⟩⟩⟩⟩⟩⟩⟩⟩⟩⟩⟩⟩⟩
 ·cases h)
structure Kz where
 b0:aL
 l:aL4
 (n i:Y)
 p:PK
def xu:=bN f5 0
def Xp (s:Kz):T (Rd Kz):=
 .br (an<|s.i<s.n) (.ix s.i (M s.l)<|.br (an<|(M (Bz s.l s.i).1:Y)>40) (.so (.ret) {s with b0:=X})<|.nx {s with i:=AA<|s.i+1}) (.so (.exit 0) s)
def S3 (s:Kz) (j:Y):aL:=an<|(M (Bz s.l j).1:Y)<=40
def Ze (s:Kz):Prop:=s.i=0/\0<=s.n/\s.n<=17592186044416/\s.n=(M s.l:Y)
def Uc (s:Kz):Prop:=0<=s.i/\s.i<=s.n/\s.n<=17592186044416/\(s.n=(M s.l:Y))/\∀j:aC,(j:Y)<s.i->S3 s j=U
def kF (s:Kz):aC:=(s.n-s.i).toNat
def uB (x:Ex) (s s':Kz):Prop:=(x=.exit 0/\∀j:aC,(j:Y)<s'.n->S3 s' j=U)\/(x=.ret/\s'.b0=X/\∃j:aC,(j:Y)<s'.n/\S3 s' j=X)
def ayQ:∀s,Ze s->Uc s:=by
 exact HY
def atA:Da Uc kF uB Xp:=by
 intro s hI;unfold Xp;dsimp only [T.rd,T.rl,T.rv];obtain ⟨h0,h1,h2,h3,h4⟩:=hI;refine allR_ite (λc1=>allR_ite (λc2=>?_) λc2=>?_) λc1=>?_
 ·have c1:s.i<s.n:=AQ
  refine .inr ⟨rfl,rfl,s.i.toNat,AP,?_⟩;rw [Bu A0]
  have hg:S3 s s.i=false:=aKL
  exact hg
 ·have c1:s.i<s.n:=AQ
  have hg:S3 s s.i=true:=aKL
  rw [AG (x:=s.i+1)];refine ⟨⟨AP,AP,h2,h3,λj hj=>?_⟩,by simp only [kF];omega⟩
  by_cases hji:(j:Y)<s.i
  ·exact h4 j hji
  ·exact aIm
 ·exact Mr
def Ni:LpD Kz:=⟨0,80,[1,2,7,8,9],[],λs=>[.own 0 0,s.b0,s.l,s.n,s.i],λs=>[⟨[s.p.cs,s.p.os,s.p.ks,s.p.gs,s.p.bs,s.p.tk,s.p.up,s.p.ls,s.p.se,.xl (.int aw) s.p.fl,s.p.ra,s.p.nx,s.p.st,s.p.ca,s.p.mi,s.p.me,s.p.dm,s.p.lk,.xl A7 s.p.dr,.xl A7 s.p.tg],44,.cl,X⟩],λv b=>⟨BU v 1,Ag Ap v 2,AJ v 3,AJ v 4,rQ b 0⟩,Xp,λs r=> {s with b0:=r.b0,i:=r.i},λs=>s,λ_ s=>s,[.ret,.exit 0],Ze,Uc,kF⟩
abbrev iL:=Ni.run
abbrev gj:=Ni.exn
def aqN:Rq Uc Xp:=by
 exact Mt
def mC:aM:=[awF]
def aEf:Ni.Ok:={}
def aE4:Ni.Pf (uB):=⟨ayQ,λs h=>rfl,atA,aqN⟩
def air:SA 0 xu Ni:=s1 aEf aE4 mC kN
def al8:Fi Ze Uc uB gj iL:=LpD.fin aEf aE4
def aGn:aD->T LV
 | [x_p]=>(match Jr x_p with
  |some p=> .req (Fw p) (.ok<|QC p)
  |none=> .no)
 |_=> .no
def Ob (p:PK):Kz:=(⟨X,p.mi,(M p.mi:Y),0,p⟩:Kz)
def arF (p:PK):BD prog AO (mC) kN (λi=>if i=2 then Ni.lp else noLoops i) f5 [p]=.req (Ni.q<|Ob p) (.br (isEx (gj<|Ob p)<|.ret) (.ok (iL<|Ob p).b0)<|.ok<|.v<|.bool<|(an<|M p.cs<=40/\M p.os<=40/\M p.ks<=40/\M p.gs<=40/\M p.bs<=40)&&((an<|(AA<|(AA<|(AA<|(AA<|(AA<|(AA<|(M p.st:Y)+(M p.ca:Y))+(M p.mi:Y))+(M p.me:Y))+(M p.dm:Y))+(M p.dr:Y))+(M p.tg:Y))<=200)&&((an<|(M p.lk:Y)<=150)&&((an<|(M p.ls:Y)<=100)&&((an<|(M p.ra:Y)<=40)&&(an<|(M p.fl:Y)<=4100)))))):=AM
def aLr:=vm (S:=aGn) func5 mC kN (L:=(λi=>if i=2 then Ni.lp else noLoops i)) (λb hb=>by
 rw [show loopsIn _=[xu] by kernel_rfl] at hb
 simp only [Ak,B8,B6] at hb;subst hb;exact air) (λargs lv h=>by
 refine ⟨?_⟩;unfold aGn at h;split at h
 ·split at h
  case h_2=>cases h
  rename_i p hp;obtain rfl:=Ov hp;simp only [canL,canX];rw [arF];obtain ⟨hw,rfl⟩:=h
  have E1:Ze (Ob p):=⟨rfl,O6 _,by have:=hw.mi;show (M p.mi:Y)<=17592186044416;omega,rfl⟩
  have hl:CO (M p.mi) (λk=>an<|(M (Bz p.mi k).1:Y)<=40)=p.mi.all (λm=>an<|(M m.1:Y)<=40):=fp (f:=λm:Mi=>an<|(M m.1:Y)<=40)
  obtain ⟨_,_,q⟩:=al8 _ E1
  have q:(gj (Ob p)=.exit 0/\_)\/(gj (Ob p)=.ret/\(iL<|Ob p).b0=X/\∃j:aC,(j:Y)<(M p.mi:Y)/\an ((M (Bz p.mi j).1:Y)<=40)=X):=q
  have h1:=hw.mi
  have h2:=hw.st
  have h3:=hw.ca
  have h4:=hw.me
  have h5:=hw.dm
  have h6:=hw.dr
  have h7:=hw.tg
  unfold QC;rw [<-hl];refine ⟨⟨E1,rfl,rfl⟩,?_⟩;rcases q with ⟨q1,q2⟩ |⟨q1,q2,j,q3,q4⟩
  ·rw [q1,show CO (M p.mi) (λk=>an<|(M (Bz p.mi k).1:Y)<=40)=U from Cm.2 q2]
   refine ⟨λc=>CP,λ_=>?_⟩
   rw [AG (x:=(M p.st:Y)+(M p.ca:Y)),AG (x:=(M p.st:Y)+(M p.ca:Y)+(M p.mi:Y)),AG (x:=(M p.st:Y)+(M p.ca:Y)+(M p.mi:Y)+(M p.me:Y)),AG (x:=(M p.st:Y)+(M p.ca:Y)+(M p.mi:Y)+(M p.me:Y)+(M p.dm:Y)),AG (x:=(M p.st:Y)+(M p.ca:Y)+(M p.mi:Y)+(M p.me:Y)+(M p.dm:Y)+(M p.dr:Y)),AG,Cr];rfl
  ·rw [q1,q2,Lu j q3 q4]
   exact ⟨λ_=>rfl,λc=>CP⟩
 ·cases h)
structure Kr where
 (b0 u:aL)
 dw:aB
 Du:aL
 l:aN
 (n i:Y)
 p:PK
 ev:EW
 r:PK
def yf:=bN f3 0
def SB (s:Kr):T (Rd Kr):=
 .br (an<|s.i<s.n) (.ix s.i (M s.l)<|.nx {s with Du:=(s.Du ||((An s.l s.i).2.2.1 !=0)),i:=AA<|s.i+1}) (.so (.exit 0) s)
def ZY (s:Kr):Prop:=s.i=0/\s.n=(M s.l:Y)/\s.n<=100000
def ZG (s:Kr):Prop:=(0<=s.i/\s.i<=s.n)/\s.n=(M s.l:Y)/\s.n<=100000
def lJ (s:Kr):aC:=(s.n-s.i).toNat
def acd (x:Ex) (s s':Kr):Prop:=True
def axT:∀s,ZY s->ZG s:=by
 exact Ft
def asb:Da ZG lJ acd SB:=by
 intro s hI;unfold SB;dsimp only [T.rd,T.rl,T.rv];obtain ⟨⟨h0,h1⟩,h2,h3⟩:=hI;refine allR_ite (λc1=>?_) λc1=>trivial
 have c1:s.i<s.n:=C9 c1
 rw [AG (x:=s.i+1)];exact ⟨⟨⟨AP,AP⟩,h2,h3⟩,by simp only [lJ];omega⟩
def Nh:LpD Kr:=⟨0,160,[2,3,4,5,6,7,9,43,44,45],[],λs=>[.own 0 0,.own 1 0,s.b0,s.u,.own 2 0,.xl A7 s.dw,s.Du,s.l,s.n,s.i],λs=>[⟨[s.p.cs,s.p.os,s.p.ks,s.p.gs,s.p.bs,s.p.tk,s.p.up,s.p.ls,s.p.se,.xl (.int aw) s.p.fl,s.p.ra,s.p.nx,s.p.st,s.p.ca,s.p.mi,s.p.me,s.p.dm,s.p.lk,.xl A7 s.p.dr,.xl A7 s.p.tg],44,.cl,X⟩,⟨[s.ev.ek,s.ev.en,s.ev.em,s.ev.c1,s.ev.c2,s.ev.c3,s.ev.c4,s.ev.c5,s.ev.d1,s.ev.d2,s.ev.d3,s.ev.d4],50,.cl,X⟩,⟨[s.r.cs,s.r.os,s.r.ks,s.r.gs,s.r.bs,s.r.tk,s.r.up,s.r.ls,s.r.se,.xl (.int aw) s.r.fl,s.r.ra,s.r.nx,s.r.st,s.r.ca,s.r.mi,s.r.me,s.r.dm,s.r.lk,.xl A7 s.r.dr,.xl A7 s.r.tg],44,.cl,X⟩],λv b=>⟨BU v 2,BU v 3,Ag A7 v 5,BU v 6,Ag AL v 7,AJ v 8,AJ v 9,rQ b 0,rE b 0 1,rQ b 2⟩,SB,λs r=> {s with Du:=r.Du,i:=r.i},λs=>s,λ_ s=>s,[.exit 0],ZY,ZG,lJ⟩
abbrev WY:=Nh.run
abbrev akq:=Nh.exn
def aoq:Rq ZG SB:=by
 intro s hI;refine ⟨λc1=>⟨?_,ak⟩,λ_=>trivial⟩
 ·exact aJM
def mB:aM:=[acw,aLr,gv,aa4,iy,j3]
def aEY:Nh.Ok:={}
def aDx:Nh.Pf (acd):=⟨axT,λs h=>rfl,asb,aoq⟩
def ahW:SA 0 yf Nh:=s1 aEY aDx mB kN
def ajP:Rs ZY akq WY (λs:Kr=>(s.Du ||crB (s.l.drop s.i.toNat))) (λx s' (v:aL)=>x=.exit 0/\s'.Du=v):=CM aEY aDx (λs hI=>by
  show allR _ _ ((SB s).rd s)
  unfold SB;dsimp only [T.rd,T.rl];obtain ⟨⟨h0,h1⟩,h2,h3⟩:=hI;refine allR_ite (λc1=>?_) λc1=>?_
  ·have c1:s.i<s.n:=C9 c1
   rw [AG (x:=s.i+1)]
   have e:=(On h0 (show s.i<(M s.l:Y) by omega)).1
   rw [e];unfold crB;rw [QT,<-Bool.or_assoc];rfl
  ·have c1:s.n<=s.i:=AQ
   rw [DD A0];exact ⟨rfl,(Bool.or_false _).symm⟩)
structure MQ where
 (b0 u:aL)
 dw:aB
 Du:aL
 l:aB
 (n i:Y)
 p:PK
 ev:EW
 r:PK
def ye:=bN f3 1
def Y9 (s:MQ):T (Rd MQ):=
 .br (an<|s.i<s.n) (.ix s.i (M s.l)<|.br ((!s.Du)&&((gi s.l s.i) !=0)) (.so (.ret) {s with b0:=X})<|.nx {s with i:=AA<|s.i+1}) (.so (.exit 2) s)
def ZX (s:MQ):Prop:=s.i=0/\s.n=(M s.l:Y)/\s.n<=100000/\(s.Du=X->∀x∈s.l,x=0)
def UY (s:MQ):Prop:=(0<=s.i/\s.i<=s.n)/\s.n=(M s.l:Y)/\s.n<=100000/\(s.Du=X->∀x∈s.l,x=0)
def lI (s:MQ):aC:=(s.n-s.i).toNat
def uA (x:Ex) (s s':MQ):Prop:=x=.exit 2
def axS:∀s,ZX s->UY s:=by
 exact Ft
def asa:Da UY lI uA Y9:=by
 intro s hI;unfold Y9;dsimp only [T.rd,T.rl,T.rv];obtain ⟨⟨h0,h1⟩,h2,h3,h4⟩:=hI;refine allR_ite (λc1=>?_) λc1=>rfl
 have c1:s.i<s.n:=C9 c1
 rw [AG (x:=s.i+1)];refine allR_ite (λc2=>?_) λc2=>⟨⟨⟨AP,AP⟩,h2,h3,h4⟩,by simp only [lI];omega⟩
 exfalso;simp only [AS,C8,DP] at c2;refine c2.2<|h4 c2.1 _ ?_;rw [G0 A0];exact EL _
def Ng:LpD MQ:=⟨0,160,[2,3,4,5,6,7,9,56,57,58],[],λs=>[.own 0 0,.own 1 0,s.b0,s.u,.own 2 0,.xl A7 s.dw,s.Du,.xl A7 s.l,s.n,s.i],λs=>[⟨[s.p.cs,s.p.os,s.p.ks,s.p.gs,s.p.bs,s.p.tk,s.p.up,s.p.ls,s.p.se,.xl (.int aw) s.p.fl,s.p.ra,s.p.nx,s.p.st,s.p.ca,s.p.mi,s.p.me,s.p.dm,s.p.lk,.xl A7 s.p.dr,.xl A7 s.p.tg],44,.cl,X⟩,⟨[s.ev.ek,s.ev.en,s.ev.em,s.ev.c1,s.ev.c2,s.ev.c3,s.ev.c4,s.ev.c5,s.ev.d1,s.ev.d2,s.ev.d3,s.ev.d4],50,.cl,X⟩,⟨[s.r.cs,s.r.os,s.r.ks,s.r.gs,s.r.bs,s.r.tk,s.r.up,s.r.ls,s.r.se,.xl (.int aw) s.r.fl,s.r.ra,s.r.nx,s.r.st,s.r.ca,s.r.mi,s.r.me,s.r.dm,s.r.lk,.xl A7 s.r.dr,.xl A7 s.r.tg],44,.cl,X⟩],λv b=>⟨BU v 2,BU v 3,Ag A7 v 5,BU v 6,Ag A7 v 7,AJ v 8,AJ v 9,rQ b 0,rE b 0 1,rQ b 2⟩,Y9,λs r=> {s with b0:=r.b0,i:=r.i},λs=>s,λ_ s=>s,[.ret,.exit 2],ZX,UY,lI⟩
abbrev iK:=Ng.run
abbrev iY:=Ng.exn
def aop:Rq UY Y9:=by
 exact qU
def aEX:Ng.Ok:={}
def aDw:Ng.Pf (uA):=⟨axS,λs h=>rfl,asa,aop⟩
def ahV:SA 0 ye Ng:=s1 aEX aDw mB kN
def ajO:Fi ZX UY uA iY iK:=LpD.fin aEX aDw
structure Kq where
 (b0 u:aL)
 dw:aB
 Du:aL
 (n i:Y)
 p:PK
 ev:EW
 r:PK
 aeb:aF
 azs:aP
 aeO:aG
 afX:aQ
 o:aK
def yd:=bN f3 2
def S9 (s:Kq):T (Rd Kq):=letI b:=s.o.getD s.i.toNat<|Ty.dflt AR;letI a:=(s.o.set s.i.toNat (b.1,(b.2.1,((Aa s.p.cs s.i).2.2.1,b.2.2.2))));.br (an<|s.i<s.n) (.br (an<|s.i<(M s.p.cs:Y)) (.ix s.i (M s.p.cs)<|.ik s.i (M s.o)<|.re (M s.o) a<|.nx {s with i:=AA<|s.i+1,o:=a})<|.rl s.o<|.nx {s with i:=AA<|s.i+1})<|.rl s.o<|.so (.exit 4) s
def ZW (s:Kq):Prop:=s.i=0/\(s.n=(M s.o:Y)/\s.n<=100000)/\QE s.p.cs s.o
def ZF (s:Kq):Prop:=((0<=s.i/\s.i<=s.n)/\∀j:aC,(j:Y)<s.i->Aa s.o j=Aa s.p.cs j)/\(s.n=(M s.o:Y)/\s.n<=100000)/\QE s.p.cs s.o
def lH (s:Kq):aC:=(s.n-s.i).toNat
def acZ (x:Ex) (s s':Kq):Prop:=True
def axR:∀s,ZW s->ZF s:=by
 rintro s ⟨h0,h1⟩
 exact ⟨⟨⟨A0,A0⟩,λj hj=>A0⟩,h1⟩
def asZ:Da ZF lH acZ S9:=by
 intro s hI;unfold S9;dsimp only [T.rd,T.rl,T.rv];obtain ⟨⟨⟨h0,h1⟩,h5⟩,⟨h2,h3⟩,h4⟩:=hI;refine allR_ite (λc1=>?_) λc1=>?_
 ·have c1:s.i<s.n:=C9 c1
  rw [AG (x:=s.i+1)]
  have hl:=h4.1
  refine allR_ite (λc2=>?_) λc2=>absurd (show s.i<(M s.p.cs:Y) by omega)<|Gu c2
  have hk:s.i.toNat<M s.o:=A0
  have hg:∀j:aC,Aa (s.o.set s.i.toNat ((s.o.getD s.i.toNat<|Ty.dflt AR).1,((s.o.getD s.i.toNat<|Ty.dflt AR).2.1,((Aa s.p.cs s.i).2.2.1,(s.o.getD s.i.toNat<|Ty.dflt AR).2.2.2)))) j=if j=s.i.toNat then Aa s.p.cs j else Aa s.o j:=λj=>by
   rw [iT hk];split
   ·rename_i e
    subst e;obtain ⟨u,e2⟩:=h4.2 s.i.toNat;rw [Bu h0] at e2|-
    have e2:s.o.getD s.i.toNat (Ty.dflt AR)=G3 (Aa s.p.cs s.i) u:=e2
    rw [e2];rfl
   ·rfl
  refine ⟨⟨⟨⟨AP,AP⟩,λj hj=>?_⟩,⟨by simp only [BR];exact h2,h3⟩,by simp only [BR];exact hl,λj=>?_⟩,by simp only [lH];omega⟩
  ·simp only at hj|-
   rw [hg];split
   ·rfl
   ·exact h5 j A0
  ·simp only
   rw [hg];split
   ·exact ⟨_,rfl⟩
   ·exact h4.2 j
 ·have c1:s.n<=s.i:=AQ
  exact ak
def Nf:LpD Kq:=⟨0,160,[2,3,4,5,6,7,9,14,79,80],[],λs=>[.own 0 0,.own 1 0,s.b0,s.u,.own 2 0,.xl A7 s.dw,s.Du,.own 3 0,s.n,s.i],λs=>[⟨[s.p.cs,s.p.os,s.p.ks,s.p.gs,s.p.bs,s.p.tk,s.p.up,s.p.ls,s.p.se,.xl (.int aw) s.p.fl,s.p.ra,s.p.nx,s.p.st,s.p.ca,s.p.mi,s.p.me,s.p.dm,s.p.lk,.xl A7 s.p.dr,.xl A7 s.p.tg],44,.cl,X⟩,⟨[s.ev.ek,s.ev.en,s.ev.em,s.ev.c1,s.ev.c2,s.ev.c3,s.ev.c4,s.ev.c5,s.ev.d1,s.ev.d2,s.ev.d3,s.ev.d4],50,.cl,X⟩,⟨[s.r.cs,s.r.os,s.r.ks,s.r.gs,s.r.bs,s.r.tk,s.r.up,s.r.ls,s.r.se,.xl (.int aw) s.r.fl,s.r.ra,s.r.nx,s.r.st,s.r.ca,s.r.mi,s.r.me,s.r.dm,s.r.lk,.xl A7 s.r.dr,.xl A7 s.r.tg],44,.cl,X⟩,⟨[.os 4 11 0<|M s.o,s.aeb,s.azs,s.aeO,s.afX],28,.cl,X⟩,bV 62 AR s.o],λv b=>⟨BU v 2,BU v 3,Ag A7 v 5,BU v 6,AJ v 8,AJ v 9,rQ b 0,rE b 0 1,rQ b 2,AB .str b 3 1,AB AY b 3 2,AB AX b 3 3,AB AZ b 3 4,AV AR b 4⟩,S9,λs r=> {s with i:=r.i,o:=r.o},λs=>s,λ_ s=>s,[.exit 4],ZW,ZF,lH⟩
abbrev fV:=Nf.run
abbrev akp:=Nf.exn
def aoo:Rq ZF S9:=by
 intro s hI;refine ⟨λc1=>⟨λc2=>⟨?_,?_,?_,?_,ak⟩,λc2=>⟨A9,ak⟩⟩,λc1=>⟨A9,ak⟩⟩
 all_goals ((obtain ⟨⟨⟨h0,h1⟩,h5⟩,⟨h2,h3⟩,h4⟩:=hI;have hl:=h4.1;simp only [AU] at c1;first|omega|exact ⟨rfl,AH⟩))
def aEW:Nf.Ok:={}
def aDv:Nf.Pf (acZ):=⟨axR,λs h=>rfl,asZ,aoo⟩
def ahU:SA 0 yd Nf:=s1 aEW aDv mB kN
def ajN:Rs ZW akp fV (λs:Kq=>s.p.cs) (λx s' (v:aK)=>s'.o=v):=CM aEW aDv (λs hI=>by
  show allR _ _ ((S9 s).rd s)
  unfold S9;dsimp only [T.rd,T.rl];obtain ⟨⟨⟨h0,h1⟩,h5⟩,⟨h2,h3⟩,h4⟩:=hI
  have hl:=h4.1
  refine allR_ite (λc1=>?_) λc1=>?_
  ·have c1:s.i<s.n:=C9 c1
   exact allR_ite (λc2=>rfl) λc2=>absurd (show s.i<(M s.p.cs:Y) by omega)<|Gu c2
  ·have c1:s.n<=s.i:=AQ
   exact alL hl λj hj=>h5 j A0)
def aHI:aD->T LV
 | [x_p,x_ev]=>(match Jr x_p with
  |some p=>(match VF x_ev with
  |some ev=> .req (Fw p) (.ok U)
  |none=> .no)
  |none=> .no)
 |_=> .no
def ab4:=uS f3 aHI
def Qw (p:PK) (ev:EW):Kr:=(⟨X,U,Br p<|EW.ev ev,X,p.ca,(M p.ca:Y),0,p,ev,Ay p<|EW.ev ev⟩:Kr)
def R5 (p:PK) (ev:EW):MQ:=letI a:=Br p<|EW.ev ev;(⟨X,U,a,(WY<|Qw p ev).Du,a,(M a:Y),0,p,ev,Ay p<|EW.ev ev⟩:MQ)
def WU (p:PK) (ev:EW):Kq:=letI a:=Ay p<|EW.ev ev;(⟨(iK<|R5 p ev).b0,U,Br p<|EW.ev ev,(WY<|Qw p ev).Du,((0+M a.cs:aC):Y),0,p,ev,a,a.os,a.ks,a.gs,a.bs,([]:aK)++a.cs⟩:Kq)
def aFm:aM:=[acw,aLr,gv,aa4,iy,j3]
def aqy (p:PK) (ev:EW):letI b:=Ay p<|EW.ev ev;letI c:=(M (Br p<|EW.ev ev):Y);letI d:=ev.ek==1;letI e:=WY<|Qw p ev;letI f:=fV<|WU p ev;letI a:=(b.me=p.me/\(M b.me:Y)<=100000);BD prog AO (aFm) kN (λi=>if i=9 then Nh.lp else if i=14 then Ng.lp else if i=22 then Nf.lp else noLoops i) f3 [p,ev]=.req (Fw p) (.br (!(QC p)) (.ok U)<|.req (GP p)<|.br ((BJ p<|EW.ev ev) !=0) (.br U (.req (b=II/\(⟨([]:aK),([]:aF),([]:aP),([]:aG),([]:aQ),0,X,([]:aN),0,([]:aB),([]:bp),0,([]:bf),([]:aN),([]:aL4),([]:aL6),([]:aZ),([]:aLZ),([]:aB),([]:aB)⟩)=II)<|.ok<|.v<|.bool<|U&&(c==0))<|.ok X)<|.req (Nh.q<|Qw p ev)<|.req (Ng.q<|R5 p ev)<|.br (isEx (iY<|R5 p ev)<|.ret) (.ok (iK<|R5 p ev).b0)<|.ra 0 (M ([]:aK)) (0+M b.cs) 96<|.re (0+M b.cs) (([]:aK)++b.cs)<|.req (Nf.q<|WU p ev)<|.br U (.rz f.o<|.req (((AI f.o)=p.cs/\b.os=p.os/\b.ks=p.ks/\b.gs=p.gs/\b.bs=p.bs)/\(M (AI f.o):Y)<=100000/\(M b.os:Y)<=100000/\(M b.ks:Y)<=100000/\(M b.gs:Y)<=100000/\(M b.bs:Y)<=100000)<|.br U (.br d (.br (b.tk==(AA<|p.tk+1)) (.br (c==(M p.ca:Y)) (.br e.Du (.br d (.ok U)<|.req a<|.ok U)<|.req a<|.ok U)<|.br (! d) (.br (b.tk==p.tk) (.br (c==0) (.br e.Du (.br d (.ok U)<|.req a<|.ok U)<|.req a<|.ok U)<|.ok X)<|.ok X)<|.ok X)<|.br (! d) (.br (b.tk==p.tk) (.br (c==0) (.br e.Du (.br d (.ok U)<|.req a<|.ok U)<|.req a<|.ok U)<|.ok X)<|.ok X)<|.ok X)<|.br (! d) (.br (b.tk==p.tk) (.br (c==0) (.br e.Du (.br d (.ok U)<|.req a<|.ok U)<|.req a<|.ok U)<|.ok X)<|.ok X)<|.ok X)<|.ok X)<|.ok X):=AM
def avZ:VV 3 ab4:=vm func3 aFm kN (L:=(λi=>if i=9 then Nh.lp else if i=14 then Ng.lp else if i=22 then Nf.lp else noLoops i)) (λb hb=>by
 rw [show loopsIn _=[yf,ye,yd] by kernel_rfl] at hb
 simp only [Ak,B8,B6] at hb;rcases hb with rfl|rfl|rfl
 ·exact ahW
 ·exact ahV
 ·exact ahU) (λargs lv h=>by
 refine ⟨?_⟩;unfold aHI at h;split at h
 ·split at h
  case h_2=>cases h
  rename_i p hp;obtain rfl:=Ov hp;split at h
  case h_2=>cases h
  rename_i ev hev;obtain rfl:=aBW hev;simp only [canL,canX];rw [aqy];obtain ⟨hw,rfl⟩:=h;refine ⟨hw,λ_=>rfl,λc1=>?_⟩
  have hf:QC p=true:=AQ
  refine ⟨atF hf hw,λc2=>?_,λc2=>?_⟩
  ·obtain ⟨e1,e2⟩:=OW (DP.1 c2)
   refine ⟨λ_=>⟨⟨e1,rfl⟩,?_⟩,λc=>CP⟩
   rw [e2];rfl
  have he:BJ p (EW.ev ev)=0:=D4
  have hv:VP p:=by
   cases h:CW p with
   |true=>exact ff.1 h
   |false=>exact absurd (he.symm.trans<|AD h) AT
  have hi:=agI hv he
  have hs:=CV.1 hv.site
  have htk:=hv.tk
  have hca:=hv.ca
  have hme:=hv.me
  have hcs:=hi.cs.1
  have hD:(M (Br p<|EW.ev ev):Y)<=100000:=by
   by_cases h1:ev.ek=1
   ·rw [(hi.ti h1).2];omega
   ·rw [(hi.nt h1).2];decide
  have E0:ZY (Qw p ev):=⟨rfl,rfl,by show (M p.ca:Y)<=100000;omega⟩
  have q0:(WY<|Qw p ev).Du=crB p.ca:=(ajP _ E0).2
  have E1:ZX (R5 p ev):=⟨rfl,rfl,hD,λc=>hi.dw<|q0.symm.trans c⟩
  obtain ⟨_,_,q1⟩:=ajO _ E1
  have q1:iY (R5 p ev)=.exit 2:=q1
  have E2:ZW (WU p ev):=⟨rfl,⟨Am Int.ofNat<|Ck _,by show ((0+M (Ay p<|EW.ev ev).cs:aC):Y)<=100000;omega⟩,hi.cs⟩
  have q2:(fV<|WU p ev).o=p.cs:=ajN _ E2
  have hL:AI (fV<|WU p ev).o=p.cs:=by rw [D5,q2]
  have me:(crB p.ca&&(ev.ek==1))=X->((Ay p<|EW.ev ev).me=p.me/\(M (Ay p<|EW.ev ev).me:Y)<=100000):=λc=>⟨hi.me c,by rw [hi.me c];omega⟩
  rw [hL,q1];refine ⟨⟨E0,rfl,rfl⟩,⟨E1,rfl,rfl⟩,λc=>CP,λ_=>⟨⟨rfl,A0,A0⟩,⟨rfl,Ck _⟩,⟨E2,rfl,rfl⟩,λ_=>⟨A0,⟨⟨rfl,hi.si⟩,A0,by rw [hi.si.1];omega,by rw [hi.si.2.1];omega,by rw [hi.si.2.2.1];omega,by rw [hi.si.2.2.2];omega⟩,λ_=>?_,λc=>CP⟩,λc=>CP⟩⟩
  refine ⟨λc3=>?_,λc3=>?_⟩
  ·have h1:ev.ek=1:=eq_of_beq c3
   obtain ⟨t1,t2⟩:=hi.ti h1;refine ⟨λ_=>⟨λ_=>⟨λc5=>⟨λ_=>rfl,λc6=>⟨me (by rw [c6];exact LX _),rfl⟩⟩,λc5=>⟨me (by rw [<-q0,c5];rfl),rfl⟩⟩,λc=>?_⟩,λc=>?_⟩
   ·rw [t2,IQ] at c
    cases c
   ·rw [t1,AG (x:=p.tk+1),IQ] at c
    cases c
  ·have h1:ev.ek≠1:=Bt.1 c3
   obtain ⟨t1,t2⟩:=hi.nt h1;refine ⟨λ_=>⟨λ_=>⟨λ_=>⟨λc5=>⟨λ_=>rfl,λc6=>⟨me (by rw [c6];exact LX _),rfl⟩⟩,λc5=>⟨me (by rw [<-q0,c5];rfl),rfl⟩⟩,λc=>?_⟩,λc=>?_⟩,λc=>?_⟩
   ·rw [t2] at c
    cases c
   ·rw [t1,IQ] at c
    cases c
   ·rw [c3] at c
    cases c
 ·cases h)
end Go.Proofs.YtjjcgjkagokchaaGreatDoor
namespace Go.Sx
open Go Go.RowKit Go.Proofs.YtjjcgjkagokchaaGreatDoor
def mb:Ty->Nat
 | .int k=>k.bits / 8
 | .bool=>1
 | .str=>16
 | .sl _=>24
 | .pair a b=>mb a+mb b
def Gj:(t:Ty)->t.D->Prop
 | .int k,n=>(Lit.int k n).wf=U
 | .bool,_=>True
 | .str,s=>s.size<=maxLen
 | .sl e,l=>(M l<=maxLen/\M l*mb e<=reachBytes)/\∀d,d∈l->Gj e d
 | .pair a b,d=>Gj a d.1/\Gj b d.2
def Rg (P:aR):aC->aMr->Bool
 |_,[]=>U
 |o,f::fs=>an (f.offset=o)&&Rg P (o+P.cellsOf f.type) fs
def Jn (P:aR):aC->aS->Bool
 |0,_=>X
 |m+1,t=>match P.underlying t with
  |some (.int _) |some .bool|some .string=>an (P.cellsOf t=1)
  |some (.struct fs)=>Rg P 0 fs.toList&&an (P.cellsOf t=((fs.toList.map (·.type)).map P.cellsOf).sum)&&fs.toList.all (λf=>Jn P m f.type)
  |some (.array n e)=>an (P.cellsOf t=((aq n e).map P.cellsOf).sum)&&Jn P m e
  |some (.slice e)=>an (P.cellsOf t=1)&&an (1<=P.cellsOf e)&&(tyOf P m e).any (λty=>ty.n==P.cellsOf e&&an (mb ty<=P.bytesOf e))&&Jn P m e
  |_=>X
variable {H : Type} {enc : TypeId × Value -> H} {P : Program} {w : World} {base : Nat} {spare : Nat -> Bool} {held : Bool} {β : Nat -> Loc}
def Good (enc:TypeId×Value->H) (P:aR) (w:aO) (base:aC) (spare:aC->aL) (held:aL) (t:aS) (cs:aT):Prop:=∃n x,DataW.trod enc P w base spare held n t cs=ah x/\∀k,k∈x.1.weights P t->k<=reachBytes
def wN {e:aS}{d:DataW H}{k:aC}(hk:k∈d.weights P e):∀ {l:List<|DataW H}{i:aC},l[i]? =ah d->k∈DataW.weightsAll P e l
 | [],_,h=>Ab
 |x::l,0,h=>by
  simp only [DataW.weightsAll,BN]
  grind
 |x::l,i+1,h=>by
  simp only [DataW.weightsAll,BN];exact .inr<|wN hk h
def ae3 {t:aS}{d:DataW H}{k:aC}(hk:k∈d.weights P t):∀ {ts:bu}{l:List<|DataW H}{i:aC},ts[i]? =ah t->l[i]? =ah d->k∈DataW.weightsEach P ts l
 | [],_,_,h,_=>Ab
 |_::_,[],_,_,h=>Ab
 |u::ts,x::l,0,h1,h2=>by
  simp only [DataW.weightsEach,BN]
  grind
 |u::ts,x::l,i+1,h1,h2=>by
  simp only [DataW.weightsEach,BN];exact .inr<|ae3 hk h1 h2
def ae4:∀ {ts us:bu}{ds gs:List<|DataW H},M ds=M ts->∀k,k∈DataW.weightsEach P ts ds->k∈DataW.weightsEach P (ts++us) (ds++gs)
 | [],_,[],_,_,_,h=>by simp [DataW.weightsEach] at h
 | [],_,_::_,_,h,_,_=>Ab
 |_::_,_,[],_,h,_,_=>Ab
 |t::ts,us,d::ds,gs,h,k,hk=>by
  simp only [DataW.weightsEach,BN,cN] at hk|-;rcases hk with hk|hk
  ·grind
  ·exact .inr<|ae4 A8 k hk
def adp:∀ {ts:bu}{vs:aT}{ds:List<|DataW H}{ps:aL9},DataW.TrodAll enc P w base spare held ts vs ds ps->M ds=M ts
 | [],[],[],_,_=>rfl
 | [],_::_,_,_,h=>Ab
 | [],[],_::_,_,h=>Ab
 |_::_,[],_,_,h=>Ab
 |_::_,_::_,[],_,h=>Ab
 |_::_,_::_,_::_,_,h=>by
  obtain ⟨_,_,_,h2,_⟩:=h
  simp [adp h2]
def RL.append' {Z:aC->Prop}:∀ {l1 l2:aD}{y1 y2:aT},RL β Z w l1 y1->RL β Z w l2 y2->RL β Z w (l1++l2) (y1++y2)
 | [],l2,y1,y2,h1,h2=>by simp only [RL] at h1;subst h1;exact h2
 |x::xs,l2,y1,y2,h1,h2=>by
  obtain ⟨y,zs,rfl,h3,h4⟩:=h1;exact ⟨y,zs++y2,rfl,h3,RL.append' h4 h2⟩
def lf {Z:aC->Prop}:∀(t:Ty) (d:t.D) (cs:aT) (b o:aC),RL β Z w (encL t d) cs->(∀(j:aC) v,cs[j]? =ah v->w.cell? ⟨b,o+j,aj⟩=ah v)->RD Z w t d b o
 | .int k,d,cs,b,o,h,hc=>by
  exact qt
 | .bool,d,cs,b,o,h,hc=>by
  exact qt
 | .str,d,cs,b,o,h,hc=>by
  exact qt
 | .sl e,d,cs,b,o,h,hc=>by
  obtain ⟨y,zs,rfl,⟨a,cap,rfl,h2,h3⟩,_⟩:=h;simp only [RD];exact ⟨a,cap,hc 0 _ rfl,h2,h3⟩
 | .pair p q,d,cs,b,o,h,hc=>by
  simp only [encL] at h
  have hl:=RL.length h
  have h1:=h.take_drop 0 p.n
  have h2:RL β Z w ((encL p d.1++encL q d.2).drop p.n) (cs.drop p.n):=by
   refine RL.of_get (by simp [hl,encL_length]) λi z hz=>?_
   rw [DX] at hz|-;exact RL.get _ _ h hz
  have t1:((encL p d.1++encL q d.2).drop 0).take p.n=encL p d.1:=by
   rw [Bq,List.take_append_of_le_length rY,CY rY]
  have t2:(encL p d.1++encL q d.2).drop p.n=encL q d.2:=by
   rw [aHU rY,DD A8,FK]
  rw [t1,Bq] at h1;rw [t2] at h2;simp only [RD];refine ⟨lf p d.1 _ b o h1 λj v hv=>?_,lf q d.2 _ b (o+p.n) h2 λj v hv=>?_⟩
  ·exact aJA
  ·rw [DX] at hv
   grind
def wj {Z:aC->Prop}{r:aS->Option Ty}{sz:aS->aC}{Gd:aS->aT->Prop}:∀(ts:bu) (ty:Ty) (cs:aT),tyFs r ts=ah ty->
  (∀t∈ts,∀ty c,r t=ah ty->Gd t c->∃d:ty.D,RL β Z w (encL ty d) c/\Gj ty d)->M cs=(ts.map sz).sum->(∀pre t post,ts=pre++t::post->Gd t ((cs.drop (pre.map sz).sum).take<|sz t))->∃d:ty.D,RL β Z w (encL ty d) cs/\Gj ty d
 | [],ty,cs,h,_,_,_=>by simp [tyFs] at h
 | [t],ty,cs,h,ih,hl,hg=>by
  have:=ih t AH ty _ h<|hg [] t [] rfl
  have e:(cs.drop (List.map sz []).sum).take (sz t)=cs:=by
   grind
  rw [e] at this;exact this
 | t::u::ts,ty,cs,h,ih,hl,hg=>by
  simp only [tyFs] at h;split at h
  ·rename_i a b ha hb
   simp only [Ac] at h;subst h;obtain ⟨d1,a1,a2⟩:=ih t AH a _ ha<|hg [] t (u::ts) rfl
   obtain ⟨d2,b1,b2⟩:=wj (sz:=sz) (Gd:=Gd) (u::ts) b (cs.drop<|sz t) hb (λt' ht=>ih t' A8) A8 (λpre t' post e=>by
    have:=hg (t::pre) t' post (by rw [e];rfl)
    simpa using this)
   refine ⟨(d1,d2),?_,by simp only [Gj];exact ⟨a2,b2⟩⟩
   have:=RL.append' a1 b1
   simp only [encL];exact Mv
  ·cases h
def hU:∀(fs:aMr) (o:aC),Rg P o fs=U->∀pre f post,fs=pre++f::post->f.offset=o+((pre.map (·.type)).map P.cellsOf).sum
 | [],o,_,pre,f,post,e=>by cases pre<;>cases e
 |g::fs,o,h,[],f,post,e=>by
  simp only [Rg,AS,AU] at h
  grind
 |g::fs,o,h,p::pre,f,post,e=>by
  simp only [Rg,AS,AU] at h;simp only [cN,FL] at e
  have:=hU fs _ h.2 pre f post e.2
  grind
def gO {Z:aC->Prop}(hZ:∀b,b<w.heap.size->Z b):∀(m:aC) (t:aS) (ty:Ty),Jn P m t=U->tyOf P m t=ah ty->∀cs,Good enc P w base spare held t cs->∃d:ty.D,RL β Z w (encL ty d) cs/\Gj ty d
 |0,t,_,h,_,_,_=>Ab
 | m + 1,t,ty,h,hty,cs,⟨n,x,hx,hwt⟩=>by
  simp only [Jn] at h;simp only [tyOf] at hty;split at h
  ·rename_i k hu
   obtain ⟨z,rfl,_,hw⟩:=DataW.trod_int hu hx;simp only [hu,Ac] at hty;subst hty;exact ⟨z,s8,hw⟩
  ·rename_i hu
   obtain ⟨z,rfl,_⟩:=DataW.trod_bool hu hx;simp only [hu,Ac] at hty;subst hty;exact ⟨z,s8,ak⟩
  ·rename_i hu
   obtain ⟨z,rfl,_,hs⟩:=DataW.trod_string hu hx;simp only [hu,Ac] at hty;subst hty;exact ⟨z,s8,hs⟩
  ·rename_i fs hu
   simp only [AS,AU,B7] at h;obtain ⟨⟨h1,h2⟩,h3⟩:=h;obtain ⟨xs,n',_,rfl,hl,hxl,hf⟩:=DataW.trod_struct hu hx;simp only [DataW.weights,hu] at hwt;simp only [hu] at hty;refine wj (Gd:=Good enc P w base spare held) (sz:=P.cellsOf) (fs.toList.map (·.type)) ty cs hty (λt' ht ty' c hty' hc=>?_) di λpre t' post e=>?_
   ·obtain ⟨f,hf1,rfl⟩:=Dp.1 ht
    exact gO hZ m f.type ty' (h3 f hf1) hty' c hc
   ·obtain ⟨fpre,frest,e1,e2,e3⟩:=List.map_eq_append_iff.1 e
    obtain ⟨f,fpost,rfl,e4,e5⟩:=List.map_eq_cons_iff.1 e3
    have ho:=hU fs.toList 0 h1 fpre f fpost e1
    have hi:fs[M fpre]? =ah f:=by
     exact aJP
    have hg:=hf _ f hi
    have hlt:M fpre<fs.size:=(Fp.1 hi).1
    rw [ho,Ck] at hg;refine ⟨n',xs[M fpre]' A0,?_,λk hk=>?_⟩
    ·rw [<-e2,<-e4,hg,Cs]
    ·rw [<-e4] at hk
     exact hwt k<|ae3 hk (i:=M fpre) (by rw [e1];simp) rj
  ·rename_i n0 e hu
   simp only [AS,AU] at h;obtain ⟨h2,h3⟩:=h;obtain ⟨xs,n',_,rfl,hl,hxl,hf⟩:=DataW.trod_array hu hx;simp only [DataW.weights,hu] at hwt;simp only [hu] at hty;refine wj (Gd:=Good enc P w base spare held) (sz:=P.cellsOf) (aq n0 e) ty cs hty (λt' ht ty' c hty' hc=>?_) di λpre t' post e'=>?_
   ·rw [(QP.1 ht).2] at hc hty'
    exact gO hZ m e ty' h3 hty' c hc
   ·obtain ⟨c1,c2,c3⟩:=aHS.1 e'
    have ht':t'=e:=by
     have:t'∈aq n0 e:=by rw [e'];simp
     exact (QP.1 this).2
    have hlen:M pre<n0:=by
     have:=Am M e'
     simp at this;omega
    have hg:=hf (M pre) hlen
    refine ⟨n',xs[M pre]' A0,?_,λk hk=>?_⟩
    ·have hs:(pre.map P.cellsOf).sum=M pre*P.cellsOf e:=by rw [c2];simp
     rw [hs,ht',hg,Cs]
    ·rw [ht'] at hk
     exact hwt k<|wN hk (i:=M pre) rj
  ·rename_i e hu
   simp only [AS,AU] at h;obtain ⟨⟨⟨h1,h2⟩,h4⟩,h3⟩:=h;simp only [hu,Option.map_eq_some_iff] at hty;obtain ⟨te,hte,rfl⟩:=hty;rw [hte] at h4;simp only [Option.any_some,AS,AU,Cb] at h4;obtain ⟨h4,h5⟩:=h4;rcases DataW.trod_slice hu hx with ⟨rfl,_⟩ |⟨a,len,cap,elems,rest,n',_,rfl,rfl,hb,hlc,hm,hlen,hel,_,_⟩
   ·refine ⟨([]:List te.D),?_,⟨K6 _,AH⟩,λd hd=>OS⟩
    simp only [encL,RL,R]
    grind
   ·simp only [DataW.weights,hu] at hwt
    have hroom:=hwt _<|List.mem_cons_self ..
    have each:∀i,∃d:te.D,i<len->∃c,w.cells? base (a.add<|i*P.cellsOf e) (P.cellsOf e)=ah c/\RL β Z w (encL te d) c/\Gj te d:=λi=>by
     by_cases hi:i<len
     ·have he:=hel i hi
      rw [Cs A0] at he;obtain ⟨c,hc,ht⟩:=Option.bind_eq_some_iff.1 he
      obtain ⟨d,l1,l2⟩:=gO hZ m e te h3 hte c ⟨n',_,ht,λk hk=>hwt k (by
       simp only [Ak,BN];exact .inr<|.inl<|wN hk (i:=i) rj)⟩
      exact ⟨d,λ_=>⟨c,hc,l1,l2⟩⟩
     ·exact ⟨te.dflt,λh=>absurd h hi⟩
    have ⟨g,hg⟩:=qD each
    have hlg:M ((au len).map g)=len:=AH
    refine ⟨(au len).map g,?_,⟨by rw [hlg];omega,by rw [hlg];exact E5 (Nat.mul_le_mul CN h5) hroom⟩,λd hd=>?_⟩
    ·simp only [encL,RL,R]
     refine ⟨_,[],rfl,⟨ah a,cap,by rw [hlg],by rw [hlg];omega,λhn=>?_⟩,rfl⟩
     rw [hlg] at hn;obtain ⟨c0,hc0,hr0,_⟩:=hg 0 hn;obtain ⟨_,hcl0,hat0⟩:=World.cells?_some hc0
     have hcell0:∃z,w.cell? ((a.add<|0*P.cellsOf e).add 0)=ah z:=by
      grind
     obtain ⟨z0,hz0⟩:=hcell0;obtain ⟨b,off,spot⟩:=a
     have hsp:spot=none:=by
      cases spot with
      |none=>rfl
      |some q=>
       unfold World.cell? at hz0;split at hz0
       ·simp [Addr.add] at hz0
       ·cases hz0
     subst hsp
     have hbl:b<w.heap.size:=by
      simp only [addr_add] at hz0;unfold World.cell? at hz0;split at hz0
      ·rename_i hh;exact (Fp.1 hh).1
      ·cases hz0
     refine ⟨b,off,rfl,hZ b hbl,λi d hd=>?_⟩
     have hi:i<len:=by
      have:=(Ce.1 hd).1
      rwa [hlg] at this
     have hdd:d=g i:=by
      rw [CZ,q9 hi] at hd
      simpa using hd.symm
     subst hdd;obtain ⟨c,hc,hr,_⟩:=hg i hi;obtain ⟨_,hcl,hat⟩:=World.cells?_some hc;refine lf te (g i) c b _ hr λj v hv=>?_
     have hj:j<P.cellsOf e:=by
      have:=(Ce.1 hv).1
      omega
     have:=hat j hj
     rw [hv] at this;rw [h4]
     simpa [addr_add,FM] using this
    ·obtain ⟨i,hi,rfl⟩:=Dp.1 hd
     obtain ⟨_,_,_,hw⟩:=hg i<|by simpa using hi
     exact hw
  ·cases h
def shp (P:aR) (m:aC) (t:aS) (l:aD):Prop:=∃(ty:Ty) (d:ty.D),tyOf P m t=ah ty/\l=encL ty d/\Gj ty d
def aCa {P:aR}{m:aC}{t:aS}{l:aD}{ty:Ty}(ht:tyOf P m t=ah ty) (h:shp P m t l):∃d:ty.D,l=encL ty d/\Gj ty d:=by
 obtain ⟨ty',d,h1,h2,h3⟩:=h
 grind
def afV {Z:aC->Prop}(hZ:∀b,b<w.heap.size->Z b) (m:aC) (t:aS) (hs:Jn P m t=U) (ht:(tyOf P m t).isSome=U) (cs:aT) (hg:Good enc P w base spare held t cs):∃l,RL β Z w l cs/\okL 0 l/\shp P m t l:=by
 obtain ⟨ty,hty⟩:=VH.1 ht;obtain ⟨d,h1,h2⟩:=gO (β:=β) hZ m t ty hs hty cs hg;exact ⟨encL ty d,h1,encL_ok 0 ty d,ty,d,hty,rfl,h2⟩
end Go.Sx
namespace Go.Sx
open Go Go.RowKit Go.Proofs.YtjjcgjkagokchaaGreatDoor Go.ChangeShapes Go.WideShapes
variable {H : Type} {enc : TypeId × Value -> H} {P : Program} {β : Nat -> Loc} {Z : Nat -> Prop}
def ade (hl:laidOutB P=U) {W W':aO}(hb:Below W.heap.size W W'):∀(ts:bu) (vs:aT) (ds:List<|DataW H) (ps:aL9),ts.all (λt=>P.readableRec t&&an (t<P.types.size))=U->
  DataW.TrodAll enc P W 0 (λ_=>U) U ts vs ds ps->(∀x∈ps,x.block<W.heap.size)->DataW.TrodAll enc P W' 0 (λb=>an<|b<W.heap.size) U ts vs ds ps
 | [],vs,ds,ps,_,h,_=>by
  cases vs<;>cases ds<;>first|exact h|exact h.elim
 | t::ts,vs,ds,ps,hr,h,hlt=>by
  cases vs with
  |nil=>cases ds<;>exact h.elim
  | cons v vs=>
   cases ds with
   |nil=>exact h.elim
   |cons d ds=>
    obtain ⟨p,q,h1,h2,rfl⟩:=h;simp only [GD,AS,AU] at hr;refine ⟨p,q,Below.trod hl hr.1.1 hr.1.2 h1 hb λx hx=>hlt x A8,?_,rfl⟩
    exact ade hl hb ts vs ds q A8 h2 λx hx=>hlt x A8
def afz {fn:aL8}{s:ChangeSpec}{tb:aS}{apart:aL}{W W':aO}{args:aW}{ds gs:List<|DataW H}{before:aL9}
  (hl:laidOutB P=U) (hr:fn.params.toList.all (λt=>P.readableRec t&&an (t<P.types.size))=U) (hres:fn.resultTypes=#[tb]) (hb:P.underlying tb=ah .bool) (hvars:s.vars=[])
  (hfn:(s.fn H ds).results=[.lit<|.bool U]/\(s.fn H ds).args=ds/\(s.fn H ds).vars=[])
  (hW:DataW.Whole enc P fn.params.toList s.vars apart W args.toList ds gs before) (hB:Below W.heap.size W W'):s.post enc P fn apart U X X W args (.bool U) W':=by
 have hW':=hW
 obtain ⟨p,q,hA,hV,rfl,hfz,hnd⟩:=hW
 have hg:gs=[]/\q=[]:=by
  rw [hvars] at hV;cases gs with
  |nil=>exact ⟨rfl,hV⟩
  |cons g r=>exact hV.elim
 obtain ⟨rfl,rfl⟩:=hg
 have hlt:∀x∈p,x.block<W.heap.size:=λx hx=>hW'.lt x A8
 refine ⟨ds,[],p++[],[],p,[],hW',?_,?_,?_,hB.frame _,λh=>Ab⟩
 ·rw [HX,hfn.1,hres]
  exact trodAll_mk1<|shut_bool hb U
 ·rw [HX,hfn.2.1]
  exact ade hl hB _ _ _ _ hr hA hlt
 ·rw [HX,hfn.2.2,hvars]
  rfl
def pLV (P:aR) (t:aS) (l:aD):LV:=
 match P.underlying t with
 |some (.struct _)=>mkAgg l
 |some (.array _ _)=> .junk
 |_=>match l with
  | [x]=>x
  |_=> .junk
def cell_of {w:aO}{b0:aC}{r:Reach}{m:aC}{t:aS}(hs:Jn P m t=U) {v:aV}(hv:Value.okWide P w r b0 t v) (h1:∀fs,P.underlying t=ah (.struct fs)->False) (h2:∀n e,P.underlying t=ah (.array n e)->False):v.cells.toList=[v]:=by
 cases m with
 |zero=>cases hs
 | succ m=>
  simp only [Jn] at hs;split at hs
  ·rename_i k hu
   obtain ⟨n,rfl⟩:=okWide_int hu hv;rfl
  ·rename_i hu
   obtain ⟨n,rfl⟩:=okWide_bool hu hv;rfl
  ·rename_i hu
   obtain ⟨n,rfl⟩:=okWide_string hu hv;rfl
  ·rename_i fs hu
   grind
  ·rename_i n e hu
   grind
  ·rename_i e hu
   obtain ⟨a,l,c,rfl⟩:=okWide_slice hu hv;rfl
  ·cases hs
def aeZ {w:aO}{base b0:aC}{spare:aC->aL}{held:aL}{r:Reach}(hZ:∀b,b<w.heap.size->Z b) {m:aC}{t:aS}(hs:Jn P m t=U) (ht:(tyOf P m t).isSome=U) {v:aV}{d:DataW H}{p:aL9}(hv:Value.okWide P w r b0 t v) (h:DataW.Trod enc P w base spare held t v d p) (hwt:∀k,k∈d.weights P t->k<=reachBytes):
  ∃l,okV 0 (pLV P t l)/\R β Z w (pLV P t l) v/\shp P m t l:=by
 obtain ⟨fuel,hf⟩:=h;obtain ⟨l,h1,h2,h3⟩:=afV (β:=β) hZ m t hs ht v.cells.toList ⟨fuel,_,hf,hwt⟩;refine ⟨l,?_,?_,h3⟩
 ·unfold pLV
  split
  ·exact mkAgg_ok h2
  ·trivial
  ·split
   ·exact h2.1
   ·trivial
 ·unfold pLV
  split
  ·rename_i fs hu
   obtain ⟨cs,rfl,_⟩:=okWide_struct hu hv;exact mkAgg_R h1
  ·exact Cl
  ·split
   ·rename_i x
    obtain ⟨y,zs,e1,e2,rfl⟩:=h1
    have hc:=cell_of hs hv A8 A8
    grind
   ·exact Cl
def Nr (P:aR):bu->aMq->List LV
 |t::ts,l::ls=>pLV P t l::Nr P ts ls
 |_,_=>[]
def Wy (P:aR) (m:aC):bu->aMq->Prop
 | [],ls=>ls=[]
 |t::ts,ls=>∃l r,ls=l::r/\shp P m t l/\Wy P m ts r
def adq {w:aO}{base b0:aC}{spare:aC->aL}{held:aL}{r:Reach}(hZ:∀b,b<w.heap.size->Z b) {m:aC}:∀(ts:bu) (vs:aT) (ds:List<|DataW H) (ps:aL9),ts.all (λt=>Jn P m t&&(tyOf P m t).isSome)=U->
  (∀(j:aC) t v,ts[j]? =ah t->vs[j]? =ah v->Value.okWide P w r b0 t v)->DataW.TrodAll enc P w base spare held ts vs ds ps->(∀k,k∈DataW.weightsEach P ts ds->k<=reachBytes)->∃ls,okL 0 (Nr P ts ls)/\RL β Z w (Nr P ts ls) vs/\Wy P m ts ls
 | [],vs,ds,ps,_,_,h,_=>by
  cases vs with
  |nil=>exact ⟨[],ak,by simp [Nr,RL],rfl⟩
  |cons _ _=>cases ds<;>exact h.elim
 | t::ts,vs,ds,ps,hs,hv,h,hwt=>by
  cases vs with
  |nil=>cases ds<;>exact h.elim
  | cons v vs=>
   cases ds with
   |nil=>exact h.elim
   |cons d ds=>
    obtain ⟨p,q,h1,h2,rfl⟩:=h;simp only [GD,AS] at hs;simp only [DataW.weightsEach,BN] at hwt;obtain ⟨l,a1,a2,a3⟩:=aeZ (β:=β) hZ hs.1.1 hs.1.2 (hv 0 t v rfl rfl) h1 λk hk=>hwt k<|.inl hk
    obtain ⟨ls,b1,b2,b3⟩:=adq hZ ts vs ds q hs.2 (λj t' v' e1 e2=>hv (j+1) t' v' A8 A8) h2 λk hk=>hwt k<|.inr hk
    exact ⟨l::ls,⟨a1,b1⟩,⟨v,vs,rfl,a2,b2⟩,l,ls,rfl,a3,b3⟩
def aeL {G:bb}{f:bg}{fn:aL8}{S:aD->T LV}{s:ChangeSpec}{tb:aS}{apart:aL}{m:aC}{W:aO}{base:aC}{args:aW}{ds gs:List<|DataW H}{before:aL9}
  (hv:Valid P G f S) (hl:laidOutB P=U) (hr:fn.params.toList.all (λt=>P.readableRec t&&an (t<P.types.size))=U) (hres:fn.resultTypes=#[tb]) (hb:P.underlying tb=ah .bool) (hvars:s.vars=[])
  (hfn:(s.fn H ds).results=[.lit<|.bool U]/\(s.fn H ds).args=ds/\(s.fn H ds).vars=[]) (hs:fn.params.toList.all (λt=>Jn P m t&&(tyOf P m t).isSome)=U)
  (hS:∀ls,Wy P m fn.params.toList ls->(S<|Nr P fn.params.toList ls).all (λx=>x=.v (.bool U)))
  (hg:GlOk G (λb=>b<W.heap.size) W)
  (hval:∀(j:aC) t v,fn.params[j]? =ah t->args[j]? =ah v->Value.okWide P W .any base t v)
  (hW:DataW.Whole enc P fn.params.toList s.vars apart W args.toList ds gs before) {us:bu} (hz:(DataW.weightsEach P (fn.params.toList++us)<|ds++gs).all (·<=reachBytes)=U):
  Calls P f args W λe W'=>∃v,e=.returned v/\s.post enc P fn apart U X X W args v W':=by
 have hA:∃p,DataW.TrodAll enc P W 0 (λ_=>U) U fn.params.toList args.toList ds p:=by
  obtain ⟨p,q,hA,_⟩:=hW
  grind
 obtain ⟨p,hA⟩:=hA;obtain ⟨ls,h1,h2,h3⟩:=adq (β:=β0) (Z:=λb=>b<W.heap.size) (λ_ h=>h) fn.params.toList args.toList ds p hs (λj t v e1 e2=>hval j t v A8 A8) hA λk hk=>C9<|B7.1 hz k<|ae4 (adp hA) k hk
 refine (hv _ args W _ _ (λ_ h=>h) hg h1 h2<|hS ls h3).mono λe W' ⟨hB,v,he,_,hR⟩=>⟨v,he,?_⟩
 rw [hR];exact afz hl hr hres hb hvars hfn hW hB
end Go.Sx
namespace Go.Sx
open Go Go.RowKit Go.Proofs.YtjjcgjkagokchaaGreatDoor
variable {H : Type} {enc : TypeId × Value -> H} {P : Program} {w : World} {base : Nat} {spare : Nat -> Bool} {held : Bool}
def MC {H:Type}:aC->DataW H->List Value
 |0,_=>[]
 |_+1,.lit (.int k n)=>[ag k n]
 |_+1,.lit (.bool b)=>[.bool b]
 |m+1,.agg l=>l.flatMap (MC m)
 |_,_=>[]
def Rf (P:aR):aC->aS->Bool
 |0,_=>X
 |m+1,t=>match P.underlying t with
  |some (.int _) |some .bool=>U
  |some (.struct fs)=>Rg P 0 fs.toList&&an (P.cellsOf t=((fs.toList.map (·.type)).map P.cellsOf).sum)&&fs.toList.all (λf=>Rf P m f.type)
  |some (.array n e)=>an (P.cellsOf t=((aq n e).map P.cellsOf).sum)&&Rf P m e
  |_=>X
def wX {sz:aS->aC}{g:DataW H->aT}{Tr:aS->aT->DataW H->Prop}:∀(ts:bu) (cs:aT) (ds:List<|DataW H),
  (∀t∈ts,∀c d,Tr t c d->g d=c)->M ds=M ts->M cs=(ts.map sz).sum->(∀pre t post,ts=pre++t::post->∃d,ds[M pre]? =ah d/\Tr t ((cs.drop (pre.map sz).sum).take<|sz t) d)->ds.flatMap g=cs
 | [],cs,ds,_,h0,hl,_=>by
  grind
 |t::ts,cs,[],_,h0,_,_=>A8
 | t::ts,cs,d::ds,ih,h0,hl,hg=>by
  obtain ⟨d',e1,e2⟩:=hg [] t ts rfl
  simp at e1
  subst e1
  have r:=wX (sz:=sz) (g:=g) (Tr:=Tr) ts (cs.drop<|sz t) ds (λt' ht=>ih t' A8) A8 A8 (λpre t' post e=>by
   obtain ⟨q,q1,q2⟩:=hg (t::pre) t' post A8;refine ⟨q,A8,?_⟩
   simpa using q2)
  rw [cJ,r,ih t AH _ _ e2]
  simp
def iU:∀(m:aC) (t:aS),Rf P m t=U->∀(n:aC) (cs:aT) (x:DataW H×List MemPlace),DataW.trod enc P w base spare held n t cs=ah x->MC m x.1=cs
 |0,t,h,_,_,_,_=>Ab
 | m +1,t,h,n,cs,x,hx=>by
  simp only [Rf] at h;split at h
  ·rename_i k hu
   obtain ⟨z,rfl,rfl,hw⟩:=DataW.trod_int hu hx;rfl
  ·rename_i hu
   obtain ⟨z,rfl,rfl⟩:=DataW.trod_bool hu hx;rfl
  ·rename_i fs hu
   simp only [AS,AU,B7] at h;obtain ⟨⟨h1,h2⟩,h3⟩:=h;obtain ⟨xs,n',_,rfl,hl,hxl,hf⟩:=DataW.trod_struct hu hx;simp only [MC];refine wX (sz:=P.cellsOf) (Tr:=λt c d=>∃y,DataW.trod enc P w base spare held n' t c=ah y/\y.1=d) (fs.toList.map (·.type)) cs _ (λt' ht c d hc=>?_) (by simp [hxl]) di λpre t' post e=>?_
   ·obtain ⟨f,hf1,rfl⟩:=Dp.1 ht
    obtain ⟨y,hy,rfl⟩:=hc;exact iU m f.type (h3 f hf1) n' c y hy
   ·obtain ⟨fpre,frest,e1,e2,e3⟩:=List.map_eq_append_iff.1 e
    obtain ⟨f,fpost,rfl,e4,e5⟩:=List.map_eq_cons_iff.1 e3
    have ho:=hU fs.toList 0 h1 fpre f fpost e1
    have hi:fs[M fpre]? =ah f:=by
     exact aJP
    have hg:=hf _ f hi
    have hlt:M fpre<fs.size:=(Fp.1 hi).1
    refine ⟨(xs[M fpre]' A0).1,?_,xs[M fpre]' A0,?_,rfl⟩
    ·grind
    ·grind
  ·rename_i n0 e hu
   simp only [AS,AU] at h;obtain ⟨h2,h3⟩:=h;obtain ⟨xs,n',_,rfl,hl,hxl,hf⟩:=DataW.trod_array hu hx;simp only [MC];refine wX (sz:=P.cellsOf) (Tr:=λt c d=>∃y,DataW.trod enc P w base spare held n' t c=ah y/\y.1=d) (aq n0 e) cs _ (λt' ht c d hc=>?_) (by simp [hxl]) di λpre t' post e'=>?_
   ·rw [(QP.1 ht).2] at hc
    obtain ⟨y,hy,rfl⟩:=hc;exact iU m e h3 n' c y hy
   ·obtain ⟨c1,c2,c3⟩:=aHS.1 e'
    have ht':t'=e:=by
     grind
    have hlen:M pre<n0:=by
     have:=Am M e'
     simp at this;omega
    have hs:(pre.map P.cellsOf).sum=M pre*P.cellsOf e:=by rw [c2];simp
    refine ⟨(xs[M pre]' A0).1,?_,xs[M pre]' A0,?_,rfl⟩
    ·grind
    ·grind
  ·cases h
def azu {W:aO}{name:String}{d:DataW Unit}{rest:aMi}{g:aC}{t:aS}{m:aC}(hg:P.globalNamed name=ah g) (hty:(P.globals[g]?).map (·.type)=ah t) (hp:Rf P m t=U)
  (h:laidMet P ((name,d)::rest) W):(∀i,W.cell? ⟨g,i,aj⟩=(MC m d)[i]?)/\((MC m d)≠ []->g<W.heap.size):=by
 obtain ⟨ps,⟨g',t',cs,fuel,p,q,hg',ht',hvar,hd,_,_⟩,_⟩:=h;obtain rfl:=DE<|hg.symm.trans hg';obtain rfl:=DE<|hty.symm.trans ht'
 have hf:=iU m t hp fuel _ _ hd
 have hcell:∀i,W.cell? ⟨g,i,aj⟩=(MC m d)[i]? :=λi=>by
  rw [World.var?_cell hg hvar i,hf];simp
 refine ⟨hcell,λhne=>?_⟩
 have h0:=hcell 0
 cases hh:(MC m d)[0]? with
 |none=>exact absurd (List.getElem?_eq_none_iff.1 hh) A8
 |some z=>
  rw [hh] at h0;unfold World.cell? at h0;split at h0
  ·grind
  ·cases h0
end Go.Sx
namespace Go.Proofs.YtjjcgjkagokchaaGreatDoor
set_option maxRecDepth 100000
set_option maxHeartbeats 4000000
open Go.Proofs.Tryz
open Go.Sx Go.ChangeShapes Go.WideShapes Go.ChangeAt Go.RowKit
def own:ownKnob prog.godebug=none:=AM
def laidOut:laidOutB prog=true:=AM
def wA {P:aR}{x:String×DataW Unit}{r:aMi}{W:aO}(h:laidMet P (x::r) W):laidMet P r W:=by
 obtain ⟨n,d⟩:=x;obtain ⟨ps,⟨g,t,cs,fuel,p,q,h1,h2,h3,h4,h5,rfl⟩,hn,hm⟩:=h;exact ⟨q,h5,(qW.1 hn).2.1,λb off hb=>hm b off<|List.mem_append_right _ hb⟩
def mA {W:aO}{name:String}{d:DataW Unit}{rest:aMi}{g:aC}{t:aS}{n:aC}{f:aC->aV}(hg:prog.globalNamed name=ah g) (hty:(prog.globals[g]?).map (·.type)=ah t) (hp:Rf prog 4 t=U) (h:laidMet prog ((name,d)::rest) W) (key:MC 4 d=(au<|n+1).map f):g<W.heap.size/\∀j,j<n+1->W.cell? ⟨g,j,aj⟩=ah (f j):=by
 obtain ⟨h1,h2⟩:=azu (m:=4) hg hty hp h;refine ⟨h2 (by rw [key];intro h0;exact absurd (Am M h0) AH),λj hj=>?_⟩
 rw [h1 j,key,CZ,q9 hj];rfl
def afv {W:aO}(h:laidMetH prog [("chargepark/charger.afterwards",Rows.laid_chargepark_charger_afterwards),("chargepark/ramp.happens",Rows.laid_chargepark_ramp_happens),("chargepark/vault.widths",Rows.laid_chargepark_vault_widths)] W):GlOk AO (λb=>b<W.heap.size) W:=by
 have h:laidMet prog [("chargepark/charger.afterwards",Rows.laid_chargepark_charger_afterwards),("chargepark/ramp.happens",Rows.laid_chargepark_ramp_happens),("chargepark/vault.widths",Rows.laid_chargepark_vault_widths)] W:=h
 have a1:=mA (t:=232) (n:=59) (f:=λj=> ag J<|Rl j) (g:=0) AM AM AM h AM
 have a2:=mA (t:=272) (n:=7) (f:=λj=> ag J<|Q7 j) (g:=2) AM AM AM (wA h) AM
 have a3:=mA (t:=241) (n:=4) (f:=λj=> ag J<|vC j) (g:=1) AM AM AM (wA<|wA h) AM
 intro g n f hg;unfold AO at hg;split at hg
 ·cases hg;exact a2
 ·cases hg;exact a1
 ·cases hg;exact a3
 ·cases hg
def aeE {H:Type}{enc:TypeId×Value->H}{P:aR}{w:aO}{base:aC}{spare:aC->aL}{held:aL}:∀ {ts:bu}{vs:aT}{ds:List<|DataW H}{ps:aL9},DataW.TrodAll enc P w base spare held ts vs ds ps->M ds=M ts
 | [],[],[],_,_=>rfl
 | [],_::_,_,_,h=>Ab
 | [],[],_::_,_,h=>Ab
 |_::_,[],_,_,h=>Ab
 |_::_,_::_,[],_,h=>Ab
 |_::_,_::_,_::_,_,h=>by
  obtain ⟨_,_,_,h2,_⟩:=h
  simp [aeE h2]
def put (vs:aW):Obj->Obj
 | .cells _ t frozen=> .cells vs t frozen
 |o=>o
def laidWorld (os:Os):aO:=
 {World.holding prog os ⟨#[],#[],[]⟩ with heap:=(((World.holding prog os ⟨#[],#[],[]⟩).heap.modify 2<|put ((au 8).map λj=> ag J<|Q7 j).toArray).modify 0<|put ((au 60).map λj=> ag J<|Rl j).toArray).modify 1<|put ((au 5).map λj=> ag J<|vC j).toArray}
end Go.Proofs.YtjjcgjkagokchaaGreatDoor
end
