/- ParkMeters returns true for all arguments: in each tick each meter counts what the car at its charger got, and nothing is drawn without a car. Conditions: none; the tables charger.afterwards, ramp.happens and vault.widths hold what their texts say. -/
import Derived.Test.YtgmhhjldohjpmaaGreatDoorQm5
set_option linter.defProp false
set_option linter.unusedVariables false
set_option linter.unusedSimpArgs false
noncomputable section
namespace Go.Proofs.YtgmhhjldohjpmaaGreatDoor
set_option maxRecDepth 100000
set_option maxHeartbeats 4000000
open Go.Proofs.Tryz
open Go.Sx
def aJc:QV:=bQ 78 false [] [(32,56)] 32 [(4,0,0,false)] [(0,1,20,1000000000,0)] [([32,32,32,32,32,32,32,32,32,32,32,32,32,32,32,32,32,6,6,6,6],77,2978500)] [(1,2978500,false)] [(true,0,500,1)] [] [(1,0,7,6,12),(2,0,8,7,12),(3,0,9,8,12),(4,0,10,9,12),(5,0,11,10,12),(6,0,12,11,12),(7,0,13,12,12),(8,0,14,13,12),(9,0,15,14,12),(10,0,16,15,12),(11,0,17,16,12),(12,0,18,17,12),(13,0,19,18,12),(14,0,20,19,12),(15,0,21,20,12),(16,0,22,21,12),(17,0,23,22,12),(18,0,24,23,12),(19,0,25,24,12),(20,0,26,25,12),(21,0,27,26,12),(22,0,28,27,12),(23,0,29,28,12),(24,0,30,29,12),(25,0,31,30,12),(26,0,32,31,12),(27,0,32,37,12),(28,0,32,43,12),(29,0,32,49,12),(30,0,32,55,12),(31,0,32,61,12)]
def atr:E7 8 (aJd,20)=some (aJc,6):=Bt
def alZ:QV:=bQ 86 false [] [(32,56)] 32 [(4,0,0,false)] [(0,1,20,1000000000,0)] [([32,32,32,32,32,32,32,32,32,6,6,6,6,6,6,6,6,6,6,6,6],85,3088900)] [(1,3088900,false)] [(true,0,500,1)] [] [(1,0,7,6,12),(2,0,8,7,12),(3,0,9,8,12),(4,0,10,9,12),(5,0,11,10,12),(6,0,12,11,12),(7,0,13,12,12),(8,0,14,13,12),(9,0,15,14,12),(10,0,16,15,12),(11,0,17,16,12),(12,0,18,17,12),(13,0,19,18,12),(14,0,20,19,12),(15,0,21,20,12),(16,0,22,21,12),(17,0,23,22,12),(18,0,24,23,12),(19,0,25,24,12),(20,0,26,25,12),(21,0,27,26,12),(22,0,28,27,12),(23,0,29,28,12),(24,0,30,29,12),(25,0,31,30,12),(26,0,32,31,12),(27,0,32,37,12),(28,0,32,43,12),(29,0,32,49,12),(30,0,32,55,12),(31,0,32,61,12)]
def atq:E7 8 (aJc,6)=some (alZ,6):=Bt
def aQ1:JI ET 0 0 ([]:List (List Int)) 1019 (List.replicate 1024 255) where
 eq:=rfl
 la:=by rw [OR];rfl
 lo:=CR
 bo:=cU _
 hw:=.inl rfl
 hg:=Aa
 old:=λh=>absurd h Aa
 bd:=λd hd=>VX
def ayl:RP (newP (bC 32) bO [] bG [] [0]) hqa:=by
 have e2:newP (bC 32) bO [] bG [] [0]={hqa.p with se:=512,fl:=ET}:=by
  kernel_rfl
 exact ⟨rfl,rfl,rfl,1019,_,aQ1,rfl⟩
def Ke:EV:=⟨2,0,0,bA,bD⟩
def evF:EV:=⟨5,0,0,(0,0,0,0,0),(false,0,0,0)⟩
def aq5 {p:PK}{q:QV}(h:RP p q) (hv:E4 q.p=true) (he:q.p.Gn 0 bA bD=0):BR p Ke=0/\CW p Ke=[]/\RP (B4 p Ke) {q with p:=q.p.Ot 0 bA bD}:=by
 have e1:BR p Ke=0:=by
  have:q.p.Gn 0 bA bD=p.Gn 0 bA bD:=by rw [h.1];rfl
  unfold BR;rw [<-pw h,hv,AD Aa,AD Aa,AE (show Ke.ek=2 from rfl)];exact this.symm.trans he
 refine ⟨e1,aNh,?_⟩
 have e2:B4 p Ke=p.Ot 0 bA bD:=xe
 rw [e2];exact ⟨aNb,h.2⟩
def aqE {p:PK}{q:QV}(h:RP p q) (hv:E4 q.p=true) (he:q.p.up=true):BR p evF=0/\RP (B4 p evF) {q with p:=q.p.Qj}:=by
 have e1:BR p evF=0:=by
  have:q.p.up=p.up:=by rw [h.1]
  unfold BR;rw [<-pw h,hv,AD Aa,AD Aa,AD Aa,AD Aa,AD Aa,AE (show evF.ek=5 from rfl)];unfold PK.MM;rw [<-this,he];rfl
 refine ⟨e1,?_⟩
 have e2:B4 p evF=p.Qj:=xe
 rw [e2];exact ⟨aNb,h.2⟩
def akA:∃p1 p3 p4 p6,D2 1 (newP (bC 32) bO [] bG [] [0]) 0=(p1,0,true)/\p1.tk=1/\BR p1 Ke=0/\CW p1 Ke=[]/\D2 1 (B4 p1 Ke) 0=(p3,6,true)/\
  D2 60 p3 0=(p4,20,true)/\BR p4 evF=0/\D2 24 (B4 p4 evF) 0=(p6,6,true):=by
 obtain ⟨p1,a1,a2⟩:=oF ayl aib;obtain ⟨a3,a4,a5⟩:=aq5 a2 Bt AZ;obtain ⟨p3,b1,b2⟩:=oF a5 aia
 have t60:=M8 (M8 (M8 (M8 (M8 (M8 (M8 (M8 (M8 auu aut) aus) aur) auq) aup) auo) atZ) atY) atX
 obtain ⟨p4,c1,c2⟩:=oF b2 t60;obtain ⟨c3,c4⟩:=aqE c2 Bt Bt
 have t24:=M8 (M8 att atr) atq
 obtain ⟨p6,d1,d2⟩:=oF c4 t24;exact ⟨p1,p3,p4,p6,a1,by have:=a2.1;have h:hqb.p.tk=1:=rfl;rw [this] at h;exact h,a3,a4,b1,c1,c3,d1⟩
def zD:E5 (bC 32) bO [] bG [] [0]=0/\E5 (bC 5) bO [] bG [] [0]=13:=⟨Bt,Bt⟩
def T4 {α:Type}{l:List α}{d x:α}{i j:Nat}:(l.set i x).getD j d=if i=j/\i<l.length then x else l.getD j d:=by
 by_cases e:i=j
 ·subst e
  by_cases h:i<l.length
  ·grind
  ·grind
 ·grind
def ayV {gs:List Ch}{st:List St}{i j k n m:Int}(hi:0<=i) (hj:0<=j) (hij:i≠j):BP (Ce gs st i k n m) j=BP st j:=by
 unfold Ce;split
 ·unfold BP;rw [T4,AD A0]
 ·rfl
structure D1 where
 c:Ca
 m:Mi
 e:Me
 (ph al:Int)
namespace D1
variable (d : D1)
def ok:Bool:=!(d.c.2.2.1==0)&&(J8 d.c d.m d.ph d.al==0)
def a:Int:=FF d.c d.m d.ph d.al
def o:Int:=cnt (Ea d.c d.m d.ph d.al)
end D1
def d1 (gs:List Ch) (ca:List Ca) (s:DW) (j:Int):D1:=⟨BS ca j,BC s.mi j,Ac s.me j,(AH gs j).2.2.1,Bi (AH gs j) (BP s.st j)⟩
def aRF {gs:List Ch}{ca:List Ca}{s:DW}{i:Int}(h:(d1 gs ca s i).ok=false):Fc gs ca s i=s:=by
 unfold D1.ok d1 at h;unfold Fc
 by_cases h1:(BS ca i).2.2.1=0
 ·grind
 ·grind
def aGL {gs:List Ch}{ca:List Ca}{s:DW}{i:Int}(h:(d1 gs ca s i).ok=true):Fc gs ca s i=
  ⟨if (d1 gs ca s i).a>(d1 gs ca s i).al then Ce gs s.st i 6 2 0 else s.st,s.mi.set i.toNat (IQ (d1 gs ca s i).c (d1 gs ca s i).m (d1 gs ca s i).ph (d1 gs ca s i).al),
   if EY (d1 gs ca s i).e (d1 gs ca s i).a (d1 gs ca s i).o=0 then s.me.set i.toNat (Fk (d1 gs ca s i).e (d1 gs ca s i).a (d1 gs ca s i).o) else s.me,s.dw.set i.toNat (d1 gs ca s i).a⟩:=by
 unfold D1.ok d1 at h;simp only [AU,D4,Bq,Cj] at h;unfold Fc;rw [AD h.1,AE h.2];rfl
def aRG {gs:List Ch}{ca:List Ca}{s:DW}{i j:Nat}(h:i≠j):
  BP (Fc gs ca s i).st j=BP s.st j/\BC (Fc gs ca s i).mi j=BC s.mi j/\Ac (Fc gs ca s i).me j=Ac s.me j/\gi (Fc gs ca s i).dw j=gi s.dw j:=by
 cases hk:(d1 gs ca s i).ok
 ·rw [aRF hk];exact ⟨rfl,rfl,rfl,rfl⟩
 ·rw [aGL hk]
  refine ⟨?_,?_,?_,?_⟩
  ·simp only;split
   ·exact ayV A0 A0 A0
   ·rfl
  ·unfold BC;rw [T4,AD A0]
  ·simp only;split
   ·unfold Ac;rw [T4,AD A0]
   ·rfl
  ·unfold gi;rw [T4,AD A0]
def aRD {gs:List Ch}{ca:List Ca}{s:DW}:∀(k j:Nat),k<=j->
  BP (Dh gs ca s k).st j=BP s.st j/\BC (Dh gs ca s k).mi j=BC s.mi j/\Ac (Dh gs ca s k).me j=Ac s.me j/\gi (Dh gs ca s k).dw j=gi s.dw j
 |0,_,_=>⟨rfl,rfl,rfl,rfl⟩
 |k+1,j,h=>by
  obtain ⟨h1,h2,h3,h4⟩:=aRD (gs:=gs) (ca:=ca) (s:=s) k j A0;obtain ⟨g1,g2,g3,g4⟩:=aRG (gs:=gs) (ca:=ca) (s:=Dh gs ca s k) (i:=k) (j:=j) A0;unfold Dh
  grind
def aRE {gs:List Ch}{ca:List Ca}{s:DW}{n:Nat}(hm:s.mi.length=n) (he:s.me.length=n) (hd:s.dw.length=n) {j:Nat}(hj:j<n):∀(k:Nat),j<k->
  BC (Dh gs ca s k).mi j=(if (d1 gs ca s j).ok=true then IQ (d1 gs ca s j).c (d1 gs ca s j).m (d1 gs ca s j).ph (d1 gs ca s j).al else BC s.mi j)/\
  Ac (Dh gs ca s k).me j=(if (d1 gs ca s j).ok=true/\EY (d1 gs ca s j).e (d1 gs ca s j).a (d1 gs ca s j).o=0 then Fk (d1 gs ca s j).e (d1 gs ca s j).a (d1 gs ca s j).o else Ac s.me j)/\
  gi (Dh gs ca s k).dw j=(if (d1 gs ca s j).ok=true then (d1 gs ca s j).a else gi s.dw j)
 |0,h=>A0
 | k +1,h=>by
  by_cases e:j=k
  ·subst e
   obtain ⟨h1,h2,h3,h4⟩:=aRD (gs:=gs) (ca:=ca) (s:=s) j j (At _);obtain ⟨l1,l2,l3,l4⟩:=cQ (gs:=gs) (ca:=ca) (s:=s) j
   have ed:d1 gs ca (Dh gs ca s j) j=d1 gs ca s j:=by unfold d1;rw [h1,h2,h3]
   unfold Dh;cases hk:(d1 gs ca s j).ok
   ·rw [aRF AA]
    grind
   ·rw [aGL AA,ed]
    simp only [Bm,E9];refine ⟨?_,?_,?_⟩
    ·unfold BC;rw [T4,AE ⟨rfl,A0⟩]
    ·split
     ·unfold Ac;rw [T4,AE ⟨rfl,A0⟩]
     ·exact h3
    ·unfold gi;rw [T4,AE ⟨rfl,A0⟩]
  ·obtain ⟨g1,g2,g3,g4⟩:=aRG (gs:=gs) (ca:=ca) (s:=Dh gs ca s k) (i:=k) (j:=j) A0
   obtain ⟨h1,h2,h3⟩:=aRE hm he hd hj k A0;exact ⟨g2.trans h1,g3.trans h2,g4.trans h3⟩
def asr {k ph p:Int}(h1:1<=ph/\ph<=7) (h2:1<=p/\p<=7) (h:KS k ph p≠0):1<=cnt (KS k ph p):=by
 have:=aBP (k:=k) h1 h2
 unfold cnt;omega
def D1.bd {d:D1}(h:d.ok=true):0<=d.a/\d.a<=80/\0<=d.o/\d.o<=3/\(d.a≠0->1<=d.o)/\(IQ d.c d.m d.ph d.al).2.2=d.m.2.2+2300*d.a*d.o:=by
 unfold D1.ok at h;simp only [AU,D4,Bq,Cj] at h
 have hB:dwB d.c d.m d.ph d.al=true:=by
  have:=h.2
  unfold J8 at this;split at this
  ·assumption
  ·omega
 obtain ⟨hc,hm,h1,h2,h3,h4,_⟩:=cR.1 hB;obtain ⟨b1,b2,b3,b4⟩:=aDO hc hm ⟨h1,h2⟩ ⟨h3,h4⟩
 have hc':=WD.1 hc
 have hs:=ag2 (n:=Ea d.c d.m d.ph d.al)
 have ea:d.a=FH d.c d.m d.ph d.al:=by unfold D1.a FF;rw [AE hB]
 have eo:d.o=cnt (Gx d.c d.m d.ph d.al):=by unfold D1.o Ea;rw [AE hB]
 refine ⟨A0,A0,hs.1,hs.2,λhz=>?_,?_⟩
 ·rw [eo]
  rw [ea] at hz;unfold Gx;rw [AD hz];refine asr ⟨A0,A0⟩ ⟨h1,h2⟩ (λhq=>hz ?_)
  unfold FH
  grind
 ·unfold IQ
  rw [AE hB,ea,eo];rfl
def JD (p:PK):Prop:=∀k:Nat,k<p.gs.length->(Ac p.me k).2.2=false/\(0<=(Ac p.me k).1/\(Ac p.me k).1<=1000000)/\0<=(Ac p.me k).2.1/\(Ac p.me k).2.1<=552000*p.tk
def abC {e:Me}{a o:Int}(h1:e.2.2=false) (h2:0<=e.1/\e.1<=1000000) (h3:0<=e.2.1/\e.2.1<=552000000000) (ha:0<=a/\a<=80) (ho:0<=o/\o<=3):
  (0<=2300*a*o/\2300*a*o<=552000)/\EY e a o=0/\Fk e a o=(e.1,e.2.1+2300*a*o,false):=by
 obtain ⟨s,r,b⟩:=e;simp only at h1 h2 h3;subst h1
 have hm:0<=2300*a*o/\2300*a*o<=552000:=⟨I4 A0 A0,PW (Int.mul_le_mul (by omega:2300*a<=184000) (by omega:o<=3) A0 A0) A0⟩
 have e1:EY (s,r,false) a o=0:=by
  have b1:mcB (s,r,false) a o=true:=by
   simp [mcB,Jo,inB]
   omega
  have b2:Jo (s,mcR (s,r,false) a o,false)=true:=by
   simp [Jo,mcR,inB]
   omega
  unfold EY
  grind
 refine ⟨hm,e1,?_⟩;unfold Fk;rw [AE e1]
 simp [mcR]
def Hj (b a:PK) (dw:List Int) (i:Nat):Prop:=
 if b.tk=a.tk then (Ac a.me i).2.1-(Ac b.me i).2.1=0 else
  dw.length=b.ca.length/\(Ac a.me i).2.1-(Ac b.me i).2.1=(BC a.mi i).2.2-(BC b.mi i).2.2/\((BS b.ca i).2.2.1=0->gi dw i=0)/\((Ac a.me i).2.1-(Ac b.me i).2.1) %2300=0/\
   2300*gi dw i<=(Ac a.me i).2.1-(Ac b.me i).2.1/\(Ac a.me i).2.1-(Ac b.me i).2.1<=3*2300*gi dw i
def ano {p:PK}(h:VP p) (hm:JD p) (ht:p.tk≠1000000):JD p.FQ/\p.HY.length=p.ca.length/\∀i:Nat,i<p.ca.length->Hj p p.FQ p.HY i:=by
 obtain ⟨e1,e2,e3,e4,e5,e6,e7,e8,e9,e10,e11,e12,e13,e14⟩:=Sg p
 have htk:=h.tk
 have hb:VP p.B2:=h.dec.arr.cnt
 have f4:p.B2.gs=p.gs:=e4
 have f6:p.B2.tk=p.tk:=e6
 have f9:p.B2.ca=p.ca:=e9
 have f10:p.B2.mi=p.mi:=e10
 have f11:p.B2.me=p.me:=e11
 have eG:p.FQ.gs=p.gs:=e4
 have eT:p.FQ.tk=p.tk+1:=by show p.B2.tk+1=_;rw [f6]
 have eM:p.FQ.me=p.B2.dw.me:=rfl
 have eI:p.FQ.mi=p.B2.dw.mi:=rfl
 have eD:p.HY=p.B2.dw.dw:=rfl
 have hl:=cQ (gs:=p.B2.gs) (ca:=p.B2.ca) (s:=⟨p.B2.st,p.B2.mi,p.B2.me,List.replicate p.B2.gs.length 0⟩) p.B2.gs.length
 have key:∀i:Nat,i<p.gs.length->∃d:D1,d.e=Ac p.me i/\d.c=BS p.ca i/\d.m=BC p.mi i/\
   BC p.FQ.mi i=(if d.ok=true then IQ d.c d.m d.ph d.al else BC p.mi i)/\Ac p.FQ.me i=(if d.ok=true/\EY d.e d.a d.o=0 then Fk d.e d.a d.o else Ac p.me i)/\gi p.HY i=(if d.ok=true then d.a else 0):=by
  intro i hi
  have:=aRE (gs:=p.B2.gs) (ca:=p.B2.ca) (s:=⟨p.B2.st,p.B2.mi,p.B2.me,List.replicate p.B2.gs.length 0⟩) (n:=p.B2.gs.length) hb.mi hb.me AJ (j:=i) (by rw [f4];exact hi) p.B2.gs.length (by rw [f4];exact hi)
  refine ⟨d1 p.B2.gs p.B2.ca ⟨p.B2.st,p.B2.mi,p.B2.me,List.replicate p.B2.gs.length 0⟩ i,by show Ac p.B2.me i=_;rw [f11],by show BS p.B2.ca i=_;rw [f9],by show BC p.B2.mi i=_;rw [f10],?_,?_,?_⟩
  ·rw [<-f10];exact this.1
  ·rw [<-f11];exact this.2.1
  ·refine this.2.2.trans ?_
   split
   ·rfl
   ·unfold gi
    rw [Cx,V8];split<;>rfl
 have dl:p.HY.length=p.ca.length:=by rw [eD];refine hl.2.2.2.trans ?_;rw [CR,f4,h.ca]
 refine ⟨λk hk=>?_,dl,λi hi=>?_⟩
 ·rw [eG] at hk
  obtain ⟨d,q1,q2,q3,q4,q5,q6⟩:=key k hk;obtain ⟨m1,m2,m3,m4⟩:=hm k hk;rw [q5,eT];split
  ·rename_i hc
   obtain ⟨b1,b2,b3,b4,b5,b6⟩:=D1.bd hc.1;rw [<-q1] at m1 m2 m3 m4;obtain ⟨⟨c1,c2⟩,c3,c4⟩:=abC (a:=d.a) (o:=d.o) m1 m2 ⟨m3,A0⟩ ⟨b1,b2⟩ ⟨b3,b4⟩;rw [c4];exact ⟨rfl,m2,AP,AP⟩
  ·exact ⟨m1,m2,m3,A0⟩
 ·have hi':i<p.gs.length:=by rw [<-h.ca];exact hi
  obtain ⟨d,q1,q2,q3,q4,q5,q6⟩:=key i hi';obtain ⟨m1,m2,m3,m4⟩:=hm i hi';unfold Hj;rw [AD (by rw [eT];omega),q4,q5,q6]
  refine ⟨dl,?_⟩
  by_cases hc:d.ok=true
  ·obtain ⟨b1,b2,b3,b4,b5,b6⟩:=D1.bd hc
   rw [<-q1] at m1 m2 m3 m4;obtain ⟨⟨c1,c2⟩,c3,c4⟩:=abC (a:=d.a) (o:=d.o) m1 m2 ⟨m3,A0⟩ ⟨b1,b2⟩ ⟨b3,b4⟩;rw [AE ⟨hc,c3⟩,AE hc,AE hc,c4,b6,<-q1,q3]
   have hx:d.e.2.1+2300*d.a*d.o-d.e.2.1=2300*d.a*d.o:=A0
   have hy:(BC p.mi i).2.2+2300*d.a*d.o-(BC p.mi i).2.2=2300*d.a*d.o:=A0
   simp only [hx,hy]
   have hr:2300*d.a*d.o=2300*(d.a*d.o):=Int.mul_assoc _ _ _
   refine ⟨trivial,λhz=>?_,by rw [hr];omega,?_,?_⟩
   ·exfalso
    unfold D1.ok at hc;rw [q2,hz] at hc;cases hc
   ·by_cases hz:d.a=0
    ·rw [hz];omega
    ·have:=b5 hz
     have:=PT (this) (by omega:0<=2300*d.a)
     omega
   ·have:=PT (b4) (by omega:0<=2300*d.a)
    omega
  ·rw [AD (λhh=>hc hh.1),AD hc,AD hc]
   omega
def anq {p:PK}(h:VP p) (hm:JD p) {e:EV}(he:BR p e=0):JD (B4 p e)/\(B4 p e).me.length=p.ca.length/\(B4 p e).mi.length=p.ca.length/\∀i:Nat,i<p.ca.length->Hj p (B4 p e) (CW p e) i:=by
 have hv:=h.step he
 have hlen:(B4 p e).gs=p.gs->(B4 p e).me.length=p.ca.length/\(B4 p e).mi.length=p.ca.length:=λhg=>by rw [hv.me,hv.mi,hg,h.ca];exact ⟨rfl,rfl⟩
 have oth:(B4 p e).me=p.me->(B4 p e).gs=p.gs->(B4 p e).tk=p.tk->JD (B4 p e)/\(B4 p e).me.length=p.ca.length/\(B4 p e).mi.length=p.ca.length/\∀i:Nat,i<p.ca.length->Hj p (B4 p e) (CW p e) i:=by
  intro h1 h2 h3;refine ⟨?_,(hlen h2).1,(hlen h2).2,λi _=>?_⟩
  ·unfold JD;rw [h1,h2,h3];exact hm
  ·unfold Hj;rw [h3,AE rfl,h1];omega
 by_cases h1:e.ek=1
 ·have e2:B4 p e=p.FQ:=by unfold B4;rw [AD A0,AE h1]
  have e3:CW p e=p.HY:=by unfold CW;rw [AD A0,AE h1]
  unfold BR at he;unfold PK.Iq at he;obtain ⟨k1,_,k3⟩:=ano h hm (λhh=>aNM)
  have hg:=hlen (by rw [e2];exact (Sg p).2.2.2.1)
  rw [e2,e3];rw [e2] at hg;exact ⟨k1,hg.1,hg.2,k3⟩
 ·have hme:(B4 p e).me=p.me/\(B4 p e).gs=p.gs/\(B4 p e).tk=p.tk:=by
   unfold B4;rw [AD A0,AD h1]
   repeat' split
   all_goals exact ⟨rfl,rfl,rfl⟩
  grind
def aQH {l:List Le}{t:Int}(h:BG l=true):BG (Bj l t)=true:=by
 unfold Bj;split
 ·exact aE9 h List.filter_sublist
 ·rfl
def aug {t:Int}{s:SN}{x:Le}(h:VK s.se s.fl/\BG s.ls=true):VK (Gt t s x).se (Gt t s x).fl/\BG (Gt t s x).ls=true:=by
 unfold Gt;split
 ·rename_i hc
  refine ⟨(h.1.st hc.2).2,?_⟩
  have:=(aQL (x:=x) h.2).1
  unfold grS at this;rw [AE hc.1] at this;exact this
 ·exact h
def aJG {t:Int}{xs:List Le}{s:SN}(h:VK s.se s.fl/\BG s.ls=true):∀n,VK (Jb t xs s n).se (Jb t xs s n).fl/\BG (Jb t xs s n).ls=true
 |0=>h
 |n+1=>aug (aJG h n)
def alH {p:PK}(h:VK p.se p.fl/\BG p.ls=true):VK p.AV.se p.AV.fl/\BG p.AV.ls=true:=by
 have hx:BG (Hv p.ls p.tk)=true:=by
  unfold Hv;split
  ·exact aQH h.2
  ·exact h.2
 unfold PK.AV;split
 ·exact h
 ·split
  ·exact ⟨h.1,hx⟩
  ·exact aJG (s:=p.II) ⟨h.1,hx⟩ _
def JP.step {p:PK}(h:JP p) {e:EV}(he:BR p e=0):JP (B4 p e):=by
 obtain ⟨⟨hV,hR⟩,hk⟩:=h;refine ⟨⟨hV.step he,hR.step hV he⟩,?_⟩;unfold B4;rw [AD A0];unfold BR at he;rw [AD (by rw [W2.2 hV];decide)] at he
 split
 ·exact alH hk
 rename_i h1;rw [AD h1] at he;split
 ·exact hk
 rename_i h2;rw [AD h2] at he;split
 ·exact hk
 rename_i h3;rw [AD h3] at he;split
 ·exact hk
 rename_i h4;rw [AD h4] at he;split
 ·exact ⟨hk.1,rfl⟩
 rename_i h5;rw [AD h5] at he;split
 ·rename_i h6
  rw [AE h6] at he;refine ⟨hk.1,?_⟩;unfold PK.GN at he;split at he
  ·cases he
  split at he
  ·rename_i g1 g2;exact absurd he g2
  ·rename_i g1 g2
   exact aQH (yc (jI λg=>g2 g))
 rename_i h6;rw [AD h6] at he;split
 ·exact hk
 ·exact hk
def JP.Es {p:PK}(h:JP p):∀(n:Nat) (l:Int),JP (D2 n p l).1
 |0,_=>h
 | n+1,l=>by
  unfold D2;split
  ·rename_i hc
   exact (h.step hc.1).Es n _
  ·exact h
def aQD {cs:List Cd}{os:List ByteArray}{ks:List Ko}{gs:List Ch}{bs:List Ba}{dr:List Int}(h:E5 cs os ks gs bs dr=0):JP (newP cs os ks gs bs dr):=by
 have hn:=aQC h
 have hp:newP cs os ks gs bs dr=_:=AD (by rw [h];decide)
 refine ⟨hn,⟨hn.2.fl,?_⟩,?_⟩
 ·rw [hp]
  exact ⟨[],0,rfl,rfl,⟨0,1019,_,aQ1⟩,Gl _⟩
 ·rw [hp]
  rfl
structure NU where
 e:Int
 b:Bool
 (last n i:Int)
 (p r:PK)
def aEn:=bN f10 0
def TU (s:NU):T (Rd NU):=letI a:=(List.length (CW s.p EU):Int);.br (decide (s.i<s.n)) (.req (JP s.p) (.br (((BR s.p EU) !=0) ||(a !=(List.length (B4 s.p EU).ca:Int))) (.so (.ret) {s with e:=s.last,b:=false,r:=s.p}) (.br (decide (a>0)) (.req (0<=(0:Int)/\0<a) (.nx {s with last:=gi (CW s.p EU) (0:Int),i:=A9 (s.i+1),p:=B4 s.p EU})) (.nx {s with i:=A9 (s.i+1),p:=B4 s.p EU})))) (.so (.exit 0) s)
def gB (s:NU):Prop:=s.i=0/\s.n<=1000/\JP s.p
def gN (s:NU):Prop:=0<=s.i/\s.n<=1000/\JP s.p
def rY (s:NU):Nat:=(s.n-s.i).toNat
def acI (x:Ex) (s s':NU):Prop:=True
def aiZ:∀s,gB s->gN s:=by
 exact ju
def atn:Da gN rY acI TU:=by
 intro s hI;unfold TU;dsimp only [T.rd,T.rl,T.rv];obtain ⟨h0,h1,h2⟩:=hI;refine AG (λc1=>AG (λc2=>trivial) (λc2=>AG (λc3=>?_) (λc3=>?_))) (λc1=>trivial)
 all_goals have c1:s.i<s.n:=AO
 all_goals rw [AI (x:=s.i+1)]
 all_goals exact ⟨⟨AP,h1,h2.step (DH (Eu.1 c2).1)⟩,by simp only [rY];omega⟩
def QK:AS NU:=⟨0,43,[2,4,5,6,7,11,12],[.ps 4 0 Ao,.ps 4 1 .str,.ps 4 2 B8,.ps 4 3 Au,.ps 4 4 B9,.ps 4 7 AX,.ps 4 9 (.int .u8),.ps 4 10 BD,.ps 4 12 Bu,.ps 4 13 AX,.ps 4 14 By,.ps 4 15 D6,.ps 4 16 BO,.ps 4 17 Cp,.ps 4 18 A7,.ps 4 19 A7],λs=>[.own 0 0,.own 1 0,s.e,s.b,s.last,s.n,s.i],λs=>[pB s.p,pB s.r],λv b=>⟨AK v 2,Eb v 3,AK v 4,AK v 5,AK v 6,rQ b 0,rQ b 1⟩,TU,λs r=> {r with n:=s.n},λs=>s,λ_ s=>s,[.ret,.exit 0],gB,gN,rY⟩
abbrev Se:=QK.run
abbrev o7:=QK.Am
def avs:Rq gN TU:=by
 intro s hI;refine ⟨λc1=>⟨?_,λ_=>trivial,λc2=>⟨λc3=>⟨?_,trivial⟩,λ_=>trivial⟩⟩,λ_=>trivial⟩
 all_goals ((obtain ⟨h0,h1,h2⟩:=hI;first|exact h2|(simp only [AY] at c3;omega)))
def u6:List Bd:=[Wt]
def aOu:QK.Ok:={}
def aOU:QK.Pf (acI):=⟨aiZ,λs h=>rfl,atn,avs⟩
def anb:SA 0 aEn QK:=s1 aOu aOU u6 kN
def anl:Rs gB o7 Se (λs:NU=>D2 (s.n-s.i).toNat s.p s.last) (λx s' (v:PK×Int×Bool)=>(x=.exit 0/\(s'.p,s'.last,true)=v)\/(x=.ret/\(s'.r,s'.e,s'.b)=v)):=DL aOu aOU (λs hI=>by
  show CM _ _ ((TU s).rd s)
  unfold TU;dsimp only [T.rd,T.rl];obtain ⟨h0,h1,h2⟩:=hI;refine AG (λc1=>?_) (λc1=>?_)
  ·have c1:s.i<s.n:=AO
   have e:(s.n-s.i).toNat=(s.n-(s.i+1)).toNat+1:=A0
   rw [AI (x:=s.i+1),e,D2];refine AG (λc2=>?_) (λc2=>?_)
   ·have hc:¬(BR s.p EU=0/\(CW s.p EU).length=(B4 s.p EU).ca.length):=λh=>by
     rw [h.1,h.2] at c2
     simp at c2
    rw [AD hc];exact .inr ⟨rfl,rfl⟩
   ·have hc:BR s.p EU=0/\(CW s.p EU).length=(B4 s.p EU).ca.length:=by
     have:=Eu.1 c2
     have h2:=DH this.2
     exact ⟨DH this.1,A0⟩
    rw [AE hc];refine AG (λc3=>?_) (λc3=>?_)
    ·have c3:(CW s.p EU).length>0:=by have:=De c3;omega
     rw [AE c3];rfl
    ·have c3:¬(CW s.p EU).length>0:=by have:=JF c3;omega
     rw [AD c3];rfl
  ·have c1:s.n<=s.i:=AO
   rw [show (s.n-s.i).toNat=0 by omega]
   exact .inl ⟨rfl,rfl⟩)
def aSe:List LV->T LV
 | [x_p,.v (.int .i64 many)]=>(match Mf x_p with
  |some p=> .req (JP p/\many<=1000) (.ok (.AM [(D2 many.toNat p 0).1,(D2 many.toNat p 0).2.1,(D2 many.toNat p 0).2.2]))
  |none=> .no)
 |_=> .no
def M4 (p:PK) (many:Int):NU:=(⟨0,false,0,many,0,p,⟨([]:List Cd),([]:List ByteArray),([]:List Ko),([]:List Ch),([]:List Ba),0,false,([]:List Le),0,([]:List Int),([]:List Ra),0,([]:List St),([]:List Le),([]:List Mi),([]:List Me),([]:List Dm),([]:List Lk),([]:List Int),([]:List Int)⟩⟩:NU)
def awM (p:PK) (many:Int):letI a:=Se (M4 p many);Bc prog AT (u6) kN (λi=>if i=3 then QK.lp else Af i) f10 [p,many]=.req (QK.q (M4 p many)) (.br (Bo (o7 (M4 p many)) (.ret)) (.ok (.AM [a.r,a.e,a.b])) (.ok (.AM [a.p,a.last,true]))):=AZ
def aho:=vm (S:=aSe) func10 u6 kN (L:=(λi=>if i=3 then QK.lp else Af i)) (λb hb=>by
 rw [show B6 _=[aEn] by kernel_rfl] at hb
 simp only [B1,Bv,Bw] at hb;subst hb;exact anb) (λargs lv h=>by
 refine ⟨?_⟩;unfold aSe at h;split at h
 ·split at h
  case h_2=>cases h
  rename_i p hp;obtain rfl:=WJ hp;simp only [canL,canX];rw [awM];rename_i many _;obtain ⟨⟨hJ,hm⟩,rfl⟩:=h
  have hE:gB (M4 p many):=⟨rfl,hm,hJ⟩
  have e:(many-0).toNat=many.toNat:=by rw [O6]
  have q:(o7 (M4 p many)=.exit 0/\((Se (M4 p many)).p,(Se (M4 p many)).last,true)=D2 many.toNat p 0)\/(o7 (M4 p many)=.ret/\((Se (M4 p many)).r,(Se (M4 p many)).e,(Se (M4 p many)).b)=D2 many.toNat p 0):=by
   rw [<-e];exact anl _ hE
  refine ⟨⟨hE,rfl,rfl⟩,λc=>?_,λc=>?_⟩
  ·rcases q with ⟨x1,_⟩ |⟨_,x2⟩
   ·rw [x1] at c
    cases c
   ·rw [<-x2]
    rfl
  ·rcases q with ⟨_,x2⟩ |⟨x1,_⟩
   ·rw [<-x2]
    rfl
   ·rw [x1] at c
    cases c
 ·cases h)
def aRt:List LV->T LV:=λ_=> .no
def atL:VV 1000022 aRt:=by
 exact xN
structure HF where
 E5:List Cd->List ByteArray->List Ko->List Ch->List Ba->List Int->Int
 newP:List Cd->List ByteArray->List Ko->List Ch->List Ba->List Int->PK
 BR:PK->EV->Int
 B4:PK->EV->PK
 CW:PK->EV->List Int
 D2:Nat->PK->Int->PK×Int×Bool
 JP:PK->Prop
def hdF:HF:=⟨E5,newP,BR,B4,CW,D2,JP⟩
def anI (F:HF):List LV->T LV
 | [x_p,x_ev]=>(match Mf x_p with
  |some p=>(match lO x_ev with
  |some ev=> .req (F.JP p) (.ok (.AM [F.B4 p (EW.ev ev),.xl A7 (F.CW p (EW.ev ev)),F.BR p (EW.ev ev)]))
  |none=> .no)
  |none=> .no)
 |_=> .no
def as8 (F:HF):List LV->T LV:=Jj prog f11.params.toList (anI F)
def asB (F:HF):List LV->T LV
 | [.agg [.xl (.pair .str (.pair (.int .i64) (.pair (.int .i64) (.pair (.int .i64) (.pair (.pair (.int .i64) (.int .i64)) (.pair (.int .i64) (.pair (.int .i64) (.pair (.int .i64) (.pair (.int .i64) (.int .i64)))))))))) cs,.xl (.str) os,.xl (.pair .str (.pair (.int .i64) (.pair (.int .i64) (.int .i64)))) ks,.xl (.pair .str (.pair (.int .i64) (.pair (.int .i64) (.pair (.int .i64) (.pair (.int .i64) (.pair (.int .i64) (.pair (.int .i64) (.int .i64)))))))) gs,.xl (.pair .str (.int .i64)) bs],.xl (.int .i64) dr]=> .req (dr.length<=1000) (.ok (.AM [F.newP cs os ks gs bs dr,F.E5 cs os ks gs bs dr]))
 |_=> .no
def agz (F:HF):List LV->T LV:=Jj prog f8.params.toList (asB F)
def asA (F:HF):List LV->T LV
 | [x_p,.v (.int .i64 many)]=>(match Mf x_p with
  |some p=> .req (F.JP p/\many<=1000) (.ok (.AM [(F.D2 many.toNat p 0).1,(F.D2 many.toNat p 0).2.1,(F.D2 many.toNat p 0).2.2]))
  |none=> .no)
 |_=> .no
def agw (F:HF):List LV->T LV:=Jj prog f10.params.toList (asA F)
def bS:List Cd:=letI a:=((bC 32).getD (0:Int).toNat (Ty.dflt Ao));(bC 32).set (0:Int).toNat (a.1,(a.2.1,((5:Int),a.2.2.2)))
def hN (F:HF):PK:=F.newP (((bC 32).drop 0).take 1) bO ([]:List Ko) bG ([]:List Ba) ([(0:Int)])
def hA (F:HF):PK×Int×Bool:=F.D2 (1:Int).toNat (hN F) 0
def hB (F:HF):PK:=F.B4 (hA F).1 (EW.ev (⟨2,0,0,0,1,20,1000000000,0,true,0,500,1⟩))
def hC (F:HF):PK×Int×Bool:=F.D2 (1:Int).toNat (hB F) 0
def hD (F:HF):PK×Int×Bool:=F.D2 (60:Int).toNat (hC F).1 0
def hX (F:HF):PK:=F.B4 (hD F).1 (EW.ev (⟨5,0,0,0,0,0,0,0,false,0,0,0⟩))
def hL (F:HF):PK×Int×Bool:=F.D2 (24:Int).toNat (hX F) 0
def aav (F:HF):hA F=F.D2 1 (hN F) 0:=rfl
def aau (F:HF):hB F=F.B4 (hA F).1 Ke:=rfl
def aat (F:HF):hC F=F.D2 1 (hB F) 0:=rfl
def aas (F:HF):hD F=F.D2 60 (hC F).1 0:=rfl
def aar (F:HF):hX F=F.B4 (hD F).1 evF:=rfl
def akB (F:HF):hL F=F.D2 24 (hX F) 0:=rfl
def acG:List LV->T LV
 | []=> .ok true
 |_=> .no
def X2:List Bd:=[fH,aho,Wt,atL]
def su:As:=kI X2 (la 9 func19 aFt (la 11 func51 T7 (la 6 func51 Q2 (la 3 func34 OW (la 2 func50 NA (la 1 func49 MA (la 2 func58 L0 (la 9 func19 Ck (l0 X2)))))))))
def lI (F:HF):Specs:=DA [(8,agz F),(10,agw F),(11,as8 F),(1000022,aRt)]
def aJn (F:HF):Hand:=inl prog AT (lI F) (CQ 19 9 9 (U9.lp) (CQ 51 21 11 (Ox.lp) (CQ 51 21 6 (QM.lp) (CQ 34 21 3 (QL.lp) (CQ 50 20 2 (RT.lp) (CQ 49 20 1 (QX.lp) (CQ 58 19 2 (Rb.lp) (CQ 19 0 9 (GS.lp) (Dp prog AT (lI F) 20 2))))))))) 9
def axx (F:HF):letI a:=(EW.ev (⟨2,0,0,0,1,20,1000000000,0,true,0,500,1⟩));letI b:=(hA F);Bc prog AT (lI F) (aJn F) Af f4 []=.req (0+1<=List.length (bC 32)) (.req (([(0:Int)]).length<=1000) (.req (F.JP ((hN F))/\(1:Int)<=1000) (.req (F.JP b.1) (.req (F.JP ((hB F))/\(1:Int)<=1000) (.req (F.JP ((hC F)).1/\(60:Int)<=1000) (.req (F.JP ((hD F)).1) (.req (F.JP ((hX F))/\(24:Int)<=1000) (.req (0<=(0:Int)/\(0:Int)<((1:Nat):Int)) (.req ((0:Int).toNat<List.length (bC 32)) (.req (0+1<=List.length bS) (.req (([(0:Int)]).length<=1000) (.ok (.v (.bool ((((F.E5 (((bC 32).drop 0).take 1) bO ([]:List Ko) bG ([]:List Ba) ([(0:Int)]))==0)&&(((F.BR b.1 a)==0)&&(((F.BR ((hD F)).1 (EW.ev (⟨5,0,0,0,0,0,0,0,false,0,0,0⟩)))==0)&&(((F.E5 ((bS.drop 0).take 1) bO ([]:List Ko) bG ([]:List Ba) ([(0:Int)]))==13)&&(b.2.2&&(((hC F)).2.2&&(((hD F)).2.2&&(((hL F)).2.2&&((List.length (F.CW b.1 a):Int)==0)))))))))&&((b.2.1==0)&&((b.1.tk==1)&&((((hC F)).2.1==6)&&((((hD F)).2.1==20)&&(((hL F)).2.1==6)))))))))))))))))))):=AZ
def ayS:X2=lI hdF:=AZ
def ayR:su=aJn hdF:=AZ
def ajE:letI a:=(EW.ev (⟨2,0,0,0,1,20,1000000000,0,true,0,500,1⟩));letI b:=(hA hdF);letI c:=(hD hdF);Bc prog AT (X2) su Af f4 []=.req (0+1<=List.length (bC 32)) (.req (([(0:Int)]).length<=1000) (.req (hdF.JP ((hN hdF))/\(1:Int)<=1000) (.req (hdF.JP b.1) (.req (hdF.JP ((hB hdF))/\(1:Int)<=1000) (.req (hdF.JP ((hC hdF)).1/\(60:Int)<=1000) (.req (hdF.JP c.1) (.req (hdF.JP ((hX hdF))/\(24:Int)<=1000) (.req (0<=(0:Int)/\(0:Int)<((1:Nat):Int)) (.req ((0:Int).toNat<List.length (bC 32)) (.req (0+1<=List.length (bS)) (.req (([(0:Int)]).length<=1000) (.ok (.v (.bool ((((hdF.E5 (((bC 32).drop 0).take 1) (bO) ([]:List Ko) (bG) ([]:List Ba) ([(0:Int)]))==0)&&(((hdF.BR b.1 a)==0)&&(((hdF.BR c.1 (EW.ev (⟨5,0,0,0,0,0,0,0,false,0,0,0⟩)))==0)&&(((hdF.E5 (((bS).drop 0).take 1) (bO) ([]:List Ko) (bG) ([]:List Ba) ([(0:Int)]))==13)&&(b.2.2&&(((hC hdF)).2.2&&(c.2.2&&(((hL hdF)).2.2&&((List.length (hdF.CW b.1 a):Int)==0)))))))))&&((b.2.1==0)&&((b.1.tk==1)&&((((hC hdF)).2.1==6)&&((c.2.1==20)&&(((hL hdF)).2.1==6)))))))))))))))))))):=by
 rw [ayS,ayR];exact axx hdF
def aln:=vo (S:=acG) func4 X2 su (λargs lv h=>by
 refine ⟨?_⟩;unfold acG at h;split at h
 ·simp only [canL]
  rw [ajE];obtain rfl:=h;simp only [show hdF.E5=E5 from rfl,show hdF.newP=newP from rfl,show hdF.BR=BR from rfl,show hdF.B4=B4 from rfl,show hdF.CW=CW from rfl,show hdF.D2=D2 from rfl,show hdF.JP=JP from rfl];obtain ⟨p1,p3,p4,p6,a1,a2,a3,a4,a5,a6,a7,a8⟩:=akA
  have eN:(hN hdF)=newP (bC 32) bO [] bG [] [0]:=rfl
  have t1:hdF.D2=D2:=rfl
  have t2:hdF.B4=B4:=rfl
  have eA:hA hdF=(p1,0,true):=by rw [aav,t1,eN];exact a1
  have eB:hB hdF=B4 p1 Ke:=by rw [aau,t2,eA]
  have eC:hC hdF=(p3,6,true):=by rw [aat,t1,eB];exact a5
  have eD:hD hdF=(p4,20,true):=by rw [aas,t1,eC];exact a6
  have eX:hX hdF=B4 p4 evF:=by rw [aar,t2,eD]
  have eL:hL hdF=(p6,6,true):=by rw [akB,t1,eX];exact a8
  have jN:JP (hN hdF):=by rw [eN];exact aQD zD.1
  have jA:JP (hA hdF).1:=by rw [aav,t1];exact jN.Es _ _
  have sA:BR (hA hdF).1 Ke=0:=by rw [eA];exact a3
  have jB:JP (hB hdF):=by rw [aau,t2];exact jA.step sA
  have jC:JP (hC hdF).1:=by rw [aat,t1];exact jB.Es _ _
  have jD:JP (hD hdF).1:=by rw [aas,t1];exact jC.Es _ _
  have sD:BR (hD hdF).1 evF=0:=by rw [eD];exact a7
  have jX:JP (hX hdF):=by rw [aar,t2];exact jD.step sD
  have n1:E5 (((bC 32).drop 0).take 1) bO [] bG [] [(0:Int)]=0:=zD.1
  have n2:E5 ((bS.drop 0).take 1) bO [] bG [] [(0:Int)]=13:=zD.2
  have b3:BR p1 (EW.ev ⟨2,0,0,0,1,20,1000000000,0,true,0,500,1⟩)=0:=a3
  have b4:CW p1 (EW.ev ⟨2,0,0,0,1,20,1000000000,0,true,0,500,1⟩)=[]:=a4
  have b7:BR p4 (EW.ev ⟨5,0,0,0,0,0,0,0,false,0,0,0⟩)=0:=a7
  refine ⟨Aa,Aa,⟨jN,Aa⟩,jA,⟨jB,Aa⟩,⟨jC,Aa⟩,jD,⟨jX,Aa⟩,Aa,Aa,Aa,Aa,?_⟩
  show LV.v (.bool _)=_
  simp only [n1,n2,eA,eC,eD,eL,a2,b3,b4,b7,Bh];rfl
 ·cases h)
def opN (k:Int) (l:Nat):Int:=if (l:Int)>0 then (A9 k).tmod l else 0
def opE (p:PK) (x1 x2 x3 y1 y2 y3 y4 y5:Int) (z1:Bool) (z2 z3 z4:Int):EW:=
 if x1.tmod 14=6\/x1.tmod 14=7 then ⟨2,opN x2 p.ca.length,0,y1,y2,y3,y4,y5,z1,z2,z3,z4⟩
 else if x1.tmod 14=8 then ⟨3,opN x2 p.ca.length,0,0,0,0,0,0,false,0,0,0⟩
 else if x1.tmod 14=9 then ⟨4,opN x2 p.ca.length,0,0,0,0,0,0,false,0,0,0⟩
 else if x1.tmod 14=10 then ⟨5,0,0,0,0,0,0,0,false,0,0,0⟩
 else if x1.tmod 14=11 then ⟨6,0,0,0,0,0,0,0,false,0,0,0⟩
 else if x1.tmod 14=12 then ⟨7,opN x2 p.ca.length,0,0,0,0,0,0,false,0,0,0⟩
 else if x1.tmod 14=13 then ⟨8,opN x2 p.tg.length,(A9 x3).tmod 100,0,0,0,0,0,false,0,0,0⟩
 else ⟨1,0,0,0,0,0,0,0,false,0,0,0⟩
def opT (x1 x3:Int):Int:=if 6<=x1.tmod 14/\x1.tmod 14<=13 then 1 else A9 (1+(A9 x3).tmod 12)
def aRM:List LV->T LV
 | [x_p,.v (.agg ⟨[.int .u8 x1,.int .u8 x2,.int .u16 x3,.int .i64 y1,.int .i64 y2,.int .i64 y3,.int .i64 y4,.int .i64 y5,.bool z1,.int .i64 z2,.int .i64 z3,.int .i64 z4]⟩)]=>(match Mf x_p with
  |some p=> .tu #[opE p x1 x2 x3 y1 y2 y3 y4 y5 z1 z2 z3 z4,opT x1 x3]
  |none=> .no)
 |_=> .no
def aQP:List Bd:=[]
def ay2 (p:PK) (x1 x2 x3 y1 y2 y3 y4 y5:Int) (z1:Bool) (z2 z3 z4:Int):letI a:=x1.tmod 14;letI c:=(p.tg.length:Int);letI d:=(A9 x3).tmod 100;letI e:=(p.ca.length:Int);letI f:=A9 (1+((A9 x3).tmod 12));letI b:=(A9 x2).tmod e;Bc prog AT (aQP) kN Af f13 [p,.v (.agg #[.int .u8 x1,.int .u8 x2,.int .u16 x3,y1,y2,y3,y4,y5,z1,z2,z3,z4])]=.br (decide (e>0)) (.req (e≠0) (.req ((14:Int)≠0) (.br (a==6) (.tu #[.agg #[(2:Int),b,(0:Int),y1,y2,y3,y4,y5,z1,z2,z3,z4],(1:Int)]) (.br (a==7) (.tu #[.agg #[(2:Int),b,(0:Int),y1,y2,y3,y4,y5,z1,z2,z3,z4],(1:Int)]) (.br (a==8) (.tu #[.agg #[(3:Int),b,(0:Int),(0:Int),(0:Int),(0:Int),(0:Int),(0:Int),false,(0:Int),(0:Int),(0:Int)],(1:Int)]) (.br (a==9) (.tu #[.agg #[(4:Int),b,(0:Int),(0:Int),(0:Int),(0:Int),(0:Int),(0:Int),false,(0:Int),(0:Int),(0:Int)],(1:Int)]) (.br (a==10) (.tu #[.agg #[(5:Int),(0:Int),(0:Int),(0:Int),(0:Int),(0:Int),(0:Int),(0:Int),false,(0:Int),(0:Int),(0:Int)],(1:Int)]) (.br (a==11) (.tu #[.agg #[(6:Int),(0:Int),(0:Int),(0:Int),(0:Int),(0:Int),(0:Int),(0:Int),false,(0:Int),(0:Int),(0:Int)],(1:Int)]) (.br (a==12) (.tu #[.agg #[(7:Int),b,(0:Int),(0:Int),(0:Int),(0:Int),(0:Int),(0:Int),false,(0:Int),(0:Int),(0:Int)],(1:Int)]) (.br (a==13) (.br (decide (c>0)) (.req (c≠0) (.req ((100:Int)≠0) (.tu #[.agg #[(8:Int),(A9 x2).tmod c,d,(0:Int),(0:Int),(0:Int),(0:Int),(0:Int),false,(0:Int),(0:Int),(0:Int)],(1:Int)]))) (.req ((100:Int)≠0) (.tu #[.agg #[(8:Int),(0:Int),d,(0:Int),(0:Int),(0:Int),(0:Int),(0:Int),false,(0:Int),(0:Int),(0:Int)],(1:Int)]))) (.req ((12:Int)≠0) (.tu #[.agg #[(1:Int),(0:Int),(0:Int),(0:Int),(0:Int),(0:Int),(0:Int),(0:Int),false,(0:Int),(0:Int),(0:Int)],f])))))))))))) (.req ((14:Int)≠0) (.br (a==6) (.tu #[.agg #[(2:Int),(0:Int),(0:Int),y1,y2,y3,y4,y5,z1,z2,z3,z4],(1:Int)]) (.br (a==7) (.tu #[.agg #[(2:Int),(0:Int),(0:Int),y1,y2,y3,y4,y5,z1,z2,z3,z4],(1:Int)]) (.br (a==8) (.tu #[.agg #[(3:Int),(0:Int),(0:Int),(0:Int),(0:Int),(0:Int),(0:Int),(0:Int),false,(0:Int),(0:Int),(0:Int)],(1:Int)]) (.br (a==9) (.tu #[.agg #[(4:Int),(0:Int),(0:Int),(0:Int),(0:Int),(0:Int),(0:Int),(0:Int),false,(0:Int),(0:Int),(0:Int)],(1:Int)]) (.br (a==10) (.tu #[.agg #[(5:Int),(0:Int),(0:Int),(0:Int),(0:Int),(0:Int),(0:Int),(0:Int),false,(0:Int),(0:Int),(0:Int)],(1:Int)]) (.br (a==11) (.tu #[.agg #[(6:Int),(0:Int),(0:Int),(0:Int),(0:Int),(0:Int),(0:Int),(0:Int),false,(0:Int),(0:Int),(0:Int)],(1:Int)]) (.br (a==12) (.tu #[.agg #[(7:Int),(0:Int),(0:Int),(0:Int),(0:Int),(0:Int),(0:Int),(0:Int),false,(0:Int),(0:Int),(0:Int)],(1:Int)]) (.br (a==13) (.br (decide (c>0)) (.req (c≠0) (.req ((100:Int)≠0) (.tu #[.agg #[(8:Int),(A9 x2).tmod c,d,(0:Int),(0:Int),(0:Int),(0:Int),(0:Int),false,(0:Int),(0:Int),(0:Int)],(1:Int)]))) (.req ((100:Int)≠0) (.tu #[.agg #[(8:Int),(0:Int),d,(0:Int),(0:Int),(0:Int),(0:Int),(0:Int),false,(0:Int),(0:Int),(0:Int)],(1:Int)]))) (.req ((12:Int)≠0) (.tu #[.agg #[(1:Int),(0:Int),(0:Int),(0:Int),(0:Int),(0:Int),(0:Int),(0:Int),false,(0:Int),(0:Int),(0:Int)],f]))))))))))):=AZ
def vJ:=vo (S:=aRM) func13 aQP kN (λargs lv h=>by
 refine ⟨?_⟩;unfold aRM at h;split at h
 ·split at h
  case h_2=>cases h
  rename_i p hp;obtain rfl:=WJ hp;simp only [canL,canX];rw [ay2];obtain rfl:=h
  repeat' (first|(refine And.intro (λc=>?_) (λc=>?_)) |(refine And.intro (by first|decide|(have:=De c;omega)) ?_))
  all_goals simp_all [T.all,opE,opT,opN]
  all_goals omega
 ·cases h)
def MQ (p r:PK) (dw:List Int):Prop:=(r.me.length=p.ca.length/\p.me.length=p.ca.length/\r.mi.length=p.ca.length/\p.mi.length=p.ca.length/\p.ca.length<=1000)/\
 ∀i:Nat,i<p.ca.length->Hj p r dw i/\(0<=(Ac p.me i).2.1/\(Ac p.me i).2.1<=1000000000000)/\0<=(Ac r.me i).2.1/\(Ac r.me i).2.1<=1000000000000
structure P3 where
 dw:List Int
 b:Bool
 (nn n i:Int)
 (p r:PK)
def aEv:=bN f7 0
def eY (s:P3):T (Rd P3):=letI a:=A9 ((Ac s.r.me s.i).2.1-(Ac s.p.me s.i).2.1);letI c:=s.dw.length;letI d:=gi s.dw s.i;letI e:=decide (a<(A9 (2300*d)));letI f:=decide (a>(A9 (6900*d)));letI g:=A9 (s.i+1);.br (decide (s.i<s.n)) (.ix s.i (s.r.me.length) (.ix s.i (s.p.me.length) (.br (s.p.tk==s.r.tk) (.br (a !=0) (.so (.ret) {s with b:=false}) (.nx {s with i:=g})) (.br ((s.dw.length:Int) !=s.nn) (.so (.ret) {s with b:=false}) (.ix s.i (s.r.mi.length) (.ix s.i (s.p.mi.length) (.br (a !=(A9 ((BC s.r.mi s.i).2.2-(BC s.p.mi s.i).2.2))) (.so (.ret) {s with b:=false}) (.ix s.i (s.p.ca.length) (.br ((An s.p.ca s.i).2.2.1==0) (.ix s.i c (.br (d !=0) (.so (.ret) {s with b:=false}) (.req ((2300:Int)≠0) (.br ((a.tmod 2300) !=0) (.so (.ret) {s with b:=false}) (.ix s.i c (.br e (.so (.ret) {s with b:=false}) (.ix s.i c (.br f (.so (.ret) {s with b:=false}) (.nx {s with i:=g}))))))))) (.req ((2300:Int)≠0) (.br ((a.tmod 2300) !=0) (.so (.ret) {s with b:=false}) (.ix s.i c (.br e (.so (.ret) {s with b:=false}) (.ix s.i c (.br f (.so (.ret) {s with b:=false}) (.nx {s with i:=g})))))))))))))))) (.so (.exit 0) s)
def iT (s:P3):Prop:=s.i=0/\s.n=(s.p.ca.length:Int)/\s.nn=(s.p.ca.length:Int)/\MQ s.p s.r s.dw
def Y0 (s:P3):Prop:=0<=s.i/\s.i<=s.n/\s.n=(s.p.ca.length:Int)/\s.nn=(s.p.ca.length:Int)/\MQ s.p s.r s.dw
def cZ (s:P3):Nat:=(s.n-s.i).toNat
def zq (x:Ex) (s s':P3):Prop:=x=.exit 0
def ajo:∀s,iT s->Y0 s:=by
 exact jr
def axD:Da Y0 cZ zq eY:=by
 intro s hI;unfold eY;dsimp only [T.rd,T.rl,T.rv];obtain ⟨h0,h1,h2,h3,h4⟩:=hI
 have h4':=id h4
 obtain ⟨⟨l1,l2,l3,l4,l5⟩,hq⟩:=h4';refine AG (λc1=>?_) (λc1=>?_)
 ·refine AG (λc2=>?_) (λc2=>?_)
  ·refine AG (λc3=>?_) (λc3=>?_)
   ·have c1:s.i<s.n:=AO
    have hi:((s.i.toNat:Nat):Int)=s.i:=BQ h0
    obtain ⟨q,b1,b2⟩:=hq s.i.toNat A0;rw [hi] at b1 b2;unfold Hj at q;rw [hi] at q
    have w1:A9 ((Ac s.r.me s.i).2.1-(Ac s.p.me s.i).2.1)=(Ac s.r.me s.i).2.1-(Ac s.p.me s.i).2.1:=AI
    have ct:s.p.tk=s.r.tk:=eq_of_beq c2
    rw [AE ct] at q;rw [w1,q] at c3;cases c3
   ·have c1:s.i<s.n:=AO
    have hi:((s.i.toNat:Nat):Int)=s.i:=BQ h0
    obtain ⟨q,b1,b2⟩:=hq s.i.toNat A0;rw [hi] at b1 b2;unfold Hj at q;rw [hi] at q
    have w1:A9 ((Ac s.r.me s.i).2.1-(Ac s.p.me s.i).2.1)=(Ac s.r.me s.i).2.1-(Ac s.p.me s.i).2.1:=AI
    have ct:s.p.tk=s.r.tk:=eq_of_beq c2
    rw [AE ct] at q;rw [AI (x:=s.i+1)];exact ⟨⟨AP,AP,h2,h3,h4⟩,by simp only [cZ];omega⟩
  ·refine AG (λc3=>?_) (λc3=>?_)
   ·have c1:s.i<s.n:=AO
    have hi:((s.i.toNat:Nat):Int)=s.i:=BQ h0
    obtain ⟨q,b1,b2⟩:=hq s.i.toNat A0;rw [hi] at b1 b2;unfold Hj at q;rw [hi] at q
    have w1:A9 ((Ac s.r.me s.i).2.1-(Ac s.p.me s.i).2.1)=(Ac s.r.me s.i).2.1-(Ac s.p.me s.i).2.1:=AI
    have ct:¬s.p.tk=s.r.tk:=Bq.1 c2
    split at q
    ·rename_i e;exact absurd e ct
    obtain ⟨q1,q2,q3,q4,q5,q6⟩:=q
    have w2:A9 ((BC s.r.mi s.i).2.2-(BC s.p.mi s.i).2.2)=(Ac s.r.me s.i).2.1-(Ac s.p.me s.i).2.1:=SU
    have w3:A9 (2300*gi s.dw s.i)=2300*gi s.dw s.i:=AI
    have w4:A9 (6900*gi s.dw s.i)=6900*gi s.dw s.i:=AI
    have w5:((Ac s.r.me s.i).2.1-(Ac s.p.me s.i).2.1).tmod 2300=0:=SW
    exfalso;simp only [w1,w2,w3,w4,w5,DT,ne_eq,AY,V7] at c3<;>first|omega|(simp only [Cj] at*;omega) |exact c3 (q3 (eq_of_beq c2))
   ·refine AG (λc4=>?_) (λc4=>?_)
    ·have c1:s.i<s.n:=AO
     have hi:((s.i.toNat:Nat):Int)=s.i:=BQ h0
     obtain ⟨q,b1,b2⟩:=hq s.i.toNat A0;rw [hi] at b1 b2;unfold Hj at q;rw [hi] at q
     have w1:A9 ((Ac s.r.me s.i).2.1-(Ac s.p.me s.i).2.1)=(Ac s.r.me s.i).2.1-(Ac s.p.me s.i).2.1:=AI
     have ct:¬s.p.tk=s.r.tk:=Bq.1 c2
     split at q
     ·rename_i e;exact absurd e ct
     obtain ⟨q1,q2,q3,q4,q5,q6⟩:=q
     have w2:A9 ((BC s.r.mi s.i).2.2-(BC s.p.mi s.i).2.2)=(Ac s.r.me s.i).2.1-(Ac s.p.me s.i).2.1:=SU
     have w3:A9 (2300*gi s.dw s.i)=2300*gi s.dw s.i:=AI
     have w4:A9 (6900*gi s.dw s.i)=6900*gi s.dw s.i:=AI
     have w5:((Ac s.r.me s.i).2.1-(Ac s.p.me s.i).2.1).tmod 2300=0:=SW
     exfalso;simp only [w1,w2,w3,w4,w5,DT,ne_eq,AY,V7] at c4<;>first|omega|(simp only [Cj] at*;omega) |exact c4 (q3 (eq_of_beq c3))
    ·refine AG (λc5=>?_) (λc5=>?_)
     ·refine AG (λc6=>?_) (λc6=>?_)
      ·exact aKI
      ·refine AG (λc7=>?_) (λc7=>?_)
       ·exact aKJ
       ·refine AG (λc8=>?_) (λc8=>?_)
        ·exact aKK
        ·refine AG (λc9=>?_) (λc9=>?_)
         ·have c1:s.i<s.n:=AO
          have hi:((s.i.toNat:Nat):Int)=s.i:=BQ h0
          obtain ⟨q,b1,b2⟩:=hq s.i.toNat A0;rw [hi] at b1 b2;unfold Hj at q;rw [hi] at q
          have w1:A9 ((Ac s.r.me s.i).2.1-(Ac s.p.me s.i).2.1)=(Ac s.r.me s.i).2.1-(Ac s.p.me s.i).2.1:=AI
          have ct:¬s.p.tk=s.r.tk:=Bq.1 c2
          split at q
          ·rename_i e;exact absurd e ct
          obtain ⟨q1,q2,q3,q4,q5,q6⟩:=q
          have w2:A9 ((BC s.r.mi s.i).2.2-(BC s.p.mi s.i).2.2)=(Ac s.r.me s.i).2.1-(Ac s.p.me s.i).2.1:=SU
          have w3:A9 (2300*gi s.dw s.i)=2300*gi s.dw s.i:=AI
          have w4:A9 (6900*gi s.dw s.i)=6900*gi s.dw s.i:=AI
          have w5:((Ac s.r.me s.i).2.1-(Ac s.p.me s.i).2.1).tmod 2300=0:=SW
          exfalso;simp only [w1,w2,w3,w4,w5,DT,ne_eq,AY,V7] at c9<;>first|omega|(simp only [Cj] at*;omega) |exact c9 (q3 (eq_of_beq c8))
         ·exact aKM
     ·refine AG (λc6=>?_) (λc6=>?_)
      ·exact aKI
      ·refine AG (λc7=>?_) (λc7=>?_)
       ·exact aKJ
       ·refine AG (λc8=>?_) (λc8=>?_)
        ·exact aKK
        ·exact aKM
 ·rfl
def QQ:AS P3:=⟨0,126,[2,3,4,6,7,41,42],[],λs=>[.xl A7 s.dw,.own 0 0,.own 1 0,s.b,s.nn,s.n,s.i],λs=>[pB s.p,pB s.r],λv b=>⟨Az A7 v 0,Eb v 3,AK v 4,AK v 5,AK v 6,rQ b 0,rQ b 1⟩,eY,λs r=> {s with b:=r.b,i:=r.i},λs=>s,λ_ s=>s,[.ret,.exit 0],iT,Y0,cZ⟩
abbrev aGG:=QQ.run
abbrev qH:=QQ.Am
def aw7:Rq Y0 eY:=by
 intro s hI;refine ⟨λc1=>⟨?_,?_,λc2=>⟨λ_=>trivial,λ_=>trivial⟩,λc2=>⟨λ_=>trivial,λc4=>⟨?_,?_,λ_=>trivial,λc5=>⟨?_,λc6=>⟨?_,λ_=>trivial,λc7=>⟨?_,λ_=>trivial,λc8=>⟨?_,λ_=>trivial,λc9=>⟨?_,λ_=>trivial,λ_=>trivial⟩⟩⟩⟩,λc6=>⟨?_,λ_=>trivial,λc11=>⟨?_,λ_=>trivial,λc12=>⟨?_,λ_=>trivial,λ_=>trivial⟩⟩⟩⟩⟩⟩⟩,λ_=>trivial⟩
 all_goals ((obtain ⟨h0,h1,h2,h3,h4⟩:=hI;have h4':=id h4;obtain ⟨⟨l1,l2,l3,l4,l5⟩,hq⟩:=h4';simp only [AY] at c1;first|omega|decide|(obtain ⟨q,_⟩:=hq s.i.toNat A0;unfold Hj at q;rw [AD (Bq.1 c2)] at q;have q1:=q.1;omega)))
def aye:List Bd:=[]
def aOd:QQ.Ok:={}
def aNx:QQ.Pf (zq):=⟨ajo,λs h=>rfl,axD,aw7⟩
def aox:SA 0 aEv QQ:=s1 aOd aNx aye kN
def aq3:Fi iT Y0 zq qH aGG:=AS.fin aOd aNx
def aRU:List LV->T LV
 | [x_p,x_r,.xl (.int .i64) dw]=>(match Mf x_p with
  |some p=>(match Mf x_r with
  |some r=> .req (MQ p r dw) (.ok true)
  |none=> .no)
  |none=> .no)
 |_=> .no
def ba (p r:PK) (dw:List Int):P3:=(⟨dw,false,(p.ca.length:Int),(p.ca.length:Int),0,p,r⟩:P3)
def aQO:List Bd:=[]
def axj (p r:PK) (dw:List Int):letI a:=(p.ca.length:Int);Bc prog AT (aQO) kN (λi=>if i=5 then QQ.lp else Af i) f7 [p,r,.xl A7 dw]=.br (((r.me.length:Int) !=a) ||(((p.me.length:Int) !=a) ||(((r.mi.length:Int) !=a) ||((p.mi.length:Int) !=a)))) (.ok false) (.req (QQ.q (ba p r dw)) (.br (Bo (qH (ba p r dw)) (.ret)) (.ok (aGG (ba p r dw)).b) (.ok true))):=AZ
def fG:=vm (S:=aRU) func7 aQO kN (L:=(λi=>if i=5 then QQ.lp else Af i)) (λb hb=>by
 rw [show B6 _=[aEv] by kernel_rfl] at hb
 simp only [B1,Bv,Bw] at hb;subst hb;exact aox) (λargs lv h=>by
 refine ⟨?_⟩;unfold aRU at h;split at h
 ·split at h
  case h_2=>cases h
  rename_i p hp;obtain rfl:=WJ hp;split at h
  case h_2=>cases h
  rename_i r hr;obtain rfl:=WJ hr;simp only [canL,canX];rw [axj];rename_i dw _ _;obtain ⟨hq,rfl⟩:=h;obtain ⟨⟨l1,l2,l3,l4,l5⟩,_⟩:=id hq
  have hE:iT (ba p r dw):=⟨rfl,rfl,rfl,hq⟩
  obtain ⟨_,_,q⟩:=aq3 _ hE
  have q:qH (ba p r dw)=.exit 0:=q
  refine ⟨λc=>?_,λ_=>⟨⟨hE,rfl,rfl⟩,λc=>?_,λ_=>rfl⟩⟩
  ·rw [l1,l2,l3,l4] at c
   simp at c
  ·rw [q] at c
   cases c
 ·cases h)
def zf {p:PK}(hJ:JP p) (hm:JD p) {e:EV}(he:BR p e=0):MQ p (B4 p e) (CW p e)/\JD (B4 p e):=by
 obtain ⟨⟨hV,hR⟩,_⟩:=id hJ
 have hJ2:=hJ.step he
 have hs:=D9.1 hV.site
 obtain ⟨m1,m2,m3,m4⟩:=anq hV hm he
 have hV2:=hJ2.1.1
 refine ⟨⟨⟨m2,by rw [hV.me,hV.ca],m3,by rw [hV.mi,hV.ca],by rw [hV.ca];omega⟩,λi hi=>⟨m4 i hi,?_,?_⟩⟩,m1⟩
 ·have:=hm i (by rw [<-hV.ca];exact hi)
  have:=hV.tk
  omega
 ·have:=m1 i (by rw [<-hV2.me,m2];exact hi)
  have:=hV2.tk
  omega
def ann {p:PK}(hJ:JP p) {ev:EW}(h1:ev.ek=1) (h2:p.tk<=1000):BR p ev.ev=0:=by
 rw [(aAc (W2.2 hJ.1.1) h1).1];exact AD A0
def aFS {p:PK}(hJ:JP p) {ev:EW}(he:BR p ev.ev=0):(B4 p ev.ev).tk=p.tk\/(ev.ek=1/\(B4 p ev.ev).tk=p.tk+1):=by
 have hv:=W2.2 hJ.1.1
 by_cases c1:ev.ek=1
 ·obtain ⟨a,b⟩:=aAc hv c1
  rw [(b (a.symm.trans he)).1];exact .inr ⟨c1,by show p.AV.tk+1=_;rw [(Sg p).2.2.2.2.2.1]⟩
 left
 by_cases c2:ev.ek=2
 ·obtain ⟨a,b⟩:=aJU hv c2;rw [(b (a.symm.trans he)).1];rfl
 by_cases c3:ev.ek=3
 ·obtain ⟨a,b⟩:=aJT hv c3;rw [(b (a.symm.trans he)).1];rfl
 by_cases c4:ev.ek=4
 ·obtain ⟨a,b⟩:=aJS hv c4;rw [(b (a.symm.trans he)).1];rfl
 by_cases c5:ev.ek=5
 ·obtain ⟨a,b⟩:=aJR hv c5;rw [(b (a.symm.trans he)).1];rfl
 by_cases c6:ev.ek=6
 ·obtain ⟨a,b⟩:=aJQ hv c6;rw [(b (a.symm.trans he)).1];rfl
 by_cases c7:ev.ek=7
 ·obtain ⟨a,b⟩:=aJP hv c7;rw [(b (a.symm.trans he)).1];rfl
 by_cases c8:ev.ek=8
 ·obtain ⟨a,b⟩:=aJO hv c8;rw [(b (a.symm.trans he)).1];rfl
 ·rw [aJN hv ⟨c1,c2,c3,c4,c5,c6,c7,c8⟩] at he
  cases he
structure P4 where
 b:Bool
 many:Int
 ops:List (Int×(Int×(Int×(Le×Dm))))
 (n i m k:Int)
 (r p:PK)
 ev:EW
def aEw:=lN (bN f6 0) 0
def ef (s:P4):T (Rd P4):=letI a:=A9 (s.many+1);letI c:=EW.ev s.ev;letI d:=MQ s.p (B4 s.p c) (CW s.p c);.br (decide (s.k<s.m)) (.br (s.ev.ek==1) (.br (decide (a>150)) (.so (.exit 2) {s with many:=a}) (.req (JP s.p) (.br ((BR s.p c) !=0) (.br (s.ev.ek==1) (.so (.ret) {s with b:=false,many:=a,r:=s.p}) (.so (.exit 2) {s with many:=a})) (.req d (.br (!true) (.so (.ret) {s with b:=false,many:=a,r:=s.p}) (.nx {s with many:=a,k:=A9 (s.k+1),p:=B4 s.p c})))))) (.req (JP s.p) (.br ((BR s.p c) !=0) (.br (s.ev.ek==1) (.so (.ret) {s with b:=false,r:=s.p}) (.so (.exit 2) s)) (.req d (.br (!true) (.so (.ret) {s with b:=false,r:=s.p}) (.nx {s with k:=A9 (s.k+1),p:=B4 s.p c})))))) (.so (.exit 2) s)
def YL (s:P4):Prop:=s.k=0/\s.many<=12*s.i/\JP s.p/\JD s.p/\(s.p.tk<=150/\s.p.tk<=s.many/\0<=s.many)/\s.m<=12/\0<=s.i/\s.i<=1000
def Y1 (s:P4):Prop:=(0<=s.k/\(s.k<=s.m\/s.k=0))/\s.many<=12*s.i+s.k/\JP s.p/\JD s.p/\(s.p.tk<=150/\s.p.tk<=s.many/\0<=s.many)/\s.m<=12/\0<=s.i/\s.i<=1000
def cf (s:P4):Nat:=(s.m-s.k).toNat
def gu (x:Ex) (s s':P4):Prop:=x=.exit 2/\JP s'.p/\JD s'.p/\(s'.p.tk<=150/\s'.p.tk<=s'.many/\0<=s'.many)/\s'.many<=12*s'.i+12
def ajq:∀s,YL s->Y1 s:=by
 rintro s ⟨h0,h1,h2⟩
 exact ⟨A0,A0,h2⟩
def awS:Da Y1 cf gu ef:=by
 intro s hI;unfold ef;dsimp only [T.rd,T.rl,T.rv];obtain ⟨⟨h0,h0'⟩,h1,hJ,hm,⟨t1,t2,t3⟩,h3,h4,h5⟩:=hI
 have w:A9 (s.many+1)=s.many+1:=AI
 have wk:A9 (s.k+1)=s.k+1:=AI
 rw [w,wk];refine AG (λc1=>?_) (λc1=>⟨rfl,hJ,hm,⟨t1,t2,t3⟩,by simp only [Cl] at c1;omega⟩)
 simp only [AY] at c1;refine AG (λc2=>?_) (λc2=>?_)
 ·have c2:s.ev.ek=1:=eq_of_beq c2
  refine AG (λc3=>⟨rfl,hJ,hm,⟨t1,AP,AP⟩,AP⟩) (λc3=>?_)
  have c3:¬s.many+1>150:=JF c3
  refine AG (λc4=>absurd (ann hJ c2 A0) (DT.1 c4)) (λc4=>?_)
  have c4:BR s.p s.ev.ev=0:=DH c4
  refine AG (λc5=>by cases c5) (λ_=>?_)
  have hk:=aFS hJ c4
  exact ⟨⟨⟨AP,AP⟩,AP,hJ.step c4,(zf hJ hm c4).2,⟨AP,AP,AP⟩,h3,h4,h5⟩,by simp only [cf];omega⟩
 ·have c2:¬s.ev.ek=1:=Bq.1 c2
  refine AG (λc4=>AG (λc5=>absurd (eq_of_beq c5) c2) (λ_=>⟨rfl,hJ,hm,⟨t1,t2,t3⟩,A0⟩)) (λc4=>?_)
  have c4:BR s.p s.ev.ev=0:=DH c4
  refine AG (λc5=>by cases c5) (λ_=>?_)
  have hk:=aFS hJ c4
  exact ⟨⟨⟨AP,AP⟩,AP,hJ.step c4,(zf hJ hm c4).2,⟨AP,AP,t3⟩,h3,h4,h5⟩,by simp only [cf];omega⟩
def RA:AS P4:=⟨0,75,[3,8,9,10,12,15,29,30,31,41,42],[],λs=>[.fn 7 [],.own 0 0,s.b,.own 1 0,s.many,.own 2 0,.xl (.pair (.int .u8) (.pair (.int .u8) (.pair (.int .u16) (.pair AX BO)))) s.ops,s.n,s.i,s.m,s.k],λs=>[pB s.r,pB s.p,eB s.ev],λv b=>⟨Eb v 2,AK v 4,Ai (.pair (.int .u8) (.pair (.int .u8) (.pair (.int .u16) (.pair AX BO)))) (v.getD 6 .junk),AK v 7,AK v 8,AK v 9,AK v 10,rQ b 0,rQ b 1,rE b 0 2⟩,ef,λs r=> {s with b:=r.b,many:=r.many,k:=r.k,r:=r.r,p:=r.p},λs=>s,λ_ s=>s,[.exit 2,.ret],YL,Y1,cf⟩
abbrev mC:=RA.run
abbrev qJ:=RA.Am
def aw9:Rq Y1 ef:=by
 intro s hI;refine ⟨λc1=>⟨λc2=>⟨λ_=>trivial,λc3=>⟨?_,λc4=>⟨λ_=>trivial,λ_=>trivial⟩,λc4=>⟨?_,λ_=>trivial,λ_=>trivial⟩⟩⟩,λc2=>⟨?_,λc7=>⟨λ_=>trivial,λ_=>trivial⟩,λc7=>⟨?_,λ_=>trivial,λ_=>trivial⟩⟩⟩,λ_=>trivial⟩
 all_goals ((obtain ⟨_,_,hJ,hm,_⟩:=hI;first|exact hJ|exact (zf hJ hm (DH (by assumption))).1))
def ayd:List Bd:=[fG,fH,Wt,vJ]
def aOf:RA.Ok:={}
def aNz:RA.Pf (gu):=⟨ajq,λs h=>rfl,awS,aw9⟩
def aoz:SA 0 aEw RA:=s1 aOf aNz ayd kN
def aq7:Fi YL Y1 gu qJ mC:=AS.fin aOf aNz
def awc (x1 x3:Int):opT x1 x3<=12:=by
 unfold opT;split
 ·decide
 ·have h1:=Int.tmod_lt_of_pos (A9 x3) (show (0:Int)<12 by decide)
  have h2:=Int.lt_tmod_of_pos (A9 x3) (show (0:Int)<12 by decide)
  rw [AI];omega
structure LC where
 b:Bool
 many:Int
 ops:List (Int×(Int×(Int×(Le×Dm))))
 (n i:Int)
 (r p:PK)
def pH:=bN f6 0
def OJ (s:LC):P4:=(⟨s.b,s.many,s.ops,s.n,s.i,opT (gx (e:=.pair (.int .u8) (.pair (.int .u8) (.pair (.int .u16) (.pair AX BO)))) s.ops s.i).1 (gx (e:=.pair (.int .u8) (.pair (.int .u8) (.pair (.int .u16) (.pair AX BO)))) s.ops s.i).2.2.1,0,s.r,s.p,opE s.p (gx (e:=.pair (.int .u8) (.pair (.int .u8) (.pair (.int .u16) (.pair AX BO)))) s.ops s.i).1 (gx (e:=.pair (.int .u8) (.pair (.int .u8) (.pair (.int .u16) (.pair AX BO)))) s.ops s.i).2.1 (gx (e:=.pair (.int .u8) (.pair (.int .u8) (.pair (.int .u16) (.pair AX BO)))) s.ops s.i).2.2.1 (gx (e:=.pair (.int .u8) (.pair (.int .u8) (.pair (.int .u16) (.pair AX BO)))) s.ops s.i).2.2.2.1.1 (gx (e:=.pair (.int .u8) (.pair (.int .u8) (.pair (.int .u16) (.pair AX BO)))) s.ops s.i).2.2.2.1.2.1 (gx (e:=.pair (.int .u8) (.pair (.int .u8) (.pair (.int .u16) (.pair AX BO)))) s.ops s.i).2.2.2.1.2.2.1 (gx (e:=.pair (.int .u8) (.pair (.int .u8) (.pair (.int .u16) (.pair AX BO)))) s.ops s.i).2.2.2.1.2.2.2.1 (gx (e:=.pair (.int .u8) (.pair (.int .u8) (.pair (.int .u16) (.pair AX BO)))) s.ops s.i).2.2.2.1.2.2.2.2 (gx (e:=.pair (.int .u8) (.pair (.int .u8) (.pair (.int .u16) (.pair AX BO)))) s.ops s.i).2.2.2.2.1 (gx (e:=.pair (.int .u8) (.pair (.int .u8) (.pair (.int .u16) (.pair AX BO)))) s.ops s.i).2.2.2.2.2.1 (gx (e:=.pair (.int .u8) (.pair (.int .u8) (.pair (.int .u16) (.pair AX BO)))) s.ops s.i).2.2.2.2.2.2.1 (gx (e:=.pair (.int .u8) (.pair (.int .u8) (.pair (.int .u16) (.pair AX BO)))) s.ops s.i).2.2.2.2.2.2.2⟩:P4)
def eZ (s:LC):T (Rd LC):=letI a:=mC (OJ s);.br (decide (s.i<s.n)) (.ix s.i (s.ops.length) (.req (RA.q (OJ s)) (.br (Bo (qJ (OJ s)) (.exit 2)) (.nx {s with b:=a.b,many:=a.many,i:=A9 (s.i+1),r:=a.r,p:=a.p}) (.so (.ret) {s with b:=a.b,many:=a.many,r:=a.r,p:=a.p})))) (.so (.exit 0) s)
def iU (s:LC):Prop:=s.i=0/\s.many=0/\JP s.p/\JD s.p/\(s.p.tk<=150/\s.p.tk<=s.many/\0<=s.many)/\s.n=(s.ops.length:Int)/\s.n<=1000
def U1 (s:LC):Prop:=(0<=s.i/\s.i<=s.n)/\s.many<=12*s.i/\JP s.p/\JD s.p/\(s.p.tk<=150/\s.p.tk<=s.many/\0<=s.many)/\s.n=(s.ops.length:Int)/\s.n<=1000
def s9 (s:LC):Nat:=(s.n-s.i).toNat
def zr (x:Ex) (s s':LC):Prop:=x=.exit 0
def ajp:∀s,iU s->U1 s:=by
 rintro s ⟨h0,h1,h2,h3,h4,h5,h6⟩
 exact ⟨A0,A0,h2,h3,h4,h5,h6⟩
def aOL {s:LC}(hI:U1 s) (c1:s.i<s.n):gu (qJ (OJ s)) (OJ s) (mC (OJ s))/\YL (OJ s):=by
 obtain ⟨⟨h0,h1⟩,h2,hJ,hm,ht,h3,h4⟩:=id hI
 have hE:YL (OJ s):=⟨rfl,h2,hJ,hm,ht,awc _ _,h0,by show s.i<=1000;omega⟩
 obtain ⟨_,_,q⟩:=aq7 _ hE;exact ⟨q,hE⟩
def awR:Da U1 s9 zr eZ:=by
 intro s hI;unfold eZ;dsimp only [T.rd,T.rl,T.rv];obtain ⟨⟨h0,h1⟩,h2,hJ,hm,ht,h3,h4⟩:=id hI;refine AG (λc1=>?_) (λc1=>rfl)
 have c1:s.i<s.n:=AO
 obtain ⟨x1,x2,x3,x4,x5⟩:=(aOL hI c1).1;rw [AI (x:=s.i+1)];refine AG (λc2=>?_) (λc2=>?_)
 ·have x5:(mC (OJ s)).many<=12*s.i+12:=x5
  exact ⟨⟨⟨AP,AP⟩,AP,x2,x3,x4,h3,h4⟩,by simp only [s9];omega⟩
 ·rw [x1] at c2
  cases c2
def R9:AS LC:=⟨0,75,[3,8,9,10,12,29,30,31],[.ps 8 0 Ao,.ps 8 1 .str,.ps 8 2 B8,.ps 8 3 Au,.ps 8 4 B9,.ps 8 7 AX,.ps 8 9 (.int .u8),.ps 8 10 BD,.ps 8 12 Bu,.ps 8 13 AX,.ps 8 14 By,.ps 8 15 D6,.ps 8 16 BO,.ps 8 17 Cp,.ps 8 18 A7,.ps 8 19 A7],λs=>[.fn 7 [],.own 0 0,s.b,.own 1 0,s.many,.xl (.pair (.int .u8) (.pair (.int .u8) (.pair (.int .u16) (.pair AX BO)))) s.ops,s.n,s.i],λs=>[pB s.r,pB s.p],λv b=>⟨Eb v 2,AK v 4,Ai (.pair (.int .u8) (.pair (.int .u8) (.pair (.int .u16) (.pair AX BO)))) (v.getD 5 .junk),AK v 6,AK v 7,rQ b 0,rQ b 1⟩,eZ,λs r=> {r with ops:=s.ops,n:=s.n},λs=>s,λ_ s=>s,[.ret,.exit 0],iU,U1,s9⟩
abbrev cF:=R9.run
abbrev qI:=R9.Am
def aw8:Rq U1 eZ:=by
 intro s hI;refine ⟨λc1=>⟨?_,?_,λ_=>trivial,λ_=>trivial⟩,λ_=>trivial⟩
 all_goals ((obtain ⟨⟨h0,h1⟩,h2,hJ,hm,ht,h3,h4⟩:=id hI;simp only [AY] at c1;first|omega|exact ⟨(aOL hI c1).2,rfl,rfl⟩))
def aQN:List Bd:=[fG,fH,Wt,vJ]
def aOe:R9.Ok:={}
def aNy:R9.Pf (zr):=⟨ajp,λs h=>rfl,awR,aw8⟩
def aoy:SA 0 pH R9:=AS.snd aOe aNy (mX (Γ:=aQN) (K:=Fh) (L:=(λi=>if i=10 then RA.lp else Af i)) (gk aQN) kN.h pH (λb hb=>by
 rw [show B6 _=[aEw] by kernel_rfl] at hb
 simp only [B1,Bv,Bw] at hb;subst hb;exact aoz)) (λs=>AZ)
def aq6:Fi iU U1 zr qI cF:=AS.fin aOe aNy
def ay7 {cs:List Cd}{os:List ByteArray}{ks:List Ko}{gs:List Ch}{bs:List Ba}{dr:List Int}(h:E5 cs os ks gs bs dr=0):JD (newP cs os ks gs bs dr):=by
 have hs:=(aQC h).1.site
 have hp:newP cs os ks gs bs dr=_:=AD (by rw [h];decide)
 rw [hp] at hs|-
 have hs:=D9.1 hs
 intro k hk
 have hk:k<gs.length:=hk
 have e:Ac ((Ek gs.length).map (λk=>(k+1,0,false))) (k:Int)=((k:Int)+1,0,false):=by
  unfold Ac;rw [Bs,Cx]
  simp [Ek,hk]
 simp only [e]
 have:gs.length<=16:=hs.1.2.2.2.2.1
 exact ⟨trivial,⟨A0,A0⟩,A0,A0⟩
def plS (cs:List Cd) (os:List ByteArray) (ks:List Ko) (gs:List Ch) (bs:List Ba) (dr:List Int) (ops:List ((Int×(Int×(Int×(Le×Dm)))))):LC:=⟨false,0,ops,(ops.length:Int),0,PK0,newP cs os ks gs bs dr⟩
def plP (cs:List Cd) (os:List ByteArray) (ks:List Ko) (gs:List Ch) (bs:List Ba) (dr:List Int) (ops:List ((Int×(Int×(Int×(Le×Dm)))))):PK:=if E5 cs os ks gs bs dr≠0 then newP cs os ks gs bs dr else (cF (plS cs os ks gs bs dr ops)).p
def aRV:List LV->T LV
 | .agg a::r=>s5 a λcs os ks gs bs=>(match r with
  | [.xl (.int .i64) dr,.xl (.pair (.int .u8) (.pair (.int .u8) (.pair (.int .u16) (.pair (.pair (.int .i64) (.pair (.int .i64) (.pair (.int .i64) (.pair (.int .i64) (.int .i64))))) (.pair .bool (.pair (.int .i64) (.pair (.int .i64) (.int .i64)))))))) ops,.fn 7 []]=> .req (dr.length<=1000/\ops.length<=1000) (.ok (.AM [plP cs os ks gs bs dr ops,true]))
  |_=> .no)
 |_=> .no
def aB1 (cs:List Cd) (os:List ByteArray) (ks:List Ko) (gs:List Ch) (bs:List Ba) (dr:List Int) (ops:List (Int×(Int×(Int×(Le×Dm))))):LC:=(⟨false,0,ops,(ops.length:Int),0,⟨([]:List Cd),([]:List ByteArray),([]:List Ko),([]:List Ch),([]:List Ba),0,false,([]:List Le),0,([]:List Int),([]:List Ra),0,([]:List St),([]:List Le),([]:List Mi),([]:List Me),([]:List Dm),([]:List Lk),([]:List Int),([]:List Int)⟩,newP cs os ks gs bs dr⟩:LC)
def ayb:List Bd:=[fG,fH,Wt,vJ]
def ahs:=vm (S:=aRV) func6 ayb kN (L:=(λi=>if i=6 then R9.lp else Af i)) (λb hb=>by
 rw [show B6 _=[pH] by kernel_rfl] at hb
 simp only [B1,Bv,Bw] at hb;subst hb;exact aoy) (λargs lv h=>by
 unfold aRV at h;split at h
 case h_2=>cases h
 replace h:=I8 h
 obtain ⟨cs,os,ks,gs,bs,rfl,h⟩:=h;split at h
 ·rename_i dr ops
  refine Aj (letI a:=aB1 cs os ks gs bs dr ops;.req (dr.length<=1000) (.br ((E5 cs os ks gs bs dr) !=0) (.ok (.AM [((newP cs os ks gs bs dr)),true])) (.req (R9.q a) (.br (Bo (qI a) (.ret)) (.ok (.AM [((cF a).r),(cF a).b])) (.ok (.AM [((cF a).p),true])))))) ?_;obtain ⟨⟨h1,h2⟩,rfl⟩:=h;refine ⟨h1,λc=>?_,λc=>?_⟩
  ·have c:=DT.1 c
   rw [show plP cs os ks gs bs dr ops=newP cs os ks gs bs dr from AE c];rfl
  have c:=DH c
  have hE:iU (aB1 cs os ks gs bs dr ops):=by
   have hp:newP cs os ks gs bs dr=_:=AD aG
   refine ⟨rfl,rfl,aQD c,ay7 c,?_,rfl,by show (ops.length:Int)<=1000;omega⟩
   show (newP cs os ks gs bs dr).tk<=150/\(newP cs os ks gs bs dr).tk<=0/\(0:Int)<=0
   rw [hp];exact ⟨by show (0:Int)<=150;decide,Gl _,Gl _⟩
  obtain ⟨_,_,q⟩:=aq6 _ hE
  have q:qI (aB1 cs os ks gs bs dr ops)=.exit 0:=q
  refine ⟨⟨hE,rfl,rfl⟩,λc2=>?_,λ_=>?_⟩
  ·rw [q] at c2
   cases c2
  ·rw [show plP cs os ks gs bs dr ops=_ from AD aG]
   rfl
 ·cases h)
def aSh:List LV->T LV
 | .agg a::r=>s5 a λcs os ks gs bs=>(match r with
  | []=> .ok (decide (cs.length<=40/\os.length<=40/\ks.length<=40/\gs.length<=40/\bs.length<=40))
  |_=> .no)
 |_=> .no
def aya:List Bd:=[]
def ahp:=vo (S:=aSh) func12 aya kN (λargs lv h=>by
 unfold aSh at h;split at h
 case h_2=>cases h
 replace h:=I8 h
 obtain ⟨cs,os,ks,gs,bs,rfl,h⟩:=h;split at h
 ·refine Aj (.ok (.v (.bool ((decide ((cs.length:Int)<=40))&&((decide ((os.length:Int)<=40))&&((decide ((ks.length:Int)<=40))&&((decide ((gs.length:Int)<=40))&&(decide ((bs.length:Int)<=40))))))))) ?_
  obtain rfl:=h;refine Ax (λz=>LV.v (.bool z)) ?_
  rw [I0];simp only [AU,AY];omega
 ·cases h)
def aRg:List LV->T LV
 | .agg a::r=>s5 a λcs os ks gs bs=>(match r with
  | [.xl (.int .i64) dr,.xl (.pair (.int .u8) (.pair (.int .u8) (.pair (.int .u16) (.pair (.pair (.int .i64) (.pair (.int .i64) (.pair (.int .i64) (.pair (.int .i64) (.int .i64))))) (.pair .bool (.pair (.int .i64) (.pair (.int .i64) (.int .i64)))))))) ops]=> .ok true
  |_=> .no)
 |_=> .no
def acD:=uS f3 aRg
def u0:List Bd:=[aln,ahs,fG,ahp]
def ayn:As:=kI u0 (l0 u0)
def ahy:VV 3 acD:=vo func3 u0 ayn (λargs lv h=>by
 unfold aRg at h;split at h
 case h_2=>cases h
 replace h:=I8 h
 obtain ⟨cs,os,ks,gs,bs,rfl,h⟩:=h;split at h
 ·rename_i dr ops
  refine Aj (.br (!((decide (cs.length<=40/\os.length<=40/\ks.length<=40/\gs.length<=40/\bs.length<=40))&&((decide ((dr.length:Int)<=40))&&(decide ((ops.length:Int)<=40))))) (.ok true) (.req (dr.length<=1000/\ops.length<=1000) (.ok (.v (.bool (true&&true)))))) ?_;obtain rfl:=h;refine ⟨λ_=>rfl,λc=>⟨?_,rfl⟩⟩
  simp only [Hy,AU,AY] at c;obtain ⟨_,c2,c3⟩:=c;exact ⟨A0,A0⟩
 ·cases h)
end Go.Proofs.YtgmhhjldohjpmaaGreatDoor
namespace Go.Sx
open Go Go.RowKit Go.Proofs.YtgmhhjldohjpmaaGreatDoor
def mb:Ty->Nat
 | .int k=>k.bits / 8
 | .bool=>1
 | .str=>16
 | .sl _=>24
 | .pair a b=>mb a+mb b
def wfD:(t:Ty)->t.D->Prop
 | .int k,n=>(Lit.int k n).wf=true
 | .bool,_=>True
 | .str,s=>s.size<=maxLen
 | .sl e,l=>(List.length l<=maxLen/\List.length l*mb e<=reachBytes)/\∀d,d∈l->wfD e d
 | .pair a b,d=>wfD a d.1/\wfD b d.2
def Wm (P:Program):Nat->List Field->Bool
 |_,[]=>true
 |o,f::fs=>decide (f.offset=o)&&Wm P (o+P.cellsOf f.type) fs
def LX (P:Program):Nat->TypeId->Bool
 |0,_=>false
 |m+1,t=>match P.underlying t with
  |some (.int _) |some .bool|some .string=>decide (P.cellsOf t=1)
  |some (.struct fs)=>Wm P 0 fs.toList&&decide (P.cellsOf t=((fs.toList.map (·.type)).map P.cellsOf).sum)&&fs.toList.all (λf=>LX P m f.type)
  |some (.array n e)=>decide (P.cellsOf t=((List.replicate n e).map P.cellsOf).sum)&&LX P m e
  |some (.slice e)=>decide (P.cellsOf t=1)&&decide (1<=P.cellsOf e)&&(IE P m e).any (λty=>ty.n==P.cellsOf e&&decide (mb ty<=P.bytesOf e))&&LX P m e
  |_=>false
variable {H : Type} {enc : TypeId × Value -> H} {P : Program} {w : World} {base : Nat} {spare : Nat -> Bool} {held : Bool} {β : Nat -> Loc}
def Good (enc:TypeId×Value->H) (P:Program) (w:World) (base:Nat) (spare:Nat->Bool) (held:Bool) (t:TypeId) (cs:List Value):Prop:=∃n x,DataW.trod enc P w base spare held n t cs=some x/\∀k,k∈x.1.weights P t->k<=reachBytes
def oh {e:TypeId}{d:DataW H}{k:Nat}(hk:k∈d.weights P e):∀ {l:List (DataW H)}{i:Nat},l[i]? =some d->k∈DataW.weightsAll P e l
 | [],_,h=>Ah
 |x::l,0,h=>by
  simp only [DataW.weightsAll,Bp]
  grind
 |x::l,i+1,h=>by
  simp only [DataW.weightsAll,Bp];exact .inr (oh hk h)
def aCq {t:TypeId}{d:DataW H}{k:Nat}(hk:k∈d.weights P t):∀ {ts:List TypeId}{l:List (DataW H)}{i:Nat},ts[i]? =some t->l[i]? =some d->k∈DataW.weightsEach P ts l
 | [],_,_,h,_=>Ah
 |_::_,[],_,_,h=>Ah
 |u::ts,x::l,0,h1,h2=>by
  simp only [DataW.weightsEach,Bp]
  grind
 |u::ts,x::l,i+1,h1,h2=>by
  simp only [DataW.weightsEach,Bp];exact .inr (aCq hk h1 h2)
def aCr:∀ {ts us:List TypeId}{ds gs:List (DataW H)},ds.length=ts.length->∀k,k∈DataW.weightsEach P ts ds->k∈DataW.weightsEach P (ts++us) (ds++gs)
 | [],_,[],_,_,_,h=>by simp [DataW.weightsEach] at h
 | [],_,_::_,_,h,_,_=>Ah
 |_::_,_,[],_,h,_,_=>Ah
 |t::ts,us,d::ds,gs,h,k,hk=>by
  simp only [DataW.weightsEach,Bp,I5] at hk|-;rcases hk with hk|hk
  ·grind
  ·exact .inr (aCr AA k hk)
def adz:∀ {ts:List TypeId}{vs:List Value}{ds:List (DataW H)}{ps:List MemPlace},DataW.TrodAll enc P w base spare held ts vs ds ps->ds.length=ts.length
 | [],[],[],_,_=>rfl
 | [],_::_,_,_,h=>Ah
 | [],[],_::_,_,h=>Ah
 |_::_,[],_,_,h=>Ah
 |_::_,_::_,[],_,h=>Ah
 |_::_,_::_,_::_,_,h=>by
  obtain ⟨_,_,_,h2,_⟩:=h
  simp [adz h2]
def RL.append' {Z:Nat->Prop}:∀ {l1 l2:List LV}{y1 y2:List Value},RL β Z w l1 y1->RL β Z w l2 y2->RL β Z w (l1++l2) (y1++y2)
 | [],l2,y1,y2,h1,h2=>by simp only [RL] at h1;subst h1;exact h2
 |x::xs,l2,y1,y2,h1,h2=>by
  obtain ⟨y,zs,rfl,h3,h4⟩:=h1;exact ⟨y,zs++y2,rfl,h3,RL.append' h4 h2⟩
def uQ {Z:Nat->Prop}:∀(t:Ty) (d:t.D) (cs:List Value) (b o:Nat),RL β Z w (Bk t d) cs->(∀(j:Nat) v,cs[j]? =some v->w.cell? ⟨b,o+j,none⟩=some v)->RD Z w t d b o
 | .int k,d,cs,b,o,h,hc=>by
  exact xB
 | .bool,d,cs,b,o,h,hc=>by
  exact xB
 | .str,d,cs,b,o,h,hc=>by
  exact xB
 | .sl e,d,cs,b,o,h,hc=>by
  obtain ⟨y,zs,rfl,⟨a,cap,rfl,h2,h3⟩,_⟩:=h;simp only [RD];exact ⟨a,cap,hc 0 _ rfl,h2,h3⟩
 | .pair p q,d,cs,b,o,h,hc=>by
  simp only [Bk] at h
  have hl:=RL.length h
  have h1:=h.take_drop 0 p.n
  have h2:RL β Z w ((Bk p d.1++Bk q d.2).drop p.n) (cs.drop p.n):=by
   refine RL.CO (by simp [hl,Jr]) λi z hz=>?_
   rw [Ew] at hz|-;exact RL.get _ _ h hz
  have t1:((Bk p d.1++Bk q d.2).drop 0).take p.n=Bk p d.1:=by
   rw [CJ,aK2 yA,D3 yA]
  have t2:(Bk p d.1++Bk q d.2).drop p.n=Bk q d.2:=by
   rw [wF yA,EJ AA,Di]
  rw [t1,CJ] at h1;rw [t2] at h2;simp only [RD];refine ⟨uQ p d.1 _ b o h1 (λj v hv=>?_),uQ q d.2 _ b (o+p.n) h2 (λj v hv=>?_)⟩
  ·exact aMA
  ·rw [Ew] at hv
   grind
def oQ {Z:Nat->Prop}{r:TypeId->Option Ty}{sz:TypeId->Nat}{Gd:TypeId->List Value->Prop}:∀(ts:List TypeId) (ty:Ty) (cs:List Value),Uf r ts=some ty->
  (∀t∈ts,∀ty c,r t=some ty->Gd t c->∃d:ty.D,RL β Z w (Bk ty d) c/\wfD ty d)->cs.length=(ts.map sz).sum->(∀pre t post,ts=pre++t::post->Gd t ((cs.drop (pre.map sz).sum).take (sz t)))->∃d:ty.D,RL β Z w (Bk ty d) cs/\wfD ty d
 | [],ty,cs,h,_,_,_=>by simp [Uf] at h
 | [t],ty,cs,h,ih,hl,hg=>by
  have:=ih t AJ ty _ h (hg [] t [] rfl)
  have e:(cs.drop (List.map sz []).sum).take (sz t)=cs:=by
   grind
  rw [e] at this;exact this
 | t::u::ts,ty,cs,h,ih,hl,hg=>by
  simp only [Uf] at h;split at h
  ·rename_i a b ha hb
   simp only [Ad] at h;subst h;obtain ⟨d1,a1,a2⟩:=ih t AJ a _ ha (hg [] t (u::ts) rfl)
   obtain ⟨d2,b1,b2⟩:=oQ (sz:=sz) (Gd:=Gd) (u::ts) b (cs.drop (sz t)) hb (λt' ht=>ih t' AA) AA (λpre t' post e=>by
    have:=hg (t::pre) t' post (by rw [e];rfl)
    simpa using this)
   refine ⟨(d1,d2),?_,by simp only [wfD];exact ⟨a2,b2⟩⟩
   have:=RL.append' a1 b1
   simp only [Bk];exact OE
  ·cases h
def pR:∀(fs:List Field) (o:Nat),Wm P o fs=true->∀pre f post,fs=pre++f::post->f.offset=o+((pre.map (·.type)).map P.cellsOf).sum
 | [],o,_,pre,f,post,e=>by cases pre<;>cases e
 |g::fs,o,h,[],f,post,e=>by
  simp only [Wm,AU,AY] at h
  grind
 |g::fs,o,h,p::pre,f,post,e=>by
  simp only [Wm,AU,AY] at h;simp only [I5,HK] at e
  have:=pR fs _ h.2 pre f post e.2
  grind
def nk {Z:Nat->Prop}(hZ:∀b,b<w.heap.size->Z b):∀(m:Nat) (t:TypeId) (ty:Ty),LX P m t=true->IE P m t=some ty->∀cs,Good enc P w base spare held t cs->∃d:ty.D,RL β Z w (Bk ty d) cs/\wfD ty d
 |0,t,_,h,_,_,_=>Ah
 | m + 1,t,ty,h,hty,cs,⟨n,x,hx,hwt⟩=>by
  simp only [LX] at h;simp only [IE] at hty;split at h
  ·rename_i k hu
   obtain ⟨z,rfl,_,hw⟩:=DataW.trod_int hu hx;simp only [hu,Ad] at hty;subst hty;exact ⟨z,yN,hw⟩
  ·rename_i hu
   obtain ⟨z,rfl,_⟩:=DataW.trod_bool hu hx;simp only [hu,Ad] at hty;subst hty;exact ⟨z,yN,trivial⟩
  ·rename_i hu
   obtain ⟨z,rfl,_,hs⟩:=DataW.trod_string hu hx;simp only [hu,Ad] at hty;subst hty;exact ⟨z,yN,hs⟩
  ·rename_i fs hu
   simp only [AU,AY,BL] at h;obtain ⟨⟨h1,h2⟩,h3⟩:=h;obtain ⟨xs,n',_,rfl,hl,hxl,hf⟩:=DataW.trod_struct hu hx;simp only [DataW.weights,hu] at hwt;simp only [hu] at hty;refine oQ (Gd:=Good enc P w base spare held) (sz:=P.cellsOf) (fs.toList.map (·.type)) ty cs hty (λt' ht ty' c hty' hc=>?_) ka (λpre t' post e=>?_)
   ·obtain ⟨f,hf1,rfl⟩:=Eg.1 ht
    exact nk hZ m f.type ty' (h3 f hf1) hty' c hc
   ·obtain ⟨fpre,frest,e1,e2,e3⟩:=List.map_eq_append_iff.1 e
    obtain ⟨f,fpost,rfl,e4,e5⟩:=List.map_eq_cons_iff.1 e3
    have ho:=pR fs.toList 0 h1 fpre f fpost e1
    have hi:fs[fpre.length]? =some f:=by
     exact aL5
    have hg:=hf _ f hi
    have hlt:fpre.length<fs.size:=(HO.1 hi).1
    rw [ho,EK] at hg;refine ⟨n',xs[fpre.length]' A0,?_,λk hk=>?_⟩
    ·rw [<-e2,<-e4,hg,DF]
    ·rw [<-e4] at hk
     exact hwt k (aCq hk (i:=fpre.length) (by rw [e1];simp) xn)
  ·rename_i n0 e hu
   simp only [AU,AY] at h;obtain ⟨h2,h3⟩:=h;obtain ⟨xs,n',_,rfl,hl,hxl,hf⟩:=DataW.trod_array hu hx;simp only [DataW.weights,hu] at hwt;simp only [hu] at hty;refine oQ (Gd:=Good enc P w base spare held) (sz:=P.cellsOf) (List.replicate n0 e) ty cs hty (λt' ht ty' c hty' hc=>?_) ka (λpre t' post e'=>?_)
   ·rw [(Pb.1 ht).2] at hc hty'
    exact nk hZ m e ty' h3 hty' c hc
   ·obtain ⟨c1,c2,c3⟩:=aK3.1 e'
    have ht':t'=e:=by
     have:t'∈List.replicate n0 e:=by rw [e'];simp
     exact (Pb.1 this).2
    have hlen:pre.length<n0:=by
     have:=Ax List.length e'
     simp at this;omega
    have hg:=hf pre.length hlen
    refine ⟨n',xs[pre.length]' A0,?_,λk hk=>?_⟩
    ·have hs:(pre.map P.cellsOf).sum=pre.length*P.cellsOf e:=kU
     rw [hs,ht',hg,DF]
    ·rw [ht'] at hk
     exact hwt k (oh hk (i:=pre.length) xn)
  ·rename_i e hu
   simp only [AU,AY] at h;obtain ⟨⟨⟨h1,h2⟩,h4⟩,h3⟩:=h;simp only [hu,Option.map_eq_some_iff] at hty;obtain ⟨te,hte,rfl⟩:=hty;rw [hte] at h4;simp only [Option.any_some,AU,AY,Cj] at h4;obtain ⟨h4,h5⟩:=h4;rcases DataW.trod_slice hu hx with ⟨rfl,_⟩ |⟨a,len,cap,elems,rest,n',_,rfl,rfl,hb,hlc,hm,hlen,hel,_,_⟩
   ·refine ⟨([]:List te.D),?_,⟨Kr _,AJ⟩,λd hd=>VX⟩
    simp only [Bk,RL,R]
    grind
   ·simp only [DataW.weights,hu] at hwt
    have hroom:=hwt _ (List.mem_cons_self ..)
    have each:∀i,∃d:te.D,i<len->∃c,w.cells? base (a.add (i*P.cellsOf e)) (P.cellsOf e)=some c/\RL β Z w (Bk te d) c/\wfD te d:=λi=>by
     by_cases hi:i<len
     ·have he:=hel i hi
      rw [DF A0] at he;obtain ⟨c,hc,ht⟩:=Option.bind_eq_some_iff.1 he
      obtain ⟨d,l1,l2⟩:=nk hZ m e te h3 hte c ⟨n',_,ht,λk hk=>hwt k (by
       simp only [B1,Bp];exact .inr (.inl (oh hk (i:=i) xn)))⟩
      exact ⟨d,λ_=>⟨c,hc,l1,l2⟩⟩
     ·exact ⟨te.dflt,λh=>absurd h hi⟩
    have ⟨g,hg⟩:=wZ each
    have hlg:List.length ((List.range len).map g)=len:=AJ
    refine ⟨(List.range len).map g,?_,⟨by rw [hlg];omega,by rw [hlg];exact G8 (Nat.mul_le_mul Cn h5) hroom⟩,λd hd=>?_⟩
    ·simp only [Bk,RL,R]
     refine ⟨_,[],rfl,⟨some a,cap,by rw [hlg],by rw [hlg];omega,λhn=>?_⟩,rfl⟩
     rw [hlg] at hn;obtain ⟨c0,hc0,hr0,_⟩:=hg 0 hn;obtain ⟨_,hcl0,hat0⟩:=World.cells?_some hc0
     have hcell0:∃z,w.cell? ((a.add (0*P.cellsOf e)).add 0)=some z:=by
      grind
     obtain ⟨z0,hz0⟩:=hcell0;obtain ⟨b,off,spot⟩:=a
     have hsp:spot=none:=by
      cases spot with
      |none=>rfl
      |some q=>
       unfold World.cell? at hz0;split at hz0
       ·simp [Addr.add] at hz0
       ·cases hz0
     subst hsp
     have hbl:b<w.heap.size:=by
      simp only [addr_add] at hz0;unfold World.cell? at hz0;split at hz0
      ·rename_i hh;exact (HO.1 hh).1
      ·cases hz0
     refine ⟨b,off,rfl,hZ b hbl,λi d hd=>?_⟩
     have hi:i<len:=by
      have:=(Du.1 hd).1
      rwa [hlg] at this
     have hdd:d=g i:=by
      rw [DS,wN hi] at hd
      simpa using hd.symm
     subst hdd;obtain ⟨c,hc,hr,_⟩:=hg i hi;obtain ⟨_,hcl,hat⟩:=World.cells?_some hc;refine uQ te (g i) c b _ hr (λj v hv=>?_)
     have hj:j<P.cellsOf e:=by
      have:=(Du.1 hv).1
      omega
     have:=hat j hj
     rw [hv] at this;rw [h4]
     simpa [addr_add,HL] using this
    ·obtain ⟨i,hi,rfl⟩:=Eg.1 hd
     obtain ⟨_,_,_,hw⟩:=hg i (by simpa using hi)
     exact hw
  ·cases h
def Jg (P:Program) (m:Nat) (t:TypeId) (l:List LV):Prop:=∃(ty:Ty) (d:ty.D),IE P m t=some ty/\l=Bk ty d/\wfD ty d
def qq {P:Program}{m:Nat}{t:TypeId}{l:List LV}{ty:Ty}(ht:IE P m t=some ty) (h:Jg P m t l):∃d:ty.D,l=Bk ty d/\wfD ty d:=by
 obtain ⟨ty',d,h1,h2,h3⟩:=h
 grind
def am9 {Z:Nat->Prop}(hZ:∀b,b<w.heap.size->Z b) (m:Nat) (t:TypeId) (hs:LX P m t=true) (ht:(IE P m t).isSome=true) (cs:List Value) (hg:Good enc P w base spare held t cs):∃l,RL β Z w l cs/\AR 0 l/\Jg P m t l:=by
 obtain ⟨ty,hty⟩:=ZJ.1 ht;obtain ⟨d,h1,h2⟩:=nk (β:=β) hZ m t ty hs hty cs hg;exact ⟨Bk ty d,h1,NC 0 ty d,ty,d,hty,rfl,h2⟩
end Go.Sx
namespace Go.Sx
open Go Go.RowKit Go.Proofs.YtgmhhjldohjpmaaGreatDoor Go.ChangeShapes Go.WideShapes
variable {H : Type} {enc : TypeId × Value -> H} {P : Program} {β : Nat -> Loc} {Z : Nat -> Prop}
def adT (hl:laidOutB P=true) {W W':World}(hb:Below W.heap.size W W'):∀(ts:List TypeId) (vs:List Value) (ds:List (DataW H)) (ps:List MemPlace),ts.all (λt=>P.readableRec t&&decide (t<P.types.size))=true->
  DataW.TrodAll enc P W 0 (λ_=>true) true ts vs ds ps->(∀x∈ps,x.block<W.heap.size)->DataW.TrodAll enc P W' 0 (λb=>decide (b<W.heap.size)) true ts vs ds ps
 | [],vs,ds,ps,_,h,_=>by
  cases vs<;>cases ds<;>first|exact h|exact h.elim
 | t::ts,vs,ds,ps,hr,h,hlt=>by
  cases vs with
  |nil=>cases ds<;>exact h.elim
  | cons v vs=>
   cases ds with
   |nil=>exact h.elim
   |cons d ds=>
    obtain ⟨p,q,h1,h2,rfl⟩:=h;simp only [IT,AU,AY] at hr;refine ⟨p,q,Below.trod hl hr.1.1 hr.1.2 h1 hb (λx hx=>hlt x AA),?_,rfl⟩
    exact adT hl hb ts vs ds q AA h2 (λx hx=>hlt x AA)
def amR {fn:Func}{s:ChangeSpec}{tb:TypeId}{apart:Bool}{W W':World}{args:Array Value}{ds gs:List (DataW H)}{before:List MemPlace}
  (hl:laidOutB P=true) (hr:fn.params.toList.all (λt=>P.readableRec t&&decide (t<P.types.size))=true) (hres:fn.resultTypes=#[tb]) (hb:P.underlying tb=some .bool) (hvars:s.vars=[])
  (hfn:(s.fn H ds).results=[.lit (.bool true)]/\(s.fn H ds).args=ds/\(s.fn H ds).vars=[])
  (hW:DataW.Whole enc P fn.params.toList s.vars apart W args.toList ds gs before) (hB:Below W.heap.size W W'):s.post enc P fn apart true false false W args (.bool true) W':=by
 have hW':=hW
 obtain ⟨p,q,hA,hV,rfl,hfz,hnd⟩:=hW
 have hg:gs=[]/\q=[]:=by
  rw [hvars] at hV;cases gs with
  |nil=>exact ⟨rfl,hV⟩
  |cons g r=>exact hV.elim
 obtain ⟨rfl,rfl⟩:=hg
 have hlt:∀x∈p,x.block<W.heap.size:=λx hx=>hW'.lt x AA
 refine ⟨ds,[],p++[],[],p,[],hW',?_,?_,?_,hB.frame _,λh=>Ah⟩
 ·rw [FJ,hfn.1,hres]
  exact trodAll_mk1 (shut_bool hb true)
 ·rw [FJ,hfn.2.1]
  exact adT hl hB _ _ _ _ hr hA hlt
 ·rw [FJ,hfn.2.2,hvars]
  rfl
def pLV (P:Program) (t:TypeId) (l:List LV):LV:=
 match P.underlying t with
 |some (.struct _)=>JT l
 |some (.array _ _)=> .junk
 |_=>match l with
  | [x]=>x
  |_=> .junk
def cell_of {w:World}{b0:Nat}{r:Reach}{m:Nat}{t:TypeId}(hs:LX P m t=true) {v:Value}(hv:Value.okWide P w r b0 t v) (h1:∀fs,P.underlying t=some (.struct fs)->False) (h2:∀n e,P.underlying t=some (.array n e)->False):v.cells.toList=[v]:=by
 cases m with
 |zero=>cases hs
 | succ m=>
  simp only [LX] at hs;split at hs
  ·rename_i k hu
   obtain ⟨n,rfl⟩:=okWide_int hu hv;rfl
  ·rename_i hu
   obtain ⟨n,rfl⟩:=okWide_bool hu hv;rfl
  ·rename_i hu
   obtain ⟨n,rfl⟩:=okWide_string hu hv;rfl
  ·rename_i fs hu
   grind
  ·rename_i n e hu
   grind
  ·rename_i e hu
   obtain ⟨a,l,c,rfl⟩:=okWide_slice hu hv;rfl
  ·cases hs
def af7 {w:World}{base b0:Nat}{spare:Nat->Bool}{held:Bool}{r:Reach}(hZ:∀b,b<w.heap.size->Z b) {m:Nat}{t:TypeId}(hs:LX P m t=true) (ht:(IE P m t).isSome=true) {v:Value}{d:DataW H}{p:List MemPlace}(hv:Value.okWide P w r b0 t v) (h:DataW.Trod enc P w base spare held t v d p) (hwt:∀k,k∈d.weights P t->k<=reachBytes):
  ∃l,okV 0 (pLV P t l)/\R β Z w (pLV P t l) v/\Jg P m t l:=by
 obtain ⟨fuel,hf⟩:=h;obtain ⟨l,h1,h2,h3⟩:=am9 (β:=β) hZ m t hs ht v.cells.toList ⟨fuel,_,hf,hwt⟩;refine ⟨l,?_,?_,h3⟩
 ·unfold pLV
  split
  ·exact Px h2
  ·trivial
  ·split
   ·exact h2.1
   ·trivial
 ·unfold pLV
  split
  ·rename_i fs hu
   obtain ⟨cs,rfl,_⟩:=okWide_struct hu hv;exact Vy h1
  ·exact Dk
  ·split
   ·rename_i x
    obtain ⟨y,zs,e1,e2,rfl⟩:=h1
    have hc:=cell_of hs hv AA AA
    grind
   ·exact Dk
def Ri (P:Program):List TypeId->List (List LV)->List LV
 |t::ts,l::ls=>pLV P t l::Ri P ts ls
 |_,_=>[]
def Ws (P:Program) (m:Nat):List TypeId->List (List LV)->Prop
 | [],ls=>ls=[]
 |t::ts,ls=>∃l r,ls=l::r/\Jg P m t l/\Ws P m ts r
def ae2 {w:World}{base b0:Nat}{spare:Nat->Bool}{held:Bool}{r:Reach}(hZ:∀b,b<w.heap.size->Z b) {m:Nat}:∀(ts:List TypeId) (vs:List Value) (ds:List (DataW H)) (ps:List MemPlace),ts.all (λt=>LX P m t&&(IE P m t).isSome)=true->
  (∀(j:Nat) t v,ts[j]? =some t->vs[j]? =some v->Value.okWide P w r b0 t v)->DataW.TrodAll enc P w base spare held ts vs ds ps->(∀k,k∈DataW.weightsEach P ts ds->k<=reachBytes)->∃ls,AR 0 (Ri P ts ls)/\RL β Z w (Ri P ts ls) vs/\Ws P m ts ls
 | [],vs,ds,ps,_,_,h,_=>by
  cases vs with
  |nil=>exact ⟨[],trivial,by simp [Ri,RL],rfl⟩
  |cons _ _=>cases ds<;>exact h.elim
 | t::ts,vs,ds,ps,hs,hv,h,hwt=>by
  cases vs with
  |nil=>cases ds<;>exact h.elim
  | cons v vs=>
   cases ds with
   |nil=>exact h.elim
   |cons d ds=>
    obtain ⟨p,q,h1,h2,rfl⟩:=h;simp only [IT,AU] at hs;simp only [DataW.weightsEach,Bp] at hwt;obtain ⟨l,a1,a2,a3⟩:=af7 (β:=β) hZ hs.1.1 hs.1.2 (hv 0 t v rfl rfl) h1 (λk hk=>hwt k (.inl hk))
    obtain ⟨ls,b1,b2,b3⟩:=ae2 hZ ts vs ds q hs.2 (λj t' v' e1 e2=>hv (j+1) t' v' AA AA) h2 (λk hk=>hwt k (.inr hk))
    exact ⟨l::ls,⟨a1,b1⟩,⟨v,vs,rfl,a2,b2⟩,l,ls,rfl,a3,b3⟩
def aeV {G:Av}{f:FuncId}{fn:Func}{S:List LV->T LV}{s:ChangeSpec}{tb:TypeId}{apart:Bool}{m:Nat}{W:World}{base:Nat}{args:Array Value}{ds gs:List (DataW H)}{before:List MemPlace}
  (hv:Valid P G f S) (hl:laidOutB P=true) (hr:fn.params.toList.all (λt=>P.readableRec t&&decide (t<P.types.size))=true) (hres:fn.resultTypes=#[tb]) (hb:P.underlying tb=some .bool) (hvars:s.vars=[])
  (hfn:(s.fn H ds).results=[.lit (.bool true)]/\(s.fn H ds).args=ds/\(s.fn H ds).vars=[]) (hs:fn.params.toList.all (λt=>LX P m t&&(IE P m t).isSome)=true)
  (hS:∀ls,Ws P m fn.params.toList ls->(S (Ri P fn.params.toList ls)).all (λx=>x=.v (.bool true)))
  (hg:PQ G (λb=>b<W.heap.size) W)
  (hval:∀(j:Nat) t v,fn.params[j]? =some t->args[j]? =some v->Value.okWide P W .any base t v)
  (hW:DataW.Whole enc P fn.params.toList s.vars apart W args.toList ds gs before) {us:List TypeId} (hz:(DataW.weightsEach P (fn.params.toList++us) (ds++gs)).all (·<=reachBytes)=true):
  Calls P f args W λe W'=>∃v,e=.returned v/\s.post enc P fn apart true false false W args v W':=by
 have hA:∃p,DataW.TrodAll enc P W 0 (λ_=>true) true fn.params.toList args.toList ds p:=by
  obtain ⟨p,q,hA,_⟩:=hW
  grind
 obtain ⟨p,hA⟩:=hA;obtain ⟨ls,h1,h2,h3⟩:=ae2 (β:=β0) (Z:=λb=>b<W.heap.size) (λ_ h=>h) fn.params.toList args.toList ds p hs (λj t v e1 e2=>hval j t v AA AA) hA (λk hk=>De (BL.1 hz k (aCr (adz hA) k hk)))
 refine (hv _ args W _ _ (λ_ h=>h) hg h1 h2 (hS ls h3)).mono λe W' ⟨hB,v,he,_,hR⟩=>⟨v,he,?_⟩
 rw [hR];exact amR hl hr hres hb hvars hfn hW hB
end Go.Sx
namespace Go.Sx
open Go Go.RowKit Go.Proofs.YtgmhhjldohjpmaaGreatDoor
variable {H : Type} {enc : TypeId × Value -> H} {P : Program} {w : World} {base : Nat} {spare : Nat -> Bool} {held : Bool}
def PE {H:Type}:Nat->DataW H->List Value
 |0,_=>[]
 |_+1,.lit (.int k n)=>[.int k n]
 |_+1,.lit (.bool b)=>[.bool b]
 |m+1,.agg l=>l.flatMap (PE m)
 |_,_=>[]
def Wk (P:Program):Nat->TypeId->Bool
 |0,_=>false
 |m+1,t=>match P.underlying t with
  |some (.int _) |some .bool=>true
  |some (.struct fs)=>Wm P 0 fs.toList&&decide (P.cellsOf t=((fs.toList.map (·.type)).map P.cellsOf).sum)&&fs.toList.all (λf=>Wk P m f.type)
  |some (.array n e)=>decide (P.cellsOf t=((List.replicate n e).map P.cellsOf).sum)&&Wk P m e
  |_=>false
def ov {sz:TypeId->Nat}{g:DataW H->List Value}{Tr:TypeId->List Value->DataW H->Prop}:∀(ts:List TypeId) (cs:List Value) (ds:List (DataW H)),
  (∀t∈ts,∀c d,Tr t c d->g d=c)->ds.length=ts.length->cs.length=(ts.map sz).sum->(∀pre t post,ts=pre++t::post->∃d,ds[pre.length]? =some d/\Tr t ((cs.drop (pre.map sz).sum).take (sz t)) d)->ds.flatMap g=cs
 | [],cs,ds,_,h0,hl,_=>by
  grind
 |t::ts,cs,[],_,h0,_,_=>AA
 | t::ts,cs,d::ds,ih,h0,hl,hg=>by
  obtain ⟨d',e1,e2⟩:=hg [] t ts rfl
  simp at e1
  subst e1
  have r:=ov (sz:=sz) (g:=g) (Tr:=Tr) ts (cs.drop (sz t)) ds (λt' ht=>ih t' AA) AA AA (λpre t' post e=>by
   obtain ⟨q,q1,q2⟩:=hg (t::pre) t' post AA;refine ⟨q,AA,?_⟩
   simpa using q2)
  rw [je,r,ih t AJ _ _ e2]
  simp
def qE:∀(m:Nat) (t:TypeId),Wk P m t=true->∀(n:Nat) (cs:List Value) (x:DataW H×List MemPlace),DataW.trod enc P w base spare held n t cs=some x->PE m x.1=cs
 |0,t,h,_,_,_,_=>Ah
 | m +1,t,h,n,cs,x,hx=>by
  simp only [Wk] at h;split at h
  ·rename_i k hu
   obtain ⟨z,rfl,rfl,hw⟩:=DataW.trod_int hu hx;rfl
  ·rename_i hu
   obtain ⟨z,rfl,rfl⟩:=DataW.trod_bool hu hx;rfl
  ·rename_i fs hu
   simp only [AU,AY,BL] at h;obtain ⟨⟨h1,h2⟩,h3⟩:=h;obtain ⟨xs,n',_,rfl,hl,hxl,hf⟩:=DataW.trod_struct hu hx;simp only [PE];refine ov (sz:=P.cellsOf) (Tr:=λt c d=>∃y,DataW.trod enc P w base spare held n' t c=some y/\y.1=d) (fs.toList.map (·.type)) cs _ (λt' ht c d hc=>?_) (by simp [hxl]) ka (λpre t' post e=>?_)
   ·obtain ⟨f,hf1,rfl⟩:=Eg.1 ht
    obtain ⟨y,hy,rfl⟩:=hc;exact qE m f.type (h3 f hf1) n' c y hy
   ·obtain ⟨fpre,frest,e1,e2,e3⟩:=List.map_eq_append_iff.1 e
    obtain ⟨f,fpost,rfl,e4,e5⟩:=List.map_eq_cons_iff.1 e3
    have ho:=pR fs.toList 0 h1 fpre f fpost e1
    have hi:fs[fpre.length]? =some f:=by
     exact aL5
    have hg:=hf _ f hi
    have hlt:fpre.length<fs.size:=(HO.1 hi).1
    refine ⟨(xs[fpre.length]' A0).1,?_,xs[fpre.length]' A0,?_,rfl⟩
    ·grind
    ·grind
  ·rename_i n0 e hu
   simp only [AU,AY] at h;obtain ⟨h2,h3⟩:=h;obtain ⟨xs,n',_,rfl,hl,hxl,hf⟩:=DataW.trod_array hu hx;simp only [PE];refine ov (sz:=P.cellsOf) (Tr:=λt c d=>∃y,DataW.trod enc P w base spare held n' t c=some y/\y.1=d) (List.replicate n0 e) cs _ (λt' ht c d hc=>?_) (by simp [hxl]) ka (λpre t' post e'=>?_)
   ·rw [(Pb.1 ht).2] at hc
    obtain ⟨y,hy,rfl⟩:=hc;exact qE m e h3 n' c y hy
   ·obtain ⟨c1,c2,c3⟩:=aK3.1 e'
    have ht':t'=e:=by
     grind
    have hlen:pre.length<n0:=by
     have:=Ax List.length e'
     simp at this;omega
    have hs:(pre.map P.cellsOf).sum=pre.length*P.cellsOf e:=kU
    refine ⟨(xs[pre.length]' A0).1,?_,xs[pre.length]' A0,?_,rfl⟩
    ·grind
    ·grind
  ·cases h
def aeH {W:World}{name:String}{d:DataW Unit}{rest:List (String×DataW Unit)}{g:Nat}{t:TypeId}{m:Nat}(hg:P.globalNamed name=some g) (hty:(P.globals[g]?).map (·.type)=some t) (hp:Wk P m t=true)
  (h:laidMet P ((name,d)::rest) W):(∀i,W.cell? ⟨g,i,none⟩=(PE m d)[i]?)/\((PE m d)≠ []->g<W.heap.size):=by
 obtain ⟨ps,⟨g',t',cs,fuel,p,q,hg',ht',hvar,hd,_,_⟩,_⟩:=h;obtain rfl:=Dw (hg.symm.trans hg');obtain rfl:=Dw (hty.symm.trans ht')
 have hf:=qE m t hp fuel _ _ hd
 have hcell:∀i,W.cell? ⟨g,i,none⟩=(PE m d)[i]? :=λi=>by
  rw [World.var?_cell hg hvar i,hf];simp
 refine ⟨hcell,λhne=>?_⟩
 have h0:=hcell 0
 cases hh:(PE m d)[0]? with
 |none=>exact absurd (List.getElem?_eq_none_iff.1 hh) AA
 |some z=>
  rw [hh] at h0;unfold World.cell? at h0;split at h0
  ·grind
  ·cases h0
end Go.Sx
namespace Go.Proofs.YtgmhhjldohjpmaaGreatDoor
set_option maxRecDepth 100000
set_option maxHeartbeats 4000000
open Go.Proofs.Tryz
open Go.Sx Go.ChangeShapes Go.WideShapes Go.ChangeAt Go.RowKit
def own:ownKnob prog.godebug=none:=AZ
def laidOut:laidOutB prog=true:=AZ
def aC3 {P:Program}{x:String×DataW Unit}{r:List (String×DataW Unit)}{W:World}(h:laidMet P (x::r) W):laidMet P r W:=by
 obtain ⟨n,d⟩:=x;obtain ⟨ps,⟨g,t,cs,fuel,p,q,h1,h2,h3,h4,h5,rfl⟩,hn,hm⟩:=h;exact ⟨q,h5,(wS.1 hn).2.1,λb off hb=>hm b off (List.mem_append_right _ hb)⟩
def tE {W:World}{name:String}{d:DataW Unit}{rest:List (String×DataW Unit)}{g:Nat}{t:TypeId}{n:Nat}{f:Nat->Value}(hg:prog.globalNamed name=some g) (hty:(prog.globals[g]?).map (·.type)=some t) (hp:Wk prog 4 t=true) (h:laidMet prog ((name,d)::rest) W) (key:PE 4 d=(List.range (n+1)).map f):g<W.heap.size/\∀j,j<n+1->W.cell? ⟨g,j,none⟩=some (f j):=by
 obtain ⟨h1,h2⟩:=aeH (m:=4) hg hty hp h;refine ⟨h2 (by rw [key];intro h0;exact absurd (Ax List.length h0) AJ),λj hj=>?_⟩
 rw [h1 j,key,DS,wN hj];rfl
def amw {W:World}(h:laidMetH prog [("chargepark/charger.afterwards",Rows.laid_chargepark_charger_afterwards),("chargepark/ramp.happens",Rows.laid_chargepark_ramp_happens),("chargepark/vault.widths",Rows.laid_chargepark_vault_widths)] W):PQ AT (λb=>b<W.heap.size) W:=by
 have h:laidMet prog [("chargepark/charger.afterwards",Rows.laid_chargepark_charger_afterwards),("chargepark/ramp.happens",Rows.laid_chargepark_ramp_happens),("chargepark/vault.widths",Rows.laid_chargepark_vault_widths)] W:=h
 have a1:=tE (t:=241) (n:=59) (f:=λj=> .int .i64 (Wr j)) (g:=0) AZ AZ AZ h AZ
 have a2:=tE (t:=274) (n:=7) (f:=λj=> .int .i64 (UY j)) (g:=2) AZ AZ AZ (aC3 h) AZ
 have a3:=tE (t:=250) (n:=4) (f:=λj=> .int .i64 (aAT j)) (g:=1) AZ AZ AZ (aC3 (aC3 h)) AZ
 intro g n f hg;unfold AT at hg;split at hg
 ·cases hg;exact a2
 ·cases hg;exact a1
 ·cases hg;exact a3
 ·cases hg
def aDP {H:Type}{enc:TypeId×Value->H}{P:Program}{w:World}{base:Nat}{spare:Nat->Bool}{held:Bool}:∀ {ts:List TypeId}{vs:List Value}{ds:List (DataW H)}{ps:List MemPlace},DataW.TrodAll enc P w base spare held ts vs ds ps->ds.length=ts.length
 | [],[],[],_,_=>rfl
 | [],_::_,_,_,h=>Ah
 | [],[],_::_,_,h=>Ah
 |_::_,[],_,_,h=>Ah
 |_::_,_::_,[],_,h=>Ah
 |_::_,_::_,_::_,_,h=>by
  obtain ⟨_,_,_,h2,_⟩:=h
  simp [aDP h2]
def put (vs:Array Value):Obj->Obj
 | .cells _ t frozen=> .cells vs t frozen
 |o=>o
def laidWorld (os:Os):World:=
 {World.holding prog os ⟨#[],#[],[]⟩ with heap:=(((World.holding prog os ⟨#[],#[],[]⟩).heap.modify 2 (put ((List.range 8).map λj=> .int .i64 (UY j)).toArray)).modify 0 (put ((List.range 60).map λj=> .int .i64 (Wr j)).toArray)).modify 1 (put ((List.range 5).map λj=> .int .i64 (aAT j)).toArray)}
namespace ParkMeters
def opened (ls:List (List LV)) (h:Ws prog 8 f3.params.toList ls):(acD (Ri prog f3.params.toList ls)).all (λx=>x=.v (.bool true)):=by
 rw [Tryz.params3] at h|-;simp only [Ws] at h;obtain ⟨l0,_,rfl,h0,l1,_,rfl,h1,l2,_,rfl,h2,rfl⟩:=h;obtain ⟨d0,rfl,w0⟩:=qq (ty:=(.pair (.sl Ao) (.pair (.sl .str) (.pair (.sl B8) (.pair (.sl Au) (.sl B9)))))) AZ h0;obtain ⟨d1,rfl,w1⟩:=qq (ty:=(.sl (.int .i64))) AZ h1;obtain ⟨d2,rfl,w2⟩:=qq (ty:=(.sl (.pair (.int .u8) (.pair (.int .u8) (.pair (.int .u16) (.pair AX BO)))))) AZ h2;simp only [Ri,pLV,Tryz.underlying30,Tryz.underlying29,Tryz.underlying28];refine aDI (t':=T.ok (LV.v (Value.bool true))) AZ ?_;exact rfl
def contract (H:Type) (enc:TypeId×Value->H) (W:World) (base:Nat) (args:Array Value) (ds gs:List (DataW H)) (before:List MemPlace)
  (hval:∀(j:Nat) t v,f3.params[j]? =some t->args[j]? =some v->Value.okWide prog W .any base t v)
  (hW:DataW.Whole enc prog f3.params.toList Rows.parkMetersSpec.vars false W args.toList ds gs before) (hL:laidMetH prog Rows.parkMetersRow.laid W) {us:List TypeId} (hz:(DataW.weightsEach prog (f3.params.toList++us) (ds++gs)).all (·<=reachBytes)=true):
  Calls prog 3 args W λe W'=>∃v,e=.returned v/\Rows.parkMetersSpec.post enc prog f3 false true false false W args v W':=by
 refine aeV (m:=8) (tb:=4) ahy laidOut AZ AZ Tryz.underlying4 rfl ?_ AZ opened (amw hL) hval hW hz;obtain ⟨p,q,hA,_⟩:=hW
 have hl:=aDP hA
 rw [Tryz.params3] at hl
 match ds,hl with
 | [_,_,_],_=>exact ⟨rfl,rfl,rfl⟩
def laid_met (os:Os):laidMet prog Rows.parkMetersRow.laid ((laidWorld os).forCall (λ_ _=>0) ⟨#[],#[.agg #[.slice none 0 0,.slice none 0 0,.slice none 0 0,.slice none 0 0,.slice none 0 0],.slice none 0 0,.slice none 0 0],[]⟩).memory:=
 laidMet_of_run' 8 AZ AZ
def reads (os:Os) {H:Type}(enc:TypeId×Value->H):∃places,DataW.whole enc prog ((laidWorld os).forCall (λ_ _=>0) ⟨#[],#[.agg #[.slice none 0 0,.slice none 0 0,.slice none 0 0,.slice none 0 0,.slice none 0 0],.slice none 0 0,.slice none 0 0],[]⟩).memory f3.params.toList Rows.parkMetersSpec.vars false #[.agg #[.slice none 0 0,.slice none 0 0,.slice none 0 0,.slice none 0 0,.slice none 0 0],.slice none 0 0,.slice none 0 0].toList 8=some ([.agg [.nil,.nil,.nil,.nil,.nil],.nil,.nil],[],places):=
 ⟨[],AZ⟩
def lifted (os:Os) (started:os.Started) (H:Type) (enc:TypeId×Value->H) (F:Stop.Interp):
  ReturnsInHanded {} Tryz.checked os 3 .any ((OpenSpec.ofChange Rows.parkMetersSpec).preRow enc prog f3 Rows.parkMetersRow.domain false Rows.parkMetersRow.laid) (((OpenSpec.ofChange Rows.parkMetersSpec).at F).post enc prog f3 false true false false):=by
 obtain ⟨places,hx⟩:=reads os enc
 refine returnsInHanded_of_row (C:=Tryz.checked) (s:=OpenSpec.ofChange Rows.parkMetersSpec) own started AZ func3
  (witness_row_at (enc:=enc) (C:=Tryz.checked) false (laidWorld os) #[.agg #[.slice none 0 0,.slice none 0 0,.slice none 0 0,.slice none 0 0,.slice none 0 0],.slice none 0 0,.slice none 0 0] rfl AZ AZ AZ
   (OpenSpec.preRow_of_cond 8 hx AZ (λk hk=>by cases hk) AZ (laid_met os))) ?_
 intro W base args ds gs before hval hW _ _ hz hL _ _;exact contract H enc W base args ds gs before hval hW hL hz
def said:Rows.ParkMetersSaid:=
 OpenClaim.holds_of_cond 3 f3 rfl rfl rfl rfl rfl rfl rfl ⟨rfl,rfl,rfl,rfl,rfl⟩ rfl rfl rfl rfl rfl AZ func3 AZ
  (De AZ) (by unfold Func.isWrapper;first|(rw [AE yQ];kernel_rfl) |(rw [AD yQ];exact ⟨rfl,rfl⟩))
  (λos started H enc _ F=>by rw [OpenClaim.pre_eq_preRow];exact lifted os started H enc F)
def plain (f:FuncId) (fn:Func) (hf:Tryz.pinned.checked.prog.funcNamed "chargepark/chargeparklaw44.ParkMeters"=some f) (hfn:Tryz.pinned.checked.prog.funcs[f]? =some fn):
  true=Tryz.pinned.checked.prog.looks []/\∀(j:Nat) t,fn.params[j]? =some t->Tryz.pinned.checked.prog.wantsStandIn t=false:=by
 obtain rfl:f=3:=Dw ((show prog.funcNamed "chargepark/chargeparklaw44.ParkMeters"=some 3 by kernel_rfl).symm.trans hf) |>.symm
 obtain rfl:fn=f3:=(Dw (func3.symm.trans hfn)).symm;refine ⟨AZ,λj t ht=>?_⟩
 have h:f3.params.toList.all (λt=>!prog.wantsStandIn t)=true:=AZ
 have:=BL.1 h t (by simpa using Array.mem_of_getElem? ht)
 show prog.wantsStandIn t=false
 simpa using this
def card:Rows.ParkMetersCardSaid:=
 Claim7.holds_tied_plain_at .later [] _ _ _ _ said (λ_ h=>Ah) AZ (λ_ h=>Ah) parkMeters_row_tie rfl ⟨rfl,rfl⟩ AZ rfl plain AZ
end ParkMeters
theorem parkMeters_card:Rows.ParkMetersCardSaid:=ParkMeters.card
end Go.Proofs.YtgmhhjldohjpmaaGreatDoor
end
