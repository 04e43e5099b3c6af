/- Helpers for ParkRestart. Conditions: none. -/
import Derived.Test.YtoifmkifedcnnaaGreatDoorQu2
set_option linter.defProp false
set_option linter.unusedVariables false
set_option linter.unusedSimpArgs false
noncomputable section
open List renaming length→M,length→aa,replicate→aq,range→au
open Bool renaming true→U,true→ae,false→X,false→af
open Go.Value renaming int→ag
open Option renaming some→ah,none→aj
open Go.IntKind renaming i64→J,i64→ai,u8→aw,u32→ax
open True renaming intro→ak
open Decidable renaming decide→an
open ByteArray renaming mk→av
open Go.Region renaming ready→ay,wanted→az
open Go.Instr renaming findNow→aA
namespace Go.Proofs.YtoifmkifedcnnaaGreatDoor
set_option maxRecDepth 100000
set_option maxHeartbeats 4000000
open Go.Proofs.Tryz
open Go.Sx
def aii {nm:aWM}{i up li ne ra he am mo ga lo de:Y}(hi:0<=i) {K:aWo->Prop}(h:K<|I5 i (nm,up,li,ne,(ra,he),am,mo,ga,lo,de)):
  ((if i==0 then (up !=(-1)) ||((an<|i>0)&&((an<|up<0) ||(an<|up>=i))) else (an<|i>0)&&((an<|up<0) ||(an<|up>=i)))=U->K X)/\
  ((if i==0 then (up !=(-1)) ||((an<|i>0)&&((an<|up<0) ||(an<|up>=i))) else (an<|i>0)&&((an<|up<0) ||(an<|up>=i)))=X->
   (((!(inB li (1:Y) (1000:Y))) ||(!(inB ne (1:Y) (1000:Y))))=U->K X)/\
   (((!(inB li (1:Y) (1000:Y))) ||(!(inB ne (1:Y) (1000:Y))))=X->
    (((!((ra==0)&&(he==0)))&&(!(inB ra (1:Y) (1000:Y)) ||(!(inB he (0:Y) (1000000:Y)))))=U->K X)/\
    (((!((ra==0)&&(he==0)))&&(!(inB ra (1:Y) (1000:Y)) ||(!(inB he (0:Y) (1000000:Y)))))=X->
     (((am==0)&&((mo==0)&&((ga==0)&&((lo==0)&&(de==0)))))=U->K U)/\
     (((am==0)&&((mo==0)&&((ga==0)&&((lo==0)&&(de==0)))))=X->K ((inB am (0:Y) (200000:Y))&&((inB mo (0:Y) (200000:Y))&&((inB ga (0:Y) (1000:Y))&&((inB lo (0:Y) (1000:Y))&&((inB de (1:Y) (1000000:Y))&&(an<|mo>am)))))))))):=by
 have e1:(if i==0 then (up !=(-1)) ||((an<|i>0)&&((an<|up<0) ||(an<|up>=i))) else (an<|i>0)&&((an<|up<0) ||(an<|up>=i)))=!(if i=0 then up==-1 else inB up 0 (i-1)):=by
  by_cases h0:i=0
  ·grind
  ·have:(i==0)=false:=by simpa using h0
   rw [this,AE h0,Ip]
   simp [inB]
   omega
 rw [e1];unfold I5 at h;simp only at h;generalize (if i=0 then up==-1 else inB up 0 (i-1))=b1 at*
 refine ⟨λc=>?_,λc=>⟨λc2=>?_,λc2=>⟨λc3=>?_,λc3=>⟨λc4=>?_,λc4=>?_⟩⟩⟩⟩
 ·grind
 all_goals
  have c:b1=true:=Ir
  rw [c,EU] at h
 ·have:(inB li 1 1000&&inB ne 1 1000)=false:=A8
  grind
 all_goals
  have c2:inB li 1 1000=U/\inB ne 1 1000=true:=EY
  rw [c2.1,c2.2,EU,EU] at h
 ·have:((ra==0)&&(he==0) ||(inB ra 1 1000&&inB he 0 1000000))=false:=by
   grind
  grind
 all_goals
  have:((ra==0)&&(he==0) ||(inB ra 1 1000&&inB he 0 1000000))=true:=by
   grind
  rw [this,EU] at h
 ·unfold Ik cbZ at h
  grind
 ·unfold Ik cbZ at h
  rw [c4,D4] at h
  have:((inB am (0:Y) (200000:Y))&&((inB mo (0:Y) (200000:Y))&&((inB ga (0:Y) (1000:Y))&&((inB lo (0:Y) (1000:Y))&&((inB de (1:Y) (1000000:Y))&&(an<|mo>am))))))=(an (0<=am)&&(an (am<mo)&&(an (mo<=200000)&&(inB ga 0 1000&&(inB lo 0 1000&&inB de 1 1000000))))):=by
   rw [Ip];simp only [AY,BV,Aa];omega
  rw [this];exact h
def WB {α β:Type} [BEq β] [LawfulBEq β] {l:List α}{d:α}{p:α->aWo}{k:α->β}:(∀j:aWe,(j:Y)<(M l:Y)->(p (l.getD (j:Y).toNat d)&&!(((l.take (j:Y).toNat).map k).contains<|k<|l.getD (j:Y).toNat d))=U)↔(l.all p&&once (l.map k))=true:=by
 have hg:∀(j:aWe) (h:j<M l),l.getD (j:Y).toNat d=l[j]:=λj h=>Lc (n:=(j:Y)) h
 rw [AY,BO,qN]
 constructor
 ·intro h
  refine ⟨λx hx=>?_,λj hj hm=>?_⟩
  ·obtain ⟨j,hj,rfl⟩:=List.getElem_of_mem hx
   have:=h j A0
   rw [hg j hj,AY] at this;exact this.1
  ·have hj':j<M l:=A8
   have:=h j A0
   rw [hg j hj',AY,D2] at this
   have h2:=this.2
   rw [By,List.map_take,Zq.2 A8] at h2;cases h2
 ·intro ⟨h1,h2⟩ j hj
  have hj':j<M l:=A0
  rw [hg j hj',AY,D2];refine ⟨h1 _<|GZ _,?_⟩;rw [IM,By,List.map_take]
  grind
def Qb {α:Type}{l:List α}{d:α}{p:α->aWo}:(∀j:aWe,(j:Y)<(M l:Y)->p (l.getD (j:Y).toNat d)=U)↔l.all p=true:=by
 have hg:∀(j:aWe) (h:j<M l),l.getD (j:Y).toNat d=l[j]:=λj h=>Lc (n:=(j:Y)) h
 rw [BO]
 constructor
 ·intro h x hx
  obtain ⟨j,hj,rfl⟩:=List.getElem_of_mem hx
  have:=h j A0
  rw [hg j hj] at this;exact this
 ·intro h j hj
  grind
def Ij (ph mn mx st fb:Y):aWo:=inB ph 1 7&&(inB mn 1 80&&(inB mx 1 80&&(inB st 1 80&&(an (mn<=mx)&&(fb==0 ||inB fb mn mx)))))
def fA {ph mn mx st fb:Y}:Ij ph mn mx st fb=U↔1<=ph/\ph<=7/\1<=mn/\mn<=80/\1<=mx/\mx<=80/\1<=st/\st<=80/\mn<=mx/\(fb=0\/(mn<=fb/\fb<=mx)):=by
 simp [Ij,inB];omega
def Bz (mn mx st a:Y):Y:=if a<mn then 0 else min a mx-(min a mx-mn) %st
def aDI {x s:Y}(hx:0<=x) (hs:1<=s):0<=x%s/\x%s<=x/\x%s<s:=by
 have h1:=lR x s
 have h2:0<=x / s:=Sf hx A0
 have h3:0<=s*(x / s):=Im A0 h2
 have h4:=Int.emod_nonneg x (b:=s) A0
 have h5:=Int.emod_lt_of_pos x (b:=s) A0
 omega
def cV {mn mx st a:Y}(h1:1<=mn) (h2:mn<=mx) (h3:mx<=80) (h4:1<=st):0<=Bz mn mx st a/\Bz mn mx st a<=80/\(a<mn->Bz mn mx st a=0)/\(mn<=a->mn<=Bz mn mx st a/\Bz mn mx st a<=a/\Bz mn mx st a<=mx):=by
 unfold Bz;split
 ·omega
 ·have e1:=aDI (x:=min a mx-mn) (s:=st) A0 h4
  omega
def ED (mn mx st:Y):Prop:=1<=mn/\mn<=mx/\mx<=80/\1<=st/\st<=80
def aTi {ph mn mx st fb:Y}(h:Ij ph mn mx st fb=U):ED mn mx st:=by
 rw [fA] at h;unfold ED;omega
def IB (ph mn mx st fb a s:Y):aWo:=Ij ph mn mx st fb&&(an (0<=s)&&(an (s<=1000000)&&(an (0<=a)&&(Bz mn mx st a==a))))
def okB (ph mn mx st fb a s want:Y):aWo:=IB ph mn mx st fb a s&&(an (0<=want)&&an (want<=80))
def nE (ph mn mx st fb a s want:Y):Y:=if okB ph mn mx st fb a s want then 0 else 1
def nA (ph mn mx st fb a s want:Y):Y:=
 if okB ph mn mx st fb a s want then (if a=0 then (if Bz mn mx st want≠0/\5<=s then mn else 0) else if Bz mn mx st want=0 then 0 else min (Bz mn mx st want) (a+st)) else 0
def nS (ph mn mx st fb a s want:Y):Y:=
 if okB ph mn mx st fb a s want then (if a=0 then (if Bz mn mx st want≠0/\5<=s then 0 else min (s+1) 1000000) else if Bz mn mx st want=0 then 0 else min (s+1) 1000000) else 0
def aIq (x y:Y):(if y<x then y else x)=min x y:=A0
def aiq {mn mx st am:Y}(h:am<mn):0=Bz mn mx st am:=by rw [Bz,AD h]
def aio {mn mx st am:Y}(hc:ED mn mx st) (h:mn<=am):AA ((if mx<am then mx else am)-(AA<|(if mx<am then mx else am)-mn).tmod st)=Bz mn mx st am:=by
 unfold ED at hc;rw [aIq]
 have e1:=aDI (x:=min am mx-mn) (s:=st) A0 A0
 rw [AJ (x:=min am mx-mn),xE A0,AJ,Bz,AE A0]
def anv {ph mn mx st fb a s:Y}(h:((!Ij ph mn mx st fb) ||(an (s<0) ||(an (s>1000000) ||an (a<0))))=U):X=IB ph mn mx st fb a s:=by
 cases hr:IB ph mn mx st fb a s
 ·rfl
 ·simp [IB] at hr h
  rw [hr.1] at h
  simp at h
  omega
def aLT {ph mn mx st fb a s:Y}(h:((!Ij ph mn mx st fb) ||(an (s<0) ||(an (s>1000000) ||an (a<0))))=X):ED mn mx st/\(Bz mn mx st a==a)=IB ph mn mx st fb a s:=by
 simp at h
 obtain ⟨h1,h2,h3,h4⟩:=h;exact ⟨aTi h1,by simp [IB,h1,h2,h3,h4]⟩
def aIi {ph mn mx st fb a s want:Y}(h:okB ph mn mx st fb a s want=U):(!IB ph mn mx st fb a s ||(an (want<0) ||an (want>80)))=X/\ED mn mx st/\(0<=s/\s<=1000000)/\(0<=want/\want<=80)/\0<=a/\a<=80/\1<=st/\st<=80:=by
 simp only [okB,IB,AY,Aa,D3] at h;obtain ⟨⟨h1,h2,h3,h4,h5⟩,h6,h7⟩:=h
 have hc:=aTi h1
 have hc':=hc
 have:=cV (a:=a) hc'.1 hc'.2.1 hc'.2.2.1 hc'.2.2.2.1
 refine ⟨?_,hc,⟨h2,h3⟩,⟨h6,h7⟩,h4,A0,hc'.2.2.2.1,hc'.2.2.2.2⟩
 simp [IB,h1,h2,h3,h4,h5];omega
def asU {ph mn mx st fb a s want:Y}(h:¬okB ph mn mx st fb a s want=U):(!IB ph mn mx st fb a s ||(an (want<0) ||an (want>80)))=true:=by
 cases hr:IB ph mn mx st fb a s
 ·rfl
 ·simp [okB,hr] at h|-;omega
def Fh (cs:aWl):aWo:=Dp (M cs) λj=>an<|(Ae cs j).2.1<j
def Qo {cs:aWl}(h:Fh cs=U) {c:Y}(h0:0<=c) (h1:c<M cs):(Ae cs c).2.1<c:=by
 have:=Dx.1 h c.toNat A0
 grind
def GU:aWe->aWl->Y->Y->Bool
 |0,_,_,_=>X
 |k+1,cs,o,c=>if c>=0 then (c==o ||GU k cs o (Ae cs c).2.1) else X
def Fk (cs:aWl) (o c:Y):aWo:=GU (c.toNat+2) cs o c
def aRK {cs:aWl}{o:Y}(hu:Fh cs=U):∀(k k':aWe) (c:Y),c<M cs->(c+1).toNat<k->(c+1).toNat<k'->GU k cs o c=GU k' cs o c
 |0,_,_,_,h,_=>A0
 |_+1,0,_,_,_,h=>A0
 | k+1,k'+1,c,hc,h,h'=>by
  simp only [GU]
  by_cases h0:c>=0
  ·rw [AD h0,AD h0]
   have:=Qo hu h0 hc
   rw [aRK hu k k' (Ae cs c).2.1 A0 A0 A0]
  ·grind
def aRL {cs:aWl}{o c:Y}(hu:Fh cs=U) (hc:c<M cs):Fk cs o c=if c>=0 then (c==o ||Fk cs o (Ae cs c).2.1) else false:=by
 unfold Fk;rw [GU]
 by_cases h0:c>=0
 ·rw [AD h0,AD h0]
  have:=Qo hu h0 hc
  rw [aRK hu (c.toNat+1) ((Ae cs c).2.1.toNat+2) (Ae cs c).2.1 A0 A0 A0]
 ·grind
def atB (cs:aWl) (gs:aWh):aWo:=Dp (M gs) λj=>an<|(AG gs j).2.1<(M cs:Y)
def gX {cs:aWl}{gs:aWh}(h:atB cs gs=U) {c:Y}(h0:0<=c) (h1:c<M gs):(AG gs c).2.1<(M cs:Y):=by
 have:=Dx.1 h c.toNat A0
 grind
def Cv (cs:aWl) (gs:aWh) (o:Y) (k:aWe):aWd:=((au k).map λj:aWe=>(j:Y)).filter λj=>Fk cs o (AG gs j).2.1
def aFE {cs:aWl}{gs:aWh}{o:Y}{k:aWe}:Cv cs gs o (k+1)=Cv cs gs o k++(if Fk cs o (AG gs k).2.1=U then [(k:Y)] else []):=by
 unfold Cv;rw [Se,KD,Zu]
 grind
def pe {cs:aWl}{gs:aWh}{o:Y}{k:aWe}:M (Cv cs gs o k)<=k:=by
 unfold Cv
 grind
def DK {cs:aWl}{os:aWg}{ks:aWr}{gs:aWh}{bs:aWs}:BH cs os ks gs bs=U↔(1<=M cs/\M cs<=16/\M os<=8/\M ks<=32/\M gs<=16/\M bs<=24)/\(Lb cs os ks gs bs).all nameB=U/\once (Lb cs os ks gs bs)=U/\Dp (M cs) (λj=>I5 j<|Ae cs j)=U/\ks.all (koV<|M os)=U/\once (ks.map (·.2.2.2))=U/\gs.all (GO (M cs)<|M os)=U/\bs.all (λb=>inB b.2 0<|(M gs:Y)-1)=true:=by
 unfold BH vpB
 grind
def qU {cs:aWl}{os:aWg}{ks:aWr}{gs:aWh}{bs:aWs}(h:BH cs os ks gs bs=U) {c:Y}(h0:0<=c) (h1:c<M cs):I5 c (Ae cs c)=true:=by
 have:=Dx.1 (DK.1 h).2.2.2.1 c.toNat A0
 grind
def Ol {cs:aWl}{os:aWg}{ks:aWr}{gs:aWh}{bs:aWs}(h:BH cs os ks gs bs=U) {c:Y}(h0:0<=c) (h1:c<M gs):GO (M cs) (M os) (AG gs c)=true:=by
 have:=BO.1 (DK.1 h).2.2.2.2.2.2.1 gs[c.toNat]<|GZ _
 rwa [aiU A0]
def pU {cs:aWl}{os:aWg}{ks:aWr}{gs:aWh}{bs:aWs}(h:BH cs os ks gs bs=U):Fh cs=true:=
 Dx.2 λj hj=>by
  have:=qU h (c:=j) A0 hj
  unfold I5 at this;rw [AY] at this
  have h1:=this.1
  rw [Aa];split at h1
  ·grind
  ·have:=BV.1 h1;omega
def pV {cs:aWl}{os:aWg}{ks:aWr}{gs:aWh}{bs:aWs}(h:BH cs os ks gs bs=U):atB cs gs=true:=
 Dx.2 λj hj=>by
  have:=Ol h (c:=j) A0 hj
  unfold GO at this;rw [AY] at this
  have:=BV.1 this.1
  rw [Aa];omega
def wY (cs:aWl) (os:aWg) (ks:aWr) (gs:aWh) (bs:aWs) (o:Y):Y:=if BH cs os ks gs bs=U/\0<=o/\o<M cs then 0 else 1
def QL (cs:aWl) (os:aWg) (ks:aWr) (gs:aWh) (bs:aWs) (o:Y):aWd:=if BH cs os ks gs bs=U/\0<=o/\o<M cs then Cv cs gs o (M gs) else []
def bW (ga ro:Y):aWe->Int
 |0=>0
 |k+1=>if ga*(k+1)*(k+1)<=ro then (k:Y)+1 else bW ga ro k
def akM {ga m:Y}(h0:0<=ga) (h1:ga<=1000) (m0:0<=m) (m1:m<=1000):(0<=ga*m/\ga*m<=1000000)/\0<=ga*m*m/\ga*m*m<=1000000000:=by
 have a1:=M6 h1 m0
 have a2:=Im h0 m0
 have a3:ga*m*m<=1000000*m:=M6 A0 m0
 exact ⟨⟨a2,A0⟩,Im a2 m0,A0⟩
def aqV {ga a b:Y}(h0:0<=ga) (a0:0<=a) (h:a<=b):ga*a*a<=ga*b*b:=by
 have h1:=Q6 h h0
 exact Hl (M6 h1 a0)<|Q6 h<|Im h0 A0
def aI5 {ga ro r:Y}:∀ {k:aWe},0<=r->r<=k->(r=0\/ga*r*r<=ro)->(∀a:Y,r<a->a<=k->¬ga*a*a<=ro)->bW ga ro k=r
 |0,h0,h1,_,_=>by simp only [bW];omega
 | k+1,h0,h1,h2,h3=>by
  simp only [bW]
  by_cases hr:r=(k:Y)+1
  ·subst hr
   omega
  ·rw [AE<|h3 ((k:Y)+1) A0 A0]
   exact aI5 h0 A0 h2 λa ha hk=>h3 a ha A0
def prm (ga ro:Y):Y:=bW ga ro 1000
def pmE (c:Cbl):Y:=if Ik c=U then 0 else 1
def N4 (c:Cbl):Y:=if Ik c=U then (if cbZ c=U then 1000 else prm c.2.2.1 ((if c.2.2.2.2<c.2.2.2.1 then c.2.2.2.2 else c.2.2.2.1)*(c.2.1-c.1))) else 0
def aij {c:Cbl}(h:Ik c=U) (hz:cbZ c=X):(0<=c.1/\c.1<c.2.1/\c.2.1<=200000)/\(0<=c.2.2.1/\c.2.2.1<=1000)/\(0<=c.2.2.2.1/\c.2.2.2.1<=1000)/\1<=c.2.2.2.2/\c.2.2.2.2<=1000000:=by
 unfold Ik at h;rw [hz,D4] at h;simp only [AY,Aa,BV] at h;omega
def JZ (f:Y) (l:aWd):Y:=l.foldl (λa n=>if n<a then n else a) f
def DE (c:Cd):Y:=if c.2.2.2.2.1.1=0 then JZ c.2.2.1 [c.2.2.2.1,N4 c.2.2.2.2.2] else JZ c.2.2.1 [c.2.2.2.1,N4 c.2.2.2.2.2,c.2.2.2.2.1.1]
def atO {c:Cbl}:(pmE c !=0)=!Ik c:=by
 unfold pmE
 grind
abbrev Eg:Ty:=.pair A7<|.sl A7
abbrev Rw:=Int×List Int
def aWA:qT (List Rw):=⟨⟩
def Ce (l:aWA) (n:Y):Rw:=l.getD n.toNat (0,[])
def qC {l:aWA}{n:Y}(h:n.toNat<M l):Ce l n=l[n.toNat]:=Lc h
def apn {l:aWA}{i:Y}(h0:0<=i) (h:i<M l):l.drop i.toNat=Ce l i::l.drop (i+1).toNat/\l.take (i+1).toNat=l.take i.toNat++[Ce l i]:=Qf h0 h
def IW {l:aWd}{n:Y}(h:n.toNat<M l):gi l n=l[n.toNat]:=Lc h
def usA (ph p:Y):aWo:=Bk J ph (AA<|(1:Y)*2^(min p.toNat 64)) !=0
def Bx (gs:aWh) (p:Y) (l:aWd):aWd:=l.filter λk=>usA (AG gs k).2.2.1 p
def Xj (gs:aWh) (p:Y) (l:aWd):Prop:=0<=p/\M l<=1000/\∀k∈l,0<=k/\k<(M gs:Y)
def aJt {gs:aWh}{p:Y}{l:aWd}:M (Bx gs p l)<=M l:=xA _ _
def dJ {cs:aWl}{gs:aWh}{o:Y}{k:aWe}{x:Y}(h:x∈Cv cs gs o k):0<=x/\x<(k:Y):=by
 have:=(CS.1 h).1
 obtain ⟨j,h1,rfl⟩:=F5.1 this
 have:=Iq.1 h1
 omega
def rowP (cs:aWl) (gs:aWh) (c p:Y):aWA:=if M (Bx gs p<|Cv cs gs c<|M gs)>0 then [(DE<|Ae cs c,Bx gs p<|Cv cs gs c<|M gs)] else []
def bP (cs:aWl) (gs:aWh) (c:Y):aWA:=rowP cs gs c 0++rowP cs gs c 1++rowP cs gs c 2
def Cy (cs:aWl) (gs:aWh):aWe->List Rw
 |0=>[]
 |k+1=>Cy cs gs k++bP cs gs k
def qY {cs:aWl}{gs:aWh}{c p:Y}:M (rowP cs gs c p)<=1:=by
 unfold rowP
 grind
def aot {cs:aWl}{gs:aWh}{c:Y}:M (bP cs gs c)<=3:=by
 unfold bP
 have h0:=qY (cs:=cs) (gs:=gs) (c:=c) (p:=0)
 have h1:=qY (cs:=cs) (gs:=gs) (c:=c) (p:=1)
 have h2:=qY (cs:=cs) (gs:=gs) (c:=c) (p:=2)
 simp only [BL];omega
def pn {cs:aWl}{gs:aWh}:∀ {k:aWe},M (Cy cs gs k)<=3*k
 |0=>by simp [Cy]
 |k+1=>by
  have:=pn (cs:=cs) (gs:=gs) (k:=k)
  have h2:=aot (cs:=cs) (gs:=gs) (c:=k)
  simp only [Cy,BL];omega
def OH (cs:aWl) (os:aWg) (ks:aWr) (gs:aWh) (bs:aWs):Y:=if BH cs os ks gs bs=U then 0 else 1
def Jo (cs:aWl) (os:aWg) (ks:aWr) (gs:aWh) (bs:aWs):aWA:=if BH cs os ks gs bs=U then Cy cs gs (M cs) else []
def I0 (a:Y):aWo:=an (a>=0)&&an (a<=80)
def QU {a:Y}:I0 a=U↔0<=a/\a<=80:=by simp [I0]
def Pv (n i:Y):aWo:=an (0<=i)&&an (i<n)
def po {n i:Y}:Pv n i=U↔0<=i/\i<n:=by simp [Pv]
def Gw (l:aWd) (n:Y):aWo:=an ((M l:Y)=n)&&(l.all (Pv n)&&once l)
def smA (alive l:aWd):Y:=(l.map λm=>gi alive m).sum
def L6 (i:Y) (o:aWk) (l:aWd):aWk:=l.foldl (λo m=>o.modify m.toNat (·++[i])) o
def Hb (o:aWk) (i:Y):aWA->List (List Int)
 | []=>o
 |r::rs=>Hb (L6 i o r.2) (i+1) rs
def Ha (alive sm:aWd) (i:Y):aWA->List Int
 | []=>sm
 |r::rs=>Ha alive (sm.set i.toNat<|sm.getD i.toNat 0+smA alive r.2) (i+1) rs
def aG7 {alive l:aWd}{m:Y}:smA alive (m::l)=gi alive m+smA alive l:=by simp [smA]
def pG {i m:Y}{o:aWk}{l:aWd}:L6 i o (m::l)=L6 i (o.modify m.toNat (·++[i])) l:=rfl
def aDM {i:Y}:∀ {l:aWd}{o:aWk},M (L6 i o l)=M o
 | [],o=>rfl
 |m::l,o=>by rw [pG,aDM,lY]
def aI4 {i:Y}:∀ {l:aWd}{o:aWk}{b:Y},(∀x∈o,(M x:Y)<=b)->∀x∈L6 i o l,(M x:Y)<=b+M l
 | [],o,b,h,x,hx=>by have:=h x hx;simp only [Bt];omega
 | m::l,o,b,h,x,hx=>by
  rw [pG] at hx
  have:=aI4 (b:=b+1) (λy hy=>by
   obtain ⟨k,hk,rfl⟩:=HG.1 hy;rw [lY] at hk
   have:=h o[k]<|GZ _
   rw [List.getElem_modify];split
   ·grind
   ·omega) x hx
  simp only [Bj];omega
def aov {l:aWd}{i:aWe}(h:i<M l):l.set i (l.getD i 0+0)=l:=by
 simp_all
def aeA {l:aWd}{i:aWe}{a b:Y}(h:i<M l):letI c:=l.set i<|l.getD i 0+a;c.set i (c.getD i 0+b)=l.set i (l.getD i 0+(a+b)):=by
 have e:(l.set i<|l.getD i 0+a).getD i 0=l.getD i 0+a:=A8
 rw [e,List.set_set]
 congr 1
 omega
def mx (a b:Y):Y:=if a<b then b else a
def D7 (gs:aWh) (i k:Y):Y:=EA (AG gs i).2.2.2.1 (AG gs i).2.2.2.2.2.1 k
def Ff (gs:aWh) (i a:Y):Y:=HY (AG gs i).2.2.2.1 (AG gs i).2.2.2.2.1 (AG gs i).2.2.2.2.2.1 a
def GA (gs:aWh) (alive:aWd) (i k:Y):Y:=mx (gi alive i) (D7 gs i k)-mx (gi alive i) (D7 gs i<|k-1)
def Kt (rows:aWA) (sm:aWd) (mo r:Y):aWo:=an<|sm.getD r.toNat 0+mo<=(Ce rows r).1
def Kw (sm:aWd) (mo:Y) (l:aWd):aWd:=l.foldl (λsm r=>sm.set r.toNat<|sm.getD r.toNat 0+mo) sm
abbrev Tr:=List Int×List Int×Bool
def G2 (O:aWk) (rows:aWA) (gs:aWh) (alive most:aWd) (level:Y) (t:Tr) (i:Y):Tr:=
 if t.2.1.getD i.toNat 0=level-1/\level<=Ff gs i (gi most i) then
  (if ((O.getD i.toNat []).all<|Kt rows t.1<|GA gs alive i level)=U then (Kw t.1 (GA gs alive i level)<|O.getD i.toNat [],t.2.1.set i.toNat level,U) else t)
 else t
def swp (O:aWk) (rows:aWA) (gs:aWh) (alive most:aWd) (level:Y) (t:Tr) (l:aWd):Tr:=l.foldl (G2 O rows gs alive most level) t
def shl (O:aWk) (rows:aWA) (gs:aWh) (alive most order:aWd):aWe->Y->aWd->aWd->List Int
 |0,_,_,lv=>lv
 |f+1,level,sm,lv=>if (swp O rows gs alive most level (sm,lv,X) order).2.2=U then shl O rows gs alive most order f (level+1) (swp O rows gs alive most level (sm,lv,X) order).1 (swp O rows gs alive most level (sm,lv,X) order).2.1 else (swp O rows gs alive most level (sm,lv,X) order).2.1
def aDv {sm l:aWd}{mo r:Y}:Kw sm mo (r::l)=Kw (sm.set r.toNat<|sm.getD r.toNat 0+mo) mo l:=rfl
def oW {mo:Y}:∀ {l sm:aWd},M (Kw sm mo l)=M sm
 | [],_=>rfl
 |r::l,sm=>by rw [aDv,oW,C3]
def TB {sm:aWd}{i k:aWe}{v:Y}:(sm.set i v).getD k 0=if i=k/\k<M sm then v else sm.getD k 0:=by
 by_cases h:i=k
 ·subst h
  by_cases h2:i<M sm
  ·simp [h2]
  ·grind
 ·simp [h]
def aEi {mo:Y}:∀ {l sm:aWd}{k:aWe},(∀r∈l,r.toNat≠k)->(Kw sm mo l).getD k 0=sm.getD k 0
 | [],_,_,_=>rfl
 |r::l,sm,k,h=>by
  rw [aDv,aEi λx hx=>h x A8,TB,AE λe=>h r AI e.1]
def qt {mo:Y}:∀ {l sm:aWd}{k:aWe},l.Nodup->(∀r∈l,0<=r)->k<M sm->(Kw sm mo l).getD k 0=sm.getD k 0+(if (k:Y)∈l then mo else 0)
 | [],sm,k,_,_,_=>by simp [Kw]
 | r::l,sm,k,hn,h0,hk=>by
  rw [aDv];obtain ⟨n1,n2⟩:=M7.1 hn
  have hr:=h0 r AI
  by_cases e:r.toNat=k
  ·rw [aEi λx hx e2=>n1 (by
    have:=h0 x A8
    have:r=x:=A0
    rw [this];exact hx),TB,AD ⟨e,hk⟩,AD A8,e]
  ·rw [qt n2 (λx hx=>h0 x A8) A8,TB,AE λc=>e c.1]
   have:¬(k:Y)=r:=A0
   simp [this]
def uu {mi ma st a:Y}:HY mi ma st a<=80:=by
 have:=aSq (mi:=mi) (ma:=ma) (st:=st)
 unfold HY;split
 ·omega
 ·split
  ·omega
  ·omega
structure OkT (O:aWk) (rows:aWA) (gs:aWh) (alive most order:aWd):Prop where
 ol:M O=16
 ord:∀i∈order,(0<=i/\i<16)/\i<(M gs:Y)/\i<(M alive:Y)/\i<(M most:Y)
 al:∀a∈alive,0<=a/\a<=80
 mo:∀a∈most,0<=a/\a<=80
 has:∀i∈order,Dr (AG gs i).2.2.2.1 (AG gs i).2.2.2.2.1 (AG gs i).2.2.2.2.2.1=U
 row:∀o∈O,o.Nodup/\(M o:Y)<=1000/\∀r∈o,0<=r/\r<(M rows:Y)
 cap:∀r∈rows,r.1<=1000
structure OkS (rows:aWA) (order sm lv:aWd):Prop where
 len:M sm=M rows
 bd:∀k:aWe,0<=sm.getD k 0/\sm.getD k 0<=2000
 Bz:∀i∈order,i<(M lv:Y)
 lvb:∀k:aWe,0<=lv.getD k 0/\lv.getD k 0<=80
def aj3 {mi st k:Y}(h:1<=mi/\mi<=80/\1<=st/\st<=80) (h0:0<=k) (h1:k<=81):0<=EA mi st k/\EA mi st k<=6480:=by
 unfold EA;split
 ·omega
 ·have a1:0<=(k-1)*st:=Im A0 A0
  have a2:(k-1)*st<=(k-1)*80:=Q6 A0 A0
  omega
def aH3 {mi st j k:Y}(h:1<=mi/\1<=st) (h0:0<=j) (h1:j<=k):EA mi st j<=EA mi st k:=by
 unfold EA;split
 ·split
  ·omega
  ·have a1:0<=(k-1)*st:=Im A0 A0
   omega
 ·rw [AE A0]
  have:(j-1)*st<=(k-1)*st:=M6 A0 A0
  omega
def aSo {gs:aWh}{alive:aWd}{i k:Y}(hh:Dr (AG gs i).2.2.2.1 (AG gs i).2.2.2.2.1 (AG gs i).2.2.2.2.2.1=U) (ha:0<=gi alive i/\gi alive i<=80) (h0:1<=k) (h1:k<=81):0<=GA gs alive i k/\GA gs alive i k<=10000:=by
 obtain ⟨g1,g2,g3,g4,g5⟩:=IQ.1 hh
 have b1:=aj3 (mi:=(AG gs i).2.2.2.1) (st:=(AG gs i).2.2.2.2.2.1) (k:=k) ⟨g1,A0,g4,g5⟩ A0 h1
 have b3:=aH3 (mi:=(AG gs i).2.2.2.1) (st:=(AG gs i).2.2.2.2.2.1) (j:=k-1) (k:=k) ⟨g1,g4⟩ A0 A0
 unfold GA mx D7;omega
def Kc {l:aWd}{i:Y}(h0:0<=i) (h:i<(M l:Y)):gi l i∈l:=by
 rw [IW A0];exact GZ _
theorem aQA {O:aWk}{rows:aWA}{gs:aWh}{alive most order:aWd}{level:Y}{t:Tr}{i:Y}(hT:OkT O rows gs alive most order) (hS:OkS rows order t.1 t.2.1) (hi:i∈order) (h0:1<=level) (h1:level<=81):letI b:=G2 O rows gs alive most level t i;OkS rows order b.1 b.2.1:=by
 unfold G2;split
 ·split
  ·rename_i hc hf
   obtain ⟨⟨o0,o1⟩,o2,o3,o4⟩:=hT.ord i hi
   have hl80:=uu (mi:=(AG gs i).2.2.2.1) (ma:=(AG gs i).2.2.2.2.1) (st:=(AG gs i).2.2.2.2.2.1) (a:=gi most i)
   have hl81:=hc.2
   unfold Ff at hl81
   have hm:=aSo (gs:=gs) (alive:=alive) (k:=level) (hT.has i hi) (hT.al _<|Kc o0 o3) h0 h1
   have ho:O.getD i.toNat []∈O:=by
    have hl:=hT.ol
    grind
   obtain ⟨r1,r2,r3⟩:=hT.row _ ho
   refine ⟨by simp only;rw [oW];exact hS.len,λk=>?_,λj hj=>by simp only [C3];exact hS.Bz j hj,λk=>by
    have:=hS.lvb k
    rw [TB];split<;>omega⟩
   by_cases hk:k<M t.1
   ·rw [qt r1 (λr hr=>(r3 r hr).1) hk]
    have hb:=hS.bd k
    split
    ·rename_i hkm
     have hfit:=BO.1 hf _ hkm
     unfold Kt at hfit;rw [Aa,By] at hfit
     have hk2:=hS.len
     have:=hT.cap (Ce rows (k:Y)) yL
     omega
    ·omega
   ·rw [DJ,Sa (by rw [oW];omega)]
    simp
  ·exact hS
 ·exact hS
def tR {O:aWk}{rows:aWA}{gs:aWh}{alive most order:aWd}{level:Y}(hT:OkT O rows gs alive most order) (h0:1<=level) (h1:level<=81):∀(l:aWd) (t:Tr),(∀i∈l,i∈order)->OkS rows order t.1 t.2.1->OkS rows order (swp O rows gs alive most level t l).1 (swp O rows gs alive most level t l).2.1
 | [],t,_,h=>h
 |i::l,t,hl,h=>tR hT h0 h1 l _ (λj hj=>hl j A8)<|aQA hT h (hl i AI) h0 h1
def pP {O:aWk}{rows:aWA}{gs:aWh}{alive most:aWd}{level:Y}:∀(l:aWd) (t:Tr),(swp O rows gs alive most level t l).2.2=U->t.2.2=U\/level<=80
 | [],t,h=> .inl h
 | i::l,t,h=>by
  rcases pP l _ h with h2|h2
  ·unfold G2 at h2
   split at h2
   ·rename_i hc
    have:=uu (mi:=(AG gs i).2.2.2.1) (ma:=(AG gs i).2.2.2.2.1) (st:=(AG gs i).2.2.2.2.2.1) (a:=gi most i)
    have h3:=hc.2
    unfold Ff at h3;omega
   ·grind
  ·grind
def aeK {O:aWk}{rows:aWA}{gs:aWh}{alive most:aWd}{level:Y}{t:Tr}{i:Y}:M (G2 O rows gs alive most level t i).2.1=M t.2.1:=by
 unfold G2;split
 ·split
  ·grind
  ·rfl
 ·rfl
def aE5 {O:aWk}{rows:aWA}{gs:aWh}{alive most:aWd}{level:Y}:∀(l:aWd) (t:Tr),M (swp O rows gs alive most level t l).2.1=M t.2.1
 | [],t=>rfl
 |i::l,t=>(aE5 l _).trans aeK
def aQJ {O:aWk}{rows:aWA}{gs:aWh}{alive most order:aWd}(hT:OkT O rows gs alive most order):∀(f:aWe) (level:Y) (sm lv:aWd),1<=level->level<=81->OkS rows order sm lv->M (shl O rows gs alive most order f level sm lv)=M lv/\∀k:aWe,0<=(shl O rows gs alive most order f level sm lv).getD k 0/\(shl O rows gs alive most order f level sm lv).getD k 0<=80
 |0,_,_,lv,_,_,h=>⟨rfl,h.lvb⟩
 | f+1,level,sm,lv,h0,h1,h=>by
  have hk:=tR hT h0 h1 order (sm,lv,X) (λ_ h=>h) h
  have hl:=aE5 (O:=O) (rows:=rows) (gs:=gs) (alive:=alive) (most:=most) (level:=level) order (sm,lv,X)
  have hs:=pP (O:=O) (rows:=rows) (gs:=gs) (alive:=alive) (most:=most) (level:=level) order (sm,lv,X)
  rw [shl];split
  ·rename_i hc
   have h80:level<=80:=by
    rcases hs hc with h|h
    ·cases h
    ·exact h
   obtain ⟨g1,g2⟩:=aQJ hT f (level+1) _ _ A0 A0 hk
   grind
  ·exact ⟨hl,hk.lvb⟩
def KC (i:Y):aWA->Y->List Int
 | [],_=>[]
 |r::rs,j=>(if r.2.contains j then [i] else [])++KC (i+1) rs j
def ae6 {o:aWk}{f:aWd->aWd}{j k:aWe}(h:k<M o):(o.modify j f).getD k []=if j=k then f (o.getD k []) else o.getD k []:=by
 grind
def aFp {i:Y}:∀ {l:aWd}{o:aWk}{k:aWe},l.Nodup->(∀m∈l,0<=m)->k<M o->(L6 i o l).getD k []=o.getD k []++(if l.contains (k:Y) then [i] else [])
 | [],o,k,_,_,_=>by simp [L6]
 | m::l,o,k,hn,h0,hk=>by
  obtain ⟨n1,n2⟩:=M7.1 hn
  have hm:=h0 m AI
  rw [pG,aFp n2 (λx hx=>h0 x A8) A8,ae6 hk]
  by_cases e:m.toNat=k
  ·have e2:(k:Y)=m:=A0
   grind
  ·rw [AE e]
   have:¬(k:Y)=m:=A0
   simp [this]
def aAr (r:Rw):Prop:=r.2.Nodup/\∀m∈r.2,0<=m
def aE4:∀ {rs:aWA}{o:aWk}{i:Y},M (Hb o i rs)=M o
 | [],_,_=>rfl
 |r::rs,o,i=>by rw [Hb,aE4,aDM]
def aHb:∀ {rs:aWA}{o:aWk}{i:Y}{k:aWe},(∀r∈rs,aAr r)->k<M o->(Hb o i rs).getD k []=o.getD k []++KC i rs k
 | [],o,i,k,_,_=>by simp [Hb,KC]
 |r::rs,o,i,k,h,hk=>by
  obtain ⟨h1,h2⟩:=h r AI;rw [Hb,aHb (λx hx=>h x A8) (by rw [aDM];exact hk),aFp h1 h2 hk,KC,Ct]
def TF:∀ {rs:aWA}{i j x:Y},x∈KC i rs j↔i<=x/\x<i+M rs/\(Ce rs<|x-i).2.contains j=U
 | [],i,j,x=>by simp [KC];omega
 | r ::rs,i,j,x=>by
  rw [KC,BX,TF]
  by_cases e:x=i
  ·subst e
   have g0:Ce (r::rs) (x-x)=r:=by simp [Ce]
   rw [g0]
   constructor
   ·rintro (h|h)
    ·split at h
     ·rename_i hc
      grind
     ·cases h
    ·omega
   ·rintro ⟨_,_,h⟩
    rw [AD h]
    simp
  ·have hn:¬x∈(if r.2.contains j then [i] else []):=by
    split
    ·grind
    ·simp
   simp only [Bj]
   constructor
   ·rintro (h|⟨h1,h2,h3⟩)
    ·grind
    ·refine ⟨A0,A0,?_⟩
     exact aNC
   ·rintro ⟨h1,h2,h3⟩
    refine .inr ⟨A0,A0,?_⟩;exact aNC
def pH:∀ {rs:aWA}{i j:Y},(KC i rs j).Nodup
 | [],_,_=>List.nodup_nil
 | r::rs,i,j=>by
  rw [KC];split
  ·rw [x9,M7]
   refine ⟨λh=>?_,pH⟩
   have:=(TF.1 h).1
   omega
  ·rw [EX];exact pH
def aIj:∀ {rs:aWA}{i j:Y},M (KC i rs j)<=M rs
 | [],_,_=>At _
 |r::rs,i,j=>by
  have:=aIj (rs:=rs) (i:=i+1) (j:=j)
  rw [KC]
  grind
def aE3 {alive:aWd}:∀ {rs:aWA}{sm:aWd}{i:Y},M (Ha alive sm i rs)=M sm
 | [],_,_=>rfl
 |r::rs,sm,i=>by rw [Ha,aE3,C3]
def aHa {alive:aWd}:∀ {rs:aWA}{sm:aWd}{i:Y}{k:aWe},0<=i->k<M sm->(Ha alive sm i rs).getD k 0=sm.getD k 0+(if i<=(k:Y)/\(k:Y)<i+M rs then smA alive (Ce rs<|(k:Y)-i).2 else 0)
 | [],sm,i,k,_,_=>by
  rw [AE AI]
  simp [Ha]
 | r ::rs,sm,i,k,hi,hk=>by
  rw [Ha,aHa A0 A8,TB]
  by_cases e:i.toNat=k
  ·have e2:(k:Y)=i:=A0
   rw [AD ⟨e,hk⟩,AE A0,AD A8,e,e2]
   have:Ce (r::rs) (i-i)=r:=by simp [Ce]
   rw [this];omega
  ·rw [AE λc=>e c.1]
   by_cases c:i+1<=(k:Y)/\(k:Y)<i+1+M rs
   ·rw [AD c,AD A8]
    have:Ce (r::rs) ((k:Y)-i)=Ce rs ((k:Y)-(i+1)):=by
     unfold Ce;rw [show ((k:Y)-i).toNat=((k:Y)-(i+1)).toNat+1 by omega]
     simp
    rw [this]
   ·grind
def aQH {alive:aWd}(ha:∀a∈alive,0<=a/\a<=80):∀ {l:aWd},(∀m∈l,0<=m/\m<(M alive:Y))->0<=smA alive l/\smA alive l<=80*M l
 | [],_=>by simp [smA]
 |m::l,h=>by
  have h1:=aQH ha (l:=l) λx hx=>h x A8
  have hm:=h m AI
  have:=ha (gi alive m)<|Kc hm.1 hm.2
  rw [aG7];simp only [Bj];omega
def adJ {α:Type}{l:List α}(p:α->aWo) (h:l.Nodup):(l.filter p).Nodup:=List.Pairwise.filter p h
def aex {cs:aWl}{gs:aWh}{o:Y}{k:aWe}:(Cv cs gs o k).Nodup:=by
 refine adJ _ ?_;exact xd _ (λa b h=>A0) lQ
def avj {gs:aWh}{p k:Y}{l:aWd}:k∈Bx gs p l↔k∈l/\usA (AG gs k).2.2.1 p=true:=by simp [Bx,CS]
def ada {cs:aWl}{gs:aWh}{c p:Y}{r:Rw}(h:r∈rowP cs gs c p):r=(DE<|Ae cs c,Bx gs p<|Cv cs gs c<|M gs)/\M (Bx gs p<|Cv cs gs c<|M gs)>0:=by
 unfold rowP at h;exact mS
def qZ {cs:aWl}{gs:aWh}{r:Rw}:∀ {k:aWe},r∈Cy cs gs k->∃c p:Y,(0<=c/\c<(k:Y))/\(p=0\/p=1\/p=2)/\r=(DE<|Ae cs c,Bx gs p<|Cv cs gs c<|M gs)/\M r.2>0
 |0,h=>Ao
 | k+1,h=>by
  rw [Cy,BX] at h;rcases h with h|h
  ·obtain ⟨c,p,h1,h2,h3⟩:=qZ h
   grind
  ·unfold bP at h
   rw [BX,BX] at h;rcases h with (h|h) |h
   ·exact yD
   ·exact yD
   ·exact yD
def row_mem {cs:aWl}{gs:aWh}{r:Rw}{k:aWe}(h:r∈Cy cs gs k):r.2.Nodup/\(∀m∈r.2,0<=m/\m<(M gs:Y))/\M r.2<=M gs/\M r.2>0:=by
 obtain ⟨c,p,h1,h2,h3,h4⟩:=qZ h;subst h3;refine ⟨adJ _ aex,λm hm=>dJ (avj.1 hm).1,HJ aJt pe,h4⟩
def Fa (gs:aWh) (lv:aWd):aWd:=(au<|M gs).map λk:aWe=>D7 gs (k:Y)<|lv.getD k 0
def OL (rows:aWA):aWk:=Hb (aq 16 []) 0 rows
def SM (alive:aWd) (rows:aWA):aWd:=Ha alive (aq (M rows) 0) 0 rows
def Fx (cs:aWl) (os:aWg) (ks:aWr) (gs:aWh) (bs:aWs) (al mo od:aWd):aWo:=BH cs os ks gs bs&&(an (M al=M gs)&&(an (M mo=M gs)&&(al.all I0&&(mo.all I0&&Gw od (M gs)))))
def shV (rows:aWA) (gs:aWh) (al mo od:aWd):aWd:=shl (OL rows) rows gs al mo od 81 1 (SM al rows)<|aq (M al) 0
def shE (cs:aWl) (os:aWg) (ks:aWr) (gs:aWh) (bs:aWs) (al mo od:aWd):Y:=if Fx cs os ks gs bs al mo od=U then 0 else 1
def Fe (cs:aWl) (os:aWg) (ks:aWr) (gs:aWh) (bs:aWs) (al mo od:aWd):aWd:=if Fx cs os ks gs bs al mo od=U then Fa gs (shV (Cy cs gs<|M cs) gs al mo od) else []
def LM {cs:aWl}{os:aWg}{ks:aWr}{gs:aWh}{bs:aWs}{al mo od:aWd}:Fx cs os ks gs bs al mo od=U↔BH cs os ks gs bs=U/\M al=M gs/\M mo=M gs/\al.all I0=U/\mo.all I0=U/\Gw od (M gs)=true:=by
 simp [Fx]
def aSs:∀ {l:aWd}{f:Y},JZ f l<=f
 | [],f=>Co _
 |n::l,f=>by
  have:JZ f (n::l)=JZ (if n<f then n else f) l:=rfl
  have:=aSs (l:=l) (f:=if n<f then n else f)
  split at this<;>rename_i h
  ·grind
  ·grind
def atb {c:Cd}:DE c<=c.2.2.1:=by
 unfold DE;split<;>exact aSs
def aF7 {rows:aWA}:M (OL rows)=16:=by rw [OL,aE4,Ci]
def wE {rows:aWA}(h:∀r∈rows,aAr r) {k:aWe}(hk:k<16):(OL rows).getD k []=KC 0 rows k:=by
 rw [OL,aHb h A8]
 have:(aq 16 ([]:aWd)).getD k []=[]:=by
  grind
 grind
def atE {cs:aWl}{gs:aWh}{k:aWe}:∀r∈Cy cs gs k,aAr r:=λr hr=>⟨(row_mem hr).1,λm hm=>((row_mem hr).2.1 m hm).1⟩
def aDw {al:aWd}{rows:aWA}:M (SM al rows)=M rows:=by rw [SM,aE3,Ci]
def aTb {al:aWd}{rows:aWA}{k:aWe}(hk:k<M rows):(SM al rows).getD k 0=smA al (Ce rows k).2:=by
 rw [SM,aHa (Co _) A8,AD A0,QB]
 grind
def aDt {od:aWd}{n i:Y}(h:Gw od n=U) (hi:i∈od):0<=i/\i<n:=by
 unfold Gw at h;simp only [AY,BO] at h;exact po.1<|h.2.1 i hi
def alO {cs:aWl}{os:aWg}{ks:aWr}{gs:aWh}{bs:aWs}{al mo od:aWd}(h:Fx cs os ks gs bs al mo od=U):letI b:=Cy cs gs<|M cs;OkT (OL b) b gs al mo od/\OkS b od (SM al b) (aq (M al) 0):=by
 obtain ⟨hv,h1,h2,h3,h4,h5⟩:=LM.1 h
 have hl:=(DK.1 hv).1
 have ha:∀a∈al,0<=a/\a<=80:=λa ha=>QU.1<|BO.1 h3 a ha
 refine ⟨⟨aF7,λi hi=>?_,ha,λa ha=>QU.1<|BO.1 h4 a ha,λi hi=>?_,λo ho=>?_,λr hr=>?_⟩,⟨aDw,λk=>?_,λi hi=>?_,λk=>?_⟩⟩
 ·have:=aDt h5 hi
  omega
 ·have hi:=aDt h5 hi
  have:=Ol hv hi.1 hi.2
  exact aNo
 ·obtain ⟨k,hk,rfl⟩:=HG.1 ho
  rw [aF7] at hk
  have e:=wE (rows:=Cy cs gs<|M cs) atE hk
  rw [DJ,Dg A8,lP] at e;rw [e]
  have hln:=aIj (rs:=Cy cs gs<|M cs) (i:=0) (j:=k)
  have hrn:=pn (cs:=cs) (gs:=gs) (k:=M cs)
  refine ⟨pH,A0,λr hr=>?_⟩
  have:=TF.1 hr
  omega
 ·obtain ⟨c,p,hc,hp,rfl,_⟩:=qZ hr
  have hcv:=qU hv hc.1 hc.2
  unfold I5 at hcv;simp only [AY,BV] at hcv
  have:=atb (c:=Ae cs c)
  simp only;omega
 ·by_cases hk:k<M (Cy cs gs<|M cs)
  ·rw [aTb hk]
   have hr:Ce (Cy cs gs<|M cs) (k:Y)∈Cy cs gs (M cs):=by rw [qC yo];exact GZ _
   obtain ⟨m1,m2,m3,_⟩:=row_mem hr
   have:=aQH ha (l:=(Ce (Cy cs gs<|M cs) (k:Y)).2) λm hm=>A8
   omega
  ·rw [DJ,Sa (by rw [aDw];omega)]
   simp
 ·have:=aDt h5 hi
  rw [Ci];omega
 ·have:(aq (M al) (0:Y)).getD k 0=0:=by
   simp only [List.getD,V9];split<;>rfl
  omega
def aIK {xs:aWd}{r:aWe}{v:Y}:(xs++aq (r+1) 0).set (M xs) v=xs++[v]++aq r 0:=by
 grind
def SD (gs:aWh) (lv:aWd) (n:aWe):aWd:=(au n).map λk:aWe=>D7 gs (k:Y)<|lv.getD k 0
def afH {gs:aWh}{lv:aWd}{n:aWe}:SD gs lv (n+1)=SD gs lv n++[D7 gs (n:Y)<|lv.getD n 0]:=by
 simp [SD,Se]
def acv {gs:aWh}{lv:aWd}{n:aWe}:M (SD gs lv n)=n:=by simp [SD]
def ntW {b:aWo}(h:(!b)=U):b=false:=A8
def nfW {b:aWo}(h:(!b)=X):b=true:=A8
def wt (n:Y):Y:=(n*1000000+999799) / 999800
def wtA (n:Y):Y:=if inB n 0 1000000=U then wt n else 0
def wtE (n:Y):Y:=if inB n 0 1000000=U then 0 else 1
def aPx {m n:Y}:m*999800 / 1000000>=n↔wt n<=m:=by
 unfold wt;omega
def anw {a b:Y}(a0:0<=a) (a1:a<=3000000) (b0:0<=b) (b1:b<=1000000):0<=a*b/\a*b<=3000000000000:=
 ⟨Im a0 b0,Hl (Q6 b1 a0) A0⟩
def aVO {n:Y}(h0:0<=n):0<=wt n/\wt n<=2*n+2:=by
 unfold wt;omega
abbrev AQ:Ty:=.pair A7<|.pair A7<|.pair A7<|.pair A7 A7
abbrev Le:=Int×Int×Int×Int×Int
def aWn:qT (List Le):=⟨⟩
instance:Coe (List Le) LV:=⟨.xl AQ⟩
def Ag (l:aWn) (n:Y):Le:=l.getD n.toNat (0,0,0,0,0)
def DI (x:Le):aWo:=inB x.1 1 1000000&&(inB x.2.1 0 15&&(inB x.2.2.1 0 80&&(inB x.2.2.2.1 0 1000000&&inB x.2.2.2.2 1 1000)))
def K4 (b x:Le):aWo:=an (x.1>b.1)&&an (x.2.2.2.1>=b.2.2.2.1)
def Gy (l:aWn) (j:Y):aWo:=DI (Ag l j)&&(an (j=0) ||K4 (Ag l<|j-1) (Ag l j))
def B4 (l:aWn):aWo:=an (M l<=64)&&Dp (M l) (Gy l)
def La {l:aWn}{n:Y}(h:n.toNat<M l):Ag l n=l[n.toNat]:=Lc h
def WC {l:aWn}{i:Y}(h0:0<=i) (h:i<M l):l.drop i.toNat=Ag l i::l.drop (i+1).toNat/\l.take (i+1).toNat=l.take i.toNat++[Ag l i]:=Qf h0 h
def J8 {l:aWn}{i:Y}(h0:0<=i) (h:i<M l):Ag l i∈l:=by
 rw [La A0]
 grind
def LQ {x:Le}:DI x=U↔(1<=x.1/\x.1<=1000000)/\(0<=x.2.1/\x.2.1<=15)/\(0<=x.2.2.1/\x.2.2.1<=80)/\(0<=x.2.2.2.1/\x.2.2.2.1<=1000000)/\1<=x.2.2.2.2/\x.2.2.2.2<=1000:=by
 unfold DI;simp only [AY,BV]
def GH {l:aWn}(h:B4 l=U):M l<=64/\∀x∈l,DI x=true:=by
 unfold B4 at h;rw [AY] at h;refine ⟨D5 h.1,λx hx=>?_⟩
 obtain ⟨k,hk,rfl⟩:=HG.1 hx
 have:=Dx.1 h.2 k A0
 unfold Gy at this;rw [AY,La A8] at this
 grind
def DH (x:Le):Y:=x.2.2.2.1+10+wt x.2.2.2.2
def L1 (t:Y) (x:Le):aWo:=an<|DH x>t
def JF (l:aWn) (t:Y):aWo:=B4 l&&inB t 0 1100000
def BB (l:aWn) (t:Y):aWn:=if JF l t=U then l.filter (L1 t) else []
def Cm (l:aWn) (t:Y):Y:=if JF l t=U then 0 else 1
def Fb (l:aWn) (x:Le):Y:=if (B4 l&&DI x)=U then (if (an (M l>0)&&!K4 (Ag l<|(M l:Y)-1) x)=U then 12 else if M l=64 then 10 else 0) else 1
def GJ (l:aWn) (x:Le):aWn:=if Fb l x=0 then l++[x] else []
end Go.Proofs.YtoifmkifedcnnaaGreatDoor
namespace Go.Sx
open Go.Proofs.YtoifmkifedcnnaaGreatDoor
variable {P : Program} {G : B5} {Γ : Specs} {σ : Type}
structure CpD (σ:Type) where
 A:σ->List LV
 B:σ->List AB
 g:aWf->aWi->σ
 E:σ->Prop
 mu:σ->Nat
 r:σ->σ
namespace CpD
variable (D : CpD σ)
def m (n:aWe) (args:aWf) (H:aWi):T (LV×List AB):=(V0 H args).bind λa=>(bc H H).bind λb=>
 .req (D.E (D.g a b)/\D.mu (D.g a b)<n/\D.A (D.g a b)=a/\D.B (D.g a b)=b) (.ok (.v<|.tuple #[],D.B<|D.r<|D.g a b))
variable {D}
def gJ {n:aWe}{args:aWf}{H:aWi}{q:LV×List AB}(h:(D.m n args H).all λz=>z=q):∃s,D.E s/\D.mu s<n/\D.A s=args/\D.B s=H/\q=(.v<|.tuple #[],D.B<|D.r s):=by
 unfold m at h;obtain ⟨a,h1,h2⟩:=T.B8 h;obtain ⟨b,h3,h4⟩:=T.B8 h2
 have e1:=dZ h1
 have e2:=fT h3
 obtain ⟨⟨g1,g2,g3,g4⟩,g5⟩:=h4;exact ⟨_,g1,g2,g3.trans e1,g4.trans e2,g5.symm⟩
def one (c:aWF) (m:aWf->aWi->T (LV×List AB)):Does:=λg=>if g=c then ah m else aj
def Wk {c:aWF}{m:aWf->aWi->T (LV×List AB)}(h:Dj P G c m):∀g m',one c m g=ah m'->Dj P G g m':=λg m' e=>by
 unfold one at e;split at e
 ·rename_i q
  subst q;cases e;exact h
 ·cases e
def sound {LL:DS}{c:aWF}{d:aWe}(hΓ:∀g S,Γ g=ah S->Valid P G g S) (hLL:Eb P G LL)
  (hstep:∀(n:aWe) (s:σ),D.E s->D.mu s<=n->SC (λq=>q=(.v<|.tuple #[],D.B<|D.r s)) ((Ep P G Γ LL<|Uy P G Γ LL (one c<|D.m n) d).k c (D.A s)<|D.B s)):∀n,Dj P G c (D.m n)
 |0=>λw0 Z0 Z β H w args vals lv H' hW hr hok hq=>by
  obtain ⟨s,_,h,_⟩:=gJ hq;exact absurd h (Nat.not_lt_zero _)
 |n+1=>Dj.walk hΓ hLL (aDa hΓ hLL (Wk<|sound hΓ hLL hstep n) d) λargs H lv H' hq=>by
  obtain ⟨s,h1,h2,h3,h4,h5⟩:=gJ hq;rw [<-h3,<-h4,h5];exact (hstep n s h1<|Nat.le_of_lt_succ h2).out
end CpD
end Go.Sx
namespace Go.Sx
open Go Go.RowKit Go.Proofs.YtoifmkifedcnnaaGreatDoor
variable {P : Program} {G : B5} {Γ : Specs} {σ τ : Type}
def Qu (ks:aWj) (H:aWi):aWi:=ks.foldl (λH k=>H.set k ⟨[],0,.dead,X⟩) H
def adt (ks:aWj):∀(H:aWi),M (Qu ks H)=M H:=by
 induction ks with
 |nil=>intro H;rfl
 |cons k ks ih=>intro H;simp only [Qu,KE] at ih|-;rw [ih];simp
def RW.kills {w0 w:aWq}{Z0:Gz}{Z:aWe->Prop}{β:aWe->aWU}(ks:aWj):∀ {H:aWi},RW G w0 Z0 Z β H w->RW G w0 Z0 Z β (Qu ks H) w:=by
 induction ks with
 |nil=>intro H h;exact h
 |cons k ks ih=>intro H h;simp only [Qu,KE] at ih|-;exact ih<|h.kill k 0
structure D8 (σ τ:Type) where
 A:σ->List LV
 B:σ->List AB
 g:aWf->aWi->σ
 E:σ->Prop
 kl:aWj
 us:List Up
 V:τ->LV
 C:τ->List AB
 r:σ->τ
namespace D8
variable {D : D8 σ τ}
def m (D:D8 σ τ) (args:aWf) (H:aWi):T (LV×List AB):=(V0 (Qu D.kl H) args).bind λa=>(bc (Qu D.kl H)<|Qu D.kl H).bind λb=>
 .req (D.E (D.g a b)/\D.A (D.g a b)=a/\D.B (D.g a b)=b) (.ok (D.V<|D.r<|D.g a b,D.C<|D.r<|D.g a b))
def gJ {args:aWf}{H:aWi}{q:LV×List AB}(h:(D.m args H).all λz=>z=q):∃s,D.E s/\D.A s=args/\D.B s=Qu D.kl H/\q=(D.V<|D.r s,D.C<|D.r s):=by
 obtain ⟨a,h1,h2⟩:=T.B8 h;obtain ⟨b,h3,h4⟩:=T.B8 h2
 have e1:=dZ h1
 have e2:=fT h3
 obtain ⟨⟨g1,g3,g4⟩,g5⟩:=h4;exact ⟨_,g1,g3.trans e1,g4.trans e2,g5.symm⟩
def sound {LL:DS}{K:aW5}{c:aWF}{t:σ->T τ}(hΓ:∀g S,Γ g=ah S->Valid P G g S) (hLL:Eb P G LL) (hK:FW P G K)
  (hnf:∀s,((Ep P G Γ LL K).k c (D.A s)<|D.B s).bind (λq=>GM (M<|D.B s) [0] D.us .normal (q.1::D.A s) q.2)=(t s).mp (λs2=>⟨.normal,M (D.A s)+1,[D.V s2],D.C s2,U⟩))
  (ht:∀s,D.E s->SC (λs2=>s2=D.r s) (t s)):Dj P G c D.m:=λw0 Z0 Z β H w args vals lv H' hW hr hok hq=>by
 obtain ⟨s,h1,h2,h3,h4⟩:=gJ hq;simp only [B0] at h4;obtain ⟨rfl,rfl⟩:=h4
 have hall:((t s).mp λs2=>(⟨.normal,M (D.A s)+1,[D.V s2],D.C s2,U⟩:Vw)).all (λz=>z=⟨.normal,M (D.A s)+1,[D.V<|D.r s],D.C<|D.r s,U⟩):=T.XE<|T.BY (λx hx=>by rw [hx]) (ht s h1).out
 rw [<-hnf s] at hall;obtain ⟨⟨lv1,H1⟩,q1,q2⟩:=T.B8 hall;simp only at q2
 have hWk:RW G w0 Z0 Z β (D.B s) w:=by rw [h3];exact hW.kills D.kl
 have hlen:M (D.B s)=M H:=by rw [h3,adt]
 have hsz:vals.size=M args:=by have:=hr.length;simpa using this
 let a0:aWD:={tmps:=vals,defers:=[]}
 have hF0:RF [] β Z w (M<|D.B s) args a0:=by
  refine ⟨hsz,λt x hx=>?_,rfl,λd hd=>Vh⟩
  obtain ⟨y,e1,e2⟩:=RL.get t x hr hx
  have:vals.getD t undef=y:=by
   have e3:t<vals.size:=A8
   have e4:vals[t]? =ah y:=by simpa using e1
   rw [Q8 e3] at e4
   simp [Array.getD,e3,EF e4]
  refine ⟨?_,by rw [hlen];exact AT.get t x hok hx⟩
  show R β Z w x (vals.getD t undef)
  rw [this];exact e2
 rw [h2] at q1;refine ((oU hΓ hLL hK).k w0 _ Z β (D.B s) w c args vals lv1 H1 (hWk.hold hF0) hr (by rw [hlen];exact hok) q1).mono λe w' ⟨v,he,Z',β',r1,r2,r3⟩=>⟨v,he,?_⟩
 have hF1:=RW.held hF0 r1
 have hF2:RF [] β' Z' w' (M H1) (lv1::D.A s) {tmps:=#[v]++vals,defers:=[]}:=by
  refine ⟨by simp [h2,hsz];omega,λt x hx=>?_,rfl,λd hd=>Vh⟩
  cases t with
  | zero=>
   simp only [List.getElem?_cons_zero,Ai] at hx;subst hx
   exact ⟨by
    have e:(#[v]++vals).getD 0 undef=v:=aOO
    rw [e];exact r2,r3⟩
  | succ t=>
   rw [h2] at hx
   have:=hF1.get t x hx
   have e:(#[v]++vals).getD (t+1) undef=vals.getD t undef:=by
    have ht:t<vals.size:=A8
    simp [Array.getD,ht,Array.getElem_append,show t+1<1+vals.size by omega]
   grind
 have hgh:AN (M<|D.B s) Z0:=λp hp=>by rw [hlen];exact (hW.gh p hp).2
 obtain ⟨_,_,Z2,β2,k1,k2⟩:=cd hgh r1.less hF2 q2 rfl;refine ⟨Z2,β2,k1,?_⟩
 have hx:(Hw (M (lv1::D.A s)) [0] [D.V<|D.r s])[0]? =ah (D.V<|D.r s):=by
  simp [Hw,Qg,at_]
 have:=k2.get 0 _ hx
 have e:(#[v]++vals).getD 0 undef=v:=aOO
 refine ⟨?_,this.2⟩
 have h5:=this.1
 rwa [e] at h5
end D8
def ES (n m:aWe):aWj:=(au n).map (·+m)++au m
def ayn {n m i:aWe}(h:i<n):(ES n m)[i]? =ah (i+m):=by
 unfold ES;rw [Hj A8]
 simp [h]
def ayo {n m i:aWe}(h:i<m):(ES n m)[n+i]? =ah i:=by
 unfold ES
 simp [h]
def aIJ {n m:aWe}:M (ES n m)=n+m:=by simp [ES]
def eK {n m k:aWe}:k∈ES n m↔k<n+m:=by
 unfold ES;simp only [BX,F5,Iq];refine ⟨λh=>?_,λh=>?_⟩
 ·omega
 ·by_cases h1:k<m
  ·grind
  ·exact .inl ⟨k-m,A0,A0⟩
def aFM:∀ {ks:aWj},ks.Nodup->nodupB ks=U
 | [],_=>rfl
 |k::ks,h=>by
  obtain ⟨h1,h2⟩:=M7.1 h;simp only [nodupB,AY,D2];exact ⟨A8,aFM h2⟩
def afa {n m:aWe}:nodupB (ES n m)=true:=by
 apply aFM
 unfold ES;rw [xb];refine ⟨?_,lQ,λx hx y hy e=>?_⟩
 ·exact xd _ (λa b (h:a≠b) e=>h A8)<|lQ (n:=n)
 ·obtain ⟨j,_,rfl⟩:=F5.1 hx
  have:=Iq.1 hy
  omega
def RW.join {w0 w w':aWq}{Z0:Gz}{Z Z':aWe->Prop}{β β':aWe->aWU}{H Hn:aWi}(hW:RW G w0 Z0 Z β H w) (hS:RW G w ⟨Z,[],[]⟩ Z' β' Hn w'):
  ∃β2,(∀k,k<M H->β2 k=β k)/\(∃β1,(∀k,k<M Hn->β1 k=β' k)/\Rn (ES (M H)<|M Hn) β1 β2)/\RW G w0 Z0 (λb=>Z b\/Z' b) β2 (H++Hn.map (Ie<|ES (M H)<|M Hn)) w':=by
 generalize hn:M H=n;generalize hm:M Hn=m
 let β1:aWe->aWU:=λk=>if k<m then β' k else β (k-m)
 have hb1:∀k,k<m->β1 k=β' k:=λk hk=>by simp only [β1];rw [AD hk]
 have hb1':∀k,β1 (k+m)=β k:=λk=>A8
 have hD:RW G w ⟨Z,[],[]⟩ Z' β1 (Hn++aq n GG) w':=hS.aaJ λk hk=>hb1 k<|hm▸hk
 have hget:∀k,k<m->(Hn++aq n GG)[k]? =Hn[k]? :=λk hk=>Hj<|hm▸hk
 have hgetd:∀k,m<=k->k<n+m->(Hn++aq n GG)[k]? =ah GG:=λk h1 h2=>by
  grind
 have hcl:KT (Hn++aq n GG) (ES n m) []=true:=by
  unfold KT;simp only [AY,BO];refine ⟨λx hx=>by simp [ownsL] at hx,λk hk=>?_⟩
  have hk:=eK.1 hk
  by_cases h1:k<m
  ·rw [hget k h1]
   obtain ⟨b,hb⟩:∃b,Hn[k]? =ah b:=⟨_,Dg<|hm▸h1⟩;rw [hb];simp only [BO];intro j hj
   have:=aFv (hS.blk k b hb).2 j hj
   rw [Zq,eK];omega
  ·rw [hgetd k A0 hk]
   simp [GG,AB.owns,ownsL]
 obtain ⟨β2,r1,r2⟩:=hD.ren (N:=0) (Z0:=⟨Z,[],[]⟩) (λp hp=>nI) hcl afa MF
 have hag:∀k,k<n->β2 k=β k:=λk hk=>by rw [r1 k (k+m)<|ayn hk,hb1']
 have hnew:∀i,i<m->((ES n m).map λk=>Ie (ES n m)<|(Hn++aq n GG).getD k U9)[n+i]? =(Hn[i]?).map (Ie<|ES n m):=λi hi=>by
  rw [Df,ayo hi];simp only [Jh,DJ,hget i hi];rw [Dg<|hm▸hi]
  simp
 refine ⟨β2,hag,⟨β1,hb1,r1⟩,?_⟩
 have hbw:Below w.heap.size w w':=hS.below
 have old:∀i b,(H++Hn.map (Ie<|ES n m))[i]? =ah b->(i<n/\H[i]? =ah b/\β2 i=β i)\/(n<=i/\((ES n m).map λk=>Ie (ES n m)<|(Hn++aq n GG).getD k U9)[i]? =ah b):=λi b h=>by
  by_cases hi:i<n
  ·rw [Hj<|hn▸hi] at h
   exact .inl ⟨hi,h,hag i hi⟩
  ·have hlt:=(EE.1 h).1
   simp only [BL,GB,hn,hm] at hlt;rw [GY A0,Df,hn] at h;refine .inr ⟨A0,?_⟩
   have:=hnew (i-n) A0
   rw [show n+(i-n)=i by omega] at this
   rw [this];exact h
 have hlive:∀i b,i<n->β2 i=β i->(live β2 i b↔live β i b):=λi b _ e=>by unfold live;rw [e]
 have hlen:M (H++Hn.map (Ie<|ES n m))=n+m:=by simp [hn,hm]
 have hlen2:M ((ES n m).map λk=>Ie (ES n m)<|(Hn++aq n GG).getD k U9)=n+m:=by simp [aIJ]
 refine ⟨⟨hbw.os.trans hW.below.os,hbw.tape.trans hW.below.tape,hbw.output.trans hW.below.output,HJ hW.below.size hbw.size,λk hk=>?_⟩,λb hz=>?_,λb hz=>?_,λi b hb hl hp=>?_,λi b hb hl hp=>?_,λi b hb hl=>?_,λi j bi bj hi hj li lj pi e=>?_,λi b hb=>?_,?_,λp hp=>?_,λD hD=>?_⟩
 ·rw [hbw.block k<|Zt hk hW.below.size];exact hW.below.block k hk
 ·rcases hz with h|h
  ·exact Zt (hW.Bc b h) hbw.size
  ·exact hS.Bc b h
 ·rcases hz with h|h
  ·exact hW.Et b h
  ·rcases hS.Et b h with h|h
   ·exact hW.Et b h
   ·exact .inr<|HJ hW.below.size h
 ·rcases old i b hb with ⟨h1,h2,h3⟩ |⟨h1,h2⟩
  ·have hl':=(hlive i b h1 h3).1 hl
   rw [h3];intro hz;rcases hz with h|h
   ·exact hW.Cp i b h2 hl' hp h
   ·rcases hS.Et _ h with h|h
    ·exact hW.Cp i b h2 hl' hp h
    ·have:=hW.lt h2 hl'
     omega
  ·intro hz
   rcases hz with h|h
   ·have h4:=r2.low i b h2 hl
    have:=hW.Bc _ h
    omega
   ·exact r2.Cp i b h2 hl hp h
 ·rcases old i b hb with ⟨h1,h2,h3⟩ |⟨h1,h2⟩
  ·rw [h3];exact .inl<|hW.GL i b h2 ((hlive i b h1 h3).1 hl) hp
  ·exact .inr<|r2.GL i b h2 hl hp
 ·rcases old i b hb with ⟨h1,h2,h3⟩ |⟨h1,h2⟩
  ·rw [h3];exact hW.low i b h2<|(hlive i b h1 h3).1 hl
  ·exact HJ hW.below.size<|r2.low i b h2 hl
 ·rcases old i bi hi with ⟨h1,h2,h3⟩ |⟨h1,h2⟩<;>rcases old j bj hj with ⟨g1,g2,g3⟩ |⟨g1,g2⟩
  ·rw [h3,g3] at e
   exact hW.inj i j bi bj h2 g2 ((hlive i bi h1 h3).1 li) ((hlive j bj g1 g3).1 lj) pi e
  ·rw [h3] at e
   have:=hW.lt h2<|(hlive i bi h1 h3).1 li
   have:=r2.low j bj g2 lj
   omega
  ·rw [g3] at e
   have:=hW.lt g2<|(hlive j bj g1 g3).1 lj
   have:=r2.low i bi h2 li
   omega
  ·exact r2.inj i j bi bj h2 g2 li lj pi e
 ·rcases old i b hb with ⟨h1,h2,h3⟩ |⟨h1,h2⟩
  ·obtain ⟨q1,q2⟩:=hW.blk i b h2
   refine ⟨BZ.keep (n:=M H) (λk hk=>hag k<|hn▸hk) (λ_ h=> .inl h) (λb hz=>hbw.block b<|hW.Bc b hz) h3 (λhl=>hbw.block _<|hW.lt h2 hl) q2 q1,?_⟩
   rw [hlen]
   exact ⟨AT.mono A0 _ q2.1,by
    have:=q2.2
    cases hk:b.k with
    |mp kd ks vs=>rw [hk] at this;exact AT.mono A0 _ this
    |_=>trivial⟩
  ·obtain ⟨q1,q2⟩:=r2.blk i b h2
   refine ⟨BZ.keep (n:=n+m) (λ_ _=>rfl) (λ_ h=> .inr h) (λ_ _=>rfl) rfl (λ_=>rfl) (by rw [hlen2] at q2;exact q2) q1,?_⟩
   rw [hlen];rw [hlen2] at q2;exact q2
 ·exact hW.Cb.mono (λ_ h=> .inl h) λb hz=>hbw.block b<|hW.Bc b hz
 ·obtain ⟨q1,q2⟩:=hW.gh p hp
  exact ⟨R.mono (n:=M H) (λk hk=>hag k<|hn▸hk) (λ_ h=> .inl h) (λb hz=>hbw.block b<|hW.Bc b hz) _ _ q2 q1,okV.mono (by rw [hlen];omega) _ q2⟩
 ·obtain ⟨q1,q2⟩:=hW.Cr D hD
  exact ⟨.inl q1,by unfold Fv at*;rw [hbw.block D<|hW.Bc D q1];exact q2⟩
def Qn (S:aWf->T (LV×List AB)) (args:aWf) (H:aWi):T (LV×List AB):=
 if noOwnL args then (S args).bind λq=> .ok (renV (ES (M H)<|M q.2) q.1,H++q.2.map (Ie<|ES (M H)<|M q.2)) else .no
def aGW {g:aWF}{m:aWf->aWi->T (LV×List AB)}(h:Dj P G g m):Dj P G g (Qn λargs=>m args []):=λw0 Z0 Z β H w args vals lv H' hW hr hok hq=>by
 unfold Qn at hq;split at hq
 ·rename_i hno
  obtain ⟨⟨lv1,Hn⟩,h1,h2⟩:=T.B8 hq;obtain ⟨rfl,rfl⟩:=h2
  have hok0:=noOwnL_ok args hno hok
  have hW1:RW G w ⟨Z,[],[]⟩ Z β [] w:=⟨Below.refl _ _,hW.Bc,λb hz=> .inl hz,λk b hb=>A8,λk b hb=>A8,λk b hb=>A8,λi j bi bj hb=>AI,λk b hb=>A8,hW.Cb,λp hp=>nI,λD hD=>(by cases hD)⟩
  refine (h w ⟨Z,[],[]⟩ Z β [] w args vals lv1 Hn hW1 hr hok0 h1).mono λe w' ⟨v,he,Z',β',r1,r2,r3⟩=>⟨v,he,?_⟩
  obtain ⟨β2,a1,⟨β1,a2,a3⟩,a4⟩:=hW.join r1;refine ⟨_,β2,a4,?_,?_⟩
  ·have q:=R.mono (n:=M Hn) (Z':=λb=>Z b\/Z' b) (w':=w') a2 (λ_ h=> .inr h) (λ_ _=>rfl) _ _ r3 r2
   exact ren_R a3 _ _ (λk hk=>eK.2 aOu) r3 q
  ·have:=ren_ok (ks:=ES (M H)<|M Hn) _ (λk hk=>eK.2 aOu) r3
   rw [aIJ] at this
   grind
 ·cases hq
end Go.Sx
namespace Go.Proofs.YtoifmkifedcnnaaGreatDoor
set_option maxRecDepth 100000
set_option maxHeartbeats 4000000
open Go.Proofs.Tryz
open Go.Sx
def Uj:aWe->Int
 |0=>1
 |1=>1
 |2=>1
 |3=>0
 |4=>2
 |5=>2
 |_=>3
def X7 (j:aWe):Y:=[-1,-1,-1,-1,-1,-1,1,-1,-1,-1,-1,-1,-1,0,-1,-1,-1,-3,-1,2,-1,-1,-1,-1,-1,-1,-3,-1,-1,-1,-1,-1,-1,4,-1,-1,-1,-1,-1,-1,-3,-1,-2,-2,-2,-2,-2,-2,-2,-2,-2,-2,-2,-2,0,1,1,1,1,-3].getD j 0
def aCm:aWe->Int
 |0=>4
 |1=>1
 |2=>1
 |3=>4
 |_=>2
def AV:B5:=fun
 |2=>ah (8,λj=> ag J<|Uj j)
 |1=>ah (60,λj=> ag J<|X7 j)
 |0=>ah (5,λj=> ag J<|aCm j)
 |_=>aj
structure Bd where
  f:aWF
  S:aWf->T LV
  v:Valid prog AV f S
def aWp:qT (List Bd):=⟨⟩
def gm:aWp->Specs
  | [],_=>aj
  |b::l,g=>if g=b.f then ah b.S else gm l g
def gk:∀(l:aWp) g S,gm l g=ah S->Valid prog AV g S
  | [],_,_,h=>Ao
  | b::l,g,S,h=>by
    simp only [gm] at h;split at h
    · rename_i hg;simp only [Ai] at h;subst h hg;exact b.v
    · exact gk l g S h
structure LBx where
  L:DS
  h:Eb prog AV L
structure B1 where
  K:aW5
  h:FW prog AV K
structure Db where
  g:aWF
  m:aWf->aWi->T (LV×List AB)
  c:Dj prog AV g m
instance {f:aWF} {S:aWf->T LV}:CoeOut (Valid prog AV f S) Bd:=⟨λv=>⟨f,S,v⟩⟩
instance:Coe (List Bd) Specs:=⟨gm⟩
instance:Coe B1 Hand:=⟨B1.K⟩
def kN:B1:=⟨G9,QR⟩
def l0 (l:aWp):LBx:=⟨E5 prog AV (gm l) 20 2,Hv<|gk l⟩
def la (id:aWe) {g:aWF}{N:aWe}{t:aWf->aWi->T (Ex×List LV×List AB)}{fn:aWX}{bd:aWO}(hfn:prog.funcs[g]? =ah fn) (ht:Gm prog AV (AN N) (.loop bd) t) (h:LBx) (hc:fn.body=ah (fn.body.getD .skip):=by kernel_rfl) (hid:(BD<|fn.body.getD .skip).filter (λb=>Gp b==id)=[bd]:=by kernel_rfl):LBx:=⟨CV g N id t h.L,DM hfn hc hid ht h.h⟩
def kI (l:aWp) (h:LBx):B1:=⟨inl prog AV (gm l) h.L 9,aDi (gk l) h.h 9⟩
def dm:List Db->Does
  | [],_=>aj
  |p::ps,g=>if g=p.g then ah p.m else dm ps g
def dk:∀(l:List Db) g m,dm l g=ah m->Dj prog AV g m
  | [],_,_,e=>QJ
  | p::ps,g,m,e=>by
    simp only [dm] at e;split at e
    · rename_i hg;simp only [Ai] at e;subst e hg;exact p.c
    · exact dk ps g m e
def IH (l:aWp) (h:LBx) (C:List Db):B1:=⟨Uy prog AV (gm l) h.L (dm C) 9,aDa (gk l) h.h (dk C) 9⟩
abbrev VV (f:aWF) (S:aWf->T LV):=Valid prog AV f S
abbrev SA {σ:Type}(N:aWe) (b:aWO) (D:AS σ):=Gm prog AV (AN N) (.loop b) D.lp
abbrev uS (fn:aWX) (S:aWf->T LV):=K9 prog fn.params.toList S
abbrev lN (c:aWO) (k:aWe):aWO:=((BD c)[k]?).getD .skip
abbrev bN (fn:aWX) (k:aWe):aWO:=lN (fn.body.getD .skip) k
def vo {f:aWF}{fn:aWX}{S:aWf->T LV}(hfn:prog.funcs[f]? =ah fn) (l:aWp) (h:B1) (hS:∀args lv,(S args).all (λx=>x=lv)->SC (λx=>x=lv) (Bl prog AV (gm l) h.K Ak fn<|canL args)) (hc:fn.body=ah (fn.body.getD .skip):=by kernel_rfl) (e:BD (fn.body.getD .skip)=[]:=by kernel_rfl):Valid prog AV f (K9 prog fn.params.toList S):=pC hfn hc (gk l) h.h (qQ e) λa v q=>(hS a v q).out
def vl {f:aWF}{fn:aWX}{S:aWf->T LV}{t:aWf->aWi->T (Ex×List LV×List AB)}{bd:aWO}(hfn:prog.funcs[f]? =ah fn) (l:aWp) (h:B1) (k:aWe) (sn:Sound prog AV (.loop bd) t) (hS:∀args lv,(S args).all (λx=>x=lv)->SC (λx=>x=lv) (Bl prog AV (gm l) h.K (λi=>if i=k then t else Ak i) fn<|canL args)) (hc:fn.body=ah (fn.body.getD .skip):=by kernel_rfl) (e:BD (fn.body.getD .skip)=[bd]:=by kernel_rfl) (hk:Gp bd=k:=by kernel_rfl):Valid prog AV f (K9 prog fn.params.toList S):=pC hfn hc (gk l) h.h (L:=λi=>if i=k then t else Ak i) (λb hb=>by
  rw [e,HI] at hb;subst hb
  show Sound _ _ _ (if Gp b=k then t else Ak (Gp b))
  rw [AD hk];exact sn) λa v q=>(hS a v q).out
def vm {f:aWF}{fn:aWX}{S:aWf->T LV}{L:Lg}(hfn:prog.funcs[f]? =ah fn) (l:aWp) (h:B1) (hL:∀b∈BD (fn.body.getD .skip),Sound prog AV (.loop b)<|L<|Gp b) (hS:∀args lv,(S args).all (λx=>x=lv)->SC (λx=>x=lv) (Bl prog AV (gm l) h.K L fn<|canL args)) (hc:fn.body=ah (fn.body.getD .skip):=by kernel_rfl):Valid prog AV f (K9 prog fn.params.toList S):=pC hfn hc (gk l) h.h hL λa v q=>(hS a v q).out
def Aq {t:T LV}(t':T LV) {K:LV->Prop}(h':t'.all K) (h:t=t':=by kernel_rfl):SC K t:=⟨aF4 h h'⟩
def Da {σ:Type}(I:σ->Prop) (mu:σ->aWe) (Q:Ex->σ->σ->Prop) (t:σ->T (Rd σ)):Prop:=∀s,I s->DV (λs'=>I s'/\mu s'<mu s) (λx s'=>Q x s s') ((t s).rd s)
def Rq {σ:Type}(I:σ->Prop) (t:σ->T (Rd σ)):Prop:=∀s,I s->(t s).all (λ_=>True)
def Fi {σ:Type}(E I:σ->Prop) (Q:Ex->σ->σ->Prop) (x:σ->Ex) (r:σ->σ):Prop:=∀s,E s->∃s',I s'/\Q (x s) s' (r s)
def Rs {σ Y:Type}(E:σ->Prop) (x:σ->Ex) (r:σ->σ) (V:σ->Y) (K:Ex->σ->Y->Prop):Prop:=∀s,E s->K (x s) (r s) (V s)
variable {σ : Type} {D : AS σ} {Q : Ex -> σ -> σ -> Prop} {b : Code}
def DU (o:D.Ok) (p:D.Pf Q) {Y:Type}{V:σ->Y}{K:Ex->σ->Y->Prop}(hv:∀s,D.I s->DV (λs'=>V s'=V s) (λx s'=>K x s'<|V s) (D.f s)):Rs D.E D.As D.run V K:=λs hE=>AS.wQ o p V K hv s hE
def s1 (o:D.Ok) (p:D.Pf Q) (l:aWp) (h:B1) (e:BD b=[]:=by kernel_rfl) (hn:∀s,jK D.N D.lv D.us (DN prog AV (gm l) h.K (Lx Ak) b (Hw D.n D.lv<|D.A<|D.rd s)<|D.B<|D.rd s)=(D.t<|D.rd s).mp (rdV D.n D.A D.B):=by intro s;kernel_rfl):Gm prog AV (AN D.N) (.loop b) D.lp:=AS.snd o p (Gg (gk l) h.h b (λb hb=>by rw [e] at hb;cases hb)) hn
def s2 (o:D.Ok) (p:D.Pf Q) (l:aWp) (h:B1) (hn:∀s,jK D.N D.lv D.us (DN prog AV (gm l) h.K (JG prog AV (gm l) h.K 20 2) b (Hw D.n D.lv<|D.A<|D.rd s)<|D.B<|D.rd s)=(D.t<|D.rd s).mp (rdV D.n D.A D.B):=by intro s;kernel_rfl):Gm prog AV (AN D.N) (.loop b) D.lp:=AS.snd o p (Gg (gk l) h.h b λb _=>Sz (gk l) h.h 20 2 b) hn
end Go.Proofs.YtoifmkifedcnnaaGreatDoor
namespace Go.Proofs.YtoifmkifedcnnaaGreatDoor
set_option maxRecDepth 100000
set_option maxHeartbeats 4000000
open Go.Proofs.Tryz
open Go.Sx
abbrev B7:Ty:=.pair A7<|.pair A7<|.pair A7 .bool
abbrev St:=Int×Int×Int×Bool
def aWE:qT (List St):=⟨⟩
instance:Coe (List St) LV:=⟨.xl B7⟩
def BW (l:aWE) (n:Y):St:=l.getD n.toNat (0,0,0,X)
def sV (c:Ch) (s:St):aWo:=Ij c.2.2.1 c.2.2.2.1 c.2.2.2.2.1 c.2.2.2.2.2.1 c.2.2.2.2.2.2.1&&(inB s.1 0 5&&(inB s.2.2.1 0 1000000&&(inB s.2.1 0 c.2.2.2.2.1&&((s.2.2.1 !=0 ||s.2.1==0)&&(!s.2.2.2 ||s.1==5)))))
def P6 {c:Ch}{s:St}:sV c s=U↔Ij c.2.2.1 c.2.2.2.1 c.2.2.2.2.1 c.2.2.2.2.2.1 c.2.2.2.2.2.2.1=U/\0<=s.1/\s.1<=5/\0<=s.2.2.1/\s.2.2.1<=1000000/\0<=s.2.1/\s.2.1<=c.2.2.2.2.1/\(s.2.2.1=0->s.2.1=0)/\(s.2.2.2=U->s.1=5):=by
 obtain ⟨p,a,l,w⟩:=s;unfold sV;cases w<;>simp [BV]<;>omega
def evV (mx k n m:Y):aWo:=if k=4 then inB n 0 1 else if k=6 then inB n 0 2 else if k=7 then inB m 1 1000000&&inB n 0 mx else U
def IC (p:Y) (w:aWo) (k n:Y):Y:=
 if k=1 then (if p=0 then 1 else -1)
 else if k=2 then (if p=5/\w=U then 5 else if p=1\/p=5 then 0 else -1)
 else if k=3 then (if p=1 then 2 else -1)
 else if k=4 then (if p=2 then (if n=1 then 3 else 5) else -1)
 else if k=5 then (if p=3 then 4 else -1)
 else if k=6 then (if p=4 then (if n=0 then 1 else 5) else -1)
 else if k=9 then (if p=0\/w=U then p else 1)
 else p
def tkF (l:Y):Y:=if 0<l-1 then l-1 else 0
def sL (l k m:Y):Y:=if k=7 then m else if k=8 then tkF l else if k=9 then 0 else l
def sA (a l k n:Y):Y:=if k=7 then n else if k=8 then (if tkF l=0 then 0 else a) else if k=9 then 0 else a
def sW (w:aWo) (k n:Y):aWo:=w ||(k==6&&n==1)
def sE (c:Ch) (s:St) (k n m:Y):Y:=
 if sV c s=U then (if inB k 1 9=U then (if evV c.2.2.2.2.1 k n m=U then (if IC s.1 s.2.2.2 k n<0 then 6 else 0) else 1) else 9) else 1
def sN (c:Ch) (s:St) (k n m:Y):St:=if sE c s k n m=0 then (IC s.1 s.2.2.2 k n,sA s.2.1 s.2.2.1 k n,sL s.2.2.1 k m,sW s.2.2.2 k n) else (0,0,0,X)
def Bo (c:Ch) (s:St):Y:=if sV c s=U then (if s.2.2.2=U then c.2.2.2.2.1 else if s.1≠4 then 0 else if s.2.2.1≠0 then s.2.1 else c.2.2.2.2.2.2.1) else 0
def Ej (c:Ch) (s:St) (k n m:Y):St:=if sE c s k n m=0 then sN c s k n m else s
def oD (k p:Y):Y:=
 if k=1 then (if p=0 then 1 else -1)
 else if k=2 then (if p=1 then 0 else if p=5 then -3 else -1)
 else if k=3 then (if p=1 then 2 else -1)
 else if k=4 then (if p=2 then -3 else -1)
 else if k=5 then (if p=3 then 4 else -1)
 else if k=6 then (if p=4 then -3 else -1)
 else if k=7 then -2
 else if k=8 then -2
 else if p=0 then 0 else if p=5 then -3 else 1
def aiW {k p:Y}(h1:1<=k) (h2:k<=9) (h3:0<=p) (h4:p<=5):X7 (k.toNat*6+(p.toNat*1+0))=oD k p:=by
 have key:∀e:Fin 10,∀s:Fin 6,1<=e.val->X7 (e.val*6+(s.val*1+0))=oD (e.val:Y) (s.val:Y):=Ab
 have:=key ⟨k.toNat,A0⟩ ⟨p.toNat,A0⟩ A8
 grind
def dcP (p:Y) (w:aWo) (k n:Y):Y:=if k=4 then (if n=1 then 3 else 5) else if k=6 then (if n=0 then 1 else 5) else if k=2 then (if w=U then p else 0) else if k=9 then (if w=U then p else 1) else p
def dcW (w:aWo) (k n:Y):aWo:=if k=6 then n==1 else w
def nine {k:Y}(h1:1<=k) (h2:k<=9):k=1\/k=2\/k=3\/k=4\/k=5\/k=6\/k=7\/k=8\/k=9:=A0
def aoB {p:Y}(h1:0<=p) (h2:p<=5):p=0\/p=1\/p=2\/p=3\/p=4\/p=5:=A0
def aut {mx k n m:Y}(h:evV mx k n m=U):(k=4->0<=n/\n<=1)/\(k=6->0<=n/\n<=2)/\(k=7->1<=m/\m<=1000000/\0<=n/\n<=mx):=by
 unfold evV at h;refine ⟨λe=>?_,λe=>?_,λe=>?_⟩
 ·subst e;simpa [BV] using h
 ·subst e;simpa [BV] using h
 ·subst e;simp [BV] at h;omega
def akV {c:Ch}{s:St}{k n m:Y}(h:sE c s k n m=0):sV c s=U/\1<=k/\k<=9/\evV c.2.2.2.2.1 k n m=U/\0<=IC s.1 s.2.2.2 k n:=by
 unfold sE at h
 repeat' split at h
 all_goals first|(exfalso;omega) |skip
 rename_i h1 h2 h3 h4
 have h2:=BV.1 h2
 grind
def akU {c:Ch}{s:St}{k n m:Y}(h:sE c s k n m=0):sV c (sN c s k n m)=true:=by
 obtain ⟨h1,h2,h3,h4,h5⟩:=akV h
 have he:=aut h4
 obtain ⟨p,a,l,w⟩:=s
 have h1:=P6.1 h1
 rw [P6];unfold sN;rw [AD h];obtain ⟨g1,g2,g3,g4,g5,g6,g7,g8,g9⟩:=h1
 have gc:=fA.1 g1
 simp only at*
 have hp:IC p w k n<=5:=by
  unfold IC
  repeat' split
  all_goals omega
 have ht:0<=tkF l/\tkF l<=l:=by unfold tkF;split<;>omega
 have hL:0<=sL l k m/\sL l k m<=1000000:=by
  unfold sL
  repeat' split
  all_goals omega
 have hA:0<=sA a l k n/\sA a l k n<=c.2.2.2.2.1:=by
  unfold sA
  repeat' split
  all_goals omega
 refine ⟨g1,h5,hp,hL.1,hL.2,hA.1,hA.2,λhl=>?_,λhw=>?_⟩
 ·unfold sL at hl
  unfold sA
  repeat' split
  all_goals repeat' split at hl
  all_goals omega
 ·unfold sW at hw
  simp only [Cj,AY,D3] at hw;rcases hw with hw|⟨e1,e2⟩
  ·have hs:=g9 hw
   subst hs;unfold IC at h5|-;simp only [hw] at h5|-;rcases nine h2 h3 with rfl|rfl|rfl|rfl|rfl|rfl|rfl|rfl|rfl<;>simp at h5|-
  ·subst e1 e2
   unfold IC at h5|-
   simp at h5|-
   split at h5
   ·rename_i h4;simp [h4]
   ·omega
def ve {c:Ch}{s:St}{k n m:Y}(h:sV c s=U):sV c (Ej c s k n m)=true:=by
 unfold Ej;split
 ·rename_i h1;exact akU h1
 ·exact h
abbrev Ca:=Int×Int×Int×Int×Int
def aW0:qT (List Ca):=⟨⟩
def Be (l:aW0) (n:Y):Ca:=l.getD n.toNat (0,0,0,0,0)
abbrev B9:Ty:=.pair (.sl A7)<|.pair A7 A7
abbrev Mi:=List Int×Int×Int
def aWY:qT (List Mi):=⟨⟩
instance:Coe (List Mi) LV:=⟨.xl B9⟩
def Cs (l:aWY) (n:Y):Mi:=l.getD n.toNat ([],0,0)
abbrev BS:Ty:=.pair A7<|.pair A7 .bool
abbrev Me:=Int×Int×Bool
def aW2:qT (List Me):=⟨⟩
instance:Coe (List Me) LV:=⟨.xl BS⟩
def gMe (l:aW2) (n:Y):Me:=l.getD n.toNat (0,0,X)
def GW (c:Ca):aWo:=inB c.1 0 4&&(inB c.2.1 1 7&&(inB c.2.2.1 1 80&&(inB c.2.2.2.1 0 1000000000&&(inB c.2.2.2.2 0 20&&(c.1 !=3 ||an (c.2.2.2.2>=1))))))
def Wc {c:Ca}:GW c=U↔0<=c.1/\c.1<=4/\1<=c.2.1/\c.2.1<=7/\1<=c.2.2.1/\c.2.2.1<=80/\0<=c.2.2.2.1/\c.2.2.2.1<=1000000000/\0<=c.2.2.2.2/\c.2.2.2.2<=20/\(c.1=3->1<=c.2.2.2.2):=by
 simp [GW,inB];omega
def IE (m:Mi):aWo:=an (M m.1<=21)&&(inB m.2.1 0 1000000&&(inB m.2.2 0 2000000000&&m.1.all (λp=>inB p 0 80)))
def di {m:Mi}:IE m=U↔M m.1<=21/\0<=m.2.1/\m.2.1<=1000000/\0<=m.2.2/\m.2.2<=2000000000/\∀p∈m.1,0<=p/\p<=80:=by
 simp [IE,BV,and_assoc]
def cnt (n:Y):Y:=n%2+n / 2%2+n / 4%2
def afS {n:Y}:0<=cnt n/\cnt n<=3:=by unfold cnt;omega
def eight {n:Y}(h1:0<=n) (h2:n<=7):n=0\/n=1\/n=2\/n=3\/n=4\/n=5\/n=6\/n=7:=A0
def land (a b:Y):Y:=Bk J a b
def Ky (k ph p:Y):Y:=if k=2 then land (land ph p) (-land ph p) else land ph p
def aEZ {a b:Y}(ha:0<=a/\a<=7) (hb:0<=b/\b<=7):0<=land a b/\land a b<=7/\0<=land (land a b) (-land a b)/\land (land a b) (-land a b)<=7/\(land a b≠0->land (land a b) (-land a b)≠0):=by
 have key:∀x y:Fin 8,0<=land x.val y.val/\land x.val y.val<=7/\0<=land (land x.val y.val) (-land x.val y.val)/\land (land x.val y.val) (-land x.val y.val)<=7/\(land x.val y.val≠0->land (land x.val y.val) (-land x.val y.val)≠0):=Ab
 have:=key ⟨a.toNat,A0⟩ ⟨b.toNat,A0⟩
 simp only [CP ha.1,CP hb.1] at this;exact this
def bf (dl:Y) (pil:aWd):Y:=if (M pil:Y)-dl>=0 then pil.getD ((M pil:Y)-dl).toNat 0 else 0
def Gx (c:Ca) (m:Mi) (al:Y):Y:=
 if c.1=1 then (if c.2.2.2.2=0 then al else min al (bf c.2.2.2.2 m.1))
 else if c.1=3 then (if (m.2.1.tdiv c.2.2.2.2).tmod 2=1 then 0 else al)
 else if c.1=4 then (if al=0 then 0 else c.2.2.1) else al
def FC (c:Ca) (m:Mi) (p al:Y):Y:=if Ky c.1 c.2.1 p=0\/m.2.2>=c.2.2.2.1 then 0 else min c.2.2.1 (Gx c m al)
def HU (c:Ca) (m:Mi) (p al:Y):Y:=if FC c m p al=0 then 0 else Ky c.1 c.2.1 p
def dwP (pil:aWd) (al:Y):aWd:=(pil++[al]).drop<|M pil-20
def dwG (c:Ca) (m:Mi) (p al:Y):Y:=m.2.2+2300*FC c m p al*cnt (HU c m p al)
def dwB (c:Ca) (m:Mi) (p al:Y):aWo:=GW c&&(IE m&&(inB p 1 7&&(inB al 0 80&&m.2.1 !=1000000)))
def eh {c:Ca}{m:Mi}{p al:Y}:dwB c m p al=U↔GW c=U/\IE m=U/\1<=p/\p<=7/\0<=al/\al<=80/\m.2.1≠1000000:=by
 simp [dwB,BV,and_assoc]
def aDX {k ph p:Y}(h1:1<=ph/\ph<=7) (h2:1<=p/\p<=7):0<=Ky k ph p/\Ky k ph p<=7:=by
 obtain ⟨a1,a2,a3,a4,_⟩:=aEZ (a:=ph) (b:=p) ⟨A0,A0⟩ ⟨A0,A0⟩;unfold Ky;exact aK
def afC {dl:Y}{pil:aWd}(h:∀p∈pil,0<=p/\p<=80):0<=bf dl pil:=by
 unfold bf;split
 ·rw [DJ]
  cases hg:pil[((M pil:Y)-dl).toNat]? with
  |none=>simp
  |some x=>simp;exact (h x<|OP hg).1
 ·omega
def aeR {c:Ca}{m:Mi}{al:Y}(hc:GW c=U) (hm:IE m=U) (ha:0<=al):0<=Gx c m al:=by
 have hc:=Wc.1 hc
 have hm:=di.1 hm
 have:=afC (dl:=c.2.2.2.2) hm.2.2.2.2.2
 unfold Gx
 repeat' split
 all_goals omega
def aFA {c:Ca}{m:Mi}{p al:Y}(hc:GW c=U) (hm:IE m=U) (hp:1<=p/\p<=7) (ha:0<=al/\al<=80):
  0<=FC c m p al/\FC c m p al<=c.2.2.1/\0<=HU c m p al/\HU c m p al<=7:=by
 have hw:=aeR hc hm ha.1
 have hc:=Wc.1 hc
 have hs:=aDX (k:=c.1) (ph:=c.2.1) (p:=p) ⟨A0,A0⟩ hp
 have h1:0<=FC c m p al/\FC c m p al<=c.2.2.1:=by unfold FC;split<;>omega
 refine ⟨h1.1,h1.2,?_⟩;unfold HU;omega
def Fg (c:Ca) (m:Mi) (p al:Y):Y:=if dwB c m p al=U then FC c m p al else 0
def Ee (c:Ca) (m:Mi) (p al:Y):Y:=if dwB c m p al=U then HU c m p al else 0
def K8 (c:Ca) (m:Mi) (p al:Y):Mi:=if dwB c m p al=U then (dwP m.1 al,m.2.1+1,dwG c m p al) else ([],0,0)
def JU (c:Ca) (m:Mi) (p al:Y):Y:=if dwB c m p al=U then 0 else 1
def meV (m:Me):aWo:=inB m.1 0 1000000&&(an (m.2.1>=-1000000000000000)&&an (m.2.1<=1000000000000000))
def mcR (m:Me) (a p:Y):Y:=if m.2.2=U then m.2.1-2300*a*p else m.2.1+2300*a*p
def mcB (m:Me) (a p:Y):aWo:=meV m&&(inB a 0 80&&inB p 0 3)
def GR (m:Me) (a p:Y):Y:=if mcB m a p=U then (if meV (m.1,mcR m a p,m.2.2)=U then 0 else 3) else 1
def IF (m:Me) (a p:Y):Me:=if GR m a p=0 then (m.1,mcR m a p,m.2.2) else (0,0,X)
def BE (t d:Y):Y:=if (inB t 0 1000000&&inB d (-200) 200)=U then t*(1000000+d) / 1000000 else 0
def HW (t d:Y):Y:=if (inB t 0 1000000&&inB d (-200) 200)=U then 0 else 1
def aTZ {l:aWd}{f:Y->aWo}:l.all f=Dp (M l) (λj=>f<|gi l j):=by
 rw [Ip,BO,Dx];refine ⟨λh j hj=>h _<|Kc A0 hj,λh x hx=>?_⟩
 obtain ⟨k,hk,rfl⟩:=HG.1 hx
 have:=h k A0
 rwa [IW A8] at this
section
variable {lt : Int -> Int -> Bool}
def L0 (lt:Y->Y->aWo):aWd->Y->List Int
 | [],x=>[x]
 |y::q,x=>if lt x y=U then y::L0 lt q x else x::y::q
def pI {x:Y}:∀ {q:aWd},(L0 lt q x).Perm (x::q)
 | []=>List.Perm.refl _
 |y::q=>by
  unfold L0;split
  ·exact (List.Perm.cons y pI).trans<|List.Perm.swap x y q
  ·grind
def apx {q:aWd}{x:Y}:M (L0 lt q x)=M q+1:=by rw [pI.length_eq];rfl
def aEl:∀ {l acc:aWd},(l.foldl (L0 lt) acc).Perm (acc++l)
 | [],acc=>AI
 |x::l,acc=>by
  rw [KE];refine aEl.trans ?_;refine (x8 l pI).trans ?_
  grind
def sortB (lt:Y->Y->aWo) (l:aWd):aWd:=(l.foldl (L0 lt) []).reverse
def aeW {l:aWd}:(sortB lt l).Perm l:=by
 exact (xe _).trans (by have:=aEl (lt:=lt) (l:=l) (acc:=[]);simpa using this)
def exB (l:aWd) (j:aWe):aWd:=(l.set (j+1)<|l.getD j 0).set j<|l.getD (j+1) 0
def bub (lt:Y->Y->aWo):aWe->aWd->List Int
 |0,l=>l
 |j+1,l=>if lt (l.getD (j+1) 0) (l.getD j 0)=U then bub lt j (exB l j) else l
def aum {p post:aWd}{x y:Y}:exB (p++y::x::post) (M p)=p++x::y::post:=by
 unfold exB
 simp
def sC {post:aWd}{x:Y}:∀ {q:aWd},bub lt (M q) (q.reverse++x::post)=(L0 lt q x).reverse++post
 | []=>by simp [bub,L0]
 | y::q=>by
  have e1:((y::q).reverse++x::post)=q.reverse++y::x::post:=AI
  rw [e1,Bj,bub]
  have g1:(q.reverse++y::x::post).getD (M q) 0=y:=AI
  have g2:(q.reverse++y::x::post).getD (M q+1) 0=x:=AI
  rw [g1,g2];unfold L0;split
  ·have e2:exB (q.reverse++y::x::post) (M q)=q.reverse++x::y::post:=by
    have:=aum (p:=q.reverse) (x:=x) (y:=y) (post:=post)
    grind
   rw [e2,sC]
   simp
  ·simp
def aq5:∀ {j:aWe}{l:aWd},j<M l->(bub lt j l).Perm l:=λ{j l} h=>by
 have e:l=(l.take j).reverse.reverse++l[j]::l.drop (j+1):=AI
 have hj:M (l.take j).reverse=j:=A8
 have h2:=sC (lt:=lt) (q:=(l.take j).reverse) (x:=l[j]) (post:=l.drop<|j+1)
 rw [hj,<-e] at h2;rw [h2];refine (x8 _<|(xe _).trans pI).trans ?_;refine (List.perm_middle.symm.trans ?_);refine (x8 _<|xe _).trans ?_
 grind
def Mb (lt:Y->Y->aWo) (l:aWd) (i:aWe):aWd:=((l.drop i).foldl (L0 lt) (l.take i).reverse).reverse
def aeO {l:aWd}{i:aWe}(h:i<M l):Mb lt (bub lt i l) (i+1)=Mb lt l i:=by
 have e:l=(l.take i).reverse.reverse++l[i]::l.drop (i+1):=AI
 have hi:M (l.take i).reverse=i:=A8
 have h2:=sC (lt:=lt) (q:=(l.take i).reverse) (x:=l[i]) (post:=l.drop<|i+1)
 have hl:M ((L0 lt (l.take i).reverse l[i]).reverse)=i+1:=by rw [List.length_reverse,apx,hi]
 unfold Mb
 grind
def afb {l:aWd}:Mb lt l 1=sortB lt l:=by
 cases l with
 |nil=>rfl
 |cons x l=>simp [Mb,sortB,L0]
def afc {l:aWd}{i:aWe}(h:M l<=i):Mb lt l i=l:=by
 unfold Mb;rw [List.drop_of_length_le h,De h]
 simp
end
abbrev Aw:Ty:=.pair .bool<|.pair A7<|.pair A7 A7
abbrev Dm:=Bool×Int×Int×Int
def aWB:qT (List Dm):=⟨⟩
instance:Coe (List Dm) LV:=⟨.xl Aw⟩
def E8 (l:aWB) (n:Y):Dm:=l.getD n.toNat (X,0,0,0)
def slk (d:aWB) (t i:Y):Y:=(E8 d i).2.2.1-t-(E8 d i).2.1
def cm (a b:Y):Y:=if a<b then -1 else if a>b then 1 else 0
def orI:aWd->Int
 | []=>0
 |x::l=>if (x !=0)=U then x else orI l
def cmD (d:aWB) (t a b:Y):Y:=orI [cm (E8 d a).2.2.2 (E8 d b).2.2.2,cm (slk d t a)<|slk d t b,cm a b]
def ltD (d:aWB) (t a b:Y):aWo:=an<|cmD d t a b<0
def Ih (d:aWB) (t:Y):Prop:=(∀x∈d,(-2000000000<=x.2.1/\x.2.1<=2000000000)/\-2000000000<=x.2.2.1/\x.2.2.1<=2000000000)/\-2000000000<=t/\t<=2000000000
def atV {d:aWB}{i:Y}(h0:0<=i) (h1:i<(M d:Y)):E8 d i∈d:=by
 unfold E8
 grind
def awy {d:aWB}{t i:Y}(h:Ih d t) (h0:0<=i) (h1:i<(M d:Y)):(-2000000000<=(E8 d i).2.1/\(E8 d i).2.1<=2000000000)/\-2000000000<=(E8 d i).2.2.1/\(E8 d i).2.2.1<=2000000000:=h.1 _<|atV h0 h1
def Fy (n:aWe):aWd:=(au n).map λk:aWe=>(k:Y)
def HO (d:aWB) (t:Y):aWd:=sortB (ltD d t)<|Fy<|M d
def aF2 {n:aWe}:Fy (n+1)=Fy n++[(n:Y)]:=by simp [Fy,Se]
def Om {n:aWe}:M (Fy n)=n:=by simp [Fy]
def aFn {n:aWe}{x:Y}:x∈Fy n↔0<=x/\x<(n:Y):=by
 unfold Fy;rw [F5]
 constructor
 ·rintro ⟨k,hk,rfl⟩
  rw [Iq] at hk;omega
 ·exact λh=>⟨x.toNat,A8,A0⟩
def aeN {n:aWe}:(Fy n).Nodup:=xd _ (λa b h=>A0) lQ
def aDp {d:aWB}{t:Y}:(HO d t).Perm (Fy<|M d):=aeW
def aFt {d:aWB}{t:Y}:M (HO d t)=M d:=by rw [aDp.length_eq,Om]
def ap9 {d:aWB}{t x:Y}:x∈HO d t↔0<=x/\x<(M d:Y):=aDp.mem_iff.trans aFn
def aeX {d:aWB}{t:Y}:(HO d t).Nodup:=aDp.nodup_iff.2 aeN
def rX {mi ma st a k:Y}(hh:Dr mi ma st=U) (ha:0<=a) (h0:0<=k) (h1:k<Ed mi ma st):EA mi st k<=a↔k<=HY mi ma st a:=by
 obtain ⟨g1,g2,g3,g4,g5⟩:=IQ.1 hh
 have hn:¬(Dr mi ma st=X\/a<0):=A8
 unfold HY;rw [AE hn];unfold EA
 by_cases e:k=0
 ·subst e
  simp only [Bp];exact aNm
 ·rw [AE e]
  have hp:0<=(k-1)*st:=Im A0 A0
  split
  ·omega
  ·have:=(Int.le_ediv_iff_mul_le (a:=k-1) (b:=a-mi) (c:=st) A0)
   omega
def aSu {mi ma st a:Y}(hh:Dr mi ma st=U):HY mi ma st a<Ed mi ma st:=by
 have:=rW hh
 unfold HY;split
 ·omega
 ·omega
def aeo {mi ma st a:Y}(hh:Dr mi ma st=U) (ha:0<=a):0<=HY mi ma st a:=by
 have:=rW hh
 obtain ⟨g1,g2,g3,g4,g5⟩:=IQ.1 hh
 have hn:¬(Dr mi ma st=X\/a<0):=A8
 unfold HY;rw [AE hn];exact aNm
def aeZ {l:aWd}:once l=U↔l.Nodup:=by
 rw [qN,List.nodup_iff_pairwise_ne,lh]
 constructor
 ·intro h i j hi hj hij e
  exact h j hj (by rw [<-e,HG];exact ⟨i,A8,AI⟩)
 ·intro h j hj hm
  obtain ⟨i,hi,e⟩:=HG.1 hm
  grind
def acp:∀ {r l:aWd},r.Nodup->(∀x∈r,x∈l)->M r=M l->l.Nodup/\∀x∈l,x∈r
 | [],l,_,_,h=>by
  have:l=[]:=M8.1 h.symm
  subst this
  simp
 | x::r,l,hn,hs,h=>by
  obtain ⟨n1,n2⟩:=M7.1 hn
  have hx:=hs x AI
  have hp:=List.perm_cons_erase hx
  obtain ⟨i1,i2⟩:=acp (l:=l.erase x) n2 (λy hy=>by
   have hy2:=hs y A8
   have hne:y≠x:=λe=>n1<|e▸hy
   exact (List.mem_erase_of_ne hne).2 hy2) A8
  refine ⟨hp.nodup_iff.2<|M7.2 ⟨λhm=>n1<|i2 x hm,i1⟩,λy hy=>?_⟩
  by_cases e:y=x
  ·simp [e]
  ·grind
def bR (n:aWe):aWd:=(au n).map λk:aWe=>(k:Y)
def aFo {n:aWe}{x:Y}:x∈bR n↔0<=x/\x<(n:Y):=by
 unfold bR;rw [F5]
 constructor
 ·rintro ⟨k,hk,rfl⟩
  have:=Iq.1 hk
  omega
 ·rintro ⟨h1,h2⟩
  exact ⟨x.toNat,Iq.2 A0,A0⟩
def ae5 {n:aWe}:M (bR n)=n:=by simp [bR]
def aFR {l:aWd}{n:aWe}:Gw l n=U↔M l=n/\l.Nodup/\∀i∈l,0<=i/\i<(n:Y):=by
 unfold Gw;simp only [AY,Aa,BO,po,aeZ]
 constructor
 ·grind
 ·grind
def afM {l:aWd}{n:aWe}(h:Gw l n=U) {i:Y}(h0:0<=i) (h1:i<(n:Y)):i∈l:=by
 obtain ⟨g1,g2,g3⟩:=aFR.1 h;exact (acp g2 (l:=bR n) (λx hx=>aFo.2<|g3 x hx) (by rw [ae5];exact g1)).2 i<|aFo.2 ⟨h0,h1⟩
def IA (al am ms:aWd):Y:=(ms.map λm=>mx (gi al m)<|gi am m).sum
def rowB (al am:aWd) (r:Rw):aWo:=r.2.all (λm=>gi am m==0) ||an (IA al am r.2<=r.1)
def PG (rows:aWA) (al am:aWd):aWo:=rows.all<|rowB al am
def T7 {al am ms:aWd}{m:Y}:IA al am (m::ms)=mx (gi al m) (gi am m)+IA al am ms:=by simp [IA]
def aLu (gs:aWh) (i k:Y):Y:=amA (AG gs i).2.2.2.1 (AG gs i).2.2.2.2.1 (AG gs i).2.2.2.2.2.1 k
def aLt (gs:aWh) (i k:Y):Y:=amE (AG gs i).2.2.2.1 (AG gs i).2.2.2.2.1 (AG gs i).2.2.2.2.2.1 k
structure wy (gs:aWh) (out:aWd):Prop where
 len:M out=M gs
 bd:∀a∈out,0<=a/\a<=1000000
def wy.put {gs:aWh}{out:aWd}(h:wy gs out) {k:aWe}{v:Y}(hv:0<=v/\v<=1000000):wy gs (out.set k v):=
 ⟨by rw [C3];exact h.len,λa ha=>by
  rcases OU ha with h2|h2
  ·exact h.bd a h2
  ·rw [h2];exact hv⟩
section
variable {P : List Int -> Bool} {tp : Int -> Int}
def I9 (P:aWd->aWo) (tp:Y->Y) (L:Y) (lv:aWd) (i:Y):aWd:=
 if gi lv i=L-1/\L<=tp i then (if P (lv.set i.toNat L)=U then lv.set i.toNat L else lv) else lv
def JX (P:aWd->aWo) (tp:Y->Y) (L:Y) (lv l:aWd):aWd:=l.foldl (I9 P tp L) lv
def Fm (P:aWd->aWo) (tp:Y->Y) (od:aWd):aWe->Y->aWd->List Int
 |0,_,lv=>lv
 |f+1,L,lv=>Fm P tp od f (L+1)<|JX P tp L lv od
def J9 {l:aWd}{i j v:Y}(h0:0<=i) (h1:i<(M l:Y)) (hj:0<=j):gi (l.set i.toNat v) j=if j=i then v else gi l j:=by
 unfold gi;rw [TB]
 by_cases e:j=i
 ·subst e
  omega
 ·omega
def S5 (n:aWe) (l:aWd):Prop:=∀i∈l,0<=i/\i<(n:Y)
def aFU {L i:Y}{lv:aWd}:M (I9 P tp L lv i)=M lv:=by
 unfold I9;split
 ·split
  ·grind
  ·rfl
 ·rfl
def agy {L i j:Y}{lv:aWd}(h:0<=i/\i<(M lv:Y)) (hj:0<=j):gi lv j<=gi (I9 P tp L lv i) j:=by
 exact aMv
def agz {L i j:Y}{lv:aWd}(h:0<=i/\i<(M lv:Y)) (hj:0<=j):gi (I9 P tp L lv i) j<=gi lv j\/(gi (I9 P tp L lv i) j=L/\L<=tp j):=by
 exact aMv
def anT {L i:Y}{lv:aWd}(h:P lv=U):P (I9 P tp L lv i)=true:=by
 unfold I9;split
 ·split
  ·grind
  ·exact h
 ·exact h
def dC {L i:Y}{lv l:aWd}:JX P tp L lv (i::l)=JX P tp L (I9 P tp L lv i) l:=rfl
def fO {L:Y}:∀ {l lv:aWd},M (JX P tp L lv l)=M lv
 | [],_=>rfl
 |i::l,lv=>by rw [dC,fO (l:=l),aFU]
def aTV {L j:Y}(hj:0<=j):∀ {l lv:aWd},S5 (M lv) l->gi lv j<=gi (JX P tp L lv l) j
 | [],_,_=>Co _
 |i::l,lv,h=>by
  rw [dC]
  have h1:=agy (P:=P) (tp:=tp) (L:=L) (h i AI) hj
  have h2:=aTV (L:=L) hj (l:=l) (lv:=I9 P tp L lv i) aOL
  omega
def vg {L j:Y}(hj:0<=j):∀ {l lv:aWd},S5 (M lv) l->gi (JX P tp L lv l) j<=gi lv j\/(gi (JX P tp L lv l) j<=L/\gi (JX P tp L lv l) j<=tp j)
 | [],_,_=> .inl (Co _)
 |i::l,lv,h=>by
  rw [dC]
  have h1:=agz (P:=P) (tp:=tp) (L:=L) (h i AI) hj
  have h2:=vg (L:=L) hj (l:=l) (lv:=I9 P tp L lv i) aOL
  omega
def aat {L:Y}:∀ {l lv:aWd},P lv=U->P (JX P tp L lv l)=U
 | [],_,h=>h
 |i::l,lv,h=>by rw [dC];exact aat (l:=l)<|anT h
def aIc {od:aWd}:∀ {f:aWe}{L:Y}{lv:aWd},M (Fm P tp od f L lv)=M lv
 |0,_,_=>rfl
 |f+1,L,lv=>by rw [Fm,aIc,fO]
def aTW {od:aWd}{j:Y}(hj:0<=j):∀ {f:aWe}{L:Y}{lv:aWd},S5 (M lv) od->gi lv j<=gi (Fm P tp od f L lv) j
 |0,_,_,_=>Co _
 |f+1,L,lv,h=>by
  rw [Fm]
  have h1:=aTV (P:=P) (tp:=tp) (L:=L) hj h
  have h2:=aTW (f:=f) (L:=L+1) (lv:=JX P tp L lv od) hj (by rw [fO];exact h)
  omega
def aTX {od:aWd}{j:Y}(hj:0<=j):∀ {f:aWe}{L:Y}{lv:aWd},S5 (M lv) od->gi (Fm P tp od f L lv) j<=gi lv j\/(gi (Fm P tp od f L lv) j<=L+f-1/\gi (Fm P tp od f L lv) j<=tp j)
 |0,_,_,_=> .inl (Co _)
 |f+1,L,lv,h=>by
  rw [Fm]
  have h1:=vg (P:=P) (tp:=tp) (L:=L) hj h
  have h2:=aTX (f:=f) (L:=L+1) (lv:=JX P tp L lv od) hj (by rw [fO];exact h)
  omega
def aau {od:aWd}:∀ {f:aWe}{L:Y}{lv:aWd},P lv=U->P (Fm P tp od f L lv)=U
 |0,_,_,h=>h
 |f+1,L,lv,h=>by rw [Fm];exact aau<|aat h
def aGQ {od:aWd}:∀ {f:aWe}{L:Y}{lv:aWd},Fm P tp od (f+1) L lv=JX P tp (L+f) (Fm P tp od f L lv) od
 |0,L,lv=>by simp [Fm]
 |f+1,L,lv=>by
  rw [Fm,aGQ (f:=f) (L:=L+1),Fm,show L+1+(f:Y)=L+((f+1:aWe):Y) by omega]
def aDk {L:Y}:∀ {l lv:aWd},(∀i∈l,gi lv i≠L-1\/tp i<L)->JX P tp L lv l=lv
 | [],_,_=>rfl
 | i::l,lv,h=>by
  have e:I9 P tp L lv i=lv:=by
   unfold I9
   grind
  rw [dC,e,aDk λj hj=>h j A8]
def aFS {od:aWd}:∀ {f:aWe}{L:Y}{lv:aWd},(∀i∈od,gi lv i<L-1)->Fm P tp od f L lv=lv
 |0,_,_,_=>rfl
 |f+1,L,lv,h=>by
  rw [Fm,aDk λi hi=> .inl A8,aFS λi hi=>A8]
end
structure HR (rows:aWA) (gs:aWh) (al mo od:aWd):Prop where
 mem:∀r∈rows,r.2.Nodup/\∀m∈r.2,0<=m/\m<(M gs:Y)
 has:∀i:Y,0<=i->i<(M gs:Y)->Dr (AG gs i).2.2.2.1 (AG gs i).2.2.2.2.1 (AG gs i).2.2.2.2.2.1=U
 gl:M gs<=16
 all:M al=M gs
 mol:M mo=M gs
 al:∀a∈al,0<=a/\a<=80
 mo:∀a∈mo,0<=a/\a<=80
 nd:od.Nodup
 ord:S5 (M gs) od
 cov:∀i:Y,0<=i->i<(M gs:Y)->i∈od
def aAa {cs:aWl}{os:aWg}{ks:aWr}{gs:aWh}{bs:aWs}{al mo od:aWd}(h:Fx cs os ks gs bs al mo od=U):HR (Cy cs gs<|M cs) gs al mo od:=by
 obtain ⟨hv,h1,h2,h3,h4,h5⟩:=LM.1 h
 have hl:=(DK.1 hv).1
 obtain ⟨o1,o2,o3⟩:=aFR.1 h5;refine ⟨λr hr=>⟨(row_mem hr).1,(row_mem hr).2.1⟩,λi h0 h1=>?_,A0,h1,h2,λa ha=>QU.1<|BO.1 h3 a ha,λa ha=>QU.1<|BO.1 h4 a ha,o2,o3,λi h0 h1=>afM h5 h0 h1⟩
 have:=Ol hv h0 h1
 exact aNo
def PP (rows:aWA) (gs:aWh) (al lv:aWd):aWo:=PG rows al<|Fa gs lv
def tpO (gs:aWh) (mo:aWd) (i:Y):Y:=Ff gs i<|gi mo i
def aH2 {gs:aWh}{lv:aWd}:M (Fa gs lv)=M gs:=by simp [Fa]
def TK {gs:aWh}{lv:aWd}{i:Y}(h0:0<=i) (h1:i<(M gs:Y)):gi (Fa gs lv) i=D7 gs i (gi lv i):=by
 rw [IW (by rw [aH2];omega)]
 simp only [Fa,xf,lZ];rfl
def ac9 {gs:aWh}{i:Y}:D7 gs i 0=0:=by simp [D7,EA]
def aH4 {gs:aWh}{i a b:Y}(hh:Dr (AG gs i).2.2.2.1 (AG gs i).2.2.2.2.1 (AG gs i).2.2.2.2.2.1=U) (h0:0<=a) (h1:a<=b):D7 gs i a<=D7 gs i b:=by
 obtain ⟨g1,g2,g3,g4,g5⟩:=IQ.1 hh;exact aH3 ⟨g1,g4⟩ h0 h1
def aTo {gs:aWh}{i a b:Y}(hh:Dr (AG gs i).2.2.2.1 (AG gs i).2.2.2.2.1 (AG gs i).2.2.2.2.2.1=U) (h0:0<=a) (h1:a<b):D7 gs i a<D7 gs i b:=by
 obtain ⟨g1,g2,g3,g4,g5⟩:=IQ.1 hh
 have h2:=aH4 hh (show 0<=a+1 by omega) (show a+1<=b by omega)
 have h3:D7 gs i a<D7 gs i (a+1):=by
  unfold D7 EA;split
  ·grind
  ·have:(a+1-1)*(AG gs i).2.2.2.2.2.1=(a-1)*(AG gs i).2.2.2.2.2.1+(AG gs i).2.2.2.2.2.1:=by
    grind
   omega
 omega
def aTn {gs:aWh}{i a:Y}(hh:Dr (AG gs i).2.2.2.1 (AG gs i).2.2.2.2.1 (AG gs i).2.2.2.2.2.1=U) (h0:0<=a):0<=D7 gs i a:=by
 have:=aH4 hh (Co 0) h0
 exact this
def au8 {a b c:Y}(h:b<=c):mx a b<=mx a c:=by
 unfold mx;omega
def aG6 {al am bm:aWd}:∀ {ms:aWd},(∀m∈ms,gi am m<=gi bm m)->IA al am ms<=IA al bm ms
 | [],_=>Co _
 |m::ms,h=>by
  have h1:=aG6 (al:=al) (ms:=ms) λx hx=>h x A8
  have h2:=au8 (a:=gi al m)<|h m AI
  rw [T7,T7];omega
def pD {al am bm:aWd}:∀ {ms:aWd},(∀m∈ms,gi am m=gi bm m)->IA al am ms=IA al bm ms
 | [],_=>rfl
 |m::ms,h=>by rw [T7,T7,pD (ms:=ms) λx hx=>h x A8,h m AI]
def aIF {al am bm:aWd}{i:Y}:∀ {ms:aWd},ms.Nodup->i∈ms->(∀m∈ms,m≠i->gi am m=gi bm m)->IA al bm ms=IA al am ms+(mx (gi al i) (gi bm i)-mx (gi al i) (gi am i))
 | [],_,h,_=>Ao
 | m::ms,hn,hi,h=>by
  obtain ⟨n1,n2⟩:=M7.1 hn;rw [T7,T7]
  by_cases e:m=i
  ·subst e
   rw [pD (am:=am) (bm:=bm) λx hx=>h x A8 λe=>n1<|e▸hx]
   omega
  ·have hi2:i∈ms:=by
    rcases BA.1 hi with h|h
    ·grind
    ·exact h
   rw [aIF n2 hi2 λx hx=>h x A8,h m AI e]
   omega
def aeL {al am bm:aWd}{r:Rw}(h:∀m∈r.2,gi am m=gi bm m):rowB al am r=rowB al bm r:=by
 unfold rowB;rw [pD h]
 congr 1
 rw [Ip,BO,BO]
 constructor
 ·grind
 ·grind
structure Inv (rows:aWA) (gs:aWh) (al sm lv:aWd):Prop where
 sl:M sm=M rows
 sm:∀k:aWe,k<M rows->sm.getD k 0=IA al (Fa gs lv) (Ce rows k).2
 ll:M lv=M gs
 nn:∀j,0<=j->0<=gi lv j
 pp:PP rows gs al lv=U
def fS {rows:aWA}{k:Y}(h0:0<=k) (h1:k<(M rows:Y)):Ce rows k∈rows:=by
 rw [qC A0];exact GZ _
def sJ {rows:aWA}{gs:aWh}{al mo od lv:aWd}(H:HR rows gs al mo od) {i L:Y}(hl:M lv=M gs) (h0:0<=i) (h1:i<(M gs:Y)) {r:Rw}(hr:r∈rows):
  (∀m∈r.2,m≠i->gi (Fa gs lv) m=gi (Fa gs<|lv.set i.toNat L) m)/\gi (Fa gs<|lv.set i.toNat L) i=D7 gs i L:=by
 refine ⟨λm hm e=>?_,?_⟩
 ·obtain ⟨m0,m1⟩:=(H.mem r hr).2 m hm
  rw [TK m0 m1,TK m0 m1,J9 h0 A0 m0,AE e]
 ·rw [TK h0 h1,J9 h0 A0 h0,AD rfl]
def aQE {rows:aWA}{gs:aWh}{al mo od lv:aWd}(H:HR rows gs al mo od) {i L:Y}(hl:M lv=M gs) (h0:0<=i) (h1:i<(M gs:Y)) {r:Rw}(hr:r∈rows) (hc:gi lv i=L-1):
  IA al (Fa gs<|lv.set i.toNat L) r.2=IA al (Fa gs lv) r.2+(if i∈r.2 then GA gs al i L else 0):=by
 obtain ⟨p1,p2⟩:=sJ (L:=L) H hl h0 h1 hr;split
 ·rename_i hi
  rw [aIF (am:=Fa gs lv) (H.mem r hr).1 hi p1,p2,TK h0 h1,hc];rfl
 ·rename_i hi
  rw [<-pD (am:=Fa gs lv) λm hm=>p1 m hm λe=>hi<|e▸hm]
  omega
def atY {rows:aWA}{gs:aWh}{al mo od sm lv:aWd}(H:HR rows gs al mo od) (hI:Inv rows gs al sm lv) {i L:Y}(h0:0<=i) (h1:i<(M gs:Y)) (hL:1<=L) (hc:gi lv i=L-1):
  ((OL rows).getD i.toNat []).all (Kt rows sm<|GA gs al i L)=PP rows gs al (lv.set i.toNat L):=by
 have hg:=H.gl
 rw [wE (λr hr=>⟨(H.mem r hr).1,λm hm=>((H.mem r hr).2 m hm).1⟩) A0,Ip,BO]
 unfold PP PG;rw [BO]
 have hpp:=hI.pp
 unfold PP PG at hpp;rw [BO] at hpp
 have hpos:1<=D7 gs i L:=by
  have:=aTo (H.has i h0 h1) (Co 0) (show 0<L by omega)
  rw [ac9] at this;omega
 have hfit:∀k:Y,0<=k->k<(M rows:Y)->i∈(Ce rows k).2->(Kt rows sm (GA gs al i L) k=rowB al (Fa gs<|lv.set i.toNat L) (Ce rows k)):=λk k0 k1 hk=>by
  have hr:=fS k0 k1
  have hs:=hI.sm k.toNat A0
  have hp:=aQE (L:=L) H hI.ll h0 h1 hr hc
  have hz:(Ce rows k).2.all (λm=>gi (Fa gs<|lv.set i.toNat L) m==0)=false:=by
   rw [IM];intro hz
   have:=BO.1 hz i hk
   rw [(sJ (L:=L) H hI.ll h0 h1 hr).2,D3] at this;omega
  unfold Kt rowB
  grind
 constructor
 ·intro h r hr
  obtain ⟨k,hk,rfl⟩:=HG.1 hr
  have ek:Ce rows (k:Y)=rows[k]:=qC yo
  by_cases hi:i∈rows[k].2
  ·have:=h (k:Y)<|TF.2 ⟨A0,A0,by
    rw [QB,ek,CP h0]
    simpa using hi⟩
   rw [hfit k A0 A0 A8,ek] at this;exact this
  ·rw [<-aeL (am:=Fa gs lv) λm hm=>(sJ (L:=L) H hI.ll h0 h1 hr).1 m hm λe=>hi<|e▸hm]
   exact hpp _ hr
 ·intro h x hx
  obtain ⟨x0,x1,x2⟩:=TF.1 hx;rw [hfit x x0 A0 A8];exact h _<|fS x0 A0
def atD {rows:aWA}{gs:aWh}{al mo od sm lv:aWd}{b:aWo}(H:HR rows gs al mo od) (hI:Inv rows gs al sm lv) {i L:Y}(h0:0<=i) (h1:i<(M gs:Y)) (hL:1<=L):
  (G2 (OL rows) rows gs al mo L (sm,lv,b) i).2.1=I9 (PP rows gs al) (tpO gs mo) L lv i/\Inv rows gs al (G2 (OL rows) rows gs al mo L (sm,lv,b) i).1 (G2 (OL rows) rows gs al mo L (sm,lv,b) i).2.1/\((G2 (OL rows) rows gs al mo L (sm,lv,b) i).2.2=X->b=X/\(G2 (OL rows) rows gs al mo L (sm,lv,b) i).2.1=lv):=by
 unfold G2 I9
 by_cases hc:gi lv i=L-1/\L<=tpO gs mo i
 ·have hf:=atY H hI h0 h1 hL hc.1
  rw [AD (show lv.getD i.toNat 0=L-1/\L<=Ff gs i (gi mo i) from hc),AD hc,hf]
  by_cases hp:PP rows gs al (lv.set i.toNat L)=U
  ·rw [AD hp,AD hp]
   have hg:=H.gl
   refine ⟨rfl,⟨by rw [oW];exact hI.sl,λk hk=>?_,by rw [C3];exact hI.ll,λj hj=>?_,hp⟩,λh=>Ao⟩
   ·have hr:Ce rows (k:Y)∈rows:=fS A0 A0
    rw [wE (λr hr=>⟨(H.mem r hr).1,λm hm=>((H.mem r hr).2 m hm).1⟩) A0,qt pH (λr hr=>(TF.1 hr).1) (by rw [hI.sl];exact hk),hI.sm k hk,aQE (L:=L) H hI.ll h0 h1 hr hc.1]
    have:(k:Y)∈KC 0 rows (i.toNat:Y)↔i∈(Ce rows (k:Y)).2:=by
     rw [TF,QB,CP h0]
     constructor
     ·grind
     ·grind
    by_cases hm:i∈(Ce rows (k:Y)).2
    ·grind
    ·grind
   ·simp only
    rw [J9 h0 (by rw [hI.ll];exact h1) hj]
    split
    ·omega
    ·exact hI.nn j hj
  ·rw [AE hp,AE hp]
   grind
 ·rw [AE (show ¬(lv.getD i.toNat 0=L-1/\L<=Ff gs i (gi mo i)) from hc),AE hc]
  grind
def aI7 {rows:aWA}{gs:aWh}{al mo od:aWd}(H:HR rows gs al mo od) {L:Y}(hL:1<=L):∀ {l sm lv:aWd}{b:aWo},S5 (M gs) l->Inv rows gs al sm lv->
  (swp (OL rows) rows gs al mo L (sm,lv,b) l).2.1=JX (PP rows gs al) (tpO gs mo) L lv l/\Inv rows gs al (swp (OL rows) rows gs al mo L (sm,lv,b) l).1 (swp (OL rows) rows gs al mo L (sm,lv,b) l).2.1/\((swp (OL rows) rows gs al mo L (sm,lv,b) l).2.2=X->b=X/\(swp (OL rows) rows gs al mo L (sm,lv,b) l).2.1=lv)
 | [],sm,lv,b,_,hI=>⟨rfl,hI,λh=>⟨h,rfl⟩⟩
 |i::l,sm,lv,b,hr,hI=>by
  obtain ⟨i0,i1⟩:=hr i AI;obtain ⟨r1,r2,r3⟩:=atD (b:=b) H hI i0 i1 hL;obtain ⟨s1,s2,s3⟩:=aI7 H hL (l:=l) (b:=(G2 (OL rows) rows gs al mo L (sm,lv,b) i).2.2) (λx hx=>hr x A8) r2
  refine ⟨s1.trans (by rw [r1];rfl),s2,λh=>?_⟩
  obtain ⟨t1,t2⟩:=s3 h;obtain ⟨t3,t4⟩:=r3 t1;exact ⟨t3,t2.trans t4⟩
def aIH {rows:aWA}{gs:aWh}{al mo od:aWd}(H:HR rows gs al mo od):∀ {f:aWe}{L:Y}{sm lv:aWd},1<=L->Inv rows gs al sm lv->(∀i∈od,gi lv i<=L-1)->shl (OL rows) rows gs al mo od f L sm lv=Fm (PP rows gs al) (tpO gs mo) od f L lv
 |0,_,_,_,_,_,_=>rfl
 | f+1,L,sm,lv,hL,hI,hb=>by
  obtain ⟨s1,s2,s3⟩:=aI7 (b:=X) H hL H.ord hI;rw [shl,Fm];split
  ·rw [aIH H A0 s2 (λi hi=>by
    rw [s1]
    have h1:=vg (P:=PP rows gs al) (tp:=tpO gs mo) (L:=L) (H.ord i hi).1 (l:=od) (lv:=lv) (by rw [hI.ll];exact H.ord)
    have h2:=hb i hi
    omega),s1]
  ·rename_i hc
   have hc:(swp (OL rows) rows gs al mo L (sm,lv,X) od).2.2=false:=A8
   have e:=(s3 hc).2
   rw [<-s1,e,aFS λi hi=>A8]
def LY {n:aWe}{j:Y}:gi (aq n 0) j=0:=by
 unfold gi
 grind
def aaO {rows:aWA}{gs:aWh}{al mo od:aWd}(H:HR rows gs al mo od):Inv rows gs al (SM al rows) (aq (M gs) 0):=by
 have hz:∀r∈rows,∀m∈r.2,gi (Fa gs<|aq (M gs) 0) m=0:=λr hr m hm=>by
  obtain ⟨m0,m1⟩:=(H.mem r hr).2 m hm;rw [TK m0 m1,LY,ac9]
 refine ⟨aDw,λk hk=>?_,Ci,λj _=>by rw [LY];omega,?_⟩
 ·rw [aTb hk]
  have hr:Ce rows (k:Y)∈rows:=fS A0 A0
  unfold smA IA
  congr 1
  refine Jg λm hm=>?_
  obtain ⟨m0,m1⟩:=(H.mem _ hr).2 m hm;rw [hz _ hr m hm]
  have:=H.al _<|Kc m0 (by rw [H.all];exact m1)
  unfold mx;omega
 ·unfold PP PG
  rw [BO];intro r hr;unfold rowB
  grind
def lvF (rows:aWA) (gs:aWh) (al mo od:aWd):aWd:=Fm (PP rows gs al) (tpO gs mo) od 80 1<|aq (M gs) 0
def tP {rows:aWA}{gs:aWh}{al mo od:aWd}(H:HR rows gs al mo od) {i:Y}(h0:0<=i) (h1:i<(M gs:Y)):0<=tpO gs mo i/\tpO gs mo i<=80/\tpO gs mo i<Ed (AG gs i).2.2.2.1 (AG gs i).2.2.2.2.1 (AG gs i).2.2.2.2.2.1:=
 ⟨aeo (H.has i h0 h1) (H.mo _<|Kc h0 (by rw [H.mol];exact h1)).1,uu,aSu<|H.has i h0 h1⟩
def aym {rows:aWA}{gs:aWh}{al mo od:aWd}(H:HR rows gs al mo od):shV rows gs al mo od=lvF rows gs al mo od:=by
 unfold shV lvF;rw [H.all,aIH H A0 (aaO H) (λi _=>by rw [LY];omega),aGQ,aDk λi hi=> .inr ?_]
 have:=tP H (H.ord i hi).1 (H.ord i hi).2
 omega
section
variable {rows : List Rw} {gs : List Ch} {al mo od : List Int}
def auG:M (lvF rows gs al mo od)=M gs:=by
 unfold lvF;rw [aIc,Ci]
def aHm (H:HR rows gs al mo od):S5 (M<|aq (M gs) (0:Y)) od:=by rw [Ci];exact H.ord
def afx (H:HR rows gs al mo od) {j:Y}(hj:0<=j):0<=gi (lvF rows gs al mo od) j:=by
 have:=aTW (P:=PP rows gs al) (tp:=tpO gs mo) (f:=80) (L:=1) hj<|aHm H
 rw [LY] at this;exact this
def aSr (H:HR rows gs al mo od) {j:Y}(h0:0<=j) (h1:j<(M gs:Y)):gi (lvF rows gs al mo od) j<=tpO gs mo j:=by
 have h2:=aTX (P:=PP rows gs al) (tp:=tpO gs mo) (f:=80) (L:=1) h0<|aHm H
 rw [LY] at h2
 have h3:=tP H h0 h1
 unfold lvF;omega
def afw (H:HR rows gs al mo od):PP rows gs al (lvF rows gs al mo od)=true:=aau (aaO H).pp
def atc {i k:Y}(hh:Dr (AG gs i).2.2.2.1 (AG gs i).2.2.2.2.1 (AG gs i).2.2.2.2.2.1=U) (h0:0<=k) (h1:k<Ed (AG gs i).2.2.2.1 (AG gs i).2.2.2.2.1 (AG gs i).2.2.2.2.2.1):Ff gs i (D7 gs i k)=k:=by
 have h2:=aTn hh h0
 have h3:=(rX hh h2 h0 h1).1<|Co _
 have h4:=aSu (a:=D7 gs i k) hh
 have h5:=(rX hh h2 (k:=HY (AG gs i).2.2.2.1 (AG gs i).2.2.2.2.1 (AG gs i).2.2.2.2.2.1<|D7 gs i k) A0 h4).2<|Co _
 by_cases e:k<HY (AG gs i).2.2.2.1 (AG gs i).2.2.2.2.1 (AG gs i).2.2.2.2.2.1 (D7 gs i k)
 ·have:=aTo hh h0 e
  have h5:D7 gs i (HY (AG gs i).2.2.2.1 (AG gs i).2.2.2.2.1 (AG gs i).2.2.2.2.2.1<|D7 gs i k)<=D7 gs i k:=h5
  omega
 ·unfold Ff
  omega
end
def avV {mi ma st k:Y}(hh:Dr mi ma st=U) (h0:0<=k) (h1:k<Ed mi ma st):EA mi st k<=ma:=by
 obtain ⟨g1,g2,g3,g4,g5⟩:=IQ.1 hh;unfold EA;split
 ·omega
 ·unfold Ed at h1
  have h2:(k-1)<=(ma-mi) / st:=A0
  have:=(Int.le_ediv_iff_mul_le (a:=k-1) (b:=ma-mi) (c:=st) A0).1 h2
  omega
def aj6 {mi ma st k:Y}(h0:0<=k) (h1:k<Ed mi ma st):amA mi ma st k=EA mi st k/\amE mi ma st k=0:=by
 unfold amA amE
 grind
section
variable {rows : List Rw} {gs : List Ch} {al mo od lv : List Int}
def lvR (gs:aWh) (lv:aWd):Prop:=M lv=M gs/\∀j,0<=j->j<(M gs:Y)->0<=gi lv j/\gi lv j<Ed (AG gs j).2.2.2.1 (AG gs j).2.2.2.2.1 (AG gs j).2.2.2.2.2.1
def aAs (H:HR rows gs al mo od):lvR gs (lvF rows gs al mo od):=⟨auG,λj h0 h1=>⟨afx H h0,by
 have:=aSr H h0 h1
 have:=tP H h0 h1
 omega⟩⟩
def aw8 (H:HR rows gs al mo od) {j k:Y}(h0:0<=j) (h1:j<(M gs:Y)) (k0:0<=k) (k1:k<Ed (AG gs j).2.2.2.1 (AG gs j).2.2.2.2.1 (AG gs j).2.2.2.2.2.1):(0<=D7 gs j k/\D7 gs j k<=80)/\aLt gs j k=0/\aLu gs j k=D7 gs j k/\Ff gs j (D7 gs j k)=k:=by
 have hh:=H.has j h0 h1
 obtain ⟨g1,g2,g3,g4,g5⟩:=IQ.1 hh
 have h2:=avV hh k0 k1
 obtain ⟨e1,e2⟩:=aj6 k0 k1;refine ⟨⟨aTn hh k0,?_⟩,e2,e1,atc hh k0 k1⟩;unfold D7;omega
def aj2 (H:HR rows gs al mo od) (R:lvR gs lv) {j:Y}(h0:0<=j) (h1:j<(M gs:Y)):letI a:=Fa gs lv;Ff gs j (gi a j)=gi lv j/\aLt gs j (gi lv j)=0/\aLu gs j (gi lv j)=gi a j/\0<=gi a j/\gi a j<=80:=by
 obtain ⟨r0,r1⟩:=R.2 j h0 h1;obtain ⟨a1,a2,a3,a4⟩:=aw8 H h0 h1 r0 r1;rw [TK h0 h1]
 grind
def aks (H:HR rows gs al mo od) {j k:Y}(h0:0<=j) (h1:j<(M gs:Y)) (k0:0<=k) (k1:k<Ed (AG gs j).2.2.2.1 (AG gs j).2.2.2.2.1 (AG gs j).2.2.2.2.2.1):D7 gs j k<=gi mo j↔k<=tpO gs mo j:=
 rX (H.has j h0 h1) (H.mo _<|Kc h0 (by rw [H.mol];exact h1)).1 k0 k1
def acr {a b:aWd}(hl:M a=M b) (h:∀j:Y,0<=j->j<(M b:Y)->gi a j=gi b j):a=b:=Zn hl λk h1 h2=>by
 have:=h (k:Y) A0 A0
 rw [IW A8,IW A8] at this
 grind
def g4 (gs:aWh) (mo b am:aWd) (j:Y):Prop:=(0<=gi b j/\gi b j<Ed (AG gs j).2.2.2.1 (AG gs j).2.2.2.2.1 (AG gs j).2.2.2.2.2.1)/\gi am j=D7 gs j (gi b j)/\gi am j<=gi mo j
end
section
variable {cs : List Cd} {os : List ByteArray} {ks : List Ko} {gs : List Ch} {bs : List Ba} {al mo od : List Int}
def aQ0 (h:Fx cs os ks gs bs al mo od=U):Fe cs os ks gs bs al mo od=Fa gs (lvF (Cy cs gs<|M cs) gs al mo od):=by
 unfold Fe;rw [AD h,aym<|aAa h]
def aaG (h:Fx cs os ks gs bs al mo od=U):shE cs os ks gs bs al mo od=0:=by unfold shE;rw [AD h]
end
abbrev Ap:Ty:=.pair A7 A7
abbrev Ra:=Int×Int
def aWJ:qT (List Ra):=⟨⟩
def aW9:qT (List<|Int×Ra):=⟨⟩
instance:Coe (List Ra) LV:=⟨.xl Ap⟩
def C0 (l:aWJ) (n:Y):Ra:=l.getD n.toNat (0,0)
def vR {l:aWJ}{n:Y}(h:n.toNat<M l):C0 l n=l[n.toNat]:=Lc h
def aTY {l:aWd}{j:Y}(h:M l<=j.toNat):gi l j=0:=by
 unfold gi;rw [DJ,Sa h];rfl
def afr {l:aWd}{a:Y}(h:a∈l):∃j:Y,(0<=j/\j<(M l:Y))/\gi l j=a:=by
 obtain ⟨k,hk,e⟩:=HG.1 h;exact ⟨k,A0,by rw [IW A8];simpa using e⟩
def neN {a b:aWe}:((a:Y) !=(b:Y))=!an (a=b):=by
 by_cases h:a=b
 ·simp [h]
 ·have h':(a:Y)≠(b:Y):=A0
  simp [h,h']
def H4 (t:Y) (x:Le):aWo:=an (x.2.2.2.1<=t)&&an (DH x>t)
def Jd (o:aWd) (x:Le):aWd:=o.set x.2.1.toNat<|mx (gi o x.2.1) x.2.2.1
def H3 (n:aWe) (l:aWn) (t:Y):aWd:=(l.filter<|H4 t).foldl Jd<|aq n 0
def below (n:Y) (l:aWn):aWo:=l.all λx=>an<|x.2.1<n
def Kz (l:aWn) (n t:Y):aWo:=(B4 l&&(inB n 0 16&&inB t 0 1100000))&&below n l
def HM (l:aWn) (n t:Y):aWd:=if Kz l n t=U then H3 n.toNat l t else []
def Jy (l:aWn) (n t:Y):Y:=if Kz l n t=U then 0 else 1
def aFW {o:aWd}{x:Le}:M (Jd o x)=M o:=by simp [Jd]
def aIo:∀ {l:aWn}{o:aWd},M (l.foldl Jd o)=M o
 | [],_=>rfl
 |x::l,o=>by rw [KE,aIo,aFW]
def dM {n:aWe}{l:aWn}{t:Y}:M (H3 n l t)=n:=by rw [H3,aIo,Ci]
def aFQ {l:aWn}(h:B4 l=U):l.Pairwise (λa b=>a.1<b.1/\a.2.2.2.1<=b.2.2.2.1):=by
 unfold B4 at h;rw [AY] at h
 have hs:∀k:aWe,(hk:k+1<M l)->l[k].1<l[k+1].1/\l[k].2.2.2.1<=l[k+1].2.2.2.1:=λk hk=>by
  have:=Dx.1 h.2 (k+1) A0
  unfold Gy K4 at this;rw [La (n:=((k+1:aWe):Y)) A8,La (n:=((k+1:aWe):Y)-1) A0] at this;simp only [AY,Cj,Aa] at this;obtain ⟨_,h1|h1⟩:=this
  ·omega
  ·have e:(((k+1:aWe):Y)-1).toNat=k:=A0
   simp only [e,By] at h1;omega
 rw [lh];intro i j hi hj hij
 induction j with
 |zero=>omega
 | succ j ih=>
  have h1:=hs j A0
  by_cases e:i=j
  ·grind
  ·have h2:=ih A0 A0
   omega
def Cw (c:Ch):Y:=c.2.2.2.2.2.2.1
def raC (c:Ch) (r:Ra):aWo:=IB c.2.2.1 c.2.2.2.1 c.2.2.2.2.1 c.2.2.2.2.2.1 (Cw c) r.1 r.2
def Hf (x:Dm):aWo:=inB x.2.1 0 1000000000&&(inB x.2.2.1 0 1000000&&inB x.2.2.2 1 9)
def JV (cs:aWl) (os:aWg) (ks:aWr) (gs:aWh) (bs:aWs) (l:aWn) (rs:aWJ) (d:aWB) (t n:Y):aWo:=
 (BH cs os ks gs bs&&B4 l)&&((an (M rs=M gs)&&(an (M d=M gs)&&(inB t 0 1000000&&inB n 1 999900)))&&(below (M gs) l&&Dp (M gs) (λj=>raC (AG gs j) (C0 rs j)&&Hf (E8 d j))))
def HQ (n:aWe) (f:Y->Y):aWd:=(au n).map λk:aWe=>f (k:Y)
def Iu {n:aWe}{f:Y->Y}:M (HQ n f)=n:=by simp [HQ]
def Of {n:aWe}{f:Y->Y}{j:Y}(h0:0<=j) (h1:j<(n:Y)):gi (HQ n f) j=f j:=by
 rw [IW (by rw [Iu];omega)]
 simp only [HQ,xf,lZ]
 grind
def aEX {n:aWe}{f:Y->Y}{x:Y}(h:x∈HQ n f):∃j,(0<=j/\j<(n:Y))/\f j=x:=by
 obtain ⟨k,hk,e⟩:=F5.1 h
 grind
def Bv (gs:aWh):aWd:=HQ (M gs) λk=>Cw<|AG gs k
def JC (gs:aWh) (d:aWB):aWd:=HQ (M gs) (λk=>if (E8 d k).1=U then (AG gs k).2.2.2.2.1 else 0)
def DO (gs:aWh) (l:aWn) (t:Y):aWd:=HQ (M gs) λk=>mx (Cw<|AG gs k)<|gi (H3 (M gs) l t) k
def tgL (cs:aWl) (os:aWg) (ks:aWr) (gs:aWh) (bs:aWs) (d:aWB) (t:Y):aWd:=Fe cs os ks gs bs (Bv gs) (JC gs d)<|HO d t
def HT (cs:aWl) (os:aWg) (ks:aWr) (gs:aWh) (bs:aWs) (l:aWn) (d:aWB) (t:Y):aWd:=Fe cs os ks gs bs (DO gs l t) (tgL cs os ks gs bs d t)<|HO d t
def afF {l:aWJ}{i j:Y}{v:Ra}(h0:0<=i) (h1:i<(M l:Y)) (hj:0<=j):C0 (l.set i.toNat v) j=if j=i then v else C0 l j:=by
 unfold C0;rw [DJ,DJ,IN]
 by_cases e:j=i
 ·subst e
  rw [AD rfl,AD rfl,AD A0];rfl
 ·grind
def atT {a b:aWJ}(hl:M a=M b) (h:∀j:Y,0<=j->j<(M b:Y)->C0 a j=C0 b j):a=b:=Zn hl λk h1 h2=>by
 have:=h (k:Y) A0 A0
 rw [vR A8,vR A8] at this
 grind
def ofO (cs:aWl) (os:aWg) (ks:aWr) (gs:aWh) (bs:aWs) (l:aWn) (d:aWB) (t:Y) (od:aWd):aWd:=Fe cs os ks gs bs (DO gs l t) (Fe cs os ks gs bs (Bv gs) (JC gs d) od) od
def nwO (a t:Y):Option Le->Bool
 |none=>U
 |some x=>x.2.2.1 !=a ||an (x.2.2.2.1<=t-6)
def nwB (gs:aWh) (l:aWn) (t i a:Y):aWo:=!an (a<=Cw (AG gs i))&&nwO a t (l.reverse.find? λx=>x.2.1==i)
def nxA (c:Ch) (r:Ra) (w:Y):Y:=nA c.2.2.1 c.2.2.2.1 c.2.2.2.2.1 c.2.2.2.2.2.1 (Cw c) r.1 r.2 w
def nxS (c:Ch) (r:Ra) (w:Y):Y:=nS c.2.2.1 c.2.2.2.1 c.2.2.2.2.1 c.2.2.2.2.2.1 (Cw c) r.1 r.2 w
def FJ (gs:aWh) (rs:aWJ) (w:aWd) (k:aWe):aWd:=HQ k λk=>nxA (AG gs k) (C0 rs k)<|gi w k
def dcR (gs:aWh) (rs:aWJ) (w:aWd) (k:aWe):aWJ:=(au k).map λk:aWe=>(nxA (AG gs k) (C0 rs k)<|gi w k,nxS (AG gs k) (C0 rs k)<|gi w k)
def HE (gs:aWh) (l:aWn) (t n:Y) (am:aWd):aWe->List Le
 |0=>[]
 |k+1=>HE gs l t n am k++(if nwB gs l t k (gi am k)=U then [(n+M (HE gs l t n am k),(k:Y),gi am k,t,12)] else [])
def ep {gs:aWh}{rs:aWJ}{w:aWd}{k:aWe}:M (dcR gs rs w k)=k:=by simp [dcR]
def ahn {gs:aWh}{rs:aWJ}{w:aWd}{k:aWe}{j:Y}(h0:0<=j) (h1:j<(k:Y)):C0 (dcR gs rs w k) j=(nxA (AG gs j) (C0 rs j)<|gi w j,nxS (AG gs j) (C0 rs j)<|gi w j):=by
 rw [vR (by rw [ep];omega)]
 simp only [dcR,xf,lZ]
 grind
def okC (c:Ch) (r:Ra) (w:Y):aWo:=okB c.2.2.1 c.2.2.2.1 c.2.2.2.2.1 c.2.2.2.2.2.1 (Cw c) r.1 r.2 w
def dcK (gs:aWh) (rs:aWJ) (w:aWd):Prop:=∀j,0<=j->j<(M gs:Y)->okC (AG gs j) (C0 rs j) (gi w j)=U
def aDh {gs:aWh}{l:aWn}{t n:Y}{am:aWd}:∀ {k:aWe},M (HE gs l t n am k)<=k
 |0=>by simp [HE]
 |k+1=>by
  have:=aDh (gs:=gs) (l:=l) (t:=t) (n:=n) (am:=am) (k:=k)
  rw [HE,BL];exact aK
section
variable (cs : List Cd) (os : List ByteArray) (ks : List Ko) (gs : List Ch) (bs : List Ba) (l : List Le) (rs : List Ra) (d : List Dm) (t n : Int)
def deA:aWd:=if JV cs os ks gs bs l rs d t n=U then FJ gs rs (HT cs os ks gs bs l d t) (M gs) else []
def deR:aWJ:=if JV cs os ks gs bs l rs d t n=U then dcR gs rs (HT cs os ks gs bs l d t) (M gs) else []
def deL:aWn:=if JV cs os ks gs bs l rs d t n=U then HE gs l t n (FJ gs rs (HT cs os ks gs bs l d t)<|M gs) (M gs) else []
def deE:Y:=if JV cs os ks gs bs l rs d t n=U then 0 else 1
end
section
variable {cs : List Cd} {os : List ByteArray} {ks : List Ko} {gs : List Ch} {bs : List Ba} {l : List Le} {rs : List Ra} {d : List Dm} {t n : Int}
structure Vd (cs:aWl) (os:aWg) (ks:aWr) (gs:aWh) (bs:aWs) (l:aWn) (rs:aWJ) (d:aWB) (t n:Y):Prop where
 site:BH cs os ks gs bs=U
 les:B4 l=U
 rl:M rs=M gs
 dl:M d=M gs
 gl:M gs<=16
 tb:0<=t/\t<=1000000
 nb:1<=n/\n<=999900
 co:below (M gs) l=U
 ra:∀j:Y,0<=j->j<(M gs:Y)->raC (AG gs j) (C0 rs j)=U
 dm:∀j:Y,0<=j->j<(M gs:Y)->Hf (E8 d j)=U
 ch:∀j:Y,0<=j->j<(M gs:Y)->chW (AG gs j)=U
def aVS (h:JV cs os ks gs bs l rs d t n=U):Vd cs os ks gs bs l rs d t n:=by
 unfold JV at h;simp only [AY,Aa,BV] at h;obtain ⟨⟨h1,h2⟩,⟨h3,h4,h5,h6⟩,h7,h8⟩:=h
 have hj:∀j:Y,0<=j->j<(M gs:Y)->raC (AG gs j) (C0 rs j)=U/\Hf (E8 d j)=true:=λj h0 hj=>by
  have:=Dx.1 h8 j.toNat A0
  rw [CP h0,AY] at this;exact this
 exact ⟨h1,h2,h3,h4,(DK.1 h1).1.2.2.2.2.1,h5,h6,h7,λj h0 h1=>(hj j h0 h1).1,λj h0 h1=>(hj j h0 h1).2,λj h0 hj=>by
  have:=Ol h1 h0 hj
  unfold GO at this;simp only [AY] at this;exact this.2.2⟩
def fc {c:Ch}(h:chW c=U):(1<=c.2.2.1/\c.2.2.1<=7)/\(1<=c.2.2.2.1/\c.2.2.2.1<=c.2.2.2.2.1)/\c.2.2.2.2.1<=80/\(1<=c.2.2.2.2.2.1/\c.2.2.2.2.2.1<=80)/\0<=Cw c/\Cw c<=c.2.2.2.2.1:=by
 unfold chW at h;unfold Cw;simp only [AY,Cj,BV,D3] at h;omega
def fE (hv:B4 l=U) {m:aWe}:∀a∈H3 m l t,0<=a/\a<=80:=by
 have key:∀(l:aWn) (o:aWd),(∀x∈l,DI x=U)->(∀a∈o,0<=a/\a<=80)->∀a∈l.foldl Jd o,0<=a/\a<=80:=λl=>by
  induction l with
  |nil=>exact λo _ h=>h
  | cons x l ih=>
   intro o hl ho;refine ih _ (λy hy=>hl y A8) λa ha=>?_
   have hx:=LQ.1<|hl x AI
   rcases OU ha with ha|rfl
   ·grind
   ·have:0<=gi o x.2.1/\gi o x.2.1<=80:=by
     by_cases h:x.2.1.toNat<M o
     ·rw [IW h];exact ho _<|GZ _
     ·rw [aTY A0];omega
    unfold mx;omega
 refine key _ _ (λx hx=>(GH hv).2 x (CS.1 hx).1) λa ha=>?_
 rw [List.eq_of_mem_replicate ha];omega
def aIY (hd:M d=M gs):Gw (HO d t) (M gs)=true:=by
 unfold Gw;rw [aFt,hd,Cg rfl,EU,AY,BO];refine ⟨λx hx=>po.2 (by have:=ap9.1 hx;rw [hd] at this;exact this),qN.2 λj hj hm=>?_⟩
 obtain ⟨k,hk,e⟩:=HG.1 hm;rw [MA] at hk;rw [List.getElem_take] at e
 have:=(lh.1<|aeX (d:=d) (t:=t)) k j A0 hj A0
 exact this e
def Xm {l:aWd}{a b:Y}(hz:a<=0/\0<=b) (h:∀x∈l,a<=x/\x<=b) {j:Y}:a<=gi l j/\gi l j<=b:=by
 by_cases hj:j.toNat<M l
 ·rw [IW hj];exact h _<|GZ _
 ·rw [aTY A0];exact hz
structure Si (cs:aWl) (os:aWg) (ks:aWr) (gs:aWh) (bs:aWs) (d:aWB):Prop where
 site:BH cs os ks gs bs=U
 dl:M d=M gs
def Si.ch (h:Si cs os ks gs bs d) {j:Y}(h0:0<=j) (hj:j<(M gs:Y)):chW (AG gs j)=true:=by
 have:=Ol h.site h0 hj
 unfold GO at this
 grind
def Vd.si (h:Vd cs os ks gs bs l rs d t n):Si cs os ks gs bs d:=⟨h.site,h.dl⟩
def ait (h:Si cs os ks gs bs d):∀a∈Bv gs,0<=a/\a<=80:=λa ha=>by
 exact aNw
def awx (h:Si cs os ks gs bs d):∀a∈JC gs d,0<=a/\a<=80:=λa ha=>by
 exact aNw
def aj7 (h:Vd cs os ks gs bs l rs d t n):∀a∈DO gs l t,0<=a/\a<=80:=λa ha=>by
 obtain ⟨j,⟨h0,h1⟩,rfl⟩:=aEX ha
 have:=fc<|h.ch j h0 h1
 have:=Xm (j:=j) ⟨Co 0,Ab⟩<|fE h.les (m:=M gs) (t:=t)
 unfold mx;omega
def aQ1 {al mo od:aWd}(hk:Fx cs os ks gs bs al mo od=U):letI a:=Fe cs os ks gs bs al mo od;M a=M gs/\∀j,0<=j->j<(M gs:Y)->(0<=gi a j/\gi a j<=80)/\gi a j<=gi mo j:=by
 have H:=aAa hk
 rw [aQ0 hk];refine ⟨aH2,λj h0 h1=>?_⟩
 obtain ⟨_,_,_,e4,e5⟩:=aj2 H (aAs H) h0 h1
 have h3:=(aks H h0 h1 ((aAs H).2 j h0 h1).1 ((aAs H).2 j h0 h1).2).2<|aSr H h0 h1
 rw [TK h0 h1] at e4 e5|-
 grind
def aII {al mo od:aWd}(hk:Fx cs os ks gs bs al mo od=U):M (Fe cs os ks gs bs al mo od)=M gs/\∀a∈Fe cs os ks gs bs al mo od,0<=a/\a<=80:=by
 obtain ⟨h1,h2⟩:=aQ1 hk;refine ⟨h1,λa ha=>?_⟩
 obtain ⟨j,hj,rfl⟩:=afr ha
 grind
def aaB (h:Si cs os ks gs bs d):Fx cs os ks gs bs (Bv gs) (JC gs d) (HO d t)=true:=
 LM.2 ⟨h.site,Iu,Iu,BO.2 λa ha=>QU.2<|ait h a ha,BO.2 λa ha=>QU.2<|awx h a ha,aIY h.dl⟩
def aaC (h:Si cs os ks gs bs d):M (tgL cs os ks gs bs d t)=M gs/\∀a∈tgL cs os ks gs bs d t,0<=a/\a<=80:=by
 exact aII<|aaB (t:=t) h
def jF (h:Vd cs os ks gs bs l rs d t n):Fx cs os ks gs bs (DO gs l t) (tgL cs os ks gs bs d t) (HO d t)=true:=
 LM.2 ⟨h.site,Iu,(aaC h.si).1,BO.2 λa ha=>QU.2<|aj7 h a ha,BO.2 λa ha=>QU.2<|(aaC h.si).2 a ha,aIY h.dl⟩
def abK (h:Vd cs os ks gs bs l rs d t n):M (HT cs os ks gs bs l d t)=M gs/\∀a∈HT cs os ks gs bs l d t,0<=a/\a<=80:=by
 exact aII<|jF h
def alQ (h:Vd cs os ks gs bs l rs d t n) {j:Y}:letI a:=HT cs os ks gs bs l d t;0<=gi a j/\gi a j<=80:=Xm ⟨Co 0,Ab⟩ (abK h).2
def aTz (h:Vd cs os ks gs bs l rs d t n):dcK gs rs (HT cs os ks gs bs l d t):=λj j0 j1=>by
 have hr:=h.ra j j0 j1
 have hb:=alQ h (j:=j)
 unfold raC at hr;unfold okC okB;rw [hr,Cg hb.1,Cg hb.2];rfl
def aw9 (h:Vd cs os ks gs bs l rs d t n):Kz l (M gs) t=true:=by
 have:=h.gl
 have:=h.tb
 unfold Kz;rw [h.les,BV.2 ⟨A0,A0⟩,BV.2 ⟨A0,A0⟩,h.co];rfl
end
section
variable {P : List Int -> Bool} {tp : Int -> Int}
end
def isL (mn mx st a:Y):aWo:=a==0 ||(an (mn<=a)&&(an (a<=mx)&&((a-mn) %st==0)))
def WX {mn mx st a:Y}:isL mn mx st a=U↔a=0\/(mn<=a/\a<=mx/\(a-mn) %st=0):=by simp [isL]
def dp {mn mx st a:Y}(hc:ED mn mx st):isL mn mx st (Bz mn mx st a)=true:=by
 unfold ED at hc;rw [WX];unfold Bz;split
 ·grind
 ·right
  have e1:=aDI (x:=min a mx-mn) (s:=st) A0 A0
  refine ⟨A0,A0,?_⟩
  have h:=lR (min a mx-mn) st
  rw [show min a mx-(min a mx-mn) %st-mn=st*((min a mx-mn) / st) by omega]
  simp_all
def gK {mn mx st a:Y}(hc:ED mn mx st) (ha:0<=a):Bz mn mx st a<=a:=by
 have hc':=hc
 have:=cV (a:=a) hc'.1 hc'.2.1 hc'.2.2.1 hc'.2.2.2.1
 by_cases h:a<mn
 ·omega
 ·omega
def auA {x y s:Y}(hs:1<=s) (hy:y%s=0) (h:y<=x):y<=x-x%s:=by
 have h1:=lR x s
 have h2:=lR y s
 have h3:=Int.emod_lt_of_pos x (b:=s) A0
 by_cases hq:y / s<=x / s
 ·have:=Q6 hq (show 0<=s by omega)
  omega
 ·have:=Q6 (show x / s+1<=y / s by omega) (show 0<=s by omega)
  rw [Int.mul_add,Int.mul_one] at this;omega
def oT {mn mx st a L:Y}(hc:ED mn mx st) (hL:isL mn mx st L=U) (h:L<=a):L<=Bz mn mx st a:=by
 have hc':=hc
 unfold ED at hc';rw [WX] at hL;rcases hL with rfl|⟨h1,h2,h3⟩
 ·exact (cV (a:=a) hc'.1 hc'.2.1 hc'.2.2.1 hc'.2.2.2.1).1
 ·unfold Bz
  have:=auA (x:=min a mx-mn) (y:=L-mn) (s:=st) A0 h3 A0
  omega
def aFe {mn mx st a:Y}(hc:ED mn mx st) (h:isL mn mx st a=U) (ha:0<=a):Bz mn mx st a=a:=by
 have h1:=gK hc ha
 have h2:=oT hc h<|Co a
 omega
def aFz {ph mn mx st fb a s want:Y}(h:okB ph mn mx st fb a s want=U):ED mn mx st/\0<=s/\s<=1000000/\0<=want/\want<=80/\0<=a/\a<=80/\isL mn mx st a=U/\a<=mx/\(a≠0->mn<=a):=by
 have h':=h
 simp only [okB,IB,AY,Aa,D3] at h';obtain ⟨⟨_,_,_,_,h5⟩,_⟩:=h';obtain ⟨_,h2,h3,h4,h6,h7,_⟩:=aIi h
 have hl:isL mn mx st a=true:=by rw [<-h5];exact dp h2
 have hl':=WX.1 hl
 have h2':=h2
 unfold ED at h2'
 grind
def amT {ph mn mx st fb a s want:Y}(h:okB ph mn mx st fb a s want=U):nE ph mn mx st fb a s want=0:=by rw [nE,AD h]
def abM {ph mn mx st fb a s want:Y}(h:okB ph mn mx st fb a s want=U):nA ph mn mx st fb a s want=if a=0 then (if Bz mn mx st want≠0/\5<=s then mn else 0) else if Bz mn mx st want=0 then 0 else min (Bz mn mx st want) (a+st):=by rw [nA,AD h]
def amS {ph mn mx st fb a s want:Y}(h:okB ph mn mx st fb a s want=U):nS ph mn mx st fb a s want=if a=0 then (if Bz mn mx st want≠0/\5<=s then 0 else min (s+1) 1000000) else if Bz mn mx st want=0 then 0 else min (s+1) 1000000:=by rw [nS,AD h]
def aSm {mn mx st:Y}(hc:ED mn mx st):isL mn mx st mn=true:=by
 unfold ED at hc;rw [WX];right;exact ⟨A0,A0,AI⟩
def atq {mn mx st a:Y}(ha:isL mn mx st a=U) (h0:a≠0) (h1:a+st<=mx) (hs:1<=st):isL mn mx st (a+st)=true:=by
 rw [WX] at ha|-;rcases ha with h|⟨h2,h3,h4⟩
 ·grind
 ·right
  exact ⟨A0,h1,by rw [show a+st-mn=(a-mn)+st by omega,Int.add_emod_right];exact h4⟩
def aFf {mn mx st a b:Y}(hc:ED mn mx st) (h0:0<=a) (h:a<=b):Bz mn mx st a<=Bz mn mx st b:=by
 have h1:=gK hc h0
 exact oT hc (dp (a:=a) hc) A0
def afn {mn mx st a:Y}(hc:ED mn mx st):Bz mn mx st a<=mx:=by
 have h:=WX.1<|dp (a:=a) hc
 unfold ED at hc;omega
def atH {mn mx st a want:Y}(hc:ED mn mx st) (ha:isL mn mx st a=U) (h0:a≠0) (ha0:0<=a) (hw:0<=want):(if Bz mn mx st want=0 then 0 else min (Bz mn mx st want) (a+st))=Bz mn mx st (min want<|a+st):=by
 have hc':=hc
 unfold ED at hc'
 by_cases h1:want<=a+st
 ·rw [show min want (a+st)=want by omega]
  have:=gK hc hw
  omega
 ·rw [show min want (a+st)=a+st by omega]
  by_cases h2:a+st<=mx
  ·have hl:=atq ha h0 h2 A0
   rw [aFe hc hl A0]
   have:=oT hc hl (show a+st<=want by omega)
   omega
  ·have m1:=afn (a:=want) hc
   have g1:=oT hc (dp (a:=want) hc) (show Bz mn mx st want<=a+st by omega)
   have g2:=aFf hc (show 0<=a+st by omega) (show a+st<=want by omega)
   omega
def asI {ph mn mx st fb a s want most:Y}(hk:okB ph mn mx st fb a s want=U) (hm:most=if a=0 then mn else a+st):
  isL mn mx st (nA ph mn mx st fb a s want)=U/\nA ph mn mx st fb a s want<=want/\nA ph mn mx st fb a s want<=most/\(nA ph mn mx st fb a s want=Bz mn mx st (min want most)\/(a=0/\s<5/\nA ph mn mx st fb a s want=0))/\(a≠0\/5<=s\/nA ph mn mx st fb a s want=0):=by
 obtain ⟨hc,h1,h2,h3,h4,h5,h6,h7,h8,h9⟩:=aFz hk
 have hc':=hc
 unfold ED at hc';rw [abM hk]
 by_cases h0:a=0
 ·rw [AD h0] at hm|-
  by_cases hh:Bz mn mx st want≠0/\5<=s
  ·rw [AD hh]
   have hw:mn<=want:=by
    apply Classical.byContradiction
    intro hn;exact hh.1<|by rw [Bz,AD A0]
   refine ⟨aSm hc,hw,A0,.inl ?_,.inr<|.inl hh.2⟩;rw [hm,show min want mn=mn by omega,aFe hc (aSm hc) A0]
  ·rw [AE hh]
   refine ⟨A8,h3,A0,?_,.inr<|.inr rfl⟩
   by_cases hs:s<5
   ·grind
   ·left
    have h10:Bz mn mx st want=0:=by
     apply Classical.byContradiction
     omega
    have:=aFf hc (show 0<=min want most by omega) (show min want most<=want by omega)
    have:=(cV (a:=min want most) hc'.1 hc'.2.1 hc'.2.2.1 hc'.2.2.2.1).1
    omega
 ·rw [AE h0] at hm|-
  rw [atH hc h7 h0 h5 h3]
  have:=gK hc (show 0<=min want (a+st) by omega)
  exact ⟨dp hc,A0,A0,.inl<|by rw [hm],.inl h0⟩
def aea {ph mn mx st fb a s want:Y}(hk:okB ph mn mx st fb a s want=U):
  0<=nA ph mn mx st fb a s want/\(0<=nS ph mn mx st fb a s want/\nS ph mn mx st fb a s want<=1000000/\nS ph mn mx st fb a s want<=s+1)/\(a=0->nA ph mn mx st fb a s want≠0->5<=s)/\(a≠0->nA ph mn mx st fb a s want=0->nS ph mn mx st fb a s want=0)/\
  (¬((nA ph mn mx st fb a s want=0)↔(a=0))->nS ph mn mx st fb a s want=0)/\(((nA ph mn mx st fb a s want=0)↔(a=0))->nS ph mn mx st fb a s want=min (s+1) 1000000):=by
 obtain ⟨hc,h1,h2,h3,h4,h5,h6,h7,h8,h9⟩:=aFz hk
 have hc':=hc
 unfold ED at hc'
 have hb:=(cV (a:=want) hc'.1 hc'.2.1 hc'.2.2.1 hc'.2.2.2.1).1
 rw [abM hk,amS hk]
 by_cases h0:a=0
 ·simp only [AD h0]
  by_cases hh:Bz mn mx st want≠0/\5<=s
  ·omega
  ·omega
 ·simp only [AE h0]
  by_cases hh:Bz mn mx st want=0
  ·omega
  ·omega
def atG {al x y:aWd}{r:Rw}(hm:∀m∈r.2,0<=gi y m/\gi y m<=gi x m) (h:rowB al x r=U):rowB al y r=true:=by
 unfold rowB at h|-;rw [Cj] at h|-;rcases h with h|h
 ·left
  rw [BO] at h|-;intro m hmm
  have h1:=h m hmm
  have h2:=hm m hmm
  rw [D3] at h1|-;omega
 ·right
  exact Cg<|Hl (aG6 λm hmm=>(hm m hmm).2)<|D5 h
def apC {rows:aWA}{al x y:aWd}(hm:∀r∈rows,∀m∈r.2,0<=gi y m/\gi y m<=gi x m) (h:PG rows al x=U):PG rows al y=true:=by
 unfold PG at h|-;rw [BO] at h|-;exact λr hr=>atG (hm r hr)<|h r hr
section
variable {cs : List Cd} {os : List ByteArray} {ks : List Ko} {gs : List Ch} {bs : List Ba} {l : List Le} {rs : List Ra} {d : List Dm} {t n : Int}
def aou {al mo od:aWd}(hk:Fx cs os ks gs bs al mo od=U):PG (Cy cs gs<|M cs) al (Fe cs os ks gs bs al mo od)=true:=by
 rw [aQ0 hk];exact afw<|aAa hk
def aho {w:aWd}{k:aWe}{j:Y}(h0:0<=j) (h1:j<(k:Y)):gi (FJ gs rs w k) j=nxA (AG gs j) (C0 rs j) (gi w j):=Of h0 h1
def aaK (V:Vd cs os ks gs bs l rs d t n) {j:Y}(j0:0<=j) (j1:j<(M gs:Y)):letI a:=HT cs os ks gs bs l d t;0<=gi (FJ gs rs a<|M gs) j/\gi (FJ gs rs a<|M gs) j<=gi a j/\gi a j<=gi (tgL cs os ks gs bs d t) j:=by
 have hk:=aTz V j j0 j1
 rw [aho j0 j1];exact ⟨(aea hk).1,(asI hk rfl).2.1,((aQ1<|jF V).2 j j0 j1).2⟩
def atF {r:Rw}{m:Y}(hr:r∈Cy cs gs (M cs)) (hm:m∈r.2):0<=m/\m<(M gs:Y):=(row_mem hr).2.1 m hm
def avz (V:Vd cs os ks gs bs l rs d t n):PG (Cy cs gs<|M cs) (DO gs l t) (FJ gs rs (HT cs os ks gs bs l d t)<|M gs)=true:=
 apC (λr hr m hm=>by
  have hm:=atF hr hm
  have:=aaK V hm.1 hm.2
  exact ⟨this.1,this.2.1⟩) (aou<|jF V)
def agU {i a:Y}(h:nwB gs l t i a=U):Cw (AG gs i)<a:=by
 unfold nwB at h;rw [AY] at h
 have h1:=h.1
 simp only [D2,DC] at h1;omega
end
abbrev Ld:=Int×Ra
def aWP:qT (List Ld):=⟨⟩
def Du (l:aWP) (i:aWe):Ld:=l.getD i<|Ty.dflt<|.pair A7 Ap
def XV (l:aWP) (i:aWe) (v:Y):aWP:=l.set i ((AA<|(l.getD i<|Ty.dflt<|.pair A7 Ap).1+v),(l.getD i<|Ty.dflt<|.pair A7 Ap).2)
def Ul (l:aWP) (i:aWe) (v:Y):aWP:=letI a:=l.getD i<|Ty.dflt<|.pair A7 Ap;l.set i (a.1,((AA<|a.2.1+v),a.2.2))
def up3 (l:aWP) (i:aWe) (v:Y):aWP:=letI a:=l.getD i<|Ty.dflt<|.pair A7 Ap;l.set i (a.1,(a.2.1,(AA<|a.2.2+v)))
def aD9 {l:aWP}{i:aWe}{v:Y}:M (XV l i v)=M l:=by simp [XV]
def aD8 {l:aWP}{i:aWe}{v:Y}:M (Ul l i v)=M l:=by simp [Ul]
def aD7 {l:aWP}{i:aWe}{v:Y}:M (up3 l i v)=M l:=by simp [up3]
def adE (ph v:Y) (e:Ld):Ld:=
 (if (Bk J ph 1 !=0)=U then AA (e.1+v) else e.1,
  (if (Bk J ph 2 !=0)=U then AA (e.2.1+v) else e.2.1,
   if (Bk J ph 4 !=0)=U then AA (e.2.2+v) else e.2.2))
def adP (ph v:Y) (l:aWP) (i:aWe):aWP:=l.set i<|adE ph v<|Du l i
def aIh {l:aWP}{i j:aWe}{e:Ld}(h:i<M l):Du (l.set i e) j=if i=j then e else Du l j:=by
 unfold Du;rw [DJ,DJ,IN]
 by_cases hij:i=j
 ·subst hij
  rw [AD rfl,AD rfl,AD h];rfl
 ·grind
def apr {l:aWP}{i:aWe}(h:i<M l):l.set i (Du l i)=l:=by
 unfold Du
 simp_all
def awV {l:aWP}{i:aWe}{v:Y}:XV l i v=l.set i (AA<|(Du l i).1+v,(Du l i).2):=rfl
def awU {l:aWP}{i:aWe}{v:Y}:Ul l i v=l.set i ((Du l i).1,(AA<|(Du l i).2.1+v,(Du l i).2.2)):=rfl
def awT {l:aWP}{i:aWe}{v:Y}:up3 l i v=l.set i ((Du l i).1,((Du l i).2.1,AA<|(Du l i).2.2+v)):=rfl
def aiX {ph v:Y}{l:aWP}{i:aWe}(h:i<M l):adP ph v l i=
  (let a:=if (Bk J ph 1 !=0)=U then XV l i v else l
   let b:=if (Bk J ph 2 !=0)=U then Ul a i v else a
   if (Bk J ph 4 !=0)=U then up3 b i v else b):=by
 unfold adP adE
 by_cases h1:(Bk J ph 1 !=0)=U<;>by_cases h2:(Bk J ph 2 !=0)=U<;>by_cases h4:(Bk J ph 4 !=0)=U<;>
  simp only [h1,h2,h4,Bp,IJ,FQ,awV,awU,awT,aIh h,List.set_set]<;>exact apr h
def awF {ph v:Y}{l:aWP}{i:aWe}:M (adP ph v l i)=M l:=by simp [adP]
def ldW:aWe->aWl->Y->Y->Y->aWP->List Ld
 |0,_,_,_,_,l=>l
 |k+1,cs,ph,v,c,l=>if c>=0 then ldW k cs ph v (Ae cs c).2.1 (adP ph v l c.toNat) else l
def HD (cs:aWl) (ph v c:Y) (l:aWP):aWP:=ldW (c.toNat+2) cs ph v c l
def aSv {cs:aWl}{ph v:Y}(hu:Fh cs=U):∀(k k':aWe) (c:Y) (l:aWP),c<M cs->(c+1).toNat<k->(c+1).toNat<k'->ldW k cs ph v c l=ldW k' cs ph v c l
 |0,_,_,_,_,h,_=>A0
 |_+1,0,_,_,_,_,h=>A0
 | k+1,k'+1,c,l,hc,h,h'=>by
  simp only [ldW]
  by_cases h0:c>=0
  ·rw [AD h0,AD h0]
   have:=Qo hu h0 hc
   exact aSv hu k k' _ _ A0 A0 A0
  ·grind
def ahZ {cs:aWl}{ph v c:Y}{l:aWP}(hu:Fh cs=U) (hc:c<M cs):HD cs ph v c l=if c>=0 then HD cs ph v (Ae cs c).2.1 (adP ph v l c.toNat) else l:=by
 unfold HD;rw [ldW]
 by_cases h0:c>=0
 ·rw [AD h0,AD h0]
  have:=Qo hu h0 hc
  rw [aSv hu (c.toNat+1) ((Ae cs c).2.1.toNat+2) (Ae cs c).2.1 _ A0 A0 A0]
 ·grind
def aRJ {cs:aWl}{o:Y}(hu:Fh cs=U):∀(k:aWe) (c:Y),c<M cs->GU k cs o c=U->o<=c
 |0,_,_,h=>by simp [GU] at h
 | k+1,c,hc,h=>by
  simp only [GU] at h;split at h
  ·rename_i h0
   rw [Cj] at h;rcases h with h|h
   ·have:=eq_of_beq h
    omega
   ·have h1:=Qo hu h0 hc
    have:=aRJ hu k _ A0 h
    omega
  ·cases h
def aSw {cs:aWl}{ph v:Y}(hu:Fh cs=U) {o:aWe}:∀(k:aWe) (c:Y) (l:aWP),c<M cs->M l=M cs->M (ldW k cs ph v c l)=M cs/\Du (ldW k cs ph v c l) o=if GU k cs (o:Y) c=U then adE ph v (Du l o) else Du l o
 |0,c,l,hc,hl=>⟨hl,by simp [ldW,GU]⟩
 | k +1,c,l,hc,hl=>by
  simp only [ldW]
  by_cases h0:c>=0
  ·have e0:GU (k+1) cs (o:Y) c=(c==(o:Y) ||GU k cs (o:Y) (Ae cs c).2.1):=by
    show (if c>=0 then _ else _)=_
    grind
   rw [AD h0,e0]
   have h1:=Qo hu h0 hc
   have hct:c.toNat<M l:=A0
   obtain ⟨q1,q2⟩:=aSw hu (o:=o) k (Ae cs c).2.1 (adP ph v l c.toNat) A0 (by rw [awF];exact hl)
   refine ⟨q1,?_⟩;rw [q2];unfold adP;rw [aIh hct]
   by_cases hco:c.toNat=o
   ·have hb:(c==(o:Y))=true:=A8
    have hn:GU k cs (o:Y) (Ae cs c).2.1=false:=by
     cases hq:GU k cs (o:Y) (Ae cs c).2.1 with
     |false=>rfl
     |true=>
      have:=aRJ hu k _ A0 hq
      omega
    rw [hb,hn,AD hco,hco]
    simp
   ·have hb:(c==(o:Y))=false:=by
     cases hq:c==(o:Y) with
     |false=>rfl
     |true=>
      have:=eq_of_beq hq
      omega
    grind
  ·have e0:GU (k+1) cs (o:Y) c=false:=by
    show (if c>=0 then _ else _)=_
    grind
   grind
def uw {cs:aWl}{ph v c:Y}{l:aWP}(hu:Fh cs=U) (hc:c<M cs) (hl:M l=M cs) (o:aWe):M (HD cs ph v c l)=M cs/\Du (HD cs ph v c l) o=if Fk cs (o:Y) c=U then adE ph v (Du l o) else Du l o:=
 aSw hu _ c l hc hl
def Jc (cs:aWl) (gs:aWh) (am:aWd):aWe->List Ld
 |0=>aq (M cs) (Ty.dflt<|.pair A7 Ap)
 |k+1=>HD cs (AG gs k).2.2.1 (gi am k) (AG gs k).2.1<|Jc cs gs am k
def EN (am:aWd):aWd->Int
 | []=>0
 |k::l=>gi am k+EN am l
def aIG {am:aWd}:∀ {l m:aWd},EN am (l++m)=EN am l+EN am m
 | [],m=>by simp [EN]
 |k::l,m=>by
  rw [KG];simp only [EN];rw [aIG];omega
def aQG {am:aWd}{b:Y}:∀ {l:aWd},(∀k∈l,0<=gi am k/\gi am k<=b)->0<=EN am l/\EN am l<=b*(M l:Y)
 | [],_=>by simp [EN]
 |k::l,h=>by
  have h1:=h k AI
  have h2:=aQG (b:=b) λj hj=>h j<|N7 _ hj
  simp only [EN,Bj,Int.natCast_add,Int.mul_add];omega
def ako {ph:Y}:usA ph 0=(Bk J ph 1 !=0):=rfl
def akn {ph:Y}:usA ph 1=(Bk J ph 2 !=0):=rfl
def akm {ph:Y}:usA ph 2=(Bk J ph 4 !=0):=rfl
def avk {gs:aWh}{p:Y}{l m:aWd}:Bx gs p (l++m)=Bx gs p l++Bx gs p m:=by simp [Bx]
def avi {gs:aWh}{p k:Y}:Bx gs p [k]=if usA (AG gs k).2.2.1 p=U then [k] else []:=by
 unfold Bx;rw [N8];rfl
def ldO (cs:aWl) (gs:aWh) (am:aWd) (o:Y) (k:aWe):Ld:=letI a:=Cv cs gs o k;(EN am<|Bx gs 0 a,(EN am<|Bx gs 1 a,EN am<|Bx gs 2 a))
def rP {cs:aWl}{gs:aWh}{am:aWd}{o:Y}{k:aWe}{p:Y}:EN am (Bx gs p<|Cv cs gs o<|k+1)=EN am (Bx gs p<|Cv cs gs o k)+(if Fk cs o (AG gs k).2.1=U then (if usA (AG gs k).2.2.1 p=U then gi am k else 0) else 0):=by
 rw [aFE,avk,aIG]
 by_cases h:Fk cs o (AG gs k).2.1=U
 ·rw [AD h,AD h,avi]
  split<;>simp [EN]
 ·rw [AE h,AE h]
  simp [Bx,EN]
def rZ {cs:aWl}{gs:aWh}{am:aWd}(hu:Fh cs=U) (ha:atB cs gs=U):∀k:aWe,k<=M gs->M (Jc cs gs am k)=M cs
 |0,_=>by simp [Jc]
 |k+1,hk=>(uw hu (gX ha A0 A0) (rZ hu ha k A0) 0).1
def aSx {cs:aWl}{gs:aWh}{am:aWd}(hu:Fh cs=U) (ha:atB cs gs=U) (hg:M gs<=1000) (hm:∀k:aWe,k<M gs->0<=gi am k/\gi am k<=80):
  ∀k:aWe,k<=M gs->M (Jc cs gs am k)=M cs/\∀o:aWe,o<M cs->Du (Jc cs gs am k) o=ldO cs gs am o k
 |0,_=>⟨by simp [Jc],λo ho=>by
  simp only [Jc,ldO,Du];rw [DJ,V9,AD ho];rfl⟩
 | k+1,hk=>by
  obtain ⟨q1,q2⟩:=aSx hu ha hg hm k A0
  have hc:(AG gs k).2.1<(M cs:Y):=gX ha A0 A0
  refine ⟨(uw hu hc q1 0).1,λo ho=>?_⟩
  show Du (HD _ _ _ _ _) o=_
  rw [(uw hu hc q1 o).2,q2 o ho]
  have bd:∀p:Y,0<=EN am (Bx gs p<|Cv cs gs o k)/\EN am (Bx gs p<|Cv cs gs o k)<=80000:=λp=>by
   have h1:=aQG (am:=am) (b:=80) (l:=Bx gs p<|Cv cs gs o k) (λj hj=>by
    have h2:=dJ (CS.1 hj).1
    have:=hm j.toNat A0
    rwa [CP h2.1] at this)
   have h2:=aJt (gs:=gs) (p:=p) (l:=Cv cs gs o k)
   have h3:=pe (cs:=cs) (gs:=gs) (o:=o) (k:=k)
   omega
  have hv:=hm k A0
  have b0:=bd 0
  have b1:=bd 1
  have b2:=bd 2
  unfold ldO;rw [rP,rP,rP]
  by_cases h:Fk cs o (AG gs k).2.1=U
  ·rw [AD h,AD h,AD h,AD h]
   unfold adE;rw [<-ako,<-akn,<-akm];dsimp only;rw [AJ,AJ,AJ]
   grind
  ·grind
abbrev BP:Ty:=.pair A7 AQ
abbrev Lk:=Int×Le
def aWN:qT (List Lk):=⟨⟩
def Ea (l:aWN) (n:Y):Lk:=l.getD n.toNat (0,0,0,0,0,0)
structure PK where
 cs:aWl
 os:aWg
 ks:aWr
 gs:aWh
 bs:aWs
 tk:Y
 up:aWo
 ls:aWn
 se:Y
 fl:aWd
 ra:aWJ
 nx:Y
 st:aWE
 ca:aW0
 mi:aWY
 me:aW2
 dm:aWB
 lk:aWN
 (dr tg:aWd)
def pB (p:PK):AB:=⟨[.xl Af p.cs,.xl .str p.os,.xl Al p.ks,.xl Ah p.gs,.xl Am p.bs,.v<|ag J p.tk,.v<|.bool p.up,.xl AQ p.ls,.v<|ag J p.se,.xl (.int aw) p.fl,.xl Ap p.ra,.v<|ag J p.nx,.xl B7 p.st,.xl AQ p.ca,.xl B9 p.mi,.xl BS p.me,.xl Aw p.dm,.xl BP p.lk,.xl A7 p.dr,.xl A7 p.tg],47,.cl,X⟩
instance:Coe PK LV:=⟨λp=> .agg [.xl Af p.cs,.xl .str p.os,.xl Al p.ks,.xl Ah p.gs,.xl Am p.bs,.v<|ag J p.tk,.v<|.bool p.up,.xl AQ p.ls,.v<|ag J p.se,.xl (.int aw) p.fl,.xl Ap p.ra,.v<|ag J p.nx,.xl B7 p.st,.xl AQ p.ca,.xl B9 p.mi,.xl BS p.me,.xl Aw p.dm,.xl BP p.lk,.xl A7 p.dr,.xl A7 p.tg]⟩
def rQ (b:aWi) (q:aWe):PK:=letI a:=CW b q;⟨Ar Af<|BF a 0,Ar .str<|BF a 1,Ar Al<|BF a 2,Ar Ah<|BF a 3,Ar Am<|BF a 4,gI<|BF a 5,gBo<|BF a 6,Ar AQ<|BF a 7,gI<|BF a 8,Ar (.int aw)<|BF a 9,Ar Ap<|BF a 10,gI<|BF a 11,Ar B7<|BF a 12,Ar AQ<|BF a 13,Ar B9<|BF a 14,Ar BS<|BF a 15,Ar Aw<|BF a 16,Ar BP<|BF a 17,Ar A7<|BF a 18,Ar A7<|BF a 19⟩
def rV (b:aWi) (q j k:aWe) (e:Ty):List e.D:=bif Nat.beq k 0 then Ar e (BF (CW b q) j) else gVe e (CW b k)
def rB (b:aWi) (q acs als afl ara ast aca ami ame adm alk adr atg:aWe):PK:=letI a:=CW b q;⟨rV b q 0 acs Af,Ar .str<|BF a 1,Ar Al<|BF a 2,Ar Ah<|BF a 3,Ar Am<|BF a 4,gI<|BF a 5,gBo<|BF a 6,rV b q 7 als AQ,gI<|BF a 8,rV b q 9 afl<|.int aw,rV b q 10 ara Ap,gI<|BF a 11,rV b q 12 ast B7,rV b q 13 aca AQ,rV b q 14 ami B9,rV b q 15 ame BS,rV b q 16 adm Aw,rV b q 17 alk BP,rV b q 18 adr A7,rV b q 19 atg A7⟩
def rF (b:aWi):PK:=rB b 16 4 5 6 7 8 9 10 11 12 13 14 15
def rT (b:aWi):PK:=rB b 16 4 0 0 0 8 9 10 11 0 0 14 15
abbrev _root_.Go.Sx.T.pc {α:Type}(p:PK) (t:T α):T α:=.rl p.cs<|.rl p.ls<|.rl p.fl<|.rl p.ra<|.rl p.st<|.rl p.ca<|.rl p.mi<|.rl p.me<|.rl p.dm<|.rl p.lk<|.rl p.dr<|.rl p.tg t
abbrev _root_.Go.Sx.T.pd {α:Type}(p:PK) (t:T α):T α:=.rl p.cs<|.rl p.st<|.rl p.ca<|.rl p.mi<|.rl p.me<|.rl p.dr<|.rl p.tg t
abbrev _root_.Go.Sx.T.pb {α:Type}(p:PK) (t:T α):T α:=.rl p.st<|.rl p.ca<|.rl p.mi<|.rl p.me<|.rl p.dm<|.rl p.lk<|.rl p.dr<|.rl p.tg t
abbrev _root_.Go.Sx.T.pa {α:Type}(p:PK) (t:T α):T α:=.rl p.cs<|.rl p.ls<|.rl p.fl<|.rl p.ra t
instance:Coe (List Lk) LV:=⟨.xl BP⟩
namespace PK
variable (p : PK)
def sV:aWo:=BH p.cs p.os p.ks p.gs p.bs
end PK
def GQ (c:Cd) (t:Y):Cd:=(c.1,c.2.1,t,c.2.2.2)
def E0 (cs:aWl) (tg:aWd):aWe->List Cd
 |0=>cs
 |k+1=>(E0 cs tg k).set k<|GQ (Ae (E0 cs tg k) k)<|gi tg k
def CY (gs:aWh) (st:aWE) (i k n m:Y):aWE:=if sE (AG gs i) (BW st i) k n m=0 then st.set i.toNat (sN (AG gs i) (BW st i) k n m) else st
def Ly (gs:aWh) (lk:aWN) (t:Y) (st:aWE):aWe->List St
 |0=>st
 |k+1=>if (Ea lk k).1>t then Ly gs lk t st k else CY gs (Ly gs lk t st k) (Ea lk k).2.2.1 7 (Ea lk k).2.2.2.1 (Ea lk k).2.2.2.2.2
def Lo (gs:aWh) (st:aWE) (i:Y):aWe->List St
 |0=>st
 |k+1=>CY gs (Lo gs st i k) i 8 0 0
def L3 (gs:aWh) (dr:aWd) (t:Y) (st:aWE):aWe->List St
 |0=>st
 |k+1=>if HW t (gi dr k)=0/\HW (t+1) (gi dr k)=0 then Lo gs (L3 gs dr t st k) k (BE (t+1) (gi dr k)-BE t (gi dr k)).toNat else L3 gs dr t st k
structure DW where
 st:aWE
 mi:aWY
 me:aW2
 dw:aWd
def H6 (gs:aWh) (ca:aW0) (s:DW) (i:Y):DW:=
 if (Be ca i).2.2.1=0 then s
 else if JU (Be ca i) (Cs s.mi i) (AG gs i).2.2.1 (Bo (AG gs i)<|BW s.st i)=0 then
  let a:=Fg (Be ca i) (Cs s.mi i) (AG gs i).2.2.1<|Bo (AG gs i)<|BW s.st i
  let o:=cnt<|Ee (Be ca i) (Cs s.mi i) (AG gs i).2.2.1<|Bo (AG gs i)<|BW s.st i
  ⟨if a>Bo (AG gs i) (BW s.st i) then CY gs s.st i 6 2 0 else s.st,s.mi.set i.toNat<|K8 (Be ca i) (Cs s.mi i) (AG gs i).2.2.1<|Bo (AG gs i)<|BW s.st i,
   if GR (gMe s.me i) a o=0 then s.me.set i.toNat (IF (gMe s.me i) a o) else s.me,s.dw.set i.toNat a⟩
 else s
def FL (gs:aWh) (ca:aW0) (s:DW):aWe->DW
 |0=>s
 |k+1=>H6 gs ca (FL gs ca s k) k
def Wb {cs:aWl}{k:aWe}{x:Cd}{j:aWe}(hk:k<M cs):Ae (cs.set k x) (j:Y)=if j=k then x else Ae cs j:=by
 unfold Ae
 by_cases e:j=k
 ·grind
 ·grind
def Qj {cs:aWl}{k:aWe}(hk:k<M cs):Ae cs (k:Y)=cs[k]:=by
 unfold Ae
 simp [hk]
def cw {cs:aWl}{os:aWg}{ks:aWr}{gs:aWh}{bs:aWs}(h:BH cs os ks gs bs=U) {k:aWe}(hk:k<M cs) {t:Y}(ht:1<=t/\t<=1000):
  BH (cs.set k<|GQ (Ae cs k) t) os ks gs bs=true:=by
 have hm:(cs.set k<|GQ (Ae cs k) t).map (·.1)=cs.map (·.1):=by
  rw [List.map_set]
  have:(GQ (Ae cs k) t).1=(cs.map (·.1))[k]' A8:=by
   rw [Qj hk];simp [GQ]
  rw [this,List.set_getElem_self]
 unfold BH Lb vpB at h|-;rw [hm,C3];simp only [AY] at h|-;obtain ⟨h1,h2,h3,h4,h5⟩:=h;refine ⟨h1,h2,h3,?_,h5⟩;rw [Dx] at h4|-;intro j hj
 have hc:=h4 j hj
 rw [Wb hk];split
 ·rename_i e
  subst e;unfold I5 GQ at*;simp only [AY] at hc|-;exact ⟨hc.1,BV.2 ht,hc.2.2⟩
 ·exact hc
def BJ (l:aWd):Prop:=∀x∈l,0<=x/\x<=255
def nh (x b:Y):Y:=IntKind.u32.wrap<|aLK ax x (IntKind.u32.wrap b)*16777619
def SB (x:Y) (l:aWd):Y:=l.foldl nh x
def P8 (ps:aWk):Y:=ps.foldl SB 2166136261
def D6 (n:Y):aWd:=[IntKind.u8.wrap<|n.fdiv<|2^24,IntKind.u8.wrap<|n.fdiv<|2^16,IntKind.u8.wrap<|n.fdiv<|2^8,IntKind.u8.wrap n]
def nm4 (a b c d:Y):Y:=DY ax (DY ax (DY ax (IntKind.u32.wrap<|IntKind.u32.wrap a*2^24)<|IntKind.u32.wrap<|IntKind.u32.wrap b*2^16)<|IntKind.u32.wrap<|IntKind.u32.wrap c*2^8)<|IntKind.u32.wrap d
def H7 (l:aWd):Y:=nm4 (gi l 0) (gi l 1) (gi l 2)<|gi l 3
def KA (d:aWd):aWd:=[IntKind.u8.wrap<|(M d:Y).fdiv<|2^8,IntKind.u8.wrap (M d:Y)]
def Bw (d:aWd):aWd:=80::(KA d++(D6 (P8 [KA d,d])++d))
def Gq {n:Y}:IntKind.u8.wrap n=n%256:=aOh
def T1 {n:Y}:IntKind.u32.wrap n=n%4294967296:=aOh
def avd (x b:Y):0<=nh x b/\nh x b<4294967296:=by unfold nh;rw [T1];omega
def avf {x:Y}(h:0<=x/\x<4294967296) (l:aWd):0<=SB x l/\SB x l<4294967296:=by
 induction l generalizing x with
 |nil=>exact h
 |cons b l ih=>exact ih<|avd x b
def ave (ps:aWk):0<=P8 ps/\P8 ps<4294967296:=by
 have:∀(ps:aWk) (x:Y),0<=x/\x<4294967296->0<=ps.foldl SB x/\ps.foldl SB x<4294967296:=by
  intro ps
  induction ps with
  |nil=>intro x h;exact h
  |cons p ps ih=>intro x h;exact ih _<|avf h p
 exact this ps _ Ab
def gP {a b k:aWe}(h:b<2^k):a*2^k |||b=a*2^k+b:=by
 rw [Nat.mul_comm,<-Nat.two_pow_add_eq_or_of_lt h]
def ry {a b:aWe}(ha:a<4294967296) (hb:b<4294967296):DY ax (a:Y) (b:Y)=((a |||b:aWe):Y):=by
 have h:=Nat.or_lt_two_pow (n:=32) ha hb
 unfold DY;rw [T1]
 have e:∀n:aWe,n<4294967296->(BitVec.ofInt (IntKind.bits ax) (n:Y)).toNat=n:=λn hn=>by
  show (BitVec.ofInt 32 (n:Y)).toNat=n
  grind
 rw [BitVec.toNat_or,e a ha,e b hb];omega
def agj {a b c d:Y}(ha:0<=a/\a<=255) (hb:0<=b/\b<=255) (hc:0<=c/\c<=255) (hd:0<=d/\d<=255):nm4 a b c d=a*16777216+b*65536+c*256+d:=by
 obtain ⟨a,rfl⟩:=Q2 ha.1;obtain ⟨b,rfl⟩:=Q2 hb.1;obtain ⟨c,rfl⟩:=Q2 hc.1;obtain ⟨d,rfl⟩:=Q2 hd.1;unfold nm4
 have e1:IntKind.u32.wrap (IntKind.u32.wrap (a:Y)*2^24)=((a*2^24:aWe):Y):=yw
 have e2:IntKind.u32.wrap (IntKind.u32.wrap (b:Y)*2^16)=((b*2^16:aWe):Y):=yw
 have e3:IntKind.u32.wrap (IntKind.u32.wrap (c:Y)*2^8)=((c*2^8:aWe):Y):=yw
 have e4:IntKind.u32.wrap (d:Y)=((d:aWe):Y):=by rw [T1];omega
 rw [e1,e2,e3,e4,ry A0 A0,gP A0,
  ry A0 A0,show a*2^24+b*2^16=(a*2^8+b)*2^16 by omega,gP A0,
  ry A0 A0,show (a*2^8+b)*2^16+c*2^8=(a*2^16+b*2^8+c)*2^8 by omega,gP A0]
 omega
def WD (n:Y):BJ (D6 n):=by
 intro x hx;simp only [D6,BA,Bu,Bs] at hx;rcases hx with rfl|rfl|rfl|rfl<;>rw [Gq]<;>omega
def aIk {n:Y}(h:0<=n/\n<4294967296):H7 (D6 n)=n:=by
 have e:H7 (D6 n)=nm4 (IntKind.u8.wrap<|n.fdiv<|2^24) (IntKind.u8.wrap<|n.fdiv<|2^16) (IntKind.u8.wrap<|n.fdiv<|2^8) (IntKind.u8.wrap n):=rfl
 rw [e,agj bK bK bK bK,Gq,Gq,Gq,Gq,
  Q7 _ Ab,Q7 _ Ab,Q7 _ Ab]
 omega
def G6 (b:aWd) (f:aWe):aWe:=(gi b<|(f:Y)+1).toNat*256+(gi b<|(f:Y)+2).toNat
def rcF (b:aWd) (f:aWe):aWo:=an (f+7<=M b)&&an (f+7+G6 b f<=M b)
def HS (b:aWd) (f:aWe):aWd:=(b.drop<|f+7).take<|G6 b f
def rcG (b:aWd) (f:aWe):aWo:=rcF b f&&(P8 [(b.drop<|f+1).take 2,HS b f]==H7 ((b.drop<|f+3).take 4))
def HX (b:aWd):aWe->aWe->List (List Int)×Nat×Bool
 |0,f=>([],f,U)
 |n+1,f=>if f<M b/\gi b (f:Y)=80 then (if rcG b f then (HS b f::(HX b n<|f+7+G6 b f).1,(HX b n<|f+7+G6 b f).2) else ([],f,X)) else ([],f,U)
def XC {pre l:aWd}{k:aWe}:gi (pre++l) ((M pre+k:aWe):Y)=l.getD k 0:=by
 unfold gi
 grind
def qx {pre l:aWd}{k:aWe}:(pre++l).drop (M pre+k)=l.drop k:=by
 simp_all
def MJ (d:aWd):M (Bw d)=7+M d:=by simp [Bw,KA,D6];omega
def atJ {pre rest d:aWd}(hd:M d<=65535):let b:=pre++(Bw d++rest);gi b (M pre:Y)=80/\M pre<M b/\G6 b (M pre)=M d/\HS b (M pre)=d/\rcG b (M pre)=true:=by
 intro b
 have hl:M b=M pre+(7+M d+M rest):=by simp [b,MJ]
 have g0:gi b (M pre:Y)=80:=XC (k:=0)
 have hn:G6 b (M pre)=M d:=by
  have e1:gi b ((M pre:Y)+1)=IntKind.u8.wrap ((M d:Y).fdiv<|2^8):=XC (k:=1)
  have e2:gi b ((M pre:Y)+2)=IntKind.u8.wrap (M d:Y):=XC (k:=2)
  unfold G6;rw [e1,e2,Gq,Gq,Q7 _ Ab];omega
 have d7:b.drop (M pre+7)=d++rest:=by
  rw [qx]
  simp [Bw,KA,D6]
 have hD:HS b (M pre)=d:=by
  unfold HS
  grind
 have d1:(b.drop<|M pre+1).take 2=KA d:=by
  rw [qx]
  simp [Bw,KA]
 have d3:(b.drop<|M pre+3).take 4=D6 (P8 [KA d,d]):=by
  rw [qx]
  simp [Bw,KA,D6]
 refine ⟨g0,A0,hn,hD,?_⟩;unfold rcG rcF;rw [hn,hD,d1,d3,aIk<|ave _]
 simp;omega
def BR (ds:aWk):aWd:=ds.flatMap Bw
def aFg {rest:aWd}(hr:gi rest 0≠80):∀(ds:aWk) (pre:aWd) (n:aWe),(∀d∈ds,M d<=65535)->M ds<n->
  HX (pre++(BR ds++rest)) n (M pre)=(ds,M pre+M (BR ds),U)
 | [],pre,n,_,hn=>by
  obtain ⟨n,rfl⟩:∃m,n=m+1:=⟨n-1,A0⟩;simp only [BR,List.flatMap_nil,EX,HX];rw [AE]
  ·simp
  ·rintro ⟨_,h⟩
   rw [show ((M pre:aWe):Y)=((M pre+0:aWe):Y) by simp,XC] at h
   exact hr h
 |d::ds,pre,n,hd,hn=>by
  obtain ⟨n,rfl⟩:∃m,n=m+1:=⟨n-1,A0⟩
  have e:pre++(BR (d::ds)++rest)=pre++(Bw d++(BR ds++rest)):=by simp [BR]
  rw [e];obtain ⟨h1,h2,h3,h4,h5⟩:=atJ (pre:=pre) (rest:=BR ds++rest)<|hd d AI;simp only [HX];rw [AD ⟨h2,h1⟩,AD h5,h3,h4]
  have e2:pre++(Bw d++(BR ds++rest))=(pre++Bw d)++(BR ds++rest):=AI
  have e3:M pre+7+M d=M (pre++Bw d):=by simp [MJ];omega
  rw [e2,e3,aFg hr ds (pre++Bw d) n (λx hx=>hd x A8) A8]
  simp [BR,MJ];omega
abbrev Bm:Ty:=.pair A7<|.sl<|.int aw
abbrev Fl:=Int×List Int
def aWC:qT (List Fl):=⟨⟩
def GP (l:aWC) (n:Y):Fl:=l.getD n.toNat (0,[])
def Hg (se:Y) (l:aWd):aWo:=letI a:=(M l:Y);decide (se>=1)&&(an (se<=512)&&(an (a>=se)&&(an (a<=4096)&&(a.tmod se==0))))
def NU {se:Y}{l:aWd}:Hg se l=U↔1<=se/\se<=512/\se<=(M l:Y)/\M l<=4096/\(M l:Y).tmod se=0:=by
 simp [Hg];omega
def FD (se:Y) (l:aWd):aWo:=Hg se l&&(((M l:Y).tdiv se).tmod 2==0&&an ((M l:Y)>=32))
def MQ {se:Y}{l:aWd}:FD se l=U↔Hg se l=U/\((M l:Y).tdiv se).tmod 2=0/\32<=M l/\M l<=4096/\1<=se:=by
 unfold FD;simp only [AY,D3,Aa];refine ⟨λ⟨h1,h2,h3⟩=>⟨h1,h2,A0,(NU.1 h1).2.2.2.1,(NU.1 h1).1⟩,λ⟨h1,h2,h3,_,_⟩=>⟨h1,h2,A0⟩⟩
def Bn (l:aWd) (w:Y):aWd:=if w=0 then l.take (M l / 2) else (l.drop<|M l / 2).take (M l / 2)
def cu (l:aWd) (w:Y):M (Bn l w)=M l / 2:=by
 unfold Bn
 grind
def JM (l:aWd) (w:Y):Y:=H7<|((Bn l w).drop 1).take 4
def Au (l:aWd):Y:=if gi (Bn l 0) 0=80 then (if gi (Bn l 1) 0=80 then (if JM l 1>JM l 0 then 1 else 0) else 0) else if gi (Bn l 1) 0=80 then 1 else 0
def I2 (l:aWd):Y:=if gi (Bn l 0) 0=80\/gi (Bn l 1) 0=80 then 0 else 4
def Dl (fl:aWd) (a:Y) (d:aWd):aWe->List Int
 |0=>fl
 |k+1=>(Dl fl a d k).set (a+k).toNat<|Bk aw (gi (Dl fl a d k)<|a+k)<|gi d k
def Dt (se:Y) (fl:aWd) (a:Y) (d:aWd):aWC:=(au<|M d+1).map λk=>(se,Dl fl a d k)
def FH (se:Y) (fl:aWd) (a:Y) (d:aWd):Y:=if (!Hg se fl ||an (a<0))=U then 1 else if a>(M fl:Y)-M d then 3 else 0
def Ey (fl:aWd) (a:Y):aWe->List Int
 |0=>fl
 |k+1=>(Ey fl a k).set (a+k).toNat 255
def erL (se:Y) (fl:aWd) (s:Y):aWC:=(au<|se.toNat+1).map λk=>(se,Ey fl (s*se) k)
def II (se:Y) (fl:aWd) (s:Y):Y:=if (!Hg se fl ||(an (s<0) ||an (s>=(M fl:Y).tdiv se)))=U then 1 else 0
def TA (fl:aWd) (a:Y) (d:aWd) (k:aWe):M (Dl fl a d k)=M fl:=by
 induction k with
 |zero=>rfl
 |succ k ih=>simp [Dl,ih]
def cy (fl:aWd) (a:Y) (k:aWe):M (Ey fl a k)=M fl:=by
 induction k with
 |zero=>rfl
 |succ k ih=>simp [Ey,ih]
def KU {a b:aWd}:BJ (a++b)↔BJ a/\BJ b:=by
 unfold BJ
 grind
def QW {x:Y}{l:aWd}:BJ (x::l)↔(0<=x/\x<=255)/\BJ l:=by
 unfold BJ
 simp
def fB (k:aWe):BJ (aq k 255):=by
 intro x hx;rw [SX] at hx;omega
def aJx {l:aWd}(h:BJ l) (i:aWe) {x:Y}(hx:0<=x/\x<=255):BJ (l.set i x):=by
 intro y hy;rcases OU hy with h1|h1
 ·exact h y h1
 ·grind
def avU (x y:Y):0<=Bk aw x y/\Bk aw x y<=255:=by
 unfold Bk;rw [Gq];omega
def tF {fl:aWd}(h:BJ fl) (a:Y) (d:aWd) (k:aWe):BJ (Dl fl a d k):=by
 induction k with
 |zero=>exact h
 |succ k ih=>exact aJx ih _<|avU _ _
def aTs {fl:aWd}(h:BJ fl) (a:Y) (k:aWe):BJ (Ey fl a k):=by
 induction k with
 |zero=>exact h
 |succ k ih=>exact aJx ih _ Ab
def aqC {x:Y}(h:0<=x/\x<=255):Bk aw 255 x=x:=by
 unfold Bk;rw [Gq];obtain ⟨n,rfl⟩:=Q2 h.1
 have e:(BitVec.ofInt (IntKind.bits aw) 255&&&BitVec.ofInt (IntKind.bits aw) (n:Y)).toNat=n:=by
  show (BitVec.ofInt 8 255&&&BitVec.ofInt 8 (n:Y)).toNat=n
  rw [show BitVec.ofInt 8 255=BitVec.allOnes 8 from rfl,BitVec.allOnes_and,BitVec.toNat_ofInt];omega
 omega
def aQt {pre post d:aWd}(hd:BJ d):∀k,k<=M d->Dl (pre++(aq (M d) 255++post)) (M pre:Y) d k=pre++(d.take k++(aq (M d-k) 255++post))
 |0,_=>by simp [Dl]
 | k+1,hk=>by
  simp only [Dl];rw [aQt hd k A0];obtain ⟨j,hj⟩:∃j,M d-k=j+1:=⟨M d-k-1,A0⟩
  have e1:(M pre:Y)+(k:Y)=((M pre+k:aWe):Y):=A0
  have ht:M (d.take k)=k:=DD
  have e2:gi (pre++(d.take k++(aq (M d-k) 255++post))) ((M pre:Y)+k)=255:=by
   rw [e1,XC,DJ,GY A0,ht,m6,hj,Zs];rfl
  have e3:gi d (k:Y)=d[k]:=IW A0
  rw [e2,e3,aqC<|hd _<|GZ _,e1,By,lS _ _ A0,xH,lS _ _ A0,ht,m6,hj,Zs];rw [show M d-(k+1)=j by omega,Zi<|Nat.lt_of_succ_le hk]
  grind
def fI {pre post d:aWd}(hd:BJ d):Dl (pre++(aq (M d) 255++post)) (M pre:Y) d (M d)=pre++(d++post):=by
 rw [aQt hd _<|At _];simp
def Dc (g:Y) (ds:aWk) (k:aWe):aWd:=(80::D6 g)++(BR ds++aq k 255)
def JH (w:Y) (A O:aWd):aWd:=if w=0 then A++O else O++A
def aFq (a b:aWk):BR (a++b)=BR a++BR b:=by simp [BR]
def qb (ds:aWk):M (BR ds)=(ds.map λd=>7+M d).sum:=by
 induction ds with
 |nil=>rfl
 |cons d ds ih=>simp only [BR,lO,BL,ET,List.sum_cons,MJ] at*;rw [ih]
def atS (ds:aWk):7*M ds<=M (BR ds):=by
 induction ds with
 |nil=>simp [BR]
 |cons d ds ih=>simp only [BR,lO,BL,Bj,MJ] at*;omega
def axz (d:aWd):BJ (KA d):=by
 intro x hx;simp only [KA,BA,Bu,Bs] at hx;rcases hx with rfl|rfl<;>rw [Gq]<;>omega
def aHl {d:aWd}(h:BJ d):BJ (Bw d):=by
 unfold Bw;rw [QW,KU,KU];exact ⟨Ab,axz d,WD _,h⟩
def ru {ds:aWk}(h:∀d∈ds,BJ d):BJ (BR ds):=by
 induction ds with
 |nil=>intro x hx;simp [BR] at hx
 |cons d ds ih=>
  have e:BR (d::ds)=Bw d++BR ds:=rfl
  rw [e,KU];exact ⟨aHl<|h d AI,ih λx hx=>h x A8⟩
def aiD (k:aWe) (rest:aWd) (h:gi rest 0≠80):gi (aq k 255++rest) 0≠80:=by
 cases k with
 |zero=>simpa using h
 |succ k=>simp [gi,Zs]
structure JI (fl:aWd) (w g:Y) (ds:aWk) (k:aWe) (O:aWd):Prop where
 eq:fl=JH w (Dc g ds k) O
 la:M (Dc g ds k)=1024
 lo:M O=1024
 bo:BJ O
 hw:w=0\/w=1
 hg:0<=g/\g<4294967296
 old:gi O 0=80->H7 ((O.drop 1).take 4)<g
 bd:∀d∈ds,BJ d/\M d<=65535
def Ou (g:Y) (ds:aWk) (k:aWe):M (Dc g ds k)=5+M (BR ds)+k:=by
 simp [Dc,D6];omega
def aIp {g:Y}(hg:0<=g/\g<4294967296) (ds:aWk) (k:aWe):H7 (((Dc g ds k).drop 1).take 4)=g:=by
 have:((Dc g ds k).drop 1).take 4=D6 g:=by simp [Dc,D6]
 rw [this,aIk hg]
def aFH {w:Y}{A O:aWd}(hA:M A=1024) (hO:M O=1024) (hw:w=0\/w=1):Bn (JH w A O) w=A/\Bn (JH w A O) (1-w)=O:=by
 have hl:∀a b:aWd,M a=1024->M b=1024->Bn (a++b) 0=a/\Bn (a++b) 1=b:=by
  intro a b ha hb
  have e:M (a++b) / 2=1024:=A8
  unfold Bn
  grind
 rcases hw with rfl|rfl
 ·exact hl A O hA hO
 ·have:=hl O A hO hA
  exact ⟨this.2,this.1⟩
namespace JI
variable {fl : List Int} {w g : Int} {ds : List (List Int)} {k : Nat} {O : List Int}
def len (h:JI fl w g ds k O):M fl=2048:=by
 rw [h.eq];unfold JH;split<;>simp [h.la,h.lo]
def bja (h:JI fl w g ds k O):BJ (Dc g ds k):=by
 unfold Dc;rw [KU,KU,QW];exact ⟨⟨Ab,WD _⟩,ru λd hd=>(h.bd d hd).1,fB _⟩
def FM (h:JI fl w g ds k O):BJ fl:=by
 rw [h.eq];unfold JH;split
 ·rw [KU];exact ⟨h.bja,h.bo⟩
 ·rw [KU];exact ⟨h.bo,h.bja⟩
def jv (h:JI fl w g ds k O):FD 512 fl=true:=by
 rw [MQ,NU,h.len]
 decide
def ar (h:JI fl w g ds k O):Bn fl w=Dc g ds k:=by rw [h.eq];exact (aFH h.la h.lo h.hw).1
def ao (h:JI fl w g ds k O):Bn fl (1-w)=O:=by rw [h.eq];exact (aFH h.la h.lo h.hw).2
def gen (h:JI fl w g ds k O):JM fl w=g:=by unfold JM;rw [h.ar,aIp h.hg]
def cur (h:JI fl w g ds k O):Au fl=w/\I2 fl=0:=by
 have ha:=h.ar;have ho:=h.ao;have hgn:=h.gen
 have g80:gi (Dc g ds k) 0=80:=rfl
 have hold:gi (Bn fl<|1-w) 0=80->JM fl (1-w)<g:=by rw [ho];unfold JM;rw [ho];exact h.old
 unfold Au I2;rcases h.hw with rfl|rfl
 ·have e:(1:Y)-0=1:=rfl
  rw [e] at hold;rw [ha,hgn];refine ⟨?_,A8⟩;rw [AD g80];split
  ·omega
  ·rfl
 ·have e:(1:Y)-1=0:=rfl
  rw [e] at hold;rw [ha,hgn];refine ⟨?_,A8⟩;split
  ·omega
  ·rfl
end JI
def Ez (fl:aWd):List (List Int)×Nat×Bool:=HX (Bn fl<|Au fl) (M<|Bn fl<|Au fl) 5
def Br (se:Y) (fl:aWd):Y:=if FD se fl=X then 1 else if I2 fl≠0 then I2 fl else if (Ez fl).2.2=U then 0 else 11
def lkC (fl:aWd):aWo:=((Bn fl<|Au fl).drop (Ez fl).2.1).all λb=>b==255
def apF (se:Y) (fl d:aWd):aWo:=an (M d>65535) ||an (7+M d+(Ez fl).2.1>M fl / 2)
def GV (fl:aWd):Y:=Au fl*((M fl / 2:aWe):Y)+(Ez fl).2.1
def apB (fl d:aWd):aWd:=Dl fl (GV fl+1) ((Bw d).drop 1)<|M<|(Bw d).drop 1
def Hi (se:Y) (fl d:aWd):aWC:=Dt se fl (GV fl+1) ((Bw d).drop 1)++(Dt se (apB fl d) (GV fl) [80]).drop 1
def B2 (x:Le):aWd:=D6 x.1++(IntKind.u8.wrap x.2.1::IntKind.u8.wrap x.2.2.1::(D6 x.2.2.2.1++[IntKind.u8.wrap<|x.2.2.2.2.fdiv<|2^8,IntKind.u8.wrap x.2.2.2.2]))
def b4 (d:aWd) (i:Y):Y:=gi d i*16777216+gi d (i+1)*65536+gi d (i+2)*256+gi d (i+3)
def GN (d:aWd):Le:=(b4 d 0,gi d 4,gi d 5,b4 d 6,gi d 10*256+gi d 11)
def KW (x:Le):M (B2 x)=12:=rfl
def iP (n:Y):0<=IntKind.u8.wrap n/\IntKind.u8.wrap n<=255:=bK
def tG (x:Le):BJ (B2 x):=by
 unfold B2;rw [KU,QW,QW,KU,QW,QW];exact ⟨WD _,iP _,iP _,WD _,iP _,iP _,λx hx=>QK⟩
def aIM {n:Y}(h:0<=n/\n<4294967296):IntKind.u8.wrap (n.fdiv<|2^24)*16777216+IntKind.u8.wrap (n.fdiv<|2^16)*65536+IntKind.u8.wrap (n.fdiv<|2^8)*256+IntKind.u8.wrap n=n:=by
 rw [Gq,Gq,Gq,Gq,Q7 _ Ab,Q7 _ Ab,Q7 _ Ab];omega
def aqi {x:Le}(h:DI x=U):GN (B2 x)=x:=by
 obtain ⟨nu,co,am,fr,tk⟩:=x;obtain ⟨h1,h2,h3,h4,h5⟩:=LQ.1 h;simp only at h1 h2 h3 h4 h5
 have e1:b4 (B2 (nu,co,am,fr,tk)) 0=nu:=aIM (n:=nu) A0
 have e2:b4 (B2 (nu,co,am,fr,tk)) 6=fr:=aIM (n:=fr) A0
 have e3:gi (B2 (nu,co,am,fr,tk)) 4=co:=by show IntKind.u8.wrap co=co;rw [Gq];omega
 have e4:gi (B2 (nu,co,am,fr,tk)) 5=am:=by show IntKind.u8.wrap am=am;rw [Gq];omega
 have e5:gi (B2 (nu,co,am,fr,tk)) 10*256+gi (B2 (nu,co,am,fr,tk)) 11=tk:=by
  show IntKind.u8.wrap (tk.fdiv<|2^8)*256+IntKind.u8.wrap tk=tk
  rw [Gq,Gq,Q7 _ Ab];omega
 unfold GN
 grind
def ldB (rs:aWk):aWo:=rs.all λd=>M d==12
def C2 (se:Y) (fl:aWd):Y:=if (!(se==512) || !((M fl:Y)==2048))=U then 1 else if Br se fl≠0 then Br se fl else if ldB (Ez fl).1=U then (if B4 ((Ez fl).1.map GN)=U then 0 else 9) else 9
def Ad (se:Y) (fl:aWd):aWn:=if C2 se fl=0 then (Ez fl).1.map GN else []
namespace JI
variable {fl : List Int} {w g : Int} {ds : List (List Int)} {k : Nat} {O : List Int}
def lk (h:JI fl w g ds k O):Ez fl=(ds,5+M (BR ds),U):=by
 unfold Ez;rw [h.cur.1,h.ar,h.la]
 have hp:=atS ds
 have hl:=h.la
 rw [Ou] at hl
 have:=aFg (rest:=aq k 255) (by have:=aiD k [] Ab;simpa using this) ds (80::D6 g) 1024 (λd hd=>(h.bd d hd).2) A0
 exact this
def Un (h:JI fl w g ds k O):Br 512 fl=0:=by
 unfold Br;rw [h.jv,h.cur.2,h.lk];rfl
def cl (h:JI fl w g ds k O):lkC fl=true:=by
 unfold lkC;rw [h.lk,h.cur.1,h.ar,BO];intro x hx
 have e:(Dc g ds k).drop (5+M (BR ds))=aq k 255:=by
  unfold Dc;rw [<-Ct];exact List.drop_left' (by simp [D6];omega)
 simp only [e,SX] at hx
 simp [hx.2]
def half (h:JI fl w g ds k O):M fl / 2=1024:=by rw [h.len]
def full (h:JI fl w g ds k O) {d:aWd}(hd:M d<=65535) (hk:7+M d<=k):apF 512 fl d=false:=by
 unfold apF;rw [h.half,h.lk]
 have hl:=h.la
 rw [Ou] at hl
 simp;omega
def afL (g:Y) (ds:aWk) {k:aWe}(n:aWe) (hk:n<=k):Dc g ds k=((80::D6 g)++BR ds)++(aq n 255++aq (k-n) 255):=by
 unfold Dc
 simp_all
def split (h:JI fl w g ds k O) (n:aWe) (hk:n<=k):∃pre post,fl=pre++(aq n 255++post)/\(M pre:Y)=GV fl/\
  ∀x:aWd,pre++(x++post)=JH w (((80::D6 g)++BR ds)++(x++aq (k-n) 255)) O:=by
 have hP:GV fl=w*1024+((5+M (BR ds):aWe):Y):=by unfold GV;rw [h.half,h.cur.1,h.lk];rfl
 have h5:(M ((80::D6 g)++BR ds):Y)=((5+M (BR ds):aWe):Y):=by simp [D6];omega
 have he:=h.eq
 rw [afL g ds n hk] at he;rcases h.hw with rfl|rfl
 ·refine ⟨(80::D6 g)++BR ds,aq (k-n) 255++O,?_,A0,λx=>?_⟩
  ·rw [he];unfold JH;rw [AD rfl];simp only [Ct]
  ·unfold JH;rw [AD rfl];simp only [Ct]
 ·refine ⟨O++((80::D6 g)++BR ds),aq (k-n) 255,?_,by rw [hP,BL];have:=h.lo;omega,λx=>?_⟩
  ·rw [he];unfold JH;rw [AE Ab];simp only [Ct]
  ·unfold JH;rw [AE Ab];simp only [Ct]
def app (h:JI fl w g ds k O) {d:aWd}(hb:BJ d) (hd:M d<=65535) (hk:7+M d<=k):
  JI (Dl (apB fl d) (GV fl) [80] 1) w g (ds++[d]) (k-(7+M d)) O:=by
 obtain ⟨pre,post,e1,e2,e3⟩:=h.split (7+M d) hk
 have hp:Bw d=80::(Bw d).drop 1:=rfl
 have hl:=MJ d
 have hby:BJ ((Bw d).drop 1):=by have:=aHl hb;rw [hp,QW] at this;exact this.2
 have eA:apB fl d=pre++(aq 1 255++((Bw d).drop 1++post)):=by
  unfold apB
  have:=fI (pre:=pre++[255]) (post:=post) (d:=(Bw d).drop 1) hby
  rw [<-e2]
  have e9:(M ((pre++[255]:aWd)):Y)=(M pre:Y)+1:=AI
  rw [e9] at this
  have e0:fl=pre++[255]++(aq (M<|(Bw d).drop 1) 255++post):=by
   grind
  rw [<-e0] at this;rw [this];simp
 have eB:Dl (apB fl d) (GV fl) [80] 1=pre++(Bw d++post):=by
  rw [eA,<-e2]
  have:=fI (pre:=pre) (post:=(Bw d).drop 1++post) (d:=[80]) aP0
  grind
 have eJ:Dc g (ds++[d]) (k-(7+M d))=((80::D6 g)++BR ds)++(Bw d++aq (k-(7+M d)) 255):=by
  unfold Dc;rw [aFq,show BR [d]=Bw d by simp [BR]]
  simp only [Ct]
 refine ⟨by rw [eB,e3,eJ],?_,h.lo,h.bo,h.hw,h.hg,h.old,?_⟩
 ·have:=h.la
  rw [Ou] at this;rw [Ou,aFq,BL,show BR [d]=Bw d by simp [BR],hl];omega
 ·intro x hx
  rw [BX,HI] at hx;rcases hx with hx|rfl
  ·exact h.bd x hx
  ·exact ⟨hb,hd⟩
end JI
def aH1 (se:Y) (fl d:aWd) (y:Fl):(Hi se fl d).getLastD y=(se,Dl (apB fl d) (GV fl) [80] 1):=by
 unfold Hi Dt;rw [show au (M ([80]:aWd)+1)=[0,1] from rfl]
 simp
def abP {fl:aWd}{w g:Y}{ls:aWn}{k:aWe}{O:aWd}(h:JI fl w g (ls.map B2) k O) (hv:B4 ls=U):C2 512 fl=0/\Ad 512 fl=ls:=by
 have h1:(ls.map B2).map GN=ls:=by
  rw [HK]
  have:=(GH hv).2
  calc ls.map (GN∘B2)=ls.map id:=Jg (λx hx=>aqi<|this x hx)
   _=ls:=VJ _
 have h2:ldB (ls.map B2)=true:=by
  unfold ldB;rw [BO];intro d hd;obtain ⟨x,_,rfl⟩:=F5.1 hd
  simp [KW]
 have h3:C2 512 fl=0:=by
  unfold C2;rw [h.Un,h.lk,h.len];simp only [h2,h1,hv];rfl
 refine ⟨h3,?_⟩;unfold Ad
 rwa [AD h3,h.lk]
section
variable {cs : List Cd} {os : List ByteArray} {ks : List Ko} {gs : List Ch} {bs : List Ba} {l : List Le} {rs : List Ra} {d : List Dm} {t n : Int}
structure NwL (gs:aWh) (am:aWd) (t n:Y) (m:aWn):Prop where
 at_:∀k:Y,0<=k->k<(M m:Y)->Ag m k=(n+k,(Ag m k).2.1,gi am (Ag m k).2.1,t,12)/\(0<=(Ag m k).2.1/\(Ag m k).2.1<(M gs:Y))/\Cw (AG gs (Ag m k).2.1)<gi am (Ag m k).2.1
 up:∀k:Y,1<=k->k<(M m:Y)->(Ag m (k-1)).2.1<(Ag m k).2.1
def WZ {m:aWn}{x:Le}{k:Y}(h0:0<=k):Ag (m++[x]) k=if k<(M m:Y) then Ag m k else if k=(M m:Y) then x else (0,0,0,0,0):=by
 unfold Ag;rw [DJ,DJ];split
 ·grind
 ·rw [GY A0]
  split
  ·rw [show k.toNat-M m=0 by omega]
   rfl
  ·rw [Sa A8]
   rfl
def gz {am:aWd}:∀ {K:aWe},K<=M gs->NwL gs am t n (HE gs l t n am K)/\∀x∈HE gs l t n am K,x.2.1<(K:Y)
 |0,_=>⟨⟨λk h0 h1=>aPS,λk h0 h1=>aPS⟩,λx hx=>QK⟩
 | K +1,h=>by
  obtain ⟨⟨h1,h2⟩,h3⟩:=gz (am:=am) (K:=K) A0;rw [HE];split
  ·rename_i hn
   have hf:=agU hn
   refine ⟨⟨λk k0 k1=>?_,λk k0 k1=>?_⟩,λx hx=>?_⟩
   ·simp only [BL,Bj,Bt] at k1
    rw [WZ k0];split
    ·grind
    ·rename_i hk
     have e:k=(M (HE gs l t n am K):Y):=A0
     rw [AD e,e]
     grind
   ·simp only [BL,Bj,Bt] at k1
    rw [WZ A0,WZ A0,AD (show k-1<(M (HE gs l t n am K):Y) by omega)]
    split
    ·grind
    ·rename_i hk
     rw [AD (show k=(M (HE gs l t n am K):Y) by omega)]
     exact h3 _<|J8 A0 A0
   ·rw [BX,HI] at hx
    rcases hx with hx|rfl
    ·have:=h3 x hx;omega
    ·simp only;omega
  ·rw [Gb]
   exact ⟨⟨h1,h2⟩,λx hx=>by have:=h3 x hx;omega⟩
def aFi:B4 l=U↔M l<=64/\∀k:Y,0<=k->k<(M l:Y)->DI (Ag l k)=U/\(k=0\/K4 (Ag l<|k-1) (Ag l k)=U):=by
 unfold B4;rw [AY,Aa,Dx];refine and_congr_right λ_=>⟨λh k k0 k1=>?_,λh j hj=>?_⟩
 ·have:=h k.toNat A0
  rw [CP k0] at this;unfold Gy at this;rw [AY,Cj,Aa] at this;exact this
 ·obtain ⟨h1,h2⟩:=h j A0 hj
  unfold Gy
  grind
def aFP {x:Le}(h:B4 l=U) (hx:DI x=U) (hl:M l<64) (hf:M l=0\/K4 (Ag l<|(M l:Y)-1) x=U):B4 (l++[x])=true:=by
 rw [aFi] at h|-;refine ⟨A8,λk k0 k1=>?_⟩
 simp only [BL,Bj,Bt] at k1;rw [WZ k0];split
 ·rename_i hk
  obtain ⟨h1,h2⟩:=h.2 k k0 hk;refine ⟨h1,?_⟩;rcases h2 with h2|h2
  ·grind
  ·by_cases e:k=0
   ·exact .inl e
   ·rw [WZ A0,AD A0]
    grind
 ·rename_i hk
  have e:k=(M l:Y):=A0
  rw [AD e];refine ⟨hx,?_⟩;rcases hf with hf|hf
  ·omega
  ·by_cases e0:k=0
   ·grind
   ·rw [WZ A0,AD A0,e]
    grind
structure Fit (l:aWn) (n t:Y):Prop where
 les:B4 l=U
 last:M l=0\/((Ag l ((M l:Y)-1)).1<n/\(Ag l ((M l:Y)-1)).2.2.2.1<=t)
def Fit.mono {n' t':Y}(h:Fit l n t) (hn:n<=n') (ht:t<=t'):Fit l n' t':=⟨h.les,by
 rcases h.last with h1|h1
 ·exact .inl h1
 ·exact .inr A0⟩
def abR {b:Y}{j:Y}(hj:0<=j):∀(l:aWn) (o:aWd),(∀x∈l,0<=x.2.1/\x.2.1<(M o:Y))->gi o j<=b->(∀x∈l,x.2.1=j->x.2.2.1<=b)->gi (l.foldl Jd o) j<=b
 | [],_,_,h,_=>h
 | x::l,o,hc,h,hx=>by
  have hx0:=hc x AI
  refine abR hj l _ (λy hy=>aOw) ?_ λy hy=>hx y A8
  unfold Jd;rw [J9 hx0.1 hx0.2 hj];split
  ·rename_i e
   have:=hx x AI e.symm
   rw [<-e];unfold mx;omega
  ·exact h
def abS {j:Y}(hj:0<=j):∀(l:aWn) (o:aWd),(∀x∈l,0<=x.2.1/\x.2.1<(M o:Y))->gi o j<=gi (l.foldl Jd o) j/\∀x∈l,x.2.1=j->x.2.2.1<=gi (l.foldl Jd o) j
 | [],_,_=>⟨Co _,λx hx=>QK⟩
 | x::l,o,hc=>by
  rw [KE]
  have hx0:=hc x AI
  obtain ⟨h1,h2⟩:=abS hj l (Jd o x) λy hy=>aOw
  have h3:gi o j<=gi (Jd o x) j/\(x.2.1=j->x.2.2.1<=gi (Jd o x) j):=by
   unfold Jd;rw [J9 hx0.1 hx0.2 hj];split
   ·rename_i e
    rw [<-e];unfold mx;omega
   ·rename_i e
    omega
  refine ⟨A0,λy hy e=>?_⟩
  rcases BA.1 hy with rfl|hy
  ·have:=h3.2 e
   omega
  ·grind
def aTp (hv:B4 l=U) (hb:below (M gs) l=U):∀x∈l.filter (H4 t),0<=x.2.1/\x.2.1<(M (aq (M gs) (0:Y)):Y):=λx hx=>by
 have hx:=(CS.1 hx).1
 have h1:=LQ.1<|(GH hv).2 x hx
 have h2:=D5<|BO.1 hb x hx
 rw [Ci];omega
def aJF {b j:Y}(hv:B4 l=U) (hb:below (M gs) l=U) (hj:0<=j) (b0:0<=b) (h:∀x∈l,H4 t x=U->x.2.1=j->x.2.2.1<=b):gi (H3 (M gs) l t) j<=b:=
 abR hj _ _ (aTp hv hb) (by rw [LY];exact b0) (λx hx e=>h x (CS.1 hx).1 (CS.1 hx).2 e)
def aJG (hv:B4 l=U) (hb:below (M gs) l=U) {x:Le}(hx:x∈l) (ha:H4 t x=U):x.2.2.1<=gi (H3 (M gs) l t) x.2.1:=by
 have h1:=LQ.1<|(GH hv).2 x hx
 exact (abS h1.2.1.1 _ _<|aTp hv hb).2 x (CS.2 ⟨hx,ha⟩) rfl
end
abbrev aod (a b:Le):Prop:=a.1<b.1/\a.2.2.2.1<=b.2.2.2.1
def rY {l:aWn}:B4 l=U↔M l<=64/\(∀x∈l,DI x=U)/\l.Pairwise aod:=by
 refine ⟨λh=>⟨(GH h).1,(GH h).2,aFQ h⟩,λ⟨h1,h2,h3⟩=>aFi.2 ⟨h1,λk k0 k1=>⟨h2 _<|J8 k0 k1,?_⟩⟩⟩
 by_cases e:k=0
 ·exact .inl e
 ·right
  have:=lh.1 h3 (k-1).toNat k.toNat A0 A0 A0
  rw [<-La,<-La] at this;unfold K4;rw [Cg (p:=(Ag l k).1>_) this.1,Cg (p:=(Ag l k).2.2.2.1>=_) this.2];rfl
def pt {l m:aWn}(h:B4 l=U) (hs:m.Sublist l):B4 m=true:=by
 rw [rY] at h|-
 grind
def grS (o:aWn) (x:Le):aWn:=if Fb o x=0 then GJ o x else o
def vh {o:aWn}{x:Le}(h:B4 o=U):B4 (grS o x)=U/\(grS o x=o\/grS o x=o++[x]):=by
 unfold grS;split
 ·rename_i e
  have e2:GJ o x=o++[x]:=by unfold GJ;rw [AD e]
  rw [e2];refine ⟨?_,.inr rfl⟩;unfold Fb at e;split at e
  ·rename_i c
   rw [AY] at c;split at e
   ·omega
   ·rename_i c2
    split at e
    ·omega
    ·rename_i c3
     have:=(GH h).1
     refine aFP h c.2 A0 ?_
     by_cases q:M o=0
     ·exact .inl q
     ·right
      grind
  ·omega
 ·grind
def ckO (m:Y) (e:Ld):aWo:=an (e.1<=m)&&(an (e.2.1<=m)&&an (e.2.2<=m))
def ckN (cs:aWl) (L:aWP) (k:aWe):aWo:=Dp k λo=>ckO (DE<|Ae cs o)<|Du L o.toNat
def gLi (l:aWP) (i:Y):Ld:=gx (e:=.pair A7 Ap) l i
def M5 (m:Y) (e:Ld) (t:Y):aWo:=(an (t>0) ||an (e.1<=m))&&((an (t>1) ||an (e.2.1<=m))&&(an (t>2) ||an (e.2.2<=m)))
def an1 {m:Y}{e:Ld}:M5 m e 0=ckO m e:=by simp [M5,ckO]
def E9 (cs:aWl) (gs:aWh) (m:aWd):aWo:=ckN cs (Jc cs gs m<|M gs)<|M cs
section
variable {cs : List Cd} {os : List ByteArray} {ks : List Ko} {gs : List Ch} {bs : List Ba} {l : List Le} {rs : List Ra} {d : List Dm} {t n : Int}
def fN {m:aWd}(hs:BH cs os ks gs bs=U) (hm:∀k:aWe,k<M gs->0<=gi m k/\gi m k<=80):E9 cs gs m=U↔∀o:aWe,o<M cs->∀p:Y,(p=0\/p=1\/p=2)->EN m (Bx gs p<|Cv cs gs o<|M gs)<=DE (Ae cs o):=by
 have gl:=(DK.1 hs).1.2.2.2.2.1
 have hat:=(aSx (pU hs) (pV hs) A0 hm (M gs)<|At _).2
 unfold E9 ckN;rw [Dx]
 constructor
 ·intro h o ho p hp
  have h1:=h o A0
  rw [By,hat o ho] at h1;unfold ckO ldO at h1;simp only [AY,Aa] at h1;rcases hp with rfl|rfl|rfl
  ·exact h1.1
  ·exact h1.2.1
  ·exact h1.2.2
 ·intro h o ho
  rw [By,hat o A0];unfold ckO ldO
  grind
def tA {a b:aWd}:∀ {L:aWd},(∀k∈L,gi a k<=gi b k)->EN a L<=EN b L
 | [],_=>Co _
 |k::L,h=>by
  have h1:=h k AI
  have h2:=tA (a:=a) (b:=b) (L:=L) λj hj=>h j<|N7 _ hj
  simp only [EN];omega
def aQF {a al am:aWd}:∀ {L:aWd},(∀k∈L,gi a k<=mx (gi al k) (gi am k))->EN a L<=IA al am L
 | [],_=>by simp [EN,IA]
 |k::L,h=>by
  have h1:=h k AI
  have h2:=aQF (a:=a) (al:=al) (am:=am) (L:=L) λj hj=>h j<|N7 _ hj
  rw [T7];simp only [EN];omega
def aFm {c:aWe}{p:Y}(hp:p=0\/p=1\/p=2) (hl:M (Bx gs p<|Cv cs gs c<|M gs)>0):∀ {k:aWe},c<k->(DE<|Ae cs c,Bx gs p<|Cv cs gs c<|M gs)∈Cy cs gs k
 |0,h=>A0
 | k+1,h=>by
  rw [Cy,BX]
  by_cases e:c=k
  ·right
   unfold bP
   have:(DE<|Ae cs c,Bx gs p<|Cv cs gs c<|M gs)∈rowP cs gs c p:=by
    unfold rowP;rw [AD hl]
    simp
   rcases hp with rfl|rfl|rfl
   ·grind
   ·grind
   ·grind
  ·exact .inl<|aFm hp hl A0
def WS {j:Y}(j0:0<=j) (j1:j<(M gs:Y)):gi (DO gs l t) j=mx (Cw<|AG gs j) (gi (H3 (M gs) l t) j):=Of j0 j1
def Oj {l2:aWn}{t2:Y}(hs:BH cs os ks gs bs=U) (hv:B4 l2=U) {j:Y}(j0:0<=j) (j1:j<(M gs:Y)):0<=gi (DO gs l2 t2) j/\gi (DO gs l2 t2) j<=80:=by
 have hch:chW (AG gs j)=true:=by
  have:=Ol hs j0 j1
  unfold GO at this
  grind
 have hc:=fc hch
 have h:=Xm (a:=0) (b:=80) (j:=j) Ab<|fE (t:=t2) (m:=M gs) hv
 rw [WS j0 j1];unfold mx;omega
end
def isW (se:Y) (fl:aWd) (s:Y):aWo:=!(((fl.drop (s*se).toNat).take se.toNat).all λb=>b==255)
def Fz (se:Y) (f0:aWd) (s:Y):aWe->List Fl×List Int->List Fl×List Int
 |0,a=>a
 |n+1,a=>Fz se f0 (s+1) n (if isW se f0 s=U then (a.1++(erL se a.2 s).drop 1,Ey a.2 (s*se) se.toNat) else a)
def rwF (fl:aWd) (ds:aWk):aWo:=an (5+(ds.map λd=>7+M d).sum<=M fl / 2)&&ds.all (λd=>an<|M d<=65535)
def G5 (se:Y) (fl:aWd) (ds:aWk):Y:=if Br se fl≠0 then Br se fl else if (!rwF fl ds ||(JM fl (Au fl)==4294967295))=U then 10 else 0
def HZ (se:Y) (fl:aWd):List Fl×List Int:=letI a:=((M fl / 2:aWe):Y);Fz se fl ((1-Au fl)*a.tdiv se) (a.tdiv se).toNat ([(se,fl)],fl)
def HB (fl:aWd):Y:=(1-Au fl)*((M fl / 2:aWe):Y)
def Eh (fl:aWd) (ds:aWk):aWd:=D6 (JM fl (Au fl)+1)++BR ds
def rwP (se:Y) (fl:aWd) (ds:aWk):aWd:=Dl (HZ se fl).2 (HB fl+1) (Eh fl ds)<|M<|Eh fl ds
def G4 (se:Y) (fl:aWd) (ds:aWk):aWC:=if G5 se fl ds=0 then (HZ se fl).1++((Dt se (HZ se fl).2 (HB fl+1)<|Eh fl ds).drop 1++(Dt se (rwP se fl ds) (HB fl) [80]).drop 1) else []
def Ew (se:Y) (fl d:aWd):Y:=if Br se fl≠0 then Br se fl else if apF se fl d=U then 10 else if lkC fl=U then 0 else G5 se fl ((Ez fl).1++[d])
def Hh (se:Y) (fl d:aWd):aWC:=if Br se fl≠0 then [] else if apF se fl d=U then [] else if lkC fl=U then Hi se fl d else G4 se fl ((Ez fl).1++[d])
def IG (l:aWn) (x:Le) (t:Y):aWk:=letI a:=(Ag l<|(M l:Y)-1);((BB l t).map B2)++((if M l>0/\(M (BB l t)=0\/(Ag (BB l t)<|(M (BB l t):Y)-1).1≠a.1) then [B2 a] else [])++[B2 x])
def HV (l:aWn) (x:Le):aWo:=letI a:=(Ag l<|(M l:Y)-1);decide (M l>0)&&(an (x.1<=a.1) ||an (x.2.2.2.1<a.2.2.2.1))
def ER (se:Y) (fl:aWd) (x:Le) (t:Y):Y:=
 if C2 se fl≠0 then C2 se fl else if (!DI x || !inB t 0 1100000)=U then 1 else if HV (Ad se fl) x=U then 12 else
 if Ew se fl (B2 x)≠10 then Ew se fl (B2 x) else G5 se fl (IG (Ad se fl) x t)
def Cq (se:Y) (fl:aWd) (x:Le) (t:Y):aWC:=
 if C2 se fl≠0 then [] else if (!DI x || !inB t 0 1100000)=U then [] else if HV (Ad se fl) x=U then [] else
 if Ew se fl (B2 x)≠10 then Hh se fl (B2 x) else G4 se fl (IG (Ad se fl) x t)
def ID (se:Y) (fl:aWd):Y:=if C2 se fl≠0 then C2 se fl else if M (Ad se fl)=0 then 0 else if (Ag (Ad se fl)<|(M (Ad se fl):Y)-1).1=1000000 then 10 else 0
def JY (se:Y) (fl:aWd):Y:=letI a:=(Ag (Ad se fl)<|(M (Ad se fl):Y)-1);if C2 se fl≠0 then 0 else if M (Ad se fl)=0 then 1 else if a.1=1000000 then 0 else a.1+1
structure SN where
 ls:aWn
 se:Y
 fl:aWd
 nx:Y
 lk:aWN
def Te (t:Y) (x:Le):Lk:=(t+(7*t+3*x.2.1).tmod 5,x)
def FA (t:Y) (s:SN) (x:Le):SN:=
 if Fb s.ls x=0/\ER s.se s.fl x t=0 then
  ⟨GJ s.ls x,(GP (Cq s.se s.fl x t)<|(M (Cq s.se s.fl x t):Y)-1).1,(GP (Cq s.se s.fl x t)<|(M (Cq s.se s.fl x t):Y)-1).2,x.1+1,s.lk++[Te t x]⟩
 else s
def EK (t:Y) (xs:aWn) (s:SN):aWe->SN
 |0=>s
 |k+1=>FA t (EK t xs s k)<|Ag xs k
def Dn (l:aWn) (t:Y):aWn:=if Cm l t=0 then BB l t else l
namespace PK
variable (p : PK)
def EP:aWl:=E0 p.cs p.tg<|M p.tg
def dE:Y:=deE p.EP p.os p.ks p.gs p.bs (Dn p.ls p.tk) p.ra p.dm p.tk p.nx
def dR:aWJ:=deR p.EP p.os p.ks p.gs p.bs (Dn p.ls p.tk) p.ra p.dm p.tk p.nx
def dL:aWn:=deL p.EP p.os p.ks p.gs p.bs (Dn p.ls p.tk) p.ra p.dm p.tk p.nx
def HA:SN:=⟨Dn p.ls p.tk,p.se,p.fl,p.nx,p.lk⟩
def sn1:SN:=EK p.tk p.dL p.HA<|M p.dL
def AM:PK:=if p.up=X then p else if p.dE≠0 then {p with ls:=Dn p.ls p.tk} else {p with ra:=p.dR,ls:=p.sn1.ls,se:=p.sn1.se,fl:=p.sn1.fl,nx:=p.sn1.nx,lk:=p.sn1.lk}
def JO:PK:={p with st:=Ly p.gs p.lk p.tk p.st<|M p.lk,lk:=p.lk.filter λl=>an<|l.1>p.tk}
def V1:PK:={p with st:=L3 p.gs p.dr p.tk p.st<|M p.dr}
def dw:DW:=FL p.gs p.ca ⟨p.st,p.mi,p.me,aq (M p.gs) 0⟩<|M p.gs
def CR:PK:={p with st:=p.dw.st,mi:=p.dw.mi,me:=p.dw.me}
end PK
def DG (gs:aWh) (tg:aWd) (am:aWd) (cs:aWl):aWe->List Cd
 |0=>cs
 |k+1=>if gi tg k>=(Ae (DG gs tg am cs k) k).2.2.1 then DG gs tg am cs k else
  if (an (M am=M gs)&&E9 ((DG gs tg am cs k).set k<|GQ (Ae (DG gs tg am cs k) k)<|gi tg k) gs am)=U then (DG gs tg am cs k).set k (GQ (Ae (DG gs tg am cs k) k)<|gi tg k) else DG gs tg am cs k
namespace PK
variable (p : PK)
def rsA:aWd:=if Jy p.ls (M p.gs) (p.tk+1)=0 then DO p.gs p.ls (p.tk+1) else []
def Jv:PK:={p with cs:=if p.up=X then p.cs else DG p.gs p.tg p.rsA p.cs (M p.tg)}
def endP:PK:={p with tk:=p.tk+1}
def Ay:PK:=p.AM.JO.V1
def Bh:PK:=p.Ay.CR.Jv.endP
def Kp:aWd:=p.Ay.dw.dw
def IX:Y:=if p.tk=1000000 then 15 else 0
end PK
namespace PK
variable (p : PK) (n m : Int) (c : Ca) (d : Dm)
def isC:aWo:=inB n 0<|(M p.gs:Y)-1
def GI:Y:=if p.isC n=X then 1 else if (!GW c || !Hf d)=U then 1 else if ((Be p.ca n).2.2.1 !=0 ||(BW p.st n).1 !=0)=U then 6 else 0
def aAj:aWE:=CY p.gs (CY p.gs (CY p.gs (CY p.gs p.st n 1 0 0) n 3 0 0) n 4 1 0) n 5 0 0
def Nm:PK:={p with ca:=p.ca.set n.toNat c,mi:=p.mi.set n.toNat ([],0,0),dm:=p.dm.set n.toNat d,st:=p.aAj n}
def JB:Y:=if p.isC n=X then 1 else if (Be p.ca n).2.2.1=0 then 4 else 0
def Qt:PK:={p with ca:=p.ca.set n.toNat (0,0,0,0,0),mi:=p.mi.set n.toNat ([],0,0),dm:=p.dm.set n.toNat (X,0,0,9),st:=CY p.gs (CY p.gs p.st n 6 0 0) n 2 0 0}
def Nn:Y:=if p.isC n=X then 1 else 0
def jJ:PK:={p with lk:=p.lk.filter λl=>l.2.2.1 !=n}
def Ma:Y:=if p.up=X then 6 else 0
def Ni:PK:={p with up:=X,ls:=[]}
def F9:Y:=if p.up=U then 6 else if C2 p.se p.fl≠0 then C2 p.se p.fl else if Cm (Ad p.se p.fl) p.tk≠0 then Cm (Ad p.se p.fl) p.tk else ID p.se p.fl
def Qz:PK:={p with up:=U,ls:=BB (Ad p.se p.fl) p.tk,nx:=JY p.se p.fl,ra:=aq (M p.gs) (0,0)}
def Nl:Y:=if p.isC n=X then 1 else sE (AG p.gs n) (BW p.st n) 6 1 0
def aVQ:PK:={p with st:=CY p.gs p.st n 6 1 0}
def L2:PK:={p with tg:=p.tg.set n.toNat m}
def I4:Y:=if (!inB n 0 ((M p.cs:Y)-1) || !inB m 1 (Ae p.cs n).2.2.1)=U then 1 else if E9 (p.L2 n m).EP p.gs (Bv p.gs)=X then 13 else 0
end PK
def EJ (p:PK):aWo:=(BH p.cs p.os p.ks p.gs p.bs&&inB p.tk 0 1000000)&&((an (M p.st=M p.gs)&&(an (M p.ca=M p.gs)&&(an (M p.mi=M p.gs)&&(an (M p.me=M p.gs)&&(an (M p.dm=M p.gs)&&an (M p.dr=M p.gs))))))&&
 (an (M p.tg=M p.cs)&&(Dp (M p.tg) (λk=>inB (gi p.tg k) 1 (Ae p.cs k).2.2.1)&&(p.dr.all (λx=>inB x (-200) 200)&&p.lk.all (λl=>inB l.2.2.1 0<|(M p.gs:Y)-1)))))
structure EV where
 (ek en em:Y)
 c:Ca
 d:Dm
def PK0:PK:=⟨[],[],[],[],[],0,X,[],0,[],[],0,[],[],[],[],[],[],[],[]⟩
def BC (p:PK) (e:EV):Y:=if EJ p=X then 1 else if e.ek=1 then p.IX else if e.ek=2 then p.GI e.en e.c e.d else if e.ek=3 then p.JB e.en else if e.ek=4 then p.Nn e.en else if e.ek=5 then p.Ma else if e.ek=6 then p.F9 else if e.ek=7 then p.Nl e.en else if e.ek=8 then p.I4 e.en e.em else 9
def An (p:PK) (e:EV):PK:=if BC p e≠0 then PK0 else if e.ek=1 then p.Bh else if e.ek=2 then p.Nm e.en e.c e.d else if e.ek=3 then p.Qt e.en else if e.ek=4 then p.jJ e.en else if e.ek=5 then p.Ni else if e.ek=6 then p.Qz else if e.ek=7 then p.aVQ e.en else p.L2 e.en e.em
def Cn (p:PK) (e:EV):aWd:=if BC p e≠0 then [] else if e.ek=1 then p.Kp else []
def DB (cs:aWl) (os:aWg) (ks:aWr) (gs:aWh) (bs:aWs) (dr:aWd):Y:=
 if BH cs os ks gs bs=X\/M dr≠M gs then 1 else if dr.all (λx=>inB x (-200) 200)=X then 1 else if E9 cs gs (Bv gs)=X then 13 else 0
def Ds:aWd:=Dc 0 [] 1019++aq 1024 255
def newP (cs:aWl) (os:aWg) (ks:aWr) (gs:aWh) (bs:aWs) (dr:aWd):PK:=if DB cs os ks gs bs dr≠0 then PK0 else
 ⟨cs,os,ks,gs,bs,0,U,[],512,Ds,aq (M gs) (0,0),1,aq (M gs) (0,0,0,X),aq (M gs) (0,0,0,0,0),aq (M gs) ([],0,0),(Fy<|M gs).map λk=>(k+1,0,X),aq (M gs) (X,0,0,9),[],dr,cs.map λc=>c.2.2.1⟩
structure VP (p:PK):Prop where
 site:BH p.cs p.os p.ks p.gs p.bs=U
 tk:0<=p.tk/\p.tk<=1000000
 st:M p.st=M p.gs
 ca:M p.ca=M p.gs
 mi:M p.mi=M p.gs
 me:M p.me=M p.gs
 dm:M p.dm=M p.gs
 dr:M p.dr=M p.gs
 FE:M p.tg=M p.cs
 tg:∀k:aWe,k<M p.tg->1<=gi p.tg k/\gi p.tg k<=(Ae p.cs k).2.2.1
 dr8:p.dr.all (λx=>inB x (-200) 200)=U
 lk:∀l∈p.lk,0<=l.2.2.1/\l.2.2.1<(M p.gs:Y)
def QP {p:PK}:EJ p=U↔VP p:=by
 unfold EJ;simp only [AY,Aa,BV,Dx]
 constructor
 ·rintro ⟨⟨h1,h2⟩,⟨h3,h4,h5,h6,h7,h8⟩,h9,h10,h11,h12⟩
  exact ⟨h1,h2,h3,h4,h5,h6,h7,h8,h9,λk hk=>h10 k A0,h11,λl hl=>by have:=BO.1 h12 l hl;rw [BV] at this;omega⟩
 ·intro h
  refine ⟨⟨h.site,h.tk⟩,⟨h.st,h.ca,h.mi,h.me,h.dm,h.dr⟩,h.FE,λk hk=>h.tg k A0,h.dr8,BO.2 λl hl=>BV.2 ?_⟩
  have:=h.lk l hl
  omega
def J7 {gs:aWh}{st:aWE}{i k n m:Y}:M (CY gs st i k n m)=M st:=by
 unfold CY
 grind
def qo {gs:aWh}{lk:aWN}{t:Y}{st:aWE}:∀k,M (Ly gs lk t st k)=M st
 |0=>rfl
 |k+1=>by
  unfold Ly;split
  ·exact qo k
  ·rw [J7];exact qo k
def aG1 {gs:aWh}{st:aWE}{i:Y}:∀k,M (Lo gs st i k)=M st
 |0=>rfl
 |k+1=>by unfold Lo;rw [J7];exact aG1 k
def qf {gs:aWh}{dr:aWd}{t:Y}{st:aWE}:∀k,M (L3 gs dr t st k)=M st
 |0=>rfl
 |k+1=>by
  unfold L3;split
  ·rw [aG1];exact qf k
  ·exact qf k
def auP {gs:aWh}{ca:aW0}{s:DW}{i:Y}:letI a:=H6 gs ca s i;M a.st=M s.st/\M a.mi=M s.mi/\M a.me=M s.me/\M a.dw=M s.dw:=by
 unfold H6;split
 ·grind
 ·split
  ·refine ⟨?_,AI,?_,AI⟩
   ·simp only;split
    ·exact J7
    ·rfl
   ·grind
  ·grind
def sU {gs:aWh}{ca:aW0}{s:DW}:∀k,M (FL gs ca s k).st=M s.st/\M (FL gs ca s k).mi=M s.mi/\M (FL gs ca s k).me=M s.me/\M (FL gs ca s k).dw=M s.dw
 |0=>⟨rfl,rfl,rfl,rfl⟩
 |k+1=>by
  obtain ⟨h1,h2,h3,h4⟩:=sU (gs:=gs) (ca:=ca) (s:=s) k;obtain ⟨g1,g2,g3,g4⟩:=auP (gs:=gs) (ca:=ca) (s:=FL gs ca s k) (i:=(k:Y));unfold FL
  grind
def gR {cs:aWl}{os:aWg}{ks:aWr}{gs:aWh}{bs:aWs}(h:BH cs os ks gs bs=U) {k:aWe}(hk:k<M cs):1<=(Ae cs k).2.2.1/\(Ae cs k).2.2.1<=1000:=by
 have:=qU h (c:=(k:Y)) A0 A0
 unfold I5 at this;simp only [AY,BV] at this
 grind
def T8 {gs:aWh}{tg am:aWd}{cs:aWl}:∀n,M (DG gs tg am cs n)=M cs
 |0=>rfl
 | n+1=>by
  unfold DG;split
  ·exact T8 n
  ·split
   ·rw [C3];exact T8 n
   ·exact T8 n
def dP {gs:aWh}{tg am:aWd}{cs:aWl}:∀n,n<=M cs->∀j:aWe,(Ae (DG gs tg am cs n) j=Ae cs j\/(j<n/\gi tg j<(Ae cs j).2.2.1/\Ae (DG gs tg am cs n) j=GQ (Ae cs j) (gi tg j)))/\(n<=j->Ae (DG gs tg am cs n) j=Ae cs j)
 |0,_,j=>⟨.inl rfl,λ_=>rfl⟩
 | n +1,hn,j=>by
  obtain ⟨h1,h2⟩:=dP (gs:=gs) (tg:=tg) (am:=am) (cs:=cs) n A0 j
  have hl:n<M (DG gs tg am cs n):=by rw [T8];omega
  unfold DG;split
  ·grind
  ·rename_i hlt
   split
   ·rw [Wb hl]
    by_cases e:j=n
    ·subst e
     grind
    ·rw [AE e]
     grind
   ·grind
def aDn {gs:aWh}{tg am:aWd}{cs:aWl}{os:aWg}{ks:aWr}{bs:aWs}(h:BH cs os ks gs bs=U) (ht:∀k:aWe,k<M cs->1<=gi tg k/\gi tg k<=1000):∀n,n<=M cs->BH (DG gs tg am cs n) os ks gs bs=U
 |0,_=>h
 | n+1,hn=>by
  have h1:=aDn (am:=am) h ht n A0
  unfold DG;split
  ·exact h1
  ·split
   ·exact cw h1 (by rw [T8];omega)<|ht n A0
   ·exact h1
def NM {cs:aWl}{tg:aWd}:∀n,M (E0 cs tg n)=M cs
 |0=>rfl
 |n+1=>by unfold E0;rw [C3];exact NM n
def pF {tg:aWd}{cs:aWl}{os:aWg}{ks:aWr}{gs:aWh}{bs:aWs}(h:BH cs os ks gs bs=U) (ht:∀k:aWe,k<M cs->1<=gi tg k/\gi tg k<=1000):∀n,n<=M cs->BH (E0 cs tg n) os ks gs bs=U
 |0,_=>h
 |n+1,hn=>by
  exact cw (pF h ht n A0) (by rw [NM];omega)<|ht n A0
def aBP {p:PK}:∀x∈p.dL,0<=x.2.1/\x.2.1<(M p.gs:Y):=by
 intro x hx;unfold PK.dL deL at hx;split at hx
 ·obtain ⟨k,hk,rfl⟩:=HG.1 hx
  have:=(gz (gs:=p.gs) (l:=Dn p.ls p.tk) (t:=p.tk) (n:=p.nx) (am:=FJ p.gs p.ra (HT p.EP p.os p.ks p.gs p.bs (Dn p.ls p.tk) p.dm p.tk)<|M p.gs)<|At _).1.at_ (k:Y) A0 A0
  rw [La A8] at this
  grind
 ·cases hx
def arF {t:Y}{s:SN}{x:Le}:(FA t s x).lk=s.lk\/(FA t s x).lk=s.lk++[Te t x]:=by
 unfold FA;exact aK
def rN {t:Y}{xs:aWn}{s:SN}:∀n,n<=M xs->(∀l∈(EK t xs s n).lk,l∈s.lk\/∃x∈xs,l=Te t x)/\M (EK t xs s n).lk<=M s.lk+n
 |0,_=>⟨λl hl=> .inl hl,At _⟩
 | n+1,hn=>by
  obtain ⟨h1,h2⟩:=rN (t:=t) (xs:=xs) (s:=s) n A0;unfold EK;rcases arF (t:=t) (s:=EK t xs s n) (x:=Ag xs n) with e|e<;>rw [e]
  ·grind
  ·refine ⟨λl hl=>?_,A8⟩
   rw [BX,HI] at hl;rcases hl with hl|rfl
   ·grind
   ·exact .inr ⟨_,J8 A0 A0,rfl⟩
def avy {p:PK}(h:∀l∈p.lk,0<=l.2.2.1/\l.2.2.1<(M p.gs:Y)):∀l∈p.AM.lk,0<=l.2.2.1/\l.2.2.1<(M p.gs:Y):=by
 unfold PK.AM;split
 ·exact h
 ·split
  ·exact h
  ·intro l hl
   rcases (rN (t:=p.tk) (xs:=p.dL) (s:=p.HA) _<|At _).1 l hl with e|⟨x,hx,rfl⟩
   ·exact h l e
   ·exact aBP x hx
def KO (p:PK):p.AM.cs=p.cs/\p.AM.os=p.os/\p.AM.ks=p.ks/\p.AM.gs=p.gs/\p.AM.bs=p.bs/\p.AM.tk=p.tk/\p.AM.up=p.up/\p.AM.st=p.st/\p.AM.ca=p.ca/\p.AM.mi=p.mi/\p.AM.me=p.me/\p.AM.dm=p.dm/\p.AM.dr=p.dr/\p.AM.tg=p.tg:=by
 unfold PK.AM;exact aK
def VP.dec {p:PK}(h:VP p):VP p.AM:=by
 obtain ⟨e1,e2,e3,e4,e5,e6,e7,e8,e9,e10,e11,e12,e13,e14⟩:=KO p;refine ⟨?_,?_,?_,?_,?_,?_,?_,?_,?_,?_,?_,?_⟩
 ·rw [e1,e2,e3,e4,e5];exact h.site
 ·rw [e6];exact h.tk
 ·rw [e8,e4];exact h.st
 ·rw [e9,e4];exact h.ca
 ·rw [e10,e4];exact h.mi
 ·rw [e11,e4];exact h.me
 ·rw [e12,e4];exact h.dm
 ·rw [e13,e4];exact h.dr
 ·rw [e14,e1];exact h.FE
 ·rw [e14,e1];exact h.tg
 ·rw [e13];exact h.dr8
 ·rw [e4];exact avy h.lk
def VP.arr {p:PK}(h:VP p):VP p.JO:={h with st:=(qo _).trans h.st,lk:=λl hl=>h.lk l<|(CS.1 hl).1}
def VP.cnt {p:PK}(h:VP p):VP p.V1:={h with st:=(qf _).trans h.st}
def VP.drw {p:PK}(h:VP p):VP p.CR:=
 have hl:=sU (gs:=p.gs) (ca:=p.ca) (s:=⟨p.st,p.mi,p.me,aq (M p.gs) 0⟩)<|M p.gs
 {h with st:=hl.1.trans h.st,mi:=hl.2.1.trans h.mi,me:=hl.2.2.1.trans h.me}
def VP.tg1 {p:PK}(h:VP p):∀k:aWe,k<M p.cs->1<=gi p.tg k/\gi p.tg k<=1000:=λk hk=>by
 have:=h.tg k (by rw [h.FE];omega)
 have:=gR h.site hk
 omega
def VP.rst {p:PK}(h:VP p):VP p.Jv:=by
 have hs:BH p.Jv.cs p.os p.ks p.gs p.bs=true:=by
  unfold PK.Jv;split
  ·exact h.site
  ·rw [h.FE];exact aDn h.site h.tg1 _<|At _
 have hl:M p.Jv.cs=M p.cs:=by
  unfold PK.Jv;split
  ·rfl
  ·exact T8 _
 refine {h with site:=hs,FE:=h.FE.trans hl.symm,tg:=λk hk=>?_}
 have ht:=h.tg k hk
 refine ⟨ht.1,?_⟩;unfold PK.Jv;split
 ·exact ht.2
 ·rcases (dP (gs:=p.gs) (tg:=p.tg) (am:=p.rsA) (cs:=p.cs) (M p.tg) (by rw [h.FE];omega) k).1 with e|⟨_,_,e⟩<;>rw [e]
  ·exact ht.2
  ·exact Co _
def VP.tick {p:PK}(h:VP p) (ht:p.tk≠1000000):VP p.Bh:=by
 have h5:=h.dec.arr.cnt.drw.rst
 have et:p.Ay.CR.Jv.tk=p.tk:=(KO p).2.2.2.2.2.1
 have:=h.tk
 exact {h5 with tk:=by show 0<=p.Ay.CR.Jv.tk+1/\p.Ay.CR.Jv.tk+1<=1000000;omega}
def afe {p:PK}{n:Y}:M (p.aAj n)=M p.st:=by
 unfold PK.aAj;rw [J7,J7,J7,J7]
def VP.step {p:PK}(h:VP p) {e:EV}(he:BC p e=0):VP (An p e):=by
 unfold An;rw [AE A0];unfold BC at he;rw [AE (by rw [QP.2 h];decide)] at he
 split
 ·rename_i h1
  rw [AD h1] at he;unfold PK.IX at he;exact h.tick λhh=>aPg
 rename_i h1;rw [AE h1] at he;split
 ·exact {h with ca:=by simp only [PK.Nm,C3];exact h.ca,mi:=by simp only [PK.Nm,C3];exact h.mi,dm:=by simp only [PK.Nm,C3];exact h.dm,st:=afe.trans h.st}
 rename_i h2;rw [AE h2] at he;split
 ·exact {h with ca:=by simp only [PK.Qt,C3];exact h.ca,mi:=by simp only [PK.Qt,C3];exact h.mi,dm:=by simp only [PK.Qt,C3];exact h.dm,st:=by simp only [PK.Qt,J7];exact h.st}
 rename_i h3;rw [AE h3] at he;split
 ·exact {h with lk:=λl hl=>h.lk l<|(CS.1 hl).1}
 rename_i h4;rw [AE h4] at he;split
 ·exact {h with}
 rename_i h5;rw [AE h5] at he;split
 ·exact {h with}
 rename_i h6;rw [AE h6] at he;split
 ·exact {h with st:=J7.trans h.st}
 rename_i h7;rw [AE h7] at he;split at he
 ·unfold PK.I4 at he
  split at he
  ·cases he
  ·rename_i hb
   simp only [Cj,D2,not_or,Q5,BV] at hb;obtain ⟨⟨n0,n1⟩,m0,m1⟩:=hb;refine {h with FE:=by simp only [PK.L2,C3];exact h.FE,tg:=λk hk=>?_}
   have hk':k<M p.tg:=by simpa only [PK.L2,C3] using hk
   have ht:=h.tg k hk'
   show 1<=gi (p.tg.set e.en.toNat e.em) k/\gi (p.tg.set e.en.toNat e.em) k<=(Ae p.cs k).2.2.1
   unfold gi at ht|-;rw [DJ,IN]
   by_cases ek:e.en.toNat=(k:Y).toNat
   ·rw [AD ek,AD (by rw [By] at ek;omega)]
    rw [By] at ek
    have:e.en=(k:Y):=A0
    rw [<-this];exact ⟨m0,m1⟩
   ·rw [AE ek,<-DJ]
    exact ht
 ·cases he
def aIb {α:Type}{l:List α}{d x:α}{i j:aWe}:(l.set i x).getD j d=if i=j/\i<M l then x else l.getD j d:=by
 by_cases e:i=j
 ·subst e
  by_cases h:i<M l
  ·grind
  ·grind
 ·grind
structure D1 where
 c:Ca
 m:Mi
 e:Me
 (ph al:Y)
namespace D1
variable (d : D1)
def ok:aWo:=!(d.c.2.2.1==0)&&(JU d.c d.m d.ph d.al==0)
def a:Y:=Fg d.c d.m d.ph d.al
def o:Y:=cnt<|Ee d.c d.m d.ph d.al
end D1
def d1 (gs:aWh) (ca:aW0) (s:DW) (j:Y):D1:=⟨Be ca j,Cs s.mi j,gMe s.me j,(AG gs j).2.2.1,Bo (AG gs j)<|BW s.st j⟩
def ai4 {gs:aWh}{ca:aW0}{s:DW}{i:Y}(h:(d1 gs ca s i).ok=X):H6 gs ca s i=s:=by
 unfold D1.ok d1 at h;unfold H6
 by_cases h1:(Be ca i).2.2.1=0
 ·grind
 ·grind
def auO {gs:aWh}{ca:aW0}{s:DW}{i:Y}(h:(d1 gs ca s i).ok=U):H6 gs ca s i=
  ⟨if (d1 gs ca s i).a>(d1 gs ca s i).al then CY gs s.st i 6 2 0 else s.st,s.mi.set i.toNat<|K8 (d1 gs ca s i).c (d1 gs ca s i).m (d1 gs ca s i).ph (d1 gs ca s i).al,
   if GR (d1 gs ca s i).e (d1 gs ca s i).a (d1 gs ca s i).o=0 then s.me.set i.toNat (IF (d1 gs ca s i).e (d1 gs ca s i).a (d1 gs ca s i).o) else s.me,s.dw.set i.toNat (d1 gs ca s i).a⟩:=by
 unfold D1.ok d1 at h;simp only [AY,D2,CQ,D3] at h;unfold H6;rw [AE h.1,AD h.2];rfl
def avZ {k ph p:Y}(h1:1<=ph/\ph<=7) (h2:1<=p/\p<=7) (h:Ky k ph p≠0):1<=cnt (Ky k ph p):=by
 have:=aDX (k:=k) h1 h2
 unfold cnt;omega
def D1.bd {d:D1}(h:d.ok=U):0<=d.a/\d.a<=80/\0<=d.o/\d.o<=3/\(d.a≠0->1<=d.o)/\(K8 d.c d.m d.ph d.al).2.2=d.m.2.2+2300*d.a*d.o:=by
 unfold D1.ok at h;simp only [AY,D2,CQ,D3] at h
 have hB:dwB d.c d.m d.ph d.al=true:=by
  exact aNQ
 obtain ⟨hc,hm,h1,h2,h3,h4,_⟩:=eh.1 hB;obtain ⟨b1,b2,b3,b4⟩:=aFA hc hm ⟨h1,h2⟩ ⟨h3,h4⟩
 have hc':=Wc.1 hc
 have hs:=afS (n:=Ee d.c d.m d.ph d.al)
 have ea:d.a=FC d.c d.m d.ph d.al:=aOn
 have eo:d.o=cnt (HU d.c d.m d.ph d.al):=by unfold D1.o Ee;rw [AD hB]
 refine ⟨A0,A0,hs.1,hs.2,λhz=>?_,?_⟩
 ·rw [eo]
  rw [ea] at hz;unfold HU;rw [AE hz];refine avZ ⟨A0,A0⟩ ⟨h1,h2⟩ λhq=>hz ?_
  unfold FC
  grind
 ·unfold K8
  rw [AD hB,ea,eo];rfl
def aas {c:Ch}{s:St}{k n m:Y}(h:s.2.2.2=X) (hk:k≠6\/n≠1):(Ej c s k n m).2.2.2=false:=by
 unfold Ej;split
 ·rename_i he
  unfold sN;rw [AD he];simp only [sW,h,D4,xJ,CQ];exact hk
 ·exact h
def anR {c:Ch}{s:St}{k n m:Y}(h:0<=s.2.2.1):(Ej c s k n m).2.2.1<=s.2.2.1\/(k=7/\(Ej c s k n m).2.2.1=m):=by
 unfold Ej;split
 ·rename_i he
  unfold sN;rw [AD he];simp only [sL];split
  ·exact .inr ⟨by assumption,rfl⟩
  ·refine .inl ?_
   split
   ·unfold tkF;split<;>omega
   ·split<;>omega
 ·exact .inl<|Co _
def anQ {c:Ch}{s:St}(h:sV c s=U):(Ej c s 8 0 0).2.2.1=tkF s.2.2.1:=by
 have hv:=P6.1 h
 have he:sE c s 8 0 0=0:=by
  unfold sE;rw [AD h,AD Ab,AD<|by simp [evV]]
  have:IC s.1 s.2.2.2 8 0=s.1:=by simp [IC]
  rw [this,AE A0]
 unfold Ej sN;rw [AD he,AD he]
 simp [sL]
def vf {gs:aWh}{st:aWE}{i k n m:Y}(h0:0<=i) (h1:i<(M st:Y)) {j:Y}(hj:0<=j):BW (CY gs st i k n m) j=if j=i then Ej (AG gs i) (BW st i) k n m else BW st j:=by
 unfold CY Ej
 by_cases e:j=i
 ·subst e
  rw [AD rfl];split
  ·unfold BW;rw [aIb,AD ⟨rfl,A0⟩]
  ·rfl
 ·rw [AE e]
  split
  ·unfold BW;rw [aIb,AE A0]
  ·rfl
def CX (gs:aWh) (Q:Y->St->Prop) (st:aWE):Prop:=M st=M gs/\∀j:Y,0<=j->j<(M gs:Y)->Q j (BW st j)
def CX.gv {gs:aWh}{Q:Y->St->Prop}{st:aWE}(h:CX gs Q st) {i k n m:Y}(h0:0<=i) (h1:i<(M gs:Y)) (hq:Q i (BW st i)->Q i (Ej (AG gs i) (BW st i) k n m)):CX gs Q (CY gs st i k n m):=by
 refine ⟨J7.trans h.1,λj j0 j1=>?_⟩
 rw [vf h0 (by rw [h.1];exact h1) j0]
 split
 ·rename_i e;subst e;exact hq<|h.2 j j0 j1
 ·exact h.2 j j0 j1
def CX.arr {gs:aWh}{Q:Y->St->Prop}{st:aWE}{lk:aWN}{t:Y}(h:CX gs Q st) (hl:∀l∈lk,(0<=l.2.2.1/\l.2.2.1<(M gs:Y))/\(l.1<=t->∀s,Q l.2.2.1 s->Q l.2.2.1 (Ej (AG gs l.2.2.1) s 7 l.2.2.2.1 l.2.2.2.2.2))):∀n,n<=M lk->CX gs Q (Ly gs lk t st n)
 |0,_=>h
 | n+1,hn=>by
  have ih:=CX.arr h hl n A0
  have hm:Ea lk n∈lk:=by
   unfold Ea;rw [Lc (by rw [By];omega)]
   exact GZ _
  obtain ⟨⟨c0,c1⟩,hq⟩:=hl _ hm;unfold Ly;split
  ·exact ih
  ·exact ih.gv c0 c1<|hq A0 _
def CX.dw {gs:aWh}{ca:aW0}{Q:Y->St->Prop}{s:DW}(h:CX gs Q s.st) (hq:∀j st,Q j st->Q j (Ej (AG gs j) st 6 2 0)):∀n,n<=M gs->CX gs Q (FL gs ca s n).st
 |0,_=>h
 | n+1,hn=>by
  have ih:=CX.dw (ca:=ca) h hq n A0
  unfold FL H6;split
  ·exact ih
  ·split
   ·simp only
    split
    ·exact ih.gv A0 A0<|hq _ _
    ·exact ih
   ·exact ih
def H9 (gs:aWh) (b:Y->Y) (j:Y) (s:St):Prop:=sV (AG gs j) s=U/\s.2.2.2=X/\s.2.2.1<=b j
def H9.le {gs:aWh}{b b':Y->Y}{j:Y}{s:St}(h:H9 gs b j s) (hb:b j<=b' j):H9 gs b' j s:=⟨h.1,h.2.1,Hl h.2.2 hb⟩
def H9.gv {gs:aWh}{b:Y->Y}{j k n m:Y}{s:St}(h:H9 gs b j s) (hk:k≠6\/n≠1) (hm:k=7->m<=b j):H9 gs b j (Ej (AG gs j) s k n m):=by
 have hv:=P6.1 h.1
 refine ⟨ve h.1,aas h.2.1 hk,?_⟩;rcases anR (c:=AG gs j) (k:=k) (n:=n) (m:=m) hv.2.2.2.1 with e|⟨e1,e2⟩
 ·exact Hl e h.2.2
 ·rw [e2];exact hm e1
def aaA {gs:aWh}{b:Y->Y}{st:aWE}(h:CX gs (H9 gs b) st) (hb:∀j,0<=b j) {i:Y}(h0:0<=i) (h1:i<(M gs:Y)):∀k:aWe,CX gs (H9 gs (λj=>if j=i then (if b j-k<0 then 0 else b j-k) else b j)) (Lo gs st i k)
 |0=>⟨h.1,λj j0 j1=>(h.2 j j0 j1).le aOb⟩
 | k+1=>by
  have ih:=aaA h hb h0 h1 k
  unfold Lo;refine ⟨J7.trans ih.1,λj j0 j1=>?_⟩
  rw [vf h0 (by rw [ih.1];exact h1) j0]
  have hj:=ih.2 j j0 j1
  split
  ·rename_i e
   subst e
   have hv:=P6.1 hj.1
   have h3:=hj.2.2
   have hbj:=hb j
   simp only [Bp] at h3;refine ⟨ve hj.1,aas hj.2.1<|.inl Ab,?_⟩;rw [anQ hj.1];simp only [Bp];unfold tkF;split at h3<;>split<;>split<;>omega
  ·rename_i e
   refine hj.le ?_;rw [AE e,AE e];exact Co _
def OJ (dr:aWd) (t:Y) (j:Y):Y:=BE (t+1) (gi dr j)-BE t (gi dr j)
def aBK {gs:aWh}{b:Y->Y}{st:aWE}{dr:aWd}{t:Y}(h:CX gs (H9 gs b) st) (hb:∀j,0<=b j) (hd:∀j:Y,0<=j->j<(M dr:Y)->-200<=gi dr j/\gi dr j<=200) (hl:M dr=M gs) (ht:0<=t/\t<1000000):
  ∀n:aWe,n<=M dr->CX gs (H9 gs (λj=>if j<n then (if b j-OJ dr t j<0 then 0 else b j-OJ dr t j) else b j)) (L3 gs dr t st n)
 | 0,_=>⟨h.1,λj j0 j1=>by
   have:=h.2 j j0 j1
   refine this.le ?_;rw [AE A0];exact Co _⟩
 | n+1,hn=>by
  have ih:=aBK h hb hd hl ht n A0
  have hdn:=hd (n:Y) A0 A0
  have hs:HW t (gi dr n)=0/\HW (t+1) (gi dr n)=0:=by
   exact aN2
  have ho:0<=OJ dr t n:=by
   unfold OJ BE;rw [AD VZ,AD VZ]
   have:t*(1000000+gi dr n)<=(t+1)*(1000000+gi dr n):=M6 A0 A0
   have:=xg (by decide:(0:Y)<1000000) this
   omega
  unfold L3;rw [AD hs]
  have:=aaA ih (λj=>aOb) (i:=(n:Y)) A0 A0 (BE (t+1) (gi dr n)-BE t (gi dr n)).toNat
  refine ⟨this.1,λj j0 j1=>(this.2 j j0 j1).le ?_⟩
  have e:(((BE (t+1) (gi dr n)-BE t (gi dr n)).toNat:aWe):Y)=OJ dr t n:=by unfold OJ at ho|-;omega
  simp only [e]
  have hbj:=hb j
  by_cases ej:j=n
  ·subst ej
   rw [AD rfl,AE (show ¬((n:Y)<(n:Y)) by omega),AD (show (n:Y)<((n+1:aWe):Y) by omega)]
   exact Co _
  ·rw [AE ej]
   by_cases hj:j<(n:Y)
   ·rw [AD hj,AD (show j<((n+1:aWe):Y) by omega)];exact Co _
   ·rw [AE hj,AE (show ¬j<((n+1:aWe):Y) by omega)];exact Co _
structure FI (p:PK):Prop where
 st:CX p.gs (H9 p.gs (λ_=>12)) p.st
 lk:∀l∈p.lk,p.tk<=l.1/\l.1<=p.tk+3/\l.2.2.2.2.2=12
 ca:∀c∈p.ca,c.1≠4
def amw {p:PK}:∀x∈p.dL,x.2.2.2.2=12:=by
 intro x hx;unfold PK.dL deL at hx;split at hx
 ·obtain ⟨k,hk,rfl⟩:=HG.1 hx
  have:=(gz (gs:=p.gs) (l:=Dn p.ls p.tk) (t:=p.tk) (n:=p.nx) (am:=FJ p.gs p.ra (HT p.EP p.os p.ks p.gs p.bs (Dn p.ls p.tk) p.dm p.tk)<|M p.gs)<|At _).1.at_ (k:Y) A0 A0
  have:=this.1
  rw [La yo] at this;simp only [By] at this;rw [this]
 ·cases hx
def ahl {p:PK}(hv:VP p) (h:∀l∈p.lk,p.tk<=l.1/\l.1<=p.tk+3/\l.2.2.2.2.2=12):∀l∈p.AM.lk,p.tk<=l.1/\l.1<=p.tk+4/\l.2.2.2.2.2=12:=by
 unfold PK.AM;split
 ·exact λl hl=>by have:=h l hl;omega
 ·split
  ·exact λl hl=>by have:=h l hl;omega
  ·intro l hl
   rcases (rN (t:=p.tk) (xs:=p.dL) (s:=p.HA) _<|At _).1 l hl with e|⟨x,hx,rfl⟩
   ·have:=h l e;omega
   ·have h1:=(aBP x hx).1
    have h2:=hv.tk
    have h3:0<=(7*p.tk+3*x.2.1).tmod 5/\(7*p.tk+3*x.2.1).tmod 5<=4:=by
     rw [xE A0];omega
    exact ⟨aP9,aP9,amw x hx⟩
def U8 {p:PK}(hv:VP p):∀j:Y,0<=j->j<(M p.dr:Y)->-200<=gi p.dr j/\gi p.dr j<=200:=λj j0 j1=>by
 have:=BO.1 hv.dr8 (gi p.dr j)<|Kc j0 j1
 rwa [BV] at this
def FI.tick {p:PK}(h:FI p) (hv:VP p) (ht:p.tk≠1000000):FI p.Bh:=by
 obtain ⟨e1,e2,e3,e4,e5,e6,e7,e8,e9,e10,e11,e12,e13,e14⟩:=KO p
 have htk:=hv.tk
 have hl:=ahl hv h.lk
 have hvd:=hv.dec
 have s0:CX p.AM.gs (H9 p.AM.gs λ_=>12) p.AM.st:=by rw [e4,e8];exact h.st
 have s1:CX p.AM.gs (H9 p.AM.gs λ_=>12) p.AM.JO.st:=s0.arr (t:=p.AM.tk) (λl hl'=>⟨hvd.lk l hl',λ_ s hs=>hs.gv (.inl Ab) (λ_=>by have:=(hl l hl').2.2;(try simp only []);omega)⟩) _<|At _
 have s2:CX p.AM.gs (H9 p.AM.gs λ_=>12) p.Ay.st:=by
  have:=aBK (t:=p.AM.tk) (dr:=p.AM.dr) s1 (λ_=>Ab) (U8 hvd) hvd.dr (by rw [e6];omega) (M p.AM.dr)<|At _
  refine ⟨this.1,λj j0 j1=>(this.2 j j0 j1).le ?_⟩
  rw [AD (by rw [hvd.dr];exact j1)]
  have ho:0<=OJ p.AM.dr p.AM.tk j:=by
   have hd:=U8 hvd j j0 (by rw [hvd.dr];exact j1)
   unfold OJ BE;rw [AD aPh,AD aPh]
   have:p.AM.tk*(1000000+gi p.AM.dr j)<=(p.AM.tk+1)*(1000000+gi p.AM.dr j):=M6 A0 A0
   have:=xg (by decide:(0:Y)<1000000) this
   omega
  split<;>omega
 have s3:CX p.AM.gs (H9 p.AM.gs λ_=>12) p.Ay.dw.st:=CX.dw s2 (λj s hs=>hs.gv (.inr Ab) λhk=>NG) _<|At _
 refine ⟨s3,λl hl'=>?_,?_⟩
 ·have hm:l∈p.AM.lk/\an (l.1>p.AM.tk)=true:=CS.1 hl'
  have:=hl l hm.1
  have h2:=D5 hm.2
  rw [e6] at h2
  have et:p.Bh.tk=p.tk+1:=by show p.AM.tk+1=_;rw [e6]
  rw [et];omega
 ·show ∀c∈p.AM.ca,_
  rw [e9];exact h.ca
def FI.step {p:PK}(h:FI p) (hv:VP p) {e:EV}(he:BC p e=0) (hw:e.ek≠7) (hc:e.c.1≠4):FI (An p e):=by
 unfold An;rw [AE A0];unfold BC at he;rw [AE mm] at he;split
 ·rename_i h1
  rw [AD h1] at he;unfold PK.IX at he;exact h.tick hv λhh=>aPg
 rename_i h1;rw [AE h1] at he
 have cr:∀ {i:Y},p.isC i≠X->0<=i/\i<(M p.gs:Y):=λ{i} hh=>by
  exact aNb
 split
 ·rename_i h2
  rw [AD h2] at he;unfold PK.GI at he;split at he
  ·cases he
  rename_i hi;obtain ⟨i0,i1⟩:=cr hi;refine {h with st:=?_,ca:=λc hc'=>?_}
  ·exact (((h.st.gv i0 i1 λhs=>hs.gv (.inl Ab) λhk=>NG).gv i0 i1 λhs=>hs.gv (.inl Ab) λhk=>NG).gv i0 i1 λhs=>hs.gv (.inl Ab) λhk=>NG).gv i0 i1 λhs=>hs.gv (.inl Ab) λhk=>NG
  ·rcases OU hc' with hx|rfl
   ·exact h.ca c hx
   ·exact hc
 rename_i h2;rw [AE h2] at he;split
 ·rename_i h3
  rw [AD h3] at he;unfold PK.JB at he;split at he
  ·cases he
  rename_i hi;obtain ⟨i0,i1⟩:=cr hi;refine {h with st:=?_,ca:=λc hc'=>?_}
  ·exact (h.st.gv i0 i1 λhs=>hs.gv (.inr Ab) λhk=>NG).gv i0 i1 λhs=>hs.gv (.inl Ab) λhk=>NG
  ·rcases OU hc' with hx|rfl
   ·exact h.ca c hx
   ·decide
 rename_i h3;rw [AE h3] at he;split
 ·exact {h with lk:=λl hl=>h.lk l (CS.1 hl).1}
 rename_i h4;rw [AE h4] at he;split
 ·exact {h with}
 rename_i h5;rw [AE h5] at he;split
 ·exact {h with}
 rename_i h6;rw [AE h6] at he;exact {h with}
structure FG (T:Y) (p:PK):Prop where
 up:p.up=X
 tk:0<=T/\T<=p.tk
 st:CX p.gs (H9 p.gs (λj=>if p.tk<T+4 then 12 else (if 12-(BE p.tk (gi p.dr j)-BE (T+4) (gi p.dr j))<0 then 0 else 12-(BE p.tk (gi p.dr j)-BE (T+4) (gi p.dr j))))) p.st
 lk:∀l∈p.lk,p.tk<=l.1/\l.1<=T+3/\l.2.2.2.2.2=12
 ca:∀c∈p.ca,c.1≠4
def pQ {d t t':Y}(hd:-200<=d/\d<=200) (h0:0<=t) (h1:t<=t') (h2:t'<=1000000):BE t d<=BE t' d:=by
 unfold BE;rw [AD VZ,AD VZ];exact xg (by decide:(0:Y)<1000000)<|M6 h1 A0
def FG.bef {T:Y}{p:PK}(h:FG T p) (hv:VP p) (ht:p.tk<1000000) (hT:T+4<=1000000):CX p.gs (H9 p.gs (λj=>if p.tk+1<T+4 then 12 else (if 12-(BE (p.tk+1) (gi p.dr j)-BE (T+4) (gi p.dr j))<0 then 0 else 12-(BE (p.tk+1) (gi p.dr j)-BE (T+4) (gi p.dr j))))) p.Ay.st:=by
 have hd:p.AM=p:=aOo
 have htk:=hv.tk
 have hT0:=h.tk
 unfold PK.Ay;rw [hd]
 have s1:CX p.gs (H9 p.gs (λj=>if p.tk<T+4 then 12 else (if 12-(BE p.tk (gi p.dr j)-BE (T+4) (gi p.dr j))<0 then 0 else 12-(BE p.tk (gi p.dr j)-BE (T+4) (gi p.dr j))))) p.JO.st:=
  h.st.arr (t:=p.tk) (λl hl'=>⟨hv.lk l hl',λ_ s hs=>hs.gv (.inl Ab) (λ_=>by have:=h.lk l hl';(try simp only []);rw [AD A0];omega)⟩) _ (At _)
 have:=aBK (t:=p.tk) (dr:=p.dr) s1 (λj=>by (try simp only []);split<;>(try split)<;>omega) (U8 hv) hv.dr A0 (M p.dr)<|At _
 refine ⟨this.1,λj j0 j1=>(this.2 j j0 j1).le ?_⟩
 have hj:j<(M p.dr:Y):=ya
 have hdj:=U8 hv j j0 hj
 (try simp only [])
 rw [AD hj];unfold OJ
 have m1:=pQ (t:=p.tk) (t':=p.tk+1) hdj htk.1 A0 A0
 by_cases c1:p.tk<T+4
 ·rw [AD c1]
  by_cases c2:p.tk+1<T+4
  ·rw [AD c2];split<;>omega
  ·have e4:p.tk+1=T+4:=A0
   have e5:BE (p.tk+1) (gi p.dr j)=BE (T+4) (gi p.dr j):=by rw [e4]
   rw [AE c2];exact aM9
 ·have m2:=pQ (t:=T+4) (t':=p.tk) hdj A0 A0 A0
  have c2:¬p.tk+1<T+4:=A0
  rw [AE c1,AE c2];exact aM9
def aww {c:Ca}{m:Mi}{al:Y}(hm:IE m=U) (ha:0<=al) (h4:c.1≠4):Gx c m al<=al:=by
 have hm:=di.1 hm
 unfold Gx
 repeat' split
 all_goals omega
def D1.le {d:D1}(h:d.ok=U) (h4:d.c.1≠4):d.a<=d.al:=by
 unfold D1.ok at h;simp only [AY,D2,CQ,D3] at h
 have hB:dwB d.c d.m d.ph d.al=true:=by
  exact aNQ
 obtain ⟨hc,hm,h1,h2,h3,h5,_⟩:=eh.1 hB
 have ea:d.a=FC d.c d.m d.ph d.al:=aOn
 have:=aww (c:=d.c) hm h3 h4
 rw [ea];unfold FC;split<;>omega
def an2 {ca:aW0}(h:∀c∈ca,c.1≠4) (i:Y):(Be ca i).1≠4:=by
 unfold Be;rw [DJ];cases hx:ca[i.toNat]? with
 |none=>simp
 |some y=>exact h y<|OP hx
def aTv {gs:aWh}{ca:aW0}(h:∀c∈ca,c.1≠4) {s:DW}:∀n,(FL gs ca s n).st=s.st
 |0=>rfl
 | n+1=>by
  have ih:=aTv (gs:=gs) h (s:=s) n
  show (H6 gs ca (FL gs ca s n) n).st=s.st
  cases hk:(d1 gs ca (FL gs ca s n) n).ok
  ·rw [ai4 hk];exact ih
  ·rw [auO hk]
   have:=D1.le hk<|an2 h n
   (try simp only [])
   rw [AE A0];exact ih
def FG.tick {T:Y}{p:PK}(h:FG T p) (hv:VP p) (ht:p.tk<1000000) (hT:T+4<=1000000):FG T p.Bh:=by
 have hb:=h.bef hv ht hT
 have hd:p.AM=p:=aOo
 have hT0:=h.tk
 have e:p.Ay=p.JO.V1:=by unfold PK.Ay;rw [hd]
 have et:p.Bh.tk=p.tk+1:=by show p.Ay.tk+1=_;rw [e];rfl
 have eg:p.Bh.gs=p.gs:=by show p.Ay.gs=_;rw [e];rfl
 have ed:p.Bh.dr=p.dr:=by show p.Ay.dr=_;rw [e];rfl
 refine ⟨by show p.Ay.up=X;rw [e];exact h.up,by rw [et];omega,?_,?_,?_⟩
 ·have es:p.Bh.st=p.Ay.st:=aTv (by show ∀c∈p.Ay.ca,_;rw [e];exact h.ca) _
  rw [es,eg,et,ed];exact hb
 ·intro l hl
  have hm:l∈p.Ay.lk:=hl
  rw [e] at hm
  have hm2:l∈p.lk/\an (l.1>p.tk)=true:=CS.1 hm
  have:=h.lk l hm2.1
  have h2:=D5 hm2.2
  rw [et];omega
 ·show ∀c∈p.Ay.ca,_
  rw [e];exact h.ca
structure K7 (C cs:aWl):Prop where
 len:M cs=M C
 up:∀o:aWe,(Ae cs o).2.1=(Ae C o).2.1
 lim:∀o:aWe,DE (Ae C o)<=DE (Ae cs o)
def K7.on {C cs:aWl}(h:K7 C cs) {o:Y}:∀(k:aWe) (c:Y),GU k cs o c=GU k C o c
 |0,_=>rfl
 | k+1,c=>by
  simp only [GU];split
  ·rename_i c0
   have e:=h.up c.toNat
   rw [CP c0] at e;rw [e,h.on k]
  ·rfl
def K7.bel {C cs:aWl}(h:K7 C cs) {gs:aWh}{o:Y}{k:aWe}:Cv cs gs o k=Cv C gs o k:=by
 unfold Cv Fk;simp only [h.on]
section
variable {cs C : List Cd} {os : List ByteArray} {ks : List Ko} {gs : List Ch} {bs : List Ba} {l : List Le} {rs : List Ra} {d : List Dm} {t n : Int}
def fM (hC:BH C os ks gs bs=U) (hs:BH cs os ks gs bs=U) (hL:K7 C cs) {a b:aWd}(hb:∀k:aWe,k<M gs->0<=gi b k/\gi b k<=80)
  (ha:∀k:aWe,k<M gs->0<=gi a k/\gi a k<=gi b k) (h:E9 C gs b=U):E9 cs gs a=true:=by
 rw [fN hC hb] at h;rw [fN hs λk hk=>⟨(ha k hk).1,Hl (ha k hk).2 (hb k hk).2⟩]
 intro o ho p hp;rw [hL.bel];refine Hl (tA λk hk=>?_)<|Hl (h o aPL p hp)<|hL.lim o
 have hk:=dJ (CS.1 hk).1
 have:=(ha k.toNat A0).2
 rwa [CP hk.1] at this
def aqD {B N:aWn}(bv:B4 B=U) (bb:below (M gs) B=U) (nv:B4 N=U) (nb:below (M gs) N=U) {t t':Y}(h:∀x∈N,H4 t' x=U->x∈B/\H4 t x=U) {j:Y}(j0:0<=j):
  gi (H3 (M gs) N t') j<=gi (H3 (M gs) B t) j:=
 aJF nv nb j0 (Xm (a:=0) (b:=80) Ab<|fE bv).1 λx hx ha e=>by
  obtain ⟨h1,h2⟩:=h x hx ha
  have:=aJG bv bb h1 h2
  rwa [e] at this
def qq {B N:aWn}(bv:B4 B=U) (bb:below (M gs) B=U) (nv:B4 N=U) (nb:below (M gs) N=U) {t t':Y}(h:∀x∈N,H4 t' x=U->x∈B/\H4 t x=U) {j:Y}(j0:0<=j) (j1:j<(M gs:Y)):
  gi (DO gs N t') j<=gi (DO gs B t) j:=by
 have:=aqD bv bb nv nb h j0
 rw [WS j0 j1,WS j0 j1];unfold mx;split<;>split<;>omega
def aH5 {t t':Y}{x:Le}(ht:t<=t') (hx:x.2.2.2.1<=t) (h:H4 t' x=U):H4 t x=true:=by
 unfold H4 at h|-;simp only [AY,Aa] at h|-;omega
def aow (V:Vd C os ks gs bs l rs d t n) (hs:BH cs os ks gs bs=U) (hL:K7 C cs) {m:aWn}(M:NwL gs (FJ gs rs (HT C os ks gs bs l d t)<|aa gs) t n m) {B N:aWn}
  (bv:B4 B=U) (bb:below (aa gs) B=U) (nv:B4 N=U) (nb:below (aa gs) N=U) (hB:∀x∈B,x.2.2.2.1<=t/\(DH x>t->x∈l)) (hN:∀x∈N,x∈B\/x∈m)
  (hk:E9 cs gs (DO gs B t)=U) {t':Y} (ht:t<=t'):E9 cs gs (DO gs N t')=true:=by
 rw [fN hs λk hk=>Oj hs nv A0 A0]
 rw [fN hs λk hk=>Oj hs bv A0 A0] at hk
 intro o ho p hp
 have h1:=hk o ho p hp
 rw [hL.bel] at h1|-
 have hin:∀k∈Bx gs p (Cv C gs o<|aa gs),0<=k/\k<(aa gs:Y):=λk hk=>dJ (CS.1 hk).1
 have hBl:∀j:Y,0<=j->j<(aa gs:Y)->gi (DO gs B t) j<=gi (DO gs l t) j:=λj j0 j1=>
  qq V.les V.co bv bb (λx hx ha=>⟨(hB x hx).2 (by unfold H4 at ha;simp only [AY,Aa] at ha;exact ha.2),ha⟩) j0 j1
 have hmx:∀k∈Bx gs p (Cv C gs o<|aa gs),gi (DO gs N t') k<=mx (gi (DO gs B t) k) (gi (FJ gs rs (HT C os ks gs bs l d t)<|aa gs) k):=λk hk=>by
  obtain ⟨j0,j1⟩:=hin k hk
  have hj:=(aaK V j0 j1).1
  have key:gi (H3 (aa gs) N t') k<=mx (gi (H3 (aa gs) B t) k) (gi (FJ gs rs (HT C os ks gs bs l d t)<|aa gs) k):=by
   have a0:0<=gi (H3 (aa gs) B t) k:=(Xm (a:=0) (b:=80) Ab<|fE bv).1
   refine aJF nv nb j0 (by unfold mx;split<;>omega) λx hx ha e=>?_
   rcases hN x hx with h|h
   ·have:=aJG bv bb h (aH5 ht (hB x h).1 ha)
    rw [e] at this;unfold mx;split<;>omega
   ·obtain ⟨i,hi,rfl⟩:=HG.1 h
    have q:=(M.at_ i A0 A0).1
    rw [La A0] at q;simp only [By] at q
    have:=B3 (λz:Le=>z.2.2.1) q
    simp only [e] at this;unfold mx;split<;>omega
  rw [WS j0 j1,WS j0 j1];unfold mx at key|-;split<;>split<;>split at key<;>(try split)<;>omega
 by_cases hl:aa (Bx gs p<|Cv C gs o<|aa gs)>0
 ·have hr:=BO.1 (avz V) _ (aFm hp hl aPL)
  unfold rowB at hr;rw [Cj] at hr;rcases hr with hr|hr
  ·refine Hl (tA λk hk=>?_) h1
   have h2:=hmx k hk
   have h3:gi (FJ gs rs (HT C os ks gs bs l d t)<|aa gs) k=0:=by simpa using BO.1 hr k hk
   have h4:=Oj (t2:=t) hs bv (hin k hk).1 (hin k hk).2
   rw [h3] at h2;unfold mx at h2;split at h2<;>omega
  ·refine Hl (aQF λk hk=>Hl (hmx k hk) ?_) (Hl (D5 hr)<|hL.lim o)
   have:=hBl k (hin k hk).1 (hin k hk).2
   unfold mx;split<;>split<;>omega
 ·have e:Bx gs p (Cv C gs o<|aa gs)=[]:=xM A0
  rw [e] at h1|-;exact h1
end
def aUR:aWf->T LV
 | [.v (ag J r),.v (ag J m)]=> .req ((0<=r/\r<=1000000)/\0<=m/\m<=3000000) (.ok<|.v<|ag J<|m*r / 1000000)
 |_=> .no
def ab6:aWp:=[]
def aki:=vo (S:=aUR) func77 ab6 kN (λargs lv h=>by
 unfold aUR at h;split at h
 ·rename_i r m
  refine Aq (.req ((1000000:Y)≠0)<|.ok<|AA<|(AA<|m*r).tdiv 1000000) ?_;obtain ⟨⟨hr,hm⟩,rfl⟩:=h
  have h1:=anw (a:=m) (b:=r) hm.1 hm.2 hr.1 hr.2
  refine ⟨A0,B3 (λz=>LV.v<|ag J z) ?_⟩
  rw [AJ (x:=m*r),IL h1.1,AJ]
 ·cases h)
def aLA:aWf->T LV
 | [.v (ag J n)]=> .ok (inB n 0 1000000)
 |_=> .no
def aPr:=vo (S:=aLA) func75 ab6 kN (λargs lv h=>by
 unfold aLA at h;split at h
 ·rename_i n
  refine Aq (.ok<|.v<|.bool<|(an<|n>=0)&&(an<|n<=1000000)) ?_;exact h
 ·cases h)
structure PR where
 (low high r n:Y)
def aAV (s:PR):T (Rd PR):=letI a:=AA<|s.low+(AA<|(AA<|s.high-s.low).tdiv 2);.br (an<|s.low<s.high) (.req ((2:Y)≠0)<|.req ((0<=s.r/\s.r<=1000000)/\0<=a/\a<=3000000)<|.br (an<|(a*s.r / 1000000)>=s.n) (.nx {s with high:=a})<|.nx {s with low:=AA<|a+1})<|.so (.exit 0) s
def k7 (s:PR):Prop:=s.low=0/\s.high=2*s.n+2/\s.r=999800/\0<=s.n/\s.n<=1000000
def YN (s:PR):Prop:=(0<=s.low/\s.low<=wt s.n)/\(wt s.n<=s.high/\s.high<=2*s.n+2)/\s.r=999800/\0<=s.n/\s.n<=1000000
def fz (s:PR):aWe:=(s.high-s.low).toNat
def aBU (x:Ex) (s s':PR):Prop:=x=.exit 0/\s'.low=wt s'.n
def amY:∀s,k7 s->YN s:=by
 rintro s ⟨h0,h1,h2,h3,h4⟩
 have:=aVO h3
 exact yE
def afy:Da YN fz aBU aAV:=by
 intro s hI;obtain ⟨⟨h0,h1⟩,⟨h2,h3⟩,h4,h5,h6⟩:=hI;refine AH (λc1=>?_) λc1=>?_
 ·have c1:s.low<s.high:=AX
  have hd:(s.high-s.low).tdiv 2=(s.high-s.low) / 2:=IL A0
  have hm:AA (s.low+AA ((AA<|s.high-s.low).tdiv 2))=s.low+(s.high-s.low) / 2:=by
   rw [AJ (x:=s.high-s.low),hd,AJ (x:=(s.high-s.low) / 2),AJ]
  rw [hm];refine AH (λc2=>?_) λc2=>?_
  ·rw [Aa,h4,aPx] at c2
   exact ⟨⟨⟨h0,h1⟩,⟨AZ,AZ⟩,h4,h5,h6⟩,by simp only [fz];omega⟩
  ·rw [DC,h4,aPx] at c2
   rw [AJ (x:=s.low+(s.high-s.low) / 2+1)];exact ⟨⟨⟨A8,AZ⟩,⟨h2,h3⟩,h4,h5,h6⟩,by simp only [fz];omega⟩
 ·have c1:s.high<=s.low:=AX
  exact VM
def Z3:AS PR:=⟨3,24,[0,1,2],[],λs=>[s.low,s.high,.fn 103 [.own 1 0,.own 0 0,.own 2 0]],λs=>[⟨[s.r],165,.cl,X⟩,⟨[.fn 77 []],166,.cl,X⟩,⟨[s.n],3,.cl,X⟩],λv b=>⟨AK v 0,AK v 1,Aj b 0 0,Aj b 2 0⟩,aAV,λs r=> {r with r:=s.r,n:=s.n},λs=>s,λ_ s=>s,[.exit 0],k7,YN,fz⟩
abbrev aHq:=Z3.run
abbrev avI:=Z3.As
def UF:aWp:=[aPr,aki]
def amJ:B1:=kI UF<|l0 UF
def azc:Rq YN aAV:=by
 intro s hI;refine ⟨λc1=>⟨?_,?_,λ_=>trivial,λ_=>trivial⟩,λ_=>trivial⟩
 all_goals ((obtain ⟨⟨h0,h1⟩,⟨h2,h3⟩,h4,h5,h6⟩:=hI;simp only [Aa] at c1;first|decide|(have hd:(s.high-s.low).tdiv 2=(s.high-s.low) / 2:=IL A0;have hm:AA (s.low+AA ((AA<|s.high-s.low).tdiv 2))=s.low+(s.high-s.low) / 2:=(by rw [AJ (x:=s.high-s.low),hd,AJ (x:=(s.high-s.low) / 2),AJ]);rw [hm];omega)))
def aSW:Z3.Ok:={}
def aQo:Z3.Pf (aBU):=⟨amY,λs h=>rfl,afy,azc⟩
def arQ:=s2 (b:=bN f102 0) aSW aQo UF amJ
def auH:Fi k7 YN aBU avI aHq:=AS.fin aSW aQo
def aJJ:aWf->T LV
 | [.v (ag J n)]=> .tu #[wtA n,wtE n]
 |_=> .no
def amI:B1:=kI UF<|la 1 func102 arQ<|l0 UF
def ax9:=vo (S:=aJJ) func40 UF amI (λargs lv h=>by
 unfold aJJ at h;split at h
 ·rename_i n
  refine Aq (.br (!(inB n 0 1000000)) (.tu #[(0:Y),(1:Y)])<|.req (Z3.q (⟨0,(AA<|(AA<|2*n)+2),999800,n⟩:PR))<|.tu #[(aHq (⟨0,(AA<|(AA<|2*n)+2),999800,n⟩:PR)).low,(0:Y)]) ?_;obtain rfl:=h;refine ⟨λc=>?_,λc=>?_⟩
  ·have c:=ntW c
   unfold wtA wtE;rw [c];rfl
  ·have c:=nfW c
   have hb:=BV.1 c
   have hE:k7 ⟨0,AA<|AA (2*n)+2,999800,n⟩:=⟨rfl,by
    rw [AJ (x:=2*n),AJ],rfl,hb.1,hb.2⟩
   obtain ⟨_,_,_,q⟩:=auH _ hE;refine ⟨⟨hE,rfl,rfl⟩,?_⟩;rw [q];unfold wtA wtE;rw [AD c,AD c];exact rfl
 ·cases h)
def aUC:aWf->T LV
 | [.v (ag J n),.v (ag J a),.v (ag J b)]=> .ok (inB n a b)
 |_=> .no
def ab5:aWp:=[]
def zV:=vo (S:=aUC) func19 ab5 kN (λargs lv h=>by
 unfold aUC at h;split at h
 ·rename_i n a b
  refine Aq (.ok<|.v<|.bool<|(an<|n>=a)&&(an<|n<=b)) ?_;exact h
 ·cases h)
def aL5:aWf->T LV
 | [.v (.agg ⟨[ag J nu,ag J co,ag J am,ag J fr,ag J tk]⟩)]=> .ok (DI (nu,co,am,fr,tk))
 |_=> .no
def anh:aWp:=[zV]
def aPp:=vo (S:=aL5) func38 anh kN (λargs lv h=>by
 unfold aL5 at h;split at h
 ·rename_i nu co am fr tk
  refine Aq (.ok<|.v<|.bool<|(inB nu (1:Y) (1000000:Y))&&((inB co (0:Y) (15:Y))&&((inB am (0:Y) (80:Y))&&((inB fr (0:Y) (1000000:Y))&&(inB tk (1:Y) (1000:Y)))))) ?_;exact h
 ·cases h)
def aUD:aWf->T LV
 | [.v (.agg ⟨[ag J nu,ag J co,ag J am,ag J fr,ag J tk]⟩),.v (.agg ⟨[ag J nu2,ag J co2,ag J am2,ag J fr2,ag J tk2]⟩)]=> .ok (K4 (nu,co,am,fr,tk) (nu2,co2,am2,fr2,tk2))
 |_=> .no
def aVF:=vo (S:=aUD) func39 ab5 kN (λargs lv h=>by
 unfold aUD at h;split at h
 ·rename_i nu co am fr tk nu2 co2 am2 fr2 tk2
  refine Aq (.ok<|.v<|.bool<|(an<|nu2>nu)&&(an<|fr2>=fr)) ?_;exact h
 ·cases h)
def aL6:aWf->T LV
 | [.v (.agg ⟨[ag J nu,ag J co,ag J am,ag J fr,ag J tk]⟩)]=> .req ((0<=fr/\fr<=1000000)/\0<=tk/\tk<=1000000) (.ok<|DH (nu,co,am,fr,tk))
 |_=> .no
def ang:aWp:=[ax9]
def aPq:=vo (S:=aL6) func20 ang kN (λargs lv h=>by
 unfold aL6 at h;split at h
 ·rename_i nu co am fr tk
  refine Aq (.br ((wtE tk) !=0) (.ok fr)<|.ok<|AA<|(AA<|fr+10)+(wtA tk)) ?_;obtain ⟨⟨hf,ht⟩,rfl⟩:=h
  have c:=BV.2 ht
  have hw:=aVO ht.1
  have ea:wtA tk=wt tk:=by unfold wtA;rw [AD c]
  have ee:wtE tk=0:=by unfold wtE;rw [AD c]
  rw [ea,ee,AJ (x:=fr+10),AJ];exact ⟨λh=>Ao,λ_=>rfl⟩
 ·cases h)
structure O1 where
 l:aWn
 r:aWo
 m:aWn
 (n i:Y)
def aHQ:=bN f18 0
def iD (s:O1):T (Rd O1):=
 .br (an<|s.i<s.n) (.ix s.i (M s.m)<|.br (!(DI<|Ag s.m s.i)) (.so (.ret) {s with r:=X})<|.br (an<|s.i>0) (.ix (AA<|s.i-1) (M s.l)<|.br (!(K4 (Ag s.l<|AA<|s.i-1)<|Ag s.m s.i)) (.so (.ret) {s with r:=X})<|.nx {s with i:=AA<|s.i+1})<|.nx {s with i:=AA<|s.i+1}) (.so (.exit 0) s)
def lL (s:O1):Prop:=s.i=0/\s.n=(M s.l:Y)/\s.n<=1000/\s.m=s.l
def YM (s:O1):Prop:=(0<=s.i/\s.i<=s.n)/\s.n=(M s.l:Y)/\s.n<=1000/\s.m=s.l/\∀j:aWe,(j:Y)<s.i->Gy s.l j=U
def fy (s:O1):aWe:=(s.n-s.i).toNat
def aBT (x:Ex) (s s':O1):Prop:=(x=.exit 0/\∀j:aWe,(j:Y)<s'.n->Gy s'.l j=U)\/(x=.ret/\s'.r=X/\∃j:aWe,(j:Y)<s'.n/\Gy s'.l j=X)
def amX:∀s,lL s->YM s:=by
 rintro s ⟨h0,h2,h3,h4⟩
 exact ⟨A0,h2,h3,h4,λj hj=>A0⟩
def afv:Da YM fy aBT iD:=by
 intro s hI;unfold iD;obtain ⟨⟨h0,h1⟩,h2,h3,h4,hA⟩:=hI;refine AH (λc1=>?_) λc1=>?_
 ·refine AH (λc2=>?_) (λc2=>?_)
  ·have c1:s.i<s.n:=AX
   rw [h4] at c2;refine .inr ⟨rfl,rfl,s.i.toNat,AZ,?_⟩;rw [CP h0];unfold Gy;rw [ntW c2];rfl
  ·refine AH (λc3=>?_) (λc3=>?_)
   ·refine AH (λc4=>?_) (λc4=>?_)
    ·have c1:s.i<s.n:=AX
     rw [h4] at c2
     have c3:0<s.i:=NF
     rw [AJ (x:=s.i-1),h4] at c4;refine .inr ⟨rfl,rfl,s.i.toNat,AZ,?_⟩;rw [CP h0];unfold Gy;rw [nfW c2,IP A0,ntW c4];rfl
    ·have c1:s.i<s.n:=AX
     rw [h4] at c2
     have c3:0<s.i:=NF
     rw [AJ (x:=s.i-1),h4] at c4
     have hg:Gy s.l s.i=true:=by unfold Gy;rw [nfW c2,IP A0,nfW c4];rfl
     rw [AJ (x:=s.i+1)]
     exact ⟨⟨⟨AZ,AZ⟩,h2,h3,h4,λj hj=>by
      by_cases e:(j:Y)<s.i
      ·exact hA j e
      ·have e:(j:Y)=s.i:=ml
       show Gy s.l j=U
       rw [e];exact hg⟩,by simp only [fy];omega⟩
   ·have c1:s.i<s.n:=AX
    rw [h4] at c2
    have hg:Gy s.l s.i=true:=by unfold Gy;rw [nfW c2,Cg nB];rfl
    rw [AJ (x:=s.i+1)]
    exact ⟨⟨⟨AZ,AZ⟩,h2,h3,h4,λj hj=>by
     by_cases e:(j:Y)<s.i
     ·exact hA j e
     ·have e:(j:Y)=s.i:=ml
      rw [e];exact hg⟩,by simp only [fy];omega⟩
 ·have c1:s.n<=s.i:=AX
  exact .inl ⟨rfl,λj hj=>hA j A0⟩
def RX:AS O1:=⟨0,33,[0,2,8,9,10],[],λs=>[s.l,s.r,s.m,s.n,s.i],λ_=>[],λv b=>⟨Az AQ v 0,DQ v 1,Az AQ v 2,AK v 3,AK v 4⟩,iD,λs r=> {s with r:=r.r,i:=r.i},λs=>s,λ_ s=>s,[.ret,.exit 0],lL,YM,fy⟩
abbrev aHp:=RX.run
abbrev aJW:=RX.As
def azb:Rq YM iD:=by
 intro s hI;refine ⟨λc1=>⟨?_,λ_=>trivial,λc2=>⟨λc3=>⟨?_,λ_=>trivial,λ_=>trivial⟩,λ_=>trivial⟩⟩,λ_=>trivial⟩
 all_goals ((obtain ⟨⟨h0,h1⟩,h2,h3,h4,hA⟩:=hI;simp only [Aa] at c1;have hl:M s.m=M s.l:=B3 M h4;first|omega|(simp only [Aa,gt_iff_lt] at c3;rw [AJ (x:=s.i-1)];omega)))
def ab4:aWp:=[aPp,aVF]
def aSV:RX.Ok:={}
def aQn:RX.Pf (aBT):=⟨amX,λs h=>rfl,afv,azb⟩
def arP:SA 0 aHQ RX:=s1 aSV aQn ab4 kN
def auF:Fi lL YM aBT aJW aHp:=AS.fin aSV aQn
def aL1:aWf->T LV
 | [.xl (.pair (.int J) (.pair (.int J) (.pair (.int J) (.pair (.int J) (.int J))))) l]=> .ok (B4 l)
 |_=> .no
def Wf:=vm (S:=aL1) func18 ab4 kN (L:=(λi=>if i=4 then RX.lp else Ak i)) (λb hb=>by
 rw [show BD _=[aHQ] by kernel_rfl] at hb
 simp only [BA,Bu,Bs] at hb;subst hb;exact arP) (λargs lv h=>by
 unfold aL1 at h;split at h
 ·rename_i l
  refine Aq (letI a:=(M l:Y);.br (an<|a>64) (.ok X)<|.req (RX.q (⟨l,X,l,a,0⟩:O1))<|.br (Bb (aJW (⟨l,X,l,a,0⟩:O1))<|.ret) (.ok (aHp (⟨l,X,l,a,0⟩:O1)).r)<|.ok U) ?_;obtain rfl:=h;refine ⟨λc=>B3 (λz=>LV.v<|.bool z) ?_,λc=>?_⟩
  ·have c:64<(M l:Y):=Ir
   unfold B4;rw [IP A0];rfl
  ·have c:(M l:Y)<=64:=Ir
   have hE:lL ⟨l,X,l,(M l:Y),0⟩:=⟨rfl,rfl,AZ,rfl⟩
   refine ⟨⟨hE,rfl,rfl⟩,?_⟩;obtain ⟨_,_,hq⟩:=auF _ hE;rcases hq with ⟨q1,q2⟩ |⟨q1,q2,j,q3,q4⟩<;>rw [q1]
   ·have e:Dp (M l) (Gy l)=true:=Dx.2 (λj hj=>q2 j (by show (j:Y)<(M l:Y);omega))
    unfold B4;rw [Cg A0,e];exact ⟨λh=>Ao,λ_=>rfl⟩
   ·have e:Dp (M l) (Gy l)=false:=Qe j (by have q3:(j:Y)<(M l:Y):=q3;omega) q4
    rw [q2];unfold B4;rw [Cg A0,e];exact ⟨λ_=>rfl,λh=>Ao⟩
 ·cases h)
structure PA where
 tick:Y
 l:aWn
 (n i:Y)
 out:aWn
def aGj:=bN f8 0
def zx (s:PA):T (Rd PA):=letI a:=Ag s.l s.i;.br (an<|s.i<s.n) (.ix s.i (M s.l)<|.req ((0<=a.2.2.2.1/\a.2.2.2.1<=1000000)/\0<=a.2.2.2.2/\a.2.2.2.2<=1000000)<|.br (an<|(DH a)>s.tick) (.rb (M s.out) (M<|[a]) 40<|.re (M s.out+M ([a])) (s.out++([a]))<|.nx {s with i:=AA<|s.i+1,out:=s.out++([a])})<|.rl s.out<|.nx {s with i:=AA<|s.i+1})<|.rl s.out<|.so (.exit 0) s
def kG (s:PA):Prop:=s.i=0/\s.out=[]/\s.n=(M s.l:Y)/\s.n<=1000/\∀x∈s.l,DI x=U
def Xt (s:PA):Prop:=(0<=s.i/\s.i<=s.n)/\s.out=(s.l.take s.i.toNat).filter (L1 s.tick)/\s.n=(M s.l:Y)/\s.n<=1000/\∀x∈s.l,DI x=U
def ux (s:PA):aWe:=(s.n-s.i).toNat
def aBW (x:Ex) (s s':PA):Prop:=x=.exit 0/\s'.out=s'.l.filter (L1 s'.tick)
def an6:∀s,kG s->Xt s:=by
 rintro s ⟨h0,h1,h2⟩
 exact ⟨A0,GD,h2⟩
def ahq:Da Xt ux aBW zx:=by
 intro s hI;obtain ⟨⟨h0,h1⟩,hA,h2,h3,h4⟩:=hI;refine AH (λc1=>?_) λc1=>?_
 ·have c1:s.i<s.n:=AX
  have e:=(WC h0 (show s.i<M s.l by omega)).2
  rw [AJ (x:=s.i+1)];refine AH (λc2=>?_) λc2=>?_
  all_goals
   refine ⟨⟨⟨A8,AZ⟩,?_,h2,h3,h4⟩,by simp only [ux];omega⟩
   simp only
   have c2:L1 s.tick (Ag s.l s.i)=_:=c2
   rw [e,Zu,hA,N8,c2]
   simp
 ·have c1:s.n<=s.i:=AX
  refine ⟨rfl,?_⟩;rw [hA,De A0]
def Rh:AS PA:=⟨0,33,[1,6,17,18,19],[.nl 6 65 AQ],λs=>[s.tick,.os 0 5 0<|M s.out,s.l,s.n,s.i],λs=>[bV 65 AQ s.out],λv b=>⟨AK v 0,Az AQ v 2,AK v 3,AK v 4,Ac AQ b 0⟩,zx,λs r=> {s with i:=r.i,out:=r.out},λs=>s,λ_ s=>s,[.exit 0],kG,Xt,ux⟩
abbrev aDe:=Rh.run
abbrev auV:=Rh.As
def azm:Rq Xt zx:=by
 intro s hI;refine ⟨λc1=>⟨?_,?_,λc2=>⟨?_,?_,ak⟩,λc2=>⟨A9,ak⟩⟩,λc1=>⟨A9,ak⟩⟩
 all_goals ((obtain ⟨⟨h0,h1⟩,hA,h2,h3,h4⟩:=hI;simp only [Aa] at c1;have hv:=LQ.1<|h4 _<|J8 h0 (show s.i<M s.l by omega);have hl:M s.out<=s.i.toNat:=A8;first|omega|(refine ⟨A0,?_,?_⟩<;>simp only [Bj,Bt]<;>omega) |exact ⟨rfl,AI⟩))
def ab3:aWp:=[Wf,zV,aPq]
def aSf:Rh.Ok:={}
def aQR:Rh.Pf (aBW):=⟨an6,λs h=>rfl,ahq,azm⟩
def arY:SA 0 aGj Rh:=s1 aSf aQR ab3 kN
def auw:Fi kG Xt aBW auV aDe:=AS.fin aSf aQR
def aLF:aWf->T LV
 | [.xl (.pair (.int J) (.pair (.int J) (.pair (.int J) (.pair (.int J) (.int J))))) l,.v (ag J t)]=> .ok (.AO [BB l t,Cm l t])
 |_=> .no
def wD:=uS f8 aLF
def fk:VV 8 wD:=vm func8 ab3 kN (L:=(λi=>if i=5 then Rh.lp else Ak i)) (λb hb=>by
 rw [show BD _=[aGj] by kernel_rfl] at hb
 simp only [BA,Bu,Bs] at hb;subst hb;exact arY) (λargs lv h=>by
 unfold aLF at h;split at h
 ·rename_i l t
  refine Aq (letI a:=(aDe (⟨t,l,(M l:Y),(0:Y),([]:aWn)⟩:PA));.br ((!(B4 l)) ||(!(inB t (0:Y) (1100000:Y)))) (.ok<|.AO [.xl AQ ([]:aWn),(1:Y)])<|.r0 Le<|.req (Rh.q (⟨t,l,(M l:Y),(0:Y),([]:aWn)⟩:PA))<|.rz a.out<|.ok<|.AO [((a.out.drop 0).take<|M a.out),(0:Y)]) ?_;obtain rfl:=h;refine ⟨λc=>?_,λc=>?_⟩
  ·have c:JF l t=false:=aO6
   unfold BB Cm;rw [c];rfl
  ·have c:JF l t=true:=aO6
   have hv:B4 l=true:=A8
   have hl:=GH hv
   have hE:kG ⟨t,l,(M l:Y),0,[]⟩:=⟨rfl,rfl,rfl,AZ,hl.2⟩
   obtain ⟨_,_,q1,q2⟩:=auw _ hE
   have q2:(aDe ⟨t,l,(M l:Y),0,[]⟩).out=l.filter (L1 t):=q2
   refine ⟨A9,⟨hE,rfl,rfl⟩,A0,?_⟩
   show LV.AO [LV.xl _ _,_]=_
   unfold BB Cm
   grind
 ·cases h)
structure Nt where
 l:aWn
 (dI tick e:Y)
 m:aWn
 (k i:Y)
def aGz:=bN f86 0
def zj (s:Nt):T (Rd Nt):=
 .br (an<|s.i<s.k) (.ix s.i (M s.m)<|.br (an<|(Ag s.m s.i).2.1>=s.dI) (.so (.ret) {s with e:=(1:Y)})<|.nx {s with i:=AA<|s.i+1}) (.so (.exit 0) s)
def jx (s:Nt):Prop:=s.i=0/\s.k=(M s.m:Y)/\s.k<=1000
def ZR (s:Nt):Prop:=(0<=s.i/\s.i<=s.k)/\s.k=(M s.m:Y)/\s.k<=1000/\∀x∈s.m.take s.i.toNat,x.2.1<s.dI
def vJ (s:Nt):aWe:=(s.k-s.i).toNat
def aBn (x:Ex) (s s':Nt):Prop:=(x=.exit 0/\below s'.dI s'.m=U)\/(x=.ret/\s'.e=1/\below s'.dI s'.m=X)
def aoP:∀s,jx s->ZR s:=by
 rintro s ⟨h0,h1,h2⟩
 exact ⟨A0,h1,h2,GD⟩
def ajA:Da ZR vJ aBn zj:=by
 intro s hI;obtain ⟨⟨h0,h1⟩,h2,h3,h4⟩:=hI;refine AH (λc1=>?_) λc1=>?_
 ·have c1:s.i<s.k:=AX
  refine AH (λc2=>?_) λc2=>?_
  ·refine .inr ⟨rfl,rfl,?_⟩
   unfold below;rw [List.all_eq_false];exact ⟨Ag s.m s.i,J8 h0 A8,EY⟩
  ·rw [AJ (x:=s.i+1)]
   refine ⟨⟨⟨A8,A8⟩,h2,h3,λx hx=>?_⟩,by simp only [vJ];omega⟩
   rw [(WC h0 A8).2,BX,HI] at hx;rcases hx with hx|rfl
   ·exact h4 x hx
   ·simpa using c2
 ·have c1:s.k<=s.i:=AX
  refine .inl ⟨rfl,?_⟩;rw [De A0] at h4;unfold below
  grind
def RG:AS Nt:=⟨0,48,[0,1,2,6,7,26,27,28],[],λs=>[s.l,s.dI,s.tick,.v<|.slice aj 0 0,s.e,s.m,s.k,s.i],λ_=>[],λv b=>⟨Az AQ v 0,AK v 1,AK v 2,AK v 4,Az AQ v 5,AK v 6,AK v 7⟩,zj,λs r=> {s with e:=r.e,i:=r.i},λs=>s,λ_ s=>s,[.ret,.exit 0],jx,ZR,vJ⟩
abbrev aI1:=RG.run
abbrev aJg:=RG.As
def azN:Rq ZR zj:=by
 exact aMB
def R9:aWp:=[Wf,zV,aPq]
def aaQ:B1:=kI R9<|l0 R9
def aSG:RG.Ok:={}
def aRq:RG.Pf (aBn):=⟨aoP,λs h=>rfl,ajA,azN⟩
def arD:SA 0 aGz RG:=s1 aSG aRq R9 aaQ
def awD:Fi jx ZR aBn aJg aI1:=AS.fin aSG aRq
def aAW:Array Tmp×Code×Code:=((Iz<|f86.body.getD .skip)[0]?).getD (#[],.skip,.skip)
def alh:aW8:=aAW.1
def alB:aWO:=aAW.2.1
def alq:aWO:=aAW.2.2
structure Ng where
 m:aWn
 (k i:Y)
 o:aWd
 q:aWn
 t:Y
 st:LS
def zi (s:Ng):T (Rd Ng):=letI b:=Ag s.m s.i;letI c:=s.o.getD b.2.1.toNat<|Ty.dflt A7;letI a:=s.o.set b.2.1.toNat (if c<b.2.2.1 then b.2.2.1 else c);.br (an<|s.i<s.k) (.ix s.i (M s.m)<|.br (an<|b.2.2.2.1>s.t) (.rl s.o<|.so (.exit 0) s)<|.req ((0<=b.2.2.2.1/\b.2.2.2.1<=1000000)/\0<=b.2.2.2.2/\b.2.2.2.2<=1000000)<|.br (an<|(DH b)<=s.t) (.rl s.o<|.nx {s with i:=AA<|s.i+1})<|.ik b.2.1 (M s.o)<|.ik b.2.1 (M s.o)<|.re (M s.o) a<|.nx {s with i:=AA<|s.i+1,o:=a})<|.rl s.o<|.so (.exit 0) s
def jw (s:Ng):Prop:=s.st=.ready/\s.i=0/\s.k=(M s.m:Y)/\s.k<=1000/\(∀x∈s.m,DI x=U/\x.2.1<(M s.o:Y))/\s.m.Pairwise (λa b=>a.1<b.1/\a.2.2.2.1<=b.2.2.2.1)
def kf (s:Ng):Prop:=s.st=.ready/\(0<=s.i/\s.i<=s.k)/\s.k=(M s.m:Y)/\s.k<=1000/\(∀x∈s.m,DI x=U/\x.2.1<(M s.o:Y))/\s.m.Pairwise (λa b=>a.1<b.1/\a.2.2.2.1<=b.2.2.2.1)
def gG (s:Ng):aWe:=(s.k-s.i).toNat
def ac5 (x:Ex) (s s':Ng):Prop:=x=.exit 0
def aoO:∀s,jw s->kf s:=by
 rintro s ⟨h0,h1,h2⟩
 exact ⟨h0,A0,h2⟩
def aj9:Da kf gG ac5 zi:=by
 intro s hI;obtain ⟨hs,⟨h0,h1⟩,h2,h3,h4,h5⟩:=hI;refine AH (λc1=>?_) λc1=>rfl
 have c1:s.i<s.k:=AX
 rw [AJ (x:=s.i+1)];refine AH (λc2=>rfl) λc2=>AH (λc3=>?_) λc3=>?_
 ·exact ⟨⟨hs,⟨A8,AZ⟩,h2,h3,h4,h5⟩,by simp only [gG];omega⟩
 ·exact ⟨⟨hs,⟨A8,A8⟩,h2,h3,λx hx=>A8,h5⟩,by simp only [gG];omega⟩
def Z8:AS Ng:=⟨6,27,[0,2,6,7,8],[],λs=>[.CO 5,.own 4 0,s.m,s.k,s.i],λs=>[bV 3 A7 s.o,⟨[.os 0 1 0<|M s.o],29,.cl,X⟩,⟨[.fn 122 [.own 1 0]],170,.cl,X⟩,⟨[s.q],33,.cl,X⟩,⟨[s.t],3,.cl,X⟩,⟨[.junk,.junk,.junk,.junk,.junk,.junk,.junk,.junk,.junk,.junk,.junk,.own 2 0,.junk,.junk,.junk,.junk,.junk,.junk,.junk,.junk,.junk,.junk,.junk,.junk,.junk,.junk,.junk,.junk,.junk,.junk,.junk,.junk,.junk,.junk,.junk,.junk,.junk,.junk,.junk,.junk,.junk,.junk,.junk,.junk,.junk,.junk,.junk,.junk],0,.Cl alh alB alq s.st,X⟩],λv b=>⟨Az AQ v 2,AK v 3,AK v 4,Ac A7 b 0,AF AQ b 3 0,Aj b 4 0,.ready⟩,zi,λs r=> {r with m:=s.m,k:=s.k,q:=s.q,t:=s.t,st:=s.st},λs=> {s with st:=.ready},λx s=> {s with st:=(match x with| .exit 0=> .ready|_=> .ready)},[.exit 0],jw,kf,gG⟩
abbrev aEA:=Z8.run
abbrev auj:=Z8.As
def azM:Rq kf zi:=by
 intro s hI;refine ⟨λc1=>⟨?_,λc2=>⟨A9,ak⟩,λc2=>⟨?_,λc3=>⟨A9,ak⟩,λc3=>⟨?_,?_,?_,?_,?_,ak⟩⟩⟩,λc1=>⟨A9,ak⟩⟩
 all_goals ((obtain ⟨hs,⟨h0,h1⟩,h2,h3,h4,h5⟩:=hI;simp only [Aa] at c1;have hv:=(h4 _<|J8 h0 (show s.i<M s.m by omega)).2;have hl:=LQ.1 (h4 _<|J8 h0 (show s.i<M s.m by omega)).1;first|omega|exact ⟨rfl,AI⟩))
def aSF:Z8.Ok:={}
def aRp:Z8.Pf (ac5):=⟨aoO,λs h=>by
 obtain ⟨m,k,i,o,q,t,st⟩:=s
 have e:=h.1
 subst e;rfl,aj9,azM⟩
def arC:=s2 (b:=bN f165 0) aSF aRp R9 aaQ
def awC:Rs jw auj aEA (λs:Ng=>((s.m.drop s.i.toNat).filter<|H4 s.t).foldl Jd s.o) (λx s' (v:aWd)=>x=.exit 0/\s'.o=v):=DU aSF aRp (λs hI=>by
  obtain ⟨hs,⟨h0,h1⟩,h2,h3,h4,h5⟩:=hI;refine AH (λc1=>?_) λc1=>?_
  ·have c1:s.i<s.k:=AX
   have e:=(WC h0 (show s.i<(M s.m:Y) by omega)).1
   rw [AJ (x:=s.i+1)];refine AH (λc2=>?_) λc2=>AH (λc3=>?_) λc3=>?_
   ·refine ⟨rfl,?_⟩
    have c2:(Ag s.m s.i).2.2.2.1>s.t:=EY
    have hp:(s.m.drop s.i.toNat).Pairwise (λa b=>a.1<b.1/\a.2.2.2.1<=b.2.2.2.1):=List.Pairwise.sublist (List.drop_sublist _ _) h5
    rw [e,lX] at hp;rw [List.filter_eq_nil_iff.2]
    ·rfl
    ·rw [e]
     intro x hx;unfold H4;rw [IP,QA]
     ·decide
     ·rcases BA.1 hx with rfl|hx
      ·omega
      ·have:=(hp.1 x hx).2
       omega
   ·show List.foldl _ _ _=List.foldl _ _ _
    have c3:DH (Ag s.m s.i)<=s.t:=NF
    have hb:¬H4 s.t (Ag s.m s.i)=true:=by
     unfold H4;rw [IP (p:=DH _>_) A0,Sg]
     decide
    simp only
    grind
   ·show List.foldl _ _ _=List.foldl _ _ _
    have c2:(Ag s.m s.i).2.2.2.1<=s.t:=EY
    have c3:s.t<DH (Ag s.m s.i):=NF
    have hb:H4 s.t (Ag s.m s.i)=true:=by
     unfold H4;rw [Cg c2,Cg c3];rfl
    rw [e,N8,AD hb,KE];rfl
  ·have c1:s.k<=s.i:=A8
   refine ⟨rfl,?_⟩;rw [F6 A0];rfl)
def aKm:aWf->T LV
 | [.xl (.pair (.int J) (.pair (.int J) (.pair (.int J) (.pair (.int J) (.int J))))) l,.v (ag J n),.v (ag J t)]=> .ok (.AO [.xl A7<|HM l n t,Jy l n t])
 |_=> .no
def amH:B1:=kI R9<|la 1 func165 arC<|l0 R9
def Wh:=vm (S:=aKm) func86 R9 amH (L:=(λi=>if i=4 then RG.lp else Ak i)) (λb hb=>by
 rw [show BD _=[aGz] by kernel_rfl] at hb
 simp only [BA,Bu,Bs] at hb;subst hb;exact arD) (λargs lv h=>by
 unfold aKm at h;split at h
 ·rename_i l n t
  refine Aq (letI b:=(aq n.toNat (0:Y));letI d:=(M l:Y);letI a:=(aEA (⟨l,d,0,b,l,t,.ready⟩:Ng));.br ((!(B4 l)) ||((!(inB n (0:Y) (16:Y))) ||(!(inB t (0:Y) (1100000:Y))))) (.ok<|.AO [.xl A7 ([]:aWd),(1:Y)])<|.req (RG.q (⟨l,n,t,0,l,d,0⟩:Nt))<|.br (Bb (aJg (⟨l,n,t,0,l,d,0⟩:Nt))<|.ret) (.ok<|.AO [.xl A7 ([]:aWd),(aI1 (⟨l,n,t,0,l,d,0⟩:Nt)).e])<|.rm 8 n<|.re n.toNat b<|.req (Z8.q (⟨l,d,0,b,l,t,.ready⟩:Ng))<|.rz a.o<|.ok<|.AO [.xl A7<|(a.o.drop 0).take<|M a.o,(0:Y)]) ?_;obtain rfl:=h
  have bad:Kz l n t=X->LV.AO [.xl A7 ([]:aWd),.v<|ag J 1]=LV.AO [.xl A7<|HM l n t,.v<|ag J<|Jy l n t]:=λc=>by
   unfold HM Jy;rw [c];rfl
  refine ⟨λc=>bad ?_,λc=>?_⟩
  ·unfold Kz
   grind
  have c:(B4 l&&(inB n 0 16&&inB t 0 1100000))=true:=A8
  have c':=c
  rw [AY,AY,BV,BV] at c';obtain ⟨hv,hn,ht⟩:=c'
  have hl:=GH hv
  have hE:jx ⟨l,n,t,0,l,(M l:Y),0⟩:=⟨rfl,rfl,AZ⟩
  refine ⟨⟨hE,rfl,rfl⟩,?_⟩;obtain ⟨_,_,hq⟩:=awD _ hE;rcases hq with ⟨q1,q2⟩ |⟨q1,q2,q3⟩<;>rw [q1]
  ·refine ⟨λh=>Ao,λ_=>?_⟩
   have q2:below n l=true:=q2
   have hE2:jw ⟨l,(M l:Y),0,aq n.toNat 0,l,t,.ready⟩:=⟨rfl,rfl,rfl,AZ,λx hx=>⟨hl.2 x hx,by
    have:=D5<|BO.1 q2 x hx
    simp only [Ci];omega⟩,aFQ hv⟩
   obtain ⟨_,q4⟩:=awC _ hE2;refine ⟨A0,⟨rfl,AI⟩,⟨hE2,rfl,rfl⟩,A0,?_⟩;rw [CT,El,q4];unfold HM Jy Kz;rw [c,q2];rfl
  ·have q3:below n l=false:=q3
   rw [q2];exact ⟨λ_=>bad (by unfold Kz;rw [q3,Sg]),λh=>Ao⟩
 ·cases h)
def aL0:aWf->T LV
 | [.v (.agg ⟨[.string nm,ag J at_,ag J ph,ag J mi,ag J ma,ag J st,ag J fb,ag J ow]⟩)]=> .ok (Ed mi ma st)
 |_=> .no
def nW:aWp:=[]
def asP (nm:aWM) (at_ ph mi ma st fb ow:Y):Bl prog AV (nW) kN Ak f215 [.v<|.agg #[.string nm,at_,ph,mi,ma,st,fb,ow]]=.br ((an<|mi<1) ||((an<|mi>ma) ||((an<|ma>80) ||((an<|st<1) ||(an<|st>80))))) (.ok (0:Y)) (.req (st≠0)<|.ok<|AA<|(AA<|(AA<|ma-mi).tdiv st)+2):=AU
def awd:=vo (S:=aL0) func215 nW kN (λargs lv h=>by
 refine ⟨?_⟩;unfold aL0 at h;split at h
 ·simp only [canL,canX]
  rw [asP];rename_i mi ma st _ _;obtain rfl:=h;refine ⟨λc=>B3 (λz=>LV.v<|ag J z) ?_,λc=>⟨?_,B3 (λz=>LV.v<|ag J z) ?_⟩⟩
  ·have:Dr mi ma st=false:=by
    rw [IM];intro h;have:=IQ.1 h;simp at c;omega
   rw [aFd this]
  ·grind
  ·have hh:=IQ.2 VX
   obtain ⟨h1,h2,h3,h4,h5⟩:=IQ.1 hh
   have:=qD (x:=ma-mi) (st:=st) A0 A0
   rw [AJ (x:=ma-mi),IL A0,AJ (x:=(ma-mi) / st),AJ]
   simp [Ed,hh]
 ·cases h)
def aKl:aWf->T LV
 | [.v (.agg ⟨[.string nm,ag J at_,ag J ph,ag J mi,ag J ma,ag J st,ag J fb,ag J ow]⟩),.v (ag J k)]=> .req ((1<=mi/\mi<=80/\1<=st/\st<=80)/\0<=k/\k<=1000) (.ok<|EA mi st k)
 |_=> .no
def au7 (nm:aWM) (at_ ph mi ma st fb ow k:Y):Bl prog AV (nW) kN Ak f189 [.v<|.agg #[.string nm,at_,ph,mi,ma,st,fb,ow],k]=.br (k==0) (.ok (0:Y)) (.ok<|AA<|mi+(AA<|(AA<|k-1)*st)):=AU
def X8:=vo (S:=aKl) func189 nW kN (λargs lv h=>by
 refine ⟨?_⟩;unfold aKl at h;split at h
 ·simp only [canL,canX]
  rw [au7];rename_i mi _ st _ _ k;obtain ⟨⟨⟨h1,h2,h3,h4⟩,h5,h6⟩,rfl⟩:=h;refine ⟨λc=>B3 (λz=>LV.v<|ag J z) ?_,λc=>B3 (λz=>LV.v<|ag J z) ?_⟩
  ·have c:k=0:=A8
   simp [EA,c]
  ·have c:k≠0:=A8
   have:=afq (a:=k-1) (b:=st) A0 A0 A0 A0
   rw [AJ (x:=k-1),AJ (x:=(k-1)*st),AJ]
   simp [EA,c]
 ·cases h)
def aL4:aWf->T LV
 | [.v (.agg ⟨[.string nm,ag J at_,ag J ph,ag J mi,ag J ma,ag J st,ag J fb,ag J ow]⟩),.v (ag J a)]=> .req (a<=9223372036854775807) (.ok<|HY mi ma st a)
 |_=> .no
def aLq:aWp:=[awd]
def att (nm:aWM) (at_ ph mi ma st fb ow a:Y):letI b:=(AA<|(AA<|a-mi).tdiv st)+1;letI c:=Ed mi ma st;Bl prog AV (aLq) kN Ak f187 [.v<|.agg #[.string nm,at_,ph,mi,ma,st,fb,ow],a]=.br ((c==0) ||(an<|a<0)) (.ok<|.v<|ag J (-1)) (.br (an<|a<mi) (.ok (0:Y))<|.req (st≠0)<|.ok<|.v<|ag J (if (AA b)<(AA<|c-1) then AA b else AA (c-1))):=AU
def XA:=vo (S:=aL4) func187 aLq kN (λargs lv h=>by
 refine ⟨?_⟩;unfold aL4 at h;split at h
 ·simp only [canL,canX]
  rw [att];rename_i mi ma st _ _ a;obtain ⟨ha,rfl⟩:=h
  have hb:=aSq (mi:=mi) (ma:=ma) (st:=st)
  refine ⟨λc=>B3 (λz=>LV.v<|ag J z) ?_,λc=>⟨λc2=>B3 (λz=>LV.v<|ag J z) ?_,λc2=>?_⟩⟩
  ·have c:Dr mi ma st=X\/a<0:=by
    simp at c
    rcases c with c|c
    ·left
     cases e:Dr mi ma st with
     |false=>rfl
     |true=>have:=rW e;omega
    ·exact .inr c
   simp only [HY,AD c]
  all_goals
   simp at c c2
   have hh:Dr mi ma st=true:=by
    cases e:Dr mi ma st with
    |true=>rfl
    |false=>exact absurd (aFd e) c.1
   have hn:¬(Dr mi ma st=X\/a<0):=A8
   have:=IQ.1 hh
  ·simp only [HY,AE hn,AD c2]
  ·have:=qD (x:=a-mi) (st:=st) A0 A0
   refine ⟨A0,B3 (λz=>LV.v<|ag J z) ?_⟩
   rw [AJ (x:=a-mi),IL A0,AJ (x:=(a-mi) / st),AJ (x:=(a-mi) / st+1),AJ (x:=Ed mi ma st-1)];simp only [HY,AE hn,AE (show ¬a<mi by omega)]
   omega
 ·cases h)
def aF5:aWf->T LV
 | [.v (.string w)]=> .ok (isIn jM w)
 |_=> .no
def Uz:aWp:=[]
def aG0:=vo (S:=aF5) func207 Uz kN (λargs lv h=>by
 unfold aF5 at h;split at h
 ·rename_i w
  refine Aq (.br (w.toList==(av #[108,105,109,105,116]).toList) (.ok U)<|.br (w.toList==(av #[110,101,117,116,114,97,108]).toList) (.ok U)<|.br (w.toList==(av #[102,117,115,101]).toList) (.ok U)<|.br (w.toList==(av #[116,104,101,114,109,97,108]).toList) (.ok U)<|.br (w.toList==(av #[102,114,111,109]).toList) (.ok U)<|.br (w.toList==(av #[97,116]).toList) (.ok U)<|.br (w.toList==(av #[112,104,97,115,101,115]).toList) (.ok U)<|.br (w.toList==(av #[97,109,112,115]).toList) (.ok U)<|.br (w.toList==(av #[102,97,108,108,98,97,99,107]).toList) (.ok U)<|.br (w.toList==(av #[111,119,110,101,114]).toList) (.ok U)<|.br (w.toList==(av #[99,97,114,100]).toList) (.ok U)<|.br (w.toList==(av #[114,97,110,107]).toList) (.ok U)<|.br (w.toList==(av #[99,104,97,114,103,101,114]).toList) (.ok U)<|.ok X) ?_;obtain rfl:=h;simp only [X9];unfold isIn jM;simp only [Zk,m5];refine ⟨λc0=>z8,λc0=>?_⟩
  rw [c0,D4];refine ⟨λc1=>z9,λc1=>?_⟩
  rw [c1,D4];refine ⟨λc2=>zA,λc2=>?_⟩
  rw [c2,D4];refine ⟨λc3=>zC,λc3=>?_⟩
  rw [c3,D4];refine ⟨λc4=>zD,λc4=>?_⟩
  rw [c4,D4];refine ⟨λc5=>zE,λc5=>?_⟩
  rw [c5,D4];refine ⟨λc6=>by simp [c6,T.all],λc6=>?_⟩
  rw [c6,D4];refine ⟨λc7=>by simp [c7,T.all],λc7=>?_⟩
  rw [c7,D4];refine ⟨λc8=>by simp [c8,T.all],λc8=>?_⟩
  rw [c8,D4];refine ⟨λc9=>by simp [c9,T.all],λc9=>?_⟩
  rw [c9,D4];refine ⟨λc10=>by simp [c10,T.all],λc10=>?_⟩
  rw [c10,D4];refine ⟨λc11=>by simp [c11,T.all],λc11=>?_⟩
  rw [c11,D4];refine ⟨λc12=>by simp [c12,T.all],λc12=>?_⟩
  rw [c12,D4];rfl
 ·cases h)
def aGe:aWf->T LV
 | [.v (.string w)]=> .ok (isIn pj w)
 |_=> .no
def aHZ:=vo (S:=aGe) func208 Uz kN (λargs lv h=>by
 unfold aGe at h;split at h
 ·rename_i w
  refine Aq (.br (w.toList==(av #[115,116,97,114,116]).toList) (.ok U)<|.br (w.toList==(av #[101,110,101,114,103,121]).toList) (.ok U)<|.br (w.toList==(av #[116,105,109,101]).toList) (.ok U)<|.br (w.toList==(av #[105,100,108,101]).toList) (.ok U)<|.br (w.toList==(av #[99,97,112]).toList) (.ok U)<|.br (w.toList==(av #[116,97,120]).toList) (.ok U)<|.ok X) ?_;obtain rfl:=h;simp only [X9];unfold isIn pj;simp only [Zk,m5];refine ⟨λc0=>z8,λc0=>?_⟩
  rw [c0,D4];refine ⟨λc1=>z9,λc1=>?_⟩
  rw [c1,D4];refine ⟨λc2=>zA,λc2=>?_⟩
  rw [c2,D4];refine ⟨λc3=>zC,λc3=>?_⟩
  rw [c3,D4];refine ⟨λc4=>zD,λc4=>?_⟩
  rw [c4,D4];refine ⟨λc5=>zE,λc5=>?_⟩
  rw [c5,D4];rfl
 ·cases h)
def aGc:aWf->T LV
 | [.v (.string w)]=> .ok (isIn words w)
 |_=> .no
def aHY:=vo (S:=aGc) func223 Uz kN (λargs lv h=>by
 unfold aGc at h;split at h
 ·rename_i w
  refine Aq (.br (w.toList==(av #[111,110]).toList) (.ok U)<|.br (w.toList==(av #[119,111,114,107]).toList) (.ok U)<|.br (w.toList==(av #[115,97,116,117,114,100,97,121]).toList) (.ok U)<|.br (w.toList==(av #[115,117,110,100,97,121]).toList) (.ok U)<|.br (w.toList==(av #[98,101,116,119,101,101,110]).toList) (.ok U)<|.br (w.toList==(av #[112,101,114]).toList) (.ok U)<|.br (w.toList==(av #[102,114,101,101]).toList) (.ok U)<|.ok X) ?_;obtain rfl:=h;simp only [X9];unfold isIn words;simp only [Zk,m5];refine ⟨λc0=>z8,λc0=>?_⟩
  rw [c0,D4];refine ⟨λc1=>z9,λc1=>?_⟩
  rw [c1,D4];refine ⟨λc2=>zA,λc2=>?_⟩
  rw [c2,D4];refine ⟨λc3=>zC,λc3=>?_⟩
  rw [c3,D4];refine ⟨λc4=>zD,λc4=>?_⟩
  rw [c4,D4];refine ⟨λc5=>zE,λc5=>?_⟩
  rw [c5,D4];refine ⟨λc6=>by simp [c6,T.all],λc6=>?_⟩
  rw [c6,D4];rfl
 ·cases h)
def aL9:aWf->T LV
 | [.v (.string w)]=> .ok (Uu 1 kinds w)
 |_=> .no
def awf:=vo (S:=aL9) func222 Uz kN (λargs lv h=>by
 unfold aL9 at h;split at h
 ·rename_i w
  refine Aq (.br (w.toList==(av #[102,101,101,100,101,114]).toList) (.ok (1:Y))<|.br (w.toList==(av #[99,97,98,108,101]).toList) (.ok (2:Y))<|.br (w.toList==(av #[111,119,110,101,114]).toList) (.ok (3:Y))<|.br (w.toList==(av #[99,111,110,116,114,97,99,116]).toList) (.ok (4:Y))<|.br (w.toList==(av #[99,104,97,114,103,101,114]).toList) (.ok (5:Y))<|.br (w.toList==(av #[98,97,121]).toList) (.ok (6:Y))<|.br (w.toList==(av #[116,97,114,105,102,102]).toList) (.ok (7:Y))<|.ok (0:Y)) ?_;obtain rfl:=h;simp only [X9];simp only [Uu,kinds];refine ⟨λc0=>by rw [AD c0];rfl,λc0=>?_⟩
  rw [AE<|by simp [c0]]
  refine ⟨λc1=>by rw [AD c1];rfl,λc1=>?_⟩
  rw [AE<|by simp [c1]]
  refine ⟨λc2=>by rw [AD c2];rfl,λc2=>?_⟩
  rw [AE<|by simp [c2]]
  refine ⟨λc3=>by rw [AD c3];rfl,λc3=>?_⟩
  rw [AE<|by simp [c3]]
  refine ⟨λc4=>by rw [AD c4];rfl,λc4=>?_⟩
  rw [AE<|by simp [c4]]
  refine ⟨λc5=>by rw [AD c5];rfl,λc5=>?_⟩
  rw [AE A8];refine ⟨λc6=>by rw [AD c6];rfl,λc6=>?_⟩
  rw [AE A8];rfl
 ·cases h)
def aGd:aWf->T LV
 | [.v (.string w)]=> .ok (wI w)
 |_=> .no
def aoc:aWp:=[aG0,aHZ,awf,aHY]
def ar2:=vo (S:=aGd) func206 aoc kN (λargs lv h=>by
 unfold aGd at h;split at h
 ·rename_i w
  refine Aq (.ok<|.v<|.bool (((Uu 1 kinds w) !=0) ||((isIn jM w) ||((isIn pj w) ||(isIn words w))))) ?_;obtain rfl:=h;rw [aGP 1 kinds _ Ab];rfl
 ·cases h)
structure Lv where
 text:aWM
 r:aWo
 i:Y
def aJ9:=bN f205 0
def nO (s:Lv):T (Rd Lv):=letI a:=JR s.text s.i;.br (an<|s.i<(s.text.size:Y)) (.req (0<=s.i/\s.i<(s.text.size:Y))<|.br (if an (a>=97) then !(an<|a<=122)&&(if an (a>=48) then !(an<|a<=57)&&(!(a==95)) else !(a==95)) else if an (a>=48) then !(an<|a<=57)&&(!(a==95)) else !(a==95)) (.so (.ret) {s with r:=X})<|.nx {s with i:=AA<|s.i+1})<|.so (.exit 0) s
def OF (s:Lv) (j:Y):aWo:=an (j<1) ||(chB<|JR s.text j)
def o9 (s:Lv):Prop:=s.i=1/\1<=(s.text.size:Y)/\(s.text.size:Y)<=1000/\True
def bu (s:Lv):Prop:=1<=s.i/\s.i<=(s.text.size:Y)/\(s.text.size:Y)<=1000/\(True)/\∀j:aWe,(j:Y)<s.i->OF s j=U
def aB4 (s:Lv):aWe:=((s.text.size:Y)-s.i).toNat
def wq (x:Ex) (s s':Lv):Prop:=(x=.exit 0/\∀j:aWe,(j:Y)<(s'.text.size:Y)->OF s' j=U)\/(x=.ret/\s'.r=X/\∃j:aWe,(j:Y)<(s'.text.size:Y)/\OF s' j=X)
def aoY:∀s,o9 s->bu s:=by
 rintro s ⟨h0,h1,h2,h3⟩
 exact ⟨A0,A0,h2,h3,λj hj=>by unfold OF;rw [Cg A0];rfl⟩
def am6:Da bu aB4 wq nO:=by
 intro s hI;unfold nO;obtain ⟨h0,h1,h2,h3,h4⟩:=hI;refine AH (λc1=>AH (λc2=>?_) λc2=>?_) λc1=>?_
 ·have c1:s.i<(s.text.size:Y):=AX
  refine .inr ⟨rfl,rfl,s.i.toNat,AZ,?_⟩;rw [CP A0]
  have hg:OF s s.i=false:=aOC
  exact hg
 ·have c1:s.i<(s.text.size:Y):=AX
  have hg:OF s s.i=true:=aOC
  rw [AJ (x:=s.i+1)];refine ⟨⟨AZ,AZ,h2,h3,λj hj=>?_⟩,by simp only [aB4];omega⟩
  by_cases hji:(j:Y)<s.i
  ·exact h4 j hji
  ·have:(j:Y)=s.i:=A8
   rw [this];exact hg
 ·have c1:(s.text.size:Y)<=s.i:=AX
  exact VH
def SR:AS Lv:=⟨0,51,[0,2,3],[],λs=>[.v<|.string s.text,s.r,s.i],λ_=>[],λv b=>⟨gSr<|v.getD 0 .junk,DQ v 1,AK v 2⟩,nO,λs r=> {r with text:=s.text},λs=>s,λ_ s=>s,[.ret,.exit 0],o9,bu,aB4⟩
abbrev ff:=SR.run
abbrev aT8:=SR.As
def ala:Rq bu nO:=by
 exact Sl
def abG:SR.Ok:={}
def aVw:SR.Pf (wq):=⟨aoY,λs h=>rfl,am6,ala⟩
def ayd:SA 0 aJ9 SR:=s1 abG aVw Uz kN
def agx:Fi o9 bu wq aT8 ff:=AS.fin abG aVw
def aGh:aWf->T LV
 | [.v (.string w)]=> .ok (gwB w)
 |_=> .no
def aqf:=vm (S:=aGh) func205 Uz kN (L:=(λi=>if i=4 then SR.lp else Ak i)) (λb hb=>by
 rw [show BD _=[aJ9] by kernel_rfl] at hb
 simp only [BA,Bu,Bs] at hb;subst hb;exact ayd) (λargs lv h=>by
 unfold aGh at h;split at h
 ·rename_i w
  refine Aq (letI a:=(w.size:Y);.br (an<|a<1) (.ok X)<|.br (an<|a>12) (.ok X)<|.req (0<=(0:Y)/\(0:Y)<a)<|.br (an<|(JR w (0:Y))<97) (.ok X)<|.req (0<=(0:Y)/\(0:Y)<a)<|.br (an<|(JR w (0:Y))>122) (.ok X)<|.req (SR.q (⟨w,X,1⟩:Lv))<|.br (Bb (aT8 (⟨w,X,1⟩:Lv))<|.ret) (.ok (ff (⟨w,X,1⟩:Lv)).r)<|.ok U) ?_;obtain rfl:=h
  have bad:¬(((1<=w.size/\w.size<=12)/\(97<=JR w 0/\JR w 0<=122)))->LV.v (.bool X)=LV.v (.bool<|gwB w):=λhn=>B3 (λz=>LV.v<|.bool z) (by
   rw [Sk,IM];intro h;simp only [gwB,chA,AY,Aa] at h;exact hn ⟨h.1,A0,A0⟩)
  refine ⟨λc=>bad VX,λc=>⟨λc2=>bad A8,λc2=>⟨VX,λc3=>bad nB,λc3=>⟨VX,λc4=>bad yx,λc4=>?_⟩⟩⟩⟩
  simp only [DC] at c c2 c3 c4
  have hE:o9 ⟨w,X,1⟩:=⟨rfl,AZ,AZ,ak⟩
  have key:gwB w=(au w.size).all λi=>i==0 ||chB (JR w i):=by
   simp only [gwB,chA];rw [Cg A0,Cg A0,Cg A0];rfl
  obtain ⟨s',_,hq⟩:=agx _ hE;refine ⟨⟨hE,rfl,rfl⟩,?_⟩;rw [key];rcases hq with ⟨h1,h2⟩ |⟨h1,h2,j,h3,h4⟩
  ·rw [h1]
   refine ⟨λh=>Ao,λ_=>B3 (λz=>LV.v<|.bool z) ?_⟩
   rw [Sk,BO];intro i hi
   have:=h2 i (by show (i:Y)<(w.size:Y);have:=Iq.1 hi;omega)
   simp only [OF] at this;rw [show (ff ⟨w,X,1⟩).text=w from rfl] at this;rw [Cj] at this;rcases this with h|h
   ·have:i=0:=by simp at h;omega
    simp [this]
   ·rw [h];simp
  ·rw [h1,h2]
   refine ⟨λ_=>B3 (λz=>LV.v<|.bool z) ?_,λh=>Ao⟩
   rw [Sk,IM];intro hx;rw [BO] at hx
   have h3:(j:Y)<(w.size:Y):=h3
   have:=hx j<|Iq.2 A0
   simp only [OF] at h4;rw [show (ff ⟨w,X,1⟩).text=w from rfl] at h4;rw [Ga] at h4
   have h5:=h4.1
   simp at h5
   rw [h4.2] at this
   simp at this
   omega
 ·cases h)
def aGi:aWf->T LV
 | [.v (.string w)]=> .ok (nameB w)
 |_=> .no
def aob:aWp:=[aqf,ar2]
def aqg:=vo (S:=aGi) func170 aob kN (λargs lv h=>by
 unfold aGi at h;split at h
 ·rename_i w
  refine Aq (.ok<|.v<|.bool<|(gwB w)&&(!(wI w))) ?_;exact h
 ·cases h)
def aLC:aWf->T LV
 | [.v (.string w)]=> .ok (nameB w)
 |_=> .no
def wT:aWp:=[aqg,aG0,aHZ,aHY]
def aoX:B1:=kI wT<|l0 wT
def awg:=vo (S:=aLC) func70 wT aoX (λargs lv h=>by
 unfold aLC at h;split at h
 ·rename_i w
  refine Aq (.br (((1:Y) !=1) ||((!(ByteArray.empty.toList==(av #[]).toList)) ||((0:Y) !=0))) (.ok X)<|.br (((2:Y) !=2) ||((an<|(3:Y)<1) ||((an<|(3:Y)>7) ||(!(nameB w))))) (.br (!X) (.ok X)<|.ok U)<|.br (!U) (.ok X)<|.ok U) ?_;obtain rfl:=h;refine ⟨λc=>?_,λ_=>?_⟩
  ·exfalso
   rw [X9] at c
   revert c
   decide
  ·cases nameB w<;>simp [T.all]
 ·cases h)
def aGg:aWf->T LV
 | [.v (.agg ⟨[ag J a,ag J b]⟩),.v (ag J n)]=> .ok (inB n a b)
 |_=> .no
def wS:aWp:=[]
def rI:=vo (S:=aGg) func96 wS kN (λargs lv h=>by
 unfold aGg at h;split at h
 ·rename_i a b n
  refine Aq (.ok<|.v<|.bool<|(an<|n>=a)&&(an<|n<=b)) ?_;exact h
 ·cases h)
def aLD:aWf->T LV
 | [.v (.agg ⟨[ag J am,ag J mo,ag J ga,ag J lo,ag J de]⟩)]=> .ok (an<|mo>am)
 |_=> .no
def awh:=vo (S:=aLD) func132 wS kN (λargs lv h=>by
 unfold aLD at h;split at h
 ·rename_i am mo ga lo de
  refine Aq (.ok<|an<|mo>am) ?_;exact h
 ·cases h)
def aLE:aWf->T LV
 | [.v (.agg ⟨[.string nm,ag J at_,ag J ph,ag J mi,ag J ma,ag J st,ag J fb,ag J ow]⟩)]=> .ok (.v<|.bool<|an (mi<=ma)&&((fb==0) ||inB fb mi ma))
 |_=> .no
def awi:=vo (S:=aLE) func133 wS kN (λargs lv h=>by
 unfold aLE at h;split at h
 ·rename_i nm at_ ph mi ma st fb ow
  refine Aq (.ok<|.v<|.bool<|(an<|mi<=ma)&&((fb==0) ||((an<|fb>=mi)&&(an<|fb<=ma)))) ?_;exact h
 ·cases h)
def aJL:aWf->T LV
 | [.v (.agg ⟨[.string nm,ag J up_,ag J li,ag J ne,ag J ra,ag J he,ag J am,ag J mo,ag J ga,ag J lo,ag J de]⟩),.v (ag J i)]=> .req (0<=i) (.ok<|I5 i (nm,up_,li,ne,(ra,he),am,mo,ga,lo,de))
 |_=> .no
def aoa:aWp:=[rI,awh]
def axC:=vo (S:=aJL) func95 aoa kN (λargs lv h=>by
 unfold aJL at h;split at h
 ·rename_i nm up_ li ne ra he am mo ga lo de i
  refine Aq (.br (if i==0 then (up_ !=(-1)) ||((an<|i>0)&&((an<|up_<0) ||(an<|up_>=i))) else (an<|i>0)&&((an<|up_<0) ||(an<|up_>=i))) (.ok X)<|.br ((!(inB li (1:Y) (1000:Y))) ||(!(inB ne (1:Y) (1000:Y)))) (.ok X)<|.br ((!((ra==0)&&(he==0)))&&(!(inB ra (1:Y) (1000:Y)) ||(!(inB he (0:Y) (1000000:Y))))) (.ok X)<|.br ((am==0)&&((mo==0)&&((ga==0)&&((lo==0)&&(de==0))))) (.ok U)<|.ok<|.v<|.bool<|(inB am (0:Y) (200000:Y))&&((inB mo (0:Y) (200000:Y))&&((inB ga (0:Y) (1000:Y))&&((inB lo (0:Y) (1000:Y))&&((inB de (1:Y) (1000000:Y))&&(an<|mo>am)))))) ?_
  obtain ⟨hi,h⟩:=h;exact aii (K:=λz=>LV.v (.bool z)=lv) hi h
 ·cases h)
def aJU:aWf->T LV
 | .agg a::r=>s5 a λcs os ks gs bs=>(match r with
  | [.v (.agg ⟨[.string nm,ag J at_,ag J ph,ag J mi,ag J ma,ag J st,ag J fb,ag J ow]⟩)]=> .req ((M cs:Y)<=1000/\(M os:Y)<=1000) (.ok<|GO (M cs) (M os) (nm,at_,ph,mi,ma,st,fb,ow))
  |_=> .no)
 |_=> .no
def ano:aWp:=[rI,awi]
def axD:=vo (S:=aJU) func97 ano kN (λargs lv h=>by
 unfold aJU at h;split at h
 case h_2=>cases h
 replace h:=IT h
 obtain ⟨cs,os,ks,gs,bs,rfl,h⟩:=h;split at h
 ·rename_i nm at_ ph mi ma st fb ow
  refine Aq (.ok<|.v<|.bool<|(inB at_ (0:Y)<|AA<|(M cs:Y)-1)&&((inB ow (0:Y)<|AA<|(M os:Y)-1)&&((inB ph (1:Y) (7:Y))&&((inB mi (1:Y) (80:Y))&&((inB ma (1:Y) (80:Y))&&((inB st (1:Y) (80:Y))&&((inB fb (0:Y) (80:Y))&&(an (mi<=ma)&&((fb==0) ||inB fb mi ma))))))))) ?_;obtain ⟨⟨h1,h2⟩,rfl⟩:=h;refine B3 (λz=>LV.v<|.bool z) ?_
  rw [AJ (x:=(M cs:Y)-1),AJ (x:=(M os:Y)-1)];unfold GO chW;rw [Ip];simp only [AY,Cj,BV,Aa,D3];omega
 ·cases h)
structure NQ where
 l:aWl
 (n i:Y)
 BG:aWl
 Bf:aWg
 C4:aWr
 BQ:aWh
 C5:aWs
 out:aWg
def aHN:=bN f69 0
def aAR (s:NQ):T (Rd NQ):=letI a:=Ae s.l s.i;.br (an<|s.i<s.n) (.ix s.i (M s.l)<|.rb (M s.out) (M<|[a.1]) 16<|.re (M s.out+M ([a.1])) (s.out++([a.1]))<|.nx {s with i:=AA<|s.i+1,out:=s.out++([a.1])})<|.rl s.out<|.so (.exit 0) s
def Zd (s:NQ):Prop:=s.i=0/\s.n=(M s.l:Y)/\s.n<=1000/\(M s.out:Y)<=10000
def YJ (s:NQ):Prop:=0<=s.i/\s.i<=s.n/\s.n=(M s.l:Y)/\s.n<=1000/\(M s.out:Y)<=10000+s.i
def uL (s:NQ):aWe:=(s.n-s.i).toNat
def aCB (x:Ex) (s s':NQ):Prop:=x=.exit 0/\s'.i=s'.n
def amQ:∀s,Zd s->YJ s:=by
 exact aF
def agh:Da YJ uL aCB aAR:=by
 intro s hI;obtain ⟨h0,h1,h2,h3,h4⟩:=hI;refine AH (λc1=>?_) λc1=>?_
 ·have c1:s.i<s.n:=A8
  rw [AJ (x:=s.i+1)];exact ⟨⟨A8,A8,h2,h3,A8⟩,by simp only [uL];omega⟩
 ·exact Sj
def RS:AS NQ:=⟨0,80,[1,3,15,16,17],[.nl 3 9 .str],λs=>[.own 0 0,.os 1 1 0<|M s.out,s.l,s.n,s.i],λs=>[⟨[s.BG,s.Bf,s.C4,s.BQ,s.C5],28,.cl,X⟩,bV 9 .str s.out],λv b=>⟨Az Af v 2,AK v 3,AK v 4,AF Af b 0 0,AF .str b 0 1,AF Al b 0 2,AF Ah b 0 3,AF Am b 0 4,Ac .str b 1⟩,aAR,λs r=> {s with i:=r.i,out:=r.out},λs=>s,λ_ s=>s,[.exit 0],Zd,YJ,uL⟩
abbrev Vj:=RS.run
abbrev avG:=RS.As
def ay9:Rq YJ aAR:=by
 exact Zy
def U5:aWp:=[]
def uV:RS.Ok:={}
def sd:RS.Pf (aCB):=⟨amQ,λs h=>rfl,agh,ay9⟩
def arM:SA 0 aHN RS:=s1 uV sd U5 kN
def asH:Fi Zd YJ aCB avG Vj:=AS.fin uV sd
def asG (s:NQ) (hE:Zd s):(Vj s).out=s.out++s.l.map (·.1):=by
 have hk:=AS.Kh uV sd (λs=>s.out++(s.l.drop s.i.toNat).map (·.1)) (λs hI=>by
  obtain ⟨h0,h1,h2,h3,h4⟩:=hI;refine AH (λc1=>?_) λc1=>?_
  ·have c1:s.i<s.n:=A8
   rw [AJ (x:=s.i+1)]
   show _++_=_++_
   rw [(apt h0 (show s.i<M s.l by omega)).1]
   simp
  ·rfl) s hE
 obtain ⟨s',hI,q1,q2⟩:=asH s hE
 have q3:=q2
 have hn:(Vj s).n=(M s.l:Y):=hE.2.1
 have hl:(Vj s).l=s.l:=rfl
 exact aE
structure NW where
 l:aWg
 (n i:Y)
 BG:aWl
 Bf:aWg
 C4:aWr
 BQ:aWh
 C5:aWs
 out:aWg
def aHM:=bN f69 1
def aAQ (s:NW):T (Rd NW):=letI a:=gS s.l s.i;.br (an<|s.i<s.n) (.ix s.i (M s.l)<|.rb (M s.out) (M<|[a]) 16<|.re (M s.out+M ([a])) (s.out++([a]))<|.nx {s with i:=AA<|s.i+1,out:=s.out++([a])})<|.rl s.out<|.so (.exit 2) s
def Zc (s:NW):Prop:=s.i=0/\s.n=(M s.l:Y)/\s.n<=1000/\(M s.out:Y)<=10000
def YI (s:NW):Prop:=0<=s.i/\s.i<=s.n/\s.n=(M s.l:Y)/\s.n<=1000/\(M s.out:Y)<=10000+s.i
def uK (s:NW):aWe:=(s.n-s.i).toNat
def aCA (x:Ex) (s s':NW):Prop:=x=.exit 2/\s'.i=s'.n
def al4:∀s,Zc s->YI s:=by
 exact aF
def agf:Da YI uK aCA aAQ:=by
 intro s hI;obtain ⟨h0,h1,h2,h3,h4⟩:=hI;refine AH (λc1=>?_) λc1=>?_
 ·have c1:s.i<s.n:=A8
  rw [AJ (x:=s.i+1)];exact ⟨⟨A8,A8,h2,h3,A8⟩,by simp only [uK];omega⟩
 ·exact Sj
def RR:AS NW:=⟨0,80,[1,3,28,29,30],[],λs=>[.own 0 0,.os 1 1 0<|M s.out,s.l,s.n,s.i],λs=>[⟨[s.BG,s.Bf,s.C4,s.BQ,s.C5],28,.cl,X⟩,bV 9 .str s.out],λv b=>⟨Az .str v 2,AK v 3,AK v 4,AF Af b 0 0,AF .str b 0 1,AF Al b 0 2,AF Ah b 0 3,AF Am b 0 4,Ac .str b 1⟩,aAQ,λs r=> {s with i:=r.i,out:=r.out},λs=>s,λ_ s=>s,[.exit 2],Zc,YI,uK⟩
abbrev Vm:=RR.run
abbrev avF:=RR.As
def ay8:Rq YI aAQ:=by
 exact Zy
def uU:RR.Ok:={}
def sZ:RR.Pf (aCA):=⟨al4,λs h=>rfl,agf,ay8⟩
def arL:SA 0 aHM RR:=s1 uU sZ U5 kN
def asr:Fi Zc YI aCA avF Vm:=AS.fin uU sZ
def asq (s:NW) (hE:Zc s):(Vm s).out=s.out++s.l:=by
 have hk:=AS.Kh uU sZ (λs=>s.out++(s.l.drop s.i.toNat)) (λs hI=>by
  obtain ⟨h0,h1,h2,h3,h4⟩:=hI;refine AH (λc1=>?_) λc1=>?_
  ·have c1:s.i<s.n:=A8
   rw [AJ (x:=s.i+1)]
   show _++_=_++_
   rw [(aIe h0 (show s.i<M s.l by omega)).1]
   simp
  ·rfl) s hE
 obtain ⟨s',hI,q1,q2⟩:=asr s hE
 have q3:=q2
 have hn:(Vm s).n=(M s.l:Y):=hE.2.1
 have hl:(Vm s).l=s.l:=rfl
 exact aE
structure NX where
 l:aWr
 (n i:Y)
 BG:aWl
 Bf:aWg
 C4:aWr
 BQ:aWh
 C5:aWs
 out:aWg
def aHL:=bN f69 2
def aAP (s:NX):T (Rd NX):=letI a:=OG s.l s.i;.br (an<|s.i<s.n) (.ix s.i (M s.l)<|.rb (M s.out) (M<|[a.1]) 16<|.re (M s.out+M ([a.1])) (s.out++([a.1]))<|.nx {s with i:=AA<|s.i+1,out:=s.out++([a.1])})<|.rl s.out<|.so (.exit 4) s
def Zb (s:NX):Prop:=s.i=0/\s.n=(M s.l:Y)/\s.n<=1000/\(M s.out:Y)<=10000
def YH (s:NX):Prop:=0<=s.i/\s.i<=s.n/\s.n=(M s.l:Y)/\s.n<=1000/\(M s.out:Y)<=10000+s.i
def uJ (s:NX):aWe:=(s.n-s.i).toNat
def aC9 (x:Ex) (s s':NX):Prop:=x=.exit 4/\s'.i=s'.n
def al3:∀s,Zb s->YH s:=by
 exact aF
def agd:Da YH uJ aC9 aAP:=by
 intro s hI;obtain ⟨h0,h1,h2,h3,h4⟩:=hI;refine AH (λc1=>?_) λc1=>?_
 ·have c1:s.i<s.n:=A8
  rw [AJ (x:=s.i+1)];exact ⟨⟨A8,A8,h2,h3,A8⟩,by simp only [uJ];omega⟩
 ·exact Sj
def RM:AS NX:=⟨0,80,[1,3,41,42,43],[],λs=>[.own 0 0,.os 1 1 0<|M s.out,s.l,s.n,s.i],λs=>[⟨[s.BG,s.Bf,s.C4,s.BQ,s.C5],28,.cl,X⟩,bV 9 .str s.out],λv b=>⟨Az Al v 2,AK v 3,AK v 4,AF Af b 0 0,AF .str b 0 1,AF Al b 0 2,AF Ah b 0 3,AF Am b 0 4,Ac .str b 1⟩,aAP,λs r=> {s with i:=r.i,out:=r.out},λs=>s,λ_ s=>s,[.exit 4],Zb,YH,uJ⟩
abbrev Vq:=RM.run
abbrev avE:=RM.As
def ay7:Rq YH aAP:=by
 exact Zy
def uT:RM.Ok:={}
def sY:RM.Pf (aC9):=⟨al3,λs h=>rfl,agd,ay7⟩
def arJ:SA 0 aHL RM:=s1 uT sY U5 kN
def aso:Fi Zb YH aC9 avE Vq:=AS.fin uT sY
def asn (s:NX) (hE:Zb s):(Vq s).out=s.out++s.l.map (·.1):=by
 have hk:=AS.Kh uT sY (λs=>s.out++(s.l.drop s.i.toNat).map (·.1)) (λs hI=>by
  obtain ⟨h0,h1,h2,h3,h4⟩:=hI;refine AH (λc1=>?_) λc1=>?_
  ·have c1:s.i<s.n:=A8
   rw [AJ (x:=s.i+1)]
   show _++_=_++_
   rw [(aGT h0 (show s.i<M s.l by omega)).1]
   simp
  ·rfl) s hE
 obtain ⟨s',hI,q1,q2⟩:=aso s hE
 have q3:=q2
 have hn:(Vq s).n=(M s.l:Y):=hE.2.1
 have hl:(Vq s).l=s.l:=rfl
 exact aE
structure NY where
 l:aWh
 (n i:Y)
 BG:aWl
 Bf:aWg
 C4:aWr
 BQ:aWh
 C5:aWs
 out:aWg
def aHK:=bN f69 3
def aAO (s:NY):T (Rd NY):=letI a:=AG s.l s.i;.br (an<|s.i<s.n) (.ix s.i (M s.l)<|.rb (M s.out) (M<|[a.1]) 16<|.re (M s.out+M ([a.1])) (s.out++([a.1]))<|.nx {s with i:=AA<|s.i+1,out:=s.out++([a.1])})<|.rl s.out<|.so (.exit 6) s
def Za (s:NY):Prop:=s.i=0/\s.n=(M s.l:Y)/\s.n<=1000/\(M s.out:Y)<=10000
def YG (s:NY):Prop:=0<=s.i/\s.i<=s.n/\s.n=(M s.l:Y)/\s.n<=1000/\(M s.out:Y)<=10000+s.i
def uI (s:NY):aWe:=(s.n-s.i).toNat
def aC8 (x:Ex) (s s':NY):Prop:=x=.exit 6/\s'.i=s'.n
def al2:∀s,Za s->YG s:=by
 exact aF
def agc:Da YG uI aC8 aAO:=by
 intro s hI;obtain ⟨h0,h1,h2,h3,h4⟩:=hI;refine AH (λc1=>?_) λc1=>?_
 ·have c1:s.i<s.n:=A8
  rw [AJ (x:=s.i+1)];exact ⟨⟨A8,A8,h2,h3,A8⟩,by simp only [uI];omega⟩
 ·exact Sj
def RK:AS NY:=⟨0,80,[1,3,54,55,56],[],λs=>[.own 0 0,.os 1 1 0<|M s.out,s.l,s.n,s.i],λs=>[⟨[s.BG,s.Bf,s.C4,s.BQ,s.C5],28,.cl,X⟩,bV 9 .str s.out],λv b=>⟨Az Ah v 2,AK v 3,AK v 4,AF Af b 0 0,AF .str b 0 1,AF Al b 0 2,AF Ah b 0 3,AF Am b 0 4,Ac .str b 1⟩,aAO,λs r=> {s with i:=r.i,out:=r.out},λs=>s,λ_ s=>s,[.exit 6],Za,YG,uI⟩
abbrev Vx:=RK.run
abbrev avD:=RK.As
def ay6:Rq YG aAO:=by
 exact Zy
def uR:RK.Ok:={}
def sX:RK.Pf (aC8):=⟨al2,λs h=>rfl,agc,ay6⟩
def arI:SA 0 aHK RK:=s1 uR sX U5 kN
def asl:Fi Za YG aC8 avD Vx:=AS.fin uR sX
def asj (s:NY) (hE:Za s):(Vx s).out=s.out++s.l.map (·.1):=by
 have hk:=AS.Kh uR sX (λs=>s.out++(s.l.drop s.i.toNat).map (·.1)) (λs hI=>by
  obtain ⟨h0,h1,h2,h3,h4⟩:=hI;refine AH (λc1=>?_) λc1=>?_
  ·have c1:s.i<s.n:=A8
   rw [AJ (x:=s.i+1)]
   show _++_=_++_
   rw [(aps h0 (show s.i<M s.l by omega)).1]
   simp
  ·rfl) s hE
 obtain ⟨s',hI,q1,q2⟩:=asl s hE
 have q3:=q2
 have hn:(Vx s).n=(M s.l:Y):=hE.2.1
 have hl:(Vx s).l=s.l:=rfl
 exact aE
structure Nf where
 l:aWs
 (n i:Y)
 out:aWg
def aHJ:=bN f69 4
def aAN (s:Nf):T (Rd Nf):=letI a:=ON s.l s.i;.br (an<|s.i<s.n) (.ix s.i (M s.l)<|.rb (M s.out) (M<|[a.1]) 16<|.re (M s.out+M ([a.1])) (s.out++([a.1]))<|.nx {s with i:=AA<|s.i+1,out:=s.out++([a.1])})<|.rl s.out<|.so (.exit 8) s
def ZZ (s:Nf):Prop:=s.i=0/\s.n=(M s.l:Y)/\s.n<=1000/\(M s.out:Y)<=10000
def YF (s:Nf):Prop:=0<=s.i/\s.i<=s.n/\s.n=(M s.l:Y)/\s.n<=1000/\(M s.out:Y)<=10000+s.i
def uH (s:Nf):aWe:=(s.n-s.i).toNat
def aC7 (x:Ex) (s s':Nf):Prop:=x=.exit 8/\s'.i=s'.n
def al1:∀s,ZZ s->YF s:=by
 exact aF
def agb:Da YF uH aC7 aAN:=by
 intro s hI;obtain ⟨h0,h1,h2,h3,h4⟩:=hI;refine AH (λc1=>?_) λc1=>?_
 ·have c1:s.i<s.n:=A8
  rw [AJ (x:=s.i+1)];exact ⟨⟨A8,A8,h2,h3,A8⟩,by simp only [uH];omega⟩
 ·exact Sj
def RJ:AS Nf:=⟨0,80,[3,67,68,69],[],λs=>[.os 0 1 0<|M s.out,s.l,s.n,s.i],λs=>[bV 9 .str s.out],λv b=>⟨Az Am v 1,AK v 2,AK v 3,Ac .str b 0⟩,aAN,λs r=> {r with l:=s.l,n:=s.n},λs=>s,λ_ s=>s,[.exit 8],ZZ,YF,uH⟩
abbrev W6:=RJ.run
abbrev avC:=RJ.As
def ay5:Rq YF aAN:=by
 exact Zy
def uQ:RJ.Ok:={}
def tL:RJ.Pf (aC7):=⟨al1,λs h=>rfl,agb,ay5⟩
def arH:SA 0 aHJ RJ:=s1 uQ tL U5 kN
def asi:Fi ZZ YF aC7 avC W6:=AS.fin uQ tL
def ash (s:Nf) (hE:ZZ s):(W6 s).out=s.out++s.l.map (·.1):=by
 have hk:=AS.Kh uQ tL (λs=>s.out++(s.l.drop s.i.toNat).map (·.1)) (λs hI=>by
  obtain ⟨h0,h1,h2,h3,h4⟩:=hI;refine AH (λc1=>?_) λc1=>?_
  ·have c1:s.i<s.n:=A8
   rw [AJ (x:=s.i+1)]
   show _++_=_++_
   rw [(apu h0 (show s.i<M s.l by omega)).1]
   simp
  ·rfl) s hE
 obtain ⟨s',hI,q1,q2⟩:=asi s hE
 have q3:=q2
 have hn:(W6 s).n=(M s.l:Y):=hE.2.1
 have hl:(W6 s).l=s.l:=rfl
 exact aE
def aKy:aWf->T LV
 | .agg a::r=>s5 a λcs os ks gs bs=>(match r with
  | []=> .req ((M cs:Y)<=1000/\(M os:Y)<=1000/\(M ks:Y)<=1000/\(M gs:Y)<=1000/\(M bs:Y)<=1000) (.ok<|.xl .str<|Lb cs os ks gs bs)
  |_=> .no)
 |_=> .no
def awZ:=vm (S:=aKy) func69 U5 kN (L:=(λi=>if i=3 then RS.lp else if i=8 then RR.lp else if i=13 then RM.lp else if i=18 then RK.lp else if i=23 then RJ.lp else Ak i)) (λb hb=>by
 rw [show BD _=[aHN,aHM,aHL,aHK,aHJ] by kernel_rfl] at hb
 simp only [BA,Bu,Bs] at hb;rcases hb with rfl|rfl|rfl|rfl|rfl
 ·exact arM
 ·exact arL
 ·exact arJ
 ·exact arI
 ·exact arH) (λargs lv h=>by
 unfold aKy at h;split at h
 case h_2=>cases h
 replace h:=IT h
 obtain ⟨cs,os,ks,gs,bs,rfl,h⟩:=h;split at h
 ·refine Aq (letI b:=(Vj (⟨cs,(M cs:Y),0,cs,os,ks,gs,bs,([]:aWg)⟩:NQ));letI d:=(Vm (⟨os,(M os:Y),0,cs,os,ks,gs,bs,b.out⟩:NW));letI a:=(Vq (⟨ks,(M ks:Y),0,cs,os,ks,gs,bs,d.out⟩:NX));letI c:=(Vx (⟨gs,(M gs:Y),0,cs,os,ks,gs,bs,a.out⟩:NY));letI e:=(W6 (⟨bs,(M bs:Y),0,c.out⟩:Nf));.r0 ByteArray<|.req (RS.q (⟨cs,(M cs:Y),0,cs,os,ks,gs,bs,([]:aWg)⟩:NQ))<|.rl b.out<|.req (RR.q (⟨os,(M os:Y),0,cs,os,ks,gs,bs,b.out⟩:NW))<|.rl d.out<|.req (RM.q (⟨ks,(M ks:Y),0,cs,os,ks,gs,bs,d.out⟩:NX))<|.rl a.out<|.req (RK.q (⟨gs,(M gs:Y),0,cs,os,ks,gs,bs,a.out⟩:NY))<|.rl c.out<|.req (RJ.q (⟨bs,(M bs:Y),0,c.out⟩:Nf))<|.rz e.out<|.ok<|.xl .str<|(e.out.drop 0).take<|M e.out) ?_
  obtain ⟨⟨hc,ho,hk,hg,hb⟩,rfl⟩:=h
  have hE0:Zd ⟨cs,(M cs:Y),0,cs,os,ks,gs,bs,([]:aWg)⟩:=⟨rfl,rfl,hc,by simp only;decide⟩
  have o0:=asG _ hE0
  refine ⟨A9,⟨hE0,rfl,rfl⟩,?_⟩;generalize (Vj ⟨cs,(M cs:Y),0,cs,os,ks,gs,bs,([]:aWg)⟩).out=r0 at*
  have o0:r0=([]:aWg)++cs.map (·.1):=o0
  have l0:(M r0:Y)<=1000:=by rw [o0];simp only [BL,GB,Bt];omega
  have hE1:Zc ⟨os,(M os:Y),0,cs,os,ks,gs,bs,r0⟩:=⟨rfl,rfl,ho,AZ⟩
  have o1:=asq _ hE1
  refine ⟨A9,⟨hE1,rfl,rfl⟩,?_⟩;generalize (Vm ⟨os,(M os:Y),0,cs,os,ks,gs,bs,r0⟩).out=r1 at*
  have o1:r1=r0++os:=o1
  have l1:(M r1:Y)<=2000:=by rw [o1];simp only [BL,GB,Bt];omega
  have hE2:Zb ⟨ks,(M ks:Y),0,cs,os,ks,gs,bs,r1⟩:=⟨rfl,rfl,hk,AZ⟩
  have o2:=asn _ hE2
  refine ⟨A9,⟨hE2,rfl,rfl⟩,?_⟩;generalize (Vq ⟨ks,(M ks:Y),0,cs,os,ks,gs,bs,r1⟩).out=r2 at*
  have o2:r2=r1++ks.map (·.1):=o2
  have l2:(M r2:Y)<=3000:=A8
  have hE3:Za ⟨gs,(M gs:Y),0,cs,os,ks,gs,bs,r2⟩:=⟨rfl,rfl,hg,AZ⟩
  have o3:=asj _ hE3
  refine ⟨A9,⟨hE3,rfl,rfl⟩,?_⟩;generalize (Vx ⟨gs,(M gs:Y),0,cs,os,ks,gs,bs,r2⟩).out=r3 at*
  have o3:r3=r2++gs.map (·.1):=o3
  have l3:(M r3:Y)<=4000:=A8
  have hE4:ZZ ⟨bs,(M bs:Y),0,r3⟩:=⟨rfl,rfl,hb,AZ⟩
  have o4:=ash _ hE4
  refine ⟨A9,⟨hE4,rfl,rfl⟩,?_⟩;generalize (W6 ⟨bs,(M bs:Y),0,r3⟩).out=r4 at*
  have o4:r4=r3++bs.map (·.1):=o4
  refine ⟨A0,?_⟩
  show LV.xl _ _=_
  rw [CT,De A0,o4,o3,o2,o1,o0,EX];rfl
 ·cases h)
structure MS where
 r:aWo
 l:aWl
 (n i:Y)
 BG:aWl
 Bf:aWg
 C4:aWr
 BQ:aWh
 C5:aWs
def aGN:=bN f71 0
def zI (s:MS):T (Rd MS):=
 .br (an<|s.i<s.n) (.ix s.i (M s.l)<|.req (0<=s.i)<|.br (!(I5 s.i<|Ae s.l s.i)) (.so (.ret) {s with r:=X})<|.nx {s with i:=AA<|s.i+1}) (.so (.exit 0) s)
def Tj (s:MS) (j:Y):aWo:=I5 j<|Ae s.l j
def aCP (s:MS):Prop:=s.i=0/\0<=s.n/\s.n<=1000/\s.n=(M s.l:Y)
def Yh (s:MS):Prop:=0<=s.i/\s.i<=s.n/\s.n<=1000/\(s.n=(M s.l:Y))/\∀j:aWe,(j:Y)<s.i->Tj s j=U
def uf (s:MS):aWe:=(s.n-s.i).toNat
def aBo (x:Ex) (s s':MS):Prop:=(x=.exit 0/\∀j:aWe,(j:Y)<s'.n->Tj s' j=U)\/(x=.ret/\s'.r=X/\∃j:aWe,(j:Y)<s'.n/\Tj s' j=X)
def ajs:∀s,aCP s->Yh s:=by
 exact KH
def ax4:Da Yh uf aBo zI:=by
 intro s hI;obtain ⟨h0,h1,h2,h3,h4⟩:=hI;refine AH (λc1=>AH (λc2=>?_) λc2=>?_) λc1=>?_
 ·have c1:s.i<s.n:=AX
  refine .inr ⟨rfl,rfl,s.i.toNat,A8,?_⟩;rw [CP A0]
  have hg:Tj s s.i=false:=aOG
  exact hg
 ·have c1:s.i<s.n:=AX
  have hg:Tj s s.i=true:=aOG
  rw [AJ (x:=s.i+1)];refine ⟨⟨A8,A8,h2,h3,λj hj=>?_⟩,by simp only [uf];omega⟩
  exact LF
 ·exact Sn
def Ru:AS MS:=⟨0,95,[1,2,13,14,15],[],λs=>[.own 0 0,s.r,s.l,s.n,s.i],λs=>[⟨[s.BG,s.Bf,s.C4,s.BQ,s.C5],28,.cl,X⟩],λv b=>⟨DQ v 1,Az Af v 2,AK v 3,AK v 4,AF Af b 0 0,AF .str b 0 1,AF Al b 0 2,AF Ah b 0 3,AF Am b 0 4⟩,zI,λs r=> {s with r:=r.r,i:=r.i},λs=>s,λ_ s=>s,[.ret,.exit 0],aCP,Yh,uf⟩
abbrev aci:=Ru.run
abbrev aIS:=Ru.As
def ayA:Rq Yh zI:=by
 exact xN
def Xp:aWp:=[axC,rI,axD]
def aRP:Ru.Ok:={}
def aR1:Ru.Pf (aBo):=⟨ajs,λs h=>rfl,ax4,ayA⟩
def aqc:SA 0 aGN Ru:=s1 aRP aR1 Xp kN
def aqy:Fi aCP Yh aBo aIS aci:=AS.fin aRP aR1
structure MU where
 r:aWo
 l:aWr
 (n i:Y)
 BG:aWl
 Bf:aWg
 C4:aWr
 BQ:aWh
 C5:aWs
 cards:aWd
def aGM:=bN f71 1
def iQ (s:MU):T (Rd MU):=letI a:=OG s.l s.i;.br (an<|s.i<s.n) (.ix s.i (M s.l)<|.br ((!(inB a.2.1 (0:Y)<|AA<|(M s.Bf:Y)-1)) ||((!(inB a.2.2.1 (1:Y) (9:Y))) ||((!(inB a.2.2.2 (1:Y) (1000000:Y))) ||(List.contains s.cards a.2.2.2)))) (.so (.ret) {s with r:=X})<|.req (List.contains s.cards a.2.2.2=X)<|.nx {s with i:=AA<|s.i+1,cards:=s.cards++[a.2.2.2]})<|.so (.exit 2) s
def Ti (s:MU) (j:Y):aWo:=koV (M s.Bf) (OG s.l j)&&!(((s.l.take j.toNat).map (·.2.2.2)).contains (OG s.l j).2.2.2)
def aCO (s:MU):Prop:=s.i=0/\s.cards=[]/\s.n=(M s.l:Y)/\s.n<=1000/\(M s.Bf:Y)<=1000
def Yg (s:MU):Prop:=0<=s.i/\s.i<=s.n/\s.n=(M s.l:Y)/\s.n<=1000/\((M s.Bf:Y)<=1000)/\s.cards=(s.l.take s.i.toNat).map (·.2.2.2)/\∀j:aWe,(j:Y)<s.i->Ti s j=U
def ue (s:MU):aWe:=(s.n-s.i).toNat
def aBS (x:Ex) (s s':MU):Prop:=(x=.exit 2/\∀j:aWe,(j:Y)<s'.n->Ti s' j=U)\/(x=.ret/\s'.r=X/\∃j:aWe,(j:Y)<s'.n/\Ti s' j=X)
def ajr:∀s,aCO s->Yg s:=by
 exact aMs
def ax2:Da Yg ue aBS iQ:=by
 intro s hI;unfold iQ;obtain ⟨h0,h1,h2,h3,h4,h5,h6⟩:=hI;refine AH (λc1=>AH (λc2=>?_) λc2=>?_) λc1=>?_
 ·have c1:s.i<s.n:=AX
  refine .inr ⟨rfl,rfl,s.i.toNat,AZ,?_⟩;rw [CP h0]
  have hg:Ti s s.i=false:=by
   exact aMX
  exact hg
 ·have c1:s.i<s.n:=AX
  have hg:Ti s s.i=true:=by
   exact aMX
  rw [AJ (x:=s.i+1)];refine ⟨⟨AZ,AZ,h2,h3,h4,?_,λj hj=>?_⟩,by simp only [ue];omega⟩
  ·simp only
   rw [(aGT h0 (show s.i<M s.l by omega)).2,h5]
   try rw [KD]
   try rfl
  ·exact aNP
 ·exact aMi
def Rt:AS MU:=⟨0,95,[1,2,5,27,28,29],[],λs=>[.own 0 0,s.r,.om 1,s.l,s.n,s.i],λs=>[⟨[s.BG,s.Bf,s.C4,s.BQ,s.C5],28,.cl,X⟩,⟨[],200,.st A7 s.cards,X⟩],λv b=>⟨DQ v 1,Az Al v 3,AK v 4,AK v 5,AF Af b 0 0,AF .str b 0 1,AF Al b 0 2,AF Ah b 0 3,AF Am b 0 4,gSe A7<|CW b 1⟩,iQ,λs r=> {s with r:=r.r,i:=r.i,cards:=r.cards},λs=>s,λ_ s=>s,[.ret,.exit 2],aCO,Yg,ue⟩
abbrev acj:=Rt.run
abbrev aIR:=Rt.As
def ayz:Rq Yg iQ:=by
 intro s hI;refine ⟨λc1=>⟨?_,λ_=>trivial,λc2=>⟨?_,ak⟩⟩,λ_=>trivial⟩
 all_goals ((obtain ⟨h0,h1,h2,h3,h4,h5,h6⟩:=hI;first|(simp at c1;omega) |(simp only [Ga] at c2;exact c2.2.2.2)))
def aRO:Rt.Ok:={}
def aR0:Rt.Pf (aBS):=⟨ajr,λs h=>rfl,ax2,ayz⟩
def aqb:SA 0 aGM Rt:=s1 aRO aR0 Xp kN
def aqx:Fi aCO Yg aBS aIR acj:=AS.fin aRO aR0
structure MW where
 r:aWo
 l:aWh
 (n i:Y)
 BG:aWl
 Bf:aWg
 C4:aWr
 BQ:aWh
 C5:aWs
def aGL:=bN f71 2
def zH (s:MW):T (Rd MW):=
 .br (an<|s.i<s.n) (.ix s.i (M s.l)<|.req ((M s.BG:Y)<=1000/\(M s.Bf:Y)<=1000)<|.br (!(GO (M s.BG) (M s.Bf)<|AG s.l s.i)) (.so (.ret) {s with r:=X})<|.nx {s with i:=AA<|s.i+1}) (.so (.exit 4) s)
def Th (s:MW) (j:Y):aWo:=GO (M s.BG) (M s.Bf)<|AG s.l j
def aCN (s:MW):Prop:=s.i=0/\0<=s.n/\s.n<=1000/\s.n=(M s.l:Y)/\(M s.BG:Y)<=1000/\(M s.Bf:Y)<=1000
def Yf (s:MW):Prop:=0<=s.i/\s.i<=s.n/\s.n<=1000/\(s.n=(M s.l:Y)/\(M s.BG:Y)<=1000/\(M s.Bf:Y)<=1000)/\∀j:aWe,(j:Y)<s.i->Th s j=U
def ud (s:MW):aWe:=(s.n-s.i).toNat
def aBR (x:Ex) (s s':MW):Prop:=(x=.exit 4/\∀j:aWe,(j:Y)<s'.n->Th s' j=U)\/(x=.ret/\s'.r=X/\∃j:aWe,(j:Y)<s'.n/\Th s' j=X)
def ajq:∀s,aCN s->Yf s:=by
 exact KH
def ax1:Da Yf ud aBR zH:=by
 intro s hI;obtain ⟨h0,h1,h2,h3,h4⟩:=hI;refine AH (λc1=>AH (λc2=>?_) λc2=>?_) λc1=>?_
 ·have c1:s.i<s.n:=AX
  refine .inr ⟨rfl,rfl,s.i.toNat,AZ,?_⟩
  have hg:Th s s.i=false:=aOE
  exact hg
 ·have c1:s.i<s.n:=AX
  have hg:Th s s.i=true:=aOE
  rw [AJ (x:=s.i+1)];refine ⟨⟨A8,A8,h2,h3,λj hj=>?_⟩,by simp only [ud];omega⟩
  exact LF
 ·exact Sn
def Rr:AS MW:=⟨0,95,[1,2,67,68,69],[],λs=>[.own 0 0,s.r,s.l,s.n,s.i],λs=>[⟨[s.BG,s.Bf,s.C4,s.BQ,s.C5],28,.cl,X⟩],λv b=>⟨DQ v 1,Az Ah v 2,AK v 3,AK v 4,AF Af b 0 0,AF .str b 0 1,AF Al b 0 2,AF Ah b 0 3,AF Am b 0 4⟩,zH,λs r=> {s with r:=r.r,i:=r.i},λs=>s,λ_ s=>s,[.ret,.exit 4],aCN,Yf,ud⟩
abbrev adB:=Rr.run
abbrev aIQ:=Rr.As
def ayy:Rq Yf zH:=by
 intro s hI;refine ⟨λc1=>⟨?_,?_,λ_=>trivial,λ_=>trivial⟩,λ_=>trivial⟩
 all_goals ((obtain ⟨h0,h1,h2,h3,h4⟩:=hI;simp at c1;first|omega|exact h3.2))
def aRN:Rr.Ok:={}
def aQz:Rr.Pf (aBR):=⟨ajq,λs h=>rfl,ax1,ayy⟩
def aqa:SA 0 aGL Rr:=s1 aRN aQz Xp kN
def aqw:Fi aCN Yf aBR aIQ adB:=AS.fin aRN aQz
structure Mq where
 r:aWo
 l:aWs
 (n i:Y)
 BG:aWl
 Bf:aWg
 C4:aWr
 BQ:aWh
 C5:aWs
def aGK:=bN f71 3
def za (s:Mq):T (Rd Mq):=
 .br (an<|s.i<s.n) (.ix s.i (M s.l)<|.br (!(inB (ON s.l s.i).2 (0:Y)<|AA<|(M s.BQ:Y)-1)) (.so (.ret) {s with r:=X})<|.nx {s with i:=AA<|s.i+1}) (.so (.exit 6) s)
def Tf (s:Mq) (j:Y):aWo:=inB (ON s.l j).2 0<|AA<|(M s.BQ:Y)-1
def aCM (s:Mq):Prop:=s.i=0/\0<=s.n/\s.n<=1000/\s.n=(M s.l:Y)
def Ye (s:Mq):Prop:=0<=s.i/\s.i<=s.n/\s.n<=1000/\(s.n=(M s.l:Y))/\∀j:aWe,(j:Y)<s.i->Tf s j=U
def uc (s:Mq):aWe:=(s.n-s.i).toNat
def aBQ (x:Ex) (s s':Mq):Prop:=(x=.exit 6/\∀j:aWe,(j:Y)<s'.n->Tf s' j=U)\/(x=.ret/\s'.r=X/\∃j:aWe,(j:Y)<s'.n/\Tf s' j=X)
def ajp:∀s,aCM s->Ye s:=by
 exact KH
def ax0:Da Ye uc aBQ za:=by
 intro s hI;obtain ⟨h0,h1,h2,h3,h4⟩:=hI;refine AH (λc1=>AH (λc2=>?_) λc2=>?_) λc1=>?_
 ·have c1:s.i<s.n:=AX
  refine .inr ⟨rfl,rfl,s.i.toNat,A8,?_⟩
  have hg:Tf s s.i=false:=aOD
  exact hg
 ·have c1:s.i<s.n:=AX
  have hg:Tf s s.i=true:=aOD
  rw [AJ (x:=s.i+1)];refine ⟨⟨A8,A8,h2,h3,λj hj=>?_⟩,by simp only [uc];omega⟩
  exact LF
 ·exact Sn
def Rp:AS Mq:=⟨0,95,[1,2,79,80,81],[],λs=>[.own 0 0,s.r,s.l,s.n,s.i],λs=>[⟨[s.BG,s.Bf,s.C4,s.BQ,s.C5],28,.cl,X⟩],λv b=>⟨DQ v 1,Az Am v 2,AK v 3,AK v 4,AF Af b 0 0,AF .str b 0 1,AF Al b 0 2,AF Ah b 0 3,AF Am b 0 4⟩,za,λs r=> {s with r:=r.r,i:=r.i},λs=>s,λ_ s=>s,[.ret,.exit 6],aCM,Ye,uc⟩
abbrev aHn:=Rp.run
abbrev aIP:=Rp.As
def ayx:Rq Ye za:=by
 exact Sl
def aRM:Rp.Ok:={}
def aQy:Rp.Pf (aBQ):=⟨ajp,λs h=>rfl,ax0,ayx⟩
def aqZ:SA 0 aGK Rp:=s1 aRM aQy Xp kN
def aqv:Fi aCM Ye aBQ aIP aHn:=AS.fin aRM aQy
def aJK:aWf->T LV
 | .agg a::r=>s5 a λcs os ks gs bs=>(match r with
  | []=> .req ((M cs:Y)<=1000/\(M os:Y)<=1000/\(M ks:Y)<=1000/\(M gs:Y)<=1000/\(M bs:Y)<=1000) (.ok<|vpB cs os ks gs bs)
  |_=> .no)
 |_=> .no
def axB:=vm (S:=aJK) func71 Xp kN (L:=(λi=>if i=2 then Ru.lp else if i=9 then Rt.lp else if i=16 then Rr.lp else if i=22 then Rp.lp else Ak i)) (λb hb=>by
 rw [show BD _=[aGN,aGM,aGL,aGK] by kernel_rfl] at hb
 simp only [BA,Bu,Bs] at hb;rcases hb with rfl|rfl|rfl|rfl
 ·exact aqc
 ·exact aqb
 ·exact aqa
 ·exact aqZ) (λargs lv h=>by
 unfold aJK at h;split at h
 case h_2=>cases h
 replace h:=IT h
 obtain ⟨cs,os,ks,gs,bs,rfl,h⟩:=h;split at h
 ·refine Aq (letI g:=(M cs:Y);letI k:=(M ks:Y);letI l:=(M gs:Y);letI m:=(M bs:Y);letI c:=(aci (⟨X,cs,g,0,cs,os,ks,gs,bs⟩:MS));letI a:=(acj (⟨c.r,ks,k,0,cs,os,ks,gs,bs,([]:aWd)⟩:MU));letI e:=(adB (⟨a.r,gs,l,0,cs,os,ks,gs,bs⟩:MW));.req (Ru.q (⟨X,cs,g,0,cs,os,ks,gs,bs⟩:MS))<|.br (Bb (aIS (⟨X,cs,g,0,cs,os,ks,gs,bs⟩:MS))<|.ret) (.ok c.r)<|.req (Rt.q (⟨c.r,ks,k,0,cs,os,ks,gs,bs,([]:aWd)⟩:MU))<|.br (Bb (aIR (⟨c.r,ks,k,0,cs,os,ks,gs,bs,([]:aWd)⟩:MU))<|.ret) (.ok a.r)<|.req (Rr.q (⟨a.r,gs,l,0,cs,os,ks,gs,bs⟩:MW))<|.br (Bb (aIQ (⟨a.r,gs,l,0,cs,os,ks,gs,bs⟩:MW))<|.ret) (.ok e.r)<|.req (Rp.q (⟨e.r,bs,m,0,cs,os,ks,gs,bs⟩:Mq))<|.br (Bb (aIP (⟨e.r,bs,m,0,cs,os,ks,gs,bs⟩:Mq))<|.ret) (.ok (aHn (⟨e.r,bs,m,0,cs,os,ks,gs,bs⟩:Mq)).r)<|.ok U) ?_
  obtain ⟨⟨hc,ho,hk,hg,hb⟩,rfl⟩:=h;refine Jx ⟨⟨rfl,AZ,hc,rfl⟩,rfl,rfl⟩ λhE0=>?_
  obtain ⟨s',_,hq⟩:=aqy _ hE0.1;rcases hq with ⟨q1,q2⟩ |⟨q1,q2,j,q3,q4⟩
  rotate_left
  ·rw [q1,q2]
   refine ⟨λ_=>B3 (λz=>LV.v<|.bool z) ?_,λh=>Ao⟩
   unfold vpB;rw [Qe (f:=λj=>I5 j<|Ae cs j) j q3 q4]
   rfl
  rw [q1];refine ⟨λh=>Ao,λ_=>?_⟩
  have g0:Dp (M cs) (λj=>I5 j<|Ae cs j)=true:=Dx.2 q2
  refine Jx ⟨⟨rfl,rfl,rfl,hk,ho⟩,rfl,rfl⟩ λhE1=>?_
  obtain ⟨s',_,hq⟩:=aqx _ hE1.1;rcases hq with ⟨q1,q2⟩ |⟨q1,q2,j,q3,q4⟩
  rotate_left
  ·rw [q1,q2]
   refine ⟨λ_=>B3 (λz=>LV.v<|.bool z) ?_,λh=>Ao⟩
   unfold vpB
   have hn:(ks.all (koV<|M os)&&once (ks.map (·.2.2.2)))=false:=by
    rw [IM];intro hx
    have:=(WB (d:=(emp,0,0,0))).2 hx j q3
    exact Bool.noConfusion<|this.symm.trans q4
   rw [g0,EU,<-VA,hn];rfl
  rw [q1];refine ⟨λh=>Ao,λ_=>?_⟩
  have g1:(ks.all (koV<|M os)&&once (ks.map (·.2.2.2)))=true:=(WB (d:=(emp,0,0,0))).1 q2
  refine Jx ⟨⟨rfl,AZ,hg,rfl,hc,ho⟩,rfl,rfl⟩ λhE2=>?_
  obtain ⟨s',_,hq⟩:=aqw _ hE2.1;rcases hq with ⟨q1,q2⟩ |⟨q1,q2,j,q3,q4⟩
  rotate_left
  ·rw [q1,q2]
   refine ⟨λ_=>B3 (λz=>LV.v<|.bool z) ?_,λh=>Ao⟩
   unfold vpB
   have hn:gs.all (GO (M cs)<|M os)=false:=by
    rw [IM];intro hx
    have:=(Qb (d:=(emp,0,0,0,0,0,0,0))).2 hx j q3
    exact Bool.noConfusion<|this.symm.trans q4
   rw [g0,EU,<-VA,g1,hn];rfl
  rw [q1];refine ⟨λh=>Ao,λ_=>?_⟩
  have g2:gs.all (GO (M cs)<|M os)=true:=(Qb (d:=(emp,0,0,0,0,0,0,0))).1 q2
  have hw:=AJ (x:=(M gs:Y)-1)
  refine Jx ⟨⟨rfl,AI,hb,rfl⟩,rfl,rfl⟩ λhE3=>?_
  obtain ⟨s',_,hq⟩:=aqv _ hE3.1;rcases hq with ⟨q1,q2⟩ |⟨q1,q2,j,q3,q4⟩
  rotate_left
  ·rw [q1,q2]
   refine ⟨λ_=>B3 (λz=>LV.v<|.bool z) ?_,λh=>Ao⟩
   unfold vpB
   have hn:bs.all (λb=>inB b.2 0<|(M gs:Y)-1)=false:=by
    rw [IM];intro hx
    have:=(Qb (d:=(emp,0))).2 hx j q3
    have q4:inB (ON bs j).2 0 (AA<|(M gs:Y)-1)=false:=q4
    rw [hw] at q4;exact Bool.noConfusion<|this.symm.trans q4
   rw [g0,EU,<-VA,g1,g2,hn];rfl
  rw [q1];refine ⟨λh=>Ao,λ_=>?_⟩
  have g3:bs.all (λb=>inB b.2 0<|(M gs:Y)-1)=true:=(Qb (d:=(emp,0))).1 (λj hj=>by
   have:inB (ON bs j).2 0 (AA<|(M gs:Y)-1)=true:=q2 j hj
   rw [hw] at this;exact this)
  refine B3 (λz=>LV.v<|.bool z) ?_
  unfold vpB;rw [g0,EU,<-VA,g1,g2,g3];rfl
 ·cases h)
structure M3 where
 r:aWo
 l:aWg
 (n i:Y)
 BG:aWl
 Bf:aWg
 C4:aWr
 BQ:aWh
 C5:aWs
 seen:aWg
def aJ2:=bN f33 0
def nK (s:M3):T (Rd M3):=letI a:=gS s.l s.i;.br (an<|s.i<s.n) (.ix s.i (M s.l)<|.br ((!(nameB a)) ||(List.contains s.seen a)) (.so (.ret) {s with r:=X})<|.req (List.contains s.seen a=X)<|.nx {s with i:=AA<|s.i+1,seen:=s.seen++[a]})<|.so (.exit 0) s
def SI (s:M3) (j:Y):aWo:=nameB (gS s.l j)&&!(((s.l.take j.toNat).map id).contains<|gS s.l j)
def wz (s:M3):Prop:=s.i=0/\s.seen=[]/\s.n=(M s.l:Y)/\s.n<=1000/\True
def cC (s:M3):Prop:=0<=s.i/\s.i<=s.n/\s.n=(M s.l:Y)/\s.n<=1000/\(True)/\s.seen=(s.l.take s.i.toNat).map id/\∀j:aWe,(j:Y)<s.i->SI s j=U
def aAx (s:M3):aWe:=(s.n-s.i).toNat
def wc (x:Ex) (s s':M3):Prop:=(x=.exit 0/\∀j:aWe,(j:Y)<s'.n->SI s' j=U)\/(x=.ret/\s'.r=X/\∃j:aWe,(j:Y)<s'.n/\SI s' j=X)
def aoA:∀s,wz s->cC s:=by
 exact aMs
def akI:Da cC aAx wc nK:=by
 intro s hI;unfold nK;obtain ⟨h0,h1,h2,h3,h4,h5,h6⟩:=hI;refine AH (λc1=>AH (λc2=>?_) λc2=>?_) λc1=>?_
 ·have c1:s.i<s.n:=AX
  refine .inr ⟨rfl,rfl,s.i.toNat,AZ,?_⟩;rw [CP h0]
  have hg:SI s s.i=false:=by
   unfold SI
   grind
  exact hg
 ·have c1:s.i<s.n:=AX
  have hg:SI s s.i=true:=by
   unfold SI
   grind
  rw [AJ (x:=s.i+1)];refine ⟨⟨AZ,AZ,h2,h3,h4,?_,λj hj=>?_⟩,by simp only [aAx];omega⟩
  ·simp only
   rw [(aIe h0 (show s.i<M s.l by omega)).2,h5]
   try rw [KD]
   try rfl
  ·exact aNP
 ·exact aMi
def SO:AS M3:=⟨0,61,[1,2,3,42,43,44],[],λs=>[.own 0 0,s.r,.om 1,s.l,s.n,s.i],λs=>[⟨[s.BG,s.Bf,s.C4,s.BQ,s.C5],28,.cl,X⟩,⟨[],154,.st .str s.seen,X⟩],λv b=>⟨DQ v 1,Az .str v 3,AK v 4,AK v 5,AF Af b 0 0,AF .str b 0 1,AF Al b 0 2,AF Ah b 0 3,AF Am b 0 4,gSe .str<|CW b 1⟩,nK,λs r=> {s with r:=r.r,i:=r.i,seen:=r.seen},λs=>s,λ_ s=>s,[.ret,.exit 0],wz,cC,aAx⟩
abbrev aQ6:=SO.run
abbrev aT5:=SO.As
def akE:Rq cC nK:=by
 intro s hI;refine ⟨λc1=>⟨?_,λ_=>trivial,λc2=>⟨?_,ak⟩⟩,λ_=>trivial⟩
 all_goals ((obtain ⟨h0,h1,h2,h3,h4,h5,h6⟩:=hI;first|(simp at c1;omega) |(simp only [Ga] at c2;exact c2.2)))
def aaI:aWp:=[awZ,awg,axB]
def aVd:SO.Ok:={}
def aVp:SO.Pf (wc):=⟨aoA,λs h=>rfl,akI,akE⟩
def axH:SA 0 aJ2 SO:=s1 aVd aVp aaI kN
def axK:Fi wz cC wc aT5 aQ6:=AS.fin aVd aVp
def aIr:aWf->T LV
 | .agg a::r=>s5 a λcs os ks gs bs=>(match r with
  | []=> .ok (BH cs os ks gs bs)
  |_=> .no)
 |_=> .no
def P5:=vm (S:=aIr) func33 aaI kN (L:=(λi=>if i=5 then SO.lp else Ak i)) (λb hb=>by
 rw [show BD _=[aJ2] by kernel_rfl] at hb
 simp only [BA,Bu,Bs] at hb;subst hb;exact axH) (λargs lv h=>by
 unfold aIr at h;split at h
 case h_2=>cases h
 replace h:=IT h
 obtain ⟨cs,os,ks,gs,bs,rfl,h⟩:=h;split at h
 ·refine Aq (letI b:=Lb cs os ks gs bs;letI e:=(M b:Y);letI f:=(M cs:Y);letI a:=(f<=1000/\(M os:Y)<=1000/\(M ks:Y)<=1000/\(M gs:Y)<=1000/\(M bs:Y)<=1000);.br ((an<|f<1) ||((an<|f>16) ||((an<|(M os:Y)>8) ||((an<|(M ks:Y)>32) ||((an<|(M gs:Y)>16) ||(an<|(M bs:Y)>24)))))) (.ok X)<|.req a<|.req (SO.q (⟨X,b,e,0,cs,os,ks,gs,bs,([]:aWg)⟩:M3))<|.br (Bb (aT5 (⟨X,b,e,0,cs,os,ks,gs,bs,([]:aWg)⟩:M3))<|.ret) (.ok (aQ6 (⟨X,b,e,0,cs,os,ks,gs,bs,([]:aWg)⟩:M3)).r)<|.req a<|.ok<|vpB cs os ks gs bs) ?_
  obtain rfl:=h;refine ⟨λc=>B3 (λz=>LV.v<|.bool z) ?_,λc=>?_⟩
  ·rw [Sk,IM]
   intro hx;unfold BH at hx;rw [AY,Aa] at hx;simp only [Cj,Aa] at c;omega
  have hd:1<=M cs/\M cs<=16/\M os<=8/\M ks<=32/\M gs<=16/\M bs<=24:=by
   simp only [Ga,DC] at c;omega
  have hs:BH cs os ks gs bs=(((Lb cs os ks gs bs).all nameB&&once (Lb cs os ks gs bs))&&vpB cs os ks gs bs):=by
   unfold BH
   grind
  have hl:(M (Lb cs os ks gs bs):Y)<=1000:=by
   unfold Lb;simp only [BL,GB];omega
  rw [hs]
  have hr:(M cs:Y)<=1000/\(M os:Y)<=1000/\(M ks:Y)<=1000/\(M gs:Y)<=1000/\(M bs:Y)<=1000:=A0
  refine ⟨hr,?_⟩;generalize Lb cs os ks gs bs=l at*;refine Jx ⟨⟨rfl,rfl,rfl,hl,ak⟩,rfl,rfl⟩ λhE=>?_
  obtain ⟨s',_,hq⟩:=axK _ hE.1;rcases hq with ⟨q1,q2⟩ |⟨q1,q2,j,q3,q4⟩
  ·rw [q1]
   have hk:=(WB (d:=emp) (p:=nameB) (k:=id)).1 q2
   rw [VJ] at hk;refine ⟨λh=>Ao,λ_=>⟨hr,?_⟩⟩
   rw [hk,EU];rfl
  ·rw [q1,q2]
   refine ⟨λ_=>B3 (λz=>LV.v<|.bool z) ?_,λh=>Ao⟩
   have hn:(l.all nameB&&once l)=false:=by
    rw [IM];intro hx
    have:=(WB (d:=emp) (p:=nameB) (k:=id)).2 (by rw [VJ];exact hx) j q3
    exact Bool.noConfusion<|this.symm.trans q4
   rw [hn];rfl
 ·cases h)
def aKs:aWf->T LV
 | .agg a::r=>s5 a λcs os ks gs bs=>(match r with
  | [.v (ag J c)]=> .ok (.fn 172 [xQ 1 [c],xQ 5 [cs,os,ks,gs,bs]])
  |_=> .no)
 |_=> .no
def Qy:aWp:=[]
def aaT:B1:=kI Qy<|l0 Qy
def fi:=vo (S:=aKs) func134 Qy aaT (λargs lv h=>by
 unfold aKs at h;split at h
 case h_2=>cases h
 replace h:=IT h
 obtain ⟨cs,os,ks,gs,bs,rfl,h⟩:=h;split at h
 ·rename_i c
  refine Aq (.ok<|.fn 172 [(xQ 1 [c]),(xQ 5 [cs,os,ks,gs,bs])]) ?_;exact h
 ·cases h)
def aAY:Array Tmp×Code×Code:=((Iz<|f214.body.getD .skip)[0]?).getD (#[],.skip,.skip)
def alj:aW8:=aAY.1
def alD:aWO:=aAY.2.1
def al5:aWO:=aAY.2.2
structure Mu where
 cs:aWl
 os:aWg
 ks:aWr
 gs:aWh
 bs:aWs
 (c b0:Y)
 b1:aWo
 st:LS
def iU (s:Mu):T (Rd Mu):=
 .br (an<|s.c>=0) (.br (s.c==s.b0) (.so (.ret) {s with b1:=U,st:=.done<|.ret})<|.ix s.c (M s.cs)<|.nx {s with c:=(Ae s.cs s.c).2.1}) (.so (.exit 0) s)
def aCT (s:Mu):Prop:=s.st=.ready/\Fh s.cs=U/\s.c<(M s.cs:Y)/\s.b1=X
def jU (s:Mu):Prop:=s.st=.ready/\Fh s.cs=U/\s.c<(M s.cs:Y)
def tz (s:Mu):aWe:=(s.c+1).toNat
def abl (x:Ex) (s s':Mu):Prop:=(x=.ret/\s'.b1=U/\Fk s.cs s.b0 s.c=U)\/(x=.exit 0/\Fk s.cs s.b0 s.c=X)
def alH:∀s,aCT s->jU s:=by
 rintro s ⟨h0,h1,h2,h3⟩
 exact ⟨h0,h1,h2⟩
def aQr:Da jU tz abl iU:=by
 intro s hI;obtain ⟨h0,h1,h2⟩:=hI
 have hp:=aRL (o:=s.b0) h1 h2
 refine AH (λc1=>AH (λc2=>?_) λc2=>?_) λc1=>?_
 ·have c1:0<=s.c:=A8
  exact .inl ⟨rfl,rfl,A8⟩
 ·have c1:0<=s.c:=A8
  have:=Qo h1 c1 h2
  exact ⟨⟨h0,h1,A8⟩,by simp only [tz];omega⟩
 ·have c1:¬(0<=s.c):=A8
  exact .inr ⟨rfl,A8⟩
def Yy:AS Mu:=⟨3,18,[0,2,4],[],λs=>[.CO 2,xQ 5 [s.cs,s.os,s.ks,s.gs,s.bs],s.c],λs=>[⟨[s.b0],3,.cl,X⟩,⟨[s.b1],4,.cl,X⟩,⟨[.junk,.junk,.junk,.own 0 0,.own 1 0,.v<|.tuple #[],.junk,.v<|.tuple #[],.v<|.tuple #[],.v<|.tuple #[],.v<|.tuple #[]],0,.Cl alj alD al5 s.st,X⟩],λv b=>⟨Ar Af<|BT (v.getD 1 .junk) 0,Ar .str<|BT (v.getD 1 .junk) 1,Ar Al<|BT (v.getD 1 .junk) 2,Ar Ah<|BT (v.getD 1 .junk) 3,Ar Am<|BT (v.getD 1 .junk) 4,AK v 2,Aj b 0 0,cgB b 1 0,.ready⟩,iU,λs r=> {r with cs:=s.cs,os:=s.os,ks:=s.ks,gs:=s.gs,bs:=s.bs,b0:=s.b0},λs=> {s with st:=.ready},λx s=> {s with st:=(match x with| .ret=>(.done<|.ret) | .exit 0=> .ready|_=> .ready)},[.ret,.exit 0],aCT,jU,tz⟩
abbrev rC:=Yy.run
abbrev sO:=Yy.As
def ayR:Rq jU iU:=by
 intro s hI;refine ⟨λc1=>⟨λ_=>trivial,λc2=>⟨?_,ak⟩⟩,λ_=>trivial⟩
 ·(obtain ⟨h0,h1,h2⟩:=hI;simp at c1 h2;exact ⟨c1,h2⟩)
def uN:Yy.Ok:={}
def tI:Yy.Pf (abl):=⟨alH,λs h=>by
 obtain ⟨cs,os,ks,gs,bs,c,b0,b1,st⟩:=s
 have e:=h.1
 subst e;rfl,aQr,ayR⟩
def as3:=s2 (b:=bN f172 0) uN tI Qy aaT
def azU (s:Mu) (hE:aCT s):(sO s=.ret/\(rC s).b1=U/\Fk s.cs s.b0 s.c=U)\/(sO s=.exit 0/\Fk s.cs s.b0 s.c=X):=by
 have hk:=AS.Kh uN tI (λs=>Fk s.cs s.b0 s.c) (λs hI=>by
  obtain ⟨h0,h1,h2⟩:=hI
  have hp:=aRL (o:=s.b0) h1 h2
  refine AH (λc1=>AH (λc2=>rfl) λc2=>?_) λc1=>rfl
  have c1:0<=s.c:=A8
  show Fk _ _ _=Fk _ _ _
  rw [hp,AD c1,c2,D4]) s hE
 have hk:Fk s.cs s.b0 (rC s).c=Fk s.cs s.b0 s.c:=hk
 obtain ⟨s',hI,hf⟩:=AS.end_ uN tI s hE
 have hq:=cv (aQr s' hI) hf
 have hc:=cv (Pn:=λ_=>True) (Ps:=λ_ r=>r.cs=s'.cs/\r.b0=s'.b0/\r.c=s'.c) (r:=(iU s').rd s') (by
   exact AH (λ_=>AH (λ_=>⟨rfl,rfl,rfl⟩) λ_=>trivial) λ_=>⟨rfl,rfl,rfl⟩) hf
 obtain ⟨hc1,hc3,hc2⟩:=hc
 have e1:s.cs=s'.cs:=hc1
 have e2:s.b0=s'.b0:=hc3
 rwa [<-hk,hc2,e1,e2]
def aUJ:aWf->T LV
 | [.fn 172 [.xq 1 q0,.xq 5 q1],.v (ag J o)]=>(match ([q0 0]:aWf) with
  | [.v (ag J c)]=>(match ([q1 0,q1 1,q1 2,q1 3,q1 4]:aWf) with
  | [.xl (.pair .str (.pair (.int J) (.pair (.int J) (.pair (.int J) (.pair (.pair (.int J) (.int J)) (.pair (.int J) (.pair (.int J) (.pair (.int J) (.pair (.int J) (.int J)))))))))) cs,.xl (.str) os,.xl (.pair .str (.pair (.int J) (.pair (.int J) (.int J)))) ks,.xl (.pair .str (.pair (.int J) (.pair (.int J) (.pair (.int J) (.pair (.int J) (.pair (.int J) (.pair (.int J) (.int J)))))))) gs,.xl (.pair .str (.int J)) bs]=> .req (Fh cs=U/\c<(M cs:Y)) (.ok<|Fk cs o c)
  |_=> .no)
  |_=> .no)
 |_=> .no
def aaS:B1:=kI Qy<|la 1 func172 as3<|l0 Qy
def agD (c:Y) (cs:aWl) (os:aWg) (ks:aWr) (gs:aWh) (bs:aWs) (o:Y):Bl prog AV Qy aaS Ak f214 [.fn 172 [xQ 1 [c],xQ 5 [cs,os,ks,gs,bs]],o]=.req (Yy.q (⟨cs,os,ks,gs,bs,c,o,X,.ready⟩:Mu)) (.br (Bb (sO (⟨cs,os,ks,gs,bs,c,o,X,.ready⟩:Mu))<|.ret) (.ok (rC (⟨cs,os,ks,gs,bs,c,o,X,.ready⟩:Mu)).b1)<|.ok X):=AU
def akg:=vo (S:=aUJ) func214 Qy aaS (λargs lv h=>by
 refine ⟨?_⟩;unfold aUJ at h;split at h
 ·split at h
  case h_2=>cases h
  rename_i heq0;split at h
  case h_2=>cases h
  rename_i heq1;simp only [canL,canX];rw [E6 (n:=1) heq0];rw [E6 (n:=5) heq1];simp only [canL,canX];rw [agD];obtain ⟨⟨hu,hc⟩,rfl⟩:=h;refine Jx ⟨⟨rfl,hu,hc,rfl⟩,rfl,rfl⟩ λhE=>?_
  rcases azU _ hE.1 with ⟨h1,h2,h3⟩ |⟨h1,h2⟩
  ·rw [h1,h2]
   exact ⟨λ_=>B3 (λz=>LV.v<|.bool z) h3.symm,λh=>Ao⟩
  ·rw [h1]
   exact ⟨λh=>Ao,λ_=>B3 (λz=>LV.v<|.bool z) h2.symm⟩
 ·cases h)
structure OE where
 l:aWh
 (n i:Y)
 Bg:aWl
 Gf:aWg
 Gc:aWr
 Gi:aWh
 Gl:aWs
 b1:Y
 out:aWd
def aJC:=bN f180 0
def nQ (s:OE):T (Rd OE):=
 .br (an<|s.i<s.n) (.ix s.i (M s.l)<|.req (Fh s.Bg=U/\(AG s.l s.i).2.1<(M s.Bg:Y))<|.br (Fk s.Bg s.b1 (AG s.l s.i).2.1) (.rb (M s.out) (M<|[s.i]) 8<|.re (M s.out+M ([s.i])) (s.out++([s.i]))<|.nx {s with i:=AA<|s.i+1,out:=s.out++([s.i])})<|.rl s.out<|.nx {s with i:=AA<|s.i+1}) (.rl s.out<|.so (.exit 0) s)
def oC (s:OE):Prop:=s.i=0/\s.out=[]/\s.n=(M s.l:Y)/\s.n<=1000/\Fh s.Bg=U/\atB s.Bg s.l=U
def bx (s:OE):Prop:=(0<=s.i/\s.i<=s.n)/\s.out=Cv s.Bg s.l s.b1 s.i.toNat/\s.n=(M s.l:Y)/\s.n<=1000/\Fh s.Bg=U/\atB s.Bg s.l=U
def jH (s:OE):aWe:=(s.n-s.i).toNat
def wv (x:Ex) (s s':OE):Prop:=x=.exit 0/\s'.out=Cv s'.Bg s'.l s'.b1 (M s'.l)
def aoj:∀s,oC s->bx s:=by
 rintro s ⟨h0,h1,h2,h3,h4,h5⟩
 exact ⟨⟨A0,A0⟩,yp,h2,h3,h4,h5⟩
def aoL:Da bx jH wv nQ:=by
 intro s hI;unfold nQ;obtain ⟨⟨h0,h1⟩,h2,h3,h4,h5,h6⟩:=hI;refine AH (λc1=>?_) λc1=>?_
 ·have c1:s.i<s.n:=AX
  have hs:=aFE (cs:=s.Bg) (gs:=s.l) (o:=s.b1) (k:=s.i.toNat)
  rw [AJ (x:=s.i+1)];refine AH (λc2=>?_) λc2=>?_
  ·refine ⟨⟨⟨AZ,AZ⟩,?_,h3,h4,h5,h6⟩,by simp only [jH];omega⟩
   simp only
   grind
  ·refine ⟨⟨⟨A8,A8⟩,?_,h3,h4,h5,h6⟩,by simp only [jH];omega⟩
   simp only
   grind
 ·have c1:s.n<=s.i:=AX
  exact ⟨rfl,A8⟩
def SU:AS OE:=⟨0,42,[6,7,26,27,28],[.nl 7 3 A7],λs=>[.fn 213 [.own 0 0,.own 1 0],.os 2 1 0<|M s.out,s.l,s.n,s.i],λs=>[⟨[s.Bg,s.Gf,s.Gc,s.Gi,s.Gl],28,.cl,X⟩,⟨[s.b1],3,.cl,X⟩,bV 3 A7 s.out],λv b=>⟨Az Ah v 2,AK v 3,AK v 4,AF Af b 0 0,AF .str b 0 1,AF Al b 0 2,AF Ah b 0 3,AF Am b 0 4,Aj b 1 0,Ac A7 b 2⟩,nQ,λs r=> {s with i:=r.i,out:=r.out},λs=>s,λ_ s=>s,[.exit 0],oC,bx,jH⟩
abbrev qW:=SU.run
abbrev ahy:=SU.As
def ald:Rq bx nQ:=by
 intro s hI;refine ⟨λc1=>⟨?_,?_,λc2=>⟨?_,?_,ak⟩,λc2=>⟨A9,ak⟩⟩,λc1=>⟨A9,ak⟩⟩
 all_goals ((obtain ⟨⟨h0,h1⟩,h2,h3,h4,h5,h6⟩:=hI;have hol:M s.out<=s.i.toNat:=(by rw [h2];exact pe);(try simp only [Aa] at c1);first|omega|exact ⟨h5,gX h6 h0 A0⟩ |(refine ⟨A0,?_,?_⟩<;>simp only [Bj,Bt]<;>omega) |exact ⟨rfl,AI⟩ |exact ⟨rfl,rfl⟩))
def jE:aWp:=[P5,fi,akg]
def aaR:B1:=kI jE<|l0 jE
def abJ:SU.Ok:={}
def aVz:SU.Pf (wv):=⟨aoj,λs h=>rfl,aoL,ald⟩
def ayg:SA 0 aJC SU:=s1 abJ aVz jE aaR
def ain:Fi oC bx wv ahy qW:=AS.fin abJ aVz
def aHX:aWf->T LV
 | .agg a::r=>s5 a λcs os ks gs bs=>(match r with
  | [.v (ag J o)]=> .ok (.AO [.xl A7<|QL cs os ks gs bs o,wY cs os ks gs bs o])
  |_=> .no)
 |_=> .no
def aqh:=vm (S:=aHX) func180 jE aaR (L:=(λi=>if i=6 then SU.lp else Ak i)) (λb hb=>by
 rw [show BD _=[aJC] by kernel_rfl] at hb
 simp only [BA,Bu,Bs] at hb;subst hb;exact ayg) (λargs lv h=>by
 unfold aHX at h;split at h
 case h_2=>cases h
 replace h:=IT h
 obtain ⟨cs,os,ks,gs,bs,rfl,h⟩:=h;split at h
 ·rename_i o
  refine Aq (letI a:=(qW (⟨gs,(M gs:Y),0,cs,os,ks,gs,bs,o,([]:aWd)⟩:OE));.br ((!(BH cs os ks gs bs)) ||((an<|o<0) ||(an<|o>=(M cs:Y)))) (.ok<|.AO [.xl A7 ([]:aWd),(1:Y)])<|.r0 Int<|.req (SU.q (⟨gs,(M gs:Y),0,cs,os,ks,gs,bs,o,([]:aWd)⟩:OE))<|.rz a.out<|.ok<|.AO [.xl A7<|(a.out.drop 0).take<|M a.out,(0:Y)]) ?_;obtain rfl:=h;refine ⟨λc=>?_,λc=>?_⟩
  ·have hn:¬(BH cs os ks gs bs=U/\0<=o/\o<(M cs:Y)):=by
    rintro ⟨h1,h2,h3⟩
    rw [h1] at c
    simp at c
    omega
   show LV.AO _=_
   unfold QL wY
   grind
  ·simp only [Ga,IK,DC] at c
   have hl:=(DK.1 c.1).1
   have hE:oC ⟨gs,(M gs:Y),0,cs,os,ks,gs,bs,o,([]:aWd)⟩:=⟨rfl,rfl,rfl,AZ,pU c.1,pV c.1⟩
   obtain ⟨s',_,q1,q2⟩:=ain _ hE
   have q2:(qW ⟨gs,(M gs:Y),0,cs,os,ks,gs,bs,o,([]:aWd)⟩).out=Cv cs gs o (M gs):=q2
   refine ⟨A9,⟨hE,rfl,rfl⟩,A0,?_⟩
   show LV.AO [LV.xl _ _,_]=_
   unfold QL wY
   grind
 ·cases h)
def aKD:aWf->T LV
 | [.v (.agg ⟨[ag J am,ag J mo,ag J ga,ag J lo,ag J de]⟩)]=> .ok (Ik (am,mo,ga,lo,de))
 |_=> .no
def RA:aWp:=[]
def hnd20:B1:=kI RA<|l0 RA
def awr:=vo (S:=aKD) func173 RA hnd20 (λargs lv h=>by
 unfold aKD at h;split at h
 ·rename_i am mo ga lo de
  refine Aq (.br ((am==0)&&((mo==0)&&((ga==0)&&((lo==0)&&(de==0))))) (.ok U)<|.br ((an<|am>=0)&&(an<|am<=200000)) (.br (an<|mo>am) (.br (an<|mo<=200000) (.br ((an<|ga>=0)&&(an<|ga<=1000)) (.br ((an<|lo>=0)&&(an<|lo<=1000)) (.ok<|.v<|.bool<|(an<|de>=1)&&(an<|de<=1000000))<|.ok X)<|.ok X)<|.ok X)<|.ok X)<|.ok X) ?_;obtain rfl:=h;unfold Ik cbZ;refine ⟨λc=>by rw [c];rfl,λc=>?_⟩
  unfold inB;refine ⟨λc1=>⟨λc2=>⟨λc3=>⟨λc4=>⟨λc5=>?_,λc5=>?_⟩,λc4=>?_⟩,λc3=>?_⟩,λc2=>?_⟩,λc1=>?_⟩
  all_goals refine B3 (λz=>LV.v<|.bool z) ?_
  all_goals
   grind
 ·cases h)
def aJI:aWf->T LV
 | [.xq 6 q0]=>(match ([q0 0,q0 1,q0 2,q0 3,q0 4,q0 5]:aWf) with
  | [.v (ag J am),.v (ag J mo),.v (ag J ga),.v (ag J lo),.v (ag J de),.v (ag J now)]=> .ok (.v<|ag J (if de<lo then de else lo))
  |_=> .no)
 |_=> .no
def asK (am mo ga lo de now:Y):Bl prog AV (RA) kN Ak f175 [xQ 6 [am,mo,ga,lo,de,now]]=.ok (.v<|ag J (if de<lo then de else lo)):=AU
def ax8:=vo (S:=aJI) func175 RA kN (λargs lv h=>by
 refine ⟨?_⟩;unfold aJI at h;split at h
 ·split at h
  case h_2=>cases h
  rename_i heq0;simp only [canL,canX];rw [E6 (n:=6) heq0];simp only [canL,canX]
  rwa [asK]
 ·cases h)
def aJH:aWf->T LV
 | [.xq 6 q0]=>(match ([q0 0,q0 1,q0 2,q0 3,q0 4,q0 5]:aWf) with
  | [.v (ag J am),.v (ag J mo),.v (ag J ga),.v (ag J lo),.v (ag J de),.v (ag J now)]=> .ok (cbZ (am,mo,ga,lo,de))
  |_=> .no)
 |_=> .no
def asJ (am mo ga lo de now:Y):Bl prog AV (RA) kN Ak f174 [xQ 6 [am,mo,ga,lo,de,now]]=.ok (.v<|.bool<|(am==0)&&((mo==0)&&((ga==0)&&((lo==0)&&(de==0))))):=AU
def ax7:=vo (S:=aJH) func174 RA kN (λargs lv h=>by
 refine ⟨?_⟩;unfold aJH at h;split at h
 ·split at h
  case h_2=>cases h
  rename_i heq0;simp only [canL,canX];rw [E6 (n:=6) heq0];simp only [canL,canX]
  rwa [asJ]
 ·cases h)
structure OM where
 (low high af8 avO avQ avP aiv aqB b11 b12 b13 b14 aiu b3:Y)
def nP (s:OM):T (Rd OM):=letI a:=AA<|s.low+(AA<|(AA<|(AA<|s.high-s.low)+1).tdiv 2);.br (an<|s.low<s.high) (.req ((2:Y)≠0)<|.br (an<|(AA<|(AA<|s.b12*a)*a)<=s.b3) (.nx {s with low:=a})<|.nx {s with high:=AA<|a-1})<|.so (.exit 0) s
def x6 (s:OM):Prop:=s.low=0/\s.high=1000/\(0<=s.b12/\s.b12<=1000)/\0<=s.b3
def bw (s:OM):Prop:=(0<=s.low/\s.low<=s.high/\s.high<=1000)/\s.b12*s.low*s.low<=s.b3/\(∀a:Y,s.high<a->a<=1000->¬s.b12*a*a<=s.b3)/\(0<=s.b12/\s.b12<=1000)/\0<=s.b3
def jG (s:OM):aWe:=(s.high-s.low).toNat
def wu (x:Ex) (s s':OM):Prop:=x=.exit 0/\s'.low=prm s'.b12 s'.b3
def aoZ:∀s,x6 s->bw s:=by
 rintro s ⟨h0,h1,h2,h3⟩
 exact ⟨A0,A8,λa h h2=>A0,h2,h3⟩
def anU:Da bw jG wu nP:=by
 intro s hI;unfold nP;obtain ⟨⟨h0,h1,h2⟩,h3,h4,⟨h5,h6⟩,h7⟩:=hI
 have em:s.low<s.high->AA (s.low+AA ((AA<|AA (s.high-s.low)+1).tdiv 2))=s.low+(s.high-s.low+1) / 2:=λc=>by
  rw [AJ (x:=s.high-s.low),AJ (x:=s.high-s.low+1),IL A0,AJ (x:=(s.high-s.low+1) / 2),AJ]
 refine AH (λc1=>?_) λc1=>?_
 ·have c1:s.low<s.high:=AX
  rw [em c1]
  have hm1:s.low<s.low+(s.high-s.low+1) / 2:=A0
  have hm2:s.low+(s.high-s.low+1) / 2<=s.high:=A0
  generalize s.low+(s.high-s.low+1) / 2=m at hm1 hm2|-;obtain ⟨⟨b1,b2⟩,b3,b4⟩:=akM h5 h6 (m:=m) A0 A0;rw [AJ (x:=s.b12*m),AJ (x:=s.b12*m*m),AJ (x:=m-1)];refine AH (λc2=>?_) λc2=>?_
  ·have c2:s.b12*m*m<=s.b3:=EY
   exact ⟨⟨⟨AZ,AZ,h2⟩,c2,h4,⟨h5,h6⟩,h7⟩,by simp only [jG];omega⟩
  ·have c2:¬s.b12*m*m<=s.b3:=EY
   refine ⟨⟨⟨h0,AZ,AZ⟩,h3,λa ha hk=>?_,⟨h5,h6⟩,h7⟩,by simp only [jG];omega⟩
   have:=aqV h5 (a:=m) (b:=a) A0 A8
   simp only;omega
 ·have c1:s.high<=s.low:=AX
  refine ⟨rfl,(aI5 (k:=1000) h0 A0 (.inr h3) λa ha hk=>h4 a A0 A0).symm⟩
def cH:AS OM:=⟨4,25,[0,1,2],[],λs=>[s.low,s.high,.fn 177 [.own 2 0,.own 3 0]],λs=>[⟨[s.af8,s.avO,s.avQ,s.avP,s.aiv],77,.cl,X⟩,⟨[s.aqB,s.b11,s.b12,s.b13,s.b14,s.aiu],296,.cl,X⟩,⟨[.own 1 0],294,.cl,X⟩,⟨[s.b3],3,.cl,X⟩],λv b=>⟨AK v 0,AK v 1,Aj b 0 0,Aj b 0 1,Aj b 0 2,Aj b 0 3,Aj b 0 4,Aj b 1 0,Aj b 1 1,Aj b 1 2,Aj b 1 3,Aj b 1 4,Aj b 1 5,Aj b 3 0⟩,nP,λs r=> {s with low:=r.low,high:=r.high},λs=>s,λ_ s=>s,[.exit 0],x6,bw,jG⟩
abbrev aQ7:=cH.run
abbrev ahx:=cH.As
def U4:aWp:=[awr,ax7,ax8]
def am1:B1:=kI U4<|l0 U4
def alb:Rq bw nP:=by
 intro s hI;refine ⟨λc1=>⟨?_,λ_=>trivial,λ_=>trivial⟩,λ_=>trivial⟩
 ·omega
def abH:cH.Ok:={}
def aVx:cH.Pf (wu):=⟨aoZ,λs h=>rfl,anU,alb⟩
def aye:=s2 (b:=bN f176 0) abH aVx U4 am1
def ah0:Fi x6 bw wu ahx aQ7:=AS.fin abH aVx
def aJ0:aWf->T LV
 | [.v (.agg ⟨[ag J am,ag J mo,ag J ga,ag J lo,ag J de]⟩)]=> .tu #[N4 (am,mo,ga,lo,de),pmE (am,mo,ga,lo,de)]
 |_=> .no
def am0:B1:=kI U4<|la 1 func176 aye<|l0 U4
def awX:=vo (S:=aJ0) func137 U4 am0 (λargs lv h=>by
 unfold aJ0 at h;split at h
 ·rename_i am mo ga lo de
  refine Aq (letI a:=AA<|(if de<lo then de else lo)*(AA<|mo-am);.br (!(Ik (am,mo,ga,lo,de))) (.tu #[(0:Y),(1:Y)])<|.br (cbZ (am,mo,ga,lo,de)) (.tu #[(1000:Y),(0:Y)])<|.req (cH.q (⟨0,1000,am,mo,ga,lo,de,am,mo,ga,lo,de,0,a⟩:OM))<|.tu #[(aQ7 (⟨0,1000,am,mo,ga,lo,de,am,mo,ga,lo,de,0,a⟩:OM)).low,(0:Y)]) ?_
  obtain rfl:=h;refine ⟨λc=>?_,λc=>⟨λc2=>?_,λc2=>?_⟩⟩
  ·have c:Ik (am,mo,ga,lo,de)=false:=Ir
   simp [T.all,N4,pmE,c]
  ·have c:Ik (am,mo,ga,lo,de)=true:=Ir
   simp [T.all,N4,pmE,c,c2]
  ·have c:Ik (am,mo,ga,lo,de)=true:=Ir
   obtain ⟨⟨h1,h2,h3⟩,⟨h4,h5⟩,⟨h6,h7⟩,h8,h9⟩:=aij c c2;simp only at h1 h2 h3 h4 h5 h6 h7 h8 h9
   have hm:0<=(if de<lo then de else lo)/\(if de<lo then de else lo)<=1000:=by split<;>omega
   have e:N4 (am,mo,ga,lo,de)=prm ga ((if de<lo then de else lo)*(mo-am)):=by
    unfold N4
    grind
   have e2:pmE (am,mo,ga,lo,de)=0:=by
    unfold pmE;rw [AD c]
   rw [e,e2,AJ (x:=mo-am)];generalize (if de<lo then de else lo)=mn at hm|-
   have a1:0<=mn*(mo-am):=Im hm.1 A0
   have a2:mn*(mo-am)<=1000*(mo-am):=M6 hm.2 A0
   rw [AJ (x:=mn*(mo-am))];refine Jx ⟨⟨rfl,rfl,⟨h4,h5⟩,a1⟩,rfl,rfl⟩ λhE=>?_
   obtain ⟨s',_,q1,q2⟩:=ah0 _ hE.1;rw [q2];rfl
 ·cases h)
structure Kg where
 first:Y
 l:aWd
 (n i:Y)
def aHR:=bN f138 0
def zk (s:Kg):T (Rd Kg):=
 .br (an<|s.i<s.n) (.ix s.i (M s.l)<|.nx {s with first:=(if (gi s.l s.i)<s.first then (gi s.l s.i) else s.first),i:=AA<|s.i+1}) (.so (.exit 0) s)
def k8 (s:Kg):Prop:=s.i=0/\s.n=(M s.l:Y)/\s.n<=1000
def YO (s:Kg):Prop:=0<=s.i/\s.i<=s.n/\s.n=(M s.l:Y)/\s.n<=1000
def tW (s:Kg):aWe:=(s.n-s.i).toNat
def aBV (x:Ex) (s s':Kg):Prop:=x=.exit 0/\s'.i=s'.n
def amZ:∀s,k8 s->YO s:=by
 exact mH
def ahS:Da YO tW aBV zk:=by
 intro s hI;obtain ⟨h0,h1,h2,h3⟩:=hI;refine AH (λc1=>?_) λc1=>?_
 ·have c1:s.i<s.n:=A8
  rw [AJ (x:=s.i+1)];exact ⟨⟨A8,A8,h2,h3⟩,by simp only [tW];omega⟩
 ·exact Sj
def RY:AS Kg:=⟨0,18,[0,7,8,9],[],λs=>[s.first,.xl A7 s.l,s.n,s.i],λ_=>[],λv b=>⟨AK v 0,Az A7 v 1,AK v 2,AK v 3⟩,zk,λs r=> {r with l:=s.l,n:=s.n},λs=>s,λ_ s=>s,[.exit 0],k8,YO,tW⟩
abbrev dX:=RY.run
abbrev avJ:=RY.As
def azd:Rq YO zk:=by
 intro s hI;refine ⟨λc1=>⟨?_,ak⟩,λ_=>trivial⟩
 ·(obtain ⟨h0,h1,h2,h3⟩:=hI;simp at c1;omega)
def j9:aWp:=[]
def uX:RY.Ok:={}
def sh:RY.Pf (aBV):=⟨amZ,λs h=>rfl,ahS,azd⟩
def arR:SA 0 aHR RY:=s1 uX sh j9 kN
def auI:Fi k8 YO aBV avJ dX:=AS.fin uX sh
def apX (s:Kg) (hE:k8 s):(λs:Kg=>JZ s.first<|s.l.drop s.i.toNat) (dX s)=(λs:Kg=>JZ s.first<|s.l.drop s.i.toNat) s:=by
 exact AS.Kh uX sh (λs:Kg=>JZ s.first<|s.l.drop s.i.toNat) (λs hI=>by
  obtain ⟨h0,h1,h2,h3⟩:=hI;refine AH (λc1=>?_) λc1=>rfl
  have c1:s.i<s.n:=A8
  rw [AJ (x:=s.i+1)];rw [(gi_step h0 (show s.i<M s.l by omega)).1]
  rfl) s hE
def aL7:aWf->T LV
 | [.v (ag J f),.xl (.int J) l]=> .req ((M l:Y)<=1000) (.ok<|JZ f l)
 |_=> .no
def awe:=vm (S:=aL7) func138 j9 kN (L:=(λi=>if i=2 then RY.lp else Ak i)) (λb hb=>by
 rw [show BD _=[aHR] by kernel_rfl] at hb
 simp only [BA,Bu,Bs] at hb;subst hb;exact arR) (λargs lv h=>by
 unfold aL7 at h;split at h
 ·rename_i f l
  refine Aq (.req (RY.q (⟨f,l,(M l:Y),0⟩:Kg))<|.ok (dX (⟨f,l,(M l:Y),0⟩:Kg)).first) ?_;obtain ⟨hl,rfl⟩:=h;refine Jx ⟨⟨rfl,rfl,hl⟩,rfl,rfl⟩ λhE=>?_
  obtain ⟨s',_,q1,q2⟩:=auI _ hE.1
  have q3:=apX _ hE.1
  simp only at q3;rw [q2] at q3
  have e:(dX ⟨f,l,(M l:Y),0⟩).n=(M l:Y):=rfl
  have e2:(dX ⟨f,l,(M l:Y),0⟩).l=l:=rfl
  rw [e,e2,F6 A0] at q3;exact B3 (λz=>LV.v<|ag J z) q3
 ·cases h)
def aL3:aWf->T LV
 | [.v (.agg ⟨[.string nm,ag J up_,ag J li,ag J ne,ag J ra,ag J he,ag J am,ag J mo,ag J ga,ag J lo,ag J de]⟩)]=> .ok (DE (nm,up_,li,ne,(ra,he),am,mo,ga,lo,de))
 |_=> .no
def ann:aWp:=[awX,awe]
def tN:=vo (S:=aL3) func100 ann kN (λargs lv h=>by
 unfold aL3 at h;split at h
 ·rename_i nm up_ li ne ra he am mo ga lo de
  refine Aq (letI a:=(N4 (am,mo,ga,lo,de));.br ((pmE (am,mo,ga,lo,de)) !=0) (.br (ra==0) (.req ((M ([ne,(0:Y)]):Y)<=1000)<|.ok<|JZ li<|[ne,(0:Y)])<|.req ((M ([ne,(0:Y),ra]):Y)<=1000)<|.ok<|JZ li<|[ne,(0:Y),ra])<|.br (ra==0) (.req ((M ([ne,a]):Y)<=1000)<|.ok<|JZ li<|[ne,a])<|.req ((M ([ne,a,ra]):Y)<=1000)<|.ok<|JZ li<|[ne,a,ra]) ?_;obtain rfl:=h;unfold DE;simp only;refine ⟨λc=>?_,λc=>?_⟩
  ·have e:N4 (am,mo,ga,lo,de)=0:=by
    rw [atO] at c
    have c:Ik (am,mo,ga,lo,de)=false:=Ir
    unfold N4;rw [c];rfl
   rw [e];refine ⟨λc2=>⟨AI,?_⟩,λc2=>⟨AI,?_⟩⟩
   ·rw [AD EY];rfl
   ·rw [AE EY];rfl
  ·refine ⟨λc2=>⟨AI,?_⟩,λc2=>⟨AI,?_⟩⟩
   ·rw [AD A8];rfl
   ·rw [AE A8];rfl
 ·cases h)
def aIw:aWf->T LV
 | [.v (ag J k),.xq 5 q0,.xq 2 q1]=>(match ([q0 0,q0 1,q0 2,q0 3,q0 4]:aWf) with
  | [.xl (.pair .str (.pair (.int J) (.pair (.int J) (.pair (.int J) (.pair (.pair (.int J) (.int J)) (.pair (.int J) (.pair (.int J) (.pair (.int J) (.pair (.int J) (.int J)))))))))) cs,.xl (.str) os,.xl (.pair .str (.pair (.int J) (.pair (.int J) (.int J)))) ks,.xl (.pair .str (.pair (.int J) (.pair (.int J) (.pair (.int J) (.pair (.int J) (.pair (.int J) (.pair (.int J) (.int J)))))))) gs,.xl (.pair .str (.int J)) bs]=>(match ([q1 0,q1 1]:aWf) with
  | [.v (ag J c),.v (ag J p)]=> .req ((0<=k/\k<(M gs:Y))/\0<=p) (.ok<|usA (AG gs k).2.2.1 p)
  |_=> .no)
  |_=> .no)
 |_=> .no
def asN (k:Y) (cs:aWl) (os:aWg) (ks:aWr) (gs:aWh) (bs:aWs) (c p:Y):Bl prog AV (j9) kN Ak f182 [k,xQ 5 [cs,os,ks,gs,bs],xQ 2 [c,p]]=.ix k (M gs) (.req (0<=p)<|.ok<|.v<|.bool<|(Bk J (AG gs k).2.2.1<|AA<|(1:Y)*2^(min p.toNat 64)) !=0):=AU
def aPm:=vo (S:=aIw) func182 j9 kN (λargs lv h=>by
 refine ⟨?_⟩;unfold aIw at h;split at h
 ·split at h
  case h_2=>cases h
  rename_i heq0;split at h
  case h_2=>cases h
  rename_i heq1;simp only [canL,canX];rw [E6 (n:=5) heq0];rw [E6 (n:=2) heq1];simp only [canL,canX];rw [asN];obtain ⟨⟨h1,h2⟩,h3⟩:=h;exact ⟨h1,h2,h3⟩
 ·cases h)
structure Jp where
 cs:aWl
 os:aWg
 ks:aWr
 gs:aWh
 bs:aWs
 (c p:Y)
 l:aWd
 (n i:Y)
 out:aWd
def aGy:=bN f181 0
def zh (s:Jp):T (Rd Jp):=letI a:=gi s.l s.i;.br (an<|s.i<s.n) (.ix s.i (M s.l)<|.req ((0<=a/\a<(M s.gs:Y))/\0<=s.p)<|.br (usA (AG s.gs a).2.2.1 s.p) (.rb (M s.out) (M<|[a]) 8<|.re (M s.out+M ([a])) (s.out++([a]))<|.nx {s with i:=AA<|s.i+1,out:=s.out++([a])})<|.rl s.out<|.nx {s with i:=AA<|s.i+1})<|.rl s.out<|.so (.exit 0) s
def Yv (s:Jp):Prop:=s.i=0/\s.out=[]/\s.n=(M s.l:Y)/\s.n<=1000/\0<=s.p/\∀k∈s.l,0<=k/\k<(M s.gs:Y)
def ZQ (s:Jp):Prop:=(0<=s.i/\s.i<=s.n)/\(M s.out:Y)<=s.i/\s.n=(M s.l:Y)/\s.n<=1000/\0<=s.p/\∀k∈s.l,0<=k/\k<(M s.gs:Y)
def gF (s:Jp):aWe:=(s.n-s.i).toNat
def aBl (x:Ex) (s s':Jp):Prop:=x=.exit 0/\s'.i=s'.n
def aoI:∀s,Yv s->ZQ s:=by
 rintro s ⟨h0,h1,h2,h3,h4,h5⟩
 exact ⟨A0,A8,h2,h3,h4,h5⟩
def aif:Da ZQ gF aBl zh:=by
 intro s hI;obtain ⟨⟨h0,h1⟩,h2,h3,h4,h5,h6⟩:=hI;refine AH (λc1=>?_) λc1=>?_
 ·have c1:s.i<s.n:=AX
  rw [AJ (x:=s.i+1)];refine AH (λc2=>?_) λc2=>?_
  ·exact ⟨⟨⟨AZ,AZ⟩,A8,h3,h4,h5,h6⟩,by simp only [gF];omega⟩
  ·exact ⟨⟨⟨A8,A8⟩,AZ,h3,h4,h5,h6⟩,by simp only [gF];omega⟩
 ·have c1:s.n<=s.i:=AX
  exact VM
def Pu:AS Jp:=⟨0,23,[1,5,8,9,10],[.nl 5 3 A7],λs=>[.fn 182 [xQ 5 [s.cs,s.os,s.ks,s.gs,s.bs],xQ 2 [s.c,s.p]],.os 0 1 0<|M s.out,.xl A7 s.l,s.n,s.i],λs=>[bV 3 A7 s.out],λv b=>⟨Ar Af<|BT (gFn (v.getD 0 .junk) 0) 0,Ar .str<|BT (gFn (v.getD 0 .junk) 0) 1,Ar Al<|BT (gFn (v.getD 0 .junk) 0) 2,Ar Ah<|BT (gFn (v.getD 0 .junk) 0) 3,Ar Am<|BT (gFn (v.getD 0 .junk) 0) 4,gI<|BT (gFn (v.getD 0 .junk) 1) 0,gI<|BT (gFn (v.getD 0 .junk) 1) 1,Az A7 v 2,AK v 3,AK v 4,Ac A7 b 0⟩,zh,λs r=> {s with i:=r.i,out:=r.out},λs=>s,λ_ s=>s,[.exit 0],Yv,ZQ,gF⟩
abbrev W7:=Pu.run
abbrev auh:=Pu.As
def azK:Rq ZQ zh:=by
 intro s hI;refine ⟨λc1=>⟨?_,?_,λc2=>⟨?_,?_,ak⟩,λc2=>⟨A9,ak⟩⟩,λc1=>⟨A9,ak⟩⟩
 all_goals ((obtain ⟨⟨h0,h1⟩,h2,h3,h4,h5,h6⟩:=hI;(try simp only [Aa] at c1);first|omega|(refine ⟨h6 _ ?_,h5⟩;rw [IW A0];exact GZ _) |(refine ⟨A0,?_,?_⟩<;>simp only [Bj,Bt]<;>omega) |exact ⟨rfl,AI⟩ |exact ⟨rfl,rfl⟩))
def aBD:aWp:=[aPm]
def uZ:Pu.Ok:={}
def sq:Pu.Pf (aBl):=⟨aoI,λs h=>rfl,aif,azK⟩
def arA:SA 0 aGy Pu:=s1 uZ sq aBD kN
def avm:Fi Yv ZQ aBl auh W7:=AS.fin uZ sq
def aq3 (s:Jp) (hE:Yv s):(λs:Jp=>s.out++Bx s.gs s.p (s.l.drop s.i.toNat)) (W7 s)=(λs:Jp=>s.out++Bx s.gs s.p (s.l.drop s.i.toNat)) s:=by
 exact AS.Kh uZ sq (λs:Jp=>s.out++Bx s.gs s.p (s.l.drop s.i.toNat)) (λs hI=>by
  obtain ⟨⟨h0,h1⟩,h2,h3,h4,h5,h6⟩:=hI;refine AH (λc1=>?_) λc1=>rfl
  have c1:s.i<s.n:=A8
  rw [AJ (x:=s.i+1)];refine AH (λc2=>?_) λc2=>?_
  ·show _++Bx _ _ _=_++Bx _ _ _
   rw [(gi_step h0 (show s.i<M s.l by omega)).1]
   simp [Bx,N8,c2]
  ·show _++Bx _ _ _=_++Bx _ _ _
   rw [(gi_step h0 (show s.i<M s.l by omega)).1]
   simp [Bx,N8,c2]) s hE
def avl (s:Jp) (hE:Yv s):(W7 s).out=Bx s.gs s.p s.l:=by
 obtain ⟨s',_,q1,q2⟩:=avm s hE
 have q3:=aq3 s hE
 obtain ⟨h0,h1,h2,h3⟩:=hE;simp only at q3;rw [q2,show (W7 s).n=s.n from rfl,show (W7 s).l=s.l from rfl,F6 A0,h0,h1] at q3
 simpa [Bx] using q3
def aKi:aWf->T LV
 | [.xl (.int J) l,.fn 182 [.xq 5 q0,.xq 2 q1]]=>(match ([q0 0,q0 1,q0 2,q0 3,q0 4]:aWf) with
  | [.xl (.pair .str (.pair (.int J) (.pair (.int J) (.pair (.int J) (.pair (.pair (.int J) (.int J)) (.pair (.int J) (.pair (.int J) (.pair (.int J) (.pair (.int J) (.int J)))))))))) cs,.xl (.str) os,.xl (.pair .str (.pair (.int J) (.pair (.int J) (.int J)))) ks,.xl (.pair .str (.pair (.int J) (.pair (.int J) (.pair (.int J) (.pair (.int J) (.pair (.int J) (.pair (.int J) (.int J)))))))) gs,.xl (.pair .str (.int J)) bs]=>(match ([q1 0,q1 1]:aWf) with
  | [.v (ag J c),.v (ag J p)]=> .req (Xj gs p l) (.ok<|.xl A7<|Bx gs p l)
  |_=> .no)
  |_=> .no)
 |_=> .no
def au3 (l:aWd) (cs:aWl) (os:aWg) (ks:aWr) (gs:aWh) (bs:aWs) (c p:Y):letI a:=(W7 (⟨cs,os,ks,gs,bs,c,p,l,(M l:Y),(0:Y),([]:aWd)⟩:Jp));Bl prog AV (aBD) kN (λi=>if i=3 then Pu.lp else Ak i) f181 [.xl A7 l,.fn 182 [xQ 5 [cs,os,ks,gs,bs],xQ 2 [c,p]]]=.r0 Int (.req (Pu.q (⟨cs,os,ks,gs,bs,c,p,l,(M l:Y),(0:Y),([]:aWd)⟩:Jp))<|.rz a.out<|.ok<|.xl A7<|(a.out.drop 0).take<|M a.out):=AU
def awO:=vm (S:=aKi) func181 aBD kN (L:=(λi=>if i=3 then Pu.lp else Ak i)) (λb hb=>by
 rw [show BD _=[aGy] by kernel_rfl] at hb
 simp only [BA,Bu,Bs] at hb;subst hb;exact arA) (λargs lv h=>by
 refine ⟨?_⟩;unfold aKi at h;split at h
 ·split at h
  case h_2=>cases h
  rename_i heq0;split at h
  case h_2=>cases h
  rename_i heq1;simp only [canL,canX];rw [E6 (n:=5) heq0];simp only [canL,canX];rw [E6 (n:=2) heq1];simp only [canL,canX];rw [au3];obtain ⟨⟨hp,hl,hm⟩,rfl⟩:=h;refine ⟨A9,Jx ⟨⟨rfl,rfl,rfl,AZ,hp,hm⟩,rfl,rfl⟩ λhE=>⟨A0,?_⟩⟩
  show LV.xl _ _=_
  rw [CT,El,avl _ hE.1]
 ·cases h)
def aAX:Array Tmp×Code×Code:=((Iz<|f144.body.getD .skip)[0]?).getD (#[],.skip,.skip)
def ali:aW8:=aAX.1
def alC:aWO:=aAX.2.1
def alr:aWO:=aAX.2.2
structure OD where
 (n c:Y)
 F4:aWl
 OV:aWg
 OO:aWr
 DR:aWh
 Oa:aWs
 below:aWd
 KL:aWl
 KQ:aWg
 KP:aWr
 KN:aWh
 Ka:aWs
 rows:aWA
 st:LS
def nL (s:OD):T (Rd OD):=letI a:=QL s.F4 s.OV s.OO s.DR s.Oa s.c;letI b:=DE<|Ae s.F4 s.c;letI d:=(b,Bx s.DR (0:Y) a);letI e:=(b,Bx s.DR (1:Y) a);letI f:=(b,Bx s.DR (2:Y) a);letI g:=(an<|(M (Bx s.DR (2:Y) a):Y)>0);letI h:=s.rows++([d]);letI i:=M s.rows+M ([d])+M ([e]);letI j:=AA<|s.c+1;letI k:=M s.rows+M ([d])+M ([e])+M ([f]);letI l:=M s.F4;letI m:=M s.rows+M ([d]);letI o:=s.rows++([e]);letI p:=(Xj s.DR (2:Y) a);letI q:=M s.rows+M ([d])+M ([f]);letI r:=M s.rows+M ([e])+M ([f]);letI t:=(an<|(M (Bx s.DR (1:Y) a):Y)>0);letI u:=h++([e]);letI v:=M s.rows+M ([e]);letI w:=M s.rows;.br (an<|s.c<s.n) (.req (Xj s.DR (0:Y) a)<|.br (an<|(M (Bx s.DR (0:Y) a):Y)>0) (.ix s.c l<|.rb w (M<|[d]) 32<|.req (Xj s.DR (1:Y) a)<|.br t (.ix s.c l<|.ra m (M h) i 32<|.req p<|.br g (.ix s.c l<|.ra i (M u) k 32<|.re k (u++([f]))<|.nx {s with c:=j,below:=a,rows:=(u++([f]))})<|.re i u<|.nx {s with c:=j,below:=a,rows:=u})<|.req p<|.br g (.ix s.c l<|.ra m (M h) q 32<|.re q (h++([f]))<|.nx {s with c:=j,below:=a,rows:=(h++([f]))})<|.re m h<|.nx {s with c:=j,below:=a,rows:=h})<|.req (Xj s.DR (1:Y) a)<|.br t (.ix s.c l<|.rb w (M<|[e]) 32<|.req p<|.br g (.ix s.c l<|.ra v (M o) r 32<|.re r (o++([f]))<|.nx {s with c:=j,below:=a,rows:=(o++([f]))})<|.re v o<|.nx {s with c:=j,below:=a,rows:=o})<|.req p<|.br g (.ix s.c l<|.rb w (M<|[f]) 32<|.re (M s.rows+M ([f])) (s.rows++([f]))<|.nx {s with c:=j,below:=a,rows:=(s.rows++([f]))})<|.rl s.rows<|.nx {s with c:=j,below:=a})<|.rl s.rows<|.so (.exit 0) s
def nt (s:OD):Prop:=s.st=.ready/\s.c=0/\s.rows=[]/\BH s.F4 s.OV s.OO s.DR s.Oa=U/\s.n=(M s.F4:Y)
def cD (s:OD):Prop:=s.st=.ready/\(0<=s.c/\s.c<=s.n)/\s.rows=Cy s.F4 s.DR s.c.toNat/\BH s.F4 s.OV s.OO s.DR s.Oa=U/\s.n=(M s.F4:Y)
def aAy (s:OD):aWe:=(s.n-s.c).toNat
def we (x:Ex) (s s':OD):Prop:=x=.exit 0/\s'.rows=Cy s'.F4 s'.DR (M s'.F4)
def aoD:∀s,nt s->cD s:=by
 rintro s ⟨h0,h1,h2,h3,h4⟩
 exact ⟨h0,A0,by rw [h1,h2];rfl,h3,h4⟩
def akX:Da cD aAy we nL:=by
 intro s hI;unfold nL;obtain ⟨h0,⟨h1,h2⟩,h3,h4,h5⟩:=hI;refine AH (λc1=>?_) λc1=>?_
 rotate_left
 ·have c1:s.n<=s.c:=AX
  exact ⟨rfl,A8⟩
 have c1:s.c<s.n:=AX
 have hl:=(DK.1 h4).1
 rw [AJ (x:=s.c+1)]
 have eb:QL s.F4 s.OV s.OO s.DR s.Oa s.c=Cv s.F4 s.DR s.c (M s.DR):=by
  unfold QL
  grind
 rw [eb]
 have fin:∀r:aWA,r=Cy s.F4 s.DR s.c.toNat++(rowP s.F4 s.DR s.c 0++rowP s.F4 s.DR s.c 1++rowP s.F4 s.DR s.c 2)->r=Cy s.F4 s.DR (s.c+1).toNat:=λr hr=>by
  rw [hr,show (s.c+1).toNat=s.c.toNat+1 by omega,Cy,CP h1]
  rfl
 refine AH (λc2=>?_) (λc2=>?_)<;>refine AH (λc3=>?_) (λc3=>?_)<;>refine AH (λc4=>?_) λc4=>?_
 all_goals
  refine ⟨⟨h0,⟨AZ,AZ⟩,?_,h4,h5⟩,by simp only [aAy];omega⟩
  simp only [Aa,DC] at c2 c3 c4;refine fin _ ?_;simp only [h3,rowP]
  first|rw [AD A0] |rw [AE A0]
  first|rw [AD A0] |rw [AE A0]
  first|rw [AD A0] |rw [AE A0]
  grind
def bn:AS OD:=⟨5,22,[0,7,8],[.nc 1 0 302 Eg,.pc 2 0 A7,.pk 0],λs=>[.CO 4,s.n,s.c],λs=>[⟨[s.F4,s.OV,s.OO,s.DR,s.Oa],28,.cl,U⟩,⟨[.os 5 2 0<|M s.rows],271,.cl,X⟩,⟨[.xl A7 s.below],29,.cl,X⟩,⟨[s.KL,s.KQ,s.KP,s.KN,s.Ka],28,.cl,X⟩,⟨[.junk,.own 0 0,.junk,.junk,.own 1 0,.own 2 0,.v<|.tuple #[],.v<|.tuple #[],.junk,.junk,.junk,.junk,.junk,.v<|.tuple #[],.v<|.tuple #[],.v<|.tuple #[],.v<|.tuple #[],.v<|.tuple #[],.v<|.tuple #[],.v<|.tuple #[],.v<|.tuple #[],.v<|.tuple #[],.v<|.tuple #[],.junk,.v<|.tuple #[],.v<|.tuple #[],.v<|.tuple #[],.v<|.tuple #[],.v<|.tuple #[],.v<|.tuple #[],.v<|.tuple #[],.v<|.tuple #[],.v<|.tuple #[],.v<|.tuple #[],.v<|.tuple #[],.v<|.tuple #[],.v<|.tuple #[],.v<|.tuple #[],.v<|.tuple #[],.v<|.tuple #[],.v<|.tuple #[],.v<|.tuple #[],.junk],0,.Cl ali alC alr s.st,X⟩,bV 302 Eg s.rows],λv b=>⟨AK v 1,AK v 2,AF Af b 0 0,AF .str b 0 1,AF Al b 0 2,AF Ah b 0 3,AF Am b 0 4,AF A7 b 2 0,AF Af b 3 0,AF .str b 3 1,AF Al b 3 2,AF Ah b 3 3,AF Am b 3 4,Ac Eg b 5,.ready⟩,nL,λs r=> {r with n:=s.n,F4:=s.F4,OV:=s.OV,OO:=s.OO,DR:=s.DR,Oa:=s.Oa,KL:=s.KL,KQ:=s.KQ,KP:=s.KP,KN:=s.KN,Ka:=s.Ka,st:=s.st},λs=> {s with st:=.ready},λx s=> {s with st:=(match x with| .exit 0=> .ready|_=> .ready)},[.exit 0],nt,cD,aAy⟩
abbrev qV:=bn.run
abbrev ahr:=bn.As
def U3:aWp:=[P5,tN,aqh,awO,aPm]
def alz:B1:=kI U3<|l0 U3
def akF:Rq cD nL:=by
 intro s hI;refine ⟨λc1=>⟨?_,λc2=>⟨?_,?_,?_,λc3=>⟨?_,?_,?_,λc4=>⟨?_,?_,?_,ak⟩,λc4=>⟨?_,ak⟩⟩,λc3=>⟨?_,λc5=>⟨?_,?_,?_,ak⟩,λc5=>⟨?_,ak⟩⟩⟩,λc2=>⟨?_,λc6=>⟨?_,?_,?_,λc7=>⟨?_,?_,?_,ak⟩,λc7=>⟨?_,ak⟩⟩,λc6=>⟨?_,λc8=>⟨?_,?_,?_,ak⟩,λc8=>⟨A9,ak⟩⟩⟩⟩,λc1=>⟨A9,ak⟩⟩
 all_goals ((obtain ⟨h0,⟨h1,h2⟩,h3,h4,h5⟩:=hI;have hl:=(DK.1 h4).1;(try simp only [Aa] at c1);have hr:M s.rows<=3*s.c.toNat:=(by rw [h3];exact pn);have eb:QL s.F4 s.OV s.OO s.DR s.Oa s.c=Cv s.F4 s.DR s.c (M s.DR):=(by unfold QL;rw [AD ⟨h4,h1,A0⟩]);first|omega|((try simp only);rw [eb];refine ⟨Ab,HJ pe A0,λk hk=>dJ hk⟩) |(refine ⟨A0,?_,?_⟩<;>simp only [BL,Bj,Bt]<;>omega) |(simp only [BL,Bj,Bt];omega) |exact ⟨rfl,AI⟩ |exact ⟨rfl,rfl⟩))
def ab9:bn.Ok:={}
def aVq:bn.Pf (we):=⟨aoD,λs h=>by
 obtain ⟨n,c,F4,OV,OO,DR,Oa,below,KL,KQ,KP,KN,Ka,rows,st⟩:=s
 have e:=h.1
 subst e;rfl,akX,akF⟩
def axI:=s2 (b:=bN f136 0) ab9 aVq U3 alz
def ayq:Fi nt cD we ahr qV:=AS.fin ab9 aVq
def aIx:aWf->T LV
 | .agg a::r=>s5 a λcs os ks gs bs=>(match r with
  | []=> .ok (.AO [.xl Eg<|Jo cs os ks gs bs,OH cs os ks gs bs])
  |_=> .no)
 |_=> .no
def aly:B1:=kI U3<|la 1 func136 axI<|l0 U3
def Wd:=vo (S:=aIx) func144 U3 aly (λargs lv h=>by
 unfold aIx at h;split at h
 case h_2=>cases h
 replace h:=IT h
 obtain ⟨cs,os,ks,gs,bs,rfl,h⟩:=h;split at h
 ·refine Aq (letI a:=(qV (⟨(M cs:Y),0,cs,os,ks,gs,bs,([]:aWd),cs,os,ks,gs,bs,([]:aWA),.ready⟩:OD));.br (!(BH cs os ks gs bs)) (.ok<|.AO [.xl Eg ([]:aWA),(1:Y)])<|.r0 Rw<|.req (bn.q (⟨(M cs:Y),0,cs,os,ks,gs,bs,([]:aWd),cs,os,ks,gs,bs,([]:aWA),.ready⟩:OD))<|.rz a.rows<|.ok<|.AO [.xl Eg<|(a.rows.drop 0).take<|M a.rows,(0:Y)]) ?_
  obtain rfl:=h;refine ⟨λc=>?_,λc=>?_⟩
  ·have c:BH cs os ks gs bs=false:=A8
   unfold Jo OH;rw [c];rfl
  ·have c:BH cs os ks gs bs=true:=A8
   have hE:nt ⟨(M cs:Y),0,cs,os,ks,gs,bs,([]:aWd),cs,os,ks,gs,bs,([]:aXg),.ready⟩:=⟨rfl,rfl,rfl,c,rfl⟩
   obtain ⟨s',_,q1,q2⟩:=ayq _ hE
   have q2:(qV ⟨(M cs:Y),0,cs,os,ks,gs,bs,([]:aWd),cs,os,ks,gs,bs,([]:aXg),.ready⟩).rows=Cy cs gs (M cs):=q2
   refine ⟨A9,⟨hE,rfl,rfl⟩,A0,?_⟩
   show LV.AO [LV.xl _ _,_]=_
   unfold Jo OH
   grind
 ·cases h)
def aF6:aWf->T LV
 | [.v (ag J n),.v (ag J a),.v (ag J b)]=> .ok (inB n a b)
 |_=> .no
def Ki:aWp:=[]
def dF:=vo (S:=aF6) func124 Ki kN (λargs lv h=>by
 unfold aF6 at h;split at h
 ·rename_i n a b
  refine Aq (.ok<|.v<|.bool<|(an<|n>=a)&&(an<|n<=b)) ?_;exact h
 ·cases h)
def aUf:aWf->T LV
 | [.v (.agg ⟨[.string nm,ag J at_,ag J ph,ag J mn,ag J mx,ag J st,ag J fb,ag J ow]⟩)]=> .ok (Ij ph mn mx st fb)
 |_=> .no
def anl:aWp:=[dF]
def aVV:=vo (S:=aUf) func162 anl kN (λargs lv h=>by
 unfold aUf at h;split at h
 ·rename_i nm at_ ph mn mx st fb ow
  refine Aq (.ok<|.v<|.bool<|(inB ph (1:Y) (7:Y))&&((inB mn (1:Y) (80:Y))&&((inB mx (1:Y) (80:Y))&&((inB st (1:Y) (80:Y))&&((an<|mn<=mx)&&((fb==0) ||(inB fb mn mx))))))) ?_;exact h
 ·cases h)
def aH8:aWf->T LV
 | []=> .ok (.v<|.agg #[(0:Y),(0:Y),(0:Y),X])
 |_=> .no
def apN  :Bl prog AV Ki kN Ak f37 []=.ok (.v<|.agg #[(0:Y),(0:Y),(0:Y),X]):=AU
def WN:=vo (S:=aH8) func37 Ki kN (λargs lv h=>by
 refine ⟨?_⟩;unfold aH8 at h;split at h
 ·simp only [canL]
  rwa [apN]
 ·cases h)
def aU4:aWf->T LV
 | [.v (.agg ⟨[.string nm,ag J at_,ag J ph,ag J mn,ag J mx,ag J st,ag J fb,ag J ow]⟩),.v (.agg ⟨[ag J 0,ag J 0,ag J 0,.bool X]⟩)]=> .ok (Ij ph mn mx st fb)
 |_=> .no
def ank:aWp:=[WN,dF,aVV]
def akj:=vo (S:=aU4) func111 ank kN (λargs lv h=>by
 unfold aU4 at h;split at h
 ·rename_i nm at_ ph mn mx st fb ow
  refine Aq (.br (!(Ij ph mn mx st fb)) (.ok X)<|.br (((0:Y)==0)&&(((0:Y)==0)&&(((0:Y)==0)&&(X==X)))) (.ok U)<|.ok<|.v<|.bool<|(inB (0:Y) (0:Y) (5:Y))&&((inB (0:Y) (0:Y) (1000000:Y))&&((inB (0:Y) (0:Y) mx)&&(if (0:Y) !=0 then (!X) ||((0:Y)==5) else ((0:Y)==0)&&((!X) ||((0:Y)==5)))))) ?_
  obtain rfl:=h;refine ⟨λhb=>?_,λhb=>⟨λ_=>?_,λhf=>absurd hf Ab⟩⟩
  ·show LV.v (.bool X)=_
   rw [show Ij _ _ _ _ _=X by simpa using hb]
  ·show LV.v (.bool U)=_
   rw [show Ij _ _ _ _ _=U by simpa using hb]
 ·cases h)
def aIy:aWf->T LV
 | [.v (.agg ⟨[.string nm,ag J at_,ag J ph,ag J mn,ag J mx,ag J st,ag J fb,ag J ow]⟩),.v (ag J am)]=> .req (ED mn mx st) (.ok<|Bz mn mx st am)
 |_=> .no
def aPo:=vo (S:=aIy) func151 Ki kN (λargs lv h=>by
 unfold aIy at h;split at h
 ·rename_i nm at_ ph mn mx st fb ow am
  refine Aq (.br (an<|am<mn) (.ok (0:Y))<|.req (st≠0)<|.ok<|AA<|(if mx<am then mx else am)-((AA<|(if mx<am then mx else am)-mn).tmod st)) ?_
  obtain ⟨hc,rfl⟩:=h;refine ⟨λhb=>?_,λhb=>⟨by unfold ED at hc;omega,?_⟩⟩
  ·exact B3 (λz=>LV.v<|ag J z)<|aiq A8
  ·exact B3 (λz=>LV.v<|ag J z)<|aio hc A8
 ·cases h)
def aUl:aWf->T LV
 | [.v (.agg ⟨[.string nm,ag J at_,ag J ph,ag J mn,ag J mx,ag J st,ag J fb,ag J ow]⟩),.v (.agg ⟨[ag J a,ag J si]⟩)]=> .ok (IB ph mn mx st fb a si)
 |_=> .no
def anj:aWp:=[WN,akj,aPo]
def aVZ:=vo (S:=aUl) func146 anj kN (λargs lv h=>by
 unfold aUl at h;split at h
 ·rename_i nm at_ ph mn mx st fb ow a si
  refine Aq (.br ((!(Ij ph mn mx st fb)) ||((an<|si<0) ||((an<|si>1000000) ||(an<|a<0)))) (.ok X)<|.req (ED mn mx st)<|.ok<|.v<|.bool<|(Bz mn mx st a)==a) ?_;obtain rfl:=h;refine ⟨λhb=>?_,λhb=>⟨?_,?_⟩⟩
  ·exact B3 (λz=>LV.v<|.bool z)<|anv hb
  ·exact (aLT hb).1
  ·exact B3 (λz=>LV.v<|.bool z) (aLT hb).2
 ·cases h)
def aGf:aWf->T LV
 | [.v (.bool b)]=> .ok (.v<|ag J (if b then (1:Y) else 0))
 |_=> .no
def ar4:=vo (S:=aGf) func156 Ki kN (λargs lv h=>by
 unfold aGf at h;split at h
 ·rename_i b
  refine Aq (.br b (.ok (1:Y))<|.ok (0:Y)) ?_;obtain rfl:=h;cases b
  ·exact ⟨λhb=>LH,λ_=>rfl⟩
  ·exact ⟨λ_=>rfl,λhb=>LH⟩
 ·cases h)
def aUv:aWf->T LV
 | [.xq 8 q0]=>(match ([q0 0,q0 1,q0 2,q0 3,q0 4,q0 5,q0 6,q0 7]:aWf) with
  | [.v (.string nm),.v (ag J at_),.v (ag J ph),.v (ag J mn),.v (ag J mx),.v (ag J st),.v (ag J fb),.v (ag J ow)]=> .ok (.v<|.agg #[mn,(0:Y)])
  |_=> .no)
 |_=> .no
def ag2 (nm:aWM) (at_ ph mn mx st fb ow:Y):Bl prog AV Ki kN Ak f152 [xQ 8 [.v<|.string nm,at_,ph,mn,mx,st,fb,ow]]=.ok (.v<|.agg #[mn,(0:Y)]):=AU
def akb:=vo (S:=aUv) func152 Ki kN (λargs lv h=>by
 refine ⟨?_⟩;unfold aUv at h;split at h
 ·split at h
  case h_2=>cases h
  rename_i heq0;simp only [canL,canX];rw [E6 (n:=8) heq0];simp only [canL,canX]
  rwa [ag2]
 ·cases h)
def aUu:aWf->T LV
 | [.xq 1 q0]=>(match ([q0 0]:aWf) with
  | [.v (ag J lo)]=> .ok (.v<|.agg #[(0:Y),lo])
  |_=> .no)
 |_=> .no
def ag1 (lo:Y):Bl prog AV Ki kN Ak f153 [xQ 1 [lo]]=.ok (.v<|.agg #[(0:Y),lo]):=AU
def akZ:=vo (S:=aUu) func153 Ki kN (λargs lv h=>by
 refine ⟨?_⟩;unfold aUu at h;split at h
 ·split at h
  case h_2=>cases h
  rename_i heq0;simp only [canL,canX];rw [E6 (n:=1) heq0];simp only [canL,canX]
  rwa [ag1]
 ·cases h)
def aUt:aWf->T LV
 | []=> .ok (.v<|.agg #[(0:Y),(0:Y)])
 |_=> .no
def ag0  :Bl prog AV Ki kN Ak f154 []=.ok (.v<|.agg #[(0:Y),(0:Y)]):=AU
def akY:=vo (S:=aUt) func154 Ki kN (λargs lv h=>by
 refine ⟨?_⟩;unfold aUt at h;split at h
 ·simp only [canL]
  rwa [ag0]
 ·cases h)
def aUs:aWf->T LV
 | [.xq 1 q0,.xq 2 q1,.xq 8 q2,.xq 1 q3]=>(match ([q0 0]:aWf) with
  | [.v (ag J lv)]=>(match ([q1 0,q1 1]:aWf) with
  | [.v (ag J a),.v (ag J si)]=>(match ([q2 0,q2 1,q2 2,q2 3,q2 4,q2 5,q2 6,q2 7]:aWf) with
  | [.v (.string nm),.v (ag J at_),.v (ag J ph),.v (ag J mn),.v (ag J mx),.v (ag J st),.v (ag J fb),.v (ag J ow)]=>(match ([q3 0]:aWf) with
  | [.v (ag J lo)]=> .ok (.v<|.agg #[ag J (if AA (a+st)<lv then AA (a+st) else lv),lo])
  |_=> .no)
  |_=> .no)
  |_=> .no)
  |_=> .no)
 |_=> .no
def afz (lv a si:Y) (nm:aWM) (at_ ph mn mx st fb ow lo:Y):Bl prog AV Ki kN Ak f155 [xQ 1 [lv],xQ 2 [a,si],xQ 8 [.v<|.string nm,at_,ph,mn,mx,st,fb,ow],xQ 1 [lo]]=.ok (.v<|.agg #[ag J (if (AA<|a+st)<lv then AA (a+st) else lv),lo]):=AU
def ajj:=vo (S:=aUs) func155 Ki kN (λargs lv h=>by
 refine ⟨?_⟩;unfold aUs at h;split at h
 ·split at h
  case h_2=>cases h
  rename_i heq0;split at h
  case h_2=>cases h
  rename_i heq1;split at h
  case h_2=>cases h
  rename_i heq2;split at h
  case h_2=>cases h
  rename_i heq3;simp only [canL,canX];rw [E6 (n:=1) heq0];rw [E6 (n:=2) heq1];rw [E6 (n:=8) heq2];rw [E6 (n:=1) heq3];simp only [canL,canX]
  rwa [afz]
 ·cases h)
def agv {a l si:Y}:Uj ((if (a !=0) then (1:Y) else 0).toNat*4+((if (l !=0) then (1:Y) else 0).toNat*2+((if (an<|si>=5) then (1:Y) else 0).toNat*1+0)))=if a=0 then (if l=0 then 1 else if 5<=si then 0 else 1) else if l=0 then 2 else 3:=by
 by_cases c1:a=0<;>by_cases c2:l=0<;>by_cases c3:5<=si<;>simp [c1,c2,c3,Uj]
def aKz:aWf->T LV
 | [.v (.agg ⟨[.string nm,ag J at_,ag J ph,ag J mn,ag J mx,ag J st,ag J fb,ag J ow]⟩),.v (.agg ⟨[ag J a,ag J si]⟩),.v (ag J want)]=> .tu #[.agg #[nA ph mn mx st fb a si want,nS ph mn mx st fb a si want],nE ph mn mx st fb a si want]
 |_=> .no
def ani:aWp:=[aVZ,aPo,akb,akZ,akY,ajj,ar4]
def awc:=vo (S:=aKz) func107 ani kN (λargs lv h=>by
 unfold aKz at h;split at h
 ·rename_i nm at_ ph mn mx st fb ow a si want
  refine Aq (letI d:=Bz mn mx st want;letI e:=an<|si>=5;letI c:=(Uj<|(if (a !=0) then (1:Y) else 0).toNat*4+((if (d !=0) then (1:Y) else 0).toNat*2+((if e then (1:Y) else 0).toNat*1+0)));.br ((!(IB ph mn mx st fb a si)) ||((an<|want<0) ||(an<|want>80))) (.tu #[.agg #[(0:Y),(0:Y)],(1:Y)])<|.req (ED mn mx st)<|.req (0<=(if (a !=0) then (1:Y) else 0)/\(if (a !=0) then (1:Y) else 0)<(2:Y))<|.req (0<=(if (d !=0) then (1:Y) else 0)/\(if (d !=0) then (1:Y) else 0)<(2:Y))<|.req (0<=(if e then (1:Y) else 0)/\(if e then (1:Y) else 0)<(2:Y))<|.br (c==0) (.tu #[.agg #[mn,(0:Y)],(0:Y)])<|.br (c==1) (.tu #[.agg #[(0:Y),ag J (if (1000000:Y)<(AA<|si+1) then 1000000 else AA (si+1))],(0:Y)])<|.br (c==2) (.tu #[.agg #[(0:Y),(0:Y)],(0:Y)])<|.br (c==3) (.tu #[.agg #[ag J (if AA (a+st)<d then AA (a+st) else d),ag J (if (1000000:Y)<(AA<|si+1) then 1000000 else AA (si+1))],(0:Y)])<|.no) ?_
  obtain rfl:=h
  by_cases hk:okB ph mn mx st fb a si want=U
  ·obtain ⟨k1,k2,k3,k4,k5⟩:=aIi hk
   have w1:AA (si+1)=si+1:=AJ
   have w2:AA (a+st)=a+st:=AJ
   have i0:∀b:aWo,0<=(if b=U then (1:Y) else 0)/\(if b=U then (1:Y) else 0)<2:=λb=>by cases b<;>simp
   simp only [T.all,nA,nS,nE,k1,w1,w2,hk,aIq,Bp,agv,i0,FR]
   grind
  ·have hn:=asU hk
   simp only [T.all,nA,nS,nE,hk,hn]
   simp
 ·cases h)
def aUY:aWf->T LV
 | [.v (ag J n),.v (ag J a),.v (ag J b)]=> .ok (inB n a b)
 |_=> .no
def ane:aWp:=[]
def aa4:=vo (S:=aUY) func145 ane kN (λargs lv h=>by
 unfold aUY at h;split at h
 ·rename_i n a b
  refine Aq (.ok<|.v<|.bool<|(an<|n>=a)&&(an<|n<=b)) ?_;exact h
 ·cases h)
def aUe:aWf->T LV
 | [.v (.agg ⟨[.bool wa,ag J ow,ag J le,ag J ra]⟩)]=> .ok (Hf (wa,ow,le,ra))
 |_=> .no
def anc:aWp:=[aa4]
def ajf:=vo (S:=aUe) func147 anc kN (λargs lv h=>by
 unfold aUe at h;split at h
 ·rename_i wa ow le ra
  refine Aq (.ok<|.v<|.bool<|(inB ow (0:Y) (1000000000:Y))&&((inB le (0:Y) (1000000:Y))&&(inB ra (1:Y) (9:Y)))) ?_;exact h
 ·cases h)
structure MX where
 cs:aWl
 os:aWg
 ks:aWr
 gs:aWh
 bs:aWs
 l:aWn
 d:aWB
 t:Y
 od:aWd
 al7:aWJ
 r:aWo
 n:Y
 m:aWn
 (k i:Y)
def aGl:=bN f105 0
def aA0 (s:MX):T (Rd MX):=
 .br (an<|s.i<s.k) (.ix s.i (M s.m)<|.br (an<|(Ag s.m s.i).2.1>=s.n) (.so (.ret) {s with r:=X})<|.nx {s with i:=AA<|s.i+1}) (.so (.exit 0) s)
def To (s:MX) (j:Y):aWo:=an<|(Ag s.m j).2.1<s.n
def kL (s:MX):Prop:=s.i=0/\0<=s.k/\s.k<=1000/\s.k=(M s.m:Y)
def Xx (s:MX):Prop:=0<=s.i/\s.i<=s.k/\s.k<=1000/\(s.k=(M s.m:Y))/\∀j:aWe,(j:Y)<s.i->To s j=U
def v7 (s:MX):aWe:=(s.k-s.i).toNat
def aBb (x:Ex) (s s':MX):Prop:=(x=.exit 0/\∀j:aWe,(j:Y)<s'.k->To s' j=U)\/(x=.ret/\s'.r=X/\∃j:aWe,(j:Y)<s'.k/\To s' j=X)
def anF:∀s,kL s->Xx s:=by
 exact KH
def ai6:Da Xx v7 aBb aA0:=by
 intro s hI;obtain ⟨h0,h1,h2,h3,h4⟩:=hI;refine AH (λc1=>AH (λc2=>?_) λc2=>?_) λc1=>?_
 ·have c1:s.i<s.k:=AX
  refine .inr ⟨rfl,rfl,s.i.toNat,A8,?_⟩
  have hg:To s s.i=false:=aOP
  exact hg
 ·have c1:s.i<s.k:=AX
  have hg:To s s.i=true:=aOP
  rw [AJ (x:=s.i+1)];refine ⟨⟨A8,A8,h2,h3,λj hj=>?_⟩,by simp only [v7];omega⟩
  exact LF
 ·have c1:s.k<=s.i:=AX
  exact VH
end Go.Proofs.YtoifmkifedcnnaaGreatDoor
end
