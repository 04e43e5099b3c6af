/- Helpers for TopDoubledMessages:. Conditions: none. -/
import Derived.Test.YtepoohnehmfflaaGreatDoorQx2
set_option linter.defProp false
set_option linter.unusedVariables false
set_option linter.unusedSimpArgs false
noncomputable section
open List renaming length→M,length→aa,replicate→au,range→av
open Bool renaming true→U,true→ae,false→X,false→af
open Go.Value renaming int→ah
open Option renaming some→ai,none→ak
open Go.IntKind renaming i64→J,i64→aj,u8→ax,u32→ay
open True renaming intro→an
open Decidable renaming decide→aq
open ByteArray renaming mk→aw
open Go.Region renaming ready→az,wanted→aA
open Go.Instr renaming findNow→aB
namespace Go.Proofs.YtepoohnehmfflaaGreatDoor
set_option maxRecDepth 100000
set_option maxHeartbeats 4000000
open Go.Proofs.Tryz
open Go.Sx
def ajL {nm:bA}{i up li ne ra he am mo ga lo de:Y}(hi:0<=i) {K:aN->Prop}(h:K<|IC i (nm,up,li,ne,(ra,he),am,mo,ga,lo,de)):
  ((if i==0 then (up !=(-1)) ||((aq<|i>0)&&((aq<|up<0) ||(aq<|up>=i))) else (aq<|i>0)&&((aq<|up<0) ||(aq<|up>=i)))=U->K X)/\
  ((if i==0 then (up !=(-1)) ||((aq<|i>0)&&((aq<|up<0) ||(aq<|up>=i))) else (aq<|i>0)&&((aq<|up<0) ||(aq<|up>=i)))=X->
   (((!(inB li (1:Y) (1000:Y))) ||(!(inB ne (1:Y) (1000:Y))))=U->K X)/\
   (((!(inB li (1:Y) (1000:Y))) ||(!(inB ne (1:Y) (1000:Y))))=X->
    (((!((ra==0)&&(he==0)))&&(!(inB ra (1:Y) (1000:Y)) ||(!(inB he (0:Y) (1000000:Y)))))=U->K X)/\
    (((!((ra==0)&&(he==0)))&&(!(inB ra (1:Y) (1000:Y)) ||(!(inB he (0:Y) (1000000:Y)))))=X->
     (((am==0)&&((mo==0)&&((ga==0)&&((lo==0)&&(de==0)))))=U->K U)/\
     (((am==0)&&((mo==0)&&((ga==0)&&((lo==0)&&(de==0)))))=X->K ((inB am (0:Y) (200000:Y))&&((inB mo (0:Y) (200000:Y))&&((inB ga (0:Y) (1000:Y))&&((inB lo (0:Y) (1000:Y))&&((inB de (1:Y) (1000000:Y))&&(aq<|mo>am)))))))))):=by
 have e1:(if i==0 then (up !=(-1)) ||((aq<|i>0)&&((aq<|up<0) ||(aq<|up>=i))) else (aq<|i>0)&&((aq<|up<0) ||(aq<|up>=i)))=!(if i=0 then up==-1 else inB up 0 (i-1)):=by
  by_cases h0:i=0
  ·grind
  ·have:(i==0)=false:=by simpa using h0
   rw [this,AE h0,Iw]
   simp [inB]
   omega
 rw [e1];unfold IC at h;simp only at h;generalize (if i=0 then up==-1 else inB up 0 (i-1))=b1 at*
 refine ⟨λc=>?_,λc=>⟨λc2=>?_,λc2=>⟨λc3=>?_,λc3=>⟨λc4=>?_,λc4=>?_⟩⟩⟩⟩
 ·grind
 all_goals
  have c:b1=true:=Ix
  rw [c,ES] at h
 ·have:(inB li 1 1000&&inB ne 1 1000)=false:=A8
  grind
 all_goals
  have c2:inB li 1 1000=U/\inB ne 1 1000=true:=ET
  rw [c2.1,c2.2,ES,ES] at h
 ·have:((ra==0)&&(he==0) ||(inB ra 1 1000&&inB he 0 1000000))=false:=by
   grind
  grind
 all_goals
  have:((ra==0)&&(he==0) ||(inB ra 1 1000&&inB he 0 1000000))=true:=by
   grind
  rw [this,ES] at h
 ·unfold Is cbZ at h
  grind
 ·unfold Is cbZ at h
  rw [c4,D5] at h
  have:((inB am (0:Y) (200000:Y))&&((inB mo (0:Y) (200000:Y))&&((inB ga (0:Y) (1000:Y))&&((inB lo (0:Y) (1000:Y))&&((inB de (1:Y) (1000000:Y))&&(aq<|mo>am))))))=(aq (0<=am)&&(aq (am<mo)&&(aq (mo<=200000)&&(inB ga 0 1000&&(inB lo 0 1000&&inB de 1 1000000))))):=by
   rw [Iw];simp only [AV,BO,Aa];omega
  rw [this];exact h
def WR {α β:Type} [BEq β] [LawfulBEq β] {l:List α}{d:α}{p:α->aN}{k:α->β}:(∀j:aD,(j:Y)<(M l:Y)->(p (l.getD (j:Y).toNat d)&&!(((l.take (j:Y).toNat).map k).contains<|k<|l.getD (j:Y).toNat d))=U)↔(l.all p&&once (l.map k))=true:=by
 have hg:∀(j:aD) (h:j<M l),l.getD (j:Y).toNat d=l[j]:=λj h=>K3 (n:=(j:Y)) h
 rw [AV,BH,rJ]
 constructor
 ·intro h
  refine ⟨λx hx=>?_,λj hj hm=>?_⟩
  ·obtain ⟨j,hj,rfl⟩:=List.getElem_of_mem hx
   have:=h j A0
   rw [hg j hj,AV] at this;exact this.1
  ·have hj':j<M l:=A8
   have:=h j A0
   rw [hg j hj',AV,D6] at this
   have h2:=this.2
   rw [C0,List.map_take,Zp.2 A8] at h2;cases h2
 ·intro ⟨h1,h2⟩ j hj
  have hj':j<M l:=A0
  rw [hg j hj',AV,D6];refine ⟨h1 _<|Fk _,?_⟩;rw [IS,C0,List.map_take]
  grind
def Ql {α:Type}{l:List α}{d:α}{p:α->aN}:(∀j:aD,(j:Y)<(M l:Y)->p (l.getD (j:Y).toNat d)=U)↔l.all p=true:=by
 have hg:∀(j:aD) (h:j<M l),l.getD (j:Y).toNat d=l[j]:=λj h=>K3 (n:=(j:Y)) h
 rw [BH]
 constructor
 ·intro h x hx
  obtain ⟨j,hj,rfl⟩:=List.getElem_of_mem hx
  have:=h j A0
  rw [hg j hj] at this;exact this
 ·intro h j hj
  grind
def Ir (ph mn mx st fb:Y):aN:=inB ph 1 7&&(inB mn 1 80&&(inB mx 1 80&&(inB st 1 80&&(aq (mn<=mx)&&(fb==0 ||inB fb mn mx)))))
def Wg {ph mn mx st fb:Y}:Ir ph mn mx st fb=U↔1<=ph/\ph<=7/\1<=mn/\mn<=80/\1<=mx/\mx<=80/\1<=st/\st<=80/\mn<=mx/\(fb=0\/(mn<=fb/\fb<=mx)):=by
 simp [Ir,inB];omega
def C1 (mn mx st a:Y):Y:=if a<mn then 0 else min a mx-(min a mx-mn) %st
def aDa {x s:Y}(hx:0<=x) (hs:1<=s):0<=x%s/\x%s<=x/\x%s<s:=by
 have h1:=mO x s
 have h2:0<=x / s:=Sa hx A0
 have h3:0<=s*(x / s):=Iv A0 h2
 have h4:=Int.emod_nonneg x (b:=s) A0
 have h5:=xg x (b:=s) A0
 omega
def dV {mn mx st a:Y}(h1:1<=mn) (h2:mn<=mx) (h3:mx<=80) (h4:1<=st):0<=C1 mn mx st a/\C1 mn mx st a<=80/\(a<mn->C1 mn mx st a=0)/\(mn<=a->mn<=C1 mn mx st a/\C1 mn mx st a<=a/\C1 mn mx st a<=mx):=by
 unfold C1;split
 ·omega
 ·have e1:=aDa (x:=min a mx-mn) (s:=st) A0 h4
  omega
def E9 (mn mx st:Y):Prop:=1<=mn/\mn<=mx/\mx<=80/\1<=st/\st<=80
def aTU {ph mn mx st fb:Y}(h:Ir ph mn mx st fb=U):E9 mn mx st:=by
 rw [Wg] at h;unfold E9;omega
def IH (ph mn mx st fb a s:Y):aN:=Ir ph mn mx st fb&&(aq (0<=s)&&(aq (s<=1000000)&&(aq (0<=a)&&(C1 mn mx st a==a))))
def okB (ph mn mx st fb a s want:Y):aN:=IH ph mn mx st fb a s&&(aq (0<=want)&&aq (want<=80))
def nE (ph mn mx st fb a s want:Y):Y:=if okB ph mn mx st fb a s want then 0 else 1
def nA (ph mn mx st fb a s want:Y):Y:=
 if okB ph mn mx st fb a s want then (if a=0 then (if C1 mn mx st want≠0/\5<=s then mn else 0) else if C1 mn mx st want=0 then 0 else min (C1 mn mx st want) (a+st)) else 0
def nS (ph mn mx st fb a s want:Y):Y:=
 if okB ph mn mx st fb a s want then (if a=0 then (if C1 mn mx st want≠0/\5<=s then 0 else min (s+1) 1000000) else if C1 mn mx st want=0 then 0 else min (s+1) 1000000) else 0
def aIt (x y:Y):(if y<x then y else x)=min x y:=A0
def ajS {mn mx st am:Y}(h:am<mn):0=C1 mn mx st am:=by rw [C1,AD h]
def ajR {mn mx st am:Y}(hc:E9 mn mx st) (h:mn<=am):AA ((if mx<am then mx else am)-(AA<|(if mx<am then mx else am)-mn).tmod st)=C1 mn mx st am:=by
 unfold E9 at hc;rw [aIt]
 have e1:=aDa (x:=min am mx-mn) (s:=st) A0 A0
 rw [AJ (x:=min am mx-mn),mS A0,AJ,C1,AE A0]
def aoR {ph mn mx st fb a s:Y}(h:((!Ir ph mn mx st fb) ||(aq (s<0) ||(aq (s>1000000) ||aq (a<0))))=U):X=IH ph mn mx st fb a s:=by
 cases hr:IH ph mn mx st fb a s
 ·rfl
 ·simp [IH] at hr h
  rw [hr.1] at h
  simp at h
  omega
def aLk {ph mn mx st fb a s:Y}(h:((!Ir ph mn mx st fb) ||(aq (s<0) ||(aq (s>1000000) ||aq (a<0))))=X):E9 mn mx st/\(C1 mn mx st a==a)=IH ph mn mx st fb a s:=by
 simp at h
 obtain ⟨h1,h2,h3,h4⟩:=h;exact ⟨aTU h1,by simp [IH,h1,h2,h3,h4]⟩
def aJM {ph mn mx st fb a s want:Y}(h:okB ph mn mx st fb a s want=U):(!IH ph mn mx st fb a s ||(aq (want<0) ||aq (want>80)))=X/\E9 mn mx st/\(0<=s/\s<=1000000)/\(0<=want/\want<=80)/\0<=a/\a<=80/\1<=st/\st<=80:=by
 simp only [okB,IH,AV,Aa,Cy] at h;obtain ⟨⟨h1,h2,h3,h4,h5⟩,h6,h7⟩:=h
 have hc:=aTU h1
 have hc':=hc
 have:=dV (a:=a) hc'.1 hc'.2.1 hc'.2.2.1 hc'.2.2.2.1
 refine ⟨?_,hc,⟨h2,h3⟩,⟨h6,h7⟩,h4,A0,hc'.2.2.2.1,hc'.2.2.2.2⟩
 simp [IH,h1,h2,h3,h4,h5];omega
def asN {ph mn mx st fb a s want:Y}(h:¬okB ph mn mx st fb a s want=U):(!IH ph mn mx st fb a s ||(aq (want<0) ||aq (want>80)))=true:=by
 cases hr:IH ph mn mx st fb a s
 ·rfl
 ·simp [okB,hr] at h|-;omega
def Ff (cs:aL):aN:=DQ (M cs) λj=>aq<|(Ad cs j).2.1<j
def R1 {cs:aL}(h:Ff cs=U) {c:Y}(h0:0<=c) (h1:c<M cs):(Ad cs c).2.1<c:=by
 have:=Dq.1 h c.toNat A0
 grind
def GZ:aD->aL->Y->Y->Bool
 |0,_,_,_=>X
 |k+1,cs,o,c=>if c>=0 then (c==o ||GZ k cs o (Ad cs c).2.1) else X
def Fh (cs:aL) (o c:Y):aN:=GZ (c.toNat+2) cs o c
def aR9 {cs:aL}{o:Y}(hu:Ff cs=U):∀(k k':aD) (c:Y),c<M cs->(c+1).toNat<k->(c+1).toNat<k'->GZ k cs o c=GZ k' cs o c
 |0,_,_,_,h,_=>A0
 |_+1,0,_,_,_,h=>A0
 | k+1,k'+1,c,hc,h,h'=>by
  simp only [GZ]
  by_cases h0:c>=0
  ·rw [AD h0,AD h0]
   have:=R1 hu h0 hc
   rw [aR9 hu k k' (Ad cs c).2.1 A0 A0 A0]
  ·grind
def aRA {cs:aL}{o c:Y}(hu:Ff cs=U) (hc:c<M cs):Fh cs o c=if c>=0 then (c==o ||Fh cs o (Ad cs c).2.1) else false:=by
 unfold Fh;rw [GZ]
 by_cases h0:c>=0
 ·rw [AD h0,AD h0]
  have:=R1 hu h0 hc
  rw [aR9 hu (c.toNat+1) ((Ad cs c).2.1.toNat+2) (Ad cs c).2.1 A0 A0 A0]
 ·grind
def atB (cs:aL) (gs:aG):aN:=DQ (M gs) λj=>aq<|(AG gs j).2.1<(M cs:Y)
def il {cs:aL}{gs:aG}(h:atB cs gs=U) {c:Y}(h0:0<=c) (h1:c<M gs):(AG gs c).2.1<(M cs:Y):=by
 have:=Dq.1 h c.toNat A0
 grind
def Cs (cs:aL) (gs:aG) (o:Y) (k:aD):aC:=((av k).map λj:aD=>(j:Y)).filter λj=>Fh cs o (AG gs j).2.1
def aFl {cs:aL}{gs:aG}{o:Y}{k:aD}:Cs cs gs o (k+1)=Cs cs gs o k++(if Fh cs o (AG gs k).2.1=U then [(k:Y)] else []):=by
 unfold Cs;rw [SZ,KK,Zk]
 grind
def qb {cs:aL}{gs:aG}{o:Y}{k:aD}:M (Cs cs gs o k)<=k:=by
 unfold Cs
 grind
def D7 {cs:aL}{os:aF}{ks:aR}{gs:aG}{bs:aS}:BB cs os ks gs bs=U↔(1<=M cs/\M cs<=16/\M os<=8/\M ks<=32/\M gs<=16/\M bs<=24)/\(Lo cs os ks gs bs).all nameB=U/\once (Lo cs os ks gs bs)=U/\DQ (M cs) (λj=>IC j<|Ad cs j)=U/\ks.all (koV<|M os)=U/\once (ks.map (·.2.2.2))=U/\gs.all (G4 (M cs)<|M os)=U/\bs.all (λb=>inB b.2 0<|(M gs:Y)-1)=true:=by
 unfold BB vpB
 grind
def qt {cs:aL}{os:aF}{ks:aR}{gs:aG}{bs:aS}(h:BB cs os ks gs bs=U) {c:Y}(h0:0<=c) (h1:c<M cs):IC c (Ad cs c)=true:=by
 have:=Dq.1 (D7.1 h).2.2.2.1 c.toNat A0
 grind
def NT {cs:aL}{os:aF}{ks:aR}{gs:aG}{bs:aS}(h:BB cs os ks gs bs=U) {c:Y}(h0:0<=c) (h1:c<M gs):G4 (M cs) (M os) (AG gs c)=true:=by
 have:=BH.1 (D7.1 h).2.2.2.2.2.2.1 gs[c.toNat]<|Fk _
 rwa [ah8 A0]
def qW {cs:aL}{os:aF}{ks:aR}{gs:aG}{bs:aS}(h:BB cs os ks gs bs=U):Ff cs=true:=
 Dq.2 λj hj=>by
  have:=qt h (c:=j) A0 hj
  unfold IC at this;rw [AV] at this
  have h1:=this.1
  rw [Aa];split at h1
  ·grind
  ·have:=BO.1 h1;omega
def qX {cs:aL}{os:aF}{ks:aR}{gs:aG}{bs:aS}(h:BB cs os ks gs bs=U):atB cs gs=true:=
 Dq.2 λj hj=>by
  have:=NT h (c:=j) A0 hj
  unfold G4 at this;rw [AV] at this
  have:=BO.1 this.1
  rw [Aa];omega
def xW (cs:aL) (os:aF) (ks:aR) (gs:aG) (bs:aS) (o:Y):Y:=if BB cs os ks gs bs=U/\0<=o/\o<M cs then 0 else 1
def QW (cs:aL) (os:aF) (ks:aR) (gs:aG) (bs:aS) (o:Y):aC:=if BB cs os ks gs bs=U/\0<=o/\o<M cs then Cs cs gs o (M gs) else []
def cS (ga ro:Y):aD->Int
 |0=>0
 |k+1=>if ga*(k+1)*(k+1)<=ro then (k:Y)+1 else cS ga ro k
def al0 {ga m:Y}(h0:0<=ga) (h1:ga<=1000) (m0:0<=m) (m1:m<=1000):(0<=ga*m/\ga*m<=1000000)/\0<=ga*m*m/\ga*m*m<=1000000000:=by
 have a1:=MG h1 m0
 have a2:=Iv h0 m0
 have a3:ga*m*m<=1000000*m:=MG A0 m0
 exact ⟨⟨a2,A0⟩,Iv a2 m0,A0⟩
def arX {ga a b:Y}(h0:0<=ga) (a0:0<=a) (h:a<=b):ga*a*a<=ga*b*b:=by
 have h1:=QH h h0
 exact HI (MG h1 a0)<|QH h<|Iv h0 A0
def aJE {ga ro r:Y}:∀ {k:aD},0<=r->r<=k->(r=0\/ga*r*r<=ro)->(∀a:Y,r<a->a<=k->¬ga*a*a<=ro)->cS ga ro k=r
 |0,h0,h1,_,_=>by simp only [cS];omega
 | k+1,h0,h1,h2,h3=>by
  simp only [cS]
  by_cases hr:r=(k:Y)+1
  ·subst hr
   omega
  ·rw [AE<|h3 ((k:Y)+1) A0 A0]
   exact aJE h0 A0 h2 λa ha hk=>h3 a ha A0
def prm (ga ro:Y):Y:=cS ga ro 1000
def pmE (c:Cbl):Y:=if Is c=U then 0 else 1
def N5 (c:Cbl):Y:=if Is c=U then (if cbZ c=U then 1000 else prm c.2.2.1 ((if c.2.2.2.2<c.2.2.2.1 then c.2.2.2.2 else c.2.2.2.1)*(c.2.1-c.1))) else 0
def ajM {c:Cbl}(h:Is c=U) (hz:cbZ c=X):(0<=c.1/\c.1<c.2.1/\c.2.1<=200000)/\(0<=c.2.2.1/\c.2.2.1<=1000)/\(0<=c.2.2.2.1/\c.2.2.2.1<=1000)/\1<=c.2.2.2.2/\c.2.2.2.2<=1000000:=by
 unfold Is at h;rw [hz,D5] at h;simp only [AV,Aa,BO] at h;omega
def Je (f:Y) (l:aC):Y:=l.foldl (λa n=>if n<a then n else a) f
def DD (c:Cd):Y:=if c.2.2.2.2.1.1=0 then Je c.2.2.1 [c.2.2.2.1,N5 c.2.2.2.2.2] else Je c.2.2.1 [c.2.2.2.1,N5 c.2.2.2.2.2,c.2.2.2.2.1.1]
def asI {c:Cbl}:(pmE c !=0)=!Is c:=by
 unfold pmE
 grind
abbrev Eg:Ty:=.pair A7<|.sl A7
abbrev Rw:=Int×List Int
def aZ:qT (List Rw):=⟨⟩
def Cj (l:aZ) (n:Y):Rw:=l.getD n.toNat (0,[])
def qf {l:aZ}{n:Y}(h:n.toNat<M l):Cj l n=l[n.toNat]:=K3 h
def apv {l:aZ}{i:Y}(h0:0<=i) (h:i<M l):l.drop i.toNat=Cj l i::l.drop (i+1).toNat/\l.take (i+1).toNat=l.take i.toNat++[Cj l i]:=Qr h0 h
def Ig {l:aC}{n:Y}(h:n.toNat<M l):gi l n=l[n.toNat]:=K3 h
def usA (ph p:Y):aN:=Bm J ph (AA<|(1:Y)*2^(min p.toNat 64)) !=0
def Bz (gs:aG) (p:Y) (l:aC):aC:=l.filter λk=>usA (AG gs k).2.2.1 p
def Xl (gs:aG) (p:Y) (l:aC):Prop:=0<=p/\M l<=1000/\∀k∈l,0<=k/\k<(M gs:Y)
def aJv {gs:aG}{p:Y}{l:aC}:M (Bz gs p l)<=M l:=VA _ _
def eE {cs:aL}{gs:aG}{o:Y}{k:aD}{x:Y}(h:x∈Cs cs gs o k):0<=x/\x<(k:Y):=by
 have:=(Ce.1 h).1
 obtain ⟨j,h1,rfl⟩:=F4.1 this
 have:=Iu.1 h1
 omega
def rowP (cs:aL) (gs:aG) (c p:Y):aZ:=if M (Bz gs p<|Cs cs gs c<|M gs)>0 then [(DD<|Ad cs c,Bz gs p<|Cs cs gs c<|M gs)] else []
def cQ (cs:aL) (gs:aG) (c:Y):aZ:=rowP cs gs c 0++rowP cs gs c 1++rowP cs gs c 2
def Cw (cs:aL) (gs:aG):aD->List Rw
 |0=>[]
 |k+1=>Cw cs gs k++cQ cs gs k
def qz {cs:aL}{gs:aG}{c p:Y}:M (rowP cs gs c p)<=1:=by
 unfold rowP
 grind
def ap3 {cs:aL}{gs:aG}{c:Y}:M (cQ cs gs c)<=3:=by
 unfold cQ
 have h0:=qz (cs:=cs) (gs:=gs) (c:=c) (p:=0)
 have h1:=qz (cs:=cs) (gs:=gs) (c:=c) (p:=1)
 have h2:=qz (cs:=cs) (gs:=gs) (c:=c) (p:=2)
 simp only [B8];omega
def qH {cs:aL}{gs:aG}:∀ {k:aD},M (Cw cs gs k)<=3*k
 |0=>by simp [Cw]
 |k+1=>by
  have:=qH (cs:=cs) (gs:=gs) (k:=k)
  have h2:=ap3 (cs:=cs) (gs:=gs) (c:=k)
  simp only [Cw,B8];omega
def OP (cs:aL) (os:aF) (ks:aR) (gs:aG) (bs:aS):Y:=if BB cs os ks gs bs=U then 0 else 1
def Jw (cs:aL) (os:aF) (ks:aR) (gs:aG) (bs:aS):aZ:=if BB cs os ks gs bs=U then Cw cs gs (M cs) else []
def I5 (a:Y):aN:=aq (a>=0)&&aq (a<=80)
def Qj {a:Y}:I5 a=U↔0<=a/\a<=80:=by simp [I5]
def Q8 (n i:Y):aN:=aq (0<=i)&&aq (i<n)
def qI {n i:Y}:Q8 n i=U↔0<=i/\i<n:=by simp [Q8]
def Gt (l:aC) (n:Y):aN:=aq ((M l:Y)=n)&&(l.all (Q8 n)&&once l)
def smA (alive l:aC):Y:=(l.map λm=>gi alive m).sum
def L9 (i:Y) (o:aJ) (l:aC):aJ:=l.foldl (λo m=>o.modify m.toNat (·++[i])) o
def HY (o:aJ) (i:Y):aZ->List (List Int)
 | []=>o
 |r::rs=>HY (L9 i o r.2) (i+1) rs
def HX (alive sm:aC) (i:Y):aZ->List Int
 | []=>sm
 |r::rs=>HX alive (sm.set i.toNat<|sm.getD i.toNat 0+smA alive r.2) (i+1) rs
def aG2 {alive l:aC}{m:Y}:smA alive (m::l)=gi alive m+smA alive l:=by simp [smA]
def pz {i m:Y}{o:aJ}{l:aC}:L9 i o (m::l)=L9 i (o.modify m.toNat (·++[i])) l:=rfl
def aDi {i:Y}:∀ {l:aC}{o:aJ},M (L9 i o l)=M o
 | [],o=>rfl
 |m::l,o=>by rw [pz,aDi,mH]
def aJD {i:Y}:∀ {l:aC}{o:aJ}{b:Y},(∀x∈o,(M x:Y)<=b)->∀x∈L9 i o l,(M x:Y)<=b+M l
 | [],o,b,h,x,hx=>by have:=h x hx;simp only [Bh];omega
 | m::l,o,b,h,x,hx=>by
  rw [pz] at hx
  have:=aJD (b:=b+1) (λy hy=>by
   obtain ⟨k,hk,rfl⟩:=Hr.1 hy;rw [mH] at hk
   have:=h o[k]<|Fk _
   rw [List.getElem_modify];split
   ·grind
   ·omega) x hx
  simp only [BY];omega
def aoz {l:aC}{i:aD}(h:i<M l):l.set i (l.getD i 0+0)=l:=by
 simp_all
def aeV {l:aC}{i:aD}{a b:Y}(h:i<M l):letI c:=l.set i<|l.getD i 0+a;c.set i (c.getD i 0+b)=l.set i (l.getD i 0+(a+b)):=by
 have e:(l.set i<|l.getD i 0+a).getD i 0=l.getD i 0+a:=A8
 rw [e,List.set_set]
 congr 1
 omega
def mx (a b:Y):Y:=if a<b then b else a
def D3 (gs:aG) (i k:Y):Y:=E6 (AG gs i).2.2.2.1 (AG gs i).2.2.2.2.2.1 k
def Fb (gs:aG) (i a:Y):Y:=Hf (AG gs i).2.2.2.1 (AG gs i).2.2.2.2.1 (AG gs i).2.2.2.2.2.1 a
def G7 (gs:aG) (alive:aC) (i k:Y):Y:=mx (gi alive i) (D3 gs i k)-mx (gi alive i) (D3 gs i<|k-1)
def L0 (rows:aZ) (sm:aC) (mo r:Y):aN:=aq<|sm.getD r.toNat 0+mo<=(Cj rows r).1
def KC (sm:aC) (mo:Y) (l:aC):aC:=l.foldl (λsm r=>sm.set r.toNat<|sm.getD r.toNat 0+mo) sm
abbrev Tr:=List Int×List Int×Bool
def G3 (O:aJ) (rows:aZ) (gs:aG) (alive most:aC) (level:Y) (t:Tr) (i:Y):Tr:=
 if t.2.1.getD i.toNat 0=level-1/\level<=Fb gs i (gi most i) then
  (if ((O.getD i.toNat []).all<|L0 rows t.1<|G7 gs alive i level)=U then (KC t.1 (G7 gs alive i level)<|O.getD i.toNat [],t.2.1.set i.toNat level,U) else t)
 else t
def swp (O:aJ) (rows:aZ) (gs:aG) (alive most:aC) (level:Y) (t:Tr) (l:aC):Tr:=l.foldl (G3 O rows gs alive most level) t
def shl (O:aJ) (rows:aZ) (gs:aG) (alive most order:aC):aD->Y->aC->aC->List Int
 |0,_,_,lv=>lv
 |f+1,level,sm,lv=>if (swp O rows gs alive most level (sm,lv,X) order).2.2=U then shl O rows gs alive most order f (level+1) (swp O rows gs alive most level (sm,lv,X) order).1 (swp O rows gs alive most level (sm,lv,X) order).2.1 else (swp O rows gs alive most level (sm,lv,X) order).2.1
def qi {sm l:aC}{mo r:Y}:KC sm mo (r::l)=KC (sm.set r.toNat<|sm.getD r.toNat 0+mo) mo l:=rfl
def pT {mo:Y}:∀ {l sm:aC},M (KC sm mo l)=M sm
 | [],_=>rfl
 |r::l,sm=>by rw [qi,pT,C5]
def TC {sm:aC}{i k:aD}{v:Y}:(sm.set i v).getD k 0=if i=k/\k<M sm then v else sm.getD k 0:=by
 by_cases h:i=k
 ·subst h
  by_cases h2:i<M sm
  ·simp [h2]
  ·grind
 ·simp [h]
def aF8 {mo:Y}:∀ {l sm:aC}{k:aD},(∀r∈l,r.toNat≠k)->(KC sm mo l).getD k 0=sm.getD k 0
 | [],_,_,_=>rfl
 |r::l,sm,k,h=>by
  rw [qi,aF8 λx hx=>h x A8,TC,AE λe=>h r AI e.1]
def sB {mo:Y}:∀ {l sm:aC}{k:aD},l.Nodup->(∀r∈l,0<=r)->k<M sm->(KC sm mo l).getD k 0=sm.getD k 0+(if (k:Y)∈l then mo else 0)
 | [],sm,k,_,_,_=>by simp [KC]
 | r::l,sm,k,hn,h0,hk=>by
  rw [qi];obtain ⟨n1,n2⟩:=MJ.1 hn
  have hr:=h0 r AI
  by_cases e:r.toNat=k
  ·rw [aF8 λx hx e2=>n1 (by
    have:=h0 x A8
    have:r=x:=A0
    rw [this];exact hx),TC,AD ⟨e,hk⟩,AD A8,e]
  ·rw [sB n2 (λx hx=>h0 x A8) A8,TC,AE λc=>e c.1]
   have:¬(k:Y)=r:=A0
   simp [this]
def wL {mi ma st a:Y}:Hf mi ma st a<=80:=by
 have:=aSW (mi:=mi) (ma:=ma) (st:=st)
 unfold Hf;split
 ·omega
 ·split
  ·omega
  ·omega
structure OkT (O:aJ) (rows:aZ) (gs:aG) (alive most order:aC):Prop where
 ol:M O=16
 ord:∀i∈order,(0<=i/\i<16)/\i<(M gs:Y)/\i<(M alive:Y)/\i<(M most:Y)
 al:∀a∈alive,0<=a/\a<=80
 mo:∀a∈most,0<=a/\a<=80
 has:∀i∈order,Dr (AG gs i).2.2.2.1 (AG gs i).2.2.2.2.1 (AG gs i).2.2.2.2.2.1=U
 row:∀o∈O,o.Nodup/\(M o:Y)<=1000/\∀r∈o,0<=r/\r<(M rows:Y)
 cap:∀r∈rows,r.1<=1000
structure OkS (rows:aZ) (order sm lv:aC):Prop where
 len:M sm=M rows
 bd:∀k:aD,0<=sm.getD k 0/\sm.getD k 0<=2000
 C1:∀i∈order,i<(M lv:Y)
 lvb:∀k:aD,0<=lv.getD k 0/\lv.getD k 0<=80
def ajb {mi st k:Y}(h:1<=mi/\mi<=80/\1<=st/\st<=80) (h0:0<=k) (h1:k<=81):0<=E6 mi st k/\E6 mi st k<=6480:=by
 unfold E6;split
 ·omega
 ·have a1:0<=(k-1)*st:=Iv A0 A0
  have a2:(k-1)*st<=(k-1)*80:=QH A0 A0
  omega
def aHK {mi st j k:Y}(h:1<=mi/\1<=st) (h0:0<=j) (h1:j<=k):E6 mi st j<=E6 mi st k:=by
 unfold E6;split
 ·split
  ·omega
  ·have a1:0<=(k-1)*st:=Iv A0 A0
   omega
 ·rw [AE A0]
  have:(j-1)*st<=(k-1)*st:=MG A0 A0
  omega
def aSU {gs:aG}{alive:aC}{i k:Y}(hh:Dr (AG gs i).2.2.2.1 (AG gs i).2.2.2.2.1 (AG gs i).2.2.2.2.2.1=U) (ha:0<=gi alive i/\gi alive i<=80) (h0:1<=k) (h1:k<=81):0<=G7 gs alive i k/\G7 gs alive i k<=10000:=by
 obtain ⟨g1,g2,g3,g4,g5⟩:=IX.1 hh
 have b1:=ajb (mi:=(AG gs i).2.2.2.1) (st:=(AG gs i).2.2.2.2.2.1) (k:=k) ⟨g1,A0,g4,g5⟩ A0 h1
 have b3:=aHK (mi:=(AG gs i).2.2.2.1) (st:=(AG gs i).2.2.2.2.2.1) (j:=k-1) (k:=k) ⟨g1,g4⟩ A0 A0
 unfold G7 mx D3;omega
def Ki {l:aC}{i:Y}(h0:0<=i) (h:i<(M l:Y)):gi l i∈l:=by
 rw [Ig A0];exact Fk _
theorem aPz {O:aJ}{rows:aZ}{gs:aG}{alive most order:aC}{level:Y}{t:Tr}{i:Y}(hT:OkT O rows gs alive most order) (hS:OkS rows order t.1 t.2.1) (hi:i∈order) (h0:1<=level) (h1:level<=81):letI b:=G3 O rows gs alive most level t i;OkS rows order b.1 b.2.1:=by
 unfold G3;split
 ·split
  ·rename_i hc hf
   obtain ⟨⟨o0,o1⟩,o2,o3,o4⟩:=hT.ord i hi
   have hl80:=wL (mi:=(AG gs i).2.2.2.1) (ma:=(AG gs i).2.2.2.2.1) (st:=(AG gs i).2.2.2.2.2.1) (a:=gi most i)
   have hl81:=hc.2
   unfold Fb at hl81
   have hm:=aSU (gs:=gs) (alive:=alive) (k:=level) (hT.has i hi) (hT.al _<|Ki o0 o3) h0 h1
   have ho:O.getD i.toNat []∈O:=by
    have hl:=hT.ol
    grind
   obtain ⟨r1,r2,r3⟩:=hT.row _ ho
   refine ⟨by simp only;rw [pT];exact hS.len,λk=>?_,λj hj=>by simp only [C5];exact hS.C1 j hj,λk=>by
    have:=hS.lvb k
    rw [TC];split<;>omega⟩
   by_cases hk:k<M t.1
   ·rw [sB r1 (λr hr=>(r3 r hr).1) hk]
    have hb:=hS.bd k
    split
    ·rename_i hkm
     have hfit:=BH.1 hf _ hkm
     unfold L0 at hfit;rw [Aa,C0] at hfit
     have hk2:=hS.len
     have:=hT.cap (Cj rows (k:Y)) yi
     omega
    ·omega
   ·rw [DK,Sc (by rw [pT];omega)]
    simp
  ·exact hS
 ·exact hS
def td {O:aJ}{rows:aZ}{gs:aG}{alive most order:aC}{level:Y}(hT:OkT O rows gs alive most order) (h0:1<=level) (h1:level<=81):∀(l:aC) (t:Tr),(∀i∈l,i∈order)->OkS rows order t.1 t.2.1->OkS rows order (swp O rows gs alive most level t l).1 (swp O rows gs alive most level t l).2.1
 | [],t,_,h=>h
 |i::l,t,hl,h=>td hT h0 h1 l _ (λj hj=>hl j A8)<|aPz hT h (hl i AI) h0 h1
def qS {O:aJ}{rows:aZ}{gs:aG}{alive most:aC}{level:Y}:∀(l:aC) (t:Tr),(swp O rows gs alive most level t l).2.2=U->t.2.2=U\/level<=80
 | [],t,h=> .inl h
 | i::l,t,h=>by
  rcases qS l _ h with h2|h2
  ·unfold G3 at h2
   split at h2
   ·rename_i hc
    have:=wL (mi:=(AG gs i).2.2.2.1) (ma:=(AG gs i).2.2.2.2.1) (st:=(AG gs i).2.2.2.2.2.1) (a:=gi most i)
    have h3:=hc.2
    unfold Fb at h3;omega
   ·grind
  ·grind
def af2 {O:aJ}{rows:aZ}{gs:aG}{alive most:aC}{level:Y}{t:Tr}{i:Y}:M (G3 O rows gs alive most level t i).2.1=M t.2.1:=by
 unfold G3;split
 ·split
  ·grind
  ·rfl
 ·rfl
def aEZ {O:aJ}{rows:aZ}{gs:aG}{alive most:aC}{level:Y}:∀(l:aC) (t:Tr),M (swp O rows gs alive most level t l).2.1=M t.2.1
 | [],t=>rfl
 |i::l,t=>(aEZ l _).trans af2
def aQ8 {O:aJ}{rows:aZ}{gs:aG}{alive most order:aC}(hT:OkT O rows gs alive most order):∀(f:aD) (level:Y) (sm lv:aC),1<=level->level<=81->OkS rows order sm lv->M (shl O rows gs alive most order f level sm lv)=M lv/\∀k:aD,0<=(shl O rows gs alive most order f level sm lv).getD k 0/\(shl O rows gs alive most order f level sm lv).getD k 0<=80
 |0,_,_,lv,_,_,h=>⟨rfl,h.lvb⟩
 | f+1,level,sm,lv,h0,h1,h=>by
  have hk:=td hT h0 h1 order (sm,lv,X) (λ_ h=>h) h
  have hl:=aEZ (O:=O) (rows:=rows) (gs:=gs) (alive:=alive) (most:=most) (level:=level) order (sm,lv,X)
  have hs:=qS (O:=O) (rows:=rows) (gs:=gs) (alive:=alive) (most:=most) (level:=level) order (sm,lv,X)
  rw [shl];split
  ·rename_i hc
   have h80:level<=80:=by
    rcases hs hc with h|h
    ·cases h
    ·exact h
   obtain ⟨g1,g2⟩:=aQ8 hT f (level+1) _ _ A0 A0 hk
   grind
  ·exact ⟨hl,hk.lvb⟩
def KG (i:Y):aZ->Y->List Int
 | [],_=>[]
 |r::rs,j=>(if r.2.contains j then [i] else [])++KG (i+1) rs j
def aea {o:aJ}{f:aC->aC}{j k:aD}(h:k<M o):(o.modify j f).getD k []=if j=k then f (o.getD k []) else o.getD k []:=by
 grind
def aGV {i:Y}:∀ {l:aC}{o:aJ}{k:aD},l.Nodup->(∀m∈l,0<=m)->k<M o->(L9 i o l).getD k []=o.getD k []++(if l.contains (k:Y) then [i] else [])
 | [],o,k,_,_,_=>by simp [L9]
 | m::l,o,k,hn,h0,hk=>by
  obtain ⟨n1,n2⟩:=MJ.1 hn
  have hm:=h0 m AI
  rw [pz,aGV n2 (λx hx=>h0 x A8) A8,aea hk]
  by_cases e:m.toNat=k
  ·have e2:(k:Y)=m:=A0
   grind
  ·rw [AE e]
   have:¬(k:Y)=m:=A0
   simp [this]
def aBT (r:Rw):Prop:=r.2.Nodup/\∀m∈r.2,0<=m
def aEY:∀ {rs:aZ}{o:aJ}{i:Y},M (HY o i rs)=M o
 | [],_,_=>rfl
 |r::rs,o,i=>by rw [HY,aEY,aDi]
def aIf:∀ {rs:aZ}{o:aJ}{i:Y}{k:aD},(∀r∈rs,aBT r)->k<M o->(HY o i rs).getD k []=o.getD k []++KG i rs k
 | [],o,i,k,_,_=>by simp [HY,KG]
 |r::rs,o,i,k,h,hk=>by
  obtain ⟨h1,h2⟩:=h r AI;rw [HY,aIf (λx hx=>h x A8) (by rw [aDi];exact hk),aGV h1 h2 hk,KG,Co]
def TN:∀ {rs:aZ}{i j x:Y},x∈KG i rs j↔i<=x/\x<i+M rs/\(Cj rs<|x-i).2.contains j=U
 | [],i,j,x=>by simp [KG];omega
 | r ::rs,i,j,x=>by
  rw [KG,BZ,TN]
  by_cases e:x=i
  ·subst e
   have g0:Cj (r::rs) (x-x)=r:=by simp [Cj]
   rw [g0]
   constructor
   ·rintro (h|h)
    ·split at h
     ·rename_i hc
      grind
     ·cases h
    ·omega
   ·rintro ⟨_,_,h⟩
    rw [AD h]
    simp
  ·have hn:¬x∈(if r.2.contains j then [i] else []):=by
    split
    ·grind
    ·simp
   simp only [BY]
   constructor
   ·rintro (h|⟨h1,h2,h3⟩)
    ·grind
    ·refine ⟨A0,A0,?_⟩
     exact aMf
   ·rintro ⟨h1,h2,h3⟩
    refine .inr ⟨A0,A0,?_⟩;exact aMf
def q9:∀ {rs:aZ}{i j:Y},(KG i rs j).Nodup
 | [],_,_=>List.nodup_nil
 | r::rs,i,j=>by
  rw [KG];split
  ·rw [xw,MJ]
   refine ⟨λh=>?_,q9⟩
   have:=(TN.1 h).1
   omega
  ·rw [EG];exact q9
def aIn:∀ {rs:aZ}{i j:Y},M (KG i rs j)<=M rs
 | [],_,_=>Ar _
 |r::rs,i,j=>by
  have:=aIn (rs:=rs) (i:=i+1) (j:=j)
  rw [KG]
  grind
def aEX {alive:aC}:∀ {rs:aZ}{sm:aC}{i:Y},M (HX alive sm i rs)=M sm
 | [],_,_=>rfl
 |r::rs,sm,i=>by rw [HX,aEX,C5]
def aIe {alive:aC}:∀ {rs:aZ}{sm:aC}{i:Y}{k:aD},0<=i->k<M sm->(HX alive sm i rs).getD k 0=sm.getD k 0+(if i<=(k:Y)/\(k:Y)<i+M rs then smA alive (Cj rs<|(k:Y)-i).2 else 0)
 | [],sm,i,k,_,_=>by
  rw [AE AI]
  simp [HX]
 | r ::rs,sm,i,k,hi,hk=>by
  rw [HX,aIe A0 A8,TC]
  by_cases e:i.toNat=k
  ·have e2:(k:Y)=i:=A0
   rw [AD ⟨e,hk⟩,AE A0,AD A8,e,e2]
   have:Cj (r::rs) (i-i)=r:=by simp [Cj]
   rw [this];omega
  ·rw [AE λc=>e c.1]
   by_cases c:i+1<=(k:Y)/\(k:Y)<i+1+M rs
   ·rw [AD c,AD A8]
    have:Cj (r::rs) ((k:Y)-i)=Cj rs ((k:Y)-(i+1)):=by
     unfold Cj;rw [show ((k:Y)-i).toNat=((k:Y)-(i+1)).toNat+1 by omega]
     simp
    rw [this]
   ·grind
def aQ6 {alive:aC}(ha:∀a∈alive,0<=a/\a<=80):∀ {l:aC},(∀m∈l,0<=m/\m<(M alive:Y))->0<=smA alive l/\smA alive l<=80*M l
 | [],_=>by simp [smA]
 |m::l,h=>by
  have h1:=aQ6 ha (l:=l) λx hx=>h x A8
  have hm:=h m AI
  have:=ha (gi alive m)<|Ki hm.1 hm.2
  rw [aG2];simp only [BY];omega
def adt {α:Type}{l:List α}(p:α->aN) (h:l.Nodup):(l.filter p).Nodup:=List.Pairwise.filter p h
def afg {cs:aL}{gs:aG}{o:Y}{k:aD}:(Cs cs gs o k).Nodup:=by
 refine adt _ ?_;exact xk _ (λa b h=>A0) mv
def avd {gs:aG}{p k:Y}{l:aC}:k∈Bz gs p l↔k∈l/\usA (AG gs k).2.2.1 p=true:=by simp [Bz,Ce]
def ae6 {cs:aL}{gs:aG}{c p:Y}{r:Rw}(h:r∈rowP cs gs c p):r=(DD<|Ad cs c,Bz gs p<|Cs cs gs c<|M gs)/\M (Bz gs p<|Cs cs gs c<|M gs)>0:=by
 unfold rowP at h;exact nO
def rA {cs:aL}{gs:aG}{r:Rw}:∀ {k:aD},r∈Cw cs gs k->∃c p:Y,(0<=c/\c<(k:Y))/\(p=0\/p=1\/p=2)/\r=(DD<|Ad cs c,Bz gs p<|Cs cs gs c<|M gs)/\M r.2>0
 |0,h=>As
 | k+1,h=>by
  rw [Cw,BZ] at h;rcases h with h|h
  ·obtain ⟨c,p,h1,h2,h3⟩:=rA h
   grind
  ·unfold cQ at h
   rw [BZ,BZ] at h;rcases h with (h|h) |h
   ·exact yc
   ·exact yc
   ·exact yc
def row_mem {cs:aL}{gs:aG}{r:Rw}{k:aD}(h:r∈Cw cs gs k):r.2.Nodup/\(∀m∈r.2,0<=m/\m<(M gs:Y))/\M r.2<=M gs/\M r.2>0:=by
 obtain ⟨c,p,h1,h2,h3,h4⟩:=rA h;subst h3;refine ⟨adt _ afg,λm hm=>eE (avd.1 hm).1,Hq aJv qb,h4⟩
def FW (gs:aG) (lv:aC):aC:=(av<|M gs).map λk:aD=>D3 gs (k:Y)<|lv.getD k 0
def OL (rows:aZ):aJ:=HY (au 16 []) 0 rows
def SM (alive:aC) (rows:aZ):aC:=HX alive (au (M rows) 0) 0 rows
def Fy (cs:aL) (os:aF) (ks:aR) (gs:aG) (bs:aS) (al mo od:aC):aN:=BB cs os ks gs bs&&(aq (M al=M gs)&&(aq (M mo=M gs)&&(al.all I5&&(mo.all I5&&Gt od (M gs)))))
def shV (rows:aZ) (gs:aG) (al mo od:aC):aC:=shl (OL rows) rows gs al mo od 81 1 (SM al rows)<|au (M al) 0
def shE (cs:aL) (os:aF) (ks:aR) (gs:aG) (bs:aS) (al mo od:aC):Y:=if Fy cs os ks gs bs al mo od=U then 0 else 1
def Fa (cs:aL) (os:aF) (ks:aR) (gs:aG) (bs:aS) (al mo od:aC):aC:=if Fy cs os ks gs bs al mo od=U then FW gs (shV (Cw cs gs<|M cs) gs al mo od) else []
def Lc {cs:aL}{os:aF}{ks:aR}{gs:aG}{bs:aS}{al mo od:aC}:Fy cs os ks gs bs al mo od=U↔BB cs os ks gs bs=U/\M al=M gs/\M mo=M gs/\al.all I5=U/\mo.all I5=U/\Gt od (M gs)=true:=by
 simp [Fy]
def aSY:∀ {l:aC}{f:Y},Je f l<=f
 | [],f=>Cz _
 |n::l,f=>by
  have:Je f (n::l)=Je (if n<f then n else f) l:=rfl
  have:=aSY (l:=l) (f:=if n<f then n else f)
  split at this<;>rename_i h
  ·grind
  ·grind
def atY {c:Cd}:DD c<=c.2.2.1:=by
 unfold DD;split<;>exact aSY
def aFt {rows:aZ}:M (OL rows)=16:=by rw [OL,aEY,Cf]
def wR {rows:aZ}(h:∀r∈rows,aBT r) {k:aD}(hk:k<16):(OL rows).getD k []=KG 0 rows k:=by
 rw [OL,aIf h A8]
 have:(au 16 ([]:aC)).getD k []=[]:=by
  grind
 grind
def atC {cs:aL}{gs:aG}{k:aD}:∀r∈Cw cs gs k,aBT r:=λr hr=>⟨(row_mem hr).1,λm hm=>((row_mem hr).2.1 m hm).1⟩
def qj {al:aC}{rows:aZ}:M (SM al rows)=M rows:=by rw [SM,aEX,Cf]
def aUU {al:aC}{rows:aZ}{k:aD}(hk:k<M rows):(SM al rows).getD k 0=smA al (Cj rows k).2:=by
 rw [SM,aIe (Cz _) A8,AD A0,QL]
 grind
def aE7 {od:aC}{n i:Y}(h:Gt od n=U) (hi:i∈od):0<=i/\i<n:=by
 unfold Gt at h;simp only [AV,BH] at h;exact qI.1<|h.2.1 i hi
def am5 {cs:aL}{os:aF}{ks:aR}{gs:aG}{bs:aS}{al mo od:aC}(h:Fy cs os ks gs bs al mo od=U):letI b:=Cw cs gs<|M cs;OkT (OL b) b gs al mo od/\OkS b od (SM al b) (au (M al) 0):=by
 obtain ⟨hv,h1,h2,h3,h4,h5⟩:=Lc.1 h
 have hl:=(D7.1 hv).1
 have ha:∀a∈al,0<=a/\a<=80:=λa ha=>Qj.1<|BH.1 h3 a ha
 refine ⟨⟨aFt,λi hi=>?_,ha,λa ha=>Qj.1<|BH.1 h4 a ha,λi hi=>?_,λo ho=>?_,λr hr=>?_⟩,⟨qj,λk=>?_,λi hi=>?_,λk=>?_⟩⟩
 ·have:=aE7 h5 hi
  omega
 ·have hi:=aE7 h5 hi
  have:=NT hv hi.1 hi.2
  exact aNs
 ·obtain ⟨k,hk,rfl⟩:=Hr.1 ho
  rw [aFt] at hk
  have e:=wR (rows:=Cw cs gs<|M cs) atC hk
  rw [DK,Dg A8,mr] at e;rw [e]
  have hln:=aIn (rs:=Cw cs gs<|M cs) (i:=0) (j:=k)
  have hrn:=qH (cs:=cs) (gs:=gs) (k:=M cs)
  refine ⟨q9,A0,λr hr=>?_⟩
  have:=TN.1 hr
  omega
 ·obtain ⟨c,p,hc,hp,rfl,_⟩:=rA hr
  have hcv:=qt hv hc.1 hc.2
  unfold IC at hcv;simp only [AV,BO] at hcv
  have:=atY (c:=Ad cs c)
  simp only;omega
 ·by_cases hk:k<M (Cw cs gs<|M cs)
  ·rw [aUU hk]
   have hr:Cj (Cw cs gs<|M cs) (k:Y)∈Cw cs gs (M cs):=by rw [qf zO];exact Fk _
   obtain ⟨m1,m2,m3,_⟩:=row_mem hr
   have:=aQ6 ha (l:=(Cj (Cw cs gs<|M cs) (k:Y)).2) λm hm=>A8
   omega
  ·rw [DK,Sc (by rw [qj];omega)]
   simp
 ·have:=aE7 h5 hi
  rw [Cf];omega
 ·have:(au (M al) (0:Y)).getD k 0=0:=by
   simp only [List.getD,V9];split<;>rfl
  omega
def aIb {xs:aC}{r:aD}{v:Y}:(xs++au (r+1) 0).set (M xs) v=xs++[v]++au r 0:=by
 grind
def SI (gs:aG) (lv:aC) (n:aD):aC:=(av n).map λk:aD=>D3 gs (k:Y)<|lv.getD k 0
def aop {gs:aG}{lv:aC}{n:aD}:SI gs lv (n+1)=SI gs lv n++[D3 gs (n:Y)<|lv.getD n 0]:=by
 simp [SI,SZ]
def adY {gs:aG}{lv:aC}{n:aD}:M (SI gs lv n)=n:=by simp [SI]
def ntW {b:aN}(h:(!b)=U):b=false:=A8
def nfW {b:aN}(h:(!b)=X):b=true:=A8
def wt (n:Y):Y:=(n*1000000+999799) / 999800
def wtA (n:Y):Y:=if inB n 0 1000000=U then wt n else 0
def wtE (n:Y):Y:=if inB n 0 1000000=U then 0 else 1
def aPk {m n:Y}:m*999800 / 1000000>=n↔wt n<=m:=by
 unfold wt;omega
def aoS {a b:Y}(a0:0<=a) (a1:a<=3000000) (b0:0<=b) (b1:b<=1000000):0<=a*b/\a*b<=3000000000000:=
 ⟨Iv a0 b0,HI (QH b1 a0) A0⟩
def aa4 {n:Y}(h0:0<=n):0<=wt n/\wt n<=2*n+2:=by
 unfold wt;omega
abbrev AO:Ty:=.pair A7<|.pair A7<|.pair A7<|.pair A7 A7
abbrev Le:=Int×Int×Int×Int×Int
def aM:qT (List Le):=⟨⟩
instance:Coe (List Le) LV:=⟨.xl AO⟩
def An (l:aM) (n:Y):Le:=l.getD n.toNat (0,0,0,0,0)
def DJ (x:Le):aN:=inB x.1 1 1000000&&(inB x.2.1 0 15&&(inB x.2.2.1 0 80&&(inB x.2.2.2.1 0 1000000&&inB x.2.2.2.2 1 1000)))
def K4 (b x:Le):aN:=aq (x.1>b.1)&&aq (x.2.2.2.1>=b.2.2.2.1)
def H5 (l:aM) (j:Y):aN:=DJ (An l j)&&(aq (j=0) ||K4 (An l<|j-1) (An l j))
def B1 (l:aM):aN:=aq (M l<=64)&&DQ (M l) (H5 l)
def Md {l:aM}{n:Y}(h:n.toNat<M l):An l n=l[n.toNat]:=K3 h
def TE {l:aM}{i:Y}(h0:0<=i) (h:i<M l):l.drop i.toNat=An l i::l.drop (i+1).toNat/\l.take (i+1).toNat=l.take i.toNat++[An l i]:=Qr h0 h
def Li {l:aM}{i:Y}(h0:0<=i) (h:i<M l):An l i∈l:=by
 rw [Md A0]
 grind
def Kc {x:Le}:DJ x=U↔(1<=x.1/\x.1<=1000000)/\(0<=x.2.1/\x.2.1<=15)/\(0<=x.2.2.1/\x.2.2.1<=80)/\(0<=x.2.2.2.1/\x.2.2.2.1<=1000000)/\1<=x.2.2.2.2/\x.2.2.2.2<=1000:=by
 unfold DJ;simp only [AV,BO]
def GK {l:aM}(h:B1 l=U):M l<=64/\∀x∈l,DJ x=true:=by
 unfold B1 at h;rw [AV] at h;refine ⟨Ct h.1,λx hx=>?_⟩
 obtain ⟨k,hk,rfl⟩:=Hr.1 hx
 have:=Dq.1 h.2 k A0
 unfold H5 at this;rw [AV,Md A8] at this
 grind
def DF (x:Le):Y:=x.2.2.2.1+10+wt x.2.2.2.2
def LD (t:Y) (x:Le):aN:=aq<|DF x>t
def L1 (l:aM) (t:Y):aN:=B1 l&&inB t 0 1100000
def BW (l:aM) (t:Y):aM:=if L1 l t=U then l.filter (LD t) else []
def DO (l:aM) (t:Y):Y:=if L1 l t=U then 0 else 1
def FX (l:aM) (x:Le):Y:=if (B1 l&&DJ x)=U then (if (aq (M l>0)&&!K4 (An l<|(M l:Y)-1) x)=U then 12 else if M l=64 then 10 else 0) else 1
def GO (l:aM) (x:Le):aM:=if FX l x=0 then l++[x] else []
end Go.Proofs.YtepoohnehmfflaaGreatDoor
namespace Go.Sx
open Go.Proofs.YtepoohnehmfflaaGreatDoor
variable {P : Program} {G : B5} {Γ : Specs} {σ : Type}
structure CpD (σ:Type) where
 A:σ->List LV
 B:σ->List AB
 g:aE->aH->σ
 E:σ->Prop
 mu:σ->Nat
 r:σ->σ
namespace CpD
variable (D : CpD σ)
def m (n:aD) (args:aE) (H:aH):T (LV×List AB):=(Uz H args).bind λa=>(cW H H).bind λb=>
 .req (D.E (D.g a b)/\D.mu (D.g a b)<n/\D.A (D.g a b)=a/\D.B (D.g a b)=b) (.ok (.v<|.tuple #[],D.B<|D.r<|D.g a b))
variable {D}
def iW {n:aD}{args:aE}{H:aH}{q:LV×List AB}(h:(D.m n args H).all λz=>z=q):∃s,D.E s/\D.mu s<n/\D.A s=args/\D.B s=H/\q=(.v<|.tuple #[],D.B<|D.r s):=by
 unfold m at h;obtain ⟨a,h1,h2⟩:=T.B4 h;obtain ⟨b,h3,h4⟩:=T.B4 h2
 have e1:=fE h1
 have e2:=fk h3
 obtain ⟨⟨g1,g2,g3,g4⟩,g5⟩:=h4;exact ⟨_,g1,g2,g3.trans e1,g4.trans e2,g5.symm⟩
def one (c:bh) (m:aE->aH->T (LV×List AB)):Does:=λg=>if g=c then ai m else ak
def X0 {c:bh}{m:aE->aH->T (LV×List AB)}(h:Dk P G c m):∀g m',one c m g=ai m'->Dk P G g m':=λg m' e=>by
 unfold one at e;split at e
 ·rename_i q
  subst q;cases e;exact h
 ·cases e
def sound {LL:DV}{c:bh}{d:aD}(hΓ:∀g S,Γ g=ai S->Valid P G g S) (hLL:EZ P G LL)
  (hstep:∀(n:aD) (s:σ),D.E s->D.mu s<=n->SH (λq=>q=(.v<|.tuple #[],D.B<|D.r s)) ((Em P G Γ LL<|Ux P G Γ LL (one c<|D.m n) d).k c (D.A s)<|D.B s)):∀n,Dk P G c (D.m n)
 |0=>λw0 Z0 Z β H w args vals lv H' hW hr hok hq=>by
  obtain ⟨s,_,h,_⟩:=iW hq;exact absurd h (Nat.not_lt_zero _)
 |n+1=>Dk.walk hΓ hLL (aDl hΓ hLL (X0<|sound hΓ hLL hstep n) d) λargs H lv H' hq=>by
  obtain ⟨s,h1,h2,h3,h4,h5⟩:=iW hq;rw [<-h3,<-h4,h5];exact (hstep n s h1<|Nat.le_of_lt_succ h2).out
end CpD
end Go.Sx
namespace Go.Sx
open Go Go.RowKit Go.Proofs.YtepoohnehmfflaaGreatDoor
variable {P : Program} {G : B5} {Γ : Specs} {σ τ : Type}
def Q1 (ks:aI) (H:aH):aH:=ks.foldl (λH k=>H.set k ⟨[],0,.dead,X⟩) H
def aeU (ks:aI):∀(H:aH),M (Q1 ks H)=M H:=by
 induction ks with
 |nil=>intro H;rfl
 |cons k ks ih=>intro H;simp only [Q1,KL] at ih|-;rw [ih];simp
def RW.kills {w0 w:aP}{Z0:Gz}{Z:aD->Prop}{β:aD->aVs}(ks:aI):∀ {H:aH},RW G w0 Z0 Z β H w->RW G w0 Z0 Z β (Q1 ks H) w:=by
 induction ks with
 |nil=>intro H h;exact h
 |cons k ks ih=>intro H h;simp only [Q1,KL] at ih|-;exact ih<|h.kill k 0
structure D4 (σ τ:Type) where
 A:σ->List LV
 B:σ->List AB
 g:aE->aH->σ
 E:σ->Prop
 kl:aI
 us:List Up
 V:τ->LV
 C:τ->List AB
 r:σ->τ
namespace D4
variable {D : D4 σ τ}
def m (D:D4 σ τ) (args:aE) (H:aH):T (LV×List AB):=(Uz (Q1 D.kl H) args).bind λa=>(cW (Q1 D.kl H)<|Q1 D.kl H).bind λb=>
 .req (D.E (D.g a b)/\D.A (D.g a b)=a/\D.B (D.g a b)=b) (.ok (D.V<|D.r<|D.g a b,D.C<|D.r<|D.g a b))
def iW {args:aE}{H:aH}{q:LV×List AB}(h:(D.m args H).all λz=>z=q):∃s,D.E s/\D.A s=args/\D.B s=Q1 D.kl H/\q=(D.V<|D.r s,D.C<|D.r s):=by
 obtain ⟨a,h1,h2⟩:=T.B4 h;obtain ⟨b,h3,h4⟩:=T.B4 h2
 have e1:=fE h1
 have e2:=fk h3
 obtain ⟨⟨g1,g3,g4⟩,g5⟩:=h4;exact ⟨_,g1,g3.trans e1,g4.trans e2,g5.symm⟩
def sound {LL:DV}{K:aVG}{c:bh}{t:σ->T τ}(hΓ:∀g S,Γ g=ai S->Valid P G g S) (hLL:EZ P G LL) (hK:FR P G K)
  (hnf:∀s,((Em P G Γ LL K).k c (D.A s)<|D.B s).bind (λq=>GP (M<|D.B s) [0] D.us .normal (q.1::D.A s) q.2)=(t s).mp (λs2=>⟨.normal,M (D.A s)+1,[D.V s2],D.C s2,U⟩))
  (ht:∀s,D.E s->SH (λs2=>s2=D.r s) (t s)):Dk P G c D.m:=λw0 Z0 Z β H w args vals lv H' hW hr hok hq=>by
 obtain ⟨s,h1,h2,h3,h4⟩:=iW hq;simp only [Ay] at h4;obtain ⟨rfl,rfl⟩:=h4
 have hall:((t s).mp λs2=>(⟨.normal,M (D.A s)+1,[D.V s2],D.C s2,U⟩:Vw)).all (λz=>z=⟨.normal,M (D.A s)+1,[D.V<|D.r s],D.C<|D.r s,U⟩):=T.XC<|T.BR (λx hx=>by rw [hx]) (ht s h1).out
 rw [<-hnf s] at hall;obtain ⟨⟨lv1,H1⟩,q1,q2⟩:=T.B4 hall;simp only at q2
 have hWk:RW G w0 Z0 Z β (D.B s) w:=by rw [h3];exact hW.kills D.kl
 have hlen:M (D.B s)=M H:=by rw [h3,aeU]
 have hsz:vals.size=M args:=by have:=hr.length;simpa using this
 let a0:bf:={tmps:=vals,defers:=[]}
 have hF0:RF [] β Z w (M<|D.B s) args a0:=by
  refine ⟨hsz,λt x hx=>?_,rfl,λd hd=>Vf⟩
  obtain ⟨y,e1,e2⟩:=RL.get t x hr hx
  have:vals.getD t undef=y:=by
   have e3:t<vals.size:=A8
   have e4:vals[t]? =ai y:=by simpa using e1
   rw [QJ e3] at e4
   simp [Array.getD,e3,EE e4]
  refine ⟨?_,by rw [hlen];exact AT.get t x hok hx⟩
  show R β Z w x (vals.getD t undef)
  rw [this];exact e2
 rw [h2] at q1;refine ((pP hΓ hLL hK).k w0 _ Z β (D.B s) w c args vals lv1 H1 (hWk.hold hF0) hr (by rw [hlen];exact hok) q1).mono λe w' ⟨v,he,Z',β',r1,r2,r3⟩=>⟨v,he,?_⟩
 have hF1:=RW.held hF0 r1
 have hF2:RF [] β' Z' w' (M H1) (lv1::D.A s) {tmps:=#[v]++vals,defers:=[]}:=by
  refine ⟨by simp [h2,hsz];omega,λt x hx=>?_,rfl,λd hd=>Vf⟩
  cases t with
  | zero=>
   simp only [List.getElem?_cons_zero,Ah] at hx;subst hx
   exact ⟨by
    have e:(#[v]++vals).getD 0 undef=v:=aOS
    rw [e];exact r2,r3⟩
  | succ t=>
   rw [h2] at hx
   have:=hF1.get t x hx
   have e:(#[v]++vals).getD (t+1) undef=vals.getD t undef:=by
    have ht:t<vals.size:=A8
    simp [Array.getD,ht,Array.getElem_append,show t+1<1+vals.size by omega]
   grind
 have hgh:AN (M<|D.B s) Z0:=λp hp=>by rw [hlen];exact (hW.gh p hp).2
 obtain ⟨_,_,Z2,β2,k1,k2⟩:=dZ hgh r1.less hF2 q2 rfl;refine ⟨Z2,β2,k1,?_⟩
 have hx:(I0 (M (lv1::D.A s)) [0] [D.V<|D.r s])[0]? =ai (D.V<|D.r s):=by
  simp [I0,Qn,at_]
 have:=k2.get 0 _ hx
 have e:(#[v]++vals).getD 0 undef=v:=aOS
 refine ⟨?_,this.2⟩
 have h5:=this.1
 rwa [e] at h5
end D4
def EP (n m:aD):aI:=(av n).map (·+m)++av m
def axE {n m i:aD}(h:i<n):(EP n m)[i]? =ai (i+m):=by
 unfold EP;rw [Hl A8]
 simp [h]
def axF {n m i:aD}(h:i<m):(EP n m)[n+i]? =ai i:=by
 unfold EP
 simp [h]
def aIa {n m:aD}:M (EP n m)=n+m:=by simp [EP]
def fz {n m k:aD}:k∈EP n m↔k<n+m:=by
 unfold EP;simp only [BZ,F4,Iu];refine ⟨λh=>?_,λh=>?_⟩
 ·omega
 ·by_cases h1:k<m
  ·grind
  ·exact .inl ⟨k-m,A0,A0⟩
def aFO:∀ {ks:aI},ks.Nodup->nodupB ks=U
 | [],_=>rfl
 |k::ks,h=>by
  obtain ⟨h1,h2⟩:=MJ.1 h;simp only [nodupB,AV,D6];exact ⟨A8,aFO h2⟩
def afp {n m:aD}:nodupB (EP n m)=true:=by
 apply aFO
 unfold EP;rw [xi];refine ⟨?_,mv,λx hx y hy e=>?_⟩
 ·exact xk _ (λa b (h:a≠b) e=>h A8)<|mv (n:=n)
 ·obtain ⟨j,_,rfl⟩:=F4.1 hx
  have:=Iu.1 hy
  omega
def RW.join {w0 w w':aP}{Z0:Gz}{Z Z':aD->Prop}{β β':aD->aVs}{H Hn:aH}(hW:RW G w0 Z0 Z β H w) (hS:RW G w ⟨Z,[],[]⟩ Z' β' Hn w'):
  ∃β2,(∀k,k<M H->β2 k=β k)/\(∃β1,(∀k,k<M Hn->β1 k=β' k)/\Rn (EP (M H)<|M Hn) β1 β2)/\RW G w0 Z0 (λb=>Z b\/Z' b) β2 (H++Hn.map (Ik<|EP (M H)<|M Hn)) w':=by
 generalize hn:M H=n;generalize hm:M Hn=m
 let β1:aD->aVs:=λk=>if k<m then β' k else β (k-m)
 have hb1:∀k,k<m->β1 k=β' k:=λk hk=>by simp only [β1];rw [AD hk]
 have hb1':∀k,β1 (k+m)=β k:=λk=>A8
 have hD:RW G w ⟨Z,[],[]⟩ Z' β1 (Hn++au n GL) w':=hS.abq λk hk=>hb1 k<|hm▸hk
 have hget:∀k,k<m->(Hn++au n GL)[k]? =Hn[k]? :=λk hk=>Hl<|hm▸hk
 have hgetd:∀k,m<=k->k<n+m->(Hn++au n GL)[k]? =ai GL:=λk h1 h2=>by
  grind
 have hcl:Kd (Hn++au n GL) (EP n m) []=true:=by
  unfold Kd;simp only [AV,BH];refine ⟨λx hx=>by simp [ownsL] at hx,λk hk=>?_⟩
  have hk:=fz.1 hk
  by_cases h1:k<m
  ·rw [hget k h1]
   obtain ⟨b,hb⟩:∃b,Hn[k]? =ai b:=⟨_,Dg<|hm▸h1⟩;rw [hb];simp only [BH];intro j hj
   have:=aGd (hS.blk k b hb).2 j hj
   rw [Zp,fz];omega
  ·rw [hgetd k A0 hk]
   simp [GL,AB.owns,ownsL]
 obtain ⟨β2,r1,r2⟩:=hD.ren (N:=0) (Z0:=⟨Z,[],[]⟩) (λp hp=>oC) hcl afp LY
 have hag:∀k,k<n->β2 k=β k:=λk hk=>by rw [r1 k (k+m)<|axE hk,hb1']
 have hnew:∀i,i<m->((EP n m).map λk=>Ik (EP n m)<|(Hn++au n GL).getD k Ug)[n+i]? =(Hn[i]?).map (Ik<|EP n m):=λi hi=>by
  rw [Dh,axF hi];simp only [Jn,DK,hget i hi];rw [Dg<|hm▸hi]
  simp
 refine ⟨β2,hag,⟨β1,hb1,r1⟩,?_⟩
 have hbw:Below w.heap.size w w':=hS.below
 have old:∀i b,(H++Hn.map (Ik<|EP n m))[i]? =ai b->(i<n/\H[i]? =ai b/\β2 i=β i)\/(n<=i/\((EP n m).map λk=>Ik (EP n m)<|(Hn++au n GL).getD k Ug)[i]? =ai b):=λi b h=>by
  by_cases hi:i<n
  ·rw [Hl<|hn▸hi] at h
   exact .inl ⟨hi,h,hag i hi⟩
  ·have hlt:=(EF.1 h).1
   simp only [B8,GH,hn,hm] at hlt;rw [Gc A0,Dh,hn] at h;refine .inr ⟨A0,?_⟩
   have:=hnew (i-n) A0
   rw [show n+(i-n)=i by omega] at this
   rw [this];exact h
 have hlive:∀i b,i<n->β2 i=β i->(live β2 i b↔live β i b):=λi b _ e=>by unfold live;rw [e]
 have hlen:M (H++Hn.map (Ik<|EP n m))=n+m:=by simp [hn,hm]
 have hlen2:M ((EP n m).map λk=>Ik (EP n m)<|(Hn++au n GL).getD k Ug)=n+m:=by simp [aIa]
 refine ⟨⟨hbw.os.trans hW.below.os,hbw.tape.trans hW.below.tape,hbw.output.trans hW.below.output,Hq hW.below.size hbw.size,λk hk=>?_⟩,λb hz=>?_,λb hz=>?_,λi b hb hl hp=>?_,λi b hb hl hp=>?_,λi b hb hl=>?_,λi j bi bj hi hj li lj pi e=>?_,λi b hb=>?_,?_,λp hp=>?_,λD hD=>?_⟩
 ·rw [hbw.block k<|Zj hk hW.below.size];exact hW.below.block k hk
 ·rcases hz with h|h
  ·exact Zj (hW.Bc b h) hbw.size
  ·exact hS.Bc b h
 ·rcases hz with h|h
  ·exact hW.Ep b h
  ·rcases hS.Ep b h with h|h
   ·exact hW.Ep b h
   ·exact .inr<|Hq hW.below.size h
 ·rcases old i b hb with ⟨h1,h2,h3⟩ |⟨h1,h2⟩
  ·have hl':=(hlive i b h1 h3).1 hl
   rw [h3];intro hz;rcases hz with h|h
   ·exact hW.Cp i b h2 hl' hp h
   ·rcases hS.Ep _ h with h|h
    ·exact hW.Cp i b h2 hl' hp h
    ·have:=hW.lt h2 hl'
     omega
  ·intro hz
   rcases hz with h|h
   ·have h4:=r2.low i b h2 hl
    have:=hW.Bc _ h
    omega
   ·exact r2.Cp i b h2 hl hp h
 ·rcases old i b hb with ⟨h1,h2,h3⟩ |⟨h1,h2⟩
  ·rw [h3];exact .inl<|hW.GR i b h2 ((hlive i b h1 h3).1 hl) hp
  ·exact .inr<|r2.GR i b h2 hl hp
 ·rcases old i b hb with ⟨h1,h2,h3⟩ |⟨h1,h2⟩
  ·rw [h3];exact hW.low i b h2<|(hlive i b h1 h3).1 hl
  ·exact Hq hW.below.size<|r2.low i b h2 hl
 ·rcases old i bi hi with ⟨h1,h2,h3⟩ |⟨h1,h2⟩<;>rcases old j bj hj with ⟨g1,g2,g3⟩ |⟨g1,g2⟩
  ·rw [h3,g3] at e
   exact hW.inj i j bi bj h2 g2 ((hlive i bi h1 h3).1 li) ((hlive j bj g1 g3).1 lj) pi e
  ·rw [h3] at e
   have:=hW.lt h2<|(hlive i bi h1 h3).1 li
   have:=r2.low j bj g2 lj
   omega
  ·rw [g3] at e
   have:=hW.lt g2<|(hlive j bj g1 g3).1 lj
   have:=r2.low i bi h2 li
   omega
  ·exact r2.inj i j bi bj h2 g2 li lj pi e
 ·rcases old i b hb with ⟨h1,h2,h3⟩ |⟨h1,h2⟩
  ·obtain ⟨q1,q2⟩:=hW.blk i b h2
   refine ⟨Bb.keep (n:=M H) (λk hk=>hag k<|hn▸hk) (λ_ h=> .inl h) (λb hz=>hbw.block b<|hW.Bc b hz) h3 (λhl=>hbw.block _<|hW.lt h2 hl) q2 q1,?_⟩
   rw [hlen]
   exact ⟨AT.mono A0 _ q2.1,by
    have:=q2.2
    cases hk:b.k with
    |mp kd ks vs=>rw [hk] at this;exact AT.mono A0 _ this
    |_=>trivial⟩
  ·obtain ⟨q1,q2⟩:=r2.blk i b h2
   refine ⟨Bb.keep (n:=n+m) (λ_ _=>rfl) (λ_ h=> .inr h) (λ_ _=>rfl) rfl (λ_=>rfl) (by rw [hlen2] at q2;exact q2) q1,?_⟩
   rw [hlen];rw [hlen2] at q2;exact q2
 ·exact hW.Ci.mono (λ_ h=> .inl h) λb hz=>hbw.block b<|hW.Bc b hz
 ·obtain ⟨q1,q2⟩:=hW.gh p hp
  exact ⟨R.mono (n:=M H) (λk hk=>hag k<|hn▸hk) (λ_ h=> .inl h) (λb hz=>hbw.block b<|hW.Bc b hz) _ _ q2 q1,okV.mono (by rw [hlen];omega) _ q2⟩
 ·obtain ⟨q1,q2⟩:=hW.Cr D hD
  exact ⟨.inl q1,by unfold Fv at*;rw [hbw.block D<|hW.Bc D q1];exact q2⟩
def Qy (S:aE->T (LV×List AB)) (args:aE) (H:aH):T (LV×List AB):=
 if noOwnL args then (S args).bind λq=> .ok (renV (EP (M H)<|M q.2) q.1,H++q.2.map (Ik<|EP (M H)<|M q.2)) else .no
def aHD {g:bh}{m:aE->aH->T (LV×List AB)}(h:Dk P G g m):Dk P G g (Qy λargs=>m args []):=λw0 Z0 Z β H w args vals lv H' hW hr hok hq=>by
 unfold Qy at hq;split at hq
 ·rename_i hno
  obtain ⟨⟨lv1,Hn⟩,h1,h2⟩:=T.B4 hq;obtain ⟨rfl,rfl⟩:=h2
  have hok0:=noOwnL_ok args hno hok
  have hW1:RW G w ⟨Z,[],[]⟩ Z β [] w:=⟨Below.refl _ _,hW.Bc,λb hz=> .inl hz,λk b hb=>A8,λk b hb=>A8,λk b hb=>A8,λi j bi bj hb=>AI,λk b hb=>A8,hW.Ci,λp hp=>oC,λD hD=>(by cases hD)⟩
  refine (h w ⟨Z,[],[]⟩ Z β [] w args vals lv1 Hn hW1 hr hok0 h1).mono λe w' ⟨v,he,Z',β',r1,r2,r3⟩=>⟨v,he,?_⟩
  obtain ⟨β2,a1,⟨β1,a2,a3⟩,a4⟩:=hW.join r1;refine ⟨_,β2,a4,?_,?_⟩
  ·have q:=R.mono (n:=M Hn) (Z':=λb=>Z b\/Z' b) (w':=w') a2 (λ_ h=> .inr h) (λ_ _=>rfl) _ _ r3 r2
   exact ren_R a3 _ _ (λk hk=>fz.2 aOr) r3 q
  ·have:=ren_ok (ks:=EP (M H)<|M Hn) _ (λk hk=>fz.2 aOr) r3
   rw [aIa] at this
   grind
 ·cases hq
end Go.Sx
namespace Go.Proofs.YtepoohnehmfflaaGreatDoor
set_option maxRecDepth 100000
set_option maxHeartbeats 4000000
open Go.Proofs.Tryz
open Go.Sx
def Uo:aD->Int
 |0=>1
 |1=>1
 |2=>1
 |3=>0
 |4=>2
 |5=>2
 |_=>3
def Wp (j:aD):Y:=[-1,-1,-1,-1,-1,-1,1,-1,-1,-1,-1,-1,-1,0,-1,-1,-1,-3,-1,2,-1,-1,-1,-1,-1,-1,-3,-1,-1,-1,-1,-1,-1,4,-1,-1,-1,-1,-1,-1,-3,-1,-2,-2,-2,-2,-2,-2,-2,-2,-2,-2,-2,-2,0,1,1,1,1,-3].getD j 0
def aD8:aD->Int
 |0=>4
 |1=>1
 |2=>1
 |3=>4
 |_=>2
def AU:B5:=fun
 |2=>ai (8,λj=> ah J<|Uo j)
 |0=>ai (60,λj=> ah J<|Wp j)
 |1=>ai (5,λj=> ah J<|aD8 j)
 |_=>ak
structure Bd where
  f:bh
  S:aE->T LV
  v:Valid prog AU f S
def aO:qT (List Bd):=⟨⟩
def gm:aO->Specs
  | [],_=>ak
  |b::l,g=>if g=b.f then ai b.S else gm l g
def gk:∀(l:aO) g S,gm l g=ai S->Valid prog AU g S
  | [],_,_,h=>As
  | b::l,g,S,h=>by
    simp only [gm] at h;split at h
    · rename_i hg;simp only [Ah] at h;subst h hg;exact b.v
    · exact gk l g S h
structure LBx where
  L:DV
  h:EZ prog AU L
structure Az where
  K:aVG
  h:FR prog AU K
structure Db where
  g:bh
  m:aE->aH->T (LV×List AB)
  c:Dk prog AU g m
instance {f:bh} {S:aE->T LV}:CoeOut (Valid prog AU f S) Bd:=⟨λv=>⟨f,S,v⟩⟩
instance:Coe (List Bd) Specs:=⟨gm⟩
instance:Coe Az Hand:=⟨Az.K⟩
def kN:Az:=⟨EN,Qa⟩
def l0 (l:aO):LBx:=⟨EM prog AU (gm l) 20 2,Hz<|gk l⟩
def la (id:aD) {g:bh}{N:aD}{t:aE->aH->T (Ex×List LV×List AB)}{fn:aVw}{bd:bC}(hfn:prog.funcs[g]? =ai fn) (ht:Gp prog AU (AN N) (.loop bd) t) (h:LBx) (hc:fn.body=ai (fn.body.getD .skip):=by kernel_rfl) (hid:(BD<|fn.body.getD .skip).filter (λb=>Gs b==id)=[bd]:=by kernel_rfl):LBx:=⟨CR g N id t h.L,DL hfn hc hid ht h.h⟩
def kI (l:aO) (h:LBx):Az:=⟨inl prog AU (gm l) h.L 9,aE8 (gk l) h.h 9⟩
def dm:List Db->Does
  | [],_=>ak
  |p::ps,g=>if g=p.g then ai p.m else dm ps g
def dk:∀(l:List Db) g m,dm l g=ai m->Dk prog AU g m
  | [],_,_,e=>Og
  | p::ps,g,m,e=>by
    simp only [dm] at e;split at e
    · rename_i hg;simp only [Ah] at e;subst e hg;exact p.c
    · exact dk ps g m e
def IL (l:aO) (h:LBx) (C:List Db):Az:=⟨Ux prog AU (gm l) h.L (dm C) 9,aDl (gk l) h.h (dk C) 9⟩
abbrev VV (f:bh) (S:aE->T LV):=Valid prog AU f S
abbrev SA {σ:Type}(N:aD) (b:bC) (D:AS σ):=Gp prog AU (AN N) (.loop b) D.lp
abbrev uS (fn:aVw) (S:aE->T LV):=upS prog fn.params.toList S
abbrev lN (c:bC) (k:aD):bC:=((BD c)[k]?).getD .skip
abbrev bN (fn:aVw) (k:aD):bC:=lN (fn.body.getD .skip) k
def vo {f:bh}{fn:aVw}{S:aE->T LV}(hfn:prog.funcs[f]? =ai fn) (l:aO) (h:Az) (hS:∀args lv,(S args).all (λx=>x=lv)->SH (λx=>x=lv) (Bu prog AU (gm l) h.K Ap fn<|canL args)) (hc:fn.body=ai (fn.body.getD .skip):=by kernel_rfl) (e:BD (fn.body.getD .skip)=[]:=by kernel_rfl):Valid prog AU f (upS prog fn.params.toList S):=po hfn hc (gk l) h.h (qn e) λa v q=>(hS a v q).out
def vl {f:bh}{fn:aVw}{S:aE->T LV}{t:aE->aH->T (Ex×List LV×List AB)}{bd:bC}(hfn:prog.funcs[f]? =ai fn) (l:aO) (h:Az) (k:aD) (sn:Sound prog AU (.loop bd) t) (hS:∀args lv,(S args).all (λx=>x=lv)->SH (λx=>x=lv) (Bu prog AU (gm l) h.K (λi=>if i=k then t else Ap i) fn<|canL args)) (hc:fn.body=ai (fn.body.getD .skip):=by kernel_rfl) (e:BD (fn.body.getD .skip)=[bd]:=by kernel_rfl) (hk:Gs bd=k:=by kernel_rfl):Valid prog AU f (upS prog fn.params.toList S):=po hfn hc (gk l) h.h (L:=λi=>if i=k then t else Ap i) (λb hb=>by
  rw [e,HJ] at hb;subst hb
  show Sound _ _ _ (if Gs b=k then t else Ap (Gs b))
  rw [AD hk];exact sn) λa v q=>(hS a v q).out
def vm {f:bh}{fn:aVw}{S:aE->T LV}{L:Lr}(hfn:prog.funcs[f]? =ai fn) (l:aO) (h:Az) (hL:∀b∈BD (fn.body.getD .skip),Sound prog AU (.loop b)<|L<|Gs b) (hS:∀args lv,(S args).all (λx=>x=lv)->SH (λx=>x=lv) (Bu prog AU (gm l) h.K L fn<|canL args)) (hc:fn.body=ai (fn.body.getD .skip):=by kernel_rfl):Valid prog AU f (upS prog fn.params.toList S):=po hfn hc (gk l) h.h hL λa v q=>(hS a v q).out
def Au {t:T LV}(t':T LV) {K:LV->Prop}(h':t'.all K) (h:t=t':=by kernel_rfl):SH K t:=⟨aFq h h'⟩
def Da {σ:Type}(I:σ->Prop) (mu:σ->aD) (Q:Ex->σ->σ->Prop) (t:σ->T (Rd σ)):Prop:=∀s,I s->DH (λs'=>I s'/\mu s'<mu s) (λx s'=>Q x s s') ((t s).rd s)
def Rq {σ:Type}(I:σ->Prop) (t:σ->T (Rd σ)):Prop:=∀s,I s->(t s).all (λ_=>True)
def Fi {σ:Type}(E I:σ->Prop) (Q:Ex->σ->σ->Prop) (x:σ->Ex) (r:σ->σ):Prop:=∀s,E s->∃s',I s'/\Q (x s) s' (r s)
def Rs {σ Y:Type}(E:σ->Prop) (x:σ->Ex) (r:σ->σ) (V:σ->Y) (K:Ex->σ->Y->Prop):Prop:=∀s,E s->K (x s) (r s) (V s)
variable {σ : Type} {D : AS σ} {Q : Ex -> σ -> σ -> Prop} {b : Code}
def DY (o:D.Ok) (p:D.Pf Q) {Y:Type}{V:σ->Y}{K:Ex->σ->Y->Prop}(hv:∀s,D.I s->DH (λs'=>V s'=V s) (λx s'=>K x s'<|V s) (D.f s)):Rs D.E D.Av D.run V K:=λs hE=>AS.x7 o p V K hv s hE
def s1 (o:D.Ok) (p:D.Pf Q) (l:aO) (h:Az) (e:BD b=[]:=by kernel_rfl) (hn:∀s,jk D.N D.lv D.us (DN prog AU (gm l) h.K (M0 Ap) b (I0 D.n D.lv<|D.A<|D.rd s)<|D.B<|D.rd s)=(D.t<|D.rd s).mp (rdV D.n D.A D.B):=by intro s;kernel_rfl):Gp prog AU (AN D.N) (.loop b) D.lp:=AS.snd o p (Gj (gk l) h.h b (λb hb=>by rw [e] at hb;cases hb)) hn
def s2 (o:D.Ok) (p:D.Pf Q) (l:aO) (h:Az) (hn:∀s,jk D.N D.lv D.us (DN prog AU (gm l) h.K (Fx prog AU (gm l) h.K 20 2) b (I0 D.n D.lv<|D.A<|D.rd s)<|D.B<|D.rd s)=(D.t<|D.rd s).mp (rdV D.n D.A D.B):=by intro s;kernel_rfl):Gp prog AU (AN D.N) (.loop b) D.lp:=AS.snd o p (Gj (gk l) h.h b λb _=>Oq (gk l) h.h 20 2 b) hn
end Go.Proofs.YtepoohnehmfflaaGreatDoor
namespace Go.Proofs.YtepoohnehmfflaaGreatDoor
set_option maxRecDepth 100000
set_option maxHeartbeats 4000000
open Go.Proofs.Tryz
open Go.Sx
abbrev B7:Ty:=.pair A7<|.pair A7<|.pair A7 .bool
abbrev St:=Int×Int×Int×Bool
def bg:qT (List St):=⟨⟩
instance:Coe (List St) LV:=⟨.xl B7⟩
def BL (l:bg) (n:Y):St:=l.getD n.toNat (0,0,0,X)
def sV (c:Ch) (s:St):aN:=Ir c.2.2.1 c.2.2.2.1 c.2.2.2.2.1 c.2.2.2.2.2.1 c.2.2.2.2.2.2.1&&(inB s.1 0 5&&(inB s.2.2.1 0 1000000&&(inB s.2.1 0 c.2.2.2.2.1&&((s.2.2.1 !=0 ||s.2.1==0)&&(!s.2.2.2 ||s.1==5)))))
def Ma {c:Ch}{s:St}:sV c s=U↔Ir c.2.2.1 c.2.2.2.1 c.2.2.2.2.1 c.2.2.2.2.2.1 c.2.2.2.2.2.2.1=U/\0<=s.1/\s.1<=5/\0<=s.2.2.1/\s.2.2.1<=1000000/\0<=s.2.1/\s.2.1<=c.2.2.2.2.1/\(s.2.2.1=0->s.2.1=0)/\(s.2.2.2=U->s.1=5):=by
 obtain ⟨p,a,l,w⟩:=s;unfold sV;cases w<;>simp [BO]<;>omega
def evV (mx k n m:Y):aN:=if k=4 then inB n 0 1 else if k=6 then inB n 0 2 else if k=7 then inB m 1 1000000&&inB n 0 mx else U
def II (p:Y) (w:aN) (k n:Y):Y:=
 if k=1 then (if p=0 then 1 else -1)
 else if k=2 then (if p=5/\w=U then 5 else if p=1\/p=5 then 0 else -1)
 else if k=3 then (if p=1 then 2 else -1)
 else if k=4 then (if p=2 then (if n=1 then 3 else 5) else -1)
 else if k=5 then (if p=3 then 4 else -1)
 else if k=6 then (if p=4 then (if n=0 then 1 else 5) else -1)
 else if k=9 then (if p=0\/w=U then p else 1)
 else p
def tkF (l:Y):Y:=if 0<l-1 then l-1 else 0
def sL (l k m:Y):Y:=if k=7 then m else if k=8 then tkF l else if k=9 then 0 else l
def sA (a l k n:Y):Y:=if k=7 then n else if k=8 then (if tkF l=0 then 0 else a) else if k=9 then 0 else a
def sW (w:aN) (k n:Y):aN:=w ||(k==6&&n==1)
def sE (c:Ch) (s:St) (k n m:Y):Y:=
 if sV c s=U then (if inB k 1 9=U then (if evV c.2.2.2.2.1 k n m=U then (if II s.1 s.2.2.2 k n<0 then 6 else 0) else 1) else 9) else 1
def sN (c:Ch) (s:St) (k n m:Y):St:=if sE c s k n m=0 then (II s.1 s.2.2.2 k n,sA s.2.1 s.2.2.1 k n,sL s.2.2.1 k m,sW s.2.2.2 k n) else (0,0,0,X)
def Bj (c:Ch) (s:St):Y:=if sV c s=U then (if s.2.2.2=U then c.2.2.2.2.1 else if s.1≠4 then 0 else if s.2.2.1≠0 then s.2.1 else c.2.2.2.2.2.2.1) else 0
def EC (c:Ch) (s:St) (k n m:Y):St:=if sE c s k n m=0 then sN c s k n m else s
def pE (k p:Y):Y:=
 if k=1 then (if p=0 then 1 else -1)
 else if k=2 then (if p=1 then 0 else if p=5 then -3 else -1)
 else if k=3 then (if p=1 then 2 else -1)
 else if k=4 then (if p=2 then -3 else -1)
 else if k=5 then (if p=3 then 4 else -1)
 else if k=6 then (if p=4 then -3 else -1)
 else if k=7 then -2
 else if k=8 then -2
 else if p=0 then 0 else if p=5 then -3 else 1
def aj9 {k p:Y}(h1:1<=k) (h2:k<=9) (h3:0<=p) (h4:p<=5):Wp (k.toNat*6+(p.toNat*1+0))=pE k p:=by
 have key:∀e:Fin 10,∀s:Fin 6,1<=e.val->Wp (e.val*6+(s.val*1+0))=pE (e.val:Y) (s.val:Y):=Ac
 have:=key ⟨k.toNat,A0⟩ ⟨p.toNat,A0⟩ A8
 grind
def dcP (p:Y) (w:aN) (k n:Y):Y:=if k=4 then (if n=1 then 3 else 5) else if k=6 then (if n=0 then 1 else 5) else if k=2 then (if w=U then p else 0) else if k=9 then (if w=U then p else 1) else p
def dcW (w:aN) (k n:Y):aN:=if k=6 then n==1 else w
def nine {k:Y}(h1:1<=k) (h2:k<=9):k=1\/k=2\/k=3\/k=4\/k=5\/k=6\/k=7\/k=8\/k=9:=A0
def aoH {p:Y}(h1:0<=p) (h2:p<=5):p=0\/p=1\/p=2\/p=3\/p=4\/p=5:=A0
def auB {mx k n m:Y}(h:evV mx k n m=U):(k=4->0<=n/\n<=1)/\(k=6->0<=n/\n<=2)/\(k=7->1<=m/\m<=1000000/\0<=n/\n<=mx):=by
 unfold evV at h;refine ⟨λe=>?_,λe=>?_,λe=>?_⟩
 ·subst e;simpa [BO] using h
 ·subst e;simpa [BO] using h
 ·subst e;simp [BO] at h;omega
def al8 {c:Ch}{s:St}{k n m:Y}(h:sE c s k n m=0):sV c s=U/\1<=k/\k<=9/\evV c.2.2.2.2.1 k n m=U/\0<=II s.1 s.2.2.2 k n:=by
 unfold sE at h
 repeat' split at h
 all_goals first|(exfalso;omega) |skip
 rename_i h1 h2 h3 h4
 have h2:=BO.1 h2
 grind
def al7 {c:Ch}{s:St}{k n m:Y}(h:sE c s k n m=0):sV c (sN c s k n m)=true:=by
 obtain ⟨h1,h2,h3,h4,h5⟩:=al8 h
 have he:=auB h4
 obtain ⟨p,a,l,w⟩:=s
 have h1:=Ma.1 h1
 rw [Ma];unfold sN;rw [AD h];obtain ⟨g1,g2,g3,g4,g5,g6,g7,g8,g9⟩:=h1
 have gc:=Wg.1 g1
 simp only at*
 have hp:II p w k n<=5:=by
  unfold II
  repeat' split
  all_goals omega
 have ht:0<=tkF l/\tkF l<=l:=by unfold tkF;split<;>omega
 have hL:0<=sL l k m/\sL l k m<=1000000:=by
  unfold sL
  repeat' split
  all_goals omega
 have hA:0<=sA a l k n/\sA a l k n<=c.2.2.2.2.1:=by
  unfold sA
  repeat' split
  all_goals omega
 refine ⟨g1,h5,hp,hL.1,hL.2,hA.1,hA.2,λhl=>?_,λhw=>?_⟩
 ·unfold sL at hl
  unfold sA
  repeat' split
  all_goals repeat' split at hl
  all_goals omega
 ·unfold sW at hw
  simp only [Cc,AV,Cy] at hw;rcases hw with hw|⟨e1,e2⟩
  ·have hs:=g9 hw
   subst hs;unfold II at h5|-;simp only [hw] at h5|-;rcases nine h2 h3 with rfl|rfl|rfl|rfl|rfl|rfl|rfl|rfl|rfl<;>simp at h5|-
  ·subst e1 e2
   unfold II at h5|-
   simp at h5|-
   split at h5
   ·rename_i h4;simp [h4]
   ·omega
def w8 {c:Ch}{s:St}{k n m:Y}(h:sV c s=U):sV c (EC c s k n m)=true:=by
 unfold EC;split
 ·rename_i h1;exact al7 h1
 ·exact h
abbrev Ca:=Int×Int×Int×Int×Int
def aVx:qT (List Ca):=⟨⟩
def Be (l:aVx) (n:Y):Ca:=l.getD n.toNat (0,0,0,0,0)
abbrev BC:Ty:=.pair (.sl A7)<|.pair A7 A7
abbrev Mi:=List Int×Int×Int
def aVC:qT (List Mi):=⟨⟩
instance:Coe (List Mi) LV:=⟨.xl BC⟩
def CE (l:aVC) (n:Y):Mi:=l.getD n.toNat ([],0,0)
abbrev BU:Ty:=.pair A7<|.pair A7 .bool
abbrev Me:=Int×Int×Bool
def aVK:qT (List Me):=⟨⟩
instance:Coe (List Me) LV:=⟨.xl BU⟩
def Ga (l:aVK) (n:Y):Me:=l.getD n.toNat (0,0,X)
def GF (c:Ca):aN:=inB c.1 0 4&&(inB c.2.1 1 7&&(inB c.2.2.1 1 80&&(inB c.2.2.2.1 0 1000000000&&(inB c.2.2.2.2 0 20&&(c.1 !=3 ||aq (c.2.2.2.2>=1))))))
def WU {c:Ca}:GF c=U↔0<=c.1/\c.1<=4/\1<=c.2.1/\c.2.1<=7/\1<=c.2.2.1/\c.2.2.1<=80/\0<=c.2.2.2.1/\c.2.2.2.1<=1000000000/\0<=c.2.2.2.2/\c.2.2.2.2<=20/\(c.1=3->1<=c.2.2.2.2):=by
 simp [GF,inB];omega
def IJ (m:Mi):aN:=aq (M m.1<=21)&&(inB m.2.1 0 1000000&&(inB m.2.2 0 2000000000&&m.1.all (λp=>inB p 0 80)))
def eZ {m:Mi}:IJ m=U↔M m.1<=21/\0<=m.2.1/\m.2.1<=1000000/\0<=m.2.2/\m.2.2<=2000000000/\∀p∈m.1,0<=p/\p<=80:=by
 simp [IJ,BO,and_assoc]
def cnt (n:Y):Y:=n%2+n / 2%2+n / 4%2
def aok {n:Y}:0<=cnt n/\cnt n<=3:=by unfold cnt;omega
def eight {n:Y}(h1:0<=n) (h2:n<=7):n=0\/n=1\/n=2\/n=3\/n=4\/n=5\/n=6\/n=7:=A0
def land (a b:Y):Y:=Bm J a b
def L3 (k ph p:Y):Y:=if k=2 then land (land ph p) (-land ph p) else land ph p
def aEy {a b:Y}(ha:0<=a/\a<=7) (hb:0<=b/\b<=7):0<=land a b/\land a b<=7/\0<=land (land a b) (-land a b)/\land (land a b) (-land a b)<=7/\(land a b≠0->land (land a b) (-land a b)≠0):=by
 have key:∀x y:Fin 8,0<=land x.val y.val/\land x.val y.val<=7/\0<=land (land x.val y.val) (-land x.val y.val)/\land (land x.val y.val) (-land x.val y.val)<=7/\(land x.val y.val≠0->land (land x.val y.val) (-land x.val y.val)≠0):=Ac
 have:=key ⟨a.toNat,A0⟩ ⟨b.toNat,A0⟩
 simp only [CS ha.1,CS hb.1] at this;exact this
def cd (dl:Y) (pil:aC):Y:=if (M pil:Y)-dl>=0 then pil.getD ((M pil:Y)-dl).toNat 0 else 0
def Gy (c:Ca) (m:Mi) (al:Y):Y:=
 if c.1=1 then (if c.2.2.2.2=0 then al else min al (cd c.2.2.2.2 m.1))
 else if c.1=3 then (if (m.2.1.tdiv c.2.2.2.2).tmod 2=1 then 0 else al)
 else if c.1=4 then (if al=0 then 0 else c.2.2.1) else al
def Et (c:Ca) (m:Mi) (p al:Y):Y:=if L3 c.1 c.2.1 p=0\/m.2.2>=c.2.2.2.1 then 0 else min c.2.2.1 (Gy c m al)
def HV (c:Ca) (m:Mi) (p al:Y):Y:=if Et c m p al=0 then 0 else L3 c.1 c.2.1 p
def dwP (pil:aC) (al:Y):aC:=(pil++[al]).drop<|M pil-20
def dwG (c:Ca) (m:Mi) (p al:Y):Y:=m.2.2+2300*Et c m p al*cnt (HV c m p al)
def dwB (c:Ca) (m:Mi) (p al:Y):aN:=GF c&&(IJ m&&(inB p 1 7&&(inB al 0 80&&m.2.1 !=1000000)))
def fQ {c:Ca}{m:Mi}{p al:Y}:dwB c m p al=U↔GF c=U/\IJ m=U/\1<=p/\p<=7/\0<=al/\al<=80/\m.2.1≠1000000:=by
 simp [dwB,BO,and_assoc]
def aDo {k ph p:Y}(h1:1<=ph/\ph<=7) (h2:1<=p/\p<=7):0<=L3 k ph p/\L3 k ph p<=7:=by
 obtain ⟨a1,a2,a3,a4,_⟩:=aEy (a:=ph) (b:=p) ⟨A0,A0⟩ ⟨A0,A0⟩;unfold L3;exact bL
def afZ {dl:Y}{pil:aC}(h:∀p∈pil,0<=p/\p<=80):0<=cd dl pil:=by
 unfold cd;split
 ·rw [DK]
  cases hg:pil[((M pil:Y)-dl).toNat]? with
  |none=>simp
  |some x=>simp;exact (h x<|OV hg).1
 ·omega
def aer {c:Ca}{m:Mi}{al:Y}(hc:GF c=U) (hm:IJ m=U) (ha:0<=al):0<=Gy c m al:=by
 have hc:=WU.1 hc
 have hm:=eZ.1 hm
 have:=afZ (dl:=c.2.2.2.2) hm.2.2.2.2.2
 unfold Gy
 repeat' split
 all_goals omega
def aFh {c:Ca}{m:Mi}{p al:Y}(hc:GF c=U) (hm:IJ m=U) (hp:1<=p/\p<=7) (ha:0<=al/\al<=80):
  0<=Et c m p al/\Et c m p al<=c.2.2.1/\0<=HV c m p al/\HV c m p al<=7:=by
 have hw:=aer hc hm ha.1
 have hc:=WU.1 hc
 have hs:=aDo (k:=c.1) (ph:=c.2.1) (p:=p) ⟨A0,A0⟩ hp
 have h1:0<=Et c m p al/\Et c m p al<=c.2.2.1:=by unfold Et;split<;>omega
 refine ⟨h1.1,h1.2,?_⟩;unfold HV;omega
def Fc (c:Ca) (m:Mi) (p al:Y):Y:=if dwB c m p al=U then Et c m p al else 0
def Ee (c:Ca) (m:Mi) (p al:Y):Y:=if dwB c m p al=U then HV c m p al else 0
def Jl (c:Ca) (m:Mi) (p al:Y):Mi:=if dwB c m p al=U then (dwP m.1 al,m.2.1+1,dwG c m p al) else ([],0,0)
def Jb (c:Ca) (m:Mi) (p al:Y):Y:=if dwB c m p al=U then 0 else 1
def meV (m:Me):aN:=inB m.1 0 1000000&&(aq (m.2.1>=-1000000000000000)&&aq (m.2.1<=1000000000000000))
def mcR (m:Me) (a p:Y):Y:=if m.2.2=U then m.2.1-2300*a*p else m.2.1+2300*a*p
def mcB (m:Me) (a p:Y):aN:=meV m&&(inB a 0 80&&inB p 0 3)
def G8 (m:Me) (a p:Y):Y:=if mcB m a p=U then (if meV (m.1,mcR m a p,m.2.2)=U then 0 else 3) else 1
def He (m:Me) (a p:Y):Me:=if G8 m a p=0 then (m.1,mcR m a p,m.2.2) else (0,0,X)
def Bg (t d:Y):Y:=if (inB t 0 1000000&&inB d (-200) 200)=U then t*(1000000+d) / 1000000 else 0
def H8 (t d:Y):Y:=if (inB t 0 1000000&&inB d (-200) 200)=U then 0 else 1
def aUS {l:aC}{f:Y->aN}:l.all f=DQ (M l) (λj=>f<|gi l j):=by
 rw [Iw,BH,Dq];refine ⟨λh j hj=>h _<|Ki A0 hj,λh x hx=>?_⟩
 obtain ⟨k,hk,rfl⟩:=Hr.1 hx
 have:=h k A0
 rwa [Ig A8] at this
section
variable {lt : Int -> Int -> Bool}
def LC (lt:Y->Y->aN):aC->Y->List Int
 | [],x=>[x]
 |y::q,x=>if lt x y=U then y::LC lt q x else x::y::q
def qB {x:Y}:∀ {q:aC},(LC lt q x).Perm (x::q)
 | []=>List.Perm.refl _
 |y::q=>by
  unfold LC;split
  ·exact (List.Perm.cons y qB).trans<|List.Perm.swap x y q
  ·grind
def apz {q:aC}{x:Y}:M (LC lt q x)=M q+1:=by rw [qB.length_eq];rfl
def aEs:∀ {l acc:aC},(l.foldl (LC lt) acc).Perm (acc++l)
 | [],acc=>AI
 |x::l,acc=>by
  rw [KL];refine aEs.trans ?_;refine (xv l qB).trans ?_
  grind
def sortB (lt:Y->Y->aN) (l:aC):aC:=(l.foldl (LC lt) []).reverse
def aep {l:aC}:(sortB lt l).Perm l:=by
 exact (xm _).trans (by have:=aEs (lt:=lt) (l:=l) (acc:=[]);simpa using this)
def exB (l:aC) (j:aD):aC:=(l.set (j+1)<|l.getD j 0).set j<|l.getD (j+1) 0
def bub (lt:Y->Y->aN):aD->aC->List Int
 |0,l=>l
 |j+1,l=>if lt (l.getD (j+1) 0) (l.getD j 0)=U then bub lt j (exB l j) else l
def aui {p post:aC}{x y:Y}:exB (p++y::x::post) (M p)=p++x::y::post:=by
 unfold exB
 simp
def sv {post:aC}{x:Y}:∀ {q:aC},bub lt (M q) (q.reverse++x::post)=(LC lt q x).reverse++post
 | []=>by simp [bub,LC]
 | y::q=>by
  have e1:((y::q).reverse++x::post)=q.reverse++y::x::post:=AI
  rw [e1,BY,bub]
  have g1:(q.reverse++y::x::post).getD (M q) 0=y:=AI
  have g2:(q.reverse++y::x::post).getD (M q+1) 0=x:=AI
  rw [g1,g2];unfold LC;split
  ·have e2:exB (q.reverse++y::x::post) (M q)=q.reverse++x::y::post:=by
    have:=aui (p:=q.reverse) (x:=x) (y:=y) (post:=post)
    grind
   rw [e2,sv]
   simp
  ·simp
def aqA:∀ {j:aD}{l:aC},j<M l->(bub lt j l).Perm l:=λ{j l} h=>by
 have e:l=(l.take j).reverse.reverse++l[j]::l.drop (j+1):=AI
 have hj:M (l.take j).reverse=j:=A8
 have h2:=sv (lt:=lt) (q:=(l.take j).reverse) (x:=l[j]) (post:=l.drop<|j+1)
 rw [hj,<-e] at h2;rw [h2];refine (xv _<|(xm _).trans qB).trans ?_;refine (List.perm_middle.symm.trans ?_);refine (xv _<|xm _).trans ?_
 grind
def Mk (lt:Y->Y->aN) (l:aC) (i:aD):aC:=((l.drop i).foldl (LC lt) (l.take i).reverse).reverse
def af9 {l:aC}{i:aD}(h:i<M l):Mk lt (bub lt i l) (i+1)=Mk lt l i:=by
 have e:l=(l.take i).reverse.reverse++l[i]::l.drop (i+1):=AI
 have hi:M (l.take i).reverse=i:=A8
 have h2:=sv (lt:=lt) (q:=(l.take i).reverse) (x:=l[i]) (post:=l.drop<|i+1)
 have hl:M ((LC lt (l.take i).reverse l[i]).reverse)=i+1:=by rw [List.length_reverse,apz,hi]
 unfold Mk
 grind
def afq {l:aC}:Mk lt l 1=sortB lt l:=by
 cases l with
 |nil=>rfl
 |cons x l=>simp [Mk,sortB,LC]
def afr {l:aC}{i:aD}(h:M l<=i):Mk lt l i=l:=by
 unfold Mk;rw [List.drop_of_length_le h,DS h]
 simp
end
abbrev Ai:Ty:=.pair .bool<|.pair A7<|.pair A7 A7
abbrev Dm:=Bool×Int×Int×Int
def bc:qT (List Dm):=⟨⟩
instance:Coe (List Dm) LV:=⟨.xl Ai⟩
def E5 (l:bc) (n:Y):Dm:=l.getD n.toNat (X,0,0,0)
def slk (d:bc) (t i:Y):Y:=(E5 d i).2.2.1-t-(E5 d i).2.1
def cm (a b:Y):Y:=if a<b then -1 else if a>b then 1 else 0
def orI:aC->Int
 | []=>0
 |x::l=>if (x !=0)=U then x else orI l
def cmD (d:bc) (t a b:Y):Y:=orI [cm (E5 d a).2.2.2 (E5 d b).2.2.2,cm (slk d t a)<|slk d t b,cm a b]
def ltD (d:bc) (t a b:Y):aN:=aq<|cmD d t a b<0
def Io (d:bc) (t:Y):Prop:=(∀x∈d,(-2000000000<=x.2.1/\x.2.1<=2000000000)/\-2000000000<=x.2.2.1/\x.2.2.1<=2000000000)/\-2000000000<=t/\t<=2000000000
def aum {d:bc}{i:Y}(h0:0<=i) (h1:i<(M d:Y)):E5 d i∈d:=by
 unfold E5
 grind
def awu {d:bc}{t i:Y}(h:Io d t) (h0:0<=i) (h1:i<(M d:Y)):(-2000000000<=(E5 d i).2.1/\(E5 d i).2.1<=2000000000)/\-2000000000<=(E5 d i).2.2.1/\(E5 d i).2.2.1<=2000000000:=h.1 _<|aum h0 h1
def Fz (n:aD):aC:=(av n).map λk:aD=>(k:Y)
def HO (d:bc) (t:Y):aC:=sortB (ltD d t)<|Fz<|M d
def aFe {n:aD}:Fz (n+1)=Fz n++[(n:Y)]:=by simp [Fz,SZ]
def Ou {n:aD}:M (Fz n)=n:=by simp [Fz]
def aGT {n:aD}{x:Y}:x∈Fz n↔0<=x/\x<(n:Y):=by
 unfold Fz;rw [F4]
 constructor
 ·rintro ⟨k,hk,rfl⟩
  rw [Iu] at hk;omega
 ·exact λh=>⟨x.toNat,A8,A0⟩
def af8 {n:aD}:(Fz n).Nodup:=xk _ (λa b h=>A0) mv
def aE4 {d:bc}{t:Y}:(HO d t).Perm (Fz<|M d):=aep
def aGb {d:bc}{t:Y}:M (HO d t)=M d:=by rw [aE4.length_eq,Ou]
def apG {d:bc}{t x:Y}:x∈HO d t↔0<=x/\x<(M d:Y):=aE4.mem_iff.trans aGT
def aex {d:bc}{t:Y}:(HO d t).Nodup:=aE4.nodup_iff.2 af8
def tM {mi ma st a k:Y}(hh:Dr mi ma st=U) (ha:0<=a) (h0:0<=k) (h1:k<Ea mi ma st):E6 mi st k<=a↔k<=Hf mi ma st a:=by
 obtain ⟨g1,g2,g3,g4,g5⟩:=IX.1 hh
 have hn:¬(Dr mi ma st=X\/a<0):=A8
 unfold Hf;rw [AE hn];unfold E6
 by_cases e:k=0
 ·subst e
  simp only [Bo];exact aNq
 ·rw [AE e]
  have hp:0<=(k-1)*st:=Iv A0 A0
  split
  ·omega
  ·have:=(Int.le_ediv_iff_mul_le (a:=k-1) (b:=a-mi) (c:=st) A0)
   omega
def aSQ {mi ma st a:Y}(hh:Dr mi ma st=U):Hf mi ma st a<Ea mi ma st:=by
 have:=tL hh
 unfold Hf;split
 ·omega
 ·omega
def afQ {mi ma st a:Y}(hh:Dr mi ma st=U) (ha:0<=a):0<=Hf mi ma st a:=by
 have:=tL hh
 obtain ⟨g1,g2,g3,g4,g5⟩:=IX.1 hh
 have hn:¬(Dr mi ma st=X\/a<0):=A8
 unfold Hf;rw [AE hn];exact aNq
def aez {l:aC}:once l=U↔l.Nodup:=by
 rw [rJ,List.nodup_iff_pairwise_ne,mJ]
 constructor
 ·intro h i j hi hj hij e
  exact h j hj (by rw [<-e,Hr];exact ⟨i,A8,AI⟩)
 ·intro h j hj hm
  obtain ⟨i,hi,e⟩:=Hr.1 hm
  grind
def adV:∀ {r l:aC},r.Nodup->(∀x∈r,x∈l)->M r=M l->l.Nodup/\∀x∈l,x∈r
 | [],l,_,_,h=>by
  have:l=[]:=MH.1 h.symm
  subst this
  simp
 | x::r,l,hn,hs,h=>by
  obtain ⟨n1,n2⟩:=MJ.1 hn
  have hx:=hs x AI
  have hp:=List.perm_cons_erase hx
  obtain ⟨i1,i2⟩:=adV (l:=l.erase x) n2 (λy hy=>by
   have hy2:=hs y A8
   have hne:y≠x:=λe=>n1<|e▸hy
   exact (List.mem_erase_of_ne hne).2 hy2) A8
  refine ⟨hp.nodup_iff.2<|MJ.2 ⟨λhm=>n1<|i2 x hm,i1⟩,λy hy=>?_⟩
  by_cases e:y=x
  ·simp [e]
  ·grind
def cR (n:aD):aC:=(av n).map λk:aD=>(k:Y)
def aGU {n:aD}{x:Y}:x∈cR n↔0<=x/\x<(n:Y):=by
 unfold cR;rw [F4]
 constructor
 ·rintro ⟨k,hk,rfl⟩
  have:=Iu.1 hk
  omega
 ·rintro ⟨h1,h2⟩
  exact ⟨x.toNat,Iu.2 A0,A0⟩
def aef {n:aD}:M (cR n)=n:=by simp [cR]
def aFT {l:aC}{n:aD}:Gt l n=U↔M l=n/\l.Nodup/\∀i∈l,0<=i/\i<(n:Y):=by
 unfold Gt;simp only [AV,Aa,BH,qI,aez]
 constructor
 ·grind
 ·grind
def afn {l:aC}{n:aD}(h:Gt l n=U) {i:Y}(h0:0<=i) (h1:i<(n:Y)):i∈l:=by
 obtain ⟨g1,g2,g3⟩:=aFT.1 h;exact (adV g2 (l:=cR n) (λx hx=>aGU.2<|g3 x hx) (by rw [aef];exact g1)).2 i<|aGU.2 ⟨h0,h1⟩
def IG (al am ms:aC):Y:=(ms.map λm=>mx (gi al m)<|gi am m).sum
def rowB (al am:aC) (r:Rw):aN:=r.2.all (λm=>gi am m==0) ||aq (IG al am r.2<=r.1)
def PL (rows:aZ) (al am:aC):aN:=rows.all<|rowB al am
def T9 {al am ms:aC}{m:Y}:IG al am (m::ms)=mx (gi al m) (gi am m)+IG al am ms:=by simp [IG]
def aLp (gs:aG) (i k:Y):Y:=amA (AG gs i).2.2.2.1 (AG gs i).2.2.2.2.1 (AG gs i).2.2.2.2.2.1 k
def aLo (gs:aG) (i k:Y):Y:=amE (AG gs i).2.2.2.1 (AG gs i).2.2.2.2.1 (AG gs i).2.2.2.2.2.1 k
structure xU (gs:aG) (out:aC):Prop where
 len:M out=M gs
 bd:∀a∈out,0<=a/\a<=1000000
def xU.put {gs:aG}{out:aC}(h:xU gs out) {k:aD}{v:Y}(hv:0<=v/\v<=1000000):xU gs (out.set k v):=
 ⟨by rw [C5];exact h.len,λa ha=>by
  rcases OX ha with h2|h2
  ·exact h.bd a h2
  ·rw [h2];exact hv⟩
section
variable {P : List Int -> Bool} {tp : Int -> Int}
def IE (P:aC->aN) (tp:Y->Y) (L:Y) (lv:aC) (i:Y):aC:=
 if gi lv i=L-1/\L<=tp i then (if P (lv.set i.toNat L)=U then lv.set i.toNat L else lv) else lv
def Jc (P:aC->aN) (tp:Y->Y) (L:Y) (lv l:aC):aC:=l.foldl (IE P tp L) lv
def Fj (P:aC->aN) (tp:Y->Y) (od:aC):aD->Y->aC->List Int
 |0,_,lv=>lv
 |f+1,L,lv=>Fj P tp od f (L+1)<|Jc P tp L lv od
def J7 {l:aC}{i j v:Y}(h0:0<=i) (h1:i<(M l:Y)) (hj:0<=j):gi (l.set i.toNat v) j=if j=i then v else gi l j:=by
 unfold gi;rw [TC]
 by_cases e:j=i
 ·subst e
  omega
 ·omega
def S8 (n:aD) (l:aC):Prop:=∀i∈l,0<=i/\i<(n:Y)
def aFx {L i:Y}{lv:aC}:M (IE P tp L lv i)=M lv:=by
 unfold IE;split
 ·split
  ·grind
  ·rfl
 ·rfl
def ahD {L i j:Y}{lv:aC}(h:0<=i/\i<(M lv:Y)) (hj:0<=j):gi lv j<=gi (IE P tp L lv i) j:=by
 exact aMY
def ahE {L i j:Y}{lv:aC}(h:0<=i/\i<(M lv:Y)) (hj:0<=j):gi (IE P tp L lv i) j<=gi lv j\/(gi (IE P tp L lv i) j=L/\L<=tp j):=by
 exact aMY
def anM {L i:Y}{lv:aC}(h:P lv=U):P (IE P tp L lv i)=true:=by
 unfold IE;split
 ·split
  ·grind
  ·exact h
 ·exact h
def dv {L i:Y}{lv l:aC}:Jc P tp L lv (i::l)=Jc P tp L (IE P tp L lv i) l:=rfl
def fe {L:Y}:∀ {l lv:aC},M (Jc P tp L lv l)=M lv
 | [],_=>rfl
 |i::l,lv=>by rw [dv,fe (l:=l),aFx]
def aSo {L j:Y}(hj:0<=j):∀ {l lv:aC},S8 (M lv) l->gi lv j<=gi (Jc P tp L lv l) j
 | [],_,_=>Cz _
 |i::l,lv,h=>by
  rw [dv]
  have h1:=ahD (P:=P) (tp:=tp) (L:=L) (h i AI) hj
  have h2:=aSo (L:=L) hj (l:=l) (lv:=IE P tp L lv i) aP3
  omega
def wA {L j:Y}(hj:0<=j):∀ {l lv:aC},S8 (M lv) l->gi (Jc P tp L lv l) j<=gi lv j\/(gi (Jc P tp L lv l) j<=L/\gi (Jc P tp L lv l) j<=tp j)
 | [],_,_=> .inl (Cz _)
 |i::l,lv,h=>by
  rw [dv]
  have h1:=ahE (P:=P) (tp:=tp) (L:=L) (h i AI) hj
  have h2:=wA (L:=L) hj (l:=l) (lv:=IE P tp L lv i) aP3
  omega
def abX {L:Y}:∀ {l lv:aC},P lv=U->P (Jc P tp L lv l)=U
 | [],_,h=>h
 |i::l,lv,h=>by rw [dv];exact abX (l:=l)<|anM h
def aK1 {od:aC}:∀ {f:aD}{L:Y}{lv:aC},M (Fj P tp od f L lv)=M lv
 |0,_,_=>rfl
 |f+1,L,lv=>by rw [Fj,aK1,fe]
def aSp {od:aC}{j:Y}(hj:0<=j):∀ {f:aD}{L:Y}{lv:aC},S8 (M lv) od->gi lv j<=gi (Fj P tp od f L lv) j
 |0,_,_,_=>Cz _
 |f+1,L,lv,h=>by
  rw [Fj]
  have h1:=aSo (P:=P) (tp:=tp) (L:=L) hj h
  have h2:=aSp (f:=f) (L:=L+1) (lv:=Jc P tp L lv od) hj (by rw [fe];exact h)
  omega
def aSq {od:aC}{j:Y}(hj:0<=j):∀ {f:aD}{L:Y}{lv:aC},S8 (M lv) od->gi (Fj P tp od f L lv) j<=gi lv j\/(gi (Fj P tp od f L lv) j<=L+f-1/\gi (Fj P tp od f L lv) j<=tp j)
 |0,_,_,_=> .inl (Cz _)
 |f+1,L,lv,h=>by
  rw [Fj]
  have h1:=wA (P:=P) (tp:=tp) (L:=L) hj h
  have h2:=aSq (f:=f) (L:=L+1) (lv:=Jc P tp L lv od) hj (by rw [fe];exact h)
  omega
def abY {od:aC}:∀ {f:aD}{L:Y}{lv:aC},P lv=U->P (Fj P tp od f L lv)=U
 |0,_,_,h=>h
 |f+1,L,lv,h=>by rw [Fj];exact abY<|abX h
def aGD {od:aC}:∀ {f:aD}{L:Y}{lv:aC},Fj P tp od (f+1) L lv=Jc P tp (L+f) (Fj P tp od f L lv) od
 |0,L,lv=>by simp [Fj]
 |f+1,L,lv=>by
  rw [Fj,aGD (f:=f) (L:=L+1),Fj,show L+1+(f:Y)=L+((f+1:aD):Y) by omega]
def aEA {L:Y}:∀ {l lv:aC},(∀i∈l,gi lv i≠L-1\/tp i<L)->Jc P tp L lv l=lv
 | [],_,_=>rfl
 | i::l,lv,h=>by
  have e:IE P tp L lv i=lv:=by
   unfold IE
   grind
  rw [dv,e,aEA λj hj=>h j A8]
def aFU {od:aC}:∀ {f:aD}{L:Y}{lv:aC},(∀i∈od,gi lv i<L-1)->Fj P tp od f L lv=lv
 |0,_,_,_=>rfl
 |f+1,L,lv,h=>by
  rw [Fj,aEA λi hi=> .inl A8,aFU λi hi=>A8]
end
structure HS (rows:aZ) (gs:aG) (al mo od:aC):Prop where
 mem:∀r∈rows,r.2.Nodup/\∀m∈r.2,0<=m/\m<(M gs:Y)
 has:∀i:Y,0<=i->i<(M gs:Y)->Dr (AG gs i).2.2.2.1 (AG gs i).2.2.2.2.1 (AG gs i).2.2.2.2.2.1=U
 gl:M gs<=16
 all:M al=M gs
 mol:M mo=M gs
 al:∀a∈al,0<=a/\a<=80
 mo:∀a∈mo,0<=a/\a<=80
 nd:od.Nodup
 ord:S8 (M gs) od
 cov:∀i:Y,0<=i->i<(M gs:Y)->i∈od
def aAm {cs:aL}{os:aF}{ks:aR}{gs:aG}{bs:aS}{al mo od:aC}(h:Fy cs os ks gs bs al mo od=U):HS (Cw cs gs<|M cs) gs al mo od:=by
 obtain ⟨hv,h1,h2,h3,h4,h5⟩:=Lc.1 h
 have hl:=(D7.1 hv).1
 obtain ⟨o1,o2,o3⟩:=aFT.1 h5;refine ⟨λr hr=>⟨(row_mem hr).1,(row_mem hr).2.1⟩,λi h0 h1=>?_,A0,h1,h2,λa ha=>Qj.1<|BH.1 h3 a ha,λa ha=>Qj.1<|BH.1 h4 a ha,o2,o3,λi h0 h1=>afn h5 h0 h1⟩
 have:=NT hv h0 h1
 exact aNs
def PP (rows:aZ) (gs:aG) (al lv:aC):aN:=PL rows al<|FW gs lv
def tpO (gs:aG) (mo:aC) (i:Y):Y:=Fb gs i<|gi mo i
def aHu {gs:aG}{lv:aC}:M (FW gs lv)=M gs:=by simp [FW]
def TV {gs:aG}{lv:aC}{i:Y}(h0:0<=i) (h1:i<(M gs:Y)):gi (FW gs lv) i=D3 gs i (gi lv i):=by
 rw [Ig (by rw [aHu];omega)]
 simp only [FW,xn,ml];rfl
def abO {gs:aG}{i:Y}:D3 gs i 0=0:=by simp [D3,E6]
def aHL {gs:aG}{i a b:Y}(hh:Dr (AG gs i).2.2.2.1 (AG gs i).2.2.2.2.1 (AG gs i).2.2.2.2.2.1=U) (h0:0<=a) (h1:a<=b):D3 gs i a<=D3 gs i b:=by
 obtain ⟨g1,g2,g3,g4,g5⟩:=IX.1 hh;exact aHK ⟨g1,g4⟩ h0 h1
def aUQ {gs:aG}{i a b:Y}(hh:Dr (AG gs i).2.2.2.1 (AG gs i).2.2.2.2.1 (AG gs i).2.2.2.2.2.1=U) (h0:0<=a) (h1:a<b):D3 gs i a<D3 gs i b:=by
 obtain ⟨g1,g2,g3,g4,g5⟩:=IX.1 hh
 have h2:=aHL hh (show 0<=a+1 by omega) (show a+1<=b by omega)
 have h3:D3 gs i a<D3 gs i (a+1):=by
  unfold D3 E6;split
  ·grind
  ·have:(a+1-1)*(AG gs i).2.2.2.2.2.1=(a-1)*(AG gs i).2.2.2.2.2.1+(AG gs i).2.2.2.2.2.1:=by
    grind
   omega
 omega
def aUP {gs:aG}{i a:Y}(hh:Dr (AG gs i).2.2.2.1 (AG gs i).2.2.2.2.1 (AG gs i).2.2.2.2.2.1=U) (h0:0<=a):0<=D3 gs i a:=by
 have:=aHL hh (Cz 0) h0
 exact this
def au1 {a b c:Y}(h:b<=c):mx a b<=mx a c:=by
 exact ND
def aG1 {al am bm:aC}:∀ {ms:aC},(∀m∈ms,gi am m<=gi bm m)->IG al am ms<=IG al bm ms
 | [],_=>Cz _
 |m::ms,h=>by
  have h1:=aG1 (al:=al) (ms:=ms) λx hx=>h x A8
  have h2:=au1 (a:=gi al m)<|h m AI
  rw [T9,T9];omega
def pq {al am bm:aC}:∀ {ms:aC},(∀m∈ms,gi am m=gi bm m)->IG al am ms=IG al bm ms
 | [],_=>rfl
 |m::ms,h=>by rw [T9,T9,pq (ms:=ms) λx hx=>h x A8,h m AI]
def aIW {al am bm:aC}{i:Y}:∀ {ms:aC},ms.Nodup->i∈ms->(∀m∈ms,m≠i->gi am m=gi bm m)->IG al bm ms=IG al am ms+(mx (gi al i) (gi bm i)-mx (gi al i) (gi am i))
 | [],_,h,_=>As
 | m::ms,hn,hi,h=>by
  obtain ⟨n1,n2⟩:=MJ.1 hn;rw [T9,T9]
  by_cases e:m=i
  ·subst e
   rw [pq (am:=am) (bm:=bm) λx hx=>h x A8 λe=>n1<|e▸hx]
   omega
  ·have hi2:i∈ms:=by
    rcases B9.1 hi with h|h
    ·grind
    ·exact h
   rw [aIW n2 hi2 λx hx=>h x A8,h m AI e]
   omega
def af4 {al am bm:aC}{r:Rw}(h:∀m∈r.2,gi am m=gi bm m):rowB al am r=rowB al bm r:=by
 unfold rowB;rw [pq h]
 congr 1
 rw [Iw,BH,BH]
 constructor
 ·grind
 ·grind
structure Inv (rows:aZ) (gs:aG) (al sm lv:aC):Prop where
 sl:M sm=M rows
 sm:∀k:aD,k<M rows->sm.getD k 0=IG al (FW gs lv) (Cj rows k).2
 ll:M lv=M gs
 nn:∀j,0<=j->0<=gi lv j
 pp:PP rows gs al lv=U
def fj {rows:aZ}{k:Y}(h0:0<=k) (h1:k<(M rows:Y)):Cj rows k∈rows:=by
 rw [qf A0];exact Fk _
def tS {rows:aZ}{gs:aG}{al mo od lv:aC}(H:HS rows gs al mo od) {i L:Y}(hl:M lv=M gs) (h0:0<=i) (h1:i<(M gs:Y)) {r:Rw}(hr:r∈rows):
  (∀m∈r.2,m≠i->gi (FW gs lv) m=gi (FW gs<|lv.set i.toNat L) m)/\gi (FW gs<|lv.set i.toNat L) i=D3 gs i L:=by
 refine ⟨λm hm e=>?_,?_⟩
 ·obtain ⟨m0,m1⟩:=(H.mem r hr).2 m hm
  rw [TV m0 m1,TV m0 m1,J7 h0 A0 m0,AE e]
 ·rw [TV h0 h1,J7 h0 A0 h0,AD rfl]
def aQ3 {rows:aZ}{gs:aG}{al mo od lv:aC}(H:HS rows gs al mo od) {i L:Y}(hl:M lv=M gs) (h0:0<=i) (h1:i<(M gs:Y)) {r:Rw}(hr:r∈rows) (hc:gi lv i=L-1):
  IG al (FW gs<|lv.set i.toNat L) r.2=IG al (FW gs lv) r.2+(if i∈r.2 then G7 gs al i L else 0):=by
 obtain ⟨p1,p2⟩:=tS (L:=L) H hl h0 h1 hr;split
 ·rename_i hi
  rw [aIW (am:=FW gs lv) (H.mem r hr).1 hi p1,p2,TV h0 h1,hc];rfl
 ·rename_i hi
  rw [<-pq (am:=FW gs lv) λm hm=>p1 m hm λe=>hi<|e▸hm]
  omega
def aus {rows:aZ}{gs:aG}{al mo od sm lv:aC}(H:HS rows gs al mo od) (hI:Inv rows gs al sm lv) {i L:Y}(h0:0<=i) (h1:i<(M gs:Y)) (hL:1<=L) (hc:gi lv i=L-1):
  ((OL rows).getD i.toNat []).all (L0 rows sm<|G7 gs al i L)=PP rows gs al (lv.set i.toNat L):=by
 have hg:=H.gl
 rw [wR (λr hr=>⟨(H.mem r hr).1,λm hm=>((H.mem r hr).2 m hm).1⟩) A0,Iw,BH]
 unfold PP PL;rw [BH]
 have hpp:=hI.pp
 unfold PP PL at hpp;rw [BH] at hpp
 have hpos:1<=D3 gs i L:=by
  have:=aUQ (H.has i h0 h1) (Cz 0) (show 0<L by omega)
  rw [abO] at this;omega
 have hfit:∀k:Y,0<=k->k<(M rows:Y)->i∈(Cj rows k).2->(L0 rows sm (G7 gs al i L) k=rowB al (FW gs<|lv.set i.toNat L) (Cj rows k)):=λk k0 k1 hk=>by
  have hr:=fj k0 k1
  have hs:=hI.sm k.toNat A0
  have hp:=aQ3 (L:=L) H hI.ll h0 h1 hr hc
  have hz:(Cj rows k).2.all (λm=>gi (FW gs<|lv.set i.toNat L) m==0)=false:=by
   rw [IS];intro hz
   have:=BH.1 hz i hk
   rw [(tS (L:=L) H hI.ll h0 h1 hr).2,Cy] at this;omega
  unfold L0 rowB
  grind
 constructor
 ·intro h r hr
  obtain ⟨k,hk,rfl⟩:=Hr.1 hr
  have ek:Cj rows (k:Y)=rows[k]:=qf zO
  by_cases hi:i∈rows[k].2
  ·have:=h (k:Y)<|TN.2 ⟨A0,A0,by
    rw [QL,ek,CS h0]
    simpa using hi⟩
   rw [hfit k A0 A0 A8,ek] at this;exact this
  ·rw [<-af4 (am:=FW gs lv) λm hm=>(tS (L:=L) H hI.ll h0 h1 hr).1 m hm λe=>hi<|e▸hm]
   exact hpp _ hr
 ·intro h x hx
  obtain ⟨x0,x1,x2⟩:=TN.1 hx;rw [hfit x x0 A0 A8];exact h _<|fj x0 A0
def atA {rows:aZ}{gs:aG}{al mo od sm lv:aC}{b:aN}(H:HS rows gs al mo od) (hI:Inv rows gs al sm lv) {i L:Y}(h0:0<=i) (h1:i<(M gs:Y)) (hL:1<=L):
  (G3 (OL rows) rows gs al mo L (sm,lv,b) i).2.1=IE (PP rows gs al) (tpO gs mo) L lv i/\Inv rows gs al (G3 (OL rows) rows gs al mo L (sm,lv,b) i).1 (G3 (OL rows) rows gs al mo L (sm,lv,b) i).2.1/\((G3 (OL rows) rows gs al mo L (sm,lv,b) i).2.2=X->b=X/\(G3 (OL rows) rows gs al mo L (sm,lv,b) i).2.1=lv):=by
 unfold G3 IE
 by_cases hc:gi lv i=L-1/\L<=tpO gs mo i
 ·have hf:=aus H hI h0 h1 hL hc.1
  rw [AD (show lv.getD i.toNat 0=L-1/\L<=Fb gs i (gi mo i) from hc),AD hc,hf]
  by_cases hp:PP rows gs al (lv.set i.toNat L)=U
  ·rw [AD hp,AD hp]
   have hg:=H.gl
   refine ⟨rfl,⟨by rw [pT];exact hI.sl,λk hk=>?_,by rw [C5];exact hI.ll,λj hj=>?_,hp⟩,λh=>As⟩
   ·have hr:Cj rows (k:Y)∈rows:=fj A0 A0
    rw [wR (λr hr=>⟨(H.mem r hr).1,λm hm=>((H.mem r hr).2 m hm).1⟩) A0,sB q9 (λr hr=>(TN.1 hr).1) (by rw [hI.sl];exact hk),hI.sm k hk,aQ3 (L:=L) H hI.ll h0 h1 hr hc.1]
    have:(k:Y)∈KG 0 rows (i.toNat:Y)↔i∈(Cj rows (k:Y)).2:=by
     rw [TN,QL,CS h0]
     constructor
     ·grind
     ·grind
    by_cases hm:i∈(Cj rows (k:Y)).2
    ·grind
    ·grind
   ·simp only
    rw [J7 h0 (by rw [hI.ll];exact h1) hj]
    split
    ·omega
    ·exact hI.nn j hj
  ·rw [AE hp,AE hp]
   grind
 ·rw [AE (show ¬(lv.getD i.toNat 0=L-1/\L<=Fb gs i (gi mo i)) from hc),AE hc]
  grind
def aIK {rows:aZ}{gs:aG}{al mo od:aC}(H:HS rows gs al mo od) {L:Y}(hL:1<=L):∀ {l sm lv:aC}{b:aN},S8 (M gs) l->Inv rows gs al sm lv->
  (swp (OL rows) rows gs al mo L (sm,lv,b) l).2.1=Jc (PP rows gs al) (tpO gs mo) L lv l/\Inv rows gs al (swp (OL rows) rows gs al mo L (sm,lv,b) l).1 (swp (OL rows) rows gs al mo L (sm,lv,b) l).2.1/\((swp (OL rows) rows gs al mo L (sm,lv,b) l).2.2=X->b=X/\(swp (OL rows) rows gs al mo L (sm,lv,b) l).2.1=lv)
 | [],sm,lv,b,_,hI=>⟨rfl,hI,λh=>⟨h,rfl⟩⟩
 |i::l,sm,lv,b,hr,hI=>by
  obtain ⟨i0,i1⟩:=hr i AI;obtain ⟨r1,r2,r3⟩:=atA (b:=b) H hI i0 i1 hL;obtain ⟨s1,s2,s3⟩:=aIK H hL (l:=l) (b:=(G3 (OL rows) rows gs al mo L (sm,lv,b) i).2.2) (λx hx=>hr x A8) r2
  refine ⟨s1.trans (by rw [r1];rfl),s2,λh=>?_⟩
  obtain ⟨t1,t2⟩:=s3 h;obtain ⟨t3,t4⟩:=r3 t1;exact ⟨t3,t2.trans t4⟩
def aIY {rows:aZ}{gs:aG}{al mo od:aC}(H:HS rows gs al mo od):∀ {f:aD}{L:Y}{sm lv:aC},1<=L->Inv rows gs al sm lv->(∀i∈od,gi lv i<=L-1)->shl (OL rows) rows gs al mo od f L sm lv=Fj (PP rows gs al) (tpO gs mo) od f L lv
 |0,_,_,_,_,_,_=>rfl
 | f+1,L,sm,lv,hL,hI,hb=>by
  obtain ⟨s1,s2,s3⟩:=aIK (b:=X) H hL H.ord hI;rw [shl,Fj];split
  ·rw [aIY H A0 s2 (λi hi=>by
    rw [s1]
    have h1:=wA (P:=PP rows gs al) (tp:=tpO gs mo) (L:=L) (H.ord i hi).1 (l:=od) (lv:=lv) (by rw [hI.ll];exact H.ord)
    have h2:=hb i hi
    omega),s1]
  ·rename_i hc
   have hc:(swp (OL rows) rows gs al mo L (sm,lv,X) od).2.2=false:=A8
   have e:=(s3 hc).2
   rw [<-s1,e,aFU λi hi=>A8]
def Jv {n:aD}{j:Y}:gi (au n 0) j=0:=by
 unfold gi
 grind
def abR {rows:aZ}{gs:aG}{al mo od:aC}(H:HS rows gs al mo od):Inv rows gs al (SM al rows) (au (M gs) 0):=by
 have hz:∀r∈rows,∀m∈r.2,gi (FW gs<|au (M gs) 0) m=0:=λr hr m hm=>by
  obtain ⟨m0,m1⟩:=(H.mem r hr).2 m hm;rw [TV m0 m1,Jv,abO]
 refine ⟨qj,λk hk=>?_,Cf,λj _=>by rw [Jv];omega,?_⟩
 ·rw [aUU hk]
  have hr:Cj rows (k:Y)∈rows:=fj A0 A0
  unfold smA IG
  congr 1
  refine Jo λm hm=>?_
  obtain ⟨m0,m1⟩:=(H.mem _ hr).2 m hm;rw [hz _ hr m hm]
  have:=H.al _<|Ki m0 (by rw [H.all];exact m1)
  unfold mx;omega
 ·unfold PP PL
  rw [BH];intro r hr;unfold rowB
  grind
def lvF (rows:aZ) (gs:aG) (al mo od:aC):aC:=Fj (PP rows gs al) (tpO gs mo) od 80 1<|au (M gs) 0
def ta {rows:aZ}{gs:aG}{al mo od:aC}(H:HS rows gs al mo od) {i:Y}(h0:0<=i) (h1:i<(M gs:Y)):0<=tpO gs mo i/\tpO gs mo i<=80/\tpO gs mo i<Ea (AG gs i).2.2.2.1 (AG gs i).2.2.2.2.1 (AG gs i).2.2.2.2.2.1:=
 ⟨afQ (H.has i h0 h1) (H.mo _<|Ki h0 (by rw [H.mol];exact h1)).1,wL,aSQ<|H.has i h0 h1⟩
def axD {rows:aZ}{gs:aG}{al mo od:aC}(H:HS rows gs al mo od):shV rows gs al mo od=lvF rows gs al mo od:=by
 unfold shV lvF;rw [H.all,aIY H A0 (abR H) (λi _=>by rw [Jv];omega),aGD,aEA λi hi=> .inr ?_]
 have:=ta H (H.ord i hi).1 (H.ord i hi).2
 omega
section
variable {rows : List Rw} {gs : List Ch} {al mo od : List Int}
def atT:M (lvF rows gs al mo od)=M gs:=by
 unfold lvF;rw [aK1,Cf]
def aJK (H:HS rows gs al mo od):S8 (M<|au (M gs) (0:Y)) od:=by rw [Cf];exact H.ord
def agR (H:HS rows gs al mo od) {j:Y}(hj:0<=j):0<=gi (lvF rows gs al mo od) j:=by
 have:=aSp (P:=PP rows gs al) (tp:=tpO gs mo) (f:=80) (L:=1) hj<|aJK H
 rw [Jv] at this;exact this
def aSX (H:HS rows gs al mo od) {j:Y}(h0:0<=j) (h1:j<(M gs:Y)):gi (lvF rows gs al mo od) j<=tpO gs mo j:=by
 have h2:=aSq (P:=PP rows gs al) (tp:=tpO gs mo) (f:=80) (L:=1) h0<|aJK H
 rw [Jv] at h2
 have h3:=ta H h0 h1
 unfold lvF;omega
def agQ (H:HS rows gs al mo od):PP rows gs al (lvF rows gs al mo od)=true:=abY (abR H).pp
def atZ {i k:Y}(hh:Dr (AG gs i).2.2.2.1 (AG gs i).2.2.2.2.1 (AG gs i).2.2.2.2.2.1=U) (h0:0<=k) (h1:k<Ea (AG gs i).2.2.2.1 (AG gs i).2.2.2.2.1 (AG gs i).2.2.2.2.2.1):Fb gs i (D3 gs i k)=k:=by
 have h2:=aUP hh h0
 have h3:=(tM hh h2 h0 h1).1<|Cz _
 have h4:=aSQ (a:=D3 gs i k) hh
 have h5:=(tM hh h2 (k:=Hf (AG gs i).2.2.2.1 (AG gs i).2.2.2.2.1 (AG gs i).2.2.2.2.2.1<|D3 gs i k) A0 h4).2<|Cz _
 by_cases e:k<Hf (AG gs i).2.2.2.1 (AG gs i).2.2.2.2.1 (AG gs i).2.2.2.2.2.1 (D3 gs i k)
 ·have:=aUQ hh h0 e
  have h5:D3 gs i (Hf (AG gs i).2.2.2.1 (AG gs i).2.2.2.2.1 (AG gs i).2.2.2.2.2.1<|D3 gs i k)<=D3 gs i k:=h5
  omega
 ·unfold Fb
  omega
end
def aw2 {mi ma st k:Y}(hh:Dr mi ma st=U) (h0:0<=k) (h1:k<Ea mi ma st):E6 mi st k<=ma:=by
 obtain ⟨g1,g2,g3,g4,g5⟩:=IX.1 hh;unfold E6;split
 ·omega
 ·unfold Ea at h1
  have h2:(k-1)<=(ma-mi) / st:=A0
  have:=(Int.le_ediv_iff_mul_le (a:=k-1) (b:=ma-mi) (c:=st) A0).1 h2
  omega
def ajc {mi ma st k:Y}(h0:0<=k) (h1:k<Ea mi ma st):amA mi ma st k=E6 mi st k/\amE mi ma st k=0:=by
 unfold amA amE
 grind
section
variable {rows : List Rw} {gs : List Ch} {al mo od lv : List Int}
def lvR (gs:aG) (lv:aC):Prop:=M lv=M gs/\∀j,0<=j->j<(M gs:Y)->0<=gi lv j/\gi lv j<Ea (AG gs j).2.2.2.1 (AG gs j).2.2.2.2.1 (AG gs j).2.2.2.2.2.1
def aBU (H:HS rows gs al mo od):lvR gs (lvF rows gs al mo od):=⟨atT,λj h0 h1=>⟨agR H h0,by
 have:=aSX H h0 h1
 have:=ta H h0 h1
 omega⟩⟩
def aw3 (H:HS rows gs al mo od) {j k:Y}(h0:0<=j) (h1:j<(M gs:Y)) (k0:0<=k) (k1:k<Ea (AG gs j).2.2.2.1 (AG gs j).2.2.2.2.1 (AG gs j).2.2.2.2.2.1):(0<=D3 gs j k/\D3 gs j k<=80)/\aLo gs j k=0/\aLp gs j k=D3 gs j k/\Fb gs j (D3 gs j k)=k:=by
 have hh:=H.has j h0 h1
 obtain ⟨g1,g2,g3,g4,g5⟩:=IX.1 hh
 have h2:=aw2 hh k0 k1
 obtain ⟨e1,e2⟩:=ajc k0 k1;refine ⟨⟨aUP hh k0,?_⟩,e2,e1,atZ hh k0 k1⟩;unfold D3;omega
def aja (H:HS rows gs al mo od) (R:lvR gs lv) {j:Y}(h0:0<=j) (h1:j<(M gs:Y)):letI a:=FW gs lv;Fb gs j (gi a j)=gi lv j/\aLo gs j (gi lv j)=0/\aLp gs j (gi lv j)=gi a j/\0<=gi a j/\gi a j<=80:=by
 obtain ⟨r0,r1⟩:=R.2 j h0 h1;obtain ⟨a1,a2,a3,a4⟩:=aw3 H h0 h1 r0 r1;rw [TV h0 h1]
 grind
def ajp (H:HS rows gs al mo od) {j k:Y}(h0:0<=j) (h1:j<(M gs:Y)) (k0:0<=k) (k1:k<Ea (AG gs j).2.2.2.1 (AG gs j).2.2.2.2.1 (AG gs j).2.2.2.2.2.1):D3 gs j k<=gi mo j↔k<=tpO gs mo j:=
 tM (H.has j h0 h1) (H.mo _<|Ki h0 (by rw [H.mol];exact h1)).1 k0 k1
def adW {a b:aC}(hl:M a=M b) (h:∀j:Y,0<=j->j<(M b:Y)->gi a j=gi b j):a=b:=Ze hl λk h1 h2=>by
 have:=h (k:Y) A0 A0
 rw [Ig A8,Ig A8] at this
 grind
def g4 (gs:aG) (mo b am:aC) (j:Y):Prop:=(0<=gi b j/\gi b j<Ea (AG gs j).2.2.2.1 (AG gs j).2.2.2.2.1 (AG gs j).2.2.2.2.2.1)/\gi am j=D3 gs j (gi b j)/\gi am j<=gi mo j
end
section
variable {cs : List Cd} {os : List ByteArray} {ks : List Ko} {gs : List Ch} {bs : List Ba} {al mo od : List Int}
def aQA (h:Fy cs os ks gs bs al mo od=U):Fa cs os ks gs bs al mo od=FW gs (lvF (Cw cs gs<|M cs) gs al mo od):=by
 unfold Fa;rw [AD h,axD<|aAm h]
def abI (h:Fy cs os ks gs bs al mo od=U):shE cs os ks gs bs al mo od=0:=by unfold shE;rw [AD h]
end
abbrev Aq:Ty:=.pair A7 A7
abbrev Ra:=Int×Int
def bx:qT (List Ra):=⟨⟩
def aVH:qT (List<|Int×Ra):=⟨⟩
instance:Coe (List Ra) LV:=⟨.xl Aq⟩
def C2 (l:bx) (n:Y):Ra:=l.getD n.toNat (0,0)
def wU {l:bx}{n:Y}(h:n.toNat<M l):C2 l n=l[n.toNat]:=K3 h
def aSs {l:aC}{j:Y}(h:M l<=j.toNat):gi l j=0:=by
 unfold gi;rw [DK,Sc h];rfl
def agK {l:aC}{a:Y}(h:a∈l):∃j:Y,(0<=j/\j<(M l:Y))/\gi l j=a:=by
 obtain ⟨k,hk,e⟩:=Hr.1 h;exact ⟨k,A0,by rw [Ig A8];simpa using e⟩
def neN {a b:aD}:((a:Y) !=(b:Y))=!aq (a=b):=by
 by_cases h:a=b
 ·simp [h]
 ·have h':(a:Y)≠(b:Y):=A0
  simp [h,h']
def FZ (t:Y) (x:Le):aN:=aq (x.2.2.2.1<=t)&&aq (DF x>t)
def Jh (o:aC) (x:Le):aC:=o.set x.2.1.toNat<|mx (gi o x.2.1) x.2.2.1
def GQ (n:aD) (l:aM) (t:Y):aC:=(l.filter<|FZ t).foldl Jh<|au n 0
def below (n:Y) (l:aM):aN:=l.all λx=>aq<|x.2.1<n
def KB (l:aM) (n t:Y):aN:=(B1 l&&(inB n 0 16&&inB t 0 1100000))&&below n l
def HL (l:aM) (n t:Y):aC:=if KB l n t=U then GQ n.toNat l t else []
def JV (l:aM) (n t:Y):Y:=if KB l n t=U then 0 else 1
def aFw {o:aC}{x:Le}:M (Jh o x)=M o:=by simp [Jh]
def aIr:∀ {l:aM}{o:aC},M (l.foldl Jh o)=M o
 | [],_=>rfl
 |x::l,o=>by rw [KL,aIr,aFw]
def eW {n:aD}{l:aM}{t:Y}:M (GQ n l t)=n:=by rw [GQ,aIr,Cf]
def aFS {l:aM}(h:B1 l=U):l.Pairwise (λa b=>a.1<b.1/\a.2.2.2.1<=b.2.2.2.1):=by
 unfold B1 at h;rw [AV] at h
 have hs:∀k:aD,(hk:k+1<M l)->l[k].1<l[k+1].1/\l[k].2.2.2.1<=l[k+1].2.2.2.1:=λk hk=>by
  have:=Dq.1 h.2 (k+1) A0
  unfold H5 K4 at this;rw [Md (n:=((k+1:aD):Y)) A8,Md (n:=((k+1:aD):Y)-1) A0] at this;simp only [AV,Cc,Aa] at this;obtain ⟨_,h1|h1⟩:=this
  ·omega
  ·have e:(((k+1:aD):Y)-1).toNat=k:=A0
   simp only [e,C0] at h1;omega
 rw [mJ];intro i j hi hj hij
 induction j with
 |zero=>omega
 | succ j ih=>
  have h1:=hs j A0
  by_cases e:i=j
  ·grind
  ·have h2:=ih A0 A0
   omega
def CY (c:Ch):Y:=c.2.2.2.2.2.2.1
def raC (c:Ch) (r:Ra):aN:=IH c.2.2.1 c.2.2.2.1 c.2.2.2.2.1 c.2.2.2.2.2.1 (CY c) r.1 r.2
def HE (x:Dm):aN:=inB x.2.1 0 1000000000&&(inB x.2.2.1 0 1000000&&inB x.2.2.2 1 9)
def Ja (cs:aL) (os:aF) (ks:aR) (gs:aG) (bs:aS) (l:aM) (rs:bx) (d:bc) (t n:Y):aN:=
 (BB cs os ks gs bs&&B1 l)&&((aq (M rs=M gs)&&(aq (M d=M gs)&&(inB t 0 1000000&&inB n 1 999900)))&&(below (M gs) l&&DQ (M gs) (λj=>raC (AG gs j) (C2 rs j)&&HE (E5 d j))))
def HR (n:aD) (f:Y->Y):aC:=(av n).map λk:aD=>f (k:Y)
def IU {n:aD}{f:Y->Y}:M (HR n f)=n:=by simp [HR]
def NO {n:aD}{f:Y->Y}{j:Y}(h0:0<=j) (h1:j<(n:Y)):gi (HR n f) j=f j:=by
 rw [Ig (by rw [IU];omega)]
 simp only [HR,xn,ml]
 grind
def aEw {n:aD}{f:Y->Y}{x:Y}(h:x∈HR n f):∃j,(0<=j/\j<(n:Y))/\f j=x:=by
 obtain ⟨k,hk,e⟩:=F4.1 h
 grind
def Bq (gs:aG):aC:=HR (M gs) λk=>CY<|AG gs k
def JH (gs:aG) (d:bc):aC:=HR (M gs) (λk=>if (E5 d k).1=U then (AG gs k).2.2.2.2.1 else 0)
def Cx (gs:aG) (l:aM) (t:Y):aC:=HR (M gs) λk=>mx (CY<|AG gs k)<|gi (GQ (M gs) l t) k
def tgL (cs:aL) (os:aF) (ks:aR) (gs:aG) (bs:aS) (d:bc) (t:Y):aC:=Fa cs os ks gs bs (Bq gs) (JH gs d)<|HO d t
def HU (cs:aL) (os:aF) (ks:aR) (gs:aG) (bs:aS) (l:aM) (d:bc) (t:Y):aC:=Fa cs os ks gs bs (Cx gs l t) (tgL cs os ks gs bs d t)<|HO d t
def afm {l:bx}{i j:Y}{v:Ra}(h0:0<=i) (h1:i<(M l:Y)) (hj:0<=j):C2 (l.set i.toNat v) j=if j=i then v else C2 l j:=by
 unfold C2;rw [DK,DK,IT]
 by_cases e:j=i
 ·subst e
  rw [AD rfl,AD rfl,AD A0];rfl
 ·grind
def auk {a b:bx}(hl:M a=M b) (h:∀j:Y,0<=j->j<(M b:Y)->C2 a j=C2 b j):a=b:=Ze hl λk h1 h2=>by
 have:=h (k:Y) A0 A0
 rw [wU A8,wU A8] at this
 grind
def ofO (cs:aL) (os:aF) (ks:aR) (gs:aG) (bs:aS) (l:aM) (d:bc) (t:Y) (od:aC):aC:=Fa cs os ks gs bs (Cx gs l t) (Fa cs os ks gs bs (Bq gs) (JH gs d) od) od
def nwO (a t:Y):Option Le->Bool
 |none=>U
 |some x=>x.2.2.1 !=a ||aq (x.2.2.2.1<=t-6)
def nwB (gs:aG) (l:aM) (t i a:Y):aN:=!aq (a<=CY (AG gs i))&&nwO a t (l.reverse.find? λx=>x.2.1==i)
def nxA (c:Ch) (r:Ra) (w:Y):Y:=nA c.2.2.1 c.2.2.2.1 c.2.2.2.2.1 c.2.2.2.2.2.1 (CY c) r.1 r.2 w
def nxS (c:Ch) (r:Ra) (w:Y):Y:=nS c.2.2.1 c.2.2.2.1 c.2.2.2.2.1 c.2.2.2.2.2.1 (CY c) r.1 r.2 w
def FD (gs:aG) (rs:bx) (w:aC) (k:aD):aC:=HR k λk=>nxA (AG gs k) (C2 rs k)<|gi w k
def dcR (gs:aG) (rs:bx) (w:aC) (k:aD):bx:=(av k).map λk:aD=>(nxA (AG gs k) (C2 rs k)<|gi w k,nxS (AG gs k) (C2 rs k)<|gi w k)
def H7 (gs:aG) (l:aM) (t n:Y) (am:aC):aD->List Le
 |0=>[]
 |k+1=>H7 gs l t n am k++(if nwB gs l t k (gi am k)=U then [(n+M (H7 gs l t n am k),(k:Y),gi am k,t,12)] else [])
def gF {gs:aG}{rs:bx}{w:aC}{k:aD}:M (dcR gs rs w k)=k:=by simp [dcR]
def aiC {gs:aG}{rs:bx}{w:aC}{k:aD}{j:Y}(h0:0<=j) (h1:j<(k:Y)):C2 (dcR gs rs w k) j=(nxA (AG gs j) (C2 rs j)<|gi w j,nxS (AG gs j) (C2 rs j)<|gi w j):=by
 rw [wU (by rw [gF];omega)]
 simp only [dcR,xn,ml]
 grind
def okC (c:Ch) (r:Ra) (w:Y):aN:=okB c.2.2.1 c.2.2.2.1 c.2.2.2.2.1 c.2.2.2.2.2.1 (CY c) r.1 r.2 w
def dcK (gs:aG) (rs:bx) (w:aC):Prop:=∀j,0<=j->j<(M gs:Y)->okC (AG gs j) (C2 rs j) (gi w j)=U
def aDx {gs:aG}{l:aM}{t n:Y}{am:aC}:∀ {k:aD},M (H7 gs l t n am k)<=k
 |0=>by simp [H7]
 |k+1=>by
  have:=aDx (gs:=gs) (l:=l) (t:=t) (n:=n) (am:=am) (k:=k)
  rw [H7,B8];exact bL
section
variable (cs : List Cd) (os : List ByteArray) (ks : List Ko) (gs : List Ch) (bs : List Ba) (l : List Le) (rs : List Ra) (d : List Dm) (t n : Int)
def deA:aC:=if Ja cs os ks gs bs l rs d t n=U then FD gs rs (HU cs os ks gs bs l d t) (M gs) else []
def deR:bx:=if Ja cs os ks gs bs l rs d t n=U then dcR gs rs (HU cs os ks gs bs l d t) (M gs) else []
def deL:aM:=if Ja cs os ks gs bs l rs d t n=U then H7 gs l t n (FD gs rs (HU cs os ks gs bs l d t)<|M gs) (M gs) else []
def deE:Y:=if Ja cs os ks gs bs l rs d t n=U then 0 else 1
end
section
variable {cs : List Cd} {os : List ByteArray} {ks : List Ko} {gs : List Ch} {bs : List Ba} {l : List Le} {rs : List Ra} {d : List Dm} {t n : Int}
structure Vd (cs:aL) (os:aF) (ks:aR) (gs:aG) (bs:aS) (l:aM) (rs:bx) (d:bc) (t n:Y):Prop where
 site:BB cs os ks gs bs=U
 les:B1 l=U
 rl:M rs=M gs
 dl:M d=M gs
 gl:M gs<=16
 tb:0<=t/\t<=1000000
 nb:1<=n/\n<=999900
 co:below (M gs) l=U
 ra:∀j:Y,0<=j->j<(M gs:Y)->raC (AG gs j) (C2 rs j)=U
 dm:∀j:Y,0<=j->j<(M gs:Y)->HE (E5 d j)=U
 ch:∀j:Y,0<=j->j<(M gs:Y)->chW (AG gs j)=U
def aa8 (h:Ja cs os ks gs bs l rs d t n=U):Vd cs os ks gs bs l rs d t n:=by
 unfold Ja at h;simp only [AV,Aa,BO] at h;obtain ⟨⟨h1,h2⟩,⟨h3,h4,h5,h6⟩,h7,h8⟩:=h
 have hj:∀j:Y,0<=j->j<(M gs:Y)->raC (AG gs j) (C2 rs j)=U/\HE (E5 d j)=true:=λj h0 hj=>by
  have:=Dq.1 h8 j.toNat A0
  rw [CS h0,AV] at this;exact this
 exact ⟨h1,h2,h3,h4,(D7.1 h1).1.2.2.2.2.1,h5,h6,h7,λj h0 h1=>(hj j h0 h1).1,λj h0 h1=>(hj j h0 h1).2,λj h0 hj=>by
  have:=NT h1 h0 hj
  unfold G4 at this;simp only [AV] at this;exact this.2.2⟩
def gL {c:Ch}(h:chW c=U):(1<=c.2.2.1/\c.2.2.1<=7)/\(1<=c.2.2.2.1/\c.2.2.2.1<=c.2.2.2.2.1)/\c.2.2.2.2.1<=80/\(1<=c.2.2.2.2.2.1/\c.2.2.2.2.2.1<=80)/\0<=CY c/\CY c<=c.2.2.2.2.1:=by
 unfold chW at h;unfold CY;simp only [AV,Cc,BO,Cy] at h;omega
def tW (hv:B1 l=U) {m:aD}:∀a∈GQ m l t,0<=a/\a<=80:=by
 have key:∀(l:aM) (o:aC),(∀x∈l,DJ x=U)->(∀a∈o,0<=a/\a<=80)->∀a∈l.foldl Jh o,0<=a/\a<=80:=λl=>by
  induction l with
  |nil=>exact λo _ h=>h
  | cons x l ih=>
   intro o hl ho;refine ih _ (λy hy=>hl y A8) λa ha=>?_
   have hx:=Kc.1<|hl x AI
   rcases OX ha with ha|rfl
   ·grind
   ·have:0<=gi o x.2.1/\gi o x.2.1<=80:=by
     by_cases h:x.2.1.toNat<M o
     ·rw [Ig h];exact ho _<|Fk _
     ·rw [aSs A0];omega
    exact ND
 refine key _ _ (λx hx=>(GK hv).2 x (Ce.1 hx).1) λa ha=>?_
 rw [List.eq_of_mem_replicate ha];omega
def aIk (hd:M d=M gs):Gt (HO d t) (M gs)=true:=by
 unfold Gt;rw [aGb,hd,Cb rfl,ES,AV,BH];refine ⟨λx hx=>qI.2 (by have:=apG.1 hx;rw [hd] at this;exact this),rJ.2 λj hj hm=>?_⟩
 obtain ⟨k,hk,e⟩:=Hr.1 hm;rw [ME] at hk;rw [List.getElem_take] at e
 have:=(mJ.1<|aex (d:=d) (t:=t)) k j A0 hj A0
 exact this e
def jt {l:aC}{a b:Y}(hz:a<=0/\0<=b) (h:∀x∈l,a<=x/\x<=b) {j:Y}:a<=gi l j/\gi l j<=b:=by
 by_cases hj:j.toNat<M l
 ·rw [Ig hj];exact h _<|Fk _
 ·rw [aSs A0];exact hz
structure Si (cs:aL) (os:aF) (ks:aR) (gs:aG) (bs:aS) (d:bc):Prop where
 site:BB cs os ks gs bs=U
 dl:M d=M gs
def Si.ch (h:Si cs os ks gs bs d) {j:Y}(h0:0<=j) (hj:j<(M gs:Y)):chW (AG gs j)=true:=by
 have:=NT h.site h0 hj
 unfold G4 at this
 grind
def Vd.si (h:Vd cs os ks gs bs l rs d t n):Si cs os ks gs bs d:=⟨h.site,h.dl⟩
def ajT (h:Si cs os ks gs bs d):∀a∈Bq gs,0<=a/\a<=80:=λa ha=>by
 exact aNO
def aws (h:Si cs os ks gs bs d):∀a∈JH gs d,0<=a/\a<=80:=λa ha=>by
 exact aNO
def ajd (h:Vd cs os ks gs bs l rs d t n):∀a∈Cx gs l t,0<=a/\a<=80:=λa ha=>by
 obtain ⟨j,⟨h0,h1⟩,rfl⟩:=aEw ha
 have:=gL<|h.ch j h0 h1
 have:=jt (j:=j) ⟨Cz 0,Ac⟩<|tW h.les (m:=M gs) (t:=t)
 exact ND
def aQB {al mo od:aC}(hk:Fy cs os ks gs bs al mo od=U):letI a:=Fa cs os ks gs bs al mo od;M a=M gs/\∀j,0<=j->j<(M gs:Y)->(0<=gi a j/\gi a j<=80)/\gi a j<=gi mo j:=by
 have H:=aAm hk
 rw [aQA hk];refine ⟨aHu,λj h0 h1=>?_⟩
 obtain ⟨_,_,_,e4,e5⟩:=aja H (aBU H) h0 h1
 have h3:=(ajp H h0 h1 ((aBU H).2 j h0 h1).1 ((aBU H).2 j h0 h1).2).2<|aSX H h0 h1
 rw [TV h0 h1] at e4 e5|-
 grind
def aIZ {al mo od:aC}(hk:Fy cs os ks gs bs al mo od=U):M (Fa cs os ks gs bs al mo od)=M gs/\∀a∈Fa cs os ks gs bs al mo od,0<=a/\a<=80:=by
 obtain ⟨h1,h2⟩:=aQB hk;refine ⟨h1,λa ha=>?_⟩
 obtain ⟨j,hj,rfl⟩:=agK ha
 grind
def abB (h:Si cs os ks gs bs d):Fy cs os ks gs bs (Bq gs) (JH gs d) (HO d t)=true:=
 Lc.2 ⟨h.site,IU,IU,BH.2 λa ha=>Qj.2<|ajT h a ha,BH.2 λa ha=>Qj.2<|aws h a ha,aIk h.dl⟩
def abC (h:Si cs os ks gs bs d):M (tgL cs os ks gs bs d t)=M gs/\∀a∈tgL cs os ks gs bs d t,0<=a/\a<=80:=by
 exact aIZ<|abB (t:=t) h
def jW (h:Vd cs os ks gs bs l rs d t n):Fy cs os ks gs bs (Cx gs l t) (tgL cs os ks gs bs d t) (HO d t)=true:=
 Lc.2 ⟨h.site,IU,(abC h.si).1,BH.2 λa ha=>Qj.2<|ajd h a ha,BH.2 λa ha=>Qj.2<|(abC h.si).2 a ha,aIk h.dl⟩
def ac5 (h:Vd cs os ks gs bs l rs d t n):M (HU cs os ks gs bs l d t)=M gs/\∀a∈HU cs os ks gs bs l d t,0<=a/\a<=80:=by
 exact aIZ<|jW h
def am7 (h:Vd cs os ks gs bs l rs d t n) {j:Y}:letI a:=HU cs os ks gs bs l d t;0<=gi a j/\gi a j<=80:=jt ⟨Cz 0,Ac⟩ (ac5 h).2
def aTN (h:Vd cs os ks gs bs l rs d t n):dcK gs rs (HU cs os ks gs bs l d t):=λj j0 j1=>by
 have hr:=h.ra j j0 j1
 have hb:=am7 h (j:=j)
 unfold raC at hr;unfold okC okB;rw [hr,Cb hb.1,Cb hb.2];rfl
def aw4 (h:Vd cs os ks gs bs l rs d t n):KB l (M gs) t=true:=by
 have:=h.gl
 have:=h.tb
 unfold KB;rw [h.les,BO.2 ⟨A0,A0⟩,BO.2 ⟨A0,A0⟩,h.co];rfl
end
section
variable {P : List Int -> Bool} {tp : Int -> Int}
end
def isL (mn mx st a:Y):aN:=a==0 ||(aq (mn<=a)&&(aq (a<=mx)&&((a-mn) %st==0)))
def Wc {mn mx st a:Y}:isL mn mx st a=U↔a=0\/(mn<=a/\a<=mx/\(a-mn) %st=0):=by simp [isL]
def ep {mn mx st a:Y}(hc:E9 mn mx st):isL mn mx st (C1 mn mx st a)=true:=by
 unfold E9 at hc;rw [Wc];unfold C1;split
 ·grind
 ·right
  have e1:=aDa (x:=min a mx-mn) (s:=st) A0 A0
  refine ⟨A0,A0,?_⟩
  have h:=mO (min a mx-mn) st
  rw [show min a mx-(min a mx-mn) %st-mn=st*((min a mx-mn) / st) by omega]
  simp_all
def iX {mn mx st a:Y}(hc:E9 mn mx st) (ha:0<=a):C1 mn mx st a<=a:=by
 have hc':=hc
 have:=dV (a:=a) hc'.1 hc'.2.1 hc'.2.2.1 hc'.2.2.2.1
 by_cases h:a<mn
 ·omega
 ·omega
def au2 {x y s:Y}(hs:1<=s) (hy:y%s=0) (h:y<=x):y<=x-x%s:=by
 have h1:=mO x s
 have h2:=mO y s
 have h3:=xg x (b:=s) A0
 by_cases hq:y / s<=x / s
 ·have:=QH hq (show 0<=s by omega)
  omega
 ·have:=QH (show x / s+1<=y / s by omega) (show 0<=s by omega)
  rw [Int.mul_add,Int.mul_one] at this;omega
def pM {mn mx st a L:Y}(hc:E9 mn mx st) (hL:isL mn mx st L=U) (h:L<=a):L<=C1 mn mx st a:=by
 have hc':=hc
 unfold E9 at hc';rw [Wc] at hL;rcases hL with rfl|⟨h1,h2,h3⟩
 ·exact (dV (a:=a) hc'.1 hc'.2.1 hc'.2.2.1 hc'.2.2.2.1).1
 ·unfold C1
  have:=au2 (x:=min a mx-mn) (y:=L-mn) (s:=st) A0 h3 A0
  omega
def aGJ {mn mx st a:Y}(hc:E9 mn mx st) (h:isL mn mx st a=U) (ha:0<=a):C1 mn mx st a=a:=by
 have h1:=iX hc ha
 have h2:=pM hc h<|Cz a
 omega
def aGH {ph mn mx st fb a s want:Y}(h:okB ph mn mx st fb a s want=U):E9 mn mx st/\0<=s/\s<=1000000/\0<=want/\want<=80/\0<=a/\a<=80/\isL mn mx st a=U/\a<=mx/\(a≠0->mn<=a):=by
 have h':=h
 simp only [okB,IH,AV,Aa,Cy] at h';obtain ⟨⟨_,_,_,_,h5⟩,_⟩:=h';obtain ⟨_,h2,h3,h4,h6,h7,_⟩:=aJM h
 have hl:isL mn mx st a=true:=by rw [<-h5];exact ep h2
 have hl':=Wc.1 hl
 have h2':=h2
 unfold E9 at h2'
 grind
def alW {ph mn mx st fb a s want:Y}(h:okB ph mn mx st fb a s want=U):nE ph mn mx st fb a s want=0:=by rw [nE,AD h]
def ac7 {ph mn mx st fb a s want:Y}(h:okB ph mn mx st fb a s want=U):nA ph mn mx st fb a s want=if a=0 then (if C1 mn mx st want≠0/\5<=s then mn else 0) else if C1 mn mx st want=0 then 0 else min (C1 mn mx st want) (a+st):=by rw [nA,AD h]
def alV {ph mn mx st fb a s want:Y}(h:okB ph mn mx st fb a s want=U):nS ph mn mx st fb a s want=if a=0 then (if C1 mn mx st want≠0/\5<=s then 0 else min (s+1) 1000000) else if C1 mn mx st want=0 then 0 else min (s+1) 1000000:=by rw [nS,AD h]
def aT4 {mn mx st:Y}(hc:E9 mn mx st):isL mn mx st mn=true:=by
 unfold E9 at hc;rw [Wc];right;exact ⟨A0,A0,AI⟩
def atN {mn mx st a:Y}(ha:isL mn mx st a=U) (h0:a≠0) (h1:a+st<=mx) (hs:1<=st):isL mn mx st (a+st)=true:=by
 rw [Wc] at ha|-;rcases ha with h|⟨h2,h3,h4⟩
 ·grind
 ·right
  exact ⟨A0,h1,by rw [show a+st-mn=(a-mn)+st by omega,Int.add_emod_right];exact h4⟩
def aGK {mn mx st a b:Y}(hc:E9 mn mx st) (h0:0<=a) (h:a<=b):C1 mn mx st a<=C1 mn mx st b:=by
 have h1:=iX hc h0
 exact pM hc (ep (a:=a) hc) A0
def ag1 {mn mx st a:Y}(hc:E9 mn mx st):C1 mn mx st a<=mx:=by
 have h:=Wc.1<|ep (a:=a) hc
 unfold E9 at hc;omega
def asD {mn mx st a want:Y}(hc:E9 mn mx st) (ha:isL mn mx st a=U) (h0:a≠0) (ha0:0<=a) (hw:0<=want):(if C1 mn mx st want=0 then 0 else min (C1 mn mx st want) (a+st))=C1 mn mx st (min want<|a+st):=by
 have hc':=hc
 unfold E9 at hc'
 by_cases h1:want<=a+st
 ·rw [show min want (a+st)=want by omega]
  have:=iX hc hw
  omega
 ·rw [show min want (a+st)=a+st by omega]
  by_cases h2:a+st<=mx
  ·have hl:=atN ha h0 h2 A0
   rw [aGJ hc hl A0]
   have:=pM hc hl (show a+st<=want by omega)
   omega
  ·have m1:=ag1 (a:=want) hc
   have g1:=pM hc (ep (a:=want) hc) (show C1 mn mx st want<=a+st by omega)
   have g2:=aGK hc (show 0<=a+st by omega) (show a+st<=want by omega)
   omega
def ate {ph mn mx st fb a s want most:Y}(hk:okB ph mn mx st fb a s want=U) (hm:most=if a=0 then mn else a+st):
  isL mn mx st (nA ph mn mx st fb a s want)=U/\nA ph mn mx st fb a s want<=want/\nA ph mn mx st fb a s want<=most/\(nA ph mn mx st fb a s want=C1 mn mx st (min want most)\/(a=0/\s<5/\nA ph mn mx st fb a s want=0))/\(a≠0\/5<=s\/nA ph mn mx st fb a s want=0):=by
 obtain ⟨hc,h1,h2,h3,h4,h5,h6,h7,h8,h9⟩:=aGH hk
 have hc':=hc
 unfold E9 at hc';rw [ac7 hk]
 by_cases h0:a=0
 ·rw [AD h0] at hm|-
  by_cases hh:C1 mn mx st want≠0/\5<=s
  ·rw [AD hh]
   have hw:mn<=want:=by
    apply Classical.byContradiction
    intro hn;exact hh.1<|by rw [C1,AD A0]
   refine ⟨aT4 hc,hw,A0,.inl ?_,.inr<|.inl hh.2⟩;rw [hm,show min want mn=mn by omega,aGJ hc (aT4 hc) A0]
  ·rw [AE hh]
   refine ⟨A8,h3,A0,?_,.inr<|.inr rfl⟩
   by_cases hs:s<5
   ·grind
   ·left
    have h10:C1 mn mx st want=0:=by
     apply Classical.byContradiction
     omega
    have:=aGK hc (show 0<=min want most by omega) (show min want most<=want by omega)
    have:=(dV (a:=min want most) hc'.1 hc'.2.1 hc'.2.2.1 hc'.2.2.2.1).1
    omega
 ·rw [AE h0] at hm|-
  rw [asD hc h7 h0 h5 h3]
  have:=iX hc (show 0<=min want (a+st) by omega)
  exact ⟨ep hc,A0,A0,.inl<|by rw [hm],.inl h0⟩
def af0 {ph mn mx st fb a s want:Y}(hk:okB ph mn mx st fb a s want=U):
  0<=nA ph mn mx st fb a s want/\(0<=nS ph mn mx st fb a s want/\nS ph mn mx st fb a s want<=1000000/\nS ph mn mx st fb a s want<=s+1)/\(a=0->nA ph mn mx st fb a s want≠0->5<=s)/\(a≠0->nA ph mn mx st fb a s want=0->nS ph mn mx st fb a s want=0)/\
  (¬((nA ph mn mx st fb a s want=0)↔(a=0))->nS ph mn mx st fb a s want=0)/\(((nA ph mn mx st fb a s want=0)↔(a=0))->nS ph mn mx st fb a s want=min (s+1) 1000000):=by
 obtain ⟨hc,h1,h2,h3,h4,h5,h6,h7,h8,h9⟩:=aGH hk
 have hc':=hc
 unfold E9 at hc'
 have hb:=(dV (a:=want) hc'.1 hc'.2.1 hc'.2.2.1 hc'.2.2.2.1).1
 rw [ac7 hk,alV hk]
 by_cases h0:a=0
 ·simp only [AD h0]
  by_cases hh:C1 mn mx st want≠0/\5<=s
  ·omega
  ·omega
 ·simp only [AE h0]
  by_cases hh:C1 mn mx st want=0
  ·omega
  ·omega
def atE {al x y:aC}{r:Rw}(hm:∀m∈r.2,0<=gi y m/\gi y m<=gi x m) (h:rowB al x r=U):rowB al y r=true:=by
 unfold rowB at h|-;rw [Cc] at h|-;rcases h with h|h
 ·left
  rw [BH] at h|-;intro m hmm
  have h1:=h m hmm
  have h2:=hm m hmm
  rw [Cy] at h1|-;omega
 ·right
  exact Cb<|HI (aG1 λm hmm=>(hm m hmm).2)<|Ct h
def ap4 {rows:aZ}{al x y:aC}(hm:∀r∈rows,∀m∈r.2,0<=gi y m/\gi y m<=gi x m) (h:PL rows al x=U):PL rows al y=true:=by
 unfold PL at h|-;rw [BH] at h|-;exact λr hr=>atE (hm r hr)<|h r hr
section
variable {cs : List Cd} {os : List ByteArray} {ks : List Ko} {gs : List Ch} {bs : List Ba} {l : List Le} {rs : List Ra} {d : List Dm} {t n : Int}
def aoy {al mo od:aC}(hk:Fy cs os ks gs bs al mo od=U):PL (Cw cs gs<|M cs) al (Fa cs os ks gs bs al mo od)=true:=by
 rw [aQA hk];exact agQ<|aAm hk
def aiD {w:aC}{k:aD}{j:Y}(h0:0<=j) (h1:j<(k:Y)):gi (FD gs rs w k) j=nxA (AG gs j) (C2 rs j) (gi w j):=NO h0 h1
def abJ (V:Vd cs os ks gs bs l rs d t n) {j:Y}(j0:0<=j) (j1:j<(M gs:Y)):letI a:=HU cs os ks gs bs l d t;0<=gi (FD gs rs a<|M gs) j/\gi (FD gs rs a<|M gs) j<=gi a j/\gi a j<=gi (tgL cs os ks gs bs d t) j:=by
 have hk:=aTN V j j0 j1
 rw [aiD j0 j1];exact ⟨(af0 hk).1,(ate hk rfl).2.1,((aQB<|jW V).2 j j0 j1).2⟩
def atD {r:Rw}{m:Y}(hr:r∈Cw cs gs (M cs)) (hm:m∈r.2):0<=m/\m<(M gs:Y):=(row_mem hr).2.1 m hm
def avw (V:Vd cs os ks gs bs l rs d t n):PL (Cw cs gs<|M cs) (Cx gs l t) (FD gs rs (HU cs os ks gs bs l d t)<|M gs)=true:=
 ap4 (λr hr m hm=>by
  have hm:=atD hr hm
  have:=abJ V hm.1 hm.2
  exact ⟨this.1,this.2.1⟩) (aoy<|jW V)
def azQ {i a:Y}(h:nwB gs l t i a=U):CY (AG gs i)<a:=by
 unfold nwB at h;rw [AV] at h
 have h1:=h.1
 simp only [D6,DB] at h1;omega
end
abbrev Ld:=Int×Ra
def bE:qT (List Ld):=⟨⟩
def Du (l:bE) (i:aD):Ld:=l.getD i<|Ty.dflt<|.pair A7 Aq
def Xc (l:bE) (i:aD) (v:Y):bE:=l.set i ((AA<|(l.getD i<|Ty.dflt<|.pair A7 Aq).1+v),(l.getD i<|Ty.dflt<|.pair A7 Aq).2)
def Ur (l:bE) (i:aD) (v:Y):bE:=letI a:=l.getD i<|Ty.dflt<|.pair A7 Aq;l.set i (a.1,((AA<|a.2.1+v),a.2.2))
def up3 (l:bE) (i:aD) (v:Y):bE:=letI a:=l.getD i<|Ty.dflt<|.pair A7 Aq;l.set i (a.1,(a.2.1,(AA<|a.2.2+v)))
def aDN {l:bE}{i:aD}{v:Y}:M (Xc l i v)=M l:=by simp [Xc]
def aDM {l:bE}{i:aD}{v:Y}:M (Ur l i v)=M l:=by simp [Ur]
def aDL {l:bE}{i:aD}{v:Y}:M (up3 l i v)=M l:=by simp [up3]
def adE (ph v:Y) (e:Ld):Ld:=
 (if (Bm J ph 1 !=0)=U then AA (e.1+v) else e.1,
  (if (Bm J ph 2 !=0)=U then AA (e.2.1+v) else e.2.1,
   if (Bm J ph 4 !=0)=U then AA (e.2.2+v) else e.2.2))
def adP (ph v:Y) (l:bE) (i:aD):bE:=l.set i<|adE ph v<|Du l i
def aK5 {l:bE}{i j:aD}{e:Ld}(h:i<M l):Du (l.set i e) j=if i=j then e else Du l j:=by
 unfold Du;rw [DK,DK,IT]
 by_cases hij:i=j
 ·subst hij
  rw [AD rfl,AD rfl,AD h];rfl
 ·grind
def apn {l:bE}{i:aD}(h:i<M l):l.set i (Du l i)=l:=by
 unfold Du
 simp_all
def awO {l:bE}{i:aD}{v:Y}:Xc l i v=l.set i (AA<|(Du l i).1+v,(Du l i).2):=rfl
def awN {l:bE}{i:aD}{v:Y}:Ur l i v=l.set i ((Du l i).1,(AA<|(Du l i).2.1+v,(Du l i).2.2)):=rfl
def awM {l:bE}{i:aD}{v:Y}:up3 l i v=l.set i ((Du l i).1,((Du l i).2.1,AA<|(Du l i).2.2+v)):=rfl
def ajA {ph v:Y}{l:bE}{i:aD}(h:i<M l):adP ph v l i=
  (let a:=if (Bm J ph 1 !=0)=U then Xc l i v else l
   let b:=if (Bm J ph 2 !=0)=U then Ur a i v else a
   if (Bm J ph 4 !=0)=U then up3 b i v else b):=by
 unfold adP adE
 by_cases h1:(Bm J ph 1 !=0)=U<;>by_cases h2:(Bm J ph 2 !=0)=U<;>by_cases h4:(Bm J ph 4 !=0)=U<;>
  simp only [h1,h2,h4,Bo,Hs,FN,awO,awN,awM,aK5 h,List.set_set]<;>exact apn h
def awC {ph v:Y}{l:bE}{i:aD}:M (adP ph v l i)=M l:=by simp [adP]
def ldW:aD->aL->Y->Y->Y->bE->List Ld
 |0,_,_,_,_,l=>l
 |k+1,cs,ph,v,c,l=>if c>=0 then ldW k cs ph v (Ad cs c).2.1 (adP ph v l c.toNat) else l
def HC (cs:aL) (ph v c:Y) (l:bE):bE:=ldW (c.toNat+2) cs ph v c l
def aSR {cs:aL}{ph v:Y}(hu:Ff cs=U):∀(k k':aD) (c:Y) (l:bE),c<M cs->(c+1).toNat<k->(c+1).toNat<k'->ldW k cs ph v c l=ldW k' cs ph v c l
 |0,_,_,_,_,h,_=>A0
 |_+1,0,_,_,_,_,h=>A0
 | k+1,k'+1,c,l,hc,h,h'=>by
  simp only [ldW]
  by_cases h0:c>=0
  ·rw [AD h0,AD h0]
   have:=R1 hu h0 hc
   exact aSR hu k k' _ _ A0 A0 A0
  ·grind
def aga {cs:aL}{ph v c:Y}{l:bE}(hu:Ff cs=U) (hc:c<M cs):HC cs ph v c l=if c>=0 then HC cs ph v (Ad cs c).2.1 (adP ph v l c.toNat) else l:=by
 unfold HC;rw [ldW]
 by_cases h0:c>=0
 ·rw [AD h0,AD h0]
  have:=R1 hu h0 hc
  rw [aSR hu (c.toNat+1) ((Ad cs c).2.1.toNat+2) (Ad cs c).2.1 _ A0 A0 A0]
 ·grind
def aR8 {cs:aL}{o:Y}(hu:Ff cs=U):∀(k:aD) (c:Y),c<M cs->GZ k cs o c=U->o<=c
 |0,_,_,h=>by simp [GZ] at h
 | k+1,c,hc,h=>by
  simp only [GZ] at h;split at h
  ·rename_i h0
   rw [Cc] at h;rcases h with h|h
   ·have:=eq_of_beq h
    omega
   ·have h1:=R1 hu h0 hc
    have:=aR8 hu k _ A0 h
    omega
  ·cases h
def aSS {cs:aL}{ph v:Y}(hu:Ff cs=U) {o:aD}:∀(k:aD) (c:Y) (l:bE),c<M cs->M l=M cs->M (ldW k cs ph v c l)=M cs/\Du (ldW k cs ph v c l) o=if GZ k cs (o:Y) c=U then adE ph v (Du l o) else Du l o
 |0,c,l,hc,hl=>⟨hl,by simp [ldW,GZ]⟩
 | k +1,c,l,hc,hl=>by
  simp only [ldW]
  by_cases h0:c>=0
  ·have e0:GZ (k+1) cs (o:Y) c=(c==(o:Y) ||GZ k cs (o:Y) (Ad cs c).2.1):=by
    show (if c>=0 then _ else _)=_
    grind
   rw [AD h0,e0]
   have h1:=R1 hu h0 hc
   have hct:c.toNat<M l:=A0
   obtain ⟨q1,q2⟩:=aSS hu (o:=o) k (Ad cs c).2.1 (adP ph v l c.toNat) A0 (by rw [awC];exact hl)
   refine ⟨q1,?_⟩;rw [q2];unfold adP;rw [aK5 hct]
   by_cases hco:c.toNat=o
   ·have hb:(c==(o:Y))=true:=A8
    have hn:GZ k cs (o:Y) (Ad cs c).2.1=false:=by
     cases hq:GZ k cs (o:Y) (Ad cs c).2.1 with
     |false=>rfl
     |true=>
      have:=aR8 hu k _ A0 hq
      omega
    rw [hb,hn,AD hco,hco]
    simp
   ·have hb:(c==(o:Y))=false:=by
     cases hq:c==(o:Y) with
     |false=>rfl
     |true=>
      have:=eq_of_beq hq
      omega
    grind
  ·have e0:GZ (k+1) cs (o:Y) c=false:=by
    show (if c>=0 then _ else _)=_
    grind
   grind
def wN {cs:aL}{ph v c:Y}{l:bE}(hu:Ff cs=U) (hc:c<M cs) (hl:M l=M cs) (o:aD):M (HC cs ph v c l)=M cs/\Du (HC cs ph v c l) o=if Fh cs (o:Y) c=U then adE ph v (Du l o) else Du l o:=
 aSS hu _ c l hc hl
def Jg (cs:aL) (gs:aG) (am:aC):aD->List Ld
 |0=>au (M cs) (Ty.dflt<|.pair A7 Aq)
 |k+1=>HC cs (AG gs k).2.2.1 (gi am k) (AG gs k).2.1<|Jg cs gs am k
def EB (am:aC):aC->Int
 | []=>0
 |k::l=>gi am k+EB am l
def aIX {am:aC}:∀ {l m:aC},EB am (l++m)=EB am l+EB am m
 | [],m=>by simp [EB]
 |k::l,m=>by
  rw [KJ];simp only [EB];rw [aIX];omega
def aQ5 {am:aC}{b:Y}:∀ {l:aC},(∀k∈l,0<=gi am k/\gi am k<=b)->0<=EB am l/\EB am l<=b*(M l:Y)
 | [],_=>by simp [EB]
 |k::l,h=>by
  have h1:=h k AI
  have h2:=aQ5 (b:=b) λj hj=>h j<|N8 _ hj
  simp only [EB,BY,Int.natCast_add,Int.mul_add];omega
def ajk {ph:Y}:usA ph 0=(Bm J ph 1 !=0):=rfl
def ajj {ph:Y}:usA ph 1=(Bm J ph 2 !=0):=rfl
def aji {ph:Y}:usA ph 2=(Bm J ph 4 !=0):=rfl
def ave {gs:aG}{p:Y}{l m:aC}:Bz gs p (l++m)=Bz gs p l++Bz gs p m:=by simp [Bz]
def avc {gs:aG}{p k:Y}:Bz gs p [k]=if usA (AG gs k).2.2.1 p=U then [k] else []:=by
 unfold Bz;rw [LP];rfl
def ldO (cs:aL) (gs:aG) (am:aC) (o:Y) (k:aD):Ld:=letI a:=Cs cs gs o k;(EB am<|Bz gs 0 a,(EB am<|Bz gs 1 a,EB am<|Bz gs 2 a))
def sZ {cs:aL}{gs:aG}{am:aC}{o:Y}{k:aD}{p:Y}:EB am (Bz gs p<|Cs cs gs o<|k+1)=EB am (Bz gs p<|Cs cs gs o k)+(if Fh cs o (AG gs k).2.1=U then (if usA (AG gs k).2.2.1 p=U then gi am k else 0) else 0):=by
 rw [aFl,ave,aIX]
 by_cases h:Fh cs o (AG gs k).2.1=U
 ·rw [AD h,AD h,avc]
  split<;>simp [EB]
 ·rw [AE h,AE h]
  simp [Bz,EB]
def tO {cs:aL}{gs:aG}{am:aC}(hu:Ff cs=U) (ha:atB cs gs=U):∀k:aD,k<=M gs->M (Jg cs gs am k)=M cs
 |0,_=>by simp [Jg]
 |k+1,hk=>(wN hu (il ha A0 A0) (tO hu ha k A0) 0).1
def aST {cs:aL}{gs:aG}{am:aC}(hu:Ff cs=U) (ha:atB cs gs=U) (hg:M gs<=1000) (hm:∀k:aD,k<M gs->0<=gi am k/\gi am k<=80):
  ∀k:aD,k<=M gs->M (Jg cs gs am k)=M cs/\∀o:aD,o<M cs->Du (Jg cs gs am k) o=ldO cs gs am o k
 |0,_=>⟨by simp [Jg],λo ho=>by
  simp only [Jg,ldO,Du];rw [DK,V9,AD ho];rfl⟩
 | k+1,hk=>by
  obtain ⟨q1,q2⟩:=aST hu ha hg hm k A0
  have hc:(AG gs k).2.1<(M cs:Y):=il ha A0 A0
  refine ⟨(wN hu hc q1 0).1,λo ho=>?_⟩
  show Du (HC _ _ _ _ _) o=_
  rw [(wN hu hc q1 o).2,q2 o ho]
  have bd:∀p:Y,0<=EB am (Bz gs p<|Cs cs gs o k)/\EB am (Bz gs p<|Cs cs gs o k)<=80000:=λp=>by
   have h1:=aQ5 (am:=am) (b:=80) (l:=Bz gs p<|Cs cs gs o k) (λj hj=>by
    have h2:=eE (Ce.1 hj).1
    have:=hm j.toNat A0
    rwa [CS h2.1] at this)
   have h2:=aJv (gs:=gs) (p:=p) (l:=Cs cs gs o k)
   have h3:=qb (cs:=cs) (gs:=gs) (o:=o) (k:=k)
   omega
  have hv:=hm k A0
  have b0:=bd 0
  have b1:=bd 1
  have b2:=bd 2
  unfold ldO;rw [sZ,sZ,sZ]
  by_cases h:Fh cs o (AG gs k).2.1=U
  ·rw [AD h,AD h,AD h,AD h]
   unfold adE;rw [<-ajk,<-ajj,<-aji];dsimp only;rw [AJ,AJ,AJ]
   grind
  ·grind
abbrev BP:Ty:=.pair A7 AO
abbrev Lk:=Int×Le
def bz:qT (List Lk):=⟨⟩
def Fu (l:bz) (n:Y):Lk:=l.getD n.toNat (0,0,0,0,0,0)
structure PK where
 cs:aL
 os:aF
 ks:aR
 gs:aG
 bs:aS
 tk:Y
 up:aN
 ls:aM
 se:Y
 fl:aC
 ra:bx
 nx:Y
 st:bg
 ca:aVx
 mi:aVC
 me:aVK
 dm:bc
 lk:bz
 (dr tg:aC)
instance:Coe PK LV:=⟨λp=> .agg [.xl Ae p.cs,.xl .str p.os,.xl Ak p.ks,.xl Af p.gs,.xl Al p.bs,.v<|ah J p.tk,.v<|.bool p.up,.xl AO p.ls,.v<|ah J p.se,.xl (.int ax) p.fl,.xl Aq p.ra,.v<|ah J p.nx,.xl B7 p.st,.xl AO p.ca,.xl BC p.mi,.xl BU p.me,.xl Ai p.dm,.xl BP p.lk,.xl A7 p.dr,.xl A7 p.tg]⟩
def rQ (b:aH) (q:aD):PK:=letI a:=CX b q;⟨Ao Ae<|BE a 0,Ao .str<|BE a 1,Ao Ak<|BE a 2,Ao Af<|BE a 3,Ao Al<|BE a 4,gI<|BE a 5,gBo<|BE a 6,Ao AO<|BE a 7,gI<|BE a 8,Ao (.int ax)<|BE a 9,Ao Aq<|BE a 10,gI<|BE a 11,Ao B7<|BE a 12,Ao AO<|BE a 13,Ao BC<|BE a 14,Ao BU<|BE a 15,Ao Ai<|BE a 16,Ao BP<|BE a 17,Ao A7<|BE a 18,Ao A7<|BE a 19⟩
def rV (b:aH) (q j k:aD) (e:Ty):List e.D:=bif Nat.beq k 0 then Ao e (BE (CX b q) j) else gVe e (CX b k)
def rB (b:aH) (q acs als afl ara ast aca ami ame adm alk adr atg:aD):PK:=letI a:=CX b q;⟨rV b q 0 acs Ae,Ao .str<|BE a 1,Ao Ak<|BE a 2,Ao Af<|BE a 3,Ao Al<|BE a 4,gI<|BE a 5,gBo<|BE a 6,rV b q 7 als AO,gI<|BE a 8,rV b q 9 afl<|.int ax,rV b q 10 ara Aq,gI<|BE a 11,rV b q 12 ast B7,rV b q 13 aca AO,rV b q 14 ami BC,rV b q 15 ame BU,rV b q 16 adm Ai,rV b q 17 alk BP,rV b q 18 adr A7,rV b q 19 atg A7⟩
def rF (b:aH):PK:=rB b 16 4 5 6 7 8 9 10 11 12 13 14 15
def rT (b:aH):PK:=rB b 16 4 0 0 0 8 9 10 11 0 0 14 15
abbrev _root_.Go.Sx.T.pc {α:Type}(p:PK) (t:T α):T α:=.rl p.cs<|.rl p.ls<|.rl p.fl<|.rl p.ra<|.rl p.st<|.rl p.ca<|.rl p.mi<|.rl p.me<|.rl p.dm<|.rl p.lk<|.rl p.dr<|.rl p.tg t
abbrev _root_.Go.Sx.T.pd {α:Type}(p:PK) (t:T α):T α:=.rl p.cs<|.rl p.st<|.rl p.ca<|.rl p.mi<|.rl p.me<|.rl p.dr<|.rl p.tg t
abbrev _root_.Go.Sx.T.pb {α:Type}(p:PK) (t:T α):T α:=.rl p.st<|.rl p.ca<|.rl p.mi<|.rl p.me<|.rl p.dm<|.rl p.lk<|.rl p.dr<|.rl p.tg t
abbrev _root_.Go.Sx.T.pa {α:Type}(p:PK) (t:T α):T α:=.rl p.cs<|.rl p.ls<|.rl p.fl<|.rl p.ra t
instance:Coe (List Lk) LV:=⟨.xl BP⟩
namespace PK
variable (p : PK)
def sV:aN:=BB p.cs p.os p.ks p.gs p.bs
end PK
def GW (c:Cd) (t:Y):Cd:=(c.1,c.2.1,t,c.2.2.2)
def Dz (cs:aL) (tg:aC):aD->List Cd
 |0=>cs
 |k+1=>(Dz cs tg k).set k<|GW (Ad (Dz cs tg k) k)<|gi tg k
def CU (gs:aG) (st:bg) (i k n m:Y):bg:=if sE (AG gs i) (BL st i) k n m=0 then st.set i.toNat (sN (AG gs i) (BL st i) k n m) else st
def LH (gs:aG) (lk:bz) (t:Y) (st:bg):aD->List St
 |0=>st
 |k+1=>if (Fu lk k).1>t then LH gs lk t st k else CU gs (LH gs lk t st k) (Fu lk k).2.2.1 7 (Fu lk k).2.2.2.1 (Fu lk k).2.2.2.2.2
def L7 (gs:aG) (st:bg) (i:Y):aD->List St
 |0=>st
 |k+1=>CU gs (L7 gs st i k) i 8 0 0
def JT (gs:aG) (dr:aC) (t:Y) (st:bg):aD->List St
 |0=>st
 |k+1=>if H8 t (gi dr k)=0/\H8 (t+1) (gi dr k)=0 then L7 gs (JT gs dr t st k) k (Bg (t+1) (gi dr k)-Bg t (gi dr k)).toNat else JT gs dr t st k
structure DW where
 st:bg
 mi:aVC
 me:aVK
 dw:aC
def Fe (gs:aG) (ca:aVx) (s:DW) (i:Y):DW:=
 if (Be ca i).2.2.1=0 then s
 else if Jb (Be ca i) (CE s.mi i) (AG gs i).2.2.1 (Bj (AG gs i)<|BL s.st i)=0 then
  let a:=Fc (Be ca i) (CE s.mi i) (AG gs i).2.2.1<|Bj (AG gs i)<|BL s.st i
  let o:=cnt<|Ee (Be ca i) (CE s.mi i) (AG gs i).2.2.1<|Bj (AG gs i)<|BL s.st i
  ⟨if a>Bj (AG gs i) (BL s.st i) then CU gs s.st i 6 2 0 else s.st,s.mi.set i.toNat<|Jl (Be ca i) (CE s.mi i) (AG gs i).2.2.1<|Bj (AG gs i)<|BL s.st i,
   if G8 (Ga s.me i) a o=0 then s.me.set i.toNat (He (Ga s.me i) a o) else s.me,s.dw.set i.toNat a⟩
 else s
def DR (gs:aG) (ca:aVx) (s:DW):aD->DW
 |0=>s
 |k+1=>Fe gs ca (DR gs ca s k) k
def WT {cs:aL}{k:aD}{x:Cd}{j:aD}(hk:k<M cs):Ad (cs.set k x) (j:Y)=if j=k then x else Ad cs j:=by
 unfold Ad
 by_cases e:j=k
 ·grind
 ·grind
def Qv {cs:aL}{k:aD}(hk:k<M cs):Ad cs (k:Y)=cs[k]:=by
 unfold Ad
 simp [hk]
def dg {cs:aL}{os:aF}{ks:aR}{gs:aG}{bs:aS}(h:BB cs os ks gs bs=U) {k:aD}(hk:k<M cs) {t:Y}(ht:1<=t/\t<=1000):
  BB (cs.set k<|GW (Ad cs k) t) os ks gs bs=true:=by
 have hm:(cs.set k<|GW (Ad cs k) t).map (·.1)=cs.map (·.1):=by
  rw [List.map_set]
  have:(GW (Ad cs k) t).1=(cs.map (·.1))[k]' A8:=by
   rw [Qv hk];simp [GW]
  rw [this,List.set_getElem_self]
 unfold BB Lo vpB at h|-;rw [hm,C5];simp only [AV] at h|-;obtain ⟨h1,h2,h3,h4,h5⟩:=h;refine ⟨h1,h2,h3,?_,h5⟩;rw [Dq] at h4|-;intro j hj
 have hc:=h4 j hj
 rw [WT hk];split
 ·rename_i e
  subst e;unfold IC GW at*;simp only [AV] at hc|-;exact ⟨hc.1,BO.2 ht,hc.2.2⟩
 ·exact hc
def BN (l:aC):Prop:=∀x∈l,0<=x/\x<=255
def oe (x b:Y):Y:=IntKind.u32.wrap<|aLV ay x (IntKind.u32.wrap b)*16777619
def SX (x:Y) (l:aC):Y:=l.foldl oe x
def PG (ps:aJ):Y:=ps.foldl SX 2166136261
def D2 (n:Y):aC:=[IntKind.u8.wrap<|n.fdiv<|2^24,IntKind.u8.wrap<|n.fdiv<|2^16,IntKind.u8.wrap<|n.fdiv<|2^8,IntKind.u8.wrap n]
def nm4 (a b c d:Y):Y:=Dc ay (Dc ay (Dc ay (IntKind.u32.wrap<|IntKind.u32.wrap a*2^24)<|IntKind.u32.wrap<|IntKind.u32.wrap b*2^16)<|IntKind.u32.wrap<|IntKind.u32.wrap c*2^8)<|IntKind.u32.wrap d
def H6 (l:aC):Y:=nm4 (gi l 0) (gi l 1) (gi l 2)<|gi l 3
def KH (d:aC):aC:=[IntKind.u8.wrap<|(M d:Y).fdiv<|2^8,IntKind.u8.wrap (M d:Y)]
def Bw (d:aC):aC:=80::(KH d++(D2 (PG [KH d,d])++d))
def Gq {n:Y}:IntKind.u8.wrap n=n%256:=aOM
def TD {n:Y}:IntKind.u32.wrap n=n%4294967296:=aOM
def avW (x b:Y):0<=oe x b/\oe x b<4294967296:=by unfold oe;rw [TD];omega
def avY {x:Y}(h:0<=x/\x<4294967296) (l:aC):0<=SX x l/\SX x l<4294967296:=by
 induction l generalizing x with
 |nil=>exact h
 |cons b l ih=>exact ih<|avW x b
def avX (ps:aJ):0<=PG ps/\PG ps<4294967296:=by
 have:∀(ps:aJ) (x:Y),0<=x/\x<4294967296->0<=ps.foldl SX x/\ps.foldl SX x<4294967296:=by
  intro ps
  induction ps with
  |nil=>intro x h;exact h
  |cons p ps ih=>intro x h;exact ih _<|avY h p
 exact this ps _ Ac
def gp {a b k:aD}(h:b<2^k):a*2^k |||b=a*2^k+b:=by
 rw [Nat.mul_comm,<-Nat.two_pow_add_eq_or_of_lt h]
def sK {a b:aD}(ha:a<4294967296) (hb:b<4294967296):Dc ay (a:Y) (b:Y)=((a |||b:aD):Y):=by
 have h:=Nat.or_lt_two_pow (n:=32) ha hb
 unfold Dc;rw [TD]
 have e:∀n:aD,n<4294967296->(BitVec.ofInt (IntKind.bits ay) (n:Y)).toNat=n:=λn hn=>by
  show (BitVec.ofInt 32 (n:Y)).toNat=n
  grind
 rw [BitVec.toNat_or,e a ha,e b hb];omega
def az2 {a b c d:Y}(ha:0<=a/\a<=255) (hb:0<=b/\b<=255) (hc:0<=c/\c<=255) (hd:0<=d/\d<=255):nm4 a b c d=a*16777216+b*65536+c*256+d:=by
 obtain ⟨a,rfl⟩:=QF ha.1;obtain ⟨b,rfl⟩:=QF hb.1;obtain ⟨c,rfl⟩:=QF hc.1;obtain ⟨d,rfl⟩:=QF hd.1;unfold nm4
 have e1:IntKind.u32.wrap (IntKind.u32.wrap (a:Y)*2^24)=((a*2^24:aD):Y):=zU
 have e2:IntKind.u32.wrap (IntKind.u32.wrap (b:Y)*2^16)=((b*2^16:aD):Y):=zU
 have e3:IntKind.u32.wrap (IntKind.u32.wrap (c:Y)*2^8)=((c*2^8:aD):Y):=zU
 have e4:IntKind.u32.wrap (d:Y)=((d:aD):Y):=by rw [TD];omega
 rw [e1,e2,e3,e4,sK A0 A0,gp A0,
  sK A0 A0,show a*2^24+b*2^16=(a*2^8+b)*2^16 by omega,gp A0,
  sK A0 A0,show (a*2^8+b)*2^16+c*2^8=(a*2^16+b*2^8+c)*2^8 by omega,gp A0]
 omega
def WG (n:Y):BN (D2 n):=by
 intro x hx;simp only [D2,B9,Bx,By] at hx;rcases hx with rfl|rfl|rfl|rfl<;>rw [Gq]<;>omega
def aIo {n:Y}(h:0<=n/\n<4294967296):H6 (D2 n)=n:=by
 have e:H6 (D2 n)=nm4 (IntKind.u8.wrap<|n.fdiv<|2^24) (IntKind.u8.wrap<|n.fdiv<|2^16) (IntKind.u8.wrap<|n.fdiv<|2^8) (IntKind.u8.wrap n):=rfl
 rw [e,az2 cE cE cE cE,Gq,Gq,Gq,Gq,
  QI _ Ac,QI _ Ac,QI _ Ac]
 omega
def GD (b:aC) (f:aD):aD:=(gi b<|(f:Y)+1).toNat*256+(gi b<|(f:Y)+2).toNat
def rcF (b:aC) (f:aD):aN:=aq (f+7<=M b)&&aq (f+7+GD b f<=M b)
def HT (b:aC) (f:aD):aC:=(b.drop<|f+7).take<|GD b f
def rcG (b:aC) (f:aD):aN:=rcF b f&&(PG [(b.drop<|f+1).take 2,HT b f]==H6 ((b.drop<|f+3).take 4))
def Hc (b:aC):aD->aD->List (List Int)×Nat×Bool
 |0,f=>([],f,U)
 |n+1,f=>if f<M b/\gi b (f:Y)=80 then (if rcG b f then (HT b f::(Hc b n<|f+7+GD b f).1,(Hc b n<|f+7+GD b f).2) else ([],f,X)) else ([],f,U)
def XJ {pre l:aC}{k:aD}:gi (pre++l) ((M pre+k:aD):Y)=l.getD k 0:=by
 unfold gi
 grind
def rW {pre l:aC}{k:aD}:(pre++l).drop (M pre+k)=l.drop k:=by
 simp_all
def MP (d:aC):M (Bw d)=7+M d:=by simp [Bw,KH,D2];omega
def asE {pre rest d:aC}(hd:M d<=65535):let b:=pre++(Bw d++rest);gi b (M pre:Y)=80/\M pre<M b/\GD b (M pre)=M d/\HT b (M pre)=d/\rcG b (M pre)=true:=by
 intro b
 have hl:M b=M pre+(7+M d+M rest):=by simp [b,MP]
 have g0:gi b (M pre:Y)=80:=XJ (k:=0)
 have hn:GD b (M pre)=M d:=by
  have e1:gi b ((M pre:Y)+1)=IntKind.u8.wrap ((M d:Y).fdiv<|2^8):=XJ (k:=1)
  have e2:gi b ((M pre:Y)+2)=IntKind.u8.wrap (M d:Y):=XJ (k:=2)
  unfold GD;rw [e1,e2,Gq,Gq,QI _ Ac];omega
 have d7:b.drop (M pre+7)=d++rest:=by
  rw [rW]
  simp [Bw,KH,D2]
 have hD:HT b (M pre)=d:=by
  unfold HT
  grind
 have d1:(b.drop<|M pre+1).take 2=KH d:=by
  rw [rW]
  simp [Bw,KH]
 have d3:(b.drop<|M pre+3).take 4=D2 (PG [KH d,d]):=by
  rw [rW]
  simp [Bw,KH,D2]
 refine ⟨g0,A0,hn,hD,?_⟩;unfold rcG rcF;rw [hn,hD,d1,d3,aIo<|avX _]
 simp;omega
def BS (ds:aJ):aC:=ds.flatMap Bw
def aGL {rest:aC}(hr:gi rest 0≠80):∀(ds:aJ) (pre:aC) (n:aD),(∀d∈ds,M d<=65535)->M ds<n->
  Hc (pre++(BS ds++rest)) n (M pre)=(ds,M pre+M (BS ds),U)
 | [],pre,n,_,hn=>by
  obtain ⟨n,rfl⟩:∃m,n=m+1:=⟨n-1,A0⟩;simp only [BS,List.flatMap_nil,EG,Hc];rw [AE]
  ·simp
  ·rintro ⟨_,h⟩
   rw [show ((M pre:aD):Y)=((M pre+0:aD):Y) by simp,XJ] at h
   exact hr h
 |d::ds,pre,n,hd,hn=>by
  obtain ⟨n,rfl⟩:∃m,n=m+1:=⟨n-1,A0⟩
  have e:pre++(BS (d::ds)++rest)=pre++(Bw d++(BS ds++rest)):=by simp [BS]
  rw [e];obtain ⟨h1,h2,h3,h4,h5⟩:=asE (pre:=pre) (rest:=BS ds++rest)<|hd d AI;simp only [Hc];rw [AD ⟨h2,h1⟩,AD h5,h3,h4]
  have e2:pre++(Bw d++(BS ds++rest))=(pre++Bw d)++(BS ds++rest):=AI
  have e3:M pre+7+M d=M (pre++Bw d):=by simp [MP];omega
  rw [e2,e3,aGL hr ds (pre++Bw d) n (λx hx=>hd x A8) A8]
  simp [BS,MP];omega
abbrev Bn:Ty:=.pair A7<|.sl<|.int ax
abbrev Fl:=Int×List Int
def ba:qT (List Fl):=⟨⟩
def GV (l:ba) (n:Y):Fl:=l.getD n.toNat (0,[])
def Hh (se:Y) (l:aC):aN:=letI a:=(M l:Y);decide (se>=1)&&(aq (se<=512)&&(aq (a>=se)&&(aq (a<=4096)&&(a.tmod se==0))))
def NY {se:Y}{l:aC}:Hh se l=U↔1<=se/\se<=512/\se<=(M l:Y)/\M l<=4096/\(M l:Y).tmod se=0:=by
 simp [Hh];omega
def FB (se:Y) (l:aC):aN:=Hh se l&&(((M l:Y).tdiv se).tmod 2==0&&aq ((M l:Y)>=32))
def MW {se:Y}{l:aC}:FB se l=U↔Hh se l=U/\((M l:Y).tdiv se).tmod 2=0/\32<=M l/\M l<=4096/\1<=se:=by
 unfold FB;simp only [AV,Cy,Aa];refine ⟨λ⟨h1,h2,h3⟩=>⟨h1,h2,A0,(NY.1 h1).2.2.2.1,(NY.1 h1).1⟩,λ⟨h1,h2,h3,_,_⟩=>⟨h1,h2,A0⟩⟩
def Bp (l:aC) (w:Y):aC:=if w=0 then l.take (M l / 2) else (l.drop<|M l / 2).take (M l / 2)
def dd (l:aC) (w:Y):M (Bp l w)=M l / 2:=by
 unfold Bp
 grind
def JS (l:aC) (w:Y):Y:=H6<|((Bp l w).drop 1).take 4
def Aw (l:aC):Y:=if gi (Bp l 0) 0=80 then (if gi (Bp l 1) 0=80 then (if JS l 1>JS l 0 then 1 else 0) else 0) else if gi (Bp l 1) 0=80 then 1 else 0
def I8 (l:aC):Y:=if gi (Bp l 0) 0=80\/gi (Bp l 1) 0=80 then 0 else 4
def Dn (fl:aC) (a:Y) (d:aC):aD->List Int
 |0=>fl
 |k+1=>(Dn fl a d k).set (a+k).toNat<|Bm ax (gi (Dn fl a d k)<|a+k)<|gi d k
def Dt (se:Y) (fl:aC) (a:Y) (d:aC):ba:=(av<|M d+1).map λk=>(se,Dn fl a d k)
def FC (se:Y) (fl:aC) (a:Y) (d:aC):Y:=if (!Hh se fl ||aq (a<0))=U then 1 else if a>(M fl:Y)-M d then 3 else 0
def Ew (fl:aC) (a:Y):aD->List Int
 |0=>fl
 |k+1=>(Ew fl a k).set (a+k).toNat 255
def erL (se:Y) (fl:aC) (s:Y):ba:=(av<|se.toNat+1).map λk=>(se,Ew fl (s*se) k)
def IM (se:Y) (fl:aC) (s:Y):Y:=if (!Hh se fl ||(aq (s<0) ||aq (s>=(M fl:Y).tdiv se)))=U then 1 else 0
def T3 (fl:aC) (a:Y) (d:aC) (k:aD):M (Dn fl a d k)=M fl:=by
 induction k with
 |zero=>rfl
 |succ k ih=>simp [Dn,ih]
def du (fl:aC) (a:Y) (k:aD):M (Ew fl a k)=M fl:=by
 induction k with
 |zero=>rfl
 |succ k ih=>simp [Ew,ih]
def Ke {a b:aC}:BN (a++b)↔BN a/\BN b:=by
 unfold BN
 grind
def Qk {x:Y}{l:aC}:BN (x::l)↔(0<=x/\x<=255)/\BN l:=by
 unfold BN
 simp
def gG (k:aD):BN (au k 255):=by
 intro x hx;rw [Sg] at hx;omega
def aJx {l:aC}(h:BN l) (i:aD) {x:Y}(hx:0<=x/\x<=255):BN (l.set i x):=by
 intro y hy;rcases OX hy with h1|h1
 ·exact h y h1
 ·grind
def aw1 (x y:Y):0<=Bm ax x y/\Bm ax x y<=255:=by
 unfold Bm;rw [Gq];omega
def uX {fl:aC}(h:BN fl) (a:Y) (d:aC) (k:aD):BN (Dn fl a d k):=by
 induction k with
 |zero=>exact h
 |succ k ih=>exact aJx ih _<|aw1 _ _
def aTg {fl:aC}(h:BN fl) (a:Y) (k:aD):BN (Ew fl a k):=by
 induction k with
 |zero=>exact h
 |succ k ih=>exact aJx ih _ Ac
def aqE {x:Y}(h:0<=x/\x<=255):Bm ax 255 x=x:=by
 unfold Bm;rw [Gq];obtain ⟨n,rfl⟩:=QF h.1
 have e:(BitVec.ofInt (IntKind.bits ax) 255&&&BitVec.ofInt (IntKind.bits ax) (n:Y)).toNat=n:=by
  show (BitVec.ofInt 8 255&&&BitVec.ofInt 8 (n:Y)).toNat=n
  rw [show BitVec.ofInt 8 255=BitVec.allOnes 8 from rfl,BitVec.allOnes_and,BitVec.toNat_ofInt];omega
 omega
def aQl {pre post d:aC}(hd:BN d):∀k,k<=M d->Dn (pre++(au (M d) 255++post)) (M pre:Y) d k=pre++(d.take k++(au (M d-k) 255++post))
 |0,_=>by simp [Dn]
 | k+1,hk=>by
  simp only [Dn];rw [aQl hd k A0];obtain ⟨j,hj⟩:∃j,M d-k=j+1:=⟨M d-k-1,A0⟩
  have e1:(M pre:Y)+(k:Y)=((M pre+k:aD):Y):=A0
  have ht:M (d.take k)=k:=DC
  have e2:gi (pre++(d.take k++(au (M d-k) 255++post))) ((M pre:Y)+k)=255:=by
   rw [e1,XJ,DK,Gc A0,ht,mh,hj,Zi];rfl
  have e3:gi d (k:Y)=d[k]:=Ig A0
  rw [e2,e3,aqE<|hd _<|Fk _,e1,C0,mP _ _ A0,xt,mP _ _ A0,ht,mh,hj,Zi];rw [show M d-(k+1)=j by omega,Zc<|Nat.lt_of_succ_le hk]
  grind
def fW {pre post d:aC}(hd:BN d):Dn (pre++(au (M d) 255++post)) (M pre:Y) d (M d)=pre++(d++post):=by
 rw [aQl hd _<|Ar _];simp
def De (g:Y) (ds:aJ) (k:aD):aC:=(80::D2 g)++(BS ds++au k 255)
def JO (w:Y) (A O:aC):aC:=if w=0 then A++O else O++A
def aGX (a b:aJ):BS (a++b)=BS a++BS b:=by simp [BS]
def rC (ds:aJ):M (BS ds)=(ds.map λd=>7+M d).sum:=by
 induction ds with
 |nil=>rfl
 |cons d ds ih=>simp only [BS,mq,B8,ER,List.sum_cons,MP] at*;rw [ih]
def asJ (ds:aJ):7*M ds<=M (BS ds):=by
 induction ds with
 |nil=>simp [BS]
 |cons d ds ih=>simp only [BS,mq,B8,BY,MP] at*;omega
def axj (d:aC):BN (KH d):=by
 intro x hx;simp only [KH,B9,Bx,By] at hx;rcases hx with rfl|rfl<;>rw [Gq]<;>omega
def aJJ {d:aC}(h:BN d):BN (Bw d):=by
 unfold Bw;rw [Qk,Ke,Ke];exact ⟨Ac,axj d,WG _,h⟩
def sI {ds:aJ}(h:∀d∈ds,BN d):BN (BS ds):=by
 induction ds with
 |nil=>intro x hx;simp [BS] at hx
 |cons d ds ih=>
  have e:BS (d::ds)=Bw d++BS ds:=rfl
  rw [e,Ke];exact ⟨aJJ<|h d AI,ih λx hx=>h x A8⟩
def ahG (k:aD) (rest:aC) (h:gi rest 0≠80):gi (au k 255++rest) 0≠80:=by
 cases k with
 |zero=>simpa using h
 |succ k=>simp [gi,Zi]
structure JI (fl:aC) (w g:Y) (ds:aJ) (k:aD) (O:aC):Prop where
 eq:fl=JO w (De g ds k) O
 la:M (De g ds k)=1024
 lo:M O=1024
 bo:BN O
 hw:w=0\/w=1
 hg:0<=g/\g<4294967296
 old:gi O 0=80->H6 ((O.drop 1).take 4)<g
 bd:∀d∈ds,BN d/\M d<=65535
def Ox (g:Y) (ds:aJ) (k:aD):M (De g ds k)=5+M (BS ds)+k:=by
 simp [De,D2];omega
def aIs {g:Y}(hg:0<=g/\g<4294967296) (ds:aJ) (k:aD):H6 (((De g ds k).drop 1).take 4)=g:=by
 have:((De g ds k).drop 1).take 4=D2 g:=by simp [De,D2]
 rw [this,aIo hg]
def aFo {w:Y}{A O:aC}(hA:M A=1024) (hO:M O=1024) (hw:w=0\/w=1):Bp (JO w A O) w=A/\Bp (JO w A O) (1-w)=O:=by
 have hl:∀a b:aC,M a=1024->M b=1024->Bp (a++b) 0=a/\Bp (a++b) 1=b:=by
  intro a b ha hb
  have e:M (a++b) / 2=1024:=A8
  unfold Bp
  grind
 rcases hw with rfl|rfl
 ·exact hl A O hA hO
 ·have:=hl O A hO hA
  exact ⟨this.2,this.1⟩
namespace JI
variable {fl : List Int} {w g : Int} {ds : List (List Int)} {k : Nat} {O : List Int}
def len (h:JI fl w g ds k O):M fl=2048:=by
 rw [h.eq];unfold JO;split<;>simp [h.la,h.lo]
def bja (h:JI fl w g ds k O):BN (De g ds k):=by
 unfold De;rw [Ke,Ke,Qk];exact ⟨⟨Ac,WG _⟩,sI λd hd=>(h.bd d hd).1,gG _⟩
def FH (h:JI fl w g ds k O):BN fl:=by
 rw [h.eq];unfold JO;split
 ·rw [Ke];exact ⟨h.bja,h.bo⟩
 ·rw [Ke];exact ⟨h.bo,h.bja⟩
def jv (h:JI fl w g ds k O):FB 512 fl=true:=by
 rw [MW,NY,h.len]
 decide
def ar (h:JI fl w g ds k O):Bp fl w=De g ds k:=by rw [h.eq];exact (aFo h.la h.lo h.hw).1
def ao (h:JI fl w g ds k O):Bp fl (1-w)=O:=by rw [h.eq];exact (aFo h.la h.lo h.hw).2
def gen (h:JI fl w g ds k O):JS fl w=g:=by unfold JS;rw [h.ar,aIs h.hg]
def cur (h:JI fl w g ds k O):Aw fl=w/\I8 fl=0:=by
 have ha:=h.ar;have ho:=h.ao;have hgn:=h.gen
 have g80:gi (De g ds k) 0=80:=rfl
 have hold:gi (Bp fl<|1-w) 0=80->JS fl (1-w)<g:=by rw [ho];unfold JS;rw [ho];exact h.old
 unfold Aw I8;rcases h.hw with rfl|rfl
 ·have e:(1:Y)-0=1:=rfl
  rw [e] at hold;rw [ha,hgn];refine ⟨?_,A8⟩;rw [AD g80];split
  ·omega
  ·rfl
 ·have e:(1:Y)-1=0:=rfl
  rw [e] at hold;rw [ha,hgn];refine ⟨?_,A8⟩;split
  ·omega
  ·rfl
end JI
def Ey (fl:aC):List (List Int)×Nat×Bool:=Hc (Bp fl<|Aw fl) (M<|Bp fl<|Aw fl) 5
def Bs (se:Y) (fl:aC):Y:=if FB se fl=X then 1 else if I8 fl≠0 then I8 fl else if (Ey fl).2.2=U then 0 else 11
def lkC (fl:aC):aN:=((Bp fl<|Aw fl).drop (Ey fl).2.1).all λb=>b==255
def apF (se:Y) (fl d:aC):aN:=aq (M d>65535) ||aq (7+M d+(Ey fl).2.1>M fl / 2)
def Gb (fl:aC):Y:=Aw fl*((M fl / 2:aD):Y)+(Ey fl).2.1
def apB (fl d:aC):aC:=Dn fl (Gb fl+1) ((Bw d).drop 1)<|M<|(Bw d).drop 1
def Hk (se:Y) (fl d:aC):ba:=Dt se fl (Gb fl+1) ((Bw d).drop 1)++(Dt se (apB fl d) (Gb fl) [80]).drop 1
def B2 (x:Le):aC:=D2 x.1++(IntKind.u8.wrap x.2.1::IntKind.u8.wrap x.2.2.1::(D2 x.2.2.2.1++[IntKind.u8.wrap<|x.2.2.2.2.fdiv<|2^8,IntKind.u8.wrap x.2.2.2.2]))
def b4 (d:aC) (i:Y):Y:=gi d i*16777216+gi d (i+1)*65536+gi d (i+2)*256+gi d (i+3)
def GU (d:aC):Le:=(b4 d 0,gi d 4,gi d 5,b4 d 6,gi d 10*256+gi d 11)
def KZ (x:Le):M (B2 x)=12:=rfl
def jC (n:Y):0<=IntKind.u8.wrap n/\IntKind.u8.wrap n<=255:=cE
def uY (x:Le):BN (B2 x):=by
 unfold B2;rw [Ke,Qk,Qk,Ke,Qk,Qk];exact ⟨WG _,jC _,jC _,WG _,jC _,jC _,λx hx=>Sw⟩
def aK6 {n:Y}(h:0<=n/\n<4294967296):IntKind.u8.wrap (n.fdiv<|2^24)*16777216+IntKind.u8.wrap (n.fdiv<|2^16)*65536+IntKind.u8.wrap (n.fdiv<|2^8)*256+IntKind.u8.wrap n=n:=by
 rw [Gq,Gq,Gq,Gq,QI _ Ac,QI _ Ac,QI _ Ac];omega
def aqm {x:Le}(h:DJ x=U):GU (B2 x)=x:=by
 obtain ⟨nu,co,am,fr,tk⟩:=x;obtain ⟨h1,h2,h3,h4,h5⟩:=Kc.1 h;simp only at h1 h2 h3 h4 h5
 have e1:b4 (B2 (nu,co,am,fr,tk)) 0=nu:=aK6 (n:=nu) A0
 have e2:b4 (B2 (nu,co,am,fr,tk)) 6=fr:=aK6 (n:=fr) A0
 have e3:gi (B2 (nu,co,am,fr,tk)) 4=co:=by show IntKind.u8.wrap co=co;rw [Gq];omega
 have e4:gi (B2 (nu,co,am,fr,tk)) 5=am:=by show IntKind.u8.wrap am=am;rw [Gq];omega
 have e5:gi (B2 (nu,co,am,fr,tk)) 10*256+gi (B2 (nu,co,am,fr,tk)) 11=tk:=by
  show IntKind.u8.wrap (tk.fdiv<|2^8)*256+IntKind.u8.wrap tk=tk
  rw [Gq,Gq,QI _ Ac];omega
 unfold GU
 grind
def ldB (rs:aJ):aN:=rs.all λd=>M d==12
def CZ (se:Y) (fl:aC):Y:=if (!(se==512) || !((M fl:Y)==2048))=U then 1 else if Bs se fl≠0 then Bs se fl else if ldB (Ey fl).1=U then (if B1 ((Ey fl).1.map GU)=U then 0 else 9) else 9
def Aj (se:Y) (fl:aC):aM:=if CZ se fl=0 then (Ey fl).1.map GU else []
namespace JI
variable {fl : List Int} {w g : Int} {ds : List (List Int)} {k : Nat} {O : List Int}
def lk (h:JI fl w g ds k O):Ey fl=(ds,5+M (BS ds),U):=by
 unfold Ey;rw [h.cur.1,h.ar,h.la]
 have hp:=asJ ds
 have hl:=h.la
 rw [Ox] at hl
 have:=aGL (rest:=au k 255) (by have:=ahG k [] Ac;simpa using this) ds (80::D2 g) 1024 (λd hd=>(h.bd d hd).2) A0
 exact this
def Ut (h:JI fl w g ds k O):Bs 512 fl=0:=by
 unfold Bs;rw [h.jv,h.cur.2,h.lk];rfl
def cl (h:JI fl w g ds k O):lkC fl=true:=by
 unfold lkC;rw [h.lk,h.cur.1,h.ar,BH];intro x hx
 have e:(De g ds k).drop (5+M (BS ds))=au k 255:=by
  unfold De;rw [<-Co];exact List.drop_left' (by simp [D2];omega)
 simp only [e,Sg] at hx
 simp [hx.2]
def half (h:JI fl w g ds k O):M fl / 2=1024:=by rw [h.len]
def full (h:JI fl w g ds k O) {d:aC}(hd:M d<=65535) (hk:7+M d<=k):apF 512 fl d=false:=by
 unfold apF;rw [h.half,h.lk]
 have hl:=h.la
 rw [Ox] at hl
 simp;omega
def ag6 (g:Y) (ds:aJ) {k:aD}(n:aD) (hk:n<=k):De g ds k=((80::D2 g)++BS ds)++(au n 255++au (k-n) 255):=by
 unfold De
 simp_all
def split (h:JI fl w g ds k O) (n:aD) (hk:n<=k):∃pre post,fl=pre++(au n 255++post)/\(M pre:Y)=Gb fl/\
  ∀x:aC,pre++(x++post)=JO w (((80::D2 g)++BS ds)++(x++au (k-n) 255)) O:=by
 have hP:Gb fl=w*1024+((5+M (BS ds):aD):Y):=by unfold Gb;rw [h.half,h.cur.1,h.lk];rfl
 have h5:(M ((80::D2 g)++BS ds):Y)=((5+M (BS ds):aD):Y):=by simp [D2];omega
 have he:=h.eq
 rw [ag6 g ds n hk] at he;rcases h.hw with rfl|rfl
 ·refine ⟨(80::D2 g)++BS ds,au (k-n) 255++O,?_,A0,λx=>?_⟩
  ·rw [he];unfold JO;rw [AD rfl];simp only [Co]
  ·unfold JO;rw [AD rfl];simp only [Co]
 ·refine ⟨O++((80::D2 g)++BS ds),au (k-n) 255,?_,by rw [hP,B8];have:=h.lo;omega,λx=>?_⟩
  ·rw [he];unfold JO;rw [AE Ac];simp only [Co]
  ·unfold JO;rw [AE Ac];simp only [Co]
def app (h:JI fl w g ds k O) {d:aC}(hb:BN d) (hd:M d<=65535) (hk:7+M d<=k):
  JI (Dn (apB fl d) (Gb fl) [80] 1) w g (ds++[d]) (k-(7+M d)) O:=by
 obtain ⟨pre,post,e1,e2,e3⟩:=h.split (7+M d) hk
 have hp:Bw d=80::(Bw d).drop 1:=rfl
 have hl:=MP d
 have hby:BN ((Bw d).drop 1):=by have:=aJJ hb;rw [hp,Qk] at this;exact this.2
 have eA:apB fl d=pre++(au 1 255++((Bw d).drop 1++post)):=by
  unfold apB
  have:=fW (pre:=pre++[255]) (post:=post) (d:=(Bw d).drop 1) hby
  rw [<-e2]
  have e9:(M ((pre++[255]:aC)):Y)=(M pre:Y)+1:=AI
  rw [e9] at this
  have e0:fl=pre++[255]++(au (M<|(Bw d).drop 1) 255++post):=by
   grind
  rw [<-e0] at this;rw [this];simp
 have eB:Dn (apB fl d) (Gb fl) [80] 1=pre++(Bw d++post):=by
  rw [eA,<-e2]
  have:=fW (pre:=pre) (post:=(Bw d).drop 1++post) (d:=[80]) aOd
  grind
 have eJ:De g (ds++[d]) (k-(7+M d))=((80::D2 g)++BS ds)++(Bw d++au (k-(7+M d)) 255):=by
  unfold De;rw [aGX,show BS [d]=Bw d by simp [BS]]
  simp only [Co]
 refine ⟨by rw [eB,e3,eJ],?_,h.lo,h.bo,h.hw,h.hg,h.old,?_⟩
 ·have:=h.la
  rw [Ox] at this;rw [Ox,aGX,B8,show BS [d]=Bw d by simp [BS],hl];omega
 ·intro x hx
  rw [BZ,HJ] at hx;rcases hx with hx|rfl
  ·exact h.bd x hx
  ·exact ⟨hb,hd⟩
end JI
def aHt (se:Y) (fl d:aC) (y:Fl):(Hk se fl d).getLastD y=(se,Dn (apB fl d) (Gb fl) [80] 1):=by
 unfold Hk Dt;rw [show av (M ([80]:aC)+1)=[0,1] from rfl]
 simp
def acA {fl:aC}{w g:Y}{ls:aM}{k:aD}{O:aC}(h:JI fl w g (ls.map B2) k O) (hv:B1 ls=U):CZ 512 fl=0/\Aj 512 fl=ls:=by
 have h1:(ls.map B2).map GU=ls:=by
  rw [HG]
  have:=(GK hv).2
  calc ls.map (GU∘B2)=ls.map id:=Jo (λx hx=>aqm<|this x hx)
   _=ls:=VH _
 have h2:ldB (ls.map B2)=true:=by
  unfold ldB;rw [BH];intro d hd;obtain ⟨x,_,rfl⟩:=F4.1 hd
  simp [KZ]
 have h3:CZ 512 fl=0:=by
  unfold CZ;rw [h.Ut,h.lk,h.len];simp only [h2,h1,hv];rfl
 refine ⟨h3,?_⟩;unfold Aj
 rwa [AD h3,h.lk]
section
variable {cs : List Cd} {os : List ByteArray} {ks : List Ko} {gs : List Ch} {bs : List Ba} {l : List Le} {rs : List Ra} {d : List Dm} {t n : Int}
structure NwL (gs:aG) (am:aC) (t n:Y) (m:aM):Prop where
 at_:∀k:Y,0<=k->k<(M m:Y)->An m k=(n+k,(An m k).2.1,gi am (An m k).2.1,t,12)/\(0<=(An m k).2.1/\(An m k).2.1<(M gs:Y))/\CY (AG gs (An m k).2.1)<gi am (An m k).2.1
 up:∀k:Y,1<=k->k<(M m:Y)->(An m (k-1)).2.1<(An m k).2.1
def We {m:aM}{x:Le}{k:Y}(h0:0<=k):An (m++[x]) k=if k<(M m:Y) then An m k else if k=(M m:Y) then x else (0,0,0,0,0):=by
 unfold An;rw [DK,DK];split
 ·grind
 ·rw [Gc A0]
  split
  ·rw [show k.toNat-M m=0 by omega]
   rfl
  ·rw [Sc A8]
   rfl
def iA {am:aC}:∀ {K:aD},K<=M gs->NwL gs am t n (H7 gs l t n am K)/\∀x∈H7 gs l t n am K,x.2.1<(K:Y)
 |0,_=>⟨⟨λk h0 h1=>aP8,λk h0 h1=>aP8⟩,λx hx=>Sw⟩
 | K +1,h=>by
  obtain ⟨⟨h1,h2⟩,h3⟩:=iA (am:=am) (K:=K) A0;rw [H7];split
  ·rename_i hn
   have hf:=azQ hn
   refine ⟨⟨λk k0 k1=>?_,λk k0 k1=>?_⟩,λx hx=>?_⟩
   ·simp only [B8,BY,Bh] at k1
    rw [We k0];split
    ·grind
    ·rename_i hk
     have e:k=(M (H7 gs l t n am K):Y):=A0
     rw [AD e,e]
     grind
   ·simp only [B8,BY,Bh] at k1
    rw [We A0,We A0,AD (show k-1<(M (H7 gs l t n am K):Y) by omega)]
    split
    ·grind
    ·rename_i hk
     rw [AD (show k=(M (H7 gs l t n am K):Y) by omega)]
     exact h3 _<|Li A0 A0
   ·rw [BZ,HJ] at hx
    rcases hx with hx|rfl
    ·have:=h3 x hx;omega
    ·simp only;omega
  ·rw [Ge]
   exact ⟨⟨h1,h2⟩,λx hx=>by have:=h3 x hx;omega⟩
def aGO:B1 l=U↔M l<=64/\∀k:Y,0<=k->k<(M l:Y)->DJ (An l k)=U/\(k=0\/K4 (An l<|k-1) (An l k)=U):=by
 unfold B1;rw [AV,Aa,Dq];refine and_congr_right λ_=>⟨λh k k0 k1=>?_,λh j hj=>?_⟩
 ·have:=h k.toNat A0
  rw [CS k0] at this;unfold H5 at this;rw [AV,Cc,Aa] at this;exact this
 ·obtain ⟨h1,h2⟩:=h j A0 hj
  unfold H5
  grind
def aFR {x:Le}(h:B1 l=U) (hx:DJ x=U) (hl:M l<64) (hf:M l=0\/K4 (An l<|(M l:Y)-1) x=U):B1 (l++[x])=true:=by
 rw [aGO] at h|-;refine ⟨A8,λk k0 k1=>?_⟩
 simp only [B8,BY,Bh] at k1;rw [We k0];split
 ·rename_i hk
  obtain ⟨h1,h2⟩:=h.2 k k0 hk;refine ⟨h1,?_⟩;rcases h2 with h2|h2
  ·grind
  ·by_cases e:k=0
   ·exact .inl e
   ·rw [We A0,AD A0]
    grind
 ·rename_i hk
  have e:k=(M l:Y):=A0
  rw [AD e];refine ⟨hx,?_⟩;rcases hf with hf|hf
  ·omega
  ·by_cases e0:k=0
   ·grind
   ·rw [We A0,AD A0,e]
    grind
structure Fit (l:aM) (n t:Y):Prop where
 les:B1 l=U
 last:M l=0\/((An l ((M l:Y)-1)).1<n/\(An l ((M l:Y)-1)).2.2.2.1<=t)
def Fit.mono {n' t':Y}(h:Fit l n t) (hn:n<=n') (ht:t<=t'):Fit l n' t':=⟨h.les,by
 rcases h.last with h1|h1
 ·exact .inl h1
 ·exact .inr A0⟩
def acC {b:Y}{j:Y}(hj:0<=j):∀(l:aM) (o:aC),(∀x∈l,0<=x.2.1/\x.2.1<(M o:Y))->gi o j<=b->(∀x∈l,x.2.1=j->x.2.2.1<=b)->gi (l.foldl Jh o) j<=b
 | [],_,_,h,_=>h
 | x::l,o,hc,h,hx=>by
  have hx0:=hc x AI
  refine acC hj l _ (λy hy=>aOt) ?_ λy hy=>hx y A8
  unfold Jh;rw [J7 hx0.1 hx0.2 hj];split
  ·rename_i e
   have:=hx x AI e.symm
   rw [<-e];exact ND
  ·exact h
def acD {j:Y}(hj:0<=j):∀(l:aM) (o:aC),(∀x∈l,0<=x.2.1/\x.2.1<(M o:Y))->gi o j<=gi (l.foldl Jh o) j/\∀x∈l,x.2.1=j->x.2.2.1<=gi (l.foldl Jh o) j
 | [],_,_=>⟨Cz _,λx hx=>Sw⟩
 | x::l,o,hc=>by
  rw [KL]
  have hx0:=hc x AI
  obtain ⟨h1,h2⟩:=acD hj l (Jh o x) λy hy=>aOt
  have h3:gi o j<=gi (Jh o x) j/\(x.2.1=j->x.2.2.1<=gi (Jh o x) j):=by
   unfold Jh;rw [J7 hx0.1 hx0.2 hj];split
   ·rename_i e
    rw [<-e];exact ND
   ·rename_i e
    omega
  refine ⟨A0,λy hy e=>?_⟩
  rcases B9.1 hy with rfl|hy
  ·have:=h3.2 e
   omega
  ·grind
def aUR (hv:B1 l=U) (hb:below (M gs) l=U):∀x∈l.filter (FZ t),0<=x.2.1/\x.2.1<(M (au (M gs) (0:Y)):Y):=λx hx=>by
 have hx:=(Ce.1 hx).1
 have h1:=Kc.1<|(GK hv).2 x hx
 have h2:=Ct<|BH.1 hb x hx
 rw [Cf];omega
def aL7 {b j:Y}(hv:B1 l=U) (hb:below (M gs) l=U) (hj:0<=j) (b0:0<=b) (h:∀x∈l,FZ t x=U->x.2.1=j->x.2.2.1<=b):gi (GQ (M gs) l t) j<=b:=
 acC hj _ _ (aUR hv hb) (by rw [Jv];exact b0) (λx hx e=>h x (Ce.1 hx).1 (Ce.1 hx).2 e)
def tV (hv:B1 l=U) (hb:below (M gs) l=U) {x:Le}(hx:x∈l) (ha:FZ t x=U):x.2.2.1<=gi (GQ (M gs) l t) x.2.1:=by
 have h1:=Kc.1<|(GK hv).2 x hx
 exact (acD h1.2.1.1 _ _<|aUR hv hb).2 x (Ce.2 ⟨hx,ha⟩) rfl
end
abbrev ao6 (a b:Le):Prop:=a.1<b.1/\a.2.2.2.1<=b.2.2.2.1
def tN {l:aM}:B1 l=U↔M l<=64/\(∀x∈l,DJ x=U)/\l.Pairwise ao6:=by
 refine ⟨λh=>⟨(GK h).1,(GK h).2,aFS h⟩,λ⟨h1,h2,h3⟩=>aGO.2 ⟨h1,λk k0 k1=>⟨h2 _<|Li k0 k1,?_⟩⟩⟩
 by_cases e:k=0
 ·exact .inl e
 ·right
  have:=mJ.1 h3 (k-1).toNat k.toNat A0 A0 A0
  rw [<-Md,<-Md] at this;unfold K4;rw [Cb (p:=(An l k).1>_) this.1,Cb (p:=(An l k).2.2.2.1>=_) this.2];rfl
def qL {l m:aM}(h:B1 l=U) (hs:m.Sublist l):B1 m=true:=by
 rw [tN] at h|-
 grind
def grS (o:aM) (x:Le):aM:=if FX o x=0 then GO o x else o
def wB {o:aM}{x:Le}(h:B1 o=U):B1 (grS o x)=U/\(grS o x=o\/grS o x=o++[x]):=by
 unfold grS;split
 ·rename_i e
  have e2:GO o x=o++[x]:=by unfold GO;rw [AD e]
  rw [e2];refine ⟨?_,.inr rfl⟩;unfold FX at e;split at e
  ·rename_i c
   rw [AV] at c;split at e
   ·omega
   ·rename_i c2
    split at e
    ·omega
    ·rename_i c3
     have:=(GK h).1
     refine aFR h c.2 A0 ?_
     by_cases q:M o=0
     ·exact .inl q
     ·right
      grind
  ·omega
 ·grind
def ckO (m:Y) (e:Ld):aN:=aq (e.1<=m)&&(aq (e.2.1<=m)&&aq (e.2.2<=m))
def ckN (cs:aL) (L:bE) (k:aD):aN:=DQ k λo=>ckO (DD<|Ad cs o)<|Du L o.toNat
def gLi (l:bE) (i:Y):Ld:=gx (e:=.pair A7 Aq) l i
def MD (m:Y) (e:Ld) (t:Y):aN:=(aq (t>0) ||aq (e.1<=m))&&((aq (t>1) ||aq (e.2.1<=m))&&(aq (t>2) ||aq (e.2.2<=m)))
def anv {m:Y}{e:Ld}:MD m e 0=ckO m e:=by simp [MD,ckO]
def DA (cs:aL) (gs:aG) (m:aC):aN:=ckN cs (Jg cs gs m<|M gs)<|M cs
section
variable {cs : List Cd} {os : List ByteArray} {ks : List Ko} {gs : List Ch} {bs : List Ba} {l : List Le} {rs : List Ra} {d : List Dm} {t n : Int}
def fc {m:aC}(hs:BB cs os ks gs bs=U) (hm:∀k:aD,k<M gs->0<=gi m k/\gi m k<=80):DA cs gs m=U↔∀o:aD,o<M cs->∀p:Y,(p=0\/p=1\/p=2)->EB m (Bz gs p<|Cs cs gs o<|M gs)<=DD (Ad cs o):=by
 have gl:=(D7.1 hs).1.2.2.2.2.1
 have hat:=(aST (qW hs) (qX hs) A0 hm (M gs)<|Ar _).2
 unfold DA ckN;rw [Dq]
 constructor
 ·intro h o ho p hp
  have h1:=h o A0
  rw [C0,hat o ho] at h1;unfold ckO ldO at h1;simp only [AV,Aa] at h1;rcases hp with rfl|rfl|rfl
  ·exact h1.1
  ·exact h1.2.1
  ·exact h1.2.2
 ·intro h o ho
  rw [C0,hat o A0];unfold ckO ldO
  grind
def uR {a b:aC}:∀ {L:aC},(∀k∈L,gi a k<=gi b k)->EB a L<=EB b L
 | [],_=>Cz _
 |k::L,h=>by
  have h1:=h k AI
  have h2:=uR (a:=a) (b:=b) (L:=L) λj hj=>h j<|N8 _ hj
  simp only [EB];omega
def aQ4 {a al am:aC}:∀ {L:aC},(∀k∈L,gi a k<=mx (gi al k) (gi am k))->EB a L<=IG al am L
 | [],_=>by simp [EB,IG]
 |k::L,h=>by
  have h1:=h k AI
  have h2:=aQ4 (a:=a) (al:=al) (am:=am) (L:=L) λj hj=>h j<|N8 _ hj
  rw [T9];simp only [EB];omega
def aGS {c:aD}{p:Y}(hp:p=0\/p=1\/p=2) (hl:M (Bz gs p<|Cs cs gs c<|M gs)>0):∀ {k:aD},c<k->(DD<|Ad cs c,Bz gs p<|Cs cs gs c<|M gs)∈Cw cs gs k
 |0,h=>A0
 | k+1,h=>by
  rw [Cw,BZ]
  by_cases e:c=k
  ·right
   unfold cQ
   have:(DD<|Ad cs c,Bz gs p<|Cs cs gs c<|M gs)∈rowP cs gs c p:=by
    unfold rowP;rw [AD hl]
    simp
   rcases hp with rfl|rfl|rfl
   ·grind
   ·grind
   ·grind
  ·exact .inl<|aGS hp hl A0
def Qp {j:Y}(j0:0<=j) (j1:j<(M gs:Y)):gi (Cx gs l t) j=mx (CY<|AG gs j) (gi (GQ (M gs) l t) j):=NO j0 j1
def IW {l2:aM}{t2:Y}(hs:BB cs os ks gs bs=U) (hv:B1 l2=U) {j:Y}(j0:0<=j) (j1:j<(M gs:Y)):0<=gi (Cx gs l2 t2) j/\gi (Cx gs l2 t2) j<=80:=by
 have hch:chW (AG gs j)=true:=by
  have:=NT hs j0 j1
  unfold G4 at this
  grind
 have hc:=gL hch
 have h:=jt (a:=0) (b:=80) (j:=j) Ac<|tW (t:=t2) (m:=M gs) hv
 rw [Qp j0 j1];exact ND
end
def isW (se:Y) (fl:aC) (s:Y):aN:=!(((fl.drop (s*se).toNat).take se.toNat).all λb=>b==255)
def G0 (se:Y) (f0:aC) (s:Y):aD->List Fl×List Int->List Fl×List Int
 |0,a=>a
 |n+1,a=>G0 se f0 (s+1) n (if isW se f0 s=U then (a.1++(erL se a.2 s).drop 1,Ew a.2 (s*se) se.toNat) else a)
def rwF (fl:aC) (ds:aJ):aN:=aq (5+(ds.map λd=>7+M d).sum<=M fl / 2)&&ds.all (λd=>aq<|M d<=65535)
def GC (se:Y) (fl:aC) (ds:aJ):Y:=if Bs se fl≠0 then Bs se fl else if (!rwF fl ds ||(JS fl (Aw fl)==4294967295))=U then 10 else 0
def Hg (se:Y) (fl:aC):List Fl×List Int:=letI a:=((M fl / 2:aD):Y);G0 se fl ((1-Aw fl)*a.tdiv se) (a.tdiv se).toNat ([(se,fl)],fl)
def H9 (fl:aC):Y:=(1-Aw fl)*((M fl / 2:aD):Y)
def Eh (fl:aC) (ds:aJ):aC:=D2 (JS fl (Aw fl)+1)++BS ds
def rwP (se:Y) (fl:aC) (ds:aJ):aC:=Dn (Hg se fl).2 (H9 fl+1) (Eh fl ds)<|M<|Eh fl ds
def GB (se:Y) (fl:aC) (ds:aJ):ba:=if GC se fl ds=0 then (Hg se fl).1++((Dt se (Hg se fl).2 (H9 fl+1)<|Eh fl ds).drop 1++(Dt se (rwP se fl ds) (H9 fl) [80]).drop 1) else []
def Eu (se:Y) (fl d:aC):Y:=if Bs se fl≠0 then Bs se fl else if apF se fl d=U then 10 else if lkC fl=U then 0 else GC se fl ((Ey fl).1++[d])
def Hj (se:Y) (fl d:aC):ba:=if Bs se fl≠0 then [] else if apF se fl d=U then [] else if lkC fl=U then Hk se fl d else GB se fl ((Ey fl).1++[d])
def IK (l:aM) (x:Le) (t:Y):aJ:=letI a:=(An l<|(M l:Y)-1);((BW l t).map B2)++((if M l>0/\(M (BW l t)=0\/(An (BW l t)<|(M (BW l t):Y)-1).1≠a.1) then [B2 a] else [])++[B2 x])
def HW (l:aM) (x:Le):aN:=letI a:=(An l<|(M l:Y)-1);decide (M l>0)&&(aq (x.1<=a.1) ||aq (x.2.2.2.1<a.2.2.2.1))
def EO (se:Y) (fl:aC) (x:Le) (t:Y):Y:=
 if CZ se fl≠0 then CZ se fl else if (!DJ x || !inB t 0 1100000)=U then 1 else if HW (Aj se fl) x=U then 12 else
 if Eu se fl (B2 x)≠10 then Eu se fl (B2 x) else GC se fl (IK (Aj se fl) x t)
def Cq (se:Y) (fl:aC) (x:Le) (t:Y):ba:=
 if CZ se fl≠0 then [] else if (!DJ x || !inB t 0 1100000)=U then [] else if HW (Aj se fl) x=U then [] else
 if Eu se fl (B2 x)≠10 then Hj se fl (B2 x) else GB se fl (IK (Aj se fl) x t)
def Ip (se:Y) (fl:aC):Y:=if CZ se fl≠0 then CZ se fl else if M (Aj se fl)=0 then 0 else if (An (Aj se fl)<|(M (Aj se fl):Y)-1).1=1000000 then 10 else 0
def Jd (se:Y) (fl:aC):Y:=letI a:=(An (Aj se fl)<|(M (Aj se fl):Y)-1);if CZ se fl≠0 then 0 else if M (Aj se fl)=0 then 1 else if a.1=1000000 then 0 else a.1+1
structure SN where
 ls:aM
 se:Y
 fl:aC
 nx:Y
 lk:bz
def Th (t:Y) (x:Le):Lk:=(t+(7*t+3*x.2.1).tmod 5,x)
def F9 (t:Y) (s:SN) (x:Le):SN:=
 if FX s.ls x=0/\EO s.se s.fl x t=0 then
  ⟨GO s.ls x,(GV (Cq s.se s.fl x t)<|(M (Cq s.se s.fl x t):Y)-1).1,(GV (Cq s.se s.fl x t)<|(M (Cq s.se s.fl x t):Y)-1).2,x.1+1,s.lk++[Th t x]⟩
 else s
def EL (t:Y) (xs:aM) (s:SN):aD->SN
 |0=>s
 |k+1=>F9 t (EL t xs s k)<|An xs k
def Dv (l:aM) (t:Y):aM:=if DO l t=0 then BW l t else l
namespace PK
variable (p : PK)
def EA:aL:=Dz p.cs p.tg<|M p.tg
def dE:Y:=deE p.EA p.os p.ks p.gs p.bs (Dv p.ls p.tk) p.ra p.dm p.tk p.nx
def dR:bx:=deR p.EA p.os p.ks p.gs p.bs (Dv p.ls p.tk) p.ra p.dm p.tk p.nx
def dL:aM:=deL p.EA p.os p.ks p.gs p.bs (Dv p.ls p.tk) p.ra p.dm p.tk p.nx
def GA:SN:=⟨Dv p.ls p.tk,p.se,p.fl,p.nx,p.lk⟩
def sn1:SN:=EL p.tk p.dL p.GA<|M p.dL
def AK:PK:=if p.up=X then p else if p.dE≠0 then {p with ls:=Dv p.ls p.tk} else {p with ra:=p.dR,ls:=p.sn1.ls,se:=p.sn1.se,fl:=p.sn1.fl,nx:=p.sn1.nx,lk:=p.sn1.lk}
def L2:PK:={p with st:=LH p.gs p.lk p.tk p.st<|M p.lk,lk:=p.lk.filter λl=>aq<|l.1>p.tk}
def cZ:PK:={p with st:=JT p.gs p.dr p.tk p.st<|M p.dr}
def dw:DW:=DR p.gs p.ca ⟨p.st,p.mi,p.me,au (M p.gs) 0⟩<|M p.gs
def BX:PK:={p with st:=p.dw.st,mi:=p.dw.mi,me:=p.dw.me}
end PK
def Cl (gs:aG) (tg:aC) (am:aC) (cs:aL):aD->List Cd
 |0=>cs
 |k+1=>if gi tg k>=(Ad (Cl gs tg am cs k) k).2.2.1 then Cl gs tg am cs k else
  if (aq (M am=M gs)&&DA ((Cl gs tg am cs k).set k<|GW (Ad (Cl gs tg am cs k) k)<|gi tg k) gs am)=U then (Cl gs tg am cs k).set k (GW (Ad (Cl gs tg am cs k) k)<|gi tg k) else Cl gs tg am cs k
namespace PK
variable (p : PK)
def Jj:aC:=if JV p.ls (M p.gs) (p.tk+1)=0 then Cx p.gs p.ls (p.tk+1) else []
def K5:PK:={p with cs:=if p.up=X then p.cs else Cl p.gs p.tg p.Jj p.cs (M p.tg)}
def endP:PK:={p with tk:=p.tk+1}
def Ag:PK:=p.AK.L2.cZ
def BM:PK:=p.Ag.BX.K5.endP
def Fp:aC:=p.Ag.dw.dw
def Ic:Y:=if p.tk=1000000 then 15 else 0
end PK
namespace PK
variable (p : PK) (n m : Int) (c : Ca) (d : Dm)
def isC:aN:=inB n 0<|(M p.gs:Y)-1
def GM:Y:=if p.isC n=X then 1 else if (!GF c || !HE d)=U then 1 else if ((Be p.ca n).2.2.1 !=0 ||(BL p.st n).1 !=0)=U then 6 else 0
def aBG:bg:=CU p.gs (CU p.gs (CU p.gs (CU p.gs p.st n 1 0 0) n 3 0 0) n 4 1 0) n 5 0 0
def Nt:PK:={p with ca:=p.ca.set n.toNat c,mi:=p.mi.set n.toNat ([],0,0),dm:=p.dm.set n.toNat d,st:=p.aBG n}
def JG:Y:=if p.isC n=X then 1 else if (Be p.ca n).2.2.1=0 then 4 else 0
def Q0:PK:={p with ca:=p.ca.set n.toNat (0,0,0,0,0),mi:=p.mi.set n.toNat ([],0,0),dm:=p.dm.set n.toNat (X,0,0,9),st:=CU p.gs (CU p.gs p.st n 6 0 0) n 2 0 0}
def Nv:Y:=if p.isC n=X then 1 else 0
def ja:PK:={p with lk:=p.lk.filter λl=>l.2.2.1 !=n}
def Nx:Y:=if p.up=X then 6 else 0
def Tx:PK:={p with up:=X,ls:=[]}
def Fq:Y:=if p.up=U then 6 else if CZ p.se p.fl≠0 then CZ p.se p.fl else if DO (Aj p.se p.fl) p.tk≠0 then DO (Aj p.se p.fl) p.tk else Ip p.se p.fl
def U8:PK:={p with up:=U,ls:=BW (Aj p.se p.fl) p.tk,nx:=Jd p.se p.fl,ra:=au (M p.gs) (0,0)}
def Nr:Y:=if p.isC n=X then 1 else sE (AG p.gs n) (BL p.st n) 6 1 0
def aa6:PK:={p with st:=CU p.gs p.st n 6 1 0}
def LF:PK:={p with tg:=p.tg.set n.toNat m}
def I7:Y:=if (!inB n 0 ((M p.cs:Y)-1) || !inB m 1 (Ad p.cs n).2.2.1)=U then 1 else if DA (p.LF n m).EA p.gs (Bq p.gs)=X then 13 else 0
end PK
def Er (p:PK):aN:=(BB p.cs p.os p.ks p.gs p.bs&&inB p.tk 0 1000000)&&((aq (M p.st=M p.gs)&&(aq (M p.ca=M p.gs)&&(aq (M p.mi=M p.gs)&&(aq (M p.me=M p.gs)&&(aq (M p.dm=M p.gs)&&aq (M p.dr=M p.gs))))))&&
 (aq (M p.tg=M p.cs)&&(DQ (M p.tg) (λk=>inB (gi p.tg k) 1 (Ad p.cs k).2.2.1)&&(p.dr.all (λx=>inB x (-200) 200)&&p.lk.all (λl=>inB l.2.2.1 0<|(M p.gs:Y)-1)))))
structure EV where
 (ek en em:Y)
 c:Ca
 d:Dm
def PK0:PK:=⟨[],[],[],[],[],0,X,[],0,[],[],0,[],[],[],[],[],[],[],[]⟩
def Bk (p:PK) (e:EV):Y:=if Er p=X then 1 else if e.ek=1 then p.Ic else if e.ek=2 then p.GM e.en e.c e.d else if e.ek=3 then p.JG e.en else if e.ek=4 then p.Nv e.en else if e.ek=5 then p.Nx else if e.ek=6 then p.Fq else if e.ek=7 then p.Nr e.en else if e.ek=8 then p.I7 e.en e.em else 9
def BA (p:PK) (e:EV):PK:=if Bk p e≠0 then PK0 else if e.ek=1 then p.BM else if e.ek=2 then p.Nt e.en e.c e.d else if e.ek=3 then p.Q0 e.en else if e.ek=4 then p.ja e.en else if e.ek=5 then p.Tx else if e.ek=6 then p.U8 else if e.ek=7 then p.aa6 e.en else p.LF e.en e.em
def DI (p:PK) (e:EV):aC:=if Bk p e≠0 then [] else if e.ek=1 then p.Fp else []
def H3 (cs:aL) (os:aF) (ks:aR) (gs:aG) (bs:aS) (dr:aC):Y:=
 if BB cs os ks gs bs=X\/M dr≠M gs then 1 else if dr.all (λx=>inB x (-200) 200)=X then 1 else if DA cs gs (Bq gs)=X then 13 else 0
def Eb:aC:=De 0 [] 1019++au 1024 255
def newP (cs:aL) (os:aF) (ks:aR) (gs:aG) (bs:aS) (dr:aC):PK:=if H3 cs os ks gs bs dr≠0 then PK0 else
 ⟨cs,os,ks,gs,bs,0,U,[],512,Eb,au (M gs) (0,0),1,au (M gs) (0,0,0,X),au (M gs) (0,0,0,0,0),au (M gs) ([],0,0),(Fz<|M gs).map λk=>(k+1,0,X),au (M gs) (X,0,0,9),[],dr,cs.map λc=>c.2.2.1⟩
def akP {fl:aC}{g:Y}{vl:aM}{k:aD}{O:aC}{x:Le}{t:Y}{w:Y}(h:JI fl w g (vl.map B2) k O) (hv:B1 vl=U) (hx:FX vl x=0) (ht:inB t 0 1100000=U) (hk:19<=k):
  EO 512 fl x t=0/\(∃fl',GV (Cq 512 fl x t) ((M (Cq 512 fl x t):Y)-1)=(512,fl')/\JI fl' w g ((vl++[x]).map B2) (k-19) O)/\B1 (vl++[x])=true:=by
 obtain ⟨h1,h2⟩:=acA h hv
 have hl:=KZ x
 have hx':=hx
 unfold FX at hx'
 have hlx:DJ x=true:=by
  cases e:DJ x
  ·grind
  ·rfl
 rw [hv,hlx] at hx'
 have ho:HW vl x=false:=by
  by_cases hg:M vl>0
  ·have hf:K4 (An vl<|(M vl:Y)-1) x=true:=by
    cases e:K4 (An vl<|(M vl:Y)-1) x
    ·grind
    ·rfl
   unfold K4 at hf;unfold HW
   grind
  ·unfold HW;simp;intro h;omega
 have hfull:=h.full (d:=B2 x) A0 A0
 have hap:Eu 512 fl (B2 x)=0:=by
  unfold Eu;rw [h.Ut,hfull,h.cl];rfl
 have har:Hj 512 fl (B2 x)=Hk 512 fl (B2 x):=by
  unfold Hj;rw [h.Ut,hfull,h.cl];rfl
 have hE:EO 512 fl x t=0:=by
  unfold EO;rw [h1,h2,hap,hlx,ht,ho];rfl
 have hL:Cq 512 fl x t=Hk 512 fl (B2 x):=by
  unfold Cq;rw [h1,h2,hap,hlx,ht,ho,har];rfl
 refine ⟨hE,⟨Dn (apB fl<|B2 x) (Gb fl) [80] 1,?_,?_⟩,?_⟩
 ·rw [hL]
  have hne:Hk 512 fl (B2 x)≠ []:=by
   unfold Hk Dt
   simp
  have:=aHt 512 fl (B2 x) (0,[])
  unfold GV;exact this
 ·have:=h.app (uY x) A0 (by rw [hl];omega)
  rw [KK];exact this
 ·have hg:=(wB (x:=x) hv).1
  unfold grS GO at hg;rw [AD hx,AD hx] at hg;exact hg
structure QV where
 p:PK
 vl:aM
 ok:aN
def V6 (t:Y) (s:SN×List Le×Bool) (x:Le):SN×List Le×Bool:=
 if FX s.1.ls x=0 then (if FX s.2.1 x=0/\inB t 0 1100000=U/\19*(M s.2.1+1)<=1019 then (⟨GO s.1.ls x,0,[],x.1+1,s.1.lk++[Th t x]⟩,s.2.1++[x],s.2.2) else (s.1,s.2.1,X)) else s
def Ns (t:Y) (xs:aM) (s:SN×List Le×Bool):aD->SN×List Le×Bool
 |0=>s
 |k+1=>V6 t (Ns t xs s k)<|An xs k
def RV (se:Y) (fl:aC) (vl:aM):Prop:=se=512/\B1 vl=U/\∃k O,JI fl 0 0 (vl.map B2) k O/\k+19*M vl=1019
def RN (s:SN) (q:SN×List Le×Bool):Prop:=q.1={s with se:=0,fl:=[]}/\RV s.se s.fl q.2.1
def aIT {t:Y}{s:SN×List Le×Bool}{x:Le}(h:(V6 t s x).2.2=U):s.2.2=true:=by
 unfold V6 at h;split at h
 ·split at h
  ·exact h
  ·cases h
 ·exact h
def aro {t:Y}{s:SN}{q:SN×List Le×Bool}{x:Le}(h:RN s q) (hq:(V6 t q x).2.2=U):RN (F9 t s x) (V6 t q x):=by
 obtain ⟨h1,h2,h3,k,O,h4,h5⟩:=h
 have hls:q.1.ls=s.ls:=by rw [h1]
 unfold V6 at hq|-;unfold F9;rw [hls] at hq|-
 by_cases hg:FX s.ls x=0
 ·rw [AD hg] at hq|-
  by_cases hc:FX q.2.1 x=0/\inB t 0 1100000=U/\19*(M q.2.1+1)<=1019
  ·rw [AD hc] at hq|-
   obtain ⟨c1,c2,c3⟩:=hc;obtain ⟨e1,⟨fl',e2,e3⟩,e4⟩:=akP (t:=t) h4 h3 c1 c2 A0;rw [h2] at*;rw [AD ⟨hg,e1⟩,e2];refine ⟨A8,rfl,e4,k-19,O,e3,?_⟩;simp only [B8,BY,Bh];omega
  ·rw [AE hc] at hq
   cases hq
 ·rw [AE hg,AE λhh=>hg hh.1]
  exact ⟨h1,h2,h3,k,O,h4,h5⟩
def aIU {t:Y}{xs:aM}{s:SN×List Le×Bool}:∀n,(Ns t xs s n).2.2=U->s.2.2=U
 |0,h=>h
 |n+1,h=>aIU n<|aIT h
def aG0 {t:Y}{xs:aM}{s:SN}{q:SN×List Le×Bool}(h:RN s q):∀n,(Ns t xs q n).2.2=U->RN (EL t xs s n) (Ns t xs q n)
 |0,_=>h
 |n+1,hq=>aro (aG0 h n<|aIT hq) hq
namespace QV
variable (q : QV)
def sn:SN×List Le×Bool:=Ns q.p.tk q.p.dL (q.p.GA,q.vl,q.ok)<|M q.p.dL
def dec:QV:=if q.p.up=X then q else if q.p.dE≠0 then {q with p:={q.p with ls:=Dv q.p.ls q.p.tk}} else ⟨{q.p with ra:=q.p.dR,ls:=q.sn.1.ls,nx:=q.sn.1.nx,lk:=q.sn.1.lk},q.sn.2.1,q.sn.2.2⟩
def bef:QV:={q.dec with p:=q.dec.p.L2.cZ}
def tick:QV:={q.bef with p:=q.bef.p.BX.K5.endP}
def Fp:aC:=q.bef.p.dw.dw
end QV
def RP (p:PK) (q:QV):Prop:=q.p={p with se:=0,fl:=[]}/\RV p.se p.fl q.vl
def avu {p:PK}{q:QV}(h:RP p q) (hq:q.dec.ok=U):RP p.AK q.dec:=by
 obtain ⟨qp,vl,ok⟩:=q;obtain ⟨h1,h2⟩:=h;subst h1
 have eq:QV.dec ⟨{p with se:=0,fl:=[]},vl,ok⟩=if p.up=X then ⟨{p with se:=0,fl:=[]},vl,ok⟩ else if p.dE≠0 then ⟨{p with se:=0,fl:=[],ls:=Dv p.ls p.tk},vl,ok⟩ else
  ⟨{p with se:=0,fl:=[],ra:=p.dR,ls:=(Ns p.tk p.dL ({p.GA with se:=0,fl:=[]},vl,ok)<|M p.dL).1.ls,nx:=(Ns p.tk p.dL ({p.GA with se:=0,fl:=[]},vl,ok)<|M p.dL).1.nx,lk:=(Ns p.tk p.dL ({p.GA with se:=0,fl:=[]},vl,ok)<|M p.dL).1.lk},
   (Ns p.tk p.dL ({p.GA with se:=0,fl:=[]},vl,ok)<|M p.dL).2.1,(Ns p.tk p.dL ({p.GA with se:=0,fl:=[]},vl,ok)<|M p.dL).2.2⟩:=rfl
 rw [eq] at hq|-;unfold PK.AK
 by_cases hu:p.up=X
 ·rw [AD hu,AD hu]
  exact ⟨rfl,h2⟩
 ·rw [AE hu] at hq
  rw [AE hu,AE hu]
  by_cases hd:p.dE≠0
  ·rw [AD hd,AD hd]
   exact ⟨rfl,h2⟩
  ·rw [AE hd] at hq
   rw [AE hd,AE hd]
   have hs:RN p.GA ({p.GA with se:=0,fl:=[]},vl,ok):=⟨rfl,h2⟩
   obtain ⟨k1,k2⟩:=aG0 hs (M p.dL) hq;refine ⟨?_,k2⟩;rw [k1];rfl
def aG8 {p:PK}{q:QV}(h:RP p q) (hq:q.tick.ok=U):RP p.BM q.tick/\p.Fp=q.Fp:=by
 obtain ⟨h1,h2⟩:=avu h hq;refine ⟨⟨?_,h2⟩,?_⟩
 ·show q.dec.p.L2.cZ.BX.K5.endP=_
  rw [h1];rfl
 ·show _=q.dec.p.L2.cZ.dw.dw
  rw [h1];rfl
def FG:EV:=⟨1,0,0,(0,0,0,0,0),(X,0,0,0)⟩
def OR:aD->PK->Y->PK×Int×Bool
 |0,p,l=>(p,l,U)
 |n+1,p,l=>if Bk p FG=0/\M (DI p FG)=M (BA p FG).ca then OR n (BA p FG) (if M (DI p FG)>0 then gi (DI p FG) 0 else l) else (p,l,X)
def aqf {p:PK}{q:QV}(h:RP p q):Er q.p=Er p:=by rw [h.1];rfl
def bO:aF:=[aw #[111]]
def bD:Dm:=(U,0,500,1)
def iY:JI Eb 0 0 ([]:aJ) 1019 (au 1024 255) where
 eq:=rfl
 la:=by rw [Ox];rfl
 lo:=Cf
 bo:=gG _
 hw:=.inl rfl
 hg:=Ac
 old:=λh=>absurd h Ac
 bd:=λd hd=>Vf
def aTw:aE->T LV
 | [.v (ah J r),.v (ah J m)]=> .req ((0<=r/\r<=1000000)/\0<=m/\m<=3000000) (.ok<|.v<|ah J<|m*r / 1000000)
 |_=> .no
def abm:aO:=[]
def akG:=vo (S:=aTw) func108 abm kN (λargs lv h=>by
 unfold aTw at h;split at h
 ·rename_i r m
  refine Au (.req ((1000000:Y)≠0)<|.ok<|AA<|(AA<|m*r).tdiv 1000000) ?_;obtain ⟨⟨hr,hm⟩,rfl⟩:=h
  have h1:=aoS (a:=m) (b:=r) hm.1 hm.2 hr.1 hr.2
  refine ⟨A0,B0 (λz=>LV.v<|ah J z) ?_⟩
  rw [AJ (x:=m*r),IN h1.1,AJ]
 ·cases h)
def aKp:aE->T LV
 | [.v (ah J n)]=> .ok (inB n 0 1000000)
 |_=> .no
def aPj:=vo (S:=aKp) func107 abm kN (λargs lv h=>by
 unfold aKp at h;split at h
 ·rename_i n
  refine Au (.ok<|.v<|.bool<|(aq<|n>=0)&&(aq<|n<=1000000)) ?_;exact h
 ·cases h)
structure PU where
 (low high r n:Y)
def aAK (s:PU):T (Rd PU):=letI a:=AA<|s.low+(AA<|(AA<|s.high-s.low).tdiv 2);.br (aq<|s.low<s.high) (.req ((2:Y)≠0)<|.req ((0<=s.r/\s.r<=1000000)/\0<=a/\a<=3000000)<|.br (aq<|(a*s.r / 1000000)>=s.n) (.nx {s with high:=a})<|.nx {s with low:=AA<|a+1})<|.so (.exit 0) s
def ke (s:PU):Prop:=s.low=0/\s.high=2*s.n+2/\s.r=999800/\0<=s.n/\s.n<=1000000
def YP (s:PU):Prop:=(0<=s.low/\s.low<=wt s.n)/\(wt s.n<=s.high/\s.high<=2*s.n+2)/\s.r=999800/\0<=s.n/\s.n<=1000000
def gQ (s:PU):aD:=(s.high-s.low).toNat
def aCC (x:Ex) (s s':PU):Prop:=x=.exit 0/\s'.low=wt s'.n
def alb:∀s,ke s->YP s:=by
 rintro s ⟨h0,h1,h2,h3,h4⟩
 have:=aa4 h3
 exact ya
def agS:Da YP gQ aCC aAK:=by
 intro s hI;obtain ⟨⟨h0,h1⟩,⟨h2,h3⟩,h4,h5,h6⟩:=hI;refine AH (λc1=>?_) λc1=>?_
 ·have c1:s.low<s.high:=AY
  have hd:(s.high-s.low).tdiv 2=(s.high-s.low) / 2:=IN A0
  have hm:AA (s.low+AA ((AA<|s.high-s.low).tdiv 2))=s.low+(s.high-s.low) / 2:=by
   rw [AJ (x:=s.high-s.low),hd,AJ (x:=(s.high-s.low) / 2),AJ]
  rw [hm];refine AH (λc2=>?_) λc2=>?_
  ·rw [Aa,h4,aPk] at c2
   exact ⟨⟨⟨h0,h1⟩,⟨AZ,AZ⟩,h4,h5,h6⟩,by simp only [gQ];omega⟩
  ·rw [DB,h4,aPk] at c2
   rw [AJ (x:=s.low+(s.high-s.low) / 2+1)];exact ⟨⟨⟨A8,AZ⟩,⟨h2,h3⟩,h4,h5,h6⟩,by simp only [gQ];omega⟩
 ·have c1:s.high<=s.low:=AY
  exact VL
def ZQ:AS PU:=⟨3,24,[0,1,2],[],λs=>[s.low,s.high,.fn 204 [.own 1 0,.own 0 0,.own 2 0]],λs=>[⟨[s.r],221,.cl,X⟩,⟨[.fn 108 []],292,.cl,X⟩,⟨[s.n],3,.cl,X⟩],λv b=>⟨AL v 0,AL v 1,Am b 0 0,Am b 2 0⟩,aAK,λs r=> {r with r:=s.r,n:=s.n},λs=>s,λ_ s=>s,[.exit 0],ke,YP,gQ⟩
abbrev aI0:=ZQ.run
abbrev auI:=ZQ.Av
def U2:aO:=[aPj,akG]
def an5:Az:=kI U2<|l0 U2
def ayR:Rq YP aAK:=by
 intro s hI;refine ⟨λc1=>⟨?_,?_,λ_=>trivial,λ_=>trivial⟩,λ_=>trivial⟩
 all_goals ((obtain ⟨⟨h0,h1⟩,⟨h2,h3⟩,h4,h5,h6⟩:=hI;simp only [Aa] at c1;first|decide|(have hd:(s.high-s.low).tdiv 2=(s.high-s.low) / 2:=IN A0;have hm:AA (s.low+AA ((AA<|s.high-s.low).tdiv 2))=s.low+(s.high-s.low) / 2:=(by rw [AJ (x:=s.high-s.low),hd,AJ (x:=(s.high-s.low) / 2),AJ]);rw [hm];omega)))
def aSJ:ZQ.Ok:={}
def aQL:ZQ.Pf (aCC):=⟨alb,λs h=>rfl,agS,ayR⟩
def arL:=s2 (b:=bN f203 0) aSJ aQL U2 an5
def atU:Fi ke YP aCC auI aI0:=AS.fin aSJ aQL
def aLA:aE->T LV
 | [.v (ah J n)]=> .tu #[wtA n,wtE n]
 |_=> .no
def an4:Az:=kI U2<|la 1 func203 arL<|l0 U2
def ax4:=vo (S:=aLA) func129 U2 an4 (λargs lv h=>by
 unfold aLA at h;split at h
 ·rename_i n
  refine Au (.br (!(inB n 0 1000000)) (.tu #[(0:Y),(1:Y)])<|.req (ZQ.q (⟨0,(AA<|(AA<|2*n)+2),999800,n⟩:PU))<|.tu #[(aI0 (⟨0,(AA<|(AA<|2*n)+2),999800,n⟩:PU)).low,(0:Y)]) ?_;obtain rfl:=h;refine ⟨λc=>?_,λc=>?_⟩
  ·have c:=ntW c
   unfold wtA wtE;rw [c];rfl
  ·have c:=nfW c
   have hb:=BO.1 c
   have hE:ke ⟨0,AA<|AA (2*n)+2,999800,n⟩:=⟨rfl,by
    rw [AJ (x:=2*n),AJ],rfl,hb.1,hb.2⟩
   obtain ⟨_,_,_,q⟩:=atU _ hE;refine ⟨⟨hE,rfl,rfl⟩,?_⟩;rw [q];unfold wtA wtE;rw [AD c,AD c];exact rfl
 ·cases h)
def aUF:aE->T LV
 | [.v (ah J n),.v (ah J a),.v (ah J b)]=> .ok (inB n a b)
 |_=> .no
def abl:aO:=[]
def zl:=vo (S:=aUF) func88 abl kN (λargs lv h=>by
 unfold aUF at h;split at h
 ·rename_i n a b
  refine Au (.ok<|.v<|.bool<|(aq<|n>=a)&&(aq<|n<=b)) ?_;exact h
 ·cases h)
def aKX:aE->T LV
 | [.v (.agg ⟨[ah J nu,ah J co,ah J am,ah J fr,ah J tk]⟩)]=> .ok (DJ (nu,co,am,fr,tk))
 |_=> .no
def amb:aO:=[zl]
def aPh:=vo (S:=aKX) func127 amb kN (λargs lv h=>by
 unfold aKX at h;split at h
 ·rename_i nu co am fr tk
  refine Au (.ok<|.v<|.bool<|(inB nu (1:Y) (1000000:Y))&&((inB co (0:Y) (15:Y))&&((inB am (0:Y) (80:Y))&&((inB fr (0:Y) (1000000:Y))&&(inB tk (1:Y) (1000:Y)))))) ?_;exact h
 ·cases h)
def aUG:aE->T LV
 | [.v (.agg ⟨[ah J nu,ah J co,ah J am,ah J fr,ah J tk]⟩),.v (.agg ⟨[ah J nu2,ah J co2,ah J am2,ah J fr2,ah J tk2]⟩)]=> .ok (K4 (nu,co,am,fr,tk) (nu2,co2,am2,fr2,tk2))
 |_=> .no
def aVm:=vo (S:=aUG) func128 abl kN (λargs lv h=>by
 unfold aUG at h;split at h
 ·rename_i nu co am fr tk nu2 co2 am2 fr2 tk2
  refine Au (.ok<|.v<|.bool<|(aq<|nu2>nu)&&(aq<|fr2>=fr)) ?_;exact h
 ·cases h)
def aKY:aE->T LV
 | [.v (.agg ⟨[ah J nu,ah J co,ah J am,ah J fr,ah J tk]⟩)]=> .req ((0<=fr/\fr<=1000000)/\0<=tk/\tk<=1000000) (.ok<|DF (nu,co,am,fr,tk))
 |_=> .no
def ama:aO:=[ax4]
def aPi:=vo (S:=aKY) func89 ama kN (λargs lv h=>by
 unfold aKY at h;split at h
 ·rename_i nu co am fr tk
  refine Au (.br ((wtE tk) !=0) (.ok fr)<|.ok<|AA<|(AA<|fr+10)+(wtA tk)) ?_;obtain ⟨⟨hf,ht⟩,rfl⟩:=h
  have c:=BO.2 ht
  have hw:=aa4 ht.1
  have ea:wtA tk=wt tk:=by unfold wtA;rw [AD c]
  have ee:wtE tk=0:=by unfold wtE;rw [AD c]
  rw [ea,ee,AJ (x:=fr+10),AJ];exact ⟨λh=>As,λ_=>rfl⟩
 ·cases h)
structure O6 where
 l:aM
 r:aN
 m:aM
 (n i:Y)
def aGk:=bN f87 0
def jJ (s:O6):T (Rd O6):=
 .br (aq<|s.i<s.n) (.ix s.i (M s.m)<|.br (!(DJ<|An s.m s.i)) (.so (.ret) {s with r:=X})<|.br (aq<|s.i>0) (.ix (AA<|s.i-1) (M s.l)<|.br (!(K4 (An s.l<|AA<|s.i-1)<|An s.m s.i)) (.so (.ret) {s with r:=X})<|.nx {s with i:=AA<|s.i+1})<|.nx {s with i:=AA<|s.i+1}) (.so (.exit 0) s)
def kc (s:O6):Prop:=s.i=0/\s.n=(M s.l:Y)/\s.n<=1000/\s.m=s.l
def YO (s:O6):Prop:=(0<=s.i/\s.i<=s.n)/\s.n=(M s.l:Y)/\s.n<=1000/\s.m=s.l/\∀j:aD,(j:Y)<s.i->H5 s.l j=U
def gP (s:O6):aD:=(s.n-s.i).toNat
def aCB (x:Ex) (s s':O6):Prop:=(x=.exit 0/\∀j:aD,(j:Y)<s'.n->H5 s'.l j=U)\/(x=.ret/\s'.r=X/\∃j:aD,(j:Y)<s'.n/\H5 s'.l j=X)
def ala:∀s,kc s->YO s:=by
 rintro s ⟨h0,h2,h3,h4⟩
 exact ⟨A0,h2,h3,h4,λj hj=>A0⟩
def agP:Da YO gP aCB jJ:=by
 intro s hI;unfold jJ;obtain ⟨⟨h0,h1⟩,h2,h3,h4,hA⟩:=hI;refine AH (λc1=>?_) λc1=>?_
 ·refine AH (λc2=>?_) (λc2=>?_)
  ·have c1:s.i<s.n:=AY
   rw [h4] at c2;refine .inr ⟨rfl,rfl,s.i.toNat,AZ,?_⟩;rw [CS h0];unfold H5;rw [ntW c2];rfl
  ·refine AH (λc3=>?_) (λc3=>?_)
   ·refine AH (λc4=>?_) (λc4=>?_)
    ·have c1:s.i<s.n:=AY
     rw [h4] at c2
     have c3:0<s.i:=NF
     rw [AJ (x:=s.i-1),h4] at c4;refine .inr ⟨rfl,rfl,s.i.toNat,AZ,?_⟩;rw [CS h0];unfold H5;rw [nfW c2,IP A0,ntW c4];rfl
    ·have c1:s.i<s.n:=AY
     rw [h4] at c2
     have c3:0<s.i:=NF
     rw [AJ (x:=s.i-1),h4] at c4
     have hg:H5 s.l s.i=true:=by unfold H5;rw [nfW c2,IP A0,nfW c4];rfl
     rw [AJ (x:=s.i+1)]
     exact ⟨⟨⟨AZ,AZ⟩,h2,h3,h4,λj hj=>by
      by_cases e:(j:Y)<s.i
      ·exact hA j e
      ·have e:(j:Y)=s.i:=nV
       show H5 s.l j=U
       rw [e];exact hg⟩,by simp only [gP];omega⟩
   ·have c1:s.i<s.n:=AY
    rw [h4] at c2
    have hg:H5 s.l s.i=true:=by unfold H5;rw [nfW c2,Cb np];rfl
    rw [AJ (x:=s.i+1)]
    exact ⟨⟨⟨AZ,AZ⟩,h2,h3,h4,λj hj=>by
     by_cases e:(j:Y)<s.i
     ·exact hA j e
     ·have e:(j:Y)=s.i:=nV
      rw [e];exact hg⟩,by simp only [gP];omega⟩
 ·have c1:s.n<=s.i:=AY
  exact .inl ⟨rfl,λj hj=>hA j A0⟩
def Ro:AS O6:=⟨0,33,[0,2,8,9,10],[],λs=>[s.l,s.r,s.m,s.n,s.i],λ_=>[],λv b=>⟨B3 AO v 0,Ds v 1,B3 AO v 2,AL v 3,AL v 4⟩,jJ,λs r=> {s with r:=r.r,i:=r.i},λs=>s,λ_ s=>s,[.ret,.exit 0],kc,YO,gP⟩
abbrev aHy:=Ro.run
abbrev aKF:=Ro.Av
def ayQ:Rq YO jJ:=by
 intro s hI;refine ⟨λc1=>⟨?_,λ_=>trivial,λc2=>⟨λc3=>⟨?_,λ_=>trivial,λ_=>trivial⟩,λ_=>trivial⟩⟩,λ_=>trivial⟩
 all_goals ((obtain ⟨⟨h0,h1⟩,h2,h3,h4,hA⟩:=hI;simp only [Aa] at c1;have hl:M s.m=M s.l:=B0 M h4;first|omega|(simp only [Aa,gt_iff_lt] at c3;rw [AJ (x:=s.i-1)];omega)))
def abk:aO:=[aPh,aVm]
def aSI:Ro.Ok:={}
def aQK:Ro.Pf (aCB):=⟨ala,λs h=>rfl,agP,ayQ⟩
def arK:SA 0 aGk Ro:=s1 aSI aQK abk kN
def atS:Fi kc YO aCB aKF aHy:=AS.fin aSI aQK
def aKT:aE->T LV
 | [.xl (.pair (.int J) (.pair (.int J) (.pair (.int J) (.pair (.int J) (.int J))))) l]=> .ok (B1 l)
 |_=> .no
def Wn:=vm (S:=aKT) func87 abk kN (L:=(λi=>if i=4 then Ro.lp else Ap i)) (λb hb=>by
 rw [show BD _=[aGk] by kernel_rfl] at hb
 simp only [B9,Bx,By] at hb;subst hb;exact arK) (λargs lv h=>by
 unfold aKT at h;split at h
 ·rename_i l
  refine Au (letI a:=(M l:Y);.br (aq<|a>64) (.ok X)<|.req (Ro.q (⟨l,X,l,a,0⟩:O6))<|.br (Bt (aKF (⟨l,X,l,a,0⟩:O6))<|.ret) (.ok (aHy (⟨l,X,l,a,0⟩:O6)).r)<|.ok U) ?_;obtain rfl:=h;refine ⟨λc=>B0 (λz=>LV.v<|.bool z) ?_,λc=>?_⟩
  ·have c:64<(M l:Y):=Ix
   unfold B1;rw [IP A0];rfl
  ·have c:(M l:Y)<=64:=Ix
   have hE:kc ⟨l,X,l,(M l:Y),0⟩:=⟨rfl,rfl,AZ,rfl⟩
   refine ⟨⟨hE,rfl,rfl⟩,?_⟩;obtain ⟨_,_,hq⟩:=atS _ hE;rcases hq with ⟨q1,q2⟩ |⟨q1,q2,j,q3,q4⟩<;>rw [q1]
   ·have e:DQ (M l) (H5 l)=true:=Dq.2 (λj hj=>q2 j (by show (j:Y)<(M l:Y);omega))
    unfold B1;rw [Cb A0,e];exact ⟨λh=>As,λ_=>rfl⟩
   ·have e:DQ (M l) (H5 l)=false:=P1 j (by have q3:(j:Y)<(M l:Y):=q3;omega) q4
    rw [q2];unfold B1;rw [Cb A0,e];exact ⟨λ_=>rfl,λh=>As⟩
 ·cases h)
structure PI where
 tick:Y
 l:aM
 (n i:Y)
 out:aM
def aHd:=bN f60 0
def zy (s:PI):T (Rd PI):=letI a:=An s.l s.i;.br (aq<|s.i<s.n) (.ix s.i (M s.l)<|.req ((0<=a.2.2.2.1/\a.2.2.2.1<=1000000)/\0<=a.2.2.2.2/\a.2.2.2.2<=1000000)<|.br (aq<|(DF a)>s.tick) (.rb (M s.out) (M<|[a]) 40<|.re (M s.out+M ([a])) (s.out++([a]))<|.nx {s with i:=AA<|s.i+1,out:=s.out++([a])})<|.rl s.out<|.nx {s with i:=AA<|s.i+1})<|.rl s.out<|.so (.exit 0) s
def k9 (s:PI):Prop:=s.i=0/\s.out=[]/\s.n=(M s.l:Y)/\s.n<=1000/\∀x∈s.l,DJ x=U
def YU (s:PI):Prop:=(0<=s.i/\s.i<=s.n)/\s.out=(s.l.take s.i.toNat).filter (LD s.tick)/\s.n=(M s.l:Y)/\s.n<=1000/\∀x∈s.l,DJ x=U
def vB (s:PI):aD:=(s.n-s.i).toNat
def aCE (x:Ex) (s s':PI):Prop:=x=.exit 0/\s'.out=s'.l.filter (LD s'.tick)
def amq:∀s,k9 s->YU s:=by
 rintro s ⟨h0,h1,h2⟩
 exact ⟨A0,GI,h2⟩
def ahB:Da YU vB aCE zy:=by
 intro s hI;obtain ⟨⟨h0,h1⟩,hA,h2,h3,h4⟩:=hI;refine AH (λc1=>?_) λc1=>?_
 ·have c1:s.i<s.n:=AY
  have e:=(TE h0 (show s.i<M s.l by omega)).2
  rw [AJ (x:=s.i+1)];refine AH (λc2=>?_) λc2=>?_
  all_goals
   refine ⟨⟨⟨A8,AZ⟩,?_,h2,h3,h4⟩,by simp only [vB];omega⟩
   simp only
   have c2:LD s.tick (An s.l s.i)=_:=c2
   rw [e,Zk,hA,LP,c2]
   simp
 ·have c1:s.n<=s.i:=AY
  refine ⟨rfl,?_⟩;rw [hA,DS A0]
def Rz:AS PI:=⟨0,33,[1,6,17,18,19],[.nl 6 70 AO],λs=>[s.tick,.os 0 5 0<|M s.out,s.l,s.n,s.i],λs=>[bV 70 AO s.out],λv b=>⟨AL v 0,B3 AO v 2,AL v 3,AL v 4,Ab AO b 0⟩,zy,λs r=> {s with i:=r.i,out:=r.out},λs=>s,λ_ s=>s,[.exit 0],k9,YU,vB⟩
abbrev aDq:=Rz.run
abbrev auQ:=Rz.Av
def ay1:Rq YU zy:=by
 intro s hI;refine ⟨λc1=>⟨?_,?_,λc2=>⟨?_,?_,an⟩,λc2=>⟨A9,an⟩⟩,λc1=>⟨A9,an⟩⟩
 all_goals ((obtain ⟨⟨h0,h1⟩,hA,h2,h3,h4⟩:=hI;simp only [Aa] at c1;have hv:=Kc.1<|h4 _<|Li h0 (show s.i<M s.l by omega);have hl:M s.out<=s.i.toNat:=A8;first|omega|(refine ⟨A0,?_,?_⟩<;>simp only [BY,Bh]<;>omega) |exact ⟨rfl,AI⟩))
def abh:aO:=[Wn,zl,aPi]
def aRf:Rz.Ok:={}
def aRI:Rz.Pf (aCE):=⟨amq,λs h=>rfl,ahB,ay1⟩
def arU:SA 0 aHd Rz:=s1 aRf aRI abh kN
def aut:Fi k9 YU aCE auQ aDq:=AS.fin aRf aRI
def aKu:aE->T LV
 | [.xl (.pair (.int J) (.pair (.int J) (.pair (.int J) (.pair (.int J) (.int J))))) l,.v (ah J t)]=> .ok (.AQ [BW l t,DO l t])
 |_=> .no
def wQ:=uS f60 aKu
def gu:VV 60 wQ:=vm func60 abh kN (L:=(λi=>if i=5 then Rz.lp else Ap i)) (λb hb=>by
 rw [show BD _=[aHd] by kernel_rfl] at hb
 simp only [B9,Bx,By] at hb;subst hb;exact arU) (λargs lv h=>by
 unfold aKu at h;split at h
 ·rename_i l t
  refine Au (letI a:=(aDq (⟨t,l,(M l:Y),(0:Y),([]:aM)⟩:PI));.br ((!(B1 l)) ||(!(inB t (0:Y) (1100000:Y)))) (.ok<|.AQ [.xl AO ([]:aM),(1:Y)])<|.r0 Le<|.req (Rz.q (⟨t,l,(M l:Y),(0:Y),([]:aM)⟩:PI))<|.rz a.out<|.ok<|.AQ [((a.out.drop 0).take<|M a.out),(0:Y)]) ?_;obtain rfl:=h;refine ⟨λc=>?_,λc=>?_⟩
  ·have c:L1 l t=false:=aOW
   unfold BW DO;rw [c];rfl
  ·have c:L1 l t=true:=aOW
   have hv:B1 l=true:=A8
   have hl:=GK hv
   have hE:k9 ⟨t,l,(M l:Y),0,[]⟩:=⟨rfl,rfl,rfl,AZ,hl.2⟩
   obtain ⟨_,_,q1,q2⟩:=aut _ hE
   have q2:(aDq ⟨t,l,(M l:Y),0,[]⟩).out=l.filter (LD t):=q2
   refine ⟨A9,⟨hE,rfl,rfl⟩,A0,?_⟩
   show LV.AQ [LV.xl _ _,_]=_
   unfold BW DO
   grind
 ·cases h)
structure OH where
 l:aM
 (dz tick e:Y)
 m:aM
 (k i:Y)
def aHr:=bN f82 0
def aB1 (s:OH):T (Rd OH):=
 .br (aq<|s.i<s.k) (.ix s.i (M s.m)<|.br (aq<|(An s.m s.i).2.1>=s.dz) (.so (.ret) {s with e:=(1:Y)})<|.nx {s with i:=AA<|s.i+1}) (.so (.exit 0) s)
def mA (s:OH):Prop:=s.i=0/\s.k=(M s.m:Y)/\s.k<=1000
def Yi (s:OH):Prop:=(0<=s.i/\s.i<=s.k)/\s.k=(M s.m:Y)/\s.k<=1000/\∀x∈s.m.take s.i.toNat,x.2.1<s.dz
def uu (s:OH):aD:=(s.k-s.i).toNat
def aBx (x:Ex) (s s':OH):Prop:=(x=.exit 0/\below s'.dz s'.m=U)\/(x=.ret/\s'.e=1/\below s'.dz s'.m=X)
def anW:∀s,mA s->Yi s:=by
 rintro s ⟨h0,h1,h2⟩
 exact ⟨A0,h1,h2,GI⟩
def aj8:Da Yi uu aBx aB1:=by
 intro s hI;obtain ⟨⟨h0,h1⟩,h2,h3,h4⟩:=hI;refine AH (λc1=>?_) λc1=>?_
 ·have c1:s.i<s.k:=AY
  refine AH (λc2=>?_) λc2=>?_
  ·refine .inr ⟨rfl,rfl,?_⟩
   unfold below;rw [List.all_eq_false];exact ⟨An s.m s.i,Li h0 A8,ET⟩
  ·rw [AJ (x:=s.i+1)]
   refine ⟨⟨⟨A8,A8⟩,h2,h3,λx hx=>?_⟩,by simp only [uu];omega⟩
   rw [(TE h0 A8).2,BZ,HJ] at hx;rcases hx with hx|rfl
   ·exact h4 x hx
   ·simpa using c2
 ·have c1:s.k<=s.i:=AY
  refine .inl ⟨rfl,?_⟩;rw [DS A0] at h4;unfold below
  grind
def Ri:AS OH:=⟨0,48,[0,1,2,6,7,26,27,28],[],λs=>[s.l,s.dz,s.tick,.v<|.slice ak 0 0,s.e,s.m,s.k,s.i],λ_=>[],λv b=>⟨B3 AO v 0,AL v 1,AL v 2,AL v 4,B3 AO v 5,AL v 6,AL v 7⟩,aB1,λs r=> {s with e:=r.e,i:=r.i},λs=>s,λ_ s=>s,[.ret,.exit 0],mA,Yi,uu⟩
abbrev aJA:=Ri.run
abbrev aJj:=Ri.Av
def azs:Rq Yi aB1:=by
 exact aN4
def R8:aO:=[Wn,zl,aPi]
def abT:Az:=kI R8<|l0 R8
def aRa:Ri.Ok:={}
def aR5:Ri.Pf (aBx):=⟨anW,λs h=>rfl,aj8,azs⟩
def asj:SA 0 aHr Ri:=s1 aRa aR5 R8 abT
def aw7:Fi mA Yi aBx aJj aJA:=AS.fin aRa aR5
def aBB:Array Tmp×Code×Code:=((J5<|f82.body.getD .skip)[0]?).getD (#[],.skip,.skip)
def akS:aVF:=aBB.1
def alu:bC:=aBB.2.1
def ali:bC:=aBB.2.2
structure Nk where
 m:aM
 (k i:Y)
 o:aC
 q:aM
 t:Y
 st:LS
def aB0 (s:Nk):T (Rd Nk):=letI b:=An s.m s.i;letI c:=s.o.getD b.2.1.toNat<|Ty.dflt A7;letI a:=s.o.set b.2.1.toNat (if c<b.2.2.1 then b.2.2.1 else c);.br (aq<|s.i<s.k) (.ix s.i (M s.m)<|.br (aq<|b.2.2.2.1>s.t) (.rl s.o<|.so (.exit 0) s)<|.req ((0<=b.2.2.2.1/\b.2.2.2.1<=1000000)/\0<=b.2.2.2.2/\b.2.2.2.2<=1000000)<|.br (aq<|(DF b)<=s.t) (.rl s.o<|.nx {s with i:=AA<|s.i+1})<|.ik b.2.1 (M s.o)<|.ik b.2.1 (M s.o)<|.re (M s.o) a<|.nx {s with i:=AA<|s.i+1,o:=a})<|.rl s.o<|.so (.exit 0) s
def m9 (s:Nk):Prop:=s.st=.ready/\s.i=0/\s.k=(M s.m:Y)/\s.k<=1000/\(∀x∈s.m,DJ x=U/\x.2.1<(M s.o:Y))/\s.m.Pairwise (λa b=>a.1<b.1/\a.2.2.2.1<=b.2.2.2.1)
def lU (s:Nk):Prop:=s.st=.ready/\(0<=s.i/\s.i<=s.k)/\s.k=(M s.m:Y)/\s.k<=1000/\(∀x∈s.m,DJ x=U/\x.2.1<(M s.o:Y))/\s.m.Pairwise (λa b=>a.1<b.1/\a.2.2.2.1<=b.2.2.2.1)
def iT (s:Nk):aD:=(s.k-s.i).toNat
def aco (x:Ex) (s s':Nk):Prop:=x=.exit 0
def anV:∀s,m9 s->lU s:=by
 rintro s ⟨h0,h1,h2⟩
 exact ⟨h0,A0,h2⟩
def aj7:Da lU iT aco aB0:=by
 intro s hI;obtain ⟨hs,⟨h0,h1⟩,h2,h3,h4,h5⟩:=hI;refine AH (λc1=>?_) λc1=>rfl
 have c1:s.i<s.k:=AY
 rw [AJ (x:=s.i+1)];refine AH (λc2=>rfl) λc2=>AH (λc3=>?_) λc3=>?_
 ·exact ⟨⟨hs,⟨A8,AZ⟩,h2,h3,h4,h5⟩,by simp only [iT];omega⟩
 ·exact ⟨⟨hs,⟨A8,A8⟩,h2,h3,λx hx=>A8,h5⟩,by simp only [iT];omega⟩
def ZV:AS Nk:=⟨6,27,[0,2,6,7,8],[],λs=>[.CQ 5,.own 4 0,s.m,s.k,s.i],λs=>[bV 3 A7 s.o,⟨[.os 0 1 0<|M s.o],29,.cl,X⟩,⟨[.fn 120 [.own 1 0]],178,.cl,X⟩,⟨[s.q],34,.cl,X⟩,⟨[s.t],3,.cl,X⟩,⟨[.junk,.junk,.junk,.junk,.junk,.junk,.junk,.junk,.junk,.junk,.junk,.own 2 0,.junk,.junk,.junk,.junk,.junk,.junk,.junk,.junk,.junk,.junk,.junk,.junk,.junk,.junk,.junk,.junk,.junk,.junk,.junk,.junk,.junk,.junk,.junk,.junk,.junk,.junk,.junk,.junk,.junk,.junk,.junk,.junk,.junk,.junk,.junk,.junk],0,.Cn akS alu ali s.st,X⟩],λv b=>⟨B3 AO v 2,AL v 3,AL v 4,Ab A7 b 0,AF AO b 3 0,Am b 4 0,.ready⟩,aB0,λs r=> {r with m:=s.m,k:=s.k,q:=s.q,t:=s.t,st:=s.st},λs=> {s with st:=.ready},λx s=> {s with st:=(match x with| .exit 0=> .ready|_=> .ready)},[.exit 0],m9,lU,iT⟩
abbrev aEN:=ZV.run
abbrev aug:=ZV.Av
def azr:Rq lU aB0:=by
 intro s hI;refine ⟨λc1=>⟨?_,λc2=>⟨A9,an⟩,λc2=>⟨?_,λc3=>⟨A9,an⟩,λc3=>⟨?_,?_,?_,?_,?_,an⟩⟩⟩,λc1=>⟨A9,an⟩⟩
 all_goals ((obtain ⟨hs,⟨h0,h1⟩,h2,h3,h4,h5⟩:=hI;simp only [Aa] at c1;have hv:=(h4 _<|Li h0 (show s.i<M s.m by omega)).2;have hl:=Kc.1 (h4 _<|Li h0 (show s.i<M s.m by omega)).1;first|omega|exact ⟨rfl,AI⟩))
def aRZ:ZV.Ok:={}
def aR4:ZV.Pf (aco):=⟨anV,λs h=>by
 obtain ⟨m,k,i,o,q,t,st⟩:=s
 have e:=h.1
 subst e;rfl,aj7,azr⟩
def asi:=s2 (b:=bN f159 0) aRZ aR4 R8 abT
def aw6:Rs m9 aug aEN (λs:Nk=>((s.m.drop s.i.toNat).filter<|FZ s.t).foldl Jh s.o) (λx s' (v:aC)=>x=.exit 0/\s'.o=v):=DY aRZ aR4 (λs hI=>by
  obtain ⟨hs,⟨h0,h1⟩,h2,h3,h4,h5⟩:=hI;refine AH (λc1=>?_) λc1=>?_
  ·have c1:s.i<s.k:=AY
   have e:=(TE h0 (show s.i<(M s.m:Y) by omega)).1
   rw [AJ (x:=s.i+1)];refine AH (λc2=>?_) λc2=>AH (λc3=>?_) λc3=>?_
   ·refine ⟨rfl,?_⟩
    have c2:(An s.m s.i).2.2.2.1>s.t:=ET
    have hp:(s.m.drop s.i.toNat).Pairwise (λa b=>a.1<b.1/\a.2.2.2.1<=b.2.2.2.1):=List.Pairwise.sublist (List.drop_sublist _ _) h5
    rw [e,mG] at hp;rw [List.filter_eq_nil_iff.2]
    ·rfl
    ·rw [e]
     intro x hx;unfold FZ;rw [IP,QO]
     ·decide
     ·rcases B9.1 hx with rfl|hx
      ·omega
      ·have:=(hp.1 x hx).2
       omega
   ·show List.foldl _ _ _=List.foldl _ _ _
    have c3:DF (An s.m s.i)<=s.t:=NF
    have hb:¬FZ s.t (An s.m s.i)=true:=by
     unfold FZ;rw [IP (p:=DF _>_) A0,Sb]
     decide
    simp only
    grind
   ·show List.foldl _ _ _=List.foldl _ _ _
    have c2:(An s.m s.i).2.2.2.1<=s.t:=ET
    have c3:s.t<DF (An s.m s.i):=NF
    have hb:FZ s.t (An s.m s.i)=true:=by
     unfold FZ;rw [Cb c2,Cb c3];rfl
    rw [e,LP,AD hb,KL];rfl
  ·have c1:s.k<=s.i:=A8
   refine ⟨rfl,?_⟩;rw [Ei A0];rfl)
def aKR:aE->T LV
 | [.xl (.pair (.int J) (.pair (.int J) (.pair (.int J) (.pair (.int J) (.int J))))) l,.v (ah J n),.v (ah J t)]=> .ok (.AQ [.xl A7<|HL l n t,JV l n t])
 |_=> .no
def an3:Az:=kI R8<|la 1 func159 asi<|l0 R8
def Wo:=vm (S:=aKR) func82 R8 an3 (L:=(λi=>if i=4 then Ri.lp else Ap i)) (λb hb=>by
 rw [show BD _=[aHr] by kernel_rfl] at hb
 simp only [B9,Bx,By] at hb;subst hb;exact asj) (λargs lv h=>by
 unfold aKR at h;split at h
 ·rename_i l n t
  refine Au (letI b:=(au n.toNat (0:Y));letI d:=(M l:Y);letI a:=(aEN (⟨l,d,0,b,l,t,.ready⟩:Nk));.br ((!(B1 l)) ||((!(inB n (0:Y) (16:Y))) ||(!(inB t (0:Y) (1100000:Y))))) (.ok<|.AQ [.xl A7 ([]:aC),(1:Y)])<|.req (Ri.q (⟨l,n,t,0,l,d,0⟩:OH))<|.br (Bt (aJj (⟨l,n,t,0,l,d,0⟩:OH))<|.ret) (.ok<|.AQ [.xl A7 ([]:aC),(aJA (⟨l,n,t,0,l,d,0⟩:OH)).e])<|.rm 8 n<|.re n.toNat b<|.req (ZV.q (⟨l,d,0,b,l,t,.ready⟩:Nk))<|.rz a.o<|.ok<|.AQ [.xl A7<|(a.o.drop 0).take<|M a.o,(0:Y)]) ?_;obtain rfl:=h
  have bad:KB l n t=X->LV.AQ [.xl A7 ([]:aC),.v<|ah J 1]=LV.AQ [.xl A7<|HL l n t,.v<|ah J<|JV l n t]:=λc=>by
   unfold HL JV;rw [c];rfl
  refine ⟨λc=>bad ?_,λc=>?_⟩
  ·unfold KB
   grind
  have c:(B1 l&&(inB n 0 16&&inB t 0 1100000))=true:=A8
  have c':=c
  rw [AV,AV,BO,BO] at c';obtain ⟨hv,hn,ht⟩:=c'
  have hl:=GK hv
  have hE:mA ⟨l,n,t,0,l,(M l:Y),0⟩:=⟨rfl,rfl,AZ⟩
  refine ⟨⟨hE,rfl,rfl⟩,?_⟩;obtain ⟨_,_,hq⟩:=aw7 _ hE;rcases hq with ⟨q1,q2⟩ |⟨q1,q2,q3⟩<;>rw [q1]
  ·refine ⟨λh=>As,λ_=>?_⟩
   have q2:below n l=true:=q2
   have hE2:m9 ⟨l,(M l:Y),0,au n.toNat 0,l,t,.ready⟩:=⟨rfl,rfl,rfl,AZ,λx hx=>⟨hl.2 x hx,by
    have:=Ct<|BH.1 q2 x hx
    simp only [Cf];omega⟩,aFS hv⟩
   obtain ⟨_,q4⟩:=aw6 _ hE2;refine ⟨A0,⟨rfl,AI⟩,⟨hE2,rfl,rfl⟩,A0,?_⟩;rw [CT,Ej,q4];unfold HL JV KB;rw [c,q2];rfl
  ·have q3:below n l=false:=q3
   rw [q2];exact ⟨λ_=>bad (by unfold KB;rw [q3,Sb]),λh=>As⟩
 ·cases h)
def aLT:aE->T LV
 | [.v (.agg ⟨[.string nm,ah J at_,ah J ph,ah J mi,ah J ma,ah J st,ah J fb,ah J ow]⟩)]=> .ok (Ea mi ma st)
 |_=> .no
def oS:aO:=[]
def ato (nm:bA) (at_ ph mi ma st fb ow:Y):Bu prog AU (oS) kN Ap f211 [.v<|.agg #[.string nm,at_,ph,mi,ma,st,fb,ow]]=.br ((aq<|mi<1) ||((aq<|mi>ma) ||((aq<|ma>80) ||((aq<|st<1) ||(aq<|st>80))))) (.ok (0:Y)) (.req (st≠0)<|.ok<|AA<|(AA<|(AA<|ma-mi).tdiv st)+2):=AX
def awT:=vo (S:=aLT) func211 oS kN (λargs lv h=>by
 refine ⟨?_⟩;unfold aLT at h;split at h
 ·simp only [canL,canX]
  rw [ato];rename_i mi ma st _ _;obtain rfl:=h;refine ⟨λc=>B0 (λz=>LV.v<|ah J z) ?_,λc=>⟨?_,B0 (λz=>LV.v<|ah J z) ?_⟩⟩
  ·have:Dr mi ma st=false:=by
    rw [IS];intro h;have:=IX.1 h;simp at c;omega
   rw [aGI this]
  ·grind
  ·have hh:=IX.2 VU
   obtain ⟨h1,h2,h3,h4,h5⟩:=IX.1 hh
   have:=qh (x:=ma-mi) (st:=st) A0 A0
   rw [AJ (x:=ma-mi),IN A0,AJ (x:=(ma-mi) / st),AJ]
   simp [Ea,hh]
 ·cases h)
def aKQ:aE->T LV
 | [.v (.agg ⟨[.string nm,ah J at_,ah J ph,ah J mi,ah J ma,ah J st,ah J fb,ah J ow]⟩),.v (ah J k)]=> .req ((1<=mi/\mi<=80/\1<=st/\st<=80)/\0<=k/\k<=1000) (.ok<|E6 mi st k)
 |_=> .no
def au0 (nm:bA) (at_ ph mi ma st fb ow k:Y):Bu prog AU (oS) kN Ap f185 [.v<|.agg #[.string nm,at_,ph,mi,ma,st,fb,ow],k]=.br (k==0) (.ok (0:Y)) (.ok<|AA<|mi+(AA<|(AA<|k-1)*st)):=AX
def XG:=vo (S:=aKQ) func185 oS kN (λargs lv h=>by
 refine ⟨?_⟩;unfold aKQ at h;split at h
 ·simp only [canL,canX]
  rw [au0];rename_i mi _ st _ _ k;obtain ⟨⟨⟨h1,h2,h3,h4⟩,h5,h6⟩,rfl⟩:=h;refine ⟨λc=>B0 (λz=>LV.v<|ah J z) ?_,λc=>B0 (λz=>LV.v<|ah J z) ?_⟩
  ·have c:k=0:=A8
   simp [E6,c]
  ·have c:k≠0:=A8
   have:=agJ (a:=k-1) (b:=st) A0 A0 A0 A0
   rw [AJ (x:=k-1),AJ (x:=(k-1)*st),AJ]
   simp [E6,c]
 ·cases h)
def aKW:aE->T LV
 | [.v (.agg ⟨[.string nm,ah J at_,ah J ph,ah J mi,ah J ma,ah J st,ah J fb,ah J ow]⟩),.v (ah J a)]=> .req (a<=9223372036854775807) (.ok<|Hf mi ma st a)
 |_=> .no
def aLm:aO:=[awT]
def atp (nm:bA) (at_ ph mi ma st fb ow a:Y):letI b:=(AA<|(AA<|a-mi).tdiv st)+1;letI c:=Ea mi ma st;Bu prog AU (aLm) kN Ap f183 [.v<|.agg #[.string nm,at_,ph,mi,ma,st,fb,ow],a]=.br ((c==0) ||(aq<|a<0)) (.ok<|.v<|ah J (-1)) (.br (aq<|a<mi) (.ok (0:Y))<|.req (st≠0)<|.ok<|.v<|ah J (if (AA b)<(AA<|c-1) then AA b else AA (c-1))):=AX
def XE:=vo (S:=aKW) func183 aLm kN (λargs lv h=>by
 refine ⟨?_⟩;unfold aKW at h;split at h
 ·simp only [canL,canX]
  rw [atp];rename_i mi ma st _ _ a;obtain ⟨ha,rfl⟩:=h
  have hb:=aSW (mi:=mi) (ma:=ma) (st:=st)
  refine ⟨λc=>B0 (λz=>LV.v<|ah J z) ?_,λc=>⟨λc2=>B0 (λz=>LV.v<|ah J z) ?_,λc2=>?_⟩⟩
  ·have c:Dr mi ma st=X\/a<0:=by
    simp at c
    rcases c with c|c
    ·left
     cases e:Dr mi ma st with
     |false=>rfl
     |true=>have:=tL e;omega
    ·exact .inr c
   simp only [Hf,AD c]
  all_goals
   simp at c c2
   have hh:Dr mi ma st=true:=by
    cases e:Dr mi ma st with
    |true=>rfl
    |false=>exact absurd (aGI e) c.1
   have hn:¬(Dr mi ma st=X\/a<0):=A8
   have:=IX.1 hh
  ·simp only [Hf,AE hn,AD c2]
  ·have:=qh (x:=a-mi) (st:=st) A0 A0
   refine ⟨A0,B0 (λz=>LV.v<|ah J z) ?_⟩
   rw [AJ (x:=a-mi),IN A0,AJ (x:=(a-mi) / st),AJ (x:=(a-mi) / st+1),AJ (x:=Ea mi ma st-1)];simp only [Hf,AE hn,AE (show ¬a<mi by omega)]
   omega
 ·cases h)
def aFr:aE->T LV
 | [.v (.string w)]=> .ok (isIn k6 w)
 |_=> .no
def Uy:aO:=[]
def aG6:=vo (S:=aFr) func171 Uy kN (λargs lv h=>by
 unfold aFr at h;split at h
 ·rename_i w
  refine Au (.br (w.toList==(aw #[108,105,109,105,116]).toList) (.ok U)<|.br (w.toList==(aw #[110,101,117,116,114,97,108]).toList) (.ok U)<|.br (w.toList==(aw #[102,117,115,101]).toList) (.ok U)<|.br (w.toList==(aw #[116,104,101,114,109,97,108]).toList) (.ok U)<|.br (w.toList==(aw #[102,114,111,109]).toList) (.ok U)<|.br (w.toList==(aw #[97,116]).toList) (.ok U)<|.br (w.toList==(aw #[112,104,97,115,101,115]).toList) (.ok U)<|.br (w.toList==(aw #[97,109,112,115]).toList) (.ok U)<|.br (w.toList==(aw #[102,97,108,108,98,97,99,107]).toList) (.ok U)<|.br (w.toList==(aw #[111,119,110,101,114]).toList) (.ok U)<|.br (w.toList==(aw #[99,97,114,100]).toList) (.ok U)<|.br (w.toList==(aw #[114,97,110,107]).toList) (.ok U)<|.br (w.toList==(aw #[99,104,97,114,103,101,114]).toList) (.ok U)<|.ok X) ?_;obtain rfl:=h;simp only [XH];unfold isIn k6;simp only [Zv,mg];refine ⟨λc0=>zA,λc0=>?_⟩
  rw [c0,D5];refine ⟨λc1=>zD,λc1=>?_⟩
  rw [c1,D5];refine ⟨λc2=>zF,λc2=>?_⟩
  rw [c2,D5];refine ⟨λc3=>zH,λc3=>?_⟩
  rw [c3,D5];refine ⟨λc4=>zI,λc4=>?_⟩
  rw [c4,D5];refine ⟨λc5=>zJ,λc5=>?_⟩
  rw [c5,D5];refine ⟨λc6=>by simp [c6,T.all],λc6=>?_⟩
  rw [c6,D5];refine ⟨λc7=>by simp [c7,T.all],λc7=>?_⟩
  rw [c7,D5];refine ⟨λc8=>by simp [c8,T.all],λc8=>?_⟩
  rw [c8,D5];refine ⟨λc9=>by simp [c9,T.all],λc9=>?_⟩
  rw [c9,D5];refine ⟨λc10=>by simp [c10,T.all],λc10=>?_⟩
  rw [c10,D5];refine ⟨λc11=>by simp [c11,T.all],λc11=>?_⟩
  rw [c11,D5];refine ⟨λc12=>by simp [c12,T.all],λc12=>?_⟩
  rw [c12,D5];rfl
 ·cases h)
def aHS:aE->T LV
 | [.v (.string w)]=> .ok (isIn qe w)
 |_=> .no
def aId:=vo (S:=aHS) func172 Uy kN (λargs lv h=>by
 unfold aHS at h;split at h
 ·rename_i w
  refine Au (.br (w.toList==(aw #[115,116,97,114,116]).toList) (.ok U)<|.br (w.toList==(aw #[101,110,101,114,103,121]).toList) (.ok U)<|.br (w.toList==(aw #[116,105,109,101]).toList) (.ok U)<|.br (w.toList==(aw #[105,100,108,101]).toList) (.ok U)<|.br (w.toList==(aw #[99,97,112]).toList) (.ok U)<|.br (w.toList==(aw #[116,97,120]).toList) (.ok U)<|.ok X) ?_;obtain rfl:=h;simp only [XH];unfold isIn qe;simp only [Zv,mg];refine ⟨λc0=>zA,λc0=>?_⟩
  rw [c0,D5];refine ⟨λc1=>zD,λc1=>?_⟩
  rw [c1,D5];refine ⟨λc2=>zF,λc2=>?_⟩
  rw [c2,D5];refine ⟨λc3=>zH,λc3=>?_⟩
  rw [c3,D5];refine ⟨λc4=>zI,λc4=>?_⟩
  rw [c4,D5];refine ⟨λc5=>zJ,λc5=>?_⟩
  rw [c5,D5];rfl
 ·cases h)
def aHQ:aE->T LV
 | [.v (.string w)]=> .ok (isIn words w)
 |_=> .no
def aIc:=vo (S:=aHQ) func206 Uy kN (λargs lv h=>by
 unfold aHQ at h;split at h
 ·rename_i w
  refine Au (.br (w.toList==(aw #[111,110]).toList) (.ok U)<|.br (w.toList==(aw #[119,111,114,107]).toList) (.ok U)<|.br (w.toList==(aw #[115,97,116,117,114,100,97,121]).toList) (.ok U)<|.br (w.toList==(aw #[115,117,110,100,97,121]).toList) (.ok U)<|.br (w.toList==(aw #[98,101,116,119,101,101,110]).toList) (.ok U)<|.br (w.toList==(aw #[112,101,114]).toList) (.ok U)<|.br (w.toList==(aw #[102,114,101,101]).toList) (.ok U)<|.ok X) ?_;obtain rfl:=h;simp only [XH];unfold isIn words;simp only [Zv,mg];refine ⟨λc0=>zA,λc0=>?_⟩
  rw [c0,D5];refine ⟨λc1=>zD,λc1=>?_⟩
  rw [c1,D5];refine ⟨λc2=>zF,λc2=>?_⟩
  rw [c2,D5];refine ⟨λc3=>zH,λc3=>?_⟩
  rw [c3,D5];refine ⟨λc4=>zI,λc4=>?_⟩
  rw [c4,D5];refine ⟨λc5=>zJ,λc5=>?_⟩
  rw [c5,D5];refine ⟨λc6=>by simp [c6,T.all],λc6=>?_⟩
  rw [c6,D5];rfl
 ·cases h)
def aKo:aE->T LV
 | [.v (.string w)]=> .ok (V3 1 kinds w)
 |_=> .no
def awV:=vo (S:=aKo) func205 Uy kN (λargs lv h=>by
 unfold aKo at h;split at h
 ·rename_i w
  refine Au (.br (w.toList==(aw #[102,101,101,100,101,114]).toList) (.ok (1:Y))<|.br (w.toList==(aw #[99,97,98,108,101]).toList) (.ok (2:Y))<|.br (w.toList==(aw #[111,119,110,101,114]).toList) (.ok (3:Y))<|.br (w.toList==(aw #[99,111,110,116,114,97,99,116]).toList) (.ok (4:Y))<|.br (w.toList==(aw #[99,104,97,114,103,101,114]).toList) (.ok (5:Y))<|.br (w.toList==(aw #[98,97,121]).toList) (.ok (6:Y))<|.br (w.toList==(aw #[116,97,114,105,102,102]).toList) (.ok (7:Y))<|.ok (0:Y)) ?_;obtain rfl:=h;simp only [XH];simp only [V3,kinds];refine ⟨λc0=>by rw [AD c0];rfl,λc0=>?_⟩
  rw [AE<|by simp [c0]]
  refine ⟨λc1=>by rw [AD c1];rfl,λc1=>?_⟩
  rw [AE<|by simp [c1]]
  refine ⟨λc2=>by rw [AD c2];rfl,λc2=>?_⟩
  rw [AE<|by simp [c2]]
  refine ⟨λc3=>by rw [AD c3];rfl,λc3=>?_⟩
  rw [AE<|by simp [c3]]
  refine ⟨λc4=>by rw [AD c4];rfl,λc4=>?_⟩
  rw [AE<|by simp [c4]]
  refine ⟨λc5=>by rw [AD c5];rfl,λc5=>?_⟩
  rw [AE A8];refine ⟨λc6=>by rw [AD c6];rfl,λc6=>?_⟩
  rw [AE A8];rfl
 ·cases h)
def aHR:aE->T LV
 | [.v (.string w)]=> .ok (wq w)
 |_=> .no
def ao5:aO:=[aG6,aId,awV,aIc]
def aqh:=vo (S:=aHR) func170 ao5 kN (λargs lv h=>by
 unfold aHR at h;split at h
 ·rename_i w
  refine Au (.ok<|.v<|.bool (((V3 1 kinds w) !=0) ||((isIn k6 w) ||((isIn qe w) ||(isIn words w))))) ?_;obtain rfl:=h;rw [aGC 1 kinds _ Ac];rfl
 ·cases h)
structure MB where
 text:bA
 r:aN
 i:Y
def aJc:=bN f169 0
def oJ (s:MB):T (Rd MB):=letI a:=JW s.text s.i;.br (aq<|s.i<(s.text.size:Y)) (.req (0<=s.i/\s.i<(s.text.size:Y))<|.br (if aq (a>=97) then !(aq<|a<=122)&&(if aq (a>=48) then !(aq<|a<=57)&&(!(a==95)) else !(a==95)) else if aq (a>=48) then !(aq<|a<=57)&&(!(a==95)) else !(a==95)) (.so (.ret) {s with r:=X})<|.nx {s with i:=AA<|s.i+1})<|.so (.exit 0) s
def ON (s:MB) (j:Y):aN:=aq (j<1) ||(chB<|JW s.text j)
def pB (s:MB):Prop:=s.i=1/\1<=(s.text.size:Y)/\(s.text.size:Y)<=1000/\True
def cv (s:MB):Prop:=1<=s.i/\s.i<=(s.text.size:Y)/\(s.text.size:Y)<=1000/\(True)/\∀j:aD,(j:Y)<s.i->ON s j=U
def aBR (s:MB):aD:=((s.text.size:Y)-s.i).toNat
def xP (x:Ex) (s s':MB):Prop:=(x=.exit 0/\∀j:aD,(j:Y)<(s'.text.size:Y)->ON s' j=U)\/(x=.ret/\s'.r=X/\∃j:aD,(j:Y)<(s'.text.size:Y)/\ON s' j=X)
def ao1:∀s,pB s->cv s:=by
 rintro s ⟨h0,h1,h2,h3⟩
 exact ⟨A0,A0,h2,h3,λj hj=>by unfold ON;rw [Cb A0];rfl⟩
def anI:Da cv aBR xP oJ:=by
 intro s hI;unfold oJ;obtain ⟨h0,h1,h2,h3,h4⟩:=hI;refine AH (λc1=>AH (λc2=>?_) λc2=>?_) λc1=>?_
 ·have c1:s.i<(s.text.size:Y):=AY
  refine .inr ⟨rfl,rfl,s.i.toNat,AZ,?_⟩;rw [CS A0]
  have hg:ON s s.i=false:=aOD
  exact hg
 ·have c1:s.i<(s.text.size:Y):=AY
  have hg:ON s s.i=true:=aOD
  rw [AJ (x:=s.i+1)];refine ⟨⟨AZ,AZ,h2,h3,λj hj=>?_⟩,by simp only [aBR];omega⟩
  by_cases hji:(j:Y)<s.i
  ·exact h4 j hji
  ·have:(j:Y)=s.i:=A8
   rw [this];exact hg
 ·have c1:(s.text.size:Y)<=s.i:=AY
  exact Zx
def SW:AS MB:=⟨0,51,[0,2,3],[],λs=>[.v<|.string s.text,s.r,s.i],λ_=>[],λv b=>⟨gSr<|v.getD 0 .junk,Ds v 1,AL v 2⟩,oJ,λs r=> {r with text:=s.text},λs=>s,λ_ s=>s,[.ret,.exit 0],pB,cv,aBR⟩
abbrev gb:=SW.run
abbrev aTb:=SW.Av
def akp:Rq cv oJ:=by
 exact Sk
def ac1:SW.Ok:={}
def aam:SW.Pf (xP):=⟨ao1,λs h=>rfl,anI,akp⟩
def axb:SA 0 aJc SW:=s1 ac1 aam Uy kN
def ahw:Fi pB cv xP aTb gb:=AS.fin ac1 aam
def aHV:aE->T LV
 | [.v (.string w)]=> .ok (gwB w)
 |_=> .no
def aqj:=vm (S:=aHV) func169 Uy kN (L:=(λi=>if i=4 then SW.lp else Ap i)) (λb hb=>by
 rw [show BD _=[aJc] by kernel_rfl] at hb
 simp only [B9,Bx,By] at hb;subst hb;exact axb) (λargs lv h=>by
 unfold aHV at h;split at h
 ·rename_i w
  refine Au (letI a:=(w.size:Y);.br (aq<|a<1) (.ok X)<|.br (aq<|a>12) (.ok X)<|.req (0<=(0:Y)/\(0:Y)<a)<|.br (aq<|(JW w (0:Y))<97) (.ok X)<|.req (0<=(0:Y)/\(0:Y)<a)<|.br (aq<|(JW w (0:Y))>122) (.ok X)<|.req (SW.q (⟨w,X,1⟩:MB))<|.br (Bt (aTb (⟨w,X,1⟩:MB))<|.ret) (.ok (gb (⟨w,X,1⟩:MB)).r)<|.ok U) ?_;obtain rfl:=h
  have bad:¬(((1<=w.size/\w.size<=12)/\(97<=JW w 0/\JW w 0<=122)))->LV.v (.bool X)=LV.v (.bool<|gwB w):=λhn=>B0 (λz=>LV.v<|.bool z) (by
   rw [Sl,IS];intro h;simp only [gwB,chA,AV,Aa] at h;exact hn ⟨h.1,A0,A0⟩)
  refine ⟨λc=>bad VU,λc=>⟨λc2=>bad A8,λc2=>⟨VU,λc3=>bad np,λc3=>⟨VU,λc4=>bad zW,λc4=>?_⟩⟩⟩⟩
  simp only [DB] at c c2 c3 c4
  have hE:pB ⟨w,X,1⟩:=⟨rfl,AZ,AZ,an⟩
  have key:gwB w=(av w.size).all λi=>i==0 ||chB (JW w i):=by
   simp only [gwB,chA];rw [Cb A0,Cb A0,Cb A0];rfl
  obtain ⟨s',_,hq⟩:=ahw _ hE;refine ⟨⟨hE,rfl,rfl⟩,?_⟩;rw [key];rcases hq with ⟨h1,h2⟩ |⟨h1,h2,j,h3,h4⟩
  ·rw [h1]
   refine ⟨λh=>As,λ_=>B0 (λz=>LV.v<|.bool z) ?_⟩
   rw [Sl,BH];intro i hi
   have:=h2 i (by show (i:Y)<(w.size:Y);have:=Iu.1 hi;omega)
   simp only [ON] at this;rw [show (gb ⟨w,X,1⟩).text=w from rfl] at this;rw [Cc] at this;rcases this with h|h
   ·have:i=0:=by simp at h;omega
    simp [this]
   ·rw [h];simp
  ·rw [h1,h2]
   refine ⟨λ_=>B0 (λz=>LV.v<|.bool z) ?_,λh=>As⟩
   rw [Sl,IS];intro hx;rw [BH] at hx
   have h3:(j:Y)<(w.size:Y):=h3
   have:=hx j<|Iu.2 A0
   simp only [ON] at h4;rw [show (gb ⟨w,X,1⟩).text=w from rfl] at h4;rw [HF] at h4
   have h5:=h4.1
   simp at h5
   rw [h4.2] at this
   simp at this
   omega
 ·cases h)
def aHW:aE->T LV
 | [.v (.string w)]=> .ok (nameB w)
 |_=> .no
def ao4:aO:=[aqj,aqh]
def aqk:=vo (S:=aHW) func131 ao4 kN (λargs lv h=>by
 unfold aHW at h;split at h
 ·rename_i w
  refine Au (.ok<|.v<|.bool<|(gwB w)&&(!(wq w))) ?_;exact h
 ·cases h)
def aKr:aE->T LV
 | [.v (.string w)]=> .ok (nameB w)
 |_=> .no
def x9:aO:=[aqk,aG6,aId,aIc]
def ao0:Az:=kI x9<|l0 x9
def awW:=vo (S:=aKr) func30 x9 ao0 (λargs lv h=>by
 unfold aKr at h;split at h
 ·rename_i w
  refine Au (.br (((1:Y) !=1) ||((!(ByteArray.empty.toList==(aw #[]).toList)) ||((0:Y) !=0))) (.ok X)<|.br (((2:Y) !=2) ||((aq<|(3:Y)<1) ||((aq<|(3:Y)>7) ||(!(nameB w))))) (.br (!X) (.ok X)<|.ok U)<|.br (!U) (.ok X)<|.ok U) ?_;obtain rfl:=h;refine ⟨λc=>?_,λ_=>?_⟩
  ·exfalso
   rw [XH] at c
   revert c
   decide
  ·cases nameB w<;>simp [T.all]
 ·cases h)
def aHU:aE->T LV
 | [.v (.agg ⟨[ah J a,ah J b]⟩),.v (ah J n)]=> .ok (inB n a b)
 |_=> .no
def x8:aO:=[]
def sQ:=vo (S:=aHU) func70 x8 kN (λargs lv h=>by
 unfold aHU at h;split at h
 ·rename_i a b n
  refine Au (.ok<|.v<|.bool<|(aq<|n>=a)&&(aq<|n<=b)) ?_;exact h
 ·cases h)
def aKs:aE->T LV
 | [.v (.agg ⟨[ah J am,ah J mo,ah J ga,ah J lo,ah J de]⟩)]=> .ok (aq<|mo>am)
 |_=> .no
def awX:=vo (S:=aKs) func97 x8 kN (λargs lv h=>by
 unfold aKs at h;split at h
 ·rename_i am mo ga lo de
  refine Au (.ok<|aq<|mo>am) ?_;exact h
 ·cases h)
def aKt:aE->T LV
 | [.v (.agg ⟨[.string nm,ah J at_,ah J ph,ah J mi,ah J ma,ah J st,ah J fb,ah J ow]⟩)]=> .ok (.v<|.bool<|aq (mi<=ma)&&((fb==0) ||inB fb mi ma))
 |_=> .no
def awY:=vo (S:=aKt) func98 x8 kN (λargs lv h=>by
 unfold aKt at h;split at h
 ·rename_i nm at_ ph mi ma st fb ow
  refine Au (.ok<|.v<|.bool<|(aq<|mi<=ma)&&((fb==0) ||((aq<|fb>=mi)&&(aq<|fb<=ma)))) ?_;exact h
 ·cases h)
def aLC:aE->T LV
 | [.v (.agg ⟨[.string nm,ah J up_,ah J li,ah J ne,ah J ra,ah J he,ah J am,ah J mo,ah J ga,ah J lo,ah J de]⟩),.v (ah J i)]=> .req (0<=i) (.ok<|IC i (nm,up_,li,ne,(ra,he),am,mo,ga,lo,de))
 |_=> .no
def ao3:aO:=[sQ,awX]
def ax6:=vo (S:=aLC) func69 ao3 kN (λargs lv h=>by
 unfold aLC at h;split at h
 ·rename_i nm up_ li ne ra he am mo ga lo de i
  refine Au (.br (if i==0 then (up_ !=(-1)) ||((aq<|i>0)&&((aq<|up_<0) ||(aq<|up_>=i))) else (aq<|i>0)&&((aq<|up_<0) ||(aq<|up_>=i))) (.ok X)<|.br ((!(inB li (1:Y) (1000:Y))) ||(!(inB ne (1:Y) (1000:Y)))) (.ok X)<|.br ((!((ra==0)&&(he==0)))&&(!(inB ra (1:Y) (1000:Y)) ||(!(inB he (0:Y) (1000000:Y))))) (.ok X)<|.br ((am==0)&&((mo==0)&&((ga==0)&&((lo==0)&&(de==0))))) (.ok U)<|.ok<|.v<|.bool<|(inB am (0:Y) (200000:Y))&&((inB mo (0:Y) (200000:Y))&&((inB ga (0:Y) (1000:Y))&&((inB lo (0:Y) (1000:Y))&&((inB de (1:Y) (1000000:Y))&&(aq<|mo>am)))))) ?_
  obtain ⟨hi,h⟩:=h;exact ajL (K:=λz=>LV.v (.bool z)=lv) hi h
 ·cases h)
def aLD:aE->T LV
 | .agg a::r=>s5 a λcs os ks gs bs=>(match r with
  | [.v (.agg ⟨[.string nm,ah J at_,ah J ph,ah J mi,ah J ma,ah J st,ah J fb,ah J ow]⟩)]=> .req ((M cs:Y)<=1000/\(M os:Y)<=1000) (.ok<|G4 (M cs) (M os) (nm,at_,ph,mi,ma,st,fb,ow))
  |_=> .no)
 |_=> .no
def amk:aO:=[sQ,awY]
def ax7:=vo (S:=aLD) func71 amk kN (λargs lv h=>by
 unfold aLD at h;split at h
 case h_2=>cases h
 replace h:=Ia h
 obtain ⟨cs,os,ks,gs,bs,rfl,h⟩:=h;split at h
 ·rename_i nm at_ ph mi ma st fb ow
  refine Au (.ok<|.v<|.bool<|(inB at_ (0:Y)<|AA<|(M cs:Y)-1)&&((inB ow (0:Y)<|AA<|(M os:Y)-1)&&((inB ph (1:Y) (7:Y))&&((inB mi (1:Y) (80:Y))&&((inB ma (1:Y) (80:Y))&&((inB st (1:Y) (80:Y))&&((inB fb (0:Y) (80:Y))&&(aq (mi<=ma)&&((fb==0) ||inB fb mi ma))))))))) ?_;obtain ⟨⟨h1,h2⟩,rfl⟩:=h;refine B0 (λz=>LV.v<|.bool z) ?_
  rw [AJ (x:=(M cs:Y)-1),AJ (x:=(M os:Y)-1)];unfold G4 chW;rw [Iw];simp only [AV,Cc,BO,Aa,Cy];omega
 ·cases h)
structure NR where
 l:aL
 (n i:Y)
 BF:aL
 Bf:aF
 C6:aR
 BQ:aG
 C7:aS
 out:aF
def aGh:=bN f29 0
def aAG (s:NR):T (Rd NR):=letI a:=Ad s.l s.i;.br (aq<|s.i<s.n) (.ix s.i (M s.l)<|.rb (M s.out) (M<|[a.1]) 16<|.re (M s.out+M ([a.1])) (s.out++([a.1]))<|.nx {s with i:=AA<|s.i+1,out:=s.out++([a.1])})<|.rl s.out<|.so (.exit 0) s
def YH (s:NR):Prop:=s.i=0/\s.n=(M s.l:Y)/\s.n<=1000/\(M s.out:Y)<=10000
def YL (s:NR):Prop:=0<=s.i/\s.i<=s.n/\s.n=(M s.l:Y)/\s.n<=1000/\(M s.out:Y)<=10000+s.i
def vd (s:NR):aD:=(s.n-s.i).toNat
def aC7 (x:Ex) (s s':NR):Prop:=x=.exit 0/\s'.i=s'.n
def alU:∀s,YH s->YL s:=by
 exact bF
def az0:Da YL vd aC7 aAG:=by
 intro s hI;obtain ⟨h0,h1,h2,h3,h4⟩:=hI;refine AH (λc1=>?_) λc1=>?_
 ·have c1:s.i<s.n:=A8
  rw [AJ (x:=s.i+1)];exact ⟨⟨A8,A8,h2,h3,A8⟩,by simp only [vd];omega⟩
 ·exact Sq
def Rk:AS NR:=⟨0,80,[1,3,15,16,17],[.nl 3 9 .str],λs=>[.own 0 0,.os 1 1 0<|M s.out,s.l,s.n,s.i],λs=>[⟨[s.BF,s.Bf,s.C6,s.BQ,s.C7],28,.cl,X⟩,bV 9 .str s.out],λv b=>⟨B3 Ae v 2,AL v 3,AL v 4,AF Ae b 0 0,AF .str b 0 1,AF Ak b 0 2,AF Af b 0 3,AF Al b 0 4,Ab .str b 1⟩,aAG,λs r=> {s with i:=r.i,out:=r.out},λs=>s,λ_ s=>s,[.exit 0],YH,YL,vd⟩
abbrev Vq:=Rk.run
abbrev avE:=Rk.Av
def ayM:Rq YL aAG:=by
 exact Zq
def Tw:aO:=[]
def uL:Rk.Ok:={}
def u0:Rk.Pf (aC7):=⟨alU,λs h=>rfl,az0,ayM⟩
def arG:SA 0 aGh Rk:=s1 uL u0 Tw kN
def asB:Fi YH YL aC7 avE Vq:=AS.fin uL u0
def asA (s:NR) (hE:YH s):(Vq s).out=s.out++s.l.map (·.1):=by
 have hk:=AS.Kx uL u0 (λs=>s.out++(s.l.drop s.i.toNat).map (·.1)) (λs hI=>by
  obtain ⟨h0,h1,h2,h3,h4⟩:=hI;refine AH (λc1=>?_) λc1=>?_
  ·have c1:s.i<s.n:=A8
   rw [AJ (x:=s.i+1)]
   show _++_=_++_
   rw [(apq h0 (show s.i<M s.l by omega)).1]
   simp
  ·rfl) s hE
 obtain ⟨s',hI,q1,q2⟩:=asB s hE
 have q3:=q2
 have hn:(Vq s).n=(M s.l:Y):=hE.2.1
 have hl:(Vq s).l=s.l:=rfl
 exact bI
structure Nb where
 l:aF
 (n i:Y)
 BF:aL
 Bf:aF
 C6:aR
 BQ:aG
 C7:aS
 out:aF
def aGg:=bN f29 1
def aAF (s:Nb):T (Rd Nb):=letI a:=gS s.l s.i;.br (aq<|s.i<s.n) (.ix s.i (M s.l)<|.rb (M s.out) (M<|[a]) 16<|.re (M s.out+M ([a])) (s.out++([a]))<|.nx {s with i:=AA<|s.i+1,out:=s.out++([a])})<|.rl s.out<|.so (.exit 2) s
def YG (s:Nb):Prop:=s.i=0/\s.n=(M s.l:Y)/\s.n<=1000/\(M s.out:Y)<=10000
def Z7 (s:Nb):Prop:=0<=s.i/\s.i<=s.n/\s.n=(M s.l:Y)/\s.n<=1000/\(M s.out:Y)<=10000+s.i
def vb (s:Nb):aD:=(s.n-s.i).toNat
def aC6 (x:Ex) (s s':Nb):Prop:=x=.exit 2/\s'.i=s'.n
def alT:∀s,YG s->Z7 s:=by
 exact bF
def azZ:Da Z7 vb aC6 aAF:=by
 intro s hI;obtain ⟨h0,h1,h2,h3,h4⟩:=hI;refine AH (λc1=>?_) λc1=>?_
 ·have c1:s.i<s.n:=A8
  rw [AJ (x:=s.i+1)];exact ⟨⟨A8,A8,h2,h3,A8⟩,by simp only [vb];omega⟩
 ·exact Sq
def Rj:AS Nb:=⟨0,80,[1,3,28,29,30],[],λs=>[.own 0 0,.os 1 1 0<|M s.out,s.l,s.n,s.i],λs=>[⟨[s.BF,s.Bf,s.C6,s.BQ,s.C7],28,.cl,X⟩,bV 9 .str s.out],λv b=>⟨B3 .str v 2,AL v 3,AL v 4,AF Ae b 0 0,AF .str b 0 1,AF Ak b 0 2,AF Af b 0 3,AF Al b 0 4,Ab .str b 1⟩,aAF,λs r=> {s with i:=r.i,out:=r.out},λs=>s,λ_ s=>s,[.exit 2],YG,Z7,vb⟩
abbrev Vt:=Rj.run
abbrev avD:=Rj.Av
def ayL:Rq Z7 aAF:=by
 exact Zq
def uK:Rj.Ok:={}
def ug:Rj.Pf (aC6):=⟨alT,λs h=>rfl,azZ,ayL⟩
def arF:SA 0 aGg Rj:=s1 uK ug Tw kN
def as9:Fi YG Z7 aC6 avD Vt:=AS.fin uK ug
def as8 (s:Nb) (hE:YG s):(Vt s).out=s.out++s.l:=by
 have hk:=AS.Kx uK ug (λs=>s.out++(s.l.drop s.i.toNat)) (λs hI=>by
  obtain ⟨h0,h1,h2,h3,h4⟩:=hI;refine AH (λc1=>?_) λc1=>?_
  ·have c1:s.i<s.n:=A8
   rw [AJ (x:=s.i+1)]
   show _++_=_++_
   rw [(aK4 h0 (show s.i<M s.l by omega)).1]
   simp
  ·rfl) s hE
 obtain ⟨s',hI,q1,q2⟩:=as9 s hE
 have q3:=q2
 have hn:(Vt s).n=(M s.l:Y):=hE.2.1
 have hl:(Vt s).l=s.l:=rfl
 exact bI
structure Nc where
 l:aR
 (n i:Y)
 BF:aL
 Bf:aF
 C6:aR
 BQ:aG
 C7:aS
 out:aF
def aGf:=bN f29 2
def aAE (s:Nc):T (Rd Nc):=letI a:=OO s.l s.i;.br (aq<|s.i<s.n) (.ix s.i (M s.l)<|.rb (M s.out) (M<|[a.1]) 16<|.re (M s.out+M ([a.1])) (s.out++([a.1]))<|.nx {s with i:=AA<|s.i+1,out:=s.out++([a.1])})<|.rl s.out<|.so (.exit 4) s
def YF (s:Nc):Prop:=s.i=0/\s.n=(M s.l:Y)/\s.n<=1000/\(M s.out:Y)<=10000
def Z6 (s:Nc):Prop:=0<=s.i/\s.i<=s.n/\s.n=(M s.l:Y)/\s.n<=1000/\(M s.out:Y)<=10000+s.i
def va (s:Nc):aD:=(s.n-s.i).toNat
def aC5 (x:Ex) (s s':Nc):Prop:=x=.exit 4/\s'.i=s'.n
def alR:∀s,YF s->Z6 s:=by
 exact bF
def azY:Da Z6 va aC5 aAE:=by
 intro s hI;obtain ⟨h0,h1,h2,h3,h4⟩:=hI;refine AH (λc1=>?_) λc1=>?_
 ·have c1:s.i<s.n:=A8
  rw [AJ (x:=s.i+1)];exact ⟨⟨A8,A8,h2,h3,A8⟩,by simp only [va];omega⟩
 ·exact Sq
def RM:AS Nc:=⟨0,80,[1,3,41,42,43],[],λs=>[.own 0 0,.os 1 1 0<|M s.out,s.l,s.n,s.i],λs=>[⟨[s.BF,s.Bf,s.C6,s.BQ,s.C7],28,.cl,X⟩,bV 9 .str s.out],λv b=>⟨B3 Ak v 2,AL v 3,AL v 4,AF Ae b 0 0,AF .str b 0 1,AF Ak b 0 2,AF Af b 0 3,AF Al b 0 4,Ab .str b 1⟩,aAE,λs r=> {s with i:=r.i,out:=r.out},λs=>s,λ_ s=>s,[.exit 4],YF,Z6,va⟩
abbrev Vv:=RM.run
abbrev avC:=RM.Av
def ayK:Rq Z6 aAE:=by
 exact Zq
def uJ:RM.Ok:={}
def uf:RM.Pf (aC5):=⟨alR,λs h=>rfl,azY,ayK⟩
def arE:SA 0 aGf RM:=s1 uJ uf Tw kN
def as7:Fi YF Z6 aC5 avC Vv:=AS.fin uJ uf
def as6 (s:Nc) (hE:YF s):(Vv s).out=s.out++s.l.map (·.1):=by
 have hk:=AS.Kx uJ uf (λs=>s.out++(s.l.drop s.i.toNat).map (·.1)) (λs hI=>by
  obtain ⟨h0,h1,h2,h3,h4⟩:=hI;refine AH (λc1=>?_) λc1=>?_
  ·have c1:s.i<s.n:=A8
   rw [AJ (x:=s.i+1)]
   show _++_=_++_
   rw [(aHB h0 (show s.i<M s.l by omega)).1]
   simp
  ·rfl) s hE
 obtain ⟨s',hI,q1,q2⟩:=as7 s hE
 have q3:=q2
 have hn:(Vv s).n=(M s.l:Y):=hE.2.1
 have hl:(Vv s).l=s.l:=rfl
 exact bI
structure Nd where
 l:aG
 (n i:Y)
 BF:aL
 Bf:aF
 C6:aR
 BQ:aG
 C7:aS
 out:aF
def aGe:=bN f29 3
def aAD (s:Nd):T (Rd Nd):=letI a:=AG s.l s.i;.br (aq<|s.i<s.n) (.ix s.i (M s.l)<|.rb (M s.out) (M<|[a.1]) 16<|.re (M s.out+M ([a.1])) (s.out++([a.1]))<|.nx {s with i:=AA<|s.i+1,out:=s.out++([a.1])})<|.rl s.out<|.so (.exit 6) s
def YE (s:Nd):Prop:=s.i=0/\s.n=(M s.l:Y)/\s.n<=1000/\(M s.out:Y)<=10000
def Z5 (s:Nd):Prop:=0<=s.i/\s.i<=s.n/\s.n=(M s.l:Y)/\s.n<=1000/\(M s.out:Y)<=10000+s.i
def vZ (s:Nd):aD:=(s.n-s.i).toNat
def aC4 (x:Ex) (s s':Nd):Prop:=x=.exit 6/\s'.i=s'.n
def alQ:∀s,YE s->Z5 s:=by
 exact bF
def azX:Da Z5 vZ aC4 aAD:=by
 intro s hI;obtain ⟨h0,h1,h2,h3,h4⟩:=hI;refine AH (λc1=>?_) λc1=>?_
 ·have c1:s.i<s.n:=A8
  rw [AJ (x:=s.i+1)];exact ⟨⟨A8,A8,h2,h3,A8⟩,by simp only [vZ];omega⟩
 ·exact Sq
def RK:AS Nd:=⟨0,80,[1,3,54,55,56],[],λs=>[.own 0 0,.os 1 1 0<|M s.out,s.l,s.n,s.i],λs=>[⟨[s.BF,s.Bf,s.C6,s.BQ,s.C7],28,.cl,X⟩,bV 9 .str s.out],λv b=>⟨B3 Af v 2,AL v 3,AL v 4,AF Ae b 0 0,AF .str b 0 1,AF Ak b 0 2,AF Af b 0 3,AF Al b 0 4,Ab .str b 1⟩,aAD,λs r=> {s with i:=r.i,out:=r.out},λs=>s,λ_ s=>s,[.exit 6],YE,Z5,vZ⟩
abbrev W4:=RK.run
abbrev avA:=RK.Av
def ayJ:Rq Z5 aAD:=by
 exact Zq
def uI:RK.Ok:={}
def ue:RK.Pf (aC4):=⟨alQ,λs h=>rfl,azX,ayJ⟩
def arD:SA 0 aGe RK:=s1 uI ue Tw kN
def as5:Fi YE Z5 aC4 avA W4:=AS.fin uI ue
def as4 (s:Nd) (hE:YE s):(W4 s).out=s.out++s.l.map (·.1):=by
 have hk:=AS.Kx uI ue (λs=>s.out++(s.l.drop s.i.toNat).map (·.1)) (λs hI=>by
  obtain ⟨h0,h1,h2,h3,h4⟩:=hI;refine AH (λc1=>?_) λc1=>?_
  ·have c1:s.i<s.n:=A8
   rw [AJ (x:=s.i+1)]
   show _++_=_++_
   rw [(apo h0 (show s.i<M s.l by omega)).1]
   simp
  ·rfl) s hE
 obtain ⟨s',hI,q1,q2⟩:=as5 s hE
 have q3:=q2
 have hn:(W4 s).n=(M s.l:Y):=hE.2.1
 have hl:(W4 s).l=s.l:=rfl
 exact bI
structure Nl where
 l:aS
 (n i:Y)
 out:aF
def aH9:=bN f29 4
def aAC (s:Nl):T (Rd Nl):=letI a:=OU s.l s.i;.br (aq<|s.i<s.n) (.ix s.i (M s.l)<|.rb (M s.out) (M<|[a.1]) 16<|.re (M s.out+M ([a.1])) (s.out++([a.1]))<|.nx {s with i:=AA<|s.i+1,out:=s.out++([a.1])})<|.rl s.out<|.so (.exit 8) s
def YD (s:Nl):Prop:=s.i=0/\s.n=(M s.l:Y)/\s.n<=1000/\(M s.out:Y)<=10000
def Z4 (s:Nl):Prop:=0<=s.i/\s.i<=s.n/\s.n=(M s.l:Y)/\s.n<=1000/\(M s.out:Y)<=10000+s.i
def vY (s:Nl):aD:=(s.n-s.i).toNat
def aC2 (x:Ex) (s s':Nl):Prop:=x=.exit 8/\s'.i=s'.n
def alP:∀s,YD s->Z4 s:=by
 exact bF
def azW:Da Z4 vY aC2 aAC:=by
 intro s hI;obtain ⟨h0,h1,h2,h3,h4⟩:=hI;refine AH (λc1=>?_) λc1=>?_
 ·have c1:s.i<s.n:=A8
  rw [AJ (x:=s.i+1)];exact ⟨⟨A8,A8,h2,h3,A8⟩,by simp only [vY];omega⟩
 ·exact Sq
def RJ:AS Nl:=⟨0,80,[3,67,68,69],[],λs=>[.os 0 1 0<|M s.out,s.l,s.n,s.i],λs=>[bV 9 .str s.out],λv b=>⟨B3 Al v 1,AL v 2,AL v 3,Ab .str b 0⟩,aAC,λs r=> {r with l:=s.l,n:=s.n},λs=>s,λ_ s=>s,[.exit 8],YD,Z4,vY⟩
abbrev WD:=RJ.run
abbrev av9:=RJ.Av
def ayI:Rq Z4 aAC:=by
 exact Zq
def uH:RJ.Ok:={}
def ud:RJ.Pf (aC2):=⟨alP,λs h=>rfl,azW,ayI⟩
def arC:SA 0 aH9 RJ:=s1 uH ud Tw kN
def as3:Fi YD Z4 aC2 av9 WD:=AS.fin uH ud
def as2 (s:Nl) (hE:YD s):(WD s).out=s.out++s.l.map (·.1):=by
 have hk:=AS.Kx uH ud (λs=>s.out++(s.l.drop s.i.toNat).map (·.1)) (λs hI=>by
  obtain ⟨h0,h1,h2,h3,h4⟩:=hI;refine AH (λc1=>?_) λc1=>?_
  ·have c1:s.i<s.n:=A8
   rw [AJ (x:=s.i+1)]
   show _++_=_++_
   rw [(apr h0 (show s.i<M s.l by omega)).1]
   simp
  ·rfl) s hE
 obtain ⟨s',hI,q1,q2⟩:=as3 s hE
 have q3:=q2
 have hn:(WD s).n=(M s.l:Y):=hE.2.1
 have hl:(WD s).l=s.l:=rfl
 exact bI
def aLR:aE->T LV
 | .agg a::r=>s5 a λcs os ks gs bs=>(match r with
  | []=> .req ((M cs:Y)<=1000/\(M os:Y)<=1000/\(M ks:Y)<=1000/\(M gs:Y)<=1000/\(M bs:Y)<=1000) (.ok<|.xl .str<|Lo cs os ks gs bs)
  |_=> .no)
 |_=> .no
def awR:=vm (S:=aLR) func29 Tw kN (L:=(λi=>if i=3 then Rk.lp else if i=8 then Rj.lp else if i=13 then RM.lp else if i=18 then RK.lp else if i=23 then RJ.lp else Ap i)) (λb hb=>by
 rw [show BD _=[aGh,aGg,aGf,aGe,aH9] by kernel_rfl] at hb
 simp only [B9,Bx,By] at hb;rcases hb with rfl|rfl|rfl|rfl|rfl
 ·exact arG
 ·exact arF
 ·exact arE
 ·exact arD
 ·exact arC) (λargs lv h=>by
 unfold aLR at h;split at h
 case h_2=>cases h
 replace h:=Ia h
 obtain ⟨cs,os,ks,gs,bs,rfl,h⟩:=h;split at h
 ·refine Au (letI b:=(Vq (⟨cs,(M cs:Y),0,cs,os,ks,gs,bs,([]:aF)⟩:NR));letI d:=(Vt (⟨os,(M os:Y),0,cs,os,ks,gs,bs,b.out⟩:Nb));letI a:=(Vv (⟨ks,(M ks:Y),0,cs,os,ks,gs,bs,d.out⟩:Nc));letI c:=(W4 (⟨gs,(M gs:Y),0,cs,os,ks,gs,bs,a.out⟩:Nd));letI e:=(WD (⟨bs,(M bs:Y),0,c.out⟩:Nl));.r0 ByteArray<|.req (Rk.q (⟨cs,(M cs:Y),0,cs,os,ks,gs,bs,([]:aF)⟩:NR))<|.rl b.out<|.req (Rj.q (⟨os,(M os:Y),0,cs,os,ks,gs,bs,b.out⟩:Nb))<|.rl d.out<|.req (RM.q (⟨ks,(M ks:Y),0,cs,os,ks,gs,bs,d.out⟩:Nc))<|.rl a.out<|.req (RK.q (⟨gs,(M gs:Y),0,cs,os,ks,gs,bs,a.out⟩:Nd))<|.rl c.out<|.req (RJ.q (⟨bs,(M bs:Y),0,c.out⟩:Nl))<|.rz e.out<|.ok<|.xl .str<|(e.out.drop 0).take<|M e.out) ?_
  obtain ⟨⟨hc,ho,hk,hg,hb⟩,rfl⟩:=h
  have hE0:YH ⟨cs,(M cs:Y),0,cs,os,ks,gs,bs,([]:aF)⟩:=⟨rfl,rfl,hc,by simp only;decide⟩
  have o0:=asA _ hE0
  refine ⟨A9,⟨hE0,rfl,rfl⟩,?_⟩;generalize (Vq ⟨cs,(M cs:Y),0,cs,os,ks,gs,bs,([]:aF)⟩).out=r0 at*
  have o0:r0=([]:aF)++cs.map (·.1):=o0
  have l0:(M r0:Y)<=1000:=by rw [o0];simp only [B8,GH,Bh];omega
  have hE1:YG ⟨os,(M os:Y),0,cs,os,ks,gs,bs,r0⟩:=⟨rfl,rfl,ho,AZ⟩
  have o1:=as8 _ hE1
  refine ⟨A9,⟨hE1,rfl,rfl⟩,?_⟩;generalize (Vt ⟨os,(M os:Y),0,cs,os,ks,gs,bs,r0⟩).out=r1 at*
  have o1:r1=r0++os:=o1
  have l1:(M r1:Y)<=2000:=by rw [o1];simp only [B8,GH,Bh];omega
  have hE2:YF ⟨ks,(M ks:Y),0,cs,os,ks,gs,bs,r1⟩:=⟨rfl,rfl,hk,AZ⟩
  have o2:=as6 _ hE2
  refine ⟨A9,⟨hE2,rfl,rfl⟩,?_⟩;generalize (Vv ⟨ks,(M ks:Y),0,cs,os,ks,gs,bs,r1⟩).out=r2 at*
  have o2:r2=r1++ks.map (·.1):=o2
  have l2:(M r2:Y)<=3000:=A8
  have hE3:YE ⟨gs,(M gs:Y),0,cs,os,ks,gs,bs,r2⟩:=⟨rfl,rfl,hg,AZ⟩
  have o3:=as4 _ hE3
  refine ⟨A9,⟨hE3,rfl,rfl⟩,?_⟩;generalize (W4 ⟨gs,(M gs:Y),0,cs,os,ks,gs,bs,r2⟩).out=r3 at*
  have o3:r3=r2++gs.map (·.1):=o3
  have l3:(M r3:Y)<=4000:=A8
  have hE4:YD ⟨bs,(M bs:Y),0,r3⟩:=⟨rfl,rfl,hb,AZ⟩
  have o4:=as2 _ hE4
  refine ⟨A9,⟨hE4,rfl,rfl⟩,?_⟩;generalize (WD ⟨bs,(M bs:Y),0,r3⟩).out=r4 at*
  have o4:r4=r3++bs.map (·.1):=o4
  refine ⟨A0,?_⟩
  show LV.xl _ _=_
  rw [CT,DS A0,o4,o3,o2,o1,o0,EG];rfl
 ·cases h)
structure MR where
 r:aN
 l:aL
 (n i:Y)
 BF:aL
 Bf:aF
 C6:aR
 BQ:aG
 C7:aS
def aGp:=bN f31 0
def aAZ (s:MR):T (Rd MR):=
 .br (aq<|s.i<s.n) (.ix s.i (M s.l)<|.req (0<=s.i)<|.br (!(IC s.i<|Ad s.l s.i)) (.so (.ret) {s with r:=X})<|.nx {s with i:=AA<|s.i+1}) (.so (.exit 0) s)
def Tl (s:MR) (j:Y):aN:=IC j<|Ad s.l j
def aCq (s:MR):Prop:=s.i=0/\0<=s.n/\s.n<=1000/\s.n=(M s.l:Y)
def Yk (s:MR):Prop:=0<=s.i/\s.i<=s.n/\s.n<=1000/\(s.n=(M s.l:Y))/\∀j:aD,(j:Y)<s.i->Tl s j=U
def tt (s:MR):aD:=(s.n-s.i).toNat
def aCT (x:Ex) (s s':MR):Prop:=(x=.exit 0/\∀j:aD,(j:Y)<s'.n->Tl s' j=U)\/(x=.ret/\s'.r=X/\∃j:aD,(j:Y)<s'.n/\Tl s' j=X)
def ajs:∀s,aCq s->Yk s:=by
 exact KN
def awz:Da Yk tt aCT aAZ:=by
 intro s hI;obtain ⟨h0,h1,h2,h3,h4⟩:=hI;refine AH (λc1=>AH (λc2=>?_) λc2=>?_) λc1=>?_
 ·have c1:s.i<s.n:=AY
  refine .inr ⟨rfl,rfl,s.i.toNat,A8,?_⟩;rw [CS A0]
  have hg:Tl s s.i=false:=aO0
  exact hg
 ·have c1:s.i<s.n:=AY
  have hg:Tl s s.i=true:=aO0
  rw [AJ (x:=s.i+1)];refine ⟨⟨A8,A8,h2,h3,λj hj=>?_⟩,by simp only [tt];omega⟩
  exact LU
 ·exact Sn
def RZ:AS MR:=⟨0,95,[1,2,13,14,15],[],λs=>[.own 0 0,s.r,s.l,s.n,s.i],λs=>[⟨[s.BF,s.Bf,s.C6,s.BQ,s.C7],28,.cl,X⟩],λv b=>⟨Ds v 1,B3 Ae v 2,AL v 3,AL v 4,AF Ae b 0 0,AF .str b 0 1,AF Ak b 0 2,AF Af b 0 3,AF Al b 0 4⟩,aAZ,λs r=> {s with r:=r.r,i:=r.i},λs=>s,λ_ s=>s,[.ret,.exit 0],aCq,Yk,tt⟩
abbrev adT:=RZ.run
abbrev aKC:=RZ.Av
def ayi:Rq Yk aAZ:=by
 exact yH
def Xo:aO:=[ax6,sQ,ax7]
def aQq:RZ.Ok:={}
def aQS:RZ.Pf (aCT):=⟨ajs,λs h=>rfl,awz,ayi⟩
def arh:SA 0 aGp RZ:=s1 aQq aQS Xo kN
def aqc:Fi aCq Yk aCT aKC adT:=AS.fin aQq aQS
structure MZ where
 r:aN
 l:aR
 (n i:Y)
 BF:aL
 Bf:aF
 C6:aR
 BQ:aG
 C7:aS
 cards:aC
def aGo:=bN f31 1
def jD (s:MZ):T (Rd MZ):=letI a:=OO s.l s.i;.br (aq<|s.i<s.n) (.ix s.i (M s.l)<|.br ((!(inB a.2.1 (0:Y)<|AA<|(M s.Bf:Y)-1)) ||((!(inB a.2.2.1 (1:Y) (9:Y))) ||((!(inB a.2.2.2 (1:Y) (1000000:Y))) ||(List.contains s.cards a.2.2.2)))) (.so (.ret) {s with r:=X})<|.req (List.contains s.cards a.2.2.2=X)<|.nx {s with i:=AA<|s.i+1,cards:=s.cards++[a.2.2.2]})<|.so (.exit 2) s
def Tk (s:MZ) (j:Y):aN:=koV (M s.Bf) (OO s.l j)&&!(((s.l.take j.toNat).map (·.2.2.2)).contains (OO s.l j).2.2.2)
def aCp (s:MZ):Prop:=s.i=0/\s.cards=[]/\s.n=(M s.l:Y)/\s.n<=1000/\(M s.Bf:Y)<=1000
def Yj (s:MZ):Prop:=0<=s.i/\s.i<=s.n/\s.n=(M s.l:Y)/\s.n<=1000/\((M s.Bf:Y)<=1000)/\s.cards=(s.l.take s.i.toNat).map (·.2.2.2)/\∀j:aD,(j:Y)<s.i->Tk s j=U
def tq (s:MZ):aD:=(s.n-s.i).toNat
def aCS (x:Ex) (s s':MZ):Prop:=(x=.exit 2/\∀j:aD,(j:Y)<s'.n->Tk s' j=U)\/(x=.ret/\s'.r=X/\∃j:aD,(j:Y)<s'.n/\Tk s' j=X)
def ajr:∀s,aCp s->Yj s:=by
 exact aMu
def awy:Da Yj tq aCS jD:=by
 intro s hI;unfold jD;obtain ⟨h0,h1,h2,h3,h4,h5,h6⟩:=hI;refine AH (λc1=>AH (λc2=>?_) λc2=>?_) λc1=>?_
 ·have c1:s.i<s.n:=AY
  refine .inr ⟨rfl,rfl,s.i.toNat,AZ,?_⟩;rw [CS h0]
  have hg:Tk s s.i=false:=by
   exact aMV
  exact hg
 ·have c1:s.i<s.n:=AY
  have hg:Tk s s.i=true:=by
   exact aMV
  rw [AJ (x:=s.i+1)];refine ⟨⟨AZ,AZ,h2,h3,h4,?_,λj hj=>?_⟩,by simp only [tq];omega⟩
  ·simp only
   rw [(aHB h0 (show s.i<M s.l by omega)).2,h5]
   try rw [KK]
   try rfl
  ·exact aOB
 ·exact aNi
def RY:AS MZ:=⟨0,95,[1,2,5,27,28,29],[],λs=>[.own 0 0,s.r,.om 1,s.l,s.n,s.i],λs=>[⟨[s.BF,s.Bf,s.C6,s.BQ,s.C7],28,.cl,X⟩,⟨[],171,.st A7 s.cards,X⟩],λv b=>⟨Ds v 1,B3 Ak v 3,AL v 4,AL v 5,AF Ae b 0 0,AF .str b 0 1,AF Ak b 0 2,AF Af b 0 3,AF Al b 0 4,gSe A7<|CX b 1⟩,jD,λs r=> {s with r:=r.r,i:=r.i,cards:=r.cards},λs=>s,λ_ s=>s,[.ret,.exit 2],aCp,Yj,tq⟩
abbrev adU:=RY.run
abbrev aKB:=RY.Av
def ayh:Rq Yj jD:=by
 intro s hI;refine ⟨λc1=>⟨?_,λ_=>trivial,λc2=>⟨?_,an⟩⟩,λ_=>trivial⟩
 all_goals ((obtain ⟨h0,h1,h2,h3,h4,h5,h6⟩:=hI;first|(simp at c1;omega) |(simp only [HF] at c2;exact c2.2.2.2)))
def aQp:RY.Ok:={}
def aQR:RY.Pf (aCS):=⟨ajr,λs h=>rfl,awy,ayh⟩
def arf:SA 0 aGo RY:=s1 aQp aQR Xo kN
def aqb:Fi aCp Yj aCS aKB adU:=AS.fin aQp aQR
structure Mf where
 r:aN
 l:aG
 (n i:Y)
 BF:aL
 Bf:aF
 C6:aR
 BQ:aG
 C7:aS
def aGn:=bN f31 2
def aAY (s:Mf):T (Rd Mf):=
 .br (aq<|s.i<s.n) (.ix s.i (M s.l)<|.req ((M s.BF:Y)<=1000/\(M s.Bf:Y)<=1000)<|.br (!(G4 (M s.BF) (M s.Bf)<|AG s.l s.i)) (.so (.ret) {s with r:=X})<|.nx {s with i:=AA<|s.i+1}) (.so (.exit 4) s)
def Tj (s:Mf) (j:Y):aN:=G4 (M s.BF) (M s.Bf)<|AG s.l j
def aCo (s:Mf):Prop:=s.i=0/\0<=s.n/\s.n<=1000/\s.n=(M s.l:Y)/\(M s.BF:Y)<=1000/\(M s.Bf:Y)<=1000
def Y1 (s:Mf):Prop:=0<=s.i/\s.i<=s.n/\s.n<=1000/\(s.n=(M s.l:Y)/\(M s.BF:Y)<=1000/\(M s.Bf:Y)<=1000)/\∀j:aD,(j:Y)<s.i->Tj s j=U
def tn (s:Mf):aD:=(s.n-s.i).toNat
def aCR (x:Ex) (s s':Mf):Prop:=(x=.exit 4/\∀j:aD,(j:Y)<s'.n->Tj s' j=U)\/(x=.ret/\s'.r=X/\∃j:aD,(j:Y)<s'.n/\Tj s' j=X)
def akR:∀s,aCo s->Y1 s:=by
 exact KN
def awx:Da Y1 tn aCR aAY:=by
 intro s hI;obtain ⟨h0,h1,h2,h3,h4⟩:=hI;refine AH (λc1=>AH (λc2=>?_) λc2=>?_) λc1=>?_
 ·have c1:s.i<s.n:=AY
  refine .inr ⟨rfl,rfl,s.i.toNat,AZ,?_⟩
  have hg:Tj s s.i=false:=aNz
  exact hg
 ·have c1:s.i<s.n:=AY
  have hg:Tj s s.i=true:=aNz
  rw [AJ (x:=s.i+1)];refine ⟨⟨A8,A8,h2,h3,λj hj=>?_⟩,by simp only [tn];omega⟩
  exact LU
 ·exact Sn
def RX:AS Mf:=⟨0,95,[1,2,67,68,69],[],λs=>[.own 0 0,s.r,s.l,s.n,s.i],λs=>[⟨[s.BF,s.Bf,s.C6,s.BQ,s.C7],28,.cl,X⟩],λv b=>⟨Ds v 1,B3 Af v 2,AL v 3,AL v 4,AF Ae b 0 0,AF .str b 0 1,AF Ak b 0 2,AF Af b 0 3,AF Al b 0 4⟩,aAY,λs r=> {s with r:=r.r,i:=r.i},λs=>s,λ_ s=>s,[.ret,.exit 4],aCo,Y1,tn⟩
abbrev ae1:=RX.run
abbrev aKA:=RX.Av
def ayg:Rq Y1 aAY:=by
 intro s hI;refine ⟨λc1=>⟨?_,?_,λ_=>trivial,λ_=>trivial⟩,λ_=>trivial⟩
 all_goals ((obtain ⟨h0,h1,h2,h3,h4⟩:=hI;simp at c1;first|omega|exact h3.2))
def aQo:RX.Ok:={}
def aQQ:RX.Pf (aCR):=⟨akR,λs h=>rfl,awx,ayg⟩
def ard:SA 0 aGn RX:=s1 aQo aQQ Xo kN
def aqa:Fi aCo Y1 aCR aKA ae1:=AS.fin aQo aQQ
structure Ml where
 r:aN
 l:aS
 (n i:Y)
 BF:aL
 Bf:aF
 C6:aR
 BQ:aG
 C7:aS
def aGm:=bN f31 3
def aAX (s:Ml):T (Rd Ml):=
 .br (aq<|s.i<s.n) (.ix s.i (M s.l)<|.br (!(inB (OU s.l s.i).2 (0:Y)<|AA<|(M s.BQ:Y)-1)) (.so (.ret) {s with r:=X})<|.nx {s with i:=AA<|s.i+1}) (.so (.exit 6) s)
def Ti (s:Ml) (j:Y):aN:=inB (OU s.l j).2 0<|AA<|(M s.BQ:Y)-1
def aCn (s:Ml):Prop:=s.i=0/\0<=s.n/\s.n<=1000/\s.n=(M s.l:Y)
def Y0 (s:Ml):Prop:=0<=s.i/\s.i<=s.n/\s.n<=1000/\(s.n=(M s.l:Y))/\∀j:aD,(j:Y)<s.i->Ti s j=U
def tm (s:Ml):aD:=(s.n-s.i).toNat
def aCQ (x:Ex) (s s':Ml):Prop:=(x=.exit 6/\∀j:aD,(j:Y)<s'.n->Ti s' j=U)\/(x=.ret/\s'.r=X/\∃j:aD,(j:Y)<s'.n/\Ti s' j=X)
def akQ:∀s,aCn s->Y0 s:=by
 exact KN
def aww:Da Y0 tm aCQ aAX:=by
 intro s hI;obtain ⟨h0,h1,h2,h3,h4⟩:=hI;refine AH (λc1=>AH (λc2=>?_) λc2=>?_) λc1=>?_
 ·have c1:s.i<s.n:=AY
  refine .inr ⟨rfl,rfl,s.i.toNat,A8,?_⟩
  have hg:Ti s s.i=false:=aNy
  exact hg
 ·have c1:s.i<s.n:=AY
  have hg:Ti s s.i=true:=aNy
  rw [AJ (x:=s.i+1)];refine ⟨⟨A8,A8,h2,h3,λj hj=>?_⟩,by simp only [tm];omega⟩
  exact LU
 ·exact Sn
def RU:AS Ml:=⟨0,95,[1,2,79,80,81],[],λs=>[.own 0 0,s.r,s.l,s.n,s.i],λs=>[⟨[s.BF,s.Bf,s.C6,s.BQ,s.C7],28,.cl,X⟩],λv b=>⟨Ds v 1,B3 Al v 2,AL v 3,AL v 4,AF Ae b 0 0,AF .str b 0 1,AF Ak b 0 2,AF Af b 0 3,AF Al b 0 4⟩,aAX,λs r=> {s with r:=r.r,i:=r.i},λs=>s,λ_ s=>s,[.ret,.exit 6],aCn,Y0,tm⟩
abbrev aHx:=RU.run
abbrev aK9:=RU.Av
def ayf:Rq Y0 aAX:=by
 exact Sk
def aQn:RU.Ok:={}
def aQP:RU.Pf (aCQ):=⟨akQ,λs h=>rfl,aww,ayf⟩
def arb:SA 0 aGm RU:=s1 aQn aQP Xo kN
def aqZ:Fi aCn Y0 aCQ aK9 aHx:=AS.fin aQn aQP
def aLB:aE->T LV
 | .agg a::r=>s5 a λcs os ks gs bs=>(match r with
  | []=> .req ((M cs:Y)<=1000/\(M os:Y)<=1000/\(M ks:Y)<=1000/\(M gs:Y)<=1000/\(M bs:Y)<=1000) (.ok<|vpB cs os ks gs bs)
  |_=> .no)
 |_=> .no
def ax5:=vm (S:=aLB) func31 Xo kN (L:=(λi=>if i=2 then RZ.lp else if i=9 then RY.lp else if i=16 then RX.lp else if i=22 then RU.lp else Ap i)) (λb hb=>by
 rw [show BD _=[aGp,aGo,aGn,aGm] by kernel_rfl] at hb
 simp only [B9,Bx,By] at hb;rcases hb with rfl|rfl|rfl|rfl
 ·exact arh
 ·exact arf
 ·exact ard
 ·exact arb) (λargs lv h=>by
 unfold aLB at h;split at h
 case h_2=>cases h
 replace h:=Ia h
 obtain ⟨cs,os,ks,gs,bs,rfl,h⟩:=h;split at h
 ·refine Au (letI g:=(M cs:Y);letI k:=(M ks:Y);letI l:=(M gs:Y);letI m:=(M bs:Y);letI c:=(adT (⟨X,cs,g,0,cs,os,ks,gs,bs⟩:MR));letI a:=(adU (⟨c.r,ks,k,0,cs,os,ks,gs,bs,([]:aC)⟩:MZ));letI e:=(ae1 (⟨a.r,gs,l,0,cs,os,ks,gs,bs⟩:Mf));.req (RZ.q (⟨X,cs,g,0,cs,os,ks,gs,bs⟩:MR))<|.br (Bt (aKC (⟨X,cs,g,0,cs,os,ks,gs,bs⟩:MR))<|.ret) (.ok c.r)<|.req (RY.q (⟨c.r,ks,k,0,cs,os,ks,gs,bs,([]:aC)⟩:MZ))<|.br (Bt (aKB (⟨c.r,ks,k,0,cs,os,ks,gs,bs,([]:aC)⟩:MZ))<|.ret) (.ok a.r)<|.req (RX.q (⟨a.r,gs,l,0,cs,os,ks,gs,bs⟩:Mf))<|.br (Bt (aKA (⟨a.r,gs,l,0,cs,os,ks,gs,bs⟩:Mf))<|.ret) (.ok e.r)<|.req (RU.q (⟨e.r,bs,m,0,cs,os,ks,gs,bs⟩:Ml))<|.br (Bt (aK9 (⟨e.r,bs,m,0,cs,os,ks,gs,bs⟩:Ml))<|.ret) (.ok (aHx (⟨e.r,bs,m,0,cs,os,ks,gs,bs⟩:Ml)).r)<|.ok U) ?_
  obtain ⟨⟨hc,ho,hk,hg,hb⟩,rfl⟩:=h;refine LJ ⟨⟨rfl,AZ,hc,rfl⟩,rfl,rfl⟩ λhE0=>?_
  obtain ⟨s',_,hq⟩:=aqc _ hE0.1;rcases hq with ⟨q1,q2⟩ |⟨q1,q2,j,q3,q4⟩
  rotate_left
  ·rw [q1,q2]
   refine ⟨λ_=>B0 (λz=>LV.v<|.bool z) ?_,λh=>As⟩
   unfold vpB;rw [P1 (f:=λj=>IC j<|Ad cs j) j q3 q4]
   rfl
  rw [q1];refine ⟨λh=>As,λ_=>?_⟩
  have g0:DQ (M cs) (λj=>IC j<|Ad cs j)=true:=Dq.2 q2
  refine LJ ⟨⟨rfl,rfl,rfl,hk,ho⟩,rfl,rfl⟩ λhE1=>?_
  obtain ⟨s',_,hq⟩:=aqb _ hE1.1;rcases hq with ⟨q1,q2⟩ |⟨q1,q2,j,q3,q4⟩
  rotate_left
  ·rw [q1,q2]
   refine ⟨λ_=>B0 (λz=>LV.v<|.bool z) ?_,λh=>As⟩
   unfold vpB
   have hn:(ks.all (koV<|M os)&&once (ks.map (·.2.2.2)))=false:=by
    rw [IS];intro hx
    have:=(WR (d:=(emp,0,0,0))).2 hx j q3
    exact Bool.noConfusion<|this.symm.trans q4
   rw [g0,ES,<-V8,hn];rfl
  rw [q1];refine ⟨λh=>As,λ_=>?_⟩
  have g1:(ks.all (koV<|M os)&&once (ks.map (·.2.2.2)))=true:=(WR (d:=(emp,0,0,0))).1 q2
  refine LJ ⟨⟨rfl,AZ,hg,rfl,hc,ho⟩,rfl,rfl⟩ λhE2=>?_
  obtain ⟨s',_,hq⟩:=aqa _ hE2.1;rcases hq with ⟨q1,q2⟩ |⟨q1,q2,j,q3,q4⟩
  rotate_left
  ·rw [q1,q2]
   refine ⟨λ_=>B0 (λz=>LV.v<|.bool z) ?_,λh=>As⟩
   unfold vpB
   have hn:gs.all (G4 (M cs)<|M os)=false:=by
    rw [IS];intro hx
    have:=(Ql (d:=(emp,0,0,0,0,0,0,0))).2 hx j q3
    exact Bool.noConfusion<|this.symm.trans q4
   rw [g0,ES,<-V8,g1,hn];rfl
  rw [q1];refine ⟨λh=>As,λ_=>?_⟩
  have g2:gs.all (G4 (M cs)<|M os)=true:=(Ql (d:=(emp,0,0,0,0,0,0,0))).1 q2
  have hw:=AJ (x:=(M gs:Y)-1)
  refine LJ ⟨⟨rfl,AI,hb,rfl⟩,rfl,rfl⟩ λhE3=>?_
  obtain ⟨s',_,hq⟩:=aqZ _ hE3.1;rcases hq with ⟨q1,q2⟩ |⟨q1,q2,j,q3,q4⟩
  rotate_left
  ·rw [q1,q2]
   refine ⟨λ_=>B0 (λz=>LV.v<|.bool z) ?_,λh=>As⟩
   unfold vpB
   have hn:bs.all (λb=>inB b.2 0<|(M gs:Y)-1)=false:=by
    rw [IS];intro hx
    have:=(Ql (d:=(emp,0))).2 hx j q3
    have q4:inB (OU bs j).2 0 (AA<|(M gs:Y)-1)=false:=q4
    rw [hw] at q4;exact Bool.noConfusion<|this.symm.trans q4
   rw [g0,ES,<-V8,g1,g2,hn];rfl
  rw [q1];refine ⟨λh=>As,λ_=>?_⟩
  have g3:bs.all (λb=>inB b.2 0<|(M gs:Y)-1)=true:=(Ql (d:=(emp,0))).1 (λj hj=>by
   have:inB (OU bs j).2 0 (AA<|(M gs:Y)-1)=true:=q2 j hj
   rw [hw] at this;exact this)
  refine B0 (λz=>LV.v<|.bool z) ?_
  unfold vpB;rw [g0,ES,<-V8,g1,g2,g3];rfl
 ·cases h)
structure M8 where
 r:aN
 l:aF
 (n i:Y)
 BF:aL
 Bf:aF
 C6:aR
 BQ:aG
 C7:aS
 seen:aF
def aJP:=bN f11 0
def oE (s:M8):T (Rd M8):=letI a:=gS s.l s.i;.br (aq<|s.i<s.n) (.ix s.i (M s.l)<|.br ((!(nameB a)) ||(List.contains s.seen a)) (.so (.ret) {s with r:=X})<|.req (List.contains s.seen a=X)<|.nx {s with i:=AA<|s.i+1,seen:=s.seen++[a]})<|.so (.exit 0) s
def SP (s:M8) (j:Y):aN:=nameB (gS s.l j)&&!(((s.l.take j.toNat).map id).contains<|gS s.l j)
def xV (s:M8):Prop:=s.i=0/\s.seen=[]/\s.n=(M s.l:Y)/\s.n<=1000/\True
def cj (s:M8):Prop:=0<=s.i/\s.i<=s.n/\s.n=(M s.l:Y)/\s.n<=1000/\(True)/\s.seen=(s.l.take s.i.toNat).map id/\∀j:aD,(j:Y)<s.i->SP s j=U
def aBY (s:M8):aD:=(s.n-s.i).toNat
def xJ (x:Ex) (s s':M8):Prop:=(x=.exit 0/\∀j:aD,(j:Y)<s'.n->SP s' j=U)\/(x=.ret/\s'.r=X/\∃j:aD,(j:Y)<s'.n/\SP s' j=X)
def aoG:∀s,xV s->cj s:=by
 exact aMu
def akw:Da cj aBY xJ oE:=by
 intro s hI;unfold oE;obtain ⟨h0,h1,h2,h3,h4,h5,h6⟩:=hI;refine AH (λc1=>AH (λc2=>?_) λc2=>?_) λc1=>?_
 ·have c1:s.i<s.n:=AY
  refine .inr ⟨rfl,rfl,s.i.toNat,AZ,?_⟩;rw [CS h0]
  have hg:SP s s.i=false:=by
   unfold SP
   grind
  exact hg
 ·have c1:s.i<s.n:=AY
  have hg:SP s s.i=true:=by
   unfold SP
   grind
  rw [AJ (x:=s.i+1)];refine ⟨⟨AZ,AZ,h2,h3,h4,?_,λj hj=>?_⟩,by simp only [aBY];omega⟩
  ·simp only
   rw [(aK4 h0 (show s.i<M s.l by omega)).2,h5]
   try rw [KK]
   try rfl
  ·exact aOB
 ·exact aNi
def SS:AS M8:=⟨0,61,[1,2,3,42,43,44],[],λs=>[.own 0 0,s.r,.om 1,s.l,s.n,s.i],λs=>[⟨[s.BF,s.Bf,s.C6,s.BQ,s.C7],28,.cl,X⟩,⟨[],114,.st .str s.seen,X⟩],λv b=>⟨Ds v 1,B3 .str v 3,AL v 4,AL v 5,AF Ae b 0 0,AF .str b 0 1,AF Ak b 0 2,AF Af b 0 3,AF Al b 0 4,gSe .str<|CX b 1⟩,oE,λs r=> {s with r:=r.r,i:=r.i,seen:=r.seen},λs=>s,λ_ s=>s,[.ret,.exit 0],xV,cj,aBY⟩
abbrev aPv:=SS.run
abbrev aTY:=SS.Av
def akg:Rq cj oE:=by
 intro s hI;refine ⟨λc1=>⟨?_,λ_=>trivial,λc2=>⟨?_,an⟩⟩,λ_=>trivial⟩
 all_goals ((obtain ⟨h0,h1,h2,h3,h4,h5,h6⟩:=hI;first|(simp at c1;omega) |(simp only [HF] at c2;exact c2.2)))
def abp:aO:=[awR,awW,ax5]
def abt:SS.Ok:={}
def aaf:SS.Pf (xJ):=⟨aoG,λs h=>rfl,akw,akg⟩
def axR:SA 0 aJP SS:=s1 abt aaf abp kN
def axk:Fi xV cj xJ aTY aPv:=AS.fin abt aaf
def aLE:aE->T LV
 | .agg a::r=>s5 a λcs os ks gs bs=>(match r with
  | []=> .ok (BB cs os ks gs bs)
  |_=> .no)
 |_=> .no
def P9:=vm (S:=aLE) func11 abp kN (L:=(λi=>if i=5 then SS.lp else Ap i)) (λb hb=>by
 rw [show BD _=[aJP] by kernel_rfl] at hb
 simp only [B9,Bx,By] at hb;subst hb;exact axR) (λargs lv h=>by
 unfold aLE at h;split at h
 case h_2=>cases h
 replace h:=Ia h
 obtain ⟨cs,os,ks,gs,bs,rfl,h⟩:=h;split at h
 ·refine Au (letI b:=Lo cs os ks gs bs;letI e:=(M b:Y);letI f:=(M cs:Y);letI a:=(f<=1000/\(M os:Y)<=1000/\(M ks:Y)<=1000/\(M gs:Y)<=1000/\(M bs:Y)<=1000);.br ((aq<|f<1) ||((aq<|f>16) ||((aq<|(M os:Y)>8) ||((aq<|(M ks:Y)>32) ||((aq<|(M gs:Y)>16) ||(aq<|(M bs:Y)>24)))))) (.ok X)<|.req a<|.req (SS.q (⟨X,b,e,0,cs,os,ks,gs,bs,([]:aF)⟩:M8))<|.br (Bt (aTY (⟨X,b,e,0,cs,os,ks,gs,bs,([]:aF)⟩:M8))<|.ret) (.ok (aPv (⟨X,b,e,0,cs,os,ks,gs,bs,([]:aF)⟩:M8)).r)<|.req a<|.ok<|vpB cs os ks gs bs) ?_
  obtain rfl:=h;refine ⟨λc=>B0 (λz=>LV.v<|.bool z) ?_,λc=>?_⟩
  ·rw [Sl,IS]
   intro hx;unfold BB at hx;rw [AV,Aa] at hx;simp only [Cc,Aa] at c;omega
  have hd:1<=M cs/\M cs<=16/\M os<=8/\M ks<=32/\M gs<=16/\M bs<=24:=by
   simp only [HF,DB] at c;omega
  have hs:BB cs os ks gs bs=(((Lo cs os ks gs bs).all nameB&&once (Lo cs os ks gs bs))&&vpB cs os ks gs bs):=by
   unfold BB
   grind
  have hl:(M (Lo cs os ks gs bs):Y)<=1000:=by
   unfold Lo;simp only [B8,GH];omega
  rw [hs]
  have hr:(M cs:Y)<=1000/\(M os:Y)<=1000/\(M ks:Y)<=1000/\(M gs:Y)<=1000/\(M bs:Y)<=1000:=A0
  refine ⟨hr,?_⟩;generalize Lo cs os ks gs bs=l at*;refine LJ ⟨⟨rfl,rfl,rfl,hl,an⟩,rfl,rfl⟩ λhE=>?_
  obtain ⟨s',_,hq⟩:=axk _ hE.1;rcases hq with ⟨q1,q2⟩ |⟨q1,q2,j,q3,q4⟩
  ·rw [q1]
   have hk:=(WR (d:=emp) (p:=nameB) (k:=id)).1 q2
   rw [VH] at hk;refine ⟨λh=>As,λ_=>⟨hr,?_⟩⟩
   rw [hk,ES];rfl
  ·rw [q1,q2]
   refine ⟨λ_=>B0 (λz=>LV.v<|.bool z) ?_,λh=>As⟩
   have hn:(l.all nameB&&once l)=false:=by
    rw [IS];intro hx
    have:=(WR (d:=emp) (p:=nameB) (k:=id)).2 (by rw [VH];exact hx) j q3
    exact Bool.noConfusion<|this.symm.trans q4
   rw [hn];rfl
 ·cases h)
def aLO:aE->T LV
 | .agg a::r=>s5 a λcs os ks gs bs=>(match r with
  | [.v (ah J c)]=> .ok (.fn 90 [xQ 1 [c],xQ 5 [cs,os,ks,gs,bs]])
  |_=> .no)
 |_=> .no
def Q5:aO:=[]
def abW:Az:=kI Q5<|l0 Q5
def gq:=vo (S:=aLO) func63 Q5 abW (λargs lv h=>by
 unfold aLO at h;split at h
 case h_2=>cases h
 replace h:=Ia h
 obtain ⟨cs,os,ks,gs,bs,rfl,h⟩:=h;split at h
 ·rename_i c
  refine Au (.ok<|.fn 90 [(xQ 1 [c]),(xQ 5 [cs,os,ks,gs,bs])]) ?_;exact h
 ·cases h)
def aBD:Array Tmp×Code×Code:=((J5<|f210.body.getD .skip)[0]?).getD (#[],.skip,.skip)
def akU:aVF:=aBD.1
def aly:bC:=aBD.2.1
def alm:bC:=aBD.2.2
structure Mo where
 cs:aL
 os:aF
 ks:aR
 gs:aG
 bs:aS
 (c b0:Y)
 b1:aN
 st:LS
def jI (s:Mo):T (Rd Mo):=
 .br (aq<|s.c>=0) (.br (s.c==s.b0) (.so (.ret) {s with b1:=U,st:=.done<|.ret})<|.ix s.c (M s.cs)<|.nx {s with c:=(Ad s.cs s.c).2.1}) (.so (.exit 0) s)
def aCt (s:Mo):Prop:=s.st=.ready/\Ff s.cs=U/\s.c<(M s.cs:Y)/\s.b1=X
def lE (s:Mo):Prop:=s.st=.ready/\Ff s.cs=U/\s.c<(M s.cs:Y)
def vR (s:Mo):aD:=(s.c+1).toNat
def acO (x:Ex) (s s':Mo):Prop:=(x=.ret/\s'.b1=U/\Fh s.cs s.b0 s.c=U)\/(x=.exit 0/\Fh s.cs s.b0 s.c=X)
def am3:∀s,aCt s->lE s:=by
 rintro s ⟨h0,h1,h2,h3⟩
 exact ⟨h0,h1,h2⟩
def aQj:Da lE vR acO jI:=by
 intro s hI;obtain ⟨h0,h1,h2⟩:=hI
 have hp:=aRA (o:=s.b0) h1 h2
 refine AH (λc1=>AH (λc2=>?_) λc2=>?_) λc1=>?_
 ·have c1:0<=s.c:=A8
  exact .inl ⟨rfl,rfl,A8⟩
 ·have c1:0<=s.c:=A8
  have:=R1 h1 c1 h2
  exact ⟨⟨h0,h1,A8⟩,by simp only [vR];omega⟩
 ·have c1:¬(0<=s.c):=A8
  exact .inr ⟨rfl,A8⟩
def ZM:AS Mo:=⟨3,18,[0,2,4],[],λs=>[.CQ 2,xQ 5 [s.cs,s.os,s.ks,s.gs,s.bs],s.c],λs=>[⟨[s.b0],3,.cl,X⟩,⟨[s.b1],4,.cl,X⟩,⟨[.junk,.junk,.junk,.own 0 0,.own 1 0,.v<|.tuple #[],.junk,.v<|.tuple #[],.v<|.tuple #[],.v<|.tuple #[],.v<|.tuple #[]],0,.Cn akU aly alm s.st,X⟩],λv b=>⟨Ao Ae<|BT (v.getD 1 .junk) 0,Ao .str<|BT (v.getD 1 .junk) 1,Ao Ak<|BT (v.getD 1 .junk) 2,Ao Af<|BT (v.getD 1 .junk) 3,Ao Al<|BT (v.getD 1 .junk) 4,AL v 2,Am b 0 0,cgB b 1 0,.ready⟩,jI,λs r=> {r with cs:=s.cs,os:=s.os,ks:=s.ks,gs:=s.gs,bs:=s.bs,b0:=s.b0},λs=> {s with st:=.ready},λx s=> {s with st:=(match x with| .ret=>(.done<|.ret) | .exit 0=> .ready|_=> .ready)},[.ret,.exit 0],aCt,lE,vR⟩
abbrev sC:=ZM.run
abbrev tD:=ZM.Av
def ayz:Rq lE jI:=by
 intro s hI;refine ⟨λc1=>⟨λ_=>trivial,λc2=>⟨?_,an⟩⟩,λ_=>trivial⟩
 ·(obtain ⟨h0,h1,h2⟩:=hI;simp at c1 h2;exact ⟨c1,h2⟩)
def uD:ZM.Ok:={}
def ua:ZM.Pf (acO):=⟨am3,λs h=>by
 obtain ⟨cs,os,ks,gs,bs,c,b0,b1,st⟩:=s
 have e:=h.1
 subst e;rfl,aQj,ayz⟩
def ar4:=s2 (b:=bN f90 0) uD ua Q5 abW
def azB (s:Mo) (hE:aCt s):(tD s=.ret/\(sC s).b1=U/\Fh s.cs s.b0 s.c=U)\/(tD s=.exit 0/\Fh s.cs s.b0 s.c=X):=by
 have hk:=AS.Kx uD ua (λs=>Fh s.cs s.b0 s.c) (λs hI=>by
  obtain ⟨h0,h1,h2⟩:=hI
  have hp:=aRA (o:=s.b0) h1 h2
  refine AH (λc1=>AH (λc2=>rfl) λc2=>?_) λc1=>rfl
  have c1:0<=s.c:=A8
  show Fh _ _ _=Fh _ _ _
  rw [hp,AD c1,c2,D5]) s hE
 have hk:Fh s.cs s.b0 (sC s).c=Fh s.cs s.b0 s.c:=hk
 obtain ⟨s',hI,hf⟩:=AS.end_ uD ua s hE
 have hq:=df (aQj s' hI) hf
 have hc:=df (Pn:=λ_=>True) (Ps:=λ_ r=>r.cs=s'.cs/\r.b0=s'.b0/\r.c=s'.c) (r:=(jI s').rd s') (by
   exact AH (λ_=>AH (λ_=>⟨rfl,rfl,rfl⟩) λ_=>trivial) λ_=>⟨rfl,rfl,rfl⟩) hf
 obtain ⟨hc1,hc3,hc2⟩:=hc
 have e1:s.cs=s'.cs:=hc1
 have e2:s.b0=s'.b0:=hc3
 rwa [<-hk,hc2,e1,e2]
def aUM:aE->T LV
 | [.fn 90 [.xq 1 q0,.xq 5 q1],.v (ah J o)]=>(match ([q0 0]:aE) with
  | [.v (ah J c)]=>(match ([q1 0,q1 1,q1 2,q1 3,q1 4]:aE) with
  | [.xl (.pair .str (.pair (.int J) (.pair (.int J) (.pair (.int J) (.pair (.pair (.int J) (.int J)) (.pair (.int J) (.pair (.int J) (.pair (.int J) (.pair (.int J) (.int J)))))))))) cs,.xl (.str) os,.xl (.pair .str (.pair (.int J) (.pair (.int J) (.int J)))) ks,.xl (.pair .str (.pair (.int J) (.pair (.int J) (.pair (.int J) (.pair (.int J) (.pair (.int J) (.pair (.int J) (.int J)))))))) gs,.xl (.pair .str (.int J)) bs]=> .req (Ff cs=U/\c<(M cs:Y)) (.ok<|Fh cs o c)
  |_=> .no)
  |_=> .no)
 |_=> .no
def abV:Az:=kI Q5<|la 1 func90 ar4<|l0 Q5
def agu (c:Y) (cs:aL) (os:aF) (ks:aR) (gs:aG) (bs:aS) (o:Y):Bu prog AU (Q5) abV Ap f210 [.fn 90 [xQ 1 [c],xQ 5 [cs,os,ks,gs,bs]],o]=.req (ZM.q (⟨cs,os,ks,gs,bs,c,o,X,.ready⟩:Mo)) (.br (Bt (tD (⟨cs,os,ks,gs,bs,c,o,X,.ready⟩:Mo))<|.ret) (.ok (sC (⟨cs,os,ks,gs,bs,c,o,X,.ready⟩:Mo)).b1)<|.ok X):=AX
def akD:=vo (S:=aUM) func210 Q5 abV (λargs lv h=>by
 refine ⟨?_⟩;unfold aUM at h;split at h
 ·split at h
  case h_2=>cases h
  rename_i heq0;split at h
  case h_2=>cases h
  rename_i heq1;simp only [canL,canX];rw [E4 (n:=1) heq0];rw [E4 (n:=5) heq1];simp only [canL,canX];rw [agu];obtain ⟨⟨hu,hc⟩,rfl⟩:=h;refine LJ ⟨⟨rfl,hu,hc,rfl⟩,rfl,rfl⟩ λhE=>?_
  rcases azB _ hE.1 with ⟨h1,h2,h3⟩ |⟨h1,h2⟩
  ·rw [h1,h2]
   exact ⟨λ_=>B0 (λz=>LV.v<|.bool z) h3.symm,λh=>As⟩
  ·rw [h1]
   exact ⟨λh=>As,λ_=>B0 (λz=>LV.v<|.bool z) h2.symm⟩
 ·cases h)
structure OM where
 l:aG
 (n i:Y)
 Bi:aL
 Gi:aF
 Gf:aR
 Gk:aG
 Gm:aS
 b1:Y
 out:aC
def aJe:=bN f176 0
def oL (s:OM):T (Rd OM):=
 .br (aq<|s.i<s.n) (.ix s.i (M s.l)<|.req (Ff s.Bi=U/\(AG s.l s.i).2.1<(M s.Bi:Y))<|.br (Fh s.Bi s.b1 (AG s.l s.i).2.1) (.rb (M s.out) (M<|[s.i]) 8<|.re (M s.out+M ([s.i])) (s.out++([s.i]))<|.nx {s with i:=AA<|s.i+1,out:=s.out++([s.i])})<|.rl s.out<|.nx {s with i:=AA<|s.i+1}) (.rl s.out<|.so (.exit 0) s)
def pD (s:OM):Prop:=s.i=0/\s.out=[]/\s.n=(M s.l:Y)/\s.n<=1000/\Ff s.Bi=U/\atB s.Bi s.l=U
def cx (s:OM):Prop:=(0<=s.i/\s.i<=s.n)/\s.out=Cs s.Bi s.l s.b1 s.i.toNat/\s.n=(M s.l:Y)/\s.n<=1000/\Ff s.Bi=U/\atB s.Bi s.l=U
def jY (s:OM):aD:=(s.n-s.i).toNat
def xS (x:Ex) (s s':OM):Prop:=x=.exit 0/\s'.out=Cs s'.Bi s'.l s'.b1 (M s'.l)
def aoB:∀s,pD s->cx s:=by
 rintro s ⟨h0,h1,h2,h3,h4,h5⟩
 exact ⟨⟨A0,A0⟩,nk,h2,h3,h4,h5⟩
def anS:Da cx jY xS oL:=by
 intro s hI;unfold oL;obtain ⟨⟨h0,h1⟩,h2,h3,h4,h5,h6⟩:=hI;refine AH (λc1=>?_) λc1=>?_
 ·have c1:s.i<s.n:=AY
  have hs:=aFl (cs:=s.Bi) (gs:=s.l) (o:=s.b1) (k:=s.i.toNat)
  rw [AJ (x:=s.i+1)];refine AH (λc2=>?_) λc2=>?_
  ·refine ⟨⟨⟨AZ,AZ⟩,?_,h3,h4,h5,h6⟩,by simp only [jY];omega⟩
   simp only
   grind
  ·refine ⟨⟨⟨A8,A8⟩,?_,h3,h4,h5,h6⟩,by simp only [jY];omega⟩
   simp only
   grind
 ·have c1:s.n<=s.i:=AY
  exact ⟨rfl,A8⟩
def SF:AS OM:=⟨0,42,[6,7,26,27,28],[.nl 7 3 A7],λs=>[.fn 209 [.own 0 0,.own 1 0],.os 2 1 0<|M s.out,s.l,s.n,s.i],λs=>[⟨[s.Bi,s.Gi,s.Gf,s.Gk,s.Gm],28,.cl,X⟩,⟨[s.b1],3,.cl,X⟩,bV 3 A7 s.out],λv b=>⟨B3 Af v 2,AL v 3,AL v 4,AF Ae b 0 0,AF .str b 0 1,AF Ak b 0 2,AF Af b 0 3,AF Al b 0 4,Am b 1 0,Ab A7 b 2⟩,oL,λs r=> {s with i:=r.i,out:=r.out},λs=>s,λ_ s=>s,[.exit 0],pD,cx,jY⟩
abbrev qx:=SF.run
abbrev aid:=SF.Av
def aks:Rq cx oL:=by
 intro s hI;refine ⟨λc1=>⟨?_,?_,λc2=>⟨?_,?_,an⟩,λc2=>⟨A9,an⟩⟩,λc1=>⟨A9,an⟩⟩
 all_goals ((obtain ⟨⟨h0,h1⟩,h2,h3,h4,h5,h6⟩:=hI;have hol:M s.out<=s.i.toNat:=(by rw [h2];exact qb);(try simp only [Aa] at c1);first|omega|exact ⟨h5,il h6 h0 A0⟩ |(refine ⟨A0,?_,?_⟩<;>simp only [BY,Bh]<;>omega) |exact ⟨rfl,AI⟩ |exact ⟨rfl,rfl⟩))
def jx:aO:=[P9,gq,akD]
def abU:Az:=kI jx<|l0 jx
def ac4:SF.Ok:={}
def aaN:SF.Pf (xS):=⟨aoB,λs h=>rfl,anS,aks⟩
def axe:SA 0 aJe SF:=s1 ac4 aaN jx abU
def ajQ:Fi pD cx xS aid qx:=AS.fin ac4 aaN
def aHX:aE->T LV
 | .agg a::r=>s5 a λcs os ks gs bs=>(match r with
  | [.v (ah J o)]=> .ok (.AQ [.xl A7<|QW cs os ks gs bs o,xW cs os ks gs bs o])
  |_=> .no)
 |_=> .no
def aql:=vm (S:=aHX) func176 jx abU (L:=(λi=>if i=6 then SF.lp else Ap i)) (λb hb=>by
 rw [show BD _=[aJe] by kernel_rfl] at hb
 simp only [B9,Bx,By] at hb;subst hb;exact axe) (λargs lv h=>by
 unfold aHX at h;split at h
 case h_2=>cases h
 replace h:=Ia h
 obtain ⟨cs,os,ks,gs,bs,rfl,h⟩:=h;split at h
 ·rename_i o
  refine Au (letI a:=(qx (⟨gs,(M gs:Y),0,cs,os,ks,gs,bs,o,([]:aC)⟩:OM));.br ((!(BB cs os ks gs bs)) ||((aq<|o<0) ||(aq<|o>=(M cs:Y)))) (.ok<|.AQ [.xl A7 ([]:aC),(1:Y)])<|.r0 Int<|.req (SF.q (⟨gs,(M gs:Y),0,cs,os,ks,gs,bs,o,([]:aC)⟩:OM))<|.rz a.out<|.ok<|.AQ [.xl A7<|(a.out.drop 0).take<|M a.out,(0:Y)]) ?_;obtain rfl:=h;refine ⟨λc=>?_,λc=>?_⟩
  ·have hn:¬(BB cs os ks gs bs=U/\0<=o/\o<(M cs:Y)):=by
    rintro ⟨h1,h2,h3⟩
    rw [h1] at c
    simp at c
    omega
   show LV.AQ _=_
   unfold QW xW
   grind
  ·simp only [HF,IQ,DB] at c
   have hl:=(D7.1 c.1).1
   have hE:pD ⟨gs,(M gs:Y),0,cs,os,ks,gs,bs,o,([]:aC)⟩:=⟨rfl,rfl,rfl,AZ,qW c.1,qX c.1⟩
   obtain ⟨s',_,q1,q2⟩:=ajQ _ hE
   have q2:(qx ⟨gs,(M gs:Y),0,cs,os,ks,gs,bs,o,([]:aC)⟩).out=Cs cs gs o (M gs):=q2
   refine ⟨A9,⟨hE,rfl,rfl⟩,A0,?_⟩
   show LV.AQ [LV.xl _ _,_]=_
   unfold QW xW
   grind
 ·cases h)
def aL3:aE->T LV
 | [.v (.agg ⟨[ah J am,ah J mo,ah J ga,ah J lo,ah J de]⟩)]=> .ok (Is (am,mo,ga,lo,de))
 |_=> .no
def R9:aO:=[]
def hnd20:Az:=kI R9<|l0 R9
def awj:=vo (S:=aL3) func91 R9 hnd20 (λargs lv h=>by
 unfold aL3 at h;split at h
 ·rename_i am mo ga lo de
  refine Au (.br ((am==0)&&((mo==0)&&((ga==0)&&((lo==0)&&(de==0))))) (.ok U)<|.br ((aq<|am>=0)&&(aq<|am<=200000)) (.br (aq<|mo>am) (.br (aq<|mo<=200000) (.br ((aq<|ga>=0)&&(aq<|ga<=1000)) (.br ((aq<|lo>=0)&&(aq<|lo<=1000)) (.ok<|.v<|.bool<|(aq<|de>=1)&&(aq<|de<=1000000))<|.ok X)<|.ok X)<|.ok X)<|.ok X)<|.ok X) ?_;obtain rfl:=h;unfold Is cbZ;refine ⟨λc=>by rw [c];rfl,λc=>?_⟩
  unfold inB;refine ⟨λc1=>⟨λc2=>⟨λc3=>⟨λc4=>⟨λc5=>?_,λc5=>?_⟩,λc4=>?_⟩,λc3=>?_⟩,λc2=>?_⟩,λc1=>?_⟩
  all_goals refine B0 (λz=>LV.v<|.bool z) ?_
  all_goals
   grind
 ·cases h)
def aL9:aE->T LV
 | [.xq 6 q0]=>(match ([q0 0,q0 1,q0 2,q0 3,q0 4,q0 5]:aE) with
  | [.v (ah J am),.v (ah J mo),.v (ah J ga),.v (ah J lo),.v (ah J de),.v (ah J now)]=> .ok (.v<|ah J (if de<lo then de else lo))
  |_=> .no)
 |_=> .no
def ath (am mo ga lo de now:Y):Bu prog AU (R9) kN Ap f93 [xQ 6 [am,mo,ga,lo,de,now]]=.ok (.v<|ah J (if de<lo then de else lo)):=AX
def ax3:=vo (S:=aL9) func93 R9 kN (λargs lv h=>by
 refine ⟨?_⟩;unfold aL9 at h;split at h
 ·split at h
  case h_2=>cases h
  rename_i heq0;simp only [canL,canX];rw [E4 (n:=6) heq0];simp only [canL,canX]
  rwa [ath]
 ·cases h)
def aL8:aE->T LV
 | [.xq 6 q0]=>(match ([q0 0,q0 1,q0 2,q0 3,q0 4,q0 5]:aE) with
  | [.v (ah J am),.v (ah J mo),.v (ah J ga),.v (ah J lo),.v (ah J de),.v (ah J now)]=> .ok (cbZ (am,mo,ga,lo,de))
  |_=> .no)
 |_=> .no
def atf (am mo ga lo de now:Y):Bu prog AU (R9) kN Ap f92 [xQ 6 [am,mo,ga,lo,de,now]]=.ok (.v<|.bool<|(am==0)&&((mo==0)&&((ga==0)&&((lo==0)&&(de==0))))):=AX
def ax2:=vo (S:=aL8) func92 R9 kN (λargs lv h=>by
 refine ⟨?_⟩;unfold aL8 at h;split at h
 ·split at h
  case h_2=>cases h
  rename_i heq0;simp only [canL,canX];rw [E4 (n:=6) heq0];simp only [canL,canX]
  rwa [atf]
 ·cases h)
structure OT where
 (low high afV avK avy avL ajV aq6 b11 b12 b13 b14 ajU b3:Y)
def oK (s:OT):T (Rd OT):=letI a:=AA<|s.low+(AA<|(AA<|(AA<|s.high-s.low)+1).tdiv 2);.br (aq<|s.low<s.high) (.req ((2:Y)≠0)<|.br (aq<|(AA<|(AA<|s.b12*a)*a)<=s.b3) (.nx {s with low:=a})<|.nx {s with high:=AA<|a-1})<|.so (.exit 0) s
def xF (s:OT):Prop:=s.low=0/\s.high=1000/\(0<=s.b12/\s.b12<=1000)/\0<=s.b3
def cw (s:OT):Prop:=(0<=s.low/\s.low<=s.high/\s.high<=1000)/\s.b12*s.low*s.low<=s.b3/\(∀a:Y,s.high<a->a<=1000->¬s.b12*a*a<=s.b3)/\(0<=s.b12/\s.b12<=1000)/\0<=s.b3
def jX (s:OT):aD:=(s.high-s.low).toNat
def xR (x:Ex) (s s':OT):Prop:=x=.exit 0/\s'.low=prm s'.b12 s'.b3
def ao2:∀s,xF s->cw s:=by
 rintro s ⟨h0,h1,h2,h3⟩
 exact ⟨A0,A8,λa h h2=>A0,h2,h3⟩
def anN:Da cw jX xR oK:=by
 intro s hI;unfold oK;obtain ⟨⟨h0,h1,h2⟩,h3,h4,⟨h5,h6⟩,h7⟩:=hI
 have em:s.low<s.high->AA (s.low+AA ((AA<|AA (s.high-s.low)+1).tdiv 2))=s.low+(s.high-s.low+1) / 2:=λc=>by
  rw [AJ (x:=s.high-s.low),AJ (x:=s.high-s.low+1),IN A0,AJ (x:=(s.high-s.low+1) / 2),AJ]
 refine AH (λc1=>?_) λc1=>?_
 ·have c1:s.low<s.high:=AY
  rw [em c1]
  have hm1:s.low<s.low+(s.high-s.low+1) / 2:=A0
  have hm2:s.low+(s.high-s.low+1) / 2<=s.high:=A0
  generalize s.low+(s.high-s.low+1) / 2=m at hm1 hm2|-;obtain ⟨⟨b1,b2⟩,b3,b4⟩:=al0 h5 h6 (m:=m) A0 A0;rw [AJ (x:=s.b12*m),AJ (x:=s.b12*m*m),AJ (x:=m-1)];refine AH (λc2=>?_) λc2=>?_
  ·have c2:s.b12*m*m<=s.b3:=ET
   exact ⟨⟨⟨AZ,AZ,h2⟩,c2,h4,⟨h5,h6⟩,h7⟩,by simp only [jX];omega⟩
  ·have c2:¬s.b12*m*m<=s.b3:=ET
   refine ⟨⟨⟨h0,AZ,AZ⟩,h3,λa ha hk=>?_,⟨h5,h6⟩,h7⟩,by simp only [jX];omega⟩
   have:=arX h5 (a:=m) (b:=a) A0 A8
   simp only;omega
 ·have c1:s.high<=s.low:=AY
  refine ⟨rfl,(aJE (k:=1000) h0 A0 (.inr h3) λa ha hk=>h4 a A0 A0).symm⟩
def dC:AS OT:=⟨4,25,[0,1,2],[],λs=>[s.low,s.high,.fn 95 [.own 2 0,.own 3 0]],λs=>[⟨[s.afV,s.avK,s.avy,s.avL,s.ajV],79,.cl,X⟩,⟨[s.aq6,s.b11,s.b12,s.b13,s.b14,s.ajU],202,.cl,X⟩,⟨[.own 1 0],200,.cl,X⟩,⟨[s.b3],3,.cl,X⟩],λv b=>⟨AL v 0,AL v 1,Am b 0 0,Am b 0 1,Am b 0 2,Am b 0 3,Am b 0 4,Am b 1 0,Am b 1 1,Am b 1 2,Am b 1 3,Am b 1 4,Am b 1 5,Am b 3 0⟩,oK,λs r=> {s with low:=r.low,high:=r.high},λs=>s,λ_ s=>s,[.exit 0],xF,cw,jX⟩
abbrev aPw:=dC.run
abbrev aic:=dC.Av
def Tv:aO:=[awj,ax2,ax3]
def anG:Az:=kI Tv<|l0 Tv
def akq:Rq cw oK:=by
 intro s hI;refine ⟨λc1=>⟨?_,λ_=>trivial,λ_=>trivial⟩,λ_=>trivial⟩
 ·omega
def ac2:dC.Ok:={}
def aan:dC.Pf (xR):=⟨ao2,λs h=>rfl,anN,akq⟩
def axc:=s2 (b:=bN f94 0) ac2 aan Tv anG
def ahF:Fi xF cw xR aic aPw:=AS.fin ac2 aan
def aLM:aE->T LV
 | [.v (.agg ⟨[ah J am,ah J mo,ah J ga,ah J lo,ah J de]⟩)]=> .tu #[N5 (am,mo,ga,lo,de),pmE (am,mo,ga,lo,de)]
 |_=> .no
def anF:Az:=kI Tv<|la 1 func94 axc<|l0 Tv
def awP:=vo (S:=aLM) func66 Tv anF (λargs lv h=>by
 unfold aLM at h;split at h
 ·rename_i am mo ga lo de
  refine Au (letI a:=AA<|(if de<lo then de else lo)*(AA<|mo-am);.br (!(Is (am,mo,ga,lo,de))) (.tu #[(0:Y),(1:Y)])<|.br (cbZ (am,mo,ga,lo,de)) (.tu #[(1000:Y),(0:Y)])<|.req (dC.q (⟨0,1000,am,mo,ga,lo,de,am,mo,ga,lo,de,0,a⟩:OT))<|.tu #[(aPw (⟨0,1000,am,mo,ga,lo,de,am,mo,ga,lo,de,0,a⟩:OT)).low,(0:Y)]) ?_
  obtain rfl:=h;refine ⟨λc=>?_,λc=>⟨λc2=>?_,λc2=>?_⟩⟩
  ·have c:Is (am,mo,ga,lo,de)=false:=Ix
   simp [T.all,N5,pmE,c]
  ·have c:Is (am,mo,ga,lo,de)=true:=Ix
   simp [T.all,N5,pmE,c,c2]
  ·have c:Is (am,mo,ga,lo,de)=true:=Ix
   obtain ⟨⟨h1,h2,h3⟩,⟨h4,h5⟩,⟨h6,h7⟩,h8,h9⟩:=ajM c c2;simp only at h1 h2 h3 h4 h5 h6 h7 h8 h9
   have hm:0<=(if de<lo then de else lo)/\(if de<lo then de else lo)<=1000:=by split<;>omega
   have e:N5 (am,mo,ga,lo,de)=prm ga ((if de<lo then de else lo)*(mo-am)):=by
    unfold N5
    grind
   have e2:pmE (am,mo,ga,lo,de)=0:=by
    unfold pmE;rw [AD c]
   rw [e,e2,AJ (x:=mo-am)];generalize (if de<lo then de else lo)=mn at hm|-
   have a1:0<=mn*(mo-am):=Iv hm.1 A0
   have a2:mn*(mo-am)<=1000*(mo-am):=MG hm.2 A0
   rw [AJ (x:=mn*(mo-am))];refine LJ ⟨⟨rfl,rfl,⟨h4,h5⟩,a1⟩,rfl,rfl⟩ λhE=>?_
   obtain ⟨s',_,q1,q2⟩:=ahF _ hE.1;rw [q2];rfl
 ·cases h)
structure Ku where
 first:Y
 l:aC
 (n i:Y)
def aGl:=bN f67 0
def aAL (s:Ku):T (Rd Ku):=
 .br (aq<|s.i<s.n) (.ix s.i (M s.l)<|.nx {s with first:=(if (gi s.l s.i)<s.first then (gi s.l s.i) else s.first),i:=AA<|s.i+1}) (.so (.exit 0) s)
def kf (s:Ku):Prop:=s.i=0/\s.n=(M s.l:Y)/\s.n<=1000
def YQ (s:Ku):Prop:=0<=s.i/\s.i<=s.n/\s.n=(M s.l:Y)/\s.n<=1000
def ux (s:Ku):aD:=(s.n-s.i).toNat
def aCD (x:Ex) (s s':Ku):Prop:=x=.exit 0/\s'.i=s'.n
def alc:∀s,kf s->YQ s:=by
 exact nL
def agT:Da YQ ux aCD aAL:=by
 intro s hI;obtain ⟨h0,h1,h2,h3⟩:=hI;refine AH (λc1=>?_) λc1=>?_
 ·have c1:s.i<s.n:=A8
  rw [AJ (x:=s.i+1)];exact ⟨⟨A8,A8,h2,h3⟩,by simp only [ux];omega⟩
 ·exact Sq
def Rp:AS Ku:=⟨0,18,[0,7,8,9],[],λs=>[s.first,.xl A7 s.l,s.n,s.i],λ_=>[],λv b=>⟨AL v 0,B3 A7 v 1,AL v 2,AL v 3⟩,aAL,λs r=> {r with l:=s.l,n:=s.n},λs=>s,λ_ s=>s,[.exit 0],kf,YQ,ux⟩
abbrev eY:=Rp.run
abbrev auJ:=Rp.Av
def ayS:Rq YQ aAL:=by
 intro s hI;refine ⟨λc1=>⟨?_,an⟩,λ_=>trivial⟩
 ·(obtain ⟨h0,h1,h2,h3⟩:=hI;simp at c1;omega)
def jw:aO:=[]
def uN:Rp.Ok:={}
def u7:Rp.Pf (aCD):=⟨alc,λs h=>rfl,agT,ayS⟩
def arM:SA 0 aGl Rp:=s1 uN u7 jw kN
def atV:Fi kf YQ aCD auJ eY:=AS.fin uN u7
def apX (s:Ku) (hE:kf s):(λs:Ku=>Je s.first<|s.l.drop s.i.toNat) (eY s)=(λs:Ku=>Je s.first<|s.l.drop s.i.toNat) s:=by
 exact AS.Kx uN u7 (λs:Ku=>Je s.first<|s.l.drop s.i.toNat) (λs hI=>by
  obtain ⟨h0,h1,h2,h3⟩:=hI;refine AH (λc1=>?_) λc1=>rfl
  have c1:s.i<s.n:=A8
  rw [AJ (x:=s.i+1)];rw [(gi_step h0 (show s.i<M s.l by omega)).1]
  rfl) s hE
def aKZ:aE->T LV
 | [.v (ah J f),.xl (.int J) l]=> .req ((M l:Y)<=1000) (.ok<|Je f l)
 |_=> .no
def awU:=vm (S:=aKZ) func67 jw kN (L:=(λi=>if i=2 then Rp.lp else Ap i)) (λb hb=>by
 rw [show BD _=[aGl] by kernel_rfl] at hb
 simp only [B9,Bx,By] at hb;subst hb;exact arM) (λargs lv h=>by
 unfold aKZ at h;split at h
 ·rename_i f l
  refine Au (.req (Rp.q (⟨f,l,(M l:Y),0⟩:Ku))<|.ok (eY (⟨f,l,(M l:Y),0⟩:Ku)).first) ?_;obtain ⟨hl,rfl⟩:=h;refine LJ ⟨⟨rfl,rfl,hl⟩,rfl,rfl⟩ λhE=>?_
  obtain ⟨s',_,q1,q2⟩:=atV _ hE.1
  have q3:=apX _ hE.1
  simp only at q3;rw [q2] at q3
  have e:(eY ⟨f,l,(M l:Y),0⟩).n=(M l:Y):=rfl
  have e2:(eY ⟨f,l,(M l:Y),0⟩).l=l:=rfl
  rw [e,e2,Ei A0] at q3;exact B0 (λz=>LV.v<|ah J z) q3
 ·cases h)
def aKV:aE->T LV
 | [.v (.agg ⟨[.string nm,ah J up_,ah J li,ah J ne,ah J ra,ah J he,ah J am,ah J mo,ah J ga,ah J lo,ah J de]⟩)]=> .ok (DD (nm,up_,li,ne,(ra,he),am,mo,ga,lo,de))
 |_=> .no
def amj:aO:=[awP,awU]
def tY:=vo (S:=aKV) func28 amj kN (λargs lv h=>by
 unfold aKV at h;split at h
 ·rename_i nm up_ li ne ra he am mo ga lo de
  refine Au (letI a:=(N5 (am,mo,ga,lo,de));.br ((pmE (am,mo,ga,lo,de)) !=0) (.br (ra==0) (.req ((M ([ne,(0:Y)]):Y)<=1000)<|.ok<|Je li<|[ne,(0:Y)])<|.req ((M ([ne,(0:Y),ra]):Y)<=1000)<|.ok<|Je li<|[ne,(0:Y),ra])<|.br (ra==0) (.req ((M ([ne,a]):Y)<=1000)<|.ok<|Je li<|[ne,a])<|.req ((M ([ne,a,ra]):Y)<=1000)<|.ok<|Je li<|[ne,a,ra]) ?_;obtain rfl:=h;unfold DD;simp only;refine ⟨λc=>?_,λc=>?_⟩
  ·have e:N5 (am,mo,ga,lo,de)=0:=by
    rw [asI] at c
    have c:Is (am,mo,ga,lo,de)=false:=Ix
    unfold N5;rw [c];rfl
   rw [e];refine ⟨λc2=>⟨AI,?_⟩,λc2=>⟨AI,?_⟩⟩
   ·rw [AD ET];rfl
   ·rw [AE ET];rfl
  ·refine ⟨λc2=>⟨AI,?_⟩,λc2=>⟨AI,?_⟩⟩
   ·rw [AD A8];rfl
   ·rw [AE A8];rfl
 ·cases h)
def aLI:aE->T LV
 | [.v (ah J k),.xq 5 q0,.xq 2 q1]=>(match ([q0 0,q0 1,q0 2,q0 3,q0 4]:aE) with
  | [.xl (.pair .str (.pair (.int J) (.pair (.int J) (.pair (.int J) (.pair (.pair (.int J) (.int J)) (.pair (.int J) (.pair (.int J) (.pair (.int J) (.pair (.int J) (.int J)))))))))) cs,.xl (.str) os,.xl (.pair .str (.pair (.int J) (.pair (.int J) (.int J)))) ks,.xl (.pair .str (.pair (.int J) (.pair (.int J) (.pair (.int J) (.pair (.int J) (.pair (.int J) (.pair (.int J) (.int J)))))))) gs,.xl (.pair .str (.int J)) bs]=>(match ([q1 0,q1 1]:aE) with
  | [.v (ah J c),.v (ah J p)]=> .req ((0<=k/\k<(M gs:Y))/\0<=p) (.ok<|usA (AG gs k).2.2.1 p)
  |_=> .no)
  |_=> .no)
 |_=> .no
def atm (k:Y) (cs:aL) (os:aF) (ks:aR) (gs:aG) (bs:aS) (c p:Y):Bu prog AU (jw) kN Ap f178 [k,xQ 5 [cs,os,ks,gs,bs],xQ 2 [c,p]]=.ix k (M gs) (.req (0<=p)<|.ok<|.v<|.bool<|(Bm J (AG gs k).2.2.1<|AA<|(1:Y)*2^(min p.toNat 64)) !=0):=AX
def aPn:=vo (S:=aLI) func178 jw kN (λargs lv h=>by
 refine ⟨?_⟩;unfold aLI at h;split at h
 ·split at h
  case h_2=>cases h
  rename_i heq0;split at h
  case h_2=>cases h
  rename_i heq1;simp only [canL,canX];rw [E4 (n:=5) heq0];rw [E4 (n:=2) heq1];simp only [canL,canX];rw [atm];obtain ⟨⟨h1,h2⟩,h3⟩:=h;exact ⟨h1,h2,h3⟩
 ·cases h)
structure Jy where
 cs:aL
 os:aF
 ks:aR
 gs:aG
 bs:aS
 (c p:Y)
 l:aC
 (n i:Y)
 out:aC
def aHq:=bN f177 0
def aAz (s:Jy):T (Rd Jy):=letI a:=gi s.l s.i;.br (aq<|s.i<s.n) (.ix s.i (M s.l)<|.req ((0<=a/\a<(M s.gs:Y))/\0<=s.p)<|.br (usA (AG s.gs a).2.2.1 s.p) (.rb (M s.out) (M<|[a]) 8<|.re (M s.out+M ([a])) (s.out++([a]))<|.nx {s with i:=AA<|s.i+1,out:=s.out++([a])})<|.rl s.out<|.nx {s with i:=AA<|s.i+1})<|.rl s.out<|.so (.exit 0) s
def ZJ (s:Jy):Prop:=s.i=0/\s.out=[]/\s.n=(M s.l:Y)/\s.n<=1000/\0<=s.p/\∀k∈s.l,0<=k/\k<(M s.gs:Y)
def Yh (s:Jy):Prop:=(0<=s.i/\s.i<=s.n)/\(M s.out:Y)<=s.i/\s.n=(M s.l:Y)/\s.n<=1000/\0<=s.p/\∀k∈s.l,0<=k/\k<(M s.gs:Y)
def iS (s:Jy):aD:=(s.n-s.i).toNat
def aBw (x:Ex) (s s':Jy):Prop:=x=.exit 0/\s'.i=s'.n
def anz:∀s,ZJ s->Yh s:=by
 rintro s ⟨h0,h1,h2,h3,h4,h5⟩
 exact ⟨A0,A8,h2,h3,h4,h5⟩
def ajK:Da Yh iS aBw aAz:=by
 intro s hI;obtain ⟨⟨h0,h1⟩,h2,h3,h4,h5,h6⟩:=hI;refine AH (λc1=>?_) λc1=>?_
 ·have c1:s.i<s.n:=AY
  rw [AJ (x:=s.i+1)];refine AH (λc2=>?_) λc2=>?_
  ·exact ⟨⟨⟨AZ,AZ⟩,A8,h3,h4,h5,h6⟩,by simp only [iS];omega⟩
  ·exact ⟨⟨⟨A8,A8⟩,AZ,h3,h4,h5,h6⟩,by simp only [iS];omega⟩
 ·have c1:s.n<=s.i:=AY
  exact VL
def Pw:AS Jy:=⟨0,23,[1,5,8,9,10],[.nl 5 3 A7],λs=>[.fn 178 [xQ 5 [s.cs,s.os,s.ks,s.gs,s.bs],xQ 2 [s.c,s.p]],.os 0 1 0<|M s.out,.xl A7 s.l,s.n,s.i],λs=>[bV 3 A7 s.out],λv b=>⟨Ao Ae<|BT (gFn (v.getD 0 .junk) 0) 0,Ao .str<|BT (gFn (v.getD 0 .junk) 0) 1,Ao Ak<|BT (gFn (v.getD 0 .junk) 0) 2,Ao Af<|BT (gFn (v.getD 0 .junk) 0) 3,Ao Al<|BT (gFn (v.getD 0 .junk) 0) 4,gI<|BT (gFn (v.getD 0 .junk) 1) 0,gI<|BT (gFn (v.getD 0 .junk) 1) 1,B3 A7 v 2,AL v 3,AL v 4,Ab A7 b 0⟩,aAz,λs r=> {s with i:=r.i,out:=r.out},λs=>s,λ_ s=>s,[.exit 0],ZJ,Yh,iS⟩
abbrev WB:=Pw.run
abbrev aue:=Pw.Av
def azp:Rq Yh aAz:=by
 intro s hI;refine ⟨λc1=>⟨?_,?_,λc2=>⟨?_,?_,an⟩,λc2=>⟨A9,an⟩⟩,λc1=>⟨A9,an⟩⟩
 all_goals ((obtain ⟨⟨h0,h1⟩,h2,h3,h4,h5,h6⟩:=hI;(try simp only [Aa] at c1);first|omega|(refine ⟨h6 _ ?_,h5⟩;rw [Ig A0];exact Fk _) |(refine ⟨A0,?_,?_⟩<;>simp only [BY,Bh]<;>omega) |exact ⟨rfl,AI⟩ |exact ⟨rfl,rfl⟩))
def aBk:aO:=[aPn]
def uP:Pw.Ok:={}
def uA:Pw.Pf (aBw):=⟨anz,λs h=>rfl,ajK,azp⟩
def ash:SA 0 aHq Pw:=s1 uP uA aBk kN
def avg:Fi ZJ Yh aBw aue WB:=AS.fin uP uA
def aq8 (s:Jy) (hE:ZJ s):(λs:Jy=>s.out++Bz s.gs s.p (s.l.drop s.i.toNat)) (WB s)=(λs:Jy=>s.out++Bz s.gs s.p (s.l.drop s.i.toNat)) s:=by
 exact AS.Kx uP uA (λs:Jy=>s.out++Bz s.gs s.p (s.l.drop s.i.toNat)) (λs hI=>by
  obtain ⟨⟨h0,h1⟩,h2,h3,h4,h5,h6⟩:=hI;refine AH (λc1=>?_) λc1=>rfl
  have c1:s.i<s.n:=A8
  rw [AJ (x:=s.i+1)];refine AH (λc2=>?_) λc2=>?_
  ·show _++Bz _ _ _=_++Bz _ _ _
   rw [(gi_step h0 (show s.i<M s.l by omega)).1]
   simp [Bz,LP,c2]
  ·show _++Bz _ _ _=_++Bz _ _ _
   rw [(gi_step h0 (show s.i<M s.l by omega)).1]
   simp [Bz,LP,c2]) s hE
def avf (s:Jy) (hE:ZJ s):(WB s).out=Bz s.gs s.p s.l:=by
 obtain ⟨s',_,q1,q2⟩:=avg s hE
 have q3:=aq8 s hE
 obtain ⟨h0,h1,h2,h3⟩:=hE;simp only at q3;rw [q2,show (WB s).n=s.n from rfl,show (WB s).l=s.l from rfl,Ei A0,h0,h1] at q3
 simpa [Bz] using q3
def aKN:aE->T LV
 | [.xl (.int J) l,.fn 178 [.xq 5 q0,.xq 2 q1]]=>(match ([q0 0,q0 1,q0 2,q0 3,q0 4]:aE) with
  | [.xl (.pair .str (.pair (.int J) (.pair (.int J) (.pair (.int J) (.pair (.pair (.int J) (.int J)) (.pair (.int J) (.pair (.int J) (.pair (.int J) (.pair (.int J) (.int J)))))))))) cs,.xl (.str) os,.xl (.pair .str (.pair (.int J) (.pair (.int J) (.int J)))) ks,.xl (.pair .str (.pair (.int J) (.pair (.int J) (.pair (.int J) (.pair (.int J) (.pair (.int J) (.pair (.int J) (.int J)))))))) gs,.xl (.pair .str (.int J)) bs]=>(match ([q1 0,q1 1]:aE) with
  | [.v (ah J c),.v (ah J p)]=> .req (Xl gs p l) (.ok<|.xl A7<|Bz gs p l)
  |_=> .no)
  |_=> .no)
 |_=> .no
def aty (l:aC) (cs:aL) (os:aF) (ks:aR) (gs:aG) (bs:aS) (c p:Y):letI a:=(WB (⟨cs,os,ks,gs,bs,c,p,l,(M l:Y),(0:Y),([]:aC)⟩:Jy));Bu prog AU (aBk) kN (λi=>if i=3 then Pw.lp else Ap i) f177 [.xl A7 l,.fn 178 [xQ 5 [cs,os,ks,gs,bs],xQ 2 [c,p]]]=.r0 Int (.req (Pw.q (⟨cs,os,ks,gs,bs,c,p,l,(M l:Y),(0:Y),([]:aC)⟩:Jy))<|.rz a.out<|.ok<|.xl A7<|(a.out.drop 0).take<|M a.out):=AX
def awH:=vm (S:=aKN) func177 aBk kN (L:=(λi=>if i=3 then Pw.lp else Ap i)) (λb hb=>by
 rw [show BD _=[aHq] by kernel_rfl] at hb
 simp only [B9,Bx,By] at hb;subst hb;exact ash) (λargs lv h=>by
 refine ⟨?_⟩;unfold aKN at h;split at h
 ·split at h
  case h_2=>cases h
  rename_i heq0;split at h
  case h_2=>cases h
  rename_i heq1;simp only [canL,canX];rw [E4 (n:=5) heq0];simp only [canL,canX];rw [E4 (n:=2) heq1];simp only [canL,canX];rw [aty];obtain ⟨⟨hp,hl,hm⟩,rfl⟩:=h;refine ⟨A9,LJ ⟨⟨rfl,rfl,rfl,AZ,hp,hm⟩,rfl,rfl⟩ λhE=>⟨A0,?_⟩⟩
  show LV.xl _ _=_
  rw [CT,Ej,avf _ hE.1]
 ·cases h)
def aBC:Array Tmp×Code×Code:=((J5<|f138.body.getD .skip)[0]?).getD (#[],.skip,.skip)
def akT:aVF:=aBC.1
def alv:bC:=aBC.2.1
def alj:bC:=aBC.2.2
structure OK where
 (n c:Y)
 F7:aL
 Oi:aF
 Oh:aR
 DT:aG
 Oj:aS
 below:aC
 KQ:aL
 KW:aF
 KU:aR
 KV:aG
 Kg:aS
 rows:aZ
 st:LS
def oF (s:OK):T (Rd OK):=letI a:=QW s.F7 s.Oi s.Oh s.DT s.Oj s.c;letI b:=DD<|Ad s.F7 s.c;letI d:=(b,Bz s.DT (0:Y) a);letI e:=(b,Bz s.DT (1:Y) a);letI f:=(b,Bz s.DT (2:Y) a);letI g:=(aq<|(M (Bz s.DT (2:Y) a):Y)>0);letI h:=s.rows++([d]);letI i:=M s.rows+M ([d])+M ([e]);letI j:=AA<|s.c+1;letI k:=M s.rows+M ([d])+M ([e])+M ([f]);letI l:=M s.F7;letI m:=M s.rows+M ([d]);letI o:=s.rows++([e]);letI p:=(Xl s.DT (2:Y) a);letI q:=M s.rows+M ([d])+M ([f]);letI r:=M s.rows+M ([e])+M ([f]);letI t:=(aq<|(M (Bz s.DT (1:Y) a):Y)>0);letI u:=h++([e]);letI v:=M s.rows+M ([e]);letI w:=M s.rows;.br (aq<|s.c<s.n) (.req (Xl s.DT (0:Y) a)<|.br (aq<|(M (Bz s.DT (0:Y) a):Y)>0) (.ix s.c l<|.rb w (M<|[d]) 32<|.req (Xl s.DT (1:Y) a)<|.br t (.ix s.c l<|.ra m (M h) i 32<|.req p<|.br g (.ix s.c l<|.ra i (M u) k 32<|.re k (u++([f]))<|.nx {s with c:=j,below:=a,rows:=(u++([f]))})<|.re i u<|.nx {s with c:=j,below:=a,rows:=u})<|.req p<|.br g (.ix s.c l<|.ra m (M h) q 32<|.re q (h++([f]))<|.nx {s with c:=j,below:=a,rows:=(h++([f]))})<|.re m h<|.nx {s with c:=j,below:=a,rows:=h})<|.req (Xl s.DT (1:Y) a)<|.br t (.ix s.c l<|.rb w (M<|[e]) 32<|.req p<|.br g (.ix s.c l<|.ra v (M o) r 32<|.re r (o++([f]))<|.nx {s with c:=j,below:=a,rows:=(o++([f]))})<|.re v o<|.nx {s with c:=j,below:=a,rows:=o})<|.req p<|.br g (.ix s.c l<|.rb w (M<|[f]) 32<|.re (M s.rows+M ([f])) (s.rows++([f]))<|.nx {s with c:=j,below:=a,rows:=(s.rows++([f]))})<|.rl s.rows<|.nx {s with c:=j,below:=a})<|.rl s.rows<|.so (.exit 0) s
def ox (s:OK):Prop:=s.st=.ready/\s.c=0/\s.rows=[]/\BB s.F7 s.Oi s.Oh s.DT s.Oj=U/\s.n=(M s.F7:Y)
def ck (s:OK):Prop:=s.st=.ready/\(0<=s.c/\s.c<=s.n)/\s.rows=Cw s.F7 s.DT s.c.toNat/\BB s.F7 s.Oi s.Oh s.DT s.Oj=U/\s.n=(M s.F7:Y)
def aBa (s:OK):aD:=(s.n-s.c).toNat
def xK (x:Ex) (s s':OK):Prop:=x=.exit 0/\s'.rows=Cw s'.F7 s'.DT (M s'.F7)
def aoI:∀s,ox s->ck s:=by
 rintro s ⟨h0,h1,h2,h3,h4⟩
 exact ⟨h0,A0,by rw [h1,h2];rfl,h3,h4⟩
def alA:Da ck aBa xK oF:=by
 intro s hI;unfold oF;obtain ⟨h0,⟨h1,h2⟩,h3,h4,h5⟩:=hI;refine AH (λc1=>?_) λc1=>?_
 rotate_left
 ·have c1:s.n<=s.c:=AY
  exact ⟨rfl,A8⟩
 have c1:s.c<s.n:=AY
 have hl:=(D7.1 h4).1
 rw [AJ (x:=s.c+1)]
 have eb:QW s.F7 s.Oi s.Oh s.DT s.Oj s.c=Cs s.F7 s.DT s.c (M s.DT):=by
  unfold QW
  grind
 rw [eb]
 have fin:∀r:aZ,r=Cw s.F7 s.DT s.c.toNat++(rowP s.F7 s.DT s.c 0++rowP s.F7 s.DT s.c 1++rowP s.F7 s.DT s.c 2)->r=Cw s.F7 s.DT (s.c+1).toNat:=λr hr=>by
  rw [hr,show (s.c+1).toNat=s.c.toNat+1 by omega,Cw,CS h1]
  rfl
 refine AH (λc2=>?_) (λc2=>?_)<;>refine AH (λc3=>?_) (λc3=>?_)<;>refine AH (λc4=>?_) λc4=>?_
 all_goals
  refine ⟨⟨h0,⟨AZ,AZ⟩,?_,h4,h5⟩,by simp only [aBa];omega⟩
  simp only [Aa,DB] at c2 c3 c4;refine fin _ ?_;simp only [h3,rowP]
  first|rw [AD A0] |rw [AE A0]
  first|rw [AD A0] |rw [AE A0]
  first|rw [AD A0] |rw [AE A0]
  grind
def cz:AS OK:=⟨5,22,[0,7,8],[.nc 1 0 298 Eg,.pc 2 0 A7,.pk 0],λs=>[.CQ 4,s.n,s.c],λs=>[⟨[s.F7,s.Oi,s.Oh,s.DT,s.Oj],28,.cl,U⟩,⟨[.os 5 2 0<|M s.rows],261,.cl,X⟩,⟨[.xl A7 s.below],29,.cl,X⟩,⟨[s.KQ,s.KW,s.KU,s.KV,s.Kg],28,.cl,X⟩,⟨[.junk,.own 0 0,.junk,.junk,.own 1 0,.own 2 0,.v<|.tuple #[],.v<|.tuple #[],.junk,.junk,.junk,.junk,.junk,.v<|.tuple #[],.v<|.tuple #[],.v<|.tuple #[],.v<|.tuple #[],.v<|.tuple #[],.v<|.tuple #[],.v<|.tuple #[],.v<|.tuple #[],.v<|.tuple #[],.v<|.tuple #[],.junk,.v<|.tuple #[],.v<|.tuple #[],.v<|.tuple #[],.v<|.tuple #[],.v<|.tuple #[],.v<|.tuple #[],.v<|.tuple #[],.v<|.tuple #[],.v<|.tuple #[],.v<|.tuple #[],.v<|.tuple #[],.v<|.tuple #[],.v<|.tuple #[],.v<|.tuple #[],.v<|.tuple #[],.v<|.tuple #[],.v<|.tuple #[],.v<|.tuple #[],.junk],0,.Cn akT alv alj s.st,X⟩,bV 298 Eg s.rows],λv b=>⟨AL v 1,AL v 2,AF Ae b 0 0,AF .str b 0 1,AF Ak b 0 2,AF Af b 0 3,AF Al b 0 4,AF A7 b 2 0,AF Ae b 3 0,AF .str b 3 1,AF Ak b 3 2,AF Af b 3 3,AF Al b 3 4,Ab Eg b 5,.ready⟩,oF,λs r=> {r with n:=s.n,F7:=s.F7,Oi:=s.Oi,Oh:=s.Oh,DT:=s.DT,Oj:=s.Oj,KQ:=s.KQ,KW:=s.KW,KU:=s.KU,KV:=s.KV,Kg:=s.Kg,st:=s.st},λs=> {s with st:=.ready},λx s=> {s with st:=(match x with| .exit 0=> .ready|_=> .ready)},[.exit 0],ox,ck,aBa⟩
abbrev qu:=cz.run
abbrev aiW:=cz.Av
def Tu:aO:=[P9,tY,aql,awH,aPn]
def anE:Az:=kI Tu<|l0 Tu
def akh:Rq ck oF:=by
 intro s hI;refine ⟨λc1=>⟨?_,λc2=>⟨?_,?_,?_,λc3=>⟨?_,?_,?_,λc4=>⟨?_,?_,?_,an⟩,λc4=>⟨?_,an⟩⟩,λc3=>⟨?_,λc5=>⟨?_,?_,?_,an⟩,λc5=>⟨?_,an⟩⟩⟩,λc2=>⟨?_,λc6=>⟨?_,?_,?_,λc7=>⟨?_,?_,?_,an⟩,λc7=>⟨?_,an⟩⟩,λc6=>⟨?_,λc8=>⟨?_,?_,?_,an⟩,λc8=>⟨A9,an⟩⟩⟩⟩,λc1=>⟨A9,an⟩⟩
 all_goals ((obtain ⟨h0,⟨h1,h2⟩,h3,h4,h5⟩:=hI;have hl:=(D7.1 h4).1;(try simp only [Aa] at c1);have hr:M s.rows<=3*s.c.toNat:=(by rw [h3];exact qH);have eb:QW s.F7 s.Oi s.Oh s.DT s.Oj s.c=Cs s.F7 s.DT s.c (M s.DT):=(by unfold QW;rw [AD ⟨h4,h1,A0⟩]);first|omega|((try simp only);rw [eb];refine ⟨Ac,Hq qb A0,λk hk=>eE hk⟩) |(refine ⟨A0,?_,?_⟩<;>simp only [B8,BY,Bh]<;>omega) |(simp only [B8,BY,Bh];omega) |exact ⟨rfl,AI⟩ |exact ⟨rfl,rfl⟩))
def abu:cz.Ok:={}
def aag:cz.Pf (xK):=⟨aoI,λs h=>by
 obtain ⟨n,c,F7,Oi,Oh,DT,Oj,below,KQ,KW,KU,KV,Kg,rows,st⟩:=s
 have e:=h.1
 subst e;rfl,alA,akh⟩
def axS:=s2 (b:=bN f65 0) abu aag Tu anE
def axI:Fi ox ck xK aiW qu:=AS.fin abu aag
def aLJ:aE->T LV
 | .agg a::r=>s5 a λcs os ks gs bs=>(match r with
  | []=> .ok (.AQ [.xl Eg<|Jw cs os ks gs bs,OP cs os ks gs bs])
  |_=> .no)
 |_=> .no
def anD:Az:=kI Tu<|la 1 func65 axS<|l0 Tu
def Wl:=vo (S:=aLJ) func138 Tu anD (λargs lv h=>by
 unfold aLJ at h;split at h
 case h_2=>cases h
 replace h:=Ia h
 obtain ⟨cs,os,ks,gs,bs,rfl,h⟩:=h;split at h
 ·refine Au (letI a:=(qu (⟨(M cs:Y),0,cs,os,ks,gs,bs,([]:aC),cs,os,ks,gs,bs,([]:aZ),.ready⟩:OK));.br (!(BB cs os ks gs bs)) (.ok<|.AQ [.xl Eg ([]:aZ),(1:Y)])<|.r0 Rw<|.req (cz.q (⟨(M cs:Y),0,cs,os,ks,gs,bs,([]:aC),cs,os,ks,gs,bs,([]:aZ),.ready⟩:OK))<|.rz a.rows<|.ok<|.AQ [.xl Eg<|(a.rows.drop 0).take<|M a.rows,(0:Y)]) ?_
  obtain rfl:=h;refine ⟨λc=>?_,λc=>?_⟩
  ·have c:BB cs os ks gs bs=false:=A8
   unfold Jw OP;rw [c];rfl
  ·have c:BB cs os ks gs bs=true:=A8
   have hE:ox ⟨(M cs:Y),0,cs,os,ks,gs,bs,([]:aC),cs,os,ks,gs,bs,([]:aVP),.ready⟩:=⟨rfl,rfl,rfl,c,rfl⟩
   obtain ⟨s',_,q1,q2⟩:=axI _ hE
   have q2:(qu ⟨(M cs:Y),0,cs,os,ks,gs,bs,([]:aC),cs,os,ks,gs,bs,([]:aVP),.ready⟩).rows=Cw cs gs (M cs):=q2
   refine ⟨A9,⟨hE,rfl,rfl⟩,A0,?_⟩
   show LV.AQ [LV.xl _ _,_]=_
   unfold Jw OP
   grind
 ·cases h)
def aFs:aE->T LV
 | [.v (ah J n),.v (ah J a),.v (ah J b)]=> .ok (inB n a b)
 |_=> .no
def Kn:aO:=[]
def eI:=vo (S:=aFs) func122 Kn kN (λargs lv h=>by
 unfold aFs at h;split at h
 ·rename_i n a b
  refine Au (.ok<|.v<|.bool<|(aq<|n>=a)&&(aq<|n<=b)) ?_;exact h
 ·cases h)
def aUf:aE->T LV
 | [.v (.agg ⟨[.string nm,ah J at_,ah J ph,ah J mn,ah J mx,ah J st,ah J fb,ah J ow]⟩)]=> .ok (Ir ph mn mx st fb)
 |_=> .no
def amg:aO:=[eI]
def aaL:=vo (S:=aUf) func156 amg kN (λargs lv h=>by
 unfold aUf at h;split at h
 ·rename_i nm at_ ph mn mx st fb ow
  refine Au (.ok<|.v<|.bool<|(inB ph (1:Y) (7:Y))&&((inB mn (1:Y) (80:Y))&&((inB mx (1:Y) (80:Y))&&((inB st (1:Y) (80:Y))&&((aq<|mn<=mx)&&((fb==0) ||(inB fb mn mx))))))) ?_;exact h
 ·cases h)
def aHO:aE->T LV
 | []=> .ok (.v<|.agg #[(0:Y),(0:Y),(0:Y),X])
 |_=> .no
def apb  :Bu prog AU Kn kN Ap f15 []=.ok (.v<|.agg #[(0:Y),(0:Y),(0:Y),X]):=AX
def WV:=vo (S:=aHO) func15 Kn kN (λargs lv h=>by
 refine ⟨?_⟩;unfold aHO at h;split at h
 ·simp only [canL]
  rwa [apb]
 ·cases h)
def aUp:aE->T LV
 | [.v (.agg ⟨[.string nm,ah J at_,ah J ph,ah J mn,ah J mx,ah J st,ah J fb,ah J ow]⟩),.v (.agg ⟨[ah J 0,ah J 0,ah J 0,.bool X]⟩)]=> .ok (Ir ph mn mx st fb)
 |_=> .no
def amf:aO:=[WV,eI,aaL]
def akH:=vo (S:=aUp) func109 amf kN (λargs lv h=>by
 unfold aUp at h;split at h
 ·rename_i nm at_ ph mn mx st fb ow
  refine Au (.br (!(Ir ph mn mx st fb)) (.ok X)<|.br (((0:Y)==0)&&(((0:Y)==0)&&(((0:Y)==0)&&(X==X)))) (.ok U)<|.ok<|.v<|.bool<|(inB (0:Y) (0:Y) (5:Y))&&((inB (0:Y) (0:Y) (1000000:Y))&&((inB (0:Y) (0:Y) mx)&&(if (0:Y) !=0 then (!X) ||((0:Y)==5) else ((0:Y)==0)&&((!X) ||((0:Y)==5)))))) ?_
  obtain rfl:=h;refine ⟨λhb=>?_,λhb=>⟨λ_=>?_,λhf=>absurd hf Ac⟩⟩
  ·show LV.v (.bool X)=_
   rw [show Ir _ _ _ _ _=X by simpa using hb]
  ·show LV.v (.bool U)=_
   rw [show Ir _ _ _ _ _=U by simpa using hb]
 ·cases h)
def aLK:aE->T LV
 | [.v (.agg ⟨[.string nm,ah J at_,ah J ph,ah J mn,ah J mx,ah J st,ah J fb,ah J ow]⟩),.v (ah J am)]=> .req (E9 mn mx st) (.ok<|C1 mn mx st am)
 |_=> .no
def aPg:=vo (S:=aLK) func145 Kn kN (λargs lv h=>by
 unfold aLK at h;split at h
 ·rename_i nm at_ ph mn mx st fb ow am
  refine Au (.br (aq<|am<mn) (.ok (0:Y))<|.req (st≠0)<|.ok<|AA<|(if mx<am then mx else am)-((AA<|(if mx<am then mx else am)-mn).tmod st)) ?_
  obtain ⟨hc,rfl⟩:=h;refine ⟨λhb=>?_,λhb=>⟨by unfold E9 at hc;omega,?_⟩⟩
  ·exact B0 (λz=>LV.v<|ah J z)<|ajS A8
  ·exact B0 (λz=>LV.v<|ah J z)<|ajR hc A8
 ·cases h)
def aU0:aE->T LV
 | [.v (.agg ⟨[.string nm,ah J at_,ah J ph,ah J mn,ah J mx,ah J st,ah J fb,ah J ow]⟩),.v (.agg ⟨[ah J a,ah J si]⟩)]=> .ok (IH ph mn mx st fb a si)
 |_=> .no
def amd:aO:=[WV,akH,aPg]
def aVl:=vo (S:=aU0) func140 amd kN (λargs lv h=>by
 unfold aU0 at h;split at h
 ·rename_i nm at_ ph mn mx st fb ow a si
  refine Au (.br ((!(Ir ph mn mx st fb)) ||((aq<|si<0) ||((aq<|si>1000000) ||(aq<|a<0)))) (.ok X)<|.req (E9 mn mx st)<|.ok<|.v<|.bool<|(C1 mn mx st a)==a) ?_;obtain rfl:=h;refine ⟨λhb=>?_,λhb=>⟨?_,?_⟩⟩
  ·exact B0 (λz=>LV.v<|.bool z)<|aoR hb
  ·exact (aLk hb).1
  ·exact B0 (λz=>LV.v<|.bool z) (aLk hb).2
 ·cases h)
def aHT:aE->T LV
 | [.v (.bool b)]=> .ok (.v<|ah J (if b then (1:Y) else 0))
 |_=> .no
def aqi:=vo (S:=aHT) func150 Kn kN (λargs lv h=>by
 unfold aHT at h;split at h
 ·rename_i b
  refine Au (.br b (.ok (1:Y))<|.ok (0:Y)) ?_;obtain rfl:=h;cases b
  ·exact ⟨λhb=>LW,λ_=>rfl⟩
  ·exact ⟨λ_=>rfl,λhb=>LW⟩
 ·cases h)
def aU9:aE->T LV
 | [.xq 8 q0]=>(match ([q0 0,q0 1,q0 2,q0 3,q0 4,q0 5,q0 6,q0 7]:aE) with
  | [.v (.string nm),.v (ah J at_),.v (ah J ph),.v (ah J mn),.v (ah J mx),.v (ah J st),.v (ah J fb),.v (ah J ow)]=> .ok (.v<|.agg #[mn,(0:Y)])
  |_=> .no)
 |_=> .no
def agj (nm:bA) (at_ ph mn mx st fb ow:Y):Bu prog AU Kn kN Ap f146 [xQ 8 [.v<|.string nm,at_,ph,mn,mx,st,fb,ow]]=.ok (.v<|.agg #[mn,(0:Y)]):=AX
def ak8:=vo (S:=aU9) func146 Kn kN (λargs lv h=>by
 refine ⟨?_⟩;unfold aU9 at h;split at h
 ·split at h
  case h_2=>cases h
  rename_i heq0;simp only [canL,canX];rw [E4 (n:=8) heq0];simp only [canL,canX]
  rwa [agj]
 ·cases h)
def aU8:aE->T LV
 | [.xq 1 q0]=>(match ([q0 0]:aE) with
  | [.v (ah J lo)]=> .ok (.v<|.agg #[(0:Y),lo])
  |_=> .no)
 |_=> .no
def agi (lo:Y):Bu prog AU Kn kN Ap f147 [xQ 1 [lo]]=.ok (.v<|.agg #[(0:Y),lo]):=AX
def ak7:=vo (S:=aU8) func147 Kn kN (λargs lv h=>by
 refine ⟨?_⟩;unfold aU8 at h;split at h
 ·split at h
  case h_2=>cases h
  rename_i heq0;simp only [canL,canX];rw [E4 (n:=1) heq0];simp only [canL,canX]
  rwa [agi]
 ·cases h)
def aU7:aE->T LV
 | []=> .ok (.v<|.agg #[(0:Y),(0:Y)])
 |_=> .no
def agh  :Bu prog AU Kn kN Ap f148 []=.ok (.v<|.agg #[(0:Y),(0:Y)]):=AX
def ak6:=vo (S:=aU7) func148 Kn kN (λargs lv h=>by
 refine ⟨?_⟩;unfold aU7 at h;split at h
 ·simp only [canL]
  rwa [agh]
 ·cases h)
def aU6:aE->T LV
 | [.xq 1 q0,.xq 2 q1,.xq 8 q2,.xq 1 q3]=>(match ([q0 0]:aE) with
  | [.v (ah J lv)]=>(match ([q1 0,q1 1]:aE) with
  | [.v (ah J a),.v (ah J si)]=>(match ([q2 0,q2 1,q2 2,q2 3,q2 4,q2 5,q2 6,q2 7]:aE) with
  | [.v (.string nm),.v (ah J at_),.v (ah J ph),.v (ah J mn),.v (ah J mx),.v (ah J st),.v (ah J fb),.v (ah J ow)]=>(match ([q3 0]:aE) with
  | [.v (ah J lo)]=> .ok (.v<|.agg #[ah J (if AA (a+st)<lv then AA (a+st) else lv),lo])
  |_=> .no)
  |_=> .no)
  |_=> .no)
  |_=> .no)
 |_=> .no
def az9 (lv a si:Y) (nm:bA) (at_ ph mn mx st fb ow lo:Y):Bu prog AU Kn kN Ap f149 [xQ 1 [lv],xQ 2 [a,si],xQ 8 [.v<|.string nm,at_,ph,mn,mx,st,fb,ow],xQ 1 [lo]]=.ok (.v<|.agg #[ah J (if (AA<|a+st)<lv then AA (a+st) else lv),lo]):=AX
def ak5:=vo (S:=aU6) func149 Kn kN (λargs lv h=>by
 refine ⟨?_⟩;unfold aU6 at h;split at h
 ·split at h
  case h_2=>cases h
  rename_i heq0;split at h
  case h_2=>cases h
  rename_i heq1;split at h
  case h_2=>cases h
  rename_i heq2;split at h
  case h_2=>cases h
  rename_i heq3;simp only [canL,canX];rw [E4 (n:=1) heq0];rw [E4 (n:=2) heq1];rw [E4 (n:=8) heq2];rw [E4 (n:=1) heq3];simp only [canL,canX]
  rwa [az9]
 ·cases h)
def ahv {a l si:Y}:Uo ((if (a !=0) then (1:Y) else 0).toNat*4+((if (l !=0) then (1:Y) else 0).toNat*2+((if (aq<|si>=5) then (1:Y) else 0).toNat*1+0)))=if a=0 then (if l=0 then 1 else if 5<=si then 0 else 1) else if l=0 then 2 else 3:=by
 by_cases c1:a=0<;>by_cases c2:l=0<;>by_cases c3:5<=si<;>simp [c1,c2,c3,Uo]
def aLS:aE->T LV
 | [.v (.agg ⟨[.string nm,ah J at_,ah J ph,ah J mn,ah J mx,ah J st,ah J fb,ah J ow]⟩),.v (.agg ⟨[ah J a,ah J si]⟩),.v (ah J want)]=> .tu #[.agg #[nA ph mn mx st fb a si want,nS ph mn mx st fb a si want],nE ph mn mx st fb a si want]
 |_=> .no
def amc:aO:=[aVl,aPg,ak8,ak7,ak6,ak5,aqi]
def awS:=vo (S:=aLS) func103 amc kN (λargs lv h=>by
 unfold aLS at h;split at h
 ·rename_i nm at_ ph mn mx st fb ow a si want
  refine Au (letI d:=C1 mn mx st want;letI e:=aq<|si>=5;letI c:=(Uo<|(if (a !=0) then (1:Y) else 0).toNat*4+((if (d !=0) then (1:Y) else 0).toNat*2+((if e then (1:Y) else 0).toNat*1+0)));.br ((!(IH ph mn mx st fb a si)) ||((aq<|want<0) ||(aq<|want>80))) (.tu #[.agg #[(0:Y),(0:Y)],(1:Y)])<|.req (E9 mn mx st)<|.req (0<=(if (a !=0) then (1:Y) else 0)/\(if (a !=0) then (1:Y) else 0)<(2:Y))<|.req (0<=(if (d !=0) then (1:Y) else 0)/\(if (d !=0) then (1:Y) else 0)<(2:Y))<|.req (0<=(if e then (1:Y) else 0)/\(if e then (1:Y) else 0)<(2:Y))<|.br (c==0) (.tu #[.agg #[mn,(0:Y)],(0:Y)])<|.br (c==1) (.tu #[.agg #[(0:Y),ah J (if (1000000:Y)<(AA<|si+1) then 1000000 else AA (si+1))],(0:Y)])<|.br (c==2) (.tu #[.agg #[(0:Y),(0:Y)],(0:Y)])<|.br (c==3) (.tu #[.agg #[ah J (if AA (a+st)<d then AA (a+st) else d),ah J (if (1000000:Y)<(AA<|si+1) then 1000000 else AA (si+1))],(0:Y)])<|.no) ?_
  obtain rfl:=h
  by_cases hk:okB ph mn mx st fb a si want=U
  ·obtain ⟨k1,k2,k3,k4,k5⟩:=aJM hk
   have w1:AA (si+1)=si+1:=AJ
   have w2:AA (a+st)=a+st:=AJ
   have i0:∀b:aN,0<=(if b=U then (1:Y) else 0)/\(if b=U then (1:Y) else 0)<2:=λb=>by cases b<;>simp
   simp only [T.all,nA,nS,nE,k1,w1,w2,hk,aIt,Bo,ahv,i0,Dw]
   grind
  ·have hn:=asN hk
   simp only [T.all,nA,nS,nE,hk,hn]
   simp
 ·cases h)
def aUo:aE->T LV
 | [.v (ah J n),.v (ah J a),.v (ah J b)]=> .ok (inB n a b)
 |_=> .no
def amY:aO:=[]
def ab4:=vo (S:=aUo) func139 amY kN (λargs lv h=>by
 unfold aUo at h;split at h
 ·rename_i n a b
  refine Au (.ok<|.v<|.bool<|(aq<|n>=a)&&(aq<|n<=b)) ?_;exact h
 ·cases h)
def aUe:aE->T LV
 | [.v (.agg ⟨[.bool wa,ah J ow,ah J le,ah J ra]⟩)]=> .ok (HE (wa,ow,le,ra))
 |_=> .no
def amX:aO:=[ab4]
def ak0:=vo (S:=aUe) func141 amX kN (λargs lv h=>by
 unfold aUe at h;split at h
 ·rename_i wa ow le ra
  refine Au (.ok<|.v<|.bool<|(inB ow (0:Y) (1000000000:Y))&&((inB le (0:Y) (1000000:Y))&&(inB ra (1:Y) (9:Y)))) ?_;exact h
 ·cases h)
structure Mg where
 cs:aL
 os:aF
 ks:aR
 gs:aG
 bs:aS
 l:aM
 d:bc
 t:Y
 od:aC
 alo:bx
 r:aN
 n:Y
 m:aM
 (k i:Y)
def aHf:=bN f101 0
def aA1 (s:Mg):T (Rd Mg):=
 .br (aq<|s.i<s.k) (.ix s.i (M s.m)<|.br (aq<|(An s.m s.i).2.1>=s.n) (.so (.ret) {s with r:=X})<|.nx {s with i:=AA<|s.i+1}) (.so (.exit 0) s)
def Tq (s:Mg) (j:Y):aN:=aq<|(An s.m j).2.1<s.n
def kD (s:Mg):Prop:=s.i=0/\0<=s.k/\s.k<=1000/\s.k=(M s.m:Y)
def YY (s:Mg):Prop:=0<=s.i/\s.i<=s.k/\s.k<=1000/\(s.k=(M s.m:Y))/\∀j:aD,(j:Y)<s.i->Tq s j=U
def vG (s:Mg):aD:=(s.k-s.i).toNat
def aCK (x:Ex) (s s':Mg):Prop:=(x=.exit 0/\∀j:aD,(j:Y)<s'.k->Tq s' j=U)\/(x=.ret/\s'.r=X/\∃j:aD,(j:Y)<s'.k/\Tq s' j=X)
def amO:∀s,kD s->YY s:=by
 exact KN
def ail:Da YY vG aCK aA1:=by
 intro s hI;obtain ⟨h0,h1,h2,h3,h4⟩:=hI;refine AH (λc1=>AH (λc2=>?_) λc2=>?_) λc1=>?_
 ·have c1:s.i<s.k:=AY
  refine .inr ⟨rfl,rfl,s.i.toNat,A8,?_⟩
  have hg:Tq s s.i=false:=aOT
  exact hg
 ·have c1:s.i<s.k:=AY
  have hg:Tq s s.i=true:=aOT
  rw [AJ (x:=s.i+1)];refine ⟨⟨A8,A8,h2,h3,λj hj=>?_⟩,by simp only [vG];omega⟩
  exact LU
 ·have c1:s.k<=s.i:=AY
  exact Zx
def Pq:AS Mg:=⟨0,108,[0,1,6,9,67,68,69],[],λs=>[xQ 9 [s.cs,s.os,s.ks,s.gs,s.bs,s.l,s.d,s.t,.xl A7 s.od],s.alo,s.r,s.n,s.m,s.k,s.i],λ_=>[],λv b=>⟨Ao Ae<|BT (v.getD 0 .junk) 0,Ao .str<|BT (v.getD 0 .junk) 1,Ao Ak<|BT (v.getD 0 .junk) 2,Ao Af<|BT (v.getD 0 .junk) 3,Ao Al<|BT (v.getD 0 .junk) 4,Ao AO<|BT (v.getD 0 .junk) 5,Ao Ai<|BT (v.getD 0 .junk) 6,gI<|BT (v.getD 0 .junk) 7,Ao A7<|BT (v.getD 0 .junk) 8,B3 Aq v 1,Ds v 2,AL v 3,B3 AO v 4,AL v 5,AL v 6⟩,aA1,λs r=> {s with r:=r.r,i:=r.i},λs=>s,λ_ s=>s,[.ret,.exit 0],kD,YY,vG⟩
abbrev aDj:=Pq.run
abbrev aJg:=Pq.Av
def ay6:Rq YY aA1:=by
 exact Sk
def ju:aO:=[Wn,Wl,ab4,aVl,ak0]
def aRk:Pq.Ok:={}
def aRN:Pq.Pf (aCK):=⟨amO,λs h=>rfl,ail,ay6⟩
def aqt:SA 0 aHf Pq:=s1 aRk aRN ju kN
def avj:Fi kD YY aCK aJg aDj:=AS.fin aRk aRN
structure Mu where
 cs:aL
 os:aF
 ks:aR
 gs:aG
 bs:aS
 l:aM
 d:bc
 t:Y
 od:aC
 rs:bx
 r:aN
 m:aG
 (k i:Y)
def aHe:=bN f101 1
def aA0 (s:Mu):T (Rd Mu):=letI a:=AG s.m s.i;.br (aq<|s.i<s.k) (.ix s.i (M s.m)<|.ix s.i (M s.rs)<|.br (!(IH a.2.2.1 a.2.2.2.1 a.2.2.2.2.1 a.2.2.2.2.2.1 a.2.2.2.2.2.2.1 (C2 s.rs s.i).1 (C2 s.rs s.i).2)) (.so (.ret) {s with r:=X})<|.ix s.i (M s.d)<|.br (!(HE<|E5 s.d s.i)) (.so (.ret) {s with r:=X})<|.nx {s with i:=AA<|s.i+1})<|.so (.exit 2) s
def Wk (s:Mu) (j:Y):aN:=raC (AG s.m j) (C2 s.rs j)&&HE (E5 s.d j)
def kC (s:Mu):Prop:=s.i=0/\0<=s.k/\s.k<=1000/\s.k=(M s.m:Y)/\M s.rs=M s.m/\M s.d=M s.m
def YX (s:Mu):Prop:=0<=s.i/\s.i<=s.k/\s.k<=1000/\(s.k=(M s.m:Y)/\M s.rs=M s.m/\M s.d=M s.m)/\∀j:aD,(j:Y)<s.i->Wk s j=U
def vF (s:Mu):aD:=(s.k-s.i).toNat
def aCJ (x:Ex) (s s':Mu):Prop:=(x=.exit 2/\∀j:aD,(j:Y)<s'.k->Wk s' j=U)\/(x=.ret/\s'.r=X/\∃j:aD,(j:Y)<s'.k/\Wk s' j=X)
def amN:∀s,kC s->YX s:=by
 exact KN
def aik:Da YX vF aCJ aA0:=by
 intro s hI;obtain ⟨h0,h1,h2,h3,h4⟩:=hI;refine AH (λc1=>AH (λc2=>?_) λc2=>AH (λc3=>?_) λc3=>?_) λc1=>?_
 ·exact aMw
 ·exact aMw
 ·have c1:s.i<s.k:=AY
  have hg:Wk s s.i=true:=aP7
  rw [AJ (x:=s.i+1)];refine ⟨⟨AZ,AZ,h2,h3,λj hj=>?_⟩,by simp only [vF];omega⟩
  exact LU
 ·have c1:s.k<=s.i:=AY
  exact Zx
def Pp:AS Mu:=⟨0,108,[0,1,6,82,83,84],[],λs=>[xQ 9 [s.cs,s.os,s.ks,s.gs,s.bs,s.l,s.d,s.t,.xl A7 s.od],s.rs,s.r,s.m,s.k,s.i],λ_=>[],λv b=>⟨Ao Ae<|BT (v.getD 0 .junk) 0,Ao .str<|BT (v.getD 0 .junk) 1,Ao Ak<|BT (v.getD 0 .junk) 2,Ao Af<|BT (v.getD 0 .junk) 3,Ao Al<|BT (v.getD 0 .junk) 4,Ao AO<|BT (v.getD 0 .junk) 5,Ao Ai<|BT (v.getD 0 .junk) 6,gI<|BT (v.getD 0 .junk) 7,Ao A7<|BT (v.getD 0 .junk) 8,B3 Aq v 1,Ds v 2,B3 Af v 3,AL v 4,AL v 5⟩,aA0,λs r=> {s with r:=r.r,i:=r.i},λs=>s,λ_ s=>s,[.ret,.exit 2],kC,YX,vF⟩
abbrev aIC:=Pp.run
abbrev aKJ:=Pp.Av
def ay5:Rq YX aA0:=by
 intro s hI;refine ⟨λc1=>⟨?_,?_,λ_=>trivial,λc2=>⟨?_,λ_=>trivial,λ_=>trivial⟩⟩,λ_=>trivial⟩
 all_goals ((obtain ⟨h0,h1,h2,h3,h4⟩:=hI;obtain ⟨h3,h5,h6⟩:=h3;simp at c1;omega))
def aRj:Pp.Ok:={}
def aRM:Pp.Pf (aCJ):=⟨amN,λs h=>rfl,aik,ay5⟩
def aqs:SA 0 aHe Pp:=s1 aRj aRM ju kN
def avi:Fi kC YX aCJ aKJ aIC:=AS.fin aRj aRM
def aKw:aE->T LV
 | [.xq 9 q0,.xl (.pair (.int J) (.int J)) rs,.v (ah J n)]=>(match ([q0 0,q0 1,q0 2,q0 3,q0 4,q0 5,q0 6,q0 7,q0 8]:aE) with
  | [.xl (.pair .str (.pair (.int J) (.pair (.int J) (.pair (.int J) (.pair (.pair (.int J) (.int J)) (.pair (.int J) (.pair (.int J) (.pair (.int J) (.pair (.int J) (.int J)))))))))) cs,.xl (.str) os,.xl (.pair .str (.pair (.int J) (.pair (.int J) (.int J)))) ks,.xl (.pair .str (.pair (.int J) (.pair (.int J) (.pair (.int J) (.pair (.int J) (.pair (.int J) (.pair (.int J) (.int J)))))))) gs,.xl (.pair .str (.int J)) bs,.xl (.pair (.int J) (.pair (.int J) (.pair (.int J) (.pair (.int J) (.int J))))) l,.xl (.pair .bool (.pair (.int J) (.pair (.int J) (.int J)))) d,.v (ah J t),.xl (.int J) od]=> .ok (Ja cs os ks gs bs l rs d t n)
  |_=> .no)
 |_=> .no
def atq (cs:aL) (os:aF) (ks:aR) (gs:aG) (bs:aS) (l:aM) (d:bc) (t:Y) (od:aC) (rs:bx) (n:Y):letI b:=(M gs:Y);letI c:=(M l:Y);letI a:=(aDj (⟨cs,os,ks,gs,bs,l,d,t,od,rs,X,b,l,c,(0:Y)⟩:Mg));Bu prog AU (ju) kN (λi=>if i=8 then Pq.lp else if i=14 then Pp.lp else Ap i) f101 [xQ 9 [cs,os,ks,gs,bs,l,d,t,.xl A7 od],rs,n]=.br (((OP cs os ks gs bs) !=0) ||(!(B1 l))) (.ok X) (.br (((M rs:Y) !=b) ||(((M d:Y) !=b) ||((!(inB t (0:Y) (1000000:Y))) ||(!(inB n (1:Y) (999900:Y)))))) (.ok X)<|.req (Pq.q (⟨cs,os,ks,gs,bs,l,d,t,od,rs,X,b,l,c,(0:Y)⟩:Mg))<|.br (Bt (aJg (⟨cs,os,ks,gs,bs,l,d,t,od,rs,X,b,l,c,(0:Y)⟩:Mg))<|.ret) (.ok a.r)<|.req (Pp.q (⟨cs,os,ks,gs,bs,l,d,t,od,rs,a.r,gs,b,(0:Y)⟩:Mu))<|.br (Bt (aKJ (⟨cs,os,ks,gs,bs,l,d,t,od,rs,a.r,gs,b,(0:Y)⟩:Mu))<|.ret) (.ok (aIC (⟨cs,os,ks,gs,bs,l,d,t,od,rs,a.r,gs,b,(0:Y)⟩:Mu)).r)<|.ok U):=AX
def awc:=vm (S:=aKw) func101 ju kN (L:=(λi=>if i=8 then Pq.lp else if i=14 then Pp.lp else Ap i)) (λb hb=>by
 rw [show BD _=[aHf,aHe] by kernel_rfl] at hb
 simp only [B9,Bx,By] at hb;rcases hb with rfl|rfl
 ·exact aqt
 ·exact aqs) (λargs lv h=>by
 refine ⟨?_⟩;unfold aKw at h;split at h
 ·split at h
  case h_2=>cases h
  rename_i heq0;simp only [canL,canX];rw [E4 (n:=9) heq0];simp only [canL,canX];rw [atq];rename_i rs n _ cs os ks gs bs l d t od;obtain rfl:=h
  have e0:((OP cs os ks gs bs !=0) || !B1 l)=!(BB cs os ks gs bs&&B1 l):=by
   unfold OP;cases BB cs os ks gs bs<;>cases B1 l<;>rfl
  have e1:(((M rs:Y) !=(M gs:Y)) ||(((M d:Y) !=(M gs:Y)) ||(!inB t 0 1000000 || !inB n 1 999900)))=!(aq (M rs=M gs)&&(aq (M d=M gs)&&(inB t 0 1000000&&inB n 1 999900))):=by
   rw [neN,neN,Bool.not_and,Bool.not_and,Bool.not_and]
  rw [e0,e1]
  have bad:Ja cs os ks gs bs l rs d t n=X->LV.v (.bool X)=LV.v (.bool<|Ja cs os ks gs bs l rs d t n):=λh=>Vg
  refine ⟨λc=>bad (by unfold Ja;rw [ntW c];rfl),λc=>⟨λc2=>bad (by unfold Ja;rw [ntW c2,QO,Sb]),λc2=>?_⟩⟩
  have c:=nfW c
  have c2:=nfW c2
  have c':=c
  have c2':=c2
  simp only [AV,Aa] at c' c2'
  have hl:=GK c'.2
  have hg:=(D7.1 c'.1).1.2.2.2.2.1
  have hE:kD ⟨cs,os,ks,gs,bs,l,d,t,od,rs,X,(M gs:Y),l,(M l:Y),0⟩:=⟨rfl,AZ,AZ,rfl⟩
  have ev:Ja cs os ks gs bs l rs d t n=(below (M gs) l&&DQ (M gs) (λj=>raC (AG gs j) (C2 rs j)&&HE (E5 d j))):=by
   unfold Ja;rw [c,c2,ES,ES]
  refine ⟨⟨hE,rfl,rfl⟩,?_⟩;obtain ⟨_,_,hq⟩:=avj _ hE
  have eb:below (M gs) l=DQ (M l) (λj=>aq<|(An l j).2.1<(M gs:Y)):=by
   rw [Iw,Dq];exact (Ql (d:=(0,0,0,0,0)) (p:=λx:Le=>aq<|x.2.1<(M gs:Y))).symm
  rcases hq with ⟨q1,q2⟩ |⟨q1,q2,j,q3,q4⟩<;>rw [q1]
  rotate_left
  ·rw [q2]
   exact ⟨λ_=>bad (by rw [ev,eb,P1 (f:=λj=>aq<|(An l j).2.1<(M gs:Y)) j q3 q4];rfl),λh=>As⟩
  refine ⟨λh=>As,λ_=>?_⟩
  have g0:below (M gs) l=true:=by rw [eb];exact Dq.2 q2
  have hE2:kC ⟨cs,os,ks,gs,bs,l,d,t,od,rs,(aDj ⟨cs,os,ks,gs,bs,l,d,t,od,rs,X,(M gs:Y),l,(M l:Y),0⟩).r,gs,(M gs:Y),0⟩:=⟨rfl,AZ,AZ,rfl,c2'.1,c2'.2.1⟩
  refine ⟨⟨hE2,rfl,rfl⟩,?_⟩;obtain ⟨_,_,hq⟩:=avi _ hE2;rcases hq with ⟨q5,q6⟩ |⟨q5,q6,j,q7,q8⟩<;>rw [q5]
  ·exact ⟨λh=>As,λ_=>by rw [ev,g0,(Dq (f:=λj=>raC (AG gs j) (C2 rs j)&&HE (E5 d j))).2 q6];rfl⟩
  ·rw [q6]
   exact ⟨λ_=>bad<|by rw [ev,P1 (f:=λj=>raC (AG gs j) (C2 rs j)&&HE (E5 d j)) j q7 q8,Sb],λh=>As⟩
 ·cases h)
structure Mr where
 n:Y
 r:aN
 l:aC
 (m k:Y)
 seen:bp
def aHa:=bN f181 0
def jK (s:Mr):T (Rd Mr):=letI a:=gi s.l s.k;letI b:=M s.seen;letI c:=s.seen.set a.toNat U;.br (aq<|s.k<s.m) (.ix s.k (M s.l)<|.br (aq<|a<0) (.rl s.seen<|.so (.ret) {s with r:=X})<|.br (aq<|a>=s.n) (.rl s.seen<|.so (.ret) {s with r:=X})<|.ik a b<|.br (s.seen.getD a.toNat<|Ty.dflt .bool) (.rl s.seen<|.so (.ret) {s with r:=X})<|.ik a b<|.re b c<|.nx {s with k:=AA<|s.k+1,seen:=c})<|.rl s.seen<|.so (.exit 0) s
def PX (s:Mr) (j:Y):aN:=Q8 s.n (gi s.l j)&&!(((s.l.take j.toNat).map id).contains<|id<|gi s.l j)
def aCu (s:Mr):Prop:=s.k=0/\s.seen=au (M s.seen) X/\s.m=(M s.l:Y)/\s.m<=1000/\s.n=(M s.seen:Y)
def YS (s:Mr):Prop:=(0<=s.k/\s.k<=s.m)/\(∀j:aD,j<M s.seen->s.seen.getD j X=(s.l.take s.k.toNat).contains (j:Y))/\(∀j:aD,(j:Y)<s.k->PX s j=U)/\s.m=(M s.l:Y)/\s.m<=1000/\s.n=(M s.seen:Y)
def v7 (s:Mr):aD:=(s.m-s.k).toNat
def l9 (x:Ex) (s s':Mr):Prop:=(x=.exit 0/\∀j:aD,(j:Y)<s'.m->PX s' j=U)\/(x=.ret/\s'.r=X/\∃j:aD,(j:Y)<s'.m/\PX s' j=X)
def alH:∀s,aCu s->YS s:=by
 rintro s ⟨h0,h1,h2,h3,h4⟩
 refine ⟨A0,λj hj=>?_,λj hj=>A0,h2,h3,h4⟩
 rw [h1,h0]
 grind
def agA:Da YS v7 l9 jK:=by
 intro s hI;unfold jK;obtain ⟨⟨h0,h1⟩,h2,h3,h4,h5,h6⟩:=hI;refine AH (λc1=>?_) λc1=>?_
 rotate_left
 ·have c1:s.m<=s.k:=AY
  exact .inl ⟨rfl,λj hj=>h3 j A0⟩
 have c1:s.k<s.m:=AY
 have bad:PX s s.k=X->l9 .ret s {s with r:=X}:=λhg=> .inr ⟨rfl,rfl,s.k.toNat,AZ,by rw [CS h0];exact hg⟩
 refine AH (λc2=>bad ?_) λc2=>AH (λc3=>bad ?_) λc3=>AH (λc4=>bad ?_) λc4=>?_
 ·unfold PX Q8
  simp only [Aa] at c2;rw [IP A0];rfl
 ·unfold PX Q8
  simp only [Aa] at c3;rw [IP (p:=gi s.l s.k<s.n) A0,Sb];rfl
 all_goals
  have c2:0<=gi s.l s.k:=ET
  have c3:gi s.l s.k<s.n:=NF
  have e:=h2 (gi s.l s.k).toNat A0
  rw [CS c2] at e
 ·have c4:s.seen.getD (gi s.l s.k).toNat X=true:=c4
  unfold PX;rw [VH,id,<-e,c4]
  simp
 ·have c4:s.seen.getD (gi s.l s.k).toNat X=false:=c4
  have hg:PX s s.k=true:=by
   unfold PX;rw [VH,id,<-e,c4,qI.2 ⟨c2,c3⟩];rfl
  rw [AJ (x:=s.k+1)];refine ⟨⟨⟨AZ,AZ⟩,λj hj=>?_,λj hj=>?_,h4,h5,A8⟩,by simp only [v7];omega⟩
  ·simp only [C5] at hj
   simp only;rw [(gi_step h0 (show s.k<M s.l by omega)).2,List.contains_append,<-h2 j hj]
   by_cases hj2:(gi s.l s.k).toNat=j
   ·subst hj2
    rw [CS c2]
    simp [List.getD,hj]
   ·have:¬(j:Y)=gi s.l s.k:=A0
    grind
  ·by_cases hji:(j:Y)<s.k
   ·exact h3 j hji
   ·have:(j:Y)=s.k:=nV
    rw [this];exact hg
def Rv:AS Mr:=⟨0,37,[1,4,5,14,15,16],[],λs=>[s.n,s.r,.os 0 1 0<|M s.seen,.xl A7 s.l,s.m,s.k],λs=>[bV 4 .bool s.seen],λv b=>⟨AL v 0,Ds v 1,B3 A7 v 3,AL v 4,AL v 5,gVe .bool<|CX b 0⟩,jK,λs r=> {r with n:=s.n,l:=s.l,m:=s.m},λs=>s,λ_ s=>s,[.ret,.exit 0],aCu,YS,v7⟩
abbrev aIB:=Rv.run
abbrev aKH:=Rv.Av
def ayX:Rq YS jK:=by
 intro s hI;refine ⟨λc1=>⟨?_,λc2=>⟨A9,an⟩,λc2=>⟨λc3=>⟨A9,an⟩,λc3=>⟨?_,?_,λc4=>⟨A9,an⟩,λc4=>⟨?_,?_,?_,an⟩⟩⟩⟩,λc1=>⟨A9,an⟩⟩
 iterate 5 · (obtain ⟨⟨h0,h1⟩,h2,h3,h4,h5,h6⟩:=hI;simp only [Aa,DB] at*;omega)
 ·grind
def abo:aO:=[]
def aSO:Rv.Ok:={}
def aRE:Rv.Pf (l9):=⟨alH,λs h=>rfl,agA,ayX⟩
def arQ:SA 0 aHa Rv:=s1 aSO aRE abo kN
def atJ:Fi aCu YS l9 aKH aIB:=AS.fin aSO aRE
def aKq:aE->T LV
 | [.xl (.int J) l,.v (ah J n)]=> .req (n<=1000) (.ok<|Gt l n)
 |_=> .no
def XF:=vm (S:=aKq) func181 abo kN (L:=(λi=>if i=5 then Rv.lp else Ap i)) (λb hb=>by
 rw [show BD _=[aHa] by kernel_rfl] at hb
 simp only [B9,Bx,By] at hb;subst hb;exact arQ) (λargs lv h=>by
 unfold aKq at h;split at h
 ·rename_i l n
  refine Au (letI a:=au n.toNat X;letI b:=(M l:Y);.br (b !=n) (.ok X)<|.rm 1 n<|.re n.toNat a<|.req (Rv.q (⟨n,X,l,b,0,a⟩:Mr))<|.br (Bt (aKH (⟨n,X,l,b,0,a⟩:Mr))<|.ret) (.ok (aIB (⟨n,X,l,b,0,a⟩:Mr)).r)<|.ok U) ?_;obtain ⟨hl,rfl⟩:=h;refine ⟨λc=>B0 (λz=>LV.v<|.bool z) ?_,λc=>?_⟩
  ·have c:¬(M l:Y)=n:=A8
   unfold Gt;rw [IP c];rfl
  ·have c:(M l:Y)=n:=A8
   unfold Gt;rw [Cb c,ES];refine ⟨A0,⟨rfl,AI⟩,LJ ⟨⟨rfl,AI,rfl,A8,A8⟩,rfl,rfl⟩ λhE=>?_⟩
   obtain ⟨s',_,hq⟩:=atJ _ hE.1;rcases hq with ⟨q1,q2⟩ |⟨q1,q2,j,q3,q4⟩
   ·rw [q1]
    have hk:=(WR (d:=(0:Y)) (p:=Q8 n) (k:=id)).1 q2
    rw [VH] at hk;rw [hk];exact ⟨λh=>As,λ_=>rfl⟩
   ·rw [q1,q2]
    refine ⟨λ_=>B0 (λz=>LV.v<|.bool z) ?_,λh=>As⟩
    rw [Sl,IS];intro hx
    have:=(WR (d:=(0:Y)) (p:=Q8 n) (k:=id)).2 GI j q3
    exact Bool.noConfusion<|this.symm.trans q4
 ·cases h)
structure JF where
 r:aN
 l:aC
 (n i:Y)
 Bi:aL
 Gi:aF
 Gf:aR
 Gk:aG
 Gm:aS
def zz (s:JF):T (Rd JF):=
 .br (aq<|s.i<s.n) (.ix s.i (M s.l)<|.br (!((aq<|(gi s.l s.i)>=0)&&(aq<|(gi s.l s.i)<=80))) (.so (.ret) {s with r:=X})<|.nx {s with i:=AA<|s.i+1}) (.so (.exit 0) s)
def To (s:JF) (j:Y):aN:=I5<|gi s.l j
def kA (s:JF):Prop:=s.i=0/\0<=s.n/\s.n<=1000/\s.n=(M s.l:Y)
def YV (s:JF):Prop:=0<=s.i/\s.i<=s.n/\s.n<=1000/\(s.n=(M s.l:Y))/\∀j:aD,(j:Y)<s.i->To s j=U
def vC (s:JF):aD:=(s.n-s.i).toNat
def aCF (x:Ex) (s s':JF):Prop:=(x=.exit 0/\∀j:aD,(j:Y)<s'.n->To s' j=U)\/(x=.ret/\s'.r=X/\∃j:aD,(j:Y)<s'.n/\To s' j=X)
def amF:∀s,kA s->YV s:=by
 exact KN
def aie:Da YV vC aCF zz:=by
 intro s hI;obtain ⟨h0,h1,h2,h3,h4⟩:=hI;refine AH (λc1=>AH (λc2=>?_) λc2=>?_) λc1=>?_
 ·have c1:s.i<s.n:=AY
  refine .inr ⟨rfl,rfl,s.i.toNat,A8,?_⟩
  have hg:To s s.i=false:=aO1
  exact hg
 ·have c1:s.i<s.n:=AY
  have hg:To s s.i=true:=aO1
  rw [AJ (x:=s.i+1)];refine ⟨⟨A8,A8,h2,h3,λj hj=>?_⟩,by simp only [vC];omega⟩
  exact LU
 ·exact Sn
def Tt:AS JF:=⟨1,18,[1,4,7,8,9],[],λs=>[.fn 179 [],s.r,.xl A7 s.l,s.n,s.i],λs=>[⟨[s.Bi,s.Gi,s.Gf,s.Gk,s.Gm],28,.cl,X⟩],λv b=>⟨Ds v 1,B3 A7 v 2,AL v 3,AL v 4,AF Ae b 0 0,AF .str b 0 1,AF Ak b 0 2,AF Af b 0 3,AF Al b 0 4⟩,zz,λs r=> {s with r:=r.r,i:=r.i},λs=>s,λ_ s=>s,[.ret,.exit 0],kA,YV,vC⟩
abbrev eU:=Tt.run
abbrev eR:=Tt.Av
def Q4:aO:=[Wl,XF,XE,XG]
def anC:Az:=kI Q4<|l0 Q4
def ay2:Rq YV zz:=by
 exact Sk
def aRg:Tt.Ok:={}
def aRJ:Tt.Pf (aCF):=⟨amF,λs h=>rfl,aie,ay2⟩
def WY:=s2 (b:=bN f180 0) aRg aRJ Q4 anC
def au9:Fi kA YV aCF eR eU:=AS.fin aRg aRJ
def aJk (s:JF) (hE:kA s):(eR s=.exit 0/\s.l.all I5=U)\/(eR s=.ret/\(eU s).r=X/\s.l.all I5=X):=by
 obtain ⟨s',hI,hq⟩:=au9 s hE;obtain ⟨h0,h1,h2,h3⟩:=hE
 have en:(eU s).n=s.n:=rfl
 rcases hq with ⟨q1,q2⟩ |⟨q1,q2,j,q3,q4⟩
 ·refine .inl ⟨q1,(Ql (d:=(0:Y))).1 λj hj=>?_⟩
  have:=q2 j A0
  exact this
 ·exact aN8
structure FV where
 alive:aC
 i:Y
 rows:aZ
 (rn ri:Y)
 l:aC
 (n k:Y)
 KQ:aL
 KW:aF
 KU:aR
 KV:aG
 Kg:aS
 Ha:aL
 HZ:aF
 Ef:aR
 B6:aG
 Hb:aS
 BI:aZ
 (BJ CM CL CK CJ CI CH CG CF CO CN CD CC CB CA C9 C8 sums levels:aC)
def aH8:=lN (bN f182 0) 0
def Gv (s:FV):aJ:=[s.CM,s.CL,s.CK,s.CJ,s.CI,s.CH,s.CG,s.CF,s.CO,s.CN,s.CD,s.CC,s.CB,s.CA,s.C9,s.C8]
def nsO (s:FV) (l:aJ):FV:={s with CM:=l.getD 0 [],CL:=l.getD 1 [],CK:=l.getD 2 [],CJ:=l.getD 3 [],CI:=l.getD 4 [],CH:=l.getD 5 [],CG:=l.getD 6 [],CF:=l.getD 7 [],CO:=l.getD 8 [],CN:=l.getD 9 [],CD:=l.getD 10 [],CC:=l.getD 11 [],CB:=l.getD 12 [],CA:=l.getD 13 [],C9:=l.getD 14 [],C8:=l.getD 15 []}
def ns (s:FV) (j:aD):FV:={nsO s ((Gv s).modify j (·++[s.i])) with k:=AA<|s.k+1,sums:=s.sums.set s.i.toNat<|AA<|s.sums.getD s.i.toNat 0+gi s.alive (j:Y)}
def rO {α:Type}(x:aC):aJ->aD->T α->T α
 | [],_,t=>t
 |o::l,0,t=> .re (M o+M x) (o++x) (rO x l 1000 t)
 |o::l,j+1,t=> .rl o<|rO x l j t
def Xk {σ:Type}{s:σ}{x:aC}{t:T<|Rd σ}:∀l j,(rO x l j t).rd s=t.rd s
 | [],_=>rfl
 |_::l,0=>Xk l 1000
 |_::l,j+1=>Xk l j
def gg {α:Type}{K:α->Prop}{x:aC}{t:T α}(h:t.all K):∀l j,(rO x l j t).all K
 | [],_=>h
 |_::l,0=>⟨⟨rfl,AI⟩,gg h l 1000⟩
 |_::l,j+1=>⟨⟨rfl,rfl⟩,gg h l j⟩
def aFX {α:Type}{K:α->Prop}{f:aD->T α}{n:Y}:∀m j:aD,(j:Y)<=n->n<j+m->(∀i:aD,n=i->(f i).all K)->(splitN f n m j).all K
 |0,_,_,_,_=>A0
 |1,j,_,_,h=>h j A0
 |m+2,j,_,_,h=>⟨λc=>h j<|eq_of_beq c,λc=>aFX (m+1) (j+1) A8 A0 h⟩
def rN {σ:Type}{A:σ->Prop}{B:Ex->σ->Prop}{s:σ}{f:aD->T (Rd σ)}{n:Y}:∀m j:aD,(j:Y)<=n->n<j+m->(∀i:aD,n=i->DH A B ((f i).rd s))->DH A B ((splitN f n m j).rd s)
 |0,_,_,_,_=>A0
 |1,j,_,_,h=>h j A0
 |m+2,j,_,_,h=>AH (λc=>h j<|eq_of_beq c) λc=>rN (m+1) (j+1) A8 A0 h
def alO (s:FV) {l:aJ}(h:M l=16):Gv (nsO s l)=l:=by
 show (av 16).map (λi=>l.getD i [])=l
 refine Ze o9 λi h1 h2=>?_
 grind
def aAB (s:FV):T (Rd FV):=letI a:=M s.sums;.br (aq<|s.k<s.n) (.ix s.k (M s.l)<|.req (0<=(gi s.l s.k)/\(gi s.l s.k)<(16:Y))<|splitN (λj=> .rb (M<|(Gv s).getD j []) (M<|[s.i]) 8<|.ix s.i a<|.ix (j:Y) (M s.alive)<|.req (s.i.toNat<M s.sums)<|.ik s.i a<|rO [s.i] (Gv s) j<|.re a (ns s j).sums<|.rl s.levels<|.nx<|ns s j) (gi s.l s.k) 16 0)<|rO [] (Gv s) 1000<|.rl s.sums<|.rl s.levels<|.so (.exit 2) s
def YC (s:FV):Prop:=s.k=0/\(∀o∈Gv s,(M o:Y)<=1000000)/\(0<=gi s.sums s.i/\gi s.sums s.i<=1000)/\s.n=(M s.l:Y)/\s.n<=1000/\(∀m∈s.l,0<=m/\m<16/\m<(M s.alive:Y))/\(∀a∈s.alive,0<=a/\a<=80)/\(0<=s.i/\s.i<(M s.sums:Y))
def Ph (s:FV):Prop:=(0<=s.k/\s.k<=s.n)/\(∀o∈Gv s,(M o:Y)<=1000000+s.k)/\(0<=gi s.sums s.i/\gi s.sums s.i<=1000+80*s.k)/\s.n=(M s.l:Y)/\s.n<=1000/\(∀m∈s.l,0<=m/\m<16/\m<(M s.alive:Y))/\(∀a∈s.alive,0<=a/\a<=80)/\(0<=s.i/\s.i<(M s.sums:Y))
def XB (s:FV):aD:=(s.n-s.k).toNat
def acQ (x:Ex) (s s':FV):Prop:=x=.exit 2/\s'.k=s'.n
def alN:∀s,YC s->Ph s:=by
 rintro s ⟨h0,h1,h2,h3⟩
 exact ⟨A0,λo ho=>A8,A0,h3⟩
def fY (s:FV) (hI:Ph s) (c1:s.k<s.n):0<=gi s.l s.k/\gi s.l s.k<16/\gi s.l s.k<(M s.alive:Y):=by
 obtain ⟨⟨h0,h1⟩,h2,h3,h4,h5,h6,h7,h8⟩:=hI;exact h6 _ aOs
abbrev k7 (s:FV):=(L9 s.i (Gv s)<|s.l.drop s.k.toNat,s.sums.set s.i.toNat<|s.sums.getD s.i.toNat 0+smA s.alive (s.l.drop s.k.toNat))
def aSb (s:FV) (j:aD) (hI:Ph s) (c1:s.k<s.n) (em:gi s.l s.k=(j:Y)):(Ph (ns s j)/\XB (ns s j)<XB s)/\k7 (ns s j)=k7 s:=by
 generalize e:ns s j=s'
 have hO:Gv s'=(Gv s).modify j (·++[s.i]):=by rw [<-e];exact alO s (by rw [mH];rfl)
 have hs:s'.sums=s.sums.set s.i.toNat (AA<|s.sums.getD s.i.toNat 0+gi s.alive (j:Y)):=Vc
 have hk:s'.k=AA (s.k+1):=Vc
 have hn:s'.n=s.n:=Vc
 have hl:s'.l=s.l:=Vc
 have ha:s'.alive=s.alive:=Vc
 have hi:s'.i=s.i:=Vc
 have hm:=fY s hI c1
 obtain ⟨⟨h0,h1⟩,h2,⟨h3,h3'⟩,h4,h5,h6,h7,h8⟩:=hI;rw [AJ (x:=s.k+1)] at hk
 have hav:=h7 (gi s.alive (j:Y)) aOs
 have hgi:gi s.sums s.i=s.sums.getD s.i.toNat 0:=rfl
 rw [AJ (x:=s.sums.getD s.i.toNat 0+gi s.alive (j:Y))] at hs
 have hs2:gi s'.sums s'.i=s.sums.getD s.i.toNat 0+gi s.alive (j:Y):=by
  rw [hi,hs]
  show List.getD _ _ _=_
  grind
 refine ⟨⟨⟨⟨A0,A0⟩,λo ho=>?_,⟨by rw [hs2];omega,by rw [hs2];omega⟩,by rw [hn,hl];exact h4,A0,by rw [hl,ha];exact h6,by rw [ha];exact h7,⟨by rw [hi];omega,by rw [hi,hs,C5];omega⟩⟩,by simp only [XB];omega⟩,?_⟩
 ·rw [hO] at ho
  obtain ⟨k,hk2,rfl⟩:=Hr.1 ho;rw [mH] at hk2
  have:=h2 (Gv s)[k]<|Fk _
  rw [List.getElem_modify];split
  ·grind
  ·omega
 ·unfold k7
  rw [hO,hs,hl,ha,hi,hk,(gi_step h0 (show s.k<M s.l by omega)).1,pz,aG2,em,C0,aeV A0]
def aSc:Da Ph XB acQ aAB:=by
 intro s hI;refine AH (λc1=>?_) λc1=>?_
 ·have hm:=fY s hI A8
  refine rN 16 0 A0 A0 λi em=>?_
  show DH _ _ ((rO _ _ i _).rd s)
  rw [Xk];exact (aSb s i hI A8 em).1
 ·have c1:s.n<=s.k:=A8
  have h0:=hI.1
  exact VL
def UK:AS FV:=⟨1,67,[2,7,8,23,24,25,31,32,33],[.ns 7 6 3 A7,.ns 7 7 3 A7,.ns 7 8 3 A7,.ns 7 9 3 A7,.ns 7 10 3 A7,.ns 7 11 3 A7,.ns 7 12 3 A7,.ns 7 13 3 A7,.ns 7 14 3 A7,.ns 7 15 3 A7,.ns 7 16 3 A7,.ns 7 17 3 A7,.ns 7 18 3 A7,.ns 7 19 3 A7,.ns 7 20 3 A7,.ns 7 21 3 A7],λs=>[.xl A7 s.alive,.own 1 0,s.i,.xl Eg s.rows,s.rn,s.ri,.xl A7 s.l,s.n,s.k],λs=>[⟨[s.KQ,s.KW,s.KU,s.KV,s.Kg],28,.cl,X⟩,⟨[s.Ha,s.HZ,s.Ef,s.B6,s.Hb,.xl Eg s.BI,.os 2 1 0<|M s.CM,.os 3 1 0<|M s.CL,.os 4 1 0<|M s.CK,.os 5 1 0<|M s.CJ,.os 6 1 0<|M s.CI,.os 7 1 0<|M s.CH,.os 8 1 0<|M s.CG,.os 9 1 0<|M s.CF,.os 10 1 0<|M s.CO,.os 11 1 0<|M s.CN,.os 12 1 0<|M s.CD,.os 13 1 0<|M s.CC,.os 14 1 0<|M s.CB,.os 15 1 0<|M s.CA,.os 16 1 0<|M s.C9,.os 17 1 0<|M s.C8,.os 18 1 0<|M s.sums,.xl A7 s.BJ,.os 19 1 0<|M s.levels],305,.cl,X⟩,bV 3 A7 s.CM,bV 3 A7 s.CL,bV 3 A7 s.CK,bV 3 A7 s.CJ,bV 3 A7 s.CI,bV 3 A7 s.CH,bV 3 A7 s.CG,bV 3 A7 s.CF,bV 3 A7 s.CO,bV 3 A7 s.CN,bV 3 A7 s.CD,bV 3 A7 s.CC,bV 3 A7 s.CB,bV 3 A7 s.CA,bV 3 A7 s.C9,bV 3 A7 s.C8,bV 3 A7 s.sums,bV 3 A7 s.levels],λv b=>⟨B3 A7 v 0,AL v 2,B3 Eg v 3,AL v 4,AL v 5,B3 A7 v 6,AL v 7,AL v 8,AF Ae b 0 0,AF .str b 0 1,AF Ak b 0 2,AF Af b 0 3,AF Al b 0 4,AF Ae b 1 0,AF .str b 1 1,AF Ak b 1 2,AF Af b 1 3,AF Al b 1 4,AF Eg b 1 5,AF A7 b 1 23,Ab A7 b 2,Ab A7 b 3,Ab A7 b 4,Ab A7 b 5,Ab A7 b 6,Ab A7 b 7,Ab A7 b 8,Ab A7 b 9,Ab A7 b 10,Ab A7 b 11,Ab A7 b 12,Ab A7 b 13,Ab A7 b 14,Ab A7 b 15,Ab A7 b 16,Ab A7 b 17,Ab A7 b 18,Ab A7 b 19⟩,aAB,λs r=> {s with k:=r.k,CM:=r.CM,CL:=r.CL,CK:=r.CK,CJ:=r.CJ,CI:=r.CI,CH:=r.CH,CG:=r.CG,CF:=r.CF,CO:=r.CO,CN:=r.CN,CD:=r.CD,CC:=r.CC,CB:=r.CB,CA:=r.CA,C9:=r.C9,C8:=r.C8,sums:=r.sums},λs=>s,λ_ s=>s,[.exit 2],YC,Ph,XB⟩
abbrev Gg:=UK.run
def aBo:Az:=kI Q4<|la 2 func180 WY<|l0 Q4
def ayH:Rq Ph aAB:=by
 intro s hI;refine ⟨λc1=>?_,λ_=>gg (by exact ⟨A9,A9,an⟩) _ _⟩
 have hm:=fY s hI A8
 simp only [Aa] at c1;obtain ⟨⟨h0,h1⟩,h2,h3,h4,h5,h6,h7,h8,h9⟩:=id hI;refine ⟨⟨A0,A0⟩,⟨A0,A0⟩,aFX 16 0 A0 A0 λi em=>?_⟩
 refine ⟨⟨A0,?_⟩,⟨A0,A0⟩,⟨A0,A0⟩,A0,⟨A0,A0⟩,A0,gg ?_ _ _⟩
 ·grind
 ·exact ⟨⟨rfl,(C5 ..).symm⟩,A9,an⟩
def uG:UK.Ok:={}
def uc:UK.Pf (acQ):=⟨alN,λs h=>rfl,aSc,ayH⟩
def arB:SA 1 aH8 UK:=s2 uG uc Q4 aBo
def apa (s:FV) (hE:YC s):(λs:FV=>(L9 s.i (Gv s)<|s.l.drop s.k.toNat,s.sums.set s.i.toNat<|s.sums.getD s.i.toNat 0+smA s.alive (s.l.drop s.k.toNat))) (Gg s)=(λs:FV=>(L9 s.i (Gv s)<|s.l.drop s.k.toNat,s.sums.set s.i.toNat<|s.sums.getD s.i.toNat 0+smA s.alive (s.l.drop s.k.toNat))) s:=by
 exact AS.Kx uG uc k7 (λs hI=>by
  refine AH (λc1=>?_) λc1=>?_
  ·have hm:=fY s hI A8
   refine rN 16 0 A0 A0 λi em=>?_
   show DH _ _ ((rO _ _ i _).rd s)
   rw [Xk];exact (aSb s i hI A8 em).2
  ·rw [Xk]
   exact rfl) s hE
def asY (s:FV) (hE:YC s):Gv (Gg s)=L9 s.i (Gv s) s.l/\(Gg s).sums=s.sums.set s.i.toNat (s.sums.getD s.i.toNat 0+smA s.alive s.l):=by
 have q3:=apa s hE
 obtain ⟨hI2,hf⟩:=AS.inv uG uc (λs=>AX) s hE
 have hI2:Ph (Gg s):=hI2
 have hq:=df (aSc _ hI2) hf
 have q2:(Gg s).k=(Gg s).n:=hq.2
 obtain ⟨h0,h1,h2,h3,h4,h5,h6,h7⟩:=hE;obtain ⟨g0,g1,g2,g3,g4,g5,g6,g7⟩:=hI2
 have el:(Gg s).l=s.l:=rfl
 have en:(Gg s).n=s.n:=rfl
 have ei:(Gg s).i=s.i:=rfl
 have ea:(Gg s).alive=s.alive:=rfl
 simp only at q3;rw [q2,en,el,ei,ea,Ei A0,h0,show (0:Y).toNat=0 from rfl,CT] at q3
 have e1:=B0 Prod.fst q3
 have e2:=B0 Prod.snd q3
 simp only at e1 e2;refine ⟨e1,?_⟩;rw [<-e2];exact (aoz (by rw [ei] at g7;omega)).symm
structure EK where
 alive:aC
 rows:aZ
 (rn ri:Y)
 KQ:aL
 KW:aF
 KU:aR
 KV:aG
 Kg:aS
 Ha:aL
 HZ:aF
 Ef:aR
 B6:aG
 Hb:aS
 BI:aZ
 (BJ CM CL CK CJ CI CH CG CF CO CN CD CC CB CA C9 C8 sums levels:aC)
def aH7:=bN f182 0
def MN (s:EK):FV:=(⟨s.alive,s.ri,s.rows,s.rn,s.ri,(Cj s.rows s.ri).2,(M (Cj s.rows s.ri).2:Y),0,s.KQ,s.KW,s.KU,s.KV,s.Kg,s.Ha,s.HZ,s.Ef,s.B6,s.Hb,s.BI,s.BJ,s.CM,s.CL,s.CK,s.CJ,s.CI,s.CH,s.CG,s.CF,s.CO,s.CN,s.CD,s.CC,s.CB,s.CA,s.C9,s.C8,s.sums,s.levels⟩:FV)
def aAA (s:EK):T (Rd EK):=letI a:=Gg<|MN s;.br (aq<|s.ri<s.rn) (.ix s.ri (M s.rows)<|.rl s.CM<|.rl s.CL<|.rl s.CK<|.rl s.CJ<|.rl s.CI<|.rl s.CH<|.rl s.CG<|.rl s.CF<|.rl s.CO<|.rl s.CN<|.rl s.CD<|.rl s.CC<|.rl s.CB<|.rl s.CA<|.rl s.C9<|.rl s.C8<|.rl s.sums<|.rl s.levels<|.req (UK.q<|MN s)<|.rl a.CM<|.rl a.CL<|.rl a.CK<|.rl a.CJ<|.rl a.CI<|.rl a.CH<|.rl a.CG<|.rl a.CF<|.rl a.CO<|.rl a.CN<|.rl a.CD<|.rl a.CC<|.rl a.CB<|.rl a.CA<|.rl a.C9<|.rl a.C8<|.rl a.sums<|.rl s.levels<|.nx {s with ri:=AA<|s.ri+1,CM:=a.CM,CL:=a.CL,CK:=a.CK,CJ:=a.CJ,CI:=a.CI,CH:=a.CH,CG:=a.CG,CF:=a.CF,CO:=a.CO,CN:=a.CN,CD:=a.CD,CC:=a.CC,CB:=a.CB,CA:=a.CA,C9:=a.C9,C8:=a.C8,sums:=a.sums})<|.rl s.CM<|.rl s.CL<|.rl s.CK<|.rl s.CJ<|.rl s.CI<|.rl s.CH<|.rl s.CG<|.rl s.CF<|.rl s.CO<|.rl s.CN<|.rl s.CD<|.rl s.CC<|.rl s.CB<|.rl s.CA<|.rl s.C9<|.rl s.C8<|.rl s.sums<|.rl s.levels<|.so (.exit 0) s
def Ft (s:EK):aJ:=[s.CM,s.CL,s.CK,s.CJ,s.CI,s.CH,s.CG,s.CF,s.CO,s.CN,s.CD,s.CC,s.CB,s.CA,s.C9,s.C8]
end Go.Proofs.YtepoohnehmfflaaGreatDoor
end
