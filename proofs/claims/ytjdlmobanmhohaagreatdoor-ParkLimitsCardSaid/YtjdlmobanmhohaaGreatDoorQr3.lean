/- Helpers for ParkLimits. Conditions: none. -/
import Derived.Test.YtjdlmobanmhohaaGreatDoorQr2
set_option linter.defProp false
set_option linter.unusedVariables false
set_option linter.unusedSimpArgs false
noncomputable section
open List renaming length→M,length→aa,replicate→aq,range→au
open Bool renaming true→U,true→ae,false→X,false→af
open Go.Value renaming int→ag
open Option renaming some→ah,none→aj
open Go.IntKind renaming i64→J,i64→ai,u8→aw,u32→ax
open True renaming intro→ak
open Decidable renaming decide→an
open ByteArray renaming mk→av
open Go.Region renaming ready→ay,wanted→az
open Go.Instr renaming findNow→aA
namespace Go.Proofs.YtjdlmobanmhohaaGreatDoor
set_option maxRecDepth 100000
set_option maxHeartbeats 4000000
open Go.Proofs.Tryz
open Go.Sx
def ai7 {nm:aV6}{i up li ne ra he am mo ga lo de:Y}(hi:0<=i) {K:aVH->Prop}(h:K<|I9 i (nm,up,li,ne,(ra,he),am,mo,ga,lo,de)):
  ((if i==0 then (up !=(-1)) ||((an<|i>0)&&((an<|up<0) ||(an<|up>=i))) else (an<|i>0)&&((an<|up<0) ||(an<|up>=i)))=U->K X)/\
  ((if i==0 then (up !=(-1)) ||((an<|i>0)&&((an<|up<0) ||(an<|up>=i))) else (an<|i>0)&&((an<|up<0) ||(an<|up>=i)))=X->
   (((!(inB li (1:Y) (1000:Y))) ||(!(inB ne (1:Y) (1000:Y))))=U->K X)/\
   (((!(inB li (1:Y) (1000:Y))) ||(!(inB ne (1:Y) (1000:Y))))=X->
    (((!((ra==0)&&(he==0)))&&(!(inB ra (1:Y) (1000:Y)) ||(!(inB he (0:Y) (1000000:Y)))))=U->K X)/\
    (((!((ra==0)&&(he==0)))&&(!(inB ra (1:Y) (1000:Y)) ||(!(inB he (0:Y) (1000000:Y)))))=X->
     (((am==0)&&((mo==0)&&((ga==0)&&((lo==0)&&(de==0)))))=U->K U)/\
     (((am==0)&&((mo==0)&&((ga==0)&&((lo==0)&&(de==0)))))=X->K ((inB am (0:Y) (200000:Y))&&((inB mo (0:Y) (200000:Y))&&((inB ga (0:Y) (1000:Y))&&((inB lo (0:Y) (1000:Y))&&((inB de (1:Y) (1000000:Y))&&(an<|mo>am)))))))))):=by
 have e1:(if i==0 then (up !=(-1)) ||((an<|i>0)&&((an<|up<0) ||(an<|up>=i))) else (an<|i>0)&&((an<|up<0) ||(an<|up>=i)))=!(if i=0 then up==-1 else inB up 0 (i-1)):=by
  by_cases h0:i=0
  ·grind
  ·have:(i==0)=false:=by simpa using h0
   rw [this,AE h0,Iw]
   simp [inB]
   omega
 rw [e1];unfold I9 at h;simp only at h;generalize (if i=0 then up==-1 else inB up 0 (i-1))=b1 at*
 refine ⟨λc=>?_,λc=>⟨λc2=>?_,λc2=>⟨λc3=>?_,λc3=>⟨λc4=>?_,λc4=>?_⟩⟩⟩⟩
 ·grind
 all_goals
  have c:b1=true:=Ix
  rw [c,EU] at h
 ·have:(inB li 1 1000&&inB ne 1 1000)=false:=A8
  grind
 all_goals
  have c2:inB li 1 1000=U/\inB ne 1 1000=true:=EX
  rw [c2.1,c2.2,EU,EU] at h
 ·have:((ra==0)&&(he==0) ||(inB ra 1 1000&&inB he 0 1000000))=false:=by
   grind
  grind
 all_goals
  have:((ra==0)&&(he==0) ||(inB ra 1 1000&&inB he 0 1000000))=true:=by
   grind
  rw [this,EU] at h
 ·unfold Ir cbZ at h
  grind
 ·unfold Ir cbZ at h
  rw [c4,D5] at h
  have:((inB am (0:Y) (200000:Y))&&((inB mo (0:Y) (200000:Y))&&((inB ga (0:Y) (1000:Y))&&((inB lo (0:Y) (1000:Y))&&((inB de (1:Y) (1000000:Y))&&(an<|mo>am))))))=(an (0<=am)&&(an (am<mo)&&(an (mo<=200000)&&(inB ga 0 1000&&(inB lo 0 1000&&inB de 1 1000000))))):=by
   rw [Iw];simp only [AX,BS,Ab];omega
  rw [this];exact h
def WW {α β:Type} [BEq β] [LawfulBEq β] {l:List α}{d:α}{p:α->aVH}{k:α->β}:(∀j:aVx,(j:Y)<(M l:Y)->(p (l.getD (j:Y).toNat d)&&!(((l.take (j:Y).toNat).map k).contains<|k<|l.getD (j:Y).toNat d))=U)↔(l.all p&&once (l.map k))=true:=by
 have hg:∀(j:aVx) (h:j<M l),l.getD (j:Y).toNat d=l[j]:=λj h=>Lz (n:=(j:Y)) h
 rw [AX,BH,qt]
 constructor
 ·intro h
  refine ⟨λx hx=>?_,λj hj hm=>?_⟩
  ·obtain ⟨j,hj,rfl⟩:=List.getElem_of_mem hx
   have:=h j A0
   rw [hg j hj,AX] at this;exact this.1
  ·have hj':j<M l:=A8
   have:=h j A0
   rw [hg j hj',AX,DB] at this
   have h2:=this.2
   rw [C0,List.map_take,Zv.2 A8] at h2;cases h2
 ·intro ⟨h1,h2⟩ j hj
  have hj':j<M l:=A0
  rw [hg j hj',AX,DB];refine ⟨h1 _<|Gf _,?_⟩;rw [IQ,C0,List.map_take]
  grind
def Qp {α:Type}{l:List α}{d:α}{p:α->aVH}:(∀j:aVx,(j:Y)<(M l:Y)->p (l.getD (j:Y).toNat d)=U)↔l.all p=true:=by
 have hg:∀(j:aVx) (h:j<M l),l.getD (j:Y).toNat d=l[j]:=λj h=>Lz (n:=(j:Y)) h
 rw [BH]
 constructor
 ·intro h x hx
  obtain ⟨j,hj,rfl⟩:=List.getElem_of_mem hx
  have:=h j A0
  rw [hg j hj] at this;exact this
 ·intro h j hj
  grind
def Iq (ph mn mx st fb:Y):aVH:=inB ph 1 7&&(inB mn 1 80&&(inB mx 1 80&&(inB st 1 80&&(an (mn<=mx)&&(fb==0 ||inB fb mn mx)))))
def To {ph mn mx st fb:Y}:Iq ph mn mx st fb=U↔1<=ph/\ph<=7/\1<=mn/\mn<=80/\1<=mx/\mx<=80/\1<=st/\st<=80/\mn<=mx/\(fb=0\/(mn<=fb/\fb<=mx)):=by
 simp [Iq,inB];omega
def C1 (mn mx st a:Y):Y:=if a<mn then 0 else min a mx-(min a mx-mn) %st
def aDc {x s:Y}(hx:0<=x) (hs:1<=s):0<=x%s/\x%s<=x/\x%s<s:=by
 have h1:=lz x s
 have h2:0<=x / s:=Su hx A0
 have h3:0<=s*(x / s):=Iv A0 h2
 have h4:=Int.emod_nonneg x (b:=s) A0
 have h5:=Int.emod_lt_of_pos x (b:=s) A0
 omega
def cf {mn mx st a:Y}(h1:1<=mn) (h2:mn<=mx) (h3:mx<=80) (h4:1<=st):0<=C1 mn mx st a/\C1 mn mx st a<=80/\(a<mn->C1 mn mx st a=0)/\(mn<=a->mn<=C1 mn mx st a/\C1 mn mx st a<=a/\C1 mn mx st a<=mx):=by
 unfold C1;split
 ·omega
 ·have e1:=aDc (x:=min a mx-mn) (s:=st) A0 h4
  omega
def EB (mn mx st:Y):Prop:=1<=mn/\mn<=mx/\mx<=80/\1<=st/\st<=80
def aT3 {ph mn mx st fb:Y}(h:Iq ph mn mx st fb=U):EB mn mx st:=by
 rw [To] at h;unfold EB;omega
def IF (ph mn mx st fb a s:Y):aVH:=Iq ph mn mx st fb&&(an (0<=s)&&(an (s<=1000000)&&(an (0<=a)&&(C1 mn mx st a==a))))
def okB (ph mn mx st fb a s want:Y):aVH:=IF ph mn mx st fb a s&&(an (0<=want)&&an (want<=80))
def nE (ph mn mx st fb a s want:Y):Y:=if okB ph mn mx st fb a s want then 0 else 1
def nA (ph mn mx st fb a s want:Y):Y:=
 if okB ph mn mx st fb a s want then (if a=0 then (if C1 mn mx st want≠0/\5<=s then mn else 0) else if C1 mn mx st want=0 then 0 else min (C1 mn mx st want) (a+st)) else 0
def nS (ph mn mx st fb a s want:Y):Y:=
 if okB ph mn mx st fb a s want then (if a=0 then (if C1 mn mx st want≠0/\5<=s then 0 else min (s+1) 1000000) else if C1 mn mx st want=0 then 0 else min (s+1) 1000000) else 0
def aHr (x y:Y):(if y<x then y else x)=min x y:=A0
def aiE {mn mx st am:Y}(h:am<mn):0=C1 mn mx st am:=by rw [C1,AD h]
def aiD {mn mx st am:Y}(hc:EB mn mx st) (h:mn<=am):AA ((if mx<am then mx else am)-(AA<|(if mx<am then mx else am)-mn).tmod st)=C1 mn mx st am:=by
 unfold EB at hc;rw [aHr]
 have e1:=aDc (x:=min am mx-mn) (s:=st) A0 A0
 rw [AJ (x:=min am mx-mn),xU A0,AJ,C1,AE A0]
def anx {ph mn mx st fb a s:Y}(h:((!Iq ph mn mx st fb) ||(an (s<0) ||(an (s>1000000) ||an (a<0))))=U):X=IF ph mn mx st fb a s:=by
 cases hr:IF ph mn mx st fb a s
 ·rfl
 ·simp [IF] at hr h
  rw [hr.1] at h
  simp at h
  omega
def aLM {ph mn mx st fb a s:Y}(h:((!Iq ph mn mx st fb) ||(an (s<0) ||(an (s>1000000) ||an (a<0))))=X):EB mn mx st/\(C1 mn mx st a==a)=IF ph mn mx st fb a s:=by
 simp at h
 obtain ⟨h1,h2,h3,h4⟩:=h;exact ⟨aT3 h1,by simp [IF,h1,h2,h3,h4]⟩
def aIC {ph mn mx st fb a s want:Y}(h:okB ph mn mx st fb a s want=U):(!IF ph mn mx st fb a s ||(an (want<0) ||an (want>80)))=X/\EB mn mx st/\(0<=s/\s<=1000000)/\(0<=want/\want<=80)/\0<=a/\a<=80/\1<=st/\st<=80:=by
 simp only [okB,IF,AX,Ab,Cz] at h;obtain ⟨⟨h1,h2,h3,h4,h5⟩,h6,h7⟩:=h
 have hc:=aT3 h1
 have hc':=hc
 have:=cf (a:=a) hc'.1 hc'.2.1 hc'.2.2.1 hc'.2.2.2.1
 refine ⟨?_,hc,⟨h2,h3⟩,⟨h6,h7⟩,h4,A0,hc'.2.2.2.1,hc'.2.2.2.2⟩
 simp [IF,h1,h2,h3,h4,h5];omega
def ar1 {ph mn mx st fb a s want:Y}(h:¬okB ph mn mx st fb a s want=U):(!IF ph mn mx st fb a s ||(an (want<0) ||an (want>80)))=true:=by
 cases hr:IF ph mn mx st fb a s
 ·rfl
 ·simp [okB,hr] at h|-;omega
def Fj (cs:aVF):aVH:=DS (M cs) λj=>an<|(Ae cs j).2.1<j
def R3 {cs:aVF}(h:Fj cs=U) {c:Y}(h0:0<=c) (h1:c<M cs):(Ae cs c).2.1<c:=by
 have:=Dl.1 h c.toNat A0
 grind
def GZ:aVx->aVF->Y->Y->Bool
 |0,_,_,_=>X
 |k+1,cs,o,c=>if c>=0 then (c==o ||GZ k cs o (Ae cs c).2.1) else X
def Fh (cs:aVF) (o c:Y):aVH:=GZ (c.toNat+2) cs o c
def aRp {cs:aVF}{o:Y}(hu:Fj cs=U):∀(k k':aVx) (c:Y),c<M cs->(c+1).toNat<k->(c+1).toNat<k'->GZ k cs o c=GZ k' cs o c
 |0,_,_,_,h,_=>A0
 |_+1,0,_,_,_,h=>A0
 | k+1,k'+1,c,hc,h,h'=>by
  simp only [GZ]
  by_cases h0:c>=0
  ·rw [AD h0,AD h0]
   have:=R3 hu h0 hc
   rw [aRp hu k k' (Ae cs c).2.1 A0 A0 A0]
  ·grind
def aRq {cs:aVF}{o c:Y}(hu:Fj cs=U) (hc:c<M cs):Fh cs o c=if c>=0 then (c==o ||Fh cs o (Ae cs c).2.1) else false:=by
 unfold Fh;rw [GZ]
 by_cases h0:c>=0
 ·rw [AD h0,AD h0]
  have:=R3 hu h0 hc
  rw [aRp hu (c.toNat+1) ((Ae cs c).2.1.toNat+2) (Ae cs c).2.1 A0 A0 A0]
 ·grind
def atB (cs:aVF) (gs:aVA):aVH:=DS (M gs) λj=>an<|(AF gs j).2.1<(M cs:Y)
def iH {cs:aVF}{gs:aVA}(h:atB cs gs=U) {c:Y}(h0:0<=c) (h1:c<M gs):(AF gs c).2.1<(M cs:Y):=by
 have:=Dl.1 h c.toNat A0
 grind
def Cy (cs:aVF) (gs:aVA) (o:Y) (k:aVx):aVw:=((au k).map λj:aVx=>(j:Y)).filter λj=>Fh cs o (AF gs j).2.1
def aFG {cs:aVF}{gs:aVA}{o:Y}{k:aVx}:Cy cs gs o (k+1)=Cy cs gs o k++(if Fh cs o (AF gs k).2.1=U then [(k:Y)] else []):=by
 unfold Cy;rw [Ss,KH,Zp]
 grind
def qE {cs:aVF}{gs:aVA}{o:Y}{k:aVx}:M (Cy cs gs o k)<=k:=by
 unfold Cy
 grind
def DC {cs:aVF}{os:aVz}{ks:aVK}{gs:aVA}{bs:aVL}:B6 cs os ks gs bs=U↔(1<=M cs/\M cs<=16/\M os<=8/\M ks<=32/\M gs<=16/\M bs<=24)/\(Lw cs os ks gs bs).all nameB=U/\once (Lw cs os ks gs bs)=U/\DS (M cs) (λj=>I9 j<|Ae cs j)=U/\ks.all (koV<|M os)=U/\once (ks.map (·.2.2.2))=U/\gs.all (G4 (M cs)<|M os)=U/\bs.all (λb=>inB b.2 0<|(M gs:Y)-1)=true:=by
 unfold B6 MO
 grind
def qW {cs:aVF}{os:aVz}{ks:aVK}{gs:aVA}{bs:aVL}(h:B6 cs os ks gs bs=U) {c:Y}(h0:0<=c) (h1:c<M cs):I9 c (Ae cs c)=true:=by
 have:=Dl.1 (DC.1 h).2.2.2.1 c.toNat A0
 grind
def Nk {cs:aVF}{os:aVz}{ks:aVK}{gs:aVA}{bs:aVL}(h:B6 cs os ks gs bs=U) {c:Y}(h0:0<=c) (h1:c<M gs):G4 (M cs) (M os) (AF gs c)=true:=by
 have:=BH.1 (DC.1 h).2.2.2.2.2.2.1 gs[c.toNat]<|Gf _
 rwa [ahB A0]
def dP {cs:aVF}{os:aVz}{ks:aVK}{gs:aVA}{bs:aVL}(h:B6 cs os ks gs bs=U):Fj cs=true:=
 Dl.2 λj hj=>by
  have:=qW h (c:=j) A0 hj
  unfold I9 at this;rw [AX] at this
  have h1:=this.1
  rw [Ab];split at h1
  ·grind
  ·have:=BS.1 h1;omega
def dQ {cs:aVF}{os:aVz}{ks:aVK}{gs:aVA}{bs:aVL}(h:B6 cs os ks gs bs=U):atB cs gs=true:=
 Dl.2 λj hj=>by
  have:=Nk h (c:=j) A0 hj
  unfold G4 at this;rw [AX] at this
  have:=BS.1 this.1
  rw [Ab];omega
def wy (cs:aVF) (os:aVz) (ks:aVK) (gs:aVA) (bs:aVL) (o:Y):Y:=if B6 cs os ks gs bs=U/\0<=o/\o<M cs then 0 else 1
def Qb (cs:aVF) (os:aVz) (ks:aVK) (gs:aVA) (bs:aVL) (o:Y):aVw:=if B6 cs os ks gs bs=U/\0<=o/\o<M cs then Cy cs gs o (M gs) else []
def bZ (ga ro:Y):aVx->Int
 |0=>0
 |k+1=>if ga*(k+1)*(k+1)<=ro then (k:Y)+1 else bZ ga ro k
def ajE {ga m:Y}(h0:0<=ga) (h1:ga<=1000) (m0:0<=m) (m1:m<=1000):(0<=ga*m/\ga*m<=1000000)/\0<=ga*m*m/\ga*m*m<=1000000000:=by
 have a1:=Lh h1 m0
 have a2:=Iv h0 m0
 have a3:ga*m*m<=1000000*m:=Lh A0 m0
 exact ⟨⟨a2,A0⟩,Iv a2 m0,A0⟩
def aqj {ga a b:Y}(h0:0<=ga) (a0:0<=a) (h:a<=b):ga*a*a<=ga*b*b:=by
 have h1:=QI h h0
 exact Fm (Lh h1 a0)<|QI h<|Iv h0 A0
def aHx {ga ro r:Y}:∀ {k:aVx},0<=r->r<=k->(r=0\/ga*r*r<=ro)->(∀a:Y,r<a->a<=k->¬ga*a*a<=ro)->bZ ga ro k=r
 |0,h0,h1,_,_=>by simp only [bZ];omega
 | k+1,h0,h1,h2,h3=>by
  simp only [bZ]
  by_cases hr:r=(k:Y)+1
  ·subst hr
   omega
  ·rw [AE<|h3 ((k:Y)+1) A0 A0]
   exact aHx h0 A0 h2 λa ha hk=>h3 a ha A0
def prm (ga ro:Y):Y:=bZ ga ro 1000
def pmE (c:Cbl):Y:=if Ir c=U then 0 else 1
def NQ (c:Cbl):Y:=if Ir c=U then (if cbZ c=U then 1000 else prm c.2.2.1 ((if c.2.2.2.2<c.2.2.2.1 then c.2.2.2.2 else c.2.2.2.1)*(c.2.1-c.1))) else 0
def ai8 {c:Cbl}(h:Ir c=U) (hz:cbZ c=X):(0<=c.1/\c.1<c.2.1/\c.2.1<=200000)/\(0<=c.2.2.1/\c.2.2.1<=1000)/\(0<=c.2.2.2.1/\c.2.2.2.1<=1000)/\1<=c.2.2.2.2/\c.2.2.2.2<=1000000:=by
 unfold Ir at h;rw [hz,D5] at h;simp only [AX,Ab,BS] at h;omega
def Jf (f:Y) (l:aVw):Y:=l.foldl (λa n=>if n<a then n else a) f
def Cs (c:Cd):Y:=if c.2.2.2.2.1.1=0 then Jf c.2.2.1 [c.2.2.2.1,NQ c.2.2.2.2.2] else Jf c.2.2.1 [c.2.2.2.1,NQ c.2.2.2.2.2,c.2.2.2.2.1.1]
def arP {c:Cbl}:(pmE c !=0)=!Ir c:=by
 unfold pmE
 grind
abbrev Ec:Ty:=.pair A7<|.sl A7
abbrev Rw:=Int×List Int
def aVT:qT (List Rw):=⟨⟩
def Cm (l:aVT) (n:Y):Rw:=l.getD n.toNat (0,[])
def qQ {l:aVT}{n:Y}(h:n.toNat<M l):Cm l n=l[n.toNat]:=Lz h
def ap6 {l:aVT}{i:Y}(h0:0<=i) (h:i<M l):l.drop i.toNat=Cm l i::l.drop (i+1).toNat/\l.take (i+1).toNat=l.take i.toNat++[Cm l i]:=Qr h0 h
def Ia {l:aVw}{n:Y}(h:n.toNat<M l):gi l n=l[n.toNat]:=Lz h
def usA (ph p:Y):aVH:=Bl J ph (AA<|(1:Y)*2^(min p.toNat 64)) !=0
def Bz (gs:aVA) (p:Y) (l:aVw):aVw:=l.filter λk=>usA (AF gs k).2.2.1 p
def Xs (gs:aVA) (p:Y) (l:aVw):Prop:=0<=p/\M l<=1000/\∀k∈l,0<=k/\k<(M gs:Y)
def aIi {gs:aVA}{p:Y}{l:aVw}:M (Bz gs p l)<=M l:=xo _ _
def dT {cs:aVF}{gs:aVA}{o:Y}{k:aVx}{x:Y}(h:x∈Cy cs gs o k):0<=x/\x<(k:Y):=by
 have:=(Cg.1 h).1
 obtain ⟨j,h1,rfl⟩:=F4.1 this
 have:=Iu.1 h1
 omega
def rowP (cs:aVF) (gs:aVA) (c p:Y):aVT:=if M (Bz gs p<|Cy cs gs c<|M gs)>0 then [(Cs<|Ae cs c,Bz gs p<|Cy cs gs c<|M gs)] else []
def bX (cs:aVF) (gs:aVA) (c:Y):aVT:=rowP cs gs c 0++rowP cs gs c 1++rowP cs gs c 2
def D3 (cs:aVF) (gs:aVA):aVx->List Rw
 |0=>[]
 |k+1=>D3 cs gs k++bX cs gs k
def qa {cs:aVF}{gs:aVA}{c p:Y}:M (rowP cs gs c p)<=1:=by
 unfold rowP
 grind
def aoK {cs:aVF}{gs:aVA}{c:Y}:M (bX cs gs c)<=3:=by
 unfold bX
 have h0:=qa (cs:=cs) (gs:=gs) (c:=c) (p:=0)
 have h1:=qa (cs:=cs) (gs:=gs) (c:=c) (p:=1)
 have h2:=qa (cs:=cs) (gs:=gs) (c:=c) (p:=2)
 simp only [BI];omega
def pj {cs:aVF}{gs:aVA}:∀ {k:aVx},M (D3 cs gs k)<=3*k
 |0=>by simp [D3]
 |k+1=>by
  have:=pj (cs:=cs) (gs:=gs) (k:=k)
  have h2:=aoK (cs:=cs) (gs:=gs) (c:=k)
  simp only [D3,BI];omega
def Od (cs:aVF) (os:aVz) (ks:aVK) (gs:aVA) (bs:aVL):Y:=if B6 cs os ks gs bs=U then 0 else 1
def Jt (cs:aVF) (os:aVz) (ks:aVK) (gs:aVA) (bs:aVL):aVT:=if B6 cs os ks gs bs=U then D3 cs gs (M cs) else []
def I4 (a:Y):aVH:=an (a>=0)&&an (a<=80)
def Ql {a:Y}:I4 a=U↔0<=a/\a<=80:=by simp [I4]
def QB (n i:Y):aVH:=an (0<=i)&&an (i<n)
def pn {n i:Y}:QB n i=U↔0<=i/\i<n:=by simp [QB]
def Gv (l:aVw) (n:Y):aVH:=an ((M l:Y)=n)&&(l.all (QB n)&&once l)
def smA (alive l:aVw):Y:=(l.map λm=>gi alive m).sum
def LA (i:Y) (o:aVD) (l:aVw):aVD:=l.foldl (λo m=>o.modify m.toNat (·++[i])) o
def HV (o:aVD) (i:Y):aVT->List (List Int)
 | []=>o
 |r::rs=>HV (LA i o r.2) (i+1) rs
def HU (alive sm:aVw) (i:Y):aVT->List Int
 | []=>sm
 |r::rs=>HU alive (sm.set i.toNat<|sm.getD i.toNat 0+smA alive r.2) (i+1) rs
def aG7 {alive l:aVw}{m:Y}:smA alive (m::l)=gi alive m+smA alive l:=by simp [smA]
def pT {i m:Y}{o:aVD}{l:aVw}:LA i o (m::l)=LA i (o.modify m.toNat (·++[i])) l:=rfl
def aDh {i:Y}:∀ {l:aVw}{o:aVD},M (LA i o l)=M o
 | [],o=>rfl
 |m::l,o=>by rw [pT,aDh,lg]
def aHw {i:Y}:∀ {l:aVw}{o:aVD}{b:Y},(∀x∈o,(M x:Y)<=b)->∀x∈LA i o l,(M x:Y)<=b+M l
 | [],o,b,h,x,hx=>by have:=h x hx;simp only [Bv];omega
 | m::l,o,b,h,x,hx=>by
  rw [pT] at hx
  have:=aHw (b:=b+1) (λy hy=>by
   obtain ⟨k,hk,rfl⟩:=Hs.1 hy;rw [lg] at hk
   have:=h o[k]<|Gf _
   rw [List.getElem_modify];split
   ·grind
   ·omega) x hx
  simp only [Bk];omega
def aoA {l:aVw}{i:aVx}(h:i<M l):l.set i (l.getD i 0+0)=l:=by
 simp_all
def aeE {l:aVw}{i:aVx}{a b:Y}(h:i<M l):letI c:=l.set i<|l.getD i 0+a;c.set i (c.getD i 0+b)=l.set i (l.getD i 0+(a+b)):=by
 have e:(l.set i<|l.getD i 0+a).getD i 0=l.getD i 0+a:=A8
 rw [e,List.set_set]
 congr 1
 omega
def mx (a b:Y):Y:=if a<b then b else a
def D7 (gs:aVA) (i k:Y):Y:=E9 (AF gs i).2.2.2.1 (AF gs i).2.2.2.2.2.1 k
def Fe (gs:aVA) (i a:Y):Y:=He (AF gs i).2.2.2.1 (AF gs i).2.2.2.2.1 (AF gs i).2.2.2.2.2.1 a
def GC (gs:aVA) (alive:aVw) (i k:Y):Y:=mx (gi alive i) (D7 gs i k)-mx (gi alive i) (D7 gs i<|k-1)
def Ky (rows:aVT) (sm:aVw) (mo r:Y):aVH:=an<|sm.getD r.toNat 0+mo<=(Cm rows r).1
def L3 (sm:aVw) (mo:Y) (l:aVw):aVw:=l.foldl (λsm r=>sm.set r.toNat<|sm.getD r.toNat 0+mo) sm
abbrev Tr:=List Int×List Int×Bool
def G3 (O:aVD) (rows:aVT) (gs:aVA) (alive most:aVw) (level:Y) (t:Tr) (i:Y):Tr:=
 if t.2.1.getD i.toNat 0=level-1/\level<=Fe gs i (gi most i) then
  (if ((O.getD i.toNat []).all<|Ky rows t.1<|GC gs alive i level)=U then (L3 t.1 (GC gs alive i level)<|O.getD i.toNat [],t.2.1.set i.toNat level,U) else t)
 else t
def swp (O:aVD) (rows:aVT) (gs:aVA) (alive most:aVw) (level:Y) (t:Tr) (l:aVw):Tr:=l.foldl (G3 O rows gs alive most level) t
def shl (O:aVD) (rows:aVT) (gs:aVA) (alive most order:aVw):aVx->Y->aVw->aVw->List Int
 |0,_,_,lv=>lv
 |f+1,level,sm,lv=>if (swp O rows gs alive most level (sm,lv,X) order).2.2=U then shl O rows gs alive most order f (level+1) (swp O rows gs alive most level (sm,lv,X) order).1 (swp O rows gs alive most level (sm,lv,X) order).2.1 else (swp O rows gs alive most level (sm,lv,X) order).2.1
def aEG {sm l:aVw}{mo r:Y}:L3 sm mo (r::l)=L3 (sm.set r.toNat<|sm.getD r.toNat 0+mo) mo l:=rfl
def pD {mo:Y}:∀ {l sm:aVw},M (L3 sm mo l)=M sm
 | [],_=>rfl
 |r::l,sm=>by rw [aEG,pD,C4]
def TZ {sm:aVw}{i k:aVx}{v:Y}:(sm.set i v).getD k 0=if i=k/\k<M sm then v else sm.getD k 0:=by
 by_cases h:i=k
 ·subst h
  by_cases h2:i<M sm
  ·simp [h2]
  ·grind
 ·simp [h]
def aEk {mo:Y}:∀ {l sm:aVw}{k:aVx},(∀r∈l,r.toNat≠k)->(L3 sm mo l).getD k 0=sm.getD k 0
 | [],_,_,_=>rfl
 |r::l,sm,k,h=>by
  rw [aEG,aEk λx hx=>h x A8,TZ,AE λe=>h r AI e.1]
def rH {mo:Y}:∀ {l sm:aVw}{k:aVx},l.Nodup->(∀r∈l,0<=r)->k<M sm->(L3 sm mo l).getD k 0=sm.getD k 0+(if (k:Y)∈l then mo else 0)
 | [],sm,k,_,_,_=>by simp [L3]
 | r::l,sm,k,hn,h0,hk=>by
  rw [aEG];obtain ⟨n1,n2⟩:=MX.1 hn
  have hr:=h0 r AI
  by_cases e:r.toNat=k
  ·rw [aEk λx hx e2=>n1 (by
    have:=h0 x A8
    have:r=x:=A0
    rw [this];exact hx),TZ,AD ⟨e,hk⟩,AD A8,e]
  ·rw [rH n2 (λx hx=>h0 x A8) A8,TZ,AE λc=>e c.1]
   have:¬(k:Y)=r:=A0
   simp [this]
def vk {mi ma st a:Y}:He mi ma st a<=80:=by
 have:=aS8 (mi:=mi) (ma:=ma) (st:=st)
 unfold He;split
 ·omega
 ·split
  ·omega
  ·omega
structure OkT (O:aVD) (rows:aVT) (gs:aVA) (alive most order:aVw):Prop where
 ol:M O=16
 ord:∀i∈order,(0<=i/\i<16)/\i<(M gs:Y)/\i<(M alive:Y)/\i<(M most:Y)
 al:∀a∈alive,0<=a/\a<=80
 mo:∀a∈most,0<=a/\a<=80
 has:∀i∈order,Dw (AF gs i).2.2.2.1 (AF gs i).2.2.2.2.1 (AF gs i).2.2.2.2.2.1=U
 row:∀o∈O,o.Nodup/\(M o:Y)<=1000/\∀r∈o,0<=r/\r<(M rows:Y)
 cap:∀r∈rows,r.1<=1000
structure OkS (rows:aVT) (order sm lv:aVw):Prop where
 len:M sm=M rows
 bd:∀k:aVx,0<=sm.getD k 0/\sm.getD k 0<=2000
 C1:∀i∈order,i<(M lv:Y)
 lvb:∀k:aVx,0<=lv.getD k 0/\lv.getD k 0<=80
def ahq {mi st k:Y}(h:1<=mi/\mi<=80/\1<=st/\st<=80) (h0:0<=k) (h1:k<=81):0<=E9 mi st k/\E9 mi st k<=6480:=by
 unfold E9;split
 ·omega
 ·have a1:0<=(k-1)*st:=Iv A0 A0
  have a2:(k-1)*st<=(k-1)*80:=QI A0 A0
  omega
def aGw {mi st j k:Y}(h:1<=mi/\1<=st) (h0:0<=j) (h1:j<=k):E9 mi st j<=E9 mi st k:=by
 unfold E9;split
 ·split
  ·omega
  ·have a1:0<=(k-1)*st:=Iv A0 A0
   omega
 ·rw [AE A0]
  have:(j-1)*st<=(k-1)*st:=Lh A0 A0
  omega
def aSF {gs:aVA}{alive:aVw}{i k:Y}(hh:Dw (AF gs i).2.2.2.1 (AF gs i).2.2.2.2.1 (AF gs i).2.2.2.2.2.1=U) (ha:0<=gi alive i/\gi alive i<=80) (h0:1<=k) (h1:k<=81):0<=GC gs alive i k/\GC gs alive i k<=10000:=by
 obtain ⟨g1,g2,g3,g4,g5⟩:=IU.1 hh
 have b1:=ahq (mi:=(AF gs i).2.2.2.1) (st:=(AF gs i).2.2.2.2.2.1) (k:=k) ⟨g1,A0,g4,g5⟩ A0 h1
 have b3:=aGw (mi:=(AF gs i).2.2.2.1) (st:=(AF gs i).2.2.2.2.2.1) (j:=k-1) (k:=k) ⟨g1,g4⟩ A0 A0
 unfold GC mx D7;omega
def Ki {l:aVw}{i:Y}(h0:0<=i) (h:i<(M l:Y)):gi l i∈l:=by
 rw [Ia A0];exact Gf _
theorem aQV {O:aVD}{rows:aVT}{gs:aVA}{alive most order:aVw}{level:Y}{t:Tr}{i:Y}(hT:OkT O rows gs alive most order) (hS:OkS rows order t.1 t.2.1) (hi:i∈order) (h0:1<=level) (h1:level<=81):letI b:=G3 O rows gs alive most level t i;OkS rows order b.1 b.2.1:=by
 unfold G3;split
 ·split
  ·rename_i hc hf
   obtain ⟨⟨o0,o1⟩,o2,o3,o4⟩:=hT.ord i hi
   have hl80:=vk (mi:=(AF gs i).2.2.2.1) (ma:=(AF gs i).2.2.2.2.1) (st:=(AF gs i).2.2.2.2.2.1) (a:=gi most i)
   have hl81:=hc.2
   unfold Fe at hl81
   have hm:=aSF (gs:=gs) (alive:=alive) (k:=level) (hT.has i hi) (hT.al _<|Ki o0 o3) h0 h1
   have ho:O.getD i.toNat []∈O:=by
    have hl:=hT.ol
    grind
   obtain ⟨r1,r2,r3⟩:=hT.row _ ho
   refine ⟨by simp only;rw [pD];exact hS.len,λk=>?_,λj hj=>by simp only [C4];exact hS.C1 j hj,λk=>by
    have:=hS.lvb k
    rw [TZ];split<;>omega⟩
   by_cases hk:k<M t.1
   ·rw [rH r1 (λr hr=>(r3 r hr).1) hk]
    have hb:=hS.bd k
    split
    ·rename_i hkm
     have hfit:=BH.1 hf _ hkm
     unfold Ky at hfit;rw [Ab,C0] at hfit
     have hk2:=hS.len
     have:=hT.cap (Cm rows (k:Y)) yc
     omega
    ·omega
   ·rw [DA,Sw (by rw [pD];omega)]
    simp
  ·exact hS
 ·exact hS
def tt {O:aVD}{rows:aVT}{gs:aVA}{alive most order:aVw}{level:Y}(hT:OkT O rows gs alive most order) (h0:1<=level) (h1:level<=81):∀(l:aVw) (t:Tr),(∀i∈l,i∈order)->OkS rows order t.1 t.2.1->OkS rows order (swp O rows gs alive most level t l).1 (swp O rows gs alive most level t l).2.1
 | [],t,_,h=>h
 |i::l,t,hl,h=>tt hT h0 h1 l _ (λj hj=>hl j A8)<|aQV hT h (hl i AI) h0 h1
def pq {O:aVD}{rows:aVT}{gs:aVA}{alive most:aVw}{level:Y}:∀(l:aVw) (t:Tr),(swp O rows gs alive most level t l).2.2=U->t.2.2=U\/level<=80
 | [],t,h=> .inl h
 | i::l,t,h=>by
  rcases pq l _ h with h2|h2
  ·unfold G3 at h2
   split at h2
   ·rename_i hc
    have:=vk (mi:=(AF gs i).2.2.2.1) (ma:=(AF gs i).2.2.2.2.1) (st:=(AF gs i).2.2.2.2.2.1) (a:=gi most i)
    have h3:=hc.2
    unfold Fe at h3;omega
   ·grind
  ·grind
def aeY {O:aVD}{rows:aVT}{gs:aVA}{alive most:aVw}{level:Y}{t:Tr}{i:Y}:M (G3 O rows gs alive most level t i).2.1=M t.2.1:=by
 unfold G3;split
 ·split
  ·grind
  ·rfl
 ·rfl
def aES {O:aVD}{rows:aVT}{gs:aVA}{alive most:aVw}{level:Y}:∀(l:aVw) (t:Tr),M (swp O rows gs alive most level t l).2.1=M t.2.1
 | [],t=>rfl
 |i::l,t=>(aES l _).trans aeY
def aPw {O:aVD}{rows:aVT}{gs:aVA}{alive most order:aVw}(hT:OkT O rows gs alive most order):∀(f:aVx) (level:Y) (sm lv:aVw),1<=level->level<=81->OkS rows order sm lv->M (shl O rows gs alive most order f level sm lv)=M lv/\∀k:aVx,0<=(shl O rows gs alive most order f level sm lv).getD k 0/\(shl O rows gs alive most order f level sm lv).getD k 0<=80
 |0,_,_,lv,_,_,h=>⟨rfl,h.lvb⟩
 | f+1,level,sm,lv,h0,h1,h=>by
  have hk:=tt hT h0 h1 order (sm,lv,X) (λ_ h=>h) h
  have hl:=aES (O:=O) (rows:=rows) (gs:=gs) (alive:=alive) (most:=most) (level:=level) order (sm,lv,X)
  have hs:=pq (O:=O) (rows:=rows) (gs:=gs) (alive:=alive) (most:=most) (level:=level) order (sm,lv,X)
  rw [shl];split
  ·rename_i hc
   have h80:level<=80:=by
    rcases hs hc with h|h
    ·cases h
    ·exact h
   obtain ⟨g1,g2⟩:=aPw hT f (level+1) _ _ A0 A0 hk
   grind
  ·exact ⟨hl,hk.lvb⟩
def KD (i:Y):aVT->Y->List Int
 | [],_=>[]
 |r::rs,j=>(if r.2.contains j then [i] else [])++KD (i+1) rs j
def ae8 {o:aVD}{f:aVw->aVw}{j k:aVx}(h:k<M o):(o.modify j f).getD k []=if j=k then f (o.getD k []) else o.getD k []:=by
 grind
def aFo {i:Y}:∀ {l:aVw}{o:aVD}{k:aVx},l.Nodup->(∀m∈l,0<=m)->k<M o->(LA i o l).getD k []=o.getD k []++(if l.contains (k:Y) then [i] else [])
 | [],o,k,_,_,_=>by simp [LA]
 | m::l,o,k,hn,h0,hk=>by
  obtain ⟨n1,n2⟩:=MX.1 hn
  have hm:=h0 m AI
  rw [pT,aFo n2 (λx hx=>h0 x A8) A8,ae8 hk]
  by_cases e:m.toNat=k
  ·have e2:(k:Y)=m:=A0
   grind
  ·rw [AE e]
   have:¬(k:Y)=m:=A0
   simp [this]
def aBF (r:Rw):Prop:=r.2.Nodup/\∀m∈r.2,0<=m
def aER:∀ {rs:aVT}{o:aVD}{i:Y},M (HV o i rs)=M o
 | [],_,_=>rfl
 |r::rs,o,i=>by rw [HV,aER,aDh]
def aHm:∀ {rs:aVT}{o:aVD}{i:Y}{k:aVx},(∀r∈rs,aBF r)->k<M o->(HV o i rs).getD k []=o.getD k []++KD i rs k
 | [],o,i,k,_,_=>by simp [HV,KD]
 |r::rs,o,i,k,h,hk=>by
  obtain ⟨h1,h2⟩:=h r AI;rw [HV,aHm (λx hx=>h x A8) (by rw [aDh];exact hk),aFo h1 h2 hk,KD,Cx]
def Te:∀ {rs:aVT}{i j x:Y},x∈KD i rs j↔i<=x/\x<i+M rs/\(Cm rs<|x-i).2.contains j=U
 | [],i,j,x=>by simp [KD];omega
 | r ::rs,i,j,x=>by
  rw [KD,BZ,Te]
  by_cases e:x=i
  ·subst e
   have g0:Cm (r::rs) (x-x)=r:=by simp [Cm]
   rw [g0]
   constructor
   ·rintro (h|h)
    ·split at h
     ·rename_i hc
      grind
     ·cases h
    ·omega
   ·rintro ⟨_,_,h⟩
    rw [AD h]
    simp
  ·have hn:¬x∈(if r.2.contains j then [i] else []):=by
    split
    ·grind
    ·simp
   simp only [Bk]
   constructor
   ·rintro (h|⟨h1,h2,h3⟩)
    ·grind
    ·refine ⟨A0,A0,?_⟩
     exact aMW
   ·rintro ⟨h1,h2,h3⟩
    refine .inr ⟨A0,A0,?_⟩;exact aMW
def pU:∀ {rs:aVT}{i j:Y},(KD i rs j).Nodup
 | [],_,_=>List.nodup_nil
 | r::rs,i,j=>by
  rw [KD];split
  ·rw [xn,MX]
   refine ⟨λh=>?_,pU⟩
   have:=(Te.1 h).1
   omega
  ·rw [ES];exact pU
def aID:∀ {rs:aVT}{i j:Y},M (KD i rs j)<=M rs
 | [],_,_=>Aq _
 |r::rs,i,j=>by
  have:=aID (rs:=rs) (i:=i+1) (j:=j)
  rw [KD]
  grind
def aEQ {alive:aVw}:∀ {rs:aVT}{sm:aVw}{i:Y},M (HU alive sm i rs)=M sm
 | [],_,_=>rfl
 |r::rs,sm,i=>by rw [HU,aEQ,C4]
def aHl {alive:aVw}:∀ {rs:aVT}{sm:aVw}{i:Y}{k:aVx},0<=i->k<M sm->(HU alive sm i rs).getD k 0=sm.getD k 0+(if i<=(k:Y)/\(k:Y)<i+M rs then smA alive (Cm rs<|(k:Y)-i).2 else 0)
 | [],sm,i,k,_,_=>by
  rw [AE AI]
  simp [HU]
 | r ::rs,sm,i,k,hi,hk=>by
  rw [HU,aHl A0 A8,TZ]
  by_cases e:i.toNat=k
  ·have e2:(k:Y)=i:=A0
   rw [AD ⟨e,hk⟩,AE A0,AD A8,e,e2]
   have:Cm (r::rs) (i-i)=r:=by simp [Cm]
   rw [this];omega
  ·rw [AE λc=>e c.1]
   by_cases c:i+1<=(k:Y)/\(k:Y)<i+1+M rs
   ·rw [AD c,AD A8]
    have:Cm (r::rs) ((k:Y)-i)=Cm rs ((k:Y)-(i+1)):=by
     unfold Cm;rw [show ((k:Y)-i).toNat=((k:Y)-(i+1)).toNat+1 by omega]
     simp
    rw [this]
   ·grind
def aPu {alive:aVw}(ha:∀a∈alive,0<=a/\a<=80):∀ {l:aVw},(∀m∈l,0<=m/\m<(M alive:Y))->0<=smA alive l/\smA alive l<=80*M l
 | [],_=>by simp [smA]
 |m::l,h=>by
  have h1:=aPu ha (l:=l) λx hx=>h x A8
  have hm:=h m AI
  have:=ha (gi alive m)<|Ki hm.1 hm.2
  rw [aG7];simp only [Bk];omega
def adL {α:Type}{l:List α}(p:α->aVH) (h:l.Nodup):(l.filter p).Nodup:=List.Pairwise.filter p h
def af5 {cs:aVF}{gs:aVA}{o:Y}{k:aVx}:(Cy cs gs o k).Nodup:=by
 refine adL _ ?_;exact xd _ (λa b h=>A0) mM
def aue {gs:aVA}{p k:Y}{l:aVw}:k∈Bz gs p l↔k∈l/\usA (AF gs k).2.2.1 p=true:=by simp [Bz,Cg]
def adb {cs:aVF}{gs:aVA}{c p:Y}{r:Rw}(h:r∈rowP cs gs c p):r=(Cs<|Ae cs c,Bz gs p<|Cy cs gs c<|M gs)/\M (Bz gs p<|Cy cs gs c<|M gs)>0:=by
 unfold rowP at h;exact ml
def qb {cs:aVF}{gs:aVA}{r:Rw}:∀ {k:aVx},r∈D3 cs gs k->∃c p:Y,(0<=c/\c<(k:Y))/\(p=0\/p=1\/p=2)/\r=(Cs<|Ae cs c,Bz gs p<|Cy cs gs c<|M gs)/\M r.2>0
 |0,h=>Ar
 | k+1,h=>by
  rw [D3,BZ] at h;rcases h with h|h
  ·obtain ⟨c,p,h1,h2,h3⟩:=qb h
   grind
  ·unfold bX at h
   rw [BZ,BZ] at h;rcases h with (h|h) |h
   ·exact yV
   ·exact yV
   ·exact yV
def row_mem {cs:aVF}{gs:aVA}{r:Rw}{k:aVx}(h:r∈D3 cs gs k):r.2.Nodup/\(∀m∈r.2,0<=m/\m<(M gs:Y))/\M r.2<=M gs/\M r.2>0:=by
 obtain ⟨c,p,h1,h2,h3,h4⟩:=qb h;subst h3;refine ⟨adL _ af5,λm hm=>dT (aue.1 hm).1,Hr aIi qE,h4⟩
def FY (gs:aVA) (lv:aVw):aVw:=(au<|M gs).map λk:aVx=>D7 gs (k:Y)<|lv.getD k 0
def OL (rows:aVT):aVD:=HV (aq 16 []) 0 rows
def SM (alive:aVw) (rows:aVT):aVw:=HU alive (aq (M rows) 0) 0 rows
def Fz (cs:aVF) (os:aVz) (ks:aVK) (gs:aVA) (bs:aVL) (al mo od:aVw):aVH:=B6 cs os ks gs bs&&(an (M al=M gs)&&(an (M mo=M gs)&&(al.all I4&&(mo.all I4&&Gv od (M gs)))))
def shV (rows:aVT) (gs:aVA) (al mo od:aVw):aVw:=shl (OL rows) rows gs al mo od 81 1 (SM al rows)<|aq (M al) 0
def shE (cs:aVF) (os:aVz) (ks:aVK) (gs:aVA) (bs:aVL) (al mo od:aVw):Y:=if Fz cs os ks gs bs al mo od=U then 0 else 1
def Fc (cs:aVF) (os:aVz) (ks:aVK) (gs:aVA) (bs:aVL) (al mo od:aVw):aVw:=if Fz cs os ks gs bs al mo od=U then FY gs (shV (D3 cs gs<|M cs) gs al mo od) else []
def Lp {cs:aVF}{os:aVz}{ks:aVK}{gs:aVA}{bs:aVL}{al mo od:aVw}:Fz cs os ks gs bs al mo od=U↔B6 cs os ks gs bs=U/\M al=M gs/\M mo=M gs/\al.all I4=U/\mo.all I4=U/\Gv od (M gs)=true:=by
 simp [Fz]
def aSA:∀ {l:aVw}{f:Y},Jf f l<=f
 | [],f=>Cj _
 |n::l,f=>by
  have:Jf f (n::l)=Jf (if n<f then n else f) l:=rfl
  have:=aSA (l:=l) (f:=if n<f then n else f)
  split at this<;>rename_i h
  ·grind
  ·grind
def asX {c:Cd}:Cs c<=c.2.2.1:=by
 unfold Cs;split<;>exact aSA
def aFQ {rows:aVT}:M (OL rows)=16:=by rw [OL,aER,Ci]
def vu {rows:aVT}(h:∀r∈rows,aBF r) {k:aVx}(hk:k<16):(OL rows).getD k []=KD 0 rows k:=by
 rw [OL,aHm h A8]
 have:(aq 16 ([]:aVw)).getD k []=[]:=by
  grind
 grind
def arG {cs:aVF}{gs:aVA}{k:aVx}:∀r∈D3 cs gs k,aBF r:=λr hr=>⟨(row_mem hr).1,λm hm=>((row_mem hr).2.1 m hm).1⟩
def aEH {al:aVw}{rows:aVT}:M (SM al rows)=M rows:=by rw [SM,aEQ,Ci]
def aUG {al:aVw}{rows:aVT}{k:aVx}(hk:k<M rows):(SM al rows).getD k 0=smA al (Cm rows k).2:=by
 rw [SM,aHl (Cj _) A8,AD A0,QN]
 grind
def aE5 {od:aVw}{n i:Y}(h:Gv od n=U) (hi:i∈od):0<=i/\i<n:=by
 unfold Gv at h;simp only [AX,BH] at h;exact pn.1<|h.2.1 i hi
def alN {cs:aVF}{os:aVz}{ks:aVK}{gs:aVA}{bs:aVL}{al mo od:aVw}(h:Fz cs os ks gs bs al mo od=U):letI b:=D3 cs gs<|M cs;OkT (OL b) b gs al mo od/\OkS b od (SM al b) (aq (M al) 0):=by
 obtain ⟨hv,h1,h2,h3,h4,h5⟩:=Lp.1 h
 have hl:=(DC.1 hv).1
 have ha:∀a∈al,0<=a/\a<=80:=λa ha=>Ql.1<|BH.1 h3 a ha
 refine ⟨⟨aFQ,λi hi=>?_,ha,λa ha=>Ql.1<|BH.1 h4 a ha,λi hi=>?_,λo ho=>?_,λr hr=>?_⟩,⟨aEH,λk=>?_,λi hi=>?_,λk=>?_⟩⟩
 ·have:=aE5 h5 hi
  omega
 ·have hi:=aE5 h5 hi
  have:=Nk hv hi.1 hi.2
  exact aNl
 ·obtain ⟨k,hk,rfl⟩:=Hs.1 ho
  rw [aFQ] at hk
  have e:=vu (rows:=D3 cs gs<|M cs) arG hk
  rw [DA,Dh A8,mL] at e;rw [e]
  have hln:=aID (rs:=D3 cs gs<|M cs) (i:=0) (j:=k)
  have hrn:=pj (cs:=cs) (gs:=gs) (k:=M cs)
  refine ⟨pU,A0,λr hr=>?_⟩
  have:=Te.1 hr
  omega
 ·obtain ⟨c,p,hc,hp,rfl,_⟩:=qb hr
  have hcv:=qW hv hc.1 hc.2
  unfold I9 at hcv;simp only [AX,BS] at hcv
  have:=asX (c:=Ae cs c)
  simp only;omega
 ·by_cases hk:k<M (D3 cs gs<|M cs)
  ·rw [aUG hk]
   have hr:Cm (D3 cs gs<|M cs) (k:Y)∈D3 cs gs (M cs):=by rw [qQ yu];exact Gf _
   obtain ⟨m1,m2,m3,_⟩:=row_mem hr
   have:=aPu ha (l:=(Cm (D3 cs gs<|M cs) (k:Y)).2) λm hm=>A8
   omega
  ·rw [DA,Sw (by rw [aEH];omega)]
   simp
 ·have:=aE5 h5 hi
  rw [Ci];omega
 ·have:(aq (M al) (0:Y)).getD k 0=0:=by
   simp only [List.getD,QM];split<;>rfl
  omega
def aIN {xs:aVw}{r:aVx}{v:Y}:(xs++aq (r+1) 0).set (M xs) v=xs++[v]++aq r 0:=by
 grind
def Sh (gs:aVA) (lv:aVw) (n:aVx):aVw:=(au n).map λk:aVx=>D7 gs (k:Y)<|lv.getD k 0
def afx {gs:aVA}{lv:aVw}{n:aVx}:Sh gs lv (n+1)=Sh gs lv n++[D7 gs (n:Y)<|lv.getD n 0]:=by
 simp [Sh,Ss]
def acz {gs:aVA}{lv:aVw}{n:aVx}:M (Sh gs lv n)=n:=by simp [Sh]
def ntW {b:aVH}(h:(!b)=U):b=false:=A8
def nfW {b:aVH}(h:(!b)=X):b=true:=A8
def wt (n:Y):Y:=(n*1000000+999799) / 999800
def wtA (n:Y):Y:=if inB n 0 1000000=U then wt n else 0
def wtE (n:Y):Y:=if inB n 0 1000000=U then 0 else 1
def aL9 {m n:Y}:m*999800 / 1000000>=n↔wt n<=m:=by
 unfold wt;omega
def anz {a b:Y}(a0:0<=a) (a1:a<=3000000) (b0:0<=b) (b1:b<=1000000):0<=a*b/\a*b<=3000000000000:=
 ⟨Iv a0 b0,Fm (QI b1 a0) A0⟩
def aVf {n:Y}(h0:0<=n):0<=wt n/\wt n<=2*n+2:=by
 unfold wt;omega
abbrev AQ:Ty:=.pair A7<|.pair A7<|.pair A7<|.pair A7 A7
abbrev Le:=Int×Int×Int×Int×Int
def aVG:qT (List Le):=⟨⟩
instance:Coe (List Le) LV:=⟨.xl AQ⟩
def Ao (l:aVG) (n:Y):Le:=l.getD n.toNat (0,0,0,0,0)
def DM (x:Le):aVH:=inB x.1 1 1000000&&(inB x.2.1 0 15&&(inB x.2.2.1 0 80&&(inB x.2.2.2.1 0 1000000&&inB x.2.2.2.2 1 1000)))
def K9 (b x:Le):aVH:=an (x.1>b.1)&&an (x.2.2.2.1>=b.2.2.2.1)
def H5 (l:aVG) (j:Y):aVH:=DM (Ao l j)&&(an (j=0) ||K9 (Ao l<|j-1) (Ao l j))
def B0 (l:aVG):aVH:=an (M l<=64)&&DS (M l) (H5 l)
def Mw {l:aVG}{n:Y}(h:n.toNat<M l):Ao l n=l[n.toNat]:=Lz h
def WX {l:aVG}{i:Y}(h0:0<=i) (h:i<M l):l.drop i.toNat=Ao l i::l.drop (i+1).toNat/\l.take (i+1).toNat=l.take i.toNat++[Ao l i]:=Qr h0 h
def Lt {l:aVG}{i:Y}(h0:0<=i) (h:i<M l):Ao l i∈l:=by
 rw [Mw A0]
 grind
def KY {x:Le}:DM x=U↔(1<=x.1/\x.1<=1000000)/\(0<=x.2.1/\x.2.1<=15)/\(0<=x.2.2.1/\x.2.2.1<=80)/\(0<=x.2.2.2.1/\x.2.2.2.1<=1000000)/\1<=x.2.2.2.2/\x.2.2.2.2<=1000:=by
 unfold DM;simp only [AX,BS]
def GK {l:aVG}(h:B0 l=U):M l<=64/\∀x∈l,DM x=true:=by
 unfold B0 at h;rw [AX] at h;refine ⟨DH h.1,λx hx=>?_⟩
 obtain ⟨k,hk,rfl⟩:=Hs.1 hx
 have:=Dl.1 h.2 k A0
 unfold H5 at this;rw [AX,Mw A8] at this
 grind
def DF (x:Le):Y:=x.2.2.2.1+10+wt x.2.2.2.2
def LF (t:Y) (x:Le):aVH:=an<|DF x>t
def Kz (l:aVG) (t:Y):aVH:=B0 l&&inB t 0 1100000
def BW (l:aVG) (t:Y):aVG:=if Kz l t=U then l.filter (LF t) else []
def DQ (l:aVG) (t:Y):Y:=if Kz l t=U then 0 else 1
def FZ (l:aVG) (x:Le):Y:=if (B0 l&&DM x)=U then (if (an (M l>0)&&!K9 (Ao l<|(M l:Y)-1) x)=U then 12 else if M l=64 then 10 else 0) else 1
def GM (l:aVG) (x:Le):aVG:=if FZ l x=0 then l++[x] else []
end Go.Proofs.YtjdlmobanmhohaaGreatDoor
namespace Go.Sx
open Go.Proofs.YtjdlmobanmhohaaGreatDoor
variable {P : Program} {G : B3} {Γ : Specs} {σ : Type}
structure CpD (σ:Type) where
 A:σ->List LV
 B:σ->List AB
 g:aVy->aVB->σ
 E:σ->Prop
 mu:σ->Nat
 r:σ->σ
namespace CpD
variable (D : CpD σ)
def m (n:aVx) (args:aVy) (H:aVB):T (LV×List AB):=(VT H args).bind λa=>(bq H H).bind λb=>
 .req (D.E (D.g a b)/\D.mu (D.g a b)<n/\D.A (D.g a b)=a/\D.B (D.g a b)=b) (.ok (.v<|.tuple #[],D.B<|D.r<|D.g a b))
variable {D}
def gK {n:aVx}{args:aVy}{H:aVB}{q:LV×List AB}(h:(D.m n args H).all λz=>z=q):∃s,D.E s/\D.mu s<n/\D.A s=args/\D.B s=H/\q=(.v<|.tuple #[],D.B<|D.r s):=by
 unfold m at h;obtain ⟨a,h1,h2⟩:=T.B5 h;obtain ⟨b,h3,h4⟩:=T.B5 h2
 have e1:=di h1
 have e2:=fQ h3
 obtain ⟨⟨g1,g2,g3,g4⟩,g5⟩:=h4;exact ⟨_,g1,g2,g3.trans e1,g4.trans e2,g5.symm⟩
def one (c:aVY) (m:aVy->aVB->T (LV×List AB)):Does:=λg=>if g=c then ah m else aj
def Wu {c:aVY}{m:aVy->aVB->T (LV×List AB)}(h:Dp P G c m):∀g m',one c m g=ah m'->Dp P G g m':=λg m' e=>by
 unfold one at e;split at e
 ·rename_i q
  subst q;cases e;exact h
 ·cases e
def sound {LL:DU}{c:aVY}{d:aVx}(hΓ:∀g S,Γ g=ah S->Valid P G g S) (hLL:EZ P G LL)
  (hstep:∀(n:aVx) (s:σ),D.E s->D.mu s<=n->Sp (λq=>q=(.v<|.tuple #[],D.B<|D.r s)) ((El P G Γ LL<|VR P G Γ LL (one c<|D.m n) d).k c (D.A s)<|D.B s)):∀n,Dp P G c (D.m n)
 |0=>λw0 Z0 Z β H w args vals lv H' hW hr hok hq=>by
  obtain ⟨s,_,h,_⟩:=gK hq;exact absurd h (Nat.not_lt_zero _)
 |n+1=>Dp.walk hΓ hLL (aDr hΓ hLL (Wu<|sound hΓ hLL hstep n) d) λargs H lv H' hq=>by
  obtain ⟨s,h1,h2,h3,h4,h5⟩:=gK hq;rw [<-h3,<-h4,h5];exact (hstep n s h1<|Nat.le_of_lt_succ h2).out
end CpD
end Go.Sx
namespace Go.Sx
open Go Go.RowKit Go.Proofs.YtjdlmobanmhohaaGreatDoor
variable {P : Program} {G : B3} {Γ : Specs} {σ τ : Type}
def RC (ks:aVC) (H:aVB):aVB:=ks.foldl (λH k=>H.set k ⟨[],0,.dead,X⟩) H
def ae1 (ks:aVC):∀(H:aVB),M (RC ks H)=M H:=by
 induction ks with
 |nil=>intro H;rfl
 |cons k ks ih=>intro H;simp only [RC,KI] at ih|-;rw [ih];simp
def RW.kills {w0 w:aVJ}{Z0:Gz}{Z:aVx->Prop}{β:aVx->aWe}(ks:aVC):∀ {H:aVB},RW G w0 Z0 Z β H w->RW G w0 Z0 Z β (RC ks H) w:=by
 induction ks with
 |nil=>intro H h;exact h
 |cons k ks ih=>intro H h;simp only [RC,KI] at ih|-;exact ih<|h.kill k 0
structure D8 (σ τ:Type) where
 A:σ->List LV
 B:σ->List AB
 g:aVy->aVB->σ
 E:σ->Prop
 kl:aVC
 us:aWz
 V:τ->LV
 C:τ->List AB
 r:σ->τ
namespace D8
variable {D : D8 σ τ}
def m (D:D8 σ τ) (args:aVy) (H:aVB):T (LV×List AB):=(VT (RC D.kl H) args).bind λa=>(bq (RC D.kl H)<|RC D.kl H).bind λb=>
 .req (D.E (D.g a b)/\D.A (D.g a b)=a/\D.B (D.g a b)=b) (.ok (D.V<|D.r<|D.g a b,D.C<|D.r<|D.g a b))
def gK {args:aVy}{H:aVB}{q:LV×List AB}(h:(D.m args H).all λz=>z=q):∃s,D.E s/\D.A s=args/\D.B s=RC D.kl H/\q=(D.V<|D.r s,D.C<|D.r s):=by
 obtain ⟨a,h1,h2⟩:=T.B5 h;obtain ⟨b,h3,h4⟩:=T.B5 h2
 have e1:=di h1
 have e2:=fQ h3
 obtain ⟨⟨g1,g3,g4⟩,g5⟩:=h4;exact ⟨_,g1,g3.trans e1,g4.trans e2,g5.symm⟩
def sound {LL:DU}{K:aWq}{c:aVY}{t:σ->T τ}(hΓ:∀g S,Γ g=ah S->Valid P G g S) (hLL:EZ P G LL) (hK:FU P G K)
  (hnf:∀s,((El P G Γ LL K).k c (D.A s)<|D.B s).bind (λq=>GO (M<|D.B s) [0] D.us .normal (q.1::D.A s) q.2)=(t s).mp (λs2=>⟨.normal,M (D.A s)+1,[D.V s2],D.C s2,U⟩))
  (ht:∀s,D.E s->Sp (λs2=>s2=D.r s) (t s)):Dp P G c D.m:=λw0 Z0 Z β H w args vals lv H' hW hr hok hq=>by
 obtain ⟨s,h1,h2,h3,h4⟩:=gK hq;simp only [Az] at h4;obtain ⟨rfl,rfl⟩:=h4
 have hall:((t s).mp λs2=>(⟨.normal,M (D.A s)+1,[D.V s2],D.C s2,U⟩:Vw)).all (λz=>z=⟨.normal,M (D.A s)+1,[D.V<|D.r s],D.C<|D.r s,U⟩):=T.XU<|T.Bb (λx hx=>by rw [hx]) (ht s h1).out
 rw [<-hnf s] at hall;obtain ⟨⟨lv1,H1⟩,q1,q2⟩:=T.B5 hall;simp only at q2
 have hWk:RW G w0 Z0 Z β (D.B s) w:=by rw [h3];exact hW.kills D.kl
 have hlen:M (D.B s)=M H:=by rw [h3,ae1]
 have hsz:vals.size=M args:=by have:=hr.length;simpa using this
 let a0:aVX:={tmps:=vals,defers:=[]}
 have hF0:RF [] β Z w (M<|D.B s) args a0:=by
  refine ⟨hsz,λt x hx=>?_,rfl,λd hd=>Vz⟩
  obtain ⟨y,e1,e2⟩:=RL.get t x hr hx
  have:vals.getD t undef=y:=by
   have e3:t<vals.size:=A8
   have e4:vals[t]? =ah y:=by simpa using e1
   rw [QK e3] at e4
   simp [Array.getD,e3,ED e4]
  refine ⟨?_,by rw [hlen];exact AT.get t x hok hx⟩
  show R β Z w x (vals.getD t undef)
  rw [this];exact e2
 rw [h2] at q1;refine ((p7 hΓ hLL hK).k w0 _ Z β (D.B s) w c args vals lv1 H1 (hWk.hold hF0) hr (by rw [hlen];exact hok) q1).mono λe w' ⟨v,he,Z',β',r1,r2,r3⟩=>⟨v,he,?_⟩
 have hF1:=RW.held hF0 r1
 have hF2:RF [] β' Z' w' (M H1) (lv1::D.A s) {tmps:=#[v]++vals,defers:=[]}:=by
  refine ⟨by simp [h2,hsz];omega,λt x hx=>?_,rfl,λd hd=>Vz⟩
  cases t with
  | zero=>
   simp only [List.getElem?_cons_zero,Ah] at hx;subst hx
   exact ⟨by
    have e:(#[v]++vals).getD 0 undef=v:=aOJ
    rw [e];exact r2,r3⟩
  | succ t=>
   rw [h2] at hx
   have:=hF1.get t x hx
   have e:(#[v]++vals).getD (t+1) undef=vals.getD t undef:=by
    have ht:t<vals.size:=A8
    simp [Array.getD,ht,Array.getElem_append,show t+1<1+vals.size by omega]
   grind
 have hgh:AN (M<|D.B s) Z0:=λp hp=>by rw [hlen];exact (hW.gh p hp).2
 obtain ⟨_,_,Z2,β2,k1,k2⟩:=ck hgh r1.less hF2 q2 rfl;refine ⟨Z2,β2,k1,?_⟩
 have hx:(I0 (M (lv1::D.A s)) [0] [D.V<|D.r s])[0]? =ah (D.V<|D.r s):=by
  simp [I0,Qs,at_]
 have:=k2.get 0 _ hx
 have e:(#[v]++vals).getD 0 undef=v:=aOJ
 refine ⟨?_,this.2⟩
 have h5:=this.1
 rwa [e] at h5
end D8
def ER (n m:aVx):aVC:=(au n).map (·+m)++au m
def axv {n m i:aVx}(h:i<n):(ER n m)[i]? =ah (i+m):=by
 unfold ER;rw [Ho A8]
 simp [h]
def axw {n m i:aVx}(h:i<m):(ER n m)[n+i]? =ah i:=by
 unfold ER
 simp [h]
def aIM {n m:aVx}:M (ER n m)=n+m:=by simp [ER]
def eU {n m k:aVx}:k∈ER n m↔k<n+m:=by
 unfold ER;simp only [BZ,F4,Iu];refine ⟨λh=>?_,λh=>?_⟩
 ·omega
 ·by_cases h1:k<m
  ·grind
  ·exact .inl ⟨k-m,A0,A0⟩
def aF6:∀ {ks:aVC},ks.Nodup->nodupB ks=U
 | [],_=>rfl
 |k::ks,h=>by
  obtain ⟨h1,h2⟩:=MX.1 h;simp only [nodupB,AX,DB];exact ⟨A8,aF6 h2⟩
def afV {n m:aVx}:nodupB (ER n m)=true:=by
 apply aF6
 unfold ER;rw [xb];refine ⟨?_,mM,λx hx y hy e=>?_⟩
 ·exact xd _ (λa b (h:a≠b) e=>h A8)<|mM (n:=n)
 ·obtain ⟨j,_,rfl⟩:=F4.1 hx
  have:=Iu.1 hy
  omega
def RW.join {w0 w w':aVJ}{Z0:Gz}{Z Z':aVx->Prop}{β β':aVx->aWe}{H Hn:aVB}(hW:RW G w0 Z0 Z β H w) (hS:RW G w ⟨Z,[],[]⟩ Z' β' Hn w'):
  ∃β2,(∀k,k<M H->β2 k=β k)/\(∃β1,(∀k,k<M Hn->β1 k=β' k)/\Rn (ER (M H)<|M Hn) β1 β2)/\RW G w0 Z0 (λb=>Z b\/Z' b) β2 (H++Hn.map (Ij<|ER (M H)<|M Hn)) w':=by
 generalize hn:M H=n;generalize hm:M Hn=m
 let β1:aVx->aWe:=λk=>if k<m then β' k else β (k-m)
 have hb1:∀k,k<m->β1 k=β' k:=λk hk=>by simp only [β1];rw [AD hk]
 have hb1':∀k,β1 (k+m)=β k:=λk=>A8
 have hD:RW G w ⟨Z,[],[]⟩ Z' β1 (Hn++aq n GJ) w':=hS.acA λk hk=>hb1 k<|hm▸hk
 have hget:∀k,k<m->(Hn++aq n GJ)[k]? =Hn[k]? :=λk hk=>Ho<|hm▸hk
 have hgetd:∀k,m<=k->k<n+m->(Hn++aq n GJ)[k]? =ah GJ:=λk h1 h2=>by
  grind
 have hcl:KZ (Hn++aq n GJ) (ER n m) []=true:=by
  unfold KZ;simp only [AX,BH];refine ⟨λx hx=>by simp [ownsL] at hx,λk hk=>?_⟩
  have hk:=eU.1 hk
  by_cases h1:k<m
  ·rw [hget k h1]
   obtain ⟨b,hb⟩:∃b,Hn[k]? =ah b:=⟨_,Dh<|hm▸h1⟩;rw [hb];simp only [BH];intro j hj
   have:=aFu (hS.blk k b hb).2 j hj
   rw [Zv,eU];omega
  ·rw [hgetd k A0 hk]
   simp [GJ,AB.owns,ownsL]
 obtain ⟨β2,r1,r2⟩:=hD.ren (N:=0) (Z0:=⟨Z,[],[]⟩) (λp hp=>na) hcl afV Mc
 have hag:∀k,k<n->β2 k=β k:=λk hk=>by rw [r1 k (k+m)<|axv hk,hb1']
 have hnew:∀i,i<m->((ER n m).map λk=>Ij (ER n m)<|(Hn++aq n GJ).getD k Uu)[n+i]? =(Hn[i]?).map (Ij<|ER n m):=λi hi=>by
  rw [Dj,axw hi];simp only [Jk,DA,hget i hi];rw [Dh<|hm▸hi]
  simp
 refine ⟨β2,hag,⟨β1,hb1,r1⟩,?_⟩
 have hbw:Below w.heap.size w w':=hS.below
 have old:∀i b,(H++Hn.map (Ij<|ER n m))[i]? =ah b->(i<n/\H[i]? =ah b/\β2 i=β i)\/(n<=i/\((ER n m).map λk=>Ij (ER n m)<|(Hn++aq n GJ).getD k Uu)[i]? =ah b):=λi b h=>by
  by_cases hi:i<n
  ·rw [Ho<|hn▸hi] at h
   exact .inl ⟨hi,h,hag i hi⟩
  ·have hlt:=(EC.1 h).1
   simp only [BI,GG,hn,hm] at hlt;rw [Gc A0,Dj,hn] at h;refine .inr ⟨A0,?_⟩
   have:=hnew (i-n) A0
   rw [show n+(i-n)=i by omega] at this
   rw [this];exact h
 have hlive:∀i b,i<n->β2 i=β i->(live β2 i b↔live β i b):=λi b _ e=>by unfold live;rw [e]
 have hlen:M (H++Hn.map (Ij<|ER n m))=n+m:=by simp [hn,hm]
 have hlen2:M ((ER n m).map λk=>Ij (ER n m)<|(Hn++aq n GJ).getD k Uu)=n+m:=by simp [aIM]
 refine ⟨⟨hbw.os.trans hW.below.os,hbw.tape.trans hW.below.tape,hbw.output.trans hW.below.output,Hr hW.below.size hbw.size,λk hk=>?_⟩,λb hz=>?_,λb hz=>?_,λi b hb hl hp=>?_,λi b hb hl hp=>?_,λi b hb hl=>?_,λi j bi bj hi hj li lj pi e=>?_,λi b hb=>?_,?_,λp hp=>?_,λD hD=>?_⟩
 ·rw [hbw.block k<|Zo hk hW.below.size];exact hW.below.block k hk
 ·rcases hz with h|h
  ·exact Zo (hW.Bf b h) hbw.size
  ·exact hS.Bf b h
 ·rcases hz with h|h
  ·exact hW.Eo b h
  ·rcases hS.Eo b h with h|h
   ·exact hW.Eo b h
   ·exact .inr<|Hr hW.below.size h
 ·rcases old i b hb with ⟨h1,h2,h3⟩ |⟨h1,h2⟩
  ·have hl':=(hlive i b h1 h3).1 hl
   rw [h3];intro hz;rcases hz with h|h
   ·exact hW.Ct i b h2 hl' hp h
   ·rcases hS.Eo _ h with h|h
    ·exact hW.Ct i b h2 hl' hp h
    ·have:=hW.lt h2 hl'
     omega
  ·intro hz
   rcases hz with h|h
   ·have h4:=r2.low i b h2 hl
    have:=hW.Bf _ h
    omega
   ·exact r2.Ct i b h2 hl hp h
 ·rcases old i b hb with ⟨h1,h2,h3⟩ |⟨h1,h2⟩
  ·rw [h3];exact .inl<|hW.GQ i b h2 ((hlive i b h1 h3).1 hl) hp
  ·exact .inr<|r2.GQ i b h2 hl hp
 ·rcases old i b hb with ⟨h1,h2,h3⟩ |⟨h1,h2⟩
  ·rw [h3];exact hW.low i b h2<|(hlive i b h1 h3).1 hl
  ·exact Hr hW.below.size<|r2.low i b h2 hl
 ·rcases old i bi hi with ⟨h1,h2,h3⟩ |⟨h1,h2⟩<;>rcases old j bj hj with ⟨g1,g2,g3⟩ |⟨g1,g2⟩
  ·rw [h3,g3] at e
   exact hW.inj i j bi bj h2 g2 ((hlive i bi h1 h3).1 li) ((hlive j bj g1 g3).1 lj) pi e
  ·rw [h3] at e
   have:=hW.lt h2<|(hlive i bi h1 h3).1 li
   have:=r2.low j bj g2 lj
   omega
  ·rw [g3] at e
   have:=hW.lt g2<|(hlive j bj g1 g3).1 lj
   have:=r2.low i bi h2 li
   omega
  ·exact r2.inj i j bi bj h2 g2 li lj pi e
 ·rcases old i b hb with ⟨h1,h2,h3⟩ |⟨h1,h2⟩
  ·obtain ⟨q1,q2⟩:=hW.blk i b h2
   refine ⟨Bc.keep (n:=M H) (λk hk=>hag k<|hn▸hk) (λ_ h=> .inl h) (λb hz=>hbw.block b<|hW.Bf b hz) h3 (λhl=>hbw.block _<|hW.lt h2 hl) q2 q1,?_⟩
   rw [hlen]
   exact ⟨AT.mono A0 _ q2.1,by
    have:=q2.2
    cases hk:b.k with
    |mp kd ks vs=>rw [hk] at this;exact AT.mono A0 _ this
    |_=>trivial⟩
  ·obtain ⟨q1,q2⟩:=r2.blk i b h2
   refine ⟨Bc.keep (n:=n+m) (λ_ _=>rfl) (λ_ h=> .inr h) (λ_ _=>rfl) rfl (λ_=>rfl) (by rw [hlen2] at q2;exact q2) q1,?_⟩
   rw [hlen];rw [hlen2] at q2;exact q2
 ·exact hW.Cl.mono (λ_ h=> .inl h) λb hz=>hbw.block b<|hW.Bf b hz
 ·obtain ⟨q1,q2⟩:=hW.gh p hp
  exact ⟨R.mono (n:=M H) (λk hk=>hag k<|hn▸hk) (λ_ h=> .inl h) (λb hz=>hbw.block b<|hW.Bf b hz) _ _ q2 q1,okV.mono (by rw [hlen];omega) _ q2⟩
 ·obtain ⟨q1,q2⟩:=hW.Cv D hD
  exact ⟨.inl q1,by unfold Fw at*;rw [hbw.block D<|hW.Bf D q1];exact q2⟩
def R2 (S:aVy->T (LV×List AB)) (args:aVy) (H:aVB):T (LV×List AB):=
 if noOwnL args then (S args).bind λq=> .ok (renV (ER (M H)<|M q.2) q.1,H++q.2.map (Ij<|ER (M H)<|M q.2)) else .no
def aGg {g:aVY}{m:aVy->aVB->T (LV×List AB)}(h:Dp P G g m):Dp P G g (R2 λargs=>m args []):=λw0 Z0 Z β H w args vals lv H' hW hr hok hq=>by
 unfold R2 at hq;split at hq
 ·rename_i hno
  obtain ⟨⟨lv1,Hn⟩,h1,h2⟩:=T.B5 hq;obtain ⟨rfl,rfl⟩:=h2
  have hok0:=noOwnL_ok args hno hok
  have hW1:RW G w ⟨Z,[],[]⟩ Z β [] w:=⟨Below.refl _ _,hW.Bf,λb hz=> .inl hz,λk b hb=>A8,λk b hb=>A8,λk b hb=>A8,λi j bi bj hb=>AI,λk b hb=>A8,hW.Cl,λp hp=>na,λD hD=>(by cases hD)⟩
  refine (h w ⟨Z,[],[]⟩ Z β [] w args vals lv1 Hn hW1 hr hok0 h1).mono λe w' ⟨v,he,Z',β',r1,r2,r3⟩=>⟨v,he,?_⟩
  obtain ⟨β2,a1,⟨β1,a2,a3⟩,a4⟩:=hW.join r1;refine ⟨_,β2,a4,?_,?_⟩
  ·have q:=R.mono (n:=M Hn) (Z':=λb=>Z b\/Z' b) (w':=w') a2 (λ_ h=> .inr h) (λ_ _=>rfl) _ _ r3 r2
   exact ren_R a3 _ _ (λk hk=>eU.2 aOe) r3 q
  ·have:=ren_ok (ks:=ER (M H)<|M Hn) _ (λk hk=>eU.2 aOe) r3
   rw [aIM] at this
   grind
 ·cases hq
end Go.Sx
namespace Go.Proofs.YtjdlmobanmhohaaGreatDoor
set_option maxRecDepth 100000
set_option maxHeartbeats 4000000
open Go.Proofs.Tryz
open Go.Sx
def V6:aVx->Int
 |0=>1
 |1=>1
 |2=>1
 |3=>0
 |4=>2
 |5=>2
 |_=>3
def XI (j:aVx):Y:=[-1,-1,-1,-1,-1,-1,1,-1,-1,-1,-1,-1,-1,0,-1,-1,-1,-3,-1,2,-1,-1,-1,-1,-1,-1,-3,-1,-1,-1,-1,-1,-1,4,-1,-1,-1,-1,-1,-1,-3,-1,-2,-2,-2,-2,-2,-2,-2,-2,-2,-2,-2,-2,0,1,1,1,1,-3].getD j 0
def aCv:aVx->Int
 |0=>4
 |1=>1
 |2=>1
 |3=>4
 |_=>2
def AV:B3:=fun
 |2=>ah (8,λj=> ag J<|V6 j)
 |0=>ah (60,λj=> ag J<|XI j)
 |1=>ah (5,λj=> ag J<|aCv j)
 |_=>aj
structure Bd where
  f:aVY
  S:aVy->T LV
  v:Valid prog AV f S
def aVI:qT (List Bd):=⟨⟩
def gm:aVI->Specs
  | [],_=>aj
  |b::l,g=>if g=b.f then ah b.S else gm l g
def gk:∀(l:aVI) g S,gm l g=ah S->Valid prog AV g S
  | [],_,_,h=>Ar
  | b::l,g,S,h=>by
    simp only [gm] at h;split at h
    · rename_i hg;simp only [Ah] at h;subst h hg;exact b.v
    · exact gk l g S h
structure LBx where
  L:DU
  h:EZ prog AV L
structure Ay where
  K:aWq
  h:FU prog AV K
structure Db where
  g:aVY
  m:aVy->aVB->T (LV×List AB)
  c:Dp prog AV g m
instance {f:aVY} {S:aVy->T LV}:CoeOut (Valid prog AV f S) Bd:=⟨λv=>⟨f,S,v⟩⟩
instance:Coe (List Bd) Specs:=⟨gm⟩
instance:Coe Ay Hand:=⟨Ay.K⟩
def kN:Ay:=⟨GB,Qg⟩
def l0 (l:aVI):LBx:=⟨E5 prog AV (gm l) 20 2,Hz<|gk l⟩
def la (id:aVx) {g:aVY}{N:aVx}{t:aVy->aVB->T (Ex×List LV×List AB)}{fn:aWi}{bd:aV7}(hfn:prog.funcs[g]? =ah fn) (ht:Gr prog AV (AN N) (.loop bd) t) (h:LBx) (hc:fn.body=ah (fn.body.getD .skip):=by kernel_rfl) (hid:(BE<|fn.body.getD .skip).filter (λb=>Gt b==id)=[bd]:=by kernel_rfl):LBx:=⟨Cb g N id t h.L,DO hfn hc hid ht h.h⟩
def kI (l:aVI) (h:LBx):Ay:=⟨inl prog AV (gm l) h.L 9,aE6 (gk l) h.h 9⟩
def dm:List Db->Does
  | [],_=>aj
  |p::ps,g=>if g=p.g then ah p.m else dm ps g
def dk:∀(l:List Db) g m,dm l g=ah m->Dp prog AV g m
  | [],_,_,e=>Oy
  | p::ps,g,m,e=>by
    simp only [dm] at e;split at e
    · rename_i hg;simp only [Ah] at e;subst e hg;exact p.c
    · exact dk ps g m e
def IJ (l:aVI) (h:LBx) (C:List Db):Ay:=⟨VR prog AV (gm l) h.L (dm C) 9,aDr (gk l) h.h (dk C) 9⟩
abbrev VV (f:aVY) (S:aVy->T LV):=Valid prog AV f S
abbrev SA {σ:Type}(N:aVx) (b:aV7) (D:AS σ):=Gr prog AV (AN N) (.loop b) D.lp
abbrev uS (fn:aWi) (S:aVy->T LV):=KE prog fn.params.toList S
abbrev lN (c:aV7) (k:aVx):aV7:=((BE c)[k]?).getD .skip
abbrev bN (fn:aWi) (k:aVx):aV7:=lN (fn.body.getD .skip) k
def vo {f:aVY}{fn:aWi}{S:aVy->T LV}(hfn:prog.funcs[f]? =ah fn) (l:aVI) (h:Ay) (hS:∀args lv,(S args).all (λx=>x=lv)->Sp (λx=>x=lv) (Bm prog AV (gm l) h.K Al fn<|canL args)) (hc:fn.body=ah (fn.body.getD .skip):=by kernel_rfl) (e:BE (fn.body.getD .skip)=[]:=by kernel_rfl):Valid prog AV f (KE prog fn.params.toList S):=pP hfn hc (gk l) h.h (qx e) λa v q=>(hS a v q).out
def vl {f:aVY}{fn:aWi}{S:aVy->T LV}{t:aVy->aVB->T (Ex×List LV×List AB)}{bd:aV7}(hfn:prog.funcs[f]? =ah fn) (l:aVI) (h:Ay) (k:aVx) (sn:Sound prog AV (.loop bd) t) (hS:∀args lv,(S args).all (λx=>x=lv)->Sp (λx=>x=lv) (Bm prog AV (gm l) h.K (λi=>if i=k then t else Al i) fn<|canL args)) (hc:fn.body=ah (fn.body.getD .skip):=by kernel_rfl) (e:BE (fn.body.getD .skip)=[bd]:=by kernel_rfl) (hk:Gt bd=k:=by kernel_rfl):Valid prog AV f (KE prog fn.params.toList S):=pP hfn hc (gk l) h.h (L:=λi=>if i=k then t else Al i) (λb hb=>by
  rw [e,HJ] at hb;subst hb
  show Sound _ _ _ (if Gt b=k then t else Al (Gt b))
  rw [AD hk];exact sn) λa v q=>(hS a v q).out
def vm {f:aVY}{fn:aWi}{S:aVy->T LV}{L:M3}(hfn:prog.funcs[f]? =ah fn) (l:aVI) (h:Ay) (hL:∀b∈BE (fn.body.getD .skip),Sound prog AV (.loop b)<|L<|Gt b) (hS:∀args lv,(S args).all (λx=>x=lv)->Sp (λx=>x=lv) (Bm prog AV (gm l) h.K L fn<|canL args)) (hc:fn.body=ah (fn.body.getD .skip):=by kernel_rfl):Valid prog AV f (KE prog fn.params.toList S):=pP hfn hc (gk l) h.h hL λa v q=>(hS a v q).out
def At {t:T LV}(t':T LV) {K:LV->Prop}(h':t'.all K) (h:t=t':=by kernel_rfl):Sp K t:=⟨aFN h h'⟩
def Da {σ:Type}(I:σ->Prop) (mu:σ->aVx) (Q:Ex->σ->σ->Prop) (t:σ->T (Rd σ)):Prop:=∀s,I s->DV (λs'=>I s'/\mu s'<mu s) (λx s'=>Q x s s') ((t s).rd s)
def Rq {σ:Type}(I:σ->Prop) (t:σ->T (Rd σ)):Prop:=∀s,I s->(t s).all (λ_=>True)
def Fi {σ:Type}(E I:σ->Prop) (Q:Ex->σ->σ->Prop) (x:σ->Ex) (r:σ->σ):Prop:=∀s,E s->∃s',I s'/\Q (x s) s' (r s)
def Rs {σ Y:Type}(E:σ->Prop) (x:σ->Ex) (r:σ->σ) (V:σ->Y) (K:Ex->σ->Y->Prop):Prop:=∀s,E s->K (x s) (r s) (V s)
variable {σ : Type} {D : AS σ} {Q : Ex -> σ -> σ -> Prop} {b : Code}
def DZ (o:D.Ok) (p:D.Pf Q) {Y:Type}{V:σ->Y}{K:Ex->σ->Y->Prop}(hv:∀s,D.I s->DV (λs'=>V s'=V s) (λx s'=>K x s'<|V s) (D.f s)):Rs D.E D.Au D.run V K:=λs hE=>AS.wq o p V K hv s hE
def s1 (o:D.Ok) (p:D.Pf Q) (l:aVI) (h:Ay) (e:BE b=[]:=by kernel_rfl) (hn:∀s,jZ D.N D.lv D.us (DP prog AV (gm l) h.K (MM Al) b (I0 D.n D.lv<|D.A<|D.rd s)<|D.B<|D.rd s)=(D.t<|D.rd s).mp (rdV D.n D.A D.B):=by intro s;kernel_rfl):Gr prog AV (AN D.N) (.loop b) D.lp:=AS.snd o p (Gl (gk l) h.h b (λb hb=>by rw [e] at hb;cases hb)) hn
def s2 (o:D.Ok) (p:D.Pf Q) (l:aVI) (h:Ay) (hn:∀s,jZ D.N D.lv D.us (DP prog AV (gm l) h.K (JM prog AV (gm l) h.K 20 2) b (I0 D.n D.lv<|D.A<|D.rd s)<|D.B<|D.rd s)=(D.t<|D.rd s).mp (rdV D.n D.A D.B):=by intro s;kernel_rfl):Gr prog AV (AN D.N) (.loop b) D.lp:=AS.snd o p (Gl (gk l) h.h b λb _=>TK (gk l) h.h 20 2 b) hn
end Go.Proofs.YtjdlmobanmhohaaGreatDoor
namespace Go.Proofs.YtjdlmobanmhohaaGreatDoor
set_option maxRecDepth 100000
set_option maxHeartbeats 4000000
open Go.Proofs.Tryz
open Go.Sx
abbrev B7:Ty:=.pair A7<|.pair A7<|.pair A7 .bool
abbrev St:=Int×Int×Int×Bool
def aVW:qT (List St):=⟨⟩
instance:Coe (List St) LV:=⟨.xl B7⟩
def BF (l:aVW) (n:Y):St:=l.getD n.toNat (0,0,0,X)
def sV (c:Ch) (s:St):aVH:=Iq c.2.2.1 c.2.2.2.1 c.2.2.2.2.1 c.2.2.2.2.2.1 c.2.2.2.2.2.2.1&&(inB s.1 0 5&&(inB s.2.2.1 0 1000000&&(inB s.2.1 0 c.2.2.2.2.1&&((s.2.2.1 !=0 ||s.2.1==0)&&(!s.2.2.2 ||s.1==5)))))
def Kf {c:Ch}{s:St}:sV c s=U↔Iq c.2.2.1 c.2.2.2.1 c.2.2.2.2.1 c.2.2.2.2.2.1 c.2.2.2.2.2.2.1=U/\0<=s.1/\s.1<=5/\0<=s.2.2.1/\s.2.2.1<=1000000/\0<=s.2.1/\s.2.1<=c.2.2.2.2.1/\(s.2.2.1=0->s.2.1=0)/\(s.2.2.2=U->s.1=5):=by
 obtain ⟨p,a,l,w⟩:=s;unfold sV;cases w<;>simp [BS]<;>omega
def evV (mx k n m:Y):aVH:=if k=4 then inB n 0 1 else if k=6 then inB n 0 2 else if k=7 then inB m 1 1000000&&inB n 0 mx else U
def IG (p:Y) (w:aVH) (k n:Y):Y:=
 if k=1 then (if p=0 then 1 else -1)
 else if k=2 then (if p=5/\w=U then 5 else if p=1\/p=5 then 0 else -1)
 else if k=3 then (if p=1 then 2 else -1)
 else if k=4 then (if p=2 then (if n=1 then 3 else 5) else -1)
 else if k=5 then (if p=3 then 4 else -1)
 else if k=6 then (if p=4 then (if n=0 then 1 else 5) else -1)
 else if k=9 then (if p=0\/w=U then p else 1)
 else p
def tkF (l:Y):Y:=if 0<l-1 then l-1 else 0
def sL (l k m:Y):Y:=if k=7 then m else if k=8 then tkF l else if k=9 then 0 else l
def sA (a l k n:Y):Y:=if k=7 then n else if k=8 then (if tkF l=0 then 0 else a) else if k=9 then 0 else a
def sW (w:aVH) (k n:Y):aVH:=w ||(k==6&&n==1)
def sE (c:Ch) (s:St) (k n m:Y):Y:=
 if sV c s=U then (if inB k 1 9=U then (if evV c.2.2.2.2.1 k n m=U then (if IG s.1 s.2.2.2 k n<0 then 6 else 0) else 1) else 9) else 1
def sN (c:Ch) (s:St) (k n m:Y):St:=if sE c s k n m=0 then (IG s.1 s.2.2.2 k n,sA s.2.1 s.2.2.1 k n,sL s.2.2.1 k m,sW s.2.2.2 k n) else (0,0,0,X)
def Be (c:Ch) (s:St):Y:=if sV c s=U then (if s.2.2.2=U then c.2.2.2.2.1 else if s.1≠4 then 0 else if s.2.2.1≠0 then s.2.1 else c.2.2.2.2.2.2.1) else 0
def EJ (c:Ch) (s:St) (k n m:Y):St:=if sE c s k n m=0 then sN c s k n m else s
def oh (k p:Y):Y:=
 if k=1 then (if p=0 then 1 else -1)
 else if k=2 then (if p=1 then 0 else if p=5 then -3 else -1)
 else if k=3 then (if p=1 then 2 else -1)
 else if k=4 then (if p=2 then -3 else -1)
 else if k=5 then (if p=3 then 4 else -1)
 else if k=6 then (if p=4 then -3 else -1)
 else if k=7 then -2
 else if k=8 then -2
 else if p=0 then 0 else if p=5 then -3 else 1
def aj0 {k p:Y}(h1:1<=k) (h2:k<=9) (h3:0<=p) (h4:p<=5):XI (k.toNat*6+(p.toNat*1+0))=oh k p:=by
 have key:∀e:Fin 10,∀s:Fin 6,1<=e.val->XI (e.val*6+(s.val*1+0))=oh (e.val:Y) (s.val:Y):=Aa
 have:=key ⟨k.toNat,A0⟩ ⟨p.toNat,A0⟩ A8
 grind
def dcP (p:Y) (w:aVH) (k n:Y):Y:=if k=4 then (if n=1 then 3 else 5) else if k=6 then (if n=0 then 1 else 5) else if k=2 then (if w=U then p else 0) else if k=9 then (if w=U then p else 1) else p
def dcW (w:aVH) (k n:Y):aVH:=if k=6 then n==1 else w
def nine {k:Y}(h1:1<=k) (h2:k<=9):k=1\/k=2\/k=3\/k=4\/k=5\/k=6\/k=7\/k=8\/k=9:=A0
def ano {p:Y}(h1:0<=p) (h2:p<=5):p=0\/p=1\/p=2\/p=3\/p=4\/p=5:=A0
def auq {mx k n m:Y}(h:evV mx k n m=U):(k=4->0<=n/\n<=1)/\(k=6->0<=n/\n<=2)/\(k=7->1<=m/\m<=1000000/\0<=n/\n<=mx):=by
 unfold evV at h;refine ⟨λe=>?_,λe=>?_,λe=>?_⟩
 ·subst e;simpa [BS] using h
 ·subst e;simpa [BS] using h
 ·subst e;simp [BS] at h;omega
def akZ {c:Ch}{s:St}{k n m:Y}(h:sE c s k n m=0):sV c s=U/\1<=k/\k<=9/\evV c.2.2.2.2.1 k n m=U/\0<=IG s.1 s.2.2.2 k n:=by
 unfold sE at h
 repeat' split at h
 all_goals first|(exfalso;omega) |skip
 rename_i h1 h2 h3 h4
 have h2:=BS.1 h2
 grind
def akY {c:Ch}{s:St}{k n m:Y}(h:sE c s k n m=0):sV c (sN c s k n m)=true:=by
 obtain ⟨h1,h2,h3,h4,h5⟩:=akZ h
 have he:=auq h4
 obtain ⟨p,a,l,w⟩:=s
 have h1:=Kf.1 h1
 rw [Kf];unfold sN;rw [AD h];obtain ⟨g1,g2,g3,g4,g5,g6,g7,g8,g9⟩:=h1
 have gc:=To.1 g1
 simp only at*
 have hp:IG p w k n<=5:=by
  unfold IG
  repeat' split
  all_goals omega
 have ht:0<=tkF l/\tkF l<=l:=by unfold tkF;split<;>omega
 have hL:0<=sL l k m/\sL l k m<=1000000:=by
  unfold sL
  repeat' split
  all_goals omega
 have hA:0<=sA a l k n/\sA a l k n<=c.2.2.2.2.1:=by
  unfold sA
  repeat' split
  all_goals omega
 refine ⟨g1,h5,hp,hL.1,hL.2,hA.1,hA.2,λhl=>?_,λhw=>?_⟩
 ·unfold sL at hl
  unfold sA
  repeat' split
  all_goals repeat' split at hl
  all_goals omega
 ·unfold sW at hw
  simp only [Cf,AX,Cz] at hw;rcases hw with hw|⟨e1,e2⟩
  ·have hs:=g9 hw
   subst hs;unfold IG at h5|-;simp only [hw] at h5|-;rcases nine h2 h3 with rfl|rfl|rfl|rfl|rfl|rfl|rfl|rfl|rfl<;>simp at h5|-
  ·subst e1 e2
   unfold IG at h5|-
   simp at h5|-
   split at h5
   ·rename_i h4;simp [h4]
   ·omega
def vZ {c:Ch}{s:St}{k n m:Y}(h:sV c s=U):sV c (EJ c s k n m)=true:=by
 unfold EJ;split
 ·rename_i h1;exact akY h1
 ·exact h
abbrev Ca:=Int×Int×Int×Int×Int
def aWf:qT (List Ca):=⟨⟩
def Bg (l:aWf) (n:Y):Ca:=l.getD n.toNat (0,0,0,0,0)
abbrev BA:Ty:=.pair (.sl A7)<|.pair A7 A7
abbrev Mi:=List Int×Int×Int
def aWj:qT (List Mi):=⟨⟩
instance:Coe (List Mi) LV:=⟨.xl BA⟩
def CD (l:aWj) (n:Y):Mi:=l.getD n.toNat ([],0,0)
abbrev BT:Ty:=.pair A7<|.pair A7 .bool
abbrev Me:=Int×Int×Bool
def aWm:qT (List Me):=⟨⟩
instance:Coe (List Me) LV:=⟨.xl BT⟩
def GY (l:aWm) (n:Y):Me:=l.getD n.toNat (0,0,X)
def Gb (c:Ca):aVH:=inB c.1 0 4&&(inB c.2.1 1 7&&(inB c.2.2.1 1 80&&(inB c.2.2.2.1 0 1000000000&&(inB c.2.2.2.2 0 20&&(c.1 !=3 ||an (c.2.2.2.2>=1))))))
def Wr {c:Ca}:Gb c=U↔0<=c.1/\c.1<=4/\1<=c.2.1/\c.2.1<=7/\1<=c.2.2.1/\c.2.2.1<=80/\0<=c.2.2.2.1/\c.2.2.2.1<=1000000000/\0<=c.2.2.2.2/\c.2.2.2.2<=20/\(c.1=3->1<=c.2.2.2.2):=by
 simp [Gb,inB];omega
def IH (m:Mi):aVH:=an (M m.1<=21)&&(inB m.2.1 0 1000000&&(inB m.2.2 0 2000000000&&m.1.all (λp=>inB p 0 80)))
def dq {m:Mi}:IH m=U↔M m.1<=21/\0<=m.2.1/\m.2.1<=1000000/\0<=m.2.2/\m.2.2<=2000000000/\∀p∈m.1,0<=p/\p<=80:=by
 simp [IH,BS,and_assoc]
def cnt (n:Y):Y:=n%2+n / 2%2+n / 4%2
def afs {n:Y}:0<=cnt n/\cnt n<=3:=by unfold cnt;omega
def eight {n:Y}(h1:0<=n) (h2:n<=7):n=0\/n=1\/n=2\/n=3\/n=4\/n=5\/n=6\/n=7:=A0
def land (a b:Y):Y:=Bl J a b
def L2 (k ph p:Y):Y:=if k=2 then land (land ph p) (-land ph p) else land ph p
def aEW {a b:Y}(ha:0<=a/\a<=7) (hb:0<=b/\b<=7):0<=land a b/\land a b<=7/\0<=land (land a b) (-land a b)/\land (land a b) (-land a b)<=7/\(land a b≠0->land (land a b) (-land a b)≠0):=by
 have key:∀x y:Fin 8,0<=land x.val y.val/\land x.val y.val<=7/\0<=land (land x.val y.val) (-land x.val y.val)/\land (land x.val y.val) (-land x.val y.val)<=7/\(land x.val y.val≠0->land (land x.val y.val) (-land x.val y.val)≠0):=Aa
 have:=key ⟨a.toNat,A0⟩ ⟨b.toNat,A0⟩
 simp only [CO ha.1,CO hb.1] at this;exact this
def bu (dl:Y) (pil:aVw):Y:=if (M pil:Y)-dl>=0 then pil.getD ((M pil:Y)-dl).toNat 0 else 0
def H4 (c:Ca) (m:Mi) (al:Y):Y:=
 if c.1=1 then (if c.2.2.2.2=0 then al else min al (bu c.2.2.2.2 m.1))
 else if c.1=3 then (if (m.2.1.tdiv c.2.2.2.2).tmod 2=1 then 0 else al)
 else if c.1=4 then (if al=0 then 0 else c.2.2.1) else al
def FA (c:Ca) (m:Mi) (p al:Y):Y:=if L2 c.1 c.2.1 p=0\/m.2.2>=c.2.2.2.1 then 0 else min c.2.2.1 (H4 c m al)
def HT (c:Ca) (m:Mi) (p al:Y):Y:=if FA c m p al=0 then 0 else L2 c.1 c.2.1 p
def dwP (pil:aVw) (al:Y):aVw:=(pil++[al]).drop<|M pil-20
def dwG (c:Ca) (m:Mi) (p al:Y):Y:=m.2.2+2300*FA c m p al*cnt (HT c m p al)
def Lb (c:Ca) (m:Mi) (p al:Y):aVH:=Gb c&&(IH m&&(inB p 1 7&&(inB al 0 80&&m.2.1 !=1000000)))
def ep {c:Ca}{m:Mi}{p al:Y}:Lb c m p al=U↔Gb c=U/\IH m=U/\1<=p/\p<=7/\0<=al/\al<=80/\m.2.1≠1000000:=by
 simp [Lb,BS,and_assoc]
def aDo {k ph p:Y}(h1:1<=ph/\ph<=7) (h2:1<=p/\p<=7):0<=L2 k ph p/\L2 k ph p<=7:=by
 obtain ⟨a1,a2,a3,a4,_⟩:=aEW (a:=ph) (b:=p) ⟨A0,A0⟩ ⟨A0,A0⟩;unfold L2;exact aO
def afD {dl:Y}{pil:aVw}(h:∀p∈pil,0<=p/\p<=80):0<=bu dl pil:=by
 unfold bu;split
 ·rw [DA]
  cases hg:pil[((M pil:Y)-dl).toNat]? with
  |none=>simp
  |some x=>simp;exact (h x<|Oj hg).1
 ·omega
def aeO {c:Ca}{m:Mi}{al:Y}(hc:Gb c=U) (hm:IH m=U) (ha:0<=al):0<=H4 c m al:=by
 have hc:=Wr.1 hc
 have hm:=dq.1 hm
 have:=afD (dl:=c.2.2.2.2) hm.2.2.2.2.2
 unfold H4
 repeat' split
 all_goals omega
def aFX {c:Ca}{m:Mi}{p al:Y}(hc:Gb c=U) (hm:IH m=U) (hp:1<=p/\p<=7) (ha:0<=al/\al<=80):
  0<=FA c m p al/\FA c m p al<=c.2.2.1/\0<=HT c m p al/\HT c m p al<=7:=by
 have hw:=aeO hc hm ha.1
 have hc:=Wr.1 hc
 have hs:=aDo (k:=c.1) (ph:=c.2.1) (p:=p) ⟨A0,A0⟩ hp
 have h1:0<=FA c m p al/\FA c m p al<=c.2.2.1:=by unfold FA;split<;>omega
 refine ⟨h1.1,h1.2,?_⟩;unfold HT;omega
def Ff (c:Ca) (m:Mi) (p al:Y):Y:=if Lb c m p al=U then FA c m p al else 0
def Ee (c:Ca) (m:Mi) (p al:Y):Y:=if Lb c m p al=U then HT c m p al else 0
def Jh (c:Ca) (m:Mi) (p al:Y):Mi:=if Lb c m p al=U then (dwP m.1 al,m.2.1+1,dwG c m p al) else ([],0,0)
def JY (c:Ca) (m:Mi) (p al:Y):Y:=if Lb c m p al=U then 0 else 1
def meV (m:Me):aVH:=inB m.1 0 1000000&&(an (m.2.1>=-1000000000000000)&&an (m.2.1<=1000000000000000))
def mcR (m:Me) (a p:Y):Y:=if m.2.2=U then m.2.1-2300*a*p else m.2.1+2300*a*p
def mcB (m:Me) (a p:Y):aVH:=meV m&&(inB a 0 80&&inB p 0 3)
def G6 (m:Me) (a p:Y):Y:=if mcB m a p=U then (if meV (m.1,mcR m a p,m.2.2)=U then 0 else 3) else 1
def Hd (m:Me) (a p:Y):Me:=if G6 m a p=0 then (m.1,mcR m a p,m.2.2) else (0,0,X)
def B8 (t d:Y):Y:=if (inB t 0 1000000&&inB d (-200) 200)=U then t*(1000000+d) / 1000000 else 0
def HZ (t d:Y):Y:=if (inB t 0 1000000&&inB d (-200) 200)=U then 0 else 1
def aUE {l:aVw}{f:Y->aVH}:l.all f=DS (M l) (λj=>f<|gi l j):=by
 rw [Iw,BH,Dl];refine ⟨λh j hj=>h _<|Ki A0 hj,λh x hx=>?_⟩
 obtain ⟨k,hk,rfl⟩:=Hs.1 hx
 have:=h k A0
 rwa [Ia A8] at this
section
variable {lt : Int -> Int -> Bool}
def LD (lt:Y->Y->aVH):aVw->Y->List Int
 | [],x=>[x]
 |y::q,x=>if lt x y=U then y::LD lt q x else x::y::q
def pV {x:Y}:∀ {q:aVw},(LD lt q x).Perm (x::q)
 | []=>List.Perm.refl _
 |y::q=>by
  unfold LD;split
  ·exact (List.Perm.cons y pV).trans<|List.Perm.swap x y q
  ·grind
def aox {q:aVw}{x:Y}:M (LD lt q x)=M q+1:=by rw [pV.length_eq];rfl
def aEm:∀ {l acc:aVw},(l.foldl (LD lt) acc).Perm (acc++l)
 | [],acc=>AI
 |x::l,acc=>by
  rw [KI];refine aEm.trans ?_;refine (xm l pV).trans ?_
  grind
def sortB (lt:Y->Y->aVH) (l:aVw):aVw:=(l.foldl (LD lt) []).reverse
def aeX {l:aVw}:(sortB lt l).Perm l:=by
 exact (xe _).trans (by have:=aEm (lt:=lt) (l:=l) (acc:=[]);simpa using this)
def LY (l:aVw) (j:aVx):aVw:=(l.set (j+1)<|l.getD j 0).set j<|l.getD (j+1) 0
def Lf (lt:Y->Y->aVH):aVx->aVw->List Int
 |0,l=>l
 |j+1,l=>if lt (l.getD (j+1) 0) (l.getD j 0)=U then Lf lt j (LY l j) else l
def auj {p post:aVw}{x y:Y}:LY (p++y::x::post) (M p)=p++x::y::post:=by
 unfold LY
 simp
def sv {post:aVw}{x:Y}:∀ {q:aVw},Lf lt (M q) (q.reverse++x::post)=(LD lt q x).reverse++post
 | []=>by simp [Lf,LD]
 | y::q=>by
  have e1:((y::q).reverse++x::post)=q.reverse++y::x::post:=AI
  rw [e1,Bk,Lf]
  have g1:(q.reverse++y::x::post).getD (M q) 0=y:=AI
  have g2:(q.reverse++y::x::post).getD (M q+1) 0=x:=AI
  rw [g1,g2];unfold LD;split
  ·have e2:LY (q.reverse++y::x::post) (M q)=q.reverse++x::y::post:=by
    have:=auj (p:=q.reverse) (x:=x) (y:=y) (post:=post)
    grind
   rw [e2,sv]
   simp
  ·simp
def ap0:∀ {j:aVx}{l:aVw},j<M l->(Lf lt j l).Perm l:=λ{j l} h=>by
 have e:l=(l.take j).reverse.reverse++l[j]::l.drop (j+1):=AI
 have hj:M (l.take j).reverse=j:=A8
 have h2:=sv (lt:=lt) (q:=(l.take j).reverse) (x:=l[j]) (post:=l.drop<|j+1)
 rw [hj,<-e] at h2;rw [h2];refine (xm _<|(xe _).trans pV).trans ?_;refine (List.perm_middle.symm.trans ?_);refine (xm _<|xe _).trans ?_
 grind
def N2 (lt:Y->Y->aVH) (l:aVw) (i:aVx):aVw:=((l.drop i).foldl (LD lt) (l.take i).reverse).reverse
def aec {l:aVw}{i:aVx}(h:i<M l):N2 lt (Lf lt i l) (i+1)=N2 lt l i:=by
 have e:l=(l.take i).reverse.reverse++l[i]::l.drop (i+1):=AI
 have hi:M (l.take i).reverse=i:=A8
 have h2:=sv (lt:=lt) (q:=(l.take i).reverse) (x:=l[i]) (post:=l.drop<|i+1)
 have hl:M ((LD lt (l.take i).reverse l[i]).reverse)=i+1:=by rw [List.length_reverse,aox,hi]
 unfold N2
 grind
def afW {l:aVw}:N2 lt l 1=sortB lt l:=by
 cases l with
 |nil=>rfl
 |cons x l=>simp [N2,sortB,LD]
def afX {l:aVw}{i:aVx}(h:M l<=i):N2 lt l i=l:=by
 unfold N2;rw [List.drop_of_length_le h,Di h]
 simp
end
abbrev Ap:Ty:=.pair .bool<|.pair A7<|.pair A7 A7
abbrev Dm:=Bool×Int×Int×Int
def aVU:qT (List Dm):=⟨⟩
instance:Coe (List Dm) LV:=⟨.xl Ap⟩
def E7 (l:aVU) (n:Y):Dm:=l.getD n.toNat (X,0,0,0)
def slk (d:aVU) (t i:Y):Y:=(E7 d i).2.2.1-t-(E7 d i).2.1
def cm (a b:Y):Y:=if a<b then -1 else if a>b then 1 else 0
def orI:aVw->Int
 | []=>0
 |x::l=>if (x !=0)=U then x else orI l
def cmD (d:aVU) (t a b:Y):Y:=orI [cm (E7 d a).2.2.2 (E7 d b).2.2.2,cm (slk d t a)<|slk d t b,cm a b]
def ltD (d:aVU) (t a b:Y):aVH:=an<|cmD d t a b<0
def Im (d:aVU) (t:Y):Prop:=(∀x∈d,(-2000000000<=x.2.1/\x.2.1<=2000000000)/\-2000000000<=x.2.2.1/\x.2.2.1<=2000000000)/\-2000000000<=t/\t<=2000000000
def atr {d:aVU}{i:Y}(h0:0<=i) (h1:i<(M d:Y)):E7 d i∈d:=by
 unfold E7
 grind
def aw7 {d:aVU}{t i:Y}(h:Im d t) (h0:0<=i) (h1:i<(M d:Y)):(-2000000000<=(E7 d i).2.1/\(E7 d i).2.1<=2000000000)/\-2000000000<=(E7 d i).2.2.1/\(E7 d i).2.2.1<=2000000000:=h.1 _<|atr h0 h1
def G0 (n:aVx):aVw:=(au n).map λk:aVx=>(k:Y)
def HN (d:aVU) (t:Y):aVw:=sortB (ltD d t)<|G0<|M d
def aEx {n:aVx}:G0 (n+1)=G0 n++[(n:Y)]:=by simp [G0,Ss]
def P8 {n:aVx}:M (G0 n)=n:=by simp [G0]
def aGD {n:aVx}{x:Y}:x∈G0 n↔0<=x/\x<(n:Y):=by
 unfold G0;rw [F4]
 constructor
 ·rintro ⟨k,hk,rfl⟩
  rw [Iu] at hk;omega
 ·exact λh=>⟨x.toNat,A8,A0⟩
def aeb {n:aVx}:(G0 n).Nodup:=xd _ (λa b h=>A0) mM
def aE2 {d:aVU}{t:Y}:(HN d t).Perm (G0<|M d):=aeX
def aFs {d:aVU}{t:Y}:M (HN d t)=M d:=by rw [aE2.length_eq,P8]
def aoP {d:aVU}{t x:Y}:x∈HN d t↔0<=x/\x<(M d:Y):=aE2.mem_iff.trans aGD
def aeU {d:aVU}{t:Y}:(HN d t).Nodup:=aE2.nodup_iff.2 aeb
def sM {mi ma st a k:Y}(hh:Dw mi ma st=U) (ha:0<=a) (h0:0<=k) (h1:k<Eb mi ma st):E9 mi st k<=a↔k<=He mi ma st a:=by
 obtain ⟨g1,g2,g3,g4,g5⟩:=IU.1 hh
 have hn:¬(Dw mi ma st=X\/a<0):=A8
 unfold He;rw [AE hn];unfold E9
 by_cases e:k=0
 ·subst e
  simp only [Bp];exact aNh
 ·rw [AE e]
  have hp:0<=(k-1)*st:=Iv A0 A0
  split
  ·omega
  ·have:=(Int.le_ediv_iff_mul_le (a:=k-1) (b:=a-mi) (c:=st) A0)
   omega
def aSs {mi ma st a:Y}(hh:Dw mi ma st=U):He mi ma st a<Eb mi ma st:=by
 have:=sK hh
 unfold He;split
 ·omega
 ·omega
def aew {mi ma st a:Y}(hh:Dw mi ma st=U) (ha:0<=a):0<=He mi ma st a:=by
 have:=sK hh
 obtain ⟨g1,g2,g3,g4,g5⟩:=IU.1 hh
 have hn:¬(Dw mi ma st=X\/a<0):=A8
 unfold He;rw [AE hn];exact aNh
def aeW {l:aVw}:once l=U↔l.Nodup:=by
 rw [qt,List.nodup_iff_pairwise_ne,lh]
 constructor
 ·intro h i j hi hj hij e
  exact h j hj (by rw [<-e,Hs];exact ⟨i,A8,AI⟩)
 ·intro h j hj hm
  obtain ⟨i,hi,e⟩:=Hs.1 hm
  grind
def acv:∀ {r l:aVw},r.Nodup->(∀x∈r,x∈l)->M r=M l->l.Nodup/\∀x∈l,x∈r
 | [],l,_,_,h=>by
  have:l=[]:=MV.1 h.symm
  subst this
  simp
 | x::r,l,hn,hs,h=>by
  obtain ⟨n1,n2⟩:=MX.1 hn
  have hx:=hs x AI
  have hp:=List.perm_cons_erase hx
  obtain ⟨i1,i2⟩:=acv (l:=l.erase x) n2 (λy hy=>by
   have hy2:=hs y A8
   have hne:y≠x:=λe=>n1<|e▸hy
   exact (List.mem_erase_of_ne hne).2 hy2) A8
  refine ⟨hp.nodup_iff.2<|MX.2 ⟨λhm=>n1<|i2 x hm,i1⟩,λy hy=>?_⟩
  by_cases e:y=x
  ·simp [e]
  ·grind
def bY (n:aVx):aVw:=(au n).map λk:aVx=>(k:Y)
def aGE {n:aVx}{x:Y}:x∈bY n↔0<=x/\x<(n:Y):=by
 unfold bY;rw [F4]
 constructor
 ·rintro ⟨k,hk,rfl⟩
  have:=Iu.1 hk
  omega
 ·rintro ⟨h1,h2⟩
  exact ⟨x.toNat,Iu.2 A0,A0⟩
def aeF {n:aVx}:M (bY n)=n:=by simp [bY]
def aFS {l:aVw}{n:aVx}:Gv l n=U↔M l=n/\l.Nodup/\∀i∈l,0<=i/\i<(n:Y):=by
 unfold Gv;simp only [AX,Ab,BH,pn,aeW]
 constructor
 ·grind
 ·grind
def afj {l:aVw}{n:aVx}(h:Gv l n=U) {i:Y}(h0:0<=i) (h1:i<(n:Y)):i∈l:=by
 obtain ⟨g1,g2,g3⟩:=aFS.1 h;exact (acv g2 (l:=bY n) (λx hx=>aGE.2<|g3 x hx) (by rw [aeF];exact g1)).2 i<|aGE.2 ⟨h0,h1⟩
def IE (al am ms:aVw):Y:=(ms.map λm=>mx (gi al m)<|gi am m).sum
def rowB (al am:aVw) (r:Rw):aVH:=r.2.all (λm=>gi am m==0) ||an (IE al am r.2<=r.1)
def Pe (rows:aVT) (al am:aVw):aVH:=rows.all<|rowB al am
def TX {al am ms:aVw}{m:Y}:IE al am (m::ms)=mx (gi al m) (gi am m)+IE al am ms:=by simp [IE]
def aLh (gs:aVA) (i k:Y):Y:=amA (AF gs i).2.2.2.1 (AF gs i).2.2.2.2.1 (AF gs i).2.2.2.2.2.1 k
def aLg (gs:aVA) (i k:Y):Y:=amE (AF gs i).2.2.2.1 (AF gs i).2.2.2.2.1 (AF gs i).2.2.2.2.2.1 k
structure x9 (gs:aVA) (out:aVw):Prop where
 len:M out=M gs
 bd:∀a∈out,0<=a/\a<=1000000
def x9.put {gs:aVA}{out:aVw}(h:x9 gs out) {k:aVx}{v:Y}(hv:0<=v/\v<=1000000):x9 gs (out.set k v):=
 ⟨by rw [C4];exact h.len,λa ha=>by
  rcases Om ha with h2|h2
  ·exact h.bd a h2
  ·rw [h2];exact hv⟩
section
variable {P : List Int -> Bool} {tp : Int -> Int}
def IB (P:aVw->aVH) (tp:Y->Y) (L:Y) (lv:aVw) (i:Y):aVw:=
 if gi lv i=L-1/\L<=tp i then (if P (lv.set i.toNat L)=U then lv.set i.toNat L else lv) else lv
def Ji (P:aVw->aVH) (tp:Y->Y) (L:Y) (lv l:aVw):aVw:=l.foldl (IB P tp L) lv
def Fk (P:aVw->aVH) (tp:Y->Y) (od:aVw):aVx->Y->aVw->List Int
 |0,_,lv=>lv
 |f+1,L,lv=>Fk P tp od f (L+1)<|Ji P tp L lv od
def JE {l:aVw}{i j v:Y}(h0:0<=i) (h1:i<(M l:Y)) (hj:0<=j):gi (l.set i.toNat v) j=if j=i then v else gi l j:=by
 unfold gi;rw [TZ]
 by_cases e:j=i
 ·subst e
  omega
 ·omega
def SU (n:aVx) (l:aVw):Prop:=∀i∈l,0<=i/\i<(n:Y)
def aFc {L i:Y}{lv:aVw}:M (IB P tp L lv i)=M lv:=by
 unfold IB;split
 ·split
  ·grind
  ·rfl
 ·rfl
def ahZ {L i j:Y}{lv:aVw}(h:0<=i/\i<(M lv:Y)) (hj:0<=j):gi lv j<=gi (IB P tp L lv i) j:=by
 exact aMP
def aha {L i j:Y}{lv:aVw}(h:0<=i/\i<(M lv:Y)) (hj:0<=j):gi (IB P tp L lv i) j<=gi lv j\/(gi (IB P tp L lv i) j=L/\L<=tp j):=by
 exact aMP
def ams {L i:Y}{lv:aVw}(h:P lv=U):P (IB P tp L lv i)=true:=by
 unfold IB;split
 ·split
  ·grind
  ·exact h
 ·exact h
def dJ {L i:Y}{lv l:aVw}:Ji P tp L lv (i::l)=Ji P tp L (IB P tp L lv i) l:=rfl
def fL {L:Y}:∀ {l lv:aVw},M (Ji P tp L lv l)=M lv
 | [],_=>rfl
 |i::l,lv=>by rw [dJ,fL (l:=l),aFc]
def aSn {L j:Y}(hj:0<=j):∀ {l lv:aVw},SU (M lv) l->gi lv j<=gi (Ji P tp L lv l) j
 | [],_,_=>Cj _
 |i::l,lv,h=>by
  rw [dJ]
  have h1:=ahZ (P:=P) (tp:=tp) (L:=L) (h i AI) hj
  have h2:=aSn (L:=L) hj (l:=l) (lv:=IB P tp L lv i) aOr
  omega
def vb {L j:Y}(hj:0<=j):∀ {l lv:aVw},SU (M lv) l->gi (Ji P tp L lv l) j<=gi lv j\/(gi (Ji P tp L lv l) j<=L/\gi (Ji P tp L lv l) j<=tp j)
 | [],_,_=> .inl (Cj _)
 |i::l,lv,h=>by
  rw [dJ]
  have h1:=aha (P:=P) (tp:=tp) (L:=L) (h i AI) hj
  have h2:=vb (L:=L) hj (l:=l) (lv:=IB P tp L lv i) aOr
  omega
def aay {L:Y}:∀ {l lv:aVw},P lv=U->P (Ji P tp L lv l)=U
 | [],_,h=>h
 |i::l,lv,h=>by rw [dJ];exact aay (l:=l)<|ams h
def aJb {od:aVw}:∀ {f:aVx}{L:Y}{lv:aVw},M (Fk P tp od f L lv)=M lv
 |0,_,_=>rfl
 |f+1,L,lv=>by rw [Fk,aJb,fL]
def aSo {od:aVw}{j:Y}(hj:0<=j):∀ {f:aVx}{L:Y}{lv:aVw},SU (M lv) od->gi lv j<=gi (Fk P tp od f L lv) j
 |0,_,_,_=>Cj _
 |f+1,L,lv,h=>by
  rw [Fk]
  have h1:=aSn (P:=P) (tp:=tp) (L:=L) hj h
  have h2:=aSo (f:=f) (L:=L+1) (lv:=Ji P tp L lv od) hj (by rw [fL];exact h)
  omega
def aSp {od:aVw}{j:Y}(hj:0<=j):∀ {f:aVx}{L:Y}{lv:aVw},SU (M lv) od->gi (Fk P tp od f L lv) j<=gi lv j\/(gi (Fk P tp od f L lv) j<=L+f-1/\gi (Fk P tp od f L lv) j<=tp j)
 |0,_,_,_=> .inl (Cj _)
 |f+1,L,lv,h=>by
  rw [Fk]
  have h1:=vb (P:=P) (tp:=tp) (L:=L) hj h
  have h2:=aSp (f:=f) (L:=L+1) (lv:=Ji P tp L lv od) hj (by rw [fL];exact h)
  omega
def aaz {od:aVw}:∀ {f:aVx}{L:Y}{lv:aVw},P lv=U->P (Fk P tp od f L lv)=U
 |0,_,_,h=>h
 |f+1,L,lv,h=>by rw [Fk];exact aaz<|aay h
def aFm {od:aVw}:∀ {f:aVx}{L:Y}{lv:aVw},Fk P tp od (f+1) L lv=Ji P tp (L+f) (Fk P tp od f L lv) od
 |0,L,lv=>by simp [Fk]
 |f+1,L,lv=>by
  rw [Fk,aFm (f:=f) (L:=L+1),Fk,show L+1+(f:Y)=L+((f+1:aVx):Y) by omega]
def aE8 {L:Y}:∀ {l lv:aVw},(∀i∈l,gi lv i≠L-1\/tp i<L)->Ji P tp L lv l=lv
 | [],_,_=>rfl
 | i::l,lv,h=>by
  have e:IB P tp L lv i=lv:=by
   unfold IB
   grind
  rw [dJ,e,aE8 λj hj=>h j A8]
def aFT {od:aVw}:∀ {f:aVx}{L:Y}{lv:aVw},(∀i∈od,gi lv i<L-1)->Fk P tp od f L lv=lv
 |0,_,_,_=>rfl
 |f+1,L,lv,h=>by
  rw [Fk,aE8 λi hi=> .inl A8,aFT λi hi=>A8]
end
structure HQ (rows:aVT) (gs:aVA) (al mo od:aVw):Prop where
 mem:∀r∈rows,r.2.Nodup/\∀m∈r.2,0<=m/\m<(M gs:Y)
 has:∀i:Y,0<=i->i<(M gs:Y)->Dw (AF gs i).2.2.2.1 (AF gs i).2.2.2.2.1 (AF gs i).2.2.2.2.2.1=U
 gl:M gs<=16
 all:M al=M gs
 mol:M mo=M gs
 al:∀a∈al,0<=a/\a<=80
 mo:∀a∈mo,0<=a/\a<=80
 nd:od.Nodup
 ord:SU (M gs) od
 cov:∀i:Y,0<=i->i<(M gs:Y)->i∈od
def aAN {cs:aVF}{os:aVz}{ks:aVK}{gs:aVA}{bs:aVL}{al mo od:aVw}(h:Fz cs os ks gs bs al mo od=U):HQ (D3 cs gs<|M cs) gs al mo od:=by
 obtain ⟨hv,h1,h2,h3,h4,h5⟩:=Lp.1 h
 have hl:=(DC.1 hv).1
 obtain ⟨o1,o2,o3⟩:=aFS.1 h5;refine ⟨λr hr=>⟨(row_mem hr).1,(row_mem hr).2.1⟩,λi h0 h1=>?_,A0,h1,h2,λa ha=>Ql.1<|BH.1 h3 a ha,λa ha=>Ql.1<|BH.1 h4 a ha,o2,o3,λi h0 h1=>afj h5 h0 h1⟩
 have:=Nk hv h0 h1
 exact aNl
def PP (rows:aVT) (gs:aVA) (al lv:aVw):aVH:=Pe rows al<|FY gs lv
def tpO (gs:aVA) (mo:aVw) (i:Y):Y:=Fe gs i<|gi mo i
def aGv {gs:aVA}{lv:aVw}:M (FY gs lv)=M gs:=by simp [FY]
def Ti {gs:aVA}{lv:aVw}{i:Y}(h0:0<=i) (h1:i<(M gs:Y)):gi (FY gs lv) i=D7 gs i (gi lv i):=by
 rw [Ia (by rw [aGv];omega)]
 simp only [FY,xf,mI];rfl
def acH {gs:aVA}{i:Y}:D7 gs i 0=0:=by simp [D7,E9]
def aGx {gs:aVA}{i a b:Y}(hh:Dw (AF gs i).2.2.2.1 (AF gs i).2.2.2.2.1 (AF gs i).2.2.2.2.2.1=U) (h0:0<=a) (h1:a<=b):D7 gs i a<=D7 gs i b:=by
 obtain ⟨g1,g2,g3,g4,g5⟩:=IU.1 hh;exact aGw ⟨g1,g4⟩ h0 h1
def aUC {gs:aVA}{i a b:Y}(hh:Dw (AF gs i).2.2.2.1 (AF gs i).2.2.2.2.1 (AF gs i).2.2.2.2.2.1=U) (h0:0<=a) (h1:a<b):D7 gs i a<D7 gs i b:=by
 obtain ⟨g1,g2,g3,g4,g5⟩:=IU.1 hh
 have h2:=aGx hh (show 0<=a+1 by omega) (show a+1<=b by omega)
 have h3:D7 gs i a<D7 gs i (a+1):=by
  unfold D7 E9;split
  ·grind
  ·have:(a+1-1)*(AF gs i).2.2.2.2.2.1=(a-1)*(AF gs i).2.2.2.2.2.1+(AF gs i).2.2.2.2.2.1:=by
    grind
   omega
 omega
def aUB {gs:aVA}{i a:Y}(hh:Dw (AF gs i).2.2.2.1 (AF gs i).2.2.2.2.1 (AF gs i).2.2.2.2.2.1=U) (h0:0<=a):0<=D7 gs i a:=by
 have:=aGx hh (Cj 0) h0
 exact this
def asJ {a b c:Y}(h:b<=c):mx a b<=mx a c:=by
 unfold mx;omega
def aG6 {al am bm:aVw}:∀ {ms:aVw},(∀m∈ms,gi am m<=gi bm m)->IE al am ms<=IE al bm ms
 | [],_=>Cj _
 |m::ms,h=>by
  have h1:=aG6 (al:=al) (ms:=ms) λx hx=>h x A8
  have h2:=asJ (a:=gi al m)<|h m AI
  rw [TX,TX];omega
def pQ {al am bm:aVw}:∀ {ms:aVw},(∀m∈ms,gi am m=gi bm m)->IE al am ms=IE al bm ms
 | [],_=>rfl
 |m::ms,h=>by rw [TX,TX,pQ (ms:=ms) λx hx=>h x A8,h m AI]
def aHe {al am bm:aVw}{i:Y}:∀ {ms:aVw},ms.Nodup->i∈ms->(∀m∈ms,m≠i->gi am m=gi bm m)->IE al bm ms=IE al am ms+(mx (gi al i) (gi bm i)-mx (gi al i) (gi am i))
 | [],_,h,_=>Ar
 | m::ms,hn,hi,h=>by
  obtain ⟨n1,n2⟩:=MX.1 hn;rw [TX,TX]
  by_cases e:m=i
  ·subst e
   rw [pQ (am:=am) (bm:=bm) λx hx=>h x A8 λe=>n1<|e▸hx]
   omega
  ·have hi2:i∈ms:=by
    rcases BB.1 hi with h|h
    ·grind
    ·exact h
   rw [aHe n2 hi2 λx hx=>h x A8,h m AI e]
   omega
def aeZ {al am bm:aVw}{r:Rw}(h:∀m∈r.2,gi am m=gi bm m):rowB al am r=rowB al bm r:=by
 unfold rowB;rw [pQ h]
 congr 1
 rw [Iw,BH,BH]
 constructor
 ·grind
 ·grind
structure Inv (rows:aVT) (gs:aVA) (al sm lv:aVw):Prop where
 sl:M sm=M rows
 sm:∀k:aVx,k<M rows->sm.getD k 0=IE al (FY gs lv) (Cm rows k).2
 ll:M lv=M gs
 nn:∀j,0<=j->0<=gi lv j
 pp:PP rows gs al lv=U
def fP {rows:aVT}{k:Y}(h0:0<=k) (h1:k<(M rows:Y)):Cm rows k∈rows:=by
 rw [qQ A0];exact Gf _
def sU {rows:aVT}{gs:aVA}{al mo od lv:aVw}(H:HQ rows gs al mo od) {i L:Y}(hl:M lv=M gs) (h0:0<=i) (h1:i<(M gs:Y)) {r:Rw}(hr:r∈rows):
  (∀m∈r.2,m≠i->gi (FY gs lv) m=gi (FY gs<|lv.set i.toNat L) m)/\gi (FY gs<|lv.set i.toNat L) i=D7 gs i L:=by
 refine ⟨λm hm e=>?_,?_⟩
 ·obtain ⟨m0,m1⟩:=(H.mem r hr).2 m hm
  rw [Ti m0 m1,Ti m0 m1,JE h0 A0 m0,AE e]
 ·rw [Ti h0 h1,JE h0 A0 h0,AD rfl]
def aPr {rows:aVT}{gs:aVA}{al mo od lv:aVw}(H:HQ rows gs al mo od) {i L:Y}(hl:M lv=M gs) (h0:0<=i) (h1:i<(M gs:Y)) {r:Rw}(hr:r∈rows) (hc:gi lv i=L-1):
  IE al (FY gs<|lv.set i.toNat L) r.2=IE al (FY gs lv) r.2+(if i∈r.2 then GC gs al i L else 0):=by
 obtain ⟨p1,p2⟩:=sU (L:=L) H hl h0 h1 hr;split
 ·rename_i hi
  rw [aHe (am:=FY gs lv) (H.mem r hr).1 hi p1,p2,Ti h0 h1,hc];rfl
 ·rename_i hi
  rw [<-pQ (am:=FY gs lv) λm hm=>p1 m hm λe=>hi<|e▸hm]
  omega
def aty {rows:aVT}{gs:aVA}{al mo od sm lv:aVw}(H:HQ rows gs al mo od) (hI:Inv rows gs al sm lv) {i L:Y}(h0:0<=i) (h1:i<(M gs:Y)) (hL:1<=L) (hc:gi lv i=L-1):
  ((OL rows).getD i.toNat []).all (Ky rows sm<|GC gs al i L)=PP rows gs al (lv.set i.toNat L):=by
 have hg:=H.gl
 rw [vu (λr hr=>⟨(H.mem r hr).1,λm hm=>((H.mem r hr).2 m hm).1⟩) A0,Iw,BH]
 unfold PP Pe;rw [BH]
 have hpp:=hI.pp
 unfold PP Pe at hpp;rw [BH] at hpp
 have hpos:1<=D7 gs i L:=by
  have:=aUC (H.has i h0 h1) (Cj 0) (show 0<L by omega)
  rw [acH] at this;omega
 have hfit:∀k:Y,0<=k->k<(M rows:Y)->i∈(Cm rows k).2->(Ky rows sm (GC gs al i L) k=rowB al (FY gs<|lv.set i.toNat L) (Cm rows k)):=λk k0 k1 hk=>by
  have hr:=fP k0 k1
  have hs:=hI.sm k.toNat A0
  have hp:=aPr (L:=L) H hI.ll h0 h1 hr hc
  have hz:(Cm rows k).2.all (λm=>gi (FY gs<|lv.set i.toNat L) m==0)=false:=by
   rw [IQ];intro hz
   have:=BH.1 hz i hk
   rw [(sU (L:=L) H hI.ll h0 h1 hr).2,Cz] at this;omega
  unfold Ky rowB
  grind
 constructor
 ·intro h r hr
  obtain ⟨k,hk,rfl⟩:=Hs.1 hr
  have ek:Cm rows (k:Y)=rows[k]:=qQ yu
  by_cases hi:i∈rows[k].2
  ·have:=h (k:Y)<|Te.2 ⟨A0,A0,by
    rw [QN,ek,CO h0]
    simpa using hi⟩
   rw [hfit k A0 A0 A8,ek] at this;exact this
  ·rw [<-aeZ (am:=FY gs lv) λm hm=>(sU (L:=L) H hI.ll h0 h1 hr).1 m hm λe=>hi<|e▸hm]
   exact hpp _ hr
 ·intro h x hx
  obtain ⟨x0,x1,x2⟩:=Te.1 hx;rw [hfit x x0 A0 A8];exact h _<|fP x0 A0
def arF {rows:aVT}{gs:aVA}{al mo od sm lv:aVw}{b:aVH}(H:HQ rows gs al mo od) (hI:Inv rows gs al sm lv) {i L:Y}(h0:0<=i) (h1:i<(M gs:Y)) (hL:1<=L):
  (G3 (OL rows) rows gs al mo L (sm,lv,b) i).2.1=IB (PP rows gs al) (tpO gs mo) L lv i/\Inv rows gs al (G3 (OL rows) rows gs al mo L (sm,lv,b) i).1 (G3 (OL rows) rows gs al mo L (sm,lv,b) i).2.1/\((G3 (OL rows) rows gs al mo L (sm,lv,b) i).2.2=X->b=X/\(G3 (OL rows) rows gs al mo L (sm,lv,b) i).2.1=lv):=by
 unfold G3 IB
 by_cases hc:gi lv i=L-1/\L<=tpO gs mo i
 ·have hf:=aty H hI h0 h1 hL hc.1
  rw [AD (show lv.getD i.toNat 0=L-1/\L<=Fe gs i (gi mo i) from hc),AD hc,hf]
  by_cases hp:PP rows gs al (lv.set i.toNat L)=U
  ·rw [AD hp,AD hp]
   have hg:=H.gl
   refine ⟨rfl,⟨by rw [pD];exact hI.sl,λk hk=>?_,by rw [C4];exact hI.ll,λj hj=>?_,hp⟩,λh=>Ar⟩
   ·have hr:Cm rows (k:Y)∈rows:=fP A0 A0
    rw [vu (λr hr=>⟨(H.mem r hr).1,λm hm=>((H.mem r hr).2 m hm).1⟩) A0,rH pU (λr hr=>(Te.1 hr).1) (by rw [hI.sl];exact hk),hI.sm k hk,aPr (L:=L) H hI.ll h0 h1 hr hc.1]
    have:(k:Y)∈KD 0 rows (i.toNat:Y)↔i∈(Cm rows (k:Y)).2:=by
     rw [Te,QN,CO h0]
     constructor
     ·grind
     ·grind
    by_cases hm:i∈(Cm rows (k:Y)).2
    ·grind
    ·grind
   ·simp only
    rw [JE h0 (by rw [hI.ll];exact h1) hj]
    split
    ·omega
    ·exact hI.nn j hj
  ·rw [AE hp,AE hp]
   grind
 ·rw [AE (show ¬(lv.getD i.toNat 0=L-1/\L<=Fe gs i (gi mo i)) from hc),AE hc]
  grind
def aHg {rows:aVT}{gs:aVA}{al mo od:aVw}(H:HQ rows gs al mo od) {L:Y}(hL:1<=L):∀ {l sm lv:aVw}{b:aVH},SU (M gs) l->Inv rows gs al sm lv->
  (swp (OL rows) rows gs al mo L (sm,lv,b) l).2.1=Ji (PP rows gs al) (tpO gs mo) L lv l/\Inv rows gs al (swp (OL rows) rows gs al mo L (sm,lv,b) l).1 (swp (OL rows) rows gs al mo L (sm,lv,b) l).2.1/\((swp (OL rows) rows gs al mo L (sm,lv,b) l).2.2=X->b=X/\(swp (OL rows) rows gs al mo L (sm,lv,b) l).2.1=lv)
 | [],sm,lv,b,_,hI=>⟨rfl,hI,λh=>⟨h,rfl⟩⟩
 |i::l,sm,lv,b,hr,hI=>by
  obtain ⟨i0,i1⟩:=hr i AI;obtain ⟨r1,r2,r3⟩:=arF (b:=b) H hI i0 i1 hL;obtain ⟨s1,s2,s3⟩:=aHg H hL (l:=l) (b:=(G3 (OL rows) rows gs al mo L (sm,lv,b) i).2.2) (λx hx=>hr x A8) r2
  refine ⟨s1.trans (by rw [r1];rfl),s2,λh=>?_⟩
  obtain ⟨t1,t2⟩:=s3 h;obtain ⟨t3,t4⟩:=r3 t1;exact ⟨t3,t2.trans t4⟩
def aIK {rows:aVT}{gs:aVA}{al mo od:aVw}(H:HQ rows gs al mo od):∀ {f:aVx}{L:Y}{sm lv:aVw},1<=L->Inv rows gs al sm lv->(∀i∈od,gi lv i<=L-1)->shl (OL rows) rows gs al mo od f L sm lv=Fk (PP rows gs al) (tpO gs mo) od f L lv
 |0,_,_,_,_,_,_=>rfl
 | f+1,L,sm,lv,hL,hI,hb=>by
  obtain ⟨s1,s2,s3⟩:=aHg (b:=X) H hL H.ord hI;rw [shl,Fk];split
  ·rw [aIK H A0 s2 (λi hi=>by
    rw [s1]
    have h1:=vb (P:=PP rows gs al) (tp:=tpO gs mo) (L:=L) (H.ord i hi).1 (l:=od) (lv:=lv) (by rw [hI.ll];exact H.ord)
    have h2:=hb i hi
    omega),s1]
  ·rename_i hc
   have hc:(swp (OL rows) rows gs al mo L (sm,lv,X) od).2.2=false:=A8
   have e:=(s3 hc).2
   rw [<-s1,e,aFT λi hi=>A8]
def Kd {n:aVx}{j:Y}:gi (aq n 0) j=0:=by
 unfold gi
 grind
def aam {rows:aVT}{gs:aVA}{al mo od:aVw}(H:HQ rows gs al mo od):Inv rows gs al (SM al rows) (aq (M gs) 0):=by
 have hz:∀r∈rows,∀m∈r.2,gi (FY gs<|aq (M gs) 0) m=0:=λr hr m hm=>by
  obtain ⟨m0,m1⟩:=(H.mem r hr).2 m hm;rw [Ti m0 m1,Kd,acH]
 refine ⟨aEH,λk hk=>?_,Ci,λj _=>by rw [Kd];omega,?_⟩
 ·rw [aUG hk]
  have hr:Cm rows (k:Y)∈rows:=fP A0 A0
  unfold smA IE
  congr 1
  refine Jl λm hm=>?_
  obtain ⟨m0,m1⟩:=(H.mem _ hr).2 m hm;rw [hz _ hr m hm]
  have:=H.al _<|Ki m0 (by rw [H.all];exact m1)
  unfold mx;omega
 ·unfold PP Pe
  rw [BH];intro r hr;unfold rowB
  grind
def lvF (rows:aVT) (gs:aVA) (al mo od:aVw):aVw:=Fk (PP rows gs al) (tpO gs mo) od 80 1<|aq (M gs) 0
def tF {rows:aVT}{gs:aVA}{al mo od:aVw}(H:HQ rows gs al mo od) {i:Y}(h0:0<=i) (h1:i<(M gs:Y)):0<=tpO gs mo i/\tpO gs mo i<=80/\tpO gs mo i<Eb (AF gs i).2.2.2.1 (AF gs i).2.2.2.2.1 (AF gs i).2.2.2.2.2.1:=
 ⟨aew (H.has i h0 h1) (H.mo _<|Ki h0 (by rw [H.mol];exact h1)).1,vk,aSs<|H.has i h0 h1⟩
def axu {rows:aVT}{gs:aVA}{al mo od:aVw}(H:HQ rows gs al mo od):shV rows gs al mo od=lvF rows gs al mo od:=by
 unfold shV lvF;rw [H.all,aIK H A0 (aam H) (λi _=>by rw [Kd];omega),aFm,aE8 λi hi=> .inr ?_]
 have:=tF H (H.ord i hi).1 (H.ord i hi).2
 omega
section
variable {rows : List Rw} {gs : List Ch} {al mo od : List Int}
def asR:M (lvF rows gs al mo od)=M gs:=by
 unfold lvF;rw [aJb,Ci]
def aIA (H:HQ rows gs al mo od):SU (M<|aq (M gs) (0:Y)) od:=by rw [Ci];exact H.ord
def agf (H:HQ rows gs al mo od) {j:Y}(hj:0<=j):0<=gi (lvF rows gs al mo od) j:=by
 have:=aSo (P:=PP rows gs al) (tp:=tpO gs mo) (f:=80) (L:=1) hj<|aIA H
 rw [Kd] at this;exact this
def aS9 (H:HQ rows gs al mo od) {j:Y}(h0:0<=j) (h1:j<(M gs:Y)):gi (lvF rows gs al mo od) j<=tpO gs mo j:=by
 have h2:=aSp (P:=PP rows gs al) (tp:=tpO gs mo) (f:=80) (L:=1) h0<|aIA H
 rw [Kd] at h2
 have h3:=tF H h0 h1
 unfold lvF;omega
def agd (H:HQ rows gs al mo od):PP rows gs al (lvF rows gs al mo od)=true:=aaz (aam H).pp
def asY {i k:Y}(hh:Dw (AF gs i).2.2.2.1 (AF gs i).2.2.2.2.1 (AF gs i).2.2.2.2.2.1=U) (h0:0<=k) (h1:k<Eb (AF gs i).2.2.2.1 (AF gs i).2.2.2.2.1 (AF gs i).2.2.2.2.2.1):Fe gs i (D7 gs i k)=k:=by
 have h2:=aUB hh h0
 have h3:=(sM hh h2 h0 h1).1<|Cj _
 have h4:=aSs (a:=D7 gs i k) hh
 have h5:=(sM hh h2 (k:=He (AF gs i).2.2.2.1 (AF gs i).2.2.2.2.1 (AF gs i).2.2.2.2.2.1<|D7 gs i k) A0 h4).2<|Cj _
 by_cases e:k<He (AF gs i).2.2.2.1 (AF gs i).2.2.2.2.1 (AF gs i).2.2.2.2.2.1 (D7 gs i k)
 ·have:=aUC hh h0 e
  have h5:D7 gs i (He (AF gs i).2.2.2.1 (AF gs i).2.2.2.2.1 (AF gs i).2.2.2.2.2.1<|D7 gs i k)<=D7 gs i k:=h5
  omega
 ·unfold Fe
  omega
end
def avL {mi ma st k:Y}(hh:Dw mi ma st=U) (h0:0<=k) (h1:k<Eb mi ma st):E9 mi st k<=ma:=by
 obtain ⟨g1,g2,g3,g4,g5⟩:=IU.1 hh;unfold E9;split
 ·omega
 ·unfold Eb at h1
  have h2:(k-1)<=(ma-mi) / st:=A0
  have:=(Int.le_ediv_iff_mul_le (a:=k-1) (b:=ma-mi) (c:=st) A0).1 h2
  omega
def ahr {mi ma st k:Y}(h0:0<=k) (h1:k<Eb mi ma st):amA mi ma st k=E9 mi st k/\amE mi ma st k=0:=by
 unfold amA amE
 grind
section
variable {rows : List Rw} {gs : List Ch} {al mo od lv : List Int}
def lvR (gs:aVA) (lv:aVw):Prop:=M lv=M gs/\∀j,0<=j->j<(M gs:Y)->0<=gi lv j/\gi lv j<Eb (AF gs j).2.2.2.1 (AF gs j).2.2.2.2.1 (AF gs j).2.2.2.2.2.1
def aB2 (H:HQ rows gs al mo od):lvR gs (lvF rows gs al mo od):=⟨asR,λj h0 h1=>⟨agf H h0,by
 have:=aS9 H h0 h1
 have:=tF H h0 h1
 omega⟩⟩
def avM (H:HQ rows gs al mo od) {j k:Y}(h0:0<=j) (h1:j<(M gs:Y)) (k0:0<=k) (k1:k<Eb (AF gs j).2.2.2.1 (AF gs j).2.2.2.2.1 (AF gs j).2.2.2.2.2.1):(0<=D7 gs j k/\D7 gs j k<=80)/\aLg gs j k=0/\aLh gs j k=D7 gs j k/\Fe gs j (D7 gs j k)=k:=by
 have hh:=H.has j h0 h1
 obtain ⟨g1,g2,g3,g4,g5⟩:=IU.1 hh
 have h2:=avL hh k0 k1
 obtain ⟨e1,e2⟩:=ahr k0 k1;refine ⟨⟨aUB hh k0,?_⟩,e2,e1,asY hh k0 k1⟩;unfold D7;omega
def ahp (H:HQ rows gs al mo od) (R:lvR gs lv) {j:Y}(h0:0<=j) (h1:j<(M gs:Y)):letI a:=FY gs lv;Fe gs j (gi a j)=gi lv j/\aLg gs j (gi lv j)=0/\aLh gs j (gi lv j)=gi a j/\0<=gi a j/\gi a j<=80:=by
 obtain ⟨r0,r1⟩:=R.2 j h0 h1;obtain ⟨a1,a2,a3,a4⟩:=avM H h0 h1 r0 r1;rw [Ti h0 h1]
 grind
def ajU (H:HQ rows gs al mo od) {j k:Y}(h0:0<=j) (h1:j<(M gs:Y)) (k0:0<=k) (k1:k<Eb (AF gs j).2.2.2.1 (AF gs j).2.2.2.2.1 (AF gs j).2.2.2.2.2.1):D7 gs j k<=gi mo j↔k<=tpO gs mo j:=
 sM (H.has j h0 h1) (H.mo _<|Ki h0 (by rw [H.mol];exact h1)).1 k0 k1
def acw {a b:aVw}(hl:M a=M b) (h:∀j:Y,0<=j->j<(M b:Y)->gi a j=gi b j):a=b:=Zj hl λk h1 h2=>by
 have:=h (k:Y) A0 A0
 rw [Ia A8,Ia A8] at this
 grind
def g4 (gs:aVA) (mo b am:aVw) (j:Y):Prop:=(0<=gi b j/\gi b j<Eb (AF gs j).2.2.2.1 (AF gs j).2.2.2.2.1 (AF gs j).2.2.2.2.2.1)/\gi am j=D7 gs j (gi b j)/\gi am j<=gi mo j
end
section
variable {cs : List Cd} {os : List ByteArray} {ks : List Ko} {gs : List Ch} {bs : List Ba} {al mo od : List Int}
def aPy (h:Fz cs os ks gs bs al mo od=U):Fc cs os ks gs bs al mo od=FY gs (lvF (D3 cs gs<|M cs) gs al mo od):=by
 unfold Fc;rw [AD h,axu<|aAN h]
def aa1 (h:Fz cs os ks gs bs al mo od=U):shE cs os ks gs bs al mo od=0:=by unfold shE;rw [AD h]
end
abbrev Aj:Ty:=.pair A7 A7
abbrev Ra:=Int×Int
def aV3:qT (List Ra):=⟨⟩
def aWn:qT (List<|Int×Ra):=⟨⟩
instance:Coe (List Ra) LV:=⟨.xl Aj⟩
def C2 (l:aV3) (n:Y):Ra:=l.getD n.toNat (0,0)
def wH {l:aV3}{n:Y}(h:n.toNat<M l):C2 l n=l[n.toNat]:=Lz h
def aSq {l:aVw}{j:Y}(h:M l<=j.toNat):gi l j=0:=by
 unfold gi;rw [DA,Sw h];rfl
def agY {l:aVw}{a:Y}(h:a∈l):∃j:Y,(0<=j/\j<(M l:Y))/\gi l j=a:=by
 obtain ⟨k,hk,e⟩:=Hs.1 h;exact ⟨k,A0,by rw [Ia A8];simpa using e⟩
def neN {a b:aVx}:((a:Y) !=(b:Y))=!an (a=b):=by
 by_cases h:a=b
 ·simp [h]
 ·have h':(a:Y)≠(b:Y):=A0
  simp [h,h']
def Fb (t:Y) (x:Le):aVH:=an (x.2.2.2.1<=t)&&an (DF x>t)
def Jb (o:aVw) (x:Le):aVw:=o.set x.2.1.toNat<|mx (gi o x.2.1) x.2.2.1
def GP (n:aVx) (l:aVG) (t:Y):aVw:=(l.filter<|Fb t).foldl Jb<|aq n 0
def below (n:Y) (l:aVG):aVH:=l.all λx=>an<|x.2.1<n
def K5 (l:aVG) (n t:Y):aVH:=(B0 l&&(inB n 0 16&&inB t 0 1100000))&&below n l
def HL (l:aVG) (n t:Y):aVw:=if K5 l n t=U then GP n.toNat l t else []
def JU (l:aVG) (n t:Y):Y:=if K5 l n t=U then 0 else 1
def aFb {o:aVw}{x:Le}:M (Jb o x)=M o:=by simp [Jb]
def aHp:∀ {l:aVG}{o:aVw},M (l.foldl Jb o)=M o
 | [],_=>rfl
 |x::l,o=>by rw [KI,aHp,aFb]
def dW {n:aVx}{l:aVG}{t:Y}:M (GP n l t)=n:=by rw [GP,aHp,Ci]
def aFR {l:aVG}(h:B0 l=U):l.Pairwise (λa b=>a.1<b.1/\a.2.2.2.1<=b.2.2.2.1):=by
 unfold B0 at h;rw [AX] at h
 have hs:∀k:aVx,(hk:k+1<M l)->l[k].1<l[k+1].1/\l[k].2.2.2.1<=l[k+1].2.2.2.1:=λk hk=>by
  have:=Dl.1 h.2 (k+1) A0
  unfold H5 K9 at this;rw [Mw (n:=((k+1:aVx):Y)) A8,Mw (n:=((k+1:aVx):Y)-1) A0] at this;simp only [AX,Cf,Ab] at this;obtain ⟨_,h1|h1⟩:=this
  ·omega
  ·have e:(((k+1:aVx):Y)-1).toNat=k:=A0
   simp only [e,C0] at h1;omega
 rw [lh];intro i j hi hj hij
 induction j with
 |zero=>omega
 | succ j ih=>
  have h1:=hs j A0
  by_cases e:i=j
  ·grind
  ·have h2:=ih A0 A0
   omega
def CV (c:Ch):Y:=c.2.2.2.2.2.2.1
def raC (c:Ch) (r:Ra):aVH:=IF c.2.2.1 c.2.2.2.1 c.2.2.2.2.1 c.2.2.2.2.2.1 (CV c) r.1 r.2
def Hi (x:Dm):aVH:=inB x.2.1 0 1000000000&&(inB x.2.2.1 0 1000000&&inB x.2.2.2 1 9)
def JZ (cs:aVF) (os:aVz) (ks:aVK) (gs:aVA) (bs:aVL) (l:aVG) (rs:aV3) (d:aVU) (t n:Y):aVH:=
 (B6 cs os ks gs bs&&B0 l)&&((an (M rs=M gs)&&(an (M d=M gs)&&(inB t 0 1000000&&inB n 1 999900)))&&(below (M gs) l&&DS (M gs) (λj=>raC (AF gs j) (C2 rs j)&&Hi (E7 d j))))
def HP (n:aVx) (f:Y->Y):aVw:=(au n).map λk:aVx=>f (k:Y)
def IT {n:aVx}{f:Y->Y}:M (HP n f)=n:=by simp [HP]
def P4 {n:aVx}{f:Y->Y}{j:Y}(h0:0<=j) (h1:j<(n:Y)):gi (HP n f) j=f j:=by
 rw [Ia (by rw [IT];omega)]
 simp only [HP,xf,mI]
 grind
def aEU {n:aVx}{f:Y->Y}{x:Y}(h:x∈HP n f):∃j,(0<=j/\j<(n:Y))/\f j=x:=by
 obtain ⟨k,hk,e⟩:=F4.1 h
 grind
def Bt (gs:aVA):aVw:=HP (M gs) λk=>CV<|AF gs k
def JG (gs:aVA) (d:aVU):aVw:=HP (M gs) (λk=>if (E7 d k).1=U then (AF gs k).2.2.2.2.1 else 0)
def D4 (gs:aVA) (l:aVG) (t:Y):aVw:=HP (M gs) λk=>mx (CV<|AF gs k)<|gi (GP (M gs) l t) k
def tgL (cs:aVF) (os:aVz) (ks:aVK) (gs:aVA) (bs:aVL) (d:aVU) (t:Y):aVw:=Fc cs os ks gs bs (Bt gs) (JG gs d)<|HN d t
def HS (cs:aVF) (os:aVz) (ks:aVK) (gs:aVA) (bs:aVL) (l:aVG) (d:aVU) (t:Y):aVw:=Fc cs os ks gs bs (D4 gs l t) (tgL cs os ks gs bs d t)<|HN d t
def afJ {l:aV3}{i j:Y}{v:Ra}(h0:0<=i) (h1:i<(M l:Y)) (hj:0<=j):C2 (l.set i.toNat v) j=if j=i then v else C2 l j:=by
 unfold C2;rw [DA,DA,IS]
 by_cases e:j=i
 ·subst e
  rw [AD rfl,AD rfl,AD A0];rfl
 ·grind
def atn {a b:aV3}(hl:M a=M b) (h:∀j:Y,0<=j->j<(M b:Y)->C2 a j=C2 b j):a=b:=Zj hl λk h1 h2=>by
 have:=h (k:Y) A0 A0
 rw [wH A8,wH A8] at this
 grind
def ofO (cs:aVF) (os:aVz) (ks:aVK) (gs:aVA) (bs:aVL) (l:aVG) (d:aVU) (t:Y) (od:aVw):aVw:=Fc cs os ks gs bs (D4 gs l t) (Fc cs os ks gs bs (Bt gs) (JG gs d) od) od
def nwO (a t:Y):Option Le->Bool
 |none=>U
 |some x=>x.2.2.1 !=a ||an (x.2.2.2.1<=t-6)
def nwB (gs:aVA) (l:aVG) (t i a:Y):aVH:=!an (a<=CV (AF gs i))&&nwO a t (l.reverse.find? λx=>x.2.1==i)
def LR (c:Ch) (r:Ra) (w:Y):Y:=nA c.2.2.1 c.2.2.2.1 c.2.2.2.2.1 c.2.2.2.2.2.1 (CV c) r.1 r.2 w
def nxS (c:Ch) (r:Ra) (w:Y):Y:=nS c.2.2.1 c.2.2.2.1 c.2.2.2.2.1 c.2.2.2.2.2.1 (CV c) r.1 r.2 w
def FH (gs:aVA) (rs:aV3) (w:aVw) (k:aVx):aVw:=HP k λk=>LR (AF gs k) (C2 rs k)<|gi w k
def dcR (gs:aVA) (rs:aV3) (w:aVw) (k:aVx):aV3:=(au k).map λk:aVx=>(LR (AF gs k) (C2 rs k)<|gi w k,nxS (AF gs k) (C2 rs k)<|gi w k)
def HG (gs:aVA) (l:aVG) (t n:Y) (am:aVw):aVx->List Le
 |0=>[]
 |k+1=>HG gs l t n am k++(if nwB gs l t k (gi am k)=U then [(n+M (HG gs l t n am k),(k:Y),gi am k,t,12)] else [])
def fA {gs:aVA}{rs:aV3}{w:aVw}{k:aVx}:M (dcR gs rs w k)=k:=by simp [dcR]
def aiQ {gs:aVA}{rs:aV3}{w:aVw}{k:aVx}{j:Y}(h0:0<=j) (h1:j<(k:Y)):C2 (dcR gs rs w k) j=(LR (AF gs j) (C2 rs j)<|gi w j,nxS (AF gs j) (C2 rs j)<|gi w j):=by
 rw [wH (by rw [fA];omega)]
 simp only [dcR,xf,mI]
 grind
def okC (c:Ch) (r:Ra) (w:Y):aVH:=okB c.2.2.1 c.2.2.2.1 c.2.2.2.2.1 c.2.2.2.2.2.1 (CV c) r.1 r.2 w
def dcK (gs:aVA) (rs:aV3) (w:aVw):Prop:=∀j,0<=j->j<(M gs:Y)->okC (AF gs j) (C2 rs j) (gi w j)=U
def aDz {gs:aVA}{l:aVG}{t n:Y}{am:aVw}:∀ {k:aVx},M (HG gs l t n am k)<=k
 |0=>by simp [HG]
 |k+1=>by
  have:=aDz (gs:=gs) (l:=l) (t:=t) (n:=n) (am:=am) (k:=k)
  rw [HG,BI];exact aO
section
variable (cs : List Cd) (os : List ByteArray) (ks : List Ko) (gs : List Ch) (bs : List Ba) (l : List Le) (rs : List Ra) (d : List Dm) (t n : Int)
def deA:aVw:=if JZ cs os ks gs bs l rs d t n=U then FH gs rs (HS cs os ks gs bs l d t) (M gs) else []
def deR:aV3:=if JZ cs os ks gs bs l rs d t n=U then dcR gs rs (HS cs os ks gs bs l d t) (M gs) else []
def deL:aVG:=if JZ cs os ks gs bs l rs d t n=U then HG gs l t n (FH gs rs (HS cs os ks gs bs l d t)<|M gs) (M gs) else []
def deE:Y:=if JZ cs os ks gs bs l rs d t n=U then 0 else 1
end
section
variable {cs : List Cd} {os : List ByteArray} {ks : List Ko} {gs : List Ch} {bs : List Ba} {l : List Le} {rs : List Ra} {d : List Dm} {t n : Int}
structure Vd (cs:aVF) (os:aVz) (ks:aVK) (gs:aVA) (bs:aVL) (l:aVG) (rs:aV3) (d:aVU) (t n:Y):Prop where
 site:B6 cs os ks gs bs=U
 les:B0 l=U
 rl:M rs=M gs
 dl:M d=M gs
 gl:M gs<=16
 tb:0<=t/\t<=1000000
 nb:1<=n/\n<=999900
 co:below (M gs) l=U
 ra:∀j:Y,0<=j->j<(M gs:Y)->raC (AF gs j) (C2 rs j)=U
 dm:∀j:Y,0<=j->j<(M gs:Y)->Hi (E7 d j)=U
 ch:∀j:Y,0<=j->j<(M gs:Y)->MQ (AF gs j)=U
def aVj (h:JZ cs os ks gs bs l rs d t n=U):Vd cs os ks gs bs l rs d t n:=by
 unfold JZ at h;simp only [AX,Ab,BS] at h;obtain ⟨⟨h1,h2⟩,⟨h3,h4,h5,h6⟩,h7,h8⟩:=h
 have hj:∀j:Y,0<=j->j<(M gs:Y)->raC (AF gs j) (C2 rs j)=U/\Hi (E7 d j)=true:=λj h0 hj=>by
  have:=Dl.1 h8 j.toNat A0
  rw [CO h0,AX] at this;exact this
 exact ⟨h1,h2,h3,h4,(DC.1 h1).1.2.2.2.2.1,h5,h6,h7,λj h0 h1=>(hj j h0 h1).1,λj h0 h1=>(hj j h0 h1).2,λj h0 hj=>by
  have:=Nk h1 h0 hj
  unfold G4 at this;simp only [AX] at this;exact this.2.2⟩
def fh {c:Ch}(h:MQ c=U):(1<=c.2.2.1/\c.2.2.1<=7)/\(1<=c.2.2.2.1/\c.2.2.2.1<=c.2.2.2.2.1)/\c.2.2.2.2.1<=80/\(1<=c.2.2.2.2.2.1/\c.2.2.2.2.2.1<=80)/\0<=CV c/\CV c<=c.2.2.2.2.1:=by
 unfold MQ at h;unfold CV;simp only [AX,Cf,BS,Cz] at h;omega
def fE (hv:B0 l=U) {m:aVx}:∀a∈GP m l t,0<=a/\a<=80:=by
 have key:∀(l:aVG) (o:aVw),(∀x∈l,DM x=U)->(∀a∈o,0<=a/\a<=80)->∀a∈l.foldl Jb o,0<=a/\a<=80:=λl=>by
  induction l with
  |nil=>exact λo _ h=>h
  | cons x l ih=>
   intro o hl ho;refine ih _ (λy hy=>hl y A8) λa ha=>?_
   have hx:=KY.1<|hl x AI
   rcases Om ha with ha|rfl
   ·grind
   ·have:0<=gi o x.2.1/\gi o x.2.1<=80:=by
     by_cases h:x.2.1.toNat<M o
     ·rw [Ia h];exact ho _<|Gf _
     ·rw [aSq A0];omega
    unfold mx;omega
 refine key _ _ (λx hx=>(GK hv).2 x (Cg.1 hx).1) λa ha=>?_
 rw [List.eq_of_mem_replicate ha];omega
def aJR (hd:M d=M gs):Gv (HN d t) (M gs)=true:=by
 unfold Gv;rw [aFs,hd,CY rfl,EU,AX,BH];refine ⟨λx hx=>pn.2 (by have:=aoP.1 hx;rw [hd] at this;exact this),qt.2 λj hj hm=>?_⟩
 obtain ⟨k,hk,e⟩:=Hs.1 hm;rw [MT] at hk;rw [List.getElem_take] at e
 have:=(lh.1<|aeU (d:=d) (t:=t)) k j A0 hj A0
 exact this e
def Xk {l:aVw}{a b:Y}(hz:a<=0/\0<=b) (h:∀x∈l,a<=x/\x<=b) {j:Y}:a<=gi l j/\gi l j<=b:=by
 by_cases hj:j.toNat<M l
 ·rw [Ia hj];exact h _<|Gf _
 ·rw [aSq A0];exact hz
structure Si (cs:aVF) (os:aVz) (ks:aVK) (gs:aVA) (bs:aVL) (d:aVU):Prop where
 site:B6 cs os ks gs bs=U
 dl:M d=M gs
def Si.ch (h:Si cs os ks gs bs d) {j:Y}(h0:0<=j) (hj:j<(M gs:Y)):MQ (AF gs j)=true:=by
 have:=Nk h.site h0 hj
 unfold G4 at this
 grind
def Vd.si (h:Vd cs os ks gs bs l rs d t n):Si cs os ks gs bs d:=⟨h.site,h.dl⟩
def aiF (h:Si cs os ks gs bs d):∀a∈Bt gs,0<=a/\a<=80:=λa ha=>by
 exact aNF
def aw6 (h:Si cs os ks gs bs d):∀a∈JG gs d,0<=a/\a<=80:=λa ha=>by
 exact aNF
def ahs (h:Vd cs os ks gs bs l rs d t n):∀a∈D4 gs l t,0<=a/\a<=80:=λa ha=>by
 obtain ⟨j,⟨h0,h1⟩,rfl⟩:=aEU ha
 have:=fh<|h.ch j h0 h1
 have:=Xk (j:=j) ⟨Cj 0,Aa⟩<|fE h.les (m:=M gs) (t:=t)
 unfold mx;omega
def aPz {al mo od:aVw}(hk:Fz cs os ks gs bs al mo od=U):letI a:=Fc cs os ks gs bs al mo od;M a=M gs/\∀j,0<=j->j<(M gs:Y)->(0<=gi a j/\gi a j<=80)/\gi a j<=gi mo j:=by
 have H:=aAN hk
 rw [aPy hk];refine ⟨aGv,λj h0 h1=>?_⟩
 obtain ⟨_,_,_,e4,e5⟩:=ahp H (aB2 H) h0 h1
 have h3:=(ajU H h0 h1 ((aB2 H).2 j h0 h1).1 ((aB2 H).2 j h0 h1).2).2<|aS9 H h0 h1
 rw [Ti h0 h1] at e4 e5|-
 grind
def aIL {al mo od:aVw}(hk:Fz cs os ks gs bs al mo od=U):M (Fc cs os ks gs bs al mo od)=M gs/\∀a∈Fc cs os ks gs bs al mo od,0<=a/\a<=80:=by
 obtain ⟨h1,h2⟩:=aPz hk;refine ⟨h1,λa ha=>?_⟩
 obtain ⟨j,hj,rfl⟩:=agY ha
 grind
def aad (h:Si cs os ks gs bs d):Fz cs os ks gs bs (Bt gs) (JG gs d) (HN d t)=true:=
 Lp.2 ⟨h.site,IT,IT,BH.2 λa ha=>Ql.2<|aiF h a ha,BH.2 λa ha=>Ql.2<|aw6 h a ha,aJR h.dl⟩
def aae (h:Si cs os ks gs bs d):M (tgL cs os ks gs bs d t)=M gs/\∀a∈tgL cs os ks gs bs d t,0<=a/\a<=80:=by
 exact aIL<|aad (t:=t) h
def j8 (h:Vd cs os ks gs bs l rs d t n):Fz cs os ks gs bs (D4 gs l t) (tgL cs os ks gs bs d t) (HN d t)=true:=
 Lp.2 ⟨h.site,IT,(aae h.si).1,BH.2 λa ha=>Ql.2<|ahs h a ha,BH.2 λa ha=>Ql.2<|(aae h.si).2 a ha,aJR h.dl⟩
def abL (h:Vd cs os ks gs bs l rs d t n):M (HS cs os ks gs bs l d t)=M gs/\∀a∈HS cs os ks gs bs l d t,0<=a/\a<=80:=by
 exact aIL<|j8 h
def alP (h:Vd cs os ks gs bs l rs d t n) {j:Y}:letI a:=HS cs os ks gs bs l d t;0<=gi a j/\gi a j<=80:=Xk ⟨Cj 0,Aa⟩ (abL h).2
def aTE (h:Vd cs os ks gs bs l rs d t n):dcK gs rs (HS cs os ks gs bs l d t):=λj j0 j1=>by
 have hr:=h.ra j j0 j1
 have hb:=alP h (j:=j)
 unfold raC at hr;unfold okC okB;rw [hr,CY hb.1,CY hb.2];rfl
def avN (h:Vd cs os ks gs bs l rs d t n):K5 l (M gs) t=true:=by
 have:=h.gl
 have:=h.tb
 unfold K5;rw [h.les,BS.2 ⟨A0,A0⟩,BS.2 ⟨A0,A0⟩,h.co];rfl
end
section
variable {P : List Int -> Bool} {tp : Int -> Int}
end
def LW (mn mx st a:Y):aVH:=a==0 ||(an (mn<=a)&&(an (a<=mx)&&((a-mn) %st==0)))
def Wl {mn mx st a:Y}:LW mn mx st a=U↔a=0\/(mn<=a/\a<=mx/\(a-mn) %st=0):=by simp [LW]
def du {mn mx st a:Y}(hc:EB mn mx st):LW mn mx st (C1 mn mx st a)=true:=by
 unfold EB at hc;rw [Wl];unfold C1;split
 ·grind
 ·right
  have e1:=aDc (x:=min a mx-mn) (s:=st) A0 A0
  refine ⟨A0,A0,?_⟩
  have h:=lz (min a mx-mn) st
  rw [show min a mx-(min a mx-mn) %st-mn=st*((min a mx-mn) / st) by omega]
  simp_all
def gL {mn mx st a:Y}(hc:EB mn mx st) (ha:0<=a):C1 mn mx st a<=a:=by
 have hc':=hc
 have:=cf (a:=a) hc'.1 hc'.2.1 hc'.2.2.1 hc'.2.2.2.1
 by_cases h:a<mn
 ·omega
 ·omega
def asK {x y s:Y}(hs:1<=s) (hy:y%s=0) (h:y<=x):y<=x-x%s:=by
 have h1:=lz x s
 have h2:=lz y s
 have h3:=Int.emod_lt_of_pos x (b:=s) A0
 by_cases hq:y / s<=x / s
 ·have:=QI hq (show 0<=s by omega)
  omega
 ·have:=QI (show x / s+1<=y / s by omega) (show 0<=s by omega)
  rw [Int.mul_add,Int.mul_one] at this;omega
def p0 {mn mx st a L:Y}(hc:EB mn mx st) (hL:LW mn mx st L=U) (h:L<=a):L<=C1 mn mx st a:=by
 have hc':=hc
 unfold EB at hc';rw [Wl] at hL;rcases hL with rfl|⟨h1,h2,h3⟩
 ·exact (cf (a:=a) hc'.1 hc'.2.1 hc'.2.2.1 hc'.2.2.2.1).1
 ·unfold C1
  have:=asK (x:=min a mx-mn) (y:=L-mn) (s:=st) A0 h3 A0
  omega
def aFx {mn mx st a:Y}(hc:EB mn mx st) (h:LW mn mx st a=U) (ha:0<=a):C1 mn mx st a=a:=by
 have h1:=gL hc ha
 have h2:=p0 hc h<|Cj a
 omega
def aFv {ph mn mx st fb a s want:Y}(h:okB ph mn mx st fb a s want=U):EB mn mx st/\0<=s/\s<=1000000/\0<=want/\want<=80/\0<=a/\a<=80/\LW mn mx st a=U/\a<=mx/\(a≠0->mn<=a):=by
 have h':=h
 simp only [okB,IF,AX,Ab,Cz] at h';obtain ⟨⟨_,_,_,_,h5⟩,_⟩:=h';obtain ⟨_,h2,h3,h4,h6,h7,_⟩:=aIC h
 have hl:LW mn mx st a=true:=by rw [<-h5];exact du h2
 have hl':=Wl.1 hl
 have h2':=h2
 unfold EB at h2'
 grind
def alh {ph mn mx st fb a s want:Y}(h:okB ph mn mx st fb a s want=U):nE ph mn mx st fb a s want=0:=by rw [nE,AD h]
def abO {ph mn mx st fb a s want:Y}(h:okB ph mn mx st fb a s want=U):nA ph mn mx st fb a s want=if a=0 then (if C1 mn mx st want≠0/\5<=s then mn else 0) else if C1 mn mx st want=0 then 0 else min (C1 mn mx st want) (a+st):=by rw [nA,AD h]
def alg {ph mn mx st fb a s want:Y}(h:okB ph mn mx st fb a s want=U):nS ph mn mx st fb a s want=if a=0 then (if C1 mn mx st want≠0/\5<=s then 0 else min (s+1) 1000000) else if C1 mn mx st want=0 then 0 else min (s+1) 1000000:=by rw [nS,AD h]
def aT0 {mn mx st:Y}(hc:EB mn mx st):LW mn mx st mn=true:=by
 unfold EB at hc;rw [Wl];right;exact ⟨A0,A0,AI⟩
def asD {mn mx st a:Y}(ha:LW mn mx st a=U) (h0:a≠0) (h1:a+st<=mx) (hs:1<=st):LW mn mx st (a+st)=true:=by
 rw [Wl] at ha|-;rcases ha with h|⟨h2,h3,h4⟩
 ·grind
 ·right
  exact ⟨A0,h1,by rw [show a+st-mn=(a-mn)+st by omega,Int.add_emod_right];exact h4⟩
def aFy {mn mx st a b:Y}(hc:EB mn mx st) (h0:0<=a) (h:a<=b):C1 mn mx st a<=C1 mn mx st b:=by
 have h1:=gL hc h0
 exact p0 hc (du (a:=a) hc) A0
def afQ {mn mx st a:Y}(hc:EB mn mx st):C1 mn mx st a<=mx:=by
 have h:=Wl.1<|du (a:=a) hc
 unfold EB at hc;omega
def arJ {mn mx st a want:Y}(hc:EB mn mx st) (ha:LW mn mx st a=U) (h0:a≠0) (ha0:0<=a) (hw:0<=want):(if C1 mn mx st want=0 then 0 else min (C1 mn mx st want) (a+st))=C1 mn mx st (min want<|a+st):=by
 have hc':=hc
 unfold EB at hc'
 by_cases h1:want<=a+st
 ·rw [show min want (a+st)=want by omega]
  have:=gL hc hw
  omega
 ·rw [show min want (a+st)=a+st by omega]
  by_cases h2:a+st<=mx
  ·have hl:=asD ha h0 h2 A0
   rw [aFx hc hl A0]
   have:=p0 hc hl (show a+st<=want by omega)
   omega
  ·have m1:=afQ (a:=want) hc
   have g1:=p0 hc (du (a:=want) hc) (show C1 mn mx st want<=a+st by omega)
   have g2:=aFy hc (show 0<=a+st by omega) (show a+st<=want by omega)
   omega
def asv {ph mn mx st fb a s want most:Y}(hk:okB ph mn mx st fb a s want=U) (hm:most=if a=0 then mn else a+st):
  LW mn mx st (nA ph mn mx st fb a s want)=U/\nA ph mn mx st fb a s want<=want/\nA ph mn mx st fb a s want<=most/\(nA ph mn mx st fb a s want=C1 mn mx st (min want most)\/(a=0/\s<5/\nA ph mn mx st fb a s want=0))/\(a≠0\/5<=s\/nA ph mn mx st fb a s want=0):=by
 obtain ⟨hc,h1,h2,h3,h4,h5,h6,h7,h8,h9⟩:=aFv hk
 have hc':=hc
 unfold EB at hc';rw [abO hk]
 by_cases h0:a=0
 ·rw [AD h0] at hm|-
  by_cases hh:C1 mn mx st want≠0/\5<=s
  ·rw [AD hh]
   have hw:mn<=want:=by
    apply Classical.byContradiction
    intro hn;exact hh.1<|by rw [C1,AD A0]
   refine ⟨aT0 hc,hw,A0,.inl ?_,.inr<|.inl hh.2⟩;rw [hm,show min want mn=mn by omega,aFx hc (aT0 hc) A0]
  ·rw [AE hh]
   refine ⟨A8,h3,A0,?_,.inr<|.inr rfl⟩
   by_cases hs:s<5
   ·grind
   ·left
    have h10:C1 mn mx st want=0:=by
     apply Classical.byContradiction
     omega
    have:=aFy hc (show 0<=min want most by omega) (show min want most<=want by omega)
    have:=(cf (a:=min want most) hc'.1 hc'.2.1 hc'.2.2.1 hc'.2.2.2.1).1
    omega
 ·rw [AE h0] at hm|-
  rw [arJ hc h7 h0 h5 h3]
  have:=gL hc (show 0<=min want (a+st) by omega)
  exact ⟨du hc,A0,A0,.inl<|by rw [hm],.inl h0⟩
def aeT {ph mn mx st fb a s want:Y}(hk:okB ph mn mx st fb a s want=U):
  0<=nA ph mn mx st fb a s want/\(0<=nS ph mn mx st fb a s want/\nS ph mn mx st fb a s want<=1000000/\nS ph mn mx st fb a s want<=s+1)/\(a=0->nA ph mn mx st fb a s want≠0->5<=s)/\(a≠0->nA ph mn mx st fb a s want=0->nS ph mn mx st fb a s want=0)/\
  (¬((nA ph mn mx st fb a s want=0)↔(a=0))->nS ph mn mx st fb a s want=0)/\(((nA ph mn mx st fb a s want=0)↔(a=0))->nS ph mn mx st fb a s want=min (s+1) 1000000):=by
 obtain ⟨hc,h1,h2,h3,h4,h5,h6,h7,h8,h9⟩:=aFv hk
 have hc':=hc
 unfold EB at hc'
 have hb:=(cf (a:=want) hc'.1 hc'.2.1 hc'.2.2.1 hc'.2.2.2.1).1
 rw [abO hk,alg hk]
 by_cases h0:a=0
 ·simp only [AD h0]
  by_cases hh:C1 mn mx st want≠0/\5<=s
  ·omega
  ·omega
 ·simp only [AE h0]
  by_cases hh:C1 mn mx st want=0
  ·omega
  ·omega
def arI {al x y:aVw}{r:Rw}(hm:∀m∈r.2,0<=gi y m/\gi y m<=gi x m) (h:rowB al x r=U):rowB al y r=true:=by
 unfold rowB at h|-;rw [Cf] at h|-;rcases h with h|h
 ·left
  rw [BH] at h|-;intro m hmm
  have h1:=h m hmm
  have h2:=hm m hmm
  rw [Cz] at h1|-;omega
 ·right
  exact CY<|Fm (aG6 λm hmm=>(hm m hmm).2)<|DH h
def aoQ {rows:aVT}{al x y:aVw}(hm:∀r∈rows,∀m∈r.2,0<=gi y m/\gi y m<=gi x m) (h:Pe rows al x=U):Pe rows al y=true:=by
 unfold Pe at h|-;rw [BH] at h|-;exact λr hr=>arI (hm r hr)<|h r hr
section
variable {cs : List Cd} {os : List ByteArray} {ks : List Ko} {gs : List Ch} {bs : List Ba} {l : List Le} {rs : List Ra} {d : List Dm} {t n : Int}
def aoI {al mo od:aVw}(hk:Fz cs os ks gs bs al mo od=U):Pe (D3 cs gs<|M cs) al (Fc cs os ks gs bs al mo od)=true:=by
 rw [aPy hk];exact agd<|aAN hk
def aiR {w:aVw}{k:aVx}{j:Y}(h0:0<=j) (h1:j<(k:Y)):gi (FH gs rs w k) j=LR (AF gs j) (C2 rs j) (gi w j):=P4 h0 h1
def acB (V:Vd cs os ks gs bs l rs d t n) {j:Y}(j0:0<=j) (j1:j<(M gs:Y)):letI a:=HS cs os ks gs bs l d t;0<=gi (FH gs rs a<|M gs) j/\gi (FH gs rs a<|M gs) j<=gi a j/\gi a j<=gi (tgL cs os ks gs bs d t) j:=by
 have hk:=aTE V j j0 j1
 rw [aiR j0 j1];exact ⟨(aeT hk).1,(asv hk rfl).2.1,((aPz<|j8 V).2 j j0 j1).2⟩
def arH {r:Rw}{m:Y}(hr:r∈D3 cs gs (M cs)) (hm:m∈r.2):0<=m/\m<(M gs:Y):=(row_mem hr).2.1 m hm
def auL (V:Vd cs os ks gs bs l rs d t n):Pe (D3 cs gs<|M cs) (D4 gs l t) (FH gs rs (HS cs os ks gs bs l d t)<|M gs)=true:=
 aoQ (λr hr m hm=>by
  have hm:=arH hr hm
  have:=acB V hm.1 hm.2
  exact ⟨this.1,this.2.1⟩) (aoI<|j8 V)
def azn {i a:Y}(h:nwB gs l t i a=U):CV (AF gs i)<a:=by
 unfold nwB at h;rw [AX] at h
 have h1:=h.1
 simp only [DB,DI] at h1;omega
end
abbrev Ld:=Int×Ra
def aV8:qT (List Ld):=⟨⟩
def Df (l:aV8) (i:aVx):Ld:=l.getD i<|Ty.dflt<|.pair A7 Aj
def Xg (l:aV8) (i:aVx) (v:Y):aV8:=l.set i ((AA<|(l.getD i<|Ty.dflt<|.pair A7 Aj).1+v),(l.getD i<|Ty.dflt<|.pair A7 Aj).2)
def V8 (l:aV8) (i:aVx) (v:Y):aV8:=letI a:=l.getD i<|Ty.dflt<|.pair A7 Aj;l.set i (a.1,((AA<|a.2.1+v),a.2.2))
def LO (l:aV8) (i:aVx) (v:Y):aV8:=letI a:=l.getD i<|Ty.dflt<|.pair A7 Aj;l.set i (a.1,(a.2.1,(AA<|a.2.2+v)))
def aDH {l:aV8}{i:aVx}{v:Y}:M (Xg l i v)=M l:=by simp [Xg]
def aDG {l:aV8}{i:aVx}{v:Y}:M (V8 l i v)=M l:=by simp [V8]
def aDF {l:aV8}{i:aVx}{v:Y}:M (LO l i v)=M l:=by simp [LO]
def adE (ph v:Y) (e:Ld):Ld:=
 (if (Bl J ph 1 !=0)=U then AA (e.1+v) else e.1,
  (if (Bl J ph 2 !=0)=U then AA (e.2.1+v) else e.2.1,
   if (Bl J ph 4 !=0)=U then AA (e.2.2+v) else e.2.2))
def adP (ph v:Y) (l:aV8) (i:aVx):aV8:=l.set i<|adE ph v<|Df l i
def aJe {l:aV8}{i j:aVx}{e:Ld}(h:i<M l):Df (l.set i e) j=if i=j then e else Df l j:=by
 unfold Df;rw [DA,DA,IS]
 by_cases hij:i=j
 ·subst hij
  rw [AD rfl,AD rfl,AD h];rfl
 ·grind
def ap9 {l:aV8}{i:aVx}(h:i<M l):l.set i (Df l i)=l:=by
 unfold Df
 simp_all
def awx {l:aV8}{i:aVx}{v:Y}:Xg l i v=l.set i (AA<|(Df l i).1+v,(Df l i).2):=rfl
def aww {l:aV8}{i:aVx}{v:Y}:V8 l i v=l.set i ((Df l i).1,(AA<|(Df l i).2.1+v,(Df l i).2.2)):=rfl
def awv {l:aV8}{i:aVx}{v:Y}:LO l i v=l.set i ((Df l i).1,((Df l i).2.1,AA<|(Df l i).2.2+v)):=rfl
def aj1 {ph v:Y}{l:aV8}{i:aVx}(h:i<M l):adP ph v l i=
  (let a:=if (Bl J ph 1 !=0)=U then Xg l i v else l
   let b:=if (Bl J ph 2 !=0)=U then V8 a i v else a
   if (Bl J ph 4 !=0)=U then LO b i v else b):=by
 unfold adP adE
 by_cases h1:(Bl J ph 1 !=0)=U<;>by_cases h2:(Bl J ph 2 !=0)=U<;>by_cases h4:(Bl J ph 4 !=0)=U<;>
  simp only [h1,h2,h4,Bp,IN,FP,awx,aww,awv,aJe h,List.set_set]<;>exact ap9 h
def avR {ph v:Y}{l:aV8}{i:aVx}:M (adP ph v l i)=M l:=by simp [adP]
def ldW:aVx->aVF->Y->Y->Y->aV8->List Ld
 |0,_,_,_,_,l=>l
 |k+1,cs,ph,v,c,l=>if c>=0 then ldW k cs ph v (Ae cs c).2.1 (adP ph v l c.toNat) else l
def HC (cs:aVF) (ph v c:Y) (l:aV8):aV8:=ldW (c.toNat+2) cs ph v c l
def aSt {cs:aVF}{ph v:Y}(hu:Fj cs=U):∀(k k':aVx) (c:Y) (l:aV8),c<M cs->(c+1).toNat<k->(c+1).toNat<k'->ldW k cs ph v c l=ldW k' cs ph v c l
 |0,_,_,_,_,h,_=>A0
 |_+1,0,_,_,_,_,h=>A0
 | k+1,k'+1,c,l,hc,h,h'=>by
  simp only [ldW]
  by_cases h0:c>=0
  ·rw [AD h0,AD h0]
   have:=R3 hu h0 hc
   exact aSt hu k k' _ _ A0 A0 A0
  ·grind
def ags {cs:aVF}{ph v c:Y}{l:aV8}(hu:Fj cs=U) (hc:c<M cs):HC cs ph v c l=if c>=0 then HC cs ph v (Ae cs c).2.1 (adP ph v l c.toNat) else l:=by
 unfold HC;rw [ldW]
 by_cases h0:c>=0
 ·rw [AD h0,AD h0]
  have:=R3 hu h0 hc
  rw [aSt hu (c.toNat+1) ((Ae cs c).2.1.toNat+2) (Ae cs c).2.1 _ A0 A0 A0]
 ·grind
def aRo {cs:aVF}{o:Y}(hu:Fj cs=U):∀(k:aVx) (c:Y),c<M cs->GZ k cs o c=U->o<=c
 |0,_,_,h=>by simp [GZ] at h
 | k+1,c,hc,h=>by
  simp only [GZ] at h;split at h
  ·rename_i h0
   rw [Cf] at h;rcases h with h|h
   ·have:=eq_of_beq h
    omega
   ·have h1:=R3 hu h0 hc
    have:=aRo hu k _ A0 h
    omega
  ·cases h
def aSu {cs:aVF}{ph v:Y}(hu:Fj cs=U) {o:aVx}:∀(k:aVx) (c:Y) (l:aV8),c<M cs->M l=M cs->M (ldW k cs ph v c l)=M cs/\Df (ldW k cs ph v c l) o=if GZ k cs (o:Y) c=U then adE ph v (Df l o) else Df l o
 |0,c,l,hc,hl=>⟨hl,by simp [ldW,GZ]⟩
 | k +1,c,l,hc,hl=>by
  simp only [ldW]
  by_cases h0:c>=0
  ·have e0:GZ (k+1) cs (o:Y) c=(c==(o:Y) ||GZ k cs (o:Y) (Ae cs c).2.1):=by
    show (if c>=0 then _ else _)=_
    grind
   rw [AD h0,e0]
   have h1:=R3 hu h0 hc
   have hct:c.toNat<M l:=A0
   obtain ⟨q1,q2⟩:=aSu hu (o:=o) k (Ae cs c).2.1 (adP ph v l c.toNat) A0 (by rw [avR];exact hl)
   refine ⟨q1,?_⟩;rw [q2];unfold adP;rw [aJe hct]
   by_cases hco:c.toNat=o
   ·have hb:(c==(o:Y))=true:=A8
    have hn:GZ k cs (o:Y) (Ae cs c).2.1=false:=by
     cases hq:GZ k cs (o:Y) (Ae cs c).2.1 with
     |false=>rfl
     |true=>
      have:=aRo hu k _ A0 hq
      omega
    rw [hb,hn,AD hco,hco]
    simp
   ·have hb:(c==(o:Y))=false:=by
     cases hq:c==(o:Y) with
     |false=>rfl
     |true=>
      have:=eq_of_beq hq
      omega
    grind
  ·have e0:GZ (k+1) cs (o:Y) c=false:=by
    show (if c>=0 then _ else _)=_
    grind
   grind
def vq {cs:aVF}{ph v c:Y}{l:aV8}(hu:Fj cs=U) (hc:c<M cs) (hl:M l=M cs) (o:aVx):M (HC cs ph v c l)=M cs/\Df (HC cs ph v c l) o=if Fh cs (o:Y) c=U then adE ph v (Df l o) else Df l o:=
 aSu hu _ c l hc hl
def Hc (cs:aVF) (gs:aVA) (am:aVw):aVx->List Ld
 |0=>aq (M cs) (Ty.dflt<|.pair A7 Aj)
 |k+1=>HC cs (AF gs k).2.2.1 (gi am k) (AF gs k).2.1<|Hc cs gs am k
def EN (am:aVw):aVw->Int
 | []=>0
 |k::l=>gi am k+EN am l
def aHf {am:aVw}:∀ {l m:aVw},EN am (l++m)=EN am l+EN am m
 | [],m=>by simp [EN]
 |k::l,m=>by
  rw [KG];simp only [EN];rw [aHf];omega
def aPt {am:aVw}{b:Y}:∀ {l:aVw},(∀k∈l,0<=gi am k/\gi am k<=b)->0<=EN am l/\EN am l<=b*(M l:Y)
 | [],_=>by simp [EN]
 |k::l,h=>by
  have h1:=h k AI
  have h2:=aPt (b:=b) λj hj=>h j<|NU _ hj
  simp only [EN,Bk,Int.natCast_add,Int.mul_add];omega
def ajQ {ph:Y}:usA ph 0=(Bl J ph 1 !=0):=rfl
def ajP {ph:Y}:usA ph 1=(Bl J ph 2 !=0):=rfl
def ajO {ph:Y}:usA ph 2=(Bl J ph 4 !=0):=rfl
def auf {gs:aVA}{p:Y}{l m:aVw}:Bz gs p (l++m)=Bz gs p l++Bz gs p m:=by simp [Bz]
def auc {gs:aVA}{p k:Y}:Bz gs p [k]=if usA (AF gs k).2.2.1 p=U then [k] else []:=by
 unfold Bz;rw [NW];rfl
def ldO (cs:aVF) (gs:aVA) (am:aVw) (o:Y) (k:aVx):Ld:=letI a:=Cy cs gs o k;(EN am<|Bz gs 0 a,(EN am<|Bz gs 1 a,EN am<|Bz gs 2 a))
def rj {cs:aVF}{gs:aVA}{am:aVw}{o:Y}{k:aVx}{p:Y}:EN am (Bz gs p<|Cy cs gs o<|k+1)=EN am (Bz gs p<|Cy cs gs o k)+(if Fh cs o (AF gs k).2.1=U then (if usA (AF gs k).2.2.1 p=U then gi am k else 0) else 0):=by
 rw [aFG,auf,aHf]
 by_cases h:Fh cs o (AF gs k).2.1=U
 ·rw [AD h,AD h,auc]
  split<;>simp [EN]
 ·rw [AE h,AE h]
  simp [Bz,EN]
def fJ {cs:aVF}{gs:aVA}{am:aVw}(hu:Fj cs=U) (ha:atB cs gs=U):∀k:aVx,k<=M gs->M (Hc cs gs am k)=M cs
 |0,_=>by simp [Hc]
 |k+1,hk=>(vq hu (iH ha A0 A0) (fJ hu ha k A0) 0).1
def aSv {cs:aVF}{gs:aVA}{am:aVw}(hu:Fj cs=U) (ha:atB cs gs=U) (hg:M gs<=1000) (hm:∀k:aVx,k<M gs->0<=gi am k/\gi am k<=80):
  ∀k:aVx,k<=M gs->M (Hc cs gs am k)=M cs/\∀o:aVx,o<M cs->Df (Hc cs gs am k) o=ldO cs gs am o k
 |0,_=>⟨by simp [Hc],λo ho=>by
  simp only [Hc,ldO,Df];rw [DA,QM,AD ho];rfl⟩
 | k+1,hk=>by
  obtain ⟨q1,q2⟩:=aSv hu ha hg hm k A0
  have hc:(AF gs k).2.1<(M cs:Y):=iH ha A0 A0
  refine ⟨(vq hu hc q1 0).1,λo ho=>?_⟩
  show Df (HC _ _ _ _ _) o=_
  rw [(vq hu hc q1 o).2,q2 o ho]
  have bd:∀p:Y,0<=EN am (Bz gs p<|Cy cs gs o k)/\EN am (Bz gs p<|Cy cs gs o k)<=80000:=λp=>by
   have h1:=aPt (am:=am) (b:=80) (l:=Bz gs p<|Cy cs gs o k) (λj hj=>by
    have h2:=dT (Cg.1 hj).1
    have:=hm j.toNat A0
    rwa [CO h2.1] at this)
   have h2:=aIi (gs:=gs) (p:=p) (l:=Cy cs gs o k)
   have h3:=qE (cs:=cs) (gs:=gs) (o:=o) (k:=k)
   omega
  have hv:=hm k A0
  have b0:=bd 0
  have b1:=bd 1
  have b2:=bd 2
  unfold ldO;rw [rj,rj,rj]
  by_cases h:Fh cs o (AF gs k).2.1=U
  ·rw [AD h,AD h,AD h,AD h]
   unfold adE;rw [<-ajQ,<-ajP,<-ajO];dsimp only;rw [AJ,AJ,AJ]
   grind
  ·grind
abbrev BP:Ty:=.pair A7 AQ
abbrev Lk:=Int×Le
def aWa:qT (List Lk):=⟨⟩
def Fu (l:aWa) (n:Y):Lk:=l.getD n.toNat (0,0,0,0,0,0)
structure PK where
 cs:aVF
 os:aVz
 ks:aVK
 gs:aVA
 bs:aVL
 tk:Y
 up:aVH
 ls:aVG
 se:Y
 fl:aVw
 ra:aV3
 nx:Y
 st:aVW
 ca:aWf
 mi:aWj
 me:aWm
 dm:aVU
 lk:aWa
 (dr tg:aVw)
instance:Coe PK LV:=⟨λp=> .agg [.xl Af p.cs,.xl .str p.os,.xl An p.ks,.xl Ag p.gs,.xl Am p.bs,.v<|ag J p.tk,.v<|.bool p.up,.xl AQ p.ls,.v<|ag J p.se,.xl (.int aw) p.fl,.xl Aj p.ra,.v<|ag J p.nx,.xl B7 p.st,.xl AQ p.ca,.xl BA p.mi,.xl BT p.me,.xl Ap p.dm,.xl BP p.lk,.xl A7 p.dr,.xl A7 p.tg]⟩
def rQ (b:aVB) (q:aVx):PK:=letI a:=Cc b q;⟨As Af<|BC a 0,As .str<|BC a 1,As An<|BC a 2,As Ag<|BC a 3,As Am<|BC a 4,gI<|BC a 5,gBo<|BC a 6,As AQ<|BC a 7,gI<|BC a 8,As (.int aw)<|BC a 9,As Aj<|BC a 10,gI<|BC a 11,As B7<|BC a 12,As AQ<|BC a 13,As BA<|BC a 14,As BT<|BC a 15,As Ap<|BC a 16,As BP<|BC a 17,As A7<|BC a 18,As A7<|BC a 19⟩
def rV (b:aVB) (q j k:aVx) (e:Ty):List e.D:=bif Nat.beq k 0 then As e (BC (Cc b q) j) else gVe e (Cc b k)
def rB (b:aVB) (q acs als afl ara ast aca ami ame adm alk adr atg:aVx):PK:=letI a:=Cc b q;⟨rV b q 0 acs Af,As .str<|BC a 1,As An<|BC a 2,As Ag<|BC a 3,As Am<|BC a 4,gI<|BC a 5,gBo<|BC a 6,rV b q 7 als AQ,gI<|BC a 8,rV b q 9 afl<|.int aw,rV b q 10 ara Aj,gI<|BC a 11,rV b q 12 ast B7,rV b q 13 aca AQ,rV b q 14 ami BA,rV b q 15 ame BT,rV b q 16 adm Ap,rV b q 17 alk BP,rV b q 18 adr A7,rV b q 19 atg A7⟩
def rF (b:aVB):PK:=rB b 16 4 5 6 7 8 9 10 11 12 13 14 15
def rT (b:aVB):PK:=rB b 16 4 0 0 0 8 9 10 11 0 0 14 15
abbrev _root_.Go.Sx.T.pc {α:Type}(p:PK) (t:T α):T α:=.rl p.cs<|.rl p.ls<|.rl p.fl<|.rl p.ra<|.rl p.st<|.rl p.ca<|.rl p.mi<|.rl p.me<|.rl p.dm<|.rl p.lk<|.rl p.dr<|.rl p.tg t
abbrev _root_.Go.Sx.T.pd {α:Type}(p:PK) (t:T α):T α:=.rl p.cs<|.rl p.st<|.rl p.ca<|.rl p.mi<|.rl p.me<|.rl p.dr<|.rl p.tg t
abbrev _root_.Go.Sx.T.pb {α:Type}(p:PK) (t:T α):T α:=.rl p.st<|.rl p.ca<|.rl p.mi<|.rl p.me<|.rl p.dm<|.rl p.lk<|.rl p.dr<|.rl p.tg t
abbrev _root_.Go.Sx.T.pa {α:Type}(p:PK) (t:T α):T α:=.rl p.cs<|.rl p.ls<|.rl p.fl<|.rl p.ra t
instance:Coe (List Lk) LV:=⟨.xl BP⟩
namespace PK
variable (p : PK)
def sV:aVH:=B6 p.cs p.os p.ks p.gs p.bs
end PK
def GV (c:Cd) (t:Y):Cd:=(c.1,c.2.1,t,c.2.2.2)
def E0 (cs:aVF) (tg:aVw):aVx->List Cd
 |0=>cs
 |k+1=>(E0 cs tg k).set k<|GV (Ae (E0 cs tg k) k)<|gi tg k
def CW (gs:aVA) (st:aVW) (i k n m:Y):aVW:=if sE (AF gs i) (BF st i) k n m=0 then st.set i.toNat (sN (AF gs i) (BF st i) k n m) else st
def L5 (gs:aVA) (lk:aWa) (t:Y) (st:aVW):aVx->List St
 |0=>st
 |k+1=>if (Fu lk k).1>t then L5 gs lk t st k else CW gs (L5 gs lk t st k) (Fu lk k).2.2.1 7 (Fu lk k).2.2.2.1 (Fu lk k).2.2.2.2.2
def L8 (gs:aVA) (st:aVW) (i:Y):aVx->List St
 |0=>st
 |k+1=>CW gs (L8 gs st i k) i 8 0 0
def JL (gs:aVA) (dr:aVw) (t:Y) (st:aVW):aVx->List St
 |0=>st
 |k+1=>if HZ t (gi dr k)=0/\HZ (t+1) (gi dr k)=0 then L8 gs (JL gs dr t st k) k (B8 (t+1) (gi dr k)-B8 t (gi dr k)).toNat else JL gs dr t st k
structure DW where
 st:aVW
 mi:aWj
 me:aWm
 dw:aVw
def FD (gs:aVA) (ca:aWf) (s:DW) (i:Y):DW:=
 if (Bg ca i).2.2.1=0 then s
 else if JY (Bg ca i) (CD s.mi i) (AF gs i).2.2.1 (Be (AF gs i)<|BF s.st i)=0 then
  let a:=Ff (Bg ca i) (CD s.mi i) (AF gs i).2.2.1<|Be (AF gs i)<|BF s.st i
  let o:=cnt<|Ee (Bg ca i) (CD s.mi i) (AF gs i).2.2.1<|Be (AF gs i)<|BF s.st i
  ⟨if a>Be (AF gs i) (BF s.st i) then CW gs s.st i 6 2 0 else s.st,s.mi.set i.toNat<|Jh (Bg ca i) (CD s.mi i) (AF gs i).2.2.1<|Be (AF gs i)<|BF s.st i,
   if G6 (GY s.me i) a o=0 then s.me.set i.toNat (Hd (GY s.me i) a o) else s.me,s.dw.set i.toNat a⟩
 else s
def D9 (gs:aVA) (ca:aWf) (s:DW):aVx->DW
 |0=>s
 |k+1=>FD gs ca (D9 gs ca s k) k
def Wp {cs:aVF}{k:aVx}{x:Cd}{j:aVx}(hk:k<M cs):Ae (cs.set k x) (j:Y)=if j=k then x else Ae cs j:=by
 unfold Ae
 by_cases e:j=k
 ·grind
 ·grind
def Qw {cs:aVF}{k:aVx}(hk:k<M cs):Ae cs (k:Y)=cs[k]:=by
 unfold Ae
 simp [hk]
def cu {cs:aVF}{os:aVz}{ks:aVK}{gs:aVA}{bs:aVL}(h:B6 cs os ks gs bs=U) {k:aVx}(hk:k<M cs) {t:Y}(ht:1<=t/\t<=1000):
  B6 (cs.set k<|GV (Ae cs k) t) os ks gs bs=true:=by
 have hm:(cs.set k<|GV (Ae cs k) t).map (·.1)=cs.map (·.1):=by
  rw [List.map_set]
  have:(GV (Ae cs k) t).1=(cs.map (·.1))[k]' A8:=by
   rw [Qw hk];simp [GV]
  rw [this,List.set_getElem_self]
 unfold B6 Lw MO at h|-;rw [hm,C4];simp only [AX] at h|-;obtain ⟨h1,h2,h3,h4,h5⟩:=h;refine ⟨h1,h2,h3,?_,h5⟩;rw [Dl] at h4|-;intro j hj
 have hc:=h4 j hj
 rw [Wp hk];split
 ·rename_i e
  subst e;unfold I9 GV at*;simp only [AX] at hc|-;exact ⟨hc.1,BS.2 ht,hc.2.2⟩
 ·exact hc
def BN (l:aVw):Prop:=∀x∈l,0<=x/\x<=255
def oH (x b:Y):Y:=IntKind.u32.wrap<|aLA ax x (IntKind.u32.wrap b)*16777619
def Sg (x:Y) (l:aVw):Y:=l.foldl oH x
def PT (ps:aVD):Y:=ps.foldl Sg 2166136261
def D6 (n:Y):aVw:=[IntKind.u8.wrap<|n.fdiv<|2^24,IntKind.u8.wrap<|n.fdiv<|2^16,IntKind.u8.wrap<|n.fdiv<|2^8,IntKind.u8.wrap n]
def nm4 (a b c d:Y):Y:=Dc ax (Dc ax (Dc ax (IntKind.u32.wrap<|IntKind.u32.wrap a*2^24)<|IntKind.u32.wrap<|IntKind.u32.wrap b*2^16)<|IntKind.u32.wrap<|IntKind.u32.wrap c*2^8)<|IntKind.u32.wrap d
def H8 (l:aVw):Y:=nm4 (gi l 0) (gi l 1) (gi l 2)<|gi l 3
def KF (d:aVw):aVw:=[IntKind.u8.wrap<|(M d:Y).fdiv<|2^8,IntKind.u8.wrap (M d:Y)]
def Bw (d:aVw):aVw:=80::(KF d++(D6 (PT [KF d,d])++d))
def Gu {n:Y}:IntKind.u8.wrap n=n%256:=aOD
def TP {n:Y}:IntKind.u32.wrap n=n%4294967296:=aOD
def auX (x b:Y):0<=oH x b/\oH x b<4294967296:=by unfold oH;rw [TP];omega
def auZ {x:Y}(h:0<=x/\x<4294967296) (l:aVw):0<=Sg x l/\Sg x l<4294967296:=by
 induction l generalizing x with
 |nil=>exact h
 |cons b l ih=>exact ih<|auX x b
def auY (ps:aVD):0<=PT ps/\PT ps<4294967296:=by
 have:∀(ps:aVD) (x:Y),0<=x/\x<4294967296->0<=ps.foldl Sg x/\ps.foldl Sg x<4294967296:=by
  intro ps
  induction ps with
  |nil=>intro x h;exact h
  |cons p ps ih=>intro x h;exact ih _<|auZ h p
 exact this ps _ Aa
def fm {a b k:aVx}(h:b<2^k):a*2^k |||b=a*2^k+b:=by
 rw [Nat.mul_comm,<-Nat.two_pow_add_eq_or_of_lt h]
def sP {a b:aVx}(ha:a<4294967296) (hb:b<4294967296):Dc ax (a:Y) (b:Y)=((a |||b:aVx):Y):=by
 have h:=Nat.or_lt_two_pow (n:=32) ha hb
 unfold Dc;rw [TP]
 have e:∀n:aVx,n<4294967296->(BitVec.ofInt (IntKind.bits ax) (n:Y)).toNat=n:=λn hn=>by
  show (BitVec.ofInt 32 (n:Y)).toNat=n
  grind
 rw [BitVec.toNat_or,e a ha,e b hb];omega
def azA {a b c d:Y}(ha:0<=a/\a<=255) (hb:0<=b/\b<=255) (hc:0<=c/\c<=255) (hd:0<=d/\d<=255):nm4 a b c d=a*16777216+b*65536+c*256+d:=by
 obtain ⟨a,rfl⟩:=QG ha.1;obtain ⟨b,rfl⟩:=QG hb.1;obtain ⟨c,rfl⟩:=QG hc.1;obtain ⟨d,rfl⟩:=QG hd.1;unfold nm4
 have e1:IntKind.u32.wrap (IntKind.u32.wrap (a:Y)*2^24)=((a*2^24:aVx):Y):=zJ
 have e2:IntKind.u32.wrap (IntKind.u32.wrap (b:Y)*2^16)=((b*2^16:aVx):Y):=zJ
 have e3:IntKind.u32.wrap (IntKind.u32.wrap (c:Y)*2^8)=((c*2^8:aVx):Y):=zJ
 have e4:IntKind.u32.wrap (d:Y)=((d:aVx):Y):=by rw [TP];omega
 rw [e1,e2,e3,e4,sP A0 A0,fm A0,
  sP A0 A0,show a*2^24+b*2^16=(a*2^8+b)*2^16 by omega,fm A0,
  sP A0 A0,show (a*2^8+b)*2^16+c*2^8=(a*2^16+b*2^8+c)*2^8 by omega,fm A0]
 omega
def WY (n:Y):BN (D6 n):=by
 intro x hx;simp only [D6,BB,Bx,By] at hx;rcases hx with rfl|rfl|rfl|rfl<;>rw [Gu]<;>omega
def aIE {n:Y}(h:0<=n/\n<4294967296):H8 (D6 n)=n:=by
 have e:H8 (D6 n)=nm4 (IntKind.u8.wrap<|n.fdiv<|2^24) (IntKind.u8.wrap<|n.fdiv<|2^16) (IntKind.u8.wrap<|n.fdiv<|2^8) (IntKind.u8.wrap n):=rfl
 rw [e,azA bI bI bI bI,Gu,Gu,Gu,Gu,
  QJ _ Aa,QJ _ Aa,QJ _ Aa]
 omega
def G9 (b:aVw) (f:aVx):aVx:=(gi b<|(f:Y)+1).toNat*256+(gi b<|(f:Y)+2).toNat
def rcF (b:aVw) (f:aVx):aVH:=an (f+7<=M b)&&an (f+7+G9 b f<=M b)
def HR (b:aVw) (f:aVx):aVw:=(b.drop<|f+7).take<|G9 b f
def rcG (b:aVw) (f:aVx):aVH:=rcF b f&&(PT [(b.drop<|f+1).take 2,HR b f]==H8 ((b.drop<|f+3).take 4))
def Ha (b:aVw):aVx->aVx->List (List Int)×Nat×Bool
 |0,f=>([],f,U)
 |n+1,f=>if f<M b/\gi b (f:Y)=80 then (if rcG b f then (HR b f::(Ha b n<|f+7+G9 b f).1,(Ha b n<|f+7+G9 b f).2) else ([],f,X)) else ([],f,U)
def XY {pre l:aVw}{k:aVx}:gi (pre++l) ((M pre+k:aVx):Y)=l.getD k 0:=by
 unfold gi
 grind
def rJ {pre l:aVw}{k:aVx}:(pre++l).drop (M pre+k)=l.drop k:=by
 simp_all
def Mh (d:aVw):M (Bw d)=7+M d:=by simp [Bw,KF,D6];omega
def arK {pre rest d:aVw}(hd:M d<=65535):let b:=pre++(Bw d++rest);gi b (M pre:Y)=80/\M pre<M b/\G9 b (M pre)=M d/\HR b (M pre)=d/\rcG b (M pre)=true:=by
 intro b
 have hl:M b=M pre+(7+M d+M rest):=by simp [b,Mh]
 have g0:gi b (M pre:Y)=80:=XY (k:=0)
 have hn:G9 b (M pre)=M d:=by
  have e1:gi b ((M pre:Y)+1)=IntKind.u8.wrap ((M d:Y).fdiv<|2^8):=XY (k:=1)
  have e2:gi b ((M pre:Y)+2)=IntKind.u8.wrap (M d:Y):=XY (k:=2)
  unfold G9;rw [e1,e2,Gu,Gu,QJ _ Aa];omega
 have d7:b.drop (M pre+7)=d++rest:=by
  rw [rJ]
  simp [Bw,KF,D6]
 have hD:HR b (M pre)=d:=by
  unfold HR
  grind
 have d1:(b.drop<|M pre+1).take 2=KF d:=by
  rw [rJ]
  simp [Bw,KF]
 have d3:(b.drop<|M pre+3).take 4=D6 (PT [KF d,d]):=by
  rw [rJ]
  simp [Bw,KF,D6]
 refine ⟨g0,A0,hn,hD,?_⟩;unfold rcG rcF;rw [hn,hD,d1,d3,aIE<|auY _]
 simp;omega
def BR (ds:aVD):aVw:=ds.flatMap Bw
def aFz {rest:aVw}(hr:gi rest 0≠80):∀(ds:aVD) (pre:aVw) (n:aVx),(∀d∈ds,M d<=65535)->M ds<n->
  Ha (pre++(BR ds++rest)) n (M pre)=(ds,M pre+M (BR ds),U)
 | [],pre,n,_,hn=>by
  obtain ⟨n,rfl⟩:∃m,n=m+1:=⟨n-1,A0⟩;simp only [BR,List.flatMap_nil,ES,Ha];rw [AE]
  ·simp
  ·rintro ⟨_,h⟩
   rw [show ((M pre:aVx):Y)=((M pre+0:aVx):Y) by simp,XY] at h
   exact hr h
 |d::ds,pre,n,hd,hn=>by
  obtain ⟨n,rfl⟩:∃m,n=m+1:=⟨n-1,A0⟩
  have e:pre++(BR (d::ds)++rest)=pre++(Bw d++(BR ds++rest)):=by simp [BR]
  rw [e];obtain ⟨h1,h2,h3,h4,h5⟩:=arK (pre:=pre) (rest:=BR ds++rest)<|hd d AI;simp only [Ha];rw [AD ⟨h2,h1⟩,AD h5,h3,h4]
  have e2:pre++(Bw d++(BR ds++rest))=(pre++Bw d)++(BR ds++rest):=AI
  have e3:M pre+7+M d=M (pre++Bw d):=by simp [Mh];omega
  rw [e2,e3,aFz hr ds (pre++Bw d) n (λx hx=>hd x A8) A8]
  simp [BR,Mh];omega
abbrev Bo:Ty:=.pair A7<|.sl<|.int aw
abbrev Fl:=Int×List Int
def aVV:qT (List Fl):=⟨⟩
def GU (l:aVV) (n:Y):Fl:=l.getD n.toNat (0,[])
def Hh (se:Y) (l:aVw):aVH:=letI a:=(M l:Y);decide (se>=1)&&(an (se<=512)&&(an (a>=se)&&(an (a<=4096)&&(a.tmod se==0))))
def Nn {se:Y}{l:aVw}:Hh se l=U↔1<=se/\se<=512/\se<=(M l:Y)/\M l<=4096/\(M l:Y).tmod se=0:=by
 simp [Hh];omega
def FC (se:Y) (l:aVw):aVH:=Hh se l&&(((M l:Y).tdiv se).tmod 2==0&&an ((M l:Y)>=32))
def Ml {se:Y}{l:aVw}:FC se l=U↔Hh se l=U/\((M l:Y).tdiv se).tmod 2=0/\32<=M l/\M l<=4096/\1<=se:=by
 unfold FC;simp only [AX,Cz,Ab];refine ⟨λ⟨h1,h2,h3⟩=>⟨h1,h2,A0,(Nn.1 h1).2.2.2.1,(Nn.1 h1).1⟩,λ⟨h1,h2,h3,_,_⟩=>⟨h1,h2,A0⟩⟩
def Bq (l:aVw) (w:Y):aVw:=if w=0 then l.take (M l / 2) else (l.drop<|M l / 2).take (M l / 2)
def dA (l:aVw) (w:Y):M (Bq l w)=M l / 2:=by
 unfold Bq
 grind
def JS (l:aVw) (w:Y):Y:=H8<|((Bq l w).drop 1).take 4
def Av (l:aVw):Y:=if gi (Bq l 0) 0=80 then (if gi (Bq l 1) 0=80 then (if JS l 1>JS l 0 then 1 else 0) else 0) else if gi (Bq l 1) 0=80 then 1 else 0
def I8 (l:aVw):Y:=if gi (Bq l 0) 0=80\/gi (Bq l 1) 0=80 then 0 else 4
def Ds (fl:aVw) (a:Y) (d:aVw):aVx->List Int
 |0=>fl
 |k+1=>(Ds fl a d k).set (a+k).toNat<|Bl aw (gi (Ds fl a d k)<|a+k)<|gi d k
def Dy (se:Y) (fl:aVw) (a:Y) (d:aVw):aVV:=(au<|M d+1).map λk=>(se,Ds fl a d k)
def FF (se:Y) (fl:aVw) (a:Y) (d:aVw):Y:=if (!Hh se fl ||an (a<0))=U then 1 else if a>(M fl:Y)-M d then 3 else 0
def Es (fl:aVw) (a:Y):aVx->List Int
 |0=>fl
 |k+1=>(Es fl a k).set (a+k).toNat 255
def La (se:Y) (fl:aVw) (s:Y):aVV:=(au<|se.toNat+1).map λk=>(se,Es fl (s*se) k)
def IK (se:Y) (fl:aVw) (s:Y):Y:=if (!Hh se fl ||(an (s<0) ||an (s>=(M fl:Y).tdiv se)))=U then 1 else 0
def TY (fl:aVw) (a:Y) (d:aVw) (k:aVx):M (Ds fl a d k)=M fl:=by
 induction k with
 |zero=>rfl
 |succ k ih=>simp [Ds,ih]
def dC (fl:aVw) (a:Y) (k:aVx):M (Es fl a k)=M fl:=by
 induction k with
 |zero=>rfl
 |succ k ih=>simp [Es,ih]
def Ka {a b:aVw}:BN (a++b)↔BN a/\BN b:=by
 unfold BN
 grind
def Qm {x:Y}{l:aVw}:BN (x::l)↔(0<=x/\x<=255)/\BN l:=by
 unfold BN
 simp
def fB (k:aVx):BN (aq k 255):=by
 intro x hx;rw [T0] at hx;omega
def aIk {l:aVw}(h:BN l) (i:aVx) {x:Y}(hx:0<=x/\x<=255):BN (l.set i x):=by
 intro y hy;rcases Om hy with h1|h1
 ·exact h y h1
 ·grind
def avK (x y:Y):0<=Bl aw x y/\Bl aw x y<=255:=by
 unfold Bl;rw [Gu];omega
def uC {fl:aVw}(h:BN fl) (a:Y) (d:aVw) (k:aVx):BN (Ds fl a d k):=by
 induction k with
 |zero=>exact h
 |succ k ih=>exact aIk ih _<|avK _ _
def aT6 {fl:aVw}(h:BN fl) (a:Y) (k:aVx):BN (Es fl a k):=by
 induction k with
 |zero=>exact h
 |succ k ih=>exact aIk ih _ Aa
def apS {x:Y}(h:0<=x/\x<=255):Bl aw 255 x=x:=by
 unfold Bl;rw [Gu];obtain ⟨n,rfl⟩:=QG h.1
 have e:(BitVec.ofInt (IntKind.bits aw) 255&&&BitVec.ofInt (IntKind.bits aw) (n:Y)).toNat=n:=by
  show (BitVec.ofInt 8 255&&&BitVec.ofInt 8 (n:Y)).toNat=n
  rw [show BitVec.ofInt 8 255=BitVec.allOnes 8 from rfl,BitVec.allOnes_and,BitVec.toNat_ofInt];omega
 omega
def aQB {pre post d:aVw}(hd:BN d):∀k,k<=M d->Ds (pre++(aq (M d) 255++post)) (M pre:Y) d k=pre++(d.take k++(aq (M d-k) 255++post))
 |0,_=>by simp [Ds]
 | k+1,hk=>by
  simp only [Ds];rw [aQB hd k A0];obtain ⟨j,hj⟩:∃j,M d-k=j+1:=⟨M d-k-1,A0⟩
  have e1:(M pre:Y)+(k:Y)=((M pre+k:aVx):Y):=A0
  have ht:M (d.take k)=k:=DJ
  have e2:gi (pre++(d.take k++(aq (M d-k) 255++post))) ((M pre:Y)+k)=255:=by
   rw [e1,XY,DA,Gc A0,ht,mH,hj,Zn];rfl
  have e3:gi d (k:Y)=d[k]:=Ia A0
  rw [e2,e3,apS<|hd _<|Gf _,e1,C0,m5 _ _ A0,xj,m5 _ _ A0,ht,mH,hj,Zn];rw [show M d-(k+1)=j by omega,Zh<|Nat.lt_of_succ_le hk]
  grind
def dz {pre post d:aVw}(hd:BN d):Ds (pre++(aq (M d) 255++post)) (M pre:Y) d (M d)=pre++(d++post):=by
 rw [aQB hd _<|Aq _];simp
def De (g:Y) (ds:aVD) (k:aVx):aVw:=(80::D6 g)++(BR ds++aq k 255)
def JN (w:Y) (A O:aVw):aVw:=if w=0 then A++O else O++A
def aFp (a b:aVD):BR (a++b)=BR a++BR b:=by simp [BR]
def qm (ds:aVD):M (BR ds)=(ds.map λd=>7+M d).sum:=by
 induction ds with
 |nil=>rfl
 |cons d ds ih=>simp only [BR,mK,BI,ET,List.sum_cons,Mh] at*;rw [ih]
def arT (ds:aVD):7*M ds<=M (BR ds):=by
 induction ds with
 |nil=>simp [BR]
 |cons d ds ih=>simp only [BR,mK,BI,Bk,Mh] at*;omega
def awc (d:aVw):BN (KF d):=by
 intro x hx;simp only [KF,BB,Bx,By] at hx;rcases hx with rfl|rfl<;>rw [Gu]<;>omega
def aHz {d:aVw}(h:BN d):BN (Bw d):=by
 unfold Bw;rw [Qm,Ka,Ka];exact ⟨Aa,awc d,WY _,h⟩
def rU {ds:aVD}(h:∀d∈ds,BN d):BN (BR ds):=by
 induction ds with
 |nil=>intro x hx;simp [BR] at hx
 |cons d ds ih=>
  have e:BR (d::ds)=Bw d++BR ds:=rfl
  rw [e,Ka];exact ⟨aHz<|h d AI,ih λx hx=>h x A8⟩
def ahc (k:aVx) (rest:aVw) (h:gi rest 0≠80):gi (aq k 255++rest) 0≠80:=by
 cases k with
 |zero=>simpa using h
 |succ k=>simp [gi,Zn]
structure JI (fl:aVw) (w g:Y) (ds:aVD) (k:aVx) (O:aVw):Prop where
 eq:fl=JN w (De g ds k) O
 la:M (De g ds k)=1024
 lo:M O=1024
 bo:BN O
 hw:w=0\/w=1
 hg:0<=g/\g<4294967296
 old:gi O 0=80->H8 ((O.drop 1).take 4)<g
 bd:∀d∈ds,BN d/\M d<=65535
def PF (g:Y) (ds:aVD) (k:aVx):M (De g ds k)=5+M (BR ds)+k:=by
 simp [De,D6];omega
def aHq {g:Y}(hg:0<=g/\g<4294967296) (ds:aVD) (k:aVx):H8 (((De g ds k).drop 1).take 4)=g:=by
 have:((De g ds k).drop 1).take 4=D6 g:=by simp [De,D6]
 rw [this,aIE hg]
def aFJ {w:Y}{A O:aVw}(hA:M A=1024) (hO:M O=1024) (hw:w=0\/w=1):Bq (JN w A O) w=A/\Bq (JN w A O) (1-w)=O:=by
 have hl:∀a b:aVw,M a=1024->M b=1024->Bq (a++b) 0=a/\Bq (a++b) 1=b:=by
  intro a b ha hb
  have e:M (a++b) / 2=1024:=A8
  unfold Bq
  grind
 rcases hw with rfl|rfl
 ·exact hl A O hA hO
 ·have:=hl O A hO hA
  exact ⟨this.2,this.1⟩
namespace JI
variable {fl : List Int} {w g : Int} {ds : List (List Int)} {k : Nat} {O : List Int}
def len (h:JI fl w g ds k O):M fl=2048:=by
 rw [h.eq];unfold JN;split<;>simp [h.la,h.lo]
def bja (h:JI fl w g ds k O):BN (De g ds k):=by
 unfold De;rw [Ka,Ka,Qm];exact ⟨⟨Aa,WY _⟩,rU λd hd=>(h.bd d hd).1,fB _⟩
def FK (h:JI fl w g ds k O):BN fl:=by
 rw [h.eq];unfold JN;split
 ·rw [Ka];exact ⟨h.bja,h.bo⟩
 ·rw [Ka];exact ⟨h.bo,h.bja⟩
def jv (h:JI fl w g ds k O):FC 512 fl=true:=by
 rw [Ml,Nn,h.len]
 decide
def ar (h:JI fl w g ds k O):Bq fl w=De g ds k:=by rw [h.eq];exact (aFJ h.la h.lo h.hw).1
def ao (h:JI fl w g ds k O):Bq fl (1-w)=O:=by rw [h.eq];exact (aFJ h.la h.lo h.hw).2
def gen (h:JI fl w g ds k O):JS fl w=g:=by unfold JS;rw [h.ar,aHq h.hg]
def cur (h:JI fl w g ds k O):Av fl=w/\I8 fl=0:=by
 have ha:=h.ar;have ho:=h.ao;have hgn:=h.gen
 have g80:gi (De g ds k) 0=80:=rfl
 have hold:gi (Bq fl<|1-w) 0=80->JS fl (1-w)<g:=by rw [ho];unfold JS;rw [ho];exact h.old
 unfold Av I8;rcases h.hw with rfl|rfl
 ·have e:(1:Y)-0=1:=rfl
  rw [e] at hold;rw [ha,hgn];refine ⟨?_,A8⟩;rw [AD g80];split
  ·omega
  ·rfl
 ·have e:(1:Y)-1=0:=rfl
  rw [e] at hold;rw [ha,hgn];refine ⟨?_,A8⟩;split
  ·omega
  ·rfl
end JI
def Et (fl:aVw):List (List Int)×Nat×Bool:=Ha (Bq fl<|Av fl) (M<|Bq fl<|Av fl) 5
def Bu (se:Y) (fl:aVw):Y:=if FC se fl=X then 1 else if I8 fl≠0 then I8 fl else if (Et fl).2.2=U then 0 else 11
def MP (fl:aVw):aVH:=((Bq fl<|Av fl).drop (Et fl).2.1).all λb=>b==255
def MS (se:Y) (fl d:aVw):aVH:=an (M d>65535) ||an (7+M d+(Et fl).2.1>M fl / 2)
def Ga (fl:aVw):Y:=Av fl*((M fl / 2:aVx):Y)+(Et fl).2.1
def apB (fl d:aVw):aVw:=Ds fl (Ga fl+1) ((Bw d).drop 1)<|M<|(Bw d).drop 1
def Hk (se:Y) (fl d:aVw):aVV:=Dy se fl (Ga fl+1) ((Bw d).drop 1)++(Dy se (apB fl d) (Ga fl) [80]).drop 1
def B1 (x:Le):aVw:=D6 x.1++(IntKind.u8.wrap x.2.1::IntKind.u8.wrap x.2.2.1::(D6 x.2.2.2.1++[IntKind.u8.wrap<|x.2.2.2.2.fdiv<|2^8,IntKind.u8.wrap x.2.2.2.2]))
def b4 (d:aVw) (i:Y):Y:=gi d i*16777216+gi d (i+1)*65536+gi d (i+2)*256+gi d (i+3)
def GS (d:aVw):Le:=(b4 d 0,gi d 4,gi d 5,b4 d 6,gi d 10*256+gi d 11)
def KV (x:Le):M (B1 x)=12:=rfl
def iv (n:Y):0<=IntKind.u8.wrap n/\IntKind.u8.wrap n<=255:=bI
def tP (x:Le):BN (B1 x):=by
 unfold B1;rw [Ka,Qm,Qm,Ka,Qm,Qm];exact ⟨WY _,iv _,iv _,WY _,iv _,iv _,λx hx=>Qa⟩
def aJf {n:Y}(h:0<=n/\n<4294967296):IntKind.u8.wrap (n.fdiv<|2^24)*16777216+IntKind.u8.wrap (n.fdiv<|2^16)*65536+IntKind.u8.wrap (n.fdiv<|2^8)*256+IntKind.u8.wrap n=n:=by
 rw [Gu,Gu,Gu,Gu,QJ _ Aa,QJ _ Aa,QJ _ Aa];omega
def aq5 {x:Le}(h:DM x=U):GS (B1 x)=x:=by
 obtain ⟨nu,co,am,fr,tk⟩:=x;obtain ⟨h1,h2,h3,h4,h5⟩:=KY.1 h;simp only at h1 h2 h3 h4 h5
 have e1:b4 (B1 (nu,co,am,fr,tk)) 0=nu:=aJf (n:=nu) A0
 have e2:b4 (B1 (nu,co,am,fr,tk)) 6=fr:=aJf (n:=fr) A0
 have e3:gi (B1 (nu,co,am,fr,tk)) 4=co:=by show IntKind.u8.wrap co=co;rw [Gu];omega
 have e4:gi (B1 (nu,co,am,fr,tk)) 5=am:=by show IntKind.u8.wrap am=am;rw [Gu];omega
 have e5:gi (B1 (nu,co,am,fr,tk)) 10*256+gi (B1 (nu,co,am,fr,tk)) 11=tk:=by
  show IntKind.u8.wrap (tk.fdiv<|2^8)*256+IntKind.u8.wrap tk=tk
  rw [Gu,Gu,QJ _ Aa];omega
 unfold GS
 grind
def ldB (rs:aVD):aVH:=rs.all λd=>M d==12
def Ce (se:Y) (fl:aVw):Y:=if (!(se==512) || !((M fl:Y)==2048))=U then 1 else if Bu se fl≠0 then Bu se fl else if ldB (Et fl).1=U then (if B0 ((Et fl).1.map GS)=U then 0 else 9) else 9
def Ai (se:Y) (fl:aVw):aVG:=if Ce se fl=0 then (Et fl).1.map GS else []
namespace JI
variable {fl : List Int} {w g : Int} {ds : List (List Int)} {k : Nat} {O : List Int}
def lk (h:JI fl w g ds k O):Et fl=(ds,5+M (BR ds),U):=by
 unfold Et;rw [h.cur.1,h.ar,h.la]
 have hp:=arT ds
 have hl:=h.la
 rw [PF] at hl
 have:=aFz (rest:=aq k 255) (by have:=ahc k [] Aa;simpa using this) ds (80::D6 g) 1024 (λd hd=>(h.bd d hd).2) A0
 exact this
def VA (h:JI fl w g ds k O):Bu 512 fl=0:=by
 unfold Bu;rw [h.jv,h.cur.2,h.lk];rfl
def cl (h:JI fl w g ds k O):MP fl=true:=by
 unfold MP;rw [h.lk,h.cur.1,h.ar,BH];intro x hx
 have e:(De g ds k).drop (5+M (BR ds))=aq k 255:=by
  unfold De;rw [<-Cx];exact List.drop_left' (by simp [D6];omega)
 simp only [e,T0] at hx
 simp [hx.2]
def half (h:JI fl w g ds k O):M fl / 2=1024:=by rw [h.len]
def full (h:JI fl w g ds k O) {d:aVw}(hd:M d<=65535) (hk:7+M d<=k):MS 512 fl d=false:=by
 unfold MS;rw [h.half,h.lk]
 have hl:=h.la
 rw [PF] at hl
 simp;omega
def afi (g:Y) (ds:aVD) {k:aVx}(n:aVx) (hk:n<=k):De g ds k=((80::D6 g)++BR ds)++(aq n 255++aq (k-n) 255):=by
 unfold De
 simp_all
def split (h:JI fl w g ds k O) (n:aVx) (hk:n<=k):∃pre post,fl=pre++(aq n 255++post)/\(M pre:Y)=Ga fl/\
  ∀x:aVw,pre++(x++post)=JN w (((80::D6 g)++BR ds)++(x++aq (k-n) 255)) O:=by
 have hP:Ga fl=w*1024+((5+M (BR ds):aVx):Y):=by unfold Ga;rw [h.half,h.cur.1,h.lk];rfl
 have h5:(M ((80::D6 g)++BR ds):Y)=((5+M (BR ds):aVx):Y):=by simp [D6];omega
 have he:=h.eq
 rw [afi g ds n hk] at he;rcases h.hw with rfl|rfl
 ·refine ⟨(80::D6 g)++BR ds,aq (k-n) 255++O,?_,A0,λx=>?_⟩
  ·rw [he];unfold JN;rw [AD rfl];simp only [Cx]
  ·unfold JN;rw [AD rfl];simp only [Cx]
 ·refine ⟨O++((80::D6 g)++BR ds),aq (k-n) 255,?_,by rw [hP,BI];have:=h.lo;omega,λx=>?_⟩
  ·rw [he];unfold JN;rw [AE Aa];simp only [Cx]
  ·unfold JN;rw [AE Aa];simp only [Cx]
def app (h:JI fl w g ds k O) {d:aVw}(hb:BN d) (hd:M d<=65535) (hk:7+M d<=k):
  JI (Ds (apB fl d) (Ga fl) [80] 1) w g (ds++[d]) (k-(7+M d)) O:=by
 obtain ⟨pre,post,e1,e2,e3⟩:=h.split (7+M d) hk
 have hp:Bw d=80::(Bw d).drop 1:=rfl
 have hl:=Mh d
 have hby:BN ((Bw d).drop 1):=by have:=aHz hb;rw [hp,Qm] at this;exact this.2
 have eA:apB fl d=pre++(aq 1 255++((Bw d).drop 1++post)):=by
  unfold apB
  have:=dz (pre:=pre++[255]) (post:=post) (d:=(Bw d).drop 1) hby
  rw [<-e2]
  have e9:(M ((pre++[255]:aVw)):Y)=(M pre:Y)+1:=AI
  rw [e9] at this
  have e0:fl=pre++[255]++(aq (M<|(Bw d).drop 1) 255++post):=by
   grind
  rw [<-e0] at this;rw [this];simp
 have eB:Ds (apB fl d) (Ga fl) [80] 1=pre++(Bw d++post):=by
  rw [eA,<-e2]
  have:=dz (pre:=pre) (post:=(Bw d).drop 1++post) (d:=[80]) aPJ
  grind
 have eJ:De g (ds++[d]) (k-(7+M d))=((80::D6 g)++BR ds)++(Bw d++aq (k-(7+M d)) 255):=by
  unfold De;rw [aFp,show BR [d]=Bw d by simp [BR]]
  simp only [Cx]
 refine ⟨by rw [eB,e3,eJ],?_,h.lo,h.bo,h.hw,h.hg,h.old,?_⟩
 ·have:=h.la
  rw [PF] at this;rw [PF,aFp,BI,show BR [d]=Bw d by simp [BR],hl];omega
 ·intro x hx
  rw [BZ,HJ] at hx;rcases hx with hx|rfl
  ·exact h.bd x hx
  ·exact ⟨hb,hd⟩
end JI
def aGt (se:Y) (fl d:aVw) (y:Fl):(Hk se fl d).getLastD y=(se,Ds (apB fl d) (Ga fl) [80] 1):=by
 unfold Hk Dy;rw [show au (M ([80]:aVw)+1)=[0,1] from rfl]
 simp
def abR {fl:aVw}{w g:Y}{ls:aVG}{k:aVx}{O:aVw}(h:JI fl w g (ls.map B1) k O) (hv:B0 ls=U):Ce 512 fl=0/\Ai 512 fl=ls:=by
 have h1:(ls.map B1).map GS=ls:=by
  rw [HI]
  have:=(GK hv).2
  calc ls.map (GS∘B1)=ls.map id:=Jl (λx hx=>aq5<|this x hx)
   _=ls:=Vg _
 have h2:ldB (ls.map B1)=true:=by
  unfold ldB;rw [BH];intro d hd;obtain ⟨x,_,rfl⟩:=F4.1 hd
  simp [KV]
 have h3:Ce 512 fl=0:=by
  unfold Ce;rw [h.VA,h.lk,h.len];simp only [h2,h1,hv];rfl
 refine ⟨h3,?_⟩;unfold Ai
 rwa [AD h3,h.lk]
section
variable {cs : List Cd} {os : List ByteArray} {ks : List Ko} {gs : List Ch} {bs : List Ba} {l : List Le} {rs : List Ra} {d : List Dm} {t n : Int}
structure NwL (gs:aVA) (am:aVw) (t n:Y) (m:aVG):Prop where
 at_:∀k:Y,0<=k->k<(M m:Y)->Ao m k=(n+k,(Ao m k).2.1,gi am (Ao m k).2.1,t,12)/\(0<=(Ao m k).2.1/\(Ao m k).2.1<(M gs:Y))/\CV (AF gs (Ao m k).2.1)<gi am (Ao m k).2.1
 up:∀k:Y,1<=k->k<(M m:Y)->(Ao m (k-1)).2.1<(Ao m k).2.1
def Wn {m:aVG}{x:Le}{k:Y}(h0:0<=k):Ao (m++[x]) k=if k<(M m:Y) then Ao m k else if k=(M m:Y) then x else (0,0,0,0,0):=by
 unfold Ao;rw [DA,DA];split
 ·grind
 ·rw [Gc A0]
  split
  ·rw [show k.toNat-M m=0 by omega]
   rfl
  ·rw [Sw A8]
   rfl
def iB {am:aVw}:∀ {K:aVx},K<=M gs->NwL gs am t n (HG gs l t n am K)/\∀x∈HG gs l t n am K,x.2.1<(K:Y)
 |0,_=>⟨⟨λk h0 h1=>aP0,λk h0 h1=>aP0⟩,λx hx=>Qa⟩
 | K +1,h=>by
  obtain ⟨⟨h1,h2⟩,h3⟩:=iB (am:=am) (K:=K) A0;rw [HG];split
  ·rename_i hn
   have hf:=azn hn
   refine ⟨⟨λk k0 k1=>?_,λk k0 k1=>?_⟩,λx hx=>?_⟩
   ·simp only [BI,Bk,Bv] at k1
    rw [Wn k0];split
    ·grind
    ·rename_i hk
     have e:k=(M (HG gs l t n am K):Y):=A0
     rw [AD e,e]
     grind
   ·simp only [BI,Bk,Bv] at k1
    rw [Wn A0,Wn A0,AD (show k-1<(M (HG gs l t n am K):Y) by omega)]
    split
    ·grind
    ·rename_i hk
     rw [AD (show k=(M (HG gs l t n am K):Y) by omega)]
     exact h3 _<|Lt A0 A0
   ·rw [BZ,HJ] at hx
    rcases hx with hx|rfl
    ·have:=h3 x hx;omega
    ·simp only;omega
  ·rw [Gg]
   exact ⟨⟨h1,h2⟩,λx hx=>by have:=h3 x hx;omega⟩
def aG1:B0 l=U↔M l<=64/\∀k:Y,0<=k->k<(M l:Y)->DM (Ao l k)=U/\(k=0\/K9 (Ao l<|k-1) (Ao l k)=U):=by
 unfold B0;rw [AX,Ab,Dl];refine and_congr_right λ_=>⟨λh k k0 k1=>?_,λh j hj=>?_⟩
 ·have:=h k.toNat A0
  rw [CO k0] at this;unfold H5 at this;rw [AX,Cf,Ab] at this;exact this
 ·obtain ⟨h1,h2⟩:=h j A0 hj
  unfold H5
  grind
def aEt {x:Le}(h:B0 l=U) (hx:DM x=U) (hl:M l<64) (hf:M l=0\/K9 (Ao l<|(M l:Y)-1) x=U):B0 (l++[x])=true:=by
 rw [aG1] at h|-;refine ⟨A8,λk k0 k1=>?_⟩
 simp only [BI,Bk,Bv] at k1;rw [Wn k0];split
 ·rename_i hk
  obtain ⟨h1,h2⟩:=h.2 k k0 hk;refine ⟨h1,?_⟩;rcases h2 with h2|h2
  ·grind
  ·by_cases e:k=0
   ·exact .inl e
   ·rw [Wn A0,AD A0]
    grind
 ·rename_i hk
  have e:k=(M l:Y):=A0
  rw [AD e];refine ⟨hx,?_⟩;rcases hf with hf|hf
  ·omega
  ·by_cases e0:k=0
   ·grind
   ·rw [Wn A0,AD A0,e]
    grind
structure Fit (l:aVG) (n t:Y):Prop where
 les:B0 l=U
 last:M l=0\/((Ao l ((M l:Y)-1)).1<n/\(Ao l ((M l:Y)-1)).2.2.2.1<=t)
def Fit.mono {n' t':Y}(h:Fit l n t) (hn:n<=n') (ht:t<=t'):Fit l n' t':=⟨h.les,by
 rcases h.last with h1|h1
 ·exact .inl h1
 ·exact .inr A0⟩
def aai {b:Y}{j:Y}(hj:0<=j):∀(l:aVG) (o:aVw),(∀x∈l,0<=x.2.1/\x.2.1<(M o:Y))->gi o j<=b->(∀x∈l,x.2.1=j->x.2.2.1<=b)->gi (l.foldl Jb o) j<=b
 | [],_,_,h,_=>h
 | x::l,o,hc,h,hx=>by
  have hx0:=hc x AI
  refine aai hj l _ (λy hy=>aOQ) ?_ λy hy=>hx y A8
  unfold Jb;rw [JE hx0.1 hx0.2 hj];split
  ·rename_i e
   have:=hx x AI e.symm
   rw [<-e];unfold mx;omega
  ·exact h
def aaj {j:Y}(hj:0<=j):∀(l:aVG) (o:aVw),(∀x∈l,0<=x.2.1/\x.2.1<(M o:Y))->gi o j<=gi (l.foldl Jb o) j/\∀x∈l,x.2.1=j->x.2.2.1<=gi (l.foldl Jb o) j
 | [],_,_=>⟨Cj _,λx hx=>Qa⟩
 | x::l,o,hc=>by
  rw [KI]
  have hx0:=hc x AI
  obtain ⟨h1,h2⟩:=aaj hj l (Jb o x) λy hy=>aOQ
  have h3:gi o j<=gi (Jb o x) j/\(x.2.1=j->x.2.2.1<=gi (Jb o x) j):=by
   unfold Jb;rw [JE hx0.1 hx0.2 hj];split
   ·rename_i e
    rw [<-e];unfold mx;omega
   ·rename_i e
    omega
  refine ⟨A0,λy hy e=>?_⟩
  rcases BB.1 hy with rfl|hy
  ·have:=h3.2 e
   omega
  ·grind
def aUD (hv:B0 l=U) (hb:below (M gs) l=U):∀x∈l.filter (Fb t),0<=x.2.1/\x.2.1<(M (aq (M gs) (0:Y)):Y):=λx hx=>by
 have hx:=(Cg.1 hx).1
 have h1:=KY.1<|(GK hv).2 x hx
 have h2:=DH<|BH.1 hb x hx
 rw [Ci];omega
def aKU {b j:Y}(hv:B0 l=U) (hb:below (M gs) l=U) (hj:0<=j) (b0:0<=b) (h:∀x∈l,Fb t x=U->x.2.1=j->x.2.2.1<=b):gi (GP (M gs) l t) j<=b:=
 aai hj _ _ (aUD hv hb) (by rw [Kd];exact b0) (λx hx e=>h x (Cg.1 hx).1 (Cg.1 hx).2 e)
def sX (hv:B0 l=U) (hb:below (M gs) l=U) {x:Le}(hx:x∈l) (ha:Fb t x=U):x.2.2.1<=gi (GP (M gs) l t) x.2.1:=by
 have h1:=KY.1<|(GK hv).2 x hx
 exact (aaj h1.2.1.1 _ _<|aUD hv hb).2 x (Cg.2 ⟨hx,ha⟩) rfl
end
abbrev anc (a b:Le):Prop:=a.1<b.1/\a.2.2.2.1<=b.2.2.2.1
def sO {l:aVG}:B0 l=U↔M l<=64/\(∀x∈l,DM x=U)/\l.Pairwise anc:=by
 refine ⟨λh=>⟨(GK h).1,(GK h).2,aFR h⟩,λ⟨h1,h2,h3⟩=>aG1.2 ⟨h1,λk k0 k1=>⟨h2 _<|Lt k0 k1,?_⟩⟩⟩
 by_cases e:k=0
 ·exact .inl e
 ·right
  have:=lh.1 h3 (k-1).toNat k.toNat A0 A0 A0
  rw [<-Mw,<-Mw] at this;unfold K9;rw [CY (p:=(Ao l k).1>_) this.1,CY (p:=(Ao l k).2.2.2.1>=_) this.2];rfl
def qK {l m:aVG}(h:B0 l=U) (hs:m.Sublist l):B0 m=true:=by
 rw [sO] at h|-
 grind
def grS (o:aVG) (x:Le):aVG:=if FZ o x=0 then GM o x else o
def vd {o:aVG}{x:Le}(h:B0 o=U):B0 (grS o x)=U/\(grS o x=o\/grS o x=o++[x]):=by
 unfold grS;split
 ·rename_i e
  have e2:GM o x=o++[x]:=by unfold GM;rw [AD e]
  rw [e2];refine ⟨?_,.inr rfl⟩;unfold FZ at e;split at e
  ·rename_i c
   rw [AX] at c;split at e
   ·omega
   ·rename_i c2
    split at e
    ·omega
    ·rename_i c3
     have:=(GK h).1
     refine aEt h c.2 A0 ?_
     by_cases q:M o=0
     ·exact .inl q
     ·right
      grind
  ·omega
 ·grind
def ckO (m:Y) (e:Ld):aVH:=an (e.1<=m)&&(an (e.2.1<=m)&&an (e.2.2<=m))
def ckN (cs:aVF) (L:aV8) (k:aVx):aVH:=DS k λo=>ckO (Cs<|Ae cs o)<|Df L o.toNat
def gLi (l:aV8) (i:Y):Ld:=gx (e:=.pair A7 Aj) l i
def MN (m:Y) (e:Ld) (t:Y):aVH:=(an (t>0) ||an (e.1<=m))&&((an (t>1) ||an (e.2.1<=m))&&(an (t>2) ||an (e.2.2<=m)))
def anO {m:Y}{e:Ld}:MN m e 0=ckO m e:=by simp [MN,ckO]
def DG (cs:aVF) (gs:aVA) (m:aVw):aVH:=ckN cs (Hc cs gs m<|M gs)<|M cs
section
variable {cs : List Cd} {os : List ByteArray} {ks : List Ko} {gs : List Ch} {bs : List Ba} {l : List Le} {rs : List Ra} {d : List Dm} {t n : Int}
def fK {m:aVw}(hs:B6 cs os ks gs bs=U) (hm:∀k:aVx,k<M gs->0<=gi m k/\gi m k<=80):DG cs gs m=U↔∀o:aVx,o<M cs->∀p:Y,(p=0\/p=1\/p=2)->EN m (Bz gs p<|Cy cs gs o<|M gs)<=Cs (Ae cs o):=by
 have gl:=(DC.1 hs).1.2.2.2.2.1
 have hat:=(aSv (dP hs) (dQ hs) A0 hm (M gs)<|Aq _).2
 unfold DG ckN;rw [Dl]
 constructor
 ·intro h o ho p hp
  have h1:=h o A0
  rw [C0,hat o ho] at h1;unfold ckO ldO at h1;simp only [AX,Ab] at h1;rcases hp with rfl|rfl|rfl
  ·exact h1.1
  ·exact h1.2.1
  ·exact h1.2.2
 ·intro h o ho
  rw [C0,hat o A0];unfold ckO ldO
  grind
def u0 {a b:aVw}:∀ {L:aVw},(∀k∈L,gi a k<=gi b k)->EN a L<=EN b L
 | [],_=>Cj _
 |k::L,h=>by
  have h1:=h k AI
  have h2:=u0 (a:=a) (b:=b) (L:=L) λj hj=>h j<|NU _ hj
  simp only [EN];omega
def aPs {a al am:aVw}:∀ {L:aVw},(∀k∈L,gi a k<=mx (gi al k) (gi am k))->EN a L<=IE al am L
 | [],_=>by simp [EN,IE]
 |k::L,h=>by
  have h1:=h k AI
  have h2:=aPs (a:=a) (al:=al) (am:=am) (L:=L) λj hj=>h j<|NU _ hj
  rw [TX];simp only [EN];omega
def aGC {c:aVx}{p:Y}(hp:p=0\/p=1\/p=2) (hl:M (Bz gs p<|Cy cs gs c<|M gs)>0):∀ {k:aVx},c<k->(Cs<|Ae cs c,Bz gs p<|Cy cs gs c<|M gs)∈D3 cs gs k
 |0,h=>A0
 | k+1,h=>by
  rw [D3,BZ]
  by_cases e:c=k
  ·right
   unfold bX
   have:(Cs<|Ae cs c,Bz gs p<|Cy cs gs c<|M gs)∈rowP cs gs c p:=by
    unfold rowP;rw [AD hl]
    simp
   rcases hp with rfl|rfl|rfl
   ·grind
   ·grind
   ·grind
  ·exact .inl<|aGC hp hl A0
def Tb {j:Y}(j0:0<=j) (j1:j<(M gs:Y)):gi (D4 gs l t) j=mx (CV<|AF gs j) (gi (GP (M gs) l t) j):=P4 j0 j1
def IV {l2:aVG}{t2:Y}(hs:B6 cs os ks gs bs=U) (hv:B0 l2=U) {j:Y}(j0:0<=j) (j1:j<(M gs:Y)):0<=gi (D4 gs l2 t2) j/\gi (D4 gs l2 t2) j<=80:=by
 have hch:MQ (AF gs j)=true:=by
  have:=Nk hs j0 j1
  unfold G4 at this
  grind
 have hc:=fh hch
 have h:=Xk (a:=0) (b:=80) (j:=j) Aa<|fE (t:=t2) (m:=M gs) hv
 rw [Tb j0 j1];unfold mx;omega
end
def isW (se:Y) (fl:aVw) (s:Y):aVH:=!(((fl.drop (s*se).toNat).take se.toNat).all λb=>b==255)
def Fx (se:Y) (f0:aVw) (s:Y):aVx->List Fl×List Int->List Fl×List Int
 |0,a=>a
 |n+1,a=>Fx se f0 (s+1) n (if isW se f0 s=U then (a.1++(La se a.2 s).drop 1,Es a.2 (s*se) se.toNat) else a)
def rwF (fl:aVw) (ds:aVD):aVH:=an (5+(ds.map λd=>7+M d).sum<=M fl / 2)&&ds.all (λd=>an<|M d<=65535)
def G8 (se:Y) (fl:aVw) (ds:aVD):Y:=if Bu se fl≠0 then Bu se fl else if (!rwF fl ds ||(JS fl (Av fl)==4294967295))=U then 10 else 0
def Hg (se:Y) (fl:aVw):List Fl×List Int:=letI a:=((M fl / 2:aVx):Y);Fx se fl ((1-Av fl)*a.tdiv se) (a.tdiv se).toNat ([(se,fl)],fl)
def HA (fl:aVw):Y:=(1-Av fl)*((M fl / 2:aVx):Y)
def Ed (fl:aVw) (ds:aVD):aVw:=D6 (JS fl (Av fl)+1)++BR ds
def LQ (se:Y) (fl:aVw) (ds:aVD):aVw:=Ds (Hg se fl).2 (HA fl+1) (Ed fl ds)<|M<|Ed fl ds
def G7 (se:Y) (fl:aVw) (ds:aVD):aVV:=if G8 se fl ds=0 then (Hg se fl).1++((Dy se (Hg se fl).2 (HA fl+1)<|Ed fl ds).drop 1++(Dy se (LQ se fl ds) (HA fl) [80]).drop 1) else []
def FB (se:Y) (fl d:aVw):Y:=if Bu se fl≠0 then Bu se fl else if MS se fl d=U then 10 else if MP fl=U then 0 else G8 se fl ((Et fl).1++[d])
def Hj (se:Y) (fl d:aVw):aVV:=if Bu se fl≠0 then [] else if MS se fl d=U then [] else if MP fl=U then Hk se fl d else G7 se fl ((Et fl).1++[d])
def II (l:aVG) (x:Le) (t:Y):aVD:=letI a:=(Ao l<|(M l:Y)-1);((BW l t).map B1)++((if M l>0/\(M (BW l t)=0\/(Ao (BW l t)<|(M (BW l t):Y)-1).1≠a.1) then [B1 a] else [])++[B1 x])
def Hb (l:aVG) (x:Le):aVH:=letI a:=(Ao l<|(M l:Y)-1);decide (M l>0)&&(an (x.1<=a.1) ||an (x.2.2.2.1<a.2.2.2.1))
def EO (se:Y) (fl:aVw) (x:Le) (t:Y):Y:=
 if Ce se fl≠0 then Ce se fl else if (!DM x || !inB t 0 1100000)=U then 1 else if Hb (Ai se fl) x=U then 12 else
 if FB se fl (B1 x)≠10 then FB se fl (B1 x) else G8 se fl (II (Ai se fl) x t)
def Cu (se:Y) (fl:aVw) (x:Le) (t:Y):aVV:=
 if Ce se fl≠0 then [] else if (!DM x || !inB t 0 1100000)=U then [] else if Hb (Ai se fl) x=U then [] else
 if FB se fl (B1 x)≠10 then Hj se fl (B1 x) else G7 se fl (II (Ai se fl) x t)
def Io (se:Y) (fl:aVw):Y:=if Ce se fl≠0 then Ce se fl else if M (Ai se fl)=0 then 0 else if (Ao (Ai se fl)<|(M (Ai se fl):Y)-1).1=1000000 then 10 else 0
def Je (se:Y) (fl:aVw):Y:=letI a:=(Ao (Ai se fl)<|(M (Ai se fl):Y)-1);if Ce se fl≠0 then 0 else if M (Ai se fl)=0 then 1 else if a.1=1000000 then 0 else a.1+1
structure SN where
 ls:aVG
 se:Y
 fl:aVw
 nx:Y
 lk:aWa
def U1 (t:Y) (x:Le):Lk:=(t+(7*t+3*x.2.1).tmod 5,x)
def F8 (t:Y) (s:SN) (x:Le):SN:=
 if FZ s.ls x=0/\EO s.se s.fl x t=0 then
  ⟨GM s.ls x,(GU (Cu s.se s.fl x t)<|(M (Cu s.se s.fl x t):Y)-1).1,(GU (Cu s.se s.fl x t)<|(M (Cu s.se s.fl x t):Y)-1).2,x.1+1,s.lk++[U1 t x]⟩
 else s
def EI (t:Y) (xs:aVG) (s:SN):aVx->SN
 |0=>s
 |k+1=>F8 t (EI t xs s k)<|Ao xs k
def Dt (l:aVG) (t:Y):aVG:=if DQ l t=0 then BW l t else l
namespace PK
variable (p : PK)
def EL:aVF:=E0 p.cs p.tg<|M p.tg
def dE:Y:=deE p.EL p.os p.ks p.gs p.bs (Dt p.ls p.tk) p.ra p.dm p.tk p.nx
def dR:aV3:=deR p.EL p.os p.ks p.gs p.bs (Dt p.ls p.tk) p.ra p.dm p.tk p.nx
def dL:aVG:=deL p.EL p.os p.ks p.gs p.bs (Dt p.ls p.tk) p.ra p.dm p.tk p.nx
def H9:SN:=⟨Dt p.ls p.tk,p.se,p.fl,p.nx,p.lk⟩
def sn1:SN:=EI p.tk p.dL p.H9<|M p.dL
def AK:PK:=if p.up=X then p else if p.dE≠0 then {p with ls:=Dt p.ls p.tk} else {p with ra:=p.dR,ls:=p.sn1.ls,se:=p.sn1.se,fl:=p.sn1.fl,nx:=p.sn1.nx,lk:=p.sn1.lk}
def Ik:PK:={p with st:=L5 p.gs p.lk p.tk p.st<|M p.lk,lk:=p.lk.filter λl=>an<|l.1>p.tk}
def Sf:PK:={p with st:=JL p.gs p.dr p.tk p.st<|M p.dr}
def dw:DW:=D9 p.gs p.ca ⟨p.st,p.mi,p.me,aq (M p.gs) 0⟩<|M p.gs
def BY:PK:={p with st:=p.dw.st,mi:=p.dw.mi,me:=p.dw.me}
end PK
def Cp (gs:aVA) (tg:aVw) (am:aVw) (cs:aVF):aVx->List Cd
 |0=>cs
 |k+1=>if gi tg k>=(Ae (Cp gs tg am cs k) k).2.2.1 then Cp gs tg am cs k else
  if (an (M am=M gs)&&DG ((Cp gs tg am cs k).set k<|GV (Ae (Cp gs tg am cs k) k)<|gi tg k) gs am)=U then (Cp gs tg am cs k).set k (GV (Ae (Cp gs tg am cs k) k)<|gi tg k) else Cp gs tg am cs k
namespace PK
variable (p : PK)
def Jg:aVw:=if JU p.ls (M p.gs) (p.tk+1)=0 then D4 p.gs p.ls (p.tk+1) else []
def K2:PK:={p with cs:=if p.up=X then p.cs else Cp p.gs p.tg p.Jg p.cs (M p.tg)}
def endP:PK:={p with tk:=p.tk+1}
def AZ:PK:=p.AK.Ik.Sf
def BX:PK:=p.AZ.BY.K2.endP
def Ek:aVw:=p.AZ.dw.dw
def Ib:Y:=if p.tk=1000000 then 15 else 0
end PK
namespace PK
variable (p : PK) (n m : Int) (c : Ca) (d : Dm)
def isC:aVH:=inB n 0<|(M p.gs:Y)-1
def GL:Y:=if p.isC n=X then 1 else if (!Gb c || !Hi d)=U then 1 else if ((Bg p.ca n).2.2.1 !=0 ||(BF p.st n).1 !=0)=U then 6 else 0
def aAm:aVW:=CW p.gs (CW p.gs (CW p.gs (CW p.gs p.st n 1 0 0) n 3 0 0) n 4 1 0) n 5 0 0
def O7:PK:={p with ca:=p.ca.set n.toNat c,mi:=p.mi.set n.toNat ([],0,0),dm:=p.dm.set n.toNat d,st:=p.aAm n}
def JK:Y:=if p.isC n=X then 1 else if (Bg p.ca n).2.2.1=0 then 4 else 0
def RB:PK:={p with ca:=p.ca.set n.toNat (0,0,0,0,0),mi:=p.mi.set n.toNat ([],0,0),dm:=p.dm.set n.toNat (X,0,0,9),st:=CW p.gs (CW p.gs p.st n 6 0 0) n 2 0 0}
def O8:Y:=if p.isC n=X then 1 else 0
def iz:PK:={p with lk:=p.lk.filter λl=>l.2.2.1 !=n}
def N1:Y:=if p.up=X then 6 else 0
def Pb:PK:={p with up:=X,ls:=[]}
def Fs:Y:=if p.up=U then 6 else if Ce p.se p.fl≠0 then Ce p.se p.fl else if DQ (Ai p.se p.fl) p.tk≠0 then DQ (Ai p.se p.fl) p.tk else Io p.se p.fl
def UM:PK:={p with up:=U,ls:=BW (Ai p.se p.fl) p.tk,nx:=Je p.se p.fl,ra:=aq (M p.gs) (0,0)}
def O6:Y:=if p.isC n=X then 1 else sE (AF p.gs n) (BF p.st n) 6 1 0
def aVh:PK:={p with st:=CW p.gs p.st n 6 1 0}
def LH:PK:={p with tg:=p.tg.set n.toNat m}
def I7:Y:=if (!inB n 0 ((M p.cs:Y)-1) || !inB m 1 (Ae p.cs n).2.2.1)=U then 1 else if DG (p.LH n m).EL p.gs (Bt p.gs)=X then 13 else 0
end PK
def EH (p:PK):aVH:=(B6 p.cs p.os p.ks p.gs p.bs&&inB p.tk 0 1000000)&&((an (M p.st=M p.gs)&&(an (M p.ca=M p.gs)&&(an (M p.mi=M p.gs)&&(an (M p.me=M p.gs)&&(an (M p.dm=M p.gs)&&an (M p.dr=M p.gs))))))&&
 (an (M p.tg=M p.cs)&&(DS (M p.tg) (λk=>inB (gi p.tg k) 1 (Ae p.cs k).2.2.1)&&(p.dr.all (λx=>inB x (-200) 200)&&p.lk.all (λl=>inB l.2.2.1 0<|(M p.gs:Y)-1)))))
structure EV where
 (ek en em:Y)
 c:Ca
 d:Dm
def PK0:PK:=⟨[],[],[],[],[],0,X,[],0,[],[],0,[],[],[],[],[],[],[],[]⟩
def BO (p:PK) (e:EV):Y:=if EH p=X then 1 else if e.ek=1 then p.Ib else if e.ek=2 then p.GL e.en e.c e.d else if e.ek=3 then p.JK e.en else if e.ek=4 then p.O8 e.en else if e.ek=5 then p.N1 else if e.ek=6 then p.Fs else if e.ek=7 then p.O6 e.en else if e.ek=8 then p.I7 e.en e.em else 9
def BM (p:PK) (e:EV):PK:=if BO p e≠0 then PK0 else if e.ek=1 then p.BX else if e.ek=2 then p.O7 e.en e.c e.d else if e.ek=3 then p.RB e.en else if e.ek=4 then p.iz e.en else if e.ek=5 then p.Pb else if e.ek=6 then p.UM else if e.ek=7 then p.aVh e.en else p.LH e.en e.em
def CU (p:PK) (e:EV):aVw:=if BO p e≠0 then [] else if e.ek=1 then p.Ek else []
def DL (cs:aVF) (os:aVz) (ks:aVK) (gs:aVA) (bs:aVL) (dr:aVw):Y:=
 if B6 cs os ks gs bs=X\/M dr≠M gs then 1 else if dr.all (λx=>inB x (-200) 200)=X then 1 else if DG cs gs (Bt gs)=X then 13 else 0
def Dx:aVw:=De 0 [] 1019++aq 1024 255
def newP (cs:aVF) (os:aVz) (ks:aVK) (gs:aVA) (bs:aVL) (dr:aVw):PK:=if DL cs os ks gs bs dr≠0 then PK0 else
 ⟨cs,os,ks,gs,bs,0,U,[],512,Dx,aq (M gs) (0,0),1,aq (M gs) (0,0,0,X),aq (M gs) (0,0,0,0,0),aq (M gs) ([],0,0),(G0<|M gs).map λk=>(k+1,0,X),aq (M gs) (X,0,0,9),[],dr,cs.map λc=>c.2.2.1⟩
structure VP (p:PK):Prop where
 site:B6 p.cs p.os p.ks p.gs p.bs=U
 tk:0<=p.tk/\p.tk<=1000000
 st:M p.st=M p.gs
 ca:M p.ca=M p.gs
 mi:M p.mi=M p.gs
 me:M p.me=M p.gs
 dm:M p.dm=M p.gs
 dr:M p.dr=M p.gs
 Ep:M p.tg=M p.cs
 tg:∀k:aVx,k<M p.tg->1<=gi p.tg k/\gi p.tg k<=(Ae p.cs k).2.2.1
 dr8:p.dr.all (λx=>inB x (-200) 200)=U
 lk:∀l∈p.lk,0<=l.2.2.1/\l.2.2.1<(M p.gs:Y)
def W9 {p:PK}:EH p=U↔VP p:=by
 unfold EH;simp only [AX,Ab,BS,Dl]
 constructor
 ·rintro ⟨⟨h1,h2⟩,⟨h3,h4,h5,h6,h7,h8⟩,h9,h10,h11,h12⟩
  exact ⟨h1,h2,h3,h4,h5,h6,h7,h8,h9,λk hk=>h10 k A0,h11,λl hl=>by have:=BH.1 h12 l hl;rw [BS] at this;omega⟩
 ·intro h
  refine ⟨⟨h.site,h.tk⟩,⟨h.st,h.ca,h.mi,h.me,h.dm,h.dr⟩,h.Ep,λk hk=>h.tg k A0,h.dr8,BH.2 λl hl=>BS.2 ?_⟩
  have:=h.lk l hl
  omega
def JB {gs:aVA}{st:aVW}{i k n m:Y}:M (CW gs st i k n m)=M st:=by
 unfold CW
 grind
def rC {gs:aVA}{lk:aWa}{t:Y}{st:aVW}:∀k,M (L5 gs lk t st k)=M st
 |0=>rfl
 |k+1=>by
  unfold L5;split
  ·exact rC k
  ·rw [JB];exact rC k
def aFe {gs:aVA}{st:aVW}{i:Y}:∀k,M (L8 gs st i k)=M st
 |0=>rfl
 |k+1=>by unfold L8;rw [JB];exact aFe k
def rK {gs:aVA}{dr:aVw}{t:Y}{st:aVW}:∀k,M (JL gs dr t st k)=M st
 |0=>rfl
 |k+1=>by
  unfold JL;split
  ·rw [aFe];exact rK k
  ·exact rK k
def auw {gs:aVA}{ca:aWf}{s:DW}{i:Y}:letI a:=FD gs ca s i;M a.st=M s.st/\M a.mi=M s.mi/\M a.me=M s.me/\M a.dw=M s.dw:=by
 unfold FD;split
 ·grind
 ·split
  ·refine ⟨?_,AI,?_,AI⟩
   ·simp only;split
    ·exact JB
    ·rfl
   ·grind
  ·grind
def Wq {gs:aVA}{ca:aWf}{s:DW}:∀k,M (D9 gs ca s k).st=M s.st/\M (D9 gs ca s k).mi=M s.mi/\M (D9 gs ca s k).me=M s.me/\M (D9 gs ca s k).dw=M s.dw
 |0=>⟨rfl,rfl,rfl,rfl⟩
 |k+1=>by
  obtain ⟨h1,h2,h3,h4⟩:=Wq (gs:=gs) (ca:=ca) (s:=s) k;obtain ⟨g1,g2,g3,g4⟩:=auw (gs:=gs) (ca:=ca) (s:=D9 gs ca s k) (i:=(k:Y));unfold D9
  grind
def iD {cs:aVF}{os:aVz}{ks:aVK}{gs:aVA}{bs:aVL}(h:B6 cs os ks gs bs=U) {k:aVx}(hk:k<M cs):1<=(Ae cs k).2.2.1/\(Ae cs k).2.2.1<=1000:=by
 have:=qW h (c:=(k:Y)) A0 A0
 unfold I9 at this;simp only [AX,BS] at this
 grind
def TN {gs:aVA}{tg am:aVw}{cs:aVF}:∀n,M (Cp gs tg am cs n)=M cs
 |0=>rfl
 | n+1=>by
  unfold Cp;split
  ·exact TN n
  ·split
   ·rw [C4];exact TN n
   ·exact TN n
def dg {gs:aVA}{tg am:aVw}{cs:aVF}:∀n,n<=M cs->∀j:aVx,(Ae (Cp gs tg am cs n) j=Ae cs j\/(j<n/\gi tg j<(Ae cs j).2.2.1/\Ae (Cp gs tg am cs n) j=GV (Ae cs j) (gi tg j)))/\(n<=j->Ae (Cp gs tg am cs n) j=Ae cs j)
 |0,_,j=>⟨.inl rfl,λ_=>rfl⟩
 | n +1,hn,j=>by
  obtain ⟨h1,h2⟩:=dg (gs:=gs) (tg:=tg) (am:=am) (cs:=cs) n A0 j
  have hl:n<M (Cp gs tg am cs n):=by rw [TN];omega
  unfold Cp;split
  ·grind
  ·rename_i hlt
   split
   ·rw [Wp hl]
    by_cases e:j=n
    ·subst e
     grind
    ·rw [AE e]
     grind
   ·grind
def pS {gs:aVA}{tg am:aVw}{cs:aVF}{os:aVz}{ks:aVK}{bs:aVL}(h:B6 cs os ks gs bs=U) (ht:∀k:aVx,k<M cs->1<=gi tg k/\gi tg k<=1000):∀n,n<=M cs->B6 (Cp gs tg am cs n) os ks gs bs=U
 |0,_=>h
 | n+1,hn=>by
  have h1:=pS (am:=am) h ht n A0
  unfold Cp;split
  ·exact h1
  ·split
   ·exact cu h1 (by rw [TN];omega)<|ht n A0
   ·exact h1
def Ng {cs:aVF}{tg:aVw}:∀n,M (E0 cs tg n)=M cs
 |0=>rfl
 |n+1=>by unfold E0;rw [C4];exact Ng n
def pg {tg:aVw}{cs:aVF}{os:aVz}{ks:aVK}{gs:aVA}{bs:aVL}(h:B6 cs os ks gs bs=U) (ht:∀k:aVx,k<M cs->1<=gi tg k/\gi tg k<=1000):∀n,n<=M cs->B6 (E0 cs tg n) os ks gs bs=U
 |0,_=>h
 |n+1,hn=>by
  exact cu (pg h ht n A0) (by rw [Ng];omega)<|ht n A0
def aBZ {p:PK}:∀x∈p.dL,0<=x.2.1/\x.2.1<(M p.gs:Y):=by
 intro x hx;unfold PK.dL deL at hx;split at hx
 ·obtain ⟨k,hk,rfl⟩:=Hs.1 hx
  have:=(iB (gs:=p.gs) (l:=Dt p.ls p.tk) (t:=p.tk) (n:=p.nx) (am:=FH p.gs p.ra (HS p.EL p.os p.ks p.gs p.bs (Dt p.ls p.tk) p.dm p.tk)<|M p.gs)<|Aq _).1.at_ (k:Y) A0 A0
  rw [Mw A8] at this
  grind
 ·cases hx
def aru {t:Y}{s:SN}{x:Le}:(F8 t s x).lk=s.lk\/(F8 t s x).lk=s.lk++[U1 t x]:=by
 unfold F8;exact aO
def rh {t:Y}{xs:aVG}{s:SN}:∀n,n<=M xs->(∀l∈(EI t xs s n).lk,l∈s.lk\/∃x∈xs,l=U1 t x)/\M (EI t xs s n).lk<=M s.lk+n
 |0,_=>⟨λl hl=> .inl hl,Aq _⟩
 | n+1,hn=>by
  obtain ⟨h1,h2⟩:=rh (t:=t) (xs:=xs) (s:=s) n A0;unfold EI;rcases aru (t:=t) (s:=EI t xs s n) (x:=Ao xs n) with e|e<;>rw [e]
  ·grind
  ·refine ⟨λl hl=>?_,A8⟩
   rw [BZ,HJ] at hl;rcases hl with hl|rfl
   ·grind
   ·exact .inr ⟨_,Lt A0 A0,rfl⟩
def av9 {p:PK}(h:∀l∈p.lk,0<=l.2.2.1/\l.2.2.1<(M p.gs:Y)):∀l∈p.AK.lk,0<=l.2.2.1/\l.2.2.1<(M p.gs:Y):=by
 unfold PK.AK;split
 ·exact h
 ·split
  ·exact h
  ·intro l hl
   rcases (rh (t:=p.tk) (xs:=p.dL) (s:=p.H9) _<|Aq _).1 l hl with e|⟨x,hx,rfl⟩
   ·exact h l e
   ·exact aBZ x hx
def J0 (p:PK):p.AK.cs=p.cs/\p.AK.os=p.os/\p.AK.ks=p.ks/\p.AK.gs=p.gs/\p.AK.bs=p.bs/\p.AK.tk=p.tk/\p.AK.up=p.up/\p.AK.st=p.st/\p.AK.ca=p.ca/\p.AK.mi=p.mi/\p.AK.me=p.me/\p.AK.dm=p.dm/\p.AK.dr=p.dr/\p.AK.tg=p.tg:=by
 unfold PK.AK;exact aO
def VP.dec {p:PK}(h:VP p):VP p.AK:=by
 obtain ⟨e1,e2,e3,e4,e5,e6,e7,e8,e9,e10,e11,e12,e13,e14⟩:=J0 p;refine ⟨?_,?_,?_,?_,?_,?_,?_,?_,?_,?_,?_,?_⟩
 ·rw [e1,e2,e3,e4,e5];exact h.site
 ·rw [e6];exact h.tk
 ·rw [e8,e4];exact h.st
 ·rw [e9,e4];exact h.ca
 ·rw [e10,e4];exact h.mi
 ·rw [e11,e4];exact h.me
 ·rw [e12,e4];exact h.dm
 ·rw [e13,e4];exact h.dr
 ·rw [e14,e1];exact h.Ep
 ·rw [e14,e1];exact h.tg
 ·rw [e13];exact h.dr8
 ·rw [e4];exact av9 h.lk
def VP.arr {p:PK}(h:VP p):VP p.Ik:={h with st:=(rC _).trans h.st,lk:=λl hl=>h.lk l<|(Cg.1 hl).1}
def VP.cnt {p:PK}(h:VP p):VP p.Sf:={h with st:=(rK _).trans h.st}
def VP.drw {p:PK}(h:VP p):VP p.BY:=
 have hl:=Wq (gs:=p.gs) (ca:=p.ca) (s:=⟨p.st,p.mi,p.me,aq (M p.gs) 0⟩)<|M p.gs
 {h with st:=hl.1.trans h.st,mi:=hl.2.1.trans h.mi,me:=hl.2.2.1.trans h.me}
def VP.tg1 {p:PK}(h:VP p):∀k:aVx,k<M p.cs->1<=gi p.tg k/\gi p.tg k<=1000:=λk hk=>by
 have:=h.tg k (by rw [h.Ep];omega)
 have:=iD h.site hk
 omega
def VP.rst {p:PK}(h:VP p):VP p.K2:=by
 have hs:B6 p.K2.cs p.os p.ks p.gs p.bs=true:=by
  unfold PK.K2;split
  ·exact h.site
  ·rw [h.Ep];exact pS h.site h.tg1 _<|Aq _
 have hl:M p.K2.cs=M p.cs:=by
  unfold PK.K2;split
  ·rfl
  ·exact TN _
 refine {h with site:=hs,Ep:=h.Ep.trans hl.symm,tg:=λk hk=>?_}
 have ht:=h.tg k hk
 refine ⟨ht.1,?_⟩;unfold PK.K2;split
 ·exact ht.2
 ·rcases (dg (gs:=p.gs) (tg:=p.tg) (am:=p.Jg) (cs:=p.cs) (M p.tg) (by rw [h.Ep];omega) k).1 with e|⟨_,_,e⟩<;>rw [e]
  ·exact ht.2
  ·exact Cj _
def VP.tick {p:PK}(h:VP p) (ht:p.tk≠1000000):VP p.BX:=by
 have h5:=h.dec.arr.cnt.drw.rst
 have et:p.AZ.BY.K2.tk=p.tk:=(J0 p).2.2.2.2.2.1
 have:=h.tk
 exact {h5 with tk:=by show 0<=p.AZ.BY.K2.tk+1/\p.AZ.BY.K2.tk+1<=1000000;omega}
def afZ {p:PK}{n:Y}:M (p.aAm n)=M p.st:=by
 unfold PK.aAm;rw [JB,JB,JB,JB]
def VP.step {p:PK}(h:VP p) {e:EV}(he:BO p e=0):VP (BM p e):=by
 unfold BM;rw [AE A0];unfold BO at he;rw [AE (by rw [W9.2 h];decide)] at he
 split
 ·rename_i h1
  rw [AD h1] at he;unfold PK.Ib at he;exact h.tick λhh=>aP8
 rename_i h1;rw [AE h1] at he;split
 ·exact {h with ca:=by simp only [PK.O7,C4];exact h.ca,mi:=by simp only [PK.O7,C4];exact h.mi,dm:=by simp only [PK.O7,C4];exact h.dm,st:=afZ.trans h.st}
 rename_i h2;rw [AE h2] at he;split
 ·exact {h with ca:=by simp only [PK.RB,C4];exact h.ca,mi:=by simp only [PK.RB,C4];exact h.mi,dm:=by simp only [PK.RB,C4];exact h.dm,st:=by simp only [PK.RB,JB];exact h.st}
 rename_i h3;rw [AE h3] at he;split
 ·exact {h with lk:=λl hl=>h.lk l<|(Cg.1 hl).1}
 rename_i h4;rw [AE h4] at he;split
 ·exact {h with}
 rename_i h5;rw [AE h5] at he;split
 ·exact {h with}
 rename_i h6;rw [AE h6] at he;split
 ·exact {h with st:=JB.trans h.st}
 rename_i h7;rw [AE h7] at he;split at he
 ·unfold PK.I7 at he
  split at he
  ·cases he
  ·rename_i hb
   simp only [Cf,DB,not_or,QQ,BS] at hb;obtain ⟨⟨n0,n1⟩,m0,m1⟩:=hb;refine {h with Ep:=by simp only [PK.LH,C4];exact h.Ep,tg:=λk hk=>?_}
   have hk':k<M p.tg:=by simpa only [PK.LH,C4] using hk
   have ht:=h.tg k hk'
   show 1<=gi (p.tg.set e.en.toNat e.em) k/\gi (p.tg.set e.en.toNat e.em) k<=(Ae p.cs k).2.2.1
   unfold gi at ht|-;rw [DA,IS]
   by_cases ek:e.en.toNat=(k:Y).toNat
   ·rw [AD ek,AD (by rw [C0] at ek;omega)]
    rw [C0] at ek
    have:e.en=(k:Y):=A0
    rw [<-this];exact ⟨m0,m1⟩
   ·rw [AE ek,<-DA]
    exact ht
 ·cases he
def PB {α:Type}{l:List α}{d x:α}{i j:aVx}:(l.set i x).getD j d=if i=j/\i<M l then x else l.getD j d:=by
 by_cases e:i=j
 ·subst e
  by_cases h:i<M l
  ·grind
  ·grind
 ·grind
def ahY {gs:aVA}{st:aVW}{i j k n m:Y}(hi:0<=i) (hj:0<=j) (hij:i≠j):BF (CW gs st i k n m) j=BF st j:=by
 unfold CW;split
 ·unfold BF;rw [PB,AE A0]
 ·rfl
structure D1 where
 c:Ca
 m:Mi
 e:Me
 (ph al:Y)
namespace D1
variable (d : D1)
def ok:aVH:=!(d.c.2.2.1==0)&&(JY d.c d.m d.ph d.al==0)
def a:Y:=Ff d.c d.m d.ph d.al
def o:Y:=cnt<|Ee d.c d.m d.ph d.al
end D1
def d1 (gs:aVA) (ca:aWf) (s:DW) (j:Y):D1:=⟨Bg ca j,CD s.mi j,GY s.me j,(AF gs j).2.2.1,Be (AF gs j)<|BF s.st j⟩
def wM {gs:aVA}{ca:aWf}{s:DW}{i:Y}(h:(d1 gs ca s i).ok=X):FD gs ca s i=s:=by
 unfold D1.ok d1 at h;unfold FD
 by_cases h1:(Bg ca i).2.2.1=0
 ·grind
 ·grind
def ss {gs:aVA}{ca:aWf}{s:DW}{i:Y}(h:(d1 gs ca s i).ok=U):FD gs ca s i=
  ⟨if (d1 gs ca s i).a>(d1 gs ca s i).al then CW gs s.st i 6 2 0 else s.st,s.mi.set i.toNat<|Jh (d1 gs ca s i).c (d1 gs ca s i).m (d1 gs ca s i).ph (d1 gs ca s i).al,
   if G6 (d1 gs ca s i).e (d1 gs ca s i).a (d1 gs ca s i).o=0 then s.me.set i.toNat (Hd (d1 gs ca s i).e (d1 gs ca s i).a (d1 gs ca s i).o) else s.me,s.dw.set i.toNat (d1 gs ca s i).a⟩:=by
 unfold D1.ok d1 at h;simp only [AX,DB,CT,Cz] at h;unfold FD;rw [AE h.1,AD h.2];rfl
def aTB {gs:aVA}{ca:aWf}{s:DW}{i j:aVx}(h:i≠j):
  BF (FD gs ca s i).st j=BF s.st j/\CD (FD gs ca s i).mi j=CD s.mi j/\GY (FD gs ca s i).me j=GY s.me j/\gi (FD gs ca s i).dw j=gi s.dw j:=by
 cases hk:(d1 gs ca s i).ok
 ·rw [wM hk];exact ⟨rfl,rfl,rfl,rfl⟩
 ·rw [ss hk]
  refine ⟨?_,?_,?_,?_⟩
  ·simp only;split
   ·exact ahY A0 A0 A0
   ·rfl
  ·unfold CD;rw [PB,AE A0]
  ·simp only;split
   ·unfold GY;rw [PB,AE A0]
   ·rfl
  ·unfold gi;rw [PB,AE A0]
def aTA {gs:aVA}{ca:aWf}{s:DW}:∀(k j:aVx),k<=j->
  BF (D9 gs ca s k).st j=BF s.st j/\CD (D9 gs ca s k).mi j=CD s.mi j/\GY (D9 gs ca s k).me j=GY s.me j/\gi (D9 gs ca s k).dw j=gi s.dw j
 |0,_,_=>⟨rfl,rfl,rfl,rfl⟩
 |k+1,j,h=>by
  obtain ⟨h1,h2,h3,h4⟩:=aTA (gs:=gs) (ca:=ca) (s:=s) k j A0;obtain ⟨g1,g2,g3,g4⟩:=aTB (gs:=gs) (ca:=ca) (s:=D9 gs ca s k) (i:=k) (j:=j) A0;unfold D9
  grind
def wL {gs:aVA}{ca:aWf}{s:DW}{n:aVx}(hm:M s.mi=n) (he:M s.me=n) (hd:M s.dw=n) {j:aVx}(hj:j<n):∀(k:aVx),j<k->
  CD (D9 gs ca s k).mi j=(if (d1 gs ca s j).ok=U then Jh (d1 gs ca s j).c (d1 gs ca s j).m (d1 gs ca s j).ph (d1 gs ca s j).al else CD s.mi j)/\
  GY (D9 gs ca s k).me j=(if (d1 gs ca s j).ok=U/\G6 (d1 gs ca s j).e (d1 gs ca s j).a (d1 gs ca s j).o=0 then Hd (d1 gs ca s j).e (d1 gs ca s j).a (d1 gs ca s j).o else GY s.me j)/\
  gi (D9 gs ca s k).dw j=(if (d1 gs ca s j).ok=U then (d1 gs ca s j).a else gi s.dw j)
 |0,h=>A0
 | k +1,h=>by
  by_cases e:j=k
  ·subst e
   obtain ⟨h1,h2,h3,h4⟩:=aTA (gs:=gs) (ca:=ca) (s:=s) j j<|Aq _;obtain ⟨l1,l2,l3,l4⟩:=Wq (gs:=gs) (ca:=ca) (s:=s) j
   have ed:d1 gs ca (D9 gs ca s j) j=d1 gs ca s j:=by unfold d1;rw [h1,h2,h3]
   unfold D9;cases hk:(d1 gs ca s j).ok
   ·rw [wM A8]
    grind
   ·rw [ss A8,ed]
    simp only [Bp,Ez];refine ⟨?_,?_,?_⟩
    ·unfold CD;rw [PB,AD ⟨rfl,A0⟩]
    ·split
     ·unfold GY;rw [PB,AD ⟨rfl,A0⟩]
     ·exact h3
    ·unfold gi;rw [PB,AD ⟨rfl,A0⟩]
  ·obtain ⟨g1,g2,g3,g4⟩:=aTB (gs:=gs) (ca:=ca) (s:=D9 gs ca s k) (i:=k) (j:=j) A0
   obtain ⟨h1,h2,h3⟩:=wL hm he hd hj k A0;exact ⟨g2.trans h1,g3.trans h2,g4.trans h3⟩
def auV {k ph p:Y}(h1:1<=ph/\ph<=7) (h2:1<=p/\p<=7) (h:L2 k ph p≠0):1<=cnt (L2 k ph p):=by
 have:=aDo (k:=k) h1 h2
 unfold cnt;omega
def D1.bd {d:D1}(h:d.ok=U):0<=d.a/\d.a<=80/\0<=d.o/\d.o<=3/\(d.a≠0->1<=d.o)/\(Jh d.c d.m d.ph d.al).2.2=d.m.2.2+2300*d.a*d.o:=by
 unfold D1.ok at h;simp only [AX,DB,CT,Cz] at h
 have hB:Lb d.c d.m d.ph d.al=true:=by
  exact aNO
 obtain ⟨hc,hm,h1,h2,h3,h4,_⟩:=ep.1 hB;obtain ⟨b1,b2,b3,b4⟩:=aFX hc hm ⟨h1,h2⟩ ⟨h3,h4⟩
 have hc':=Wr.1 hc
 have hs:=afs (n:=Ee d.c d.m d.ph d.al)
 have ea:d.a=FA d.c d.m d.ph d.al:=aPQ
 have eo:d.o=cnt (HT d.c d.m d.ph d.al):=by unfold D1.o Ee;rw [AD hB]
 refine ⟨A0,A0,hs.1,hs.2,λhz=>?_,?_⟩
 ·rw [eo]
  rw [ea] at hz;unfold HT;rw [AE hz];refine auV ⟨A0,A0⟩ ⟨h1,h2⟩ λhq=>hz ?_
  unfold FA
  grind
 ·unfold Jh
  rw [AD hB,ea,eo];rfl
def jT {c:Ch}{s:St}{k n m:Y}(h:s.2.2.2=X) (hk:k≠6\/n≠1):(EJ c s k n m).2.2.2=false:=by
 unfold EJ;split
 ·rename_i he
  unfold sN;rw [AD he];simp only [sW,h,D5,xV,CT];exact hk
 ·exact h
def amq {c:Ch}{s:St}{k n m:Y}(h:0<=s.2.2.1):(EJ c s k n m).2.2.1<=s.2.2.1\/(k=7/\(EJ c s k n m).2.2.1=m):=by
 unfold EJ;split
 ·rename_i he
  unfold sN;rw [AD he];simp only [sL];split
  ·exact .inr ⟨by assumption,rfl⟩
  ·refine .inl ?_
   split
   ·unfold tkF;split<;>omega
   ·split<;>omega
 ·exact .inl<|Cj _
def amo {c:Ch}{s:St}(h:sV c s=U):(EJ c s 8 0 0).2.2.1=tkF s.2.2.1:=by
 have hv:=Kf.1 h
 have he:sE c s 8 0 0=0:=by
  unfold sE;rw [AD h,AD Aa,AD<|by simp [evV]]
  have:IG s.1 s.2.2.2 8 0=s.1:=by simp [IG]
  rw [this,AE A0]
 unfold EJ sN;rw [AD he,AD he]
 simp [sL]
def va {gs:aVA}{st:aVW}{i k n m:Y}(h0:0<=i) (h1:i<(M st:Y)) {j:Y}(hj:0<=j):BF (CW gs st i k n m) j=if j=i then EJ (AF gs i) (BF st i) k n m else BF st j:=by
 unfold CW EJ
 by_cases e:j=i
 ·subst e
  rw [AD rfl];split
  ·unfold BF;rw [PB,AD ⟨rfl,A0⟩]
  ·rfl
 ·rw [AE e]
  split
  ·unfold BF;rw [PB,AE A0]
  ·rfl
def Bn (gs:aVA) (Q:Y->St->Prop) (st:aVW):Prop:=M st=M gs/\∀j:Y,0<=j->j<(M gs:Y)->Q j (BF st j)
def Bn.gv {gs:aVA}{Q:Y->St->Prop}{st:aVW}(h:Bn gs Q st) {i k n m:Y}(h0:0<=i) (h1:i<(M gs:Y)) (hq:Q i (BF st i)->Q i (EJ (AF gs i) (BF st i) k n m)):Bn gs Q (CW gs st i k n m):=by
 refine ⟨JB.trans h.1,λj j0 j1=>?_⟩
 rw [va h0 (by rw [h.1];exact h1) j0]
 split
 ·rename_i e;subst e;exact hq<|h.2 j j0 j1
 ·exact h.2 j j0 j1
def Bn.arr {gs:aVA}{Q:Y->St->Prop}{st:aVW}{lk:aWa}{t:Y}(h:Bn gs Q st) (hl:∀l∈lk,(0<=l.2.2.1/\l.2.2.1<(M gs:Y))/\(l.1<=t->∀s,Q l.2.2.1 s->Q l.2.2.1 (EJ (AF gs l.2.2.1) s 7 l.2.2.2.1 l.2.2.2.2.2))):∀n,n<=M lk->Bn gs Q (L5 gs lk t st n)
 |0,_=>h
 | n+1,hn=>by
  have ih:=Bn.arr h hl n A0
  have hm:Fu lk n∈lk:=by
   unfold Fu;rw [Lz (by rw [C0];omega)]
   exact Gf _
  obtain ⟨⟨c0,c1⟩,hq⟩:=hl _ hm;unfold L5;split
  ·exact ih
  ·exact ih.gv c0 c1<|hq A0 _
def Bn.dw {gs:aVA}{ca:aWf}{Q:Y->St->Prop}{s:DW}(h:Bn gs Q s.st) (hq:∀j st,Q j st->Q j (EJ (AF gs j) st 6 2 0)):∀n,n<=M gs->Bn gs Q (D9 gs ca s n).st
 |0,_=>h
 | n+1,hn=>by
  have ih:=Bn.dw (ca:=ca) h hq n A0
  unfold D9 FD;split
  ·exact ih
  ·split
   ·simp only
    split
    ·exact ih.gv A0 A0<|hq _ _
    ·exact ih
   ·exact ih
def HE (gs:aVA) (b:Y->Y) (j:Y) (s:St):Prop:=sV (AF gs j) s=U/\s.2.2.2=X/\s.2.2.1<=b j
def HE.le {gs:aVA}{b b':Y->Y}{j:Y}{s:St}(h:HE gs b j s) (hb:b j<=b' j):HE gs b' j s:=⟨h.1,h.2.1,Fm h.2.2 hb⟩
def HE.gv {gs:aVA}{b:Y->Y}{j k n m:Y}{s:St}(h:HE gs b j s) (hk:k≠6\/n≠1) (hm:k=7->m<=b j):HE gs b j (EJ (AF gs j) s k n m):=by
 have hv:=Kf.1 h.1
 refine ⟨vZ h.1,jT h.2.1 hk,?_⟩;rcases amq (c:=AF gs j) (k:=k) (n:=n) (m:=m) hv.2.2.2.1 with e|⟨e1,e2⟩
 ·exact Fm e h.2.2
 ·rw [e2];exact hm e1
def aac {gs:aVA}{b:Y->Y}{st:aVW}(h:Bn gs (HE gs b) st) (hb:∀j,0<=b j) {i:Y}(h0:0<=i) (h1:i<(M gs:Y)):∀k:aVx,Bn gs (HE gs (λj=>if j=i then (if b j-k<0 then 0 else b j-k) else b j)) (L8 gs st i k)
 |0=>⟨h.1,λj j0 j1=>(h.2 j j0 j1).le aOP⟩
 | k+1=>by
  have ih:=aac h hb h0 h1 k
  unfold L8;refine ⟨JB.trans ih.1,λj j0 j1=>?_⟩
  rw [va h0 (by rw [ih.1];exact h1) j0]
  have hj:=ih.2 j j0 j1
  split
  ·rename_i e
   subst e
   have hv:=Kf.1 hj.1
   have h3:=hj.2.2
   have hbj:=hb j
   simp only [Bp] at h3;refine ⟨vZ hj.1,jT hj.2.1<|.inl Aa,?_⟩;rw [amo hj.1];simp only [Bp];unfold tkF;split at h3<;>split<;>split<;>omega
  ·rename_i e
   refine hj.le ?_;rw [AE e,AE e];exact Cj _
def Oc (dr:aVw) (t:Y) (j:Y):Y:=B8 (t+1) (gi dr j)-B8 t (gi dr j)
def aBa {gs:aVA}{b:Y->Y}{st:aVW}{dr:aVw}{t:Y}(h:Bn gs (HE gs b) st) (hb:∀j,0<=b j) (hd:∀j:Y,0<=j->j<(M dr:Y)->-200<=gi dr j/\gi dr j<=200) (hl:M dr=M gs) (ht:0<=t/\t<1000000):
  ∀n:aVx,n<=M dr->Bn gs (HE gs (λj=>if j<n then (if b j-Oc dr t j<0 then 0 else b j-Oc dr t j) else b j)) (JL gs dr t st n)
 | 0,_=>⟨h.1,λj j0 j1=>by
   have:=h.2 j j0 j1
   refine this.le ?_;rw [AE A0];exact Cj _⟩
 | n+1,hn=>by
  have ih:=aBa h hb hd hl ht n A0
  have hdn:=hd (n:Y) A0 A0
  have hs:HZ t (gi dr n)=0/\HZ (t+1) (gi dr n)=0:=by
   exact aNW
  have ho:0<=Oc dr t n:=by
   unfold Oc B8;rw [AD QY,AD QY]
   have:t*(1000000+gi dr n)<=(t+1)*(1000000+gi dr n):=Lh A0 A0
   have:=xg (by decide:(0:Y)<1000000) this
   omega
  unfold JL;rw [AD hs]
  have:=aac ih (λj=>aOP) (i:=(n:Y)) A0 A0 (B8 (t+1) (gi dr n)-B8 t (gi dr n)).toNat
  refine ⟨this.1,λj j0 j1=>(this.2 j j0 j1).le ?_⟩
  have e:(((B8 (t+1) (gi dr n)-B8 t (gi dr n)).toNat:aVx):Y)=Oc dr t n:=by unfold Oc at ho|-;omega
  simp only [e]
  have hbj:=hb j
  by_cases ej:j=n
  ·subst ej
   rw [AD rfl,AE (show ¬((n:Y)<(n:Y)) by omega),AD (show (n:Y)<((n+1:aVx):Y) by omega)]
   exact Cj _
  ·rw [AE ej]
   by_cases hj:j<(n:Y)
   ·rw [AD hj,AD (show j<((n+1:aVx):Y) by omega)];exact Cj _
   ·rw [AE hj,AE (show ¬j<((n+1:aVx):Y) by omega)];exact Cj _
def azd {d t t':Y}(hd:-200<=d/\d<=200) (h0:0<=t) (h1:t+20<=t') (h2:t'<=1000000):B8 t' d-B8 t d>=12:=by
 unfold B8;rw [AD QY,AD QY]
 have:(t+20)*(1000000+d)<=t'*(1000000+d):=Lh A0 A0
 have e:(t+20)*(1000000+d)=t*(1000000+d)+20*(1000000+d):=Zy _ _ _
 omega
structure FI (p:PK):Prop where
 st:Bn p.gs (HE p.gs (λ_=>12)) p.st
 lk:∀l∈p.lk,p.tk<=l.1/\l.1<=p.tk+3/\l.2.2.2.2.2=12
 ca:∀c∈p.ca,c.1≠4
def anK {p:PK}:∀x∈p.dL,x.2.2.2.2=12:=by
 intro x hx;unfold PK.dL deL at hx;split at hx
 ·obtain ⟨k,hk,rfl⟩:=Hs.1 hx
  have:=(iB (gs:=p.gs) (l:=Dt p.ls p.tk) (t:=p.tk) (n:=p.nx) (am:=FH p.gs p.ra (HS p.EL p.os p.ks p.gs p.bs (Dt p.ls p.tk) p.dm p.tk)<|M p.gs)<|Aq _).1.at_ (k:Y) A0 A0
  have:=this.1
  rw [Mw yu] at this;simp only [C0] at this;rw [this]
 ·cases hx
def aiO {p:PK}(hv:VP p) (h:∀l∈p.lk,p.tk<=l.1/\l.1<=p.tk+3/\l.2.2.2.2.2=12):∀l∈p.AK.lk,p.tk<=l.1/\l.1<=p.tk+4/\l.2.2.2.2.2=12:=by
 unfold PK.AK;split
 ·exact λl hl=>by have:=h l hl;omega
 ·split
  ·exact λl hl=>by have:=h l hl;omega
  ·intro l hl
   rcases (rh (t:=p.tk) (xs:=p.dL) (s:=p.H9) _<|Aq _).1 l hl with e|⟨x,hx,rfl⟩
   ·have:=h l e;omega
   ·have h1:=(aBZ x hx).1
    have h2:=hv.tk
    have h3:0<=(7*p.tk+3*x.2.1).tmod 5/\(7*p.tk+3*x.2.1).tmod 5<=4:=by
     rw [xU A0];omega
    exact ⟨aOS,aOS,anK x hx⟩
def RJ {p:PK}(hv:VP p):∀j:Y,0<=j->j<(M p.dr:Y)->-200<=gi p.dr j/\gi p.dr j<=200:=λj j0 j1=>by
 have:=BH.1 hv.dr8 (gi p.dr j)<|Ki j0 j1
 rwa [BS] at this
def FI.tick {p:PK}(h:FI p) (hv:VP p) (ht:p.tk≠1000000):FI p.BX:=by
 obtain ⟨e1,e2,e3,e4,e5,e6,e7,e8,e9,e10,e11,e12,e13,e14⟩:=J0 p
 have htk:=hv.tk
 have hl:=aiO hv h.lk
 have hvd:=hv.dec
 have s0:Bn p.AK.gs (HE p.AK.gs λ_=>12) p.AK.st:=by rw [e4,e8];exact h.st
 have s1:Bn p.AK.gs (HE p.AK.gs λ_=>12) p.AK.Ik.st:=s0.arr (t:=p.AK.tk) (λl hl'=>⟨hvd.lk l hl',λ_ s hs=>hs.gv (.inl Aa) (λ_=>by have:=(hl l hl').2.2;(try simp only []);omega)⟩) _<|Aq _
 have s2:Bn p.AK.gs (HE p.AK.gs λ_=>12) p.AZ.st:=by
  have:=aBa (t:=p.AK.tk) (dr:=p.AK.dr) s1 (λ_=>Aa) (RJ hvd) hvd.dr (by rw [e6];omega) (M p.AK.dr)<|Aq _
  refine ⟨this.1,λj j0 j1=>(this.2 j j0 j1).le ?_⟩
  rw [AD (by rw [hvd.dr];exact j1)]
  have ho:0<=Oc p.AK.dr p.AK.tk j:=by
   have hd:=RJ hvd j j0 (by rw [hvd.dr];exact j1)
   unfold Oc B8;rw [AD aP9,AD aP9]
   have:p.AK.tk*(1000000+gi p.AK.dr j)<=(p.AK.tk+1)*(1000000+gi p.AK.dr j):=Lh A0 A0
   have:=xg (by decide:(0:Y)<1000000) this
   omega
  split<;>omega
 have s3:Bn p.AK.gs (HE p.AK.gs λ_=>12) p.AZ.dw.st:=Bn.dw s2 (λj s hs=>hs.gv (.inr Aa) λhk=>Na) _<|Aq _
 refine ⟨s3,λl hl'=>?_,?_⟩
 ·have hm:l∈p.AK.lk/\an (l.1>p.AK.tk)=true:=Cg.1 hl'
  have:=hl l hm.1
  have h2:=DH hm.2
  rw [e6] at h2
  have et:p.BX.tk=p.tk+1:=by show p.AK.tk+1=_;rw [e6]
  rw [et];omega
 ·show ∀c∈p.AK.ca,_
  rw [e9];exact h.ca
def FI.step {p:PK}(h:FI p) (hv:VP p) {e:EV}(he:BO p e=0) (hw:e.ek≠7) (hc:e.c.1≠4):FI (BM p e):=by
 unfold BM;rw [AE A0];unfold BO at he;rw [AE nR] at he;split
 ·rename_i h1
  rw [AD h1] at he;unfold PK.Ib at he;exact h.tick hv λhh=>aP8
 rename_i h1;rw [AE h1] at he
 have cr:∀ {i:Y},p.isC i≠X->0<=i/\i<(M p.gs:Y):=λ{i} hh=>by
  exact aN7
 split
 ·rename_i h2
  rw [AD h2] at he;unfold PK.GL at he;split at he
  ·cases he
  rename_i hi;obtain ⟨i0,i1⟩:=cr hi;refine {h with st:=?_,ca:=λc hc'=>?_}
  ·exact (((h.st.gv i0 i1 λhs=>hs.gv (.inl Aa) λhk=>Na).gv i0 i1 λhs=>hs.gv (.inl Aa) λhk=>Na).gv i0 i1 λhs=>hs.gv (.inl Aa) λhk=>Na).gv i0 i1 λhs=>hs.gv (.inl Aa) λhk=>Na
  ·rcases Om hc' with hx|rfl
   ·exact h.ca c hx
   ·exact hc
 rename_i h2;rw [AE h2] at he;split
 ·rename_i h3
  rw [AD h3] at he;unfold PK.JK at he;split at he
  ·cases he
  rename_i hi;obtain ⟨i0,i1⟩:=cr hi;refine {h with st:=?_,ca:=λc hc'=>?_}
  ·exact (h.st.gv i0 i1 λhs=>hs.gv (.inr Aa) λhk=>Na).gv i0 i1 λhs=>hs.gv (.inl Aa) λhk=>Na
  ·rcases Om hc' with hx|rfl
   ·exact h.ca c hx
   ·decide
 rename_i h3;rw [AE h3] at he;split
 ·exact {h with lk:=λl hl=>h.lk l (Cg.1 hl).1}
 rename_i h4;rw [AE h4] at he;split
 ·exact {h with}
 rename_i h5;rw [AE h5] at he;split
 ·exact {h with}
 rename_i h6;rw [AE h6] at he;exact {h with}
structure FG (T:Y) (p:PK):Prop where
 up:p.up=X
 tk:0<=T/\T<=p.tk
 st:Bn p.gs (HE p.gs (λj=>if p.tk<T+4 then 12 else (if 12-(B8 p.tk (gi p.dr j)-B8 (T+4) (gi p.dr j))<0 then 0 else 12-(B8 p.tk (gi p.dr j)-B8 (T+4) (gi p.dr j))))) p.st
 lk:∀l∈p.lk,p.tk<=l.1/\l.1<=T+3/\l.2.2.2.2.2=12
 ca:∀c∈p.ca,c.1≠4
def pt {d t t':Y}(hd:-200<=d/\d<=200) (h0:0<=t) (h1:t<=t') (h2:t'<=1000000):B8 t d<=B8 t' d:=by
 unfold B8;rw [AD QY,AD QY];exact xg (by decide:(0:Y)<1000000)<|Lh h1 A0
def FG.bef {T:Y}{p:PK}(h:FG T p) (hv:VP p) (ht:p.tk<1000000) (hT:T+4<=1000000):Bn p.gs (HE p.gs (λj=>if p.tk+1<T+4 then 12 else (if 12-(B8 (p.tk+1) (gi p.dr j)-B8 (T+4) (gi p.dr j))<0 then 0 else 12-(B8 (p.tk+1) (gi p.dr j)-B8 (T+4) (gi p.dr j))))) p.AZ.st:=by
 have hd:p.AK=p:=yp
 have htk:=hv.tk
 have hT0:=h.tk
 unfold PK.AZ;rw [hd]
 have s1:Bn p.gs (HE p.gs (λj=>if p.tk<T+4 then 12 else (if 12-(B8 p.tk (gi p.dr j)-B8 (T+4) (gi p.dr j))<0 then 0 else 12-(B8 p.tk (gi p.dr j)-B8 (T+4) (gi p.dr j))))) p.Ik.st:=
  h.st.arr (t:=p.tk) (λl hl'=>⟨hv.lk l hl',λ_ s hs=>hs.gv (.inl Aa) (λ_=>by have:=h.lk l hl';(try simp only []);rw [AD A0];omega)⟩) _ (Aq _)
 have:=aBa (t:=p.tk) (dr:=p.dr) s1 (λj=>by (try simp only []);split<;>(try split)<;>omega) (RJ hv) hv.dr A0 (M p.dr)<|Aq _
 refine ⟨this.1,λj j0 j1=>(this.2 j j0 j1).le ?_⟩
 have hj:j<(M p.dr:Y):=yk
 have hdj:=RJ hv j j0 hj
 (try simp only [])
 rw [AD hj];unfold Oc
 have m1:=pt (t:=p.tk) (t':=p.tk+1) hdj htk.1 A0 A0
 by_cases c1:p.tk<T+4
 ·rw [AD c1]
  by_cases c2:p.tk+1<T+4
  ·rw [AD c2];split<;>omega
  ·have e4:p.tk+1=T+4:=A0
   have e5:B8 (p.tk+1) (gi p.dr j)=B8 (T+4) (gi p.dr j):=by rw [e4]
   rw [AE c2];exact aMt
 ·have m2:=pt (t:=T+4) (t':=p.tk) hdj A0 A0 A0
  have c2:¬p.tk+1<T+4:=A0
  rw [AE c1,AE c2];exact aMt
def aw5 {c:Ca}{m:Mi}{al:Y}(hm:IH m=U) (ha:0<=al) (h4:c.1≠4):H4 c m al<=al:=by
 have hm:=dq.1 hm
 unfold H4
 repeat' split
 all_goals omega
def D1.le {d:D1}(h:d.ok=U) (h4:d.c.1≠4):d.a<=d.al:=by
 unfold D1.ok at h;simp only [AX,DB,CT,Cz] at h
 have hB:Lb d.c d.m d.ph d.al=true:=by
  exact aNO
 obtain ⟨hc,hm,h1,h2,h3,h5,_⟩:=ep.1 hB
 have ea:d.a=FA d.c d.m d.ph d.al:=aPQ
 have:=aw5 (c:=d.c) hm h3 h4
 rw [ea];unfold FA;split<;>omega
def aBb {ca:aWf}(h:∀c∈ca,c.1≠4) (i:Y):(Bg ca i).1≠4:=by
 unfold Bg;rw [DA];cases hx:ca[i.toNat]? with
 |none=>simp
 |some y=>exact h y<|Oj hx
def aT8 {gs:aVA}{ca:aWf}(h:∀c∈ca,c.1≠4) {s:DW}:∀n,(D9 gs ca s n).st=s.st
 |0=>rfl
 | n+1=>by
  have ih:=aT8 (gs:=gs) h (s:=s) n
  show (FD gs ca (D9 gs ca s n) n).st=s.st
  cases hk:(d1 gs ca (D9 gs ca s n) n).ok
  ·rw [wM hk];exact ih
  ·rw [ss hk]
   have:=D1.le hk<|aBb h n
   (try simp only [])
   rw [AE A0];exact ih
def FG.tick {T:Y}{p:PK}(h:FG T p) (hv:VP p) (ht:p.tk<1000000) (hT:T+4<=1000000):FG T p.BX:=by
 have hb:=h.bef hv ht hT
 have hd:p.AK=p:=yp
 have hT0:=h.tk
 have e:p.AZ=p.Ik.Sf:=by unfold PK.AZ;rw [hd]
 have et:p.BX.tk=p.tk+1:=by show p.AZ.tk+1=_;rw [e];rfl
 have eg:p.BX.gs=p.gs:=by show p.AZ.gs=_;rw [e];rfl
 have ed:p.BX.dr=p.dr:=by show p.AZ.dr=_;rw [e];rfl
 refine ⟨by show p.AZ.up=X;rw [e];exact h.up,by rw [et];omega,?_,?_,?_⟩
 ·have es:p.BX.st=p.AZ.st:=aT8 (by show ∀c∈p.AZ.ca,_;rw [e];exact h.ca) _
  rw [es,eg,et,ed];exact hb
 ·intro l hl
  have hm:l∈p.AZ.lk:=hl
  rw [e] at hm
  have hm2:l∈p.lk/\an (l.1>p.tk)=true:=Cg.1 hm
  have:=h.lk l hm2.1
  have h2:=DH hm2.2
  rw [et];omega
 ·show ∀c∈p.AZ.ca,_
  rw [e];exact h.ca
def FG.draw {T:Y}{p:PK}(h:FG T p) (hv:VP p) (ht:p.tk<1000000) (h24:T+23<=p.tk):M p.Ek=M p.gs/\∀i:aVx,i<M p.gs->gi p.Ek i<=CV (AF p.gs i):=by
 have hT0:=h.tk
 have hb:=h.bef hv ht A0
 have hd:p.AK=p:=yp
 have e:p.AZ=p.Ik.Sf:=by unfold PK.AZ;rw [hd]
 have hvb:VP p.AZ:=hv.dec.arr.cnt
 have f4:p.AZ.gs=p.gs:=zU
 have f9:p.AZ.ca=p.ca:=zU
 have hl:=Wq (gs:=p.AZ.gs) (ca:=p.AZ.ca) (s:=⟨p.AZ.st,p.AZ.mi,p.AZ.me,aq (M p.AZ.gs) 0⟩)<|M p.AZ.gs
 refine ⟨aOs,λi hi=>?_⟩
 have:=(wL (gs:=p.AZ.gs) (ca:=p.AZ.ca) (s:=⟨p.AZ.st,p.AZ.mi,p.AZ.me,aq (M p.AZ.gs) 0⟩) (n:=M p.AZ.gs) hvb.mi hvb.me AI (j:=i) nP (M p.AZ.gs) nP).2.2
 have hfb:0<=CV (AF p.gs i):=by
  have:=(To.1 (Kf.1 (hb.2 i A0 A0).1).1)
  unfold CV;omega
 show gi p.AZ.dw.dw i<=_
 refine Fm (Int.le_of_eq this) ?_;split
 ·rename_i hk
  refine Fm (D1.le hk<|aBb (by rw [f9];exact h.ca) i) ?_
  show Be (AF p.AZ.gs i) (BF p.AZ.st i)<=_
  rw [f4];obtain ⟨q1,q2,q3⟩:=hb.2 i A0 A0
  have hdj:=RJ hv (i:Y) A0 (by rw [hv.dr];omega)
  have h12:=azd (t:=T+4) (t':=p.tk+1) hdj A0 A0 A0
  have c9:¬p.tk+1<T+4:=A0
  have c8:12-(B8 (p.tk+1) (gi p.dr i)-B8 (T+4) (gi p.dr i))<=0:=A0
  have q3:(BF p.AZ.st i).2.2.1<=0:=by
   refine Fm q3 ?_
   show (if p.tk+1<T+4 then 12 else _)<=(0:Y)
   rw [AE c9];split<;>omega
  have q0:=(Kf.1 q1).2.2.2.1
  unfold Be;rw [AD q1,AE (by rw [q2];decide)]
  split
  ·exact hfb
  ·rw [AE A0]
   exact Cj _
 ·unfold gi
  rw [DA,QM];split<;>exact hfb
structure Hl (C cs:aVF):Prop where
 len:M cs=M C
 up:∀o:aVx,(Ae cs o).2.1=(Ae C o).2.1
 lim:∀o:aVx,Cs (Ae C o)<=Cs (Ae cs o)
def Hl.on {C cs:aVF}(h:Hl C cs) {o:Y}:∀(k:aVx) (c:Y),GZ k cs o c=GZ k C o c
 |0,_=>rfl
 | k+1,c=>by
  simp only [GZ];split
  ·rename_i c0
   have e:=h.up c.toNat
   rw [CO c0] at e;rw [e,h.on k]
  ·rfl
def Hl.bel {C cs:aVF}(h:Hl C cs) {gs:aVA}{o:Y}{k:aVx}:Cy cs gs o k=Cy C gs o k:=by
 unfold Cy Fh;simp only [h.on]
section
variable {cs C : List Cd} {os : List ByteArray} {ks : List Ko} {gs : List Ch} {bs : List Ba} {l : List Le} {rs : List Ra} {d : List Dm} {t n : Int}
def Qu (hC:B6 C os ks gs bs=U) (hs:B6 cs os ks gs bs=U) (hL:Hl C cs) {a b:aVw}(hb:∀k:aVx,k<M gs->0<=gi b k/\gi b k<=80)
  (ha:∀k:aVx,k<M gs->0<=gi a k/\gi a k<=gi b k) (h:DG C gs b=U):DG cs gs a=true:=by
 rw [fK hC hb] at h;rw [fK hs λk hk=>⟨(ha k hk).1,Fm (ha k hk).2 (hb k hk).2⟩]
 intro o ho p hp;rw [hL.bel];refine Fm (u0 λk hk=>?_)<|Fm (h o aPE p hp)<|hL.lim o
 have hk:=dT (Cg.1 hk).1
 have:=(ha k.toNat A0).2
 rwa [CO hk.1] at this
def apT {B N:aVG}(bv:B0 B=U) (bb:below (M gs) B=U) (nv:B0 N=U) (nb:below (M gs) N=U) {t t':Y}(h:∀x∈N,Fb t' x=U->x∈B/\Fb t x=U) {j:Y}(j0:0<=j):
  gi (GP (M gs) N t') j<=gi (GP (M gs) B t) j:=
 aKU nv nb j0 (Xk (a:=0) (b:=80) Aa<|fE bv).1 λx hx ha e=>by
  obtain ⟨h1,h2⟩:=h x hx ha
  have:=sX bv bb h1 h2
  rwa [e] at this
def dV {B N:aVG}(bv:B0 B=U) (bb:below (M gs) B=U) (nv:B0 N=U) (nb:below (M gs) N=U) {t t':Y}(h:∀x∈N,Fb t' x=U->x∈B/\Fb t x=U) {j:Y}(j0:0<=j) (j1:j<(M gs:Y)):
  gi (D4 gs N t') j<=gi (D4 gs B t) j:=by
 have:=apT bv bb nv nb h j0
 rw [Tb j0 j1,Tb j0 j1];unfold mx;split<;>split<;>omega
def rD {t t':Y}{x:Le}(ht:t<=t') (hx:x.2.2.2.1<=t) (h:Fb t' x=U):Fb t x=true:=by
 unfold Fb at h|-;simp only [AX,Ab] at h|-;omega
def aG9 (V:Vd C os ks gs bs l rs d t n) (hs:B6 cs os ks gs bs=U) (hL:Hl C cs) {m:aVG}(M:NwL gs (FH gs rs (HS C os ks gs bs l d t)<|aa gs) t n m) {B N:aVG}
  (bv:B0 B=U) (bb:below (aa gs) B=U) (nv:B0 N=U) (nb:below (aa gs) N=U) (hB:∀x∈B,x.2.2.2.1<=t/\(DF x>t->x∈l)) (hN:∀x∈N,x∈B\/x∈m)
  (hk:DG cs gs (D4 gs B t)=U) {t':Y} (ht:t<=t'):DG cs gs (D4 gs N t')=true:=by
 rw [fK hs λk hk=>IV hs nv A0 A0]
 rw [fK hs λk hk=>IV hs bv A0 A0] at hk
 intro o ho p hp
 have h1:=hk o ho p hp
 rw [hL.bel] at h1|-
 have hin:∀k∈Bz gs p (Cy C gs o<|aa gs),0<=k/\k<(aa gs:Y):=λk hk=>dT (Cg.1 hk).1
 have hBl:∀j:Y,0<=j->j<(aa gs:Y)->gi (D4 gs B t) j<=gi (D4 gs l t) j:=λj j0 j1=>
  dV V.les V.co bv bb (λx hx ha=>⟨(hB x hx).2 (by unfold Fb at ha;simp only [AX,Ab] at ha;exact ha.2),ha⟩) j0 j1
 have hmx:∀k∈Bz gs p (Cy C gs o<|aa gs),gi (D4 gs N t') k<=mx (gi (D4 gs B t) k) (gi (FH gs rs (HS C os ks gs bs l d t)<|aa gs) k):=λk hk=>by
  obtain ⟨j0,j1⟩:=hin k hk
  have hj:=(acB V j0 j1).1
  have key:gi (GP (aa gs) N t') k<=mx (gi (GP (aa gs) B t) k) (gi (FH gs rs (HS C os ks gs bs l d t)<|aa gs) k):=by
   have a0:0<=gi (GP (aa gs) B t) k:=(Xk (a:=0) (b:=80) Aa<|fE bv).1
   refine aKU nv nb j0 (by unfold mx;split<;>omega) λx hx ha e=>?_
   rcases hN x hx with h|h
   ·have:=sX bv bb h (rD ht (hB x h).1 ha)
    rw [e] at this;exact mw
   ·obtain ⟨i,hi,rfl⟩:=Hs.1 h
    have q:=(M.at_ i A0 A0).1
    rw [Mw A0] at q;simp only [C0] at q
    have:=B2 (λz:Le=>z.2.2.1) q
    simp only [e] at this;exact mw
  rw [Tb j0 j1,Tb j0 j1];unfold mx at key|-;split<;>split<;>split at key<;>(try split)<;>omega
 by_cases hl:aa (Bz gs p<|Cy C gs o<|aa gs)>0
 ·have hr:=BH.1 (auL V) _ (aGC hp hl aPE)
  unfold rowB at hr;rw [Cf] at hr;rcases hr with hr|hr
  ·refine Fm (u0 λk hk=>?_) h1
   have h2:=hmx k hk
   have h3:gi (FH gs rs (HS C os ks gs bs l d t)<|aa gs) k=0:=by simpa using BH.1 hr k hk
   have h4:=IV (t2:=t) hs bv (hin k hk).1 (hin k hk).2
   rw [h3] at h2;unfold mx at h2;split at h2<;>omega
  ·refine Fm (aPs λk hk=>Fm (hmx k hk) ?_) (Fm (DH hr)<|hL.lim o)
   have:=hBl k (hin k hk).1 (hin k hk).2
   unfold mx;split<;>split<;>omega
 ·have e:Bz gs p (Cy C gs o<|aa gs)=[]:=xR A0
  rw [e] at h1|-;exact h1
end
def aUT:aVy->T LV
 | [.v (ag J r),.v (ag J m)]=> .req ((0<=r/\r<=1000000)/\0<=m/\m<=3000000) (.ok<|.v<|ag J<|m*r / 1000000)
 |_=> .no
def aah:aVI:=[]
def ajK:=vo (S:=aUT) func116 aah kN (λargs lv h=>by
 unfold aUT at h;split at h
 ·rename_i r m
  refine At (.req ((1000000:Y)≠0)<|.ok<|AA<|(AA<|m*r).tdiv 1000000) ?_;obtain ⟨⟨hr,hm⟩,rfl⟩:=h
  have h1:=anz (a:=m) (b:=r) hm.1 hm.2 hr.1 hr.2
  refine ⟨A0,B2 (λz=>LV.v<|ag J z) ?_⟩
  rw [AJ (x:=m*r),IL h1.1,AJ]
 ·cases h)
def aKJ:aVy->T LV
 | [.v (ag J n)]=> .ok (inB n 0 1000000)
 |_=> .no
def aPf:=vo (S:=aKJ) func115 aah kN (λargs lv h=>by
 unfold aKJ at h;split at h
 ·rename_i n
  refine At (.ok<|.v<|.bool<|(an<|n>=0)&&(an<|n<=1000000)) ?_;exact h
 ·cases h)
structure Pp where
 (low high r n:Y)
def zZ (s:Pp):T (Rd Pp):=letI a:=AA<|s.low+(AA<|(AA<|s.high-s.low).tdiv 2);.br (an<|s.low<s.high) (.req ((2:Y)≠0)<|.req ((0<=s.r/\s.r<=1000000)/\0<=a/\a<=3000000)<|.br (an<|(a*s.r / 1000000)>=s.n) (.nx {s with high:=a})<|.nx {s with low:=AA<|a+1})<|.so (.exit 0) s
def jn (s:Pp):Prop:=s.low=0/\s.high=2*s.n+2/\s.r=999800/\0<=s.n/\s.n<=1000000
def YS (s:Pp):Prop:=(0<=s.low/\s.low<=wt s.n)/\(wt s.n<=s.high/\s.high<=2*s.n+2)/\s.r=999800/\0<=s.n/\s.n<=1000000
def gg (s:Pp):aVx:=(s.high-s.low).toNat
def aCC (x:Ex) (s s':Pp):Prop:=x=.exit 0/\s'.low=wt s'.n
def alo:∀s,jn s->YS s:=by
 rintro s ⟨h0,h1,h2,h3,h4⟩
 have:=aVf h3
 exact yT
def agh:Da YS gg aCC zZ:=by
 intro s hI;obtain ⟨⟨h0,h1⟩,⟨h2,h3⟩,h4,h5,h6⟩:=hI;refine AH (λc1=>?_) λc1=>?_
 ·have c1:s.low<s.high:=AY
  have hd:(s.high-s.low).tdiv 2=(s.high-s.low) / 2:=IL A0
  have hm:AA (s.low+AA ((AA<|s.high-s.low).tdiv 2))=s.low+(s.high-s.low) / 2:=by
   rw [AJ (x:=s.high-s.low),hd,AJ (x:=(s.high-s.low) / 2),AJ]
  rw [hm];refine AH (λc2=>?_) λc2=>?_
  ·rw [Ab,h4,aL9] at c2
   exact ⟨⟨⟨h0,h1⟩,⟨Ac,Ac⟩,h4,h5,h6⟩,by simp only [gg];omega⟩
  ·rw [DI,h4,aL9] at c2
   rw [AJ (x:=s.low+(s.high-s.low) / 2+1)];exact ⟨⟨⟨A8,Ac⟩,⟨h2,h3⟩,h4,h5,h6⟩,by simp only [gg];omega⟩
 ·have c1:s.high<=s.low:=AY
  exact Vi
def Zb:AS Pp:=⟨3,24,[0,1,2],[],λs=>[s.low,s.high,.fn 211 [.own 1 0,.own 0 0,.own 2 0]],λs=>[⟨[s.r],225,.cl,X⟩,⟨[.fn 116 []],296,.cl,X⟩,⟨[s.n],3,.cl,X⟩],λv b=>⟨AL v 0,AL v 1,Ak b 0 0,Ak b 2 0⟩,zZ,λs r=> {r with r:=s.r,n:=s.n},λs=>s,λ_ s=>s,[.exit 0],jn,YS,gg⟩
abbrev aIU:=Zb.run
abbrev atW:=Zb.Au
def Um:aVI:=[aPf,ajK]
def amW:Ay:=kI Um<|l0 Um
def ayo:Rq YS zZ:=by
 intro s hI;refine ⟨λc1=>⟨?_,?_,λ_=>trivial,λ_=>trivial⟩,λ_=>trivial⟩
 all_goals ((obtain ⟨⟨h0,h1⟩,⟨h2,h3⟩,h4,h5,h6⟩:=hI;simp only [Ab] at c1;first|decide|(have hd:(s.high-s.low).tdiv 2=(s.high-s.low) / 2:=IL A0;have hm:AA (s.low+AA ((AA<|s.high-s.low).tdiv 2))=s.low+(s.high-s.low) / 2:=(by rw [AJ (x:=s.high-s.low),hd,AJ (x:=(s.high-s.low) / 2),AJ]);rw [hm];omega)))
def aRb:Zb.Ok:={}
def aR2:Zb.Pf (aCC):=⟨alo,λs h=>rfl,agh,ayo⟩
def aq8:=s2 (b:=bN f210 0) aRb aR2 Um amW
def asT:Fi jn YS aCC atW aIU:=AS.fin aRb aR2
def aKX:aVy->T LV
 | [.v (ag J n)]=> .tu #[wtA n,wtE n]
 |_=> .no
def al0:Ay:=kI Um<|la 1 func210 aq8<|l0 Um
def avk:=vo (S:=aKX) func137 Um al0 (λargs lv h=>by
 unfold aKX at h;split at h
 ·rename_i n
  refine At (.br (!(inB n 0 1000000)) (.tu #[(0:Y),(1:Y)])<|.req (Zb.q (⟨0,(AA<|(AA<|2*n)+2),999800,n⟩:Pp))<|.tu #[(aIU (⟨0,(AA<|(AA<|2*n)+2),999800,n⟩:Pp)).low,(0:Y)]) ?_;obtain rfl:=h;refine ⟨λc=>?_,λc=>?_⟩
  ·have c:=ntW c
   unfold wtA wtE;rw [c];rfl
  ·have c:=nfW c
   have hb:=BS.1 c
   have hE:jn ⟨0,AA<|AA (2*n)+2,999800,n⟩:=⟨rfl,by
    rw [AJ (x:=2*n),AJ],rfl,hb.1,hb.2⟩
   obtain ⟨_,_,_,q⟩:=asT _ hE;refine ⟨⟨hE,rfl,rfl⟩,?_⟩;rw [q];unfold wtA wtE;rw [AD c,AD c];exact rfl
 ·cases h)
def aTa:aVy->T LV
 | [.v (ag J n),.v (ag J a),.v (ag J b)]=> .ok (inB n a b)
 |_=> .no
def aag:aVI:=[]
def aAB:=vo (S:=aTa) func101 aag kN (λargs lv h=>by
 unfold aTa at h;split at h
 ·rename_i n a b
  refine At (.ok<|.v<|.bool<|(an<|n>=a)&&(an<|n<=b)) ?_;exact h
 ·cases h)
def aKE:aVy->T LV
 | [.v (.agg ⟨[ag J nu,ag J co,ag J am,ag J fr,ag J tk]⟩)]=> .ok (DM (nu,co,am,fr,tk))
 |_=> .no
def amF:aVI:=[aAB]
def aPd:=vo (S:=aKE) func135 amF kN (λargs lv h=>by
 unfold aKE at h;split at h
 ·rename_i nu co am fr tk
  refine At (.ok<|.v<|.bool<|(inB nu (1:Y) (1000000:Y))&&((inB co (0:Y) (15:Y))&&((inB am (0:Y) (80:Y))&&((inB fr (0:Y) (1000000:Y))&&(inB tk (1:Y) (1000:Y)))))) ?_;exact h
 ·cases h)
def aTb:aVy->T LV
 | [.v (.agg ⟨[ag J nu,ag J co,ag J am,ag J fr,ag J tk]⟩),.v (.agg ⟨[ag J nu2,ag J co2,ag J am2,ag J fr2,ag J tk2]⟩)]=> .ok (K9 (nu,co,am,fr,tk) (nu2,co2,am2,fr2,tk2))
 |_=> .no
def aVb:=vo (S:=aTb) func136 aag kN (λargs lv h=>by
 unfold aTb at h;split at h
 ·rename_i nu co am fr tk nu2 co2 am2 fr2 tk2
  refine At (.ok<|.v<|.bool<|(an<|nu2>nu)&&(an<|fr2>=fr)) ?_;exact h
 ·cases h)
def aKF:aVy->T LV
 | [.v (.agg ⟨[ag J nu,ag J co,ag J am,ag J fr,ag J tk]⟩)]=> .req ((0<=fr/\fr<=1000000)/\0<=tk/\tk<=1000000) (.ok<|DF (nu,co,am,fr,tk))
 |_=> .no
def amD:aVI:=[avk]
def aPe:=vo (S:=aKF) func102 amD kN (λargs lv h=>by
 unfold aKF at h;split at h
 ·rename_i nu co am fr tk
  refine At (.br ((wtE tk) !=0) (.ok fr)<|.ok<|AA<|(AA<|fr+10)+(wtA tk)) ?_;obtain ⟨⟨hf,ht⟩,rfl⟩:=h
  have c:=BS.2 ht
  have hw:=aVf ht.1
  have ea:wtA tk=wt tk:=by unfold wtA;rw [AD c]
  have ee:wtE tk=0:=by unfold wtE;rw [AD c]
  rw [ea,ee,AJ (x:=fr+10),AJ];exact ⟨λh=>Ar,λ_=>rfl⟩
 ·cases h)
structure OM where
 l:aVG
 r:aVH
 m:aVG
 (n i:Y)
def aHI:=bN f100 0
def iQ (s:OM):T (Rd OM):=
 .br (an<|s.i<s.n) (.ix s.i (M s.m)<|.br (!(DM<|Ao s.m s.i)) (.so (.ret) {s with r:=X})<|.br (an<|s.i>0) (.ix (AA<|s.i-1) (M s.l)<|.br (!(K9 (Ao s.l<|AA<|s.i-1)<|Ao s.m s.i)) (.so (.ret) {s with r:=X})<|.nx {s with i:=AA<|s.i+1})<|.nx {s with i:=AA<|s.i+1}) (.so (.exit 0) s)
def jm (s:OM):Prop:=s.i=0/\s.n=(M s.l:Y)/\s.n<=1000/\s.m=s.l
def YR (s:OM):Prop:=(0<=s.i/\s.i<=s.n)/\s.n=(M s.l:Y)/\s.n<=1000/\s.m=s.l/\∀j:aVx,(j:Y)<s.i->H5 s.l j=U
def gd (s:OM):aVx:=(s.n-s.i).toNat
def aCB (x:Ex) (s s':OM):Prop:=(x=.exit 0/\∀j:aVx,(j:Y)<s'.n->H5 s'.l j=U)\/(x=.ret/\s'.r=X/\∃j:aVx,(j:Y)<s'.n/\H5 s'.l j=X)
def aln:∀s,jm s->YR s:=by
 rintro s ⟨h0,h2,h3,h4⟩
 exact ⟨A0,h2,h3,h4,λj hj=>A0⟩
def agc:Da YR gd aCB iQ:=by
 intro s hI;unfold iQ;obtain ⟨⟨h0,h1⟩,h2,h3,h4,hA⟩:=hI;refine AH (λc1=>?_) λc1=>?_
 ·refine AH (λc2=>?_) (λc2=>?_)
  ·have c1:s.i<s.n:=AY
   rw [h4] at c2;refine .inr ⟨rfl,rfl,s.i.toNat,Ac,?_⟩;rw [CO h0];unfold H5;rw [ntW c2];rfl
  ·refine AH (λc3=>?_) (λc3=>?_)
   ·refine AH (λc4=>?_) (λc4=>?_)
    ·have c1:s.i<s.n:=AY
     rw [h4] at c2
     have c3:0<s.i:=MZ
     rw [AJ (x:=s.i-1),h4] at c4;refine .inr ⟨rfl,rfl,s.i.toNat,Ac,?_⟩;rw [CO h0];unfold H5;rw [nfW c2,IM A0,ntW c4];rfl
    ·have c1:s.i<s.n:=AY
     rw [h4] at c2
     have c3:0<s.i:=MZ
     rw [AJ (x:=s.i-1),h4] at c4
     have hg:H5 s.l s.i=true:=by unfold H5;rw [nfW c2,IM A0,nfW c4];rfl
     rw [AJ (x:=s.i+1)]
     exact ⟨⟨⟨Ac,Ac⟩,h2,h3,h4,λj hj=>by
      by_cases e:(j:Y)<s.i
      ·exact hA j e
      ·have e:(j:Y)=s.i:=mz
       show H5 s.l j=U
       rw [e];exact hg⟩,by simp only [gd];omega⟩
   ·have c1:s.i<s.n:=AY
    rw [h4] at c2
    have hg:H5 s.l s.i=true:=by unfold H5;rw [nfW c2,CY nQ];rfl
    rw [AJ (x:=s.i+1)]
    exact ⟨⟨⟨Ac,Ac⟩,h2,h3,h4,λj hj=>by
     by_cases e:(j:Y)<s.i
     ·exact hA j e
     ·have e:(j:Y)=s.i:=mz
      rw [e];exact hg⟩,by simp only [gd];omega⟩
 ·have c1:s.n<=s.i:=AY
  exact .inl ⟨rfl,λj hj=>hA j A0⟩
def SP:AS OM:=⟨0,33,[0,2,8,9,10],[],λs=>[s.l,s.r,s.m,s.n,s.i],λ_=>[],λv b=>⟨B9 AQ v 0,EP v 1,B9 AQ v 2,AL v 3,AL v 4⟩,iQ,λs r=> {s with r:=r.r,i:=r.i},λs=>s,λ_ s=>s,[.ret,.exit 0],jm,YR,gd⟩
abbrev aIT:=SP.run
abbrev aIt:=SP.Au
def ayn:Rq YR iQ:=by
 intro s hI;refine ⟨λc1=>⟨?_,λ_=>trivial,λc2=>⟨λc3=>⟨?_,λ_=>trivial,λ_=>trivial⟩,λ_=>trivial⟩⟩,λ_=>trivial⟩
 all_goals ((obtain ⟨⟨h0,h1⟩,h2,h3,h4,hA⟩:=hI;simp only [Ab] at c1;have hl:M s.m=M s.l:=B2 M h4;first|omega|(simp only [Ab,gt_iff_lt] at c3;rw [AJ (x:=s.i-1)];omega)))
def aaf:aVI:=[aPd,aVb]
def aRa:SP.Ok:={}
def aR1:SP.Pf (aCB):=⟨aln,λs h=>rfl,agc,ayn⟩
def aqe:SA 0 aHI SP:=s1 aRa aR1 aaf kN
def asP:Fi jm YR aCB aIt aIT:=AS.fin aRa aR1
def aKA:aVy->T LV
 | [.xl (.pair (.int J) (.pair (.int J) (.pair (.int J) (.pair (.int J) (.int J))))) l]=> .ok (B0 l)
 |_=> .no
def X9:=vm (S:=aKA) func100 aaf kN (L:=(λi=>if i=4 then SP.lp else Al i)) (λb hb=>by
 rw [show BE _=[aHI] by kernel_rfl] at hb
 simp only [BB,Bx,By] at hb;subst hb;exact aqe) (λargs lv h=>by
 unfold aKA at h;split at h
 ·rename_i l
  refine At (letI a:=(M l:Y);.br (an<|a>64) (.ok X)<|.req (SP.q (⟨l,X,l,a,0⟩:OM))<|.br (Bs (aIt (⟨l,X,l,a,0⟩:OM))<|.ret) (.ok (aIT (⟨l,X,l,a,0⟩:OM)).r)<|.ok U) ?_;obtain rfl:=h;refine ⟨λc=>B2 (λz=>LV.v<|.bool z) ?_,λc=>?_⟩
  ·have c:64<(M l:Y):=Ix
   unfold B0;rw [IM A0];rfl
  ·have c:(M l:Y)<=64:=Ix
   have hE:jm ⟨l,X,l,(M l:Y),0⟩:=⟨rfl,rfl,Ac,rfl⟩
   refine ⟨⟨hE,rfl,rfl⟩,?_⟩;obtain ⟨_,_,hq⟩:=asP _ hE;rcases hq with ⟨q1,q2⟩ |⟨q1,q2,j,q3,q4⟩<;>rw [q1]
   ·have e:DS (M l) (H5 l)=true:=Dl.2 (λj hj=>q2 j (by show (j:Y)<(M l:Y);omega))
    unfold B0;rw [CY A0,e];exact ⟨λh=>Ar,λ_=>rfl⟩
   ·have e:DS (M l) (H5 l)=false:=PA j (by have q3:(j:Y)<(M l:Y):=q3;omega) q4
    rw [q2];unfold B0;rw [CY A0,e];exact ⟨λ_=>rfl,λh=>Ar⟩
 ·cases h)
structure PV where
 tick:Y
 l:aVG
 (n i:Y)
 out:aVG
def aHP:=bN f72 0
def aAU (s:PV):T (Rd PV):=letI a:=Ao s.l s.i;.br (an<|s.i<s.n) (.ix s.i (M s.l)<|.req ((0<=a.2.2.2.1/\a.2.2.2.1<=1000000)/\0<=a.2.2.2.2/\a.2.2.2.2<=1000000)<|.br (an<|(DF a)>s.tick) (.rb (M s.out) (M<|[a]) 40<|.re (M s.out+M ([a])) (s.out++([a]))<|.nx {s with i:=AA<|s.i+1,out:=s.out++([a])})<|.rl s.out<|.nx {s with i:=AA<|s.i+1})<|.rl s.out<|.so (.exit 0) s
def lE (s:PV):Prop:=s.i=0/\s.out=[]/\s.n=(M s.l:Y)/\s.n<=1000/\∀x∈s.l,DM x=U
def YX (s:PV):Prop:=(0<=s.i/\s.i<=s.n)/\s.out=(s.l.take s.i.toNat).filter (LF s.tick)/\s.n=(M s.l:Y)/\s.n<=1000/\∀x∈s.l,DM x=U
def ub (s:PV):aVx:=(s.n-s.i).toNat
def aCF (x:Ex) (s s':PV):Prop:=x=.exit 0/\s'.out=s'.l.filter (LF s'.tick)
def amR:∀s,lE s->YX s:=by
 rintro s ⟨h0,h1,h2⟩
 exact ⟨A0,GH,h2⟩
def ahE:Da YX ub aCF aAU:=by
 intro s hI;obtain ⟨⟨h0,h1⟩,hA,h2,h3,h4⟩:=hI;refine AH (λc1=>?_) λc1=>?_
 ·have c1:s.i<s.n:=AY
  have e:=(WX h0 (show s.i<M s.l by omega)).2
  rw [AJ (x:=s.i+1)];refine AH (λc2=>?_) λc2=>?_
  all_goals
   refine ⟨⟨⟨A8,Ac⟩,?_,h2,h3,h4⟩,by simp only [ub];omega⟩
   simp only
   have c2:LF s.tick (Ao s.l s.i)=_:=c2
   rw [e,Zp,hA,NW,c2]
   simp
 ·have c1:s.n<=s.i:=AY
  refine ⟨rfl,?_⟩;rw [hA,Di A0]
def Rp:AS PV:=⟨0,33,[1,6,17,18,19],[.nl 6 134 AQ],λs=>[s.tick,.os 0 5 0<|M s.out,s.l,s.n,s.i],λs=>[bV 134 AQ s.out],λv b=>⟨AL v 0,B9 AQ v 2,AL v 3,AL v 4,Ad AQ b 0⟩,aAU,λs r=> {s with i:=r.i,out:=r.out},λs=>s,λ_ s=>s,[.exit 0],lE,YX,ub⟩
abbrev aDw:=Rp.run
abbrev atd:=Rp.Au
def ay9:Rq YX aAU:=by
 intro s hI;refine ⟨λc1=>⟨?_,?_,λc2=>⟨?_,?_,ak⟩,λc2=>⟨A9,ak⟩⟩,λc1=>⟨A9,ak⟩⟩
 all_goals ((obtain ⟨⟨h0,h1⟩,hA,h2,h3,h4⟩:=hI;simp only [Ab] at c1;have hv:=KY.1<|h4 _<|Lt h0 (show s.i<M s.l by omega);have hl:M s.out<=s.i.toNat:=A8;first|omega|(refine ⟨A0,?_,?_⟩<;>simp only [Bk,Bv]<;>omega) |exact ⟨rfl,AI⟩))
def ab9:aVI:=[X9,aAB,aPe]
def aRk:Rp.Ok:={}
def aRB:Rp.Pf (aCF):=⟨amR,λs h=>rfl,ahE,ay9⟩
def aqH:SA 0 aHP Rp:=s1 aRk aRB ab9 kN
def au0:Fi lE YX aCF atd aDw:=AS.fin aRk aRB
def aJm:aVy->T LV
 | [.xl (.pair (.int J) (.pair (.int J) (.pair (.int J) (.pair (.int J) (.int J))))) l,.v (ag J t)]=> .ok (.AO [BW l t,DQ l t])
 |_=> .no
def vt:=uS f72 aJm
def gB:VV 72 vt:=vm func72 ab9 kN (L:=(λi=>if i=5 then Rp.lp else Al i)) (λb hb=>by
 rw [show BE _=[aHP] by kernel_rfl] at hb
 simp only [BB,Bx,By] at hb;subst hb;exact aqH) (λargs lv h=>by
 unfold aJm at h;split at h
 ·rename_i l t
  refine At (letI a:=(aDw (⟨t,l,(M l:Y),(0:Y),([]:aVG)⟩:PV));.br ((!(B0 l)) ||(!(inB t (0:Y) (1100000:Y)))) (.ok<|.AO [.xl AQ ([]:aVG),(1:Y)])<|.r0 Le<|.req (Rp.q (⟨t,l,(M l:Y),(0:Y),([]:aVG)⟩:PV))<|.rz a.out<|.ok<|.AO [((a.out.drop 0).take<|M a.out),(0:Y)]) ?_;obtain rfl:=h;refine ⟨λc=>?_,λc=>?_⟩
  ·have c:Kz l t=false:=aON
   unfold BW DQ;rw [c];rfl
  ·have c:Kz l t=true:=aON
   have hv:B0 l=true:=A8
   have hl:=GK hv
   have hE:lE ⟨t,l,(M l:Y),0,[]⟩:=⟨rfl,rfl,rfl,Ac,hl.2⟩
   obtain ⟨_,_,q1,q2⟩:=au0 _ hE
   have q2:(aDw ⟨t,l,(M l:Y),0,[]⟩).out=l.filter (LF t):=q2
   refine ⟨A9,⟨hE,rfl,rfl⟩,A0,?_⟩
   show LV.AO [LV.xl _ _,_]=_
   unfold BW DQ
   grind
 ·cases h)
structure OD where
 l:aVG
 (dG tick e:Y)
 m:aVG
 (k i:Y)
def aGr:=bN f95 0
def aAM (s:OD):T (Rd OD):=
 .br (an<|s.i<s.k) (.ix s.i (M s.m)<|.br (an<|(Ao s.m s.i).2.1>=s.dG) (.so (.ret) {s with e:=(1:Y)})<|.nx {s with i:=AA<|s.i+1}) (.so (.exit 0) s)
def kg (s:OD):Prop:=s.i=0/\s.k=(M s.m:Y)/\s.k<=1000
def YD (s:OD):Prop:=(0<=s.i/\s.i<=s.k)/\s.k=(M s.m:Y)/\s.k<=1000/\∀x∈s.m.take s.i.toNat,x.2.1<s.dG
def uJ (s:OD):aVx:=(s.k-s.i).toNat
def aCe (x:Ex) (s s':OD):Prop:=(x=.exit 0/\below s'.dG s'.m=U)\/(x=.ret/\s'.e=1/\below s'.dG s'.m=X)
def an2:∀s,kg s->YD s:=by
 rintro s ⟨h0,h1,h2⟩
 exact ⟨A0,h1,h2,GH⟩
def aiz:Da YD uJ aCe aAM:=by
 intro s hI;obtain ⟨⟨h0,h1⟩,h2,h3,h4⟩:=hI;refine AH (λc1=>?_) λc1=>?_
 ·have c1:s.i<s.k:=AY
  refine AH (λc2=>?_) λc2=>?_
  ·refine .inr ⟨rfl,rfl,?_⟩
   unfold below;rw [List.all_eq_false];exact ⟨Ao s.m s.i,Lt h0 A8,EX⟩
  ·rw [AJ (x:=s.i+1)]
   refine ⟨⟨⟨A8,A8⟩,h2,h3,λx hx=>?_⟩,by simp only [uJ];omega⟩
   rw [(WX h0 A8).2,BZ,HJ] at hx;rcases hx with hx|rfl
   ·exact h4 x hx
   ·simpa using c2
 ·have c1:s.k<=s.i:=AY
  refine .inl ⟨rfl,?_⟩;rw [Di A0] at h4;unfold below
  grind
def Rz:AS OD:=⟨0,48,[0,1,2,6,7,26,27,28],[],λs=>[s.l,s.dG,s.tick,.v<|.slice aj 0 0,s.e,s.m,s.k,s.i],λ_=>[],λv b=>⟨B9 AQ v 0,AL v 1,AL v 2,AL v 4,B9 AQ v 5,AL v 6,AL v 7⟩,aAM,λs r=> {s with e:=r.e,i:=r.i},λs=>s,λ_ s=>s,[.ret,.exit 0],kg,YD,uJ⟩
abbrev aId:=Rz.run
abbrev aJI:=Rz.Au
def ayX:Rq YD aAM:=by
 exact aMv
def RU:aVI:=[X9,aAB,aPe]
def aao:Ay:=kI RU<|l0 RU
def aSO:Rz.Ok:={}
def aQs:Rz.Pf (aCe):=⟨an2,λs h=>rfl,aiz,ayX⟩
def arq:SA 0 aGr Rz:=s1 aSO aQs RU aao
def avP:Fi kg YD aCe aJI aId:=AS.fin aSO aQs
def aAu:Array Tmp×Code×Code:=((J5<|f95.body.getD .skip)[0]?).getD (#[],.skip,.skip)
def akG:aWt:=aAu.1
def akV:aV7:=aAu.2.1
def akN:aV7:=aAu.2.2
structure O1 where
 m:aVG
 (k i:Y)
 o:aVw
 q:aVG
 t:Y
 st:LS
def aAL (s:O1):T (Rd O1):=letI b:=Ao s.m s.i;letI c:=s.o.getD b.2.1.toNat<|Ty.dflt A7;letI a:=s.o.set b.2.1.toNat (if c<b.2.2.1 then b.2.2.1 else c);.br (an<|s.i<s.k) (.ix s.i (M s.m)<|.br (an<|b.2.2.2.1>s.t) (.rl s.o<|.so (.exit 0) s)<|.req ((0<=b.2.2.2.1/\b.2.2.2.1<=1000000)/\0<=b.2.2.2.2/\b.2.2.2.2<=1000000)<|.br (an<|(DF b)<=s.t) (.rl s.o<|.nx {s with i:=AA<|s.i+1})<|.ik b.2.1 (M s.o)<|.ik b.2.1 (M s.o)<|.re (M s.o) a<|.nx {s with i:=AA<|s.i+1,o:=a})<|.rl s.o<|.so (.exit 0) s
def kf (s:O1):Prop:=s.st=.ready/\s.i=0/\s.k=(M s.m:Y)/\s.k<=1000/\(∀x∈s.m,DM x=U/\x.2.1<(M s.o:Y))/\s.m.Pairwise (λa b=>a.1<b.1/\a.2.2.2.1<=b.2.2.2.1)
def k8 (s:O1):Prop:=s.st=.ready/\(0<=s.i/\s.i<=s.k)/\s.k=(M s.m:Y)/\s.k<=1000/\(∀x∈s.m,DM x=U/\x.2.1<(M s.o:Y))/\s.m.Pairwise (λa b=>a.1<b.1/\a.2.2.2.1<=b.2.2.2.1)
def gw (s:O1):aVx:=(s.k-s.i).toNat
def acS (x:Ex) (s s':O1):Prop:=x=.exit 0
def an1:∀s,kf s->k8 s:=by
 rintro s ⟨h0,h1,h2⟩
 exact ⟨h0,A0,h2⟩
def aiy:Da k8 gw acS aAL:=by
 intro s hI;obtain ⟨hs,⟨h0,h1⟩,h2,h3,h4,h5⟩:=hI;refine AH (λc1=>?_) λc1=>rfl
 have c1:s.i<s.k:=AY
 rw [AJ (x:=s.i+1)];refine AH (λc2=>rfl) λc2=>AH (λc3=>?_) λc3=>?_
 ·exact ⟨⟨hs,⟨A8,Ac⟩,h2,h3,h4,h5⟩,by simp only [gw];omega⟩
 ·exact ⟨⟨hs,⟨A8,A8⟩,h2,h3,λx hx=>A8,h5⟩,by simp only [gw];omega⟩
def Zg:AS O1:=⟨6,27,[0,2,6,7,8],[],λs=>[.CS 5,.own 4 0,s.m,s.k,s.i],λs=>[bV 3 A7 s.o,⟨[.os 0 1 0<|M s.o],29,.cl,X⟩,⟨[.fn 128 [.own 1 0]],188,.cl,X⟩,⟨[s.q],34,.cl,X⟩,⟨[s.t],3,.cl,X⟩,⟨[.junk,.junk,.junk,.junk,.junk,.junk,.junk,.junk,.junk,.junk,.junk,.own 2 0,.junk,.junk,.junk,.junk,.junk,.junk,.junk,.junk,.junk,.junk,.junk,.junk,.junk,.junk,.junk,.junk,.junk,.junk,.junk,.junk,.junk,.junk,.junk,.junk,.junk,.junk,.junk,.junk,.junk,.junk,.junk,.junk,.junk,.junk,.junk,.junk],0,.Cr akG akV akN s.st,X⟩],λv b=>⟨B9 AQ v 2,AL v 3,AL v 4,Ad A7 b 0,AG AQ b 3 0,Ak b 4 0,.ready⟩,aAL,λs r=> {r with m:=s.m,k:=s.k,q:=s.q,t:=s.t,st:=s.st},λs=> {s with st:=.ready},λx s=> {s with st:=(match x with| .exit 0=> .ready|_=> .ready)},[.exit 0],kf,k8,gw⟩
abbrev aEI:=Zg.run
abbrev atO:=Zg.Au
def ayW:Rq k8 aAL:=by
 intro s hI;refine ⟨λc1=>⟨?_,λc2=>⟨A9,ak⟩,λc2=>⟨?_,λc3=>⟨A9,ak⟩,λc3=>⟨?_,?_,?_,?_,?_,ak⟩⟩⟩,λc1=>⟨A9,ak⟩⟩
 all_goals ((obtain ⟨hs,⟨h0,h1⟩,h2,h3,h4,h5⟩:=hI;simp only [Ab] at c1;have hv:=(h4 _<|Lt h0 (show s.i<M s.m by omega)).2;have hl:=KY.1 (h4 _<|Lt h0 (show s.i<M s.m by omega)).1;first|omega|exact ⟨rfl,AI⟩))
def aSN:Zg.Ok:={}
def aQr:Zg.Pf (acS):=⟨an1,λs h=>by
 obtain ⟨m,k,i,o,q,t,st⟩:=s
 have e:=h.1
 subst e;rfl,aiy,ayW⟩
def arp:=s2 (b:=bN f166 0) aSN aQr RU aao
def avO:Rs kf atO aEI (λs:O1=>((s.m.drop s.i.toNat).filter<|Fb s.t).foldl Jb s.o) (λx s' (v:aVw)=>x=.exit 0/\s'.o=v):=DZ aSN aQr (λs hI=>by
  obtain ⟨hs,⟨h0,h1⟩,h2,h3,h4,h5⟩:=hI;refine AH (λc1=>?_) λc1=>?_
  ·have c1:s.i<s.k:=AY
   have e:=(WX h0 (show s.i<(M s.m:Y) by omega)).1
   rw [AJ (x:=s.i+1)];refine AH (λc2=>?_) λc2=>AH (λc3=>?_) λc3=>?_
   ·refine ⟨rfl,?_⟩
    have c2:(Ao s.m s.i).2.2.2.1>s.t:=EX
    have hp:(s.m.drop s.i.toNat).Pairwise (λa b=>a.1<b.1/\a.2.2.2.1<=b.2.2.2.1):=List.Pairwise.sublist (List.drop_sublist _ _) h5
    rw [e,lf] at hp;rw [List.filter_eq_nil_iff.2]
    ·rfl
    ·rw [e]
     intro x hx;unfold Fb;rw [IM,QR]
     ·decide
     ·rcases BB.1 hx with rfl|hx
      ·omega
      ·have:=(hp.1 x hx).2
       omega
   ·show List.foldl _ _ _=List.foldl _ _ _
    have c3:DF (Ao s.m s.i)<=s.t:=MZ
    have hb:¬Fb s.t (Ao s.m s.i)=true:=by
     unfold Fb;rw [IM (p:=DF _>_) A0,Sv]
     decide
    simp only
    grind
   ·show List.foldl _ _ _=List.foldl _ _ _
    have c2:(Ao s.m s.i).2.2.2.1<=s.t:=EX
    have c3:s.t<DF (Ao s.m s.i):=MZ
    have hb:Fb s.t (Ao s.m s.i)=true:=by
     unfold Fb;rw [CY c2,CY c3];rfl
    rw [e,NW,AD hb,KI];rfl
  ·have c1:s.k<=s.i:=A8
   refine ⟨rfl,?_⟩;rw [Ew A0];rfl)
def aL6:aVy->T LV
 | [.xl (.pair (.int J) (.pair (.int J) (.pair (.int J) (.pair (.int J) (.int J))))) l,.v (ag J n),.v (ag J t)]=> .ok (.AO [.xl A7<|HL l n t,JU l n t])
 |_=> .no
def akz:Ay:=kI RU<|la 1 func166 arp<|l0 RU
def XA:=vm (S:=aL6) func95 RU akz (L:=(λi=>if i=4 then Rz.lp else Al i)) (λb hb=>by
 rw [show BE _=[aGr] by kernel_rfl] at hb
 simp only [BB,Bx,By] at hb;subst hb;exact arq) (λargs lv h=>by
 unfold aL6 at h;split at h
 ·rename_i l n t
  refine At (letI b:=(aq n.toNat (0:Y));letI d:=(M l:Y);letI a:=(aEI (⟨l,d,0,b,l,t,.ready⟩:O1));.br ((!(B0 l)) ||((!(inB n (0:Y) (16:Y))) ||(!(inB t (0:Y) (1100000:Y))))) (.ok<|.AO [.xl A7 ([]:aVw),(1:Y)])<|.req (Rz.q (⟨l,n,t,0,l,d,0⟩:OD))<|.br (Bs (aJI (⟨l,n,t,0,l,d,0⟩:OD))<|.ret) (.ok<|.AO [.xl A7 ([]:aVw),(aId (⟨l,n,t,0,l,d,0⟩:OD)).e])<|.rm 8 n<|.re n.toNat b<|.req (Zg.q (⟨l,d,0,b,l,t,.ready⟩:O1))<|.rz a.o<|.ok<|.AO [.xl A7<|(a.o.drop 0).take<|M a.o,(0:Y)]) ?_;obtain rfl:=h
  have bad:K5 l n t=X->LV.AO [.xl A7 ([]:aVw),.v<|ag J 1]=LV.AO [.xl A7<|HL l n t,.v<|ag J<|JU l n t]:=λc=>by
   unfold HL JU;rw [c];rfl
  refine ⟨λc=>bad ?_,λc=>?_⟩
  ·unfold K5
   grind
  have c:(B0 l&&(inB n 0 16&&inB t 0 1100000))=true:=A8
  have c':=c
  rw [AX,AX,BS,BS] at c';obtain ⟨hv,hn,ht⟩:=c'
  have hl:=GK hv
  have hE:kg ⟨l,n,t,0,l,(M l:Y),0⟩:=⟨rfl,rfl,Ac⟩
  refine ⟨⟨hE,rfl,rfl⟩,?_⟩;obtain ⟨_,_,hq⟩:=avP _ hE;rcases hq with ⟨q1,q2⟩ |⟨q1,q2,q3⟩<;>rw [q1]
  ·refine ⟨λh=>Ar,λ_=>?_⟩
   have q2:below n l=true:=q2
   have hE2:kf ⟨l,(M l:Y),0,aq n.toNat 0,l,t,.ready⟩:=⟨rfl,rfl,rfl,Ac,λx hx=>⟨hl.2 x hx,by
    have:=DH<|BH.1 q2 x hx
    simp only [Ci];omega⟩,aFR hv⟩
   obtain ⟨_,q4⟩:=avO _ hE2;refine ⟨A0,⟨rfl,AI⟩,⟨hE2,rfl,rfl⟩,A0,?_⟩;rw [CX,Eg,q4];unfold HL JU K5;rw [c,q2];rfl
  ·have q3:below n l=false:=q3
   rw [q2];exact ⟨λ_=>bad (by unfold K5;rw [q3,Sv]),λh=>Ar⟩
 ·cases h)
def aK9:aVy->T LV
 | [.v (.agg ⟨[.string nm,ag J at_,ag J ph,ag J mi,ag J ma,ag J st,ag J fb,ag J ow]⟩)]=> .ok (Eb mi ma st)
 |_=> .no
def oC:aVI:=[]
def at7 (nm:aV6) (at_ ph mi ma st fb ow:Y):Bm prog AV (oC) kN Al f218 [.v<|.agg #[.string nm,at_,ph,mi,ma,st,fb,ow]]=.br ((an<|mi<1) ||((an<|mi>ma) ||((an<|ma>80) ||((an<|st<1) ||(an<|st>80))))) (.ok (0:Y)) (.req (st≠0)<|.ok<|AA<|(AA<|(AA<|ma-mi).tdiv st)+2):=AU
def avv:=vo (S:=aK9) func218 oC kN (λargs lv h=>by
 refine ⟨?_⟩;unfold aK9 at h;split at h
 ·simp only [canL,canX]
  rw [at7];rename_i mi ma st _ _;obtain rfl:=h;refine ⟨λc=>B2 (λz=>LV.v<|ag J z) ?_,λc=>⟨?_,B2 (λz=>LV.v<|ag J z) ?_⟩⟩
  ·have:Dw mi ma st=false:=by
    rw [IQ];intro h;have:=IU.1 h;simp at c;omega
   rw [aFw this]
  ·grind
  ·have hh:=IU.2 Vp
   obtain ⟨h1,h2,h3,h4,h5⟩:=IU.1 hh
   have:=qR (x:=ma-mi) (st:=st) A0 A0
   rw [AJ (x:=ma-mi),IL A0,AJ (x:=(ma-mi) / st),AJ]
   simp [Eb,hh]
 ·cases h)
def aL5:aVy->T LV
 | [.v (.agg ⟨[.string nm,ag J at_,ag J ph,ag J mi,ag J ma,ag J st,ag J fb,ag J ow]⟩),.v (ag J k)]=> .req ((1<=mi/\mi<=80/\1<=st/\st<=80)/\0<=k/\k<=1000) (.ok<|E9 mi st k)
 |_=> .no
def asI (nm:aV6) (at_ ph mi ma st fb ow k:Y):Bm prog AV (oC) kN Al f192 [.v<|.agg #[.string nm,at_,ph,mi,ma,st,fb,ow],k]=.br (k==0) (.ok (0:Y)) (.ok<|AA<|mi+(AA<|(AA<|k-1)*st)):=AU
def XN:=vo (S:=aL5) func192 oC kN (λargs lv h=>by
 refine ⟨?_⟩;unfold aL5 at h;split at h
 ·simp only [canL,canX]
  rw [asI];rename_i mi _ st _ _ k;obtain ⟨⟨⟨h1,h2,h3,h4⟩,h5,h6⟩,rfl⟩:=h;refine ⟨λc=>B2 (λz=>LV.v<|ag J z) ?_,λc=>B2 (λz=>LV.v<|ag J z) ?_⟩
  ·have c:k=0:=A8
   simp [E9,c]
  ·have c:k≠0:=A8
   have:=agX (a:=k-1) (b:=st) A0 A0 A0 A0
   rw [AJ (x:=k-1),AJ (x:=(k-1)*st),AJ]
   simp [E9,c]
 ·cases h)
def aKD:aVy->T LV
 | [.v (.agg ⟨[.string nm,ag J at_,ag J ph,ag J mi,ag J ma,ag J st,ag J fb,ag J ow]⟩),.v (ag J a)]=> .req (a<=9223372036854775807) (.ok<|He mi ma st a)
 |_=> .no
def aLc:aVI:=[avv]
def atA (nm:aV6) (at_ ph mi ma st fb ow a:Y):letI b:=(AA<|(AA<|a-mi).tdiv st)+1;letI c:=Eb mi ma st;Bm prog AV (aLc) kN Al f190 [.v<|.agg #[.string nm,at_,ph,mi,ma,st,fb,ow],a]=.br ((c==0) ||(an<|a<0)) (.ok<|.v<|ag J (-1)) (.br (an<|a<mi) (.ok (0:Y))<|.req (st≠0)<|.ok<|.v<|ag J (if (AA b)<(AA<|c-1) then AA b else AA (c-1))):=AU
def XL:=vo (S:=aKD) func190 aLc kN (λargs lv h=>by
 refine ⟨?_⟩;unfold aKD at h;split at h
 ·simp only [canL,canX]
  rw [atA];rename_i mi ma st _ _ a;obtain ⟨ha,rfl⟩:=h
  have hb:=aS8 (mi:=mi) (ma:=ma) (st:=st)
  refine ⟨λc=>B2 (λz=>LV.v<|ag J z) ?_,λc=>⟨λc2=>B2 (λz=>LV.v<|ag J z) ?_,λc2=>?_⟩⟩
  ·have c:Dw mi ma st=X\/a<0:=by
    simp at c
    rcases c with c|c
    ·left
     cases e:Dw mi ma st with
     |false=>rfl
     |true=>have:=sK e;omega
    ·exact .inr c
   simp only [He,AD c]
  all_goals
   simp at c c2
   have hh:Dw mi ma st=true:=by
    cases e:Dw mi ma st with
    |true=>rfl
    |false=>exact absurd (aFw e) c.1
   have hn:¬(Dw mi ma st=X\/a<0):=A8
   have:=IU.1 hh
  ·simp only [He,AE hn,AD c2]
  ·have:=qR (x:=a-mi) (st:=st) A0 A0
   refine ⟨A0,B2 (λz=>LV.v<|ag J z) ?_⟩
   rw [AJ (x:=a-mi),IL A0,AJ (x:=(a-mi) / st),AJ (x:=(a-mi) / st+1),AJ (x:=Eb mi ma st-1)];simp only [He,AE hn,AE (show ¬a<mi by omega)]
   omega
 ·cases h)
def aFO:aVy->T LV
 | [.v (.string w)]=> .ok (isIn jb w)
 |_=> .no
def VS:aVI:=[]
def aFk:=vo (S:=aFO) func178 VS kN (λargs lv h=>by
 unfold aFO at h;split at h
 ·rename_i w
  refine At (.br (w.toList==(av #[108,105,109,105,116]).toList) (.ok U)<|.br (w.toList==(av #[110,101,117,116,114,97,108]).toList) (.ok U)<|.br (w.toList==(av #[102,117,115,101]).toList) (.ok U)<|.br (w.toList==(av #[116,104,101,114,109,97,108]).toList) (.ok U)<|.br (w.toList==(av #[102,114,111,109]).toList) (.ok U)<|.br (w.toList==(av #[97,116]).toList) (.ok U)<|.br (w.toList==(av #[112,104,97,115,101,115]).toList) (.ok U)<|.br (w.toList==(av #[97,109,112,115]).toList) (.ok U)<|.br (w.toList==(av #[102,97,108,108,98,97,99,107]).toList) (.ok U)<|.br (w.toList==(av #[111,119,110,101,114]).toList) (.ok U)<|.br (w.toList==(av #[99,97,114,100]).toList) (.ok U)<|.br (w.toList==(av #[114,97,110,107]).toList) (.ok U)<|.br (w.toList==(av #[99,104,97,114,103,101,114]).toList) (.ok U)<|.ok X) ?_;obtain rfl:=h;simp only [XO];unfold isIn jb;simp only [aD,mG];refine ⟨λc0=>yz,λc0=>?_⟩
  rw [c0,D5];refine ⟨λc1=>z7,λc1=>?_⟩
  rw [c1,D5];refine ⟨λc2=>z8,λc2=>?_⟩
  rw [c2,D5];refine ⟨λc3=>z9,λc3=>?_⟩
  rw [c3,D5];refine ⟨λc4=>zA,λc4=>?_⟩
  rw [c4,D5];refine ⟨λc5=>zC,λc5=>?_⟩
  rw [c5,D5];refine ⟨λc6=>by simp [c6,T.all],λc6=>?_⟩
  rw [c6,D5];refine ⟨λc7=>by simp [c7,T.all],λc7=>?_⟩
  rw [c7,D5];refine ⟨λc8=>by simp [c8,T.all],λc8=>?_⟩
  rw [c8,D5];refine ⟨λc9=>by simp [c9,T.all],λc9=>?_⟩
  rw [c9,D5];refine ⟨λc10=>by simp [c10,T.all],λc10=>?_⟩
  rw [c10,D5];refine ⟨λc11=>by simp [c11,T.all],λc11=>?_⟩
  rw [c11,D5];refine ⟨λc12=>by simp [c12,T.all],λc12=>?_⟩
  rw [c12,D5];rfl
 ·cases h)
def aH4:aVy->T LV
 | [.v (.string w)]=> .ok (isIn qH w)
 |_=> .no
def aHk:=vo (S:=aH4) func179 VS kN (λargs lv h=>by
 unfold aH4 at h;split at h
 ·rename_i w
  refine At (.br (w.toList==(av #[115,116,97,114,116]).toList) (.ok U)<|.br (w.toList==(av #[101,110,101,114,103,121]).toList) (.ok U)<|.br (w.toList==(av #[116,105,109,101]).toList) (.ok U)<|.br (w.toList==(av #[105,100,108,101]).toList) (.ok U)<|.br (w.toList==(av #[99,97,112]).toList) (.ok U)<|.br (w.toList==(av #[116,97,120]).toList) (.ok U)<|.ok X) ?_;obtain rfl:=h;simp only [XO];unfold isIn qH;simp only [aD,mG];refine ⟨λc0=>yz,λc0=>?_⟩
  rw [c0,D5];refine ⟨λc1=>z7,λc1=>?_⟩
  rw [c1,D5];refine ⟨λc2=>z8,λc2=>?_⟩
  rw [c2,D5];refine ⟨λc3=>z9,λc3=>?_⟩
  rw [c3,D5];refine ⟨λc4=>zA,λc4=>?_⟩
  rw [c4,D5];refine ⟨λc5=>zC,λc5=>?_⟩
  rw [c5,D5];rfl
 ·cases h)
def aH2:aVy->T LV
 | [.v (.string w)]=> .ok (isIn words w)
 |_=> .no
def aHj:=vo (S:=aH2) func213 VS kN (λargs lv h=>by
 unfold aH2 at h;split at h
 ·rename_i w
  refine At (.br (w.toList==(av #[111,110]).toList) (.ok U)<|.br (w.toList==(av #[119,111,114,107]).toList) (.ok U)<|.br (w.toList==(av #[115,97,116,117,114,100,97,121]).toList) (.ok U)<|.br (w.toList==(av #[115,117,110,100,97,121]).toList) (.ok U)<|.br (w.toList==(av #[98,101,116,119,101,101,110]).toList) (.ok U)<|.br (w.toList==(av #[112,101,114]).toList) (.ok U)<|.br (w.toList==(av #[102,114,101,101]).toList) (.ok U)<|.ok X) ?_;obtain rfl:=h;simp only [XO];unfold isIn words;simp only [aD,mG];refine ⟨λc0=>yz,λc0=>?_⟩
  rw [c0,D5];refine ⟨λc1=>z7,λc1=>?_⟩
  rw [c1,D5];refine ⟨λc2=>z8,λc2=>?_⟩
  rw [c2,D5];refine ⟨λc3=>z9,λc3=>?_⟩
  rw [c3,D5];refine ⟨λc4=>zA,λc4=>?_⟩
  rw [c4,D5];refine ⟨λc5=>zC,λc5=>?_⟩
  rw [c5,D5];refine ⟨λc6=>by simp [c6,T.all],λc6=>?_⟩
  rw [c6,D5];rfl
 ·cases h)
def aKI:aVy->T LV
 | [.v (.string w)]=> .ok (VM 1 kinds w)
 |_=> .no
def avx:=vo (S:=aKI) func212 VS kN (λargs lv h=>by
 unfold aKI at h;split at h
 ·rename_i w
  refine At (.br (w.toList==(av #[102,101,101,100,101,114]).toList) (.ok (1:Y))<|.br (w.toList==(av #[99,97,98,108,101]).toList) (.ok (2:Y))<|.br (w.toList==(av #[111,119,110,101,114]).toList) (.ok (3:Y))<|.br (w.toList==(av #[99,111,110,116,114,97,99,116]).toList) (.ok (4:Y))<|.br (w.toList==(av #[99,104,97,114,103,101,114]).toList) (.ok (5:Y))<|.br (w.toList==(av #[98,97,121]).toList) (.ok (6:Y))<|.br (w.toList==(av #[116,97,114,105,102,102]).toList) (.ok (7:Y))<|.ok (0:Y)) ?_;obtain rfl:=h;simp only [XO];simp only [VM,kinds];refine ⟨λc0=>by rw [AD c0];rfl,λc0=>?_⟩
  rw [AE<|by simp [c0]]
  refine ⟨λc1=>by rw [AD c1];rfl,λc1=>?_⟩
  rw [AE<|by simp [c1]]
  refine ⟨λc2=>by rw [AD c2];rfl,λc2=>?_⟩
  rw [AE<|by simp [c2]]
  refine ⟨λc3=>by rw [AD c3];rfl,λc3=>?_⟩
  rw [AE<|by simp [c3]]
  refine ⟨λc4=>by rw [AD c4];rfl,λc4=>?_⟩
  rw [AE<|by simp [c4]]
  refine ⟨λc5=>by rw [AD c5];rfl,λc5=>?_⟩
  rw [AE A8];refine ⟨λc6=>by rw [AD c6];rfl,λc6=>?_⟩
  rw [AE A8];rfl
 ·cases h)
def aH3:aVy->T LV
 | [.v (.string w)]=> .ok (wc w)
 |_=> .no
def anb:aVI:=[aFk,aHk,avx,aHj]
def aq0:=vo (S:=aH3) func177 anb kN (λargs lv h=>by
 unfold aH3 at h;split at h
 ·rename_i w
  refine At (.ok<|.v<|.bool (((VM 1 kinds w) !=0) ||((isIn jb w) ||((isIn qH w) ||(isIn words w))))) ?_;obtain rfl:=h;rw [aFl 1 kinds _ Aa];rfl
 ·cases h)
structure MK where
 text:aV6
 r:aVH
 i:Y
def aKP:=bN f176 0
def nk (s:MK):T (Rd MK):=letI a:=JW s.text s.i;.br (an<|s.i<(s.text.size:Y)) (.req (0<=s.i/\s.i<(s.text.size:Y))<|.br (if an (a>=97) then !(an<|a<=122)&&(if an (a>=48) then !(an<|a<=57)&&(!(a==95)) else !(a==95)) else if an (a>=48) then !(an<|a<=57)&&(!(a==95)) else !(a==95)) (.so (.ret) {s with r:=X})<|.nx {s with i:=AA<|s.i+1})<|.so (.exit 0) s
def Oa (s:MK) (j:Y):aVH:=an (j<1) ||(chB<|JW s.text j)
def oa (s:MK):Prop:=s.i=1/\1<=(s.text.size:Y)/\(s.text.size:Y)<=1000/\True
def cF (s:MK):Prop:=1<=s.i/\s.i<=(s.text.size:Y)/\(s.text.size:Y)<=1000/\(True)/\∀j:aVx,(j:Y)<s.i->Oa s j=U
def aBD (s:MK):aVx:=((s.text.size:Y)-s.i).toNat
def xL (x:Ex) (s s':MK):Prop:=(x=.exit 0/\∀j:aVx,(j:Y)<(s'.text.size:Y)->Oa s' j=U)\/(x=.ret/\s'.r=X/\∃j:aVx,(j:Y)<(s'.text.size:Y)/\Oa s' j=X)
def anW:∀s,oa s->cF s:=by
 rintro s ⟨h0,h1,h2,h3⟩
 exact ⟨A0,A0,h2,h3,λj hj=>by unfold Oa;rw [CY A0];rfl⟩
def amn:Da cF aBD xL nk:=by
 intro s hI;unfold nk;obtain ⟨h0,h1,h2,h3,h4⟩:=hI;refine AH (λc1=>AH (λc2=>?_) λc2=>?_) λc1=>?_
 ·have c1:s.i<(s.text.size:Y):=AY
  refine .inr ⟨rfl,rfl,s.i.toNat,Ac,?_⟩;rw [CO A0]
  have hg:Oa s s.i=false:=aO4
  exact hg
 ·have c1:s.i<(s.text.size:Y):=AY
  have hg:Oa s s.i=true:=aO4
  rw [AJ (x:=s.i+1)];refine ⟨⟨Ac,Ac,h2,h3,λj hj=>?_⟩,by simp only [aBD];omega⟩
  by_cases hji:(j:Y)<s.i
  ·exact h4 j hji
  ·have:(j:Y)=s.i:=A8
   rw [this];exact hg
 ·have c1:(s.text.size:Y)<=s.i:=AY
  exact aF
def Sm:AS MK:=⟨0,51,[0,2,3],[],λs=>[.v<|.string s.text,s.r,s.i],λ_=>[],λv b=>⟨gSr<|v.getD 0 .junk,EP v 1,AL v 2⟩,nk,λs r=> {r with text:=s.text},λs=>s,λ_ s=>s,[.ret,.exit 0],oa,cF,aBD⟩
abbrev fq:=Sm.run
abbrev aTT:=Sm.Au
def akt:Rq cF nk:=by
 exact T3
def abH:Sm.Ok:={}
def aVm:Sm.Pf (xL):=⟨anW,λs h=>rfl,amn,akt⟩
def axl:SA 0 aKP Sm:=s1 abH aVm VS kN
def ahX:Fi oa cF xL aTT fq:=AS.fin abH aVm
def aH7:aVy->T LV
 | [.v (.string w)]=> .ok (gwB w)
 |_=> .no
def aq2:=vm (S:=aH7) func176 VS kN (L:=(λi=>if i=4 then Sm.lp else Al i)) (λb hb=>by
 rw [show BE _=[aKP] by kernel_rfl] at hb
 simp only [BB,Bx,By] at hb;subst hb;exact axl) (λargs lv h=>by
 unfold aH7 at h;split at h
 ·rename_i w
  refine At (letI a:=(w.size:Y);.br (an<|a<1) (.ok X)<|.br (an<|a>12) (.ok X)<|.req (0<=(0:Y)/\(0:Y)<a)<|.br (an<|(JW w (0:Y))<97) (.ok X)<|.req (0<=(0:Y)/\(0:Y)<a)<|.br (an<|(JW w (0:Y))>122) (.ok X)<|.req (Sm.q (⟨w,X,1⟩:MK))<|.br (Bs (aTT (⟨w,X,1⟩:MK))<|.ret) (.ok (fq (⟨w,X,1⟩:MK)).r)<|.ok U) ?_;obtain rfl:=h
  have bad:¬(((1<=w.size/\w.size<=12)/\(97<=JW w 0/\JW w 0<=122)))->LV.v (.bool X)=LV.v (.bool<|gwB w):=λhn=>B2 (λz=>LV.v<|.bool z) (by
   rw [T4,IQ];intro h;simp only [gwB,chA,AX,Ab] at h;exact hn ⟨h.1,A0,A0⟩)
  refine ⟨λc=>bad Vp,λc=>⟨λc2=>bad A8,λc2=>⟨Vp,λc3=>bad nQ,λc3=>⟨Vp,λc4=>bad zK,λc4=>?_⟩⟩⟩⟩
  simp only [DI] at c c2 c3 c4
  have hE:oa ⟨w,X,1⟩:=⟨rfl,Ac,Ac,ak⟩
  have key:gwB w=(au w.size).all λi=>i==0 ||chB (JW w i):=by
   simp only [gwB,chA];rw [CY A0,CY A0,CY A0];rfl
  obtain ⟨s',_,hq⟩:=ahX _ hE;refine ⟨⟨hE,rfl,rfl⟩,?_⟩;rw [key];rcases hq with ⟨h1,h2⟩ |⟨h1,h2,j,h3,h4⟩
  ·rw [h1]
   refine ⟨λh=>Ar,λ_=>B2 (λz=>LV.v<|.bool z) ?_⟩
   rw [T4,BH];intro i hi
   have:=h2 i (by show (i:Y)<(w.size:Y);have:=Iu.1 hi;omega)
   simp only [Oa] at this;rw [show (fq ⟨w,X,1⟩).text=w from rfl] at this;rw [Cf] at this;rcases this with h|h
   ·have:i=0:=by simp at h;omega
    simp [this]
   ·rw [h];simp
  ·rw [h1,h2]
   refine ⟨λ_=>B2 (λz=>LV.v<|.bool z) ?_,λh=>Ar⟩
   rw [T4,IQ];intro hx;rw [BH] at hx
   have h3:(j:Y)<(w.size:Y):=h3
   have:=hx j<|Iu.2 A0
   simp only [Oa] at h4;rw [show (fq ⟨w,X,1⟩).text=w from rfl] at h4;rw [Ge] at h4
   have h5:=h4.1
   simp at h5
   rw [h4.2] at this
   simp at this
   omega
 ·cases h)
def aH8:aVy->T LV
 | [.v (.string w)]=> .ok (nameB w)
 |_=> .no
def ana:aVI:=[aq2,aq0]
def aq3:=vo (S:=aH8) func138 ana kN (λargs lv h=>by
 unfold aH8 at h;split at h
 ·rename_i w
  refine At (.ok<|.v<|.bool<|(gwB w)&&(!(wc w))) ?_;exact h
 ·cases h)
def aJj:aVy->T LV
 | [.v (.string w)]=> .ok (nameB w)
 |_=> .no
def wv:aVI:=[aq3,aFk,aHk,aHj]
def ao6:Ay:=kI wv<|l0 wv
def avy:=vo (S:=aJj) func42 wv ao6 (λargs lv h=>by
 unfold aJj at h;split at h
 ·rename_i w
  refine At (.br (((1:Y) !=1) ||((!(ByteArray.empty.toList==(av #[]).toList)) ||((0:Y) !=0))) (.ok X)<|.br (((2:Y) !=2) ||((an<|(3:Y)<1) ||((an<|(3:Y)>7) ||(!(nameB w))))) (.br (!X) (.ok X)<|.ok U)<|.br (!U) (.ok X)<|.ok U) ?_;obtain rfl:=h;refine ⟨λc=>?_,λ_=>?_⟩
  ·exfalso
   rw [XO] at c
   revert c
   decide
  ·cases nameB w<;>simp [T.all]
 ·cases h)
def aH6:aVy->T LV
 | [.v (.agg ⟨[ag J a,ag J b]⟩),.v (ag J n)]=> .ok (inB n a b)
 |_=> .no
def wu:aVI:=[]
def sF:=vo (S:=aH6) func83 wu kN (λargs lv h=>by
 unfold aH6 at h;split at h
 ·rename_i a b n
  refine At (.ok<|.v<|.bool<|(an<|n>=a)&&(an<|n<=b)) ?_;exact h
 ·cases h)
def aJk:aVy->T LV
 | [.v (.agg ⟨[ag J am,ag J mo,ag J ga,ag J lo,ag J de]⟩)]=> .ok (an<|mo>am)
 |_=> .no
def avz:=vo (S:=aJk) func105 wu kN (λargs lv h=>by
 unfold aJk at h;split at h
 ·rename_i am mo ga lo de
  refine At (.ok<|an<|mo>am) ?_;exact h
 ·cases h)
def aJl:aVy->T LV
 | [.v (.agg ⟨[.string nm,ag J at_,ag J ph,ag J mi,ag J ma,ag J st,ag J fb,ag J ow]⟩)]=> .ok (.v<|.bool<|an (mi<=ma)&&((fb==0) ||inB fb mi ma))
 |_=> .no
def aw0:=vo (S:=aJl) func106 wu kN (λargs lv h=>by
 unfold aJl at h;split at h
 ·rename_i nm at_ ph mi ma st fb ow
  refine At (.ok<|.v<|.bool<|(an<|mi<=ma)&&((fb==0) ||((an<|fb>=mi)&&(an<|fb<=ma)))) ?_;exact h
 ·cases h)
def aKZ:aVy->T LV
 | [.v (.agg ⟨[.string nm,ag J up_,ag J li,ag J ne,ag J ra,ag J he,ag J am,ag J mo,ag J ga,ag J lo,ag J de]⟩),.v (ag J i)]=> .req (0<=i) (.ok<|I9 i (nm,up_,li,ne,(ra,he),am,mo,ga,lo,de))
 |_=> .no
def anZ:aVI:=[sF,avz]
def avm:=vo (S:=aKZ) func82 anZ kN (λargs lv h=>by
 unfold aKZ at h;split at h
 ·rename_i nm up_ li ne ra he am mo ga lo de i
  refine At (.br (if i==0 then (up_ !=(-1)) ||((an<|i>0)&&((an<|up_<0) ||(an<|up_>=i))) else (an<|i>0)&&((an<|up_<0) ||(an<|up_>=i))) (.ok X)<|.br ((!(inB li (1:Y) (1000:Y))) ||(!(inB ne (1:Y) (1000:Y)))) (.ok X)<|.br ((!((ra==0)&&(he==0)))&&(!(inB ra (1:Y) (1000:Y)) ||(!(inB he (0:Y) (1000000:Y))))) (.ok X)<|.br ((am==0)&&((mo==0)&&((ga==0)&&((lo==0)&&(de==0))))) (.ok U)<|.ok<|.v<|.bool<|(inB am (0:Y) (200000:Y))&&((inB mo (0:Y) (200000:Y))&&((inB ga (0:Y) (1000:Y))&&((inB lo (0:Y) (1000:Y))&&((inB de (1:Y) (1000000:Y))&&(an<|mo>am)))))) ?_
  obtain ⟨hi,h⟩:=h;exact ai7 (K:=λz=>LV.v (.bool z)=lv) hi h
 ·cases h)
def aKn:aVy->T LV
 | .agg a::r=>s5 a λcs os ks gs bs=>(match r with
  | [.v (.agg ⟨[.string nm,ag J at_,ag J ph,ag J mi,ag J ma,ag J st,ag J fb,ag J ow]⟩)]=> .req ((M cs:Y)<=1000/\(M os:Y)<=1000) (.ok<|G4 (M cs) (M os) (nm,at_,ph,mi,ma,st,fb,ow))
  |_=> .no)
 |_=> .no
def amN:aVI:=[sF,aw0]
def avn:=vo (S:=aKn) func84 amN kN (λargs lv h=>by
 unfold aKn at h;split at h
 case h_2=>cases h
 replace h:=IX h
 obtain ⟨cs,os,ks,gs,bs,rfl,h⟩:=h;split at h
 ·rename_i nm at_ ph mi ma st fb ow
  refine At (.ok<|.v<|.bool<|(inB at_ (0:Y)<|AA<|(M cs:Y)-1)&&((inB ow (0:Y)<|AA<|(M os:Y)-1)&&((inB ph (1:Y) (7:Y))&&((inB mi (1:Y) (80:Y))&&((inB ma (1:Y) (80:Y))&&((inB st (1:Y) (80:Y))&&((inB fb (0:Y) (80:Y))&&(an (mi<=ma)&&((fb==0) ||inB fb mi ma))))))))) ?_;obtain ⟨⟨h1,h2⟩,rfl⟩:=h;refine B2 (λz=>LV.v<|.bool z) ?_
  rw [AJ (x:=(M cs:Y)-1),AJ (x:=(M os:Y)-1)];unfold G4 MQ;rw [Iw];simp only [AX,Cf,BS,Ab,Cz];omega
 ·cases h)
structure Nm where
 l:aVF
 (n i:Y)
 BD:aVF
 Bh:aVz
 C5:aVK
 BQ:aVA
 C6:aVL
 out:aVz
def aHF:=bN f41 0
def aA6 (s:Nm):T (Rd Nm):=letI a:=Ae s.l s.i;.br (an<|s.i<s.n) (.ix s.i (M s.l)<|.rb (M s.out) (M<|[a.1]) 16<|.re (M s.out+M ([a.1])) (s.out++([a.1]))<|.nx {s with i:=AA<|s.i+1,out:=s.out++([a.1])})<|.rl s.out<|.so (.exit 0) s
def ZS (s:Nm):Prop:=s.i=0/\s.n=(M s.l:Y)/\s.n<=1000/\(M s.out:Y)<=10000
def YO (s:Nm):Prop:=0<=s.i/\s.i<=s.n/\s.n=(M s.l:Y)/\s.n<=1000/\(M s.out:Y)<=10000+s.i
def uP (s:Nm):aVx:=(s.n-s.i).toNat
def aC7 (x:Ex) (s s':Nm):Prop:=x=.exit 0/\s'.i=s'.n
def ale:∀s,ZS s->YO s:=by
 exact aI
def az8:Da YO uP aC7 aA6:=by
 intro s hI;obtain ⟨h0,h1,h2,h3,h4⟩:=hI;refine AH (λc1=>?_) λc1=>?_
 ·have c1:s.i<s.n:=A8
  rw [AJ (x:=s.i+1)];exact ⟨⟨A8,A8,h2,h3,A8⟩,by simp only [uP];omega⟩
 ·exact T9
def SJ:AS Nm:=⟨0,80,[1,3,15,16,17],[.nl 3 9 .str],λs=>[.own 0 0,.os 1 1 0<|M s.out,s.l,s.n,s.i],λs=>[⟨[s.BD,s.Bh,s.C5,s.BQ,s.C6],28,.cl,X⟩,bV 9 .str s.out],λv b=>⟨B9 Af v 2,AL v 3,AL v 4,AG Af b 0 0,AG .str b 0 1,AG An b 0 2,AG Ag b 0 3,AG Am b 0 4,Ad .str b 1⟩,aA6,λs r=> {s with i:=r.i,out:=r.out},λs=>s,λ_ s=>s,[.exit 0],ZS,YO,uP⟩
abbrev W2:=SJ.run
abbrev atU:=SJ.Au
def ayj:Rq YO aA6:=by
 exact aC
def Ur:aVI:=[]
def tK:SJ.Ok:={}
def tZ:SJ.Pf (aC7):=⟨ale,λs h=>rfl,az8,ayj⟩
def aqb:SA 0 aHF SJ:=s1 tK tZ Ur kN
def asu:Fi ZS YO aC7 atU W2:=AS.fin tK tZ
def asr (s:Nm) (hE:ZS s):(W2 s).out=s.out++s.l.map (·.1):=by
 have hk:=AS.Kn tK tZ (λs=>s.out++(s.l.drop s.i.toNat).map (·.1)) (λs hI=>by
  obtain ⟨h0,h1,h2,h3,h4⟩:=hI;refine AH (λc1=>?_) λc1=>?_
  ·have c1:s.i<s.n:=A8
   rw [AJ (x:=s.i+1)]
   show _++_=_++_
   rw [(apC h0 (show s.i<M s.l by omega)).1]
   simp
  ·rfl) s hE
 obtain ⟨s',hI,q1,q2⟩:=asu s hE
 have q3:=q2
 have hn:(W2 s).n=(M s.l:Y):=hE.2.1
 have hl:(W2 s).l=s.l:=rfl
 exact aL
structure Np where
 l:aVz
 (n i:Y)
 BD:aVF
 Bh:aVz
 C5:aVK
 BQ:aVA
 C6:aVL
 out:aVz
def aHE:=bN f41 1
def aA5 (s:Np):T (Rd Np):=letI a:=gS s.l s.i;.br (an<|s.i<s.n) (.ix s.i (M s.l)<|.rb (M s.out) (M<|[a]) 16<|.re (M s.out+M ([a])) (s.out++([a]))<|.nx {s with i:=AA<|s.i+1,out:=s.out++([a])})<|.rl s.out<|.so (.exit 2) s
def ZR (s:Np):Prop:=s.i=0/\s.n=(M s.l:Y)/\s.n<=1000/\(M s.out:Y)<=10000
def YN (s:Np):Prop:=0<=s.i/\s.i<=s.n/\s.n=(M s.l:Y)/\s.n<=1000/\(M s.out:Y)<=10000+s.i
def uO (s:Np):aVx:=(s.n-s.i).toNat
def aC6 (x:Ex) (s s':Np):Prop:=x=.exit 2/\s'.i=s'.n
def ald:∀s,ZR s->YN s:=by
 exact aI
def azx:Da YN uO aC6 aA5:=by
 intro s hI;obtain ⟨h0,h1,h2,h3,h4⟩:=hI;refine AH (λc1=>?_) λc1=>?_
 ·have c1:s.i<s.n:=A8
  rw [AJ (x:=s.i+1)];exact ⟨⟨A8,A8,h2,h3,A8⟩,by simp only [uO];omega⟩
 ·exact T9
def SI:AS Np:=⟨0,80,[1,3,28,29,30],[],λs=>[.own 0 0,.os 1 1 0<|M s.out,s.l,s.n,s.i],λs=>[⟨[s.BD,s.Bh,s.C5,s.BQ,s.C6],28,.cl,X⟩,bV 9 .str s.out],λv b=>⟨B9 .str v 2,AL v 3,AL v 4,AG Af b 0 0,AG .str b 0 1,AG An b 0 2,AG Ag b 0 3,AG Am b 0 4,Ad .str b 1⟩,aA5,λs r=> {s with i:=r.i,out:=r.out},λs=>s,λ_ s=>s,[.exit 2],ZR,YN,uO⟩
abbrev W5:=SI.run
abbrev atT:=SI.Au
def ayi:Rq YN aA5:=by
 exact aC
def tJ:SI.Ok:={}
def tY:SI.Pf (aC6):=⟨ald,λs h=>rfl,azx,ayi⟩
def aqa:SA 0 aHE SI:=s1 tJ tY Ur kN
def asq:Fi ZR YN aC6 atT W5:=AS.fin tJ tY
def aso (s:Np) (hE:ZR s):(W5 s).out=s.out++s.l:=by
 have hk:=AS.Kn tJ tY (λs=>s.out++(s.l.drop s.i.toNat)) (λs hI=>by
  obtain ⟨h0,h1,h2,h3,h4⟩:=hI;refine AH (λc1=>?_) λc1=>?_
  ·have c1:s.i<s.n:=A8
   rw [AJ (x:=s.i+1)]
   show _++_=_++_
   rw [(aJd h0 (show s.i<M s.l by omega)).1]
   simp
  ·rfl) s hE
 obtain ⟨s',hI,q1,q2⟩:=asq s hE
 have q3:=q2
 have hn:(W5 s).n=(M s.l:Y):=hE.2.1
 have hl:(W5 s).l=s.l:=rfl
 exact aL
structure Ns where
 l:aVK
 (n i:Y)
 BD:aVF
 Bh:aVz
 C5:aVK
 BQ:aVA
 C6:aVL
 out:aVz
def aHD:=bN f41 2
def aA4 (s:Ns):T (Rd Ns):=letI a:=Ob s.l s.i;.br (an<|s.i<s.n) (.ix s.i (M s.l)<|.rb (M s.out) (M<|[a.1]) 16<|.re (M s.out+M ([a.1])) (s.out++([a.1]))<|.nx {s with i:=AA<|s.i+1,out:=s.out++([a.1])})<|.rl s.out<|.so (.exit 4) s
def ZQ (s:Ns):Prop:=s.i=0/\s.n=(M s.l:Y)/\s.n<=1000/\(M s.out:Y)<=10000
def YM (s:Ns):Prop:=0<=s.i/\s.i<=s.n/\s.n=(M s.l:Y)/\s.n<=1000/\(M s.out:Y)<=10000+s.i
def uN (s:Ns):aVx:=(s.n-s.i).toNat
def aC5 (x:Ex) (s s':Ns):Prop:=x=.exit 4/\s'.i=s'.n
def alc:∀s,ZQ s->YM s:=by
 exact aI
def azw:Da YM uN aC5 aA4:=by
 intro s hI;obtain ⟨h0,h1,h2,h3,h4⟩:=hI;refine AH (λc1=>?_) λc1=>?_
 ·have c1:s.i<s.n:=A8
  rw [AJ (x:=s.i+1)];exact ⟨⟨A8,A8,h2,h3,A8⟩,by simp only [uN];omega⟩
 ·exact T9
def SH:AS Ns:=⟨0,80,[1,3,41,42,43],[],λs=>[.own 0 0,.os 1 1 0<|M s.out,s.l,s.n,s.i],λs=>[⟨[s.BD,s.Bh,s.C5,s.BQ,s.C6],28,.cl,X⟩,bV 9 .str s.out],λv b=>⟨B9 An v 2,AL v 3,AL v 4,AG Af b 0 0,AG .str b 0 1,AG An b 0 2,AG Ag b 0 3,AG Am b 0 4,Ad .str b 1⟩,aA4,λs r=> {s with i:=r.i,out:=r.out},λs=>s,λ_ s=>s,[.exit 4],ZQ,YM,uN⟩
abbrev WA:=SH.run
abbrev atS:=SH.Au
def ayh:Rq YM aA4:=by
 exact aC
def tI:SH.Ok:={}
def tX:SH.Pf (aC5):=⟨alc,λs h=>rfl,azw,ayh⟩
def aqZ:SA 0 aHD SH:=s1 tI tX Ur kN
def asn:Fi ZQ YM aC5 atS WA:=AS.fin tI tX
def asl (s:Ns) (hE:ZQ s):(WA s).out=s.out++s.l.map (·.1):=by
 have hk:=AS.Kn tI tX (λs=>s.out++(s.l.drop s.i.toNat).map (·.1)) (λs hI=>by
  obtain ⟨h0,h1,h2,h3,h4⟩:=hI;refine AH (λc1=>?_) λc1=>?_
  ·have c1:s.i<s.n:=A8
   rw [AJ (x:=s.i+1)]
   show _++_=_++_
   rw [(aGe h0 (show s.i<M s.l by omega)).1]
   simp
  ·rfl) s hE
 obtain ⟨s',hI,q1,q2⟩:=asn s hE
 have q3:=q2
 have hn:(WA s).n=(M s.l:Y):=hE.2.1
 have hl:(WA s).l=s.l:=rfl
 exact aL
structure Nu where
 l:aVA
 (n i:Y)
 BD:aVF
 Bh:aVz
 C5:aVK
 BQ:aVA
 C6:aVL
 out:aVz
def aHC:=bN f41 3
def aA3 (s:Nu):T (Rd Nu):=letI a:=AF s.l s.i;.br (an<|s.i<s.n) (.ix s.i (M s.l)<|.rb (M s.out) (M<|[a.1]) 16<|.re (M s.out+M ([a.1])) (s.out++([a.1]))<|.nx {s with i:=AA<|s.i+1,out:=s.out++([a.1])})<|.rl s.out<|.so (.exit 6) s
def ZO (s:Nu):Prop:=s.i=0/\s.n=(M s.l:Y)/\s.n<=1000/\(M s.out:Y)<=10000
def YL (s:Nu):Prop:=0<=s.i/\s.i<=s.n/\s.n=(M s.l:Y)/\s.n<=1000/\(M s.out:Y)<=10000+s.i
def uM (s:Nu):aVx:=(s.n-s.i).toNat
def aC4 (x:Ex) (s s':Nu):Prop:=x=.exit 6/\s'.i=s'.n
def alb:∀s,ZO s->YL s:=by
 exact aI
def azv:Da YL uM aC4 aA3:=by
 intro s hI;obtain ⟨h0,h1,h2,h3,h4⟩:=hI;refine AH (λc1=>?_) λc1=>?_
 ·have c1:s.i<s.n:=A8
  rw [AJ (x:=s.i+1)];exact ⟨⟨A8,A8,h2,h3,A8⟩,by simp only [uM];omega⟩
 ·exact T9
def SF:AS Nu:=⟨0,80,[1,3,54,55,56],[],λs=>[.own 0 0,.os 1 1 0<|M s.out,s.l,s.n,s.i],λs=>[⟨[s.BD,s.Bh,s.C5,s.BQ,s.C6],28,.cl,X⟩,bV 9 .str s.out],λv b=>⟨B9 Ag v 2,AL v 3,AL v 4,AG Af b 0 0,AG .str b 0 1,AG An b 0 2,AG Ag b 0 3,AG Am b 0 4,Ad .str b 1⟩,aA3,λs r=> {s with i:=r.i,out:=r.out},λs=>s,λ_ s=>s,[.exit 6],ZO,YL,uM⟩
abbrev WG:=SF.run
abbrev atQ:=SF.Au
def ayg:Rq YL aA3:=by
 exact aC
def tH:SF.Ok:={}
def tW:SF.Pf (aC4):=⟨alb,λs h=>rfl,azv,ayg⟩
def aqY:SA 0 aHC SF:=s1 tH tW Ur kN
def asj:Fi ZO YL aC4 atQ WG:=AS.fin tH tW
def asi (s:Nu) (hE:ZO s):(WG s).out=s.out++s.l.map (·.1):=by
 have hk:=AS.Kn tH tW (λs=>s.out++(s.l.drop s.i.toNat).map (·.1)) (λs hI=>by
  obtain ⟨h0,h1,h2,h3,h4⟩:=hI;refine AH (λc1=>?_) λc1=>?_
  ·have c1:s.i<s.n:=A8
   rw [AJ (x:=s.i+1)]
   show _++_=_++_
   rw [(apA h0 (show s.i<M s.l by omega)).1]
   simp
  ·rfl) s hE
 obtain ⟨s',hI,q1,q2⟩:=asj s hE
 have q3:=q2
 have hn:(WG s).n=(M s.l:Y):=hE.2.1
 have hl:(WG s).l=s.l:=rfl
 exact aL
structure O0 where
 l:aVL
 (n i:Y)
 out:aVz
def aHB:=bN f41 4
def aA2 (s:O0):T (Rd O0):=letI a:=Oh s.l s.i;.br (an<|s.i<s.n) (.ix s.i (M s.l)<|.rb (M s.out) (M<|[a.1]) 16<|.re (M s.out+M ([a.1])) (s.out++([a.1]))<|.nx {s with i:=AA<|s.i+1,out:=s.out++([a.1])})<|.rl s.out<|.so (.exit 8) s
def ZN (s:O0):Prop:=s.i=0/\s.n=(M s.l:Y)/\s.n<=1000/\(M s.out:Y)<=10000
def YK (s:O0):Prop:=0<=s.i/\s.i<=s.n/\s.n=(M s.l:Y)/\s.n<=1000/\(M s.out:Y)<=10000+s.i
def uL (s:O0):aVx:=(s.n-s.i).toNat
def aC2 (x:Ex) (s s':O0):Prop:=x=.exit 8/\s'.i=s'.n
def ala:∀s,ZN s->YK s:=by
 exact aI
def azu:Da YK uL aC2 aA2:=by
 intro s hI;obtain ⟨h0,h1,h2,h3,h4⟩:=hI;refine AH (λc1=>?_) λc1=>?_
 ·have c1:s.i<s.n:=A8
  rw [AJ (x:=s.i+1)];exact ⟨⟨A8,A8,h2,h3,A8⟩,by simp only [uL];omega⟩
 ·exact T9
def SE:AS O0:=⟨0,80,[3,67,68,69],[],λs=>[.os 0 1 0<|M s.out,s.l,s.n,s.i],λs=>[bV 9 .str s.out],λv b=>⟨B9 Am v 1,AL v 2,AL v 3,Ad .str b 0⟩,aA2,λs r=> {r with l:=s.l,n:=s.n},λs=>s,λ_ s=>s,[.exit 8],ZN,YK,uL⟩
abbrev WR:=SE.run
abbrev auD:=SE.Au
def ayf:Rq YK aA2:=by
 exact aC
def tq:SE.Ok:={}
def tV:SE.Pf (aC2):=⟨ala,λs h=>rfl,azu,ayf⟩
def aqX:SA 0 aHB SE:=s1 tq tV Ur kN
def ash:Fi ZN YK aC2 auD WR:=AS.fin tq tV
def asf (s:O0) (hE:ZN s):(WR s).out=s.out++s.l.map (·.1):=by
 have hk:=AS.Kn tq tV (λs=>s.out++(s.l.drop s.i.toNat).map (·.1)) (λs hI=>by
  obtain ⟨h0,h1,h2,h3,h4⟩:=hI;refine AH (λc1=>?_) λc1=>?_
  ·have c1:s.i<s.n:=A8
   rw [AJ (x:=s.i+1)]
   show _++_=_++_
   rw [(apG h0 (show s.i<M s.l by omega)).1]
   simp
  ·rfl) s hE
 obtain ⟨s',hI,q1,q2⟩:=ash s hE
 have q3:=q2
 have hn:(WR s).n=(M s.l:Y):=hE.2.1
 have hl:(WR s).l=s.l:=rfl
 exact aL
def aK7:aVy->T LV
 | .agg a::r=>s5 a λcs os ks gs bs=>(match r with
  | []=> .req ((M cs:Y)<=1000/\(M os:Y)<=1000/\(M ks:Y)<=1000/\(M gs:Y)<=1000/\(M bs:Y)<=1000) (.ok<|.xl .str<|Lw cs os ks gs bs)
  |_=> .no)
 |_=> .no
def avt:=vm (S:=aK7) func41 Ur kN (L:=(λi=>if i=3 then SJ.lp else if i=8 then SI.lp else if i=13 then SH.lp else if i=18 then SF.lp else if i=23 then SE.lp else Al i)) (λb hb=>by
 rw [show BE _=[aHF,aHE,aHD,aHC,aHB] by kernel_rfl] at hb
 simp only [BB,Bx,By] at hb;rcases hb with rfl|rfl|rfl|rfl|rfl
 ·exact aqb
 ·exact aqa
 ·exact aqZ
 ·exact aqY
 ·exact aqX) (λargs lv h=>by
 unfold aK7 at h;split at h
 case h_2=>cases h
 replace h:=IX h
 obtain ⟨cs,os,ks,gs,bs,rfl,h⟩:=h;split at h
 ·refine At (letI b:=(W2 (⟨cs,(M cs:Y),0,cs,os,ks,gs,bs,([]:aVz)⟩:Nm));letI d:=(W5 (⟨os,(M os:Y),0,cs,os,ks,gs,bs,b.out⟩:Np));letI a:=(WA (⟨ks,(M ks:Y),0,cs,os,ks,gs,bs,d.out⟩:Ns));letI c:=(WG (⟨gs,(M gs:Y),0,cs,os,ks,gs,bs,a.out⟩:Nu));letI e:=(WR (⟨bs,(M bs:Y),0,c.out⟩:O0));.r0 ByteArray<|.req (SJ.q (⟨cs,(M cs:Y),0,cs,os,ks,gs,bs,([]:aVz)⟩:Nm))<|.rl b.out<|.req (SI.q (⟨os,(M os:Y),0,cs,os,ks,gs,bs,b.out⟩:Np))<|.rl d.out<|.req (SH.q (⟨ks,(M ks:Y),0,cs,os,ks,gs,bs,d.out⟩:Ns))<|.rl a.out<|.req (SF.q (⟨gs,(M gs:Y),0,cs,os,ks,gs,bs,a.out⟩:Nu))<|.rl c.out<|.req (SE.q (⟨bs,(M bs:Y),0,c.out⟩:O0))<|.rz e.out<|.ok<|.xl .str<|(e.out.drop 0).take<|M e.out) ?_
  obtain ⟨⟨hc,ho,hk,hg,hb⟩,rfl⟩:=h
  have hE0:ZS ⟨cs,(M cs:Y),0,cs,os,ks,gs,bs,([]:aVz)⟩:=⟨rfl,rfl,hc,by simp only;decide⟩
  have o0:=asr _ hE0
  refine ⟨A9,⟨hE0,rfl,rfl⟩,?_⟩;generalize (W2 ⟨cs,(M cs:Y),0,cs,os,ks,gs,bs,([]:aVz)⟩).out=r0 at*
  have o0:r0=([]:aVz)++cs.map (·.1):=o0
  have l0:(M r0:Y)<=1000:=by rw [o0];simp only [BI,GG,Bv];omega
  have hE1:ZR ⟨os,(M os:Y),0,cs,os,ks,gs,bs,r0⟩:=⟨rfl,rfl,ho,Ac⟩
  have o1:=aso _ hE1
  refine ⟨A9,⟨hE1,rfl,rfl⟩,?_⟩;generalize (W5 ⟨os,(M os:Y),0,cs,os,ks,gs,bs,r0⟩).out=r1 at*
  have o1:r1=r0++os:=o1
  have l1:(M r1:Y)<=2000:=by rw [o1];simp only [BI,GG,Bv];omega
  have hE2:ZQ ⟨ks,(M ks:Y),0,cs,os,ks,gs,bs,r1⟩:=⟨rfl,rfl,hk,Ac⟩
  have o2:=asl _ hE2
  refine ⟨A9,⟨hE2,rfl,rfl⟩,?_⟩;generalize (WA ⟨ks,(M ks:Y),0,cs,os,ks,gs,bs,r1⟩).out=r2 at*
  have o2:r2=r1++ks.map (·.1):=o2
  have l2:(M r2:Y)<=3000:=A8
  have hE3:ZO ⟨gs,(M gs:Y),0,cs,os,ks,gs,bs,r2⟩:=⟨rfl,rfl,hg,Ac⟩
  have o3:=asi _ hE3
  refine ⟨A9,⟨hE3,rfl,rfl⟩,?_⟩;generalize (WG ⟨gs,(M gs:Y),0,cs,os,ks,gs,bs,r2⟩).out=r3 at*
  have o3:r3=r2++gs.map (·.1):=o3
  have l3:(M r3:Y)<=4000:=A8
  have hE4:ZN ⟨bs,(M bs:Y),0,r3⟩:=⟨rfl,rfl,hb,Ac⟩
  have o4:=asf _ hE4
  refine ⟨A9,⟨hE4,rfl,rfl⟩,?_⟩;generalize (WR ⟨bs,(M bs:Y),0,r3⟩).out=r4 at*
  have o4:r4=r3++bs.map (·.1):=o4
  refine ⟨A0,?_⟩
  show LV.xl _ _=_
  rw [CX,Di A0,o4,o3,o2,o1,o0,ES];rfl
 ·cases h)
structure Mr where
 r:aVH
 l:aVF
 (n i:Y)
 BD:aVF
 Bh:aVz
 C5:aVK
 BQ:aVA
 C6:aVL
def aGT:=bN f43 0
def aAI (s:Mr):T (Rd Mr):=
 .br (an<|s.i<s.n) (.ix s.i (M s.l)<|.req (0<=s.i)<|.br (!(I9 s.i<|Ae s.l s.i)) (.so (.ret) {s with r:=X})<|.nx {s with i:=AA<|s.i+1}) (.so (.exit 0) s)
def UA (s:Mr) (j:Y):aVH:=I9 j<|Ae s.l j
def aCY (s:Mr):Prop:=s.i=0/\0<=s.n/\s.n<=1000/\s.n=(M s.l:Y)
def Yp (s:Mr):Prop:=0<=s.i/\s.i<=s.n/\s.n<=1000/\(s.n=(M s.l:Y))/\∀j:aVx,(j:Y)<s.i->UA s j=U
def uu (s:Mr):aVx:=(s.n-s.i).toNat
def aCK (x:Ex) (s s':Mr):Prop:=(x=.exit 0/\∀j:aVx,(j:Y)<s'.n->UA s' j=U)\/(x=.ret/\s'.r=X/\∃j:aVx,(j:Y)<s'.n/\UA s' j=X)
def aje:∀s,aCY s->Yp s:=by
 exact KK
def avf:Da Yp uu aCK aAI:=by
 intro s hI;obtain ⟨h0,h1,h2,h3,h4⟩:=hI;refine AH (λc1=>AH (λc2=>?_) λc2=>?_) λc1=>?_
 ·have c1:s.i<s.n:=AY
  refine .inr ⟨rfl,rfl,s.i.toNat,A8,?_⟩;rw [CO A0]
  have hg:UA s s.i=false:=aNs
  exact hg
 ·have c1:s.i<s.n:=AY
  have hg:UA s s.i=true:=aNs
  rw [AJ (x:=s.i+1)];refine ⟨⟨A8,A8,h2,h3,λj hj=>?_⟩,by simp only [uu];omega⟩
  exact Lj
 ·exact T6
def S2:AS Mr:=⟨0,95,[1,2,13,14,15],[],λs=>[.own 0 0,s.r,s.l,s.n,s.i],λs=>[⟨[s.BD,s.Bh,s.C5,s.BQ,s.C6],28,.cl,X⟩],λv b=>⟨EP v 1,B9 Af v 2,AL v 3,AL v 4,AG Af b 0 0,AG .str b 0 1,AG An b 0 2,AG Ag b 0 3,AG Am b 0 4⟩,aAI,λs r=> {s with r:=r.r,i:=r.i},λs=>s,λ_ s=>s,[.ret,.exit 0],aCY,Yp,uu⟩
abbrev aco:=S2.run
abbrev aIp:=S2.Au
def axK:Rq Yp aAI:=by
 exact yB
def Xw:aVI:=[avm,sF,avn]
def aRu:S2.Ok:={}
def aQJ:S2.Pf (aCK):=⟨aje,λs h=>rfl,avf,axK⟩
def aqp:SA 0 aGT S2:=s1 aRu aQJ Xw kN
def apw:Fi aCY Yp aCK aIp aco:=AS.fin aRu aQJ
structure Mt where
 r:aVH
 l:aVK
 (n i:Y)
 BD:aVF
 Bh:aVz
 C5:aVK
 BQ:aVA
 C6:aVL
 cards:aVw
def aGS:=bN f43 1
def iw (s:Mt):T (Rd Mt):=letI a:=Ob s.l s.i;.br (an<|s.i<s.n) (.ix s.i (M s.l)<|.br ((!(inB a.2.1 (0:Y)<|AA<|(M s.Bh:Y)-1)) ||((!(inB a.2.2.1 (1:Y) (9:Y))) ||((!(inB a.2.2.2 (1:Y) (1000000:Y))) ||(List.contains s.cards a.2.2.2)))) (.so (.ret) {s with r:=X})<|.req (List.contains s.cards a.2.2.2=X)<|.nx {s with i:=AA<|s.i+1,cards:=s.cards++[a.2.2.2]})<|.so (.exit 2) s
def U9 (s:Mt) (j:Y):aVH:=koV (M s.Bh) (Ob s.l j)&&!(((s.l.take j.toNat).map (·.2.2.2)).contains (Ob s.l j).2.2.2)
def aCX (s:Mt):Prop:=s.i=0/\s.cards=[]/\s.n=(M s.l:Y)/\s.n<=1000/\(M s.Bh:Y)<=1000
def Yo (s:Mt):Prop:=0<=s.i/\s.i<=s.n/\s.n=(M s.l:Y)/\s.n<=1000/\((M s.Bh:Y)<=1000)/\s.cards=(s.l.take s.i.toNat).map (·.2.2.2)/\∀j:aVx,(j:Y)<s.i->U9 s j=U
def ur (s:Mt):aVx:=(s.n-s.i).toNat
def aCJ (x:Ex) (s s':Mt):Prop:=(x=.exit 2/\∀j:aVx,(j:Y)<s'.n->U9 s' j=U)\/(x=.ret/\s'.r=X/\∃j:aVx,(j:Y)<s'.n/\U9 s' j=X)
def ajd:∀s,aCX s->Yo s:=by
 exact aMl
def ave:Da Yo ur aCJ iw:=by
 intro s hI;unfold iw;obtain ⟨h0,h1,h2,h3,h4,h5,h6⟩:=hI;refine AH (λc1=>AH (λc2=>?_) λc2=>?_) λc1=>?_
 ·have c1:s.i<s.n:=AY
  refine .inr ⟨rfl,rfl,s.i.toNat,Ac,?_⟩;rw [CO h0]
  have hg:U9 s s.i=false:=by
   exact aML
  exact hg
 ·have c1:s.i<s.n:=AY
  have hg:U9 s s.i=true:=by
   exact aML
  rw [AJ (x:=s.i+1)];refine ⟨⟨Ac,Ac,h2,h3,h4,?_,λj hj=>?_⟩,by simp only [ur];omega⟩
  ·simp only
   rw [(aGe h0 (show s.i<M s.l by omega)).2,h5]
   try rw [KH]
   try rfl
  ·exact aO2
 ·exact aNa
def S1:AS Mt:=⟨0,95,[1,2,5,27,28,29],[],λs=>[.own 0 0,s.r,.om 1,s.l,s.n,s.i],λs=>[⟨[s.BD,s.Bh,s.C5,s.BQ,s.C6],28,.cl,X⟩,⟨[],181,.st A7 s.cards,X⟩],λv b=>⟨EP v 1,B9 An v 3,AL v 4,AL v 5,AG Af b 0 0,AG .str b 0 1,AG An b 0 2,AG Ag b 0 3,AG Am b 0 4,gSe A7<|Cc b 1⟩,iw,λs r=> {s with r:=r.r,i:=r.i,cards:=r.cards},λs=>s,λ_ s=>s,[.ret,.exit 2],aCX,Yo,ur⟩
abbrev acp:=S1.run
abbrev aIo:=S1.Au
def axJ:Rq Yo iw:=by
 intro s hI;refine ⟨λc1=>⟨?_,λ_=>trivial,λc2=>⟨?_,ak⟩⟩,λ_=>trivial⟩
 all_goals ((obtain ⟨h0,h1,h2,h3,h4,h5,h6⟩:=hI;first|(simp at c1;omega) |(simp only [Ge] at c2;exact c2.2.2.2)))
def aRt:S1.Ok:={}
def aQI:S1.Pf (aCJ):=⟨ajd,λs h=>rfl,ave,axJ⟩
def aqo:SA 0 aGS S1:=s1 aRt aQI Xw kN
def apv:Fi aCX Yo aCJ aIo acp:=AS.fin aRt aQI
structure Mx where
 r:aVH
 l:aVA
 (n i:Y)
 BD:aVF
 Bh:aVz
 C5:aVK
 BQ:aVA
 C6:aVL
def aGR:=bN f43 2
def aAH (s:Mx):T (Rd Mx):=
 .br (an<|s.i<s.n) (.ix s.i (M s.l)<|.req ((M s.BD:Y)<=1000/\(M s.Bh:Y)<=1000)<|.br (!(G4 (M s.BD) (M s.Bh)<|AF s.l s.i)) (.so (.ret) {s with r:=X})<|.nx {s with i:=AA<|s.i+1}) (.so (.exit 4) s)
def U8 (s:Mx) (j:Y):aVH:=G4 (M s.BD) (M s.Bh)<|AF s.l j
def aCW (s:Mx):Prop:=s.i=0/\0<=s.n/\s.n<=1000/\s.n=(M s.l:Y)/\(M s.BD:Y)<=1000/\(M s.Bh:Y)<=1000
def Yn (s:Mx):Prop:=0<=s.i/\s.i<=s.n/\s.n<=1000/\(s.n=(M s.l:Y)/\(M s.BD:Y)<=1000/\(M s.Bh:Y)<=1000)/\∀j:aVx,(j:Y)<s.i->U8 s j=U
def uq (s:Mx):aVx:=(s.n-s.i).toNat
def aCI (x:Ex) (s s':Mx):Prop:=(x=.exit 4/\∀j:aVx,(j:Y)<s'.n->U8 s' j=U)\/(x=.ret/\s'.r=X/\∃j:aVx,(j:Y)<s'.n/\U8 s' j=X)
def ail:∀s,aCW s->Yn s:=by
 exact KK
def awC:Da Yn uq aCI aAH:=by
 intro s hI;obtain ⟨h0,h1,h2,h3,h4⟩:=hI;refine AH (λc1=>AH (λc2=>?_) λc2=>?_) λc1=>?_
 ·have c1:s.i<s.n:=AY
  refine .inr ⟨rfl,rfl,s.i.toNat,Ac,?_⟩
  have hg:U8 s s.i=false:=aNr
  exact hg
 ·have c1:s.i<s.n:=AY
  have hg:U8 s s.i=true:=aNr
  rw [AJ (x:=s.i+1)];refine ⟨⟨A8,A8,h2,h3,λj hj=>?_⟩,by simp only [uq];omega⟩
  exact Lj
 ·exact T6
def S0:AS Mx:=⟨0,95,[1,2,67,68,69],[],λs=>[.own 0 0,s.r,s.l,s.n,s.i],λs=>[⟨[s.BD,s.Bh,s.C5,s.BQ,s.C6],28,.cl,X⟩],λv b=>⟨EP v 1,B9 Ag v 2,AL v 3,AL v 4,AG Af b 0 0,AG .str b 0 1,AG An b 0 2,AG Ag b 0 3,AG Am b 0 4⟩,aAH,λs r=> {s with r:=r.r,i:=r.i},λs=>s,λ_ s=>s,[.ret,.exit 4],aCW,Yn,uq⟩
abbrev adG:=S0.run
abbrev aIn:=S0.Au
def axI:Rq Yn aAH:=by
 intro s hI;refine ⟨λc1=>⟨?_,?_,λ_=>trivial,λ_=>trivial⟩,λ_=>trivial⟩
 all_goals ((obtain ⟨h0,h1,h2,h3,h4⟩:=hI;simp at c1;first|omega|exact h3.2))
def aRs:S0.Ok:={}
def aQH:S0.Pf (aCI):=⟨ail,λs h=>rfl,awC,axI⟩
def aqn:SA 0 aGR S0:=s1 aRs aQH Xw kN
def apu:Fi aCW Yn aCI aIn adG:=AS.fin aRs aQH
structure NC where
 r:aVH
 l:aVL
 (n i:Y)
 BD:aVF
 Bh:aVz
 C5:aVK
 BQ:aVA
 C6:aVL
def aGQ:=bN f43 3
def aAF (s:NC):T (Rd NC):=
 .br (an<|s.i<s.n) (.ix s.i (M s.l)<|.br (!(inB (Oh s.l s.i).2 (0:Y)<|AA<|(M s.BQ:Y)-1)) (.so (.ret) {s with r:=X})<|.nx {s with i:=AA<|s.i+1}) (.so (.exit 6) s)
def U7 (s:NC) (j:Y):aVH:=inB (Oh s.l j).2 0<|AA<|(M s.BQ:Y)-1
def aCV (s:NC):Prop:=s.i=0/\0<=s.n/\s.n<=1000/\s.n=(M s.l:Y)
def Ym (s:NC):Prop:=0<=s.i/\s.i<=s.n/\s.n<=1000/\(s.n=(M s.l:Y))/\∀j:aVx,(j:Y)<s.i->U7 s j=U
def uo (s:NC):aVx:=(s.n-s.i).toNat
def aCH (x:Ex) (s s':NC):Prop:=(x=.exit 6/\∀j:aVx,(j:Y)<s'.n->U7 s' j=U)\/(x=.ret/\s'.r=X/\∃j:aVx,(j:Y)<s'.n/\U7 s' j=X)
def aik:∀s,aCV s->Ym s:=by
 exact KK
def aw9:Da Ym uo aCH aAF:=by
 intro s hI;obtain ⟨h0,h1,h2,h3,h4⟩:=hI;refine AH (λc1=>AH (λc2=>?_) λc2=>?_) λc1=>?_
 ·have c1:s.i<s.n:=AY
  refine .inr ⟨rfl,rfl,s.i.toNat,A8,?_⟩
  have hg:U7 s s.i=false:=aNq
  exact hg
 ·have c1:s.i<s.n:=AY
  have hg:U7 s s.i=true:=aNq
  rw [AJ (x:=s.i+1)];refine ⟨⟨A8,A8,h2,h3,λj hj=>?_⟩,by simp only [uo];omega⟩
  exact Lj
 ·exact T6
def Rg:AS NC:=⟨0,95,[1,2,79,80,81],[],λs=>[.own 0 0,s.r,s.l,s.n,s.i],λs=>[⟨[s.BD,s.Bh,s.C5,s.BQ,s.C6],28,.cl,X⟩],λv b=>⟨EP v 1,B9 Am v 2,AL v 3,AL v 4,AG Af b 0 0,AG .str b 0 1,AG An b 0 2,AG Ag b 0 3,AG Am b 0 4⟩,aAF,λs r=> {s with r:=r.r,i:=r.i},λs=>s,λ_ s=>s,[.ret,.exit 6],aCV,Ym,uo⟩
abbrev aIR:=Rg.run
abbrev aJi:=Rg.Au
def axH:Rq Ym aAF:=by
 exact T3
def aRr:Rg.Ok:={}
def aQG:Rg.Pf (aCH):=⟨aik,λs h=>rfl,aw9,axH⟩
def aqm:SA 0 aGQ Rg:=s1 aRr aQG Xw kN
def apt:Fi aCV Ym aCH aJi aIR:=AS.fin aRr aQG
def aKY:aVy->T LV
 | .agg a::r=>s5 a λcs os ks gs bs=>(match r with
  | []=> .req ((M cs:Y)<=1000/\(M os:Y)<=1000/\(M ks:Y)<=1000/\(M gs:Y)<=1000/\(M bs:Y)<=1000) (.ok<|MO cs os ks gs bs)
  |_=> .no)
 |_=> .no
def avl:=vm (S:=aKY) func43 Xw kN (L:=(λi=>if i=2 then S2.lp else if i=9 then S1.lp else if i=16 then S0.lp else if i=22 then Rg.lp else Al i)) (λb hb=>by
 rw [show BE _=[aGT,aGS,aGR,aGQ] by kernel_rfl] at hb
 simp only [BB,Bx,By] at hb;rcases hb with rfl|rfl|rfl|rfl
 ·exact aqp
 ·exact aqo
 ·exact aqn
 ·exact aqm) (λargs lv h=>by
 unfold aKY at h;split at h
 case h_2=>cases h
 replace h:=IX h
 obtain ⟨cs,os,ks,gs,bs,rfl,h⟩:=h;split at h
 ·refine At (letI g:=(M cs:Y);letI k:=(M ks:Y);letI l:=(M gs:Y);letI m:=(M bs:Y);letI c:=(aco (⟨X,cs,g,0,cs,os,ks,gs,bs⟩:Mr));letI a:=(acp (⟨c.r,ks,k,0,cs,os,ks,gs,bs,([]:aVw)⟩:Mt));letI e:=(adG (⟨a.r,gs,l,0,cs,os,ks,gs,bs⟩:Mx));.req (S2.q (⟨X,cs,g,0,cs,os,ks,gs,bs⟩:Mr))<|.br (Bs (aIp (⟨X,cs,g,0,cs,os,ks,gs,bs⟩:Mr))<|.ret) (.ok c.r)<|.req (S1.q (⟨c.r,ks,k,0,cs,os,ks,gs,bs,([]:aVw)⟩:Mt))<|.br (Bs (aIo (⟨c.r,ks,k,0,cs,os,ks,gs,bs,([]:aVw)⟩:Mt))<|.ret) (.ok a.r)<|.req (S0.q (⟨a.r,gs,l,0,cs,os,ks,gs,bs⟩:Mx))<|.br (Bs (aIn (⟨a.r,gs,l,0,cs,os,ks,gs,bs⟩:Mx))<|.ret) (.ok e.r)<|.req (Rg.q (⟨e.r,bs,m,0,cs,os,ks,gs,bs⟩:NC))<|.br (Bs (aJi (⟨e.r,bs,m,0,cs,os,ks,gs,bs⟩:NC))<|.ret) (.ok (aIR (⟨e.r,bs,m,0,cs,os,ks,gs,bs⟩:NC)).r)<|.ok U) ?_
  obtain ⟨⟨hc,ho,hk,hg,hb⟩,rfl⟩:=h;refine L7 ⟨⟨rfl,Ac,hc,rfl⟩,rfl,rfl⟩ λhE0=>?_
  obtain ⟨s',_,hq⟩:=apw _ hE0.1;rcases hq with ⟨q1,q2⟩ |⟨q1,q2,j,q3,q4⟩
  rotate_left
  ·rw [q1,q2]
   refine ⟨λ_=>B2 (λz=>LV.v<|.bool z) ?_,λh=>Ar⟩
   unfold MO;rw [PA (f:=λj=>I9 j<|Ae cs j) j q3 q4]
   rfl
  rw [q1];refine ⟨λh=>Ar,λ_=>?_⟩
  have g0:DS (M cs) (λj=>I9 j<|Ae cs j)=true:=Dl.2 q2
  refine L7 ⟨⟨rfl,rfl,rfl,hk,ho⟩,rfl,rfl⟩ λhE1=>?_
  obtain ⟨s',_,hq⟩:=apv _ hE1.1;rcases hq with ⟨q1,q2⟩ |⟨q1,q2,j,q3,q4⟩
  rotate_left
  ·rw [q1,q2]
   refine ⟨λ_=>B2 (λz=>LV.v<|.bool z) ?_,λh=>Ar⟩
   unfold MO
   have hn:(ks.all (koV<|M os)&&once (ks.map (·.2.2.2)))=false:=by
    rw [IQ];intro hx
    have:=(WW (d:=(emp,0,0,0))).2 hx j q3
    exact Bool.noConfusion<|this.symm.trans q4
   rw [g0,EU,<-VY,hn];rfl
  rw [q1];refine ⟨λh=>Ar,λ_=>?_⟩
  have g1:(ks.all (koV<|M os)&&once (ks.map (·.2.2.2)))=true:=(WW (d:=(emp,0,0,0))).1 q2
  refine L7 ⟨⟨rfl,Ac,hg,rfl,hc,ho⟩,rfl,rfl⟩ λhE2=>?_
  obtain ⟨s',_,hq⟩:=apu _ hE2.1;rcases hq with ⟨q1,q2⟩ |⟨q1,q2,j,q3,q4⟩
  rotate_left
  ·rw [q1,q2]
   refine ⟨λ_=>B2 (λz=>LV.v<|.bool z) ?_,λh=>Ar⟩
   unfold MO
   have hn:gs.all (G4 (M cs)<|M os)=false:=by
    rw [IQ];intro hx
    have:=(Qp (d:=(emp,0,0,0,0,0,0,0))).2 hx j q3
    exact Bool.noConfusion<|this.symm.trans q4
   rw [g0,EU,<-VY,g1,hn];rfl
  rw [q1];refine ⟨λh=>Ar,λ_=>?_⟩
  have g2:gs.all (G4 (M cs)<|M os)=true:=(Qp (d:=(emp,0,0,0,0,0,0,0))).1 q2
  have hw:=AJ (x:=(M gs:Y)-1)
  refine L7 ⟨⟨rfl,AI,hb,rfl⟩,rfl,rfl⟩ λhE3=>?_
  obtain ⟨s',_,hq⟩:=apt _ hE3.1;rcases hq with ⟨q1,q2⟩ |⟨q1,q2,j,q3,q4⟩
  rotate_left
  ·rw [q1,q2]
   refine ⟨λ_=>B2 (λz=>LV.v<|.bool z) ?_,λh=>Ar⟩
   unfold MO
   have hn:bs.all (λb=>inB b.2 0<|(M gs:Y)-1)=false:=by
    rw [IQ];intro hx
    have:=(Qp (d:=(emp,0))).2 hx j q3
    have q4:inB (Oh bs j).2 0 (AA<|(M gs:Y)-1)=false:=q4
    rw [hw] at q4;exact Bool.noConfusion<|this.symm.trans q4
   rw [g0,EU,<-VY,g1,g2,hn];rfl
  rw [q1];refine ⟨λh=>Ar,λ_=>?_⟩
  have g3:bs.all (λb=>inB b.2 0<|(M gs:Y)-1)=true:=(Qp (d:=(emp,0))).1 (λj hj=>by
   have:inB (Oh bs j).2 0 (AA<|(M gs:Y)-1)=true:=q2 j hj
   rw [hw] at this;exact this)
  refine B2 (λz=>LV.v<|.bool z) ?_
  unfold MO;rw [g0,EU,<-VY,g1,g2,g3];rfl
 ·cases h)
structure MH where
 r:aVH
 l:aVz
 (n i:Y)
 BD:aVF
 Bh:aVz
 C5:aVK
 BQ:aVA
 C6:aVL
 seen:aVz
def aKL:=bN f21 0
def ng (s:MH):T (Rd MH):=letI a:=gS s.l s.i;.br (an<|s.i<s.n) (.ix s.i (M s.l)<|.br ((!(nameB a)) ||(List.contains s.seen a)) (.so (.ret) {s with r:=X})<|.req (List.contains s.seen a=X)<|.nx {s with i:=AA<|s.i+1,seen:=s.seen++[a]})<|.so (.exit 0) s
def Sc (s:MH) (j:Y):aVH:=nameB (gS s.l j)&&!(((s.l.take j.toNat).map id).contains<|gS s.l j)
def xA (s:MH):Prop:=s.i=0/\s.seen=[]/\s.n=(M s.l:Y)/\s.n<=1000/\True
def cA (s:MH):Prop:=0<=s.i/\s.i<=s.n/\s.n=(M s.l:Y)/\s.n<=1000/\(True)/\s.seen=(s.l.take s.i.toNat).map id/\∀j:aVx,(j:Y)<s.i->Sc s j=U
def aB6 (s:MH):aVx:=(s.n-s.i).toNat
def xF (x:Ex) (s s':MH):Prop:=(x=.exit 0/\∀j:aVx,(j:Y)<s'.n->Sc s' j=U)\/(x=.ret/\s'.r=X/\∃j:aVx,(j:Y)<s'.n/\Sc s' j=X)
def ann:∀s,xA s->cA s:=by
 exact aMl
def ajZ:Da cA aB6 xF ng:=by
 intro s hI;unfold ng;obtain ⟨h0,h1,h2,h3,h4,h5,h6⟩:=hI;refine AH (λc1=>AH (λc2=>?_) λc2=>?_) λc1=>?_
 ·have c1:s.i<s.n:=AY
  refine .inr ⟨rfl,rfl,s.i.toNat,Ac,?_⟩;rw [CO h0]
  have hg:Sc s s.i=false:=by
   unfold Sc
   grind
  exact hg
 ·have c1:s.i<s.n:=AY
  have hg:Sc s s.i=true:=by
   unfold Sc
   grind
  rw [AJ (x:=s.i+1)];refine ⟨⟨Ac,Ac,h2,h3,h4,?_,λj hj=>?_⟩,by simp only [aB6];omega⟩
  ·simp only
   rw [(aJd h0 (show s.i<M s.l by omega)).2,h5]
   try rw [KH]
   try rfl
  ·exact aO2
 ·exact aNa
def Sj:AS MH:=⟨0,61,[1,2,3,42,43,44],[],λs=>[.own 0 0,s.r,.om 1,s.l,s.n,s.i],λs=>[⟨[s.BD,s.Bh,s.C5,s.BQ,s.C6],28,.cl,X⟩,⟨[],124,.st .str s.seen,X⟩],λv b=>⟨EP v 1,B9 .str v 3,AL v 4,AL v 5,AG Af b 0 0,AG .str b 0 1,AG An b 0 2,AG Ag b 0 3,AG Am b 0 4,gSe .str<|Cc b 1⟩,ng,λs r=> {s with r:=r.r,i:=r.i,seen:=r.seen},λs=>s,λ_ s=>s,[.ret,.exit 0],xA,cA,aB6⟩
abbrev aQR:=Sj.run
abbrev aTQ:=Sj.Au
def akk:Rq cA ng:=by
 intro s hI;refine ⟨λc1=>⟨?_,λ_=>trivial,λc2=>⟨?_,ak⟩⟩,λ_=>trivial⟩
 all_goals ((obtain ⟨h0,h1,h2,h3,h4,h5,h6⟩:=hI;first|(simp at c1;omega) |(simp only [Ge] at c2;exact c2.2)))
def ac9:aVI:=[avt,avy,avl]
def aVt:Sj.Ok:={}
def aaE:Sj.Pf (xF):=⟨ann,λs h=>rfl,ajZ,akk⟩
def axf:SA 0 aKL Sj:=s1 aVt aaE ac9 kN
def awd:Fi xA cA xF aTQ aQR:=AS.fin aVt aaE
def aKp:aVy->T LV
 | .agg a::r=>s5 a λcs os ks gs bs=>(match r with
  | []=> .ok (B6 cs os ks gs bs)
  |_=> .no)
 |_=> .no
def Mu:=vm (S:=aKp) func21 ac9 kN (L:=(λi=>if i=5 then Sj.lp else Al i)) (λb hb=>by
 rw [show BE _=[aKL] by kernel_rfl] at hb
 simp only [BB,Bx,By] at hb;subst hb;exact axf) (λargs lv h=>by
 unfold aKp at h;split at h
 case h_2=>cases h
 replace h:=IX h
 obtain ⟨cs,os,ks,gs,bs,rfl,h⟩:=h;split at h
 ·refine At (letI b:=Lw cs os ks gs bs;letI e:=(M b:Y);letI f:=(M cs:Y);letI a:=(f<=1000/\(M os:Y)<=1000/\(M ks:Y)<=1000/\(M gs:Y)<=1000/\(M bs:Y)<=1000);.br ((an<|f<1) ||((an<|f>16) ||((an<|(M os:Y)>8) ||((an<|(M ks:Y)>32) ||((an<|(M gs:Y)>16) ||(an<|(M bs:Y)>24)))))) (.ok X)<|.req a<|.req (Sj.q (⟨X,b,e,0,cs,os,ks,gs,bs,([]:aVz)⟩:MH))<|.br (Bs (aTQ (⟨X,b,e,0,cs,os,ks,gs,bs,([]:aVz)⟩:MH))<|.ret) (.ok (aQR (⟨X,b,e,0,cs,os,ks,gs,bs,([]:aVz)⟩:MH)).r)<|.req a<|.ok<|MO cs os ks gs bs) ?_
  obtain rfl:=h;refine ⟨λc=>B2 (λz=>LV.v<|.bool z) ?_,λc=>?_⟩
  ·rw [T4,IQ]
   intro hx;unfold B6 at hx;rw [AX,Ab] at hx;simp only [Cf,Ab] at c;omega
  have hd:1<=M cs/\M cs<=16/\M os<=8/\M ks<=32/\M gs<=16/\M bs<=24:=by
   simp only [Ge,DI] at c;omega
  have hs:B6 cs os ks gs bs=(((Lw cs os ks gs bs).all nameB&&once (Lw cs os ks gs bs))&&MO cs os ks gs bs):=by
   unfold B6
   grind
  have hl:(M (Lw cs os ks gs bs):Y)<=1000:=by
   unfold Lw;simp only [BI,GG];omega
  rw [hs]
  have hr:(M cs:Y)<=1000/\(M os:Y)<=1000/\(M ks:Y)<=1000/\(M gs:Y)<=1000/\(M bs:Y)<=1000:=A0
  refine ⟨hr,?_⟩;generalize Lw cs os ks gs bs=l at*;refine L7 ⟨⟨rfl,rfl,rfl,hl,ak⟩,rfl,rfl⟩ λhE=>?_
  obtain ⟨s',_,hq⟩:=awd _ hE.1;rcases hq with ⟨q1,q2⟩ |⟨q1,q2,j,q3,q4⟩
  ·rw [q1]
   have hk:=(WW (d:=emp) (p:=nameB) (k:=id)).1 q2
   rw [Vg] at hk;refine ⟨λh=>Ar,λ_=>⟨hr,?_⟩⟩
   rw [hk,EU];rfl
  ·rw [q1,q2]
   refine ⟨λ_=>B2 (λz=>LV.v<|.bool z) ?_,λh=>Ar⟩
   have hn:(l.all nameB&&once l)=false:=by
    rw [IQ];intro hx
    have:=(WW (d:=emp) (p:=nameB) (k:=id)).2 (by rw [Vg];exact hx) j q3
    exact Bool.noConfusion<|this.symm.trans q4
   rw [hn];rfl
 ·cases h)
def aK4:aVy->T LV
 | .agg a::r=>s5 a λcs os ks gs bs=>(match r with
  | [.v (ag J c)]=> .ok (.fn 75 [xQ 1 [c],xQ 5 [cs,os,ks,gs,bs]])
  |_=> .no)
 |_=> .no
def RI:aVI:=[]
def aar:Ay:=kI RI<|l0 RI
def fz:=vo (S:=aK4) func36 RI aar (λargs lv h=>by
 unfold aK4 at h;split at h
 case h_2=>cases h
 replace h:=IX h
 obtain ⟨cs,os,ks,gs,bs,rfl,h⟩:=h;split at h
 ·rename_i c
  refine At (.ok<|.fn 75 [(xQ 1 [c]),(xQ 5 [cs,os,ks,gs,bs])]) ?_;exact h
 ·cases h)
def aAw:Array Tmp×Code×Code:=((J5<|f217.body.getD .skip)[0]?).getD (#[],.skip,.skip)
def akI:aWt:=aAw.1
def ak3:aV7:=aAw.2.1
def akP:aV7:=aAw.2.2
structure NG where
 cs:aVF
 os:aVz
 ks:aVK
 gs:aVA
 bs:aVL
 (c b0:Y)
 b1:aVH
 st:LS
def iM (s:NG):T (Rd NG):=
 .br (an<|s.c>=0) (.br (s.c==s.b0) (.so (.ret) {s with b1:=U,st:=.done<|.ret})<|.ix s.c (M s.cs)<|.nx {s with c:=(Ae s.cs s.c).2.1}) (.so (.exit 0) s)
def aCM (s:NG):Prop:=s.st=.ready/\Fj s.cs=U/\s.c<(M s.cs:Y)/\s.b1=X
def kX (s:NG):Prop:=s.st=.ready/\Fj s.cs=U/\s.c<(M s.cs:Y)
def vC (s:NG):aVx:=(s.c+1).toNat
def aby (x:Ex) (s s':NG):Prop:=(x=.ret/\s'.b1=U/\Fh s.cs s.b0 s.c=U)\/(x=.exit 0/\Fh s.cs s.b0 s.c=X)
def ak7:∀s,aCM s->kX s:=by
 rintro s ⟨h0,h1,h2,h3⟩
 exact ⟨h0,h1,h2⟩
def aQ9:Da kX vC aby iM:=by
 intro s hI;obtain ⟨h0,h1,h2⟩:=hI
 have hp:=aRq (o:=s.b0) h1 h2
 refine AH (λc1=>AH (λc2=>?_) λc2=>?_) λc1=>?_
 ·have c1:0<=s.c:=A8
  exact .inl ⟨rfl,rfl,A8⟩
 ·have c1:0<=s.c:=A8
  have:=R3 h1 c1 h2
  exact ⟨⟨h0,h1,A8⟩,by simp only [vC];omega⟩
 ·have c1:¬(0<=s.c):=A8
  exact .inr ⟨rfl,A8⟩
def ZZ:AS NG:=⟨3,18,[0,2,4],[],λs=>[.CS 2,xQ 5 [s.cs,s.os,s.ks,s.gs,s.bs],s.c],λs=>[⟨[s.b0],3,.cl,X⟩,⟨[s.b1],4,.cl,X⟩,⟨[.junk,.junk,.junk,.own 0 0,.own 1 0,.v<|.tuple #[],.junk,.v<|.tuple #[],.v<|.tuple #[],.v<|.tuple #[],.v<|.tuple #[]],0,.Cr akI ak3 akP s.st,X⟩],λv b=>⟨As Af<|BU (v.getD 1 .junk) 0,As .str<|BU (v.getD 1 .junk) 1,As An<|BU (v.getD 1 .junk) 2,As Ag<|BU (v.getD 1 .junk) 3,As Am<|BU (v.getD 1 .junk) 4,AL v 2,Ak b 0 0,Lc b 1 0,.ready⟩,iM,λs r=> {r with cs:=s.cs,os:=s.os,ks:=s.ks,gs:=s.gs,bs:=s.bs,b0:=s.b0},λs=> {s with st:=.ready},λx s=> {s with st:=(match x with| .ret=>(.done<|.ret) | .exit 0=> .ready|_=> .ready)},[.ret,.exit 0],aCM,kX,vC⟩
abbrev s8:=ZZ.run
abbrev sY:=ZZ.Au
def ax7:Rq kX iM:=by
 intro s hI;refine ⟨λc1=>⟨λ_=>trivial,λc2=>⟨?_,ak⟩⟩,λ_=>trivial⟩
 ·(obtain ⟨h0,h1,h2⟩:=hI;simp at c1 h2;exact ⟨c1,h2⟩)
def tl:ZZ.Ok:={}
def tR:ZZ.Pf (aby):=⟨ak7,λs h=>by
 obtain ⟨cs,os,ks,gs,bs,c,b0,b1,st⟩:=s
 have e:=h.1
 subst e;rfl,aQ9,ax7⟩
def aqN:=s2 (b:=bN f75 0) tl tR RI aar
def ay6 (s:NG) (hE:aCM s):(sY s=.ret/\(s8 s).b1=U/\Fh s.cs s.b0 s.c=U)\/(sY s=.exit 0/\Fh s.cs s.b0 s.c=X):=by
 have hk:=AS.Kn tl tR (λs=>Fh s.cs s.b0 s.c) (λs hI=>by
  obtain ⟨h0,h1,h2⟩:=hI
  have hp:=aRq (o:=s.b0) h1 h2
  refine AH (λc1=>AH (λc2=>rfl) λc2=>?_) λc1=>rfl
  have c1:0<=s.c:=A8
  show Fh _ _ _=Fh _ _ _
  rw [hp,AD c1,c2,D5]) s hE
 have hk:Fh s.cs s.b0 (s8 s).c=Fh s.cs s.b0 s.c:=hk
 obtain ⟨s',hI,hf⟩:=AS.end_ tl tR s hE
 have hq:=ct (aQ9 s' hI) hf
 have hc:=ct (Pn:=λ_=>True) (Ps:=λ_ r=>r.cs=s'.cs/\r.b0=s'.b0/\r.c=s'.c) (r:=(iM s').rd s') (by
   exact AH (λ_=>AH (λ_=>⟨rfl,rfl,rfl⟩) λ_=>trivial) λ_=>⟨rfl,rfl,rfl⟩) hf
 obtain ⟨hc1,hc3,hc2⟩:=hc
 have e1:s.cs=s'.cs:=hc1
 have e2:s.b0=s'.b0:=hc3
 rwa [<-hk,hc2,e1,e2]
def aUL:aVy->T LV
 | [.fn 75 [.xq 1 q0,.xq 5 q1],.v (ag J o)]=>(match ([q0 0]:aVy) with
  | [.v (ag J c)]=>(match ([q1 0,q1 1,q1 2,q1 3,q1 4]:aVy) with
  | [.xl (.pair .str (.pair (.int J) (.pair (.int J) (.pair (.int J) (.pair (.pair (.int J) (.int J)) (.pair (.int J) (.pair (.int J) (.pair (.int J) (.pair (.int J) (.int J)))))))))) cs,.xl (.str) os,.xl (.pair .str (.pair (.int J) (.pair (.int J) (.int J)))) ks,.xl (.pair .str (.pair (.int J) (.pair (.int J) (.pair (.int J) (.pair (.int J) (.pair (.int J) (.pair (.int J) (.int J)))))))) gs,.xl (.pair .str (.int J)) bs]=> .req (Fj cs=U/\c<(M cs:Y)) (.ok<|Fh cs o c)
  |_=> .no)
  |_=> .no)
 |_=> .no
def aaq:Ay:=kI RI<|la 1 func75 aqN<|l0 RI
def azW (c:Y) (cs:aVF) (os:aVz) (ks:aVK) (gs:aVA) (bs:aVL) (o:Y):Bm prog AV RI aaq Al f217 [.fn 75 [xQ 1 [c],xQ 5 [cs,os,ks,gs,bs]],o]=.req (ZZ.q (⟨cs,os,ks,gs,bs,c,o,X,.ready⟩:NG)) (.br (Bs (sY (⟨cs,os,ks,gs,bs,c,o,X,.ready⟩:NG))<|.ret) (.ok (s8 (⟨cs,os,ks,gs,bs,c,o,X,.ready⟩:NG)).b1)<|.ok X):=AU
def ak0:=vo (S:=aUL) func217 RI aaq (λargs lv h=>by
 refine ⟨?_⟩;unfold aUL at h;split at h
 ·split at h
  case h_2=>cases h
  rename_i heq0;split at h
  case h_2=>cases h
  rename_i heq1;simp only [canL,canX];rw [E6 (n:=1) heq0];rw [E6 (n:=5) heq1];simp only [canL,canX];rw [azW];obtain ⟨⟨hu,hc⟩,rfl⟩:=h;refine L7 ⟨⟨rfl,hu,hc,rfl⟩,rfl,rfl⟩ λhE=>?_
  rcases ay6 _ hE.1 with ⟨h1,h2,h3⟩ |⟨h1,h2⟩
  ·rw [h1,h2]
   exact ⟨λ_=>B2 (λz=>LV.v<|.bool z) h3.symm,λh=>Ar⟩
  ·rw [h1]
   exact ⟨λh=>Ar,λ_=>B2 (λz=>LV.v<|.bool z) h2.symm⟩
 ·cases h)
structure OZ where
 l:aVA
 (n i:Y)
 Bi:aVF
 Gk:aVz
 Gi:aVK
 Gm:aVA
 Gq:aVL
 b1:Y
 out:aVw
def aKR:=bN f183 0
def nq (s:OZ):T (Rd OZ):=
 .br (an<|s.i<s.n) (.ix s.i (M s.l)<|.req (Fj s.Bi=U/\(AF s.l s.i).2.1<(M s.Bi:Y))<|.br (Fh s.Bi s.b1 (AF s.l s.i).2.1) (.rb (M s.out) (M<|[s.i]) 8<|.re (M s.out+M ([s.i])) (s.out++([s.i]))<|.nx {s with i:=AA<|s.i+1,out:=s.out++([s.i])})<|.rl s.out<|.nx {s with i:=AA<|s.i+1}) (.rl s.out<|.so (.exit 0) s)
def og (s:OZ):Prop:=s.i=0/\s.out=[]/\s.n=(M s.l:Y)/\s.n<=1000/\Fj s.Bi=U/\atB s.Bi s.l=U
def cH (s:OZ):Prop:=(0<=s.i/\s.i<=s.n)/\s.out=Cy s.Bi s.l s.b1 s.i.toNat/\s.n=(M s.l:Y)/\s.n<=1000/\Fj s.Bi=U/\atB s.Bi s.l=U
def jE (s:OZ):aVx:=(s.n-s.i).toNat
def x8 (x:Ex) (s s':OZ):Prop:=x=.exit 0/\s'.out=Cy s'.Bi s'.l s'.b1 (M s'.l)
def ani:∀s,og s->cH s:=by
 rintro s ⟨h0,h1,h2,h3,h4,h5⟩
 exact ⟨⟨A0,A0⟩,yv,h2,h3,h4,h5⟩
def anU:Da cH jE x8 nq:=by
 intro s hI;unfold nq;obtain ⟨⟨h0,h1⟩,h2,h3,h4,h5,h6⟩:=hI;refine AH (λc1=>?_) λc1=>?_
 ·have c1:s.i<s.n:=AY
  have hs:=aFG (cs:=s.Bi) (gs:=s.l) (o:=s.b1) (k:=s.i.toNat)
  rw [AJ (x:=s.i+1)];refine AH (λc2=>?_) λc2=>?_
  ·refine ⟨⟨⟨Ac,Ac⟩,?_,h3,h4,h5,h6⟩,by simp only [jE];omega⟩
   simp only
   grind
  ·refine ⟨⟨⟨A8,A8⟩,?_,h3,h4,h5,h6⟩,by simp only [jE];omega⟩
   simp only
   grind
 ·have c1:s.n<=s.i:=AY
  exact ⟨rfl,A8⟩
def So:AS OZ:=⟨0,42,[6,7,26,27,28],[.nl 7 3 A7],λs=>[.fn 216 [.own 0 0,.own 1 0],.os 2 1 0<|M s.out,s.l,s.n,s.i],λs=>[⟨[s.Bi,s.Gk,s.Gi,s.Gm,s.Gq],28,.cl,X⟩,⟨[s.b1],3,.cl,X⟩,bV 3 A7 s.out],λv b=>⟨B9 Ag v 2,AL v 3,AL v 4,AG Af b 0 0,AG .str b 0 1,AG An b 0 2,AG Ag b 0 3,AG Am b 0 4,Ak b 1 0,Ad A7 b 2⟩,nq,λs r=> {s with i:=r.i,out:=r.out},λs=>s,λ_ s=>s,[.exit 0],og,cH,jE⟩
abbrev qY:=So.run
abbrev ahM:=So.Au
def akC:Rq cH nq:=by
 intro s hI;refine ⟨λc1=>⟨?_,?_,λc2=>⟨?_,?_,ak⟩,λc2=>⟨A9,ak⟩⟩,λc1=>⟨A9,ak⟩⟩
 all_goals ((obtain ⟨⟨h0,h1⟩,h2,h3,h4,h5,h6⟩:=hI;have hol:M s.out<=s.i.toNat:=(by rw [h2];exact qE);(try simp only [Ab] at c1);first|omega|exact ⟨h5,iH h6 h0 A0⟩ |(refine ⟨A0,?_,?_⟩<;>simp only [Bk,Bv]<;>omega) |exact ⟨rfl,AI⟩ |exact ⟨rfl,rfl⟩))
def jW:aVI:=[Mu,fz,ak0]
def aap:Ay:=kI jW<|l0 jW
def abK:So.Ok:={}
def aVp:So.Pf (x8):=⟨ani,λs h=>rfl,anU,akC⟩
def axo:SA 0 aKR So:=s1 abK aVp jW aap
def aiC:Fi og cH x8 ahM qY:=AS.fin abK aVp
def aH9:aVy->T LV
 | .agg a::r=>s5 a λcs os ks gs bs=>(match r with
  | [.v (ag J o)]=> .ok (.AO [.xl A7<|Qb cs os ks gs bs o,wy cs os ks gs bs o])
  |_=> .no)
 |_=> .no
def aq4:=vm (S:=aH9) func183 jW aap (L:=(λi=>if i=6 then So.lp else Al i)) (λb hb=>by
 rw [show BE _=[aKR] by kernel_rfl] at hb
 simp only [BB,Bx,By] at hb;subst hb;exact axo) (λargs lv h=>by
 unfold aH9 at h;split at h
 case h_2=>cases h
 replace h:=IX h
 obtain ⟨cs,os,ks,gs,bs,rfl,h⟩:=h;split at h
 ·rename_i o
  refine At (letI a:=(qY (⟨gs,(M gs:Y),0,cs,os,ks,gs,bs,o,([]:aVw)⟩:OZ));.br ((!(B6 cs os ks gs bs)) ||((an<|o<0) ||(an<|o>=(M cs:Y)))) (.ok<|.AO [.xl A7 ([]:aVw),(1:Y)])<|.r0 Int<|.req (So.q (⟨gs,(M gs:Y),0,cs,os,ks,gs,bs,o,([]:aVw)⟩:OZ))<|.rz a.out<|.ok<|.AO [.xl A7<|(a.out.drop 0).take<|M a.out,(0:Y)]) ?_;obtain rfl:=h;refine ⟨λc=>?_,λc=>?_⟩
  ·have hn:¬(B6 cs os ks gs bs=U/\0<=o/\o<(M cs:Y)):=by
    rintro ⟨h1,h2,h3⟩
    rw [h1] at c
    simp at c
    omega
   show LV.AO _=_
   unfold Qb wy
   grind
  ·simp only [Ge,IP,DI] at c
   have hl:=(DC.1 c.1).1
   have hE:og ⟨gs,(M gs:Y),0,cs,os,ks,gs,bs,o,([]:aVw)⟩:=⟨rfl,rfl,rfl,Ac,dP c.1,dQ c.1⟩
   obtain ⟨s',_,q1,q2⟩:=aiC _ hE
   have q2:(qY ⟨gs,(M gs:Y),0,cs,os,ks,gs,bs,o,([]:aVw)⟩).out=Cy cs gs o (M gs):=q2
   refine ⟨A9,⟨hE,rfl,rfl⟩,A0,?_⟩
   show LV.AO [LV.xl _ _,_]=_
   unfold Qb wy
   grind
 ·cases h)
def aKw:aVy->T LV
 | [.v (.agg ⟨[ag J am,ag J mo,ag J ga,ag J lo,ag J de]⟩)]=> .ok (Ir (am,mo,ga,lo,de))
 |_=> .no
def RX:aVI:=[]
def hnd20:Ay:=kI RX<|l0 RX
def avb:=vo (S:=aKw) func76 RX hnd20 (λargs lv h=>by
 unfold aKw at h;split at h
 ·rename_i am mo ga lo de
  refine At (.br ((am==0)&&((mo==0)&&((ga==0)&&((lo==0)&&(de==0))))) (.ok U)<|.br ((an<|am>=0)&&(an<|am<=200000)) (.br (an<|mo>am) (.br (an<|mo<=200000) (.br ((an<|ga>=0)&&(an<|ga<=1000)) (.br ((an<|lo>=0)&&(an<|lo<=1000)) (.ok<|.v<|.bool<|(an<|de>=1)&&(an<|de<=1000000))<|.ok X)<|.ok X)<|.ok X)<|.ok X)<|.ok X) ?_;obtain rfl:=h;unfold Ir cbZ;refine ⟨λc=>by rw [c];rfl,λc=>?_⟩
  unfold inB;refine ⟨λc1=>⟨λc2=>⟨λc3=>⟨λc4=>⟨λc5=>?_,λc5=>?_⟩,λc4=>?_⟩,λc3=>?_⟩,λc2=>?_⟩,λc1=>?_⟩
  all_goals refine B2 (λz=>LV.v<|.bool z) ?_
  all_goals
   grind
 ·cases h)
def aKW:aVy->T LV
 | [.xq 6 q0]=>(match ([q0 0,q0 1,q0 2,q0 3,q0 4,q0 5]:aVy) with
  | [.v (ag J am),.v (ag J mo),.v (ag J ga),.v (ag J lo),.v (ag J de),.v (ag J now)]=> .ok (.v<|ag J (if de<lo then de else lo))
  |_=> .no)
 |_=> .no
def asx (am mo ga lo de now:Y):Bm prog AV (RX) kN Al f78 [xQ 6 [am,mo,ga,lo,de,now]]=.ok (.v<|ag J (if de<lo then de else lo)):=AU
def avj:=vo (S:=aKW) func78 RX kN (λargs lv h=>by
 refine ⟨?_⟩;unfold aKW at h;split at h
 ·split at h
  case h_2=>cases h
  rename_i heq0;simp only [canL,canX];rw [E6 (n:=6) heq0];simp only [canL,canX]
  rwa [asx]
 ·cases h)
def aKV:aVy->T LV
 | [.xq 6 q0]=>(match ([q0 0,q0 1,q0 2,q0 3,q0 4,q0 5]:aVy) with
  | [.v (ag J am),.v (ag J mo),.v (ag J ga),.v (ag J lo),.v (ag J de),.v (ag J now)]=> .ok (cbZ (am,mo,ga,lo,de))
  |_=> .no)
 |_=> .no
def asw (am mo ga lo de now:Y):Bm prog AV (RX) kN Al f77 [xQ 6 [am,mo,ga,lo,de,now]]=.ok (.v<|.bool<|(am==0)&&((mo==0)&&((ga==0)&&((lo==0)&&(de==0))))):=AU
def avi:=vo (S:=aKV) func77 RX kN (λargs lv h=>by
 refine ⟨?_⟩;unfold aKV at h;split at h
 ·split at h
  case h_2=>cases h
  rename_i heq0;simp only [canL,canX];rw [E6 (n:=6) heq0];simp only [canL,canX]
  rwa [asw]
 ·cases h)
structure Og where
 (low high af9 auK avG avF aiH apQ b11 b12 b13 b14 aiG b3:Y)
def np (s:Og):T (Rd Og):=letI a:=AA<|s.low+(AA<|(AA<|(AA<|s.high-s.low)+1).tdiv 2);.br (an<|s.low<s.high) (.req ((2:Y)≠0)<|.br (an<|(AA<|(AA<|s.b12*a)*a)<=s.b3) (.nx {s with low:=a})<|.nx {s with high:=AA<|a-1})<|.so (.exit 0) s
def xB (s:Og):Prop:=s.low=0/\s.high=1000/\(0<=s.b12/\s.b12<=1000)/\0<=s.b3
def cG (s:Og):Prop:=(0<=s.low/\s.low<=s.high/\s.high<=1000)/\s.b12*s.low*s.low<=s.b3/\(∀a:Y,s.high<a->a<=1000->¬s.b12*a*a<=s.b3)/\(0<=s.b12/\s.b12<=1000)/\0<=s.b3
def j9 (s:Og):aVx:=(s.high-s.low).toNat
def xM (x:Ex) (s s':Og):Prop:=x=.exit 0/\s'.low=prm s'.b12 s'.b3
def anY:∀s,xB s->cG s:=by
 rintro s ⟨h0,h1,h2,h3⟩
 exact ⟨A0,A8,λa h h2=>A0,h2,h3⟩
def amu:Da cG j9 xM np:=by
 intro s hI;unfold np;obtain ⟨⟨h0,h1,h2⟩,h3,h4,⟨h5,h6⟩,h7⟩:=hI
 have em:s.low<s.high->AA (s.low+AA ((AA<|AA (s.high-s.low)+1).tdiv 2))=s.low+(s.high-s.low+1) / 2:=λc=>by
  rw [AJ (x:=s.high-s.low),AJ (x:=s.high-s.low+1),IL A0,AJ (x:=(s.high-s.low+1) / 2),AJ]
 refine AH (λc1=>?_) λc1=>?_
 ·have c1:s.low<s.high:=AY
  rw [em c1]
  have hm1:s.low<s.low+(s.high-s.low+1) / 2:=A0
  have hm2:s.low+(s.high-s.low+1) / 2<=s.high:=A0
  generalize s.low+(s.high-s.low+1) / 2=m at hm1 hm2|-;obtain ⟨⟨b1,b2⟩,b3,b4⟩:=ajE h5 h6 (m:=m) A0 A0;rw [AJ (x:=s.b12*m),AJ (x:=s.b12*m*m),AJ (x:=m-1)];refine AH (λc2=>?_) λc2=>?_
  ·have c2:s.b12*m*m<=s.b3:=EX
   exact ⟨⟨⟨Ac,Ac,h2⟩,c2,h4,⟨h5,h6⟩,h7⟩,by simp only [j9];omega⟩
  ·have c2:¬s.b12*m*m<=s.b3:=EX
   refine ⟨⟨⟨h0,Ac,Ac⟩,h3,λa ha hk=>?_,⟨h5,h6⟩,h7⟩,by simp only [j9];omega⟩
   have:=aqj h5 (a:=m) (b:=a) A0 A8
   simp only;omega
 ·have c1:s.high<=s.low:=AY
  refine ⟨rfl,(aHx (k:=1000) h0 A0 (.inr h3) λa ha hk=>h4 a A0 A0).symm⟩
def cM:AS Og:=⟨4,25,[0,1,2],[],λs=>[s.low,s.high,.fn 80 [.own 2 0,.own 3 0]],λs=>[⟨[s.af9,s.auK,s.avG,s.avF,s.aiH],79,.cl,X⟩,⟨[s.apQ,s.b11,s.b12,s.b13,s.b14,s.aiG],169,.cl,X⟩,⟨[.own 1 0],167,.cl,X⟩,⟨[s.b3],3,.cl,X⟩],λv b=>⟨AL v 0,AL v 1,Ak b 0 0,Ak b 0 1,Ak b 0 2,Ak b 0 3,Ak b 0 4,Ak b 1 0,Ak b 1 1,Ak b 1 2,Ak b 1 3,Ak b 1 4,Ak b 1 5,Ak b 3 0⟩,np,λs r=> {s with low:=r.low,high:=r.high},λs=>s,λ_ s=>s,[.exit 0],xB,cG,j9⟩
abbrev aQS:=cM.run
abbrev ahL:=cM.Au
def Uq:aVI:=[avb,avi,avj]
def amj:Ay:=kI Uq<|l0 Uq
def aku:Rq cG np:=by
 intro s hI;refine ⟨λc1=>⟨?_,λ_=>trivial,λ_=>trivial⟩,λ_=>trivial⟩
 ·omega
def abI:cM.Ok:={}
def aVn:cM.Pf (xM):=⟨anY,λs h=>rfl,amu,aku⟩
def axm:=s2 (b:=bN f79 0) abI aVn Uq amj
def ahb:Fi xB cG xM ahL aQS:=AS.fin abI aVn
def aK2:aVy->T LV
 | [.v (.agg ⟨[ag J am,ag J mo,ag J ga,ag J lo,ag J de]⟩)]=> .tu #[NQ (am,mo,ga,lo,de),pmE (am,mo,ga,lo,de)]
 |_=> .no
def amh:Ay:=kI Uq<|la 1 func79 axm<|l0 Uq
def avr:=vo (S:=aK2) func39 Uq amh (λargs lv h=>by
 unfold aK2 at h;split at h
 ·rename_i am mo ga lo de
  refine At (letI a:=AA<|(if de<lo then de else lo)*(AA<|mo-am);.br (!(Ir (am,mo,ga,lo,de))) (.tu #[(0:Y),(1:Y)])<|.br (cbZ (am,mo,ga,lo,de)) (.tu #[(1000:Y),(0:Y)])<|.req (cM.q (⟨0,1000,am,mo,ga,lo,de,am,mo,ga,lo,de,0,a⟩:Og))<|.tu #[(aQS (⟨0,1000,am,mo,ga,lo,de,am,mo,ga,lo,de,0,a⟩:Og)).low,(0:Y)]) ?_
  obtain rfl:=h;refine ⟨λc=>?_,λc=>⟨λc2=>?_,λc2=>?_⟩⟩
  ·have c:Ir (am,mo,ga,lo,de)=false:=Ix
   simp [T.all,NQ,pmE,c]
  ·have c:Ir (am,mo,ga,lo,de)=true:=Ix
   simp [T.all,NQ,pmE,c,c2]
  ·have c:Ir (am,mo,ga,lo,de)=true:=Ix
   obtain ⟨⟨h1,h2,h3⟩,⟨h4,h5⟩,⟨h6,h7⟩,h8,h9⟩:=ai8 c c2;simp only at h1 h2 h3 h4 h5 h6 h7 h8 h9
   have hm:0<=(if de<lo then de else lo)/\(if de<lo then de else lo)<=1000:=by split<;>omega
   have e:NQ (am,mo,ga,lo,de)=prm ga ((if de<lo then de else lo)*(mo-am)):=by
    unfold NQ
    grind
   have e2:pmE (am,mo,ga,lo,de)=0:=by
    unfold pmE;rw [AD c]
   rw [e,e2,AJ (x:=mo-am)];generalize (if de<lo then de else lo)=mn at hm|-
   have a1:0<=mn*(mo-am):=Iv hm.1 A0
   have a2:mn*(mo-am)<=1000*(mo-am):=Lh hm.2 A0
   rw [AJ (x:=mn*(mo-am))];refine L7 ⟨⟨rfl,rfl,⟨h4,h5⟩,a1⟩,rfl,rfl⟩ λhE=>?_
   obtain ⟨s',_,q1,q2⟩:=ahb _ hE.1;rw [q2];rfl
 ·cases h)
structure Ku where
 first:Y
 l:aVw
 (n i:Y)
def aHJ:=bN f40 0
def za (s:Ku):T (Rd Ku):=
 .br (an<|s.i<s.n) (.ix s.i (M s.l)<|.nx {s with first:=(if (gi s.l s.i)<s.first then (gi s.l s.i) else s.first),i:=AA<|s.i+1}) (.so (.exit 0) s)
def kv (s:Ku):Prop:=s.i=0/\s.n=(M s.l:Y)/\s.n<=1000
def YT (s:Ku):Prop:=0<=s.i/\s.i<=s.n/\s.n=(M s.l:Y)/\s.n<=1000
def uT (s:Ku):aVx:=(s.n-s.i).toNat
def aCD (x:Ex) (s s':Ku):Prop:=x=.exit 0/\s'.i=s'.n
def al1:∀s,kv s->YT s:=by
 exact mf
def agi:Da YT uT aCD za:=by
 intro s hI;obtain ⟨h0,h1,h2,h3⟩:=hI;refine AH (λc1=>?_) λc1=>?_
 ·have c1:s.i<s.n:=A8
  rw [AJ (x:=s.i+1)];exact ⟨⟨A8,A8,h2,h3⟩,by simp only [uT];omega⟩
 ·exact T9
def SQ:AS Ku:=⟨0,18,[0,7,8,9],[],λs=>[s.first,.xl A7 s.l,s.n,s.i],λ_=>[],λv b=>⟨AL v 0,B9 A7 v 1,AL v 2,AL v 3⟩,za,λs r=> {r with l:=s.l,n:=s.n},λs=>s,λ_ s=>s,[.exit 0],kv,YT,uT⟩
abbrev df:=SQ.run
abbrev atX:=SQ.Au
def ayp:Rq YT za:=by
 intro s hI;refine ⟨λc1=>⟨?_,ak⟩,λ_=>trivial⟩
 ·(obtain ⟨h0,h1,h2,h3⟩:=hI;simp at c1;omega)
def jV:aVI:=[]
def tM:SQ.Ok:={}
def tc:SQ.Pf (aCD):=⟨al1,λs h=>rfl,agi,ayp⟩
def aq9:SA 0 aHJ SQ:=s1 tM tc jV kN
def asU:Fi kv YT aCD atX df:=AS.fin tM tc
def aoW (s:Ku) (hE:kv s):(λs:Ku=>Jf s.first<|s.l.drop s.i.toNat) (df s)=(λs:Ku=>Jf s.first<|s.l.drop s.i.toNat) s:=by
 exact AS.Kn tM tc (λs:Ku=>Jf s.first<|s.l.drop s.i.toNat) (λs hI=>by
  obtain ⟨h0,h1,h2,h3⟩:=hI;refine AH (λc1=>?_) λc1=>rfl
  have c1:s.i<s.n:=A8
  rw [AJ (x:=s.i+1)];rw [(gi_step h0 (show s.i<M s.l by omega)).1]
  rfl) s hE
def aKG:aVy->T LV
 | [.v (ag J f),.xl (.int J) l]=> .req ((M l:Y)<=1000) (.ok<|Jf f l)
 |_=> .no
def avw:=vm (S:=aKG) func40 jV kN (L:=(λi=>if i=2 then SQ.lp else Al i)) (λb hb=>by
 rw [show BE _=[aHJ] by kernel_rfl] at hb
 simp only [BB,Bx,By] at hb;subst hb;exact aq9) (λargs lv h=>by
 unfold aKG at h;split at h
 ·rename_i f l
  refine At (.req (SQ.q (⟨f,l,(M l:Y),0⟩:Ku))<|.ok (df (⟨f,l,(M l:Y),0⟩:Ku)).first) ?_;obtain ⟨hl,rfl⟩:=h;refine L7 ⟨⟨rfl,rfl,hl⟩,rfl,rfl⟩ λhE=>?_
  obtain ⟨s',_,q1,q2⟩:=asU _ hE.1
  have q3:=aoW _ hE.1
  simp only at q3;rw [q2] at q3
  have e:(df ⟨f,l,(M l:Y),0⟩).n=(M l:Y):=rfl
  have e2:(df ⟨f,l,(M l:Y),0⟩).l=l:=rfl
  rw [e,e2,Ew A0] at q3;exact B2 (λz=>LV.v<|ag J z) q3
 ·cases h)
def aKC:aVy->T LV
 | [.v (.agg ⟨[.string nm,ag J up_,ag J li,ag J ne,ag J ra,ag J he,ag J am,ag J mo,ag J ga,ag J lo,ag J de]⟩)]=> .ok (Cs (nm,up_,li,ne,(ra,he),am,mo,ga,lo,de))
 |_=> .no
def amM:aVI:=[avr,avw]
def XK:=vo (S:=aKC) func20 amM kN (λargs lv h=>by
 unfold aKC at h;split at h
 ·rename_i nm up_ li ne ra he am mo ga lo de
  refine At (letI a:=(NQ (am,mo,ga,lo,de));.br ((pmE (am,mo,ga,lo,de)) !=0) (.br (ra==0) (.req ((M ([ne,(0:Y)]):Y)<=1000)<|.ok<|Jf li<|[ne,(0:Y)])<|.req ((M ([ne,(0:Y),ra]):Y)<=1000)<|.ok<|Jf li<|[ne,(0:Y),ra])<|.br (ra==0) (.req ((M ([ne,a]):Y)<=1000)<|.ok<|Jf li<|[ne,a])<|.req ((M ([ne,a,ra]):Y)<=1000)<|.ok<|Jf li<|[ne,a,ra]) ?_;obtain rfl:=h;unfold Cs;simp only;refine ⟨λc=>?_,λc=>?_⟩
  ·have e:NQ (am,mo,ga,lo,de)=0:=by
    rw [arP] at c
    have c:Ir (am,mo,ga,lo,de)=false:=Ix
    unfold NQ;rw [c];rfl
   rw [e];refine ⟨λc2=>⟨AI,?_⟩,λc2=>⟨AI,?_⟩⟩
   ·rw [AD EX];rfl
   ·rw [AE EX];rfl
  ·refine ⟨λc2=>⟨AI,?_⟩,λc2=>⟨AI,?_⟩⟩
   ·rw [AD A8];rfl
   ·rw [AE A8];rfl
 ·cases h)
def aKt:aVy->T LV
 | [.v (ag J k),.xq 5 q0,.xq 2 q1]=>(match ([q0 0,q0 1,q0 2,q0 3,q0 4]:aVy) with
  | [.xl (.pair .str (.pair (.int J) (.pair (.int J) (.pair (.int J) (.pair (.pair (.int J) (.int J)) (.pair (.int J) (.pair (.int J) (.pair (.int J) (.pair (.int J) (.int J)))))))))) cs,.xl (.str) os,.xl (.pair .str (.pair (.int J) (.pair (.int J) (.int J)))) ks,.xl (.pair .str (.pair (.int J) (.pair (.int J) (.pair (.int J) (.pair (.int J) (.pair (.int J) (.pair (.int J) (.int J)))))))) gs,.xl (.pair .str (.int J)) bs]=>(match ([q1 0,q1 1]:aVy) with
  | [.v (ag J c),.v (ag J p)]=> .req ((0<=k/\k<(M gs:Y))/\0<=p) (.ok<|usA (AF gs k).2.2.1 p)
  |_=> .no)
  |_=> .no)
 |_=> .no
def at1 (k:Y) (cs:aVF) (os:aVz) (ks:aVK) (gs:aVA) (bs:aVL) (c p:Y):Bm prog AV (jV) kN Al f185 [k,xQ 5 [cs,os,ks,gs,bs],xQ 2 [c,p]]=.ix k (M gs) (.req (0<=p)<|.ok<|.v<|.bool<|(Bl J (AF gs k).2.2.1<|AA<|(1:Y)*2^(min p.toNat 64)) !=0):=AU
def aPa:=vo (S:=aKt) func185 jV kN (λargs lv h=>by
 refine ⟨?_⟩;unfold aKt at h;split at h
 ·split at h
  case h_2=>cases h
  rename_i heq0;split at h
  case h_2=>cases h
  rename_i heq1;simp only [canL,canX];rw [E6 (n:=5) heq0];rw [E6 (n:=2) heq1];simp only [canL,canX];rw [at1];obtain ⟨⟨h1,h2⟩,h3⟩:=h;exact ⟨h1,h2,h3⟩
 ·cases h)
structure Jv where
 cs:aVF
 os:aVz
 ks:aVK
 gs:aVA
 bs:aVL
 (c p:Y)
 l:aVw
 (n i:Y)
 out:aVw
def aGq:=bN f184 0
def aAK (s:Jv):T (Rd Jv):=letI a:=gi s.l s.i;.br (an<|s.i<s.n) (.ix s.i (M s.l)<|.req ((0<=a/\a<(M s.gs:Y))/\0<=s.p)<|.br (usA (AF s.gs a).2.2.1 s.p) (.rb (M s.out) (M<|[a]) 8<|.re (M s.out+M ([a])) (s.out++([a]))<|.nx {s with i:=AA<|s.i+1,out:=s.out++([a])})<|.rl s.out<|.nx {s with i:=AA<|s.i+1})<|.rl s.out<|.so (.exit 0) s
def ZW (s:Jv):Prop:=s.i=0/\s.out=[]/\s.n=(M s.l:Y)/\s.n<=1000/\0<=s.p/\∀k∈s.l,0<=k/\k<(M s.gs:Y)
def YC (s:Jv):Prop:=(0<=s.i/\s.i<=s.n)/\(M s.out:Y)<=s.i/\s.n=(M s.l:Y)/\s.n<=1000/\0<=s.p/\∀k∈s.l,0<=k/\k<(M s.gs:Y)
def gu (s:Jv):aVx:=(s.n-s.i).toNat
def aCd (x:Ex) (s s':Jv):Prop:=x=.exit 0/\s'.i=s'.n
def anR:∀s,ZW s->YC s:=by
 rintro s ⟨h0,h1,h2,h3,h4,h5⟩
 exact ⟨A0,A8,h2,h3,h4,h5⟩
def ai6:Da YC gu aCd aAK:=by
 intro s hI;obtain ⟨⟨h0,h1⟩,h2,h3,h4,h5,h6⟩:=hI;refine AH (λc1=>?_) λc1=>?_
 ·have c1:s.i<s.n:=AY
  rw [AJ (x:=s.i+1)];refine AH (λc2=>?_) λc2=>?_
  ·exact ⟨⟨⟨Ac,Ac⟩,A8,h3,h4,h5,h6⟩,by simp only [gu];omega⟩
  ·exact ⟨⟨⟨A8,A8⟩,Ac,h3,h4,h5,h6⟩,by simp only [gu];omega⟩
 ·have c1:s.n<=s.i:=AY
  exact Vi
def Q8:AS Jv:=⟨0,23,[1,5,8,9,10],[.nl 5 3 A7],λs=>[.fn 185 [xQ 5 [s.cs,s.os,s.ks,s.gs,s.bs],xQ 2 [s.c,s.p]],.os 0 1 0<|M s.out,.xl A7 s.l,s.n,s.i],λs=>[bV 3 A7 s.out],λv b=>⟨As Af<|BU (gFn (v.getD 0 .junk) 0) 0,As .str<|BU (gFn (v.getD 0 .junk) 0) 1,As An<|BU (gFn (v.getD 0 .junk) 0) 2,As Ag<|BU (gFn (v.getD 0 .junk) 0) 3,As Am<|BU (gFn (v.getD 0 .junk) 0) 4,gI<|BU (gFn (v.getD 0 .junk) 1) 0,gI<|BU (gFn (v.getD 0 .junk) 1) 1,B9 A7 v 2,AL v 3,AL v 4,Ad A7 b 0⟩,aAK,λs r=> {s with i:=r.i,out:=r.out},λs=>s,λ_ s=>s,[.exit 0],ZW,YC,gu⟩
abbrev WS:=Q8.run
abbrev atM:=Q8.Au
def ayU:Rq YC aAK:=by
 intro s hI;refine ⟨λc1=>⟨?_,?_,λc2=>⟨?_,?_,ak⟩,λc2=>⟨A9,ak⟩⟩,λc1=>⟨A9,ak⟩⟩
 all_goals ((obtain ⟨⟨h0,h1⟩,h2,h3,h4,h5,h6⟩:=hI;(try simp only [Ab] at c1);first|omega|(refine ⟨h6 _ ?_,h5⟩;rw [Ia A0];exact Gf _) |(refine ⟨A0,?_,?_⟩<;>simp only [Bk,Bv]<;>omega) |exact ⟨rfl,AI⟩ |exact ⟨rfl,rfl⟩))
def aBP:aVI:=[aPa]
def tO:Q8.Ok:={}
def th:Q8.Pf (aCd):=⟨anR,λs h=>rfl,ai6,ayU⟩
def aro:SA 0 aGq Q8:=s1 tO th aBP kN
def auE:Fi ZW YC aCd atM WS:=AS.fin tO th
def aoy (s:Jv) (hE:ZW s):(λs:Jv=>s.out++Bz s.gs s.p (s.l.drop s.i.toNat)) (WS s)=(λs:Jv=>s.out++Bz s.gs s.p (s.l.drop s.i.toNat)) s:=by
 exact AS.Kn tO th (λs:Jv=>s.out++Bz s.gs s.p (s.l.drop s.i.toNat)) (λs hI=>by
  obtain ⟨⟨h0,h1⟩,h2,h3,h4,h5,h6⟩:=hI;refine AH (λc1=>?_) λc1=>rfl
  have c1:s.i<s.n:=A8
  rw [AJ (x:=s.i+1)];refine AH (λc2=>?_) λc2=>?_
  ·show _++Bz _ _ _=_++Bz _ _ _
   rw [(gi_step h0 (show s.i<M s.l by omega)).1]
   simp [Bz,NW,c2]
  ·show _++Bz _ _ _=_++Bz _ _ _
   rw [(gi_step h0 (show s.i<M s.l by omega)).1]
   simp [Bz,NW,c2]) s hE
def aug (s:Jv) (hE:ZW s):(WS s).out=Bz s.gs s.p s.l:=by
 obtain ⟨s',_,q1,q2⟩:=auE s hE
 have q3:=aoy s hE
 obtain ⟨h0,h1,h2,h3⟩:=hE;simp only at q3;rw [q2,show (WS s).n=s.n from rfl,show (WS s).l=s.l from rfl,Ew A0,h0,h1] at q3
 simpa [Bz] using q3
def aL2:aVy->T LV
 | [.xl (.int J) l,.fn 185 [.xq 5 q0,.xq 2 q1]]=>(match ([q0 0,q0 1,q0 2,q0 3,q0 4]:aVy) with
  | [.xl (.pair .str (.pair (.int J) (.pair (.int J) (.pair (.int J) (.pair (.pair (.int J) (.int J)) (.pair (.int J) (.pair (.int J) (.pair (.int J) (.pair (.int J) (.int J)))))))))) cs,.xl (.str) os,.xl (.pair .str (.pair (.int J) (.pair (.int J) (.int J)))) ks,.xl (.pair .str (.pair (.int J) (.pair (.int J) (.pair (.int J) (.pair (.int J) (.pair (.int J) (.pair (.int J) (.int J)))))))) gs,.xl (.pair .str (.int J)) bs]=>(match ([q1 0,q1 1]:aVy) with
  | [.v (ag J c),.v (ag J p)]=> .req (Xs gs p l) (.ok<|.xl A7<|Bz gs p l)
  |_=> .no)
  |_=> .no)
 |_=> .no
def asG (l:aVw) (cs:aVF) (os:aVz) (ks:aVK) (gs:aVA) (bs:aVL) (c p:Y):letI a:=(WS (⟨cs,os,ks,gs,bs,c,p,l,(M l:Y),(0:Y),([]:aVw)⟩:Jv));Bm prog AV (aBP) kN (λi=>if i=3 then Q8.lp else Al i) f184 [.xl A7 l,.fn 185 [xQ 5 [cs,os,ks,gs,bs],xQ 2 [c,p]]]=.r0 Int (.req (Q8.q (⟨cs,os,ks,gs,bs,c,p,l,(M l:Y),(0:Y),([]:aVw)⟩:Jv))<|.rz a.out<|.ok<|.xl A7<|(a.out.drop 0).take<|M a.out):=AU
def awq:=vm (S:=aL2) func184 aBP kN (L:=(λi=>if i=3 then Q8.lp else Al i)) (λb hb=>by
 rw [show BE _=[aGq] by kernel_rfl] at hb
 simp only [BB,Bx,By] at hb;subst hb;exact aro) (λargs lv h=>by
 refine ⟨?_⟩;unfold aL2 at h;split at h
 ·split at h
  case h_2=>cases h
  rename_i heq0;split at h
  case h_2=>cases h
  rename_i heq1;simp only [canL,canX];rw [E6 (n:=5) heq0];simp only [canL,canX];rw [E6 (n:=2) heq1];simp only [canL,canX];rw [asG];obtain ⟨⟨hp,hl,hm⟩,rfl⟩:=h;refine ⟨A9,L7 ⟨⟨rfl,rfl,rfl,Ac,hp,hm⟩,rfl,rfl⟩ λhE=>⟨A0,?_⟩⟩
  show LV.xl _ _=_
  rw [CX,Eg,aug _ hE.1]
 ·cases h)
def aAv:Array Tmp×Code×Code:=((J5<|f145.body.getD .skip)[0]?).getD (#[],.skip,.skip)
def akH:aWt:=aAv.1
def akW:aV7:=aAv.2.1
def akO:aV7:=aAv.2.2
structure OY where
 (n c:Y)
 Eu:aVF
 Ot:aVz
 Oi:aVK
 DT:aVA
 Oz:aVL
 below:aVw
 KO:aVF
 KT:aVz
 KS:aVK
 KQ:aVA
 Kg:aVL
 rows:aVT
 st:LS
def nh (s:OY):T (Rd OY):=letI a:=Qb s.Eu s.Ot s.Oi s.DT s.Oz s.c;letI b:=Cs<|Ae s.Eu s.c;letI d:=(b,Bz s.DT (0:Y) a);letI e:=(b,Bz s.DT (1:Y) a);letI f:=(b,Bz s.DT (2:Y) a);letI g:=(an<|(M (Bz s.DT (2:Y) a):Y)>0);letI h:=s.rows++([d]);letI i:=M s.rows+M ([d])+M ([e]);letI j:=AA<|s.c+1;letI k:=M s.rows+M ([d])+M ([e])+M ([f]);letI l:=M s.Eu;letI m:=M s.rows+M ([d]);letI o:=s.rows++([e]);letI p:=(Xs s.DT (2:Y) a);letI q:=M s.rows+M ([d])+M ([f]);letI r:=M s.rows+M ([e])+M ([f]);letI t:=(an<|(M (Bz s.DT (1:Y) a):Y)>0);letI u:=h++([e]);letI v:=M s.rows+M ([e]);letI w:=M s.rows;.br (an<|s.c<s.n) (.req (Xs s.DT (0:Y) a)<|.br (an<|(M (Bz s.DT (0:Y) a):Y)>0) (.ix s.c l<|.rb w (M<|[d]) 32<|.req (Xs s.DT (1:Y) a)<|.br t (.ix s.c l<|.ra m (M h) i 32<|.req p<|.br g (.ix s.c l<|.ra i (M u) k 32<|.re k (u++([f]))<|.nx {s with c:=j,below:=a,rows:=(u++([f]))})<|.re i u<|.nx {s with c:=j,below:=a,rows:=u})<|.req p<|.br g (.ix s.c l<|.ra m (M h) q 32<|.re q (h++([f]))<|.nx {s with c:=j,below:=a,rows:=(h++([f]))})<|.re m h<|.nx {s with c:=j,below:=a,rows:=h})<|.req (Xs s.DT (1:Y) a)<|.br t (.ix s.c l<|.rb w (M<|[e]) 32<|.req p<|.br g (.ix s.c l<|.ra v (M o) r 32<|.re r (o++([f]))<|.nx {s with c:=j,below:=a,rows:=(o++([f]))})<|.re v o<|.nx {s with c:=j,below:=a,rows:=o})<|.req p<|.br g (.ix s.c l<|.rb w (M<|[f]) 32<|.re (M s.rows+M ([f])) (s.rows++([f]))<|.nx {s with c:=j,below:=a,rows:=(s.rows++([f]))})<|.rl s.rows<|.nx {s with c:=j,below:=a})<|.rl s.rows<|.so (.exit 0) s
def oT (s:OY):Prop:=s.st=.ready/\s.c=0/\s.rows=[]/\B6 s.Eu s.Ot s.Oi s.DT s.Oz=U/\s.n=(M s.Eu:Y)
def cB (s:OY):Prop:=s.st=.ready/\(0<=s.c/\s.c<=s.n)/\s.rows=D3 s.Eu s.DT s.c.toNat/\B6 s.Eu s.Ot s.Oi s.DT s.Oz=U/\s.n=(M s.Eu:Y)
def aB7 (s:OY):aVx:=(s.n-s.c).toNat
def xG (x:Ex) (s s':OY):Prop:=x=.exit 0/\s'.rows=D3 s'.Eu s'.DT (M s'.Eu)
def anp:∀s,oT s->cB s:=by
 rintro s ⟨h0,h1,h2,h3,h4⟩
 exact ⟨h0,A0,by rw [h1,h2];rfl,h3,h4⟩
def akc:Da cB aB7 xG nh:=by
 intro s hI;unfold nh;obtain ⟨h0,⟨h1,h2⟩,h3,h4,h5⟩:=hI;refine AH (λc1=>?_) λc1=>?_
 rotate_left
 ·have c1:s.n<=s.c:=AY
  exact ⟨rfl,A8⟩
 have c1:s.c<s.n:=AY
 have hl:=(DC.1 h4).1
 rw [AJ (x:=s.c+1)]
 have eb:Qb s.Eu s.Ot s.Oi s.DT s.Oz s.c=Cy s.Eu s.DT s.c (M s.DT):=by
  unfold Qb
  grind
 rw [eb]
 have fin:∀r:aVT,r=D3 s.Eu s.DT s.c.toNat++(rowP s.Eu s.DT s.c 0++rowP s.Eu s.DT s.c 1++rowP s.Eu s.DT s.c 2)->r=D3 s.Eu s.DT (s.c+1).toNat:=λr hr=>by
  rw [hr,show (s.c+1).toNat=s.c.toNat+1 by omega,D3,CO h1]
  rfl
 refine AH (λc2=>?_) (λc2=>?_)<;>refine AH (λc3=>?_) (λc3=>?_)<;>refine AH (λc4=>?_) λc4=>?_
 all_goals
  refine ⟨⟨h0,⟨Ac,Ac⟩,?_,h4,h5⟩,by simp only [aB7];omega⟩
  simp only [Ab,DI] at c2 c3 c4;refine fin _ ?_;simp only [h3,rowP]
  first|rw [AD A0] |rw [AE A0]
  first|rw [AD A0] |rw [AE A0]
  first|rw [AD A0] |rw [AE A0]
  grind
def cI:AS OY:=⟨5,22,[0,7,8],[.nc 1 0 302 Ec,.pc 2 0 A7,.pk 0],λs=>[.CS 4,s.n,s.c],λs=>[⟨[s.Eu,s.Ot,s.Oi,s.DT,s.Oz],28,.cl,U⟩,⟨[.os 5 2 0<|M s.rows],265,.cl,X⟩,⟨[.xl A7 s.below],29,.cl,X⟩,⟨[s.KO,s.KT,s.KS,s.KQ,s.Kg],28,.cl,X⟩,⟨[.junk,.own 0 0,.junk,.junk,.own 1 0,.own 2 0,.v<|.tuple #[],.v<|.tuple #[],.junk,.junk,.junk,.junk,.junk,.v<|.tuple #[],.v<|.tuple #[],.v<|.tuple #[],.v<|.tuple #[],.v<|.tuple #[],.v<|.tuple #[],.v<|.tuple #[],.v<|.tuple #[],.v<|.tuple #[],.v<|.tuple #[],.junk,.v<|.tuple #[],.v<|.tuple #[],.v<|.tuple #[],.v<|.tuple #[],.v<|.tuple #[],.v<|.tuple #[],.v<|.tuple #[],.v<|.tuple #[],.v<|.tuple #[],.v<|.tuple #[],.v<|.tuple #[],.v<|.tuple #[],.v<|.tuple #[],.v<|.tuple #[],.v<|.tuple #[],.v<|.tuple #[],.v<|.tuple #[],.v<|.tuple #[],.junk],0,.Cr akH akW akO s.st,X⟩,bV 302 Ec s.rows],λv b=>⟨AL v 1,AL v 2,AG Af b 0 0,AG .str b 0 1,AG An b 0 2,AG Ag b 0 3,AG Am b 0 4,AG A7 b 2 0,AG Af b 3 0,AG .str b 3 1,AG An b 3 2,AG Ag b 3 3,AG Am b 3 4,Ad Ec b 5,.ready⟩,nh,λs r=> {r with n:=s.n,Eu:=s.Eu,Ot:=s.Ot,Oi:=s.Oi,DT:=s.DT,Oz:=s.Oz,KO:=s.KO,KT:=s.KT,KS:=s.KS,KQ:=s.KQ,Kg:=s.Kg,st:=s.st},λs=> {s with st:=.ready},λx s=> {s with st:=(match x with| .exit 0=> .ready|_=> .ready)},[.exit 0],oT,cB,aB7⟩
abbrev qX:=cI.run
abbrev ahF:=cI.Au
def Uo:aVI:=[XK,Mu,aq4,awq,aPa]
def amg:Ay:=kI Uo<|l0 Uo
def akl:Rq cB nh:=by
 intro s hI;refine ⟨λc1=>⟨?_,λc2=>⟨?_,?_,?_,λc3=>⟨?_,?_,?_,λc4=>⟨?_,?_,?_,ak⟩,λc4=>⟨?_,ak⟩⟩,λc3=>⟨?_,λc5=>⟨?_,?_,?_,ak⟩,λc5=>⟨?_,ak⟩⟩⟩,λc2=>⟨?_,λc6=>⟨?_,?_,?_,λc7=>⟨?_,?_,?_,ak⟩,λc7=>⟨?_,ak⟩⟩,λc6=>⟨?_,λc8=>⟨?_,?_,?_,ak⟩,λc8=>⟨A9,ak⟩⟩⟩⟩,λc1=>⟨A9,ak⟩⟩
 all_goals ((obtain ⟨h0,⟨h1,h2⟩,h3,h4,h5⟩:=hI;have hl:=(DC.1 h4).1;(try simp only [Ab] at c1);have hr:M s.rows<=3*s.c.toNat:=(by rw [h3];exact pj);have eb:Qb s.Eu s.Ot s.Oi s.DT s.Oz s.c=Cy s.Eu s.DT s.c (M s.DT):=(by unfold Qb;rw [AD ⟨h4,h1,A0⟩]);first|omega|((try simp only);rw [eb];refine ⟨Aa,Hr qE A0,λk hk=>dT hk⟩) |(refine ⟨A0,?_,?_⟩<;>simp only [BI,Bk,Bv]<;>omega) |(simp only [BI,Bk,Bv];omega) |exact ⟨rfl,AI⟩ |exact ⟨rfl,rfl⟩))
def abA:cI.Ok:={}
def aaF:cI.Pf (xG):=⟨anp,λs h=>by
 obtain ⟨n,c,Eu,Ot,Oi,DT,Oz,below,KO,KT,KS,KQ,Kg,rows,st⟩:=s
 have e:=h.1
 subst e;rfl,akc,akl⟩
def axg:=s2 (b:=bN f38 0) abA aaF Uo amg
def axy:Fi oT cB xG ahF qX:=AS.fin abA aaF
def aJy:aVy->T LV
 | .agg a::r=>s5 a λcs os ks gs bs=>(match r with
  | []=> .ok (.AO [.xl Ec<|Jt cs os ks gs bs,Od cs os ks gs bs])
  |_=> .no)
 |_=> .no
def amf:Ay:=kI Uo<|la 1 func38 axg<|l0 Uo
def X7:=vo (S:=aJy) func145 Uo amf (λargs lv h=>by
 unfold aJy at h;split at h
 case h_2=>cases h
 replace h:=IX h
 obtain ⟨cs,os,ks,gs,bs,rfl,h⟩:=h;split at h
 ·refine At (letI a:=(qX (⟨(M cs:Y),0,cs,os,ks,gs,bs,([]:aVw),cs,os,ks,gs,bs,([]:aVT),.ready⟩:OY));.br (!(B6 cs os ks gs bs)) (.ok<|.AO [.xl Ec ([]:aVT),(1:Y)])<|.r0 Rw<|.req (cI.q (⟨(M cs:Y),0,cs,os,ks,gs,bs,([]:aVw),cs,os,ks,gs,bs,([]:aVT),.ready⟩:OY))<|.rz a.rows<|.ok<|.AO [.xl Ec<|(a.rows.drop 0).take<|M a.rows,(0:Y)]) ?_
  obtain rfl:=h;refine ⟨λc=>?_,λc=>?_⟩
  ·have c:B6 cs os ks gs bs=false:=A8
   unfold Jt Od;rw [c];rfl
  ·have c:B6 cs os ks gs bs=true:=A8
   have hE:oT ⟨(M cs:Y),0,cs,os,ks,gs,bs,([]:aVw),cs,os,ks,gs,bs,([]:aWB),.ready⟩:=⟨rfl,rfl,rfl,c,rfl⟩
   obtain ⟨s',_,q1,q2⟩:=axy _ hE
   have q2:(qX ⟨(M cs:Y),0,cs,os,ks,gs,bs,([]:aVw),cs,os,ks,gs,bs,([]:aWB),.ready⟩).rows=D3 cs gs (M cs):=q2
   refine ⟨A9,⟨hE,rfl,rfl⟩,A0,?_⟩
   show LV.AO [LV.xl _ _,_]=_
   unfold Jt Od
   grind
 ·cases h)
def aFP:aVy->T LV
 | [.v (ag J n),.v (ag J a),.v (ag J b)]=> .ok (inB n a b)
 |_=> .no
def Kp:aVI:=[]
def dD:=vo (S:=aFP) func130 Kp kN (λargs lv h=>by
 unfold aFP at h;split at h
 ·rename_i n a b
  refine At (.ok<|.v<|.bool<|(an<|n>=a)&&(an<|n<=b)) ?_;exact h
 ·cases h)
def aTn:aVy->T LV
 | [.v (.agg ⟨[.string nm,ag J at_,ag J ph,ag J mn,ag J mx,ag J st,ag J fb,ag J ow]⟩)]=> .ok (Iq ph mn mx st fb)
 |_=> .no
def amJ:aVI:=[dD]
def aUx:=vo (S:=aTn) func163 amJ kN (λargs lv h=>by
 unfold aTn at h;split at h
 ·rename_i nm at_ ph mn mx st fb ow
  refine At (.ok<|.v<|.bool<|(inB ph (1:Y) (7:Y))&&((inB mn (1:Y) (80:Y))&&((inB mx (1:Y) (80:Y))&&((inB st (1:Y) (80:Y))&&((an<|mn<=mx)&&((fb==0) ||(inB fb mn mx))))))) ?_;exact h
 ·cases h)
def aH0:aVy->T LV
 | []=> .ok (.v<|.agg #[(0:Y),(0:Y),(0:Y),X])
 |_=> .no
def aok  :Bm prog AV Kp kN Al f25 []=.ok (.v<|.agg #[(0:Y),(0:Y),(0:Y),X]):=AU
def Wd:=vo (S:=aH0) func25 Kp kN (λargs lv h=>by
 refine ⟨?_⟩;unfold aH0 at h;split at h
 ·simp only [canL]
  rwa [aok]
 ·cases h)
def aUb:aVy->T LV
 | [.v (.agg ⟨[.string nm,ag J at_,ag J ph,ag J mn,ag J mx,ag J st,ag J fb,ag J ow]⟩),.v (.agg ⟨[ag J 0,ag J 0,ag J 0,.bool X]⟩)]=> .ok (Iq ph mn mx st fb)
 |_=> .no
def amI:aVI:=[Wd,dD,aUx]
def ajL:=vo (S:=aUb) func117 amI kN (λargs lv h=>by
 unfold aUb at h;split at h
 ·rename_i nm at_ ph mn mx st fb ow
  refine At (.br (!(Iq ph mn mx st fb)) (.ok X)<|.br (((0:Y)==0)&&(((0:Y)==0)&&(((0:Y)==0)&&(X==X)))) (.ok U)<|.ok<|.v<|.bool<|(inB (0:Y) (0:Y) (5:Y))&&((inB (0:Y) (0:Y) (1000000:Y))&&((inB (0:Y) (0:Y) mx)&&(if (0:Y) !=0 then (!X) ||((0:Y)==5) else ((0:Y)==0)&&((!X) ||((0:Y)==5)))))) ?_
  obtain rfl:=h;refine ⟨λhb=>?_,λhb=>⟨λ_=>?_,λhf=>absurd hf Aa⟩⟩
  ·show LV.v (.bool X)=_
   rw [show Iq _ _ _ _ _=X by simpa using hb]
  ·show LV.v (.bool U)=_
   rw [show Iq _ _ _ _ _=U by simpa using hb]
 ·cases h)
def aJz:aVy->T LV
 | [.v (.agg ⟨[.string nm,ag J at_,ag J ph,ag J mn,ag J mx,ag J st,ag J fb,ag J ow]⟩),.v (ag J am)]=> .req (EB mn mx st) (.ok<|C1 mn mx st am)
 |_=> .no
def aPc:=vo (S:=aJz) func152 Kp kN (λargs lv h=>by
 unfold aJz at h;split at h
 ·rename_i nm at_ ph mn mx st fb ow am
  refine At (.br (an<|am<mn) (.ok (0:Y))<|.req (st≠0)<|.ok<|AA<|(if mx<am then mx else am)-((AA<|(if mx<am then mx else am)-mn).tmod st)) ?_
  obtain ⟨hc,rfl⟩:=h;refine ⟨λhb=>?_,λhb=>⟨by unfold EB at hc;omega,?_⟩⟩
  ·exact B2 (λz=>LV.v<|ag J z)<|aiE A8
  ·exact B2 (λz=>LV.v<|ag J z)<|aiD hc A8
 ·cases h)
def aTt:aVy->T LV
 | [.v (.agg ⟨[.string nm,ag J at_,ag J ph,ag J mn,ag J mx,ag J st,ag J fb,ag J ow]⟩),.v (.agg ⟨[ag J a,ag J si]⟩)]=> .ok (IF ph mn mx st fb a si)
 |_=> .no
def amH:aVI:=[Wd,ajL,aPc]
def aVa:=vo (S:=aTt) func147 amH kN (λargs lv h=>by
 unfold aTt at h;split at h
 ·rename_i nm at_ ph mn mx st fb ow a si
  refine At (.br ((!(Iq ph mn mx st fb)) ||((an<|si<0) ||((an<|si>1000000) ||(an<|a<0)))) (.ok X)<|.req (EB mn mx st)<|.ok<|.v<|.bool<|(C1 mn mx st a)==a) ?_;obtain rfl:=h;refine ⟨λhb=>?_,λhb=>⟨?_,?_⟩⟩
  ·exact B2 (λz=>LV.v<|.bool z)<|anx hb
  ·exact (aLM hb).1
  ·exact B2 (λz=>LV.v<|.bool z) (aLM hb).2
 ·cases h)
def aH5:aVy->T LV
 | [.v (.bool b)]=> .ok (.v<|ag J (if b then (1:Y) else 0))
 |_=> .no
def aq1:=vo (S:=aH5) func157 Kp kN (λargs lv h=>by
 unfold aH5 at h;split at h
 ·rename_i b
  refine At (.br b (.ok (1:Y))<|.ok (0:Y)) ?_;obtain rfl:=h;cases b
  ·exact ⟨λhb=>Ll,λ_=>rfl⟩
  ·exact ⟨λ_=>rfl,λhb=>Ll⟩
 ·cases h)
def aU3:aVy->T LV
 | [.xq 8 q0]=>(match ([q0 0,q0 1,q0 2,q0 3,q0 4,q0 5,q0 6,q0 7]:aVy) with
  | [.v (.string nm),.v (ag J at_),.v (ag J ph),.v (ag J mn),.v (ag J mx),.v (ag J st),.v (ag J fb),.v (ag J ow)]=> .ok (.v<|.agg #[mn,(0:Y)])
  |_=> .no)
 |_=> .no
def azL (nm:aV6) (at_ ph mn mx st fb ow:Y):Bm prog AV Kp kN Al f153 [xQ 8 [.v<|.string nm,at_,ph,mn,mx,st,fb,ow]]=.ok (.v<|.agg #[mn,(0:Y)]):=AU
def ajv:=vo (S:=aU3) func153 Kp kN (λargs lv h=>by
 refine ⟨?_⟩;unfold aU3 at h;split at h
 ·split at h
  case h_2=>cases h
  rename_i heq0;simp only [canL,canX];rw [E6 (n:=8) heq0];simp only [canL,canX]
  rwa [azL]
 ·cases h)
def aU2:aVy->T LV
 | [.xq 1 q0]=>(match ([q0 0]:aVy) with
  | [.v (ag J lo)]=> .ok (.v<|.agg #[(0:Y),lo])
  |_=> .no)
 |_=> .no
def azK (lo:Y):Bm prog AV Kp kN Al f154 [xQ 1 [lo]]=.ok (.v<|.agg #[(0:Y),lo]):=AU
def aju:=vo (S:=aU2) func154 Kp kN (λargs lv h=>by
 refine ⟨?_⟩;unfold aU2 at h;split at h
 ·split at h
  case h_2=>cases h
  rename_i heq0;simp only [canL,canX];rw [E6 (n:=1) heq0];simp only [canL,canX]
  rwa [azK]
 ·cases h)
def aU1:aVy->T LV
 | []=> .ok (.v<|.agg #[(0:Y),(0:Y)])
 |_=> .no
def azJ  :Bm prog AV Kp kN Al f155 []=.ok (.v<|.agg #[(0:Y),(0:Y)]):=AU
def ajt:=vo (S:=aU1) func155 Kp kN (λargs lv h=>by
 refine ⟨?_⟩;unfold aU1 at h;split at h
 ·simp only [canL]
  rwa [azJ]
 ·cases h)
def aU0:aVy->T LV
 | [.xq 1 q0,.xq 2 q1,.xq 8 q2,.xq 1 q3]=>(match ([q0 0]:aVy) with
  | [.v (ag J lv)]=>(match ([q1 0,q1 1]:aVy) with
  | [.v (ag J a),.v (ag J si)]=>(match ([q2 0,q2 1,q2 2,q2 3,q2 4,q2 5,q2 6,q2 7]:aVy) with
  | [.v (.string nm),.v (ag J at_),.v (ag J ph),.v (ag J mn),.v (ag J mx),.v (ag J st),.v (ag J fb),.v (ag J ow)]=>(match ([q3 0]:aVy) with
  | [.v (ag J lo)]=> .ok (.v<|.agg #[ag J (if AA (a+st)<lv then AA (a+st) else lv),lo])
  |_=> .no)
  |_=> .no)
  |_=> .no)
  |_=> .no)
 |_=> .no
def azI (lv a si:Y) (nm:aV6) (at_ ph mn mx st fb ow lo:Y):Bm prog AV Kp kN Al f156 [xQ 1 [lv],xQ 2 [a,si],xQ 8 [.v<|.string nm,at_,ph,mn,mx,st,fb,ow],xQ 1 [lo]]=.ok (.v<|.agg #[ag J (if (AA<|a+st)<lv then AA (a+st) else lv),lo]):=AU
def ajs:=vo (S:=aU0) func156 Kp kN (λargs lv h=>by
 refine ⟨?_⟩;unfold aU0 at h;split at h
 ·split at h
  case h_2=>cases h
  rename_i heq0;split at h
  case h_2=>cases h
  rename_i heq1;split at h
  case h_2=>cases h
  rename_i heq2;split at h
  case h_2=>cases h
  rename_i heq3;simp only [canL,canX];rw [E6 (n:=1) heq0];rw [E6 (n:=2) heq1];rw [E6 (n:=8) heq2];rw [E6 (n:=1) heq3];simp only [canL,canX]
  rwa [azI]
 ·cases h)
def ahV {a l si:Y}:V6 ((if (a !=0) then (1:Y) else 0).toNat*4+((if (l !=0) then (1:Y) else 0).toNat*2+((if (an<|si>=5) then (1:Y) else 0).toNat*1+0)))=if a=0 then (if l=0 then 1 else if 5<=si then 0 else 1) else if l=0 then 2 else 3:=by
 by_cases c1:a=0<;>by_cases c2:l=0<;>by_cases c3:5<=si<;>simp [c1,c2,c3,V6]
end Go.Proofs.YtjdlmobanmhohaaGreatDoor
end
