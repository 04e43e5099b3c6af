/- Helpers for TopParkUnharmed:. Conditions: none. -/
import Derived.Test.YtpdndmobphnjcaaGreatDoorQv4
set_option linter.defProp false
set_option linter.unusedVariables false
set_option linter.unusedSimpArgs false
noncomputable section
open List renaming length→M,length→aa,replicate→aq,range→au
open Bool renaming true→U,true→ae,false→X,false→af
open Go.Value renaming int→ag
open Option renaming some→ah,none→aj
open Go.IntKind renaming i64→J,i64→ai,u8→aw,u32→ax
open True renaming intro→ak
open Decidable renaming decide→an
open ByteArray renaming mk→av
open Go.Region renaming ready→ay,wanted→az
open Go.Instr renaming findNow→aA
namespace Go.Proofs.YtpdndmobphnjcaaGreatDoor
set_option maxRecDepth 100000
set_option maxHeartbeats 4000000
open Go.Proofs.Tryz
open Go.Sx
def aXn:=vo (S:=aW7) func127 aiF kN (λargs lv h=>by
 unfold aW7 at h;split at h
 ·rename_i se fl x1 x2 x3 x4 x5 t
  refine Aq (letI d:=(B3 (x1,x2,x3,x4,x5));letI g:=An se fl;letI i:=BL fl/\M d<=70000/\(By se fl=0->lkC fl=U);letI k:=Ez se fl d;letI b:=(Iu g (x1,x2,x3,x4,x5) t);letI f:=(AA<|(M g:Y)-1);letI j:=BL fl/\M b<=5000/\IK b;.req (BL fl)<|.br ((Cg se fl) !=0) (.ok<|.AQ [.xl Bo ([]:bc),(Cg se fl)])<|.br (!(B2<|[(x1,(x2,(x3,(x4,x5))))])) (.ok<|.AQ [.xl Bo ([]:bc),(1:Y)])<|.br (an<|t<0) (.ok<|.AQ [.xl Bo ([]:bc),(1:Y)])<|.br (an<|t>1100000) (.ok<|.AQ [.xl Bo ([]:bc),(1:Y)])<|.br (an<|(M g:Y)>0) (.ix f (M g)<|.br (an<|x1<=(Ap g f).1) (.ok<|.AQ [.xl Bo ([]:bc),(12:Y)])<|.ix f (M g)<|.br (an<|x4<(Ap g f).2.2.2.1) (.ok<|.AQ [.xl Bo ([]:bc),(12:Y)])<|.req i<|.br (k !=10) (.ok<|.AQ [.xl Bo<|Hs se fl d,k])<|.br ((DT g t) !=0) (.ok<|.AQ [.xl Bo ([]:bc),(DT g t)])<|.req j<|.ok<|.AQ [.xl Bo<|GB se fl b,(GC se fl b)])<|.req i<|.br (k !=10) (.ok<|.AQ [.xl Bo<|Hs se fl d,k])<|.br ((DT g t) !=0) (.ok<|.AQ [.xl Bo ([]:bc),(DT g t)])<|.req j<|.ok<|.AQ [.xl Bo<|GB se fl b,(GC se fl b)]) ?_;obtain ⟨⟨hb,hcl⟩,rfl⟩:=h
  have fin:∀ {a:bc} {e:Y},Cu se fl (x1,x2,x3,x4,x5) t=a/\EO se fl (x1,x2,x3,x4,x5) t=e->LV.AQ [.xl Bo a,.v<|ag J e]=LV.AQ [.xl Bo<|Cu se fl (x1,x2,x3,x4,x5) t,.v<|ag J<|EO se fl (x1,x2,x3,x4,x5) t]:=λh=>by rw [h.1,h.2]
  refine ⟨hb,λc1=>fin ?_,λc1=>?_⟩
  ·have c1:Cg se fl≠0:=AX
   unfold Cu EO;rw [AD c1,AD c1];exact ⟨rfl,rfl⟩
  have c1:¬Cg se fl≠0:=AX
  rw [aqv]
  have bad:(!DN (x1,x2,x3,x4,x5) || !inB t 0 1100000)=U->Cu se fl (x1,x2,x3,x4,x5) t=[]/\EO se fl (x1,x2,x3,x4,x5) t=1:=λh=>by
   unfold Cu EO;rw [AE c1,AE c1,AD h,AD h];exact ⟨rfl,rfl⟩
  refine ⟨λc2=>fin<|bad (by rw [c2];rfl),λc2=>⟨λc3=>fin<|bad ?_,λc3=>⟨λc4=>fin<|bad ?_,λc4=>?_⟩⟩⟩
  iterate 2
   ·rw [CS]
    refine .inr ?_
    have e:inB t 0 1100000=false:=by
     cases e:inB t 0 1100000
     ·rfl
     ·have:=B8.1 e
      simp only [Ac,DI] at c3
      try simp only [Ac] at c4
      omega
    rw [e];rfl
  have ht:inB t 0 1100000=true:=B8.2 (by simp only [DI] at c3 c4;omega)
  have hx:DN (x1,x2,x3,x4,x5)=true:=Dl
  have hv:=aCr<|bJ.1 c1
  have hE:DT (An se fl) t=0:=by unfold DT L0;rw [hv,ht];rfl
  have hb':¬((!DN (x1,x2,x3,x4,x5) || !inB t 0 1100000)=U):=by rw [hx,ht];decide
  have hl:=(GP hv).1
  have w:=λc5:0<M (An se fl)=>AI (x:=(M (An se fl):Y)-1)
  have hO:0<M (An se fl)->Hd (An se fl) (x1,x2,x3,x4,x5)=(an (x1<=(Ap (An se fl)<|(M (An se fl):Y)-1).1) ||an (x4<(Ap (An se fl)<|(M (An se fl):Y)-1).2.2.2.1)):=λc5=>by
   unfold Hd;rw [show an (M (An se fl)>0)=U from Ci c5];rfl
  have old:Hd (An se fl) (x1,x2,x3,x4,x5)=U->Cu se fl (x1,x2,x3,x4,x5) t=[]/\EO se fl (x1,x2,x3,x4,x5) t=12:=λh=>by
   unfold Cu EO;rw [AE c1,AE c1,AE hb',AE hb',AD h,AD h];exact ⟨rfl,rfl⟩
  refine ⟨λc5=>?_,λc5=>?_⟩
  ·have c5:0<M (An se fl):=by simpa using c5
   have hO:=hO c5
   rw [w c5];refine ⟨A0,λc6=>fin<|old (by rw [hO,c6];rfl),λc6=>⟨A0,λc7=>fin<|old<|by rw [hO,c7,Ob],λc7=>?_⟩⟩
   have hO:Hd (An se fl) (x1,x2,x3,x4,x5)=false:=by rw [hO,c6,c7];rfl
   have hk:Iu (An se fl) (x1,x2,x3,x4,x5) t=IS (An se fl) (x1,x2,x3,x4,x5) t:=AD hE
   have hk':=hk▸aXx (x:=(x1,x2,x3,x4,x5)) hE
   rw [hk,hE]
   have hO:¬(Hd (An se fl) (x1,x2,x3,x4,x5)=U):=by rw [hO];decide
   refine ⟨⟨hb,by rw [KX];decide,hcl⟩,λc=>fin ?_,λc=>⟨λc'=>(by cases c'),λ_=>⟨⟨hb,hk'⟩,fin ?_⟩⟩⟩<;>unfold Cu EO<;>rw [AE c1,AE c1,AE hb',AE hb',AE hO,AE hO]
   ·have c:Ez se fl (B3 (x1,x2,x3,x4,x5))≠10:=I3
    rw [AD c,AD c];exact ⟨rfl,rfl⟩
   ·have c:¬Ez se fl (B3 (x1,x2,x3,x4,x5))≠10:=I3
    rw [AE c,AE c];exact ⟨rfl,rfl⟩
  ·have hO:Hd (An se fl) (x1,x2,x3,x4,x5)=false:=by unfold Hd;rw [show an (M (An se fl)>0)=X by simpa using c5];rfl
   have hk:Iu (An se fl) (x1,x2,x3,x4,x5) t=IS (An se fl) (x1,x2,x3,x4,x5) t:=AD hE
   have hk':=hk▸aXx (x:=(x1,x2,x3,x4,x5)) hE
   rw [hk,hE]
   have hO:¬(Hd (An se fl) (x1,x2,x3,x4,x5)=U):=by rw [hO];decide
   refine ⟨⟨hb,by rw [KX];decide,hcl⟩,λc=>fin ?_,λc=>⟨λc'=>(by cases c'),λ_=>⟨⟨hb,hk'⟩,fin ?_⟩⟩⟩<;>unfold Cu EO<;>rw [AE c1,AE c1,AE hb',AE hb',AE hO,AE hO]
   ·have c:Ez se fl (B3 (x1,x2,x3,x4,x5))≠10:=I3
    rw [AD c,AD c];exact ⟨rfl,rfl⟩
   ·have c:¬Ez se fl (B3 (x1,x2,x3,x4,x5))≠10:=I3
    rw [AE c,AE c];exact ⟨rfl,rfl⟩
 ·cases h)
def al2 {fl:aB}{g:Y}{vl:aL}{k:aC}{O:aB}{x:Le}{t:Y}{w:Y}(h:JI fl w g (vl.map B3) k O) (hv:B2 vl=U) (hx:Fa vl x=0) (ht:inB t 0 1100000=U) (hk:19<=k):
  EO 512 fl x t=0/\(∃fl',Gc (Cu 512 fl x t) ((M (Cu 512 fl x t):Y)-1)=(512,fl')/\JI fl' w g ((vl++[x]).map B3) (k-19) O)/\B2 (vl++[x])=true:=by
 obtain ⟨h1,h2⟩:=aXt h hv
 have hl:=KX x
 have hx':=hx
 unfold Fa at hx'
 have hlx:DN x=true:=by
  cases e:DN x
  ·grind
  ·rfl
 rw [hv,hlx] at hx'
 have ho:Hd vl x=false:=by
  by_cases hg:M vl>0
  ·have hf:KA (Ap vl<|(M vl:Y)-1) x=true:=by
    cases e:KA (Ap vl<|(M vl:Y)-1) x
    ·grind
    ·rfl
   unfold KA at hf;unfold Hd
   grind
  ·unfold Hd;simp;intro h;omega
 have hfull:=h.full (d:=B3 x) A0 A0
 have hap:Ez 512 fl (B3 x)=0:=by
  unfold Ez;rw [h.V7,hfull,h.cl];rfl
 have har:Hs 512 fl (B3 x)=Ht 512 fl (B3 x):=by
  unfold Hs;rw [h.V7,hfull,h.cl];rfl
 have hE:EO 512 fl x t=0:=by
  unfold EO;rw [h1,h2,hap,hlx,ht,ho];rfl
 have hL:Cu 512 fl x t=Ht 512 fl (B3 x):=by
  unfold Cu;rw [h1,h2,hap,hlx,ht,ho,har];rfl
 refine ⟨hE,⟨Dq (apB fl<|B3 x) (Gj fl) [80] 1,?_,?_⟩,?_⟩
 ·rw [hL]
  have hne:Ht 512 fl (B3 x)≠ []:=by
   unfold Ht Dw
   simp
  have:=aId 512 fl (B3 x) (0,[])
  unfold Gc;exact this
 ·have:=h.app (uf x) A0 (by rw [hl];omega)
  rw [KJ];exact this
 ·have hg:=(y6 (x:=x) hv).1
  unfold grS GS at hg;rw [AD hx,AD hx] at hg;exact hg
structure QV where
 p:PK
 vl:aL
 ok:aM
def Vt (t:Y) (s:SN×List Le×Bool) (x:Le):SN×List Le×Bool:=
 if Fa s.1.ls x=0 then (if Fa s.2.1 x=0/\inB t 0 1100000=U/\19*(M s.2.1+1)<=1019 then (⟨GS s.1.ls x,0,[],x.1+1,s.1.lk++[Tv t x]⟩,s.2.1++[x],s.2.2) else (s.1,s.2.1,X)) else s
def Nq (t:Y) (xs:aL) (s:SN×List Le×Bool):aC->SN×List Le×Bool
 |0=>s
 |k+1=>Vt t (Nq t xs s k)<|Ap xs k
def RV (se:Y) (fl:aB) (vl:aL):Prop:=se=512/\B2 vl=U/\∃k O,JI fl 0 0 (vl.map B3) k O/\k+19*M vl=1019
def RN (s:SN) (q:SN×List Le×Bool):Prop:=q.1={s with se:=0,fl:=[]}/\RV s.se s.fl q.2.1
def aJa {t:Y}{s:SN×List Le×Bool}{x:Le}(h:(Vt t s x).2.2=U):s.2.2=true:=by
 unfold Vt at h;split at h
 ·split at h
  ·exact h
  ·cases h
 ·exact h
def asj {t:Y}{s:SN}{q:SN×List Le×Bool}{x:Le}(h:RN s q) (hq:(Vt t q x).2.2=U):RN (FD t s x) (Vt t q x):=by
 obtain ⟨h1,h2,h3,k,O,h4,h5⟩:=h
 have hls:q.1.ls=s.ls:=by rw [h1]
 unfold Vt at hq|-;unfold FD;rw [hls] at hq|-
 by_cases hg:Fa s.ls x=0
 ·rw [AD hg] at hq|-
  by_cases hc:Fa q.2.1 x=0/\inB t 0 1100000=U/\19*(M q.2.1+1)<=1019
  ·rw [AD hc] at hq|-
   obtain ⟨c1,c2,c3⟩:=hc;obtain ⟨e1,⟨fl',e2,e3⟩,e4⟩:=al2 (t:=t) h4 h3 c1 c2 A0;rw [h2] at*;rw [AD ⟨hg,e1⟩,e2];refine ⟨A8,rfl,e4,k-19,O,e3,?_⟩;simp only [BG,Bm,C3];omega
  ·rw [AE hc] at hq
   cases hq
 ·rw [AE hg,AE λhh=>hg hh.1]
  exact ⟨h1,h2,h3,k,O,h4,h5⟩
def aJb {t:Y}{xs:aL}{s:SN×List Le×Bool}:∀n,(Nq t xs s n).2.2=U->s.2.2=U
 |0,h=>h
 |n+1,h=>aJb n<|aJa h
def aHY {t:Y}{xs:aL}{s:SN}{q:SN×List Le×Bool}(h:RN s q):∀n,(Nq t xs q n).2.2=U->RN (EN t xs s n) (Nq t xs q n)
 |0,_=>h
 |n+1,hq=>asj (aHY h n<|aJa hq) hq
namespace QV
variable (q : QV)
def sn:SN×List Le×Bool:=Nq q.p.tk q.p.dL (q.p.Gf,q.vl,q.ok)<|M q.p.dL
def dec:QV:=if q.p.up=X then q else if q.p.dE≠0 then {q with p:={q.p with ls:=Dx q.p.ls q.p.tk}} else ⟨{q.p with ra:=q.p.dR,ls:=q.sn.1.ls,nx:=q.sn.1.nx,lk:=q.sn.1.lk},q.sn.2.1,q.sn.2.2⟩
def bef:QV:={q.dec with p:=q.dec.p.KD.dD}
def tick:QV:={q.bef with p:=q.bef.p.BU.It.endP}
def Fu:aB:=q.bef.p.dw.dw
end QV
def RP (p:PK) (q:QV):Prop:=q.p={p with se:=0,fl:=[]}/\RV p.se p.fl q.vl
def awl {p:PK}{q:QV}(h:RP p q) (hq:q.dec.ok=U):RP p.AK q.dec:=by
 obtain ⟨qp,vl,ok⟩:=q;obtain ⟨h1,h2⟩:=h;subst h1
 have eq:QV.dec ⟨{p with se:=0,fl:=[]},vl,ok⟩=if p.up=X then ⟨{p with se:=0,fl:=[]},vl,ok⟩ else if p.dE≠0 then ⟨{p with se:=0,fl:=[],ls:=Dx p.ls p.tk},vl,ok⟩ else
  ⟨{p with se:=0,fl:=[],ra:=p.dR,ls:=(Nq p.tk p.dL ({p.Gf with se:=0,fl:=[]},vl,ok)<|M p.dL).1.ls,nx:=(Nq p.tk p.dL ({p.Gf with se:=0,fl:=[]},vl,ok)<|M p.dL).1.nx,lk:=(Nq p.tk p.dL ({p.Gf with se:=0,fl:=[]},vl,ok)<|M p.dL).1.lk},
   (Nq p.tk p.dL ({p.Gf with se:=0,fl:=[]},vl,ok)<|M p.dL).2.1,(Nq p.tk p.dL ({p.Gf with se:=0,fl:=[]},vl,ok)<|M p.dL).2.2⟩:=rfl
 rw [eq] at hq|-;unfold PK.AK
 by_cases hu:p.up=X
 ·rw [AD hu,AD hu]
  exact ⟨rfl,h2⟩
 ·rw [AE hu] at hq
  rw [AE hu,AE hu]
  by_cases hd:p.dE≠0
  ·rw [AD hd,AD hd]
   exact ⟨rfl,h2⟩
  ·rw [AE hd] at hq
   rw [AE hd,AE hd]
   have hs:RN p.Gf ({p.Gf with se:=0,fl:=[]},vl,ok):=⟨rfl,h2⟩
   obtain ⟨k1,k2⟩:=aHY hs (M p.dL) hq;refine ⟨?_,k2⟩;rw [k1];rfl
def aHR {p:PK}{q:QV}(h:RP p q) (hq:q.tick.ok=U):RP p.BZ q.tick/\p.Fu=q.Fu:=by
 obtain ⟨h1,h2⟩:=awl h hq;refine ⟨⟨?_,h2⟩,?_⟩
 ·show q.dec.p.KD.dD.BU.It.endP=_
  rw [h1];rfl
 ·show _=q.dec.p.KD.dD.dw.dw
  rw [h1];rfl
def aVH {pre mid post:aB}:∀k,k<=M mid->F5 (pre++(mid++post)) (M pre:Y) k=pre++(aq k 255++(mid.drop k++post))
 |0,_=>by simp [F5]
 |k+1,hk=>by
  simp only [F5];rw [aVH k A0]
  have e1:(M pre:Y)+(k:Y)=((M pre+k:aC):Y):=A0
  have hd:mid.drop k=mid[k]::mid.drop (k+1):=Sr A0
  rw [e1,C2,nL _ _ A0,zU,nL _ _ AJ,CV,ni,hd];rw [nM,Cw];rfl
def awT {pre mid post:aB}{n:aC}(h:M mid=n):F5 (pre++(mid++post)) (M pre:Y) n=pre++(aq n 255++post):=by
 rw [aVH n A0,List.drop_of_length_le A0];rfl
def akB {l:aB}{n:aC}(hl:M l=n) (h:l.all (λb=>b==255)=U):l=aq n 255:=by
 rw [List.eq_replicate_iff]
 grind
def aVF {pre mid post f0:aB}{s:Y}{a:bc}{n:aC}(hm:M mid=512) (hs:s*512=(M pre:Y)) (hf:(f0.drop<|M pre).take 512=mid):
  ∃a',G3 512 f0 s (n+1) (a,pre++(mid++post))=G3 512 f0 (s+1) n (a',pre++(aq 512 255++post)):=by
 have hw:isW 512 f0 s=!mid.all (λb=>b==255):=by
  unfold isW;rw [hs,C2]
  show (!((f0.drop<|M pre).take 512).all _)=_
  rw [hf]
 have e:G3 512 f0 s (n+1) (a,pre++(mid++post))=G3 512 f0 (s+1) n (if isW 512 f0 s=U then (a++(erL 512 (pre++(mid++post)) s).drop 1,F5 (pre++(mid++post)) (s*512) 512) else (a,pre++(mid++post))):=rfl
 rw [e];split
 ·rw [hs,awT hm]
  grind
 ·rename_i hn
  have:mid.all (λb=>b==255)=true:=A8
  have h2:=akB hm this
  grind
def atK {O:aB}(h:M O=1024):∃M1 M2,O=M1++M2/\M M1=512/\M M2=512:=⟨O.take 512,O.drop 512,(List.take_append_drop _ _).symm,A8,A8⟩
def aLC {pre post M1 M2 f0:aB}{s:Y}{a:bc}(h1:M M1=512) (h2:M M2=512) (hs:s*512=(M pre:Y)) (hf:f0=pre++(M1++(M2++post))):
  (G3 512 f0 s 2 (a,f0)).2=pre++(aq 1024 255++post):=by
 have f1:(f0.drop<|M pre).take 512=M1:=A8
 have f2:(f0.drop<|M<|pre++aq 512 255).take 512=M2:=by
  rw [hf,BG,CV,<-Cw,List.drop_left' A8,List.take_left' h2]
 have e0:G3 512 f0 s 2 (a,f0)=G3 512 f0 s 2 (a,pre++(M1++(M2++post))):=A8
 rw [e0];obtain ⟨a1,e1⟩:=aVF (a:=a) (n:=1) (post:=M2++post) h1 hs f1;rw [e1]
 have e2:pre++(aq 512 255++(M2++post))=(pre++aq 512 255)++(M2++post):=(Cw _ _ _).symm
 rw [e2];obtain ⟨a2,e3⟩:=aVF (a:=a1) (n:=0) (s:=s+1) (post:=post) h2 A8 f2;rw [e3]
 show (pre++aq 512 255)++(aq 512 255++post)=_
 rw [Cw,<-Cw<|aq 512 255,yv]
def aEP (A O:aB):JT 0 A O=A++O:=AD rfl
def aEO (A O:aB):JT 1 A O=O++A:=AE Ad
def akV (A O:aB):JT (1-0) A O=O++A:=AE Ad
def akU (A O:aB):JT (1-1) A O=A++O:=AD rfl
namespace JI
variable {fl : List Int} {w g : Int} {ds : List (List Int)} {k : Nat} {O : List Int}
def ers (h:JI fl w g ds k O):(Hf 512 fl).2=JT w (Dh g ds k) (aq 1024 255):=by
 obtain ⟨M1,M2,e,h1,h2⟩:=atK h.lo;unfold Hf;rw [h.half,h.cur.1]
 have e2:((((1024:aC):Y).tdiv 512).toNat)=2:=Ad
 have e3:(((1024:aC):Y).tdiv 512)=2:=Ad
 rw [e2,e3]
 have he:=h.eq
 rcases h.hw with rfl|rfl
 ·have:=aLC (pre:=Dh g ds k) (post:=[]) (M1:=M1) (M2:=M2) (f0:=fl) (s:=(1-0)*2) (a:=[(512,fl)]) h1 h2 (by rw [h.la];rfl) (by rw [he,e,aEP];simp only [Cw,Ek,Gm,LP])
  rw [this,aEP]
  grind
 ·have:=aLC (pre:=[]) (post:=Dh g ds k) (M1:=M1) (M2:=M2) (f0:=fl) (s:=(1-1)*2) (a:=[(512,fl)]) h1 h2 Ad (by rw [he,e,aEO];simp only [Cw,Ek,Gm,LP])
  rw [this,aEO]
  grind
def rew (h:JI fl w g ds k O) {ds':aI}(hg:g+1<4294967296) (hd:∀d∈ds',BL d/\M d<=65535) (hf:5+M (BR ds')<=1024):
  JI (Dq (rwP 512 fl ds') (HF fl) [80] 1) (1-w) (g+1) ds' (1024-(5+M (BR ds'))) (Dh g ds k):=by
 have hO:HF fl=(1-w)*1024:=by unfold HF;rw [h.half,h.cur.1];rfl
 have hB:Eh fl ds'=D6 (g+1)++BR ds':=by unfold Eh;rw [h.cur.1,h.gen]
 have hBl:M (Eh fl ds')=4+M (BR ds'):=by rw [hB,BG];rfl
 have hBb:BL (Eh fl ds'):=by rw [hB,Kc];exact ⟨WU _,tX λd hd'=>(hd d hd').1⟩
 have hj:Dh (g+1) ds' (1024-(5+M (BR ds')))=80::(Eh fl ds'++aq (1024-(5+M (BR ds'))) 255):=by rw [hB];unfold Dh;simp
 have h255:aq 1024 (255:Y)=255::(aq (M<|Eh fl ds') 255++aq (1024-(5+M (BR ds'))) 255):=by
  rw [yv,<-Zr,hBl]
  congr 1
  omega
 have key:∀pre post:aB,(M pre:Y)=(1-w)*1024->(Hf 512 fl).2=pre++(aq 1024 255++post)->Dq (rwP 512 fl ds') (HF fl) [80] 1=pre++(Dh (g+1) ds' (1024-(5+M (BR ds')))++post):=by
  intro pre post hp he
  have e1:rwP 512 fl ds'=pre++(255::(Eh fl ds'++(aq (1024-(5+M (BR ds'))) 255++post))):=by
   unfold rwP;rw [he,hO,<-hp,h255]
   have:=gT (pre:=pre++[255]) (post:=aq (1024-(5+M (BR ds'))) 255++post) (d:=Eh fl ds') hBb
   have e9:(M ((pre++[255]:aB)):Y)=(M pre:Y)+1:=AJ
   rw [e9] at this
   have e0:pre++(255::(aq (M<|Eh fl ds') 255++aq (1024-(5+M (BR ds'))) 255)++post)=pre++[255]++(aq (M<|Eh fl ds') 255++(aq (1024-(5+M (BR ds'))) 255++post)):=by simp only [Cw,Ek,Gm,LP]
   rw [e0,this];simp only [Cw,Ek,Gm,LP]
  rw [e1,hO,<-hp]
  have:=gT (pre:=pre) (post:=Eh fl ds'++(aq (1024-(5+M (BR ds'))) 255++post)) (d:=[80]) aQw
  refine Eq.trans this ?_;rw [hj];simp only [Cw,Ek,Gm,LP]
 refine ⟨?_,by rw [P2];omega,h.la,h.bja,by rcases h.hw with rfl|rfl<;>decide,by have:=h.hg;omega,λ_=>?_,hd⟩
 ·rcases h.hw with rfl|rfl
  ·refine (key (Dh g ds k) [] (by rw [h.la];rfl) (by rw [h.ers,aEP];simp only [Cw,Ek,Gm,LP])).trans ?_
   rw [akV]
   grind
  ·refine (key [] (Dh g ds k) Ad (by rw [h.ers,aEO];simp only [Cw,Ek,Gm,LP])).trans ?_
   rw [akU]
   grind
 ·rw [aJs h.hg];omega
def ap3 (h:JI fl w g ds k O) {ds':aI}(hg:g+1<4294967296):GC 512 fl ds'=if rwF fl ds'=U then 0 else 10:=by
 unfold GC;rw [h.V7,AE Ad,h.cur.1,h.gen]
 grind
end JI
def aqU {se:Y}{fl:aB}{ds:aI}(h:GC se fl ds=0) (y:Fl):(GB se fl ds).getLastD y=(se,Dq (rwP se fl ds) (HF fl) [80] 1):=by
 unfold GB;rw [AD h]
 have e:(Dw se (rwP se fl ds) (HF fl) [80]).drop 1=[(se,Dq (rwP se fl ds) (HF fl) [80] 1)]:=by
  rfl
 rw [e,nB]
 simp
def azM {se:Y}{fl:aB}{ds:aI}(h:GC se fl ds=0):GB se fl ds≠ []:=by
 unfold GB;rw [AD h];intro hh
 have:=B0 M hh
 simp [Dw] at this
def aHl {l:bc}{y:Fl}(h:l≠ []):Gc l ((M l:Y)-1)=l.getLastD y:=by
 have hp:=Og.2 h
 unfold Gc;rw [nB,List.getLast?_eq_getElem?,DH,show ((M l:Y)-1).toNat=M l-1 by omega,Di A0]
 rfl
structure VI (se:Y) (fl:aB) (vl:aL) (g:Y):Prop where
 se:se=512
 lv:B2 vl=U
 ji:∃w k O,JI fl w g (vl.map B3) k O
 g:g<=(vl.map (·.1)).getLastD 0
def VI.ld {se:Y}{fl:aB}{vl:aL}{g:Y}(h:VI se fl vl g):Cg se fl=0/\An se fl=vl:=by
 obtain ⟨w,k,O,hj⟩:=h.ji
 have:=aXt hj h.lv
 rwa [h.se]
def arL {l:aL}(h:M l>0):(l.map (·.1)).getLastD 0=(Ap l<|(M l:Y)-1).1:=by
 have e:((M l:Y)-1).toNat=M l-1:=A0
 unfold Ap;rw [nB,List.getLast?_map,List.getLast?_eq_getElem?,DH,e,Di A0];rfl
def kpV (l:aL) (x:Le) (t:Y):aL:=BX l t++((if M l>0/\(M (BX l t)=0\/(Ap (BX l t)<|(M (BX l t):Y)-1).1≠(Ap l<|(M l:Y)-1).1) then [Ap l<|(M l:Y)-1] else [])++[x])
def aUg {l:aL}{x:Le}{t:Y}:IS l x t=(kpV l x t).map B3:=by
 unfold IS kpV
 grind
def ay7 {l:aL}{x:Le}(h:Hd l x=X) (hv:B2 l=U):letI a:=(Ap l<|(M l:Y)-1);M l>0->a.1<x.1/\a.2.2.2.1<=x.2.2.2.1:=by
 unfold Hd at h
 simp at h
 omega
def aFS {l:aL}(h:M l>0):l=l.dropLast++[Ap l<|(M l:Y)-1]:=by
 have hne:=Og.1 h
 have:Ap l ((M l:Y)-1)=l.getLast hne:=by
  rw [Mh A0,List.getLast_eq_getElem]
  congr 1
  omega
 rw [this];exact (List.dropLast_concat_getLast hne).symm
def arF (m:aL) (z:Le):Ap (m++[z]) ((M (m++[z]):Y)-1)=z:=by
 unfold Ap
 simp
def axE {se:Y}{fl d:aB}:Ht se fl d≠ []:=by
 unfold Ht Dw
 simp
def aGy {l:aL}{x:Le}{t:Y}:(kpV l x t).Sublist (l++[x]):=by
 unfold kpV;rw [<-Cw];refine List.Sublist.append ?_<|List.Sublist.refl _
 have hs:(BX l t).Sublist l:=by
  unfold BX;split
  ·simp_all
  ·grind
 split
 ·rename_i hc
  obtain ⟨h1,h2⟩:=hc
  have hl:=aFS h1
  generalize hz:Ap l ((M l:Y)-1)=z at*
  have he:(BX l t).Sublist l.dropLast:=by
   unfold BX at h2|-;split
   ·rename_i ho
    rw [AD ho] at h2;rw [hl,bI] at h2
    have hf:l.filter (LC t)=l.dropLast.filter (LC t)++[z].filter (LC t):=by
     grind
    rw [hf];cases hb:LC t z
    ·simp only [NC,hb,List.filter_nil]
     simp
    ·exfalso
     have e1:[z].filter (LC t)=[z]:=A8
     rw [e1] at h2;rcases h2 with h2|h2
     ·simp at h2
     ·apply h2
      rw [arF]
   ·grind
  conv=>rhs;rw [hl]
  grind
 ·grind
def tW {vl:aL}:M (BR<|vl.map B3)=19*M vl:=by
 induction vl with
 |nil=>rfl
 |cons x vl ih=>
  have e:BR ((x::vl).map B3)=C0 (B3 x)++BR (vl.map B3):=rfl
  rw [e,BG,MR,KX,ih,Bm];omega
def atN (ds:aI):(ds.map λd=>7+M d).sum=M (BR ds):=(sQ ds).symm
def VI.len {se:Y}{fl:aB}{vl:aL}{g:Y}(h:VI se fl vl g):M vl<=53:=by
 obtain ⟨w,k,O,hj⟩:=h.ji
 have:=hj.la
 rw [P2,tW] at this;omega
def aB0 {se:Y}{fl:aB}{vl:aL}{g:Y}{x:Le}{t:Y}(h:VI se fl vl g) (hE:EO se fl x t=0):
  ∃vl' g',VI (Gc (Cu se fl x t)<|(M (Cu se fl x t):Y)-1).1 (Gc (Cu se fl x t)<|(M (Cu se fl x t):Y)-1).2 vl' g'/\(vl'=vl++[x]\/vl'=kpV vl x t)/\B2 (vl++[x])=U/\(M vl>0->(Ap vl<|(M vl:Y)-1).1<x.1):=by
 obtain ⟨h1,h2⟩:=h.ld
 have hlen:=h.len
 obtain ⟨w,k,O,hj⟩:=h.ji
 have hse:=h.se
 subst hse
 have hla:=hj.la
 rw [P2,tW] at hla;unfold EO at hE
 have hL:Cu 512 fl x t=if Cg 512 fl≠0 then [] else if (!DN x || !inB t 0 1100000)=U then [] else if Hd (An 512 fl) x=U then [] else
  if Ez 512 fl (B3 x)≠10 then Hs 512 fl (B3 x) else GB 512 fl (IS (An 512 fl) x t):=rfl
 rw [AE A0] at hE hL
 by_cases c1:(!DN x || !inB t 0 1100000)=U
 ·rw [AD c1] at hE;cases hE
 rw [AE c1] at hE hL
 have hx:DN x=true:=by
  simp only [CS,DB,not_or,Sm] at c1;exact c1.1
 by_cases c2:Hd (An 512 fl) x=U
 ·rw [AD c2] at hE;cases hE
 rw [AE c2] at hE hL;rw [h2] at c2 hE hL
 have ho:=ay7 Dl h.lv
 have hsn:B2 (vl++[x])=true:=aGp h.lv hx A0 (by
  by_cases hz:M vl=0
  ·exact .inl hz
  ·right
   obtain ⟨o1,o2⟩:=ho A0;unfold KA;rw [Ci (p:=x.1>_) o1,Ci (p:=x.2.2.2.1>=_) o2];rfl)
 have hg:g<x.1:=by
  by_cases hz:M vl>0
  ·have:=h.g
   rw [arL hz] at this
   have:=(ho hz).1
   omega
  ·have e:vl=[]:=MH.1 A0
   have:=h.g
   rw [e] at this
   have h0:g<=0:=this
   have:=(Ka.1 hx).1.1
   omega
 have hlx:=(Ka.1 hx).1.2
 by_cases c3:apF 512 fl (B3 x)=U
 ·have hap:Ez 512 fl (B3 x)=10:=by
   unfold Ez;rw [hj.V7,c3];rfl
  rw [hap,AE Ad] at hE hL
  have hr:GC 512 fl (IS vl x t)=0:=hE
  rw [hL]
  have hf:rwF fl (IS vl x t)=true:=by
   have:=hj.ap3 (ds':=IS vl x t) A0
   rw [hr] at this
   by_cases hq:rwF fl (IS vl x t)=U
   ·exact hq
   ·rw [AE hq] at this;cases this
  rw [aHl (y:=(0,[]))<|azM hr,aqU hr];unfold rwF at hf;rw [AY,hj.half,atN] at hf
  have hfit:=DJ hf.1
  refine ⟨kpV vl x t,g+1,⟨rfl,rP hsn aGy,⟨1-w,1024-(5+M (BR<|IS vl x t)),Dh g (vl.map B3) k,?_⟩,?_⟩,.inr rfl,hsn,λhz=>(ho hz).1⟩
  ·rw [<-aUg]
   exact hj.rew A0 (λd hd=>by rw [aUg] at hd;obtain ⟨y,_,rfl⟩:=FP.1 hd;exact ⟨uf y,by rw [KX];omega⟩) hfit
  ·have:((kpV vl x t).map (·.1)).getLastD 0=x.1:=by
    unfold kpV
    simp
   rw [this];omega
 ·have hap:Ez 512 fl (B3 x)=0:=by
   unfold Ez;exact aOf
  have har:Hs 512 fl (B3 x)=Ht 512 fl (B3 x):=by
   unfold Hs;exact aOf
  rw [hap,AD Ad,har] at hL;rw [hL,aHl (y:=(0,[])) axE,aId]
  have hk:19<=k:=by
   unfold apF at c3;rw [hj.half,hj.lk,KX,tW] at c3
   simp at c3
   omega
  refine ⟨vl++[x],g,⟨rfl,hsn,⟨w,k-(7+M (B3 x)),O,?_⟩,?_⟩,.inl rfl,hsn,λhz=>(ho hz).1⟩
  ·have:=hj.app (uf x) (by rw [KX];omega) (by rw [KX];exact hk)
   rw [KJ,ES,LO];simp only;exact this
  ·rw [KJ,nB]
   simp
   omega
def FO (se:Y) (n:aC) (y:Fl):Prop:=y.1=se/\M y.2=n/\BL y.2
def iH {se:Y}{fl:aB}{a:Y}{d:aB}{n:aC}(h:FO se n (se,fl)):∀y∈Dw se fl a d,FO se n y:=by
 intro y hy;obtain ⟨k,_,rfl⟩:=FP.1 hy;exact ⟨rfl,(TE _ _ _ _).trans h.2.1,vJ h.2.2 _ _ _⟩
def ajY {se:Y}{fl:aB}{s:Y}{n:aC}(h:FO se n (se,fl)):∀y∈erL se fl s,FO se n y:=by
 intro y hy;obtain ⟨k,_,rfl⟩:=FP.1 hy;exact ⟨rfl,(ep _ _ _).trans h.2.1,aVG h.2.2 _ _⟩
def ub {se:Y}{f0:aB}{n:aC}:∀(m:aC) (s:Y) (a:List Fl×List Int),(∀y∈a.1,FO se n y)->FO se n (se,a.2)->(∀y∈(G3 se f0 s m a).1,FO se n y)/\FO se n (se,(G3 se f0 s m a).2)
 |0,_,_,h1,h2=>⟨h1,h2⟩
 | m+1,s,a,h1,h2=>by
  unfold G3;split
  ·refine ub m (s+1) _ (λy hy=>?_) ⟨rfl,(ep _ _ _).trans h2.2.1,aVG h2.2.2 _ _⟩
   rcases Bf.1 hy with hy|hy
   ·grind
   ·exact ajY h2 y<|QR hy
  ·exact ub m (s+1) a h1 h2
def ak5 {se:Y}{fl d:aB}{n:aC}(h:FO se n (se,fl)):∀y∈Ht se fl d,FO se n y:=by
 intro y hy;rcases Bf.1 hy with hy|hy
 ·exact iH h y hy
 ·exact iH ⟨rfl,(TE _ _ _ _).trans h.2.1,vJ h.2.2 _ _ _⟩ y<|QR hy
def aS7 {se:Y}{fl:aB}{ds:aI}{n:aC}(h:FO se n (se,fl)):∀y∈GB se fl ds,FO se n y:=by
 intro y hy;unfold GB at hy;split at hy
 ·obtain ⟨k1,k2⟩:=ub (se:=se) (f0:=fl) (n:=n) (((M fl / 2:aC):Y).tdiv se).toNat ((1-Aw fl)*((M fl / 2:aC):Y).tdiv se) ([(se,fl)],fl) (λy hy=>A8) h
  rcases Bf.1 hy with hy|hy
  ·exact k1 y hy
  ·rcases Bf.1 hy with hy|hy
   ·exact iH k2 y<|QR hy
   ·exact iH ⟨rfl,(TE _ _ _ _).trans k2.2.1,vJ k2.2.2 _ _ _⟩ y<|QR hy
 ·cases hy
def ua {se:Y}{f0:aB}:∀(m:aC) (s:Y) (a:List Fl×List Int),a.1≠ []->(G3 se f0 s m a).1≠ []
 |0,_,_,h=>h
 |m+1,s,a,h=>by
  unfold G3;split
  ·exact ua m _ _ oo
  ·exact ua m _ _ h
def aRV {se:Y}{fl:aB}{ds:aI}(h:GC se fl ds=0):GB se fl ds≠ []:=by
 unfold GB;rw [AD h]
 have:=ua (se:=se) (f0:=fl) (((M fl / 2:aC):Y).tdiv se).toNat ((1-Aw fl)*((M fl / 2:aC):Y).tdiv se) ([(se,fl)],fl) AJ
 intro hh;rw [List.append_eq_nil_iff] at hh;exact this hh.1
def ak4 {se:Y}{fl d:aB}:Ht se fl d≠ []:=by
 unfold Ht Dw
 simp
def aXl {se:Y}{fl:aB}{x:Le}{t:Y}{n:aC}(h:FO se n (se,fl)):(∀y∈Cu se fl x t,FO se n y)/\(EO se fl x t=0->Cu se fl x t≠ []):=by
 have ha:(∀y∈Hs se fl (B3 x),FO se n y)/\(Ez se fl (B3 x)=0->Hs se fl (B3 x)≠ []):=by
  unfold Hs Ez
  by_cases h1:By se fl≠0
  ·grind
  ·rw [AE h1,AE h1]
   by_cases h2:apF se fl (B3 x)=U
   ·grind
   ·rw [AE h2,AE h2]
    by_cases h3:lkC fl=U
    ·rw [AD h3,AD h3];exact ⟨ak5 h,λ_=>ak4⟩
    ·rw [AE h3,AE h3];exact ⟨aS7 h,aRV⟩
 unfold Cu EO
 by_cases h1:Cg se fl≠0
 ·grind
 ·rw [AE h1,AE h1]
  split
  ·grind
  ·split
   ·grind
   ·split
    ·exact ha
    ·exact ⟨aS7 h,aRV⟩
structure SnI (s:SN) (n:aC):Prop where
 fl:FO 512 2048 (s.se,s.fl)
 ls:M s.ls<=64
 lk:M s.lk<=n
def arI {l:aL}{x:Le}(h:Fa l x=0):M (GS l x)<=64:=by
 unfold GS;rw [AD h];unfold Fa at h;split at h
 ·rename_i hv
  rw [AY] at hv
  have:=(GP hv.1).1
  split at h
  ·cases h
  ·split at h
   ·cases h
   ·simp;omega
 ·cases h
def azB {t:Y}{s:SN}{x:Le}{n:aC}(h:SnI s n):SnI (FD t s x) (n+1):=by
 unfold FD;split
 ·rename_i hc
  have hs:FO s.se 2048 (s.se,s.fl):=⟨rfl,h.fl.2.1,h.fl.2.2⟩
  obtain ⟨k1,k2⟩:=aXl (x:=x) (t:=t) hs
  have hne:=Og.2<|k2 hc.2
  have hm:Gc (Cu s.se s.fl x t) ((M (Cu s.se s.fl x t):Y)-1)∈Cu s.se s.fl x t:=by
   unfold Gc;rw [Lu A0]
   grind
  obtain ⟨m1,m2,m3⟩:=k1 _ hm;exact ⟨⟨m1.trans h.fl.1,m2,m3⟩,arI hc.1,by have:=h.lk;simp;omega⟩
 ·exact ⟨h.fl,h.ls,by have:=h.lk;omega⟩
def aRY {t:Y}{xs:aL}{s:SN}{n:aC}(h:SnI s n):∀k,SnI (EN t xs s k) (n+k)
 |0=>h
 |k+1=>azB<|aRY h k
structure RQ (p:PK):Prop where
 fl:FO 512 2048 (p.se,p.fl)
 ls:M p.ls<=64
 lk:(M p.lk:Y)<=16*p.tk+5000
 ra:M p.ra<=16
 dm:∀x∈p.dm,HK x=U
 mi:∀m∈p.mi,M m.1<=21
def aHq {l:aL}{t:Y}:M (BX l t)<=M l:=by
 unfold BX;split
 ·grind
 ·simp
def ax6 {l:aL}{t:Y}:M (Dx l t)<=M l:=by
 unfold Dx;split
 ·exact aHq
 ·omega
def xM {p:PK}:M p.dL<=M p.gs:=by
 unfold PK.dL deL;split
 ·exact aFJ
 ·simp
def ajr {p:PK}:M p.dR<=M p.gs:=by
 unfold PK.dR deR;split
 ·exact na gu
 ·simp
def aUu {p:PK}(h:RQ p) (hg:M p.gs<=16):FO 512 2048 (p.AK.se,p.AK.fl)/\M p.AK.ls<=64/\(M p.AK.lk:Y)<=16*p.tk+5016/\M p.AK.ra<=16:=by
 have hl:=h.lk
 have he:M (Dx p.ls p.tk)<=64:=I2 ax6 h.ls
 unfold PK.AK;split
 ·exact ⟨h.fl,h.ls,A0,h.ra⟩
 ·split
  ·exact ⟨h.fl,he,A8,h.ra⟩
  ·have hs:SnI p.Gf (M p.lk):=⟨h.fl,he,Au _⟩
   have h1:=aRY (t:=p.tk) (xs:=p.dL) hs<|M p.dL
   have hd:=xM (p:=p)
   exact ⟨h1.fl,h1.ls,by have:=h1.lk;show (M (EN p.tk p.dL p.Gf<|M p.dL).lk:Y)<=_;omega,I2 ajr hg⟩
def mem_set {α:Type}{l:List α}{i:aC}{x y:α}(h:y∈l.set i x):y∈l\/y=x:=Oa h
def awf (c:Ca) (m:Mi) (p al:Y):M (Jm c m p al).1<=21\/M m.1>21:=by
 unfold Jm;split
 ·rename_i hB
  refine .inl ?_;simp only [dwP,FQ,BG,Bm,C3];omega
 ·grind
def aVI {gs:aF}{ca:aXV}{s:DW}(h:∀m∈s.mi,M m.1<=21):∀k,∀m∈(DV gs ca s k).mi,M m.1<=21
 |0=>h
 | k + 1=>by
  have ih:=aVI (gs:=gs) (ca:=ca) h k
  unfold DV Fh;split
  ·exact ih
  ·split
   ·intro m hm
    rcases mem_set hm with hm|rfl
    ·grind
    ·rcases awf (Be ca k) (CH (DV gs ca s k).mi k) (AG gs k).2.2.1 (Bk (AG gs k)<|BJ (DV gs ca s k).st k) with e|e
     ·exact e
     ·exfalso
      have:M (CH (DV gs ca s k).mi k).1<=21:=by
       unfold CH;rw [DH];cases hx:(DV gs ca s k).mi[(k:Y).toNat]? with
       |none=>simp
       |some y=>exact ih y<|Of hx
      omega
   ·exact ih
def aw2 {se:Y}{fl:aB}:M (An se fl)<=64:=by
 unfold An;split
 ·rename_i h
  unfold Cg at h;split at h
  ·cases h
  ·split at h
   ·grind
   ·split at h
    ·split at h
     ·rename_i h3;exact (GP h3).1
     ·cases h
    ·cases h
 ·simp
def RQ.tick {p:PK}(h:RQ p) (hv:VP p):RQ p.BZ:=by
 have hg:=(Cz.1 hv.site).1.2.2.2.2.1
 obtain ⟨h1,h2,h3,h4⟩:=aUu h hg;obtain ⟨e1,e2,e3,e4,e5,e6,e7,e8,e9,e10,e11,e12,e13,e14⟩:=Ic p;refine ⟨h1,h2,?_,h4,?_,?_⟩
 ·show (M (p.AK.lk.filter _):Y)<=16*(p.AK.tk+1)+5000
  have:=zF (λl:Lk=>an<|l.1>p.AK.tk) p.AK.lk
  rw [e6] at this|-;omega
 ·show ∀x∈p.AK.dm,_
  rw [e12];exact h.dm
 ·refine aVI ?_ _
  show ∀m∈p.AK.mi,_
  rw [e10];exact h.mi
def RQ.step {p:PK}(h:RQ p) (hv:VP p) {e:EV}(he:Br p e=0):RQ (BN p e):=by
 have hg:=(Cz.1 hv.site).1.2.2.2.2.1
 unfold BN;rw [AE A0];unfold Br at he;rw [AE aAZ] at he;split
 ·exact h.tick hv
 rename_i h1;rw [AE h1] at he;split
 ·rename_i h2
  rw [AD h2] at he
  have hd:HK e.d=true:=by
   unfold PK.GR at he;split at he
   ·cases he
   ·split at he
    ·cases he
    ·rename_i hb
     simpa using (by simpa using hb:GI e.c=U/\HK e.d=U).2
  refine {h with dm:=λx hx=>?_,mi:=λm hm=>?_}
  ·rcases mem_set hx with hx|rfl
   ·exact h.dm x hx
   ·exact hd
  ·exact aPd
 rename_i h2;rw [AE h2] at he;split
 ·refine {h with dm:=λx hx=>?_,mi:=λm hm=>?_}
  ·rcases mem_set hx with hx|rfl
   ·exact h.dm x hx
   ·decide
  ·exact aPd
 rename_i h3;rw [AE h3] at he;split
 ·have:=zF (λl:Lk=>l.2.2.1 !=e.en) p.lk
  exact {h with lk:=by show (M (p.lk.filter _):Y)<=16*p.tk+5000;have:=h.lk;omega}
 rename_i h4;rw [AE h4] at he;split
 ·exact {h with ls:=by simp [PK.Ur]}
 rename_i h5;rw [AE h5] at he;split
 ·exact {h with ls:=I2 aHq aw2,ra:=by simp [PK.UK];omega}
 rename_i h6;rw [AE h6] at he;split
 ·exact {h with}
 ·exact {h with}
def vd {cs:aJ}{os:aE}{ks:aP}{gs:aF}{bs:aQ}{dr:aB}(h:HW cs os ks gs bs dr=0):VP (newP cs os ks gs bs dr)/\RQ (newP cs os ks gs bs dr):=by
 unfold newP;rw [AE A0];unfold HW at h;split at h
 ·cases h
 rename_i h1;simp only [not_or,Sm,ne_eq,bJ] at h1;split at h
 ·cases h
 rename_i h2;simp only [Sm] at h2
 have hb:BL Eb:=by
  unfold Eb Dh;rw [Kc,Kc,Kc,Qn];exact ⟨⟨⟨Ad,WU _⟩,tX λd hd=>Va,gw _⟩,gw _⟩
 have hl:M Eb=2048:=by unfold Eb;rw [BG,P2,CV];rfl
 refine ⟨⟨h1.1,AJ,AJ,AJ,AJ,by simp [G2],AJ,h1.2,AJ,λk hk=>?_,h2,λl hl=>by cases hl⟩,⟨⟨rfl,hl,hb⟩,AJ,AJ,by simp;exact (Cz.1 h1.1).1.2.2.2.2.1,λx hx=>?_,λm hm=>?_⟩⟩
 ·simp only [GK] at hk
  have e:gi (cs.map λc=>c.2.2.1) (k:Y)=(AZ cs k).2.2.1:=by
   unfold gi AZ
   simp [hk]
  simp only [e];exact ⟨(jO h1.1 hk).1,Cb _⟩
 ·obtain ⟨_,rfl⟩:=Sp.1 hx;decide
 ·grind
def aHr {se:Y}{f0:aB}:∀(n:aC) (s:Y) (a:List Fl×List Int),M (G3 se f0 s n a).1<=M a.1+n*se.toNat
 |0,s,a=>by simp [G3]
 | n+1,s,a=>by
  unfold G3
  have h:=aHr (se:=se) (f0:=f0) n (s+1) (if isW se f0 s=U then (a.1++(erL se a.2 s).drop 1,F5 a.2 (s*se) se.toNat) else a)
  rw [Nat.succ_mul];split at h
  ·rename_i c
   rw [AD c]
   have e:M ((erL se a.2 s).drop 1)=se.toNat:=by unfold erL;rw [FQ,GK,Sq];omega
   simp only [BG] at h;omega
  ·rename_i c
   rw [AE c];omega
def tV (se:Y) (fl:aB) (a:Y) (d:aB):M ((Dw se fl a d).drop 1)=M d:=by
 unfold Dw;rw [FQ,GK,Sq];omega
def aJi {fl:aB}{ds:aI}(hl:M fl=2048) (hE:GC 512 fl ds=0):M (GB 512 fl ds)<=5000:=by
 have hF:rwF fl ds=true:=by
  unfold GC at hE;split at hE
  ·grind
  ·split at hE
   ·cases hE
   ·rename_i h
    cases e:rwF fl ds
    ·grind
    ·rfl
 have hb:M (Eh fl ds)<=1100:=by
  unfold rwF at hF;rw [AY,Ac] at hF;unfold Eh;rw [BG,sQ]
  have:M (D6<|JW fl (Aw fl)+1)=4:=rfl
  omega
 have he:M (Hf 512 fl).1<=1025:=by
  refine I2 (aHr _ _ _) ?_;rw [hl]
  show 1+(((2048 / 2:aC):Y).tdiv 512).toNat*(512:Y).toNat<=1025
  decide
 unfold GB;rw [AD hE,BG,BG,tV,tV];simp only [Bm,C3];omega
def asL {se:Y}{fl:aB}{x:Le}{t:Y}(h:FO 512 2048 (se,fl)) (hE:EO se fl x t=0):M (Cu se fl x t)<=5000:=by
 have hs:=h.1
 subst hs
 have hl:=h.2.1
 unfold EO at hE;unfold Cu;split at hE
 ·grind
 rename_i h1;rw [AE h1];split at hE
 ·cases hE
 rename_i h2;rw [AE h2];split at hE
 ·cases hE
 rename_i h3;rw [AE h3];split at hE
 ·rename_i h4
  rw [AD h4];unfold Ez at hE;unfold Hs;split at hE
  ·grind
  rename_i h5;rw [AE h5];split at hE
  ·cases hE
  rename_i h6;rw [AE h6];split at hE
  ·rename_i h7
   rw [AD h7];unfold Ht;rw [BG,tV];unfold Dw;rw [GK,Sq,FQ,MR,KX]
   decide
  ·rename_i h7
   rw [AE h7];exact aJi hl hE
 ·rename_i h4
  rw [AE h4];exact aJi hl hE
def VK (se:Y) (fl:aB):Prop:=FO 512 2048 (se,fl)/\∃vl g,VI se fl vl g
def VK.cl {se:Y}{fl:aB}(h:VK se fl):lkC fl=true:=by
 obtain ⟨_,vl,g,hv⟩:=h;obtain ⟨w,k,O,hj⟩:=hv.ji;exact hj.cl
def VK.st {se:Y}{fl:aB}{x:Le}{t:Y}(h:VK se fl) (hE:EO se fl x t=0):letI b:=Cu se fl x t;letI a:=(Gc b<|(M b:Y)-1);0<M b/\VK a.1 a.2:=by
 obtain ⟨hf,vl,g,hv⟩:=h;obtain ⟨vl',g',h1,_⟩:=aB0 hv hE
 have hn:=(aXl (x:=x) (t:=t) (show FO se 2048 (se,fl) from ⟨rfl,hf.2.1,hf.2.2⟩))
 have hp:=Og.2<|hn.2 hE
 refine ⟨hp,?_,vl',g',h1⟩
 have hm:Gc (Cu se fl x t) ((M (Cu se fl x t):Y)-1)∈Cu se fl x t:=by
  unfold Gc;rw [DH,Di A0]
  grind
 have hq:=hn.1 _ hm
 exact ⟨by rw [hq.1];exact hf.1,hq.2.1,hq.2.2⟩
def AS {α:Type}(l:List α):List α:=(l.drop 0).take<|M l
def Fs {α:Type}(l:List α):AS l=l:=Tc l
def cpC (l:aJ):aJ:=BF (AS l)<|aq (M l:Y).toNat (ByteArray.empty,((0:Y),((0:Y),((0:Y),(((0:Y),(0:Y)),((0:Y),((0:Y),((0:Y),((0:Y),(0:Y))))))))))
def Xe (l:aJ):cpC l=l:=by
 unfold cpC;rw [Fs];exact Qq
structure Pb where
 (n i:Y)
 p:PK
 ev:EW
 Bg:aE
 C9:aP
 BP:aF
 CA:aQ
 o:aJ
def aCB (s:Pb):T (Rd Pb):=letI b:=s.o.getD s.i.toNat<|Ty.dflt Ae;letI a:=(s.o.set s.i.toNat (b.1,(b.2.1,((s.p.tg.getD s.i.toNat<|Ty.dflt A7),b.2.2.2))));.br (an<|s.i<s.n) (.ik s.i (M s.p.tg)<|.ik s.i (M s.o)<|.rl s.p.tg<|.rl s.p.cs<|.rl s.p.fl<|.rl s.p.ra<|.pb s.p<|.re (M s.o) a<|.nx {s with i:=AA<|s.i+1,o:=a})<|.rl s.p.tg<|.rl s.p.cs<|.rl s.p.fl<|.rl s.p.ra<|.pb s.p<|.rl s.o<|.so (.exit 0) s
def ox (s:Pb):Prop:=s.i=0/\s.n=(M s.p.tg:Y)/\M s.p.tg=M s.p.cs/\s.n<=1000/\s.o=E6 s.p.cs s.p.tg s.i.toNat
def Ze (s:Pb):Prop:=(0<=s.i/\s.i<=s.n)/\s.n=(M s.p.tg:Y)/\M s.p.tg=M s.p.cs/\s.n<=1000/\s.o=E6 s.p.cs s.p.tg s.i.toNat
def wV (s:Pb):aC:=(s.n-s.i).toNat
def aDq (x:Ex) (s s':Pb):Prop:=x=.exit 0/\s'.o=E6 s'.p.cs s'.p.tg (M s'.p.tg)
def aot:∀s,ox s->Ze s:=by
 exact aOW
def ajq:Da Ze wV aDq aCB:=by
 intro s hI;obtain ⟨⟨h0,h1⟩,h2,h3,h4,h5⟩:=hI
 have hl:M s.o=M s.p.cs:=oN
 refine AH (λc1=>?_) λc1=>?_
 ·have c1:s.i<s.n:=A8
  rw [AI (x:=s.i+1)];refine ⟨⟨⟨A8,A8⟩,h2,h3,h4,?_⟩,by simp only [wV];omega⟩
  exact aNZ
 ·have c1:s.n<=s.i:=A8
  refine ⟨rfl,?_⟩
  grind
def Ui:AR Pb:=⟨18,34,[2,3,19,20,21],[],λs=>[.own 18 0,.own 19 0,.os 15 1 0<|M s.p.tg,s.n,s.i],λs=>[AP,AP,zB,AP,bV 42 Ae s.p.cs,AP,bV 5 (.int aw) s.p.fl,bV 143 Ag s.p.ra,bV 95 B4 s.p.st,bV 75 AO s.p.ca,bV 148 BB s.p.mi,bV 98 BS s.p.me,bV 77 Ai s.p.dm,bV 154 BM s.p.lk,bV 3 A7 s.p.dr,bV 3 A7 s.p.tg,⟨[.os 4 11 0<|M s.p.cs,.xl .str s.p.os,.xl Ak s.p.ks,.xl Af s.p.gs,.xl Al s.p.bs,.v<|ag J s.p.tk,.v<|.bool s.p.up,.xl AO s.p.ls,.v<|ag J s.p.se,.os 6 1 0<|M s.p.fl,.os 7 2 0<|M s.p.ra,.v<|ag J s.p.nx,.os 8 4 0<|M s.p.st,.os 9 5 0<|M s.p.ca,.os 10 3 0<|M s.p.mi,.os 11 3 0<|M s.p.me,.os 12 4 0<|M s.p.dm,.os 13 6 0<|M s.p.lk,.os 14 1 0<|M s.p.dr,.os 15 1 0<|M s.p.tg,.v<|ag J s.ev.ek,.v<|ag J s.ev.en,.v<|ag J s.ev.em,.v<|ag J s.ev.c1,.v<|ag J s.ev.c2,.v<|ag J s.ev.c3,.v<|ag J s.ev.c4,.v<|ag J s.ev.c5,.v<|.bool s.ev.d1,.v<|ag J s.ev.d2,.v<|ag J s.ev.d3,.v<|ag J s.ev.d4,.v<|.slice aj 0 0],107,.cl,X⟩,AP,⟨[.v<|.slice aj 0 0,.v<|.slice aj 0 0,.v<|.slice aj 0 0,.v<|.slice aj 0 0,.v<|.slice aj 0 0],28,.cl,X⟩,⟨[.os 20 11 0<|M s.o,s.Bg,s.C9,s.BP,s.CA],28,.cl,X⟩,bV 42 Ae s.o],λv b=>⟨AL v 3,AL v 4,rB b 16 4 0 6 7 8 9 10 11 12 13 14 15,rG b,AF .str b 19 1,AF Ak b 19 2,AF Af b 19 3,AF Al b 19 4,Ab Ae b 20⟩,aCB,λs r=> {s with i:=r.i,o:=r.o},λs=>s,λ_ s=>s,[.exit 0],ox,Ze,wV⟩
abbrev aJQ:=Ui.run
abbrev ax0:=Ui.At
def PG:aN:=[]
def ahG:Ax:=kI PG<|la 9 func23 Cx<|l0 PG
def aff:Rq Ze aCB:=by
 intro s hI;refine ⟨λc1=>⟨?_,?_,?_,?_,A9,A9,A9,A9,A9,A9,A9,A9,A9,A9,A9,A9,?_,ak⟩,λc1=>⟨A9,A9,A9,A9,A9,A9,A9,A9,A9,A9,A9,A9,A9,ak⟩⟩
 all_goals ((obtain ⟨⟨h0,h1⟩,h2,h3,h4,h5⟩:=hI;have hl:M s.o=M s.p.cs:=oN;(try simp only [Ac] at c1);first|omega|exact ⟨rfl,rfl⟩ |exact ⟨rfl,AJ⟩))
def aT6:Ui.Ok:={}
def aSS:Ui.Pf (aDq):=⟨aot,λs h=>rfl,ajq,aff⟩
def aJZ:=s2 (b:=bN f81 0) aT6 aSS PG ahG
def awO:Fi ox Ze aDq ax0 aJQ:=AR.fin aT6 aSS
structure Lt where
 p:PK
 ev:EW
def V2 (s:Lt):aD:=[.own 16 0]
def Zo (s:Lt):aG:=[AP,AP,zB,AP,bV 42 Ae s.p.cs,AP,bV 5 (.int aw) s.p.fl,bV 143 Ag s.p.ra,bV 95 B4 s.p.st,bV 75 AO s.p.ca,bV 148 BB s.p.mi,bV 98 BS s.p.me,bV 77 Ai s.p.dm,bV 154 BM s.p.lk,bV 3 A7 s.p.dr,bV 3 A7 s.p.tg,⟨[.os 4 11 0<|M s.p.cs,.xl .str s.p.os,.xl Ak s.p.ks,.xl Af s.p.gs,.xl Al s.p.bs,.v<|ag J s.p.tk,.v<|.bool s.p.up,.xl AO s.p.ls,.v<|ag J s.p.se,.os 6 1 0<|M s.p.fl,.os 7 2 0<|M s.p.ra,.v<|ag J s.p.nx,.os 8 4 0<|M s.p.st,.os 9 5 0<|M s.p.ca,.os 10 3 0<|M s.p.mi,.os 11 3 0<|M s.p.me,.os 12 4 0<|M s.p.dm,.os 13 6 0<|M s.p.lk,.os 14 1 0<|M s.p.dr,.os 15 1 0<|M s.p.tg,.v<|ag J s.ev.ek,.v<|ag J s.ev.en,.v<|ag J s.ev.em,.v<|ag J s.ev.c1,.v<|ag J s.ev.c2,.v<|ag J s.ev.c3,.v<|ag J s.ev.c4,.v<|ag J s.ev.c5,.v<|.bool s.ev.d1,.v<|ag J s.ev.d2,.v<|ag J s.ev.d3,.v<|ag J s.ev.d4,.v<|.slice aj 0 0],107,.cl,X⟩,AP]
def sR (s:Lt):Pb:=(⟨((M s.p.tg:aC):Y),0,s.p,s.ev,s.p.os,s.p.ks,s.p.gs,s.p.bs,cpC s.p.cs⟩:Pb)
structure Yp where
 so:aE
 sk:aP
 sg:aF
 sb:aQ
 p:PK
 ev:EW
 o:aJ
def abj (s:Yp):LV:=.agg [.os 18 11 0<|M s.o,s.so,s.sk,s.sg,s.sb]
def acM (s:Yp):aG:=[AP,AP,zB,AP,bV 42 Ae s.p.cs,AP,bV 5 (.int aw) s.p.fl,bV 143 Ag s.p.ra,bV 95 B4 s.p.st,bV 75 AO s.p.ca,bV 148 BB s.p.mi,bV 98 BS s.p.me,bV 77 Ai s.p.dm,bV 154 BM s.p.lk,bV 3 A7 s.p.dr,bV 3 A7 s.p.tg,⟨[.os 4 11 0<|M s.p.cs,.xl .str s.p.os,.xl Ak s.p.ks,.xl Af s.p.gs,.xl Al s.p.bs,.v<|ag J s.p.tk,.v<|.bool s.p.up,.xl AO s.p.ls,.v<|ag J s.p.se,.os 6 1 0<|M s.p.fl,.os 7 2 0<|M s.p.ra,.v<|ag J s.p.nx,.os 8 4 0<|M s.p.st,.os 9 5 0<|M s.p.ca,.os 10 3 0<|M s.p.mi,.os 11 3 0<|M s.p.me,.os 12 4 0<|M s.p.dm,.os 13 6 0<|M s.p.lk,.os 14 1 0<|M s.p.dr,.os 15 1 0<|M s.p.tg,.v<|ag J s.ev.ek,.v<|ag J s.ev.en,.v<|ag J s.ev.em,.v<|ag J s.ev.c1,.v<|ag J s.ev.c2,.v<|ag J s.ev.c3,.v<|ag J s.ev.c4,.v<|ag J s.ev.c5,.v<|.bool s.ev.d1,.v<|ag J s.ev.d2,.v<|ag J s.ev.d3,.v<|ag J s.ev.d4,.v<|.slice aj 0 0],107,.cl,X⟩,AP,bV 42 Ae s.o]
def jh (s:Lt):T Yp:=letI a:=((M s.p.cs:aC):Y);.rm 96 a<|.rz s.p.cs<|.rc a (ByteArray.empty,((0:Y),((0:Y),((0:Y),(((0:Y),(0:Y)),((0:Y),((0:Y),((0:Y),((0:Y),(0:Y)))))))))) (M<|AS s.p.cs)<|.rl s.p.tg<|.rl s.p.cs<|.rl s.p.fl<|.rl s.p.ra<|.pb s.p<|.re a.toNat (cpC s.p.cs)<|.req (Ui.q<|sR s)<|.rl s.p.cs<|.rl s.p.fl<|.rl s.p.ra<|.pb s.p<|.ok<|⟨s.p.os,s.p.ks,s.p.gs,s.p.bs,s.p,s.ev,(aJQ<|sR s).o⟩
def pA (s:Lt):Prop:=M s.p.tg=M s.p.cs/\M s.p.tg<=1000
def aaV (s:Lt):Yp:=⟨s.p.os,s.p.ks,s.p.gs,s.p.bs,s.p,s.ev,E6 s.p.cs s.p.tg<|M s.p.tg⟩
def pG:DA Lt Yp:=⟨V2,Zo,λv b=>⟨rB b 16 4 0 6 7 8 9 10 11 12 13 14 15,rG b⟩,pA,[0,1,3,5,17],[],abj,acM,aaV⟩
abbrev ak3 (s:Lt):Prop:=pA s/\V2 s=V2 s/\Zo s=Zo s
def aUr:Ax:=kI PG<|la 4 func81 aJZ<|la 9 func23 Cx<|l0 PG
def aWn:DZ:=DG 81 18 4 (Ui.lp)<|DG 23 0 9 (HS.lp)<|EM prog AT PG 20 2
def ars:EZ prog AT aWn:=DR func81 rfl AV aJZ<|DR func23 rfl AV Cx<|I9<|gk PG
def ahh (s:Lt):((Ep prog AT PG aWn aUr).k 81 (V2 s)<|Zo s).bind (λq=>GW (M<|Zo s) [0] [] .normal (q.1::V2 s) q.2)=(jh s).mp (λs2=>⟨.normal,M (V2 s)+1,[abj s2],acM s2,U⟩):=AV
def azj (s:Lt) (hE:pA s):(jh s).all (λq=>q=aaV s):=by
 obtain ⟨ht,hn⟩:=hE
 have hA:ox (sR s):=⟨rfl,rfl,ht,aQB,Xe _⟩
 obtain ⟨_,_,_,q2⟩:=awO _ hA;unfold jh;simp only [Fs,Xe,q2]
 repeat (refine ⟨A8,?_⟩)
 refine ⟨⟨hA,rfl,rfl⟩,?_⟩
 repeat (refine ⟨AJ,?_⟩)
 rfl
def aUy:Dn prog AT 81 pG.m:=DA.sound (D:=pG) (t:=jh) (gk PG) ars aUr.h ahh λs hE=>⟨azj s hE⟩
structure O3 where
 xs:aL
 (n i:Y)
 p:PK
 ev:EW
def aC3 (s:O3):T (Rd O3):=letI c:=Ap s.xs s.i;letI e:=AA<|s.i+1;letI a:=((AA<|s.p.tk+((AA<|(AA<|7*s.p.tk)+(AA<|3*c.2.1)).tmod 5)),c);letI b:=Cu s.p.se s.p.fl c s.p.tk;letI d:=(AA<|(M b:Y)-1);.br (an<|s.i<s.n) (.ix s.i (M s.xs)<|.br ((Fa s.p.ls c) !=0) (.rl s.p.cs<|.rl s.p.st<|.rl s.p.ca<|.rl s.p.mi<|.rl s.p.me<|.rl s.p.lk<|.rl s.p.dr<|.rl s.p.tg<|.nx {s with i:=e})<|.req (BL s.p.fl/\(By s.p.se s.p.fl=0->lkC s.p.fl=U))<|.br ((EO s.p.se s.p.fl c s.p.tk) !=0) (.rl s.p.cs<|.rl s.p.st<|.rl s.p.ca<|.rl s.p.mi<|.rl s.p.me<|.rl s.p.lk<|.rl s.p.dr<|.rl s.p.tg<|.nx {s with i:=e})<|.ix d (M b)<|.req ((5:Y)≠0)<|.rb (M s.p.lk) (M<|[a]) 48<|.rl s.p.cs<|.rl s.p.st<|.rl s.p.ca<|.rl s.p.mi<|.rl s.p.me<|.re (M s.p.lk+M ([a])) (s.p.lk++([a]))<|.rl s.p.dr<|.rl s.p.tg<|.nx {s with i:=e,p.ls:=GS s.p.ls c,p.se:=(Gc b d).1,p.fl:=(Gc b d).2,p.nx:=AA<|c.1+1,p.lk:=s.p.lk++([a])})<|.rl s.p.cs<|.rl s.p.st<|.rl s.p.ca<|.rl s.p.mi<|.rl s.p.me<|.rl s.p.lk<|.rl s.p.dr<|.rl s.p.tg<|.so (.exit 0) s
def L6 (p:PK) (xs:aL):PK:=letI a:=(xs.foldl (FD p.tk) ⟨p.ls,p.se,p.fl,p.nx,p.lk⟩);{p with ls:=a.ls,se:=a.se,fl:=a.fl,nx:=a.nx,lk:=a.lk}
def Du {a b:Y}(h:(a !=b)=X):a=b:=A8
def gD {p:PK}{x:Le}(h:VK p.se p.fl) (hE:EO p.se p.fl x p.tk=0):letI a:=Cu p.se p.fl x p.tk;AA ((M a:Y)-1)=(M a:Y)-1/\0<M a:=by
 have h1:=asL h.1 hE
 have h2:=(h.st hE).1
 exact ⟨AI,h2⟩
def al1 {se:Y}{fl:aB}{x:Le}{t:Y}(h:EO se fl x t=0):0<=x.1/\x.1<=1000000:=by
 unfold EO at h;split at h
 ·grind
 ·split at h
  ·cases h
  ·rename_i h1
   have:DN x=true:=by
    cases e:DN x
    ·grind
    ·rfl
   have:=Ka.1 this
   omega
def aiP {l:aL}{i:Y}(h0:0<=i) (h:i<M l):Ap l i∈l:=Ll h0 h
def aji {t c:Y}(ht:0<=t/\t<=1000000) (hc:0<=c/\c<=100):AA (t+(AA<|AA (7*t)+AA (3*c)).tmod 5)=t+(7*t+3*c).tmod 5:=by
 rw [AI (x:=7*t),AI (x:=3*c),AI (x:=7*t+3*c)]
 have:=Int.tmod_nonneg 5 (show 0<=7*t+3*c by omega)
 have:=yx (7*t+3*c) (show (0:Y)<5 by decide)
 exact AI
def lO (s:O3):Prop:=s.i=0/\s.n=(M s.xs:Y)/\s.n<=16/\(∀x∈s.xs,0<=x.2.1/\x.2.1<=100)/\(0<=s.p.tk/\s.p.tk<=1000000)/\VK s.p.se s.p.fl/\(M s.p.lk:Y)<=17000000+s.i
def mK (s:O3):Prop:=(0<=s.i/\s.i<=s.n)/\s.n=(M s.xs:Y)/\s.n<=16/\(∀x∈s.xs,0<=x.2.1/\x.2.1<=100)/\(0<=s.p.tk/\s.p.tk<=1000000)/\VK s.p.se s.p.fl/\(M s.p.lk:Y)<=17000000+s.i
def j9 (s:O3):aC:=(s.n-s.i).toNat
def acX (x:Ex) (s s':O3):Prop:=True
def aok:∀s,lO s->mK s:=by
 exact aPU
def ajd:Da mK j9 acX aC3:=by
 intro s hI;obtain ⟨⟨h0,h1⟩,h2,h3,h4,h5,h6,h7⟩:=hI;refine AH (λc1=>AH (λc2=>?_) λc2=>AH (λc3=>?_) λc3=>?_) λc1=>trivial
 all_goals have c1:s.i<s.n:=AX
 all_goals rw [AI (x:=s.i+1)]
 iterate 2
  ·exact ⟨⟨⟨Aa,Aa⟩,h2,h3,h4,h5,h6,Aa⟩,by simp only [j9];omega⟩
 ·rw [(gD h6<|Du c3).1]
  exact ⟨⟨⟨A8,Aa⟩,h2,h3,h4,h5,(h6.st<|Du c3).2,A8⟩,by simp only [j9];omega⟩
def Ug:AR O3:=⟨18,85,[0,75,76,77],[.pc 16 7 AO,.kb 5,.pc 16 9<|.int aw,.kb 6,.pc 16 10 Ag,.kb 7,.pc 16 16 Ai,.kb 12,.ms 0 17],λs=>[.own 16 0,s.xs,s.n,s.i],λs=>[AP,AP,zB,AP,bV 42 Ae s.p.cs,AP,AP,AP,bV 95 B4 s.p.st,bV 75 AO s.p.ca,bV 148 BB s.p.mi,bV 98 BS s.p.me,AP,⟨[],154,.dead,X⟩,bV 3 A7 s.p.dr,bV 3 A7 s.p.tg,⟨[.os 4 11 0<|M s.p.cs,.xl .str s.p.os,.xl Ak s.p.ks,.xl Af s.p.gs,.xl Al s.p.bs,.v<|ag J s.p.tk,.v<|.bool s.p.up,.xl AO s.p.ls,.v<|ag J s.p.se,.xl (.int aw) s.p.fl,.xl Ag s.p.ra,.v<|ag J s.p.nx,.os 8 4 0<|M s.p.st,.os 9 5 0<|M s.p.ca,.os 10 3 0<|M s.p.mi,.os 11 3 0<|M s.p.me,.xl Ai s.p.dm,.os 18 6 0<|M s.p.lk,.os 14 1 0<|M s.p.dr,.os 15 1 0<|M s.p.tg,.v<|ag J s.ev.ek,.v<|ag J s.ev.en,.v<|ag J s.ev.em,.v<|ag J s.ev.c1,.v<|ag J s.ev.c2,.v<|ag J s.ev.c3,.v<|ag J s.ev.c4,.v<|ag J s.ev.c5,.v<|.bool s.ev.d1,.v<|ag J s.ev.d2,.v<|ag J s.ev.d3,.v<|ag J s.ev.d4,.v<|.slice aj 0 0],107,.cl,X⟩,AP,bV 154 BM s.p.lk],λv b=>⟨B1 AO v 1,AL v 2,AL v 3,rB b 16 4 0 0 0 8 9 10 11 0 18 14 15,rG b⟩,aC3,λs r=> {s with i:=r.i,p.ls:=r.p.ls,p.se:=r.p.se,p.fl:=r.p.fl,p.nx:=r.p.nx,p.lk:=r.p.lk},λs=>s,λ_ s=>s,[.exit 0],lO,mK,j9⟩
abbrev aEe:=Ug.run
abbrev awt:=Ug.At
def xV:aN:=[iR,aRM,aWy,aXn]
def ahF:Ax:=IT xV (la 9 func23 Cx<|l0 xV) [⟨81,pG.m,aUy⟩]
def afX:Rq mK aC3:=by
 intro s hI;refine ⟨λc1=>⟨?_,λc2=>⟨A9,A9,A9,A9,A9,A9,A9,A9,ak⟩,λc2=>⟨?_,λc3=>⟨A9,A9,A9,A9,A9,A9,A9,A9,ak⟩,λc3=>⟨?_,?_,?_,A9,A9,A9,A9,A9,?_,A9,A9,ak⟩⟩⟩,λc1=>⟨A9,A9,A9,A9,A9,A9,A9,A9,ak⟩⟩
 all_goals ((obtain ⟨⟨h0,h1⟩,h2,h3,h4,h5,h6,h7⟩:=hI;simp only [Ac] at c1;first|omega|exact ⟨rfl,rfl⟩ |exact ⟨h6.1.2.2,λ_=>h6.cl⟩ |(simp only [Bm,C3,BG];omega) |(simp only [BG,Bm,C3,Em];done) |(rw [(gD h6<|Du c3).1];have:=(gD h6<|Du c3).2;omega)))
def aTZ:Ug.Ok:={}
def aT1:Ug.Pf (acX):=⟨aok,λs h=>rfl,ajd,afX⟩
def aJX:=s2 (b:=bN f65 0) aTZ aT1 xV ahF
def awe:Rs lO awt aEe (λs:O3=>L6 s.p<|s.xs.drop s.i.toNat) (λx s' (v:PK)=>x=.exit 0/\s'.p=v):=Dp aTZ aT1 (λs hI=>by
  obtain ⟨⟨h0,h1⟩,h2,h3,h4,h5,h6,h7⟩:=hI;refine AH (λc1=>?_) λc1=>?_
  ·have c1:s.i<s.n:=A8
   have e:=(Wf h0 (show s.i<(M s.xs:Y) by omega)).1
   rw [AI (x:=s.i+1),e];refine AH (λc2=>?_) λc2=>AH (λc3=>?_) λc3=>?_
   ·show L6 s.p _=L6 s.p _
    unfold L6;rw [KK,show FD s.p.tk ⟨s.p.ls,s.p.se,s.p.fl,s.p.nx,s.p.lk⟩ (Ap s.xs s.i)=⟨s.p.ls,s.p.se,s.p.fl,s.p.nx,s.p.lk⟩ from AE λh=>EH.1 c2 h.1]
   ·show L6 s.p _=L6 s.p _
    unfold L6;rw [KK,show FD s.p.tk ⟨s.p.ls,s.p.se,s.p.fl,s.p.nx,s.p.lk⟩ (Ap s.xs s.i)=⟨s.p.ls,s.p.se,s.p.fl,s.p.nx,s.p.lk⟩ from AE λh=>EH.1 c3 h.2]
   ·have hx:=h4 _ (aiP h0 (show s.i<(M s.xs:Y) by omega))
    have hn:=al1<|Du c3
    rw [(gD h6<|Du c3).1,aji h5 hx,AI (x:=(Ap s.xs s.i).1+1)]
    show L6 _ _=L6 s.p _
    conv=>rhs;unfold L6
    rw [KK,show FD s.p.tk ⟨s.p.ls,s.p.se,s.p.fl,s.p.nx,s.p.lk⟩ (Ap s.xs s.i)=_ from AD ⟨Du c2,Du c3⟩];rfl
  ·have c1:s.n<=s.i:=A8
   refine ⟨rfl,?_⟩;rw [FA A0];rfl)
def aWH:aD->T LV
 | [.xl (.pair (.int J) (.pair (.int J) (.pair (.int J) (.pair (.int J) (.int J))))) l,.v (ag J t)]=> .req (DT l t=0) (.ok<|.AQ [BX l t,.ki J 0])
 |_=> .no
def aas:=uS f79 aWH
def akk:VV 79 aas:=λargs vals w Z lv h1 h2 h3 h4 h=>by
 have key:∃l t,lv=.AQ [.xl AO<|BX l t,.ki J 0]/\(yG args).all (λx=>x=.AQ [.xl AO<|BX l t,.v<|ag J 0]):=by
  unfold aas uS upS aWH at h;split at h
  ·rename_i l t e
   obtain ⟨g1,g2⟩:=h;refine ⟨l,t,g2.symm,?_⟩;unfold yG uS upS;rw [e]
   show LV.AQ [.xl AO _,.v<|ag J<|DT _ _]=_
   rw [g1]
  ·cases h
 obtain ⟨l,t,rfl,hk⟩:=key;refine (iR args vals w Z _ h1 h2 h3 h4 hk).mono λe w' ⟨hb,v,he,ho,hr⟩=>⟨hb,v,he,?_,?_⟩
 ·simp only [okV,AU] at ho|-
  grind
 ·simp only [R,RL] at hr|-
  exact hr
structure Lw where
 p:PK
 ev:EW
def Ux (s:Lw):aD:=[.own 16 0]
def Yy (s:Lw):aG:=[AP,AP,zB,AP,bV 42 Ae s.p.cs,bV 139 AO s.p.ls,bV 5 (.int aw) s.p.fl,bV 143 Ag s.p.ra,bV 95 B4 s.p.st,bV 75 AO s.p.ca,bV 148 BB s.p.mi,bV 98 BS s.p.me,bV 77 Ai s.p.dm,bV 154 BM s.p.lk,bV 3 A7 s.p.dr,bV 3 A7 s.p.tg,⟨[.os 4 11 0<|M s.p.cs,.xl .str s.p.os,.xl Ak s.p.ks,.xl Af s.p.gs,.xl Al s.p.bs,.v<|ag J s.p.tk,.v<|.bool s.p.up,.os 5 5 0<|M s.p.ls,.v<|ag J s.p.se,.os 6 1 0<|M s.p.fl,.os 7 2 0<|M s.p.ra,.v<|ag J s.p.nx,.os 8 4 0<|M s.p.st,.os 9 5 0<|M s.p.ca,.os 10 3 0<|M s.p.mi,.os 11 3 0<|M s.p.me,.os 12 4 0<|M s.p.dm,.os 13 6 0<|M s.p.lk,.os 14 1 0<|M s.p.dr,.os 15 1 0<|M s.p.tg,.v<|ag J s.ev.ek,.v<|ag J s.ev.en,.v<|ag J s.ev.em,.v<|ag J s.ev.c1,.v<|ag J s.ev.c2,.v<|ag J s.ev.c3,.v<|ag J s.ev.c4,.v<|ag J s.ev.c5,.v<|.bool s.ev.d1,.v<|ag J s.ev.d2,.v<|ag J s.ev.d3,.v<|ag J s.ev.d4,.v<|.slice aj 0 0],107,.cl,X⟩,AP]
def aHV (s:Lw):Lt:=(⟨{s.p with ls:=BX (AS s.p.ls) s.p.tk},s.ev⟩:Lt)
def qU (s:Lw):O3:=letI b:=BX (AS s.p.ls) s.p.tk;letI c:=AS<|E6 s.p.cs s.p.tg<|M s.p.tg;letI a:=deL c s.p.os s.p.ks s.p.gs s.p.bs b (AS s.p.ra) (AS s.p.dm) s.p.tk s.p.nx;(⟨a,(M a:Y),0,{s.p with ls:=b,fl:=AS s.p.fl,ra:=deR c s.p.os s.p.ks s.p.gs s.p.bs b (AS s.p.ra) (AS s.p.dm) s.p.tk s.p.nx,dm:=AS s.p.dm},s.ev⟩:O3)
structure Yk where
 p:PK
 ev:EW
def abZ (s:Yk):LV:=.v<|.tuple #[]
def acH (s:Yk):aG:=[AP,AP,zB,AP,bV 42 Ae s.p.cs,AP,AP,AP,bV 95 B4 s.p.st,bV 75 AO s.p.ca,bV 148 BB s.p.mi,bV 98 BS s.p.me,AP,AP,bV 3 A7 s.p.dr,bV 3 A7 s.p.tg,⟨[.os 4 11 0<|M s.p.cs,.xl .str s.p.os,.xl Ak s.p.ks,.xl Af s.p.gs,.xl Al s.p.bs,.v<|ag J s.p.tk,.v<|.bool s.p.up,.xl AO s.p.ls,.v<|ag J s.p.se,.xl (.int aw) s.p.fl,.xl Ag s.p.ra,.v<|ag J s.p.nx,.os 8 4 0<|M s.p.st,.os 9 5 0<|M s.p.ca,.os 10 3 0<|M s.p.mi,.os 11 3 0<|M s.p.me,.xl Ai s.p.dm,.xl BM s.p.lk,.os 14 1 0<|M s.p.dr,.os 15 1 0<|M s.p.tg,.v<|ag J s.ev.ek,.v<|ag J s.ev.en,.v<|ag J s.ev.em,.v<|ag J s.ev.c1,.v<|ag J s.ev.c2,.v<|ag J s.ev.c3,.v<|ag J s.ev.c4,.v<|ag J s.ev.c5,.v<|.bool s.ev.d1,.v<|ag J s.ev.d2,.v<|ag J s.ev.d3,.v<|ag J s.ev.d4,.v<|.slice aj 0 0],107,.cl,X⟩,AP]
def kB (s:Lw):T Yk:=letI a:=E6 s.p.cs s.p.tg<|M s.p.tg;letI b:=BX (AS s.p.ls) s.p.tk;letI c:=aEe<|qU s;letI d:=AS s.p.dm;.br (!s.p.up) (.rz s.p.ls<|.rz s.p.fl<|.rz s.p.ra<|.rz s.p.dm<|.rz s.p.lk<|.pd s.p<|.ok<|⟨{s.p with ls:=AS s.p.ls,fl:=AS s.p.fl,ra:=AS s.p.ra,dm:=AS s.p.dm,lk:=AS s.p.lk},s.ev⟩)<|.rz s.p.ls<|.req (DT (AS s.p.ls) s.p.tk=0)<|.rl s.p.cs<|.rl s.p.fl<|.rl s.p.ra<|.pb s.p<|.req (ak3<|aHV s)<|.rv (.xl AO b)<|.rv (.os 7 2 0<|M s.p.ra)<|.rv (.os 12 4 0<|M s.p.dm)<|.rv (.v<|ag J s.p.tk)<|.rv (.v<|ag J s.p.nx)<|.rz a<|.rz s.p.ra<|.rz s.p.dm<|.req (Iv d s.p.tk/\M d<=19)<|.br ((deE (AS a) s.p.os s.p.ks s.p.gs s.p.bs b (AS s.p.ra) d s.p.tk s.p.nx) !=0) (.rz s.p.fl<|.rz s.p.ra<|.rz s.p.dm<|.rz s.p.lk<|.pd s.p<|.ok<|⟨{s.p with ls:=b,fl:=AS s.p.fl,ra:=AS s.p.ra,dm:=AS s.p.dm,lk:=AS s.p.lk},s.ev⟩)<|.rz s.p.fl<|.rz s.p.dm<|.rl s.p.cs<|.rl s.p.st<|.rl s.p.ca<|.rl s.p.mi<|.rl s.p.me<|.rl s.p.lk<|.rl s.p.dr<|.rl s.p.tg<|.req (Ug.q<|qU s)<|.rz c.p.lk<|.pd s.p<|.ok<|⟨{s.p with ls:=c.p.ls,se:=c.p.se,fl:=c.p.fl,ra:=deR (AS a) s.p.os s.p.ks s.p.gs s.p.bs b (AS s.p.ra) d s.p.tk s.p.nx,nx:=c.p.nx,dm:=d,lk:=AS c.p.lk},s.ev⟩
def aGK {t:Y}{xs:aL}{s:SN}:∀k,k<=M xs->EN t xs s k=(xs.take k).foldl (FD t) s
 |0,_=>rfl
 |k+1,h=>by
  rw [EN,aGK k A0,Zx A0,List.foldl_append];rw [show Ap xs (k:Y)=xs[k]' A0 from Mh A0];rfl
def aqb {p:PK}:p.sn1=p.dL.foldl (FD p.tk) p.Gf:=by
 unfold PK.sn1;rw [aGK _<|Au _,El]
def arh {l:aL}{t:Y}(h:B2 l=U) (ht:0<=t/\t<=1000000):DT l t=0:=by
 have e:L0 l t=true:=by unfold L0;rw [h,B8.2 A0];rfl
 exact AD e
def RQ.wd {p:PK}(h:RQ p) (hv:VP p):Iv p.dm p.tk/\M p.dm<=19:=by
 have hg:=(Cz.1 hv.site).1
 have ht:=hv.tk
 refine ⟨⟨λx hx=>?_,A0,A0⟩,by rw [hv.dm];omega⟩
 have:=h.dm x hx
 unfold HK at this;simp only [AY,B8] at this;omega
def aEI (s:Lw):Prop:=(VP s.p/\RQ s.p)/\VK s.p.se s.p.fl/\B2 s.p.ls=U
def Xq (s:Lw):Yk:=⟨PK.AK s.p,s.ev⟩
def Pg:DA Lw Yk:=⟨Ux,Yy,λv b=>⟨rF b,rG b⟩,aEI,[0,1,3,17],[.pc 16 7 AO,.kb 5,.pc 16 9<|.int aw,.kb 6,.pc 16 10 Ag,.kb 7,.pc 16 16 Ai,.kb 12,.pc 16 17 BM,.kb 13],abZ,acH,Xq⟩
abbrev ak1 (s:Lw):Prop:=aEI s/\Ux s=Ux s/\Yy s=Yy s
def X5:aN:=[akk,aRM,aWy,aXn]
def aUq:Ax:=IT X5 (la 9 func65 aJX<|la 9 func23 Cx<|l0 X5) [⟨81,pG.m,aUy⟩]
def aWi:DZ:=DG 65 18 9 (Ug.lp)<|DG 23 0 9 (HS.lp)<|EM prog AT X5 20 2
def as6:EZ prog AT aWi:=DR func65 rfl AV aJX<|DR func23 rfl AV Cx<|I9<|gk X5
def agB (s:Lw):((Ep prog AT X5 aWi aUq).k 65 (Ux s)<|Yy s).bind (λq=>GW (M<|Yy s) [0] [.pc 16 7 AO,.kb 5,.pc 16 9<|.int aw,.kb 6,.pc 16 10 Ag,.kb 7,.pc 16 16 Ai,.kb 12,.pc 16 17 BM,.kb 13] .normal (q.1::Ux s) q.2)=(kB s).mp (λs2=>⟨.normal,M (Ux s)+1,[abZ s2],acH s2,U⟩):=AV
def aze (s:Lw) (hE:aEI s):(kB s).all (λq=>q=Xq s):=by
 obtain ⟨⟨hV,hR⟩,hK,hls⟩:=hE
 have hs:=Cz.1 hV.site
 have ht:=hV.Ew
 have hwd:=hR.wd hV
 have htk:=hV.tk
 have hx:DT s.p.ls s.p.tk=0:=arh hls htk
 have hxs:Dx s.p.ls s.p.tk=BX s.p.ls s.p.tk:=AD hx
 have hA:pA (aHV s):=⟨ht,by show M s.p.tg<=1000;omega⟩
 have q2:E6 s.p.cs s.p.tg (M s.p.tg)=s.p.EG:=rfl
 have e1:deE s.p.EG s.p.os s.p.ks s.p.gs s.p.bs (BX s.p.ls s.p.tk) s.p.ra s.p.dm s.p.tk s.p.nx=s.p.dE:=by unfold PK.dE;rw [hxs]
 have e2:deR s.p.EG s.p.os s.p.ks s.p.gs s.p.bs (BX s.p.ls s.p.tk) s.p.ra s.p.dm s.p.tk s.p.nx=s.p.dR:=by unfold PK.dR;rw [hxs]
 have e3:deL s.p.EG s.p.os s.p.ks s.p.gs s.p.bs (BX s.p.ls s.p.tk) s.p.ra s.p.dm s.p.tk s.p.nx=s.p.dL:=by unfold PK.dL;rw [hxs]
 have hst:qU s=⟨s.p.dL,(M s.p.dL:Y),0,{s.p with ls:=BX s.p.ls s.p.tk,ra:=s.p.dR},s.ev⟩:=by
  unfold qU;simp only [Fs,q2,e2,e3]
 have hB:lO ⟨s.p.dL,(M s.p.dL:Y),0,{s.p with ls:=BX s.p.ls s.p.tk,ra:=s.p.dR},s.ev⟩:=by
  refine ⟨rfl,rfl,?_,λx hx=>?_,htk,hK,?_⟩
  ·have:=xM (p:=s.p);show (M s.p.dL:Y)<=16;omega
  ·have:=aCy (p:=s.p) x hx;omega
  ·have:=hR.lk;show (M s.p.lk:Y)<=17000000+0;omega
 have q3:=(awe _ hB).2
 have q3:(aEe ⟨s.p.dL,(M s.p.dL:Y),0,{s.p with ls:=BX s.p.ls s.p.tk,ra:=s.p.dR},s.ev⟩).p=L6 {s.p with ls:=BX s.p.ls s.p.tk,ra:=s.p.dR} s.p.dL:=q3
 unfold kB;simp only [Fs,Xe,q2,e1,e2,hst,q3];refine ⟨λc=>?_,λc=>?_⟩
 ·have c:s.p.up=false:=I3
  repeat (refine ⟨Dk,?_⟩)
  show _=_
  unfold Xq;rw [show PK.AK s.p=s.p from AD c]
 have hu:¬s.p.up=false:=by intro h;rw [h] at c;cases c
 refine ⟨A0,hx,?_⟩
 repeat (refine ⟨AJ,?_⟩)
 refine ⟨⟨hA,rfl,rfl⟩,rfl,rfl,rfl,rfl,rfl,?_⟩
 repeat (refine ⟨Dk,?_⟩)
 refine ⟨λc1=>?_,λc1=>?_⟩
 ·have c1:s.p.dE≠0:=EH.1 c1
  repeat (refine ⟨AJ,?_⟩)
  show _=_
  unfold Xq;rw [show PK.AK s.p={s.p with ls:=Dx s.p.ls s.p.tk} by unfold PK.AK;rw [AE hu,AD c1],hxs]
 ·have c1:¬s.p.dE≠0:=λh=>aQW
  repeat (refine ⟨AJ,?_⟩)
  refine ⟨⟨hB,rfl,rfl⟩,?_⟩
  repeat (refine ⟨AJ,?_⟩)
  show _=_
  unfold Xq;rw [show PK.AK s.p=_ by unfold PK.AK;rw [AE hu,AE c1],aqb]
  unfold L6 PK.Gf;rw [hxs]
def Tf:Dn prog AT 65 Pg.m:=DA.sound (D:=Pg) (t:=kB) (gk X5) as6 aUq.h agB λs hE=>⟨aze s hE⟩
def FH {α:Type}(f:aC->α->α):aC->α->aC->α
 |_,s,0=>s
 |i,s,n+1=>FH f (i+1) (f i s) n
def aJv {α:Type}{f:aC->α->α}:∀ {n i:aC}{s:α},FH f i s (n+1)=f (i+n) (FH f i s n)
 |0,_,_=>rfl
 |n+1,i,s=>by
  rw [FH,aJv (n:=n) (i:=i+1),show i+1+n=i+(n+1) by omega]
  rfl
def XU {α:Type}{f:aC->α->α}{F:aC->α}(h:∀k,F (k+1)=f k (F k)):∀n,FH f 0 (F 0) n=F n
 |0=>rfl
 |n+1=>by rw [aJv,XU h n,h,F8]
def MS {α:Type}{f:aC->α->α}{s:α}{i n:Y}(h0:0<=i) (h:i<n):FH f i.toNat s (n-i).toNat=FH f (i+1).toNat (f i.toNat s) (n-(i+1)).toNat:=by
 rw [show (n-i).toNat=(n-(i+1)).toNat+1 by omega,FH,show (i+1).toNat=i.toNat+1 by omega]
def ry {α:Type}{f:aC->α->α}{s:α}{i n:Y}(h:n<=i):FH f i.toNat s (n-i).toNat=s:=by
 rw [show (n-i).toNat=0 by omega]
 rfl
def aJu {α:Type}{f:aC->List α->List α}(h:∀k s,M (f k s)=M s):∀ {n i:aC}{s:List α},M (FH f i s n)=M s
 |0,_,_=>rfl
 |n+1,i,s=>(aJu h (n:=n) (i:=i+1)).trans<|h i s
def tk1 (gs:aF) (i:Y) (_:aC) (st:bf):bf:=CX gs st i 8 0 0
def ayZ {gs:aF}{st:bf}{i:Y}:∀n,FH (tk1 gs i) 0 st n=L5 gs st i n:=XU (F:=L5 gs st i) λ_=>rfl
def cnt1 (gs:aF) (dr:aB) (t:Y) (k:aC) (st:bf):bf:=if HE t (gi dr k)=0/\HE (t+1) (gi dr k)=0 then L5 gs st k (Bh (t+1) (gi dr k)-Bh t (gi dr k)).toNat else st
def ajL {gs:aF}{dr:aB}{t:Y}{st:bf}:∀n,FH (cnt1 gs dr t) 0 st n=JS gs dr t st n:=XU (F:=JS gs dr t st) λ_=>rfl
def aoe {gs:aF}{ca:aXV}{s:DW}:∀n,FH (λk d=>Fh gs ca d (k:Y)) 0 s n=DV gs ca s n:=XU (F:=DV gs ca s) λ_=>rfl
def cw (gs:aF) (tg am:aB) (k:aC) (cs:aJ):aJ:=if gi tg k>=(AZ cs k).2.2.1 then cs else
  if (an (M am=M gs)&&DO (cs.set k<|GG (AZ cs k)<|gi tg k) gs am)=U then cs.set k (GG (AZ cs k)<|gi tg k) else cs
def aqe {gs:aF}{tg am:aB}{cs:aJ}:∀n,FH (cw gs tg am) 0 cs n=Cp gs tg am cs n:=XU (F:=Cp gs tg am cs) λ_=>rfl
def aUt {c:Ca}{m:Mi}{p al:Y}:0<=Ei c m p al/\Ei c m p al<=7:=by
 unfold Ei;split
 ·rename_i hB
  obtain ⟨hc,_,h1,h2,_⟩:=gr.1 hB
  have hc':=Wt.1 hc
  unfold Hc;split
  ·omega
  ·exact aFG ⟨A0,A0⟩ ⟨h1,h2⟩
 ·omega
def aXj {c:Ca}{m:Mi}{p al:Y}:IntKind.u64.wrap (Ei c m p al)=Ei c m p al:=by
 have:=aUt (c:=c) (m:=m) (p:=p) (al:=al)
 exact aPc
variable {gs : List Ch} {ca : List Ca} {st : List St} {mi : List Mi} {me : List Me} {dw : List Int} {i : Int}
def aog (h:(Be ca i).2.2.1=0):Fh gs ca ⟨st,mi,me,dw⟩ i=⟨st,mi,me,dw⟩:=AD h
def aof (h:¬(Be ca i).2.2.1=0) (h2:¬Jc (Be ca i) (CH mi i) (AG gs i).2.2.1 (Bk (AG gs i)<|BJ st i)=0):Fh gs ca ⟨st,mi,me,dw⟩ i=⟨st,mi,me,dw⟩:=by
 unfold Fh
 grind
def Ut (h:¬(Be ca i).2.2.1=0) (h2:Jc (Be ca i) (CH mi i) (AG gs i).2.2.1 (Bk (AG gs i)<|BJ st i)=0):
  Fh gs ca ⟨st,mi,me,dw⟩ i=⟨if Fg (Be ca i) (CH mi i) (AG gs i).2.2.1 (Bk (AG gs i)<|BJ st i)>Bk (AG gs i) (BJ st i) then CX gs st i 6 2 0 else st,mi.set i.toNat<|Jm (Be ca i) (CH mi i) (AG gs i).2.2.1<|Bk (AG gs i)<|BJ st i,
   if GA (Gk me i) (Fg (Be ca i) (CH mi i) (AG gs i).2.2.1<|Bk (AG gs i)<|BJ st i) (cnt<|Ei (Be ca i) (CH mi i) (AG gs i).2.2.1<|Bk (AG gs i)<|BJ st i)=0 then me.set i.toNat (Hq (Gk me i) (Fg (Be ca i) (CH mi i) (AG gs i).2.2.1<|Bk (AG gs i)<|BJ st i)<|cnt<|Ei (Be ca i) (CH mi i) (AG gs i).2.2.1<|Bk (AG gs i)<|BJ st i) else me,dw.set i.toNat<|Fg (Be ca i) (CH mi i) (AG gs i).2.2.1<|Bk (AG gs i)<|BJ st i⟩:=by
 unfold Fh
 grind
def aXh (t d:Y):0<=Bh t d/\Bh t d<=2000000:=by
 unfold Bh;split
 ·rename_i h
  simp only [AY,B8] at h
  have h1:0<=t*(1000000+d):=F7 A0 A0
  have h2:t*(1000000+d)<=1000000*2000000:=Int.mul_le_mul A0 A0 A0 A0
  omega
 ·omega
end Go.Proofs.YtpdndmobphnjcaaGreatDoor
namespace Go.Proofs.YtpdndmobphnjcaaGreatDoor
set_option maxRecDepth 100000
set_option maxHeartbeats 4000000
open Go.Proofs.Tryz
open Go.Sx
def aLM:aD->T LV
 | [.v (ag J r),.v (ag J m)]=> .req ((0<=r/\r<=2000000)/\0<=m/\m<=3000000) (.ok<|.v<|ag J<|m*r / 1000000)
 |_=> .no
def anZ:aN:=[]
def ayn:=vo (S:=aLM) func129 anZ kN (λargs lv h=>by
 unfold aLM at h;split at h
 ·rename_i r m
  refine Aq (.req ((1000000:Y)≠0)<|.ok<|AA<|(AA<|m*r).tdiv 1000000) ?_;obtain ⟨⟨⟨h1,h2⟩,h3,h4⟩,rfl⟩:=h
  have hm:0<=m*r/\m*r<=6000000000000:=⟨F7 h3 h1,F9 (N8 h2 h3) A0⟩
  refine ⟨A0,B0 (λz=>LV.v<|ag J z) ?_⟩
  rw [AI (x:=m*r),I0 hm.1];exact AI
 ·cases h)
def aVY:aD->T LV
 | [.v (ag J t),.v (ag J d)]=> .tu #[Bh t d,HE t d]
 |_=> .no
def aiO:aN:=[aRL,ayn]
def Xg:=vo (S:=aVY) func101 aiO kN (λargs lv h=>by
 unfold aVY at h;split at h
 ·rename_i t d
  refine Aq (letI a:=AA<|1000000+d;.br ((!(inB t 0 1000000)) ||((an<|d<(-200)) ||(an<|d>200))) (.tu #[(0:Y),(1:Y)])<|.req ((0<=a/\a<=2000000)/\0<=t/\t<=3000000)<|.tu #[ag J<|t*a / 1000000,(0:Y)]) ?_;obtain rfl:=h;unfold Bh HE;refine ⟨λc=>?_,λc=>?_⟩
  ·have:(inB t 0 1000000&&inB d (-200) 200)=false:=by
    cases ht:inB t 0 1000000
    ·rfl
    ·simp [ht] at c;simp [inB];omega
   rw [this];rfl
  ·have hh:inB t 0 1000000=U/\-200<=d/\d<=200:=by
    cases ht:inB t 0 1000000
    ·grind
    ·grind
   have:(inB t 0 1000000&&inB d (-200) 200)=true:=by rw [hh.1];simp [inB];omega
   have ht:=B8.1 hh.1
   rw [this,AI (x:=1000000+d)];exact ⟨⟨⟨A0,A0⟩,A0,A0⟩,rfl⟩
 ·cases h)
def aMM:aD->T LV
 | [.v (ag .u64 n)]=> .req (0<=n/\n<=7) (.ok<|cnt n)
 |_=> .no
def arC:Bw prog AT (DY []) (inl prog AT (DY []) (EM prog AT (DY []) 20 2) 9) Ao f105 [.v<|ag .u64 0]=.ok (cnt 0):=AV
def arB:Bw prog AT (DY []) (inl prog AT (DY []) (EM prog AT (DY []) 20 2) 9) Ao f105 [.v<|ag .u64 1]=.ok (cnt 1):=AV
def arA:Bw prog AT (DY []) (inl prog AT (DY []) (EM prog AT (DY []) 20 2) 9) Ao f105 [.v<|ag .u64 2]=.ok (cnt 2):=AV
def ar9:Bw prog AT (DY []) (inl prog AT (DY []) (EM prog AT (DY []) 20 2) 9) Ao f105 [.v<|ag .u64 3]=.ok (cnt 3):=AV
def ar8:Bw prog AT (DY []) (inl prog AT (DY []) (EM prog AT (DY []) 20 2) 9) Ao f105 [.v<|ag .u64 4]=.ok (cnt 4):=AV
def ar7:Bw prog AT (DY []) (inl prog AT (DY []) (EM prog AT (DY []) 20 2) 9) Ao f105 [.v<|ag .u64 5]=.ok (cnt 5):=AV
def ar6:Bw prog AT (DY []) (inl prog AT (DY []) (EM prog AT (DY []) 20 2) 9) Ao f105 [.v<|ag .u64 6]=.ok (cnt 6):=AV
def ar5:Bw prog AT (DY []) (inl prog AT (DY []) (EM prog AT (DY []) 20 2) 9) Ao f105 [.v<|ag .u64 7]=.ok (cnt 7):=AV
def auk {n:Y}(h1:0<=n) (h2:n<=7):Bw prog AT (DY []) (inl prog AT (DY []) (EM prog AT (DY []) 20 2) 9) Ao f105 [.v<|ag .u64 n]=.ok (cnt n):=by
 rcases eight h1 h2 with e|e|e|e|e|e|e|e
 ·rw [e];exact arC
 ·rw [e];exact arB
 ·rw [e];exact arA
 ·rw [e];exact ar9
 ·rw [e];exact ar8
 ·rw [e];exact ar7
 ·rw [e];exact ar6
 ·rw [e];exact ar5
def XB:VV 105 (uS f105 aMM):=qy func105 rfl (rR (l:=[]) trivial) (aFN (rR (l:=[]) trivial) (I9<|rR (l:=[]) trivial) 9) (tE AV) (λargs lv h=>by
 unfold aMM at h;split at h
 ·rename_i n
  simp only [canL,canX];rw [auk h.1.1 h.1.2];exact h.2
 ·cases h)
def Nu:aN:=[]
def axR:aD->T LV:=λl=>Bw prog AT Nu kN Ao f179<|canL l
def ayz:=vo (S:=axR) func179 Nu kN (λargs lv h=>by
 refine ⟨?_⟩
 assumption)
def axS:aD->T LV:=λl=>Bw prog AT Nu kN Ao f220<|canL l
def ayM:=vo (S:=axS) func220 Nu kN (λargs lv h=>by
 refine ⟨?_⟩
 assumption)
def akN:aD->T LV:=λl=>Bw prog AT Nu kN Ao f218<|canL l
def aXH:=vo (S:=akN) func218 Nu kN (λargs lv h=>by
 refine ⟨?_⟩
 assumption)
def ac1:aN:=[ayM]
def akM:aD->T LV:=λl=>Bw prog AT (ac1) kN Ao f219<|canL l
def aXG:=vo (S:=akM) func219 ac1 kN (λargs lv h=>by
 refine ⟨?_⟩
 assumption)
def akL:aD->T LV:=λl=>Bw prog AT Nu kN Ao f221<|canL l
def aXF:=vo (S:=akL) func221 Nu kN (λargs lv h=>by
 refine ⟨?_⟩
 assumption)
def akK:aD->T LV:=λl=>Bw prog AT Nu kN Ao f222<|canL l
def aXE:=vo (S:=akK) func222 Nu kN (λargs lv h=>by
 refine ⟨?_⟩
 assumption)
def ac0:aN:=[aXH,aXG,aXF,aXE]
def axO:aD->T LV:=λl=>Bw prog AT (ac0) kN Ao f180<|canL l
def ayu:=vo (S:=axO) func180 ac0 kN (λargs lv h=>by
 refine ⟨?_⟩
 assumption)
def aLd:aD->T LV
 | [.xq 8 q0,.v (ag J p2),.v (ag J al)]=>(match ([q0 0,q0 1,q0 2,q0 3,q0 4,q0 5,q0 6,q0 7]:aD) with
  | [.v (ag J k),.v (ag J ph),.v (ag J mx),.v (ag J nd),.v (ag J dl),.xl (.int J) pil,.v (ag J tk),.v (ag J got)]=> .req (GI (k,ph,mx,nd,dl)=U/\IQ (pil,tk,got)=U/\1<=p2/\p2<=7/\0<=al) (.tu #[Ey (k,ph,mx,nd,dl) (pil,tk,got) p2 al,Hc (k,ph,mx,nd,dl) (pil,tk,got) p2 al])
  |_=> .no)
 |_=> .no
def abt:aN:=[ayz,ayu,aXH,aXG,aXF,aXE]
def auu (k ph mx nd dl:Y) (pil:aB) (tk got p2 al:Y):letI a:=Bn J ph p2;letI c:=AA<|0-a;letI d:=(AA<|(M pil:Y)-dl);letI b:=gi pil d;Bw prog AT (abt) kN Ao f133 [xQ 8 [k,ph,mx,nd,dl,.xl A7 pil,tk,got],p2,al]=.br (((if k==2 then Bn J a c else Bn J ph p2)==0) ||(an<|got>=nd)) (.tu #[(0:Y),(0:Y)]) (.br (k==(0:Y)) (.br ((if al<mx then al else mx)==0) (.tu #[(0:Y),(0:Y)])<|.tu #[ag J (if al<mx then al else mx),ag J (if k==2 then Bn J a c else Bn J ph p2)])<|.br (k==(2:Y)) (.br ((if al<mx then al else mx)==0) (.tu #[(0:Y),(0:Y)])<|.tu #[ag J (if al<mx then al else mx),ag J (if k==2 then Bn J a c else Bn J ph p2)])<|.br (k==(1:Y)) (.br (dl==0) (.br ((if al<mx then al else mx)==0) (.tu #[(0:Y),(0:Y)])<|.tu #[ag J (if al<mx then al else mx),ag J (if k==2 then Bn J a c else Bn J ph p2)])<|.br (an<|d>=0) (.ix d (M pil)<|.br ((if (if b<al then b else al)<mx then if b<al then b else al else mx)==0) (.tu #[(0:Y),(0:Y)])<|.tu #[ag J (if (if b<al then b else al)<mx then if b<al then b else al else mx),ag J (if k==2 then Bn J a c else Bn J ph p2)])<|.br ((if (if (0:Y)<al then 0 else al)<mx then if (0:Y)<al then 0 else al else mx)==0) (.tu #[(0:Y),(0:Y)])<|.tu #[ag J (if (if (0:Y)<al then 0 else al)<mx then if (0:Y)<al then 0 else al else mx),ag J (if k==2 then Bn J a c else Bn J ph p2)])<|.br (k==(3:Y)) (.req (dl≠0)<|.req ((2:Y)≠0)<|.br (((AA<|tk.tdiv dl).tmod 2)==1) (.br ((if (0:Y)<mx then 0 else mx)==0) (.tu #[(0:Y),(0:Y)])<|.tu #[ag J (if (0:Y)<mx then 0 else mx),ag J (if k==2 then Bn J a c else Bn J ph p2)])<|.br ((if al<mx then al else mx)==0) (.tu #[(0:Y),(0:Y)])<|.tu #[ag J (if al<mx then al else mx),ag J (if k==2 then Bn J a c else Bn J ph p2)])<|.br (k==(4:Y)) (.br (al==0) (.br ((if (0:Y)<mx then 0 else mx)==0) (.tu #[(0:Y),(0:Y)])<|.tu #[ag J (if (0:Y)<mx then 0 else mx),ag J (if k==2 then Bn J a c else Bn J ph p2)])<|.br ((if mx<mx then mx else mx)==0) (.tu #[(0:Y),(0:Y)])<|.tu #[ag J (if mx<mx then mx else mx),ag J (if k==2 then Bn J a c else Bn J ph p2)])<|.no /-call of v -/):=AV
def ayL := vo (S:=aLd) func133 abt kN (λargs lv h=>by
 refine ⟨?_⟩;unfold aLd at h;split at h
 ·split at h
  case h_2=>cases h
  rename_i heq0;simp only [canL,canX];rw [E7 (n:=8) heq0];simp only [canL,canX];rw [auu];rename_i p2 al _ k ph mx nd dl pil tk got;obtain ⟨⟨hc,hm,hp1,hp2,hal⟩,rfl⟩:=h
  have hc:=Wt.1 hc
  have hm:=fX.1 hm
  simp only at hc hm
  have hl:=aG0 (a:=ph) (b:=p2) ⟨A0,A0⟩ ⟨A0,A0⟩
  have e0:(if (k==2)=U then Bn J (Bn J ph p2) (AA<|0-Bn J ph p2) else Bn J ph p2)=KC k ph p2:=by
   have hw:AA (0-Bn J ph p2)=-land ph p2:=by
    have:Bn J ph p2=land ph p2:=rfl
    rw [this,AI];omega
   rw [hw];unfold KC land;simp only [Cl]
  have ew:AA ((M pil:Y)-dl)=(M pil:Y)-dl:=AI
  have et:AA (tk.tdiv dl)=tk.tdiv dl:=by
   rw [I0 A0]
   have h1:0<=tk / dl:=Sl A0 A0
   have h2:tk / dl<=tk:=VB _ A0
   exact AI
  have hz:(KC k ph p2=0\/nd<=got)->Ey (k,ph,mx,nd,dl) (pil,tk,got) p2 al=0:=λh=>by unfold Ey;rw [AD h]
  have hn:¬(KC k ph p2=0\/nd<=got)->Ey (k,ph,mx,nd,dl) (pil,tk,got) p2 al=min mx (H9 (k,ph,mx,nd,dl) (pil,tk,got) al):=λh=>by unfold Ey;rw [AE h]
  have w0:k≠1->k≠3->k≠4->H9 (k,ph,mx,nd,dl) (pil,tk,got) al=al:=λh1 h2 h3=>by simp [H9,h1,h2,h3]
  have w1a:k=1->dl=0->H9 (k,ph,mx,nd,dl) (pil,tk,got) al=al:=λh1 h2=>cZ
  have w1b:k=1->dl≠0->0<=(M pil:Y)-dl->H9 (k,ph,mx,nd,dl) (pil,tk,got) al=min al (gi pil<|(M pil:Y)-dl):=λh1 h2 h3=>by
   simp only [H9,h1,h2,Bu,GL,dH,MJ];rw [AD h3];rfl
  have w1c:k=1->dl≠0->(M pil:Y)-dl<0->H9 (k,ph,mx,nd,dl) (pil,tk,got) al=min al 0:=λh1 h2 h3=>by
   simp only [H9,h1,h2,Bu,GL,dH,MJ];rw [AE A0]
  have w3a:k=3->(tk.tdiv dl).tmod 2=1->H9 (k,ph,mx,nd,dl) (pil,tk,got) al=0:=λh1 h2=>cZ
  have w3b:k=3->¬(tk.tdiv dl).tmod 2=1->H9 (k,ph,mx,nd,dl) (pil,tk,got) al=al:=λh1 h2=>cZ
  have w4a:k=4->al=0->H9 (k,ph,mx,nd,dl) (pil,tk,got) al=0:=λh1 h2=>cZ
  have w4b:k=4->al≠0->H9 (k,ph,mx,nd,dl) (pil,tk,got) al=mx:=λh1 h2=>cZ
  have ho1:Ey (k,ph,mx,nd,dl) (pil,tk,got) p2 al=0->Hc (k,ph,mx,nd,dl) (pil,tk,got) p2 al=0:=λh=>by unfold Hc;rw [AD h]
  have ho2:Ey (k,ph,mx,nd,dl) (pil,tk,got) p2 al≠0->Hc (k,ph,mx,nd,dl) (pil,tk,got) p2 al=KC k ph p2:=λh=>by unfold Hc;rw [AE h]
  have fin:∀a o:Y,a=Ey (k,ph,mx,nd,dl) (pil,tk,got) p2 al->o=Hc (k,ph,mx,nd,dl) (pil,tk,got) p2 al->LV.v (.tuple #[ag J a,ag J o])=LV.v (.tuple #[ag J<|Ey (k,ph,mx,nd,dl) (pil,tk,got) p2 al,ag J<|Hc (k,ph,mx,nd,dl) (pil,tk,got) p2 al]):=λa o h1 h2=>aAi
  simp only [e0,ew,et]
  clear e0 ew hl et
  generalize Ey (k,ph,mx,nd,dl) (pil,tk,got) p2 al=qA at*;generalize Hc (k,ph,mx,nd,dl) (pil,tk,got) p2 al=qO at*;generalize H9 (k,ph,mx,nd,dl) (pil,tk,got) al=qw at*;generalize KC k ph p2=qc at*;generalize gi pil ((M pil:Y)-dl)=qg at*;refine ⟨λc1=>?_,λc1=>?_⟩
  ·simp only [Cl,CY,ne_eq,CS,HN,Ac,DI,MJ,QO] at*
   refine fin _ _ ?_ ?_<;>(clear fin w0 w1a w1b w1c w3a w3b w4a w4b;omega)
  ·refine ⟨λc2=>?_,λc2=>?_⟩
   ·refine ⟨λc3=>?_,λc3=>?_⟩
    ·exact nU
    ·exact nU
   ·refine ⟨λc3=>?_,λc3=>?_⟩
    ·refine ⟨λc4=>?_,λc4=>?_⟩
     ·exact nU
     ·exact nU
    ·refine ⟨λc4=>?_,λc4=>?_⟩
     ·refine ⟨λc5=>?_,λc5=>?_⟩
      ·refine ⟨λc6=>?_,λc6=>?_⟩
       ·exact np
       ·exact np
      ·refine ⟨λc6=>?_,λc6=>?_⟩
       ·refine ⟨?_,?_⟩
        ·simp only [Cl,CY,ne_eq,CS,HN,Ac,DI,MJ,QO] at*
         (first|decide|(clear fin w0 w3a w3b w4a w4b;omega))
        ·exact aPe
       ·exact aPe
     ·refine ⟨λc5=>?_,λc5=>?_⟩
      ·refine ⟨?_,?_⟩
       ·exact aNo
       ·refine ⟨?_,?_⟩
        ·exact aNo
        ·refine ⟨λc6=>?_,λc6=>?_⟩
         ·exact aPC
         ·exact aPC
      ·refine ⟨λc6=>?_,λc6=>?_⟩
       ·refine ⟨λc7=>?_,λc7=>?_⟩
        ·exact aPD
        ·exact aPD
       ·exfalso
        simp only [Cl,CY,ne_eq,CS,HN,Ac,DI,MJ,QO] at*
        clear fin hz hn ho1 ho2 w0 w1a w1b w1c w3a w3b w4a w4b
        omega
 ·cases h)
def aLX:aD->T LV
 | [.xq 8 q0,.v (ag J al),.v (ag J am),.v (ag J on)]=>(match ([q0 0,q0 1,q0 2,q0 3,q0 4,q0 5,q0 6,q0 7]:aD) with
  | [.v (ag J k),.v (ag J ph),.v (ag J mx),.v (ag J nd),.v (ag J dl),.xl (.int J) pil,.v (ag J tk),.v (ag J got)]=> .req (IQ (pil,tk,got)=U/\0<=am/\am<=80/\0<=on/\on<=7) (.ok<|.agg [.xl A7<|dwP pil al,.v<|ag J<|tk+1,.v<|ag J<|got+2300*am*cnt on])
  |_=> .no)
 |_=> .no
def abr:aN:=[XB]
def aus (k ph mx nd dl:Y) (pil:aB) (tk got al am on:Y):letI a:=(AA<|(((0:Y).toNat+M pil+M ([al]):aC):Y)-21);letI b:=(aq (0:Y).toNat (0:Y));letI c:=IntKind.u64.wrap on;letI d:=(AA<|(M pil:Y)+1);letI e:=(b++pil)++([al]);letI f:=AA<|got+(AA<|(AA<|2300*am)*(cnt c));Bw prog AT (abr) kN Ao f134 [xQ 8 [k,ph,mx,nd,dl,.xl A7 pil,tk,got],al,am,on]=.req (0<=(0:Y)/\(0:Y)<=d/\8*d<=2^48/\d<2^63) (.ra (0:Y).toNat (M b) ((0:Y).toNat+M pil) 8<|.ra ((0:Y).toNat+M pil) (M<|b++pil) ((0:Y).toNat+M pil+M ([al])) 8<|.br (an<|(((0:Y).toNat+M pil+M ([al]):aC):Y)>21) (.req (0<=a/\a<=(((0:Y).toNat+M pil+M ([al]):aC):Y)/\(((0:Y).toNat+M pil+M ([al]):aC):Y)<=(((0:Y).toNat+M pil+M ([al]):aC):Y))<|.req (0<=c/\c<=7)<|.req ((0+a.toNat)+((((0:Y).toNat+M pil+M ([al]):aC):Y).toNat-a.toNat)<=M e)<|.ok<|.agg [.xl A7<|(e.drop<|0+a.toNat).take<|(((0:Y).toNat+M pil+M ([al]):aC):Y).toNat-a.toNat,AA<|tk+1,f])<|.req (0<=c/\c<=7)<|.req (0+((0:Y).toNat+M pil+M ([al]))<=M e)<|.ok<|.agg [.xl A7<|(e.drop 0).take<|(0:Y).toNat+M pil+M ([al]),AA<|tk+1,f]):=AV
def ayv :=vo (S:=aLX) func134 abr kN (λargs lv h=>by
 refine ⟨?_⟩;unfold aLX at h;split at h
 ·split at h
  case h_2=>cases h
  rename_i heq0;simp only [canL,canX];rw [E7 (n:=8) heq0];simp only [canL,canX];rw [aus];rename_i al am on _ k ph mx nd dl pil tk got;obtain ⟨⟨hm,ha1,ha2,ho1,ho2⟩,rfl⟩:=h
  have hm:=fX.1 hm
  simp only at hm
  have hu:IntKind.u64.wrap on=on:=by simp [IntKind.wrap,IntKind.bits,IntKind.signed];omega
  have ht:AA (tk+1)=tk+1:=AI
  have hcn:0<=cnt on/\cnt on<=3:=by unfold cnt;omega
  have hg:AA (got+AA (AA (2300*am)*cnt on))=got+2300*am*cnt on:=by
   rw [AI (x:=2300*am)]
   have:cnt on=0\/cnt on=1\/cnt on=2\/cnt on=3:=A0
   rcases this with e|e|e|e<;>rw [e,AI (x:=2300*am*_),AI]
  have h0:(0:Y).toNat=0:=rfl
  have hw1:AA ((M pil:Y)+1)=(M pil:Y)+1:=AI
  have hw2:AA (((M pil+1:aC):Y)-21)=(M pil:Y)-20:=by rw [AI];omega
  have fin:∀(p:aB),p=dwP pil al->LV.agg [.xl A7 p,.v<|ag J<|tk+1,.v<|ag J<|got+2300*am*cnt on]=LV.agg [.xl A7<|dwP pil al,.v<|ag J<|tk+1,.v<|ag J<|got+2300*am*cnt on]:=λp h=>Ve
  simp only [h0,List.replicate_zero,Ek,BG,Bm,C3,F8,hu,ht,hg,hw1,hw2];refine ⟨?_,?_⟩
  ·(try simp only [Ac,DI] at c1);first|omega|(simp;done) |(simp;omega)
  ·refine ⟨?_,?_⟩
   ·(try simp only [Ac,DI] at c1);first|omega|(simp;done) |(simp;omega)
   ·refine ⟨?_,?_⟩
    ·(try simp only [Ac,DI] at c1);first|omega|(simp;done) |(simp;omega)
    ·refine ⟨λc1=>?_,λc1=>?_⟩
     ·refine ⟨?_,?_⟩
      ·(try simp only [Ac,DI] at c1);first|omega|(simp;done) |(simp;omega)
      ·refine ⟨?_,?_⟩
       ·(try simp only [Ac,DI] at c1);first|omega|(simp;done) |(simp;omega)
       ·refine ⟨?_,?_⟩
        ·(try simp only [Ac,DI] at c1);first|omega|(simp;done) |(simp;omega)
        ·refine fin _ ?_
         unfold dwP;simp only [Ac,DI] at c1;rw [show ((M pil:Y)-20).toNat=M pil-20 by omega]
         exact Dj (by rw [FQ,BG];simp only [Bm,C3];omega)
     ·refine ⟨?_,?_⟩
      ·omega
      ·refine ⟨?_,?_⟩
       ·omega
       ·refine fin _ ?_
        unfold dwP;simp only [Ac,DI] at c1;rw [show M pil-20=0 by omega]
        grind
 ·cases h)
def aWL:aD->T LV
 | [.v (.agg ⟨[ag J k,ag J ph,ag J mx,ag J nd,ag J dl]⟩),.agg [.xl (.int J) pil,.v (ag J tk),.v (ag J got)],.v (ag J p2),.v (ag J al)]=> .ok (.AQ [Fg (k,ph,mx,nd,dl) (pil,tk,got) p2 al,Ei (k,ph,mx,nd,dl) (pil,tk,got) p2 al,.agg [.xl A7 (Jm (k,ph,mx,nd,dl) (pil,tk,got) p2 al).1,(Jm (k,ph,mx,nd,dl) (pil,tk,got) p2 al).2.1,(Jm (k,ph,mx,nd,dl) (pil,tk,got) p2 al).2.2],Jc (k,ph,mx,nd,dl) (pil,tk,got) p2 al])
 |_=> .no
def ana:aN:=[aXL,alB,aRP,ayL,ayv]
def Xk:=vo (S:=aWL) func103 ana kN (λargs lv h=>by
 unfold aWL at h;split at h
 ·rename_i k ph mx nd dl pil tk got p2 al
  refine Aq (letI a:=(k,ph,mx,nd,dl);letI b:=(pil,tk,got);letI c:=Ey a b p2 al;letI d:=Hc a b p2 al;.br ((!(GI a)) ||((!(IQ b)) ||((!(inB p2 (1:Y) (7:Y))) ||((!(inB al (0:Y) (80:Y))) ||(tk==1000000))))) (.ok<|.AQ [(0:Y),(0:Y),.agg [.xl A7 ([]:aB),(0:Y),(0:Y)],(1:Y)])<|.req (GI a=U/\IQ b=U/\1<=p2/\p2<=7/\0<=al)<|.req (IQ b=U/\0<=c/\c<=80/\0<=d/\d<=7)<|.ok<|.AQ [c,d,.agg [.xl A7<|dwP pil al,.v<|ag J<|tk+1,.v<|ag J<|got+2300*c*cnt d],(0:Y)]) ?_;obtain rfl:=h
  have e:((!(GI (k,ph,mx,nd,dl))) ||((!(IQ (pil,tk,got))) ||((!(inB p2 (1:Y) (7:Y))) ||((!(inB al (0:Y) (80:Y))) ||(tk==1000000)))))=!(dwB (k,ph,mx,nd,dl) (pil,tk,got) p2 al):=by simp [dwB,bne]
  rw [e];unfold Fg Ei Jm Jc;refine ⟨λc1=>?_,λc1=>?_⟩
  ·have hB:dwB (k,ph,mx,nd,dl) (pil,tk,got) p2 al=false:=AX
   rw [hB];rfl
  ·have hB:dwB (k,ph,mx,nd,dl) (pil,tk,got) p2 al=true:=A8
   rw [hB];obtain ⟨hc,hm,h1,h2,h3,h4,h5⟩:=gr.1 hB;obtain ⟨b1,b2,b3,b4⟩:=aGv hc hm ⟨h1,h2⟩ ⟨h3,h4⟩;exact ⟨⟨hc,hm,h1,h2,h3⟩,⟨hm,b1,by have:=Wt.1 hc;omega,b3,b4⟩,rfl⟩
 ·cases h)
structure O7 where
 xs:aXP
 (n i:Y)
 p:PK
 ev:EW
 left:aXP
def UJ (s:O7):T (Rd O7):=letI b:=Fy s.xs s.i;letI c:=s.left++([b]);letI d:=M s.left+M ([b]);letI e:=AA<|s.i+1;letI f:=M s.p.st;letI g:=s.p.st.getD b.2.2.1.toNat<|Ty.dflt B4;letI h:=M<|[b];letI j:=M s.left;letI a:=(s.p.st.set b.2.2.1.toNat<|sN (AG s.p.gs b.2.2.1) g (7:Y) b.2.2.2.1 b.2.2.2.2.2);.br (an<|s.i<s.n) (.ix s.i (M s.xs)<|.br (an<|b.1>s.p.tk) (.br U (.rb j h 48<|.re d c<|.pd s.p<|.nx {s with i:=e,left:=c})<|.rl s.left<|.pd s.p<|.nx {s with i:=e})<|.ix b.2.2.1 (M s.p.gs)<|.ik b.2.2.1 f<|.br ((sE (AG s.p.gs b.2.2.1) g (7:Y) b.2.2.2.1 b.2.2.2.2.2)==0) (.ik b.2.2.1 f<|.br X (.rb j h 48<|.re d c<|.rl s.p.cs<|.re f a<|.rl s.p.ca<|.rl s.p.mi<|.rl s.p.me<|.rl s.p.dr<|.rl s.p.tg<|.nx {s with i:=e,p.st:=a,left:=c})<|.rl s.left<|.rl s.p.cs<|.re f a<|.rl s.p.ca<|.rl s.p.mi<|.rl s.p.me<|.rl s.p.dr<|.rl s.p.tg<|.nx {s with i:=e,p.st:=a})<|.br X (.rb j h 48<|.re d c<|.pd s.p<|.nx {s with i:=e,left:=c})<|.rl s.left<|.pd s.p<|.nx {s with i:=e})<|.rl s.left<|.pd s.p<|.so (.exit 0) s
def arr1 (gs:aF) (t:Y) (st:bf) (l:Lk):bf:=if l.1>t then st else CX gs st l.2.2.1 7 l.2.2.2.1 l.2.2.2.2.2
def aUO {l:aXP}{i:Y}(h0:0<=i) (h:i<M l):Fy l i∈l/\l.drop i.toNat=Fy l i::l.drop (i+1).toNat:=by
 have e:Fy l i=l[i.toNat]' A0:=by unfold Fy;rw [DH,Di A0];rfl
 rw [e];exact ⟨Gl _,by rw [Sr A0,show (i+1).toNat=i.toNat+1 by omega]⟩
def aGi {gs:aF}{lk:aXP}{t:Y}{st:bf}:∀k,k<=M lk->LH gs lk t st k=(lk.take k).foldl (arr1 gs t) st
 |0,_=>rfl
 |k+1,h=>by
  have e:Fy lk (k:Y)=lk[k]' A0:=by unfold Fy;rw [C2,DH,Di A0];rfl
  rw [LH,aGi k A0,Zx A0,List.foldl_append,<-e];rfl
def pB (s:O7):Prop:=s.i=0/\s.n=(M s.xs:Y)/\s.n<=20000000/\(M s.left:Y)<=s.i/\(∀l∈s.xs,0<=l.2.2.1/\l.2.2.1<(M s.p.gs:Y))/\M s.p.st=M s.p.gs
def mQ (s:O7):Prop:=0<=s.i/\s.i<=s.n/\s.n=(M s.xs:Y)/\s.n<=20000000/\(M s.left:Y)<=s.i/\(∀l∈s.xs,0<=l.2.2.1/\l.2.2.1<(M s.p.gs:Y))/\M s.p.st=M s.p.gs
def tF (s:O7):aC:=(s.n-s.i).toNat
def aci (x:Ex) (s s':O7):Prop:=True
def aoV:∀s,pB s->mQ s:=by
 rintro s ⟨h0,h2,h3,h4⟩
 exact zv
def aj1:Da mQ tF aci UJ:=by
 intro s hI;unfold UJ;dsimp only [T.rd,T.rl,T.rv];obtain ⟨h0,h1,h2,h3,h4,h5,h6⟩:=hI;refine AH (λc1=>AH (λc2=>?_) λc2=>AH (λc3=>?_) λc3=>?_) λc1=>trivial
 all_goals have c1:s.i<s.n:=AX
 all_goals rw [AI (x:=s.i+1)]
 ·exact AH (λ_=>⟨⟨Aa,Aa,h2,h3,A8,h5,h6⟩,aAW⟩) λc=>DP
 ·exact AH (λc=>DP) λ_=>⟨⟨Aa,Aa,h2,h3,Aa,h5,A8⟩,aAW⟩
 ·exact AH (λc=>DP) λ_=>⟨⟨A8,Aa,h2,h3,Aa,h5,h6⟩,aAW⟩
def Uk:AR O7:=⟨19,30,[0,1,4,11,12,13],[.nl 4 154 BM],λs=>[.own 16 0,.fn 100 [.own 18 0],.os 19 6 0<|M s.left,s.xs,s.n,s.i],λs=>[AP,AP,zB,AP,bV 42 Ae s.p.cs,AP,AP,AP,bV 95 B4 s.p.st,bV 75 AO s.p.ca,bV 148 BB s.p.mi,bV 98 BS s.p.me,AP,AP,bV 3 A7 s.p.dr,bV 3 A7 s.p.tg,⟨[.os 4 11 0<|M s.p.cs,.xl .str s.p.os,.xl Ak s.p.ks,.xl Af s.p.gs,.xl Al s.p.bs,.v<|ag J s.p.tk,.v<|.bool s.p.up,.xl AO s.p.ls,.v<|ag J s.p.se,.xl (.int aw) s.p.fl,.xl Ag s.p.ra,.v<|ag J s.p.nx,.os 8 4 0<|M s.p.st,.os 9 5 0<|M s.p.ca,.os 10 3 0<|M s.p.mi,.os 11 3 0<|M s.p.me,.xl Ai s.p.dm,.xl BM s.p.lk,.os 14 1 0<|M s.p.dr,.os 15 1 0<|M s.p.tg,.v<|ag J s.ev.ek,.v<|ag J s.ev.en,.v<|ag J s.ev.em,.v<|ag J s.ev.c1,.v<|ag J s.ev.c2,.v<|ag J s.ev.c3,.v<|ag J s.ev.c4,.v<|ag J s.ev.c5,.v<|.bool s.ev.d1,.v<|ag J s.ev.d2,.v<|ag J s.ev.d3,.v<|ag J s.ev.d4,.v<|.slice aj 0 0],107,.cl,X⟩,AP,⟨[.own 16 0],103,.cl,X⟩,bV 154 BM s.left],λv b=>⟨B1 BM v 3,AL v 4,AL v 5,rT b,rG b,Ab BM b 19⟩,UJ,λs r=> {s with i:=r.i,p.st:=r.p.st,left:=r.left},λs=>s,λ_ s=>s,[.exit 0],pB,mQ,tF⟩
abbrev KV:=Uk.run
abbrev ax4:=Uk.At
def xU:aN:=[XD,iO,Xg,Xl,Xk,Xi,XB,XE,RC]
def ahE:Ax:=IT xU (la 9 func23 Cx<|l0 xU) [⟨65,Pg.m,Tf⟩]
def afE:Rq mQ UJ:=by
 intro s hI;refine ⟨λc1=>⟨?_,λc2=>⟨λc3=>⟨?_,?_,A9,A9,A9,A9,A9,A9,A9,ak⟩,λc3=>⟨A9,A9,A9,A9,A9,A9,A9,A9,ak⟩⟩,λc2=>⟨?_,?_,?_,λc4=>⟨?_,?_,λc5=>⟨?_,?_,A9,?_,A9,A9,A9,A9,A9,ak⟩,λc5=>⟨A9,A9,?_,A9,A9,A9,A9,A9,ak⟩⟩,λc4=>⟨λc6=>⟨?_,?_,A9,A9,A9,A9,A9,A9,A9,ak⟩,λc6=>⟨A9,A9,A9,A9,A9,A9,A9,A9,ak⟩⟩⟩⟩,λc1=>⟨A9,A9,A9,A9,A9,A9,A9,A9,ak⟩⟩
 all_goals ((obtain ⟨h0,h1,h2,h3,h4,h5,h6⟩:=hI;simp only [Ac] at c1;have hm:=h5 _ (aUO h0 (show s.i<(M s.xs:Y) by omega)).1;first|omega|exact ⟨rfl,AJ⟩ |(simp only [Bm,C3,BG];omega) |(simp only [BG,Bm,C3,Em];done)))
def aU8:Uk.Ok:={}
def aSY:Uk.Pf (aci):=⟨aoV,λs h=>rfl,aj1,afE⟩
def Lh:=s2 (b:=bN f76 0) aU8 aSY xU ahE
def axD:Rs pB ax4 KV (λs:O7=>((s.xs.drop s.i.toNat).foldl (arr1 s.p.gs s.p.tk) s.p.st,s.left++(s.xs.drop s.i.toNat).filter (λl=>an<|l.1>s.p.tk))) (λx s' (v:List St×List Lk)=>x=.exit 0/\(s'.p.st,s'.left)=v):=Dp aU8 aSY (λs hI=>by
  show DF _ _ ((UJ s).rd s)
  unfold UJ;dsimp only [T.rd,T.rl];obtain ⟨h0,h1,h2,h3,h4,h5,h6⟩:=hI;refine AH (λc1=>?_) λc1=>?_
  ·have c1:s.i<s.n:=A8
   have e:=(aUO h0 (show s.i<(M s.xs:Y) by omega)).2
   rw [AI (x:=s.i+1),e];refine AH (λc2=>?_) λc2=>AH (λc3=>?_) λc3=>?_
   ·refine AH (λ_=>?_) (λc=>DP)
    have c2':=DJ c2
    show (_,_)=(_,_)
    rw [KK,NC,AD c2,show arr1 s.p.gs s.p.tk s.p.st (Fy s.xs s.i)=s.p.st from AD c2',Cw];rfl
   ·refine AH (λc=>DP) (λ_=>?_)
    have c2':=KI c2
    rw [KK,NC,AE A8,show arr1 s.p.gs s.p.tk s.p.st (Fy s.xs s.i)=_ from (AE c2').trans<|AD<|eq_of_beq c3];rfl
   ·refine AH (λc=>DP) (λ_=>?_)
    have c2':=KI c2
    show (_,_)=(_,_)
    rw [KK,NC,AE A8,show arr1 s.p.gs s.p.tk s.p.st (Fy s.xs s.i)=_ from (AE c2').trans<|AE<|CY.1 c3]
  ·have c1:s.n<=s.i:=A8
   refine ⟨rfl,?_⟩;rw [FA A0]
   simp)
structure O5 where
 (i on oi m k:Y)
 p:PK
 ev:EW
def aIX:=lN (bN f67 0) 0
def aBk (s:O5):T (Rd O5):=letI b:=s.p.st.getD s.i.toNat<|Ty.dflt B4;letI c:=M s.p.st;letI a:=(s.p.st.set s.i.toNat<|sN (AG s.p.gs s.i) b (8:Y) (0:Y) (0:Y));.br (an<|s.k<s.m) (.ix s.i (M s.p.gs)<|.ik s.i c<|.br ((sE (AG s.p.gs s.i) b (8:Y) (0:Y) (0:Y))==0) (.ik s.i c<|.rl s.p.dr<|.rl s.p.cs<|.re c a<|.rl s.p.ca<|.rl s.p.mi<|.rl s.p.me<|.rl s.p.dr<|.rl s.p.tg<|.nx {s with k:=AA<|s.k+1,p.st:=a})<|.rl s.p.dr<|.pd s.p<|.nx {s with k:=AA<|s.k+1})<|.rl s.p.dr<|.pd s.p<|.so (.exit 2) s
def ZA (s:O5):Prop:=s.k=0/\(0<=s.i/\s.i<(M s.p.gs:Y))/\M s.p.st=M s.p.gs/\s.m<=4000000
def mO (s:O5):Prop:=0<=s.k/\(0<=s.i/\s.i<(M s.p.gs:Y))/\M s.p.st=M s.p.gs/\s.m<=4000000
def jB (s:O5):aC:=(s.m-s.k).toNat
def acf (x:Ex) (s s':O5):Prop:=True
def aoL:∀s,ZA s->mO s:=by
 rintro s ⟨h0,h2⟩
 exact ⟨A0,h2⟩
def ajO:Da mO jB acf aBk:=by
 intro s hI;obtain ⟨h0,h1,h2,h3⟩:=hI;refine AH (λc1=>AH (λc2=>?_) λc2=>?_) λc1=>trivial
 all_goals have c1:s.k<s.m:=A8
 all_goals rw [AI (x:=s.k+1)]
 ·exact ⟨⟨A8,h1,A8,h3⟩,by simp only [jB];omega⟩
 ·exact ⟨⟨A8,h1,h2,h3⟩,by simp only [jB];omega⟩
def Rm:AR O5:=⟨20,57,[0,2,12,13,14,48,49],[],λs=>[.own 16 0,s.i,.os 14 1 0<|M s.p.dr,s.on,s.oi,s.m,s.k],λs=>[AP,AP,zB,AP,bV 42 Ae s.p.cs,AP,AP,AP,bV 95 B4 s.p.st,bV 75 AO s.p.ca,bV 148 BB s.p.mi,bV 98 BS s.p.me,AP,AP,bV 3 A7 s.p.dr,bV 3 A7 s.p.tg,⟨[.os 4 11 0<|M s.p.cs,.xl .str s.p.os,.xl Ak s.p.ks,.xl Af s.p.gs,.xl Al s.p.bs,.v<|ag J s.p.tk,.v<|.bool s.p.up,.xl AO s.p.ls,.v<|ag J s.p.se,.xl (.int aw) s.p.fl,.xl Ag s.p.ra,.v<|ag J s.p.nx,.os 8 4 0<|M s.p.st,.os 9 5 0<|M s.p.ca,.os 10 3 0<|M s.p.mi,.os 11 3 0<|M s.p.me,.xl Ai s.p.dm,.xl BM s.p.lk,.os 14 1 0<|M s.p.dr,.os 15 1 0<|M s.p.tg,.v<|ag J s.ev.ek,.v<|ag J s.ev.en,.v<|ag J s.ev.em,.v<|ag J s.ev.c1,.v<|ag J s.ev.c2,.v<|ag J s.ev.c3,.v<|ag J s.ev.c4,.v<|ag J s.ev.c5,.v<|.bool s.ev.d1,.v<|ag J s.ev.d2,.v<|ag J s.ev.d3,.v<|ag J s.ev.d4,.v<|.slice aj 0 0],107,.cl,X⟩,AP,AP,AP],λv b=>⟨AL v 1,AL v 3,AL v 4,AL v 5,AL v 6,rT b,rG b⟩,aBk,λs r=> {s with k:=r.k,p.st:=r.p.st},λs=>s,λ_ s=>s,[.exit 2],ZA,mO,jB⟩
abbrev Wp:=Rm.run
abbrev ax2:=Rm.At
def XX:aN:=[XD,iO,Xg,Xl,Xk,Xi,XB,XE,RC]
def xu:Ax:=IT XX (la 2 func76 Lh<|la 9 func23 Cx<|l0 XX) [⟨65,Pg.m,Tf⟩]
def afA:Rq mO aBk:=by
 intro s hI;refine ⟨λc1=>⟨?_,?_,?_,λc2=>⟨?_,?_,A9,A9,?_,A9,A9,A9,A9,A9,ak⟩,λc2=>⟨A9,A9,A9,A9,A9,A9,A9,A9,ak⟩⟩,λc1=>⟨A9,A9,A9,A9,A9,A9,A9,A9,ak⟩⟩
 all_goals ((obtain ⟨h0,h1,h2,h3⟩:=hI;first|omega|exact ⟨rfl,AJ⟩))
def aT9:Rm.Ok:={}
def aSV:Rm.Pf (acf):=⟨aoL,λs h=>rfl,ajO,afA⟩
def auL:SA 20 aIX Rm:=s2 aT9 aSV XX xu
def aKU:Rs ZA ax2 Wp (λs:O5=>FH (tk1 s.p.gs s.i) s.k.toNat s.p.st (s.m-s.k).toNat) (λx s' (v:bf)=>x=.exit 2/\s'.p.st=v):=Dp aT9 aSV (λs hI=>by
  obtain ⟨h0,h1,h2,h3⟩:=hI;refine AH (λc1=>?_) λc1=>?_
  ·have c1:s.k<s.m:=A8
   rw [AI (x:=s.k+1),MS h0 c1];refine AH (λc2=>?_) λc2=>?_
   ·rw [show tk1 s.p.gs s.i s.k.toNat s.p.st=_ from AD<|eq_of_beq c2]
    rfl
   ·rw [show tk1 s.p.gs s.i s.k.toNat s.p.st=_ from AE<|CY.1 c2]
    rfl
  ·have c1:s.m<=s.k:=A8
   exact ⟨rfl,(ry c1).symm⟩)
structure Ls where
 (n i:Y)
 p:PK
 ev:EW
def aIW:=bN f67 0
def NT (s:Ls):O5:=letI a:=s.p.dr.getD s.i.toNat<|Ty.dflt A7;(⟨s.i,s.n,s.i,AA<|(Bh (AA<|s.p.tk+1) a)-(Bh s.p.tk a),0,s.p,s.ev⟩:O5)
def aBj (s:Ls):T (Rd Ls):=letI a:=s.p.dr.getD s.i.toNat<|Ty.dflt A7;.br (an<|s.i<s.n) (.ik s.i (M s.p.dr)<|.br (((HE s.p.tk a) !=0) ||((HE (AA<|s.p.tk+1) a) !=0)) (.rl s.p.dr<|.pd s.p<|.nx {s with i:=AA<|s.i+1})<|.rl s.p.dr<|.pd s.p<|.req (Rm.q<|NT s)<|.rl s.p.dr<|.rl s.p.cs<|.rl (Wp<|NT s).p.st<|.rl s.p.ca<|.rl s.p.mi<|.rl s.p.me<|.rl s.p.dr<|.rl s.p.tg<|.nx {s with i:=AA<|s.i+1,p.st:=(Wp<|NT s).p.st})<|.rl s.p.dr<|.pd s.p<|.so (.exit 0) s
def oz (s:Ls):Prop:=s.i=0/\s.n=(M s.p.dr:Y)/\M s.p.dr=M s.p.gs/\s.n<=1000/\M s.p.st=M s.p.gs/\(0<=s.p.tk/\s.p.tk<=1000000)
def Zf (s:Ls):Prop:=0<=s.i/\s.i<=s.n/\s.n=(M s.p.dr:Y)/\M s.p.dr=M s.p.gs/\s.n<=1000/\M s.p.st=M s.p.gs/\(0<=s.p.tk/\s.p.tk<=1000000)
def jA (s:Ls):aC:=(s.n-s.i).toNat
def ace (x:Ex) (s s':Ls):Prop:=True
def aoK:∀s,oz s->Zf s:=by
 exact aA2
def yC {s:Ls}(hI:Zf s) (c1:s.i<s.n):ZA (NT s)/\((HE s.p.tk (gi s.p.dr s.i.toNat)=0/\HE (s.p.tk+1) (gi s.p.dr s.i.toNat)=0)->(Wp<|NT s).p.st=cnt1 s.p.gs s.p.dr s.p.tk s.i.toNat s.p.st):=by
 obtain ⟨h0,h1,h2,h3,h4,h6,h7⟩:=hI
 have hg:s.p.dr.getD s.i.toNat (Ty.dflt A7)=gi s.p.dr s.i:=rfl
 have b1:=aXh s.p.tk<|gi s.p.dr s.i
 have b2:=aXh (s.p.tk+1)<|gi s.p.dr s.i
 have hm:(NT s).m=Bh (s.p.tk+1) (gi s.p.dr s.i)-Bh s.p.tk (gi s.p.dr s.i):=by
  show AA (Bh (AA<|s.p.tk+1) _-Bh s.p.tk _)=_
  rw [hg,AI (x:=s.p.tk+1),AI (x:=Bh (s.p.tk+1) _-Bh s.p.tk _)]
 have hE:ZA (NT s):=⟨rfl,⟨h0,by show s.i<(M s.p.gs:Y);omega⟩,h6,A0⟩
 refine ⟨hE,λhc=>?_⟩
 have q:(Wp<|NT s).p.st=FH (tk1 s.p.gs s.i) 0 s.p.st ((NT s).m-0).toNat:=(aKU _ hE).2
 rw [q,hm,QJ,ayZ];unfold cnt1
 grind
def ajM:Da Zf jA ace aBj:=by
 intro s hI;obtain ⟨h0,h1,h2,h3,h4,h6,h7⟩:=id hI;refine AH (λc1=>AH (λc2=>?_) λc2=>?_) λc1=>trivial
 all_goals have c1:s.i<s.n:=AX
 all_goals rw [AI (x:=s.i+1)]
 ·exact ⟨⟨A8,A8,h2,h3,h4,h6,h7⟩,by simp only [jA];omega⟩
 ·have hl:M (Wp<|NT s).p.st=M s.p.gs:=by
   rw [(aKU _ (yC hI c1).1).2];exact (aJu λ_ _=>JG).trans h6
  exact ⟨⟨A8,A8,h2,h3,h4,hl,h7⟩,by simp only [jA];omega⟩
def Rl:AR Ls:=⟨20,57,[0,12,13,14],[.pc 16 17 BM,.kb 18,.kb 19],λs=>[.own 16 0,.os 14 1 0<|M s.p.dr,s.n,s.i],λs=>[AP,AP,zB,AP,bV 42 Ae s.p.cs,AP,AP,AP,bV 95 B4 s.p.st,bV 75 AO s.p.ca,bV 148 BB s.p.mi,bV 98 BS s.p.me,AP,AP,bV 3 A7 s.p.dr,bV 3 A7 s.p.tg,⟨[.os 4 11 0<|M s.p.cs,.xl .str s.p.os,.xl Ak s.p.ks,.xl Af s.p.gs,.xl Al s.p.bs,.v<|ag J s.p.tk,.v<|.bool s.p.up,.xl AO s.p.ls,.v<|ag J s.p.se,.xl (.int aw) s.p.fl,.xl Ag s.p.ra,.v<|ag J s.p.nx,.os 8 4 0<|M s.p.st,.os 9 5 0<|M s.p.ca,.os 10 3 0<|M s.p.mi,.os 11 3 0<|M s.p.me,.xl Ai s.p.dm,.xl BM s.p.lk,.os 14 1 0<|M s.p.dr,.os 15 1 0<|M s.p.tg,.v<|ag J s.ev.ek,.v<|ag J s.ev.en,.v<|ag J s.ev.em,.v<|ag J s.ev.c1,.v<|ag J s.ev.c2,.v<|ag J s.ev.c3,.v<|ag J s.ev.c4,.v<|ag J s.ev.c5,.v<|.bool s.ev.d1,.v<|ag J s.ev.d2,.v<|ag J s.ev.d3,.v<|ag J s.ev.d4,.v<|.slice aj 0 0],107,.cl,X⟩,AP,AP,AP],λv b=>⟨AL v 2,AL v 3,rT b,rG b⟩,aBj,λs r=> {s with i:=r.i,p.st:=r.p.st},λs=>s,λ_ s=>s,[.exit 0],oz,Zf,jA⟩
abbrev gQ:=Rl.run
abbrev ax1:=Rl.At
def afh:Rq Zf aBj:=by
 intro s hI;refine ⟨λc1=>⟨?_,?_,λc2=>⟨A9,A9,A9,A9,A9,A9,A9,A9,ak⟩,λc2=>⟨A9,A9,A9,A9,A9,A9,A9,A9,?_,A9,A9,A9,A9,A9,A9,A9,A9,ak⟩⟩,λc1=>⟨A9,A9,A9,A9,A9,A9,A9,A9,ak⟩⟩
 all_goals ((obtain ⟨h0,h1,h2,h3,h4,h6,h7⟩:=id hI;simp only [Ac] at c1;first|omega|exact ⟨(yC hI c1).1,rfl,rfl⟩))
def aT8:Rl.Ok:={}
def aSU:Rl.Pf (ace):=⟨aoK,λs h=>rfl,ajM,afh⟩
def MV:SA 20 aIW Rl:=AR.snd aT8 aSU (Fp (Γ:=XX) (K:=xu) (L:=(LF (λi=>if i=7 then Rm.lp else Ao i))) (gk XX) xu.h aIW (λb hb=>by
 rw [show BC _=[aIX] by kernel_rfl] at hb
 simp only [B6,Bv,Bt] at hb;subst hb;exact auL)) λs=>AV
def axb:Rs oz ax1 gQ (λs:Ls=>FH (cnt1 s.p.gs s.p.dr s.p.tk) s.i.toNat s.p.st (s.n-s.i).toNat) (λx s' (v:bf)=>x=.exit 0/\s'.p.st=v):=Dp aT8 aSU (λs hI=>by
  obtain ⟨h0,h1,h2,h3,h4,h6,h7⟩:=id hI;refine AH (λc1=>?_) λc1=>?_
  ·have c1:s.i<s.n:=A8
   have hg:s.p.dr.getD s.i.toNat (Ty.dflt A7)=gi s.p.dr s.i.toNat:=LW
   rw [AI (x:=s.i+1),AI (x:=s.p.tk+1),hg,MS h0 c1];refine AH (λc2=>?_) λc2=>?_
   ·rw [show cnt1 s.p.gs s.p.dr s.p.tk s.i.toNat s.p.st=s.p.st from AE λh=>A8]
    rfl
   ·have c2:HE s.p.tk (gi s.p.dr s.i.toNat)=0/\HE (s.p.tk+1) (gi s.p.dr s.i.toNat)=0:=A8
    rw [<-(yC hI c1).2 c2];rfl
  ·have c1:s.n<=s.i:=A8
   exact ⟨rfl,(ry c1).symm⟩)
structure Ly where
 gl:aF
 (n i:Y)
 p:PK
 ev:EW
 dw:aB
def iT (s:Ly) (e:Y) (o:Y) (ce:Y) (a:Y) (al:Y) (se:Y) (sn:St) (m:Mi) (cn:Me):T (Rd Ly):=letI b:=s.p.mi.set s.i.toNat m;letI c:=s.dw.set s.i.toNat a;letI d:=s.p.me.set s.i.toNat cn;letI f:=M s.p.mi;letI g:=M s.p.st;letI h:=AA<|s.i+1;letI j:=s.p.st.set s.i.toNat sn;letI k:=M s.dw;letI l:=M s.p.me;.br (an<|s.i<s.n) (.ix s.i (M s.gl)<|.ik s.i (M s.p.ca)<|.br (!((s.p.ca.getD s.i.toNat<|Ty.dflt AO).2.2.1 !=0)) (.pd s.p<|.rl s.dw<|.nx {s with i:=h})<|.ik s.i g<|.ik s.i (M s.p.ca)<|.ik s.i f<|.br (e !=0) (.pd s.p<|.rl s.dw<|.nx {s with i:=h})<|.ik s.i k<|.ik s.i f<|.ik s.i l<|.req (0<=(IntKind.u64.wrap o)/\(IntKind.u64.wrap o)<=7)<|.br (ce==0) (.ik s.i l<|.br (an<|a>al) (.ix s.i (M s.p.gs)<|.ik s.i g<|.br (se==0) (.ik s.i g<|.rl s.p.cs<|.re g j<|.rl s.p.ca<|.re f b<|.re l d<|.rl s.p.dr<|.rl s.p.tg<|.re k c<|.nx {s with i:=h,p.st:=j,p.mi:=b,p.me:=d,dw:=c})<|.rl s.p.cs<|.rl s.p.st<|.rl s.p.ca<|.re f b<|.re l d<|.rl s.p.dr<|.rl s.p.tg<|.re k c<|.nx {s with i:=h,p.mi:=b,p.me:=d,dw:=c})<|.rl s.p.cs<|.rl s.p.st<|.rl s.p.ca<|.re f b<|.re l d<|.rl s.p.dr<|.rl s.p.tg<|.re k c<|.nx {s with i:=h,p.mi:=b,p.me:=d,dw:=c})<|.br (an<|a>al) (.ix s.i (M s.p.gs)<|.ik s.i g<|.br (se==0) (.ik s.i g<|.rl s.p.cs<|.re g j<|.rl s.p.ca<|.re f b<|.rl s.p.me<|.rl s.p.dr<|.rl s.p.tg<|.re k c<|.nx {s with i:=h,p.st:=j,p.mi:=b,dw:=c})<|.rl s.p.cs<|.rl s.p.st<|.rl s.p.ca<|.re f b<|.rl s.p.me<|.rl s.p.dr<|.rl s.p.tg<|.re k c<|.nx {s with i:=h,p.mi:=b,dw:=c})<|.rl s.p.cs<|.rl s.p.st<|.rl s.p.ca<|.re f b<|.rl s.p.me<|.rl s.p.dr<|.rl s.p.tg<|.re k c<|.nx {s with i:=h,p.mi:=b,dw:=c})<|.pd s.p<|.rl s.dw<|.so (.exit 0) s
abbrev Xs (s:Ly):=letI b:=s.p.ca.getD s.i.toNat<|Ty.dflt AO;letI c:=s.p.mi.getD s.i.toNat<|Ty.dflt BB;letI d:=AG s.gl s.i;letI e:=s.p.st.getD s.i.toNat<|Ty.dflt B4;letI g:=s.p.me.getD s.i.toNat<|Ty.dflt BS;letI a:=Bk d e;letI f:=cnt<|IntKind.u64.wrap<|Ei b c d.2.2.1 a;letI h:=Fg b c d.2.2.1 a;iT s (Jc b c d.2.2.1 a) (Ei b c d.2.2.1 a) (GA g h f) h a (sE (AG s.p.gs s.i) e (6:Y) (2:Y) (0:Y)) (sN (AG s.p.gs s.i) e (6:Y) (2:Y) (0:Y)) (Jm b c d.2.2.1 a)<|Hq g h f
def mD (s:Ly):Prop:=s.i=0/\s.n=(M s.p.gs:Y)/\s.n<=1000/\s.gl=s.p.gs/\(M s.p.st=M s.p.gs/\M s.p.ca=M s.p.gs/\M s.p.mi=M s.p.gs/\M s.p.me=M s.p.gs/\M s.dw=M s.p.gs)
def UX (s:Ly):Prop:=0<=s.i/\s.i<=s.n/\s.n=(M s.p.gs:Y)/\s.n<=1000/\s.gl=s.p.gs/\(M s.p.st=M s.p.gs/\M s.p.ca=M s.p.gs/\M s.p.mi=M s.p.gs/\M s.p.me=M s.p.gs/\M s.dw=M s.p.gs)
def dq (s:Ly):aC:=(s.n-s.i).toNat
def aDC (x:Ex) (s s':Ly):Prop:=True
def aod:∀s,mD s->UX s:=by
 exact aA2
def awX (s:Ly) (hI:UX s) (e:Y) (o:Y) (ce:Y) (a:Y) (al:Y) (se:Y) (sn:St) (m:Mi) (cn:Me) (he:Jc (s.p.ca.getD s.i.toNat<|Ty.dflt AO) (s.p.mi.getD s.i.toNat<|Ty.dflt BB) (AG s.gl s.i).2.2.1 (Bk (AG s.gl s.i)<|s.p.st.getD s.i.toNat<|Ty.dflt B4)=e) (ho:Ei (s.p.ca.getD s.i.toNat<|Ty.dflt AO) (s.p.mi.getD s.i.toNat<|Ty.dflt BB) (AG s.gl s.i).2.2.1 (Bk (AG s.gl s.i)<|s.p.st.getD s.i.toNat<|Ty.dflt B4)=o) (hce:GA (s.p.me.getD s.i.toNat<|Ty.dflt BS) (Fg (s.p.ca.getD s.i.toNat<|Ty.dflt AO) (s.p.mi.getD s.i.toNat<|Ty.dflt BB) (AG s.gl s.i).2.2.1<|Bk (AG s.gl s.i)<|s.p.st.getD s.i.toNat<|Ty.dflt B4) (cnt<|IntKind.u64.wrap<|Ei (s.p.ca.getD s.i.toNat<|Ty.dflt AO) (s.p.mi.getD s.i.toNat<|Ty.dflt BB) (AG s.gl s.i).2.2.1<|Bk (AG s.gl s.i)<|s.p.st.getD s.i.toNat<|Ty.dflt B4)=ce) (ha:Fg (s.p.ca.getD s.i.toNat<|Ty.dflt AO) (s.p.mi.getD s.i.toNat<|Ty.dflt BB) (AG s.gl s.i).2.2.1 (Bk (AG s.gl s.i)<|s.p.st.getD s.i.toNat<|Ty.dflt B4)=a) (hal:Bk (AG s.gl s.i) (s.p.st.getD s.i.toNat<|Ty.dflt B4)=al) (hse:sE (AG s.p.gs s.i) (s.p.st.getD s.i.toNat<|Ty.dflt B4) (6:Y) (2:Y) (0:Y)=se) (hsn:sN (AG s.p.gs s.i) (s.p.st.getD s.i.toNat<|Ty.dflt B4) (6:Y) (2:Y) (0:Y)=sn) (hm:Jm (s.p.ca.getD s.i.toNat<|Ty.dflt AO) (s.p.mi.getD s.i.toNat<|Ty.dflt BB) (AG s.gl s.i).2.2.1 (Bk (AG s.gl s.i)<|s.p.st.getD s.i.toNat<|Ty.dflt B4)=m) (hcn:Hq (s.p.me.getD s.i.toNat<|Ty.dflt BS) (Fg (s.p.ca.getD s.i.toNat<|Ty.dflt AO) (s.p.mi.getD s.i.toNat<|Ty.dflt BB) (AG s.gl s.i).2.2.1<|Bk (AG s.gl s.i)<|s.p.st.getD s.i.toNat<|Ty.dflt B4) (cnt<|IntKind.u64.wrap<|Ei (s.p.ca.getD s.i.toNat<|Ty.dflt AO) (s.p.mi.getD s.i.toNat<|Ty.dflt BB) (AG s.gl s.i).2.2.1<|Bk (AG s.gl s.i)<|s.p.st.getD s.i.toNat<|Ty.dflt B4)=cn):DF (λs'=>UX s'/\dq s'<dq s) (λx s'=>aDC x s s') ((iT s e o ce a al se sn m cn).rd s):=by
 unfold iT;dsimp only [T.rd,T.rl,T.rv];obtain ⟨h0,h1,h2,h3,hg,l1,l2,l3,l4,l5⟩:=hI;refine AH (λc1=>?_) λc1=>?_
 ·refine AH (λc2=>?_) (λc2=>?_)
  ·exact bX
  ·refine AH (λc3=>?_) (λc3=>?_)
   ·exact bX
   ·refine AH (λc4=>?_) (λc4=>?_)
    ·exact aOy
    ·exact aOy
 ·trivial
def ajZ:Da UX dq aDC Xs:=λs hI=>awX s hI _ _ _ _ _ _ _ _ _ rfl rfl rfl rfl rfl rfl rfl rfl rfl
def Uf:AR Ly:=⟨20,124,[0,27,28,29],[],λs=>[.own 16 0,s.gl,s.n,s.i],λs=>[AP,AP,zB,AP,bV 42 Ae s.p.cs,AP,AP,AP,bV 95 B4 s.p.st,bV 75 AO s.p.ca,bV 148 BB s.p.mi,bV 98 BS s.p.me,AP,AP,bV 3 A7 s.p.dr,bV 3 A7 s.p.tg,⟨[.os 4 11 0<|M s.p.cs,.xl .str s.p.os,.xl Ak s.p.ks,.xl Af s.p.gs,.xl Al s.p.bs,.v<|ag J s.p.tk,.v<|.bool s.p.up,.xl AO s.p.ls,.v<|ag J s.p.se,.xl (.int aw) s.p.fl,.xl Ag s.p.ra,.v<|ag J s.p.nx,.os 8 4 0<|M s.p.st,.os 9 5 0<|M s.p.ca,.os 10 3 0<|M s.p.mi,.os 11 3 0<|M s.p.me,.xl Ai s.p.dm,.xl BM s.p.lk,.os 14 1 0<|M s.p.dr,.os 15 1 0<|M s.p.tg,.v<|ag J s.ev.ek,.v<|ag J s.ev.en,.v<|ag J s.ev.em,.v<|ag J s.ev.c1,.v<|ag J s.ev.c2,.v<|ag J s.ev.c3,.v<|ag J s.ev.c4,.v<|ag J s.ev.c5,.v<|.bool s.ev.d1,.v<|ag J s.ev.d2,.v<|ag J s.ev.d3,.v<|ag J s.ev.d4,.os 20 1 0<|M s.dw],107,.cl,X⟩,AP,AP,AP,bV 3 A7 s.dw],λv b=>⟨B1 Af v 1,AL v 2,AL v 3,rT b,rG b,Ab A7 b 20⟩,Xs,λs r=> {s with i:=r.i,p.st:=r.p.st,p.mi:=r.p.mi,p.me:=r.p.me,dw:=r.dw},λs=>s,λ_ s=>s,[.exit 0],mD,UX,dq⟩
abbrev Js:=Uf.run
abbrev awr:=Uf.At
def xS:aN:=[XD,iO,Xg,Xl,Xk,Xi,XB,XE,RC]
def ahD:Ax:=IT xS (la 1 func67 MV<|la 2 func76 Lh<|la 9 func23 Cx<|l0 xS) [⟨65,Pg.m,Tf⟩]
def afT:Rq UX Xs:=by
 intro s hI;refine ⟨λc1=>⟨?_,?_,?_,λc2=>⟨A9,A9,A9,A9,A9,A9,A9,A9,ak⟩,λc2=>⟨?_,?_,?_,?_,?_,?_,λc3=>⟨A9,A9,A9,A9,A9,A9,A9,A9,ak⟩,λc3=>⟨?_,?_,?_,?_,?_,?_,?_,λc4=>⟨?_,?_,λc5=>⟨?_,?_,?_,λc6=>⟨?_,?_,A9,?_,A9,?_,?_,A9,A9,?_,ak⟩,λc6=>⟨A9,A9,A9,?_,?_,A9,A9,?_,ak⟩⟩,λc5=>⟨A9,A9,A9,?_,?_,A9,A9,?_,ak⟩⟩,λc4=>⟨λc7=>⟨?_,?_,?_,λc8=>⟨?_,?_,A9,?_,A9,?_,A9,A9,A9,?_,ak⟩,λc8=>⟨A9,A9,A9,?_,A9,A9,A9,?_,ak⟩⟩,λc7=>⟨A9,A9,A9,?_,A9,A9,A9,?_,ak⟩⟩⟩⟩⟩,λc1=>⟨A9,A9,A9,A9,A9,A9,A9,A9,ak⟩⟩
 all_goals ((obtain ⟨h0,h1,h2,h3,hg,l1,l2,l3,l4,l5⟩:=hI;simp only [Ac] at c1;first|(rw [hg];omega) |omega|exact ⟨rfl,AJ⟩ |(rw [aXj];exact aUt)))
def aTV:Uf.Ok:={}
def aSx:Uf.Pf (aDC):=⟨aod,λs h=>rfl,ajZ,afT⟩
def NY:=s2 (b:=bN f68 0) aTV aSx xS ahD
def awW:Rs mD awr Js (λs:Ly=>FH (λk d=>Fh s.p.gs s.p.ca d (k:Y)) s.i.toNat ⟨s.p.st,s.p.mi,s.p.me,s.dw⟩ (s.n-s.i).toNat) (λx s' (v:DW)=>x=.exit 0/\(⟨s'.p.st,s'.p.mi,s'.p.me,s'.dw⟩:DW)=v):=Dp aTV aSx (λs hI=>by
  show DF _ _ ((Xs s).rd s)
  unfold Xs iT;dsimp only [T.rd,T.rl];obtain ⟨h0,h1,h2,h3,hg,l1,l2,l3,l4,l5⟩:=hI
  have hi:((s.i.toNat:aC):Y)=s.i:=Bs h0
  rw [hg];simp only [aXj];refine AH (λc1=>?_) λc1=>?_
  ·refine AH (λc2=>?_) (λc2=>?_)
   ·have c1:s.i<s.n:=AX
    rw [AI (x:=s.i+1),MS h0 c1,hi]
    have c2:(Be s.p.ca s.i).2.2.1=0:=Du<|(DB _).mp c2
    rw [aog c2];rfl
   ·refine AH (λc3=>?_) (λc3=>?_)
    ·have c1:s.i<s.n:=AX
     rw [AI (x:=s.i+1),MS h0 c1,hi]
     have c2:¬(Be s.p.ca s.i).2.2.1=0:=EH.1<|(IW _).mp c2
     have c3:=EH.1 c3
     rw [aof c2 c3];rfl
    ·refine AH (λc4=>?_) (λc4=>?_)
     ·refine AH (λc5=>?_) (λc5=>?_)
      ·refine AH (λc6=>?_) (λc6=>?_)
       ·have c1:s.i<s.n:=AX
        rw [AI (x:=s.i+1),MS h0 c1,hi]
        have c2:¬(Be s.p.ca s.i).2.2.1=0:=EH.1<|(IW _).mp c2
        have c3:Jc (Be s.p.ca s.i) (CH s.p.mi s.i) (AG s.p.gs s.i).2.2.1 (Bk (AG s.p.gs s.i)<|BJ s.p.st s.i)=0:=Du c3
        rw [Ut c2 c3];rw [AD (show GA (Gk s.p.me s.i) (Fg (Be s.p.ca s.i) (CH s.p.mi s.i) (AG s.p.gs s.i).2.2.1<|Bk (AG s.p.gs s.i)<|BJ s.p.st s.i) (cnt<|Ei (Be s.p.ca s.i) (CH s.p.mi s.i) (AG s.p.gs s.i).2.2.1<|Bk (AG s.p.gs s.i)<|BJ s.p.st s.i)=0 from eq_of_beq c4)];exact aO9
       ·have c1:s.i<s.n:=AX
        rw [AI (x:=s.i+1),MS h0 c1,hi]
        have c2:¬(Be s.p.ca s.i).2.2.1=0:=EH.1<|(IW _).mp c2
        have c3:Jc (Be s.p.ca s.i) (CH s.p.mi s.i) (AG s.p.gs s.i).2.2.1 (Bk (AG s.p.gs s.i)<|BJ s.p.st s.i)=0:=Du c3
        rw [Ut c2 c3];rw [AD (show GA (Gk s.p.me s.i) (Fg (Be s.p.ca s.i) (CH s.p.mi s.i) (AG s.p.gs s.i).2.2.1<|Bk (AG s.p.gs s.i)<|BJ s.p.st s.i) (cnt<|Ei (Be s.p.ca s.i) (CH s.p.mi s.i) (AG s.p.gs s.i).2.2.1<|Bk (AG s.p.gs s.i)<|BJ s.p.st s.i)=0 from eq_of_beq c4)];exact aOA
      ·have c1:s.i<s.n:=AX
       rw [AI (x:=s.i+1),MS h0 c1,hi]
       have c2:¬(Be s.p.ca s.i).2.2.1=0:=EH.1<|(IW _).mp c2
       have c3:Jc (Be s.p.ca s.i) (CH s.p.mi s.i) (AG s.p.gs s.i).2.2.1 (Bk (AG s.p.gs s.i)<|BJ s.p.st s.i)=0:=Du c3
       rw [Ut c2 c3];rw [AD (show GA (Gk s.p.me s.i) (Fg (Be s.p.ca s.i) (CH s.p.mi s.i) (AG s.p.gs s.i).2.2.1<|Bk (AG s.p.gs s.i)<|BJ s.p.st s.i) (cnt<|Ei (Be s.p.ca s.i) (CH s.p.mi s.i) (AG s.p.gs s.i).2.2.1<|Bk (AG s.p.gs s.i)<|BJ s.p.st s.i)=0 from eq_of_beq c4)];exact aOO
     ·refine AH (λc5=>?_) (λc5=>?_)
      ·refine AH (λc6=>?_) (λc6=>?_)
       ·have c1:s.i<s.n:=AX
        rw [AI (x:=s.i+1),MS h0 c1,hi]
        have c2:¬(Be s.p.ca s.i).2.2.1=0:=EH.1<|(IW _).mp c2
        have c3:Jc (Be s.p.ca s.i) (CH s.p.mi s.i) (AG s.p.gs s.i).2.2.1 (Bk (AG s.p.gs s.i)<|BJ s.p.st s.i)=0:=Du c3
        rw [Ut c2 c3];rw [AE (show ¬GA (Gk s.p.me s.i) (Fg (Be s.p.ca s.i) (CH s.p.mi s.i) (AG s.p.gs s.i).2.2.1<|Bk (AG s.p.gs s.i)<|BJ s.p.st s.i) (cnt<|Ei (Be s.p.ca s.i) (CH s.p.mi s.i) (AG s.p.gs s.i).2.2.1<|Bk (AG s.p.gs s.i)<|BJ s.p.st s.i)=0 from CY.1 c4)];exact aO9
       ·have c1:s.i<s.n:=AX
        rw [AI (x:=s.i+1),MS h0 c1,hi]
        have c2:¬(Be s.p.ca s.i).2.2.1=0:=EH.1<|(IW _).mp c2
        have c3:Jc (Be s.p.ca s.i) (CH s.p.mi s.i) (AG s.p.gs s.i).2.2.1 (Bk (AG s.p.gs s.i)<|BJ s.p.st s.i)=0:=Du c3
        rw [Ut c2 c3];rw [AE (show ¬GA (Gk s.p.me s.i) (Fg (Be s.p.ca s.i) (CH s.p.mi s.i) (AG s.p.gs s.i).2.2.1<|Bk (AG s.p.gs s.i)<|BJ s.p.st s.i) (cnt<|Ei (Be s.p.ca s.i) (CH s.p.mi s.i) (AG s.p.gs s.i).2.2.1<|Bk (AG s.p.gs s.i)<|BJ s.p.st s.i)=0 from CY.1 c4)];exact aOA
      ·have c1:s.i<s.n:=AX
       rw [AI (x:=s.i+1),MS h0 c1,hi]
       have c2:¬(Be s.p.ca s.i).2.2.1=0:=EH.1<|(IW _).mp c2
       have c3:=Du c3
       rw [Ut c2 c3];rw [AE (show ¬GA (Gk s.p.me s.i) (Fg (Be s.p.ca s.i) (CH s.p.mi s.i) (AG s.p.gs s.i).2.2.1<|Bk (AG s.p.gs s.i)<|BJ s.p.st s.i) (cnt<|Ei (Be s.p.ca s.i) (CH s.p.mi s.i) (AG s.p.gs s.i).2.2.1<|Bk (AG s.p.gs s.i)<|BJ s.p.st s.i)=0 from CY.1 c4)];exact aOO
  ·have c1:s.n<=s.i:=AX
   exact ⟨rfl,(ry c1).symm⟩)
structure Mu where
 m:aF
 (k i:Y)
 p:PK
 ev:EW
 (dw out:aB)
def apY (s:Mu):aD:=[.os 21 1 0<|M s.out,s.m,s.k,s.i]
def aoI (s:Mu):aG:=[AP,AP,zB,AP,bV 42 Ae s.p.cs,AP,AP,AP,AP,AP,AP,AP,AP,AP,AP,bV 3 A7 s.p.tg,⟨[.os 4 11 0<|M s.p.cs,.xl .str s.p.os,.xl Ak s.p.ks,.xl Af s.p.gs,.xl Al s.p.bs,.v<|ag J s.p.tk,.v<|.bool s.p.up,.xl AO s.p.ls,.v<|ag J s.p.se,.xl (.int aw) s.p.fl,.xl Ag s.p.ra,.v<|ag J s.p.nx,.xl B4 s.p.st,.xl AO s.p.ca,.xl BB s.p.mi,.xl BS s.p.me,.xl Ai s.p.dm,.xl BM s.p.lk,.xl A7 s.p.dr,.os 15 1 0<|M s.p.tg,.v<|ag J s.ev.ek,.v<|ag J s.ev.en,.v<|ag J s.ev.em,.v<|ag J s.ev.c1,.v<|ag J s.ev.c2,.v<|ag J s.ev.c3,.v<|ag J s.ev.c4,.v<|ag J s.ev.c5,.v<|.bool s.ev.d1,.v<|ag J s.ev.d2,.v<|ag J s.ev.d3,.v<|ag J s.ev.d4,.os 20 1 0<|M s.dw],107,.cl,X⟩,AP,AP,AP,bV 3 A7 s.dw,bV 3 A7 s.out]
def arP:=bN f52 0
def aBL (s:Mu):T (Rd Mu):=letI a:=s.out.set s.i.toNat (AG s.m s.i).2.2.2.2.2.2.1;.br (an<|s.i<s.k) (.ix s.i (M s.m)<|.ik s.i (M s.out)<|.re (M s.out) a<|.rl s.p.cs<|.rl s.p.tg<|.rl s.dw<|.nx {s with i:=AA<|s.i+1,out:=a})<|.rl s.out<|.rl s.p.cs<|.rl s.p.tg<|.rl s.dw<|.so (.exit 0) s
def mg (s:Mu):Prop:=s.i=0/\s.k=(M s.m:Y)/\s.k<=1000/\M s.out=M s.m/\(∀j,0<=j->j<s.k->gi s.out j=0)/\True
def YP (s:Mu):Prop:=(0<=s.i/\s.i<=s.k)/\s.k=(M s.m:Y)/\s.k<=1000/\M s.out=M s.m/\(∀j,0<=j->j<s.k->gi s.out j=if j<s.i then Ce (AG s.m j) else 0)/\True
def vT (s:Mu):aC:=(s.k-s.i).toNat
def aDJ (x:Ex) (s s':Mu):Prop:=x=.exit 0/\s'.out=HX (M s'.m) (λj=>Ce<|AG s'.m j)
def alT:∀s,mg s->YP s:=by
 exact T2
def azQ:Da YP vT aDJ aBL:=by
 intro s hI;obtain ⟨⟨h0,h1⟩,h2,h3,h4,h5,h6⟩:=hI;refine AH (λc1=>?_) λc1=>?_
 ·have c1:s.i<s.k:=AX
  rw [AI (x:=s.i+1)];refine ⟨⟨⟨A8,A8⟩,h2,h3,A8,λj j0 j1=>?_,h6⟩,by simp only [vT];omega⟩
  simp only;rw [JC h0 A0 j0];exact nT
 ·exact cD
def Rv:AR Mu:=⟨21,25,[3,11,12,13],[.pc 16 12 B4,.kb 8,.pc 16 13 AO,.kb 9,.pc 16 14 BB,.kb 10,.pc 16 15 BS,.kb 11,.pc 16 18 A7,.kb 14],apY,aoI,λv b=>⟨B1 Af v 1,AL v 2,AL v 3,rB b 16 4 0 0 0 0 0 0 0 0 0 0 15,rG b,Ab A7 b 20,Ab A7 b 21⟩,aBL,λs r=> {s with i:=r.i,out:=r.out},λs=>s,λ_ s=>s,[.exit 0],mg,YP,vT⟩
abbrev gK:=Rv.run
abbrev avo:=Rv.At
def PF:aN:=[XD,Xg,Xl,Xk,Xi,XB,XE,RC]
def ahC:Ax:=IT PF (la 2 func68 NY<|la 1 func67 MV<|la 2 func76 Lh<|la 9 func23 Cx<|l0 PF) [⟨65,Pg.m,Tf⟩]
def az8:Rq YP aBL:=by
 intro s hI;refine ⟨λc1=>⟨?_,?_,?_,?_,A9,A9,A9,ak⟩,λc1=>⟨A9,A9,A9,A9,ak⟩⟩
 all_goals ((obtain ⟨⟨h0,h1⟩,h2,h3,h4,h5,h6⟩:=hI;(try simp only [Ac] at c1);first|omega|exact ⟨rfl,AJ⟩ |(omega)))
def aTn:Rv.Ok:={}
def aRf:Rv.Pf (aDJ):=⟨alT,λs h=>rfl,azQ,az8⟩
def P4:SA 21 arP Rv:=s2 aTn aRf PF ahC
def atw:Fi mg YP aDJ avo gK:=AR.fin aTn aRf
structure Mv where
 m:aB
 (k i:Y)
 p:PK
 ev:EW
 (dw DE:aB)
def apZ (s:Mv):aD:=[.own 16 0,.os 21 1 0<|M s.DE,.xl A7 s.m,s.k,s.i]
def apW (s:Mv):aG:=[AP,AP,zB,AP,bV 42 Ae s.p.cs,AP,AP,AP,AP,AP,AP,AP,AP,AP,AP,bV 3 A7 s.p.tg,⟨[.os 4 11 0<|M s.p.cs,.xl .str s.p.os,.xl Ak s.p.ks,.xl Af s.p.gs,.xl Al s.p.bs,.v<|ag J s.p.tk,.v<|.bool s.p.up,.xl AO s.p.ls,.v<|ag J s.p.se,.xl (.int aw) s.p.fl,.xl Ag s.p.ra,.v<|ag J s.p.nx,.xl B4 s.p.st,.xl AO s.p.ca,.xl BB s.p.mi,.xl BS s.p.me,.xl Ai s.p.dm,.xl BM s.p.lk,.xl A7 s.p.dr,.os 15 1 0<|M s.p.tg,.v<|ag J s.ev.ek,.v<|ag J s.ev.en,.v<|ag J s.ev.em,.v<|ag J s.ev.c1,.v<|ag J s.ev.c2,.v<|ag J s.ev.c3,.v<|ag J s.ev.c4,.v<|ag J s.ev.c5,.v<|.bool s.ev.d1,.v<|ag J s.ev.d2,.v<|ag J s.ev.d3,.v<|ag J s.ev.d4,.os 20 1 0<|M s.dw],107,.cl,X⟩,AP,AP,AP,bV 3 A7 s.dw,bV 3 A7 s.DE]
def arQ:=bN f69 0
def aBM (s:Mv):T (Rd Mv):=letI b:=s.DE.getD s.i.toNat<|Ty.dflt A7;letI c:=M s.DE;letI a:=s.DE.set s.i.toNat (if b<(gi s.m s.i) then (gi s.m s.i) else b);.br (an<|s.i<s.k) (.ix s.i (M s.m)<|.ik s.i c<|.ik s.i c<|.re c a<|.rl s.p.cs<|.rl s.p.tg<|.rl s.dw<|.nx {s with i:=AA<|s.i+1,DE:=a})<|.rl s.DE<|.rl s.p.cs<|.rl s.p.tg<|.rl s.dw<|.so (.exit 0) s
def mh (s:Mv):Prop:=s.i=0/\s.k=(M s.m:Y)/\s.k<=1000/\M s.DE=M s.m/\(∀j,0<=j->j<s.k->gi s.DE j=Ce (AG s.p.gs j))/\True
def YQ (s:Mv):Prop:=(0<=s.i/\s.i<=s.k)/\s.k=(M s.m:Y)/\s.k<=1000/\M s.DE=M s.m/\(∀j,0<=j->j<s.k->gi s.DE j=if j<s.i then mx (Ce<|AG s.p.gs j) (gi s.m j) else Ce (AG s.p.gs j))/\True
def vU (s:Mv):aC:=(s.k-s.i).toNat
def aDK (x:Ex) (s s':Mv):Prop:=x=.exit 0/\s'.DE=HX (M s'.m) (λj=>mx (Ce<|AG s'.p.gs j)<|gi s'.m j)
def alU:∀s,mh s->YQ s:=by
 exact T2
def azR:Da YQ vU aDK aBM:=by
 intro s hI;obtain ⟨⟨h0,h1⟩,h2,h3,h4,h5,h6⟩:=hI;refine AH (λc1=>?_) λc1=>?_
 ·have c1:s.i<s.k:=AX
  rw [AI (x:=s.i+1)];refine ⟨⟨⟨A8,A8⟩,h2,h3,A8,λj j0 j1=>?_,h6⟩,by simp only [vU];omega⟩
  simp only
  have hi:=h5 s.i h0 c1
  rw [AE (show ¬s.i<s.i by omega)] at hi
  rw [JC h0 cY j0]
  by_cases e:j=s.i
  ·subst e
   rw [AD rfl,AD (show s.i<s.i+1 by omega)]
   show mx (gi s.DE s.i) (gi s.m s.i)=_
   rw [hi]
  ·exact zy
 ·exact cD
def Rx:AR Mv:=⟨21,125,[0,2,51,52,53],[],apZ,apW,λv b=>⟨B1 A7 v 2,AL v 3,AL v 4,rB b 16 4 0 0 0 0 0 0 0 0 0 0 15,rG b,Ab A7 b 20,Ab A7 b 21⟩,aBM,λs r=> {s with i:=r.i,DE:=r.DE},λs=>s,λ_ s=>s,[.exit 0],mh,YQ,vU⟩
abbrev gL:=Rx.run
abbrev avp:=Rx.At
def ahB:Ax:=IT PF (la 3 func52 P4<|la 2 func68 NY<|la 1 func67 MV<|la 2 func76 Lh<|la 9 func23 Cx<|l0 PF) [⟨65,Pg.m,Tf⟩]
def az9:Rq YQ aBM:=by
 intro s hI;refine ⟨λc1=>⟨?_,?_,?_,?_,?_,?_,A9,A9,A9,ak⟩,λc1=>⟨A9,A9,A9,A9,ak⟩⟩
 all_goals ((obtain ⟨⟨h0,h1⟩,h2,h3,h4,h5,h6⟩:=hI;(try simp only [Ac] at c1);first|omega|exact ⟨rfl,AJ⟩ |(omega)))
def aTo:Rx.Ok:={}
def aRg:Rx.Pf (aDK):=⟨alU,λs h=>rfl,azR,az9⟩
def Qp:SA 21 arQ Rx:=s2 aTo aRg PF ahB
def atx:Fi mh YQ aDK avp gL:=AR.fin aTo aRg
def agz {gs:aF}{am:aB}{b:aM}:((Gg gs am==0)&&!(an (M am=M gs)&&!b))=(an (M am=M gs)&&b):=by
 unfold Gg
 grind
def cdS (cs:aJ) (tg:aB) (i:Y):aJ:=letI a:=(cpC cs).getD i.toNat<|Ty.dflt Ae;(cpC cs).set i.toNat (a.1,(a.2.1,((tg.getD i.toNat<|Ty.dflt A7),a.2.2.2)))
def jP {cs:aJ}{tg:aB}{i:Y}(h0:0<=i) (h:i<(M cs:Y)):cdS cs tg i=cs.set i.toNat (GG (AZ cs i.toNat)<|gi tg i.toNat):=by
 have e1:cs.getD i.toNat (Ty.dflt Ae)=AZ cs (i.toNat:Y):=by
  rw [DH,Di A0];rw [show AZ cs (i.toNat:Y)=cs[i.toNat]' A0 from Qx A0];rfl
 unfold cdS;rw [Xe,e1,Bs h0];rfl
structure JQ where
 am:aB
 (n i:Y)
 p:PK
 ev:EW
 dw:aB
def apX (s:JQ):aD:=[.own 16 0,.xl A7 s.am,.os 15 1 0<|M s.p.tg,s.n,s.i]
def aoH (s:JQ):aG:=[AP,AP,zB,AP,⟨[],42,.dead,X⟩,AP,AP,AP,AP,AP,AP,AP,AP,AP,AP,bV 3 A7 s.p.tg,⟨[.os 21 11 0<|M s.p.cs,.xl .str s.p.os,.xl Ak s.p.ks,.xl Af s.p.gs,.xl Al s.p.bs,.v<|ag J s.p.tk,.v<|.bool s.p.up,.xl AO s.p.ls,.v<|ag J s.p.se,.xl (.int aw) s.p.fl,.xl Ag s.p.ra,.v<|ag J s.p.nx,.xl B4 s.p.st,.xl AO s.p.ca,.xl BB s.p.mi,.xl BS s.p.me,.xl Ai s.p.dm,.xl BM s.p.lk,.xl A7 s.p.dr,.os 15 1 0<|M s.p.tg,.v<|ag J s.ev.ek,.v<|ag J s.ev.en,.v<|ag J s.ev.em,.v<|ag J s.ev.c1,.v<|ag J s.ev.c2,.v<|ag J s.ev.c3,.v<|ag J s.ev.c4,.v<|ag J s.ev.c5,.v<|.bool s.ev.d1,.v<|ag J s.ev.d2,.v<|ag J s.ev.d3,.v<|ag J s.ev.d4,.os 20 1 0<|M s.dw],107,.cl,X⟩,AP,AP,AP,bV 3 A7 s.dw,bV 42 Ae s.p.cs]
def arO:=bN f69 1
def jo (s:JQ):T (Rd JQ):=letI a:=((M s.p.cs:aC):Y);letI b:=cdS s.p.cs s.p.tg s.i;letI c:=(b.drop 0).take a.toNat;letI d:=AA<|s.i+1;.br (an<|s.i<s.n) (.ik s.i (M s.p.tg)<|.ik s.i (M s.p.cs)<|.br (an<|(s.p.tg.getD s.i.toNat<|Ty.dflt A7)>=(s.p.cs.getD s.i.toNat<|Ty.dflt Ae).2.2.1) (.rl s.p.tg<|.rl s.p.cs<|.rl s.p.tg<|.rl s.dw<|.nx {s with i:=d})<|.rm 96 a<|.rz s.p.cs<|.rc a (ByteArray.empty,((0:Y),((0:Y),((0:Y),(((0:Y),(0:Y)),((0:Y),((0:Y),((0:Y),((0:Y),(0:Y)))))))))) (M<|AS s.p.cs)<|.ix s.i a.toNat<|.req (s.i.toNat<M (cpC s.p.cs))<|.req (0+a.toNat<=M b)<|.req (B9 c s.p.os s.p.ks s.p.gs s.p.bs=U/\(M s.am=M s.p.gs->∀k:aC,k<M s.am->0<=gi s.am k/\gi s.am k<=80))<|.br (((Gg s.p.gs s.am)==0)&&(!(an (M s.am=M s.p.gs)&&!DO c s.p.gs s.am))) (.rl s.p.tg<|.re a.toNat b<|.rl s.p.tg<|.rl s.dw<|.nx {s with i:=d,p.cs:=b})<|.rl s.p.tg<|.rl s.p.cs<|.rl s.p.tg<|.rl s.dw<|.nx {s with i:=d})<|.rl s.p.tg<|.rl s.p.cs<|.rl s.p.tg<|.rl s.dw<|.so (.exit 2) s
def Zj (s:JQ):Prop:=s.i=0/\s.n=(M s.p.tg:Y)/\M s.p.tg=M s.p.cs/\B9 s.p.cs s.p.os s.p.ks s.p.gs s.p.bs=U/\(∀k:aC,k<M s.p.cs->1<=gi s.p.tg k/\gi s.p.tg k<=1000)/\(M s.am=M s.p.gs->∀k:aC,k<M s.am->0<=gi s.am k/\gi s.am k<=80)
def YO (s:JQ):Prop:=0<=s.i/\s.i<=s.n/\s.n=(M s.p.tg:Y)/\M s.p.tg=M s.p.cs/\B9 s.p.cs s.p.os s.p.ks s.p.gs s.p.bs=U/\(∀k:aC,k<M s.p.cs->1<=gi s.p.tg k/\gi s.p.tg k<=1000)/\(M s.am=M s.p.gs->∀k:aC,k<M s.am->0<=gi s.am k/\gi s.am k<=80)
def iC (s:JQ):aC:=(s.n-s.i).toNat
def ab3 (x:Ex) (s s':JQ):Prop:=True
def alR:∀s,Zj s->YO s:=by
 exact aA2
def vI {s:JQ}(hI:YO s) (c1:s.i<s.n):letI a:=GG (AZ s.p.cs s.i.toNat)<|gi s.p.tg s.i.toNat;((cdS s.p.cs s.p.tg s.i).drop 0).take ((M s.p.cs:aC):Y).toNat=s.p.cs.set s.i.toNat a/\B9 (s.p.cs.set s.i.toNat a) s.p.os s.p.ks s.p.gs s.p.bs=true:=by
 obtain ⟨h0,h1,h2,h3,h4,h5,h6⟩:=hI;rw [jP h0 A0];exact ⟨by rw [CZ];exact Dj AJ,eU h4 A0<|h5 _ A0⟩
def azP:Da YO iC ab3 jo:=by
 intro s hI;unfold jo;obtain ⟨h0,h1,h2,h3,h4,h5,h6⟩:=hI
 have hs:=Cz.1 h4
 refine AH (λc1=>AH (λc2=>?_) λc2=>AH (λc3=>?_) λc3=>?_) λc1=>trivial
 all_goals have c1:s.i<s.n:=AX
 all_goals rw [AI (x:=s.i+1)]
 ·exact aP4
 ·rw [jP h0 A0]
  exact ⟨⟨Aa,Aa,h2,A8,eU h4 A0<|h5 _ A0,A8,h6⟩,by simp only [iC];omega⟩
 ·exact aP4
def Q1:AR JQ:=⟨21,125,[0,2,72,73,74],[.pc 16 12 B4,.kb 8,.pc 16 13 AO,.kb 9,.pc 16 14 BB,.kb 10,.pc 16 15 BS,.kb 11,.pc 16 18 A7,.kb 14,.pb 2 A7,.ms 0 0],apX,aoH,λv b=>⟨B1 A7 v 1,AL v 3,AL v 4,rB b 16 21 0 0 0 0 0 0 0 0 0 0 15,rG b,Ab A7 b 20⟩,jo,λs r=> {s with i:=r.i,p.cs:=r.p.cs},λs=>s,λ_ s=>s,[.exit 2],Zj,YO,iC⟩
abbrev TV:=Q1.run
abbrev avn:=Q1.At
def ahA:Ax:=IT PF (la 6 func69 Qp<|la 3 func52 P4<|la 2 func68 NY<|la 1 func67 MV<|la 2 func76 Lh<|la 9 func23 Cx<|l0 PF) [⟨65,Pg.m,Tf⟩]
def az7:Rq YO jo:=by
 intro s hI;refine ⟨λc1=>⟨?_,?_,?_,?_,λc2=>⟨A9,A9,A9,A9,ak⟩,λc2=>⟨?_,?_,?_,?_,?_,?_,?_,λc3=>⟨A9,?_,A9,A9,ak⟩,λc3=>⟨A9,A9,A9,A9,ak⟩⟩⟩,λc1=>⟨A9,A9,A9,A9,ak⟩⟩
 all_goals ((obtain ⟨h0,h1,h2,h3,h4,h5,h6⟩:=id hI;have hs:=Cz.1 h4;simp only [Ac] at c1;first|exact ⟨by rw [(vI hI c1).1];exact (vI hI c1).2,h6⟩ |((try rw [Xe]);(try rw [Fs]);(try rw [jP h0 A0]);first|omega|exact ⟨rfl,AJ⟩ |(simp;done))))
def aTm:Q1.Ok:={}
def aS6:Q1.Pf (ab3):=⟨alR,λs h=>rfl,azP,az7⟩
def TS:SA 21 arO Q1:=s2 aTm aS6 PF ahA
def af8:Rs Zj avn TV (λs:JQ=>FH (cw s.p.gs s.p.tg s.am) s.i.toNat s.p.cs (s.n-s.i).toNat) (λx s' (v:aJ)=>x=.exit 2/\s'.p.cs=v):=Dp aTm aS6 (λs hI=>by
  obtain ⟨h0,h1,h2,h3,h4,h5,h6⟩:=id hI
  have hs:=Cz.1 h4
  refine AH (λc1=>?_) λc1=>?_
  ·have c1:s.i<s.n:=A8
   have hg:s.p.tg.getD s.i.toNat (Ty.dflt A7)=gi s.p.tg s.i.toNat:=LW
   have hc:(s.p.cs.getD s.i.toNat<|Ty.dflt Ae)=AZ s.p.cs s.i.toNat:=LW
   rw [AI (x:=s.i+1),MS h0 c1,hg,hc,(vI hI c1).1,jP h0 A0,agz];refine AH (λc2=>?_) λc2=>?_
   ·rw [show cw s.p.gs s.p.tg s.am s.i.toNat s.p.cs=s.p.cs from AD<|DJ c2]
    rfl
   refine AH (λc3=>?_) λc3=>?_
   ·rw [show cw s.p.gs s.p.tg s.am s.i.toNat s.p.cs=_ from (AE<|KI c2).trans<|AD c3]
    rfl
   ·rw [show cw s.p.gs s.p.tg s.am s.i.toNat s.p.cs=_ from (AE<|KI c2).trans<|AE A8]
    rfl
  ·have c1:s.n<=s.i:=A8
   exact ⟨rfl,(ry c1).symm⟩)
structure IA where
 p:PK
 ev:EW
def UN (s:IA):aD:=[.own 16 0]
def Yr (s:IA):aG:=[AP,AP,zB,AP,bV 42 Ae s.p.cs,bV 139 AO s.p.ls,bV 5 (.int aw) s.p.fl,bV 143 Ag s.p.ra,bV 95 B4 s.p.st,bV 75 AO s.p.ca,bV 148 BB s.p.mi,bV 98 BS s.p.me,bV 77 Ai s.p.dm,bV 154 BM s.p.lk,bV 3 A7 s.p.dr,bV 3 A7 s.p.tg,⟨[.os 4 11 0<|M s.p.cs,.xl .str s.p.os,.xl Ak s.p.ks,.xl Af s.p.gs,.xl Al s.p.bs,.v<|ag J s.p.tk,.v<|.bool s.p.up,.os 5 5 0<|M s.p.ls,.v<|ag J s.p.se,.os 6 1 0<|M s.p.fl,.os 7 2 0<|M s.p.ra,.v<|ag J s.p.nx,.os 8 4 0<|M s.p.st,.os 9 5 0<|M s.p.ca,.os 10 3 0<|M s.p.mi,.os 11 3 0<|M s.p.me,.os 12 4 0<|M s.p.dm,.os 13 6 0<|M s.p.lk,.os 14 1 0<|M s.p.dr,.os 15 1 0<|M s.p.tg,.v<|ag J s.ev.ek,.v<|ag J s.ev.en,.v<|ag J s.ev.em,.v<|ag J s.ev.c1,.v<|ag J s.ev.c2,.v<|ag J s.ev.c3,.v<|ag J s.ev.c4,.v<|ag J s.ev.c5,.v<|.bool s.ev.d1,.v<|ag J s.ev.d2,.v<|ag J s.ev.d3,.v<|ag J s.ev.d4,.v<|.slice aj 0 0],107,.cl,X⟩]
def Jv (s:IA):O7:=(⟨(PK.AK s.p).lk,(M (PK.AK s.p).lk:Y),0,PK.AK s.p,s.ev,([]:aXP)⟩:O7)
def TK (s:IA):Ls:=(⟨((M (PK.AK s.p).dr:aC):Y),0,{(PK.AK s.p) with st:=(KV<|Jv s).p.st,lk:=AS (KV<|Jv s).left},s.ev⟩:Ls)
def I5 (s:IA):Ly:=letI a:=(M (PK.AK s.p).gs:Y);(⟨(PK.AK s.p).gs,a,0,{(PK.AK s.p) with st:=(gQ<|TK s).p.st,lk:=AS (KV<|Jv s).left},s.ev,aq a.toNat (0:Y)⟩:Ly)
def fG (s:IA):Mu:=letI a:=PK.AK s.p;letI b:=Js<|I5 s;(⟨a.gs,(M a.gs:Y),0,{a with st:=AS b.p.st,ca:=AS a.ca,mi:=AS b.p.mi,me:=AS b.p.me,lk:=AS (KV<|Jv s).left,dr:=AS a.dr},s.ev,b.dw,aq (M a.gs:Y).toNat (0:Y)⟩:Mu)
def TJ (s:IA):Mv:=letI b:=PK.AK s.p;letI c:=Js<|I5 s;letI a:=(HP b.ls (M b.gs:Y)<|AA<|b.tk+1);(⟨a,(M a:Y),0,{b with st:=AS c.p.st,ca:=AS b.ca,mi:=AS c.p.mi,me:=AS c.p.me,lk:=AS (KV<|Jv s).left,dr:=AS b.dr},s.ev,c.dw,(gK<|fG s).out⟩:Mv)
def TI (s:IA):JQ:=letI a:=PK.AK s.p;letI b:=Js<|I5 s;(⟨AS (gL<|TJ s).DE,((M a.tg:aC):Y),0,{a with st:=AS b.p.st,ca:=AS a.ca,mi:=AS b.p.mi,me:=AS b.p.me,lk:=AS (KV<|Jv s).left,dr:=AS a.dr},s.ev,b.dw⟩:JQ)
def TH (s:IA):JQ:=letI a:=PK.AK s.p;letI b:=Js<|I5 s;(⟨([]:aB),((M a.tg:aC):Y),0,{a with st:=AS b.p.st,ca:=AS a.ca,mi:=AS b.p.mi,me:=AS b.p.me,lk:=AS (KV<|Jv s).left,dr:=AS a.dr},s.ev,b.dw⟩:JQ)
structure Yd where
 res:Y
 p:PK
 ev:EW
 dw:aB
def abQ (s:Yd):LV:=.v<|ag J s.res
def acp (s:Yd):aG:=[AP,AP,zB,AP,AP,AP,AP,AP,AP,AP,AP,AP,AP,AP,AP,AP,⟨[.xl Ae s.p.cs,.xl .str s.p.os,.xl Ak s.p.ks,.xl Af s.p.gs,.xl Al s.p.bs,.v<|ag J s.p.tk,.v<|.bool s.p.up,.xl AO s.p.ls,.v<|ag J s.p.se,.xl (.int aw) s.p.fl,.xl Ag s.p.ra,.v<|ag J s.p.nx,.xl B4 s.p.st,.xl AO s.p.ca,.xl BB s.p.mi,.xl BS s.p.me,.xl Ai s.p.dm,.xl BM s.p.lk,.xl A7 s.p.dr,.xl A7 s.p.tg,.v<|ag J s.ev.ek,.v<|ag J s.ev.en,.v<|ag J s.ev.em,.v<|ag J s.ev.c1,.v<|ag J s.ev.c2,.v<|ag J s.ev.c3,.v<|ag J s.ev.c4,.v<|ag J s.ev.c5,.v<|.bool s.ev.d1,.v<|ag J s.ev.d2,.v<|ag J s.ev.d3,.v<|ag J s.ev.d4,.xl A7 s.dw],107,.cl,X⟩]
def jz (s:IA):T Yd:=letI a:=PK.AK s.p;letI b:=Js<|I5 s;letI c:=(M a.gs:Y);letI d:=AS (KV<|Jv s).left;letI e:=AA<|a.tk+1;letI f:=(aq c.toNat (0:Y));.br (s.p.tk==1000000) (.rz s.p.cs<|.rz s.p.ls<|.rz s.p.fl<|.rz s.p.ra<|.rz s.p.st<|.rz s.p.ca<|.rz s.p.mi<|.rz s.p.me<|.rz s.p.dm<|.rz s.p.lk<|.rz s.p.dr<|.rz s.p.tg<|.ok<|⟨15,⟨AS s.p.cs,s.p.os,s.p.ks,s.p.gs,s.p.bs,s.p.tk,s.p.up,AS s.p.ls,s.p.se,AS s.p.fl,AS s.p.ra,s.p.nx,AS s.p.st,AS s.p.ca,AS s.p.mi,AS s.p.me,AS s.p.dm,AS s.p.lk,AS s.p.dr,AS s.p.tg⟩,s.ev,([]:aB)⟩)<|.pc s.p<|.req (ak1 (⟨s.p,s.ev⟩:Lw))<|.r0 Lk<|.pd a<|.req (Uk.q<|Jv s)<|.rz (KV<|Jv s).left (.rl a.dr<|.rl a.cs<|.rl (KV<|Jv s).p.st<|.rl a.ca<|.rl a.mi<|.rl a.me<|.rl a.dr<|.rl a.tg<|.req (Rl.q<|TK s)<|.rm 8 c<|.rl a.cs<|.rl (gQ<|TK s).p.st<|.rl a.ca<|.rl a.mi<|.rl a.me<|.rl a.dr<|.rl a.tg<|.re c.toNat f<|.req (Uf.q<|I5 s)<|.br (! a.up) (.rz a.cs<|.rz b.p.st<|.rz a.ca<|.rz b.p.mi<|.rz b.p.me<|.rz a.dr<|.rz a.tg<|.rz b.dw<|.ok<|⟨0,{a with cs:=AS a.cs,tk:=e,st:=AS b.p.st,ca:=AS a.ca,mi:=AS b.p.mi,me:=AS b.p.me,lk:=d,dr:=AS a.dr,tg:=AS a.tg},s.ev,AS b.dw⟩)<|.br ((JY a.ls c e)==0) (.rm 8 c<|.rz b.p.st<|.rz a.ca<|.rz b.p.mi<|.rz b.p.me<|.rz a.dr<|.re c.toNat f<|.rl a.cs<|.rl a.tg<|.rl b.dw<|.req (Rv.q<|fG s)<|.rl (gK<|fG s).out<|.rl a.cs<|.rl a.tg<|.rl b.dw<|.req (Rx.q<|TJ s)<|.rz (gL<|TJ s).DE<|.rl a.tg<|.rl a.cs<|.rl a.tg<|.rl b.dw<|.req (Q1.q<|TI s)<|.rz (TV<|TI s).p.cs<|.rz a.tg<|.rz b.dw<|.ok<|⟨0,{a with cs:=AS (TV<|TI s).p.cs,tk:=e,st:=AS b.p.st,ca:=AS a.ca,mi:=AS b.p.mi,me:=AS b.p.me,lk:=d,dr:=AS a.dr,tg:=AS a.tg},s.ev,AS b.dw⟩)<|.rz b.p.st<|.rz a.ca<|.rz b.p.mi<|.rz b.p.me<|.rz a.dr<|.rl a.tg<|.rl a.cs<|.rl a.tg<|.rl b.dw<|.req (Q1.q<|TH s)<|.rz (TV<|TH s).p.cs<|.rz a.tg<|.rz b.dw<|.ok<|⟨0,{a with cs:=AS (TV<|TH s).p.cs,tk:=e,st:=AS b.p.st,ca:=AS a.ca,mi:=AS b.p.mi,me:=AS b.p.me,lk:=d,dr:=AS a.dr,tg:=AS a.tg},s.ev,AS b.dw⟩)
def aEB (s:IA):Prop:=(VP s.p/\RQ s.p)/\VK s.p.se s.p.fl/\B2 s.p.ls=U
def UD (s:IA):Yd:=⟨PK.JM s.p,Jk (PK.JM s.p) (PK.BZ s.p) s.p,s.ev,if PK.JM s.p=0 then PK.Fu s.p else []⟩
def aDv:DA IA Yd:=⟨UN,Yr,λv b=>⟨rF b,rG b⟩,aEB,[0,1,3],[.pc 16 0 Ae,.kb 4,.pc 16 7 AO,.kb 5,.pc 16 9<|.int aw,.kb 6,.pc 16 10 Ag,.kb 7,.pc 16 12 B4,.kb 8,.pc 16 13 AO,.kb 9,.pc 16 14 BB,.kb 10,.pc 16 15 BS,.kb 11,.pc 16 16 Ai,.kb 12,.pc 16 17 BM,.kb 13,.pc 16 18 A7,.kb 14,.pc 16 19 A7,.kb 15,.pc 16 32 A7],abQ,acp,UD⟩
abbrev aju (s:IA):Prop:=aEB s/\UN s=UN s/\Yr s=Yr s
def X4:aN:=[XD,Xg,Xl,Xk,Xi,XB,XE,RC]
def aUp:Ax:=IT X4 (la 11 func69 TS<|la 6 func69 Qp<|la 3 func52 P4<|la 2 func68 NY<|la 1 func67 MV<|la 2 func76 Lh<|la 9 func23 Cx<|l0 X4) [⟨65,Pg.m,Tf⟩]
def aWb:DZ:=DG 69 21 11 (Q1.lp)<|DG 69 21 6 (Rx.lp)<|DG 52 21 3 (Rv.lp)<|DG 68 20 2 (Uf.lp)<|DG 67 20 1 (Rl.lp)<|DG 76 19 2 (Uk.lp)<|DG 23 0 9 (HS.lp)<|EM prog AT X4 20 2
def arw:EZ prog AT aWb:=DR func69 rfl AV TS<|DR func69 rfl AV Qp<|DR func52 rfl AV P4<|DR func68 rfl AV NY<|DR func67 rfl AV MV<|DR func76 rfl AV Lh<|DR func23 rfl AV Cx<|I9<|gk X4
def agf (s:IA):((Ep prog AT X4 aWb aUp).k 25 (UN s)<|Yr s).bind (λq=>GW (M<|Yr s) [0] [.pc 16 0 Ae,.kb 4,.pc 16 7 AO,.kb 5,.pc 16 9<|.int aw,.kb 6,.pc 16 10 Ag,.kb 7,.pc 16 12 B4,.kb 8,.pc 16 13 AO,.kb 9,.pc 16 14 BB,.kb 10,.pc 16 15 BS,.kb 11,.pc 16 16 Ai,.kb 12,.pc 16 17 BM,.kb 13,.pc 16 18 A7,.kb 14,.pc 16 19 A7,.kb 15,.pc 16 32 A7] .normal (q.1::UN s) q.2)=(jz s).mp (λs2=>⟨.normal,M (UN s)+1,[abQ s2],acp s2,U⟩):=AV
def ayF (s:IA) (hE:aEB s):(jz s).all (λq=>q=UD s):=by
 obtain ⟨⟨hV,hR⟩,hK,hls⟩:=id hE
 have hq:=hV.dec
 have hs:=Cz.1 hq.site
 have hs0:=Cz.1 hV.site
 have htk:s.p.AK.tk=s.p.tk:=(Ic s.p).2.2.2.2.2.1
 have hd:=aUu hR A0
 have hp:=hV.tk
 have A1:pB (Jv s):=⟨rfl,rfl,by show (M s.p.AK.lk:Y)<=20000000;omega,aAH,hq.lk,hq.st⟩
 have q1:=(axD _ A1).2
 have r1:(KV<|Jv s).p.st=s.p.AK.KD.st:=by
  refine (Prod.mk.inj q1).1.trans ?_
  show (s.p.AK.lk.drop 0).foldl _ _=LH _ _ _ _ _
  rw [aGi _<|Au _,El];rfl
 have r2:(KV<|Jv s).left=s.p.AK.KD.lk:=(Prod.mk.inj q1).2
 have h2:TK s=⟨(M s.p.AK.dr:Y),0,s.p.AK.KD,s.ev⟩:=by
  unfold TK;rw [r1,Fs,r2];rfl
 have A2:oz (TK s):=by
  rw [h2];exact ⟨rfl,rfl,hq.dr,by show (M s.p.AK.dr:Y)<=1000;rw [hq.dr];omega,hq.arr.st,by show 0<=s.p.AK.tk/\s.p.AK.tk<=1000000;rw [htk];exact hp⟩
 have r3:(gQ<|TK s).p.st=s.p.Ah.st:=by
  refine (axb _ A2).2.trans ?_;rw [h2]
  show FH (cnt1 s.p.AK.gs s.p.AK.dr s.p.AK.tk) 0 s.p.AK.KD.st ((M s.p.AK.dr:Y)-0).toNat=_
  rw [QJ,C2,ajL];rfl
 have h3:I5 s=⟨s.p.Ah.gs,(M s.p.Ah.gs:Y),0,s.p.Ah,s.ev,aq (M s.p.Ah.gs) 0⟩:=by
  unfold I5;rw [r3,Fs,r2,C2];rfl
 have hb:VP s.p.Ah:=hq.arr.cnt
 have A3:mD (I5 s):=by
  rw [h3];exact ⟨rfl,rfl,aA9,rfl,hb.st,hb.ca,hb.mi,hb.me,CV⟩
 have q4:=(awW _ A3).2
 have q4:(⟨(Js<|I5 s).p.st,(Js<|I5 s).p.mi,(Js<|I5 s).p.me,(Js<|I5 s).dw⟩:DW)=s.p.Ah.dw:=by
  refine q4.trans ?_;rw [h3]
  show FH (λk d=>Fh s.p.Ah.gs s.p.Ah.ca d (k:Y)) 0 _ ((M s.p.Ah.gs:Y)-0).toNat=_
  rw [QJ,C2,aoe];rfl
 have r4:(Js<|I5 s).p.st=s.p.Ah.dw.st:=B0 DW.st q4
 have r5:(Js<|I5 s).p.mi=s.p.Ah.dw.mi:=B0 DW.mi q4
 have r6:(Js<|I5 s).p.me=s.p.Ah.dw.me:=B0 DW.me q4
 have r7:(Js<|I5 s).dw=s.p.Ah.dw.dw:=B0 DW.dw q4
 have hw:AA (s.p.AK.tk+1)=s.p.AK.tk+1:=AI
 have hdr:VP s.p.Ah.BU:=hb.drw
 unfold jz;simp only [Fs,r2,r3,r4,r5,r6,r7,hw];refine ⟨λc=>?_,λc=>?_⟩
 ·have e:s.p.JM=15:=AD (eq_of_beq c)
  repeat (refine ⟨Dk,?_⟩)
  show _=_
  unfold UD;rw [e,Jw Ad,AE Ad]
 have e:s.p.JM=0:=AE<|CY.1 c
 repeat (refine ⟨Dk,?_⟩)
 refine ⟨⟨hE,rfl,rfl⟩,?_⟩
 repeat (refine ⟨Dk,?_⟩)
 refine ⟨⟨A1,rfl,rfl⟩,?_⟩
 repeat (refine ⟨Dk,?_⟩)
 refine ⟨⟨A2,rfl,rfl⟩,?_⟩
 repeat (refine ⟨Dk,?_⟩)
 refine ⟨⟨A3,rfl,rfl⟩,λc2=>?_,λc2=>?_⟩
 ·have c2:s.p.Ah.BU.up=false:=(DB _).mp c2
  repeat (refine ⟨Dk,?_⟩)
  show _=_
  unfold UD;rw [e,Lo rfl,AD rfl];unfold PK.BZ PK.It;rw [AD c2];rfl
 have hu:¬s.p.Ah.BU.up=false:=by intro h;rw [show s.p.AK.up=X from h] at c2;cases c2
 have R:∀ {am cs},s.p.Ah.BU.Jj=am->Cp s.p.Ah.BU.gs s.p.Ah.BU.tg am s.p.Ah.BU.cs (M s.p.Ah.BU.tg)=cs->s.p.BZ={s.p.AK with cs:=cs,tk:=s.p.AK.tk+1,st:=s.p.Ah.dw.st,mi:=s.p.Ah.dw.mi,me:=s.p.Ah.dw.me,lk:=s.p.AK.KD.lk}:=λh1 h2=>by
  unfold PK.BZ PK.It;rw [AE hu,h1,h2];rfl
 refine ⟨λc3=>?_,λc3=>?_⟩
 ·have c3:JY s.p.AK.ls (M s.p.AK.gs) (s.p.AK.tk+1)=0:=eq_of_beq c3
  have cO:K8 s.p.AK.ls (M s.p.AK.gs) (s.p.AK.tk+1)=true:=by
   unfold JY at c3;split at c3
   ·assumption
   ·cases c3
  have cL:HP s.p.AK.ls (M s.p.AK.gs) (s.p.AK.tk+1)=GY (M s.p.AK.gs) s.p.AK.ls (s.p.AK.tk+1):=by
   unfold HP;rw [AD cO,C2]
  have hl:B2 s.p.AK.ls=true:=by
   unfold K8 at cO;simp only [AY] at cO;exact cO.1.1
  have hsA:s.p.Ah.BU.Jj=D4 s.p.AK.gs s.p.AK.ls (s.p.AK.tk+1):=AD c3
  have A4:mg (fG s):=⟨rfl,rfl,aA9,by show M (aq (M s.p.AK.gs:Y).toNat (0:Y))=_;rw [CV,C2];rfl,λj _ _=>Jx,ak⟩
  obtain ⟨_,_,_,q5⟩:=atw _ A4
  have q5:(gK<|fG s).out=Bq s.p.AK.gs:=q5
  have hlen:M (GY (M s.p.AK.gs) s.p.AK.ls<|s.p.AK.tk+1)=M s.p.AK.gs:=fQ
  have h6:TJ s=⟨GY (M s.p.AK.gs) s.p.AK.ls<|s.p.AK.tk+1,(M s.p.AK.gs:Y),0,s.p.Ah.BU,s.ev,s.p.Ah.dw.dw,Bq s.p.AK.gs⟩:=by
   unfold TJ;simp only [Fs,r2,r4,r5,r6,r7,hw,q5,cL,hlen];rfl
  have A5:mh (TJ s):=by
   rw [h6];refine ⟨rfl,by show (M s.p.AK.gs:Y)=_;rw [hlen],aA9,by show M (Bq s.p.AK.gs)=_;rw [hlen];exact Ib,λj j0 j1=>(show gi (Bq s.p.AK.gs) j=Ce (AG s.p.AK.gs j) from NQ j0 j1),ak⟩
  obtain ⟨_,_,_,q6⟩:=atx _ A5
  have q6:(gL<|TJ s).DE=D4 s.p.AK.gs s.p.AK.ls (s.p.AK.tk+1):=by
   refine q6.trans ?_;rw [h6]
   show HX (M<|GY (M s.p.AK.gs) s.p.AK.ls<|s.p.AK.tk+1) _=_
   rw [hlen];rfl
  have h7:TI s=⟨D4 s.p.AK.gs s.p.AK.ls<|s.p.AK.tk+1,(M s.p.AK.tg:Y),0,s.p.Ah.BU,s.ev,s.p.Ah.dw.dw⟩:=by
   unfold TI;simp only [Fs,r2,r4,r5,r6,r7,q6];rfl
  have A6:Zj (TI s):=by
   rw [h7];exact ⟨rfl,rfl,hq.Ew,hq.site,hq.tg1,λ_ k hk=>Ie hq.site hl A0 (by have:M (D4 s.p.AK.gs s.p.AK.ls<|s.p.AK.tk+1)=M s.p.AK.gs:=Ib;have hk:k<M (D4 s.p.AK.gs s.p.AK.ls<|s.p.AK.tk+1):=hk;omega)⟩
  have q7:(TV<|TI s).p.cs=Cp s.p.AK.gs s.p.AK.tg (D4 s.p.AK.gs s.p.AK.ls<|s.p.AK.tk+1) s.p.AK.cs (M s.p.AK.tg):=by
   exact aOx
  repeat (refine ⟨Dk,?_⟩)
  refine ⟨⟨A4,rfl,rfl⟩,?_⟩
  repeat (refine ⟨Dk,?_⟩)
  refine ⟨⟨A5,rfl,rfl⟩,?_⟩
  repeat (refine ⟨Dk,?_⟩)
  refine ⟨⟨A6,rfl,rfl⟩,?_⟩
  repeat (refine ⟨Dk,?_⟩)
  show _=_
  unfold UD;rw [e,Lo rfl,AD rfl,R hsA q7.symm];rfl
 ·have c3:¬JY s.p.AK.ls (M s.p.AK.gs) (s.p.AK.tk+1)=0:=CY.1 c3
  have hsA:s.p.Ah.BU.Jj=[]:=AE c3
  have h7:TH s=⟨[],(M s.p.AK.tg:Y),0,s.p.Ah.BU,s.ev,s.p.Ah.dw.dw⟩:=by
   unfold TH;simp only [Fs,r2,r4,r5,r6,r7];rfl
  have A6:Zj (TH s):=by
   rw [h7];exact ⟨rfl,rfl,hq.Ew,hq.site,hq.tg1,λ_ k hk=>NJ⟩
  have q7:(TV<|TH s).p.cs=Cp s.p.AK.gs s.p.AK.tg [] s.p.AK.cs (M s.p.AK.tg):=by
   exact aOx
  repeat (refine ⟨Dk,?_⟩)
  refine ⟨⟨A6,rfl,rfl⟩,?_⟩
  repeat (refine ⟨Dk,?_⟩)
  show _=_
  unfold UD;rw [e,Lo rfl,AD rfl,R hsA q7.symm];rfl
def aj3:Dn prog AT 25 aDv.m:=DA.sound (D:=aDv) (t:=jz) (gk X4) arw aUp.h agf λs hE=>⟨ayF s hE⟩
def JP (p:PK):Prop:=(VP p/\RQ p)/\VK p.se p.fl/\B2 p.ls=U
variable {p : PK} {ev : EW}
def qQ {e:EV}(h:Br p e≠0):BN p e=PK0/\D8 p e=[]:=⟨AD h,AD h⟩
def aEW (hv:Eu p=U) (h:ev.ek=1):Br p ev.ev=p.JM/\(p.JM=0->BN p ev.ev=p.BZ/\D8 p ev.ev=p.Fu):=by
 exact QU
def aN7 (hv:Eu p=U) (h:ev.ek=2):Br p ev.ev=p.GR ev.en ev.c ev.d/\(p.GR ev.en ev.c ev.d=0->BN p ev.ev=p.Nr ev.en ev.c ev.d/\D8 p ev.ev=[]):=by
 exact QU
def aN6 (hv:Eu p=U) (h:ev.ek=3):Br p ev.ev=p.JN ev.en/\(p.JN ev.en=0->BN p ev.ev=p.Pr ev.en/\D8 p ev.ev=[]):=by
 exact QU
def aN5 (hv:Eu p=U) (h:ev.ek=4):Br p ev.ev=p.Nt ev.en/\(p.Nt ev.en=0->BN p ev.ev=p.kO ev.en/\D8 p ev.ev=[]):=by
 exact QU
def aN4 (hv:Eu p=U) (h:ev.ek=5):Br p ev.ev=p.Nv/\(p.Nv=0->BN p ev.ev=p.Ur/\D8 p ev.ev=[]):=by
 exact QU
def aN3 (hv:Eu p=U) (h:ev.ek=6):Br p ev.ev=p.Fv/\(p.Fv=0->BN p ev.ev=p.UK/\D8 p ev.ev=[]):=by
 exact QU
def aN2 (hv:Eu p=U) (h:ev.ek=7):Br p ev.ev=p.Np ev.en/\(p.Np ev.en=0->BN p ev.ev=p.aXk ev.en/\D8 p ev.ev=[]):=by
 exact QU
def aN1 (hv:Eu p=U) (h:ev.ek=8):Br p ev.ev=p.IF ev.en ev.em/\(p.IF ev.en ev.em=0->BN p ev.ev=p.LD ev.en ev.em/\D8 p ev.ev=[]):=by
 exact QU
def aN0 (hv:Eu p=U) (h:ev.ek≠1/\ev.ek≠2/\ev.ek≠3/\ev.ek≠4/\ev.ek≠5/\ev.ek≠6/\ev.ek≠7/\ev.ek≠8):Br p ev.ev=9:=by
 obtain ⟨h1,h2,h3,h4,h5,h6,h7,h8⟩:=h
 simp [Br,hv,EW.ev,h1,h2,h3,h4,h5,h6,h7,h8]
def JP.lb (h:JP p):LB p:=by
 obtain ⟨⟨hV,hR⟩,hK,_⟩:=h
 have hs:=Cz.1 hV.site
 have hf:=hR.fl.2.1
 have hl:=hR.ls
 have hk:=hR.lk
 have hr:=hR.ra
 have ht:=hV.tk
 have h1:=hV.st
 have h2:=hV.ca
 have h3:=hV.mi
 have h4:=hV.me
 have h5:=hV.dm
 have h6:=hV.dr
 have h7:=hV.Ew
 have hf:M p.fl=2048:=hf
 refine ⟨?_,?_,?_,?_,?_,?_,?_,?_,?_,?_,?_,?_,λm hm=>I2 (hR.mi m hm) Ad⟩<;>omega
end Go.Proofs.YtpdndmobphnjcaaGreatDoor
namespace Go.Proofs.YtpdndmobphnjcaaGreatDoor
set_option maxRecDepth 100000
set_option maxHeartbeats 4000000
open Go.Proofs.Tryz
open Go.Sx
def aLz:aD->T LV
 | [x_p,x_ev]=>(match cu x_p with
  |some p=>(match yQ x_ev with
  |some ev=> .req (JP p) (.ok<|.AQ [BN p<|EW.ev ev,.xl A7<|D8 p<|EW.ev ev,Br p<|EW.ev ev])
  |none=> .no)
  |none=> .no)
 |_=> .no
def tkO (p:PK) (ev:EW):PK:=Jk (PK.JM p) (PK.BZ p)<|p
def ad8 (p:PK) (ev:EW):PK:=Jk (PK.GR p ev.en (EW.c ev)<|EW.d ev) (PK.Nr p ev.en (EW.c ev)<|EW.d ev)<|p
def ad9 (p:PK) (ev:EW):PK:=Jk (PK.JN p ev.en) (PK.Pr p ev.en)<|p
def adF (p:PK) (ev:EW):PK:=Jk (PK.Nt p ev.en) (PK.kO p ev.en)<|p
def adG (p:PK) (ev:EW):PK:=Jk (PK.Nv p) (PK.Ur p)<|p
def adM (p:PK) (ev:EW):PK:=Jk (PK.Fv p) (PK.UK p)<|p
def LJ (e:Y):LV:=.AQ [.agg [.xl Ae ([]:aJ),.xl .str ([]:aE),.xl Ak ([]:aP),.xl Af ([]:aF),.xl Al ([]:aQ),.v<|ag J 0,.v<|.bool X,.xl AO ([]:aL),.v<|ag J 0,.xl (.int aw) ([]:aB),.xl Ag ([]:bw),.v<|ag J 0,.xl B4 ([]:bf),.xl AO ([]:aL),.xl BB ([]:aXZ),.xl BS ([]:aX4),.xl Ai ([]:ba),.xl BM ([]:aXP),.xl A7 ([]:aB),.xl A7 ([]:aB)],.xl A7 ([]:aB),.v<|ag J e]
def iv:aN:=[alG]
def aUo:Ax:=IT iv (la 11 func69 TS<|la 6 func69 Qp<|la 3 func52 P4<|la 2 func68 NY<|la 1 func67 MV<|la 2 func76 Lh<|la 9 func23 Cx<|l0 iv) [⟨23,R5 λa=>pF.m a [],ajF⟩,⟨25,aDv.m,aj3⟩,⟨26,aDx.m,aj7⟩,⟨27,aDz.m,aj9⟩,⟨28,aDy.m,aj8⟩,⟨29,aE0.m,ajA⟩,⟨30,aDw.m,aj6⟩,⟨31,aDt.m,ajs⟩,⟨32,aE1.m,ajB⟩]
def auh (p:PK) (ev:EW):letI a:=ad8 p ev;letI b:=ad9 p ev;letI e:=adF p ev;letI f:=adG p ev;letI g:=adM p ev;letI h:=(azy (⟨p⟩:Ma));letI i:=M p.me;letI j:=M p.dm;letI k:=M p.lk;letI l:=M p.dr;letI m:=M p.tg;letI n:=PK.GR p ev.en (EW.c ev)<|EW.d ev;Bw prog AT (iv) aUo Ao f11 [p,ev]=.req (M p.lk<=100000000) (.br (!(Eu p)) (.ok<|LJ 1)<|.br (ev.ek==(1:Y)) (.req h<|.rv (ev)<|.pa p<|.rl p.st<|.rl p.ca<|.rl p.mi<|.re i p.me<|.re j p.dm<|.re k p.lk<|.re l p.dr<|.re m p.tg<|.req (aju (⟨p,ev⟩:IA))<|.br ((PK.JM p) !=0) (.ok<|LJ<|PK.JM p)<|.ok<|.AQ [tkO p ev,.xl A7 (if PK.JM (p)=0 then PK.Fu p else []),(0:Y)])<|.br (ev.ek==(2:Y)) (.req h<|.rv (ev)<|.pa p<|.rl p.st<|.rl p.ca<|.rl p.mi<|.re i p.me<|.re j p.dm<|.re k p.lk<|.re l p.dr<|.re m p.tg<|.req (ajw (⟨p,ev⟩:OM))<|.br (n !=0) (.ok<|LJ n)<|.rz a.cs<|.rz a.ls<|.rz a.fl<|.rz a.ra<|.rz a.st<|.rz a.ca<|.rz a.mi<|.rz a.me<|.rz a.dm<|.rz a.lk<|.rz a.dr<|.rz a.tg<|.ok<|.AQ [.agg [AS a.cs,a.os,a.ks,a.gs,a.bs,a.tk,a.up,AS a.ls,a.se,.xl (.int aw)<|AS a.fl,AS a.ra,a.nx,AS a.st,AS a.ca,AS a.mi,AS a.me,AS a.dm,AS a.lk,.xl A7<|AS a.dr,.xl A7<|AS a.tg],.xl A7 ([]:aB),(0:Y)])<|.br (ev.ek==(3:Y)) (.req h<|.rv (ev)<|.pa p<|.rl p.st<|.rl p.ca<|.rl p.mi<|.re i p.me<|.re j p.dm<|.re k p.lk<|.re l p.dr<|.re m p.tg<|.req (ajy (⟨p,ev⟩:Nz))<|.br ((PK.JN p ev.en) !=0) (.ok<|LJ<|PK.JN p ev.en)<|.rz b.cs<|.rz b.ls<|.rz b.fl<|.rz b.ra<|.rz b.st<|.rz b.ca<|.rz b.mi<|.rz b.me<|.rz b.dm<|.rz b.lk<|.rz b.dr<|.rz b.tg<|.ok<|.AQ [.agg [AS b.cs,b.os,b.ks,b.gs,b.bs,b.tk,b.up,AS b.ls,b.se,.xl (.int aw)<|AS b.fl,AS b.ra,b.nx,AS b.st,AS b.ca,AS b.mi,AS b.me,AS b.dm,AS b.lk,.xl A7<|AS b.dr,.xl A7<|AS b.tg],.xl A7 ([]:aB),(0:Y)])<|.br (ev.ek==(4:Y)) (.req h<|.rv (ev)<|.pa p<|.rl p.st<|.rl p.ca<|.rl p.mi<|.re i p.me<|.re j p.dm<|.re k p.lk<|.re l p.dr<|.re m p.tg<|.req (ajx (⟨p,ev⟩:ON))<|.br ((PK.Nt p ev.en) !=0) (.ok<|LJ<|PK.Nt p ev.en)<|.rz e.cs<|.rz e.ls<|.rz e.fl<|.rz e.ra<|.rz e.st<|.rz e.ca<|.rz e.mi<|.rz e.me<|.rz e.dm<|.rz e.dr<|.rz e.tg<|.ok<|.AQ [.agg [AS e.cs,e.os,e.ks,e.gs,e.bs,e.tk,e.up,AS e.ls,e.se,.xl (.int aw)<|AS e.fl,AS e.ra,e.nx,AS e.st,AS e.ca,AS e.mi,AS e.me,AS e.dm,e.lk,.xl A7<|AS e.dr,.xl A7<|AS e.tg],.xl A7 ([]:aB),(0:Y)])<|.br (ev.ek==(5:Y)) (.req h<|.rv (ev)<|.pa p<|.rl p.st<|.rl p.ca<|.rl p.mi<|.re i p.me<|.re j p.dm<|.re k p.lk<|.re l p.dr<|.re m p.tg<|.req (ajz (⟨p,ev⟩:O0))<|.br ((PK.Nv p) !=0) (.ok<|LJ<|PK.Nv p)<|.rz f.cs<|.rz f.fl<|.rz f.ra<|.rz f.st<|.rz f.ca<|.rz f.mi<|.rz f.me<|.rz f.dm<|.rz f.lk<|.rz f.dr<|.rz f.tg<|.ok<|.AQ [.agg [AS f.cs,f.os,f.ks,f.gs,f.bs,f.tk,f.up,f.ls,f.se,.xl (.int aw)<|AS f.fl,AS f.ra,f.nx,AS f.st,AS f.ca,AS f.mi,AS f.me,AS f.dm,AS f.lk,.xl A7<|AS f.dr,.xl A7<|AS f.tg],.xl A7 ([]:aB),(0:Y)])<|.br (ev.ek==(6:Y)) (.req h<|.rv (ev)<|.pa p<|.rl p.st<|.rl p.ca<|.rl p.mi<|.re i p.me<|.re j p.dm<|.re k p.lk<|.re l p.dr<|.re m p.tg<|.req (ajv (⟨p,ev⟩:OK))<|.br ((PK.Fv p) !=0) (.ok<|LJ<|PK.Fv p)<|.rz g.cs<|.rz g.st<|.rz g.ca<|.rz g.mi<|.rz g.me<|.rz g.dm<|.rz g.lk<|.rz g.dr<|.rz g.tg<|.ok<|.AQ [.agg [AS g.cs,g.os,g.ks,g.gs,g.bs,g.tk,g.up,g.ls,g.se,.xl (.int aw) g.fl,g.ra,g.nx,AS g.st,AS g.ca,AS g.mi,AS g.me,AS g.dm,AS g.lk,.xl A7<|AS g.dr,.xl A7<|AS g.tg],.xl A7 ([]:aB),(0:Y)])<|.br (ev.ek==(7:Y)) (.req h<|.rv (ev)<|.pa p<|.rl p.st<|.rl p.ca<|.rl p.mi<|.re i p.me<|.re j p.dm<|.re k p.lk<|.re l p.dr<|.re m p.tg<|.req (ajt (⟨p,ev⟩:OJ))<|.br ((PK.Np p ev.en) !=0) (.ok<|LJ<|PK.Np p ev.en)<|.rz p.cs<|.rz p.ls<|.rz p.fl<|.rz p.ra<|.rz (if PK.isC p ev.en=U then CX p.gs p.st ev.en 6 1 0 else p.st)<|.rz p.ca<|.rz p.mi<|.rz p.me<|.rz p.dm<|.rz p.lk<|.rz p.dr<|.rz p.tg<|.ok<|.AQ [.agg [AS p.cs,p.os,p.ks,p.gs,p.bs,p.tk,p.up,AS p.ls,p.se,.xl (.int aw)<|AS p.fl,AS p.ra,p.nx,AS (if PK.isC p ev.en=U then CX p.gs p.st ev.en 6 1 0 else p.st),AS p.ca,AS p.mi,AS p.me,AS p.dm,AS p.lk,.xl A7<|AS p.dr,.xl A7<|AS p.tg],.xl A7 ([]:aB),(0:Y)])<|.br (ev.ek==(8:Y)) (.req h<|.rv (ev)<|.pa p<|.rl p.st<|.rl p.ca<|.rl p.mi<|.re i p.me<|.re j p.dm<|.re k p.lk<|.re l p.dr<|.re m p.tg<|.req (ak0 (⟨p,ev⟩:N0))<|.br ((PK.IF p ev.en ev.em) !=0) (.ok<|LJ<|PK.IF p ev.en ev.em)<|.rz p.cs<|.rz p.ls<|.rz p.fl<|.rz p.ra<|.rz p.st<|.rz p.ca<|.rz p.mi<|.rz p.me<|.rz p.dm<|.rz p.lk<|.rz p.dr<|.rz (if PK.IF p ev.en ev.em=1 then p.tg else p.tg.set ev.en.toNat ev.em)<|.ok<|.AQ [.agg [AS p.cs,p.os,p.ks,p.gs,p.bs,p.tk,p.up,AS p.ls,p.se,.xl (.int aw)<|AS p.fl,AS p.ra,p.nx,AS p.st,AS p.ca,AS p.mi,AS p.me,AS p.dm,AS p.lk,.xl A7<|AS p.dr,.xl A7<|AS (if PK.IF p ev.en ev.em=1 then p.tg else p.tg.set ev.en.toNat ev.em)],.xl A7 ([]:aB),(0:Y)])<|.ok<|LJ 9):=AV
def XM:=vo (S:=aLz) func11 iv aUo (λargs lv h=>by
 refine ⟨?_⟩;unfold aLz at h;split at h
 ·split at h
  case h_2=>cases h
  rename_i p hp;obtain rfl:=uH hp;split at h
  case h_2=>cases h
  rename_i ev hev;obtain rfl:=awP hev;simp only [canL,canX];rw [auh];obtain ⟨hJ,rfl⟩:=h;obtain ⟨⟨hV,hR⟩,hK,hl⟩:=id hJ
  have hv:=WH.2 hV
  have hs:=Cz.1 hV.site
  have hlb:=hJ.lb
  have D:lL ⟨p⟩:=hlb
  have hlk:=hlb.lk
  refine ⟨A0,λc=>?_,λ_=>?_⟩
  ·rw [hv] at c
   cases c
  refine ⟨λc1=>?_,λc1=>?_⟩
  ·have c1:ev.ek=1:=eq_of_beq c1
   obtain ⟨s1,s2⟩:=aEW hv c1;refine ⟨⟨D,rfl,rfl⟩,rfl,?_⟩
   repeat (refine ⟨Dk,?_⟩)
   refine ⟨⟨hJ,rfl,rfl⟩,λc=>?_,λc=>?_⟩
   ·exact QT
   ·have c:=Du c
    repeat (refine ⟨LW,?_⟩)
    show _=_
    rw [(s2 c).1,(s2 c).2,s1,c];simp only [Fs];rw [show tkO p ev=_ from Lo c,AD trivial]
  refine ⟨λc1=>?_,λc2=>?_⟩
  ·have c1:ev.ek=2:=eq_of_beq c1
   obtain ⟨s1,s2⟩:=aN7 hv c1;refine ⟨⟨D,rfl,rfl⟩,rfl,?_⟩
   repeat (refine ⟨Dk,?_⟩)
   refine ⟨⟨⟨hV.st,cJ,hV.ca,hV.mi,hV.dm⟩,rfl,rfl⟩,λc=>?_,λc=>?_⟩
   ·exact QT
   ·have c:=Du c
    repeat (refine ⟨Dk,?_⟩)
    show _=_
    rw [(s2 c).1,(s2 c).2,s1,c];simp only [Fs];rw [show ad8 p ev=_ from Lo c]
  refine ⟨λc1=>?_,λc3=>?_⟩
  ·have c1:ev.ek=3:=eq_of_beq c1
   obtain ⟨s1,s2⟩:=aN6 hv c1;refine ⟨⟨D,rfl,rfl⟩,rfl,?_⟩
   repeat (refine ⟨Dk,?_⟩)
   refine ⟨⟨⟨hV.st,cJ,hV.ca,hV.mi,hV.dm⟩,rfl,rfl⟩,λc=>?_,λc=>?_⟩
   ·exact QT
   ·have c:=Du c
    repeat (refine ⟨Dk,?_⟩)
    show _=_
    rw [(s2 c).1,(s2 c).2,s1,c];simp only [Fs];rw [show ad9 p ev=_ from Lo c]
  refine ⟨λc1=>?_,λc4=>?_⟩
  ·have c1:ev.ek=4:=eq_of_beq c1
   obtain ⟨s1,s2⟩:=aN5 hv c1;refine ⟨⟨D,rfl,rfl⟩,rfl,?_⟩
   repeat (refine ⟨Dk,?_⟩)
   refine ⟨⟨⟨cJ,hlk⟩,rfl,rfl⟩,λc=>?_,λc=>?_⟩
   ·exact QT
   ·have c:=Du c
    repeat (refine ⟨Dk,?_⟩)
    show _=_
    rw [(s2 c).1,(s2 c).2,s1,c];simp only [Fs];rw [show adF p ev=_ from Lo c]
  refine ⟨λc1=>?_,λc5=>?_⟩
  ·have c1:ev.ek=5:=eq_of_beq c1
   obtain ⟨s1,s2⟩:=aN4 hv c1;refine ⟨⟨D,rfl,rfl⟩,rfl,?_⟩
   repeat (refine ⟨Dk,?_⟩)
   refine ⟨⟨ak,rfl,rfl⟩,λc=>?_,λc=>?_⟩
   ·exact QT
   ·have c:=Du c
    repeat (refine ⟨Dk,?_⟩)
    show _=_
    rw [(s2 c).1,(s2 c).2,s1,c];simp only [Fs];rw [show adG p ev=_ from Lo c]
  refine ⟨λc1=>?_,λc6=>?_⟩
  ·have c1:ev.ek=6:=eq_of_beq c1
   obtain ⟨s1,s2⟩:=aN3 hv c1;refine ⟨⟨D,rfl,rfl⟩,rfl,?_⟩
   repeat (refine ⟨Dk,?_⟩)
   refine ⟨⟨⟨hR.fl.2.2,cJ⟩,rfl,rfl⟩,λc=>?_,λc=>?_⟩
   ·exact QT
   ·have c:=Du c
    repeat (refine ⟨Dk,?_⟩)
    show _=_
    rw [(s2 c).1,(s2 c).2,s1,c];simp only [Fs];rw [show adM p ev=_ from Lo c]
  refine ⟨λc1=>?_,λc7=>?_⟩
  ·have c1:ev.ek=7:=eq_of_beq c1
   obtain ⟨s1,s2⟩:=aN2 hv c1;refine ⟨⟨D,rfl,rfl⟩,rfl,?_⟩
   repeat (refine ⟨Dk,?_⟩)
   refine ⟨⟨⟨hV.st,cJ⟩,rfl,rfl⟩,λc=>?_,λc=>?_⟩
   ·exact QT
   ·have c:=Du c
    have hc:p.isC ev.en=true:=by
     cases e:p.isC ev.en
     ·unfold PK.Np at c
      rw [AD e] at c;cases c
     ·rfl
    repeat (refine ⟨Dk,?_⟩)
    show _=_
    rw [(s2 c).1,(s2 c).2,s1,c];simp only [Fs];rw [AD hc];rfl
  refine ⟨λc1=>?_,λc8=>?_⟩
  ·have c1:ev.ek=8:=eq_of_beq c1
   obtain ⟨s1,s2⟩:=aN1 hv c1;refine ⟨⟨D,rfl,rfl⟩,rfl,?_⟩
   repeat (refine ⟨Dk,?_⟩)
   refine ⟨⟨hV,rfl,rfl⟩,λc=>?_,λc=>?_⟩
   ·exact QT
   ·have c:=Du c
    repeat (refine ⟨Dk,?_⟩)
    show _=_
    rw [(s2 c).1,(s2 c).2,s1,c];simp only [Fs];rw [AE Ad];rfl
  have e:=aN0 (ev:=ev) hv ⟨CY.1 c1,CY.1 c2,CY.1 c3,CY.1 c4,CY.1 c5,CY.1 c6,CY.1 c7,CY.1 c8⟩
  show LJ _=_
  rw [(qQ (by rw [e];decide)).1,(qQ (by rw [e];decide)).2,e]
  rfl
 ·cases h)
structure O2 where
 (k0 k i I7:Y)
 I8:aV
 WO:Y
 Fq:aV
 arf:Y
 o:aB
def aBy (s:O2):T (Rd O2):=letI a:=(s.o.set s.i.toNat (255:Y));.br (an<|s.i<s.k) (.ik s.i (M s.o)<|.re (M s.o) a<|.nx {s with i:=AA<|s.i+1,o:=a})<|.rl s.o<|.so (.exit 0) s
def mA (s:O2):Prop:=s.i=0/\s.k=(M s.o:Y)/\s.k<=4096
def mJ (s:O2):Prop:=0<=s.i/\s.i<=s.k/\s.o.take s.i.toNat=aq s.i.toNat 255/\s.k=(M s.o:Y)/\s.k<=4096
def xF (s:O2):aC:=(s.k-s.i).toNat
def acW (x:Ex) (s s':O2):Prop:=True
def anD:∀s,mA s->mJ s:=by
 rintro s ⟨h0,h2,h3⟩
 exact ⟨A0,A0,GN,h2,h3⟩
def aiR:Da mJ xF acW aBy:=by
 intro s hI;obtain ⟨h0,h1,hq,h2,h3⟩:=hI;refine AH (λc1=>?_) λc1=>trivial
 have c1:s.i<s.k:=A8
 rw [AI (x:=s.i+1)];refine ⟨⟨A8,A8,?_,A8,h3⟩,by simp only [xF];omega⟩
 rw [show (s.i+1).toNat=s.i.toNat+1 by omega,Zx A8,List.take_set_of_le<|Au _,hq,List.getElem_set_self,nM]
def ZJ:AR O2:=⟨1,43,[4,5,6,33,34],[],λs=>[.own 1 0,s.k0,.own 2 0,s.k,s.i],λs=>[⟨[s.I7,.v<|s.I8],47,.cl,X⟩,⟨[s.WO,.v<|s.Fq],47,.cl,X⟩,⟨[s.arf,.os 3 1 0<|M s.o],47,.cl,X⟩,bV 5 (.int aw) s.o],λv b=>⟨AL v 1,AL v 3,AL v 4,Am b 0 0,HJ<|BD (Cc b 0) 1,Am b 1 0,HJ<|BD (Cc b 1) 1,Am b 2 0,Ab (.int aw) b 3⟩,aBy,λs r=> {s with i:=r.i,o:=r.o},λs=>s,λ_ s=>s,[.exit 0],mA,mJ,xF⟩
abbrev Ov:=ZJ.run
abbrev aKz:=ZJ.At
def X7:aN:=[aBd]
def aiZ:Ax:=kI X7<|l0 X7
def afP:Rq mJ aBy:=by
 intro s hI;refine ⟨λc1=>⟨?_,?_,?_,ak⟩,λc1=>⟨A9,ak⟩⟩
 all_goals ((obtain ⟨h0,h1,hq,h2,h3⟩:=hI;(try simp only [Ac] at c1);first|omega|exact ⟨rfl,AJ⟩))
def aTR:ZJ.Ok:={}
def aSt:ZJ.Pf (acW):=⟨anD,λs h=>rfl,aiR,afP⟩
def auA:=s2 (b:=bN f96 0) aTR aSt X7 aiZ
def ave:Rs mA aKz Ov (λs:O2=>aq s.k.toNat 255) (λx s' (v:aB)=>x=.exit 0/\s'.o=v):=Dp aTR aSt (λs hI=>by
  obtain ⟨h0,h1,hq,h2,h3⟩:=hI;refine AH (λc1=>rfl) λc1=>⟨rfl,?_⟩
  have c1:s.k<=s.i:=A8
  rw [show s.i.toNat=s.k.toNat by omega,Dj A0] at hq
  exact hq)
def aVP:aD->T LV
 | [.v (ag J a),.v (ag J b)]=> .req (a=512/\b=4) (.ok<|.AQ [.agg [(512:Y),.xl (.int aw) Eb],(0:Y)])
 |_=> .no
def Ju (a b:Y):O2:=(⟨0,(((AA<|a*b).toNat:aC):Y),0,0,.slice aj 0 0,0,.slice aj 0 0,a,aq (AA<|a*b).toNat (0:Y)⟩:O2)
def aiY:Ax:=kI X7<|la 5 func96 auA<|l0 X7
def aw8:M Eb=2048:=LW
def aw9:BF [80,0,0,0,0] (aq (Int.toNat 2048) 255)=Eb:=by
 have h4:D6 0=[0,0,0,0]:=Ad
 have hp:BR []=[]:=rfl
 unfold BF Eb Dh;rw [h4,hp,List.drop_replicate,Ek,Cw,yv]
 congr 1
def akh:=vo (S:=aVP) func53 X7 aiY (λargs lv h=>by
 unfold aVP at h;split at h
 ·rename_i a b
  refine Aq (letI d:=Ov<|Ju a b;letI e:=(FF (0:Y) ([]:aB));letI f:=AA<|a*b;letI g:=(BF ([(80:Y),(0:Y),(0:Y),(0:Y),(0:Y)]) d.o);letI i:=M d.o;.br (an<|a<1) (.br (((1:Y) !=0) ||(! e)) (.ok<|.AQ [.agg [(0:Y),.xl (.int aw) ([]:aB)],(1:Y)])<|.no /-copy to v -/)<|.br (an<|a>512) (.br (((1:Y) !=0) ||(! e)) (.ok<|.AQ [.agg [(0:Y),.xl (.int aw) ([]:aB)],(1:Y)])<|.no /-copy to v -/)<|.br (an<|b<1) (.br (((1:Y) !=0) ||(! e)) (.ok<|.AQ [.agg [(0:Y),.xl (.int aw) ([]:aB)],(1:Y)])<|.no /-copy to v -/)<|.req (a≠0)<|.br (an<|b>(AA<|(4096:Y).tdiv a)) (.br (((1:Y) !=0) ||(! e)) (.ok<|.AQ [.agg [(0:Y),.xl (.int aw) ([]:aB)],(1:Y)])<|.no /-copy to v -/)<|.req (0<=f/\f<=f/\1*f<=2^48/\f<2^63)<|.req (0=0/\f.toNat=M (aq f.toNat (0:Y)))<|.req (ZJ.q<|Ju a b)<|.br ((0:Y) !=0) (.ok<|.AQ [.agg [(0:Y),.xl (.int aw) ([]:aB)],(1:Y)])<|.req (0+i<=M d.o)<|.br (!(FF a<|(d.o.drop 0).take i)) (.ok<|.AQ [.agg [(0:Y),.xl (.int aw) ([]:aB)],(1:Y)])<|.req (M d.o=M d.o/\M ([(80:Y),(0:Y),(0:Y),(0:Y),(0:Y)])<=M d.o)<|.req (0+i<=M g)<|.ok<|.AQ [.agg [a,.xl (.int aw)<|(g.drop 0).take i],(0:Y)]) ?_;obtain ⟨⟨rfl,rfl⟩,rfl⟩:=h
  have hw:AA (512*4)=2048:=Ad
  have hk:(Ju 512 4).k=2048:=LW
  have hl:M (Ju 512 4).o=2048:=LW
  have hV:mA (Ju 512 4):=⟨rfl,by rw [hk,hl];rfl,aAu⟩
  have q:aKz (Ju 512 4)=.exit 0/\(Ov<|Ju 512 4).o=aq (Ju 512 4).k.toNat 255:=ave _ hV
  rw [hk] at q
  have hL:M (Ov<|Ju 512 4).o=2048:=by rw [q.2,CV];rfl
  have hT:(((Ov<|Ju 512 4).o).drop 0).take (M (Ov<|Ju 512 4).o)=(Ov<|Ju 512 4).o:=AJ
  have hJ:FF 512 (Ov<|Ju 512 4).o=true:=MX.2 ⟨NZ.2 (by rw [hL];decide),by rw [hL];decide,A0,A0,Ad⟩
  have hC:BF [80,0,0,0,0] (Ov<|Ju 512 4).o=Eb:=by rw [q.2];exact aw9
  rw [hw,hT,hJ,hC,hL]
  have hj:=aw8
  refine ⟨λc=>DP,λ_=>⟨λc=>DP,λ_=>⟨λc=>DP,λ_=>⟨Ad,λc=>DP,λ_=>⟨Ad,by rw [CV];decide,⟨hV,rfl,rfl⟩,λc=>DP,λ_=>⟨Ad,λc=>DP,λ_=>⟨⟨rfl,Ad⟩,by rw [hj];decide,?_⟩⟩⟩⟩⟩⟩⟩
  rfl
 ·cases h)
def aWD:aD->T LV
 | []=> .ok (.AQ [.agg [(512:Y),.xl (.int aw) Eb],(0:Y)])
 |_=> .no
def aiE:aN:=[akh]
def aAw:=vo (S:=aWD) func21 aiE kN (λargs lv h=>by
 refine ⟨?_⟩;unfold aWD at h;split at h
 ·simp only [canL]
  obtain rfl:=h;exact ⟨A9,rfl⟩
 ·cases h)
structure PX where
 aje:aB
 e:Y
 l:aB
 (m i:Y)
 BE:aJ
 Bg:aE
 C9:aP
 BP:aF
 CA:aQ
def aIs:=bN f10 0
def aBV (s:PX):T (Rd PX):=
 .br (an<|s.i<s.m) (.ix s.i (M s.l)<|.br (!(inB (gi s.l s.i) (-200) 200)) (.so (.ret) {s with e:=(1:Y)})<|.nx {s with i:=AA<|s.i+1}) (.so (.exit 0) s)
def lf (s:PX):Prop:=(s.i=0/\s.m=(M s.l:Y))/\s.m<=1000/\s.e=0
def Ya (s:PX):Prop:=(0<=s.i/\s.m=(M s.l:Y))/\s.m<=1000/\s.e=0/\∀j:aC,(j:Y)<s.i->inB (gi s.l j) (-200) 200=U
def wk (s:PX):aC:=(s.m-s.i).toNat
def aDX (x:Ex) (s s':PX):Prop:=(x=.exit 0/\s'.e=0/\s'.l.all (λx=>inB x (-200) 200)=U)\/(x=.ret/\s'.e=1/\s'.l.all (λx=>inB x (-200) 200)=X)
def amR:∀s,lf s->Ya s:=by
 rintro s ⟨⟨h0,h1⟩,h2,h3⟩
 exact ⟨⟨A0,h1⟩,h2,h3,λj hj=>A0⟩
def agK:Da Ya wk aDX aBV:=by
 intro s hI;obtain ⟨⟨h0,h1⟩,h2,h3,h4⟩:=hI
 have key:s.l.all (λx=>inB x (-200) 200)=D5 (M s.l) (λk=>inB (gi s.l k) (-200) 200):=(rX (f:=λx=>inB x (-200) 200)).symm
 refine AH (λc1=>AH (λc2=>?_) λc2=>?_) λc1=>?_
 ·have c1:s.i<s.m:=AX
  refine .inr ⟨rfl,rfl,?_⟩;rw [key];exact Nd s.i.toNat A0 A8
 ·have c1:s.i<s.m:=A8
  have c2:=(IW _).mp c2
  rw [AI (x:=s.i+1)];refine ⟨⟨⟨A8,h1⟩,h2,h3,λj hj=>?_⟩,by simp only [wk];omega⟩
  by_cases e:(j:Y)<s.i
  ·exact h4 j e
  ·rw [show (j:Y)=s.i by grind]
   exact c2
 ·have c1:s.m<=s.i:=A8
  exact .inl ⟨rfl,h3,by rw [key];exact DQ.2 λj hj=>h4 j A0⟩
def S4:AR PX:=⟨0,105,[1,2,4,5,27,28,29],[],λs=>[.xl A7 s.aje,.own 0 0,.own 1 0,s.e,.xl A7 s.l,s.m,s.i],λs=>[⟨[s.BE,s.Bg,s.C9,s.BP,s.CA],28,.cl,X⟩,zB],λv b=>⟨B1 A7 v 0,AL v 3,B1 A7 v 4,AL v 5,AL v 6,AF Ae b 0 0,AF .str b 0 1,AF Ak b 0 2,AF Af b 0 3,AF Al b 0 4⟩,aBV,λs r=> {s with e:=r.e,i:=r.i},λs=>s,λ_ s=>s,[.ret,.exit 0],lf,Ya,wk⟩
abbrev Wo:=S4.run
abbrev gg:=S4.At
def afu:Rq Ya aBV:=by
 exact aNy
def XW:aN:=[PC,jf,iN,aAw,Wl]
def xt:Ax:=kI XW<|la 11 func69 TS<|la 6 func69 Qp<|la 3 func52 P4<|la 2 func68 NY<|la 1 func67 MV<|la 2 func76 Lh<|la 9 func23 Cx<|l0 XW
def aTE:S4.Ok:={}
def aSg:S4.Pf (aDX):=⟨amR,λs h=>rfl,agK,afu⟩
def atE:SA 0 aIs S4:=s1 aTE aSg XW xt
def avA:Fi lf Ya aDX gg Wo:=AR.fin aTE aSg
structure PW where
 (e n i:Y)
 BE:aJ
 Bg:aE
 C9:aP
 BP:aF
 CA:aQ
 w8:aJ
 p1:aE
 p2:aP
 p3:aF
 p4:aQ
 (p9 TP:aB)
 ra:bw
 st:bf
 ca:aL
 mi:aXZ
 me:aX4
 dm:ba
def aIr:=bN f10 1
def aBU (s:PW):T (Rd PW):=letI a:=(X,((0:Y),((0:Y),(9:Y))));letI b:=((AA<|s.i+1),((0:Y),X));letI c:=(s.st++([((0:Y),((0:Y),((0:Y),X)))]));.br (an<|s.i<s.n) (.rb (M s.st) (M<|[((0:Y),((0:Y),((0:Y),X)))]) 32<|.rb (M s.me) (M<|[b]) 24<|.rb (M s.dm) (M<|[a]) 32<|.rl s.ra<|.re (M s.st+M ([((0:Y),((0:Y),((0:Y),X)))])) c<|.rl s.ca<|.rl s.mi<|.re (M s.me+M ([b])) (s.me++([b]))<|.re (M s.dm+M ([a])) (s.dm++([a]))<|.nx {s with i:=AA<|s.i+1,st:=c,me:=s.me++([b]),dm:=s.dm++([a])})<|.rl s.ra<|.rl s.st<|.rl s.ca<|.rl s.mi<|.rl s.me<|.rl s.dm<|.so (.exit 2) s
def lZ (s:PW):Prop:=s.i=0/\(s.n<=1000/\0<=s.n)/\s.st=[]/\s.me=[]/\s.dm=[]
def YZ (s:PW):Prop:=(0<=s.i/\s.i<=s.n)/\(s.n<=1000/\0<=s.n)/\s.st=aq s.i.toNat (0,0,0,X)/\s.me=(G2 s.i.toNat).map (λk=>(k+1,0,X))/\s.dm=aq s.i.toNat (X,0,0,9)
def wj (s:PW):aC:=(s.n-s.i).toNat
def aDW (x:Ex) (s s':PW):Prop:=x=.exit 2/\s'.st=aq s'.n.toNat (0,0,0,X)/\s'.me=(G2 s'.n.toNat).map (λk=>(k+1,0,X))/\s'.dm=aq s'.n.toNat (X,0,0,9)
def amQ:∀s,lZ s->YZ s:=by
 rintro s ⟨h0,h1,h2,h3,h4⟩
 refine ⟨A0,h1,?_,?_,?_⟩
 ·simp_all
 ·rw [h3,h0];rfl
 ·simp_all
def agJ:Da YZ wj aDW aBU:=by
 intro s hI;obtain ⟨⟨h0,h1⟩,h2,h3,h4,h5⟩:=hI;refine AH (λc1=>?_) λc1=>?_
 ·have c1:s.i<s.n:=A8
  rw [AI (x:=s.i+1)]
  have e:(s.i+1).toNat=s.i.toNat+1:=A0
  refine ⟨⟨⟨A8,A8⟩,h2,?_,?_,?_⟩,by simp only [wj];omega⟩
  ·show s.st++[_]=aq (s.i+1).toNat _
   rw [e,h3,nM]
  ·show s.me++[_]=(G2 (s.i+1).toNat).map _
   rw [e,h4,aGO,KJ,Bs h0];rfl
  ·show s.dm++[_]=aq (s.i+1).toNat _
   rw [e,h5,nM]
 ·have c1:s.n<=s.i:=A8
  have e:s.i=s.n:=A0
  rw [e] at h3 h4 h5;exact ⟨rfl,h3,h4,h5⟩
def S3:AR PW:=⟨0,105,[2,4,5,11,63,64],[.ns 11 12 95 B4,.ns 11 15 98 BS,.ns 11 16 77 Ai],λs=>[.own 0 0,.own 1 0,s.e,.own 2 0,s.n,s.i],λs=>[⟨[s.BE,s.Bg,s.C9,s.BP,s.CA],28,.cl,X⟩,zB,⟨[s.w8,s.p1,s.p2,s.p3,s.p4,(0:Y),U,.v<|.slice aj 0 0,(512:Y),.xl (.int aw) s.p9,.os 3 2 0<|M s.ra,(1:Y),.os 4 4 0<|M s.st,.os 5 5 0<|M s.ca,.os 6 3 0<|M s.mi,.os 7 3 0<|M s.me,.os 8 4 0<|M s.dm,.v<|.slice aj 0 0,.xl A7 s.TP,.v<|.slice aj 0 0],58,.cl,X⟩,bV 143 Ag s.ra,bV 95 B4 s.st,bV 75 AO s.ca,bV 148 BB s.mi,bV 98 BS s.me,bV 77 Ai s.dm],λv b=>⟨AL v 2,AL v 4,AL v 5,AF Ae b 0 0,AF .str b 0 1,AF Ak b 0 2,AF Af b 0 3,AF Al b 0 4,AF Ae b 2 0,AF .str b 2 1,AF Ak b 2 2,AF Af b 2 3,AF Al b 2 4,AF (.int aw) b 2 9,AF A7 b 2 18,Ab Ag b 3,Ab B4 b 4,Ab AO b 5,Ab BB b 6,Ab BS b 7,Ab Ai b 8⟩,aBU,λs r=> {s with i:=r.i,st:=r.st,me:=r.me,dm:=r.dm},λs=>s,λ_ s=>s,[.exit 2],lZ,YZ,wj⟩
abbrev NL:=S3.run
abbrev avv:=S3.At
def aft:Rq YZ aBU:=by
 intro s hI;refine ⟨λc1=>⟨?_,?_,?_,A9,?_,A9,A9,?_,?_,ak⟩,λc1=>⟨A9,A9,A9,A9,A9,A9,ak⟩⟩
 all_goals ((obtain ⟨⟨h0,h1⟩,h2,h3,h4,h5⟩:=hI;have l1:M s.st=s.i.toNat:=A8;have l2:M s.me=s.i.toNat:=(by rw [h4];simp [Oz]);have l3:M s.dm=s.i.toNat:=A8;simp only [Ac] at c1;first|(simp only [Bm,C3];omega) |(simp only [BG,Bm,C3,Em];done) |exact ⟨rfl,AJ⟩))
def aTD:S3.Ok:={}
def aSf:S3.Pf (aDW):=⟨amQ,λs h=>rfl,agJ,aft⟩
def atD:SA 0 aIr S3:=s1 aTD aSf XW xt
def av9:Fi lZ YZ aDW avv NL:=AR.fin aTD aSf
structure PV where
 e:Y
 l:aJ
 (n i:Y)
 w8:aJ
 p1:aE
 p2:aP
 p3:aF
 p4:aQ
 (p9 TP:aB)
 ra:bw
 st:bf
 ca:aL
 mi:aXZ
 me:aX4
 dm:ba
 tg:aB
def aIq:=bN f10 2
def aBT (s:PV):T (Rd PV):=letI a:=AZ s.l s.i;.br (an<|s.i<s.n) (.ix s.i (M s.l)<|.rb (M s.tg) (M<|[a.2.2.1]) 8<|.rl s.ra<|.rl s.st<|.rl s.ca<|.rl s.mi<|.rl s.me<|.rl s.dm<|.re (M s.tg+M ([a.2.2.1])) (s.tg++([a.2.2.1]))<|.nx {s with i:=AA<|s.i+1,tg:=s.tg++([a.2.2.1])})<|.rl s.ra<|.rl s.st<|.rl s.ca<|.rl s.mi<|.rl s.me<|.rl s.dm<|.rl s.tg<|.so (.exit 4) s
def lY (s:PV):Prop:=s.i=0/\(s.n=(M s.l:Y)/\s.n<=1000)/\s.tg=[]
def YY (s:PV):Prop:=(0<=s.i/\s.i<=s.n)/\(s.n=(M s.l:Y)/\s.n<=1000)/\s.tg=(s.l.take s.i.toNat).map (λc=>c.2.2.1)
def wh (s:PV):aC:=(s.n-s.i).toNat
def aDV (x:Ex) (s s':PV):Prop:=x=.exit 4/\s'.tg=s'.l.map (λc=>c.2.2.1)
def amP:∀s,lY s->YY s:=by
 rintro s ⟨h0,h1,h2⟩
 exact ⟨A0,h1,GN⟩
def ah9:Da YY wh aDV aBT:=by
 intro s hI;obtain ⟨⟨h0,h1⟩,⟨h2,h3⟩,h4⟩:=hI;refine AH (λc1=>?_) λc1=>?_
 ·have c1:s.i<s.n:=A8
  rw [AI (x:=s.i+1)]
  have e:(s.i+1).toNat=s.i.toNat+1:=A0
  refine ⟨⟨⟨A8,A8⟩,⟨h2,h3⟩,?_⟩,by simp only [wh];omega⟩
  show s.tg++[_]=(s.l.take (s.i+1).toNat).map _
  have e2:AZ s.l s.i=s.l[s.i.toNat]' A0:=by
   have:=Qx (cs:=s.l) (k:=s.i.toNat) A0
   exact this
  rw [e,h4,Zx A0,KJ,e2];rfl
 ·have c1:s.n<=s.i:=A8
  refine ⟨rfl,?_⟩;rw [h4,Dj A0]
def S2:AR PV:=⟨0,105,[4,5,11,89,90,91],[.ns 11 19 3 A7],λs=>[.own 0 0,s.e,.own 1 0,s.l,s.n,s.i],λs=>[zB,⟨[s.w8,s.p1,s.p2,s.p3,s.p4,(0:Y),U,.v<|.slice aj 0 0,(512:Y),.xl (.int aw) s.p9,.os 2 2 0<|M s.ra,(1:Y),.os 3 4 0<|M s.st,.os 4 5 0<|M s.ca,.os 5 3 0<|M s.mi,.os 6 3 0<|M s.me,.os 7 4 0<|M s.dm,.v<|.slice aj 0 0,.xl A7 s.TP,.os 8 1 0<|M s.tg],58,.cl,X⟩,bV 143 Ag s.ra,bV 95 B4 s.st,bV 75 AO s.ca,bV 148 BB s.mi,bV 98 BS s.me,bV 77 Ai s.dm,bV 3 A7 s.tg],λv b=>⟨AL v 1,B1 Ae v 3,AL v 4,AL v 5,AF Ae b 1 0,AF .str b 1 1,AF Ak b 1 2,AF Af b 1 3,AF Al b 1 4,AF (.int aw) b 1 9,AF A7 b 1 18,Ab Ag b 2,Ab B4 b 3,Ab AO b 4,Ab BB b 5,Ab BS b 6,Ab Ai b 7,Ab A7 b 8⟩,aBT,λs r=> {s with i:=r.i,tg:=r.tg},λs=>s,λ_ s=>s,[.exit 4],lY,YY,wh⟩
abbrev dg:=S2.run
abbrev avu:=S2.At
def afs:Rq YY aBT:=by
 intro s hI;refine ⟨λc1=>⟨?_,?_,A9,A9,A9,A9,A9,A9,?_,ak⟩,λc1=>⟨A9,A9,A9,A9,A9,A9,A9,ak⟩⟩
 all_goals ((obtain ⟨⟨h0,h1⟩,⟨h2,h3⟩,h4⟩:=hI;have l1:M s.tg=s.i.toNat:=A8;simp only [Ac] at c1;first|omega|(simp only [Bm,C3];omega) |(simp only [BG,Bm,C3,Em];done)))
def aTC:S2.Ok:={}
def aSe:S2.Pf (aDV):=⟨amP,λs h=>rfl,ah9,afs⟩
def atC:SA 0 aIq S2:=s1 aTC aSe XW xt
def av8:Fi lY YY aDV avu dg:=AR.fin aTC aSe
structure OG where
 (n i:Y)
 uN:aJ
 b11:aE
 b12:aP
 b13:aF
 b14:aQ
 (b19 sH:aB)
 b2:bw
 b3:bf
 b4:aL
 b5:aXZ
 b6:aX4
 b7:ba
 b8:aB
 p1:aE
 p2:aP
 p3:aF
 p4:aQ
 TP:aB
 Vu:aJ
 pq:aL
 po:aB
 pn:bw
 b15:bf
 b16:aL
 o:aXZ
def aBS (s:OG):T (Rd OG):=letI a:=s.o.getD s.i.toNat<|Ty.dflt BB;.br (an<|s.i<s.n) (.ik s.i (M s.o)<|.req (M a.1<=100000000)<|.ik s.i (M s.o)<|.rl s.b2<|.rl s.b3<|.rl s.b4<|.rl s.b5<|.rl s.b6<|.rl s.b7<|.rl s.b8<|.rl s.Vu<|.rl s.pq<|.rl s.po<|.rl s.pn<|.rl s.b15<|.rl s.b16<|.re (M s.o) (s.o.set s.i.toNat a)<|.rl s.b6<|.rl s.b7<|.rl s.b8<|.nx {s with i:=AA<|s.i+1,o:=s.o.set s.i.toNat a})<|.rl s.b2<|.rl s.b3<|.rl s.b4<|.rl s.b5<|.rl s.b6<|.rl s.b7<|.rl s.b8<|.rl s.Vu<|.rl s.pq<|.rl s.po<|.rl s.pn<|.rl s.b15<|.rl s.b16<|.rl s.o<|.rl s.b6<|.rl s.b7<|.rl s.b8<|.so (.exit 0) s
def lX (s:OG):Prop:=s.i=0/\s.n=(M s.o:Y)/\s.n<=1000/\∀m∈s.o,M m.1<=1000
def lJ (s:OG):Prop:=0<=s.i/\s.i<=s.n/\s.n=(M s.o:Y)/\s.n<=1000/\∀m∈s.o,M m.1<=1000
def wg (s:OG):aC:=(s.n-s.i).toNat
def acO (x:Ex) (s s':OG):Prop:=True
def amO:∀s,lX s->lJ s:=by
 exact aPO
def ah8:Da lJ wg acO aBS:=by
 intro s hI;obtain ⟨h0,h1,h2,h3,h4⟩:=hI;refine AH (λc1=>?_) λc1=>trivial
 ·have c1:s.i<s.n:=A8
  have e:=set_self (l:=s.o) (i:=s.i.toNat) (d:=Ty.dflt BB) A0
  rw [AI (x:=s.i+1),e];exact ⟨⟨A8,A8,h2,h3,h4⟩,by simp only [wg];omega⟩
def ZF:AR OG:=⟨9,82,[1,2,44,45],[],λs=>[.own 9 0,.own 10 0,s.n,s.i],λs=>[zB,⟨[s.uN,s.b11,s.b12,s.b13,s.b14,(0:Y),U,.v<|.slice aj 0 0,(512:Y),.xl (.int aw) s.b19,.os 2 2 0<|M s.b2,(1:Y),.os 3 4 0<|M s.b3,.os 4 5 0<|M s.b4,.os 5 3 0<|M s.b5,.os 6 3 0<|M s.b6,.os 7 4 0<|M s.b7,.v<|.slice aj 0 0,.xl A7 s.sH,.os 8 1 0<|M s.b8],58,.cl,X⟩,bV 143 Ag s.b2,bV 95 B4 s.b3,bV 75 AO s.b4,bV 148 BB s.b5,bV 98 BS s.b6,bV 77 Ai s.b7,bV 3 A7 s.b8,⟨[.os 11 11 0<|M s.Vu,s.p1,s.p2,s.p3,s.p4,(0:Y),U,.os 12 5 0<|M s.pq,(512:Y),.os 13 1 0<|M s.po,.os 14 2 0<|M s.pn,(1:Y),.os 15 4 0<|M s.b15,.os 16 5 0<|M s.b16,.os 17 3 0<|M s.o,.os 6 3 0<|M s.b6,.os 7 4 0<|M s.b7,.v<|.slice aj 0 0,.xl A7 s.TP,.os 8 1 0<|M s.b8],58,.cl,X⟩,zB,bV 42 Ae s.Vu,bV 139 AO s.pq,bV 5 (.int aw) s.po,bV 143 Ag s.pn,bV 95 B4 s.b15,bV 75 AO s.b16,bV 148 BB s.o],λv b=>⟨AL v 2,AL v 3,AF Ae b 1 0,AF .str b 1 1,AF Ak b 1 2,AF Af b 1 3,AF Al b 1 4,AF (.int aw) b 1 9,AF A7 b 1 18,Ab Ag b 2,Ab B4 b 3,Ab AO b 4,Ab BB b 5,Ab BS b 6,Ab Ai b 7,Ab A7 b 8,AF .str b 9 1,AF Ak b 9 2,AF Af b 9 3,AF Al b 9 4,AF A7 b 9 18,Ab Ae b 11,Ab AO b 12,Ab (.int aw) b 13,Ab Ag b 14,Ab B4 b 15,Ab AO b 16,Ab BB b 17⟩,aBS,λs r=> {s with i:=r.i,o:=r.o},λs=>s,λ_ s=>s,[.exit 0],lX,lJ,wg⟩
abbrev gO:=ZF.run
abbrev avt:=ZF.At
def xR:aN:=[PC,jf,iN,aAw,Wl,aXD]
def ahd:Ax:=kI xR<|la 11 func69 TS<|la 6 func69 Qp<|la 3 func52 P4<|la 2 func68 NY<|la 1 func67 MV<|la 2 func76 Lh<|la 9 func23 Cx<|l0 xR
def afr:Rq lJ aBS:=by
 intro s hI;refine ⟨λc1=>⟨?_,?_,?_,?_,?_,A9,A9,A9,A9,A9,A9,A9,A9,A9,A9,A9,A9,A9,?_,A9,A9,A9,ak⟩,λc1=>⟨A9,A9,A9,A9,A9,A9,A9,A9,A9,A9,A9,A9,A9,A9,A9,A9,A9,ak⟩⟩
 all_goals ((obtain ⟨h0,h1,h2,h3,h4⟩:=hI;(try simp only [Ac] at c1);first|omega|exact ⟨rfl,AJ⟩ |exact ⟨rfl,rfl⟩ |exact I2 (h4 _<|getD_mem A0) Ad))
def aTw:ZF.Ok:={}
def aSd:ZF.Pf (acO):=⟨amO,λs h=>rfl,ah8,afr⟩
def aJV:=s2 (b:=bN f23 0) aTw aSd xR ahd
def av7:Rs lX avt gO (λs:OG=>s.o) (λx s' (v:aXZ)=>x=.exit 0/\s'.o=v):=Dp aTw aSd (λs hI=>by
  obtain ⟨h0,h1,h2,h3,h4⟩:=hI;refine AH (λc1=>?_) λc1=>⟨rfl,rfl⟩
  have c1:s.i<s.n:=A8
  have e:=set_self (l:=s.o) (i:=s.i.toNat) (d:=Ty.dflt BB) A0
  rw [e];exact rfl)
def aVp:aD->T LV
 | .agg a::r=>s5 a λcs os ks gs bs=>(match r with
  | [.xl (.int J) dr]=> .req (M dr<=1000) (.ok<|.AQ [newP cs os ks gs bs dr,HW cs os ks gs bs dr])
  |_=> .no)
 |_=> .no
def G8 {α:Type}(d:α) (l:List α):List α:=BF (AS l)<|aq (M l:Y).toNat d
def aV1 {α:Type}(d:α) (l:List α):G8 d l=l:=by
 unfold G8;rw [Fs];exact Qq
def cpX {α:Type}(d:α) (l:List α):List α:=BF l<|aq (M l:Y).toNat d
def ajI {α:Type}(d:α) (l:List α):cpX d l=l:=Qq
def cpN {α:Type}(d:α):List α:=BF []<|aq (0:Y).toNat d
def ajJ {α:Type}(d:α):cpN d=[]:=rfl
def Ea {α:Type}(gs:aF) (d:α):List α:=aq (M gs:Y).toNat d
def sY {α:Type}(gs:aF) (d:α):Ea gs d=aq (M gs) d:=by
 unfold Ea
 grind
def zNV (e:Y):LV:=.AQ [.agg [.xl Ae ([]:aJ),.xl .str ([]:aE),.xl Ak ([]:aP),.xl Af ([]:aF),.xl Al ([]:aQ),.v<|ag J 0,.v<|.bool X,.xl AO ([]:aL),.v<|ag J 0,.xl (.int aw) ([]:aB),.xl Ag ([]:bw),.v<|ag J 0,.xl B4 ([]:bf),.xl AO ([]:aL),.xl BB ([]:aXZ),.xl BS ([]:aX4),.xl Ai ([]:ba),.xl BM ([]:aXP),.xl A7 ([]:aB),.xl A7 ([]:aB)],.v<|ag J e]
def pZ:Cd:=(ByteArray.empty,((0:Y),((0:Y),((0:Y),(((0:Y),(0:Y)),((0:Y),((0:Y),((0:Y),((0:Y),(0:Y))))))))))
def K0:Le:=((0:Y),((0:Y),((0:Y),((0:Y),(0:Y)))))
def Nl:Ra:=((0:Y),(0:Y))
def aWo:St:=((0:Y),((0:Y),((0:Y),X)))
def aNQ:Me:=((0:Y),((0:Y),X))
def aNS:Dm:=(X,((0:Y),((0:Y),(0:Y))))
def Kl:Mi:=(([]:aB),((0:Y),(0:Y)))
def QC:Y:=(0:Y)
def aNR:Lk:=((0:Y),((0:Y),((0:Y),((0:Y),((0:Y),(0:Y))))))
def Qf (cs:aJ) (os:aE) (ks:aP) (gs:aF) (bs:aQ) (dr:aB):PX:=(⟨dr,0,dr,(M dr:Y),0,cs,os,ks,gs,bs⟩:PX)
def MP (cs:aJ) (os:aE) (ks:aP) (gs:aF) (bs:aQ) (dr:aB):PW:=(⟨(Wo<|Qf cs os ks gs bs dr).e,(M gs:Y),0,cs,os,ks,gs,bs,cs,os,ks,gs,bs,Eb,dr,Ea gs Nl,([]:bf),Ea gs K0,Ea gs Kl,([]:aX4),([]:ba)⟩:PW)
def W4 (cs:aJ) (os:aE) (ks:aP) (gs:aF) (bs:aQ) (dr:aB):PV:=letI a:=NL<|MP cs os ks gs bs dr;(⟨(Wo<|Qf cs os ks gs bs dr).e,cs,(M cs:Y),0,cs,os,ks,gs,bs,Eb,dr,Ea gs Nl,a.st,Ea gs K0,Ea gs Kl,a.me,a.dm,([]:aB)⟩:PV)
def qi (cs:aJ) (os:aE) (ks:aP) (gs:aF) (bs:aQ) (dr:aB):OG:=letI a:=NL<|MP cs os ks gs bs dr;(⟨((((M (Ea gs Kl):aC):Y).toNat:aC):Y),0,cs,os,ks,gs,bs,Eb,dr,Ea gs Nl,a.st,Ea gs K0,Ea gs Kl,a.me,a.dm,(dg<|W4 cs os ks gs bs dr).tg,os,ks,gs,bs,dr,cpX pZ cs,cpN K0,cpX QC Eb,G8 Nl<|Ea gs Nl,G8 aWo a.st,G8 K0<|Ea gs K0,G8 Kl<|Ea gs Kl⟩:OG)
def xP:aN:=[PC,jf,iN,aAw,Wl]
def ahc:Ax:=kI xP<|la 9 func23 aJV<|la 11 func69 TS<|la 6 func69 Qp<|la 3 func52 P4<|la 2 func68 NY<|la 1 func67 MV<|la 2 func76 Lh<|la 9 func23 Cx<|l0 xP
def Xh:=vm (S:=aVp) func10 xP ahc (L:=(λi=>if i=4 then S4.lp else if i=17 then S3.lp else if i=24 then S2.lp else Ao i)) (λb hb=>by
 rw [show BC _=[aIs,aIr,aIq] by kernel_rfl] at hb
 simp only [B6,Bv,Bt] at hb;rcases hb with rfl|rfl|rfl
 ·exact atE
 ·exact atD
 ·exact atC) (λargs lv h=>by
 unfold aVp at h;split at h
 case h_2=>cases h
 replace h:=Ij h
 obtain ⟨cs,os,ks,gs,bs,rfl,h⟩:=h;split at h
 ·rename_i dr
  refine Aq (letI a:=NL<|MP cs os ks gs bs dr;letI b:=dg<|W4 cs os ks gs bs dr;letI d:=Ea gs Nl;letI f:=Ea gs K0;letI g:=(M gs:Y);letI j:=((M a.me:aC):Y);letI l:=((M a.dm:aC):Y);letI n:=((M b.tg:aC):Y);letI p:=Ea gs Kl;letI r:=(M dr:Y);letI s:=((M a.st:aC):Y);letI t:=((M d:aC):Y);letI u:=((M f:aC):Y);letI v:=((M p:aC):Y);letI w:=Qf cs os ks gs bs dr;letI y:=qi cs os ks gs bs dr;letI z:=(M cs:Y);letI A:=(M Eb:Y);letI B:=(M ([]:aL));letI C:=G8 aWo a.st;.br ((!(B9 cs os ks gs bs)) ||(r !=g)) (.ok<|zNV 1)<|.req (S4.q w)<|.br (Bj (gg w)<|.ret) (.ok<|.AQ [.agg [.xl Ae ([]:aJ),.xl .str ([]:aE),.xl Ak ([]:aP),.xl Af ([]:aF),.xl Al ([]:aQ),(0:Y),X,.xl AO ([]:aL),(0:Y),.xl (.int aw) ([]:aB),.xl Ag ([]:bw),(0:Y),.xl B4 ([]:bf),.xl AO ([]:aL),.xl BB ([]:aXZ),.xl BS ([]:aX4),.xl Ai ([]:ba),.xl BM ([]:aXP),.xl A7 ([]:aB),.xl A7 ([]:aB)],(Wo w).e])<|.req (B9 cs os ks gs bs=U)<|.br (!DO cs gs (Bq gs)) (.ok<|zNV 13)<|.br ((0:Y) !=0) (.ok<|zNV 0)<|.rm 16 g<|.rm 40 g<|.rm 40 g<|.re g.toNat d<|.r0 St<|.re g.toNat f<|.re g.toNat p<|.r0 Me<|.r0 Dm<|.req (S3.q<|MP cs os ks gs bs dr)<|.rl d<|.rl a.st<|.rl f<|.rl p<|.rl a.me<|.rl a.dm<|.r0 Int<|.req (S2.q<|W4 cs os ks gs bs dr)<|.rm 96 z<|.rc z (ByteArray.empty,((0:Y),((0:Y),((0:Y),(((0:Y),(0:Y)),((0:Y),((0:Y),((0:Y),((0:Y),(0:Y)))))))))) (M cs)<|.rm 40 (0:Y)<|.rc (0:Y) ((0:Y),((0:Y),((0:Y),((0:Y),(0:Y))))) B<|.rm 1 A<|.rc A (0:Y) (M Eb)<|.rm 16 t<|.rz d<|.rc t ((0:Y),(0:Y)) (M<|AS d)<|.rm 32 s<|.rz a.st<|.rc s ((0:Y),((0:Y),((0:Y),X))) (M<|AS a.st)<|.rm 40 u<|.rz f<|.rc u ((0:Y),((0:Y),((0:Y),((0:Y),(0:Y))))) (M<|AS f)<|.rm 40 v<|.rz p<|.rc v (([]:aB),((0:Y),(0:Y))) (M<|AS p)<|.rl d<|.rl a.st<|.rl f<|.rl p<|.rl a.me<|.rl a.dm<|.rl b.tg<|.re z.toNat (cpX pZ cs)<|.re (0:Y).toNat (cpN K0)<|.re A.toNat (cpX QC Eb)<|.re t.toNat (G8 Nl d)<|.re s.toNat C<|.re u.toNat (G8 K0 f)<|.re v.toNat (G8 Kl p)<|.rl a.me<|.rl a.dm<|.rl b.tg<|.req (ZF.q y)<|.rm 24 j<|.rz a.me<|.rc j ((0:Y),((0:Y),X)) (M<|AS a.me)<|.rm 32 l<|.rz a.dm<|.rc l (X,((0:Y),((0:Y),(0:Y)))) (M<|AS a.dm)<|.rm 48 (0:Y)<|.rc (0:Y) ((0:Y),((0:Y),((0:Y),((0:Y),((0:Y),(0:Y)))))) B<|.rm 8 r<|.rc r (0:Y) (M dr)<|.rm 8 n<|.rz b.tg<|.rc n (0:Y) (M<|AS b.tg)<|.rz (cpX pZ cs)<|.rz (cpN K0)<|.rz (cpX QC Eb)<|.rz (G8 Nl d)<|.rz C<|.rz (G8 K0 f)<|.rz (gO y).o<|.req (0+j.toNat<=M (G8 aNQ a.me))<|.req (0+l.toNat<=M (G8 aNS a.dm))<|.req (0+(0:Y).toNat<=M (cpN aNR))<|.req (0+r.toNat<=M (cpX QC dr))<|.req (0+n.toNat<=M (G8 QC b.tg))<|.ok<|.AQ [.agg [(AS<|cpX pZ cs),os,ks,gs,bs,(0:Y),U,(AS<|cpN K0),(512:Y),.xl (.int aw)<|AS<|cpX QC Eb,(AS<|G8 Nl d),(1:Y),(AS C),(AS<|G8 K0 f),(AS (gO y).o),(((G8 aNQ a.me).drop 0).take j.toNat),(((G8 aNS a.dm).drop 0).take l.toNat),(((cpN aNR).drop 0).take (0:Y).toNat),.xl A7<|((cpX QC dr).drop 0).take r.toNat,.xl A7<|((G8 QC b.tg).drop 0).take n.toNat],(0:Y)]) ?_;obtain ⟨hn,rfl⟩:=h
  have A1:lf (Qf cs os ks gs bs dr):=⟨⟨rfl,rfl⟩,by show (M dr:Y)<=1000;omega,rfl⟩
  obtain ⟨_,_,q1⟩:=avA _ A1
  have q1:(gg (Qf cs os ks gs bs dr)=.exit 0/\(Wo<|Qf cs os ks gs bs dr).e=0/\dr.all (λx=>inB x (-200) 200)=U)\/(gg (Qf cs os ks gs bs dr)=.ret/\(Wo<|Qf cs os ks gs bs dr).e=1/\dr.all (λx=>inB x (-200) 200)=X):=q1
  have bad:∀ {e:Y},HW cs os ks gs bs dr=e->e≠0->newP cs os ks gs bs dr=PK0:=λh1 h2=>AD (by rw [h1];exact h2)
  have hb:((!B9 cs os ks gs bs) ||((M dr:Y) !=(M gs:Y)))=U↔(B9 cs os ks gs bs=X\/M dr≠M gs):=by simp [Int.natCast_inj]
  refine ⟨λc=>?_,λc=>⟨⟨A1,rfl,rfl⟩,λc2=>?_,λc2=>?_⟩⟩
  ·have he:HW cs os ks gs bs dr=1:=AD (hb.1 c)
   show zNV 1=_
   exact aA1
  all_goals have hc:¬(B9 cs os ks gs bs=X\/M dr≠M gs):=λh=>(by rw [hb.2 h] at c;cases c)
  ·rcases q1 with ⟨x1,_⟩ |⟨x1,x2,x3⟩
   ·rw [x1] at c2
    cases c2
   ·have he:HW cs os ks gs bs dr=1:=(AE hc).trans (AD x3)
    rw [x2]
    show zNV 1=_
    exact aA1
  rcases q1 with ⟨x1,x2,x3⟩ |⟨x1,x2,x3⟩
  rotate_left
  ·rw [x1] at c2
   cases c2
  have hs:B9 cs os ks gs bs=true:=by
   cases e:B9 cs os ks gs bs
   ·exact absurd (.inl e) hc
   ·rfl
  have hd:M dr=M gs:=mz λh=>hc<|.inr h
  have hg:=Cz.1 hs
  refine ⟨hs,λc3=>?_,λc3=>⟨λc4=>(by cases c4),λ_=>?_⟩⟩
  ·have he:HW cs os ks gs bs dr=13:=(AE hc).trans ((AE (by rw [x3];decide)).trans<|AD<|(DB _).mp c3)
   show zNV 13=_
   exact aA1
  have he:HW cs os ks gs bs dr=0:=(AE hc).trans<|(AE (by rw [x3];decide)).trans<|AE (by rw [(IW _).mp c3];decide)
  have hp:newP cs os ks gs bs dr=_:=AE MM
  have A2:lZ (MP cs os ks gs bs dr):=⟨rfl,⟨aPz,QL _⟩,rfl,rfl,rfl⟩
  obtain ⟨_,_,_,y1,y2,y3⟩:=av9 _ A2
  have y1:(NL<|MP cs os ks gs bs dr).st=aq (M gs) (0,0,0,X):=y1
  have y2:(NL<|MP cs os ks gs bs dr).me=(G2<|M gs).map (λk=>(k+1,0,X)):=y2
  have y3:(NL<|MP cs os ks gs bs dr).dm=aq (M gs) (X,0,0,9):=y3
  have A3:lY (W4 cs os ks gs bs dr):=⟨rfl,⟨rfl,aA8⟩,rfl⟩
  obtain ⟨_,_,_,y4⟩:=av8 _ A3
  have y4:(dg<|W4 cs os ks gs bs dr).tg=cs.map (λc=>c.2.2.1):=y4
  have hj:M Eb=2048:=rfl
  have l1:M (Ea gs Nl)=M gs:=aAg
  have l2:M (Ea gs K0)=M gs:=aAg
  have l3:M (Ea gs Kl)=M gs:=aAg
  have l4:M (NL<|MP cs os ks gs bs dr).st=M gs:=by rw [y1,CV]
  have l5:M (NL<|MP cs os ks gs bs dr).me=M gs:=by rw [y2,GK,Oz]
  have l6:M (NL<|MP cs os ks gs bs dr).dm=M gs:=by rw [y3,CV]
  have l7:M (dg<|W4 cs os ks gs bs dr).tg=M cs:=by rw [y4,GK]
  have ho:(qi cs os ks gs bs dr).o=Ea gs Kl:=aV1 _ _
  have A4:lX (qi cs os ks gs bs dr):=⟨rfl,by rw [ho];show ((((M (Ea gs Kl):aC):Y).toNat:aC):Y)=_;rw [C2],by show ((((M (Ea gs Kl):aC):Y).toNat:aC):Y)<=1000;rw [C2,l3];omega,by
   rw [ho,sY];intro m hm;rw [(Sp.1 hm).2]
   decide⟩
  have y5:(gO<|qi cs os ks gs bs dr).o=Ea gs Kl:=(av7 _ A4).2.trans ho
  simp only [aV1,ajI,ajJ,Fs,y5,l1,l2,l3]
  repeat (refine ⟨oA,?_⟩)
  refine ⟨⟨A2,rfl,rfl⟩,?_⟩
  repeat (refine ⟨oA,?_⟩)
  refine ⟨⟨A3,rfl,rfl⟩,?_⟩
  repeat (refine ⟨oA,?_⟩)
  refine ⟨⟨A4,rfl,rfl⟩,?_⟩
  repeat (refine ⟨oA,?_⟩)
  show _=_
  rw [hp,he,y1,y2,y3,y4];simp only [sY,C2,CZ,El];rfl
 ·cases h)
def FL:EV:=⟨1,0,0,(0,0,0,0,0),(X,0,0,0)⟩
def OV:aC->PK->Y->PK×Int×Bool
 |0,p,l=>(p,l,U)
 |n+1,p,l=>if Br p FL=0/\M (D8 p FL)=M (BN p FL).ca then OV n (BN p FL) (if M (D8 p FL)>0 then gi (D8 p FL) 0 else l) else (p,l,X)
def asD {p:PK}{q:QV}(h:RP p q):Eu q.p=Eu p:=by rw [h.1];rfl
def bO:aE:=[av #[111]]
def bD:Dm:=(U,0,500,1)
def im:JI Eb 0 0 ([]:aI) 1019 (aq 1024 255) where
 eq:=rfl
 la:=by rw [P2];rfl
 lo:=CV
 bo:=gw _
 hw:=.inl rfl
 hg:=Ad
 old:=λh=>absurd h Ad
 bd:=λd hd=>Va
def xi {l:aL}{t:Y}(h:B2 l=U):B2 (BX l t)=true:=by
 unfold BX;split
 ·exact rP h zL
 ·rfl
def azA {t:Y}{s:SN}{x:Le}(h:VK s.se s.fl/\B2 s.ls=U):VK (FD t s x).se (FD t s x).fl/\B2 (FD t s x).ls=true:=by
 unfold FD;split
 ·rename_i hc
  refine ⟨(h.1.st hc.2).2,?_⟩
  have:=(y6 (x:=x) h.2).1
  unfold grS at this;rw [AD hc.1] at this;exact this
 ·exact h
def aRX {t:Y}{xs:aL}{s:SN}(h:VK s.se s.fl/\B2 s.ls=U):∀n,VK (EN t xs s n).se (EN t xs s n).fl/\B2 (EN t xs s n).ls=U
 |0=>h
 |n+1=>azA<|aRX h n
def aop {p:PK}(h:VK p.se p.fl/\B2 p.ls=U):VK p.AK.se p.AK.fl/\B2 p.AK.ls=true:=by
 have hx:B2 (Dx p.ls p.tk)=true:=by
  unfold Dx;split
  ·exact xi h.2
  ·exact h.2
 unfold PK.AK;split
 ·exact h
 ·split
  ·grind
  ·exact aRX (s:=p.Gf) ⟨h.1,hx⟩ _
def JP.step {p:PK}(h:JP p) {e:EV}(he:Br p e=0):JP (BN p e):=by
 obtain ⟨⟨hV,hR⟩,hk⟩:=h;refine ⟨⟨hV.step he,hR.step hV he⟩,?_⟩;unfold BN;rw [AE A0];unfold Br at he;rw [AE (by rw [WH.2 hV];decide)] at he
 split
 ·exact aop hk
 rename_i h1;rw [AE h1] at he;split
 ·exact hk
 rename_i h2;rw [AE h2] at he;split
 ·exact hk
 rename_i h3;rw [AE h3] at he;split
 ·exact hk
 rename_i h4;rw [AE h4] at he;split
 ·exact ⟨hk.1,rfl⟩
 rename_i h5;rw [AE h5] at he;split
 ·rename_i h6
  rw [AD h6] at he;refine ⟨hk.1,?_⟩;unfold PK.Fv at he;split at he
  ·cases he
  split at he
  ·rename_i g1 g2;exact absurd he g2
  ·rename_i g1 g2
   exact xi<|aCr<|mz λg=>g2 g
 rename_i h6;rw [AE h6] at he;split
 ·exact hk
 ·exact hk
def JP.Ef {p:PK}(h:JP p):∀(n:aC) (l:Y),JP (OV n p l).1
 |0,_=>h
 | n+1,l=>by
  unfold OV;split
  ·rename_i hc
   exact (h.step hc.1).Ef n _
  ·exact h
def XJ {cs:aJ}{os:aE}{ks:aP}{gs:aF}{bs:aQ}{dr:aB}(h:HW cs os ks gs bs dr=0):JP (newP cs os ks gs bs dr):=by
 have hn:=vd h
 have hp:newP cs os ks gs bs dr=_:=AE A8
 refine ⟨hn,⟨hn.2.fl,?_⟩,?_⟩
 ·rw [hp]
  exact ⟨[],0,rfl,rfl,⟨0,1019,_,im⟩,Cb _⟩
 ·rw [hp]
  rfl
def Wv {tg:aB}{cs:aJ}:∀n,n<=M cs->∀j:aC,AZ (E6 cs tg n) j=if j<n then GG (AZ cs j) (gi tg j) else AZ cs j
 |0,_,j=>LW
 | n+1,hn,j=>by
  have h1:=Wv (tg:=tg) (cs:=cs) n A0
  unfold E6;rw [Ws (by rw [NR];omega)]
  by_cases e:j=n
  ·subst e
   grind
  ·rw [AE e,h1 j]
   by_cases c:j<n
   ·grind
   ·grind
def aKZ {a b:aJ}(h:M a=M b) (hg:∀j:aC,j<M a->AZ a j=AZ b j):a=b:=
 bL h λi h1 h2=>by
  have:=hg i h1
  rwa [Qx h1,Qx h2] at this
def N4 (cs X:aJ):Prop:=M X=M cs/\∀j:aC,∃u,AZ X j=GG (AZ cs j) u
def ajU (c:Cd):GG c c.2.2.1=c:=rfl
def N4.ask {cs X:aJ}(h:N4 cs X) {tg:aB}(ht:M tg=M cs):E6 X tg (M tg)=E6 cs tg (M tg):=
 aKZ (by rw [NR,NR,h.1]) λj hj=>by
  rw [NR,h.1] at hj;obtain ⟨u,e⟩:=h.2 j;rw [Wv _ (by rw [h.1];omega),Wv _ A0,AD A0,AD A0,e]
  rfl
def tw {gs:aF}{tg am:aB}{cs:aJ}{n:aC}(hn:n<=M cs):N4 cs (Cp gs tg am cs n):=
 ⟨TO n,λj=>by
  rcases (gR (gs:=gs) (tg:=tg) (am:=am) n hn j).1 with e|⟨_,_,e⟩
  ·exact ⟨_,e⟩
  ·exact ⟨_,e⟩⟩
def aqA {c:Cd}{u v:Y}(h:u<=v):CW (GG c u)<=CW (GG c v):=by
 unfold CW GG Ix;simp only [List.foldl];omega
def aVx {tg:aB}{cs X:aJ}(h:N4 cs X) (ht:M tg=M cs) (hl:∀j:aC,j<M cs->gi tg j<=(AZ X j).2.2.1):Hu (E6 cs tg<|M tg) X where
 len:=by rw [NR,h.1]
 up:=λo=>by
  obtain ⟨u,e⟩:=h.2 o;rw [Wv _ A0,e];split<;>rfl
 lim:=λo=>by
  obtain ⟨u,e⟩:=h.2 o;rw [Wv _ A0];split
  ·rename_i c
   have:=hl o A0
   rw [e] at this|-;exact aqA this
  ·rename_i c
   have e1:AZ X o=AZ cs o:=by
    unfold AZ;rw [DH,DH,Su (by rw [h.1];omega),Su A0]
   rw [e1];omega
def aK2 {gs:aF}{tg am:aB}{cs:aJ}{os:aE}{ks:aP}{bs:aQ}(hs:B9 cs os ks gs bs=U) (ht:∀k:aC,k<M cs->1<=gi tg k/\gi tg k<=(AZ cs k).2.2.1) (hl:M tg=M cs) (hm:M am=M gs)
  (hb:∀k:aC,k<M gs->0<=gi am k/\gi am k<=80) (hk:DO (E6 cs tg<|M tg) gs am=U):∀n,n<=M cs->∀j:aC,j<n->(AZ (Cp gs tg am cs n) j).2.2.1=gi tg j
 |0,_,j,h=>A0
 | n +1,hn,j,hj=>by
  have h1:=aK2 hs ht hl hm hb hk n A0
  have t1:∀k:aC,k<M cs->1<=gi tg k/\gi tg k<=1000:=λk hk=>by
   have a:=ht k hk
   have b:=jO hs hk
   omega
  have ho:=tw (gs:=gs) (tg:=tg) (am:=am) (cs:=cs) (n:=n) A0
  have hge:∀k:aC,k<M cs->gi tg k<=(AZ (Cp gs tg am cs n) k).2.2.1:=λk hk=>by
   rcases (gR (gs:=gs) (tg:=tg) (am:=am) (cs:=cs) n A0 k).1 with e|⟨_,_,e⟩
   ·grind
   ·grind
  have hx:n<M (Cp gs tg am cs n):=by rw [ho.1];omega
  unfold Cp;split
  ·rename_i c
   by_cases e:j=n
   ·subst e
    have:=hge j A0
    omega
   ·exact h1 j A0
  ·have hq:DO ((Cp gs tg am cs n).set n<|GG (AZ (Cp gs tg am cs n) n)<|gi tg n) gs am=true:=by
    refine Qs (rN hs t1 _ A0) (eU (rC hs t1 n A0) hx<|t1 n A0) (aVx ⟨by rw [C4,ho.1],λk=>?_⟩ hl λk hk=>?_) hb (λk hk=>⟨(hb k hk).1,Cb _⟩) hk
    ·rw [Ws hx]
     split
     ·rename_i e
      obtain ⟨u,e2⟩:=ho.2 n;subst e;exact ⟨gi tg k,by rw [e2];rfl⟩
     ·exact ho.2 k
    ·rw [Ws hx]
     split
     ·rename_i e
      subst e;exact Cb _
     ·exact hge k hk
   rw [AD A8,Ws hx]
   by_cases e:j=n
   ·rw [AD e,e];rfl
   ·rw [AE e]
    grind
def fa {p:PK}(hJ:JP p) (ht:p.tk<1000000):Br p FL=0/\BN p FL=p.BZ/\D8 p FL=p.Fu/\M (D8 p FL)=M (BN p FL).ca/\p.BZ.tk=p.tk+1:=by
 have hv:=hJ.1.1
 have he:Br p FL=0:=by
  unfold Br;rw [AE aAZ,AD (show FL.ek=1 from rfl)];exact AE A0
 have e2:BN p FL=p.BZ:=by unfold BN;rw [he];rfl
 have e3:D8 p FL=p.Fu:=by unfold D8;rw [he];rfl
 have hJ2:=hJ.step he
 refine ⟨he,e2,e3,?_,aQ1⟩;rw [hJ2.1.1.ca,e2,e3];refine (fp _).2.2.2.trans ?_;exact CV
def u9 {p:PK}(hv:VP p) {e:EV}(he:Br p e=0):letI a:=BN p e;(p.tk<1000000/\BN p e=p.BZ)\/BN p e=p.Ur\/(p.Fv=0/\BN p e=p.UK)\/(p.IF e.en e.em=0/\BN p e=p.LD e.en e.em)\/BN p e={p with st:=a.st,ca:=a.ca,mi:=a.mi,dm:=a.dm,lk:=a.lk}:=by
 have hw:=he
 unfold Br at he;rw [AE A8] at he;unfold BN;rw [AE A0];split
 ·rename_i h1
  rw [AD h1] at he
  have:=hv.tk
  unfold PK.JM at he;split at he
  ·cases he
  ·grind
 rename_i h1;rw [AE h1] at he;split
 ·exact o7
 rename_i h2;rw [AE h2] at he;split
 ·exact o7
 rename_i h3;rw [AE h3] at he;split
 ·exact o7
 rename_i h4;rw [AE h4] at he;split
 ·grind
 rename_i h5;rw [AE h5] at he;split
 ·rename_i h6
  grind
 rename_i h6;rw [AE h6] at he;split
 ·exact o7
 rename_i h7;rw [AE h7] at he;split at he
 ·grind
 ·cases he
def TL (gl:aC) (t:Y) (x:Le):Prop:=x.2.2.2.1<t/\x.2.2.2.2=12/\0<=x.2.1/\x.2.1<(gl:Y)
def TL.le {gl:aC}{t t':Y}{x:Le}(h:TL gl t x) (ht:t<=t'):TL gl t' x:=⟨by have:=h.1;omega,h.2⟩
structure SG (T:Le->Prop) (b:Y) (s:SN):Prop where
 nx:1<=s.nx/\s.nx<=b
 ls:B2 s.ls=U/\∀x∈s.ls,T x
 vl:∃vl g,VI s.se s.fl vl g/\∀x∈vl,x.1<s.nx/\T x
def SG.le {T T':Le->Prop}{b b':Y}{s:SN}(h:SG T b s) (hb:b<=b') (hT:∀x,T x->T' x):SG T' b' s:=by
 obtain ⟨vl,g,h1,h2⟩:=h.vl;exact ⟨⟨h.nx.1,by have:=h.nx.2;omega⟩,⟨h.ls.1,λx hx=>hT x<|h.ls.2 x hx⟩,vl,g,h1,λx hx=>⟨(h2 x hx).1,hT x (h2 x hx).2⟩⟩
def SG.snd {T:Le->Prop}{b t:Y}{s:SN}(h:SG T b s) {x:Le}(hx:T x) (hn:1<=x.1+1/\x.1+1<=b):SG T b (FD t s x):=by
 unfold FD;split
 ·rename_i hc
  obtain ⟨vl,g,h1,h2⟩:=h.vl;obtain ⟨vl',g',q1,q2,q3,q4⟩:=aB0 h1 hc.2
  have e:GS s.ls x=s.ls++[x]:=aAE
  refine ⟨hn,?_,vl',g',q1,λy hy=>?_⟩
  ·have:=(y6 (x:=x) h.ls.1).1
   unfold grS at this;rw [AD hc.1] at this;refine ⟨this,λy hy=>?_⟩
   simp only [e,Bf,Hz] at hy;rcases hy with hy|rfl
   ·exact h.ls.2 y hy
   ·exact hx
  ·have hy:y∈vl++[x]:=by
    exact aOP
   rw [Bf,Hz] at hy;rcases hy with hy|rfl
   ·have:=(List.pairwise_append.1 (uD.1 q3).2.2).2.2 y hy x AJ
    grind
   ·grind
 ·exact h
def SG.EN {T:Le->Prop}{b t:Y}{s:SN}{xs:aL}(h:SG T b s) (hx:∀k:aC,k<M xs->T (Ap xs k)/\1<=(Ap xs k).1+1/\(Ap xs k).1+1<=b):∀n,n<=M xs->SG T b (EN t xs s n)
 |0,_=>h
 |n+1,hn=>by
  obtain ⟨h1,h2⟩:=hx n A0;exact (h.EN hx n A0).snd h1 h2
def uz {t:Y}{xs:aL}{s:SN}:∀n,n<=M xs->∀x∈(EN t xs s n).ls,x∈s.ls\/x∈xs
 |0,_,x,hx=> .inl hx
 | n+1,hn,x,hx=>by
  unfold EN FD at hx;split at hx
  ·rename_i hc
   have e:GS (EN t xs s n).ls (Ap xs n)=(EN t xs s n).ls++[Ap xs n]:=aAE
   simp only [e,Bf,Hz] at hx;rcases hx with hx|rfl
   ·exact uz n A0 x hx
   ·exact .inr<|Ll A0 A0
  ·exact uz n A0 x hx
variable {p : PK}
def PK.snp (p:PK):SN:=⟨p.ls,p.se,p.fl,p.nx,p.lk⟩
structure TG (p:PK):Prop where
 kt:DO p.EG p.gs (Bq p.gs)=U
 sg:SG (TL (M p.gs) p.tk) (16*p.tk+1) p.snp
def ko (h:p.dE=0):Vd p.EG p.os p.ks p.gs p.bs (Dx p.ls p.tk) p.ra p.dm p.tk p.nx/\NwL p.gs (FJ p.gs p.ra (Ha p.EG p.os p.ks p.gs p.bs (Dx p.ls p.tk) p.dm p.tk)<|M p.gs) p.tk p.nx p.dL/\M p.dL<=M p.gs:=by
 unfold PK.dE deE at h;split at h
 ·rename_i hv
  have e:p.dL=HL p.gs (Dx p.ls p.tk) p.tk p.nx (FJ p.gs p.ra (Ha p.EG p.os p.ks p.gs p.bs (Dx p.ls p.tk) p.dm p.tk)<|M p.gs) (M p.gs):=AD hv
  exact ⟨aXm hv,by rw [e];exact (jM<|Au _).1,xM⟩
 ·cases h
def jL (hJ:JP p):Dx p.ls p.tk=p.ls.filter (LC p.tk):=by
 have ht:=hJ.1.1.tk
 have h:L0 p.ls p.tk=true:=by unfold L0;rw [hJ.2.2,B8.2 A0];rfl
 unfold Dx DT BX
 grind
def TG.dec (h:TG p) (hJ:JP p):SG (TL (aa p.gs)<|p.tk+1) (16*(p.tk+1)+1) p.AK.snp:=by
 have h0:=h.sg.le (T':=TL (aa p.gs)<|p.tk+1) (b':=16*(p.tk+1)+1) A0 λx hx=>hx.le A0
 have hx:SG (TL (aa p.gs)<|p.tk+1) (16*(p.tk+1)+1) p.Gf:=by
  refine ⟨h0.nx,?_,h0.vl⟩
  show B2 (Dx p.ls p.tk)=U/\∀x∈Dx p.ls p.tk,_
  rw [jL hJ];exact ⟨rP hJ.2.2 zL,λx hx=>h0.ls.2 x (Ck.1 hx).1⟩
 unfold PK.AK;split
 ·exact h0
 split
 ·exact ⟨h0.nx,hx.ls,h0.vl⟩
 ·rename_i hd
  obtain ⟨V,M,hl⟩:=ko<|bJ.1 hd
  have hg:=V.gl
  have hn:=h.sg.nx
  refine (hx.EN (t:=p.tk) (xs:=p.dL) (λk hk=>?_) _<|Au _)
  obtain ⟨q1,q2,_⟩:=M.at_ k A0 A0;rw [q1]
  have hn:1<=p.nx/\p.nx<=16*p.tk+1:=hn
  exact ⟨⟨A8,rfl,q2⟩,A0,A0⟩
def u7 (hv:VP p):N4 p.cs p.BZ.cs:=by
 show N4 p.cs (if p.Ah.BU.up=X then p.Ah.BU.cs else Cp p.Ah.BU.gs p.Ah.BU.tg p.Ah.BU.Jj p.Ah.BU.cs (M p.Ah.BU.tg))
 have e:p.Ah.BU.cs=p.cs:=(Ic p).1
 have e2:p.Ah.BU.tg=p.tg:=(Ic p).2.2.2.2.2.2.2.2.2.2.2.2.2
 rw [e,e2];split
 ·exact ⟨rfl,λj=>⟨_,rfl⟩⟩
 ·exact tw cN
def TG.tick (h:TG p) (hJ:JP p):TG p.BZ:=by
 obtain ⟨e1,e2,e3,e4,e5,e6,e7,e8,e9,e10,e11,e12,e13,e14⟩:=Ic p
 have hd:=h.dec hJ
 have eg:p.BZ.gs=p.gs:=e4
 have et:p.BZ.tk=p.tk+1:=B0 (·+1) e6
 have eT:p.BZ.tg=p.tg:=e14
 refine ⟨?_,?_⟩
 ·have:p.BZ.EG=p.EG:=by
   show E6 p.BZ.cs p.BZ.tg (M p.BZ.tg)=_
   rw [eT];exact (u7 hJ.1.1).ask hJ.1.1.Ew
  rw [this,eg];exact h.kt
 ·rw [eg,et]
  exact ⟨hd.nx,hd.ls,hd.vl⟩
def TG.step (h:TG p) (hJ:JP p) {e:EV}(he:Br p e=0):TG (BN p e):=by
 have hv:=hJ.1.1
 rcases u9 hv he with ⟨_,c⟩ |c|⟨c0,c⟩ |⟨c0,c⟩ |c
 ·rw [c];exact h.tick hJ
 ·rw [c];exact ⟨h.kt,h.sg.nx,⟨rfl,λx hx=>T7⟩,h.sg.vl⟩
 ·rw [c]
  obtain ⟨vl,g,h1,h2⟩:=h.sg.vl;obtain ⟨l1,l2⟩:=h1.ld
  have l1:Cg p.se p.fl=0:=l1
  have l2:An p.se p.fl=vl:=l2
  have hn:=h.sg.nx
  have hn:1<=p.nx/\p.nx<=16*p.tk+1:=hn
  have hnw:Iw p.se p.fl=0:=by
   unfold PK.Fv at c0;split at c0
   ·cases c0
   ·rw [l1,l2] at c0
    split at c0
    ·grind
    split at c0
    ·grind
    ·exact c0
  have hA:1<=Jl p.se p.fl/\Jl p.se p.fl<=p.nx/\∀x∈vl,x.1<Jl p.se p.fl:=by
   unfold Iw at hnw;unfold Jl;rw [l1,l2] at hnw|-;split
   ·rename_i q
    grind
   ·rename_i q
    rw [AE q] at hnw;split
    ·grind
    ·have hm:Ap vl ((M vl:Y)-1)∈vl:=Ll A0 A0
     have b1:=(Ka.1<|(GP h1.lv).2 _ hm).1.1
     have b2:(Ap vl<|(M vl:Y)-1).1<p.nx:=(h2 _ hm).1
     refine ⟨A0,A0,λx hx=>?_⟩
     rw [aFS (l:=vl) A0,Bf,Hz] at hx;rcases hx with hx|rfl
     ·have:=h1.lv
      rw [aFS (l:=vl) A0] at this
      have:=(List.pairwise_append.1 (uD.1 this).2.2).2.2 x hx _<|Hz.2 rfl
      have:=this.1
      omega
     ·omega
  refine ⟨h.kt,⟨hA.1,by show Jl p.se p.fl<=16*p.tk+1;omega⟩,?_,vl,g,h1,λx hx=>⟨hA.2.2 x hx,(h2 x hx).2⟩⟩
  show B2 (BX (An p.se p.fl) p.tk)=U/\∀x∈BX (An p.se p.fl) p.tk,_
  rw [l2];refine ⟨xi h1.lv,λx hx=>?_⟩
  unfold BX at hx;split at hx
  ·exact (h2 x (Ck.1 hx).1).2
  ·cases hx
 ·rw [c]
  refine ⟨?_,h.sg⟩;unfold PK.IF at c0;split at c0
  ·cases c0
  split at c0
  ·cases c0
  ·rename_i c1
   exact (Sm _).mp c1
 ·rw [c];exact ⟨h.kt,h.sg.nx,h.sg.ls,h.sg.vl⟩
def aUI {cs:aJ}{os:aE}{ks:aP}{gs:aF}{bs:aQ}{dr:aB}(h:HW cs os ks gs bs dr=0):TG (newP cs os ks gs bs dr):=by
 have hJ:=XJ h
 have hp:newP cs os ks gs bs dr=_:=AE A8
 rw [hp] at hJ|-;refine ⟨?_,⟨(by decide:(1:Y)<=1),(by decide:(1:Y)<=16*0+1)⟩,⟨rfl,λx hx=>T7⟩,[],0,⟨rfl,rfl,⟨0,1019,_,im⟩,Cb _⟩,λx hx=>T7⟩
 have e:E6 cs (cs.map λc=>c.2.2.1) (M<|cs.map λc=>c.2.2.1)=cs:=aKZ (NR _) λj hj=>by
  rw [NR] at hj;rw [Wv _ AJ,AD A8,Qx hj]
  have:gi (cs.map λc=>c.2.2.1) (j:Y)=cs[j].2.2.1:=by rw [Im A8];simp
  rw [this];rfl
 show DO (E6 cs (cs.map λc=>c.2.2.1)<|M<|cs.map λc=>c.2.2.1) gs (Bq gs)=U
 unfold HW at h;split at h
 ·cases h
 split at h
 ·cases h
 split at h
 ·cases h
 ·rename_i c
  grind
end Go.Proofs.YtpdndmobphnjcaaGreatDoor
namespace Go.Proofs.YtpdndmobphnjcaaGreatDoor
set_option maxRecDepth 100000
set_option maxHeartbeats 4000000
open Go.Proofs.Tryz
open Go.Sx
def anW {c:Ch}{s:St}{k n m:Y}(h:sV c s=U) (hl:0<(EE c s k n m).2.2.1):
  (k=7/\(EE c s k n m).2.1=n/\(EE c s k n m).2.2.1=m)\/(0<s.2.2.1/\(EE c s k n m).2.1=s.2.1/\(EE c s k n m).2.2.1<=s.2.2.1-(if k=8 then 1 else 0)):=by
 have hv:=Mc.1 h
 by_cases he:sE c s k n m=0
 ·have e:EE c s k n m=(IP s.1 s.2.2.2 k n,sA s.2.1 s.2.2.1 k n,sL s.2.2.1 k m,sW s.2.2.2 k n):=by unfold EE sN;rw [AD he,AD he]
  rw [e] at hl|-;simp only [sL,sA] at hl|-
  by_cases h7:k=7
  ·rw [AD h7,AD h7]
   grind
  ·right
   by_cases h8:k=8
   ·rw [AD h8] at hl
    have ht:tkF s.2.2.1<=s.2.2.1-1:=by
     unfold tkF at hl|-;split
     ·omega
     ·omega
    omega
   ·rw [AE h8] at hl
    by_cases h9:k=9
    ·omega
    ·rw [AE h9] at hl
     omega
 ·have e:EE c s k n m=s:=AE he
  rw [e] at hl|-;refine .inr ⟨hl,rfl,?_⟩
  by_cases h8:k=8
  ·exfalso
   subst h8;refine he ?_;unfold sE;rw [AD h,AD Ad,AD<|by simp [evV]]
   have:IP s.1 s.2.2.2 8 n=s.1:=by simp [IP]
   omega
  ·omega
def FN (gs:aF) (W:Y->Y->Y->Prop) (j:Y) (s:St):Prop:=sV (AG gs j) s=U/\(0<s.2.2.1->W j s.2.1 s.2.2.1)
def FN.gv {gs:aF}{W W':Y->Y->Y->Prop}{j k n m:Y}{s:St}(h:FN gs W j s) (hw:∀a l l',W j a l->l'<=l-(if k=8 then 1 else 0)->W' j a l') (hm:k=7->W' j n m):FN gs W' j (EE (AG gs j) s k n m):=by
 refine ⟨xx h.1,λhl=>?_⟩
 rcases anW h.1 hl with ⟨e,e1,e2⟩ |⟨e,e1,e2⟩
 ·grind
 ·rw [e1];exact hw _ _ _ (h.2 e) e2
def FN.le {gs:aF}{W W':Y->Y->Y->Prop}{j:Y}{s:St}(h:FN gs W j s) (hw:∀a l,0<l->W j a l->W' j a l):FN gs W' j s:=⟨h.1,λhl=>hw _ _ hl<|h.2 hl⟩
def WL (vl:aL) (f:Y->Y->Y) (b:Y->Y) (j a l:Y):Prop:=∃x∈vl,x.2.1=j/\x.2.2.1=a/\l+b j<=12+f j (x.2.2.2.1+10)
def WL.le {vl:aL}{f:Y->Y->Y}{b:Y->Y}{j a l l':Y}(h:WL vl f b j a l) (hl:l'<=l):WL vl f b j a l':=by
 obtain ⟨x,h1,h2,h3,h4⟩:=h;exact ⟨x,h1,h2,h3,A0⟩
def aXd {gs:aF}{vl:aL}{f:Y->Y->Y}{b:Y->Y}{st:bf}(h:Bz gs (FN gs<|WL vl f b) st) {i:Y}(h0:0<=i) (h1:i<(M gs:Y)):∀k:aC,Bz gs (FN gs<|WL vl f (λj=>if j=i then b j+k else b j)) (L5 gs st i k)
 |0=>⟨h.1,λj j0 j1=>(h.2 j j0 j1).le λa l _ ⟨x,q1,q2,q3,q4⟩=>⟨x,q1,q2,q3,A8⟩⟩
 | k+1=>by
  have ih:=aXd h h0 h1 k
  unfold L5;refine ⟨JG.trans ih.1,λj j0 j1=>?_⟩
  rw [xy h0 (by rw [ih.1];exact h1) j0]
  have hj:=ih.2 j j0 j1
  split
  ·rename_i e
   subst e;refine hj.gv (λa l l' ⟨x,q1,q2,q3,q4⟩ hl=>⟨x,q1,q2,q3,?_⟩) λe=>Om
   have q4:l+(if j=j then b j+(k:Y) else b j)<=_:=q4
   show l'+(if j=j then b j+((k+1:aC):Y) else b j)<=_
   omega
  ·rename_i e
   refine hj.le λa l _ ⟨x,q1,q2,q3,q4⟩=>⟨x,q1,q2,q3,?_⟩
   grind
def acC {gs:aF}{vl:aL}{f:Y->Y->Y}{st:bf}{dr:aB}{t:Y}(h:Bz gs (FN gs<|WL vl f λj=>Bh t<|gi dr j) st) (hd:∀j:Y,0<=j->j<(M dr:Y)->-200<=gi dr j/\gi dr j<=200) (hl:M dr=M gs) (ht:0<=t/\t<1000000):
  ∀n:aC,n<=M dr->Bz gs (FN gs<|WL vl f (λj=>if j<n then Bh (t+1) (gi dr j) else Bh t (gi dr j))) (JS gs dr t st n)
 | 0,_=>⟨h.1,λj j0 j1=>by
   refine (h.2 j j0 j1).le λa l _ ⟨x,q1,q2,q3,q4⟩=>⟨x,q1,q2,q3,?_⟩
   show l+(if j<((0:aC):Y) then Bh (t+1) (gi dr j) else Bh t (gi dr j))<=_
   rw [AE A0];exact q4⟩
 | n+1,hn=>by
  have ih:=acC h hd hl ht n A0
  have hdn:=hd (n:Y) A0 A0
  have hs:HE t (gi dr n)=0/\HE (t+1) (gi dr n)=0:=by
   unfold HE;rw [AD,AD]
   ·grind
   ·rw [AY,B8,B8];omega
   ·rw [AY,B8,B8];omega
  unfold JS;rw [AD hs]
  have:=aXd ih (i:=(n:Y)) A0 A0 (Bh (t+1) (gi dr n)-Bh t (gi dr n)).toNat
  refine ⟨this.1,λj j0 j1=>(this.2 j j0 j1).le λa l _ ⟨x,q1,q2,q3,q4⟩=>⟨x,q1,q2,q3,?_⟩⟩
  have q4:l+(if j=(n:Y) then (if j<(n:Y) then Bh (t+1) (gi dr j) else Bh t (gi dr j))+(((Bh (t+1) (gi dr n)-Bh t (gi dr n)).toNat:aC):Y) else (if j<(n:Y) then Bh (t+1) (gi dr j) else Bh t (gi dr j)))<=_:=q4
  show l+(if j<((n+1:aC):Y) then Bh (t+1) (gi dr j) else Bh t (gi dr j))<=_
  by_cases ej:j=n
  ·subst ej
   omega
  ·rw [AE ej] at q4
   by_cases hj:j<(n:Y)
   ·omega
   ·omega
def agy {d t t':Y}(hd:-200<=d/\d<=200) (h0:0<=t) (h1:t+13<=t') (h2:t'<=1000000):Bh t' d-Bh t d>=12:=by
 unfold Bh;rw [AD VT,AD VT]
 have:(t+13)*(1000000+d)<=t'*(1000000+d):=Gn A0 A0
 have e:(t+13)*(1000000+d)=t*(1000000+d)+13*(1000000+d):=VF _ _ _
 omega
def xH {x:Le}(h:x.2.2.2.2=12):DS x=x.2.2.2.1+23:=by
 unfold DS;rw [h,show wt 12=13 by decide];omega
def WJ (vl:aL) (dr:aB) (t:Y):Y->Y->Y->Prop:=WL vl (λj u=>Bh u<|gi dr j) λj=>Bh t<|gi dr j
def aJE {vl:aL}{dr:aB}{t j a l:Y}(h:WJ vl dr t j a l) (hl:0<l) (hd:-200<=gi dr j/\gi dr j<=200) (ht:t<=1000000) (hv:∀x∈vl,0<=x.2.2.2.1):
  ∃x∈vl,x.2.1=j/\x.2.2.1=a/\l+Bh t (gi dr j)<=12+Bh (x.2.2.2.1+10) (gi dr j)/\t<=x.2.2.2.1+22:=by
 obtain ⟨x,h1,h2,h3,h4⟩:=h
 have h4:l+Bh t (gi dr j)<=12+Bh (x.2.2.2.1+10) (gi dr j):=h4
 refine ⟨x,h1,h2,h3,h4,QK.1 λc=>?_⟩
 have:=agy (t:=x.2.2.2.1+10) (t':=t) hd A8 A0 ht
 omega
def FN.vl {gs:aF}{dr:aB}{t j:Y}{vl vl':aL}{s:St}(h:FN gs (WJ vl dr t) j s) (hd:-200<=gi dr j/\gi dr j<=200) (ht:t<=1000) (hT:∀x∈vl,0<=x.2.2.2.1/\DS x=x.2.2.2.1+23) (hk:∀y∈vl,DS y>t->y∈vl'):FN gs (WJ vl' dr t) j s:=
 h.le λa l hl hw=>by
  obtain ⟨x,h1,h2,h3,h4,h5⟩:=aJE hw hl hd A0 λx hx=>(hT x hx).1
  exact ⟨x,hk x h1 A8,h2,h3,h4⟩
def aw4 {l:aL}{x y:Le}{t:Y}(hv:B2 l=U) (ht:0<=t/\t<=1000) (hy:y∈l) (he:DS y>t):y∈kpV l x t:=by
 unfold kpV BX;rw [AD (by unfold L0;rw [hv,B8.2 A0];rfl)]
 exact Bf.2<|.inl<|Ck.2 ⟨hy,Ci he⟩
def aw5 {l:aL}{x:Le}{t:Y}:x∈kpV l x t:=by unfold kpV;simp
def SK (t:Y) (k0:aXP) (v0 xs:aL) (s:SN):Prop:=
 ∃vl g,VI s.se s.fl vl g/\((∀y∈v0,DS y>t->y∈vl)/\∀y∈vl,y∈v0\/y∈xs)/\(∀y∈vl,DS y>t->y∈s.ls)/\(∀y∈s.ls,DS y>t->y∈vl)/\∀l∈s.lk,l∈k0\/(l.2∈vl/\DS l.2>t/\t<=l.1/\l.1<=l.2.2.2.2.1+10)
def SK.snd {t:Y}{k0:aXP}{v0 xs:aL}{s:SN}(h:SK t k0 v0 xs s) (ht:0<=t/\t<=1000) {x:Le}(hm:x∈xs) (hf:x.2.2.2.1=t) (hx:x.2.2.2.2=12) (h0:0<=x.2.1):SK t k0 v0 xs (FD t s x):=by
 unfold FD;split
 ·rename_i hc
  obtain ⟨vl,g,h1,⟨h2,h6⟩,h3,h4,h5⟩:=h;obtain ⟨vl',g',q1,q2,q3,q4⟩:=aB0 h1 hc.2
  have e:GS s.ls x=s.ls++[x]:=aAE
  have hex:DS x>t:=by rw [xH hx,hf];omega
  have old:∀y∈vl,DS y>t->y∈vl':=λy hy he=>by
   rcases q2 with e2|e2<;>rw [e2]
   ·grind
   ·exact aw4 h1.lv ht hy he
  have new:x∈vl':=by
   rcases q2 with e2|e2<;>rw [e2]
   ·simp
   ·exact aw5
  have sub:∀y∈vl',y∈vl\/y=x:=λy hy=>by
   have:y∈vl++[x]:=by
    exact aOP
   simpa using this
  refine ⟨vl',g',q1,⟨λy hy he=>old y (h2 y hy he) he,λy hy=>?_⟩,λy hy he=>?_,λy hy he=>?_,λl hl=>?_⟩
  ·rcases sub y hy with c|rfl
   ·exact h6 y c
   ·exact .inr hm
  ·show y∈GS s.ls x
   rw [e];rcases sub y hy with c|rfl
   ·grind
   ·simp
  ·have hy:y∈GS s.ls x:=hy
   rw [e] at hy;rcases Bf.1 hy with c|c
   ·exact old y (h4 y c he) he
   ·grind
  ·have hl:l∈s.lk++[Tv t x]:=hl
   rcases Bf.1 hl with c|c
   ·rcases h5 l c with q|⟨a1,a2,a3,a4⟩
    ·exact .inl q
    ·grind
   ·rw [Hz.1 c]
    have hm:0<=(7*t+3*x.2.1).tmod 5/\(7*t+3*x.2.1).tmod 5<=4:=A8
    exact .inr ⟨new,hex,by show t<=t+(7*t+3*x.2.1).tmod 5;omega,by show t+(7*t+3*x.2.1).tmod 5<=x.2.2.2.1+10;omega⟩
 ·exact h
def SK.EN {t:Y}{k0:aXP}{v0:aL}{s:SN}{xs:aL}(h:SK t k0 v0 xs s) (ht:0<=t/\t<=1000) (hx:∀k:aC,k<M xs->(Ap xs k).2.2.2.1=t/\(Ap xs k).2.2.2.2=12/\0<=(Ap xs k).2.1):∀n,n<=M xs->SK t k0 v0 xs (EN t xs s n)
 |0,_=>h
 |n+1,hn=>by
  obtain ⟨h1,h2,h3⟩:=hx n A0;exact (h.EN ht hx n A0).snd ht (Ll A0 A0) h1 h2 h3
variable {p : PK}
def TG.vl (g:TG p):∃k,VI p.se p.fl (An p.se p.fl) k/\∀x∈An p.se p.fl,x.1<p.nx/\TL (M p.gs) p.tk x:=by
 obtain ⟨vl,k,h1,h2⟩:=g.sg.vl
 have e:An p.se p.fl=vl:=h1.ld.2
 rw [e];exact ⟨k,h1,h2⟩
def TG.v23 (g:TG p):∀x∈An p.se p.fl,0<=x.2.2.2.1/\DS x=x.2.2.2.1+23:=λx hx=>by
 obtain ⟨k,h1,h2⟩:=g.vl;exact ⟨(Ka.1<|(GP h1.lv).2 x hx).2.2.2.1.1,xH (h2 x hx).2.2.1⟩
structure LX (p:PK):Prop where
 up:p.up=U->(∀y∈An p.se p.fl,DS y>p.tk->y∈p.ls)/\∀y∈p.ls,DS y>p.tk->y∈An p.se p.fl
 dn:p.up=X->p.ls=[]
 st:Bz p.gs (FN p.gs (WJ (An p.se p.fl) p.dr p.tk)) p.st
 lk:∀l∈p.lk,l.2∈An p.se p.fl/\p.tk<=l.1/\l.1<=l.2.2.2.2.1+10
def LX.dec (h:LX p) (g:TG p) (hJ:JP p) (ht:p.tk<=1000):(p.up=U->(∀y∈An p.AK.se p.AK.fl,DS y>p.tk->y∈p.AK.ls)/\∀y∈p.AK.ls,DS y>p.tk->y∈An p.AK.se p.AK.fl)/\(p.up=X->p.AK.ls=[])/\
  ((∀y∈An p.se p.fl,DS y>p.tk->y∈An p.AK.se p.AK.fl)/\∀y∈An p.AK.se p.AK.fl,y∈An p.se p.fl\/(p.up=U/\p.dE=0/\y∈p.dL))/\∀l∈p.AK.lk,l.2∈An p.AK.se p.AK.fl/\p.tk<=l.1/\l.1<=l.2.2.2.2.1+10:=by
 have htk:=hJ.1.1.tk
 have hx:=jL hJ
 unfold PK.AK;split
 ·rename_i hu
  exact ⟨λc=>(by rw [hu] at c;cases c),h.dn,⟨λy hy _=>hy,λy hy=> .inl hy⟩,h.lk⟩
 rename_i hu
 have hu:p.up=true:=by simpa using hu
 obtain ⟨u1,u2⟩:=h.up hu
 have x1:∀y,DS y>p.tk->(y∈Dx p.ls p.tk↔y∈p.ls):=λy he=>by
  rw [hx,Ck];exact ⟨λc=>c.1,λc=>⟨c,Ci he⟩⟩
 split
 ·exact ⟨λ_=>⟨λy hy he=>(x1 y he).2<|u1 y hy he,λy hy he=>u2 y ((x1 y he).1 hy) he⟩,λc=>A8,⟨λy hy _=>hy,λy hy=> .inl hy⟩,h.lk⟩
 ·rename_i hd
  obtain ⟨V,M,hl⟩:=ko<|bJ.1 hd;obtain ⟨k,v1,v2⟩:=g.vl
  have v3:=g.v23
  have s0:SK p.tk p.lk (An p.se p.fl) p.dL p.Gf:=⟨_,k,v1,⟨λy hy _=>hy,λy hy=> .inl hy⟩,λy hy he=>(x1 y he).2<|u1 y hy he,λy hy he=>u2 y ((x1 y he).1 hy) he,λl hl=> .inl hl⟩
  obtain ⟨vl,k',w1,⟨w2,w6⟩,w3,w4,w5⟩:=s0.EN (xs:=p.dL) ⟨htk.1,ht⟩ (λi hi=>by
   have q:=M.at_ i A0 A0
   rw [q.1];exact ⟨rfl,rfl,q.2.1.1⟩) _<|Au _
  have e:An p.sn1.se p.sn1.fl=vl:=w1.ld.2
  simp only [e];refine ⟨λ_=>⟨w3,w4⟩,λc=>A8,⟨w2,λy hy=>(w6 y hy).imp id λc=>⟨hu,bJ.1 hd,c⟩⟩,λl hl=>?_⟩
  rcases w5 l hl with q|⟨a1,a2,a3,a4⟩
  ·obtain ⟨b1,b2,b3⟩:=h.lk l q
   grind
  ·grind
def LX.tick (h:LX p) (g:TG p) (hJ:JP p) (ht:p.tk<=1000):LX p.BZ/\Bz p.gs (FN p.gs<|WJ (An p.AK.se p.AK.fl) p.dr<|p.tk+1) p.Ah.st:=by
 obtain ⟨e1,e2,e3,e4,e5,e6,e7,e8,e9,e10,e11,e12,e13,e14⟩:=Ic p
 have hv:=hJ.1.1
 have htk:=hv.tk
 have hvd:=hv.dec
 obtain ⟨d1,d2,d3,d4⟩:=h.dec g hJ ht
 have hdr:∀j:Y,0<=j->j<(M p.gs:Y)->-200<=gi p.dr j/\gi p.dr j<=200:=λj j0 j1=>Xx hv j j0 (by rw [hv.dr];exact j1)
 have s0:Bz p.gs (FN p.gs<|WJ (An p.AK.se p.AK.fl) p.dr p.tk) p.st:=⟨h.st.1,λj j0 j1=>(h.st.2 j j0 j1).vl (hdr j j0 j1) ht g.v23 d3.1⟩
 have s1:Bz p.gs (FN p.gs<|WJ (An p.AK.se p.AK.fl) p.dr p.tk) p.AK.KD.st:=by
  show Bz p.gs _ (LH p.AK.gs p.AK.lk p.AK.tk p.AK.st<|M p.AK.lk)
  rw [e4,e6,e8];refine s0.arr (t:=p.tk) (λl hl'=>⟨by have:=hvd.lk l hl';rwa [e4] at this,λc s hs=>hs.gv (λa u u' hw hu=>WL.le hw aQm) λ_=>?_⟩) _<|Au _
  obtain ⟨b1,b2,b3⟩:=d4 l hl'
  have c1:=hvd.lk l hl'
  rw [e4] at c1
  have ht12:l.2.2.2.2.2=12:=by
   have:=(g.dec hJ).vl
   obtain ⟨vl,k,w1,w2⟩:=this
   have e:An p.AK.se p.AK.fl=vl:=w1.ld.2
   rw [e] at b1;exact (w2 _ b1).2.2.1
  refine ⟨l.2,b1,rfl,rfl,?_⟩
  show l.2.2.2.2.2+Bh p.tk (gi p.dr l.2.2.1)<=12+Bh (l.2.2.2.2.1+10) (gi p.dr l.2.2.1)
  have:=aqV (t:=p.tk) (t':=l.2.2.2.2.1+10) (hdr _ c1.1 c1.2) htk.1 A0 (by
   have:=(g.dec hJ).vl
   obtain ⟨vl,k,w1,w2⟩:=this
   have e:An p.AK.se p.AK.fl=vl:=w1.ld.2
   rw [e] at b1
   have:=(w2 _ b1).2.1
   omega)
  omega
 have s2:Bz p.gs (FN p.gs<|WJ (An p.AK.se p.AK.fl) p.dr<|p.tk+1) p.Ah.st:=by
  have:=acC (t:=p.tk) (dr:=p.dr) s1 (Xx hv) hv.dr A0 (M p.dr)<|Au _
  show Bz p.gs _ (JS p.AK.gs p.AK.dr p.AK.tk p.AK.KD.st<|M p.AK.dr)
  rw [e4,e13,e6];refine ⟨this.1,λj j0 j1=>(this.2 j j0 j1).le λa l _ ⟨x,q1,q2,q3,q4⟩=>⟨x,q1,q2,q3,?_⟩⟩
  have q4:l+(if j<((M p.dr:aC):Y) then Bh (p.tk+1) (gi p.dr j) else Bh p.tk (gi p.dr j))<=_:=q4
  rw [AD (by rw [hv.dr];exact j1)] at q4
  exact q4
 have f4:p.Ah.gs=p.gs:=e4
 have s3:Bz p.gs (FN p.gs<|WJ (An p.AK.se p.AK.fl) p.dr<|p.tk+1) p.Ah.dw.st:=by
  have:=Bz.dw (gs:=p.gs) (ca:=p.Ah.ca) (s:=⟨p.Ah.st,p.Ah.mi,p.Ah.me,aq (M p.Ah.gs) 0⟩) s2 (λj s hs=>hs.gv (λa u u' hw hu=>WL.le hw aQm) λhk=>NJ) (M p.gs)<|Au _
  show Bz p.gs _ (DV p.Ah.gs p.Ah.ca _<|M p.Ah.gs).st
  rw [f4];rw [f4] at this;exact this
 have et:p.BZ.tk=p.tk+1:=B0 (·+1) e6
 have eg:p.BZ.gs=p.gs:=e4
 have ed:p.BZ.dr=p.dr:=e13
 have eu:p.BZ.up=p.up:=e7
 have es:p.BZ.se=p.AK.se:=rfl
 have ef:p.BZ.fl=p.AK.fl:=rfl
 have el:p.BZ.ls=p.AK.ls:=rfl
 have ek:p.BZ.st=p.Ah.dw.st:=rfl
 refine ⟨⟨?_,?_,?_,?_⟩,s2⟩
 ·rw [es,ef,el,et,eu]
  intro c;obtain ⟨c1,c2⟩:=d1 c;exact ⟨λy hy he=>c1 y hy<|Int.lt_trans (Int.lt_succ p.tk) he,λy hy he=>c2 y hy<|Int.lt_trans (Int.lt_succ p.tk) he⟩
 ·rw [eu,el]
  exact d2
 ·rw [eg,ed,et,es,ef,ek]
  exact s3
 rw [es,ef];intro l hl
 have hm:l∈p.AK.lk/\an (l.1>p.AK.tk)=true:=Ck.1 hl
 have h4:=d4 l hm.1
 have h2:=DJ hm.2
 rw [e6] at h2;rw [et];exact ⟨h4.1,Int.add_one_le_iff.2 h2,h4.2.2⟩
def LX.step (h:LX p) (g:TG p) (hJ:JP p) (ht:p.tk<=1000) {e:EV}(he:Br p e=0):LX (BN p e):=by
 have hv:=hJ.1.1
 unfold BN;rw [AE A0];unfold Br at he;rw [AE A8] at he
 have cr:∀ {i:Y},p.isC i≠X->0<=i/\i<(M p.gs:Y):=λ{i} hh=>by
  exact aPY
 have gv:∀ {st:bf} {i k n m:Y},Bz p.gs (FN p.gs<|WJ (An p.se p.fl) p.dr p.tk) st->(0<=i/\i<(M p.gs:Y))->k≠7/\k≠8->Bz p.gs (FN p.gs<|WJ (An p.se p.fl) p.dr p.tk) (CX p.gs st i k n m):=λ{st i k n m} hs hi hk=>
  hs.gv hi.1 hi.2 λhs=>hs.gv (λa u u' hw hu=>WL.le hw A0) λc=>absurd c hk.1
 split
 ·exact (h.tick g hJ ht).1
 rename_i h1;rw [AE h1] at he;split
 ·rename_i h2
  rw [AD h2] at he;unfold PK.GR at he;split at he
  ·cases he
  rename_i hi
  have hi:=cr hi
  exact {h with st:=gv (gv (gv (gv h.st hi Ad) hi Ad) hi Ad) hi Ad}
 rename_i h2;rw [AE h2] at he;split
 ·rename_i h3
  rw [AD h3] at he;unfold PK.JN at he;split at he
  ·cases he
  rename_i hi
  have hi:=cr hi
  exact {h with st:=gv (gv h.st hi Ad) hi Ad}
 rename_i h3;rw [AE h3] at he;split
 ·exact {h with lk:=λl hl=>h.lk l (Ck.1 hl).1}
 rename_i h4;rw [AE h4] at he;split
 ·exact ⟨λc=>DP,λ_=>rfl,h.st,h.lk⟩
 rename_i h5;rw [AE h5] at he;split
 ·refine ⟨λ_=>?_,λc=>DP,h.st,h.lk⟩
  obtain ⟨k,v1,v2⟩:=g.vl
  have htk:=hv.tk
  have e:BX (An p.se p.fl) p.tk=(An p.se p.fl).filter (LC p.tk):=AD (by unfold L0;rw [v1.lv,B8.2 A0];rfl)
  show (∀y∈An p.se p.fl,DS y>p.tk->y∈BX (An p.se p.fl) p.tk)/\∀y∈BX (An p.se p.fl) p.tk,DS y>p.tk->y∈An p.se p.fl
  rw [e];exact ⟨λy hy he=>Ck.2 ⟨hy,Ci he⟩,λy hy _=>(Ck.1 hy).1⟩
 rename_i h6;rw [AE h6] at he;split
 ·rename_i h7
  rw [AD h7] at he;unfold PK.Np at he;split at he
  ·cases he
  rename_i hi;exact {h with st:=gv h.st (cr hi) Ad}
 ·exact {h with}
def ahj {cs:aJ}{os:aE}{ks:aP}{gs:aF}{bs:aQ}{dr:aB}(h:HW cs os ks gs bs dr=0):LX (newP cs os ks gs bs dr):=by
 have hp:newP cs os ks gs bs dr=_:=AE A8
 obtain ⟨vl,k,v1,v2⟩:=(aUI h).sg.vl
 have hs:=(vd h).1.site
 rw [hp] at v1 hs|-
 have e:=(⟨rfl,rfl,⟨0,1019,_,im⟩,Cb _⟩:VI 512 Eb [] 0).ld.2
 refine ⟨λ_=>⟨λy hy _=>?_,λy hy=>(by cases hy)⟩,λc=>rfl,⟨CV,λj j0 j1=>?_⟩,λl hl=>(by cases hl)⟩
 ·have hy:=hy
  rw [show An 512 Eb=[] from e] at hy;exact hy
 ·have e0:BJ (aq (M gs) ((0,0,0,X):St)) j=(0,0,0,X):=by
   unfold BJ
   grind
  simp only [e0]
  have hc:=NU hs j0 j1
  unfold G7 chW at hc;simp only [AY,CS,Cl,B8] at hc;exact ⟨Mc.2 ⟨Wu.2 A0,Ad,A8,Ad,A8,Ad,A8,λ_=>rfl,λc=>DP⟩,λc=>absurd c Ad⟩
def akA {gs:aF}{vl:aL}{dr:aB}{t u j:Y}{s:St}(h:FN gs (WJ vl dr t) j s) (hw:s.2.2.2=X) (hd:-200<=gi dr j/\gi dr j<=200) (ht:t<=1000000) (hv:B2 vl=U) (hb:below (M gs) vl=U)
  (hT:∀x∈vl,0<=x.2.2.2.1/\DS x=x.2.2.2.1+23) (hu:∀x∈vl,x.2.2.2.1<=u) (ut:u<=t):Bk (AG gs j) s<=mx (Ce<|AG gs j) (gi (GY (M gs) vl u) j):=by
 obtain ⟨q1,q2⟩:=h
 have qv:=Mc.1 q1
 have hfb:0<=Ce (AG gs j):=by
  have:=Wu.1 qv.1
  unfold Ce;omega
 unfold Bk;rw [AD q1,AE A8];split
 ·unfold mx;split<;>omega
 split
 ·rename_i c
  obtain ⟨x,b1,b2,b3,b4,b5⟩:=aJE (q2 A0) A0 hd ht λx hx=>(hT x hx).1
  have ha:Fc u x=true:=by
   unfold Fc;rw [Ci<|hu x b1,Ci A8];rfl
  have:=uT (gs:=gs) hv hb b1 ha
  rw [b2,b3] at this;exact NG
 ·show Ce _<=_
  exact NG
structure LG (p:PK):Prop where
 tg:TG p
 lx:LX p
def LG.step (h:LG p) (hJ:JP p) (ht:p.tk<=1000) {e:EV}(he:Br p e=0):LG (BN p e):=⟨h.tg.step hJ he,h.lx.step h.tg hJ ht he⟩
end Go.Proofs.YtpdndmobphnjcaaGreatDoor
namespace Go.Proofs.YtpdndmobphnjcaaGreatDoor
set_option maxRecDepth 100000
set_option maxHeartbeats 4000000
open Go.Proofs.Tryz
open Go.Sx
variable {p : PK}
def Hu.refl (C:aJ):Hu C C:=⟨rfl,λ_=>rfl,λ_=>Cb _⟩
def jj (hv:VP p):B9 p.EG p.os p.ks p.gs p.bs=true:=rN hv.site hv.tg1 _ cN
def frm (T:Y) (l:aL):aL:=l.filter λx=>an<|T<=x.2.2.2.1
def Tb {T:Y}{l:aL}{x:Le}:x∈frm T l↔x∈l/\T<=x.2.2.2.1:=by unfold frm;rw [Ck,Ac]
def aD1 {T:Y}{l:aL}(h:B2 l=U):B2 (frm T l)=true:=rP h zL
def R7 {T:Y}{n:aC}{t:Y}{l:aL}(h:∀x∈l,TL n t x):below n l=U/\below n (frm T l)=true:=
 ⟨BO.2 λx hx=>Ci (h x hx).2.2.2,BO.2 λx hx=>Ci (h x (Tb.1 hx).1).2.2.2⟩
structure TU (T:Y) (p:PK):Prop where
 jp:JP p
 tg:TG p
 up:p.up=U
 tk:T<=p.tk
 kn:DO p.EG p.gs (D4 p.gs (frm T p.ls) p.tk)=U
def TG.tu (h:TG p) (hJ:JP p) (hu:p.up=U):TU p.tk p:=by
 refine ⟨hJ,h,hu,Cb _,?_⟩
 have e:frm p.tk p.ls=[]:=List.filter_eq_nil_iff.2 λx hx=>by
  have:=(h.sg.ls.2 x hx).1
  rw [Ac];omega
 rw [e]
 have hs:=jj hJ.1.1
 have hl:M (Bq p.gs)=M p.gs:=Ib
 refine Qs hs hs (Hu.refl _) (λk hk=>fe hs A0) (λk hk=>⟨(Ie hs rfl A0 A0).1,?_⟩) h.kt
 have h0:=fe hs (k:=k) A0
 have e1:gi (Bq p.gs) k=Ce (AG p.gs k):=NQ A0 A0
 have e2:gi (GY (M p.gs) [] p.tk) k=0:=Jx
 rw [Qr A0 A0,e1,e2];exact NG
def TU.dec {T:Y}(h:TU T p) {t':Y}(ht:p.tk<=t'):DO p.EG p.gs (D4 p.gs (frm T p.AK.ls) t')=true:=by
 have hd:=h.tg.dec h.jp
 have hs:=jj h.jp.1.1
 have b0:=R7 (T:=T) h.tg.sg.ls.2
 have b1:=R7 (T:=T) hd.ls.2
 have v0:=aD1 (T:=T) h.jp.2.2
 have v1:=aD1 (T:=T) hd.ls.1
 have hx:=jL h.jp
 by_cases c:p.dE=0
 ·obtain ⟨V,M,_⟩:=ko c
  refine aHI V hs (Hu.refl _) M v0 b0.2 v1 b1.2 (λx hx'=>?_) (λx hx'=>?_) h.kn ht
  ·obtain ⟨q1,q2⟩:=Tb.1 hx'
   have:=(h.tg.sg.ls.2 x q1).1
   exact ⟨A0,λq=>by rw [hx];exact Ck.2 ⟨q1,Ci q⟩⟩
  ·obtain ⟨q1,q2⟩:=Tb.1 hx'
   unfold PK.AK at q1;rw [AE aAV,AE A0] at q1;rcases uz _ (Au _) x q1 with q|q
   ·have q:x∈Dx p.ls p.tk:=q
    rw [hx] at q;exact .inl<|Tb.2 ⟨(Ck.1 q).1,q2⟩
   ·exact .inr q
 ·refine Qs hs hs (Hu.refl _) (λk hk=>Ie hs v0 A0 A0) (λk hk=>⟨(Ie hs v1 A0 A0).1,fP v0 b0.2 v1 b1.2 (λx hx' ha=>?_) A0 A0⟩) h.kn
  obtain ⟨q1,q2⟩:=Tb.1 hx';unfold PK.AK at q1;rw [AE aAV,AD c] at q1;rw [hx] at q1
  have q3:=(Ck.1 q1).1
  have:=(h.tg.sg.ls.2 x q3).1
  exact ⟨Tb.2 ⟨q3,q2⟩,tR ht A0 ha⟩
def TU.tick {T:Y}(h:TU T p) (ht:p.tk<1000000):TU T p.BZ:=by
 obtain ⟨e1,e2,e3,e4,e5,e6,e7,e8,e9,e10,e11,e12,e13,e14⟩:=Ic p;obtain ⟨he,eP,_,_,etk⟩:=fa h.jp ht
 have hJ:=h.jp.step he
 rw [eP] at hJ
 have eg:p.BZ.gs=p.gs:=e4
 have eT:p.BZ.tg=p.tg:=e14
 have ea:p.BZ.EG=p.EG:=by
  show E6 p.BZ.cs p.BZ.tg (M p.BZ.tg)=_
  rw [eT];exact (u7 h.jp.1.1).ask h.jp.1.1.Ew
 refine ⟨hJ,h.tg.tick h.jp,e7.trans h.up,by have:=h.tk;omega,?_⟩
 rw [ea,eg,etk];exact h.dec A0
def al0:wt 12=13:=Ad
def TU.last {T:Y}(h:TU T p) (ht:p.tk<1000000) (hT:T+22<=p.tk):∀k:aC,k<M p.cs->(AZ p.BZ.cs k).2.2.1=gi p.tg k:=by
 obtain ⟨e1,e2,e3,e4,e5,e6,e7,e8,e9,e10,e11,e12,e13,e14⟩:=Ic p
 have hv:=h.jp.1.1
 have hd:=h.tg.dec h.jp
 have hs:=jj hv
 have b1:=R7 (T:=T) hd.ls.2
 have v1:=aD1 (T:=T) hd.ls.1
 have gl:=(Cz.1 hv.site).1.2.2.2.2.1
 have htk:=hv.tk
 have ec:p.BZ.cs=Cp p.gs p.tg (D4 p.gs p.AK.ls<|p.tk+1) p.cs (M p.tg):=by
  have a1:p.Ah.BU.cs=p.cs:=e1
  have a2:p.Ah.BU.tg=p.tg:=e14
  have a3:p.Ah.BU.gs=p.gs:=e4
  have a4:p.Ah.BU.tk=p.tk:=e6
  have a5:p.Ah.BU.up=p.up:=e7
  have a6:p.Ah.BU.ls=p.AK.ls:=rfl
  show (if p.Ah.BU.up=X then p.Ah.BU.cs else Cp p.Ah.BU.gs p.Ah.BU.tg p.Ah.BU.Jj p.Ah.BU.cs (M p.Ah.BU.tg))=_
  rw [a5,AE aAV];unfold PK.Jj JY
  rw [a1,a2,a3,a4,a6,AD (by
   rw [AD];unfold K8;rw [show B2 p.AK.ls=U from hd.ls.1,B8.2 A0,B8.2 A0,show below (M p.gs) p.AK.ls=U from b1.1];rfl)]
 rw [ec]
 have hb:∀k:aC,k<M p.gs->0<=gi (D4 p.gs p.AK.ls<|p.tk+1) k/\gi (D4 p.gs p.AK.ls<|p.tk+1) k<=80:=λk hk=>Ie hs hd.ls.1 A0 A0
 intro k hk;refine aK2 hv.site (λk hk=>?_) hv.Ew Ib hb (Qs hs hs (Hu.refl _) (λk hk=>Ie hs v1 A0 A0) (λk hk=>⟨(hb k hk).1,fP v1 b1.2 hd.ls.1 b1.1 (λx hx ha=>⟨Tb.2 ⟨hx,?_⟩,ha⟩) A0 A0⟩)<|h.dec (t':=p.tk+1) A0) _ cN k (by rw [hv.Ew];exact hk)
 ·exact hv.tg k (by rw [hv.Ew];exact hk)
 ·have q:=(hd.ls.2 x hx).2.1
  unfold Fc DS at ha;rw [q,al0] at ha;simp only [AY,Ac] at ha;omega
def TU.Ef {T:Y}:∀(n:aC) {p:PK}{l:Y},TU T p->p.tk+n<1000000->
  (OV n p l).2.2=U/\TU T (OV n p l).1/\(1<=n->T+23<=p.tk+n->∀k:aC,k<M (OV n p l).1.cs->(AZ (OV n p l).1.cs k).2.2.1=gi (OV n p l).1.tg k)
 |0,p,l,h,_=>⟨rfl,h,λh=>A0⟩
 | n+1,p,l,h,ht=>by
  obtain ⟨he,e2,e3,hl,htk⟩:=fa h.jp A0;rw [OV,AD ⟨he,hl⟩,e2]
  have h2:=h.tick A0
  obtain ⟨a1,a2,a3⟩:=TU.Ef n (l:=if M (D8 p FL)>0 then gi (D8 p FL) 0 else l) h2 A0
  refine ⟨a1,a2,λ_ hT=>?_⟩
  by_cases c:n=0
  ·subst c
   show ∀k:aC,k<M p.BZ.cs->(AZ p.BZ.cs k).2.2.1=gi p.BZ.tg k
   rw [show p.BZ.tg=p.tg from (Ic p).2.2.2.2.2.2.2.2.2.2.2.2.2,(u7 h.jp.1.1).1];exact h.last A0 A0
  ·grind
end Go.Proofs.YtpdndmobphnjcaaGreatDoor
namespace Go.Proofs.YtpdndmobphnjcaaGreatDoor
set_option maxRecDepth 100000
set_option maxHeartbeats 4000000
open Go.Proofs.Tryz
open Go.Sx
def Bz.Ef {gs:aF}{Q:Y->St->Prop}{st:bf}(h:Bz gs Q st) (hq:∀j s,Q j s->Q j (EE (AG gs j) s 8 0 0)) {i:Y}(h0:0<=i) (h1:i<(M gs:Y)):∀k:aC,Bz gs Q (L5 gs st i k)
 |0=>h
 |k+1=>(Bz.Ef h hq h0 h1 k).gv h0 h1<|hq _ _
def Bz.cnt {gs:aF}{Q:Y->St->Prop}{dr:aB}{t:Y}{st:bf}(h:Bz gs Q st) (hq:∀j s,Q j s->Q j (EE (AG gs j) s 8 0 0)):∀n,n<=M gs->Bz gs Q (JS gs dr t st n)
 |0,_=>h
 |n+1,hn=>by
  unfold JS;split
  ·exact (Bz.cnt h hq n A0).Ef hq A0 A0 _
  ·exact Bz.cnt h hq n A0
def vH {gs:aF}{tg am:aB}{cs:aJ}:∀n,Cp gs tg am cs n=cs\/DO (Cp gs tg am cs n) gs am=U
 |0=> .inl rfl
 | n+1=>by
  unfold Cp;split
  ·exact vH n
  ·split
   ·rename_i c
    grind
   ·exact vH n
variable {p : PK}
def aVy (hv:VP p):Hu p.EG p.cs:=aVx ⟨rfl,λj=>⟨(AZ p.cs j).2.2.1,rfl⟩⟩ hv.Ew λj hj=>(hv.tg j (by rw [hv.Ew];exact hj)).2
structure LM (p:PK):Prop where
 fi:FI p
 tg:TG p
 lx:LX p
 kp:DO p.cs p.gs (D4 p.gs (An p.se p.fl) p.tk)=U
def LM.dec (h:LM p) (hJ:JP p) (ht:p.tk<=1000) {t':Y}(h1:p.tk<=t'):DO p.cs p.gs (D4 p.gs (An p.AK.se p.AK.fl) t')=true:=by
 have hv:=hJ.1.1
 have hs:=hv.site
 obtain ⟨k,v1,v2⟩:=h.tg.vl;obtain ⟨vl',k',w1,w2⟩:=(h.tg.dec hJ).vl
 have e:An p.AK.se p.AK.fl=vl':=w1.ld.2
 obtain ⟨d1,d2,⟨d3,d5⟩,d4⟩:=h.lx.dec h.tg hJ ht;rw [e] at d5|-
 have b0:=(R7 (T:=0) λx hx=>(v2 x hx).2).1
 have b1:=(R7 (T:=0) λx hx=>(w2 x hx).2).1
 by_cases c:p.up=U/\p.dE=0
 ·obtain ⟨V,M,_⟩:=ko c.2
  obtain ⟨u1,_⟩:=h.lx.up c.1;refine aHI V hs (aVy hv) M v1.lv b0 w1.lv b1 (λx hx=>⟨by have:=(v2 x hx).2.1;omega,λq=>?_⟩) (λx hx=>(d5 x hx).imp id λq=>q.2.2) h.kp h1
  rw [jL hJ];exact Ck.2 ⟨u1 x hx q,Ci q⟩
 ·refine Qs hs hs (Hu.refl _) (λk hk=>Ie hs v1.lv A0 A0) (λk hk=>⟨(Ie hs w1.lv A0 A0).1,fP v1.lv b0 w1.lv b1 (λx hx ha=>?_) A0 A0⟩) h.kp
  rcases d5 x hx with q|q
  ·exact ⟨q,tR h1 (by have:=(v2 x q).2.1;omega) ha⟩
  ·grind
def LM.tick (h:LM p) (hJ:JP p) (ht:p.tk<=1000):LM p.BZ:=by
 obtain ⟨e1,e2,e3,e4,e5,e6,e7,e8,e9,e10,e11,e12,e13,e14⟩:=Ic p;obtain ⟨_,_,_,_,etk⟩:=fa hJ A0
 have hv:=hJ.1.1
 have htk:=hv.tk
 refine ⟨h.fi.tick hv A0,h.tg.tick hJ,(h.lx.tick h.tg hJ ht).1,?_⟩
 have eg:p.BZ.gs=p.gs:=e4
 have es:p.BZ.se=p.AK.se:=rfl
 have ef:p.BZ.fl=p.AK.fl:=rfl
 have hk:=h.dec hJ ht (t':=p.tk+1) A0
 have a1:p.Ah.BU.cs=p.cs:=e1
 have a2:p.Ah.BU.tg=p.tg:=e14
 have a3:p.Ah.BU.gs=p.gs:=e4
 have a4:p.Ah.BU.tk=p.tk:=e6
 have a5:p.Ah.BU.up=p.up:=e7
 have a6:p.Ah.BU.ls=p.AK.ls:=rfl
 have ec:p.BZ.cs=if p.up=X then p.cs else Cp p.gs p.tg p.Ah.BU.Jj p.cs (M p.tg):=by
  show (if p.Ah.BU.up=X then p.Ah.BU.cs else Cp p.Ah.BU.gs p.Ah.BU.tg p.Ah.BU.Jj p.Ah.BU.cs (M p.Ah.BU.tg))=_
  rw [a5,a1,a2,a3]
 rw [eg,es,ef,etk,ec]
 by_cases hu:p.up=X
 ·rw [AD hu];exact hk
 rw [AE hu]
 have hu:p.up=true:=by simpa using hu
 rcases vH (gs:=p.gs) (tg:=p.tg) (am:=p.Ah.BU.Jj) (cs:=p.cs) (M p.tg) with e|e
 ·rw [e];exact hk
 have hd:=h.tg.dec hJ
 obtain ⟨vl',k',w1,w2⟩:=hd.vl
 have el:An p.AK.se p.AK.fl=vl':=w1.ld.2
 obtain ⟨d1,_⟩:=h.lx.dec h.tg hJ ht;obtain ⟨u1,_⟩:=d1 hu;rw [el] at u1|-
 have b1:below (M p.gs) vl'=true:=(R7 (T:=0) λx hx=>(w2 x hx).2).1
 have b2:below (M p.gs) p.AK.ls=true:=(R7 (T:=0) hd.ls.2).1
 have gl:=(Cz.1 hv.site).1.2.2.2.2.1
 have ea:p.Ah.BU.Jj=D4 p.gs p.AK.ls (p.tk+1):=by
  unfold PK.Jj JY
  rw [a3,a4,a6,AD (by
   rw [AD];unfold K8;rw [show B2 p.AK.ls=U from hd.ls.1,B8.2 A0,B8.2 A0,b2];rfl)]
 have hs2:B9 (Cp p.gs p.tg p.Ah.BU.Jj p.cs<|M p.tg) p.os p.ks p.gs p.bs=true:=rC hv.site hv.tg1 _ cN
 rw [ea] at e hs2|-;refine Qs hs2 hs2 (Hu.refl _) (λk hk=>Ie hv.site hd.ls.1 A0 A0) (λk hk=>⟨(Ie hv.site w1.lv A0 A0).1,fP hd.ls.1 b2 w1.lv b1 (λx hx ha=>⟨u1 x hx ?_,ha⟩) A0 A0⟩) e
 unfold Fc at ha;simp only [AY,Ac] at ha;omega
def LM.step (h:LM p) (hJ:JP p) (ht:p.tk<=1000) {e:EV}(he:Br p e=0) (hw:e.ek≠7) (hc:e.c.1≠4):LM (BN p e):=by
 have f:=h.fi.step hJ.1.1 he hw hc
 have g:=h.tg.step hJ he
 have x:=h.lx.step h.tg hJ ht he
 rcases u9 hJ.1.1 he with ⟨_,c⟩ |c|⟨c0,c⟩ |⟨c0,c⟩ |c
 ·rw [c];exact h.tick hJ ht
 ·exact o6
 ·exact o6
 ·exact o6
 ·exact o6
def LM.draw (h:LM p) (hJ:JP p) (ht:p.tk<=1000):M p.Fu=M p.gs/\(∀k:aC,k<M p.gs->0<=gi p.Fu k/\gi p.Fu k<=80)/\DO p.cs p.gs p.Fu=true:=by
 obtain ⟨e1,e2,e3,e4,e5,e6,e7,e8,e9,e10,e11,e12,e13,e14⟩:=Ic p
 have hv:=hJ.1.1
 have htk:=hv.tk
 have hvd:=hv.dec
 have hvb:VP p.Ah:=hvd.arr.cnt
 have f4:p.Ah.gs=p.gs:=e4
 have f9:p.Ah.ca=p.ca:=e9
 obtain ⟨vl',k',w1,w2⟩:=(h.tg.dec hJ).vl
 have el:An p.AK.se p.AK.fl=vl':=w1.ld.2
 have b1:=(R7 (T:=0) λx hx=>(w2 x hx).2).1
 have s2:=(h.lx.tick h.tg hJ ht).2
 have hk:=h.dec hJ ht (t':=p.tk)<|Cb _
 rw [el] at s2 hk
 have nw:Bz p.gs (λ_ s=>s.2.2.2=X) p.Ah.st:=by
  show Bz p.gs _ (JS p.AK.gs p.AK.dr p.AK.tk (LH p.AK.gs p.AK.lk p.AK.tk p.AK.st<|M p.AK.lk)<|M p.AK.dr)
  rw [e4,e8,hvd.dr,e4];refine Bz.cnt (Bz.arr (Q:=λ_ s=>s.2.2.2=X) ⟨h.fi.st.1,λj j0 j1=>(h.fi.st.2 j j0 j1).2.1⟩ (λl hl=>⟨by have:=hvd.lk l hl;rwa [e4] at this,λ_ s hs=>kG hs<|.inl Ad⟩) _<|Au _) (λj s hs=>kG hs<|.inl Ad) _<|Au _
 have hl:=fp (gs:=p.Ah.gs) (ca:=p.Ah.ca) (s:=⟨p.Ah.st,p.Ah.mi,p.Ah.me,aq (M p.Ah.gs) 0⟩)<|M p.Ah.gs
 have key:∀i:aC,i<M p.gs->(0<=gi p.Fu i/\gi p.Fu i<=80)/\gi p.Fu i<=gi (D4 p.gs vl' p.tk) i:=λi hi=>by
  have:=(aVK (gs:=p.Ah.gs) (ca:=p.Ah.ca) (s:=⟨p.Ah.st,p.Ah.mi,p.Ah.me,aq (M p.Ah.gs) 0⟩) (n:=M p.Ah.gs) hvb.mi hvb.me AJ (j:=i) (by rw [f4];exact hi) (M p.Ah.gs) (by rw [f4];exact hi)).2.2
  have hb:=Ie (t2:=p.tk) hv.site w1.lv (j:=(i:Y)) A0 A0
  have ed:gi p.Fu i=_:=this
  rw [ed];split
  ·rename_i ok
   have a1:=D1.bd ok
   have a2:=D1.le ok<|anB (by rw [f9];exact h.fi.ca) i
   refine ⟨⟨a1.1,a1.2.1⟩,F9 a2 ?_⟩;rw [f4,Qr A0 A0];exact akA (s2.2 i A0 A0) (nw.2 i A0 A0) (Xx hv (i:Y) A0 (by rw [hv.dr];omega)) A0 w1.lv b1 (λx hx=>⟨(Ka.1<|(GP w1.lv).2 x hx).2.2.2.1.1,xH (w2 x hx).2.2.1⟩) (λx hx=>by have:=(w2 x hx).2.1;omega) A0
  ·have e0:gi (aq (M p.Ah.gs) 0) i=0:=Jx
   rw [e0]
   grind
 exact ⟨by refine hl.2.2.2.trans ?_;rw [CV,f4],λk hk'=>(key k hk').1,Qs hv.site hv.site (Hu.refl _) (λk hk'=>Ie hv.site w1.lv A0 A0) (λk hk'=>⟨(key k hk').1.1,(key k hk').2⟩) hk⟩
end Go.Proofs.YtpdndmobphnjcaaGreatDoor
namespace Go.Proofs.YtpdndmobphnjcaaGreatDoor
set_option maxRecDepth 100000
set_option maxHeartbeats 4000000
open Go.Proofs.Tryz
open Go.Sx
def jR {x lo hi:Y}(h:lo<=hi):((if lo<(if hi<x then hi else x) then if hi<x then hi else x else lo)==x)=inB x lo hi:=by
 rw [IZ,Cl,B8]
 repeat' split
 all_goals omega
def T.at' {α:Type}:aH->T α->T α
 | [],t=>t
 |0::p,.br _ x _=>T.at' p x
 |1::p,.br _ _ y=>T.at' p y
 |_::p,.req _ x=>T.at' p x
 |_,_=> .no
def T.ct {α:Type}:aH->T α->T α
 | [],_=> .no
 |0::p,.br b x y=> .br b (T.ct p x) y
 |1::p,.br b x y=> .br b x (T.ct p y)
 |_::p,.req q x=> .req q (T.ct p x)
 |_,t=>t
def T.glue {α:Type}:∀ {p:aH}{t u:T α},T.ct p t=T.ct p u->T.at' p t=T.at' p u->t=u
 | [],_,_,_,h=>h
 |0::p,t,u,h,h2=>by
  cases t<;>cases u<;>simp only [T.ct,T.at',T.br.injEq,T.req.injEq,reduceCtorEq] at h h2|-
  ·exact h
  ·exact ⟨h.1,T.glue h.2.1 h2,h.2.2⟩
  ·exact ⟨h.1,T.glue h.2 h2⟩
 |1::p,t,u,h,h2=>by
  cases t<;>cases u<;>simp only [T.ct,T.at',T.br.injEq,T.req.injEq,reduceCtorEq] at h h2|-
  ·exact h
  ·exact ⟨h.1,h.2.1,T.glue h.2.2 h2⟩
  ·exact ⟨h.1,T.glue h.2 h2⟩
 |(n+2)::p,t,u,h,h2=>by
  cases t<;>cases u<;>simp only [T.ct,T.at',T.br.injEq,T.req.injEq,reduceCtorEq] at h h2|-
  ·exact h
  ·exact h
  ·exact ⟨h.1,T.glue h.2 h2⟩
def fuV (f:Int×Int):aM:=((f.1==0)&&(f.2==0)) ||(inB f.1 1 1000&&inB f.2 0 1000000000)
def Xt {a b:Y}(h0:0<=a) (h:a<=b):a*a<=b*b:=Int.mul_le_mul h h h0 A0
def anC {f:Int×Int}{h a:Y}(h0:0<=h/\h<=f.2) (ha:0<=a/\a<=f.1):0<=mx 0 (h+(a*a-f.1*f.1))/\mx 0 (h+(a*a-f.1*f.1))<=f.2:=by
 have:=Xt ha.1 ha.2
 exact oC
def upD (n d:Y):Y:=if 0<n.tmod d then n.tdiv d+1 else n.tdiv d
def aRS {n d m:Y}(hd:1<=d) (h:n<=m*d):upD n d<=m:=by
 unfold upD
 have h1:=Zw n d
 split
 ·rename_i c
  refine QK.1 λq=>?_
  have:m*d<=n.tdiv d*d:=Gn A0 A0
  rw [VH d] at h1;omega
 ·rename_i c
  refine QK.1 λq=>?_
  have h2:(m+1)*d<=n.tdiv d*d:=Gn A0 A0
  have h3:=Int.lt_tmod_of_pos n (show 0<d by omega)
  rw [VH d] at h1;rw [VF] at h2;omega
def aRR {n d m:Y}(hd:1<=d) (h:m*d<=n):m<=upD n d:=by
 unfold upD
 have h1:=Zw n d
 rw [VH d] at h1
 have h3:=yx n (show 0<d by omega)
 split
 ·rename_i c
  refine QK.1 λq=>?_
  have h2:(n.tdiv d+1)*d<=(m-1)*d:=Gn A0 A0
  rw [Int.sub_mul,VF] at h2;omega
 ·rename_i c
  refine QK.1 λq=>?_
  have h2:n.tdiv d*d<=(m-1)*d:=Gn A0 A0
  rw [Int.sub_mul] at h2;omega
def cbL (c:Cbl):Y:=if c.2.2.2.2<c.2.2.2.1 then c.2.2.2.2 else c.2.2.2.1
def cbT (c:Cbl) (t a:Y):Y:=if cbZ c=U then t else t+upD (c.2.2.1*a*a-cbL c*(t-c.1)) c.2.2.2.2
def aK4 {ga ro:Y}(h0:0<=ro):∀k:aC,ga*OS ga ro k*OS ga ro k<=ro
 |0=>by simp only [OS];omega
 |k+1=>by
  simp only [OS];split
  ·assumption
  ·exact aK4 h0 k
def yD {c:Cbl}(hd:0<c.2.2.2.2):cbZ c=false:=by
 cases e:cbZ c
 ·rfl
 ·unfold cbZ at e
  simp only [AY,Cl] at e;omega
def ab5 {c:Cbl}{t a:Y}(hv:GJ c=U) (hd:0<c.2.2.2.2) (ht:c.1<=t/\t<=c.2.1) (ha:0<=a/\a<=Hb c):c.1<=cbT c t a/\cbT c t a<=c.2.1:=by
 have hz:=yD hd
 obtain ⟨⟨b1,b2,b3⟩,⟨b4,b5⟩,⟨b6,b7⟩,b8,b9⟩:=jQ hv hz
 have l0:0<=cbL c/\cbL c<=c.2.2.2.2:=by unfold cbL;split<;>omega
 have hp:Hb c=prm c.2.2.1 (cbL c*(c.2.1-c.1)):=by
  unfold Hb;rw [AD hv,hz,AE Ad];rfl
 rw [hp] at ha
 have g1:c.2.2.1*a*a<=cbL c*(c.2.1-c.1):=F9 (fc b4 ha.1 ha.2)<|aK4 (F7 l0.1 A0) 1000
 have g0:0<=c.2.2.1*a*a:=F7 (F7 b4 ha.1) ha.1
 have s1:cbL c*(c.2.1-c.1)-cbL c*(t-c.1)=cbL c*(c.2.1-t):=by rw [<-Int.mul_sub];congr 1;omega
 have s2:cbL c*(c.2.1-t)<=(c.2.1-t)*c.2.2.2.2:=aPw
 have s3:cbL c*(t-c.1)<=(t-c.1)*c.2.2.2.2:=aPw
 have u1:=aRS (n:=c.2.2.1*a*a-cbL c*(t-c.1)) (m:=c.2.1-t) b8 A0
 have u2:=aRR (n:=c.2.2.1*a*a-cbL c*(t-c.1)) (m:=-(t-c.1)) b8 (by rw [Int.neg_mul];omega)
 unfold cbT;rw [hz]
 show _<=t+_/\t+_<=_
 exact ⟨A0,A0⟩
def sqN (l:aB):aC->Int
 |0=>0
 |k+1=>sqN l k+gi l k*gi l k
def iI {l:aB}(h:∀k:aC,k<M l->-1000<=gi l k/\gi l k<=1000):∀k,k<=M l->0<=sqN l k/\sqN l k<=1000000*k
 |0,_=>⟨Cb _,Cb _⟩
 | k+1,hk=>by
  have h1:=iI h k A0
  have h2:=h k A0
  have h3:gi l k*gi l k<=1000*1000:=by
   rcases bG 0 (gi l k) with c|c
   ·exact Xt c h2.2
   ·rw [<-zf]
    exact Xt A0 A0
  have h4:0<=gi l k*gi l k:=by
   rcases bG 0 (gi l k) with c|c
   ·exact F7 c c
   ·rw [<-zf]
    exact F7 A0 A0
  simp only [sqN];omega
def neL (a b c:Y):aB:=[a-b,b-c,c-a]
def neW (a b c:Y):Y:=sqN (neL a b c)<|M<|neL a b c
def ahq (a b c:Y):neW a b c=(a-b)*(a-b)+(b-c)*(b-c)+(c-a)*(c-a):=by
 show 0+(a-b)*(a-b)+(b-c)*(b-c)+(c-a)*(c-a)=_
 omega
def neM (w:Y):aC->Int
 |0=>0
 |k+1=>if w<=2*k*k then neM w k else k+1
def ve {w m:Y}(h0:0<=m) (h:w<=2*m*m):∀k:aC,m<=k->neM w k<=m
 |0,hk=>by simp only [neM];exact h0
 | k +1,hk=>by
  simp only [neM]
  by_cases e:m=(k:Y)+1
  ·subst e
   split
   ·rename_i c
    by_cases k0:k=0
    ·subst k0;simp only [neM];omega
    ·have:=ve (w:=w) (m:=(k:Y)) A0 c k (Cb _)
     omega
   ·exact Cb _
  ·have hk:m<=(k:Y):=A0
   have:2*m*m<=2*(k:Y)*k:=fc A0 h0 hk
   rw [AD A0];exact ve h0 h k hk
def Jd (a:Y):aM:=inB a 0 1000
def neV (a b c:Y):aM:=Jd a&&(Jd b&&Jd c)
def ahp {a b c m:Y}(ha:0<=a/\a<=m) (hb:0<=b/\b<=m) (hc:0<=c/\c<=m):neW a b c<=2*m*m:=by
 have sw:∀x y:Y,(x-y)*(x-y)=(y-x)*(y-x):=λx y=>by
  rw [show x-y=-(y-x) by omega,zf]
 have key:∀x y z:Y,0<=z->z<=y->y<=x->x<=m->(x-y)*(x-y)+(y-z)*(y-z)+(x-z)*(x-z)<=2*m*m:=λx y z h1 h2 h3 h4=>by
  have k1:(x-y)*(x-y)<=m*(x-y):=Gn A0 A0
  have k2:(y-z)*(y-z)<=m*(y-z):=Gn A0 A0
  have k3:(x-z)*(x-z)<=m*(x-z):=Gn A0 A0
  have k4:m*(x-y)+m*(y-z)+m*(x-z)=2*m*(x-z):=by
   rw [<-nj,<-nj,show x-y+(y-z)+(x-z)=2*(x-z) by omega,<-Int.mul_assoc,VH m 2]
  have k5:2*m*(x-z)<=2*m*m:=N8 A0 A0
  omega
 rw [ahq];rcases bG a b with h1|h1<;>rcases bG b c with h2|h2<;>rcases bG a c with h3|h3
 ·exact aOT
 ·exact aOT
 ·have:=key b c a ha.1 h3 h2 hb.2
  rw [sw b a] at this;omega
 ·have:=key b a c hc.1 h3 h1 hb.2
  rw [sw b a,sw a c] at this;omega
 ·have:=key c a b hb.1 h1 h3 hc.2
  rw [sw c b] at this;omega
 ·have:=key a c b hb.1 h2 h3 ha.2
  rw [sw a c,sw c b] at this;omega
 ·have:=key c b a A0 A0 A0 hc.2
  rw [sw c b,sw b a] at this;omega
 ·have:=key a b c hc.1 h2 h1 ha.2
  rw [sw a c] at this;omega
def aUJ {w r:Y}:∀ {k:aC},0<=r->r<=k->(∀a:Y,0<=a->a<r->¬w<=2*a*a)->(r=k\/w<=2*r*r)->neM w k=r
 |0,h0,h1,_,_=>by simp only [neM];omega
 | k+1,h0,h1,h2,h3=>by
  simp only [neM]
  by_cases e:r=(k:Y)+1
  ·subst e
   rw [AE<|h2 (k:Y) A0 A0]
  ·have h4:w<=2*r*r:=h3.resolve_left A0
   have h5:2*r*r<=2*(k:Y)*k:=fc A0 h0 A0
   rw [AD A0];exact aUJ h0 A0 h2<|.inr h4
def amb {a b c m:Y}(ha:0<=a/\a<=m) (hb:0<=b/\b<=m) (hc:0<=c/\c<=m) (hm:m<=1000):neV a b c=U/\neM (neW a b c) 1000<=m:=by
 refine ⟨?_,ve A0 (ahp ha hb hc) 1000 A0⟩;unfold neV Jd;rw [B8.2 A0,B8.2 A0,B8.2 A0];rfl
def sa1 (l:aW) (i:aC) (v:Y):aW:=l.set i (v,(BT l i).2)
def sa2 (l:aW) (i:aC) (v:Y):aW:=l.set i ((BT l i).1,(v,(BT l i).2.2))
def sa3 (l:aW) (i:aC) (v:Y):aW:=l.set i ((BT l i).1,((BT l i).2.1,v))
def TT {l:aW}{i:aC}{v:Y}:M (sa1 l i v)=M l:=C4
def fU {l:aW}{i:aC}{v:Y}:M (sa2 l i v)=M l:=C4
def tj {l:aW}{i:aC}{v:Y}:M (sa3 l i v)=M l:=C4
def iK {l:aW}{i:aC}{v:Y}(h:i<M l) (j:aC):BT (sa1 l i v) j=if i=j then (v,(BT l i).2) else BT l j:=fj h
def iJ {l:aW}{i:aC}{v:Y}(h:i<M l) (j:aC):BT (sa2 l i v) j=if i=j then ((BT l i).1,(v,(BT l i).2.2)) else BT l j:=fj h
def vF {l:aW}{i:aC}{v:Y}(h:i<M l) (j:aC):BT (sa3 l i v) j=if i=j then ((BT l i).1,((BT l i).2.1,v)) else BT l j:=fj h
def TrB (lo hi:Y) (e:Ld):Prop:=(lo<=e.1/\e.1<=hi)/\(lo<=e.2.1/\e.2.1<=hi)/\lo<=e.2.2/\e.2.2<=hi
def CdB (cs:aJ):Prop:=M cs<=1000/\∀k:aC,k<M cs->F4 (k:Y) (AZ cs k)=U
def LdB (cs:aJ) (ld:aW):Prop:=M ld=M cs/\∀k:aC,k<M cs->TrB 0 (CW<|AZ cs k) (BT ld k)
def WB (cs:aJ) (he te:aW):Prop:=(he.length=M cs/\M te=M cs)/\∀k:aC,k<M cs->(0<(AZ cs k).2.2.2.2.1.1->TrB 0 (AZ cs k).2.2.2.2.1.2 (BT he k))/\(0<(AZ cs k).2.2.2.2.2.2.2.2.2->TrB (AZ cs k).2.2.2.2.2.1 (AZ cs k).2.2.2.2.2.2.1 (BT te k))
def Okf (f:Ld->Y):Prop:=∀lo hi e,TrB lo hi e->lo<=f e/\f e<=hi
def aNB:Okf (·.1):=λ_ _ _ h=>h.1
def aNE:Okf (·.2.1):=λ_ _ _ h=>h.2.1
def aND:Okf (·.2.2):=λ_ _ _ h=>h.2.2
def Sg (st:aW->aC->Y->aW):Prop:=∀l i v,i<M l->M (st l i v)=M l/\(∀k:aC,k≠i->BT (st l i v) k=BT l k)/\∀lo hi,TrB lo hi (BT l i)->lo<=v/\v<=hi->TrB lo hi (BT (st l i v) i)
def aa1:Sg sa1:=λl i v h=>⟨TT,λk c=>by rw [iK h,AE<|KL c],λlo hi t b=>by rw [iK h,AD rfl];exact ⟨b,t.2⟩⟩
def aaq:Sg sa2:=λl i v h=>⟨fU,λk c=>by rw [iJ h,AE<|KL c],λlo hi t b=>by rw [iJ h,AD rfl];exact ⟨t.1,b,t.2.2⟩⟩
def aap:Sg sa3:=λl i v h=>⟨tj,λk c=>by rw [vF h,AE<|KL c],λlo hi t b=>by rw [vF h,AD rfl];exact ⟨t.1,t.2.1,b⟩⟩
def WB.he {cs:aJ}{he te:aW}(h:WB cs he te) {j:aC}(hj:j<M cs) {st:aW->aC->Y->aW}(hs:Sg st) {v:Y}(hv:0<(AZ cs j).2.2.2.2.1.1->0<=v/\v<=(AZ cs j).2.2.2.2.1.2):WB cs (st he j v) te:=by
 obtain ⟨s1,s2,s3⟩:=hs he j v (by rw [h.1.1];exact hj)
 refine ⟨⟨by rw [s1];exact h.1.1,h.1.2⟩,λk hk=>⟨λc=>?_,(h.2 k hk).2⟩⟩
 by_cases e:k=j
 ·subst e;exact s3 _ _ ((h.2 k hk).1 c)<|hv c
 ·rw [s2 k e];exact (h.2 k hk).1 c
def WB.te {cs:aJ}{he te:aW}(h:WB cs he te) {j:aC}(hj:j<M cs) {st:aW->aC->Y->aW}(hs:Sg st) {v:Y}(hv:0<(AZ cs j).2.2.2.2.2.2.2.2.2->(AZ cs j).2.2.2.2.2.1<=v/\v<=(AZ cs j).2.2.2.2.2.2.1):WB cs he (st te j v):=by
 obtain ⟨s1,s2,s3⟩:=hs te j v (by rw [h.1.2];exact hj)
 refine ⟨⟨h.1.1,by rw [s1];exact h.1.2⟩,λk hk=>⟨(h.2 k hk).1,λc=>?_⟩⟩
 by_cases e:k=j
 ·subst e;exact s3 _ _ ((h.2 k hk).2 c)<|hv c
 ·rw [s2 k e];exact (h.2 k hk).2 c
def aJq {c:Cd}:CW c<=c.2.2.2.1/\CW c<=Hb c.2.2.2.2.2/\(c.2.2.2.2.1.1≠0->CW c<=c.2.2.2.2.1.1):=by
 unfold CW Ix;simp only [List.foldl];split<;>(repeat' split)<;>omega
def aoQ {i:Y}{c:Cd}(h:F4 i c=U) (hr:0<c.2.2.2.2.1.1):fuV c.2.2.2.2.1=U/\c.2.2.2.2.1.1<=1000/\c.2.2.2.2.1.2<=1000000000/\CW c<=c.2.2.2.2.1.1:=by
 unfold F4 at h;simp only [AY,CS,Cl,B8] at h;obtain ⟨_,_,_,h,_⟩:=h;refine ⟨?_,A0,A0,aJq.2.2 A0⟩;unfold fuV;simp only [AY,CS,Cl,B8];omega
def aD0 {i:Y}{c:Cd}(h:F4 i c=U):GJ c.2.2.2.2.2=U/\CW c<=Hb c.2.2.2.2.2/\CW c<=1000/\CW c<=c.2.2.2.1:=by
 unfold F4 at h;simp only [AY,B8] at h;obtain ⟨_,_,h1,_,h2⟩:=h
 have:=aJq (c:=c)
 exact ⟨h2,this.2.1,A0,this.1⟩
def anq {cs:aJ}{os:aE}{ks:aP}{gs:aF}{bs:aQ}{m:aB}(hs:B9 cs os ks gs bs=U) (hl:M m=M gs) (hm:∀k:aC,k<M gs->0<=gi m k/\gi m k<=80) (hk:DO cs gs m=U):LdB cs (Ga cs gs m):=by
 have gl:=(Cz.1 hs).1.2.2.2.2.1
 have hX:Ga cs gs m=Iy cs gs m (M gs):=AD hl
 obtain ⟨q1,q2⟩:=xo (fI hs) (fJ hs) A0 hm (M gs)<|Au _
 have hk:=(fh hs hm).1 hk
 refine ⟨by rw [hX,q1],λk h=>?_⟩
 rw [hX,q2 k h]
 have nn:∀p:Y,0<=ED m (C1 gs p<|Ct cs gs k<|M gs):=λp=>(vB (b:=80) λj hj=>by
  have h2:=Wa (Ck.1 hj).1
  have:=hm j.toNat A0
  rwa [Bs h2.1] at this).1
 exact ⟨⟨nn 0,hk k h 0<|.inl rfl⟩,⟨nn 1,hk k h 1<|.inr<|.inl rfl⟩,nn 2,hk k h 2<|.inr<|.inr rfl⟩
def aV4 {cs:aJ}{os:aE}{ks:aP}{gs:aF}{bs:aQ}(hs:B9 cs os ks gs bs=U):CdB cs:=
 ⟨by have:=(Cz.1 hs).1.2.1;omega,λk hk=>DQ.1 (Cz.1 hs).2.2.2.1 k A0⟩
def WB.oth {cs X:aJ}{he te:aW}(h:WB cs he te) (ho:N4 cs X):WB X he te:=by
 refine ⟨⟨by rw [ho.1];exact h.1.1,by rw [ho.1];exact h.1.2⟩,λk hk=>?_⟩
 obtain ⟨u,e⟩:=ho.2 k;rw [e];exact h.2 k (by rw [<-ho.1];exact hk)
def aHC {cs:aJ}:N4 cs cs:=⟨rfl,λj=>⟨_,(ajU _).symm⟩⟩
def aHU {p:PK}(hv:VP p) {e:EV}(he:Br p e=0):N4 p.cs (BN p e).cs:=by
 rcases u9 hv he with ⟨_,c⟩ |c|⟨_,c⟩ |⟨_,c⟩ |c
 ·rw [c]
  obtain ⟨e1,_,_,e4,_,_,e7,_,_,_,_,_,_,e14⟩:=Ic p
  show N4 p.cs p.Ah.BU.It.cs
  have e:p.Ah.BU.cs=p.cs:=e1
  have e':p.Ah.BU.tg=p.tg:=e14
  unfold PK.It;dsimp only;split
  ·rw [e];exact aHC
  ·rw [e,e'];exact tw cN
 all_goals rw [c];exact aHC
def ay6 {cs:aJ}{os:aE}{ks:aP}{gs:aF}{bs:aQ}{te:aW}(hs:B9 cs os ks gs bs=U) (h1:M te=M cs) (h2:∀k:aC,k<M cs->BT te k=((AZ cs k).2.2.2.2.2.1,(AZ cs k).2.2.2.2.2.1,(AZ cs k).2.2.2.2.2.1)):WB cs (aq (M cs) (0,0,0)) te:=by
 refine ⟨⟨CV,h1⟩,λk hk=>?_⟩
 have cv:=(aV4 hs).2 k hk
 refine ⟨λc=>?_,λc=>?_⟩
 ·have e:BT (aq (M cs) (0,0,0)) k=(0,0,0):=by
   unfold BT;rw [DH,Ss,AD hk];rfl
  rw [e]
  have:(0:Y)<=(AZ cs k).2.2.2.2.1.2:=by
   unfold F4 at cv;simp only [AY,CS,Cl,B8] at cv;omega
  exact ⟨⟨Cb _,this⟩,⟨Cb _,this⟩,Cb _,this⟩
 ·rw [h2 k hk]
  have b:=(jQ (aD0 cv).1<|yD c).1
  have q:(AZ cs k).2.2.2.2.2.1<=(AZ cs k).2.2.2.2.2.1/\(AZ cs k).2.2.2.2.2.1<=(AZ cs k).2.2.2.2.2.2.1:=⟨Cb _,A0⟩
  exact ⟨q,q,q⟩
def opN (k:Y) (l:aC):Y:=if (l:Y)>0 then (AA k).tmod l else 0
def opE (p:PK) (x1 x2 x3 y1 y2 y3 y4 y5:Y) (z1:aM) (z2 z3 z4:Y):EW:=
 if x1.tmod 14=6\/x1.tmod 14=7 then ⟨2,opN x2<|M p.ca,0,y1,y2,y3,y4,y5,z1,z2,z3,z4⟩
 else if x1.tmod 14=8 then ⟨3,opN x2<|M p.ca,0,0,0,0,0,0,X,0,0,0⟩
 else if x1.tmod 14=9 then ⟨4,opN x2<|M p.ca,0,0,0,0,0,0,X,0,0,0⟩
 else if x1.tmod 14=10 then ⟨5,0,0,0,0,0,0,0,X,0,0,0⟩
 else if x1.tmod 14=11 then ⟨6,0,0,0,0,0,0,0,X,0,0,0⟩
 else if x1.tmod 14=12 then ⟨7,opN x2<|M p.ca,0,0,0,0,0,0,X,0,0,0⟩
 else if x1.tmod 14=13 then ⟨8,opN x2<|M p.tg,(AA x3).tmod 100,0,0,0,0,0,X,0,0,0⟩
 else ⟨1,0,0,0,0,0,0,0,X,0,0,0⟩
def opT (x1 x3:Y):Y:=if 6<=x1.tmod 14/\x1.tmod 14<=13 then 1 else AA (1+(AA x3).tmod 12)
def aWI:aD->T LV
 | [x_p,.v (.agg ⟨[ag aw x1,ag aw x2,ag .u16 x3,ag J y1,ag J y2,ag J y3,ag J y4,ag J y5,.bool z1,ag J z2,ag J z3,ag J z4]⟩)]=>(match cu x_p with
  |some p=> .tu #[opE p x1 x2 x3 y1 y2 y3 y4 y5 z1 z2 z3 z4,opT x1 x3]
  |none=> .no)
 |_=> .no
def aUe:aN:=[]
def agH (p:PK) (x1 x2 x3 y1 y2 y3 y4 y5:Y) (z1:aM) (z2 z3 z4:Y):letI a:=x1.tmod 14;letI c:=(M p.tg:Y);letI d:=(AA x3).tmod 100;letI e:=(M p.ca:Y);letI f:=AA<|1+((AA x3).tmod 12);letI b:=(AA x2).tmod e;Bw prog AT (aUe) kN Ao f13 [p,.v<|.agg #[ag aw x1,ag aw x2,ag .u16 x3,y1,y2,y3,y4,y5,z1,z2,z3,z4]]=.br (an<|e>0) (.req (e≠0)<|.req ((14:Y)≠0)<|.br (a==6) (.tu #[.agg #[(2:Y),b,(0:Y),y1,y2,y3,y4,y5,z1,z2,z3,z4],(1:Y)])<|.br (a==7) (.tu #[.agg #[(2:Y),b,(0:Y),y1,y2,y3,y4,y5,z1,z2,z3,z4],(1:Y)])<|.br (a==8) (.tu #[.agg #[(3:Y),b,(0:Y),(0:Y),(0:Y),(0:Y),(0:Y),(0:Y),X,(0:Y),(0:Y),(0:Y)],(1:Y)])<|.br (a==9) (.tu #[.agg #[(4:Y),b,(0:Y),(0:Y),(0:Y),(0:Y),(0:Y),(0:Y),X,(0:Y),(0:Y),(0:Y)],(1:Y)])<|.br (a==10) (.tu #[.agg #[(5:Y),(0:Y),(0:Y),(0:Y),(0:Y),(0:Y),(0:Y),(0:Y),X,(0:Y),(0:Y),(0:Y)],(1:Y)])<|.br (a==11) (.tu #[.agg #[(6:Y),(0:Y),(0:Y),(0:Y),(0:Y),(0:Y),(0:Y),(0:Y),X,(0:Y),(0:Y),(0:Y)],(1:Y)])<|.br (a==12) (.tu #[.agg #[(7:Y),b,(0:Y),(0:Y),(0:Y),(0:Y),(0:Y),(0:Y),X,(0:Y),(0:Y),(0:Y)],(1:Y)])<|.br (a==13) (.br (an<|c>0) (.req (c≠0)<|.req ((100:Y)≠0)<|.tu #[.agg #[(8:Y),(AA x2).tmod c,d,(0:Y),(0:Y),(0:Y),(0:Y),(0:Y),X,(0:Y),(0:Y),(0:Y)],(1:Y)])<|.req ((100:Y)≠0)<|.tu #[.agg #[(8:Y),(0:Y),d,(0:Y),(0:Y),(0:Y),(0:Y),(0:Y),X,(0:Y),(0:Y),(0:Y)],(1:Y)])<|.req ((12:Y)≠0)<|.tu #[.agg #[(1:Y),(0:Y),(0:Y),(0:Y),(0:Y),(0:Y),(0:Y),(0:Y),X,(0:Y),(0:Y),(0:Y)],f]) (.req ((14:Y)≠0)<|.br (a==6) (.tu #[.agg #[(2:Y),(0:Y),(0:Y),y1,y2,y3,y4,y5,z1,z2,z3,z4],(1:Y)])<|.br (a==7) (.tu #[.agg #[(2:Y),(0:Y),(0:Y),y1,y2,y3,y4,y5,z1,z2,z3,z4],(1:Y)])<|.br (a==8) (.tu #[.agg #[(3:Y),(0:Y),(0:Y),(0:Y),(0:Y),(0:Y),(0:Y),(0:Y),X,(0:Y),(0:Y),(0:Y)],(1:Y)])<|.br (a==9) (.tu #[.agg #[(4:Y),(0:Y),(0:Y),(0:Y),(0:Y),(0:Y),(0:Y),(0:Y),X,(0:Y),(0:Y),(0:Y)],(1:Y)])<|.br (a==10) (.tu #[.agg #[(5:Y),(0:Y),(0:Y),(0:Y),(0:Y),(0:Y),(0:Y),(0:Y),X,(0:Y),(0:Y),(0:Y)],(1:Y)])<|.br (a==11) (.tu #[.agg #[(6:Y),(0:Y),(0:Y),(0:Y),(0:Y),(0:Y),(0:Y),(0:Y),X,(0:Y),(0:Y),(0:Y)],(1:Y)])<|.br (a==12) (.tu #[.agg #[(7:Y),(0:Y),(0:Y),(0:Y),(0:Y),(0:Y),(0:Y),(0:Y),X,(0:Y),(0:Y),(0:Y)],(1:Y)])<|.br (a==13) (.br (an<|c>0) (.req (c≠0)<|.req ((100:Y)≠0)<|.tu #[.agg #[(8:Y),(AA x2).tmod c,d,(0:Y),(0:Y),(0:Y),(0:Y),(0:Y),X,(0:Y),(0:Y),(0:Y)],(1:Y)])<|.req ((100:Y)≠0)<|.tu #[.agg #[(8:Y),(0:Y),d,(0:Y),(0:Y),(0:Y),(0:Y),(0:Y),X,(0:Y),(0:Y),(0:Y)],(1:Y)])<|.req ((12:Y)≠0)<|.tu #[.agg #[(1:Y),(0:Y),(0:Y),(0:Y),(0:Y),(0:Y),(0:Y),(0:Y),X,(0:Y),(0:Y),(0:Y)],f]):=AV
def jU:=vo (S:=aWI) func13 aUe kN (λargs lv h=>by
 refine ⟨?_⟩;unfold aWI at h;split at h
 ·split at h
  case h_2=>cases h
  rename_i p hp;obtain rfl:=uH hp;simp only [canL,canX];rw [agH];obtain rfl:=h
  repeat' (first|(refine And.intro (λc=>?_) λc=>?_) |(refine And.intro A8 ?_))
  all_goals simp_all [T.all,opE,opT,opN]
  all_goals omega
 ·cases h)
def atM {p:PK}(hJ:JP p) {ev:EW}(h1:ev.ek=1) (h2:p.tk<=1000):Br p ev.ev=0:=by
 rw [(aEW (WH.2 hJ.1.1) h1).1];exact AE A0
def u6 {p:PK}(hJ:JP p) {ev:EW}(he:Br p ev.ev=0):(BN p ev.ev).tk=p.tk\/(ev.ek=1/\(BN p ev.ev).tk=p.tk+1):=by
 have hv:=WH.2 hJ.1.1
 by_cases c1:ev.ek=1
 ·obtain ⟨a,b⟩:=aEW hv c1
  rw [(b<|a.symm.trans he).1];exact .inr ⟨c1,aQ1⟩
 left
 by_cases c2:ev.ek=2
 ·obtain ⟨a,b⟩:=aN7 hv c2;rw [(b<|a.symm.trans he).1];rfl
 by_cases c3:ev.ek=3
 ·obtain ⟨a,b⟩:=aN6 hv c3;rw [(b<|a.symm.trans he).1];rfl
 by_cases c4:ev.ek=4
 ·obtain ⟨a,b⟩:=aN5 hv c4;rw [(b<|a.symm.trans he).1];rfl
 by_cases c5:ev.ek=5
 ·obtain ⟨a,b⟩:=aN4 hv c5;rw [(b<|a.symm.trans he).1];rfl
 by_cases c6:ev.ek=6
 ·obtain ⟨a,b⟩:=aN3 hv c6;rw [(b<|a.symm.trans he).1];rfl
 by_cases c7:ev.ek=7
 ·obtain ⟨a,b⟩:=aN2 hv c7;rw [(b<|a.symm.trans he).1];rfl
 by_cases c8:ev.ek=8
 ·obtain ⟨a,b⟩:=aN1 hv c8;rw [(b<|a.symm.trans he).1];rfl
 ·rw [aN0 hv ⟨c1,c2,c3,c4,c5,c6,c7,c8⟩] at he
  cases he
def ah2 (x1 x3:Y):opT x1 x3<=12:=by
 unfold opT;split
 ·decide
 ·have h1:=yx (AA x3) (show (0:Y)<12 by decide)
  have h2:=Int.lt_tmod_of_pos (AA x3) (show (0:Y)<12 by decide)
  rw [AI];omega
def aLJ:aD->T LV
 | [.v (.agg ⟨[ag J ra,ag J he]⟩)]=> .ok (fuV (ra,he))
 |_=> .no
def R4:aN:=[]
def ahb:Ax:=kI R4<|la 9 func23 aJV<|la 11 func69 TS<|la 6 func69 Qp<|la 3 func52 P4<|la 2 func68 NY<|la 1 func67 MV<|la 2 func76 Lh<|la 9 func23 Cx<|l0 R4
def aym:=vo (S:=aLJ) func39 R4 ahb (λargs lv h=>by
 unfold aLJ at h;split at h
 ·rename_i ra he
  refine Aq (.br ((ra==0)&&(he==0)) (.ok U)<|.br ((if (1:Y)<(if (1000:Y)<ra then 1000 else ra) then if (1000:Y)<ra then 1000 else ra else 1)==ra) (.ok<|.v<|.bool<|(if (0:Y)<(if (1000000000:Y)<he then 1000000000 else he) then if (1000000000:Y)<he then 1000000000 else he else 0)==he)<|.ok X) ?_
  obtain rfl:=h;rw [jR Ad,jR Ad];unfold fuV;refine ⟨λc1=>?_,λc1=>⟨λc2=>?_,λc2=>?_⟩⟩
  ·rw [c1]
   rfl
  ·rw [c1,c2]
   rfl
  ·rw [c1,c2]
   rfl
 ·cases h)
def aVV:aD->T LV
 | [.v (.agg ⟨[ag J ra,ag J he]⟩),.v (ag J h),.v (ag J a)]=> .req ((fuV (ra,he)=U/\0<ra/\ra<=1000/\he<=1000000000)/\(0<=h/\h<=he)/\0<=a/\a<=ra) (.tu #[mx 0<|h+(a*a-ra*ra),(0:Y)])
 |_=> .no
def iu:aN:=[aym]
def aUn:Ax:=kI iu<|l0 iu
def agG (ra he h a:Y):letI b:=h+(AA<|(AA<|a*a)-(AA<|ra*ra));Bw prog AT (iu) aUn Ao f16 [.v<|.agg #[ra,he],h,a]=.br (!(fuV (ra,he))) (.tu #[(0:Y),(1:Y)]) (.br (!((if (0:Y)<(if he<h then he else h) then if he<h then he else h else 0)==h)) (.tu #[(0:Y),(1:Y)])<|.br (!((if (0:Y)<(if (1000:Y)<a then 1000 else a) then if (1000:Y)<a then 1000 else a else 0)==a)) (.tu #[(0:Y),(1:Y)])<|.br (!(ra==0)) (.rv (.v<|ag J h)<|.tu #[ag J (if (0:Y)<(AA b) then AA b else 0),(0:Y)])<|.tu #[h,(0:Y)]):=AV
def jg:=vo (S:=aVV) func16 iu aUn (λargs lv h=>by
 refine ⟨?_⟩;unfold aVV at h;split at h
 ·simp only [canL,canX]
  rw [agG];rename_i ra he m a;obtain ⟨⟨⟨hv,r1,r2,r3⟩,⟨h1,h2⟩,a1,a2⟩,rfl⟩:=h
  have q1:=Xt a1 (show a<=1000 by omega)
  have q2:=Xt (show 0<=ra by omega) r2
  have q3:=F7 a1 a1
  have q4:=F7 (show 0<=ra by omega) (show 0<=ra by omega)
  rw [AI (x:=a*a),AI (x:=ra*ra),AI (x:=a*a-ra*ra),AI (x:=m+(a*a-ra*ra)),jR A0,jR A0,B8.2 ⟨h1,h2⟩,B8.2 ⟨a1,A0⟩];refine ⟨λc=>?_,λ_=>⟨λc=>DP,λ_=>⟨λc=>DP,λ_=>⟨λ_=>⟨rfl,rfl⟩,λc=>?_⟩⟩⟩⟩
  ·rw [hv] at c;cases c
  ·simp at c
   omega
 ·cases h)
def aWO:aD->T LV
 | [.v (ag J n),.v (ag J d)]=> .req (1<=d/\-4611686018427387904<=n/\n<=4611686018427387904) (.ok<|upD n d)
 |_=> .no
def akm:=vo (S:=aWO) func88 R4 kN (λargs lv h=>by
 unfold aWO at h;split at h
 ·rename_i n d
  refine Aq (.req (d≠0)<|.req (d≠0)<|.br (an<|(n.tmod d)>0) (.ok<|AA<|(AA<|n.tdiv d)+1)<|.ok<|AA<|n.tdiv d) ?_;obtain ⟨⟨h1,h2,h3⟩,rfl⟩:=h
  have u1:=aRS (n:=n) (d:=d) (m:=4611686018427387904) h1 A0
  have u2:=aRR (n:=n) (d:=d) (m:=-4611686018427387904) h1 A0
  unfold upD at u1 u2|-;refine ⟨A0,A0,λc=>?_,λc=>?_⟩
  ·have c:0<n.tmod d:=I3
   rw [AD c] at u1 u2|-;rw [AI (x:=n.tdiv d),AI (x:=n.tdiv d+1)];rfl
  ·have c:¬0<n.tmod d:=I3
   rw [AE c] at u1 u2|-;rw [AI (x:=n.tdiv d)];rfl
 ·cases h)
def aWQ:aD->T LV
 | [.v (.agg ⟨[ag J am,ag J mo,ag J ga,ag J lo,ag J de]⟩),.v (ag J t),.v (ag J a)]=> .req (((GJ (am,mo,ga,lo,de)=U/\0<de)/\am<=t/\t<=mo)/\(0<=a/\a<=1000)/\a<=Hb (am,mo,ga,lo,de)) (.tu #[cbT (am,mo,ga,lo,de) t a,(0:Y)])
 |_=> .no
def xO:aN:=[aRN,aRC,akm]
def aha:Ax:=kI xO<|l0 xO
def jW:=vo (S:=aWQ) func17 xO aha (λargs lv h=>by
 unfold aWQ at h;split at h
 ·rename_i am mo ga lo de t a
  refine Aq (letI b:=AA<|(AA<|(AA<|ga*a)*a)-(AA<|(if de<lo then de else lo)*(AA<|t-am));letI d:=(an<|t>=0)&&(an<|t<=1000000000);letI f:=AA<|t+(upD b de);.br (!(GJ (am,mo,ga,lo,de))) (.tu #[(0:Y),(1:Y)])<|.br (! d) (.tu #[(0:Y),(1:Y)])<|.br (!((an<|a>=0)&&(an<|a<=1000))) (.tu #[(0:Y),(1:Y)])<|.br (cbZ (am,mo,ga,lo,de)) (.br (! d) (.tu #[(0:Y),(3:Y)])<|.tu #[t,(0:Y)])<|.rv (.v<|ag J t)<|.rv (.v<|ag J ga)<|.rv (.v<|ag J t)<|.rv (.v<|ag J am)<|.rv (.v<|ag J de)<|.req (1<=de/\-4611686018427387904<=b/\b<=4611686018427387904)<|.br (!((an<|f>=0)&&(an<|f<=1000000000))) (.tu #[(0:Y),(3:Y)])<|.tu #[f,(0:Y)]) ?_
  obtain ⟨⟨⟨⟨hv,hd⟩,t1,t2⟩,⟨a1,a2⟩,a3⟩,rfl⟩:=h
  have hz:=yD (c:=(am,mo,ga,lo,de)) hd
  obtain ⟨b1,b2⟩:=ab5 (c:=(am,mo,ga,lo,de)) hv hd ⟨t1,t2⟩ ⟨a1,a3⟩;obtain ⟨⟨v1,v2,v3⟩,⟨v4,v5⟩,⟨v6,v7⟩,v8,v9⟩:=jQ hv hz;simp only at v1 v2 v3 v4 v5 v6 v7 v8 v9 b1 b2 t1 t2
  have e:cbT (am,mo,ga,lo,de) t a=t+upD (ga*a*a-(if de<lo then de else lo)*(t-am)) de:=by
   unfold cbT;rw [hz];rfl
  rw [e] at b1 b2|-;obtain ⟨⟨s1,s2⟩,s3,s4⟩:=aBp v4 v5 a1 a2
  have l0:0<=(if de<lo then de else lo)/\(if de<lo then de else lo)<=1000:=by split<;>omega
  have s5:(if de<lo then de else lo)*(t-am)<=1000*(t-am):=Gn l0.2 A0
  have s6:0<=(if de<lo then de else lo)*(t-am):=F7 l0.1 A0
  rw [AI (x:=ga*a),AI (x:=ga*a*a),AI (x:=t-am),AI (x:=(if de<lo then de else lo)*(t-am)),AI (x:=ga*a*a-(if de<lo then de else lo)*(t-am))]
  generalize (if de<lo then de else lo)*(t-am)=y at*
  generalize upD (ga*a*a-y) de=z at*;rw [AI (x:=t+z)];refine ⟨λc=>?_,λ_=>⟨λc=>?_,λ_=>⟨λc=>?_,λ_=>⟨λc=>?_,λ_=>⟨rfl,rfl,rfl,rfl,rfl,A0,λc=>?_,λ_=>rfl⟩⟩⟩⟩⟩
  ·rw [hv] at c;cases c
  ·exfalso;simp at c;omega
  ·exfalso;simp at c;omega
  ·rw [hz] at c;cases c
  ·exfalso;simp at c;omega
 ·cases h)
structure JR where
 b:aM
 l2:aB
 (m i:Y)
def aIm:=bN f35 0
def jr (s:JR):T (Rd JR):=
 .br (an<|s.i<s.m) (.ix s.i (M s.l2)<|.br ((an<|(gi s.l2 s.i)<0) ||(an<|(gi s.l2 s.i)>1000)) (.so (.ret) {s with b:=X})<|.nx {s with i:=AA<|s.i+1}) (.so (.exit 0) s)
def U4 (s:JR) (j:Y):aM:=Jd<|gi s.l2 j
def mq (s:JR):Prop:=s.i=0/\0<=s.m/\s.m<=1000/\s.m=(M s.l2:Y)
def YU (s:JR):Prop:=0<=s.i/\s.i<=s.m/\s.m<=1000/\(s.m=(M s.l2:Y))/\∀j:aC,(j:Y)<s.i->U4 s j=U
def vZ (s:JR):aC:=(s.m-s.i).toNat
def aDP (x:Ex) (s s':JR):Prop:=(x=.exit 0/\∀j:aC,(j:Y)<s'.m->U4 s' j=U)\/(x=.ret/\s'.b=X/\∃j:aC,(j:Y)<s'.m/\U4 s' j=X)
def an5:∀s,mq s->YU s:=by
 exact Jq
def ags:Da YU vZ aDP jr:=by
 intro s hI;unfold jr;dsimp only [T.rd,T.rl,T.rv];obtain ⟨h0,h1,h2,h3,h4⟩:=hI;refine AH (λc1=>AH (λc2=>?_) λc2=>?_) λc1=>?_
 ·have c1:s.i<s.m:=AX
  refine .inr ⟨rfl,rfl,s.i.toNat,Aa,?_⟩;rw [Bs A0]
  have hg:U4 s s.i=false:=aQM
  exact hg
 ·have c1:s.i<s.m:=AX
  have hg:U4 s s.i=true:=aQM
  rw [AI (x:=s.i+1)];refine ⟨⟨Aa,Aa,h2,h3,λj hj=>?_⟩,by simp only [vZ];omega⟩
  exact aPI
 ·exact cB
def Ry:AR JR:=⟨0,18,[2,5,6,7],[],λs=>[s.b,.xl A7 s.l2,s.m,s.i],λ_=>[],λv b=>⟨EB v 0,B1 A7 v 1,AL v 2,AL v 3⟩,jr,λs r=> {s with b:=r.b,i:=r.i},λs=>s,λ_ s=>s,[.ret,.exit 0],mq,YU,vZ⟩
abbrev tt:=Ry.run
abbrev gd:=Ry.At
def afn:Rq YU jr:=by
 exact QS
def aTs:Ry.Ok:={}
def aRk:Ry.Pf (aDP):=⟨an5,λs h=>rfl,ags,afn⟩
def asz:SA 0 aIm Ry:=s1 aTs aRk R4 kN
def atf:Fi mq YU aDP gd tt:=AR.fin aTs aRk
def aVh:aD->T LV
 | [.xl (.int J) l]=> .req ((M l:Y)<=1000) (.ok<|D5 (M l) λk=>Jd<|gi l k)
 |_=> .no
def alI:=vm (S:=aVh) func35 R4 kN (L:=(λi=>if i=2 then Ry.lp else Ao i)) (λb hb=>by
 rw [show BC _=[aIm] by kernel_rfl] at hb
 simp only [B6,Bv,Bt] at hb;subst hb;exact asz) (λargs lv h=>by
 unfold aVh at h;split at h
 ·rename_i l
  refine Aq (letI a:=(M l:Y);.req (Ry.q (⟨X,l,a,0⟩:JR))<|.br (Bj (gd (⟨X,l,a,0⟩:JR))<|.ret) (.ok (tt (⟨X,l,a,0⟩:JR)).b)<|.ok U) ?_;obtain ⟨hk,rfl⟩:=h
  have E1:mq (⟨X,l,(M l:Y),0⟩:JR):=⟨rfl,QL _,hk,rfl⟩
  refine ⟨⟨E1,rfl,rfl⟩,?_⟩;obtain ⟨_,_,q⟩:=atf _ E1
  have q:(gd (⟨X,l,(M l:Y),0⟩:JR)=.exit 0/\_)\/(gd (⟨X,l,(M l:Y),0⟩:JR)=.ret/\(tt (⟨X,l,(M l:Y),0⟩:JR)).b=X/\∃j:aC,(j:Y)<(M l:Y)/\Jd (gi l j)=X):=q
  rcases q with ⟨q1,q2⟩ |⟨q1,q2,j,q3,q4⟩
  ·rw [q1,show D5 (M l) (λk=>Jd<|gi l k)=U from DQ.2 q2]
   exact ⟨λc=>DP,λ_=>rfl⟩
  ·rw [q1,q2,Nd j q3 q4]
   exact ⟨λ_=>rfl,λc=>DP⟩
 ·cases h)
structure OF where
 sum:Y
 l2:aB
 (m i:Y)
def aIn:=bN f36 0
def jt (s:OF):T (Rd OF):=
 .br (an<|s.i<s.m) (.ix s.i (M s.l2)<|.nx {s with sum:=AA<|s.sum+(AA<|(gi s.l2 s.i)*(gi s.l2 s.i)),i:=AA<|s.i+1}) (.so (.exit 0) s)
def lT (s:OF):Prop:=s.i=0/\s.sum=0/\(s.m=(M s.l2:Y)/\s.m<=1000)/\∀k:aC,k<M s.l2->-1000<=gi s.l2 k/\gi s.l2 k<=1000
def YV (s:OF):Prop:=(0<=s.i/\s.i<=s.m)/\s.sum=sqN s.l2 s.i.toNat/\(s.m=(M s.l2:Y)/\s.m<=1000)/\∀k:aC,k<M s.l2->-1000<=gi s.l2 k/\gi s.l2 k<=1000
def wb (s:OF):aC:=(s.m-s.i).toNat
def aDS (x:Ex) (s s':OF):Prop:=x=.exit 0/\s'.sum=sqN s'.l2 (M s'.l2)
def an6:∀s,lT s->YV s:=by
 exact zn
def agt:Da YV wb aDS jt:=by
 intro s hI;unfold jt;dsimp only [T.rd,T.rl,T.rv];obtain ⟨⟨h0,h1⟩,h2,⟨h3,h4⟩,h5⟩:=hI;refine AH (λc1=>?_) λc1=>?_
 ·have c1:s.i<s.m:=AX
  have e:(s.i+1).toNat=s.i.toNat+1:=A0
  have g1:=iI h5 s.i.toNat A0
  have g2:=iI h5 (s.i.toNat+1) A0
  simp only [sqN] at g2;rw [Bs h0] at g2
  have g3:((s.i.toNat+1:aC):Y)<=1000:=A0
  have g4:=iI h5 (s.i.toNat+1) A0
  rw [AI (x:=s.i+1),h2,AI (x:=gi s.l2 s.i*gi s.l2 s.i),AI];refine ⟨⟨⟨Aa,Aa⟩,?_,⟨h3,h4⟩,h5⟩,by simp only [wb];omega⟩
  simp only [e,sqN];rw [Bs h0]
 ·have c1:s.m<=s.i:=AX
  refine ⟨rfl,?_⟩;rw [h2,show s.i.toNat=M s.l2 by omega]
def Rz:AR OF:=⟨0,19,[3,6,7,8],[],λs=>[s.sum,.xl A7 s.l2,s.m,s.i],λ_=>[],λv b=>⟨AL v 0,B1 A7 v 1,AL v 2,AL v 3⟩,jt,λs r=> {r with l2:=s.l2,m:=s.m},λs=>s,λ_ s=>s,[.exit 0],lT,YV,wb⟩
abbrev aJk:=Rz.run
abbrev avq:=Rz.At
def afo:Rq YV jt:=by
 intro s hI;refine ⟨λc1=>⟨?_,ak⟩,λ_=>trivial⟩
 ·(obtain ⟨⟨h0,h1⟩,h2,⟨h3,h4⟩,h5⟩:=hI;simp at c1;omega)
def aTt:Rz.Ok:={}
def aRl:Rz.Pf (aDS):=⟨an6,λs h=>rfl,agt,afo⟩
def at6:SA 0 aIn Rz:=s1 aTt aRl R4 kN
def av2:Fi lT YV aDS avq aJk:=AR.fin aTt aRl
def aVi:aD->T LV
 | [.xl (.int J) l]=> .req ((M l:Y)<=1000/\∀k:aC,k<M l->-1000<=gi l k/\gi l k<=1000) (.ok<|sqN l<|M l)
 |_=> .no
def akY:=vm (S:=aVi) func36 R4 kN (L:=(λi=>if i=3 then Rz.lp else Ao i)) (λb hb=>by
 rw [show BC _=[aIn] by kernel_rfl] at hb
 simp only [B6,Bv,Bt] at hb;subst hb;exact at6) (λargs lv h=>by
 unfold aVi at h;split at h
 ·rename_i l
  refine Aq (.req (Rz.q (⟨0,l,(M l:Y),0⟩:OF))<|.ok (aJk (⟨0,l,(M l:Y),0⟩:OF)).sum) ?_;obtain ⟨⟨hk,h2⟩,rfl⟩:=h
  have E1:lT (⟨0,l,(M l:Y),0⟩:OF):=⟨rfl,rfl,⟨rfl,hk⟩,h2⟩
  refine ⟨⟨E1,rfl,rfl⟩,?_⟩;obtain ⟨_,_,q1,q2⟩:=av2 _ E1;exact B0 (λz=>LV.v<|ag J z) q2
 ·cases h)
structure PY where
 (low high b0:Y)
def ju (s:PY):T (Rd PY):=letI a:=AA<|s.low+(AA<|(AA<|s.high-s.low).tdiv 2);.br (an<|s.low<s.high) (.req ((2:Y)≠0)<|.br (an<|(AA<|(AA<|2*a)*a)>=s.b0) (.nx {s with high:=a})<|.nx {s with low:=AA<|a+1})<|.so (.exit 0) s
def lg (s:PY):Prop:=s.low=0/\s.high=1000
def Y9 (s:PY):Prop:=(0<=s.low/\s.low<=s.high/\s.high<=1000)/\(∀a:Y,0<=a->a<s.low->¬s.b0<=2*a*a)/\(s.high=1000\/s.b0<=2*s.high*s.high)
def j4 (s:PY):aC:=(s.high-s.low).toNat
def aDd (x:Ex) (s s':PY):Prop:=x=.exit 0/\s'.low=neM s'.b0 1000
def ama:∀s,lg s->Y9 s:=by
 rintro s ⟨h0,h1⟩
 exact ⟨A0,λa h h2=>A0,.inl h1⟩
def aho:Da Y9 j4 aDd ju:=by
 intro s hI;unfold ju;dsimp only [T.rd,T.rl,T.rv];obtain ⟨⟨h0,h1,h2⟩,h3,h4⟩:=hI
 have em:s.low<s.high->AA (s.low+(AA<|(AA<|s.high-s.low).tdiv 2))=s.low+(s.high-s.low) / 2:=λc=>by
  rw [AI (x:=s.high-s.low),I0 A0,AI (x:=(s.high-s.low) / 2),AI]
 refine AH (λc1=>?_) λc1=>?_
 ·have c1:s.low<s.high:=AX
  rw [em c1]
  have hm1:s.low<=s.low+(s.high-s.low) / 2:=A0
  have hm2:s.low+(s.high-s.low) / 2<s.high:=A0
  generalize s.low+(s.high-s.low) / 2=m at hm1 hm2|-;obtain ⟨⟨b1,b2⟩,b3,b4⟩:=aBp (ga:=2) (m:=m) A0 A0 A0 A0;rw [AI (x:=2*m),AI (x:=2*m*m),AI (x:=m+1)];refine AH (λc2=>?_) λc2=>?_
  ·have c2:s.b0<=2*m*m:=Dl
   exact ⟨⟨⟨Aa,Aa,Aa⟩,h3,.inr c2⟩,by simp only [j4];omega⟩
  ·have c2:¬s.b0<=2*m*m:=Dl
   refine ⟨⟨⟨Aa,Aa,Aa⟩,λa ha hk=>?_,h4⟩,by simp only [j4];omega⟩
   have:=fc (ga:=2) (a:=a) (b:=m) A0 ha aRB
   simp only;omega
 ·have c1:s.high<=s.low:=AX
  refine ⟨rfl,(aUJ (k:=1000) h0 A0 h3 ?_).symm⟩;rw [show s.low=s.high by omega]
  exact h4.elim (λe=> .inl e) .inr
def ZG:AR PY:=⟨1,24,[0,1,2],[],λs=>[s.low,s.high,.fn 38 [.own 0 0]],λs=>[⟨[s.b0],3,.cl,X⟩],λv b=>⟨AL v 0,AL v 1,Am b 0 0⟩,ju,λs r=> {r with b0:=s.b0},λs=>s,λ_ s=>s,[.exit 0],lg,Y9,j4⟩
abbrev tv:=ZG.run
abbrev avQ:=ZG.At
def X3:aN:=[alI,akY]
def ahZ:Ax:=kI X3<|l0 X3
def ag2:Rq Y9 ju:=by
 intro s hI;refine ⟨λc1=>⟨?_,λ_=>trivial,λ_=>trivial⟩,λ_=>trivial⟩
 ·(first|decide|omega)
def aTF:ZG.Ok:={}
def aSh:ZG.Pf (aDd):=⟨ama,λs h=>rfl,aho,ag2⟩
def asV:=s2 (b:=bN f37 0) aTF aSh X3 ahZ
def auw:Fi lg Y9 aDd avQ tv:=AR.fin aTF aSh
def aVq:aD->T LV
 | [.v (ag J a),.v (ag J b),.v (ag J c)]=> .req (neV a b c=U) (.tu #[neM (neW a b c) 1000,(0:Y)])
 |_=> .no
def Wb (a b c:Y):PY:=(⟨0,1000,sqN ([AA<|a-b,AA<|b-c,AA<|c-a])<|M<|[AA<|a-b,AA<|b-c,AA<|c-a]⟩:PY)
def ahY:Ax:=kI X3<|la 1 func37 asV<|l0 X3
def je:=vo (S:=aVq) func15 X3 ahY (λargs lv h=>by
 unfold aVq at h;split at h
 ·rename_i a b c
  refine Aq (letI d:=AA<|a-b;letI f:=AA<|b-c;letI g:=AA<|c-a;.req ((M ([a,b,c]):Y)<=1000)<|.br (!(D5 (M<|[a,b,c]) λk=>Jd<|gi ([a,b,c]) k)) (.tu #[(0:Y),(1:Y)])<|.req ((M ([d,f,g]):Y)<=1000/\∀k:aC,k<M ([d,f,g])->-1000<=gi ([d,f,g]) k/\gi ([d,f,g]) k<=1000)<|.req (ZG.q<|Wb a b c)<|.tu #[(tv<|Wb a b c).low,(0:Y)]) ?_
  obtain ⟨hv,rfl⟩:=h
  have hc:(Jd a&&(Jd b&&Jd c))=true:=hv
  simp only [AY] at hc;obtain ⟨ha,hb,hc⟩:=hc
  have a1:=B8.1 ha
  have b1:=B8.1 hb
  have c1:=B8.1 hc
  have e1:=AI (x:=a-b)
  have e2:=AI (x:=b-c)
  have e3:=AI (x:=c-a)
  have e:(Wb a b c).b0=neW a b c:=by
   show sqN [AA<|a-b,AA<|b-c,AA<|c-a] _=_
   rw [e1,e2,e3];rfl
  have E1:lg (Wb a b c):=⟨rfl,rfl⟩
  rw [e1,e2,e3]
  have rg:D5 (M ([a,b,c]:aB)) (λk=>Jd<|gi [a,b,c] k)=true:=DQ.2 λj hj=>by
   match j,hj with
   |0,_=>exact ha
   |1,_=>exact hb
   |2,_=>exact hc
   |j+3,hj=>simp at hj;omega
  refine ⟨AJ,λq=>?_,λ_=>⟨⟨AJ,λk hk=>?_⟩,⟨E1,rfl,rfl⟩,?_⟩⟩
  ·rw [rg] at q;cases q
  ·match k,hk with
   |0,_=>show -1000<=a-b/\a-b<=1000;omega
   |1,_=>show -1000<=b-c/\b-c<=1000;omega
   |2,_=>show -1000<=c-a/\c-a<=1000;omega
   |j+3,hj=>simp at hj;omega
  ·obtain ⟨_,_,q1,q2⟩:=auw _ E1
   have q3:(tv<|Wb a b c).b0=(Wb a b c).b0:=rfl
   rw [q3,e] at q2;exact B0 (λz=>LV.v<|.tuple #[ag J z,ag J 0]) q2
 ·cases h)
def goQ:aC->QV->QV
 |0,q=>q
 |n+1,q=>goQ n q.tick
def goP:aC->PK->PK
 |0,p=>p
 |n+1,p=>goP n p.BZ
def aI4:∀(n:aC) {p:PK},goP (n+1) p=(goP n p).BZ
 |0,_=>rfl
 |n+1,p=>aI4 n (p:=p.BZ)
def aI3:∀(n:aC) {q:QV},goQ (n+1) q=(goQ n q).tick
 |0,_=>rfl
 |n+1,q=>aI3 n (q:=q.tick)
def aHS {q:QV}(h:q.tick.ok=U):q.ok=true:=by
 have h:q.dec.ok=true:=h
 unfold QV.dec at h;split at h
 ·exact h
 split at h
 ·exact h
 ·exact aJb (s:=(q.p.Gf,q.vl,q.ok)) _ h
def aUb:∀(n:aC) {q:QV},(goQ n q).ok=U->q.ok=U
 |0,_,h=>h
 |n+1,q,h=>aHS<|aUb n (q:=q.tick) h
def aJm:∀(n:aC) {p:PK}{q:QV},RP p q->(goQ n q).ok=U->RP (goP n p) (goQ n q)
 |0,_,_,h,_=>h
 |n+1,_,q,h,hk=>aJm n (aHR h<|aUb n hk).1 hk
def y7:∀(n:aC) {p:PK},JP p->p.tk+n<1000000->JP (goP n p)/\(goP n p).tk=p.tk+n
 |0,p,h,_=>⟨h,by show p.tk=p.tk+0;omega⟩
 |n+1,p,h,ht=>by
  obtain ⟨he,e2,_,_,etk⟩:=fa h A0
  have h2:=h.step he
  rw [e2] at h2;obtain ⟨a1,a2⟩:=y7 n h2 A0;exact ⟨a1,by show (goP n p.BZ).tk=_;omega⟩
def aHP {p:PK}{q:QV}{e:EV}(h:RP p q) (hk:e.ek=2) (hv:Eu q.p=U) (he:q.p.GR e.en e.c e.d=0):Br p e=0/\RP (BN p e) {q with p:=q.p.Nr e.en e.c e.d}:=by
 have e1:Br p e=0:=by
  have:q.p.GR e.en e.c e.d=p.GR e.en e.c e.d:=by rw [h.1];rfl
  unfold Br;rw [<-asD h,hv,AE Ad,AE aAu,AD hk];exact this.symm.trans he
 refine ⟨e1,?_⟩
 have e2:BN p e=p.Nr e.en e.c e.d:=by
  unfold BN;rw [e1,AE Ad,AE aAu,AD hk]
 rw [e2];exact ⟨by simp only;rw [h.1];rfl,h.2⟩
def zC:aJ:=[(av #[102],-1,32,32,(32,100),0,0,0,0,0)]
def zG:aF:=letI a:=((av #[112])++(Utf8.encode 97),((0:Y),((1:Y),((6:Y),((32:Y),((1:Y),((0:Y),(0:Y))))))));letI b:=((av #[112])++(Utf8.encode 98),((0:Y),((1:Y),((6:Y),((32:Y),((1:Y),((0:Y),(0:Y))))))));(((([a])++([b])).drop 0).take<|M ([a])+M ([b]))
def zV (i:Y):EV:=⟨2,i,0,(0,1,32,1000000000,0),bD⟩
def zN:PK:=newP zC bO [] zG [] [100,-100]
def z0:QV:=⟨⟨zC,bO,[],zG,[],0,U,[],0,[],[(0,0),(0,0)],1,[(0,0,0,X),(0,0,0,X)],[(0,0,0,0,0),(0,0,0,0,0)],[([],0,0),([],0,0)],[(1,0,X),(2,0,X)],[(X,0,0,9),(X,0,0,9)],[],[100,-100],[32]⟩,[],U⟩
def z1 (q:QV) (i:Y):QV:={q with p:=q.p.Nr i (0,1,32,1000000000,0) bD}
def ja:HW zC bO [] zG [] [100,-100]=0:=AV
def apa:RP zN z0:=by
 have e2:zN={z0.p with se:=512,fl:=Eb}:=by
  unfold zN newP;rw [ja]
  kernel_rfl
 rw [e2];exact ⟨rfl,rfl,rfl,1019,_,im,rfl⟩
def Tg:Br zN (zV 0)=0/\Br (BN zN<|zV 0) (zV 1)=0/\RP (BN (BN zN<|zV 0)<|zV 1) (z1 (z1 z0 0) 1):=by
 obtain ⟨a1,a2⟩:=aHP (e:=zV 0) apa rfl AV AV;obtain ⟨b1,b2⟩:=aHP (e:=zV 1) (q:=z1 z0 0) a2 rfl AV AV;exact ⟨a1,b1,b2⟩
def aMa:(goQ 60<|z1 (z1 z0 0) 1).ok=U/\(goQ 59<|z1 (z1 z0 0) 1).Fu=[16,16]:=⟨AV,AV⟩
def aky:(goP 59<|BN (BN zN<|zV 0)<|zV 1).Fu=[16,16]:=by
 have h:=aMa.1
 rw [aI3] at h;rw [(aHR (aJm 59 Tg.2.2<|aHS h) h).2];exact aMa.2
def pkB (p:PK):AB:=⟨[.xl Ae p.cs,.xl .str p.os,.xl Ak p.ks,.xl Af p.gs,.xl Al p.bs,.v<|ag J p.tk,.v<|.bool p.up,.xl AO p.ls,.v<|ag J p.se,.xl (.int aw) p.fl,.xl Ag p.ra,.v<|ag J p.nx,.xl B4 p.st,.xl AO p.ca,.xl BB p.mi,.xl BS p.me,.xl Ai p.dm,.xl BM p.lk,.xl A7 p.dr,.xl A7 p.tg],58,.cl,X⟩
def WY:=bN f4 0
def Mg:aN:=[Xh,XM]
def asf:Sound prog AT (.loop WY) (EY prog AT Mg ER 20 2 WY):=MQ (gk Mg) kN.h 20 2 WY
def WX:=bN f4 1
def ase:Sound prog AT (.loop WX) (EY prog AT Mg ER 20 2 WX):=MQ (gk Mg) kN.h 20 2 WX
def zE:Y:=HW zC bO [] zG [] [100,-100]
def zP:PK:=BN (BN zN<|zV 0)<|zV 1
def akz {p:PK}{q:QV}(h:RP p q) (h0:q.p.tk=0):p.tk=0:=by
 have:=B0 PK.tk h.1
 exact this.symm.trans h0
def Xn:JP zP/\zP.tk=0:=by
 have h0:JP zN:=XJ ja
 have h1:=(h0.step Tg.1).step Tg.2.1
 exact ⟨h1,(akz Tg.2.2 rfl)⟩
structure Kh where
 b:aM
 l:aB
 i:Y
 p:PK
def aIh:=bN f4 2
def jm (s:Kh):T (Rd Kh):=
 .br (an<|s.i<60) (.req (JP s.p)<|.br ((Br s.p FL) !=0) (.so (.ret) {s with b:=X})<|.nx {s with l:=D8 s.p FL,i:=AA<|s.i+1,p:=BN s.p FL}) (.so (.exit 4) s)
def mY (s:Kh):Prop:=s.i=0/\s.p=zP
def YM (s:Kh):Prop:=(0<=s.i/\s.i<=60)/\s.p=goP s.i.toNat zP/\(s.i=60->s.l=[16,16])
def vt (s:Kh):aC:=(60-s.i).toNat
def aDH (x:Ex) (s s':Kh):Prop:=x=.exit 4/\s'.l=[16,16]
def am4:∀s,mY s->YM s:=by
 rintro s ⟨h0,h1⟩
 exact ⟨⟨A0,A0⟩,oe,λc=>A0⟩
def azJ:Da YM vt aDH jm:=by
 intro s hI;unfold jm;dsimp only [T.rd,T.rl,T.rv];obtain ⟨⟨h0,h1⟩,h2,h3⟩:=hI;refine AH (λc1=>?_) λc1=>?_
 ·have c1:s.i<60:=AX
  rw [AI (x:=s.i+1)];obtain ⟨hJ,ht⟩:=y7 s.i.toNat Xn.1 (by rw [Xn.2];omega)
  rw [<-h2] at hJ ht;obtain ⟨he,eP,eD,_,_⟩:=fa hJ (by rw [ht,Xn.2];omega)
  refine AH (λc2=>absurd he<|EH.1 c2) λc2=>⟨⟨⟨Aa,Aa⟩,?_,λc=>?_⟩,by simp only [vt];omega⟩
  ·show BN s.p FL=goP (s.i+1).toNat zP
   rw [eP,h2,show (s.i+1).toNat=s.i.toNat+1 by omega,aI4]
  ·show D8 s.p FL=_
   have c:s.i+1=60:=c
   rw [eD,h2,show s.i.toNat=59 by omega]
   exact aky
 ·have c1:(60:Y)<=s.i:=AX
  exact ⟨rfl,h3 A0⟩
def Q0:AR Kh:=⟨0,88,[0,3,9,59],[.pb 9 A7,.ps 3 0 Ae,.ps 3 1 .str,.ps 3 2 Ak,.ps 3 3 Af,.ps 3 4 Al,.ps 3 7 AO,.ps 3 9<|.int aw,.ps 3 10 Ag,.ps 3 12 B4,.ps 3 13 AO,.ps 3 14 BB,.ps 3 15 BS,.ps 3 16 Ai,.ps 3 17 BM,.ps 3 18 A7,.ps 3 19 A7],λs=>[s.b,.own 0 0,.xl A7 s.l,s.i],λs=>[pkB s.p],λv b=>⟨EB v 0,B1 A7 v 2,AL v 3,rQ b 0⟩,jm,λs r=>r,λs=>s,λ_ s=>s,[.ret,.exit 4],mY,YM,vt⟩
abbrev aEf:=Q0.run
abbrev uX:=Q0.At
def az4:Rq YM jm:=by
 intro s hI;refine ⟨λc1=>⟨?_,λ_=>trivial,λ_=>trivial⟩,λ_=>trivial⟩
 ·(obtain ⟨⟨h0,h1⟩,h2,h3⟩:=hI;first|(rw [h2];exact (y7 s.i.toNat Xn.1 (by rw [Xn.2];omega)).1) |omega|exact ⟨rfl,AJ⟩)
def aTj:Q0.Ok:={}
def aS3:Q0.Pf (aDH):=⟨am4,λs h=>rfl,azJ,az4⟩
def asq:SA 0 aIh Q0:=s1 aTj aS3 Mg kN
def atq:Fi mY YM aDH uX aEf:=AR.fin aTj aS3
def aVd:aD->T LV
 | []=> .ok U
 |_=> .no
def agX  :letI a:=((av #[112])++(Utf8.encode 97),((0:Y),((1:Y),((6:Y),((32:Y),((1:Y),((0:Y),(0:Y))))))));letI c:=(aEf (⟨X,([]:aB),(0:Y),zP⟩:Kh));letI d:=((av #[112])++(Utf8.encode 98),((0:Y),((1:Y),((6:Y),((32:Y),((1:Y),((0:Y),(0:Y))))))));letI e:=(M c.l:Y);Bw prog AT Mg kN (λi=>if i=3 then (EY prog AT Mg ER 20 2 WY) else if i=11 then (EY prog AT Mg ER 20 2 WX) else if i=20 then Q0.lp else Ao i) f4 []=.req ((M ([a]):Y)*72<=2^47/\(M ([a]):Y)<2^62) (.rb (M<|[a]) (M<|[d]) 72<|.req (0+(M ([a])+M ([d]))<=M (([a])++([d])))<|.req (M ([(100:Y),(-100:Y)])<=1000)<|.br (zE !=0) (.ok X)<|.req (JP zN)<|.br ((Br zN<|zV 0) !=0) (.ok X)<|.req (JP<|BN zN<|zV 0)<|.br ((Br (BN zN<|zV 0)<|zV 1) !=0) (.ok X)<|.req (Q0.q (⟨X,([]:aB),(0:Y),zP⟩:Kh))<|.br (Bj (uX (⟨X,([]:aB),(0:Y),zP⟩:Kh))<|.ret) (.ok c.b)<|.br (e==2) (.req (0<=(0:Y)/\0<e)<|.br ((gi c.l (0:Y))==16) (.req (0<=(1:Y)/\1<e)<|.ok<|.v<|.bool<|(gi c.l (1:Y))==16)<|.ok X)<|.ok X):=AV
def jd:=vm (S:=aVd) func4 Mg kN (L:=(λi=>if i=3 then (EY prog AT Mg ER 20 2 WY) else if i=11 then (EY prog AT Mg ER 20 2 WX) else if i=20 then Q0.lp else Ao i)) (λb hb=>by
 rw [show BC _=[WY,WX,aIh] by kernel_rfl] at hb
 simp only [B6,Bv,Bt] at hb;rcases hb with rfl|rfl|rfl
 ·exact asf
 ·exact ase
 ·exact asq) (λargs lv h=>by
 refine ⟨?_⟩;unfold aVd at h;split at h
 ·simp only [canL]
  rw [agX];obtain rfl:=h
  have hJ:JP zN:=XJ ja
  have hE:mY (⟨X,([]:aB),0,zP⟩:Kh):=⟨rfl,rfl⟩
  obtain ⟨_,_,q1,q2⟩:=atq _ hE
  have q1:uX (⟨X,([]:aB),0,zP⟩:Kh)=.exit 4:=q1
  have q2:(aEf (⟨X,([]:aB),0,zP⟩:Kh)).l=[16,16]:=q2
  refine ⟨AJ,AJ,AJ,AJ,λc=>absurd ja<|EH.1 c,λ_=>⟨hJ,λc=>absurd Tg.1<|EH.1 c,λ_=>⟨hJ.step Tg.1,λc=>absurd Tg.2.1<|EH.1 c,λ_=>⟨⟨hE,rfl,rfl⟩,λc=>(by rw [q1] at c;cases c),λ_=>?_⟩⟩⟩⟩
  rw [q2];exact ⟨λ_=>⟨Ad,λ_=>⟨Ad,rfl⟩,λc=>DP⟩,λc=>DP⟩
 ·cases h)
def TmO (x:Int×Int×Int×Le×Dm):Prop:=x.1.tmod 14≠12/\x.2.2.2.1.1≠4
def TmE (e:EW):Prop:=e.ek≠7/\e.c1≠4
def ah3 {p:PK}{x1 x2 x3 y1 y2 y3 y4 y5:Y}{z1:aM}{z2 z3 z4:Y}(h1:x1.tmod 14≠12) (h2:y1≠4):TmE (opE p x1 x2 x3 y1 y2 y3 y4 y5 z1 z2 z3 z4):=by
 unfold opE TmE;rw [AE h1]
 repeat' split
 all_goals simp [h2]
def ahl {cs:aJ}{os:aE}{ks:aP}{gs:aF}{bs:aQ}{dr:aB}(h:HW cs os ks gs bs dr=0):FI (newP cs os ks gs bs dr):=by
 have hp:newP cs os ks gs bs dr=_:=AE (by rw [h];decide)
 rw [hp];refine ⟨⟨CV,λj j0 j1=>?_⟩,λl hl=>(by cases hl),λc hc=>by rw [List.eq_of_mem_replicate hc];decide⟩
 have e:BJ (aq (M gs) ((0,0,0,X):St)) j=(0,0,0,X):=by
  unfold BJ;rw [DH,Ss];split<;>rfl
 simp only [e]
 have hc:=NU (by have:=(vd h).1.site;rw [hp] at this;exact this) j0 j1
 unfold G7 chW at hc;simp only [AY,CS,Cl,B8] at hc;exact ⟨Mc.2 ⟨Wu.2 A0,Ad,(by decide:(0:Y)<=5),Ad,(by decide:(0:Y)<=1000000),Ad,by show (0:Y)<=(AG gs j).2.2.2.2.1;omega,λ_=>rfl,λe=>Om⟩,rfl,(by decide:(0:Y)<=12)⟩
def ahk {cs:aJ}{os:aE}{ks:aP}{gs:aF}{bs:aQ}{dr:aB}(h:HW cs os ks gs bs dr=0):LM (newP cs os ks gs bs dr):=by
 have hJ:=XJ h
 have hg:=aUI h
 have hf:=ahl h
 have hx:=ahj h
 have htk:(newP cs os ks gs bs dr).tk=0:=by
  have hp:newP cs os ks gs bs dr=_:=AE (by rw [h];decide)
  rw [hp]
 generalize newP cs os ks gs bs dr=p at*
 have hv:=hJ.1.1
 obtain ⟨k,v1,v2⟩:=hg.vl
 have e:An p.se p.fl=[]:=aNT.2 λx hx'=>by
  have a1:=(v2 x hx').2.1
  have a2:=(hg.v23 x hx').1
  omega
 refine ⟨hf,hg,hx,?_⟩
 have hs:=jj hv
 have hl:M (Bq p.gs)=M p.gs:=Ib
 rw [e];refine Qs hs hv.site (aVy hv) (λk hk=>fe hs A0) (λk hk=>⟨(Ie hs rfl A0 A0).1,?_⟩) hg.kt
 have h0:=fe hs (k:=k) A0
 have e1:gi (Bq p.gs) k=Ce (AG p.gs k):=NQ A0 A0
 have e2:gi (GY (M p.gs) [] p.tk) k=0:=Jx
 rw [Qr A0 A0,e1,e2];rw [e1] at h0;exact oC
def aVb:aD->T LV
 | .agg a::r=>s5 a λcs os ks gs bs=>(match r with
  | []=> .ok (an<|M cs<=40/\M os<=40/\M ks<=40/\M gs<=40/\M bs<=40)
  |_=> .no)
 |_=> .no
def ais:aN:=[]
def alF:=vo (S:=aVb) func12 ais kN (λargs lv h=>by
 unfold aVb at h;split at h
 case h_2=>cases h
 replace h:=Ij h
 obtain ⟨cs,os,ks,gs,bs,rfl,h⟩:=h;split at h
 ·refine Aq (.ok<|.v<|.bool<|(an<|(M cs:Y)<=40)&&((an<|(M os:Y)<=40)&&((an<|(M ks:Y)<=40)&&((an<|(M gs:Y)<=40)&&(an<|(M bs:Y)<=40))))) ?_
  obtain rfl:=h;refine B0 (λz=>LV.v<|.bool z) ?_
  rw [IZ];simp only [AY,Ac];omega
 ·cases h)
def tmB (x:(Int×(Int×(Int×(Le×Dm))))):aM:=!(x.1.tmod 14==12 ||x.2.2.2.1.1==4)
def atL {l:List<|(Int×(Int×(Int×(Le×Dm))))}:l.all tmB=U↔∀x∈l,TmO x:=by
 simp [BO,tmB,TmO]
def aVa:aD->T LV
 | .agg a::r=>s5 a λcs os ks gs bs=>(match r with
  | [.xl (.int J) dr,.xl (.pair (.int aw) (.pair (.int aw) (.pair (.int .u16) (.pair (.pair (.int J) (.pair (.int J) (.pair (.int J) (.pair (.int J) (.int J))))) (.pair .bool (.pair (.int J) (.pair (.int J) (.int J)))))))) l]=> .req (M l<=17592186044416) (.ok<|.v<|.bool<|l.all tmB&&(an (M cs<=40/\M os<=40/\M ks<=40/\M gs<=40/\M bs<=40)&&(an ((M dr:Y)<=40)&&an ((M l:Y)<=40))))
  |_=> .no)
 |_=> .no
structure OB where
 dr:aB
 l:List (Int×(Int×(Int×(Le×Dm))))
 b:aM
 x:List (Int×(Int×(Int×(Le×Dm))))
 (m i:Y)
 cs:aJ
 os:aE
 ks:aP
 gs:aF
 bs:aQ
def aIi:=bN f5 0
def jn (s:OB):T (Rd OB):=
 .br (an<|s.i<s.m) (.ix s.i (M s.x)<|.req ((14:Y)≠0)<|.br ((((gx (e:=.pair (.int aw)<|.pair (.int aw)<|.pair (.int .u16)<|.pair AO Ai) s.x s.i).1.tmod 14)==12) ||((gx (e:=.pair (.int aw)<|.pair (.int aw)<|.pair (.int .u16)<|.pair AO Ai) s.x s.i).2.2.2.1.1==4)) (.so (.ret) {s with b:=X})<|.nx {s with i:=AA<|s.i+1}) (.so (.exit 0) s)
def U2 (s:OB) (j:Y):aM:=tmB<|gx (e:=(.pair (.int aw)<|.pair (.int aw)<|.pair (.int .u16)<|.pair AO Ai)) s.x j
def mf (s:OB):Prop:=s.i=0/\0<=s.m/\s.m<=17592186044416/\s.m=(M s.x:Y)
def YN (s:OB):Prop:=0<=s.i/\s.i<=s.m/\s.m<=17592186044416/\(s.m=(M s.x:Y))/\∀j:aC,(j:Y)<s.i->U2 s j=U
def vS (s:OB):aC:=(s.m-s.i).toNat
def aDI (x:Ex) (s s':OB):Prop:=(x=.exit 0/\∀j:aC,(j:Y)<s'.m->U2 s' j=U)\/(x=.ret/\s'.b=X/\∃j:aC,(j:Y)<s'.m/\U2 s' j=X)
def alQ:∀s,mf s->YN s:=by
 exact Jq
def azO:Da YN vS aDI jn:=by
 intro s hI;unfold jn;dsimp only [T.rd,T.rl,T.rv];obtain ⟨h0,h1,h2,h3,h4⟩:=hI;refine AH (λc1=>AH (λc2=>?_) λc2=>?_) λc1=>?_
 ·have c1:s.i<s.m:=AX
  refine .inr ⟨rfl,rfl,s.i.toNat,Aa,?_⟩;rw [Bs A0]
  have hg:U2 s s.i=false:=aPx
  exact hg
 ·have c1:s.i<s.m:=AX
  have hg:U2 s s.i=true:=aPx
  rw [AI (x:=s.i+1)];refine ⟨⟨Aa,Aa,h2,h3,λj hj=>?_⟩,by simp only [vS];omega⟩
  exact aPI
 ·exact cB
def Ru:AR OB:=⟨0,38,[1,2,3,6,9,10,11],[],λs=>[.xl A7 s.dr,.xl (.pair (.int aw)<|.pair (.int aw)<|.pair (.int .u16)<|.pair AO Ai) s.l,.own 0 0,s.b,.xl (.pair (.int aw)<|.pair (.int aw)<|.pair (.int .u16)<|.pair AO Ai) s.x,s.m,s.i],λs=>[⟨[s.cs,s.os,s.ks,s.gs,s.bs],28,.cl,X⟩],λv b=>⟨B1 A7 v 0,Ar (.pair (.int aw)<|.pair (.int aw)<|.pair (.int .u16)<|.pair AO Ai)<|v.getD 1 .junk,EB v 3,Ar (.pair (.int aw)<|.pair (.int aw)<|.pair (.int .u16)<|.pair AO Ai)<|v.getD 4 .junk,AL v 5,AL v 6,AF Ae b 0 0,AF .str b 0 1,AF Ak b 0 2,AF Af b 0 3,AF Al b 0 4⟩,jn,λs r=> {s with b:=r.b,i:=r.i},λs=>s,λ_ s=>s,[.ret,.exit 0],mf,YN,vS⟩
abbrev tm:=Ru.run
abbrev gX:=Ru.At
def az6:Rq YN jn:=by
 exact za
def aUd:aN:=[alF]
def aTl:Ru.Ok:={}
def aS5:Ru.Pf (aDI):=⟨alQ,λs h=>rfl,azO,az6⟩
def asr:SA 0 aIi Ru:=s1 aTl aS5 aUd kN
def atv:Fi mf YN aDI gX tm:=AR.fin aTl aS5
def dx (cs:aJ) (os:aE) (ks:aP) (gs:aF) (bs:aQ) (dr:aB) (l:List<|Int×(Int×(Int×(Le×Dm)))):OB:=(⟨dr,l,X,l,(M l:Y),0,cs,os,ks,gs,bs⟩:OB)
def jc:=vm (S:=aVa) func5 aUd kN (L:=(λi=>if i=2 then Ru.lp else Ao i)) (λb hb=>by
 rw [show BC _=[aIi] by kernel_rfl] at hb
 simp only [B6,Bv,Bt] at hb;subst hb;exact asr) (λargs lv h=>by
 unfold aVa at h;split at h
 case h_2=>cases h
 replace h:=Ij h
 obtain ⟨cs,os,ks,gs,bs,rfl,h⟩:=h;split at h
 ·rename_i dr l
  refine Aq (letI a:=dx cs os ks gs bs dr l;.req (Ru.q a)<|.br (Bj (gX a)<|.ret) (.ok (tm a).b)<|.ok<|.v<|.bool<|(an<|M cs<=40/\M os<=40/\M ks<=40/\M gs<=40/\M bs<=40)&&((an<|(M dr:Y)<=40)&&(an<|(M l:Y)<=40))) ?_;obtain ⟨hk,rfl⟩:=h
  have E1:mf (dx cs os ks gs bs dr l):=⟨rfl,QL _,by show (M l:Y)<=17592186044416;omega,rfl⟩
  have hl:D5 (M l) (λk=>tmB<|gx (e:=(.pair (.int aw)<|.pair (.int aw)<|.pair (.int .u16)<|.pair AO Ai)) l k)=l.all tmB:=rX (f:=tmB)
  rw [<-hl];refine ⟨⟨E1,rfl,rfl⟩,?_⟩;obtain ⟨_,_,q⟩:=atv _ E1
  have q:(gX (dx cs os ks gs bs dr l)=.exit 0/\_)\/(gX (dx cs os ks gs bs dr l)=.ret/\(tm<|dx cs os ks gs bs dr l).b=X/\∃j:aC,(j:Y)<(M l:Y)/\tmB (gx (e:=(.pair (.int aw)<|.pair (.int aw)<|.pair (.int .u16)<|.pair AO Ai)) l j)=X):=q
  rcases q with ⟨q1,q2⟩ |⟨q1,q2,j,q3,q4⟩
  ·rw [q1,show D5 (M l) (λk=>tmB<|gx (e:=(.pair (.int aw)<|.pair (.int aw)<|.pair (.int .u16)<|.pair AO Ai)) l k)=U from DQ.2 q2]
   exact ⟨λc=>DP,λ_=>rfl⟩
  ·rw [q1,q2,Nd j q3 q4]
   exact ⟨λ_=>rfl,λc=>DP⟩
 ·cases h)
def fN:=lN (bN f3 0) 0
def Kg:aN:=[jd,jc,Xh,XM,jU,UH,je,jg,jW]
def Md:Ax:=kI Kg<|l0 Kg
def asb:Sound prog AT (.loop fN) (EY prog AT Kg Md 20 2 fN):=MQ (gk Kg) Md.h 20 2 fN
structure PQ where
 dr:aB
 l:List (Int×(Int×(Int×(Le×Dm))))
 u:aM
 c2:aJ
 (m i:Y)
 cs:aJ
 os:aE
 ks:aP
 gs:aF
 bs:aQ
 (he te:bC)
def tK:=bN f3 0
def jk (s:PQ):T (Rd PQ):=letI b:=AZ s.c2 s.i;letI c:=M s.te;letI d:=sa1 s.te s.i.toNat b.2.2.2.2.2.1;letI a:=sa2 d s.i.toNat b.2.2.2.2.2.1;letI e:=sa3 a s.i.toNat b.2.2.2.2.2.1;.br (an<|s.i<s.m) (.ix s.i (M s.c2)<|.ik s.i c<|.ix s.i c<|.req (s.i.toNat<M d)<|.ix s.i c<|.req (s.i.toNat<M a)<|.rl s.he<|.re c e<|.nx {s with i:=AA<|s.i+1,te:=e})<|.rl s.he<|.rl s.te<|.so (.exit 0) s
def mU (s:PQ):Prop:=s.i=0/\(s.m=(M s.c2:Y)/\s.m<=1000)/\M s.te=M s.c2/\M s.he=M s.c2
def YI (s:PQ):Prop:=(0<=s.i/\s.i<=s.m)/\((s.m=(M s.c2:Y)/\s.m<=1000)/\M s.te=M s.c2/\M s.he=M s.c2)/\∀k:aC,(k:Y)<s.i->BT s.te k=((AZ s.c2 k).2.2.2.2.2.1,(AZ s.c2 k).2.2.2.2.2.1,(AZ s.c2 k).2.2.2.2.2.1)
def vp (s:PQ):aC:=(s.m-s.i).toNat
def aDF (x:Ex) (s s':PQ):Prop:=x=.exit 0/\M s'.te=M s'.c2/\∀k:aC,k<M s'.c2->BT s'.te k=((AZ s'.c2 k).2.2.2.2.2.1,(AZ s'.c2 k).2.2.2.2.2.1,(AZ s'.c2 k).2.2.2.2.2.1)
def akT:∀s,mU s->YI s:=by
 rintro s ⟨h0,h1⟩
 exact ⟨A0,h1,λk hk=>A0⟩
def ayX:Da YI vp aDF jk:=by
 intro s hI;unfold jk;dsimp only [T.rd,T.rl,T.rv];obtain ⟨⟨h0,h1⟩,⟨⟨h2,h3⟩,h4,h5⟩,h6⟩:=hI;refine AH (λc1=>?_) λc1=>?_
 ·have c1:s.i<s.m:=AX
  rw [AI (x:=s.i+1)];refine ⟨⟨⟨Aa,Aa⟩,⟨⟨h2,h3⟩,by simp only [TT,fU,tj];exact h4,h5⟩,λk hk=>?_⟩,by simp only [vp];omega⟩
  have b:s.i.toNat<M s.te:=A0
  simp only;rw [vF (by rw [fU,TT];exact b),iJ (by rw [TT];exact b),iJ (by rw [TT];exact b),iK b,iK b]
  by_cases e:k=s.i.toNat
  ·subst e
   rw [AD rfl,AD rfl,AD rfl,Bs h0]
  ·have e:=KL e
   rw [AE e,AE e,AE e];exact h6 k aRB
 ·have c1:s.m<=s.i:=AX
  exact ⟨rfl,h4,λk hk=>h6 k A0⟩
def Rr:AR PQ:=⟨0,67,[1,2,3,7,8,32,33,34],[],λs=>[.xl A7 s.dr,.xl (.pair (.int aw)<|.pair (.int aw)<|.pair (.int .u16)<|.pair AO Ai) s.l,.own 0 0,s.u,.own 1 0,s.c2,s.m,s.i],λs=>[⟨[s.cs,s.os,s.ks,s.gs,s.bs],28,.cl,X⟩,⟨[.own 2 0],33,.cl,X⟩,⟨[.os 3 3 0<|M s.he,.os 4 3 0<|M s.te],36,.cl,X⟩,⟨[],43,.vec (.pair A7 Ag) s.he,X⟩,⟨[],43,.vec (.pair A7 Ag) s.te,X⟩],λv b=>⟨B1 A7 v 0,Ar (.pair (.int aw)<|.pair (.int aw)<|.pair (.int .u16)<|.pair AO Ai)<|v.getD 1 .junk,EB v 3,B1 Ae v 5,AL v 6,AL v 7,AF Ae b 0 0,AF .str b 0 1,AF Ak b 0 2,AF Af b 0 3,AF Al b 0 4,Ab (.pair A7 Ag) b 3,Ab (.pair A7 Ag) b 4⟩,jk,λs r=> {s with i:=r.i,te:=r.te},λs=>s,λ_ s=>s,[.exit 0],mU,YI,vp⟩
abbrev gJ:=Rr.run
abbrev avj:=Rr.At
def azX:Rq YI jk:=by
 intro s hI;refine ⟨λc1=>⟨?_,?_,?_,?_,?_,?_,?_,A9,?_,ak⟩,λc1=>⟨A9,A9,ak⟩⟩
 all_goals ((obtain ⟨⟨h0,h1⟩,⟨⟨h2,h3⟩,h4,h5⟩,h6⟩:=hI;simp only [Ac] at c1;first|omega|exact ⟨rfl,by simp only [TT,fU,tj]⟩ |(simp only [TT,fU];omega)))
def aTf:Rr.Ok:={}
def aRz:Rr.Pf (aDF):=⟨akT,λs h=>rfl,ayX,azX⟩
def asc:SA 0 tK Rr:=AR.snd aTf aRz (qo (Γ:=Kg) (K:=Md) (L:=(λi=>if i=9 then (EY prog AT Kg Md 20 2 fN) else Ao i)) (gk Kg) Md.h tK (λb hb=>by
 rw [show BC _=[fN] by kernel_rfl] at hb
 simp only [B6,Bv,Bt] at hb;subst hb;exact asb)) λs=>AV
def atJ:Fi mU YI aDF avj gJ:=AR.fin aTf aRz
structure BY where
 b:aM
 p:PK
 j:Y
 cs:aJ
 os:aE
 ks:aP
 gs:aF
 bs:aQ
 (he te:bC)
 r:PK
 ev:EW
def ue:=bN f9 0
def uwX (s:BY):aW:=Ga s.p.cs s.p.gs<|D8 s.p<|EW.ev s.ev
def EC (s:BY):Cd:=AZ s.p.cs s.j
def Hg (s:BY):Ld:=gx (e:=.pair A7 Ag) (uwX s) s.j
def uwS (s:BY) (he te:aW) (x:Rd BY):T (Rd BY):=.re (M s.he) he<|.re (M s.te) te<|.ok x
def uwR (s:BY) (he te:aW):T (Rd BY):=uwS s he te<|.stop (.ret) {s with b:=X,he:=he,te:=te}
def uwG (s:BY) (f:Ld->Y) (he:aW):Y:=mx 0<|f (BT he s.j.toNat)+(f (Hg s)*f (Hg s)-(EC s).2.2.2.2.1.1*(EC s).2.2.2.2.1.1)
def uwF (s:BY) (he te:aW) (f:Ld->Y) (st:aW->aC->Y->aW) (K:aW->T (Rd BY)):T (Rd BY):=
 .br (an<|(EC s).2.2.2.2.1.1>0) (.ix s.j (M s.he)<|.req (s.j.toNat<he.length) (.req ((fuV (EC s).2.2.2.2.1=U/\0<(EC s).2.2.2.2.1.1/\(EC s).2.2.2.2.1.1<=1000/\(EC s).2.2.2.2.1.2<=1000000000)/\(0<=f (BT he s.j.toNat)/\f (BT he s.j.toNat)<=(EC s).2.2.2.2.1.2)/\0<=f (Hg s)/\f (Hg s)<=(EC s).2.2.2.2.1.1)
  (.br (((0:Y) !=0) ||(an<|uwG s f he>(EC s).2.2.2.2.1.2)) (uwR s he te)<|.ix s.j (M s.he)<|.req (s.j.toNat<he.length)<|K<|st he s.j.toNat<|uwG s f he))) (K he)
def uwH (s:BY) (f:Ld->Y) (te:aW):Y:=cbT (EC s).2.2.2.2.2 (f<|BT te s.j.toNat)<|f<|Hg s
def uwC (s:BY) (he te:aW) (f:Ld->Y) (st:aW->aC->Y->aW) (K:aW->T (Rd BY)):T (Rd BY):=
 .br (an<|(EC s).2.2.2.2.2.2.2.2.2>0) (.ix s.j (M s.te)<|.req (s.j.toNat<M te) (.req (((GJ (EC s).2.2.2.2.2=U/\0<(EC s).2.2.2.2.2.2.2.2.2)/\(EC s).2.2.2.2.2.1<=f (BT te s.j.toNat)/\f (BT te s.j.toNat)<=(EC s).2.2.2.2.2.2.1)/\(0<=f (Hg s)/\f (Hg s)<=1000)/\f (Hg s)<=Hb (EC s).2.2.2.2.2)
  (.br (((0:Y) !=0) ||(an<|uwH s f te>(EC s).2.2.2.2.2.2.1)) (uwR s he te)<|.ix s.j (M s.te)<|.req (s.j.toNat<M te)<|K<|st te s.j.toNat<|uwH s f te))) (K te)
def uwN (s:BY) (h1 t1:aW):T (Rd BY):=
 uwF s h1 t1 (·.2.1) sa2 λh2=>uwC s h2 t1 (·.2.1) sa2 λt2=>uwF s h2 t2 (·.2.2) sa3 λh3=>uwC s h3 t2 (·.2.2) sa3 λt3=>uwS s h3 t3<|.next {s with j:=AA<|s.j+1,he:=h3,te:=t3}
def uwQ (s:BY) (K:aW->aW->T (Rd BY)):T (Rd BY):=uwF s s.he s.te (·.1) sa1 λh1=>uwC s h1 s.te (·.1) sa1 λt1=>K h1 t1
def uwT (s:BY) (K:aW->aW->T (Rd BY)):T (Rd BY):=
 .br (an<|s.j<(M s.p.cs:Y)) (.ix s.j (M s.p.cs)<|.br ((an<|s.j>=(M (uwX s):Y)) ||((an<|s.j>=((M s.he:aC):Y)) ||(an<|s.j>=((M s.te:aC):Y)))) (uwR s s.he s.te)<|.ix s.j (M<|uwX s)<|.ix s.j (M<|uwX s)<|.ix s.j (M<|uwX s) (.req (neV (Hg s).1 (Hg s).2.1 (Hg s).2.2=U)
  (.br (((0:Y) !=0) ||(an<|neM (neW (Hg s).1 (Hg s).2.1 (Hg s).2.2) 1000>(EC s).2.2.2.1)) (uwR s s.he s.te)<|.ix s.j (M<|uwX s)<|uwQ s K))) (uwS s s.he s.te<|.stop (.exit 0) s)
def N2 (s:BY):T (Rd BY):=uwT s<|uwN s
def dX (s:BY):Prop:=s.j=0/\CdB s.p.cs/\LdB s.p.cs (uwX s)/\WB s.p.cs s.he s.te
def QE (s:BY):Prop:=(0<=s.j/\s.j<=(M s.p.cs:Y))/\CdB s.p.cs/\LdB s.p.cs (uwX s)/\WB s.p.cs s.he s.te
def U8 (s:BY):aC:=((M s.p.cs:Y)-s.j).toNat
def pw (x:Ex) (s s':BY):Prop:=x=.exit 0/\WB s'.p.cs s'.he s'.te
def apd:∀s,dX s->QE s:=by
 exact nq
def UwO (s:BY):Prop:=(0<=s.j/\s.j<(M s.p.cs:Y))/\CdB s.p.cs/\LdB s.p.cs (uwX s)/\M s.he=M s.p.cs/\M s.te=M s.p.cs
def Cf (s:BY) (t:T<|Rd BY):Prop:=t.all (λ_=>True)/\DF (λs'=>QE s'/\U8 s'<U8 s) (λx s'=>pw x s s') (t.rd s)
def Cf.br {s:BY}{c:aM}{x y:T<|Rd BY}(h1:c=U->Cf s x) (h2:c=X->Cf s y):Cf s (.br c x y):=
 ⟨⟨λc=>(h1 c).1,λc=>(h2 c).1⟩,AH (λc=>(h1 c).2) λc=>(h2 c).2⟩
def Cf.rq {s:BY}{p:Prop}{x:T<|Rd BY}(h:p) (h1:Cf s x):Cf s (.req p x):=⟨⟨h,h1.1⟩,h1.2⟩
def vN {s:BY}(h:UwO s):F4 s.j (EC s)=U/\TrB 0 (CW<|EC s) (Hg s):=by
 obtain ⟨⟨h0,h1⟩,h2,h3,_⟩:=h
 have a:=h2.2 s.j.toNat A0
 have b:=h3.2 s.j.toNat A0
 rw [Bs h0] at a b;exact ⟨a,b⟩
def vM {s:BY}(h:UwO s) {he te:aW}(hw:WB s.p.cs he te) {f:Ld->Y}{st:aW->aC->Y->aW}(hf:Okf f) (hs:Sg st) {K:aW->T (Rd BY)}(hK:∀he',WB s.p.cs he' te->Cf s (K he')):Cf s (uwF s he te f st K):=by
 obtain ⟨cv,lv⟩:=vN h;obtain ⟨⟨h0,h1⟩,_,_,h4,h5⟩:=h;obtain ⟨⟨w1,w2⟩,w3⟩:=id hw
 have w4:=w3 s.j.toNat A0
 rw [Bs h0] at w4;refine Cf.br (λc1=>?_) λ_=>hK _ hw
 have c1:0<(EC s).2.2.2.2.1.1:=AX
 obtain ⟨v1,v2,v3,v4⟩:=aoQ cv c1
 have l1:=hf _ _ _ lv
 have b1:=hf _ _ _<|w4.1 c1
 obtain ⟨u1,u2⟩:=anC (f:=(EC s).2.2.2.2.1) (h:=f<|BT he s.j.toNat) (a:=f<|Hg s) b1 ⟨l1.1,F9 l1.2 v4⟩;refine Cf.rq ⟨h0,A0⟩<|Cf.rq A0<|Cf.rq ⟨⟨v1,c1,v2,v3⟩,b1,l1.1,F9 l1.2 v4⟩<|Cf.br (λc2=>?_) λ_=>Cf.rq ⟨h0,A0⟩<|Cf.rq A0<|hK _ ?_
 ·exfalso
  have c2:uwG s f he>(EC s).2.2.2.2.1.2:=Dl
  exact absurd c2<|QK.2 u2
 ·exact hw.he (j:=s.j.toNat) A0 hs λq=>aQs
def vO {s:BY}(h:UwO s) {he te:aW}(hw:WB s.p.cs he te) {f:Ld->Y}{st:aW->aC->Y->aW}(hf:Okf f) (hs:Sg st) {K:aW->T (Rd BY)}(hK:∀te',WB s.p.cs he te'->Cf s (K te')):Cf s (uwC s he te f st K):=by
 obtain ⟨cv,lv⟩:=vN h;obtain ⟨⟨h0,h1⟩,_,_,h4,h5⟩:=h;obtain ⟨⟨w1,w2⟩,w3⟩:=id hw
 have w4:=w3 s.j.toNat A0
 rw [Bs h0] at w4;refine Cf.br (λc1=>?_) λ_=>hK _ hw
 have c1:0<(EC s).2.2.2.2.2.2.2.2.2:=AX
 obtain ⟨v1,v2,v3,v4⟩:=aD0 cv
 have l1:=hf _ _ _ lv
 have b1:=hf _ _ _<|w4.2 c1
 obtain ⟨u1,u2⟩:=ab5 (c:=(EC s).2.2.2.2.2) (t:=f<|BT te s.j.toNat) (a:=f<|Hg s) v1 c1 b1 ⟨l1.1,F9 l1.2 v2⟩;refine Cf.rq ⟨h0,A0⟩<|Cf.rq A0<|Cf.rq ⟨⟨⟨v1,c1⟩,b1⟩,⟨l1.1,A0⟩,F9 l1.2 v2⟩<|Cf.br (λc2=>?_) λ_=>Cf.rq ⟨h0,A0⟩<|Cf.rq A0<|hK _ ?_
 ·exfalso
  have c2:uwH s f te>(EC s).2.2.2.2.2.2.1:=Dl
  exact absurd c2<|QK.2 u2
 ·exact hw.te (j:=s.j.toNat) A0 hs λq=>aQs
def ayP {s:BY}(h:UwO s) {h1 t1:aW}(hw:WB s.p.cs h1 t1):Cf s (uwN s h1 t1):=by
 refine vM h hw aNE aaq λh2 a3=>vO h a3 aNE aaq λt2 a4=>vM h a4 aND aap λh3 a5=>vO h a5 aND aap λt3 a6=>?_
 obtain ⟨⟨i0,i1⟩,k1,k2,k3,k4⟩:=h
 have e:=a6.1
 have k5:=k1.1
 rw [AI (x:=s.j+1)];exact Cf.rq ⟨rfl,by rw [k3,e.1]⟩<|Cf.rq ⟨rfl,by rw [k4,e.2]⟩ ⟨ak,⟨⟨Aa,Aa⟩,k1,k2,a6⟩,by simp only [U8];omega⟩
def ayO {s:BY}(h:UwO s) (hw:WB s.p.cs s.he s.te):Cf s (uwQ s<|uwN s):=
 vM h hw aNB aa1 λh1 a1=>vO h a1 aNB aa1 λt1 a2=>ayP h a2
def aXM {s:BY}(hI:QE s):Cf s (N2 s):=by
 obtain ⟨⟨i0,i1⟩,k1,k2,k3⟩:=id hI
 have e:=k3.1
 refine Cf.br (λc1=>?_) λc1=>Cf.rq ⟨rfl,rfl⟩<|Cf.rq ⟨rfl,rfl⟩ ⟨ak,rfl,k3⟩
 have c1:s.j<(M s.p.cs:Y):=AX
 have h:UwO s:=⟨⟨i0,c1⟩,k1,k2,e⟩
 obtain ⟨cv,l1,l2,l3⟩:=vN h;obtain ⟨_,_,v3,v4⟩:=aD0 cv;obtain ⟨n1,n2⟩:=amb l1 l2 l3 v3
 have r:0<=s.j/\s.j<(M (uwX s):Y):=⟨i0,by rw [k2.1];exact c1⟩
 refine Cf.rq ⟨i0,c1⟩<|Cf.br (λc2=>?_) λ_=>Cf.rq r<|Cf.rq r<|Cf.rq r<|Cf.rq n1<|Cf.br (λc3=>?_) λ_=>Cf.rq r<|ayO h k3
 ·exfalso
  simp only [CS,Ac] at c2;omega
 ·exfalso
  simp at c3
  omega
def akv (s:BY) (hI:QE s):DF (λs'=>QE s'/\U8 s'<U8 s) (λx s'=>pw x s s') ((N2 s).rd s):=(aXM hI).2
def D7:AR BY:=⟨12,160,[0,2,6,18,19,20],[],λs=>[.own 2 0,.xl (.pair A7 Ag)<|Ga s.p.cs s.p.gs<|D8 s.p<|EW.ev s.ev,s.b,s.p.cs,.v<|ag J (M s.p.cs:Y),s.j],λs=>[⟨[s.cs,s.os,s.ks,s.gs,s.bs],28,.cl,X⟩,⟨[.own 2 0],33,.cl,X⟩,⟨[.os 3 3 0<|M s.he,.os 4 3 0<|M s.te],36,.cl,X⟩,⟨[],43,.vec (.pair A7 Ag) s.he,X⟩,⟨[],43,.vec (.pair A7 Ag) s.te,X⟩,pkB s.r,pkB s.p,⟨[s.ev.ek,s.ev.en,s.ev.em,s.ev.c1,s.ev.c2,s.ev.c3,s.ev.c4,s.ev.c5,s.ev.d1,s.ev.d2,s.ev.d3,s.ev.d4],79,.cl,X⟩,pkB<|BN s.p<|EW.ev s.ev,pkB s.p,pkB<|BN s.p<|EW.ev s.ev,pkB s.p],λv b=>⟨EB v 2,⟨B1 Ae v 3,AF .str b 6 1,AF Ak b 6 2,AF Af b 6 3,AF Al b 6 4,Am b 6 5,cgB b 6 6,AF AO b 6 7,Am b 6 8,AF (.int aw) b 6 9,AF Ag b 6 10,Am b 6 11,AF B4 b 6 12,AF AO b 6 13,AF BB b 6 14,AF BS b 6 15,AF Ai b 6 16,AF BM b 6 17,AF A7 b 6 18,AF A7 b 6 19⟩,AL v 5,AF Ae b 0 0,AF .str b 0 1,AF Ak b 0 2,AF Af b 0 3,AF Al b 0 4,Ab (.pair A7 Ag) b 3,Ab (.pair A7 Ag) b 4,rQ b 5,rE b 0 7⟩,N2,λs r=> {s with b:=r.b,j:=r.j,he:=r.he,te:=r.te},λs=>s,λ_ s=>s,[.ret,.exit 0],dX,QE,U8⟩
abbrev T8:=D7.run
abbrev XS:=D7.At
def alW (s:BY) (hI:QE s):(N2 s).all (λ_=>True):=(aXM hI).1
def aa3:D7.Ok:={}
def aaX:D7.Pf (pw):=⟨apd,λs h=>rfl,akv,alW⟩
def M0:aH:=[0,2,1,2,2,2,2,1,2,0,2,2,2,1,2,2,0,2,2,2,1,2,2]
def OU:aH:=[0,2,1,2,2,2,2,1,2,0,2,2,2,1,2,2,1]
def SJ:aH:=[0,2,1,2,2,2,2,1,2,1,0,2,2,2,1,2,2]
def ck:aH:=[0,2,1,2,2,2,2,1,2,1,1]
def Vp (s:BY):=Y3 D7.N D7.lv D7.us<|DL prog AT Kg Md (EY prog AT Kg Md 20 2) ue (HO D7.n D7.lv<|D7.A<|D7.rd s)<|D7.B<|D7.rd s
def Vo (t:T<|Rd BY):=t.mp<|rdV D7.n D7.A D7.B
def akt (s:BY):T.at' M0 (Vp s)=(uwN s (sa1 s.he s.j.toNat<|uwG s (·.1) s.he)<|sa1 s.te s.j.toNat<|uwH s (·.1) s.te).mp (rdV D7.n D7.A D7.B):=AV
def aks (s:BY):T.at' OU (T.ct M0<|Vp s)=(uwN s (sa1 s.he s.j.toNat<|uwG s (·.1) s.he) s.te).mp (rdV D7.n D7.A D7.B):=AV
def akr (s:BY):T.at' SJ (T.ct OU<|T.ct M0<|Vp s)=(uwN s s.he<|sa1 s.te s.j.toNat<|uwH s (·.1) s.te).mp (rdV D7.n D7.A D7.B):=AV
def akq (s:BY):T.at' ck (T.ct SJ<|T.ct OU<|T.ct M0<|Vp s)=(uwN s s.he s.te).mp (rdV D7.n D7.A D7.B):=AV
def apc (s:BY):(T.ct ck<|T.ct SJ<|T.ct OU<|T.ct M0<|Vp s)=(uwT s λ_ _=> .no).mp (rdV D7.n D7.A D7.B):=AV
def aku (s:BY):Vp s=Vo (N2 s):=(T.glue (p:=M0) (T.glue (p:=OU) (T.glue (p:=SJ) (T.glue (p:=ck) ((apc s).trans (show _=(T.ct ck<|T.ct SJ<|T.ct OU<|T.ct M0<|Vo<|N2 s) from rfl))<|(akq s).trans (show _=T.at' ck (T.ct SJ<|T.ct OU<|T.ct M0<|Vo<|N2 s) from rfl))<|(akr s).trans (show _=T.at' SJ (T.ct OU<|T.ct M0<|Vo<|N2 s) from rfl))<|(aks s).trans (show _=T.at' OU (T.ct M0<|Vo<|N2 s) from rfl))<|(akt s).trans (show _=T.at' M0 (Vo<|N2 s) from rfl))
def uw:SA 12 ue D7:=AR.snd aa3 aaX (Fp (Γ:=Kg) (K:=Md) (L:=(EY prog AT Kg Md 20 2)) (gk Kg) Md.h ue λb _=>MQ (gk Kg) Md.h 20 2 b) λs=>aku s
def ayN:Fi dX QE pw XS T8:=AR.fin aa3 aaX
structure KG where
 b:aM
 many:Y
 ops:List (Int×(Int×(Int×(Le×Dm))))
 (n i m k:Y)
 cs:aJ
 os:aE
 ks:aP
 gs:aF
 bs:aQ
 (he te:bC)
 (r p:PK)
 ev:EW
def aKd:=lN (bN f6 0) 0
def Jr (s:KG):BY:=(⟨X,s.p,0,s.cs,s.os,s.ks,s.gs,s.bs,s.he,s.te,s.r,s.ev⟩:BY)
def pI (s:KG):T (Rd KG):=letI a:=T8<|Jr s;letI c:=EW.ev s.ev;letI d:=AA<|s.many+1;letI e:=AA<|s.k+1;letI f:=BN s.p c;letI g:=D8 s.p c;.br (an<|s.k<s.m) (.br (s.ev.ek==1) (.br (an<|d>150) (.rl s.he<|.rl s.te<|.so (.exit 2) {s with many:=d})<|.req (JP s.p)<|.br ((Br s.p c) !=0) (.br (s.ev.ek==1) (.rl s.he<|.rl s.te<|.so (.ret) {s with b:=X,many:=d,r:=s.p})<|.rl s.he<|.rl s.te<|.so (.exit 2) {s with many:=d})<|.br (s.p.tk==f.tk) (.br (!U) (.rl s.he<|.rl s.te<|.so (.ret) {s with b:=X,many:=d,r:=s.p})<|.rl s.he<|.rl s.te<|.nx {s with many:=d,k:=e,p:=f})<|.req (B9 s.p.cs s.p.os s.p.ks s.p.gs s.p.bs=U/\(M g=M s.p.gs->∀k:aC,k<M g->0<=gi g k/\gi g k<=80))<|.br ((Gg s.p.gs g)==0) (.rl s.he<|.rl s.te<|.req (D7.q<|Jr s)<|.br (Bj (XS<|Jr s)<|.ret) (.br (! a.b) (.rl a.he<|.rl a.te<|.so (.ret) {s with b:=X,many:=d,he:=a.he,te:=a.te,r:=s.p})<|.rl a.he<|.rl a.te<|.nx {s with many:=d,k:=e,he:=a.he,te:=a.te,p:=f})<|.br (!U) (.rl a.he<|.rl a.te<|.so (.ret) {s with b:=X,many:=d,he:=a.he,te:=a.te,r:=s.p})<|.rl a.he<|.rl a.te<|.nx {s with many:=d,k:=e,he:=a.he,te:=a.te,p:=f})<|.br (!X) (.rl s.he<|.rl s.te<|.so (.ret) {s with b:=X,many:=d,r:=s.p})<|.rl s.he<|.rl s.te<|.nx {s with many:=d,k:=e,p:=f})<|.req (JP s.p)<|.br ((Br s.p c) !=0) (.br (s.ev.ek==1) (.rl s.he<|.rl s.te<|.so (.ret) {s with b:=X,r:=s.p})<|.rl s.he<|.rl s.te<|.so (.exit 2) s)<|.br (s.p.tk==f.tk) (.br (!U) (.rl s.he<|.rl s.te<|.so (.ret) {s with b:=X,r:=s.p})<|.rl s.he<|.rl s.te<|.nx {s with k:=e,p:=f})<|.req (B9 s.p.cs s.p.os s.p.ks s.p.gs s.p.bs=U/\(M g=M s.p.gs->∀k:aC,k<M g->0<=gi g k/\gi g k<=80))<|.br ((Gg s.p.gs g)==0) (.rl s.he<|.rl s.te<|.req (D7.q<|Jr s)<|.br (Bj (XS<|Jr s)<|.ret) (.br (! a.b) (.rl a.he<|.rl a.te<|.so (.ret) {s with b:=X,he:=a.he,te:=a.te,r:=s.p})<|.rl a.he<|.rl a.te<|.nx {s with k:=e,he:=a.he,te:=a.te,p:=f})<|.br (!U) (.rl a.he<|.rl a.te<|.so (.ret) {s with b:=X,he:=a.he,te:=a.te,r:=s.p})<|.rl a.he<|.rl a.te<|.nx {s with k:=e,he:=a.he,te:=a.te,p:=f})<|.br (!X) (.rl s.he<|.rl s.te<|.so (.ret) {s with b:=X,r:=s.p})<|.rl s.he<|.rl s.te<|.nx {s with k:=e,p:=f})<|.rl s.he<|.rl s.te<|.so (.exit 2) s
def dY (s:KG):Prop:=s.k=0/\s.many<=12*s.i/\JP s.p/\LM s.p/\(s.p.tk<=150/\s.p.tk<=s.many/\0<=s.many)/\s.m<=12/\(0<=s.i/\s.i<=1000)/\TmE s.ev/\WB s.p.cs s.he s.te
def QF (s:KG):Prop:=(0<=s.k/\(s.k<=s.m\/s.k=0))/\s.many<=12*s.i+s.k/\JP s.p/\LM s.p/\(s.p.tk<=150/\s.p.tk<=s.many/\0<=s.many)/\s.m<=12/\(0<=s.i/\s.i<=1000)/\TmE s.ev/\WB s.p.cs s.he s.te
def U9 (s:KG):aC:=(s.m-s.k).toNat
def dI (x:Ex) (s s':KG):Prop:=x=.exit 2/\JP s'.p/\LM s'.p/\(s'.p.tk<=150/\s'.p.tk<=s'.many/\0<=s'.many)/\s'.many<=12*s'.i+12/\WB s'.p.cs s'.he s'.te
def apf:∀s,dY s->QF s:=by
 rintro s ⟨h0,h1,h2⟩
 exact zx
def akX {p:PK}{e:EV}(he:Br p e=0) (hk:e.ek=1):BN p e=p.BZ/\D8 p e=p.Fu:=by
 unfold BN D8;rw [AE A0,AD hk,AE A0,AD hk];exact ⟨rfl,rfl⟩
def aBg {s:KG}(hI:QF s) (c4:Br s.p s.ev.ev=0) (c5:(s.p.tk==(BN s.p s.ev.ev).tk)=X):(B9 s.p.cs s.p.os s.p.ks s.p.gs s.p.bs=U/\(M (D8 s.p s.ev.ev)=M s.p.gs->∀k:aC,k<M (D8 s.p s.ev.ev)->0<=gi (D8 s.p s.ev.ev) k/\gi (D8 s.p s.ev.ev) k<=80))/\
  ((Gg s.p.gs<|D8 s.p s.ev.ev)==0)=U/\dX (Jr s)/\XS (Jr s)=.exit 0/\WB (BN s.p s.ev.ev).cs (T8<|Jr s).he (T8<|Jr s).te:=by
 obtain ⟨⟨k0,k1⟩,n1,hJ,hm,⟨t1,t2,t3⟩,m0,⟨i0,i1⟩,ht,hw⟩:=id hI
 have hk:s.ev.ek=1:=(u6 hJ c4).elim (λe=>by rw [e] at c5;simp at c5) λe=>e.1
 have eD:=(akX c4 hk).2
 obtain ⟨d1,d2,d3⟩:=hm.draw hJ A0
 have hs:=hJ.1.1.site
 have hE:dX (Jr s):=⟨rfl,aV4 hs,by show LdB s.p.cs (Ga s.p.cs s.p.gs<|D8 s.p s.ev.ev);rw [eD];exact anq hs d1 d2 d3,hw⟩
 obtain ⟨_,_,q1,q2⟩:=ayN _ hE;refine ⟨?_,?_,hE,q1,WB.oth q2<|aHU hJ.1.1 c4⟩
 ·rw [eD]
  exact ⟨hs,λ_ k hk=>d2 k A0⟩
 ·rw [eD,show Gg s.p.gs s.p.Fu=0 from AD d1]
  rfl
def aXN {s:KG}(hI:QF s) (c1:s.k<s.m) (c4:Br s.p s.ev.ev=0) {mn:Y}(q1:(BN s.p s.ev.ev).tk<=150) (q2:(BN s.p s.ev.ev).tk<=mn) (q3:0<=mn) (q4:mn<=12*s.i+s.k+1) {x1 x2 x3 x4 x5 x6:Rd KG}:DF (λs'=>QF s'/\U9 s'<U9 s) (λx s'=>dI x s s')
  (if (s.p.tk==(BN s.p<|EW.ev s.ev).tk)=U then (if (!U)=U then x1 else .next {s with many:=mn,k:=s.k+1,p:=BN s.p<|EW.ev s.ev}) else (if ((Gg s.p.gs<|D8 s.p<|EW.ev s.ev)==0)=U then (if Bj (XS<|Jr s) .ret=U then (if (!(T8<|Jr s).b)=U then x2 else x3) else (if (!U)=U then x4 else .next {s with many:=mn,k:=s.k+1,he:=(T8<|Jr s).he,te:=(T8<|Jr s).te,p:=BN s.p<|EW.ev s.ev})) else (if (!X)=U then x5 else x6))):=by
 obtain ⟨⟨k0,k1⟩,n1,hJ,hm,⟨t1,t2,t3⟩,m0,⟨i0,i1⟩,ht,hw⟩:=id hI
 have hJ2:=hJ.step c4
 have hm2:=hm.step hJ A0 c4 ht.1 ht.2
 refine AH (λc5=>?_) λc5=>?_
 ·refine AH (λc=>DP) (λ_=>?_)
  exact ⟨⟨⟨Aa,Aa⟩,Aa,hJ2,hm2,⟨q1,q2,q3⟩,m0,⟨i0,i1⟩,ht,WB.oth hw<|aHU hJ.1.1 c4⟩,by simp only [U9];omega⟩
 ·obtain ⟨_,u2,_,u4,u5⟩:=aBg hI c4 c5
  refine AH (λ_=>?_) λc=>absurd (c.symm.trans u2) Ad
  refine AH (λc=>by rw [u4] at c;cases c) λ_=>?_
  refine AH (λc=>DP) λ_=>?_
  exact ⟨⟨⟨Aa,Aa⟩,Aa,hJ2,hm2,⟨q1,q2,q3⟩,m0,⟨i0,i1⟩,ht,u5⟩,by simp only [U9];omega⟩
def akQ:Da QF U9 dI pI:=by
 intro s hI;unfold pI;dsimp only [T.rd,T.rl,T.rv];obtain ⟨⟨k0,k1⟩,n1,hJ,hm,⟨t1,t2,t3⟩,m0,⟨i0,i1⟩,ht,hw⟩:=id hI;rw [AI (x:=s.many+1),AI (x:=s.k+1)];refine AH (λc1=>?_) λc1=>⟨rfl,hJ,hm,⟨t1,t2,t3⟩,by simp only [DI] at c1;omega,hw⟩
 have c1:s.k<s.m:=DJ c1
 refine AH (λc2=>?_) λc2=>?_
 ·have c2:s.ev.ek=1:=eq_of_beq c2
  refine AH (λc3=>⟨rfl,hJ,hm,⟨t1,Aa,Aa⟩,Aa,hw⟩) λc3=>?_
  have c3:¬s.many+1>150:=KI c3
  refine AH (λc4=>absurd (atM hJ c2 A0)<|EH.1 c4) λc4=>?_
  have c4:Br s.p s.ev.ev=0:=Du c4
  have hk:=u6 hJ c4
  exact aXN hI c1 c4 A0 A0 A0 A0
 ·have c2:¬s.ev.ek=1:=CY.1 c2
  refine AH (λc4=>AH (λc5=>absurd (eq_of_beq c5) c2) λ_=>⟨rfl,hJ,hm,⟨t1,t2,t3⟩,A0,hw⟩) λc4=>?_
  have c4:Br s.p s.ev.ev=0:=Du c4
  have hk:=u6 hJ c4
  exact aXN hI c1 c4 A0 A0 t3 A0
def SV:AR KG:=⟨5,75,[3,8,9,10,12,15,29,30,31,41,42],[],λs=>[.fn 7 [.own 1 0],.own 5 0,s.b,.own 6 0,s.many,.own 7 0,.xl (.pair (.int aw)<|.pair (.int aw)<|.pair (.int .u16)<|.pair AO Ai) s.ops,s.n,s.i,s.m,s.k],λs=>[⟨[s.cs,s.os,s.ks,s.gs,s.bs],28,.cl,X⟩,⟨[.own 2 0],33,.cl,X⟩,⟨[.os 3 3 0<|M s.he,.os 4 3 0<|M s.te],36,.cl,X⟩,⟨[],43,.vec (.pair A7 Ag) s.he,X⟩,⟨[],43,.vec (.pair A7 Ag) s.te,X⟩,pkB s.r,pkB s.p,⟨[s.ev.ek,s.ev.en,s.ev.em,s.ev.c1,s.ev.c2,s.ev.c3,s.ev.c4,s.ev.c5,s.ev.d1,s.ev.d2,s.ev.d3,s.ev.d4],79,.cl,X⟩],λv b=>⟨EB v 2,AL v 4,Ar (.pair (.int aw)<|.pair (.int aw)<|.pair (.int .u16)<|.pair AO Ai)<|v.getD 6 .junk,AL v 7,AL v 8,AL v 9,AL v 10,AF Ae b 0 0,AF .str b 0 1,AF Ak b 0 2,AF Af b 0 3,AF Al b 0 4,Ab (.pair A7 Ag) b 3,Ab (.pair A7 Ag) b 4,rQ b 5,rQ b 6,rE b 0 7⟩,pI,λs r=> {s with b:=r.b,many:=r.many,k:=r.k,he:=r.he,te:=r.te,r:=r.r,p:=r.p},λs=>s,λ_ s=>s,[.exit 2,.ret],dY,QF,U9⟩
abbrev qR:=SV.run
abbrev xj:=SV.At
def yA:aN:=[jd,jc,Xh,XM,jU,UH,je,jg,jW]
def ahX:Ax:=kI yA<|la 2 func9 uw<|l0 yA
def alY:Rq QF pI:=by
 intro s hI;refine ⟨λc1=>⟨λc2=>⟨λc3=>⟨A9,A9,ak⟩,λc3=>⟨?_,λc4=>⟨λc5=>⟨A9,A9,ak⟩,λc5=>⟨A9,A9,ak⟩⟩,λc4=>⟨λc6=>⟨λc7=>⟨A9,A9,ak⟩,λc7=>⟨A9,A9,ak⟩⟩,λc6=>⟨?_,λc8=>⟨A9,A9,?_,λc9=>⟨λc10=>⟨A9,A9,ak⟩,λc10=>⟨A9,A9,ak⟩⟩,λc9=>⟨λc11=>⟨A9,A9,ak⟩,λc11=>⟨A9,A9,ak⟩⟩⟩,λc8=>⟨λc12=>⟨A9,A9,ak⟩,λc12=>⟨A9,A9,ak⟩⟩⟩⟩⟩⟩,λc2=>⟨?_,λc13=>⟨λc14=>⟨A9,A9,ak⟩,λc14=>⟨A9,A9,ak⟩⟩,λc13=>⟨λc15=>⟨λc16=>⟨A9,A9,ak⟩,λc16=>⟨A9,A9,ak⟩⟩,λc15=>⟨?_,λc17=>⟨A9,A9,?_,λc18=>⟨λc19=>⟨A9,A9,ak⟩,λc19=>⟨A9,A9,ak⟩⟩,λc18=>⟨λc20=>⟨A9,A9,ak⟩,λc20=>⟨A9,A9,ak⟩⟩⟩,λc17=>⟨λc21=>⟨A9,A9,ak⟩,λc21=>⟨A9,A9,ak⟩⟩⟩⟩⟩⟩,λc1=>⟨A9,A9,ak⟩⟩
 ·(exact hI.2.2.1)
 iterate 2 · (obtain ⟨q1,_,q2,_⟩:=aBg hI (Du c4) c6;first|exact q1|exact ⟨q2,rfl,rfl⟩)
 ·(exact hI.2.2.1)
 iterate 2 · (obtain ⟨q1,_,q2,_⟩:=aBg hI (Du c13) c15;first|exact q1|exact ⟨q2,rfl,rfl⟩)
def aa5:SV.Ok:={}
def aaZ:SV.Pf (dI):=⟨apf,λs h=>rfl,akQ,alY⟩
def azm:SA 5 aKd SV:=s2 aa5 aaZ yA ahX
def ayR:Fi dY QF dI xj qR:=AR.fin aa5 aaZ
structure M9 where
 b:aM
 many:Y
 ops:List (Int×(Int×(Int×(Le×Dm))))
 (n i:Y)
 cs:aJ
 os:aE
 ks:aP
 gs:aF
 bs:aQ
 (he te:bC)
 (r p:PK)
def aKe:=bN f6 0
def Ot (s:M9):KG:=(⟨s.b,s.many,s.ops,s.n,s.i,opT (gx (e:=.pair (.int aw)<|.pair (.int aw)<|.pair (.int .u16)<|.pair AO Ai) s.ops s.i).1 (gx (e:=.pair (.int aw)<|.pair (.int aw)<|.pair (.int .u16)<|.pair AO Ai) s.ops s.i).2.2.1,0,s.cs,s.os,s.ks,s.gs,s.bs,s.he,s.te,s.r,s.p,opE s.p (gx (e:=.pair (.int aw)<|.pair (.int aw)<|.pair (.int .u16)<|.pair AO Ai) s.ops s.i).1 (gx (e:=.pair (.int aw)<|.pair (.int aw)<|.pair (.int .u16)<|.pair AO Ai) s.ops s.i).2.1 (gx (e:=.pair (.int aw)<|.pair (.int aw)<|.pair (.int .u16)<|.pair AO Ai) s.ops s.i).2.2.1 (gx (e:=.pair (.int aw)<|.pair (.int aw)<|.pair (.int .u16)<|.pair AO Ai) s.ops s.i).2.2.2.1.1 (gx (e:=.pair (.int aw)<|.pair (.int aw)<|.pair (.int .u16)<|.pair AO Ai) s.ops s.i).2.2.2.1.2.1 (gx (e:=.pair (.int aw)<|.pair (.int aw)<|.pair (.int .u16)<|.pair AO Ai) s.ops s.i).2.2.2.1.2.2.1 (gx (e:=.pair (.int aw)<|.pair (.int aw)<|.pair (.int .u16)<|.pair AO Ai) s.ops s.i).2.2.2.1.2.2.2.1 (gx (e:=.pair (.int aw)<|.pair (.int aw)<|.pair (.int .u16)<|.pair AO Ai) s.ops s.i).2.2.2.1.2.2.2.2 (gx (e:=.pair (.int aw)<|.pair (.int aw)<|.pair (.int .u16)<|.pair AO Ai) s.ops s.i).2.2.2.2.1 (gx (e:=.pair (.int aw)<|.pair (.int aw)<|.pair (.int .u16)<|.pair AO Ai) s.ops s.i).2.2.2.2.2.1 (gx (e:=.pair (.int aw)<|.pair (.int aw)<|.pair (.int .u16)<|.pair AO Ai) s.ops s.i).2.2.2.2.2.2.1 (gx (e:=.pair (.int aw)<|.pair (.int aw)<|.pair (.int .u16)<|.pair AO Ai) s.ops s.i).2.2.2.2.2.2.2⟩:KG)
def pJ (s:M9):T (Rd M9):=letI a:=qR<|Ot s;.br (an<|s.i<s.n) (.ix s.i (M s.ops)<|.rl s.he<|.rl s.te<|.req (SV.q<|Ot s)<|.br (Bj (xj<|Ot s)<|.exit 2) (.rl a.he<|.rl a.te<|.nx {s with b:=a.b,many:=a.many,i:=AA<|s.i+1,he:=a.he,te:=a.te,r:=a.r,p:=a.p})<|.rl a.he<|.rl a.te<|.so (.ret) {s with b:=a.b,many:=a.many,he:=a.he,te:=a.te,r:=a.r,p:=a.p})<|.rl s.he<|.rl s.te<|.so (.exit 0) s
def qE (s:M9):Prop:=s.i=0/\s.many=0/\JP s.p/\LM s.p/\(s.p.tk<=150/\s.p.tk<=s.many/\0<=s.many)/\(s.n=(M s.ops:Y)/\s.n<=100)/\(∀x∈s.ops,TmO x)/\WB s.p.cs s.he s.te
def Vx (s:M9):Prop:=(0<=s.i/\s.i<=s.n)/\s.many<=12*s.i/\JP s.p/\LM s.p/\(s.p.tk<=150/\s.p.tk<=s.many/\0<=s.many)/\(s.n=(M s.ops:Y)/\s.n<=100)/\(∀x∈s.ops,TmO x)/\WB s.p.cs s.he s.te
def aCW (s:M9):aC:=(s.n-s.i).toNat
def yc (x:Ex) (s s':M9):Prop:=x=.exit 0
def aoz:∀s,qE s->Vx s:=by
 rintro s ⟨h0,h1,h2⟩
 have:=h2.2.2.2.1.1
 exact zx
def aXa {s:M9}(hI:Vx s) (c1:s.i<s.n):dI (xj<|Ot s) (Ot s) (qR<|Ot s)/\dY (Ot s):=by
 obtain ⟨⟨h0,h1⟩,h2,hJ,hm,ht,h3,h4,hw⟩:=id hI
 have h5:=h4 (gx (e:=(.pair (.int aw)<|.pair (.int aw)<|.pair (.int .u16)<|.pair AO Ai)) s.ops s.i) (by unfold gx;rw [Lu A0];exact Gl _)
 have hE:dY (Ot s):=⟨rfl,h2,hJ,hm,ht,ah2 _ _,⟨h0,by show s.i<=1000;omega⟩,ah3 h5.1 h5.2,hw⟩
 obtain ⟨_,_,q⟩:=ayR _ hE;exact ⟨q,hE⟩
def akS:Da Vx aCW yc pJ:=by
 intro s hI;unfold pJ;dsimp only [T.rd,T.rl,T.rv];obtain ⟨⟨h0,h1⟩,h2,hJ,hm,ht,h3,h4,hw⟩:=id hI;refine AH (λc1=>?_) λc1=>rfl
 have c1:s.i<s.n:=AX
 obtain ⟨x1,x2,x3,x4,x5,x6⟩:=(aXa hI c1).1;rw [AI (x:=s.i+1)];refine AH (λc2=>?_) λc2=>?_
 ·have x5:(qR<|Ot s).many<=12*s.i+12:=x5
  exact ⟨⟨⟨Aa,Aa⟩,Aa,x2,x3,x4,h3,h4,x6⟩,by simp only [aCW];omega⟩
 ·rw [x1] at c2
  cases c2
def Vz:AR M9:=⟨5,75,[3,8,9,10,12,29,30,31],[.ps 8 0 Ae,.ps 8 1 .str,.ps 8 2 Ak,.ps 8 3 Af,.ps 8 4 Al,.ps 8 7 AO,.ps 8 9<|.int aw,.ps 8 10 Ag,.ps 8 12 B4,.ps 8 13 AO,.ps 8 14 BB,.ps 8 15 BS,.ps 8 16 Ai,.ps 8 17 BM,.ps 8 18 A7,.ps 8 19 A7],λs=>[.fn 7 [.own 1 0],.own 5 0,s.b,.own 6 0,s.many,.xl (.pair (.int aw)<|.pair (.int aw)<|.pair (.int .u16)<|.pair AO Ai) s.ops,s.n,s.i],λs=>[⟨[s.cs,s.os,s.ks,s.gs,s.bs],28,.cl,X⟩,⟨[.own 2 0],33,.cl,X⟩,⟨[.os 3 3 0<|M s.he,.os 4 3 0<|M s.te],36,.cl,X⟩,⟨[],43,.vec (.pair A7 Ag) s.he,X⟩,⟨[],43,.vec (.pair A7 Ag) s.te,X⟩,pkB s.r,pkB s.p],λv b=>⟨EB v 2,AL v 4,Ar (.pair (.int aw)<|.pair (.int aw)<|.pair (.int .u16)<|.pair AO Ai)<|v.getD 5 .junk,AL v 6,AL v 7,AF Ae b 0 0,AF .str b 0 1,AF Ak b 0 2,AF Af b 0 3,AF Al b 0 4,Ab (.pair A7 Ag) b 3,Ab (.pair A7 Ag) b 4,rQ b 5,rQ b 6⟩,pJ,λs r=> {s with b:=r.b,many:=r.many,i:=r.i,he:=r.he,te:=r.te,r:=r.r,p:=r.p},λs=>s,λ_ s=>s,[.ret,.exit 0],qE,Vx,aCW⟩
abbrev aSA:=Vz.run
abbrev xk:=Vz.At
def alZ:Rq Vx pJ:=by
 intro s hI;refine ⟨λc1=>⟨?_,A9,A9,?_,λc2=>⟨A9,A9,ak⟩,λc2=>⟨A9,A9,ak⟩⟩,λc1=>⟨A9,A9,ak⟩⟩
 all_goals ((obtain ⟨⟨h0,h1⟩,h2,hJ,hm,ht,h3,h4⟩:=id hI;simp only [Ac] at c1;first|omega|exact ⟨(aXa hI c1).2,rfl,rfl⟩))
def ir:aN:=[jd,jc,Xh,XM,jU,UH,je,jg,jW]
def aUm:Ax:=kI ir<|la 2 func9 uw<|l0 ir
def aa6:Vz.Ok:={}
def aac:Vz.Pf (yc):=⟨aoz,λs h=>rfl,akS,alZ⟩
def azn:SA 5 aKe Vz:=AR.snd aa6 aac (Fp (Γ:=ir) (K:=aUm) (L:=(LF (λi=>if i=10 then SV.lp else Ao i))) (gk ir) aUm.h aKe (λb hb=>by
 rw [show BC _=[aKd] by kernel_rfl] at hb
 simp only [B6,Bv,Bt] at hb;subst hb;exact azm)) λs=>AV
def ayW:Fi qE Vx yc xk aSA:=AR.fin aa6 aac
def aVt:aD->T LV
 | .agg a::r=>s5 a λcs os ks gs bs=>(match r with
  | [.xl (.int J) dr,.xl (.pair (.int aw) (.pair (.int aw) (.pair (.int .u16) (.pair (.pair (.int J) (.pair (.int J) (.pair (.int J) (.pair (.int J) (.int J))))) (.pair .bool (.pair (.int J) (.pair (.int J) (.int J)))))))) ops]=> .req (M ops<=17592186044416) (.ok U)
  |_=> .no)
 |_=> .no
def aar:=uS f3 aVt
def qu (cs:aJ) (os:aE) (ks:aP) (gs:aF) (bs:aQ) (dr:aB) (ops:List<|Int×(Int×(Int×(Le×Dm)))):PQ:=letI a:=(aq (M cs:Y).toNat ((0:Y),((0:Y),(0:Y))));(⟨dr,ops,U,cs,(M cs:Y),0,cs,os,ks,gs,bs,a,a⟩:PQ)
def aFI (cs:aJ) (os:aE) (ks:aP) (gs:aF) (bs:aQ) (dr:aB) (ops:List<|Int×(Int×(Int×(Le×Dm)))):M9:=(⟨X,0,ops,(M ops:Y),0,cs,os,ks,gs,bs,aq (M cs:Y).toNat ((0:Y),((0:Y),(0:Y))),(gJ<|qu cs os ks gs bs dr ops).te,⟨([]:aJ),([]:aE),([]:aP),([]:aF),([]:aQ),0,X,([]:aL),0,([]:aB),([]:bw),0,([]:bf),([]:aL),([]:aXZ),([]:aX4),([]:ba),([]:aXP),([]:aB),([]:aB)⟩,newP cs os ks gs bs dr⟩:M9)
def y9:aN:=[jd,jc,Xh,XM,jU,UH,je,jg,jW]
def ahW:Ax:=kI y9<|la 6 func6 azn<|la 2 func9 uw<|l0 y9
def akf:VV 3 aar:=vm func3 y9 ahW (L:=(λi=>if i=6 then Rr.lp else Ao i)) (λb hb=>by
 rw [show BC _=[tK] by kernel_rfl] at hb
 simp only [B6,Bv,Bt] at hb;subst hb;exact asc) (λargs lv h=>by
 unfold aVt at h;split at h
 case h_2=>cases h
 replace h:=Ij h
 obtain ⟨cs,os,ks,gs,bs,rfl,h⟩:=h;split at h
 ·rename_i dr ops
  refine Aq (letI d:=(M cs:Y);letI e:=aFI cs os ks gs bs dr ops;letI f:=qu cs os ks gs bs dr ops;letI a:=(aq d.toNat ((0:Y),((0:Y),(0:Y))));.req (M ops<=17592186044416)<|.br (!(ops.all tmB&&(an (M cs<=40/\M os<=40/\M ks<=40/\M gs<=40/\M bs<=40)&&(an ((M dr:Y)<=40)&&an ((M ops:Y)<=40))))) (.ok U)<|.rm 24 d<|.rm 24 d<|.re d.toNat a<|.re d.toNat a<|.req (Rr.q f)<|.req (M dr<=1000)<|.br ((HW cs os ks gs bs dr) !=0) (.ok<|.v<|.bool<|U&&U)<|.rl a<|.rl (gJ f).te<|.req (Vz.q e)<|.br (Bj (xk e)<|.ret) (.ok<|.v<|.bool<|U&&(aSA e).b)<|.ok<|.v<|.bool<|U&&U) ?_;obtain ⟨h1,rfl⟩:=h;refine ⟨h1,λ_=>rfl,λc1=>?_⟩
  simp only [IW,AY,Ac] at c1;obtain ⟨c2,⟨l1,_⟩,k1,k2⟩:=c1
  have e0:(M cs:Y).toNat=M cs:=C2 _
  have er:(M cs:Y).toNat=M (aq (M cs:Y).toNat ((0:Y),((0:Y),(0:Y)))):=CV.symm
  have hU:mU (qu cs os ks gs bs dr ops):=⟨rfl,⟨rfl,aA8⟩,er.symm.trans e0,er.symm.trans e0⟩
  obtain ⟨_,_,u1,u2,u3⟩:=atJ _ hU;refine ⟨A0,A0,⟨rfl,er⟩,⟨rfl,er⟩,⟨hU,rfl,rfl⟩,A0,λ_=>rfl,λc3=>?_⟩
  have c:=Du c3
  have hp:newP cs os ks gs bs dr=_:=AE oZ
  have hs:=(XJ c).1.1.site
  have htk:(newP cs os ks gs bs dr).tk=0:=by rw [hp]
  have hcs:(newP cs os ks gs bs dr).cs=cs:=by rw [hp]
  rw [hp] at hs
  have hE:qE (aFI cs os ks gs bs dr ops):=⟨rfl,rfl,XJ c,ahk c,(by show (newP cs os ks gs bs dr).tk<=150/\(newP cs os ks gs bs dr).tk<=0/\(0:Y)<=0;omega),⟨rfl,(by show (M ops:Y)<=100;omega)⟩,atL.1 c2,(by
   show WB (newP cs os ks gs bs dr).cs (aq (M cs:Y).toNat ((0:Y),((0:Y),(0:Y)))) (gJ<|qu cs os ks gs bs dr ops).te
   rw [hcs,e0];exact ay6 hs u2 u3)⟩
  obtain ⟨_,_,q⟩:=ayW _ hE
  have q:xk (aFI cs os ks gs bs dr ops)=.exit 0:=q
  refine ⟨A9,A9,⟨hE,rfl,rfl⟩,λc=>?_,λ_=>rfl⟩
  rw [q] at c;cases c
 ·cases h)
end Go.Proofs.YtpdndmobphnjcaaGreatDoor
namespace Go.Sx
open Go Go.RowKit Go.Proofs.YtpdndmobphnjcaaGreatDoor
def mb:Ty->Nat
 | .int k=>k.bits / 8
 | .bool=>1
 | .str=>16
 | .sl _=>24
 | .pair a b=>mb a+mb b
def wfD:(t:Ty)->t.D->Prop
 | .int k,n=>(Lit.int k n).wf=U
 | .bool,_=>True
 | .str,s=>s.size<=maxLen
 | .sl e,l=>(M l<=maxLen/\M l*mb e<=reachBytes)/\∀d,d∈l->wfD e d
 | .pair a b,d=>wfD a d.1/\wfD b d.2
def XI (P:aR):aC->aYg->Bool
 |_,[]=>U
 |o,f::fs=>an (f.offset=o)&&XI P (o+P.cellsOf f.type) fs
def M3 (P:aR):aC->aS->Bool
 |0,_=>X
 |m+1,t=>match P.underlying t with
  |some (.int _) |some .bool|some .string=>an (P.cellsOf t=1)
  |some (.struct fs)=>XI P 0 fs.toList&&an (P.cellsOf t=((fs.toList.map (·.type)).map P.cellsOf).sum)&&fs.toList.all (λf=>M3 P m f.type)
  |some (.array n e)=>an (P.cellsOf t=((aq n e).map P.cellsOf).sum)&&M3 P m e
  |some (.slice e)=>an (P.cellsOf t=1)&&an (1<=P.cellsOf e)&&(Ir P m e).any (λty=>ty.n==P.cellsOf e&&an (mb ty<=P.bytesOf e))&&M3 P m e
  |_=>X
variable {H : Type} {enc : TypeId × Value -> H} {P : Program} {w : World} {base : Nat} {spare : Nat -> Bool} {held : Bool} {β : Nat -> Loc}
def Good (enc:TypeId×Value->H) (P:aR) (w:aO) (base:aC) (spare:aC->aM) (held:aM) (t:aS) (cs:aT):Prop:=∃n x,DataW.trod enc P w base spare held n t cs=ah x/\∀k,k∈x.1.weights P t->k<=reachBytes
def sh {e:aS}{d:DataW H}{k:aC}(hk:k∈d.weights P e):∀ {l:List<|DataW H}{i:aC},l[i]? =ah d->k∈DataW.weightsAll P e l
 | [],_,h=>As
 |x::l,0,h=>by
  simp only [DataW.weightsAll,Bf]
  grind
 |x::l,i+1,h=>by
  simp only [DataW.weightsAll,Bf];exact .inr<|sh hk h
def aGe {t:aS}{d:DataW H}{k:aC}(hk:k∈d.weights P t):∀ {ts:bu}{l:List<|DataW H}{i:aC},ts[i]? =ah t->l[i]? =ah d->k∈DataW.weightsEach P ts l
 | [],_,_,h,_=>As
 |_::_,[],_,_,h=>As
 |u::ts,x::l,0,h1,h2=>by
  simp only [DataW.weightsEach,Bf]
  grind
 |u::ts,x::l,i+1,h1,h2=>by
  simp only [DataW.weightsEach,Bf];exact .inr<|aGe hk h1 h2
def aGf:∀ {ts us:bu}{ds gs:List<|DataW H},M ds=M ts->∀k,k∈DataW.weightsEach P ts ds->k∈DataW.weightsEach P (ts++us) (ds++gs)
 | [],_,[],_,_,_,h=>by simp [DataW.weightsEach] at h
 | [],_,_::_,_,h,_,_=>As
 |_::_,_,[],_,h,_,_=>As
 |t::ts,us,d::ds,gs,h,k,hk=>by
  simp only [DataW.weightsEach,Bf,LP] at hk|-;rcases hk with hk|hk
  ·grind
  ·exact .inr<|aGf A8 k hk
def aFe:∀ {ts:bu}{vs:aT}{ds:List<|DataW H}{ps:aXY},DataW.TrodAll enc P w base spare held ts vs ds ps->M ds=M ts
 | [],[],[],_,_=>rfl
 | [],_::_,_,_,h=>As
 | [],[],_::_,_,h=>As
 |_::_,[],_,_,h=>As
 |_::_,_::_,[],_,h=>As
 |_::_,_::_,_::_,_,h=>by
  obtain ⟨_,_,_,h2,_⟩:=h
  simp [aFe h2]
def RL.append' {Z:aC->Prop}:∀ {l1 l2:aD}{y1 y2:aT},RL β Z w l1 y1->RL β Z w l2 y2->RL β Z w (l1++l2) (y1++y2)
 | [],l2,y1,y2,h1,h2=>by simp only [RL] at h1;subst h1;exact h2
 |x::xs,l2,y1,y2,h1,h2=>by
  obtain ⟨y,zs,rfl,h3,h4⟩:=h1;exact ⟨y,zs++y2,rfl,h3,RL.append' h4 h2⟩
def xI {Z:aC->Prop}:∀(t:Ty) (d:t.D) (cs:aT) (b o:aC),RL β Z w (Bx t d) cs->(∀(j:aC) v,cs[j]? =ah v->w.cell? ⟨b,o+j,aj⟩=ah v)->RD Z w t d b o
 | .int k,d,cs,b,o,h,hc=>by
  exact zi
 | .bool,d,cs,b,o,h,hc=>by
  exact zi
 | .str,d,cs,b,o,h,hc=>by
  exact zi
 | .sl e,d,cs,b,o,h,hc=>by
  obtain ⟨y,zs,rfl,⟨a,cap,rfl,h2,h3⟩,_⟩:=h;simp only [RD];exact ⟨a,cap,hc 0 _ rfl,h2,h3⟩
 | .pair p q,d,cs,b,o,h,hc=>by
  simp only [Bx] at h
  have hl:=RL.length h
  have h1:=h.take_drop 0 p.n
  have h2:RL β Z w ((Bx p d.1++Bx q d.2).drop p.n) (cs.drop p.n):=by
   refine RL.Cm (by simp [hl,KO]) λi z hz=>?_
   rw [FR] at hz|-;exact RL.get _ _ h hz
  have t1:((Bx p d.1++Bx q d.2).drop 0).take p.n=Bx p d.1:=by
   rw [CZ,List.take_append_of_le_length aAa,Dj aAa]
  have t2:(Bx p d.1++Bx q d.2).drop p.n=Bx q d.2:=by
   rw [aNV aAa,FA A8,Ek]
  rw [t1,CZ] at h1;rw [t2] at h2;simp only [RD];refine ⟨xI p d.1 _ b o h1 λj v hv=>?_,xI q d.2 _ b (o+p.n) h2 λj v hv=>?_⟩
  ·exact aPb
  ·rw [FR] at hv
   grind
def tA {Z:aC->Prop}{r:aS->Option Ty}{sz:aS->aC}{Gd:aS->aT->Prop}:∀(ts:bu) (ty:Ty) (cs:aT),Vq r ts=ah ty->
  (∀t∈ts,∀ty c,r t=ah ty->Gd t c->∃d:ty.D,RL β Z w (Bx ty d) c/\wfD ty d)->M cs=(ts.map sz).sum->(∀pre t post,ts=pre++t::post->Gd t ((cs.drop (pre.map sz).sum).take<|sz t))->∃d:ty.D,RL β Z w (Bx ty d) cs/\wfD ty d
 | [],ty,cs,h,_,_,_=>by simp [Vq] at h
 | [t],ty,cs,h,ih,hl,hg=>by
  have:=ih t AJ ty _ h<|hg [] t [] rfl
  have e:(cs.drop (List.map sz []).sum).take (sz t)=cs:=by
   grind
  rw [e] at this;exact this
 | t::u::ts,ty,cs,h,ih,hl,hg=>by
  simp only [Vq] at h;split at h
  ·rename_i a b ha hb
   simp only [Aj] at h;subst h;obtain ⟨d1,a1,a2⟩:=ih t AJ a _ ha<|hg [] t (u::ts) rfl
   obtain ⟨d2,b1,b2⟩:=tA (sz:=sz) (Gd:=Gd) (u::ts) b (cs.drop<|sz t) hb (λt' ht=>ih t' A8) A8 (λpre t' post e=>by
    have:=hg (t::pre) t' post (by rw [e];rfl)
    simpa using this)
   refine ⟨(d1,d2),?_,by simp only [wfD];exact ⟨a2,b2⟩⟩
   have:=RL.append' a1 b1
   simp only [Bx];exact QW
  ·cases h
def uJ:∀(fs:aYg) (o:aC),XI P o fs=U->∀pre f post,fs=pre++f::post->f.offset=o+((pre.map (·.type)).map P.cellsOf).sum
 | [],o,_,pre,f,post,e=>by cases pre<;>cases e
 |g::fs,o,h,[],f,post,e=>by
  simp only [XI,AY,Ac] at h
  grind
 |g::fs,o,h,p::pre,f,post,e=>by
  simp only [XI,AY,Ac] at h;simp only [LP,Hv] at e
  have:=uJ fs _ h.2 pre f post e.2
  grind
def ft {Z:aC->Prop}(hZ:∀b,b<w.heap.size->Z b):∀(m:aC) (t:aS) (ty:Ty),M3 P m t=U->Ir P m t=ah ty->∀cs,Good enc P w base spare held t cs->∃d:ty.D,RL β Z w (Bx ty d) cs/\wfD ty d
 |0,t,_,h,_,_,_=>As
 | m + 1,t,ty,h,hty,cs,⟨n,x,hx,hwt⟩=>by
  simp only [M3] at h;simp only [Ir] at hty;split at h
  ·rename_i k hu
   obtain ⟨z,rfl,_,hw⟩:=DataW.trod_int hu hx;simp only [hu,Aj] at hty;subst hty;exact ⟨z,aAc,hw⟩
  ·rename_i hu
   obtain ⟨z,rfl,_⟩:=DataW.trod_bool hu hx;simp only [hu,Aj] at hty;subst hty;exact ⟨z,aAc,ak⟩
  ·rename_i hu
   obtain ⟨z,rfl,_,hs⟩:=DataW.trod_string hu hx;simp only [hu,Aj] at hty;subst hty;exact ⟨z,aAc,hs⟩
  ·rename_i fs hu
   simp only [AY,Ac,BO] at h;obtain ⟨⟨h1,h2⟩,h3⟩:=h;obtain ⟨xs,n',_,rfl,hl,hxl,hf⟩:=DataW.trod_struct hu hx;simp only [DataW.weights,hu] at hwt;simp only [hu] at hty;refine tA (Gd:=Good enc P w base spare held) (sz:=P.cellsOf) (fs.toList.map (·.type)) ty cs hty (λt' ht ty' c hty' hc=>?_) og λpre t' post e=>?_
   ·obtain ⟨f,hf1,rfl⟩:=FP.1 ht
    exact ft hZ m f.type ty' (h3 f hf1) hty' c hc
   ·obtain ⟨fpre,frest,e1,e2,e3⟩:=List.map_eq_append_iff.1 e
    obtain ⟨f,fpost,rfl,e4,e5⟩:=List.map_eq_cons_iff.1 e3
    have ho:=uJ fs.toList 0 h1 fpre f fpost e1
    have hi:fs[M fpre]? =ah f:=by
     exact aOU
    have hg:=hf _ f hi
    have hlt:M fpre<fs.size:=(Ia.1 hi).1
    rw [ho,F8] at hg;refine ⟨n',xs[M fpre]' A0,?_,λk hk=>?_⟩
    ·rw [<-e2,<-e4,hg,Di]
    ·rw [<-e4] at hk
     exact hwt k<|aGe hk (i:=M fpre) (by rw [e1];simp) aAJ
  ·rename_i n0 e hu
   simp only [AY,Ac] at h;obtain ⟨h2,h3⟩:=h;obtain ⟨xs,n',_,rfl,hl,hxl,hf⟩:=DataW.trod_array hu hx;simp only [DataW.weights,hu] at hwt;simp only [hu] at hty;refine tA (Gd:=Good enc P w base spare held) (sz:=P.cellsOf) (aq n0 e) ty cs hty (λt' ht ty' c hty' hc=>?_) og λpre t' post e'=>?_
   ·rw [(Sp.1 ht).2] at hc hty'
    exact ft hZ m e ty' h3 hty' c hc
   ·obtain ⟨c1,c2,c3⟩:=aNW.1 e'
    have ht':t'=e:=by
     have:t'∈aq n0 e:=by rw [e'];simp
     exact (Sp.1 this).2
    have hlen:M pre<n0:=by
     have:=B0 M e'
     simp at this;omega
    have hg:=hf (M pre) hlen
    refine ⟨n',xs[M pre]' A0,?_,λk hk=>?_⟩
    ·have hs:(pre.map P.cellsOf).sum=M pre*P.cellsOf e:=by rw [c2];simp
     rw [hs,ht',hg,Di]
    ·rw [ht'] at hk
     exact hwt k<|sh hk (i:=M pre) aAJ
  ·rename_i e hu
   simp only [AY,Ac] at h;obtain ⟨⟨⟨h1,h2⟩,h4⟩,h3⟩:=h;simp only [hu,Option.map_eq_some_iff] at hty;obtain ⟨te,hte,rfl⟩:=hty;rw [hte] at h4;simp only [Option.any_some,AY,Ac,Cl] at h4;obtain ⟨h4,h5⟩:=h4;rcases DataW.trod_slice hu hx with ⟨rfl,_⟩ |⟨a,len,cap,elems,rest,n',_,rfl,rfl,hb,hlc,hm,hlen,hel,_,_⟩
   ·refine ⟨([]:List te.D),?_,⟨N9 _,AJ⟩,λd hd=>Va⟩
    simp only [Bx,RL,R]
    grind
   ·simp only [DataW.weights,hu] at hwt
    have hroom:=hwt _<|List.mem_cons_self ..
    have each:∀i,∃d:te.D,i<len->∃c,w.cells? base (a.add<|i*P.cellsOf e) (P.cellsOf e)=ah c/\RL β Z w (Bx te d) c/\wfD te d:=λi=>by
     by_cases hi:i<len
     ·have he:=hel i hi
      rw [Di A0] at he;obtain ⟨c,hc,ht⟩:=Option.bind_eq_some_iff.1 he
      obtain ⟨d,l1,l2⟩:=ft hZ m e te h3 hte c ⟨n',_,ht,λk hk=>hwt k (by
       simp only [B6,Bf];exact .inr<|.inl<|sh hk (i:=i) aAJ)⟩
      exact ⟨d,λ_=>⟨c,hc,l1,l2⟩⟩
     ·exact ⟨te.dflt,λh=>absurd h hi⟩
    have ⟨g,hg⟩:=zT each
    have hlg:M ((au len).map g)=len:=AJ
    refine ⟨(au len).map g,?_,⟨by rw [hlg];omega,by rw [hlg];exact I2 (Nat.mul_le_mul DK h5) hroom⟩,λd hd=>?_⟩
    ·simp only [Bx,RL,R]
     refine ⟨_,[],rfl,⟨ah a,cap,by rw [hlg],by rw [hlg];omega,λhn=>?_⟩,rfl⟩
     rw [hlg] at hn;obtain ⟨c0,hc0,hr0,_⟩:=hg 0 hn;obtain ⟨_,hcl0,hat0⟩:=World.cells?_some hc0
     have hcell0:∃z,w.cell? ((a.add<|0*P.cellsOf e).add 0)=ah z:=by
      grind
     obtain ⟨z0,hz0⟩:=hcell0;obtain ⟨b,off,spot⟩:=a
     have hsp:spot=none:=by
      cases spot with
      |none=>rfl
      |some q=>
       unfold World.cell? at hz0;split at hz0
       ·simp [Addr.add] at hz0
       ·cases hz0
     subst hsp
     have hbl:b<w.heap.size:=by
      simp only [addr_add] at hz0;unfold World.cell? at hz0;split at hz0
      ·rename_i hh;exact (Ia.1 hh).1
      ·cases hz0
     refine ⟨b,off,rfl,hZ b hbl,λi d hd=>?_⟩
     have hi:i<len:=by
      have:=(EI.1 hd).1
      rwa [hlg] at this
     have hdd:d=g i:=by
      rw [Dr,zK hi] at hd
      simpa using hd.symm
     subst hdd;obtain ⟨c,hc,hr,_⟩:=hg i hi;obtain ⟨_,hcl,hat⟩:=World.cells?_some hc;refine xI te (g i) c b _ hr λj v hv=>?_
     have hj:j<P.cellsOf e:=by
      have:=(EI.1 hv).1
      omega
     have:=hat j hj
     rw [hv] at this;rw [h4]
     simpa [addr_add,Hw] using this
    ·obtain ⟨i,hi,rfl⟩:=FP.1 hd
     obtain ⟨_,_,_,hw⟩:=hg i<|by simpa using hi
     exact hw
  ·cases h
def KH (P:aR) (m:aC) (t:aS) (l:aD):Prop:=∃(ty:Ty) (d:ty.D),Ir P m t=ah ty/\l=Bx ty d/\wfD ty d
def vD {P:aR}{m:aC}{t:aS}{l:aD}{ty:Ty}(ht:Ir P m t=ah ty) (h:KH P m t l):∃d:ty.D,l=Bx ty d/\wfD ty d:=by
 obtain ⟨ty',d,h1,h2,h3⟩:=h
 grind
def aqh {Z:aC->Prop}(hZ:∀b,b<w.heap.size->Z b) (m:aC) (t:aS) (hs:M3 P m t=U) (ht:(Ir P m t).isSome=U) (cs:aT) (hg:Good enc P w base spare held t cs):∃l,RL β Z w l cs/\AU 0 l/\KH P m t l:=by
 obtain ⟨ty,hty⟩:=Zu.1 ht;obtain ⟨d,h1,h2⟩:=ft (β:=β) hZ m t ty hs hty cs hg;exact ⟨Bx ty d,h1,Na 0 ty d,ty,d,hty,rfl,h2⟩
end Go.Sx
namespace Go.Sx
open Go Go.RowKit Go.Proofs.YtpdndmobphnjcaaGreatDoor Go.ChangeShapes Go.WideShapes
variable {H : Type} {enc : TypeId × Value -> H} {P : Program} {β : Nat -> Loc} {Z : Nat -> Prop}
def adA (hl:laidOutB P=U) {W W':aO}(hb:Below W.heap.size W W'):∀(ts:bu) (vs:aT) (ds:List<|DataW H) (ps:aXY),ts.all (λt=>P.readableRec t&&an (t<P.types.size))=U->
  DataW.TrodAll enc P W 0 (λ_=>U) U ts vs ds ps->(∀x∈ps,x.block<W.heap.size)->DataW.TrodAll enc P W' 0 (λb=>an<|b<W.heap.size) U ts vs ds ps
 | [],vs,ds,ps,_,h,_=>by
  cases vs<;>cases ds<;>first|exact h|exact h.elim
 | t::ts,vs,ds,ps,hr,h,hlt=>by
  cases vs with
  |nil=>cases ds<;>exact h.elim
  | cons v vs=>
   cases ds with
   |nil=>exact h.elim
   |cons d ds=>
    obtain ⟨p,q,h1,h2,rfl⟩:=h;simp only [J2,AY,Ac] at hr;refine ⟨p,q,Below.trod hl hr.1.1 hr.1.2 h1 hb λx hx=>hlt x A8,?_,rfl⟩
    exact adA hl hb ts vs ds q A8 h2 λx hx=>hlt x A8
def arK {fn:aXX}{s:ChangeSpec}{tb:aS}{apart:aM}{W W':aO}{args:aX}{ds gs:List<|DataW H}{before:aXY}
  (hl:laidOutB P=U) (hr:fn.params.toList.all (λt=>P.readableRec t&&an (t<P.types.size))=U) (hres:fn.resultTypes=#[tb]) (hb:P.underlying tb=ah .bool) (hvars:s.vars=[])
  (hfn:(s.fn H ds).results=[.lit<|.bool U]/\(s.fn H ds).args=ds/\(s.fn H ds).vars=[])
  (hW:DataW.Whole enc P fn.params.toList s.vars apart W args.toList ds gs before) (hB:Below W.heap.size W W'):s.post enc P fn apart U X X W args (.bool U) W':=by
 have hW':=hW
 obtain ⟨p,q,hA,hV,rfl,hfz,hnd⟩:=hW
 have hg:gs=[]/\q=[]:=by
  rw [hvars] at hV;cases gs with
  |nil=>exact ⟨rfl,hV⟩
  |cons g r=>exact hV.elim
 obtain ⟨rfl,rfl⟩:=hg
 have hlt:∀x∈p,x.block<W.heap.size:=λx hx=>hW'.lt x A8
 refine ⟨ds,[],p++[],[],p,[],hW',?_,?_,?_,hB.frame _,λh=>As⟩
 ·rw [Gm,hfn.1,hres]
  exact trodAll_mk1<|shut_bool hb U
 ·rw [Gm,hfn.2.1]
  exact adA hl hB _ _ _ _ hr hA hlt
 ·rw [Gm,hfn.2.2,hvars]
  rfl
def pLV (P:aR) (t:aS) (l:aD):LV:=
 match P.underlying t with
 |some (.struct _)=>K4 l
 |some (.array _ _)=> .junk
 |_=>match l with
  | [x]=>x
  |_=> .junk
def cell_of {w:aO}{b0:aC}{r:Reach}{m:aC}{t:aS}(hs:M3 P m t=U) {v:aV}(hv:Value.okWide P w r b0 t v) (h1:∀fs,P.underlying t=ah (.struct fs)->False) (h2:∀n e,P.underlying t=ah (.array n e)->False):v.cells.toList=[v]:=by
 cases m with
 |zero=>cases hs
 | succ m=>
  simp only [M3] at hs;split at hs
  ·rename_i k hu
   obtain ⟨n,rfl⟩:=okWide_int hu hv;rfl
  ·rename_i hu
   obtain ⟨n,rfl⟩:=okWide_bool hu hv;rfl
  ·rename_i hu
   obtain ⟨n,rfl⟩:=okWide_string hu hv;rfl
  ·rename_i fs hu
   grind
  ·rename_i n e hu
   grind
  ·rename_i e hu
   obtain ⟨a,l,c,rfl⟩:=okWide_slice hu hv;rfl
  ·cases hs
def aeX {w:aO}{base b0:aC}{spare:aC->aM}{held:aM}{r:Reach}(hZ:∀b,b<w.heap.size->Z b) {m:aC}{t:aS}(hs:M3 P m t=U) (ht:(Ir P m t).isSome=U) {v:aV}{d:DataW H}{p:aXY}(hv:Value.okWide P w r b0 t v) (h:DataW.Trod enc P w base spare held t v d p) (hwt:∀k,k∈d.weights P t->k<=reachBytes):
  ∃l,okV 0 (pLV P t l)/\R β Z w (pLV P t l) v/\KH P m t l:=by
 obtain ⟨fuel,hf⟩:=h;obtain ⟨l,h1,h2,h3⟩:=aqh (β:=β) hZ m t hs ht v.cells.toList ⟨fuel,_,hf,hwt⟩;refine ⟨l,?_,?_,h3⟩
 ·unfold pLV
  split
  ·exact Ql h2
  ·trivial
  ·split
   ·exact h2.1
   ·trivial
 ·unfold pLV
  split
  ·rename_i fs hu
   obtain ⟨cs,rfl,_⟩:=okWide_struct hu hv;exact WT h1
  ·exact E4
  ·split
   ·rename_i x
    obtain ⟨y,zs,e1,e2,rfl⟩:=h1
    have hc:=cell_of hs hv A8 A8
    grind
   ·exact E4
def SL (P:aR):bu->aYf->List LV
 |t::ts,l::ls=>pLV P t l::SL P ts ls
 |_,_=>[]
def XR (P:aR) (m:aC):bu->aYf->Prop
 | [],ls=>ls=[]
 |t::ts,ls=>∃l r,ls=l::r/\KH P m t l/\XR P m ts r
def aFV {w:aO}{base b0:aC}{spare:aC->aM}{held:aM}{r:Reach}(hZ:∀b,b<w.heap.size->Z b) {m:aC}:∀(ts:bu) (vs:aT) (ds:List<|DataW H) (ps:aXY),ts.all (λt=>M3 P m t&&(Ir P m t).isSome)=U->
  (∀(j:aC) t v,ts[j]? =ah t->vs[j]? =ah v->Value.okWide P w r b0 t v)->DataW.TrodAll enc P w base spare held ts vs ds ps->(∀k,k∈DataW.weightsEach P ts ds->k<=reachBytes)->∃ls,AU 0 (SL P ts ls)/\RL β Z w (SL P ts ls) vs/\XR P m ts ls
 | [],vs,ds,ps,_,_,h,_=>by
  cases vs with
  |nil=>exact ⟨[],ak,by simp [SL,RL],rfl⟩
  |cons _ _=>cases ds<;>exact h.elim
 | t::ts,vs,ds,ps,hs,hv,h,hwt=>by
  cases vs with
  |nil=>cases ds<;>exact h.elim
  | cons v vs=>
   cases ds with
   |nil=>exact h.elim
   |cons d ds=>
    obtain ⟨p,q,h1,h2,rfl⟩:=h;simp only [J2,AY] at hs;simp only [DataW.weightsEach,Bf] at hwt;obtain ⟨l,a1,a2,a3⟩:=aeX (β:=β) hZ hs.1.1 hs.1.2 (hv 0 t v rfl rfl) h1 λk hk=>hwt k<|.inl hk
    obtain ⟨ls,b1,b2,b3⟩:=aFV hZ ts vs ds q hs.2 (λj t' v' e1 e2=>hv (j+1) t' v' A8 A8) h2 λk hk=>hwt k<|.inr hk
    exact ⟨l::ls,⟨a1,b1⟩,⟨v,vs,rfl,a2,b2⟩,l,ls,rfl,a3,b3⟩
def ads {G:BA}{f:bn}{fn:aXX}{S:aD->T LV}{s:ChangeSpec}{tb:aS}{apart:aM}{m:aC}{W:aO}{base:aC}{args:aX}{ds gs:List<|DataW H}{before:aXY}
  (hv:Valid P G f S) (hl:laidOutB P=U) (hr:fn.params.toList.all (λt=>P.readableRec t&&an (t<P.types.size))=U) (hres:fn.resultTypes=#[tb]) (hb:P.underlying tb=ah .bool) (hvars:s.vars=[])
  (hfn:(s.fn H ds).results=[.lit<|.bool U]/\(s.fn H ds).args=ds/\(s.fn H ds).vars=[]) (hs:fn.params.toList.all (λt=>M3 P m t&&(Ir P m t).isSome)=U)
  (hS:∀ls,XR P m fn.params.toList ls->(S<|SL P fn.params.toList ls).all (λx=>x=.v (.bool U)))
  (hg:QI G (λb=>b<W.heap.size) W)
  (hval:∀(j:aC) t v,fn.params[j]? =ah t->args[j]? =ah v->Value.okWide P W .any base t v)
  (hW:DataW.Whole enc P fn.params.toList s.vars apart W args.toList ds gs before) {us:bu} (hz:(DataW.weightsEach P (fn.params.toList++us)<|ds++gs).all (·<=reachBytes)=U):
  Calls P f args W λe W'=>∃v,e=.returned v/\s.post enc P fn apart U X X W args v W':=by
 have hA:∃p,DataW.TrodAll enc P W 0 (λ_=>U) U fn.params.toList args.toList ds p:=by
  obtain ⟨p,q,hA,_⟩:=hW
  grind
 obtain ⟨p,hA⟩:=hA;obtain ⟨ls,h1,h2,h3⟩:=aFV (β:=β0) (Z:=λb=>b<W.heap.size) (λ_ h=>h) fn.params.toList args.toList ds p hs (λj t v e1 e2=>hval j t v A8 A8) hA λk hk=>DJ<|BO.1 hz k<|aGf (aFe hA) k hk
 refine (hv _ args W _ _ (λ_ h=>h) hg h1 h2<|hS ls h3).mono λe W' ⟨hB,v,he,_,hR⟩=>⟨v,he,?_⟩
 rw [hR];exact arK hl hr hres hb hvars hfn hW hB
end Go.Sx
namespace Go.Sx
open Go Go.RowKit Go.Proofs.YtpdndmobphnjcaaGreatDoor
variable {H : Type} {enc : TypeId × Value -> H} {P : Program} {w : World} {base : Nat} {spare : Nat -> Bool} {held : Bool}
def Pj {H:Type}:aC->DataW H->List Value
 |0,_=>[]
 |_+1,.lit (.int k n)=>[ag k n]
 |_+1,.lit (.bool b)=>[.bool b]
 |m+1,.agg l=>l.flatMap (Pj m)
 |_,_=>[]
def XG (P:aR):aC->aS->Bool
 |0,_=>X
 |m+1,t=>match P.underlying t with
  |some (.int _) |some .bool=>U
  |some (.struct fs)=>XI P 0 fs.toList&&an (P.cellsOf t=((fs.toList.map (·.type)).map P.cellsOf).sum)&&fs.toList.all (λf=>XG P m f.type)
  |some (.array n e)=>an (P.cellsOf t=((aq n e).map P.cellsOf).sum)&&XG P m e
  |_=>X
def sj {sz:aS->aC}{g:DataW H->aT}{Tr:aS->aT->DataW H->Prop}:∀(ts:bu) (cs:aT) (ds:List<|DataW H),
  (∀t∈ts,∀c d,Tr t c d->g d=c)->M ds=M ts->M cs=(ts.map sz).sum->(∀pre t post,ts=pre++t::post->∃d,ds[M pre]? =ah d/\Tr t ((cs.drop (pre.map sz).sum).take<|sz t) d)->ds.flatMap g=cs
 | [],cs,ds,_,h0,hl,_=>by
  grind
 |t::ts,cs,[],_,h0,_,_=>A8
 | t::ts,cs,d::ds,ih,h0,hl,hg=>by
  obtain ⟨d',e1,e2⟩:=hg [] t ts rfl
  simp at e1
  subst e1
  have r:=sj (sz:=sz) (g:=g) (Tr:=Tr) ts (cs.drop<|sz t) ds (λt' ht=>ih t' A8) A8 A8 (λpre t' post e=>by
   obtain ⟨q,q1,q2⟩:=hg (t::pre) t' post A8;refine ⟨q,A8,?_⟩
   simpa using q2)
  rw [nF,r,ih t AJ _ _ e2]
  simp
def uV:∀(m:aC) (t:aS),XG P m t=U->∀(n:aC) (cs:aT) (x:DataW H×List MemPlace),DataW.trod enc P w base spare held n t cs=ah x->Pj m x.1=cs
 |0,t,h,_,_,_,_=>As
 | m +1,t,h,n,cs,x,hx=>by
  simp only [XG] at h;split at h
  ·rename_i k hu
   obtain ⟨z,rfl,rfl,hw⟩:=DataW.trod_int hu hx;rfl
  ·rename_i hu
   obtain ⟨z,rfl,rfl⟩:=DataW.trod_bool hu hx;rfl
  ·rename_i fs hu
   simp only [AY,Ac,BO] at h;obtain ⟨⟨h1,h2⟩,h3⟩:=h;obtain ⟨xs,n',_,rfl,hl,hxl,hf⟩:=DataW.trod_struct hu hx;simp only [Pj];refine sj (sz:=P.cellsOf) (Tr:=λt c d=>∃y,DataW.trod enc P w base spare held n' t c=ah y/\y.1=d) (fs.toList.map (·.type)) cs _ (λt' ht c d hc=>?_) (by simp [hxl]) og λpre t' post e=>?_
   ·obtain ⟨f,hf1,rfl⟩:=FP.1 ht
    obtain ⟨y,hy,rfl⟩:=hc;exact uV m f.type (h3 f hf1) n' c y hy
   ·obtain ⟨fpre,frest,e1,e2,e3⟩:=List.map_eq_append_iff.1 e
    obtain ⟨f,fpost,rfl,e4,e5⟩:=List.map_eq_cons_iff.1 e3
    have ho:=uJ fs.toList 0 h1 fpre f fpost e1
    have hi:fs[M fpre]? =ah f:=by
     exact aOU
    have hg:=hf _ f hi
    have hlt:M fpre<fs.size:=(Ia.1 hi).1
    refine ⟨(xs[M fpre]' A0).1,?_,xs[M fpre]' A0,?_,rfl⟩
    ·grind
    ·grind
  ·rename_i n0 e hu
   simp only [AY,Ac] at h;obtain ⟨h2,h3⟩:=h;obtain ⟨xs,n',_,rfl,hl,hxl,hf⟩:=DataW.trod_array hu hx;simp only [Pj];refine sj (sz:=P.cellsOf) (Tr:=λt c d=>∃y,DataW.trod enc P w base spare held n' t c=ah y/\y.1=d) (aq n0 e) cs _ (λt' ht c d hc=>?_) (by simp [hxl]) og λpre t' post e'=>?_
   ·rw [(Sp.1 ht).2] at hc
    obtain ⟨y,hy,rfl⟩:=hc;exact uV m e h3 n' c y hy
   ·obtain ⟨c1,c2,c3⟩:=aNW.1 e'
    have ht':t'=e:=by
     grind
    have hlen:M pre<n0:=by
     have:=B0 M e'
     simp at this;omega
    have hs:(pre.map P.cellsOf).sum=M pre*P.cellsOf e:=by rw [c2];simp
    refine ⟨(xs[M pre]' A0).1,?_,xs[M pre]' A0,?_,rfl⟩
    ·grind
    ·grind
  ·cases h
def adh {W:aO}{name:String}{d:DataW Unit}{rest:aX7}{g:aC}{t:aS}{m:aC}(hg:P.globalNamed name=ah g) (hty:(P.globals[g]?).map (·.type)=ah t) (hp:XG P m t=U)
  (h:laidMet P ((name,d)::rest) W):(∀i,W.cell? ⟨g,i,aj⟩=(Pj m d)[i]?)/\((Pj m d)≠ []->g<W.heap.size):=by
 obtain ⟨ps,⟨g',t',cs,fuel,p,q,hg',ht',hvar,hd,_,_⟩,_⟩:=h;obtain rfl:=Ej<|hg.symm.trans hg';obtain rfl:=Ej<|hty.symm.trans ht'
 have hf:=uV m t hp fuel _ _ hd
 have hcell:∀i,W.cell? ⟨g,i,aj⟩=(Pj m d)[i]? :=λi=>by
  rw [World.var?_cell hg hvar i,hf];simp
 refine ⟨hcell,λhne=>?_⟩
 have h0:=hcell 0
 cases hh:(Pj m d)[0]? with
 |none=>exact absurd (List.getElem?_eq_none_iff.1 hh) A8
 |some z=>
  rw [hh] at h0;unfold World.cell? at h0;split at h0
  ·grind
  ·cases h0
end Go.Sx
namespace Go.Proofs.YtpdndmobphnjcaaGreatDoor
set_option maxRecDepth 100000
set_option maxHeartbeats 4000000
open Go.Proofs.Tryz
open Go.Sx Go.ChangeShapes Go.WideShapes Go.ChangeAt Go.RowKit
def own:ownKnob prog.godebug=none:=AV
def laidOut:laidOutB prog=true:=AV
def aFL {P:aR}{x:String×DataW Unit}{r:aX7}{W:aO}(h:laidMet P (x::r) W):laidMet P r W:=by
 obtain ⟨n,d⟩:=x;obtain ⟨ps,⟨g,t,cs,fuel,p,q,h1,h2,h3,h4,h5,rfl⟩,hn,hm⟩:=h;exact ⟨q,h5,(yz.1 hn).2.1,λb off hb=>hm b off<|List.mem_append_right _ hb⟩
def y8 {W:aO}{name:String}{d:DataW Unit}{rest:aX7}{g:aC}{t:aS}{n:aC}{f:aC->aV}(hg:prog.globalNamed name=ah g) (hty:(prog.globals[g]?).map (·.type)=ah t) (hp:XG prog 4 t=U) (h:laidMet prog ((name,d)::rest) W) (key:Pj 4 d=(au<|n+1).map f):g<W.heap.size/\∀j,j<n+1->W.cell? ⟨g,j,aj⟩=ah (f j):=by
 obtain ⟨h1,h2⟩:=adh (m:=4) hg hty hp h;refine ⟨h2 (by rw [key];intro h0;exact absurd (B0 M h0) AJ),λj hj=>?_⟩
 rw [h1 j,key,Dr,zK hj];rfl
def arJ {W:aO}(h:laidMetH prog [("chargepark/charger.afterwards",Rows.laid_chargepark_charger_afterwards),("chargepark/ramp.happens",Rows.laid_chargepark_ramp_happens),("chargepark/vault.widths",Rows.laid_chargepark_vault_widths)] W):QI AT (λb=>b<W.heap.size) W:=by
 have h:laidMet prog [("chargepark/charger.afterwards",Rows.laid_chargepark_charger_afterwards),("chargepark/ramp.happens",Rows.laid_chargepark_ramp_happens),("chargepark/vault.widths",Rows.laid_chargepark_vault_widths)] W:=h
 have a1:=y8 (t:=260) (n:=59) (f:=λj=> ag J<|Tt j) (g:=0) AV AV AV h AV
 have a2:=y8 (t:=286) (n:=7) (f:=λj=> ag J<|V3 j) (g:=2) AV AV AV (aFL h) AV
 have a3:=y8 (t:=269) (n:=4) (f:=λj=> ag J<|aEN j) (g:=1) AV AV AV (aFL<|aFL h) AV
 intro g n f hg;unfold AT at hg;split at hg
 ·cases hg;exact a2
 ·cases hg;exact a1
 ·cases hg;exact a3
 ·cases hg
def aGw {H:Type}{enc:TypeId×Value->H}{P:aR}{w:aO}{base:aC}{spare:aC->aM}{held:aM}:∀ {ts:bu}{vs:aT}{ds:List<|DataW H}{ps:aXY},DataW.TrodAll enc P w base spare held ts vs ds ps->M ds=M ts
 | [],[],[],_,_=>rfl
 | [],_::_,_,_,h=>As
 | [],[],_::_,_,h=>As
 |_::_,[],_,_,h=>As
 |_::_,_::_,[],_,h=>As
 |_::_,_::_,_::_,_,h=>by
  obtain ⟨_,_,_,h2,_⟩:=h
  simp [aGw h2]
def put (vs:aX):Obj->Obj
 | .cells _ t frozen=> .cells vs t frozen
 |o=>o
def laidWorld (os:Os):aO:=
 {World.holding prog os ⟨#[],#[],[]⟩ with heap:=(((World.holding prog os ⟨#[],#[],[]⟩).heap.modify 2<|put ((au 8).map λj=> ag J<|V3 j).toArray).modify 0<|put ((au 60).map λj=> ag J<|Tt j).toArray).modify 1<|put ((au 5).map λj=> ag J<|aEN j).toArray}
end Go.Proofs.YtpdndmobphnjcaaGreatDoor
end
