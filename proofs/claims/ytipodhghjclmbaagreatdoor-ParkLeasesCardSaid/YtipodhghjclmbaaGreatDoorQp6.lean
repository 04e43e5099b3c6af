/- ParkLeases returns true for all arguments. -/
import Derived.Test.YtipodhghjclmbaaGreatDoorQp5
set_option linter.defProp false
set_option linter.unusedVariables false
set_option linter.unusedSimpArgs false
noncomputable section
open List renaming length→M,length→aa,replicate→aq,range→au
open Bool renaming true→U,true→ae,false→X,false→af
open Go.Value renaming int→Y,int→ag
open Option renaming some→ah,none→aj
open Go.IntKind renaming i64→J,i64→ai,u8→aw,u32→ax
open True renaming intro→ak
open Decidable renaming decide→an
open ByteArray renaming mk→av
open Go.Region renaming ready→ay,wanted→az
open Go.Instr renaming findNow→aA
namespace Go.Proofs.YtipodhghjclmbaaGreatDoor
set_option maxRecDepth 100000
set_option maxHeartbeats 4000000
open Go.Proofs.Tryz
open Go.Sx
variable {p : PK}
def LX.dec (h:LX p) (g:TG p) (hJ:JP p) (ht:p.tk<=1000):(p.up=U->(∀y∈Af p.AM.se p.AM.fl,DB y>p.tk->y∈p.AM.ls)/\∀y∈p.AM.ls,DB y>p.tk->y∈Af p.AM.se p.AM.fl)/\(p.up=X->p.AM.ls=[])/\
  ((∀y∈Af p.se p.fl,DB y>p.tk->y∈Af p.AM.se p.AM.fl)/\∀y∈Af p.AM.se p.AM.fl,y∈Af p.se p.fl\/(p.up=U/\p.dE=0/\y∈p.dL))/\∀l∈p.AM.lk,l.2∈Af p.AM.se p.AM.fl/\p.tk<=l.1/\l.1<=l.2.2.2.2.1+4:=by
 have htk:=hJ.1.1.tk
 have hx:=aR0 hJ
 unfold PK.AM;split
 ·rename_i hu
  exact ⟨λc=>yE,h.dn,⟨λy hy _=>hy,λy hy=> .inl hy⟩,h.lk⟩
 rename_i hu
 have hu:p.up=true:=by simpa using hu
 obtain ⟨u1,u2⟩:=h.up hu
 have x1:∀y,DB y>p.tk->(y∈Dt p.ls p.tk↔y∈p.ls):=λy he=>by
  rw [hx,DE];exact ⟨λc=>c.1,λc=>⟨c,Cm he⟩⟩
 split
 ·exact ⟨λ_=>⟨λy hy he=>(x1 y he).2<|u1 y hy he,λy hy he=>u2 y ((x1 y he).1 hy) he⟩,λc=>yE,⟨λy hy _=>hy,λy hy=> .inl hy⟩,h.lk⟩
 ·rename_i hd
  obtain ⟨V,M,hl⟩:=acF<|ZS.1 hd;obtain ⟨k,v1,v2⟩:=g.vl
  have v3:=g.v23
  have s0:SK p.tk p.lk (Af p.se p.fl) p.dL p.Gt:=⟨_,k,v1,⟨λy hy _=>hy,λy hy=> .inl hy⟩,λy hy he=>(x1 y he).2<|u1 y hy he,λy hy he=>u2 y ((x1 y he).1 hy) he,λl hl=> .inl hl⟩
  obtain ⟨vl,k',w1,⟨w2,w6⟩,w3,w4,w5⟩:=s0.FM (xs:=p.dL) ⟨htk.1,ht⟩ (λi hi=>by
   have q:=M.at_ i A0 A0
   rw [q.1];exact ⟨rfl,rfl,q.2.1.1⟩) _<|Ar _
  have e:Af p.sn1.se p.sn1.fl=vl:=w1.ld.2
  have w3:∀y∈vl,DB y>p.tk->y∈p.sn1.ls:=w3
  have w4:∀y∈p.sn1.ls,DB y>p.tk->y∈vl:=w4
  simp only [e];refine ⟨λ_=>⟨w3,w4⟩,λc=>yE,⟨w2,λy hy=>(w6 y hy).imp id λc=>⟨hu,ZS.1 hd,c⟩⟩,λl hl=>?_⟩
  rcases w5 l hl with q|⟨a1,a2,a3,a4⟩
  ·obtain ⟨b1,b2,b3⟩:=h.lk l q
   exact ⟨w2 _ b1 (by have:=(v3 _ b1).2;omega),b2,b3⟩
  ·exact ⟨a1,a3,a4⟩
def LX.tick (h:LX p) (g:TG p) (hJ:JP p) (ht:p.tk<=1000):LX p.CZ/\CT p.gs (F5 p.gs<|WJ (Af p.AM.se p.AM.fl) p.dr<|p.tk+1) p.B8.st:=by
 obtain ⟨e1,e2,e3,e4,e5,e6,e7,e8,e9,e10,e11,e12,e13,e14⟩:=NL p
 have hv:=hJ.1.1
 have htk:=hv.tk
 have hvd:=hv.dec
 obtain ⟨d1,d2,d3,d4⟩:=h.dec g hJ ht
 have hdr:∀j:Int,0<=j->j<(M p.gs:Int)->-200<=gi p.dr j/\gi p.dr j<=200:=λj j0 j1=>R6 hv j j0 yI
 have s0:CT p.gs (F5 p.gs<|WJ (Af p.AM.se p.AM.fl) p.dr p.tk) p.st:=⟨h.st.1,λj j0 j1=>(h.st.2 j j0 j1).vl (hdr j j0 j1) ht g.v23 d3.1⟩
 have s1:CT p.gs (F5 p.gs<|WJ (Af p.AM.se p.AM.fl) p.dr p.tk) p.AM.J8.st:=by
  show CT p.gs _ (Lw p.AM.gs p.AM.lk p.AM.tk p.AM.st<|M p.AM.lk)
  rw [e4,e6,e8];refine s0.arr (t:=p.tk) (λl hl'=>⟨by have:=hvd.lk l hl';rwa [e4] at this,λc s hs=>hs.gv (λa u u' hw hu=>WL.le hw aNB) λ_=>?_⟩) _<|Ar _
  obtain ⟨b1,b2,b3⟩:=d4 l hl'
  have c1:=hvd.lk l hl'
  rw [e4] at c1
  have ht12:l.2.2.2.2.2=12:=by
   have:=(g.dec hJ).vl
   obtain ⟨vl,k,w1,w2⟩:=this
   have e:Af p.AM.se p.AM.fl=vl:=w1.ld.2
   rw [e] at b1;exact (w2 _ b1).2.2.1
  refine ⟨l.2,b1,rfl,rfl,?_⟩
  show l.2.2.2.2.2+BA p.tk (gi p.dr l.2.2.1)<=12+BA (l.2.2.2.2.1+4) (gi p.dr l.2.2.1)
  have:=nh (t:=p.tk) (t':=l.2.2.2.2.1+4) (hdr _ c1.1 c1.2) htk.1 A0 (by
   have:=(g.dec hJ).vl
   obtain ⟨vl,k,w1,w2⟩:=this
   have e:Af p.AM.se p.AM.fl=vl:=w1.ld.2
   rw [e] at b1
   have:=(w2 _ b1).2.1
   omega)
  omega
 have s2:CT p.gs (F5 p.gs<|WJ (Af p.AM.se p.AM.fl) p.dr<|p.tk+1) p.B8.st:=by
  have:=acG (t:=p.tk) (dr:=p.dr) s1 (R6 hv) hv.dr A0 (M p.dr)<|Ar _
  show CT p.gs _ (Lb p.AM.gs p.AM.dr p.AM.tk p.AM.J8.st<|M p.AM.dr)
  rw [e4,e13,e6];refine ⟨this.1,λj j0 j1=>(this.2 j j0 j1).le λa l _ ⟨x,q1,q2,q3,q4⟩=>⟨x,q1,q2,q3,?_⟩⟩
  have q4:l+(if j<((M p.dr:Nat):Int) then BA (p.tk+1) (gi p.dr j) else BA p.tk (gi p.dr j))<=_:=q4
  rw [AD yI] at q4;exact q4
 have f4:p.B8.gs=p.gs:=e4
 have s3:CT p.gs (F5 p.gs<|WJ (Af p.AM.se p.AM.fl) p.dr<|p.tk+1) p.B8.dw.st:=by
  have:=CT.dw (gs:=p.gs) (ca:=p.B8.ca) (s:=⟨p.B8.st,p.B8.mi,p.B8.me,aq (M p.B8.gs) 0⟩) s2 (λj s hs=>hs.gv (λa u u' hw hu=>WL.le hw aNB) λhk=>NF) (M p.gs)<|Ar _
  show CT p.gs _ (Ez p.B8.gs p.B8.ca _<|M p.B8.gs).st
  rw [f4];rw [f4] at this;exact this
 have et:p.CZ.tk=p.tk+1:=B0 (·+1) e6
 have eg:p.CZ.gs=p.gs:=e4
 have ed:p.CZ.dr=p.dr:=e13
 have eu:p.CZ.up=p.up:=e7
 have es:p.CZ.se=p.AM.se:=rfl
 have ef:p.CZ.fl=p.AM.fl:=rfl
 have el:p.CZ.ls=p.AM.ls:=rfl
 have ek:p.CZ.st=p.B8.dw.st:=rfl
 refine ⟨⟨?_,?_,?_,?_⟩,s2⟩
 ·rw [es,ef,el,et,eu]
  intro c;obtain ⟨c1,c2⟩:=d1 c;exact ⟨λy hy he=>c1 y hy<|Int.lt_trans (Int.lt_succ p.tk) he,λy hy he=>c2 y hy<|Int.lt_trans (Int.lt_succ p.tk) he⟩
 ·rw [eu,el]
  exact d2
 ·rw [eg,ed,et,es,ef,ek]
  exact s3
 rw [es,ef];intro l hl
 have hm:l∈p.AM.lk/\an (l.1>p.AM.tk)=true:=DE.1 hl
 have h4:=d4 l hm.1
 have h2:=Cx hm.2
 rw [e6] at h2;rw [et];exact ⟨h4.1,Int.add_one_le_iff.2 h2,h4.2.2⟩
def LX.step (h:LX p) (g:TG p) (hJ:JP p) (ht:p.tk<=1000) {e:EV}(he:BR p e=0):LX (BS p e):=by
 have hv:=hJ.1.1
 unfold BS;rw [AE A0];unfold BR at he;rw [AE yH] at he
 have cr:∀ {i:Int},p.isC i≠X->0<=i/\i<(M p.gs:Int):=λ{i} hh=>by
  exact aMR
 have gv:∀ {st:List St} {i k n m:Int},CT p.gs (F5 p.gs<|WJ (Af p.se p.fl) p.dr p.tk) st->(0<=i/\i<(M p.gs:Int))->k≠7/\k≠8->CT p.gs (F5 p.gs<|WJ (Af p.se p.fl) p.dr p.tk) (CU p.gs st i k n m):=λ{st i k n m} hs hi hk=>
  hs.gv hi.1 hi.2 λhs=>hs.gv (λa u u' hw hu=>WL.le hw (by rw [AE hk.2] at hu;omega)) λc=>absurd c hk.1
 split
 ·exact (h.tick g hJ ht).1
 rename_i h1;rw [AE h1] at he;split
 ·rename_i h2
  rw [AD h2] at he;unfold PK.G4 at he;split at he
  ·cases he
  rename_i hi
  have hi:=cr hi
  exact {h with st:=gv (gv (gv (gv h.st hi Aa) hi Aa) hi Aa) hi Aa}
 rename_i h2;rw [AE h2] at he;split
 ·rename_i h3
  rw [AD h3] at he;unfold PK.Ix at he;split at he
  ·cases he
  rename_i hi
  have hi:=cr hi
  exact {h with st:=gv (gv h.st hi Aa) hi Aa}
 rename_i h3;rw [AE h3] at he;split
 ·exact {h with lk:=λl hl=>h.lk l (DE.1 hl).1}
 rename_i h4;rw [AE h4] at he;split
 ·exact ⟨λc=>FU,λ_=>rfl,h.st,h.lk⟩
 rename_i h5;rw [AE h5] at he;split
 ·refine ⟨λ_=>?_,λc=>FU,h.st,h.lk⟩
  obtain ⟨k,v1,v2⟩:=g.vl
  have htk:=hv.tk
  have e:BW (Af p.se p.fl) p.tk=(Af p.se p.fl).filter (LZ p.tk):=AD (by unfold Ka;rw [v1.lv,BV.2 A0];rfl)
  show (∀y∈Af p.se p.fl,DB y>p.tk->y∈BW (Af p.se p.fl) p.tk)/\∀y∈BW (Af p.se p.fl) p.tk,DB y>p.tk->y∈Af p.se p.fl
  rw [e];exact ⟨λy hy he=>DE.2 ⟨hy,Cm he⟩,λy hy _=>(DE.1 hy).1⟩
 rename_i h6;rw [AE h6] at he;split
 ·rename_i h7
  rw [AD h7] at he;unfold PK.O0 at he;split at he
  ·cases he
  rename_i hi;exact {h with st:=gv h.st (cr hi) Aa}
 ·exact {h with}
def ayz {cs:List Cd}{os:List ByteArray}{ks:List Ko}{gs:List Ch}{bs:List Ba}{dr:List Int}(h:DA cs os ks gs bs dr=0):LX (newP cs os ks gs bs dr):=by
 have hp:newP cs os ks gs bs dr=_:=AE (by rw [h];decide)
 obtain ⟨vl,k,v1,v2⟩:=(aQu h).sg.vl
 have hs:=(aQt h).1.site
 rw [hp] at v1 hs|-
 have e:Af (⟨512,Di⟩:Int×List Int).1 Di=[]:=(⟨rfl,rfl,⟨0,1019,_,ep⟩,De _⟩:VI 512 Di [] 0).ld.2
 refine ⟨λ_=>⟨λy hy _=>?_,λy hy=>(by cases hy)⟩,λc=>rfl,⟨Ce,λj j0 j1=>?_⟩,λl hl=>(by cases hl)⟩
 ·have hy:y∈Af 512 Di:=hy
  rw [show Af 512 Di=[] from e] at hy;exact hy
 ·have e0:BJ (aq (M gs) ((0,0,0,X):St)) j=(0,0,0,X):=by
   unfold BJ;rw [Dd,ZI];split<;>rfl
  simp only [e0]
  have hc:=Oo hs j0 j1
  unfold GA chW at hc;simp only [AY,Ck,Cz,BV] at hc;exact ⟨Nb.2 ⟨cd.2 A0,Aa,(by decide:(0:Int)<=5),Aa,(by decide:(0:Int)<=1000000),Aa,by show (0:Int)<=(AG gs j).2.2.2.2.1;omega,λ_=>rfl,λc=>FU⟩,λc=>absurd c Aa⟩
def aho {gs:List Ch}{vl:List Le}{dr:List Int}{t u j:Int}{s:St}(h:F5 gs (WJ vl dr t) j s) (hw:s.2.2.2=X) (hd:-200<=gi dr j/\gi dr j<=200) (ht:t<=1000000) (hv:BC vl=U) (hb:below (M gs) vl=U)
  (hT:∀x∈vl,0<=x.2.2.2.1/\DB x=x.2.2.2.1+23) (hu:∀x∈vl,x.2.2.2.1<=u) (ut:u<=t):BX (AG gs j) s<=mx (CO<|AG gs j) (gi (J9 (M gs) vl u) j):=by
 obtain ⟨q1,q2⟩:=h
 have qv:=Nb.1 q1
 have hfb:0<=CO (AG gs j):=by
  have:=cd.1 qv.1
  unfold CO;omega
 unfold BX;rw [AD q1,AE (by rw [hw];decide)]
 split
 ·unfold mx;split<;>omega
 split
 ·rename_i c
  obtain ⟨x,b1,b2,b3,b4,b5⟩:=aFx (q2 A0) A0 hd ht λx hx=>(hT x hx).1
  have ha:Lx u x=true:=by
   unfold Lx;rw [Cm<|hu x b1,Cm (by have:=(hT x b1).2;omega)]
   rfl
  have:=atT (gs:=gs) hv hb b1 ha
  rw [b2,b3] at this;unfold mx;split<;>omega
 ·show CO _<=_
  unfold mx;split<;>omega
def aqT (h:LX p) (g:TG p) (hJ:JP p) (ht:p.tk<=1000) {t:Int}(h1:t<=p.tk) (h2:p.tk-1<=t) (h3:0<=t):
  CL p.se p.fl=0/\Hq (Af p.se p.fl) (M p.gs) t=0/\M p.gs<=16/\M p.st=M p.gs/\∀j:Nat,j<M p.gs->(BJ p.st j).2.2.2=X->BX (AG p.gs j) (BJ p.st j)<=mx (CO<|AG p.gs j) (gi (J9 (M p.gs) (Af p.se p.fl) t) j):=by
 obtain ⟨k,v1,v2⟩:=g.vl
 have hv:=hJ.1.1
 have gl:=(DF.1 hv.site).1.2.2.2.2.1
 have hb:below (M p.gs) (Af p.se p.fl)=true:=BP.2 λx hx=>Cm (v2 x hx).2.2.2.2
 refine ⟨v1.ld.1,?_,A0,h.st.1,λj hj hw=>aho (h.st.2 j A0 A0) hw (R6 hv (j:Int) A0 (by rw [hv.dr];omega)) A0 v1.lv hb g.v23 (λx hx=>by have:=(v2 x hx).2.1;omega) h1⟩
 unfold Hq Kd;rw [AD];rw [v1.lv,hb,BV.2 A0,BV.2 A0];rfl
structure LG (p:PK):Prop where
 tg:TG p
 lx:LX p
def LG.step (h:LG p) (hJ:JP p) (ht:p.tk<=1000) {e:EV}(he:BR p e=0):LG (BS p e):=⟨h.tg.step hJ he,h.lx.step h.tg hJ ht he⟩
def az0 {cs:List Cd}{os:List ByteArray}{ks:List Ko}{gs:List Ch}{bs:List Ba}{dr:List Int}(h:DA cs os ks gs bs dr=0):LG (newP cs os ks gs bs dr):=⟨aQu h,ayz h⟩
end Go.Proofs.YtipodhghjclmbaaGreatDoor
namespace Go.Proofs.YtipodhghjclmbaaGreatDoor
set_option maxRecDepth 100000
set_option maxHeartbeats 4000000
open Go.Proofs.Tryz
open Go.Sx
structure O5 where
 e:Int
 b:Bool
 (last n i:Int)
 (p r:PK)
def aEt:=bN f13 0
def vk (s:O5):T (Rd O5):=letI a:=(M (D4 s.p Ef):Int);.br (an<|s.i<s.n) (.req (JP s.p)<|.br (((BR s.p Ef) !=0) ||(a !=(M (BS s.p Ef).ca:Int))) (.so (.ret) {s with e:=s.last,b:=X,r:=s.p})<|.br (an<|a>0) (.req (0<=(0:Int)/\0<a)<|.nx {s with last:=gi (D4 s.p Ef) (0:Int),i:=AA<|s.i+1,p:=BS s.p Ef})<|.nx {s with i:=AA<|s.i+1,p:=BS s.p Ef})<|.so (.exit 0) s
def jR (s:O5):Prop:=s.i=0/\s.n<=1000/\JP s.p
def iI (s:O5):Prop:=0<=s.i/\s.n<=1000/\JP s.p
def tI (s:O5):Nat:=(s.n-s.i).toNat
def ac2 (x:Ex) (s s':O5):Prop:=True
def ahv:∀s,jR s->iI s:=by
 exact ke
theorem auf:Da iI tI ac2 vk:=by
 intro s hI;obtain ⟨h0,h1,h2⟩:=hI;refine AH (λc1=>AH (λc2=>trivial) λc2=>AH (λc3=>?_) λc3=>?_) λc1=>trivial
 all_goals have c1:s.i<s.n:=A8
 all_goals rw [AJ (x:=s.i+1)]
 all_goals exact ⟨⟨A8,h1,h2.step<|Dg (GJ.1 c2).1⟩,by simp only [tI];omega⟩
def Qk:AT O5:=⟨0,43,[2,4,5,6,7,11,12],[.ps 4 0 Ad,.ps 4 1 .str,.ps 4 2 Ai,.ps 4 3 Ae,.ps 4 4 Aj,.ps 4 7 AQ,.ps 4 9<|.int aw,.ps 4 10 Am,.ps 4 12 B3,.ps 4 13 AQ,.ps 4 14 B6,.ps 4 15 BQ,.ps 4 16 Au,.ps 4 17 BM,.ps 4 18 A7,.ps 4 19 A7],λs=>[.own 0 0,.own 1 0,s.e,s.b,s.last,s.n,s.i],λs=>[pB s.p,pB s.r],λv b=>⟨AK v 2,Ec v 3,AK v 4,AK v 5,AK v 6,rQ b 0,rQ b 1⟩,vk,λs r=> {r with n:=s.n},λs=>s,λ_ s=>s,[.ret,.exit 0],jR,iI,tI⟩
abbrev Su:=Qk.run
abbrev dU:=Qk.Av
def avK:Rq iI vk:=by
 intro s hI;refine ⟨λc1=>⟨?_,λ_=>trivial,λc2=>⟨λc3=>⟨?_,ak⟩,λ_=>trivial⟩⟩,λ_=>trivial⟩
 all_goals ((obtain ⟨h0,h1,h2⟩:=hI;first|exact h2|(simp only [Ac] at c3;omega)))
def tz:List Bd:=[dp]
def aPf:Qk.Ok:={}
def aP8:Qk.Pf (ac2):=⟨ahv,λs h=>rfl,auf,avK⟩
def aok:SA 0 aEt Qk:=s1 aPf aP8 tz kN
theorem apG:Rs jR dU Su (λs:O5=>Cw (s.n-s.i).toNat s.p s.last) (λx s' (v:PK×Int×Bool)=>(x=.exit 0/\(s'.p,s'.last,U)=v)\/(x=.ret/\(s'.r,s'.e,s'.b)=v)):=DJ aPf aP8 (λs hI=>by
  obtain ⟨h0,h1,h2⟩:=hI;refine AH (λc1=>?_) λc1=>?_
  ·have c1:s.i<s.n:=A8
   have e:(s.n-s.i).toNat=(s.n-(s.i+1)).toNat+1:=A0
   rw [AJ (x:=s.i+1),e,Cw];refine AH (λc2=>?_) λc2=>?_
   ·have hc:¬(BR s.p Ef=0/\M (D4 s.p Ef)=M (BS s.p Ef).ca):=λh=>by
     rw [h.1,h.2] at c2
     simp at c2
    rw [AE hc];exact .inr ⟨rfl,rfl⟩
   ·have hc:BR s.p Ef=0/\M (D4 s.p Ef)=M (BS s.p Ef).ca:=by
     grind
    rw [AD hc];refine AH (λc3=>?_) λc3=>?_
    ·have c3:M (D4 s.p Ef)>0:=A8
     rw [AD c3];rfl
    ·have c3:¬(M<|D4 s.p Ef)>0:=A8
     rw [AE c3];rfl
  ·have c1:s.n<=s.i:=A8
   rw [show (s.n-s.i).toNat=0 by omega]
   exact .inl ⟨rfl,rfl⟩)
def aSS:List LV->T LV
 | [x_p,.v (Y J many)]=>(match Mz x_p with
  |some p=> .req (JP p/\many<=1000) (.ok<|.AO [(Cw many.toNat p 0).1,(Cw many.toNat p 0).2.1,(Cw many.toNat p 0).2.2])
  |none=> .no)
 |_=> .no
def ML (p:PK) (many:Int):O5:=(⟨0,X,0,many,0,p,⟨([]:List Cd),([]:List ByteArray),([]:List Ko),([]:List Ch),([]:List Ba),0,X,([]:List Le),0,([]:List Int),([]:List Ra),0,([]:List St),([]:List Le),([]:List Mi),([]:List Me),([]:List Dm),([]:List Lk),([]:List Int),([]:List Int)⟩⟩:O5)
def axF (p:PK) (many:Int):letI a:=Su<|ML p many;Bi prog AV (tz) kN (λi=>if i=3 then Qk.lp else Al i) f13 [p,many]=.req (Qk.q<|ML p many) (.br (Bs (dU<|ML p many)<|.ret) (.ok<|.AO [a.r,a.e,a.b])<|.ok<|.AO [a.p,a.last,U]):=AU
def ai6:=vm (S:=aSS) func13 tz kN (L:=(λi=>if i=3 then Qk.lp else Al i)) (λb hb=>by
 rw [show BD _=[aEt] by kernel_rfl] at hb
 simp only [B7,Bt,Bu] at hb;subst hb;exact aok) (λargs lv h=>by
 refine ⟨?_⟩;unfold aSS at h;split at h
 ·split at h
  case h_2=>cases h
  rename_i p hp;obtain rfl:=WB hp;simp only [canL,canX];rw [axF];rename_i many _;obtain ⟨⟨hJ,hm⟩,rfl⟩:=h
  have hE:jR (ML p many):=⟨rfl,hm,hJ⟩
  have e:(many-0).toNat=many.toNat:=AI
  have q:(dU (ML p many)=.exit 0/\((Su<|ML p many).p,(Su<|ML p many).last,U)=Cw many.toNat p 0)\/(dU (ML p many)=.ret/\((Su<|ML p many).r,(Su<|ML p many).e,(Su<|ML p many).b)=Cw many.toNat p 0):=by
   rw [<-e];exact apG _ hE
  refine ⟨⟨hE,rfl,rfl⟩,λc=>?_,λc=>?_⟩
  ·rcases q with ⟨x1,_⟩ |⟨_,x2⟩
   ·rw [x1] at c
    cases c
   ·rw [<-x2]
    rfl
  ·rcases q with ⟨_,x2⟩ |⟨x1,_⟩
   ·rw [<-x2]
    rfl
   ·rw [x1] at c
    cases c
 ·cases h)
def aRq:List LV->T LV:=λ_=> .no
def aun:VV 1000022 aRq:=by
 exact xp
structure HF where
 DA:List Cd->List ByteArray->List Ko->List Ch->List Ba->List Int->Int
 newP:List Cd->List ByteArray->List Ko->List Ch->List Ba->List Int->PK
 BR:PK->EV->Int
 BS:PK->EV->PK
 D4:PK->EV->List Int
 Cw:Nat->PK->Int->PK×Int×Bool
 JP:PK->Prop
def hdF:HF:=⟨DA,newP,BR,BS,D4,Cw,JP⟩
def ao3 (F:HF):List LV->T LV
 | [x_p,x_ev]=>(match Mz x_p with
  |some p=>(match mF x_ev with
  |some ev=> .req (F.JP p) (.ok<|.AO [F.BS p<|EW.ev ev,.xl A7<|F.D4 p<|EW.ev ev,F.BR p<|EW.ev ev])
  |none=> .no)
  |none=> .no)
 |_=> .no
def atY (F:HF):List LV->T LV:=Ju prog f14.params.toList<|ao3 F
def atb (F:HF):List LV->T LV
 | [.agg [.xl (.pair .str (.pair (.int J) (.pair (.int J) (.pair (.int J) (.pair (.pair (.int J) (.int J)) (.pair (.int J) (.pair (.int J) (.pair (.int J) (.pair (.int J) (.int J)))))))))) cs,.xl (.str) os,.xl (.pair .str (.pair (.int J) (.pair (.int J) (.int J)))) ks,.xl (.pair .str (.pair (.int J) (.pair (.int J) (.pair (.int J) (.pair (.int J) (.pair (.int J) (.pair (.int J) (.int J)))))))) gs,.xl (.pair .str (.int J)) bs],.xl (.int J) dr]=> .req (M dr<=1000) (.ok<|.AO [F.newP cs os ks gs bs dr,F.DA cs os ks gs bs dr])
 |_=> .no
def ahO (F:HF):List LV->T LV:=Ju prog f11.params.toList<|atb F
def ata (F:HF):List LV->T LV
 | [x_p,.v (Y J many)]=>(match Mz x_p with
  |some p=> .req (F.JP p/\many<=1000) (.ok<|.AO [(F.Cw many.toNat p 0).1,(F.Cw many.toNat p 0).2.1,(F.Cw many.toNat p 0).2.2])
  |none=> .no)
 |_=> .no
def ahL (F:HF):List LV->T LV:=Ju prog f13.params.toList<|ata F
def bS:List Cd:=letI a:=((bC 32).getD (0:Int).toNat<|Ty.dflt Ad);(bC 32).set (0:Int).toNat (a.1,(a.2.1,((5:Int),a.2.2.2)))
def hN (F:HF):PK:=F.newP (((bC 32).drop 0).take 1) bO ([]:List Ko) bG ([]:List Ba)<|[(0:Int)]
def hA (F:HF):PK×Int×Bool:=F.Cw (1:Int).toNat (hN F) 0
def hB (F:HF):PK:=F.BS (hA F).1<|EW.ev<|⟨2,0,0,0,1,20,1000000000,0,U,0,500,1⟩
def hC (F:HF):PK×Int×Bool:=F.Cw (1:Int).toNat (hB F) 0
def hD (F:HF):PK×Int×Bool:=F.Cw (60:Int).toNat (hC F).1 0
def hX (F:HF):PK:=F.BS (hD F).1<|EW.ev<|⟨5,0,0,0,0,0,0,0,X,0,0,0⟩
def hL (F:HF):PK×Int×Bool:=F.Cw (24:Int).toNat (hX F) 0
def aag (F:HF):hA F=F.Cw 1 (hN F) 0:=rfl
def aaf (F:HF):hB F=F.BS (hA F).1 Kw:=rfl
def abC (F:HF):hC F=F.Cw 1 (hB F) 0:=rfl
def abB (F:HF):hD F=F.Cw 60 (hC F).1 0:=rfl
def abA (F:HF):hX F=F.BS (hD F).1 evF:=rfl
def akZ (F:HF):hL F=F.Cw 24 (hX F) 0:=rfl
def ac0:List LV->T LV
 | []=> .ok U
 |_=> .no
def X4:List Bd:=[v5,ai6,dp,aun]
def uT:Ay:=kI X4<|la 9 func29 aGF<|la 11 func68 TH<|la 6 func68 QN<|la 3 func51 Ou<|la 2 func67 NR<|la 1 func66 MW<|la 2 func75 LA<|la 9 func29 Cn<|l0 X4
def m7 (F:HF):Specs:=D7 [(11,ahO F),(13,ahL F),(14,atY F),(1000022,aRq)]
def aKE (F:HF):Hand:=inl prog AV (m7 F) (CR 29 9 9 (UI.lp)<|CR 68 21 11 (Pa.lp)<|CR 68 21 6 (Qm.lp)<|CR 51 21 3 (Ql.lp)<|CR 67 20 2 (Rc.lp)<|CR 66 20 1 (Qw.lp)<|CR 75 19 2 (Ri.lp)<|CR 29 0 9 (Gg.lp)<|Dp prog AV (m7 F) 20 2) 9
def ayp (F:HF):letI a:=(EW.ev<|⟨2,0,0,0,1,20,1000000000,0,U,0,500,1⟩);letI b:=(hA F);Bi prog AV (m7 F) (aKE F) Al f4 []=.req (0+1<=M (bC 32)) (.req (M ([(0:Int)])<=1000)<|.req (F.JP ((hN F))/\(1:Int)<=1000)<|.req (F.JP b.1)<|.req (F.JP ((hB F))/\(1:Int)<=1000)<|.req (F.JP ((hC F)).1/\(60:Int)<=1000)<|.req (F.JP ((hD F)).1)<|.req (F.JP ((hX F))/\(24:Int)<=1000)<|.req (0<=(0:Int)/\(0:Int)<((1:Nat):Int))<|.req ((0:Int).toNat<M (bC 32))<|.req (0+1<=M bS)<|.req (M ([(0:Int)])<=1000)<|.ok<|.v<|.bool<|(((F.DA (((bC 32).drop 0).take 1) bO ([]:List Ko) bG ([]:List Ba)<|[(0:Int)])==0)&&(((F.BR b.1 a)==0)&&(((F.BR ((hD F)).1<|EW.ev<|⟨5,0,0,0,0,0,0,0,X,0,0,0⟩)==0)&&(((F.DA ((bS.drop 0).take 1) bO ([]:List Ko) bG ([]:List Ba)<|[(0:Int)])==13)&&(b.2.2&&(((hC F)).2.2&&(((hD F)).2.2&&(((hL F)).2.2&&((M (F.D4 b.1 a):Int)==0)))))))))&&((b.2.1==0)&&((b.1.tk==1)&&((((hC F)).2.1==6)&&((((hD F)).2.1==20)&&(((hL F)).2.1==6)))))):=AU
def az9:X4=m7 hdF:=AU
def azw:uT=aKE hdF:=AU
def ajm:letI a:=(EW.ev<|⟨2,0,0,0,1,20,1000000000,0,U,0,500,1⟩);letI b:=(hA hdF);letI c:=(hD hdF);Bi prog AV (X4) uT Al f4 []=.req (0+1<=M (bC 32)) (.req (M ([(0:Int)])<=1000)<|.req (hdF.JP ((hN hdF))/\(1:Int)<=1000)<|.req (hdF.JP b.1)<|.req (hdF.JP ((hB hdF))/\(1:Int)<=1000)<|.req (hdF.JP ((hC hdF)).1/\(60:Int)<=1000)<|.req (hdF.JP c.1)<|.req (hdF.JP ((hX hdF))/\(24:Int)<=1000)<|.req (0<=(0:Int)/\(0:Int)<((1:Nat):Int))<|.req ((0:Int).toNat<M (bC 32))<|.req (0+1<=M (bS))<|.req (M ([(0:Int)])<=1000)<|.ok<|.v<|.bool<|(((hdF.DA (((bC 32).drop 0).take 1) (bO) ([]:List Ko) (bG) ([]:List Ba)<|[(0:Int)])==0)&&(((hdF.BR b.1 a)==0)&&(((hdF.BR c.1<|EW.ev<|⟨5,0,0,0,0,0,0,0,X,0,0,0⟩)==0)&&(((hdF.DA (((bS).drop 0).take 1) (bO) ([]:List Ko) (bG) ([]:List Ba)<|[(0:Int)])==13)&&(b.2.2&&(((hC hdF)).2.2&&(c.2.2&&(((hL hdF)).2.2&&((M (hdF.D4 b.1 a):Int)==0)))))))))&&((b.2.1==0)&&((b.1.tk==1)&&((((hC hdF)).2.1==6)&&((c.2.1==20)&&(((hL hdF)).2.1==6)))))):=by
 rw [az9,azw];exact ayp hdF
def amY:=vo (S:=ac0) func4 X4 uT (λargs lv h=>by
 refine ⟨?_⟩;unfold ac0 at h;split at h
 ·simp only [canL]
  rw [ajm];obtain rfl:=h;simp only [show hdF.DA=DA from rfl,show hdF.newP=newP from rfl,show hdF.BR=BR from rfl,show hdF.BS=BS from rfl,show hdF.D4=D4 from rfl,show hdF.Cw=Cw from rfl,show hdF.JP=JP from rfl];obtain ⟨p1,p3,p4,p6,a1,a2,a3,a4,a5,a6,a7,a8⟩:=akY
  have eN:(hN hdF)=newP (bC 32) bO [] bG [] [0]:=rfl
  have t1:hdF.Cw=Cw:=rfl
  have t2:hdF.BS=BS:=rfl
  have eA:hA hdF=(p1,0,U):=by rw [aag,t1,eN];exact a1
  have eB:hB hdF=BS p1 Kw:=by rw [aaf,t2,eA]
  have eC:hC hdF=(p3,6,U):=by rw [abC,t1,eB];exact a5
  have eD:hD hdF=(p4,20,U):=by rw [abB,t1,eC];exact a6
  have eX:hX hdF=BS p4 evF:=by rw [abA,t2,eD]
  have eL:hL hdF=(p6,6,U):=by rw [akZ,t1,eX];exact a8
  have jN:JP (hN hdF):=by rw [eN];exact qu zm.1
  have jA:JP (hA hdF).1:=by rw [aag,t1];exact jN.Ew _ _
  have sA:BR (hA hdF).1 Kw=0:=by rw [eA];exact a3
  have jB:JP (hB hdF):=by rw [aaf,t2];exact jA.step sA
  have jC:JP (hC hdF).1:=by rw [abC,t1];exact jB.Ew _ _
  have jD:JP (hD hdF).1:=by rw [abB,t1];exact jC.Ew _ _
  have sD:BR (hD hdF).1 evF=0:=by rw [eD];exact a7
  have jX:JP (hX hdF):=by rw [abA,t2];exact jD.step sD
  have n1:DA (((bC 32).drop 0).take 1) bO [] bG [] [(0:Int)]=0:=zm.1
  have n2:DA ((bS.drop 0).take 1) bO [] bG [] [(0:Int)]=13:=zm.2
  have b3:BR p1 (EW.ev ⟨2,0,0,0,1,20,1000000000,0,U,0,500,1⟩)=0:=a3
  have b4:D4 p1 (EW.ev ⟨2,0,0,0,1,20,1000000000,0,U,0,500,1⟩)=[]:=a4
  have b7:BR p4 (EW.ev ⟨5,0,0,0,0,0,0,0,X,0,0,0⟩)=0:=a7
  refine ⟨Aa,Aa,⟨jN,Aa⟩,jA,⟨jB,Aa⟩,⟨jC,Aa⟩,jD,⟨jX,Aa⟩,Aa,Aa,Aa,Aa,?_⟩
  show LV.v (.bool _)=_
  simp only [n1,n2,eA,eC,eD,eL,a2,b3,b4,b7,Bp];rfl
 ·cases h)
def opN (k:Int) (l:Nat):Int:=if (l:Int)>0 then (AA k).tmod l else 0
def opE (p:PK) (x1 x2 x3 y1 y2 y3 y4 y5:Int) (z1:Bool) (z2 z3 z4:Int):EW:=
 if x1.tmod 14=6\/x1.tmod 14=7 then ⟨2,opN x2<|M p.ca,0,y1,y2,y3,y4,y5,z1,z2,z3,z4⟩
 else if x1.tmod 14=8 then ⟨3,opN x2<|M p.ca,0,0,0,0,0,0,X,0,0,0⟩
 else if x1.tmod 14=9 then ⟨4,opN x2<|M p.ca,0,0,0,0,0,0,X,0,0,0⟩
 else if x1.tmod 14=10 then ⟨5,0,0,0,0,0,0,0,X,0,0,0⟩
 else if x1.tmod 14=11 then ⟨6,0,0,0,0,0,0,0,X,0,0,0⟩
 else if x1.tmod 14=12 then ⟨7,opN x2<|M p.ca,0,0,0,0,0,0,X,0,0,0⟩
 else if x1.tmod 14=13 then ⟨8,opN x2<|M p.tg,(AA x3).tmod 100,0,0,0,0,0,X,0,0,0⟩
 else ⟨1,0,0,0,0,0,0,0,X,0,0,0⟩
def opT (x1 x3:Int):Int:=if 6<=x1.tmod 14/\x1.tmod 14<=13 then 1 else AA (1+(AA x3).tmod 12)
def aSC:List LV->T LV
 | [x_p,.v (.agg ⟨[Y aw x1,Y aw x2,Y .u16 x3,Y J y1,Y J y2,Y J y3,Y J y4,Y J y5,.bool z1,Y J z2,Y J z3,Y J z4]⟩)]=>(match Mz x_p with
  |some p=> .tu #[opE p x1 x2 x3 y1 y2 y3 y4 y5 z1 z2 z3 z4,opT x1 x3]
  |none=> .no)
 |_=> .no
def aR8:List Bd:=[]
def ayu (p:PK) (x1 x2 x3 y1 y2 y3 y4 y5:Int) (z1:Bool) (z2 z3 z4:Int):letI a:=x1.tmod 14;letI c:=(M p.tg:Int);letI d:=(AA x3).tmod 100;letI e:=(M p.ca:Int);letI f:=AA<|1+((AA x3).tmod 12);letI b:=(AA x2).tmod e;Bi prog AV (aR8) kN Al f16 [p,.v<|.agg #[Y aw x1,Y aw x2,Y .u16 x3,y1,y2,y3,y4,y5,z1,z2,z3,z4]]=.br (an<|e>0) (.req (e≠0)<|.req ((14:Int)≠0)<|.br (a==6) (.tu #[.agg #[(2:Int),b,(0:Int),y1,y2,y3,y4,y5,z1,z2,z3,z4],(1:Int)])<|.br (a==7) (.tu #[.agg #[(2:Int),b,(0:Int),y1,y2,y3,y4,y5,z1,z2,z3,z4],(1:Int)])<|.br (a==8) (.tu #[.agg #[(3:Int),b,(0:Int),(0:Int),(0:Int),(0:Int),(0:Int),(0:Int),X,(0:Int),(0:Int),(0:Int)],(1:Int)])<|.br (a==9) (.tu #[.agg #[(4:Int),b,(0:Int),(0:Int),(0:Int),(0:Int),(0:Int),(0:Int),X,(0:Int),(0:Int),(0:Int)],(1:Int)])<|.br (a==10) (.tu #[.agg #[(5:Int),(0:Int),(0:Int),(0:Int),(0:Int),(0:Int),(0:Int),(0:Int),X,(0:Int),(0:Int),(0:Int)],(1:Int)])<|.br (a==11) (.tu #[.agg #[(6:Int),(0:Int),(0:Int),(0:Int),(0:Int),(0:Int),(0:Int),(0:Int),X,(0:Int),(0:Int),(0:Int)],(1:Int)])<|.br (a==12) (.tu #[.agg #[(7:Int),b,(0:Int),(0:Int),(0:Int),(0:Int),(0:Int),(0:Int),X,(0:Int),(0:Int),(0:Int)],(1:Int)])<|.br (a==13) (.br (an<|c>0) (.req (c≠0)<|.req ((100:Int)≠0)<|.tu #[.agg #[(8:Int),(AA x2).tmod c,d,(0:Int),(0:Int),(0:Int),(0:Int),(0:Int),X,(0:Int),(0:Int),(0:Int)],(1:Int)])<|.req ((100:Int)≠0)<|.tu #[.agg #[(8:Int),(0:Int),d,(0:Int),(0:Int),(0:Int),(0:Int),(0:Int),X,(0:Int),(0:Int),(0:Int)],(1:Int)])<|.req ((12:Int)≠0)<|.tu #[.agg #[(1:Int),(0:Int),(0:Int),(0:Int),(0:Int),(0:Int),(0:Int),(0:Int),X,(0:Int),(0:Int),(0:Int)],f]) (.req ((14:Int)≠0)<|.br (a==6) (.tu #[.agg #[(2:Int),(0:Int),(0:Int),y1,y2,y3,y4,y5,z1,z2,z3,z4],(1:Int)])<|.br (a==7) (.tu #[.agg #[(2:Int),(0:Int),(0:Int),y1,y2,y3,y4,y5,z1,z2,z3,z4],(1:Int)])<|.br (a==8) (.tu #[.agg #[(3:Int),(0:Int),(0:Int),(0:Int),(0:Int),(0:Int),(0:Int),(0:Int),X,(0:Int),(0:Int),(0:Int)],(1:Int)])<|.br (a==9) (.tu #[.agg #[(4:Int),(0:Int),(0:Int),(0:Int),(0:Int),(0:Int),(0:Int),(0:Int),X,(0:Int),(0:Int),(0:Int)],(1:Int)])<|.br (a==10) (.tu #[.agg #[(5:Int),(0:Int),(0:Int),(0:Int),(0:Int),(0:Int),(0:Int),(0:Int),X,(0:Int),(0:Int),(0:Int)],(1:Int)])<|.br (a==11) (.tu #[.agg #[(6:Int),(0:Int),(0:Int),(0:Int),(0:Int),(0:Int),(0:Int),(0:Int),X,(0:Int),(0:Int),(0:Int)],(1:Int)])<|.br (a==12) (.tu #[.agg #[(7:Int),(0:Int),(0:Int),(0:Int),(0:Int),(0:Int),(0:Int),(0:Int),X,(0:Int),(0:Int),(0:Int)],(1:Int)])<|.br (a==13) (.br (an<|c>0) (.req (c≠0)<|.req ((100:Int)≠0)<|.tu #[.agg #[(8:Int),(AA x2).tmod c,d,(0:Int),(0:Int),(0:Int),(0:Int),(0:Int),X,(0:Int),(0:Int),(0:Int)],(1:Int)])<|.req ((100:Int)≠0)<|.tu #[.agg #[(8:Int),(0:Int),d,(0:Int),(0:Int),(0:Int),(0:Int),(0:Int),X,(0:Int),(0:Int),(0:Int)],(1:Int)])<|.req ((12:Int)≠0)<|.tu #[.agg #[(1:Int),(0:Int),(0:Int),(0:Int),(0:Int),(0:Int),(0:Int),(0:Int),X,(0:Int),(0:Int),(0:Int)],f]):=AU
def aaY:=vo (S:=aSC) func16 aR8 kN (λargs lv h=>by
 refine ⟨?_⟩;unfold aSC at h;split at h
 ·split at h
  case h_2=>cases h
  rename_i p hp;obtain rfl:=WB hp;simp only [canL,canX];rw [ayu];obtain rfl:=h
  repeat' (first|(refine And.intro (λc=>?_) λc=>?_) |(refine And.intro A8 ?_))
  all_goals simp_all [T.all,opE,opT,opN]
  all_goals omega
 ·cases h)
def apI {p:PK}(hJ:JP p) {ev:EW}(h1:ev.ek=1) (h2:p.tk<=1000):BR p ev.ev=0:=by
 rw [(aBO (Vp.2 hJ.1.1) h1).1];exact AE A0
def po {p:PK}(hJ:JP p) {ev:EW}(he:BR p ev.ev=0):(BS p ev.ev).tk=p.tk\/(ev.ek=1/\(BS p ev.ev).tk=p.tk+1):=by
 have hv:=Vp.2 hJ.1.1
 by_cases c1:ev.ek=1
 ·obtain ⟨a,b⟩:=aBO hv c1
  rw [(b<|a.symm.trans he).1];exact .inr ⟨c1,by show p.AM.tk+1=_;rw [(NL p).2.2.2.2.2.1]⟩
 left
 by_cases c2:ev.ek=2
 ·obtain ⟨a,b⟩:=aJu hv c2;rw [(b<|a.symm.trans he).1];rfl
 by_cases c3:ev.ek=3
 ·obtain ⟨a,b⟩:=aJt hv c3;rw [(b<|a.symm.trans he).1];rfl
 by_cases c4:ev.ek=4
 ·obtain ⟨a,b⟩:=aJs hv c4;rw [(b<|a.symm.trans he).1];rfl
 by_cases c5:ev.ek=5
 ·obtain ⟨a,b⟩:=aJr hv c5;rw [(b<|a.symm.trans he).1];rfl
 by_cases c6:ev.ek=6
 ·obtain ⟨a,b⟩:=aJq hv c6;rw [(b<|a.symm.trans he).1];rfl
 by_cases c7:ev.ek=7
 ·obtain ⟨a,b⟩:=aJp hv c7;rw [(b<|a.symm.trans he).1];rfl
 by_cases c8:ev.ek=8
 ·obtain ⟨a,b⟩:=aJo hv c8;rw [(b<|a.symm.trans he).1];rfl
 ·rw [aJn hv ⟨c1,c2,c3,c4,c5,c6,c7,c8⟩] at he
  cases he
def axR (x1 x3:Int):opT x1 x3<=12:=by
 unfold opT;split
 ·decide
 ·have h1:=Int.tmod_lt_of_pos (AA x3) (show (0:Int)<12 by decide)
  have h2:=Int.lt_tmod_of_pos (AA x3) (show (0:Int)<12 by decide)
  rw [AJ];omega
def LsQ (p:PK):Prop:=JP p/\LG p/\p.tk<=1000
def ayQ {p:PK}(hJ:JP p) (hm:LG p) (ht:p.tk<=150) {ev:EW}(he:BR p ev.ev=0):LsQ (BS p ev.ev):=⟨hJ.step he,hm.step hJ A0 he,by rcases po hJ he with e|⟨_,e⟩<;>omega⟩
structure PQ where
 b:Bool
 al:List Int
 gs:List Ch
 (n i:Int)
 p:PK
def aF1:=bN f7 0
def fw (s:PQ):T (Rd PQ):=letI a:=AG s.gs s.i;.br (an<|s.i<s.n) (.ix s.i (M s.gs)<|.br (an<|s.i>=(M s.p.st:Int)) (.so (.ret) {s with b:=X})<|.ix s.i (M s.p.st)<|.br (!(BJ s.p.st s.i).2.2.2) (.ix s.i (M s.p.st)<|.ix s.i (M s.al)<|.br (an<|(BX a<|BJ s.p.st s.i)>(if a.2.2.2.2.2.2.1<(gi s.al s.i) then (gi s.al s.i) else a.2.2.2.2.2.2.1)) (.so (.ret) {s with b:=X})<|.nx {s with i:=AA<|s.i+1})<|.nx {s with i:=AA<|s.i+1})<|.so (.exit 0) s
def iW (s:PQ):Prop:=s.i=0/\s.n=(M s.gs:Int)/\M s.p.st=M s.gs/\M s.al=M s.gs/\M s.gs<=1000/\∀j:Nat,j<M s.gs->(BJ s.p.st j).2.2.2=X->BX (AG s.gs j) (BJ s.p.st j)<=mx (CO<|AG s.gs j) (gi s.al j)
def YU (s:PQ):Prop:=(0<=s.i/\s.i<=s.n)/\s.n=(M s.gs:Int)/\M s.p.st=M s.gs/\M s.al=M s.gs/\M s.gs<=1000/\∀j:Nat,j<M s.gs->(BJ s.p.st j).2.2.2=X->BX (AG s.gs j) (BJ s.p.st j)<=mx (CO<|AG s.gs j) (gi s.al j)
def fG (s:PQ):Nat:=(s.n-s.i).toNat
def aAA (x:Ex) (s s':PQ):Prop:=x=.exit 0
def akC:∀s,iW s->YU s:=by
 rintro s ⟨h0,h2⟩
 have:=h2.1
 exact ⟨⟨A0,A0⟩,h2⟩
def ay0:Da YU fG aAA fw:=by
 intro s hI;unfold fw;dsimp only [T.rd,T.rl,T.rv];obtain ⟨⟨h0,h1⟩,k1,k2,k3,k4,k5⟩:=hI;refine AH (λc1=>?_) λc1=>rfl
 have c1:s.i<s.n:=AX
 rw [AJ (x:=s.i+1)];refine AH (λc2=>absurd (Cx c2) A0) λ_=>?_
 refine AH (λc3=>?_) λc3=>⟨⟨⟨AZ,AZ⟩,k1,k2,k3,k4,k5⟩,by simp only [fG];omega⟩
 refine AH (λc4=>?_) λc4=>⟨⟨⟨AZ,AZ⟩,k1,k2,k3,k4,k5⟩,by simp only [fG];omega⟩
 exfalso
 have:=k5 s.i.toNat A0 (by rw [CM h0];simpa using c3)
 rw [CM h0] at this;exact absurd (Cx c4)<|xH.2 this
def Qq:AT PQ:=⟨0,88,[4,6,9,49,50,51],[],λs=>[.own 0 0,s.b,.xl A7 s.al,s.gs,s.n,s.i],λs=>[pB s.p],λv b=>⟨Ec v 1,B5 A7 v 2,B5 Ae v 3,AK v 4,AK v 5,rQ b 0⟩,fw,λs r=> {s with b:=r.b,i:=r.i},λs=>s,λ_ s=>s,[.ret,.exit 0],iW,YU,fG⟩
abbrev aG2:=Qq.run
abbrev qa:=Qq.Av
def awy:Rq YU fw:=by
 intro s hI;refine ⟨λc1=>⟨?_,λ_=>trivial,λc2=>⟨?_,λc3=>⟨?_,?_,λ_=>trivial,λ_=>trivial⟩,λ_=>trivial⟩⟩,λ_=>trivial⟩
 all_goals ((obtain ⟨⟨h0,h1⟩,k1,k2,k3,k4,k5⟩:=hI;simp only [Ac] at c1;omega))
def azK:List Bd:=[XA,QW,Qz]
def aPM:Qq.Ok:={}
def aPJ:Qq.Pf (aAA):=⟨akC,λs h=>rfl,ay0,awy⟩
def aow:SA 0 aF1 Qq:=s1 aPM aPJ azK kN
def apV:Fi iW YU aAA qa aG2:=AT.fin aPM aPJ
def Kp (t:Int):Int:=if (0:Int)<AA (t-1) then AA (t-1) else 0
def aue {t:Int}(h:0<=t/\t<=1000):t-1<=Kp t/\Kp t<=t/\0<=Kp t:=by
 unfold Kp;rw [AJ (x:=t-1)];split<;>omega
def aSb:List LV->T LV
 | [x_p,x_r,.xl (.int J) dw]=>(match Mz x_p with
  |some p=>(match Mz x_r with
  |some r=> .req (LsQ r) (.ok U)
  |none=> .no)
  |none=> .no)
 |_=> .no
def cK (p r:PK) (dw:List Int):PQ:=(⟨X,Eo (Af r.se r.fl) (M r.gs:Int)<|Kp r.tk,r.gs,(M r.gs:Int),0,r⟩:PQ)
def aR7:List Bd:=[XA,QW,Qz]
def axK (p r:PK) (dw:List Int):Bi prog AV (aR7) kN (λi=>if i=6 then Qq.lp else Al i) f7 [p,r,.xl A7 dw]=.req (BI r.fl) (.br (((CL r.se r.fl) !=0) ||(((Hq (Af r.se r.fl) (M r.gs:Int)<|Kp r.tk) !=0) ||((M (Eo (Af r.se r.fl) (M r.gs:Int)<|Kp r.tk):Int) !=(M r.st:Int)))) (.ok X)<|.req (Qq.q<|cK p r dw)<|.br (Bs (qa<|cK p r dw)<|.ret) (.ok (aG2<|cK p r dw).b)<|.ok U):=AU
def ux:=vm (S:=aSb) func7 aR7 kN (L:=(λi=>if i=6 then Qq.lp else Al i)) (λb hb=>by
 rw [show BD _=[aF1] by kernel_rfl] at hb
 simp only [B7,Bt,Bu] at hb;subst hb;exact aow) (λargs lv h=>by
 refine ⟨?_⟩;unfold aSb at h;split at h
 ·split at h
  case h_2=>cases h
  rename_i p hp;obtain rfl:=WB hp;split at h
  case h_2=>cases h
  rename_i r hr;obtain rfl:=WB hr;simp only [canL,canX];rw [axK];rename_i dw _ _;obtain ⟨⟨hJ,hm,ht⟩,rfl⟩:=h
  have htk:=hJ.1.1.tk
  obtain ⟨t1,t2,t3⟩:=aue ⟨htk.1,ht⟩;obtain ⟨a1,a2,a3,a4,a5⟩:=aqT hm.lx hm.tg hJ ht (t:=Kp r.tk) t2 t1 t3
  have e:Eo (Af r.se r.fl) (M r.gs:Int) (Kp r.tk)=J9 (M r.gs) (Af r.se r.fl) (Kp r.tk):=by
   unfold Hq at a2;split at a2
   ·rename_i c
    exact AD c
   ·cases a2
  have hE:iW (cK p r dw):=⟨rfl,rfl,a4,by show M (Eo (Af r.se r.fl) (M r.gs:Int)<|Kp r.tk)=_;rw [e];exact T9,by show M r.gs<=1000;omega,λj hj hw=>by show _<=mx _ (gi (Eo (Af r.se r.fl) (M r.gs:Int)<|Kp r.tk) j);rw [e];exact a5 j hj hw⟩
  obtain ⟨_,_,q⟩:=apV _ hE
  have q:qa (cK p r dw)=.exit 0:=q
  refine ⟨hJ.2.1.1.2.2,λc=>?_,λ_=>⟨⟨hE,rfl,rfl⟩,λc=>?_,λ_=>rfl⟩⟩
  ·rw [a1,a2,e,T9,a4] at c
   simp at c
  ·rw [q] at c
   cases c
 ·cases h)
structure Mq where
 b:Bool
 many:Int
 ops:List (Int×(Int×(Int×(Le×Dm))))
 (n i m k:Int)
 (r p:PK)
 ev:EW
def amW (s:Mq):List LV:=[.fn 7 [],.own 0 0,s.b,.own 1 0,s.many,.own 2 0,.xl (.pair (.int aw)<|.pair (.int aw)<|.pair (.int .u16)<|.pair AQ Au) s.ops,s.n,s.i,s.m,s.k]
def alH (s:Mq):List AB:=[pB s.r,pB s.p,⟨[s.ev.ek,s.ev.en,s.ev.em,s.ev.c1,s.ev.c2,s.ev.c3,s.ev.c4,s.ev.c5,s.ev.d1,s.ev.d2,s.ev.d3,s.ev.d4],73,.cl,X⟩]
def aF2:=lN (bN f6 0) 0
def fz (s:Mq):T (Rd Mq):=letI a:=AA<|s.many+1;letI c:=BS s.p<|EW.ev s.ev;letI d:=(BR s.p<|EW.ev s.ev) !=0;.br (an<|s.k<s.m) (.br (s.ev.ek==1) (.br (an<|a>150) (.so (.exit 2) {s with many:=a})<|.req (JP s.p)<|.br d (.br (s.ev.ek==1) (.so (.ret) {s with b:=X,many:=a,r:=s.p})<|.so (.exit 2) {s with many:=a})<|.req (LsQ c)<|.br (!U) (.so (.ret) {s with b:=X,many:=a,r:=s.p})<|.nx {s with many:=a,k:=AA<|s.k+1,p:=c})<|.req (JP s.p)<|.br d (.br (s.ev.ek==1) (.so (.ret) {s with b:=X,r:=s.p})<|.so (.exit 2) s)<|.req (LsQ c)<|.br (!U) (.so (.ret) {s with b:=X,r:=s.p})<|.nx {s with k:=AA<|s.k+1,p:=c})<|.so (.exit 2) s
def Xk (s:Mq):Prop:=s.k=0/\s.many<=12*s.i/\JP s.p/\LG s.p/\(s.p.tk<=150/\s.p.tk<=s.many/\0<=s.many)/\s.m<=12/\(0<=s.i/\s.i<=1000)
def YV (s:Mq):Prop:=(0<=s.k/\(s.k<=s.m\/s.k=0))/\s.many<=12*s.i+s.k/\JP s.p/\LG s.p/\(s.p.tk<=150/\s.p.tk<=s.many/\0<=s.many)/\s.m<=12/\(0<=s.i/\s.i<=1000)
def fH (s:Mq):Nat:=(s.m-s.k).toNat
def iD (x:Ex) (s s':Mq):Prop:=x=.exit 2/\JP s'.p/\LG s'.p/\(s'.p.tk<=150/\s'.p.tk<=s'.many/\0<=s'.many)/\s'.many<=12*s'.i+12
def akE:∀s,Xk s->YV s:=by
 rintro s ⟨h0,h1,h2⟩
 exact ⟨A0,A0,h2⟩
def ay2:Da YV fH iD fz:=by
 intro s hI;unfold fz;dsimp only [T.rd,T.rl,T.rv];obtain ⟨⟨h0,h0'⟩,h1,hJ,hm,⟨t1,t2,t3⟩,h3,h4⟩:=hI
 have w:AA (s.many+1)=s.many+1:=AJ
 have wk:AA (s.k+1)=s.k+1:=AJ
 rw [w,wk];refine AH (λc1=>?_) λc1=>⟨rfl,hJ,hm,⟨t1,t2,t3⟩,by simp only [Cy] at c1;omega⟩
 simp only [Ac] at c1;refine AH (λc2=>?_) λc2=>?_
 ·have c2:s.ev.ek=1:=eq_of_beq c2
  refine AH (λc3=>⟨rfl,hJ,hm,⟨t1,AZ,AZ⟩,AZ⟩) λc3=>?_
  have c3:¬s.many+1>150:=Jw c3
  refine AH (λc4=>absurd (apI hJ c2 A0)<|Ek.1 c4) λc4=>?_
  have c4:BR s.p s.ev.ev=0:=Dg c4
  refine AH (λc5=>by cases c5) λ_=>?_
  have hk:=po hJ c4
  exact ⟨⟨⟨AZ,AZ⟩,AZ,hJ.step c4,hm.step hJ A0 c4,⟨AZ,AZ,AZ⟩,h3,h4⟩,by simp only [fH];omega⟩
 ·have c2:¬s.ev.ek=1:=CN.1 c2
  refine AH (λc4=>AH (λc5=>absurd (eq_of_beq c5) c2) λ_=>⟨rfl,hJ,hm,⟨t1,t2,t3⟩,A0⟩) λc4=>?_
  have c4:BR s.p s.ev.ev=0:=Dg c4
  refine AH (λc5=>by cases c5) λ_=>?_
  have hk:=po hJ c4
  exact ⟨⟨⟨AZ,AZ⟩,AZ,hJ.step c4,hm.step hJ A0 c4,⟨AZ,AZ,t3⟩,h3,h4⟩,by simp only [fH];omega⟩
def Rx:AT Mq:=⟨0,75,[3,8,9,10,12,15,29,30,31,41,42],[],amW,alH,λv b=>⟨Ec v 2,AK v 4,Ap (.pair (.int aw)<|.pair (.int aw)<|.pair (.int .u16)<|.pair AQ Au)<|v.getD 6 .junk,AK v 7,AK v 8,AK v 9,AK v 10,rQ b 0,rQ b 1,rE b 0 2⟩,fz,λs r=> {s with b:=r.b,many:=r.many,k:=r.k,r:=r.r,p:=r.p},λs=>s,λ_ s=>s,[.exit 2,.ret],Xk,YV,fH⟩
abbrev mj:=Rx.run
abbrev qd:=Rx.Av
def ax0:Rq YV fz:=by
 intro s hI;refine ⟨λc1=>⟨λc2=>⟨λ_=>trivial,λc3=>⟨?_,λc4=>⟨λ_=>trivial,λ_=>trivial⟩,λc4=>⟨?_,λ_=>trivial,λ_=>trivial⟩⟩⟩,λc2=>⟨?_,λc7=>⟨λ_=>trivial,λ_=>trivial⟩,λc7=>⟨?_,λ_=>trivial,λ_=>trivial⟩⟩⟩,λ_=>trivial⟩
 all_goals ((obtain ⟨_,_,hJ,hm,⟨t1,_⟩,_⟩:=hI;first|exact hJ|exact ayQ hJ hm A0 (Dg<|by assumption)))
def tw:List Bd:=[ux,v5,dp,aaY]
def aPO:Rx.Ok:={}
def aPL:Rx.Pf (iD):=⟨akE,λs h=>rfl,ay2,ax0⟩
def aoz:SA 0 aF2 Rx:=s1 aPO aPL tw kN
def apX:Fi Xk YV iD qd mj:=AT.fin aPO aPL
structure Jd where
 b:Bool
 many:Int
 ops:List (Int×(Int×(Int×(Le×Dm))))
 (n i:Int)
 (r p:PK)
def amV (s:Jd):List LV:=[.fn 7 [],.own 0 0,s.b,.own 1 0,s.many,.xl (.pair (.int aw)<|.pair (.int aw)<|.pair (.int .u16)<|.pair AQ Au) s.ops,s.n,s.i]
def alG (s:Jd):List AB:=[pB s.r,pB s.p]
def pJ:=bN f6 0
def Of (s:Jd):Mq:=(⟨s.b,s.many,s.ops,s.n,s.i,opT (gx (e:=.pair (.int aw)<|.pair (.int aw)<|.pair (.int .u16)<|.pair AQ Au) s.ops s.i).1 (gx (e:=.pair (.int aw)<|.pair (.int aw)<|.pair (.int .u16)<|.pair AQ Au) s.ops s.i).2.2.1,0,s.r,s.p,opE s.p (gx (e:=.pair (.int aw)<|.pair (.int aw)<|.pair (.int .u16)<|.pair AQ Au) s.ops s.i).1 (gx (e:=.pair (.int aw)<|.pair (.int aw)<|.pair (.int .u16)<|.pair AQ Au) s.ops s.i).2.1 (gx (e:=.pair (.int aw)<|.pair (.int aw)<|.pair (.int .u16)<|.pair AQ Au) s.ops s.i).2.2.1 (gx (e:=.pair (.int aw)<|.pair (.int aw)<|.pair (.int .u16)<|.pair AQ Au) s.ops s.i).2.2.2.1.1 (gx (e:=.pair (.int aw)<|.pair (.int aw)<|.pair (.int .u16)<|.pair AQ Au) s.ops s.i).2.2.2.1.2.1 (gx (e:=.pair (.int aw)<|.pair (.int aw)<|.pair (.int .u16)<|.pair AQ Au) s.ops s.i).2.2.2.1.2.2.1 (gx (e:=.pair (.int aw)<|.pair (.int aw)<|.pair (.int .u16)<|.pair AQ Au) s.ops s.i).2.2.2.1.2.2.2.1 (gx (e:=.pair (.int aw)<|.pair (.int aw)<|.pair (.int .u16)<|.pair AQ Au) s.ops s.i).2.2.2.1.2.2.2.2 (gx (e:=.pair (.int aw)<|.pair (.int aw)<|.pair (.int .u16)<|.pair AQ Au) s.ops s.i).2.2.2.2.1 (gx (e:=.pair (.int aw)<|.pair (.int aw)<|.pair (.int .u16)<|.pair AQ Au) s.ops s.i).2.2.2.2.2.1 (gx (e:=.pair (.int aw)<|.pair (.int aw)<|.pair (.int .u16)<|.pair AQ Au) s.ops s.i).2.2.2.2.2.2.1 (gx (e:=.pair (.int aw)<|.pair (.int aw)<|.pair (.int .u16)<|.pair AQ Au) s.ops s.i).2.2.2.2.2.2.2⟩:Mq)
def fy (s:Jd):T (Rd Jd):=letI a:=mj<|Of s;.br (an<|s.i<s.n) (.ix s.i (M s.ops)<|.req (Rx.q<|Of s)<|.br (Bs (qd<|Of s)<|.exit 2) (.nx {s with b:=a.b,many:=a.many,i:=AA<|s.i+1,r:=a.r,p:=a.p})<|.so (.ret) {s with b:=a.b,many:=a.many,r:=a.r,p:=a.p})<|.so (.exit 0) s
def Xj (s:Jd):Prop:=s.i=0/\s.many=0/\JP s.p/\LG s.p/\(s.p.tk<=150/\s.p.tk<=s.many/\0<=s.many)/\(s.n=(M s.ops:Int)/\s.n<=1000)
def U7 (s:Jd):Prop:=(0<=s.i/\s.i<=s.n)/\s.many<=12*s.i/\JP s.p/\LG s.p/\(s.p.tk<=150/\s.p.tk<=s.many/\0<=s.many)/\(s.n=(M s.ops:Int)/\s.n<=1000)
def tS (s:Jd):Nat:=(s.n-s.i).toNat
def aAB (x:Ex) (s s':Jd):Prop:=x=.exit 0/\JP s'.p/\LG s'.p/\s'.p.tk<=150
def akD:∀s,Xj s->U7 s:=by
 rintro s ⟨h0,h1,h2,h3,h4,h5⟩
 exact ⟨A0,A0,h2,h3,h4,h5⟩
def aO9 {s:Jd}(hI:U7 s) (c1:s.i<s.n):iD (qd<|Of s) (Of s) (mj<|Of s)/\Xk (Of s):=by
 obtain ⟨⟨h0,h1⟩,h2,hJ,hm,ht,h3⟩:=id hI
 have hE:Xk (Of s):=⟨rfl,h2,hJ,hm,ht,axR _ _,⟨h0,by show s.i<=1000;omega⟩⟩
 obtain ⟨_,_,q⟩:=apX _ hE;exact ⟨q,hE⟩
def ay1:Da U7 tS aAB fy:=by
 intro s hI;unfold fy;dsimp only [T.rd,T.rl,T.rv];obtain ⟨⟨h0,h1⟩,h2,hJ,hm,ht,h3⟩:=id hI;refine AH (λc1=>?_) λc1=>⟨rfl,hJ,hm,ht.1⟩
 have c1:s.i<s.n:=AX
 obtain ⟨x1,x2,x3,x4,x5⟩:=(aO9 hI c1).1;rw [AJ (x:=s.i+1)];refine AH (λc2=>?_) λc2=>?_
 ·have x5:(mj<|Of s).many<=12*s.i+12:=x5
  exact ⟨⟨⟨AZ,AZ⟩,AZ,x2,x3,x4,h3⟩,by simp only [tS];omega⟩
 ·rw [x1] at c2
  cases c2
def Rv:AT Jd:=⟨0,75,[3,8,9,10,12,29,30,31],[.ps 8 0 Ad,.ps 8 1 .str,.ps 8 2 Ai,.ps 8 3 Ae,.ps 8 4 Aj,.ps 8 7 AQ,.ps 8 9<|.int aw,.ps 8 10 Am,.ps 8 12 B3,.ps 8 13 AQ,.ps 8 14 B6,.ps 8 15 BQ,.ps 8 16 Au,.ps 8 17 BM,.ps 8 18 A7,.ps 8 19 A7],amV,alG,λv b=>⟨Ec v 2,AK v 4,Ap (.pair (.int aw)<|.pair (.int aw)<|.pair (.int .u16)<|.pair AQ Au)<|v.getD 5 .junk,AK v 6,AK v 7,rQ b 0,rQ b 1⟩,fy,λs r=> {r with ops:=s.ops,n:=s.n},λs=>s,λ_ s=>s,[.ret,.exit 0],Xj,U7,tS⟩
abbrev cb:=Rv.run
abbrev qb:=Rv.Av
def awz:Rq U7 fy:=by
 intro s hI;refine ⟨λc1=>⟨?_,?_,λ_=>trivial,λ_=>trivial⟩,λ_=>trivial⟩
 all_goals ((obtain ⟨⟨h0,h1⟩,h2,hJ,hm,ht,h3⟩:=id hI;simp only [Ac] at c1;first|omega|exact ⟨(aO9 hI c1).2,rfl,rfl⟩))
def aPN:Rv.Ok:={}
def aPK:Rv.Pf (aAB):=⟨akD,λs h=>rfl,ay1,awz⟩
def aoy:SA 0 pJ Rv:=AT.snd aPN aPK (nL (Γ:=tw) (K:=Fp) (L:=(λi=>if i=10 then Rx.lp else Al i)) (gk tw) kN.h pJ (λb hb=>by
 rw [show BD _=[aF2] by kernel_rfl] at hb
 simp only [B7,Bt,Bu] at hb;subst hb;exact aoz)) λs=>AU
def apW:Fi Xj U7 aAB qb cb:=AT.fin aPN aPK
def plS (cs:List Cd) (os:List ByteArray) (ks:List Ko) (gs:List Ch) (bs:List Ba) (dr:List Int) (ops:List<|(Int×(Int×(Int×(Le×Dm))))):Jd:=⟨X,0,ops,(M ops:Int),0,PK0,newP cs os ks gs bs dr⟩
def plP (cs:List Cd) (os:List ByteArray) (ks:List Ko) (gs:List Ch) (bs:List Ba) (dr:List Int) (ops:List<|(Int×(Int×(Int×(Le×Dm))))):PK:=if DA cs os ks gs bs dr≠0 then newP cs os ks gs bs dr else (cb<|plS cs os ks gs bs dr ops).p
def plE {cs:List Cd}{os:List ByteArray}{ks:List Ko}{gs:List Ch}{bs:List Ba}{dr:List Int}{ops:List<|(Int×(Int×(Int×(Le×Dm))))}(c:DA cs os ks gs bs dr=0) (h2:M ops<=1000):Xj (plS cs os ks gs bs dr ops):=by
 have hp:newP cs os ks gs bs dr=_:=AE aF
 refine ⟨rfl,rfl,qu c,az0 c,?_,⟨rfl,by show (M ops:Int)<=1000;omega⟩⟩
 show (newP cs os ks gs bs dr).tk<=150/\(newP cs os ks gs bs dr).tk<=0/\(0:Int)<=0
 rw [hp];exact ⟨by show (0:Int)<=150;decide,De _,De _⟩
def aSZ:List LV->T LV
 | .agg a::r=>s5 a λcs os ks gs bs=>(match r with
  | [.xl (.int J) dr,.xl (.pair (.int aw) (.pair (.int aw) (.pair (.int .u16) (.pair (.pair (.int J) (.pair (.int J) (.pair (.int J) (.pair (.int J) (.int J))))) (.pair .bool (.pair (.int J) (.pair (.int J) (.int J)))))))) ops,.fn 7 []]=> .req (M dr<=1000/\M ops<=1000) (.ok<|.AO [plP cs os ks gs bs dr ops,U])
  |_=> .no)
 |_=> .no
def aBl (cs:List Cd) (os:List ByteArray) (ks:List Ko) (gs:List Ch) (bs:List Ba) (dr:List Int) (ops:List<|Int×(Int×(Int×(Le×Dm)))):Jd:=(⟨X,0,ops,(M ops:Int),0,⟨([]:List Cd),([]:List ByteArray),([]:List Ko),([]:List Ch),([]:List Ba),0,X,([]:List Le),0,([]:List Int),([]:List Ra),0,([]:List St),([]:List Le),([]:List Mi),([]:List Me),([]:List Dm),([]:List Lk),([]:List Int),([]:List Int)⟩,newP cs os ks gs bs dr⟩:Jd)
def azJ:List Bd:=[ux,v5,dp,aaY]
def aiA:=vm (S:=aSZ) func6 azJ kN (L:=(λi=>if i=6 then Rv.lp else Al i)) (λb hb=>by
 rw [show BD _=[pJ] by kernel_rfl] at hb
 simp only [B7,Bt,Bu] at hb;subst hb;exact aoy) (λargs lv h=>by
 unfold aSZ at h;split at h
 case h_2=>cases h
 replace h:=IE h
 obtain ⟨cs,os,ks,gs,bs,rfl,h⟩:=h;split at h
 ·rename_i dr ops
  refine Aq (letI a:=aBl cs os ks gs bs dr ops;.req (M dr<=1000)<|.br ((DA cs os ks gs bs dr) !=0) (.ok<|.AO [((newP cs os ks gs bs dr)),U])<|.req (Rv.q a)<|.br (Bs (qb a)<|.ret) (.ok<|.AO [((cb a).r),(cb a).b])<|.ok<|.AO [((cb a).p),U]) ?_;obtain ⟨⟨h1,h2⟩,rfl⟩:=h;refine ⟨h1,λc=>?_,λc=>?_⟩
  ·have c:=Ek.1 c
   rw [show plP cs os ks gs bs dr ops=newP cs os ks gs bs dr from AD c];rfl
  have c:=Dg c
  have hE:Xj (aBl cs os ks gs bs dr ops):=plE c h2
  obtain ⟨_,_,q,_⟩:=apW _ hE
  have q:qb (aBl cs os ks gs bs dr ops)=.exit 0:=q
  refine ⟨⟨hE,rfl,rfl⟩,λc2=>?_,λ_=>?_⟩
  ·rw [q] at c2
   cases c2
  ·rw [show plP cs os ks gs bs dr ops=_ from AE aF]
   rfl
 ·cases h)
def aSV:List LV->T LV
 | .agg a::r=>s5 a λcs os ks gs bs=>(match r with
  | []=> .ok (an<|M cs<=40/\M os<=40/\M ks<=40/\M gs<=40/\M bs<=40)
  |_=> .no)
 |_=> .no
def azI:List Bd:=[]
def ai7:=vo (S:=aSV) func15 azI kN (λargs lv h=>by
 unfold aSV at h;split at h
 case h_2=>cases h
 replace h:=IE h
 obtain ⟨cs,os,ks,gs,bs,rfl,h⟩:=h;split at h
 ·refine Aq (.ok<|.v<|.bool<|(an<|(M cs:Int)<=40)&&((an<|(M os:Int)<=40)&&((an<|(M ks:Int)<=40)&&((an<|(M gs:Int)<=40)&&(an<|(M bs:Int)<=40))))) ?_
  obtain rfl:=h;refine B0 (λz=>LV.v<|.bool z) ?_
  rw [Ia];simp only [AY,Ac];omega
 ·cases h)
def aSl:List LV->T LV
 | .agg a::r=>s5 a λcs os ks gs bs=>(match r with
  | [.xl (.int J) dr,.xl (.pair (.int aw) (.pair (.int aw) (.pair (.int .u16) (.pair (.pair (.int J) (.pair (.int J) (.pair (.int J) (.pair (.int J) (.int J))))) (.pair .bool (.pair (.int J) (.pair (.int J) (.int J)))))))) ops]=> .ok U
  |_=> .no)
 |_=> .no
def abx:=uS f3 aSl
def tv:List Bd:=[amY,aiA,ux,ai7]
def ayG:Ay:=kI tv<|l0 tv
def aiG:VV 3 abx:=vo func3 tv ayG (λargs lv h=>by
 unfold aSl at h;split at h
 case h_2=>cases h
 replace h:=IE h
 obtain ⟨cs,os,ks,gs,bs,rfl,h⟩:=h;split at h
 ·rename_i dr ops
  refine Aq (.br (!((an<|M cs<=40/\M os<=40/\M ks<=40/\M gs<=40/\M bs<=40)&&((an<|(M dr:Int)<=40)&&(an<|(M ops:Int)<=40)))) (.ok U)<|.req (M dr<=1000/\M ops<=1000)<|.ok<|.v<|.bool<|U&&U) ?_;obtain rfl:=h;refine ⟨λ_=>rfl,λc=>⟨?_,rfl⟩⟩
  simp only [I5,AY,Ac] at c;omega
 ·cases h)
end Go.Proofs.YtipodhghjclmbaaGreatDoor
namespace Go.Sx
open Go Go.RowKit Go.Proofs.YtipodhghjclmbaaGreatDoor
def mb:Ty->Nat
 | .int k=>k.bits / 8
 | .bool=>1
 | .str=>16
 | .sl _=>24
 | .pair a b=>mb a+mb b
def wfD:(t:Ty)->t.D->Prop
 | .int k,n=>(Lit.int k n).wf=U
 | .bool,_=>True
 | .str,s=>s.size<=maxLen
 | .sl e,l=>(M l<=maxLen/\M l*mb e<=reachBytes)/\∀d,d∈l->wfD e d
 | .pair a b,d=>wfD a d.1/\wfD b d.2
def WZ (P:Program):Nat->List Field->Bool
 |_,[]=>U
 |o,f::fs=>an (f.offset=o)&&WZ P (o+P.cellsOf f.type) fs
def Ll (P:Program):Nat->TypeId->Bool
 |0,_=>X
 |m+1,t=>match P.underlying t with
  |some (.int _) |some .bool|some .string=>an (P.cellsOf t=1)
  |some (.struct fs)=>WZ P 0 fs.toList&&an (P.cellsOf t=((fs.toList.map (·.type)).map P.cellsOf).sum)&&fs.toList.all (λf=>Ll P m f.type)
  |some (.array n e)=>an (P.cellsOf t=((aq n e).map P.cellsOf).sum)&&Ll P m e
  |some (.slice e)=>an (P.cellsOf t=1)&&an (1<=P.cellsOf e)&&(IL P m e).any (λty=>ty.n==P.cellsOf e&&an (mb ty<=P.bytesOf e))&&Ll P m e
  |_=>X
variable {H : Type} {enc : TypeId × Value -> H} {P : Program} {w : World} {base : Nat} {spare : Nat -> Bool} {held : Bool} {β : Nat -> Loc}
def Good (enc:TypeId×Value->H) (P:Program) (w:World) (base:Nat) (spare:Nat->Bool) (held:Bool) (t:TypeId) (cs:List Value):Prop:=∃n x,DataW.trod enc P w base spare held n t cs=ah x/\∀k,k∈x.1.weights P t->k<=reachBytes
theorem oU {e:TypeId}{d:DataW H}{k:Nat}(hk:k∈d.weights P e):∀ {l:List<|DataW H}{i:Nat},l[i]? =ah d->k∈DataW.weightsAll P e l
 | [],_,h=>Ao
 |x::l,0,h=>by
  simp only [DataW.weightsAll,Be]
  grind
 |x::l,i+1,h=>by
  simp only [DataW.weightsAll,Be];exact .inr<|oU hk h
theorem aDi {t:TypeId}{d:DataW H}{k:Nat}(hk:k∈d.weights P t):∀ {ts:List TypeId}{l:List<|DataW H}{i:Nat},ts[i]? =ah t->l[i]? =ah d->k∈DataW.weightsEach P ts l
 | [],_,_,h,_=>Ao
 |_::_,[],_,_,h=>Ao
 |u::ts,x::l,0,h1,h2=>by
  simp only [DataW.weightsEach,Be]
  grind
 |u::ts,x::l,i+1,h1,h2=>by
  simp only [DataW.weightsEach,Be];exact .inr<|aDi hk h1 h2
theorem aDj:∀ {ts us:List TypeId}{ds gs:List<|DataW H},M ds=M ts->∀k,k∈DataW.weightsEach P ts ds->k∈DataW.weightsEach P (ts++us) (ds++gs)
 | [],_,[],_,_,_,h=>by simp [DataW.weightsEach] at h
 | [],_,_::_,_,h,_,_=>Ao
 |_::_,_,[],_,h,_,_=>Ao
 |t::ts,us,d::ds,gs,h,k,hk=>by
  simp only [DataW.weightsEach,Be,L0] at hk|-;rcases hk with hk|hk
  ·grind
  ·exact .inr<|aDj A8 k hk
def adb:∀ {ts:List TypeId}{vs:List Value}{ds:List<|DataW H}{ps:List MemPlace},DataW.TrodAll enc P w base spare held ts vs ds ps->M ds=M ts
 | [],[],[],_,_=>rfl
 | [],_::_,_,_,h=>Ao
 | [],[],_::_,_,h=>Ao
 |_::_,[],_,_,h=>Ao
 |_::_,_::_,[],_,h=>Ao
 |_::_,_::_,_::_,_,h=>by
  obtain ⟨_,_,_,h2,_⟩:=h
  simp [adb h2]
def RL.append' {Z:Nat->Prop}:∀ {l1 l2:List LV}{y1 y2:List Value},RL β Z w l1 y1->RL β Z w l2 y2->RL β Z w (l1++l2) (y1++y2)
 | [],l2,y1,y2,h1,h2=>by simp only [RL] at h1;subst h1;exact h2
 |x::xs,l2,y1,y2,h1,h2=>by
  obtain ⟨y,zs,rfl,h3,h4⟩:=h1;exact ⟨y,zs++y2,rfl,h3,RL.append' h4 h2⟩
theorem tj {Z:Nat->Prop}:∀(t:Ty) (d:t.D) (cs:List Value) (b o:Nat),RL β Z w (Bn t d) cs->(∀(j:Nat) v,cs[j]? =ah v->w.cell? ⟨b,o+j,aj⟩=ah v)->RD Z w t d b o
 | .int k,d,cs,b,o,h,hc=>by
  exact xd
 | .bool,d,cs,b,o,h,hc=>by
  exact xd
 | .str,d,cs,b,o,h,hc=>by
  exact xd
 | .sl e,d,cs,b,o,h,hc=>by
  obtain ⟨y,zs,rfl,⟨a,cap,rfl,h2,h3⟩,_⟩:=h;simp only [RD];exact ⟨a,cap,hc 0 _ rfl,h2,h3⟩
 | .pair p q,d,cs,b,o,h,hc=>by
  simp only [Bn] at h
  have hl:=RL.length h
  have h1:=h.take_drop 0 p.n
  have h2:RL β Z w ((Bn p d.1++Bn q d.2).drop p.n) (cs.drop p.n):=by
   refine RL.CQ (by simp [hl,K4]) λi z hz=>?_
   rw [F8] at hz|-;exact RL.get _ _ h hz
  have t1:((Bn p d.1++Bn q d.2).drop 0).take p.n=Bn p d.1:=by
   rw [CP,List.take_append_of_le_length yd,DR yd]
  have t2:(Bn p d.1++Bn q d.2).drop p.n=Bn q d.2:=by
   rw [aKS yd,El A8,EB]
  rw [t1,CP] at h1;rw [t2] at h2;simp only [RD];refine ⟨tj p d.1 _ b o h1 λj v hv=>?_,tj q d.2 _ b (o+p.n) h2 λj v hv=>?_⟩
  ·exact aMU
  ·rw [F8] at hv
   grind
theorem oZ {Z:Nat->Prop}{r:TypeId->Option Ty}{sz:TypeId->Nat}{Gd:TypeId->List Value->Prop}:∀(ts:List TypeId) (ty:Ty) (cs:List Value),Uv r ts=ah ty->
  (∀t∈ts,∀ty c,r t=ah ty->Gd t c->∃d:ty.D,RL β Z w (Bn ty d) c/\wfD ty d)->M cs=(ts.map sz).sum->(∀pre t post,ts=pre++t::post->Gd t ((cs.drop (pre.map sz).sum).take<|sz t))->∃d:ty.D,RL β Z w (Bn ty d) cs/\wfD ty d
 | [],ty,cs,h,_,_,_=>by simp [Uv] at h
 | [t],ty,cs,h,ih,hl,hg=>by
  have:=ih t AI ty _ h<|hg [] t [] rfl
  have e:(cs.drop (List.map sz []).sum).take (sz t)=cs:=by
   grind
  rw [e] at this;exact this
 | t::u::ts,ty,cs,h,ih,hl,hg=>by
  simp only [Uv] at h;split at h
  ·rename_i a b ha hb
   simp only [Ah] at h;subst h;obtain ⟨d1,a1,a2⟩:=ih t AI a _ ha<|hg [] t (u::ts) rfl
   obtain ⟨d2,b1,b2⟩:=oZ (sz:=sz) (Gd:=Gd) (u::ts) b (cs.drop<|sz t) hb (λt' ht=>ih t' A8) A8 (λpre t' post e=>by
    have:=hg (t::pre) t' post (by rw [e];rfl)
    simpa using this)
   refine ⟨(d1,d2),?_,by simp only [wfD];exact ⟨a2,b2⟩⟩
   have:=RL.append' a1 b1
   simp only [Bn];exact Py
  ·cases h
theorem qN:∀(fs:List Field) (o:Nat),WZ P o fs=U->∀pre f post,fs=pre++f::post->f.offset=o+((pre.map (·.type)).map P.cellsOf).sum
 | [],o,_,pre,f,post,e=>by cases pre<;>cases e
 |g::fs,o,h,[],f,post,e=>by
  simp only [WZ,AY,Ac] at h
  grind
 |g::fs,o,h,p::pre,f,post,e=>by
  simp only [WZ,AY,Ac] at h;simp only [L0,HU] at e
  have:=qN fs _ h.2 pre f post e.2
  grind
theorem dI {Z:Nat->Prop}(hZ:∀b,b<w.heap.size->Z b):∀(m:Nat) (t:TypeId) (ty:Ty),Ll P m t=U->IL P m t=ah ty->∀cs,Good enc P w base spare held t cs->∃d:ty.D,RL β Z w (Bn ty d) cs/\wfD ty d
 |0,t,_,h,_,_,_=>Ao
 | m + 1,t,ty,h,hty,cs,⟨n,x,hx,hwt⟩=>by
  simp only [Ll] at h;simp only [IL] at hty;split at h
  ·rename_i k hu
   obtain ⟨z,rfl,_,hw⟩:=DataW.trod_int hu hx;simp only [hu,Ah] at hty;subst hty;exact ⟨z,yo,hw⟩
  ·rename_i hu
   obtain ⟨z,rfl,_⟩:=DataW.trod_bool hu hx;simp only [hu,Ah] at hty;subst hty;exact ⟨z,yo,ak⟩
  ·rename_i hu
   obtain ⟨z,rfl,_,hs⟩:=DataW.trod_string hu hx;simp only [hu,Ah] at hty;subst hty;exact ⟨z,yo,hs⟩
  ·rename_i fs hu
   simp only [AY,Ac,BP] at h;obtain ⟨⟨h1,h2⟩,h3⟩:=h;obtain ⟨xs,n',_,rfl,hl,hxl,hf⟩:=DataW.trod_struct hu hx;simp only [DataW.weights,hu] at hwt;simp only [hu] at hty;refine oZ (Gd:=Good enc P w base spare held) (sz:=P.cellsOf) (fs.toList.map (·.type)) ty cs hty (λt' ht ty' c hty' hc=>?_) lR λpre t' post e=>?_
   ·obtain ⟨f,hf1,rfl⟩:=Ej.1 ht
    exact dI hZ m f.type ty' (h3 f hf1) hty' c hc
   ·obtain ⟨fpre,frest,e1,e2,e3⟩:=List.map_eq_append_iff.1 e
    obtain ⟨f,fpost,rfl,e4,e5⟩:=List.map_eq_cons_iff.1 e3
    have ho:=qN fs.toList 0 h1 fpre f fpost e1
    have hi:fs[M fpre]? =ah f:=by
     exact aLt
    have hg:=hf _ f hi
    have hlt:M fpre<fs.size:=(HX.1 hi).1
    rw [ho,EM] at hg;refine ⟨n',xs[M fpre]' A0,?_,λk hk=>?_⟩
    ·rw [<-e2,<-e4,hg,DQ]
    ·rw [<-e4] at hk
     exact hwt k<|aDi hk (i:=M fpre) (by rw [e1];simp) yO
  ·rename_i n0 e hu
   simp only [AY,Ac] at h;obtain ⟨h2,h3⟩:=h;obtain ⟨xs,n',_,rfl,hl,hxl,hf⟩:=DataW.trod_array hu hx;simp only [DataW.weights,hu] at hwt;simp only [hu] at hty;refine oZ (Gd:=Good enc P w base spare held) (sz:=P.cellsOf) (aq n0 e) ty cs hty (λt' ht ty' c hty' hc=>?_) lR λpre t' post e'=>?_
   ·rw [(SV.1 ht).2] at hc hty'
    exact dI hZ m e ty' h3 hty' c hc
   ·obtain ⟨c1,c2,c3⟩:=aKT.1 e'
    have ht':t'=e:=by
     have:t'∈aq n0 e:=by rw [e'];simp
     exact (SV.1 this).2
    have hlen:M pre<n0:=by
     have:=B0 M e'
     simp at this;omega
    have hg:=hf (M pre) hlen
    refine ⟨n',xs[M pre]' A0,?_,λk hk=>?_⟩
    ·have hs:(pre.map P.cellsOf).sum=M pre*P.cellsOf e:=by rw [c2];simp
     rw [hs,ht',hg,DQ]
    ·rw [ht'] at hk
     exact hwt k<|oU hk (i:=M pre) yO
  ·rename_i e hu
   simp only [AY,Ac] at h;obtain ⟨⟨⟨h1,h2⟩,h4⟩,h3⟩:=h;simp only [hu,Option.map_eq_some_iff] at hty;obtain ⟨te,hte,rfl⟩:=hty;rw [hte] at h4;simp only [Option.any_some,AY,Ac,Cz] at h4;obtain ⟨h4,h5⟩:=h4;rcases DataW.trod_slice hu hx with ⟨rfl,_⟩ |⟨a,len,cap,elems,rest,n',_,rfl,rfl,hb,hlc,hm,hlen,hel,_,_⟩
   ·refine ⟨([]:List te.D),?_,⟨N9 _,AI⟩,λd hd=>VX⟩
    simp only [Bn,RL,R]
    grind
   ·simp only [DataW.weights,hu] at hwt
    have hroom:=hwt _<|List.mem_cons_self ..
    have each:∀i,∃d:te.D,i<len->∃c,w.cells? base (a.add<|i*P.cellsOf e) (P.cellsOf e)=ah c/\RL β Z w (Bn te d) c/\wfD te d:=λi=>by
     by_cases hi:i<len
     ·have he:=hel i hi
      rw [DQ A0] at he;obtain ⟨c,hc,ht⟩:=Option.bind_eq_some_iff.1 he
      obtain ⟨d,l1,l2⟩:=dI hZ m e te h3 hte c ⟨n',_,ht,λk hk=>hwt k (by
       simp only [B7,Be];exact .inr<|.inl<|oU hk (i:=i) yO)⟩
      exact ⟨d,λ_=>⟨c,hc,l1,l2⟩⟩
     ·exact ⟨te.dflt,λh=>absurd h hi⟩
    have ⟨g,hg⟩:=xN each
    have hlg:M ((au len).map g)=len:=AI
    refine ⟨(au len).map g,?_,⟨by rw [hlg];omega,by rw [hlg];exact HZ (Nat.mul_le_mul D2 h5) hroom⟩,λd hd=>?_⟩
    ·simp only [Bn,RL,R]
     refine ⟨_,[],rfl,⟨ah a,cap,by rw [hlg],by rw [hlg];omega,λhn=>?_⟩,rfl⟩
     rw [hlg] at hn;obtain ⟨c0,hc0,hr0,_⟩:=hg 0 hn;obtain ⟨_,hcl0,hat0⟩:=World.cells?_some hc0
     have hcell0:∃z,w.cell? ((a.add<|0*P.cellsOf e).add 0)=ah z:=by
      grind
     obtain ⟨z0,hz0⟩:=hcell0;obtain ⟨b,off,spot⟩:=a
     have hsp:spot=none:=by
      cases spot with
      |none=>rfl
      |some q=>
       unfold World.cell? at hz0;split at hz0
       ·simp [Addr.add] at hz0
       ·cases hz0
     subst hsp
     have hbl:b<w.heap.size:=by
      simp only [addr_add] at hz0;unfold World.cell? at hz0;split at hz0
      ·rename_i hh;exact (HX.1 hh).1
      ·cases hz0
     refine ⟨b,off,rfl,hZ b hbl,λi d hd=>?_⟩
     have hi:i<len:=by
      have:=(Dv.1 hd).1
      rwa [hlg] at this
     have hdd:d=g i:=by
      rw [DS,xE hi] at hd
      simpa using hd.symm
     subst hdd;obtain ⟨c,hc,hr,_⟩:=hg i hi;obtain ⟨_,hcl,hat⟩:=World.cells?_some hc;refine tj te (g i) c b _ hr λj v hv=>?_
     have hj:j<P.cellsOf e:=by
      have:=(Dv.1 hv).1
      omega
     have:=hat j hj
     rw [hv] at this;rw [h4]
     simpa [addr_add,HV] using this
    ·obtain ⟨i,hi,rfl⟩:=Ej.1 hd
     obtain ⟨_,_,_,hw⟩:=hg i<|by simpa using hi
     exact hw
  ·cases h
def Jo (P:Program) (m:Nat) (t:TypeId) (l:List LV):Prop:=∃(ty:Ty) (d:ty.D),IL P m t=ah ty/\l=Bn ty d/\wfD ty d
theorem s8 {P:Program}{m:Nat}{t:TypeId}{l:List LV}{ty:Ty}(ht:IL P m t=ah ty) (h:Jo P m t l):∃d:ty.D,l=Bn ty d/\wfD ty d:=by
 obtain ⟨ty',d,h1,h2,h3⟩:=h
 grind
def amz {Z:Nat->Prop}(hZ:∀b,b<w.heap.size->Z b) (m:Nat) (t:TypeId) (hs:Ll P m t=U) (ht:(IL P m t).isSome=U) (cs:List Value) (hg:Good enc P w base spare held t cs):∃l,RL β Z w l cs/\AS 0 l/\Jo P m t l:=by
 obtain ⟨ty,hty⟩:=ZH.1 ht;obtain ⟨d,h1,h2⟩:=dI (β:=β) hZ m t ty hs hty cs hg;exact ⟨Bn ty d,h1,NT 0 ty d,ty,d,hty,rfl,h2⟩
end Go.Sx
namespace Go.Sx
open Go Go.RowKit Go.Proofs.YtipodhghjclmbaaGreatDoor Go.ChangeShapes Go.WideShapes
variable {H : Type} {enc : TypeId × Value -> H} {P : Program} {β : Nat -> Loc} {Z : Nat -> Prop}
theorem ad9 (hl:laidOutB P=U) {W W':World}(hb:Below W.heap.size W W'):∀(ts:List TypeId) (vs:List Value) (ds:List<|DataW H) (ps:List MemPlace),ts.all (λt=>P.readableRec t&&an (t<P.types.size))=U->
  DataW.TrodAll enc P W 0 (λ_=>U) U ts vs ds ps->(∀x∈ps,x.block<W.heap.size)->DataW.TrodAll enc P W' 0 (λb=>an<|b<W.heap.size) U ts vs ds ps
 | [],vs,ds,ps,_,h,_=>by
  cases vs<;>cases ds<;>first|exact h|exact h.elim
 | t::ts,vs,ds,ps,hr,h,hlt=>by
  cases vs with
  |nil=>cases ds<;>exact h.elim
  | cons v vs=>
   cases ds with
   |nil=>exact h.elim
   |cons d ds=>
    obtain ⟨p,q,h1,h2,rfl⟩:=h;simp only [Ic,AY,Ac] at hr;refine ⟨p,q,Below.trod hl hr.1.1 hr.1.2 h1 hb λx hx=>hlt x A8,?_,rfl⟩
    exact ad9 hl hb ts vs ds q A8 h2 λx hx=>hlt x A8
theorem anN {fn:Func}{s:ChangeSpec}{tb:TypeId}{apart:Bool}{W W':World}{args:Array Value}{ds gs:List<|DataW H}{before:List MemPlace}
  (hl:laidOutB P=U) (hr:fn.params.toList.all (λt=>P.readableRec t&&an (t<P.types.size))=U) (hres:fn.resultTypes=#[tb]) (hb:P.underlying tb=ah .bool) (hvars:s.vars=[])
  (hfn:(s.fn H ds).results=[.lit<|.bool U]/\(s.fn H ds).args=ds/\(s.fn H ds).vars=[])
  (hW:DataW.Whole enc P fn.params.toList s.vars apart W args.toList ds gs before) (hB:Below W.heap.size W W'):s.post enc P fn apart U X X W args (.bool U) W':=by
 have hW':=hW
 obtain ⟨p,q,hA,hV,rfl,hfz,hnd⟩:=hW
 have hg:gs=[]/\q=[]:=by
  rw [hvars] at hV;cases gs with
  |nil=>exact ⟨rfl,hV⟩
  |cons g r=>exact hV.elim
 obtain ⟨rfl,rfl⟩:=hg
 have hlt:∀x∈p,x.block<W.heap.size:=λx hx=>hW'.lt x A8
 refine ⟨ds,[],p++[],[],p,[],hW',?_,?_,?_,hB.frame _,λh=>Ao⟩
 ·rw [GK,hfn.1,hres]
  exact trodAll_mk1<|shut_bool hb U
 ·rw [GK,hfn.2.1]
  exact ad9 hl hB _ _ _ _ hr hA hlt
 ·rw [GK,hfn.2.2,hvars]
  rfl
def pLV (P:Program) (t:TypeId) (l:List LV):LV:=
 match P.underlying t with
 |some (.struct _)=>Jc l
 |some (.array _ _)=> .junk
 |_=>match l with
  | [x]=>x
  |_=> .junk
theorem cell_of {w:World}{b0:Nat}{r:Reach}{m:Nat}{t:TypeId}(hs:Ll P m t=U) {v:Value}(hv:Value.okWide P w r b0 t v) (h1:∀fs,P.underlying t=ah (.struct fs)->False) (h2:∀n e,P.underlying t=ah (.array n e)->False):v.cells.toList=[v]:=by
 cases m with
 |zero=>cases hs
 | succ m=>
  simp only [Ll] at hs;split at hs
  ·rename_i k hu
   obtain ⟨n,rfl⟩:=okWide_int hu hv;rfl
  ·rename_i hu
   obtain ⟨n,rfl⟩:=okWide_bool hu hv;rfl
  ·rename_i hu
   obtain ⟨n,rfl⟩:=okWide_string hu hv;rfl
  ·rename_i fs hu
   grind
  ·rename_i n e hu
   grind
  ·rename_i e hu
   obtain ⟨a,l,c,rfl⟩:=okWide_slice hu hv;rfl
  ·cases hs
theorem aef {w:World}{base b0:Nat}{spare:Nat->Bool}{held:Bool}{r:Reach}(hZ:∀b,b<w.heap.size->Z b) {m:Nat}{t:TypeId}(hs:Ll P m t=U) (ht:(IL P m t).isSome=U) {v:Value}{d:DataW H}{p:List MemPlace}(hv:Value.okWide P w r b0 t v) (h:DataW.Trod enc P w base spare held t v d p) (hwt:∀k,k∈d.weights P t->k<=reachBytes):
  ∃l,okV 0 (pLV P t l)/\R β Z w (pLV P t l) v/\Jo P m t l:=by
 obtain ⟨fuel,hf⟩:=h;obtain ⟨l,h1,h2,h3⟩:=amz (β:=β) hZ m t hs ht v.cells.toList ⟨fuel,_,hf,hwt⟩;refine ⟨l,?_,?_,h3⟩
 ·unfold pLV
  split
  ·exact QB h2
  ·trivial
  ·split
   ·exact h2.1
   ·trivial
 ·unfold pLV
  split
  ·rename_i fs hu
   obtain ⟨cs,rfl,_⟩:=okWide_struct hu hv;exact Vz h1
  ·exact Dk
  ·split
   ·rename_i x
    obtain ⟨y,zs,e1,e2,rfl⟩:=h1
    have hc:=cell_of hs hv A8 A8
    grind
   ·exact Dk
def S2 (P:Program):List TypeId->List (List LV)->List LV
 |t::ts,l::ls=>pLV P t l::S2 P ts ls
 |_,_=>[]
def X0 (P:Program) (m:Nat):List TypeId->List (List LV)->Prop
 | [],ls=>ls=[]
 |t::ts,ls=>∃l r,ls=l::r/\Jo P m t l/\X0 P m ts r
theorem adg {w:World}{base b0:Nat}{spare:Nat->Bool}{held:Bool}{r:Reach}(hZ:∀b,b<w.heap.size->Z b) {m:Nat}:∀(ts:List TypeId) (vs:List Value) (ds:List<|DataW H) (ps:List MemPlace),ts.all (λt=>Ll P m t&&(IL P m t).isSome)=U->
  (∀(j:Nat) t v,ts[j]? =ah t->vs[j]? =ah v->Value.okWide P w r b0 t v)->DataW.TrodAll enc P w base spare held ts vs ds ps->(∀k,k∈DataW.weightsEach P ts ds->k<=reachBytes)->∃ls,AS 0 (S2 P ts ls)/\RL β Z w (S2 P ts ls) vs/\X0 P m ts ls
 | [],vs,ds,ps,_,_,h,_=>by
  cases vs with
  |nil=>exact ⟨[],ak,by simp [S2,RL],rfl⟩
  |cons _ _=>cases ds<;>exact h.elim
 | t::ts,vs,ds,ps,hs,hv,h,hwt=>by
  cases vs with
  |nil=>cases ds<;>exact h.elim
  | cons v vs=>
   cases ds with
   |nil=>exact h.elim
   |cons d ds=>
    obtain ⟨p,q,h1,h2,rfl⟩:=h;simp only [Ic,AY] at hs;simp only [DataW.weightsEach,Be] at hwt;obtain ⟨l,a1,a2,a3⟩:=aef (β:=β) hZ hs.1.1 hs.1.2 (hv 0 t v rfl rfl) h1 λk hk=>hwt k<|.inl hk
    obtain ⟨ls,b1,b2,b3⟩:=adg hZ ts vs ds q hs.2 (λj t' v' e1 e2=>hv (j+1) t' v' A8 A8) h2 λk hk=>hwt k<|.inr hk
    exact ⟨l::ls,⟨a1,b1⟩,⟨v,vs,rfl,a2,b2⟩,l,ls,rfl,a3,b3⟩
theorem ae7 {G:B1}{f:FuncId}{fn:Func}{S:List LV->T LV}{s:ChangeSpec}{tb:TypeId}{apart:Bool}{m:Nat}{W:World}{base:Nat}{args:Array Value}{ds gs:List<|DataW H}{before:List MemPlace}
  (hv:Valid P G f S) (hl:laidOutB P=U) (hr:fn.params.toList.all (λt=>P.readableRec t&&an (t<P.types.size))=U) (hres:fn.resultTypes=#[tb]) (hb:P.underlying tb=ah .bool) (hvars:s.vars=[])
  (hfn:(s.fn H ds).results=[.lit<|.bool U]/\(s.fn H ds).args=ds/\(s.fn H ds).vars=[]) (hs:fn.params.toList.all (λt=>Ll P m t&&(IL P m t).isSome)=U)
  (hS:∀ls,X0 P m fn.params.toList ls->(S<|S2 P fn.params.toList ls).all (λx=>x=.v (.bool U)))
  (hg:Pg G (λb=>b<W.heap.size) W)
  (hval:∀(j:Nat) t v,fn.params[j]? =ah t->args[j]? =ah v->Value.okWide P W .any base t v)
  (hW:DataW.Whole enc P fn.params.toList s.vars apart W args.toList ds gs before) {us:List TypeId} (hz:(DataW.weightsEach P (fn.params.toList++us)<|ds++gs).all (·<=reachBytes)=U):
  Calls P f args W λe W'=>∃v,e=.returned v/\s.post enc P fn apart U X X W args v W':=by
 have hA:∃p,DataW.TrodAll enc P W 0 (λ_=>U) U fn.params.toList args.toList ds p:=by
  obtain ⟨p,q,hA,_⟩:=hW
  grind
 obtain ⟨p,hA⟩:=hA;obtain ⟨ls,h1,h2,h3⟩:=adg (β:=β0) (Z:=λb=>b<W.heap.size) (λ_ h=>h) fn.params.toList args.toList ds p hs (λj t v e1 e2=>hval j t v A8 A8) hA λk hk=>Cx<|BP.1 hz k<|aDj (adb hA) k hk
 refine (hv _ args W _ _ (λ_ h=>h) hg h1 h2<|hS ls h3).mono λe W' ⟨hB,v,he,_,hR⟩=>⟨v,he,?_⟩
 rw [hR];exact anN hl hr hres hb hvars hfn hW hB
end Go.Sx
namespace Go.Sx
open Go Go.RowKit Go.Proofs.YtipodhghjclmbaaGreatDoor
variable {H : Type} {enc : TypeId × Value -> H} {P : Program} {w : World} {base : Nat} {spare : Nat -> Bool} {held : Bool}
def PG {H:Type}:Nat->DataW H->List Value
 |0,_=>[]
 |_+1,.lit (.int k n)=>[Y k n]
 |_+1,.lit (.bool b)=>[.bool b]
 |m+1,.agg l=>l.flatMap (PG m)
 |_,_=>[]
def WX (P:Program):Nat->TypeId->Bool
 |0,_=>X
 |m+1,t=>match P.underlying t with
  |some (.int _) |some .bool=>U
  |some (.struct fs)=>WZ P 0 fs.toList&&an (P.cellsOf t=((fs.toList.map (·.type)).map P.cellsOf).sum)&&fs.toList.all (λf=>WX P m f.type)
  |some (.array n e)=>an (P.cellsOf t=((aq n e).map P.cellsOf).sum)&&WX P m e
  |_=>X
theorem pU {sz:TypeId->Nat}{g:DataW H->List Value}{Tr:TypeId->List Value->DataW H->Prop}:∀(ts:List TypeId) (cs:List Value) (ds:List<|DataW H),
  (∀t∈ts,∀c d,Tr t c d->g d=c)->M ds=M ts->M cs=(ts.map sz).sum->(∀pre t post,ts=pre++t::post->∃d,ds[M pre]? =ah d/\Tr t ((cs.drop (pre.map sz).sum).take<|sz t) d)->ds.flatMap g=cs
 | [],cs,ds,_,h0,hl,_=>by
  grind
 |t::ts,cs,[],_,h0,_,_=>A8
 | t::ts,cs,d::ds,ih,h0,hl,hg=>by
  obtain ⟨d',e1,e2⟩:=hg [] t ts rfl
  simp at e1
  subst e1
  have r:=pU (sz:=sz) (g:=g) (Tr:=Tr) ts (cs.drop<|sz t) ds (λt' ht=>ih t' A8) A8 A8 (λpre t' post e=>by
   obtain ⟨q,q1,q2⟩:=hg (t::pre) t' post A8;refine ⟨q,A8,?_⟩
   simpa using q2)
  rw [k9,r,ih t AI _ _ e2]
  simp
theorem qX:∀(m:Nat) (t:TypeId),WX P m t=U->∀(n:Nat) (cs:List Value) (x:DataW H×List MemPlace),DataW.trod enc P w base spare held n t cs=ah x->PG m x.1=cs
 |0,t,h,_,_,_,_=>Ao
 | m +1,t,h,n,cs,x,hx=>by
  simp only [WX] at h;split at h
  ·rename_i k hu
   obtain ⟨z,rfl,rfl,hw⟩:=DataW.trod_int hu hx;rfl
  ·rename_i hu
   obtain ⟨z,rfl,rfl⟩:=DataW.trod_bool hu hx;rfl
  ·rename_i fs hu
   simp only [AY,Ac,BP] at h;obtain ⟨⟨h1,h2⟩,h3⟩:=h;obtain ⟨xs,n',_,rfl,hl,hxl,hf⟩:=DataW.trod_struct hu hx;simp only [PG];refine pU (sz:=P.cellsOf) (Tr:=λt c d=>∃y,DataW.trod enc P w base spare held n' t c=ah y/\y.1=d) (fs.toList.map (·.type)) cs _ (λt' ht c d hc=>?_) (by simp [hxl]) lR λpre t' post e=>?_
   ·obtain ⟨f,hf1,rfl⟩:=Ej.1 ht
    obtain ⟨y,hy,rfl⟩:=hc;exact qX m f.type (h3 f hf1) n' c y hy
   ·obtain ⟨fpre,frest,e1,e2,e3⟩:=List.map_eq_append_iff.1 e
    obtain ⟨f,fpost,rfl,e4,e5⟩:=List.map_eq_cons_iff.1 e3
    have ho:=qN fs.toList 0 h1 fpre f fpost e1
    have hi:fs[M fpre]? =ah f:=by
     exact aLt
    have hg:=hf _ f hi
    have hlt:M fpre<fs.size:=(HX.1 hi).1
    refine ⟨(xs[M fpre]' A0).1,?_,xs[M fpre]' A0,?_,rfl⟩
    ·grind
    ·grind
  ·rename_i n0 e hu
   simp only [AY,Ac] at h;obtain ⟨h2,h3⟩:=h;obtain ⟨xs,n',_,rfl,hl,hxl,hf⟩:=DataW.trod_array hu hx;simp only [PG];refine pU (sz:=P.cellsOf) (Tr:=λt c d=>∃y,DataW.trod enc P w base spare held n' t c=ah y/\y.1=d) (aq n0 e) cs _ (λt' ht c d hc=>?_) (by simp [hxl]) lR λpre t' post e'=>?_
   ·rw [(SV.1 ht).2] at hc
    obtain ⟨y,hy,rfl⟩:=hc;exact qX m e h3 n' c y hy
   ·obtain ⟨c1,c2,c3⟩:=aKT.1 e'
    have ht':t'=e:=by
     grind
    have hlen:M pre<n0:=by
     have:=B0 M e'
     simp at this;omega
    have hs:(pre.map P.cellsOf).sum=M pre*P.cellsOf e:=by rw [c2];simp
    refine ⟨(xs[M pre]' A0).1,?_,xs[M pre]' A0,?_,rfl⟩
    ·grind
    ·grind
  ·cases h
theorem ady {W:World}{name:String}{d:DataW Unit}{rest:List<|String×DataW Unit}{g:Nat}{t:TypeId}{m:Nat}(hg:P.globalNamed name=ah g) (hty:(P.globals[g]?).map (·.type)=ah t) (hp:WX P m t=U)
  (h:laidMet P ((name,d)::rest) W):(∀i,W.cell? ⟨g,i,aj⟩=(PG m d)[i]?)/\((PG m d)≠ []->g<W.heap.size):=by
 obtain ⟨ps,⟨g',t',cs,fuel,p,q,hg',ht',hvar,hd,_,_⟩,_⟩:=h;obtain rfl:=Dw<|hg.symm.trans hg';obtain rfl:=Dw<|hty.symm.trans ht'
 have hf:=qX m t hp fuel _ _ hd
 have hcell:∀i,W.cell? ⟨g,i,aj⟩=(PG m d)[i]? :=λi=>by
  rw [World.var?_cell hg hvar i,hf];simp
 refine ⟨hcell,λhne=>?_⟩
 have h0:=hcell 0
 cases hh:(PG m d)[0]? with
 |none=>exact absurd (List.getElem?_eq_none_iff.1 hh) A8
 |some z=>
  rw [hh] at h0;unfold World.cell? at h0;split at h0
  ·grind
  ·cases h0
end Go.Sx
namespace Go.Proofs.YtipodhghjclmbaaGreatDoor
set_option maxRecDepth 100000
set_option maxHeartbeats 4000000
open Go.Proofs.Tryz
open Go.Sx Go.ChangeShapes Go.WideShapes Go.ChangeAt Go.RowKit
def own:ownKnob prog.godebug=none:=AU
def laidOut:laidOutB prog=true:=AU
def aCI {P:Program}{x:String×DataW Unit}{r:List<|String×DataW Unit}{W:World}(h:laidMet P (x::r) W):laidMet P r W:=by
 obtain ⟨n,d⟩:=x;obtain ⟨ps,⟨g,t,cs,fuel,p,q,h1,h2,h3,h4,h5,rfl⟩,hn,hm⟩:=h;exact ⟨q,h5,(xJ.1 hn).2.1,λb off hb=>hm b off<|List.mem_append_right _ hb⟩
def tt {W:World}{name:String}{d:DataW Unit}{rest:List<|String×DataW Unit}{g:Nat}{t:TypeId}{n:Nat}{f:Nat->Value}(hg:prog.globalNamed name=ah g) (hty:(prog.globals[g]?).map (·.type)=ah t) (hp:WX prog 4 t=U) (h:laidMet prog ((name,d)::rest) W) (key:PG 4 d=(au<|n+1).map f):g<W.heap.size/\∀j,j<n+1->W.cell? ⟨g,j,aj⟩=ah (f j):=by
 obtain ⟨h1,h2⟩:=ady (m:=4) hg hty hp h;refine ⟨h2 (by rw [key];intro h0;exact absurd (B0 M h0) AI),λj hj=>?_⟩
 rw [h1 j,key,DS,xE hj];rfl
def ank {W:World}(h:laidMetH prog [("chargepark/charger.afterwards",Rows.laid_chargepark_charger_afterwards),("chargepark/ramp.happens",Rows.laid_chargepark_ramp_happens),("chargepark/vault.widths",Rows.laid_chargepark_vault_widths)] W):Pg AV (λb=>b<W.heap.size) W:=by
 have h:laidMet prog [("chargepark/charger.afterwards",Rows.laid_chargepark_charger_afterwards),("chargepark/ramp.happens",Rows.laid_chargepark_ramp_happens),("chargepark/vault.widths",Rows.laid_chargepark_vault_widths)] W:=h
 have a1:=tt (t:=260) (n:=59) (f:=λj=> Y J<|We j) (g:=1) AU AU AU h AU
 have a2:=tt (t:=285) (n:=7) (f:=λj=> Y J<|Ue j) (g:=2) AU AU AU (aCI h) AU
 have a3:=tt (t:=122) (n:=4) (f:=λj=> Y J<|aBE j) (g:=0) AU AU AU (aCI<|aCI h) AU
 intro g n f hg;unfold AV at hg;split at hg
 ·cases hg;exact a2
 ·cases hg;exact a1
 ·cases hg;exact a3
 ·cases hg
def aDl {H:Type}{enc:TypeId×Value->H}{P:Program}{w:World}{base:Nat}{spare:Nat->Bool}{held:Bool}:∀ {ts:List TypeId}{vs:List Value}{ds:List<|DataW H}{ps:List MemPlace},DataW.TrodAll enc P w base spare held ts vs ds ps->M ds=M ts
 | [],[],[],_,_=>rfl
 | [],_::_,_,_,h=>Ao
 | [],[],_::_,_,h=>Ao
 |_::_,[],_,_,h=>Ao
 |_::_,_::_,[],_,h=>Ao
 |_::_,_::_,_::_,_,h=>by
  obtain ⟨_,_,_,h2,_⟩:=h
  simp [aDl h2]
def put (vs:Array Value):Obj->Obj
 | .cells _ t frozen=> .cells vs t frozen
 |o=>o
def laidWorld (os:Os):World:=
 {World.holding prog os ⟨#[],#[],[]⟩ with heap:=(((World.holding prog os ⟨#[],#[],[]⟩).heap.modify 2<|put ((au 8).map λj=> Y J<|Ue j).toArray).modify 1<|put ((au 60).map λj=> Y J<|We j).toArray).modify 0<|put ((au 5).map λj=> Y J<|aBE j).toArray}
namespace ParkLeases
def opened (ls:List<|List LV) (h:X0 prog 8 f3.params.toList ls):(abx<|S2 prog f3.params.toList ls).all (λx=>x=.v (.bool U)):=by
 rw [Tryz.params3] at h|-;simp only [X0] at h;obtain ⟨l0,_,rfl,h0,l1,_,rfl,h1,l2,_,rfl,h2,rfl⟩:=h;obtain ⟨d0,rfl,w0⟩:=s8 (ty:=(.pair (.sl Ad)<|.pair (.sl .str)<|.pair (.sl Ai)<|.pair (.sl Ae)<|.sl Aj)) AU h0;obtain ⟨d1,rfl,w1⟩:=s8 (ty:=(.sl<|.int J)) AU h1;obtain ⟨d2,rfl,w2⟩:=s8 (ty:=(.sl<|.pair (.int aw)<|.pair (.int aw)<|.pair (.int .u16)<|.pair AQ Au)) AU h2;simp only [S2,pLV,Tryz.underlying30,Tryz.underlying29,Tryz.underlying28];refine aDt (t':=T.ok<|LV.v<|Value.bool U) AU ?_;exact rfl
def contract (H:Type) (enc:TypeId×Value->H) (W:World) (base:Nat) (args:Array Value) (ds gs:List<|DataW H) (before:List MemPlace)
  (hval:∀(j:Nat) t v,f3.params[j]? =ah t->args[j]? =ah v->Value.okWide prog W .any base t v)
  (hW:DataW.Whole enc prog f3.params.toList Rows.parkLeasesSpec.vars X W args.toList ds gs before) (hL:laidMetH prog Rows.parkLeasesRow.laid W) {us:List TypeId} (hz:(DataW.weightsEach prog (f3.params.toList++us)<|ds++gs).all (·<=reachBytes)=U):
  Calls prog 3 args W λe W'=>∃v,e=.returned v/\Rows.parkLeasesSpec.post enc prog f3 X U X X W args v W':=by
 refine ae7 (m:=8) (tb:=4) aiG laidOut AU AU Tryz.underlying4 rfl ?_ AU opened (ank hL) hval hW hz;obtain ⟨p,q,hA,_⟩:=hW
 have hl:=aDl hA
 rw [Tryz.params3] at hl
 match ds,hl with
 | [_,_,_],_=>exact ⟨rfl,rfl,rfl⟩
def laid_met (os:Os):laidMet prog Rows.parkLeasesRow.laid ((laidWorld os).forCall (λ_ _=>0) ⟨#[],#[.agg #[.slice aj 0 0,.slice aj 0 0,.slice aj 0 0,.slice aj 0 0,.slice aj 0 0],.slice aj 0 0,.slice aj 0 0],[]⟩).memory:=
 laidMet_of_run' 8 AU AU
def reads (os:Os) {H:Type}(enc:TypeId×Value->H):∃places,DataW.whole enc prog ((laidWorld os).forCall (λ_ _=>0) ⟨#[],#[.agg #[.slice aj 0 0,.slice aj 0 0,.slice aj 0 0,.slice aj 0 0,.slice aj 0 0],.slice aj 0 0,.slice aj 0 0],[]⟩).memory f3.params.toList Rows.parkLeasesSpec.vars X #[.agg #[.slice aj 0 0,.slice aj 0 0,.slice aj 0 0,.slice aj 0 0,.slice aj 0 0],.slice aj 0 0,.slice aj 0 0].toList 8=ah ([.agg [.nil,.nil,.nil,.nil,.nil],.nil,.nil],[],places):=
 ⟨[],AU⟩
def lifted (os:Os) (started:os.Started) (H:Type) (enc:TypeId×Value->H) (F:Stop.Interp):
  ReturnsInHanded {} Tryz.checked os 3 .any ((OpenSpec.ofChange Rows.parkLeasesSpec).preRow enc prog f3 Rows.parkLeasesRow.domain X Rows.parkLeasesRow.laid) (((OpenSpec.ofChange Rows.parkLeasesSpec).at F).post enc prog f3 X U X X):=by
 obtain ⟨places,hx⟩:=reads os enc
 refine returnsInHanded_of_row (C:=Tryz.checked) (s:=OpenSpec.ofChange Rows.parkLeasesSpec) own started AU func3
  (witness_row_at (enc:=enc) (C:=Tryz.checked) X (laidWorld os) #[.agg #[.slice aj 0 0,.slice aj 0 0,.slice aj 0 0,.slice aj 0 0,.slice aj 0 0],.slice aj 0 0,.slice aj 0 0] rfl AU AU AU
   (OpenSpec.preRow_of_cond 8 hx AU (λk hk=>NF) AU<|laid_met os)) ?_
 intro W base args ds gs before hval hW _ _ hz hL _ _;exact contract H enc W base args ds gs before hval hW hL hz
def said:Rows.ParkLeasesSaid:=
 OpenClaim.holds_of_cond 3 f3 rfl rfl rfl rfl rfl rfl rfl ⟨rfl,rfl,rfl,rfl,rfl⟩ rfl rfl rfl rfl rfl AU func3 AU
  (Cx AU) (by unfold Func.isWrapper;first|(rw [AD<|by decide+kernel];kernel_rfl) |(rw [AE<|by decide+kernel];exact ⟨rfl,rfl⟩))
  (λos started H enc _ F=>by rw [OpenClaim.pre_eq_preRow];exact lifted os started H enc F)
def plain (f:FuncId) (fn:Func) (hf:Tryz.pinned.checked.prog.funcNamed "chargepark/chargeparklaw44.ParkLeases"=ah f) (hfn:Tryz.pinned.checked.prog.funcs[f]? =ah fn):
  U=Tryz.pinned.checked.prog.looks []/\∀(j:Nat) t,fn.params[j]? =ah t->Tryz.pinned.checked.prog.wantsStandIn t=false:=by
 obtain rfl:f=3:=Dw ((show prog.funcNamed "chargepark/chargeparklaw44.ParkLeases"=ah 3 by kernel_rfl).symm.trans hf) |>.symm
 obtain rfl:fn=f3:=(Dw<|func3.symm.trans hfn).symm;refine ⟨AU,λj t ht=>?_⟩
 have h:f3.params.toList.all (λt=>!prog.wantsStandIn t)=true:=AU
 have:=BP.1 h t<|by simpa using Array.mem_of_getElem? ht
 show prog.wantsStandIn t=X
 simpa using this
def card:Rows.ParkLeasesCardSaid:=
 Claim7.holds_tied_plain_at .later [] _ _ _ _ said (λ_ h=>Ao) AU (λ_ h=>Ao) parkLeases_row_tie rfl ⟨rfl,rfl⟩ AU rfl plain AU
end ParkLeases
theorem parkLeases_card:Rows.ParkLeasesCardSaid:=ParkLeases.card
end Go.Proofs.YtipodhghjclmbaaGreatDoor
end
