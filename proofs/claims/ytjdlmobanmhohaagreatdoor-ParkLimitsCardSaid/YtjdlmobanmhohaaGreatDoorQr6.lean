/- ParkLimits returns true for all arguments. -/
import Derived.Test.YtjdlmobanmhohaaGreatDoorQr5
set_option linter.defProp false
set_option linter.unusedVariables false
set_option linter.unusedSimpArgs false
noncomputable section
open List renaming length→M,length→aa,replicate→aq,range→au
open Bool renaming true→U,true→ae,false→X,false→af
open Go.Value renaming int→ag
open Option renaming some→ah,none→aj
open Go.IntKind renaming i64→J,i64→ai,u8→aw,u32→ax
open True renaming intro→ak
open Decidable renaming decide→an
open ByteArray renaming mk→av
open Go.Region renaming ready→ay,wanted→az
open Go.Instr renaming findNow→aA
namespace Go.Proofs.YtjdlmobanmhohaaGreatDoor
set_option maxRecDepth 100000
set_option maxHeartbeats 4000000
open Go.Proofs.Tryz
open Go.Sx
variable {p : PK}
def LX.tick (h:LX p) (g:TG p) (hJ:JP p) (ht:p.tk<=1000):LX p.BX/\Bn p.gs (FL p.gs<|WJ (Ai p.AK.se p.AK.fl) p.dr<|p.tk+1) p.AZ.st:=by
 obtain ⟨e1,e2,e3,e4,e5,e6,e7,e8,e9,e10,e11,e12,e13,e14⟩:=J0 p
 have hv:=hJ.1.1
 have htk:=hv.tk
 have hvd:=hv.dec
 obtain ⟨d1,d2,d3,d4⟩:=h.dec g hJ ht
 have hdr:∀j:Y,0<=j->j<(M p.gs:Y)->-200<=gi p.dr j/\gi p.dr j<=200:=λj j0 j1=>RJ hv j j0 yk
 have s0:Bn p.gs (FL p.gs<|WJ (Ai p.AK.se p.AK.fl) p.dr p.tk) p.st:=⟨h.st.1,λj j0 j1=>(h.st.2 j j0 j1).vl (hdr j j0 j1) ht g.v23 d3.1⟩
 have s1:Bn p.gs (FL p.gs<|WJ (Ai p.AK.se p.AK.fl) p.dr p.tk) p.AK.Ik.st:=by
  show Bn p.gs _ (L5 p.AK.gs p.AK.lk p.AK.tk p.AK.st<|M p.AK.lk)
  rw [e4,e6,e8];refine s0.arr (t:=p.tk) (λl hl'=>⟨by have:=hvd.lk l hl';rwa [e4] at this,λc s hs=>hs.gv (λa u u' hw hu=>WL.le hw aOb) λ_=>?_⟩) _<|Aq _
  obtain ⟨b1,b2,b3⟩:=d4 l hl'
  have c1:=hvd.lk l hl'
  rw [e4] at c1
  have ht12:l.2.2.2.2.2=12:=by
   have:=(g.dec hJ).vl
   obtain ⟨vl,k,w1,w2⟩:=this
   have e:Ai p.AK.se p.AK.fl=vl:=w1.ld.2
   rw [e] at b1;exact (w2 _ b1).2.2.1
  refine ⟨l.2,b1,rfl,rfl,?_⟩
  show l.2.2.2.2.2+B8 p.tk (gi p.dr l.2.2.1)<=12+B8 (l.2.2.2.2.1+4) (gi p.dr l.2.2.1)
  have:=pt (t:=p.tk) (t':=l.2.2.2.2.1+4) (hdr _ c1.1 c1.2) htk.1 A0 (by
   have:=(g.dec hJ).vl
   obtain ⟨vl,k,w1,w2⟩:=this
   have e:Ai p.AK.se p.AK.fl=vl:=w1.ld.2
   rw [e] at b1
   have:=(w2 _ b1).2.1
   omega)
  omega
 have s2:Bn p.gs (FL p.gs<|WJ (Ai p.AK.se p.AK.fl) p.dr<|p.tk+1) p.AZ.st:=by
  have:=acE (t:=p.tk) (dr:=p.dr) s1 (RJ hv) hv.dr A0 (M p.dr)<|Aq _
  show Bn p.gs _ (JL p.AK.gs p.AK.dr p.AK.tk p.AK.Ik.st<|M p.AK.dr)
  rw [e4,e13,e6];refine ⟨this.1,λj j0 j1=>(this.2 j j0 j1).le λa l _ ⟨x,q1,q2,q3,q4⟩=>⟨x,q1,q2,q3,?_⟩⟩
  have q4:l+(if j<((M p.dr:aVx):Y) then B8 (p.tk+1) (gi p.dr j) else B8 p.tk (gi p.dr j))<=_:=q4
  rw [AD yk] at q4;exact q4
 have f4:p.AZ.gs=p.gs:=e4
 have s3:Bn p.gs (FL p.gs<|WJ (Ai p.AK.se p.AK.fl) p.dr<|p.tk+1) p.AZ.dw.st:=by
  have:=Bn.dw (gs:=p.gs) (ca:=p.AZ.ca) (s:=⟨p.AZ.st,p.AZ.mi,p.AZ.me,aq (M p.AZ.gs) 0⟩) s2 (λj s hs=>hs.gv (λa u u' hw hu=>WL.le hw aOb) λhk=>Na) (M p.gs)<|Aq _
  show Bn p.gs _ (D9 p.AZ.gs p.AZ.ca _<|M p.AZ.gs).st
  rw [f4];rw [f4] at this;exact this
 have et:p.BX.tk=p.tk+1:=B2 (·+1) e6
 have eg:p.BX.gs=p.gs:=e4
 have ed:p.BX.dr=p.dr:=e13
 have eu:p.BX.up=p.up:=e7
 have es:p.BX.se=p.AK.se:=rfl
 have ef:p.BX.fl=p.AK.fl:=rfl
 have el:p.BX.ls=p.AK.ls:=rfl
 have ek:p.BX.st=p.AZ.dw.st:=rfl
 refine ⟨⟨?_,?_,?_,?_⟩,s2⟩
 ·rw [es,ef,el,et,eu]
  intro c;obtain ⟨c1,c2⟩:=d1 c;exact ⟨λy hy he=>c1 y hy<|Int.lt_trans (Int.lt_succ p.tk) he,λy hy he=>c2 y hy<|Int.lt_trans (Int.lt_succ p.tk) he⟩
 ·rw [eu,el]
  exact d2
 ·rw [eg,ed,et,es,ef,ek]
  exact s3
 rw [es,ef];intro l hl
 have hm:l∈p.AK.lk/\an (l.1>p.AK.tk)=true:=Cg.1 hl
 have h4:=d4 l hm.1
 have h2:=DH hm.2
 rw [e6] at h2;rw [et];exact ⟨h4.1,Int.add_one_le_iff.2 h2,h4.2.2⟩
def LX.step (h:LX p) (g:TG p) (hJ:JP p) (ht:p.tk<=1000) {e:EV}(he:BO p e=0):LX (BM p e):=by
 have hv:=hJ.1.1
 unfold BM;rw [AE A0];unfold BO at he;rw [AE nR] at he
 have cr:∀ {i:Y},p.isC i≠X->0<=i/\i<(M p.gs:Y):=λ{i} hh=>by
  exact aN7
 have gv:∀ {st:aVW} {i k n m:Y},Bn p.gs (FL p.gs<|WJ (Ai p.se p.fl) p.dr p.tk) st->(0<=i/\i<(M p.gs:Y))->k≠7/\k≠8->Bn p.gs (FL p.gs<|WJ (Ai p.se p.fl) p.dr p.tk) (CW p.gs st i k n m):=λ{st i k n m} hs hi hk=>
  hs.gv hi.1 hi.2 λhs=>hs.gv (λa u u' hw hu=>WL.le hw (by rw [AE hk.2] at hu;omega)) λc=>absurd c hk.1
 split
 ·exact (h.tick g hJ ht).1
 rename_i h1;rw [AE h1] at he;split
 ·rename_i h2
  rw [AD h2] at he;unfold PK.GL at he;split at he
  ·cases he
  rename_i hi
  have hi:=cr hi
  exact {h with st:=gv (gv (gv (gv h.st hi Aa) hi Aa) hi Aa) hi Aa}
 rename_i h2;rw [AE h2] at he;split
 ·rename_i h3
  rw [AD h3] at he;unfold PK.JK at he;split at he
  ·cases he
  rename_i hi
  have hi:=cr hi
  exact {h with st:=gv (gv h.st hi Aa) hi Aa}
 rename_i h3;rw [AE h3] at he;split
 ·exact {h with lk:=λl hl=>h.lk l (Cg.1 hl).1}
 rename_i h4;rw [AE h4] at he;split
 ·exact ⟨λc=>F6,λ_=>rfl,h.st,h.lk⟩
 rename_i h5;rw [AE h5] at he;split
 ·refine ⟨λ_=>?_,λc=>F6,h.st,h.lk⟩
  obtain ⟨k,v1,v2⟩:=g.vl
  have htk:=hv.tk
  have e:BW (Ai p.se p.fl) p.tk=(Ai p.se p.fl).filter (LF p.tk):=AD (by unfold Kz;rw [v1.lv,BS.2 A0];rfl)
  show (∀y∈Ai p.se p.fl,DF y>p.tk->y∈BW (Ai p.se p.fl) p.tk)/\∀y∈BW (Ai p.se p.fl) p.tk,DF y>p.tk->y∈Ai p.se p.fl
  rw [e];exact ⟨λy hy he=>Cg.2 ⟨hy,CY he⟩,λy hy _=>(Cg.1 hy).1⟩
 rename_i h6;rw [AE h6] at he;split
 ·rename_i h7
  rw [AD h7] at he;unfold PK.O6 at he;split at he
  ·cases he
  rename_i hi;exact {h with st:=gv h.st (cr hi) Aa}
 ·exact {h with}
def az5 {cs:aVF}{os:aVz}{ks:aVK}{gs:aVA}{bs:aVL}{dr:aVw}(h:DL cs os ks gs bs dr=0):LX (newP cs os ks gs bs dr):=by
 have hp:newP cs os ks gs bs dr=_:=AE nV
 obtain ⟨vl,k,v1,v2⟩:=(aSB h).sg.vl
 have hs:=(uk h).1.site
 rw [hp] at v1 hs|-
 have e:Ai (⟨512,Dx⟩:Int×List Int).1 Dx=[]:=(⟨rfl,rfl,⟨0,1019,_,gM⟩,Cj _⟩:VI 512 Dx [] 0).ld.2
 refine ⟨λ_=>⟨λy hy _=>?_,λy hy=>(by cases hy)⟩,λc=>rfl,⟨Ci,λj j0 j1=>?_⟩,λl hl=>(by cases hl)⟩
 ·have hy:y∈Ai 512 Dx:=hy
  rw [show Ai 512 Dx=[] from e] at hy;exact hy
 ·have e0:BF (aq (M gs) ((0,0,0,X):St)) j=(0,0,0,X):=by
   unfold BF;rw [DA,QM];split<;>rfl
  simp only [e0]
  have hc:=Nk hs j0 j1
  unfold G4 MQ at hc;simp only [AX,Cf,Cz,BS] at hc;exact ⟨Kf.2 ⟨To.2 A0,Aa,(by decide:(0:Y)<=5),Aa,(by decide:(0:Y)<=1000000),Aa,aOk,λ_=>rfl,λc=>F6⟩,λc=>absurd c Aa⟩
def aht {gs:aVA}{vl:aVG}{dr:aVw}{t u j:Y}{s:St}(h:FL gs (WJ vl dr t) j s) (hw:s.2.2.2=X) (hd:-200<=gi dr j/\gi dr j<=200) (ht:t<=1000000) (hv:B0 vl=U) (hb:below (M gs) vl=U)
  (hT:∀x∈vl,0<=x.2.2.2.1/\DF x=x.2.2.2.1+23) (hu:∀x∈vl,x.2.2.2.1<=u) (ut:u<=t):Be (AF gs j) s<=mx (CV<|AF gs j) (gi (GP (M gs) vl u) j):=by
 obtain ⟨q1,q2⟩:=h
 have qv:=Kf.1 q1
 have hfb:0<=CV (AF gs j):=by
  have:=To.1 qv.1
  unfold CV;omega
 unfold Be;rw [AD q1,AE (by rw [hw];decide)]
 split
 ·unfold mx;split<;>omega
 split
 ·rename_i c
  obtain ⟨x,b1,b2,b3,b4,b5⟩:=aHi (q2 A0) A0 hd ht λx hx=>(hT x hx).1
  have ha:Fb u x=true:=by
   unfold Fb;rw [CY<|hu x b1,CY (by have:=(hT x b1).2;omega)]
   rfl
  have:=sX (gs:=gs) hv hb b1 ha
  rw [b2,b3] at this;exact mw
 ·show CV _<=_
  exact mw
structure LG (p:PK):Prop where
 tg:TG p
 lx:LX p
def LG.step (h:LG p) (hJ:JP p) (ht:p.tk<=1000) {e:EV}(he:BO p e=0):LG (BM p e):=⟨h.tg.step hJ he,h.lx.step h.tg hJ ht he⟩
end Go.Proofs.YtjdlmobanmhohaaGreatDoor
namespace Go.Proofs.YtjdlmobanmhohaaGreatDoor
set_option maxRecDepth 100000
set_option maxHeartbeats 4000000
open Go.Proofs.Tryz
open Go.Sx
variable {p : PK}
def Hl.refl (C:aVF):Hl C C:=⟨rfl,λ_=>rfl,λ_=>Cj _⟩
def iJ (hv:VP p):B6 p.EL p.os p.ks p.gs p.bs=true:=pg hv.site hv.tg1 _ nI
def frm (T:Y) (l:aVG):aVG:=l.filter λx=>an<|T<=x.2.2.2.1
def Tj {T:Y}{l:aVG}{x:Le}:x∈frm T l↔x∈l/\T<=x.2.2.2.1:=by unfold frm;rw [Cg,Ab]
def aBd {T:Y}{l:aVG}(h:B0 l=U):B0 (frm T l)=true:=qK h xv
def R4 {T:Y}{n:aVx}{t:Y}{l:aVG}(h:∀x∈l,TL n t x):below n l=U/\below n (frm T l)=true:=
 ⟨BH.2 λx hx=>CY (h x hx).2.2.2,BH.2 λx hx=>CY (h x (Tj.1 hx).1).2.2.2⟩
structure TU (T:Y) (p:PK):Prop where
 jp:JP p
 tg:TG p
 up:p.up=U
 tk:T<=p.tk
 kn:DG p.EL p.gs (D4 p.gs (frm T p.ls) p.tk)=U
def TG.tu (h:TG p) (hJ:JP p) (hu:p.up=U):TU p.tk p:=by
 refine ⟨hJ,h,hu,Cj _,?_⟩
 have e:frm p.tk p.ls=[]:=List.filter_eq_nil_iff.2 λx hx=>by
  have:=(h.sg.ls.2 x hx).1
  rw [Ab];omega
 rw [e]
 have hs:=iJ hJ.1.1
 have hl:M (Bt p.gs)=M p.gs:=IT
 refine Qu hs hs (Hl.refl _) (λk hk=>qF hs A0) (λk hk=>⟨(IV hs rfl A0 A0).1,?_⟩) h.kt
 exact aMF
def TU.dec {T:Y}(h:TU T p) {t':Y}(ht:p.tk<=t'):DG p.EL p.gs (D4 p.gs (frm T p.AK.ls) t')=true:=by
 have hd:=h.tg.dec h.jp
 have hs:=iJ h.jp.1.1
 have b0:=R4 (T:=T) h.tg.sg.ls.2
 have b1:=R4 (T:=T) hd.ls.2
 have v0:=aBd (T:=T) h.jp.2.2
 have v1:=aBd (T:=T) hd.ls.1
 have hx:=iA h.jp
 by_cases c:p.dE=0
 ·obtain ⟨V,M,_⟩:=jP c
  refine aG9 V hs (Hl.refl _) M v0 b0.2 v1 b1.2 (λx hx'=>?_) (λx hx'=>?_) h.kn ht
  ·obtain ⟨q1,q2⟩:=Tj.1 hx'
   have:=(h.tg.sg.ls.2 x q1).1
   exact ⟨A0,λq=>by rw [hx];exact Cg.2 ⟨q1,CY q⟩⟩
  ·obtain ⟨q1,q2⟩:=Tj.1 hx'
   have q1:x∈p.AK.ls:=q1
   unfold PK.AK at q1;rw [AE yx,AE A0] at q1;rcases tz _ (Aq _) x q1 with q|q
   ·have q:x∈Dt p.ls p.tk:=q
    rw [hx] at q;exact .inl<|Tj.2 ⟨(Cg.1 q).1,q2⟩
   ·exact .inr q
 ·refine Qu hs hs (Hl.refl _) (λk hk=>IV hs v0 A0 A0) (λk hk=>⟨(IV hs v1 A0 A0).1,dV v0 b0.2 v1 b1.2 (λx hx' ha=>?_) A0 A0⟩) h.kn
  obtain ⟨q1,q2⟩:=Tj.1 hx'
  have q1:x∈p.AK.ls:=q1
  unfold PK.AK at q1;rw [AE yx,AD c] at q1
  have q1:x∈Dt p.ls p.tk:=q1
  rw [hx] at q1
  have q3:=(Cg.1 q1).1
  have:=(h.tg.sg.ls.2 x q3).1
  exact ⟨Tj.2 ⟨q3,q2⟩,rD ht A0 ha⟩
def TU.tick {T:Y}(h:TU T p) (ht:p.tk<1000000):TU T p.BX:=by
 obtain ⟨e1,e2,e3,e4,e5,e6,e7,e8,e9,e10,e11,e12,e13,e14⟩:=J0 p;obtain ⟨he,eP,_,_,etk⟩:=eI h.jp ht
 have hJ:=h.jp.step he
 rw [eP] at hJ
 have eg:p.BX.gs=p.gs:=e4
 have eT:p.BX.tg=p.tg:=e14
 have ea:p.BX.EL=p.EL:=by
  show E0 p.BX.cs p.BX.tg (M p.BX.tg)=_
  rw [eT];exact (rW h.jp.1.1).ask h.jp.1.1.Ep
 refine ⟨hJ,h.tg.tick h.jp,e7.trans h.up,by have:=h.tk;omega,?_⟩
 rw [ea,eg,etk];exact h.dec A0
def aif:wt 12=13:=Aa
def TU.last {T:Y}(h:TU T p) (ht:p.tk<1000000) (hT:T+22<=p.tk):∀k:aVx,k<M p.cs->(Ae p.BX.cs k).2.2.1=gi p.tg k:=by
 obtain ⟨e1,e2,e3,e4,e5,e6,e7,e8,e9,e10,e11,e12,e13,e14⟩:=J0 p
 have hv:=h.jp.1.1
 have hd:=h.tg.dec h.jp
 have hs:=iJ hv
 have b1:=R4 (T:=T) hd.ls.2
 have v1:=aBd (T:=T) hd.ls.1
 have gl:=(DC.1 hv.site).1.2.2.2.2.1
 have htk:=hv.tk
 have ec:p.BX.cs=Cp p.gs p.tg (D4 p.gs p.AK.ls<|p.tk+1) p.cs (M p.tg):=by
  have a1:p.AZ.BY.cs=p.cs:=e1
  have a2:p.AZ.BY.tg=p.tg:=e14
  have a3:p.AZ.BY.gs=p.gs:=e4
  have a4:p.AZ.BY.tk=p.tk:=e6
  have a5:p.AZ.BY.up=p.up:=e7
  have a6:p.AZ.BY.ls=p.AK.ls:=rfl
  show (if p.AZ.BY.up=X then p.AZ.BY.cs else Cp p.AZ.BY.gs p.AZ.BY.tg p.AZ.BY.Jg p.AZ.BY.cs (M p.AZ.BY.tg))=_
  rw [a5,AE yx];unfold PK.Jg JU
  rw [a1,a2,a3,a4,a6,AD (by
   rw [AD];unfold K5;rw [show B0 p.AK.ls=U from hd.ls.1,BS.2 A0,BS.2 A0,show below (M p.gs) p.AK.ls=U from b1.1];rfl)]
 rw [ec]
 have hb:∀k:aVx,k<M p.gs->0<=gi (D4 p.gs p.AK.ls<|p.tk+1) k/\gi (D4 p.gs p.AK.ls<|p.tk+1) k<=80:=λk hk=>IV hs hd.ls.1 A0 A0
 intro k hk;refine aIf hv.site (λk hk=>?_) hv.Ep IT hb (Qu hs hs (Hl.refl _) (λk hk=>IV hs v1 A0 A0) (λk hk=>⟨(hb k hk).1,dV v1 b1.2 hd.ls.1 b1.1 (λx hx ha=>⟨Tj.2 ⟨hx,?_⟩,ha⟩) A0 A0⟩)<|h.dec (t':=p.tk+1) A0) _ nI k (by rw [hv.Ep];exact hk)
 ·exact hv.tg k (by rw [hv.Ep];exact hk)
 ·have q:=(hd.ls.2 x hx).2.1
  unfold Fb DF at ha;rw [q,aif] at ha;simp only [AX,Ab] at ha;omega
def TU.Dr {T:Y}:∀(n:aVx) {p:PK}{l:Y},TU T p->p.tk+n<1000000->
  (CR n p l).2.2=U/\TU T (CR n p l).1/\(1<=n->T+23<=p.tk+n->∀k:aVx,k<M (CR n p l).1.cs->(Ae (CR n p l).1.cs k).2.2.1=gi (CR n p l).1.tg k)
 |0,p,l,h,_=>⟨rfl,h,λh=>A0⟩
 | n+1,p,l,h,ht=>by
  obtain ⟨he,e2,e3,hl,htk⟩:=eI h.jp A0;rw [CR,AD ⟨he,hl⟩,e2]
  have h2:=h.tick A0
  obtain ⟨a1,a2,a3⟩:=TU.Dr n (l:=if M (CU p Cw)>0 then gi (CU p Cw) 0 else l) h2 A0
  refine ⟨a1,a2,λ_ hT=>?_⟩
  by_cases c:n=0
  ·subst c
   show ∀k:aVx,k<M p.BX.cs->(Ae p.BX.cs k).2.2.1=gi p.BX.tg k
   rw [show p.BX.tg=p.tg from (J0 p).2.2.2.2.2.2.2.2.2.2.2.2.2,(rW h.jp.1.1).1];exact h.last A0 A0
  ·exact a3 A0 A0
end Go.Proofs.YtjdlmobanmhohaaGreatDoor
namespace Go.Proofs.YtjdlmobanmhohaaGreatDoor
set_option maxRecDepth 100000
set_option maxHeartbeats 4000000
open Go.Proofs.Tryz
open Go.Sx
def Bn.Dr {gs:aVA}{Q:Y->St->Prop}{st:aVW}(h:Bn gs Q st) (hq:∀j s,Q j s->Q j (EJ (AF gs j) s 8 0 0)) {i:Y}(h0:0<=i) (h1:i<(M gs:Y)):∀k:aVx,Bn gs Q (L8 gs st i k)
 |0=>h
 |k+1=>(Bn.Dr h hq h0 h1 k).gv h0 h1<|hq _ _
def Bn.cnt {gs:aVA}{Q:Y->St->Prop}{dr:aVw}{t:Y}{st:aVW}(h:Bn gs Q st) (hq:∀j s,Q j s->Q j (EJ (AF gs j) s 8 0 0)):∀n,n<=M gs->Bn gs Q (JL gs dr t st n)
 |0,_=>h
 |n+1,hn=>by
  unfold JL;split
  ·exact (Bn.cnt h hq n A0).Dr hq A0 A0 _
  ·exact Bn.cnt h hq n A0
def uA {gs:aVA}{tg am:aVw}{cs:aVF}:∀n,Cp gs tg am cs n=cs\/DG (Cp gs tg am cs n) gs am=U
 |0=> .inl rfl
 | n+1=>by
  unfold Cp;split
  ·exact uA n
  ·split
   ·rename_i c
    rw [AX] at c;exact .inr c.2
   ·exact uA n
variable {p : PK}
def aU8 (hv:VP p):Hl p.EL p.cs:=aU7 ⟨rfl,λj=>⟨(Ae p.cs j).2.2.1,rfl⟩⟩ hv.Ep λj hj=>(hv.tg j (by rw [hv.Ep];exact hj)).2
structure LM (p:PK):Prop where
 fi:FI p
 tg:TG p
 lx:LX p
 kp:DG p.cs p.gs (D4 p.gs (Ai p.se p.fl) p.tk)=U
def LM.dec (h:LM p) (hJ:JP p) (ht:p.tk<=1000) {t':Y}(h1:p.tk<=t'):DG p.cs p.gs (D4 p.gs (Ai p.AK.se p.AK.fl) t')=true:=by
 have hv:=hJ.1.1
 have hs:=hv.site
 obtain ⟨k,v1,v2⟩:=h.tg.vl;obtain ⟨vl',k',w1,w2⟩:=(h.tg.dec hJ).vl
 have e:Ai p.AK.se p.AK.fl=vl':=w1.ld.2
 obtain ⟨d1,d2,⟨d3,d5⟩,d4⟩:=h.lx.dec h.tg hJ ht;rw [e] at d5|-
 have b0:below (aa p.gs) (Ai p.se p.fl)=true:=(R4 (T:=0) λx hx=>(v2 x hx).2).1
 have b1:below (aa p.gs) vl'=true:=(R4 (T:=0) λx hx=>(w2 x hx).2).1
 by_cases c:p.up=U/\p.dE=0
 ·obtain ⟨V,M,_⟩:=jP c.2
  obtain ⟨u1,_⟩:=h.lx.up c.1;refine aG9 V hs (aU8 hv) M v1.lv b0 w1.lv b1 (λx hx=>⟨by have:=(v2 x hx).2.1;omega,λq=>?_⟩) (λx hx=>(d5 x hx).imp id λq=>q.2.2) h.kp h1
  rw [iA hJ];exact Cg.2 ⟨u1 x hx q,CY q⟩
 ·refine Qu hs hs (Hl.refl _) (λk hk=>IV hs v1.lv A0 A0) (λk hk=>⟨(IV hs w1.lv A0 A0).1,dV v1.lv b0 w1.lv b1 (λx hx ha=>?_) A0 A0⟩) h.kp
  rcases d5 x hx with q|q
  ·exact ⟨q,rD h1 (by have:=(v2 x q).2.1;omega) ha⟩
  ·exact absurd ⟨q.1,q.2.1⟩ c
def LM.tick (h:LM p) (hJ:JP p) (ht:p.tk<=1000):LM p.BX:=by
 obtain ⟨e1,e2,e3,e4,e5,e6,e7,e8,e9,e10,e11,e12,e13,e14⟩:=J0 p;obtain ⟨_,_,_,_,etk⟩:=eI hJ A0
 have hv:=hJ.1.1
 have htk:=hv.tk
 refine ⟨h.fi.tick hv A0,h.tg.tick hJ,(h.lx.tick h.tg hJ ht).1,?_⟩
 have eg:p.BX.gs=p.gs:=e4
 have es:p.BX.se=p.AK.se:=rfl
 have ef:p.BX.fl=p.AK.fl:=rfl
 have hk:=h.dec hJ ht (t':=p.tk+1) A0
 have a1:p.AZ.BY.cs=p.cs:=e1
 have a2:p.AZ.BY.tg=p.tg:=e14
 have a3:p.AZ.BY.gs=p.gs:=e4
 have a4:p.AZ.BY.tk=p.tk:=e6
 have a5:p.AZ.BY.up=p.up:=e7
 have a6:p.AZ.BY.ls=p.AK.ls:=rfl
 have ec:p.BX.cs=if p.up=X then p.cs else Cp p.gs p.tg p.AZ.BY.Jg p.cs (M p.tg):=by
  show (if p.AZ.BY.up=X then p.AZ.BY.cs else Cp p.AZ.BY.gs p.AZ.BY.tg p.AZ.BY.Jg p.AZ.BY.cs (M p.AZ.BY.tg))=_
  rw [a5,a1,a2,a3]
 rw [eg,es,ef,etk,ec]
 by_cases hu:p.up=X
 ·rw [AD hu];exact hk
 rw [AE hu]
 have hu:p.up=true:=by simpa using hu
 rcases uA (gs:=p.gs) (tg:=p.tg) (am:=p.AZ.BY.Jg) (cs:=p.cs) (M p.tg) with e|e
 ·rw [e];exact hk
 have hd:=h.tg.dec hJ
 obtain ⟨vl',k',w1,w2⟩:=hd.vl
 have el:Ai p.AK.se p.AK.fl=vl':=w1.ld.2
 obtain ⟨d1,_⟩:=h.lx.dec h.tg hJ ht;obtain ⟨u1,_⟩:=d1 hu;rw [el] at u1|-
 have b1:below (M p.gs) vl'=true:=(R4 (T:=0) λx hx=>(w2 x hx).2).1
 have b2:below (M p.gs) p.AK.ls=true:=(R4 (T:=0) hd.ls.2).1
 have gl:=(DC.1 hv.site).1.2.2.2.2.1
 have ea:p.AZ.BY.Jg=D4 p.gs p.AK.ls (p.tk+1):=by
  unfold PK.Jg JU
  rw [a3,a4,a6,AD (by
   rw [AD];unfold K5;rw [show B0 p.AK.ls=U from hd.ls.1,BS.2 A0,BS.2 A0,b2];rfl)]
 have hs2:B6 (Cp p.gs p.tg p.AZ.BY.Jg p.cs<|M p.tg) p.os p.ks p.gs p.bs=true:=pS hv.site hv.tg1 _ nI
 rw [ea] at e hs2|-;refine Qu hs2 hs2 (Hl.refl _) (λk hk=>IV hv.site hd.ls.1 A0 A0) (λk hk=>⟨(IV hv.site w1.lv A0 A0).1,dV hd.ls.1 b2 w1.lv b1 (λx hx ha=>⟨u1 x hx ?_,ha⟩) A0 A0⟩) e
 unfold Fb at ha;simp only [AX,Ab] at ha;omega
def LM.step (h:LM p) (hJ:JP p) (ht:p.tk<=1000) {e:EV}(he:BO p e=0) (hw:e.ek≠7) (hc:e.c.1≠4):LM (BM p e):=by
 have f:=h.fi.step hJ.1.1 he hw hc
 have g:=h.tg.step hJ he
 have x:=h.lx.step h.tg hJ ht he
 rcases aHh hJ.1.1 he with ⟨_,c⟩ |c|⟨c0,c⟩ |⟨c0,c⟩ |c
 ·rw [c];exact h.tick hJ ht
 ·exact mZ
 ·exact mZ
 ·exact mZ
 ·exact mZ
def LM.draw (h:LM p) (hJ:JP p) (ht:p.tk<=1000):M p.Ek=M p.gs/\(∀k:aVx,k<M p.gs->0<=gi p.Ek k/\gi p.Ek k<=80)/\DG p.cs p.gs p.Ek=true:=by
 obtain ⟨e1,e2,e3,e4,e5,e6,e7,e8,e9,e10,e11,e12,e13,e14⟩:=J0 p
 have hv:=hJ.1.1
 have htk:=hv.tk
 have hvd:=hv.dec
 have hvb:VP p.AZ:=hvd.arr.cnt
 have f4:p.AZ.gs=p.gs:=e4
 have f9:p.AZ.ca=p.ca:=e9
 obtain ⟨vl',k',w1,w2⟩:=(h.tg.dec hJ).vl
 have el:Ai p.AK.se p.AK.fl=vl':=w1.ld.2
 have b1:below (M p.gs) vl'=true:=(R4 (T:=0) λx hx=>(w2 x hx).2).1
 have s2:=(h.lx.tick h.tg hJ ht).2
 have hk:=h.dec hJ ht (t':=p.tk)<|Cj _
 rw [el] at s2 hk
 have nw:Bn p.gs (λ_ s=>s.2.2.2=X) p.AZ.st:=by
  show Bn p.gs _ (JL p.AK.gs p.AK.dr p.AK.tk (L5 p.AK.gs p.AK.lk p.AK.tk p.AK.st<|M p.AK.lk)<|M p.AK.dr)
  rw [e4,e8,hvd.dr,e4];refine Bn.cnt (Bn.arr (Q:=λ_ s=>s.2.2.2=X) ⟨h.fi.st.1,λj j0 j1=>(h.fi.st.2 j j0 j1).2.1⟩ (λl hl=>⟨by have:=hvd.lk l hl;rwa [e4] at this,λ_ s hs=>jT hs<|.inl Aa⟩) _<|Aq _) (λj s hs=>jT hs<|.inl Aa) _<|Aq _
 have hl:=Wq (gs:=p.AZ.gs) (ca:=p.AZ.ca) (s:=⟨p.AZ.st,p.AZ.mi,p.AZ.me,aq (M p.AZ.gs) 0⟩)<|M p.AZ.gs
 have key:∀i:aVx,i<M p.gs->(0<=gi p.Ek i/\gi p.Ek i<=80)/\gi p.Ek i<=gi (D4 p.gs vl' p.tk) i:=λi hi=>by
  have:=(wL (gs:=p.AZ.gs) (ca:=p.AZ.ca) (s:=⟨p.AZ.st,p.AZ.mi,p.AZ.me,aq (M p.AZ.gs) 0⟩) (n:=M p.AZ.gs) hvb.mi hvb.me AI (j:=i) nP (M p.AZ.gs) nP).2.2
  have hb:=IV (t2:=p.tk) hv.site w1.lv (j:=(i:Y)) A0 A0
  have ed:gi p.Ek i=_:=this
  rw [ed];split
  ·rename_i ok
   have a1:=D1.bd ok
   have a2:=D1.le ok<|aBb (by rw [f9];exact h.fi.ca) i
   refine ⟨⟨a1.1,a1.2.1⟩,Fm a2 ?_⟩
   show Be (AF p.AZ.gs i) (BF p.AZ.st i)<=_
   rw [f4,Tb A0 A0];exact aht (s2.2 i A0 A0) (nw.2 i A0 A0) (RJ hv (i:Y) A0 (by rw [hv.dr];omega)) A0 w1.lv b1 (λx hx=>⟨(KY.1<|(GK w1.lv).2 x hx).2.2.2.1.1,wJ (w2 x hx).2.2.1⟩) (λx hx=>by have:=(w2 x hx).2.1;omega) A0
  ·have e0:gi (aq (M p.AZ.gs) 0) i=0:=Kd
   rw [e0];exact ⟨Aa,hb.1⟩
 exact ⟨aOs,λk hk'=>(key k hk').1,Qu hv.site hv.site (Hl.refl _) (λk hk'=>IV hv.site w1.lv A0 A0) (λk hk'=>⟨(key k hk').1.1,(key k hk').2⟩) hk⟩
end Go.Proofs.YtjdlmobanmhohaaGreatDoor
namespace Go.Proofs.YtjdlmobanmhohaaGreatDoor
set_option maxRecDepth 100000
set_option maxHeartbeats 4000000
open Go.Proofs.Tryz
open Go.Sx
structure O4 where
 e:Y
 b:aVH
 (last n i:Y)
 (p r:PK)
def aGV:=bN f14 0
def zh (s:O4):T (Rd O4):=letI a:=(M (CU s.p Cw):Y);.br (an<|s.i<s.n) (.req (JP s.p)<|.br (((BO s.p Cw) !=0) ||(a !=(M (BM s.p Cw).ca:Y))) (.so (.ret) {s with e:=s.last,b:=X,r:=s.p})<|.br (an<|a>0) (.req (0<=(0:Y)/\0<a)<|.nx {s with last:=gi (CU s.p Cw) (0:Y),i:=AA<|s.i+1,p:=BM s.p Cw})<|.nx {s with i:=AA<|s.i+1,p:=BM s.p Cw})<|.so (.exit 0) s
def kA (s:O4):Prop:=s.i=0/\s.n<=1000/\JP s.p
def kU (s:O4):Prop:=0<=s.i/\s.n<=1000/\JP s.p
def uw (s:O4):aVx:=(s.n-s.i).toNat
def abq (x:Ex) (s s':O4):Prop:=True
def ajV:∀s,kA s->kU s:=by
 exact mY
def awy:Da kU uw abq zh:=by
 intro s hI;obtain ⟨h0,h1,h2⟩:=hI;refine AH (λc1=>AH (λc2=>trivial) λc2=>AH (λc3=>?_) λc3=>?_) λc1=>trivial
 all_goals have c1:s.i<s.n:=A8
 all_goals rw [AJ (x:=s.i+1)]
 all_goals exact ⟨⟨A8,h1,h2.step<|Dv (Ge.1 c2).1⟩,by simp only [uw];omega⟩
def R6:AS O4:=⟨0,43,[2,4,5,6,7,11,12],[.ps 4 0 Af,.ps 4 1 .str,.ps 4 2 An,.ps 4 3 Ag,.ps 4 4 Am,.ps 4 7 AQ,.ps 4 9<|.int aw,.ps 4 10 Aj,.ps 4 12 B7,.ps 4 13 AQ,.ps 4 14 BA,.ps 4 15 BT,.ps 4 16 Ap,.ps 4 17 BP,.ps 4 18 A7,.ps 4 19 A7],λs=>[.own 0 0,.own 1 0,s.e,s.b,s.last,s.n,s.i],λs=>[⟨[s.p.cs,s.p.os,s.p.ks,s.p.gs,s.p.bs,s.p.tk,s.p.up,s.p.ls,s.p.se,.xl (.int aw) s.p.fl,s.p.ra,s.p.nx,s.p.st,s.p.ca,s.p.mi,s.p.me,s.p.dm,s.p.lk,.xl A7 s.p.dr,.xl A7 s.p.tg],48,.cl,X⟩,⟨[s.r.cs,s.r.os,s.r.ks,s.r.gs,s.r.bs,s.r.tk,s.r.up,s.r.ls,s.r.se,.xl (.int aw) s.r.fl,s.r.ra,s.r.nx,s.r.st,s.r.ca,s.r.mi,s.r.me,s.r.dm,s.r.lk,.xl A7 s.r.dr,.xl A7 s.r.tg],48,.cl,X⟩],λv b=>⟨AL v 2,EP v 3,AL v 4,AL v 5,AL v 6,rQ b 0,rQ b 1⟩,zh,λs r=> {r with n:=s.n},λs=>s,λ_ s=>s,[.ret,.exit 0],kA,kU,uw⟩
abbrev TJ:=R6.run
abbrev fS:=R6.Au
def axM:Rq kU zh:=by
 intro s hI;refine ⟨λc1=>⟨?_,λ_=>trivial,λc2=>⟨λc3=>⟨?_,ak⟩,λ_=>trivial⟩⟩,λ_=>trivial⟩
 all_goals ((obtain ⟨h0,h1,h2⟩:=hI;first|exact h2|(simp only [Ab] at c3;omega)))
def vL:aVI:=[fv]
def aRw:R6.Ok:={}
def aQL:R6.Pf (abq):=⟨ajV,λs h=>rfl,awy,axM⟩
def aqs:SA 0 aGV R6:=s1 aRw aQL vL kN
def apm:Rs kA fS TJ (λs:O4=>CR (s.n-s.i).toNat s.p s.last) (λx s' (v:PK×Int×Bool)=>(x=.exit 0/\(s'.p,s'.last,U)=v)\/(x=.ret/\(s'.r,s'.e,s'.b)=v)):=DZ aRw aQL (λs hI=>by
  obtain ⟨h0,h1,h2⟩:=hI;refine AH (λc1=>?_) λc1=>?_
  ·have c1:s.i<s.n:=A8
   have e:(s.n-s.i).toNat=(s.n-(s.i+1)).toNat+1:=A0
   rw [AJ (x:=s.i+1),e,CR];refine AH (λc2=>?_) λc2=>?_
   ·have hc:¬(BO s.p Cw=0/\M (CU s.p Cw)=M (BM s.p Cw).ca):=λh=>by
     rw [h.1,h.2] at c2
     simp at c2
    rw [AE hc];exact .inr ⟨rfl,rfl⟩
   ·have hc:BO s.p Cw=0/\M (CU s.p Cw)=M (BM s.p Cw).ca:=by
     grind
    rw [AD hc];refine AH (λc3=>?_) λc3=>?_
    ·have c3:M (CU s.p Cw)>0:=A8
     rw [AD c3];rfl
    ·have c3:¬(M<|CU s.p Cw)>0:=A8
     rw [AE c3];rfl
  ·have c1:s.n<=s.i:=A8
   rw [show (s.n-s.i).toNat=0 by omega]
   exact .inl ⟨rfl,rfl⟩)
def aTp:aVy->T LV
 | [x_p,.v (ag J many)]=>(match NK x_p with
  |some p=> .req (JP p/\many<=1000) (.ok<|.AO [(CR many.toNat p 0).1,(CR many.toNat p 0).2.1,(CR many.toNat p 0).2.2])
  |none=> .no)
 |_=> .no
def Mg (p:PK) (many:Y):O4:=(⟨0,X,0,many,0,p,⟨([]:aVF),([]:aVz),([]:aVK),([]:aVA),([]:aVL),0,X,([]:aVG),0,([]:aVw),([]:aV3),0,([]:aVW),([]:aVG),([]:aWj),([]:aWm),([]:aVU),([]:aWa),([]:aVw),([]:aVw)⟩⟩:O4)
def azD (p:PK) (many:Y):letI a:=TJ<|Mg p many;Bm prog AV (vL) kN (λi=>if i=3 then R6.lp else Al i) f14 [p,many]=.req (R6.q<|Mg p many) (.br (Bs (fS<|Mg p many)<|.ret) (.ok<|.AO [a.r,a.e,a.b])<|.ok<|.AO [a.p,a.last,U]):=AU
def ajn:=vm (S:=aTp) func14 vL kN (L:=(λi=>if i=3 then R6.lp else Al i)) (λb hb=>by
 rw [show BE _=[aGV] by kernel_rfl] at hb
 simp only [BB,Bx,By] at hb;subst hb;exact aqs) (λargs lv h=>by
 refine ⟨?_⟩;unfold aTp at h;split at h
 ·split at h
  case h_2=>cases h
  rename_i p hp;obtain rfl:=Wj hp;simp only [canL,canX];rw [azD];rename_i many _;obtain ⟨⟨hJ,hm⟩,rfl⟩:=h
  have hE:kA (Mg p many):=⟨rfl,hm,hJ⟩
  have e:(many-0).toNat=many.toNat:=AI
  have q:(fS (Mg p many)=.exit 0/\((TJ<|Mg p many).p,(TJ<|Mg p many).last,U)=CR many.toNat p 0)\/(fS (Mg p many)=.ret/\((TJ<|Mg p many).r,(TJ<|Mg p many).e,(TJ<|Mg p many).b)=CR many.toNat p 0):=by
   rw [<-e];exact apm _ hE
  refine ⟨⟨hE,rfl,rfl⟩,λc=>?_,λc=>?_⟩
  ·rcases q with ⟨x1,_⟩ |⟨_,x2⟩
   ·rw [x1] at c
    cases c
   ·rw [<-x2]
    rfl
  ·rcases q with ⟨_,x2⟩ |⟨x1,_⟩
   ·rw [<-x2]
    rfl
   ·rw [x1] at c
    cases c
 ·cases h)
def aUF:aVy->T LV:=λ_=> .no
def avq:VV 1000022 aUF:=by
 exact yU
structure HF where
 DL:aVF->aVz->aVK->aVA->aVL->aVw->Int
 newP:aVF->aVz->aVK->aVA->aVL->aVw->PK
 BO:PK->EV->Int
 BM:PK->EV->PK
 CU:PK->EV->List Int
 CR:aVx->PK->Y->PK×Int×Bool
 JP:PK->Prop
def hdF:HF:=⟨DL,newP,BO,BM,CU,CR,JP⟩
def apM (F:HF):aVy->T LV
 | [x_p,x_ev]=>(match NK x_p with
  |some p=>(match oJ x_ev with
  |some ev=> .req (F.JP p) (.ok<|.AO [F.BM p<|EW.ev ev,.xl A7<|F.CU p<|EW.ev ev,F.BO p<|EW.ev ev])
  |none=> .no)
  |none=> .no)
 |_=> .no
def avS (F:HF):aVy->T LV:=KE prog f15.params.toList<|apM F
def avA (F:HF):aVy->T LV
 | [.agg [.xl (.pair .str (.pair (.int J) (.pair (.int J) (.pair (.int J) (.pair (.pair (.int J) (.int J)) (.pair (.int J) (.pair (.int J) (.pair (.int J) (.pair (.int J) (.int J)))))))))) cs,.xl (.str) os,.xl (.pair .str (.pair (.int J) (.pair (.int J) (.int J)))) ks,.xl (.pair .str (.pair (.int J) (.pair (.int J) (.pair (.int J) (.pair (.int J) (.pair (.int J) (.pair (.int J) (.int J)))))))) gs,.xl (.pair .str (.int J)) bs],.xl (.int J) dr]=> .req (M dr<=1000) (.ok<|.AO [F.newP cs os ks gs bs dr,F.DL cs os ks gs bs dr])
 |_=> .no
def aj7 (F:HF):aVy->T LV:=KE prog f12.params.toList<|avA F
def avU (F:HF):aVy->T LV
 | [x_p,.v (ag J many)]=>(match NK x_p with
  |some p=> .req (F.JP p/\many<=1000) (.ok<|.AO [(F.CR many.toNat p 0).1,(F.CR many.toNat p 0).2.1,(F.CR many.toNat p 0).2.2])
  |none=> .no)
 |_=> .no
def aj2 (F:HF):aVy->T LV:=KE prog f14.params.toList<|avU F
def bS:aVF:=letI a:=((bC 32).getD (0:Y).toNat<|Ty.dflt Af);(bC 32).set (0:Y).toNat (a.1,(a.2.1,((5:Y),a.2.2.2)))
def hN (F:HF):PK:=F.newP (((bC 32).drop 0).take 1) bO ([]:aVK) bG ([]:aVL)<|[(0:Y)]
def hA (F:HF):PK×Int×Bool:=F.CR (1:Y).toNat (hN F) 0
def hB (F:HF):PK:=F.BM (hA F).1<|EW.ev<|⟨2,0,0,0,1,20,1000000000,0,U,0,500,1⟩
def hC (F:HF):PK×Int×Bool:=F.CR (1:Y).toNat (hB F) 0
def hD (F:HF):PK×Int×Bool:=F.CR (60:Y).toNat (hC F).1 0
def hX (F:HF):PK:=F.BM (hD F).1<|EW.ev<|⟨5,0,0,0,0,0,0,0,X,0,0,0⟩
def hL (F:HF):PK×Int×Bool:=F.CR (24:Y).toNat (hX F) 0
def aax (F:HF):hA F=F.CR 1 (hN F) 0:=rfl
def aaw (F:HF):hB F=F.BM (hA F).1 LZ:=rfl
def aau (F:HF):hC F=F.CR 1 (hB F) 0:=rfl
def aat (F:HF):hD F=F.CR 60 (hC F).1 0:=rfl
def aas (F:HF):hX F=F.BM (hD F).1 evF:=rfl
def aml (F:HF):hL F=F.CR 24 (hX F) 0:=rfl
def abo:aVy->T LV
 | []=> .ok U
 |_=> .no
def XP:aVI:=[aAA,ajn,fv,avq]
def vU:Ay:=kI XP<|la 9 func26 eQ<|la 11 func62 PE<|la 6 func62 Nr<|la 3 func45 Mp<|la 2 func61 Lr<|la 1 func60 Kc<|la 2 func69 Jr<|la 9 func26 Co<|l0 XP
def oA (F:HF):aWb:=DN [(12,aj7 F),(14,aj2 F),(15,avS F),(1000022,aUF)]
def aLR (F:HF):aWq:=inl prog AV (oA F) (Cb 26 9 9 (Uk.lp)<|Cb 62 21 11 (Pv.lp)<|Cb 62 21 6 (R8.lp)<|Cb 45 21 3 (R7.lp)<|Cb 61 20 2 (Rr.lp)<|Cb 60 20 1 (Q7.lp)<|Cb 69 19 2 (Ry.lp)<|Cb 26 0 9 (H3.lp)<|E5 prog AV (oA F) 20 2) 9
def azV (F:HF):letI a:=(EW.ev<|⟨2,0,0,0,1,20,1000000000,0,U,0,500,1⟩);letI b:=(hA F);Bm prog AV (oA F) (aLR F) Al f4 []=.req (0+1<=M (bC 32)) (.req (M ([(0:Y)])<=1000)<|.req (F.JP ((hN F))/\(1:Y)<=1000)<|.req (F.JP b.1)<|.req (F.JP ((hB F))/\(1:Y)<=1000)<|.req (F.JP ((hC F)).1/\(60:Y)<=1000)<|.req (F.JP ((hD F)).1)<|.req (F.JP ((hX F))/\(24:Y)<=1000)<|.req (0<=(0:Y)/\(0:Y)<((1:aVx):Y))<|.req ((0:Y).toNat<M (bC 32))<|.req (0+1<=M bS)<|.req (M ([(0:Y)])<=1000)<|.ok<|.v<|.bool<|(((F.DL (((bC 32).drop 0).take 1) bO ([]:aVK) bG ([]:aVL)<|[(0:Y)])==0)&&(((F.BO b.1 a)==0)&&(((F.BO ((hD F)).1<|EW.ev<|⟨5,0,0,0,0,0,0,0,X,0,0,0⟩)==0)&&(((F.DL ((bS.drop 0).take 1) bO ([]:aVK) bG ([]:aVL)<|[(0:Y)])==13)&&(b.2.2&&(((hC F)).2.2&&(((hD F)).2.2&&(((hL F)).2.2&&((M (F.CU b.1 a):Y)==0)))))))))&&((b.2.1==0)&&((b.1.tk==1)&&((((hC F)).2.1==6)&&((((hD F)).2.1==20)&&(((hL F)).2.1==6)))))):=AU
def ahU:XP=oA hdF:=AU
def ahT:vU=aLR hdF:=AU
def alf:letI a:=(EW.ev<|⟨2,0,0,0,1,20,1000000000,0,U,0,500,1⟩);letI b:=(hA hdF);letI c:=(hD hdF);Bm prog AV (XP) vU Al f4 []=.req (0+1<=M (bC 32)) (.req (M ([(0:Y)])<=1000)<|.req (hdF.JP ((hN hdF))/\(1:Y)<=1000)<|.req (hdF.JP b.1)<|.req (hdF.JP ((hB hdF))/\(1:Y)<=1000)<|.req (hdF.JP ((hC hdF)).1/\(60:Y)<=1000)<|.req (hdF.JP c.1)<|.req (hdF.JP ((hX hdF))/\(24:Y)<=1000)<|.req (0<=(0:Y)/\(0:Y)<((1:aVx):Y))<|.req ((0:Y).toNat<M (bC 32))<|.req (0+1<=M (bS))<|.req (M ([(0:Y)])<=1000)<|.ok<|.v<|.bool<|(((hdF.DL (((bC 32).drop 0).take 1) (bO) ([]:aVK) (bG) ([]:aVL)<|[(0:Y)])==0)&&(((hdF.BO b.1 a)==0)&&(((hdF.BO c.1<|EW.ev<|⟨5,0,0,0,0,0,0,0,X,0,0,0⟩)==0)&&(((hdF.DL (((bS).drop 0).take 1) (bO) ([]:aVK) (bG) ([]:aVL)<|[(0:Y)])==13)&&(b.2.2&&(((hC hdF)).2.2&&(c.2.2&&(((hL hdF)).2.2&&((M (hdF.CU b.1 a):Y)==0)))))))))&&((b.2.1==0)&&((b.1.tk==1)&&((((hC hdF)).2.1==6)&&((c.2.1==20)&&(((hL hdF)).2.1==6)))))):=by
 rw [ahU,ahT];exact azV hdF
def anl:=vo (S:=abo) func4 XP vU (λargs lv h=>by
 refine ⟨?_⟩;unfold abo at h;split at h
 ·simp only [canL]
  rw [alf];obtain rfl:=h;simp only [show hdF.DL=DL from rfl,show hdF.newP=newP from rfl,show hdF.BO=BO from rfl,show hdF.BM=BM from rfl,show hdF.CU=CU from rfl,show hdF.CR=CR from rfl,show hdF.JP=JP from rfl];obtain ⟨p1,p3,p4,p6,a1,a2,a3,a4,a5,a6,a7,a8⟩:=amk
  have eN:(hN hdF)=newP (bC 32) bO [] bG [] [0]:=rfl
  have t1:hdF.CR=CR:=rfl
  have t2:hdF.BM=BM:=rfl
  have eA:hA hdF=(p1,0,U):=by rw [aax,t1,eN];exact a1
  have eB:hB hdF=BM p1 LZ:=by rw [aaw,t2,eA]
  have eC:hC hdF=(p3,6,U):=by rw [aau,t1,eB];exact a5
  have eD:hD hdF=(p4,20,U):=by rw [aat,t1,eC];exact a6
  have eX:hX hdF=BM p4 evF:=by rw [aas,t2,eD]
  have eL:hL hdF=(p6,6,U):=by rw [aml,t1,eX];exact a8
  have jN:JP (hN hdF):=by rw [eN];exact gZ aBU.1
  have jA:JP (hA hdF).1:=by rw [aax,t1];exact jN.Dr _ _
  have sA:BO (hA hdF).1 LZ=0:=by rw [eA];exact a3
  have jB:JP (hB hdF):=by rw [aaw,t2];exact jA.step sA
  have jC:JP (hC hdF).1:=by rw [aau,t1];exact jB.Dr _ _
  have jD:JP (hD hdF).1:=by rw [aat,t1];exact jC.Dr _ _
  have sD:BO (hD hdF).1 evF=0:=by rw [eD];exact a7
  have jX:JP (hX hdF):=by rw [aas,t2];exact jD.step sD
  have n1:DL (((bC 32).drop 0).take 1) bO [] bG [] [(0:Y)]=0:=aBU.1
  have n2:DL ((bS.drop 0).take 1) bO [] bG [] [(0:Y)]=13:=aBU.2
  have b3:BO p1 (EW.ev ⟨2,0,0,0,1,20,1000000000,0,U,0,500,1⟩)=0:=a3
  have b4:CU p1 (EW.ev ⟨2,0,0,0,1,20,1000000000,0,U,0,500,1⟩)=[]:=a4
  have b7:BO p4 (EW.ev ⟨5,0,0,0,0,0,0,0,X,0,0,0⟩)=0:=a7
  refine ⟨Aa,Aa,⟨jN,Aa⟩,jA,⟨jB,Aa⟩,⟨jC,Aa⟩,jD,⟨jX,Aa⟩,Aa,Aa,Aa,Aa,?_⟩
  show LV.v (.bool _)=_
  simp only [n1,n2,eA,eC,eD,eL,a2,b3,b4,b7,Bv];rfl
 ·cases h)
def opN (k:Y) (l:aVx):Y:=if (l:Y)>0 then (AA k).tmod l else 0
def opE (p:PK) (x1 x2 x3 y1 y2 y3 y4 y5:Y) (z1:aVH) (z2 z3 z4:Y):EW:=
 if x1.tmod 14=6\/x1.tmod 14=7 then ⟨2,opN x2<|M p.ca,0,y1,y2,y3,y4,y5,z1,z2,z3,z4⟩
 else if x1.tmod 14=8 then ⟨3,opN x2<|M p.ca,0,0,0,0,0,0,X,0,0,0⟩
 else if x1.tmod 14=9 then ⟨4,opN x2<|M p.ca,0,0,0,0,0,0,X,0,0,0⟩
 else if x1.tmod 14=10 then ⟨5,0,0,0,0,0,0,0,X,0,0,0⟩
 else if x1.tmod 14=11 then ⟨6,0,0,0,0,0,0,0,X,0,0,0⟩
 else if x1.tmod 14=12 then ⟨7,opN x2<|M p.ca,0,0,0,0,0,0,X,0,0,0⟩
 else if x1.tmod 14=13 then ⟨8,opN x2<|M p.tg,(AA x3).tmod 100,0,0,0,0,0,X,0,0,0⟩
 else ⟨1,0,0,0,0,0,0,0,X,0,0,0⟩
def opT (x1 x3:Y):Y:=if 6<=x1.tmod 14/\x1.tmod 14<=13 then 1 else AA (1+(AA x3).tmod 12)
def aUR:aVy->T LV
 | [x_p,.v (.agg ⟨[ag aw x1,ag aw x2,ag .u16 x3,ag J y1,ag J y2,ag J y3,ag J y4,ag J y5,.bool z1,ag J z2,ag J z3,ag J z4]⟩)]=>(match NK x_p with
  |some p=> .tu #[opE p x1 x2 x3 y1 y2 y3 y4 y5 z1 z2 z3 z4,opT x1 x3]
  |none=> .no)
 |_=> .no
def aSX:aVI:=[]
def az0 (p:PK) (x1 x2 x3 y1 y2 y3 y4 y5:Y) (z1:aVH) (z2 z3 z4:Y):letI a:=x1.tmod 14;letI c:=(M p.tg:Y);letI d:=(AA x3).tmod 100;letI e:=(M p.ca:Y);letI f:=AA<|1+((AA x3).tmod 12);letI b:=(AA x2).tmod e;Bm prog AV (aSX) kN Al f17 [p,.v<|.agg #[ag aw x1,ag aw x2,ag .u16 x3,y1,y2,y3,y4,y5,z1,z2,z3,z4]]=.br (an<|e>0) (.req (e≠0)<|.req ((14:Y)≠0)<|.br (a==6) (.tu #[.agg #[(2:Y),b,(0:Y),y1,y2,y3,y4,y5,z1,z2,z3,z4],(1:Y)])<|.br (a==7) (.tu #[.agg #[(2:Y),b,(0:Y),y1,y2,y3,y4,y5,z1,z2,z3,z4],(1:Y)])<|.br (a==8) (.tu #[.agg #[(3:Y),b,(0:Y),(0:Y),(0:Y),(0:Y),(0:Y),(0:Y),X,(0:Y),(0:Y),(0:Y)],(1:Y)])<|.br (a==9) (.tu #[.agg #[(4:Y),b,(0:Y),(0:Y),(0:Y),(0:Y),(0:Y),(0:Y),X,(0:Y),(0:Y),(0:Y)],(1:Y)])<|.br (a==10) (.tu #[.agg #[(5:Y),(0:Y),(0:Y),(0:Y),(0:Y),(0:Y),(0:Y),(0:Y),X,(0:Y),(0:Y),(0:Y)],(1:Y)])<|.br (a==11) (.tu #[.agg #[(6:Y),(0:Y),(0:Y),(0:Y),(0:Y),(0:Y),(0:Y),(0:Y),X,(0:Y),(0:Y),(0:Y)],(1:Y)])<|.br (a==12) (.tu #[.agg #[(7:Y),b,(0:Y),(0:Y),(0:Y),(0:Y),(0:Y),(0:Y),X,(0:Y),(0:Y),(0:Y)],(1:Y)])<|.br (a==13) (.br (an<|c>0) (.req (c≠0)<|.req ((100:Y)≠0)<|.tu #[.agg #[(8:Y),(AA x2).tmod c,d,(0:Y),(0:Y),(0:Y),(0:Y),(0:Y),X,(0:Y),(0:Y),(0:Y)],(1:Y)])<|.req ((100:Y)≠0)<|.tu #[.agg #[(8:Y),(0:Y),d,(0:Y),(0:Y),(0:Y),(0:Y),(0:Y),X,(0:Y),(0:Y),(0:Y)],(1:Y)])<|.req ((12:Y)≠0)<|.tu #[.agg #[(1:Y),(0:Y),(0:Y),(0:Y),(0:Y),(0:Y),(0:Y),(0:Y),X,(0:Y),(0:Y),(0:Y)],f]) (.req ((14:Y)≠0)<|.br (a==6) (.tu #[.agg #[(2:Y),(0:Y),(0:Y),y1,y2,y3,y4,y5,z1,z2,z3,z4],(1:Y)])<|.br (a==7) (.tu #[.agg #[(2:Y),(0:Y),(0:Y),y1,y2,y3,y4,y5,z1,z2,z3,z4],(1:Y)])<|.br (a==8) (.tu #[.agg #[(3:Y),(0:Y),(0:Y),(0:Y),(0:Y),(0:Y),(0:Y),(0:Y),X,(0:Y),(0:Y),(0:Y)],(1:Y)])<|.br (a==9) (.tu #[.agg #[(4:Y),(0:Y),(0:Y),(0:Y),(0:Y),(0:Y),(0:Y),(0:Y),X,(0:Y),(0:Y),(0:Y)],(1:Y)])<|.br (a==10) (.tu #[.agg #[(5:Y),(0:Y),(0:Y),(0:Y),(0:Y),(0:Y),(0:Y),(0:Y),X,(0:Y),(0:Y),(0:Y)],(1:Y)])<|.br (a==11) (.tu #[.agg #[(6:Y),(0:Y),(0:Y),(0:Y),(0:Y),(0:Y),(0:Y),(0:Y),X,(0:Y),(0:Y),(0:Y)],(1:Y)])<|.br (a==12) (.tu #[.agg #[(7:Y),(0:Y),(0:Y),(0:Y),(0:Y),(0:Y),(0:Y),(0:Y),X,(0:Y),(0:Y),(0:Y)],(1:Y)])<|.br (a==13) (.br (an<|c>0) (.req (c≠0)<|.req ((100:Y)≠0)<|.tu #[.agg #[(8:Y),(AA x2).tmod c,d,(0:Y),(0:Y),(0:Y),(0:Y),(0:Y),X,(0:Y),(0:Y),(0:Y)],(1:Y)])<|.req ((100:Y)≠0)<|.tu #[.agg #[(8:Y),(0:Y),d,(0:Y),(0:Y),(0:Y),(0:Y),(0:Y),X,(0:Y),(0:Y),(0:Y)],(1:Y)])<|.req ((12:Y)≠0)<|.tu #[.agg #[(1:Y),(0:Y),(0:Y),(0:Y),(0:Y),(0:Y),(0:Y),(0:Y),X,(0:Y),(0:Y),(0:Y)],f]):=AU
def aaL:=vo (S:=aUR) func17 aSX kN (λargs lv h=>by
 refine ⟨?_⟩;unfold aUR at h;split at h
 ·split at h
  case h_2=>cases h
  rename_i p hp;obtain rfl:=Wj hp;simp only [canL,canX];rw [az0];obtain rfl:=h
  repeat' (first|(refine And.intro (λc=>?_) λc=>?_) |(refine And.intro A8 ?_))
  all_goals simp_all [T.all,opE,opT,opN]
  all_goals omega
 ·cases h)
def apo {p:PK}(hJ:JP p) {ev:EW}(h1:ev.ek=1) (h2:p.tk<=1000):BO p ev.ev=0:=by
 rw [(aD9 (W9.2 hJ.1.1) h1).1];exact AE A0
def sG {p:PK}(hJ:JP p) {ev:EW}(he:BO p ev.ev=0):(BM p ev.ev).tk=p.tk\/(ev.ek=1/\(BM p ev.ev).tk=p.tk+1):=by
 have hv:=W9.2 hJ.1.1
 by_cases c1:ev.ek=1
 ·obtain ⟨a,b⟩:=aD9 hv c1
  rw [(b<|a.symm.trans he).1];exact .inr ⟨c1,aOh⟩
 left
 by_cases c2:ev.ek=2
 ·obtain ⟨a,b⟩:=aLD hv c2;rw [(b<|a.symm.trans he).1];rfl
 by_cases c3:ev.ek=3
 ·obtain ⟨a,b⟩:=aLC hv c3;rw [(b<|a.symm.trans he).1];rfl
 by_cases c4:ev.ek=4
 ·obtain ⟨a,b⟩:=aLB hv c4;rw [(b<|a.symm.trans he).1];rfl
 by_cases c5:ev.ek=5
 ·obtain ⟨a,b⟩:=aLJ hv c5;rw [(b<|a.symm.trans he).1];rfl
 by_cases c6:ev.ek=6
 ·obtain ⟨a,b⟩:=aLI hv c6;rw [(b<|a.symm.trans he).1];rfl
 by_cases c7:ev.ek=7
 ·obtain ⟨a,b⟩:=aLH hv c7;rw [(b<|a.symm.trans he).1];rfl
 by_cases c8:ev.ek=8
 ·obtain ⟨a,b⟩:=aLG hv c8;rw [(b<|a.symm.trans he).1];rfl
 ·rw [aLF hv ⟨c1,c2,c3,c4,c5,c6,c7,c8⟩] at he
  cases he
def azi (x1 x3:Y):opT x1 x3<=12:=by
 unfold opT;split
 ·decide
 ·have h1:=Int.tmod_lt_of_pos (AA x3) (show (0:Y)<12 by decide)
  have h2:=Int.lt_tmod_of_pos (AA x3) (show (0:Y)<12 by decide)
  rw [AJ];omega
def TmO (x:Int×Int×Int×Le×Dm):Prop:=x.1.tmod 14≠12/\x.2.2.2.1.1≠4
def TmE (e:EW):Prop:=e.ek≠7/\e.c1≠4
def azj {p:PK}{x1 x2 x3 y1 y2 y3 y4 y5:Y}{z1:aVH}{z2 z3 z4:Y}(h1:x1.tmod 14≠12) (h2:y1≠4):TmE (opE p x1 x2 x3 y1 y2 y3 y4 y5 z1 z2 z3 z4):=by
 unfold opE TmE;rw [AE h1]
 repeat' split
 all_goals simp [h2]
def az7 {cs:aVF}{os:aVz}{ks:aVK}{gs:aVA}{bs:aVL}{dr:aVw}(h:DL cs os ks gs bs dr=0):FI (newP cs os ks gs bs dr):=by
 have hp:newP cs os ks gs bs dr=_:=AE nV
 rw [hp];refine ⟨⟨Ci,λj j0 j1=>?_⟩,λl hl=>(by cases hl),λc hc=>by rw [List.eq_of_mem_replicate hc];decide⟩
 have e:BF (aq (M gs) ((0,0,0,X):St)) j=(0,0,0,X):=by
  unfold BF;rw [DA,QM];split<;>rfl
 simp only [e]
 have hc:=Nk (by have:=(uk h).1.site;rw [hp] at this;exact this) j0 j1
 unfold G4 MQ at hc;simp only [AX,Cf,Cz,BS] at hc;exact ⟨Kf.2 ⟨To.2 A0,Aa,(by decide:(0:Y)<=5),Aa,(by decide:(0:Y)<=1000000),Aa,aOk,λ_=>rfl,λe=>Oy⟩,rfl,(by decide:(0:Y)<=12)⟩
def FG.Dr {T:Y}:∀(n:aVx) {p:PK}{l:Y},FG T p->JP p->p.tk+n<1000000->T+4<=1000000->
  (CR n p l).2.2=U/\FG T (CR n p l).1/\JP (CR n p l).1/\(CR n p l).1.tk=p.tk+n
 |0,p,l,h,hJ,ht,_=>⟨rfl,h,hJ,by show p.tk=p.tk+0;omega⟩
 |n+1,p,l,h,hJ,ht,hT=>by
  have hv:=hJ.1.1
  obtain ⟨he,e2,e3,hl,htk⟩:=eI hJ A0
  have hJ2:=hJ.step he
  rw [CR,AD ⟨he,hl⟩];rw [e2] at hJ2|-;obtain ⟨a1,a2,a3,a4⟩:=FG.Dr n (l:=if M (CU p Cw)>0 then gi (CU p Cw) 0 else l) (h.tick hv A0 hT) hJ2 A0 hT
  exact ⟨a1,a2,a3,A0⟩
def az6 {cs:aVF}{os:aVz}{ks:aVK}{gs:aVA}{bs:aVL}{dr:aVw}(h:DL cs os ks gs bs dr=0):LM (newP cs os ks gs bs dr):=by
 have hJ:=gZ h
 have hg:=aSB h
 have hf:=az7 h
 have hx:=az5 h
 have htk:(newP cs os ks gs bs dr).tk=0:=by
  have hp:newP cs os ks gs bs dr=_:=AE nV
  rw [hp]
 generalize newP cs os ks gs bs dr=p at*
 have hv:=hJ.1.1
 obtain ⟨k,v1,v2⟩:=hg.vl
 have e:Ai p.se p.fl=[]:=m7.2 λx hx'=>by
  have a1:=(v2 x hx').2.1
  have a2:=(hg.v23 x hx').1
  omega
 refine ⟨hf,hg,hx,?_⟩
 have hs:=iJ hv
 have hl:M (Bt p.gs)=M p.gs:=IT
 rw [e];refine Qu hs hv.site (aU8 hv) (λk hk=>qF hs A0) (λk hk=>⟨(IV hs rfl A0 A0).1,?_⟩) hg.kt
 exact aMF
def LmQ (p r:PK) (dw:aVw):Prop:=JP p/\LM p/\p.tk<=1000/\(p.tk≠r.tk->dw=p.Ek)
def agm {p:PK}(hJ:JP p) (hm:LM p) (ht:p.tk<=150) {ev:EW}(he:BO p ev.ev=0):LmQ p (BM p ev.ev) (CU p ev.ev):=⟨hJ,hm,A0,λc=>by
 rcases sG hJ he with e|⟨e,_⟩
 ·exact absurd e.symm c
 ·unfold CU
  rw [AE A0];exact AD e⟩
def mx3 (e:Ld):Y:=mx (mx e.1 e.2.1) e.2.2
structure Pa where
 b:aVH
 ld:aWn
 (n i:Y)
 p:PK
def aGI:=bN f8 0
def iN (s:Pa):T (Rd Pa):=
 .br (an<|s.i<s.n) (.ix s.i (M s.ld)<|.br ((!(B6 s.p.cs s.p.os s.p.ks s.p.gs s.p.bs)) ||((an<|s.i<0) ||(an<|s.i>=(M s.p.cs:Y)))) (.br (((1:Y) !=0) ||(an<|(mx3<|gx (e:=.pair A7 Aj) s.ld s.i)>0)) (.so (.ret) {s with b:=X})<|.nx {s with i:=AA<|s.i+1})<|.ix s.i (M s.p.cs)<|.br (((0:Y) !=0) ||(an<|(mx3<|gx (e:=.pair A7 Aj) s.ld s.i)>(Cs<|Ae s.p.cs s.i))) (.so (.ret) {s with b:=X})<|.nx {s with i:=AA<|s.i+1}) (.so (.exit 0) s)
def kM (s:Pa):Prop:=s.i=0/\s.n=(M s.ld:Y)/\M s.ld=M s.p.cs/\M s.p.cs<=1000/\B6 s.p.cs s.p.os s.p.ks s.p.gs s.p.bs=U/\∀j:aVx,j<M s.p.cs->mx3 (gx (e:=.pair A7 Aj) s.ld (j:Y))<=Cs (Ae s.p.cs j)
def Z3 (s:Pa):Prop:=(0<=s.i/\s.i<=s.n)/\s.n=(M s.ld:Y)/\M s.ld=M s.p.cs/\M s.p.cs<=1000/\B6 s.p.cs s.p.os s.p.ks s.p.gs s.p.bs=U/\∀j:aVx,j<M s.p.cs->mx3 (gx (e:=.pair A7 Aj) s.ld (j:Y))<=Cs (Ae s.p.cs j)
def vD (s:Pa):aVx:=(s.n-s.i).toNat
def aBv (x:Ex) (s s':Pa):Prop:=x=.exit 0
def ak8:∀s,kM s->Z3 s:=by
 rintro s ⟨h0,h2⟩
 have:=h2.1
 exact ⟨⟨A0,A0⟩,h2⟩
def ay7:Da Z3 vD aBv iN:=by
 intro s hI;unfold iN;dsimp only [T.rd,T.rl,T.rv];obtain ⟨⟨h0,h1⟩,k1,k2,k3,k4,k5⟩:=hI;refine AH (λc1=>?_) λc1=>rfl
 have c1:s.i<s.n:=AY
 rw [AJ (x:=s.i+1)];refine AH (λc2=>?_) λc2=>?_
 ·exfalso
  rw [k4] at c2;simp only [Bool.not_true,D5,Cf,Ab] at c2;omega
 ·refine AH (λc3=>?_) (λc3=>⟨⟨⟨Ac,Ac⟩,k1,k2,k3,k4,k5⟩,by simp only [vD];omega⟩)
  exfalso
  have:=k5 s.i.toNat A0
  rw [CO h0] at this
  have c3:mx3 (gx (e:=.pair A7 Aj) s.ld s.i)>Cs (Ae s.p.cs s.i):=MZ
  exact absurd c3<|xZ.2 this
def Q1:AS Pa:=⟨0,81,[3,6,53,54,55],[],λs=>[.own 0 0,s.b,.xl (.pair A7 Aj) s.ld,s.n,s.i],λs=>[⟨[s.p.cs,s.p.os,s.p.ks,s.p.gs,s.p.bs,s.p.tk,s.p.up,s.p.ls,s.p.se,.xl (.int aw) s.p.fl,s.p.ra,s.p.nx,s.p.st,s.p.ca,s.p.mi,s.p.me,s.p.dm,s.p.lk,.xl A7 s.p.dr,.xl A7 s.p.tg],48,.cl,X⟩],λv b=>⟨EP v 1,B9 (.pair A7 Aj) v 2,AL v 3,AL v 4,rQ b 0⟩,iN,λs r=> {s with b:=r.b,i:=r.i},λs=>s,λ_ s=>s,[.ret,.exit 0],kM,Z3,vD⟩
abbrev aIS:=Q1.run
abbrev sZ:=Q1.Au
def ax8:Rq Z3 iN:=by
 intro s hI;refine ⟨λc1=>⟨?_,λc2=>⟨λ_=>trivial,λ_=>trivial⟩,λc2=>⟨?_,λ_=>trivial,λ_=>trivial⟩⟩,λ_=>trivial⟩
 all_goals ((obtain ⟨⟨h0,h1⟩,k1,k2,k3,k4,k5⟩:=hI;simp only [Ab] at c1;omega))
def vh:aVI:=[Qx,im,XK,Mu]
def agI:Ay:=kI vh<|la 9 func26 eQ<|la 11 func62 PE<|la 6 func62 Nr<|la 3 func45 Mp<|la 2 func61 Lr<|la 1 func60 Kc<|la 2 func69 Jr<|la 9 func26 Co<|l0 vh
def aRP:Q1.Ok:={}
def aQ6:Q1.Pf (aBv):=⟨ak8,λs h=>rfl,ay7,ax8⟩
def aqO:SA 0 aGI Q1:=s1 aRP aQ6 vh agI
def arO:Fi kM Z3 aBv sZ aIS:=AS.fin aRP aQ6
def aTy:aVy->T LV
 | [x_p,x_r,.xl (.int J) dw]=>(match NK x_p with
  |some p=>(match NK x_r with
  |some r=> .req (LmQ p r dw) (.ok U)
  |none=> .no)
  |none=> .no)
 |_=> .no
def dM (p r:PK) (dw:aVw):Pa:=(⟨X,GR p.cs p.gs dw,(M (GR p.cs p.gs dw):Y),0,p⟩:Pa)
def gO:aVI:=[Qx,im,XK,Mu]
def aSZ:Ay:=kI gO<|la 9 func26 eQ<|la 11 func62 PE<|la 6 func62 Nr<|la 3 func45 Mp<|la 2 func61 Lr<|la 1 func60 Kc<|la 2 func69 Jr<|la 9 func26 Co<|l0 gO
def azH (p r:PK) (dw:aVw):Bm prog AV (gO) aSZ (λi=>if i=8 then Q1.lp else Al i) f8 [p,r,.xl A7 dw]=.br (p.tk==r.tk) (.ok U) (.req (B6 p.cs p.os p.ks p.gs p.bs=U/\(M dw=M p.gs->∀k:aVx,k<M dw->0<=gi dw k/\gi dw k<=80))<|.req (B6 p.cs p.os p.ks p.gs p.bs=U/\(M dw=M p.gs->∀k:aVx,k<M dw->0<=gi dw k/\gi dw k<=80))<|.br (((Hf p.gs dw) !=0) ||((an (M dw=M p.gs)&&!DG p.cs p.gs dw) ||(((Hf p.gs dw) !=0) ||((M (GR p.cs p.gs dw):Y) !=(M p.cs:Y))))) (.ok X)<|.req (Q1.q<|dM p r dw)<|.br (Bs (sZ<|dM p r dw)<|.ret) (.ok (aIS<|dM p r dw).b)<|.ok U):=AU
def aA7:=vm (S:=aTy) func8 gO aSZ (L:=(λi=>if i=8 then Q1.lp else Al i)) (λb hb=>by
 rw [show BE _=[aGI] by kernel_rfl] at hb
 simp only [BB,Bx,By] at hb;subst hb;exact aqO) (λargs lv h=>by
 refine ⟨?_⟩;unfold aTy at h;split at h
 ·split at h
  case h_2=>cases h
  rename_i p hp;obtain rfl:=Wj hp;split at h
  case h_2=>cases h
  rename_i r hr;obtain rfl:=Wj hr;simp only [canL,canX];rw [azH];rename_i dw _ _;obtain ⟨⟨hJ,hm,ht,hd⟩,rfl⟩:=h;refine ⟨λ_=>rfl,λc=>?_⟩
  have c:p.tk≠r.tk:=CT.1 c
  have hd:=hd c
  obtain ⟨d1,d2,d3⟩:=hm.draw hJ ht;rw [<-hd] at d1 d2 d3
  have hs:=hJ.1.1.site
  have hX:GR p.cs p.gs dw=Hc p.cs p.gs dw (M p.gs):=AD d1
  have hY:Hf p.gs dw=0:=AD d1
  have hl:M (GR p.cs p.gs dw)=M p.cs:=by rw [hX];exact fJ (dP hs) (dQ hs) _<|Aq _
  have cl:=(DC.1 hs).1.2.1
  have h5:∀j:aVx,j<M p.cs->mx3 (gx (e:=.pair A7 Aj) (GR p.cs p.gs dw) (j:Y))<=Cs (Ae p.cs j):=λj hj=>by
   have h3:=d3
   unfold DG ckN at h3
   have h4:=Dl.1 h3 j A0
   unfold ckO at h4;simp only [AX,Ab] at h4;rw [hX]
   show mx3 (Df (Hc p.cs p.gs dw<|M p.gs) ((j:Y)).toNat)<=_
   generalize Df (Hc p.cs p.gs dw<|M p.gs) ((j:Y)).toNat=x at*;unfold mx3 mx;split<;>split<;>omega
  have hE:kM (dM p r dw):=⟨rfl,rfl,hl,by show M p.cs<=1000;omega,hs,h5⟩
  obtain ⟨_,_,q⟩:=arO _ hE
  have q:sZ (dM p r dw)=.exit 0:=q
  have rq:B6 p.cs p.os p.ks p.gs p.bs=U/\(M dw=M p.gs->∀k:aVx,k<M dw->0<=gi dw k/\gi dw k<=80):=⟨hs,λ_ k hk=>d2 k A0⟩
  refine ⟨rq,rq,λc2=>?_,λ_=>⟨⟨hE,rfl,rfl⟩,λc2=>?_,λ_=>rfl⟩⟩
  ·rw [hY,d3,hl] at c2
   simp at c2
  ·rw [q] at c2
   cases c2
 ·cases h)
structure NH where
 b:aVH
 many:Y
 ops:List (Int×(Int×(Int×(Le×Dm))))
 (n i m k:Y)
 (r p:PK)
 ev:EW
def anD (s:NH):aVy:=[.fn 8 [],.own 0 0,s.b,.own 1 0,s.many,.own 2 0,.xl (.pair (.int aw)<|.pair (.int aw)<|.pair (.int .u16)<|.pair AQ Ap) s.ops,s.n,s.i,s.m,s.k]
def an7 (s:NH):aVB:=[⟨[s.r.cs,s.r.os,s.r.ks,s.r.gs,s.r.bs,s.r.tk,s.r.up,s.r.ls,s.r.se,.xl (.int aw) s.r.fl,s.r.ra,s.r.nx,s.r.st,s.r.ca,s.r.mi,s.r.me,s.r.dm,s.r.lk,.xl A7 s.r.dr,.xl A7 s.r.tg],48,.cl,X⟩,⟨[s.p.cs,s.p.os,s.p.ks,s.p.gs,s.p.bs,s.p.tk,s.p.up,s.p.ls,s.p.se,.xl (.int aw) s.p.fl,s.p.ra,s.p.nx,s.p.st,s.p.ca,s.p.mi,s.p.me,s.p.dm,s.p.lk,.xl A7 s.p.dr,.xl A7 s.p.tg],48,.cl,X⟩,⟨[s.ev.ek,s.ev.en,s.ev.em,s.ev.c1,s.ev.c2,s.ev.c3,s.ev.c4,s.ev.c5,s.ev.d1,s.ev.d2,s.ev.d3,s.ev.d4],75,.cl,X⟩]
def aGJ:=lN (bN f7 0) 0
def iP (s:NH):T (Rd NH):=letI a:=AA<|s.many+1;letI c:=EW.ev s.ev;letI d:=LmQ s.p (BM s.p c)<|CU s.p c;.br (an<|s.k<s.m) (.br (s.ev.ek==1) (.br (an<|a>150) (.so (.exit 2) {s with many:=a})<|.req (JP s.p)<|.br ((BO s.p c) !=0) (.br (s.ev.ek==1) (.so (.ret) {s with b:=X,many:=a,r:=s.p})<|.so (.exit 2) {s with many:=a})<|.req d<|.br (!U) (.so (.ret) {s with b:=X,many:=a,r:=s.p})<|.nx {s with many:=a,k:=AA<|s.k+1,p:=BM s.p c})<|.req (JP s.p)<|.br ((BO s.p c) !=0) (.br (s.ev.ek==1) (.so (.ret) {s with b:=X,r:=s.p})<|.so (.exit 2) s)<|.req d<|.br (!U) (.so (.ret) {s with b:=X,r:=s.p})<|.nx {s with k:=AA<|s.k+1,p:=BM s.p c})<|.so (.exit 2) s
def YG (s:NH):Prop:=s.k=0/\s.many<=12*s.i/\JP s.p/\LM s.p/\(s.p.tk<=150/\s.p.tk<=s.many/\0<=s.many)/\s.m<=12/\(0<=s.i/\s.i<=1000)/\TmE s.ev
def Z4 (s:NH):Prop:=(0<=s.k/\(s.k<=s.m\/s.k=0))/\s.many<=12*s.i+s.k/\JP s.p/\LM s.p/\(s.p.tk<=150/\s.p.tk<=s.many/\0<=s.many)/\s.m<=12/\(0<=s.i/\s.i<=1000)/\TmE s.ev
def gb (s:NH):aVx:=(s.m-s.k).toNat
def kP (x:Ex) (s s':NH):Prop:=x=.exit 2/\JP s'.p/\LM s'.p/\(s'.p.tk<=150/\s'.p.tk<=s'.many/\0<=s'.many)/\s'.many<=12*s'.i+12
def akA:∀s,YG s->Z4 s:=by
 rintro s ⟨h0,h1,h2⟩
 exact ⟨A0,A0,h2⟩
def azY:Da Z4 gb kP iP:=by
 intro s hI;unfold iP;dsimp only [T.rd,T.rl,T.rv];obtain ⟨⟨h0,h0'⟩,h1,hJ,hm,⟨t1,t2,t3⟩,h3,h4,ht⟩:=hI
 have w:AA (s.many+1)=s.many+1:=AJ
 have wk:AA (s.k+1)=s.k+1:=AJ
 rw [w,wk];refine AH (λc1=>?_) λc1=>⟨rfl,hJ,hm,⟨t1,t2,t3⟩,by simp only [DI] at c1;omega⟩
 simp only [Ab] at c1;refine AH (λc2=>?_) λc2=>?_
 ·have c2:s.ev.ek=1:=eq_of_beq c2
  refine AH (λc3=>⟨rfl,hJ,hm,⟨t1,Ac,Ac⟩,Ac⟩) λc3=>?_
  have c3:¬s.many+1>150:=KJ c3
  refine AH (λc4=>absurd (apo hJ c2 A0)<|F5.1 c4) λc4=>?_
  have c4:BO s.p s.ev.ev=0:=Dv c4
  refine AH (λc5=>by cases c5) λ_=>?_
  have hk:=sG hJ c4
  exact ⟨⟨⟨Ac,Ac⟩,Ac,hJ.step c4,hm.step hJ A0 c4 ht.1 ht.2,⟨Ac,Ac,Ac⟩,h3,h4,ht⟩,by simp only [gb];omega⟩
 ·have c2:¬s.ev.ek=1:=CT.1 c2
  refine AH (λc4=>AH (λc5=>absurd (eq_of_beq c5) c2) λ_=>⟨rfl,hJ,hm,⟨t1,t2,t3⟩,A0⟩) λc4=>?_
  have c4:BO s.p s.ev.ev=0:=Dv c4
  refine AH (λc5=>by cases c5) λ_=>?_
  have hk:=sG hJ c4
  exact ⟨⟨⟨Ac,Ac⟩,Ac,hJ.step c4,hm.step hJ A0 c4 ht.1 ht.2,⟨Ac,Ac,t3⟩,h3,h4,ht⟩,by simp only [gb];omega⟩
def S7:AS NH:=⟨0,75,[3,8,9,10,12,15,29,30,31,41,42],[],anD,an7,λv b=>⟨EP v 2,AL v 4,As (.pair (.int aw)<|.pair (.int aw)<|.pair (.int .u16)<|.pair AQ Ap)<|v.getD 6 .junk,AL v 7,AL v 8,AL v 9,AL v 10,rQ b 0,rQ b 1,rE b 0 2⟩,iP,λs r=> {s with b:=r.b,many:=r.many,k:=r.k,r:=r.r,p:=r.p},λs=>s,λ_ s=>s,[.exit 2,.ret],YG,Z4,gb⟩
abbrev ov:=S7.run
abbrev sf:=S7.Au
def axB:Rq Z4 iP:=by
 intro s hI;refine ⟨λc1=>⟨λc2=>⟨λ_=>trivial,λc3=>⟨?_,λc4=>⟨λ_=>trivial,λ_=>trivial⟩,λc4=>⟨?_,λ_=>trivial,λ_=>trivial⟩⟩⟩,λc2=>⟨?_,λc7=>⟨λ_=>trivial,λ_=>trivial⟩,λc7=>⟨?_,λ_=>trivial,λ_=>trivial⟩⟩⟩,λ_=>trivial⟩
 all_goals ((obtain ⟨_,_,hJ,hm,⟨t1,_⟩,_⟩:=hI;first|exact hJ|exact agm hJ hm A0 (Dv<|by assumption)))
def vg:aVI:=[aA7,aAA,fv,aaL]
def aRR:S7.Ok:={}
def aQ8:S7.Pf (kP):=⟨akA,λs h=>rfl,azY,axB⟩
def aqQ:SA 0 aGJ S7:=s1 aRR aQ8 vg kN
def arS:Fi YG Z4 kP sf ov:=AS.fin aRR aQ8
structure Jw where
 b:aVH
 many:Y
 ops:List (Int×(Int×(Int×(Le×Dm))))
 (n i:Y)
 (r p:PK)
def anC (s:Jw):aVy:=[.fn 8 [],.own 0 0,s.b,.own 1 0,s.many,.xl (.pair (.int aw)<|.pair (.int aw)<|.pair (.int .u16)<|.pair AQ Ap) s.ops,s.n,s.i]
def an6 (s:Jw):aVB:=[⟨[s.r.cs,s.r.os,s.r.ks,s.r.gs,s.r.bs,s.r.tk,s.r.up,s.r.ls,s.r.se,.xl (.int aw) s.r.fl,s.r.ra,s.r.nx,s.r.st,s.r.ca,s.r.mi,s.r.me,s.r.dm,s.r.lk,.xl A7 s.r.dr,.xl A7 s.r.tg],48,.cl,X⟩,⟨[s.p.cs,s.p.os,s.p.ks,s.p.gs,s.p.bs,s.p.tk,s.p.up,s.p.ls,s.p.se,.xl (.int aw) s.p.fl,s.p.ra,s.p.nx,s.p.st,s.p.ca,s.p.mi,s.p.me,s.p.dm,s.p.lk,.xl A7 s.p.dr,.xl A7 s.p.tg],48,.cl,X⟩]
def rN:=bN f7 0
def P1 (s:Jw):NH:=(⟨s.b,s.many,s.ops,s.n,s.i,opT (gx (e:=.pair (.int aw)<|.pair (.int aw)<|.pair (.int .u16)<|.pair AQ Ap) s.ops s.i).1 (gx (e:=.pair (.int aw)<|.pair (.int aw)<|.pair (.int .u16)<|.pair AQ Ap) s.ops s.i).2.2.1,0,s.r,s.p,opE s.p (gx (e:=.pair (.int aw)<|.pair (.int aw)<|.pair (.int .u16)<|.pair AQ Ap) s.ops s.i).1 (gx (e:=.pair (.int aw)<|.pair (.int aw)<|.pair (.int .u16)<|.pair AQ Ap) s.ops s.i).2.1 (gx (e:=.pair (.int aw)<|.pair (.int aw)<|.pair (.int .u16)<|.pair AQ Ap) s.ops s.i).2.2.1 (gx (e:=.pair (.int aw)<|.pair (.int aw)<|.pair (.int .u16)<|.pair AQ Ap) s.ops s.i).2.2.2.1.1 (gx (e:=.pair (.int aw)<|.pair (.int aw)<|.pair (.int .u16)<|.pair AQ Ap) s.ops s.i).2.2.2.1.2.1 (gx (e:=.pair (.int aw)<|.pair (.int aw)<|.pair (.int .u16)<|.pair AQ Ap) s.ops s.i).2.2.2.1.2.2.1 (gx (e:=.pair (.int aw)<|.pair (.int aw)<|.pair (.int .u16)<|.pair AQ Ap) s.ops s.i).2.2.2.1.2.2.2.1 (gx (e:=.pair (.int aw)<|.pair (.int aw)<|.pair (.int .u16)<|.pair AQ Ap) s.ops s.i).2.2.2.1.2.2.2.2 (gx (e:=.pair (.int aw)<|.pair (.int aw)<|.pair (.int .u16)<|.pair AQ Ap) s.ops s.i).2.2.2.2.1 (gx (e:=.pair (.int aw)<|.pair (.int aw)<|.pair (.int .u16)<|.pair AQ Ap) s.ops s.i).2.2.2.2.2.1 (gx (e:=.pair (.int aw)<|.pair (.int aw)<|.pair (.int .u16)<|.pair AQ Ap) s.ops s.i).2.2.2.2.2.2.1 (gx (e:=.pair (.int aw)<|.pair (.int aw)<|.pair (.int .u16)<|.pair AQ Ap) s.ops s.i).2.2.2.2.2.2.2⟩:NH)
def iO (s:Jw):T (Rd Jw):=letI a:=ov<|P1 s;.br (an<|s.i<s.n) (.ix s.i (M s.ops)<|.req (S7.q<|P1 s)<|.br (Bs (sf<|P1 s)<|.exit 2) (.nx {s with b:=a.b,many:=a.many,i:=AA<|s.i+1,r:=a.r,p:=a.p})<|.so (.ret) {s with b:=a.b,many:=a.many,r:=a.r,p:=a.p})<|.so (.exit 0) s
def YF (s:Jw):Prop:=s.i=0/\s.many=0/\JP s.p/\LM s.p/\(s.p.tk<=150/\s.p.tk<=s.many/\0<=s.many)/\(s.n=(M s.ops:Y)/\s.n<=1000)/\∀x∈s.ops,TmO x
def Uc (s:Jw):Prop:=(0<=s.i/\s.i<=s.n)/\s.many<=12*s.i/\JP s.p/\LM s.p/\(s.p.tk<=150/\s.p.tk<=s.many/\0<=s.many)/\(s.n=(M s.ops:Y)/\s.n<=1000)/\∀x∈s.ops,TmO x
def vF (s:Jw):aVx:=(s.n-s.i).toNat
def aBw (x:Ex) (s s':Jw):Prop:=x=.exit 0/\JP s'.p/\LM s'.p/\s'.p.tk<=150
def ak9:∀s,YF s->Uc s:=by
 rintro s ⟨h0,h1,h2,h3,h4,h5⟩
 exact ⟨A0,A0,h2,h3,h4,h5⟩
def aQC {s:Jw}(hI:Uc s) (c1:s.i<s.n):kP (sf<|P1 s) (P1 s) (ov<|P1 s)/\YG (P1 s):=by
 obtain ⟨⟨h0,h1⟩,h2,hJ,hm,ht,h3,h4⟩:=id hI
 have h5:=h4 (gx (e:=(.pair (.int aw)<|.pair (.int aw)<|.pair (.int .u16)<|.pair AQ Ap)) s.ops s.i) (by unfold gx;rw [Lz A0];exact Gf _)
 have hE:YG (P1 s):=⟨rfl,h2,hJ,hm,ht,azi _ _,⟨h0,by show s.i<=1000;omega⟩,azj h5.1 h5.2⟩
 obtain ⟨_,_,q⟩:=arS _ hE;exact ⟨q,hE⟩
def ay8:Da Uc vF aBw iO:=by
 intro s hI;unfold iO;dsimp only [T.rd,T.rl,T.rv];obtain ⟨⟨h0,h1⟩,h2,hJ,hm,ht,h3,h4⟩:=id hI;refine AH (λc1=>?_) λc1=>⟨rfl,hJ,hm,ht.1⟩
 have c1:s.i<s.n:=AY
 obtain ⟨x1,x2,x3,x4,x5⟩:=(aQC hI c1).1;rw [AJ (x:=s.i+1)];refine AH (λc2=>?_) λc2=>?_
 ·have x5:(ov<|P1 s).many<=12*s.i+12:=x5
  exact ⟨⟨⟨Ac,Ac⟩,Ac,x2,x3,x4,h3,h4⟩,by simp only [vF];omega⟩
 ·rw [x1] at c2
  cases c2
def S6:AS Jw:=⟨0,75,[3,8,9,10,12,29,30,31],[.ps 8 0 Af,.ps 8 1 .str,.ps 8 2 An,.ps 8 3 Ag,.ps 8 4 Am,.ps 8 7 AQ,.ps 8 9<|.int aw,.ps 8 10 Aj,.ps 8 12 B7,.ps 8 13 AQ,.ps 8 14 BA,.ps 8 15 BT,.ps 8 16 Ap,.ps 8 17 BP,.ps 8 18 A7,.ps 8 19 A7],anC,an6,λv b=>⟨EP v 2,AL v 4,As (.pair (.int aw)<|.pair (.int aw)<|.pair (.int .u16)<|.pair AQ Ap)<|v.getD 5 .junk,AL v 6,AL v 7,rQ b 0,rQ b 1⟩,iO,λs r=> {r with ops:=s.ops,n:=s.n},λs=>s,λ_ s=>s,[.ret,.exit 0],YF,Uc,vF⟩
abbrev dd:=S6.run
abbrev sd:=S6.Au
def ax9:Rq Uc iO:=by
 intro s hI;refine ⟨λc1=>⟨?_,?_,λ_=>trivial,λ_=>trivial⟩,λ_=>trivial⟩
 all_goals ((obtain ⟨⟨h0,h1⟩,h2,hJ,hm,ht,h3⟩:=id hI;simp only [Ab] at c1;first|omega|exact ⟨(aQC hI c1).2,rfl,rfl⟩))
def aRQ:S6.Ok:={}
def aQ7:S6.Pf (aBw):=⟨ak9,λs h=>rfl,ay8,ax9⟩
def aqP:SA 0 rN S6:=AS.snd aRQ aQ7 (pN (Γ:=vg) (K:=GB) (L:=(λi=>if i=10 then S7.lp else Al i)) (gk vg) kN.h rN (λb hb=>by
 rw [show BE _=[aGJ] by kernel_rfl] at hb
 simp only [BB,Bx,By] at hb;subst hb;exact aqQ)) λs=>AU
def arR:Fi YF Uc aBw sd dd:=AS.fin aRQ aQ7
def plS (cs:aVF) (os:aVz) (ks:aVK) (gs:aVA) (bs:aVL) (dr:aVw) (ops:List<|(Int×(Int×(Int×(Le×Dm))))):Jw:=⟨X,0,ops,(M ops:Y),0,PK0,newP cs os ks gs bs dr⟩
def plP (cs:aVF) (os:aVz) (ks:aVK) (gs:aVA) (bs:aVL) (dr:aVw) (ops:List<|(Int×(Int×(Int×(Le×Dm))))):PK:=if DL cs os ks gs bs dr≠0 then newP cs os ks gs bs dr else (dd<|plS cs os ks gs bs dr ops).p
def plE {cs:aVF}{os:aVz}{ks:aVK}{gs:aVA}{bs:aVL}{dr:aVw}{ops:List<|(Int×(Int×(Int×(Le×Dm))))}(c:DL cs os ks gs bs dr=0) (h2:M ops<=1000) (h3:∀x∈ops,TmO x):YF (plS cs os ks gs bs dr ops):=by
 have hp:newP cs os ks gs bs dr=_:=AE bK
 refine ⟨rfl,rfl,gZ c,az6 c,?_,⟨rfl,by show (M ops:Y)<=1000;omega⟩,h3⟩
 show (newP cs os ks gs bs dr).tk<=150/\(newP cs os ks gs bs dr).tk<=0/\(0:Y)<=0
 rw [hp];exact ⟨by show (0:Y)<=150;decide,Cj _,Cj _⟩
def aTw:aVy->T LV
 | .agg a::r=>s5 a λcs os ks gs bs=>(match r with
  | [.xl (.int J) dr,.xl (.pair (.int aw) (.pair (.int aw) (.pair (.int .u16) (.pair (.pair (.int J) (.pair (.int J) (.pair (.int J) (.pair (.int J) (.int J))))) (.pair .bool (.pair (.int J) (.pair (.int J) (.int J)))))))) ops,.fn 8 []]=> .req ((M dr<=1000/\M ops<=1000)/\∀x∈ops,TmO x) (.ok<|.AO [plP cs os ks gs bs dr ops,U])
  |_=> .no)
 |_=> .no
def aDE (cs:aVF) (os:aVz) (ks:aVK) (gs:aVA) (bs:aVL) (dr:aVw) (ops:List<|Int×(Int×(Int×(Le×Dm)))):Jw:=(⟨X,0,ops,(M ops:Y),0,⟨([]:aVF),([]:aVz),([]:aVK),([]:aVA),([]:aVL),0,X,([]:aVG),0,([]:aVw),([]:aV3),0,([]:aVW),([]:aVG),([]:aWj),([]:aWm),([]:aVU),([]:aWa),([]:aVw),([]:aVw)⟩,newP cs os ks gs bs dr⟩:Jw)
def ahe:aVI:=[aA7,aAA,fv,aaL]
def ajr:=vm (S:=aTw) func7 ahe kN (L:=(λi=>if i=6 then S6.lp else Al i)) (λb hb=>by
 rw [show BE _=[rN] by kernel_rfl] at hb
 simp only [BB,Bx,By] at hb;subst hb;exact aqP) (λargs lv h=>by
 unfold aTw at h;split at h
 case h_2=>cases h
 replace h:=IX h
 obtain ⟨cs,os,ks,gs,bs,rfl,h⟩:=h;split at h
 ·rename_i dr ops
  refine At (letI a:=aDE cs os ks gs bs dr ops;.req (M dr<=1000)<|.br ((DL cs os ks gs bs dr) !=0) (.ok<|.AO [((newP cs os ks gs bs dr)),U])<|.req (S6.q a)<|.br (Bs (sd a)<|.ret) (.ok<|.AO [((dd a).r),(dd a).b])<|.ok<|.AO [((dd a).p),U]) ?_;obtain ⟨⟨⟨h1,h2⟩,h3⟩,rfl⟩:=h;refine ⟨h1,λc=>?_,λc=>?_⟩
  ·have c:=F5.1 c
   rw [show plP cs os ks gs bs dr ops=newP cs os ks gs bs dr from AD c];rfl
  have c:=Dv c
  have hE:YF (aDE cs os ks gs bs dr ops):=plE c h2 h3
  obtain ⟨_,_,q,_⟩:=arR _ hE
  have q:sd (aDE cs os ks gs bs dr ops)=.exit 0:=q
  refine ⟨⟨hE,rfl,rfl⟩,λc2=>?_,λ_=>?_⟩
  ·rw [q] at c2
   cases c2
  ·rw [show plP cs os ks gs bs dr ops=_ from AE bK]
   rfl
 ·cases h)
def KB (x:(Int×(Int×(Int×(Le×Dm))))):aVH:=!(x.1.tmod 14==12 ||x.2.2.2.1.1==4)
def apl {l:List<|(Int×(Int×(Int×(Le×Dm))))}:l.all KB=U↔∀x∈l,TmO x:=by
 simp [BH,KB,TmO]
structure O5 where
 b:aVH
 l:List (Int×(Int×(Int×(Le×Dm))))
 (m i:Y)
def aGW:=bN f6 0
def iy (s:O5):T (Rd O5):=
 .br (an<|s.i<s.m) (.ix s.i (M s.l)<|.req ((14:Y)≠0)<|.br ((((gx (e:=.pair (.int aw)<|.pair (.int aw)<|.pair (.int .u16)<|.pair AQ Ap) s.l s.i).1.tmod 14)==12) ||((gx (e:=.pair (.int aw)<|.pair (.int aw)<|.pair (.int .u16)<|.pair AQ Ap) s.l s.i).2.2.2.1.1==4)) (.so (.ret) {s with b:=X})<|.nx {s with i:=AA<|s.i+1}) (.so (.exit 0) s)
def UB (s:O5) (j:Y):aVH:=KB<|gx (e:=(.pair (.int aw)<|.pair (.int aw)<|.pair (.int .u16)<|.pair AQ Ap)) s.l j
def kB (s:O5):Prop:=s.i=0/\0<=s.m/\s.m<=1000/\s.m=(M s.l:Y)
def Yq (s:O5):Prop:=0<=s.i/\s.i<=s.m/\s.m<=1000/\(s.m=(M s.l:Y))/\∀j:aVx,(j:Y)<s.i->UB s j=U
def ux (s:O5):aVx:=(s.m-s.i).toNat
def aCL (x:Ex) (s s':O5):Prop:=(x=.exit 0/\∀j:aVx,(j:Y)<s'.m->UB s' j=U)\/(x=.ret/\s'.b=X/\∃j:aVx,(j:Y)<s'.m/\UB s' j=X)
def ajW:∀s,kB s->Yq s:=by
 exact KK
def ax1:Da Yq ux aCL iy:=by
 intro s hI;unfold iy;dsimp only [T.rd,T.rl,T.rv];obtain ⟨h0,h1,h2,h3,h4⟩:=hI;refine AH (λc1=>AH (λc2=>?_) λc2=>?_) λc1=>?_
 ·have c1:s.i<s.m:=AY
  refine .inr ⟨rfl,rfl,s.i.toNat,Ac,?_⟩;rw [CO A0]
  have hg:UB s s.i=false:=aOW
  exact hg
 ·have c1:s.i<s.m:=AY
  have hg:UB s s.i=true:=aOW
  rw [AJ (x:=s.i+1)];refine ⟨⟨Ac,Ac,h2,h3,λj hj=>?_⟩,by simp only [ux];omega⟩
  by_cases hji:(j:Y)<s.i
  ·exact h4 j hji
  ·exact aMV
 ·exact mh
def S4:AS O5:=⟨0,22,[2,5,6,7],[],λs=>[s.b,.xl (.pair (.int aw)<|.pair (.int aw)<|.pair (.int .u16)<|.pair AQ Ap) s.l,s.m,s.i],λ_=>[],λv b=>⟨EP v 0,As (.pair (.int aw)<|.pair (.int aw)<|.pair (.int .u16)<|.pair AQ Ap)<|v.getD 1 .junk,AL v 2,AL v 3⟩,iy,λs r=> {r with l:=s.l,m:=s.m},λs=>s,λ_ s=>s,[.ret,.exit 0],kB,Yq,ux⟩
abbrev ru:=S4.run
abbrev fT:=S4.Au
def axN:Rq Yq iy:=by
 exact yB
def aSW:aVI:=[]
def aRx:S4.Ok:={}
def aQM:S4.Pf (aCL):=⟨ajW,λs h=>rfl,ax1,axN⟩
def aqt:SA 0 aGW S4:=s1 aRx aQM aSW kN
def apq:Fi kB Yq aCL fT ru:=AS.fin aRx aQM
def aKo:aVy->T LV
 | [.xl (.pair (.int aw) (.pair (.int aw) (.pair (.int .u16) (.pair (.pair (.int J) (.pair (.int J) (.pair (.int J) (.pair (.int J) (.int J))))) (.pair .bool (.pair (.int J) (.pair (.int J) (.int J)))))))) l]=> .req (M l<=1000) (.ok<|l.all KB)
 |_=> .no
def TQ (l:List<|Int×(Int×(Int×(Le×Dm)))):O5:=(⟨X,l,(M l:Y),0⟩:O5)
def avo:=vm (S:=aKo) func6 aSW kN (L:=(λi=>if i=2 then S4.lp else Al i)) (λb hb=>by
 rw [show BE _=[aGW] by kernel_rfl] at hb
 simp only [BB,Bx,By] at hb;subst hb;exact aqt) (λargs lv h=>by
 unfold aKo at h;split at h
 ·rename_i l
  refine At (.req (S4.q<|TQ l)<|.br (Bs (fT<|TQ l)<|.ret) (.ok (ru<|TQ l).b)<|.ok U) ?_;obtain ⟨hk,rfl⟩:=h
  have E1:kB (TQ l):=⟨rfl,T1 _,by show (M l:Y)<=1000;omega,rfl⟩
  have hl:DS (M l) (λk=>KB<|gx (e:=(.pair (.int aw)<|.pair (.int aw)<|.pair (.int .u16)<|.pair AQ Ap)) l k)=l.all KB:=qI (f:=KB)
  rw [<-hl];refine ⟨⟨E1,rfl,rfl⟩,?_⟩;obtain ⟨_,_,q⟩:=apq _ E1
  have q:(fT (TQ l)=.exit 0/\_)\/(fT (TQ l)=.ret/\(ru<|TQ l).b=X/\∃j:aVx,(j:Y)<(M l:Y)/\KB (gx (e:=(.pair (.int aw)<|.pair (.int aw)<|.pair (.int .u16)<|.pair AQ Ap)) l j)=X):=q
  rcases q with ⟨q1,q2⟩ |⟨q1,q2,j,q3,q4⟩
  ·rw [q1,show DS (M l) (λk=>KB<|gx (e:=(.pair (.int aw)<|.pair (.int aw)<|.pair (.int .u16)<|.pair AQ Ap)) l k)=U from Dl.2 q2]
   exact ⟨λc=>F6,λ_=>rfl⟩
  ·rw [q1,q2,PA j q3 q4]
   exact ⟨λ_=>rfl,λc=>F6⟩
 ·cases h)
def aTs:aVy->T LV
 | .agg a::r=>s5 a λcs os ks gs bs=>(match r with
  | []=> .ok (an<|M cs<=40/\M os<=40/\M ks<=40/\M gs<=40/\M bs<=40)
  |_=> .no)
 |_=> .no
def ahd:aVI:=[]
def ajo:=vo (S:=aTs) func16 ahd kN (λargs lv h=>by
 unfold aTs at h;split at h
 case h_2=>cases h
 replace h:=IX h
 obtain ⟨cs,os,ks,gs,bs,rfl,h⟩:=h;split at h
 ·refine At (.ok<|.v<|.bool<|(an<|(M cs:Y)<=40)&&((an<|(M os:Y)<=40)&&((an<|(M ks:Y)<=40)&&((an<|(M gs:Y)<=40)&&(an<|(M bs:Y)<=40))))) ?_
  obtain rfl:=h;refine B2 (λz=>LV.v<|.bool z) ?_
  rw [Iw];simp only [AX,Ab];omega
 ·cases h)
def aTZ:aVy->T LV
 | .agg a::r=>s5 a λcs os ks gs bs=>(match r with
  | [.xl (.int J) dr,.xl (.pair (.int aw) (.pair (.int aw) (.pair (.int .u16) (.pair (.pair (.int J) (.pair (.int J) (.pair (.int J) (.pair (.int J) (.int J))))) (.pair .bool (.pair (.int J) (.pair (.int J) (.int J)))))))) ops]=> .ok U
  |_=> .no)
 |_=> .no
def abl:=uS f3 aTZ
def vf:aVI:=[anl,avo,ajr,aA7,ajo]
def agH:Ay:=kI vf<|l0 vf
def ajx:VV 3 abl:=vo func3 vf agH (λargs lv h=>by
 unfold aTZ at h;split at h
 case h_2=>cases h
 replace h:=IX h
 obtain ⟨cs,os,ks,gs,bs,rfl,h⟩:=h;split at h
 ·rename_i dr ops
  refine At (.br (!((an<|M cs<=40/\M os<=40/\M ks<=40/\M gs<=40/\M bs<=40)&&((an<|(M dr:Y)<=40)&&(an<|(M ops:Y)<=40)))) (.ok U)<|.req (M ops<=1000)<|.br (!(ops.all KB)) (.ok U)<|.req ((M dr<=1000/\M ops<=1000)/\∀x∈ops,TmO x)<|.ok<|.v<|.bool<|U&&U) ?_;obtain rfl:=h;refine ⟨λ_=>rfl,λc1=>?_⟩
  simp only [IP,AX,Ab] at c1;obtain ⟨_,k1,k2⟩:=c1;refine ⟨A0,λ_=>rfl,λc2=>?_⟩
  have hT:=apl.1 (show ops.all KB=U by cases e:ops.all KB with
   |true=>rfl
   |false=>rw [e] at c2;cases c2)
  exact ⟨⟨⟨A0,A0⟩,hT⟩,rfl⟩
 ·cases h)
end Go.Proofs.YtjdlmobanmhohaaGreatDoor
namespace Go.Sx
open Go Go.RowKit Go.Proofs.YtjdlmobanmhohaaGreatDoor
def mb:Ty->Nat
 | .int k=>k.bits / 8
 | .bool=>1
 | .str=>16
 | .sl _=>24
 | .pair a b=>mb a+mb b
def wfD:(t:Ty)->t.D->Prop
 | .int k,n=>(Lit.int k n).wf=U
 | .bool,_=>True
 | .str,s=>s.size<=maxLen
 | .sl e,l=>(M l<=maxLen/\M l*mb e<=reachBytes)/\∀d,d∈l->wfD e d
 | .pair a b,d=>wfD a d.1/\wfD b d.2
def Wv (P:aVM):aVx->aWF->Bool
 |_,[]=>U
 |o,f::fs=>an (f.offset=o)&&Wv P (o+P.cellsOf f.type) fs
def MA (P:aVM):aVx->aVN->Bool
 |0,_=>X
 |m+1,t=>match P.underlying t with
  |some (.int _) |some .bool|some .string=>an (P.cellsOf t=1)
  |some (.struct fs)=>Wv P 0 fs.toList&&an (P.cellsOf t=((fs.toList.map (·.type)).map P.cellsOf).sum)&&fs.toList.all (λf=>MA P m f.type)
  |some (.array n e)=>an (P.cellsOf t=((aq n e).map P.cellsOf).sum)&&MA P m e
  |some (.slice e)=>an (P.cellsOf t=1)&&an (1<=P.cellsOf e)&&(Ih P m e).any (λty=>ty.n==P.cellsOf e&&an (mb ty<=P.bytesOf e))&&MA P m e
  |_=>X
variable {H : Type} {enc : TypeId × Value -> H} {P : Program} {w : World} {base : Nat} {spare : Nat -> Bool} {held : Bool} {β : Nat -> Loc}
def Good (enc:TypeId×Value->H) (P:aVM) (w:aVJ) (base:aVx) (spare:aVx->aVH) (held:aVH) (t:aVN) (cs:aVO):Prop:=∃n x,DataW.trod enc P w base spare held n t cs=ah x/\∀k,k∈x.1.weights P t->k<=reachBytes
def qd {e:aVN}{d:DataW H}{k:aVx}(hk:k∈d.weights P e):∀ {l:List<|DataW H}{i:aVx},l[i]? =ah d->k∈DataW.weightsAll P e l
 | [],_,h=>Ar
 |x::l,0,h=>by
  simp only [DataW.weightsAll,BZ]
  grind
 |x::l,i+1,h=>by
  simp only [DataW.weightsAll,BZ];exact .inr<|qd hk h
def aFA {t:aVN}{d:DataW H}{k:aVx}(hk:k∈d.weights P t):∀ {ts:aV4}{l:List<|DataW H}{i:aVx},ts[i]? =ah t->l[i]? =ah d->k∈DataW.weightsEach P ts l
 | [],_,_,h,_=>Ar
 |_::_,[],_,_,h=>Ar
 |u::ts,x::l,0,h1,h2=>by
  simp only [DataW.weightsEach,BZ]
  grind
 |u::ts,x::l,i+1,h1,h2=>by
  simp only [DataW.weightsEach,BZ];exact .inr<|aFA hk h1 h2
def aFB:∀ {ts us:aV4}{ds gs:List<|DataW H},M ds=M ts->∀k,k∈DataW.weightsEach P ts ds->k∈DataW.weightsEach P (ts++us) (ds++gs)
 | [],_,[],_,_,_,h=>by simp [DataW.weightsEach] at h
 | [],_,_::_,_,h,_,_=>Ar
 |_::_,_,[],_,h,_,_=>Ar
 |t::ts,us,d::ds,gs,h,k,hk=>by
  simp only [DataW.weightsEach,BZ,KG] at hk|-;rcases hk with hk|hk
  ·grind
  ·exact .inr<|aFB A8 k hk
def adY:∀ {ts:aV4}{vs:aVO}{ds:List<|DataW H}{ps:aWl},DataW.TrodAll enc P w base spare held ts vs ds ps->M ds=M ts
 | [],[],[],_,_=>rfl
 | [],_::_,_,_,h=>Ar
 | [],[],_::_,_,h=>Ar
 |_::_,[],_,_,h=>Ar
 |_::_,_::_,[],_,h=>Ar
 |_::_,_::_,_::_,_,h=>by
  obtain ⟨_,_,_,h2,_⟩:=h
  simp [adY h2]
def RL.append' {Z:aVx->Prop}:∀ {l1 l2:aVy}{y1 y2:aVO},RL β Z w l1 y1->RL β Z w l2 y2->RL β Z w (l1++l2) (y1++y2)
 | [],l2,y1,y2,h1,h2=>by simp only [RL] at h1;subst h1;exact h2
 |x::xs,l2,y1,y2,h1,h2=>by
  obtain ⟨y,zs,rfl,h3,h4⟩:=h1;exact ⟨y,zs++y2,rfl,h3,RL.append' h4 h2⟩
def wK {Z:aVx->Prop}:∀(t:Ty) (d:t.D) (cs:aVO) (b o:aVx),RL β Z w (Br t d) cs->(∀(j:aVx) v,cs[j]? =ah v->w.cell? ⟨b,o+j,aj⟩=ah v)->RD Z w t d b o
 | .int k,d,cs,b,o,h,hc=>by
  exact yE
 | .bool,d,cs,b,o,h,hc=>by
  exact yE
 | .str,d,cs,b,o,h,hc=>by
  exact yE
 | .sl e,d,cs,b,o,h,hc=>by
  obtain ⟨y,zs,rfl,⟨a,cap,rfl,h2,h3⟩,_⟩:=h;simp only [RD];exact ⟨a,cap,hc 0 _ rfl,h2,h3⟩
 | .pair p q,d,cs,b,o,h,hc=>by
  simp only [Br] at h
  have hl:=RL.length h
  have h1:=h.take_drop 0 p.n
  have h2:RL β Z w ((Br p d.1++Br q d.2).drop p.n) (cs.drop p.n):=by
   refine RL.CZ (by simp [hl,KM]) λi z hz=>?_
   rw [FO] at hz|-;exact RL.get _ _ h hz
  have t1:((Br p d.1++Br q d.2).drop 0).take p.n=Br p d.1:=by
   rw [CX,List.take_append_of_le_length yl,Di yl]
  have t2:(Br p d.1++Br q d.2).drop p.n=Br q d.2:=by
   rw [aLt yl,Ew A8,ES]
  rw [t1,CX] at h1;rw [t2] at h2;simp only [RD];refine ⟨wK p d.1 _ b o h1 λj v hv=>?_,wK q d.2 _ b (o+p.n) h2 λj v hv=>?_⟩
  ·exact aNA
  ·rw [FO] at hv
   grind
def qo {Z:aVx->Prop}{r:aVN->Option Ty}{sz:aVN->aVx}{Gd:aVN->aVO->Prop}:∀(ts:aV4) (ty:Ty) (cs:aVO),VC r ts=ah ty->
  (∀t∈ts,∀ty c,r t=ah ty->Gd t c->∃d:ty.D,RL β Z w (Br ty d) c/\wfD ty d)->M cs=(ts.map sz).sum->(∀pre t post,ts=pre++t::post->Gd t ((cs.drop (pre.map sz).sum).take<|sz t))->∃d:ty.D,RL β Z w (Br ty d) cs/\wfD ty d
 | [],ty,cs,h,_,_,_=>by simp [VC] at h
 | [t],ty,cs,h,ih,hl,hg=>by
  have:=ih t AI ty _ h<|hg [] t [] rfl
  have e:(cs.drop (List.map sz []).sum).take (sz t)=cs:=by
   grind
  rw [e] at this;exact this
 | t::u::ts,ty,cs,h,ih,hl,hg=>by
  simp only [VC] at h;split at h
  ·rename_i a b ha hb
   simp only [Ah] at h;subst h;obtain ⟨d1,a1,a2⟩:=ih t AI a _ ha<|hg [] t (u::ts) rfl
   obtain ⟨d2,b1,b2⟩:=qo (sz:=sz) (Gd:=Gd) (u::ts) b (cs.drop<|sz t) hb (λt' ht=>ih t' A8) A8 (λpre t' post e=>by
    have:=hg (t::pre) t' post zU
    simpa using this)
   refine ⟨(d1,d2),?_,by simp only [wfD];exact ⟨a2,b2⟩⟩
   have:=RL.append' a1 b1
   simp only [Br];exact QU
  ·cases h
def sR:∀(fs:aWF) (o:aVx),Wv P o fs=U->∀pre f post,fs=pre++f::post->f.offset=o+((pre.map (·.type)).map P.cellsOf).sum
 | [],o,_,pre,f,post,e=>by cases pre<;>cases e
 |g::fs,o,h,[],f,post,e=>by
  simp only [Wv,AX,Ab] at h
  grind
 |g::fs,o,h,p::pre,f,post,e=>by
  simp only [Wv,AX,Ab] at h;simp only [KG,Ht] at e
  have:=sR fs _ h.2 pre f post e.2
  grind
def fG {Z:aVx->Prop}(hZ:∀b,b<w.heap.size->Z b):∀(m:aVx) (t:aVN) (ty:Ty),MA P m t=U->Ih P m t=ah ty->∀cs,Good enc P w base spare held t cs->∃d:ty.D,RL β Z w (Br ty d) cs/\wfD ty d
 |0,t,_,h,_,_,_=>Ar
 | m + 1,t,ty,h,hty,cs,⟨n,x,hx,hwt⟩=>by
  simp only [MA] at h;simp only [Ih] at hty;split at h
  ·rename_i k hu
   obtain ⟨z,rfl,_,hw⟩:=DataW.trod_int hu hx;simp only [hu,Ah] at hty;subst hty;exact ⟨z,zO,hw⟩
  ·rename_i hu
   obtain ⟨z,rfl,_⟩:=DataW.trod_bool hu hx;simp only [hu,Ah] at hty;subst hty;exact ⟨z,zO,ak⟩
  ·rename_i hu
   obtain ⟨z,rfl,_,hs⟩:=DataW.trod_string hu hx;simp only [hu,Ah] at hty;subst hty;exact ⟨z,zO,hs⟩
  ·rename_i fs hu
   simp only [AX,Ab,BH] at h;obtain ⟨⟨h1,h2⟩,h3⟩:=h;obtain ⟨xs,n',_,rfl,hl,hxl,hf⟩:=DataW.trod_struct hu hx;simp only [DataW.weights,hu] at hwt;simp only [hu] at hty;refine qo (Gd:=Good enc P w base spare held) (sz:=P.cellsOf) (fs.toList.map (·.type)) ty cs hty (λt' ht ty' c hty' hc=>?_) nW λpre t' post e=>?_
   ·obtain ⟨f,hf1,rfl⟩:=F4.1 ht
    exact fG hZ m f.type ty' (h3 f hf1) hty' c hc
   ·obtain ⟨fpre,frest,e1,e2,e3⟩:=List.map_eq_append_iff.1 e
    obtain ⟨f,fpost,rfl,e4,e5⟩:=List.map_eq_cons_iff.1 e3
    have ho:=sR fs.toList 0 h1 fpre f fpost e1
    have hi:fs[M fpre]? =ah f:=by
     exact aNH
    have hg:=hf _ f hi
    have hlt:M fpre<fs.size:=(Hp.1 hi).1
    rw [ho,Eh] at hg;refine ⟨n',xs[M fpre]' A0,?_,λk hk=>?_⟩
    ·rw [<-e2,<-e4,hg,Dh]
    ·rw [<-e4] at hk
     exact hwt k<|aFA hk (i:=M fpre) (by rw [e1];simp) ya
  ·rename_i n0 e hu
   simp only [AX,Ab] at h;obtain ⟨h2,h3⟩:=h;obtain ⟨xs,n',_,rfl,hl,hxl,hf⟩:=DataW.trod_array hu hx;simp only [DataW.weights,hu] at hwt;simp only [hu] at hty;refine qo (Gd:=Good enc P w base spare held) (sz:=P.cellsOf) (aq n0 e) ty cs hty (λt' ht ty' c hty' hc=>?_) nW λpre t' post e'=>?_
   ·rw [(T0.1 ht).2] at hc hty'
    exact fG hZ m e ty' h3 hty' c hc
   ·obtain ⟨c1,c2,c3⟩:=aLu.1 e'
    have ht':t'=e:=by
     have:t'∈aq n0 e:=by rw [e'];simp
     exact (T0.1 this).2
    have hlen:M pre<n0:=by
     have:=B2 M e'
     simp at this;omega
    have hg:=hf (M pre) hlen
    refine ⟨n',xs[M pre]' A0,?_,λk hk=>?_⟩
    ·have hs:(pre.map P.cellsOf).sum=M pre*P.cellsOf e:=by rw [c2];simp
     rw [hs,ht',hg,Dh]
    ·rw [ht'] at hk
     exact hwt k<|qd hk (i:=M pre) ya
  ·rename_i e hu
   simp only [AX,Ab] at h;obtain ⟨⟨⟨h1,h2⟩,h4⟩,h3⟩:=h;simp only [hu,Option.map_eq_some_iff] at hty;obtain ⟨te,hte,rfl⟩:=hty;rw [hte] at h4;simp only [Option.any_some,AX,Ab,Cz] at h4;obtain ⟨h4,h5⟩:=h4;rcases DataW.trod_slice hu hx with ⟨rfl,_⟩ |⟨a,len,cap,elems,rest,n',_,rfl,rfl,hb,hlc,hm,hlen,hel,_,_⟩
   ·refine ⟨([]:List te.D),?_,⟨NV _,AI⟩,λd hd=>Vz⟩
    simp only [Br,RL,R]
    grind
   ·simp only [DataW.weights,hu] at hwt
    have hroom:=hwt _<|List.mem_cons_self ..
    have each:∀i,∃d:te.D,i<len->∃c,w.cells? base (a.add<|i*P.cellsOf e) (P.cellsOf e)=ah c/\RL β Z w (Br te d) c/\wfD te d:=λi=>by
     by_cases hi:i<len
     ·have he:=hel i hi
      rw [Dh A0] at he;obtain ⟨c,hc,ht⟩:=Option.bind_eq_some_iff.1 he
      obtain ⟨d,l1,l2⟩:=fG hZ m e te h3 hte c ⟨n',_,ht,λk hk=>hwt k (by
       simp only [BB,BZ];exact .inr<|.inl<|qd hk (i:=i) ya)⟩
      exact ⟨d,λ_=>⟨c,hc,l1,l2⟩⟩
     ·exact ⟨te.dflt,λh=>absurd h hi⟩
    have ⟨g,hg⟩:=xi each
    have hlg:M ((au len).map g)=len:=AI
    refine ⟨(au len).map g,?_,⟨by rw [hlg];omega,by rw [hlg];exact Hr (Nat.mul_le_mul DJ h5) hroom⟩,λd hd=>?_⟩
    ·simp only [Br,RL,R]
     refine ⟨_,[],rfl,⟨ah a,cap,by rw [hlg],by rw [hlg];omega,λhn=>?_⟩,rfl⟩
     rw [hlg] at hn;obtain ⟨c0,hc0,hr0,_⟩:=hg 0 hn;obtain ⟨_,hcl0,hat0⟩:=World.cells?_some hc0
     have hcell0:∃z,w.cell? ((a.add<|0*P.cellsOf e).add 0)=ah z:=by
      grind
     obtain ⟨z0,hz0⟩:=hcell0;obtain ⟨b,off,spot⟩:=a
     have hsp:spot=none:=by
      cases spot with
      |none=>rfl
      |some q=>
       unfold World.cell? at hz0;split at hz0
       ·simp [Addr.add] at hz0
       ·cases hz0
     subst hsp
     have hbl:b<w.heap.size:=by
      simp only [addr_add] at hz0;unfold World.cell? at hz0;split at hz0
      ·rename_i hh;exact (Hp.1 hh).1
      ·cases hz0
     refine ⟨b,off,rfl,hZ b hbl,λi d hd=>?_⟩
     have hi:i<len:=by
      have:=(EC.1 hd).1
      rwa [hlg] at this
     have hdd:d=g i:=by
      rw [Dj,xu hi] at hd
      simpa using hd.symm
     subst hdd;obtain ⟨c,hc,hr,_⟩:=hg i hi;obtain ⟨_,hcl,hat⟩:=World.cells?_some hc;refine wK te (g i) c b _ hr λj v hv=>?_
     have hj:j<P.cellsOf e:=by
      have:=(EC.1 hv).1
      omega
     have:=hat j hj
     rw [hv] at this;rw [h4]
     simpa [addr_add,Hq] using this
    ·obtain ⟨i,hi,rfl⟩:=F4.1 hd
     obtain ⟨_,_,_,hw⟩:=hg i<|by simpa using hi
     exact hw
  ·cases h
def KA (P:aVM) (m:aVx) (t:aVN) (l:aVy):Prop:=∃(ty:Ty) (d:ty.D),Ih P m t=ah ty/\l=Br ty d/\wfD ty d
def u7 {P:aVM}{m:aVx}{t:aVN}{l:aVy}{ty:Ty}(ht:Ih P m t=ah ty) (h:KA P m t l):∃d:ty.D,l=Br ty d/\wfD ty d:=by
 obtain ⟨ty',d,h1,h2,h3⟩:=h
 grind
def aoV {Z:aVx->Prop}(hZ:∀b,b<w.heap.size->Z b) (m:aVx) (t:aVN) (hs:MA P m t=U) (ht:(Ih P m t).isSome=U) (cs:aVO) (hg:Good enc P w base spare held t cs):∃l,RL β Z w l cs/\AT 0 l/\KA P m t l:=by
 obtain ⟨ty,hty⟩:=Zu.1 ht;obtain ⟨d,h1,h2⟩:=fG (β:=β) hZ m t ty hs hty cs hg;exact ⟨Br ty d,h1,No 0 ty d,ty,d,hty,rfl,h2⟩
end Go.Sx
namespace Go.Sx
open Go Go.RowKit Go.Proofs.YtjdlmobanmhohaaGreatDoor Go.ChangeShapes Go.WideShapes
variable {H : Type} {enc : TypeId × Value -> H} {P : Program} {β : Nat -> Loc} {Z : Nat -> Prop}
def ad4 (hl:laidOutB P=U) {W W':aVJ}(hb:Below W.heap.size W W'):∀(ts:aV4) (vs:aVO) (ds:List<|DataW H) (ps:aWl),ts.all (λt=>P.readableRec t&&an (t<P.types.size))=U->
  DataW.TrodAll enc P W 0 (λ_=>U) U ts vs ds ps->(∀x∈ps,x.block<W.heap.size)->DataW.TrodAll enc P W' 0 (λb=>an<|b<W.heap.size) U ts vs ds ps
 | [],vs,ds,ps,_,h,_=>by
  cases vs<;>cases ds<;>first|exact h|exact h.elim
 | t::ts,vs,ds,ps,hr,h,hlt=>by
  cases vs with
  |nil=>cases ds<;>exact h.elim
  | cons v vs=>
   cases ds with
   |nil=>exact h.elim
   |cons d ds=>
    obtain ⟨p,q,h1,h2,rfl⟩:=h;simp only [It,AX,Ab] at hr;refine ⟨p,q,Below.trod hl hr.1.1 hr.1.2 h1 hb λx hx=>hlt x A8,?_,rfl⟩
    exact ad4 hl hb ts vs ds q A8 h2 λx hx=>hlt x A8
def aot {fn:aWi}{s:ChangeSpec}{tb:aVN}{apart:aVH}{W W':aVJ}{args:aVS}{ds gs:List<|DataW H}{before:aWl}
  (hl:laidOutB P=U) (hr:fn.params.toList.all (λt=>P.readableRec t&&an (t<P.types.size))=U) (hres:fn.resultTypes=#[tb]) (hb:P.underlying tb=ah .bool) (hvars:s.vars=[])
  (hfn:(s.fn H ds).results=[.lit<|.bool U]/\(s.fn H ds).args=ds/\(s.fn H ds).vars=[])
  (hW:DataW.Whole enc P fn.params.toList s.vars apart W args.toList ds gs before) (hB:Below W.heap.size W W'):s.post enc P fn apart U X X W args (.bool U) W':=by
 have hW':=hW
 obtain ⟨p,q,hA,hV,rfl,hfz,hnd⟩:=hW
 have hg:gs=[]/\q=[]:=by
  rw [hvars] at hV;cases gs with
  |nil=>exact ⟨rfl,hV⟩
  |cons g r=>exact hV.elim
 obtain ⟨rfl,rfl⟩:=hg
 have hlt:∀x∈p,x.block<W.heap.size:=λx hx=>hW'.lt x A8
 refine ⟨ds,[],p++[],[],p,[],hW',?_,?_,?_,hB.frame _,λh=>Ar⟩
 ·rw [Gg,hfn.1,hres]
  exact trodAll_mk1<|shut_bool hb U
 ·rw [Gg,hfn.2.1]
  exact ad4 hl hB _ _ _ _ hr hA hlt
 ·rw [Gg,hfn.2.2,hvars]
  rfl
def pLV (P:aVM) (t:aVN) (l:aVy):LV:=
 match P.underlying t with
 |some (.struct _)=>Jz l
 |some (.array _ _)=> .junk
 |_=>match l with
  | [x]=>x
  |_=> .junk
def cell_of {w:aVJ}{b0:aVx}{r:Reach}{m:aVx}{t:aVN}(hs:MA P m t=U) {v:aVQ}(hv:Value.okWide P w r b0 t v) (h1:∀fs,P.underlying t=ah (.struct fs)->False) (h2:∀n e,P.underlying t=ah (.array n e)->False):v.cells.toList=[v]:=by
 cases m with
 |zero=>cases hs
 | succ m=>
  simp only [MA] at hs;split at hs
  ·rename_i k hu
   obtain ⟨n,rfl⟩:=okWide_int hu hv;rfl
  ·rename_i hu
   obtain ⟨n,rfl⟩:=okWide_bool hu hv;rfl
  ·rename_i hu
   obtain ⟨n,rfl⟩:=okWide_string hu hv;rfl
  ·rename_i fs hu
   grind
  ·rename_i n e hu
   grind
  ·rename_i e hu
   obtain ⟨a,l,c,rfl⟩:=okWide_slice hu hv;rfl
  ·cases hs
def aeV {w:aVJ}{base b0:aVx}{spare:aVx->aVH}{held:aVH}{r:Reach}(hZ:∀b,b<w.heap.size->Z b) {m:aVx}{t:aVN}(hs:MA P m t=U) (ht:(Ih P m t).isSome=U) {v:aVQ}{d:DataW H}{p:aWl}(hv:Value.okWide P w r b0 t v) (h:DataW.Trod enc P w base spare held t v d p) (hwt:∀k,k∈d.weights P t->k<=reachBytes):
  ∃l,okV 0 (pLV P t l)/\R β Z w (pLV P t l) v/\KA P m t l:=by
 obtain ⟨fuel,hf⟩:=h;obtain ⟨l,h1,h2,h3⟩:=aoV (β:=β) hZ m t hs ht v.cells.toList ⟨fuel,_,hf,hwt⟩;refine ⟨l,?_,?_,h3⟩
 ·unfold pLV
  split
  ·exact Qk h2
  ·trivial
  ·split
   ·exact h2.1
   ·trivial
 ·unfold pLV
  split
  ·rename_i fs hu
   obtain ⟨cs,rfl,_⟩:=okWide_struct hu hv;exact WT h1
  ·exact Dz
  ·split
   ·rename_i x
    obtain ⟨y,zs,e1,e2,rfl⟩:=h1
    have hc:=cell_of hs hv A8 A8
    grind
   ·exact Dz
def SS (P:aVM):aV4->aWE->List LV
 |t::ts,l::ls=>pLV P t l::SS P ts ls
 |_,_=>[]
def XJ (P:aVM) (m:aVx):aV4->aWE->Prop
 | [],ls=>ls=[]
 |t::ts,ls=>∃l r,ls=l::r/\KA P m t l/\XJ P m ts r
def adR {w:aVJ}{base b0:aVx}{spare:aVx->aVH}{held:aVH}{r:Reach}(hZ:∀b,b<w.heap.size->Z b) {m:aVx}:∀(ts:aV4) (vs:aVO) (ds:List<|DataW H) (ps:aWl),ts.all (λt=>MA P m t&&(Ih P m t).isSome)=U->
  (∀(j:aVx) t v,ts[j]? =ah t->vs[j]? =ah v->Value.okWide P w r b0 t v)->DataW.TrodAll enc P w base spare held ts vs ds ps->(∀k,k∈DataW.weightsEach P ts ds->k<=reachBytes)->∃ls,AT 0 (SS P ts ls)/\RL β Z w (SS P ts ls) vs/\XJ P m ts ls
 | [],vs,ds,ps,_,_,h,_=>by
  cases vs with
  |nil=>exact ⟨[],ak,by simp [SS,RL],rfl⟩
  |cons _ _=>cases ds<;>exact h.elim
 | t::ts,vs,ds,ps,hs,hv,h,hwt=>by
  cases vs with
  |nil=>cases ds<;>exact h.elim
  | cons v vs=>
   cases ds with
   |nil=>exact h.elim
   |cons d ds=>
    obtain ⟨p,q,h1,h2,rfl⟩:=h;simp only [It,AX] at hs;simp only [DataW.weightsEach,BZ] at hwt;obtain ⟨l,a1,a2,a3⟩:=aeV (β:=β) hZ hs.1.1 hs.1.2 (hv 0 t v rfl rfl) h1 λk hk=>hwt k<|.inl hk
    obtain ⟨ls,b1,b2,b3⟩:=adR hZ ts vs ds q hs.2 (λj t' v' e1 e2=>hv (j+1) t' v' A8 A8) h2 λk hk=>hwt k<|.inr hk
    exact ⟨l::ls,⟨a1,b1⟩,⟨v,vs,rfl,a2,b2⟩,l,ls,rfl,a3,b3⟩
def ae0 {G:B3}{f:aVY}{fn:aWi}{S:aVy->T LV}{s:ChangeSpec}{tb:aVN}{apart:aVH}{m:aVx}{W:aVJ}{base:aVx}{args:aVS}{ds gs:List<|DataW H}{before:aWl}
  (hv:Valid P G f S) (hl:laidOutB P=U) (hr:fn.params.toList.all (λt=>P.readableRec t&&an (t<P.types.size))=U) (hres:fn.resultTypes=#[tb]) (hb:P.underlying tb=ah .bool) (hvars:s.vars=[])
  (hfn:(s.fn H ds).results=[.lit<|.bool U]/\(s.fn H ds).args=ds/\(s.fn H ds).vars=[]) (hs:fn.params.toList.all (λt=>MA P m t&&(Ih P m t).isSome)=U)
  (hS:∀ls,XJ P m fn.params.toList ls->(S<|SS P fn.params.toList ls).all (λx=>x=.v (.bool U)))
  (hg:QD G (λb=>b<W.heap.size) W)
  (hval:∀(j:aVx) t v,fn.params[j]? =ah t->args[j]? =ah v->Value.okWide P W .any base t v)
  (hW:DataW.Whole enc P fn.params.toList s.vars apart W args.toList ds gs before) {us:aV4} (hz:(DataW.weightsEach P (fn.params.toList++us)<|ds++gs).all (·<=reachBytes)=U):
  Calls P f args W λe W'=>∃v,e=.returned v/\s.post enc P fn apart U X X W args v W':=by
 have hA:∃p,DataW.TrodAll enc P W 0 (λ_=>U) U fn.params.toList args.toList ds p:=by
  obtain ⟨p,q,hA,_⟩:=hW
  grind
 obtain ⟨p,hA⟩:=hA;obtain ⟨ls,h1,h2,h3⟩:=adR (β:=β0) (Z:=λb=>b<W.heap.size) (λ_ h=>h) fn.params.toList args.toList ds p hs (λj t v e1 e2=>hval j t v A8 A8) hA λk hk=>DH<|BH.1 hz k<|aFB (adY hA) k hk
 refine (hv _ args W _ _ (λ_ h=>h) hg h1 h2<|hS ls h3).mono λe W' ⟨hB,v,he,_,hR⟩=>⟨v,he,?_⟩
 rw [hR];exact aot hl hr hres hb hvars hfn hW hB
end Go.Sx
namespace Go.Sx
open Go Go.RowKit Go.Proofs.YtjdlmobanmhohaaGreatDoor
variable {H : Type} {enc : TypeId × Value -> H} {P : Program} {w : World} {base : Nat} {spare : Nat -> Bool} {held : Bool}
def Pj {H:Type}:aVx->DataW H->List Value
 |0,_=>[]
 |_+1,.lit (.int k n)=>[ag k n]
 |_+1,.lit (.bool b)=>[.bool b]
 |m+1,.agg l=>l.flatMap (Pj m)
 |_,_=>[]
def Wt (P:aVM):aVx->aVN->Bool
 |0,_=>X
 |m+1,t=>match P.underlying t with
  |some (.int _) |some .bool=>U
  |some (.struct fs)=>Wv P 0 fs.toList&&an (P.cellsOf t=((fs.toList.map (·.type)).map P.cellsOf).sum)&&fs.toList.all (λf=>Wt P m f.type)
  |some (.array n e)=>an (P.cellsOf t=((aq n e).map P.cellsOf).sum)&&Wt P m e
  |_=>X
def rI {sz:aVN->aVx}{g:DataW H->aVO}{Tr:aVN->aVO->DataW H->Prop}:∀(ts:aV4) (cs:aVO) (ds:List<|DataW H),
  (∀t∈ts,∀c d,Tr t c d->g d=c)->M ds=M ts->M cs=(ts.map sz).sum->(∀pre t post,ts=pre++t::post->∃d,ds[M pre]? =ah d/\Tr t ((cs.drop (pre.map sz).sum).take<|sz t) d)->ds.flatMap g=cs
 | [],cs,ds,_,h0,hl,_=>by
  grind
 |t::ts,cs,[],_,h0,_,_=>A8
 | t::ts,cs,d::ds,ih,h0,hl,hg=>by
  obtain ⟨d',e1,e2⟩:=hg [] t ts rfl
  simp at e1
  subst e1
  have r:=rI (sz:=sz) (g:=g) (Tr:=Tr) ts (cs.drop<|sz t) ds (λt' ht=>ih t' A8) A8 A8 (λpre t' post e=>by
   obtain ⟨q,q1,q2⟩:=hg (t::pre) t' post A8;refine ⟨q,A8,?_⟩
   simpa using q2)
  rw [mK,r,ih t AI _ _ e2]
  simp
def sH:∀(m:aVx) (t:aVN),Wt P m t=U->∀(n:aVx) (cs:aVO) (x:DataW H×List MemPlace),DataW.trod enc P w base spare held n t cs=ah x->Pj m x.1=cs
 |0,t,h,_,_,_,_=>Ar
 | m +1,t,h,n,cs,x,hx=>by
  simp only [Wt] at h;split at h
  ·rename_i k hu
   obtain ⟨z,rfl,rfl,hw⟩:=DataW.trod_int hu hx;rfl
  ·rename_i hu
   obtain ⟨z,rfl,rfl⟩:=DataW.trod_bool hu hx;rfl
  ·rename_i fs hu
   simp only [AX,Ab,BH] at h;obtain ⟨⟨h1,h2⟩,h3⟩:=h;obtain ⟨xs,n',_,rfl,hl,hxl,hf⟩:=DataW.trod_struct hu hx;simp only [Pj];refine rI (sz:=P.cellsOf) (Tr:=λt c d=>∃y,DataW.trod enc P w base spare held n' t c=ah y/\y.1=d) (fs.toList.map (·.type)) cs _ (λt' ht c d hc=>?_) (by simp [hxl]) nW λpre t' post e=>?_
   ·obtain ⟨f,hf1,rfl⟩:=F4.1 ht
    obtain ⟨y,hy,rfl⟩:=hc;exact sH m f.type (h3 f hf1) n' c y hy
   ·obtain ⟨fpre,frest,e1,e2,e3⟩:=List.map_eq_append_iff.1 e
    obtain ⟨f,fpost,rfl,e4,e5⟩:=List.map_eq_cons_iff.1 e3
    have ho:=sR fs.toList 0 h1 fpre f fpost e1
    have hi:fs[M fpre]? =ah f:=by
     exact aNH
    have hg:=hf _ f hi
    have hlt:M fpre<fs.size:=(Hp.1 hi).1
    refine ⟨(xs[M fpre]' A0).1,?_,xs[M fpre]' A0,?_,rfl⟩
    ·grind
    ·grind
  ·rename_i n0 e hu
   simp only [AX,Ab] at h;obtain ⟨h2,h3⟩:=h;obtain ⟨xs,n',_,rfl,hl,hxl,hf⟩:=DataW.trod_array hu hx;simp only [Pj];refine rI (sz:=P.cellsOf) (Tr:=λt c d=>∃y,DataW.trod enc P w base spare held n' t c=ah y/\y.1=d) (aq n0 e) cs _ (λt' ht c d hc=>?_) (by simp [hxl]) nW λpre t' post e'=>?_
   ·rw [(T0.1 ht).2] at hc
    obtain ⟨y,hy,rfl⟩:=hc;exact sH m e h3 n' c y hy
   ·obtain ⟨c1,c2,c3⟩:=aLu.1 e'
    have ht':t'=e:=by
     grind
    have hlen:M pre<n0:=by
     have:=B2 M e'
     simp at this;omega
    have hs:(pre.map P.cellsOf).sum=M pre*P.cellsOf e:=by rw [c2];simp
    refine ⟨(xs[M pre]' A0).1,?_,xs[M pre]' A0,?_,rfl⟩
    ·grind
    ·grind
  ·cases h
def adp {W:aVJ}{name:aWC}{d:DataW Unit}{rest:aWw}{g:aVx}{t:aVN}{m:aVx}(hg:P.globalNamed name=ah g) (hty:(P.globals[g]?).map (·.type)=ah t) (hp:Wt P m t=U)
  (h:laidMet P ((name,d)::rest) W):(∀i,W.cell? ⟨g,i,aj⟩=(Pj m d)[i]?)/\((Pj m d)≠ []->g<W.heap.size):=by
 obtain ⟨ps,⟨g',t',cs,fuel,p,q,hg',ht',hvar,hd,_,_⟩,_⟩:=h;obtain rfl:=ED<|hg.symm.trans hg';obtain rfl:=ED<|hty.symm.trans ht'
 have hf:=sH m t hp fuel _ _ hd
 have hcell:∀i,W.cell? ⟨g,i,aj⟩=(Pj m d)[i]? :=λi=>by
  rw [World.var?_cell hg hvar i,hf];simp
 refine ⟨hcell,λhne=>?_⟩
 have h0:=hcell 0
 cases hh:(Pj m d)[0]? with
 |none=>exact absurd (List.getElem?_eq_none_iff.1 hh) A8
 |some z=>
  rw [hh] at h0;unfold World.cell? at h0;split at h0
  ·grind
  ·cases h0
end Go.Sx
namespace Go.Proofs.YtjdlmobanmhohaaGreatDoor
set_option maxRecDepth 100000
set_option maxHeartbeats 4000000
open Go.Proofs.Tryz
open Go.Sx Go.ChangeShapes Go.WideShapes Go.ChangeAt Go.RowKit
def own:ownKnob prog.godebug=none:=AU
def laidOut:laidOutB prog=true:=AU
def aE4 {P:aVM}{x:String×DataW Unit}{r:aWw}{W:aVJ}(h:laidMet P (x::r) W):laidMet P r W:=by
 obtain ⟨n,d⟩:=x;obtain ⟨ps,⟨g,t,cs,fuel,p,q,h1,h2,h3,h4,h5,rfl⟩,hn,hm⟩:=h;exact ⟨q,h5,(xb.1 hn).2.1,λb off hb=>hm b off<|List.mem_append_right _ hb⟩
def ve {W:aVJ}{name:aWC}{d:DataW Unit}{rest:aWw}{g:aVx}{t:aVN}{n:aVx}{f:aVx->aVQ}(hg:prog.globalNamed name=ah g) (hty:(prog.globals[g]?).map (·.type)=ah t) (hp:Wt prog 4 t=U) (h:laidMet prog ((name,d)::rest) W) (key:Pj 4 d=(au<|n+1).map f):g<W.heap.size/\∀j,j<n+1->W.cell? ⟨g,j,aj⟩=ah (f j):=by
 obtain ⟨h1,h2⟩:=adp (m:=4) hg hty hp h;refine ⟨h2 (by rw [key];intro h0;exact absurd (B2 M h0) AI),λj hj=>?_⟩
 rw [h1 j,key,Dj,xu hj];rfl
def aop {W:aVJ}(h:laidMetH prog [("chargepark/charger.afterwards",Rows.laid_chargepark_charger_afterwards),("chargepark/ramp.happens",Rows.laid_chargepark_ramp_happens),("chargepark/vault.widths",Rows.laid_chargepark_vault_widths)] W):QD AV (λb=>b<W.heap.size) W:=by
 have h:laidMet prog [("chargepark/charger.afterwards",Rows.laid_chargepark_charger_afterwards),("chargepark/ramp.happens",Rows.laid_chargepark_ramp_happens),("chargepark/vault.widths",Rows.laid_chargepark_vault_widths)] W:=h
 have a1:=ve (t:=249) (n:=59) (f:=λj=> ag J<|XI j) (g:=0) AU AU AU h AU
 have a2:=ve (t:=277) (n:=7) (f:=λj=> ag J<|V6 j) (g:=2) AU AU AU (aE4 h) AU
 have a3:=ve (t:=258) (n:=4) (f:=λj=> ag J<|aCv j) (g:=1) AU AU AU (aE4<|aE4 h) AU
 intro g n f hg;unfold AV at hg;split at hg
 ·cases hg;exact a2
 ·cases hg;exact a1
 ·cases hg;exact a3
 ·cases hg
def aFY {H:Type}{enc:TypeId×Value->H}{P:aVM}{w:aVJ}{base:aVx}{spare:aVx->aVH}{held:aVH}:∀ {ts:aV4}{vs:aVO}{ds:List<|DataW H}{ps:aWl},DataW.TrodAll enc P w base spare held ts vs ds ps->M ds=M ts
 | [],[],[],_,_=>rfl
 | [],_::_,_,_,h=>Ar
 | [],[],_::_,_,h=>Ar
 |_::_,[],_,_,h=>Ar
 |_::_,_::_,[],_,h=>Ar
 |_::_,_::_,_::_,_,h=>by
  obtain ⟨_,_,_,h2,_⟩:=h
  simp [aFY h2]
def put (vs:aVS):Obj->Obj
 | .cells _ t frozen=> .cells vs t frozen
 |o=>o
def laidWorld (os:Os):aVJ:=
 {World.holding prog os ⟨#[],#[],[]⟩ with heap:=(((World.holding prog os ⟨#[],#[],[]⟩).heap.modify 2<|put ((au 8).map λj=> ag J<|V6 j).toArray).modify 0<|put ((au 60).map λj=> ag J<|XI j).toArray).modify 1<|put ((au 5).map λj=> ag J<|aCv j).toArray}
namespace ParkLimits
def opened (ls:aWE) (h:XJ prog 8 f3.params.toList ls):(abl<|SS prog f3.params.toList ls).all (λx=>x=.v (.bool U)):=by
 rw [Tryz.params3] at h|-;simp only [XJ] at h;obtain ⟨l0,_,rfl,h0,l1,_,rfl,h1,l2,_,rfl,h2,rfl⟩:=h;obtain ⟨d0,rfl,w0⟩:=u7 (ty:=(.pair (.sl Af)<|.pair (.sl .str)<|.pair (.sl An)<|.pair (.sl Ag)<|.sl Am)) AU h0;obtain ⟨d1,rfl,w1⟩:=u7 (ty:=(.sl<|.int J)) AU h1;obtain ⟨d2,rfl,w2⟩:=u7 (ty:=(.sl<|.pair (.int aw)<|.pair (.int aw)<|.pair (.int .u16)<|.pair AQ Ap)) AU h2;simp only [SS,pLV,Tryz.underlying30,Tryz.underlying29,Tryz.underlying28];refine aFN (t':=T.ok<|LV.v<|Value.bool U) AU ?_;exact rfl
def contract (H:Type) (enc:TypeId×Value->H) (W:aVJ) (base:aVx) (args:aVS) (ds gs:List<|DataW H) (before:aWl)
  (hval:∀(j:aVx) t v,f3.params[j]? =ah t->args[j]? =ah v->Value.okWide prog W .any base t v)
  (hW:DataW.Whole enc prog f3.params.toList Rows.parkLimitsSpec.vars X W args.toList ds gs before) (hL:laidMetH prog Rows.parkLimitsRow.laid W) {us:aV4} (hz:(DataW.weightsEach prog (f3.params.toList++us)<|ds++gs).all (·<=reachBytes)=U):
  Calls prog 3 args W λe W'=>∃v,e=.returned v/\Rows.parkLimitsSpec.post enc prog f3 X U X X W args v W':=by
 refine ae0 (m:=8) (tb:=4) ajx laidOut AU AU Tryz.underlying4 rfl ?_ AU opened (aop hL) hval hW hz;obtain ⟨p,q,hA,_⟩:=hW
 have hl:=aFY hA
 rw [Tryz.params3] at hl
 match ds,hl with
 | [_,_,_],_=>exact ⟨rfl,rfl,rfl⟩
def laid_met (os:Os):laidMet prog Rows.parkLimitsRow.laid ((laidWorld os).forCall (λ_ _=>0) ⟨#[],#[.agg #[.slice aj 0 0,.slice aj 0 0,.slice aj 0 0,.slice aj 0 0,.slice aj 0 0],.slice aj 0 0,.slice aj 0 0],[]⟩).memory:=
 laidMet_of_run' 8 AU AU
def reads (os:Os) {H:Type}(enc:TypeId×Value->H):∃places,DataW.whole enc prog ((laidWorld os).forCall (λ_ _=>0) ⟨#[],#[.agg #[.slice aj 0 0,.slice aj 0 0,.slice aj 0 0,.slice aj 0 0,.slice aj 0 0],.slice aj 0 0,.slice aj 0 0],[]⟩).memory f3.params.toList Rows.parkLimitsSpec.vars X #[.agg #[.slice aj 0 0,.slice aj 0 0,.slice aj 0 0,.slice aj 0 0,.slice aj 0 0],.slice aj 0 0,.slice aj 0 0].toList 8=ah ([.agg [.nil,.nil,.nil,.nil,.nil],.nil,.nil],[],places):=
 ⟨[],AU⟩
def lifted (os:Os) (started:os.Started) (H:Type) (enc:TypeId×Value->H) (F:Stop.Interp):
  ReturnsInHanded {} Tryz.checked os 3 .any ((OpenSpec.ofChange Rows.parkLimitsSpec).preRow enc prog f3 Rows.parkLimitsRow.domain X Rows.parkLimitsRow.laid) (((OpenSpec.ofChange Rows.parkLimitsSpec).at F).post enc prog f3 X U X X):=by
 obtain ⟨places,hx⟩:=reads os enc
 refine returnsInHanded_of_row (C:=Tryz.checked) (s:=OpenSpec.ofChange Rows.parkLimitsSpec) own started AU func3
  (witness_row_at (enc:=enc) (C:=Tryz.checked) X (laidWorld os) #[.agg #[.slice aj 0 0,.slice aj 0 0,.slice aj 0 0,.slice aj 0 0,.slice aj 0 0],.slice aj 0 0,.slice aj 0 0] rfl AU AU AU
   (OpenSpec.preRow_of_cond 8 hx AU (λk hk=>Na) AU<|laid_met os)) ?_
 intro W base args ds gs before hval hW _ _ hz hL _ _;exact contract H enc W base args ds gs before hval hW hL hz
def said:Rows.ParkLimitsSaid:=
 OpenClaim.holds_of_cond 3 f3 rfl rfl rfl rfl rfl rfl rfl ⟨rfl,rfl,rfl,rfl,rfl⟩ rfl rfl rfl rfl rfl AU func3 AU
  (DH AU) (by unfold Func.isWrapper;first|(rw [AD<|by decide+kernel];kernel_rfl) |(rw [AE<|by decide+kernel];exact ⟨rfl,rfl⟩))
  (λos started H enc _ F=>by rw [OpenClaim.pre_eq_preRow];exact lifted os started H enc F)
def plain (f:aVY) (fn:aWi) (hf:Tryz.pinned.checked.prog.funcNamed "chargepark/chargeparklaw44.ParkLimits"=ah f) (hfn:Tryz.pinned.checked.prog.funcs[f]? =ah fn):
  U=Tryz.pinned.checked.prog.looks []/\∀(j:aVx) t,fn.params[j]? =ah t->Tryz.pinned.checked.prog.wantsStandIn t=false:=by
 obtain rfl:f=3:=ED ((show prog.funcNamed "chargepark/chargeparklaw44.ParkLimits"=ah 3 by kernel_rfl).symm.trans hf) |>.symm
 obtain rfl:fn=f3:=(ED<|func3.symm.trans hfn).symm;refine ⟨AU,λj t ht=>?_⟩
 have h:f3.params.toList.all (λt=>!prog.wantsStandIn t)=true:=AU
 have:=BH.1 h t<|by simpa using Array.mem_of_getElem? ht
 show prog.wantsStandIn t=X
 simpa using this
def card:Rows.ParkLimitsCardSaid:=
 Claim7.holds_tied_plain_at .later [] _ _ _ _ said (λ_ h=>Ar) AU (λ_ h=>Ar) parkLimits_row_tie rfl ⟨rfl,rfl⟩ AU rfl plain AU
end ParkLimits
theorem parkLimits_card:Rows.ParkLimitsCardSaid:=ParkLimits.card
end Go.Proofs.YtjdlmobanmhohaaGreatDoor
end
