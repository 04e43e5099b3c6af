/- Helpers for TopTornStore. Conditions: none. -/
import Derived.Test.YtcdkianomnhhmaaGreatDoorQy3
set_option linter.defProp false
set_option linter.unusedVariables false
set_option linter.unusedSimpArgs false
noncomputable section
open List renaming length→M,length→aa,replicate→aq,range→au
open Bool renaming true→U,true→ae,false→X,false→af
open Go.Value renaming int→ag
open Option renaming some→ah,none→aj
open Go.IntKind renaming i64→J,i64→ai,u8→aw,u32→ax
open True renaming intro→ak
open Decidable renaming decide→an
open ByteArray renaming mk→av
open Go.Region renaming ready→ay,wanted→az
open Go.Instr renaming findNow→aA
namespace Go.Proofs.YtcdkianomnhhmaaGreatDoor
set_option maxRecDepth 100000
set_option maxHeartbeats 4000000
open Go.Proofs.Tryz
open Go.Sx
def aCD (s s':CU) (hI:GD s) (c1:s.k<s.m) (ht:(s'.sums,s'.levels,s'.some)=ER (CZ s) s.B0 s.Ar s.Az s.most s.level (s.sums,s.levels,s.some) (gi s.l s.k)) (hk:s'.k=AA (s.k+1))
  (h_m:s'.m=s.m) (h_l:s'.l=s.l) (h_v:s'.level=s.level) (h_g:s'.Ar=s.Ar) (h_c:s'.B7=s.B7) (h_r:s'.B0=s.B0) (h_a:s'.Az=s.Az) (h_w:s'.most=s.most) (h_O:CZ s'=CZ s):
  (GD s'/\P5 s'<P5 s)/\(λs:CU=>swp (CZ s) s.B0 s.Ar s.Az s.most s.level (s.sums,s.levels,s.some)<|s.l.drop s.k.toNat) s'=(λs:CU=>swp (CZ s) s.B0 s.Ar s.Az s.most s.level (s.sums,s.levels,s.some)<|s.l.drop s.k.toNat) s:=by
 have hx:=Nc s hI c1
 obtain ⟨⟨h0,h1⟩,⟨h2,h3,h4,h5⟩,h6,hT,hS⟩:=hI;rw [AH (x:=s.k+1)] at hk
 have e1:s'.sums=(ER (CZ s) s.B0 s.Ar s.Az s.most s.level (s.sums,s.levels,s.some)<|gi s.l s.k).1:=An (·.1) ht
 have e2:s'.levels=(ER (CZ s) s.B0 s.Ar s.Az s.most s.level (s.sums,s.levels,s.some)<|gi s.l s.k).2.1:=An (·.2.1) ht
 refine ⟨⟨⟨⟨A0,A0⟩,⟨A8,A0,A0,A0⟩,A8,A8,?_⟩,by simp only [P5];omega⟩,?_⟩
 ·rw [h_r,h_l,e1,e2]
  exact aCn hT hS hx.1 h4 h5
 ·simp only
  rw [h_O,h_r,h_g,h_a,h_w,h_v,h_l,ht,hk,(gi_step h0 (show s.k<M s.l by omega)).1]
  rfl
def wR (s s':CU) (hI:GD s) (c1:s.k<s.m) (ht:(s'.sums,s'.levels,s'.some)=ER (CZ s) s.B0 s.Ar s.Az s.most s.level (s.sums,s.levels,s.some) (gi s.l s.k)) (hk:s'.k=AA (s.k+1))
  (h_m:s'.m=s.m) (h_l:s'.l=s.l) (h_v:s'.level=s.level) (h_g:s'.Ar=s.Ar) (h_c:s'.B7=s.B7) (h_r:s'.B0=s.B0) (h_a:s'.Az=s.Az) (h_w:s'.most=s.most) (h_O:CZ s'=CZ s):allR (λs'=>GD s'/\P5 s'<P5 s) (λx s'=>Ze x s s') (.next s'):=(aCD s s' hI c1 ht hk h_m h_l h_v h_g h_c h_r h_a h_w h_O).1
def wQ (s s':CU) (hI:GD s) (c1:s.k<s.m) (ht:(s'.sums,s'.levels,s'.some)=ER (CZ s) s.B0 s.Ar s.Az s.most s.level (s.sums,s.levels,s.some) (gi s.l s.k)) (hk:s'.k=AA (s.k+1))
  (h_m:s'.m=s.m) (h_l:s'.l=s.l) (h_v:s'.level=s.level) (h_g:s'.Ar=s.Ar) (h_c:s'.B7=s.B7) (h_r:s'.B0=s.B0) (h_a:s'.Az=s.Az) (h_w:s'.most=s.most) (h_O:CZ s'=CZ s):allR (λs'=>(λs:CU=>swp (CZ s) s.B0 s.Ar s.Az s.most s.level (s.sums,s.levels,s.some)<|s.l.drop s.k.toNat) s'=(λs:CU=>swp (CZ s) s.B0 s.Ar s.Az s.most s.level (s.sums,s.levels,s.some)<|s.l.drop s.k.toNat) s) (λ_ s'=>(λs:CU=>swp (CZ s) s.B0 s.Ar s.Az s.most s.level (s.sums,s.levels,s.some)<|s.l.drop s.k.toNat) s'=(λs:CU=>swp (CZ s) s.B0 s.Ar s.Az s.most s.level (s.sums,s.levels,s.some)<|s.l.drop s.k.toNat) s) (.next s'):=(aCD s s' hI c1 ht hk h_m h_l h_v h_g h_c h_r h_a h_w h_O).2
def ao5:Da GD P5 Ze Sg:=by
 intro s hI;unfold Sg;dsimp only [T.rd,T.rl,T.rv];refine allR_ite (λc1=>?_) λc1=>?_
 ·refine allR_ite (λc2=>?_) (λc2=>?_)
  ·have c1:s.k<s.m:=AQ
   have hn:¬(s.levels.getD (gi s.l s.k).toNat 0=s.level-1/\s.level<=E6 s.Ar (gi s.l s.k) (gi s.most<|gi s.l s.k)):=λh=>by
    exact aH5
   exact aHg
  ·refine allR_ite (λc3=>?_) (λc3=>?_)
   ·have c1:s.k<s.m:=AQ
    have hn:¬(s.levels.getD (gi s.l s.k).toNat 0=s.level-1/\s.level<=E6 s.Ar (gi s.l s.k) (gi s.most<|gi s.l s.k)):=λh=>by
     exact aHQ
    exact aHg
   ·refine allR_ite (λc4=>?_) (λc4=>?_)
    ·refine allR_ite (λc5=>?_) (λc5=>?_)
     ·refine allR_ite (λc6=>?_) (λc6=>?_)
      ·cases c6
      ·have c1:s.k<s.m:=AQ
       have c2:=NX hI c2
       have hp:s.levels.getD (gi s.l s.k).toNat 0=s.level-1/\s.level<=E6 s.Ar (gi s.l s.k) (gi s.most<|gi s.l s.k):=by
        exact dJ
       have hE:=Rf hI c1 c2
       obtain ⟨m1,m2,_⟩:=Rb hI c1 c2;rcases Wg _ hE with ⟨q1,q2⟩ |⟨q1,q2,q3⟩
       ·rw [q1] at c4
        cases c4
       ·rw [m1] at q3
        have q3:((CZ s).getD (gi s.l s.k).toNat []).all (IQ s.B0 s.sums<|Et s.Ar s.Az (gi s.l s.k) s.level)=false:=q3
        exact wR s _ hI AQ aJ7 rfl rfl rfl rfl rfl rfl rfl rfl rfl rfl
     ·exact aIK
    ·refine allR_ite (λc5=>?_) (λc5=>?_)
     ·exact aIQ
     ·refine allR_ite (λc6=>?_) (λc6=>?_)
      ·have c1:s.k<s.m:=AQ
       have c2:=NX hI c2
       have hp:s.levels.getD (gi s.l s.k).toNat 0=s.level-1/\s.level<=E6 s.Ar (gi s.l s.k) (gi s.most<|gi s.l s.k):=by
        exact dJ
       have hE:=Rf hI c1 c2
       obtain ⟨m1,m2,_⟩:=Rb hI c1 c2
       have hR:=iV hI c1 c2
       rcases Wg _ hE with ⟨q1,q2⟩ |⟨q1,q2,q3⟩
       ·rw [m1] at q2
        have q2:((CZ s).getD (gi s.l s.k).toNat []).all (IQ s.B0 s.sums<|Et s.Ar s.Az (gi s.l s.k) s.level)=true:=q2
        have r1:=aCm _ hR
        rw [m2] at r1
        have r1:(MI<|Oh s).sums=IV s.sums (Et s.Ar s.Az (gi s.l s.k) s.level) ((CZ s).getD (gi s.l s.k).toNat []):=r1
        have w1:=(Y3 hI c2).1
        exact wR s _ hI AQ aJs rfl rfl rfl rfl rfl rfl rfl rfl rfl rfl
       ·rw [q1] at c4
        cases c4
      ·cases c6
 ·have c1:s.m<=s.k:=AQ
  have h0:=hI.1
  exact Qv
def PJ:LpD CU:=⟨0,129,[2,3,4,12,14,15,16,66,67,68],[],λs=>[.xl A7 s.most,.xl A7 s.order,.own 0 0,s.n,.own 1 0,s.level,s.some,.xl A7 s.l,s.m,s.k],λs=>[⟨[s.Aw,s.BF,s.Bg,s.B7,s.Bh],28,.cl,X⟩,⟨[s.Fj,s.Fh,s.ED,s.Ar,s.Fk,.xl Dg s.B0,.xl A7 s.By,.xl A7 s.Bx,.xl A7 s.Bw,.xl A7 s.Bv,.xl A7 s.Bu,.xl A7 s.Bt,.xl A7 s.Bs,.xl A7 s.Br,.xl A7 s.Bq,.xl A7 s.Bp,.xl A7 s.Bn,.xl A7 s.Bm,.xl A7 s.Bl,.xl A7 s.Bk,.xl A7 s.Bj,.xl A7 s.Bi,.os 2 1 0<|M s.sums,.xl A7 s.Az,.os 3 1 0<|M s.levels],343,.cl,X⟩,bV 3 A7 s.sums,bV 3 A7 s.levels],λv b=>⟨As A7 v 0,As A7 v 1,AJ v 3,AJ v 5,DE v 6,As A7 v 7,AJ v 8,AJ v 9,AE AX b 0 0,AE .str b 0 1,AE Ad b 0 2,AE AZ b 0 3,AE Ae b 0 4,AE AX b 1 0,AE .str b 1 1,AE Ad b 1 2,AE AZ b 1 3,AE Ae b 1 4,AE Dg b 1 5,AE A7 b 1 6,AE A7 b 1 7,AE A7 b 1 8,AE A7 b 1 9,AE A7 b 1 10,AE A7 b 1 11,AE A7 b 1 12,AE A7 b 1 13,AE A7 b 1 14,AE A7 b 1 15,AE A7 b 1 16,AE A7 b 1 17,AE A7 b 1 18,AE A7 b 1 19,AE A7 b 1 20,AE A7 b 1 21,AE A7 b 1 23,AV A7 b 2,AV A7 b 3⟩,Sg,λs r=> {s with some:=r.some,k:=r.k,sums:=r.sums,levels:=r.levels},λs=>s,λ_ s=>s,[.exit 2],Sl,GD,P5⟩
abbrev GA:=PJ.run
abbrev akb:=PJ.exn
def apJ:Rq GD Sg:=by
 intro s hI;refine ⟨λc1=>⟨?_,?_,?_,λc2=>⟨A9,A9,ak⟩,λc2=>⟨?_,?_,?_,λc3=>⟨A9,A9,ak⟩,λc3=>⟨?_,?_,?_,?_,?_,?_,?_,?_,A9,A9,?_,λc4=>⟨λc5=>⟨λc6=>⟨A9,A9,ak⟩,λc6=>⟨A9,A9,ak⟩⟩,λc5=>⟨?_,A9,A9,?_,?_,?_,λc7=>⟨A9,?_,ak⟩,λc7=>⟨A9,?_,ak⟩⟩⟩,λc4=>⟨λc8=>⟨λc9=>⟨A9,A9,ak⟩,λc9=>⟨A9,A9,ak⟩⟩,λc8=>⟨?_,A9,A9,?_,?_,?_,λc10=>⟨A9,?_,ak⟩,λc10=>⟨A9,?_,ak⟩⟩⟩⟩⟩⟩,λc1=>⟨A9,A9,ak⟩⟩
 ·(have:=hI.1;have:=hI.2.1.1;simp only [AT] at c1;omega)
 iterate 9 · (have hx:=Nc s hI AQ;omega)
 ·exact aGy
 ·exact dS
 ·exact aGy
 ·exact dS
 ·exact ⟨Rf hI AQ<|NX hI c2,rfl,rfl⟩
 ·exact dS
 ·exact aIT
 iterate 2 · (have hx:=Nc s hI AQ;omega)
 iterate 2 · exact ⟨rfl,AG⟩
 ·exact dS
 ·exact aIT
 iterate 2 · (have hx:=Nc s hI A8;omega)
 iterate 2 · exact ⟨rfl,AG⟩
def pg:aN:=[SO,X6,X9,X7]
def ayD:Ap:=kI pg<|la 8 func206 jh<|la 2 func202 hU<|la 3 func204 Ww<|la 2 func202 Rt<|l0 pg
def jD:PJ.Ok:={}
def jM:PJ.Pf (Ze):=⟨aw7,λs h=>rfl,ao5,apJ⟩
def aiA:SA 0 xp PJ:=s1 jD jM pg ayD
def ait:Fi Sl GD Ze akb GA:=LpD.fin jD jM
def ag5 (s:CU) (hE:Sl s):(λs:CU=>swp (CZ s) s.B0 s.Ar s.Az s.most s.level (s.sums,s.levels,s.some)<|s.l.drop s.k.toNat) (GA s)=(λs:CU=>swp (CZ s) s.B0 s.Ar s.Az s.most s.level (s.sums,s.levels,s.some)<|s.l.drop s.k.toNat) s:=by
 exact LpD.keepV jD jM (λs:CU=>swp (CZ s) s.B0 s.Ar s.Az s.most s.level (s.sums,s.levels,s.some)<|s.l.drop s.k.toNat) (λs hI=>by
  show allR _ _ ((Sg s).rd s)
  unfold Sg;dsimp only [T.rd,T.rl];refine allR_ite (λc1=>?_) λc1=>?_
  ·refine allR_ite (λc2=>?_) (λc2=>?_)
   ·have c1:s.k<s.m:=AQ
    have hn:¬(s.levels.getD (gi s.l s.k).toNat 0=s.level-1/\s.level<=E6 s.Ar (gi s.l s.k) (gi s.most<|gi s.l s.k)):=λh=>by
     exact aH5
    exact aHh
   ·refine allR_ite (λc3=>?_) (λc3=>?_)
    ·have c1:s.k<s.m:=AQ
     have hn:¬(s.levels.getD (gi s.l s.k).toNat 0=s.level-1/\s.level<=E6 s.Ar (gi s.l s.k) (gi s.most<|gi s.l s.k)):=λh=>by
      exact aHQ
     exact aHh
    ·refine allR_ite (λc4=>?_) (λc4=>?_)
     ·refine allR_ite (λc5=>?_) (λc5=>?_)
      ·refine allR_ite (λc6=>?_) (λc6=>?_)
       ·cases c6
       ·have c1:s.k<s.m:=AQ
        have c2:=NX hI c2
        have hp:s.levels.getD (gi s.l s.k).toNat 0=s.level-1/\s.level<=E6 s.Ar (gi s.l s.k) (gi s.most<|gi s.l s.k):=by
         exact dJ
        have hE:=Rf hI c1 c2
        obtain ⟨m1,m2,_⟩:=Rb hI c1 c2;rcases Wg _ hE with ⟨q1,q2⟩ |⟨q1,q2,q3⟩
        ·rw [q1] at c4
         cases c4
        ·rw [m1] at q3
         have q3:((CZ s).getD (gi s.l s.k).toNat []).all (IQ s.B0 s.sums<|Et s.Ar s.Az (gi s.l s.k) s.level)=false:=q3
         exact wQ s _ hI AQ aJ7 rfl rfl rfl rfl rfl rfl rfl rfl rfl rfl
      ·exact aIK
     ·refine allR_ite (λc5=>?_) (λc5=>?_)
      ·exact aIQ
      ·refine allR_ite (λc6=>?_) (λc6=>?_)
       ·have c1:s.k<s.m:=AQ
        have c2:=NX hI c2
        have hp:s.levels.getD (gi s.l s.k).toNat 0=s.level-1/\s.level<=E6 s.Ar (gi s.l s.k) (gi s.most<|gi s.l s.k):=by
         exact dJ
        have hE:=Rf hI c1 c2
        obtain ⟨m1,m2,_⟩:=Rb hI c1 c2
        have hR:=iV hI c1 c2
        rcases Wg _ hE with ⟨q1,q2⟩ |⟨q1,q2,q3⟩
        ·rw [m1] at q2
         have q2:((CZ s).getD (gi s.l s.k).toNat []).all (IQ s.B0 s.sums<|Et s.Ar s.Az (gi s.l s.k) s.level)=true:=q2
         have r1:=aCm _ hR
         rw [m2] at r1
         have r1:(MI<|Oh s).sums=IV s.sums (Et s.Ar s.Az (gi s.l s.k) s.level) ((CZ s).getD (gi s.l s.k).toNat []):=r1
         have w1:=(Y3 hI c2).1
         exact wQ s _ hI AQ aJs rfl rfl rfl rfl rfl rfl rfl rfl rfl rfl
        ·rw [q1] at c4
         cases c4
       ·cases c6
  ·rfl) s hE
def ais (s:CU) (hE:Sl s):((GA s).sums,(GA s).levels,(GA s).some)=swp (CZ s) s.B0 s.Ar s.Az s.most s.level (s.sums,s.levels,s.some) s.l:=by
 have q3:=ag5 s hE
 obtain ⟨s',hI,q1,q2⟩:=ait s hE;obtain ⟨h0,h1,_⟩:=hE;simp only at q3;rw [q2,show (GA s).m=s.m from rfl,show (GA s).l=s.l from rfl,Dj A0,h0] at q3;exact q3
structure H9 where
 (most order:aB)
 (n level:Y)
 Aw:aJ
 BF:aF
 Bg:aP
 B7:aG
 Bh:aQ
 Fj:aJ
 Fh:aF
 ED:aP
 Ar:aG
 Fk:aQ
 B0:aX
 (By Bx Bw Bv Bu Bt Bs Br Bq Bp Bn Bm Bl Bk Bj Bi Az sums levels:aB)
def wy:=bN f174 0
def J0 (s:H9):CU:=(⟨s.most,s.order,s.n,s.level,X,s.order,(M s.order:Y),0,s.Aw,s.BF,s.Bg,s.B7,s.Bh,s.Fj,s.Fh,s.ED,s.Ar,s.Fk,s.B0,s.By,s.Bx,s.Bw,s.Bv,s.Bu,s.Bt,s.Bs,s.Br,s.Bq,s.Bp,s.Bn,s.Bm,s.Bl,s.Bk,s.Bj,s.Bi,s.Az,s.sums,s.levels⟩:CU)
def nz (s:H9):T (Rd H9):=letI a:=GA<|J0 s;.rl s.sums<|.rl s.levels<|.req (PJ.q<|J0 s)<|.br (! a.some) (.rl a.sums<|.rl a.levels<|.so (.exit 0) {s with sums:=a.sums,levels:=a.levels})<|.rl a.sums<|.rl a.levels<|.nx {s with level:=AA<|s.level+1,sums:=a.sums,levels:=a.levels}
def IN (s:H9):aI:=[s.By,s.Bx,s.Bw,s.Bv,s.Bu,s.Bt,s.Bs,s.Br,s.Bq,s.Bp,s.Bn,s.Bm,s.Bl,s.Bk,s.Bj,s.Bi]
def ZA (s:H9):Prop:=s.level=1/\(M s.order:Y)<=1000/\s.Ar=s.B7/\OkT (IN s) s.B0 s.Ar s.Az s.most s.order/\OkS s.B0 s.order s.sums s.levels
def Su (s:H9):Prop:=(1<=s.level/\s.level<=81)/\(M s.order:Y)<=1000/\s.Ar=s.B7/\OkT (IN s) s.B0 s.Ar s.Az s.most s.order/\OkS s.B0 s.order s.sums s.levels
def lD (s:H9):aC:=(82-s.level).toNat
def adb (x:Ex) (s s':H9):Prop:=x=.exit 0
def aw6:∀s,ZA s->Su s:=by
 exact dT
def aCB (s:H9) (hI:Su s):Sl (J0 s):=by
 obtain ⟨⟨h0,h1⟩,h2,h3,hT,hS⟩:=hI;exact ⟨rfl,⟨rfl,h2,h0,h1⟩,h3,hT,hS⟩
def abw (s:H9) (hI:Su s):((GA<|J0 s).sums,(GA<|J0 s).levels,(GA<|J0 s).some)=swp (IN s) s.B0 s.Ar s.Az s.most s.level (s.sums,s.levels,X) s.order:=ais _<|aCB s hI
def ao4:Da Su lD adb nz:=by
 intro s hI
 have hr:=abw s hI
 obtain ⟨⟨h0,h1⟩,h2,h3,hT,hS⟩:=hI;refine allR_ite (λc1=>rfl) λc1=>?_
 have c1:(GA<|J0 s).some=true:=A8
 have hk:=jg hT h0 h1 s.order (s.sums,s.levels,X) (λ_ h=>h) hS
 have hs:=fz (O:=IN s) (rows:=s.B0) (gs:=s.Ar) (alive:=s.Az) (most:=s.most) (level:=s.level) s.order (s.sums,s.levels,X)
 rw [<-hr] at hk hs
 have h80:s.level<=80:=by
  rcases hs c1 with h|h
  ·cases h
  ·exact h
 rw [AH (x:=s.level+1)];exact ⟨⟨⟨A8,A8⟩,h2,h3,hT,hk⟩,by simp only [lD];omega⟩
def Mt:LpD H9:=⟨0,129,[2,3,4,12,14,15],[.ps 14 6 A7,.ps 14 7 A7,.ps 14 8 A7,.ps 14 9 A7,.ps 14 10 A7,.ps 14 11 A7,.ps 14 12 A7,.ps 14 13 A7,.ps 14 14 A7,.ps 14 15 A7,.ps 14 16 A7,.ps 14 17 A7,.ps 14 18 A7,.ps 14 19 A7,.ps 14 20 A7,.ps 14 21 A7],λs=>[.xl A7 s.most,.xl A7 s.order,.own 0 0,s.n,.own 1 0,s.level],λs=>[⟨[s.Aw,s.BF,s.Bg,s.B7,s.Bh],28,.cl,X⟩,⟨[s.Fj,s.Fh,s.ED,s.Ar,s.Fk,.xl Dg s.B0,.xl A7 s.By,.xl A7 s.Bx,.xl A7 s.Bw,.xl A7 s.Bv,.xl A7 s.Bu,.xl A7 s.Bt,.xl A7 s.Bs,.xl A7 s.Br,.xl A7 s.Bq,.xl A7 s.Bp,.xl A7 s.Bn,.xl A7 s.Bm,.xl A7 s.Bl,.xl A7 s.Bk,.xl A7 s.Bj,.xl A7 s.Bi,.os 2 1 0<|M s.sums,.xl A7 s.Az,.os 3 1 0<|M s.levels],343,.cl,X⟩,bV 3 A7 s.sums,bV 3 A7 s.levels],λv b=>⟨As A7 v 0,As A7 v 1,AJ v 3,AJ v 5,AE AX b 0 0,AE .str b 0 1,AE Ad b 0 2,AE AZ b 0 3,AE Ae b 0 4,AE AX b 1 0,AE .str b 1 1,AE Ad b 1 2,AE AZ b 1 3,AE Ae b 1 4,AE Dg b 1 5,AE A7 b 1 6,AE A7 b 1 7,AE A7 b 1 8,AE A7 b 1 9,AE A7 b 1 10,AE A7 b 1 11,AE A7 b 1 12,AE A7 b 1 13,AE A7 b 1 14,AE A7 b 1 15,AE A7 b 1 16,AE A7 b 1 17,AE A7 b 1 18,AE A7 b 1 19,AE A7 b 1 20,AE A7 b 1 21,AE A7 b 1 23,AV A7 b 2,AV A7 b 3⟩,nz,λs r=> {s with level:=r.level,sums:=r.sums,levels:=r.levels},λs=>s,λ_ s=>s,[.exit 0],ZA,Su,lD⟩
abbrev H4:=Mt.run
def apI:Rq Su nz:=by
 intro s hI;refine ⟨A9,A9,?_,λc1=>⟨A9,A9,ak⟩,λc1=>⟨A9,A9,ak⟩⟩
 ·exact ⟨aCB s hI,rfl,rfl⟩
def TH:aN:=[SO,X6,X9,X7]
def pK:Ap:=kI TH<|la 8 func206 jh<|la 2 func202 hU<|la 3 func204 Ww<|la 2 func202 Rt<|l0 TH
def aCr:Mt.Ok:={}
def aCa:Mt.Pf (adb):=⟨aw6,λs h=>rfl,ao4,apI⟩
def ai8:SA 0 wy Mt:=LpD.snd aCr aCa (code_sound (Γ:=TH) (K:=pK) (L:=(λi=>if i=13 then PJ.lp else noLoops i)) (gk TH) pK.h wy (λb hb=>by
 rw [show loopsIn _=[xp] by kernel_rfl] at hb
 simp only [Au,BX,BV] at hb;subst hb;exact aiA)) λs=>AO
def air (s:H9) (hE:ZA s):(H4 s).levels=shl (IN s) s.B0 s.Ar s.Az s.most s.order 81 1 s.sums s.levels:=by
 have hk:=LpD.finV aCr aCa (V:=λs:H9=>shl (IN s) s.B0 s.Ar s.Az s.most s.order (82-s.level).toNat s.level s.sums s.levels) (K:=λ_ s' v=>s'.levels=v) (λs hI=>by
  have hr:=abw s hI
  have hs:=fz (O:=IN s) (rows:=s.B0) (gs:=s.Ar) (alive:=s.Az) (most:=s.most) (level:=s.level) s.order (s.sums,s.levels,X)
  obtain ⟨⟨h0,h1⟩,h2,h3,hT,hS⟩:=hI;rw [<-hr] at hs
  have hf:(82-s.level).toNat=(81-s.level).toNat+1:=A0
  refine allR_ite (λc1=>?_) λc1=>?_
  ·have c1:(GA<|J0 s).some=false:=A8
   show (GA<|J0 s).levels=shl _ _ _ _ _ _ _ _ _ _
   rw [hf,shl,<-hr,AD A8]
  ·have c1:(GA<|J0 s).some=true:=A8
   have h80:s.level<=80:=by
    rcases hs c1 with h|h
    ·cases h
    ·exact h
   rw [AH (x:=s.level+1)]
   show shl (IN s) s.B0 s.Ar s.Az s.most s.order (82-(s.level+1)).toNat (s.level+1) (GA<|J0 s).sums (GA<|J0 s).levels=shl (IN s) s.B0 s.Ar s.Az s.most s.order (82-s.level).toNat s.level s.sums s.levels
   rw [hf,show 82-(s.level+1)=81-s.level by omega]
   conv=>rhs;rw [shl,<-hr]
   simp only [c1,BP]) s hE
 rw [hk,hE.1];rfl
structure Mk where
 l:aG
 (m k:Y)
 Fj:aJ
 Fh:aF
 ED:aP
 Ar:aG
 Fk:aQ
 B0:aX
 (By Bx Bw Bv Bu Bt Bs Br Bq Bp Bn Bm Bl Bk Bj Bi Az out sums levels:aB)
def xo:=bN f174 1
def nt (s:Mk):T (Rd Mk):=letI a:=s.levels.getD s.k.toNat<|Ty.dflt A7;letI c:=AF s.l s.k;letI b:=s.out.set s.k.toNat<|DD c.2.2.2.1 c.2.2.2.2.2.1 a;.br (an<|s.k<s.m) (.ix s.k (M s.l)<|.ik s.k (M s.levels)<|.req ((1<=c.2.2.2.1/\c.2.2.2.1<=80/\1<=c.2.2.2.2.2.1/\c.2.2.2.2.2.1<=80)/\0<=a/\a<=1000)<|.ik s.k (M s.out)<|.re (M s.out) b<|.rl s.sums<|.rl s.levels<|.nx {s with k:=AA<|s.k+1,out:=b})<|.rl s.out<|.rl s.sums<|.rl s.levels<|.so (.exit 4) s
def Z9 (s:Mk):Prop:=s.k=0/\s.out=aq (M s.l) 0/\(s.m=(M s.l:Y)/\s.m<=1000/\M s.levels=M s.l)/\(∀k:Y,0<=k->k<s.m->D5 (AF s.l k).2.2.2.1 (AF s.l k).2.2.2.2.1 (AF s.l k).2.2.2.2.2.1=U)/\(∀k:aC,0<=s.levels.getD k 0/\s.levels.getD k 0<=80)
def UF (s:Mk):Prop:=(0<=s.k/\s.k<=s.m)/\s.out=O4 s.l s.levels s.k.toNat++aq (M s.l-s.k.toNat) 0/\(s.m=(M s.l:Y)/\s.m<=1000/\M s.levels=M s.l)/\(∀k:Y,0<=k->k<s.m->D5 (AF s.l k).2.2.2.1 (AF s.l k).2.2.2.2.1 (AF s.l k).2.2.2.2.2.1=U)/\(∀k:aC,0<=s.levels.getD k 0/\s.levels.getD k 0<=80)
def lC (s:Mk):aC:=(s.m-s.k).toNat
def qP (x:Ex) (s s':Mk):Prop:=x=.exit 4/\s'.out=Dx s'.l s'.levels
def aw5:∀s,Z9 s->UF s:=by
 exact aIq
def ao3:Da UF lC qP nt:=by
 intro s hI;obtain ⟨⟨h0,h1⟩,h2,⟨h3,h4,h5⟩,h6,h7⟩:=hI;refine allR_ite (λc1=>?_) λc1=>?_
 ·have c1:s.k<s.m:=A8
  rw [AH (x:=s.k+1)];refine ⟨⟨⟨A8,A8⟩,?_,⟨h3,h4,h5⟩,h6,h7⟩,by simp only [lC];omega⟩
  have e:M s.l-s.k.toNat=(M s.l-(s.k+1).toNat)+1:=A0
  have hs:=zW (xs:=O4 s.l s.levels s.k.toNat) (r:=M s.l-(s.k+1).toNat) (v:=CQ s.l s.k<|s.levels.getD s.k.toNat 0)
  rw [aeT] at hs;rw [h2,e,show (s.k+1).toNat=s.k.toNat+1 by omega,ag4,C2 h0]
  rw [show (s.k+1).toNat=s.k.toNat+1 by omega] at hs
  exact hs
 ·have c1:s.m<=s.k:=A8
  refine ⟨rfl,?_⟩;rw [h2,show s.k.toNat=M s.l by omega,Vg,List.replicate_zero,Ec]
  rfl
def Lm:LpD Mk:=⟨0,129,[14,19,108,109,110],[],λs=>[.own 0 0,.os 1 1 0<|M s.out,s.l,s.m,s.k],λs=>[⟨[s.Fj,s.Fh,s.ED,s.Ar,s.Fk,.xl Dg s.B0,.xl A7 s.By,.xl A7 s.Bx,.xl A7 s.Bw,.xl A7 s.Bv,.xl A7 s.Bu,.xl A7 s.Bt,.xl A7 s.Bs,.xl A7 s.Br,.xl A7 s.Bq,.xl A7 s.Bp,.xl A7 s.Bn,.xl A7 s.Bm,.xl A7 s.Bl,.xl A7 s.Bk,.xl A7 s.Bj,.xl A7 s.Bi,.os 2 1 0<|M s.sums,.xl A7 s.Az,.os 3 1 0<|M s.levels],343,.cl,X⟩,bV 3 A7 s.out,bV 3 A7 s.sums,bV 3 A7 s.levels],λv b=>⟨As AZ v 2,AJ v 3,AJ v 4,AE AX b 0 0,AE .str b 0 1,AE Ad b 0 2,AE AZ b 0 3,AE Ae b 0 4,AE Dg b 0 5,AE A7 b 0 6,AE A7 b 0 7,AE A7 b 0 8,AE A7 b 0 9,AE A7 b 0 10,AE A7 b 0 11,AE A7 b 0 12,AE A7 b 0 13,AE A7 b 0 14,AE A7 b 0 15,AE A7 b 0 16,AE A7 b 0 17,AE A7 b 0 18,AE A7 b 0 19,AE A7 b 0 20,AE A7 b 0 21,AE A7 b 0 23,AV A7 b 1,AV A7 b 2,AV A7 b 3⟩,nt,λs r=> {s with k:=r.k,out:=r.out},λs=>s,λ_ s=>s,[.exit 4],Z9,UF,lC⟩
abbrev NP:=Lm.run
abbrev alL:=Lm.exn
def apH:Rq UF nt:=by
 intro s hI;refine ⟨λc1=>⟨?_,?_,?_,?_,?_,?_,?_,A9,A9,ak⟩,λc1=>⟨A9,A9,A9,ak⟩⟩
 iterate 3 · (obtain ⟨⟨h0,h1⟩,h2,⟨h3,h4,h5⟩,h6,h7⟩:=hI;(try simp only [AT] at c1);have hl:M s.out=M s.l:=aKg;first|omega|exact ⟨rfl,AG⟩ |exact ⟨rfl,rfl⟩)
 ·(have hh:=GY.1<|hI.2.2.2.1 s.k hI.1.1 A8;have hb:=hI.2.2.2.2 s.k.toNat;refine ⟨A0,?_⟩;show 0<=s.levels.getD s.k.toNat 0/\s.levels.getD s.k.toNat 0<=1000;omega)
 iterate 3 · (obtain ⟨⟨h0,h1⟩,h2,⟨h3,h4,h5⟩,h6,h7⟩:=hI;(try simp only [AT] at c1);have hl:M s.out=M s.l:=aKg;first|omega|exact ⟨rfl,AG⟩ |exact ⟨rfl,rfl⟩)
def aCq:Lm.Ok:={}
def aCZ:Lm.Pf (qP):=⟨aw5,λs h=>rfl,ao3,apH⟩
def ai7:SA 0 xo Lm:=s1 aCq aCZ TH pK
def aiq:Fi Z9 UF qP alL NP:=LpD.fin aCq aCZ
def aAp:aD->T LV
 | .agg a::r=>s5 a λcs os ks gs bs=>(match r with
  | [.xl (.int J) al,.xl (.int J) mo,.xl (.int J) od]=> .ok (.tup [.xl A7<|E5 cs os ks gs bs al mo od,KX cs os ks gs bs al mo od])
  |_=> .no)
 |_=> .no
def Kg (cs:aJ) (os:aF) (ks:aP) (gs:aG) (bs:aQ) (al mo od:aB):DK:=letI a:=Hg cs os ks gs bs;(⟨al,a,(M a:Y),0,cs,os,ks,gs,bs,cs,os,ks,gs,bs,a,al,([]:aB),([]:aB),([]:aB),([]:aB),([]:aB),([]:aB),([]:aB),([]:aB),([]:aB),([]:aB),([]:aB),([]:aB),([]:aB),([]:aB),([]:aB),([]:aB),aq (M a:Y).toNat (0:Y),aq (M al:Y).toNat (0:Y)⟩:DK)
def Iz (cs:aJ) (os:aF) (ks:aP) (gs:aG) (bs:aQ) (al mo od:aB):H9:=letI a:=Gq<|Kg cs os ks gs bs al mo od;(⟨mo,od,(M gs:Y),1,cs,os,ks,gs,bs,cs,os,ks,gs,bs,Hg cs os ks gs bs,(a.By.drop 0).take<|M a.By,(a.Bx.drop 0).take<|M a.Bx,(a.Bw.drop 0).take<|M a.Bw,(a.Bv.drop 0).take<|M a.Bv,(a.Bu.drop 0).take<|M a.Bu,(a.Bt.drop 0).take<|M a.Bt,(a.Bs.drop 0).take<|M a.Bs,(a.Br.drop 0).take<|M a.Br,(a.Bq.drop 0).take<|M a.Bq,(a.Bp.drop 0).take<|M a.Bp,(a.Bn.drop 0).take<|M a.Bn,(a.Bm.drop 0).take<|M a.Bm,(a.Bl.drop 0).take<|M a.Bl,(a.Bk.drop 0).take<|M a.Bk,(a.Bj.drop 0).take<|M a.Bj,(a.Bi.drop 0).take<|M a.Bi,al,a.sums,aq (M al:Y).toNat (0:Y)⟩:H9)
def vb (cs:aJ) (os:aF) (ks:aP) (gs:aG) (bs:aQ) (al mo od:aB):Mk:=letI a:=Gq<|Kg cs os ks gs bs al mo od;letI b:=H4<|Iz cs os ks gs bs al mo od;(⟨gs,(M gs:Y),0,cs,os,ks,gs,bs,Hg cs os ks gs bs,(a.By.drop 0).take<|M a.By,(a.Bx.drop 0).take<|M a.Bx,(a.Bw.drop 0).take<|M a.Bw,(a.Bv.drop 0).take<|M a.Bv,(a.Bu.drop 0).take<|M a.Bu,(a.Bt.drop 0).take<|M a.Bt,(a.Bs.drop 0).take<|M a.Bs,(a.Br.drop 0).take<|M a.Br,(a.Bq.drop 0).take<|M a.Bq,(a.Bp.drop 0).take<|M a.Bp,(a.Bn.drop 0).take<|M a.Bn,(a.Bm.drop 0).take<|M a.Bm,(a.Bl.drop 0).take<|M a.Bl,(a.Bk.drop 0).take<|M a.Bk,(a.Bj.drop 0).take<|M a.Bj,(a.Bi.drop 0).take<|M a.Bi,al,aq (M gs:Y).toNat (0:Y),b.sums,b.levels⟩:Mk)
def pe:aN:=[SO,X6,X9,X7]
def ayC:Ap:=kI pe<|la 8 func206 jh<|la 2 func202 hU<|la 3 func204 Ww<|la 2 func202 Rt<|l0 pe
def aBu:=vm (S:=aAp) func174 pe ayC (L:=(λi=>if i=11 then Mt.lp else if i=21 then Lm.lp else noLoops i)) (λb hb=>by
 rw [show loopsIn _=[wy,xo] by kernel_rfl] at hb
 simp only [Au,BX,BV] at hb;rcases hb with rfl|rfl
 ·exact ai8
 ·exact ai7) (λargs lv h=>by
 unfold aAp at h;split at h
 case h_2=>cases h
 replace h:=GB h
 obtain ⟨cs,os,ks,gs,bs,rfl,h⟩:=h;split at h
 ·rename_i al mo od
  refine Al (letI b:=vb cs os ks gs bs al mo od;letI d:=(M (Hg cs os ks gs bs):Y);letI g:=Iz cs os ks gs bs al mo od;letI j:=(M gs:Y);letI l:=(M al:Y);letI n:=((NP b).out.drop 0).take<|M (NP b).out;letI o:=Kg cs os ks gs bs al mo od;letI s:=(aq d.toNat (0:Y));letI t:=(aq j.toNat (0:Y));letI u:=(M mo:Y);letI w:=(isEx (Wu (⟨X,mo,u,0,cs,os,ks,gs,bs⟩:H6))<|.ret);letI x:=(Sj.q (⟨X,mo,u,0,cs,os,ks,gs,bs⟩:H6));letI y:=(Ws (⟨X,mo,u,0,cs,os,ks,gs,bs⟩:H6));letI z:=j<=1000;letI a:=Gq o;letI f:=(aq l.toNat (0:Y));.br ((Lq cs os ks gs bs) !=0) (.ok<|.tup [.xl A7 ([]:aB),(1:Y)])<|.br (l !=j) (.ok<|.tup [.xl A7 ([]:aB),(1:Y)])<|.br (u !=j) (.ok<|.tup [.xl A7 ([]:aB),(1:Y)])<|.req (Sj.q (⟨X,al,l,0,cs,os,ks,gs,bs⟩:H6))<|.br (isEx (Wu (⟨X,al,l,0,cs,os,ks,gs,bs⟩:H6))<|.ret) (.br (!(Ws (⟨X,al,l,0,cs,os,ks,gs,bs⟩:H6)).r) (.ok<|.tup [.xl A7 ([]:aB),(1:Y)])<|.req x<|.br w (.br (! y.r) (.ok<|.tup [.xl A7 ([]:aB),(1:Y)])<|.req z<|.br (!(FE od j)) (.ok<|.tup [.xl A7 ([]:aB),(1:Y)])<|.rm 8 d<|.rm 8 l<|.r0 Int<|.r0 Int<|.r0 Int<|.r0 Int<|.r0 Int<|.r0 Int<|.r0 Int<|.r0 Int<|.r0 Int<|.r0 Int<|.r0 Int<|.r0 Int<|.r0 Int<|.r0 Int<|.r0 Int<|.r0 Int<|.re d.toNat s<|.re l.toNat f<|.req (Mu.q o)<|.rz a.By<|.rz a.Bx<|.rz a.Bw<|.rz a.Bv<|.rz a.Bu<|.rz a.Bt<|.rz a.Bs<|.rz a.Br<|.rz a.Bq<|.rz a.Bp<|.rz a.Bn<|.rz a.Bm<|.rz a.Bl<|.rz a.Bk<|.rz a.Bj<|.rz a.Bi<|.rl a.sums<|.rl f<|.req (Mt.q g)<|.rm 8 j<|.re j.toNat t<|.rl (H4 g).sums<|.rl (H4 g).levels<|.req (Lm.q b)<|.rz (NP b).out<|.ok<|.tup [.xl A7 n,(0:Y)])<|.br (!U) (.ok<|.tup [.xl A7 ([]:aB),(1:Y)])<|.req z<|.br (!(FE od j)) (.ok<|.tup [.xl A7 ([]:aB),(1:Y)])<|.rm 8 d<|.rm 8 l<|.r0 Int<|.r0 Int<|.r0 Int<|.r0 Int<|.r0 Int<|.r0 Int<|.r0 Int<|.r0 Int<|.r0 Int<|.r0 Int<|.r0 Int<|.r0 Int<|.r0 Int<|.r0 Int<|.r0 Int<|.r0 Int<|.re d.toNat s<|.re l.toNat f<|.req (Mu.q o)<|.rz a.By<|.rz a.Bx<|.rz a.Bw<|.rz a.Bv<|.rz a.Bu<|.rz a.Bt<|.rz a.Bs<|.rz a.Br<|.rz a.Bq<|.rz a.Bp<|.rz a.Bn<|.rz a.Bm<|.rz a.Bl<|.rz a.Bk<|.rz a.Bj<|.rz a.Bi<|.rl a.sums<|.rl f<|.req (Mt.q g)<|.rm 8 j<|.re j.toNat t<|.rl (H4 g).sums<|.rl (H4 g).levels<|.req (Lm.q b)<|.rz (NP b).out<|.ok<|.tup [.xl A7 n,(0:Y)])<|.br (!U) (.ok<|.tup [.xl A7 ([]:aB),(1:Y)])<|.req x<|.br w (.br (! y.r) (.ok<|.tup [.xl A7 ([]:aB),(1:Y)])<|.req z<|.br (!(FE od j)) (.ok<|.tup [.xl A7 ([]:aB),(1:Y)])<|.rm 8 d<|.rm 8 l<|.r0 Int<|.r0 Int<|.r0 Int<|.r0 Int<|.r0 Int<|.r0 Int<|.r0 Int<|.r0 Int<|.r0 Int<|.r0 Int<|.r0 Int<|.r0 Int<|.r0 Int<|.r0 Int<|.r0 Int<|.r0 Int<|.re d.toNat s<|.re l.toNat f<|.req (Mu.q o)<|.rz a.By<|.rz a.Bx<|.rz a.Bw<|.rz a.Bv<|.rz a.Bu<|.rz a.Bt<|.rz a.Bs<|.rz a.Br<|.rz a.Bq<|.rz a.Bp<|.rz a.Bn<|.rz a.Bm<|.rz a.Bl<|.rz a.Bk<|.rz a.Bj<|.rz a.Bi<|.rl a.sums<|.rl f<|.req (Mt.q g)<|.rm 8 j<|.re j.toNat t<|.rl (H4 g).sums<|.rl (H4 g).levels<|.req (Lm.q b)<|.rz (NP b).out<|.ok<|.tup [.xl A7 n,(0:Y)])<|.br (!U) (.ok<|.tup [.xl A7 ([]:aB),(1:Y)])<|.req z<|.br (!(FE od j)) (.ok<|.tup [.xl A7 ([]:aB),(1:Y)])<|.rm 8 d<|.rm 8 l<|.r0 Int<|.r0 Int<|.r0 Int<|.r0 Int<|.r0 Int<|.r0 Int<|.r0 Int<|.r0 Int<|.r0 Int<|.r0 Int<|.r0 Int<|.r0 Int<|.r0 Int<|.r0 Int<|.r0 Int<|.r0 Int<|.re d.toNat s<|.re l.toNat f<|.req (Mu.q o)<|.rz a.By<|.rz a.Bx<|.rz a.Bw<|.rz a.Bv<|.rz a.Bu<|.rz a.Bt<|.rz a.Bs<|.rz a.Br<|.rz a.Bq<|.rz a.Bp<|.rz a.Bn<|.rz a.Bm<|.rz a.Bl<|.rz a.Bk<|.rz a.Bj<|.rz a.Bi<|.rl a.sums<|.rl f<|.req (Mt.q g)<|.rm 8 j<|.re j.toNat t<|.rl (H4 g).sums<|.rl (H4 g).levels<|.req (Lm.q b)<|.rz (NP b).out<|.ok<|.tup [.xl A7 n,(0:Y)]) ?_;obtain rfl:=h
  have err:EN cs os ks gs bs al mo od=X->LV.tup [.xl A7 ([]:aB),.v<|ag J 1]=LV.tup [.xl A7<|E5 cs os ks gs bs al mo od,.v<|ag J<|KX cs os ks gs bs al mo od]:=λh=>by
   unfold E5 KX;rw [h];rfl
  have no_:∀ {p:Prop},¬p->(EN cs os ks gs bs al mo od=U->p)->EN cs os ks gs bs al mo od=false:=λh1 h2=>by
   rw [GS];exact λh=>h1<|h2 h
  refine ⟨λc=>err<|no_ (p:=Av cs os ks gs bs=U) (λh=>?_) λh=>(J1.1 h).1,λc=>?_⟩
  ·unfold Lq at c
   rw [h] at c
   simp at c
  have hv:Av cs os ks gs bs=true:=by
   cases e:Av cs os ks gs bs with
   |true=>rfl
   |false=>unfold Lq at c;rw [e] at c;simp at c
  have hl:=(Ci.1 hv).1
  refine ⟨λc2=>err<|no_ (p:=M al=M gs) (by simp at c2;omega) λh=>(J1.1 h).2.1,λc2=>?_⟩
  refine ⟨λc3=>err<|no_ (p:=M mo=M gs) dy λh=>(J1.1 h).2.2.1,λc3=>?_⟩
  have c2:M al=M gs:=by simp at c2;omega
  have c3:M mo=M gs:=dy
  refine JE ⟨⟨rfl,AR,AR,rfl⟩,rfl,rfl⟩ λhE1=>?_
  rcases aB6 _ hE1.1 with ⟨q1,q2⟩ |⟨q1,q2,q3⟩
  rotate_left
  ·rw [q1,q2]
   refine ⟨λ_=>⟨λ_=>err<|no_ (p:=al.all GF=U) (by have q3:al.all GF=false:=q3;rw [q3];simp) λh=>(J1.1 h).2.2.2.1,λh=>Ai⟩,λh=>Ai⟩
  rw [q1];refine ⟨λh=>Ai,λ_=>⟨λh=>Ai,λ_=>?_⟩⟩
  have q2:al.all GF=true:=q2
  refine JE ⟨⟨rfl,AR,AR,rfl⟩,rfl,rfl⟩ λhE2=>?_
  rcases aB6 _ hE2.1 with ⟨p1,p2⟩ |⟨p1,p2,p3⟩
  rotate_left
  ·rw [p1,p2]
   refine ⟨λ_=>⟨λ_=>err<|no_ (p:=mo.all GF=U) (by have p3:mo.all GF=false:=p3;rw [p3];simp) λh=>(J1.1 h).2.2.2.2.1,λh=>Ai⟩,λh=>Ai⟩
  rw [p1];refine ⟨λh=>Ai,λ_=>⟨λh=>Ai,λ_=>?_⟩⟩
  have p2:mo.all GF=true:=p2
  refine ⟨A0,λc4=>err<|no_ (p:=FE od (M gs:Y)=U) (by simp at c4;rw [c4];simp) λh=>(J1.1 h).2.2.2.2.2,λc4=>?_⟩
  have c4:FE od (M gs:Y)=true:=ta
  have hok:EN cs os ks gs bs al mo od=true:=J1.2 ⟨hv,c2,c3,q2,p2,c4⟩
  obtain ⟨hT,hS⟩:=awJ hok
  have er:Hg cs os ks gs bs=CK cs gs (M cs):=by unfold Hg;rw [AB hv]
  have hrl:=gE (cs:=cs) (gs:=gs) (k:=M cs)
  have hod:M od=M gs:=by
   unfold FE at c4;simp only [AP,AT] at c4;omega
  have hrn:(M (Hg cs os ks gs bs):Y)<=1000:=by rw [er];omega
  refine ⟨A0,A0,A9,A9,A9,A9,A9,A9,A9,A9,A9,A9,A9,A9,A9,A9,A9,A9,⟨rfl,AG⟩,⟨rfl,AG⟩,?_⟩
  have hN:Sm (Kg cs os ks gs bs al mo od):=by
   refine ⟨rfl,λo ho=>?_,rfl,rfl,hrn,λr hr=>?_,hT.al,by show M (aq _ _)=M (Hg cs os ks gs bs);simp⟩
   ·simpa [EK,Kg] using ho
   ·have hr:r∈CK cs gs (M cs):=by rw [<-er];exact hr
    obtain ⟨m1,m2,m3,m4⟩:=row_mem hr;refine ⟨A0,λm hm=>?_⟩
    have:=m2 m hm
    show 0<=m/\m<16/\m<(M al:Y)
    omega
  obtain ⟨nr1,nr2⟩:=akL _ hN
  have nr1:EK (Gq<|Kg cs os ks gs bs al mo od)=OL (CK cs gs<|M cs):=by rw [nr1,<-er];rfl
  have nr2:(Gq<|Kg cs os ks gs bs al mo od).sums=SM al (CK cs gs<|M cs):=by rw [nr2,<-er];rfl
  refine ⟨⟨hN,rfl,rfl⟩,A0,A0,A0,A0,A0,A0,A0,A0,A0,A0,A0,A0,A0,A0,A0,A0,A9,A9,?_⟩
  have eO:IN (Iz cs os ks gs bs al mo od)=EK (Gq<|Kg cs os ks gs bs al mo od):=by
   unfold IN EK Iz;simp only [C0,DA]
  have hSh:ZA (Iz cs os ks gs bs al mo od):=by
   refine ⟨rfl,by show (M od:Y)<=1000;omega,rfl,?_,?_⟩
   ·show OkT (IN<|Iz cs os ks gs bs al mo od) (Hg cs os ks gs bs) gs al mo od
    rw [eO,nr1,er];exact hT
   ·show OkS (Hg cs os ks gs bs) od (Gq<|Kg cs os ks gs bs al mo od).sums _
    rw [nr2,er];exact hS
  have sr:=air _ hSh
  have sr:(H4<|Iz cs os ks gs bs al mo od).levels=shV (CK cs gs<|M cs) gs al mo od:=by
   rw [sr]
   show shl (IN<|Iz cs os ks gs bs al mo od) (Hg cs os ks gs bs) gs al mo od 81 1 (Gq<|Kg cs os ks gs bs al mo od).sums _=_
   rw [eO,nr1,nr2,er];rfl
  obtain ⟨sl,sb⟩:=aCC hT 81 1 _ _ A0 A0 hS;refine ⟨⟨hSh,rfl,rfl⟩,A0,⟨rfl,AG⟩,A9,A9,?_⟩
  have hX:Z9 (vb cs os ks gs bs al mo od):=by
   refine ⟨rfl,rfl,⟨rfl,aJc,?_⟩,λk h0 h1=>?_,?_⟩
   ·show M (H4<|Iz cs os ks gs bs al mo od).levels=M gs
    rw [sr];exact sl.trans (by rw [Bc];exact c2)
   ·have:=Kp hv h0 h1
    unfold Ek JR at this;simp only [AP,B6] at this
    show D5 (AF gs k).2.2.2.1 (AF gs k).2.2.2.2.1 (AF gs k).2.2.2.2.2.1=U
    exact GY.2 A0
   ·show ∀k:aC,0<=(H4<|Iz cs os ks gs bs al mo od).levels.getD k 0/\(H4<|Iz cs os ks gs bs al mo od).levels.getD k 0<=80
    rw [sr];exact sb
  refine ⟨⟨hX,rfl,rfl⟩,A0,?_⟩;obtain ⟨s',_,_,x2⟩:=aiq _ hX
  have x2:(NP<|vb cs os ks gs bs al mo od).out=Dx gs (H4<|Iz cs os ks gs bs al mo od).levels:=x2
  show LV.tup [LV.xl _ _,_]=_
  rw [C0,DA,x2,sr];unfold E5 KX;rw [AB hok,AB hok]
 ·cases h)
structure Ma where
 m:aG
 (k i:Y)
 out:aB
def yH:=bN f173 0
def oY (s:Ma):T (Rd Ma):=letI a:=s.out.set s.i.toNat (AF s.m s.i).2.2.2.2.2.2.1;.br (an<|s.i<s.k) (.ix s.i (M s.m)<|.ik s.i (M s.out)<|.re (M s.out) a<|.nx {s with i:=AA<|s.i+1,out:=a})<|.rl s.out<|.so (.exit 0) s
def Zt (s:Ma):Prop:=s.i=0/\s.k=(M s.m:Y)/\s.k<=1000/\M s.out=M s.m/\(∀j,0<=j->j<s.k->gi s.out j=0)/\True
def Uo (s:Ma):Prop:=(0<=s.i/\s.i<=s.k)/\s.k=(M s.m:Y)/\s.k<=1000/\M s.out=M s.m/\(∀j,0<=j->j<s.k->gi s.out j=if j<s.i then C7 (AF s.m j) else 0)/\True
def mB (s:Ma):aC:=(s.k-s.i).toNat
def uK (x:Ex) (s s':Ma):Prop:=x=.exit 0/\s'.out=Fb (M s'.m) (λj=>C7<|AF s'.m j)
def azC:∀s,Zt s->Uo s:=by
 exact OT
def at1:Da Uo mB uK oY:=by
 intro s hI;obtain ⟨⟨h0,h1⟩,h2,h3,h4,h5,h6⟩:=hI;refine allR_ite (λc1=>?_) λc1=>?_
 ·have c1:s.i<s.k:=AQ
  rw [AH (x:=s.i+1)];refine ⟨⟨⟨A8,A8⟩,h2,h3,A8,λj j0 j1=>?_,h6⟩,by simp only [mB];omega⟩
  simp only;rw [H5 h0 A0 j0];exact cg
 ·exact Vq
def Nq:LpD Ma:=⟨0,31,[3,17,18,19],[],λs=>[.os 0 1 0<|M s.out,s.m,s.k,s.i],λs=>[bV 3 A7 s.out],λv b=>⟨As AZ v 1,AJ v 2,AJ v 3,AV A7 b 0⟩,oY,λs r=> {r with m:=s.m,k:=s.k},λs=>s,λ_ s=>s,[.exit 0],Zt,Uo,mB⟩
abbrev wB:=Nq.run
abbrev akW:=Nq.exn
def aok:Rq Uo oY:=by
 exact qn
def pw:aN:=[]
def aE2:Nq.Ok:={}
def aCz:Nq.Pf (uK):=⟨azC,λs h=>rfl,at1,aok⟩
def aie:SA 0 yH Nq:=s1 aE2 aCz pw kN
def alh:Fi Zt Uo uK akW wB:=LpD.fin aE2 aCz
def aBX:aD->T LV
 | [.xq 9 q0]=>(match ([q0 0,q0 1,q0 2,q0 3,q0 4,q0 5,q0 6,q0 7,q0 8]:aD) with
  | [.xl (.pair .str (.pair (.int J) (.pair (.int J) (.pair (.int J) (.pair (.pair (.int J) (.int J)) (.pair (.int J) (.pair (.int J) (.pair (.int J) (.pair (.int J) (.int J)))))))))) cs,.xl (.str) os,.xl (.pair .str (.pair (.int J) (.pair (.int J) (.int J)))) ks,.xl (.pair .str (.pair (.int J) (.pair (.int J) (.pair (.int J) (.pair (.int J) (.pair (.int J) (.pair (.int J) (.int J)))))))) gs,.xl (.pair .str (.int J)) bs,.xl (.pair (.int J) (.pair (.int J) (.pair (.int J) (.pair (.int J) (.int J))))) l,.xl (.pair .bool (.pair (.int J) (.pair (.int J) (.int J)))) d,.v (ag J t),.xl (.int J) od]=> .req ((M gs:Y)<=1000) (.ok<|.xl A7<|BT gs)
  |_=> .no)
 |_=> .no
def ak0 (cs:aJ) (os:aF) (ks:aP) (gs:aG) (bs:aQ) (l:aL) (d:aZ) (t:Y) (od:aB):letI c:=(M gs:Y);letI a:=(aq c.toNat (0:Y));letI b:=(wB (⟨gs,c,(0:Y),a⟩:Ma));BO prog AM (pw) kN (λi=>if i=3 then Nq.lp else noLoops i) f173 [xQ 9 [cs,os,ks,gs,bs,l,d,t,.xl A7 od]]=.rm 8 c (.re c.toNat a<|.req (Nq.q (⟨gs,c,(0:Y),a⟩:Ma))<|.rz b.out<|.ok<|.xl A7<|(b.out.drop 0).take<|M b.out):=AO
def an6:=vm (S:=aBX) func173 pw kN (L:=(λi=>if i=3 then Nq.lp else noLoops i)) (λb hb=>by
 rw [show loopsIn _=[yH] by kernel_rfl] at hb
 simp only [Au,BX,BV] at hb;subst hb;exact aie) (λargs lv h=>by
 refine ⟨?_⟩;unfold aBX at h;split at h
 ·split at h
  case h_2=>cases h
  rename_i heq0;simp only [canL,canX];rw [DB (n:=9) heq0];simp only [canL,canX];rw [ak0];rename_i cs os ks gs bs l d t od;obtain ⟨hn,rfl⟩:=h
  have hE:Zt ⟨gs,(M gs:Y),0,aq (M gs:Y).toNat 0⟩:=⟨rfl,rfl,hn,AG,λj _ _=>IF,ak⟩
  obtain ⟨_,_,q1,q2⟩:=alh _ hE
  have q2:(wB ⟨gs,(M gs:Y),0,aq (M gs:Y).toNat 0⟩).out=BT gs:=q2
  refine ⟨A0,⟨rfl,AG⟩,⟨hE,rfl,rfl⟩,A0,?_⟩
  show LV.xl _ _=_
  rw [C0,DA,q2]
 ·cases h)
structure MR where
 cs:aJ
 os:aF
 ks:aP
 gs:aG
 bs:aQ
 l:aL
 d:aZ
 t:Y
 od:aB
 m:aG
 (k i:Y)
 wanted:aB
def yz:=bN f172 0
def Yl (s:MR):T (Rd MR):=letI a:=s.wanted.set s.i.toNat (AF s.m s.i).2.2.2.2.1;.br (an<|s.i<s.k) (.ix s.i (M s.m)<|.ix s.i (M s.d)<|.br (DC s.d s.i).1 (.ik s.i (M s.wanted)<|.re (M s.wanted) a<|.nx {s with i:=AA<|s.i+1,wanted:=a})<|.rl s.wanted<|.nx {s with i:=AA<|s.i+1})<|.rl s.wanted<|.so (.exit 0) s
def Zn (s:MR):Prop:=s.i=0/\s.k=(M s.m:Y)/\s.k<=1000/\M s.wanted=M s.m/\(∀j,0<=j->j<s.k->gi s.wanted j=0)/\M s.d=M s.m
def Ul (s:MR):Prop:=(0<=s.i/\s.i<=s.k)/\s.k=(M s.m:Y)/\s.k<=1000/\M s.wanted=M s.m/\(∀j,0<=j->j<s.k->gi s.wanted j=if j<s.i then if (DC s.d j).1=U then (AF s.m j).2.2.2.2.1 else 0 else 0)/\M s.d=M s.m
def Xv (s:MR):aC:=(s.k-s.i).toNat
def uH (x:Ex) (s s':MR):Prop:=x=.exit 0/\s'.wanted=Fb (M s'.m) (λj=>if (DC s'.d j).1=U then (AF s'.m j).2.2.2.2.1 else 0)
def az4:∀s,Zn s->Ul s:=by
 exact OT
def ato:Da Ul Xv uH Yl:=by
 intro s hI;unfold Yl;obtain ⟨⟨h0,h1⟩,h2,h3,h4,h5,h6⟩:=hI;refine allR_ite (λc1=>?_) λc1=>?_
 ·refine allR_ite (λc2=>?_) (λc2=>?_)
  ·have c1:s.i<s.k:=AQ
   rw [AH (x:=s.i+1)];refine ⟨⟨⟨AR,AR⟩,h2,h3,A8,λj j0 j1=>?_,h6⟩,by simp only [Xv];omega⟩
   simp only;rw [H5 h0 W8 j0]
   by_cases e:j=s.i
   ·subst e
    grind
   ·exact ru
  ·have c1:s.i<s.k:=AQ
   rw [AH (x:=s.i+1)];refine ⟨⟨⟨AR,AR⟩,h2,h3,h4,λj j0 j1=>?_,h6⟩,by simp only [Xv];omega⟩
   simp only;rw [h5 j j0 j1]
   by_cases e:j=s.i
   ·subst e
    grind
   ·by_cases q:j<s.i
    ·omega
    ·omega
 ·have c1:s.k<=s.i:=AQ
  exact rC
def No:LpD MR:=⟨0,53,[0,4,18,19,20],[],λs=>[xQ 9 [s.cs,s.os,s.ks,s.gs,s.bs,s.l,s.d,s.t,.xl A7 s.od],.os 0 1 0<|M s.wanted,s.m,s.k,s.i],λs=>[bV 3 A7 s.wanted],λv b=>⟨gXl AX<|gXq (v.getD 0 .junk) 0,gXl .str<|gXq (v.getD 0 .junk) 1,gXl Ad<|gXq (v.getD 0 .junk) 2,gXl AZ<|gXq (v.getD 0 .junk) 3,gXl Ae<|gXq (v.getD 0 .junk) 4,gXl AK<|gXq (v.getD 0 .junk) 5,gXl Ac<|gXq (v.getD 0 .junk) 6,gI<|gXq (v.getD 0 .junk) 7,gXl A7<|gXq (v.getD 0 .junk) 8,As AZ v 2,AJ v 3,AJ v 4,AV A7 b 0⟩,Yl,λs r=> {s with i:=r.i,wanted:=r.wanted},λs=>s,λ_ s=>s,[.exit 0],Zn,Ul,Xv⟩
abbrev vr:=No.run
abbrev al0:=No.exn
def aod:Rq Ul Yl:=by
 intro s hI;refine ⟨λc1=>⟨?_,?_,λc2=>⟨?_,?_,?_,ak⟩,λc2=>⟨A9,ak⟩⟩,λc1=>⟨A9,ak⟩⟩
 all_goals ((obtain ⟨⟨h0,h1⟩,h2,h3,h4,h5,h6⟩:=hI;(try simp only [AT] at c1);first|omega|exact ⟨rfl,AG⟩ |(omega)))
def pt:aN:=[an6,aBu]
def aDw:No.Ok:={}
def aDd:No.Pf (uH):=⟨az4,λs h=>rfl,ato,aod⟩
def aiZ:SA 0 yz No:=s1 aDw aDd pt kN
def amM:Fi Zn Ul uH al0 vr:=LpD.fin aDw aDd
def aBS:aD->T LV
 | [.xq 9 q0]=>(match ([q0 0,q0 1,q0 2,q0 3,q0 4,q0 5,q0 6,q0 7,q0 8]:aD) with
  | [.xl (.pair .str (.pair (.int J) (.pair (.int J) (.pair (.int J) (.pair (.pair (.int J) (.int J)) (.pair (.int J) (.pair (.int J) (.pair (.int J) (.pair (.int J) (.int J)))))))))) cs,.xl (.str) os,.xl (.pair .str (.pair (.int J) (.pair (.int J) (.int J)))) ks,.xl (.pair .str (.pair (.int J) (.pair (.int J) (.pair (.int J) (.pair (.int J) (.pair (.int J) (.pair (.int J) (.int J)))))))) gs,.xl (.pair .str (.int J)) bs,.xl (.pair (.int J) (.pair (.int J) (.pair (.int J) (.pair (.int J) (.int J))))) l,.xl (.pair .bool (.pair (.int J) (.pair (.int J) (.int J)))) d,.v (ag J t),.xl (.int J) od]=> .req ((M gs:Y)<=1000/\M d=M gs) (.ok<|.tup [.xl A7<|E5 cs os ks gs bs (BT gs) (H8 gs d) od,KX cs os ks gs bs (BT gs) (H8 gs d) od])
  |_=> .no)
 |_=> .no
def ajx (cs:aJ) (os:aF) (ks:aP) (gs:aG) (bs:aQ) (l:aL) (d:aZ) (t:Y) (od:aB):letI b:=(M gs:Y);letI c:=(aq b.toNat (0:Y));letI a:=(vr (⟨cs,os,ks,gs,bs,l,d,t,od,gs,b,(0:Y),c⟩:MR));letI e:=(a.wanted.drop 0).take<|M a.wanted;BO prog AM (pt) kN (λi=>if i=3 then No.lp else noLoops i) f172 [xQ 9 [cs,os,ks,gs,bs,l,d,t,.xl A7 od]]=.rm 8 b (.re b.toNat c<|.req (No.q (⟨cs,os,ks,gs,bs,l,d,t,od,gs,b,(0:Y),c⟩:MR))<|.req (b<=1000)<|.rz a.wanted<|.ok<|.tup [.xl A7<|E5 cs os ks gs bs (BT gs) e od,KX cs os ks gs bs (BT gs) e od]):=AO
def anj:=vm (S:=aBS) func172 pt kN (L:=(λi=>if i=3 then No.lp else noLoops i)) (λb hb=>by
 rw [show loopsIn _=[yz] by kernel_rfl] at hb
 simp only [Au,BX,BV] at hb;subst hb;exact aiZ) (λargs lv h=>by
 refine ⟨?_⟩;unfold aBS at h;split at h
 ·split at h
  case h_2=>cases h
  rename_i heq0;simp only [canL,canX];rw [DB (n:=9) heq0];simp only [canL,canX];rw [ajx];rename_i cs os ks gs bs l d t od;obtain ⟨⟨hn,hd⟩,rfl⟩:=h
  have hE:Zn ⟨cs,os,ks,gs,bs,l,d,t,od,gs,(M gs:Y),0,aq (M gs:Y).toNat 0⟩:=⟨rfl,rfl,hn,AG,λj _ _=>IF,hd⟩
  obtain ⟨_,_,q1,q2⟩:=amM _ hE
  have q2:(vr ⟨cs,os,ks,gs,bs,l,d,t,od,gs,(M gs:Y),0,aq (M gs:Y).toNat 0⟩).wanted=H8 gs d:=q2
  refine ⟨A0,⟨rfl,AG⟩,⟨hE,rfl,rfl⟩,hn,A0,?_⟩
  show LV.tup [LV.xl _ _,_]=_
  rw [C0,DA,q2]
 ·cases h)
structure MO where
 m:aG
 (k i:Y)
 out:aB
def oV (s:MO):T (Rd MO):=letI a:=s.out.set s.i.toNat (AF s.m s.i).2.2.2.2.2.2.1;.br (an<|s.i<s.k) (.ix s.i (M s.m)<|.ik s.i (M s.out)<|.re (M s.out) a<|.nx {s with i:=AA<|s.i+1,out:=a})<|.rl s.out<|.so (.exit 0) s
def Zs (s:MO):Prop:=s.i=0/\s.k=(M s.m:Y)/\s.k<=1000/\M s.out=M s.m/\(∀j,0<=j->j<s.k->gi s.out j=0)/\True
def Un (s:MO):Prop:=(0<=s.i/\s.i<=s.k)/\s.k=(M s.m:Y)/\s.k<=1000/\M s.out=M s.m/\(∀j,0<=j->j<s.k->gi s.out j=if j<s.i then C7 (AF s.m j) else 0)/\True
def mA (s:MO):aC:=(s.k-s.i).toNat
def uJ (x:Ex) (s s':MO):Prop:=x=.exit 0/\s'.out=Fb (M s'.m) (λj=>C7<|AF s'.m j)
def az9:∀s,Zs s->Un s:=by
 exact OT
def atw:Da Un mA uJ oV:=by
 intro s hI;obtain ⟨⟨h0,h1⟩,h2,h3,h4,h5,h6⟩:=hI;refine allR_ite (λc1=>?_) λc1=>?_
 ·have c1:s.i<s.k:=AQ
  rw [AH (x:=s.i+1)];refine ⟨⟨⟨A8,A8⟩,h2,h3,A8,λj j0 j1=>?_,h6⟩,by simp only [mA];omega⟩
  simp only;rw [H5 h0 W8 j0];exact cg
 ·exact Vq
def Ub:LpD MO:=⟨0,31,[3,17,18,19],[],λs=>[.os 0 1 0<|M s.out,s.m,s.k,s.i],λs=>[bV 3 A7 s.out],λv b=>⟨As AZ v 1,AJ v 2,AJ v 3,AV A7 b 0⟩,oV,λs r=> {r with m:=s.m,k:=s.k},λs=>s,λ_ s=>s,[.exit 0],Zs,Un,mA⟩
abbrev Wb:=Ub.run
abbrev akV:=Ub.exn
def Nv:aN:=[SR,anj,aBu]
def axw:Ap:=kI Nv<|l0 Nv
def aoi:Rq Un oV:=by
 exact qn
def aE1:Ub.Ok:={}
def aCy:Ub.Pf (uJ):=⟨az9,λs h=>rfl,atw,aoi⟩
def aic:=s2 (b:=bN f173 0) aE1 aCy Nv axw
def ala:Fi Zs Un uJ akV Wb:=LpD.fin aE1 aCy
structure MS where
 cs:aJ
 os:aF
 ks:aP
 gs:aG
 bs:aQ
 l:aL
 d:aZ
 t:Y
 (od targets m:aB)
 (k i:Y)
 alive:aB
def yF:=bN f122 0
def oT (s:MS):T (Rd MS):=letI b:=s.alive.getD s.i.toNat<|Ty.dflt A7;letI c:=M s.alive;letI a:=s.alive.set s.i.toNat (if b<(gi s.m s.i) then (gi s.m s.i) else b);.br (an<|s.i<s.k) (.ix s.i (M s.m)<|.ik s.i c<|.ik s.i c<|.re c a<|.nx {s with i:=AA<|s.i+1,alive:=a})<|.rl s.alive<|.so (.exit 0) s
def Zq (s:MS):Prop:=s.i=0/\s.k=(M s.m:Y)/\s.k<=1000/\M s.alive=M s.m/\(∀j,0<=j->j<s.k->gi s.alive j=C7 (AF s.gs j))/\True
def Um (s:MS):Prop:=(0<=s.i/\s.i<=s.k)/\s.k=(M s.m:Y)/\s.k<=1000/\M s.alive=M s.m/\(∀j,0<=j->j<s.k->gi s.alive j=if j<s.i then mx (C7<|AF s.gs j) (gi s.m j) else C7 (AF s.gs j))/\True
def m8 (s:MS):aC:=(s.k-s.i).toNat
def uI (x:Ex) (s s':MS):Prop:=x=.exit 0/\s'.alive=Fb (M s'.m) (λj=>mx (C7<|AF s'.gs j)<|gi s'.m j)
def az7:∀s,Zq s->Um s:=by
 exact OT
def att:Da Um m8 uI oT:=by
 intro s hI;obtain ⟨⟨h0,h1⟩,h2,h3,h4,h5,h6⟩:=hI;refine allR_ite (λc1=>?_) λc1=>?_
 ·have c1:s.i<s.k:=AQ
  rw [AH (x:=s.i+1)];refine ⟨⟨⟨A8,A8⟩,h2,h3,A8,λj j0 j1=>?_,h6⟩,by simp only [m8];omega⟩
  simp only
  have hi:=h5 s.i h0 c1
  rw [AD (show ¬s.i<s.i by omega)] at hi
  rw [H5 h0 W8 j0]
  by_cases e:j=s.i
  ·subst e
   rw [AB rfl,AB (show s.i<s.i+1 by omega)]
   show mx (gi s.alive s.i) (gi s.m s.i)=_
   rw [hi]
  ·exact ru
 ·have c1:s.k<=s.i:=AQ
  exact rC
def Np:LpD MS:=⟨0,71,[0,4,7,41,42,43],[],λs=>[xQ 9 [s.cs,s.os,s.ks,s.gs,s.bs,s.l,s.d,s.t,.xl A7 s.od],.xl A7 s.targets,.os 0 1 0<|M s.alive,.xl A7 s.m,s.k,s.i],λs=>[bV 3 A7 s.alive],λv b=>⟨gXl AX<|gXq (v.getD 0 .junk) 0,gXl .str<|gXq (v.getD 0 .junk) 1,gXl Ad<|gXq (v.getD 0 .junk) 2,gXl AZ<|gXq (v.getD 0 .junk) 3,gXl Ae<|gXq (v.getD 0 .junk) 4,gXl AK<|gXq (v.getD 0 .junk) 5,gXl Ac<|gXq (v.getD 0 .junk) 6,gI<|gXq (v.getD 0 .junk) 7,gXl A7<|gXq (v.getD 0 .junk) 8,As A7 v 1,As A7 v 3,AJ v 4,AJ v 5,AV A7 b 0⟩,oT,λs r=> {s with i:=r.i,alive:=r.alive},λs=>s,λ_ s=>s,[.exit 0],Zq,Um,m8⟩
abbrev vt:=Np.run
abbrev akU:=Np.exn
def aog:Rq Um oT:=by
 intro s hI;refine ⟨λc1=>⟨?_,?_,?_,?_,?_,?_,ak⟩,λc1=>⟨A9,ak⟩⟩
 all_goals ((obtain ⟨⟨h0,h1⟩,h2,h3,h4,h5,h6⟩:=hI;(try simp only [AT] at c1);first|omega|exact ⟨rfl,AG⟩ |(omega)))
def pI:Ap:=kI Nv<|la 3 func173 aic<|l0 Nv
def aDz:Np.Ok:={}
def aDg:Np.Pf (uI):=⟨az7,λs h=>rfl,att,aog⟩
def aia:SA 0 yF Np:=s1 aDz aDg Nv pI
def alY:Fi Zq Um uI akU vt:=LpD.fin aDz aDg
def aBT:aD->T LV
 | [.xq 9 q0]=>(match ([q0 0,q0 1,q0 2,q0 3,q0 4,q0 5,q0 6,q0 7,q0 8]:aD) with
  | [.xl (.pair .str (.pair (.int J) (.pair (.int J) (.pair (.int J) (.pair (.pair (.int J) (.int J)) (.pair (.int J) (.pair (.int J) (.pair (.int J) (.pair (.int J) (.int J)))))))))) cs,.xl (.str) os,.xl (.pair .str (.pair (.int J) (.pair (.int J) (.int J)))) ks,.xl (.pair .str (.pair (.int J) (.pair (.int J) (.pair (.int J) (.pair (.int J) (.pair (.int J) (.pair (.int J) (.int J)))))))) gs,.xl (.pair .str (.int J)) bs,.xl (.pair (.int J) (.pair (.int J) (.pair (.int J) (.pair (.int J) (.int J))))) l,.xl (.pair .bool (.pair (.int J) (.pair (.int J) (.int J)))) d,.v (ag J t),.xl (.int J) od]=> .req (M d=M gs/\EN cs os ks gs bs (BT gs) (H8 gs d) od=U/\IU l (M gs:Y) t=U/\EN cs os ks gs bs (Cr gs l t) (E5 cs os ks gs bs (BT gs) (H8 gs d) od) od=U) (.ok<|.tup [.xl A7<|cI cs os ks gs bs l d t od,(0:Y)])
  |_=> .no)
 |_=> .no
def ajy (cs:aJ) (os:aF) (ks:aP) (gs:aG) (bs:aQ) (l:aL) (d:aZ) (t:Y) (od:aB):letI b:=(M gs:Y);letI c:=(aq b.toNat (0:Y));letI e:=E5 cs os ks gs bs (BT gs) (H8 gs d) od;letI f:=(Wb (⟨gs,b,(0:Y),c⟩:MO));letI h:=KX cs os ks gs bs (BT gs) (H8 gs d) od;letI j:=(M (FY l b t):Y);letI a:=(vt (⟨cs,os,ks,gs,bs,l,d,t,od,e,FY l b t,j,(0:Y),f.out⟩:MS));letI g:=(a.alive.drop 0).take<|M a.alive;BO prog AM Nv pI (λi=>if i=9 then Np.lp else noLoops i) f122 [xQ 9 [cs,os,ks,gs,bs,l,d,t,.xl A7 od]]=.req (b<=1000/\M d=M gs) (.br (h !=0) (.ok<|.tup [.xl A7 ([]:aB),h])<|.br ((Hs l b t) !=0) (.ok<|.tup [.xl A7 ([]:aB),Hs l b t])<|.rm 8 b<|.re b.toNat c<|.req (Ub.q (⟨gs,b,(0:Y),c⟩:MO))<|.rl f.out<|.req (Np.q (⟨cs,os,ks,gs,bs,l,d,t,od,e,FY l b t,j,(0:Y),f.out⟩:MS))<|.rz a.alive<|.ok<|.tup [.xl A7<|E5 cs os ks gs bs g e od,KX cs os ks gs bs g e od]):=AO
def an3:=vm (S:=aBT) func122 Nv pI (L:=(λi=>if i=9 then Np.lp else noLoops i)) (λb hb=>by
 rw [show loopsIn _=[yF] by kernel_rfl] at hb
 simp only [Au,BX,BV] at hb;subst hb;exact aia) (λargs lv h=>by
 refine ⟨?_⟩;unfold aBT at h;split at h
 ·split at h
  case h_2=>cases h
  rename_i heq0;simp only [canL,canX];rw [DB (n:=9) heq0];simp only [canL,canX];rw [ajy];rename_i cs os ks gs bs l d t od;obtain ⟨⟨hd,hk,hv,hk2⟩,rfl⟩:=h
  have gl:=(Ci.1 (J1.1 hk).1).1.2.2.2.2.1
  have ea:FY l (M gs:Y) t=FL (M gs) l t:=by unfold FY;rw [AB hv,BW]
  rw [aby hk,show Hs l (M gs:Y) t=0 by unfold Hs;rw [AB hv]]
  refine ⟨⟨A0,hd⟩,λc=>absurd c AS,λ_=>⟨λc=>absurd c AS,λ_=>?_⟩⟩
  have hE:Zs ⟨gs,(M gs:Y),0,aq (M gs:Y).toNat 0⟩:=⟨rfl,rfl,AR,AG,λj _ _=>IF,ak⟩
  obtain ⟨_,_,q1,q2⟩:=ala _ hE
  have q2:(Wb ⟨gs,(M gs:Y),0,aq (M gs:Y).toNat 0⟩).out=BT gs:=q2
  have hE2:Zq ⟨cs,os,ks,gs,bs,l,d,t,od,E5 cs os ks gs bs (BT gs) (H8 gs d) od,FY l (M gs:Y) t,(M (FY l (M gs:Y) t):Y),0,(Wb ⟨gs,(M gs:Y),0,aq (M gs:Y).toNat 0⟩).out⟩:=⟨rfl,rfl,by simp only;rw [ea,Wt];omega,by simp only;rw [q2,ea,Wt];exact HY,λj j0 j1=>by
   simp only at j1|-;rw [ea,Wt] at j1;rw [q2];exact MH j0 j1,ak⟩
  obtain ⟨_,_,q3,q4⟩:=alY _ hE2
  have q4:(vt ⟨cs,os,ks,gs,bs,l,d,t,od,E5 cs os ks gs bs (BT gs) (H8 gs d) od,FY l (M gs:Y) t,(M (FY l (M gs:Y) t):Y),0,(Wb ⟨gs,(M gs:Y),0,aq (M gs:Y).toNat 0⟩).out⟩).alive=Cr gs l t:=q4.trans (by
   show Fb (M<|FY l (M gs:Y) t) (λj=>mx (C7<|AF gs j)<|gi (FY l (M gs:Y) t) j)=_
   rw [ea,Wt];rfl)
  refine ⟨A0,⟨rfl,AG⟩,⟨hE,rfl,rfl⟩,A9,⟨hE2,rfl,rfl⟩,A0,?_⟩
  show LV.tup [LV.xl _ _,_]=_
  rw [C0,DA,q4,aby hk2];rfl
 ·cases h)
def pA:Array Tmp×Code×Code:=((rangesIn<|f124.body.getD .skip)[0]?).getD (#[],.skip,.skip)
def avP:aKN:=pA.1
def aws:bC:=pA.2.1
def awk:bC:=pA.2.2
structure K8 where
 i:Y
 cs:aJ
 os:aF
 ks:aP
 gs:aG
 bs:aQ
 l:aL
 d:aZ
 t:Y
 od:aB
 (c a:Y)
 r:aM
 m:aL
 st:LS
def oU (s:K8):T (Rd K8):=
 .br (an<|s.i>=0) (.ix s.i (M s.m)<|.br ((AU s.m s.i).2.1==s.c) (.so (.ret) {s with r:=(((AU s.m s.i).2.2.1 !=s.a) ||(an<|(AU s.m s.i).2.2.2.1<=(AA<|s.t-6))),st:=.done<|.ret})<|.nx {s with i:=AA<|s.i-1}) (.so (.exit 0) s)
def Zr (s:K8):Prop:=s.st=.ready/\s.i=(M s.m:Y)-1/\(M s.m:Y)<=1000/\0<=s.t/\s.t<=1000000
def ZY (s:K8):Prop:=s.st=.ready/\(-1<=s.i/\s.i<(M s.m:Y))/\(M s.m:Y)<=1000/\0<=s.t/\s.t<=1000000
def m9 (s:K8):aC:=(s.i+1).toNat
def adw (x:Ex) (s s':K8):Prop:=True
def az8:∀s,Zr s->ZY s:=by
 rintro s ⟨h0,h1,h2⟩
 exact ⟨h0,A0,h2⟩
def atu:Da ZY m9 adw oU:=by
 intro s hI;obtain ⟨hs,⟨h0,h1⟩,h2⟩:=hI;refine allR_ite (λc1=>allR_ite (λc2=>trivial) λc2=>?_) λc1=>trivial
 have c1:0<=s.i:=A8
 rw [AH (x:=s.i-1)];exact ⟨⟨hs,⟨A8,A8⟩,h2⟩,by simp only [m9];omega⟩
def Ua:LpD K8:=⟨6,19,[0,1,3],[],λs=>[.yld 5,.own 4 0,s.i],λs=>[⟨[xQ 9 [s.cs,s.os,s.ks,s.gs,s.bs,s.l,s.d,s.t,.xl A7 s.od]],237,.cl,X⟩,⟨[s.c],3,.cl,X⟩,⟨[s.a],3,.cl,X⟩,⟨[s.r],4,.cl,X⟩,⟨[s.m],34,.cl,X⟩,⟨[.junk,.junk,.junk,.own 0 0,.own 1 0,.own 2 0,.own 3 0,.junk,.v<|.tuple #[],.junk,.junk,.junk,.junk,.junk,.junk,.junk,.junk,.junk,.junk,.junk,.junk,.junk,.junk,.junk,.junk,.junk,.v<|.tuple #[],.v<|.tuple #[],.v<|.tuple #[],.v<|.tuple #[],.v<|.tuple #[],.v<|.tuple #[],.v<|.tuple #[],.v<|.tuple #[],.v<|.tuple #[],.v<|.tuple #[],.v<|.tuple #[],.v<|.tuple #[],.v<|.tuple #[],.v<|.tuple #[],.v<|.tuple #[],.v<|.tuple #[],.v<|.tuple #[],.v<|.tuple #[],.v<|.tuple #[]],0,.lrec avP aws awk s.st,X⟩],λv b=>⟨AJ v 2,gXl AX<|gXq (gCe (gBk b 0) 0) 0,gXl .str<|gXq (gCe (gBk b 0) 0) 1,gXl Ad<|gXq (gCe (gBk b 0) 0) 2,gXl AZ<|gXq (gCe (gBk b 0) 0) 3,gXl Ae<|gXq (gCe (gBk b 0) 0) 4,gXl AK<|gXq (gCe (gBk b 0) 0) 5,gXl Ac<|gXq (gCe (gBk b 0) 0) 6,gI<|gXq (gCe (gBk b 0) 0) 7,gXl A7<|gXq (gCe (gBk b 0) 0) 8,Af b 1 0,Af b 2 0,Ik b 3 0,AE AK b 4 0,.ready⟩,oU,λs r=> {r with cs:=s.cs,os:=s.os,ks:=s.ks,gs:=s.gs,bs:=s.bs,l:=s.l,d:=s.d,t:=s.t,od:=s.od,c:=s.c,a:=s.a,m:=s.m},λs=> {s with st:=.ready},λx s=> {s with st:=(match x with| .ret=>(.done<|.ret) | .exit 0=> .ready|_=> .ready)},[.ret,.exit 0],Zr,ZY,m9⟩
abbrev zh:=Ua.run
abbrev aA4:=Ua.exn
def PG:aN:=[]
def axv:Ap:=kI PG<|l0 PG
def aoh:Rq ZY oU:=by
 intro s hI;refine ⟨λc1=>⟨?_,λ_=>trivial,λ_=>trivial⟩,λ_=>trivial⟩
 ·(obtain ⟨hs,⟨h0,h1⟩,h2⟩:=hI;simp only [AT] at c1;omega)
def aE0:Ua.Ok:={}
def aCx:Ua.Pf (adw):=⟨az8,λs h=>by
 obtain ⟨i,cs,os,ks,gs,bs,l,d,t,od,c,a,r,m,st⟩:=s
 have e:=h.1
 subst e;rfl,atu,aoh⟩
def aib:=s2 (b:=bN f208 0) aE0 aCx PG axv
def alZ:Rs Zr aA4 zh (λs:K8=>nwO s.a s.t<|(s.m.take (s.i+1).toNat).reverse.find? λx=>x.2.1==s.c) (λx s' (v:aM)=>(x=.ret/\s'.r=v)\/(x=.exit 0/\v=U)):=Cq aE0 aCx (λs hI=>by
  obtain ⟨hs,⟨h0,h1⟩,h2⟩:=hI;refine allR_ite (λc1=>?_) λc1=>?_
  ·have c1:0<=s.i:=A8
   have e:=(Rg c1 (show s.i<(M s.m:Y) by omega)).2
   refine allR_ite (λc2=> .inl ⟨rfl,?_⟩) λc2=>?_
   ·rw [e,List.reverse_append]
    show _=nwO s.a s.t (List.find? _ (AU s.m s.i::_))
    rw [List.find?_cons_of_pos<|by exact c2]
    simp only [nwO];rw [AH (x:=s.t-6)]
   ·show nwO _ _ _=nwO _ _ _
    rw [AH (x:=s.i-1),e,List.reverse_append]
    show _=nwO s.a s.t (List.find? _ (AU s.m s.i::_))
    rw [List.find?_cons_of_neg A8,show (s.i-1+1).toNat=s.i.toNat by omega]
    rfl
  ·have c1:s.i<0:=A8
   refine .inr ⟨rfl,?_⟩;rw [show (s.i+1).toNat=0 by omega]
   rfl)
def aBU:aD->T LV
 | [.xq 9 q0,.v (ag J i),.v (ag J a)]=>(match ([q0 0,q0 1,q0 2,q0 3,q0 4,q0 5,q0 6,q0 7,q0 8]:aD) with
  | [.xl (.pair .str (.pair (.int J) (.pair (.int J) (.pair (.int J) (.pair (.pair (.int J) (.int J)) (.pair (.int J) (.pair (.int J) (.pair (.int J) (.pair (.int J) (.int J)))))))))) cs,.xl (.str) os,.xl (.pair .str (.pair (.int J) (.pair (.int J) (.int J)))) ks,.xl (.pair .str (.pair (.int J) (.pair (.int J) (.pair (.int J) (.pair (.int J) (.pair (.int J) (.pair (.int J) (.int J)))))))) gs,.xl (.pair .str (.int J)) bs,.xl (.pair (.int J) (.pair (.int J) (.pair (.int J) (.pair (.int J) (.int J))))) l,.xl (.pair .bool (.pair (.int J) (.pair (.int J) (.int J)))) d,.v (ag J t),.xl (.int J) od]=> .req ((0<=i/\i<(M gs:Y))/\(M l:Y)<=1000/\0<=t/\t<=1000000) (.ok<|JW gs l t i a)
  |_=> .no)
 |_=> .no
def aci:Ap:=kI PG<|la 1 func208 aib<|l0 PG
def ajz (cs:aJ) (os:aF) (ks:aP) (gs:aG) (bs:aQ) (l:aL) (d:aZ) (t:Y) (od:aB) (i a:Y):letI b:=(AA<|(M l:Y)-1);BO prog AM PG aci noLoops f124 [xQ 9 [cs,os,ks,gs,bs,l,d,t,.xl A7 od],i,a]=.ix i (M gs) (.br (an<|a<=(AF gs i).2.2.2.2.2.2.1) (.ok X)<|.req (Ua.q (⟨b,cs,os,ks,gs,bs,l,d,t,od,i,a,X,l,.ready⟩:K8))<|.br (isEx (aA4 (⟨b,cs,os,ks,gs,bs,l,d,t,od,i,a,X,l,.ready⟩:K8))<|.ret) (.ok (zh (⟨b,cs,os,ks,gs,bs,l,d,t,od,i,a,X,l,.ready⟩:K8)).r)<|.ok U):=AO
def an4:=vo (S:=aBU) func124 PG aci (λargs lv h=>by
 refine ⟨?_⟩;unfold aBU at h;split at h
 ·split at h
  case h_2=>cases h
  rename_i heq0;simp only [canL,canX];rw [DB (n:=9) heq0];simp only [canL,canX];rw [ajz];rename_i i a _ cs os ks gs bs l d t od;obtain ⟨⟨hi,hl,ht⟩,rfl⟩:=h;refine ⟨hi,λc=>An (λz=>LV.v<|.bool z) ?_,λc=>?_⟩
  ·have c:a<=C7 (AF gs i):=CW c
   unfold JW;rw [CB c];rfl
  have c:¬a<=C7 (AF gs i):=I0 c
  have hE:Zr ⟨AA<|(M l:Y)-1,cs,os,ks,gs,bs,l,d,t,od,i,a,X,l,.ready⟩:=⟨rfl,by show AA ((M l:Y)-1)=_;rw [AH],hl,ht⟩
  have ev:JW gs l t i a=nwO a t ((l.take (AA ((M l:Y)-1)+1).toNat).reverse.find? λx=>x.2.1==i):=by
   unfold JW;rw [GU c,AH (x:=(M l:Y)-1),show ((M l:Y)-1+1).toNat=M l by omega,DA]
   rfl
  refine ⟨⟨hE,rfl,rfl⟩,?_⟩;rcases alZ _ hE with ⟨q1,q2⟩ |⟨q1,q2⟩<;>rw [q1]
  ·exact ⟨λ_=>An (λz=>LV.v<|.bool z)<|q2.trans ev.symm,λh=>Ai⟩
  ·exact ⟨λh=>Ai,λ_=>An (λz=>LV.v<|.bool z)<|q2.symm.trans ev.symm⟩
 ·cases h)
def yW:aD->T LV
 | [.v (ag J x)]=> .ok X
 |_=> .no
def TF:aN:=[]
def ahU:=vo (S:=yW) func197 TF kN (λargs lv h=>by
 unfold yW at h;split at h
 ·rename_i x
  refine Al (.ok<|.v<|.bool<|x !=x) ?_;obtain rfl:=h;exact An (λz=>LV.v<|.bool z) AG
 ·cases h)
def aBb:aD->T LV
 | [.v (ag J x),.v (ag J y)]=> .ok (cm x y)
 |_=> .no
def axm:aN:=[ahU]
def anB:=vo (S:=aBb) func167 axm kN (λargs lv h=>by
 unfold aBb at h;split at h
 ·rename_i x y
  refine Al (.br X (.br X (.ok (0:Y))<|.ok<|.v<|ag J (-1))<|.br X (.ok (1:Y))<|.br (an<|x<y) (.ok<|.v<|ag J (-1))<|.br (an<|x>y) (.ok (1:Y))<|.ok (0:Y)) ?_;obtain rfl:=h;unfold cm;refine ⟨λh=>Ai,λ_=>⟨λh=>Ai,λ_=>⟨λc=>?_,λc=>⟨λc2=>?_,λc2=>?_⟩⟩⟩⟩<;>refine An (λz=>LV.v<|ag J z) ?_
  ·grind
  ·grind
  ·grind
 ·cases h)
structure K9 where
 (r z:Y)
 l:aB
 (n i:Y)
def yI:=bN f166 0
def oe (s:K9):T (Rd K9):=
 .br (an<|s.i<s.n) (.ix s.i (M s.l)<|.br ((gi s.l s.i) !=s.z) (.so (.ret) {s with r:=gi s.l s.i})<|.nx {s with i:=AA<|s.i+1}) (.so (.exit 0) s)
def Zw (s:K9):Prop:=s.i=0/\s.n=(M s.l:Y)/\s.n<=1000/\s.z=0
def ZZ (s:K9):Prop:=(0<=s.i/\s.i<=s.n)/\s.n=(M s.l:Y)/\s.n<=1000/\s.z=0
def mE (s:K9):aC:=(s.n-s.i).toNat
def adx (x:Ex) (s s':K9):Prop:=True
def azG:∀s,Zw s->ZZ s:=by
 exact aIU
def atP:Da ZZ mE adx oe:=by
 intro s hI;obtain ⟨⟨h0,h1⟩,h2,h3,h4⟩:=hI;refine allR_ite (λc1=>?_) λc1=>?_
 ·refine allR_ite (λc2=>?_) (λc2=>?_)
  ·exact ak
  ·have c1:s.i<s.n:=A8
   rw [AH (x:=s.i+1)];exact ⟨⟨⟨A8,A8⟩,h2,h3,h4⟩,by simp only [mE];omega⟩
 ·exact ak
def PY:LpD K9:=⟨0,18,[2,3,6,7,8],[],λs=>[s.r,s.z,.xl A7 s.l,s.n,s.i],λ_=>[],λv b=>⟨AJ v 0,AJ v 1,As A7 v 2,AJ v 3,AJ v 4⟩,oe,λs r=> {s with r:=r.r,i:=r.i},λs=>s,λ_ s=>s,[.ret,.exit 0],Zw,ZZ,mE⟩
abbrev zj:=PY.run
abbrev aB4:=PY.exn
def aqM:Rq ZZ oe:=by
 intro s hI;refine ⟨λc1=>⟨?_,λ_=>trivial,λ_=>trivial⟩,λ_=>trivial⟩
 ·(obtain ⟨⟨h0,h1⟩,h2,h3⟩:=hI;simp only [AT] at c1;omega)
def aE5:PY.Ok:={}
def aD2:PY.Pf (adx):=⟨azG,λs h=>rfl,atP,aqM⟩
def aif:SA 0 yI PY:=s1 aE5 aD2 TF kN
def alp:Rs Zw aB4 zj (λs:K9=>orI<|s.l.drop s.i.toNat) (λx s' (v:Y)=>(x=.ret/\s'.r=v)\/(x=.exit 0/\s'.z=v)):=Cq aE5 aD2 (λs hI=>by
  obtain ⟨⟨h0,h1⟩,h2,h3,h4⟩:=hI;refine allR_ite (λc1=>?_) λc1=>?_
  ·have c1:s.i<s.n:=A8
   have e:=(gi_step h0 (show s.i<(M s.l:Y) by omega)).1
   rw [AH (x:=s.i+1)];refine allR_ite (λc2=>?_) λc2=>?_
   ·refine .inl ⟨rfl,?_⟩
    rw [e,orI,AB A8]
   ·show orI _=orI _
    rw [e,orI,AD A8]
  ·have c1:s.n<=s.i:=A8
   refine .inr ⟨rfl,?_⟩;rw [Dj A0,h4];rfl)
def aBd:aD->T LV
 | [.xl (.int J) l]=> .req ((M l:Y)<=1000) (.ok<|orI l)
 |_=> .no
def anC:=vm (S:=aBd) func166 TF kN (L:=(λi=>if i=3 then PY.lp else noLoops i)) (λb hb=>by
 rw [show loopsIn _=[yI] by kernel_rfl] at hb
 simp only [Au,BX,BV] at hb;subst hb;exact aif) (λargs lv h=>by
 unfold aBd at h;split at h
 ·rename_i l
  refine Al (letI a:=(M l:Y);.req (PY.q (⟨0,0,l,a,0⟩:K9))<|.br (isEx (aB4 (⟨0,0,l,a,0⟩:K9))<|.ret) (.ok (zj (⟨0,0,l,a,0⟩:K9)).r)<|.ok (0:Y)) ?_;obtain ⟨hl,rfl⟩:=h
  have hE:Zw ⟨0,0,l,(M l:Y),0⟩:=⟨rfl,rfl,hl,rfl⟩
  refine ⟨⟨hE,rfl,rfl⟩,?_⟩;rcases alp _ hE with ⟨q1,q2⟩ |⟨q1,q2⟩<;>rw [q1]
  ·exact ⟨λ_=>An (λz=>LV.v<|ag J z) q2,λh=>Ai⟩
  ·exact ⟨λh=>Ai,λ_=>An (λz=>LV.v<|ag J z) q2⟩
 ·cases h)
def aAo:aD->T LV
 | [.v (ag J i),.xq 1 q0,.xq 1 q1]=>(match ([q0 0]:aD) with
  | [.xl (.pair .bool (.pair (.int J) (.pair (.int J) (.int J)))) d]=>(match ([q1 0]:aD) with
  | [.v (ag J t)]=> .req (Gg d t/\0<=i/\i<(M d:Y)) (.ok<|slk d t i)
  |_=> .no)
  |_=> .no)
 |_=> .no
def ajr (i:Y) (d:aZ) (t:Y):BO prog AM (TF) kN noLoops f163 [i,xQ 1 [d],xQ 1 [t]]=.ix i (M d) (.ix i (M d)<|.ok<|AA<|(AA<|(DC d i).2.2.1-t)-(DC d i).2.1):=AO
def jc:=vo (S:=aAo) func163 TF kN (λargs lv h=>by
 refine ⟨?_⟩;unfold aAo at h;split at h
 ·split at h
  case h_2=>cases h
  rename_i heq0;split at h
  case h_2=>cases h
  rename_i heq1;simp only [canL,canX];rw [DB (n:=1) heq0];rw [DB (n:=1) heq1];simp only [canL,canX];rw [ajr];rename_i i _ _ _ d _ t;obtain ⟨⟨hw,hi⟩,rfl⟩:=h
  have b:=amh hw hi.1 hi.2
  have ht:=hw.2
  refine ⟨hi,hi,An (λz=>LV.v<|ag J z) ?_⟩
  unfold slk;rw [AH (x:=(DC d i).2.2.1-t),AH]
 ·cases h)
def aGk:aD->T LV
 | [.v (ag J a),.v (ag J b),.xq 1 q0,.xq 1 q1]=>(match ([q0 0]:aD) with
  | [.xl (.pair .bool (.pair (.int J) (.pair (.int J) (.int J)))) d]=>(match ([q1 0]:aD) with
  | [.fn 163 [.xq 1 q2,.xq 1 q3]]=>(match ([q2 0]:aD) with
  | [.xl (.pair .bool (.pair (.int J) (.pair (.int J) (.int J)))) e]=>(match ([q3 0]:aD) with
  | [.v (ag J t)]=> .req (d=e/\Gg d t/\(0<=a/\a<(M d:Y))/\0<=b/\b<(M d:Y)) (.ok<|cmD d t a b)
  |_=> .no)
  |_=> .no)
  |_=> .no)
  |_=> .no)
 |_=> .no
def ad6:aN:=[jc,anC,anB]
def arO (a b:Y) (d e:aZ) (t:Y):letI c:=cm (DC d a).2.2.2 (DC d b).2.2.2;letI f:=cm (slk e t a)<|slk e t b;BO prog AM (ad6) kN noLoops f165 [a,b,xQ 1 [d],xQ 1 [.fn 163 [xQ 1 [e],xQ 1 [t]]]]=.ix a (M d) (.ix b (M d)<|.req (Gg e t/\0<=a/\a<(M e:Y))<|.req (Gg e t/\0<=b/\b<(M e:Y))<|.req ((M ([c,f,cm a b]):Y)<=1000)<|.ok<|orI<|[c,f,cm a b]):=AO
def abm:=vo (S:=aGk) func165 ad6 kN (λargs lv h=>by
 refine ⟨?_⟩;unfold aGk at h;split at h
 ·split at h
  case h_2=>cases h
  rename_i heq0;split at h
  case h_2=>cases h
  rename_i heq1;split at h
  case h_2=>cases h
  rename_i heq2;split at h
  case h_2=>cases h
  rename_i heq3;simp only [canL,canX];rw [DB (n:=1) heq0];rw [DB (n:=1) heq1];simp only [canL,canX];rw [DB (n:=1) heq2];rw [DB (n:=1) heq3];simp only [canL,canX];rw [arO];rename_i a b _ d _ _ _ _ e _ t;obtain ⟨⟨rfl,hw,ha,hb⟩,rfl⟩:=h;exact ⟨ha,hb,⟨hw,ha⟩,⟨hw,hb⟩,AG,rfl⟩
 ·cases h)
structure Ml where
 (n i:Y)
 d:aZ
 tick:Y
 out:aB
def xa:=bN f120 0
def nN (s:Ml):T (Rd Ml):=letI a:=s.out.set s.i.toNat s.i;.br (an<|s.i<s.n) (.ik s.i (M s.out)<|.re (M s.out) a<|.nx {s with i:=AA<|s.i+1,out:=a})<|.rl s.out<|.so (.exit 0) s
def bQ (s:Ml):Prop:=s.i=0/\s.out=aq (M s.d) 0/\s.n=(M s.d:Y)/\s.n<=1000/\M s.out=M s.d
def Tf (s:Ml):Prop:=(0<=s.i/\s.i<=s.n)/\s.out=EO s.i.toNat++aq (M s.d-s.i.toNat) 0/\s.n=(M s.d:Y)/\s.n<=1000/\M s.out=M s.d
def kG (s:Ml):aC:=(s.n-s.i).toNat
def qZ (x:Ex) (s s':Ml):Prop:=x=.exit 0/\s'.out=EO (M s'.d)
def awK:∀s,bQ s->Tf s:=by
 exact aIq
def aq0:Da Tf kG qZ nN:=by
 intro s hI;obtain ⟨⟨h0,h1⟩,h2,h3,h4,h5⟩:=hI;refine allR_ite (λc1=>?_) λc1=>?_
 ·have c1:s.i<s.n:=AQ
  rw [AH (x:=s.i+1)]
  have e:M s.d-s.i.toNat=(M s.d-(s.i+1).toNat)+1:=A0
  refine ⟨⟨⟨A8,A8⟩,?_,h3,h4,A8⟩,by simp only [kG];omega⟩
  simp only
  have hs:=zW (xs:=EO s.i.toNat) (r:=M s.d-(s.i+1).toNat) (v:=s.i)
  rw [MK] at hs;rw [h2,e,hs,show (s.i+1).toNat=s.i.toNat+1 by omega,af7,C2 h0]
 ·have c1:s.n<=s.i:=AQ
  refine ⟨rfl,?_⟩;rw [h2,show s.i.toNat=M s.d by omega]
  simp
def Ph:LpD Ml:=⟨0,26,[2,3,5,12,13],[],λs=>[.own 0 0,.own 1 0,.os 2 1 0<|M s.out,s.n,s.i],λs=>[⟨[s.d],45,.cl,X⟩,⟨[s.tick],3,.cl,X⟩,bV 3 A7 s.out],λv b=>⟨AJ v 3,AJ v 4,AE Ac b 0 0,Af b 1 0,AV A7 b 2⟩,nN,λs r=> {s with i:=r.i,out:=r.out},λs=>s,λ_ s=>s,[.exit 0],bQ,Tf,kG⟩
abbrev Jl:=Ph.run
abbrev akg:=Ph.exn
def ape:Rq Tf nN:=by
 intro s hI;refine ⟨λc1=>⟨?_,?_,?_,ak⟩,λc1=>⟨A9,ak⟩⟩
 all_goals ((obtain ⟨⟨h0,h1⟩,h2,h3,h4,h5⟩:=hI;simp only [AT] at c1;first|omega|exact ⟨rfl,AG⟩))
def Md:aN:=[jc,abm]
def Yo:Ap:=kI Md<|l0 Md
def aEH:Ph.Ok:={}
def aCL:Ph.Pf (qZ):=⟨awK,λs h=>rfl,aq0,ape⟩
def ahg:SA 0 xa Ph:=s1 aEH aCL Md Yo
def akG:Fi bQ Tf qZ akg Jl:=LpD.fin aEH aCL
structure L5 where
 (a b i j:Y)
 b0:aZ
 b1:Y
 data:aB
def yu:=lN (bN f221 0) 0
def nI (s:L5):T (Rd L5):=letI c:=s.data.getD s.j.toNat<|Ty.dflt A7;letI d:=AA<|s.j-1;letI e:=M s.data;letI b:=s.data.getD d.toNat<|Ty.dflt A7;letI f:=s.data.set s.j.toNat b;.br (an<|s.j>s.a) (.ik s.j e<|.ik d e<|.req (s.b0=s.b0/\Gg s.b0 s.b1/\(0<=c/\c<(M s.b0:Y))/\0<=b/\b<(M s.b0:Y))<|.br (an<|(cmD s.b0 s.b1 c b)<0) (.ix d e<|.ix s.j e<|.req (d.toNat<M s.data)<|.req (s.j.toNat<M s.data)<|.ik s.j e<|.ix d e<|.req (d.toNat<M f)<|.re e (f.set d.toNat c)<|.nx {s with j:=d,data:=f.set d.toNat c})<|.rl s.data<|.so (.exit 2) s)<|.rl s.data<|.so (.exit 2) s
def cF (s:L5):Prop:=s.a=0/\(0<=s.j/\s.j<(M s.data:Y))/\(M s.data=M s.b0/\(M s.data:Y)<=1000)/\(∀x∈s.data,0<=x/\x<(M s.b0:Y))/\Gg s.b0 s.b1
def ZU (s:L5):Prop:=s.a=0/\(0<=s.j/\s.j<(M s.data:Y))/\(M s.data=M s.b0/\(M s.data:Y)<=1000)/\(∀x∈s.data,0<=x/\x<(M s.b0:Y))/\Gg s.b0 s.b1
def jm (s:L5):aC:=s.j.toNat
def adq (x:Ex) (s s':L5):Prop:=x=.exit 2
def axs:∀s,cF s->ZU s:=by
 exact λs h=>h
def aql:Da ZU jm adq nI:=by
 intro s hI;obtain ⟨h0,⟨h1,h2⟩,⟨h3,h3'⟩,h4,h5⟩:=hI;refine allR_ite (λc1=>?_) λc1=>rfl
 have c1:s.a<s.j:=AQ
 rw [AH (x:=s.j-1)];refine allR_ite (λc2=>?_) λc2=>rfl
 have g0:=λ(k:aC) (hk:k<M s.data)=>h4 (s.data.getD k 0) Ed
 have hm:∀x∈(s.data.set s.j.toNat<|s.data.getD (s.j-1).toNat 0).set (s.j-1).toNat (s.data.getD s.j.toNat 0),0<=x/\x<(M s.b0:Y):=λx hx=>by
  rcases Lx hx with hx|e
  ·rcases Lx hx with hx|e
   ·exact h4 x hx
   ·rw [e];exact g0 _ A0
  ·grind
 exact ⟨⟨h0,⟨AR,A8⟩,⟨A8,A8⟩,hm,h5⟩,by simp only [jm];omega⟩
def Q1:LpD L5:=⟨4,53,[0,1,2,3,8,9],[],λs=>[.os 2 1 0<|M s.data,s.a,s.b,.fn 165 [.own 0 0,.own 3 0],s.i,s.j],λs=>[⟨[s.b0],45,.cl,X⟩,⟨[s.b1],3,.cl,X⟩,bV 3 A7 s.data,⟨[.fn 163 [.own 0 0,.own 1 0]],248,.cl,X⟩],λv b=>⟨AJ v 1,AJ v 2,AJ v 4,AJ v 5,AE Ac b 0 0,Af b 1 0,AV A7 b 2⟩,nI,λs r=> {s with j:=r.j,data:=r.data},λs=>s,λ_ s=>s,[.exit 2],cF,ZU,jm⟩
abbrev wS:=Q1.run
abbrev akw:=Q1.exn
def ap4:Rq ZU nI:=by
 intro s hI;refine ⟨λc1=>⟨?_,?_,?_,?_,?_,λc2=>⟨?_,?_,?_,?_,?_,?_,?_,?_,?_,ak⟩,λc2=>⟨A9,ak⟩⟩,λc1=>⟨A9,ak⟩⟩
 all_goals ((obtain ⟨h0,⟨h1,h2⟩,⟨h3,h3'⟩,h4,h5⟩:=hI;simp only [AT,gt_iff_lt] at c1;(try rw [AH (x:=s.j-1)]);have g0:∀k:aC,k<M s.data->0<=s.data.getD k (Ty.dflt A7)/\s.data.getD k (Ty.dflt A7)<(M s.b0:Y):=(λk hk=>h4 _ Ed);first|omega|exact ⟨rfl,h5,g0 _ A0,g0 _ A0⟩ |(simp only [Bf];omega) |exact ⟨rfl,AG⟩))
def aDn:Q1.Ok:={}
def aDU:Q1.Pf (adq):=⟨axs,λs h=>rfl,aql,ap4⟩
def ajP:SA 4 yu Q1:=s2 aDn aDU Md Yo
def aAU:Rs cF akw wS (λs:L5=>Il (ltD s.b0 s.b1) s.j.toNat s.data) (λx s' (v:aB)=>x=.exit 2/\s'.data=v):=Cq aDn aDU (λs hI=>by
  obtain ⟨h0,⟨h1,h2⟩,⟨h3,h3'⟩,h4,h5⟩:=hI;refine allR_ite (λc1=>?_) λc1=>?_
  ·have c1:s.a<s.j:=A8
   rw [AH (x:=s.j-1)]
   have e:s.j.toNat=(s.j-1).toNat+1:=A0
   refine allR_ite (λc2=>?_) λc2=>?_
   ·show Il _ _ _=Il _ _ _
    rw [e,Il,AB (by unfold ltD;rw [e] at c2;exact c2)]
    rfl
   ·refine ⟨rfl,?_⟩
    rw [e] at c2;rw [e,Il,AD λhh=>absurd ((show U=_ from hh.symm).trans c2) AS]
  ·have c1:s.j<=s.a:=A8
   refine ⟨rfl,?_⟩;rw [show s.j.toNat=0 by omega]
   rfl)
structure IJ where
 (a b i:Y)
 b0:aZ
 b1:Y
 data:aB
def yv:=bN f221 0
def nJ (s:IJ):T (Rd IJ):=letI c:=(wS (⟨s.a,s.b,s.i,s.i,s.b0,s.b1,s.data⟩:L5));.br (an<|s.i<s.b) (.rl s.data<|.req (Q1.q (⟨s.a,s.b,s.i,s.i,s.b0,s.b1,s.data⟩:L5))<|.rl c.data<|.nx {s with i:=AA<|s.i+1,data:=c.data})<|.rl s.data<|.so (.exit 0) s
def cG (s:IJ):Prop:=s.i=1/\(s.a=0/\s.b=(M s.data:Y))/\(M s.data=M s.b0/\(M s.data:Y)<=1000)/\(∀x∈s.data,0<=x/\x<(M s.b0:Y))/\Gg s.b0 s.b1
def TR (s:IJ):Prop:=1<=s.i/\(s.a=0/\s.b=(M s.data:Y))/\(M s.data=M s.b0/\(M s.data:Y)<=1000)/\(∀x∈s.data,0<=x/\x<(M s.b0:Y))/\Gg s.b0 s.b1
def jn (s:IJ):aC:=(s.b-s.i).toNat
def ads (x:Ex) (s s':IJ):Prop:=x=.exit 0
def axt:∀s,cG s->TR s:=by
 exact dT
def mK (s:IJ) (hI:TR s) (c1:s.i<s.b):cF ⟨s.a,s.b,s.i,s.i,s.b0,s.b1,s.data⟩:=by
 obtain ⟨h0,⟨h1,h2⟩,h3⟩:=hI;exact ⟨h1,⟨A8,A8⟩,h3⟩
def aqm:Da TR jn ads nJ:=by
 intro s hI
 have hin:=λc1=>mK s hI c1
 obtain ⟨h0,⟨h1,h2⟩,⟨h3,h3'⟩,h4,h5⟩:=hI;refine allR_ite (λc1=>?_) λc1=>rfl
 have c1:s.i<s.b:=A8
 obtain ⟨q1,q2⟩:=aAU _<|hin c1
 have hp:=agy (lt:=ltD s.b0 s.b1) (j:=s.i.toNat) (l:=s.data) A0
 rw [AH (x:=s.i+1),q2];exact ⟨⟨A8,⟨h1,by simp only [hp.length_eq];exact h2⟩,⟨by simp only [hp.length_eq];exact h3,by simp only [hp.length_eq];exact h3'⟩,λx hx=>h4 x<|hp.subset hx,h5⟩,by simp only [jn];omega⟩
def Q2:LpD IJ:=⟨4,53,[0,1,2,3,8],[],λs=>[.os 2 1 0<|M s.data,s.a,s.b,.fn 165 [.own 0 0,.own 3 0],s.i],λs=>[⟨[s.b0],45,.cl,X⟩,⟨[s.b1],3,.cl,X⟩,bV 3 A7 s.data,⟨[.fn 163 [.own 0 0,.own 1 0]],248,.cl,X⟩],λv b=>⟨AJ v 1,AJ v 2,AJ v 4,AE Ac b 0 0,Af b 1 0,AV A7 b 2⟩,nJ,λs r=> {s with i:=r.i,data:=r.data},λs=>s,λ_ s=>s,[.exit 0],cG,TR,jn⟩
abbrev RT:=Q2.run
abbrev akx:=Q2.exn
def ap5:Rq TR nJ:=by
 intro s hI;refine ⟨λc1=>⟨A9,?_,A9,ak⟩,λc1=>⟨A9,ak⟩⟩
 ·exact ⟨mK s hI A8,rfl,rfl⟩
def aDo:Q2.Ok:={}
def aDV:Q2.Pf (ads):=⟨axt,λs h=>rfl,aqm,ap5⟩
def iS:SA 4 yv Q2:=LpD.snd aDo aDV (code_soundA (Γ:=Md) (K:=Yo) (L:=(byId (λi=>if i=4 then Q1.lp else noLoops i))) (gk Md) Yo.h yv (λb hb=>by
 rw [show loopsIn _=[yu] by kernel_rfl] at hb
 simp only [Au,BX,BV] at hb;subst hb;exact ajP)) λs=>AO
def alD:Rs cG akx RT (λs:IJ=>K3 (ltD s.b0 s.b1) s.data s.i.toNat) (λx s' (v:aB)=>x=.exit 0/\s'.data=v):=Cq aDo aDV (λs hI=>by
  have hin:=λc1=>mK s hI c1
  obtain ⟨h0,⟨h1,h2⟩,⟨h3,h3'⟩,h4,h5⟩:=hI;refine allR_ite (λc1=>?_) λc1=>?_
  ·have c1:s.i<s.b:=A8
   obtain ⟨q1,q2⟩:=aAU _<|hin c1
   have q2:(wS ⟨s.a,s.b,s.i,s.i,s.b0,s.b1,s.data⟩).data=Il (ltD s.b0 s.b1) s.i.toNat s.data:=q2
   rw [AH (x:=s.i+1)]
   show K3 _ _ _=K3 _ _ _
   rw [q2,show (s.i+1).toNat=s.i.toNat+1 by omega,afS A0]
  ·have c1:s.b<=s.i:=A8
   exact ⟨rfl,(afo A0).symm⟩)
structure LH where
 (n Du a b:Y)
 b0:aZ
 b1:Y
 data:aB
def nr (s:LH):T (Rd LH):=letI c:=(RT (⟨s.a,s.b,AA<|s.a+1,s.b0,s.b1,s.data⟩:IJ));.br (an<|s.b<=s.n) (.rl s.data<|.req (Q2.q (⟨s.a,s.b,AA<|s.a+1,s.b0,s.b1,s.data⟩:IJ))<|.re (M s.data) c.data<|.nx {s with a:=s.b,b:=AA<|s.b+s.Du,data:=c.data})<|.rl s.data<|.so (.exit 0) s
def Z8 (s:LH):Prop:=s.b=20/\s.n<20
def UE (s:LH):Prop:=s.b=20/\s.n<20
def aEp (s:LH):aC:=0
def ada (x:Ex) (s s':LH):Prop:=x=.exit 0
def aw2:∀s,Z8 s->UE s:=by
 exact λs h=>h
def an1:Da UE aEp ada nr:=by
 intro s hI;obtain ⟨h0,h1⟩:=hI;refine allR_ite (λc1=>absurd (show s.b<=s.n by grind) A0) λc1=>rfl
def UR:LpD LH:=⟨4,63,[0,1,2,6,7,8],[],λs=>[.os 2 1 0<|M s.data,s.n,.fn 165 [.own 0 0,.own 3 0],s.Du,s.a,s.b],λs=>[⟨[s.b0],45,.cl,X⟩,⟨[s.b1],3,.cl,X⟩,bV 3 A7 s.data,⟨[.fn 163 [.own 0 0,.own 1 0]],248,.cl,X⟩],λv b=>⟨AJ v 1,AJ v 3,AJ v 4,AJ v 5,AE Ac b 0 0,Af b 1 0,AV A7 b 2⟩,nr,λs r=> {s with a:=r.a,b:=r.b,data:=r.data},λs=>s,λ_ s=>s,[.exit 0],Z8,UE,aEp⟩
abbrev Gv:=UR.run
abbrev alK:=UR.exn
def ayB:Ap:=kI Md<|la 1 func221 iS<|l0 Md
def apG:Rq UE nr:=by
 intro s hI;refine ⟨λc1=>⟨A9,?_,?_,ak⟩,λc1=>⟨A9,ak⟩⟩
 all_goals ((simp only [AT] at c1;exact absurd c1 (by have:=hI;unfold UE at this;omega)))
def aCp:UR.Ok:={}
def aCY:UR.Pf (ada):=⟨aw2,λs h=>rfl,an1,apG⟩
def zn:=s2 (b:=bN f196 0) aCp aCY Md ayB
def aho:Rs Z8 alK Gv (λs:LH=>(s.data,s.a)) (λx s' (v:List Int×Int)=>x=.exit 0/\(s'.data,s'.a)=v):=Cq aCp aCY (λs hI=>by
  obtain ⟨h0,h1⟩:=hI;exact allR_ite (λc1=>absurd (show s.b<=s.n by grind) A0) λc1=>⟨rfl,rfl⟩)
def auW:aD->T LV:=λ_=> .req False<|.ok<|.v undef
def anV:VV 222 auW:=by
 intro _ _ _ _ _ _ _ _ _ h;exact h.1.elim
structure Mh where
 (n Du a b:Y)
 b0:aZ
 b1:Y
 data:aB
def xm:=lN (bN f196 1) 0
def np (s:Mh):T (Rd Mh):=
 .br (an<|s.b<=s.n) (.rz s.data<|.req False<|.rl s.data<|.nx {s with a:=s.b,b:=AA<|s.b+(AA<|2*s.Du)}) (.rl s.data<|.so (.exit 4) s)
def adC (s:Mh):Prop:=False
def ZL (s:Mh):Prop:=False
def aEn (s:Mh):aC:=0
def adY (x:Ex) (s s':Mh):Prop:=True
def aw0:∀s,adC s->ZL s:=by
 exact λs h=>h
def amz:Da ZL aEn adY np:=by
 intro s hI;exact hI.elim
def Q7:LpD Mh:=⟨4,63,[0,1,2,6,7,8],[],λs=>[.os 2 1 0<|M s.data,s.n,.fn 165 [.own 0 0,.own 3 0],s.Du,s.a,s.b],λs=>[⟨[s.b0],45,.cl,X⟩,⟨[s.b1],3,.cl,X⟩,bV 3 A7 s.data,⟨[.fn 163 [.own 0 0,.own 1 0]],248,.cl,X⟩],λv b=>⟨AJ v 1,AJ v 3,AJ v 4,AJ v 5,AE Ac b 0 0,Af b 1 0,AV A7 b 2⟩,np,λs r=> {s with a:=r.a,b:=r.b},λs=>s,λ_ s=>s,[.exit 4],adC,ZL,aEn⟩
abbrev aiy:=Q7.run
def Nw:aN:=[jc,abm,anV]
def pJ:Ap:=kI Nw<|la 2 func196 zn<|la 1 func221 iS<|l0 Nw
def ant:Rq ZL np:=by
 intro s hI;refine ⟨λc1=>⟨?_,?_,A9,ak⟩,λc1=>⟨A9,ak⟩⟩
 all_goals (exact hI.elim)
def apy:Q7.Ok:={}
def aqf:Q7.Pf (adY):=⟨aw0,λs h=>rfl,amz,ant⟩
def ai1:SA 4 xm Q7:=s2 apy aqf Nw pJ
structure Mj where
 (n Du:Y)
 b0:aZ
 b1:Y
 data:aB
def xn:=bN f196 1
def nq (s:Mj):T (Rd Mj):=
 .br (an<|s.Du<s.n) (.rl s.data<|.req (Q7.q (⟨s.n,s.Du,0,AA<|2*s.Du,s.b0,s.b1,s.data⟩:Mh))<|.br (an<|(AA<|(aiy (⟨s.n,s.Du,0,AA<|2*s.Du,s.b0,s.b1,s.data⟩:Mh)).a+s.Du)<s.n) (.rz s.data<|.req False<|.rl s.data<|.nx {s with Du:=AA<|s.Du*2})<|.rl s.data<|.nx {s with Du:=AA<|s.Du*2}) (.rl s.data<|.so (.exit 2) s)
def ug (s:Mj):Prop:=s.Du=20/\s.n<20
def UD (s:Mj):Prop:=s.Du=20/\s.n<20
def aEo (s:Mj):aC:=0
def adZ (x:Ex) (s s':Mj):Prop:=x=.exit 2
def aw1:∀s,ug s->UD s:=by
 exact λs h=>h
def an0:Da UD aEo adZ nq:=by
 intro s hI;obtain ⟨h0,h1⟩:=hI;refine allR_ite (λc1=>absurd (show s.Du<s.n by grind) A0) λc1=>rfl
def bI:LpD Mj:=⟨4,63,[0,1,2,6],[],λs=>[.os 2 1 0<|M s.data,s.n,.fn 165 [.own 0 0,.own 3 0],s.Du],λs=>[⟨[s.b0],45,.cl,X⟩,⟨[s.b1],3,.cl,X⟩,bV 3 A7 s.data,⟨[.fn 163 [.own 0 0,.own 1 0]],248,.cl,X⟩],λv b=>⟨AJ v 1,AJ v 3,AE Ac b 0 0,Af b 1 0,AV A7 b 2⟩,nq,λs r=> {s with Du:=r.Du},λs=>s,λ_ s=>s,[.exit 2],ug,UD,aEo⟩
def apC:Rq UD nq:=by
 intro s hI;refine ⟨λc1=>⟨A9,?_,λc2=>⟨?_,?_,A9,ak⟩,λc2=>⟨A9,ak⟩⟩,λc1=>⟨A9,ak⟩⟩
 all_goals ((simp only [AT] at c1;exact absurd c1 (by have:=hI;unfold UD at this;omega)))
def apz:bI.Ok:={}
def aqg:bI.Pf (adZ):=⟨aw1,λs h=>rfl,an0,apC⟩
def ai2:SA 4 xn bI:=LpD.snd apz aqg (code_soundA (Γ:=Nw) (K:=pJ) (L:=(byId (λi=>if i=9 then Q7.lp else noLoops i))) (gk Nw) pJ.h xn (λb hb=>by
 rw [show loopsIn _=[xm] by kernel_rfl] at hb
 simp only [Au,BX,BV] at hb;subst hb;exact ai1)) λs=>AO
def aAx:aD->T LV
 | [.xl (.pair .bool (.pair (.int J) (.pair (.int J) (.int J)))) d,.v (ag J t)]=> .req (Gg d t/\M d<=19) (.ok<|.xl A7<|Fa d t)
 |_=> .no
def J3 (d:aZ) (t:Y):Ml:=(⟨(((M d:Y).toNat:aC):Y),0,d,t,aq (M d:Y).toNat (0:Y)⟩:Ml)
def GZ (d:aZ) (t:Y):LH:=(⟨((M (Jl<|J3 d t).out:aC):Y),20,0,20,d,t,(Jl<|J3 d t).out⟩:LH)
def RY (d:aZ) (t:Y):IJ:=(⟨(Gv<|GZ d t).a,((M (Jl<|J3 d t).out:aC):Y),AA<|(Gv<|GZ d t).a+1,d,t,(Gv<|GZ d t).data⟩:IJ)
def xN (d:aZ) (t:Y):Mj:=(⟨((M (Jl<|J3 d t).out:aC):Y),20,d,t,(RT<|RY d t).data⟩:Mj)
def ayA:Ap:=kI Nw<|la 7 func196 ai2<|la 2 func196 zn<|la 1 func221 iS<|l0 Nw
def anX:=vm (S:=aAx) func120 Nw ayA (L:=(λi=>if i=3 then Ph.lp else noLoops i)) (λb hb=>by
 rw [show loopsIn _=[xa] by kernel_rfl] at hb
 simp only [Au,BX,BV] at hb;subst hb;exact ahg) (λargs lv h=>by
 unfold aAx at h;split at h
 ·rename_i d t
  refine Al (letI b:=M (Jl<|J3 d t).out;letI c:=(M d:Y);letI e:=RT<|RY d t;.rm 8 c<|.re c.toNat (aq c.toNat (0:Y))<|.req (Ph.q<|J3 d t)<|.rl (Jl<|J3 d t).out<|.req (UR.q<|GZ d t)<|.rl (Gv<|GZ d t).data<|.req (Q2.q<|RY d t)<|.re (M (Gv<|GZ d t).data) e.data<|.req (bI.q<|xN d t)<|.req (0+b<=M e.data)<|.ok<|.xl A7<|(e.data.drop 0).take b) ?_;obtain ⟨⟨hw,hd⟩,rfl⟩:=h
  have hE:bQ (J3 d t):=⟨rfl,Iy,by show (((M d:Y).toNat:aC):Y)=(M d:Y);omega,by show (((M d:Y).toNat:aC):Y)<=1000;omega,by show M (aq _ (0:Y))=M d;rw [Bc];omega⟩
  obtain ⟨_,_,_,q1⟩:=akG _ hE
  have q1:(Jl<|J3 d t).out=EO (M d):=q1
  have hl:M (Jl<|J3 d t).out=M d:=by rw [q1,MK]
  have hE2:Z8 (GZ d t):=⟨rfl,aJR⟩
  obtain ⟨_,q2⟩:=aho _ hE2
  have q2a:(Gv<|GZ d t).data=EO (M d):=(An Prod.fst q2).trans q1
  have q2b:(Gv<|GZ d t).a=0:=An Prod.snd q2
  have hE3:cG (RY d t):=⟨by show AA ((Gv<|GZ d t).a+1)=1;rw [q2b];rfl,⟨q2b,by show ((M (Jl<|J3 d t).out:aC):Y)=(M (Gv<|GZ d t).data:Y);rw [q2a,hl,MK]⟩,⟨by show M (Gv<|GZ d t).data=M d;rw [q2a,MK],by show (M (Gv<|GZ d t).data:Y)<=1000;rw [q2a,MK];omega⟩,λx hx=>xD.1 (by have hx:x∈(Gv<|GZ d t).data:=hx;rw [q2a] at hx;exact hx),hw⟩
  obtain ⟨_,q3⟩:=alD _ hE3
  have q3:(RT<|RY d t).data=Fa d t:=q3.trans (by
   show K3 (ltD d t) (Gv<|GZ d t).data (AA<|(Gv<|GZ d t).a+1).toNat=_
   rw [q2b,q2a];exact afn)
  have hl3:M (RT<|RY d t).data=M d:=by rw [q3,xu]
  have hE4:ug (xN d t):=⟨rfl,aJR⟩
  refine ⟨⟨A0,A0,A0,A0⟩,⟨rfl,AG⟩,⟨hE,rfl,rfl⟩,A9,⟨hE2,rfl,rfl⟩,A9,⟨hE3,rfl,rfl⟩,⟨rfl,by rw [q2a,MK,hl3]⟩,⟨hE4,rfl,rfl⟩,A0,?_⟩
  show LV.xl _ _=_
  rw [C0,hl,<-hl3,DA,q3]
 ·cases h)
structure JA where
 rs:bu
 (tick n t15:Y)
 offers:aB
 m:aG
 (k i:Y)
 asu:aJ
 c1:aF
 c2:aP
 c3:aG
 c4:aQ
 Kq:aL
 ag0:aZ
 P9:Y
 (alW Eg:aB)
 next:bu
 CJ:aL
def yG:=bN f86 0
def jf (s:JA) (e:Y) (w:aM) (x:Y) (y:Y):T (Rd JA):=letI a:=(s.n,(s.i,(x,(s.tick,(12:Y)))));letI b:=(s.next.set s.i.toNat (x,y));letI c:=s.Eg.set s.i.toNat x;letI d:=M s.next;letI f:=M s.Eg;.br (an<|s.i<s.k) (.ix s.i (M s.m)<|.ix s.i (M s.rs)<|.ix s.i (M s.offers)<|.br (e !=0) (.rl s.Eg<|.rl s.next<|.rl s.CJ<|.so (.ret) {s with t15:=(1:Y)})<|.ik s.i f<|.ik s.i d<|.req ((0<=s.i/\s.i<(M s.c3:Y))/\(M s.Kq:Y)<=1000/\0<=s.P9/\s.P9<=1000000)<|.br w (.rb (M s.CJ) (M<|[a]) 40<|.re f c<|.re d b<|.re (M s.CJ+M ([a])) (s.CJ++([a]))<|.nx {s with n:=AA<|s.n+1,i:=AA<|s.i+1,Eg:=c,next:=b,CJ:=s.CJ++([a])})<|.re f c<|.re d b<|.rl s.CJ<|.nx {s with i:=AA<|s.i+1,Eg:=c,next:=b})<|.rl s.Eg<|.rl s.next<|.rl s.CJ<|.so (.exit 0) s
abbrev oW (s:JA):=letI a:=AF s.m s.i;letI c:=Bb s.rs s.i;letI d:=gi s.offers s.i;letI b:=nA a.2.2.1 a.2.2.2.1 a.2.2.2.2.1 a.2.2.2.2.2.1 a.2.2.2.2.2.2.1 c.1 c.2 d;jf s (nE a.2.2.1 a.2.2.2.1 a.2.2.2.2.1 a.2.2.2.2.2.1 a.2.2.2.2.2.2.1 c.1 c.2 d) (JW s.c3 s.Kq s.P9 s.i b) b<|nS a.2.2.1 a.2.2.2.1 a.2.2.2.2.1 a.2.2.2.2.2.1 a.2.2.2.2.2.2.1 c.1 c.2 d
def V6 (s:JA):Prop:=s.i=0/\s.CJ=[]/\(s.k=(M s.m:Y)/\s.k<=16)/\(s.c3=s.m/\s.P9=s.tick)/\((M s.Kq:Y)<=1000/\0<=s.tick/\s.tick<=1000000)/\(M s.rs=M s.m/\M s.offers=M s.m/\M s.Eg=M s.m/\M s.next=M s.m)/\dcK s.m s.rs s.offers/\1<=s.n-(M s.CJ:Y)/\s.n-(M s.CJ:Y)<=999900
def PO (s:JA):Prop:=letI a:=(M s.CJ:Y);(0<=s.i/\s.i<=s.k)/\(∀j,0<=j->j<s.i->gi s.Eg j=Ih (AF s.m j) (Bb s.rs j) (gi s.offers j)/\Bb s.next j=(Ih (AF s.m j) (Bb s.rs j)<|gi s.offers j,nxS (AF s.m j) (Bb s.rs j)<|gi s.offers j))/\s.CJ=FO s.m s.Kq s.tick (s.n-a) (EC s.m s.rs s.offers<|M s.m) s.i.toNat/\(s.k=(M s.m:Y)/\s.k<=16)/\(s.c3=s.m/\s.P9=s.tick)/\((M s.Kq:Y)<=1000/\0<=s.tick/\s.tick<=1000000)/\(M s.rs=M s.m/\M s.offers=M s.m/\M s.Eg=M s.m/\M s.next=M s.m)/\dcK s.m s.rs s.offers/\1<=s.n-a/\s.n-a<=999900
def S5 (s:JA):aC:=(s.k-s.i).toNat
def ZJ (x:Ex) (s s':JA):Prop:=x=.exit 0/\s'.Eg=EC s'.m s'.rs s'.offers (M s'.m)/\s'.next=dcR s'.m s'.rs s'.offers (M s'.m)/\s'.CJ=FO s'.m s'.Kq s'.tick (s'.n-(M s'.CJ:Y)) (EC s'.m s'.rs s'.offers<|M s'.m) (M s'.m)
def azB:∀s,V6 s->PO s:=by
 rintro s ⟨h0,h1,h2⟩
 exact ⟨A0,λj j0 j1=>A0,dv,h2⟩
def alg (s:JA) (hI:PO s) (e:Y) (w:aM) (x:Y) (y:Y) (he:nE (AF s.m s.i).2.2.1 (AF s.m s.i).2.2.2.1 (AF s.m s.i).2.2.2.2.1 (AF s.m s.i).2.2.2.2.2.1 (AF s.m s.i).2.2.2.2.2.2.1 (Bb s.rs s.i).1 (Bb s.rs s.i).2 (gi s.offers s.i)=e) (hw:JW s.c3 s.Kq s.P9 s.i (nA (AF s.m s.i).2.2.1 (AF s.m s.i).2.2.2.1 (AF s.m s.i).2.2.2.2.1 (AF s.m s.i).2.2.2.2.2.1 (AF s.m s.i).2.2.2.2.2.2.1 (Bb s.rs s.i).1 (Bb s.rs s.i).2<|gi s.offers s.i)=w) (hx:nA (AF s.m s.i).2.2.1 (AF s.m s.i).2.2.2.1 (AF s.m s.i).2.2.2.2.1 (AF s.m s.i).2.2.2.2.2.1 (AF s.m s.i).2.2.2.2.2.2.1 (Bb s.rs s.i).1 (Bb s.rs s.i).2 (gi s.offers s.i)=x) (hy:nS (AF s.m s.i).2.2.1 (AF s.m s.i).2.2.2.1 (AF s.m s.i).2.2.2.2.1 (AF s.m s.i).2.2.2.2.2.1 (AF s.m s.i).2.2.2.2.2.2.1 (Bb s.rs s.i).1 (Bb s.rs s.i).2 (gi s.offers s.i)=y):allR (λs'=>PO s'/\S5 s'<S5 s) (λx s'=>ZJ x s s') ((jf s e w x y).rd s):=by
 unfold jf;dsimp only [T.rd,T.rl,T.rv];obtain ⟨⟨h0,h1⟩,hA,hL,⟨h2,h3⟩,⟨h4,h5⟩,h6,⟨h7,h8,h9,h10⟩,hk,h11⟩:=hI
 have hll:M s.CJ<=s.i.toNat:=tK
 refine allR_ite (λc1=>?_) λc1=>?_
 ·refine allR_ite (λc2=>?_) (λc2=>?_)
  ·have c1:s.i<s.k:=AQ
   have hm:s.i<(M s.m:Y):=A0
   exact absurd (he.symm.trans<|awc<|hk s.i h0 hm) DQ
  ·refine allR_ite (λc3=>?_) (λc3=>?_)
   ·have c1:s.i<s.k:=AQ
    have hm:s.i<(M s.m:Y):=A0
    have hx':Ih (AF s.m s.i) (Bb s.rs s.i) (gi s.offers s.i)=x:=hx
    have hy':nxS (AF s.m s.i) (Bb s.rs s.i) (gi s.offers s.i)=y:=hy
    have hA':∀j,0<=j->j<s.i+1->gi (s.Eg.set s.i.toNat x) j=Ih (AF s.m j) (Bb s.rs j) (gi s.offers j)/\Bb (s.next.set s.i.toNat (x,y)) j=(Ih (AF s.m j) (Bb s.rs j)<|gi s.offers j,nxS (AF s.m j) (Bb s.rs j)<|gi s.offers j):=λj j0 j1=>by
     exact aGv
    have hs:s.i.toNat+1=(s.i+1).toNat:=A0
    have hg:gi (EC s.m s.rs s.offers<|M s.m) (s.i.toNat:aC)=x:=aa5
    have hw':JW s.m s.Kq s.tick (s.i.toNat:aC) x=w:=by rw [C2 h0,<-hw,h4,h5];rw [<-hx]
    rw [AH (x:=s.i+1),AH (x:=s.n+1)]
    have hn:s.n+1-((M (s.CJ++[(s.n,s.i,x,s.tick,12)]):aC):Y)=s.n-(M s.CJ:Y):=by
     exact aIz
    refine ⟨⟨⟨AR,AR⟩,hA',?_,⟨h2,h3⟩,⟨h4,h5⟩,h6,⟨h7,h8,aKh,aaD⟩,hk,by simp only;rw [hn];exact h11⟩,by simp only [S5];omega⟩
    simp only;rw [hn,<-hs,FO,<-hL,hg,hw',c3,AB rfl,C2 h0,show s.n-(M s.CJ:Y)+(M s.CJ:Y)=s.n by omega]
   ·have c1:s.i<s.k:=AQ
    have hm:s.i<(M s.m:Y):=A0
    have hx':Ih (AF s.m s.i) (Bb s.rs s.i) (gi s.offers s.i)=x:=hx
    have hy':nxS (AF s.m s.i) (Bb s.rs s.i) (gi s.offers s.i)=y:=hy
    have hA':∀j,0<=j->j<s.i+1->gi (s.Eg.set s.i.toNat x) j=Ih (AF s.m j) (Bb s.rs j) (gi s.offers j)/\Bb (s.next.set s.i.toNat (x,y)) j=(Ih (AF s.m j) (Bb s.rs j)<|gi s.offers j,nxS (AF s.m j) (Bb s.rs j)<|gi s.offers j):=λj j0 j1=>by
     exact aGv
    have hs:s.i.toNat+1=(s.i+1).toNat:=A0
    have hg:gi (EC s.m s.rs s.offers<|M s.m) (s.i.toNat:aC)=x:=aa5
    have hw':JW s.m s.Kq s.tick (s.i.toNat:aC) x=w:=A8
    rw [AH (x:=s.i+1)];refine ⟨⟨⟨AR,AR⟩,hA',?_,⟨h2,h3⟩,⟨h4,h5⟩,h6,⟨h7,h8,aKh,aaD⟩,hk,h11⟩,by simp only [S5];omega⟩
    simp only;rw [<-hs,FO,<-hL,hg,hw',c3,AD AS,Ec]
 ·have c1:s.k<=s.i:=AQ
  have hi:s.i.toNat=M s.m:=A0
  refine ⟨rfl,aeS (by rw [h9];exact HY.symm) λj j0 j1=>?_,alF (by rw [h10,gr]) λj j0 j1=>?_,by have hL':=hL;rw [hi] at hL';exact hL'⟩
  ·rw [EC,HY] at j1
   rw [EC,MH j0 j1];exact (hA j j0 A0).1
  ·rw [gr] at j1
   rw [au0 j0 j1];exact (hA j j0 A0).2
def atz:Da PO S5 ZJ oW:=λs hI=>alg s hI _ _ _ _ rfl rfl rfl rfl
def Q4:LpD JA:=⟨0,108,[2,4,5,12,13,14,15,16,17,19,20,21,57,58,59],[.nl 21 62 AK],λs=>[s.rs,s.tick,s.n,.v<|.slice aj 0 0,.v<|.slice aj 0 0,.v<|.slice aj 0 0,s.t15,.own 0 0,.xl A7 s.offers,.os 1 1 0<|M s.Eg,.os 2 2 0<|M s.next,.os 3 5 0<|M s.CJ,s.m,s.k,s.i],λs=>[⟨[s.asu,s.c1,s.c2,s.c3,s.c4,s.Kq,s.ag0,s.P9,.xl A7 s.alW],240,.cl,U⟩,bV 3 A7 s.Eg,bV 141 Ag s.next,bV 62 AK s.CJ],λv b=>⟨As Ag v 0,AJ v 1,AJ v 2,AJ v 6,As A7 v 8,As AZ v 12,AJ v 13,AJ v 14,AE AX b 0 0,AE .str b 0 1,AE Ad b 0 2,AE AZ b 0 3,AE Ae b 0 4,AE AK b 0 5,AE Ac b 0 6,Af b 0 7,AE A7 b 0 8,AV A7 b 1,AV Ag b 2,AV AK b 3⟩,oW,λs r=> {s with n:=r.n,t15:=r.t15,i:=r.i,Eg:=r.Eg,next:=r.next,CJ:=r.CJ},λs=>s,λ_ s=>s,[.ret,.exit 0],V6,PO,S5⟩
abbrev Gw:=Q4.run
abbrev ic:=Q4.exn
def aoj:Rq PO oW:=by
 intro s hI;refine ⟨λc1=>⟨?_,?_,?_,λc2=>⟨A9,A9,A9,ak⟩,λc2=>⟨?_,?_,?_,?_,?_,λc3=>⟨?_,?_,?_,?_,ak⟩,λc3=>⟨?_,?_,A9,ak⟩⟩⟩,λc1=>⟨A9,A9,A9,ak⟩⟩
 all_goals ((obtain ⟨⟨h0,h1⟩,hA,hL,⟨h2,h3⟩,⟨h4,h5⟩,h6,⟨h7,h8,h9,h10⟩,hk,h11⟩:=hI;have hll:M s.CJ<=s.i.toNat:=tK;(try simp only [AT] at c1);have hl3:M s.c3=M s.m:=An M h4;first|omega|exact ⟨rfl,AG⟩ |(refine ⟨A0,?_,?_⟩<;>simp only [BI,BQ]<;>omega)))
def ad1:aN:=[anX,ani,an3,anZ,an4]
def ko:Q4.Ok:={}
def jX:Q4.Pf (ZJ):=⟨azB,λs h=>rfl,atz,aoj⟩
def aid:SA 0 yG Q4:=s1 ko jX ad1 kN
def alf:Fi V6 PO ZJ ic Gw:=LpD.fin ko jX
def ale:Rs V6 ic Gw (λs:JA=>s.n-(M s.CJ:Y)) (λx s' (v:Y)=>s'.n-(M s'.CJ:Y)=v):=Cq ko jX (λs hI=>by
  obtain ⟨⟨h0,h1⟩,hA,hL,⟨h2,h3⟩,⟨h4,h5⟩,h6,⟨h7,h8,h9,h10⟩,hk,h11⟩:=hI
  have hll:M s.CJ<=s.i.toNat:=tK
  refine allR_ite (λc1=>?_) λc1=>?_
  ·refine allR_ite (λc2=>?_) (λc2=>?_)
   ·rfl
   ·refine allR_ite (λc3=>?_) (λc3=>?_)
    ·have c1:s.i<s.k:=A8
     rw [AH (x:=s.n+1)]
     show s.n+1-((M (s.CJ++[_]):aC):Y)=s.n-(M s.CJ:Y)
     exact aIz
    ·rfl
  ·rfl)
def aBV:aD->T LV
 | .agg a::r=>s5 a λcs os ks gs bs=>(match r with
  | [.xl (.pair (.int J) (.pair (.int J) (.pair (.int J) (.pair (.int J) (.int J))))) l,.xl (.pair (.int J) (.int J)) rs,.xl (.pair .bool (.pair (.int J) (.pair (.int J) (.int J)))) d,.v (ag J t),.v (ag J n)]=> .req (Gg d t/\M d<=19) (.ok<|.tup [.xl A7<|deA cs os ks gs bs l rs d t n,deR cs os ks gs bs l rs d t n,KY cs os ks gs bs l rs d t n,deE cs os ks gs bs l rs d t n])
  |_=> .no)
 |_=> .no
def WY (cs:aJ) (os:aF) (ks:aP) (gs:aG) (bs:aQ) (l:aL) (rs:bu) (d:aZ) (t n:Y):JA:=letI a:=cI cs os ks gs bs l d t<|Fa d t;(⟨rs,t,n,0,a,gs,(M gs:Y),0,cs,os,ks,gs,bs,l,d,t,Fa d t,aq (M a:Y).toNat (0:Y),aq (M a:Y).toNat ((0:Y),(0:Y)),([]:aL)⟩:JA)
def aBq:=vm (S:=aBV) func86 ad1 kN (L:=(λi=>if i=11 then Q4.lp else noLoops i)) (λb hb=>by
 rw [show loopsIn _=[yG] by kernel_rfl] at hb
 simp only [Au,BX,BV] at hb;subst hb;exact aid) (λargs lv h=>by
 unfold aBV at h;split at h
 case h_2=>cases h
 replace h:=GB h
 obtain ⟨cs,os,ks,gs,bs,rfl,h⟩:=h;split at h
 ·rename_i l rs d t n
  refine Al (letI a:=WY cs os ks gs bs l rs d t n;letI b:=(M (cI cs os ks gs bs l d t<|Fa d t):Y);.req (Gg d t/\M d<=19)<|.br (!(HI cs os ks gs bs l rs d t n)) (.ok<|.tup [.xl A7 ([]:aB),.xl Ag ([]:bu),.xl AK ([]:aL),(1:Y)])<|.req (M d=M gs/\EN cs os ks gs bs (BT gs) (H8 gs d) (Fa d t)=U/\IU l (M gs:Y) t=U/\EN cs os ks gs bs (Cr gs l t) (E5 cs os ks gs bs (BT gs) (H8 gs d)<|Fa d t) (Fa d t)=U)<|.br ((0:Y) !=0) (.ok<|.tup [.xl A7 ([]:aB),.xl Ag ([]:bu),.xl AK ([]:aL),(1:Y)])<|.rm 8 b<|.rm 16 b<|.re b.toNat (aq b.toNat (0:Y))<|.re b.toNat (aq b.toNat ((0:Y),(0:Y)))<|.r0 Le<|.req (Q4.q a)<|.br (isEx (ic a)<|.ret) (.ok<|.tup [.xl A7 ([]:aB),.xl Ag ([]:bu),.xl AK ([]:aL),(Gw a).t15])<|.rz (Gw a).Eg<|.rz (Gw a).next (.rz (Gw a).CJ<|.ok<|.tup [.xl A7<|((Gw a).Eg.drop 0).take<|M (Gw a).Eg,(((Gw a).next.drop 0).take<|M (Gw a).next),(((Gw a).CJ.drop 0).take<|M (Gw a).CJ),(0:Y)])) ?_;obtain ⟨hw,rfl⟩:=h;refine ⟨hw,λc=>?_,λc=>?_⟩
  ·unfold deA deR KY deE
   rw [ntW c];rfl
  have c:=nfW c
  have V:=aar c
  have ol:M (cI cs os ks gs bs l d t<|Fa d t)=M gs:=(ab6 V).1
  have hE:V6 (WY cs os ks gs bs l rs d t n):=⟨rfl,rfl,⟨rfl,by have:=V.gl;show (M gs:Y)<=16;omega⟩,A9,⟨by have:=(Eh V.les).1;show (M l:Y)<=1000;omega,V.tb⟩,⟨V.rl,ol,by show M (aq _ (0:Y))=M gs;rw [Bc];omega,by show M (aq _ ((0:Y),(0:Y)))=M gs;rw [Bc];omega⟩,aG5 V,by have:=V.nb;show 1<=n-(0:Y);omega,by have:=V.nb;show n-(0:Y)<=999900;omega⟩
  obtain ⟨_,_,q1,q2,q3,q4⟩:=alf _ hE
  have hn:=ale _ hE
  have hn:=hn.trans<|M4 n
  have q2:(Gw<|WY cs os ks gs bs l rs d t n).Eg=deA cs os ks gs bs l rs d t n:=q2.trans (by unfold deA;rw [AB c];rfl)
  have q3:(Gw<|WY cs os ks gs bs l rs d t n).next=deR cs os ks gs bs l rs d t n:=q3.trans (by unfold deR;rw [AB c];rfl)
  rw [hn] at q4
  have q4:(Gw<|WY cs os ks gs bs l rs d t n).CJ=KY cs os ks gs bs l rs d t n:=q4.trans (by unfold KY;rw [AB c];rfl)
  have gl:=V.gl
  refine ⟨⟨V.dl,abt V.si,amY V,Yw V⟩,λc2=>absurd c2 AS,λ_=>?_⟩
  refine ⟨by rw [ol];omega,by rw [ol];omega,⟨rfl,AG⟩,⟨rfl,AG⟩,A9,⟨hE,rfl,rfl⟩,?_⟩
  rw [q1];refine ⟨λh=>Ai,λ_=>⟨A0,A0,A0,?_⟩⟩
  show LV.tup [LV.xl _ _,LV.xl _ _,LV.xl _ _,_]=_
  rw [C0,DA,C0,DA,C0,DA,q2,q3,q4];unfold deE;rw [AB c]
 ·cases h)
structure L0 where
 t5:Y
 t23:aB
 (t24 t25:Y)
 Aw:aJ
 BF:aF
 Bg:aP
 B7:aG
 Bh:aQ
 CV:aB
def yn:=bN f78 0
def mz (s:L0):T (Rd L0):=
 .br (an<|s.t25<s.t24) (.ix s.t25 (M s.t23)<|.br ((an<|(gi s.t23 s.t25)<0) ||(an<|(gi s.t23 s.t25)>80)) (.so (.ret) {s with t5:=(1:Y)})<|.nx {s with t25:=AA<|s.t25+1}) (.so (.exit 0) s)
def bX (s:L0):Prop:=s.t5=0/\s.t25=0/\s.t24=(M s.t23:Y)/\s.t24<=1000/\∀k:aC,k<M s.t23->0<=gi s.t23 k/\gi s.t23 k<=80
def Tp (s:L0):Prop:=s.t5=0/\(0<=s.t25/\s.t25<=s.t24)/\s.t24=(M s.t23:Y)/\s.t24<=1000/\∀k:aC,k<M s.t23->0<=gi s.t23 k/\gi s.t23 k<=80
def kT (s:L0):aC:=(s.t24-s.t25).toNat
def u0 (x:Ex) (s s':L0):Prop:=x=.exit 0/\s'.t5=0
def awf:∀s,bX s->Tp s:=by
 rintro s ⟨h9,h0,h1,h2,h3⟩
 exact ⟨h9,A0,h1,h2,h3⟩
def arZ:Da Tp kT u0 mz:=by
 intro s hI;obtain ⟨h9,⟨h0,h1⟩,h2,h3,h5⟩:=hI;refine allR_ite (λc1=>allR_ite (λc2=>?_) λc2=>?_) λc1=>?_
 ·exfalso
  have c1:s.t25<s.t24:=A8
  have:=h5 s.t25.toNat A0
  rw [C2 h0] at this;simp only [C6,AT] at c2;omega
 ·have c1:s.t25<s.t24:=A8
  rw [AH (x:=s.t25+1)];exact ⟨⟨h9,⟨A8,A8⟩,h2,h3,h5⟩,by simp only [kT];omega⟩
 ·exact ⟨rfl,h9⟩
def Pu:LpD L0:=⟨0,65,[2,3,4,5,23,24,25],[],λs=>[.own 0 0,.own 1 0,.v<|.slice aj 0 0,s.t5,.xl A7 s.t23,s.t24,s.t25],λs=>[⟨[s.Aw,s.BF,s.Bg,s.B7,s.Bh],28,.cl,X⟩,⟨[.xl A7 s.CV],29,.cl,X⟩],λv b=>⟨AJ v 3,As A7 v 4,AJ v 5,AJ v 6,AE AX b 0 0,AE .str b 0 1,AE Ad b 0 2,AE AZ b 0 3,AE Ae b 0 4,AE A7 b 1 0⟩,mz,λs r=> {s with t5:=r.t5,t25:=r.t25},λs=>s,λ_ s=>s,[.ret,.exit 0],bX,Tp,kT⟩
abbrev fh:=Pu.run
abbrev zx:=Pu.exn
def aov:Rq Tp mz:=by
 intro s hI;refine ⟨λc1=>⟨?_,λ_=>trivial,λ_=>trivial⟩,λ_=>trivial⟩
 ·(simp only [AT] at c1;obtain ⟨h9,⟨h0,h1⟩,h2,h3⟩:=hI;omega)
def Xj:aN:=[MT,XS]
def aFL:Ap:=kI Xj<|l0 Xj
def aEN:Pu.Ok:={}
def aDM:Pu.Pf (u0):=⟨awf,λs h=>rfl,arZ,aov⟩
def ajA:SA 0 yn Pu:=s1 aEN aDM Xj aFL
def ajZ:Fi bX Tp u0 zx fh:=LpD.fin aEN aDM
def oz:Array Tmp×Code×Code:=((rangesIn<|f78.body.getD .skip)[0]?).getD (#[],.skip,.skip)
def avN:aKN:=oz.1
def awq:bC:=oz.2.1
def awi:bC:=oz.2.2
structure Hk where
 Aw:aJ
 BF:aF
 Bg:aP
 B7:aG
 Bh:aQ
 c:Y
 BJ:aJ
 FB:aF
 F7:aP
 F8:aG
 FC:aQ
 b1:aB
 b3:aKO
 b4:Y
 gw:bA
 (Z4 Gs Y4 Y5 gu fe gM:Y)
 st:LS
def na (s:Hk):T (Rd Hk):=letI b:=gi s.b1 s.b4;letI d:=s.c.toNat<M s.b3;letI e:=QY s.b3 s.c.toNat b;letI g:=M s.b3;letI h:=M s.Aw;letI i:=AY s.Aw s.c;letI k:=(BG J s.Gs 4) !=0;letI m:=s.c.toNat<M e;letI a:=TD s.b3 s.c.toNat b;letI f:=QY a s.c.toNat b;letI j:=s.c.toNat<M a;letI l:=s.c.toNat<M f;.br (an<|s.c>=0) (.ix s.c g<|.ix s.b4 (M s.b1)<|.br ((BG J s.Gs 1) !=0) (.req d<|.req d<|.br ((BG J s.Gs 2) !=0) (.req j<|.req j<|.br k (.req l<|.req l<|.ix s.c h<|.re g (Ia f s.c.toNat b)<|.nx {s with c:=i.2.1,b3:=Ia f s.c.toNat b})<|.ix s.c h<|.re g f<|.nx {s with c:=i.2.1,b3:=f})<|.br k (.req j<|.req j<|.ix s.c h<|.re g (Ia a s.c.toNat b)<|.nx {s with c:=i.2.1,b3:=Ia a s.c.toNat b})<|.ix s.c h<|.re g a<|.nx {s with c:=i.2.1,b3:=a})<|.br ((BG J s.Gs 2) !=0) (.req d<|.req d<|.br k (.req m<|.req m<|.ix s.c h<|.re g (Ia e s.c.toNat b)<|.nx {s with c:=i.2.1,b3:=Ia e s.c.toNat b})<|.ix s.c h<|.re g e<|.nx {s with c:=i.2.1,b3:=e})<|.br k (.req d<|.req d<|.ix s.c h<|.re g (Ia s.b3 s.c.toNat b)<|.nx {s with c:=i.2.1,b3:=Ia s.b3 s.c.toNat b})<|.ix s.c h<|.rl s.b3<|.nx {s with c:=i.2.1})<|.rl s.b3<|.so (.exit 0) s
def Q6 (s:Hk):Prop:=s.st=.ready/\ET s.Aw=U/\s.c<(M s.Aw:Y)/\M s.b3=M s.Aw/\(0<=s.b4/\s.b4<(M s.b1:Y))
def To (s:Hk):Prop:=s.st=.ready/\ET s.Aw=U/\s.c<(M s.Aw:Y)/\M s.b3=M s.Aw/\(0<=s.b4/\s.b4<(M s.b1:Y))
def vj (s:Hk):aC:=(s.c+1).toNat
def qI (x:Ex) (s s':Hk):Prop:=x=.exit 0/\s'.c<0
def awd:∀s,Q6 s->To s:=by
 exact λs h=>h
def arX:Da To vj qI na:=by
 intro s hI;obtain ⟨h0,h1,h2,h3,h4⟩:=hI;refine allR_ite (λc1=>?_) λc1=>?_
 ·have c1:0<=s.c:=AQ
  have:=Nb h1 c1 h2
  exact allR_ite (λ_=>allR_ite (λ_=>allR_ite (λ_=>⟨⟨h0,h1,AR,Oa,h4⟩,NN⟩) λ_=>⟨⟨h0,h1,AR,Oa,h4⟩,NN⟩) λ_=>allR_ite (λ_=>⟨⟨h0,h1,AR,Oa,h4⟩,NN⟩) λ_=>⟨⟨h0,h1,AR,Oa,h4⟩,NN⟩) λ_=>allR_ite (λ_=>allR_ite (λ_=>⟨⟨h0,h1,AR,Oa,h4⟩,NN⟩) λ_=>⟨⟨h0,h1,AR,Oa,h4⟩,NN⟩) λ_=>allR_ite (λ_=>⟨⟨h0,h1,AR,Oa,h4⟩,NN⟩) λ_=>⟨⟨h0,h1,AR,A8,h4⟩,NN⟩
 ·have c1:¬(0<=s.c):=AQ
  exact Qv
def UW:LpD Hk:=⟨7,18,[0,2,4],[],λs=>[.yld 6,xQ 5 [s.Aw,s.BF,s.Bg,s.B7,s.Bh],s.c],λs=>[⟨[s.BJ,s.FB,s.F7,s.F8,s.FC],28,.cl,X⟩,⟨[.xl A7 s.b1],29,.cl,X⟩,⟨[.os 3 3 0<|M s.b3],168,.cl,X⟩,⟨[],176,.vec (.pair A7 Ag) s.b3,X⟩,⟨[s.b4],3,.cl,X⟩,⟨[.v<|.string s.gw,s.Z4,s.Gs,s.Y4,s.Y5,s.gu,s.fe,s.gM],77,.cl,X⟩,⟨[.junk,.junk,.junk,.own 1 0,.junk,.junk,.junk,.junk,.own 2 0,.own 4 0,.own 5 0,.junk,.junk,.junk,.junk,.junk,.junk,.junk,.junk,.junk,.junk,.junk,.junk,.junk,.junk,.junk,.junk,.junk,.junk,.junk,.junk,.junk,.junk,.junk,.junk,.junk,.junk,.junk,.junk,.junk,.junk,.junk,.junk,.junk,.junk,.junk,.junk,.junk,.junk,.junk,.junk,.junk,.junk,.junk,.junk,.junk,.junk,.junk,.junk,.junk,.junk,.junk,.junk,.junk,.junk],0,.lrec avN awq awi s.st,X⟩],λv b=>⟨gXl AX<|gXq (v.getD 1 .junk) 0,gXl .str<|gXq (v.getD 1 .junk) 1,gXl Ad<|gXq (v.getD 1 .junk) 2,gXl AZ<|gXq (v.getD 1 .junk) 3,gXl Ae<|gXq (v.getD 1 .junk) 4,AJ v 2,AE AX b 0 0,AE .str b 0 1,AE Ad b 0 2,AE AZ b 0 3,AE Ae b 0 4,AE A7 b 1 0,AV (.pair A7 Ag) b 3,Af b 4 0,gSr<|gCe (gBk b 5) 0,Af b 5 1,Af b 5 2,Af b 5 3,Af b 5 4,Af b 5 5,Af b 5 6,Af b 5 7,.ready⟩,na,λs r=> {r with Aw:=s.Aw,BF:=s.BF,Bg:=s.Bg,B7:=s.B7,Bh:=s.Bh,BJ:=s.BJ,FB:=s.FB,F7:=s.F7,F8:=s.F8,FC:=s.FC,b1:=s.b1,b4:=s.b4,gw:=s.gw,Z4:=s.Z4,Gs:=s.Gs,Y4:=s.Y4,Y5:=s.Y5,gu:=s.gu,fe:=s.fe,gM:=s.gM,st:=s.st},λs=> {s with st:=.ready},λx s=> {s with st:=(match x with| .exit 0=> .ready|_=> .ready)},[.exit 0],Q6,To,vj⟩
abbrev P1:=UW.run
abbrev aAJ:=UW.exn
def aot:Rq To na:=by
 intro s hI;refine ⟨λc1=>⟨?_,?_,λc2=>⟨?_,?_,λc3=>⟨?_,?_,λc4=>⟨?_,?_,?_,?_,ak⟩,λc4=>⟨?_,?_,ak⟩⟩,λc3=>⟨λc5=>⟨?_,?_,?_,?_,ak⟩,λc5=>⟨?_,?_,ak⟩⟩⟩,λc2=>⟨λc6=>⟨?_,?_,λc7=>⟨?_,?_,?_,?_,ak⟩,λc7=>⟨?_,?_,ak⟩⟩,λc6=>⟨λc8=>⟨?_,?_,?_,?_,ak⟩,λc8=>⟨?_,A9,ak⟩⟩⟩⟩,λc1=>⟨A9,ak⟩⟩
 all_goals ((obtain ⟨h0,h1,h2,h3,h4⟩:=hI;simp only [AT,Jc] at c1;first|omega|(simp only [vh,vg,vf];omega) |simp [vh,vg,vf]))
def kf:UW.Ok:={}
def jV:UW.Pf (qI):=⟨awd,λs h=>by
 obtain ⟨Aw,BF,Bg,B7,Bh,c,BJ,FB,F7,F8,FC,b1,b3,b4,gw,Z4,Gs,Y4,Y5,gu,fe,gM,st⟩:=s
 have e:=h.1
 subst e;rfl,arX,aot⟩
def zo:=s2 (b:=bN f154 0) kf jV Xj aFL
def ajX:Fi Q6 To qI aAJ P1:=LpD.fin kf jV
def agQ (s:Hk) (hE:Q6 s):(λs:Hk=>FT s.Aw s.Gs (gi s.b1 s.b4) s.c s.b3) (P1 s)=(λs:Hk=>FT s.Aw s.Gs (gi s.b1 s.b4) s.c s.b3) s:=by
 exact LpD.keepV kf jV (λs:Hk=>FT s.Aw s.Gs (gi s.b1 s.b4) s.c s.b3) (λs hI=>by
  obtain ⟨h0,h1,h2,h3,h4⟩:=hI
  have hp:=ar6 (ph:=s.Gs) (v:=gi s.b1 s.b4) (l:=s.b3) h1 h2
  refine allR_ite (λc1=>?_) λc1=>rfl
  have c1:0<=s.c:=A8
  rw [AB c1,auV A0] at hp
  refine allR_ite (λd1=>allR_ite (λd2=>allR_ite (λd4=>?_) λd4=>?_) λd2=>allR_ite (λd4=>?_) λd4=>?_) (λd1=>allR_ite (λd2=>allR_ite (λd4=>?_) λd4=>?_) λd2=>allR_ite (λd4=>?_) λd4=>?_)<;>
   (show FT _ _ _ _ _=FT _ _ _ _ _;rw [hp];simp only [d1,d2,d4,BP,Fz,EZ])) s hE
def ajW (s:Hk) (hE:Q6 s):aAJ s=.exit 0/\(P1 s).b3=FT s.Aw s.Gs (gi s.b1 s.b4) s.c s.b3:=by
 have q3:=agQ s hE
 obtain ⟨s',hI,q1,q2⟩:=ajX s hE;refine ⟨q1,?_⟩
 have q3:FT s.Aw s.Gs (gi s.b1 s.b4) (P1 s).c (P1 s).b3=FT s.Aw s.Gs (gi s.b1 s.b4) s.c s.b3:=q3
 rw [<-q3];unfold FT;rw [JY,AD A0]
structure K2 where
 t5:Y
 t41:aG
 (t42 t43:Y)
 Aw:aJ
 BF:aF
 Bg:aP
 B7:aG
 Bh:aQ
 CV:aB
 b3:aKO
def ym:=bN f78 1
def gB (s:K2):Hk:=(⟨s.Aw,s.BF,s.Bg,s.B7,s.Bh,(AF s.t41 s.t43).2.1,s.Aw,s.BF,s.Bg,s.B7,s.Bh,s.CV,s.b3,s.t43,(AF s.t41 s.t43).1,(AF s.t41 s.t43).2.1,(AF s.t41 s.t43).2.2.1,(AF s.t41 s.t43).2.2.2.1,(AF s.t41 s.t43).2.2.2.2.1,(AF s.t41 s.t43).2.2.2.2.2.1,(AF s.t41 s.t43).2.2.2.2.2.2.1,(AF s.t41 s.t43).2.2.2.2.2.2.2,.ready⟩:Hk)
def nf (s:K2):T (Rd K2):=
 .br (an<|s.t43<s.t42) (.ix s.t43 (M s.t41)<|.rl s.b3<|.req (UW.q<|gB s)<|.rl (P1<|gB s).b3<|.nx {s with t43:=AA<|s.t43+1,b3:=(P1<|gB s).b3}) (.rl s.b3<|.so (.exit 2) s)
def bW (s:K2):Prop:=s.t43=0/\(s.t42=(M s.t41:Y)/\s.t42<=1000/\ET s.Aw=U/\atB s.Aw s.t41=U/\M s.CV=M s.t41)/\s.b3=aq (M s.Aw) (Ty.dflt<|.pair A7 Ag)
def Sw (s:K2):Prop:=(0<=s.t43/\s.t43<=s.t42)/\(s.t42=(M s.t41:Y)/\s.t42<=1000/\ET s.Aw=U/\atB s.Aw s.t41=U/\M s.CV=M s.t41)/\s.b3=HN s.Aw s.t41 s.CV s.t43.toNat
def kS (s:K2):aC:=(s.t42-s.t43).toNat
def tz (x:Ex) (s s':K2):Prop:=x=.exit 2/\s'.b3=HN s'.Aw s'.t41 s'.CV (M s'.t41)
def awe:∀s,bW s->Sw s:=by
 rintro s ⟨h0,h1,h2⟩
 exact ⟨A0,h1,by rw [h2,h0];rfl⟩
def aEa (s:K2) (hI:Sw s) (c1:s.t43<s.t42):Q6 (gB s):=by
 obtain ⟨⟨h0,h1⟩,⟨h2,h3,h4,h5,h6⟩,h7⟩:=hI;refine ⟨rfl,h4,Y6 h5 h0 A0,?_,⟨h0,?_⟩⟩
 ·show M s.b3=_
  rw [h7];exact j5 h4 h5 _ A0
 ·show s.t43<(M s.CV:Y)
  omega
def arY:Da Sw kS tz nf:=by
 intro s hI
 have hin:=λc1=>aEa s hI c1
 obtain ⟨⟨h0,h1⟩,⟨h2,h3,h4,h5,h6⟩,h7⟩:=hI;refine allR_ite (λc1=>?_) λc1=>?_
 ·have c1:s.t43<s.t42:=A8
  obtain ⟨_,q⟩:=ajW _<|hin c1;rw [AH (x:=s.t43+1)];refine ⟨⟨⟨A8,A8⟩,⟨h2,h3,h4,h5,h6⟩,?_⟩,by simp only [kS];omega⟩
  rw [show (s.t43+1).toNat=s.t43.toNat+1 by omega,q]
  show FT s.Aw (AF s.t41 s.t43).2.2.1 (gi s.CV s.t43) (AF s.t41 s.t43).2.1 s.b3=FT s.Aw (AF s.t41 (s.t43.toNat:Y)).2.2.1 (gi s.CV (s.t43.toNat:Y)) (AF s.t41 (s.t43.toNat:Y)).2.1 (HN s.Aw s.t41 s.CV s.t43.toNat)
  grind
 ·have c1:s.t42<=s.t43:=A8
  refine ⟨rfl,?_⟩
  grind
def Pt:LpD K2:=⟨0,65,[2,3,4,5,8,41,42,43],[],λs=>[.own 0 0,.own 1 0,.v<|.slice aj 0 0,s.t5,.own 2 0,s.t41,s.t42,s.t43],λs=>[⟨[s.Aw,s.BF,s.Bg,s.B7,s.Bh],28,.cl,X⟩,⟨[.xl A7 s.CV],29,.cl,X⟩,⟨[.os 3 3 0<|M s.b3],168,.cl,X⟩,⟨[],176,.vec (.pair A7 Ag) s.b3,X⟩],λv b=>⟨AJ v 3,As AZ v 5,AJ v 6,AJ v 7,AE AX b 0 0,AE .str b 0 1,AE Ad b 0 2,AE AZ b 0 3,AE Ae b 0 4,AE A7 b 1 0,AV (.pair A7 Ag) b 3⟩,nf,λs r=> {r with t5:=s.t5,t41:=s.t41,t42:=s.t42,Aw:=s.Aw,BF:=s.BF,Bg:=s.Bg,B7:=s.B7,Bh:=s.Bh,CV:=s.CV},λs=>s,λ_ s=>s,[.exit 2],bW,Sw,kS⟩
abbrev w9:=Pt.run
abbrev akq:=Pt.exn
def aou:Rq Sw nf:=by
 intro s hI;refine ⟨λc1=>⟨?_,A9,?_,A9,ak⟩,λc1=>⟨A9,ak⟩⟩
 ·(obtain ⟨⟨h0,h1⟩,⟨h2,h3⟩,h4⟩:=hI;simp only [AT] at c1;omega)
 ·exact ⟨aEa s hI A8,rfl,rfl⟩
def lY:aN:=[MT,XS]
def asV:Ap:=kI lY<|la 1 func154 zo<|l0 lY
def aEM:Pt.Ok:={}
def aDL:Pt.Pf (tz):=⟨awe,λs h=>rfl,arY,aou⟩
def aj9:SA 0 ym Pt:=s1 aEM aDL lY asV
def ajY:Fi bW Sw tz akq w9:=LpD.fin aEM aDL
def Hu (cs:aJ) (gs:aG) (am:aB):aKw:=if M am=M gs then HN cs gs am (M gs) else []
def Fw (gs:aG) (am:aB):Y:=if M am=M gs then 0 else 1
def aGS:aD->T LV
 | .agg a::r=>s5 a λcs os ks gs bs=>(match r with
  | [.xl (.int J) am]=> .req (Av cs os ks gs bs=U/\(M am=M gs->∀k:aC,k<M am->0<=gi am k/\gi am k<=80)) (.ok<|.tup [.xl (.pair A7 Ag)<|Hu cs gs am,Fw gs am])
  |_=> .no)
 |_=> .no
def lX:aN:=[MT,XS]
def asU:Ap:=kI lX<|la 1 func154 zo<|l0 lX
def aae:=vm (S:=aGS) func78 lX asU (L:=(λi=>if i=4 then Pu.lp else if i=11 then Pt.lp else noLoops i)) (λb hb=>by
 rw [show loopsIn _=[yn,ym] by kernel_rfl] at hb
 simp only [Au,BX,BV] at hb;rcases hb with rfl|rfl
 ·exact ajA
 ·exact aj9) (λargs lv h=>by
 unfold aGS at h;split at h
 case h_2=>cases h
 replace h:=GB h
 obtain ⟨cs,os,ks,gs,bs,rfl,h⟩:=h;split at h
 ·rename_i am
  refine Al (letI e:=(M am:Y);letI f:=(M gs:Y);letI g:=(M cs:Y);letI b:=(fh (⟨0,am,e,0,cs,os,ks,gs,bs,am⟩:L0));letI d:=(aq g.toNat ((0:Y),((0:Y),(0:Y))));letI a:=(w9 (⟨b.t5,gs,f,0,cs,os,ks,gs,bs,am,d⟩:K2));.br ((!(Av cs os ks gs bs)) ||(e !=f)) (.ok<|.tup [.xl (.pair A7 Ag) ([]:aKO),(1:Y)])<|.req (Pu.q (⟨0,am,e,0,cs,os,ks,gs,bs,am⟩:L0))<|.br (isEx (zx (⟨0,am,e,0,cs,os,ks,gs,bs,am⟩:L0))<|.ret) (.ok<|.tup [.xl (.pair A7 Ag) ([]:aKO),b.t5])<|.rm 24 g<|.re g.toNat d<|.req (Pt.q (⟨b.t5,gs,f,0,cs,os,ks,gs,bs,am,d⟩:K2))<|.rz a.b3<|.ok<|.tup [.xl (.pair A7 Ag)<|(a.b3.drop 0).take<|M a.b3,(0:Y)]) ?_;obtain ⟨⟨hv,hr⟩,rfl⟩:=h
  by_cases hl:M am=M gs
  rotate_left
  ·refine ⟨λ_=>?_,λc=>?_⟩
   ·unfold Hu Fw
    rw [AD hl,AD hl];rfl
   ·rw [hv] at c;simp at c;omega
  have hr:=hr hl
  unfold Hu Fw;rw [AB hl,AB hl]
  have hb:=(Ci.1 hv).1
  have hA:bX ⟨0,am,(M am:Y),0,cs,os,ks,gs,bs,am⟩:=⟨rfl,rfl,rfl,A8,hr⟩
  obtain ⟨_,_,q1,q5⟩:=ajZ _ hA
  have hB:bW ⟨(fh ⟨0,am,(M am:Y),0,cs,os,ks,gs,bs,am⟩).t5,gs,(M gs:Y),0,cs,os,ks,gs,bs,am,aq (M cs:Y).toNat ((0:Y),((0:Y),(0:Y)))⟩:=⟨rfl,⟨rfl,A8,gC hv,gD hv,hl⟩,by
   rw [BW];rfl⟩
  obtain ⟨_,_,q6,q7⟩:=ajY _ hB
  have q7:(w9 ⟨(fh ⟨0,am,(M am:Y),0,cs,os,ks,gs,bs,am⟩).t5,gs,(M gs:Y),0,cs,os,ks,gs,bs,am,aq (M cs:Y).toNat ((0:Y),((0:Y),(0:Y)))⟩).b3=HN cs gs am (M gs):=q7
  refine ⟨λc=>?_,λ_=>⟨⟨hA,rfl,rfl⟩,?_⟩⟩
  ·exfalso
   rw [hv,hl] at c
   simp at c
  ·rw [q1]
   refine ⟨λh=>Ai,λ_=>⟨A0,⟨rfl,AG⟩,⟨hB,rfl,rfl⟩,A0,?_⟩⟩
   show LV.tup _=LV.tup _
   rw [C0,DA,q7]
 ·cases h)
def oy:Array Tmp×Code×Code:=((rangesIn<|f30.body.getD .skip)[0]?).getD (#[],.skip,.skip)
def abz:aKN:=oy.1
def ac4:bC:=oy.2.1
def ac2:bC:=oy.2.2
structure Li where
 (c t7 t8 t11:Y)
 BJ:aJ
 FB:aF
 F7:aP
 F8:aG
 FC:aQ
 (Gr H3 H0:Y)
 b2:aM
 b3:Y
 b4:aKO
 Ki:aJ
 Km:aF
 Kj:aP
 Kk:aG
 Ky:aQ
 st:LS
def yL:=lN (bN f112 0) 0
def Ym (s:Li):T (Rd Li):=letI a:=CY<|AY s.BJ s.c;letI b:=AA<|s.t11+1;letI d:=M s.BJ;.br (an<|s.t11<3) (.ix s.c (M s.b4)<|.br (s.t11==0) (.ix s.c d<|.br (an<|(gx (e:=.pair A7 Ag) s.b4 s.c).1>a) (.so (.ret) {s with Gr:=s.c,H3:=s.t11,H0:=(gx (e:=.pair A7 Ag) s.b4 s.c).1,b2:=U,b3:=(0:Y),st:=.done<|.ret})<|.nx {s with t11:=b})<|.br (s.t11==1) (.ix s.c d<|.br (an<|(gx (e:=.pair A7 Ag) s.b4 s.c).2.1>a) (.so (.ret) {s with Gr:=s.c,H3:=s.t11,H0:=(gx (e:=.pair A7 Ag) s.b4 s.c).2.1,b2:=U,b3:=(0:Y),st:=.done<|.ret})<|.nx {s with t11:=b})<|.br (s.t11==2) (.ix s.c d<|.br (an<|(gx (e:=.pair A7 Ag) s.b4 s.c).2.2>a) (.so (.ret) {s with Gr:=s.c,H3:=s.t11,H0:=(gx (e:=.pair A7 Ag) s.b4 s.c).2.2,b2:=U,b3:=(0:Y),st:=.done<|.ret})<|.nx {s with t11:=b})<|.no /-  -/)<|.so (.exit 2) s
def Zy (s:Li):Prop:=s.st=.ready/\s.t11=0/\(0<=s.c/\s.c<(M s.b4:Y))/\s.c<(M s.BJ:Y)
def Zb (s:Li):Prop:=s.st=.ready/\(0<=s.t11/\s.t11<=3)/\(0<=s.c/\s.c<(M s.b4:Y))/\s.c<(M s.BJ:Y)
def iM (s:Li):aC:=(3-s.t11).toNat
def ad8 (x:Ex) (s s':Li):Prop:=True
def azK:∀s,Zy s->Zb s:=by
 rintro s ⟨h,h0,h1⟩
 exact ⟨h,A0,h1⟩
def atU:Da Zb iM ad8 Ym:=by
 intro s hI;obtain ⟨ht,h0,h1,h2⟩:=hI;refine allR_ite (λc1=>?_) λc1=>?_
 ·refine allR_ite (λc2=>?_) (λc2=>?_)
  ·refine allR_ite (λc3=>?_) (λc3=>?_)
   ·trivial
   ·exact aHs
  ·refine allR_ite (λc3=>?_) (λc3=>?_)
   ·refine allR_ite (λc4=>?_) (λc4=>?_)
    ·trivial
    ·exact aHs
   ·refine allR_ite (λc4=>?_) (λc4=>?_)
    ·refine allR_ite (λc5=>?_) (λc5=>?_)
     ·trivial
     ·have c1:s.t11<3:=AQ
      rw [AH (x:=s.t11+1)];exact ⟨⟨ht,⟨A8,A8⟩,h1,h2⟩,by simp only [iM];omega⟩
    ·exfalso
     simp only [AT,C4,ne_eq] at*;omega
 ·trivial
def Pb:LpD Li:=⟨7,22,[0,3,7,8,11],[],λs=>[.yld 6,s.c,s.t7,s.t8,s.t11],λs=>[⟨[s.BJ,s.FB,s.F7,s.F8,s.FC],28,.cl,X⟩,⟨[s.Gr,s.H3,s.H0],104,.cl,X⟩,⟨[s.b2],4,.cl,X⟩,⟨[s.b3],52,.cl,X⟩,⟨[.xl (.pair A7 Ag) s.b4],168,.cl,X⟩,⟨[s.Ki,s.Km,s.Kj,s.Kk,s.Ky],28,.cl,X⟩,⟨[.junk,.junk,.own 0 0,.junk,.own 1 0,.own 2 0,.own 3 0,.own 4 0,.junk,.v<|.tuple #[],.v<|.tuple #[],.junk,.junk,.junk,.junk,.junk,.junk,.junk,.junk,.junk,.junk,.junk,.v<|.tuple #[],.v<|.tuple #[],.v<|.tuple #[],.v<|.tuple #[],.v<|.tuple #[],.v<|.tuple #[],.v<|.tuple #[],.v<|.tuple #[],.v<|.tuple #[],.v<|.tuple #[],.v<|.tuple #[],.v<|.tuple #[],.v<|.tuple #[],.v<|.tuple #[],.v<|.tuple #[],.v<|.tuple #[],.v<|.tuple #[],.v<|.tuple #[],.v<|.tuple #[],.v<|.tuple #[],.v<|.tuple #[],.v<|.tuple #[],.v<|.tuple #[],.v<|.tuple #[],.junk],0,.lrec abz ac4 ac2 s.st,X⟩],λv b=>⟨AJ v 1,AJ v 2,AJ v 3,AJ v 4,AE AX b 0 0,AE .str b 0 1,AE Ad b 0 2,AE AZ b 0 3,AE Ae b 0 4,Af b 1 0,Af b 1 1,Af b 1 2,Ik b 2 0,Af b 3 0,AE (.pair A7 Ag) b 4 0,AE AX b 5 0,AE .str b 5 1,AE Ad b 5 2,AE AZ b 5 3,AE Ae b 5 4,.ready⟩,Ym,λs r=> {r with c:=s.c,t7:=s.t7,t8:=s.t8,BJ:=s.BJ,FB:=s.FB,F7:=s.F7,F8:=s.F8,FC:=s.FC,b4:=s.b4,Ki:=s.Ki,Km:=s.Km,Kj:=s.Kj,Kk:=s.Kk,Ky:=s.Ky},λs=> {s with st:=.ready},λx s=> {s with st:=(match x with| .ret=>(.done<|.ret) | .exit 2=> .ready|_=> .ready)},[.ret,.exit 2],Zy,Zb,iM⟩
abbrev Jt:=Pb.run
abbrev gp:=Pb.exn
def XA:aN:=[aae,jd]
def mN:Ap:=kI XA<|l0 XA
def aqP:Rq Zb Ym:=by
 intro s hI;refine ⟨λc1=>⟨?_,λc2=>⟨?_,λ_=>trivial,λ_=>trivial⟩,λc2=>⟨λc4=>⟨?_,λ_=>trivial,λ_=>trivial⟩,λc4=>⟨λc6=>⟨?_,λ_=>trivial,λ_=>trivial⟩,λc6=>?_⟩⟩⟩,λ_=>trivial⟩
 iterate 4 · (obtain ⟨ht,h0,h1,h2⟩:=hI;omega)
 ·(exfalso;obtain ⟨ht,h0,h1,h2⟩:=hI;simp only [AT,C4,ne_eq] at*;omega)
def aE8:Pb.Ok:={}
def aD5:Pb.Pf (ad8):=⟨azK,λs h=>by
 obtain ⟨c,t7,t8,t11,BJ,FB,F7,F8,FC,Gr,H3,H0,b2,b3,b4,Ki,Km,Kj,Kk,Ky,st⟩:=s
 have e:=h.1
 subst e;rfl,atU,aqP⟩
def aij:SA 7 yL Pb:=s2 aE8 aD5 XA mN
def alN:Rs Zy gp Jt (λs:Li=>JN (CY<|AY s.BJ s.c) (gLi s.b4 s.c) s.t11) (λx s' (v:aM)=>(x=.ret/\v=X/\s'.b2=U/\s'.b3=0)\/(x=.exit 2/\v=U)):=Cq aE8 aD5 (λs hI=>by
  show allR _ _ ((Ym s).rd s)
  obtain ⟨ht,h0,h1,h2⟩:=hI;refine allR_ite (λc1=>?_) λc1=>?_
  ·refine allR_ite (λc2=>?_) (λc2=>?_)
   ·refine allR_ite (λc3=>?_) (λc3=>?_)
    ·refine .inl ⟨rfl,?_,rfl,rfl⟩
     have c3:(gLi s.b4 s.c).1>CY (AY s.BJ s.c):=CW c3
     exact s9
    ·have c1:s.t11<3:=AQ
     rw [AH (x:=s.t11+1)]
     have c3:¬(gLi s.b4 s.c).1>CY (AY s.BJ s.c):=I0 c3
     exact rY
   ·refine allR_ite (λc3=>?_) (λc3=>?_)
    ·refine allR_ite (λc4=>?_) (λc4=>?_)
     ·refine .inl ⟨rfl,?_,rfl,rfl⟩
      have c4:(gLi s.b4 s.c).2.1>CY (AY s.BJ s.c):=CW c4
      exact s9
     ·have c1:s.t11<3:=AQ
      rw [AH (x:=s.t11+1)]
      have c4:¬(gLi s.b4 s.c).2.1>CY (AY s.BJ s.c):=I0 c4
      exact rY
    ·refine allR_ite (λc4=>?_) (λc4=>?_)
     ·refine allR_ite (λc5=>?_) (λc5=>?_)
      ·refine .inl ⟨rfl,?_,rfl,rfl⟩
       have c5:(gLi s.b4 s.c).2.2>CY (AY s.BJ s.c):=CW c5
       exact s9
      ·have c1:s.t11<3:=AQ
       rw [AH (x:=s.t11+1)]
       have c5:¬(gLi s.b4 s.c).2.2>CY (AY s.BJ s.c):=I0 c5
       exact rY
     ·exfalso
      simp only [AT,C4,ne_eq] at*;omega
  ·have c1:3<=s.t11:=AQ
   refine .inr ⟨rfl,?_⟩;unfold JN;simp only [AP,C6,AT];omega)
structure IH where
 (t7 t8:Y)
 BJ:aJ
 FB:aF
 F7:aP
 F8:aG
 FC:aQ
 (Gr H3 H0:Y)
 b2:aM
 b3:Y
 b4:aKO
 Ki:aJ
 Km:aF
 Kj:aP
 Kk:aG
 Ky:aQ
 st:LS
def yM:=bN f112 0
def Gt (s:IH):Li:=(⟨s.t8,s.t7,s.t8,0,s.BJ,s.FB,s.F7,s.F8,s.FC,s.Gr,s.H3,s.H0,s.b2,s.b3,s.b4,s.Ki,s.Km,s.Kj,s.Kk,s.Ky,.ready⟩:Li)
def oo (s:IH):T (Rd IH):=
 .br (an<|s.t8<s.t7) (.req (Pb.q<|Gt s)<|.br (isEx (gp<|Gt s)<|.ret) (.so (.ret) {s with Gr:=(Jt<|Gt s).Gr,H3:=(Jt<|Gt s).H3,H0:=(Jt<|Gt s).H0,b2:=(Jt<|Gt s).b2,b3:=(Jt<|Gt s).b3,st:=.done<|.ret})<|.nx {s with t8:=AA<|s.t8+1,Gr:=(Jt<|Gt s).Gr,H3:=(Jt<|Gt s).H3,H0:=(Jt<|Gt s).H0,b2:=(Jt<|Gt s).b2,b3:=(Jt<|Gt s).b3}) (.so (.exit 0) s)
def Zz (s:IH):Prop:=s.st=.ready/\s.t8=0/\s.t7=(M s.BJ:Y)/\s.t7<=1000/\M s.b4=M s.BJ
def Ut (s:IH):Prop:=s.st=.ready/\(0<=s.t8/\s.t8<=s.t7)/\s.t7=(M s.BJ:Y)/\s.t7<=1000/\M s.b4=M s.BJ
def mF (s:IH):aC:=(s.t7-s.t8).toNat
def ad9 (x:Ex) (s s':IH):Prop:=True
def ayn:∀s,Zz s->Ut s:=by
 rintro s ⟨h,h0,h1⟩
 exact ⟨h,A0,h1⟩
def aGB (s:IH) (hI:Ut s) (c1:s.t8<s.t7):Zy (Gt s):=by
 obtain ⟨ht,⟨h0,h1⟩,h2,h3,h4⟩:=hI;exact ⟨rfl,rfl,⟨h0,by show s.t8<(M s.b4:Y);omega⟩,by show s.t8<(M s.BJ:Y);omega⟩
def atV:Da Ut mF ad9 oo:=by
 intro s hI;obtain ⟨ht,⟨h0,h1⟩,h2,h3,h4⟩:=hI;refine allR_ite (λc1=>allR_ite (λc2=>trivial) λc2=>?_) λc1=>trivial
 have c1:s.t8<s.t7:=A8
 rw [AH (x:=s.t8+1)];exact ⟨⟨ht,⟨A8,A8⟩,h2,h3,h4⟩,by simp only [mF];omega⟩
def QF:LpD IH:=⟨7,22,[0,7,8],[],λs=>[.yld 6,s.t7,s.t8],λs=>[⟨[s.BJ,s.FB,s.F7,s.F8,s.FC],28,.cl,X⟩,⟨[s.Gr,s.H3,s.H0],104,.cl,X⟩,⟨[s.b2],4,.cl,X⟩,⟨[s.b3],52,.cl,X⟩,⟨[.xl (.pair A7 Ag) s.b4],168,.cl,X⟩,⟨[s.Ki,s.Km,s.Kj,s.Kk,s.Ky],28,.cl,X⟩,⟨[.junk,.junk,.own 0 0,.junk,.own 1 0,.own 2 0,.own 3 0,.own 4 0,.junk,.v<|.tuple #[],.v<|.tuple #[],.junk,.junk,.junk,.junk,.junk,.junk,.junk,.junk,.junk,.junk,.junk,.v<|.tuple #[],.v<|.tuple #[],.v<|.tuple #[],.v<|.tuple #[],.v<|.tuple #[],.v<|.tuple #[],.v<|.tuple #[],.v<|.tuple #[],.v<|.tuple #[],.v<|.tuple #[],.v<|.tuple #[],.v<|.tuple #[],.v<|.tuple #[],.v<|.tuple #[],.v<|.tuple #[],.v<|.tuple #[],.v<|.tuple #[],.v<|.tuple #[],.v<|.tuple #[],.v<|.tuple #[],.v<|.tuple #[],.v<|.tuple #[],.v<|.tuple #[],.v<|.tuple #[],.junk],0,.lrec abz ac4 ac2 s.st,X⟩],λv b=>⟨AJ v 1,AJ v 2,AE AX b 0 0,AE .str b 0 1,AE Ad b 0 2,AE AZ b 0 3,AE Ae b 0 4,Af b 1 0,Af b 1 1,Af b 1 2,Ik b 2 0,Af b 3 0,AE (.pair A7 Ag) b 4 0,AE AX b 5 0,AE .str b 5 1,AE Ad b 5 2,AE AZ b 5 3,AE Ae b 5 4,.ready⟩,oo,λs r=> {r with t7:=s.t7,BJ:=s.BJ,FB:=s.FB,F7:=s.F7,F8:=s.F8,FC:=s.FC,b4:=s.b4,Ki:=s.Ki,Km:=s.Km,Kj:=s.Kj,Kk:=s.Kk,Ky:=s.Ky},λs=> {s with st:=.ready},λx s=> {s with st:=(match x with| .ret=>(.done<|.ret) | .exit 0=> .ready|_=> .ready)},[.ret,.exit 0],Zz,Ut,mF⟩
abbrev We:=QF.run
abbrev X1:=QF.exn
def aqQ:Rq Ut oo:=by
 intro s hI;refine ⟨λc1=>⟨?_,λ_=>trivial,λ_=>trivial⟩,λ_=>trivial⟩
 ·exact ⟨aGB s hI A8,rfl,rfl⟩
def aDh:QF.Ok:={}
def aD6:QF.Pf (ad9):=⟨ayn,λs h=>by
 obtain ⟨t7,t8,BJ,FB,F7,F8,FC,Gr,H3,H0,b2,b3,b4,Ki,Km,Kj,Kk,Ky,st⟩:=s
 have e:=h.1
 subst e;rfl,atV,aqQ⟩
def aik:SA 7 yM QF:=LpD.snd aDh aD6 (code_soundA (Γ:=XA) (K:=mN) (L:=(byId (λi=>if i=4 then Pb.lp else noLoops i))) (gk XA) mN.h yM (λb hb=>by
 rw [show loopsIn _=[yL] by kernel_rfl] at hb
 simp only [Au,BX,BV] at hb;subst hb;exact aij)) λs=>AO
def alO:Rs Zz X1 We (λs:IH=>((au<|M s.BJ).drop s.t8.toNat).all λo=>ckO (CY<|AY s.BJ o)<|D8 s.b4 o) (λx s' (v:aM)=>(x=.ret/\v=X/\s'.b2=U/\s'.b3=0)\/(x=.exit 0/\v=U)):=Cq aDh aD6 (λs hI=>by
  have hin:=λc1=>aGB s hI c1
  obtain ⟨ht,⟨h0,h1⟩,h2,h3,h4⟩:=hI;refine allR_ite (λc1=>?_) λc1=>?_
  ·have c1:s.t8<s.t7:=AQ
   have q:=alN _<|hin c1
   have e:((au<|M s.BJ).drop s.t8.toNat).all (λo=>ckO (CY<|AY s.BJ o)<|D8 s.b4 o)=(JN (CY<|AY s.BJ s.t8) (gLi s.b4 s.t8) 0&&((au<|M s.BJ).drop (s.t8+1).toNat).all (λo=>ckO (CY<|AY s.BJ o)<|D8 s.b4 o)):=by
    rw [OH Cf,Gm,cM,show (s.t8+1).toNat=s.t8.toNat+1 by omega,C2 h0,azJ]
    rfl
   refine allR_ite (λc2=>?_) λc2=>?_
   ·rcases q with ⟨q1,q2,q3,q4⟩ |⟨q1,q2⟩
    ·refine .inl ⟨rfl,?_,q3,q4⟩
     rw [e]
     have q2:JN (CY<|AY s.BJ s.t8) (gLi s.b4 s.t8) 0=false:=q2
     grind
    ·rw [show gp (Gt s)=_ from q1] at c2
     cases c2
   ·rcases q with ⟨q1,q2,q3,q4⟩ |⟨q1,q2⟩
    ·rw [show gp (Gt s)=_ from q1] at c2
     cases c2
    ·show List.all _ _=List.all _ _
     rw [e]
     have q2:JN (CY<|AY s.BJ s.t8) (gLi s.b4 s.t8) 0=true:=q2
     rw [q2,DP,AH (x:=s.t8+1)]
  ·have c1:s.t7<=s.t8:=AQ
   refine .inr ⟨rfl,?_⟩;rw [Dj Cf];rfl)
def vk1 (cs:aJ) (os:aF) (ks:aP) (gs:aG) (bs:aQ) (am:aB):Y:=if (an (M am=M gs)&&isEx (X1 ⟨(M cs:Y),0,cs,os,ks,gs,bs,0,0,0,X,0,Hu cs gs am,cs,os,ks,gs,bs,.ready⟩) (.ret))=U then (We ⟨(M cs:Y),0,cs,os,ks,gs,bs,0,0,0,X,0,Hu cs gs am,cs,os,ks,gs,bs,.ready⟩).Gr else 0
def vk2 (cs:aJ) (os:aF) (ks:aP) (gs:aG) (bs:aQ) (am:aB):Y:=if (an (M am=M gs)&&isEx (X1 ⟨(M cs:Y),0,cs,os,ks,gs,bs,0,0,0,X,0,Hu cs gs am,cs,os,ks,gs,bs,.ready⟩) (.ret))=U then (We ⟨(M cs:Y),0,cs,os,ks,gs,bs,0,0,0,X,0,Hu cs gs am,cs,os,ks,gs,bs,.ready⟩).H3 else 0
def vk3 (cs:aJ) (os:aF) (ks:aP) (gs:aG) (bs:aQ) (am:aB):Y:=if (an (M am=M gs)&&isEx (X1 ⟨(M cs:Y),0,cs,os,ks,gs,bs,0,0,0,X,0,Hu cs gs am,cs,os,ks,gs,bs,.ready⟩) (.ret))=U then (We ⟨(M cs:Y),0,cs,os,ks,gs,bs,0,0,0,X,0,Hu cs gs am,cs,os,ks,gs,bs,.ready⟩).H0 else 0
def aAa:aD->T LV
 | [.agg [.xl (.pair .str (.pair (.int J) (.pair (.int J) (.pair (.int J) (.pair (.pair (.int J) (.int J)) (.pair (.int J) (.pair (.int J) (.pair (.int J) (.pair (.int J) (.int J)))))))))) cs,.xl (.str) os,.xl (.pair .str (.pair (.int J) (.pair (.int J) (.int J)))) ks,.xl (.pair .str (.pair (.int J) (.pair (.int J) (.pair (.int J) (.pair (.int J) (.pair (.int J) (.pair (.int J) (.int J)))))))) gs,.xl (.pair .str (.int J)) bs],.xl (.int J) am]=> .req (Av cs os ks gs bs=U/\(M am=M gs->∀k:aC,k<M am->0<=gi am k/\gi am k<=80)) (.tu #[.agg #[vk1 cs os ks gs bs am,vk2 cs os ks gs bs am,vk3 cs os ks gs bs am],.bool<|an (M am=M gs)&&!Cw cs gs am,Fw gs am])
 |_=> .no
def lV:aN:=[aae,jd]
def asT:Ap:=kI lV<|la 1 func112 aik<|l0 lV
def PC:=vo (S:=aAa) func30 lV asT (λargs lv h=>by
 unfold aAa at h;split at h
 ·rename_i cs os ks gs bs am
  refine Al (letI b:=(M cs:Y);letI d:=Hu cs gs am;letI a:=(We (⟨b,0,cs,os,ks,gs,bs,0,0,0,X,0,d,cs,os,ks,gs,bs,.ready⟩:IH));.req (Av cs os ks gs bs=U/\(M am=M gs->∀k:aC,k<M am->0<=gi am k/\gi am k<=80))<|.br ((Fw gs am) !=0) (.tu #[.agg #[(0:Y),(0:Y),(0:Y)],X,(1:Y)])<|.req (QF.q (⟨b,0,cs,os,ks,gs,bs,0,0,0,X,0,d,cs,os,ks,gs,bs,.ready⟩:IH))<|.br (isEx (X1 (⟨b,0,cs,os,ks,gs,bs,0,0,0,X,0,d,cs,os,ks,gs,bs,.ready⟩:IH))<|.ret) (.tu #[.agg #[a.Gr,a.H3,a.H0],a.b2,a.b3])<|.tu #[.agg #[(0:Y),(0:Y),(0:Y)],X,(0:Y)]) ?_;obtain ⟨hq,rfl⟩:=h
  have hv:=hq.1
  have hb:=(Ci.1 hv).1
  refine ⟨hq,λc=>?_,λc=>?_⟩
  ·have hl:¬(M am)=M gs:=λh=>by unfold Fw at c;rw [AB h] at c;cases c
   unfold vk1 vk2 vk3 Fw;simp only [AD hl,GU hl,NH,Fz,EZ];rfl
  have hl:M am=M gs:=by
   unfold Fw at c;split at c
   ·assumption
   ·cases c
  have hX:Hu cs gs am=HN cs gs am (M gs):=AB hl
  have hY:Fw gs am=0:=AB hl
  rw [hY,CB hl,DP]
  have hE:Zz ⟨(M cs:Y),0,cs,os,ks,gs,bs,0,0,0,X,0,(Hu cs gs am),cs,os,ks,gs,bs,.ready⟩:=⟨rfl,rfl,rfl,aJd,by show M (Hu cs gs am)=M cs;rw [hX];exact j5 (gC hv) (gD hv) _<|Ak _⟩
  refine ⟨⟨hE,rfl,rfl⟩,?_⟩
  have e:Cw cs gs am=((au<|M cs).drop (0:Y).toNat).all (λo=>ckO (CY<|AY cs o)<|D8 (Hu cs gs am) o):=by rw [hX];rfl
  rcases alO _ hE with ⟨q1,q2,q3,q4⟩ |⟨q1,q2⟩
  ·have q2:Cw cs gs am=false:=e.trans q2
   unfold vk1 vk2 vk3;simp only [CB hl,DP];rw [q1,q3,q4,q2];exact ⟨λ_=>rfl,λh=>Ai⟩
  ·have q2:Cw cs gs am=true:=e.trans q2
   unfold vk1 vk2 vk3;simp only [CB hl,DP];rw [q1,q2];exact ⟨λh=>Ai,λ_=>rfl⟩
 ·cases h)
def j7 {cs:aJ}{os:aF}{ks:aP}{gs:aG}{bs:aQ}(hs:Av cs os ks gs bs=U) {k:aC}(hk:k<M (BT gs)):0<=gi (BT gs) k/\gi (BT gs) k<=80:=by
 have hl:M (BT gs)=M gs:=HY
 rw [show gi (BT gs) (k:Y)=C7 (AF gs k) from MH A0 A0]
 have:=Kp hs (c:=(k:Y)) A0 A0
 unfold Ek at this;simp only [AP] at this
 have:=iN this.2.2
 omega
structure Mb where
 m:aG
 (k i:Y)
 out:aB
def xZ:=bN f84 0
def nM (s:Mb):T (Rd Mb):=letI a:=s.out.set s.i.toNat (AF s.m s.i).2.2.2.2.2.2.1;.br (an<|s.i<s.k) (.ix s.i (M s.m)<|.ik s.i (M s.out)<|.re (M s.out) a<|.nx {s with i:=AA<|s.i+1,out:=a})<|.rl s.out<|.so (.exit 0) s
def bP (s:Mb):Prop:=s.i=0/\s.k=(M s.m:Y)/\s.k<=1000/\M s.out=M s.m/\(∀j,0<=j->j<s.k->gi s.out j=0)/\True
def Te (s:Mb):Prop:=(0<=s.i/\s.i<=s.k)/\s.k=(M s.m:Y)/\s.k<=1000/\M s.out=M s.m/\(∀j,0<=j->j<s.k->gi s.out j=if j<s.i then C7 (AF s.m j) else 0)/\True
def kF (s:Mb):aC:=(s.k-s.i).toNat
def qY (x:Ex) (s s':Mb):Prop:=x=.exit 0/\s'.out=Fb (M s'.m) (λj=>C7<|AF s'.m j)
def ax3:∀s,bP s->Te s:=by
 exact OT
def aqh:Da Te kF qY nM:=by
 intro s hI;obtain ⟨⟨h0,h1⟩,h2,h3,h4,h5,h6⟩:=hI;refine allR_ite (λc1=>?_) λc1=>?_
 ·have c1:s.i<s.k:=AQ
  rw [AH (x:=s.i+1)];refine ⟨⟨⟨A8,A8⟩,h2,h3,A8,λj j0 j1=>?_,h6⟩,by simp only [kF];omega⟩
  simp only;rw [H5 h0 W8 j0];exact cg
 ·exact Vq
def Pg:LpD Mb:=⟨0,25,[3,11,12,13],[],λs=>[.os 0 1 0<|M s.out,s.m,s.k,s.i],λs=>[bV 3 A7 s.out],λv b=>⟨As AZ v 1,AJ v 2,AJ v 3,AV A7 b 0⟩,nM,λs r=> {r with m:=s.m,k:=s.k},λs=>s,λ_ s=>s,[.exit 0],bP,Te,kF⟩
abbrev w8:=Pg.run
abbrev akf:=Pg.exn
def apd:Rq Te nM:=by
 exact qn
def aF3:aN:=[]
def aEG:Pg.Ok:={}
def aCK:Pg.Pf (qY):=⟨ax3,λs h=>rfl,aqh,apd⟩
def ahf:SA 0 xZ Pg:=s1 aEG aCK aF3 kN
def akD:Fi bP Te qY akf w8:=LpD.fin aEG aCK
def aAv:aD->T LV
 | .agg a::r=>s5 a λcs os ks gs bs=>(match r with
  | []=> .req ((M gs:Y)<=1000) (.ok<|.xl A7<|BT gs)
  |_=> .no)
 |_=> .no
def XR:=vm (S:=aAv) func84 aF3 kN (L:=(λi=>if i=3 then Pg.lp else noLoops i)) (λb hb=>by
 rw [show loopsIn _=[xZ] by kernel_rfl] at hb
 simp only [Au,BX,BV] at hb;subst hb;exact ahf) (λargs lv h=>by
 unfold aAv at h;split at h
 case h_2=>cases h
 replace h:=GB h
 obtain ⟨cs,os,ks,gs,bs,rfl,h⟩:=h;split at h
 ·refine Al (letI c:=(M gs:Y);letI a:=(aq c.toNat (0:Y));letI b:=(w8 (⟨gs,c,0,a⟩:Mb));.rm 8 c<|.re c.toNat a<|.req (Pg.q (⟨gs,c,0,a⟩:Mb))<|.rz b.out<|.ok<|.xl A7<|(b.out.drop 0).take<|M b.out) ?_
  obtain ⟨hn,rfl⟩:=h
  have hE:bP ⟨gs,(M gs:Y),0,aq (M gs:Y).toNat 0⟩:=⟨rfl,rfl,hn,AG,λj _ _=>IF,ak⟩
  obtain ⟨_,_,q1,q2⟩:=akD _ hE
  have q2:(w8 ⟨gs,(M gs:Y),0,aq (M gs:Y).toNat 0⟩).out=BT gs:=q2
  refine ⟨A0,⟨rfl,AG⟩,⟨hE,rfl,rfl⟩,A0,?_⟩
  show LV.xl _ _=_
  rw [C0,DA,q2]
 ·cases h)
def aAt:aD->T LV
 | .agg a::r=>s5 a λcs os ks gs bs=>(match r with
  | []=> .req (Av cs os ks gs bs=U) (.ok<|.v<|.bool<|!Cw cs gs (BT gs))
  |_=> .no)
 |_=> .no
def as1:aN:=[PC,XR]
def XQ:=vo (S:=aAt) func33 as1 kN (λargs lv h=>by
 unfold aAt at h;split at h
 case h_2=>cases h
 replace h:=GB h
 obtain ⟨cs,os,ks,gs,bs,rfl,h⟩:=h;split at h
 ·refine Al (.req ((M gs:Y)<=1000)<|.req (Av cs os ks gs bs=U/\(M (BT gs)=M gs->∀k:aC,k<M (BT gs)->0<=gi (BT gs) k/\gi (BT gs) k<=80))<|.ok<|.v<|.bool<|((Fw gs<|BT gs)==0)&&(an (M (BT gs)=M gs)&&!Cw cs gs (BT gs))) ?_
  obtain ⟨hs,rfl⟩:=h
  have hg:=(Ci.1 hs).1
  have hl:M (BT gs)=M gs:=HY
  have hY:Fw gs (BT gs)=0:=AB hl
  refine ⟨A0,⟨hs,λ_ k hk=>j7 hs hk⟩,?_⟩
  rw [hY,CB hl];rfl
 ·cases h)
def aBe:aD->T LV
 | [.v (.agg ⟨[.string nm,ag J at_,ag J ph,ag J mn,ag J mx,ag J st,ag J fb,ag J ow]⟩),.v (.agg ⟨[ag J sp,ag J sa,ag J sl,.bool sw]⟩)]=> .ok (sV (nm,at_,ph,mn,mx,st,fb,ow) (sp,sa,sl,sw))
 |_=> .no
def axc:aN:=[Rp,Wj,aat]
def aBv:=vo (S:=aBe) func128 axc kN (λargs lv h=>by
 unfold aBe at h;split at h
 ·rename_i nm at_ ph mn mx st fb ow sp sa sl sw
  refine Al (.br (!(Gi ph mn mx st fb)) (.ok X)<|.br ((sp==0)&&((sa==0)&&((sl==0)&&(sw==X)))) (.ok U)<|.ok<|.v<|.bool<|(inB sp (0:Y) (5:Y))&&((inB sl (0:Y) (1000000:Y))&&((inB sa (0:Y) mx)&&(if sl !=0 then (!sw) ||(sp==5) else (sa==0)&&((!sw) ||(sp==5)))))) ?_
  obtain rfl:=h;refine ⟨λh1=>?_,λh1=>⟨λh2=>?_,λh2=>?_⟩⟩
  all_goals refine An (λz=>LV.v<|.bool z) ?_
  ·simp at h1;simp [sV,h1]
  ·simp at h1 h2
   obtain ⟨rfl,rfl,rfl,rfl⟩:=h2
   have:=S2.1 h1
   rw [OU,Jx]
   simp [h1];omega
  ·simp at h1
   unfold sV;simp only;rw [h1]
   by_cases hl:sl=0
   ·simp [hl]
   ·have:(sl !=0)=true:=du
    simp [this]
 ·cases h)
def aFu:aD->T LV
 | [.v (.agg ⟨[.string nm,ag J at_,ag J ph,ag J mn,ag J mx,ag J st,ag J fb,ag J ow]⟩),.v (.agg ⟨[ag J ek,ag J en,ag J em]⟩)]=> .req (ek≠0) (.ok<|evV mx ek en em)
 |_=> .no
def axb:aN:=[Wj]
def auk:=vo (S:=aFu) func142 axb kN (λargs lv h=>by
 unfold aFu at h;split at h
 ·rename_i nm at_ ph mn mx st fb ow ek en em
  refine Al (.br (ek==4) (.ok<|inB en (0:Y) (1:Y))<|.br (ek==6) (.ok<|inB en (0:Y) (2:Y))<|.br (ek==7) (.br (!(inB em (1:Y) (1000000:Y))) (.ok X)<|.ok<|inB en (0:Y) mx)<|.br (ek==0) (.ok<|inB en (0:Y) mx)<|.ok U) ?_;obtain ⟨h0,rfl⟩:=h;refine ⟨λh1=>?_,λh1=>⟨λh2=>?_,λh2=>⟨λh3=>⟨λh4=>?_,λh4=>?_⟩,λh3=>⟨λh4=>?_,λh4=>?_⟩⟩⟩⟩
  all_goals refine An (λz=>LV.v<|.bool z) ?_
  all_goals simp_all [evV]
 ·cases h)
def aBW:aD->T LV
 | [.v (.agg ⟨[ag J sp,ag J sa,ag J sl,.bool sw]⟩),.v (.agg ⟨[ag J ek,ag J en,ag J em]⟩)]=> .ok (.v<|.agg #[OE sp sw ek en,sa,sl,OD sw ek en])
 |_=> .no
def axa:aN:=[]
def an5:=vo (S:=aBW) func143 axa kN (λargs lv h=>by
 unfold aBW at h;split at h
 ·rename_i sp sa sl sw ek en em
  refine Al (.br (ek==4) (.br (en==1) (.ok<|.v<|.agg #[(3:Y),sa,sl,sw])<|.ok<|.v<|.agg #[(5:Y),sa,sl,sw])<|.br (ek==6) (.br (en==0) (.ok<|.v<|.agg #[(1:Y),sa,sl,.bool<|en==1])<|.ok<|.v<|.agg #[(5:Y),sa,sl,.bool<|en==1])<|.br (ek==2) (.br (!sw) (.ok<|.v<|.agg #[(0:Y),sa,sl,sw])<|.ok<|.v<|.agg #[sp,sa,sl,sw])<|.br (ek==9) (.br (!sw) (.ok<|.v<|.agg #[(1:Y),sa,sl,sw])<|.ok<|.v<|.agg #[sp,sa,sl,sw])<|.ok<|.v<|.agg #[sp,sa,sl,sw]) ?_;obtain rfl:=h
  have fin:∀(p:Y) (q:aM),p=OE sp sw ek en->q=OD sw ek en->LV.v (.agg #[ag J p,ag J sa,ag J sl,.bool q])=LV.v (.agg #[ag J<|OE sp sw ek en,ag J sa,ag J sl,.bool<|OD sw ek en]):=λp q h1 h2=>A8
  refine ⟨λh1=>⟨λh2=>?_,λh2=>?_⟩,λh1=>⟨λh2=>⟨λh3=>?_,λh3=>?_⟩,λh2=>⟨λh3=>⟨λh4=>?_,λh4=>?_⟩,λh3=>⟨λh4=>⟨λh5=>?_,λh5=>?_⟩,λh4=>?_⟩⟩⟩⟩
  all_goals refine fin _ _ ?_ ?_
  all_goals simp_all [OE,OD]
 ·cases h)
def aGj:aD->T LV
 | [.v (.agg ⟨[.string nm,ag J at_,ag J ph,ag J mn,ag J mx,ag J st,ag J fb,ag J ow]⟩),.v (.agg ⟨[ag J sp,ag J sa,ag J sl,.bool sw]⟩),.v (.agg ⟨[ag J ek,ag J en,ag J em]⟩)]=> .tu #[.agg #[(sN (nm,at_,ph,mn,mx,st,fb,ow) (sp,sa,sl,sw) ek en em).1,(sN (nm,at_,ph,mn,mx,st,fb,ow) (sp,sa,sl,sw) ek en em).2.1,(sN (nm,at_,ph,mn,mx,st,fb,ow) (sp,sa,sl,sw) ek en em).2.2.1,(sN (nm,at_,ph,mn,mx,st,fb,ow) (sp,sa,sl,sw) ek en em).2.2.2],sE (nm,at_,ph,mn,mx,st,fb,ow) (sp,sa,sl,sw) ek en em]
 |_=> .no
def pq:aN:=[aBv,Wj,auk,an5]
def axu:Ap:=kI pq<|l0 pq
def PD:=vo (S:=aGj) func96 pq axu (λargs lv h=>by
 unfold aGj at h;split at h
 ·rename_i nm at_ ph mn mx st fb ow sp sa sl sw ek en em
  refine Al (letI a:=SV<|ek.toNat*6+(sp.toNat*1+0);letI c:=AA<|sl-1;letI d:=OE sp sw ek en;letI f:=OD sw ek en;.br (!(sV (nm,at_,ph,mn,mx,st,fb,ow) (sp,sa,sl,sw))) (.tu #[.agg #[(0:Y),(0:Y),(0:Y),X],(1:Y)])<|.br (!(inB ek (1:Y) (9:Y))) (.tu #[.agg #[(0:Y),(0:Y),(0:Y),X],(9:Y)])<|.req (ek≠0)<|.br (!(evV mx ek en em)) (.tu #[.agg #[(0:Y),(0:Y),(0:Y),X],(1:Y)])<|.req (0<=ek/\ek<(10:Y))<|.req (0<=sp/\sp<(6:Y))<|.br (a==(-1)) (.tu #[.agg #[(0:Y),(0:Y),(0:Y),X],(6:Y)])<|.br (a==(-2)) (.br (ek==7) (.tu #[.agg #[sp,en,em,sw],(0:Y)])<|.br (ek==8) (.br ((if (0:Y)<c then AA (sl-1) else 0)==0) (.tu #[.agg #[sp,(0:Y),ag J (if (0:Y)<c then AA (sl-1) else 0),sw],(0:Y)])<|.tu #[.agg #[sp,sa,ag J (if (0:Y)<c then AA (sl-1) else 0),sw],(0:Y)])<|.br (ek==9) (.tu #[.agg #[sp,(0:Y),(0:Y),sw],(0:Y)])<|.tu #[.agg #[sp,sa,sl,sw],(0:Y)])<|.br (a==(-3)) (.br (ek==7) (.tu #[.agg #[d,en,em,f],(0:Y)])<|.br (ek==8) (.br ((if (0:Y)<c then AA (sl-1) else 0)==0) (.tu #[.agg #[d,(0:Y),ag J (if (0:Y)<c then AA (sl-1) else 0),f],(0:Y)])<|.tu #[.agg #[d,sa,ag J (if (0:Y)<c then AA (sl-1) else 0),f],(0:Y)])<|.br (ek==9) (.tu #[.agg #[d,(0:Y),(0:Y),f],(0:Y)])<|.tu #[.agg #[d,sa,sl,f],(0:Y)])<|.br (ek==7) (.tu #[.agg #[a,en,em,sw],(0:Y)])<|.br (ek==8) (.br ((if (0:Y)<c then AA (sl-1) else 0)==0) (.tu #[.agg #[a,(0:Y),ag J (if (0:Y)<c then AA (sl-1) else 0),sw],(0:Y)])<|.tu #[.agg #[a,sa,ag J (if (0:Y)<c then AA (sl-1) else 0),sw],(0:Y)])<|.br (ek==9) (.tu #[.agg #[a,(0:Y),(0:Y),sw],(0:Y)])<|.tu #[.agg #[a,sa,sl,sw],(0:Y)]) ?_
  obtain rfl:=h
  have bad:∀e,e≠0->(sE (nm,at_,ph,mn,mx,st,fb,ow) (sp,sa,sl,sw) ek en em)=e->LV.v (.tuple #[.agg #[ag J 0,ag J 0,ag J 0,.bool X],ag J e])=LV.v (.tuple #[.agg #[ag J (sN (nm,at_,ph,mn,mx,st,fb,ow) (sp,sa,sl,sw) ek en em).1,ag J (sN (nm,at_,ph,mn,mx,st,fb,ow) (sp,sa,sl,sw) ek en em).2.1,ag J (sN (nm,at_,ph,mn,mx,st,fb,ow) (sp,sa,sl,sw) ek en em).2.2.1,.bool (sN (nm,at_,ph,mn,mx,st,fb,ow) (sp,sa,sl,sw) ek en em).2.2.2],ag J<|sE (nm,at_,ph,mn,mx,st,fb,ow) (sp,sa,sl,sw) ek en em]):=λe h0 h1=>by
   unfold sN;rw [h1];simp only [AD h0]
  have good:∀(p q r:Y) (b:aM),(sE (nm,at_,ph,mn,mx,st,fb,ow) (sp,sa,sl,sw) ek en em)=0->p=GO sp sw ek en->q=sA sa sl ek en->r=sL sl ek em->b=sW sw ek en->LV.v (.tuple #[.agg #[ag J p,ag J q,ag J r,.bool b],ag J 0])=LV.v (.tuple #[.agg #[ag J (sN (nm,at_,ph,mn,mx,st,fb,ow) (sp,sa,sl,sw) ek en em).1,ag J (sN (nm,at_,ph,mn,mx,st,fb,ow) (sp,sa,sl,sw) ek en em).2.1,ag J (sN (nm,at_,ph,mn,mx,st,fb,ow) (sp,sa,sl,sw) ek en em).2.2.1,.bool (sN (nm,at_,ph,mn,mx,st,fb,ow) (sp,sa,sl,sw) ek en em).2.2.2],ag J<|sE (nm,at_,ph,mn,mx,st,fb,ow) (sp,sa,sl,sw) ek en em]):=λp q r b h0 h1 h2 h3 h4=>by
   unfold sN;rw [h0,h1,h2,h3,h4];simp only [BP]
  refine ⟨λh1=>bad 1 AS (by simp at h1;simp [sE,h1]),λh1=>⟨λh2=>bad 9 AS (by simp at h1 h2;simp [sE,h1,h2]),λh2=>?_⟩⟩
  simp only [G0] at h1 h2
  have h2':=B6.1 h2
  refine ⟨A0,λh3=>bad 1 AS (by simp at h3;simp [sE,h1,h2,h3]),λh3=>?_⟩
  simp only [G0] at h3;obtain ⟨g1,g2,g3,g4,g5,g6,g7,g8,g9⟩:=Jx.1 h1;simp only at g2 g3 g4 g5 g6 g7 g8 g9
  have hw:AA (sl-1)=sl-1:=AH
  have hn:(sE (nm,at_,ph,mn,mx,st,fb,ow) (sp,sa,sl,sw) ek en em)=if GO sp sw ek en<0 then 6 else 0:=by simp [sE,h1,h2,h3]
  have htk:(if (0:Y)<sl-1 then sl-1 else 0)=JU sl:=rfl
  rw [hw,htk];refine ⟨A0,A0,?_⟩
  have hz:sw=X\/(sw=U/\sp=5):=by cases sw<;>simp_all
  rw [auU A0 A0 A0 A0]
  clear h1 h2 h3 bad good g1 g4 g5 g6 g7 g9 hw htk
  rcases hz with rfl|⟨rfl,rfl⟩
  ·rcases nine h2'.1 h2'.2 with rfl|rfl|rfl|rfl|rfl|rfl|rfl|rfl|rfl<;>rcases azm g2 g3 with rfl|rfl|rfl|rfl|rfl|rfl
   all_goals simp [T.all,fS,sN,hn,GO,sA,sL,sW,OE,OD]
   all_goals (try omega)
   all_goals (by_cases h4:en=1<;>by_cases h5:en=0<;>simp_all)
  ·rcases nine h2'.1 h2'.2 with rfl|rfl|rfl|rfl|rfl|rfl|rfl|rfl|rfl
   all_goals simp [T.all,fS,sN,hn,GO,sA,sL,sW,OE,OD]
   all_goals (try omega)
 ·cases h)
def aGK:aD->T LV
 | [.v (.agg ⟨[.string nm,ag J at_,ag J ph,ag J mn,ag J mx,ag J st,ag J fb,ag J ow]⟩),.v (.agg ⟨[ag J sp,ag J sa,ag J sl,.bool sw]⟩)]=> .ok (BL (nm,at_,ph,mn,mx,st,fb,ow) (sp,sa,sl,sw))
 |_=> .no
def axX:aN:=[aBv]
def TB:=vo (S:=aGK) func90 axX kN (λargs lv h=>by
 unfold aGK at h;split at h
 ·rename_i nm at_ ph mn mx st fb ow sp sa sl sw
  refine Al (.br (!(sV (nm,at_,ph,mn,mx,st,fb,ow) (sp,sa,sl,sw))) (.ok (0:Y))<|.br sw (.ok mx)<|.br (sp !=4) (.ok (0:Y))<|.br (sl !=0) (.ok sa)<|.ok fb) ?_;obtain rfl:=h;refine ⟨λh1=>?_,λh1=>⟨λh2=>?_,λh2=>⟨λh3=>?_,λh3=>⟨λh4=>?_,λh4=>?_⟩⟩⟩⟩
  all_goals refine An (λz=>LV.v<|ag J z) ?_
  all_goals simp_all [BL]
 ·cases h)
structure KT where
 most:Y
 r:aM
 l:aB
 (n i:Y)
def aBE:=bN f134 0
def eU (s:KT):T (Rd KT):=
 .br (an<|s.i<s.n) (.ix s.i (M s.l)<|.br ((an<|(gi s.l s.i)<0) ||(an<|(gi s.l s.i)>s.most)) (.so (.ret) {s with r:=X})<|.nx {s with i:=AA<|s.i+1}) (.so (.exit 0) s)
def Qa (s:KT) (j:Y):aM:=inB (gi s.l j) 0 s.most
def fF (s:KT):Prop:=s.i=0/\0<=s.n/\s.n<=1000/\s.n=(M s.l:Y)
def WH (s:KT):Prop:=0<=s.i/\s.i<=s.n/\s.n<=1000/\(s.n=(M s.l:Y))/\∀j:aC,(j:Y)<s.i->Qa s j=U
def pR (s:KT):aC:=(s.n-s.i).toNat
def vP (x:Ex) (s s':KT):Prop:=(x=.exit 0/\∀j:aC,(j:Y)<s'.n->Qa s' j=U)\/(x=.ret/\s'.r=X/\∃j:aC,(j:Y)<s'.n/\Qa s' j=X)
def azk:∀s,fF s->WH s:=by
 exact I1
def av5:Da WH pR vP eU:=by
 intro s hI;unfold eU;obtain ⟨h0,h1,h2,h3,h4⟩:=hI;refine allR_ite (λc1=>allR_ite (λc2=>?_) λc2=>?_) λc1=>?_
 ·have c1:s.i<s.n:=AQ
  refine .inr ⟨rfl,rfl,s.i.toNat,A8,?_⟩
  have hg:Qa s s.i=false:=aJH
  exact hg
 ·have c1:s.i<s.n:=AQ
  have hg:Qa s s.i=true:=aJH
  rw [AH (x:=s.i+1)];refine ⟨⟨A8,A8,h2,h3,λj hj=>?_⟩,by simp only [pR];omega⟩
  exact Iv
 ·exact OW
def O8:LpD KT:=⟨0,21,[0,4,7,8,9],[],λs=>[s.most,s.r,.xl A7 s.l,s.n,s.i],λ_=>[],λv b=>⟨AJ v 0,DE v 1,As A7 v 2,AJ v 3,AJ v 4⟩,eU,λs r=> {s with r:=r.r,i:=r.i},λs=>s,λ_ s=>s,[.ret,.exit 0],fF,WH,pR⟩
abbrev aCi:=O8.run
abbrev aF9:=O8.exn
def avi:Rq WH eU:=by
 exact OV
def aF6:aN:=[]
def abQ:O8.Ok:={}
def abC:O8.Pf (vP):=⟨azk,λs h=>rfl,av5,avi⟩
def aoY:SA 0 aBE O8:=s1 abQ abC aF6 kN
def anH:Fi fF WH vP aF9 aCi:=LpD.fin abQ abC
def aFx:aD->T LV
 | [.v (ag J most),.xl (.int J) ns]=> .req (M ns<=1000) (.ok<|ns.all λp=>inB p 0 most)
 |_=> .no
def aau:=vm (S:=aFx) func134 aF6 kN (L:=(λi=>if i=2 then O8.lp else noLoops i)) (λb hb=>by
 rw [show loopsIn _=[aBE] by kernel_rfl] at hb
 simp only [Au,BX,BV] at hb;subst hb;exact aoY) (λargs lv h=>by
 unfold aFx at h;split at h
 ·rename_i most ns
  refine Al (letI a:=(M ns:Y);.req (O8.q (⟨most,X,ns,a,0⟩:KT))<|.br (isEx (aF9 (⟨most,X,ns,a,0⟩:KT))<|.ret) (.ok (aCi (⟨most,X,ns,a,0⟩:KT)).r)<|.ok U) ?_;obtain ⟨h0,rfl⟩:=h
  have hE:fF ⟨most,X,ns,(M ns:Y),0⟩:=⟨rfl,AR,AR,rfl⟩
  obtain ⟨s',hI,hq⟩:=anH _ hE;rw [aFk];refine ⟨⟨hE,rfl,rfl⟩,?_⟩;rcases hq with ⟨q1,q2⟩ |⟨q1,q2,j,q3,q4⟩<;>rw [q1]
  ·rw [show Ck (M ns) (λj=>inB (gi ns j) 0 most)=U from D3.2 q2]
   exact ⟨λh=>Ai,λ_=>rfl⟩
  ·rw [q2,show Ck (M ns) (λj=>inB (gi ns j) 0 most)=X from MP j q3 q4]
   exact ⟨λ_=>rfl,λh=>Ai⟩
 ·cases h)
def aGN:aD->T LV
 | [.v (.agg ⟨[ag J sr,ag J rg,.bool bk]⟩)]=> .ok (meV (sr,rg,bk))
 |_=> .no
def asG:aN:=[aau]
def aut:=vo (S:=aGN) func133 asG kN (λargs lv h=>by
 unfold aGN at h;split at h
 ·rename_i sr rg bk
  refine Al (.req (M ([sr])<=1000)<|.br (([sr]).all λp=>inB p 0 (1000000:Y)) (.br (an<|rg>=(-1000000000000000)) (.ok<|an<|rg<=1000000000000000)<|.ok X)<|.ok X) ?_
  obtain rfl:=h;refine ⟨AG,λc1=>⟨λc2=>?_,λc2=>?_⟩,λc1=>?_⟩
  all_goals refine An (λz=>LV.v<|.bool z) ?_
  all_goals simp only [Gm,List.all_nil,cj] at c1
  all_goals first|(simp_all [meV];done) |(simp_all [meV];omega)
 ·cases h)
def aGO:aD->T LV
 | [.v (.agg ⟨[ag J sr,ag J rg,.bool bk]⟩),.v (ag J a),.v (ag J p)]=> .tu #[.agg #[(Fu (sr,rg,bk) a p).1,(Fu (sr,rg,bk) a p).2.1,(Fu (sr,rg,bk) a p).2.2],Eu (sr,rg,bk) a p]
 |_=> .no
def lu:aN:=[aut,aau]
def asj:Ap:=kI lu<|l0 lu
def T8:=vo (S:=aGO) func92 lu asj (λargs lv h=>by
 unfold aGO at h;split at h
 ·rename_i sr rg bk a p
  refine Al (letI b:=AA<|2300*a;.br (!(meV (sr,rg,bk))) (.tu #[.agg #[(0:Y),(0:Y),X],(1:Y)])<|.req (M ([a])<=1000)<|.br (!(([a]).all λp=>inB p 0 (80:Y))) (.tu #[.agg #[(0:Y),(0:Y),X],(1:Y)])<|.req (M ([p])<=1000)<|.br (!(([p]).all λp=>inB p 0 (3:Y))) (.tu #[.agg #[(0:Y),(0:Y),X],(1:Y)])<|.br bk (.br (!(meV (sr,(AA<|rg-(AA<|b*p)),bk))) (.tu #[.agg #[(0:Y),(0:Y),X],(3:Y)])<|.tu #[.agg #[sr,(AA<|rg-(AA<|b*p)),bk],(0:Y)])<|.br (!(meV (sr,(AA<|rg+(AA<|b*p)),bk))) (.tu #[.agg #[(0:Y),(0:Y),X],(3:Y)])<|.tu #[.agg #[sr,(AA<|rg+(AA<|b*p)),bk],(0:Y)]) ?_
  obtain rfl:=h
  have fin:∀(x1 x2:Y) (x3:aM) (e:Y),(x1,x2,x3)=Fu (sr,rg,bk) a p->e=Eu (sr,rg,bk) a p->LV.v (.tuple #[.agg #[ag J x1,ag J x2,.bool x3],ag J e])=LV.v (.tuple #[.agg #[ag J (Fu (sr,rg,bk) a p).1,ag J (Fu (sr,rg,bk) a p).2.1,.bool (Fu (sr,rg,bk) a p).2.2],ag J<|Eu (sr,rg,bk) a p]):=by
   intro x1 x2 x3 e h1 h2;rw [h2,<-h1]
  have hw:meV (sr,rg,bk)=U->inB a 0 80=U->inB p 0 3=U->AA (rg-AA (AA (2300*a)*p))=rg-2300*a*p/\AA (rg+AA (AA (2300*a)*p))=rg+2300*a*p:=by
   intro h1 h2 h3
   simp [meV,inB] at h1 h2 h3
   have hm:0<=2300*a*p/\2300*a*p<=552000:=⟨Gl A0 A0,FV (Int.mul_le_mul (by omega:2300*a<=184000) (by omega:p<=3) A0 A0) A0⟩
   rw [AH (x:=2300*a),AH (x:=2300*a*p)];exact ⟨AH,AH⟩
  simp only [Gm,List.all_nil,cj];refine ⟨λc1=>?_,λc1=>⟨AG,λc2=>?_,λc2=>⟨AG,λc3=>?_,λc3=>?_⟩⟩⟩
  ·refine fin _ _ _ _ ?_ ?_<;>simp at c1<;>simp [Fu,Eu,mcB,c1]
  ·refine fin _ _ _ _ ?_ ?_<;>simp at c1 c2<;>simp [Fu,Eu,mcB,c1,c2]
  ·refine fin _ _ _ _ ?_ ?_<;>simp at c1 c2 c3<;>simp [Fu,Eu,mcB,c1,c2,c3]
  ·simp at c1 c2 c3
   obtain ⟨w1,w2⟩:=hw c1 c2 c3;rw [w1,w2];refine ⟨λc4=>⟨λc5=>?_,λc5=>?_⟩,λc4=>⟨λc5=>?_,λc5=>?_⟩⟩<;>subst c4<;>simp at c5<;>refine fin _ _ _ _ ?_ ?_<;>simp [Fu,Eu,mcB,mcR,c1,c2,c3,c5]
 ·cases h)
def aFa:aD->T LV
 | [.v (ag J n),.v (ag J a),.v (ag J b)]=> .ok (inB n a b)
 |_=> .no
def asF:aN:=[]
def Sf:=vo (S:=aFa) func36 asF kN (λargs lv h=>by
 unfold aFa at h;split at h
 ·rename_i n a b
  refine Al (.ok<|.v<|.bool<|(an<|n>=a)&&(an<|n<=b)) ?_;exact h
 ·cases h)
def aGW:aD->T LV
 | [.v (ag J n)]=> .ok (inB n (-200) 200)
 |_=> .no
def asE:aN:=[Sf]
def YM:=vo (S:=aGW) func32 asE kN (λargs lv h=>by
 unfold aGW at h;split at h
 ·rename_i n
  refine Al (.ok<|inB n (-200:Y) (200:Y)) ?_;exact h
 ·cases h)
def oX (e:Ty):LV->Option (List e.D)
 | .xl e' l=>match tyEq e' e with
  |some ⟨h⟩=>ah (castL h l)
  |none=>aj
 |_=>aj
def Gb {e:Ty}{x:LV}{l:List e.D}(h:oX e x=ah l):x=.xl e l:=by
 unfold oX at h;split at h
 ·split at h
  ·rename_i h2 _
   subst h2;cases h;rfl
  ·cases h
 ·cases h
def oI:LV->Option Int
 | .v (ag J n)=>ah n
 |_=>aj
def pG {x:LV}{n:Y}(h:oI x=ah n):x=.v (ag J n):=by
 unfold oI at h;exact sI
def oB:LV->Option Bool
 | .v (.bool n)=>ah n
 |_=>aj
def awM {x:LV}{n:aM}(h:oB x=ah n):x=.v (.bool n):=by
 unfold oB at h;exact sI
def N5:LV->Option PK
 | .agg [a0,a1,a2,a3,a4,a5,a6,a7,a8,a9,a10,a11,a12,a13,a14,a15,a16,a17,a18,a19]=>(oX AX a0).bind λcs=>(oX .str a1).bind λos=>(oX Ad a2).bind λks=>(oX AZ a3).bind λgs=>(oX Ae a4).bind λbs=>(oI a5).bind λtk=>(oB a6).bind λup=>(oX AK a7).bind λls=>(oI a8).bind λse=>(oX (.int aw) a9).bind λfl=>(oX Ag a10).bind λra=>(oI a11).bind λnx=>(oX Aq a12).bind λst=>(oX AK a13).bind λca=>(oX At a14).bind λmi=>(oX B8 a15).bind λme=>(oX Ac a16).bind λdm=>(oX B4 a17).bind λlk=>(oX A7 a18).bind λdr=>(oX A7 a19).bind λtg=>ah ⟨cs,os,ks,gs,bs,tk,up,ls,se,fl,ra,nx,st,ca,mi,me,dm,lk,dr,tg⟩
 |_=>aj
def Rm {x:LV}{p:PK}(h:N5 x=ah p):x=(p):=by
 unfold N5 at h;split at h
 ·simp only [Option.bind_eq_some_iff] at h
  obtain ⟨cs,h0,os,h1,ks,h2,gs,h3,bs,h4,tk,h5,up,h6,ls,h7,se,h8,fl,h9,ra,h10,nx,h11,st,h12,ca,h13,mi,h14,me,h15,dm,h16,lk,h17,dr,h18,tg,h19,h⟩:=h;cases h;rw [Gb h0,Gb h1,Gb h2,Gb h3,Gb h4,pG h5,awM h6,Gb h7,pG h8,Gb h9,Gb h10,pG h11,Gb h12,Gb h13,Gb h14,Gb h15,Gb h16,Gb h17,Gb h18,Gb h19]
 ·cases h
def Rl:=bN f14 0
def MX:aN:=[MT,YM,Sf]
def aiF:Sound prog AM (.loop Rl) (unrC prog AM MX noK 20 2 Rl):=unrC_sound (gk MX) kN.h 20 2 Rl
structure L6 where
 r:aM
 n:Y
 l:aB
 (m i:Y)
 p:PK
def xX:=bN f14 1
def nL (s:L6):T (Rd L6):=
 .br (an<|s.i<s.m) (.ix s.i (M s.l)<|.ix s.i (M s.p.cs)<|.br (!(inB (gi s.l s.i) (1:Y) (AY s.p.cs s.i).2.2.1)) (.so (.ret) {s with r:=X})<|.nx {s with i:=AA<|s.i+1}) (.so (.exit 2) s)
def PR (s:L6) (j:Y):aM:=inB (gi s.l j) 1 (AY s.p.cs j).2.2.1
def bM (s:L6):Prop:=s.i=0/\0<=s.m/\s.m<=1000/\s.m=(M s.l:Y)/\M s.l=M s.p.cs
def Tc (s:L6):Prop:=0<=s.i/\s.i<=s.m/\s.m<=1000/\(s.m=(M s.l:Y)/\M s.l=M s.p.cs)/\∀j:aC,(j:Y)<s.i->PR s j=U
def kC (s:L6):aC:=(s.m-s.i).toNat
def qW (x:Ex) (s s':L6):Prop:=(x=.exit 2/\∀j:aC,(j:Y)<s'.m->PR s' j=U)\/(x=.ret/\s'.r=X/\∃j:aC,(j:Y)<s'.m/\PR s' j=X)
def awy:∀s,bM s->Tc s:=by
 exact I1
def aqa:Da Tc kC qW nL:=by
 intro s hI;obtain ⟨h0,h1,h2,h3,h4⟩:=hI;refine allR_ite (λc1=>allR_ite (λc2=>?_) λc2=>?_) λc1=>?_
 ·have c1:s.i<s.m:=AQ
  refine .inr ⟨rfl,rfl,s.i.toNat,AR,?_⟩
  have hg:PR s s.i=false:=by unfold PR;simp_all
  exact hg
 ·have c1:s.i<s.m:=AQ
  have hg:PR s s.i=true:=by unfold PR;simp_all
  rw [AH (x:=s.i+1)];refine ⟨⟨A8,A8,h2,h3,λj hj=>?_⟩,by simp only [kC];omega⟩
  exact Iv
 ·exact dQ
def Nk:LpD L6:=⟨0,105,[1,2,3,61,62,63],[],λs=>[.own 0 0,s.r,s.n,.xl A7 s.l,s.m,s.i],λs=>[⟨[s.p.cs,s.p.os,s.p.ks,s.p.gs,s.p.bs,s.p.tk,s.p.up,s.p.ls,s.p.se,.xl (.int aw) s.p.fl,s.p.ra,s.p.nx,s.p.st,s.p.ca,s.p.mi,s.p.me,s.p.dm,s.p.lk,.xl A7 s.p.dr,.xl A7 s.p.tg],48,.cl,X⟩],λv b=>⟨DE v 1,AJ v 2,As A7 v 3,AJ v 4,AJ v 5,rQ b 0⟩,nL,λs r=> {s with r:=r.r,i:=r.i},λs=>s,λ_ s=>s,[.ret,.exit 2],bM,Tc,kC⟩
abbrev iE:=Nk.run
abbrev gg:=Nk.exn
def apZ:Rq Tc nL:=by
 exact rh
def aED:Nk.Ok:={}
def aCH:Nk.Pf (qW):=⟨awy,λs h=>rfl,aqa,apZ⟩
def ahb:SA 0 xX Nk:=s1 aED aCH MX kN
def ak9:Fi bM Tc qW gg iE:=LpD.fin aED aCH
structure LO where
 r:aM
 n:Y
 l:aB
 (m i:Y)
 p:PK
def xW:=bN f14 2
def nK (s:LO):T (Rd LO):=
 .br (an<|s.i<s.m) (.ix s.i (M s.l)<|.br (!(inB (gi s.l s.i) (-200) 200)) (.so (.ret) {s with r:=X})<|.nx {s with i:=AA<|s.i+1}) (.so (.exit 4) s)
def PQ (s:LO) (j:Y):aM:=inB (gi s.l j) (-200) 200
def bL (s:LO):Prop:=s.i=0/\0<=s.m/\s.m<=1000/\s.m=(M s.l:Y)
def Tb (s:LO):Prop:=0<=s.i/\s.i<=s.m/\s.m<=1000/\(s.m=(M s.l:Y))/\∀j:aC,(j:Y)<s.i->PQ s j=U
def kB (s:LO):aC:=(s.m-s.i).toNat
def qV (x:Ex) (s s':LO):Prop:=(x=.exit 4/\∀j:aC,(j:Y)<s'.m->PQ s' j=U)\/(x=.ret/\s'.r=X/\∃j:aC,(j:Y)<s'.m/\PQ s' j=X)
def awx:∀s,bL s->Tb s:=by
 exact I1
def aqZ:Da Tb kB qV nK:=by
 intro s hI;obtain ⟨h0,h1,h2,h3,h4⟩:=hI;refine allR_ite (λc1=>allR_ite (λc2=>?_) λc2=>?_) λc1=>?_
 ·have c1:s.i<s.m:=AQ
  refine .inr ⟨rfl,rfl,s.i.toNat,A8,?_⟩
  have hg:PQ s s.i=false:=by unfold PQ;simp_all
  exact hg
 ·have c1:s.i<s.m:=AQ
  have hg:PQ s s.i=true:=by unfold PQ;simp_all
  rw [AH (x:=s.i+1)];refine ⟨⟨A8,A8,h2,h3,λj hj=>?_⟩,by simp only [kB];omega⟩
  exact Iv
 ·exact dQ
def Nj:LpD LO:=⟨0,105,[1,2,3,80,81,82],[],λs=>[.own 0 0,s.r,s.n,.xl A7 s.l,s.m,s.i],λs=>[⟨[s.p.cs,s.p.os,s.p.ks,s.p.gs,s.p.bs,s.p.tk,s.p.up,s.p.ls,s.p.se,.xl (.int aw) s.p.fl,s.p.ra,s.p.nx,s.p.st,s.p.ca,s.p.mi,s.p.me,s.p.dm,s.p.lk,.xl A7 s.p.dr,.xl A7 s.p.tg],48,.cl,X⟩],λv b=>⟨DE v 1,AJ v 2,As A7 v 3,AJ v 4,AJ v 5,rQ b 0⟩,nK,λs r=> {s with r:=r.r,i:=r.i},λs=>s,λ_ s=>s,[.ret,.exit 4],bL,Tb,kB⟩
abbrev iD:=Nj.run
abbrev gd:=Nj.exn
def apY:Rq Tb nK:=by
 exact OV
def aEC:Nj.Ok:={}
def aCG:Nj.Pf (qV):=⟨awx,λs h=>rfl,aqZ,apY⟩
def aha:SA 0 xW Nj:=s1 aEC aCG MX kN
def ak8:Fi bL Tb qV gd iD:=LpD.fin aEC aCG
structure LN where
 r:aM
 n:Y
 l:aKx
 (m i:Y)
def xV:=bN f14 3
def oA (s:LN):T (Rd LN):=
 .br (an<|s.i<s.m) (.ix s.i (M s.l)<|.br (!(inB (EL s.l s.i).2.2.1 (0:Y)<|AA<|s.n-1)) (.so (.ret) {s with r:=X})<|.nx {s with i:=AA<|s.i+1}) (.so (.exit 6) s)
def Sb (s:LN) (j:Y):aM:=inB (EL s.l j).2.2.1 0<|s.n-1
def bK (s:LN):Prop:=s.i=0/\0<=s.m/\s.m<=100000000/\s.m=(M s.l:Y)/\0<=s.n/\s.n<=16
def Ta (s:LN):Prop:=0<=s.i/\s.i<=s.m/\s.m<=100000000/\(s.m=(M s.l:Y)/\0<=s.n/\s.n<=16)/\∀j:aC,(j:Y)<s.i->Sb s j=U
def kA (s:LN):aC:=(s.m-s.i).toNat
def qU (x:Ex) (s s':LN):Prop:=(x=.exit 6/\∀j:aC,(j:Y)<s'.m->Sb s' j=U)\/(x=.ret/\s'.r=X/\∃j:aC,(j:Y)<s'.m/\Sb s' j=X)
def aww:∀s,bK s->Ta s:=by
 exact I1
def aqY:Da Ta kA qU oA:=by
 intro s hI;obtain ⟨h0,h1,h2,h3,h4⟩:=hI;refine allR_ite (λc1=>allR_ite (λc2=>?_) λc2=>?_) λc1=>?_
 ·have c1:s.i<s.m:=AQ
  refine .inr ⟨rfl,rfl,s.i.toNat,AR,?_⟩
  have hg:Sb s s.i=false:=aJN
  exact hg
 ·have c1:s.i<s.m:=AQ
  have hg:Sb s s.i=true:=aJN
  rw [AH (x:=s.i+1)];refine ⟨⟨A8,A8,h2,h3,λj hj=>?_⟩,by simp only [kA];omega⟩
  exact Iv
 ·exact dQ
def Ni:LpD LN:=⟨0,105,[2,3,91,92,93],[],λs=>[s.r,s.n,s.l,s.m,s.i],λ_=>[],λv b=>⟨DE v 0,AJ v 1,As B4 v 2,AJ v 3,AJ v 4⟩,oA,λs r=> {s with r:=r.r,i:=r.i},λs=>s,λ_ s=>s,[.ret,.exit 6],bK,Ta,kA⟩
abbrev iY:=Ni.run
abbrev gb:=Ni.exn
def apW:Rq Ta oA:=by
 intro s hI;refine ⟨λc1=>⟨?_,λ_=>trivial,λ_=>trivial⟩,λ_=>trivial⟩
 ·(obtain ⟨h0,h1,h2,h3,h4⟩:=hI;obtain ⟨g0,g1,g2⟩:=h3;simp at c1;omega)
def aEB:Ni.Ok:={}
def aCF:Ni.Pf (qU):=⟨aww,λs h=>rfl,aqY,apW⟩
def aiG:SA 0 xV Ni:=s1 aEB aCF MX kN
def ak7:Fi bK Ta qU gb iY:=LpD.fin aEB aCF
def gG {α:Type}{l:List α}{d:α}{f:α->aM}:Ck (M l) (λk=>f<|l.getD k.toNat d)=l.all f:=by
 rw [Gn,D3,B9]
 constructor
 ·intro h x hx
  obtain ⟨k,hk,rfl⟩:=G4.1 hx
  grind
 ·intro h j hj
  grind
def aFX:aD->T LV
 | [x_p]=>(match N5 x_p with
  |some p=> .req (M p.lk<=100000000) (.ok<|Df p)
  |none=> .no)
 |_=> .no
def NU (p:PK):L6:=(⟨X,(M p.gs:Y),p.tg,(M p.tg:Y),0,p⟩:L6)
def NT (p:PK):LO:=(⟨(iE<|NU p).r,(M p.gs:Y),p.dr,(M p.dr:Y),0,p⟩:LO)
def Oq (p:PK):LN:=(⟨(iD<|NT p).r,(M p.gs:Y),p.lk,(M p.lk:Y),0⟩:LN)
def apk (p:PK):letI a:=(M p.gs:Y);BO prog AM MX kN (λi=>if i=5 then (unrC prog AM MX noK 20 2 Rl) else if i=13 then Nk.lp else if i=19 then Nj.lp else if i=25 then Ni.lp else noLoops i) f14 [p]=.br ((!(Av p.cs p.os p.ks p.gs p.bs)) ||(!(inB p.tk (0:Y) (1000000:Y)))) (.ok X) (.br ((M p.st:Y) !=a) (.ok X)<|.br ((M p.ca:Y) !=a) (.ok X)<|.br ((M p.mi:Y) !=a) (.ok X)<|.br ((M p.me:Y) !=a) (.ok X)<|.br ((M p.dm:Y) !=a) (.ok X)<|.br ((M p.dr:Y) !=a) (.ok X)<|.br ((M p.tg:Y) !=(M p.cs:Y)) (.ok X)<|.req (Nk.q<|NU p)<|.br (isEx (gg<|NU p)<|.ret) (.ok (iE<|NU p).r)<|.req (Nj.q<|NT p)<|.br (isEx (gd<|NT p)<|.ret) (.ok (iD<|NT p).r)<|.req (Ni.q<|Oq p)<|.br (isEx (gb<|Oq p)<|.ret) (.ok (iY<|Oq p).r)<|.ok U):=AO
def aun:=vm (S:=aFX) func14 MX kN (L:=(λi=>if i=5 then (unrC prog AM MX noK 20 2 Rl) else if i=13 then Nk.lp else if i=19 then Nj.lp else if i=25 then Ni.lp else noLoops i)) (λb hb=>by
 rw [show loopsIn _=[Rl,xX,xW,xV] by kernel_rfl] at hb
 simp only [Au,BX,BV] at hb;rcases hb with rfl|rfl|rfl|rfl
 ·exact aiF
 ·exact ahb
 ·exact aha
 ·exact aiG) (λargs lv h=>by
 refine ⟨?_⟩;unfold aFX at h;split at h
 ·split at h
  case h_2=>cases h
  rename_i p hp;obtain rfl:=Rm hp;simp only [canL,canX];rw [apk];obtain ⟨hk,rfl⟩:=h
  have op:Df p=U->_:=λhv=>by unfold Df at hv;simp only [AP,AT] at hv;exact hv
  have no:(Df p=U->False)->LV.v (.bool X)=LV.v (.bool<|Df p):=λh=>by
   cases e:Df p
   ·rfl
   ·exact (h e).elim
  refine ⟨λc1=>no λhv=>?_,λc1=>⟨λc2=>no λhv=>?_,λc2=>⟨λc3=>no λhv=>?_,λc3=>⟨λc4=>no λhv=>?_,λc4=>⟨λc5=>no λhv=>?_,λc5=>⟨λc6=>no λhv=>?_,λc6=>⟨λc7=>no λhv=>?_,λc7=>⟨λc8=>no λhv=>?_,λc8=>?_⟩⟩⟩⟩⟩⟩⟩⟩
  iterate 8
   ·obtain ⟨⟨h1,h2⟩,⟨h3,h4,h5,h6,h7,h8⟩,h9,_⟩:=op hv
    simp_all
  simp only [bne_eq_false_iff_eq,Int.natCast_inj,F6,G0] at c1 c2 c3 c4 c5 c6 c7 c8
  have hs:=Ci.1 c1.1
  have hv:Df p=(Ck (M p.tg) (λk=>inB (gi p.tg k) 1 (AY p.cs k).2.2.1)&&(p.dr.all (λx=>inB x (-200) 200)&&p.lk.all (λl=>inB l.2.2.1 0<|(M p.gs:Y)-1))):=by
   unfold Df
   grind
  have hr:Ck (M p.dr) (λk=>inB (gi p.dr k) (-200) 200)=p.dr.all (λx=>inB x (-200) 200):=gG (f:=λx=>inB x (-200) 200)
  have hl:Ck (M p.lk) (λk=>inB (EL p.lk k).2.2.1 0<|(M p.gs:Y)-1)=p.lk.all (λl=>inB l.2.2.1 0<|(M p.gs:Y)-1):=gG (f:=λl:Lk=>inB l.2.2.1 0<|(M p.gs:Y)-1)
  rw [hv,<-hr,<-hl]
  have E1:bM (NU p):=⟨rfl,OP _,by show (M p.tg:Y)<=1000;omega,rfl,c8⟩
  have E2:bL (NT p):=⟨rfl,OP _,by show (M p.dr:Y)<=1000;omega,rfl⟩
  have E3:bK (Oq p):=⟨rfl,OP _,by show (M p.lk:Y)<=100000000;omega,rfl,OP _,by show (M p.gs:Y)<=16;omega⟩
  refine ⟨⟨E1,rfl,rfl⟩,?_⟩;obtain ⟨_,_,q⟩:=ak9 _ E1
  have q:(gg (NU p)=.exit 2/\_)\/(gg (NU p)=.ret/\(iE<|NU p).r=X/\∃j:aC,(j:Y)<(M p.tg:Y)/\inB (gi p.tg j) 1 (AY p.cs j).2.2.1=X):=q
  rcases q with ⟨q1,q2⟩ |⟨q1,q2,j,q3,q4⟩
  rotate_left
  ·exact sC
  rw [q1,show Ck (M p.tg) (λk=>inB (gi p.tg k) 1 (AY p.cs k).2.2.1)=U from D3.2 q2]
  refine ⟨λc=>Cu,λ_=>⟨⟨E2,rfl,rfl⟩,?_⟩⟩
  obtain ⟨_,_,q⟩:=ak8 _ E2
  have q:(gd (NT p)=.exit 4/\_)\/(gd (NT p)=.ret/\(iD<|NT p).r=X/\∃j:aC,(j:Y)<(M p.dr:Y)/\inB (gi p.dr j) (-200) 200=X):=q
  rcases q with ⟨q1,q2⟩ |⟨q1,q2,j,q3,q4⟩
  rotate_left
  ·exact sC
  rw [q1,show Ck (M p.dr) (λk=>inB (gi p.dr k) (-200) 200)=U from D3.2 q2]
  refine ⟨λc=>Cu,λ_=>⟨⟨E3,rfl,rfl⟩,?_⟩⟩
  obtain ⟨_,_,q⟩:=ak7 _ E3
  have q:(gb (Oq p)=.exit 6/\_)\/(gb (Oq p)=.ret/\(iY<|Oq p).r=X/\∃j:aC,(j:Y)<(M p.lk:Y)/\inB (EL p.lk j).2.2.1 0 ((M p.gs:Y)-1)=X):=q
  rcases q with ⟨q1,q2⟩ |⟨q1,q2,j,q3,q4⟩
  rotate_left
  ·exact sC
  rw [q1,show Ck (M p.lk) (λk=>inB (EL p.lk k).2.2.1 0<|(M p.gs:Y)-1)=U from D3.2 q2]
  exact ⟨λc=>Cu,λ_=>rfl⟩
 ·cases h)
def aGh:aD->T LV
 | [.xl (.int J) l]=> .req (M l<=100000000) (.ok<|.xl A7 l)
 |_=> .no
def P7:aN:=[]
def aB9 {α:Type}{l:List α}{d:α}{n:Y}(h:n=(M l:Y)):cpy l (aq n.toNat d)=l:=by
 unfold cpy
 simp_all
def getD_mem {α:Type}{l:List α}{i:aC}{d:α}(h:i<M l):l.getD i d∈l:=by
 grind
def set_self {α:Type}{l:List α}{i:aC}{d:α}(h:i<M l):l.set i (l.getD i d)=l:=by
 simp_all
def aal:=vo (S:=aGh) func60 P7 kN (λargs lv h=>by
 unfold aGh at h;split at h
 ·rename_i l
  refine Al (letI a:=(M l:Y);letI b:=(cpy l<|aq a.toNat (0:Y));.rm 8 a<|.rc a (0:Y) (M l)<|.req (0+a.toNat<=M b)<|.ok<|.xl A7<|(b.drop 0).take a.toNat) ?_;obtain ⟨hl,rfl⟩:=h;rw [aB9 rfl];refine ⟨A0,⟨AG,AG⟩,AG,?_⟩;rw [BW,C0,DA];rfl
 ·cases h)
structure Lg where
 (n i:Y)
 p1:aF
 p2:aP
 p3:aG
 p4:aQ
 aqi:Y
 afF:aM
 (p8 p11:Y)
 agL:aKL
 afs:aZ
 akE:aKx
 (Ov afr:aB)
 (j8 b11 b12 b13 b14:aV)
 amQ:Y
 azy:aM
 b17:aV
 b18:Y
 (b19 b110:aV)
 Qh:Y
 (ag2 amR ah2 ag3 afd ah3 wH afb:aV)
 b2:aJ
 b3:aL
 b4:aB
 b5:bu
 b6:bc
 b7:aL
 o:aKH
def oS (s:Lg):T (Rd Lg):=letI a:=s.o.getD s.i.toNat<|Ty.dflt At;.br (an<|s.i<s.n) (.ik s.i (M s.o)<|.req (M a.1<=100000000)<|.ik s.i (M s.o)<|.rl s.b2<|.rl s.b3<|.rl s.b4<|.rl s.b5<|.rl s.b6<|.rl s.b7<|.re (M s.o) (s.o.set s.i.toNat a)<|.nx {s with i:=AA<|s.i+1,o:=s.o.set s.i.toNat a})<|.rl s.b2<|.rl s.b3<|.rl s.b4<|.rl s.b5<|.rl s.b6<|.rl s.b7<|.rl s.o<|.so (.exit 0) s
def Zp (s:Lg):Prop:=s.i=0/\s.n=(M s.o:Y)/\s.n<=1000/\∀m∈s.o,M m.1<=1000
def ZX (s:Lg):Prop:=0<=s.i/\s.i<=s.n/\s.n=(M s.o:Y)/\s.n<=1000/\∀m∈s.o,M m.1<=1000
def jx (s:Lg):aC:=(s.n-s.i).toNat
def adv (x:Ex) (s s':Lg):Prop:=True
def az6:∀s,Zp s->ZX s:=by
 exact aIN
def atr:Da ZX jx adv oS:=by
 intro s hI;obtain ⟨h0,h1,h2,h3,h4⟩:=hI;refine allR_ite (λc1=>?_) λc1=>trivial
 ·have c1:s.i<s.n:=A8
  have e:=set_self (l:=s.o) (i:=s.i.toNat) (d:=Ty.dflt At) A0
  rw [AH (x:=s.i+1),e];exact ⟨⟨A8,A8,h2,h3,h4⟩,by simp only [jx];omega⟩
def FZ:LpD Lg:=⟨0,82,[1,2,44,45],[],λs=>[.own 0 0,.own 1 0,s.n,s.i],λs=>[⟨[.os 2 11 0<|M s.b2,s.p1,s.p2,s.p3,s.p4,s.aqi,s.afF,.os 3 5 0<|M s.b3,s.p8,.os 4 1 0<|M s.b4,.os 5 2 0<|M s.b5,s.p11,.os 6 4 0<|M s.b6,.os 7 5 0<|M s.b7,.os 8 3 0<|M s.o,s.agL,s.afs,s.akE,.xl A7 s.Ov,.xl A7 s.afr],48,.cl,X⟩,⟨[.v<|s.j8,.v<|s.b11,.v<|s.b12,.v<|s.b13,.v<|s.b14,s.amQ,s.azy,.v<|s.b17,s.b18,.v<|s.b19,.v<|s.b110,s.Qh,.v<|s.ag2,.v<|s.amR,.v<|s.ah2,.v<|s.ag3,.v<|s.afd,.v<|s.ah3,.v<|s.wH,.v<|s.afb],48,.cl,X⟩,bV 73 AX s.b2,bV 62 AK s.b3,bV 5 (.int aw) s.b4,bV 141 Ag s.b5,bV 111 Aq s.b6,bV 56 AK s.b7,bV 122 At s.o],λv b=>⟨AJ v 2,AJ v 3,AE .str b 0 1,AE Ad b 0 2,AE AZ b 0 3,AE Ae b 0 4,Af b 0 5,Ik b 0 6,Af b 0 8,Af b 0 11,AE B8 b 0 15,AE Ac b 0 16,AE B4 b 0 17,AE A7 b 0 18,AE A7 b 0 19,gAn<|gCe (gBk b 1) 0,gAn<|gCe (gBk b 1) 1,gAn<|gCe (gBk b 1) 2,gAn<|gCe (gBk b 1) 3,gAn<|gCe (gBk b 1) 4,Af b 1 5,Ik b 1 6,gAn<|gCe (gBk b 1) 7,Af b 1 8,gAn<|gCe (gBk b 1) 9,gAn<|gCe (gBk b 1) 10,Af b 1 11,gAn<|gCe (gBk b 1) 12,gAn<|gCe (gBk b 1) 13,gAn<|gCe (gBk b 1) 14,gAn<|gCe (gBk b 1) 15,gAn<|gCe (gBk b 1) 16,gAn<|gCe (gBk b 1) 17,gAn<|gCe (gBk b 1) 18,gAn<|gCe (gBk b 1) 19,AV AX b 2,AV AK b 3,AV (.int aw) b 4,AV Ag b 5,AV Aq b 6,AV AK b 7,AV At b 8⟩,oS,λs r=> {s with i:=r.i,o:=r.o},λs=>s,λ_ s=>s,[.exit 0],Zp,ZX,jx⟩
abbrev zg:=FZ.run
abbrev akT:=FZ.exn
def aof:Rq ZX oS:=by
 intro s hI;refine ⟨λc1=>⟨?_,?_,?_,?_,?_,A9,A9,A9,A9,A9,A9,?_,ak⟩,λc1=>⟨A9,A9,A9,A9,A9,A9,A9,ak⟩⟩
 all_goals ((obtain ⟨h0,h1,h2,h3,h4⟩:=hI;(try simp only [AT] at c1);first|omega|exact ⟨rfl,AG⟩ |exact ⟨rfl,rfl⟩ |exact Fy (h4 _<|getD_mem A0) AS))
def lU:aN:=[aal]
def asR:Ap:=kI lU<|l0 lU
def aDy:FZ.Ok:={}
def aDf:FZ.Pf (adv):=⟨az6,λs h=>rfl,atr,aof⟩
def CI:=s1 (b:=bN f23 0) aDy aDf lU asR
def alX:Rs Zp akT zg (λs:Lg=>s.o) (λx s' (v:aKH)=>x=.exit 0/\s'.o=v):=Cq aDy aDf (λs hI=>by
  obtain ⟨h0,h1,h2,h3,h4⟩:=hI;refine allR_ite (λc1=>?_) λc1=>⟨rfl,rfl⟩
  have c1:s.i<s.n:=A8
  have e:=set_self (l:=s.o) (i:=s.i.toNat) (d:=Ty.dflt At) A0
  rw [e];exact rfl)
structure Jq where
 p:PK
def QW (s:Jq):aD:=[s.p]
def UO (s:Jq):aE:=[]
def Wl (s:Jq):Lg:=(⟨(((M s.p.mi:Y).toNat:aC):Y),0,s.p.os,s.p.ks,s.p.gs,s.p.bs,s.p.tk,s.p.up,s.p.se,s.p.nx,s.p.me,s.p.dm,s.p.lk,s.p.dr,s.p.tg,.slice aj 0 0,.slice aj 0 0,.slice aj 0 0,.slice aj 0 0,.slice aj 0 0,0,X,.slice aj 0 0,0,.slice aj 0 0,.slice aj 0 0,0,.slice aj 0 0,.slice aj 0 0,.slice aj 0 0,.slice aj 0 0,.slice aj 0 0,.slice aj 0 0,.slice aj 0 0,.slice aj 0 0,cpy s.p.cs<|aq (M s.p.cs:Y).toNat (ByteArray.empty,((0:Y),((0:Y),((0:Y),(((0:Y),(0:Y)),((0:Y),((0:Y),((0:Y),((0:Y),(0:Y)))))))))),cpy s.p.ls<|aq (M s.p.ls:Y).toNat ((0:Y),((0:Y),((0:Y),((0:Y),(0:Y))))),cpy s.p.fl<|aq (M s.p.fl:Y).toNat (0:Y),cpy s.p.ra<|aq (M s.p.ra:Y).toNat ((0:Y),(0:Y)),cpy s.p.st<|aq (M s.p.st:Y).toNat ((0:Y),((0:Y),((0:Y),X))),cpy s.p.ca<|aq (M s.p.ca:Y).toNat ((0:Y),((0:Y),((0:Y),((0:Y),(0:Y))))),cpy s.p.mi<|aq (M s.p.mi:Y).toNat (([]:aB),((0:Y),(0:Y)))⟩:Lg)
structure U6 where
 p:PK
 (n7 n8 n9 n10 n11:aC)
def acB (s:U6):LV:=.agg [.os 0 11 0<|M s.p.cs,s.p.os,s.p.ks,s.p.gs,s.p.bs,s.p.tk,s.p.up,.os 1 5 0<|M s.p.ls,s.p.se,.os 2 1 0<|M s.p.fl,.os 3 2 0<|M s.p.ra,s.p.nx,.os 4 4 0<|M s.p.st,.os 5 5 0<|M s.p.ca,.os 6 3 0<|M s.p.mi,.os 7 3 0 s.n7,.os 8 4 0 s.n8,.os 9 6 0 s.n9,.os 10 1 0 s.n10,.os 11 1 0 s.n11]
def adT (s:U6):aE:=[bV 73 AX s.p.cs,bV 62 AK s.p.ls,bV 5 (.int aw) s.p.fl,bV 141 Ag s.p.ra,bV 111 Aq s.p.st,bV 56 AK s.p.ca,bV 122 At s.p.mi,bV 114 B8 s.p.me,bV 58 Ac s.p.dm,bV 118 B4 s.p.lk,bV 3 A7 s.p.dr,bV 3 A7 s.p.tg]
def Yk (s:Jq):T U6:=letI a:=(ByteArray.empty,((0:Y),((0:Y),((0:Y),(((0:Y),(0:Y)),((0:Y),((0:Y),((0:Y),((0:Y),(0:Y))))))))));letI f:=(M s.p.cs:Y);letI g:=(M s.p.fl:Y);letI h:=(M s.p.ls:Y);letI i:=(M s.p.ra:Y);letI j:=(M s.p.st:Y);letI k:=(M s.p.ca:Y);letI l:=(M s.p.mi:Y);letI m:=(M s.p.me:Y);letI n:=(M s.p.dm:Y);letI r:=(M s.p.lk:Y);letI t:=(M s.p.dr:Y);letI u:=(M s.p.tg:Y);letI v:=(cpy s.p.fl<|aq g.toNat (0:Y));letI w:=cpy s.p.cs<|aq f.toNat a;letI x:=(X,((0:Y),((0:Y),(0:Y))));letI b:=(cpy s.p.ls<|aq h.toNat ((0:Y),((0:Y),((0:Y),((0:Y),(0:Y))))));letI c:=(cpy s.p.ca<|aq k.toNat ((0:Y),((0:Y),((0:Y),((0:Y),(0:Y))))));letI d:=(cpy s.p.st<|aq j.toNat ((0:Y),((0:Y),((0:Y),X))));letI e:=(cpy s.p.ra<|aq i.toNat ((0:Y),(0:Y)));.rm 96 f<|.rc f a (M s.p.cs)<|.rm 40 h<|.rc h ((0:Y),((0:Y),((0:Y),((0:Y),(0:Y))))) (M s.p.ls)<|.rm 1 g<|.rc g (0:Y) (M s.p.fl)<|.rm 16 i<|.rc i ((0:Y),(0:Y)) (M s.p.ra)<|.rm 32 j<|.rc j ((0:Y),((0:Y),((0:Y),X))) (M s.p.st)<|.rm 40 k<|.rc k ((0:Y),((0:Y),((0:Y),((0:Y),(0:Y))))) (M s.p.ca)<|.rm 40 l<|.rc l (([]:aB),((0:Y),(0:Y))) (M s.p.mi)<|.re f.toNat w<|.re h.toNat b<|.re g.toNat v<|.re i.toNat e<|.re j.toNat d<|.re k.toNat c<|.re l.toNat (cpy s.p.mi<|aq l.toNat (([]:aB),((0:Y),(0:Y))))<|.req (FZ.q<|Wl s)<|.rm 24 m<|.rc m ((0:Y),((0:Y),X)) (M s.p.me)<|.rm 32 n<|.rc n x (M s.p.dm)<|.rm 48 r<|.rc r ((0:Y),((0:Y),((0:Y),((0:Y),((0:Y),(0:Y)))))) (M s.p.lk)<|.rm 8 t<|.rc t (0:Y) (M s.p.dr)<|.rm 8 u<|.rc u (0:Y) (M s.p.tg)<|.ok<|⟨⟨w,s.p.os,s.p.ks,s.p.gs,s.p.bs,s.p.tk,s.p.up,b,s.p.se,v,e,s.p.nx,d,c,(zg<|Wl s).o,cpy s.p.me<|aq m.toNat ((0:Y),((0:Y),X)),cpy s.p.dm<|aq n.toNat x,cpy s.p.lk<|aq r.toNat ((0:Y),((0:Y),((0:Y),((0:Y),((0:Y),(0:Y)))))),cpy s.p.dr<|aq t.toNat (0:Y),cpy s.p.tg<|aq u.toNat (0:Y)⟩,m.toNat,n.toNat,r.toNat,t.toNat,u.toNat⟩
def NZ {α:Type}{l:List α}{d:α}:cpy l (aq (M l:Y).toNat d)=l:=aB9 rfl
structure LB (p:PK):Prop where
 cs:M p.cs<=20000000
 ls:M p.ls<=20000000
 fl:M p.fl<=20000000
 ra:M p.ra<=20000000
 st:M p.st<=20000000
 ca:M p.ca<=20000000
 mi:M p.mi<=1000
 me:M p.me<=20000000
 dm:M p.dm<=20000000
 lk:M p.lk<=20000000
 dr:M p.dr<=20000000
 tg:M p.tg<=20000000
 mis:∀m∈p.mi,M m.1<=1000
def Zm (s:Jq):Prop:=LB s.p
def ac7 (s:Jq):U6:=⟨s.p,M s.p.me,M s.p.dm,M s.p.lk,M s.p.dr,M s.p.tg⟩
def Zf:CF Jq U6:=⟨QW,UO,λv b=>⟨⟨gXl AX<|gAg (v.getD 0 .junk) 0,gXl .str<|gAg (v.getD 0 .junk) 1,gXl Ad<|gAg (v.getD 0 .junk) 2,gXl AZ<|gAg (v.getD 0 .junk) 3,gXl Ae<|gAg (v.getD 0 .junk) 4,gI<|gAg (v.getD 0 .junk) 5,gBo<|gAg (v.getD 0 .junk) 6,gXl AK<|gAg (v.getD 0 .junk) 7,gI<|gAg (v.getD 0 .junk) 8,gXl (.int aw)<|gAg (v.getD 0 .junk) 9,gXl Ag<|gAg (v.getD 0 .junk) 10,gI<|gAg (v.getD 0 .junk) 11,gXl Aq<|gAg (v.getD 0 .junk) 12,gXl AK<|gAg (v.getD 0 .junk) 13,gXl At<|gAg (v.getD 0 .junk) 14,gXl B8<|gAg (v.getD 0 .junk) 15,gXl Ac<|gAg (v.getD 0 .junk) 16,gXl B4<|gAg (v.getD 0 .junk) 17,gXl A7<|gAg (v.getD 0 .junk) 18,gXl A7<|gAg (v.getD 0 .junk) 19⟩⟩,Zm,[],[],acB,adT,ac7⟩
abbrev azv (s:Jq):Prop:=Zm s/\QW s=QW s/\UO s=UO s
def aFK:Ap:=kI P7<|la 9 func23 CI<|l0 P7
def aaL:aKC:=addL 23 0 9 (FZ.lp)<|unrL prog AM P7 20 2
def ahJ:LLok prog AM aaL:=addL_ok func23 rfl AO CI<|unrL_ok<|gk P7
def arN (s:Jq):((stepH prog AM P7 aaL aFK).k 23 (QW s)<|UO s).bind (λq=>canT (M<|UO s) [0] [] .normal (q.1::QW s) q.2)=(Yk s).mp (λs2=>⟨.normal,M (QW s)+1,[acB s2],adT s2,U⟩):=AO
def aoV (s:Jq) (hE:Zm s):(Yk s).all (λq=>q=ac7 s):=by
 have ho:(Wl s).o=s.p.mi:=NZ
 have hn:(Wl s).n=(M s.p.mi:Y):=Iy
 have hV:Zp (Wl s):=⟨rfl,A8,by rw [hn];have:=hE.mi;omega,by rw [ho];exact hE.mis⟩
 have hm:=(alX _ hV).2.trans NZ
 unfold Yk;simp only [NZ,hm];obtain ⟨h1,h2,h3,h4,h5,h6,h7,h8,h9,h10,h11,h12,_⟩:=hE
 repeat (refine ⟨by first|omega|exact ⟨AG,AG⟩ |exact ⟨rfl,AG⟩ |exact ⟨hV,rfl,rfl⟩,?_⟩)
 rfl
def alo:CSound prog AM 23 Zf.m:=CF.sound (D:=Zf) (t:=Yk) (gk P7) ahJ aFK.h arN λs hE=>⟨aoV s hE⟩
def atM:CSound prog AM 23 (Hf λa=>Zf.m a []):=wo alo
structure EW where
 (ek en em c1 c2 c3 c4 c5:Y)
 d1:aM
 (d2 d3 d4:Y)
instance:Coe EW Value:=⟨λe=> .agg #[ag J e.ek,ag J e.en,ag J e.em,ag J e.c1,ag J e.c2,ag J e.c3,ag J e.c4,ag J e.c5,.bool e.d1,ag J e.d2,ag J e.d3,ag J e.d4]⟩
instance:Coe EW LV:=⟨λe=> .v<|.agg #[ag J e.ek,ag J e.en,ag J e.em,ag J e.c1,ag J e.c2,ag J e.c3,ag J e.c4,ag J e.c5,.bool e.d1,ag J e.d2,ag J e.d3,ag J e.d4]⟩
def EW.c (e:EW):Ca:=(e.c1,e.c2,e.c3,e.c4,e.c5)
def EW.d (e:EW):Dm:=(e.d1,e.d2,e.d3,e.d4)
def EW.ev (e:EW):EV:=⟨e.ek,e.en,e.em,e.c,e.d⟩
def vJ:LV->Option EW
 | .v (.agg ⟨[ag J ek,ag J en,ag J em,ag J c1,ag J c2,ag J c3,ag J c4,ag J c5,.bool d1,ag J d2,ag J d3,ag J d4]⟩)=>ah ⟨ek,en,em,c1,c2,c3,c4,c5,d1,d2,d3,d4⟩
 |_=>aj
def am5 {x:LV}{ev:EW}(h:vJ x=ah ev):x=(ev):=by
 unfold vJ at h;exact sI
def zB:bz:=⟨[.v<|.slice aj 0 0,.v<|.slice aj 0 0,.v<|.slice aj 0 0,.v<|.slice aj 0 0,.v<|.slice aj 0 0,.v<|ag J 0,.v<|.bool X,.v<|.slice aj 0 0,.v<|ag J 0,.v<|.slice aj 0 0,.v<|.slice aj 0 0,.v<|ag J 0,.v<|.slice aj 0 0,.v<|.slice aj 0 0,.v<|.slice aj 0 0,.v<|.slice aj 0 0,.v<|.slice aj 0 0,.v<|.slice aj 0 0,.v<|.slice aj 0 0,.v<|.slice aj 0 0],48,.cl,X⟩
def eB (e:EW):bz:=⟨[.v<|ag J e.ek,.v<|ag J e.en,.v<|ag J e.em,.v<|ag J e.c1,.v<|ag J e.c2,.v<|ag J e.c3,.v<|ag J e.c4,.v<|ag J e.c5,.v<|.bool e.d1,.v<|ag J e.d2,.v<|ag J e.d3,.v<|ag J e.d4],68,.cl,X⟩
def rE (b:aE) (i q:aC):EW:=letI a:=gBk b q;⟨gI<|gCe a<|i+0,gI<|gCe a<|i+1,gI<|gCe a<|i+2,gI<|gCe a<|i+3,gI<|gCe a<|i+4,gI<|gCe a<|i+5,gI<|gCe a<|i+6,gI<|gCe a<|i+7,gBo<|gCe a<|i+8,gI<|gCe a<|i+9,gI<|gCe a<|i+10,gI<|gCe a<|i+11⟩
def rG (b:aE):EW:=rE b 20 16
structure J8 where
 (i k0 k1 k2:Y)
 p:PK
 ev:EW
def QS (s:J8):aD:=[.own 16 0,s.i,.v<|.agg #[s.k0,s.k1,s.k2]]
def UL (s:J8):aE:=[bDd,bDd,zB,bDd,bV 73 AX s.p.cs,bV 62 AK s.p.ls,bV 5 (.int aw) s.p.fl,bV 141 Ag s.p.ra,bV 111 Aq s.p.st,bV 56 AK s.p.ca,bV 122 At s.p.mi,bV 114 B8 s.p.me,bV 58 Ac s.p.dm,bV 118 B4 s.p.lk,bV 3 A7 s.p.dr,bV 3 A7 s.p.tg,⟨[.os 4 11 0<|M s.p.cs,.xl .str s.p.os,.xl Ad s.p.ks,.xl AZ s.p.gs,.xl Ae s.p.bs,.v<|ag J s.p.tk,.v<|.bool s.p.up,.os 5 5 0<|M s.p.ls,.v<|ag J s.p.se,.os 6 1 0<|M s.p.fl,.os 7 2 0<|M s.p.ra,.v<|ag J s.p.nx,.os 8 4 0<|M s.p.st,.os 9 5 0<|M s.p.ca,.os 10 3 0<|M s.p.mi,.os 11 3 0<|M s.p.me,.os 12 4 0<|M s.p.dm,.os 13 6 0<|M s.p.lk,.os 14 1 0<|M s.p.dr,.os 15 1 0<|M s.p.tg,.v<|ag J s.ev.ek,.v<|ag J s.ev.en,.v<|ag J s.ev.em,.v<|ag J s.ev.c1,.v<|ag J s.ev.c2,.v<|ag J s.ev.c3,.v<|ag J s.ev.c4,.v<|ag J s.ev.c5,.v<|.bool s.ev.d1,.v<|ag J s.ev.d2,.v<|ag J s.ev.d3,.v<|ag J s.ev.d4,.v<|.slice aj 0 0],93,.cl,X⟩]
structure U3 where
 res:Y
 p:PK
 ev:EW
def ac8 (s:U3):LV:=.v<|ag J s.res
def adQ (s:U3):aE:=[bDd,bDd,zB,bDd,bV 73 AX s.p.cs,bV 62 AK s.p.ls,bV 5 (.int aw) s.p.fl,bV 141 Ag s.p.ra,bV 111 Aq s.p.st,bV 56 AK s.p.ca,bV 122 At s.p.mi,bV 114 B8 s.p.me,bV 58 Ac s.p.dm,bV 118 B4 s.p.lk,bV 3 A7 s.p.dr,bV 3 A7 s.p.tg,⟨[.os 4 11 0<|M s.p.cs,.xl .str s.p.os,.xl Ad s.p.ks,.xl AZ s.p.gs,.xl Ae s.p.bs,.v<|ag J s.p.tk,.v<|.bool s.p.up,.os 5 5 0<|M s.p.ls,.v<|ag J s.p.se,.os 6 1 0<|M s.p.fl,.os 7 2 0<|M s.p.ra,.v<|ag J s.p.nx,.os 8 4 0<|M s.p.st,.os 9 5 0<|M s.p.ca,.os 10 3 0<|M s.p.mi,.os 11 3 0<|M s.p.me,.os 12 4 0<|M s.p.dm,.os 13 6 0<|M s.p.lk,.os 14 1 0<|M s.p.dr,.os 15 1 0<|M s.p.tg,.v<|ag J s.ev.ek,.v<|ag J s.ev.en,.v<|ag J s.ev.em,.v<|ag J s.ev.c1,.v<|ag J s.ev.c2,.v<|ag J s.ev.c3,.v<|ag J s.ev.c4,.v<|ag J s.ev.c5,.v<|.bool s.ev.d1,.v<|ag J s.ev.d2,.v<|ag J s.ev.d3,.v<|ag J s.ev.d4,.v<|.slice aj 0 0],93,.cl,X⟩]
def oG (s:J8):T U3:=letI c:=s.p.st.getD s.i.toNat<|Ty.dflt Aq;letI d:=M s.p.st;letI a:=sE (AF s.p.gs s.i) c s.k0 s.k1 s.k2;letI b:=sN (AF s.p.gs s.i) c s.k0 s.k1 s.k2;.ix s.i (M s.p.gs)<|.ik s.i d<|.br (a==0) (.ik s.i d<|.pa s.p<|.re d (s.p.st.set s.i.toNat b)<|.rl s.p.ca<|.rl s.p.mi<|.rl s.p.me<|.rl s.p.dm<|.rl s.p.lk<|.rl s.p.dr<|.rl s.p.tg<|.ok<|⟨a,{s.p with st:=s.p.st.set s.i.toNat b},s.ev⟩)<|.pc s.p<|.ok<|⟨a,s.p,s.ev⟩
def uz (s:J8):Prop:=0<=s.i/\s.i<(M s.p.gs:Y)/\M s.p.st=M s.p.gs
def Ya (s:J8):U3:=⟨sE (AF s.p.gs s.i) (B1 s.p.st s.i) s.k0 s.k1 s.k2,{s.p with st:=C3 s.p.gs s.p.st s.i s.k0 s.k1 s.k2},s.ev⟩
def ua:CF J8 U3:=⟨QS,UL,λv b=>⟨AJ v 1,gI<|gAg (v.getD 2 .junk) 0,gI<|gAg (v.getD 2 .junk) 1,gI<|gAg (v.getD 2 .junk) 2,rF b,rG b⟩,uz,[0,1,3],[],ac8,adQ,Ya⟩
abbrev mj (s:J8):Prop:=uz s/\QS s=QS s/\UL s=UL s
def Xi:aN:=[PD]
def aaY:aKC:=addL 23 0 9 (FZ.lp)<|unrL prog AM (Xi) 20 2
def ahG:LLok prog AM aaY:=addL_ok func23 rfl AO CI<|unrL_ok<|gk Xi
def arJ (s:J8):((stepH prog AM Xi aaY noK).k 47 (QS s)<|UL s).bind (λq=>canT (M<|UL s) [0] [] .normal (q.1::QS s) q.2)=(oG s).mp (λs2=>⟨.normal,M (QS s)+1,[ac8 s2],adQ s2,U⟩):=AO
def aoS (s:J8) (hE:uz s):(oG s).all (λq=>q=Ya s):=by
 obtain ⟨h0,h1,h2⟩:=hE;refine ⟨A0,A0,A0,λc=>?_,λc=>?_⟩
 ·have c:=eq_of_beq c
  have hg:C3 s.p.gs s.p.st s.i s.k0 s.k1 s.k2=_:=AB c
  repeat (refine ⟨A8,?_⟩)
  unfold Ya;rw [hg];rfl
 ·have c:=C4.1 c
  have hg:C3 s.p.gs s.p.st s.i s.k0 s.k1 s.k2=s.p.st:=AD c
  repeat (refine ⟨AG,?_⟩)
  unfold Ya;rw [hg];rfl
def atK:CSound prog AM 47 ua.m:=CF.sound (D:=ua) (t:=oG) (gk Xi) ahG noK_sound arJ λs hE=>⟨aoS s hE⟩
structure K0 where
 (n i:Y)
 p:PK
 ev:EW
 left:aKx
def nD (s:K0):T (Rd K0):=letI a:=s.p.lk.getD s.i.toNat<|Ty.dflt B4;.br (an<|s.i<s.n) (.ik s.i (M s.p.lk)<|.br (a.2.2.1 !=s.ev.en) (.rb (M s.left) (M<|[a]) 48<|.re (M s.left+M ([a])) (s.left++([a]))<|.rl s.p.lk<|.pc s.p<|.nx {s with i:=AA<|s.i+1,left:=s.left++([a])})<|.rl s.left<|.rl s.p.lk<|.pc s.p<|.nx {s with i:=AA<|s.i+1})<|.rl s.left<|.rl s.p.lk<|.pc s.p<|.so (.exit 0) s
def cB (s:K0):Prop:=s.i=0/\s.n=(M s.p.lk:Y)/\s.n<=20000000/\(M s.left:Y)<=s.i
def ZR (s:K0):Prop:=0<=s.i/\s.i<=s.n/\s.n=(M s.p.lk:Y)/\s.n<=20000000/\(M s.left:Y)<=s.i
def Xu (s:K0):aC:=(s.n-s.i).toNat
def adl (x:Ex) (s s':K0):Prop:=True
def awE:∀s,cB s->ZR s:=by
 rintro s ⟨h0,h2,h3,h4⟩
 exact sM
def ar0:Da ZR Xu adl nD:=by
 intro s hI;obtain ⟨h0,h1,h2,h3,h4⟩:=hI;refine allR_ite (λc1=>allR_ite (λc2=>?_) λc2=>?_) λc1=>trivial
 all_goals have c1:s.i<s.n:=AQ
 all_goals rw [AH (x:=s.i+1)]
 ·exact ⟨⟨AR,AR,h2,h3,A8⟩,by simp only [Xu];omega⟩
 ·exact ⟨⟨A8,A8,h2,h3,AR⟩,by simp only [Xu];omega⟩
def IM:LpD K0:=⟨18,30,[0,1,4,11,12,13],[.nl 4 118 B4],λs=>[.own 16 0,.fn 49 [.own 17 0],.os 18 6 0<|M s.left,.os 13 6 0<|M s.p.lk,s.n,s.i],λs=>[bDd,bDd,zB,bDd,bV 73 AX s.p.cs,bV 62 AK s.p.ls,bV 5 (.int aw) s.p.fl,bV 141 Ag s.p.ra,bV 111 Aq s.p.st,bV 56 AK s.p.ca,bV 122 At s.p.mi,bV 114 B8 s.p.me,bV 58 Ac s.p.dm,bV 118 B4 s.p.lk,bV 3 A7 s.p.dr,bV 3 A7 s.p.tg,⟨[.os 4 11 0<|M s.p.cs,.xl .str s.p.os,.xl Ad s.p.ks,.xl AZ s.p.gs,.xl Ae s.p.bs,.v<|ag J s.p.tk,.v<|.bool s.p.up,.os 5 5 0<|M s.p.ls,.v<|ag J s.p.se,.os 6 1 0<|M s.p.fl,.os 7 2 0<|M s.p.ra,.v<|ag J s.p.nx,.os 8 4 0<|M s.p.st,.os 9 5 0<|M s.p.ca,.os 10 3 0<|M s.p.mi,.os 11 3 0<|M s.p.me,.os 12 4 0<|M s.p.dm,.os 13 6 0<|M s.p.lk,.os 14 1 0<|M s.p.dr,.os 15 1 0<|M s.p.tg,.v<|ag J s.ev.ek,.v<|ag J s.ev.en,.v<|ag J s.ev.em,.v<|ag J s.ev.c1,.v<|ag J s.ev.c2,.v<|ag J s.ev.c3,.v<|ag J s.ev.c4,.v<|ag J s.ev.c5,.v<|.bool s.ev.d1,.v<|ag J s.ev.d2,.v<|ag J s.ev.d3,.v<|ag J s.ev.d4,.v<|.slice aj 0 0],93,.cl,X⟩,⟨[.own 16 0],88,.cl,X⟩,bV 118 B4 s.left],λv b=>⟨AJ v 4,AJ v 5,rF b,rG b,AV B4 b 18⟩,nD,λs r=> {s with i:=r.i,left:=r.left},λs=>s,λ_ s=>s,[.exit 0],cB,ZR,Xu⟩
abbrev aeh:=IM.run
abbrev akt:=IM.exn
def lT:aN:=[Sf]
def asQ:Ap:=kI lT<|la 9 func23 CI<|l0 lT
def aoz:Rq ZR nD:=by
 intro s hI;refine ⟨λc1=>⟨?_,?_,λc2=>⟨?_,?_,A9,A9,A9,A9,A9,A9,A9,A9,A9,A9,A9,A9,A9,ak⟩,λc2=>⟨A9,A9,A9,A9,A9,A9,A9,A9,A9,A9,A9,A9,A9,A9,ak⟩⟩,λc1=>⟨A9,A9,A9,A9,A9,A9,A9,A9,A9,A9,A9,A9,A9,A9,ak⟩⟩
 all_goals ((obtain ⟨h0,h1,h2,h3,h4⟩:=hI;(try simp only [AT] at c1);first|omega|exact ⟨rfl,rfl⟩ |(simp only [BI,BQ,Ax];omega) |(simp only [Ax,BI,BQ,DZ];done)))
def aEQ:IM.Ok:={}
def aDP:IM.Pf (adl):=⟨awE,λs h=>rfl,ar0,aoz⟩
def IC:=s2 (b:=bN f48 0) aEQ aDP lT asQ
def agj {l:aKx}{i:Y}(h0:0<=i) (h:i<M l):l.drop i.toNat=l.getD i.toNat (Ty.dflt B4)::l.drop (i+1).toNat:=by
 rw [OH A0,CH,Cv A0,show (i+1).toNat=i.toNat+1 by omega]
 rfl
def al1:Rs cB akt aeh (λs:K0=>s.left++(s.p.lk.drop s.i.toNat).filter (λl=>l.2.2.1 !=s.ev.en)) (λx s' (v:aKx)=>x=.exit 0/\s'.left=v):=Cq aEQ aDP (λs hI=>by
  obtain ⟨h0,h1,h2,h3,h4⟩:=hI;refine allR_ite (λc1=>?_) λc1=>?_
  ·have c1:s.i<s.n:=A8
   rw [AH (x:=s.i+1),agj h0 A0];refine allR_ite (λc2=>?_) λc2=>?_
   ·show _++[_]++_=_++_
    rw [KZ,AB c2,CC];rfl
   ·show _++_=_++_
    grind
  ·have c1:s.n<=s.i:=A8
   refine ⟨rfl,?_⟩;rw [Dj A0]
   simp)
def HK (e:Y) (a b:PK):PK:=if e=0 then a else b
def J4 {e:Y}{a b:PK}(h:e=0):HK e a b=a:=AB h
def He {e:Y}{a b:PK}(h:e≠0):HK e a b=b:=AD h
def Ox {α:Type}(l:List α):(l.drop 0).take (M l)=l:=AG
def gU {l:aG}(h:M l<=1000):AA ((M l:Y)-1)=(M l:Y)-1:=AH
structure La where
 p:PK
 ev:EW
def QP (s:La):aD:=[.own 16 0]
def UI (s:La):aE:=[bDd,bDd,zB,bDd,bV 73 AX s.p.cs,bV 62 AK s.p.ls,bV 5 (.int aw) s.p.fl,bV 141 Ag s.p.ra,bV 111 Aq s.p.st,bV 56 AK s.p.ca,bV 122 At s.p.mi,bV 114 B8 s.p.me,bV 58 Ac s.p.dm,bV 118 B4 s.p.lk,bV 3 A7 s.p.dr,bV 3 A7 s.p.tg,⟨[.os 4 11 0<|M s.p.cs,.xl .str s.p.os,.xl Ad s.p.ks,.xl AZ s.p.gs,.xl Ae s.p.bs,.v<|ag J s.p.tk,.v<|.bool s.p.up,.os 5 5 0<|M s.p.ls,.v<|ag J s.p.se,.os 6 1 0<|M s.p.fl,.os 7 2 0<|M s.p.ra,.v<|ag J s.p.nx,.os 8 4 0<|M s.p.st,.os 9 5 0<|M s.p.ca,.os 10 3 0<|M s.p.mi,.os 11 3 0<|M s.p.me,.os 12 4 0<|M s.p.dm,.os 13 6 0<|M s.p.lk,.os 14 1 0<|M s.p.dr,.os 15 1 0<|M s.p.tg,.v<|ag J s.ev.ek,.v<|ag J s.ev.en,.v<|ag J s.ev.em,.v<|ag J s.ev.c1,.v<|ag J s.ev.c2,.v<|ag J s.ev.c3,.v<|ag J s.ev.c4,.v<|ag J s.ev.c5,.v<|.bool s.ev.d1,.v<|ag J s.ev.d2,.v<|ag J s.ev.d3,.v<|ag J s.ev.d4,.v<|.slice aj 0 0],93,.cl,X⟩]
structure U0 where
 res:Y
 p:PK
 ev:EW
def acV (s:U0):LV:=.v<|ag J s.res
def adM (s:U0):aE:=[bDd,bDd,zB,bDd,bV 73 AX s.p.cs,bDd,bV 5 (.int aw) s.p.fl,bV 141 Ag s.p.ra,bV 111 Aq s.p.st,bV 56 AK s.p.ca,bV 122 At s.p.mi,bV 114 B8 s.p.me,bV 58 Ac s.p.dm,bV 118 B4 s.p.lk,bV 3 A7 s.p.dr,bV 3 A7 s.p.tg,⟨[.os 4 11 0<|M s.p.cs,.xl .str s.p.os,.xl Ad s.p.ks,.xl AZ s.p.gs,.xl Ae s.p.bs,.v<|ag J s.p.tk,.v<|.bool s.p.up,.xl AK s.p.ls,.v<|ag J s.p.se,.os 6 1 0<|M s.p.fl,.os 7 2 0<|M s.p.ra,.v<|ag J s.p.nx,.os 8 4 0<|M s.p.st,.os 9 5 0<|M s.p.ca,.os 10 3 0<|M s.p.mi,.os 11 3 0<|M s.p.me,.os 12 4 0<|M s.p.dm,.os 13 6 0<|M s.p.lk,.os 14 1 0<|M s.p.dr,.os 15 1 0<|M s.p.tg,.v<|ag J s.ev.ek,.v<|ag J s.ev.en,.v<|ag J s.ev.em,.v<|ag J s.ev.c1,.v<|ag J s.ev.c2,.v<|ag J s.ev.c3,.v<|ag J s.ev.c4,.v<|ag J s.ev.c5,.v<|.bool s.ev.d1,.v<|ag J s.ev.d2,.v<|ag J s.ev.d3,.v<|ag J s.ev.d4,.v<|.slice aj 0 0],93,.cl,X⟩]
def oF (s:La):T U0:=
 .br (!s.p.up) (.rz s.p.ls<|.rl s.p.cs<|.rl s.p.fl<|.rl s.p.ra<|.pb s.p<|.ok<|⟨6,{s.p with ls:=(s.p.ls.drop 0).take<|M s.p.ls},s.ev⟩) (.rl s.p.cs<|.rl s.p.fl<|.rl s.p.ra<|.pb s.p<|.ok<|⟨0,{s.p with up:=X,ls:=([]:aL)},s.ev⟩)
def uw (s:La):Prop:=True
def YZ (s:La):U0:=⟨PK.LF s.p,HK (PK.LF s.p) (PK.So s.p) s.p,s.ev⟩
def uY:CF La U0:=⟨QP,UI,λv b=>⟨rF b,rG b⟩,uw,[0,1,3],[.pc 16 7 AK,.kb 5],acV,adM,YZ⟩
abbrev auE (s:La):Prop:=uw s/\QP s=QP s/\UI s=UI s
def Xh:aN:=[]
def aaV:aKC:=addL 48 18 2 (IM.lp)<|addL 23 0 9 (FZ.lp)<|unrL prog AM (Xh) 20 2
def ahD:LLok prog AM aaV:=addL_ok func48 rfl AO IC<|addL_ok func23 rfl AO CI<|unrL_ok<|gk Xh
def arF (s:La):((stepH prog AM Xh aaV noK).k 19 (QP s)<|UI s).bind (λq=>canT (M<|UI s) [0] [.pc 16 7 AK,.kb 5] .normal (q.1::QP s) q.2)=(oF s).mp (λs2=>⟨.normal,M (QP s)+1,[acV s2],adM s2,U⟩):=AO
def aoP (s:La) (hE:uw s):(oF s).all (λq=>q=YZ s):=by
 refine ⟨λc=>⟨A0,?_⟩,λc=>?_⟩
 ·have c:s.p.up=false:=A8
  have he:s.p.LF=6:=AB c
  rw [Ox]
  repeat (refine ⟨AG,?_⟩)
  show _=_
  unfold YZ;rw [He A8];rw [he]
 ·have c:s.p.up=true:=A8
  have he:s.p.LF=0:=AD A8
  repeat (refine ⟨AG,?_⟩)
  unfold YZ;rw [he];rfl
def atI:CSound prog AM 19 uY.m:=CF.sound (D:=uY) (t:=oF) (gk Xh) ahD noK_sound arF λs hE=>⟨aoP s hE⟩
structure LR where
 p:PK
 ev:EW
def QJ (s:LR):aD:=[.own 16 0]
def Uf (s:LR):aE:=[bDd,bDd,zB,bDd,bV 73 AX s.p.cs,bV 62 AK s.p.ls,bV 5 (.int aw) s.p.fl,bV 141 Ag s.p.ra,bV 111 Aq s.p.st,bV 56 AK s.p.ca,bV 122 At s.p.mi,bV 114 B8 s.p.me,bV 58 Ac s.p.dm,bV 118 B4 s.p.lk,bV 3 A7 s.p.dr,bV 3 A7 s.p.tg,⟨[.os 4 11 0<|M s.p.cs,.xl .str s.p.os,.xl Ad s.p.ks,.xl AZ s.p.gs,.xl Ae s.p.bs,.v<|ag J s.p.tk,.v<|.bool s.p.up,.os 5 5 0<|M s.p.ls,.v<|ag J s.p.se,.os 6 1 0<|M s.p.fl,.os 7 2 0<|M s.p.ra,.v<|ag J s.p.nx,.os 8 4 0<|M s.p.st,.os 9 5 0<|M s.p.ca,.os 10 3 0<|M s.p.mi,.os 11 3 0<|M s.p.me,.os 12 4 0<|M s.p.dm,.os 13 6 0<|M s.p.lk,.os 14 1 0<|M s.p.dr,.os 15 1 0<|M s.p.tg,.v<|ag J s.ev.ek,.v<|ag J s.ev.en,.v<|ag J s.ev.em,.v<|ag J s.ev.c1,.v<|ag J s.ev.c2,.v<|ag J s.ev.c3,.v<|ag J s.ev.c4,.v<|ag J s.ev.c5,.v<|.bool s.ev.d1,.v<|ag J s.ev.d2,.v<|ag J s.ev.d3,.v<|ag J s.ev.d4,.v<|.slice aj 0 0],93,.cl,X⟩]
structure TO where
 res:Y
 p:PK
 ev:EW
def acP (s:TO):LV:=.v<|ag J s.res
def adG (s:TO):aE:=[bDd,bDd,zB,bDd,bV 73 AX s.p.cs,bV 62 AK s.p.ls,bV 5 (.int aw) s.p.fl,bV 141 Ag s.p.ra,bV 111 Aq s.p.st,bV 56 AK s.p.ca,bV 122 At s.p.mi,bV 114 B8 s.p.me,bV 58 Ac s.p.dm,bV 118 B4 s.p.lk,bV 3 A7 s.p.dr,bV 3 A7 s.p.tg,⟨[.os 4 11 0<|M s.p.cs,.xl .str s.p.os,.xl Ad s.p.ks,.xl AZ s.p.gs,.xl Ae s.p.bs,.v<|ag J s.p.tk,.v<|.bool s.p.up,.os 5 5 0<|M s.p.ls,.v<|ag J s.p.se,.os 6 1 0<|M s.p.fl,.os 7 2 0<|M s.p.ra,.v<|ag J s.p.nx,.os 8 4 0<|M s.p.st,.os 9 5 0<|M s.p.ca,.os 10 3 0<|M s.p.mi,.os 11 3 0<|M s.p.me,.os 12 4 0<|M s.p.dm,.os 13 6 0<|M s.p.lk,.os 14 1 0<|M s.p.dr,.os 15 1 0<|M s.p.tg,.v<|ag J s.ev.ek,.v<|ag J s.ev.en,.v<|ag J s.ev.em,.v<|ag J s.ev.c1,.v<|ag J s.ev.c2,.v<|ag J s.ev.c3,.v<|ag J s.ev.c4,.v<|ag J s.ev.c5,.v<|.bool s.ev.d1,.v<|ag J s.ev.d2,.v<|ag J s.ev.d3,.v<|ag J s.ev.d4,.v<|.slice aj 0 0],93,.cl,X⟩]
def YH (s:LR):T TO:=letI a:=(C3 s.p.gs s.p.st s.ev.en (6:Y) (1:Y) (0:Y));.br (!(inB s.ev.en (0:Y)<|AA<|(M s.p.gs:Y)-1)) (.pc s.p<|.ok<|⟨1,s.p,s.ev⟩)<|.pc s.p<|.req (mj (⟨s.ev.en,6,1,0,s.p,s.ev⟩:J8))<|.pa s.p<|.rl a<|.rl s.p.ca<|.rl s.p.mi<|.rl s.p.me<|.rl s.p.dm<|.rl s.p.lk<|.rl s.p.dr<|.rl s.p.tg<|.ok<|⟨sE (AF s.p.gs s.ev.en) (B1 s.p.st s.ev.en) (6:Y) (1:Y) (0:Y),{s.p with st:=a},s.ev⟩
def um (s:LR):Prop:=M s.p.st=M s.p.gs/\M s.p.gs<=1000
def YX (s:LR):TO:=⟨PK.L8 s.p s.ev.en,{s.p with st:=if PK.isC s.p s.ev.en=U then C3 s.p.gs s.p.st s.ev.en 6 1 0 else s.p.st},s.ev⟩
def uR:CF LR TO:=⟨QJ,Uf,λv b=>⟨rF b,rG b⟩,um,[0,1,3],[],acP,adG,YX⟩
abbrev au8 (s:LR):Prop:=um s/\QJ s=QJ s/\Uf s=Uf s
def Ga:aN:=[Sf]
def Xc:Ap:=Fx Ga (la 2 func48 IC<|la 9 func23 CI<|l0 Ga) [⟨47,ua.m,atK⟩]
def aaP:aKC:=addL 48 18 2 (IM.lp)<|addL 23 0 9 (FZ.lp)<|unrL prog AM Ga 20 2
def ahN:LLok prog AM aaP:=addL_ok func48 rfl AO IC<|addL_ok func23 rfl AO CI<|unrL_ok<|gk Ga
def aps (s:LR):((stepH prog AM Ga aaP Xc).k 21 (QJ s)<|Uf s).bind (λq=>canT (M<|Uf s) [0] [] .normal (q.1::QJ s) q.2)=(YH s).mp (λs2=>⟨.normal,M (QJ s)+1,[acP s2],adG s2,U⟩):=AO
def aoJ (s:LR) (hE:um s):(YH s).all (λq=>q=YX s):=by
 obtain ⟨h1,h2⟩:=hE;unfold YH;rw [gU h2];refine ⟨λc=>?_,λc=>?_⟩
 ·have c:s.p.isC s.ev.en=false:=NM
  repeat (refine ⟨AG,?_⟩)
  show _=_
  unfold YX PK.L8
  simp_all
 ·have c:s.p.isC s.ev.en=true:=NM
  have ci:=B6.1 c
  have ci2:s.ev.en<(M s.p.gs:Y):=A0
  repeat (refine ⟨AG,?_⟩)
  refine ⟨⟨⟨ci.1,ci2,h1⟩,rfl,rfl⟩,?_⟩
  repeat (refine ⟨AG,?_⟩)
  show _=_
  unfold YX PK.L8
  grind
def atC:CSound prog AM 21 uR.m:=CF.sound (D:=uR) (t:=YH) (gk Ga) ahN Xc.h aps λs hE=>⟨aoJ s hE⟩
structure LZ where
 p:PK
 ev:EW
def QO (s:LZ):aD:=[.own 16 0]
def Uk (s:LZ):aE:=[bDd,bDd,zB,bDd,bV 73 AX s.p.cs,bV 62 AK s.p.ls,bV 5 (.int aw) s.p.fl,bV 141 Ag s.p.ra,bV 111 Aq s.p.st,bV 56 AK s.p.ca,bV 122 At s.p.mi,bV 114 B8 s.p.me,bV 58 Ac s.p.dm,bV 118 B4 s.p.lk,bV 3 A7 s.p.dr,bV 3 A7 s.p.tg,⟨[.os 4 11 0<|M s.p.cs,.xl .str s.p.os,.xl Ad s.p.ks,.xl AZ s.p.gs,.xl Ae s.p.bs,.v<|ag J s.p.tk,.v<|.bool s.p.up,.os 5 5 0<|M s.p.ls,.v<|ag J s.p.se,.os 6 1 0<|M s.p.fl,.os 7 2 0<|M s.p.ra,.v<|ag J s.p.nx,.os 8 4 0<|M s.p.st,.os 9 5 0<|M s.p.ca,.os 10 3 0<|M s.p.mi,.os 11 3 0<|M s.p.me,.os 12 4 0<|M s.p.dm,.os 13 6 0<|M s.p.lk,.os 14 1 0<|M s.p.dr,.os 15 1 0<|M s.p.tg,.v<|ag J s.ev.ek,.v<|ag J s.ev.en,.v<|ag J s.ev.em,.v<|ag J s.ev.c1,.v<|ag J s.ev.c2,.v<|ag J s.ev.c3,.v<|ag J s.ev.c4,.v<|ag J s.ev.c5,.v<|.bool s.ev.d1,.v<|ag J s.ev.d2,.v<|ag J s.ev.d3,.v<|ag J s.ev.d4,.v<|.slice aj 0 0],93,.cl,X⟩]
structure Tz where
 res:Y
 p:PK
 ev:EW
def acU (s:Tz):LV:=.v<|ag J s.res
def adL (s:Tz):aE:=[bDd,bDd,zB,bDd,bV 73 AX s.p.cs,bV 62 AK s.p.ls,bV 5 (.int aw) s.p.fl,bV 141 Ag s.p.ra,bV 111 Aq s.p.st,bV 56 AK s.p.ca,bV 122 At s.p.mi,bV 114 B8 s.p.me,bV 58 Ac s.p.dm,bV 118 B4 s.p.lk,bV 3 A7 s.p.dr,bV 3 A7 s.p.tg,⟨[.os 4 11 0<|M s.p.cs,.xl .str s.p.os,.xl Ad s.p.ks,.xl AZ s.p.gs,.xl Ae s.p.bs,.v<|ag J s.p.tk,.v<|.bool s.p.up,.os 5 5 0<|M s.p.ls,.v<|ag J s.p.se,.os 6 1 0<|M s.p.fl,.os 7 2 0<|M s.p.ra,.v<|ag J s.p.nx,.os 8 4 0<|M s.p.st,.os 9 5 0<|M s.p.ca,.os 10 3 0<|M s.p.mi,.os 11 3 0<|M s.p.me,.os 12 4 0<|M s.p.dm,.os 13 6 0<|M s.p.lk,.os 14 1 0<|M s.p.dr,.os 15 1 0<|M s.p.tg,.v<|ag J s.ev.ek,.v<|ag J s.ev.en,.v<|ag J s.ev.em,.v<|ag J s.ev.c1,.v<|ag J s.ev.c2,.v<|ag J s.ev.c3,.v<|ag J s.ev.c4,.v<|ag J s.ev.c5,.v<|.bool s.ev.d1,.v<|ag J s.ev.d2,.v<|ag J s.ev.d3,.v<|ag J s.ev.d4,.v<|.slice aj 0 0],93,.cl,X⟩]
def Yg (s:LZ):T Tz:=letI a:=(C3 s.p.gs s.p.st s.ev.en (6:Y) (0:Y) (0:Y));letI b:=(C3 s.p.gs a s.ev.en (2:Y) (0:Y) (0:Y));letI c:=(X,((0:Y),((0:Y),(9:Y))));letI d:=M s.p.ca;.br (!(inB s.ev.en (0:Y)<|AA<|(M s.p.gs:Y)-1)) (.pc s.p<|.ok<|⟨1,s.p,s.ev⟩)<|.ik s.ev.en d<|.br (!((s.p.ca.getD s.ev.en.toNat<|Ty.dflt AK).2.2.1 !=0)) (.pc s.p<|.ok<|⟨4,s.p,s.ev⟩)<|.pc s.p<|.req (mj (⟨s.ev.en,6,0,0,s.p,s.ev⟩:J8))<|.pa s.p<|.rl a<|.rl s.p.ca<|.rl s.p.mi<|.rl s.p.me<|.rl s.p.dm<|.rl s.p.lk<|.rl s.p.dr<|.rl s.p.tg<|.req (mj (⟨s.ev.en,2,0,0,{s.p with st:=a},s.ev⟩:J8))<|.ik s.ev.en d<|.ik s.ev.en (M s.p.mi)<|.ik s.ev.en (M s.p.dm)<|.pa s.p<|.rl b<|.re d (s.p.ca.set s.ev.en.toNat ((0:Y),((0:Y),((0:Y),((0:Y),(0:Y))))))<|.re (M s.p.mi) (s.p.mi.set s.ev.en.toNat (([]:aB),((0:Y),(0:Y))))<|.rl s.p.me<|.re (M s.p.dm) (s.p.dm.set s.ev.en.toNat c)<|.rl s.p.lk<|.rl s.p.dr<|.rl s.p.tg<|.ok<|⟨0,{s.p with st:=b,ca:=s.p.ca.set s.ev.en.toNat ((0:Y),((0:Y),((0:Y),((0:Y),(0:Y))))),mi:=s.p.mi.set s.ev.en.toNat (([]:aB),((0:Y),(0:Y))),dm:=s.p.dm.set s.ev.en.toNat c},s.ev⟩
def uv (s:LZ):Prop:=M s.p.st=M s.p.gs/\M s.p.gs<=1000/\M s.p.ca=M s.p.gs/\M s.p.mi=M s.p.gs/\M s.p.dm=M s.p.gs
def T4 (s:LZ):Tz:=⟨PK.HB s.p s.ev.en,HK (PK.HB s.p s.ev.en) (PK.Nt s.p s.ev.en) s.p,s.ev⟩
def uX:CF LZ Tz:=⟨QO,Uk,λv b=>⟨rF b,rG b⟩,uv,[0,1,3],[],acU,adL,T4⟩
abbrev auD (s:LZ):Prop:=uv s/\QO s=QO s/\Uk s=Uk s
def aaU:aKC:=addL 48 18 2 (IM.lp)<|addL 23 0 9 (FZ.lp)<|unrL prog AM Ga 20 2
def ahC:LLok prog AM aaU:=addL_ok func48 rfl AO IC<|addL_ok func23 rfl AO CI<|unrL_ok<|gk Ga
def arE (s:LZ):((stepH prog AM Ga aaU Xc).k 17 (QO s)<|Uk s).bind (λq=>canT (M<|Uk s) [0] [] .normal (q.1::QO s) q.2)=(Yg s).mp (λs2=>⟨.normal,M (QO s)+1,[acU s2],adL s2,U⟩):=AO
def aoO (s:LZ) (hE:uv s):(Yg s).all (λq=>q=T4 s):=by
 obtain ⟨h1,h2,h3,h4,h5⟩:=hE;unfold Yg;rw [gU h2];refine ⟨λc=>?_,λc=>?_⟩
 ·have c:s.p.isC s.ev.en=false:=NM
  have he:s.p.HB s.ev.en=1:=AB c
  repeat (refine ⟨AG,?_⟩)
  show _=_
  unfold T4;rw [He Jh];rw [he]
 ·have c:s.p.isC s.ev.en=true:=NM
  have ci:=B6.1 c
  have ci2:s.ev.en<(M s.p.gs:Y):=A0
  have hc:¬s.p.isC s.ev.en=false:=RA
  refine ⟨A0,A0,λc2=>?_,λc2=>?_⟩
  ·have c2:(BE s.p.ca s.ev.en).2.2.1=0:=by simp only [CS,bne_eq_false_iff_eq] at c2;exact c2
   have he:s.p.HB s.ev.en=4:=by unfold PK.HB;rw [AD hc,AB c2]
   repeat (refine ⟨AG,?_⟩)
   show _=_
   unfold T4;rw [He Jh];rw [he]
  ·have c2:¬(BE s.p.ca s.ev.en).2.2.1=0:=by simp only [G0,Cg] at c2;exact c2
   have he:s.p.HB s.ev.en=0:=by unfold PK.HB;rw [AD hc,AD c2]
   have hg:M (C3 s.p.gs s.p.st s.ev.en 6 0 0)=M s.p.gs:=by rw [Gx];exact h1
   repeat (refine ⟨AG,?_⟩)
   refine ⟨⟨⟨ci.1,ci2,h1⟩,rfl,rfl⟩,?_⟩
   repeat (refine ⟨A0,?_⟩)
   refine ⟨⟨⟨ci.1,ci2,hg⟩,rfl,rfl⟩,?_⟩
   repeat (refine ⟨A8,?_⟩)
   show _=_
   unfold T4;rw [J4 he];rw [he];rfl
def atH:CSound prog AM 17 uX.m:=CF.sound (D:=uX) (t:=Yg) (gk Ga) ahC Xc.h arE λs hE=>⟨aoO s hE⟩
structure LY where
 p:PK
 ev:EW
def QN (s:LY):aD:=[.own 16 0]
def Uj (s:LY):aE:=[bDd,bDd,zB,bDd,bV 73 AX s.p.cs,bV 62 AK s.p.ls,bV 5 (.int aw) s.p.fl,bV 141 Ag s.p.ra,bV 111 Aq s.p.st,bV 56 AK s.p.ca,bV 122 At s.p.mi,bV 114 B8 s.p.me,bV 58 Ac s.p.dm,bV 118 B4 s.p.lk,bV 3 A7 s.p.dr,bV 3 A7 s.p.tg,⟨[.os 4 11 0<|M s.p.cs,.xl .str s.p.os,.xl Ad s.p.ks,.xl AZ s.p.gs,.xl Ae s.p.bs,.v<|ag J s.p.tk,.v<|.bool s.p.up,.os 5 5 0<|M s.p.ls,.v<|ag J s.p.se,.os 6 1 0<|M s.p.fl,.os 7 2 0<|M s.p.ra,.v<|ag J s.p.nx,.os 8 4 0<|M s.p.st,.os 9 5 0<|M s.p.ca,.os 10 3 0<|M s.p.mi,.os 11 3 0<|M s.p.me,.os 12 4 0<|M s.p.dm,.os 13 6 0<|M s.p.lk,.os 14 1 0<|M s.p.dr,.os 15 1 0<|M s.p.tg,.v<|ag J s.ev.ek,.v<|ag J s.ev.en,.v<|ag J s.ev.em,.v<|ag J s.ev.c1,.v<|ag J s.ev.c2,.v<|ag J s.ev.c3,.v<|ag J s.ev.c4,.v<|ag J s.ev.c5,.v<|.bool s.ev.d1,.v<|ag J s.ev.d2,.v<|ag J s.ev.d3,.v<|ag J s.ev.d4,.v<|.slice aj 0 0],93,.cl,X⟩]
structure Tx where
 res:Y
 p:PK
 ev:EW
def acT (s:Tx):LV:=.v<|ag J s.res
def adK (s:Tx):aE:=[bDd,bDd,zB,bDd,bV 73 AX s.p.cs,bV 62 AK s.p.ls,bV 5 (.int aw) s.p.fl,bV 141 Ag s.p.ra,bV 111 Aq s.p.st,bV 56 AK s.p.ca,bV 122 At s.p.mi,bV 114 B8 s.p.me,bV 58 Ac s.p.dm,bDd,bV 3 A7 s.p.dr,bV 3 A7 s.p.tg,⟨[.os 4 11 0<|M s.p.cs,.xl .str s.p.os,.xl Ad s.p.ks,.xl AZ s.p.gs,.xl Ae s.p.bs,.v<|ag J s.p.tk,.v<|.bool s.p.up,.os 5 5 0<|M s.p.ls,.v<|ag J s.p.se,.os 6 1 0<|M s.p.fl,.os 7 2 0<|M s.p.ra,.v<|ag J s.p.nx,.os 8 4 0<|M s.p.st,.os 9 5 0<|M s.p.ca,.os 10 3 0<|M s.p.mi,.os 11 3 0<|M s.p.me,.os 12 4 0<|M s.p.dm,.xl B4 s.p.lk,.os 14 1 0<|M s.p.dr,.os 15 1 0<|M s.p.tg,.v<|ag J s.ev.ek,.v<|ag J s.ev.en,.v<|ag J s.ev.em,.v<|ag J s.ev.c1,.v<|ag J s.ev.c2,.v<|ag J s.ev.c3,.v<|ag J s.ev.c4,.v<|ag J s.ev.c5,.v<|.bool s.ev.d1,.v<|ag J s.ev.d2,.v<|ag J s.ev.d3,.v<|ag J s.ev.d4,.v<|.slice aj 0 0],93,.cl,X⟩]
def Yf (s:LY):T Tx:=letI b:=((M s.p.lk:aC):Y);letI a:=(aeh (⟨b,0,s.p,s.ev,([]:aKx)⟩:K0));.br (!(inB s.ev.en (0:Y)<|AA<|(M s.p.gs:Y)-1)) (.rz s.p.lk<|.pa s.p<|.rl s.p.st<|.rl s.p.ca<|.rl s.p.mi<|.rl s.p.me<|.rl s.p.dm<|.rl s.p.dr<|.rl s.p.tg<|.ok<|⟨1,{s.p with lk:=(s.p.lk.drop 0).take<|M s.p.lk},s.ev⟩)<|.r0 Lk<|.rl s.p.lk<|.pc s.p<|.req (IM.q (⟨b,0,s.p,s.ev,([]:aKx)⟩:K0))<|.rz a.left<|.pa s.p<|.rl s.p.st<|.rl s.p.ca<|.rl s.p.mi<|.rl s.p.me<|.rl s.p.dm<|.rl s.p.dr<|.rl s.p.tg<|.ok<|⟨0,{s.p with lk:=(a.left.drop 0).take<|M a.left},s.ev⟩
def uu (s:LY):Prop:=M s.p.gs<=1000/\M s.p.lk<=20000000
def YY (s:LY):Tx:=⟨PK.LC s.p s.ev.en,HK (PK.LC s.p s.ev.en) (PK.Yz s.p s.ev.en) s.p,s.ev⟩
def uW:CF LY Tx:=⟨QN,Uj,λv b=>⟨rF b,rG b⟩,uu,[0,1,3],[.pc 16 17 B4,.kb 13],acT,adK,YY⟩
abbrev auC (s:LY):Prop:=uu s/\QN s=QN s/\Uj s=Uj s
def aFJ:Ap:=kI Ga<|la 2 func48 IC<|la 9 func23 CI<|l0 Ga
def aaT:aKC:=addL 48 18 2 (IM.lp)<|addL 23 0 9 (FZ.lp)<|unrL prog AM Ga 20 2
def ahB:LLok prog AM aaT:=addL_ok func48 rfl AO IC<|addL_ok func23 rfl AO CI<|unrL_ok<|gk Ga
def arD (s:LY):((stepH prog AM Ga aaT aFJ).k 18 (QN s)<|Uj s).bind (λq=>canT (M<|Uj s) [0] [.pc 16 17 B4,.kb 13] .normal (q.1::QN s) q.2)=(Yf s).mp (λs2=>⟨.normal,M (QN s)+1,[acT s2],adK s2,U⟩):=AO
def aoN (s:LY) (hE:uu s):(Yf s).all (λq=>q=YY s):=by
 obtain ⟨h1,h2⟩:=hE;unfold Yf;rw [gU h1];refine ⟨λc=>⟨A0,?_⟩,λc=>?_⟩
 ·have c:s.p.isC s.ev.en=false:=NM
  have he:s.p.LC s.ev.en=1:=AB c
  rw [Ox]
  repeat (refine ⟨AG,?_⟩)
  show _=_
  unfold YY;rw [He A8];rw [he]
 ·have c:s.p.isC s.ev.en=true:=NM
  have he:s.p.LC s.ev.en=0:=AD A8
  have hV:cB (⟨((M s.p.lk:aC):Y),(0:Y),s.p,s.ev,([]:aKx)⟩:K0):=⟨rfl,rfl,A8,A8⟩
  have q:=(al1 _ hV).2
  rw [Ox,q]
  repeat (refine ⟨AG,?_⟩)
  refine ⟨⟨hV,rfl,rfl⟩,?_⟩
  repeat (refine ⟨AG,?_⟩)
  unfold YY;rw [he];rfl
def atG:CSound prog AM 18 uW.m:=CF.sound (D:=uW) (t:=Yf) (gk Ga) ahB aFJ.h arD λs hE=>⟨aoN s hE⟩
open Go.RowKit Go.Extern.Stop Go.Stop Go.Extern Go Go.Sx
def amD (v:aV) (w:aO):(Extern.ReflectliteType.typeOf #[.iface 52 v]).run prog w=.ok (.iface 322<|.agg #[.pointer<|ah ⟨3,52,aj⟩]) w:=AO
def aeF:aW->Sem Value:=Extern.ReflectliteType.method λt=>do Extern.Rtype.noPackHeld "Comparable" t;pure<|.bool (←typeInfo t).comparable
def afJ (w:aO):(aeF #[.agg #[.pointer<|ah ⟨3,52,aj⟩]]).run prog w=.ok (.bool U) w:=AO
def amF (v:aV) (w:aO):(Go.method 484 322 v "Comparable").run prog w=.ok (251,v) w:=AO
def axC (v:aV) (xT:aS) (w:aO):(Instr.typeAssert (.iface 52 v) xT 324 U).run prog w=.ok (.tuple #[.nilIface,.bool X]) w:=rH Tryz.underlying324 AO AO v xT w
def afy (v:aV) (xT:aS) (w:aO):(Instr.typeAssert (.iface 52 v) xT 327 U).run prog w=.ok (.tuple #[.nilIface,.bool X]) w:=rH Tryz.underlying327 AO AO v xT w
def afY (v:aV) (xT:aS) (w:aO):(Instr.typeAssert (.iface 52 v) xT 329 U).run prog w=.ok (.tuple #[.nilIface,.bool X]) w:=rH Tryz.underlying329 AO AO v xT w
def afx (n m:Y) (w:aO):Calls prog 108 #[.iface 52<|ag J n,.iface 52<|ag J m] w λe w'=>e=.returned (.bool<|n==m)/\w'=w:=by
 have hu:=Tryz.underlying282
 have h8:=@run_callFunc_extern prog 151 _ Extern.ReflectliteType.typeOf func151 AO AO AO AO
 have h32:=@run_callFunc_extern prog 251 _ aeF func251 AO AO AO AO
 have tT:=amD
 have cT:=afJ
 have mR:=amF
 have nE:=axC
 have uE:=afy
 have vE:=afY
 have heq:=Go.Lib.run_eql_iface_int (P:=prog) w (k:=J) n m hu (by kernel_rfl:(prog.info? 52).map (·.comparable)=ah U) (by kernel_rfl:prog.underlying 52=ah (.int J))
 by_cases e:n=m
 ·subst e
  simp only [Lv] at heq|-;exact aHZ
 ·have e':(n==m)=false:=ti
  simp only [e'] at heq|-;exact aHZ
def adV:aD->T LV
 | [.v (.iface 52 (ag J n)),.v (.iface 52 (ag J m))]=> .ok (.v<|.bool<|n==m)
 |_=> .no
def YN:VV 108 adV:=λargs vals w Z lv hz hg hok hr h=>by
 unfold adV at h;split at h
 ·rename_i n m
  subst h;simp only [RL,R] at hr
  have e2:vals=#[.iface 52<|ag J n,.iface 52<|ag J m]:=by
   grind
  rw [e2];refine (afx n m w).mono λe w' ⟨he,hw⟩=>?_
  subst hw;exact ⟨Below.refl _ _,_,he,ak,HX⟩
 ·cases h
def aGb:aD->T LV
 | [.agg [.v (ag J se),.xl (.int aw) fl]]=> .ok (Fs se fl)
 |_=> .no
def Xp:aN:=[]
def T9:=vo (S:=aGb) func146 Xp kN (λargs lv h=>by
 unfold aGb at h;split at h
 ·rename_i se fl
  refine Al (letI a:=(M fl:Y);.br (an<|se>=1) (.br (an<|se<=512) (.br (an<|a>=se) (.br (an<|a<=4096) (.req (se≠0)<|.ok<|.v<|.bool<|(a.tmod se)==0)<|.ok X)<|.ok X)<|.ok X)<|.ok X) ?_;obtain rfl:=h;unfold Fs;refine ⟨λc1=>⟨λc2=>⟨λc3=>⟨λc4=>⟨?_,?_⟩,λc4=>?_⟩,λc3=>?_⟩,λc2=>?_⟩,λc1=>?_⟩
  ·grind
  all_goals refine An (λz=>LV.v<|.bool z) ?_
  all_goals first|(simp_all;done) |(simp_all;intros;omega) |(simp_all;omega)
 ·cases h)
def aGU:aD->T LV
 | [.agg [.v (ag J se),.xl (.int aw) fl]]=> .ok (E8 se fl)
 |_=> .no
def asD:aN:=[T9]
def YL:=vo (S:=aGU) func99 asD kN (λargs lv h=>by
 unfold aGU at h;split at h
 ·rename_i se fl
  refine Al (.br (Fs se fl) (.req (se≠0)<|.req ((2:Y)≠0)<|.ok<|.v<|.bool<|(((AA<|(M fl:Y).tdiv se).tmod 2)==0)&&(an<|(M fl:Y)>=32))<|.ok X) ?_;obtain rfl:=h;unfold E8;refine ⟨λc1=>?_,λc1=>?_⟩
  ·have hv:=Kw.1 c1
   refine ⟨A0,AS,?_⟩;refine An (λz=>LV.v<|.bool z) ?_
   rw [c1,AH (x:=(M fl:Y).tdiv se) (by rw [GV A0];exact FV AS<|OS A0 A0) (by rw [GV A0];exact FV (Qq _ A0) A0)]
   rfl
  ·refine An (λz=>LV.v<|.bool z) ?_
   rw [c1];rfl
 ·cases h)
def aGa:aD->T LV
 | [.v (ag ax n)]=> .ok (.xl (.int aw)<|CP n)
 |_=> .no
def auz:=vo (S:=aGa) func77 Xp kN (λargs lv h=>by
 unfold aGa at h;split at h
 ·rename_i n
  refine Al (.ok<|.xl (.int aw)<|[(IntKind.u8.wrap<|n.fdiv<|2^24),(IntKind.u8.wrap<|n.fdiv<|2^16),(IntKind.u8.wrap<|n.fdiv<|2^8),(IntKind.u8.wrap n)]) ?_;exact h
 ·cases h)
def aGL:aD->T LV
 | [.xl (.int aw) b]=> .req (4<=M b) (.ok<|.v<|ag ax<|FQ b)
 |_=> .no
def YK:=vo (S:=aGL) func102 Xp kN (λargs lv h=>by
 unfold aGL at h;split at h
 ·rename_i b
  refine Al (letI a:=(M b:Y);.req (0<=(0:Y)/\0<a)<|.req (0<=(1:Y)/\1<a)<|.req (0<=(2:Y)/\2<a)<|.req (0<=(3:Y)/\3<a)<|.ok<|.v<|ag ax<|Ct ax (Ct ax (Ct ax (IntKind.u32.wrap<|(IntKind.u32.wrap<|gi b (0:Y))*2^24)<|IntKind.u32.wrap<|(IntKind.u32.wrap<|gi b (1:Y))*2^16)<|IntKind.u32.wrap<|(IntKind.u32.wrap<|gi b (2:Y))*2^8)<|IntKind.u32.wrap<|gi b (3:Y)) ?_;obtain ⟨h0,rfl⟩:=h;exact ⟨⟨A0,A0⟩,⟨A0,A0⟩,⟨A0,A0⟩,⟨A0,A0⟩,rfl⟩
 ·cases h)
def aGI:aD->T LV
 | [.agg [.v (ag J se),.xl (.int aw) fl],.v (ag J w)]=> .req ((w=0\/w=1)/\M fl<=4096) (.ok<|.xl (.int aw)<|BD fl w)
 |_=> .no
def YP:=vo (S:=aGI) func101 Xp kN (λargs lv h=>by
 unfold aGI at h;split at h
 ·rename_i se fl w
  refine Al (letI a:=(AA<|(M fl:Y).tdiv 2);letI b:=AA<|(AA<|w+1)*a;letI c:=AA<|w*a;.req ((2:Y)≠0)<|.req (0<=c/\c<=b/\b<=(M fl:Y)/\b=b)<|.ok<|.xl (.int aw)<|(fl.drop c.toNat).take<|b.toNat-c.toNat) ?_;obtain ⟨⟨h0,h1⟩,rfl⟩:=h
  have e1:(M fl:Y).tdiv 2=((M fl / 2:aC):Y):=AG
  have e2:AA ((M fl / 2:aC):Y)=((M fl / 2:aC):Y):=AH
  rw [e1,e2];rcases h0 with rfl|rfl
  ·rw [Int.zero_mul,show (0:Y)+1=1 from rfl,show AA 0=0 from rfl,show AA 1=1 from rfl,Va,e2]
   refine ⟨AS,⟨A0,A0,A0,rfl⟩,?_⟩;refine An (LV.xl<|.int aw) ?_;rfl
  ·rw [Va,show (1:Y)+1=2 from rfl,show AA 2=2 from rfl,e2,AH (x:=2*((M fl / 2:aC):Y))]
   refine ⟨AS,⟨A0,A0,A0,rfl⟩,?_⟩;refine An (LV.xl<|.int aw) ?_
   congr 1
   omega
 ·cases h)
def aGi:aD->T LV
 | [.agg [.v (ag J se),.xl (.int aw) fl]]=> .req (E8 se fl=U) (.tu #[Aj fl,GH fl])
 |_=> .no
def asB:aN:=[YP,YK]
def ng := vo (S:=aGi) func100 asB kN (λargs lv h=>by
 unfold aGi at h;split at h
 ·rename_i se fl
  refine Al (letI d:=(BD fl (0:Y));letI f:=(BD fl (1:Y));letI b:=((f.drop (1:Y).toNat).take<|(5:Y).toNat-(1:Y).toNat);letI c:=((d.drop (1:Y).toNat).take<|(5:Y).toNat-(1:Y).toNat);.req (((0:Y)=0\/(0:Y)=1)/\M fl<=4096)<|.req (((1:Y)=0\/(1:Y)=1)/\M fl<=4096)<|.req (0<=(0:Y)/\0<(M d:Y))<|.req (0<=(0:Y)/\0<(M f:Y))<|.br (((gi d (0:Y))==80)&&((gi f (0:Y))==80)) (.req (0<=(1:Y)/\(1:Y)<=(5:Y)/\(5:Y)<=(M f:Y))<|.req (4<=M b)<|.req (0<=(1:Y)/\(1:Y)<=(5:Y)/\(5:Y)<=(M d:Y))<|.req (4<=M c)<|.br (an<|(FQ b)>(FQ c)) (.tu #[(1:Y),(0:Y)])<|.tu #[(0:Y),(0:Y)])<|.br ((gi d (0:Y))==80) (.tu #[(0:Y),(0:Y)])<|.br ((gi f (0:Y))==80) (.tu #[(1:Y),(0:Y)])<|.tu #[(0:Y),(4:Y)]) ?_;obtain ⟨h0,rfl⟩:=h;obtain ⟨_,_,h32,hl,_⟩:=Jo.1 h0
  have l0:=Wi fl 0
  have l1:=Wi fl 1
  have fin:∀a e:Y,a=Aj fl->e=GH fl->LV.v (.tuple #[ag J a,ag J e])=LV.v (.tuple #[ag J<|Aj fl,ag J<|GH fl]):=λa e h1 h2=>tw
  have ew:∀w,FQ (((BD fl w).drop (1:Y).toNat).take<|(5:Y).toNat-(1:Y).toNat)=HC fl w:=λw=>rfl
  simp only [ew];refine ⟨?_,?_⟩
  ·first|exact ⟨AS,hl⟩ |omega|decide|(refine ⟨?_,?_⟩<;>omega) |(simp only [Is,Dk];omega) |(refine ⟨AS,AS,?_⟩;omega)
  ·refine ⟨?_,?_⟩
   ·grind
   ·refine ⟨?_,?_⟩
    ·omega
    ·refine ⟨?_,?_⟩
     ·omega
     ·refine ⟨λc1=>?_,λc1=>?_⟩
      ·refine ⟨?_,?_⟩
       ·omega
       ·refine ⟨?_,?_⟩
        ·grind
        ·refine ⟨?_,?_⟩
         ·omega
         ·refine ⟨?_,?_⟩
          ·grind
          ·refine ⟨λc2=>?_,λc2=>?_⟩
           ·refine fin _ _ ?_ ?_<;>simp_all [Aj,GH]
           ·refine fin _ _ ?_ ?_<;>simp_all [Aj,GH]
      ·refine ⟨λc2=>?_,λc2=>?_⟩
       ·refine fin _ _ ?_ ?_<;>simp_all [Aj,GH]
       ·refine ⟨λc3=>?_,λc3=>?_⟩
        ·refine fin _ _ ?_ ?_<;>simp_all [Aj,GH]
        ·refine fin _ _ ?_ ?_<;>simp_all [Aj,GH]
 ·cases h)
structure KG where
 x:Y
 t8:aI
 (t9 t10:Y)
 l:aB
 (n i:Y)
def yr:=lN (bN f104 0) 0
def nG (s:KG):T (Rd KG):=
 .br (an<|s.i<s.n) (.ix s.i (M s.l)<|.nx {s with x:=IntKind.u32.wrap<|(ae1 ax s.x<|IntKind.u32.wrap<|gi s.l s.i)*16777619,i:=AA<|s.i+1}) (.so (.exit 2) s)
def cD (s:KG):Prop:=s.i=0/\s.n<=70000/\s.n=(M s.l:Y)
def ZT (s:KG):Prop:=0<=s.i/\s.i<=s.n/\s.n<=70000/\s.n=(M s.l:Y)
def kW (s:KG):aC:=(s.n-s.i).toNat
def ado (x:Ex) (s s':KG):Prop:=True
def axp:∀s,cD s->ZT s:=by
 exact dB
def arA:Da ZT kW ado nG:=by
 intro s hI;obtain ⟨h0,h1,h2,h3⟩:=hI;refine allR_ite (λc1=>?_) λc1=>?_
 ·have c1:s.i<s.n:=A8
  rw [AH (x:=s.i+1)];exact ⟨⟨A8,A8,h2,h3⟩,by simp only [kW];omega⟩
 ·trivial
def Py:LpD KG:=⟨0,28,[3,8,9,10,14,15,16],[],λs=>[.v<|ag ax s.x,.xl (.sl<|.int aw) s.t8,s.t9,s.t10,.xl (.int aw) s.l,s.n,s.i],λ_=>[],λv b=>⟨AJ v 0,As (.sl<|.int aw) v 1,AJ v 2,AJ v 3,As (.int aw) v 4,AJ v 5,AJ v 6⟩,nG,λs r=> {s with x:=r.x,i:=r.i},λs=>s,λ_ s=>s,[.exit 2],cD,ZT,kW⟩
abbrev zc:=Py.run
abbrev aku:=Py.exn
def ap1:Rq ZT nG:=by
 intro s hI;refine ⟨λc1=>⟨?_,ak⟩,λ_=>trivial⟩
 ·(obtain ⟨h0,h1,h2,h3⟩:=hI;simp only [AT] at c1;omega)
def Xo:aN:=[]
def aES:Py.Ok:={}
def aDR:Py.Pf (ado):=⟨axp,λs h=>rfl,arA,ap1⟩
def ajJ:SA 0 yr Py:=s1 aES aDR Xo kN
def al8:Rs cD aku zc (λs:KG=>O2 s.x<|s.l.drop s.i.toNat) (λx s' (v:Y)=>x=.exit 2/\s'.x=v):=Cq aES aDR (λs hI=>by
  obtain ⟨h0,h1,h2,h3⟩:=hI;refine allR_ite (λc1=>?_) λc1=>?_
  ·have c1:s.i<s.n:=A8
   rw [AH (x:=s.i+1)];rw [(gi_step h0 A0).1];rfl
  ·have c1:s.n<=s.i:=A8
   refine ⟨rfl,?_⟩;rw [Dj A0];rfl)
structure KH where
 x:Y
 l:aI
 (n i:Y)
def x6:=bN f104 0
def nH (s:KH):T (Rd KH):=
 .br (an<|s.i<s.n) (.ix s.i (M s.l)<|.req (Py.q (⟨s.x,s.l,s.n,s.i,gx (e:=.sl<|.int aw) s.l s.i,(M (gx (e:=.sl<|.int aw) s.l s.i):Y),0⟩:KG))<|.nx {s with x:=(zc (⟨s.x,s.l,s.n,s.i,gx (e:=.sl<|.int aw) s.l s.i,(M (gx (e:=.sl<|.int aw) s.l s.i):Y),0⟩:KG)).x,i:=AA<|s.i+1}) (.so (.exit 0) s)
def Fo (l:aI):Prop:=∀p∈l,M p<=70000
def S7 {l:aI}(h:Fo l) {i:Y}(h0:0<=i) (h1:i<(M l:Y)):M (gx (e:=.sl<|.int aw) l i)<=70000:=by
 have:gx (e:=.sl<|.int aw) l i=l[i.toNat]' A0:=K4 A0
 rw [this];exact h _<|Ee _
def cE (s:KH):Prop:=s.i=0/\s.n<=1000/\s.n=(M s.l:Y)/\Fo s.l
def Tu (s:KH):Prop:=0<=s.i/\s.i<=s.n/\s.n<=1000/\s.n=(M s.l:Y)/\Fo s.l
def kX (s:KH):aC:=(s.n-s.i).toNat
def adp (x:Ex) (s s':KH):Prop:=True
def axq:∀s,cE s->Tu s:=by
 exact Vo
def aEV (s:KH) (hI:Tu s) (c1:s.i<s.n):cD (⟨s.x,s.l,s.n,s.i,(gx (e:=.sl<|.int aw) s.l s.i),(M (gx (e:=.sl<|.int aw) s.l s.i):Y),(0:Y)⟩:KG):=by
 obtain ⟨h0,h1,h2,h3,h4⟩:=hI
 have:=S7 h4 h0 A0
 refine ⟨rfl,?_,rfl⟩
 show (M (gx (e:=.sl<|.int aw) s.l s.i):Y)<=70000
 omega
def aqj:Da Tu kX adp nH:=by
 intro s hI;obtain ⟨h0,h1,h2,h3,h4⟩:=hI;refine allR_ite (λc1=>?_) λc1=>trivial
 have c1:s.i<s.n:=A8
 rw [AH (x:=s.i+1)];exact ⟨⟨A8,A8,h2,h3,h4⟩,by simp only [kX];omega⟩
def Pz:LpD KH:=⟨0,28,[3,8,9,10],[],λs=>[.v<|ag ax s.x,.xl (.sl<|.int aw) s.l,s.n,s.i],λ_=>[],λv b=>⟨AJ v 0,As (.sl<|.int aw) v 1,AJ v 2,AJ v 3⟩,nH,λs r=> {r with l:=s.l,n:=s.n},λs=>s,λ_ s=>s,[.exit 0],cE,Tu,kX⟩
abbrev zd:=Pz.run
abbrev akv:=Pz.exn
def ap2:Rq Tu nH:=by
 intro s hI;refine ⟨λc1=>⟨?_,?_,ak⟩,λ_=>trivial⟩
 ·exact aIF
 ·exact ⟨aEV s hI A8,rfl,rfl⟩
def aET:Pz.Ok:={}
def aDS:Pz.Pf (adp):=⟨axq,λs h=>rfl,aqj,ap2⟩
def ajM:SA 0 x6 Pz:=LpD.snd aET aDS (code_sound (Γ:=Xo) (K:=noK) (L:=(λi=>if i=6 then Py.lp else noLoops i)) (gk Xo) kN.h x6 (λb hb=>by
 rw [show loopsIn _=[yr] by kernel_rfl] at hb
 simp only [Au,BX,BV] at hb;subst hb;exact ajJ)) λs=>AO
def S0 {l:aI}{i:Y}(h0:0<=i) (h:i<(M l:Y)):l.drop i.toNat=gx (e:=.sl<|.int aw) l i::l.drop (i+1).toNat:=(NY h0 h).1
def al9:Rs cE akv zd (λs:KH=>(s.l.drop s.i.toNat).foldl O2 s.x) (λx s' (v:Y)=>x=.exit 0/\s'.x=v):=Cq aET aDS (λs hI=>by
  have hin:=λc1=>aEV s hI c1
  obtain ⟨h0,h1,h2,h3,h4⟩:=hI;refine allR_ite (λc1=>?_) λc1=>?_
  ·have c1:s.i<s.n:=A8
   rw [AH (x:=s.i+1)]
   have hr:=(al8 _<|hin c1).2
   rw [hr,S0 h0 A0];rfl
  ·have c1:s.n<=s.i:=A8
   refine ⟨rfl,?_⟩;rw [Dj A0];rfl)
def aGE:aD->T LV
 | [.xl (.sl (.int aw)) ps]=> .req (M ps<=1000/\Fo ps) (.ok<|.v<|ag ax<|MY ps)
 |_=> .no
def YO:=vm (S:=aGE) func104 Xo kN (L:=(λi=>if i=3 then Pz.lp else noLoops i)) (λb hb=>by
 rw [show loopsIn _=[x6] by kernel_rfl] at hb
 simp only [Au,BX,BV] at hb;subst hb;exact ajM) (λargs lv h=>by
 unfold aGE at h;split at h
 ·rename_i ps
  refine Al (.req (Pz.q (⟨2166136261,ps,(M ps:Y),0⟩:KH))<|.ok<|.v<|ag ax (zd (⟨2166136261,ps,(M ps:Y),0⟩:KH)).x) ?_;obtain ⟨⟨h0,h1⟩,rfl⟩:=h
  have hE:cE ⟨2166136261,ps,(M ps:Y),0⟩:=⟨rfl,AR,rfl,h1⟩
  obtain ⟨q1,q2⟩:=al9 _ hE;refine ⟨⟨hE,rfl,rfl⟩,?_⟩;refine An (λz=>LV.v<|ag ax z) ?_
  exact q2
 ·cases h)
def auY:aD->T LV:=λ_=> .no
def aBl:VV 1000035 auY:=by
 intro _ _ _ _ _ _ _ _ _ h;exact h.elim
def aFc:aD->T LV
 | [.xl (.int aw) d]=> .req (M d<=70000) (.ok<|.xl (.int aw)<|BR d)
 |_=> .no
def asA:aN:=[auz,YO,aBl]
def mm:=vo (S:=aFc) func70 asA kN (λargs lv h=>by
 unfold aFc at h;split at h
 ·rename_i d
  refine Al (letI a:=(IntKind.u8.wrap<|(M d:Y).fdiv<|2^8);letI b:=(IntKind.u8.wrap (M d:Y));letI c:=(CP<|MY<|[(([a,b]).drop 0).take 2,d]);.req (0+2<=M ([a,b]))<|.ra 1 (M<|[(80:Y)]) (1+M ((([a,b]).drop 0).take 2)) 1<|.req (0+2<=M ([a,b]))<|.req (M ([(([a,b]).drop 0).take 2,d])<=1000/\Fo ([(([a,b]).drop 0).take 2,d]))<|.ra (1+M ((([a,b]).drop 0).take 2)) (M<|([(80:Y)])++((([a,b]).drop 0).take 2)) (1+M ((([a,b]).drop 0).take 2)+M c) 1<|.ra (1+M ((([a,b]).drop 0).take 2)+M c) (M<|(([(80:Y)])++((([a,b]).drop 0).take 2))++c) (1+M ((([a,b]).drop 0).take 2)+M c+M d) 1<|.req (0+(1+M ((([a,b]).drop 0).take 2)+M c+M d)<=M (((([(80:Y)])++((([a,b]).drop 0).take 2))++c)++d))<|.ok<|.xl (.int aw)<|((((([(80:Y)])++((([a,b]).drop 0).take 2))++c)++d).drop 0).take<|1+M ((([a,b]).drop 0).take 2)+M c+M d) ?_;obtain ⟨h0,rfl⟩:=h
  have e:(([(IntKind.u8.wrap<|(M d:Y).fdiv<|2^8),(IntKind.u8.wrap (M d:Y))].drop 0).take 2)=Hv d:=rfl
  have e2:M (Hv d)=2:=rfl
  have e4:∀n,M (CP n)=4:=λ_=>rfl
  simp only [e]
  have hk:Fo [Hv d,d]:=by
   intro p hp;simp only [Au,BX,BV] at hp;rcases hp with rfl|rfl
   ·rw [e2];omega
   ·exact h0
  iterate 7 refine ⟨A8,?_⟩
  refine An (LV.xl<|.int aw) ?_;rw [Cx A8];rfl
 ·cases h)
def y6 {b:aB}:∀ {n m f:aC},M b<=n+f->M b<=m+f->Fm b n f=Fm b m f
 |0,0,_,_,_=>rfl
 |0,m+1,f,h,_=>aJl
 |n+1,0,f,_,h=>aJl
 |n+1,m+1,f,h1,h2=>by
  simp only [Fm];rw [y6 (n:=n) (m:=m) (f:=f+7+Es b f) A0 A0]
def HM (b:aB) (f:aC):List (List Int)×Nat×Bool:=Fm b (M b) f
def S6 (b:aB) (f:aC):HM b f=if f<M b/\gi b (f:Y)=80 then (if JV b f then (Fe b f::(HM b<|f+7+Es b f).1,(HM b<|f+7+Es b f).2) else ([],f,X)) else ([],f,U):=by
 unfold HM;rw [y6 (n:=M b) (m:=M b+1) (f:=f) A0 A0];rfl
def p7:Array Tmp×Code×Code:=((rangesIn<|f68.body.getD .skip)[0]?).getD (#[],.skip,.skip)
def avO:aKN:=p7.1
def awr:bC:=p7.2.1
def awj:bC:=p7.2.2
structure EP where
 (from_ G8:Y)
 G9:aB
 (MN ME MQ:Y)
 MJ:aM
 (b2 X5 Wa DJ:Y)
 Wr:aM
 b:aB
 rs:aI
 st:LS
def lkS (s:EP):aB:=((s.b.drop (AA<|s.from_+1).toNat).take<|(AA<|s.from_+3).toNat-(AA<|s.from_+1).toNat)
def Di (s:EP):Y:=(AA<|(AA<|(AA<|s.from_+7)+(AA<|(AA<|gi (lkS s) (0:Y))*2^8))+(AA<|gi (lkS s) (1:Y)))
def lkP (s:EP):aI:=([(s.b.drop (AA<|s.from_+1).toNat).take<|(AA<|s.from_+3).toNat-(AA<|s.from_+1).toNat,(s.b.drop (AA<|s.from_+7).toNat).take<|(Di s).toNat-(AA<|s.from_+7).toNat])
def lkH (s:EP):aB:=((s.b.drop (AA<|s.from_+3).toNat).take<|(AA<|s.from_+7).toNat-(AA<|s.from_+3).toNat)
def JM (s:EP):aB:=((s.b.drop (AA<|s.from_+7).toNat).take<|(Di s).toNat-(AA<|s.from_+7).toNat)
def N3 (s:EP):T (Rd EP):=letI a:=(s.rs++([((([]:aB)++([]:aB)).drop 0).take<|0+M ([]:aB)]));letI c:=(M s.rs+M ([((([]:aB)++([]:aB)).drop 0).take<|0+M ([]:aB)]));letI d:=(s.rs++([((([]:aB)++(JM s)).drop 0).take<|0+M (JM s)]));letI e:=(M s.b:Y);letI f:=(M<|[((([]:aB)++([]:aB)).drop 0).take<|0+M ([]:aB)]);letI g:=(M s.rs+M ([((([]:aB)++(JM s)).drop 0).take<|0+M (JM s)]));letI h:=AA<|s.from_+7;letI i:=(M ([]:aB));letI j:=AA<|s.from_+3;letI k:=(MY<|lkP s)==(FQ<|lkH s);letI l:=(M (lkS s):Y);letI m:=M s.rs;.br (an<|s.from_<e) (.ix s.from_ (M s.b)<|.br ((gi s.b s.from_)==80) (.br (an<|h<=e) (.req (0<=(AA<|s.from_+1)/\(AA<|s.from_+1)<=j/\j<=e)<|.req (0<=(0:Y)/\0<l)<|.req (0<=(1:Y)/\1<l)<|.br (an<|(Di s)<=e) (.req (0<=h/\h<=(Di s)/\(Di s)<=e/\(Di s)=(Di s))<|.req (0<=j/\j<=h/\h<=e)<|.req (M (lkP s)<=1000/\Fo (lkP s))<|.req (4<=M (lkH s))<|.br (! k) (.rl s.rs<|.so (.ret) {s with MN:=(0:Y),ME:=(0:Y),MQ:=(0:Y),MJ:=X,b2:=(11:Y),st:=.done<|.ret})<|.ra 0 i (0+M (JM s)) 1<|.req (0+(0+M (JM s))<=M (([]:aB)++(JM s)))<|.rb m (M<|[((([]:aB)++(JM s)).drop 0).take<|0+M (JM s)]) 24<|.br (! k) (.re g d<|.so (.ret) {s with DJ:=Di s,rs:=d})<|.re g d<|.nx {s with from_:=Di s,DJ:=Di s,rs:=d})<|.br (!X) (.rl s.rs<|.so (.ret) {s with MN:=(0:Y),ME:=(0:Y),MQ:=(0:Y),MJ:=X,b2:=(11:Y),st:=.done<|.ret})<|.ra 0 i (0+M ([]:aB)) 1<|.req (0+(0+M ([]:aB))<=M (([]:aB)++([]:aB)))<|.rb m f 24<|.br (!X) (.re c a<|.so (.ret) {s with DJ:=e,rs:=a})<|.re c a<|.nx {s with from_:=e,DJ:=e,rs:=a})<|.br (!X) (.rl s.rs<|.so (.ret) {s with MN:=(0:Y),ME:=(0:Y),MQ:=(0:Y),MJ:=X,b2:=(11:Y),st:=.done<|.ret})<|.ra 0 i (0+M ([]:aB)) 1<|.req (0+(0+M ([]:aB))<=M (([]:aB)++([]:aB)))<|.rb m f 24<|.br (!X) (.re c a<|.so (.ret) {s with DJ:=e,rs:=a})<|.re c a<|.nx {s with from_:=e,DJ:=e,rs:=a})<|.rl s.rs<|.so (.exit 0) s)<|.rl s.rs<|.so (.exit 0) s
def pn {b:aB}(h:Ay b) (i:Y):0<=gi b i/\gi b i<=255:=by
 unfold gi;rw [CH];cases e:b[i.toNat]? with
 |none=>decide
 |some x=>exact h x<|Lz e
def acu {b:aB}{m n k:aC}(h:k<n):gi ((b.drop m).take n) (k:Y)=gi b ((m+k:aC):Y):=by
 unfold gi
 grind
def KK (s:EP) (hb:Ay s.b) (h0:0<=s.from_) (h7:s.from_+7<=(M s.b:Y)) (hl:M s.b<=4096):
  Di s=s.from_+7+Es s.b s.from_.toNat/\M (lkS s)=2/\lkH s=(s.b.drop<|s.from_.toNat+3).take 4/\JM s=Fe s.b s.from_.toNat/\lkP s=[(s.b.drop<|s.from_.toNat+1).take 2,Fe s.b s.from_.toNat]:=by
 obtain ⟨f,hf⟩:=NC h0
 have w1:AA (s.from_+1)=s.from_+1:=AH
 have w3:AA (s.from_+3)=s.from_+3:=AH
 have w7:AA (s.from_+7)=s.from_+7:=AH
 have t1:(s.from_+1).toNat=f+1:=A0
 have t3:(s.from_+3).toNat=f+3:=A0
 have t7:(s.from_+7).toNat=f+7:=A0
 have tf:s.from_.toNat=f:=A0
 have eS:lkS s=(s.b.drop<|f+1).take 2:=by
  unfold lkS;rw [w1,w3,t1,t3,show f+3-(f+1)=2 by omega]
 have b1:=pn hb ((f+1:aC):Y)
 have b2:=pn hb ((f+2:aC):Y)
 have g0:gi (lkS s) (0:Y)=gi s.b ((f+1:aC):Y):=by rw [eS];exact acu (k:=0) AS
 have g1:gi (lkS s) (1:Y)=gi s.b ((f+2:aC):Y):=by rw [eS];exact acu (k:=1) AS
 have hN:Es s.b f=(gi s.b ((f+1:aC):Y)).toNat*256+(gi s.b ((f+2:aC):Y)).toNat:=rfl
 have eT:Di s=s.from_+7+Es s.b f:=by
  unfold Di;rw [g0,g1,w7,AH (x:=gi s.b ((f+1:aC):Y)),AH (x:=gi s.b ((f+1:aC):Y)*2^8),AH (x:=gi s.b ((f+2:aC):Y)),AH (x:=s.from_+7+gi s.b ((f+1:aC):Y)*2^8),AH];omega
 have eD:(s.b.drop (AA<|s.from_+7).toNat).take ((Di s).toNat-(AA<|s.from_+7).toNat)=Fe s.b f:=by
  unfold Fe;rw [eT,w7,t7,show (s.from_+7+(Es s.b f:Y)).toNat-(f+7)=Es s.b f by omega]
 rw [tf];refine ⟨eT,by rw [eS];simp only [Is,Dk];omega,?_,eD,?_⟩
 ·unfold lkH
  rw [w3,w7,t3,t7,show f+7-(f+3)=4 by omega]
 ·unfold lkP
  rw [eD,w1,w3,t1,t3,show f+3-(f+1)=2 by omega]
def aeA (s:EP) (hb:Ay s.b) (h0:0<=s.from_) (h7:s.from_+7<=(M s.b:Y)) (hl:M s.b<=4096) (hT:Di s<=(M s.b:Y)):JV s.b s.from_.toNat=(MY (lkP s)==FQ (lkH s)):=by
 obtain ⟨e1,e2,e3,e4,e5⟩:=KK s hb h0 h7 hl;unfold JV rcF;rw [e3,e5,CB (p:=s.from_.toNat+7<=M s.b) A0,CB (p:=s.from_.toNat+7+Es s.b s.from_.toNat<=M s.b) A0];rfl
def aeB (s:EP) (h0:0<=s.from_) (hl:M s.b<=4096) (h:(M s.b:Y)<s.from_+7\/(M s.b:Y)<s.from_+7+Es s.b s.from_.toNat):JV s.b s.from_.toNat=false:=by
 unfold JV rcF
 by_cases h1:s.from_.toNat+7<=M s.b
 ·rw [GU (p:=s.from_.toNat+7+Es s.b s.from_.toNat<=M s.b) A0,OJ]
  rfl
 ·rw [GU (p:=s.from_.toNat+7<=M s.b) h1]
  rfl
def al2 (fx:Ex->EP->EP) (hr:∀s',fx .ret s'={s' with st:=.done .ret}) (h0:∀s',fx (.exit 0) s'={s' with st:=.ready}) (s:EP) (h:s.st=.ready):allR (λ_=>True) (λx s'=>fx x s'=s') ((N3 s).rd s):=by
 obtain ⟨from_,G8,G9,MN,ME,MQ,MJ,b2,X5,Wa,DJ,Wr,b,rs,st⟩:=s;subst h;unfold N3;dsimp only [T.rd,T.rl,T.rv];refine allR_ite (λc1=>?_) λc1=>?_
 ·refine allR_ite (λc2=>?_) (λc2=>?_)
  ·refine allR_ite (λc3=>?_) (λc3=>?_)
   ·refine allR_ite (λc4=>?_) (λc4=>?_)
    ·refine allR_ite (λc5=>?_) (λc5=>?_)
     ·exact hr _
     ·refine allR_ite (λc6=>?_) (λc6=>?_)
      ·grind
      ·trivial
    ·refine allR_ite (λc5=>?_) (λc5=>?_)
     ·exact hr _
     ·exact aJ0
   ·refine allR_ite (λc4=>?_) (λc4=>?_)
    ·exact hr _
    ·exact aJ1
  ·exact h0 _
 ·exact h0 _
def fJ (s:EP):Prop:=s.st=.ready/\5<=s.from_/\s.from_<=(M s.b:Y)/\M s.b<=4096/\Ay s.b/\s.DJ=s.from_/\(M s.rs:Y)<=s.from_
def fU (s:EP):Prop:=s.st=.ready/\5<=s.from_/\s.from_<=(M s.b:Y)/\M s.b<=4096/\Ay s.b/\s.DJ=s.from_/\(M s.rs:Y)<=s.from_
def pX (s:EP):aC:=((M s.b:Y)-s.from_).toNat
def aeL (x:Ex) (s s':EP):Prop:=True
def azL:∀s,fJ s->fU s:=by
 exact λs h=>h
def awG:Da fU pX aeL N3:=by
 intro s hI;unfold N3;dsimp only [T.rd,T.rl,T.rv];refine allR_ite (λc1=>?_) λc1=>?_
 ·refine allR_ite (λc2=>?_) (λc2=>?_)
  ·refine allR_ite (λc3=>?_) (λc3=>?_)
   ·refine allR_ite (λc4=>?_) (λc4=>?_)
    ·refine allR_ite (λc5=>?_) (λc5=>?_)
     ·trivial
     ·refine allR_ite (λc6=>?_) (λc6=>?_)
      ·grind
      ·obtain ⟨ht,h5,hl,h4,hb,he,hr⟩:=hI
       have w7:AA (s.from_+7)=s.from_+7:=AH
       have c3:s.from_+7<=(M s.b:Y):=A8
       have c4:=CW c4
       obtain ⟨e1,e2,e3,e4,e5⟩:=KK s hb A0 c3 h4;refine ⟨⟨ht,A8,c4,h4,hb,rfl,?_⟩,?_⟩
       ·grind
       ·simp only [pX];omega
    ·refine allR_ite (λc5=>?_) (λc5=>?_)
     ·trivial
     ·exact aJ0
   ·refine allR_ite (λc4=>?_) (λc4=>?_)
    ·trivial
    ·exact aJ1
  ·trivial
 ·trivial
def N9:LpD EP:=⟨6,83,[0,1,3],[.nc 3 2 35<|.sl<|.int aw],λs=>[.yld 5,.own 4 0,s.from_],λs=>[⟨[s.G8,.xl (.int aw) s.G9],37,.cl,X⟩,⟨[s.MN,.v<|ag ax s.ME,.v<|.slice aj 0 0,s.MQ,s.MJ],156,.cl,X⟩,⟨[s.b2],52,.cl,X⟩,⟨[s.X5,.v<|ag ax s.Wa,.os 6 1 0<|M s.rs,s.DJ,s.Wr],156,.cl,X⟩,⟨[.xl (.int aw) s.b],35,.cl,X⟩,⟨[.junk,.junk,.own 1 0,.own 2 0,.junk,.junk,.junk,.own 3 0,.v<|.tuple #[],.junk,.junk,.junk,.junk,.junk,.junk,.junk,.junk,.junk,.junk,.junk,.junk,.junk,.junk,.junk,.junk,.junk,.junk,.junk,.junk,.junk,.junk,.junk,.junk,.junk,.v<|.tuple #[],.v<|.tuple #[],.v<|.tuple #[],.v<|.tuple #[],.v<|.tuple #[],.v<|.tuple #[],.v<|.tuple #[],.v<|.tuple #[],.v<|.tuple #[],.v<|.tuple #[],.v<|.tuple #[],.v<|.tuple #[],.v<|.tuple #[],.v<|.tuple #[],.v<|.tuple #[],.v<|.tuple #[],.v<|.tuple #[],.junk,.junk,.junk,.junk,.junk,.junk,.junk,.junk,.junk,.junk,.junk,.junk,.junk,.junk,.junk,.junk,.junk,.junk],0,.lrec avO awr awj s.st,X⟩,⟨[],35,.vec (.sl<|.int aw) s.rs,X⟩],λv b=>⟨AJ v 2,Af b 0 0,AE (.int aw) b 0 1,Af b 1 0,Af b 1 1,Af b 1 3,Ik b 1 4,Af b 2 0,Af b 3 0,Af b 3 1,Af b 3 3,Ik b 3 4,AE (.int aw) b 4 0,AV (.sl<|.int aw) b 6,.ready⟩,N3,λs r=> {r with G8:=s.G8,G9:=s.G9,X5:=s.X5,Wa:=s.Wa,Wr:=s.Wr,b:=s.b},λs=> {s with st:=.ready},λx s=> {s with st:=(match x with| .ret=>(.done<|.ret) | .exit 0=> .ready|_=> .ready)},[.ret,.exit 0],fJ,fU,pX⟩
abbrev Cz:=N9.run
abbrev aFC:=N9.exn
def lr:aN:=[YL,ng,YP,YK,YO]
def asi:Ap:=kI lr<|l0 lr
def avp:Rq fU N3:=by
 intro s hI;refine ⟨λc1=>⟨?_,λc2=>⟨λc3=>⟨?_,?_,?_,λc4=>⟨?_,?_,?_,?_,λc5=>⟨A9,ak⟩,λc5=>⟨?_,?_,?_,λc6=>⟨?_,ak⟩,λc6=>⟨?_,ak⟩⟩⟩,λc4=>⟨λc7=>⟨A9,ak⟩,λc7=>⟨?_,?_,?_,λc8=>⟨?_,ak⟩,λc8=>⟨?_,ak⟩⟩⟩⟩,λc3=>⟨λc9=>⟨A9,ak⟩,λc9=>⟨?_,?_,?_,λc10=>⟨?_,ak⟩,λc10=>⟨?_,ak⟩⟩⟩⟩,λc2=>⟨A9,ak⟩⟩,λc1=>⟨A9,ak⟩⟩
 ·(obtain ⟨ht,h5,hl,h4,hb,he,hr⟩:=hI;have w7:AA (s.from_+7)=s.from_+7:=AH;have w1:AA (s.from_+1)=s.from_+1:=AH;have w3:AA (s.from_+3)=s.from_+3:=AH;simp only [AT] at c1;omega)
 iterate 3 · (obtain ⟨ht,h5,hl,h4,hb,he,hr⟩:=hI;have w7:AA (s.from_+7)=s.from_+7:=AH;have w1:AA (s.from_+1)=s.from_+1:=AH;have w3:AA (s.from_+3)=s.from_+3:=AH;have k3:s.from_+7<=(M s.b:Y):=M8;obtain ⟨e1,e2,e3,e4,e5⟩:=KK s hb A0 k3 h4;(first|omega|(rw [w1,w3];omega) |(rw [w3,w7];omega)))
 iterate 2 · (obtain ⟨ht,h5,hl,h4,hb,he,hr⟩:=hI;have w7:AA (s.from_+7)=s.from_+7:=AH;have w1:AA (s.from_+1)=s.from_+1:=AH;have w3:AA (s.from_+3)=s.from_+3:=AH;have k3:s.from_+7<=(M s.b:Y):=M8;obtain ⟨e1,e2,e3,e4,e5⟩:=KK s hb A0 k3 h4;have k4:Di s<=(M s.b:Y):=CW c4;have hD:M (Fe s.b s.from_.toNat)<=4096:=Vt;(first|omega|(rw [w1,w3];omega) |(rw [w3,w7];omega) |(rw [w7];exact ⟨A0,A0,k4,rfl⟩)))
 ·(obtain ⟨ht,h5,hl,h4,hb,he,hr⟩:=hI;have w7:AA (s.from_+7)=s.from_+7:=AH;have w1:AA (s.from_+1)=s.from_+1:=AH;have w3:AA (s.from_+3)=s.from_+3:=AH;have k3:s.from_+7<=(M s.b:Y):=M8;obtain ⟨e1,e2,e3,e4,e5⟩:=KK s hb A0 k3 h4;have k4:Di s<=(M s.b:Y):=CW c4;have hD:M (Fe s.b s.from_.toNat)<=4096:=Vt;rw [e5];refine ⟨AG,λp hp=>?_⟩;simp only [Au,BX,BV] at hp;rcases hp with rfl|rfl;(first|(simp only [Is,Dk];omega) |omega);omega)
 ·(obtain ⟨ht,h5,hl,h4,hb,he,hr⟩:=hI;have w7:AA (s.from_+7)=s.from_+7:=AH;have w1:AA (s.from_+1)=s.from_+1:=AH;have w3:AA (s.from_+3)=s.from_+3:=AH;have k3:s.from_+7<=(M s.b:Y):=M8;obtain ⟨e1,e2,e3,e4,e5⟩:=KK s hb A0 k3 h4;have k4:Di s<=(M s.b:Y):=CW c4;have hD:M (Fe s.b s.from_.toNat)<=4096:=Vt;rw [e3];simp only [Is,Dk];omega)
 ·(obtain ⟨ht,h5,hl,h4,hb,he,hr⟩:=hI;have w7:AA (s.from_+7)=s.from_+7:=AH;have w1:AA (s.from_+1)=s.from_+1:=AH;have w3:AA (s.from_+3)=s.from_+3:=AH;have k3:s.from_+7<=(M s.b:Y):=M8;obtain ⟨e1,e2,e3,e4,e5⟩:=KK s hb A0 k3 h4;have k4:Di s<=(M s.b:Y):=CW c4;have hD:M (Fe s.b s.from_.toNat)<=4096:=Vt;rw [e4];simp only [Ax,BI,BQ,DZ];try omega)
 ·grind
 iterate 3 · (obtain ⟨ht,h5,hl,h4,hb,he,hr⟩:=hI;have w7:AA (s.from_+7)=s.from_+7:=AH;have w1:AA (s.from_+1)=s.from_+1:=AH;have w3:AA (s.from_+3)=s.from_+3:=AH;have k3:s.from_+7<=(M s.b:Y):=M8;obtain ⟨e1,e2,e3,e4,e5⟩:=KK s hb A0 k3 h4;have k4:Di s<=(M s.b:Y):=CW c4;have hD:M (Fe s.b s.from_.toNat)<=4096:=Vt;rw [e4];simp only [Ax,BI,BQ,DZ];try omega)
 iterate 5 · exact absurd c7 AS
 iterate 5 · exact absurd c9 AS
def abe:N9.Ok:=⟨λs=>AO,λs _=>al2 N9.fx (λ_=>rfl) (λ_=>rfl) (N9.rd s) rfl,λs=>rfl,λs t r=>rfl,λs=>rfl,λs=>AO⟩
def abI:N9.Pf (aeL):=⟨azL,λs h=>by
 obtain ⟨from_,G8,G9,MN,ME,MQ,MJ,b2,X5,Wa,DJ,Wr,b,rs,st⟩:=s
 have e:=h.1
 subst e;rfl,awG,avp⟩
def jk:=s2 (b:=bN f147 0) abe abI lr asi
def ar2:Rs fJ aFC Cz (λs:EP=>(s.rs++(HM s.b s.from_.toNat).1,(HM s.b s.from_.toNat).2.1,(HM s.b s.from_.toNat).2.2)) (λx s' (v:List (List Int)×Nat×Bool)=>(x=.exit 0/\s'.rs=v.1/\s'.DJ=(v.2.1:Y)/\v.2.2=U)\/(x=.ret/\v.2.2=X/\s'.b2=11/\s'.MN=0/\s'.ME=0/\s'.MQ=0/\s'.MJ=X)):=Cq abe abI (λs hI=>by
  show allR _ _ ((N3 s).rd s)
  unfold N3;dsimp only [T.rd,T.rl];refine allR_ite (λc1=>?_) λc1=>?_
  ·refine allR_ite (λc2=>?_) (λc2=>?_)
   ·refine allR_ite (λc3=>?_) (λc3=>?_)
    ·refine allR_ite (λc4=>?_) (λc4=>?_)
     ·refine allR_ite (λc5=>?_) (λc5=>?_)
      ·obtain ⟨ht,h5,hl,h4,hb,he,hr⟩:=hI
       have w7:AA (s.from_+7)=s.from_+7:=AH
       have hq:=S6 s.b s.from_.toNat
       rw [C2 A0] at hq;rw [AB ⟨eG,DQ⟩] at hq
       have k3:s.from_+7<=(M s.b:Y):=M8
       obtain ⟨e1,e2,e3,e4,e5⟩:=KK s hb A0 k3 h4
       have hg:=aeA s hb A0 k3 h4<|CW c4
       have hg:JV s.b s.from_.toNat=false:=aKa
       exact rZ
      ·refine allR_ite (λc6=>?_) (λc6=>?_)
       ·exact absurd (c5.symm.trans c6) AS
       ·obtain ⟨ht,h5,hl,h4,hb,he,hr⟩:=hI
        have w7:AA (s.from_+7)=s.from_+7:=AH
        have hq:=S6 s.b s.from_.toNat
        rw [C2 A0] at hq;rw [AB ⟨eG,DQ⟩] at hq
        have k3:s.from_+7<=(M s.b:Y):=M8
        obtain ⟨e1,e2,e3,e4,e5⟩:=KK s hb A0 k3 h4
        have hg:=aeA s hb A0 k3 h4<|CW c4
        have hg:JV s.b s.from_.toNat=true:=aKa
        rw [AB hg] at hq
        have et:(Di s).toNat=s.from_.toNat+7+Es s.b s.from_.toNat:=A0
        have ed:((([]:aB)++JM s).drop 0).take (0+M (JM s))=Fe s.b s.from_.toNat:=by
         rw [e4,De,C0,Dc];exact Cx<|Ak _
        show (s.rs++[_]++(HM s.b (Di s).toNat).1,(HM s.b (Di s).toNat).2.1,(HM s.b (Di s).toNat).2.2)=(s.rs++(HM s.b s.from_.toNat).1,(HM s.b s.from_.toNat).2.1,(HM s.b s.from_.toNat).2.2)
        rw [ed,et,hq];simp only [CC,Ip,De]
     ·refine allR_ite (λc5=>?_) (λc5=>?_)
      ·obtain ⟨ht,h5,hl,h4,hb,he,hr⟩:=hI
       have w7:AA (s.from_+7)=s.from_+7:=AH
       have hq:=S6 s.b s.from_.toNat
       rw [C2 A0] at hq;rw [AB ⟨eG,DQ⟩] at hq
       have k3:s.from_+7<=(M s.b:Y):=M8
       obtain ⟨e1,e2,e3,e4,e5⟩:=KK s hb A0 k3 h4
       have hg:=aeB s A0 h4<|.inr (by have:=I0 c4;omega)
       exact rZ
      ·refine allR_ite (λc6=>?_) (λc6=>?_)
       ·exact absurd c5 AS
       ·exact absurd c5 AS
    ·refine allR_ite (λc4=>?_) (λc4=>?_)
     ·obtain ⟨ht,h5,hl,h4,hb,he,hr⟩:=hI
      have w7:AA (s.from_+7)=s.from_+7:=AH
      have hq:=S6 s.b s.from_.toNat
      rw [C2 A0] at hq;rw [AB ⟨eG,DQ⟩] at hq
      have hg:=aeB s A0 h4<|.inl (by rw [w7] at c3;have:=I0 c3;omega)
      exact rZ
     ·refine allR_ite (λc5=>?_) (λc5=>?_)
      ·exact absurd c4 AS
      ·exact absurd c4 AS
   ·obtain ⟨ht,h5,hl,h4,hb,he,hr⟩:=hI
    have hq:=S6 s.b s.from_.toNat
    rw [C2 A0] at hq;rw [AD A8] at hq;rw [hq];exact .inl ⟨rfl,(Ec _).symm,AR,rfl⟩
  ·obtain ⟨ht,h5,hl,h4,hb,he,hr⟩:=hI
   have hq:=S6 s.b s.from_.toNat
   rw [C2 A0] at hq;rw [AD A8] at hq;rw [hq];exact .inl ⟨rfl,(Ec _).symm,AR,rfl⟩)
structure Lo where
 l:aB
 (n i j9 vk mY:Y)
 x7:aM
 (b1 SJ RM Sr:Y)
 Gy:aM
 rs:aI
def v9 (s:Lo):T (Rd Lo):=
 .br (an<|s.i<s.n) (.ix s.i (M s.l)<|.br s.Gy (.rl s.rs<|.nx {s with i:=AA<|s.i+1,Gy:=((gi s.l s.i)==255)})<|.rl s.rs<|.nx {s with i:=AA<|s.i+1,Gy:=X}) (.rl s.rs<|.so (.exit 2) s)
def fL (s:Lo):Prop:=s.i=0/\s.n<=4096/\s.n=(M s.l:Y)
def fV (s:Lo):Prop:=0<=s.i/\s.i<=s.n/\s.n<=4096/\s.n=(M s.l:Y)
def ml (s:Lo):aC:=(s.n-s.i).toNat
def aeG (x:Ex) (s s':Lo):Prop:=True
def azN:∀s,fL s->fV s:=by
 exact dB
def awI:Da fV ml aeG v9:=by
 intro s hI;obtain ⟨h0,h1,h2,h3⟩:=hI;refine allR_ite (λc1=>?_) λc1=>?_
 ·refine allR_ite (λc2=>?_) (λc2=>?_)
  ·exact aHb
  ·exact aHb
 ·trivial
def Ql:LpD Lo:=⟨0,69,[2,3,7,54,55,56],[],λs=>[.own 0 0,.own 1 0,.own 2 0,.xl (.int aw) s.l,s.n,s.i],λs=>[⟨[s.j9,.v<|ag ax s.vk,.v<|.slice aj 0 0,s.mY,s.x7],156,.cl,X⟩,⟨[s.b1],52,.cl,X⟩,⟨[s.SJ,.v<|ag ax s.RM,.os 3 1 0<|M s.rs,s.Sr,s.Gy],156,.cl,X⟩,⟨[],35,.vec (.sl<|.int aw) s.rs,X⟩],λv b=>⟨As (.int aw) v 3,AJ v 4,AJ v 5,Af b 0 0,Af b 0 1,Af b 0 3,Ik b 0 4,Af b 1 0,Af b 2 0,Af b 2 1,Af b 2 3,Ik b 2 4,AV (.sl<|.int aw) b 3⟩,v9,λs r=> {s with i:=r.i,Gy:=r.Gy},λs=>s,λ_ s=>s,[.exit 2],fL,fV,ml⟩
abbrev jI:=Ql.run
abbrev ark:=Ql.exn
def avr:Rq fV v9:=by
 exact aGu
def lq:aN:=[YL,ng,YP,YK,YO]
def ash:Ap:=kI lq<|la 1 func147 jk<|l0 lq
def abg:Ql.Ok:={}
def abK:Ql.Pf (aeG):=⟨azN,λs h=>rfl,awI,avr⟩
def aC4:=s1 (b:=bN f68 0) abg abK lq ash
def ar7:Rs fL ark jI (λs:Lo=>s.Gy&&(s.l.drop s.i.toNat).all (λb=>b==255)) (λx s' (v:aM)=>x=.exit 2/\s'.Gy=v):=Cq abg abK (λs hI=>by
  obtain ⟨h0,h1,h2,h3⟩:=hI;refine allR_ite (λc1=>allR_ite (λc2=>?_) λc2=>?_) λc1=>?_
  ·have c1:s.i<s.n:=A8
   rw [AH (x:=s.i+1)]
   show (_&&_)=(_&&_)
   rw [(gi_step h0 A0).1,Gm,c2,DP]
  ·have c1:s.i<s.n:=A8
   rw [c2];rfl
  ·have c1:s.n<=s.i:=A8
   refine ⟨rfl,?_⟩;rw [Dj A0];exact (cj _).symm)
def mH {b:aB}:∀ {n f:aC},f<=M b->(Fm b n f).2.1<=M b
 |0,_,h=>h
 | n+1,f,h=>by
  simp only [Fm];split
  ·split
   ·rename_i hg
    unfold JV rcF at hg;simp only [AP,AT] at hg;exact mH (n:=n) hg.1.2
   ·exact h
  ·exact h
def Dy (se:Y) (fl:aB):Y:=if Bz se fl=0 then Aj fl else 0
def Ho (se:Y) (fl:aB):Y:=if Bz se fl=0 then HC fl (Aj fl) else 0
def Co (se:Y) (fl:aB):aI:=if Bz se fl=0 then (DN fl).1 else []
def Ge (se:Y) (fl:aB):Y:=if Bz se fl=0 then ((DN fl).2.1:Y) else 0
def KJ (se:Y) (fl:aB):aM:=if Bz se fl=0 then lkC fl else X
end Go.Proofs.YtcdkianomnhhmaaGreatDoor
namespace Go.Sx
open Go Go.RowKit Go.Proofs.YtcdkianomnhhmaaGreatDoor
variable {P : Program} {G : Globs} {Γ : Specs} {K : Hand} {L : Loops} {Z0 : Gz} {w0 : World}
abbrev Qd:=Nat->Option (List Nat×List Up)
def XN (P:aR) (G:bf) (Γ:aKy) (K:aKP) (L:LoopC) (cs:Qd):bC->aD->aE->T (Ex×List LV×List Blk)
 | .seq a b,F,H=>(XN P G Γ K L cs a F H).bind λq=>match q.1 with
  | .normal=>match cs (firstR b) with
   |some (live,us)=>(canT 0 live us .normal q.2.1 q.2.2).bind λv=>if v.low then XN P G Γ K L cs b (frameOf (M q.2.1) live v.vals) v.blks else .no
   |none=>XN P G Γ K L cs b q.2.1 q.2.2
  |x=> .ok (x,q.2)
 |c,F,H=>codex P G Γ K L c F H
def afK {L:LoopC}{cs:Qd}(hΓ:∀g S,Γ g=ah S->Valid P G g S) (hK:KSound P G K) (c:bC) (hl:∀b∈loopsIn c,SoundA P G (AN 0) (.loop b)<|L b):SoundA P G (AN 0) c (XN P G Γ K L cs c):=by
 induction c with
 | seq c1 c2 ih1 ih2=>
  intro r w0 Z0 Z β F H a w ds Q x F' H' hA hr hD hW hF h hQ;obtain ⟨⟨y,F1,H1⟩,h1,h2⟩:=T.bind_all h;obtain ⟨hr1,hr2⟩:=nr_left (show r=aj\/(noRF c1&&noRF c2)=U from hr);refine wpIn_seq<|ih1 (λb hb=>hl b Od) r w0 Z0 Z β F H a w ds _ y F1 H1 hA hr1 hD hW hF h1 λds' Z' β' a' w' e0 e1 e2=>?_
  cases y with
  | normal=>
   simp only at h2;split at h2
   ·rename_i live us hcs
    obtain ⟨v,h3,h4⟩:=T.bind_all h2;split at h4
    ·rename_i hlow
     obtain ⟨_,_,Z2,β2,e3,e4⟩:=canT_sound hA e1 e2 h3 hlow;exact ih2 (λb hb=>hl b Od) r w0 Z0 Z2 β2 _ _ a' w' ds' Q x F' H' hA hr2 e0 e3 e4 h4 hQ
    ·cases h4
   ·exact ih2 (λb hb=>hl b Od) r w0 Z0 Z' β' F1 H1 a' w' ds' Q x F' H' hA hr2 e0 e1 e2 h2 hQ
  |exit m=>
   obtain ⟨rfl,rfl,rfl⟩:=h2;exact hQ ds' Z' β' a' w' e0 e1 e2
  |ret=>
   obtain ⟨rfl,rfl,rfl⟩:=h2;exact hQ ds' Z' β' a' w' e0 e1 e2
 |_=>exact code_soundA hΓ hK _ hl
def Yv (P:aR) (G:bf) (Γ:aKy) (K:aKP) (L:aK2) (cs:Qd) (fn:aKG) (args:aD):T LV:=
 (match fn.body with
 |some c=>finX P fn (XN P G Γ K (byId L) cs c) args
 |none=> .no).bind λx=> .ok<|canX<|upR P fn.resultTypes.toList x
def aeg {f:bn}{fn:aKG}{c:bC}{S:aD->T LV}{cs:Qd}(hfn:P.funcs[f]? =ah fn) (hc:fn.body=ah c) (hΓ:∀g S,Γ g=ah S->Valid P G g S) (hK:KSound P G K)
  (hL:∀b∈loopsIn c,Sound P G (.loop b)<|L<|firstR b) (hS:∀args lv,(S args).all (λx=>x=lv)->(Yv P G Γ K L cs fn<|canL args).all (λx=>x=lv)):Valid P G f (upS P fn.params.toList S):=
 xH (valid_core hfn hc<|afK (L:=byId L) (cs:=cs) hΓ hK c hL) (λargs lv h=>by have:=hS args lv h;unfold Yv at this;simpa only [hc] using this)
def T.vH {α:Type}:T α->T α
 | .br b t e=> .br b t.red e.red
 | .req p t=> .req p (T.vH t)
 |t=>t
def T.yU {α:Type}{K:α->Prop}:∀ {t:T α},t.vH.all K->t.all K
 | .ok _,h=>h
 | .br _ _ _,h=>⟨λhb=>T.Ry<|h.1 hb,λhb=>T.Ry<|h.2 hb⟩
 | .req _ _,h=>⟨h.1,T.yU h.2⟩
 | .no,h=>h
end Go.Sx
namespace Go.Proofs.YtcdkianomnhhmaaGreatDoor
set_option maxRecDepth 100000
set_option maxHeartbeats 4000000
open Go.Proofs.Tryz
open Go.Sx
def ab9 {b:aB}:∀(n f:aC),M (Fm b n f).1<=n
 |0,_=>Ak _
 | n+1,f=>by
  simp only [Fm];split
  ·split
   ·have:=ab9 (b:=b) n (f+7+Es b f)
    grind
   ·grind
  ·grind
def aEf {b:aB}(h:Ay b):∀(n f:aC),∀d∈(Fm b n f).1,Ay d/\M d<=M b
 |0,_,d,hd=>WE
 | n+1,f,d,hd=>by
  simp only [Fm] at hd;split at hd
  ·split at hd
   ·rcases Au.1 hd with rfl|hd
    ·exact ⟨λx hx=>h x<|VH<|OG hx,by unfold Fe;rw [Is,Dk];omega⟩
    ·exact aEf h n _ d hd
   ·cases hd
  ·cases hd
def aEe {se:Y}{fl:aB}(h:Ay fl) (hl:M fl<=4096):M (Co se fl)<=4096/\(∀d∈Co se fl,Ay d)/\∀d∈Co se fl,M d<=4096:=by
 unfold Co;split
 ·have ha:=Wi fl (Aj fl)
  have hb:Ay (BD fl<|Aj fl):=λx hx=>by
   unfold BD at hx;split at hx
   ·exact h x<|OG hx
   ·exact h x<|VH<|OG hx
  have hg:=aEf hb (M<|BD fl<|Aj fl) 5
  refine ⟨?_,λd hd=>(hg d hd).1,λd hd=>by have:=(hg d hd).2;omega⟩
  have:=ab9 (b:=BD fl<|Aj fl) (M<|BD fl<|Aj fl) 5
  unfold DN;omega
 ·grind
structure Hl where
 f0:Y
 f1:aB
def QI (s:Hl):aD:=[.agg [s.f0,.xl (.int aw) s.f1]]
def Ue (s:Hl):aE:=[]
def CT (s:Hl):EP:=(⟨5,s.f0,s.f1,0,0,0,X,0,Aj s.f1,FQ<|((BD s.f1<|Aj s.f1).drop (1:Y).toNat).take<|(5:Y).toNat-(1:Y).toNat,5,U,BD s.f1<|Aj s.f1,([]:aI),.ready⟩:EP)
def hM (s:Hl):Lo:=(⟨((BD s.f1<|Aj s.f1).drop (Cz<|CT s).DJ.toNat).take<|(M (BD s.f1<|Aj s.f1):Y).toNat-(Cz<|CT s).DJ.toNat,(M (((BD s.f1<|Aj s.f1).drop (Cz<|CT s).DJ.toNat).take<|(M (BD s.f1<|Aj s.f1):Y).toNat-(Cz<|CT s).DJ.toNat):Y),0,(Cz<|CT s).MN,(Cz<|CT s).ME,(Cz<|CT s).MQ,(Cz<|CT s).MJ,(Cz<|CT s).b2,Aj s.f1,FQ<|((BD s.f1<|Aj s.f1).drop (1:Y).toNat).take<|(5:Y).toNat-(1:Y).toNat,(Cz<|CT s).DJ,U,(Cz<|CT s).rs⟩:Lo)
structure Ss where
 (c0 c1 c3:Y)
 c4:aM
 e:Y
 rs:aI
def acO (s:Ss):LV:=.tup [.agg [s.c0,.v<|ag ax s.c1,.os 0 1 0<|M s.rs,s.c3,s.c4],s.e]
def adF (s:Ss):aE:=[⟨[],35,.vec (.sl<|.int aw) s.rs,X⟩]
def YF (s:Hl):T Ss:=
 .br (!(E8 s.f0 s.f1)) (.ok<|⟨0,0,0,X,1,([]:aI)⟩) (.req (E8 s.f0 s.f1=U)<|.br ((GH s.f1) !=0) (.ok<|⟨0,0,0,X,GH s.f1,([]:aI)⟩)<|.req (((Aj s.f1)=0\/(Aj s.f1)=1)/\M s.f1<=4096)<|.req (0<=(1:Y)/\(1:Y)<=(5:Y)/\(5:Y)<=(M (BD s.f1<|Aj s.f1):Y))<|.req (4<=M (((BD s.f1<|Aj s.f1).drop (1:Y).toNat).take<|(5:Y).toNat-(1:Y).toNat))<|.r0 (List Int)<|.req (N9.q<|CT s)<|.br (isEx (aFC<|CT s)<|.ret) (.ok<|⟨(Cz<|CT s).MN,(Cz<|CT s).ME,(Cz<|CT s).MQ,(Cz<|CT s).MJ,(Cz<|CT s).b2,([]:aI)⟩)<|.req (0<=(Cz<|CT s).DJ/\(Cz<|CT s).DJ<=(M (BD s.f1<|Aj s.f1):Y)/\(M (BD s.f1<|Aj s.f1):Y)<=(M (BD s.f1<|Aj s.f1):Y))<|.rl (Cz<|CT s).rs<|.req (Ql.q<|hM s)<|.ok<|⟨Aj s.f1,FQ<|((BD s.f1<|Aj s.f1).drop (1:Y).toNat).take<|(5:Y).toNat-(1:Y).toNat,(Cz<|CT s).DJ,(jI<|hM s).Gy,0,(Cz<|CT s).rs⟩)
def uj (s:Hl):Prop:=Ay s.f1
def ou (s:Hl):Ss:=⟨Dy s.f0 s.f1,Ho s.f0 s.f1,Ge s.f0 s.f1,KJ s.f0 s.f1,Bz s.f0 s.f1,Co s.f0 s.f1⟩
def Nl:CF Hl Ss:=⟨QI,Ue,λv b=>⟨gI<|gAg (v.getD 0 .junk) 0,gXl (.int aw)<|gAg (v.getD 0 .junk) 1⟩,uj,[],[.tn 2 35<|.sl<|.int aw],acO,adF,ou⟩
abbrev mh (s:Hl):Prop:=uj s/\QI s=QI s/\Ue s=Ue s
def SH:aN:=[YL,ng,YP,YK,YO]
def aFP:Ap:=kI SH<|la 15 func68 aC4<|la 1 func147 jk<|l0 SH
def aaO:aKC:=addL 68 0 15 (Ql.lp)<|addL 147 6 1 (N9.lp)<|unrL prog AM SH 20 2
def ahM:LLok prog AM aaO:=addL_ok func68 rfl Iy aC4<|addL_ok func147 rfl Iy jk<|unrL_ok<|gk SH
def apr (s:Hl):((stepH prog AM SH aaO aFP).k 68 (QI s)<|Ue s).bind (λq=>canT (M<|Ue s) [0] [.tn 2 35<|.sl<|.int aw] .normal (q.1::QI s) q.2)=(YF s).mp (λs2=>⟨.normal,M (QI s)+1,[acO s2],adF s2,U⟩):=AO
def aoI (s:Hl) (hE:uj s):(YF s).all (λq=>q=ou s):=by
 obtain ⟨se,fl⟩:=s
 have hb:Ay fl:=hE
 have fin:∀(a g:Y) (r:aI) (n:Y) (c:aM) (e:Y),a=Dy se fl->g=Ho se fl->r=Co se fl->n=Ge se fl->c=KJ se fl->e=Bz se fl->
  (⟨a,g,n,c,e,r⟩:Ss)=ou ⟨se,fl⟩:=λa g r n c e h1 h2 h3 h4 h5 h6=>by rw [h1,h2,h3,h4,h5,h6];rfl
 unfold YF;dsimp only;refine ⟨λc1=>?_,λc1=>⟨AQ,λc2=>?_,λc2=>?_⟩⟩
 ·have c1:E8 se fl=false:=AQ
  have hE:Bz se fl=1:=by unfold Bz;rw [AB c1]
  exact aIe
 ·have c1:E8 se fl=true:=AQ
  have c2:GH fl≠0:=DQ
  have hE:Bz se fl=GH fl:=by unfold Bz;rw [AD WB,AB c2]
  refine fin _ _ _ _ _ _ ?_ ?_ ?_ ?_ ?_ hE.symm<;>simp [Dy,Ho,Co,Ge,KJ,hE,c2]
 have c1:E8 se fl=true:=AQ
 have c2:GH fl=0:=DQ
 have hj:=Jo.1 c1
 have hw:Aj fl=0\/Aj fl=1:=aJe
 have hl:=Wi fl<|Aj fl
 have hab:Ay (BD fl<|Aj fl):=by
  intro x hx;unfold BD at hx;split at hx
  ·exact hb x<|OG hx
  ·exact hb x<|VH<|OG hx
 have hQ:DN fl=HM (BD fl<|Aj fl) 5:=rfl
 have hE0:fJ (CT ⟨se,fl⟩):=⟨rfl,by show (5:Y)<=5;decide,by show (5:Y)<=(M (BD fl<|Aj fl):Y);omega,by show M (BD fl<|Aj fl)<=4096;omega,hab,rfl,by show ((M ([]:aI):aC):Y)<=5;decide⟩
 have hr:=ar2 _ hE0
 have hv:(CT ⟨se,fl⟩).rs=[]:=rfl
 have hf:(CT ⟨se,fl⟩).from_.toNat=5:=rfl
 have hB:(CT ⟨se,fl⟩).b=BD fl (Aj fl):=rfl
 simp only [hv,hf,hB,De,<-hQ] at hr;refine ⟨⟨hw,hj.2.2.2.1⟩,⟨AS,AS,A0⟩,A8,A9,⟨hE0,rfl,rfl⟩,λc3=>?_,λc3=>?_⟩
 ·have c3:=isEx_eq c3
  rcases hr with ⟨q1,_⟩ |⟨q1,q2,q3,q4,q5,q6,q7⟩
  ·rw [c3] at q1;cases q1
  ·have hE:Bz se fl=11:=by unfold Bz;rw [AD WB,AD Oc,AD (by rw [q2];decide)]
   rw [q3,q4,q5,q6,q7];exact aIe
 ·rcases hr with ⟨q1,q2,q3,q4⟩ |⟨q1,_⟩
  ·have hE:Bz se fl=0:=by unfold Bz;rw [AD WB,AD Oc,AB q4]
   have hn:(DN fl).2.1<=M (BD fl<|Aj fl):=mH A0
   have eL:((BD fl<|Aj fl).drop (Cz<|CT ⟨se,fl⟩).DJ.toNat).take ((M (BD fl<|Aj fl):Y).toNat-(Cz<|CT ⟨se,fl⟩).DJ.toNat)=(BD fl<|Aj fl).drop (DN fl).2.1:=by
    rw [q3,BW,BW];exact Cx tc
   have hC:fL (hM ⟨se,fl⟩):=⟨rfl,by
    show (M (((BD fl<|Aj fl).drop (Cz<|CT ⟨se,fl⟩).DJ.toNat).take<|(M (BD fl<|Aj fl):Y).toNat-(Cz<|CT ⟨se,fl⟩).DJ.toNat):Y)<=4096
    rw [eL,Dk];omega,rfl⟩
   have hr2:(jI<|hM ⟨se,fl⟩).Gy=(U&&((((BD fl<|Aj fl).drop (Cz<|CT ⟨se,fl⟩).DJ.toNat).take<|(M (BD fl<|Aj fl):Y).toNat-(Cz<|CT ⟨se,fl⟩).DJ.toNat).drop 0).all (λb=>b==255)):=(ar7 _ hC).2
   rw [eL,C0,DP] at hr2;refine ⟨⟨by rw [q3];omega,by rw [q3];omega,CN _⟩,A9,⟨hC,rfl,rfl⟩,?_⟩
   refine fin _ _ _ _ _ _ ?_ ?_ ?_ ?_ ?_ hE.symm
   ·unfold Dy;rw [AB hE]
   ·unfold Ho HC;rw [AB hE];rfl
   ·unfold Co;rw [AB hE];exact q2
   ·unfold Ge;rw [AB hE];exact q3
   ·unfold KJ;rw [AB hE];exact hr2
  ·exfalso;rw [q1] at c3;simp [isEx] at c3
def alm:CSound prog AM 68 Nl.m:=CF.sound (D:=Nl) (t:=YF) (gk SH) ahM aFP.h apr λs hE=>⟨aoI s hE⟩
def XL:CSound prog AM 68 (Hf λa=>Nl.m a []):=wo alm
def aFo:aD->T LV
 | [.v (.agg ⟨[ag J x1,ag J x2,ag J x3,ag J x4,ag J x5]⟩)]=> .ok (.xl (.int aw)<|plL (x1,x2,x3,x4,x5))
 |_=> .no
def Ri:=bN f27 0
def J5:aN:=[]
def ahr:Sound prog AM (.loop Ri) (unrC prog AM J5 noK 20 2 Ri):=unrC_sound (gk J5) kN.h 20 2 Ri
def aqG (x1 x2 x3 x4 x5:Y):letI a:=(((((((((((((aq (0:Y).toNat (0:Y))++([IntKind.u8.wrap<|x1.fdiv<|2^(24)]))++([IntKind.u8.wrap<|x1.fdiv<|2^(16)]))++([IntKind.u8.wrap<|x1.fdiv<|2^(8)]))++([IntKind.u8.wrap<|x1.fdiv<|2^(0)]))++([IntKind.u8.wrap<|x2.fdiv<|2^(0)]))++([IntKind.u8.wrap<|x3.fdiv<|2^(0)]))++([IntKind.u8.wrap<|x4.fdiv<|2^(24)]))++([IntKind.u8.wrap<|x4.fdiv<|2^(16)]))++([IntKind.u8.wrap<|x4.fdiv<|2^(8)]))++([IntKind.u8.wrap<|x4.fdiv<|2^(0)]))++([IntKind.u8.wrap<|x5.fdiv<|2^(8)]))++([IntKind.u8.wrap<|x5.fdiv<|2^(0)]));(BO prog AM J5 kN (λi=>if i=4 then (unrC prog AM J5 noK 20 2 Ri) else noLoops i) f27 [.v<|.agg #[x1,x2,x3,x4,x5]]).red=.req (0<=(0:Y)/\(0:Y)<=(12:Y)/\1*(12:Y)<=2^48/\(12:Y)<2^63) (.req (0<=(24:Y))<|.ra 0 0 1 1<|.req (0<=(16:Y))<|.ra 1 1 2 1<|.req (0<=(8:Y))<|.ra 2 2 3 1<|.req (0<=(0:Y))<|.ra 3 3 4 1<|.req (0<=(0:Y))<|.ra 4 4 5 1<|.req (0<=(0:Y))<|.ra 5 5 6 1<|.req (0<=(24:Y))<|.ra 6 6 7 1<|.req (0<=(16:Y))<|.ra 7 7 8 1<|.req (0<=(8:Y))<|.ra 8 8 9 1<|.req (0<=(0:Y))<|.ra 9 9 10 1<|.req (0<=(8:Y))<|.ra 10 10 11 1<|.req (0<=(0:Y))<|.ra 11 11 12 1<|.req (0+12<=M a)<|.ok<|.xl (.int aw)<|(a.drop 0).take 12):=AO
def aas:=vm (S:=aFo) func27 J5 kN (L:=(λi=>if i=4 then (unrC prog AM J5 noK 20 2 Ri) else noLoops i)) (λb hb=>by
 rw [show loopsIn _=[Ri] by kernel_rfl] at hb
 simp only [Au,BX,BV] at hb;subst hb;exact ahr) (λargs lv h=>by
 refine ⟨?_⟩;unfold aFo at h;split at h
 ·simp only [canL,canX]
  refine @T.Ry _ _ _ ?_;rw [aqG];obtain rfl:=h
  iterate 25 refine ⟨AS,?_⟩
  refine ⟨Ak _,?_⟩;simp only [T.all,Int.pow_zero,Int.fdiv_one];rfl
 ·cases h)
def IZ (d:aB):Le:=if M d=12 then FN d else (0,0,0,0,0)
def aFm:aD->T LV
 | [.xl (.int aw) d]=> .req (Ay d) (.tu #[.agg #[(IZ d).1,(IZ d).2.1,(IZ d).2.2.1,(IZ d).2.2.2.1,(IZ d).2.2.2.2],an<|M d=12])
 |_=> .no
def Rh:=bN f65 0
def ahq:Sound prog AM (.loop Rh) (unrC prog AM J5 noK 20 2 Rh):=unrC_sound (gk J5) kN.h 20 2 Rh
def aqF (d:aB):letI a:=(M d:Y);letI b:=AA<|0*2^8;(BO prog AM J5 kN (λi=>if i=6 then (unrC prog AM J5 noK 20 2 Rh) else noLoops i) f65 [.xl (.int aw) d]).vH=.br (a !=12) (.tu #[.agg #[(0:Y),(0:Y),(0:Y),(0:Y),(0:Y)],X]) (.req (0<=(0:Y)/\0<a)<|.req (0<=(1:Y)/\1<a)<|.req (0<=(2:Y)/\2<a)<|.req (0<=(3:Y)/\3<a)<|.req (0<=(4:Y)/\4<a)<|.req (0<=(5:Y)/\5<a)<|.req (0<=(6:Y)/\6<a)<|.req (0<=(7:Y)/\7<a)<|.req (0<=(8:Y)/\8<a)<|.req (0<=(9:Y)/\9<a)<|.req (0<=(10:Y)/\10<a)<|.req (0<=(11:Y)/\11<a)<|.tu #[.agg #[Ct J (AA<|(Ct J (AA<|(Ct J (AA<|(Ct J b<|AA<|gi d (0:Y))*2^8)<|AA<|gi d (1:Y))*2^8)<|AA<|gi d (2:Y))*2^8)<|AA<|gi d (3:Y),Ct J b<|AA<|gi d (4:Y),Ct J b<|AA<|gi d (5:Y),Ct J (AA<|(Ct J (AA<|(Ct J (AA<|(Ct J b<|AA<|gi d (6:Y))*2^8)<|AA<|gi d (7:Y))*2^8)<|AA<|gi d (8:Y))*2^8)<|AA<|gi d (9:Y),Ct J (AA<|(Ct J b<|AA<|gi d (10:Y))*2^8)<|AA<|gi d (11:Y)],U]):=AO
def o8 {a b:Y}(h0:0<=a) (h1:a<1099511627776) (hb:0<=b/\b<=255):Ct J (AA<|a*2^8) (AA b)=a*256+b:=by
 rw [AH (x:=a*2^8),AH (x:=b)];obtain ⟨a,rfl⟩:=NC h0;obtain ⟨b,rfl⟩:=NC hb.1
 have e:∀n:aC,n<4611686018427387904->(BitVec.ofInt (IntKind.bits J) (n:Y)).toNat=n:=λn hn=>by
  show (BitVec.ofInt 64 (n:Y)).toNat=n
  rw [BitVec.toNat_ofInt];omega
 unfold Ct;rw [show (a:Y)*2^8=((a*2^8:aC):Y) by omega,BitVec.toNat_or,e _ A0,e _ A0,Xq A0]
 show AA _=_
 rw [AH];omega
def qB {w:Y}(hw:0<=w/\w<=255):Ct J (AA<|0*2^8) (AA w)=w:=by
 rw [o8 A0 A0 hw];omega
def acK {z w:Y}(hz:0<=z/\z<=255) (hw:0<=w/\w<=255):Ct J (AA<|Ct J (AA<|0*2^8) (AA z)*2^8) (AA w)=z*256+w:=by
 rw [qB hz,o8 A0 A0 hw]
def acJ {x y z w:Y}(hx:0<=x/\x<=255) (hy:0<=y/\y<=255) (hz:0<=z/\z<=255) (hw:0<=w/\w<=255):
  Ct J (AA<|Ct J (AA<|Ct J (AA<|Ct J (AA<|0*2^8) (AA x)*2^8) (AA y)*2^8) (AA z)*2^8) (AA w)=x*16777216+y*65536+z*256+w:=by
 rw [acK hx hy,o8 A0 A0 hz,o8 A0 A0 hw];omega
def avK:=vm (S:=aFm) func65 J5 kN (L:=(λi=>if i=6 then (unrC prog AM J5 noK 20 2 Rh) else noLoops i)) (λb hb=>by
 rw [show loopsIn _=[Rh] by kernel_rfl] at hb
 simp only [Au,BX,BV] at hb;subst hb;exact ahq) (λargs lv h=>by
 refine ⟨?_⟩;unfold aFm at h;split at h
 ·simp only [canL,canX]
  refine @T.yU _ _ _ ?_;rw [aqF];rename_i d;obtain ⟨hb,rfl⟩:=h;refine ⟨λc=>?_,λc=>?_⟩
  ·have hl:¬(M d)=12:=R4
   unfold IZ;rw [AD hl,GU hl];rfl
  have hl:M d=12:=R4
  iterate 12 refine ⟨⟨AS,A0⟩,?_⟩
  have b:=λi=>pn hb i
  unfold IZ;rw [AB hl,CB hl,acJ (b 0) (b 1) (b 2)<|b 3,qB<|b 4,qB<|b 5,acJ (b 6) (b 7) (b 8)<|b 9,acK (b 10)<|b 11];rfl
 ·cases h)
def aGT:aD->T LV
 | [.agg [.v (ag J se),.xl (.int aw) fl]]=> .req (Ay fl) (.ok<|.tup [.xl (.sl<|.int aw)<|Co se fl,Bz se fl])
 |_=> .no
def lZ:aN:=[]
def asY:Ap:=Fx lZ (l0 lZ) [⟨68,Hf λa=>Nl.m a [],XL⟩]
def auv:=vo (S:=aGT) func64 lZ asY (λargs lv h=>by
 unfold aGT at h;split at h
 ·rename_i se fl
  refine Al (.req (mh (⟨se,fl⟩:Hl))<|.br ((Bz se fl) !=0) (.ok<|.tup [.xl (.sl<|.int aw) ([]:aI),(Bz se fl)])<|.rz (Co se fl)<|.ok<|.tup [.xl (.sl<|.int aw)<|((Co se fl).drop 0).take<|M<|Co se fl,(0:Y)]) ?_;obtain ⟨h0,rfl⟩:=h;refine ⟨⟨h0,rfl,rfl⟩,λc=>?_,λc=>⟨A0,?_⟩⟩
  ·have c:Bz se fl≠0:=FW
   unfold Co;rw [AD c];rfl
  ·have c:Bz se fl=0:=FW
   rw [c,C0,DA];rfl
 ·cases h)
def ayQ {l:aI}(h:∀d∈l,Ay d) {i:Y}(h0:0<=i) (h1:i<(M l:Y)):Ay (gx (e:=.sl<|.int aw) l i):=by
 grind
structure LG where
 e:Y
 l:aI
 (n i:Y)
 out:aL
def xj:=bN f24 0
def nk (s:LG):T (Rd LG):=
 .br (an<|s.i<s.n) (.ix s.i (M s.l)<|.req (Ay<|gx (e:=.sl<|.int aw) s.l s.i)<|.br (!(an<|M (gx (e:=.sl<|.int aw) s.l s.i)=12)) (.rl s.out<|.so (.ret) {s with e:=(9:Y)})<|.rb (M s.out) (M<|[IZ<|gx (e:=.sl<|.int aw) s.l s.i]) 40<|.re (M s.out+M ([IZ<|gx (e:=.sl<|.int aw) s.l s.i])) (s.out++([IZ<|gx (e:=.sl<|.int aw) s.l s.i]))<|.nx {s with i:=AA<|s.i+1,out:=s.out++([IZ<|gx (e:=.sl<|.int aw) s.l s.i])}) (.rl s.out<|.so (.exit 0) s)
def Z6 (s:LG):Prop:=s.i=0/\s.n<=5000/\s.n=(M s.l:Y)/\(∀d∈s.l,Ay d)/\(M s.out:Y)<=s.i
def ZK (s:LG):Prop:=0<=s.i/\s.i<=s.n/\s.n<=5000/\s.n=(M s.l:Y)/\(∀d∈s.l,Ay d)/\(M s.out:Y)<=s.i
def lA (s:LG):aC:=(s.n-s.i).toNat
def adW (x:Ex) (s s':LG):Prop:=True
def avJ:∀s,Z6 s->ZK s:=by
 exact Vo
def amr:Da ZK lA adW nk:=by
 intro s hI;obtain ⟨h0,h1,h2,h3,h4,h5⟩:=hI;refine allR_ite (λc1=>allR_ite (λc2=>trivial) λc2=>?_) λc1=>trivial
 ·have c1:s.i<s.n:=A8
  rw [AH (x:=s.i+1)];exact ⟨⟨A8,A8,h2,h3,h4,A8⟩,by simp only [lA];omega⟩
def PW:LpD LG:=⟨0,50,[2,3,6,28,29,30],[.nl 6 62 AK],λs=>[.v<|.slice aj 0 0,s.e,.os 0 5 0<|M s.out,.xl (.sl<|.int aw) s.l,s.n,s.i],λs=>[bV 62 AK s.out],λv b=>⟨AJ v 1,As (.sl<|.int aw) v 3,AJ v 4,AJ v 5,AV AK b 0⟩,nk,λs r=> {r with l:=s.l,n:=s.n},λs=>s,λ_ s=>s,[.ret,.exit 0],Z6,ZK,lA⟩
abbrev fc:=PW.run
abbrev gX:=PW.exn
def anq:Rq ZK nk:=by
 intro s hI;refine ⟨λc1=>⟨?_,?_,λc2=>⟨A9,ak⟩,λc2=>⟨?_,?_,ak⟩⟩,λc1=>⟨A9,ak⟩⟩
 all_goals ((obtain ⟨h0,h1,h2,h3,h4,h5⟩:=hI;have c1:s.i<s.n:=A8;have hb:=ayQ h4 h0 A0;(first|exact hb|omega|(simp only [BI,BQ];omega) |(simp only [Ax,BI,BQ,DZ]))))
def aF4:aN:=[SQ,auv,avK]
def aDH:PW.Ok:={}
def aCW:PW.Pf (adW):=⟨avJ,λs h=>rfl,amr,anq⟩
def ahx:SA 0 xj PW:=s1 aDH aCW aF4 kN
def ahS:Rs Z6 gX fc (λs:LG=>(s.out++(s.l.drop s.i.toNat).map FN,ldB<|s.l.drop s.i.toNat)) (λx s' (v:List Le×Bool)=>(x=.ret/\s'.e=9/\v.2=X)\/(x=.exit 0/\v=(s'.out,U))):=Cq aDH aCW (λs hI=>by
  obtain ⟨h0,h1,h2,h3,h4,h5⟩:=hI;refine allR_ite (λc1=>allR_ite (λc2=>?_) λc2=>?_) λc1=>?_
  ·have c1:s.i<s.n:=A8
   refine .inl ⟨rfl,rfl,?_⟩;simp only [S0 h0 (show s.i<(M s.l:Y) by omega),ldB,Gm,qm,C4]
   grind
  ·have c1:s.i<s.n:=A8
   have c2:M (gx (e:=.sl<|.int aw) s.l s.i)=12:=A8
   have hz:IZ (gx (e:=.sl<|.int aw) s.l s.i)=FN (gx (e:=.sl<|.int aw) s.l s.i):=AB c2
   rw [AH (x:=s.i+1),hz]
   show (_++[_]++_,_)=(_++_,_)
   rw [S0 h0 A0];simp only [DH,CC,Ip,De,ldB,Gm,c2,Lv,DP]
  ·have c1:s.n<=s.i:=A8
   refine .inr ⟨rfl,?_⟩;rw [Dj A0]
   simp [ldB])
def aFr:aD->T LV
 | [.agg [.v (ag J se),.xl (.int aw) fl]]=> .req (Ay fl) (.ok<|.tup [Aa se fl,C5 se fl])
 |_=> .no
def NQ (se:Y) (fl:aB):LG:=(⟨0,Co se fl,(M (Co se fl):Y),0,([]:aL)⟩:LG)
def mw:=vm (S:=aFr) func24 aF4 kN (L:=(λi=>if i=8 then PW.lp else noLoops i)) (λb hb=>by
 rw [show loopsIn _=[xj] by kernel_rfl] at hb
 simp only [Au,BX,BV] at hb;subst hb;exact ahx) (λargs lv h=>by
 unfold aFr at h;split at h
 ·rename_i se fl
  refine Al (letI a:=fc<|NQ se fl;letI b:=(a.out.drop 0).take<|M a.out;.br ((se !=512) ||((M fl:Y) !=2048)) (.ok<|.tup [.xl AK ([]:aL),(1:Y)])<|.req (Ay fl)<|.br ((Bz se fl) !=0) (.ok<|.tup [.xl AK ([]:aL),(Bz se fl)])<|.r0 Le<|.req (PW.q<|NQ se fl)<|.br (isEx (gX<|NQ se fl)<|.ret) (.ok<|.tup [.xl AK ([]:aL),a.e])<|.rz a.out<|.br (!(Ao b)) (.ok<|.tup [.xl AK ([]:aL),(9:Y)])<|.rz a.out<|.ok<|.tup [b,(0:Y)]) ?_;obtain ⟨hb,rfl⟩:=h
  have bad:∀e:Y,e≠0->C5 se fl=e->LV.tup [.xl AK ([]:aL),.v<|ag J e]=LV.tup [.xl AK<|Aa se fl,.v<|ag J<|C5 se fl]:=λe h0 h1=>by unfold Aa;rw [h1,AD h0]
  refine ⟨λc1=>bad 1 AS (by unfold C5;exact AB c1),λc1=>⟨hb,λc2=>?_,λc2=>?_⟩⟩
  all_goals have h0:¬((!(se==512) || !((M fl:Y)==2048))=U):=(by intro h;rw [show ((se !=512) ||((M fl:Y) !=2048))=U from h] at c1;cases c1)
  ·have c2:Bz se fl≠0:=DQ
   exact bad _ c2 (by unfold C5;rw [AD h0,AB c2])
  have hk:Bz se fl=0:=DQ
  have hl:M fl=2048:=by simp at h0;omega
  have hR:Co se fl=(DN fl).1:=AB hk
  obtain ⟨n1,n2,_⟩:=aEe (se:=se) hb A0
  have hV:Z6 (NQ se fl):=⟨rfl,by show (M (Co se fl):Y)<=5000;omega,rfl,n2,sS⟩
  have q:(gX (NQ se fl)=.ret/\(fc<|NQ se fl).e=9/\ldB (Co se fl)=X)\/(gX (NQ se fl)=.exit 0/\((Co se fl).map FN,ldB<|Co se fl)=((fc<|NQ se fl).out,U)):=ahS _ hV
  have hk':¬Bz se fl≠0:=λh=>h hk
  refine ⟨A9,⟨hV,rfl,rfl⟩,λc3=>?_,λc3=>?_⟩
  ·rcases q with ⟨_,q2,q3⟩ |⟨q1,_⟩
   ·rw [q2]
    exact bad 9 AS (by unfold C5;rw [AD h0,AD hk',<-hR,AD (by rw [q3];decide)])
   ·rw [isEx_eq c3] at q1;cases q1
  rcases q with ⟨q1,_⟩ |⟨_,q2⟩
  ·rw [q1] at c3;simp [isEx] at c3
  simp only [Am] at q2;rw [<-q2.1,C0,DA];refine ⟨A0,λc4=>?_,λc4=>⟨A0,?_⟩⟩
  ·exact bad 9 AS (by unfold C5;rw [AD h0,AD hk',<-hR,AB q2.2,AD ta])
  ·have hE:C5 se fl=0:=by unfold C5;rw [AD h0,AD hk',<-hR,AB q2.2,AB ta]
   unfold Aa;rw [hE,AB rfl,hR];rfl
 ·cases h)
def pP {se:Y}{fl:aB}(h:C5 se fl=0):Ao (Aa se fl)=true:=by
 unfold Aa;rw [AB h];unfold C5 at h;split at h
 ·cases h
 ·split at h
  ·grind
  ·split at h
   ·split at h
    ·assumption
    ·cases h
   ·cases h
def aFp:aD->T LV
 | [.agg [.v (ag J se),.xl (.int aw) fl]]=> .req (Ay fl) (.tu #[Hx se fl,GP se fl])
 |_=> .no
def as4:aN:=[mw]
def auh:=vo (S:=aFp) func51 as4 kN (λargs lv h=>by
 unfold aFp at h;split at h
 ·rename_i se fl
  refine Al (letI b:=(M (Aa se fl):Y);letI c:=AU (Aa se fl)<|AA<|b-1;.req (Ay fl)<|.br ((C5 se fl) !=0) (.tu #[(0:Y),(C5 se fl)])<|.br (b==0) (.tu #[(1:Y),(0:Y)])<|.ix (AA<|b-1) (M<|Aa se fl)<|.br (c.1==1000000) (.tu #[(0:Y),(10:Y)])<|.tu #[(AA<|c.1+1),(0:Y)]) ?_;obtain ⟨hb,rfl⟩:=h
  have fin:∀a e:Y,a=Hx se fl->e=GP se fl->LV.v (.tuple #[ag J a,ag J e])=LV.v (.tuple #[ag J<|Hx se fl,ag J<|GP se fl]):=λa e h1 h2=>tw
  refine ⟨hb,λc1=>?_,λc1=>⟨λc2=>?_,λc2=>?_⟩⟩
  ·have c1:C5 se fl≠0:=AQ
   refine fin _ _ ?_ ?_<;>simp [Hx,GP,c1]
  all_goals have c1:C5 se fl=0:=AQ
  ·have c2:M (Aa se fl)=0:=A8
   refine fin _ _ ?_ ?_<;>simp [Hx,GP,c1,c2]
  ·have c2:¬(M<|Aa se fl)=0:=A8
   have hv:=Eh<|pP c1
   have hw:AA ((M (Aa se fl):Y)-1)=(M (Aa se fl):Y)-1:=AH
   have hn:=IB.1<|hv.2 _<|Hd (l:=Aa se fl) (i:=(M (Aa se fl):Y)-1) A0 A0
   rw [hw];refine ⟨⟨A0,A0⟩,λc3=>?_,λc3=>?_⟩
   ·refine fin _ _ ?_ ?_<;>simp at c3<;>simp [Hx,GP,c1,c2,c3]
   ·rw [AH]
    refine fin _ _ ?_ ?_<;>simp at c3<;>simp [Hx,GP,c1,c2,c3]
 ·cases h)
def aBh:aD->T LV
 | [.v (ag J n),.v (ag J a),.v (ag J b)]=> .ok (inB n a b)
 |_=> .no
def axU:aN:=[]
def aBw:=vo (S:=aBh) func130 axU kN (λargs lv h=>by
 unfold aBh at h;split at h
 ·rename_i n a b
  refine Al (.ok<|.v<|.bool<|(an<|n>=a)&&(an<|n<=b)) ?_;exact h
 ·cases h)
def aGH:aD->T LV
 | [.v (.agg ⟨[ag J k,ag J ph,ag J mx,ag J nd,ag J dl]⟩)]=> .ok (Ey (k,ph,mx,nd,dl))
 |_=> .no
def po:aN:=[aBw]
def abo:=vo (S:=aGH) func95 po kN (λargs lv h=>by
 unfold aGH at h;split at h
 ·rename_i k ph mx nd dl
  refine Al (.ok<|.v<|.bool<|(inB k (0:Y) (4:Y))&&((inB ph (1:Y) (7:Y))&&((inB mx (1:Y) (80:Y))&&((inB nd (0:Y) (1000000000:Y))&&((inB dl (0:Y) (20:Y))&&((k !=3) ||(an<|dl>=1))))))) ?_;exact h
 ·cases h)
structure KS where
 r:aM
 l:aB
 (n i:Y)
def aBD:=bN f129 0
def vC (s:KS):T (Rd KS):=
 .br (an<|s.i<s.n) (.ix s.i (M s.l)<|.br (!(inB (gi s.l s.i) (0:Y) (80:Y))) (.so (.ret) {s with r:=X})<|.nx {s with i:=AA<|s.i+1}) (.so (.exit 0) s)
def O5 (s:KS) (j:Y):aM:=inB (gi s.l j) 0 80
def fE (s:KS):Prop:=s.i=0/\0<=s.n/\s.n<=1000/\s.n=(M s.l:Y)
def WG (s:KS):Prop:=0<=s.i/\s.i<=s.n/\s.n<=1000/\(s.n=(M s.l:Y))/\∀j:aC,(j:Y)<s.i->O5 s j=U
def pQ (s:KS):aC:=(s.n-s.i).toNat
def vO (x:Ex) (s s':KS):Prop:=(x=.exit 0/\∀j:aC,(j:Y)<s'.n->O5 s' j=U)\/(x=.ret/\s'.r=X/\∃j:aC,(j:Y)<s'.n/\O5 s' j=X)
def azj:∀s,fE s->WG s:=by
 exact I1
def avI:Da WG pQ vO vC:=by
 intro s hI;obtain ⟨h0,h1,h2,h3,h4⟩:=hI;refine allR_ite (λc1=>allR_ite (λc2=>?_) λc2=>?_) λc1=>?_
 ·have c1:s.i<s.n:=AQ
  refine .inr ⟨rfl,rfl,s.i.toNat,A8,?_⟩
  have hg:O5 s s.i=false:=by unfold O5;simp_all
  exact hg
 ·have c1:s.i<s.n:=AQ
  have hg:O5 s s.i=true:=by unfold O5;simp_all
  rw [AH (x:=s.i+1)];refine ⟨⟨A8,A8,h2,h3,λj hj=>?_⟩,by simp only [pQ];omega⟩
  exact Iv
 ·exact OW
def O7:LpD KS:=⟨0,32,[2,22,23,24],[],λs=>[s.r,.xl A7 s.l,s.n,s.i],λ_=>[],λv b=>⟨DE v 0,As A7 v 1,AJ v 2,AJ v 3⟩,vC,λs r=> {r with l:=s.l,n:=s.n},λs=>s,λ_ s=>s,[.ret,.exit 0],fE,WG,pQ⟩
abbrev aCh:=O7.run
abbrev aF8:=O7.exn
def avh:Rq WG vC:=by
 exact OV
def abP:O7.Ok:={}
def abB:O7.Pf (vO):=⟨azj,λs h=>rfl,avI,avh⟩
def aoX:SA 0 aBD O7:=s1 abP abB po kN
def amq:Fi fE WG vO aF8 aCh:=LpD.fin abP abB
def aFq:aD->T LV
 | [.agg [.xl (.int J) pil,.v (ag J tk),.v (ag J got)]]=> .ok (GQ (pil,tk,got))
 |_=> .no
def aui:=vm (S:=aFq) func129 po kN (L:=(λi=>if i=4 then O7.lp else noLoops i)) (λb hb=>by
 rw [show loopsIn _=[aBD] by kernel_rfl] at hb
 simp only [Au,BX,BV] at hb;subst hb;exact aoX) (λargs lv h=>by
 unfold aFq at h;split at h
 ·rename_i pil tk got
  refine Al (letI a:=(M pil:Y);.br ((an<|a>21) ||((!(inB tk (0:Y) (1000000:Y))) ||(!(inB got (0:Y) (2000000000:Y))))) (.ok X)<|.req (O7.q (⟨X,pil,a,0⟩:KS))<|.br (isEx (aF8 (⟨X,pil,a,0⟩:KS))<|.ret) (.ok (aCh (⟨X,pil,a,0⟩:KS)).r)<|.ok U) ?_;obtain rfl:=h;refine ⟨λc1=>An (λz=>LV.v<|.bool z) ?_,λc1=>?_⟩
  ·rw [OU,GS]
   intro hm
   have:=Wy.1 hm
   simp [inB] at c1
   simp only at this;omega
  ·have hE:fE ⟨X,pil,(M pil:Y),0⟩:=by simp [inB] at c1;exact ⟨rfl,AG,A8,rfl⟩
   obtain ⟨s',hI,hq⟩:=amq _ hE
   have hm:GQ (pil,tk,got)=pil.all (λp=>inB p 0 80):=by
    simp [inB] at c1
    have h21:M pil<=21:=A0
    simp [GQ,inB,h21,c1]
   rw [hm,aFk];refine ⟨⟨hE,rfl,rfl⟩,?_⟩;rcases hq with ⟨q1,q2⟩ |⟨q1,q2,j,q3,q4⟩<;>rw [q1]
   ·rw [show Ck (M pil) (λj=>inB (gi pil j) 0 80)=U from D3.2 q2]
    exact ⟨λh=>Ai,λ_=>rfl⟩
   ·rw [q2,show Ck (M pil) (λj=>inB (gi pil j) 0 80)=X from MP j q3 q4]
    exact ⟨λ_=>rfl,λh=>Ai⟩
 ·cases h)
structure LU where
 p:PK
 ev:EW
def QL (s:LU):aD:=[.own 16 0]
def Uh (s:LU):aE:=[bDd,bDd,zB,bDd,bV 73 AX s.p.cs,bV 62 AK s.p.ls,bV 5 (.int aw) s.p.fl,bV 141 Ag s.p.ra,bV 111 Aq s.p.st,bV 56 AK s.p.ca,bV 122 At s.p.mi,bV 114 B8 s.p.me,bV 58 Ac s.p.dm,bV 118 B4 s.p.lk,bV 3 A7 s.p.dr,bV 3 A7 s.p.tg,⟨[.os 4 11 0<|M s.p.cs,.xl .str s.p.os,.xl Ad s.p.ks,.xl AZ s.p.gs,.xl Ae s.p.bs,.v<|ag J s.p.tk,.v<|.bool s.p.up,.os 5 5 0<|M s.p.ls,.v<|ag J s.p.se,.os 6 1 0<|M s.p.fl,.os 7 2 0<|M s.p.ra,.v<|ag J s.p.nx,.os 8 4 0<|M s.p.st,.os 9 5 0<|M s.p.ca,.os 10 3 0<|M s.p.mi,.os 11 3 0<|M s.p.me,.os 12 4 0<|M s.p.dm,.os 13 6 0<|M s.p.lk,.os 14 1 0<|M s.p.dr,.os 15 1 0<|M s.p.tg,.v<|ag J s.ev.ek,.v<|ag J s.ev.en,.v<|ag J s.ev.em,.v<|ag J s.ev.c1,.v<|ag J s.ev.c2,.v<|ag J s.ev.c3,.v<|ag J s.ev.c4,.v<|ag J s.ev.c5,.v<|.bool s.ev.d1,.v<|ag J s.ev.d2,.v<|ag J s.ev.d3,.v<|ag J s.ev.d4,.v<|.slice aj 0 0],93,.cl,X⟩]
structure TQ where
 res:Y
 p:PK
 ev:EW
def acR (s:TQ):LV:=.v<|ag J s.res
def adI (s:TQ):aE:=[bDd,bDd,zB,bDd,bV 73 AX s.p.cs,bDd,bDd,bDd,bV 111 Aq s.p.st,bV 56 AK s.p.ca,bV 122 At s.p.mi,bV 114 B8 s.p.me,bV 58 Ac s.p.dm,bV 118 B4 s.p.lk,bV 3 A7 s.p.dr,bV 3 A7 s.p.tg,⟨[.os 4 11 0<|M s.p.cs,.xl .str s.p.os,.xl Ad s.p.ks,.xl AZ s.p.gs,.xl Ae s.p.bs,.v<|ag J s.p.tk,.v<|.bool s.p.up,.xl AK s.p.ls,.v<|ag J s.p.se,.xl (.int aw) s.p.fl,.xl Ag s.p.ra,.v<|ag J s.p.nx,.os 8 4 0<|M s.p.st,.os 9 5 0<|M s.p.ca,.os 10 3 0<|M s.p.mi,.os 11 3 0<|M s.p.me,.os 12 4 0<|M s.p.dm,.os 13 6 0<|M s.p.lk,.os 14 1 0<|M s.p.dr,.os 15 1 0<|M s.p.tg,.v<|ag J s.ev.ek,.v<|ag J s.ev.en,.v<|ag J s.ev.em,.v<|ag J s.ev.c1,.v<|ag J s.ev.c2,.v<|ag J s.ev.c3,.v<|ag J s.ev.c4,.v<|ag J s.ev.c5,.v<|.bool s.ev.d1,.v<|ag J s.ev.d2,.v<|ag J s.ev.d3,.v<|ag J s.ev.d4,.v<|.slice aj 0 0],93,.cl,X⟩]
def Yd (s:LU):T TQ:=letI b:=(M s.p.gs:Y);letI c:=s.p.fl.drop 0;letI d:=M s.p.fl;letI e:=(aq b.toNat ((0:Y),(0:Y)));letI f:=s.p.ls.drop 0;letI g:=M s.p.ls;letI h:=s.p.ra.drop 0;letI i:=M s.p.ra;letI a:=c.take d;letI j:=Cb (Aa s.p.se a) s.p.tk;.br s.p.up (.rz s.p.ls<|.rz s.p.fl<|.rz s.p.ra<|.rl s.p.cs<|.pb s.p<|.ok<|⟨6,{s.p with ls:=f.take g,fl:=c.take d,ra:=h.take i},s.ev⟩)<|.rz s.p.fl<|.req (Ay a)<|.br ((C5 s.p.se a) !=0) (.rz s.p.ls<|.rz s.p.fl<|.rz s.p.ra<|.rl s.p.cs<|.pb s.p<|.ok<|⟨C5 s.p.se a,{s.p with ls:=f.take g,fl:=c.take d,ra:=h.take i},s.ev⟩)<|.br (j !=0) (.rz s.p.ls<|.rz s.p.fl<|.rz s.p.ra<|.rl s.p.cs<|.pb s.p<|.ok<|⟨j,{s.p with ls:=f.take g,fl:=c.take d,ra:=h.take i},s.ev⟩)<|.rz s.p.fl<|.req (Ay a)<|.br ((GP s.p.se a) !=0) (.rz s.p.ls<|.rz s.p.fl<|.rz s.p.ra<|.rl s.p.cs<|.pb s.p<|.ok<|⟨GP s.p.se a,{s.p with ls:=f.take g,fl:=c.take d,ra:=h.take i},s.ev⟩)<|.rm 16 b<|.rz s.p.fl<|.req (0+b.toNat<=M e)<|.rl s.p.cs<|.pb s.p<|.ok<|⟨0,{s.p with up:=U,ls:=BB (Aa s.p.se a) s.p.tk,fl:=c.take d,ra:=(e.drop 0).take b.toNat,nx:=Hx s.p.se a},s.ev⟩
def uq (s:LU):Prop:=Ay s.p.fl/\M s.p.gs<=1000
def PF (s:LU):TQ:=⟨PK.Dp s.p,HK (PK.Dp s.p) (PK.PI s.p) s.p,s.ev⟩
def uU:CF LU TQ:=⟨QL,Uh,λv b=>⟨rF b,rG b⟩,uq,[0,1,3],[.pc 16 7 AK,.kb 5,.pc 16 9<|.int aw,.kb 6,.pc 16 10 Ag,.kb 7],acR,adI,PF⟩
abbrev auA (s:LU):Prop:=uq s/\QL s=QL s/\Uh s=Uh s
def Xg:aN:=[mw,XT,auh]
def aaR:aKC:=addL 48 18 2 (IM.lp)<|addL 23 0 9 (FZ.lp)<|unrL prog AM (Xg) 20 2
def ah9:LLok prog AM aaR:=addL_ok func48 rfl AO IC<|addL_ok func23 rfl AO CI<|unrL_ok<|gk Xg
def arB (s:LU):((stepH prog AM Xg aaR noK).k 20 (QL s)<|Uh s).bind (λq=>canT (M<|Uh s) [0] [.pc 16 7 AK,.kb 5,.pc 16 9<|.int aw,.kb 6,.pc 16 10 Ag,.kb 7] .normal (q.1::QL s) q.2)=(Yd s).mp (λs2=>⟨.normal,M (QL s)+1,[acR s2],adI s2,U⟩):=AO
def aoL (s:LU) (hE:uq s):(Yd s).all (λq=>q=PF s):=by
 obtain ⟨h1,h2⟩:=hE;unfold Yd;simp only [Ox];refine ⟨λc=>?_,λc=>?_⟩
 ·have he:s.p.Dp=6:=by unfold PK.Dp;rw [AB c]
  repeat (refine ⟨AG,?_⟩)
  show _=_
  unfold PF;rw [He Jh];rw [he]
 have hu:¬s.p.up=true:=RA
 repeat (refine ⟨A0,?_⟩)
 refine ⟨λc1=>?_,λc1=>?_⟩
 ·have c1:C5 s.p.se s.p.fl≠0:=Cg.1 c1
  have he:s.p.Dp=C5 s.p.se s.p.fl:=by unfold PK.Dp;rw [AD hu,AB c1]
  repeat (refine ⟨AG,?_⟩)
  show _=_
  unfold PF;rw [He tU];rw [he]
 have c1:¬C5 s.p.se s.p.fl≠0:=λh=>aa6
 refine ⟨λc2=>?_,λc2=>?_⟩
 ·have c2:Cb (Aa s.p.se s.p.fl) s.p.tk≠0:=Cg.1 c2
  have he:s.p.Dp=Cb (Aa s.p.se s.p.fl) s.p.tk:=by unfold PK.Dp;rw [AD hu,AD c1,AB c2]
  repeat (refine ⟨AG,?_⟩)
  show _=_
  unfold PF;rw [He tU];rw [he]
 have c2:¬Cb (Aa s.p.se s.p.fl) s.p.tk≠0:=λh=>by rw [Cg.2 h] at c2;cases c2
 repeat (refine ⟨A0,?_⟩)
 refine ⟨λc3=>?_,λc3=>?_⟩
 ·have c3:GP s.p.se s.p.fl≠0:=Cg.1 c3
  have he:s.p.Dp=GP s.p.se s.p.fl:=by unfold PK.Dp;rw [AD hu,AD c1,AD c2]
  repeat (refine ⟨AG,?_⟩)
  show _=_
  unfold PF;rw [He tU];rw [he]
 have c3:GP s.p.se s.p.fl=0:=VU λh=>by rw [Cg.2 h] at c3;cases c3
 have he:s.p.Dp=0:=by unfold PK.Dp;rw [AD hu,AD c1,AD c2,c3]
 rw [show (aq (M s.p.gs:Y).toNat ((0:Y),(0:Y))).drop 0=aq (M s.p.gs) (0,0) by rw [BW];rfl,BW,Cx (by rw [Bc];exact Ak _)]
 repeat (refine ⟨A8,?_⟩)
 show _=_
 unfold PF;rw [J4 he];rw [he];rfl
def atE:CSound prog AM 20 uU.m:=CF.sound (D:=uU) (t:=Yd) (gk Xg) ah9 noK_sound arB λs hE=>⟨aoL s hE⟩
def O1 (c:Ca):Y:=if Ey c=U then 0 else 1
def aBa:aD->T LV
 | [.v (.agg ⟨[ag J x1,ag J x2,ag J x3,ag J x4,ag J x5]⟩)]=> .ok (.tup [.agg [.xl A7 ([]:aB),(0:Y),(0:Y)],O1 (x1,x2,x3,x4,x5)])
 |_=> .no
def arz:aN:=[abo]
def anA:=vo (S:=aBa) func44 arz kN (λargs lv h=>by
 unfold aBa at h;split at h
 ·rename_i x1 x2 x3 x4 x5
  refine Al (.br (!(Ey (x1,x2,x3,x4,x5))) (.ok<|.tup [.agg [.xl A7 ([]:aB),(0:Y),(0:Y)],(1:Y)])<|.ok<|.tup [.agg [.xl A7 ([]:aB),(0:Y),(0:Y)],(0:Y)]) ?_;obtain rfl:=h;unfold O1;refine ⟨λc=>?_,λc=>?_⟩
  ·rw [AD A8]
   rfl
  ·rw [AB A8]
   rfl
 ·cases h)
structure IL where
 (i k0 k1 k2:Y)
 p:PK
 ev:EW
def QT (s:IL):aD:=[.own 16 0,s.i,.v<|.agg #[s.k0,s.k1,s.k2]]
def UM (s:IL):aE:=[bDd,bDd,zB,bDd,bV 73 AX s.p.cs,bV 62 AK s.p.ls,bV 5 (.int aw) s.p.fl,bV 141 Ag s.p.ra,bV 111 Aq s.p.st,bV 56 AK s.p.ca,bV 122 At s.p.mi,bV 114 B8 s.p.me,bV 58 Ac s.p.dm,bV 118 B4 s.p.lk,bV 3 A7 s.p.dr,bV 3 A7 s.p.tg,⟨[.os 4 11 0<|M s.p.cs,.xl .str s.p.os,.xl Ad s.p.ks,.xl AZ s.p.gs,.xl Ae s.p.bs,.v<|ag J s.p.tk,.v<|.bool s.p.up,.os 5 5 0<|M s.p.ls,.v<|ag J s.p.se,.os 6 1 0<|M s.p.fl,.os 7 2 0<|M s.p.ra,.v<|ag J s.p.nx,.os 8 4 0<|M s.p.st,.os 9 5 0<|M s.p.ca,.os 10 3 0<|M s.p.mi,.os 11 3 0<|M s.p.me,.os 12 4 0<|M s.p.dm,.os 13 6 0<|M s.p.lk,.os 14 1 0<|M s.p.dr,.os 15 1 0<|M s.p.tg,.v<|ag J s.ev.ek,.v<|ag J s.ev.en,.v<|ag J s.ev.em,.v<|ag J s.ev.c1,.v<|ag J s.ev.c2,.v<|ag J s.ev.c3,.v<|ag J s.ev.c4,.v<|ag J s.ev.c5,.v<|.bool s.ev.d1,.v<|ag J s.ev.d2,.v<|ag J s.ev.d3,.v<|ag J s.ev.d4,.v<|.slice aj 0 0],93,.cl,X⟩,bDd,bDd]
structure U4 where
 res:Y
 p:PK
 ev:EW
def ac9 (s:U4):LV:=.v<|ag J s.res
def adR (s:U4):aE:=[bDd,bDd,zB,bDd,bV 73 AX s.p.cs,bV 62 AK s.p.ls,bV 5 (.int aw) s.p.fl,bV 141 Ag s.p.ra,bV 111 Aq s.p.st,bV 56 AK s.p.ca,bV 122 At s.p.mi,bV 114 B8 s.p.me,bV 58 Ac s.p.dm,bV 118 B4 s.p.lk,bV 3 A7 s.p.dr,bV 3 A7 s.p.tg,⟨[.os 4 11 0<|M s.p.cs,.xl .str s.p.os,.xl Ad s.p.ks,.xl AZ s.p.gs,.xl Ae s.p.bs,.v<|ag J s.p.tk,.v<|.bool s.p.up,.os 5 5 0<|M s.p.ls,.v<|ag J s.p.se,.os 6 1 0<|M s.p.fl,.os 7 2 0<|M s.p.ra,.v<|ag J s.p.nx,.os 8 4 0<|M s.p.st,.os 9 5 0<|M s.p.ca,.os 10 3 0<|M s.p.mi,.os 11 3 0<|M s.p.me,.os 12 4 0<|M s.p.dm,.os 13 6 0<|M s.p.lk,.os 14 1 0<|M s.p.dr,.os 15 1 0<|M s.p.tg,.v<|ag J s.ev.ek,.v<|ag J s.ev.en,.v<|ag J s.ev.em,.v<|ag J s.ev.c1,.v<|ag J s.ev.c2,.v<|ag J s.ev.c3,.v<|ag J s.ev.c4,.v<|ag J s.ev.c5,.v<|.bool s.ev.d1,.v<|ag J s.ev.d2,.v<|ag J s.ev.d3,.v<|ag J s.ev.d4,.v<|.slice aj 0 0],93,.cl,X⟩,bDd,bDd]
def oH (s:IL):T U4:=letI c:=s.p.st.getD s.i.toNat<|Ty.dflt Aq;letI d:=M s.p.st;letI a:=sE (AF s.p.gs s.i) c s.k0 s.k1 s.k2;letI b:=sN (AF s.p.gs s.i) c s.k0 s.k1 s.k2;.ix s.i (M s.p.gs)<|.ik s.i d<|.br (a==0) (.ik s.i d<|.pa s.p<|.re d (s.p.st.set s.i.toNat b)<|.rl s.p.ca<|.rl s.p.mi<|.rl s.p.me<|.rl s.p.dm<|.rl s.p.lk<|.rl s.p.dr<|.rl s.p.tg<|.ok<|⟨a,{s.p with st:=s.p.st.set s.i.toNat b},s.ev⟩)<|.pc s.p<|.ok<|⟨a,s.p,s.ev⟩
def uP (s:IL):Prop:=0<=s.i/\s.i<(M s.p.gs:Y)/\M s.p.st=M s.p.gs
def Yb (s:IL):U4:=⟨sE (AF s.p.gs s.i) (B1 s.p.st s.i) s.k0 s.k1 s.k2,{s.p with st:=C3 s.p.gs s.p.st s.i s.k0 s.k1 s.k2},s.ev⟩
def ub:CF IL U4:=⟨QT,UM,λv b=>⟨AJ v 1,gI<|gAg (v.getD 2 .junk) 0,gI<|gAg (v.getD 2 .junk) 1,gI<|gAg (v.getD 2 .junk) 2,rF b,rG b⟩,uP,[0,1,3,17,18],[],ac9,adR,Yb⟩
abbrev Y8 (s:IL):Prop:=uP s/\QT s=QT s/\UM s=UM s
def Xf:aN:=[PD]
def aaZ:aKC:=addL 48 18 2 (IM.lp)<|addL 23 0 9 (FZ.lp)<|unrL prog AM (Xf) 20 2
def ahH:LLok prog AM aaZ:=addL_ok func48 rfl AO IC<|addL_ok func23 rfl AO CI<|unrL_ok<|gk Xf
def arK (s:IL):((stepH prog AM Xf aaZ noK).k 47 (QT s)<|UM s).bind (λq=>canT (M<|UM s) [0] [] .normal (q.1::QT s) q.2)=(oH s).mp (λs2=>⟨.normal,M (QT s)+1,[ac9 s2],adR s2,U⟩):=AO
def aoT (s:IL) (hE:uP s):(oH s).all (λq=>q=Yb s):=by
 obtain ⟨h0,h1,h2⟩:=hE;refine ⟨A0,A0,A0,λc=>?_,λc=>?_⟩
 ·have c:=eq_of_beq c
  have hg:C3 s.p.gs s.p.st s.i s.k0 s.k1 s.k2=_:=AB c
  repeat (refine ⟨A8,?_⟩)
  unfold Yb;rw [hg];rfl
 ·have c:=C4.1 c
  have hg:C3 s.p.gs s.p.st s.i s.k0 s.k1 s.k2=s.p.st:=AD c
  repeat (refine ⟨AG,?_⟩)
  unfold Yb;rw [hg];rfl
def atL:CSound prog AM 47 ub.m:=CF.sound (D:=ub) (t:=oH) (gk Xf) ahH noK_sound arK λs hE=>⟨aoT s hE⟩
structure LW where
 p:PK
 ev:EW
def QM (s:LW):aD:=[.own 16 0]
def Ui (s:LW):aE:=[bDd,bDd,zB,bDd,bV 73 AX s.p.cs,bV 62 AK s.p.ls,bV 5 (.int aw) s.p.fl,bV 141 Ag s.p.ra,bV 111 Aq s.p.st,bV 56 AK s.p.ca,bV 122 At s.p.mi,bV 114 B8 s.p.me,bV 58 Ac s.p.dm,bV 118 B4 s.p.lk,bV 3 A7 s.p.dr,bV 3 A7 s.p.tg,⟨[.os 4 11 0<|M s.p.cs,.xl .str s.p.os,.xl Ad s.p.ks,.xl AZ s.p.gs,.xl Ae s.p.bs,.v<|ag J s.p.tk,.v<|.bool s.p.up,.os 5 5 0<|M s.p.ls,.v<|ag J s.p.se,.os 6 1 0<|M s.p.fl,.os 7 2 0<|M s.p.ra,.v<|ag J s.p.nx,.os 8 4 0<|M s.p.st,.os 9 5 0<|M s.p.ca,.os 10 3 0<|M s.p.mi,.os 11 3 0<|M s.p.me,.os 12 4 0<|M s.p.dm,.os 13 6 0<|M s.p.lk,.os 14 1 0<|M s.p.dr,.os 15 1 0<|M s.p.tg,.v<|ag J s.ev.ek,.v<|ag J s.ev.en,.v<|ag J s.ev.em,.v<|ag J s.ev.c1,.v<|ag J s.ev.c2,.v<|ag J s.ev.c3,.v<|ag J s.ev.c4,.v<|ag J s.ev.c5,.v<|.bool s.ev.d1,.v<|ag J s.ev.d2,.v<|ag J s.ev.d3,.v<|ag J s.ev.d4,.v<|.slice aj 0 0],93,.cl,X⟩]
structure Tw where
 res:Y
 p:PK
 ev:EW
def acS (s:Tw):LV:=.v<|ag J s.res
def adJ (s:Tw):aE:=[bDd,bDd,zB,bDd,bV 73 AX s.p.cs,bV 62 AK s.p.ls,bV 5 (.int aw) s.p.fl,bV 141 Ag s.p.ra,bV 111 Aq s.p.st,bV 56 AK s.p.ca,bV 122 At s.p.mi,bV 114 B8 s.p.me,bV 58 Ac s.p.dm,bV 118 B4 s.p.lk,bV 3 A7 s.p.dr,bV 3 A7 s.p.tg,⟨[.os 4 11 0<|M s.p.cs,.xl .str s.p.os,.xl Ad s.p.ks,.xl AZ s.p.gs,.xl Ae s.p.bs,.v<|ag J s.p.tk,.v<|.bool s.p.up,.os 5 5 0<|M s.p.ls,.v<|ag J s.p.se,.os 6 1 0<|M s.p.fl,.os 7 2 0<|M s.p.ra,.v<|ag J s.p.nx,.os 8 4 0<|M s.p.st,.os 9 5 0<|M s.p.ca,.os 10 3 0<|M s.p.mi,.os 11 3 0<|M s.p.me,.os 12 4 0<|M s.p.dm,.os 13 6 0<|M s.p.lk,.os 14 1 0<|M s.p.dr,.os 15 1 0<|M s.p.tg,.v<|ag J s.ev.ek,.v<|ag J s.ev.en,.v<|ag J s.ev.em,.v<|ag J s.ev.c1,.v<|ag J s.ev.c2,.v<|ag J s.ev.c3,.v<|ag J s.ev.c4,.v<|ag J s.ev.c5,.v<|.bool s.ev.d1,.v<|ag J s.ev.d2,.v<|ag J s.ev.d3,.v<|ag J s.ev.d4,.v<|.slice aj 0 0],93,.cl,X⟩]
def Ye (s:LW):T Tw:=letI c:=(s.p.mi.set s.ev.en.toNat (([]:aB),((0:Y),(0:Y))));letI f:=(C3 s.p.gs s.p.st s.ev.en (1:Y) (0:Y) (0:Y));letI g:=(s.ev.c1,(s.ev.c2,(s.ev.c3,(s.ev.c4,s.ev.c5))));letI i:=(s.ev.d1,(s.ev.d2,(s.ev.d3,s.ev.d4)));letI j:=M s.p.ca;letI a:=s.p.ca.set s.ev.en.toNat g;letI b:=s.p.dm.set s.ev.en.toNat i;letI d:=(C3 s.p.gs f s.ev.en (3:Y) (0:Y) (0:Y));letI e:=(C3 s.p.gs d s.ev.en (4:Y) (1:Y) (0:Y));letI h:=(C3 s.p.gs e s.ev.en (5:Y) (0:Y) (0:Y));.br (!(inB s.ev.en (0:Y)<|AA<|(M s.p.gs:Y)-1)) (.pc s.p<|.ok<|⟨1,s.p,s.ev⟩)<|.br ((O1 (s.ev.c1,s.ev.c2,s.ev.c3,s.ev.c4,s.ev.c5)) !=0) (.pc s.p<|.ok<|⟨1,s.p,s.ev⟩)<|.br (!((inB s.ev.d2 (0:Y) (1000000000:Y))&&((inB s.ev.d3 (0:Y) (1000000:Y))&&(inB s.ev.d4 (1:Y) (9:Y))))) (.pc s.p<|.ok<|⟨1,s.p,s.ev⟩)<|.ik s.ev.en j<|.br ((s.p.ca.getD s.ev.en.toNat<|Ty.dflt AK).2.2.1 !=0) (.pc s.p<|.ok<|⟨6,s.p,s.ev⟩)<|.ik s.ev.en (M s.p.st)<|.br ((s.p.st.getD s.ev.en.toNat<|Ty.dflt Aq).1 !=0) (.pc s.p<|.ok<|⟨6,s.p,s.ev⟩)<|.ik s.ev.en j<|.ik s.ev.en (M s.p.mi)<|.ik s.ev.en (M s.p.dm)<|.pa s.p<|.rl s.p.st<|.re j a<|.re (M s.p.mi) c<|.rl s.p.me<|.re (M s.p.dm) b<|.rl s.p.lk<|.rl s.p.dr<|.rl s.p.tg<|.req (Y8 (⟨s.ev.en,1,0,0,{s.p with ca:=s.p.ca.set s.ev.en.toNat g,mi:=s.p.mi.set s.ev.en.toNat (([]:aB),((0:Y),(0:Y))),dm:=s.p.dm.set s.ev.en.toNat i},s.ev⟩:IL))<|.pa s.p<|.rl f<|.rl a<|.rl c<|.rl s.p.me<|.rl b<|.rl s.p.lk<|.rl s.p.dr<|.rl s.p.tg<|.req (Y8 (⟨s.ev.en,3,0,0,{s.p with st:=f,ca:=a,mi:=c,dm:=b},s.ev⟩:IL))<|.pa s.p<|.rl d<|.rl a<|.rl c<|.rl s.p.me<|.rl b<|.rl s.p.lk<|.rl s.p.dr<|.rl s.p.tg<|.req (Y8 (⟨s.ev.en,4,1,0,{s.p with st:=d,ca:=a,mi:=c,dm:=b},s.ev⟩:IL))<|.pa s.p<|.rl e<|.rl a<|.rl c<|.rl s.p.me<|.rl b<|.rl s.p.lk<|.rl s.p.dr<|.rl s.p.tg<|.req (Y8 (⟨s.ev.en,5,0,0,{s.p with st:=e,ca:=a,mi:=c,dm:=b},s.ev⟩:IL))<|.pa s.p<|.rl h<|.rl a<|.rl c<|.rl s.p.me<|.rl b<|.rl s.p.lk<|.rl s.p.dr<|.rl s.p.tg<|.ok<|⟨0,{s.p with st:=h,ca:=a,mi:=c,dm:=b},s.ev⟩
def aCR {c:Ca}:O1 c=0↔Ey c=true:=by
 unfold O1
 grind
def ur (s:LW):Prop:=M s.p.st=M s.p.gs/\M s.p.gs<=1000/\M s.p.ca=M s.p.gs/\M s.p.mi=M s.p.gs/\M s.p.dm=M s.p.gs
def Ns (s:LW):Tw:=⟨PK.Ei s.p s.ev.en (EW.c s.ev)<|EW.d s.ev,HK (PK.Ei s.p s.ev.en (EW.c s.ev)<|EW.d s.ev) (PK.LA s.p s.ev.en (EW.c s.ev)<|EW.d s.ev) s.p,s.ev⟩
def uV:CF LW Tw:=⟨QM,Ui,λv b=>⟨rF b,rG b⟩,ur,[0,1,3],[],acS,adJ,Ns⟩
abbrev auB (s:LW):Prop:=ur s/\QM s=QM s/\Ui s=Ui s
def SC:aN:=[Sf,anA]
def aFI:Ap:=Fx SC (la 2 func48 IC<|la 9 func23 CI<|l0 SC) [⟨47,ub.m,atL⟩]
def aaS:aKC:=addL 48 18 2 (IM.lp)<|addL 23 0 9 (FZ.lp)<|unrL prog AM SC 20 2
def ahA:LLok prog AM aaS:=addL_ok func48 rfl AO IC<|addL_ok func23 rfl AO CI<|unrL_ok<|gk SC
def arC (s:LW):((stepH prog AM SC aaS aFI).k 16 (QM s)<|Ui s).bind (λq=>canT (M<|Ui s) [0] [] .normal (q.1::QM s) q.2)=(Ye s).mp (λs2=>⟨.normal,M (QM s)+1,[acS s2],adJ s2,U⟩):=AO
def aoM (s:LW) (hE:ur s):(Ye s).all (λq=>q=Ns s):=by
 obtain ⟨h1,h2,h3,h4,h5⟩:=hE;unfold Ye;rw [gU h2];refine ⟨λc=>?_,λc=>?_⟩
 ·have c:s.p.isC s.ev.en=false:=NM
  have he:s.p.Ei s.ev.en s.ev.c s.ev.d=1:=AB c
  repeat (refine ⟨Jg,?_⟩)
  show _=_
  unfold Ns;rw [He Jh];rw [he]
 have c:s.p.isC s.ev.en=true:=NM
 have ci:=B6.1 c
 have ci2:s.ev.en<(M s.p.gs:Y):=A0
 have hc:¬s.p.isC s.ev.en=false:=RA
 have bad:(!Ey s.ev.c || !Ft s.ev.d)=U->s.p.Ei s.ev.en s.ev.c s.ev.d=1:=λh=>by unfold PK.Ei;rw [AD hc,AB h]
 refine ⟨λc1=>?_,λc1=>⟨λc2=>?_,λc2=>?_⟩⟩
 ·have c1:¬O1 s.ev.c=0:=Cg.1 c1
  have c1:Ey s.ev.c=false:=by rw [aCR] at c1;simpa using c1
  have he:=bad (by rw [c1];rfl)
  repeat (refine ⟨Jg,?_⟩)
  show _=_
  unfold Ns;rw [He Jh];rw [he]
 ·have c2:(!Ft s.ev.d)=true:=c2
  have he:=bad<|by rw [c2,M3]
  repeat (refine ⟨Jg,?_⟩)
  show _=_
  unfold Ns;rw [He Jh];rw [he]
 have c1:Ey s.ev.c=true:=aCR.1 (VU λh=>by rw [show (O1 (s.ev.c1,s.ev.c2,s.ev.c3,s.ev.c4,s.ev.c5) !=0)=U from Cg.2 h] at c1;cases c1)
 have c2:(!Ft s.ev.d)=false:=c2
 have hb:¬(!Ey s.ev.c || !Ft s.ev.d)=true:=by rw [c1,c2];decide
 have six:((BE s.p.ca s.ev.en).2.2.1 !=0 ||(B1 s.p.st s.ev.en).1 !=0)=U->s.p.Ei s.ev.en s.ev.c s.ev.d=6:=λh=>by unfold PK.Ei;rw [AD hc,AD hb,AB h]
 repeat (refine ⟨Jg,?_⟩)
 refine ⟨λc3=>?_,λc3=>?_⟩
 ·have c3:((BE s.p.ca s.ev.en).2.2.1 !=0)=true:=c3
  have he:=six (by rw [c3];rfl)
  repeat (refine ⟨Jg,?_⟩)
  show _=_
  unfold Ns;rw [He Jh];rw [he]
 repeat (refine ⟨Jg,?_⟩)
 refine ⟨λc4=>?_,λc4=>?_⟩
 ·have c4:((B1 s.p.st s.ev.en).1 !=0)=true:=c4
  have he:=six<|by rw [c4,M3]
  repeat (refine ⟨Jg,?_⟩)
  show _=_
  unfold Ns;rw [He Jh];rw [he]
 have c3:((BE s.p.ca s.ev.en).2.2.1 !=0)=false:=c3
 have c4:((B1 s.p.st s.ev.en).1 !=0)=false:=c4
 have he:s.p.Ei s.ev.en s.ev.c s.ev.d=0:=by unfold PK.Ei;rw [AD hc,AD hb,c3,c4];rfl
 have hg:∀(l:bc) (k n m:Y),M l=M s.p.gs->M (C3 s.p.gs l s.ev.en k n m)=M s.p.gs:=λl k n m h=>by rw [Gx];exact h
 repeat (refine ⟨Jg,?_⟩)
 refine ⟨⟨⟨ci.1,ci2,h1⟩,rfl,rfl⟩,?_⟩
 repeat (refine ⟨Jg,?_⟩)
 refine ⟨⟨⟨ci.1,ci2,hg _ _ _ _ h1⟩,rfl,rfl⟩,?_⟩
 repeat (refine ⟨Jg,?_⟩)
 refine ⟨⟨⟨ci.1,ci2,hg _ _ _ _<|hg _ _ _ _ h1⟩,rfl,rfl⟩,?_⟩
 repeat (refine ⟨Jg,?_⟩)
 refine ⟨⟨⟨ci.1,ci2,hg _ _ _ _<|hg _ _ _ _<|hg _ _ _ _ h1⟩,rfl,rfl⟩,?_⟩
 repeat (refine ⟨AG,?_⟩)
 show _=_
 unfold Ns;rw [J4 he];rw [he];rfl
def atF:CSound prog AM 16 uV.m:=CF.sound (D:=uV) (t:=Ye) (gk SC) ahA aFI.h arC λs hE=>⟨aoM s hE⟩
structure Mq where
 (n i:Y)
 p:PK
 ev:EW
 BF:aF
 Bg:aP
 B7:aG
 Bh:aQ
 o:aJ
def oZ (s:Mq):T (Rd Mq):=letI b:=s.o.getD s.i.toNat<|Ty.dflt AX;letI a:=(s.o.set s.i.toNat (b.1,(b.2.1,((s.p.tg.getD s.i.toNat<|Ty.dflt A7),b.2.2.2))));.br (an<|s.i<s.n) (.ik s.i (M s.p.tg)<|.ik s.i (M s.o)<|.rl s.p.tg<|.pc s.p<|.re (M s.o) a<|.nx {s with i:=AA<|s.i+1,o:=a})<|.rl s.p.tg<|.pc s.p<|.rl s.o<|.so (.exit 0) s
def Zu (s:Mq):Prop:=s.i=0/\s.n=(M s.p.tg:Y)/\M s.p.tg=M s.p.cs/\s.n<=1000/\s.o=DS s.p.cs s.p.tg s.i.toNat
def Uq (s:Mq):Prop:=(0<=s.i/\s.i<=s.n)/\s.n=(M s.p.tg:Y)/\M s.p.tg=M s.p.cs/\s.n<=1000/\s.o=DS s.p.cs s.p.tg s.i.toNat
def mC (s:Mq):aC:=(s.n-s.i).toNat
def uL (x:Ex) (s s':Mq):Prop:=x=.exit 0/\s'.o=DS s'.p.cs s'.p.tg (M s'.p.tg)
def azD:∀s,Zu s->Uq s:=by
 exact aIG
def at6:Da Uq mC uL oZ:=by
 intro s hI;obtain ⟨⟨h0,h1⟩,h2,h3,h4,h5⟩:=hI
 have hl:M s.o=M s.p.cs:=eI
 refine allR_ite (λc1=>?_) λc1=>?_
 ·have c1:s.i<s.n:=A8
  rw [AH (x:=s.i+1)];refine ⟨⟨⟨A8,A8⟩,h2,h3,h4,?_⟩,by simp only [mC];omega⟩
  exact aH2
 ·have c1:s.n<=s.i:=A8
  refine ⟨rfl,?_⟩
  grind
def QD:LpD Mq:=⟨17,34,[2,3,19,20,21],[],λs=>[.own 17 0,.own 18 0,.os 15 1 0<|M s.p.tg,s.n,s.i],λs=>[bDd,bDd,zB,bDd,bV 73 AX s.p.cs,bV 62 AK s.p.ls,bV 5 (.int aw) s.p.fl,bV 141 Ag s.p.ra,bV 111 Aq s.p.st,bV 56 AK s.p.ca,bV 122 At s.p.mi,bV 114 B8 s.p.me,bV 58 Ac s.p.dm,bV 118 B4 s.p.lk,bV 3 A7 s.p.dr,bV 3 A7 s.p.tg,⟨[.os 4 11 0<|M s.p.cs,.xl .str s.p.os,.xl Ad s.p.ks,.xl AZ s.p.gs,.xl Ae s.p.bs,.v<|ag J s.p.tk,.v<|.bool s.p.up,.os 5 5 0<|M s.p.ls,.v<|ag J s.p.se,.os 6 1 0<|M s.p.fl,.os 7 2 0<|M s.p.ra,.v<|ag J s.p.nx,.os 8 4 0<|M s.p.st,.os 9 5 0<|M s.p.ca,.os 10 3 0<|M s.p.mi,.os 11 3 0<|M s.p.me,.os 12 4 0<|M s.p.dm,.os 13 6 0<|M s.p.lk,.os 14 1 0<|M s.p.dr,.os 15 1 0<|M s.p.tg,.v<|ag J s.ev.ek,.v<|ag J s.ev.en,.v<|ag J s.ev.em,.v<|ag J s.ev.c1,.v<|ag J s.ev.c2,.v<|ag J s.ev.c3,.v<|ag J s.ev.c4,.v<|ag J s.ev.c5,.v<|.bool s.ev.d1,.v<|ag J s.ev.d2,.v<|ag J s.ev.d3,.v<|ag J s.ev.d4,.v<|.slice aj 0 0],93,.cl,X⟩,⟨[.v<|.slice aj 0 0,.v<|.slice aj 0 0,.v<|.slice aj 0 0,.v<|.slice aj 0 0,.v<|.slice aj 0 0],28,.cl,X⟩,⟨[.os 19 11 0<|M s.o,s.BF,s.Bg,s.B7,s.Bh],28,.cl,X⟩,bV 73 AX s.o],λv b=>⟨AJ v 3,AJ v 4,rF b,rG b,AE .str b 18 1,AE Ad b 18 2,AE AZ b 18 3,AE Ae b 18 4,AV AX b 19⟩,oZ,λs r=> {s with i:=r.i,o:=r.o},λs=>s,λ_ s=>s,[.exit 0],Zu,Uq,mC⟩
abbrev Wh:=QD.run
abbrev akX:=QD.exn
def MW:aN:=[XQ,Sf]
def asP:Ap:=kI MW<|la 2 func48 IC<|la 9 func23 CI<|l0 MW
def aqK:Rq Uq oZ:=by
 intro s hI;refine ⟨λc1=>⟨?_,?_,?_,?_,A9,A9,A9,A9,A9,A9,A9,A9,A9,A9,A9,A9,A9,?_,ak⟩,λc1=>⟨A9,A9,A9,A9,A9,A9,A9,A9,A9,A9,A9,A9,A9,A9,ak⟩⟩
 all_goals ((obtain ⟨⟨h0,h1⟩,h2,h3,h4,h5⟩:=hI;have hl:M s.o=M s.p.cs:=eI;(try simp only [AT] at c1);first|omega|exact ⟨rfl,rfl⟩ |exact ⟨rfl,AG⟩))
def aE3:QD.Ok:={}
def aD0:QD.Pf (uL):=⟨azD,λs h=>rfl,at6,aqK⟩
def zq:=s2 (b:=bN f52 0) aE3 aD0 MW asP
def ali:Fi Zu Uq uL akX Wh:=LpD.fin aE3 aD0
structure K5 where
 p:PK
 ev:EW
def QQ (s:K5):aD:=[.own 16 0]
def UJ (s:K5):aE:=[bDd,bDd,zB,bDd,bV 73 AX s.p.cs,bV 62 AK s.p.ls,bV 5 (.int aw) s.p.fl,bV 141 Ag s.p.ra,bV 111 Aq s.p.st,bV 56 AK s.p.ca,bV 122 At s.p.mi,bV 114 B8 s.p.me,bV 58 Ac s.p.dm,bV 118 B4 s.p.lk,bV 3 A7 s.p.dr,bV 3 A7 s.p.tg,⟨[.os 4 11 0<|M s.p.cs,.xl .str s.p.os,.xl Ad s.p.ks,.xl AZ s.p.gs,.xl Ae s.p.bs,.v<|ag J s.p.tk,.v<|.bool s.p.up,.os 5 5 0<|M s.p.ls,.v<|ag J s.p.se,.os 6 1 0<|M s.p.fl,.os 7 2 0<|M s.p.ra,.v<|ag J s.p.nx,.os 8 4 0<|M s.p.st,.os 9 5 0<|M s.p.ca,.os 10 3 0<|M s.p.mi,.os 11 3 0<|M s.p.me,.os 12 4 0<|M s.p.dm,.os 13 6 0<|M s.p.lk,.os 14 1 0<|M s.p.dr,.os 15 1 0<|M s.p.tg,.v<|ag J s.ev.ek,.v<|ag J s.ev.en,.v<|ag J s.ev.em,.v<|ag J s.ev.c1,.v<|ag J s.ev.c2,.v<|ag J s.ev.c3,.v<|ag J s.ev.c4,.v<|ag J s.ev.c5,.v<|.bool s.ev.d1,.v<|ag J s.ev.d2,.v<|ag J s.ev.d3,.v<|ag J s.ev.d4,.v<|.slice aj 0 0],93,.cl,X⟩]
def Og (s:K5):Mq:=(⟨((M s.p.tg:aC):Y),0,{s.p with tg:=s.p.tg.set s.ev.en.toNat s.ev.em},s.ev,s.p.os,s.p.ks,s.p.gs,s.p.bs,cpy ((s.p.cs.drop 0).take<|M s.p.cs)<|aq ((M s.p.cs:aC):Y).toNat (ByteArray.empty,((0:Y),((0:Y),((0:Y),(((0:Y),(0:Y)),((0:Y),((0:Y),((0:Y),((0:Y),(0:Y))))))))))⟩:Mq)
structure U1 where
 res:Y
 p:PK
 ev:EW
def acW (s:U1):LV:=.v<|ag J s.res
def adN (s:U1):aE:=[bDd,bDd,zB,bDd,bV 73 AX s.p.cs,bV 62 AK s.p.ls,bV 5 (.int aw) s.p.fl,bV 141 Ag s.p.ra,bV 111 Aq s.p.st,bV 56 AK s.p.ca,bV 122 At s.p.mi,bV 114 B8 s.p.me,bV 58 Ac s.p.dm,bV 118 B4 s.p.lk,bV 3 A7 s.p.dr,bV 3 A7 s.p.tg,⟨[.os 4 11 0<|M s.p.cs,.xl .str s.p.os,.xl Ad s.p.ks,.xl AZ s.p.gs,.xl Ae s.p.bs,.v<|ag J s.p.tk,.v<|.bool s.p.up,.os 5 5 0<|M s.p.ls,.v<|ag J s.p.se,.os 6 1 0<|M s.p.fl,.os 7 2 0<|M s.p.ra,.v<|ag J s.p.nx,.os 8 4 0<|M s.p.st,.os 9 5 0<|M s.p.ca,.os 10 3 0<|M s.p.mi,.os 11 3 0<|M s.p.me,.os 12 4 0<|M s.p.dm,.os 13 6 0<|M s.p.lk,.os 14 1 0<|M s.p.dr,.os 15 1 0<|M s.p.tg,.v<|ag J s.ev.ek,.v<|ag J s.ev.en,.v<|ag J s.ev.em,.v<|ag J s.ev.c1,.v<|ag J s.ev.c2,.v<|ag J s.ev.c3,.v<|ag J s.ev.c4,.v<|ag J s.ev.c5,.v<|.bool s.ev.d1,.v<|ag J s.ev.d2,.v<|ag J s.ev.d3,.v<|ag J s.ev.d4,.v<|.slice aj 0 0],93,.cl,X⟩]
def Yh (s:K5):T U1:=letI a:=s.p.tg.set s.ev.en.toNat s.ev.em;letI b:=(ByteArray.empty,((0:Y),((0:Y),((0:Y),(((0:Y),(0:Y)),((0:Y),((0:Y),((0:Y),((0:Y),(0:Y))))))))));letI c:=((M s.p.cs:aC):Y);letI d:=((Wh<|Og s).o.drop 0).take<|M (Wh<|Og s).o;letI e:=(s.p.cs.drop 0).take<|M s.p.cs;letI f:=M s.p.tg;.br (!(inB s.ev.en (0:Y)<|AA<|c-1)) (.pc s.p<|.ok<|⟨1,s.p,s.ev⟩)<|.ik s.ev.en (M s.p.cs)<|.br (!(inB s.ev.em (1:Y) (s.p.cs.getD s.ev.en.toNat<|Ty.dflt AX).2.2.1)) (.pc s.p<|.ok<|⟨1,s.p,s.ev⟩)<|.ik s.ev.en f<|.rm 96 c<|.rz s.p.cs<|.rc c b (M e)<|.re f a<|.pa s.p<|.rl s.p.st<|.rl s.p.ca<|.rl s.p.mi<|.rl s.p.me<|.rl s.p.dm<|.rl s.p.lk<|.rl s.p.dr<|.re f a<|.re c.toNat (cpy e<|aq c.toNat b)<|.req (QD.q<|Og s)<|.rz (Wh<|Og s).o<|.req (Av d s.p.os s.p.ks s.p.gs s.p.bs=U)<|.br (!Cw d s.p.gs (BT s.p.gs)) (.pa s.p<|.rl s.p.st<|.rl s.p.ca<|.rl s.p.mi<|.rl s.p.me<|.rl s.p.dm<|.rl s.p.lk<|.rl s.p.dr<|.rl a<|.ok<|⟨13,{s.p with tg:=a},s.ev⟩)<|.pa s.p<|.rl s.p.st<|.rl s.p.ca<|.rl s.p.mi<|.rl s.p.me<|.rl s.p.dm<|.rl s.p.lk<|.rl s.p.dr<|.rl a<|.ok<|⟨0,{s.p with tg:=a},s.ev⟩
def VP.der {p:PK}(h:VP p) {n m:Y}(hn:inB n 0 ((M p.cs:Y)-1)=U) (hm:inB m 1 (AY p.cs n).2.2.1=U):Av (p.JL n m).EF p.os p.ks p.gs p.bs=U/\M (p.JL n m).tg=M p.cs:=by
 have hn:=B6.1 hn
 have hm:=B6.1 hm
 have hl:M (p.JL n m).tg=M p.cs:=by show M (p.tg.set n.toNat m)=_;rw [Bf];exact h.Em
 have hk:=lL h.site (k:=n.toNat) A0
 rw [C2 hn.1] at hk;refine ⟨wL h.site (λk hk2=>?_) _ A0,hl⟩
 show 1<=gi (p.tg.set n.toNat m) k/\gi (p.tg.set n.toNat m) k<=1000
 rw [H5 hn.1 (by have:=h.Em;omega) A0]
 split
 ·omega
 ·exact h.tg1 k hk2
def ux (s:K5):Prop:=VP s.p
def Sz (s:K5):U1:=⟨PK.GG s.p s.ev.en s.ev.em,{s.p with tg:=if PK.GG s.p s.ev.en s.ev.em=1 then s.p.tg else s.p.tg.set s.ev.en.toNat s.ev.em},s.ev⟩
def uZ:CF K5 U1:=⟨QQ,UJ,λv b=>⟨rF b,rG b⟩,ux,[0,1,3],[],acW,adN,Sz⟩
abbrev auI (s:K5):Prop:=ux s/\QQ s=QQ s/\UJ s=UJ s
def aFH:Ap:=kI MW<|la 4 func52 zq<|la 2 func48 IC<|la 9 func23 CI<|l0 MW
def aaW:aKC:=addL 52 17 4 (QD.lp)<|addL 48 18 2 (IM.lp)<|addL 23 0 9 (FZ.lp)<|unrL prog AM MW 20 2
def ahE:LLok prog AM aaW:=addL_ok func52 rfl AO zq<|addL_ok func48 rfl AO IC<|addL_ok func23 rfl AO CI<|unrL_ok<|gk MW
def arG (s:K5):((stepH prog AM MW aaW aFH).k 22 (QQ s)<|UJ s).bind (λq=>canT (M<|UJ s) [0] [] .normal (q.1::QQ s) q.2)=(Yh s).mp (λs2=>⟨.normal,M (QQ s)+1,[acW s2],adN s2,U⟩):=AO
def aoQ (s:K5) (hE:ux s):(Yh s).all (λq=>q=Sz s):=by
 have hs:=Ci.1 hE.site
 have ht:=hE.Em
 have hw:AA (((M s.p.cs:aC):Y)-1)=(M s.p.cs:Y)-1:=AH
 unfold Yh;rw [hw];simp only [Ox,NZ]
 have one:(!inB s.ev.en 0 ((M s.p.cs:Y)-1) || !inB s.ev.em 1 (AY s.p.cs s.ev.en).2.2.1)=U->s.p.GG s.ev.en s.ev.em=1:=λh=>AB h
 refine ⟨λc=>?_,λc=>?_⟩
 ·have he:=one (by rw [c];rfl)
  repeat (refine ⟨AG,?_⟩)
  show _=_
  unfold Sz;rw [AB he,he]
 have cn:inB s.ev.en 0 ((M s.p.cs:Y)-1)=true:=FW
 have ci:=B6.1 cn
 have hcd:s.p.cs.getD s.ev.en.toNat (Ty.dflt AX)=AY s.p.cs s.ev.en:=by
  rw [CH,Cv A0]
  have:=Na (cs:=s.p.cs) (k:=s.ev.en.toNat) A0
  rw [C2 ci.1] at this;rw [this];rfl
 rw [hcd]
 repeat (refine ⟨by first|omega|exact ⟨rfl,rfl⟩ |exact ⟨rfl,AG⟩ |(refine ⟨?_,?_⟩<;>(simp;done)) |(rw [Bc];omega),?_⟩)
 refine ⟨λc2=>?_,λc2=>?_⟩
 ·have he:=one (by rw [c2,M3])
  repeat (refine ⟨AG,?_⟩)
  show _=_
  unfold Sz;rw [AB he,he]
 have cm:inB s.ev.em 1 (AY s.p.cs s.ev.en).2.2.1=true:=DQ
 obtain ⟨k1,k2⟩:=hE.der cn cm
 have ho:(Og s).o=s.p.cs:=by
  show cpy ((s.p.cs.drop 0).take _) _=_
  rw [Ox];exact NZ
 have hV:Zu (Og s):=⟨rfl,by show (M s.p.tg:Y)=(M (s.p.tg.set s.ev.en.toNat s.ev.em):Y);rw [Bf],k2,aJx,ho⟩
 obtain ⟨_,_,_,q2⟩:=ali _ hV
 have q2:(Wh<|Og s).o=(s.p.JL s.ev.en s.ev.em).EF:=q2
 have nb:¬(!inB s.ev.en 0 ((M s.p.cs:Y)-1) || !inB s.ev.em 1 (AY s.p.cs s.ev.en).2.2.1)=true:=by rw [cn,cm];decide
 rw [q2]
 repeat (refine ⟨A8,?_⟩)
 refine ⟨⟨hV,rfl,rfl⟩,?_⟩
 repeat (refine ⟨A0,?_⟩)
 refine ⟨λc3=>?_,λc3=>?_⟩
 ·have c3:Cw (s.p.JL s.ev.en s.ev.em).EF s.p.gs (BT s.p.gs)=false:=M9
  have he:s.p.GG s.ev.en s.ev.em=13:=by unfold PK.GG;rw [AD nb,AB c3]
  repeat (refine ⟨AG,?_⟩)
  show _=_
  unfold Sz;rw [AD Jh,he]
 ·have c3:¬Cw (s.p.JL s.ev.en s.ev.em).EF s.p.gs (BT s.p.gs)=false:=M9
  have he:s.p.GG s.ev.en s.ev.em=0:=by unfold PK.GG;rw [AD nb,AD c3]
  repeat (refine ⟨AG,?_⟩)
  show _=_
  unfold Sz;rw [AD Jh,he]
def atJ:CSound prog AM 22 uZ.m:=CF.sound (D:=uZ) (t:=Yh) (gk MW) ahE aFH.h arG λs hE=>⟨aoQ s hE⟩
def aGY:aD->T LV
 | [.xl (.pair (.int J) (.pair (.int J) (.pair (.int J) (.pair (.int J) (.int J))))) l,.v (.agg ⟨[ag J nu,ag J co,ag J am,ag J fr,ag J tk]⟩)]=> .ok (.tup [Dr l (nu,co,am,fr,tk),E0 l (nu,co,am,fr,tk)])
 |_=> .no
def axf:aN:=[SQ,aBn,ab3]
def aaf:=vo (S:=aGY) func125 axf kN (λargs lv h=>by
 unfold aGY at h;split at h
 ·rename_i l nu co am fr tk
  refine Al (letI a:=(aq (0:Y).toNat ((0:Y),((0:Y),((0:Y),((0:Y),(0:Y))))));letI b:=(nu,(co,(am,(fr,tk))));letI d:=(M l:Y);letI g:=AA<|d+1;letI i:=(a++l)++([b]);letI f:=((i.drop 0).take<|(0:Y).toNat+M l+M ([b]));.br ((!(Ao l)) ||(!(Ce (nu,co,am,fr,tk)))) (.ok<|.tup [.xl AK ([]:aL),(1:Y)])<|.br (an<|d>0) (.ix (AA<|d-1) (M l)<|.br (!(Hq (AU l<|AA<|d-1) (nu,co,am,fr,tk))) (.ok<|.tup [.xl AK ([]:aL),(12:Y)])<|.br (d==64) (.ok<|.tup [.xl AK ([]:aL),(10:Y)])<|.req (0<=(0:Y)/\(0:Y)<=g/\40*g<=2^48/\g<2^63)<|.ra (0:Y).toNat (M a) ((0:Y).toNat+M l) 40<|.ra ((0:Y).toNat+M l) (M<|a++l) ((0:Y).toNat+M l+M ([b])) 40<|.req (0+((0:Y).toNat+M l+M ([b]))<=M i)<|.ok<|.tup [f,(0:Y)])<|.br (d==64) (.ok<|.tup [.xl AK ([]:aL),(10:Y)])<|.req (0<=(0:Y)/\(0:Y)<=g/\40*g<=2^48/\g<2^63)<|.ra (0:Y).toNat (M a) ((0:Y).toNat+M l) 40<|.ra ((0:Y).toNat+M l) (M<|a++l) ((0:Y).toNat+M l+M ([b])) 40<|.req (0+((0:Y).toNat+M l+M ([b]))<=M i)<|.ok<|.tup [f,(0:Y)]) ?_;obtain rfl:=h
  have bad:∀e:Y,e≠0->E0 l (nu,co,am,fr,tk)=e->LV.tup [.xl AK ([]:aL),.v<|ag J e]=LV.tup [.xl AK<|Dr l (nu,co,am,fr,tk),.v<|ag J<|E0 l (nu,co,am,fr,tk)]:=λe h0 h1=>by
   unfold Dr;rw [h1,AD h0]
  refine ⟨λc=>bad 1 AS ?_,λc=>?_⟩
  ·unfold E0
   grind
  have hk:(Ao l&&Ce (nu,co,am,fr,tk))=true:=by revert c;cases Ao l<;>cases Ce (nu,co,am,fr,tk)<;>simp
  have hl:M l<=64:=by rw [AP] at hk;exact (Eh hk.1).1
  have w1:AA ((M l:Y)+1)=(M l:Y)+1:=AH
  have fin:(an (M l>0)&&!Hq (AU l<|(M l:Y)-1) (nu,co,am,fr,tk))=X->M l≠64->LV.tup [.xl AK<|(l++[(nu,co,am,fr,tk)]).take<|0+M l+1,.v<|ag J 0]=LV.tup [.xl AK<|Dr l (nu,co,am,fr,tk),.v<|ag J<|E0 l (nu,co,am,fr,tk)]:=λh1 h2=>by
   have e:E0 l (nu,co,am,fr,tk)=0:=by unfold E0;rw [AB hk,AD (by rw [h1];simp),AD h2]
   unfold Dr;rw [e,AB rfl,Cx AG]
  have rq:(0<=(0:Y)/\(0:Y)<=AA ((M l:Y)+1)/\40*AA ((M l:Y)+1)<=2^48/\AA ((M l:Y)+1)<2^63):=by rw [w1];omega
  refine ⟨λc2=>?_,λc2=>?_⟩
  ·have c2:0<M l:=by have:=CW c2;omega
   have w2:AA ((M l:Y)-1)=(M l:Y)-1:=AH
   rw [w2];refine ⟨A0,λc3=>bad 12 AS ?_,λc3=>⟨λc4=>bad 10 AS ?_,λc4=>⟨rq,⟨rfl,Cf,Cf⟩,⟨AG,Cf,Cf⟩,AG,?_⟩⟩⟩
   ·unfold E0
    rw [AB hk,AB (by rw [c3,CB c2];rfl)]
   ·unfold E0
    rw [AB hk,AD (by rw [c3];simp),AB tJ]
   ·exact fin (by rw [c3,OJ]) tJ
  ·have c2:¬(M l)>0:=by have:=I0 c2;omega
   refine ⟨λc4=>bad 10 AS ?_,λc4=>⟨rq,⟨rfl,Cf,Cf⟩,⟨AG,Cf,Cf⟩,AG,?_⟩⟩
   ·simp at c4;omega
   ·exact fin (by rw [GU c2,NH]) A0
 ·cases h)
structure LQ where
 (l0 left l:aL)
 (n i afp afk amu ams ahY:Y)
 o:aI
def yq:=bN f28 0
def nF (s:LQ):T (Rd LQ):=letI a:=AU s.l s.i;.br (an<|s.i<s.n) (.ix s.i (M s.l)<|.rb (M s.o) (M<|[plL a]) 24<|.re (M s.o+M ([plL a])) (s.o++([plL a]))<|.nx {s with i:=AA<|s.i+1,o:=s.o++([plL a])})<|.rl s.o<|.so (.exit 0) s
def cC (s:LQ):Prop:=s.i=0/\s.n<=1000/\s.n=(M s.l:Y)/\(M s.o:Y)<=s.i
def ZS (s:LQ):Prop:=0<=s.i/\s.i<=s.n/\s.n<=1000/\s.n=(M s.l:Y)/\(M s.o:Y)<=s.i
def kV (s:LQ):aC:=(s.n-s.i).toNat
def adn (x:Ex) (s s':LQ):Prop:=True
def axo:∀s,cC s->ZS s:=by
 exact Vo
def ar8:Da ZS kV adn nF:=by
 intro s hI;obtain ⟨h0,h1,h2,h3,h4⟩:=hI;refine allR_ite (λc1=>?_) λc1=>trivial
 have c1:s.i<s.n:=A8
 rw [AH (x:=s.i+1)];exact ⟨⟨A8,A8,h2,h3,A8⟩,by simp only [kV];omega⟩
def Px:LpD LQ:=⟨0,71,[0,4,8,10,11,25,26,27],[.ns 10 0 35<|.sl<|.int aw],λs=>[s.l0,.own 0 0,s.left,.own 1 0,.fn 73 [.own 1 0],s.l,s.n,s.i],λs=>[⟨[s.afp,s.afk,s.amu,s.ams,s.ahY],62,.cl,X⟩,⟨[.os 2 1 0<|M s.o],99,.cl,X⟩,⟨[],35,.vec (.sl<|.int aw) s.o,X⟩],λv b=>⟨As AK v 0,As AK v 2,As AK v 5,AJ v 6,AJ v 7,Af b 0 0,Af b 0 1,Af b 0 2,Af b 0 3,Af b 0 4,AV (.sl<|.int aw) b 2⟩,nF,λs r=> {s with i:=r.i,o:=r.o},λs=>s,λ_ s=>s,[.exit 0],cC,ZS,kV⟩
abbrev fW:=Px.run
abbrev zz:=Px.exn
def ap0:Rq ZS nF:=by
 intro s hI;refine ⟨λc1=>⟨?_,?_,?_,ak⟩,λc1=>⟨A9,ak⟩⟩
 all_goals ((obtain ⟨h0,h1,h2,h3,h4⟩:=hI;simp only [AT] at c1;(first|omega|(simp only [BI,BQ];omega) |(simp only [Ax,BI,BQ,DZ]))))
def Xk:aN:=[aas,XT]
def aFM:Ap:=kI Xk<|l0 Xk
def aER:Px.Ok:={}
def aDQ:Px.Pf (adn):=⟨axo,λs h=>rfl,ar8,ap0⟩
def ajI:SA 0 yq Px:=s1 aER aDQ Xk aFM
def al6:Rs cC zz fW (λs:LQ=>s.o++(s.l.drop s.i.toNat).map plL) (λx s' (v:aI)=>x=.exit 0/\s'.o=v):=Cq aER aDQ (λs hI=>by
  obtain ⟨h0,h1,h2,h3,h4⟩:=hI;refine allR_ite (λc1=>?_) λc1=>?_
  ·have c1:s.i<s.n:=A8
   rw [AH (x:=s.i+1)]
   show _++[_]++_=_++_
   rw [(Rg h0 A0).1]
   grind
  ·have c1:s.n<=s.i:=A8
   refine ⟨rfl,?_⟩;rw [Dj A0]
   simp)
def kpR (l:aL) (x:Le) (t:Y):aI:=if Cb l t=0 then JZ l x t else []
def aFs:aD->T LV
 | [.xl (.pair (.int J) (.pair (.int J) (.pair (.int J) (.pair (.int J) (.int J))))) l,.v (.agg ⟨[ag J x1,ag J x2,ag J x3,ag J x4,ag J x5]⟩),.v (ag J t)]=> .ok (.tup [.xl (.sl<|.int aw)<|kpR l (x1,x2,x3,x4,x5) t,Cb l t])
 |_=> .no
def RH (l:aL) (x1 x2 x3 x4 x5 t:Y):LQ:=(⟨l,BB l t,BB l t,(M (BB l t):Y),0,x1,x2,x3,x4,x5,([]:aI)⟩:LQ)
def aAC {l:aL}{t:Y}(h:Cb l t=0):M l<=64/\M (BB l t)<=M l:=by
 unfold Cb at h;split at h
 ·rename_i c
  refine ⟨(Eh (by unfold Hp at c;rw [AP] at c;exact c.1)).1,?_⟩
  unfold BB
  grind
 ·cases h
def auj:=vm (S:=aFs) func28 Xk aFM (L:=(λi=>if i=7 then Px.lp else noLoops i)) (λb hb=>by
 rw [show loopsIn _=[yq] by kernel_rfl] at hb
 simp only [Au,BX,BV] at hb;subst hb;exact ajI) (λargs lv h=>by
 unfold aFs at h;split at h
 ·rename_i l x1 x2 x3 x4 x5 t
  refine Al (letI b:=fW<|RH l x1 x2 x3 x4 x5 t;letI e:=(x1,x2,x3,x4,x5);letI f:=M b.o+M ([plL e]);letI j:=(AA<|(M l:Y)-1);letI k:=(M (BB l t):Y);letI m:=M b.o;letI n:=b.o++([plL e]);letI d:=AU l j;letI p:=M b.o+M ([plL d]);letI r:=b.o++([plL d]);letI a:=M b.o+M ([plL d])+M ([plL e]);letI g:=r++([plL e]);.br ((Cb l t) !=0) (.ok<|.tup [.xl (.sl<|.int aw) ([]:aI),(Cb l t)])<|.r0 (List Int)<|.req (Px.q<|RH l x1 x2 x3 x4 x5 t)<|.br (an<|(M l:Y)>0) (.br (k==0) (.ix j (M l)<|.rb m (M<|[plL d]) 24<|.ra p (M r) a 24<|.req (0+a<=M g)<|.ok<|.tup [.xl (.sl<|.int aw)<|(g.drop 0).take a,(0:Y)])<|.ix (AA<|k-1) (M<|BB l t)<|.ix j (M l)<|.br ((AU (BB l t)<|AA<|k-1).1 !=d.1) (.ix j (M l)<|.rb m (M<|[plL d]) 24<|.ra p (M r) a 24<|.req (0+a<=M g)<|.ok<|.tup [.xl (.sl<|.int aw)<|(g.drop 0).take a,(0:Y)])<|.rb m (M<|[plL e]) 24<|.req (0+f<=M n)<|.ok<|.tup [.xl (.sl<|.int aw)<|(n.drop 0).take f,(0:Y)])<|.rb m (M<|[plL e]) 24<|.req (0+f<=M n)<|.ok<|.tup [.xl (.sl<|.int aw)<|(n.drop 0).take f,(0:Y)]) ?_;obtain rfl:=h;refine ⟨λc=>?_,λc=>?_⟩
  ·have c:Cb l t≠0:=FW
   unfold kpR;rw [AD c];rfl
  have hE:Cb l t=0:=FW
  obtain ⟨k1,k2⟩:=aAC hE
  have hV:cC (RH l x1 x2 x3 x4 x5 t):=⟨rfl,by show (M (BB l t):Y)<=1000;omega,rfl,sS⟩
  have q:zz (RH l x1 x2 x3 x4 x5 t)=.exit 0/\(fW<|RH l x1 x2 x3 x4 x5 t).o=(BB l t).map plL:=al6 _ hV
  have hR:kpR l (x1,x2,x3,x4,x5) t=JZ l (x1,x2,x3,x4,x5) t:=AB hE
  have w1:=λ_:0<M l=>AH (x:=(M l:Y)-1)
  have w2:=λ_:0<M (BB l t)=>AH (x:=(M (BB l t):Y)-1)
  have hL:M (fW<|RH l x1 x2 x3 x4 x5 t).o=M (BB l t):=by rw [q.2,Eb]
  rw [hE,hR];unfold JZ;refine ⟨A9,⟨hV,rfl,rfl⟩,λc1=>⟨λc2=>?_,λc2=>?_⟩,λc1=>?_⟩
  ·have c1:0<M l:=AQ
   have c2:M (BB l t)=0:=DQ
   rw [w1 c1,AB ⟨c1,.inl c2⟩];refine ⟨A0,⟨Dc _,?_,?_⟩,⟨?_,?_,?_⟩,?_,?_⟩
   all_goals first|(simp only [Ax,BI,BQ,hL];omega) |(rw [q.2,C0,Cx dq];simp only [CC,De];rfl)
  ·have c1:0<M l:=AQ
   have c2:0<M (BB l t):=by simp at c2;exact M0.2 c2
   rw [w1 c1,w2 c2];refine ⟨A0,A0,λc3=>?_,λc3=>?_⟩
   ·rw [AB ⟨c1,.inr M9⟩]
    refine ⟨A0,⟨Dc _,?_,?_⟩,⟨?_,?_,?_⟩,?_,?_⟩
    all_goals first|(simp only [Ax,BI,BQ,hL];omega) |(rw [q.2,C0,Cx dq];simp only [CC,De];rfl)
   ·rw [AD (by intro h;rcases h.2 with h|h;omega;simp at c3;exact h c3)]
    refine ⟨⟨Dc _,?_,?_⟩,?_,?_⟩
    all_goals first|(simp only [Ax,BI,BQ,hL];omega) |(rw [q.2,C0,Cx dq];simp only [CC,De];rfl)
  ·have c1:¬0<M l:=AQ
   rw [AD λh=>c1 h.1]
   refine ⟨⟨Dc _,?_,?_⟩,?_,?_⟩
   all_goals first|(simp only [Ax,BI,BQ,hL];omega) |(rw [q.2,C0,Cx dq];simp only [CC,De];rfl)
 ·cases h)
def Xn:aN:=[]
def auZ:aD->T LV:=λl=>BO prog AM (Xn) kN noLoops f148<|canL l
def aah:=vo (S:=auZ) func148 Xn kN (λargs lv h=>by
 refine ⟨?_⟩
 assumption)
def aua:aD->T LV:=λl=>BO prog AM (Xn) kN noLoops f153<|canL l
def aai:=vo (S:=aua) func153 Xn kN (λargs lv h=>by
 refine ⟨?_⟩
 assumption)
def gK {l:aB}{n:aC}(h:M l=n):cpy l (aq n (0:Y))=l:=by
 unfold cpy
 simp_all
def fv {l:aB}{n:aC}(h:M l=n):((cpy ((l.drop 0).take n)<|aq n (0:Y)).drop 0).take n=l:=by
 rw [C0,C0,Cx (l:=l) A0,gK h,Cx A0]
def SI {l:aB}{n:aC}(h:M l=n):(l.drop 0).take n=l:=by
 grind
def p0:Array Tmp×Code×Code:=((rangesIn<|f149.body.getD .skip)[0]?).getD (#[],.skip,.skip)
def ac0:aKN:=p0.1
def ac5:bC:=p0.2.1
def ac3:bC:=p0.2.2
structure KN where
 (n i G8:Y)
 (G9 b1:aB)
 fy:Y
 FA:aB
 (b3 b4 G7:Y)
 b9:ba
 b10:aB
 st:LS
def IY (s:KN):aB:=(s.b10.set (AA<|s.b3+s.i).toNat<|BG aw (s.b10.getD (AA<|s.b3+s.i).toNat<|Ty.dflt<|.int aw)<|gi s.b1 s.i)
def lpC (s:KN):aB:=((cpy (((IY s).drop 0).take<|M s.b10)<|aq ((M s.b10:aC):Y).toNat (0:Y)).drop 0)
def eX (s:KN):T (Rd KN):=letI a:=((M s.b10:aC):Y);letI b:=(s.G7,(lpC s).take a.toNat);letI c:=M s.b10;letI d:=((IY s).drop 0).take c;.br (an<|s.i<s.n) (.ik (AA<|s.b3+s.i) c<|.ix s.i (M s.b1)<|.ik (AA<|s.b3+s.i) c<|.rm 1 a<|.req (0+c<=M (IY s))<|.rc a (0:Y) (M d)<|.req (0+a.toNat<=M (cpy d<|aq a.toNat (0:Y)))<|.rb (M s.b9) (M<|[b]) 32<|.re (M s.b9+M ([b])) (s.b9++([b]))<|.re c (IY s)<|.nx {s with i:=AA<|s.i+1,b9:=s.b9++([b]),b10:=IY s})<|.rl s.b9<|.rl s.b10<|.so (.exit 0) s
def fI (s:KN):Prop:=s.st=.ready/\s.i=0/\(s.n=(M s.b1:Y)/\0<=s.n/\0<=s.b3/\s.b3+s.n<=(M s.FA:Y)/\M s.FA<=4096)/\s.b10=CD s.FA s.b3 s.b1 0/\s.b9=[(s.G7,CD s.FA s.b3 s.b1 0)]
def WN (s:KN):Prop:=s.st=.ready/\(0<=s.i/\s.i<=s.n)/\(s.n=(M s.b1:Y)/\0<=s.n/\0<=s.b3/\s.b3+s.n<=(M s.FA:Y)/\M s.FA<=4096)/\s.b10=CD s.FA s.b3 s.b1 s.i.toNat/\s.b9=(au<|s.i.toNat+1).map (λk:aC=>(s.G7,CD s.FA s.b3 s.b1 k))
def pW (s:KN):aC:=(s.n-s.i).toNat
def vU (x:Ex) (s s':KN):Prop:=x=.exit 0/\s'.b9=DL s'.G7 s'.FA s'.b3 s'.b1
def azu:∀s,fI s->WN s:=by
 exact aHR
def awF:Da WN pW vU eX:=by
 intro s hI;unfold eX;refine allR_ite (λc1=>?_) λc1=>?_
 ·obtain ⟨ht,⟨h0,h1⟩,⟨hn,hn0,ha,hl,h4⟩,hb,ho⟩:=hI
  have hbl:M s.b10=M s.FA:=aKi
  have c1:s.i<s.n:=AQ
  have wa:AA (s.b3+s.i)=s.b3+s.i:=AH
  have hB:IY s=CD s.FA s.b3 s.b1 (s.i.toNat+1):=aJB
  have hBl:M (IY s)=M s.FA:=aKj
  have hC:(lpC s).take ((M s.b10:aC):Y).toNat=IY s:=aJn
  rw [AH (x:=s.i+1)]
  have et:(s.i+1).toNat=s.i.toNat+1:=A0
  refine ⟨⟨ht,⟨AR,AR⟩,⟨hn,hn0,ha,hl,h4⟩,?_,?_⟩,by simp only [pW];omega⟩
  ·simp only [et]
   exact hB
  ·simp only [et]
   rw [OR,Iq,<-ho,DH,Io,<-hB,<-hC]
 ·obtain ⟨ht,⟨h0,h1⟩,⟨hn,hn0,ha,hl,h4⟩,hb,ho⟩:=hI
  have c1:s.n<=s.i:=AQ
  refine ⟨rfl,?_⟩;rw [ho]
  have e:s.i.toNat=M s.b1:=A0
  rw [e];rfl
def WS:LpD KN:=⟨8,41,[0,3,4,6,15,16],[],λs=>[.yld 7,.own 5 0,.own 3 0,.own 8 0,s.n,s.i],λs=>[⟨[s.G8,.xl (.int aw) s.G9],37,.cl,X⟩,⟨[.xl (.int aw) s.b1],35,.cl,X⟩,⟨[s.fy,.xl (.int aw) s.FA],37,.cl,X⟩,⟨[s.b3],3,.cl,X⟩,⟨[s.b4],3,.cl,X⟩,⟨[.fn 148 [.own 1 0]],276,.cl,X⟩,⟨[.os 9 2 0<|M s.b9],63,.cl,X⟩,⟨[.junk,.junk,.junk,.own 6 0,.v<|.tuple #[],.junk,.v<|.tuple #[],.v<|.tuple #[],.v<|.tuple #[],.v<|.tuple #[],.v<|.tuple #[],.junk],0,.lrec ac0 ac5 ac3 s.st,X⟩,⟨[s.G7,.os 10 1 0<|M s.b10],37,.cl,X⟩,bV 37 BM s.b9,bV 5 (.int aw) s.b10],λv b=>⟨AJ v 4,AJ v 5,Af b 0 0,AE (.int aw) b 0 1,AE (.int aw) b 1 0,Af b 2 0,AE (.int aw) b 2 1,Af b 3 0,Af b 4 0,Af b 8 0,AV BM b 9,AV (.int aw) b 10,.ready⟩,eX,λs r=> {r with n:=s.n,G8:=s.G8,G9:=s.G9,b1:=s.b1,fy:=s.fy,FA:=s.FA,b3:=s.b3,b4:=s.b4,G7:=s.G7,st:=s.st},λs=> {s with st:=.ready},λx s=> {s with st:=(match x with| .exit 0=> .ready|_=> .ready)},[.exit 0],fI,WN,pW⟩
abbrev XW:=WS.run
abbrev ari:=WS.exn
def ln:aN:=[T9,aah]
def asf:Ap:=kI ln<|l0 ln
def avo:Rq WN eX:=by
 intro s hI;refine ⟨λc1=>⟨?_,?_,?_,?_,?_,?_,?_,?_,?_,?_,?_,?_,ak⟩,λc1=>⟨A9,A9,ak⟩⟩
 all_goals ((obtain ⟨ht,⟨h0,h1⟩,⟨hn,hn0,ha,hl,h4⟩,hb,ho⟩:=hI;have hbl:M s.b10=M s.FA:=aKi;have c1:s.i<s.n:=A8;have wa:AA (s.b3+s.i)=s.b3+s.i:=AH;have hB:IY s=CD s.FA s.b3 s.b1 (s.i.toNat+1):=aJB;have hBl:M (IY s)=M s.FA:=aKj;have hC:(lpC s).take ((M s.b10:aC):Y).toNat=IY s:=aJn;(first|omega|exact ⟨rfl,AG⟩ |(rw [wa];omega) |(rw [hC];simp only [Ax,BI,BQ,ho,Eb,OQ,DZ];omega) |(rw [hBl];omega) |(rw [BW,Bc,SI A0];omega) |(rw [BW,SI A0,gK A0];omega))))
def abd:WS.Ok:={}
def abH:WS.Pf (vU):=⟨azu,λs h=>by
 obtain ⟨n,i,G8,G9,b1,fy,FA,b3,b4,G7,b9,b10,st⟩:=s
 have e:=h.1
 subst e;rfl,awF,avo⟩
def jj:=s2 (b:=bN f191 0) abd abH ln asf
def ar1:Fi fI WN vU ari XW:=LpD.fin abd abH
structure KO where
 (n i G8:Y)
 G9:aB
 RU:Y
 EI:aB
 (b2 b3 G7:Y)
 b8:ba
 b9:aB
 st:LS
def leB (s:KO):aB:=(s.b9.set (AA<|s.b2+s.i).toNat (255:Y))
def leC (s:KO):aB:=((cpy (((leB s).drop 0).take<|M s.b9)<|aq ((M s.b9:aC):Y).toNat (0:Y)).drop 0)
def eY (s:KO):T (Rd KO):=letI a:=((M s.b9:aC):Y);letI b:=(s.G7,(leC s).take a.toNat);letI c:=M s.b9;letI d:=((leB s).drop 0).take c;.br (an<|s.i<s.n) (.ik (AA<|s.b2+s.i) c<|.ik (AA<|s.b2+s.i) c<|.rm 1 a<|.req (0+c<=M (leB s))<|.rc a (0:Y) (M d)<|.req (0+a.toNat<=M (cpy d<|aq a.toNat (0:Y)))<|.rb (M s.b8) (M<|[b]) 32<|.re (M s.b8+M ([b])) (s.b8++([b]))<|.re c (leB s)<|.nx {s with i:=AA<|s.i+1,b8:=s.b8++([b]),b9:=leB s})<|.rl s.b8<|.rl s.b9<|.so (.exit 0) s
def fK (s:KO):Prop:=s.st=.ready/\s.i=0/\(s.n=s.n/\0<=s.n/\0<=s.b2/\s.b2+s.n<=(M s.EI:Y)/\M s.EI<=4096)/\s.b9=D7 s.EI s.b2 0/\s.b8=[(s.G7,D7 s.EI s.b2 0)]
def WO (s:KO):Prop:=s.st=.ready/\(0<=s.i/\s.i<=s.n)/\(s.n=s.n/\0<=s.n/\0<=s.b2/\s.b2+s.n<=(M s.EI:Y)/\M s.EI<=4096)/\s.b9=D7 s.EI s.b2 s.i.toNat/\s.b8=(au<|s.i.toNat+1).map (λk:aC=>(s.G7,D7 s.EI s.b2 k))
def pY (s:KO):aC:=(s.n-s.i).toNat
def vV (x:Ex) (s s':KO):Prop:=x=.exit 0/\s'.b8=(au<|s'.n.toNat+1).map (λk:aC=>(s'.G7,D7 s'.EI s'.b2 k))
def azM:∀s,fK s->WO s:=by
 exact aHR
def awH:Da WO pY vV eY:=by
 intro s hI;unfold eY;refine allR_ite (λc1=>?_) λc1=>?_
 ·obtain ⟨ht,⟨h0,h1⟩,⟨hn,hn0,ha,hl,h4⟩,hb,ho⟩:=hI
  have hbl:M s.b9=M s.EI:=aKb
  have c1:s.i<s.n:=AQ
  have wa:AA (s.b2+s.i)=s.b2+s.i:=AH
  have hB:leB s=D7 s.EI s.b2 (s.i.toNat+1):=aJC
  have hBl:M (leB s)=M s.EI:=aKc
  have hC:(leC s).take ((M s.b9:aC):Y).toNat=leB s:=aJo
  rw [AH (x:=s.i+1)]
  have et:(s.i+1).toNat=s.i.toNat+1:=A0
  refine ⟨⟨ht,⟨AR,AR⟩,⟨hn,hn0,ha,hl,h4⟩,?_,?_⟩,by simp only [pY];omega⟩
  ·simp only [et]
   exact hB
  ·simp only [et]
   rw [OR,Iq,<-ho,DH,Io,<-hB,<-hC]
 ·obtain ⟨ht,⟨h0,h1⟩,⟨hn,hn0,ha,hl,h4⟩,hb,ho⟩:=hI
  have c1:s.n<=s.i:=AQ
  refine ⟨rfl,?_⟩;rw [ho]
  have e:s.i.toNat=s.n.toNat:=A0
  rw [e]
def WT:LpD KO:=⟨7,41,[0,3,4,6,15,16],[],λs=>[.yld 6,.own 4 0,.own 2 0,.own 7 0,s.n,s.i],λs=>[⟨[s.G8,.xl (.int aw) s.G9],37,.cl,X⟩,⟨[s.RU,.xl (.int aw) s.EI],37,.cl,X⟩,⟨[s.b2],3,.cl,X⟩,⟨[s.b3],3,.cl,X⟩,⟨[.fn 153 []],276,.cl,X⟩,⟨[.os 8 2 0<|M s.b8],63,.cl,X⟩,⟨[.junk,.junk,.junk,.own 5 0,.v<|.tuple #[],.junk,.v<|.tuple #[],.v<|.tuple #[],.v<|.tuple #[],.v<|.tuple #[],.v<|.tuple #[],.junk],0,.lrec ac0 ac5 ac3 s.st,X⟩,⟨[s.G7,.os 9 1 0<|M s.b9],37,.cl,X⟩,bV 37 BM s.b8,bV 5 (.int aw) s.b9],λv b=>⟨AJ v 4,AJ v 5,Af b 0 0,AE (.int aw) b 0 1,Af b 1 0,AE (.int aw) b 1 1,Af b 2 0,Af b 3 0,Af b 7 0,AV BM b 8,AV (.int aw) b 9,.ready⟩,eY,λs r=> {r with n:=s.n,G8:=s.G8,G9:=s.G9,RU:=s.RU,EI:=s.EI,b2:=s.b2,b3:=s.b3,G7:=s.G7,st:=s.st},λs=> {s with st:=.ready},λx s=> {s with st:=(match x with| .exit 0=> .ready|_=> .ready)},[.exit 0],fK,WO,pY⟩
abbrev SS:=WT.run
abbrev arj:=WT.exn
def lh:aN:=[T9,aai]
def ase:Ap:=kI lh<|la 3 func191 jj<|l0 lh
def avq:Rq WO eY:=by
 intro s hI;refine ⟨λc1=>⟨?_,?_,?_,?_,?_,?_,?_,?_,?_,?_,?_,ak⟩,λc1=>⟨A9,A9,ak⟩⟩
 all_goals ((obtain ⟨ht,⟨h0,h1⟩,⟨hn,hn0,ha,hl,h4⟩,hb,ho⟩:=hI;have hbl:M s.b9=M s.EI:=aKb;have c1:s.i<s.n:=A8;have wa:AA (s.b2+s.i)=s.b2+s.i:=AH;have hB:leB s=D7 s.EI s.b2 (s.i.toNat+1):=aJC;have hBl:M (leB s)=M s.EI:=aKc;have hC:(leC s).take ((M s.b9:aC):Y).toNat=leB s:=aJo;(first|omega|exact ⟨rfl,AG⟩ |(rw [wa];omega) |(rw [hC];simp only [Ax,BI,BQ,ho,Eb,OQ,DZ];omega) |(rw [hBl];omega) |(rw [BW,Bc,SI A0];omega) |(rw [BW,SI A0,gK A0];omega))))
def abf:WT.Ok:={}
def abJ:WT.Pf (vV):=⟨azM,λs h=>by
 obtain ⟨n,i,G8,G9,RU,EI,b2,b3,G7,b8,b9,st⟩:=s
 have e:=h.1
 subst e;rfl,awH,avq⟩
def aC3:=s2 (b:=bN f191 0) abf abJ lh ase
def ar5:Fi fK WO vV arj SS:=LpD.fin abf abJ
def QZ (se:Y) (fl:aB) (a:Y) (d:aB):ba:=if EA se fl a d=0 then DL se fl a d else []
def DF (se:Y) (fl:aB) (s:Y):ba:=if GR se fl s=0 then HQ se fl s else []
def aFY:aD->T LV
 | [.agg [.v (ag J se),.xl (.int aw) fl],.v (ag J at_),.xl (.int aw) d]=> .req (M d<=1000000) (.ok<|.tup [.xl BM<|QZ se fl at_ d,EA se fl at_ d])
 |_=> .no
def aea (se:Y) (fl:aB) (at_:Y) (d:aB):KN:=(⟨(M d:Y),0,se,fl,d,se,fl,at_,(M d:Y),se,[(se,((cpy (((cpy fl<|aq (M fl:Y).toNat (0:Y)).drop 0).take (M fl:Y).toNat)<|aq (((M fl:Y).toNat:aC):Y).toNat (0:Y)).drop 0).take (((M fl:Y).toNat:aC):Y).toNat)],cpy fl<|aq (M fl:Y).toNat (0:Y),.ready⟩:KN)
def lg:aN:=[T9,aah]
def asc:Ap:=kI lg<|la 3 func191 aC3<|la 3 func191 jj<|l0 lg
def auo:=vo (S:=aFY) func105 lg asc (λargs lv h=>by
 unfold aFY at h;split at h
 ·rename_i se fl at_ d
  refine Al (letI b:=(M fl:Y);letI c:=(cpy fl<|aq b.toNat (0:Y));letI e:=((b.toNat:aC):Y);letI g:=aea se fl at_ d;letI i:=(c.drop 0).take b.toNat;letI a:=(cpy i<|aq e.toNat (0:Y));letI f:=(se,(a.drop 0).take e.toNat);.br ((!(Fs se fl)) ||(an<|at_<0)) (.ok<|.tup [.xl BM ([]:ba),(1:Y)])<|.br (an<|at_>(AA<|b-(M d:Y))) (.ok<|.tup [.xl BM ([]:ba),(3:Y)])<|.rm 1 b<|.rc b (0:Y) (M fl)<|.rm 1 e<|.req (0+b.toNat<=M c)<|.rc e (0:Y) (M i)<|.req (0+e.toNat<=M a)<|.req ((M ([f]):Y)*32<=2^47/\(M ([f]):Y)<2^62)<|.rl ([f])<|.re b.toNat c<|.req (WS.q g)<|.rz (XW g).b9<|.ok<|.tup [.xl BM<|((XW g).b9.drop 0).take<|M (XW g).b9,(0:Y)]) ?_;obtain ⟨hd,rfl⟩:=h;refine ⟨λc1=>?_,λc1=>⟨λc2=>?_,λc2=>?_⟩⟩
  ·have hE:EA se fl at_ d=1:=by unfold EA;rw [AB c1]
   unfold QZ;rw [hE];rfl
  all_goals have c1':Fs se fl=U/\0<=at_:=by simp at c1;omega
  all_goals have hv:=Kw.1 c1'.1
  all_goals rw [AH (x:=(M fl:Y)-(M d:Y))] at c2
  ·have hE:EA se fl at_ d=3:=by unfold EA;rw [AD WB,AB<|CW c2]
   unfold QZ;rw [hE];rfl
  have c2:at_<=(M fl:Y)-(M d:Y):=DQ
  have hE:EA se fl at_ d=0:=by unfold EA;rw [AD WB,AD A0]
  have z1:cpy fl (aq (M fl:Y).toNat (0:Y))=fl:=aaI
  have z2:((cpy (((cpy fl<|aq (M fl:Y).toNat (0:Y)).drop 0).take (M fl:Y).toNat)<|aq (((M fl:Y).toNat:aC):Y).toNat (0:Y)).drop 0).take (((M fl:Y).toNat:aC):Y).toNat=fl:=by
   rw [z1,BW,BW];exact fv rfl
  have z5:cpy (((cpy fl<|aq (M fl:Y).toNat (0:Y)).drop 0).take (M fl:Y).toNat) (aq (((M fl:Y).toNat:aC):Y).toNat (0:Y))=fl:=by
   grind
  have z6:((cpy fl<|aq (M fl:Y).toNat (0:Y)).drop 0).take (M fl:Y).toNat=fl:=by
   rw [z1,BW,SI rfl]
  have hL:fI (aea se fl at_ d):=⟨rfl,rfl,⟨rfl,by show (0:Y)<=(M d:Y);omega,c1'.2,by show at_+(M d:Y)<=(M fl:Y);omega,hv.2.2.2.1⟩,z1,aJi⟩
  obtain ⟨s',_,q1,q2⟩:=ar1 _ hL;refine ⟨?_,?_,?_,?_,?_,?_,?_,A9,?_,⟨hL,rfl,rfl⟩,A0,?_⟩
  iterate 8 · (first|omega|(rw [z6,Bc];omega) |(rw [Bc];omega) |(rw [z5];omega) |(rw [z1];omega) |(simp only [BI,BQ];decide))
  unfold QZ;rw [AB hE,hE,C0,Cx<|Ak _,q2];rfl
 ·cases h)
def aGe:aD->T LV
 | [.agg [.v (ag J se),.xl (.int aw) fl],.v (ag J sc)]=> .ok (.tup [.xl BM<|DF se fl sc,GR se fl sc])
 |_=> .no
def fj (se:Y) (fl:aB) (sc:Y):KO:=(⟨se,0,se,fl,se,fl,AA<|sc*se,se,se,[(se,((cpy (((cpy fl<|aq (M fl:Y).toNat (0:Y)).drop 0).take (M fl:Y).toNat)<|aq (((M fl:Y).toNat:aC):Y).toNat (0:Y)).drop 0).take (((M fl:Y).toNat:aC):Y).toNat)],cpy fl<|aq (M fl:Y).toNat (0:Y),.ready⟩:KO)
def lf:aN:=[T9,aai]
def asb:Ap:=kI lf<|la 3 func191 aC3<|la 3 func191 jj<|l0 lf
def aak:=vo (S:=aGe) func109 lf asb (λargs lv h=>by
 unfold aGe at h;split at h
 ·rename_i se fl sc
  refine Al (letI b:=(M fl:Y);letI c:=(cpy fl<|aq b.toNat (0:Y));letI d:=((b.toNat:aC):Y);letI f:=fj se fl sc;letI g:=(c.drop 0).take b.toNat;letI a:=(cpy g<|aq d.toNat (0:Y));letI e:=(se,(a.drop 0).take d.toNat);.br (!(Fs se fl)) (.ok<|.tup [.xl BM ([]:ba),(1:Y)])<|.br (an<|sc<0) (.ok<|.tup [.xl BM ([]:ba),(1:Y)])<|.req (se≠0)<|.br (an<|sc>=(AA<|b.tdiv se)) (.ok<|.tup [.xl BM ([]:ba),(1:Y)])<|.rm 1 b<|.rc b (0:Y) (M fl)<|.rm 1 d<|.req (0+b.toNat<=M c)<|.rc d (0:Y) (M g)<|.req (0+d.toNat<=M a)<|.req ((M ([e]):Y)*32<=2^47/\(M ([e]):Y)<2^62)<|.rl ([e])<|.re b.toNat c<|.req (WT.q f)<|.rz (SS f).b8<|.ok<|.tup [.xl BM<|((SS f).b8.drop 0).take<|M (SS f).b8,(0:Y)]) ?_;obtain rfl:=h
  have bad:GR se fl sc=1->LV.tup [.xl BM ([]:ba),.v<|ag J 1]=LV.tup [.xl BM<|DF se fl sc,.v<|ag J<|GR se fl sc]:=λhE=>by unfold DF;rw [hE];rfl
  refine ⟨λc1=>bad ?_,λc1=>⟨λc2=>bad ?_,λc2=>⟨?_,λc3=>bad ?_,λc3=>?_⟩⟩⟩
  ·unfold GR;rw [AB (by rw [c1];rfl)]
  ·unfold GR;rw [AB<|by rw [c2,Bool.true_or,M3]]
  all_goals have hv:=Kw.1 AQ
  ·omega
  all_goals have hd:0<=(M fl:Y).tdiv se/\(M fl:Y).tdiv se<=(M fl:Y):=(by rw [GV A0];exact ⟨OS A0 A0,Qq _ A0⟩)
  all_goals (rw [AH (x:=(M fl:Y).tdiv se)] at c3)
  ·unfold GR;rw [AB<|by rw [c3,M3,M3]]
  have hE:GR se fl sc=0:=by unfold GR;rw [AD (by rw [c1,c2,c3];decide)]
  have c2:0<=sc:=DQ
  have c3:sc<(M fl:Y).tdiv se:=M9
  have hm:sc*se+se<=(M fl:Y):=by
   have h1:(sc+1)*se<=(M fl:Y).tdiv se*se:=Ji A0 A0
   have h2:(M fl:Y).tdiv se*se<=(M fl:Y):=by
    rw [GV A0];exact Int.ediv_mul_le _ A0
   have h3:(sc+1)*se=sc*se+se:=by rw [cw,Va]
   omega
  have hn:0<=sc*se:=Gl c2 A0
  have wm:AA (sc*se)=sc*se:=AH
  have z1:cpy fl (aq (M fl:Y).toNat (0:Y))=fl:=aaI
  have z2:((cpy (((cpy fl<|aq (M fl:Y).toNat (0:Y)).drop 0).take (M fl:Y).toNat)<|aq (((M fl:Y).toNat:aC):Y).toNat (0:Y)).drop 0).take (((M fl:Y).toNat:aC):Y).toNat=fl:=by
   rw [z1,BW,BW];exact fv rfl
  have z5:cpy (((cpy fl<|aq (M fl:Y).toNat (0:Y)).drop 0).take (M fl:Y).toNat) (aq (((M fl:Y).toNat:aC):Y).toNat (0:Y))=fl:=by
   grind
  have z6:((cpy fl<|aq (M fl:Y).toNat (0:Y)).drop 0).take (M fl:Y).toNat=fl:=by
   rw [z1,BW,SI rfl]
  have hL:fK (fj se fl sc):=⟨rfl,rfl,⟨rfl,by show (0:Y)<=se;omega,by show 0<=AA (sc*se);omega,by show AA (sc*se)+se<=(M fl:Y);omega,hv.2.2.2.1⟩,z1,aJi⟩
  obtain ⟨s',_,q1,q2⟩:=ar5 _ hL
  have q2:(SS<|fj se fl sc).b8=(au<|se.toNat+1).map (λk:aC=>(se,D7 fl (AA<|sc*se) k)):=q2
  rw [wm] at q2
  have q2:(SS<|fj se fl sc).b8=HQ se fl sc:=q2
  refine ⟨?_,?_,?_,?_,?_,?_,?_,A9,?_,⟨hL,rfl,rfl⟩,A0,?_⟩
  iterate 8 · (first|omega|(rw [z6,Bc];omega) |(rw [Bc];omega) |(rw [z5];omega) |(rw [z1];omega) |(simp only [BI,BQ];decide))
  unfold DF;rw [AB hE,hE,C0,Cx<|Ak _,q2];rfl
 ·cases h)
def auX:aD->T LV:=λ_=> .no
def X8:VV 1000063 auX:=by
 intro _ _ _ _ _ _ _ _ _ h;exact h.elim
def BA (al:ba):Fl:=Fp al<|(M al:Y)-1
def HE (al:ba) (er a:Y) (d:aB):Y:=if EA (BA al).1 (BA al).2 a d=0 then er else EA (BA al).1 (BA al).2 a d
def Ib (al:ba) (a:Y) (d:aB):ba:=if EA (BA al).1 (BA al).2 a d=0 then al++(DL (BA al).1 (BA al).2 a d).drop 1 else al
def aG9:Qd:=λi=>if i=10 then ah ([9,10,11],[]) else if i=11 then ah ([9,10,11],[]) else aj
structure FG where
 at_:Y
 d:aB
 er:Y
 al:ba
def QH (s:FG):aD:=[.own 0 0,s.at_,.xl (.int aw) s.d]
def Ud (s:FG):aE:=[⟨[.os 1 2 0<|M s.al,s.er],209,.cl,X⟩,bV 37 BM s.al]
structure TN where
 er:Y
 al:ba
def acN (s:TN):LV:=.v<|.tuple #[]
def adD (s:TN):aE:=[⟨[.os 2 2 0<|M s.al,s.er],209,.cl,X⟩,⟨[],37,.dead,X⟩,bV 37 BM s.al]
def vG (s:FG):Y:=(AA<|((M s.al:aC):Y)-1)
def RS (s:FG):Fl:=(s.al.getD (vG s).toNat<|Ty.dflt BM)
def YU (s:FG):T TN:=letI c:=EA (RS s).1 (RS s).2 s.at_ s.d;letI e:=QZ (RS s).1 (RS s).2 s.at_ s.d;letI b:=(M e:Y);letI a:=((e.drop (1:Y).toNat).take<|b.toNat-(1:Y).toNat);.ik (vG s) (M s.al)<|.req (M s.d<=1000000)<|.br (!(c==(0:Y))) (.rl s.al<|.ok<|⟨c,s.al⟩)<|.req (0<=(1:Y)/\(1:Y)<=b/\b<=b)<|.rb (M s.al) (M a) 32<|.re (M s.al+M a) (s.al++a)<|.ok<|⟨s.er,s.al++a⟩
def uh (s:FG):Prop:=s.al≠ []/\M s.al<=4000000/\M s.d<=5000
def pE (s:FG):TN:=⟨HE s.al s.er s.at_ s.d,Ib s.al s.at_ s.d⟩
def Q8:CF FG TN:=⟨QH,Ud,λv b=>⟨AJ v 1,As (.int aw) v 2,Af b 0 1,AV BM b 1⟩,uh,[],[.ms 1 0],acN,adD,pE⟩
abbrev Y7 (s:FG):Prop:=uh s/\QH s=QH s/\Ud s=Ud s
def SF:aN:=[auo,YN,X8]
def aFO:Ap:=kI SF<|l0 SF
def aaN:aKC:=unrL prog AM SF 20 2
def ahL:LLok prog AM aaN:=unrL_ok<|gk SF
def aqH (s:FG):((stepH prog AM SF aaN aFO).k 71 (QH s)<|Ud s).bind (λq=>canT (M<|Ud s) [0] [.ms 1 0] .normal (q.1::QH s) q.2)=(YU s).mp (λs2=>⟨.normal,M (QH s)+1,[acN s2],adD s2,U⟩):=AO
def an2 (s:FG) (hE:uh s):(YU s).all (λq=>q=pE s):=by
 obtain ⟨h0,h1,h2⟩:=hE
 have hp:=M0.2 h0
 have w:vG s=(M s.al:Y)-1:=AH
 have hY:RS s=BA s.al:=by unfold RS BA Fp;rw [w];rfl
 unfold YU pE HE Ib;rw [w,hY];refine ⟨A0,A0,A0,λc1=>?_,λc1=>?_⟩
 ·have c1:¬EA (BA s.al).1 (BA s.al).2 s.at_ s.d=0:=A8
  rw [AD c1,AD c1];exact ⟨A9,rfl⟩
 ·have c1:EA (BA s.al).1 (BA s.al).2 s.at_ s.d=0:=A8
  have hR:QZ (BA s.al).1 (BA s.al).2 s.at_ s.d=DL (BA s.al).1 (BA s.al).2 s.at_ s.d:=AB c1
  have hl:M (DL (BA s.al).1 (BA s.al).2 s.at_ s.d)=M s.d+1:=by unfold DL;simp
  rw [AB c1,AB c1,hR,hl];rw [Cx A8];refine ⟨A0,A8,AG,rfl⟩
def Xa:CSound prog AM 71 Q8.m:=CF.sound (D:=Q8) (t:=YU) (gk SF) ahL aFO.h aqH λs hE=>⟨an2 s hE⟩
def HP:Y->aI->Bool
 |_,[]=>U
 |left,d::ds=>if (an ((M d:Y)>65535) ||an (7+(M d:Y)>left))=U then X else HP (left-(7+(M d:Y))) ds
def aEW:∀(ds:aI) (left:Y),0<=left->HP left ds=(an ((((ds.map λd=>7+M d).sum:aC):Y)<=left)&&ds.all (λd=>an<|M d<=65535))
 | [],left,h=>by simp [HP,h]
 | d::ds,left,h=>by
  simp only [HP,DH,List.sum_cons,Gm];split
  ·rename_i hc
   rw [Eq.comm,GS];intro hh;simp only [C6,AP,AT] at hc hh;omega
  ·rename_i hc
   simp only [C6,AT,not_or] at hc;rw [aEW ds _ A0,Gn]
   grind
structure KQ where
 r:aM
 left:Y
 l:aI
 (n i:Y)
def aBJ:=bN f74 0
def vA (s:KQ):T (Rd KQ):=
 .br (an<|s.i<s.n) (.ix s.i (M s.l)<|.br ((an<|(M (gx (e:=.sl<|.int aw) s.l s.i):Y)>65535) ||(an<|(AA<|7+(M (gx (e:=.sl<|.int aw) s.l s.i):Y))>s.left)) (.so (.ret) {s with r:=X})<|.nx {s with left:=AA<|s.left-(AA<|7+(M (gx (e:=.sl<|.int aw) s.l s.i):Y)),i:=AA<|s.i+1}) (.so (.exit 0) s)
def fN (s:KQ):Prop:=s.i=0/\s.n<=5000/\s.n=(M s.l:Y)/\Fo s.l/\0<=s.left/\s.left<=100000
def fD (s:KQ):Prop:=0<=s.i/\s.i<=s.n/\s.n<=5000/\s.n=(M s.l:Y)/\Fo s.l/\0<=s.left/\s.left<=100000
def pM (s:KQ):aC:=(s.n-s.i).toNat
def aeH (x:Ex) (s s':KQ):Prop:=True
def azV:∀s,fN s->fD s:=by
 exact Vo
def ax7:Da fD pM aeH vA:=by
 intro s hI;obtain ⟨h0,h1,h2,h3,h4,h5,h6⟩:=hI;refine allR_ite (λc1=>allR_ite (λc2=>trivial) λc2=>?_) λc1=>trivial
 ·have c1:s.i<s.n:=A8
  have hk:=S7 h4 h0 A0
  have w:AA (7+(M (gx (e:=.sl<|.int aw) s.l s.i):Y))=7+(M (gx (e:=.sl<|.int aw) s.l s.i):Y):=AH
  rw [w,AH (x:=s.i+1),AH (x:=s.left-(7+(M (gx (e:=.sl<|.int aw) s.l s.i):Y)))];exact ⟨⟨A8,A8,h2,h3,h4,A8,A8⟩,by simp only [pM];omega⟩
def OB:LpD KQ:=⟨0,32,[4,5,10,11,12],[],λs=>[s.r,s.left,.xl (.sl<|.int aw) s.l,s.n,s.i],λ_=>[],λv b=>⟨DE v 0,AJ v 1,As (.sl<|.int aw) v 2,AJ v 3,AJ v 4⟩,vA,λs r=> {r with l:=s.l,n:=s.n},λs=>s,λ_ s=>s,[.ret,.exit 0],fN,fD,pM⟩
abbrev aCl:=OB.run
abbrev aEq:=OB.exn
def avL:Rq fD vA:=by
 intro s hI;refine ⟨λc1=>⟨?_,λ_=>trivial,λ_=>trivial⟩,λ_=>trivial⟩
 ·exact aIF
def aF5:aN:=[X8]
def ab4:OB.Ok:={}
def abN:OB.Pf (aeH):=⟨azV,λs h=>rfl,ax7,avL⟩
def anz:SA 0 aBJ OB:=s1 ab4 abN aF5 kN
def asL:Rs fN aEq aCl (λs:KQ=>HP s.left<|s.l.drop s.i.toNat) (λx s' (v:aM)=>(x=.ret/\s'.r=X/\v=X)\/(x=.exit 0/\v=U)):=Cq ab4 abN (λs hI=>by
  obtain ⟨h0,h1,h2,h3,h4,h5,h6⟩:=hI;refine allR_ite (λc1=>allR_ite (λc2=>?_) λc2=>?_) λc1=>?_
  ·have c1:s.i<s.n:=A8
   have hk:=S7 h4 h0 A0
   have w:AA (7+(M (gx (e:=.sl<|.int aw) s.l s.i):Y))=7+(M (gx (e:=.sl<|.int aw) s.l s.i):Y):=AH
   rw [w] at c2;refine .inl ⟨rfl,rfl,?_⟩;rw [S0 h0 A0,HP,AB c2]
  ·have c1:s.i<s.n:=A8
   have hk:=S7 h4 h0 A0
   have w:AA (7+(M (gx (e:=.sl<|.int aw) s.l s.i):Y))=7+(M (gx (e:=.sl<|.int aw) s.l s.i):Y):=AH
   rw [w,AH (x:=s.i+1),AH (x:=s.left-(7+(M (gx (e:=.sl<|.int aw) s.l s.i):Y)))]
   show HP _ _=HP _ _
   rw [S0 h0 A0,HP,AD A8]
  ·have c1:s.n<=s.i:=A8
   refine .inr ⟨rfl,?_⟩;rw [Dj A0];rfl)
def aGZ:aD->T LV
 | [.xl (.sl (.int aw)) ds,.v (ag J sz)]=> .req ((M ds<=5000/\Fo ds)/\5<=sz/\sz<=100000) (.ok<|HP (sz-5) ds)
 |_=> .no
def aag:=vm (S:=aGZ) func74 aF5 kN (L:=(λi=>if i=3 then OB.lp else noLoops i)) (λb hb=>by
 rw [show loopsIn _=[aBJ] by kernel_rfl] at hb
 simp only [Au,BX,BV] at hb;subst hb;exact anz) (λargs lv h=>by
 unfold aGZ at h;split at h
 ·rename_i ds sz
  refine Al (letI a:=(M ds:Y);.req (OB.q (⟨X,(AA<|sz-5),ds,a,0⟩:KQ))<|.br (isEx (aEq (⟨X,(AA<|sz-5),ds,a,0⟩:KQ))<|.ret) (.ok (aCl (⟨X,(AA<|sz-5),ds,a,0⟩:KQ)).r)<|.ok U) ?_;obtain ⟨⟨⟨h0,h1⟩,h2,h3⟩,rfl⟩:=h;rw [AH (x:=sz-5)]
  have hE:fN ⟨X,sz-5,ds,(M ds:Y),0⟩:=⟨rfl,aJf,rfl,h1,by show 0<=sz-5;omega,by show sz-5<=100000;omega⟩
  have q:=asL _ hE
  refine ⟨⟨hE,rfl,rfl⟩,?_⟩
  have e:HP (sz-5) (ds.drop (0:Y).toNat)=HP (sz-5) ds:=rfl
  rw [<-e];rcases q with ⟨q1,q2,q3⟩ |⟨q1,q2⟩<;>rw [q1]
  ·refine ⟨λ_=>?_,λhc=>by cases hc⟩
   rw [q2];exact An (λz=>LV.v<|.bool z) q3.symm
  ·exact ⟨λhc=>(by cases hc),λ_=>An (λz=>LV.v<|.bool z) q2.symm⟩
 ·cases h)
structure Lb where
 n:Y
def QU (s:Lb):aD:=[.v<|ag ax s.n]
def UN (s:Lb):aE:=[]
structure U5 where
 l:aB
def acA (s:U5):LV:=.os 0 1 0<|M s.l
def adS (s:U5):aE:=[bV 5 (.int aw) s.l]
def oJ (s:Lb):T U5:=letI a:=IntKind.u8.wrap<|s.n.fdiv<|2^24;letI b:=IntKind.u8.wrap<|s.n.fdiv<|2^16;letI c:=IntKind.u8.wrap<|s.n.fdiv<|2^8;.re 4 [a,b,c,IntKind.u8.wrap s.n]<|.ok<|⟨[a,b,c,IntKind.u8.wrap s.n]⟩
def uQ (s:Lb):Prop:=True
def ac6 (s:Lb):U5:=⟨CP s.n⟩
def QA:CF Lb U5:=⟨QU,UN,λv b=>⟨AJ v 0⟩,uQ,[],[],acA,adS,ac6⟩
abbrev au3 (s:Lb):Prop:=uQ s/\QU s=QU s/\UN s=UN s
def Xm:aN:=[aBl]
def aac:aKC:=unrL prog AM (Xm) 20 2
def ahI:LLok prog AM aac:=unrL_ok<|gk Xm
def arL (s:Lb):((stepH prog AM Xm aac noK).k 77 (QU s)<|UN s).bind (λq=>canT (M<|UN s) [0] [] .normal (q.1::QU s) q.2)=(oJ s).mp (λs2=>⟨.normal,M (QU s)+1,[acA s2],adS s2,U⟩):=AO
def aoU (s:Lb) (hE:uQ s):(oJ s).all (λq=>q=ac6 s):=by
 exact ⟨A9,rfl⟩
def aln:CSound prog AM 77 QA.m:=CF.sound (D:=QA) (t:=oJ) (gk Xm) ahI noK_sound arL λs hE=>⟨aoU s hE⟩
def lJ:CSound prog AM 77 (Hf λa=>QA.m a []):=wo aln
def afa (m:ba) (z:Fl):BA (m++[z])=z:=by
 unfold BA Fp
 simp
def ib {f:aC->Fl}{n:aC}(h:1<=n) (al:ba):BA (al++((au<|n+1).map f).drop 1)=f n:=by
 rw [OR,Iq,DH,Io,aGs A8,<-CC];exact afa _ _
def im {se:Y}{a b:aB}(h:M a=M b):Fs se a=Fs se b:=by unfold Fs;rw [h]
def aw9 {se:Y}{fl:aB}(h:E8 se fl=U) {i:Y}(h0:0<=i) (h1:i<(M fl:Y).tdiv se):0<=i*se/\(i+1)*se=i*se+se/\i*se+se<=(M fl:Y):=by
 obtain ⟨hf,h2,h3,h4,h5⟩:=Jo.1 h
 have hm:=(Kw.1 hf).2.2.2.2
 have e:=rI (M fl:Y) se
 have h6:(i+1)*se=i*se+se:=A8
 have h7:(i+1)*se<=(M fl:Y).tdiv se*se:=Ji A0 A0
 rw [Int.mul_comm] at e;exact ⟨Gl h0 A0,h6,A0⟩
structure LJ where
 r:aM
 l:aB
 (n i j9 vk:Y)
 afe:aI
 mY:Y
 x7:aM
 (er se:Y)
 fl:aB
 al:ba
def o6 (s:LJ):T (Rd LJ):=
 .br (an<|s.i<s.n) (.ix s.i (M s.l)<|.br ((gi s.l s.i) !=255) (.rl s.al<|.so (.ret) {s with r:=U})<|.rl s.al<|.nx {s with i:=AA<|s.i+1}) (.rl s.al<|.so (.exit 0) s)
def ZD (s:LJ):Prop:=s.i=0/\s.n<=4096/\s.n=(M s.l:Y)
def ZN (s:LJ):Prop:=0<=s.i/\s.i<=s.n/\s.n<=4096/\s.n=(M s.l:Y)
def lG (s:LJ):aC:=(s.n-s.i).toNat
def adf (x:Ex) (s s':LJ):Prop:=True
def avY:∀s,ZD s->ZN s:=by
 exact dB
def aoB:Da ZN lG adf o6:=by
 intro s hI;obtain ⟨h0,h1,h2,h3⟩:=hI;refine allR_ite (λc1=>allR_ite (λc2=>trivial) λc2=>?_) λc1=>trivial
 have c1:s.i<s.n:=A8
 rw [AH (x:=s.i+1)];exact ⟨⟨A8,A8,h2,h3⟩,by simp only [lG];omega⟩
def US:LpD LJ:=⟨4,26,[3,17,18,19],[],λs=>[s.r,.xl (.int aw) s.l,s.n,s.i],λs=>[⟨[s.j9,.v<|ag ax s.vk,.xl (.sl<|.int aw) s.afe,s.mY,s.x7],156,.cl,X⟩,⟨[.os 3 2 0<|M s.al,s.er],209,.cl,X⟩,⟨[s.se,.xl (.int aw) s.fl],37,.cl,X⟩,bV 37 BM s.al],λv b=>⟨DE v 0,As (.int aw) v 1,AJ v 2,AJ v 3,Af b 0 0,Af b 0 1,AE (.sl<|.int aw) b 0 2,Af b 0 3,Ik b 0 4,Af b 1 1,Af b 2 0,AE (.int aw) b 2 1,AV BM b 3⟩,o6,λs r=> {s with r:=r.r,i:=r.i},λs=>s,λ_ s=>s,[.ret,.exit 0],ZD,ZN,lG⟩
abbrev iW:=US.run
abbrev gY:=US.exn
def SE:aN:=[mm,aag,YN,aak,X8]
def asa:Ap:=Fx SE (l0 SE) [⟨68,Hf λa=>Nl.m a [],XL⟩,⟨71,Q8.m,Xa⟩,⟨77,Hf λa=>QA.m a [],lJ⟩]
def apQ:Rq ZN o6:=by
 exact aGu
def aCu:US.Ok:={}
def aCd:US.Pf (adf):=⟨avY,λs h=>rfl,aoB,apQ⟩
def iR:=s2 (b:=bN f75 0) aCu aCd SE asa
def aiw:Rs ZD gY iW (λs:LJ=>(s.l.drop s.i.toNat).all λb=>b==255) (λx s' (v:aM)=>(x=.ret/\s'.r=U/\v=X)\/(x=.exit 0/\v=U)):=Cq aCu aCd (λs hI=>by
  obtain ⟨h0,h1,h2,h3⟩:=hI;refine allR_ite (λc1=>allR_ite (λc2=>?_) λc2=>?_) λc1=>?_
  ·have c1:s.i<s.n:=A8
   refine .inl ⟨rfl,rfl,?_⟩
   have:(gi s.l s.i==255)=false:=A8
   rw [(gi_step h0 A0).1,Gm,this];rfl
  ·have c1:s.i<s.n:=A8
   have:(gi s.l s.i==255)=true:=A8
   rw [AH (x:=s.i+1)]
   show List.all _ _=List.all _ _
   rw [(gi_step h0 A0).1,Gm,this,DP]
  ·have c1:s.n<=s.i:=A8
   refine .inr ⟨rfl,?_⟩;rw [Dj A0];rfl)
structure FM where
 keep:aI
 (half other D2 i SJ RM:Y)
 fw:aI
 Sr:Y
 Gy:aM
 (er se:Y)
 fl:aB
 al:ba
def aBG:=bN f29 0
def Gu (s:FM):LJ:=(⟨X,(s.fl.drop (AA<|s.i*s.se).toNat).take<|(AA<|(AA<|s.i+1)*s.se).toNat-(AA<|s.i*s.se).toNat,(M ((s.fl.drop (AA<|s.i*s.se).toNat).take<|(AA<|(AA<|s.i+1)*s.se).toNat-(AA<|s.i*s.se).toNat):Y),0,s.SJ,s.RM,s.fw,s.Sr,s.Gy,s.er,s.se,s.fl,s.al⟩:LJ)
def Ew (s:FM):Y:=(AA<|(AA<|s.other+1)*s.D2)
def reI (s:FM):Y:=(AA<|((M s.al:aC):Y)-1)
def BN (s:FM):Fl:=(s.al.getD (reI s).toNat<|Ty.dflt BM)
def Qb (s:FM):T (Rd FM):=
 .br (an<|s.i<(Ew s)) (.req (0<=(AA<|s.i*s.se)/\(AA<|s.i*s.se)<=(AA<|(AA<|s.i+1)*s.se)/\(AA<|(AA<|s.i+1)*s.se)<=(M s.fl:Y))<|.rl s.al<|.req (US.q<|Gu s)<|.br (isEx (gY<|Gu s)<|.ret) (.br (iW<|Gu s).r (.ik (reI s) (M s.al)<|.br (!((GR (BN s).1 (BN s).2 s.i)==(0:Y))) (.rl s.al<|.nx {s with i:=AA<|s.i+1,er:=GR (BN s).1 (BN s).2 s.i})<|.req (0<=(1:Y)/\(1:Y)<=(M (DF (BN s).1 (BN s).2 s.i):Y)/\(M (DF (BN s).1 (BN s).2 s.i):Y)<=(M (DF (BN s).1 (BN s).2 s.i):Y))<|.rb (M s.al) (M<|((DF (BN s).1 (BN s).2 s.i).drop (1:Y).toNat).take<|(M (DF (BN s).1 (BN s).2 s.i):Y).toNat-(1:Y).toNat) 32<|.re (M s.al+M (((DF (BN s).1 (BN s).2 s.i).drop (1:Y).toNat).take<|(M (DF (BN s).1 (BN s).2 s.i):Y).toNat-(1:Y).toNat)) (s.al++(((DF (BN s).1 (BN s).2 s.i).drop (1:Y).toNat).take<|(M (DF (BN s).1 (BN s).2 s.i):Y).toNat-(1:Y).toNat))<|.nx {s with i:=AA<|s.i+1,al:=s.al++(((DF (BN s).1 (BN s).2 s.i).drop (1:Y).toNat).take<|(M (DF (BN s).1 (BN s).2 s.i):Y).toNat-(1:Y).toNat)})<|.rl s.al<|.nx {s with i:=AA<|s.i+1})<|.br X (.ik (reI s) (M s.al)<|.br (!((GR (BN s).1 (BN s).2 s.i)==(0:Y))) (.rl s.al<|.nx {s with i:=AA<|s.i+1,er:=GR (BN s).1 (BN s).2 s.i})<|.req (0<=(1:Y)/\(1:Y)<=(M (DF (BN s).1 (BN s).2 s.i):Y)/\(M (DF (BN s).1 (BN s).2 s.i):Y)<=(M (DF (BN s).1 (BN s).2 s.i):Y))<|.rb (M s.al) (M<|((DF (BN s).1 (BN s).2 s.i).drop (1:Y).toNat).take<|(M (DF (BN s).1 (BN s).2 s.i):Y).toNat-(1:Y).toNat) 32<|.re (M s.al+M (((DF (BN s).1 (BN s).2 s.i).drop (1:Y).toNat).take<|(M (DF (BN s).1 (BN s).2 s.i):Y).toNat-(1:Y).toNat)) (s.al++(((DF (BN s).1 (BN s).2 s.i).drop (1:Y).toNat).take<|(M (DF (BN s).1 (BN s).2 s.i):Y).toNat-(1:Y).toNat))<|.nx {s with i:=AA<|s.i+1,al:=s.al++(((DF (BN s).1 (BN s).2 s.i).drop (1:Y).toNat).take<|(M (DF (BN s).1 (BN s).2 s.i):Y).toNat-(1:Y).toNat)})<|.rl s.al<|.nx {s with i:=AA<|s.i+1}) (.rl s.al<|.so (.exit 0) s)
def KR (s:FM):Prop:=E8 s.se s.fl=U/\(s.other=0\/s.other=1)/\s.D2*2=(M s.fl:Y).tdiv s.se
def WX (s:FM):Prop:=s.i=s.other*s.D2/\KR s/\s.er=0/\M s.al=1/\(BA s.al).1=s.se/\M (BA s.al).2=M s.fl
def Lp (s:FM):Prop:=(s.other*s.D2<=s.i/\s.i<=(s.other+1)*s.D2)/\KR s/\s.er=0/\(s.al≠ []/\(M s.al:Y)<=1+600*s.i)/\(BA s.al).1=s.se/\M (BA s.al).2=M s.fl
def TM (s:FM):aC:=(Ew s-s.i).toNat
def vT (x:Ex) (s s':FM):Prop:=x=.exit 0/\s'.er=0/\(s'.al≠ []/\(M s'.al:Y)<=3000000)/\(BA s'.al).1=s'.se/\M (BA s'.al).2=M s'.fl
def azq:∀s,WX s->Lp s:=by
 rintro s ⟨h0,⟨h1,h2,h3⟩,h4,h5,h6,h7⟩
 have hj:=Jo.1 h1
 have hs0:0<=s.D2:=by have:0<=(M s.fl:Y).tdiv s.se:=(by rw [GV A0];exact OS A0 A0);omega
 have hz0:(s.other+1)*s.D2=s.other*s.D2+s.D2:=A8
 have ho:0<=s.other*s.D2:=A8
 exact ⟨⟨A0,A0⟩,⟨h1,h2,h3⟩,h4,⟨A8,A0⟩,h6,h7⟩
def Qe (s:FM) (hI:Lp s) (c1:an (s.i<Ew s)=U):reI s=(M s.al:Y)-1/\BN s=BA s.al/\AA (s.i*s.se)=s.i*s.se/\AA (AA (s.i+1)*s.se)=s.i*s.se+s.se/\AA (s.i+1)=s.i+1/\
  GR (BA s.al).1 (BA s.al).2 s.i=0/\DF (BA s.al).1 (BA s.al).2 s.i=HQ (BA s.al).1 (BA s.al).2 s.i/\M (HQ (BA s.al).1 (BA s.al).2 s.i)=s.se.toNat+1/\0<=s.i*s.se/\s.i*s.se+s.se<=(M s.fl:Y)/\1<=s.se/\s.se<=512/\s.i<Ew s/\0<=s.i/\s.i<=4096/\M s.fl<=4096/\Ew s=(s.other+1)*s.D2:=by
 obtain ⟨h0,⟨h1,h2,h3⟩,h4,h5,h6,h7⟩:=hI
 have hj:=Jo.1 h1
 have hf:=Kw.1 hj.1
 have hq:(M s.fl:Y).tdiv s.se<=(M s.fl:Y):=aJ8
 have hp:=M0.2 h5.1
 have hz0:(s.other+1)*s.D2=s.other*s.D2+s.D2:=by rw [cw,Va]
 have ho:s.other*s.D2=0\/s.other*s.D2=s.D2:=by rcases h2 with e|e<;>rw [e]<;>simp
 have hz:Ew s=s.other*s.D2+s.D2:=by unfold Ew;rw [AH (x:=s.other+1),hz0];exact AH
 have c1:s.i<Ew s:=CW c1
 have hi:reI s=(M s.al:Y)-1:=AH
 have hk:=aw9 h1 (i:=s.i) A0 A0
 have hfl:Fs s.se (BA s.al).2=true:=by rw [im h7];exact hj.1
 have hE:GR (BA s.al).1 (BA s.al).2 s.i=0:=by unfold GR;rw [h6,hfl,h7,AD A8]
 refine ⟨hi,by unfold BN BA Fp;rw [hi];rfl,AH,by rw [AH (x:=s.i+1),hk.2.1];exact AH,AH,hE,AB hE,by unfold HQ;rw [h6];simp,A0,A0,A0,A0,c1,A0,A0,A0,A0⟩
def ac1 (s:FM) (hI:Lp s) (c1:an (s.i<Ew s)=U):ZD (Gu s):=by
 obtain ⟨hi,hy,w1,w2,wi,hE,hR,hl,n1,n2,n3,n4,n5,n6,n7,n8,n9⟩:=Qe s hI c1;refine ⟨rfl,?_,rfl⟩
 show ((M (List.take _<|List.drop _ s.fl):aC):Y)<=4096
 simp only [Is,Dk];omega
def azp (s:FM) (hI:Lp s):(M s.al:Y)<=3000000:=by
 obtain ⟨h0,⟨h1,h2,h3⟩,h4,h5,h6,h7⟩:=hI
 have hj:=Jo.1 h1
 have hq:(M s.fl:Y).tdiv s.se<=(M s.fl:Y):=aJ8
 have hz0:(s.other+1)*s.D2=s.other*s.D2+s.D2:=A8
 have ho:s.other*s.D2=0\/s.other*s.D2=s.D2:=A8
 omega
def ae2 (s:FM) (hI:Lp s) (c1:an (s.i<Ew s)=U):BA (s.al++(HQ (BA s.al).1 (BA s.al).2 s.i).drop 1)=(s.se,D7 (BA s.al).2 (s.i*s.se) s.se.toNat):=by
 obtain ⟨hi,hy,w1,w2,wi,hE,hR,hl,n1,n2,n3,n4,n5,n6,n7,n8,n9⟩:=Qe s hI c1;rw [hI.2.2.2.2.1];exact ib (f:=λk=>(s.se,D7 (BA s.al).2 (s.i*s.se) k)) (n:=s.se.toNat) A0 s.al
def avT:Da Lp TM vT Qb:=by
 intro s hI;unfold Qb;dsimp only [T.rd,T.rl,T.rv];refine allR_ite (λc1=>?_) λc1=>⟨rfl,hI.2.2.1,⟨hI.2.2.2.1.1,azp s hI⟩,hI.2.2.2.2.1,hI.2.2.2.2.2⟩
 have hL:=ae2 s hI c1
 obtain ⟨hi,hy,w1,w2,wi,hE,hR,hl,n1,n2,n3,n4,n5,n6,n7,n8,n9⟩:=Qe s hI c1;obtain ⟨h0,hK,h4,h5,h6,h7⟩:=hI
 have st:∀al:ba,al≠ []->(M al:Y)<=601+600*s.i->(BA al).1=s.se->M (BA al).2=M s.fl->Lp {s with i:=s.i+1,al:=al}/\TM {s with i:=s.i+1,al:=al}<TM s:=λal a1 a2 a3 a4=>
  ⟨⟨⟨AR,AR⟩,hK,h4,⟨a1,AR⟩,a3,a4⟩,by simp only [TM];show (Ew s-(s.i+1)).toNat<_;omega⟩
 rw [wi];refine allR_ite (λc2=>allR_ite (λc3=>allR_ite (λc4=>?_) λc4=>?_) λc3=>?_) λc2=>?_
 ·grind
 ·rw [hy,hR,Cx (by rw [Dk,hl];omega)]
  refine st _ (by simp [h5.1]) A8 ?_ ?_
  ·grind
  ·show M (BA<|s.al++List.drop 1 _).2=_;rw [hL,vz];exact h7
 all_goals exact st s.al h5.1 A0 h6 h7
def N7:LpD FM:=⟨0,97,[1,6,8,9,10,11,12,13],[.ps 6 2<|.sl<|.int aw],λs=>[.xl (.sl<|.int aw) s.keep,.own 0 0,s.half,.own 1 0,s.other,.fn 75 [.own 2 0],s.D2,s.i],λs=>[⟨[s.SJ,.v<|ag ax s.RM,.xl (.sl<|.int aw) s.fw,s.Sr,s.Gy],156,.cl,X⟩,⟨[.os 3 2 0<|M s.al,s.er],209,.cl,X⟩,⟨[s.se,.xl (.int aw) s.fl],37,.cl,X⟩,bV 37 BM s.al],λv b=>⟨As (.sl<|.int aw) v 0,AJ v 2,AJ v 4,AJ v 6,AJ v 7,Af b 0 0,Af b 0 1,AE (.sl<|.int aw) b 0 2,Af b 0 3,Ik b 0 4,Af b 1 1,Af b 2 0,AE (.int aw) b 2 1,AV BM b 3⟩,Qb,λs r=> {r with keep:=s.keep,half:=s.half,other:=s.other,D2:=s.D2,SJ:=s.SJ,RM:=s.RM,fw:=s.fw,Sr:=s.Sr,Gy:=s.Gy,se:=s.se,fl:=s.fl},λs=>s,λ_ s=>s,[.exit 0],WX,Lp,TM⟩
abbrev Dn:=N7.run
abbrev aFB:=N7.exn
def avm:Rq Lp Qb:=by
 intro s hI;refine ⟨λc1=>⟨?_,A9,?_,λc2=>⟨λc3=>⟨?_,?_,λc4=>⟨A9,ak⟩,λc4=>⟨?_,?_,?_,ak⟩⟩,λc3=>⟨A9,ak⟩⟩,λc2=>⟨λc5=>⟨?_,?_,λc6=>⟨A9,ak⟩,λc6=>⟨?_,?_,?_,ak⟩⟩,λc5=>⟨A9,ak⟩⟩⟩,λc1=>⟨A9,ak⟩⟩
 ·(have hI':=hI.2.2.2.1;have hp:=M0.2 hI'.1;obtain ⟨hi,hy,w1,w2,wi,hE,hR,hl,n1,n2,n3,n4,n5,n6,n7,n8,n9⟩:=Qe s hI c1;(first|(rw [w1,w2];omega) |(rw [hi];omega) |(rw [hy,hR,hl];omega) |(rw [hy,hR,Cx AG,Dk,hl];omega) |(simp only [Ax,DZ])))
 ·exact ⟨ac1 s hI c1,rfl,rfl⟩
 iterate 10 · (have hI':=hI.2.2.2.1;have hp:=M0.2 hI'.1;obtain ⟨hi,hy,w1,w2,wi,hE,hR,hl,n1,n2,n3,n4,n5,n6,n7,n8,n9⟩:=Qe s hI c1;(first|(rw [w1,w2];omega) |(rw [hi];omega) |(rw [hy,hR,hl];omega) |(rw [hy,hR,Cx AG,Dk,hl];omega) |(simp only [Ax,DZ])))
def asZ:Ap:=Fx SE (la 2 func75 iR<|l0 SE) [⟨68,Hf λa=>Nl.m a [],XL⟩,⟨71,Q8.m,Xa⟩,⟨77,Hf λa=>QA.m a [],lJ⟩]
def pH:N7.Ok:={}
def ot:N7.Pf (vT):=⟨azq,λs h=>rfl,avT,avm⟩
def anu:SA 0 aBG N7:=s1 pH ot SE asZ
def aqW:Fi WX Lp vT aFB Dn:=LpD.fin pH ot
end Go.Proofs.YtcdkianomnhhmaaGreatDoor
end
