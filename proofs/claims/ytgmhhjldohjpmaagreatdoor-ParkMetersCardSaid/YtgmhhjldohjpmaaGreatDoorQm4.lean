/- Helpers for ParkMeters. Conditions: none. -/
import Derived.Test.YtgmhhjldohjpmaaGreatDoorQm3
set_option linter.defProp false
set_option linter.unusedVariables false
set_option linter.unusedSimpArgs false
noncomputable section
namespace Go.Proofs.YtgmhhjldohjpmaaGreatDoor
set_option maxRecDepth 100000
set_option maxHeartbeats 4000000
open Go.Proofs.Tryz
open Go.Sx
def U4 (s:Cy):Prop:=s.k=0/\(s.m=(s.l.length:Int)/\s.m<=1000/\1<=s.level/\s.level<=81)/\s.Aw=s.BH/\OkT (D5 s) s.BB s.Aw s.BA s.most s.l/\OkS s.BB s.l s.sums s.levels
def Ha (s:Cy):Prop:=(0<=s.k/\s.k<=s.m)/\(s.m=(s.l.length:Int)/\s.m<=1000/\1<=s.level/\s.level<=81)/\s.Aw=s.BH/\OkT (D5 s) s.BB s.Aw s.BA s.most s.l/\OkS s.BB s.l s.sums s.levels
def TG (s:Cy):Nat:=(s.m-s.k).toNat
def gr (x:Ex) (s s':Cy):Prop:=x=.exit 2/\s'.k=s'.m
def aim:∀s,U4 s->Ha s:=by
 exact ju
def QC (s:Cy) (hI:Ha s) (c1:s.k<s.m):letI a:=gi s.l s.k;gi s.l s.k∈s.l/\(0<=gi s.l s.k/\gi s.l s.k<16)/\gi s.l s.k<(s.Aw.length:Int)/\gi s.l s.k<(s.BH.length:Int)/\gi s.l s.k<(s.BA.length:Int)/\gi s.l s.k<(s.most.length:Int)/\gi s.l s.k<(s.levels.length:Int)/\(0<=gi s.most a/\gi s.most a<=80)/\(0<=gi s.BA a/\gi s.BA a<=80):=by
 obtain ⟨⟨h0,h1⟩,⟨h2,h3,h4,h5⟩,h6,hT,hS⟩:=hI
 have hm:gi s.l s.k∈s.l:=L6 h0 A0
 obtain ⟨o1,o2,o3,o4⟩:=hT.ord _ hm;exact ⟨hm,o1,o2,AA,o3,o4,hS.EE _ hm,hT.mo _ (L6 o1.1 o4),hT.al _ (L6 o1.1 o3)⟩
def Q4 {s:Cy}(hI:Ha s) (c2:((s.levels.getD (gi s.l s.k).toNat (Ty.dflt A7)) !=(A9 (s.level-1)))=false):s.levels.getD (gi s.l s.k).toNat 0=s.level-1:=by
 obtain ⟨_,⟨h2,h3,h4,h5⟩,_⟩:=hI
 have c2:((s.levels.getD (gi s.l s.k).toNat 0) !=(A9 (s.level-1)))=false:=c2
 rw [AI (x:=s.level-1)] at c2
 grind
def dn {s:Cy}(hI:Ha s) (c2:s.levels.getD (gi s.l s.k).toNat 0=s.level-1):letI a:=(s.levels.getD (gi s.l s.k).toNat (Ty.dflt A7))+1;A9 a=s.level/\A9 ((A9 a)-1)=s.level-1:=by
 obtain ⟨_,⟨h2,h3,h4,h5⟩,_⟩:=hI
 have e:A9 ((s.levels.getD (gi s.l s.k).toNat (Ty.dflt A7))+1)=s.level:=by
  have:(s.levels.getD (gi s.l s.k).toNat (Ty.dflt A7))=s.level-1:=c2
  rw [this,AI (x:=s.level-1+1)];omega
 refine ⟨e,?_⟩;rw [e,AI]
def W3 {s:Cy}(hI:Ha s) (c1:s.k<s.m) (c2:s.levels.getD (gi s.l s.k).toNat 0=s.level-1):letI a:=gi s.l s.k;(T6 s).more=Fj s.Aw s.BA a s.level/\(Sd s).more=Fj s.Aw s.BA a s.level/\0<=Fj s.Aw s.BA a s.level/\Fj s.Aw s.BA a s.level<=10000:=by
 have hx:=QC s hI c1
 obtain ⟨w1,w2⟩:=dn hI c2;obtain ⟨_,⟨h2,h3,h4,h5⟩,h6,hT,hS⟩:=hI
 have hb:=aQ3 (gs:=s.Aw) (alive:=s.BA) (k:=s.level) (hT.has _ hx.1) hx.2.2.2.2.2.2.2.2 h4 h5
 have e:(T6 s).more=Fj s.Aw s.BA (gi s.l s.k) s.level:=by
  unfold T6;simp only [w2];simp only [w1]
  show A9 (Fj s.Aw s.BA (gi s.l s.k) s.level)=_
  rw [AI]
 exact ⟨e,e,hb⟩
def aaC {s:Cy}(hI:Ha s) (c1:s.k<s.m):((D5 s).getD (gi s.l s.k).toNat []).Nodup/\(((D5 s).getD (gi s.l s.k).toNat []).length:Int)<=1000/\∀r∈(D5 s).getD (gi s.l s.k).toNat [],0<=r/\r<(s.BB.length:Int):=by
 have hx:=QC s hI c1
 obtain ⟨_,_,_,hT,_⟩:=hI;refine hT.row _ ?_
 have hl:=hT.ol
 grind
def WC {s:Cy}(hI:Ha s) (c1:s.k<s.m) (c2:s.levels.getD (gi s.l s.k).toNat 0=s.level-1):YS (T6 s):=by
 obtain ⟨m1,m2,m3⟩:=W3 hI c1 c2;obtain ⟨o1,o2,o3⟩:=aaC hI c1;obtain ⟨_,_,_,hT,hS⟩:=hI;exact ⟨rfl,V5 _,o2,rfl,o3,hS.len,hS.bd,AA⟩
def pW {s:Cy}(hI:Ha s) (c1:s.k<s.m) (c2:s.levels.getD (gi s.l s.k).toNat 0=s.level-1):Un (Sd s):=by
 obtain ⟨m1,m2,m3⟩:=W3 hI c1 c2;obtain ⟨o1,o2,o3⟩:=aaC hI c1;obtain ⟨_,_,_,hT,hS⟩:=hI;refine ⟨rfl,hS.bd,rfl,o2,λr hr=>?_,AA⟩
 have:=o3 r hr
 have hl:=hS.len
 show 0<=r/\r<(s.sums.length:Int)
 omega
def aJ4 (s s':Cy) (hI:Ha s) (c1:s.k<s.m) (ht:(s'.sums,s'.levels,s'.some)=Fb (D5 s) s.BB s.Aw s.BA s.most s.level (s.sums,s.levels,s.some) (gi s.l s.k)) (hk:s'.k=A9 (s.k+1))
  (h_m:s'.m=s.m) (h_l:s'.l=s.l) (h_v:s'.level=s.level) (h_g:s'.Aw=s.Aw) (h_c:s'.BH=s.BH) (h_r:s'.BB=s.BB) (h_a:s'.BA=s.BA) (h_w:s'.most=s.most) (h_O:D5 s'=D5 s):
  (Ha s'/\TG s'<TG s)/\(λs:Cy=>swp (D5 s) s.BB s.Aw s.BA s.most s.level (s.sums,s.levels,s.some) (s.l.drop s.k.toNat)) s'=(λs:Cy=>swp (D5 s) s.BB s.Aw s.BA s.most s.level (s.sums,s.levels,s.some) (s.l.drop s.k.toNat)) s:=by
 have hx:=QC s hI c1
 obtain ⟨⟨h0,h1⟩,⟨h2,h3,h4,h5⟩,h6,hT,hS⟩:=hI;rw [AI (x:=s.k+1)] at hk
 have e1:s'.sums=(Fb (D5 s) s.BB s.Aw s.BA s.most s.level (s.sums,s.levels,s.some) (gi s.l s.k)).1:=Ax (·.1) ht
 have e2:s'.levels=(Fb (D5 s) s.BB s.Aw s.BA s.most s.level (s.sums,s.levels,s.some) (gi s.l s.k)).2.1:=Ax (·.2.1) ht
 refine ⟨⟨⟨⟨A0,A0⟩,⟨AA,A0,A0,A0⟩,AA,AA,?_⟩,by simp only [TG];omega⟩,?_⟩
 ·rw [h_r,h_l,e1,e2]
  exact aJE hT hS hx.1 h4 h5
 ·simp only
  rw [h_O,h_r,h_g,h_a,h_w,h_v,h_l,ht,hk,(gi_step h0 (show s.k<s.l.length by omega)).1]
  rfl
def aCG (s s':Cy) (hI:Ha s) (c1:s.k<s.m) (ht:(s'.sums,s'.levels,s'.some)=Fb (D5 s) s.BB s.Aw s.BA s.most s.level (s.sums,s.levels,s.some) (gi s.l s.k)) (hk:s'.k=A9 (s.k+1))
  (h_m:s'.m=s.m) (h_l:s'.l=s.l) (h_v:s'.level=s.level) (h_g:s'.Aw=s.Aw) (h_c:s'.BH=s.BH) (h_r:s'.BB=s.BB) (h_a:s'.BA=s.BA) (h_w:s'.most=s.most) (h_O:D5 s'=D5 s):CM (λs'=>Ha s'/\TG s'<TG s) (λx s'=>gr x s s') (.next s'):=(aJ4 s s' hI c1 ht hk h_m h_l h_v h_g h_c h_r h_a h_w h_O).1
def aCF (s s':Cy) (hI:Ha s) (c1:s.k<s.m) (ht:(s'.sums,s'.levels,s'.some)=Fb (D5 s) s.BB s.Aw s.BA s.most s.level (s.sums,s.levels,s.some) (gi s.l s.k)) (hk:s'.k=A9 (s.k+1))
  (h_m:s'.m=s.m) (h_l:s'.l=s.l) (h_v:s'.level=s.level) (h_g:s'.Aw=s.Aw) (h_c:s'.BH=s.BH) (h_r:s'.BB=s.BB) (h_a:s'.BA=s.BA) (h_w:s'.most=s.most) (h_O:D5 s'=D5 s):CM (λs'=>(λs:Cy=>swp (D5 s) s.BB s.Aw s.BA s.most s.level (s.sums,s.levels,s.some) (s.l.drop s.k.toNat)) s'=(λs:Cy=>swp (D5 s) s.BB s.Aw s.BA s.most s.level (s.sums,s.levels,s.some) (s.l.drop s.k.toNat)) s) (λ_ s'=>(λs:Cy=>swp (D5 s) s.BB s.Aw s.BA s.most s.level (s.sums,s.levels,s.some) (s.l.drop s.k.toNat)) s'=(λs:Cy=>swp (D5 s) s.BB s.Aw s.BA s.most s.level (s.sums,s.levels,s.some) (s.l.drop s.k.toNat)) s) (.next s'):=(aJ4 s s' hI c1 ht hk h_m h_l h_v h_g h_c h_r h_a h_w h_O).2
def auk:Da Ha TG gr TV:=by
 intro s hI;unfold TV;dsimp only [T.rd,T.rl,T.rv];refine AG (λc1=>?_) (λc1=>?_)
 ·refine AG (λc2=>?_) (λc2=>?_)
  ·have c1:s.k<s.m:=AO
   have hn:¬(s.levels.getD (gi s.l s.k).toNat 0=s.level-1/\s.level<=FE s.Aw (gi s.l s.k) (gi s.most (gi s.l s.k))):=λh=>by
    exact aK5
   exact aLW
  ·refine AG (λc3=>?_) (λc3=>?_)
   ·have c1:s.k<s.m:=AO
    have hn:¬(s.levels.getD (gi s.l s.k).toNat 0=s.level-1/\s.level<=FE s.Aw (gi s.l s.k) (gi s.most (gi s.l s.k))):=λh=>by
     exact aLh
    exact aLW
   ·refine AG (λc4=>?_) (λc4=>?_)
    ·refine AG (λc5=>?_) (λc5=>?_)
     ·refine AG (λc6=>?_) (λc6=>?_)
      ·cases c6
      ·have c1:s.k<s.m:=AO
       have c2:=Q4 hI c2
       have hp:s.levels.getD (gi s.l s.k).toNat 0=s.level-1/\s.level<=FE s.Aw (gi s.l s.k) (gi s.most (gi s.l s.k)):=by
        exact jj
       have hE:=WC hI c1 c2
       obtain ⟨m1,m2,_⟩:=W3 hI c1 c2;rcases bK _ hE with ⟨q1,q2⟩ |⟨q1,q2,q3⟩
       ·rw [q1] at c4
        cases c4
       ·rw [m1] at q3
        have q3:((D5 s).getD (gi s.l s.k).toNat []).all (KQ s.BB s.sums (Fj s.Aw s.BA (gi s.l s.k) s.level))=false:=q3
        exact aCG s _ hI AO aMx rfl rfl rfl rfl rfl rfl rfl rfl rfl rfl
     ·exact aM9
    ·refine AG (λc5=>?_) (λc5=>?_)
     ·exact aMH
     ·refine AG (λc6=>?_) (λc6=>?_)
      ·have c1:s.k<s.m:=AO
       have c2:=Q4 hI c2
       have hp:s.levels.getD (gi s.l s.k).toNat 0=s.level-1/\s.level<=FE s.Aw (gi s.l s.k) (gi s.most (gi s.l s.k)):=by
        exact jj
       have hE:=WC hI c1 c2
       obtain ⟨m1,m2,_⟩:=W3 hI c1 c2
       have hR:=pW hI c1 c2
       rcases bK _ hE with ⟨q1,q2⟩ |⟨q1,q2,q3⟩
       ·rw [m1] at q2
        have q2:((D5 s).getD (gi s.l s.k).toNat []).all (KQ s.BB s.sums (Fj s.Aw s.BA (gi s.l s.k) s.level))=true:=q2
        have r1:=aJD _ hR
        rw [m2] at r1
        have r1:(OO (Sd s)).sums=KW s.sums (Fj s.Aw s.BA (gi s.l s.k) s.level) ((D5 s).getD (gi s.l s.k).toNat []):=r1
        have w1:=(dn hI c2).1
        exact aCG s _ hI AO aMg rfl rfl rfl rfl rfl rfl rfl rfl rfl rfl
       ·rw [q1] at c4
        cases c4
      ·cases c6
 ·have c1:s.m<=s.k:=AO
  have h0:=hI.1
  exact SQ
def R8:AS Cy:=⟨0,129,[2,3,4,12,14,15,16,66,67,68],[],λs=>[.xl A7 s.most,.xl A7 s.order,.own 0 0,s.n,.own 1 0,s.level,s.some,.xl A7 s.l,s.m,s.k],λs=>[⟨[s.B5,s.BW,s.C0,s.BH,s.C1],28,.cl,false⟩,⟨[s.H5,s.H4,s.Es,s.Aw,s.H6,.xl Ec s.BB,.xl A7 s.CI,.xl A7 s.CH,.xl A7 s.CG,.xl A7 s.CF,.xl A7 s.CE,.xl A7 s.CD,.xl A7 s.CC,.xl A7 s.CB,.xl A7 s.CA,.xl A7 s.C9,.xl A7 s.C8,.xl A7 s.C7,.xl A7 s.C6,.xl A7 s.C5,.xl A7 s.C3,.xl A7 s.C2,.os 2 1 0 (s.sums.length),.xl A7 s.BA,.os 3 1 0 (s.levels.length)],306,.cl,false⟩,bV 3 A7 s.sums,bV 3 A7 s.levels],λv b=>⟨Az A7 v 0,Az A7 v 1,AK v 3,AK v 5,Eb v 6,Az A7 v 7,AK v 8,AK v 9,AF Ao b 0 0,AF .str b 0 1,AF B8 b 0 2,AF Au b 0 3,AF B9 b 0 4,AF Ao b 1 0,AF .str b 1 1,AF B8 b 1 2,AF Au b 1 3,AF B9 b 1 4,AF Ec b 1 5,AF A7 b 1 6,AF A7 b 1 7,AF A7 b 1 8,AF A7 b 1 9,AF A7 b 1 10,AF A7 b 1 11,AF A7 b 1 12,AF A7 b 1 13,AF A7 b 1 14,AF A7 b 1 15,AF A7 b 1 16,AF A7 b 1 17,AF A7 b 1 18,AF A7 b 1 19,AF A7 b 1 20,AF A7 b 1 21,AF A7 b 1 23,Ab A7 b 2,Ab A7 b 3⟩,TV,λs r=> {s with some:=r.some,k:=r.k,sums:=r.sums,levels:=r.levels},λs=>s,λ_ s=>s,[.exit 2],U4,Ha,TG⟩
abbrev HT:=R8.run
abbrev aqI:=R8.Am
def avy:Rq Ha TV:=by
 intro s hI;refine ⟨λc1=>⟨?_,?_,?_,λc2=>⟨A8,A8,trivial⟩,λc2=>⟨?_,?_,?_,λc3=>⟨A8,A8,trivial⟩,λc3=>⟨?_,?_,?_,?_,?_,?_,?_,?_,A8,A8,?_,λc4=>⟨λc5=>⟨λc6=>⟨A8,A8,trivial⟩,λc6=>⟨A8,A8,trivial⟩⟩,λc5=>⟨?_,A8,A8,?_,?_,?_,λc7=>⟨A8,?_,trivial⟩,λc7=>⟨A8,?_,trivial⟩⟩⟩,λc4=>⟨λc8=>⟨λc9=>⟨A8,A8,trivial⟩,λc9=>⟨A8,A8,trivial⟩⟩,λc8=>⟨?_,A8,A8,?_,?_,?_,λc10=>⟨A8,?_,trivial⟩,λc10=>⟨A8,?_,trivial⟩⟩⟩⟩⟩⟩,λc1=>⟨A8,A8,trivial⟩⟩
 ·(have:=hI.1;have:=hI.2.1.1;simp only [AY] at c1;omega)
 iterate 9 · (have hx:=QC s hI AO;omega)
 ·exact aL1
 ·exact jt
 ·exact aL1
 ·exact jt
 ·exact ⟨WC hI AO (Q4 hI c2),rfl,rfl⟩
 ·exact jt
 ·exact aM1
 iterate 2 · (have hx:=QC s hI AO;omega)
 iterate 2 · exact ⟨rfl,AJ⟩
 ·exact jt
 ·exact aM1
 iterate 2 · (have hx:=QC s hI AA;omega)
 iterate 2 · exact ⟨rfl,AJ⟩
def yz:List Bd:=[We,Wv,Wu,Ww]
def akg:As:=kI yz (la 8 func188 qm (la 2 func184 oJ (la 3 func186 cE (la 2 func184 WG (l0 yz)))))
def sR:R8.Ok:={}
def qW:R8.Pf (gr):=⟨aim,λs h=>rfl,auk,avy⟩
def aor:SA 0 aEr R8:=s1 sR qW yz akg
def aoG:Fi U4 Ha gr aqI HT:=AS.fin sR qW
def agV (s:Cy) (hE:U4 s):(λs:Cy=>swp (D5 s) s.BB s.Aw s.BA s.most s.level (s.sums,s.levels,s.some) (s.l.drop s.k.toNat)) (HT s)=(λs:Cy=>swp (D5 s) s.BB s.Aw s.BA s.most s.level (s.sums,s.levels,s.some) (s.l.drop s.k.toNat)) s:=by
 exact AS.KO sR qW (λs:Cy=>swp (D5 s) s.BB s.Aw s.BA s.most s.level (s.sums,s.levels,s.some) (s.l.drop s.k.toNat)) (λs hI=>by
  show CM _ _ ((TV s).rd s)
  unfold TV;dsimp only [T.rd,T.rl];refine AG (λc1=>?_) (λc1=>?_)
  ·refine AG (λc2=>?_) (λc2=>?_)
   ·have c1:s.k<s.m:=AO
    have hn:¬(s.levels.getD (gi s.l s.k).toNat 0=s.level-1/\s.level<=FE s.Aw (gi s.l s.k) (gi s.most (gi s.l s.k))):=λh=>by
     exact aK5
    exact aLX
   ·refine AG (λc3=>?_) (λc3=>?_)
    ·have c1:s.k<s.m:=AO
     have hn:¬(s.levels.getD (gi s.l s.k).toNat 0=s.level-1/\s.level<=FE s.Aw (gi s.l s.k) (gi s.most (gi s.l s.k))):=λh=>by
      exact aLh
     exact aLX
    ·refine AG (λc4=>?_) (λc4=>?_)
     ·refine AG (λc5=>?_) (λc5=>?_)
      ·refine AG (λc6=>?_) (λc6=>?_)
       ·cases c6
       ·have c1:s.k<s.m:=AO
        have c2:=Q4 hI c2
        have hp:s.levels.getD (gi s.l s.k).toNat 0=s.level-1/\s.level<=FE s.Aw (gi s.l s.k) (gi s.most (gi s.l s.k)):=by
         exact jj
        have hE:=WC hI c1 c2
        obtain ⟨m1,m2,_⟩:=W3 hI c1 c2;rcases bK _ hE with ⟨q1,q2⟩ |⟨q1,q2,q3⟩
        ·rw [q1] at c4
         cases c4
        ·rw [m1] at q3
         have q3:((D5 s).getD (gi s.l s.k).toNat []).all (KQ s.BB s.sums (Fj s.Aw s.BA (gi s.l s.k) s.level))=false:=q3
         exact aCF s _ hI AO aMx rfl rfl rfl rfl rfl rfl rfl rfl rfl rfl
      ·exact aM9
     ·refine AG (λc5=>?_) (λc5=>?_)
      ·exact aMH
      ·refine AG (λc6=>?_) (λc6=>?_)
       ·have c1:s.k<s.m:=AO
        have c2:=Q4 hI c2
        have hp:s.levels.getD (gi s.l s.k).toNat 0=s.level-1/\s.level<=FE s.Aw (gi s.l s.k) (gi s.most (gi s.l s.k)):=by
         exact jj
        have hE:=WC hI c1 c2
        obtain ⟨m1,m2,_⟩:=W3 hI c1 c2
        have hR:=pW hI c1 c2
        rcases bK _ hE with ⟨q1,q2⟩ |⟨q1,q2,q3⟩
        ·rw [m1] at q2
         have q2:((D5 s).getD (gi s.l s.k).toNat []).all (KQ s.BB s.sums (Fj s.Aw s.BA (gi s.l s.k) s.level))=true:=q2
         have r1:=aJD _ hR
         rw [m2] at r1
         have r1:(OO (Sd s)).sums=KW s.sums (Fj s.Aw s.BA (gi s.l s.k) s.level) ((D5 s).getD (gi s.l s.k).toNat []):=r1
         have w1:=(dn hI c2).1
         exact aCF s _ hI AO aMg rfl rfl rfl rfl rfl rfl rfl rfl rfl rfl
        ·rw [q1] at c4
         cases c4
       ·cases c6
  ·rfl) s hE
def aoF (s:Cy) (hE:U4 s):((HT s).sums,(HT s).levels,(HT s).some)=swp (D5 s) s.BB s.Aw s.BA s.most s.level (s.sums,s.levels,s.some) s.l:=by
 have q3:=agV s hE
 obtain ⟨s',hI,q1,q2⟩:=aoG s hE;obtain ⟨h0,h1,_⟩:=hE;simp only at q3;rw [q2,show (HT s).m=s.m from rfl,show (HT s).l=s.l from rfl,EJ A0,h0] at q3;exact q3
structure Ir where
 (most order:List Int)
 (n level:Int)
 B5:List Cd
 BW:List ByteArray
 C0:List Ko
 BH:List Ch
 C1:List Ba
 H5:List Cd
 H4:List ByteArray
 Es:List Ko
 Aw:List Ch
 H6:List Ba
 BB:List Rw
 (CI CH CG CF CE CD CC CB CA C9 C8 C7 C6 C5 C3 C2 BA sums levels:List Int)
def pG:=bN f147 0
def Kw (s:Ir):Cy:=(⟨s.most,s.order,s.n,s.level,false,s.order,(s.order.length:Int),0,s.B5,s.BW,s.C0,s.BH,s.C1,s.H5,s.H4,s.Es,s.Aw,s.H6,s.BB,s.CI,s.CH,s.CG,s.CF,s.CE,s.CD,s.CC,s.CB,s.CA,s.C9,s.C8,s.C7,s.C6,s.C5,s.C3,s.C2,s.BA,s.sums,s.levels⟩:Cy)
def uo (s:Ir):T (Rd Ir):=letI a:=HT (Kw s);.rl s.sums (.rl s.levels (.req (R8.q (Kw s)) (.br (! a.some) (.rl a.sums (.rl a.levels (.so (.exit 0) {s with sums:=a.sums,levels:=a.levels}))) (.rl a.sums (.rl a.levels (.nx {s with level:=A9 (s.level+1),sums:=a.sums,levels:=a.levels}))))))
def KK (s:Ir):List (List Int):=[s.CI,s.CH,s.CG,s.CF,s.CE,s.CD,s.CC,s.CB,s.CA,s.C9,s.C8,s.C7,s.C6,s.C5,s.C3,s.C2]
def gE (s:Ir):Prop:=s.level=1/\(s.order.length:Int)<=1000/\s.Aw=s.BH/\OkT (KK s) s.BB s.Aw s.BA s.most s.order/\OkS s.BB s.order s.sums s.levels
def U0 (s:Ir):Prop:=(1<=s.level/\s.level<=81)/\(s.order.length:Int)<=1000/\s.Aw=s.BH/\OkT (KK s) s.BB s.Aw s.BA s.most s.order/\OkS s.BB s.order s.sums s.levels
def rh (s:Ir):Nat:=(82-s.level).toNat
def abo (x:Ex) (s s':Ir):Prop:=x=.exit 0
def ail:∀s,gE s->U0 s:=by
 exact ju
def aJ2 (s:Ir) (hI:U0 s):U4 (Kw s):=by
 obtain ⟨⟨h0,h1⟩,h2,h3,hT,hS⟩:=hI;exact ⟨rfl,⟨rfl,h2,h0,h1⟩,h3,hT,hS⟩
def aaB (s:Ir) (hI:U0 s):((HT (Kw s)).sums,(HT (Kw s)).levels,(HT (Kw s)).some)=swp (KK s) s.BB s.Aw s.BA s.most s.level (s.sums,s.levels,false) s.order:=aoF _ (aJ2 s hI)
def auj:Da U0 rh abo uo:=by
 intro s hI
 have hr:=aaB s hI
 obtain ⟨⟨h0,h1⟩,h2,h3,hT,hS⟩:=hI;refine AG (λc1=>rfl) (λc1=>?_)
 have c1:(HT (Kw s)).some=true:=AA
 have hk:=ql hT h0 h1 s.order (s.sums,s.levels,false) (λ_ h=>h) hS
 have hs:=nJ (O:=KK s) (rows:=s.BB) (gs:=s.Aw) (alive:=s.BA) (most:=s.most) (level:=s.level) s.order (s.sums,s.levels,false)
 rw [<-hr] at hk hs
 have h80:s.level<=80:=by
  rcases hs c1 with h|h
  ·cases h
  ·exact h
 rw [AI (x:=s.level+1)];exact ⟨⟨⟨AA,AA⟩,h2,h3,hT,hk⟩,by simp only [rh];omega⟩
def PD:AS Ir:=⟨0,129,[2,3,4,12,14,15],[.ps 14 6 A7,.ps 14 7 A7,.ps 14 8 A7,.ps 14 9 A7,.ps 14 10 A7,.ps 14 11 A7,.ps 14 12 A7,.ps 14 13 A7,.ps 14 14 A7,.ps 14 15 A7,.ps 14 16 A7,.ps 14 17 A7,.ps 14 18 A7,.ps 14 19 A7,.ps 14 20 A7,.ps 14 21 A7],λs=>[.xl A7 s.most,.xl A7 s.order,.own 0 0,s.n,.own 1 0,s.level],λs=>[⟨[s.B5,s.BW,s.C0,s.BH,s.C1],28,.cl,false⟩,⟨[s.H5,s.H4,s.Es,s.Aw,s.H6,.xl Ec s.BB,.xl A7 s.CI,.xl A7 s.CH,.xl A7 s.CG,.xl A7 s.CF,.xl A7 s.CE,.xl A7 s.CD,.xl A7 s.CC,.xl A7 s.CB,.xl A7 s.CA,.xl A7 s.C9,.xl A7 s.C8,.xl A7 s.C7,.xl A7 s.C6,.xl A7 s.C5,.xl A7 s.C3,.xl A7 s.C2,.os 2 1 0 (s.sums.length),.xl A7 s.BA,.os 3 1 0 (s.levels.length)],306,.cl,false⟩,bV 3 A7 s.sums,bV 3 A7 s.levels],λv b=>⟨Az A7 v 0,Az A7 v 1,AK v 3,AK v 5,AF Ao b 0 0,AF .str b 0 1,AF B8 b 0 2,AF Au b 0 3,AF B9 b 0 4,AF Ao b 1 0,AF .str b 1 1,AF B8 b 1 2,AF Au b 1 3,AF B9 b 1 4,AF Ec b 1 5,AF A7 b 1 6,AF A7 b 1 7,AF A7 b 1 8,AF A7 b 1 9,AF A7 b 1 10,AF A7 b 1 11,AF A7 b 1 12,AF A7 b 1 13,AF A7 b 1 14,AF A7 b 1 15,AF A7 b 1 16,AF A7 b 1 17,AF A7 b 1 18,AF A7 b 1 19,AF A7 b 1 20,AF A7 b 1 21,AF A7 b 1 23,Ab A7 b 2,Ab A7 b 3⟩,uo,λs r=> {s with level:=r.level,sums:=r.sums,levels:=r.levels},λs=>s,λ_ s=>s,[.exit 0],gE,U0,rh⟩
abbrev Ig:=PD.run
def avx:Rq U0 uo:=by
 intro s hI;refine ⟨A8,A8,?_,λc1=>⟨A8,A8,trivial⟩,λc1=>⟨A8,A8,trivial⟩⟩
 ·exact ⟨aJ2 s hI,rfl,rfl⟩
def XQ:List Bd:=[We,Wv,Wu,Ww]
def zA:As:=kI XQ (la 8 func188 qm (la 2 func184 oJ (la 3 func186 cE (la 2 func184 WG (l0 XQ)))))
def aOx:PD.Ok:={}
def aOX:PD.Pf (abo):=⟨ail,λs h=>rfl,auj,avx⟩
def aoq:SA 0 pG PD:=AS.snd aOx aOX (mX (Γ:=XQ) (K:=zA) (L:=(λi=>if i=13 then R8.lp else Af i)) (gk XQ) zA.h pG (λb hb=>by
 rw [show B6 _=[aEr] by rfl] at hb
 simp only [B1,Bv,Bw] at hb;subst hb;exact aor)) (λs=>AZ)
def aoE (s:Ir) (hE:gE s):(Ig s).levels=shl (KK s) s.BB s.Aw s.BA s.most s.order 81 1 s.sums s.levels:=by
 have hk:=AS.aAu aOx aOX (V:=λs:Ir=>shl (KK s) s.BB s.Aw s.BA s.most s.order (82-s.level).toNat s.level s.sums s.levels) (K:=λ_ s' v=>s'.levels=v) (λs hI=>by
  have hr:=aaB s hI
  have hs:=nJ (O:=KK s) (rows:=s.BB) (gs:=s.Aw) (alive:=s.BA) (most:=s.most) (level:=s.level) s.order (s.sums,s.levels,false)
  obtain ⟨⟨h0,h1⟩,h2,h3,hT,hS⟩:=hI;rw [<-hr] at hs
  have hf:(82-s.level).toNat=(81-s.level).toNat+1:=A0
  refine AG (λc1=>?_) (λc1=>?_)
  ·have c1:(HT (Kw s)).some=false:=AA
   show (HT (Kw s)).levels=shl _ _ _ _ _ _ _ _ _ _
   rw [hf,shl,<-hr,AD AA]
  ·have c1:(HT (Kw s)).some=true:=AA
   have h80:s.level<=80:=by
    rcases hs c1 with h|h
    ·cases h
    ·exact h
   rw [AI (x:=s.level+1)]
   show shl (KK s) s.BB s.Aw s.BA s.most s.order (82-(s.level+1)).toNat (s.level+1) (HT (Kw s)).sums (HT (Kw s)).levels=shl (KK s) s.BB s.Aw s.BA s.most s.order (82-s.level).toNat s.level s.sums s.levels
   rw [hf,show 82-(s.level+1)=81-s.level by omega]
   conv=>rhs;rw [shl,<-hr]
   simp only [c1,Bm]) s hE
 rw [hk,hE.1];rfl
structure P2 where
 l:List Ch
 (m k:Int)
 H5:List Cd
 H4:List ByteArray
 Es:List Ko
 Aw:List Ch
 H6:List Ba
 BB:List Rw
 (CI CH CG CF CE CD CC CB CA C9 C8 C7 C6 C5 C3 C2 BA out sums levels:List Int)
def aEq:=bN f147 1
def um (s:P2):T (Rd P2):=letI a:=s.levels.getD s.k.toNat (Ty.dflt A7);letI c:=AH s.l s.k;letI b:=s.out.set s.k.toNat (Dt c.2.2.2.1 c.2.2.2.2.2.1 a);.br (decide (s.k<s.m)) (.ix s.k (s.l.length) (.ik s.k (s.levels.length) (.req ((1<=c.2.2.2.1/\c.2.2.2.1<=80/\1<=c.2.2.2.2.2.1/\c.2.2.2.2.2.1<=80)/\0<=a/\a<=1000) (.ik s.k (s.out.length) (.re (s.out.length) b (.rl s.sums (.rl s.levels (.nx {s with k:=A9 (s.k+1),out:=b})))))))) (.rl s.out (.rl s.sums (.rl s.levels (.so (.exit 4) s))))
def gD (s:P2):Prop:=s.k=0/\s.out=List.replicate s.l.length 0/\(s.m=(s.l.length:Int)/\s.m<=1000/\s.levels.length=s.l.length)/\(∀k:Int,0<=k->k<s.m->DX (AH s.l k).2.2.2.1 (AH s.l k).2.2.2.2.1 (AH s.l k).2.2.2.2.2.1=true)/\(∀k:Nat,0<=s.levels.getD k 0/\s.levels.getD k 0<=80)
def Xt (s:P2):Prop:=(0<=s.k/\s.k<=s.m)/\s.out=Rv s.l s.levels s.k.toNat++List.replicate (s.l.length-s.k.toNat) 0/\(s.m=(s.l.length:Int)/\s.m<=1000/\s.levels.length=s.l.length)/\(∀k:Int,0<=k->k<s.m->DX (AH s.l k).2.2.2.1 (AH s.l k).2.2.2.2.1 (AH s.l k).2.2.2.2.2.1=true)/\(∀k:Nat,0<=s.levels.getD k 0/\s.levels.getD k 0<=80)
def rZ (s:P2):Nat:=(s.m-s.k).toNat
def zk (x:Ex) (s s':P2):Prop:=x=.exit 4/\s'.out=FA s'.l s'.levels
def aik:∀s,gD s->Xt s:=by
 exact aLT
def aui:Da Xt rZ zk um:=by
 intro s hI;obtain ⟨⟨h0,h1⟩,h2,⟨h3,h4,h5⟩,h6,h7⟩:=hI;refine AG (λc1=>?_) (λc1=>?_)
 ·have c1:s.k<s.m:=AA
  rw [AI (x:=s.k+1)];refine ⟨⟨⟨AA,AA⟩,?_,⟨h3,h4,h5⟩,h6,h7⟩,by simp only [rZ];omega⟩
  have e:s.l.length-s.k.toNat=(s.l.length-(s.k+1).toNat)+1:=A0
  have hs:=aG7 (xs:=Rv s.l s.levels s.k.toNat) (r:=s.l.length-(s.k+1).toNat) (v:=Cv s.l s.k (s.levels.getD s.k.toNat 0))
  rw [adQ] at hs;rw [h2,e,show (s.k+1).toNat=s.k.toNat+1 by omega,ag8,BQ h0]
  rw [show (s.k+1).toNat=s.k.toNat+1 by omega] at hs
  exact hs
 ·have c1:s.m<=s.k:=AA
  refine ⟨rfl,?_⟩;rw [h2,show s.k.toNat=s.l.length by omega,jQ,List.replicate_zero,FJ]
  rfl
def Ns:AS P2:=⟨0,129,[14,19,108,109,110],[],λs=>[.own 0 0,.os 1 1 0 (s.out.length),s.l,s.m,s.k],λs=>[⟨[s.H5,s.H4,s.Es,s.Aw,s.H6,.xl Ec s.BB,.xl A7 s.CI,.xl A7 s.CH,.xl A7 s.CG,.xl A7 s.CF,.xl A7 s.CE,.xl A7 s.CD,.xl A7 s.CC,.xl A7 s.CB,.xl A7 s.CA,.xl A7 s.C9,.xl A7 s.C8,.xl A7 s.C7,.xl A7 s.C6,.xl A7 s.C5,.xl A7 s.C3,.xl A7 s.C2,.os 2 1 0 (s.sums.length),.xl A7 s.BA,.os 3 1 0 (s.levels.length)],306,.cl,false⟩,bV 3 A7 s.out,bV 3 A7 s.sums,bV 3 A7 s.levels],λv b=>⟨Az Au v 2,AK v 3,AK v 4,AF Ao b 0 0,AF .str b 0 1,AF B8 b 0 2,AF Au b 0 3,AF B9 b 0 4,AF Ec b 0 5,AF A7 b 0 6,AF A7 b 0 7,AF A7 b 0 8,AF A7 b 0 9,AF A7 b 0 10,AF A7 b 0 11,AF A7 b 0 12,AF A7 b 0 13,AF A7 b 0 14,AF A7 b 0 15,AF A7 b 0 16,AF A7 b 0 17,AF A7 b 0 18,AF A7 b 0 19,AF A7 b 0 20,AF A7 b 0 21,AF A7 b 0 23,Ab A7 b 1,Ab A7 b 2,Ab A7 b 3⟩,um,λs r=> {s with k:=r.k,out:=r.out},λs=>s,λ_ s=>s,[.exit 4],gD,Xt,rZ⟩
abbrev Pl:=Ns.run
abbrev aqH:=Ns.Am
def avw:Rq Xt um:=by
 intro s hI;refine ⟨λc1=>⟨?_,?_,?_,?_,?_,?_,?_,A8,A8,trivial⟩,λc1=>⟨A8,A8,A8,trivial⟩⟩
 iterate 3 · (obtain ⟨⟨h0,h1⟩,h2,⟨h3,h4,h5⟩,h6,h7⟩:=hI;(try simp only [AY] at c1);have hl:s.out.length=s.l.length:=aNE;first|omega|exact ⟨rfl,AJ⟩ |exact ⟨rfl,rfl⟩)
 ·(have hh:=I6.1 (hI.2.2.2.1 s.k hI.1.1 AA);have hb:=hI.2.2.2.2 s.k.toNat;refine ⟨A0,?_⟩;show 0<=s.levels.getD s.k.toNat 0/\s.levels.getD s.k.toNat 0<=1000;omega)
 iterate 3 · (obtain ⟨⟨h0,h1⟩,h2,⟨h3,h4,h5⟩,h6,h7⟩:=hI;(try simp only [AY] at c1);have hl:s.out.length=s.l.length:=aNE;first|omega|exact ⟨rfl,AJ⟩ |exact ⟨rfl,rfl⟩)
def aOw:Ns.Ok:={}
def aOW:Ns.Pf (zk):=⟨aik,λs h=>rfl,aui,avw⟩
def ang:SA 0 aEq Ns:=s1 aOw aOW XQ zA
def aop:Fi gD Xt zk aqH Pl:=AS.fin aOw aOW
def aHU:List LV->T LV
 | .agg a::r=>s5 a λcs os ks gs bs=>(match r with
  | [.xl (.int .i64) al,.xl (.int .i64) mo,.xl (.int .i64) od]=> .ok (.AM [.xl A7 (Fa cs os ks gs bs al mo od),Mp cs os ks gs bs al mo od])
  |_=> .no)
 |_=> .no
def N0 (cs:List Cd) (os:List ByteArray) (ks:List Ko) (gs:List Ch) (bs:List Ba) (al mo od:List Int):E0:=letI a:=JQ cs os ks gs bs;(⟨al,a,(List.length a:Int),0,cs,os,ks,gs,bs,cs,os,ks,gs,bs,a,al,([]:List Int),([]:List Int),([]:List Int),([]:List Int),([]:List Int),([]:List Int),([]:List Int),([]:List Int),([]:List Int),([]:List Int),([]:List Int),([]:List Int),([]:List Int),([]:List Int),([]:List Int),([]:List Int),List.replicate (List.length a:Int).toNat (0:Int),List.replicate (al.length:Int).toNat (0:Int)⟩:E0)
def Kv (cs:List Cd) (os:List ByteArray) (ks:List Ko) (gs:List Ch) (bs:List Ba) (al mo od:List Int):Ir:=letI a:=IV (N0 cs os ks gs bs al mo od);(⟨mo,od,(gs.length:Int),1,cs,os,ks,gs,bs,cs,os,ks,gs,bs,JQ cs os ks gs bs,(a.CI.drop 0).take (List.length a.CI),(a.CH.drop 0).take (List.length a.CH),(a.CG.drop 0).take (List.length a.CG),(a.CF.drop 0).take (List.length a.CF),(a.CE.drop 0).take (List.length a.CE),(a.CD.drop 0).take (List.length a.CD),(a.CC.drop 0).take (List.length a.CC),(a.CB.drop 0).take (List.length a.CB),(a.CA.drop 0).take (List.length a.CA),(a.C9.drop 0).take (List.length a.C9),(a.C8.drop 0).take (List.length a.C8),(a.C7.drop 0).take (List.length a.C7),(a.C6.drop 0).take (List.length a.C6),(a.C5.drop 0).take (List.length a.C5),(a.C3.drop 0).take (List.length a.C3),(a.C2.drop 0).take (List.length a.C2),al,a.sums,List.replicate (al.length:Int).toNat (0:Int)⟩:Ir)
def aAx (cs:List Cd) (os:List ByteArray) (ks:List Ko) (gs:List Ch) (bs:List Ba) (al mo od:List Int):P2:=letI a:=IV (N0 cs os ks gs bs al mo od);letI b:=Ig (Kv cs os ks gs bs al mo od);(⟨gs,(gs.length:Int),0,cs,os,ks,gs,bs,JQ cs os ks gs bs,(a.CI.drop 0).take (List.length a.CI),(a.CH.drop 0).take (List.length a.CH),(a.CG.drop 0).take (List.length a.CG),(a.CF.drop 0).take (List.length a.CF),(a.CE.drop 0).take (List.length a.CE),(a.CD.drop 0).take (List.length a.CD),(a.CC.drop 0).take (List.length a.CC),(a.CB.drop 0).take (List.length a.CB),(a.CA.drop 0).take (List.length a.CA),(a.C9.drop 0).take (List.length a.C9),(a.C8.drop 0).take (List.length a.C8),(a.C7.drop 0).take (List.length a.C7),(a.C6.drop 0).take (List.length a.C6),(a.C5.drop 0).take (List.length a.C5),(a.C3.drop 0).take (List.length a.C3),(a.C2.drop 0).take (List.length a.C2),al,List.replicate (gs.length:Int).toNat (0:Int),b.sums,b.levels⟩:P2)
def yy:List Bd:=[We,Wv,Wu,Ww]
def akf:As:=kI yy (la 8 func188 qm (la 2 func184 oJ (la 3 func186 cE (la 2 func184 WG (l0 yy)))))
def aIt:=vm (S:=aHU) func147 yy akf (L:=(λi=>if i=11 then PD.lp else if i=21 then Ns.lp else Af i)) (λb hb=>by
 rw [show B6 _=[pG,aEq] by kernel_rfl] at hb
 simp only [B1,Bv,Bw] at hb;rcases hb with rfl|rfl
 ·exact aoq
 ·exact ang) (λargs lv h=>by
 unfold aHU at h;split at h
 case h_2=>cases h
 replace h:=I8 h
 obtain ⟨cs,os,ks,gs,bs,rfl,h⟩:=h;split at h
 ·rename_i al mo od
  refine Aj (letI b:=aAx cs os ks gs bs al mo od;letI d:=(List.length (JQ cs os ks gs bs):Int);letI g:=Kv cs os ks gs bs al mo od;letI j:=(gs.length:Int);letI l:=(al.length:Int);letI n:=((Pl b).out.drop 0).take (List.length (Pl b).out);letI o:=N0 cs os ks gs bs al mo od;letI s:=(List.replicate d.toNat (0:Int));letI t:=(List.replicate j.toNat (0:Int));letI u:=(mo.length:Int);letI w:=(Bo (bw (⟨false,mo,u,0,cs,os,ks,gs,bs⟩:Im)) (.ret));letI x:=(TY.q (⟨false,mo,u,0,cs,os,ks,gs,bs⟩:Im));letI y:=(bx (⟨false,mo,u,0,cs,os,ks,gs,bs⟩:Im));letI z:=j<=1000;letI a:=IV o;letI f:=(List.replicate l.toNat (0:Int));.br ((O0 cs os ks gs bs) !=0) (.ok (.AM [.xl A7 ([]:List Int),(1:Int)])) (.br (l !=j) (.ok (.AM [.xl A7 ([]:List Int),(1:Int)])) (.br (u !=j) (.ok (.AM [.xl A7 ([]:List Int),(1:Int)])) (.req (TY.q (⟨false,al,l,0,cs,os,ks,gs,bs⟩:Im)) (.br (Bo (bw (⟨false,al,l,0,cs,os,ks,gs,bs⟩:Im)) (.ret)) (.br (!(bx (⟨false,al,l,0,cs,os,ks,gs,bs⟩:Im)).r) (.ok (.AM [.xl A7 ([]:List Int),(1:Int)])) (.req x (.br w (.br (! y.r) (.ok (.AM [.xl A7 ([]:List Int),(1:Int)])) (.req z (.br (!(GO od j)) (.ok (.AM [.xl A7 ([]:List Int),(1:Int)])) (.rm 8 d (.rm 8 l (.r0 Int (.r0 Int (.r0 Int (.r0 Int (.r0 Int (.r0 Int (.r0 Int (.r0 Int (.r0 Int (.r0 Int (.r0 Int (.r0 Int (.r0 Int (.r0 Int (.r0 Int (.r0 Int (.re d.toNat s (.re l.toNat f (.req (Oy.q o) (.rz a.CI (.rz a.CH (.rz a.CG (.rz a.CF (.rz a.CE (.rz a.CD (.rz a.CC (.rz a.CB (.rz a.CA (.rz a.C9 (.rz a.C8 (.rz a.C7 (.rz a.C6 (.rz a.C5 (.rz a.C3 (.rz a.C2 (.rl a.sums (.rl f (.req (PD.q g) (.rm 8 j (.re j.toNat t (.rl (Ig g).sums (.rl (Ig g).levels (.req (Ns.q b) (.rz (Pl b).out (.ok (.AM [.xl A7 n,(0:Int)]))))))))))))))))))))))))))))))))))))))))))))))))))) (.br (!true) (.ok (.AM [.xl A7 ([]:List Int),(1:Int)])) (.req z (.br (!(GO od j)) (.ok (.AM [.xl A7 ([]:List Int),(1:Int)])) (.rm 8 d (.rm 8 l (.r0 Int (.r0 Int (.r0 Int (.r0 Int (.r0 Int (.r0 Int (.r0 Int (.r0 Int (.r0 Int (.r0 Int (.r0 Int (.r0 Int (.r0 Int (.r0 Int (.r0 Int (.r0 Int (.re d.toNat s (.re l.toNat f (.req (Oy.q o) (.rz a.CI (.rz a.CH (.rz a.CG (.rz a.CF (.rz a.CE (.rz a.CD (.rz a.CC (.rz a.CB (.rz a.CA (.rz a.C9 (.rz a.C8 (.rz a.C7 (.rz a.C6 (.rz a.C5 (.rz a.C3 (.rz a.C2 (.rl a.sums (.rl f (.req (PD.q g) (.rm 8 j (.re j.toNat t (.rl (Ig g).sums (.rl (Ig g).levels (.req (Ns.q b) (.rz (Pl b).out (.ok (.AM [.xl A7 n,(0:Int)])))))))))))))))))))))))))))))))))))))))))))))))))))))) (.br (!true) (.ok (.AM [.xl A7 ([]:List Int),(1:Int)])) (.req x (.br w (.br (! y.r) (.ok (.AM [.xl A7 ([]:List Int),(1:Int)])) (.req z (.br (!(GO od j)) (.ok (.AM [.xl A7 ([]:List Int),(1:Int)])) (.rm 8 d (.rm 8 l (.r0 Int (.r0 Int (.r0 Int (.r0 Int (.r0 Int (.r0 Int (.r0 Int (.r0 Int (.r0 Int (.r0 Int (.r0 Int (.r0 Int (.r0 Int (.r0 Int (.r0 Int (.r0 Int (.re d.toNat s (.re l.toNat f (.req (Oy.q o) (.rz a.CI (.rz a.CH (.rz a.CG (.rz a.CF (.rz a.CE (.rz a.CD (.rz a.CC (.rz a.CB (.rz a.CA (.rz a.C9 (.rz a.C8 (.rz a.C7 (.rz a.C6 (.rz a.C5 (.rz a.C3 (.rz a.C2 (.rl a.sums (.rl f (.req (PD.q g) (.rm 8 j (.re j.toNat t (.rl (Ig g).sums (.rl (Ig g).levels (.req (Ns.q b) (.rz (Pl b).out (.ok (.AM [.xl A7 n,(0:Int)]))))))))))))))))))))))))))))))))))))))))))))))))))) (.br (!true) (.ok (.AM [.xl A7 ([]:List Int),(1:Int)])) (.req z (.br (!(GO od j)) (.ok (.AM [.xl A7 ([]:List Int),(1:Int)])) (.rm 8 d (.rm 8 l (.r0 Int (.r0 Int (.r0 Int (.r0 Int (.r0 Int (.r0 Int (.r0 Int (.r0 Int (.r0 Int (.r0 Int (.r0 Int (.r0 Int (.r0 Int (.r0 Int (.r0 Int (.r0 Int (.re d.toNat s (.re l.toNat f (.req (Oy.q o) (.rz a.CI (.rz a.CH (.rz a.CG (.rz a.CF (.rz a.CE (.rz a.CD (.rz a.CC (.rz a.CB (.rz a.CA (.rz a.C9 (.rz a.C8 (.rz a.C7 (.rz a.C6 (.rz a.C5 (.rz a.C3 (.rz a.C2 (.rl a.sums (.rl f (.req (PD.q g) (.rm 8 j (.re j.toNat t (.rl (Ig g).sums (.rl (Ig g).levels (.req (Ns.q b) (.rz (Pl b).out (.ok (.AM [.xl A7 n,(0:Int)]))))))))))))))))))))))))))))))))))))))))))))))))))))))))))) ?_;obtain rfl:=h
  have err:G1 cs os ks gs bs al mo od=false->LV.AM [.xl A7 ([]:List Int),.v (.int .i64 1)]=LV.AM [.xl A7 (Fa cs os ks gs bs al mo od),.v (.int .i64 (Mp cs os ks gs bs al mo od))]:=λh=>by
   unfold Fa Mp;rw [h];rfl
  have no_:∀ {p:Prop},¬p->(G1 cs os ks gs bs al mo od=true->p)->G1 cs os ks gs bs al mo od=false:=λh1 h2=>by
   rw [Hz];exact λh=>h1 (h2 h)
  refine ⟨λc=>err (no_ (p:=BF cs os ks gs bs=true) (λh=>?_) (λh=>(Ky.1 h).1)),λc=>?_⟩
  ·unfold O0 at c
   rw [h] at c
   simp at c
  have hv:BF cs os ks gs bs=true:=by
   cases e:BF cs os ks gs bs with
   |true=>rfl
   |false=>unfold O0 at c;rw [e] at c;simp at c
  have hl:=(D9.1 hv).1
  refine ⟨λc2=>err (no_ (p:=al.length=gs.length) (by simp at c2;omega) (λh=>(Ky.1 h).2.1)),λc2=>?_⟩
  refine ⟨λc3=>err (no_ (p:=mo.length=gs.length) kM (λh=>(Ky.1 h).2.2.1)),λc3=>?_⟩
  have c2:al.length=gs.length:=by simp at c2;omega
  have c3:mo.length=gs.length:=kM
  refine LQ ⟨⟨rfl,AP,AP,rfl⟩,rfl,rfl⟩ (λhE1=>?_)
  rcases aH2 _ hE1.1 with ⟨q1,q2⟩ |⟨q1,q2,q3⟩
  rotate_left
  ·rw [q1,q2]
   refine ⟨λ_=>⟨λ_=>err (no_ (p:=al.all Hd=true) (by have q3:al.all Hd=false:=q3;rw [q3];simp) (λh=>(Ky.1 h).2.2.2.1)),λh=>Ah⟩,λh=>Ah⟩
  rw [q1];refine ⟨λh=>Ah,λ_=>⟨λh=>Ah,λ_=>?_⟩⟩
  have q2:al.all Hd=true:=q2
  refine LQ ⟨⟨rfl,AP,AP,rfl⟩,rfl,rfl⟩ (λhE2=>?_)
  rcases aH2 _ hE2.1 with ⟨p1,p2⟩ |⟨p1,p2,p3⟩
  rotate_left
  ·rw [p1,p2]
   refine ⟨λ_=>⟨λ_=>err (no_ (p:=mo.all Hd=true) (by have p3:mo.all Hd=false:=p3;rw [p3];simp) (λh=>(Ky.1 h).2.2.2.2.1)),λh=>Ah⟩,λh=>Ah⟩
  rw [p1];refine ⟨λh=>Ah,λ_=>⟨λh=>Ah,λ_=>?_⟩⟩
  have p2:mo.all Hd=true:=p2
  refine ⟨A0,λc4=>err (no_ (p:=GO od (gs.length:Int)=true) (by simp at c4;rw [c4];simp) (λh=>(Ky.1 h).2.2.2.2.2)),λc4=>?_⟩
  have c4:GO od (gs.length:Int)=true:=yL
  have hok:G1 cs os ks gs bs al mo od=true:=Ky.2 ⟨hv,c2,c3,q2,p2,c4⟩
  obtain ⟨hT,hS⟩:=ajs hok
  have er:JQ cs os ks gs bs=DJ cs gs cs.length:=by unfold JQ;rw [AE hv]
  have hrl:=nB (cs:=cs) (gs:=gs) (k:=cs.length)
  have hod:od.length=gs.length:=by
   unfold GO at c4;simp only [AU,AY] at c4;omega
  have hrn:(List.length (JQ cs os ks gs bs):Int)<=1000:=by rw [er];omega
  refine ⟨A0,A0,A8,A8,A8,A8,A8,A8,A8,A8,A8,A8,A8,A8,A8,A8,A8,A8,⟨rfl,AJ⟩,⟨rfl,AJ⟩,?_⟩
  have hN:U5 (N0 cs os ks gs bs al mo od):=by
   refine ⟨rfl,λo ho=>?_,rfl,rfl,hrn,λr hr=>?_,hT.al,by show List.length (List.replicate _ _)=List.length (JQ cs os ks gs bs);simp⟩
   ·simpa [FT,N0] using ho
   ·have hr:r∈DJ cs gs cs.length:=by rw [<-er];exact hr
    obtain ⟨m1,m2,m3,m4⟩:=row_mem hr;refine ⟨A0,λm hm=>?_⟩
    have:=m2 m hm
    show 0<=m/\m<16/\m<(al.length:Int)
    omega
  obtain ⟨nr1,nr2⟩:=apg _ hN
  have nr1:FT (IV (N0 cs os ks gs bs al mo od))=OL (DJ cs gs cs.length):=by rw [nr1,<-er];rfl
  have nr2:(IV (N0 cs os ks gs bs al mo od)).sums=SM al (DJ cs gs cs.length):=by rw [nr2,<-er];rfl
  refine ⟨⟨hN,rfl,rfl⟩,A0,A0,A0,A0,A0,A0,A0,A0,A0,A0,A0,A0,A0,A0,A0,A0,A8,A8,?_⟩
  have eO:KK (Kv cs os ks gs bs al mo od)=FT (IV (N0 cs os ks gs bs al mo od)):=by
   unfold KK FT Kv;simp only [CJ,Dv]
  have hSh:gE (Kv cs os ks gs bs al mo od):=by
   refine ⟨rfl,by show (od.length:Int)<=1000;omega,rfl,?_,?_⟩
   ·show OkT (KK (Kv cs os ks gs bs al mo od)) (JQ cs os ks gs bs) gs al mo od
    rw [eO,nr1,er];exact hT
   ·show OkS (JQ cs os ks gs bs) od (IV (N0 cs os ks gs bs al mo od)).sums _
    rw [nr2,er];exact hS
  have sr:=aoE _ hSh
  have sr:(Ig (Kv cs os ks gs bs al mo od)).levels=shV (DJ cs gs cs.length) gs al mo od:=by
   rw [sr]
   show shl (KK (Kv cs os ks gs bs al mo od)) (JQ cs os ks gs bs) gs al mo od 81 1 (IV (N0 cs os ks gs bs al mo od)).sums _=_
   rw [eO,nr1,nr2,er];rfl
  obtain ⟨sl,sb⟩:=aJ3 hT 81 1 _ _ A0 A0 hS;refine ⟨⟨hSh,rfl,rfl⟩,A0,⟨rfl,AJ⟩,A8,A8,?_⟩
  have hX:gD (aAx cs os ks gs bs al mo od):=by
   refine ⟨rfl,rfl,⟨rfl,xa,?_⟩,λk h0 h1=>?_,?_⟩
   ·show (Ig (Kv cs os ks gs bs al mo od)).levels.length=gs.length
    rw [sr];exact sl.trans (by rw [CR];exact c2)
   ·have:=Pr hv h0 h1
    unfold Ga chW at this;simp only [AU,CU] at this
    show DX (AH gs k).2.2.2.1 (AH gs k).2.2.2.2.1 (AH gs k).2.2.2.2.2.1=true
    exact I6.2 A0
   ·show ∀k:Nat,0<=(Ig (Kv cs os ks gs bs al mo od)).levels.getD k 0/\(Ig (Kv cs os ks gs bs al mo od)).levels.getD k 0<=80
    rw [sr];exact sb
  refine ⟨⟨hX,rfl,rfl⟩,A0,?_⟩;obtain ⟨s',_,_,x2⟩:=aop _ hX
  have x2:(Pl (aAx cs os ks gs bs al mo od)).out=FA gs (Ig (Kv cs os ks gs bs al mo od)).levels:=x2
  show LV.AM [LV.xl _ _,_]=_
  rw [CJ,Dv,x2,sr];unfold Fa Mp;rw [AE hok,AE hok]
 ·cases h)
structure Oo where
 m:List Ch
 (k i:Int)
 out:List Int
def aEb:=bN f146 0
def vh (s:Oo):T (Rd Oo):=letI a:=s.out.set s.i.toNat (AH s.m s.i).2.2.2.2.2.2.1;.br (decide (s.i<s.k)) (.ix s.i (s.m.length) (.ik s.i (s.out.length) (.re (s.out.length) a (.nx {s with i:=A9 (s.i+1),out:=a})))) (.rl s.out (.so (.exit 0) s))
def iE (s:Oo):Prop:=s.i=0/\s.k=(s.m.length:Int)/\s.k<=1000/\s.out.length=s.m.length/\(∀j,0<=j->j<s.k->gi s.out j=0)/\True
def Yx (s:Oo):Prop:=(0<=s.i/\s.i<=s.k)/\s.k=(s.m.length:Int)/\s.k<=1000/\s.out.length=s.m.length/\(∀j,0<=j->j<s.k->gi s.out j=if j<s.i then Cq (AH s.m j) else 0)/\True
def tX (s:Oo):Nat:=(s.k-s.i).toNat
def za (x:Ex) (s s':Oo):Prop:=x=.exit 0/\s'.out=Gv s'.m.length (λj=>Cq (AH s'.m j))
def alJ:∀s,iE s->Yx s:=by
 exact VE
def azQ:Da Yx tX za vh:=by
 intro s hI;obtain ⟨⟨h0,h1⟩,h2,h3,h4,h5,h6⟩:=hI;refine AG (λc1=>?_) (λc1=>?_)
 ·have c1:s.i<s.k:=AO
  rw [AI (x:=s.i+1)];refine ⟨⟨⟨AA,AA⟩,h2,h3,AA,λj j0 j1=>?_,h6⟩,by simp only [tX];omega⟩
  simp only;rw [K7 h0 A0 j0];exact wj
 ·exact jy
def QW:AS Oo:=⟨0,31,[3,17,18,19],[],λs=>[.os 0 1 0 (s.out.length),s.m,s.k,s.i],λs=>[bV 3 A7 s.out],λv b=>⟨Az Au v 1,AK v 2,AK v 3,Ab A7 b 0⟩,vh,λs r=> {r with m:=s.m,k:=s.k},λs=>s,λ_ s=>s,[.exit 0],iE,Yx,tX⟩
abbrev aBV:=QW.run
abbrev arF:=QW.Am
def aws:Rq Yx vh:=by
 exact wz
def yx:List Bd:=[]
def aPU:QW.Ok:={}
def aP5:QW.Pf (za):=⟨alJ,λs h=>rfl,azQ,aws⟩
def aoe:SA 0 aEb QW:=s1 aPU aP5 yx kN
def asi:Fi iE Yx za arF aBV:=AS.fin aPU aP5
def aIb:List LV->T LV
 | [.xq 9 q0]=>(match ([q0 0,q0 1,q0 2,q0 3,q0 4,q0 5,q0 6,q0 7,q0 8]:List LV) with
  | [.xl (.pair .str (.pair (.int .i64) (.pair (.int .i64) (.pair (.int .i64) (.pair (.pair (.int .i64) (.int .i64)) (.pair (.int .i64) (.pair (.int .i64) (.pair (.int .i64) (.pair (.int .i64) (.int .i64)))))))))) cs,.xl (.str) os,.xl (.pair .str (.pair (.int .i64) (.pair (.int .i64) (.int .i64)))) ks,.xl (.pair .str (.pair (.int .i64) (.pair (.int .i64) (.pair (.int .i64) (.pair (.int .i64) (.pair (.int .i64) (.pair (.int .i64) (.int .i64)))))))) gs,.xl (.pair .str (.int .i64)) bs,.xl (.pair (.int .i64) (.pair (.int .i64) (.pair (.int .i64) (.pair (.int .i64) (.int .i64))))) l,.xl (.pair .bool (.pair (.int .i64) (.pair (.int .i64) (.int .i64)))) d,.v (.int .i64 t),.xl (.int .i64) od]=> .req ((gs.length:Int)<=1000) (.ok (.xl A7 (C4 gs)))
  |_=> .no)
 |_=> .no
def aqh (cs:List Cd) (os:List ByteArray) (ks:List Ko) (gs:List Ch) (bs:List Ba) (l:List Le) (d:List Dm) (t:Int) (od:List Int):letI c:=(gs.length:Int);letI a:=(List.replicate c.toNat (0:Int));letI b:=(aBV (⟨gs,c,(0:Int),a⟩:Oo));Bc prog AT (yx) kN (λi=>if i=3 then QW.lp else Af i) f146 [xQ 9 [cs,os,ks,gs,bs,l,d,t,.xl A7 od]]=.rm 8 c (.re c.toNat a (.req (QW.q (⟨gs,c,(0:Int),a⟩:Oo)) (.rz b.out (.ok (.xl A7 ((b.out.drop 0).take (List.length b.out))))))):=AZ
def auA:=vm (S:=aIb) func146 yx kN (L:=(λi=>if i=3 then QW.lp else Af i)) (λb hb=>by
 rw [show B6 _=[aEb] by kernel_rfl] at hb
 simp only [B1,Bv,Bw] at hb;subst hb;exact aoe) (λargs lv h=>by
 refine ⟨?_⟩;unfold aIb at h;split at h
 ·split at h
  case h_2=>cases h
  rename_i heq0;simp only [canL,canX];rw [Dn (n:=9) heq0];simp only [canL,canX];rw [aqh];rename_i cs os ks gs bs l d t od;obtain ⟨hn,rfl⟩:=h
  have hE:iE ⟨gs,(gs.length:Int),0,List.replicate (gs.length:Int).toNat 0⟩:=⟨rfl,rfl,hn,AJ,λj _ _=>NI,trivial⟩
  obtain ⟨_,_,q1,q2⟩:=asi _ hE
  have q2:(aBV ⟨gs,(gs.length:Int),0,List.replicate (gs.length:Int).toNat 0⟩).out=C4 gs:=q2
  refine ⟨A0,⟨rfl,AJ⟩,⟨hE,rfl,rfl⟩,A0,?_⟩
  show LV.xl _ _=_
  rw [CJ,Dv,q2]
 ·cases h)
structure Oa where
 cs:List Cd
 os:List ByteArray
 ks:List Ko
 gs:List Ch
 bs:List Ba
 l:List Le
 d:List Dm
 t:Int
 od:List Int
 m:List Ch
 (k i:Int)
 wanted:List Int
def aEY:=bN f145 0
def eQ (s:Oa):T (Rd Oa):=letI a:=s.wanted.set s.i.toNat (AH s.m s.i).2.2.2.2.1;.br (decide (s.i<s.k)) (.ix s.i (s.m.length) (.ix s.i (s.d.length) (.br (Dq s.d s.i).1 (.ik s.i (s.wanted.length) (.re (s.wanted.length) a (.nx {s with i:=A9 (s.i+1),wanted:=a}))) (.rl s.wanted (.nx {s with i:=A9 (s.i+1)}))))) (.rl s.wanted (.so (.exit 0) s))
def hM (s:Oa):Prop:=s.i=0/\s.k=(s.m.length:Int)/\s.k<=1000/\s.wanted.length=s.m.length/\(∀j,0<=j->j<s.k->gi s.wanted j=0)/\s.d.length=s.m.length
def Yu (s:Oa):Prop:=(0<=s.i/\s.i<=s.k)/\s.k=(s.m.length:Int)/\s.k<=1000/\s.wanted.length=s.m.length/\(∀j,0<=j->j<s.k->gi s.wanted j=if j<s.i then if (Dq s.d j).1=true then (AH s.m j).2.2.2.2.1 else 0 else 0)/\s.d.length=s.m.length
def dY (s:Oa):Nat:=(s.k-s.i).toNat
def zX (x:Ex) (s s':Oa):Prop:=x=.exit 0/\s'.wanted=Gv s'.m.length (λj=>if (Dq s'.d j).1=true then (AH s'.m j).2.2.2.2.1 else 0)
def al9:∀s,hM s->Yu s:=by
 exact VE
def azw:Da Yu dY zX eQ:=by
 intro s hI;unfold eQ;obtain ⟨⟨h0,h1⟩,h2,h3,h4,h5,h6⟩:=hI;refine AG (λc1=>?_) (λc1=>?_)
 ·refine AG (λc2=>?_) (λc2=>?_)
  ·have c1:s.i<s.k:=AO
   rw [AI (x:=s.i+1)];refine ⟨⟨⟨AP,AP⟩,h2,h3,AA,λj j0 j1=>?_,h6⟩,by simp only [dY];omega⟩
   simp only;rw [K7 h0 aE j0]
   by_cases e:j=s.i
   ·subst e
    grind
   ·exact xP
  ·have c1:s.i<s.k:=AO
   rw [AI (x:=s.i+1)];refine ⟨⟨⟨AP,AP⟩,h2,h3,h4,λj j0 j1=>?_,h6⟩,by simp only [dY];omega⟩
   simp only;rw [h5 j j0 j1]
   by_cases e:j=s.i
   ·subst e
    grind
   ·by_cases q:j<s.i
    ·omega
    ·omega
 ·exact xS
def QT:AS Oa:=⟨0,53,[0,4,18,19,20],[],λs=>[xQ 9 [s.cs,s.os,s.ks,s.gs,s.bs,s.l,s.d,s.t,.xl A7 s.od],.os 0 1 0 (s.wanted.length),s.m,s.k,s.i],λs=>[bV 3 A7 s.wanted],λv b=>⟨Ai Ao (BM (v.getD 0 .junk) 0),Ai .str (BM (v.getD 0 .junk) 1),Ai B8 (BM (v.getD 0 .junk) 2),Ai Au (BM (v.getD 0 .junk) 3),Ai B9 (BM (v.getD 0 .junk) 4),Ai AX (BM (v.getD 0 .junk) 5),Ai BO (BM (v.getD 0 .junk) 6),gI (BM (v.getD 0 .junk) 7),Ai A7 (BM (v.getD 0 .junk) 8),Az Au v 2,AK v 3,AK v 4,Ab A7 b 0⟩,eQ,λs r=> {s with i:=r.i,wanted:=r.wanted},λs=>s,λ_ s=>s,[.exit 0],hM,Yu,dY⟩
abbrev aB9:=QT.run
abbrev ar8:=QT.Am
def avK:Rq Yu eQ:=by
 intro s hI;refine ⟨λc1=>⟨?_,?_,λc2=>⟨?_,?_,?_,trivial⟩,λc2=>⟨A8,trivial⟩⟩,λc1=>⟨A8,trivial⟩⟩
 all_goals ((obtain ⟨⟨h0,h1⟩,h2,h3,h4,h5,h6⟩:=hI;(try simp only [AY] at c1);first|omega|exact ⟨rfl,AJ⟩ |(omega)))
def yw:List Bd:=[auA,aIt]
def aPO:QT.Ok:={}
def aNp:QT.Pf (zX):=⟨al9,λs h=>rfl,azw,avK⟩
def aoY:SA 0 aEY QT:=s1 aPO aNp yw kN
def aqz:Fi hM Yu zX ar8 aB9:=AS.fin aPO aNp
def aIW:List LV->T LV
 | [.xq 9 q0]=>(match ([q0 0,q0 1,q0 2,q0 3,q0 4,q0 5,q0 6,q0 7,q0 8]:List LV) with
  | [.xl (.pair .str (.pair (.int .i64) (.pair (.int .i64) (.pair (.int .i64) (.pair (.pair (.int .i64) (.int .i64)) (.pair (.int .i64) (.pair (.int .i64) (.pair (.int .i64) (.pair (.int .i64) (.int .i64)))))))))) cs,.xl (.str) os,.xl (.pair .str (.pair (.int .i64) (.pair (.int .i64) (.int .i64)))) ks,.xl (.pair .str (.pair (.int .i64) (.pair (.int .i64) (.pair (.int .i64) (.pair (.int .i64) (.pair (.int .i64) (.pair (.int .i64) (.int .i64)))))))) gs,.xl (.pair .str (.int .i64)) bs,.xl (.pair (.int .i64) (.pair (.int .i64) (.pair (.int .i64) (.pair (.int .i64) (.int .i64))))) l,.xl (.pair .bool (.pair (.int .i64) (.pair (.int .i64) (.int .i64)))) d,.v (.int .i64 t),.xl (.int .i64) od]=> .req ((gs.length:Int)<=1000/\d.length=gs.length) (.ok (.AM [.xl A7 (Fa cs os ks gs bs (C4 gs) (Ip gs d) od),Mp cs os ks gs bs (C4 gs) (Ip gs d) od]))
  |_=> .no)
 |_=> .no
def apX (cs:List Cd) (os:List ByteArray) (ks:List Ko) (gs:List Ch) (bs:List Ba) (l:List Le) (d:List Dm) (t:Int) (od:List Int):letI b:=(gs.length:Int);letI c:=(List.replicate b.toNat (0:Int));letI a:=(aB9 (⟨cs,os,ks,gs,bs,l,d,t,od,gs,b,(0:Int),c⟩:Oa));letI e:=(a.wanted.drop 0).take (List.length a.wanted);Bc prog AT (yw) kN (λi=>if i=3 then QT.lp else Af i) f145 [xQ 9 [cs,os,ks,gs,bs,l,d,t,.xl A7 od]]=.rm 8 b (.re b.toNat c (.req (QT.q (⟨cs,os,ks,gs,bs,l,d,t,od,gs,b,(0:Int),c⟩:Oa)) (.req (b<=1000) (.rz a.wanted (.ok (.AM [.xl A7 (Fa cs os ks gs bs (C4 gs) e od),Mp cs os ks gs bs (C4 gs) e od])))))):=AZ
def au6:=vm (S:=aIW) func145 yw kN (L:=(λi=>if i=3 then QT.lp else Af i)) (λb hb=>by
 rw [show B6 _=[aEY] by rfl] at hb
 simp only [B1,Bv,Bw] at hb;subst hb;exact aoY) (λargs lv h=>by
 refine ⟨?_⟩;unfold aIW at h;split at h
 ·split at h
  case h_2=>cases h
  rename_i heq0;simp only [canL,canX];rw [Dn (n:=9) heq0];simp only [canL,canX];rw [apX];rename_i cs os ks gs bs l d t od;obtain ⟨⟨hn,hd⟩,rfl⟩:=h
  have hE:hM ⟨cs,os,ks,gs,bs,l,d,t,od,gs,(gs.length:Int),0,List.replicate (gs.length:Int).toNat 0⟩:=⟨rfl,rfl,hn,AJ,λj _ _=>NI,hd⟩
  obtain ⟨_,_,q1,q2⟩:=aqz _ hE
  have q2:(aB9 ⟨cs,os,ks,gs,bs,l,d,t,od,gs,(gs.length:Int),0,List.replicate (gs.length:Int).toNat 0⟩).wanted=Ip gs d:=q2
  refine ⟨A0,⟨rfl,AJ⟩,⟨hE,rfl,rfl⟩,hn,A0,?_⟩
  show LV.AM [LV.xl _ _,_]=_
  grind
 ·cases h)
structure OX where
 m:List Ch
 (k i:Int)
 out:List Int
def vf (s:OX):T (Rd OX):=letI a:=s.out.set s.i.toNat (AH s.m s.i).2.2.2.2.2.2.1;.br (decide (s.i<s.k)) (.ix s.i (s.m.length) (.ik s.i (s.out.length) (.re (s.out.length) a (.nx {s with i:=A9 (s.i+1),out:=a})))) (.rl s.out (.so (.exit 0) s))
def iD (s:OX):Prop:=s.i=0/\s.k=(s.m.length:Int)/\s.k<=1000/\s.out.length=s.m.length/\(∀j,0<=j->j<s.k->gi s.out j=0)/\True
def Yw (s:OX):Prop:=(0<=s.i/\s.i<=s.k)/\s.k=(s.m.length:Int)/\s.k<=1000/\s.out.length=s.m.length/\(∀j,0<=j->j<s.k->gi s.out j=if j<s.i then Cq (AH s.m j) else 0)/\True
def tW (s:OX):Nat:=(s.k-s.i).toNat
def zZ (x:Ex) (s s':OX):Prop:=x=.exit 0/\s'.out=Gv s'.m.length (λj=>Cq (AH s'.m j))
def alG:∀s,iD s->Yw s:=by
 exact VE
def azM:Da Yw tW zZ vf:=by
 intro s hI;obtain ⟨⟨h0,h1⟩,h2,h3,h4,h5,h6⟩:=hI;refine AG (λc1=>?_) (λc1=>?_)
 ·have c1:s.i<s.k:=AO
  rw [AI (x:=s.i+1)];refine ⟨⟨⟨AA,AA⟩,h2,h3,AA,λj j0 j1=>?_,h6⟩,by simp only [tW];omega⟩
  simp only;rw [K7 h0 aE j0];exact wj
 ·exact jy
def Ye:AS OX:=⟨0,31,[3,17,18,19],[],λs=>[.os 0 1 0 (s.out.length),s.m,s.k,s.i],λs=>[bV 3 A7 s.out],λv b=>⟨Az Au v 1,AK v 2,AK v 3,Ab A7 b 0⟩,vf,λs r=> {r with m:=s.m,k:=s.k},λs=>s,λ_ s=>s,[.exit 0],iD,Yw,tW⟩
abbrev mF:=Ye.run
abbrev arE:=Ye.Am
def QE:List Bd:=[Wi,au6,aIt]
def akY:As:=kI QE (l0 QE)
def awq:Rq Yw vf:=by
 exact wz
def aPT:Ye.Ok:={}
def aP4:Ye.Pf (zZ):=⟨alG,λs h=>rfl,azM,awq⟩
def aoc:=s2 (b:=bN f146 0) aPT aP4 QE akY
def ar6:Fi iD Yw zZ arE mF:=AS.fin aPT aP4
structure OZ where
 cs:List Cd
 os:List ByteArray
 ks:List Ko
 gs:List Ch
 bs:List Ba
 l:List Le
 d:List Dm
 t:Int
 (od targets m:List Int)
 (k i:Int)
 alive:List Int
def aEZ:=bN f100 0
def ve (s:OZ):T (Rd OZ):=letI b:=s.alive.getD s.i.toNat (Ty.dflt A7);letI c:=s.alive.length;letI a:=s.alive.set s.i.toNat (if b<(gi s.m s.i) then (gi s.m s.i) else b);.br (decide (s.i<s.k)) (.ix s.i (s.m.length) (.ik s.i c (.ik s.i c (.re c a (.nx {s with i:=A9 (s.i+1),alive:=a}))))) (.rl s.alive (.so (.exit 0) s))
def iB (s:OZ):Prop:=s.i=0/\s.k=(s.m.length:Int)/\s.k<=1000/\s.alive.length=s.m.length/\(∀j,0<=j->j<s.k->gi s.alive j=Cq (AH s.gs j))/\True
def Yv (s:OZ):Prop:=(0<=s.i/\s.i<=s.k)/\s.k=(s.m.length:Int)/\s.k<=1000/\s.alive.length=s.m.length/\(∀j,0<=j->j<s.k->gi s.alive j=if j<s.i then mx (Cq (AH s.gs j)) (gi s.m j) else Cq (AH s.gs j))/\True
def tU (s:OZ):Nat:=(s.k-s.i).toNat
def zY (x:Ex) (s s':OZ):Prop:=x=.exit 0/\s'.alive=Gv s'.m.length (λj=>mx (Cq (AH s'.gs j)) (gi s'.m j))
def alC:∀s,iB s->Yv s:=by
 exact VE
def azJ:Da Yv tU zY ve:=by
 intro s hI;obtain ⟨⟨h0,h1⟩,h2,h3,h4,h5,h6⟩:=hI;refine AG (λc1=>?_) (λc1=>?_)
 ·have c1:s.i<s.k:=AO
  rw [AI (x:=s.i+1)];refine ⟨⟨⟨AA,AA⟩,h2,h3,AA,λj j0 j1=>?_,h6⟩,by simp only [tU];omega⟩
  simp only
  have hi:=h5 s.i h0 c1
  rw [AD (show ¬s.i<s.i by omega)] at hi
  rw [K7 h0 aE j0]
  by_cases e:j=s.i
  ·subst e
   rw [AE rfl,AE (show s.i<s.i+1 by omega)]
   show mx (gi s.alive s.i) (gi s.m s.i)=_
   rw [hi]
  ·exact xP
 ·exact xS
def QU:AS OZ:=⟨0,71,[0,4,7,41,42,43],[],λs=>[xQ 9 [s.cs,s.os,s.ks,s.gs,s.bs,s.l,s.d,s.t,.xl A7 s.od],.xl A7 s.targets,.os 0 1 0 (s.alive.length),.xl A7 s.m,s.k,s.i],λs=>[bV 3 A7 s.alive],λv b=>⟨Ai Ao (BM (v.getD 0 .junk) 0),Ai .str (BM (v.getD 0 .junk) 1),Ai B8 (BM (v.getD 0 .junk) 2),Ai Au (BM (v.getD 0 .junk) 3),Ai B9 (BM (v.getD 0 .junk) 4),Ai AX (BM (v.getD 0 .junk) 5),Ai BO (BM (v.getD 0 .junk) 6),gI (BM (v.getD 0 .junk) 7),Ai A7 (BM (v.getD 0 .junk) 8),Az A7 v 1,Az A7 v 3,AK v 4,AK v 5,Ab A7 b 0⟩,ve,λs r=> {s with i:=r.i,alive:=r.alive},λs=>s,λ_ s=>s,[.exit 0],iB,Yv,tU⟩
abbrev aBA:=QU.run
abbrev arC:=QU.Am
def avN:Rq Yv ve:=by
 intro s hI;refine ⟨λc1=>⟨?_,?_,?_,?_,?_,?_,trivial⟩,λc1=>⟨A8,trivial⟩⟩
 all_goals ((obtain ⟨⟨h0,h1⟩,h2,h3,h4,h5,h6⟩:=hI;(try simp only [AY] at c1);first|omega|exact ⟨rfl,AJ⟩ |(omega)))
def z8:As:=kI QE (la 3 func146 aoc (l0 QE))
def aPR:QU.Ok:={}
def aNs:QU.Pf (zY):=⟨alC,λs h=>rfl,azJ,avN⟩
def aoZ:SA 0 aEZ QU:=s1 aPR aNs QE z8
def ar4:Fi iB Yv zY arC aBA:=AS.fin aPR aNs
def aIX:List LV->T LV
 | [.xq 9 q0]=>(match ([q0 0,q0 1,q0 2,q0 3,q0 4,q0 5,q0 6,q0 7,q0 8]:List LV) with
  | [.xl (.pair .str (.pair (.int .i64) (.pair (.int .i64) (.pair (.int .i64) (.pair (.pair (.int .i64) (.int .i64)) (.pair (.int .i64) (.pair (.int .i64) (.pair (.int .i64) (.pair (.int .i64) (.int .i64)))))))))) cs,.xl (.str) os,.xl (.pair .str (.pair (.int .i64) (.pair (.int .i64) (.int .i64)))) ks,.xl (.pair .str (.pair (.int .i64) (.pair (.int .i64) (.pair (.int .i64) (.pair (.int .i64) (.pair (.int .i64) (.pair (.int .i64) (.int .i64)))))))) gs,.xl (.pair .str (.int .i64)) bs,.xl (.pair (.int .i64) (.pair (.int .i64) (.pair (.int .i64) (.pair (.int .i64) (.int .i64))))) l,.xl (.pair .bool (.pair (.int .i64) (.pair (.int .i64) (.int .i64)))) d,.v (.int .i64 t),.xl (.int .i64) od]=> .req (d.length=gs.length/\G1 cs os ks gs bs (C4 gs) (Ip gs d) od=true/\LR l (gs.length:Int) t=true/\G1 cs os ks gs bs (Hg gs l t) (Fa cs os ks gs bs (C4 gs) (Ip gs d) od) od=true) (.ok (.AM [.xl A7 (ofO cs os ks gs bs l d t od),(0:Int)]))
  |_=> .no)
 |_=> .no
def aqf (cs:List Cd) (os:List ByteArray) (ks:List Ko) (gs:List Ch) (bs:List Ba) (l:List Le) (d:List Dm) (t:Int) (od:List Int):letI b:=(gs.length:Int);letI c:=(List.replicate b.toNat (0:Int));letI e:=Fa cs os ks gs bs (C4 gs) (Ip gs d) od;letI f:=(mF (⟨gs,b,(0:Int),c⟩:OX));letI h:=Mp cs os ks gs bs (C4 gs) (Ip gs d) od;letI j:=(List.length (Gp l b t):Int);letI a:=(aBA (⟨cs,os,ks,gs,bs,l,d,t,od,e,Gp l b t,j,(0:Int),f.out⟩:OZ));letI g:=(a.alive.drop 0).take (List.length a.alive);Bc prog AT QE z8 (λi=>if i=9 then QU.lp else Af i) f100 [xQ 9 [cs,os,ks,gs,bs,l,d,t,.xl A7 od]]=.req (b<=1000/\d.length=gs.length) (.br (h !=0) (.ok (.AM [.xl A7 ([]:List Int),h])) (.br ((KV l b t) !=0) (.ok (.AM [.xl A7 ([]:List Int),KV l b t])) (.rm 8 b (.re b.toNat c (.req (Ye.q (⟨gs,b,(0:Int),c⟩:OX)) (.rl f.out (.req (QU.q (⟨cs,os,ks,gs,bs,l,d,t,od,e,Gp l b t,j,(0:Int),f.out⟩:OZ)) (.rz a.alive (.ok (.AM [.xl A7 (Fa cs os ks gs bs g e od),Mp cs os ks gs bs g e od])))))))))):=AZ
def au7:=vm (S:=aIX) func100 QE z8 (L:=(λi=>if i=9 then QU.lp else Af i)) (λb hb=>by
 rw [show B6 _=[aEZ] by rfl] at hb
 simp only [B1,Bv,Bw] at hb;subst hb;exact aoZ) (λargs lv h=>by
 refine ⟨?_⟩;unfold aIX at h;split at h
 ·split at h
  case h_2=>cases h
  rename_i heq0;simp only [canL,canX];rw [Dn (n:=9) heq0];simp only [canL,canX];rw [aqf];rename_i cs os ks gs bs l d t od;obtain ⟨⟨hd,hk,hv,hk2⟩,rfl⟩:=h
  have gl:=(D9.1 (Ky.1 hk).1).1.2.2.2.2.1
  have ea:Gp l (gs.length:Int) t=LU gs.length l t:=by unfold Gp;rw [AE hv,Bs]
  rw [aaE hk,show KV l (gs.length:Int) t=0 by unfold KV;rw [AE hv]]
  refine ⟨⟨A0,hd⟩,λc=>absurd c Aa,λ_=>⟨λc=>absurd c Aa,λ_=>?_⟩⟩
  have hE:iD ⟨gs,(gs.length:Int),0,List.replicate (gs.length:Int).toNat 0⟩:=⟨rfl,rfl,AA,AJ,λj _ _=>NI,trivial⟩
  obtain ⟨_,_,q1,q2⟩:=ar6 _ hE
  have hE2:iB ⟨cs,os,ks,gs,bs,l,d,t,od,Fa cs os ks gs bs (C4 gs) (Ip gs d) od,Gp l (gs.length:Int) t,(List.length (Gp l (gs.length:Int) t):Int),0,(mF ⟨gs,(gs.length:Int),0,List.replicate (gs.length:Int).toNat 0⟩).out⟩:=⟨rfl,rfl,by simp only;rw [ea,bn];omega,by simp only;rw [q2,ea,bn];exact Jt,λj j0 j1=>by
   simp only at j1|-;rw [ea,bn] at j1;rw [q2];exact SZ j0 j1,trivial⟩
  obtain ⟨_,_,q3,q4⟩:=ar4 _ hE2
  have q4:(aBA ⟨cs,os,ks,gs,bs,l,d,t,od,Fa cs os ks gs bs (C4 gs) (Ip gs d) od,Gp l (gs.length:Int) t,(List.length (Gp l (gs.length:Int) t):Int),0,(mF ⟨gs,(gs.length:Int),0,List.replicate (gs.length:Int).toNat 0⟩).out⟩).alive=Hg gs l t:=q4.trans (by
   show Gv (Gp l (gs.length:Int) t).length (λj=>mx (Cq (AH gs j)) (gi (Gp l (gs.length:Int) t) j))=_
   rw [ea,bn];rfl)
  refine ⟨A0,⟨rfl,AJ⟩,⟨hE,rfl,rfl⟩,A8,⟨hE2,rfl,rfl⟩,A0,?_⟩;rw [CJ,Dv,q4,aaE hk2];rfl
 ·cases h)
def vS:Array Tmp×Code×Code:=((Ia (f102.body.getD .skip))[0]?).getD (#[],.skip,.skip)
def ai6:Array Tmp:=vS.1
def ajY:Code:=vS.2.1
def ajQ:Code:=vS.2.2
structure Ma where
 i:Int
 cs:List Cd
 os:List ByteArray
 ks:List Ko
 gs:List Ch
 bs:List Ba
 l:List Le
 d:List Dm
 t:Int
 od:List Int
 (c a:Int)
 r:Bool
 m:List Le
 st:LS
def Ti (s:Ma):T (Rd Ma):=
 .br (decide (s.i>=0)) (.ix s.i (s.m.length) (.br ((An s.m s.i).2.1==s.c) (.so (.ret) {s with r:=(((An s.m s.i).2.2.1 !=s.a) ||(decide ((An s.m s.i).2.2.2.1<=(A9 (s.t-6))))),st:=.done (.ret)}) (.nx {s with i:=A9 (s.i-1)}))) (.so (.exit 0) s)
def iC (s:Ma):Prop:=s.st=.ready/\s.i=(s.m.length:Int)-1/\(s.m.length:Int)<=1000/\0<=s.t/\s.t<=1000000
def gd (s:Ma):Prop:=s.st=.ready/\(-1<=s.i/\s.i<(s.m.length:Int))/\(s.m.length:Int)<=1000/\0<=s.t/\s.t<=1000000
def tV (s:Ma):Nat:=(s.i+1).toNat
def ad7 (x:Ex) (s s':Ma):Prop:=True
def alD:∀s,iC s->gd s:=by
 rintro s ⟨h0,h1,h2⟩
 exact ⟨h0,A0,h2⟩
def azK:Da gd tV ad7 Ti:=by
 intro s hI;unfold Ti;dsimp only [T.rd,T.rl,T.rv];obtain ⟨hs,⟨h0,h1⟩,h2⟩:=hI;refine AG (λc1=>AG (λc2=>trivial) (λc2=>?_)) (λc1=>trivial)
 have c1:0<=s.i:=AO
 rw [AI (x:=s.i-1)];exact ⟨⟨hs,⟨AP,AP⟩,h2⟩,by simp only [tV];omega⟩
def Yd:AS Ma:=⟨6,19,[0,1,3],[],λs=>[.CN 5,.own 4 0,s.i],λs=>[⟨[xQ 9 [s.cs,s.os,s.ks,s.gs,s.bs,s.l,s.d,s.t,.xl A7 s.od]],204,.cl,false⟩,⟨[s.c],3,.cl,false⟩,⟨[s.a],3,.cl,false⟩,⟨[s.r],4,.cl,false⟩,⟨[s.m],33,.cl,false⟩,⟨[.junk,.junk,.junk,.own 0 0,.own 1 0,.own 2 0,.own 3 0,.junk,.v (.tuple #[]),.junk,.junk,.junk,.junk,.junk,.junk,.junk,.junk,.junk,.junk,.junk,.junk,.junk,.junk,.junk,.junk,.junk,.v (.tuple #[]),.v (.tuple #[]),.v (.tuple #[]),.v (.tuple #[]),.v (.tuple #[]),.v (.tuple #[]),.v (.tuple #[]),.v (.tuple #[]),.v (.tuple #[]),.v (.tuple #[]),.v (.tuple #[]),.v (.tuple #[]),.v (.tuple #[]),.v (.tuple #[]),.v (.tuple #[]),.v (.tuple #[]),.v (.tuple #[]),.v (.tuple #[]),.v (.tuple #[])],0,.Cc ai6 ajY ajQ s.st,false⟩],λv b=>⟨AK v 2,Ai Ao (BM (B3 (CP b 0) 0) 0),Ai .str (BM (B3 (CP b 0) 0) 1),Ai B8 (BM (B3 (CP b 0) 0) 2),Ai Au (BM (B3 (CP b 0) 0) 3),Ai B9 (BM (B3 (CP b 0) 0) 4),Ai AX (BM (B3 (CP b 0) 0) 5),Ai BO (BM (B3 (CP b 0) 0) 6),gI (BM (B3 (CP b 0) 0) 7),Ai A7 (BM (B3 (CP b 0) 0) 8),Ae b 1 0,Ae b 2 0,Kg b 3 0,AF AX b 4 0,.ready⟩,Ti,λs r=> {r with cs:=s.cs,os:=s.os,ks:=s.ks,gs:=s.gs,bs:=s.bs,l:=s.l,d:=s.d,t:=s.t,od:=s.od,c:=s.c,a:=s.a,m:=s.m},λs=> {s with st:=.ready},λx s=> {s with st:=(match x with| .ret=>(.done (.ret)) | .exit 0=> .ready|_=> .ready)},[.ret,.exit 0],iC,gd,tV⟩
abbrev aFi:=Yd.run
abbrev aGy:=Yd.Am
def Ql:List Bd:=[]
def akX:As:=kI Ql (l0 Ql)
def avO:Rq gd Ti:=by
 intro s hI;refine ⟨λc1=>⟨?_,λ_=>trivial,λ_=>trivial⟩,λ_=>trivial⟩
 ·(obtain ⟨hs,⟨h0,h1⟩,h2⟩:=hI;simp only [AY] at c1;omega)
def aPS:Yd.Ok:={}
def aP3:Yd.Pf (ad7):=⟨alD,λs h=>by
 obtain ⟨i,cs,os,ks,gs,bs,l,d,t,od,c,a,r,m,st⟩:=s
 have e:st=.ready:=h.1
 subst e;rfl,azK,avO⟩
def aoa:=s2 (b:=bN f190 0) aPS aP3 Ql akX
def ar5:Rs iC aGy aFi (λs:Ma=>nwO s.a s.t ((s.m.take (s.i+1).toNat).reverse.find? (λx=>x.2.1==s.c))) (λx s' (v:Bool)=>(x=.ret/\s'.r=v)\/(x=.exit 0/\v=true)):=DL aPS aP3 (λs hI=>by
  show CM _ _ ((Ti s).rd s)
  unfold Ti;dsimp only [T.rd,T.rl];obtain ⟨hs,⟨h0,h1⟩,h2⟩:=hI;refine AG (λc1=>?_) (λc1=>?_)
  ·have c1:0<=s.i:=AO
   have e:=(W4 c1 (show s.i<(s.m.length:Int) by omega)).2
   refine AG (λc2=> .inl ⟨rfl,?_⟩) (λc2=>?_)
   ·rw [e,List.reverse_append]
    show _=nwO s.a s.t (List.find? _ (An s.m s.i::_))
    rw [List.find?_cons_of_pos (by exact c2)]
    simp only [nwO];rw [AI (x:=s.t-6)]
   ·show nwO _ _ _=nwO _ _ _
    simp only;rw [AI (x:=s.i-1),e,List.reverse_append]
    show _=nwO s.a s.t (List.find? _ (An s.m s.i::_))
    rw [List.find?_cons_of_neg Mz,show (s.i-1+1).toNat=s.i.toNat by omega]
    rfl
  ·have c1:s.i<0:=AO
   refine .inr ⟨rfl,?_⟩;rw [show (s.i+1).toNat=0 by omega]
   rfl)
def aIY:List LV->T LV
 | [.xq 9 q0,.v (.int .i64 i),.v (.int .i64 a)]=>(match ([q0 0,q0 1,q0 2,q0 3,q0 4,q0 5,q0 6,q0 7,q0 8]:List LV) with
  | [.xl (.pair .str (.pair (.int .i64) (.pair (.int .i64) (.pair (.int .i64) (.pair (.pair (.int .i64) (.int .i64)) (.pair (.int .i64) (.pair (.int .i64) (.pair (.int .i64) (.pair (.int .i64) (.int .i64)))))))))) cs,.xl (.str) os,.xl (.pair .str (.pair (.int .i64) (.pair (.int .i64) (.int .i64)))) ks,.xl (.pair .str (.pair (.int .i64) (.pair (.int .i64) (.pair (.int .i64) (.pair (.int .i64) (.pair (.int .i64) (.pair (.int .i64) (.int .i64)))))))) gs,.xl (.pair .str (.int .i64)) bs,.xl (.pair (.int .i64) (.pair (.int .i64) (.pair (.int .i64) (.pair (.int .i64) (.int .i64))))) l,.xl (.pair .bool (.pair (.int .i64) (.pair (.int .i64) (.int .i64)))) d,.v (.int .i64 t),.xl (.int .i64) od]=> .req ((0<=i/\i<(gs.length:Int))/\(l.length:Int)<=1000/\0<=t/\t<=1000000) (.ok (nwB gs l t i a))
  |_=> .no)
 |_=> .no
def abK:As:=kI Ql (la 1 func190 aoa (l0 Ql))
def aqg (cs:List Cd) (os:List ByteArray) (ks:List Ko) (gs:List Ch) (bs:List Ba) (l:List Le) (d:List Dm) (t:Int) (od:List Int) (i a:Int):letI b:=(A9 ((l.length:Int)-1));Bc prog AT (Ql) abK Af f102 [xQ 9 [cs,os,ks,gs,bs,l,d,t,.xl A7 od],i,a]=.ix i (gs.length) (.br (decide (a<=(AH gs i).2.2.2.2.2.2.1)) (.ok false) (.req (Yd.q (⟨b,cs,os,ks,gs,bs,l,d,t,od,i,a,false,l,.ready⟩:Ma)) (.br (Bo (aGy (⟨b,cs,os,ks,gs,bs,l,d,t,od,i,a,false,l,.ready⟩:Ma)) (.ret)) (.ok (aFi (⟨b,cs,os,ks,gs,bs,l,d,t,od,i,a,false,l,.ready⟩:Ma)).r) (.ok true)))):=AZ
def au8:=vo (S:=aIY) func102 Ql abK (λargs lv h=>by
 refine ⟨?_⟩;unfold aIY at h;split at h
 ·split at h
  case h_2=>cases h
  rename_i heq0;simp only [canL,canX];rw [Dn (n:=9) heq0];simp only [canL,canX];rw [aqg];rename_i i a _ cs os ks gs bs l d t od;obtain ⟨⟨hi,hl,ht⟩,rfl⟩:=h;refine ⟨hi,λc=>Ax (λz=>LV.v (.bool z)) ?_,λc=>?_⟩
  ·have c:a<=Cq (AH gs i):=De c
   unfold nwB;rw [Cs c];rfl
  have c:¬a<=Cq (AH gs i):=JF c
  have hE:iC ⟨A9 ((l.length:Int)-1),cs,os,ks,gs,bs,l,d,t,od,i,a,false,l,.ready⟩:=⟨rfl,by show A9 ((l.length:Int)-1)=_;rw [AI],hl,ht⟩
  have ev:nwB gs l t i a=nwO a t ((l.take (A9 ((l.length:Int)-1)+1).toNat).reverse.find? (λx=>x.2.1==i)):=by
   unfold nwB;rw [I1 c,AI (x:=(l.length:Int)-1),show ((l.length:Int)-1+1).toNat=l.length by omega,Dv]
   rfl
  refine ⟨⟨hE,rfl,rfl⟩,?_⟩;rcases ar5 _ hE with ⟨q1,q2⟩ |⟨q1,q2⟩<;>rw [q1]
  ·exact ⟨λ_=>Ax (λz=>LV.v (.bool z)) (q2.trans ev.symm),λh=>Ah⟩
  ·exact ⟨λh=>Ah,λ_=>Ax (λz=>LV.v (.bool z)) (q2.symm.trans ev.symm)⟩
 ·cases h)
def aFC:List LV->T LV
 | [.v (.int .i64 x)]=> .ok false
 |_=> .no
def XP:List Bd:=[]
def ao9:=vo (S:=aFC) func179 XP kN (λargs lv h=>by
 unfold aFC at h;split at h
 ·rename_i x
  refine Aj (.ok (.v (.bool (x !=x)))) ?_;obtain rfl:=h;exact Ax (λz=>LV.v (.bool z)) AJ
 ·cases h)
def aIf:List LV->T LV
 | [.v (.int .i64 x),.v (.int .i64 y)]=> .ok (cm x y)
 |_=> .no
def ajw:List Bd:=[ao9]
def auG:=vo (S:=aIf) func140 ajw kN (λargs lv h=>by
 unfold aIf at h;split at h
 ·rename_i x y
  refine Aj (.br false (.br false (.ok (0:Int)) (.ok (.v (.int .i64 (-1))))) (.br false (.ok (1:Int)) (.br (decide (x<y)) (.ok (.v (.int .i64 (-1)))) (.br (decide (x>y)) (.ok (1:Int)) (.ok (0:Int)))))) ?_;obtain rfl:=h;unfold cm;refine ⟨λh=>Ah,λ_=>⟨λh=>Ah,λ_=>⟨λc=>?_,λc=>⟨λc2=>?_,λc2=>?_⟩⟩⟩⟩<;>refine Ax (λz=>LV.v (.int .i64 z)) ?_
  ·grind
  ·grind
  ·grind
 ·cases h)
structure Mb where
 (r z:Int)
 l:List Int
 (n i:Int)
def aEc:=bN f139 0
def vj (s:Mb):T (Rd Mb):=
 .br (decide (s.i<s.n)) (.ix s.i (s.l.length) (.br ((gi s.l s.i) !=s.z) (.so (.ret) {s with r:=gi s.l s.i}) (.nx {s with i:=A9 (s.i+1)}))) (.so (.exit 0) s)
def iH (s:Mb):Prop:=s.i=0/\s.n=(s.l.length:Int)/\s.n<=1000/\s.z=0
def gg (s:Mb):Prop:=(0<=s.i/\s.i<=s.n)/\s.n=(s.l.length:Int)/\s.n<=1000/\s.z=0
def ta (s:Mb):Nat:=(s.n-s.i).toNat
def ad8 (x:Ex) (s s':Mb):Prop:=True
def alM:∀s,iH s->gg s:=by
 exact aM3
def azB:Da gg ta ad8 vj:=by
 intro s hI;obtain ⟨⟨h0,h1⟩,h2,h3,h4⟩:=hI;refine AG (λc1=>?_) (λc1=>?_)
 ·refine AG (λc2=>?_) (λc2=>?_)
  ·exact trivial
  ·have c1:s.i<s.n:=AA
   rw [AI (x:=s.i+1)];exact ⟨⟨⟨AA,AA⟩,h2,h3,h4⟩,by simp only [ta];omega⟩
 ·exact trivial
def RX:AS Mb:=⟨0,18,[2,3,6,7,8],[],λs=>[s.r,s.z,.xl A7 s.l,s.n,s.i],λ_=>[],λv b=>⟨AK v 0,AK v 1,Az A7 v 2,AK v 3,AK v 4⟩,vj,λs r=> {s with r:=r.r,i:=r.i},λs=>s,λ_ s=>s,[.ret,.exit 0],iH,gg,ta⟩
abbrev aFj:=RX.run
abbrev aH0:=RX.Am
def awv:Rq gg vj:=by
 intro s hI;refine ⟨λc1=>⟨?_,λ_=>trivial,λ_=>trivial⟩,λ_=>trivial⟩
 ·(obtain ⟨⟨h0,h1⟩,h2,h3⟩:=hI;simp only [AY] at c1;omega)
def aPX:RX.Ok:={}
def aP8:RX.Pf (ad8):=⟨alM,λs h=>rfl,azB,awv⟩
def aof:SA 0 aEc RX:=s1 aPX aP8 XP kN
def asq:Rs iH aH0 aFj (λs:Mb=>orI (s.l.drop s.i.toNat)) (λx s' (v:Int)=>(x=.ret/\s'.r=v)\/(x=.exit 0/\s'.z=v)):=DL aPX aP8 (λs hI=>by
  obtain ⟨⟨h0,h1⟩,h2,h3,h4⟩:=hI;refine AG (λc1=>?_) (λc1=>?_)
  ·have c1:s.i<s.n:=AA
   have e:=(gi_step h0 (show s.i<(s.l.length:Int) by omega)).1
   rw [AI (x:=s.i+1)];refine AG (λc2=>?_) (λc2=>?_)
   ·refine .inl ⟨rfl,?_⟩
    rw [e,orI,AE AA]
   ·show orI _=orI _
    rw [e,orI,AD AA]
  ·have c1:s.n<=s.i:=AA
   refine .inr ⟨rfl,?_⟩;rw [EJ A0,h4];rfl)
def aIg:List LV->T LV
 | [.xl (.int .i64) l]=> .req ((l.length:Int)<=1000) (.ok (orI l))
 |_=> .no
def ata:=vm (S:=aIg) func139 XP kN (L:=(λi=>if i=3 then RX.lp else Af i)) (λb hb=>by
 rw [show B6 _=[aEc] by rfl] at hb
 simp only [B1,Bv,Bw] at hb;subst hb;exact aof) (λargs lv h=>by
 unfold aIg at h;split at h
 ·rename_i l
  refine Aj (letI a:=(l.length:Int);.req (RX.q (⟨0,0,l,a,0⟩:Mb)) (.br (Bo (aH0 (⟨0,0,l,a,0⟩:Mb)) (.ret)) (.ok (aFj (⟨0,0,l,a,0⟩:Mb)).r) (.ok (0:Int)))) ?_;obtain ⟨hl,rfl⟩:=h
  have hE:iH ⟨0,0,l,(l.length:Int),0⟩:=⟨rfl,rfl,hl,rfl⟩
  refine ⟨⟨hE,rfl,rfl⟩,?_⟩;rcases asq _ hE with ⟨q1,q2⟩ |⟨q1,q2⟩<;>rw [q1]
  ·exact ⟨λ_=>Ax (λz=>LV.v (.int .i64 z)) q2,λh=>Ah⟩
  ·exact ⟨λh=>Ah,λ_=>Ax (λz=>LV.v (.int .i64 z)) q2⟩
 ·cases h)
def aHT:List LV->T LV
 | [.v (.int .i64 i),.xq 1 q0,.xq 1 q1]=>(match ([q0 0]:List LV) with
  | [.xl (.pair .bool (.pair (.int .i64) (.pair (.int .i64) (.int .i64)))) d]=>(match ([q1 0]:List LV) with
  | [.v (.int .i64 t)]=> .req (IJ d t/\0<=i/\i<(d.length:Int)) (.ok (slk d t i))
  |_=> .no)
  |_=> .no)
 |_=> .no
def apQ (i:Int) (d:List Dm) (t:Int):Bc prog AT (XP) kN Af f136 [i,xQ 1 [d],xQ 1 [t]]=.ix i (d.length) (.ix i (d.length) (.ok (A9 ((A9 ((Dq d i).2.2.1-t))-(Dq d i).2.1)))):=AZ
def qy:=vo (S:=aHT) func136 XP kN (λargs lv h=>by
 refine ⟨?_⟩;unfold aHT at h;split at h
 ·split at h
  case h_2=>cases h
  rename_i heq0;split at h
  case h_2=>cases h
  rename_i heq1;simp only [canL,canX];rw [Dn (n:=1) heq0];rw [Dn (n:=1) heq1];simp only [canL,canX];rw [apQ];rename_i i _ _ _ d _ t;obtain ⟨⟨hw,hi⟩,rfl⟩:=h
  have b:=atP hw hi.1 hi.2
  have ht:=hw.2
  refine ⟨hi,hi,Ax (λz=>LV.v (.int .i64 z)) ?_⟩
  unfold slk;rw [AI (x:=(Dq d i).2.2.1-t),AI]
 ·cases h)
def aSk:List LV->T LV
 | [.v (.int .i64 a),.v (.int .i64 b),.xq 1 q0,.xq 1 q1]=>(match ([q0 0]:List LV) with
  | [.xl (.pair .bool (.pair (.int .i64) (.pair (.int .i64) (.int .i64)))) d]=>(match ([q1 0]:List LV) with
  | [.fn 136 [.xq 1 q2,.xq 1 q3]]=>(match ([q2 0]:List LV) with
  | [.xl (.pair .bool (.pair (.int .i64) (.pair (.int .i64) (.int .i64)))) e]=>(match ([q3 0]:List LV) with
  | [.v (.int .i64 t)]=> .req (d=e/\IJ d t/\(0<=a/\a<(d.length:Int))/\0<=b/\b<(d.length:Int)) (.ok (cmD d t a b))
  |_=> .no)
  |_=> .no)
  |_=> .no)
  |_=> .no)
 |_=> .no
def acT:List Bd:=[qy,ata,auG]
def ay4 (a b:Int) (d e:List Dm) (t:Int):letI c:=cm (Dq d a).2.2.2 (Dq d b).2.2.2;letI f:=cm (slk e t a) (slk e t b);Bc prog AT (acT) kN Af f138 [a,b,xQ 1 [d],xQ 1 [.fn 136 [xQ 1 [e],xQ 1 [t]]]]=.ix a (d.length) (.ix b (d.length) (.req (IJ e t/\0<=a/\a<(e.length:Int)) (.req (IJ e t/\0<=b/\b<(e.length:Int)) (.req ((List.length ([c,f,cm a b]):Int)<=1000) (.ok (orI ([c,f,cm a b]))))))):=AZ
def aaT:=vo (S:=aSk) func138 acT kN (λargs lv h=>by
 refine ⟨?_⟩;unfold aSk at h;split at h
 ·split at h
  case h_2=>cases h
  rename_i heq0;split at h
  case h_2=>cases h
  rename_i heq1;split at h
  case h_2=>cases h
  rename_i heq2;split at h
  case h_2=>cases h
  rename_i heq3;simp only [canL,canX];rw [Dn (n:=1) heq0];rw [Dn (n:=1) heq1];simp only [canL,canX];rw [Dn (n:=1) heq2];rw [Dn (n:=1) heq3];simp only [canL,canX];rw [ay4];rename_i a b _ d _ _ _ _ e _ t;obtain ⟨⟨rfl,hw,ha,hb⟩,rfl⟩:=h;exact ⟨ha,hb,⟨hw,ha⟩,⟨hw,hb⟩,AJ,rfl⟩
 ·cases h)
structure P5 where
 (n i:Int)
 d:List Dm
 tick:Int
 out:List Int
def aEy:=bN f98 0
def uy (s:P5):T (Rd P5):=letI a:=s.out.set s.i.toNat s.i;.br (decide (s.i<s.n)) (.ik s.i (s.out.length) (.re (s.out.length) a (.nx {s with i:=A9 (s.i+1),out:=a}))) (.rl s.out (.so (.exit 0) s))
def iW (s:P5):Prop:=s.i=0/\s.out=List.replicate s.d.length 0/\s.n=(s.d.length:Int)/\s.n<=1000/\s.out.length=s.d.length
def XZ (s:P5):Prop:=(0<=s.i/\s.i<=s.n)/\s.out=Ek s.i.toNat++List.replicate (s.d.length-s.i.toNat) 0/\s.n=(s.d.length:Int)/\s.n<=1000/\s.out.length=s.d.length
def sC (s:P5):Nat:=(s.n-s.i).toNat
def zu (x:Ex) (s s':P5):Prop:=x=.exit 0/\s'.out=Ek s'.d.length
def ajt:∀s,iW s->XZ s:=by
 exact aLT
def awf:Da XZ sC zu uy:=by
 intro s hI;obtain ⟨⟨h0,h1⟩,h2,h3,h4,h5⟩:=hI;refine AG (λc1=>?_) (λc1=>?_)
 ·have c1:s.i<s.n:=AO
  rw [AI (x:=s.i+1)]
  have e:s.d.length-s.i.toNat=(s.d.length-(s.i+1).toNat)+1:=A0
  refine ⟨⟨⟨AA,AA⟩,?_,h3,h4,AA⟩,by simp only [sC];omega⟩
  simp only
  have hs:=aG7 (xs:=Ek s.i.toNat) (r:=s.d.length-(s.i+1).toNat) (v:=s.i)
  rw [OP] at hs;rw [h2,e,hs,show (s.i+1).toNat=s.i.toNat+1 by omega,aDF,BQ h0]
 ·have c1:s.n<=s.i:=AO
  refine ⟨rfl,?_⟩;rw [h2,show s.i.toNat=s.d.length by omega]
  simp
def Qq:AS P5:=⟨0,26,[2,3,5,12,13],[],λs=>[.own 0 0,.own 1 0,.os 2 1 0 (s.out.length),s.n,s.i],λs=>[⟨[s.d],44,.cl,false⟩,⟨[s.tick],3,.cl,false⟩,bV 3 A7 s.out],λv b=>⟨AK v 3,AK v 4,AF BO b 0 0,Ae b 1 0,Ab A7 b 2⟩,uy,λs r=> {s with i:=r.i,out:=r.out},λs=>s,λ_ s=>s,[.exit 0],iW,XZ,sC⟩
abbrev M7:=Qq.run
abbrev arf:=Qq.Am
def awD:Rq XZ uy:=by
 intro s hI;refine ⟨λc1=>⟨?_,?_,?_,trivial⟩,λc1=>⟨A8,trivial⟩⟩
 all_goals ((obtain ⟨⟨h0,h1⟩,h2,h3,h4,h5⟩:=hI;simp only [AY] at c1;first|omega|exact ⟨rfl,AJ⟩))
def Oq:List Bd:=[qy,aaT]
def fm:As:=kI Oq (l0 Oq)
def aOh:Qq.Ok:={}
def aO1:Qq.Pf (zu):=⟨ajt,λs h=>rfl,awf,awD⟩
def ap1:SA 0 aEy Qq:=s1 aOh aO1 Oq fm
def apb:Fi iW XZ zu arf M7:=AS.fin aOh aO1
structure NQ where
 (a b i j:Int)
 b0:List Dm
 b1:Int
 data:List Int
def aET:=lN (bN f211 0) 0
def vT (s:NQ):T (Rd NQ):=letI c:=s.data.getD s.j.toNat (Ty.dflt A7);letI d:=A9 (s.j-1);letI e:=s.data.length;letI b:=s.data.getD d.toNat (Ty.dflt A7);letI f:=s.data.set s.j.toNat b;.br (decide (s.j>s.a)) (.ik s.j e (.ik d e (.req (s.b0=s.b0/\IJ s.b0 s.b1/\(0<=c/\c<(s.b0.length:Int))/\0<=b/\b<(s.b0.length:Int)) (.br (decide ((cmD s.b0 s.b1 c b)<0)) (.ix d e (.ix s.j e (.req (d.toNat<s.data.length) (.req (s.j.toNat<s.data.length) (.ik s.j e (.ix d e (.req (d.toNat<List.length f) (.re e (f.set d.toNat c) (.nx {s with j:=d,data:=f.set d.toNat c}))))))))) (.rl s.data (.so (.exit 2) s)))))) (.rl s.data (.so (.exit 2) s))
def iv (s:NQ):Prop:=s.a=0/\(0<=s.j/\s.j<(s.data.length:Int))/\(s.data.length=s.b0.length/\(s.data.length:Int)<=1000)/\(∀x∈s.data,0<=x/\x<(s.b0.length:Int))/\IJ s.b0 s.b1
def gX (s:NQ):Prop:=s.a=0/\(0<=s.j/\s.j<(s.data.length:Int))/\(s.data.length=s.b0.length/\(s.data.length:Int)<=1000)/\(∀x∈s.data,0<=x/\x<(s.b0.length:Int))/\IJ s.b0 s.b1
def tK (s:NQ):Nat:=s.j.toNat
def ad2 (x:Ex) (s s':NQ):Prop:=x=.exit 2
def aiy:∀s,iv s->gX s:=by
 exact λs h=>h
def ayi:Da gX tK ad2 vT:=by
 intro s hI;obtain ⟨h0,⟨h1,h2⟩,⟨h3,h3'⟩,h4,h5⟩:=hI;refine AG (λc1=>?_) (λc1=>rfl)
 have c1:s.a<s.j:=AO
 rw [AI (x:=s.j-1)];refine AG (λc2=>?_) (λc2=>rfl)
 have g0:=λ(k:Nat) (hk:k<s.data.length)=>h4 (s.data.getD k 0) HR
 have hm:∀x∈(s.data.set s.j.toNat (s.data.getD (s.j-1).toNat 0)).set (s.j-1).toNat (s.data.getD s.j.toNat 0),0<=x/\x<(s.b0.length:Int):=λx hx=>by
  rcases SC hx with hx|e
  ·rcases SC hx with hx|e
   ·exact h4 x hx
   ·rw [e];exact g0 _ A0
  ·grind
 exact ⟨⟨h0,⟨AP,AA⟩,⟨AA,AA⟩,hm,h5⟩,by simp only [tK];omega⟩
def RM:AS NQ:=⟨4,53,[0,1,2,3,8,9],[],λs=>[.os 2 1 0 (s.data.length),s.a,s.b,.fn 138 [.own 0 0,.own 3 0],s.i,s.j],λs=>[⟨[s.b0],44,.cl,false⟩,⟨[s.b1],3,.cl,false⟩,bV 3 A7 s.data,⟨[.fn 136 [.own 0 0,.own 1 0]],218,.cl,false⟩],λv b=>⟨AK v 1,AK v 2,AK v 4,AK v 5,AF BO b 0 0,Ae b 1 0,Ab A7 b 2⟩,vT,λs r=> {s with j:=r.j,data:=r.data},λs=>s,λ_ s=>s,[.exit 2],iv,gX,tK⟩
abbrev aCE:=RM.run
abbrev as4:=RM.Am
def avj:Rq gX vT:=by
 intro s hI;refine ⟨λc1=>⟨?_,?_,?_,?_,?_,λc2=>⟨?_,?_,?_,?_,?_,?_,?_,?_,?_,trivial⟩,λc2=>⟨A8,trivial⟩⟩,λc1=>⟨A8,trivial⟩⟩
 all_goals ((obtain ⟨h0,⟨h1,h2⟩,⟨h3,h3'⟩,h4,h5⟩:=hI;simp only [AY,gt_iff_lt] at c1;(try rw [AI (x:=s.j-1)]);have g0:∀k:Nat,k<s.data.length->0<=s.data.getD k (Ty.dflt A7)/\s.data.getD k (Ty.dflt A7)<(s.b0.length:Int):=(λk hk=>h4 _ HR);first|omega|exact ⟨rfl,h5,g0 _ A0,g0 _ A0⟩ |(simp only [Br];omega) |exact ⟨rfl,AJ⟩))
def aPs:RM.Ok:={}
def aOF:RM.Pf (ad2):=⟨aiy,λs h=>rfl,ayi,avj⟩
def aoT:SA 4 aET RM:=s2 aPs aOF Oq fm
def aH8:Rs iv as4 aCE (λs:NQ=>Kh (ltD s.b0 s.b1) s.j.toNat s.data) (λx s' (v:List Int)=>x=.exit 2/\s'.data=v):=DL aPs aOF (λs hI=>by
  obtain ⟨h0,⟨h1,h2⟩,⟨h3,h3'⟩,h4,h5⟩:=hI;refine AG (λc1=>?_) (λc1=>?_)
  ·have c1:s.a<s.j:=AA
   rw [AI (x:=s.j-1)]
   have e:s.j.toNat=(s.j-1).toNat+1:=A0
   refine AG (λc2=>?_) (λc2=>?_)
   ·show Kh _ _ _=Kh _ _ _
    rw [e,Kh,AE (by unfold ltD;rw [e] at c2;exact c2)]
    rfl
   ·refine ⟨rfl,?_⟩
    rw [e] at c2;rw [e,Kh,AD (λhh=>absurd ((show true=_ from hh.symm).trans c2) Aa)]
  ·have c1:s.j<=s.a:=AA
   refine ⟨rfl,?_⟩;rw [show s.j.toNat=0 by omega]
   rfl)
structure KD where
 (a b i:Int)
 b0:List Dm
 b1:Int
 data:List Int
def aEU:=bN f211 0
def vU (s:KD):T (Rd KD):=letI c:=(aCE (⟨s.a,s.b,s.i,s.i,s.b0,s.b1,s.data⟩:NQ));.br (decide (s.i<s.b)) (.rl s.data (.req (RM.q (⟨s.a,s.b,s.i,s.i,s.b0,s.b1,s.data⟩:NQ)) (.rl c.data (.nx {s with i:=A9 (s.i+1),data:=c.data})))) (.rl s.data (.so (.exit 0) s))
def iw (s:KD):Prop:=s.i=1/\(s.a=0/\s.b=(s.data.length:Int))/\(s.data.length=s.b0.length/\(s.data.length:Int)<=1000)/\(∀x∈s.data,0<=x/\x<(s.b0.length:Int))/\IJ s.b0 s.b1
def Yo (s:KD):Prop:=1<=s.i/\(s.a=0/\s.b=(s.data.length:Int))/\(s.data.length=s.b0.length/\(s.data.length:Int)<=1000)/\(∀x∈s.data,0<=x/\x<(s.b0.length:Int))/\IJ s.b0 s.b1
def tL (s:KD):Nat:=(s.b-s.i).toNat
def ad3 (x:Ex) (s s':KD):Prop:=x=.exit 0
def akT:∀s,iw s->Yo s:=by
 exact ju
def tJ (s:KD) (hI:Yo s) (c1:s.i<s.b):iv ⟨s.a,s.b,s.i,s.i,s.b0,s.b1,s.data⟩:=by
 obtain ⟨h0,⟨h1,h2⟩,h3⟩:=hI;exact ⟨h1,⟨AA,AA⟩,h3⟩
def ayj:Da Yo tL ad3 vU:=by
 intro s hI
 have hin:=λc1=>tJ s hI c1
 obtain ⟨h0,⟨h1,h2⟩,⟨h3,h3'⟩,h4,h5⟩:=hI;refine AG (λc1=>?_) (λc1=>rfl)
 have c1:s.i<s.b:=AA
 obtain ⟨q1,q2⟩:=aH8 _ (hin c1)
 have hp:=anA (lt:=ltD s.b0 s.b1) (j:=s.i.toNat) (l:=s.data) A0
 rw [AI (x:=s.i+1),q2];exact ⟨⟨AA,⟨h1,by simp only [hp.length_eq];exact h2⟩,⟨by simp only [hp.length_eq];exact h3,by simp only [hp.length_eq];exact h3'⟩,λx hx=>h4 x (hp.subset hx),h5⟩,by simp only [tL];omega⟩
def RR:AS KD:=⟨4,53,[0,1,2,3,8],[],λs=>[.os 2 1 0 (s.data.length),s.a,s.b,.fn 138 [.own 0 0,.own 3 0],s.i],λs=>[⟨[s.b0],44,.cl,false⟩,⟨[s.b1],3,.cl,false⟩,bV 3 A7 s.data,⟨[.fn 136 [.own 0 0,.own 1 0]],218,.cl,false⟩],λv b=>⟨AK v 1,AK v 2,AK v 4,AF BO b 0 0,Ae b 1 0,Ab A7 b 2⟩,vU,λs r=> {s with i:=r.i,data:=r.data},λs=>s,λ_ s=>s,[.exit 0],iw,Yo,tL⟩
abbrev Vx:=RR.run
abbrev as5:=RR.Am
def avk:Rq Yo vU:=by
 intro s hI;refine ⟨λc1=>⟨A8,?_,A8,trivial⟩,λc1=>⟨A8,trivial⟩⟩
 ·exact ⟨tJ s hI AA,rfl,rfl⟩
def aPt:RR.Ok:={}
def aOG:RR.Pf (ad3):=⟨akT,λs h=>rfl,ayj,avk⟩
def pU:SA 4 aEU RR:=AS.snd aPt aOG (GC (Γ:=Oq) (K:=fm) (L:=(Li (λi=>if i=4 then RM.lp else Af i))) (gk Oq) fm.h aEU (λb hb=>by
 rw [show B6 _=[aET] by rfl] at hb
 simp only [B1,Bv,Bw] at hb;subst hb;exact aoT)) (λs=>AZ)
def aqa:Rs iw as5 Vx (λs:KD=>MN (ltD s.b0 s.b1) s.data s.i.toNat) (λx s' (v:List Int)=>x=.exit 0/\s'.data=v):=DL aPt aOG (λs hI=>by
  have hin:=λc1=>tJ s hI c1
  obtain ⟨h0,⟨h1,h2⟩,⟨h3,h3'⟩,h4,h5⟩:=hI;refine AG (λc1=>?_) (λc1=>?_)
  ·have c1:s.i<s.b:=AA
   obtain ⟨q1,q2⟩:=aH8 _ (hin c1)
   have q2:(aCE ⟨s.a,s.b,s.i,s.i,s.b0,s.b1,s.data⟩).data=Kh (ltD s.b0 s.b1) s.i.toNat s.data:=q2
   rw [AI (x:=s.i+1)]
   show MN _ _ _=MN _ _ _
   rw [q2,show (s.i+1).toNat=s.i.toNat+1 by omega,aew A0]
  ·have c1:s.b<=s.i:=AA
   exact ⟨rfl,(agA A0).symm⟩)
structure NV where
 (n Ez a b:Int)
 b0:List Dm
 b1:Int
 data:List Int
def uk (s:NV):T (Rd NV):=letI c:=(Vx (⟨s.a,s.b,A9 (s.a+1),s.b0,s.b1,s.data⟩:KD));.br (decide (s.b<=s.n)) (.rl s.data (.req (RR.q (⟨s.a,s.b,A9 (s.a+1),s.b0,s.b1,s.data⟩:KD)) (.re (s.data.length) c.data (.nx {s with a:=s.b,b:=A9 (s.b+s.Ez),data:=c.data})))) (.rl s.data (.so (.exit 0) s))
def gC (s:NV):Prop:=s.b=20/\s.n<20
def Xs (s:NV):Prop:=s.b=20/\s.n<20
def aQG (s:NV):Nat:=0
def abn (x:Ex) (s s':NV):Prop:=x=.exit 0
def aif:∀s,gC s->Xs s:=by
 exact λs h=>h
def av1:Da Xs aQG abn uk:=by
 intro s hI;obtain ⟨h0,h1⟩:=hI;refine AG (λc1=>absurd (show s.b<=s.n by grind) A0) (λc1=>rfl)
def YW:AS NV:=⟨4,63,[0,1,2,6,7,8],[],λs=>[.os 2 1 0 (s.data.length),s.n,.fn 138 [.own 0 0,.own 3 0],s.Ez,s.a,s.b],λs=>[⟨[s.b0],44,.cl,false⟩,⟨[s.b1],3,.cl,false⟩,bV 3 A7 s.data,⟨[.fn 136 [.own 0 0,.own 1 0]],218,.cl,false⟩],λv b=>⟨AK v 1,AK v 3,AK v 4,AK v 5,AF BO b 0 0,Ae b 1 0,Ab A7 b 2⟩,uk,λs r=> {s with a:=r.a,b:=r.b,data:=r.data},λs=>s,λ_ s=>s,[.exit 0],gC,Xs,aQG⟩
abbrev Ih:=YW.run
abbrev aqG:=YW.Am
def ake:As:=kI Oq (la 1 func211 pU (l0 Oq))
def avv:Rq Xs uk:=by
 intro s hI;refine ⟨λc1=>⟨A8,?_,?_,trivial⟩,λc1=>⟨A8,trivial⟩⟩
 all_goals ((simp only [AY] at c1;exact absurd c1 (by have:=hI;unfold Xs at this;omega)))
def aOv:YW.Ok:={}
def aOV:YW.Pf (abn):=⟨aif,λs h=>rfl,av1,avv⟩
def aFs:=s2 (b:=bN f178 0) aOv aOV Oq ake
def anr:Rs gC aqG Ih (λs:NV=>(s.data,s.a)) (λx s' (v:List Int×Int)=>x=.exit 0/\(s'.data,s'.a)=v):=DL aOv aOV (λs hI=>by
  obtain ⟨h0,h1⟩:=hI;exact AG (λc1=>absurd (show s.b<=s.n by grind) A0) (λc1=>⟨rfl,rfl⟩))
def agx:List LV->T LV:=λ_=> .req False (.ok (.v undef))
def atK:VV 212 agx:=by
 intro _ _ _ _ _ _ _ _ _ h;exact h.1.elim
structure P0 where
 (n Ez a b:Int)
 b0:List Dm
 b1:Int
 data:List Int
def aEo:=lN (bN f178 1) 0
def ui (s:P0):T (Rd P0):=
 .br (decide (s.b<=s.n)) (.rz s.data (.req False (.rl s.data (.nx {s with a:=s.b,b:=A9 (s.b+(A9 (2*s.Ez)))})))) (.rl s.data (.so (.exit 4) s))
def adG (s:P0):Prop:=False
def gO (s:P0):Prop:=False
def aQE (s:P0):Nat:=0
def acJ (x:Ex) (s s':P0):Prop:=True
def aid:∀s,adG s->gO s:=by
 exact λs h=>h
def auy:Da gO aQE acJ ui:=by
 intro s hI;exact hI.elim
def U7:AS P0:=⟨4,63,[0,1,2,6,7,8],[],λs=>[.os 2 1 0 (s.data.length),s.n,.fn 138 [.own 0 0,.own 3 0],s.Ez,s.a,s.b],λs=>[⟨[s.b0],44,.cl,false⟩,⟨[s.b1],3,.cl,false⟩,bV 3 A7 s.data,⟨[.fn 136 [.own 0 0,.own 1 0]],218,.cl,false⟩],λv b=>⟨AK v 1,AK v 3,AK v 4,AK v 5,AF BO b 0 0,Ae b 1 0,Ab A7 b 2⟩,ui,λs r=> {s with a:=r.a,b:=r.b},λs=>s,λ_ s=>s,[.exit 4],adG,gO,aQE⟩
abbrev aoJ:=U7.run
def QF:List Bd:=[qy,aaT,atK]
def z9:As:=kI QF (la 2 func178 aFs (la 1 func211 pU (l0 QF)))
def avt:Rq gO ui:=by
 intro s hI;refine ⟨λc1=>⟨?_,?_,A8,trivial⟩,λc1=>⟨A8,trivial⟩⟩
 all_goals (exact hI.elim)
def awd:U7.Ok:={}
def awT:U7.Pf (acJ):=⟨aid,λs h=>rfl,auy,avt⟩
def anc:SA 4 aEo U7:=s2 awd awT QF z9
structure P1 where
 (n Ez:Int)
 b0:List Dm
 b1:Int
 data:List Int
def aEp:=bN f178 1
def uj (s:P1):T (Rd P1):=
 .br (decide (s.Ez<s.n)) (.rl s.data (.req (U7.q (⟨s.n,s.Ez,0,A9 (2*s.Ez),s.b0,s.b1,s.data⟩:P0)) (.br (decide ((A9 ((aoJ (⟨s.n,s.Ez,0,A9 (2*s.Ez),s.b0,s.b1,s.data⟩:P0)).a+s.Ez))<s.n)) (.rz s.data (.req False (.rl s.data (.nx {s with Ez:=A9 (s.Ez*2)})))) (.rl s.data (.nx {s with Ez:=A9 (s.Ez*2)}))))) (.rl s.data (.so (.exit 2) s))
def aAA (s:P1):Prop:=s.Ez=20/\s.n<20
def Xr (s:P1):Prop:=s.Ez=20/\s.n<20
def aQF (s:P1):Nat:=0
def abm (x:Ex) (s s':P1):Prop:=x=.exit 2
def aie:∀s,aAA s->Xr s:=by
 exact λs h=>h
def auz:Da Xr aQF abm uj:=by
 intro s hI;obtain ⟨h0,h1⟩:=hI;refine AG (λc1=>absurd (show s.Ez<s.n by grind) A0) (λc1=>rfl)
def iP:AS P1:=⟨4,63,[0,1,2,6],[],λs=>[.os 2 1 0 (s.data.length),s.n,.fn 138 [.own 0 0,.own 3 0],s.Ez],λs=>[⟨[s.b0],44,.cl,false⟩,⟨[s.b1],3,.cl,false⟩,bV 3 A7 s.data,⟨[.fn 136 [.own 0 0,.own 1 0]],218,.cl,false⟩],λv b=>⟨AK v 1,AK v 3,AF BO b 0 0,Ae b 1 0,Ab A7 b 2⟩,uj,λs r=> {s with Ez:=r.Ez},λs=>s,λ_ s=>s,[.exit 2],aAA,Xr,aQF⟩
def avu:Rq Xr uj:=by
 intro s hI;refine ⟨λc1=>⟨A8,?_,λc2=>⟨?_,?_,A8,trivial⟩,λc2=>⟨A8,trivial⟩⟩,λc1=>⟨A8,trivial⟩⟩
 all_goals ((simp only [AY] at c1;exact absurd c1 (by have:=hI;unfold Xr at this;omega)))
def awe:iP.Ok:={}
def awU:iP.Pf (abm):=⟨aie,λs h=>rfl,auz,avu⟩
def ane:SA 4 aEp iP:=AS.snd awe awU (GC (Γ:=QF) (K:=z9) (L:=(Li (λi=>if i=9 then U7.lp else Af i))) (gk QF) z9.h aEp (λb hb=>by
 rw [show B6 _=[aEo] by rfl] at hb
 simp only [B1,Bv,Bw] at hb;subst hb;exact anc)) (λs=>AZ)
def aI2:List LV->T LV
 | [.xl (.pair .bool (.pair (.int .i64) (.pair (.int .i64) (.int .i64)))) d,.v (.int .i64 t)]=> .req (IJ d t/\d.length<=19) (.ok (.xl A7 (Gs d t)))
 |_=> .no
def Kz (d:List Dm) (t:Int):P5:=(⟨(((d.length:Int).toNat:Nat):Int),0,d,t,List.replicate (d.length:Int).toNat (0:Int)⟩:P5)
def I7 (d:List Dm) (t:Int):NV:=(⟨((List.length (M7 (Kz d t)).out:Nat):Int),20,0,20,d,t,(M7 (Kz d t)).out⟩:NV)
def Vz (d:List Dm) (t:Int):KD:=(⟨(Ih (I7 d t)).a,((List.length (M7 (Kz d t)).out:Nat):Int),A9 ((Ih (I7 d t)).a+1),d,t,(Ih (I7 d t)).data⟩:KD)
def aDi (d:List Dm) (t:Int):P1:=(⟨((List.length (M7 (Kz d t)).out:Nat):Int),20,d,t,(Vx (Vz d t)).data⟩:P1)
def akd:As:=kI QF (la 7 func178 ane (la 2 func178 aFs (la 1 func211 pU (l0 QF))))
def atv:=vm (S:=aI2) func98 QF akd (L:=(λi=>if i=3 then Qq.lp else Af i)) (λb hb=>by
 rw [show B6 _=[aEy] by kernel_rfl] at hb
 simp only [B1,Bv,Bw] at hb;subst hb;exact ap1) (λargs lv h=>by
 unfold aI2 at h;split at h
 ·rename_i d t
  refine Aj (letI b:=List.length (M7 (Kz d t)).out;letI c:=(d.length:Int);letI e:=Vx (Vz d t);.rm 8 c (.re c.toNat (List.replicate c.toNat (0:Int)) (.req (Qq.q (Kz d t)) (.rl (M7 (Kz d t)).out (.req (YW.q (I7 d t)) (.rl (Ih (I7 d t)).data (.req (RR.q (Vz d t)) (.re (List.length (Ih (I7 d t)).data) e.data (.req (iP.q (aDi d t)) (.req (0+b<=List.length e.data) (.ok (.xl A7 ((e.data.drop 0).take b))))))))))))) ?_;obtain ⟨⟨hw,hd⟩,rfl⟩:=h
  have hE:iW (Kz d t):=⟨rfl,Bt,by show (((d.length:Int).toNat:Nat):Int)=(d.length:Int);omega,by show (((d.length:Int).toNat:Nat):Int)<=1000;omega,by show (List.replicate _ (0:Int)).length=d.length;rw [CR];omega⟩
  obtain ⟨_,_,_,q1⟩:=apb _ hE
  have q1:(M7 (Kz d t)).out=Ek d.length:=q1
  have hl:(M7 (Kz d t)).out.length=d.length:=by rw [q1,OP]
  have hE2:gC (I7 d t):=⟨rfl,aMO⟩
  obtain ⟨_,q2⟩:=anr _ hE2
  have q2a:(Ih (I7 d t)).data=Ek d.length:=(Ax Prod.fst q2).trans q1
  have q2b:(Ih (I7 d t)).a=0:=Ax Prod.snd q2
  have hE3:iw (Vz d t):=⟨by show A9 ((Ih (I7 d t)).a+1)=1;rw [q2b];rfl,⟨q2b,by show ((List.length (M7 (Kz d t)).out:Nat):Int)=(List.length (Ih (I7 d t)).data:Int);rw [q2a,hl,OP]⟩,⟨by show (Ih (I7 d t)).data.length=d.length;rw [q2a,OP],by show (List.length (Ih (I7 d t)).data:Int)<=1000;rw [q2a,OP];omega⟩,λx hx=>aDb.1 (by have hx:x∈(Ih (I7 d t)).data:=hx;rw [q2a] at hx;exact hx),hw⟩
  obtain ⟨_,q3⟩:=aqa _ hE3
  have q3:(Vx (Vz d t)).data=Gs d t:=q3.trans (by
   show MN (ltD d t) (Ih (I7 d t)).data (A9 ((Ih (I7 d t)).a+1)).toNat=_
   rw [q2b,q2a];exact afs)
  have hl3:(Vx (Vz d t)).data.length=d.length:=by rw [q3,aE3]
  have hE4:aAA (aDi d t):=⟨rfl,aMO⟩
  refine ⟨⟨A0,A0,A0,A0⟩,⟨rfl,AJ⟩,⟨hE,rfl,rfl⟩,A8,⟨hE2,rfl,rfl⟩,A8,⟨hE3,rfl,rfl⟩,⟨rfl,by rw [q2a,OP,hl3]⟩,⟨hE4,rfl,rfl⟩,A0,?_⟩
  show LV.xl _ _=_
  rw [CJ,hl,<-hl3,Dv,q3]
 ·cases h)
structure LH where
 rs:List Ra
 (tick n t15:Int)
 offers:List Int
 m:List Ch
 (k i:Int)
 ahA:List Cd
 c1:List ByteArray
 c2:List Ko
 c3:List Ch
 c4:List Ba
 N7:List Le
 ag3:List Dm
 TE:Int
 (asH Fx:List Int)
 next:List Ra
 Co:List Le
def aEa:=bN f73 0
def qk (s:LH) (e:Int) (w:Bool) (x:Int) (y:Int):T (Rd LH):=letI a:=(s.n,(s.i,(x,(s.tick,(12:Int)))));letI b:=(s.next.set s.i.toNat (x,y));letI c:=s.Fx.set s.i.toNat x;letI d:=s.next.length;letI f:=s.Fx.length;.br (decide (s.i<s.k)) (.ix s.i (s.m.length) (.ix s.i (s.rs.length) (.ix s.i (s.offers.length) (.br (e !=0) (.rl s.Fx (.rl s.next (.rl s.Co (.so (.ret) {s with t15:=(1:Int)})))) (.ik s.i f (.ik s.i d (.req ((0<=s.i/\s.i<(s.c3.length:Int))/\(s.N7.length:Int)<=1000/\0<=s.TE/\s.TE<=1000000) (.br w (.rb (s.Co.length) (List.length ([a])) 40 (.re f c (.re d b (.re (s.Co.length+List.length ([a])) (s.Co++([a])) (.nx {s with n:=A9 (s.n+1),i:=A9 (s.i+1),Fx:=c,next:=b,Co:=s.Co++([a])}))))) (.re f c (.re d b (.rl s.Co (.nx {s with i:=A9 (s.i+1),Fx:=c,next:=b})))))))))))) (.rl s.Fx (.rl s.next (.rl s.Co (.so (.exit 0) s))))
abbrev vg (s:LH):=letI a:=AH s.m s.i;letI c:=Bx s.rs s.i;letI d:=gi s.offers s.i;letI b:=nA a.2.2.1 a.2.2.2.1 a.2.2.2.2.1 a.2.2.2.2.2.1 a.2.2.2.2.2.2.1 c.1 c.2 d;qk s (nE a.2.2.1 a.2.2.2.1 a.2.2.2.2.1 a.2.2.2.2.2.1 a.2.2.2.2.2.2.1 c.1 c.2 d) (nwB s.c3 s.N7 s.TE s.i b) b (nS a.2.2.1 a.2.2.2.1 a.2.2.2.2.1 a.2.2.2.2.2.1 a.2.2.2.2.2.2.1 c.1 c.2 d)
def YT (s:LH):Prop:=s.i=0/\s.Co=[]/\(s.k=(s.m.length:Int)/\s.k<=16)/\(s.c3=s.m/\s.TE=s.tick)/\((s.N7.length:Int)<=1000/\0<=s.tick/\s.tick<=1000000)/\(s.rs.length=s.m.length/\s.offers.length=s.m.length/\s.Fx.length=s.m.length/\s.next.length=s.m.length)/\dcK s.m s.rs s.offers/\1<=s.n-(s.Co.length:Int)/\s.n-(s.Co.length:Int)<=999900
def Qz (s:LH):Prop:=letI a:=(s.Co.length:Int);(0<=s.i/\s.i<=s.k)/\(∀j,0<=j->j<s.i->gi s.Fx j=nxA (AH s.m j) (Bx s.rs j) (gi s.offers j)/\Bx s.next j=(nxA (AH s.m j) (Bx s.rs j) (gi s.offers j),nxS (AH s.m j) (Bx s.rs j) (gi s.offers j)))/\s.Co=H9 s.m s.N7 s.tick (s.n-a) (Lp s.m s.rs s.offers s.m.length) s.i.toNat/\(s.k=(s.m.length:Int)/\s.k<=16)/\(s.c3=s.m/\s.TE=s.tick)/\((s.N7.length:Int)<=1000/\0<=s.tick/\s.tick<=1000000)/\(s.rs.length=s.m.length/\s.offers.length=s.m.length/\s.Fx.length=s.m.length/\s.next.length=s.m.length)/\dcK s.m s.rs s.offers/\1<=s.n-a/\s.n-a<=999900
def Wn (s:LH):Nat:=(s.k-s.i).toNat
def gL (x:Ex) (s s':LH):Prop:=x=.exit 0/\s'.Fx=Lp s'.m s'.rs s'.offers s'.m.length/\s'.next=dcR s'.m s'.rs s'.offers s'.m.length/\s'.Co=H9 s'.m s'.N7 s'.tick (s'.n-(s'.Co.length:Int)) (Lp s'.m s'.rs s'.offers s'.m.length) s'.m.length
def alI:∀s,YT s->Qz s:=by
 rintro s ⟨h0,h1,h2⟩
 exact ⟨A0,λj j0 j1=>A0,kX,h2⟩
def ash (s:LH) (hI:Qz s) (e:Int) (w:Bool) (x:Int) (y:Int) (he:nE (AH s.m s.i).2.2.1 (AH s.m s.i).2.2.2.1 (AH s.m s.i).2.2.2.2.1 (AH s.m s.i).2.2.2.2.2.1 (AH s.m s.i).2.2.2.2.2.2.1 (Bx s.rs s.i).1 (Bx s.rs s.i).2 (gi s.offers s.i)=e) (hw:nwB s.c3 s.N7 s.TE s.i (nA (AH s.m s.i).2.2.1 (AH s.m s.i).2.2.2.1 (AH s.m s.i).2.2.2.2.1 (AH s.m s.i).2.2.2.2.2.1 (AH s.m s.i).2.2.2.2.2.2.1 (Bx s.rs s.i).1 (Bx s.rs s.i).2 (gi s.offers s.i))=w) (hx:nA (AH s.m s.i).2.2.1 (AH s.m s.i).2.2.2.1 (AH s.m s.i).2.2.2.2.1 (AH s.m s.i).2.2.2.2.2.1 (AH s.m s.i).2.2.2.2.2.2.1 (Bx s.rs s.i).1 (Bx s.rs s.i).2 (gi s.offers s.i)=x) (hy:nS (AH s.m s.i).2.2.1 (AH s.m s.i).2.2.2.1 (AH s.m s.i).2.2.2.2.1 (AH s.m s.i).2.2.2.2.2.1 (AH s.m s.i).2.2.2.2.2.2.1 (Bx s.rs s.i).1 (Bx s.rs s.i).2 (gi s.offers s.i)=y):CM (λs'=>Qz s'/\Wn s'<Wn s) (λx s'=>gL x s s') ((qk s e w x y).rd s):=by
 unfold qk;dsimp only [T.rd,T.rl,T.rv];obtain ⟨⟨h0,h1⟩,hA,hL,⟨h2,h3⟩,⟨h4,h5⟩,h6,⟨h7,h8,h9,h10⟩,hk,h11⟩:=hI
 have hll:s.Co.length<=s.i.toNat:=xx
 refine AG (λc1=>?_) (λc1=>?_)
 ·refine AG (λc2=>?_) (λc2=>?_)
  ·have c1:s.i<s.k:=AO
   have hm:s.i<(s.m.length:Int):=A0
   exact absurd (he.symm.trans (ajF (hk s.i h0 hm))) D8
  ·refine AG (λc3=>?_) (λc3=>?_)
   ·have c1:s.i<s.k:=AO
    have hm:s.i<(s.m.length:Int):=A0
    have hx':nxA (AH s.m s.i) (Bx s.rs s.i) (gi s.offers s.i)=x:=hx
    have hy':nxS (AH s.m s.i) (Bx s.rs s.i) (gi s.offers s.i)=y:=hy
    have hA':∀j,0<=j->j<s.i+1->gi (s.Fx.set s.i.toNat x) j=nxA (AH s.m j) (Bx s.rs j) (gi s.offers j)/\Bx (s.next.set s.i.toNat (x,y)) j=(nxA (AH s.m j) (Bx s.rs j) (gi s.offers j),nxS (AH s.m j) (Bx s.rs j) (gi s.offers j)):=λj j0 j1=>by
     exact aKy
    have hs:s.i.toNat+1=(s.i+1).toNat:=A0
    have hg:gi (Lp s.m s.rs s.offers s.m.length) (s.i.toNat:Nat)=x:=aNS
    have hw':nwB s.m s.N7 s.tick (s.i.toNat:Nat) x=w:=by rw [BQ h0,<-hw,h4,h5];rw [<-hx]
    rw [AI (x:=s.i+1),AI (x:=s.n+1)]
    have hn:s.n+1-((List.length (s.Co++[(s.n,s.i,x,s.tick,12)]):Nat):Int)=s.n-(s.Co.length:Int):=by
     exact aLp
    refine ⟨⟨⟨AP,AP⟩,hA',?_,⟨h2,h3⟩,⟨h4,h5⟩,h6,⟨h7,h8,aNF,aNA⟩,hk,by simp only;rw [hn];exact h11⟩,by simp only [Wn];omega⟩
    simp only;rw [hn,<-hs,H9,<-hL,hg,hw',c3,AE rfl,BQ h0,show s.n-(s.Co.length:Int)+(s.Co.length:Int)=s.n by omega]
   ·have c1:s.i<s.k:=AO
    have hm:s.i<(s.m.length:Int):=A0
    have hx':nxA (AH s.m s.i) (Bx s.rs s.i) (gi s.offers s.i)=x:=hx
    have hy':nxS (AH s.m s.i) (Bx s.rs s.i) (gi s.offers s.i)=y:=hy
    have hA':∀j,0<=j->j<s.i+1->gi (s.Fx.set s.i.toNat x) j=nxA (AH s.m j) (Bx s.rs j) (gi s.offers j)/\Bx (s.next.set s.i.toNat (x,y)) j=(nxA (AH s.m j) (Bx s.rs j) (gi s.offers j),nxS (AH s.m j) (Bx s.rs j) (gi s.offers j)):=λj j0 j1=>by
     exact aKy
    have hs:s.i.toNat+1=(s.i+1).toNat:=A0
    have hg:gi (Lp s.m s.rs s.offers s.m.length) (s.i.toNat:Nat)=x:=aNS
    have hw':nwB s.m s.N7 s.tick (s.i.toNat:Nat) x=w:=AA
    rw [AI (x:=s.i+1)];refine ⟨⟨⟨AP,AP⟩,hA',?_,⟨h2,h3⟩,⟨h4,h5⟩,h6,⟨h7,h8,aNF,aNA⟩,hk,h11⟩,by simp only [Wn];omega⟩
    simp only;rw [<-hs,H9,<-hL,hg,hw',c3,AD Aa,FJ]
 ·have c1:s.k<=s.i:=AO
  have hi:s.i.toNat=s.m.length:=A0
  refine ⟨rfl,adN (by rw [h9];exact Jt.symm) λj j0 j1=>?_,aqc (by rw [h10,cS]) λj j0 j1=>?_,by have hL':=hL;rw [hi] at hL';exact hL'⟩
  ·rw [Lp,Jt] at j1
   rw [Lp,SZ j0 j1];exact (hA j j0 A0).1
  ·rw [cS] at j1
   rw [azP j0 j1];exact (hA j j0 A0).2
def azO:Da Qz Wn gL vg:=λs hI=>ash s hI _ _ _ _ rfl rfl rfl rfl
def RU:AS LH:=⟨0,108,[2,4,5,12,13,14,15,16,17,19,20,21,57,58,59],[.nl 21 114 AX],λs=>[s.rs,s.tick,s.n,.v (.slice none 0 0),.v (.slice none 0 0),.v (.slice none 0 0),s.t15,.own 0 0,.xl A7 s.offers,.os 1 1 0 (s.Fx.length),.os 2 2 0 (s.next.length),.os 3 5 0 (s.Co.length),s.m,s.k,s.i],λs=>[⟨[s.ahA,s.c1,s.c2,s.c3,s.c4,s.N7,s.ag3,s.TE,.xl A7 s.asH],207,.cl,true⟩,bV 3 A7 s.Fx,bV 118 BD s.next,bV 114 AX s.Co],λv b=>⟨Az BD v 0,AK v 1,AK v 2,AK v 6,Az A7 v 8,Az Au v 12,AK v 13,AK v 14,AF Ao b 0 0,AF .str b 0 1,AF B8 b 0 2,AF Au b 0 3,AF B9 b 0 4,AF AX b 0 5,AF BO b 0 6,Ae b 0 7,AF A7 b 0 8,Ab A7 b 1,Ab BD b 2,Ab AX b 3⟩,vg,λs r=> {s with n:=r.n,t15:=r.t15,i:=r.i,Fx:=r.Fx,next:=r.next,Co:=r.Co},λs=>s,λ_ s=>s,[.ret,.exit 0],YT,Qz,Wn⟩
abbrev Ii:=RU.run
abbrev qK:=RU.Am
def awr:Rq Qz vg:=by
 intro s hI;refine ⟨λc1=>⟨?_,?_,?_,λc2=>⟨A8,A8,A8,trivial⟩,λc2=>⟨?_,?_,?_,?_,?_,λc3=>⟨?_,?_,?_,?_,trivial⟩,λc3=>⟨?_,?_,A8,trivial⟩⟩⟩,λc1=>⟨A8,A8,A8,trivial⟩⟩
 all_goals ((obtain ⟨⟨h0,h1⟩,hA,hL,⟨h2,h3⟩,⟨h4,h5⟩,h6,⟨h7,h8,h9,h10⟩,hk,h11⟩:=hI;have hll:s.Co.length<=s.i.toNat:=xx;(try simp only [AY] at c1);have hl3:s.c3.length=s.m.length:=Ax List.length h4;first|omega|exact ⟨rfl,AJ⟩ |(refine ⟨A0,?_,?_⟩<;>simp only [BX,Bh]<;>omega)))
def acO:List Bd:=[atv,au5,au7,atx,au8]
def sq:RU.Ok:={}
def sO:RU.Pf (gL):=⟨alI,λs h=>rfl,azO,awr⟩
def aod:SA 0 aEa RU:=s1 sq sO acO kN
def asf:Fi YT Qz gL qK Ii:=AS.fin sq sO
def ase:Rs YT qK Ii (λs:LH=>s.n-(s.Co.length:Int)) (λx s' (v:Int)=>s'.n-(s'.Co.length:Int)=v):=DL sq sO (λs hI=>by
  obtain ⟨⟨h0,h1⟩,hA,hL,⟨h2,h3⟩,⟨h4,h5⟩,h6,⟨h7,h8,h9,h10⟩,hk,h11⟩:=hI
  have hll:s.Co.length<=s.i.toNat:=xx
  refine AG (λc1=>?_) (λc1=>?_)
  ·refine AG (λc2=>?_) (λc2=>?_)
   ·rfl
   ·refine AG (λc3=>?_) (λc3=>?_)
    ·have c1:s.i<s.k:=AA
     rw [AI (x:=s.n+1)]
     show s.n+1-((List.length (s.Co++[_]):Nat):Int)=s.n-(s.Co.length:Int)
     exact aLp
    ·rfl
  ·rfl)
def aIZ:List LV->T LV
 | .agg a::r=>s5 a λcs os ks gs bs=>(match r with
  | [.xl (.pair (.int .i64) (.pair (.int .i64) (.pair (.int .i64) (.pair (.int .i64) (.int .i64))))) l,.xl (.pair (.int .i64) (.int .i64)) rs,.xl (.pair .bool (.pair (.int .i64) (.pair (.int .i64) (.int .i64)))) d,.v (.int .i64 t),.v (.int .i64 n)]=> .req (IJ d t/\d.length<=19) (.ok (.AM [.xl A7 (deA cs os ks gs bs l rs d t n),deR cs os ks gs bs l rs d t n,deL cs os ks gs bs l rs d t n,deE cs os ks gs bs l rs d t n]))
  |_=> .no)
 |_=> .no
def ak (cs:List Cd) (os:List ByteArray) (ks:List Ko) (gs:List Ch) (bs:List Ba) (l:List Le) (rs:List Ra) (d:List Dm) (t n:Int):LH:=letI a:=ofO cs os ks gs bs l d t (Gs d t);(⟨rs,t,n,0,a,gs,(gs.length:Int),0,cs,os,ks,gs,bs,l,d,t,Gs d t,List.replicate (List.length a:Int).toNat (0:Int),List.replicate (List.length a:Int).toNat ((0:Int),(0:Int)),([]:List Le)⟩:LH)
def aJ0:=vm (S:=aIZ) func73 acO kN (L:=(λi=>if i=11 then RU.lp else Af i)) (λb hb=>by
 rw [show B6 _=[aEa] by kernel_rfl] at hb
 simp only [B1,Bv,Bw] at hb;subst hb;exact aod) (λargs lv h=>by
 unfold aIZ at h;split at h
 case h_2=>cases h
 replace h:=I8 h
 obtain ⟨cs,os,ks,gs,bs,rfl,h⟩:=h;split at h
 ·rename_i l rs d t n
  refine Aj (letI a:=ak cs os ks gs bs l rs d t n;letI b:=(List.length (ofO cs os ks gs bs l d t (Gs d t)):Int);.req (IJ d t/\d.length<=19) (.br (!(J6 cs os ks gs bs l rs d t n)) (.ok (.AM [.xl A7 ([]:List Int),.xl BD ([]:List Ra),.xl AX ([]:List Le),(1:Int)])) (.req (d.length=gs.length/\G1 cs os ks gs bs (C4 gs) (Ip gs d) (Gs d t)=true/\LR l (gs.length:Int) t=true/\G1 cs os ks gs bs (Hg gs l t) (Fa cs os ks gs bs (C4 gs) (Ip gs d) (Gs d t)) (Gs d t)=true) (.br ((0:Int) !=0) (.ok (.AM [.xl A7 ([]:List Int),.xl BD ([]:List Ra),.xl AX ([]:List Le),(1:Int)])) (.rm 8 b (.rm 16 b (.re b.toNat (List.replicate b.toNat (0:Int)) (.re b.toNat (List.replicate b.toNat ((0:Int),(0:Int))) (.r0 Le (.req (RU.q a) (.br (Bo (qK a) (.ret)) (.ok (.AM [.xl A7 ([]:List Int),.xl BD ([]:List Ra),.xl AX ([]:List Le),(Ii a).t15])) (.rz (Ii a).Fx (.rz (Ii a).next (.rz (Ii a).Co (.ok (.AM [.xl A7 (((Ii a).Fx.drop 0).take (List.length (Ii a).Fx)),(((Ii a).next.drop 0).take (List.length (Ii a).next)),(((Ii a).Co.drop 0).take (List.length (Ii a).Co)),(0:Int)])))))))))))))))) ?_;obtain ⟨hw,rfl⟩:=h;refine ⟨hw,λc=>?_,λc=>?_⟩
  ·unfold deA deR deL deE
   rw [ntW c];rfl
  have c:=nfW c
  have V:=ahh c
  have ol:(ofO cs os ks gs bs l d t (Gs d t)).length=gs.length:=(abA V).1
  have hE:YT (ak cs os ks gs bs l rs d t n):=⟨rfl,rfl,⟨rfl,by have:=V.gl;show (gs.length:Int)<=16;omega⟩,A8,⟨by have:=(Ib V.les).1;show (l.length:Int)<=1000;omega,V.tb⟩,⟨V.rl,ol,by show (List.replicate _ (0:Int)).length=gs.length;rw [CR];omega,by show (List.replicate _ ((0:Int),(0:Int))).length=gs.length;rw [CR];omega⟩,azN V,by have:=V.nb;show 1<=n-(0:Int);omega,by have:=V.nb;show n-(0:Int)<=999900;omega⟩
  obtain ⟨_,_,q1,q2,q3,q4⟩:=asf _ hE
  have hn:=ase _ hE
  have hn:=hn.trans (O6 n)
  have q2:(Ii (ak cs os ks gs bs l rs d t n)).Fx=deA cs os ks gs bs l rs d t n:=q2.trans (by unfold deA;rw [AE c];rfl)
  have q3:(Ii (ak cs os ks gs bs l rs d t n)).next=deR cs os ks gs bs l rs d t n:=q3.trans (by unfold deR;rw [AE c];rfl)
  rw [hn] at q4
  have q4:(Ii (ak cs os ks gs bs l rs d t n)).Co=deL cs os ks gs bs l rs d t n:=q4.trans (by unfold deL;rw [AE c];rfl)
  have gl:=V.gl
  refine ⟨⟨V.dl,aa8 V.si,asW V,ab9 V⟩,λc2=>absurd c2 Aa,λ_=>?_⟩
  refine ⟨by rw [ol];omega,by rw [ol];omega,⟨rfl,AJ⟩,⟨rfl,AJ⟩,A8,⟨hE,rfl,rfl⟩,?_⟩
  rw [q1];refine ⟨λh=>Ah,λ_=>⟨A0,A0,A0,?_⟩⟩
  show LV.AM [LV.xl _ _,LV.xl _ _,LV.xl _ _,_]=_
  rw [CJ,Dv,CJ,Dv,CJ,Dv,q2,q3,q4];unfold deE;rw [AE c]
 ·cases h)
structure NM where
 t5:Int
 t23:List Int
 (t24 t25:Int)
 B5:List Cd
 BW:List ByteArray
 C0:List Ko
 BH:List Ch
 C1:List Ba
 Cz:List Int
def aEN:=bN f68 0
def ua (s:NM):T (Rd NM):=
 .br (decide (s.t25<s.t24)) (.ix s.t25 (s.t23.length) (.br ((decide ((gi s.t23 s.t25)<0)) ||(decide ((gi s.t23 s.t25)>80))) (.so (.ret) {s with t5:=(1:Int)}) (.nx {s with t25:=A9 (s.t25+1)}))) (.so (.exit 0) s)
def ic (s:NM):Prop:=s.t5=0/\s.t25=0/\s.t24=(s.t23.length:Int)/\s.t24<=1000/\∀k:Nat,k<s.t23.length->0<=gi s.t23 k/\gi s.t23 k<=80
def Yi (s:NM):Prop:=s.t5=0/\(0<=s.t25/\s.t25<=s.t24)/\s.t24=(s.t23.length:Int)/\s.t24<=1000/\∀k:Nat,k<s.t23.length->0<=gi s.t23 k/\gi s.t23 k<=80
def rI (s:NM):Nat:=(s.t24-s.t25).toNat
def zN (x:Ex) (s s':NM):Prop:=x=.exit 0/\s'.t5=0
def ajI:∀s,ic s->Yi s:=by
 rintro s ⟨h9,h0,h1,h2,h3⟩
 exact ⟨h9,A0,h1,h2,h3⟩
def axT:Da Yi rI zN ua:=by
 intro s hI;obtain ⟨h9,⟨h0,h1⟩,h2,h3,h5⟩:=hI;refine AG (λc1=>AG (λc2=>?_) (λc2=>?_)) (λc1=>?_)
 ·exfalso
  have c1:s.t25<s.t24:=AA
  have:=h5 s.t25.toNat A0
  rw [BQ h0] at this;simp only [Cr,AY] at c2;omega
 ·have c1:s.t25<s.t24:=AA
  rw [AI (x:=s.t25+1)];exact ⟨⟨h9,⟨AA,AA⟩,h2,h3,h5⟩,by simp only [rI];omega⟩
 ·exact ⟨rfl,h9⟩
def RC:AS NM:=⟨0,65,[2,3,4,5,23,24,25],[],λs=>[.own 0 0,.own 1 0,.v (.slice none 0 0),s.t5,.xl A7 s.t23,s.t24,s.t25],λs=>[⟨[s.B5,s.BW,s.C0,s.BH,s.C1],28,.cl,false⟩,⟨[.xl A7 s.Cz],29,.cl,false⟩],λv b=>⟨AK v 3,Az A7 v 4,AK v 5,AK v 6,AF Ao b 0 0,AF .str b 0 1,AF B8 b 0 2,AF Au b 0 3,AF B9 b 0 4,AF A7 b 1 0⟩,ua,λs r=> {s with t5:=r.t5,t25:=r.t25},λs=>s,λ_ s=>s,[.ret,.exit 0],ic,Yi,rI⟩
abbrev mJ:=RC.run
abbrev aGr:=RC.Am
def ava:Rq Yi ua:=by
 intro s hI;refine ⟨λc1=>⟨?_,λ_=>trivial,λ_=>trivial⟩,λ_=>trivial⟩
 ·(simp only [AY] at c1;obtain ⟨h9,⟨h0,h1⟩,h2,h3⟩:=hI;omega)
def dK:List Bd:=[Oi,cx]
def aQf:As:=kI dK (l0 dK)
def aPk:RC.Ok:={}
def aO7:RC.Pf (zN):=⟨ajI,λs h=>rfl,axT,ava⟩
def apH:SA 0 aEN RC:=s1 aPk aO7 dK aQf
def aqr:Fi ic Yi zN aGr mJ:=AS.fin aPk aO7
def vP:Array Tmp×Code×Code:=((Ia (f68.body.getD .skip))[0]?).getD (#[],.skip,.skip)
def aiW:Array Tmp:=vP.1
def ajW:Code:=vP.2.1
def aiB:Code:=vP.2.2
structure JV where
 B5:List Cd
 BW:List ByteArray
 C0:List Ko
 BH:List Ch
 C1:List Ba
 c:Int
 BZ:List Cd
 GG:List ByteArray
 GA:List Ko
 GB:List Ch
 GH:List Ba
 b1:List Int
 b3:List (Int×Ra)
 b4:Int
 cW:ByteArray
 (fw IX dp dq cV mN nT:Int)
 st:LS
def uZ (s:JV):T (Rd JV):=letI b:=gi s.b1 s.b4;letI d:=s.c.toNat<s.b3.length;letI e:=Ua s.b3 s.c.toNat b;letI g:=s.b3.length;letI h:=s.B5.length;letI i:=Ag s.B5 s.c;letI k:=(Bn .i64 s.IX 4) !=0;letI m:=s.c.toNat<List.length e;letI a:=XK s.b3 s.c.toNat b;letI f:=Ua a s.c.toNat b;letI j:=s.c.toNat<List.length a;letI l:=s.c.toNat<List.length f;.br (decide (s.c>=0)) (.ix s.c g (.ix s.b4 (s.b1.length) (.br ((Bn .i64 s.IX 1) !=0) (.req d (.req d (.br ((Bn .i64 s.IX 2) !=0) (.req j (.req j (.br k (.req l (.req l (.ix s.c h (.re g (Kj f s.c.toNat b) (.nx {s with c:=i.2.1,b3:=Kj f s.c.toNat b}))))) (.ix s.c h (.re g f (.nx {s with c:=i.2.1,b3:=f})))))) (.br k (.req j (.req j (.ix s.c h (.re g (Kj a s.c.toNat b) (.nx {s with c:=i.2.1,b3:=Kj a s.c.toNat b}))))) (.ix s.c h (.re g a (.nx {s with c:=i.2.1,b3:=a}))))))) (.br ((Bn .i64 s.IX 2) !=0) (.req d (.req d (.br k (.req m (.req m (.ix s.c h (.re g (Kj e s.c.toNat b) (.nx {s with c:=i.2.1,b3:=Kj e s.c.toNat b}))))) (.ix s.c h (.re g e (.nx {s with c:=i.2.1,b3:=e})))))) (.br k (.req d (.req d (.ix s.c h (.re g (Kj s.b3 s.c.toNat b) (.nx {s with c:=i.2.1,b3:=Kj s.b3 s.c.toNat b}))))) (.ix s.c h (.rl s.b3 (.nx {s with c:=i.2.1})))))))) (.rl s.b3 (.so (.exit 0) s))
def U6 (s:JV):Prop:=s.st=.ready/\Fe s.B5=true/\s.c<(s.B5.length:Int)/\s.b3.length=s.B5.length/\(0<=s.b4/\s.b4<(s.b1.length:Int))
def Yh (s:JV):Prop:=s.st=.ready/\Fe s.B5=true/\s.c<(s.B5.length:Int)/\s.b3.length=s.B5.length/\(0<=s.b4/\s.b4<(s.b1.length:Int))
def aB6 (s:JV):Nat:=(s.c+1).toNat
def zL (x:Ex) (s s':JV):Prop:=x=.exit 0/\s'.c<0
def ajG:∀s,U6 s->Yh s:=by
 exact λs h=>h
def axO:Da Yh aB6 zL uZ:=by
 intro s hI;obtain ⟨h0,h1,h2,h3,h4⟩:=hI;refine AG (λc1=>?_) (λc1=>?_)
 ·have c1:0<=s.c:=AO
  have:=Q8 h1 c1 h2
  exact AG (λ_=>AG (λ_=>AG (λ_=>⟨⟨h0,h1,AP,SV,h4⟩,Pg⟩) (λ_=>⟨⟨h0,h1,AP,SV,h4⟩,Pg⟩)) (λ_=>AG (λ_=>⟨⟨h0,h1,AP,SV,h4⟩,Pg⟩) (λ_=>⟨⟨h0,h1,AP,SV,h4⟩,Pg⟩))) (λ_=>AG (λ_=>AG (λ_=>⟨⟨h0,h1,AP,SV,h4⟩,Pg⟩) (λ_=>⟨⟨h0,h1,AP,SV,h4⟩,Pg⟩)) (λ_=>AG (λ_=>⟨⟨h0,h1,AP,SV,h4⟩,Pg⟩) (λ_=>⟨⟨h0,h1,AP,AA,h4⟩,Pg⟩)))
 ·have c1:¬(0<=s.c):=AO
  exact SQ
def YZ:AS JV:=⟨7,18,[0,2,4],[],λs=>[.CN 6,xQ 5 [s.B5,s.BW,s.C0,s.BH,s.C1],s.c],λs=>[⟨[s.BZ,s.GG,s.GA,s.GB,s.GH],28,.cl,false⟩,⟨[.xl A7 s.b1],29,.cl,false⟩,⟨[.os 3 3 0 (s.b3.length)],158,.cl,false⟩,⟨[],166,.vec (.pair A7 BD) s.b3,false⟩,⟨[s.b4],3,.cl,false⟩,⟨[.v (.string s.cW),s.fw,s.IX,s.dp,s.dq,s.cV,s.mN,s.nT],91,.cl,false⟩,⟨[.junk,.junk,.junk,.own 1 0,.junk,.junk,.junk,.junk,.own 2 0,.own 4 0,.own 5 0,.junk,.junk,.junk,.junk,.junk,.junk,.junk,.junk,.junk,.junk,.junk,.junk,.junk,.junk,.junk,.junk,.junk,.junk,.junk,.junk,.junk,.junk,.junk,.junk,.junk,.junk,.junk,.junk,.junk,.junk,.junk,.junk,.junk,.junk,.junk,.junk,.junk,.junk,.junk,.junk,.junk,.junk,.junk,.junk,.junk,.junk,.junk,.junk,.junk,.junk,.junk,.junk,.junk,.junk],0,.Cc aiW ajW aiB s.st,false⟩],λv b=>⟨Ai Ao (BM (v.getD 1 .junk) 0),Ai .str (BM (v.getD 1 .junk) 1),Ai B8 (BM (v.getD 1 .junk) 2),Ai Au (BM (v.getD 1 .junk) 3),Ai B9 (BM (v.getD 1 .junk) 4),AK v 2,AF Ao b 0 0,AF .str b 0 1,AF B8 b 0 2,AF Au b 0 3,AF B9 b 0 4,AF A7 b 1 0,Ab (.pair A7 BD) b 3,Ae b 4 0,gSr (B3 (CP b 5) 0),Ae b 5 1,Ae b 5 2,Ae b 5 3,Ae b 5 4,Ae b 5 5,Ae b 5 6,Ae b 5 7,.ready⟩,uZ,λs r=> {r with B5:=s.B5,BW:=s.BW,C0:=s.C0,BH:=s.BH,C1:=s.C1,BZ:=s.BZ,GG:=s.GG,GA:=s.GA,GB:=s.GB,GH:=s.GH,b1:=s.b1,b4:=s.b4,cW:=s.cW,fw:=s.fw,IX:=s.IX,dp:=s.dp,dq:=s.dq,cV:=s.cV,mN:=s.mN,nT:=s.nT,st:=s.st},λs=> {s with st:=.ready},λx s=> {s with st:=(match x with| .exit 0=> .ready|_=> .ready)},[.exit 0],U6,Yh,aB6⟩
abbrev Sz:=YZ.run
abbrev aGq:=YZ.Am
def avY:Rq Yh uZ:=by
 intro s hI;refine ⟨λc1=>⟨?_,?_,λc2=>⟨?_,?_,λc3=>⟨?_,?_,λc4=>⟨?_,?_,?_,?_,trivial⟩,λc4=>⟨?_,?_,trivial⟩⟩,λc3=>⟨λc5=>⟨?_,?_,?_,?_,trivial⟩,λc5=>⟨?_,?_,trivial⟩⟩⟩,λc2=>⟨λc6=>⟨?_,?_,λc7=>⟨?_,?_,?_,?_,trivial⟩,λc7=>⟨?_,?_,trivial⟩⟩,λc6=>⟨λc8=>⟨?_,?_,?_,?_,trivial⟩,λc8=>⟨?_,A8,trivial⟩⟩⟩⟩,λc1=>⟨A8,trivial⟩⟩
 all_goals ((obtain ⟨h0,h1,h2,h3,h4⟩:=hI;simp only [AY,Lv] at c1;first|omega|(simp only [aB2,aAz,aAy];omega) |simp [aB2,aAz,aAy]))
def sh:YZ.Ok:={}
def qh:YZ.Pf (zL):=⟨ajG,λs h=>by
 obtain ⟨B5,BW,C0,BH,C1,c,BZ,GG,GA,GB,GH,b1,b3,b4,cW,fw,IX,dp,dq,cV,mN,nT,st⟩:=s
 have e:=h.1
 subst e;rfl,axO,avY⟩
def aFu:=s2 (b:=bN f130 0) sh qh dK aQf
def aqo:Fi U6 Yh zL aGq Sz:=AS.fin sh qh
def amX (s:JV) (hE:U6 s):(λs:JV=>HA s.B5 s.IX (gi s.b1 s.b4) s.c s.b3) (Sz s)=(λs:JV=>HA s.B5 s.IX (gi s.b1 s.b4) s.c s.b3) s:=by
 exact AS.KO sh qh (λs:JV=>HA s.B5 s.IX (gi s.b1 s.b4) s.c s.b3) (λs hI=>by
  obtain ⟨h0,h1,h2,h3,h4⟩:=hI
  have hp:=axi (ph:=s.IX) (v:=gi s.b1 s.b4) (l:=s.b3) h1 h2
  refine AG (λc1=>?_) (λc1=>rfl)
  have c1:0<=s.c:=AA
  rw [AE c1,agv A0] at hp
  refine AG (λd1=>AG (λd2=>AG (λd4=>?_) (λd4=>?_)) (λd2=>AG (λd4=>?_) (λd4=>?_))) (λd1=>AG (λd2=>AG (λd4=>?_) (λd4=>?_)) (λd2=>AG (λd4=>?_) (λd4=>?_)))<;>
   (show HA _ _ _ _ _=HA _ _ _ _ _;rw [hp];simp only [d1,d2,d4,Bm,HP,FL])) s hE
def aqn (s:JV) (hE:U6 s):aGq s=.exit 0/\(Sz s).b3=HA s.B5 s.IX (gi s.b1 s.b4) s.c s.b3:=by
 have q3:=amX s hE
 obtain ⟨s',hI,q1,q2⟩:=aqo s hE;refine ⟨q1,?_⟩
 have q3:HA s.B5 s.IX (gi s.b1 s.b4) (Sz s).c (Sz s).b3=HA s.B5 s.IX (gi s.b1 s.b4) s.c s.b3:=q3
 rw [<-q3];unfold HA;rw [ldW,AD A0]
structure MK where
 t5:Int
 t41:List Ch
 (t42 t43:Int)
 B5:List Cd
 BW:List ByteArray
 C0:List Ko
 BH:List Ch
 C1:List Ba
 Cz:List Int
 b3:List (Int×Ra)
def aEM:=bN f68 1
def nL (s:MK):JV:=(⟨s.B5,s.BW,s.C0,s.BH,s.C1,(AH s.t41 s.t43).2.1,s.B5,s.BW,s.C0,s.BH,s.C1,s.Cz,s.b3,s.t43,(AH s.t41 s.t43).1,(AH s.t41 s.t43).2.1,(AH s.t41 s.t43).2.2.1,(AH s.t41 s.t43).2.2.2.1,(AH s.t41 s.t43).2.2.2.2.1,(AH s.t41 s.t43).2.2.2.2.2.1,(AH s.t41 s.t43).2.2.2.2.2.2.1,(AH s.t41 s.t43).2.2.2.2.2.2.2,.ready⟩:JV)
def ej (s:MK):T (Rd MK):=
 .br (decide (s.t43<s.t42)) (.ix s.t43 (s.t41.length) (.rl s.b3 (.req (YZ.q (nL s)) (.rl (Sz (nL s)).b3 (.nx {s with t43:=A9 (s.t43+1),b3:=(Sz (nL s)).b3}))))) (.rl s.b3 (.so (.exit 2) s))
def ib (s:MK):Prop:=s.t43=0/\(s.t42=(s.t41.length:Int)/\s.t42<=1000/\Fe s.B5=true/\atB s.B5 s.t41=true/\s.Cz.length=s.t41.length)/\s.b3=List.replicate s.B5.length (Ty.dflt (.pair A7 BD))
def U2 (s:MK):Prop:=(0<=s.t43/\s.t43<=s.t42)/\(s.t42=(s.t41.length:Int)/\s.t42<=1000/\Fe s.B5=true/\atB s.B5 s.t41=true/\s.Cz.length=s.t41.length)/\s.b3=ldS s.B5 s.t41 s.Cz s.t43.toNat
def rH (s:MK):Nat:=(s.t42-s.t43).toNat
def zM (x:Ex) (s s':MK):Prop:=x=.exit 2/\s'.b3=ldS s'.B5 s'.t41 s'.Cz s'.t41.length
def ajH:∀s,ib s->U2 s:=by
 rintro s ⟨h0,h1,h2⟩
 have:=h1.1
 exact ⟨A0,h1,by rw [h2,h0];rfl⟩
def aQ4 (s:MK) (hI:U2 s) (c1:s.t43<s.t42):U6 (nL s):=by
 obtain ⟨⟨h0,h1⟩,⟨h2,h3,h4,h5,h6⟩,h7⟩:=hI;refine ⟨rfl,h4,tz h5 h0 A0,?_,⟨h0,?_⟩⟩
 ·show s.b3.length=_
  rw [h7];exact qR h4 h5 _ A0
 ·show s.t43<(s.Cz.length:Int)
  omega
def axR:Da U2 rH zM ej:=by
 intro s hI;unfold ej;dsimp only [T.rd,T.rl,T.rv]
 have hin:=λc1=>aQ4 s hI c1
 obtain ⟨⟨h0,h1⟩,⟨h2,h3,h4,h5,h6⟩,h7⟩:=hI;refine AG (λc1=>?_) (λc1=>?_)
 ·have c1:s.t43<s.t42:=AO
  obtain ⟨_,q⟩:=aqn _ (hin c1);rw [AI (x:=s.t43+1)];refine ⟨⟨⟨AP,AP⟩,⟨h2,h3,h4,h5,h6⟩,?_⟩,by simp only [rH];omega⟩
  simp only;rw [show (s.t43+1).toNat=s.t43.toNat+1 by omega,q]
  show HA s.B5 (AH s.t41 s.t43).2.2.1 (gi s.Cz s.t43) (AH s.t41 s.t43).2.1 s.b3=HA s.B5 (AH s.t41 (s.t43.toNat:Int)).2.2.1 (gi s.Cz (s.t43.toNat:Int)) (AH s.t41 (s.t43.toNat:Int)).2.1 (ldS s.B5 s.t41 s.Cz s.t43.toNat)
  rw [BQ h0,h7]
 ·have c1:s.t42<=s.t43:=AO
  refine ⟨rfl,?_⟩;rw [h7,show s.t43.toNat=s.t41.length by omega]
def RB:AS MK:=⟨0,65,[2,3,4,5,8,41,42,43],[],λs=>[.own 0 0,.own 1 0,.v (.slice none 0 0),s.t5,.own 2 0,s.t41,s.t42,s.t43],λs=>[⟨[s.B5,s.BW,s.C0,s.BH,s.C1],28,.cl,false⟩,⟨[.xl A7 s.Cz],29,.cl,false⟩,⟨[.os 3 3 0 (s.b3.length)],158,.cl,false⟩,⟨[],166,.vec (.pair A7 BD) s.b3,false⟩],λv b=>⟨AK v 3,Az Au v 5,AK v 6,AK v 7,AF Ao b 0 0,AF .str b 0 1,AF B8 b 0 2,AF Au b 0 3,AF B9 b 0 4,AF A7 b 1 0,Ab (.pair A7 BD) b 3⟩,ej,λs r=> {r with t5:=s.t5,t41:=s.t41,t42:=s.t42,B5:=s.B5,BW:=s.BW,C0:=s.C0,BH:=s.BH,C1:=s.C1,Cz:=s.Cz},λs=>s,λ_ s=>s,[.exit 2],ib,U2,rH⟩
abbrev aBT:=RB.run
abbrev aru:=RB.Am
def avZ:Rq U2 ej:=by
 intro s hI;refine ⟨λc1=>⟨?_,A8,?_,A8,trivial⟩,λc1=>⟨A8,trivial⟩⟩
 ·(obtain ⟨⟨h0,h1⟩,⟨h2,h3⟩,h4⟩:=hI;simp only [AY] at c1;omega)
 ·exact ⟨aQ4 s hI AO,rfl,rfl⟩
def uI:List Bd:=[Oi,cx]
def az2:As:=kI uI (la 1 func130 aFu (l0 uI))
def aPj:RB.Ok:={}
def aO6:RB.Pf (zM):=⟨ajH,λs h=>rfl,axR,avZ⟩
def apG:SA 0 aEM RB:=s1 aPj aO6 uI az2
def aqp:Fi ib U2 zM aru aBT:=AS.fin aPj aO6
def J3 (cs:List Cd) (gs:List Ch) (am:List Int):List Ld:=if am.length=gs.length then ldS cs gs am gs.length else []
def JA (gs:List Ch) (am:List Int):Int:=if am.length=gs.length then 0 else 1
def aRj:List LV->T LV
 | .agg a::r=>s5 a λcs os ks gs bs=>(match r with
  | [.xl (.int .i64) am]=> .req (BF cs os ks gs bs=true/\(am.length=gs.length->∀k:Nat,k<am.length->0<=gi am k/\gi am k<=80)) (.ok (.AM [.xl (.pair A7 BD) (J3 cs gs am),JA gs am]))
  |_=> .no)
 |_=> .no
def uH:List Bd:=[Oi,cx]
def az1:As:=kI uH (la 1 func130 aFu (l0 uH))
def aaH:=vm (S:=aRj) func68 uH az1 (L:=(λi=>if i=4 then RC.lp else if i=11 then RB.lp else Af i)) (λb hb=>by
 rw [show B6 _=[aEN,aEM] by kernel_rfl] at hb
 simp only [B1,Bv,Bw] at hb;rcases hb with rfl|rfl
 ·exact apH
 ·exact apG) (λargs lv h=>by
 unfold aRj at h;split at h
 case h_2=>cases h
 replace h:=I8 h
 obtain ⟨cs,os,ks,gs,bs,rfl,h⟩:=h;split at h
 ·rename_i am
  refine Aj (letI e:=(am.length:Int);letI f:=(gs.length:Int);letI g:=(cs.length:Int);letI b:=(mJ (⟨0,am,e,0,cs,os,ks,gs,bs,am⟩:NM));letI d:=(List.replicate g.toNat ((0:Int),((0:Int),(0:Int))));letI a:=(aBT (⟨b.t5,gs,f,0,cs,os,ks,gs,bs,am,d⟩:MK));.br ((!(BF cs os ks gs bs)) ||(e !=f)) (.ok (.AM [.xl (.pair A7 BD) ([]:List (Int×Ra)),(1:Int)])) (.req (RC.q (⟨0,am,e,0,cs,os,ks,gs,bs,am⟩:NM)) (.br (Bo (aGr (⟨0,am,e,0,cs,os,ks,gs,bs,am⟩:NM)) (.ret)) (.ok (.AM [.xl (.pair A7 BD) ([]:List (Int×Ra)),b.t5])) (.rm 24 g (.re g.toNat d (.req (RB.q (⟨b.t5,gs,f,0,cs,os,ks,gs,bs,am,d⟩:MK)) (.rz a.b3 (.ok (.AM [.xl (.pair A7 BD) ((a.b3.drop 0).take (List.length a.b3)),(0:Int)]))))))))) ?_;obtain ⟨⟨hv,hr⟩,rfl⟩:=h
  by_cases hl:am.length=gs.length
  rotate_left
  ·refine ⟨λ_=>?_,λc=>?_⟩
   ·unfold J3 JA
    rw [AD hl,AD hl];rfl
   ·rw [hv] at c;simp at c;omega
  have hr:=hr hl
  unfold J3 JA;rw [AE hl,AE hl]
  have hb:=(D9.1 hv).1
  have hA:ic ⟨0,am,(am.length:Int),0,cs,os,ks,gs,bs,am⟩:=⟨rfl,rfl,rfl,by show (am.length:Int)<=1000;omega,hr⟩
  obtain ⟨_,_,q1,q5⟩:=aqr _ hA
  have hB:ib ⟨(mJ ⟨0,am,(am.length:Int),0,cs,os,ks,gs,bs,am⟩).t5,gs,(gs.length:Int),0,cs,os,ks,gs,bs,am,List.replicate (cs.length:Int).toNat ((0:Int),((0:Int),(0:Int)))⟩:=⟨rfl,⟨rfl,xa,oS hv,oU hv,hl⟩,by
   show List.replicate (cs.length:Int).toNat _=List.replicate cs.length _
   rw [Bs];rfl⟩
  obtain ⟨_,_,q6,q7⟩:=aqp _ hB
  have q7:(aBT ⟨(mJ ⟨0,am,(am.length:Int),0,cs,os,ks,gs,bs,am⟩).t5,gs,(gs.length:Int),0,cs,os,ks,gs,bs,am,List.replicate (cs.length:Int).toNat ((0:Int),((0:Int),(0:Int)))⟩).b3=ldS cs gs am gs.length:=q7
  refine ⟨λc=>?_,λ_=>⟨⟨hA,rfl,rfl⟩,?_⟩⟩
  ·exfalso
   rw [hv,hl] at c
   simp at c
  ·rw [q1]
   refine ⟨λh=>Ah,λ_=>⟨A0,⟨rfl,AJ⟩,⟨hB,rfl,rfl⟩,A0,?_⟩⟩
   show LV.AM _=LV.AM _
   rw [CJ,Dv,q7]
 ·cases h)
section
variable {cs : List Cd} {os : List ByteArray} {ks : List Ko} {gs : List Ch} {bs : List Ba} {l : List Le} {rs : List Ra} {d : List Dm} {t n : Int}
structure NwL (gs:List Ch) (am:List Int) (t n:Int) (m:List Le):Prop where
 at_:∀k:Int,0<=k->k<(m.length:Int)->An m k=(n+k,(An m k).2.1,gi am (An m k).2.1,t,12)/\(0<=(An m k).2.1/\(An m k).2.1<(gs.length:Int))/\Cq (AH gs (An m k).2.1)<gi am (An m k).2.1
 up:∀k:Int,1<=k->k<(m.length:Int)->(An m (k-1)).2.1<(An m k).2.1
def WM {m:List Le}{x:Le}{k:Int}(h0:0<=k):An (m++[x]) k=if k<(m.length:Int) then An m k else if k=(m.length:Int) then x else (0,0,0,0,0):=by
 unfold An;rw [Cx,Cx];split
 ·grind
 ·rw [Fu A0]
  split
  ·rw [show k.toNat-m.length=0 by omega]
   rfl
  ·rw [ZM AA]
   rfl
def aQq {am:List Int}:∀ {K:Nat},K<=gs.length->NwL gs am t n (H9 gs l t n am K)/\∀x∈H9 gs l t n am K,x.2.1<(K:Int)
 |0,_=>⟨⟨λk h0 h1=>aNe,λk h0 h1=>aNe⟩,λx hx=>by cases hx⟩
 | K +1,h=>by
  obtain ⟨⟨h1,h2⟩,h3⟩:=aQq (am:=am) (K:=K) A0;rw [H9];split
  ·rename_i hn
   have hf:=awg hn
   refine ⟨⟨λk k0 k1=>?_,λk k0 k1=>?_⟩,λx hx=>?_⟩
   ·simp only [B0,BX,Bh] at k1
    rw [WM k0];split
    ·grind
    ·rename_i hk
     have e:k=((H9 gs l t n am K).length:Int):=A0
     rw [AE e,e]
     grind
   ·simp only [B0,BX,Bh] at k1
    rw [WM A0,WM A0,AE (show k-1<((H9 gs l t n am K).length:Int) by omega)]
    split
    ·grind
    ·rename_i hk
     rw [AE (show k=((H9 gs l t n am K).length:Int) by omega)]
     exact h3 _ (OT A0 A0)
   ·rw [Bp,Kp] at hx
    rcases hx with hx|rfl
    ·have:=h3 x hx;omega
    ·simp only;omega
  ·rw [FJ]
   exact ⟨⟨h1,h2⟩,λx hx=>by have:=h3 x hx;omega⟩
def aEA:BG l=true↔l.length<=64/\∀k:Int,0<=k->k<(l.length:Int)->D7 (An l k)=true/\(k=0\/Jd (An l (k-1)) (An l k)=true):=by
 unfold BG;rw [AU,AY,EB];refine and_congr_right λ_=>⟨λh k k0 k1=>?_,λh j hj=>?_⟩
 ·have:=h k.toNat A0
  rw [BQ k0] at this;unfold GW at this;rw [AU,Cr,AY] at this;exact this
 ·obtain ⟨h1,h2⟩:=h j A0 hj
  unfold GW
  grind
def aD6 {x:Le}(h:BG l=true) (hx:D7 x=true) (hl:l.length<64) (hf:l.length=0\/Jd (An l ((l.length:Int)-1)) x=true):BG (l++[x])=true:=by
 rw [aEA] at h|-;refine ⟨AA,λk k0 k1=>?_⟩
 simp only [B0,BX,Bh] at k1;rw [WM k0];split
 ·rename_i hk
  obtain ⟨h1,h2⟩:=h.2 k k0 hk;refine ⟨h1,?_⟩;rcases h2 with h2|h2
  ·grind
  ·by_cases e:k=0
   ·exact .inl e
   ·rw [WM A0,AE A0]
    grind
 ·rename_i hk
  have e:k=(l.length:Int):=A0
  rw [AE e];refine ⟨hx,?_⟩;rcases hf with hf|hf
  ·omega
  ·by_cases e0:k=0
   ·grind
   ·rw [WM A0,AE A0,e]
    grind
structure Fit (l:List Le) (n t:Int):Prop where
 les:BG l=true
 last:l.length=0\/((An l ((l.length:Int)-1)).1<n/\(An l ((l.length:Int)-1)).2.2.2.1<=t)
def Fit.mono {n' t':Int}(h:Fit l n t) (hn:n<=n') (ht:t<=t'):Fit l n' t':=⟨h.les,by
 rcases h.last with h1|h1
 ·exact .inl h1
 ·exact .inr A0⟩
end
abbrev alh (a b:Le):Prop:=a.1<b.1/\a.2.2.2.1<=b.2.2.2.1
def aqM {l:List Le}:BG l=true↔l.length<=64/\(∀x∈l,D7 x=true)/\l.Pairwise alh:=by
 refine ⟨λh=>⟨(Ib h).1,(Ib h).2,aD7 h⟩,λ⟨h1,h2,h3⟩=>aEA.2 ⟨h1,λk k0 k1=>⟨h2 _ (OT k0 k1),?_⟩⟩⟩
 by_cases e:k=0
 ·exact .inl e
 ·right
  have:=jH.1 h3 (k-1).toNat k.toNat A0 A0 A0
  rw [<-Oh,<-Oh] at this;unfold Jd;rw [Cs (p:=(An l k).1>_) this.1,Cs (p:=(An l k).2.2.2.1>=_) this.2];rfl
def aE9 {l m:List Le}(h:BG l=true) (hs:m.Sublist l):BG m=true:=by
 rw [aqM] at h|-;exact ⟨G8 hs.length_le h.1,λx hx=>h.2.1 x (hs.subset hx),h.2.2.sublist hs⟩
def grS (o:List Le) (x:Le):List Le:=if FB o x=0 then JW o x else o
def aQL {o:List Le}{x:Le}(h:BG o=true):BG (grS o x)=true/\(grS o x=o\/grS o x=o++[x]):=by
 unfold grS;split
 ·rename_i e
  have e2:JW o x=o++[x]:=by unfold JW;rw [AE e]
  rw [e2];refine ⟨?_,.inr rfl⟩;unfold FB at e;split at e
  ·rename_i c
   rw [AU] at c;split at e
   ·omega
   ·rename_i c2
    split at e
    ·omega
    ·rename_i c3
     have:=(Ib h).1
     refine aD6 h c.2 A0 ?_
     by_cases q:o.length=0
     ·exact .inl q
     ·right
      rw [Cs A0,Dj] at c2;exact nfW D8
  ·omega
 ·exact ⟨h,.inl rfl⟩
def ckO (m:Int) (e:Ld):Bool:=decide (e.1<=m)&&(decide (e.2.1<=m)&&decide (e.2.2<=m))
def ckN (cs:List Cd) (L:List Ld) (k:Nat):Bool:=Dc k (λo=>ckO (EL (Ag cs o)) (EI L o.toNat))
def gLi (l:List Ld) (i:Int):Ld:=gx (e:=.pair A7 BD) l i
def Ln (m:Int) (e:Ld) (t:Int):Bool:=(decide (t>0) ||decide (e.1<=m))&&((decide (t>1) ||decide (e.2.1<=m))&&(decide (t>2) ||decide (e.2.2<=m)))
def akp {m:Int}{e:Ld}:Ln m e 0=ckO m e:=by simp [Ln,ckO]
def IL (cs:List Cd) (gs:List Ch) (m:List Int):Bool:=ckN cs (ldS cs gs m gs.length) cs.length
section
variable {cs : List Cd} {os : List ByteArray} {ks : List Ko} {gs : List Ch} {bs : List Ba} {l : List Le} {rs : List Ra} {d : List Dm} {t n : Int}
def asX {j:Int}(j0:0<=j) (j1:j<(gs.length:Int)):gi (Hg gs l t) j=mx (Cq (AH gs j)) (gi (LU gs.length l t) j):=SZ j0 j1
def an5 {l2:List Le}{t2:Int}(hs:BF cs os ks gs bs=true) (hv:BG l2=true) {j:Int}(j0:0<=j) (j1:j<(gs.length:Int)):0<=gi (Hg gs l2 t2) j/\gi (Hg gs l2 t2) j<=80:=by
 have hch:chW (AH gs j)=true:=by
  have:=Pr hs j0 j1
  unfold Ga at this;simp only [AU] at this;exact this.2.2
 have hc:=cb hch
 have h:=yt (a:=0) (b:=80) (j:=j) Aa (aIR (t:=t2) (m:=gs.length) hv)
 rw [asX j0 j1];unfold mx;split<;>omega
end
def vO:Array Tmp×Code×Code:=((Ia (f33.body.getD .skip))[0]?).getD (#[],.skip,.skip)
def aaF:Array Tmp:=vO.1
def abO:Code:=vO.2.1
def abM:Code:=vO.2.2
structure Np where
 (c t7 t8 t11:Int)
 BZ:List Cd
 GG:List ByteArray
 GA:List Ko
 GB:List Ch
 GH:List Ba
 (IW Ic Ie:Int)
 b2:Bool
 b3:Int
 b4:List (Int×Ra)
 N1:List Cd
 N5:List ByteArray
 N4:List Ko
 N3:List Ch
 ND:List Ba
 st:LS
def aEf:=lN (bN f94 0) 0
def Tl (s:Np):T (Rd Np):=letI a:=EL (Ag s.BZ s.c);letI b:=A9 (s.t11+1);letI d:=s.BZ.length;.br (decide (s.t11<3)) (.ix s.c (s.b4.length) (.br (s.t11==0) (.ix s.c d (.br (decide ((gx (e:=.pair A7 BD) s.b4 s.c).1>a)) (.so (.ret) {s with IW:=s.c,Ic:=s.t11,Ie:=(gx (e:=.pair A7 BD) s.b4 s.c).1,b2:=true,b3:=(0:Int),st:=.done (.ret)}) (.nx {s with t11:=b}))) (.br (s.t11==1) (.ix s.c d (.br (decide ((gx (e:=.pair A7 BD) s.b4 s.c).2.1>a)) (.so (.ret) {s with IW:=s.c,Ic:=s.t11,Ie:=(gx (e:=.pair A7 BD) s.b4 s.c).2.1,b2:=true,b3:=(0:Int),st:=.done (.ret)}) (.nx {s with t11:=b}))) (.br (s.t11==2) (.ix s.c d (.br (decide ((gx (e:=.pair A7 BD) s.b4 s.c).2.2>a)) (.so (.ret) {s with IW:=s.c,Ic:=s.t11,Ie:=(gx (e:=.pair A7 BD) s.b4 s.c).2.2,b2:=true,b3:=(0:Int),st:=.done (.ret)}) (.nx {s with t11:=b}))) (.no /-  -/))))) (.so (.exit 2) s)
def iJ (s:Np):Prop:=s.st=.ready/\s.t11=0/\(0<=s.c/\s.c<(s.b4.length:Int))/\s.c<(s.BZ.length:Int)
def gn (s:Np):Prop:=s.st=.ready/\(0<=s.t11/\s.t11<=3)/\(0<=s.c/\s.c<(s.b4.length:Int))/\s.c<(s.BZ.length:Int)
def p7 (s:Np):Nat:=(3-s.t11).toNat
def adB (x:Ex) (s s':Np):Prop:=True
def akq:∀s,iJ s->gn s:=by
 rintro s ⟨h,h0,h1⟩
 exact ⟨h,A0,h1⟩
def ah4:Da gn p7 adB Tl:=by
 intro s hI;unfold Tl;dsimp only [T.rd,T.rl,T.rv];obtain ⟨ht,h0,h1,h2⟩:=hI;refine AG (λc1=>?_) (λc1=>?_)
 ·refine AG (λc2=>?_) (λc2=>?_)
  ·refine AG (λc3=>?_) (λc3=>?_)
   ·trivial
   ·exact wh
  ·refine AG (λc3=>?_) (λc3=>?_)
   ·refine AG (λc4=>?_) (λc4=>?_)
    ·trivial
    ·exact wh
   ·refine AG (λc4=>?_) (λc4=>?_)
    ·refine AG (λc5=>?_) (λc5=>?_)
     ·trivial
     ·exact wh
    ·exfalso
     simp only [AY,Bq,ne_eq] at*;omega
 ·trivial
def RZ:AS Np:=⟨7,22,[0,3,7,8,11],[],λs=>[.CN 6,s.c,s.t7,s.t8,s.t11],λs=>[⟨[s.BZ,s.GG,s.GA,s.GB,s.GH],28,.cl,false⟩,⟨[s.IW,s.Ic,s.Ie],106,.cl,false⟩,⟨[s.b2],4,.cl,false⟩,⟨[s.b3],57,.cl,false⟩,⟨[.xl (.pair A7 BD) s.b4],158,.cl,false⟩,⟨[s.N1,s.N5,s.N4,s.N3,s.ND],28,.cl,false⟩,⟨[.junk,.junk,.own 0 0,.junk,.own 1 0,.own 2 0,.own 3 0,.own 4 0,.junk,.v (.tuple #[]),.v (.tuple #[]),.junk,.junk,.junk,.junk,.junk,.junk,.junk,.junk,.junk,.junk,.junk,.v (.tuple #[]),.v (.tuple #[]),.v (.tuple #[]),.v (.tuple #[]),.v (.tuple #[]),.v (.tuple #[]),.v (.tuple #[]),.v (.tuple #[]),.v (.tuple #[]),.v (.tuple #[]),.v (.tuple #[]),.v (.tuple #[]),.v (.tuple #[]),.v (.tuple #[]),.v (.tuple #[]),.v (.tuple #[]),.v (.tuple #[]),.v (.tuple #[]),.v (.tuple #[]),.v (.tuple #[]),.v (.tuple #[]),.v (.tuple #[]),.v (.tuple #[]),.v (.tuple #[]),.junk],0,.Cc aaF abO abM s.st,false⟩],λv b=>⟨AK v 1,AK v 2,AK v 3,AK v 4,AF Ao b 0 0,AF .str b 0 1,AF B8 b 0 2,AF Au b 0 3,AF B9 b 0 4,Ae b 1 0,Ae b 1 1,Ae b 1 2,Kg b 2 0,Ae b 3 0,AF (.pair A7 BD) b 4 0,AF Ao b 5 0,AF .str b 5 1,AF B8 b 5 2,AF Au b 5 3,AF B9 b 5 4,.ready⟩,Tl,λs r=> {r with c:=s.c,t7:=s.t7,t8:=s.t8,BZ:=s.BZ,GG:=s.GG,GA:=s.GA,GB:=s.GB,GH:=s.GH,b4:=s.b4,N1:=s.N1,N5:=s.N5,N4:=s.N4,N3:=s.N3,ND:=s.ND},λs=> {s with st:=.ready},λx s=> {s with st:=(match x with| .ret=>(.done (.ret)) | .exit 2=> .ready|_=> .ready)},[.ret,.exit 2],iJ,gn,p7⟩
abbrev MB:=RZ.run
abbrev nZ:=RZ.Am
def X5:List Bd:=[aaH,qz]
def tB:As:=kI X5 (l0 X5)
def awy:Rq gn Tl:=by
 intro s hI;refine ⟨λc1=>⟨?_,λc2=>⟨?_,λ_=>trivial,λ_=>trivial⟩,λc2=>⟨λc4=>⟨?_,λ_=>trivial,λ_=>trivial⟩,λc4=>⟨λc6=>⟨?_,λ_=>trivial,λ_=>trivial⟩,λc6=>?_⟩⟩⟩,λ_=>trivial⟩
 iterate 4 · (obtain ⟨ht,h0,h1,h2⟩:=hI;omega)
 ·(exfalso;obtain ⟨ht,h0,h1,h2⟩:=hI;simp only [AY,Bq,ne_eq] at*;omega)
def aPa:RZ.Ok:={}
def aPB:RZ.Pf (adB):=⟨akq,λs h=>by
 obtain ⟨c,t7,t8,t11,BZ,GG,GA,GB,GH,IW,Ic,Ie,b2,b3,b4,N1,N5,N4,N3,ND,st⟩:=s
 have e:st=.ready:=h.1
 subst e;rfl,ah4,awy⟩
def aoh:SA 7 aEf RZ:=s2 aPa aPB X5 tB
def asy:Rs iJ nZ MB (λs:Np=>Ln (EL (Ag s.BZ s.c)) (gLi s.b4 s.c) s.t11) (λx s' (v:Bool)=>(x=.ret/\v=false/\s'.b2=true/\s'.b3=0)\/(x=.exit 2/\v=true)):=DL aPa aPB (λs hI=>by
  show CM _ _ ((Tl s).rd s)
  unfold Tl;dsimp only [T.rd,T.rl];obtain ⟨ht,h0,h1,h2⟩:=hI;refine AG (λc1=>?_) (λc1=>?_)
  ·refine AG (λc2=>?_) (λc2=>?_)
   ·refine AG (λc3=>?_) (λc3=>?_)
    ·refine .inl ⟨rfl,?_,rfl,rfl⟩
     have c3:(gLi s.b4 s.c).1>EL (Ag s.BZ s.c):=De c3
     exact xA
    ·have c1:s.t11<3:=AO
     rw [AI (x:=s.t11+1)]
     have c3:¬(gLi s.b4 s.c).1>EL (Ag s.BZ s.c):=JF c3
     exact xF
   ·refine AG (λc3=>?_) (λc3=>?_)
    ·refine AG (λc4=>?_) (λc4=>?_)
     ·refine .inl ⟨rfl,?_,rfl,rfl⟩
      have c4:(gLi s.b4 s.c).2.1>EL (Ag s.BZ s.c):=De c4
      exact xA
     ·have c1:s.t11<3:=AO
      rw [AI (x:=s.t11+1)]
      have c4:¬(gLi s.b4 s.c).2.1>EL (Ag s.BZ s.c):=JF c4
      exact xF
    ·refine AG (λc4=>?_) (λc4=>?_)
     ·refine AG (λc5=>?_) (λc5=>?_)
      ·refine .inl ⟨rfl,?_,rfl,rfl⟩
       have c5:(gLi s.b4 s.c).2.2>EL (Ag s.BZ s.c):=De c5
       exact xA
      ·have c1:s.t11<3:=AO
       rw [AI (x:=s.t11+1)]
       have c5:¬(gLi s.b4 s.c).2.2>EL (Ag s.BZ s.c):=JF c5
       exact xF
     ·exfalso
      simp only [AY,Bq,ne_eq] at*;omega
  ·have c1:3<=s.t11:=AO
   refine .inr ⟨rfl,?_⟩;unfold Ln;simp only [AU,Cr,AY];omega)
structure KB where
 (t7 t8:Int)
 BZ:List Cd
 GG:List ByteArray
 GA:List Ko
 GB:List Ch
 GH:List Ba
 (IW Ic Ie:Int)
 b2:Bool
 b3:Int
 b4:List (Int×Ra)
 N1:List Cd
 N5:List ByteArray
 N4:List Ko
 N3:List Ch
 ND:List Ba
 st:LS
def aEg:=bN f94 0
def IY (s:KB):Np:=(⟨s.t8,s.t7,s.t8,0,s.BZ,s.GG,s.GA,s.GB,s.GH,s.IW,s.Ic,s.Ie,s.b2,s.b3,s.b4,s.N1,s.N5,s.N4,s.N3,s.ND,.ready⟩:Np)
def Tm (s:KB):T (Rd KB):=
 .br (decide (s.t8<s.t7)) (.req (RZ.q (IY s)) (.br (Bo (nZ (IY s)) (.ret)) (.so (.ret) {s with IW:=(MB (IY s)).IW,Ic:=(MB (IY s)).Ic,Ie:=(MB (IY s)).Ie,b2:=(MB (IY s)).b2,b3:=(MB (IY s)).b3,st:=.done (.ret)}) (.nx {s with t8:=A9 (s.t8+1),IW:=(MB (IY s)).IW,Ic:=(MB (IY s)).Ic,Ie:=(MB (IY s)).Ie,b2:=(MB (IY s)).b2,b3:=(MB (IY s)).b3}))) (.so (.exit 0) s)
def iK (s:KB):Prop:=s.st=.ready/\s.t8=0/\s.t7=(s.BZ.length:Int)/\s.t7<=1000/\s.b4.length=s.BZ.length
def Z4 (s:KB):Prop:=s.st=.ready/\(0<=s.t8/\s.t8<=s.t7)/\s.t7=(s.BZ.length:Int)/\s.t7<=1000/\s.b4.length=s.BZ.length
def tc (s:KB):Nat:=(s.t7-s.t8).toNat
def adC (x:Ex) (s s':KB):Prop:=True
def akr:∀s,iK s->Z4 s:=by
 rintro s ⟨h,h0,h1⟩
 exact ⟨h,by have:=h1.1;omega,h1⟩
def aQx (s:KB) (hI:Z4 s) (c1:s.t8<s.t7):iJ (IY s):=by
 obtain ⟨ht,⟨h0,h1⟩,h2,h3,h4⟩:=hI;exact ⟨rfl,rfl,⟨h0,by show s.t8<(s.b4.length:Int);omega⟩,by show s.t8<(s.BZ.length:Int);omega⟩
def ah5:Da Z4 tc adC Tm:=by
 intro s hI;unfold Tm;dsimp only [T.rd,T.rl,T.rv];obtain ⟨ht,⟨h0,h1⟩,h2,h3,h4⟩:=hI;refine AG (λc1=>AG (λc2=>trivial) (λc2=>?_)) (λc1=>trivial)
 have c1:s.t8<s.t7:=AO
 rw [AI (x:=s.t8+1)];exact ⟨⟨ht,⟨AP,AP⟩,h2,h3,h4⟩,by simp only [tc];omega⟩
def UF:AS KB:=⟨7,22,[0,7,8],[],λs=>[.CN 6,s.t7,s.t8],λs=>[⟨[s.BZ,s.GG,s.GA,s.GB,s.GH],28,.cl,false⟩,⟨[s.IW,s.Ic,s.Ie],106,.cl,false⟩,⟨[s.b2],4,.cl,false⟩,⟨[s.b3],57,.cl,false⟩,⟨[.xl (.pair A7 BD) s.b4],158,.cl,false⟩,⟨[s.N1,s.N5,s.N4,s.N3,s.ND],28,.cl,false⟩,⟨[.junk,.junk,.own 0 0,.junk,.own 1 0,.own 2 0,.own 3 0,.own 4 0,.junk,.v (.tuple #[]),.v (.tuple #[]),.junk,.junk,.junk,.junk,.junk,.junk,.junk,.junk,.junk,.junk,.junk,.v (.tuple #[]),.v (.tuple #[]),.v (.tuple #[]),.v (.tuple #[]),.v (.tuple #[]),.v (.tuple #[]),.v (.tuple #[]),.v (.tuple #[]),.v (.tuple #[]),.v (.tuple #[]),.v (.tuple #[]),.v (.tuple #[]),.v (.tuple #[]),.v (.tuple #[]),.v (.tuple #[]),.v (.tuple #[]),.v (.tuple #[]),.v (.tuple #[]),.v (.tuple #[]),.v (.tuple #[]),.v (.tuple #[]),.v (.tuple #[]),.v (.tuple #[]),.v (.tuple #[]),.junk],0,.Cc aaF abO abM s.st,false⟩],λv b=>⟨AK v 1,AK v 2,AF Ao b 0 0,AF .str b 0 1,AF B8 b 0 2,AF Au b 0 3,AF B9 b 0 4,Ae b 1 0,Ae b 1 1,Ae b 1 2,Kg b 2 0,Ae b 3 0,AF (.pair A7 BD) b 4 0,AF Ao b 5 0,AF .str b 5 1,AF B8 b 5 2,AF Au b 5 3,AF B9 b 5 4,.ready⟩,Tm,λs r=> {r with t7:=s.t7,BZ:=s.BZ,GG:=s.GG,GA:=s.GA,GB:=s.GB,GH:=s.GH,b4:=s.b4,N1:=s.N1,N5:=s.N5,N4:=s.N4,N3:=s.N3,ND:=s.ND},λs=> {s with st:=.ready},λx s=> {s with st:=(match x with| .ret=>(.done (.ret)) | .exit 0=> .ready|_=> .ready)},[.ret,.exit 0],iK,Z4,tc⟩
abbrev bH:=UF.run
abbrev cK:=UF.Am
def awz:Rq Z4 Tm:=by
 intro s hI;refine ⟨λc1=>⟨?_,λ_=>trivial,λ_=>trivial⟩,λ_=>trivial⟩
 ·exact ⟨aQx s hI AO,rfl,rfl⟩
def aPb:UF.Ok:={}
def aPC:UF.Pf (adC):=⟨akr,λs h=>by
 obtain ⟨t7,t8,BZ,GG,GA,GB,GH,IW,Ic,Ie,b2,b3,b4,N1,N5,N4,N3,ND,st⟩:=s
 have e:st=.ready:=h.1
 subst e;rfl,ah5,awz⟩
def aoi:SA 7 aEg UF:=AS.snd aPb aPC (GC (Γ:=X5) (K:=tB) (L:=(Li (λi=>if i=4 then RZ.lp else Af i))) (gk X5) tB.h aEg (λb hb=>by
 rw [show B6 _=[aEf] by kernel_rfl] at hb
 simp only [B1,Bv,Bw] at hb;subst hb;exact aoh)) (λs=>AZ)
def asz:Rs iK cK bH (λs:KB=>((List.range s.BZ.length).drop s.t8.toNat).all (λo=>ckO (EL (Ag s.BZ o)) (EI s.b4 o))) (λx s' (v:Bool)=>(x=.ret/\v=false/\s'.b2=true/\s'.b3=0)\/(x=.exit 0/\v=true)):=DL aPb aPC (λs hI=>by
  show CM _ _ ((Tm s).rd s)
  unfold Tm;dsimp only [T.rd,T.rl]
  have hin:=λc1=>aQx s hI c1
  obtain ⟨ht,⟨h0,h1⟩,h2,h3,h4⟩:=hI;refine AG (λc1=>?_) (λc1=>?_)
  ·have c1:s.t8<s.t7:=AO
   have q:=asy _ (hin c1)
   have e:((List.range s.BZ.length).drop s.t8.toNat).all (λo=>ckO (EL (Ag s.BZ o)) (EI s.b4 o))=(Ln (EL (Ag s.BZ s.t8)) (gLi s.b4 s.t8) 0&&((List.range s.BZ.length).drop (s.t8+1).toNat).all (λo=>ckO (EL (Ag s.BZ o)) (EI s.b4 o))):=by
    rw [SD Cn,IT,jc,show (s.t8+1).toNat=s.t8.toNat+1 by omega,BQ h0,akp]
    rfl
   refine AG (λc2=>?_) (λc2=>?_)
   ·rcases q with ⟨q1,q2,q3,q4⟩ |⟨q1,q2⟩
    ·refine .inl ⟨rfl,?_,q3,q4⟩
     rw [e]
     have q2:Ln (EL (Ag s.BZ s.t8)) (gLi s.b4 s.t8) 0=false:=q2
     rw [q2,O5]
    ·rw [show nZ (IY s)=_ from q1] at c2
     cases c2
   ·rcases q with ⟨q1,q2,q3,q4⟩ |⟨q1,q2⟩
    ·rw [show nZ (IY s)=_ from q1] at c2
     cases c2
    ·show List.all _ _=List.all _ _
     rw [e]
     have q2:Ln (EL (Ag s.BZ s.t8)) (gLi s.b4 s.t8) 0=true:=q2
     rw [q2,Dj,AI (x:=s.t8+1)]
  ·have c1:s.t7<=s.t8:=AO
   refine .inr ⟨rfl,?_⟩;rw [EJ Cn];rfl)
def vk1 (cs:List Cd) (os:List ByteArray) (ks:List Ko) (gs:List Ch) (bs:List Ba) (am:List Int):Int:=if (decide (am.length=gs.length)&&Bo (cK ⟨(cs.length:Int),0,cs,os,ks,gs,bs,0,0,0,false,0,J3 cs gs am,cs,os,ks,gs,bs,.ready⟩) (.ret))=true then (bH ⟨(cs.length:Int),0,cs,os,ks,gs,bs,0,0,0,false,0,J3 cs gs am,cs,os,ks,gs,bs,.ready⟩).IW else 0
def vk2 (cs:List Cd) (os:List ByteArray) (ks:List Ko) (gs:List Ch) (bs:List Ba) (am:List Int):Int:=if (decide (am.length=gs.length)&&Bo (cK ⟨(cs.length:Int),0,cs,os,ks,gs,bs,0,0,0,false,0,J3 cs gs am,cs,os,ks,gs,bs,.ready⟩) (.ret))=true then (bH ⟨(cs.length:Int),0,cs,os,ks,gs,bs,0,0,0,false,0,J3 cs gs am,cs,os,ks,gs,bs,.ready⟩).Ic else 0
def vk3 (cs:List Cd) (os:List ByteArray) (ks:List Ko) (gs:List Ch) (bs:List Ba) (am:List Int):Int:=if (decide (am.length=gs.length)&&Bo (cK ⟨(cs.length:Int),0,cs,os,ks,gs,bs,0,0,0,false,0,J3 cs gs am,cs,os,ks,gs,bs,.ready⟩) (.ret))=true then (bH ⟨(cs.length:Int),0,cs,os,ks,gs,bs,0,0,0,false,0,J3 cs gs am,cs,os,ks,gs,bs,.ready⟩).Ie else 0
def aHF:List LV->T LV
 | [.agg [.xl (.pair .str (.pair (.int .i64) (.pair (.int .i64) (.pair (.int .i64) (.pair (.pair (.int .i64) (.int .i64)) (.pair (.int .i64) (.pair (.int .i64) (.pair (.int .i64) (.pair (.int .i64) (.int .i64)))))))))) cs,.xl (.str) os,.xl (.pair .str (.pair (.int .i64) (.pair (.int .i64) (.int .i64)))) ks,.xl (.pair .str (.pair (.int .i64) (.pair (.int .i64) (.pair (.int .i64) (.pair (.int .i64) (.pair (.int .i64) (.pair (.int .i64) (.int .i64)))))))) gs,.xl (.pair .str (.int .i64)) bs],.xl (.int .i64) am]=> .req (BF cs os ks gs bs=true/\(am.length=gs.length->∀k:Nat,k<am.length->0<=gi am k/\gi am k<=80)) (.tu #[.agg #[vk1 cs os ks gs bs am,vk2 cs os ks gs bs am,vk3 cs os ks gs bs am],.bool (decide (am.length=gs.length)&&!IL cs gs am),JA gs am])
 |_=> .no
def uG:List Bd:=[aaH,qz]
def az0:As:=kI uG (la 1 func94 aoi (l0 uG))
def Wh:=vo (S:=aHF) func33 uG az0 (λargs lv h=>by
 unfold aHF at h;split at h
 ·rename_i cs os ks gs bs am
  refine Aj (letI b:=(cs.length:Int);letI d:=J3 cs gs am;letI a:=(bH (⟨b,0,cs,os,ks,gs,bs,0,0,0,false,0,d,cs,os,ks,gs,bs,.ready⟩:KB));.req (BF cs os ks gs bs=true/\(am.length=gs.length->∀k:Nat,k<am.length->0<=gi am k/\gi am k<=80)) (.br ((JA gs am) !=0) (.tu #[.agg #[(0:Int),(0:Int),(0:Int)],false,(1:Int)]) (.req (UF.q (⟨b,0,cs,os,ks,gs,bs,0,0,0,false,0,d,cs,os,ks,gs,bs,.ready⟩:KB)) (.br (Bo (cK (⟨b,0,cs,os,ks,gs,bs,0,0,0,false,0,d,cs,os,ks,gs,bs,.ready⟩:KB)) (.ret)) (.tu #[.agg #[a.IW,a.Ic,a.Ie],a.b2,a.b3]) (.tu #[.agg #[(0:Int),(0:Int),(0:Int)],false,(0:Int)]))))) ?_;obtain ⟨hq,rfl⟩:=h
  have hv:=hq.1
  have hb:=(D9.1 hv).1
  have hl:am.length=gs.length->am.length=gs.length:=id
  refine ⟨hq,λc=>?_,λc=>?_⟩
  ·have hl:¬am.length=gs.length:=λh=>by unfold JA at c;rw [AE h] at c;cases c
   unfold vk1 vk2 vk3 JA;simp only [AD hl,I1 hl,O5,HP,FL];rfl
  have hl:am.length=gs.length:=by
   unfold JA at c;split at c
   ·assumption
   ·cases c
  have hX:J3 cs gs am=ldS cs gs am gs.length:=AE hl
  have hY:JA gs am=0:=AE hl
  rw [hY,Cs hl,Dj]
  have hE:iK ⟨(cs.length:Int),0,cs,os,ks,gs,bs,0,0,0,false,0,(J3 cs gs am),cs,os,ks,gs,bs,.ready⟩:=⟨rfl,rfl,rfl,aMX,by show (J3 cs gs am).length=cs.length;rw [hX];exact qR (oS hv) (oU hv) _ (At _)⟩
  refine ⟨⟨hE,rfl,rfl⟩,?_⟩
  have e:IL cs gs am=((List.range cs.length).drop (0:Int).toNat).all (λo=>ckO (EL (Ag cs o)) (EI (J3 cs gs am) o)):=by rw [hX];rfl
  rcases asz _ hE with ⟨q1,q2,q3,q4⟩ |⟨q1,q2⟩
  ·have q2:IL cs gs am=false:=e.trans q2
   unfold vk1 vk2 vk3;simp only [Cs hl,Dj];rw [q1,q3,q4,q2];exact ⟨λ_=>rfl,λh=>Ah⟩
  ·have q2:IL cs gs am=true:=e.trans q2
   unfold vk1 vk2 vk3;simp only [Cs hl,Dj];rw [q1,q2];exact ⟨λh=>Ah,λ_=>rfl⟩
 ·cases h)
def asJ {cs:List Cd}{os:List ByteArray}{ks:List Ko}{gs:List Ch}{bs:List Ba}(hs:BF cs os ks gs bs=true) {k:Nat}(hk:k<(C4 gs).length):0<=gi (C4 gs) k/\gi (C4 gs) k<=80:=by
 have hl:(C4 gs).length=gs.length:=Jt
 rw [show gi (C4 gs) (k:Int)=Cq (AH gs k) from SZ A0 A0]
 have:=Pr hs (c:=(k:Int)) A0 A0
 unfold Ga at this;simp only [AU] at this
 have:=cb this.2.2
 exact ⟨A0,A0⟩
structure Ol where
 m:List Ch
 (k i:Int)
 out:List Int
def aEx:=bN f34 0
def eh (s:Ol):T (Rd Ol):=letI a:=s.out.set s.i.toNat (AH s.m s.i).2.2.2.2.2.2.1;.br (decide (s.i<s.k)) (.ix s.i (s.m.length) (.ik s.i (s.out.length) (.re (s.out.length) a (.nx {s with i:=A9 (s.i+1),out:=a})))) (.rl s.out (.so (.exit 0) s))
def iV (s:Ol):Prop:=s.i=0/\s.k=(s.m.length:Int)/\s.k<=1000/\s.out.length=s.m.length/\(∀j,0<=j->j<s.k->gi s.out j=0)/\True
def XY (s:Ol):Prop:=(0<=s.i/\s.i<=s.k)/\s.k=(s.m.length:Int)/\s.k<=1000/\s.out.length=s.m.length/\(∀j,0<=j->j<s.k->gi s.out j=if j<s.i then Cq (AH s.m j) else 0)/\True
def sB (s:Ol):Nat:=(s.k-s.i).toNat
def zt (x:Ex) (s s':Ol):Prop:=x=.exit 0/\s'.out=Gv s'.m.length (λj=>Cq (AH s'.m j))
def ajr:∀s,iV s->XY s:=by
 rintro s ⟨h0,h2,h3,h4,h5,h6⟩
 exact ⟨A0,h2,h3,h4,λj j0 j1=>by rw [h5 j j0 j1,AD A0],h6⟩
def awV:Da XY sB zt eh:=by
 intro s hI;unfold eh;dsimp only [T.rd,T.rl,T.rv];obtain ⟨⟨h0,h1⟩,h2,h3,h4,h5,h6⟩:=hI;refine AG (λc1=>?_) (λc1=>?_)
 ·have c1:s.i<s.k:=AO
  rw [AI (x:=s.i+1)];refine ⟨⟨⟨AP,AP⟩,h2,h3,by simp only [Br];exact h4,λj j0 j1=>?_,h6⟩,by simp only [sB];omega⟩
  simp only
  have hi:=h5 s.i h0 c1
  rw [AD (show ¬s.i<s.i by omega)] at hi
  rw [K7 h0 aE j0]
  by_cases e:j=s.i
  ·subst e
   rw [AE rfl,AE (show s.i<s.i+1 by omega)]
   rfl
  ·rw [AD e,h5 j j0 j1]
   by_cases q:j<s.i
   ·rw [AE q,AE (show j<s.i+1 by omega)]
   ·rw [AD q,AD (show ¬j<s.i+1 by omega)]
 ·exact xS
def Qp:AS Ol:=⟨0,25,[3,11,12,13],[],λs=>[.os 0 1 0 (s.out.length),s.m,s.k,s.i],λs=>[bV 3 A7 s.out],λv b=>⟨Az Au v 1,AK v 2,AK v 3,Ab A7 b 0⟩,eh,λs r=> {r with m:=s.m,k:=s.k},λs=>s,λ_ s=>s,[.exit 0],iV,XY,sB⟩
abbrev aBX:=Qp.run
abbrev ard:=Qp.Am
def awC:Rq XY eh:=by
 exact wz
def aQQ:List Bd:=[]
def aOg:Qp.Ok:={}
def aO0:Qp.Pf (zt):=⟨ajr,λs h=>rfl,awV,awC⟩
def ap0:SA 0 aEx Qp:=s1 aOg aO0 aQQ kN
def aq9:Fi iV XY zt ard aBX:=AS.fin aOg aO0
def aI0:List LV->T LV
 | .agg a::r=>s5 a λcs os ks gs bs=>(match r with
  | []=> .req ((gs.length:Int)<=1000) (.ok (.xl A7 (C4 gs)))
  |_=> .no)
 |_=> .no
def cw:=vm (S:=aI0) func34 aQQ kN (L:=(λi=>if i=3 then Qp.lp else Af i)) (λb hb=>by
 rw [show B6 _=[aEx] by kernel_rfl] at hb
 simp only [B1,Bv,Bw] at hb;subst hb;exact ap0) (λargs lv h=>by
 unfold aI0 at h;split at h
 case h_2=>cases h
 replace h:=I8 h
 obtain ⟨cs,os,ks,gs,bs,rfl,h⟩:=h;split at h
 ·refine Aj (letI c:=(gs.length:Int);letI a:=(List.replicate c.toNat (0:Int));letI b:=(aBX (⟨gs,c,0,a⟩:Ol));.rm 8 c (.re c.toNat a (.req (Qp.q (⟨gs,c,0,a⟩:Ol)) (.rz b.out (.ok (.xl A7 ((b.out.drop 0).take (List.length b.out)))))))) ?_
  obtain ⟨hn,rfl⟩:=h
  have hE:iV ⟨gs,(gs.length:Int),0,List.replicate (gs.length:Int).toNat 0⟩:=⟨rfl,rfl,hn,AJ,λj _ _=>NI,trivial⟩
  obtain ⟨_,_,q1,q2⟩:=aq9 _ hE
  have q2:(aBX ⟨gs,(gs.length:Int),0,List.replicate (gs.length:Int).toNat 0⟩).out=C4 gs:=q2
  refine ⟨A0,⟨rfl,AJ⟩,⟨hE,rfl,rfl⟩,A0,?_⟩
  show LV.xl _ _=_
  rw [CJ,Dv,q2]
 ·cases h)
def aHY:List LV->T LV
 | .agg a::r=>s5 a λcs os ks gs bs=>(match r with
  | []=> .req (BF cs os ks gs bs=true) (.ok (.v (.bool (!IL cs gs (C4 gs)))))
  |_=> .no)
 |_=> .no
def ayg:List Bd:=[Wh,cw]
def cv:=vo (S:=aHY) func16 ayg kN (λargs lv h=>by
 unfold aHY at h;split at h
 case h_2=>cases h
 replace h:=I8 h
 obtain ⟨cs,os,ks,gs,bs,rfl,h⟩:=h;split at h
 ·refine Aj (.req ((gs.length:Int)<=1000) (.req (BF cs os ks gs bs=true/\((C4 gs).length=gs.length->∀k:Nat,k<(C4 gs).length->0<=gi (C4 gs) k/\gi (C4 gs) k<=80)) (.ok (.v (.bool (((JA gs (C4 gs))==0)&&(decide ((C4 gs).length=gs.length)&&!IL cs gs (C4 gs)))))))) ?_
  obtain ⟨hs,rfl⟩:=h
  have hg:=(D9.1 hs).1
  have hl:(C4 gs).length=gs.length:=Jt
  have hY:JA gs (C4 gs)=0:=AE hl
  refine ⟨A0,⟨hs,λ_ k hk=>asJ hs hk⟩,?_⟩
  rw [hY,Cs hl];rfl
 ·cases h)
abbrev Bu:Ty:=.pair A7 (.pair A7 (.pair A7 .bool))
abbrev St:=Int×Int×Int×Bool
instance:Coe (List St) LV:=⟨.xl Bu⟩
def BP (l:List St) (n:Int):St:=l.getD n.toNat (0,0,0,false)
def sV (c:Ch) (s:St):Bool:=IP c.2.2.1 c.2.2.2.1 c.2.2.2.2.1 c.2.2.2.2.2.1 c.2.2.2.2.2.2.1&&(inB s.1 0 5&&(inB s.2.2.1 0 1000000&&(inB s.2.1 0 c.2.2.2.2.1&&((s.2.2.1 !=0 ||s.2.1==0)&&(!s.2.2.2 ||s.1==5)))))
def aJ5 {c:Ch}{s:St}:sV c s=true↔IP c.2.2.1 c.2.2.2.1 c.2.2.2.2.1 c.2.2.2.2.2.1 c.2.2.2.2.2.2.1=true/\0<=s.1/\s.1<=5/\0<=s.2.2.1/\s.2.2.1<=1000000/\0<=s.2.1/\s.2.1<=c.2.2.2.2.1/\(s.2.2.1=0->s.2.1=0)/\(s.2.2.2=true->s.1=5):=by
 obtain ⟨p,a,l,w⟩:=s;unfold sV;cases w<;>simp [CU]<;>omega
def evV (mx k n m:Int):Bool:=if k=4 then inB n 0 1 else if k=6 then inB n 0 2 else if k=7 then inB m 1 1000000&&inB n 0 mx else true
def phF (p:Int) (w:Bool) (k n:Int):Int:=
 if k=1 then (if p=0 then 1 else -1)
 else if k=2 then (if p=5/\w=true then 5 else if p=1\/p=5 then 0 else -1)
 else if k=3 then (if p=1 then 2 else -1)
 else if k=4 then (if p=2 then (if n=1 then 3 else 5) else -1)
 else if k=5 then (if p=3 then 4 else -1)
 else if k=6 then (if p=4 then (if n=0 then 1 else 5) else -1)
 else if k=9 then (if p=0\/w=true then p else 1)
 else p
def tkF (l:Int):Int:=if 0<l-1 then l-1 else 0
def sL (l k m:Int):Int:=if k=7 then m else if k=8 then tkF l else if k=9 then 0 else l
def sA (a l k n:Int):Int:=if k=7 then n else if k=8 then (if tkF l=0 then 0 else a) else if k=9 then 0 else a
def sW (w:Bool) (k n:Int):Bool:=w ||(k==6&&n==1)
def sE (c:Ch) (s:St) (k n m:Int):Int:=
 if sV c s=true then (if inB k 1 9=true then (if evV c.2.2.2.2.1 k n m=true then (if phF s.1 s.2.2.2 k n<0 then 6 else 0) else 1) else 9) else 1
def sN (c:Ch) (s:St) (k n m:Int):St:=if sE c s k n m=0 then (phF s.1 s.2.2.2 k n,sA s.2.1 s.2.2.1 k n,sL s.2.2.1 k m,sW s.2.2.2 k n) else (0,0,0,false)
def Bi (c:Ch) (s:St):Int:=if sV c s=true then (if s.2.2.2=true then c.2.2.2.2.1 else if s.1≠4 then 0 else if s.2.2.1≠0 then s.2.1 else c.2.2.2.2.2.2.1) else 0
def lU (k p:Int):Int:=
 if k=1 then (if p=0 then 1 else -1)
 else if k=2 then (if p=1 then 0 else if p=5 then -3 else -1)
 else if k=3 then (if p=1 then 2 else -1)
 else if k=4 then (if p=2 then -3 else -1)
 else if k=5 then (if p=3 then 4 else -1)
 else if k=6 then (if p=4 then -3 else -1)
 else if k=7 then -2
 else if k=8 then -2
 else if p=0 then 0 else if p=5 then -3 else 1
def agu {k p:Int}(h1:1<=k) (h2:k<=9) (h3:0<=p) (h4:p<=5):Wr (k.toNat*6+(p.toNat*1+0))=lU k p:=by
 have key:∀e:Fin 10,∀s:Fin 6,1<=e.val->Wr (e.val*6+(s.val*1+0))=lU (e.val:Int) (s.val:Int):=Aa
 have:=key ⟨k.toNat,A0⟩ ⟨p.toNat,A0⟩ AP
 simp only at this;rw [this,BQ A0,BQ h3]
def dcP (p:Int) (w:Bool) (k n:Int):Int:=if k=4 then (if n=1 then 3 else 5) else if k=6 then (if n=0 then 1 else 5) else if k=2 then (if w=true then p else 0) else if k=9 then (if w=true then p else 1) else p
def dcW (w:Bool) (k n:Int):Bool:=if k=6 then n==1 else w
def nine {k:Int}(h1:1<=k) (h2:k<=9):k=1\/k=2\/k=3\/k=4\/k=5\/k=6\/k=7\/k=8\/k=9:=A0
def alq {p:Int}(h1:0<=p) (h2:p<=5):p=0\/p=1\/p=2\/p=3\/p=4\/p=5:=A0
abbrev Ca:=Int×Int×Int×Int×Int
def BS (l:List Ca) (n:Int):Ca:=l.getD n.toNat (0,0,0,0,0)
abbrev By:Ty:=.pair (.sl A7) (.pair A7 A7)
abbrev Mi:=List Int×Int×Int
instance:Coe (List Mi) LV:=⟨.xl By⟩
def BC (l:List Mi) (n:Int):Mi:=l.getD n.toNat ([],0,0)
abbrev D6:Ty:=.pair A7 (.pair A7 .bool)
abbrev Me:=Int×Int×Bool
instance:Coe (List Me) LV:=⟨.xl D6⟩
def Ac (l:List Me) (n:Int):Me:=l.getD n.toNat (0,0,false)
def Fs (c:Ca):Bool:=inB c.1 0 4&&(inB c.2.1 1 7&&(inB c.2.2.1 1 80&&(inB c.2.2.2.1 0 1000000000&&(inB c.2.2.2.2 0 20&&(c.1 !=3 ||decide (c.2.2.2.2>=1))))))
def WD {c:Ca}:Fs c=true↔0<=c.1/\c.1<=4/\1<=c.2.1/\c.2.1<=7/\1<=c.2.2.1/\c.2.2.1<=80/\0<=c.2.2.2.1/\c.2.2.2.1<=1000000000/\0<=c.2.2.2.2/\c.2.2.2.2<=20/\(c.1=3->1<=c.2.2.2.2):=by
 simp [Fs,inB];omega
def IN (m:Mi):Bool:=decide (m.1.length<=21)&&(inB m.2.1 0 1000000&&(inB m.2.2 0 2000000000&&m.1.all (λp=>inB p 0 80)))
def cA {m:Mi}:IN m=true↔m.1.length<=21/\0<=m.2.1/\m.2.1<=1000000/\0<=m.2.2/\m.2.2<=2000000000/\∀p∈m.1,0<=p/\p<=80:=by
 simp [IN,CU,and_assoc]
def cnt (n:Int):Int:=n%2+n / 2%2+n / 4%2
def ag2 {n:Int}:0<=cnt n/\cnt n<=3:=by unfold cnt;omega
def eight {n:Int}(h1:0<=n) (h2:n<=7):n=0\/n=1\/n=2\/n=3\/n=4\/n=5\/n=6\/n=7:=A0
def land (a b:Int):Int:=Bn .i64 a b
def KS (k ph p:Int):Int:=if k=2 then land (land ph p) (-land ph p) else land ph p
def aCi {a b:Int}(ha:0<=a/\a<=7) (hb:0<=b/\b<=7):0<=land a b/\land a b<=7/\0<=land (land a b) (-land a b)/\land (land a b) (-land a b)<=7/\(land a b≠0->land (land a b) (-land a b)≠0):=by
 have key:∀x y:Fin 8,0<=land x.val y.val/\land x.val y.val<=7/\0<=land (land x.val y.val) (-land x.val y.val)/\land (land x.val y.val) (-land x.val y.val)<=7/\(land x.val y.val≠0->land (land x.val y.val) (-land x.val y.val)≠0):=yQ
 have:=key ⟨a.toNat,A0⟩ ⟨b.toNat,A0⟩
 simp only [BQ ha.1,BQ hb.1] at this;exact this
def aS (dl:Int) (pil:List Int):Int:=if (pil.length:Int)-dl>=0 then pil.getD ((pil.length:Int)-dl).toNat 0 else 0
def Hc (c:Ca) (m:Mi) (al:Int):Int:=
 if c.1=1 then (if c.2.2.2.2=0 then al else min al (aS c.2.2.2.2 m.1))
 else if c.1=3 then (if (m.2.1.tdiv c.2.2.2.2).tmod 2=1 then 0 else al)
 else if c.1=4 then (if al=0 then 0 else c.2.2.1) else al
def FH (c:Ca) (m:Mi) (p al:Int):Int:=if KS c.1 c.2.1 p=0\/m.2.2>=c.2.2.2.1 then 0 else min c.2.2.1 (Hc c m al)
def Gx (c:Ca) (m:Mi) (p al:Int):Int:=if FH c m p al=0 then 0 else KS c.1 c.2.1 p
def dwP (pil:List Int) (al:Int):List Int:=(pil++[al]).drop (pil.length-20)
def dwG (c:Ca) (m:Mi) (p al:Int):Int:=m.2.2+2300*FH c m p al*cnt (Gx c m p al)
def dwB (c:Ca) (m:Mi) (p al:Int):Bool:=Fs c&&(IN m&&(inB p 1 7&&(inB al 0 80&&m.2.1 !=1000000)))
def cR {c:Ca}{m:Mi}{p al:Int}:dwB c m p al=true↔Fs c=true/\IN m=true/\1<=p/\p<=7/\0<=al/\al<=80/\m.2.1≠1000000:=by
 simp [dwB,CU,and_assoc]
def aBP {k ph p:Int}(h1:1<=ph/\ph<=7) (h2:1<=p/\p<=7):0<=KS k ph p/\KS k ph p<=7:=by
 obtain ⟨a1,a2,a3,a4,_⟩:=aCi (a:=ph) (b:=p) ⟨A0,A0⟩ ⟨A0,A0⟩;unfold KS;split
 ·exact ⟨a3,a4⟩
 ·exact ⟨a1,a2⟩
def aff {dl:Int}{pil:List Int}(h:∀p∈pil,0<=p/\p<=80):0<=aS dl pil:=by
 unfold aS;split
 ·rw [Cx]
  cases hg:pil[((pil.length:Int)-dl).toNat]? with
  |none=>simp
  |some x=>simp;exact (h x (PZ hg)).1
 ·omega
def aez {c:Ca}{m:Mi}{al:Int}(hc:Fs c=true) (hm:IN m=true) (ha:0<=al):0<=Hc c m al:=by
 have hc:=WD.1 hc
 have hm:=cA.1 hm
 have:=aff (dl:=c.2.2.2.2) hm.2.2.2.2.2
 unfold Hc
 repeat' split
 all_goals omega
def aDO {c:Ca}{m:Mi}{p al:Int}(hc:Fs c=true) (hm:IN m=true) (hp:1<=p/\p<=7) (ha:0<=al/\al<=80):
  0<=FH c m p al/\FH c m p al<=c.2.2.1/\0<=Gx c m p al/\Gx c m p al<=7:=by
 have hw:=aez hc hm ha.1
 have hc:=WD.1 hc
 have hs:=aBP (k:=c.1) (ph:=c.2.1) (p:=p) ⟨A0,A0⟩ hp
 have h1:0<=FH c m p al/\FH c m p al<=c.2.2.1:=by unfold FH;split<;>omega
 refine ⟨h1.1,h1.2,?_⟩;unfold Gx;split<;>omega
def FF (c:Ca) (m:Mi) (p al:Int):Int:=if dwB c m p al=true then FH c m p al else 0
def Ea (c:Ca) (m:Mi) (p al:Int):Int:=if dwB c m p al=true then Gx c m p al else 0
def IQ (c:Ca) (m:Mi) (p al:Int):Mi:=if dwB c m p al=true then (dwP m.1 al,m.2.1+1,dwG c m p al) else ([],0,0)
def J8 (c:Ca) (m:Mi) (p al:Int):Int:=if dwB c m p al=true then 0 else 1
def Jo (m:Me):Bool:=inB m.1 0 1000000&&(decide (m.2.1>=-1000000000000000)&&decide (m.2.1<=1000000000000000))
def mcR (m:Me) (a p:Int):Int:=if m.2.2=true then m.2.1-2300*a*p else m.2.1+2300*a*p
def mcB (m:Me) (a p:Int):Bool:=Jo m&&(inB a 0 80&&inB p 0 3)
def EY (m:Me) (a p:Int):Int:=if mcB m a p=true then (if Jo (m.1,mcR m a p,m.2.2)=true then 0 else 3) else 1
def Fk (m:Me) (a p:Int):Me:=if EY m a p=0 then (m.1,mcR m a p,m.2.2) else (0,0,false)
def H7 (t d:Int):Int:=if (inB t 0 1000000&&inB d (-200) 200)=true then t*(1000000+d) / 1000000 else 0
def Kk (t d:Int):Int:=if (inB t 0 1000000&&inB d (-200) 200)=true then 0 else 1
def aQp {l:List Int}{f:Int->Bool}:l.all f=Dc l.length (λj=>f (gi l j)):=by
 rw [I0,BL,EB];refine ⟨λh j hj=>h _ (L6 A0 hj),λh x hx=>?_⟩
 obtain ⟨k,hk,rfl⟩:=IS.1 hx
 have:=h k A0
 rwa [Io VW] at this
def aIh:List LV->T LV
 | [.v (.agg ⟨[.string nm,.int .i64 at_,.int .i64 ph,.int .i64 mn,.int .i64 mx,.int .i64 st,.int .i64 fb,.int .i64 ow]⟩),.v (.agg ⟨[.int .i64 sp,.int .i64 sa,.int .i64 sl,.bool sw]⟩)]=> .ok (sV (nm,at_,ph,mn,mx,st,fb,ow) (sp,sa,sl,sw))
 |_=> .no
def akK:List Bd:=[WE,bZ,aai]
def aIo:=vo (S:=aIh) func107 akK kN (λargs lv h=>by
 unfold aIh at h;split at h
 ·rename_i nm at_ ph mn mx st fb ow sp sa sl sw
  refine Aj (.br (!(IP ph mn mx st fb)) (.ok false) (.br ((sp==0)&&((sa==0)&&((sl==0)&&(sw==false)))) (.ok true) (.ok (.v (.bool ((inB sp (0:Int) (5:Int))&&((inB sl (0:Int) (1000000:Int))&&((inB sa (0:Int) mx)&&(if sl !=0 then (!sw) ||(sp==5) else (sa==0)&&((!sw) ||(sp==5))))))))))) ?_
  obtain rfl:=h;refine ⟨λh1=>?_,λh1=>⟨λh2=>?_,λh2=>?_⟩⟩
  all_goals refine Ax (λz=>LV.v (.bool z)) ?_
  ·simp at h1;simp [sV,h1]
  ·simp at h1 h2
   obtain ⟨rfl,rfl,rfl,rfl⟩:=h2
   have:=aIE.1 h1
   rw [SO,aJ5]
   simp [h1];omega
  ·simp at h1
   unfold sV;simp only;rw [h1]
   by_cases hl:sl=0
   ·simp [hl]
   ·have:(sl !=0)=true:=kW
    simp [this]
 ·cases h)
def aSa:List LV->T LV
 | [.v (.agg ⟨[.string nm,.int .i64 at_,.int .i64 ph,.int .i64 mn,.int .i64 mx,.int .i64 st,.int .i64 fb,.int .i64 ow]⟩),.v (.agg ⟨[.int .i64 ek,.int .i64 en,.int .i64 em]⟩)]=> .req (ek≠0) (.ok (evV mx ek en em))
 |_=> .no
def akJ:List Bd:=[bZ]
def ahm:=vo (S:=aSa) func121 akJ kN (λargs lv h=>by
 unfold aSa at h;split at h
 ·rename_i nm at_ ph mn mx st fb ow ek en em
  refine Aj (.br (ek==4) (.ok (inB en (0:Int) (1:Int))) (.br (ek==6) (.ok (inB en (0:Int) (2:Int))) (.br (ek==7) (.br (!(inB em (1:Int) (1000000:Int))) (.ok false) (.ok (inB en (0:Int) mx))) (.br (ek==0) (.ok (inB en (0:Int) mx)) (.ok true))))) ?_;obtain ⟨h0,rfl⟩:=h;refine ⟨λh1=>?_,λh1=>⟨λh2=>?_,λh2=>⟨λh3=>⟨λh4=>?_,λh4=>?_⟩,λh3=>⟨λh4=>?_,λh4=>?_⟩⟩⟩⟩
  all_goals refine Ax (λz=>LV.v (.bool z)) ?_
  all_goals simp_all [evV]
 ·cases h)
def aIa:List LV->T LV
 | [.v (.agg ⟨[.int .i64 sp,.int .i64 sa,.int .i64 sl,.bool sw]⟩),.v (.agg ⟨[.int .i64 ek,.int .i64 en,.int .i64 em]⟩)]=> .ok (.v (.agg #[dcP sp sw ek en,sa,sl,dcW sw ek en]))
 |_=> .no
def akI:List Bd:=[]
def au9:=vo (S:=aIa) func122 akI kN (λargs lv h=>by
 unfold aIa at h;split at h
 ·rename_i sp sa sl sw ek en em
  refine Aj (.br (ek==4) (.br (en==1) (.ok (.v (.agg #[(3:Int),sa,sl,sw]))) (.ok (.v (.agg #[(5:Int),sa,sl,sw])))) (.br (ek==6) (.br (en==0) (.ok (.v (.agg #[(1:Int),sa,sl,.bool (en==1)]))) (.ok (.v (.agg #[(5:Int),sa,sl,.bool (en==1)])))) (.br (ek==2) (.br (!sw) (.ok (.v (.agg #[(0:Int),sa,sl,sw]))) (.ok (.v (.agg #[sp,sa,sl,sw])))) (.br (ek==9) (.br (!sw) (.ok (.v (.agg #[(1:Int),sa,sl,sw]))) (.ok (.v (.agg #[sp,sa,sl,sw])))) (.ok (.v (.agg #[sp,sa,sl,sw]))))))) ?_;obtain rfl:=h
  have fin:∀(p:Int) (q:Bool),p=dcP sp sw ek en->q=dcW sw ek en->LV.v (.agg #[.int .i64 p,.int .i64 sa,.int .i64 sl,.bool q])=LV.v (.agg #[.int .i64 (dcP sp sw ek en),.int .i64 sa,.int .i64 sl,.bool (dcW sw ek en)]):=λp q h1 h2=>AA
  refine ⟨λh1=>⟨λh2=>?_,λh2=>?_⟩,λh1=>⟨λh2=>⟨λh3=>?_,λh3=>?_⟩,λh2=>⟨λh3=>⟨λh4=>?_,λh4=>?_⟩,λh3=>⟨λh4=>⟨λh5=>?_,λh5=>?_⟩,λh4=>?_⟩⟩⟩⟩
  all_goals refine fin _ _ ?_ ?_
  all_goals simp_all [dcP,dcW]
 ·cases h)
def aRS:List LV->T LV
 | [.v (.agg ⟨[.string nm,.int .i64 at_,.int .i64 ph,.int .i64 mn,.int .i64 mx,.int .i64 st,.int .i64 fb,.int .i64 ow]⟩),.v (.agg ⟨[.int .i64 sp,.int .i64 sa,.int .i64 sl,.bool sw]⟩),.v (.agg ⟨[.int .i64 ek,.int .i64 en,.int .i64 em]⟩)]=> .tu #[.agg #[(sN (nm,at_,ph,mn,mx,st,fb,ow) (sp,sa,sl,sw) ek en em).1,(sN (nm,at_,ph,mn,mx,st,fb,ow) (sp,sa,sl,sw) ek en em).2.1,(sN (nm,at_,ph,mn,mx,st,fb,ow) (sp,sa,sl,sw) ek en em).2.2.1,(sN (nm,at_,ph,mn,mx,st,fb,ow) (sp,sa,sl,sw) ek en em).2.2.2],sE (nm,at_,ph,mn,mx,st,fb,ow) (sp,sa,sl,sw) ek en em]
 |_=> .no
def yv:List Bd:=[aIo,bZ,ahm,au9]
def akW:As:=kI yv (l0 yv)
def Qi:=vo (S:=aRS) func83 yv akW (λargs lv h=>by
 unfold aRS at h;split at h
 ·rename_i nm at_ ph mn mx st fb ow sp sa sl sw ek en em
  refine Aj (letI a:=Wr (ek.toNat*6+(sp.toNat*1+0));letI c:=A9 (sl-1);letI d:=dcP sp sw ek en;letI f:=dcW sw ek en;.br (!(sV (nm,at_,ph,mn,mx,st,fb,ow) (sp,sa,sl,sw))) (.tu #[.agg #[(0:Int),(0:Int),(0:Int),false],(1:Int)]) (.br (!(inB ek (1:Int) (9:Int))) (.tu #[.agg #[(0:Int),(0:Int),(0:Int),false],(9:Int)]) (.req (ek≠0) (.br (!(evV mx ek en em)) (.tu #[.agg #[(0:Int),(0:Int),(0:Int),false],(1:Int)]) (.req (0<=ek/\ek<(10:Int)) (.req (0<=sp/\sp<(6:Int)) (.br (a==(-1)) (.tu #[.agg #[(0:Int),(0:Int),(0:Int),false],(6:Int)]) (.br (a==(-2)) (.br (ek==7) (.tu #[.agg #[sp,en,em,sw],(0:Int)]) (.br (ek==8) (.br ((if (0:Int)<c then A9 (sl-1) else 0)==0) (.tu #[.agg #[sp,(0:Int),.int .i64 (if (0:Int)<c then A9 (sl-1) else 0),sw],(0:Int)]) (.tu #[.agg #[sp,sa,.int .i64 (if (0:Int)<c then A9 (sl-1) else 0),sw],(0:Int)])) (.br (ek==9) (.tu #[.agg #[sp,(0:Int),(0:Int),sw],(0:Int)]) (.tu #[.agg #[sp,sa,sl,sw],(0:Int)])))) (.br (a==(-3)) (.br (ek==7) (.tu #[.agg #[d,en,em,f],(0:Int)]) (.br (ek==8) (.br ((if (0:Int)<c then A9 (sl-1) else 0)==0) (.tu #[.agg #[d,(0:Int),.int .i64 (if (0:Int)<c then A9 (sl-1) else 0),f],(0:Int)]) (.tu #[.agg #[d,sa,.int .i64 (if (0:Int)<c then A9 (sl-1) else 0),f],(0:Int)])) (.br (ek==9) (.tu #[.agg #[d,(0:Int),(0:Int),f],(0:Int)]) (.tu #[.agg #[d,sa,sl,f],(0:Int)])))) (.br (ek==7) (.tu #[.agg #[a,en,em,sw],(0:Int)]) (.br (ek==8) (.br ((if (0:Int)<c then A9 (sl-1) else 0)==0) (.tu #[.agg #[a,(0:Int),.int .i64 (if (0:Int)<c then A9 (sl-1) else 0),sw],(0:Int)]) (.tu #[.agg #[a,sa,.int .i64 (if (0:Int)<c then A9 (sl-1) else 0),sw],(0:Int)])) (.br (ek==9) (.tu #[.agg #[a,(0:Int),(0:Int),sw],(0:Int)]) (.tu #[.agg #[a,sa,sl,sw],(0:Int)]))))))))))))) ?_
  obtain rfl:=h
  have bad:∀e,e≠0->(sE (nm,at_,ph,mn,mx,st,fb,ow) (sp,sa,sl,sw) ek en em)=e->LV.v (.tuple #[.agg #[.int .i64 0,.int .i64 0,.int .i64 0,.bool false],.int .i64 e])=LV.v (.tuple #[.agg #[.int .i64 (sN (nm,at_,ph,mn,mx,st,fb,ow) (sp,sa,sl,sw) ek en em).1,.int .i64 (sN (nm,at_,ph,mn,mx,st,fb,ow) (sp,sa,sl,sw) ek en em).2.1,.int .i64 (sN (nm,at_,ph,mn,mx,st,fb,ow) (sp,sa,sl,sw) ek en em).2.2.1,.bool (sN (nm,at_,ph,mn,mx,st,fb,ow) (sp,sa,sl,sw) ek en em).2.2.2],.int .i64 (sE (nm,at_,ph,mn,mx,st,fb,ow) (sp,sa,sl,sw) ek en em)]):=λe h0 h1=>by
   unfold sN;rw [h1];simp only [AD h0]
  have good:∀(p q r:Int) (b:Bool),(sE (nm,at_,ph,mn,mx,st,fb,ow) (sp,sa,sl,sw) ek en em)=0->p=phF sp sw ek en->q=sA sa sl ek en->r=sL sl ek em->b=sW sw ek en->LV.v (.tuple #[.agg #[.int .i64 p,.int .i64 q,.int .i64 r,.bool b],.int .i64 0])=LV.v (.tuple #[.agg #[.int .i64 (sN (nm,at_,ph,mn,mx,st,fb,ow) (sp,sa,sl,sw) ek en em).1,.int .i64 (sN (nm,at_,ph,mn,mx,st,fb,ow) (sp,sa,sl,sw) ek en em).2.1,.int .i64 (sN (nm,at_,ph,mn,mx,st,fb,ow) (sp,sa,sl,sw) ek en em).2.2.1,.bool (sN (nm,at_,ph,mn,mx,st,fb,ow) (sp,sa,sl,sw) ek en em).2.2.2],.int .i64 (sE (nm,at_,ph,mn,mx,st,fb,ow) (sp,sa,sl,sw) ek en em)]):=λp q r b h0 h1 h2 h3 h4=>by
   unfold sN;rw [h0,h1,h2,h3,h4];simp only [Bm]
  refine ⟨λh1=>bad 1 Aa (by simp at h1;simp [sE,h1]),λh1=>⟨λh2=>bad 9 Aa (by simp at h1 h2;simp [sE,h1,h2]),λh2=>?_⟩⟩
  simp only [Hy] at h1 h2
  have h2':=CU.1 h2
  refine ⟨A0,λh3=>bad 1 Aa (by simp at h3;simp [sE,h1,h2,h3]),λh3=>?_⟩
  simp only [Hy] at h3;obtain ⟨g1,g2,g3,g4,g5,g6,g7,g8,g9⟩:=aJ5.1 h1;simp only at g2 g3 g4 g5 g6 g7 g8 g9
  have hw:A9 (sl-1)=sl-1:=AI
  have hn:(sE (nm,at_,ph,mn,mx,st,fb,ow) (sp,sa,sl,sw) ek en em)=if phF sp sw ek en<0 then 6 else 0:=by simp [sE,h1,h2,h3]
  have htk:(if (0:Int)<sl-1 then sl-1 else 0)=tkF sl:=rfl
  rw [hw,htk];refine ⟨A0,A0,?_⟩
  have hz:sw=false\/(sw=true/\sp=5):=by cases sw<;>simp_all
  rw [agu A0 A0 A0 A0]
  clear h1 h2 h3 bad good g1 g4 g5 g6 g7 g9 hw htk
  rcases hz with rfl|⟨rfl,rfl⟩
  ·rcases nine h2'.1 h2'.2 with rfl|rfl|rfl|rfl|rfl|rfl|rfl|rfl|rfl<;>rcases alq g2 g3 with rfl|rfl|rfl|rfl|rfl|rfl
   all_goals simp [T.all,lU,sN,hn,phF,sA,sL,sW,dcP,dcW]
   all_goals (try omega)
   all_goals (by_cases h4:en=1<;>by_cases h5:en=0<;>simp_all)
  ·rcases nine h2'.1 h2'.2 with rfl|rfl|rfl|rfl|rfl|rfl|rfl|rfl|rfl
   all_goals simp [T.all,lU,sN,hn,phF,sA,sL,sW,dcP,dcW]
   all_goals (try omega)
 ·cases h)
def aSr:List LV->T LV
 | [.v (.agg ⟨[.string nm,.int .i64 at_,.int .i64 ph,.int .i64 mn,.int .i64 mx,.int .i64 st,.int .i64 fb,.int .i64 ow]⟩),.v (.agg ⟨[.int .i64 sp,.int .i64 sa,.int .i64 sl,.bool sw]⟩)]=> .ok (Bi (nm,at_,ph,mn,mx,st,fb,ow) (sp,sa,sl,sw))
 |_=> .no
def akH:List Bd:=[aIo]
def XH:=vo (S:=aSr) func77 akH kN (λargs lv h=>by
 unfold aSr at h;split at h
 ·rename_i nm at_ ph mn mx st fb ow sp sa sl sw
  refine Aj (.br (!(sV (nm,at_,ph,mn,mx,st,fb,ow) (sp,sa,sl,sw))) (.ok (0:Int)) (.br sw (.ok mx) (.br (sp !=4) (.ok (0:Int)) (.br (sl !=0) (.ok sa) (.ok fb))))) ?_;obtain rfl:=h;refine ⟨λh1=>?_,λh1=>⟨λh2=>?_,λh2=>⟨λh3=>?_,λh3=>⟨λh4=>?_,λh4=>?_⟩⟩⟩⟩
  all_goals refine Ax (λz=>LV.v (.int .i64 z)) ?_
  all_goals simp_all [Bi]
 ·cases h)
structure Ll where
 most:Int
 r:Bool
 l:List Int
 (n i:Int)
def aIH:=bN f113 0
def kr (s:Ll):T (Rd Ll):=
 .br (decide (s.i<s.n)) (.ix s.i (s.l.length) (.br ((decide ((gi s.l s.i)<0)) ||(decide ((gi s.l s.i)>s.most))) (.so (.ret) {s with r:=false}) (.nx {s with i:=A9 (s.i+1)}))) (.so (.exit 0) s)
def Ud (s:Ll) (j:Int):Bool:=inB (gi s.l j) 0 s.most
def lg (s:Ll):Prop:=s.i=0/\0<=s.n/\s.n<=1000/\s.n=(s.l.length:Int)
def ag (s:Ll):Prop:=0<=s.i/\s.i<=s.n/\s.n<=1000/\(s.n=(s.l.length:Int))/\∀j:Nat,(j:Int)<s.i->Ud s j=true
def yi (s:Ll):Nat:=(s.n-s.i).toNat
def vr (x:Ex) (s s':Ll):Prop:=(x=.exit 0/\∀j:Nat,(j:Int)<s'.n->Ud s' j=true)\/(x=.ret/\s'.r=false/\∃j:Nat,(j:Int)<s'.n/\Ud s' j=false)
def alo:∀s,lg s->ag s:=by
 exact Kt
def ahW:Da ag yi vr kr:=by
 intro s hI;unfold kr;dsimp only [T.rd,T.rl,T.rv];obtain ⟨h0,h1,h2,h3,h4⟩:=hI;refine AG (λc1=>AG (λc2=>?_) (λc2=>?_)) (λc1=>?_)
 ·have c1:s.i<s.n:=AO
  refine .inr ⟨rfl,rfl,s.i.toNat,AP,?_⟩;rw [BQ A0]
  have hg:Ud s s.i=false:=aMr
  exact hg
 ·have c1:s.i<s.n:=AO
  have hg:Ud s s.i=true:=aMr
  rw [AI (x:=s.i+1)];refine ⟨⟨AP,AP,h2,h3,λj hj=>?_⟩,by simp only [yi];omega⟩
  exact aLr
 ·exact SJ
def Rr:AS Ll:=⟨0,21,[0,4,7,8,9],[],λs=>[s.most,s.r,.xl A7 s.l,s.n,s.i],λ_=>[],λv b=>⟨AK v 0,Eb v 1,Az A7 v 2,AK v 3,AK v 4⟩,kr,λs r=> {s with r:=r.r,i:=r.i},λs=>s,λ_ s=>s,[.ret,.exit 0],lg,ag,yi⟩
abbrev aJ9:=Rr.run
abbrev aR1:=Rr.Am
def aiI:Rq ag kr:=by
 exact SP
def aQU:List Bd:=[]
def abl:Rr.Ok:={}
def abU:Rr.Pf (vr):=⟨alo,λs h=>rfl,ahW,aiI⟩
def auV:SA 0 aIH Rr:=s1 abl abU aQU kN
def atf:Fi lg ag vr aR1 aJ9:=AS.fin abl abU
def aSd:List LV->T LV
 | [.v (.int .i64 most),.xl (.int .i64) ns]=> .req (ns.length<=1000) (.ok (ns.all (λp=>inB p 0 most)))
 |_=> .no
def aaj:=vm (S:=aSd) func113 aQU kN (L:=(λi=>if i=2 then Rr.lp else Af i)) (λb hb=>by
 rw [show B6 _=[aIH] by kernel_rfl] at hb
 simp only [B1,Bv,Bw] at hb;subst hb;exact auV) (λargs lv h=>by
 unfold aSd at h;split at h
 ·rename_i most ns
  refine Aj (letI a:=(ns.length:Int);.req (Rr.q (⟨most,false,ns,a,0⟩:Ll)) (.br (Bo (aR1 (⟨most,false,ns,a,0⟩:Ll)) (.ret)) (.ok (aJ9 (⟨most,false,ns,a,0⟩:Ll)).r) (.ok true))) ?_;obtain ⟨h0,rfl⟩:=h
  have hE:lg ⟨most,false,ns,(ns.length:Int),0⟩:=⟨rfl,AP,AP,rfl⟩
  obtain ⟨s',hI,hq⟩:=atf _ hE;rw [aQp];refine ⟨⟨hE,rfl,rfl⟩,?_⟩;rcases hq with ⟨q1,q2⟩ |⟨q1,q2,j,q3,q4⟩<;>rw [q1]
  ·rw [show Dc ns.length (λj=>inB (gi ns j) 0 most)=true from EB.2 q2]
   exact ⟨λh=>Ah,λ_=>rfl⟩
  ·rw [q2,show Dc ns.length (λj=>inB (gi ns j) 0 most)=false from Q3 j q3 q4]
   exact ⟨λ_=>rfl,λh=>Ah⟩
 ·cases h)
def aRe:List LV->T LV
 | [.v (.agg ⟨[.int .i64 sr,.int .i64 rg,.bool bk]⟩)]=> .ok (Jo (sr,rg,bk))
 |_=> .no
def ayG:List Bd:=[aaj]
def ahx:=vo (S:=aRe) func112 ayG kN (λargs lv h=>by
 unfold aRe at h;split at h
 ·rename_i sr rg bk
  refine Aj (.req (([sr]).length<=1000) (.br (([sr]).all (λp=>inB p 0 (1000000:Int))) (.br (decide (rg>=(-1000000000000000))) (.ok (decide (rg<=1000000000000000))) (.ok false)) (.ok false))) ?_
  obtain rfl:=h;refine ⟨AJ,λc1=>⟨λc2=>?_,λc2=>?_⟩,λc1=>?_⟩
  all_goals refine Ax (λz=>LV.v (.bool z)) ?_
  all_goals simp only [IT,List.all_nil,jK] at c1
  all_goals first|(simp_all [Jo];done) |(simp_all [Jo];omega)
 ·cases h)
def aRf:List LV->T LV
 | [.v (.agg ⟨[.int .i64 sr,.int .i64 rg,.bool bk]⟩),.v (.int .i64 a),.v (.int .i64 p)]=> .tu #[.agg #[(Fk (sr,rg,bk) a p).1,(Fk (sr,rg,bk) a p).2.1,(Fk (sr,rg,bk) a p).2.2],EY (sr,rg,bk) a p]
 |_=> .no
def uO:List Bd:=[ahx,aaj]
def ayQ:As:=kI uO (l0 uO)
def XE:=vo (S:=aRf) func79 uO ayQ (λargs lv h=>by
 unfold aRf at h;split at h
 ·rename_i sr rg bk a p
  refine Aj (letI b:=A9 (2300*a);.br (!(Jo (sr,rg,bk))) (.tu #[.agg #[(0:Int),(0:Int),false],(1:Int)]) (.req (([a]).length<=1000) (.br (!(([a]).all (λp=>inB p 0 (80:Int)))) (.tu #[.agg #[(0:Int),(0:Int),false],(1:Int)]) (.req (([p]).length<=1000) (.br (!(([p]).all (λp=>inB p 0 (3:Int)))) (.tu #[.agg #[(0:Int),(0:Int),false],(1:Int)]) (.br bk (.br (!(Jo (sr,(A9 (rg-(A9 (b*p)))),bk))) (.tu #[.agg #[(0:Int),(0:Int),false],(3:Int)]) (.tu #[.agg #[sr,(A9 (rg-(A9 (b*p)))),bk],(0:Int)])) (.br (!(Jo (sr,(A9 (rg+(A9 (b*p)))),bk))) (.tu #[.agg #[(0:Int),(0:Int),false],(3:Int)]) (.tu #[.agg #[sr,(A9 (rg+(A9 (b*p)))),bk],(0:Int)])))))))) ?_
  obtain rfl:=h
  have fin:∀(x1 x2:Int) (x3:Bool) (e:Int),(x1,x2,x3)=Fk (sr,rg,bk) a p->e=EY (sr,rg,bk) a p->LV.v (.tuple #[.agg #[.int .i64 x1,.int .i64 x2,.bool x3],.int .i64 e])=LV.v (.tuple #[.agg #[.int .i64 (Fk (sr,rg,bk) a p).1,.int .i64 (Fk (sr,rg,bk) a p).2.1,.bool (Fk (sr,rg,bk) a p).2.2],.int .i64 (EY (sr,rg,bk) a p)]):=by
   intro x1 x2 x3 e h1 h2;rw [h2,<-h1]
  have hw:Jo (sr,rg,bk)=true->inB a 0 80=true->inB p 0 3=true->A9 (rg-A9 (A9 (2300*a)*p))=rg-2300*a*p/\A9 (rg+A9 (A9 (2300*a)*p))=rg+2300*a*p:=by
   intro h1 h2 h3
   simp [Jo,inB] at h1 h2 h3
   have hm:0<=2300*a*p/\2300*a*p<=552000:=⟨I4 A0 A0,PW (Int.mul_le_mul (by omega:2300*a<=184000) (by omega:p<=3) A0 A0) A0⟩
   rw [AI (x:=2300*a),AI (x:=2300*a*p)];exact ⟨AI,AI⟩
  simp only [IT,List.all_nil,jK];refine ⟨λc1=>?_,λc1=>⟨AJ,λc2=>?_,λc2=>⟨AJ,λc3=>?_,λc3=>?_⟩⟩⟩
  ·refine fin _ _ _ _ ?_ ?_<;>simp at c1<;>simp [Fk,EY,mcB,c1]
  ·refine fin _ _ _ _ ?_ ?_<;>simp at c1 c2<;>simp [Fk,EY,mcB,c1,c2]
  ·refine fin _ _ _ _ ?_ ?_<;>simp at c1 c2 c3<;>simp [Fk,EY,mcB,c1,c2,c3]
  ·simp at c1 c2 c3
   obtain ⟨w1,w2⟩:=hw c1 c2 c3;rw [w1,w2];refine ⟨λc4=>⟨λc5=>?_,λc5=>?_⟩,λc4=>⟨λc5=>?_,λc5=>?_⟩⟩<;>subst c4<;>simp at c5<;>refine fin _ _ _ _ ?_ ?_<;>simp [Fk,EY,mcB,mcR,c1,c2,c3,c5]
 ·cases h)
abbrev Cp:Ty:=.pair A7 AX
abbrev Lk:=Int×Le
def F9 (l:List Lk) (n:Int):Lk:=l.getD n.toNat (0,0,0,0,0,0)
structure PK where
 cs:List Cd
 os:List ByteArray
 ks:List Ko
 gs:List Ch
 bs:List Ba
 tk:Int
 up:Bool
 ls:List Le
 se:Int
 fl:List Int
 ra:List Ra
 nx:Int
 st:List St
 ca:List Ca
 mi:List Mi
 me:List Me
 dm:List Dm
 lk:List Lk
 (dr tg:List Int)
def pB (p:PK):AB:=⟨[.xl Ao p.cs,.xl .str p.os,.xl B8 p.ks,.xl Au p.gs,.xl B9 p.bs,.v (.int .i64 p.tk),.v (.bool p.up),.xl AX p.ls,.v (.int .i64 p.se),.xl (.int .u8) p.fl,.xl BD p.ra,.v (.int .i64 p.nx),.xl Bu p.st,.xl AX p.ca,.xl By p.mi,.xl D6 p.me,.xl BO p.dm,.xl Cp p.lk,.xl A7 p.dr,.xl A7 p.tg],47,.cl,false⟩
instance:Coe PK LV:=⟨λp=> .agg [.xl Ao p.cs,.xl .str p.os,.xl B8 p.ks,.xl Au p.gs,.xl B9 p.bs,.v (.int .i64 p.tk),.v (.bool p.up),.xl AX p.ls,.v (.int .i64 p.se),.xl (.int .u8) p.fl,.xl BD p.ra,.v (.int .i64 p.nx),.xl Bu p.st,.xl AX p.ca,.xl By p.mi,.xl D6 p.me,.xl BO p.dm,.xl Cp p.lk,.xl A7 p.dr,.xl A7 p.tg]⟩
def rQ (b:List AB) (q:Nat):PK:=letI a:=CP b q;⟨Ai Ao (B3 a 0),Ai .str (B3 a 1),Ai B8 (B3 a 2),Ai Au (B3 a 3),Ai B9 (B3 a 4),gI (B3 a 5),gBo (B3 a 6),Ai AX (B3 a 7),gI (B3 a 8),Ai (.int .u8) (B3 a 9),Ai BD (B3 a 10),gI (B3 a 11),Ai Bu (B3 a 12),Ai AX (B3 a 13),Ai By (B3 a 14),Ai D6 (B3 a 15),Ai BO (B3 a 16),Ai Cp (B3 a 17),Ai A7 (B3 a 18),Ai A7 (B3 a 19)⟩
def rV (b:List AB) (q j k:Nat) (e:Ty):List e.D:=bif Nat.beq k 0 then Ai e (B3 (CP b q) j) else gVe e (CP b k)
def rB (b:List AB) (q acs als afl ara ast aca ami ame adm alk adr atg:Nat):PK:=letI a:=CP b q;⟨rV b q 0 acs Ao,Ai .str (B3 a 1),Ai B8 (B3 a 2),Ai Au (B3 a 3),Ai B9 (B3 a 4),gI (B3 a 5),gBo (B3 a 6),rV b q 7 als AX,gI (B3 a 8),rV b q 9 afl (.int .u8),rV b q 10 ara BD,gI (B3 a 11),rV b q 12 ast Bu,rV b q 13 aca AX,rV b q 14 ami By,rV b q 15 ame D6,rV b q 16 adm BO,rV b q 17 alk Cp,rV b q 18 adr A7,rV b q 19 atg A7⟩
def rF (b:List AB):PK:=rB b 16 4 5 6 7 8 9 10 11 12 13 14 15
def rT (b:List AB):PK:=rB b 16 4 0 0 0 8 9 10 11 0 0 14 15
abbrev _root_.Go.Sx.T.pc {α:Type}(p:PK) (t:T α):T α:=.rl p.cs (.rl p.ls (.rl p.fl (.rl p.ra (.rl p.st (.rl p.ca (.rl p.mi (.rl p.me (.rl p.dm (.rl p.lk (.rl p.dr (.rl p.tg t)))))))))))
abbrev _root_.Go.Sx.T.pd {α:Type}(p:PK) (t:T α):T α:=.rl p.cs (.rl p.st (.rl p.ca (.rl p.mi (.rl p.me (.rl p.dr (.rl p.tg t))))))
abbrev _root_.Go.Sx.T.pb {α:Type}(p:PK) (t:T α):T α:=.rl p.st (.rl p.ca (.rl p.mi (.rl p.me (.rl p.dm (.rl p.lk (.rl p.dr (.rl p.tg t)))))))
abbrev _root_.Go.Sx.T.pa {α:Type}(p:PK) (t:T α):T α:=.rl p.cs (.rl p.ls (.rl p.fl (.rl p.ra t)))
instance:Coe (List Lk) LV:=⟨.xl Cp⟩
namespace PK
variable (p : PK)
def sV:Bool:=BF p.cs p.os p.ks p.gs p.bs
end PK
def Jh (c:Cd) (t:Int):Cd:=(c.1,c.2.1,t,c.2.2.2)
def GU (cs:List Cd) (tg:List Int):Nat->List Cd
 |0=>cs
 |k+1=>(GU cs tg k).set k (Jh (Ag (GU cs tg k) k) (gi tg k))
def Ce (gs:List Ch) (st:List St) (i k n m:Int):List St:=if sE (AH gs i) (BP st i) k n m=0 then st.set i.toNat (sN (AH gs i) (BP st i) k n m) else st
def PM (gs:List Ch) (lk:List Lk) (t:Int) (st:List St):Nat->List St
 |0=>st
 |k+1=>if (F9 lk k).1>t then PM gs lk t st k else Ce gs (PM gs lk t st k) (F9 lk k).2.2.1 7 (F9 lk k).2.2.2.1 (F9 lk k).2.2.2.2.2
def Re (gs:List Ch) (st:List St) (i:Int):Nat->List St
 |0=>st
 |k+1=>Ce gs (Re gs st i k) i 8 0 0
def Rt (gs:List Ch) (dr:List Int) (t:Int) (st:List St):Nat->List St
 |0=>st
 |k+1=>if Kk t (gi dr k)=0/\Kk (t+1) (gi dr k)=0 then Re gs (Rt gs dr t st k) k (H7 (t+1) (gi dr k)-H7 t (gi dr k)).toNat else Rt gs dr t st k
structure DW where
 st:List St
 mi:List Mi
 me:List Me
 dw:List Int
def Fc (gs:List Ch) (ca:List Ca) (s:DW) (i:Int):DW:=
 if (BS ca i).2.2.1=0 then s
 else if J8 (BS ca i) (BC s.mi i) (AH gs i).2.2.1 (Bi (AH gs i) (BP s.st i))=0 then
  let a:=FF (BS ca i) (BC s.mi i) (AH gs i).2.2.1 (Bi (AH gs i) (BP s.st i))
  let o:=cnt (Ea (BS ca i) (BC s.mi i) (AH gs i).2.2.1 (Bi (AH gs i) (BP s.st i)))
  ⟨if a>Bi (AH gs i) (BP s.st i) then Ce gs s.st i 6 2 0 else s.st,s.mi.set i.toNat (IQ (BS ca i) (BC s.mi i) (AH gs i).2.2.1 (Bi (AH gs i) (BP s.st i))),
   if EY (Ac s.me i) a o=0 then s.me.set i.toNat (Fk (Ac s.me i) a o) else s.me,s.dw.set i.toNat a⟩
 else s
def Dh (gs:List Ch) (ca:List Ca) (s:DW):Nat->DW
 |0=>s
 |k+1=>Fc gs ca (Dh gs ca s k) k
def aGR {cs:List Cd}{k:Nat}{x:Cd}{j:Nat}(hk:k<cs.length):Ag (cs.set k x) (j:Int)=if j=k then x else Ag cs j:=by
 unfold Ag;simp only [Bs,Cx,HI]
 by_cases e:j=k
 ·subst e;simp [hk]
 ·rw [AD (λh=>e h.symm),AD e]
def cM {cs:List Cd}{k:Nat}(hk:k<cs.length):Ag cs (k:Int)=cs[k]:=by
 unfold Ag
 simp [hk]
def mf {cs:List Cd}{os:List ByteArray}{ks:List Ko}{gs:List Ch}{bs:List Ba}(h:BF cs os ks gs bs=true) {k:Nat}(hk:k<cs.length) {t:Int}(ht:1<=t/\t<=1000):
  BF (cs.set k (Jh (Ag cs k) t)) os ks gs bs=true:=by
 have hm:(cs.set k (Jh (Ag cs k) t)).map (·.1)=cs.map (·.1):=by
  rw [List.map_set]
  have:(Jh (Ag cs k) t).1=(cs.map (·.1))[k]' VW:=by
   rw [cM hk];simp [Jh]
  rw [this,List.set_getElem_self]
 unfold BF L8 Ls at h|-;rw [hm,Br];simp only [AU] at h|-;obtain ⟨h1,h2,h3,h4,h5⟩:=h;refine ⟨h1,h2,h3,?_,h5⟩;rw [EB] at h4|-;intro j hj
 have hc:=h4 j hj
 rw [aGR hk];split
 ·rename_i e
  subst e;unfold Hl Jh at*;simp only [AU] at hc|-;exact ⟨hc.1,CU.2 ht,hc.2.2⟩
 ·exact hc
def aRW:List LV->T LV
 | [.v (.int .i64 n),.v (.int .i64 a),.v (.int .i64 b)]=> .ok (inB n a b)
 |_=> .no
def ayF:List Bd:=[]
def TS:=vo (S:=aRW) func32 ayF kN (λargs lv h=>by
 unfold aRW at h;split at h
 ·rename_i n a b
  refine Aj (.ok (.v (.bool ((decide (n>=a))&&(decide (n<=b)))))) ?_;exact h
 ·cases h)
def aRn:List LV->T LV
 | [.v (.int .i64 n)]=> .ok (inB n (-200) 200)
 |_=> .no
def ayE:List Bd:=[TS]
def fI:=vo (S:=aRn) func15 ayE kN (λargs lv h=>by
 unfold aRn at h;split at h
 ·rename_i n
  refine Aj (.ok (inB n (-200:Int) (200:Int))) ?_;exact h
 ·cases h)
def BE (l:List Int):Prop:=∀x∈l,0<=x/\x<=255
def lX (x b:Int):Int:=IntKind.u32.wrap (aJK .u32 x (IntKind.u32.wrap b)*16777619)
def Ru (x:Int) (l:List Int):Int:=l.foldl lX x
def On (ps:List (List Int)):Int:=ps.foldl Ru 2166136261
def Cu (n:Int):List Int:=[IntKind.u8.wrap (n.fdiv (2^24)),IntKind.u8.wrap (n.fdiv (2^16)),IntKind.u8.wrap (n.fdiv (2^8)),IntKind.u8.wrap n]
def nm4 (a b c d:Int):Int:=DO .u32 (DO .u32 (DO .u32 (IntKind.u32.wrap (IntKind.u32.wrap a*2^24)) (IntKind.u32.wrap (IntKind.u32.wrap b*2^16))) (IntKind.u32.wrap (IntKind.u32.wrap c*2^8))) (IntKind.u32.wrap d)
def Gb (l:List Int):Int:=nm4 (gi l 0) (gi l 1) (gi l 2) (gi l 3)
def Ji (d:List Int):List Int:=[IntKind.u8.wrap ((d.length:Int).fdiv (2^8)),IntKind.u8.wrap (d.length:Int)]
def Bb (d:List Int):List Int:=80::(Ji d++(Cu (On [Ji d,d])++d))
def GJ {n:Int}:IntKind.u8.wrap n=n%256:=aMK
def Sj {n:Int}:IntKind.u32.wrap n=n%4294967296:=aMK
def asv (x b:Int):0<=lX x b/\lX x b<4294967296:=by unfold lX;rw [Sj];omega
def asx {x:Int}(h:0<=x/\x<4294967296) (l:List Int):0<=Ru x l/\Ru x l<4294967296:=by
 induction l generalizing x with
 |nil=>exact h
 |cons b l ih=>exact ih (asv x b)
def asw (ps:List (List Int)):0<=On ps/\On ps<4294967296:=by
 have:∀(ps:List (List Int)) (x:Int),0<=x/\x<4294967296->0<=ps.foldl Ru x/\ps.foldl Ru x<4294967296:=by
  intro ps
  induction ps with
  |nil=>intro x h;exact h
  |cons p ps ih=>intro x h;exact ih _ (asx h p)
 exact this ps _ Aa
def cd {a b k:Nat}(h:b<2^k):a*2^k |||b=a*2^k+b:=by
 rw [Nat.mul_comm,<-Nat.two_pow_add_eq_or_of_lt h]
def pP {a b:Nat}(ha:a<4294967296) (hb:b<4294967296):DO .u32 (a:Int) (b:Int)=((a |||b:Nat):Int):=by
 have h:a |||b<4294967296:=Nat.or_lt_two_pow (n:=32) ha hb
 unfold DO;rw [Sj]
 have e:∀n:Nat,n<4294967296->(BitVec.ofInt (IntKind.bits .u32) (n:Int)).toNat=n:=λn hn=>by
  show (BitVec.ofInt 32 (n:Int)).toNat=n
  rw [wQ];omega
 rw [BitVec.toNat_or,e a ha,e b hb];omega
def awI {a b c d:Int}(ha:0<=a/\a<=255) (hb:0<=b/\b<=255) (hc:0<=c/\c<=255) (hd:0<=d/\d<=255):nm4 a b c d=a*16777216+b*65536+c*256+d:=by
 obtain ⟨a,rfl⟩:=PX ha.1;obtain ⟨b,rfl⟩:=PX hb.1;obtain ⟨c,rfl⟩:=PX hc.1;obtain ⟨d,rfl⟩:=PX hd.1;unfold nm4
 have e1:IntKind.u32.wrap (IntKind.u32.wrap (a:Int)*2^24)=((a*2^24:Nat):Int):=xy
 have e2:IntKind.u32.wrap (IntKind.u32.wrap (b:Int)*2^16)=((b*2^16:Nat):Int):=xy
 have e3:IntKind.u32.wrap (IntKind.u32.wrap (c:Int)*2^8)=((c*2^8:Nat):Int):=xy
 have e4:IntKind.u32.wrap (d:Int)=((d:Nat):Int):=by rw [Sj];omega
 rw [e1,e2,e3,e4,pP A0 A0,cd A0,
  pP A0 A0,show a*2^24+b*2^16=(a*2^8+b)*2^16 by omega,cd A0,
  pP A0 A0,show (a*2^8+b)*2^16+c*2^8=(a*2^16+b*2^8+c)*2^8 by omega,cd A0]
 omega
def W5 (n:Int):BE (Cu n):=by
 intro x hx;simp only [Cu,B1,Bv,Bw] at hx;rcases hx with rfl|rfl|rfl|rfl<;>rw [GJ]<;>omega
def aFa {n:Int}(h:0<=n/\n<4294967296):Gb (Cu n)=n:=by
 have e:Gb (Cu n)=nm4 (IntKind.u8.wrap (n.fdiv (2^24))) (IntKind.u8.wrap (n.fdiv (2^16))) (IntKind.u8.wrap (n.fdiv (2^8))) (IntKind.u8.wrap n):=rfl
 rw [e,awI aF aF aF aF,GJ,GJ,GJ,GJ,
  PU _ Aa,PU _ Aa,PU _ Aa]
 omega
def Fq (b:List Int) (f:Nat):Nat:=(gi b ((f:Int)+1)).toNat*256+(gi b ((f:Int)+2)).toNat
def rcF (b:List Int) (f:Nat):Bool:=decide (f+7<=b.length)&&decide (f+7+Fq b f<=b.length)
def Gw (b:List Int) (f:Nat):List Int:=(b.drop (f+7)).take (Fq b f)
def Lt (b:List Int) (f:Nat):Bool:=rcF b f&&(On [(b.drop (f+1)).take 2,Gw b f]==Gb ((b.drop (f+3)).take 4))
def H8 (b:List Int):Nat->Nat->List (List Int)×Nat×Bool
 |0,f=>([],f,true)
 |n+1,f=>if f<b.length/\gi b (f:Int)=80 then (if Lt b f then (Gw b f::(H8 b n (f+7+Fq b f)).1,(H8 b n (f+7+Fq b f)).2) else ([],f,false)) else ([],f,true)
def X1 {pre l:List Int}{k:Nat}:gi (pre++l) ((pre.length+k:Nat):Int)=l.getD k 0:=by
 unfold gi;rw [Bs,Cx,Cx,Fu A0,ZK]
def oo {pre l:List Int}{k:Nat}:(pre++l).drop (pre.length+k)=l.drop k:=by
 rw [List.drop_append,EJ A0,ZK,Di]
def M5 (d:List Int):(Bb d).length=7+d.length:=by simp [Bb,Ji,Cu];omega
def apz {pre rest d:List Int}(hd:d.length<=65535):let b:=pre++(Bb d++rest);gi b (pre.length:Int)=80/\pre.length<b.length/\Fq b pre.length=d.length/\Gw b pre.length=d/\Lt b pre.length=true:=by
 intro b
 have hl:b.length=pre.length+(7+d.length+rest.length):=by simp [b,M5]
 have g0:gi b (pre.length:Int)=80:=X1 (k:=0)
 have hn:Fq b pre.length=d.length:=by
  have e1:gi b ((pre.length:Int)+1)=IntKind.u8.wrap ((d.length:Int).fdiv (2^8)):=X1 (k:=1)
  have e2:gi b ((pre.length:Int)+2)=IntKind.u8.wrap (d.length:Int):=X1 (k:=2)
  unfold Fq;rw [e1,e2,GJ,GJ,PU _ Aa];omega
 have d7:b.drop (pre.length+7)=d++rest:=by
  show (pre++(Bb d++rest)).drop (pre.length+7)=_
  rw [oo]
  simp [Bb,Ji,Cu]
 have hD:Gw b pre.length=d:=by
  unfold Gw;rw [d7,hn];simp
 have d1:(b.drop (pre.length+1)).take 2=Ji d:=by
  show ((pre++(Bb d++rest)).drop (pre.length+1)).take 2=_
  rw [oo]
  simp [Bb,Ji]
 have d3:(b.drop (pre.length+3)).take 4=Cu (On [Ji d,d]):=by
  show ((pre++(Bb d++rest)).drop (pre.length+3)).take 4=_
  rw [oo]
  simp [Bb,Ji,Cu]
 refine ⟨g0,A0,hn,hD,?_⟩;unfold Lt rcF;rw [hn,hD,d1,d3,aFa (asw _)]
 simp;omega
def BI (ds:List (List Int)):List Int:=ds.flatMap Bb
def aE7 {rest:List Int}(hr:gi rest 0≠80):∀(ds:List (List Int)) (pre:List Int) (n:Nat),(∀d∈ds,d.length<=65535)->ds.length<n->
  H8 (pre++(BI ds++rest)) n pre.length=(ds,pre.length+(BI ds).length,true)
 | [],pre,n,_,hn=>by
  obtain ⟨n,rfl⟩:∃m,n=m+1:=⟨n-1,A0⟩;simp only [BI,List.flatMap_nil,Di,H8];rw [AD]
  ·simp
  ·rintro ⟨_,h⟩
   rw [show ((pre.length:Nat):Int)=((pre.length+0:Nat):Int) by simp,X1] at h
   exact hr h
 |d::ds,pre,n,hd,hn=>by
  obtain ⟨n,rfl⟩:∃m,n=m+1:=⟨n-1,A0⟩
  have e:pre++(BI (d::ds)++rest)=pre++(Bb d++(BI ds++rest)):=by simp [BI]
  rw [e];obtain ⟨h1,h2,h3,h4,h5⟩:=apz (pre:=pre) (rest:=BI ds++rest) (hd d AJ);simp only [H8];rw [AE ⟨h2,h1⟩,AE h5,h3,h4]
  have e2:pre++(Bb d++(BI ds++rest))=(pre++Bb d)++(BI ds++rest):=AJ
  have e3:pre.length+7+d.length=(pre++Bb d).length:=by simp [M5];omega
  rw [e2,e3,aE7 hr ds (pre++Bb d) n (λx hx=>hd x (by simp [hx])) (by simp at hn;omega)]
  simp [BI,M5];omega
abbrev Bf:Ty:=.pair A7 (.sl (.int .u8))
abbrev Fl:=Int×List Int
def G4 (l:List Fl) (n:Int):Fl:=l.getD n.toNat (0,[])
def HB (se:Int) (l:List Int):Bool:=letI a:=(l.length:Int);decide (se>=1)&&(decide (se<=512)&&(decide (a>=se)&&(decide (a<=4096)&&(a.tmod se==0))))
def NB {se:Int}{l:List Int}:HB se l=true↔1<=se/\se<=512/\se<=(l.length:Int)/\l.length<=4096/\(l.length:Int).tmod se=0:=by
 simp [HB];omega
def FG (se:Int) (l:List Int):Bool:=HB se l&&(((l.length:Int).tdiv se).tmod 2==0&&decide ((l.length:Int)>=32))
def MC {se:Int}{l:List Int}:FG se l=true↔HB se l=true/\((l.length:Int).tdiv se).tmod 2=0/\32<=l.length/\l.length<=4096/\1<=se:=by
 unfold FG;simp only [AU,Cj,AY];refine ⟨λ⟨h1,h2,h3⟩=>⟨h1,h2,A0,(NB.1 h1).2.2.2.1,(NB.1 h1).1⟩,λ⟨h1,h2,h3,_,_⟩=>⟨h1,h2,A0⟩⟩
def BY (l:List Int) (w:Int):List Int:=if w=0 then l.take (l.length / 2) else (l.drop (l.length / 2)).take (l.length / 2)
def bL (l:List Int) (w:Int):(BY l w).length=l.length / 2:=by
 unfold BY;split<;>simp<;>omega
def Iv (l:List Int) (w:Int):Int:=Gb (((BY l w).drop 1).take 4)
def Ak (l:List Int):Int:=if gi (BY l 0) 0=80 then (if gi (BY l 1) 0=80 then (if Iv l 1>Iv l 0 then 1 else 0) else 0) else if gi (BY l 1) 0=80 then 1 else 0
def Hi (l:List Int):Int:=if gi (BY l 0) 0=80\/gi (BY l 1) 0=80 then 0 else 4
def DZ (fl:List Int) (a:Int) (d:List Int):Nat->List Int
 |0=>fl
 |k+1=>(DZ fl a d k).set (a+k).toNat (Bn .u8 (gi (DZ fl a d k) (a+k)) (gi d k))
def Dg (se:Int) (fl:List Int) (a:Int) (d:List Int):List Fl:=(List.range (d.length+1)).map (λk=>(se,DZ fl a d k))
def En (se:Int) (fl:List Int) (a:Int) (d:List Int):Int:=if (!HB se fl ||decide (a<0))=true then 1 else if a>(fl.length:Int)-d.length then 3 else 0
def Ee (fl:List Int) (a:Int):Nat->List Int
 |0=>fl
 |k+1=>(Ee fl a k).set (a+k).toNat 255
def Kf (se:Int) (fl:List Int) (s:Int):List Fl:=(List.range (se.toNat+1)).map (λk=>(se,Ee fl (s*se) k))
def Hw (se:Int) (fl:List Int) (s:Int):Int:=if (!HB se fl ||(decide (s<0) ||decide (s>=(fl.length:Int).tdiv se)))=true then 1 else 0
def Sq (fl:List Int) (a:Int) (d:List Int) (k:Nat):(DZ fl a d k).length=fl.length:=by
 induction k with
 |zero=>rfl
 |succ k ih=>simp [DZ,ih]
def bY (fl:List Int) (a:Int) (k:Nat):(Ee fl a k).length=fl.length:=by
 induction k with
 |zero=>rfl
 |succ k ih=>simp [Ee,ih]
def K2 {a b:List Int}:BE (a++b)↔BE a/\BE b:=by
 unfold BE;simp only [Bp];exact ⟨λh=>⟨λx hx=>h x (.inl hx),λx hx=>h x (.inr hx)⟩,λh x hx=>hx.elim (h.1 x) (h.2 x)⟩
def Pu {x:Int}{l:List Int}:BE (x::l)↔(0<=x/\x<=255)/\BE l:=by
 unfold BE
 simp
def cU (k:Nat):BE (List.replicate k 255):=by
 intro x hx;rw [Pb] at hx;omega
def aIF {l:List Int}(h:BE l) (i:Nat) {x:Int}(hx:0<=x/\x<=255):BE (l.set i x):=by
 intro y hy;rcases SC hy with h1|h1
 ·exact h y h1
 ·subst h1;exact hx
def asT (x y:Int):0<=Bn .u8 x y/\Bn .u8 x y<=255:=by
 unfold Bn;rw [GJ];omega
def qv {fl:List Int}(h:BE fl) (a:Int) (d:List Int) (k:Nat):BE (DZ fl a d k):=by
 induction k with
 |zero=>exact h
 |succ k ih=>exact aIF ih _ (asT _ _)
def aRA {fl:List Int}(h:BE fl) (a:Int) (k:Nat):BE (Ee fl a k):=by
 induction k with
 |zero=>exact h
 |succ k ih=>exact aIF ih _ Aa
def an4 {x:Int}(h:0<=x/\x<=255):Bn .u8 255 x=x:=by
 unfold Bn;rw [GJ];obtain ⟨n,rfl⟩:=PX h.1
 have e:(BitVec.ofInt (IntKind.bits .u8) 255&&&BitVec.ofInt (IntKind.bits .u8) (n:Int)).toNat=n:=by
  show (BitVec.ofInt 8 255&&&BitVec.ofInt 8 (n:Int)).toNat=n
  rw [show BitVec.ofInt 8 255=BitVec.allOnes 8 from rfl,BitVec.allOnes_and,wQ];omega
 rw [e];omega
def aOK {pre post d:List Int}(hd:BE d):∀k,k<=d.length->DZ (pre++(List.replicate d.length 255++post)) (pre.length:Int) d k=pre++(d.take k++(List.replicate (d.length-k) 255++post))
 |0,_=>by simp [DZ]
 | k+1,hk=>by
  simp only [DZ];rw [aOK hd k A0];obtain ⟨j,hj⟩:∃j,d.length-k=j+1:=⟨d.length-k-1,A0⟩
  have e1:(pre.length:Int)+(k:Int)=((pre.length+k:Nat):Int):=A0
  have ht:(d.take k).length=k:=Cn
  have e2:gi (pre++(d.take k++(List.replicate (d.length-k) 255++post))) ((pre.length:Int)+k)=255:=by
   rw [e1,X1,Cx,Fu A0,ht,jQ,hj,V2];rfl
  have e3:gi d (k:Int)=d[k]:=Io (by rw [Bs];omega)
  rw [e2,e3,an4 (hd _ (FK _)),e1,Bs,Uy _ _ A0,ZK,Uy _ _ A0,ht,jQ,hj,V2];simp only [I5,List.set_cons_zero];rw [show d.length-(k+1)=j by omega,ZQ (Nat.lt_of_succ_le hk)]
  simp only [CZ,I5,Di]
def nj {pre post d:List Int}(hd:BE d):DZ (pre++(List.replicate d.length 255++post)) (pre.length:Int) d d.length=pre++(d++post):=by
 rw [aOK hd _ (At _)];simp
def DQ (g:Int) (ds:List (List Int)) (k:Nat):List Int:=(80::Cu g)++(BI ds++List.replicate k 255)
def J0 (w:Int) (A O:List Int):List Int:=if w=0 then A++O else O++A
def aE0 (a b:List (List Int)):BI (a++b)=BI a++BI b:=by simp [BI]
def og (ds:List (List Int)):(BI ds).length=(ds.map (λd=>7+d.length)).sum:=by
 induction ds with
 |nil=>rfl
 |cons d ds ih=>simp only [BI,je,B0,E8,List.sum_cons,M5] at*;rw [ih]
def aq8 (ds:List (List Int)):7*ds.length<=(BI ds).length:=by
 induction ds with
 |nil=>simp [BI]
 |cons d ds ih=>simp only [BI,je,B0,BX,M5] at*;omega
def auv (d:List Int):BE (Ji d):=by
 intro x hx;simp only [Ji,B1,Bv,Bw] at hx;rcases hx with rfl|rfl<;>rw [GJ]<;>omega
def aFo {d:List Int}(h:BE d):BE (Bb d):=by
 unfold Bb;rw [Pu,K2,K2];exact ⟨Aa,auv d,W5 _,h⟩
def pt {ds:List (List Int)}(h:∀d∈ds,BE d):BE (BI ds):=by
 induction ds with
 |nil=>intro x hx;simp [BI] at hx
 |cons d ds ih=>
  have e:BI (d::ds)=Bb d++BI ds:=rfl
  rw [e,K2];exact ⟨aFo (h d AJ),ih (λx hx=>h x (by simp [hx]))⟩
def ayZ (k:Nat) (rest:List Int) (h:gi rest 0≠80):gi (List.replicate k 255++rest) 0≠80:=by
 cases k with
 |zero=>simpa using h
 |succ k=>simp [gi,V2]
structure JI (fl:List Int) (w g:Int) (ds:List (List Int)) (k:Nat) (O:List Int):Prop where
 eq:fl=J0 w (DQ g ds k) O
 la:(DQ g ds k).length=1024
 lo:O.length=1024
 bo:BE O
 hw:w=0\/w=1
 hg:0<=g/\g<4294967296
 old:gi O 0=80->Gb ((O.drop 1).take 4)<g
 bd:∀d∈ds,BE d/\d.length<=65535
def OR (g:Int) (ds:List (List Int)) (k:Nat):(DQ g ds k).length=5+(BI ds).length+k:=by
 simp [DQ,Cu];omega
def aH4 {g:Int}(hg:0<=g/\g<4294967296) (ds:List (List Int)) (k:Nat):Gb (((DQ g ds k).drop 1).take 4)=g:=by
 have:((DQ g ds k).drop 1).take 4=Cu g:=by simp [DQ,Cu]
 rw [this,aFa hg]
def aDG {w:Int}{A O:List Int}(hA:A.length=1024) (hO:O.length=1024) (hw:w=0\/w=1):BY (J0 w A O) w=A/\BY (J0 w A O) (1-w)=O:=by
 have hl:∀a b:List Int,a.length=1024->b.length=1024->BY (a++b) 0=a/\BY (a++b) 1=b:=by
  intro a b ha hb
  have e:(a++b).length / 2=1024:=by simp [ha,hb]
  unfold BY;rw [AE rfl,AD Aa,e];exact ⟨wu ha,by rw [wv ha];exact D3 A0⟩
 rcases hw with rfl|rfl
 ·exact hl A O hA hO
 ·have:=hl O A hO hA
  exact ⟨this.2,this.1⟩
namespace JI
variable {fl : List Int} {w g : Int} {ds : List (List Int)} {k : Nat} {O : List Int}
def len (h:JI fl w g ds k O):fl.length=2048:=by
 rw [h.eq];unfold J0;split<;>simp [h.la,h.lo]
def bja (h:JI fl w g ds k O):BE (DQ g ds k):=by
 unfold DQ;rw [K2,K2,Pu];exact ⟨⟨Aa,W5 _⟩,pt (λd hd=>(h.bd d hd).1),cU _⟩
def Ep (h:JI fl w g ds k O):BE fl:=by
 rw [h.eq];unfold J0;split
 ·rw [K2];exact ⟨h.bja,h.bo⟩
 ·rw [K2];exact ⟨h.bo,h.bja⟩
def jv (h:JI fl w g ds k O):FG 512 fl=true:=by
 rw [MC,NB,h.len]
 decide
def ar (h:JI fl w g ds k O):BY fl w=DQ g ds k:=by rw [h.eq];exact (aDG h.la h.lo h.hw).1
def ao (h:JI fl w g ds k O):BY fl (1-w)=O:=by rw [h.eq];exact (aDG h.la h.lo h.hw).2
def gen (h:JI fl w g ds k O):Iv fl w=g:=by unfold Iv;rw [h.ar,aH4 h.hg]
def cur (h:JI fl w g ds k O):Ak fl=w/\Hi fl=0:=by
 have ha:=h.ar;have ho:=h.ao;have hgn:=h.gen
 have g80:gi (DQ g ds k) 0=80:=rfl
 have hold:gi (BY fl (1-w)) 0=80->Iv fl (1-w)<g:=by rw [ho];unfold Iv;rw [ho];exact h.old
 unfold Ak Hi;rcases h.hw with rfl|rfl
 ·have e:(1:Int)-0=1:=rfl
  rw [e] at hold;rw [ha,hgn];refine ⟨?_,by rw [AE (.inl g80)]⟩
  rw [AE g80];split
  ·rename_i h1;rw [AD (by have:=hold h1;omega)]
  ·rfl
 ·have e:(1:Int)-1=0:=rfl
  rw [e] at hold;rw [ha,hgn];refine ⟨?_,by rw [AE (.inr g80)]⟩
  rw [AE g80];split
  ·rename_i h1;rw [AE (by have:=hold h1;omega)]
  ·rfl
end JI
def Ef (fl:List Int):List (List Int)×Nat×Bool:=H8 (BY fl (Ak fl)) (BY fl (Ak fl)).length 5
def Bl (se:Int) (fl:List Int):Int:=if FG se fl=false then 1 else if Hi fl≠0 then Hi fl else if (Ef fl).2.2=true then 0 else 11
def Lo (fl:List Int):Bool:=((BY fl (Ak fl)).drop (Ef fl).2.1).all (λb=>b==255)
def Lr (se:Int) (fl d:List Int):Bool:=decide (d.length>65535) ||decide (7+d.length+(Ef fl).2.1>fl.length / 2)
def G7 (fl:List Int):Int:=Ak fl*((fl.length / 2:Nat):Int)+(Ef fl).2.1
def apB (fl d:List Int):List Int:=DZ fl (G7 fl+1) ((Bb d).drop 1) ((Bb d).drop 1).length
def Gc (se:Int) (fl d:List Int):List Fl:=Dg se fl (G7 fl+1) ((Bb d).drop 1)++(Dg se (apB fl d) (G7 fl) [80]).drop 1
def Ar (x:Le):List Int:=Cu x.1++(IntKind.u8.wrap x.2.1::IntKind.u8.wrap x.2.2.1::(Cu x.2.2.2.1++[IntKind.u8.wrap (x.2.2.2.2.fdiv (2^8)),IntKind.u8.wrap x.2.2.2.2]))
def b4 (d:List Int) (i:Int):Int:=gi d i*16777216+gi d (i+1)*65536+gi d (i+2)*256+gi d (i+3)
def G3 (d:List Int):Le:=(b4 d 0,gi d 4,gi d 5,b4 d 6,gi d 10*256+gi d 11)
def K4 (x:Le):(Ar x).length=12:=rfl
def fL (n:Int):0<=IntKind.u8.wrap n/\IntKind.u8.wrap n<=255:=aF
def qx (x:Le):BE (Ar x):=by
 unfold Ar;rw [K2,Pu,Pu,K2,Pu,Pu];exact ⟨W5 _,fL _,fL _,W5 _,fL _,fL _,λx hx=>by cases hx⟩
def aGV {n:Int}(h:0<=n/\n<4294967296):IntKind.u8.wrap (n.fdiv (2^24))*16777216+IntKind.u8.wrap (n.fdiv (2^16))*65536+IntKind.u8.wrap (n.fdiv (2^8))*256+IntKind.u8.wrap n=n:=by
 rw [GJ,GJ,GJ,GJ,PU _ Aa,PU _ Aa,PU _ Aa];omega
def ani {x:Le}(h:D7 x=true):G3 (Ar x)=x:=by
 obtain ⟨nu,co,am,fr,tk⟩:=x;obtain ⟨h1,h2,h3,h4,h5⟩:=Q1.1 h;simp only at h1 h2 h3 h4 h5
 have e1:b4 (Ar (nu,co,am,fr,tk)) 0=nu:=aGV (n:=nu) A0
 have e2:b4 (Ar (nu,co,am,fr,tk)) 6=fr:=aGV (n:=fr) A0
 have e3:gi (Ar (nu,co,am,fr,tk)) 4=co:=by show IntKind.u8.wrap co=co;rw [GJ];omega
 have e4:gi (Ar (nu,co,am,fr,tk)) 5=am:=by show IntKind.u8.wrap am=am;rw [GJ];omega
 have e5:gi (Ar (nu,co,am,fr,tk)) 10*256+gi (Ar (nu,co,am,fr,tk)) 11=tk:=by
  show IntKind.u8.wrap (tk.fdiv (2^8))*256+IntKind.u8.wrap tk=tk
  rw [GJ,GJ,PU _ Aa];omega
 unfold G3;rw [e1,e2,e3,e4,e5]
def ldB (rs:List (List Int)):Bool:=rs.all (λd=>d.length==12)
def CS (se:Int) (fl:List Int):Int:=if (!(se==512) || !((fl.length:Int)==2048))=true then 1 else if Bl se fl≠0 then Bl se fl else if ldB (Ef fl).1=true then (if BG ((Ef fl).1.map G3)=true then 0 else 9) else 9
def BJ (se:Int) (fl:List Int):List Le:=if CS se fl=0 then (Ef fl).1.map G3 else []
namespace JI
variable {fl : List Int} {w g : Int} {ds : List (List Int)} {k : Nat} {O : List Int}
def lk (h:JI fl w g ds k O):Ef fl=(ds,5+(BI ds).length,true):=by
 unfold Ef;rw [h.cur.1,h.ar,h.la]
 have hp:=aq8 ds
 have hl:=h.la
 rw [OR] at hl
 have:=aE7 (rest:=List.replicate k 255) (by have:=ayZ k [] Aa;simpa using this) ds (80::Cu g) 1024 (λd hd=>(h.bd d hd).2) A0
 exact this
def Uc (h:JI fl w g ds k O):Bl 512 fl=0:=by
 unfold Bl;rw [h.jv,h.cur.2,h.lk];rfl
def cl (h:JI fl w g ds k O):Lo fl=true:=by
 unfold Lo;rw [h.lk,h.cur.1,h.ar,BL];intro x hx
 have e:(DQ g ds k).drop (5+(BI ds).length)=List.replicate k 255:=by
  unfold DQ;rw [<-CZ];exact wv (by simp [Cu];omega)
 simp only [e,Pb] at hx
 simp [hx.2]
def half (h:JI fl w g ds k O):fl.length / 2=1024:=by rw [h.len]
def full (h:JI fl w g ds k O) {d:List Int}(hd:d.length<=65535) (hk:7+d.length<=k):Lr 512 fl d=false:=by
 unfold Lr;rw [h.half,h.lk]
 have hl:=h.la
 rw [OR] at hl
 simp;omega
def agM (g:Int) (ds:List (List Int)) {k:Nat}(n:Nat) (hk:n<=k):DQ g ds k=((80::Cu g)++BI ds)++(List.replicate n 255++List.replicate (k-n) 255):=by
 unfold DQ;rw [jJ,show n+(k-n)=k by omega,CZ]
def split (h:JI fl w g ds k O) (n:Nat) (hk:n<=k):∃pre post,fl=pre++(List.replicate n 255++post)/\(pre.length:Int)=G7 fl/\
  ∀x:List Int,pre++(x++post)=J0 w (((80::Cu g)++BI ds)++(x++List.replicate (k-n) 255)) O:=by
 have hP:G7 fl=w*1024+((5+(BI ds).length:Nat):Int):=by unfold G7;rw [h.half,h.cur.1,h.lk];rfl
 have h5:(((80::Cu g)++BI ds).length:Int)=((5+(BI ds).length:Nat):Int):=by simp [Cu];omega
 have he:=h.eq
 rw [agM g ds n hk] at he;rcases h.hw with rfl|rfl
 ·refine ⟨(80::Cu g)++BI ds,List.replicate (k-n) 255++O,?_,by rw [hP,h5];omega,λx=>?_⟩
  ·rw [he];unfold J0;rw [AE rfl];simp only [CZ]
  ·unfold J0;rw [AE rfl];simp only [CZ]
 ·refine ⟨O++((80::Cu g)++BI ds),List.replicate (k-n) 255,?_,by rw [hP,B0];have:=h.lo;omega,λx=>?_⟩
  ·rw [he];unfold J0;rw [AD Aa];simp only [CZ]
  ·unfold J0;rw [AD Aa];simp only [CZ]
def app (h:JI fl w g ds k O) {d:List Int}(hb:BE d) (hd:d.length<=65535) (hk:7+d.length<=k):
  JI (DZ (apB fl d) (G7 fl) [80] 1) w g (ds++[d]) (k-(7+d.length)) O:=by
 obtain ⟨pre,post,e1,e2,e3⟩:=h.split (7+d.length) hk
 have hp:Bb d=80::(Bb d).drop 1:=rfl
 have hl:=M5 d
 have hl1:((Bb d).drop 1).length=6+d.length:=yF
 have hby:BE ((Bb d).drop 1):=by have:=aFo hb;rw [hp,Pu] at this;exact this.2
 have eA:apB fl d=pre++(List.replicate 1 255++((Bb d).drop 1++post)):=by
  unfold apB
  have:=nj (pre:=pre++[255]) (post:=post) (d:=(Bb d).drop 1) hby
  rw [<-e2]
  have e9:(((pre++[255]:List Int)).length:Int)=(pre.length:Int)+1:=AJ
  rw [e9] at this
  have e0:fl=pre++[255]++(List.replicate ((Bb d).drop 1).length 255++post):=by
   rw [hl1,e1,show 7+d.length=(6+d.length)+1 by omega,V2];simp
  rw [<-e0] at this;rw [this];simp
 have eB:DZ (apB fl d) (G7 fl) [80] 1=pre++(Bb d++post):=by
  rw [eA,<-e2]
  have:=nj (pre:=pre) (post:=(Bb d).drop 1++post) (d:=[80]) aNT
  exact this.trans (by rw [hp];simp)
 have eJ:DQ g (ds++[d]) (k-(7+d.length))=((80::Cu g)++BI ds)++(Bb d++List.replicate (k-(7+d.length)) 255):=by
  unfold DQ;rw [aE0,show BI [d]=Bb d by simp [BI]]
  simp only [CZ]
 refine ⟨by rw [eB,e3,eJ],?_,h.lo,h.bo,h.hw,h.hg,h.old,?_⟩
 ·have:=h.la
  rw [OR] at this;rw [OR,aE0,B0,show BI [d]=Bb d by simp [BI],hl];omega
 ·intro x hx
  rw [Bp,Kp] at hx;rcases hx with hx|rfl
  ·exact h.bd x hx
  ·exact ⟨hb,hd⟩
end JI
def aEE (se:Int) (fl d:List Int) (y:Fl):(Gc se fl d).getLastD y=(se,DZ (apB fl d) (G7 fl) [80] 1):=by
 exact aLD
def abG {fl:List Int}{w g:Int}{ls:List Le}{k:Nat}{O:List Int}(h:JI fl w g (ls.map Ar) k O) (hv:BG ls=true):CS 512 fl=0/\BJ 512 fl=ls:=by
 have h1:(ls.map Ar).map G3=ls:=by
  rw [Gk]
  have:=(Ib hv).2
  calc ls.map (G3∘Ar)=ls.map id:=JG (λx hx=>ani (this x hx))
   _=ls:=SI _
 have h2:ldB (ls.map Ar)=true:=by
  unfold ldB;rw [BL];intro d hd;obtain ⟨x,_,rfl⟩:=Eg.1 hd
  simp [K4]
 have h3:CS 512 fl=0:=by
  unfold CS;rw [h.Uc,h.lk,h.len];simp only [h2,h1,hv];rfl
 refine ⟨h3,?_⟩;unfold BJ;rw [AE h3,h.lk];exact h1
def isW (se:Int) (fl:List Int) (s:Int):Bool:=!(((fl.drop (s*se).toNat).take se.toNat).all (λb=>b==255))
def FV (se:Int) (f0:List Int) (s:Int):Nat->List Fl×List Int->List Fl×List Int
 |0,a=>a
 |n+1,a=>FV se f0 (s+1) n (if isW se f0 s=true then (a.1++(Kf se a.2 s).drop 1,Ee a.2 (s*se) se.toNat) else a)
def Kc (fl:List Int) (ds:List (List Int)):Bool:=decide (5+(ds.map (λd=>7+d.length)).sum<=fl.length / 2)&&ds.all (λd=>decide (d.length<=65535))
def Fp (se:Int) (fl:List Int) (ds:List (List Int)):Int:=if Bl se fl≠0 then Bl se fl else if (!Kc fl ds ||(Iv fl (Ak fl)==4294967295))=true then 10 else 0
def Ge (se:Int) (fl:List Int):List Fl×List Int:=letI a:=((fl.length / 2:Nat):Int);FV se fl ((1-Ak fl)*a.tdiv se) (a.tdiv se).toNat ([(se,fl)],fl)
def Gf (fl:List Int):Int:=(1-Ak fl)*((fl.length / 2:Nat):Int)
def Ed (fl:List Int) (ds:List (List Int)):List Int:=Cu (Iv fl (Ak fl)+1)++BI ds
def Kb (se:Int) (fl:List Int) (ds:List (List Int)):List Int:=DZ (Ge se fl).2 (Gf fl+1) (Ed fl ds) (Ed fl ds).length
def Fo (se:Int) (fl:List Int) (ds:List (List Int)):List Fl:=if Fp se fl ds=0 then (Ge se fl).1++((Dg se (Ge se fl).2 (Gf fl+1) (Ed fl ds)).drop 1++(Dg se (Kb se fl ds) (Gf fl) [80]).drop 1) else []
def Em (se:Int) (fl d:List Int):Int:=if Bl se fl≠0 then Bl se fl else if Lr se fl d=true then 10 else if Lo fl=true then 0 else Fp se fl ((Ef fl).1++[d])
def HE (se:Int) (fl d:List Int):List Fl:=if Bl se fl≠0 then [] else if Lr se fl d=true then [] else if Lo fl=true then Gc se fl d else Fo se fl ((Ef fl).1++[d])
def Ht (l:List Le) (x:Le) (t:Int):List (List Int):=letI a:=(An l ((l.length:Int)-1));((Bj l t).map Ar)++((if l.length>0/\((Bj l t).length=0\/(An (Bj l t) (((Bj l t).length:Int)-1)).1≠a.1) then [Ar a] else [])++[Ar x])
def Gy (l:List Le) (x:Le):Bool:=letI a:=(An l ((l.length:Int)-1));decide (l.length>0)&&(decide (x.1<=a.1) ||decide (x.2.2.2.1<a.2.2.2.1))
def EG (se:Int) (fl:List Int) (x:Le) (t:Int):Int:=
 if CS se fl≠0 then CS se fl else if (!D7 x || !inB t 0 1100000)=true then 1 else if Gy (BJ se fl) x=true then 12 else
 if Em se fl (Ar x)≠10 then Em se fl (Ar x) else Fp se fl (Ht (BJ se fl) x t)
def Cf (se:Int) (fl:List Int) (x:Le) (t:Int):List Fl:=
 if CS se fl≠0 then [] else if (!D7 x || !inB t 0 1100000)=true then [] else if Gy (BJ se fl) x=true then [] else
 if Em se fl (Ar x)≠10 then HE se fl (Ar x) else Fo se fl (Ht (BJ se fl) x t)
def Jn (se:Int) (fl:List Int):Int:=if CS se fl≠0 then CS se fl else if (BJ se fl).length=0 then 0 else if (An (BJ se fl) (((BJ se fl).length:Int)-1)).1=1000000 then 10 else 0
def nwA (se:Int) (fl:List Int):Int:=letI a:=(An (BJ se fl) (((BJ se fl).length:Int)-1));if CS se fl≠0 then 0 else if (BJ se fl).length=0 then 1 else if a.1=1000000 then 0 else a.1+1
structure SN where
 ls:List Le
 se:Int
 fl:List Int
 nx:Int
 lk:List Lk
def fj (t:Int) (x:Le):Lk:=(t+(7*t+3*x.2.1).tmod 5,x)
def Gt (t:Int) (s:SN) (x:Le):SN:=
 if FB s.ls x=0/\EG s.se s.fl x t=0 then
  ⟨JW s.ls x,(G4 (Cf s.se s.fl x t) (((Cf s.se s.fl x t).length:Int)-1)).1,(G4 (Cf s.se s.fl x t) (((Cf s.se s.fl x t).length:Int)-1)).2,x.1+1,s.lk++[fj t x]⟩
 else s
def Jb (t:Int) (xs:List Le) (s:SN):Nat->SN
 |0=>s
 |k+1=>Gt t (Jb t xs s k) (An xs k)
def Hv (l:List Le) (t:Int):List Le:=if DN l t=0 then Bj l t else l
namespace PK
variable (p : PK)
def JC:List Cd:=GU p.cs p.tg p.tg.length
def dE:Int:=deE p.JC p.os p.ks p.gs p.bs (Hv p.ls p.tk) p.ra p.dm p.tk p.nx
def dR:List Ra:=deR p.JC p.os p.ks p.gs p.bs (Hv p.ls p.tk) p.ra p.dm p.tk p.nx
def dL:List Le:=deL p.JC p.os p.ks p.gs p.bs (Hv p.ls p.tk) p.ra p.dm p.tk p.nx
def II:SN:=⟨Hv p.ls p.tk,p.se,p.fl,p.nx,p.lk⟩
def sn1:SN:=Jb p.tk p.dL p.II p.dL.length
def AV:PK:=if p.up=false then p else if p.dE≠0 then {p with ls:=Hv p.ls p.tk} else {p with ra:=p.dR,ls:=p.sn1.ls,se:=p.sn1.se,fl:=p.sn1.fl,nx:=p.sn1.nx,lk:=p.sn1.lk}
def Mj:PK:={p with st:=PM p.gs p.lk p.tk p.st p.lk.length,lk:=p.lk.filter (λl=>decide (l.1>p.tk))}
def aP:PK:={p with st:=Rt p.gs p.dr p.tk p.st p.dr.length}
def dw:DW:=Dh p.gs p.ca ⟨p.st,p.mi,p.me,List.replicate p.gs.length 0⟩ p.gs.length
def FX:PK:={p with st:=p.dw.st,mi:=p.dw.mi,me:=p.dw.me}
end PK
def FD (gs:List Ch) (tg:List Int) (am:List Int) (cs:List Cd):Nat->List Cd
 |0=>cs
 |k+1=>if gi tg k>=(Ag (FD gs tg am cs k) k).2.2.1 then FD gs tg am cs k else
  if (decide (am.length=gs.length)&&IL ((FD gs tg am cs k).set k (Jh (Ag (FD gs tg am cs k) k) (gi tg k))) gs am)=true then (FD gs tg am cs k).set k (Jh (Ag (FD gs tg am cs k) k) (gi tg k)) else FD gs tg am cs k
namespace PK
variable (p : PK)
def rsA:List Int:=if KV p.ls p.gs.length (p.tk+1)=0 then Hg p.gs p.ls (p.tk+1) else []
def J1:PK:={p with cs:=if p.up=false then p.cs else FD p.gs p.tg p.rsA p.cs p.tg.length}
def endP:PK:={p with tk:=p.tk+1}
def B2:PK:=p.AV.Mj.aP
def FQ:PK:=p.B2.FX.J1.endP
def HY:List Int:=p.B2.dw.dw
def Iq:Int:=if p.tk=1000000 then 15 else 0
end PK
namespace PK
variable (p : PK) (n m : Int) (c : Ca) (d : Dm)
def isC:Bool:=inB n 0 ((p.gs.length:Int)-1)
def Gn:Int:=if p.isC n=false then 1 else if (!Fs c || !Gj d)=true then 1 else if ((BS p.ca n).2.2.1 !=0 ||(BP p.st n).1 !=0)=true then 6 else 0
def yV:List St:=Ce p.gs (Ce p.gs (Ce p.gs (Ce p.gs p.st n 1 0 0) n 3 0 0) n 4 1 0) n 5 0 0
def Ot:PK:={p with ca:=p.ca.set n.toNat c,mi:=p.mi.set n.toNat ([],0,0),dm:=p.dm.set n.toNat d,st:=p.yV n}
def KN:Int:=if p.isC n=false then 1 else if (BS p.ca n).2.2.1=0 then 4 else 0
def Qd:PK:={p with ca:=p.ca.set n.toNat (0,0,0,0,0),mi:=p.mi.set n.toNat ([],0,0),dm:=p.dm.set n.toNat (false,0,0,9),st:=Ce p.gs (Ce p.gs p.st n 6 0 0) n 2 0 0}
def NR:Int:=if p.isC n=false then 1 else 0
def fi:PK:={p with lk:=p.lk.filter (λl=>l.2.2.1 !=n)}
def MM:Int:=if p.up=false then 6 else 0
def Qj:PK:={p with up:=false,ls:=[]}
def GN:Int:=if p.up=true then 6 else if CS p.se p.fl≠0 then CS p.se p.fl else if DN (BJ p.se p.fl) p.tk≠0 then DN (BJ p.se p.fl) p.tk else Jn p.se p.fl
def XJ:PK:={p with up:=true,ls:=Bj (BJ p.se p.fl) p.tk,nx:=nwA p.se p.fl,ra:=List.replicate p.gs.length (0,0)}
def Ov:Int:=if p.isC n=false then 1 else sE (AH p.gs n) (BP p.st n) 6 1 0
def aae:PK:={p with st:=Ce p.gs p.st n 6 1 0}
def LY:PK:={p with tg:=p.tg.set n.toNat m}
def Iw:Int:=if (!inB n 0 ((p.cs.length:Int)-1) || !inB m 1 (Ag p.cs n).2.2.1)=true then 1 else if IL (p.LY n m).JC p.gs (C4 p.gs)=false then 13 else 0
end PK
def E4 (p:PK):Bool:=(BF p.cs p.os p.ks p.gs p.bs&&inB p.tk 0 1000000)&&((decide (p.st.length=p.gs.length)&&(decide (p.ca.length=p.gs.length)&&(decide (p.mi.length=p.gs.length)&&(decide (p.me.length=p.gs.length)&&(decide (p.dm.length=p.gs.length)&&decide (p.dr.length=p.gs.length))))))&&
 (decide (p.tg.length=p.cs.length)&&(Dc p.tg.length (λk=>inB (gi p.tg k) 1 (Ag p.cs k).2.2.1)&&(p.dr.all (λx=>inB x (-200) 200)&&p.lk.all (λl=>inB l.2.2.1 0 ((p.gs.length:Int)-1))))))
structure EV where
 (ek en em:Int)
 c:Ca
 d:Dm
def PK0:PK:=⟨[],[],[],[],[],0,false,[],0,[],[],0,[],[],[],[],[],[],[],[]⟩
def BR (p:PK) (e:EV):Int:=if E4 p=false then 1 else if e.ek=1 then p.Iq else if e.ek=2 then p.Gn e.en e.c e.d else if e.ek=3 then p.KN e.en else if e.ek=4 then p.NR e.en else if e.ek=5 then p.MM else if e.ek=6 then p.GN else if e.ek=7 then p.Ov e.en else if e.ek=8 then p.Iw e.en e.em else 9
def B4 (p:PK) (e:EV):PK:=if BR p e≠0 then PK0 else if e.ek=1 then p.FQ else if e.ek=2 then p.Ot e.en e.c e.d else if e.ek=3 then p.Qd e.en else if e.ek=4 then p.fi e.en else if e.ek=5 then p.Qj else if e.ek=6 then p.XJ else if e.ek=7 then p.aae e.en else p.LY e.en e.em
def CW (p:PK) (e:EV):List Int:=if BR p e≠0 then [] else if e.ek=1 then p.HY else []
def E5 (cs:List Cd) (os:List ByteArray) (ks:List Ko) (gs:List Ch) (bs:List Ba) (dr:List Int):Int:=
 if BF cs os ks gs bs=false\/dr.length≠gs.length then 1 else if dr.all (λx=>inB x (-200) 200)=false then 1 else if IL cs gs (C4 gs)=false then 13 else 0
def ET:List Int:=DQ 0 [] 1019++List.replicate 1024 255
def newP (cs:List Cd) (os:List ByteArray) (ks:List Ko) (gs:List Ch) (bs:List Ba) (dr:List Int):PK:=if E5 cs os ks gs bs dr≠0 then PK0 else
 ⟨cs,os,ks,gs,bs,0,true,[],512,ET,List.replicate gs.length (0,0),1,List.replicate gs.length (0,0,0,false),List.replicate gs.length (0,0,0,0,0),List.replicate gs.length ([],0,0),(Ek gs.length).map (λk=>(k+1,0,false)),List.replicate gs.length (false,0,0,9),[],dr,cs.map (λc=>c.2.2.1)⟩
def oX (e:Ty):LV->Option (List e.D)
 | .xl e' l=>match Ja e' e with
  |some ⟨h⟩=>some (KI h l)
  |none=>none
 |_=>none
def IB {e:Ty}{x:LV}{l:List e.D}(h:oX e x=some l):x=.xl e l:=by
 unfold oX at h;split at h
 ·split at h
  ·rename_i h2 _
   subst h2;cases h;rfl
  ·cases h
 ·cases h
def oI:LV->Option Int
 | .v (.int .i64 n)=>some n
 |_=>none
def yb {x:LV}{n:Int}(h:oI x=some n):x=.v (.int .i64 n):=by
 unfold oI at h;exact xV
def oB:LV->Option Bool
 | .v (.bool n)=>some n
 |_=>none
def aiz {x:LV}{n:Bool}(h:oB x=some n):x=.v (.bool n):=by
 unfold oB at h;exact xV
def Mf:LV->Option PK
 | .agg [a0,a1,a2,a3,a4,a5,a6,a7,a8,a9,a10,a11,a12,a13,a14,a15,a16,a17,a18,a19]=>(oX Ao a0).bind λcs=>(oX .str a1).bind λos=>(oX B8 a2).bind λks=>(oX Au a3).bind λgs=>(oX B9 a4).bind λbs=>(oI a5).bind λtk=>(oB a6).bind λup=>(oX AX a7).bind λls=>(oI a8).bind λse=>(oX (.int .u8) a9).bind λfl=>(oX BD a10).bind λra=>(oI a11).bind λnx=>(oX Bu a12).bind λst=>(oX AX a13).bind λca=>(oX By a14).bind λmi=>(oX D6 a15).bind λme=>(oX BO a16).bind λdm=>(oX Cp a17).bind λlk=>(oX A7 a18).bind λdr=>(oX A7 a19).bind λtg=>some ⟨cs,os,ks,gs,bs,tk,up,ls,se,fl,ra,nx,st,ca,mi,me,dm,lk,dr,tg⟩
 |_=>none
def WJ {x:LV}{p:PK}(h:Mf x=some p):x=(p):=by
 unfold Mf at h;split at h
 ·simp only [Option.bind_eq_some_iff] at h
  obtain ⟨cs,h0,os,h1,ks,h2,gs,h3,bs,h4,tk,h5,up,h6,ls,h7,se,h8,fl,h9,ra,h10,nx,h11,st,h12,ca,h13,mi,h14,me,h15,dm,h16,lk,h17,dr,h18,tg,h19,h⟩:=h;cases h;rw [IB h0,IB h1,IB h2,IB h3,IB h4,yb h5,aiz h6,IB h7,yb h8,IB h9,IB h10,yb h11,IB h12,IB h13,IB h14,IB h15,IB h16,IB h17,IB h18,IB h19]
 ·cases h
def W8:=bN f20 0
def Og:List Bd:=[Oi,fI,TS]
def aos:Sound prog AT (.loop W8) (Iz prog AT Og Fh 20 2 W8):=Sf (gk Og) kN.h 20 2 W8
structure NZ where
 r:Bool
 n:Int
 l:List Int
 (m i:Int)
 p:PK
def aEu:=bN f20 1
def ux (s:NZ):T (Rd NZ):=
 .br (decide (s.i<s.m)) (.ix s.i (s.l.length) (.ix s.i (s.p.cs.length) (.br (!(inB (gi s.l s.i) (1:Int) (Ag s.p.cs s.i).2.2.1)) (.so (.ret) {s with r:=false}) (.nx {s with i:=A9 (s.i+1)})))) (.so (.exit 2) s)
def R2 (s:NZ) (j:Int):Bool:=inB (gi s.l j) 1 (Ag s.p.cs j).2.2.1
def iS (s:NZ):Prop:=s.i=0/\0<=s.m/\s.m<=1000/\s.m=(s.l.length:Int)/\s.l.length=s.p.cs.length
def Xz (s:NZ):Prop:=0<=s.i/\s.i<=s.m/\s.m<=1000/\(s.m=(s.l.length:Int)/\s.l.length=s.p.cs.length)/\∀j:Nat,(j:Int)<s.i->R2 s j=true
def s7 (s:NZ):Nat:=(s.m-s.i).toNat
def zp (x:Ex) (s s':NZ):Prop:=(x=.exit 2/\∀j:Nat,(j:Int)<s'.m->R2 s' j=true)\/(x=.ret/\s'.r=false/\∃j:Nat,(j:Int)<s'.m/\R2 s' j=false)
def aje:∀s,iS s->Xz s:=by
 exact Kt
def axB:Da Xz s7 zp ux:=by
 intro s hI;obtain ⟨h0,h1,h2,h3,h4⟩:=hI;refine AG (λc1=>AG (λc2=>?_) (λc2=>?_)) (λc1=>?_)
 ·have c1:s.i<s.m:=AO
  refine .inr ⟨rfl,rfl,s.i.toNat,AP,?_⟩
  have hg:R2 s s.i=false:=by unfold R2;simp_all
  exact hg
 ·have c1:s.i<s.m:=AO
  have hg:R2 s s.i=true:=by unfold R2;simp_all
  rw [AI (x:=s.i+1)];refine ⟨⟨AA,AA,h2,h3,λj hj=>?_⟩,by simp only [s7];omega⟩
  exact Mv
 ·exact xJ
def QP:AS NZ:=⟨0,105,[1,2,3,61,62,63],[],λs=>[.own 0 0,s.r,s.n,.xl A7 s.l,s.m,s.i],λs=>[pB s.p],λv b=>⟨Eb v 1,AK v 2,Az A7 v 3,AK v 4,AK v 5,rQ b 0⟩,ux,λs r=> {s with r:=r.r,i:=r.i},λs=>s,λ_ s=>s,[.ret,.exit 2],iS,Xz,s7⟩
abbrev nf:=QP.run
abbrev oD:=QP.Am
def aw5:Rq Xz ux:=by
 exact aKb
def aOc:QP.Ok:={}
def aNw:QP.Pf (zp):=⟨aje,λs h=>rfl,axB,aw5⟩
def aov:SA 0 aEu QP:=s1 aOc aNw Og kN
def aq2:Fi iS Xz zp oD nf:=AS.fin aOc aNw
structure NY where
 r:Bool
 n:Int
 l:List Int
 (m i:Int)
 p:PK
def aEt:=bN f20 2
def uw (s:NY):T (Rd NY):=
 .br (decide (s.i<s.m)) (.ix s.i (s.l.length) (.br (!(inB (gi s.l s.i) (-200) 200)) (.so (.ret) {s with r:=false}) (.nx {s with i:=A9 (s.i+1)}))) (.so (.exit 4) s)
def R1 (s:NY) (j:Int):Bool:=inB (gi s.l j) (-200) 200
def gK (s:NY):Prop:=s.i=0/\0<=s.m/\s.m<=1000/\s.m=(s.l.length:Int)
def Xy (s:NY):Prop:=0<=s.i/\s.i<=s.m/\s.m<=1000/\(s.m=(s.l.length:Int))/\∀j:Nat,(j:Int)<s.i->R1 s j=true
def ry (s:NY):Nat:=(s.m-s.i).toNat
def zo (x:Ex) (s s':NY):Prop:=(x=.exit 4/\∀j:Nat,(j:Int)<s'.m->R1 s' j=true)\/(x=.ret/\s'.r=false/\∃j:Nat,(j:Int)<s'.m/\R1 s' j=false)
def ajd:∀s,gK s->Xy s:=by
 exact Kt
def ax9:Da Xy ry zo uw:=by
 intro s hI;obtain ⟨h0,h1,h2,h3,h4⟩:=hI;refine AG (λc1=>AG (λc2=>?_) (λc2=>?_)) (λc1=>?_)
 ·have c1:s.i<s.m:=AO
  refine .inr ⟨rfl,rfl,s.i.toNat,AA,?_⟩
  have hg:R1 s s.i=false:=by unfold R1;simp_all
  exact hg
 ·have c1:s.i<s.m:=AO
  have hg:R1 s s.i=true:=by unfold R1;simp_all
  rw [AI (x:=s.i+1)];refine ⟨⟨AA,AA,h2,h3,λj hj=>?_⟩,by simp only [ry];omega⟩
  exact Mv
 ·exact xJ
def QO:AS NY:=⟨0,105,[1,2,3,80,81,82],[],λs=>[.own 0 0,s.r,s.n,.xl A7 s.l,s.m,s.i],λs=>[pB s.p],λv b=>⟨Eb v 1,AK v 2,Az A7 v 3,AK v 4,AK v 5,rQ b 0⟩,uw,λs r=> {s with r:=r.r,i:=r.i},λs=>s,λ_ s=>s,[.ret,.exit 4],gK,Xy,ry⟩
abbrev na:=QO.run
abbrev oC:=QO.Am
def aw4:Rq Xy uw:=by
 exact SP
def aOb:QO.Ok:={}
def aNv:QO.Pf (zo):=⟨ajd,λs h=>rfl,ax9,aw4⟩
def aou:SA 0 aEt QO:=s1 aOb aNv Og kN
def aq1:Fi gK Xy zo oC na:=AS.fin aOb aNv
structure NX where
 r:Bool
 n:Int
 l:List Lk
 (m i:Int)
def aEs:=bN f20 3
def uv (s:NX):T (Rd NX):=
 .br (decide (s.i<s.m)) (.ix s.i (s.l.length) (.br (!(inB (F9 s.l s.i).2.2.1 (0:Int) (A9 (s.n-1)))) (.so (.ret) {s with r:=false}) (.nx {s with i:=A9 (s.i+1)}))) (.so (.exit 6) s)
def TN (s:NX) (j:Int):Bool:=inB (F9 s.l j).2.2.1 0 (s.n-1)
def gJ (s:NX):Prop:=s.i=0/\0<=s.m/\s.m<=100000000/\s.m=(s.l.length:Int)/\0<=s.n/\s.n<=16
def Xx (s:NX):Prop:=0<=s.i/\s.i<=s.m/\s.m<=100000000/\(s.m=(s.l.length:Int)/\0<=s.n/\s.n<=16)/\∀j:Nat,(j:Int)<s.i->TN s j=true
def ru (s:NX):Nat:=(s.m-s.i).toNat
def zn (x:Ex) (s s':NX):Prop:=(x=.exit 6/\∀j:Nat,(j:Int)<s'.m->TN s' j=true)\/(x=.ret/\s'.r=false/\∃j:Nat,(j:Int)<s'.m/\TN s' j=false)
def ajc:∀s,gJ s->Xx s:=by
 exact Kt
def ax8:Da Xx ru zn uv:=by
 intro s hI;obtain ⟨h0,h1,h2,h3,h4⟩:=hI;refine AG (λc1=>AG (λc2=>?_) (λc2=>?_)) (λc1=>?_)
 ·have c1:s.i<s.m:=AO
  refine .inr ⟨rfl,rfl,s.i.toNat,AP,?_⟩
  have hg:TN s s.i=false:=aMW
  exact hg
 ·have c1:s.i<s.m:=AO
  have hg:TN s s.i=true:=aMW
  rw [AI (x:=s.i+1)];refine ⟨⟨AA,AA,h2,h3,λj hj=>?_⟩,by simp only [ru];omega⟩
  exact Mv
 ·exact xJ
def QN:AS NX:=⟨0,105,[2,3,91,92,93],[],λs=>[s.r,s.n,s.l,s.m,s.i],λ_=>[],λv b=>⟨Eb v 0,AK v 1,Az Cp v 2,AK v 3,AK v 4⟩,uv,λs r=> {s with r:=r.r,i:=r.i},λs=>s,λ_ s=>s,[.ret,.exit 6],gJ,Xx,ru⟩
abbrev pY:=QN.run
abbrev oA:=QN.Am
def aw3:Rq Xx uv:=by
 intro s hI;refine ⟨λc1=>⟨?_,λ_=>trivial,λ_=>trivial⟩,λ_=>trivial⟩
 ·(obtain ⟨h0,h1,h2,h3,h4⟩:=hI;obtain ⟨g0,g1,g2⟩:=h3;simp at c1;omega)
def aP2:QN.Ok:={}
def aNu:QN.Pf (zn):=⟨ajc,λs h=>rfl,ax8,aw3⟩
def aot:SA 0 aEs QN:=s1 aP2 aNu Og kN
def aq0:Fi gJ Xx zn oA pY:=AS.fin aP2 aNu
def oe {α:Type}{l:List α}{d:α}{f:α->Bool}:Dc l.length (λk=>f (l.getD k.toNat d))=l.all f:=by
 rw [I0,EB,BL]
 constructor
 ·intro h x hx
  obtain ⟨k,hk,rfl⟩:=IS.1 hx
  grind
 ·intro h j hj
  grind
def aSj:List LV->T LV
 | [x_p]=>(match Mf x_p with
  |some p=> .req (p.lk.length<=100000000) (.ok (E4 p))
  |none=> .no)
 |_=> .no
def Pq (p:PK):NZ:=(⟨false,(p.gs.length:Int),p.tg,(p.tg.length:Int),0,p⟩:NZ)
def Pp (p:PK):NY:=(⟨(nf (Pq p)).r,(p.gs.length:Int),p.dr,(p.dr.length:Int),0,p⟩:NY)
def So (p:PK):NX:=(⟨(na (Pp p)).r,(p.gs.length:Int),p.lk,(p.lk.length:Int),0⟩:NX)
def awQ (p:PK):letI a:=(p.gs.length:Int);Bc prog AT Og kN (λi=>if i=5 then (Iz prog AT Og Fh 20 2 W8) else if i=13 then QP.lp else if i=19 then QO.lp else if i=25 then QN.lp else Af i) f20 [p]=.br ((!(BF p.cs p.os p.ks p.gs p.bs)) ||(!(inB p.tk (0:Int) (1000000:Int)))) (.ok false) (.br ((p.st.length:Int) !=a) (.ok false) (.br ((p.ca.length:Int) !=a) (.ok false) (.br ((p.mi.length:Int) !=a) (.ok false) (.br ((p.me.length:Int) !=a) (.ok false) (.br ((p.dm.length:Int) !=a) (.ok false) (.br ((p.dr.length:Int) !=a) (.ok false) (.br ((p.tg.length:Int) !=(p.cs.length:Int)) (.ok false) (.req (QP.q (Pq p)) (.br (Bo (oD (Pq p)) (.ret)) (.ok (nf (Pq p)).r) (.req (QO.q (Pp p)) (.br (Bo (oC (Pp p)) (.ret)) (.ok (na (Pp p)).r) (.req (QN.q (So p)) (.br (Bo (oA (So p)) (.ret)) (.ok (pY (So p)).r) (.ok true)))))))))))))):=AZ
def ahq:=vm (S:=aSj) func20 Og kN (L:=(λi=>if i=5 then (Iz prog AT Og Fh 20 2 W8) else if i=13 then QP.lp else if i=19 then QO.lp else if i=25 then QN.lp else Af i)) (λb hb=>by
 rw [show B6 _=[W8,aEu,aEt,aEs] by kernel_rfl] at hb
 simp only [B1,Bv,Bw] at hb;rcases hb with rfl|rfl|rfl|rfl
 ·exact aos
 ·exact aov
 ·exact aou
 ·exact aot) (λargs lv h=>by
 refine ⟨?_⟩;unfold aSj at h;split at h
 ·split at h
  case h_2=>cases h
  rename_i p hp;obtain rfl:=WJ hp;simp only [canL,canX];rw [awQ];obtain ⟨hk,rfl⟩:=h
  have op:E4 p=true->_:=λhv=>by unfold E4 at hv;simp only [AU,AY] at hv;exact hv
  have no:(E4 p=true->False)->LV.v (.bool false)=LV.v (.bool (E4 p)):=λh=>by
   cases e:E4 p
   ·rfl
   ·exact (h e).elim
  refine ⟨λc1=>no λhv=>?_,λc1=>⟨λc2=>no λhv=>?_,λc2=>⟨λc3=>no λhv=>?_,λc3=>⟨λc4=>no λhv=>?_,λc4=>⟨λc5=>no λhv=>?_,λc5=>⟨λc6=>no λhv=>?_,λc6=>⟨λc7=>no λhv=>?_,λc7=>⟨λc8=>no λhv=>?_,λc8=>?_⟩⟩⟩⟩⟩⟩⟩⟩
  iterate 8
   ·obtain ⟨⟨h1,h2⟩,⟨h3,h4,h5,h6,h7,h8⟩,h9,_⟩:=op hv
    simp_all
  simp only [bne_eq_false_iff_eq,Int.natCast_inj,Eu,Hy] at c1 c2 c3 c4 c5 c6 c7 c8
  have hs:=D9.1 c1.1
  have hv:E4 p=(Dc p.tg.length (λk=>inB (gi p.tg k) 1 (Ag p.cs k).2.2.1)&&(p.dr.all (λx=>inB x (-200) 200)&&p.lk.all (λl=>inB l.2.2.1 0 ((p.gs.length:Int)-1)))):=by
   unfold E4
   grind
  have hr:Dc p.dr.length (λk=>inB (gi p.dr k) (-200) 200)=p.dr.all (λx=>inB x (-200) 200):=oe (f:=λx=>inB x (-200) 200)
  have hl:Dc p.lk.length (λk=>inB (F9 p.lk k).2.2.1 0 ((p.gs.length:Int)-1))=p.lk.all (λl=>inB l.2.2.1 0 ((p.gs.length:Int)-1)):=oe (f:=λl:Lk=>inB l.2.2.1 0 ((p.gs.length:Int)-1))
  rw [hv,<-hr,<-hl]
  have E1:iS (Pq p):=⟨rfl,V5 _,by show (p.tg.length:Int)<=1000;omega,rfl,c8⟩
  have E2:gK (Pp p):=⟨rfl,V5 _,by show (p.dr.length:Int)<=1000;omega,rfl⟩
  have E3:gJ (So p):=⟨rfl,V5 _,by show (p.lk.length:Int)<=100000000;omega,rfl,V5 _,by show (p.gs.length:Int)<=16;omega⟩
  refine ⟨⟨E1,rfl,rfl⟩,?_⟩;obtain ⟨_,_,q⟩:=aq2 _ E1
  have q:(oD (Pq p)=.exit 2/\_)\/(oD (Pq p)=.ret/\(nf (Pq p)).r=false/\∃j:Nat,(j:Int)<(p.tg.length:Int)/\inB (gi p.tg j) 1 (Ag p.cs j).2.2.1=false):=q
  rcases q with ⟨q1,q2⟩ |⟨q1,q2,j,q3,q4⟩
  rotate_left
  ·exact xC
  rw [q1,show Dc p.tg.length (λk=>inB (gi p.tg k) 1 (Ag p.cs k).2.2.1)=true from EB.2 q2]
  refine ⟨λc=>Gm,λ_=>⟨⟨E2,rfl,rfl⟩,?_⟩⟩
  obtain ⟨_,_,q⟩:=aq1 _ E2
  have q:(oC (Pp p)=.exit 4/\_)\/(oC (Pp p)=.ret/\(na (Pp p)).r=false/\∃j:Nat,(j:Int)<(p.dr.length:Int)/\inB (gi p.dr j) (-200) 200=false):=q
  rcases q with ⟨q1,q2⟩ |⟨q1,q2,j,q3,q4⟩
  rotate_left
  ·exact xC
  rw [q1,show Dc p.dr.length (λk=>inB (gi p.dr k) (-200) 200)=true from EB.2 q2]
  refine ⟨λc=>Gm,λ_=>⟨⟨E3,rfl,rfl⟩,?_⟩⟩
  obtain ⟨_,_,q⟩:=aq0 _ E3
  have q:(oA (So p)=.exit 6/\_)\/(oA (So p)=.ret/\(pY (So p)).r=false/\∃j:Nat,(j:Int)<(p.lk.length:Int)/\inB (F9 p.lk j).2.2.1 0 ((p.gs.length:Int)-1)=false):=q
  rcases q with ⟨q1,q2⟩ |⟨q1,q2,j,q3,q4⟩
  rotate_left
  ·exact xC
  rw [q1,show Dc p.lk.length (λk=>inB (F9 p.lk k).2.2.1 0 ((p.gs.length:Int)-1))=true from EB.2 q2]
  exact ⟨λc=>Gm,λ_=>rfl⟩
 ·cases h)
def aRQ:List LV->T LV
 | [.xl (.int .i64) l]=> .req (l.length<=100000000) (.ok (.xl A7 l))
 |_=> .no
def TB:List Bd:=[]
def aGN {α:Type}{l:List α}{d:α}{n:Int}(h:n=(l.length:Int)):B7 l (List.replicate n.toNat d)=l:=by
 unfold B7
 simp_all
def getD_mem {α:Type}{l:List α}{i:Nat}{d:α}(h:i<l.length):l.getD i d∈l:=by
 grind
def set_self {α:Type}{l:List α}{i:Nat}{d:α}(h:i<l.length):l.set i (l.getD i d)=l:=by
 simp_all
def aaN:=vo (S:=aRQ) func43 TB kN (λargs lv h=>by
 unfold aRQ at h;split at h
 ·rename_i l
  refine Aj (letI a:=(l.length:Int);letI b:=(B7 l (List.replicate a.toNat (0:Int)));.rm 8 a (.rc a (0:Int) (l.length) (.req (0+a.toNat<=List.length b) (.ok (.xl A7 ((b.drop 0).take a.toNat)))))) ?_;obtain ⟨hl,rfl⟩:=h;rw [aGN rfl];refine ⟨A0,⟨AJ,AJ⟩,AJ,?_⟩;rw [Bs,CJ,Dv];rfl
 ·cases h)
structure Nn where
 (n i:Int)
 p1:List ByteArray
 p2:List Ko
 p3:List Ch
 p4:List Ba
 awW:Int
 aeK:Bool
 (p8 p11:Int)
 amB:List Me
 agE:List Dm
 aqA:List Lk
 (Sp agD:List Int)
 (qS b11 b12 b13 b14:Value)
 asK:Int
 aeI:Bool
 b17:Value
 b18:Int
 (b19 b110:Value)
 Ul:Int
 (ag5 asL anE ag6 afZ anF aC5 afY:Value)
 b2:List Cd
 b3:List Le
 b4:List Int
 b5:List Ra
 b6:List St
 b7:List Le
 o:List Mi
def vd (s:Nn):T (Rd Nn):=letI a:=s.o.getD s.i.toNat (Ty.dflt By);.br (decide (s.i<s.n)) (.ik s.i (s.o.length) (.req (List.length a.1<=100000000) (.ik s.i (s.o.length) (.rl s.b2 (.rl s.b3 (.rl s.b4 (.rl s.b5 (.rl s.b6 (.rl s.b7 (.re (s.o.length) (s.o.set s.i.toNat a) (.nx {s with i:=A9 (s.i+1),o:=s.o.set s.i.toNat a}))))))))))) (.rl s.b2 (.rl s.b3 (.rl s.b4 (.rl s.b5 (.rl s.b6 (.rl s.b7 (.rl s.o (.so (.exit 0) s))))))))
def iA (s:Nn):Prop:=s.i=0/\s.n=(s.o.length:Int)/\s.n<=1000/\∀m∈s.o,m.1.length<=1000
def gb (s:Nn):Prop:=0<=s.i/\s.i<=s.n/\s.n=(s.o.length:Int)/\s.n<=1000/\∀m∈s.o,m.1.length<=1000
def tS (s:Nn):Nat:=(s.n-s.i).toNat
def ad6 (x:Ex) (s s':Nn):Prop:=True
def alB:∀s,iA s->gb s:=by
 exact aLx
def azI:Da gb tS ad6 vd:=by
 intro s hI;obtain ⟨h0,h1,h2,h3,h4⟩:=hI;refine AG (λc1=>?_) (λc1=>trivial)
 ·have c1:s.i<s.n:=AA
  have e:=set_self (l:=s.o) (i:=s.i.toNat) (d:=Ty.dflt By) A0
  rw [AI (x:=s.i+1),e];exact ⟨⟨AA,AA,h2,h3,h4⟩,by simp only [tS];omega⟩
def GS:AS Nn:=⟨0,82,[1,2,44,45],[],λs=>[.own 0 0,.own 1 0,s.n,s.i],λs=>[⟨[.os 2 11 0 (s.b2.length),s.p1,s.p2,s.p3,s.p4,s.awW,s.aeK,.os 3 5 0 (s.b3.length),s.p8,.os 4 1 0 (s.b4.length),.os 5 2 0 (s.b5.length),s.p11,.os 6 4 0 (s.b6.length),.os 7 5 0 (s.b7.length),.os 8 3 0 (s.o.length),s.amB,s.agE,s.aqA,.xl A7 s.Sp,.xl A7 s.agD],47,.cl,false⟩,⟨[.v (s.qS),.v (s.b11),.v (s.b12),.v (s.b13),.v (s.b14),s.asK,s.aeI,.v (s.b17),s.b18,.v (s.b19),.v (s.b110),s.Ul,.v (s.ag5),.v (s.asL),.v (s.anE),.v (s.ag6),.v (s.afZ),.v (s.anF),.v (s.aC5),.v (s.afY)],47,.cl,false⟩,bV 74 Ao s.b2,bV 114 AX s.b3,bV 5 (.int .u8) s.b4,bV 118 BD s.b5,bV 85 Bu s.b6,bV 55 AX s.b7,bV 53 By s.o],λv b=>⟨AK v 2,AK v 3,AF .str b 0 1,AF B8 b 0 2,AF Au b 0 3,AF B9 b 0 4,Ae b 0 5,Kg b 0 6,Ae b 0 8,Ae b 0 11,AF D6 b 0 15,AF BO b 0 16,AF Cp b 0 17,AF A7 b 0 18,AF A7 b 0 19,Gi (B3 (CP b 1) 0),Gi (B3 (CP b 1) 1),Gi (B3 (CP b 1) 2),Gi (B3 (CP b 1) 3),Gi (B3 (CP b 1) 4),Ae b 1 5,Kg b 1 6,Gi (B3 (CP b 1) 7),Ae b 1 8,Gi (B3 (CP b 1) 9),Gi (B3 (CP b 1) 10),Ae b 1 11,Gi (B3 (CP b 1) 12),Gi (B3 (CP b 1) 13),Gi (B3 (CP b 1) 14),Gi (B3 (CP b 1) 15),Gi (B3 (CP b 1) 16),Gi (B3 (CP b 1) 17),Gi (B3 (CP b 1) 18),Gi (B3 (CP b 1) 19),Ab Ao b 2,Ab AX b 3,Ab (.int .u8) b 4,Ab BD b 5,Ab Bu b 6,Ab AX b 7,Ab By b 8⟩,vd,λs r=> {s with i:=r.i,o:=r.o},λs=>s,λ_ s=>s,[.exit 0],iA,gb,tS⟩
abbrev aFh:=GS.run
abbrev arA:=GS.Am
def avM:Rq gb vd:=by
 intro s hI;refine ⟨λc1=>⟨?_,?_,?_,?_,?_,A8,A8,A8,A8,A8,A8,?_,trivial⟩,λc1=>⟨A8,A8,A8,A8,A8,A8,A8,trivial⟩⟩
 all_goals ((obtain ⟨h0,h1,h2,h3,h4⟩:=hI;(try simp only [AY] at c1);first|omega|exact ⟨rfl,AJ⟩ |exact ⟨rfl,rfl⟩ |exact G8 (h4 _ (getD_mem A0)) Aa))
def uF:List Bd:=[aaN]
def ayz:As:=kI uF (l0 uF)
def aPQ:GS.Ok:={}
def aNr:GS.Pf (ad6):=⟨alB,λs h=>rfl,azI,avM⟩
def Ck:=s1 (b:=bN f19 0) aPQ aNr uF ayz
def ar2:Rs iA arA aFh (λs:Nn=>s.o) (λx s' (v:List Mi)=>x=.exit 0/\s'.o=v):=DL aPQ aNr (λs hI=>by
  obtain ⟨h0,h1,h2,h3,h4⟩:=hI;refine AG (λc1=>?_) (λc1=>⟨rfl,rfl⟩)
  have c1:s.i<s.n:=AA
  have e:=set_self (l:=s.o) (i:=s.i.toNat) (d:=Ty.dflt By) A0
  rw [e];exact rfl)
structure MF where
 p:PK
def UW (s:MF):List LV:=[s.p]
def ZB (s:MF):List AB:=[]
def bc (s:MF):Nn:=(⟨(((s.p.mi.length:Int).toNat:Nat):Int),0,s.p.os,s.p.ks,s.p.gs,s.p.bs,s.p.tk,s.p.up,s.p.se,s.p.nx,s.p.me,s.p.dm,s.p.lk,s.p.dr,s.p.tg,.slice none 0 0,.slice none 0 0,.slice none 0 0,.slice none 0 0,.slice none 0 0,0,false,.slice none 0 0,0,.slice none 0 0,.slice none 0 0,0,.slice none 0 0,.slice none 0 0,.slice none 0 0,.slice none 0 0,.slice none 0 0,.slice none 0 0,.slice none 0 0,.slice none 0 0,B7 s.p.cs (List.replicate (s.p.cs.length:Int).toNat (ByteArray.empty,((0:Int),((0:Int),((0:Int),(((0:Int),(0:Int)),((0:Int),((0:Int),((0:Int),((0:Int),(0:Int))))))))))),B7 s.p.ls (List.replicate (s.p.ls.length:Int).toNat ((0:Int),((0:Int),((0:Int),((0:Int),(0:Int)))))),B7 s.p.fl (List.replicate (s.p.fl.length:Int).toNat (0:Int)),B7 s.p.ra (List.replicate (s.p.ra.length:Int).toNat ((0:Int),(0:Int))),B7 s.p.st (List.replicate (s.p.st.length:Int).toNat ((0:Int),((0:Int),((0:Int),false)))),B7 s.p.ca (List.replicate (s.p.ca.length:Int).toNat ((0:Int),((0:Int),((0:Int),((0:Int),(0:Int)))))),B7 s.p.mi (List.replicate (s.p.mi.length:Int).toNat (([]:List Int),((0:Int),(0:Int))))⟩:Nn)
structure Xl where
 p:PK
 (n7 n8 n9 n10 n11:Nat)
def acB (s:Xl):LV:=.agg [.os 0 11 0 (s.p.cs.length),s.p.os,s.p.ks,s.p.gs,s.p.bs,s.p.tk,s.p.up,.os 1 5 0 (s.p.ls.length),s.p.se,.os 2 1 0 (s.p.fl.length),.os 3 2 0 (s.p.ra.length),s.p.nx,.os 4 4 0 (s.p.st.length),.os 5 5 0 (s.p.ca.length),.os 6 3 0 (s.p.mi.length),.os 7 3 0 s.n7,.os 8 4 0 s.n8,.os 9 6 0 s.n9,.os 10 1 0 s.n10,.os 11 1 0 s.n11]
def acv (s:Xl):List AB:=[bV 74 Ao s.p.cs,bV 114 AX s.p.ls,bV 5 (.int .u8) s.p.fl,bV 118 BD s.p.ra,bV 85 Bu s.p.st,bV 55 AX s.p.ca,bV 53 By s.p.mi,bV 51 D6 s.p.me,bV 66 BO s.p.dm,bV 127 Cp s.p.lk,bV 3 A7 s.p.dr,bV 3 A7 s.p.tg]
def eP (s:MF):T Xl:=letI a:=(ByteArray.empty,((0:Int),((0:Int),((0:Int),(((0:Int),(0:Int)),((0:Int),((0:Int),((0:Int),((0:Int),(0:Int))))))))));letI f:=(s.p.cs.length:Int);letI g:=(s.p.fl.length:Int);letI h:=(s.p.ls.length:Int);letI i:=(s.p.ra.length:Int);letI j:=(s.p.st.length:Int);letI k:=(s.p.ca.length:Int);letI l:=(s.p.mi.length:Int);letI m:=(s.p.me.length:Int);letI n:=(s.p.dm.length:Int);letI r:=(s.p.lk.length:Int);letI t:=(s.p.dr.length:Int);letI u:=(s.p.tg.length:Int);letI v:=(B7 s.p.fl (List.replicate g.toNat (0:Int)));letI w:=B7 s.p.cs (List.replicate f.toNat a);letI x:=(false,((0:Int),((0:Int),(0:Int))));letI b:=(B7 s.p.ls (List.replicate h.toNat ((0:Int),((0:Int),((0:Int),((0:Int),(0:Int)))))));letI c:=(B7 s.p.ca (List.replicate k.toNat ((0:Int),((0:Int),((0:Int),((0:Int),(0:Int)))))));letI d:=(B7 s.p.st (List.replicate j.toNat ((0:Int),((0:Int),((0:Int),false)))));letI e:=(B7 s.p.ra (List.replicate i.toNat ((0:Int),(0:Int))));.rm 96 f (.rc f a (s.p.cs.length) (.rm 40 h (.rc h ((0:Int),((0:Int),((0:Int),((0:Int),(0:Int))))) (s.p.ls.length) (.rm 1 g (.rc g (0:Int) (s.p.fl.length) (.rm 16 i (.rc i ((0:Int),(0:Int)) (s.p.ra.length) (.rm 32 j (.rc j ((0:Int),((0:Int),((0:Int),false))) (s.p.st.length) (.rm 40 k (.rc k ((0:Int),((0:Int),((0:Int),((0:Int),(0:Int))))) (s.p.ca.length) (.rm 40 l (.rc l (([]:List Int),((0:Int),(0:Int))) (s.p.mi.length) (.re f.toNat w (.re h.toNat b (.re g.toNat v (.re i.toNat e (.re j.toNat d (.re k.toNat c (.re l.toNat (B7 s.p.mi (List.replicate l.toNat (([]:List Int),((0:Int),(0:Int))))) (.req (GS.q (bc s)) (.rm 24 m (.rc m ((0:Int),((0:Int),false)) (s.p.me.length) (.rm 32 n (.rc n x (s.p.dm.length) (.rm 48 r (.rc r ((0:Int),((0:Int),((0:Int),((0:Int),((0:Int),(0:Int)))))) (s.p.lk.length) (.rm 8 t (.rc t (0:Int) (s.p.dr.length) (.rm 8 u (.rc u (0:Int) (s.p.tg.length) (.ok (⟨⟨w,s.p.os,s.p.ks,s.p.gs,s.p.bs,s.p.tk,s.p.up,b,s.p.se,v,e,s.p.nx,d,c,(aFh (bc s)).o,B7 s.p.me (List.replicate m.toNat ((0:Int),((0:Int),false))),B7 s.p.dm (List.replicate n.toNat x),B7 s.p.lk (List.replicate r.toNat ((0:Int),((0:Int),((0:Int),((0:Int),((0:Int),(0:Int))))))),B7 s.p.dr (List.replicate t.toNat (0:Int)),B7 s.p.tg (List.replicate u.toNat (0:Int))⟩,m.toNat,n.toNat,r.toNat,t.toNat,u.toNat⟩)))))))))))))))))))))))))))))))))
def Q7 {α:Type}{l:List α}{d:α}:B7 l (List.replicate (l.length:Int).toNat d)=l:=aGN rfl
structure LB (p:PK):Prop where
 cs:p.cs.length<=20000000
 ls:p.ls.length<=20000000
 fl:p.fl.length<=20000000
 ra:p.ra.length<=20000000
 st:p.st.length<=20000000
 ca:p.ca.length<=20000000
 mi:p.mi.length<=1000
 me:p.me.length<=20000000
 dm:p.dm.length<=20000000
 lk:p.lk.length<=20000000
 dr:p.dr.length<=20000000
 tg:p.tg.length<=20000000
 mis:∀m∈p.mi,m.1.length<=1000
def gz (s:MF):Prop:=LB s.p
def abR (s:MF):Xl:=⟨s.p,s.p.me.length,s.p.dm.length,s.p.lk.length,s.p.dr.length,s.p.tg.length⟩
def iQ:Cw MF Xl:=⟨UW,ZB,λv b=>⟨⟨Ai Ao (E6 (v.getD 0 .junk) 0),Ai .str (E6 (v.getD 0 .junk) 1),Ai B8 (E6 (v.getD 0 .junk) 2),Ai Au (E6 (v.getD 0 .junk) 3),Ai B9 (E6 (v.getD 0 .junk) 4),gI (E6 (v.getD 0 .junk) 5),gBo (E6 (v.getD 0 .junk) 6),Ai AX (E6 (v.getD 0 .junk) 7),gI (E6 (v.getD 0 .junk) 8),Ai (.int .u8) (E6 (v.getD 0 .junk) 9),Ai BD (E6 (v.getD 0 .junk) 10),gI (E6 (v.getD 0 .junk) 11),Ai Bu (E6 (v.getD 0 .junk) 12),Ai AX (E6 (v.getD 0 .junk) 13),Ai By (E6 (v.getD 0 .junk) 14),Ai D6 (E6 (v.getD 0 .junk) 15),Ai BO (E6 (v.getD 0 .junk) 16),Ai Cp (E6 (v.getD 0 .junk) 17),Ai A7 (E6 (v.getD 0 .junk) 18),Ai A7 (E6 (v.getD 0 .junk) 19)⟩⟩,gz,[],[],acB,acv,abR⟩
abbrev azx (s:MF):Prop:=gz s/\UW s=UW s/\ZB s=ZB s
def aQe:As:=kI TB (la 9 func19 Ck (l0 TB))
def aa5:DI:=CQ 19 0 9 (GS.lp) (Dp prog AT TB 20 2)
def anW:ED prog AT aa5:=DB func19 rfl Bt Ck (HW (gk TB))
def ay3 (s:MF):((EO prog AT TB aa5 aQe).k 19 (UW s) (ZB s)).bind (λq=>G2 (ZB s).length [0] [] .normal (q.1::UW s) q.2)=(eP s).mp (λs2=>⟨.normal,(UW s).length+1,[acB s2],acv s2,true⟩):=AZ
def auR (s:MF) (hE:gz s):(eP s).all (λq=>q=abR s):=by
 have ho:(bc s).o=s.p.mi:=Q7
 have hn:(bc s).n=(s.p.mi.length:Int):=Bt
 have hV:iA (bc s):=⟨rfl,AA,by rw [hn];have:=hE.mi;omega,by rw [ho];exact hE.mis⟩
 have hm:=(ar2 _ hV).2.trans Q7
 unfold eP;simp only [Q7,hm];obtain ⟨h1,h2,h3,h4,h5,h6,h7,h8,h9,h10,h11,h12,_⟩:=hE
 repeat (refine ⟨by first|omega|exact ⟨AJ,AJ⟩ |exact ⟨rfl,AJ⟩ |exact ⟨hV,rfl,rfl⟩,?_⟩)
 rfl
def aso:DU prog AT 19 iQ.m:=Cw.sound (D:=iQ) (t:=eP) (gk TB) anW aQe.h ay3 (λs hE=>⟨auR s hE⟩)
def az8:DU prog AT 19 (QB λa=>iQ.m a []):=aDs aso
structure EW where
 (ek en em c1 c2 c3 c4 c5:Int)
 d1:Bool
 (d2 d3 d4:Int)
instance:Coe EW Value:=⟨λe=> .agg #[.int .i64 e.ek,.int .i64 e.en,.int .i64 e.em,.int .i64 e.c1,.int .i64 e.c2,.int .i64 e.c3,.int .i64 e.c4,.int .i64 e.c5,.bool e.d1,.int .i64 e.d2,.int .i64 e.d3,.int .i64 e.d4]⟩
instance:Coe EW LV:=⟨λe=> .v (.agg #[.int .i64 e.ek,.int .i64 e.en,.int .i64 e.em,.int .i64 e.c1,.int .i64 e.c2,.int .i64 e.c3,.int .i64 e.c4,.int .i64 e.c5,.bool e.d1,.int .i64 e.d2,.int .i64 e.d3,.int .i64 e.d4])⟩
def EW.c (e:EW):Ca:=(e.c1,e.c2,e.c3,e.c4,e.c5)
def EW.d (e:EW):Dm:=(e.d1,e.d2,e.d3,e.d4)
def EW.ev (e:EW):EV:=⟨e.ek,e.en,e.em,e.c,e.d⟩
def lO:LV->Option EW
 | .v (.agg ⟨[.int .i64 ek,.int .i64 en,.int .i64 em,.int .i64 c1,.int .i64 c2,.int .i64 c3,.int .i64 c4,.int .i64 c5,.bool d1,.int .i64 d2,.int .i64 d3,.int .i64 d4]⟩)=>some ⟨ek,en,em,c1,c2,c3,c4,c5,d1,d2,d3,d4⟩
 |_=>none
def arP {x:LV}{ev:EW}(h:lO x=some ev):x=(ev):=by
 unfold lO at h;exact xV
def zB:AB:=⟨[.v (.slice none 0 0),.v (.slice none 0 0),.v (.slice none 0 0),.v (.slice none 0 0),.v (.slice none 0 0),.v (.int .i64 0),.v (.bool false),.v (.slice none 0 0),.v (.int .i64 0),.v (.slice none 0 0),.v (.slice none 0 0),.v (.int .i64 0),.v (.slice none 0 0),.v (.slice none 0 0),.v (.slice none 0 0),.v (.slice none 0 0),.v (.slice none 0 0),.v (.slice none 0 0),.v (.slice none 0 0),.v (.slice none 0 0)],47,.cl,false⟩
def eB (e:EW):AB:=⟨[.v (.int .i64 e.ek),.v (.int .i64 e.en),.v (.int .i64 e.em),.v (.int .i64 e.c1),.v (.int .i64 e.c2),.v (.int .i64 e.c3),.v (.int .i64 e.c4),.v (.int .i64 e.c5),.v (.bool e.d1),.v (.int .i64 e.d2),.v (.int .i64 e.d3),.v (.int .i64 e.d4)],68,.cl,false⟩
def rE (b:List AB) (i q:Nat):EW:=letI a:=CP b q;⟨gI (B3 a (i+0)),gI (B3 a (i+1)),gI (B3 a (i+2)),gI (B3 a (i+3)),gI (B3 a (i+4)),gI (B3 a (i+5)),gI (B3 a (i+6)),gI (B3 a (i+7)),gBo (B3 a (i+8)),gI (B3 a (i+9)),gI (B3 a (i+10)),gI (B3 a (i+11))⟩
def rG (b:List AB):EW:=rE b 20 16
def kC (a c:Nat) (e:Ty) (l:List e.D):LV:=bif Nat.beq a 0 then .xl e l else .os a c 0 (l.length)
def kV (a i t:Nat) (e:Ty) (l:List e.D):AB:=bif Nat.beq a i then bV t e l else Bg
def kB (acs als afl ara ast aca ami ame adm alk adr atg:Nat) (p:PK) (e:EW) (x:LV):List AB:=[Bg,Bg,zB,Bg,kV acs 4 74 Ao p.cs,kV als 5 114 AX p.ls,kV afl 6 5 (.int .u8) p.fl,kV ara 7 118 BD p.ra,kV ast 8 85 Bu p.st,kV aca 9 55 AX p.ca,kV ami 10 53 By p.mi,kV ame 11 51 D6 p.me,kV adm 12 66 BO p.dm,kV alk 13 127 Cp p.lk,kV adr 14 3 A7 p.dr,kV atg 15 3 A7 p.tg,⟨[kC acs 11 Ao p.cs,.xl .str p.os,.xl B8 p.ks,.xl Au p.gs,.xl B9 p.bs,.v (.int .i64 p.tk),.v (.bool p.up),kC als 5 AX p.ls,.v (.int .i64 p.se),kC afl 1 (.int .u8) p.fl,kC ara 2 BD p.ra,.v (.int .i64 p.nx),kC ast 4 Bu p.st,kC aca 5 AX p.ca,kC ami 3 By p.mi,kC ame 3 D6 p.me,kC adm 4 BO p.dm,kC alk 6 Cp p.lk,kC adr 1 A7 p.dr,kC atg 1 A7 p.tg,.v (.int .i64 e.ek),.v (.int .i64 e.en),.v (.int .i64 e.em),.v (.int .i64 e.c1),.v (.int .i64 e.c2),.v (.int .i64 e.c3),.v (.int .i64 e.c4),.v (.int .i64 e.c5),.v (.bool e.d1),.v (.int .i64 e.d2),.v (.int .i64 e.d3),.v (.int .i64 e.d4),x],99,.cl,false⟩]
def kF (p:PK) (e:EW) (x:LV):List AB:=kB 4 5 6 7 8 9 10 11 12 13 14 15 p e x
def kT (p:PK) (e:EW) (x:LV):List AB:=kB 4 0 0 0 8 9 10 11 0 0 14 15 p e x
structure LF where
 (i k0 k1 k2:Int)
 p:PK
 ev:EW
def US (s:LF):List LV:=[.own 16 0,s.i,.v (.agg #[s.k0,s.k1,s.k2])]
def Z8 (s:LF):List AB:=kF s.p s.ev Dd
structure Xi where
 res:Int
 p:PK
 ev:EW
def ac8 (s:Xi):LV:=.v (.int .i64 s.res)
def acp (s:Xi):List AB:=kF s.p s.ev Dd
def eE (s:LF):T Xi:=letI c:=s.p.st.getD s.i.toNat (Ty.dflt Bu);letI d:=s.p.st.length;letI a:=sE (AH s.p.gs s.i) c s.k0 s.k1 s.k2;letI b:=sN (AH s.p.gs s.i) c s.k0 s.k1 s.k2;.ix s.i (s.p.gs.length) (.ik s.i d (.br (a==0) (.ik s.i d (.pa s.p (.re d (s.p.st.set s.i.toNat b) (.rl s.p.ca (.rl s.p.mi (.rl s.p.me (.rl s.p.dm (.rl s.p.lk (.rl s.p.dr (.rl s.p.tg (.ok (⟨a,{s.p with st:=s.p.st.set s.i.toNat b},s.ev⟩)))))))))))) (.pc s.p (.ok (⟨a,s.p,s.ev⟩)))))
def aAN (s:LF):Prop:=0<=s.i/\s.i<(s.p.gs.length:Int)/\s.p.st.length=s.p.gs.length
def fS (s:LF):Xi:=⟨sE (AH s.p.gs s.i) (BP s.p.st s.i) s.k0 s.k1 s.k2,{s.p with st:=Ce s.p.gs s.p.st s.i s.k0 s.k1 s.k2},s.ev⟩
def aAR:Cw LF Xi:=⟨US,Z8,λv b=>⟨AK v 1,gI (E6 (v.getD 2 .junk) 0),gI (E6 (v.getD 2 .junk) 1),gI (E6 (v.getD 2 .junk) 2),rF b,rG b⟩,aAN,[0,1,3],[],ac8,acp,fS⟩
abbrev tj (s:LF):Prop:=aAN s/\US s=US s/\Z8 s=Z8 s
def dJ:List Bd:=[Qi]
def aa2:DI:=CQ 19 0 9 (GS.lp) (Dp prog AT (dJ) 20 2)
def anT:ED prog AT aa2:=DB func19 rfl AZ Ck (HW (gk dJ))
def axz (s:LF):((EO prog AT dJ aa2 Fh).k 57 (US s) (Z8 s)).bind (λq=>G2 (Z8 s).length [0] [] .normal (q.1::US s) q.2)=(eE s).mp (λs2=>⟨.normal,(US s).length+1,[ac8 s2],acp s2,true⟩):=AZ
def avD (s:LF) (hE:aAN s):(eE s).all (λq=>q=fS s):=by
 obtain ⟨h0,h1,h2⟩:=hE;unfold eE;refine ⟨A0,A0,A0,λc=>?_,λc=>?_⟩
 ·have c:sE (AH s.p.gs s.i) (BP s.p.st s.i) s.k0 s.k1 s.k2=0:=eq_of_beq c
  have hg:Ce s.p.gs s.p.st s.i s.k0 s.k1 s.k2=_:=AE c
  repeat (refine ⟨Fw,?_⟩)
  unfold fS;rw [hg];rfl
 ·have c:¬sE (AH s.p.gs s.i) (BP s.p.st s.i) s.k0 s.k1 s.k2=0:=Bq.1 c
  have hg:Ce s.p.gs s.p.st s.i s.k0 s.k1 s.k2=s.p.st:=AD c
  repeat (refine ⟨Fw,?_⟩)
  unfold fS;rw [hg];rfl
def azd:DU prog AT 57 aAR.m:=Cw.sound (D:=aAR) (t:=eE) (gk dJ) anT Po axz (λs hE=>⟨avD s hE⟩)
structure ML where
 (n i:Int)
 p:PK
 ev:EW
 left:List Lk
def TX (s:ML):T (Rd ML):=letI a:=s.p.lk.getD s.i.toNat (Ty.dflt Cp);.br (decide (s.i<s.n)) (.ik s.i (s.p.lk.length) (.br (a.2.2.1 !=s.ev.en) (.rb (s.left.length) (List.length ([a])) 48 (.re (s.left.length+List.length ([a])) (s.left++([a])) (.rl s.p.lk (.pc s.p (.nx {s with i:=A9 (s.i+1),left:=s.left++([a])}))))) (.rl s.left (.rl s.p.lk (.pc s.p (.nx {s with i:=A9 (s.i+1)})))))) (.rl s.left (.rl s.p.lk (.pc s.p (.so (.exit 0) s))))
def im (s:ML):Prop:=s.i=0/\s.n=(s.p.lk.length:Int)/\s.n<=20000000/\(s.left.length:Int)<=s.i
def gT (s:ML):Prop:=0<=s.i/\s.i<=s.n/\s.n=(s.p.lk.length:Int)/\s.n<=20000000/\(s.left.length:Int)<=s.i
def dX (s:ML):Nat:=(s.n-s.i).toNat
def abv (x:Ex) (s s':ML):Prop:=True
def ajM:∀s,im s->gT s:=by
 rintro s ⟨h0,h2,h3,h4⟩
 exact xM
def axc:Da gT dX abv TX:=by
 intro s hI;unfold TX;dsimp only [T.rd,T.rl,T.rv];obtain ⟨h0,h1,h2,h3,h4⟩:=hI;refine AG (λc1=>AG (λc2=>?_) (λc2=>?_)) (λc1=>trivial)
 all_goals have c1:s.i<s.n:=AO
 all_goals rw [AI (x:=s.i+1)]
 ·exact ⟨⟨AP,AP,h2,h3,Zp⟩,by simp only [dX];omega⟩
 ·exact ⟨⟨AP,AP,h2,h3,AP⟩,by simp only [dX];omega⟩
def KE:AS ML:=⟨18,30,[0,1,4,11,12,13],[.nl 4 127 Cp],λs=>[.own 16 0,.fn 59 [.own 17 0],.os 18 6 0 (s.left.length),.os 13 6 0 (s.p.lk.length),s.n,s.i],λs=>kF s.p s.ev Dd++[⟨[.own 16 0],95,.cl,false⟩,bV 127 Cp s.left],λv b=>⟨AK v 4,AK v 5,rF b,rG b,Ab Cp b 18⟩,TX,λs r=> {s with i:=r.i,left:=r.left},λs=>s,λ_ s=>s,[.exit 0],im,gT,dX⟩
abbrev ae6:=KE.run
abbrev as1:=KE.Am
def uD:List Bd:=[TS]
def ayy:As:=kI uD (la 9 func19 Ck (l0 uD))
def ave:Rq gT TX:=by
 intro s hI;refine ⟨λc1=>⟨?_,?_,λc2=>⟨?_,?_,A8,A8,A8,A8,A8,A8,A8,A8,A8,A8,A8,A8,A8,trivial⟩,λc2=>⟨A8,A8,A8,A8,A8,A8,A8,A8,A8,A8,A8,A8,A8,A8,trivial⟩⟩,λc1=>⟨A8,A8,A8,A8,A8,A8,A8,A8,A8,A8,A8,A8,A8,A8,trivial⟩⟩
 all_goals ((obtain ⟨h0,h1,h2,h3,h4⟩:=hI;(try simp only [AY] at c1);first|omega|exact ⟨rfl,rfl⟩ |(simp only [BX,Bh,B0];omega) |(simp only [B0,BX,Bh,E9];done)))
def aPn:KE.Ok:={}
def aOA:KE.Pf (abv):=⟨ajM,λs h=>rfl,axc,ave⟩
def K3:=s2 (b:=bN f58 0) aPn aOA uD ayy
def amz {l:List Lk}{i:Int}(h0:0<=i) (h:i<l.length):l.drop i.toNat=l.getD i.toNat (Ty.dflt Cp)::l.drop (i+1).toNat:=by
 rw [SD A0,Cx,DF A0,show (i+1).toNat=i.toNat+1 by omega]
 rfl
def aqw:Rs im as1 ae6 (λs:ML=>s.left++(s.p.lk.drop s.i.toNat).filter (λl=>l.2.2.1 !=s.ev.en)) (λx s' (v:List Lk)=>x=.exit 0/\s'.left=v):=DL aPn aOA (λs hI=>by
  show CM _ _ ((TX s).rd s)
  unfold TX;dsimp only [T.rd,T.rl];obtain ⟨h0,h1,h2,h3,h4⟩:=hI;refine AG (λc1=>?_) (λc1=>?_)
  ·have c1:s.i<s.n:=AO
   rw [AI (x:=s.i+1),amz h0 A0];refine AG (λc2=>?_) (λc2=>?_)
   ·show _++[_]++_=_++_
    rw [Kn,AE c2,CZ];rfl
   ·show _++_=_++_
    rw [Kn,AD Mz]
  ·have c1:s.n<=s.i:=AO
   refine ⟨rfl,?_⟩;rw [EJ A0]
   simp)
structure VP (p:PK):Prop where
 site:BF p.cs p.os p.ks p.gs p.bs=true
 tk:0<=p.tk/\p.tk<=1000000
 st:p.st.length=p.gs.length
 ca:p.ca.length=p.gs.length
 mi:p.mi.length=p.gs.length
 me:p.me.length=p.gs.length
 dm:p.dm.length=p.gs.length
 dr:p.dr.length=p.gs.length
 Hq:p.tg.length=p.cs.length
 tg:∀k:Nat,k<p.tg.length->1<=gi p.tg k/\gi p.tg k<=(Ag p.cs k).2.2.1
 dr8:p.dr.all (λx=>inB x (-200) 200)=true
 lk:∀l∈p.lk,0<=l.2.2.1/\l.2.2.1<(p.gs.length:Int)
def W2 {p:PK}:E4 p=true↔VP p:=by
 unfold E4;simp only [AU,AY,CU,EB]
 constructor
 ·rintro ⟨⟨h1,h2⟩,⟨h3,h4,h5,h6,h7,h8⟩,h9,h10,h11,h12⟩
  exact ⟨h1,h2,h3,h4,h5,h6,h7,h8,h9,λk hk=>h10 k A0,h11,λl hl=>by have:=BL.1 h12 l hl;rw [CU] at this;omega⟩
 ·intro h
  refine ⟨⟨h.site,h.tk⟩,⟨h.st,h.ca,h.mi,h.me,h.dm,h.dr⟩,h.Hq,λk hk=>h.tg k A0,h.dr8,BL.2 λl hl=>CU.2 ?_⟩
  have:=h.lk l hl
  omega
def L2 {gs:List Ch}{st:List St}{i k n m:Int}:(Ce gs st i k n m).length=st.length:=by
 unfold Ce;split<;>simp
def pN {gs:List Ch}{lk:List Lk}{t:Int}{st:List St}:∀k,(PM gs lk t st k).length=st.length
 |0=>rfl
 |k+1=>by
  unfold PM;split
  ·exact pN k
  ·rw [L2];exact pN k
def aDf {gs:List Ch}{st:List St}{i:Int}:∀k,(Re gs st i k).length=st.length
 |0=>rfl
 |k+1=>by unfold Re;rw [L2];exact aDf k
def pE {gs:List Ch}{dr:List Int}{t:Int}{st:List St}:∀k,(Rt gs dr t st k).length=st.length
 |0=>rfl
 |k+1=>by
  unfold Rt;split
  ·rw [aDf];exact pE k
  ·exact pE k
def arX {gs:List Ch}{ca:List Ca}{s:DW}{i:Int}:letI a:=Fc gs ca s i;a.st.length=s.st.length/\a.mi.length=s.mi.length/\a.me.length=s.me.length/\a.dw.length=s.dw.length:=by
 unfold Fc;split
 ·exact ⟨rfl,rfl,rfl,rfl⟩
 ·split
  ·refine ⟨?_,AJ,?_,AJ⟩
   ·simp only;split
    ·exact L2
    ·rfl
   ·simp only;split<;>simp
  ·exact ⟨rfl,rfl,rfl,rfl⟩
def cQ {gs:List Ch}{ca:List Ca}{s:DW}:∀k,(Dh gs ca s k).st.length=s.st.length/\(Dh gs ca s k).mi.length=s.mi.length/\(Dh gs ca s k).me.length=s.me.length/\(Dh gs ca s k).dw.length=s.dw.length
 |0=>⟨rfl,rfl,rfl,rfl⟩
 |k+1=>by
  obtain ⟨h1,h2,h3,h4⟩:=cQ (gs:=gs) (ca:=ca) (s:=s) k;obtain ⟨g1,g2,g3,g4⟩:=arX (gs:=gs) (ca:=ca) (s:=Dh gs ca s k) (i:=(k:Int));unfold Dh;exact ⟨g1.trans h1,g2.trans h2,g3.trans h3,g4.trans h4⟩
def tt {cs:List Cd}{os:List ByteArray}{ks:List Ko}{gs:List Ch}{bs:List Ba}(h:BF cs os ks gs bs=true) {k:Nat}(hk:k<cs.length):1<=(Ag cs k).2.2.1/\(Ag cs k).2.2.1<=1000:=by
 have:=oT h (c:=(k:Int)) A0 A0
 unfold Hl at this;simp only [AU,CU] at this;exact this.2.1
def W9 {gs:List Ch}{tg am:List Int}{cs:List Cd}:∀n,(FD gs tg am cs n).length=cs.length
 |0=>rfl
 | n+1=>by
  unfold FD;split
  ·exact W9 n
  ·split
   ·rw [Br];exact W9 n
   ·exact W9 n
def pg {gs:List Ch}{tg am:List Int}{cs:List Cd}:∀n,n<=cs.length->∀j:Nat,(Ag (FD gs tg am cs n) j=Ag cs j\/(j<n/\gi tg j<(Ag cs j).2.2.1/\Ag (FD gs tg am cs n) j=Jh (Ag cs j) (gi tg j)))/\(n<=j->Ag (FD gs tg am cs n) j=Ag cs j)
 |0,_,j=>⟨.inl rfl,λ_=>rfl⟩
 | n +1,hn,j=>by
  obtain ⟨h1,h2⟩:=pg (gs:=gs) (tg:=tg) (am:=am) (cs:=cs) n A0 j
  have h3:=(pg (gs:=gs) (tg:=tg) (am:=am) (cs:=cs) n A0 n).2 (At _)
  have hl:n<(FD gs tg am cs n).length:=by rw [W9];omega
  unfold FD;split
  ·exact x8
  ·rename_i hlt
   split
   ·rw [aGR hl]
    by_cases e:j=n
    ·subst e
     rw [AE rfl,h3] at*;exact ⟨.inr ⟨A0,A0,rfl⟩,λh=>A0⟩
    ·rw [AD e]
     exact x8
   ·exact x8
def aDD {gs:List Ch}{tg am:List Int}{cs:List Cd}{os:List ByteArray}{ks:List Ko}{bs:List Ba}(h:BF cs os ks gs bs=true) (ht:∀k:Nat,k<cs.length->1<=gi tg k/\gi tg k<=1000):∀n,n<=cs.length->BF (FD gs tg am cs n) os ks gs bs=true
 |0,_=>h
 | n+1,hn=>by
  have h1:=aDD (am:=am) h ht n A0
  unfold FD;split
  ·exact h1
  ·split
   ·exact mf h1 (by rw [W9];omega) (ht n A0)
   ·exact h1
def aB8 {cs:List Cd}{tg:List Int}:∀n,(GU cs tg n).length=cs.length
 |0=>rfl
 |n+1=>by unfold GU;rw [Br];exact aB8 n
def aDT {tg:List Int}{cs:List Cd}{os:List ByteArray}{ks:List Ko}{gs:List Ch}{bs:List Ba}(h:BF cs os ks gs bs=true) (ht:∀k:Nat,k<cs.length->1<=gi tg k/\gi tg k<=1000):∀n,n<=cs.length->BF (GU cs tg n) os ks gs bs=true
 |0,_=>h
 |n+1,hn=>by
  unfold GU;exact mf (aDT h ht n A0) (by rw [aB8];omega) (ht n A0)
def acd {p:PK}:∀x∈p.dL,0<=x.2.1/\x.2.1<(p.gs.length:Int):=by
 intro x hx;unfold PK.dL deL at hx;split at hx
 ·obtain ⟨k,hk,rfl⟩:=IS.1 hx
  have:=(aQq (gs:=p.gs) (l:=Hv p.ls p.tk) (t:=p.tk) (n:=p.nx) (am:=Lp p.gs p.ra (ofL p.JC p.os p.ks p.gs p.bs (Hv p.ls p.tk) p.dm p.tk) p.gs.length) (At _)).1.at_ (k:Int) A0 A0
  rw [Oh VW] at this
  simpa using this.2.1
 ·cases hx
def aoo {t:Int}{s:SN}{x:Le}:(Gt t s x).lk=s.lk\/(Gt t s x).lk=s.lk++[fj t x]:=by
 unfold Gt;split
 ·exact .inr rfl
 ·exact .inl rfl
def aFy {t:Int}{xs:List Le}{s:SN}:∀n,n<=xs.length->(∀l∈(Jb t xs s n).lk,l∈s.lk\/∃x∈xs,l=fj t x)/\(Jb t xs s n).lk.length<=s.lk.length+n
 |0,_=>⟨λl hl=> .inl hl,At _⟩
 | n+1,hn=>by
  obtain ⟨h1,h2⟩:=aFy (t:=t) (xs:=xs) (s:=s) n A0;unfold Jb;rcases aoo (t:=t) (s:=Jb t xs s n) (x:=An xs n) with e|e<;>rw [e]
  ·exact ⟨h1,A0⟩
  ·refine ⟨λl hl=>?_,Cn⟩
   rw [Bp,Kp] at hl;rcases hl with hl|rfl
   ·exact h1 l hl
   ·exact .inr ⟨_,OT A0 A0,rfl⟩
def asc {p:PK}(h:∀l∈p.lk,0<=l.2.2.1/\l.2.2.1<(p.gs.length:Int)):∀l∈p.AV.lk,0<=l.2.2.1/\l.2.2.1<(p.gs.length:Int):=by
 unfold PK.AV;split
 ·exact h
 ·split
  ·exact h
  ·intro l hl
   rcases (aFy (t:=p.tk) (xs:=p.dL) (s:=p.II) _ (At _)).1 l hl with e|⟨x,hx,rfl⟩
   ·exact h l e
   ·exact acd x hx
def Sg (p:PK):p.AV.cs=p.cs/\p.AV.os=p.os/\p.AV.ks=p.ks/\p.AV.gs=p.gs/\p.AV.bs=p.bs/\p.AV.tk=p.tk/\p.AV.up=p.up/\p.AV.st=p.st/\p.AV.ca=p.ca/\p.AV.mi=p.mi/\p.AV.me=p.me/\p.AV.dm=p.dm/\p.AV.dr=p.dr/\p.AV.tg=p.tg:=by
 unfold PK.AV;split
 ·exact ⟨rfl,rfl,rfl,rfl,rfl,rfl,rfl,rfl,rfl,rfl,rfl,rfl,rfl,rfl⟩
 ·split<;>exact ⟨rfl,rfl,rfl,rfl,rfl,rfl,rfl,rfl,rfl,rfl,rfl,rfl,rfl,rfl⟩
def VP.dec {p:PK}(h:VP p):VP p.AV:=by
 obtain ⟨e1,e2,e3,e4,e5,e6,e7,e8,e9,e10,e11,e12,e13,e14⟩:=Sg p;refine ⟨?_,?_,?_,?_,?_,?_,?_,?_,?_,?_,?_,?_⟩
 ·rw [e1,e2,e3,e4,e5];exact h.site
 ·rw [e6];exact h.tk
 ·rw [e8,e4];exact h.st
 ·rw [e9,e4];exact h.ca
 ·rw [e10,e4];exact h.mi
 ·rw [e11,e4];exact h.me
 ·rw [e12,e4];exact h.dm
 ·rw [e13,e4];exact h.dr
 ·rw [e14,e1];exact h.Hq
 ·rw [e14,e1];exact h.tg
 ·rw [e13];exact h.dr8
 ·rw [e4];exact asc h.lk
def VP.arr {p:PK}(h:VP p):VP p.Mj:={h with st:=(pN _).trans h.st,lk:=λl hl=>h.lk l ((HJ.1 hl).1)}
def VP.cnt {p:PK}(h:VP p):VP p.aP:={h with st:=(pE _).trans h.st}
def VP.drw {p:PK}(h:VP p):VP p.FX:=
 have hl:=cQ (gs:=p.gs) (ca:=p.ca) (s:=⟨p.st,p.mi,p.me,List.replicate p.gs.length 0⟩) p.gs.length
 {h with st:=hl.1.trans h.st,mi:=hl.2.1.trans h.mi,me:=hl.2.2.1.trans h.me}
def VP.tg1 {p:PK}(h:VP p):∀k:Nat,k<p.cs.length->1<=gi p.tg k/\gi p.tg k<=1000:=λk hk=>by
 have:=h.tg k (by rw [h.Hq];omega)
 have:=tt h.site hk
 omega
def VP.rst {p:PK}(h:VP p):VP p.J1:=by
 have hs:BF p.J1.cs p.os p.ks p.gs p.bs=true:=by
  unfold PK.J1;simp only;split
  ·exact h.site
  ·rw [h.Hq];exact aDD h.site h.tg1 _ (At _)
 have hl:p.J1.cs.length=p.cs.length:=by
  unfold PK.J1;simp only;split
  ·rfl
  ·exact W9 _
 refine {h with site:=hs,Hq:=h.Hq.trans hl.symm,tg:=λk hk=>?_}
 have ht:=h.tg k hk
 refine ⟨ht.1,?_⟩;unfold PK.J1;simp only;split
 ·exact ht.2
 ·rcases (pg (gs:=p.gs) (tg:=p.tg) (am:=p.rsA) (cs:=p.cs) p.tg.length (by rw [h.Hq];omega) k).1 with e|⟨_,_,e⟩<;>rw [e]
  ·exact ht.2
  ·exact Gl _
def VP.tick {p:PK}(h:VP p) (ht:p.tk≠1000000):VP p.FQ:=by
 have h5:VP p.B2.FX.J1:=h.dec.arr.cnt.drw.rst
 have et:p.B2.FX.J1.tk=p.tk:=(Sg p).2.2.2.2.2.1
 have:=h.tk
 exact {h5 with tk:=by show 0<=p.B2.FX.J1.tk+1/\p.B2.FX.J1.tk+1<=1000000;omega}
def agC {p:PK}{n:Int}:(p.yV n).length=p.st.length:=by
 unfold PK.yV;rw [L2,L2,L2,L2]
def VP.step {p:PK}(h:VP p) {e:EV}(he:BR p e=0):VP (B4 p e):=by
 unfold B4;rw [AD A0];unfold BR at he;rw [AD (by rw [W2.2 h];decide)] at he
 split
 ·rename_i h1
  rw [AE h1] at he;unfold PK.Iq at he;exact h.tick (λhh=>aNM)
 rename_i h1;rw [AD h1] at he;split
 ·exact {h with ca:=by simp only [PK.Ot,Br];exact h.ca,mi:=by simp only [PK.Ot,Br];exact h.mi,dm:=by simp only [PK.Ot,Br];exact h.dm,st:=agC.trans h.st}
 rename_i h2;rw [AD h2] at he;split
 ·exact {h with ca:=by simp only [PK.Qd,Br];exact h.ca,mi:=by simp only [PK.Qd,Br];exact h.mi,dm:=by simp only [PK.Qd,Br];exact h.dm,st:=by simp only [PK.Qd,L2];exact h.st}
 rename_i h3;rw [AD h3] at he;split
 ·exact {h with lk:=λl hl=>h.lk l ((HJ.1 hl).1)}
 rename_i h4;rw [AD h4] at he;split
 ·exact {h with}
 rename_i h5;rw [AD h5] at he;split
 ·exact {h with}
 rename_i h6;rw [AD h6] at he;split
 ·exact {h with st:=L2.trans h.st}
 rename_i h7;rw [AD h7] at he;split at he
 ·unfold PK.Iw at he
  split at he
  ·cases he
  ·rename_i hb
   simp only [Cr,D4,not_or,ZW,CU] at hb;obtain ⟨⟨n0,n1⟩,m0,m1⟩:=hb;refine {h with Hq:=by simp only [PK.LY,Br];exact h.Hq,tg:=λk hk=>?_}
   have hk':k<p.tg.length:=by simpa only [PK.LY,Br] using hk
   have ht:=h.tg k hk'
   show 1<=gi (p.tg.set e.en.toNat e.em) k/\gi (p.tg.set e.en.toNat e.em) k<=(Ag p.cs k).2.2.1
   unfold gi at ht|-;rw [Cx,HI]
   by_cases ek:e.en.toNat=(k:Int).toNat
   ·rw [AE ek,AE (by rw [Bs] at ek;omega)]
    rw [Bs] at ek
    have:e.en=(k:Int):=A0
    rw [<-this];exact ⟨m0,m1⟩
   ·rw [AD ek,<-Cx]
    exact ht
 ·cases he
def J7 (e:Int) (a b:PK):PK:=if e=0 then a else b
def L5 {e:Int}{a b:PK}(h:e=0):J7 e a b=a:=AE h
def JO {e:Int}{a b:PK}(h:e≠0):J7 e a b=b:=AD h
def Sw {α:Type}(l:List α):(l.drop 0).take l.length=l:=AJ
def nt {l:List Ch}(h:l.length<=1000):A9 ((l.length:Int)-1)=(l.length:Int)-1:=AI
structure Nj where
 p:PK
 ev:EW
def Tx (s:Nj):List LV:=[.own 16 0]
def YI (s:Nj):List AB:=kF s.p s.ev Dd
structure Y9 where
 res:Int
 p:PK
 ev:EW
def ac5 (s:Y9):LV:=.v (.int .i64 s.res)
def ack (s:Y9):List AB:=kB 4 0 6 7 8 9 10 11 12 13 14 15 s.p s.ev Dd
def vV (s:Nj):T Y9:=
 .br (!s.p.up) (.rz s.p.ls (.rl s.p.cs (.rl s.p.fl (.rl s.p.ra (.pb s.p (.ok (⟨6,{s.p with ls:=(s.p.ls.drop 0).take (s.p.ls.length)},s.ev⟩))))))) (.rl s.p.cs (.rl s.p.fl (.rl s.p.ra (.pb s.p (.ok (⟨0,{s.p with up:=false,ls:=([]:List Le)},s.ev⟩))))))
def aAK (s:Nj):Prop:=True
def fR (s:Nj):Y9:=⟨PK.MM s.p,J7 (PK.MM s.p) (PK.Qj s.p) s.p,s.ev⟩
def aAP:Cw Nj Y9:=⟨Tx,YI,λv b=>⟨rF b,rG b⟩,aAK,[0,1,3],[.pc 16 7 AX,.kb 5],ac5,ack,fR⟩
abbrev agn (s:Nj):Prop:=aAK s/\Tx s=Tx s/\YI s=YI s
def dI:List Bd:=[]
def aSz:DI:=CQ 58 18 2 (KE.lp) (CQ 19 0 9 (GS.lp) (Dp prog AT (dI) 20 2))
def anQ:ED prog AT aSz:=DB func58 rfl Bt K3 (DB func19 rfl Bt Ck (HW (gk dI)))
def axu (s:Nj):((EO prog AT dI aSz Fh).k 25 (Tx s) (YI s)).bind (λq=>G2 (YI s).length [0] [.pc 16 7 AX,.kb 5] .normal (q.1::Tx s) q.2)=(vV s).mp (λs2=>⟨.normal,(Tx s).length+1,[ac5 s2],ack s2,true⟩):=AZ
def av9 (s:Nj) (hE:aAK s):(vV s).all (λq=>q=fR s):=by
 refine ⟨λc=>⟨A0,?_⟩,λc=>?_⟩
 ·have c:s.p.up=false:=AA
  have he:s.p.MM=6:=AE c
  rw [Sw]
  repeat (refine ⟨AJ,?_⟩)
  show _=_
  unfold fR;rw [JO AA];rw [he]
 ·have c:s.p.up=true:=AA
  have he:s.p.MM=0:=AD AA
  repeat (refine ⟨AJ,?_⟩)
  unfold fR;rw [he];rfl
def azb:DU prog AT 25 aAP.m:=Cw.sound (D:=aAP) (t:=vV) (gk dI) anQ Po axu (λs hE=>⟨av9 s hE⟩)
structure Nd where
 p:PK
 ev:EW
def UH (s:Nd):List LV:=[.own 16 0]
def YC (s:Nd):List AB:=kF s.p s.ev Dd
structure Y3 where
 res:Int
 p:PK
 ev:EW
def abz (s:Y3):LV:=.v (.int .i64 s.res)
def adI (s:Y3):List AB:=kF s.p s.ev Dd
def fB (s:Nd):T Y3:=letI a:=(Ce s.p.gs s.p.st s.ev.en (6:Int) (1:Int) (0:Int));.br (!(inB s.ev.en (0:Int) (A9 ((s.p.gs.length:Int)-1)))) (.pc s.p (.ok (⟨1,s.p,s.ev⟩))) (.pc s.p (.req (tj (⟨s.ev.en,6,1,0,s.p,s.ev⟩:LF)) (.pa s.p (.rl a (.rl s.p.ca (.rl s.p.mi (.rl s.p.me (.rl s.p.dm (.rl s.p.lk (.rl s.p.dr (.rl s.p.tg (.ok (⟨sE (AH s.p.gs s.ev.en) (BP s.p.st s.ev.en) (6:Int) (1:Int) (0:Int),{s.p with st:=a},s.ev⟩)))))))))))))
def aAE (s:Nd):Prop:=s.p.st.length=s.p.gs.length/\s.p.gs.length<=1000
def fP (s:Nd):Y3:=⟨PK.Ov s.p s.ev.en,{s.p with st:=if PK.isC s.p s.ev.en=true then Ce s.p.gs s.p.st s.ev.en 6 1 0 else s.p.st},s.ev⟩
def aA0:Cw Nd Y3:=⟨UH,YC,λv b=>⟨rF b,rG b⟩,aAE,[0,1,3],[],abz,adI,fP⟩
abbrev agh (s:Nd):Prop:=aAE s/\UH s=UH s/\YC s=YC s
def I9:List Bd:=[TS]
def dj:As:=Hu I9 (la 2 func58 K3 (la 9 func19 Ck (l0 I9))) [⟨57,aAR.m,azd⟩]
def aSt:DI:=CQ 58 18 2 (KE.lp) (CQ 19 0 9 (GS.lp) (Dp prog AT I9 20 2))
def anK:ED prog AT aSt:=DB func58 rfl Bt K3 (DB func19 rfl Bt Ck (HW (gk I9)))
def axo (s:Nd):((EO prog AT I9 aSt dj).k 27 (UH s) (YC s)).bind (λq=>G2 (YC s).length [0] [] .normal (q.1::UH s) q.2)=(fB s).mp (λs2=>⟨.normal,(UH s).length+1,[abz s2],adI s2,true⟩):=AZ
def av3 (s:Nd) (hE:aAE s):(fB s).all (λq=>q=fP s):=by
 obtain ⟨h1,h2⟩:=hE;unfold fB;rw [nt h2];refine ⟨λc=>?_,λc=>?_⟩
 ·have c:s.p.isC s.ev.en=false:=Pe
  repeat (refine ⟨AJ,?_⟩)
  show _=_
  unfold fP PK.Ov
  simp_all
 ·have c:s.p.isC s.ev.en=true:=Pe
  have ci:=CU.1 c
  have ci2:s.ev.en<(s.p.gs.length:Int):=A0
  repeat (refine ⟨AJ,?_⟩)
  refine ⟨⟨⟨ci.1,ci2,h1⟩,rfl,rfl⟩,?_⟩
  repeat (refine ⟨AJ,?_⟩)
  show _=_
  unfold fP PK.Ov
  grind
def azU:DU prog AT 27 aA0.m:=Cw.sound (D:=aA0) (t:=fB) (gk I9) anK dj.h axo (λs hE=>⟨av3 s hE⟩)
structure Ni where
 p:PK
 ev:EW
def Tw (s:Ni):List LV:=[.own 16 0]
def YH (s:Ni):List AB:=kF s.p s.ev Dd
structure Y8 where
 res:Int
 p:PK
 ev:EW
def ac4 (s:Y8):LV:=.v (.int .i64 s.res)
def acj (s:Y8):List AB:=kF s.p s.ev Dd
def dx (s:Ni):T Y8:=letI a:=(Ce s.p.gs s.p.st s.ev.en (6:Int) (0:Int) (0:Int));letI b:=(Ce s.p.gs a s.ev.en (2:Int) (0:Int) (0:Int));letI c:=(false,((0:Int),((0:Int),(9:Int))));letI d:=s.p.ca.length;.br (!(inB s.ev.en (0:Int) (A9 ((s.p.gs.length:Int)-1)))) (.pc s.p (.ok (⟨1,s.p,s.ev⟩))) (.ik s.ev.en d (.br (!((s.p.ca.getD s.ev.en.toNat (Ty.dflt AX)).2.2.1 !=0)) (.pc s.p (.ok (⟨4,s.p,s.ev⟩))) (.pc s.p (.req (tj (⟨s.ev.en,6,0,0,s.p,s.ev⟩:LF)) (.pa s.p (.rl a (.rl s.p.ca (.rl s.p.mi (.rl s.p.me (.rl s.p.dm (.rl s.p.lk (.rl s.p.dr (.rl s.p.tg (.req (tj (⟨s.ev.en,2,0,0,{s.p with st:=a},s.ev⟩:LF)) (.ik s.ev.en d (.ik s.ev.en (s.p.mi.length) (.ik s.ev.en (s.p.dm.length) (.pa s.p (.rl b (.re d (s.p.ca.set s.ev.en.toNat ((0:Int),((0:Int),((0:Int),((0:Int),(0:Int)))))) (.re (s.p.mi.length) (s.p.mi.set s.ev.en.toNat (([]:List Int),((0:Int),(0:Int)))) (.rl s.p.me (.re (s.p.dm.length) (s.p.dm.set s.ev.en.toNat c) (.rl s.p.lk (.rl s.p.dr (.rl s.p.tg (.ok (⟨0,{s.p with st:=b,ca:=s.p.ca.set s.ev.en.toNat ((0:Int),((0:Int),((0:Int),((0:Int),(0:Int))))),mi:=s.p.mi.set s.ev.en.toNat (([]:List Int),((0:Int),(0:Int))),dm:=s.p.dm.set s.ev.en.toNat c},s.ev⟩))))))))))))))))))))))))))))
def aAJ (s:Ni):Prop:=s.p.st.length=s.p.gs.length/\s.p.gs.length<=1000/\s.p.ca.length=s.p.gs.length/\s.p.mi.length=s.p.gs.length/\s.p.dm.length=s.p.gs.length
def XT (s:Ni):Y8:=⟨PK.KN s.p s.ev.en,J7 (PK.KN s.p s.ev.en) (PK.Qd s.p s.ev.en) s.p,s.ev⟩
def aA5:Cw Ni Y8:=⟨Tw,YH,λv b=>⟨rF b,rG b⟩,aAJ,[0,1,3],[],ac4,acj,XT⟩
abbrev agm (s:Ni):Prop:=aAJ s/\Tw s=Tw s/\YH s=YH s
def aSy:DI:=CQ 58 18 2 (KE.lp) (CQ 19 0 9 (GS.lp) (Dp prog AT I9 20 2))
def anP:ED prog AT aSy:=DB func58 rfl Bt K3 (DB func19 rfl Bt Ck (HW (gk I9)))
def axt (s:Ni):((EO prog AT I9 aSy dj).k 23 (Tw s) (YH s)).bind (λq=>G2 (YH s).length [0] [] .normal (q.1::Tw s) q.2)=(dx s).mp (λs2=>⟨.normal,(Tw s).length+1,[ac4 s2],acj s2,true⟩):=AZ
def av8 (s:Ni) (hE:aAJ s):(dx s).all (λq=>q=XT s):=by
 obtain ⟨h1,h2,h3,h4,h5⟩:=hE;unfold dx;rw [nt h2];refine ⟨λc=>?_,λc=>?_⟩
 ·have c:s.p.isC s.ev.en=false:=Pe
  have he:s.p.KN s.ev.en=1:=AE c
  repeat (refine ⟨AJ,?_⟩)
  show _=_
  unfold XT;rw [JO M0];rw [he]
 ·have c:s.p.isC s.ev.en=true:=Pe
  have ci:=CU.1 c
  have ci2:s.ev.en<(s.p.gs.length:Int):=A0
  have hc:¬s.p.isC s.ev.en=false:=aG
  refine ⟨A0,A0,λc2=>?_,λc2=>?_⟩
  ·have c2:(BS s.p.ca s.ev.en).2.2.1=0:=by simp only [D4,bne_eq_false_iff_eq] at c2;exact c2
   have he:s.p.KN s.ev.en=4:=by unfold PK.KN;rw [AD hc,AE c2]
   repeat (refine ⟨AJ,?_⟩)
   show _=_
   unfold XT;rw [JO M0];rw [he]
  ·have c2:¬(BS s.p.ca s.ev.en).2.2.1=0:=by simp only [Hy,DT] at c2;exact c2
   have he:s.p.KN s.ev.en=0:=by unfold PK.KN;rw [AD hc,AD c2]
   have hg:(Ce s.p.gs s.p.st s.ev.en 6 0 0).length=s.p.gs.length:=by rw [L2];exact h1
   repeat (refine ⟨AJ,?_⟩)
   refine ⟨⟨⟨ci.1,ci2,h1⟩,rfl,rfl⟩,?_⟩
   repeat (refine ⟨A0,?_⟩)
   refine ⟨⟨⟨ci.1,ci2,hg⟩,rfl,rfl⟩,?_⟩
   repeat (refine ⟨AA,?_⟩)
   show _=_
   unfold XT;rw [L5 he];rw [he];rfl
def azZ:DU prog AT 23 aA5.m:=Cw.sound (D:=aA5) (t:=dx) (gk I9) anP dj.h axt (λs hE=>⟨av8 s hE⟩)
structure Nh where
 p:PK
 ev:EW
def Tv (s:Nh):List LV:=[.own 16 0]
def YG (s:Nh):List AB:=kF s.p s.ev Dd
structure Y7 where
 res:Int
 p:PK
 ev:EW
def ac3 (s:Y7):LV:=.v (.int .i64 s.res)
def aci (s:Y7):List AB:=kB 4 5 6 7 8 9 10 11 12 0 14 15 s.p s.ev Dd
def dv (s:Nh):T Y7:=letI b:=((s.p.lk.length:Nat):Int);letI a:=(ae6 (⟨b,0,s.p,s.ev,([]:List Lk)⟩:ML));.br (!(inB s.ev.en (0:Int) (A9 ((s.p.gs.length:Int)-1)))) (.rz s.p.lk (.pa s.p (.rl s.p.st (.rl s.p.ca (.rl s.p.mi (.rl s.p.me (.rl s.p.dm (.rl s.p.dr (.rl s.p.tg (.ok (⟨1,{s.p with lk:=(s.p.lk.drop 0).take (s.p.lk.length)},s.ev⟩))))))))))) (.r0 Lk (.rl s.p.lk (.pc s.p (.req (KE.q (⟨b,0,s.p,s.ev,([]:List Lk)⟩:ML)) (.rz a.left (.pa s.p (.rl s.p.st (.rl s.p.ca (.rl s.p.mi (.rl s.p.me (.rl s.p.dm (.rl s.p.dr (.rl s.p.tg (.ok (⟨0,{s.p with lk:=(a.left.drop 0).take (List.length a.left)},s.ev⟩)))))))))))))))
def aAI (s:Nh):Prop:=s.p.gs.length<=1000/\s.p.lk.length<=20000000
def fQ (s:Nh):Y7:=⟨PK.NR s.p s.ev.en,J7 (PK.NR s.p s.ev.en) (PK.fi s.p s.ev.en) s.p,s.ev⟩
def aA4:Cw Nh Y7:=⟨Tv,YG,λv b=>⟨rF b,rG b⟩,aAI,[0,1,3],[.pc 16 17 Cp,.kb 13],ac3,aci,fQ⟩
abbrev agl (s:Nh):Prop:=aAI s/\Tv s=Tv s/\YG s=YG s
def aQd:As:=kI I9 (la 2 func58 K3 (la 9 func19 Ck (l0 I9)))
def aSx:DI:=CQ 58 18 2 (KE.lp) (CQ 19 0 9 (GS.lp) (Dp prog AT I9 20 2))
def anO:ED prog AT aSx:=DB func58 rfl Bt K3 (DB func19 rfl Bt Ck (HW (gk I9)))
def axs (s:Nh):((EO prog AT I9 aSx aQd).k 24 (Tv s) (YG s)).bind (λq=>G2 (YG s).length [0] [.pc 16 17 Cp,.kb 13] .normal (q.1::Tv s) q.2)=(dv s).mp (λs2=>⟨.normal,(Tv s).length+1,[ac3 s2],aci s2,true⟩):=AZ
def av7 (s:Nh) (hE:aAI s):(dv s).all (λq=>q=fQ s):=by
 obtain ⟨h1,h2⟩:=hE;unfold dv;rw [nt h1];refine ⟨λc=>⟨A0,?_⟩,λc=>?_⟩
 ·have c:s.p.isC s.ev.en=false:=Pe
  have he:s.p.NR s.ev.en=1:=AE c
  rw [Sw]
  repeat (refine ⟨AJ,?_⟩)
  show _=_
  unfold fQ;rw [JO AA];rw [he]
 ·have c:s.p.isC s.ev.en=true:=Pe
  have he:s.p.NR s.ev.en=0:=AD AA
  have hV:im (⟨((s.p.lk.length:Nat):Int),(0:Int),s.p,s.ev,([]:List Lk)⟩:ML):=⟨rfl,rfl,AA,AA⟩
  have q:=(aqw _ hV).2
  rw [Sw,q]
  repeat (refine ⟨AJ,?_⟩)
  refine ⟨⟨hV,rfl,rfl⟩,?_⟩
  repeat (refine ⟨AJ,?_⟩)
  unfold fQ;rw [he];rfl
def azY:DU prog AT 24 aA4.m:=Cw.sound (D:=aA4) (t:=dv) (gk I9) anO aQd.h axs (λs hE=>⟨av7 s hE⟩)
open Go.RowKit Go.Extern.Stop Go.Stop Go.Extern Go Go.Sx
def arT (v:Value) (w:World):(Extern.ReflectliteType.typeOf #[.iface 57 v]).run prog w=.ok (.iface 343 (.agg #[.pointer (some ⟨3,57,none⟩)])) w:=AZ
def aJw:Array Value->Sem Value:=Extern.ReflectliteType.method λt=>do Extern.Rtype.noPackHeld "Comparable" t;pure (.bool (←typeInfo t).comparable)
def aeh (w:World):(aJw #[.agg #[.pointer (some ⟨3,57,none⟩)]]).run prog w=.ok (.bool true) w:=AZ
def arU (v:Value) (w:World):(Go.method 484 343 v "Comparable").run prog w=.ok (252,v) w:=AZ
def al2 (v:Value) (xT:TypeId) (w:World):(Instr.typeAssert (.iface 57 v) xT 345 true).run prog w=.ok (.tuple #[.nilIface,.bool false]) w:=wJ Tryz.underlying345 AZ AZ v xT w
def afx (v:Value) (xT:TypeId) (w:World):(Instr.typeAssert (.iface 57 v) xT 348 true).run prog w=.ok (.tuple #[.nilIface,.bool false]) w:=wJ Tryz.underlying348 AZ AZ v xT w
def afj (v:Value) (xT:TypeId) (w:World):(Instr.typeAssert (.iface 57 v) xT 350 true).run prog w=.ok (.tuple #[.nilIface,.bool false]) w:=wJ Tryz.underlying350 AZ AZ v xT w
def afw (n m:Int) (w:World):Calls prog 220 #[.iface 57 (.int .i64 n),.iface 57 (.int .i64 m)] w λe w'=>e=.returned (.bool (n==m))/\w'=w:=by
 have hu:=Tryz.underlying336
 have h8:=@run_callFunc_extern prog 226 _ Extern.ReflectliteType.typeOf func226 AZ AZ AZ AZ
 have h32:=@run_callFunc_extern prog 252 _ aJw func252 AZ AZ AZ AZ
 have tT:=arT
 have cT:=aeh
 have mR:=arU
 have nE:=al2
 have uE:=afx
 have vE:=afj
 have heq:=Go.Lib.run_eql_iface_int (P:=prog) w (k:=.i64) n m hu (by kernel_rfl:(prog.info? 57).map (·.comparable)=some true) (by kernel_rfl:prog.underlying 57=some (.int .i64))
 by_cases e:n=m
 ·subst e
  simp only [O8] at heq|-;exact aKQ
 ·have e':(n==m)=false:=yP
  simp only [e'] at heq|-;exact aKQ
def acF:List LV->T LV
 | [.v (.iface 57 (.int .i64 n)),.v (.iface 57 (.int .i64 m))]=> .ok (.v (.bool (n==m)))
 |_=> .no
def fJ:VV 220 acF:=λargs vals w Z lv hz hg hok hr h=>by
 unfold acF at h;split at h
 ·rename_i n m
  simp only [T.all] at h;subst h;simp only [RL,R] at hr;obtain ⟨y,ys,e1,rfl,y2,ys2,rfl,rfl,rfl⟩:=hr
  have e2:vals=#[.iface 57 (.int .i64 n),.iface 57 (.int .i64 m)]:=by
   rw [<-j7 (xs:=vals),e1]
  rw [e2];refine (afw n m w).mono λe w' ⟨he,hw⟩=>?_
  subst hw;exact ⟨Below.refl _ _,_,he,trivial,JK⟩
 ·cases h
def aRJ:List LV->T LV
 | [.agg [.v (.int .i64 se),.xl (.int .u8) fl]]=> .ok (HB se fl)
 |_=> .no
def dT:List Bd:=[]
def XF:=vo (S:=aRJ) func97 dT kN (λargs lv h=>by
 unfold aRJ at h;split at h
 ·rename_i se fl
  refine Aj (letI a:=(fl.length:Int);.br (decide (se>=1)) (.br (decide (se<=512)) (.br (decide (a>=se)) (.br (decide (a<=4096)) (.req (se≠0) (.ok (.v (.bool ((a.tmod se)==0))))) (.ok false)) (.ok false)) (.ok false)) (.ok false)) ?_;obtain rfl:=h;unfold HB;refine ⟨λc1=>⟨λc2=>⟨λc3=>⟨λc4=>⟨?_,?_⟩,λc4=>?_⟩,λc3=>?_⟩,λc2=>?_⟩,λc1=>?_⟩
  ·simp at c1;omega
  all_goals refine Ax (λz=>LV.v (.bool z)) ?_
  all_goals first|(simp_all;done) |(simp_all;intros;omega) |(simp_all;omega)
 ·cases h)
def aRl:List LV->T LV
 | [.agg [.v (.int .i64 se),.xl (.int .u8) fl]]=> .ok (FG se fl)
 |_=> .no
def ayD:List Bd:=[XF]
def vI:=vo (S:=aRl) func72 ayD kN (λargs lv h=>by
 unfold aRl at h;split at h
 ·rename_i se fl
  refine Aj (.br (HB se fl) (.req (se≠0) (.req ((2:Int)≠0) (.ok (.v (.bool ((((A9 ((fl.length:Int).tdiv se)).tmod 2)==0)&&(decide ((fl.length:Int)>=32)))))))) (.ok false)) ?_;obtain rfl:=h;unfold FG;refine ⟨λc1=>?_,λc1=>?_⟩
  ·have hv:=NB.1 c1
   refine ⟨A0,Aa,?_⟩;refine Ax (λz=>LV.v (.bool z)) ?_
   rw [c1,AI (x:=(fl.length:Int).tdiv se) (by rw [HM A0];exact PW Aa (SB A0 A0)) (by rw [HM A0];exact PW (V3 _ A0) A0)]
   rfl
  ·refine Ax (λz=>LV.v (.bool z)) ?_
   rw [c1];rfl
 ·cases h)
def aRs:List LV->T LV
 | [.v (.int .u32 n)]=> .ok (.xl (.int .u8) (Cu n))
 |_=> .no
def ahR:=vo (S:=aRs) func199 dT kN (λargs lv h=>by
 unfold aRs at h;split at h
 ·rename_i n
  refine Aj (.ok (.xl (.int .u8) ([(IntKind.u8.wrap (n.fdiv (2^24))),(IntKind.u8.wrap (n.fdiv (2^16))),(IntKind.u8.wrap (n.fdiv (2^8))),(IntKind.u8.wrap n)]))) ?_;exact h
 ·cases h)
def aRc:List LV->T LV
 | [.xl (.int .u8) b]=> .req (4<=b.length) (.ok (.v (.int .u32 (Gb b))))
 |_=> .no
def vG:=vo (S:=aRc) func169 dT kN (λargs lv h=>by
 unfold aRc at h;split at h
 ·rename_i b
  refine Aj (letI a:=(b.length:Int);.req (0<=(0:Int)/\0<a) (.req (0<=(1:Int)/\1<a) (.req (0<=(2:Int)/\2<a) (.req (0<=(3:Int)/\3<a) (.ok (.v (.int .u32 (DO .u32 (DO .u32 (DO .u32 (IntKind.u32.wrap ((IntKind.u32.wrap (gi b (0:Int)))*2^24)) (IntKind.u32.wrap ((IntKind.u32.wrap (gi b (1:Int)))*2^16))) (IntKind.u32.wrap ((IntKind.u32.wrap (gi b (2:Int)))*2^8))) (IntKind.u32.wrap (gi b (3:Int))))))))))) ?_;obtain ⟨h0,rfl⟩:=h;exact ⟨⟨A0,A0⟩,⟨A0,A0⟩,⟨A0,A0⟩,⟨A0,A0⟩,rfl⟩
 ·cases h)
def aSp:List LV->T LV
 | [.agg [.v (.int .i64 se),.xl (.int .u8) fl],.v (.int .i64 w)]=> .req ((w=0\/w=1)/\fl.length<=4096) (.ok (.xl (.int .u8) (BY fl w)))
 |_=> .no
def ue:=vo (S:=aSp) func168 dT kN (λargs lv h=>by
 unfold aSp at h;split at h
 ·rename_i se fl w
  refine Aj (letI a:=(A9 ((fl.length:Int).tdiv 2));letI b:=A9 ((A9 (w+1))*a);letI c:=A9 (w*a);.req ((2:Int)≠0) (.req (0<=c/\c<=b/\b<=(fl.length:Int)/\b=b) (.ok (.xl (.int .u8) ((fl.drop c.toNat).take (b.toNat-c.toNat)))))) ?_;obtain ⟨⟨h0,h1⟩,rfl⟩:=h
  have e1:(fl.length:Int).tdiv 2=((fl.length / 2:Nat):Int):=by rw [HM A0];omega
  have e2:A9 ((fl.length / 2:Nat):Int)=((fl.length / 2:Nat):Int):=AI
  rw [e1,e2];rcases h0 with rfl|rfl
  ·rw [Int.zero_mul,show (0:Int)+1=1 from rfl,show A9 0=0 from rfl,show A9 1=1 from rfl,ZS,e2]
   refine ⟨Aa,⟨A0,A0,A0,rfl⟩,?_⟩;refine Ax (LV.xl (.int .u8)) ?_;rw [Bs];unfold BY;rw [AE rfl];rfl
  ·rw [ZS,show (1:Int)+1=2 from rfl,show A9 2=2 from rfl,e2,AI (x:=2*((fl.length / 2:Nat):Int))]
   refine ⟨Aa,⟨A0,A0,A0,rfl⟩,?_⟩;refine Ax (LV.xl (.int .u8)) ?_;unfold BY;rw [AD Aa,Bs]
   congr 1
   omega
 ·cases h)
def aRR:List LV->T LV
 | [.agg [.v (.int .i64 se),.xl (.int .u8) fl]]=> .req (FG se fl=true) (.tu #[Ak fl,Hi fl])
 |_=> .no
def ayC:List Bd:=[ue,vG]
def aaS := vo (S:=aRR) func167 ayC kN (λargs lv h=>by
 unfold aRR at h;split at h
 ·rename_i se fl
  refine Aj (letI d:=(BY fl (0:Int));letI f:=(BY fl (1:Int));letI b:=((f.drop (1:Int).toNat).take ((5:Int).toNat-(1:Int).toNat));letI c:=((d.drop (1:Int).toNat).take ((5:Int).toNat-(1:Int).toNat));.req (((0:Int)=0\/(0:Int)=1)/\fl.length<=4096) (.req (((1:Int)=0\/(1:Int)=1)/\fl.length<=4096) (.req (0<=(0:Int)/\0<(List.length d:Int)) (.req (0<=(0:Int)/\0<(List.length f:Int)) (.br (((gi d (0:Int))==80)&&((gi f (0:Int))==80)) (.req (0<=(1:Int)/\(1:Int)<=(5:Int)/\(5:Int)<=(List.length f:Int)) (.req (4<=List.length b) (.req (0<=(1:Int)/\(1:Int)<=(5:Int)/\(5:Int)<=(List.length d:Int)) (.req (4<=List.length c) (.br (decide ((Gb b)>(Gb c))) (.tu #[(1:Int),(0:Int)]) (.tu #[(0:Int),(0:Int)])))))) (.br ((gi d (0:Int))==80) (.tu #[(0:Int),(0:Int)]) (.br ((gi f (0:Int))==80) (.tu #[(1:Int),(0:Int)]) (.tu #[(0:Int),(4:Int)])))))))) ?_;obtain ⟨h0,rfl⟩:=h;obtain ⟨_,_,h32,hl,_⟩:=MC.1 h0
  have l0:=bL fl 0
  have l1:=bL fl 1
  have fin:∀a e:Int,a=Ak fl->e=Hi fl->LV.v (.tuple #[.int .i64 a,.int .i64 e])=LV.v (.tuple #[.int .i64 (Ak fl),.int .i64 (Hi fl)]):=λa e h1 h2=>yH
  have ew:∀w,Gb (((BY fl w).drop (1:Int).toNat).take ((5:Int).toNat-(1:Int).toNat))=Iv fl w:=λw=>rfl
  simp only [ew];refine ⟨?_,?_⟩
  ·first|exact ⟨Aa,hl⟩ |omega|decide|(refine ⟨?_,?_⟩<;>omega) |(simp only [G9,DE];omega) |(refine ⟨Aa,Aa,?_⟩;omega)
  ·refine ⟨?_,?_⟩
   ·first|exact ⟨Aa,hl⟩ |omega|decide|(refine ⟨?_,?_⟩<;>omega) |(simp only [G9,DE];omega) |(refine ⟨Aa,Aa,?_⟩;omega)
   ·refine ⟨?_,?_⟩
    ·first|exact ⟨Aa,hl⟩ |omega|decide|(refine ⟨?_,?_⟩<;>omega) |(simp only [G9,DE];omega) |(refine ⟨Aa,Aa,?_⟩;omega)
    ·refine ⟨?_,?_⟩
     ·first|exact ⟨Aa,hl⟩ |omega|decide|(refine ⟨?_,?_⟩<;>omega) |(simp only [G9,DE];omega) |(refine ⟨Aa,Aa,?_⟩;omega)
     ·refine ⟨λc1=>?_,λc1=>?_⟩
      ·refine ⟨?_,?_⟩
       ·first|exact ⟨Aa,hl⟩ |omega|decide|(refine ⟨?_,?_⟩<;>omega) |(simp only [G9,DE];omega) |(refine ⟨Aa,Aa,?_⟩;omega)
       ·refine ⟨?_,?_⟩
        ·first|exact ⟨Aa,hl⟩ |omega|decide|(refine ⟨?_,?_⟩<;>omega) |(simp only [G9,DE];omega) |(refine ⟨Aa,Aa,?_⟩;omega)
        ·refine ⟨?_,?_⟩
         ·first|exact ⟨Aa,hl⟩ |omega|decide|(refine ⟨?_,?_⟩<;>omega) |(simp only [G9,DE];omega) |(refine ⟨Aa,Aa,?_⟩;omega)
         ·refine ⟨?_,?_⟩
          ·first|exact ⟨Aa,hl⟩ |omega|decide|(refine ⟨?_,?_⟩<;>omega) |(simp only [G9,DE];omega) |(refine ⟨Aa,Aa,?_⟩;omega)
          ·refine ⟨λc2=>?_,λc2=>?_⟩
           ·refine fin _ _ ?_ ?_<;>simp_all [Ak,Hi]
           ·refine fin _ _ ?_ ?_<;>simp_all [Ak,Hi]
      ·refine ⟨λc2=>?_,λc2=>?_⟩
       ·refine fin _ _ ?_ ?_<;>simp_all [Ak,Hi]
       ·refine ⟨λc3=>?_,λc3=>?_⟩
        ·refine fin _ _ ?_ ?_<;>simp_all [Ak,Hi]
        ·refine fin _ _ ?_ ?_<;>simp_all [Ak,Hi]
 ·cases h)
structure MU where
 x:Int
 t8:List (List Int)
 (t9 t10:Int)
 l:List Int
 (n i:Int)
def aER:=lN (bN f206 0) 0
def uc (s:MU):T (Rd MU):=
 .br (decide (s.i<s.n)) (.ix s.i (s.l.length) (.nx {s with x:=IntKind.u32.wrap ((aJK .u32 s.x (IntKind.u32.wrap (gi s.l s.i)))*16777619),i:=A9 (s.i+1)})) (.so (.exit 2) s)
def ir (s:MU):Prop:=s.i=0/\s.n<=70000/\s.n=(s.l.length:Int)
def gV (s:MU):Prop:=0<=s.i/\s.i<=s.n/\s.n<=70000/\s.n=(s.l.length:Int)
def rL (s:MU):Nat:=(s.n-s.i).toNat
def acz (x:Ex) (s s':MU):Prop:=True
def aiv:∀s,ir s->gV s:=by
 exact jw
def axI:Da gV rL acz uc:=by
 intro s hI;obtain ⟨h0,h1,h2,h3⟩:=hI;refine AG (λc1=>?_) (λc1=>?_)
 ·have c1:s.i<s.n:=AA
  rw [AI (x:=s.i+1)];exact ⟨⟨AA,AA,h2,h3⟩,by simp only [rL];omega⟩
 ·trivial
def RI:AS MU:=⟨0,28,[3,8,9,10,14,15,16],[],λs=>[.v (.int .u32 s.x),.xl (.sl (.int .u8)) s.t8,s.t9,s.t10,.xl (.int .u8) s.l,s.n,s.i],λ_=>[],λv b=>⟨AK v 0,Az (.sl (.int .u8)) v 1,AK v 2,AK v 3,Az (.int .u8) v 4,AK v 5,AK v 6⟩,uc,λs r=> {s with x:=r.x,i:=r.i},λs=>s,λ_ s=>s,[.exit 2],ir,gV,rL⟩
abbrev aGJ:=RI.run
abbrev as2:=RI.Am
def avg:Rq gV uc:=by
 intro s hI;refine ⟨λc1=>⟨?_,trivial⟩,λ_=>trivial⟩
 ·(obtain ⟨h0,h1,h2,h3⟩:=hI;simp only [AY] at c1;omega)
def dS:List Bd:=[]
def aPp:RI.Ok:={}
def aOC:RI.Pf (acz):=⟨aiv,λs h=>rfl,axI,avg⟩
def aoQ:SA 0 aER RI:=s1 aPp aOC dS kN
def aqU:Rs ir as2 aGJ (λs:MU=>Ru s.x (s.l.drop s.i.toNat)) (λx s' (v:Int)=>x=.exit 2/\s'.x=v):=DL aPp aOC (λs hI=>by
  obtain ⟨h0,h1,h2,h3⟩:=hI;refine AG (λc1=>?_) (λc1=>?_)
  ·have c1:s.i<s.n:=AA
   rw [AI (x:=s.i+1)];rw [(gi_step h0 A0).1];rfl
  ·have c1:s.n<=s.i:=AA
   refine ⟨rfl,?_⟩;rw [EJ A0];rfl)
structure MV where
 x:Int
 l:List (List Int)
 (n i:Int)
def pI:=bN f206 0
def ud (s:MV):T (Rd MV):=
 .br (decide (s.i<s.n)) (.ix s.i (s.l.length) (.req (RI.q (⟨s.x,s.l,s.n,s.i,gx (e:=.sl (.int .u8)) s.l s.i,(List.length (gx (e:=.sl (.int .u8)) s.l s.i):Int),0⟩:MU)) (.nx {s with x:=(aGJ (⟨s.x,s.l,s.n,s.i,gx (e:=.sl (.int .u8)) s.l s.i,(List.length (gx (e:=.sl (.int .u8)) s.l s.i):Int),0⟩:MU)).x,i:=A9 (s.i+1)}))) (.so (.exit 0) s)
def Ho (l:List (List Int)):Prop:=∀p∈l,p.length<=70000
def Wp {l:List (List Int)}(h:Ho l) {i:Int}(h0:0<=i) (h1:i<(l.length:Int)):(gx (e:=.sl (.int .u8)) l i).length<=70000:=by
 have:gx (e:=.sl (.int .u8)) l i=l[i.toNat]' A0:=MO A0
 rw [this];exact h _ (FK _)
def iu (s:MV):Prop:=s.i=0/\s.n<=1000/\s.n=(s.l.length:Int)/\Ho s.l
def Ym (s:MV):Prop:=0<=s.i/\s.i<=s.n/\s.n<=1000/\s.n=(s.l.length:Int)/\Ho s.l
def rM (s:MV):Nat:=(s.n-s.i).toNat
def ad1 (x:Ex) (s s':MV):Prop:=True
def aiw:∀s,iu s->Ym s:=by
 exact Zf
def aQ0 (s:MV) (hI:Ym s) (c1:s.i<s.n):ir (⟨s.x,s.l,s.n,s.i,(gx (e:=.sl (.int .u8)) s.l s.i),(List.length (gx (e:=.sl (.int .u8)) s.l s.i):Int),(0:Int)⟩:MU):=by
 obtain ⟨h0,h1,h2,h3,h4⟩:=hI
 have:=Wp h4 h0 A0
 refine ⟨rfl,?_,rfl⟩
 show ((gx (e:=.sl (.int .u8)) s.l s.i).length:Int)<=70000
 omega
def axJ:Da Ym rM ad1 ud:=by
 intro s hI;obtain ⟨h0,h1,h2,h3,h4⟩:=hI;refine AG (λc1=>?_) (λc1=>trivial)
 have c1:s.i<s.n:=AA
 rw [AI (x:=s.i+1)];exact ⟨⟨AA,AA,h2,h3,h4⟩,by simp only [rM];omega⟩
def RJ:AS MV:=⟨0,28,[3,8,9,10],[],λs=>[.v (.int .u32 s.x),.xl (.sl (.int .u8)) s.l,s.n,s.i],λ_=>[],λv b=>⟨AK v 0,Az (.sl (.int .u8)) v 1,AK v 2,AK v 3⟩,ud,λs r=> {r with l:=s.l,n:=s.n},λs=>s,λ_ s=>s,[.exit 0],iu,Ym,rM⟩
abbrev aFe:=RJ.run
abbrev as3:=RJ.Am
def avh:Rq Ym ud:=by
 intro s hI;refine ⟨λc1=>⟨?_,?_,trivial⟩,λ_=>trivial⟩
 ·exact aL6
 ·exact ⟨aQ0 s hI AA,rfl,rfl⟩
def aPq:RJ.Ok:={}
def aOD:RJ.Pf (ad1):=⟨aiw,λs h=>rfl,axJ,avh⟩
def aoR:SA 0 pI RJ:=AS.snd aPq aOD (mX (Γ:=dS) (K:=Fh) (L:=(λi=>if i=6 then RI.lp else Af i)) (gk dS) kN.h pI (λb hb=>by
 rw [show B6 _=[aER] by rfl] at hb
 simp only [B1,Bv,Bw] at hb;subst hb;exact aoQ)) (λs=>AZ)
def WN {l:List (List Int)}{i:Int}(h0:0<=i) (h:i<(l.length:Int)):l.drop i.toNat=gx (e:=.sl (.int .u8)) l i::l.drop (i+1).toNat:=(Q5 h0 h).1
def aqV:Rs iu as3 aFe (λs:MV=>(s.l.drop s.i.toNat).foldl Ru s.x) (λx s' (v:Int)=>x=.exit 0/\s'.x=v):=DL aPq aOD (λs hI=>by
  have hin:=λc1=>aQ0 s hI c1
  obtain ⟨h0,h1,h2,h3,h4⟩:=hI;refine AG (λc1=>?_) (λc1=>?_)
  ·have c1:s.i<s.n:=AA
   rw [AI (x:=s.i+1)]
   have hr:=(aqU _ (hin c1)).2
   rw [hr,WN h0 A0];rfl
  ·have c1:s.n<=s.i:=AA
   refine ⟨rfl,?_⟩;rw [EJ A0];rfl)
def aSl:List LV->T LV
 | [.xl (.sl (.int .u8)) ps]=> .req (ps.length<=1000/\Ho ps) (.ok (.v (.int .u32 (On ps))))
 |_=> .no
def vK:=vm (S:=aSl) func206 dS kN (L:=(λi=>if i=3 then RJ.lp else Af i)) (λb hb=>by
 rw [show B6 _=[pI] by rfl] at hb
 simp only [B1,Bv,Bw] at hb;subst hb;exact aoR) (λargs lv h=>by
 unfold aSl at h;split at h
 ·rename_i ps
  refine Aj (.req (RJ.q (⟨2166136261,ps,(ps.length:Int),0⟩:MV)) (.ok (.v (.int .u32 (aFe (⟨2166136261,ps,(ps.length:Int),0⟩:MV)).x)))) ?_;obtain ⟨⟨h0,h1⟩,rfl⟩:=h
  have hE:iu ⟨2166136261,ps,(ps.length:Int),0⟩:=⟨rfl,AA,rfl,h1⟩
  obtain ⟨q1,q2⟩:=aqV _ hE;refine ⟨⟨hE,rfl,rfl⟩,?_⟩;refine Ax (λz=>LV.v (.int .u32 z)) ?_
  exact q2
 ·cases h)
def agy:List LV->T LV:=λ_=> .no
def aIv:VV 1000034 agy:=by
 exact xN
def aRX:List LV->T LV
 | [.xl (.int .u8) d]=> .req (d.length<=70000) (.ok (.xl (.int .u8) (Bb d)))
 |_=> .no
def ayB:List Bd:=[ahR,vK,aIv]
def vF:=vo (S:=aRX) func192 ayB kN (λargs lv h=>by
 unfold aRX at h;split at h
 ·rename_i d
  refine Aj (letI a:=(IntKind.u8.wrap ((d.length:Int).fdiv (2^8)));letI b:=(IntKind.u8.wrap (d.length:Int));letI c:=(Cu (On ([(([a,b]).drop 0).take 2,d])));.req (0+2<=List.length ([a,b])) (.ra 1 (List.length ([(80:Int)])) (1+List.length ((([a,b]).drop 0).take 2)) 1 (.req (0+2<=List.length ([a,b])) (.req (List.length ([(([a,b]).drop 0).take 2,d])<=1000/\Ho ([(([a,b]).drop 0).take 2,d])) (.ra (1+List.length ((([a,b]).drop 0).take 2)) (List.length (([(80:Int)])++((([a,b]).drop 0).take 2))) (1+List.length ((([a,b]).drop 0).take 2)+List.length c) 1 (.ra (1+List.length ((([a,b]).drop 0).take 2)+List.length c) (List.length ((([(80:Int)])++((([a,b]).drop 0).take 2))++c)) (1+List.length ((([a,b]).drop 0).take 2)+List.length c+d.length) 1 (.req (0+(1+List.length ((([a,b]).drop 0).take 2)+List.length c+d.length)<=List.length (((([(80:Int)])++((([a,b]).drop 0).take 2))++c)++d)) (.ok (.xl (.int .u8) (((((([(80:Int)])++((([a,b]).drop 0).take 2))++c)++d).drop 0).take (1+List.length ((([a,b]).drop 0).take 2)+List.length c+d.length))))))))))) ?_;obtain ⟨h0,rfl⟩:=h
  have e:(([(IntKind.u8.wrap ((d.length:Int).fdiv (2^8))),(IntKind.u8.wrap (d.length:Int))].drop 0).take 2)=Ji d:=rfl
  have e2:(Ji d).length=2:=rfl
  have e4:∀n,(Cu n).length=4:=λ_=>rfl
  simp only [e]
  have hk:Ho [Ji d,d]:=by
   intro p hp;simp only [B1,Bv,Bw] at hp;rcases hp with rfl|rfl
   ·rw [e2];omega
   ·exact h0
  iterate 7 refine ⟨AA,?_⟩
  refine Ax (LV.xl (.int .u8)) ?_;rw [D3 AA];rfl
 ·cases h)
def aE8 {b:List Int}:∀ {n m f:Nat},b.length<=n+f->b.length<=m+f->H8 b n f=H8 b m f
 |0,0,_,_,_=>rfl
 |0,m+1,f,h,_=>aN0
 |n+1,0,f,_,h=>aN0
 |n+1,m+1,f,h1,h2=>by
  simp only [H8];rw [aE8 (n:=n) (m:=m) (f:=f+7+Fq b f) A0 A0]
def J9 (b:List Int) (f:Nat):List (List Int)×Nat×Bool:=H8 b b.length f
def Wo (b:List Int) (f:Nat):J9 b f=if f<b.length/\gi b (f:Int)=80 then (if Lt b f then (Gw b f::(J9 b (f+7+Fq b f)).1,(J9 b (f+7+Fq b f)).2) else ([],f,false)) else ([],f,true):=by
 unfold J9;rw [aE8 (n:=b.length) (m:=b.length+1) (f:=f) A0 A0];rfl
def vR:Array Tmp×Code×Code:=((Ia (f124.body.getD .skip))[0]?).getD (#[],.skip,.skip)
def aiX:Array Tmp:=vR.1
def ajX:Code:=vR.2.1
def ajP:Code:=vR.2.2
structure FZ where
 (from_ HU:Int)
 HV:List Int
 (OU OI Oj:Int)
 OS:Bool
 (b2 cG aq Dy:Int)
 bh:Bool
 b:List Int
 rs:List (List Int)
 st:LS
def lkS (s:FZ):List Int:=((s.b.drop (A9 (s.from_+1)).toNat).take ((A9 (s.from_+3)).toNat-(A9 (s.from_+1)).toNat))
def EZ (s:FZ):Int:=(A9 ((A9 ((A9 (s.from_+7))+(A9 ((A9 (gi (lkS s) (0:Int)))*2^8))))+(A9 (gi (lkS s) (1:Int)))))
def lkP (s:FZ):List (List Int):=([(s.b.drop (A9 (s.from_+1)).toNat).take ((A9 (s.from_+3)).toNat-(A9 (s.from_+1)).toNat),(s.b.drop (A9 (s.from_+7)).toNat).take ((EZ s).toNat-(A9 (s.from_+7)).toNat)])
def lkH (s:FZ):List Int:=((s.b.drop (A9 (s.from_+3)).toNat).take ((A9 (s.from_+7)).toNat-(A9 (s.from_+3)).toNat))
def KY (s:FZ):List Int:=((s.b.drop (A9 (s.from_+7)).toNat).take ((EZ s).toNat-(A9 (s.from_+7)).toNat))
def PG (s:FZ):T (Rd FZ):=letI a:=(s.rs++([((([]:List Int)++([]:List Int)).drop 0).take (0+List.length ([]:List Int))]));letI c:=(s.rs.length+List.length ([((([]:List Int)++([]:List Int)).drop 0).take (0+List.length ([]:List Int))]));letI d:=(s.rs++([((([]:List Int)++(KY s)).drop 0).take (0+List.length (KY s))]));letI e:=(s.b.length:Int);letI f:=(List.length ([((([]:List Int)++([]:List Int)).drop 0).take (0+List.length ([]:List Int))]));letI g:=(s.rs.length+List.length ([((([]:List Int)++(KY s)).drop 0).take (0+List.length (KY s))]));letI h:=A9 (s.from_+7);letI i:=(List.length ([]:List Int));letI j:=A9 (s.from_+3);letI k:=(On (lkP s))==(Gb (lkH s));letI l:=(List.length (lkS s):Int);letI m:=s.rs.length;.br (decide (s.from_<e)) (.ix s.from_ (s.b.length) (.br ((gi s.b s.from_)==80) (.br (decide (h<=e)) (.req (0<=(A9 (s.from_+1))/\(A9 (s.from_+1))<=j/\j<=e) (.req (0<=(0:Int)/\0<l) (.req (0<=(1:Int)/\1<l) (.br (decide ((EZ s)<=e)) (.req (0<=h/\h<=(EZ s)/\(EZ s)<=e/\(EZ s)=(EZ s)) (.req (0<=j/\j<=h/\h<=e) (.req (List.length (lkP s)<=1000/\Ho (lkP s)) (.req (4<=List.length (lkH s)) (.br (! k) (.rl s.rs (.so (.ret) {s with OU:=(0:Int),OI:=(0:Int),Oj:=(0:Int),OS:=false,b2:=(11:Int),st:=.done (.ret)})) (.ra 0 i (0+List.length (KY s)) 1 (.req (0+(0+List.length (KY s))<=List.length (([]:List Int)++(KY s))) (.rb m (List.length ([((([]:List Int)++(KY s)).drop 0).take (0+List.length (KY s))])) 24 (.br (! k) (.re g d (.so (.ret) {s with Dy:=EZ s,rs:=d})) (.re g d (.nx {s with from_:=EZ s,Dy:=EZ s,rs:=d}))))))))))) (.br (!false) (.rl s.rs (.so (.ret) {s with OU:=(0:Int),OI:=(0:Int),Oj:=(0:Int),OS:=false,b2:=(11:Int),st:=.done (.ret)})) (.ra 0 i (0+List.length ([]:List Int)) 1 (.req (0+(0+List.length ([]:List Int))<=List.length (([]:List Int)++([]:List Int))) (.rb m f 24 (.br (!false) (.re c a (.so (.ret) {s with Dy:=e,rs:=a})) (.re c a (.nx {s with from_:=e,Dy:=e,rs:=a}))))))))))) (.br (!false) (.rl s.rs (.so (.ret) {s with OU:=(0:Int),OI:=(0:Int),Oj:=(0:Int),OS:=false,b2:=(11:Int),st:=.done (.ret)})) (.ra 0 i (0+List.length ([]:List Int)) 1 (.req (0+(0+List.length ([]:List Int))<=List.length (([]:List Int)++([]:List Int))) (.rb m f 24 (.br (!false) (.re c a (.so (.ret) {s with Dy:=e,rs:=a})) (.re c a (.nx {s with from_:=e,Dy:=e,rs:=a})))))))) (.rl s.rs (.so (.exit 0) s)))) (.rl s.rs (.so (.exit 0) s))
def yr {b:List Int}(h:BE b) (i:Int):0<=gi b i/\gi b i<=255:=by
 unfold gi;rw [Cx];cases e:b[i.toNat]? with
 |none=>decide
 |some x=>exact h x (PZ e)
def aaw {b:List Int}{m n k:Nat}(h:k<n):gi ((b.drop m).take n) (k:Int)=gi b ((m+k:Nat):Int):=by
 unfold gi
 grind
def La (s:FZ) (hb:BE s.b) (h0:0<=s.from_) (h7:s.from_+7<=(s.b.length:Int)) (hl:s.b.length<=4096):
  EZ s=s.from_+7+Fq s.b s.from_.toNat/\(lkS s).length=2/\lkH s=(s.b.drop (s.from_.toNat+3)).take 4/\KY s=Gw s.b s.from_.toNat/\lkP s=[(s.b.drop (s.from_.toNat+1)).take 2,Gw s.b s.from_.toNat]:=by
 obtain ⟨f,hf⟩:=PX h0
 have w1:A9 (s.from_+1)=s.from_+1:=AI
 have w3:A9 (s.from_+3)=s.from_+3:=AI
 have w7:A9 (s.from_+7)=s.from_+7:=AI
 have t1:(s.from_+1).toNat=f+1:=A0
 have t3:(s.from_+3).toNat=f+3:=A0
 have t7:(s.from_+7).toNat=f+7:=A0
 have tf:s.from_.toNat=f:=A0
 have eS:lkS s=(s.b.drop (f+1)).take 2:=by
  unfold lkS;rw [w1,w3,t1,t3,show f+3-(f+1)=2 by omega]
 have b1:=yr hb ((f+1:Nat):Int)
 have b2:=yr hb ((f+2:Nat):Int)
 have g0:gi (lkS s) (0:Int)=gi s.b ((f+1:Nat):Int):=by rw [eS];exact aaw (k:=0) Aa
 have g1:gi (lkS s) (1:Int)=gi s.b ((f+2:Nat):Int):=by rw [eS];exact aaw (k:=1) Aa
 have hN:Fq s.b f=(gi s.b ((f+1:Nat):Int)).toNat*256+(gi s.b ((f+2:Nat):Int)).toNat:=rfl
 have eT:EZ s=s.from_+7+Fq s.b f:=by
  unfold EZ;rw [g0,g1,w7,AI (x:=gi s.b ((f+1:Nat):Int)),AI (x:=gi s.b ((f+1:Nat):Int)*2^8),AI (x:=gi s.b ((f+2:Nat):Int)),AI (x:=s.from_+7+gi s.b ((f+1:Nat):Int)*2^8),AI];omega
 have eD:(s.b.drop (A9 (s.from_+7)).toNat).take ((EZ s).toNat-(A9 (s.from_+7)).toNat)=Gw s.b f:=by
  unfold Gw;rw [eT,w7,t7,show (s.from_+7+(Fq s.b f:Int)).toNat-(f+7)=Fq s.b f by omega]
 rw [tf];refine ⟨eT,by rw [eS];simp only [G9,DE];omega,?_,eD,?_⟩
 ·unfold lkH
  rw [w3,w7,t3,t7,show f+7-(f+3)=4 by omega]
 ·unfold lkP
  rw [eD,w1,w3,t1,t3,show f+3-(f+1)=2 by omega]
def aJX (s:FZ) (hb:BE s.b) (h0:0<=s.from_) (h7:s.from_+7<=(s.b.length:Int)) (hl:s.b.length<=4096) (hT:EZ s<=(s.b.length:Int)):Lt s.b s.from_.toNat=(On (lkP s)==Gb (lkH s)):=by
 obtain ⟨e1,e2,e3,e4,e5⟩:=La s hb h0 h7 hl;unfold Lt rcF;rw [e3,e5,Cs (p:=s.from_.toNat+7<=s.b.length) A0,Cs (p:=s.from_.toNat+7+Fq s.b s.from_.toNat<=s.b.length) A0];rfl
def aJY (s:FZ) (h0:0<=s.from_) (hl:s.b.length<=4096) (h:(s.b.length:Int)<s.from_+7\/(s.b.length:Int)<s.from_+7+Fq s.b s.from_.toNat):Lt s.b s.from_.toNat=false:=by
 unfold Lt rcF
 by_cases h1:s.from_.toNat+7<=s.b.length
 ·rw [I1 (p:=s.from_.toNat+7+Fq s.b s.from_.toNat<=s.b.length) A0,S7]
  rfl
 ·rw [I1 (p:=s.from_.toNat+7<=s.b.length) h1]
  rfl
def aqx (fx:Ex->FZ->FZ) (hr:∀s',fx .ret s'={s' with st:=.done .ret}) (h0:∀s',fx (.exit 0) s'={s' with st:=.ready}) (s:FZ) (h:s.st=.ready):CM (λ_=>True) (λx s'=>fx x s'=s') ((PG s).rd s):=by
 obtain ⟨from_,HU,HV,OU,OI,Oj,OS,b2,cG,aq,Dy,bh,b,rs,st⟩:=s;subst h;unfold PG;dsimp only [T.rd,T.rl,T.rv];refine AG (λc1=>?_) (λc1=>?_)
 ·refine AG (λc2=>?_) (λc2=>?_)
  ·refine AG (λc3=>?_) (λc3=>?_)
   ·refine AG (λc4=>?_) (λc4=>?_)
    ·refine AG (λc5=>?_) (λc5=>?_)
     ·exact hr _
     ·refine AG (λc6=>?_) (λc6=>?_)
      ·grind
      ·trivial
    ·refine AG (λc5=>?_) (λc5=>?_)
     ·exact hr _
     ·refine AG (λc6=>?_) (λc6=>?_)
      ·grind
      ·grind
   ·refine AG (λc4=>?_) (λc4=>?_)
    ·exact hr _
    ·refine AG (λc5=>?_) (λc5=>?_)
     ·grind
     ·grind
  ·exact h0 _
 ·exact h0 _
def lr (s:FZ):Prop:=s.st=.ready/\5<=s.from_/\s.from_<=(s.b.length:Int)/\s.b.length<=4096/\BE s.b/\s.Dy=s.from_/\(s.rs.length:Int)<=s.from_
def lQ (s:FZ):Prop:=s.st=.ready/\5<=s.from_/\s.from_<=(s.b.length:Int)/\s.b.length<=4096/\BE s.b/\s.Dy=s.from_/\(s.rs.length:Int)<=s.from_
def yo (s:FZ):Nat:=((s.b.length:Int)-s.from_).toNat
def aJu (x:Ex) (s s':FZ):Prop:=True
def alV:∀s,lr s->lQ s:=by
 exact λs h=>h
def ajO:Da lQ yo aJu PG:=by
 intro s hI;unfold PG;dsimp only [T.rd,T.rl,T.rv];refine AG (λc1=>?_) (λc1=>?_)
 ·refine AG (λc2=>?_) (λc2=>?_)
  ·refine AG (λc3=>?_) (λc3=>?_)
   ·refine AG (λc4=>?_) (λc4=>?_)
    ·refine AG (λc5=>?_) (λc5=>?_)
     ·trivial
     ·refine AG (λc6=>?_) (λc6=>?_)
      ·grind
      ·obtain ⟨ht,h5,hl,h4,hb,he,hr⟩:=hI
       have w7:A9 (s.from_+7)=s.from_+7:=AI
       have c3:s.from_+7<=(s.b.length:Int):=AA
       have c4:=De c4
       obtain ⟨e1,e2,e3,e4,e5⟩:=La s hb A0 c3 h4;refine ⟨⟨ht,AA,c4,h4,hb,rfl,?_⟩,?_⟩
       ·grind
       ·simp only [yo];omega
    ·refine AG (λc5=>?_) (λc5=>?_)
     ·trivial
     ·refine AG (λc6=>?_) (λc6=>?_)
      ·grind
      ·grind
   ·refine AG (λc4=>?_) (λc4=>?_)
    ·trivial
    ·refine AG (λc5=>?_) (λc5=>?_)
     ·grind
     ·grind
  ·trivial
 ·trivial
def Rz:AS FZ:=⟨6,83,[0,1,3],[.nc 3 2 34 (.sl (.int .u8))],λs=>[.CN 5,.own 4 0,s.from_],λs=>[⟨[s.HU,.xl (.int .u8) s.HV],36,.cl,false⟩,⟨[s.OU,.v (.int .u32 s.OI),.v (.slice none 0 0),s.Oj,s.OS],247,.cl,false⟩,⟨[s.b2],57,.cl,false⟩,⟨[s.cG,.v (.int .u32 s.aq),.os 6 1 0 (s.rs.length),s.Dy,s.bh],247,.cl,false⟩,⟨[.xl (.int .u8) s.b],34,.cl,false⟩,⟨[.junk,.junk,.own 1 0,.own 2 0,.junk,.junk,.junk,.own 3 0,.v (.tuple #[]),.junk,.junk,.junk,.junk,.junk,.junk,.junk,.junk,.junk,.junk,.junk,.junk,.junk,.junk,.junk,.junk,.junk,.junk,.junk,.junk,.junk,.junk,.junk,.junk,.junk,.v (.tuple #[]),.v (.tuple #[]),.v (.tuple #[]),.v (.tuple #[]),.v (.tuple #[]),.v (.tuple #[]),.v (.tuple #[]),.v (.tuple #[]),.v (.tuple #[]),.v (.tuple #[]),.v (.tuple #[]),.v (.tuple #[]),.v (.tuple #[]),.v (.tuple #[]),.v (.tuple #[]),.v (.tuple #[]),.v (.tuple #[]),.junk,.junk,.junk,.junk,.junk,.junk,.junk,.junk,.junk,.junk,.junk,.junk,.junk,.junk,.junk,.junk,.junk,.junk],0,.Cc aiX ajX ajP s.st,false⟩,⟨[],34,.vec (.sl (.int .u8)) s.rs,false⟩],λv b=>⟨AK v 2,Ae b 0 0,AF (.int .u8) b 0 1,Ae b 1 0,Ae b 1 1,Ae b 1 3,Kg b 1 4,Ae b 2 0,Ae b 3 0,Ae b 3 1,Ae b 3 3,Kg b 3 4,AF (.int .u8) b 4 0,Ab (.sl (.int .u8)) b 6,.ready⟩,PG,λs r=> {r with HU:=s.HU,HV:=s.HV,cG:=s.cG,aq:=s.aq,bh:=s.bh,b:=s.b},λs=> {s with st:=.ready},λx s=> {s with st:=(match x with| .ret=>(.done (.ret)) | .exit 0=> .ready|_=> .ready)},[.ret,.exit 0],lr,lQ,yo⟩
abbrev GD:=Rz.run
abbrev aR4:=Rz.Am
def uN:List Bd:=[vI,aaS,ue,vG,vK]
def ayP:As:=kI uN (l0 uN)
def aiP:Rq lQ PG:=by
 intro s hI;refine ⟨λc1=>⟨?_,λc2=>⟨λc3=>⟨?_,?_,?_,λc4=>⟨?_,?_,?_,?_,λc5=>⟨A8,trivial⟩,λc5=>⟨?_,?_,?_,λc6=>⟨?_,trivial⟩,λc6=>⟨?_,trivial⟩⟩⟩,λc4=>⟨λc7=>⟨A8,trivial⟩,λc7=>⟨?_,?_,?_,λc8=>⟨?_,trivial⟩,λc8=>⟨?_,trivial⟩⟩⟩⟩,λc3=>⟨λc9=>⟨A8,trivial⟩,λc9=>⟨?_,?_,?_,λc10=>⟨?_,trivial⟩,λc10=>⟨?_,trivial⟩⟩⟩⟩,λc2=>⟨A8,trivial⟩⟩,λc1=>⟨A8,trivial⟩⟩
 ·(obtain ⟨ht,h5,hl,h4,hb,he,hr⟩:=hI;have w7:A9 (s.from_+7)=s.from_+7:=AI;have w1:A9 (s.from_+1)=s.from_+1:=AI;have w3:A9 (s.from_+3)=s.from_+3:=AI;simp only [AY] at c1;omega)
 iterate 3 · (obtain ⟨ht,h5,hl,h4,hb,he,hr⟩:=hI;have w7:A9 (s.from_+7)=s.from_+7:=AI;have w1:A9 (s.from_+1)=s.from_+1:=AI;have w3:A9 (s.from_+3)=s.from_+3:=AI;have k3:s.from_+7<=(s.b.length:Int):=OF;obtain ⟨e1,e2,e3,e4,e5⟩:=La s hb A0 k3 h4;(first|omega|(rw [w1,w3];omega) |(rw [w3,w7];omega)))
 iterate 2 · (obtain ⟨ht,h5,hl,h4,hb,he,hr⟩:=hI;have w7:A9 (s.from_+7)=s.from_+7:=AI;have w1:A9 (s.from_+1)=s.from_+1:=AI;have w3:A9 (s.from_+3)=s.from_+3:=AI;have k3:s.from_+7<=(s.b.length:Int):=OF;obtain ⟨e1,e2,e3,e4,e5⟩:=La s hb A0 k3 h4;have k4:EZ s<=(s.b.length:Int):=De c4;have hD:(Gw s.b s.from_.toNat).length<=4096:=aA;(first|omega|(rw [w1,w3];omega) |(rw [w3,w7];omega) |(rw [w7];exact ⟨A0,A0,k4,rfl⟩)))
 ·(obtain ⟨ht,h5,hl,h4,hb,he,hr⟩:=hI;have w7:A9 (s.from_+7)=s.from_+7:=AI;have w1:A9 (s.from_+1)=s.from_+1:=AI;have w3:A9 (s.from_+3)=s.from_+3:=AI;have k3:s.from_+7<=(s.b.length:Int):=OF;obtain ⟨e1,e2,e3,e4,e5⟩:=La s hb A0 k3 h4;have k4:EZ s<=(s.b.length:Int):=De c4;have hD:(Gw s.b s.from_.toNat).length<=4096:=aA;rw [e5];refine ⟨AJ,λp hp=>?_⟩;simp only [B1,Bv,Bw] at hp;rcases hp with rfl|rfl;(first|(simp only [G9,DE];omega) |omega);omega)
 ·(obtain ⟨ht,h5,hl,h4,hb,he,hr⟩:=hI;have w7:A9 (s.from_+7)=s.from_+7:=AI;have w1:A9 (s.from_+1)=s.from_+1:=AI;have w3:A9 (s.from_+3)=s.from_+3:=AI;have k3:s.from_+7<=(s.b.length:Int):=OF;obtain ⟨e1,e2,e3,e4,e5⟩:=La s hb A0 k3 h4;have k4:EZ s<=(s.b.length:Int):=De c4;have hD:(Gw s.b s.from_.toNat).length<=4096:=aA;rw [e3];simp only [G9,DE];omega)
 ·(obtain ⟨ht,h5,hl,h4,hb,he,hr⟩:=hI;have w7:A9 (s.from_+7)=s.from_+7:=AI;have w1:A9 (s.from_+1)=s.from_+1:=AI;have w3:A9 (s.from_+3)=s.from_+3:=AI;have k3:s.from_+7<=(s.b.length:Int):=OF;obtain ⟨e1,e2,e3,e4,e5⟩:=La s hb A0 k3 h4;have k4:EZ s<=(s.b.length:Int):=De c4;have hD:(Gw s.b s.from_.toNat).length<=4096:=aA;rw [e4];simp only [B0,BX,Bh,E9];try omega)
 ·grind
 iterate 3 · (obtain ⟨ht,h5,hl,h4,hb,he,hr⟩:=hI;have w7:A9 (s.from_+7)=s.from_+7:=AI;have w1:A9 (s.from_+1)=s.from_+1:=AI;have w3:A9 (s.from_+3)=s.from_+3:=AI;have k3:s.from_+7<=(s.b.length:Int):=OF;obtain ⟨e1,e2,e3,e4,e5⟩:=La s hb A0 k3 h4;have k4:EZ s<=(s.b.length:Int):=De c4;have hD:(Gw s.b s.from_.toNat).length<=4096:=aA;rw [e4];simp only [B0,BX,Bh,E9];try omega)
 iterate 5 · exact absurd c7 Aa
 iterate 5 · exact absurd c9 Aa
def ab2:Rz.Ok:=⟨λs=>Bt,λs _=>aqx Rz.fx (λ_=>rfl) (λ_=>rfl) (Rz.rd s) rfl,λs=>rfl,λs t r=>rfl,λs=>rfl,λs=>Bt⟩
def abZ:Rz.Pf (aJu):=⟨alV,λs h=>by
 obtain ⟨from_,HU,HV,OU,OI,Oj,OS,b2,cG,aq,Dy,bh,b,rs,st⟩:=s
 have e:=h.1
 subst e;rfl,ajO,aiP⟩
def aua:=s2 (b:=bN f205 0) ab2 abZ uN ayP
def axe:Rs lr aR4 GD (λs:FZ=>(s.rs++(J9 s.b s.from_.toNat).1,(J9 s.b s.from_.toNat).2.1,(J9 s.b s.from_.toNat).2.2)) (λx s' (v:List (List Int)×Nat×Bool)=>(x=.exit 0/\s'.rs=v.1/\s'.Dy=(v.2.1:Int)/\v.2.2=true)\/(x=.ret/\v.2.2=false/\s'.b2=11/\s'.OU=0/\s'.OI=0/\s'.Oj=0/\s'.OS=false)):=DL ab2 abZ (λs hI=>by
  show CM _ _ ((PG s).rd s)
  unfold PG;dsimp only [T.rd,T.rl];refine AG (λc1=>?_) (λc1=>?_)
  ·refine AG (λc2=>?_) (λc2=>?_)
   ·refine AG (λc3=>?_) (λc3=>?_)
    ·refine AG (λc4=>?_) (λc4=>?_)
     ·refine AG (λc5=>?_) (λc5=>?_)
      ·obtain ⟨ht,h5,hl,h4,hb,he,hr⟩:=hI
       have w7:A9 (s.from_+7)=s.from_+7:=AI
       have hq:=Wo s.b s.from_.toNat
       rw [BQ A0] at hq;rw [AE ⟨kJ,D8⟩] at hq
       have k3:s.from_+7<=(s.b.length:Int):=OF
       obtain ⟨e1,e2,e3,e4,e5⟩:=La s hb A0 k3 h4
       have hg:=aJX s hb A0 k3 h4 (De c4)
       have hg:Lt s.b s.from_.toNat=false:=aN7
       exact xG
      ·refine AG (λc6=>?_) (λc6=>?_)
       ·exact absurd (c5.symm.trans c6) Aa
       ·obtain ⟨ht,h5,hl,h4,hb,he,hr⟩:=hI
        have w7:A9 (s.from_+7)=s.from_+7:=AI
        have hq:=Wo s.b s.from_.toNat
        rw [BQ A0] at hq;rw [AE ⟨kJ,D8⟩] at hq
        have k3:s.from_+7<=(s.b.length:Int):=OF
        obtain ⟨e1,e2,e3,e4,e5⟩:=La s hb A0 k3 h4
        have hg:=aJX s hb A0 k3 h4 (De c4)
        have hg:Lt s.b s.from_.toNat=true:=aN7
        rw [AE hg] at hq
        have et:(EZ s).toNat=s.from_.toNat+7+Fq s.b s.from_.toNat:=A0
        have ed:((([]:List Int)++KY s).drop 0).take (0+List.length (KY s))=Gw s.b s.from_.toNat:=by
         rw [e4,Di,CJ,EK];exact D3 (At _)
        show (s.rs++[_]++(J9 s.b (EZ s).toNat).1,(J9 s.b (EZ s).toNat).2.1,(J9 s.b (EZ s).toNat).2.2)=(s.rs++(J9 s.b s.from_.toNat).1,(J9 s.b s.from_.toNat).2.1,(J9 s.b s.from_.toNat).2.2)
        rw [ed,et,hq];simp only [CZ,I5,Di]
     ·refine AG (λc5=>?_) (λc5=>?_)
      ·obtain ⟨ht,h5,hl,h4,hb,he,hr⟩:=hI
       have w7:A9 (s.from_+7)=s.from_+7:=AI
       have hq:=Wo s.b s.from_.toNat
       rw [BQ A0] at hq;rw [AE ⟨kJ,D8⟩] at hq
       have k3:s.from_+7<=(s.b.length:Int):=OF
       obtain ⟨e1,e2,e3,e4,e5⟩:=La s hb A0 k3 h4
       have hg:=aJY s A0 h4 (.inr (by have:=JF c4;omega))
       exact xG
      ·refine AG (λc6=>?_) (λc6=>?_)
       ·exact absurd c5 Aa
       ·exact absurd c5 Aa
    ·refine AG (λc4=>?_) (λc4=>?_)
     ·obtain ⟨ht,h5,hl,h4,hb,he,hr⟩:=hI
      have w7:A9 (s.from_+7)=s.from_+7:=AI
      have hq:=Wo s.b s.from_.toNat
      rw [BQ A0] at hq;rw [AE ⟨kJ,D8⟩] at hq
      have hg:=aJY s A0 h4 (.inl (by rw [w7] at c3;have:=JF c3;omega))
      exact xG
     ·refine AG (λc5=>?_) (λc5=>?_)
      ·exact absurd c4 Aa
      ·exact absurd c4 Aa
   ·obtain ⟨ht,h5,hl,h4,hb,he,hr⟩:=hI
    have hq:=Wo s.b s.from_.toNat
    rw [BQ A0] at hq;rw [AD AA] at hq;rw [hq];exact .inl ⟨rfl,(FJ _).symm,AP,rfl⟩
  ·obtain ⟨ht,h5,hl,h4,hb,he,hr⟩:=hI
   have hq:=Wo s.b s.from_.toNat
   rw [BQ A0] at hq;rw [AD AA] at hq;rw [hq];exact .inl ⟨rfl,(FJ _).symm,AP,rfl⟩)
structure Ml where
 l:List Int
 (n i qT aB7 tw:Int)
 pM:Bool
 (b1 Wq Vh UO:Int)
 Il:Bool
 rs:List (List Int)
def aIL:=bN f124 0
def aAb (s:Ml):T (Rd Ml):=
 .br (decide (s.i<s.n)) (.ix s.i (s.l.length) (.br s.Il (.rl s.rs (.nx {s with i:=A9 (s.i+1),Il:=((gi s.l s.i)==255)})) (.rl s.rs (.nx {s with i:=A9 (s.i+1),Il:=false})))) (.rl s.rs (.so (.exit 2) s))
def lz (s:Ml):Prop:=s.i=0/\s.n<=4096/\s.n=(s.l.length:Int)
def lY (s:Ml):Prop:=0<=s.i/\s.i<=s.n/\s.n<=4096/\s.n=(s.l.length:Int)
def uT (s:Ml):Nat:=(s.n-s.i).toNat
def aJv (x:Ex) (s s':Ml):Prop:=True
def alY:∀s,lz s->lY s:=by
 exact jw
def air:Da lY uT aJv aAb:=by
 intro s hI;obtain ⟨h0,h1,h2,h3⟩:=hI;refine AG (λc1=>?_) (λc1=>?_)
 ·refine AG (λc2=>?_) (λc2=>?_)
  ·exact aKR
  ·exact aKR
 ·trivial
def S0:AS Ml:=⟨0,69,[2,3,7,54,55,56],[],λs=>[.own 0 0,.own 1 0,.own 2 0,.xl (.int .u8) s.l,s.n,s.i],λs=>[⟨[s.qT,.v (.int .u32 s.aB7),.v (.slice none 0 0),s.tw,s.pM],247,.cl,false⟩,⟨[s.b1],57,.cl,false⟩,⟨[s.Wq,.v (.int .u32 s.Vh),.os 3 1 0 (s.rs.length),s.UO,s.Il],247,.cl,false⟩,⟨[],34,.vec (.sl (.int .u8)) s.rs,false⟩],λv b=>⟨Az (.int .u8) v 3,AK v 4,AK v 5,Ae b 0 0,Ae b 0 1,Ae b 0 3,Kg b 0 4,Ae b 1 0,Ae b 2 0,Ae b 2 1,Ae b 2 3,Kg b 2 4,Ab (.sl (.int .u8)) b 3⟩,aAb,λs r=> {s with i:=r.i,Il:=r.Il},λs=>s,λ_ s=>s,[.exit 2],lz,lY,uT⟩
abbrev qt:=S0.run
abbrev azn:=S0.Am
def aiR:Rq lY aAb:=by
 exact aKv
def dQ:List Bd:=[vI,aaS,ue,vG,vK]
def aQj:As:=kI dQ (la 1 func205 aua (l0 dQ))
def ab4:S0.Ok:={}
def abd:S0.Pf (aJv):=⟨alY,λs h=>rfl,air,aiR⟩
def aub:SA 0 aIL S0:=s1 ab4 abd dQ aQj
def axG:Rs lz azn qt (λs:Ml=>s.Il&&(s.l.drop s.i.toNat).all (λb=>b==255)) (λx s' (v:Bool)=>x=.exit 2/\s'.Il=v):=DL ab4 abd (λs hI=>by
  obtain ⟨h0,h1,h2,h3⟩:=hI;refine AG (λc1=>AG (λc2=>?_) (λc2=>?_)) (λc1=>?_)
  ·have c1:s.i<s.n:=AA
   rw [AI (x:=s.i+1)]
   show (_&&_)=(_&&_)
   rw [(gi_step h0 A0).1,IT,c2,Dj]
  ·have c1:s.i<s.n:=AA
   rw [c2];rfl
  ·have c1:s.n<=s.i:=AA
   refine ⟨rfl,?_⟩;rw [EJ A0];exact (jK _).symm)
def tG {b:List Int}:∀ {n f:Nat},f<=b.length->(H8 b n f).2.1<=b.length
 |0,_,h=>h
 | n+1,f,h=>by
  simp only [H8];split
  ·split
   ·rename_i hg
    unfold Lt rcF at hg;simp only [AU,AY] at hg;exact tG (n:=n) hg.1.2
   ·exact h
  ·exact h
def EP (se:Int) (fl:List Int):Int:=if Bl se fl=0 then Ak fl else 0
def ID (se:Int) (fl:List Int):Int:=if Bl se fl=0 then Iv fl (Ak fl) else 0
def El (se:Int) (fl:List Int):List (List Int):=if Bl se fl=0 then (Ef fl).1 else []
def Gu (se:Int) (fl:List Int):Int:=if Bl se fl=0 then ((Ef fl).2.1:Int) else 0
def KU (se:Int) (fl:List Int):Bool:=if Bl se fl=0 then Lo fl else false
def aI8:List LV->T LV
 | [.agg [.v (.int .i64 se),.xl (.int .u8) fl]]=> .req (BE fl) (.ok (.AM [.agg [EP se fl,.v (.int .u32 (ID se fl)),.xl (.sl (.int .u8)) (El se fl),Gu se fl,KU se fl],Bl se fl]))
 |_=> .no
def EM (se:Int) (fl:List Int):FZ:=(⟨5,se,fl,0,0,0,false,0,Ak fl,Gb (((BY fl (Ak fl)).drop (1:Int).toNat).take ((5:Int).toNat-(1:Int).toNat)),5,true,BY fl (Ak fl),([]:List (List Int)),.ready⟩:FZ)
def oG (se:Int) (fl:List Int):Ml:=(⟨((BY fl (Ak fl)).drop (GD (EM se fl)).Dy.toNat).take ((List.length (BY fl (Ak fl)):Int).toNat-(GD (EM se fl)).Dy.toNat),(List.length (((BY fl (Ak fl)).drop (GD (EM se fl)).Dy.toNat).take ((List.length (BY fl (Ak fl)):Int).toNat-(GD (EM se fl)).Dy.toNat)):Int),0,(GD (EM se fl)).OU,(GD (EM se fl)).OI,(GD (EM se fl)).Oj,(GD (EM se fl)).OS,(GD (EM se fl)).b2,Ak fl,Gb (((BY fl (Ak fl)).drop (1:Int).toNat).take ((5:Int).toNat-(1:Int).toNat)),(GD (EM se fl)).Dy,true,(GD (EM se fl)).rs⟩:Ml)
def cy:=vm (S:=aI8) func124 dQ aQj (L:=(λi=>if i=15 then S0.lp else Af i)) (λb hb=>by
 rw [show B6 _=[aIL] by kernel_rfl] at hb
 simp only [B1,Bv,Bw] at hb;subst hb;exact aub) (λargs lv h=>by
 unfold aI8 at h;split at h
 ·rename_i se fl
  refine Aj (letI d:=GD (EM se fl);letI f:=(List.length (BY fl (Ak fl)):Int);letI j:=(((BY fl (Ak fl)).drop (1:Int).toNat).take ((5:Int).toNat-(1:Int).toNat));letI k:=List Int;.br (!(FG se fl)) (.ok (.AM [.agg [(0:Int),.v (.int .u32 0),.xl (.sl (.int .u8)) ([]:List k),(0:Int),false],(1:Int)])) (.req (FG se fl=true) (.br ((Hi fl) !=0) (.ok (.AM [.agg [(0:Int),.v (.int .u32 0),.xl (.sl (.int .u8)) ([]:List k),(0:Int),false],(Hi fl)])) (.req (((Ak fl)=0\/(Ak fl)=1)/\fl.length<=4096) (.req (0<=(1:Int)/\(1:Int)<=(5:Int)/\(5:Int)<=f) (.req (4<=List.length j) (.r0 k (.req (Rz.q (EM se fl)) (.br (Bo (aR4 (EM se fl)) (.ret)) (.ok (.AM [.agg [d.OU,.v (.int .u32 d.OI),.xl (.sl (.int .u8)) ([]:List k),d.Oj,d.OS],d.b2])) (.req (0<=d.Dy/\d.Dy<=f/\f<=f) (.rl d.rs (.req (S0.q (oG se fl)) (.rz d.rs (.ok (.AM [.agg [(Ak fl),.v (.int .u32 (Gb j)),.xl (.sl (.int .u8)) ((d.rs.drop 0).take (List.length d.rs)),d.Dy,(qt (oG se fl)).Il],(0:Int)]))))))))))))))) ?_;obtain ⟨hb,rfl⟩:=h
  have fin:∀(a g:Int) (r:List (List Int)) (n:Int) (c:Bool) (e:Int),a=EP se fl->g=ID se fl->r=El se fl->n=Gu se fl->c=KU se fl->e=Bl se fl->
   LV.AM [.agg [.v (.int .i64 a),.v (.int .u32 g),.xl (.sl (.int .u8)) r,.v (.int .i64 n),.v (.bool c)],.v (.int .i64 e)]=LV.AM [.agg [.v (.int .i64 (EP se fl)),.v (.int .u32 (ID se fl)),.xl (.sl (.int .u8)) (El se fl),.v (.int .i64 (Gu se fl)),.v (.bool (KU se fl))],.v (.int .i64 (Bl se fl))]:=λa g r n c e h1 h2 h3 h4 h5 h6=>by rw [h1,h2,h3,h4,h5,h6]
  refine ⟨λc1=>?_,λc1=>⟨AO,λc2=>?_,λc2=>?_⟩⟩
  ·have c1:FG se fl=false:=AO
   have hE:Bl se fl=1:=by unfold Bl;rw [AE c1]
   refine fin _ _ _ _ _ _ ?_ ?_ ?_ ?_ ?_ hE.symm<;>simp [EP,ID,El,Gu,KU,hE]
  ·have c1:FG se fl=true:=AO
   have c2:Hi fl≠0:=D8
   have hE:Bl se fl=Hi fl:=by unfold Bl;rw [AD aD,AE c2]
   refine fin _ _ _ _ _ _ ?_ ?_ ?_ ?_ ?_ hE.symm<;>simp [EP,ID,El,Gu,KU,hE,c2]
  have c1:FG se fl=true:=AO
  have c2:Hi fl=0:=D8
  have hj:=MC.1 c1
  have hw:Ak fl=0\/Ak fl=1:=aMY
  have hl:=bL fl (Ak fl)
  have hab:BE (BY fl (Ak fl)):=by
   intro x hx;unfold BY at hx;split at hx
   ·exact hb x (V1 hx)
   ·exact hb x (Pa (V1 hx))
  have hQ:Ef fl=J9 (BY fl (Ak fl)) 5:=rfl
  have hE0:lr (EM se fl):=⟨rfl,by show (5:Int)<=5;decide,by show (5:Int)<=((BY fl (Ak fl)).length:Int);omega,by show (BY fl (Ak fl)).length<=4096;omega,hab,rfl,by show ((([]:List (List Int)).length:Nat):Int)<=5;decide⟩
  have hr:=axe _ hE0
  have hv:(EM se fl).rs=[]:=rfl
  have hf:(EM se fl).from_.toNat=5:=rfl
  have hB:(EM se fl).b=BY fl (Ak fl):=rfl
  simp only [hv,hf,hB,Di,<-hQ] at hr;refine ⟨⟨hw,hj.2.2.2.1⟩,⟨Aa,Aa,A0⟩,by simp only [G9,DE];omega,A8,⟨hE0,rfl,rfl⟩,λc3=>?_,λc3=>?_⟩
  ·have c3:=WL c3
   rcases hr with ⟨q1,_⟩ |⟨q1,q2,q3,q4,q5,q6,q7⟩
   ·rw [c3] at q1;cases q1
   ·have hE:Bl se fl=11:=by unfold Bl;rw [AD aD,AD Mz,AD (by rw [q2];decide)]
    rw [q3,q4,q5,q6,q7];refine fin _ _ _ _ _ _ ?_ ?_ ?_ ?_ ?_ hE.symm<;>simp [EP,ID,El,Gu,KU,hE]
  ·rcases hr with ⟨q1,q2,q3,q4⟩ |⟨q1,_⟩
   ·have hE:Bl se fl=0:=by unfold Bl;rw [AD aD,AD Mz,AE q4]
    have hn:(Ef fl).2.1<=(BY fl (Ak fl)).length:=tG A0
    have eL:((BY fl (Ak fl)).drop (GD (EM se fl)).Dy.toNat).take ((List.length (BY fl (Ak fl)):Int).toNat-(GD (EM se fl)).Dy.toNat)=(BY fl (Ak fl)).drop (Ef fl).2.1:=by
     rw [q3,Bs,Bs];exact D3 kY
    have hC:lz (oG se fl):=⟨rfl,by
     show ((((BY fl (Ak fl)).drop (GD (EM se fl)).Dy.toNat).take ((List.length (BY fl (Ak fl)):Int).toNat-(GD (EM se fl)).Dy.toNat)).length:Int)<=4096
     rw [eL,DE];omega,rfl⟩
    have hr2:(qt (oG se fl)).Il=(true&&((((BY fl (Ak fl)).drop (GD (EM se fl)).Dy.toNat).take ((List.length (BY fl (Ak fl)):Int).toNat-(GD (EM se fl)).Dy.toNat)).drop 0).all (λb=>b==255)):=(axG _ hC).2
    rw [eL,CJ,Dj] at hr2;refine ⟨⟨by rw [q3];omega,by rw [q3];omega,Gl _⟩,A8,⟨hC,rfl,rfl⟩,A0,?_⟩
    refine fin _ _ _ _ _ _ ?_ ?_ ?_ ?_ ?_ hE.symm
    ·unfold EP;rw [AE hE]
    ·unfold ID Iv;rw [AE hE];rfl
    ·unfold El;rw [AE hE,CJ,D3 (At _)];exact q2
    ·unfold Gu;rw [AE hE];exact q3
    ·unfold KU;rw [AE hE];exact hr2
   ·exfalso;rw [q1] at c3;simp [Bo] at c3
 ·cases h)
end Go.Proofs.YtgmhhjldohjpmaaGreatDoor
namespace Go.Sx
open Go Go.RowKit Go.Proofs.YtgmhhjldohjpmaaGreatDoor
variable {P : Program} {G : Av} {Γ : Specs} {K : Hand} {L : LA} {Z0 : Gz} {w0 : World}
abbrev Uq:=Nat->Option (List Nat×List Up)
def XB (P:Program) (G:Av) (Γ:Specs) (K:Hand) (L:QI) (cs:Uq):Code->List LV->List AB->T (Ex×List LV×List AB)
 | .seq a b,F,H=>(XB P G Γ K L cs a F H).bind λq=>match q.1 with
  | .normal=>match cs (GL b) with
   |some (live,us)=>(G2 0 live us .normal q.2.1 q.2.2).bind λv=>if v.low then XB P G Γ K L cs b (HX q.2.1.length live v.vals) v.Ix else .no
   |none=>XB P G Γ K L cs b q.2.1 q.2.2
  |x=> .ok (x,q.2)
 |c,F,H=>DC P G Γ K L c F H
end Go.Sx
end
