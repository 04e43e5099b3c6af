/- Helpers for ParkRestart. Conditions: none. -/
import Derived.Test.YtoifmkifedcnnaaGreatDoorQu3
set_option linter.defProp false
set_option linter.unusedVariables false
set_option linter.unusedSimpArgs false
noncomputable section
open List renaming length→M,length→aa,replicate→aq,range→au
open Bool renaming true→U,true→ae,false→X,false→af
open Go.Value renaming int→ag
open Option renaming some→ah,none→aj
open Go.IntKind renaming i64→J,i64→ai,u8→aw,u32→ax
open True renaming intro→ak
open Decidable renaming decide→an
open ByteArray renaming mk→av
open Go.Region renaming ready→ay,wanted→az
open Go.Instr renaming findNow→aA
namespace Go.Proofs.YtoifmkifedcnnaaGreatDoor
set_option maxRecDepth 100000
set_option maxHeartbeats 4000000
open Go.Proofs.Tryz
open Go.Sx
def Po:AS MX:=⟨0,108,[0,1,6,9,67,68,69],[],λs=>[xQ 9 [s.cs,s.os,s.ks,s.gs,s.bs,s.l,s.d,s.t,.xl A7 s.od],s.al7,s.r,s.n,s.m,s.k,s.i],λ_=>[],λv b=>⟨Ar Af<|BT (v.getD 0 .junk) 0,Ar .str<|BT (v.getD 0 .junk) 1,Ar Al<|BT (v.getD 0 .junk) 2,Ar Ah<|BT (v.getD 0 .junk) 3,Ar Am<|BT (v.getD 0 .junk) 4,Ar AQ<|BT (v.getD 0 .junk) 5,Ar Aw<|BT (v.getD 0 .junk) 6,gI<|BT (v.getD 0 .junk) 7,Ar A7<|BT (v.getD 0 .junk) 8,Az Ap v 1,DQ v 2,AK v 3,Az AQ v 4,AK v 5,AK v 6⟩,aA0,λs r=> {s with r:=r.r,i:=r.i},λs=>s,λ_ s=>s,[.ret,.exit 0],kL,Xx,v7⟩
abbrev aDV:=Po.run
abbrev aJb:=Po.As
def azr:Rq Xx aA0:=by
 exact Sl
def j8:aWp:=[Wf,Wd,aa4,aVZ,ajf]
def aRy:Po.Ok:={}
def aRY:Po.Pf (aBb):=⟨anF,λs h=>rfl,ai6,azr⟩
def arb:SA 0 aGl Po:=s1 aRy aRY j8 kN
def auR:Fi kL Xx aBb aJb aDV:=AS.fin aRy aRY
structure Mm where
 cs:aWl
 os:aWg
 ks:aWr
 gs:aWh
 bs:aWs
 l:aWn
 d:aWB
 t:Y
 od:aWd
 rs:aWJ
 r:aWo
 m:aWh
 (k i:Y)
def aGk:=bN f105 1
def zz (s:Mm):T (Rd Mm):=letI a:=AG s.m s.i;.br (an<|s.i<s.k) (.ix s.i (M s.m)<|.ix s.i (M s.rs)<|.br (!(IB a.2.2.1 a.2.2.2.1 a.2.2.2.2.1 a.2.2.2.2.2.1 a.2.2.2.2.2.2.1 (C0 s.rs s.i).1 (C0 s.rs s.i).2)) (.so (.ret) {s with r:=X})<|.ix s.i (M s.d)<|.br (!(Hf<|E8 s.d s.i)) (.so (.ret) {s with r:=X})<|.nx {s with i:=AA<|s.i+1})<|.so (.exit 2) s
def Wr (s:Mm) (j:Y):aWo:=raC (AG s.m j) (C0 s.rs j)&&Hf (E8 s.d j)
def kK (s:Mm):Prop:=s.i=0/\0<=s.k/\s.k<=1000/\s.k=(M s.m:Y)/\M s.rs=M s.m/\M s.d=M s.m
def Xw (s:Mm):Prop:=0<=s.i/\s.i<=s.k/\s.k<=1000/\(s.k=(M s.m:Y)/\M s.rs=M s.m/\M s.d=M s.m)/\∀j:aWe,(j:Y)<s.i->Wr s j=U
def v5 (s:Mm):aWe:=(s.k-s.i).toNat
def aBa (x:Ex) (s s':Mm):Prop:=(x=.exit 2/\∀j:aWe,(j:Y)<s'.k->Wr s' j=U)\/(x=.ret/\s'.r=X/\∃j:aWe,(j:Y)<s'.k/\Wr s' j=X)
def anE:∀s,kK s->Xw s:=by
 exact KH
def ai5:Da Xw v5 aBa zz:=by
 intro s hI;obtain ⟨h0,h1,h2,h3,h4⟩:=hI;refine AH (λc1=>AH (λc2=>?_) λc2=>AH (λc3=>?_) λc3=>?_) λc1=>?_
 ·exact aMQ
 ·exact aMQ
 ·have c1:s.i<s.k:=AX
  have hg:Wr s s.i=true:=aPA
  rw [AJ (x:=s.i+1)];refine ⟨⟨AZ,AZ,h2,h3,λj hj=>?_⟩,by simp only [v5];omega⟩
  exact LF
 ·have c1:s.k<=s.i:=AX
  exact VH
def Pm:AS Mm:=⟨0,108,[0,1,6,82,83,84],[],λs=>[xQ 9 [s.cs,s.os,s.ks,s.gs,s.bs,s.l,s.d,s.t,.xl A7 s.od],s.rs,s.r,s.m,s.k,s.i],λ_=>[],λv b=>⟨Ar Af<|BT (v.getD 0 .junk) 0,Ar .str<|BT (v.getD 0 .junk) 1,Ar Al<|BT (v.getD 0 .junk) 2,Ar Ah<|BT (v.getD 0 .junk) 3,Ar Am<|BT (v.getD 0 .junk) 4,Ar AQ<|BT (v.getD 0 .junk) 5,Ar Aw<|BT (v.getD 0 .junk) 6,gI<|BT (v.getD 0 .junk) 7,Ar A7<|BT (v.getD 0 .junk) 8,Az Ap v 1,DQ v 2,Az Ah v 3,AK v 4,AK v 5⟩,zz,λs r=> {s with r:=r.r,i:=r.i},λs=>s,λ_ s=>s,[.ret,.exit 2],kK,Xw,v5⟩
abbrev aHv:=Pm.run
abbrev aJa:=Pm.As
def azq:Rq Xw zz:=by
 intro s hI;refine ⟨λc1=>⟨?_,?_,λ_=>trivial,λc2=>⟨?_,λ_=>trivial,λ_=>trivial⟩⟩,λ_=>trivial⟩
 all_goals ((obtain ⟨h0,h1,h2,h3,h4⟩:=hI;obtain ⟨h3,h5,h6⟩:=h3;simp at c1;omega))
def aRx:Pm.Ok:={}
def aRX:Pm.Pf (aBa):=⟨anE,λs h=>rfl,ai5,azq⟩
def arZ:SA 0 aGk Pm:=s1 aRx aRX j8 kN
def auQ:Fi kK Xw aBa aJa aHv:=AS.fin aRx aRX
def aLH:aWf->T LV
 | [.xq 9 q0,.xl (.pair (.int J) (.int J)) rs,.v (ag J n)]=>(match ([q0 0,q0 1,q0 2,q0 3,q0 4,q0 5,q0 6,q0 7,q0 8]:aWf) with
  | [.xl (.pair .str (.pair (.int J) (.pair (.int J) (.pair (.int J) (.pair (.pair (.int J) (.int J)) (.pair (.int J) (.pair (.int J) (.pair (.int J) (.pair (.int J) (.int J)))))))))) cs,.xl (.str) os,.xl (.pair .str (.pair (.int J) (.pair (.int J) (.int J)))) ks,.xl (.pair .str (.pair (.int J) (.pair (.int J) (.pair (.int J) (.pair (.int J) (.pair (.int J) (.pair (.int J) (.int J)))))))) gs,.xl (.pair .str (.int J)) bs,.xl (.pair (.int J) (.pair (.int J) (.pair (.int J) (.pair (.int J) (.int J))))) l,.xl (.pair .bool (.pair (.int J) (.pair (.int J) (.int J)))) d,.v (ag J t),.xl (.int J) od]=> .ok (JV cs os ks gs bs l rs d t n)
  |_=> .no)
 |_=> .no
def atv (cs:aWl) (os:aWg) (ks:aWr) (gs:aWh) (bs:aWs) (l:aWn) (d:aWB) (t:Y) (od:aWd) (rs:aWJ) (n:Y):letI b:=(M gs:Y);letI c:=(M l:Y);letI a:=(aDV (⟨cs,os,ks,gs,bs,l,d,t,od,rs,X,b,l,c,(0:Y)⟩:MX));Bl prog AV (j8) kN (λi=>if i=8 then Po.lp else if i=14 then Pm.lp else Ak i) f105 [xQ 9 [cs,os,ks,gs,bs,l,d,t,.xl A7 od],rs,n]=.br (((OH cs os ks gs bs) !=0) ||(!(B4 l))) (.ok X) (.br (((M rs:Y) !=b) ||(((M d:Y) !=b) ||((!(inB t (0:Y) (1000000:Y))) ||(!(inB n (1:Y) (999900:Y)))))) (.ok X)<|.req (Po.q (⟨cs,os,ks,gs,bs,l,d,t,od,rs,X,b,l,c,(0:Y)⟩:MX))<|.br (Bb (aJb (⟨cs,os,ks,gs,bs,l,d,t,od,rs,X,b,l,c,(0:Y)⟩:MX))<|.ret) (.ok a.r)<|.req (Pm.q (⟨cs,os,ks,gs,bs,l,d,t,od,rs,a.r,gs,b,(0:Y)⟩:Mm))<|.br (Bb (aJa (⟨cs,os,ks,gs,bs,l,d,t,od,rs,a.r,gs,b,(0:Y)⟩:Mm))<|.ret) (.ok (aHv (⟨cs,os,ks,gs,bs,l,d,t,od,rs,a.r,gs,b,(0:Y)⟩:Mm)).r)<|.ok U):=AU
def awk:=vm (S:=aLH) func105 j8 kN (L:=(λi=>if i=8 then Po.lp else if i=14 then Pm.lp else Ak i)) (λb hb=>by
 rw [show BD _=[aGl,aGk] by kernel_rfl] at hb
 simp only [BA,Bu,Bs] at hb;rcases hb with rfl|rfl
 ·exact arb
 ·exact arZ) (λargs lv h=>by
 refine ⟨?_⟩;unfold aLH at h;split at h
 ·split at h
  case h_2=>cases h
  rename_i heq0;simp only [canL,canX];rw [E6 (n:=9) heq0];simp only [canL,canX];rw [atv];rename_i rs n _ cs os ks gs bs l d t od;obtain rfl:=h
  have e0:((OH cs os ks gs bs !=0) || !B4 l)=!(BH cs os ks gs bs&&B4 l):=by
   unfold OH;cases BH cs os ks gs bs<;>cases B4 l<;>rfl
  have e1:(((M rs:Y) !=(M gs:Y)) ||(((M d:Y) !=(M gs:Y)) ||(!inB t 0 1000000 || !inB n 1 999900)))=!(an (M rs=M gs)&&(an (M d=M gs)&&(inB t 0 1000000&&inB n 1 999900))):=by
   rw [neN,neN,Bool.not_and,Bool.not_and,Bool.not_and]
  rw [e0,e1]
  have bad:JV cs os ks gs bs l rs d t n=X->LV.v (.bool X)=LV.v (.bool<|JV cs os ks gs bs l rs d t n):=λh=>Vf
  refine ⟨λc=>bad (by unfold JV;rw [ntW c];rfl),λc=>⟨λc2=>bad (by unfold JV;rw [ntW c2,QA,Sg]),λc2=>?_⟩⟩
  have c:=nfW c
  have c2:=nfW c2
  have c':=c
  have c2':=c2
  simp only [AY,Aa] at c' c2'
  have hl:=GH c'.2
  have hg:=(DK.1 c'.1).1.2.2.2.2.1
  have hE:kL ⟨cs,os,ks,gs,bs,l,d,t,od,rs,X,(M gs:Y),l,(M l:Y),0⟩:=⟨rfl,AZ,AZ,rfl⟩
  have ev:JV cs os ks gs bs l rs d t n=(below (M gs) l&&Dp (M gs) (λj=>raC (AG gs j) (C0 rs j)&&Hf (E8 d j))):=by
   unfold JV;rw [c,c2,EU,EU]
  refine ⟨⟨hE,rfl,rfl⟩,?_⟩;obtain ⟨_,_,hq⟩:=auR _ hE
  have eb:below (M gs) l=Dp (M l) (λj=>an<|(Ag l j).2.1<(M gs:Y)):=by
   rw [Ip,Dx];exact (Qb (d:=(0,0,0,0,0)) (p:=λx:Le=>an<|x.2.1<(M gs:Y))).symm
  rcases hq with ⟨q1,q2⟩ |⟨q1,q2,j,q3,q4⟩<;>rw [q1]
  rotate_left
  ·rw [q2]
   exact ⟨λ_=>bad (by rw [ev,eb,Qe (f:=λj=>an<|(Ag l j).2.1<(M gs:Y)) j q3 q4];rfl),λh=>Ao⟩
  refine ⟨λh=>Ao,λ_=>?_⟩
  have g0:below (M gs) l=true:=by rw [eb];exact Dx.2 q2
  have hE2:kK ⟨cs,os,ks,gs,bs,l,d,t,od,rs,(aDV ⟨cs,os,ks,gs,bs,l,d,t,od,rs,X,(M gs:Y),l,(M l:Y),0⟩).r,gs,(M gs:Y),0⟩:=⟨rfl,AZ,AZ,rfl,c2'.1,c2'.2.1⟩
  refine ⟨⟨hE2,rfl,rfl⟩,?_⟩;obtain ⟨_,_,hq⟩:=auQ _ hE2;rcases hq with ⟨q5,q6⟩ |⟨q5,q6,j,q7,q8⟩<;>rw [q5]
  ·exact ⟨λh=>Ao,λ_=>by rw [ev,g0,(Dx (f:=λj=>raC (AG gs j) (C0 rs j)&&Hf (E8 d j))).2 q6];rfl⟩
  ·rw [q6]
   exact ⟨λ_=>bad<|by rw [ev,Qe (f:=λj=>raC (AG gs j) (C0 rs j)&&Hf (E8 d j)) j q7 q8,Sg],λh=>Ao⟩
 ·cases h)
structure Mj where
 n:Y
 r:aWo
 l:aWd
 (m k:Y)
 seen:aWH
def aHU:=bN f185 0
def iE (s:Mj):T (Rd Mj):=letI a:=gi s.l s.k;letI b:=M s.seen;letI c:=s.seen.set a.toNat U;.br (an<|s.k<s.m) (.ix s.k (M s.l)<|.br (an<|a<0) (.rl s.seen<|.so (.ret) {s with r:=X})<|.br (an<|a>=s.n) (.rl s.seen<|.so (.ret) {s with r:=X})<|.ik a b<|.br (s.seen.getD a.toNat<|Ty.dflt .bool) (.rl s.seen<|.so (.ret) {s with r:=X})<|.ik a b<|.re b c<|.nx {s with k:=AA<|s.k+1,seen:=c})<|.rl s.seen<|.so (.exit 0) s
def PU (s:Mj) (j:Y):aWo:=Pv s.n (gi s.l j)&&!(((s.l.take j.toNat).map id).contains<|id<|gi s.l j)
def aCU (s:Mj):Prop:=s.k=0/\s.seen=aq (M s.seen) X/\s.m=(M s.l:Y)/\s.m<=1000/\s.n=(M s.seen:Y)
def Xr (s:Mj):Prop:=(0<=s.k/\s.k<=s.m)/\(∀j:aWe,j<M s.seen->s.seen.getD j X=(s.l.take s.k.toNat).contains (j:Y))/\(∀j:aWe,(j:Y)<s.k->PU s j=U)/\s.m=(M s.l:Y)/\s.m<=1000/\s.n=(M s.seen:Y)
def ta (s:Mj):aWe:=(s.m-s.k).toNat
def jj (x:Ex) (s s':Mj):Prop:=(x=.exit 0/\∀j:aWe,(j:Y)<s'.m->PU s' j=U)\/(x=.ret/\s'.r=X/\∃j:aWe,(j:Y)<s'.m/\PU s' j=X)
def amu:∀s,aCU s->Xr s:=by
 rintro s ⟨h0,h1,h2,h3,h4⟩
 refine ⟨A0,λj hj=>?_,λj hj=>A0,h2,h3,h4⟩
 rw [h1,h0]
 grind
def ahe:Da Xr ta jj iE:=by
 intro s hI;unfold iE;obtain ⟨⟨h0,h1⟩,h2,h3,h4,h5,h6⟩:=hI;refine AH (λc1=>?_) λc1=>?_
 rotate_left
 ·have c1:s.m<=s.k:=AX
  exact .inl ⟨rfl,λj hj=>h3 j A0⟩
 have c1:s.k<s.m:=AX
 have bad:PU s s.k=X->jj .ret s {s with r:=X}:=λhg=> .inr ⟨rfl,rfl,s.k.toNat,AZ,by rw [CP h0];exact hg⟩
 refine AH (λc2=>bad ?_) λc2=>AH (λc3=>bad ?_) λc3=>AH (λc4=>bad ?_) λc4=>?_
 ·unfold PU Pv
  simp only [Aa] at c2;rw [IP A0];rfl
 ·unfold PU Pv
  simp only [Aa] at c3;rw [IP (p:=gi s.l s.k<s.n) A0,Sg];rfl
 all_goals
  have c2:0<=gi s.l s.k:=EY
  have c3:gi s.l s.k<s.n:=NF
  have e:=h2 (gi s.l s.k).toNat A0
  rw [CP c2] at e
 ·have c4:s.seen.getD (gi s.l s.k).toNat X=true:=c4
  unfold PU;rw [VJ,id,<-e,c4]
  simp
 ·have c4:s.seen.getD (gi s.l s.k).toNat X=false:=c4
  have hg:PU s s.k=true:=by
   unfold PU;rw [VJ,id,<-e,c4,po.2 ⟨c2,c3⟩];rfl
  rw [AJ (x:=s.k+1)];refine ⟨⟨⟨AZ,AZ⟩,λj hj=>?_,λj hj=>?_,h4,h5,A8⟩,by simp only [ta];omega⟩
  ·simp only [C3] at hj
   simp only;rw [(gi_step h0 (show s.k<M s.l by omega)).2,List.contains_append,<-h2 j hj]
   by_cases hj2:(gi s.l s.k).toNat=j
   ·subst hj2
    rw [CP c2]
    simp [List.getD,hj]
   ·have:¬(j:Y)=gi s.l s.k:=A0
    grind
  ·by_cases hji:(j:Y)<s.k
   ·exact h3 j hji
   ·have:(j:Y)=s.k:=ml
    rw [this];exact hg
def Re:AS Mj:=⟨0,37,[1,4,5,14,15,16],[],λs=>[s.n,s.r,.os 0 1 0<|M s.seen,.xl A7 s.l,s.m,s.k],λs=>[bV 4 .bool s.seen],λv b=>⟨AK v 0,DQ v 1,Az A7 v 3,AK v 4,AK v 5,gVe .bool<|CW b 0⟩,iE,λs r=> {r with n:=s.n,l:=s.l,m:=s.m},λs=>s,λ_ s=>s,[.ret,.exit 0],aCU,Xr,ta⟩
abbrev aHu:=Re.run
abbrev aJY:=Re.As
def azi:Rq Xr iE:=by
 intro s hI;refine ⟨λc1=>⟨?_,λc2=>⟨A9,ak⟩,λc2=>⟨λc3=>⟨A9,ak⟩,λc3=>⟨?_,?_,λc4=>⟨A9,ak⟩,λc4=>⟨?_,?_,?_,ak⟩⟩⟩⟩,λc1=>⟨A9,ak⟩⟩
 iterate 5 · (obtain ⟨⟨h0,h1⟩,h2,h3,h4,h5,h6⟩:=hI;simp only [Aa,DC] at*;omega)
 ·grind
def ab8:aWp:=[]
def aSb:Re.Ok:={}
def aQN:Re.Pf (jj):=⟨amu,λs h=>rfl,ahe,azi⟩
def arV:SA 0 aHU Re:=s1 aSb aQN ab8 kN
def ato:Fi aCU Xr jj aJY aHu:=AS.fin aSb aQN
def aLB:aWf->T LV
 | [.xl (.int J) l,.v (ag J n)]=> .req (n<=1000) (.ok<|Gw l n)
 |_=> .no
def XB:=vm (S:=aLB) func185 ab8 kN (L:=(λi=>if i=5 then Re.lp else Ak i)) (λb hb=>by
 rw [show BD _=[aHU] by kernel_rfl] at hb
 simp only [BA,Bu,Bs] at hb;subst hb;exact arV) (λargs lv h=>by
 unfold aLB at h;split at h
 ·rename_i l n
  refine Aq (letI a:=aq n.toNat X;letI b:=(M l:Y);.br (b !=n) (.ok X)<|.rm 1 n<|.re n.toNat a<|.req (Re.q (⟨n,X,l,b,0,a⟩:Mj))<|.br (Bb (aJY (⟨n,X,l,b,0,a⟩:Mj))<|.ret) (.ok (aHu (⟨n,X,l,b,0,a⟩:Mj)).r)<|.ok U) ?_;obtain ⟨hl,rfl⟩:=h;refine ⟨λc=>B3 (λz=>LV.v<|.bool z) ?_,λc=>?_⟩
  ·have c:¬(M l:Y)=n:=A8
   unfold Gw;rw [IP c];rfl
  ·have c:(M l:Y)=n:=A8
   unfold Gw;rw [Cg c,EU];refine ⟨A0,⟨rfl,AI⟩,Jx ⟨⟨rfl,AI,rfl,A8,A8⟩,rfl,rfl⟩ λhE=>?_⟩
   obtain ⟨s',_,hq⟩:=ato _ hE.1;rcases hq with ⟨q1,q2⟩ |⟨q1,q2,j,q3,q4⟩
   ·rw [q1]
    have hk:=(WB (d:=(0:Y)) (p:=Pv n) (k:=id)).1 q2
    rw [VJ] at hk;rw [hk];exact ⟨λh=>Ao,λ_=>rfl⟩
   ·rw [q1,q2]
    refine ⟨λ_=>B3 (λz=>LV.v<|.bool z) ?_,λh=>Ao⟩
    rw [Sk,IM];intro hx
    have:=(WB (d:=(0:Y)) (p:=Pv n) (k:=id)).2 GD j q3
    exact Bool.noConfusion<|this.symm.trans q4
 ·cases h)
structure JA where
 r:aWo
 l:aWd
 (n i:Y)
 Bg:aWl
 Gf:aWg
 Gc:aWr
 Gi:aWh
 Gl:aWs
def zy (s:JA):T (Rd JA):=
 .br (an<|s.i<s.n) (.ix s.i (M s.l)<|.br (!((an<|(gi s.l s.i)>=0)&&(an<|(gi s.l s.i)<=80))) (.so (.ret) {s with r:=X})<|.nx {s with i:=AA<|s.i+1}) (.so (.exit 0) s)
def Tm (s:JA) (j:Y):aWo:=I0<|gi s.l j
def kH (s:JA):Prop:=s.i=0/\0<=s.n/\s.n<=1000/\s.n=(M s.l:Y)
def Xu (s:JA):Prop:=0<=s.i/\s.i<=s.n/\s.n<=1000/\(s.n=(M s.l:Y))/\∀j:aWe,(j:Y)<s.i->Tm s j=U
def uy (s:JA):aWe:=(s.n-s.i).toNat
def aBX (x:Ex) (s s':JA):Prop:=(x=.exit 0/\∀j:aWe,(j:Y)<s'.n->Tm s' j=U)\/(x=.ret/\s'.r=X/\∃j:aWe,(j:Y)<s'.n/\Tm s' j=X)
def an7:∀s,kH s->Xu s:=by
 exact KH
def ahz:Da Xu uy aBX zy:=by
 intro s hI;obtain ⟨h0,h1,h2,h3,h4⟩:=hI;refine AH (λc1=>AH (λc2=>?_) λc2=>?_) λc1=>?_
 ·have c1:s.i<s.n:=AX
  refine .inr ⟨rfl,rfl,s.i.toNat,A8,?_⟩
  have hg:Tm s s.i=false:=aOH
  exact hg
 ·have c1:s.i<s.n:=AX
  have hg:Tm s s.i=true:=aOH
  rw [AJ (x:=s.i+1)];refine ⟨⟨A8,A8,h2,h3,λj hj=>?_⟩,by simp only [uy];omega⟩
  exact LF
 ·exact Sn
def Tg:AS JA:=⟨1,18,[1,4,7,8,9],[],λs=>[.fn 183 [],s.r,.xl A7 s.l,s.n,s.i],λs=>[⟨[s.Bg,s.Gf,s.Gc,s.Gi,s.Gl],28,.cl,X⟩],λv b=>⟨DQ v 1,Az A7 v 2,AK v 3,AK v 4,AF Af b 0 0,AF .str b 0 1,AF Al b 0 2,AF Ah b 0 3,AF Am b 0 4⟩,zy,λs r=> {s with r:=r.r,i:=r.i},λs=>s,λ_ s=>s,[.ret,.exit 0],kH,Xu,uy⟩
abbrev dN:=Tg.run
abbrev dO:=Tg.As
def Qx:aWp:=[Wd,XB,XA,X8]
def alv:B1:=kI Qx<|l0 Qx
def azn:Rq Xu zy:=by
 exact Sl
def aSg:Tg.Ok:={}
def aQS:Tg.Pf (aBX):=⟨an7,λs h=>rfl,ahz,azn⟩
def WO:=s2 (b:=bN f184 0) aSg aQS Qx alv
def auq:Fi kH Xu aBX dO dN:=AS.fin aSg aQS
def aJi (s:JA) (hE:kH s):(dO s=.exit 0/\s.l.all I0=U)\/(dO s=.ret/\(dN s).r=X/\s.l.all I0=X):=by
 obtain ⟨s',hI,hq⟩:=auq s hE;obtain ⟨h0,h1,h2,h3⟩:=hE
 have en:(dN s).n=s.n:=rfl
 rcases hq with ⟨q1,q2⟩ |⟨q1,q2,j,q3,q4⟩
 ·refine .inl ⟨q1,(Qb (d:=(0:Y))).1 λj hj=>?_⟩
  have:=q2 j A0
  exact this
 ·exact aN7
structure FZ where
 alive:aWd
 i:Y
 rows:aWA
 (rn ri:Y)
 l:aWd
 (n k:Y)
 KL:aWl
 KQ:aWg
 KP:aWr
 KN:aWh
 Ka:aWs
 Hd:aWl
 Hc:aWg
 Ef:aWr
 B6:aWh
 He:aWs
 BM:aWA
 (BN CI CH CG CF CE CD CC CL CK CJ C7 C6 CB CA C9 C8 sums levels:aWd)
def aHI:=lN (bN f186 0) 0
def Gs (s:FZ):aWk:=[s.CI,s.CH,s.CG,s.CF,s.CE,s.CD,s.CC,s.CL,s.CK,s.CJ,s.C7,s.C6,s.CB,s.CA,s.C9,s.C8]
def nsO (s:FZ) (l:aWk):FZ:={s with CI:=l.getD 0 [],CH:=l.getD 1 [],CG:=l.getD 2 [],CF:=l.getD 3 [],CE:=l.getD 4 [],CD:=l.getD 5 [],CC:=l.getD 6 [],CL:=l.getD 7 [],CK:=l.getD 8 [],CJ:=l.getD 9 [],C7:=l.getD 10 [],C6:=l.getD 11 [],CB:=l.getD 12 [],CA:=l.getD 13 [],C9:=l.getD 14 [],C8:=l.getD 15 []}
def ns (s:FZ) (j:aWe):FZ:={nsO s ((Gs s).modify j (·++[s.i])) with k:=AA<|s.k+1,sums:=s.sums.set s.i.toNat<|AA<|s.sums.getD s.i.toNat 0+gi s.alive (j:Y)}
def rO {α:Type}(x:aWd):aWk->aWe->T α->T α
 | [],_,t=>t
 |o::l,0,t=> .re (M o+M x) (o++x) (rO x l 1000 t)
 |o::l,j+1,t=> .rl o<|rO x l j t
def XZ {σ:Type}{s:σ}{x:aWd}{t:T<|Rd σ}:∀l j,(rO x l j t).rd s=t.rd s
 | [],_=>rfl
 |_::l,0=>XZ l 1000
 |_::l,j+1=>XZ l j
def gM {α:Type}{K:α->Prop}{x:aWd}{t:T α}(h:t.all K):∀l j,(rO x l j t).all K
 | [],_=>h
 |_::l,0=>⟨⟨rfl,AI⟩,gM h l 1000⟩
 |_::l,j+1=>⟨⟨rfl,rfl⟩,gM h l j⟩
def aEx {α:Type}{K:α->Prop}{f:aWe->T α}{n:Y}:∀m j:aWe,(j:Y)<=n->n<j+m->(∀i:aWe,n=i->(f i).all K)->(splitN f n m j).all K
 |0,_,_,_,_=>A0
 |1,j,_,_,h=>h j A0
 |m+2,j,_,_,h=>⟨λc=>h j<|eq_of_beq c,λc=>aEx (m+1) (j+1) A8 A0 h⟩
def qH {σ:Type}{A:σ->Prop}{B:Ex->σ->Prop}{s:σ}{f:aWe->T (Rd σ)}{n:Y}:∀m j:aWe,(j:Y)<=n->n<j+m->(∀i:aWe,n=i->DV A B ((f i).rd s))->DV A B ((splitN f n m j).rd s)
 |0,_,_,_,_=>A0
 |1,j,_,_,h=>h j A0
 |m+2,j,_,_,h=>AH (λc=>h j<|eq_of_beq c) λc=>qH (m+1) (j+1) A8 A0 h
def al0 (s:FZ) {l:aWk}(h:M l=16):Gs (nsO s l)=l:=by
 show (au 16).map (λi=>l.getD i [])=l
 refine Zn nD λi h1 h2=>?_
 grind
def aAM (s:FZ):T (Rd FZ):=letI a:=M s.sums;.br (an<|s.k<s.n) (.ix s.k (M s.l)<|.req (0<=(gi s.l s.k)/\(gi s.l s.k)<(16:Y))<|splitN (λj=> .rb (M<|(Gs s).getD j []) (M<|[s.i]) 8<|.ix s.i a<|.ix (j:Y) (M s.alive)<|.req (s.i.toNat<M s.sums)<|.ik s.i a<|rO [s.i] (Gs s) j<|.re a (ns s j).sums<|.rl s.levels<|.nx<|ns s j) (gi s.l s.k) 16 0)<|rO [] (Gs s) 1000<|.rl s.sums<|.rl s.levels<|.so (.exit 2) s
def ZY (s:FZ):Prop:=s.k=0/\(∀o∈Gs s,(M o:Y)<=1000000)/\(0<=gi s.sums s.i/\gi s.sums s.i<=1000)/\s.n=(M s.l:Y)/\s.n<=1000/\(∀m∈s.l,0<=m/\m<16/\m<(M s.alive:Y))/\(∀a∈s.alive,0<=a/\a<=80)/\(0<=s.i/\s.i<(M s.sums:Y))
def Pa (s:FZ):Prop:=(0<=s.k/\s.k<=s.n)/\(∀o∈Gs s,(M o:Y)<=1000000+s.k)/\(0<=gi s.sums s.i/\gi s.sums s.i<=1000+80*s.k)/\s.n=(M s.l:Y)/\s.n<=1000/\(∀m∈s.l,0<=m/\m<16/\m<(M s.alive:Y))/\(∀a∈s.alive,0<=a/\a<=80)/\(0<=s.i/\s.i<(M s.sums:Y))
def XD (s:FZ):aWe:=(s.n-s.k).toNat
def abn (x:Ex) (s s':FZ):Prop:=x=.exit 2/\s'.k=s'.n
def akz:∀s,ZY s->Pa s:=by
 rintro s ⟨h0,h1,h2,h3⟩
 exact ⟨A0,λo ho=>A8,A0,h3⟩
def fK (s:FZ) (hI:Pa s) (c1:s.k<s.n):0<=gi s.l s.k/\gi s.l s.k<16/\gi s.l s.k<(M s.alive:Y):=by
 obtain ⟨⟨h0,h1⟩,h2,h3,h4,h5,h6,h7,h8⟩:=hI;exact h6 _ aOv
abbrev jO (s:FZ):=(L6 s.i (Gs s)<|s.l.drop s.k.toNat,s.sums.set s.i.toNat<|s.sums.getD s.i.toNat 0+smA s.alive (s.l.drop s.k.toNat))
def aRs (s:FZ) (j:aWe) (hI:Pa s) (c1:s.k<s.n) (em:gi s.l s.k=(j:Y)):(Pa (ns s j)/\XD (ns s j)<XD s)/\jO (ns s j)=jO s:=by
 generalize e:ns s j=s'
 have hO:Gs s'=(Gs s).modify j (·++[s.i]):=by rw [<-e];exact al0 s (by rw [lY];rfl)
 have hs:s'.sums=s.sums.set s.i.toNat (AA<|s.sums.getD s.i.toNat 0+gi s.alive (j:Y)):=VW
 have hk:s'.k=AA (s.k+1):=VW
 have hn:s'.n=s.n:=VW
 have hl:s'.l=s.l:=VW
 have ha:s'.alive=s.alive:=VW
 have hi:s'.i=s.i:=VW
 have hm:=fK s hI c1
 obtain ⟨⟨h0,h1⟩,h2,⟨h3,h3'⟩,h4,h5,h6,h7,h8⟩:=hI;rw [AJ (x:=s.k+1)] at hk
 have hav:=h7 (gi s.alive (j:Y)) aOv
 have hgi:gi s.sums s.i=s.sums.getD s.i.toNat 0:=rfl
 rw [AJ (x:=s.sums.getD s.i.toNat 0+gi s.alive (j:Y))] at hs
 have hs2:gi s'.sums s'.i=s.sums.getD s.i.toNat 0+gi s.alive (j:Y):=by
  rw [hi,hs]
  show List.getD _ _ _=_
  grind
 refine ⟨⟨⟨⟨A0,A0⟩,λo ho=>?_,⟨by rw [hs2];omega,by rw [hs2];omega⟩,by rw [hn,hl];exact h4,A0,by rw [hl,ha];exact h6,by rw [ha];exact h7,⟨by rw [hi];omega,by rw [hi,hs,C3];omega⟩⟩,by simp only [XD];omega⟩,?_⟩
 ·rw [hO] at ho
  obtain ⟨k,hk2,rfl⟩:=HG.1 ho;rw [lY] at hk2
  have:=h2 (Gs s)[k]<|GZ _
  rw [List.getElem_modify];split
  ·grind
  ·omega
 ·unfold jO
  rw [hO,hs,hl,ha,hi,hk,(gi_step h0 (show s.k<M s.l by omega)).1,pG,aG7,em,By,aeA A0]
def aRt:Da Pa XD abn aAM:=by
 intro s hI;refine AH (λc1=>?_) λc1=>?_
 ·have hm:=fK s hI A8
  refine qH 16 0 A0 A0 λi em=>?_
  show DV _ _ ((rO _ _ i _).rd s)
  rw [XZ];exact (aRs s i hI A8 em).1
 ·have c1:s.n<=s.k:=A8
  have h0:=hI.1
  exact VM
def UQ:AS FZ:=⟨1,67,[2,7,8,23,24,25,31,32,33],[.ns 7 6 3 A7,.ns 7 7 3 A7,.ns 7 8 3 A7,.ns 7 9 3 A7,.ns 7 10 3 A7,.ns 7 11 3 A7,.ns 7 12 3 A7,.ns 7 13 3 A7,.ns 7 14 3 A7,.ns 7 15 3 A7,.ns 7 16 3 A7,.ns 7 17 3 A7,.ns 7 18 3 A7,.ns 7 19 3 A7,.ns 7 20 3 A7,.ns 7 21 3 A7],λs=>[.xl A7 s.alive,.own 1 0,s.i,.xl Eg s.rows,s.rn,s.ri,.xl A7 s.l,s.n,s.k],λs=>[⟨[s.KL,s.KQ,s.KP,s.KN,s.Ka],28,.cl,X⟩,⟨[s.Hd,s.Hc,s.Ef,s.B6,s.He,.xl Eg s.BM,.os 2 1 0<|M s.CI,.os 3 1 0<|M s.CH,.os 4 1 0<|M s.CG,.os 5 1 0<|M s.CF,.os 6 1 0<|M s.CE,.os 7 1 0<|M s.CD,.os 8 1 0<|M s.CC,.os 9 1 0<|M s.CL,.os 10 1 0<|M s.CK,.os 11 1 0<|M s.CJ,.os 12 1 0<|M s.C7,.os 13 1 0<|M s.C6,.os 14 1 0<|M s.CB,.os 15 1 0<|M s.CA,.os 16 1 0<|M s.C9,.os 17 1 0<|M s.C8,.os 18 1 0<|M s.sums,.xl A7 s.BN,.os 19 1 0<|M s.levels],309,.cl,X⟩,bV 3 A7 s.CI,bV 3 A7 s.CH,bV 3 A7 s.CG,bV 3 A7 s.CF,bV 3 A7 s.CE,bV 3 A7 s.CD,bV 3 A7 s.CC,bV 3 A7 s.CL,bV 3 A7 s.CK,bV 3 A7 s.CJ,bV 3 A7 s.C7,bV 3 A7 s.C6,bV 3 A7 s.CB,bV 3 A7 s.CA,bV 3 A7 s.C9,bV 3 A7 s.C8,bV 3 A7 s.sums,bV 3 A7 s.levels],λv b=>⟨Az A7 v 0,AK v 2,Az Eg v 3,AK v 4,AK v 5,Az A7 v 6,AK v 7,AK v 8,AF Af b 0 0,AF .str b 0 1,AF Al b 0 2,AF Ah b 0 3,AF Am b 0 4,AF Af b 1 0,AF .str b 1 1,AF Al b 1 2,AF Ah b 1 3,AF Am b 1 4,AF Eg b 1 5,AF A7 b 1 23,Ac A7 b 2,Ac A7 b 3,Ac A7 b 4,Ac A7 b 5,Ac A7 b 6,Ac A7 b 7,Ac A7 b 8,Ac A7 b 9,Ac A7 b 10,Ac A7 b 11,Ac A7 b 12,Ac A7 b 13,Ac A7 b 14,Ac A7 b 15,Ac A7 b 16,Ac A7 b 17,Ac A7 b 18,Ac A7 b 19⟩,aAM,λs r=> {s with k:=r.k,CI:=r.CI,CH:=r.CH,CG:=r.CG,CF:=r.CF,CE:=r.CE,CD:=r.CD,CC:=r.CC,CL:=r.CL,CK:=r.CK,CJ:=r.CJ,C7:=r.C7,C6:=r.C6,CB:=r.CB,CA:=r.CA,C9:=r.C9,C8:=r.C8,sums:=r.sums},λs=>s,λ_ s=>s,[.exit 2],ZY,Pa,XD⟩
abbrev Ge:=UQ.run
def aBI:B1:=kI Qx<|la 2 func184 WO<|l0 Qx
def ay4:Rq Pa aAM:=by
 intro s hI;refine ⟨λc1=>?_,λ_=>gM (by exact ⟨A9,A9,ak⟩) _ _⟩
 have hm:=fK s hI A8
 simp only [Aa] at c1;obtain ⟨⟨h0,h1⟩,h2,h3,h4,h5,h6,h7,h8,h9⟩:=id hI;refine ⟨⟨A0,A0⟩,⟨A0,A0⟩,aEx 16 0 A0 A0 λi em=>?_⟩
 refine ⟨⟨A0,?_⟩,⟨A0,A0⟩,⟨A0,A0⟩,A0,⟨A0,A0⟩,A0,gM ?_ _ _⟩
 ·grind
 ·exact ⟨⟨rfl,(C3 ..).symm⟩,A9,ak⟩
def uP:UQ.Ok:={}
def tK:UQ.Pf (abn):=⟨akz,λs h=>rfl,aRt,ay4⟩
def asF:SA 1 aHI UQ:=s2 uP tK Qx aBI
def apM (s:FZ) (hE:ZY s):(λs:FZ=>(L6 s.i (Gs s)<|s.l.drop s.k.toNat,s.sums.set s.i.toNat<|s.sums.getD s.i.toNat 0+smA s.alive (s.l.drop s.k.toNat))) (Ge s)=(λs:FZ=>(L6 s.i (Gs s)<|s.l.drop s.k.toNat,s.sums.set s.i.toNat<|s.sums.getD s.i.toNat 0+smA s.alive (s.l.drop s.k.toNat))) s:=by
 exact AS.Kh uP tK jO (λs hI=>by
  refine AH (λc1=>?_) λc1=>?_
  ·have hm:=fK s hI A8
   refine qH 16 0 A0 A0 λi em=>?_
   show DV _ _ ((rO _ _ i _).rd s)
   rw [XZ];exact (aRs s i hI A8 em).2
  ·rw [XZ]
   exact rfl) s hE
def asf (s:FZ) (hE:ZY s):Gs (Ge s)=L6 s.i (Gs s) s.l/\(Ge s).sums=s.sums.set s.i.toNat (s.sums.getD s.i.toNat 0+smA s.alive s.l):=by
 have q3:=apM s hE
 obtain ⟨hI2,hf⟩:=AS.inv uP tK (λs=>AU) s hE
 have hI2:Pa (Ge s):=hI2
 have hq:=cv (aRt _ hI2) hf
 have q2:(Ge s).k=(Ge s).n:=hq.2
 obtain ⟨h0,h1,h2,h3,h4,h5,h6,h7⟩:=hE;obtain ⟨g0,g1,g2,g3,g4,g5,g6,g7⟩:=hI2
 have el:(Ge s).l=s.l:=rfl
 have en:(Ge s).n=s.n:=rfl
 have ei:(Ge s).i=s.i:=rfl
 have ea:(Ge s).alive=s.alive:=rfl
 simp only at q3;rw [q2,en,el,ei,ea,F6 A0,h0,show (0:Y).toNat=0 from rfl,CT] at q3
 have e1:=B3 Prod.fst q3
 have e2:=B3 Prod.snd q3
 simp only at e1 e2;refine ⟨e1,?_⟩;rw [<-e2];exact (aov (by rw [ei] at g7;omega)).symm
structure EI where
 alive:aWd
 rows:aWA
 (rn ri:Y)
 KL:aWl
 KQ:aWg
 KP:aWr
 KN:aWh
 Ka:aWs
 Hd:aWl
 Hc:aWg
 Ef:aWr
 B6:aWh
 He:aWs
 BM:aWA
 (BN CI CH CG CF CE CD CC CL CK CJ C7 C6 CB CA C9 C8 sums levels:aWd)
def aHH:=bN f186 0
def MH (s:EI):FZ:=(⟨s.alive,s.ri,s.rows,s.rn,s.ri,(Ce s.rows s.ri).2,(M (Ce s.rows s.ri).2:Y),0,s.KL,s.KQ,s.KP,s.KN,s.Ka,s.Hd,s.Hc,s.Ef,s.B6,s.He,s.BM,s.BN,s.CI,s.CH,s.CG,s.CF,s.CE,s.CD,s.CC,s.CL,s.CK,s.CJ,s.C7,s.C6,s.CB,s.CA,s.C9,s.C8,s.sums,s.levels⟩:FZ)
def aAL (s:EI):T (Rd EI):=letI a:=Ge<|MH s;.br (an<|s.ri<s.rn) (.ix s.ri (M s.rows)<|.rl s.CI<|.rl s.CH<|.rl s.CG<|.rl s.CF<|.rl s.CE<|.rl s.CD<|.rl s.CC<|.rl s.CL<|.rl s.CK<|.rl s.CJ<|.rl s.C7<|.rl s.C6<|.rl s.CB<|.rl s.CA<|.rl s.C9<|.rl s.C8<|.rl s.sums<|.rl s.levels<|.req (UQ.q<|MH s)<|.rl a.CI<|.rl a.CH<|.rl a.CG<|.rl a.CF<|.rl a.CE<|.rl a.CD<|.rl a.CC<|.rl a.CL<|.rl a.CK<|.rl a.CJ<|.rl a.C7<|.rl a.C6<|.rl a.CB<|.rl a.CA<|.rl a.C9<|.rl a.C8<|.rl a.sums<|.rl s.levels<|.nx {s with ri:=AA<|s.ri+1,CI:=a.CI,CH:=a.CH,CG:=a.CG,CF:=a.CF,CE:=a.CE,CD:=a.CD,CC:=a.CC,CL:=a.CL,CK:=a.CK,CJ:=a.CJ,C7:=a.C7,C6:=a.C6,CB:=a.CB,CA:=a.CA,C9:=a.C9,C8:=a.C8,sums:=a.sums})<|.rl s.CI<|.rl s.CH<|.rl s.CG<|.rl s.CF<|.rl s.CE<|.rl s.CD<|.rl s.CC<|.rl s.CL<|.rl s.CK<|.rl s.CJ<|.rl s.C7<|.rl s.C6<|.rl s.CB<|.rl s.CA<|.rl s.C9<|.rl s.C8<|.rl s.sums<|.rl s.levels<|.so (.exit 0) s
def Fu (s:EI):aWk:=[s.CI,s.CH,s.CG,s.CF,s.CE,s.CD,s.CC,s.CL,s.CK,s.CJ,s.C7,s.C6,s.CB,s.CA,s.C9,s.C8]
def UL (s:EI):Prop:=s.ri=0/\(∀o∈Fu s,o=[])/\s.sums=aq (M s.rows) 0/\s.rn=(M s.rows:Y)/\s.rn<=1000/\(∀r∈s.rows,(M r.2:Y)<=1000/\∀m∈r.2,0<=m/\m<16/\m<(M s.alive:Y))/\(∀a∈s.alive,0<=a/\a<=80)/\M s.sums=M s.rows
def Mp (s:EI):Prop:=(0<=s.ri/\s.ri<=s.rn)/\(∀o∈Fu s,(M o:Y)<=1000*s.ri)/\(∀k:aWe,s.ri<=(k:Y)->s.sums.getD k 0=0)/\s.rn=(M s.rows:Y)/\s.rn<=1000/\(∀r∈s.rows,(M r.2:Y)<=1000/\∀m∈r.2,0<=m/\m<16/\m<(M s.alive:Y))/\(∀a∈s.alive,0<=a/\a<=80)/\M s.sums=M s.rows
def TY (s:EI):aWe:=(s.rn-s.ri).toNat
def jh (x:Ex) (s s':EI):Prop:=x=.exit 0/\s'.ri=s'.rn
def aky:∀s,UL s->Mp s:=by
 rintro s ⟨h0,h1,h2,h3⟩
 refine ⟨A0,λo ho=>A8,λk _=>?_,h3⟩
 grind
def aRr (s:EI) (hI:Mp s) (c1:s.ri<s.rn):ZY (MH s):=by
 obtain ⟨⟨h0,h1⟩,h2,h3,h4,h5,h6,h7,h8⟩:=hI
 have hr:=h6 (Ce s.rows s.ri) yL
 refine ⟨rfl,λo ho=>?_,?_,rfl,hr.1,hr.2,h7,h0,?_⟩
 ·have:=h2 o ho
  omega
 ·have:=h3 s.ri.toNat A0
  show 0<=s.sums.getD s.ri.toNat 0/\s.sums.getD s.ri.toNat 0<=1000
  omega
 ·show s.ri<(M s.sums:Y)
  omega
def aSI (s s':EI) (hI:Mp s) (c1:s.ri<s.rn) (hO:Fu s'=Gs (Ge<|MH s)) (hs:s'.sums=(Ge<|MH s).sums) (hk:s'.ri=AA (s.ri+1)) (hn:s'.rn=s.rn) (hl:s'.rows=s.rows) (ha:s'.alive=s.alive):
  (Mp s'/\TY s'<TY s)/\(λs:EI=>(Hb (Fu s) s.ri<|s.rows.drop s.ri.toNat,Ha s.alive s.sums s.ri<|s.rows.drop s.ri.toNat)) s'=(λs:EI=>(Hb (Fu s) s.ri<|s.rows.drop s.ri.toNat,Ha s.alive s.sums s.ri<|s.rows.drop s.ri.toNat)) s:=by
 obtain ⟨r1,r2⟩:=asf _<|aRr s hI c1;obtain ⟨⟨h0,h1⟩,h2,h3,h4,h5,h6,h7,h8⟩:=hI
 have hr:=h6 (Ce s.rows s.ri) yL
 rw [AJ (x:=s.ri+1)] at hk
 have r1:Gs (Ge<|MH s)=L6 s.ri (Fu s) (Ce s.rows s.ri).2:=r1
 have r2:(Ge<|MH s).sums=s.sums.set s.ri.toNat (s.sums.getD s.ri.toNat 0+smA s.alive (Ce s.rows s.ri).2):=r2
 refine ⟨⟨⟨⟨A0,A0⟩,λo ho=>?_,λk hk2=>?_,A8,A0,by rw [hl,ha];exact h6,by rw [ha];exact h7,A8⟩,by simp only [TY];omega⟩,?_⟩
 ·rw [hO,r1] at ho
  have:=aI4 h2 o ho
  have:=hr.1
  rw [hk];omega
 ·rw [hs,r2]
  have:=h3 k A0
  simp only [List.getD] at this|-;rw [Zr A0];exact this
 ·simp only
  rw [hO,hs,hl,ha,r1,r2,hk,(apn h0 (show s.ri<M s.rows by omega)).1]
  rfl
def asc (s s':EI) (hI:Mp s) (c1:s.ri<s.rn) (hO:Fu s'=Gs (Ge<|MH s)) (hs:s'.sums=(Ge<|MH s).sums) (hk:s'.ri=AA (s.ri+1)) (hn:s'.rn=s.rn) (hl:s'.rows=s.rows) (ha:s'.alive=s.alive):DV (λs'=>Mp s'/\TY s'<TY s) (λx s'=>jh x s s') (.next s'):=(aSI s s' hI c1 hO hs hk hn hl ha).1
def asb (s s':EI) (hI:Mp s) (c1:s.ri<s.rn) (hO:Fu s'=Gs (Ge<|MH s)) (hs:s'.sums=(Ge<|MH s).sums) (hk:s'.ri=AA (s.ri+1)) (hn:s'.rn=s.rn) (hl:s'.rows=s.rows) (ha:s'.alive=s.alive):DV (λs'=>(λs:EI=>(Hb (Fu s) s.ri<|s.rows.drop s.ri.toNat,Ha s.alive s.sums s.ri<|s.rows.drop s.ri.toNat)) s'=(λs:EI=>(Hb (Fu s) s.ri<|s.rows.drop s.ri.toNat,Ha s.alive s.sums s.ri<|s.rows.drop s.ri.toNat)) s) (λ_ s'=>(λs:EI=>(Hb (Fu s) s.ri<|s.rows.drop s.ri.toNat,Ha s.alive s.sums s.ri<|s.rows.drop s.ri.toNat)) s'=(λs:EI=>(Hb (Fu s) s.ri<|s.rows.drop s.ri.toNat,Ha s.alive s.sums s.ri<|s.rows.drop s.ri.toNat)) s) (.next s'):=(aSI s s' hI c1 hO hs hk hn hl ha).2
def aga:Da Mp TY jh aAL:=by
 intro s hI;refine AH (λc1=>?_) λc1=>?_
 ·exact asc s _ hI A8 rfl rfl rfl rfl rfl rfl
 ·have c1:s.rn<=s.ri:=A8
  have h0:=hI.1
  exact VM
def PX:AS EI:=⟨1,67,[2,7,23,24,25],[.ns 7 6 3 A7,.ns 7 7 3 A7,.ns 7 8 3 A7,.ns 7 9 3 A7,.ns 7 10 3 A7,.ns 7 11 3 A7,.ns 7 12 3 A7,.ns 7 13 3 A7,.ns 7 14 3 A7,.ns 7 15 3 A7,.ns 7 16 3 A7,.ns 7 17 3 A7,.ns 7 18 3 A7,.ns 7 19 3 A7,.ns 7 20 3 A7,.ns 7 21 3 A7],λs=>[.xl A7 s.alive,.own 1 0,.xl Eg s.rows,s.rn,s.ri],λs=>[⟨[s.KL,s.KQ,s.KP,s.KN,s.Ka],28,.cl,X⟩,⟨[s.Hd,s.Hc,s.Ef,s.B6,s.He,.xl Eg s.BM,.os 2 1 0<|M s.CI,.os 3 1 0<|M s.CH,.os 4 1 0<|M s.CG,.os 5 1 0<|M s.CF,.os 6 1 0<|M s.CE,.os 7 1 0<|M s.CD,.os 8 1 0<|M s.CC,.os 9 1 0<|M s.CL,.os 10 1 0<|M s.CK,.os 11 1 0<|M s.CJ,.os 12 1 0<|M s.C7,.os 13 1 0<|M s.C6,.os 14 1 0<|M s.CB,.os 15 1 0<|M s.CA,.os 16 1 0<|M s.C9,.os 17 1 0<|M s.C8,.os 18 1 0<|M s.sums,.xl A7 s.BN,.os 19 1 0<|M s.levels],309,.cl,X⟩,bV 3 A7 s.CI,bV 3 A7 s.CH,bV 3 A7 s.CG,bV 3 A7 s.CF,bV 3 A7 s.CE,bV 3 A7 s.CD,bV 3 A7 s.CC,bV 3 A7 s.CL,bV 3 A7 s.CK,bV 3 A7 s.CJ,bV 3 A7 s.C7,bV 3 A7 s.C6,bV 3 A7 s.CB,bV 3 A7 s.CA,bV 3 A7 s.C9,bV 3 A7 s.C8,bV 3 A7 s.sums,bV 3 A7 s.levels],λv b=>⟨Az A7 v 0,Az Eg v 2,AK v 3,AK v 4,AF Af b 0 0,AF .str b 0 1,AF Al b 0 2,AF Ah b 0 3,AF Am b 0 4,AF Af b 1 0,AF .str b 1 1,AF Al b 1 2,AF Ah b 1 3,AF Am b 1 4,AF Eg b 1 5,AF A7 b 1 23,Ac A7 b 2,Ac A7 b 3,Ac A7 b 4,Ac A7 b 5,Ac A7 b 6,Ac A7 b 7,Ac A7 b 8,Ac A7 b 9,Ac A7 b 10,Ac A7 b 11,Ac A7 b 12,Ac A7 b 13,Ac A7 b 14,Ac A7 b 15,Ac A7 b 16,Ac A7 b 17,Ac A7 b 18,Ac A7 b 19⟩,aAL,λs r=> {s with ri:=r.ri,CI:=r.CI,CH:=r.CH,CG:=r.CG,CF:=r.CF,CE:=r.CE,CD:=r.CD,CC:=r.CC,CL:=r.CL,CK:=r.CK,CJ:=r.CJ,C7:=r.C7,C6:=r.C6,CB:=r.CB,CA:=r.CA,C9:=r.C9,C8:=r.C8,sums:=r.sums},λs=>s,λ_ s=>s,[.exit 0],UL,Mp,TY⟩
abbrev Il:=PX.run
abbrev avA:=PX.As
def ay3:Rq Mp aAL:=by
 intro s hI;refine ⟨λc1=>⟨?_,A9,A9,A9,A9,A9,A9,A9,A9,A9,A9,A9,A9,A9,A9,A9,A9,A9,A9,?_,A9,A9,A9,A9,A9,A9,A9,A9,A9,A9,A9,A9,A9,A9,A9,A9,A9,A9,ak⟩,λc1=>⟨A9,A9,A9,A9,A9,A9,A9,A9,A9,A9,A9,A9,A9,A9,A9,A9,A9,A9,ak⟩⟩
 ·(obtain ⟨h0,h2,h3,h4,h5,h6,h7,h8⟩:=hI;simp only [Aa] at c1;omega)
 ·exact ⟨aRr s hI A8,rfl,rfl⟩
def uO:PX.Ok:={}
def tJ:PX.Pf (jh):=⟨aky,λs h=>rfl,aga,ay3⟩
def dT:SA 1 aHH PX:=AS.snd uO tJ (Gg (Γ:=Qx) (K:=aBI) (L:=(Lx (λi=>if i=6 then UQ.lp else Ak i))) (gk Qx) aBI.h aHH (λb hb=>by
 rw [show BD _=[aHI] by kernel_rfl] at hb
 simp only [BA,Bu,Bs] at hb;subst hb;exact asF)) λs=>AU
def ase:Fi UL Mp jh avA Il:=AS.fin uO tJ
def apI (s:EI) (hE:UL s):(λs:EI=>(Hb (Fu s) s.ri<|s.rows.drop s.ri.toNat,Ha s.alive s.sums s.ri<|s.rows.drop s.ri.toNat)) (Il s)=(λs:EI=>(Hb (Fu s) s.ri<|s.rows.drop s.ri.toNat,Ha s.alive s.sums s.ri<|s.rows.drop s.ri.toNat)) s:=by
 exact AS.Kh uO tJ (λs:EI=>(Hb (Fu s) s.ri<|s.rows.drop s.ri.toNat,Ha s.alive s.sums s.ri<|s.rows.drop s.ri.toNat)) (λs hI=>by
  refine AH (λc1=>?_) λc1=>?_
  ·exact asb s _ hI A8 rfl rfl rfl rfl rfl rfl
  ·rfl) s hE
def asa (s:EI) (hE:UL s):Fu (Il s)=Hb (Fu s) 0 s.rows/\(Il s).sums=Ha s.alive s.sums 0 s.rows:=by
 have q3:=apI s hE
 obtain ⟨s',hI,q1,q2⟩:=ase s hE;obtain ⟨h0,h1,h2,h3,h4,h5⟩:=hE
 have el:(Il s).rows=s.rows:=rfl
 have en:(Il s).rn=s.rn:=rfl
 have ea:(Il s).alive=s.alive:=rfl
 simp only at q3;rw [q2,en,el,ea,F6 A0,h0] at q3;exact ⟨B3 Prod.fst q3,B3 Prod.snd q3⟩
structure Ml where
 r:aWo
 l:aWd
 (n i:Y)
 KL:aWl
 KQ:aWg
 KP:aWr
 KN:aWh
 Ka:aWs
 Hd:aWl
 Hc:aWg
 Ef:aWr
 B6:aWh
 He:aWs
 BM:aWA
 (CI CH CG CF CE CD CC CL CK CJ C7 C6 CB CA C9 C8 BN sums levels:aWd)
 aim:aWM
 (aoi aq4 aoJ aoK aik aew avp more:Y)
def ir (s:Ml):T (Rd Ml):=letI a:=gi s.l s.i;.br (an<|s.i<s.n) (.ix s.i (M s.l)<|.ik a (M s.sums)<|.ix a (M s.BM)<|.br (!(an<|(AA<|(s.sums.getD a.toNat<|Ty.dflt A7)+s.more)<=(Ce s.BM a).1)) (.rl s.sums<|.rl s.levels<|.so (.ret) {s with r:=X})<|.rl s.sums<|.rl s.levels<|.nx {s with i:=AA<|s.i+1})<|.rl s.sums<|.rl s.levels<|.so (.exit 0) s
def Tn (s:Ml) (j:Y):aWo:=Kt s.BM s.sums s.more<|gi s.l j
def Ys (s:Ml):Prop:=s.i=0/\0<=s.n/\s.n<=1000/\s.n=(M s.l:Y)/\(∀r∈s.l,0<=r/\r<(M s.BM:Y))/\M s.sums=M s.BM/\(∀k:aWe,0<=s.sums.getD k 0/\s.sums.getD k 0<=2000)/\(0<=s.more/\s.more<=10000)
def Xv (s:Ml):Prop:=0<=s.i/\s.i<=s.n/\s.n<=1000/\(s.n=(M s.l:Y)/\(∀r∈s.l,0<=r/\r<(M s.BM:Y))/\M s.sums=M s.BM/\(∀k:aWe,0<=s.sums.getD k 0/\s.sums.getD k 0<=2000)/\(0<=s.more/\s.more<=10000))/\∀j:aWe,(j:Y)<s.i->Tn s j=U
def uz (s:Ml):aWe:=(s.n-s.i).toNat
def aBY (x:Ex) (s s':Ml):Prop:=(x=.exit 0/\∀j:aWe,(j:Y)<s'.n->Tn s' j=U)\/(x=.ret/\s'.r=X/\∃j:aWe,(j:Y)<s'.n/\Tn s' j=X)
def an8:∀s,Ys s->Xv s:=by
 exact KH
def ai0:Da Xv uz aBY ir:=by
 intro s hI;unfold ir;obtain ⟨h0,h1,h2,h3,h4⟩:=hI;refine AH (λc1=>AH (λc2=>?_) λc2=>?_) λc1=>?_
 ·have c1:s.i<s.n:=AX
  refine .inr ⟨rfl,rfl,s.i.toNat,AZ,?_⟩
  have hg:Tn s s.i=false:=aOB
  exact hg
 ·have c1:s.i<s.n:=AX
  have hg:Tn s s.i=true:=aOB
  rw [AJ (x:=s.i+1)];refine ⟨⟨AZ,AZ,h2,h3,λj hj=>?_⟩,by simp only [uz];omega⟩
  exact LF
 ·exact Sn
def Z5:AS Ml:=⟨7,18,[1,4,7,8,9],[],λs=>[.fn 216 [.own 4 0,.own 6 0],s.r,.xl A7 s.l,s.n,s.i],λs=>[⟨[s.KL,s.KQ,s.KP,s.KN,s.Ka],28,.cl,X⟩,⟨[s.Hd,s.Hc,s.Ef,s.B6,s.He,.xl Eg s.BM,.xl A7 s.CI,.xl A7 s.CH,.xl A7 s.CG,.xl A7 s.CF,.xl A7 s.CE,.xl A7 s.CD,.xl A7 s.CC,.xl A7 s.CL,.xl A7 s.CK,.xl A7 s.CJ,.xl A7 s.C7,.xl A7 s.C6,.xl A7 s.CB,.xl A7 s.CA,.xl A7 s.C9,.xl A7 s.C8,.os 2 1 0<|M s.sums,.xl A7 s.BN,.os 3 1 0<|M s.levels],309,.cl,X⟩,bV 3 A7 s.sums,bV 3 A7 s.levels,⟨[.own 1 0],305,.cl,X⟩,⟨[.v<|.string s.aim,s.aoi,s.aq4,s.aoJ,s.aoK,s.aik,s.aew,s.avp],114,.cl,X⟩,⟨[s.more],3,.cl,X⟩],λv b=>⟨DQ v 1,Az A7 v 2,AK v 3,AK v 4,AF Af b 0 0,AF .str b 0 1,AF Al b 0 2,AF Ah b 0 3,AF Am b 0 4,AF Af b 1 0,AF .str b 1 1,AF Al b 1 2,AF Ah b 1 3,AF Am b 1 4,AF Eg b 1 5,AF A7 b 1 6,AF A7 b 1 7,AF A7 b 1 8,AF A7 b 1 9,AF A7 b 1 10,AF A7 b 1 11,AF A7 b 1 12,AF A7 b 1 13,AF A7 b 1 14,AF A7 b 1 15,AF A7 b 1 16,AF A7 b 1 17,AF A7 b 1 18,AF A7 b 1 19,AF A7 b 1 20,AF A7 b 1 21,AF A7 b 1 23,Ac A7 b 2,Ac A7 b 3,gSr<|BF (CW b 5) 0,Aj b 5 1,Aj b 5 2,Aj b 5 3,Aj b 5 4,Aj b 5 5,Aj b 5 6,Aj b 5 7,Aj b 6 0⟩,ir,λs r=> {s with r:=r.r,i:=r.i},λs=>s,λ_ s=>s,[.ret,.exit 0],Ys,Xv,uz⟩
abbrev fG:=Z5.run
abbrev eV:=Z5.As
def UG:aWp:=[Wd,XB,XA,X8]
def alu:B1:=kI UG<|la 3 func186 dT<|la 2 func184 WO<|l0 UG
def azo:Rq Xv ir:=by
 intro s hI;refine ⟨λc1=>⟨?_,?_,?_,?_,λc2=>⟨A9,A9,ak⟩,λc2=>⟨A9,A9,ak⟩⟩,λc1=>⟨A9,A9,ak⟩⟩
 all_goals ((obtain ⟨h0,h1,h2,⟨e0,e1,e2,e3,e4⟩,h4⟩:=hI;simp only [Aa] at c1;have hm:=e1 (gi s.l s.i)<|Kc A0 A0;omega))
def aSh:Z5.Ok:={}
def aQT:Z5.Pf (aBY):=⟨an8,λs h=>rfl,ai0,azo⟩
def eI:=s2 (b:=bN f184 0) aSh aQT UG alu
def aur:Fi Ys Xv aBY eV fG:=AS.fin aSh aQT
def cf (s:Ml) (hE:Ys s):(eV s=.exit 0/\s.l.all (Kt s.BM s.sums s.more)=U)\/(eV s=.ret/\(fG s).r=X/\s.l.all (Kt s.BM s.sums s.more)=X):=by
 obtain ⟨s',hI,hq⟩:=aur s hE;obtain ⟨h0,h1,h2,h3,_⟩:=hE
 have en:(fG s).n=s.n:=rfl
 rcases hq with ⟨q1,q2⟩ |⟨q1,q2,j,q3,q4⟩
 ·exact .inl ⟨q1,(Qb (d:=(0:Y))).1 λj hj=>q2 j A0⟩
 ·exact aN7
structure K5 where
 (charger level:Y)
 l:aWd
 (n i:Y)
 KL:aWl
 KQ:aWg
 KP:aWr
 KN:aWh
 Ka:aWs
 Hd:aWl
 Hc:aWg
 Ef:aWr
 B6:aWh
 He:aWs
 BM:aWA
 (CI CH CG CF CE CD CC CL CK CJ C7 C6 CB CA C9 C8 BN sums levels:aWd)
 more:Y
def aCy (s:K5):T (Rd K5):=letI b:=gi s.l s.i;letI c:=M s.sums;letI a:=s.sums.set b.toNat<|AA<|(s.sums.getD b.toNat<|Ty.dflt A7)+s.more;.br (an<|s.i<s.n) (.ix s.i (M s.l)<|.ik b c<|.ik b c<|.re c a<|.rl s.levels<|.nx {s with i:=AA<|s.i+1,sums:=a})<|.rl s.sums<|.rl s.levels<|.so (.exit 0) s
def Ur (s:K5):Prop:=s.i=0/\(∀k:aWe,0<=s.sums.getD k 0/\s.sums.getD k 0<=2000)/\s.n=(M s.l:Y)/\s.n<=1000/\(∀r∈s.l,0<=r/\r<(M s.sums:Y))/\(0<=s.more/\s.more<=10000)
def cE (s:K5):Prop:=(0<=s.i/\s.i<=s.n)/\(∀k:aWe,0<=s.sums.getD k 0/\s.sums.getD k 0<=2000+10000*s.i)/\s.n=(M s.l:Y)/\s.n<=1000/\(∀r∈s.l,0<=r/\r<(M s.sums:Y))/\(0<=s.more/\s.more<=10000)
def aAz (s:K5):aWe:=(s.n-s.i).toNat
def wg (x:Ex) (s s':K5):Prop:=x=.exit 0/\s'.i=s'.n
def anp:∀s,Ur s->cE s:=by
 rintro s ⟨h0,h1,h2,h3⟩
 exact ⟨A0,λk=>A8,h2,h3⟩
def ak7:Da cE aAz wg aCy:=by
 intro s hI;obtain ⟨⟨h0,h1⟩,h2,h3,h4,h5,h6⟩:=hI;refine AH (λc1=>?_) λc1=>?_
 ·have c1:s.i<s.n:=AX
  have hb:=h2 (gi s.l s.i).toNat
  rw [AJ (x:=s.i+1),AJ (x:=s.sums.getD (gi s.l s.i).toNat (Ty.dflt A7)+s.more) aO7 aO8];refine ⟨⟨⟨A8,A8⟩,λk=>?_,h3,h4,λr hr=>A8,h6⟩,by simp only [aAz];omega⟩
  simp only
  have hk:=h2 k
  rw [TB];split
  ·show 0<=s.sums.getD (gi s.l s.i).toNat 0+s.more/\s.sums.getD (gi s.l s.i).toNat 0+s.more<=_
   omega
  ·omega
 ·exact Sj
def Us:AS K5:=⟨4,90,[1,2,6,7,66,67,68],[],λs=>[s.charger,.own 4 0,s.level,.own 5 0,.xl A7 s.l,s.n,s.i],λs=>[⟨[s.KL,s.KQ,s.KP,s.KN,s.Ka],28,.cl,X⟩,⟨[s.Hd,s.Hc,s.Ef,s.B6,s.He,.xl Eg s.BM,.xl A7 s.CI,.xl A7 s.CH,.xl A7 s.CG,.xl A7 s.CF,.xl A7 s.CE,.xl A7 s.CD,.xl A7 s.CC,.xl A7 s.CL,.xl A7 s.CK,.xl A7 s.CJ,.xl A7 s.C7,.xl A7 s.C6,.xl A7 s.CB,.xl A7 s.CA,.xl A7 s.C9,.xl A7 s.C8,.os 2 1 0<|M s.sums,.xl A7 s.BN,.os 3 1 0<|M s.levels],309,.cl,X⟩,bV 3 A7 s.sums,bV 3 A7 s.levels,⟨[.own 1 0],305,.cl,X⟩,⟨[s.more],3,.cl,X⟩],λv b=>⟨AK v 0,AK v 2,Az A7 v 4,AK v 5,AK v 6,AF Af b 0 0,AF .str b 0 1,AF Al b 0 2,AF Ah b 0 3,AF Am b 0 4,AF Af b 1 0,AF .str b 1 1,AF Al b 1 2,AF Ah b 1 3,AF Am b 1 4,AF Eg b 1 5,AF A7 b 1 6,AF A7 b 1 7,AF A7 b 1 8,AF A7 b 1 9,AF A7 b 1 10,AF A7 b 1 11,AF A7 b 1 12,AF A7 b 1 13,AF A7 b 1 14,AF A7 b 1 15,AF A7 b 1 16,AF A7 b 1 17,AF A7 b 1 18,AF A7 b 1 19,AF A7 b 1 20,AF A7 b 1 21,AF A7 b 1 23,Ac A7 b 2,Ac A7 b 3,Aj b 5 0⟩,aCy,λs r=> {s with i:=r.i,sums:=r.sums},λs=>s,λ_ s=>s,[.exit 0],Ur,cE,aAz⟩
abbrev Oh:=Us.run
abbrev ahs:=Us.As
def amP:B1:=kI UG<|la 2 func184 eI<|la 3 func186 dT<|la 2 func184 WO<|l0 UG
def akG:Rq cE aCy:=by
 intro s hI;refine ⟨λc1=>⟨?_,?_,?_,?_,?_,?_,A9,ak⟩,λc1=>⟨A9,A9,ak⟩⟩
 all_goals ((obtain ⟨⟨h0,h1⟩,h2,h3,h4,h5,h6⟩:=hI;(try simp only [Aa] at c1);first|(have hm:=h5 (gi s.l s.i)<|Kc A0 A0;omega) |exact ⟨rfl,AI⟩ |exact ⟨rfl,rfl⟩))
def aAl:Us.Ok:={}
def aAk:Us.Pf (wg):=⟨anp,λs h=>rfl,ak7,akG⟩
def tS:=s2 (b:=bN f188 0) aAl aAk UG amP
def ays:Fi Ur cE wg ahs Oh:=AS.fin aAl aAk
def at6 (s:K5) (hE:Ur s):(λs:K5=>Kw s.sums s.more<|s.l.drop s.i.toNat) (Oh s)=(λs:K5=>Kw s.sums s.more<|s.l.drop s.i.toNat) s:=by
 exact AS.Kh aAl aAk (λs:K5=>Kw s.sums s.more<|s.l.drop s.i.toNat) (λs hI=>by
  obtain ⟨⟨h0,h1⟩,h2,h3,h4,h5,h6⟩:=hI;refine AH (λc1=>?_) λc1=>rfl
  have c1:s.i<s.n:=A8
  have hb:=h2 (gi s.l s.i).toNat
  rw [AJ (x:=s.i+1),AJ (x:=s.sums.getD (gi s.l s.i).toNat (Ty.dflt A7)+s.more) aO7 aO8];rw [(gi_step h0 (show s.i<M s.l by omega)).1]
  rfl) s hE
def aQ9 (s:K5) (hE:Ur s):(Oh s).sums=Kw s.sums s.more s.l:=by
 have q3:=at6 s hE
 obtain ⟨s',hI,q1,q2⟩:=ays s hE;obtain ⟨h0,h1,h2,h3⟩:=hE;simp only at q3;rw [q2,show (Oh s).n=s.n from rfl,show (Oh s).l=s.l from rfl,show (Oh s).more=s.more from rfl,F6 A0,h0] at q3;exact q3
structure D9 where
 (most order:aWd)
 (n level:Y)
 some:aWo
 l:aWd
 (m k:Y)
 BG:aWl
 Bf:aWg
 C4:aWr
 BQ:aWh
 C5:aWs
 Hd:aWl
 Hc:aWg
 Ef:aWr
 B6:aWh
 He:aWs
 BM:aWA
 (CI CH CG CF CE CD CC CL CK CJ C7 C6 CB CA C9 C8 BN sums levels:aWd)
def aGD:=lN (bN f150 0) 0
def TO (s:D9):Ml:=letI c:=gi s.l s.k;letI d:=gi s.BN c;letI a:=AG s.B6 c;letI b:=AA<|(s.levels.getD c.toNat<|Ty.dflt A7)+1;(⟨X,([s.CI,s.CH,s.CG,s.CF,s.CE,s.CD,s.CC,s.CL,s.CK,s.CJ,s.C7,s.C6,s.CB,s.CA,s.C9,s.C8]:aWk).getD c.toNat [],(M (([s.CI,s.CH,s.CG,s.CF,s.CE,s.CD,s.CC,s.CL,s.CK,s.CJ,s.C7,s.C6,s.CB,s.CA,s.C9,s.C8]:aWk).getD c.toNat []):Y),0,s.BG,s.Bf,s.C4,s.BQ,s.C5,s.Hd,s.Hc,s.Ef,s.B6,s.He,s.BM,s.CI,s.CH,s.CG,s.CF,s.CE,s.CD,s.CC,s.CL,s.CK,s.CJ,s.C7,s.C6,s.CB,s.CA,s.C9,s.C8,s.BN,s.sums,s.levels,a.1,a.2.1,a.2.2.1,a.2.2.2.1,a.2.2.2.2.1,a.2.2.2.2.2.1,a.2.2.2.2.2.2.1,a.2.2.2.2.2.2.2,AA<|(if d<(EA a.2.2.2.1 a.2.2.2.2.2.1 b) then EA a.2.2.2.1 a.2.2.2.2.2.1 b else d)-(if d<(EA a.2.2.2.1 a.2.2.2.2.2.1<|AA<|b-1) then EA a.2.2.2.1 a.2.2.2.2.2.1 (AA<|b-1) else d)⟩:Ml)
def Sw (s:D9):K5:=letI b:=gi s.l s.k;letI c:=AG s.B6 b;letI d:=gi s.BN b;letI a:=AA<|(s.levels.getD b.toNat<|Ty.dflt A7)+1;(⟨b,a,([s.CI,s.CH,s.CG,s.CF,s.CE,s.CD,s.CC,s.CL,s.CK,s.CJ,s.C7,s.C6,s.CB,s.CA,s.C9,s.C8]:aWk).getD b.toNat [],(M (([s.CI,s.CH,s.CG,s.CF,s.CE,s.CD,s.CC,s.CL,s.CK,s.CJ,s.C7,s.C6,s.CB,s.CA,s.C9,s.C8]:aWk).getD b.toNat []):Y),0,s.BG,s.Bf,s.C4,s.BQ,s.C5,s.Hd,s.Hc,s.Ef,s.B6,s.He,s.BM,s.CI,s.CH,s.CG,s.CF,s.CE,s.CD,s.CC,s.CL,s.CK,s.CJ,s.C7,s.C6,s.CB,s.CA,s.C9,s.C8,s.BN,s.sums,s.levels,AA<|(if d<(EA c.2.2.2.1 c.2.2.2.2.2.1 a) then EA c.2.2.2.1 c.2.2.2.2.2.1 a else d)-(if d<(EA c.2.2.2.1 c.2.2.2.2.2.1<|AA<|a-1) then EA c.2.2.2.1 c.2.2.2.2.2.1 (AA<|a-1) else d)⟩:K5)
def Tu (s:D9):T (Rd D9):=letI b:=gi s.l s.k;letI d:=M s.levels;letI e:=AA<|s.k+1;letI f:=AG s.B6 b;letI g:=Oh<|Sw s;letI h:=s.levels.getD b.toNat<|Ty.dflt A7;letI c:=AA<|h+1;letI a:=s.levels.set b.toNat c;.br (an<|s.k<s.m) (.ix s.k (M s.l)<|.ik b d<|.br (h !=(AA<|s.level-1)) (.rl s.sums<|.rl s.levels<|.nx {s with k:=e})<|.ix b (M s.BQ)<|.ix b (M s.most)<|.req ((gi s.most b)<=9223372036854775807)<|.br (an<|(HY (AG s.BQ b).2.2.2.1 (AG s.BQ b).2.2.2.2.1 (AG s.BQ b).2.2.2.2.2.1<|gi s.most b)<s.level) (.rl s.sums<|.rl s.levels<|.nx {s with k:=e})<|.ix b (M s.B6)<|.ik b d<|.ix b (M s.BN)<|.req ((1<=f.2.2.2.1/\f.2.2.2.1<=80/\1<=f.2.2.2.2.2.1/\f.2.2.2.2.2.1<=80)/\0<=c/\c<=1000)<|.ix b (M s.BN)<|.req ((1<=f.2.2.2.1/\f.2.2.2.1<=80/\1<=f.2.2.2.2.2.1/\f.2.2.2.2.2.1<=80)/\0<=(AA<|c-1)/\(AA<|c-1)<=1000)<|.req (0<=b/\b<(16:Y))<|.rl s.sums<|.rl s.levels<|.req (Z5.q<|TO s)<|.br (Bb (eV<|TO s)<|.ret) (.br (!(fG<|TO s).r) (.br X (.rl s.sums<|.rl s.levels<|.nx {s with some:=U,k:=e})<|.rl s.sums<|.rl s.levels<|.nx {s with k:=e})<|.req (0<=b/\b<(16:Y))<|.rl s.sums<|.rl s.levels<|.req (Us.q<|Sw s)<|.ik b d<|.br U (.rl g.sums<|.re d a<|.nx {s with some:=U,k:=e,sums:=g.sums,levels:=a})<|.rl g.sums<|.re d a<|.nx {s with k:=e,sums:=g.sums,levels:=a})<|.br (!U) (.br X (.rl s.sums<|.rl s.levels<|.nx {s with some:=U,k:=e})<|.rl s.sums<|.rl s.levels<|.nx {s with k:=e})<|.req (0<=b/\b<(16:Y))<|.rl s.sums<|.rl s.levels<|.req (Us.q<|Sw s)<|.ik b d<|.br U (.rl g.sums<|.re d a<|.nx {s with some:=U,k:=e,sums:=g.sums,levels:=a})<|.rl g.sums<|.re d a<|.nx {s with k:=e,sums:=g.sums,levels:=a})<|.rl s.sums<|.rl s.levels<|.so (.exit 2) s
def DF (s:D9):aWk:=[s.CI,s.CH,s.CG,s.CF,s.CE,s.CD,s.CC,s.CL,s.CK,s.CJ,s.C7,s.C6,s.CB,s.CA,s.C9,s.C8]
def UK (s:D9):Prop:=s.k=0/\(s.m=(M s.l:Y)/\s.m<=1000/\1<=s.level/\s.level<=81)/\s.B6=s.BQ/\OkT (DF s) s.BM s.B6 s.BN s.most s.l/\OkS s.BM s.l s.sums s.levels
def Hz (s:D9):Prop:=(0<=s.k/\s.k<=s.m)/\(s.m=(M s.l:Y)/\s.m<=1000/\1<=s.level/\s.level<=81)/\s.B6=s.BQ/\OkT (DF s) s.BM s.B6 s.BN s.most s.l/\OkS s.BM s.l s.sums s.levels
def TX (s:D9):aWe:=(s.m-s.k).toNat
def jf (x:Ex) (s s':D9):Prop:=x=.exit 2/\s'.k=s'.m
def akQ:∀s,UK s->Hz s:=by
 exact mQ
def Qk (s:D9) (hI:Hz s) (c1:s.k<s.m):letI a:=gi s.l s.k;gi s.l s.k∈s.l/\(0<=gi s.l s.k/\gi s.l s.k<16)/\gi s.l s.k<(M s.B6:Y)/\gi s.l s.k<(M s.BQ:Y)/\gi s.l s.k<(M s.BN:Y)/\gi s.l s.k<(M s.most:Y)/\gi s.l s.k<(M s.levels:Y)/\(0<=gi s.most a/\gi s.most a<=80)/\(0<=gi s.BN a/\gi s.BN a<=80):=by
 obtain ⟨⟨h0,h1⟩,⟨h2,h3,h4,h5⟩,h6,hT,hS⟩:=hI
 have hm:gi s.l s.k∈s.l:=Kc h0 A0
 obtain ⟨o1,o2,o3,o4⟩:=hT.ord _ hm;exact ⟨hm,o1,o2,A8,o3,o4,hS.Bz _ hm,hT.mo _<|Kc o1.1 o4,hT.al _<|Kc o1.1 o3⟩
def Qi {s:D9}(hI:Hz s) (c2:((s.levels.getD (gi s.l s.k).toNat<|Ty.dflt A7) !=(AA<|s.level-1))=X):s.levels.getD (gi s.l s.k).toNat 0=s.level-1:=by
 obtain ⟨_,⟨h2,h3,h4,h5⟩,_⟩:=hI
 have c2:((s.levels.getD (gi s.l s.k).toNat 0) !=(AA<|s.level-1))=false:=c2
 rw [AJ (x:=s.level-1)] at c2
 grind
def hU {s:D9}(hI:Hz s) (c2:s.levels.getD (gi s.l s.k).toNat 0=s.level-1):letI a:=(s.levels.getD (gi s.l s.k).toNat<|Ty.dflt A7)+1;AA a=s.level/\AA ((AA a)-1)=s.level-1:=by
 obtain ⟨_,⟨h2,h3,h4,h5⟩,_⟩:=hI
 have e:AA ((s.levels.getD (gi s.l s.k).toNat<|Ty.dflt A7)+1)=s.level:=by
  have:(s.levels.getD (gi s.l s.k).toNat<|Ty.dflt A7)=s.level-1:=c2
  rw [this,AJ (x:=s.level-1+1)];omega
 refine ⟨e,?_⟩;rw [e,AJ]
def WI {s:D9}(hI:Hz s) (c1:s.k<s.m) (c2:s.levels.getD (gi s.l s.k).toNat 0=s.level-1):letI a:=gi s.l s.k;(TO s).more=GA s.B6 s.BN a s.level/\(Sw s).more=GA s.B6 s.BN a s.level/\0<=GA s.B6 s.BN a s.level/\GA s.B6 s.BN a s.level<=10000:=by
 have hx:=Qk s hI c1
 obtain ⟨w1,w2⟩:=hU hI c2;obtain ⟨_,⟨h2,h3,h4,h5⟩,h6,hT,hS⟩:=hI
 have hb:=aSo (gs:=s.B6) (alive:=s.BN) (k:=s.level) (hT.has _ hx.1) hx.2.2.2.2.2.2.2.2 h4 h5
 have e:(TO s).more=GA s.B6 s.BN (gi s.l s.k) s.level:=by
  unfold TO;simp only [w2];simp only [w1]
  show AA (GA s.B6 s.BN (gi s.l s.k) s.level)=_
  rw [AJ]
 exact ⟨e,e,hb⟩
def aaF {s:D9}(hI:Hz s) (c1:s.k<s.m):((DF s).getD (gi s.l s.k).toNat []).Nodup/\(M ((DF s).getD (gi s.l s.k).toNat []):Y)<=1000/\∀r∈(DF s).getD (gi s.l s.k).toNat [],0<=r/\r<(M s.BM:Y):=by
 have hx:=Qk s hI c1
 obtain ⟨_,_,_,hT,_⟩:=hI;refine hT.row _ ?_
 have hl:=hT.ol
 grind
def WK {s:D9}(hI:Hz s) (c1:s.k<s.m) (c2:s.levels.getD (gi s.l s.k).toNat 0=s.level-1):Ys (TO s):=by
 obtain ⟨m1,m2,m3⟩:=WI hI c1 c2;obtain ⟨o1,o2,o3⟩:=aaF hI c1;obtain ⟨_,_,_,hT,hS⟩:=hI;exact ⟨rfl,SY _,o2,rfl,o3,hS.len,hS.bd,A8⟩
def qy {s:D9}(hI:Hz s) (c1:s.k<s.m) (c2:s.levels.getD (gi s.l s.k).toNat 0=s.level-1):Ur (Sw s):=by
 obtain ⟨m1,m2,m3⟩:=WI hI c1 c2;obtain ⟨o1,o2,o3⟩:=aaF hI c1;obtain ⟨_,_,_,hT,hS⟩:=hI;refine ⟨rfl,hS.bd,rfl,o2,λr hr=>?_,A8⟩
 have:=o3 r hr
 have hl:=hS.len
 show 0<=r/\r<(M s.sums:Y)
 omega
def aQK (s s':D9) (hI:Hz s) (c1:s.k<s.m) (ht:(s'.sums,s'.levels,s'.some)=G2 (DF s) s.BM s.B6 s.BN s.most s.level (s.sums,s.levels,s.some) (gi s.l s.k)) (hk:s'.k=AA (s.k+1))
  (h_m:s'.m=s.m) (h_l:s'.l=s.l) (h_v:s'.level=s.level) (h_g:s'.B6=s.B6) (h_c:s'.BQ=s.BQ) (h_r:s'.BM=s.BM) (h_a:s'.BN=s.BN) (h_w:s'.most=s.most) (h_O:DF s'=DF s):
  (Hz s'/\TX s'<TX s)/\(λs:D9=>swp (DF s) s.BM s.B6 s.BN s.most s.level (s.sums,s.levels,s.some)<|s.l.drop s.k.toNat) s'=(λs:D9=>swp (DF s) s.BM s.B6 s.BN s.most s.level (s.sums,s.levels,s.some)<|s.l.drop s.k.toNat) s:=by
 have hx:=Qk s hI c1
 obtain ⟨⟨h0,h1⟩,⟨h2,h3,h4,h5⟩,h6,hT,hS⟩:=hI;rw [AJ (x:=s.k+1)] at hk
 have e1:s'.sums=(G2 (DF s) s.BM s.B6 s.BN s.most s.level (s.sums,s.levels,s.some)<|gi s.l s.k).1:=B3 (·.1) ht
 have e2:s'.levels=(G2 (DF s) s.BM s.B6 s.BN s.most s.level (s.sums,s.levels,s.some)<|gi s.l s.k).2.1:=B3 (·.2.1) ht
 refine ⟨⟨⟨⟨A0,A0⟩,⟨A8,A0,A0,A0⟩,A8,A8,?_⟩,by simp only [TX];omega⟩,?_⟩
 ·rw [h_r,h_l,e1,e2]
  exact aQA hT hS hx.1 h4 h5
 ·simp only
  rw [h_O,h_r,h_g,h_a,h_w,h_v,h_l,ht,hk,(gi_step h0 (show s.k<M s.l by omega)).1]
  rfl
def qF (s s':D9) (hI:Hz s) (c1:s.k<s.m) (ht:(s'.sums,s'.levels,s'.some)=G2 (DF s) s.BM s.B6 s.BN s.most s.level (s.sums,s.levels,s.some) (gi s.l s.k)) (hk:s'.k=AA (s.k+1))
  (h_m:s'.m=s.m) (h_l:s'.l=s.l) (h_v:s'.level=s.level) (h_g:s'.B6=s.B6) (h_c:s'.BQ=s.BQ) (h_r:s'.BM=s.BM) (h_a:s'.BN=s.BN) (h_w:s'.most=s.most) (h_O:DF s'=DF s):DV (λs'=>Hz s'/\TX s'<TX s) (λx s'=>jf x s s') (.next s'):=(aQK s s' hI c1 ht hk h_m h_l h_v h_g h_c h_r h_a h_w h_O).1
def qE (s s':D9) (hI:Hz s) (c1:s.k<s.m) (ht:(s'.sums,s'.levels,s'.some)=G2 (DF s) s.BM s.B6 s.BN s.most s.level (s.sums,s.levels,s.some) (gi s.l s.k)) (hk:s'.k=AA (s.k+1))
  (h_m:s'.m=s.m) (h_l:s'.l=s.l) (h_v:s'.level=s.level) (h_g:s'.B6=s.B6) (h_c:s'.BQ=s.BQ) (h_r:s'.BM=s.BM) (h_a:s'.BN=s.BN) (h_w:s'.most=s.most) (h_O:DF s'=DF s):DV (λs'=>(λs:D9=>swp (DF s) s.BM s.B6 s.BN s.most s.level (s.sums,s.levels,s.some)<|s.l.drop s.k.toNat) s'=(λs:D9=>swp (DF s) s.BM s.B6 s.BN s.most s.level (s.sums,s.levels,s.some)<|s.l.drop s.k.toNat) s) (λ_ s'=>(λs:D9=>swp (DF s) s.BM s.B6 s.BN s.most s.level (s.sums,s.levels,s.some)<|s.l.drop s.k.toNat) s'=(λs:D9=>swp (DF s) s.BM s.B6 s.BN s.most s.level (s.sums,s.levels,s.some)<|s.l.drop s.k.toNat) s) (.next s'):=(aQK s s' hI c1 ht hk h_m h_l h_v h_g h_c h_r h_a h_w h_O).2
def ayl:Da Hz TX jf Tu:=by
 intro s hI;unfold Tu;dsimp only [T.rd,T.rl,T.rv];refine AH (λc1=>?_) λc1=>?_
 ·refine AH (λc2=>?_) (λc2=>?_)
  ·have c1:s.k<s.m:=AX
   have hn:¬(s.levels.getD (gi s.l s.k).toNat 0=s.level-1/\s.level<=Ff s.B6 (gi s.l s.k) (gi s.most<|gi s.l s.k)):=λh=>by
    exact aMc
   exact aNL
  ·refine AH (λc3=>?_) (λc3=>?_)
   ·have c1:s.k<s.m:=AX
    have hn:¬(s.levels.getD (gi s.l s.k).toNat 0=s.level-1/\s.level<=Ff s.B6 (gi s.l s.k) (gi s.most<|gi s.l s.k)):=λh=>by
     exact aMy
    exact aNL
   ·refine AH (λc4=>?_) (λc4=>?_)
    ·refine AH (λc5=>?_) (λc5=>?_)
     ·refine AH (λc6=>?_) (λc6=>?_)
      ·cases c6
      ·have c1:s.k<s.m:=AX
       have c2:=Qi hI c2
       have hp:s.levels.getD (gi s.l s.k).toNat 0=s.level-1/\s.level<=Ff s.B6 (gi s.l s.k) (gi s.most<|gi s.l s.k):=by
        exact mJ
       have hE:=WK hI c1 c2
       obtain ⟨m1,m2,_⟩:=WI hI c1 c2;rcases cf _ hE with ⟨q1,q2⟩ |⟨q1,q2,q3⟩
       ·rw [q1] at c4
        cases c4
       ·rw [m1] at q3
        have q3:((DF s).getD (gi s.l s.k).toNat []).all (Kt s.BM s.sums<|GA s.B6 s.BN (gi s.l s.k) s.level)=false:=q3
        exact qF s _ hI AX aOQ rfl rfl rfl rfl rfl rfl rfl rfl rfl rfl
     ·exact aNd
    ·refine AH (λc5=>?_) (λc5=>?_)
     ·exact aNl
     ·refine AH (λc6=>?_) (λc6=>?_)
      ·have c1:s.k<s.m:=AX
       have c2:=Qi hI c2
       have hp:s.levels.getD (gi s.l s.k).toNat 0=s.level-1/\s.level<=Ff s.B6 (gi s.l s.k) (gi s.most<|gi s.l s.k):=by
        exact mJ
       have hE:=WK hI c1 c2
       obtain ⟨m1,m2,_⟩:=WI hI c1 c2
       have hR:=qy hI c1 c2
       rcases cf _ hE with ⟨q1,q2⟩ |⟨q1,q2,q3⟩
       ·rw [m1] at q2
        have q2:((DF s).getD (gi s.l s.k).toNat []).all (Kt s.BM s.sums<|GA s.B6 s.BN (gi s.l s.k) s.level)=true:=q2
        have r1:=aQ9 _ hR
        rw [m2] at r1
        have r1:(Oh<|Sw s).sums=Kw s.sums (GA s.B6 s.BN (gi s.l s.k) s.level) ((DF s).getD (gi s.l s.k).toNat []):=r1
        have w1:=(hU hI c2).1
        exact qF s _ hI AX aOZ rfl rfl rfl rfl rfl rfl rfl rfl rfl rfl
       ·rw [q1] at c4
        cases c4
      ·cases c6
 ·have c1:s.m<=s.k:=AX
  have h0:=hI.1
  exact VM
def Rx:AS D9:=⟨0,129,[2,3,4,12,14,15,16,66,67,68],[],λs=>[.xl A7 s.most,.xl A7 s.order,.own 0 0,s.n,.own 1 0,s.level,s.some,.xl A7 s.l,s.m,s.k],λs=>[⟨[s.BG,s.Bf,s.C4,s.BQ,s.C5],28,.cl,X⟩,⟨[s.Hd,s.Hc,s.Ef,s.B6,s.He,.xl Eg s.BM,.xl A7 s.CI,.xl A7 s.CH,.xl A7 s.CG,.xl A7 s.CF,.xl A7 s.CE,.xl A7 s.CD,.xl A7 s.CC,.xl A7 s.CL,.xl A7 s.CK,.xl A7 s.CJ,.xl A7 s.C7,.xl A7 s.C6,.xl A7 s.CB,.xl A7 s.CA,.xl A7 s.C9,.xl A7 s.C8,.os 2 1 0<|M s.sums,.xl A7 s.BN,.os 3 1 0<|M s.levels],309,.cl,X⟩,bV 3 A7 s.sums,bV 3 A7 s.levels],λv b=>⟨Az A7 v 0,Az A7 v 1,AK v 3,AK v 5,DQ v 6,Az A7 v 7,AK v 8,AK v 9,AF Af b 0 0,AF .str b 0 1,AF Al b 0 2,AF Ah b 0 3,AF Am b 0 4,AF Af b 1 0,AF .str b 1 1,AF Al b 1 2,AF Ah b 1 3,AF Am b 1 4,AF Eg b 1 5,AF A7 b 1 6,AF A7 b 1 7,AF A7 b 1 8,AF A7 b 1 9,AF A7 b 1 10,AF A7 b 1 11,AF A7 b 1 12,AF A7 b 1 13,AF A7 b 1 14,AF A7 b 1 15,AF A7 b 1 16,AF A7 b 1 17,AF A7 b 1 18,AF A7 b 1 19,AF A7 b 1 20,AF A7 b 1 21,AF A7 b 1 23,Ac A7 b 2,Ac A7 b 3⟩,Tu,λs r=> {s with some:=r.some,k:=r.k,sums:=r.sums,levels:=r.levels},λs=>s,λ_ s=>s,[.exit 2],UK,Hz,TX⟩
abbrev Ht:=Rx.run
abbrev av1:=Rx.As
def ayI:Rq Hz Tu:=by
 intro s hI;refine ⟨λc1=>⟨?_,?_,?_,λc2=>⟨A9,A9,ak⟩,λc2=>⟨?_,?_,?_,λc3=>⟨A9,A9,ak⟩,λc3=>⟨?_,?_,?_,?_,?_,?_,?_,?_,A9,A9,?_,λc4=>⟨λc5=>⟨λc6=>⟨A9,A9,ak⟩,λc6=>⟨A9,A9,ak⟩⟩,λc5=>⟨?_,A9,A9,?_,?_,?_,λc7=>⟨A9,?_,ak⟩,λc7=>⟨A9,?_,ak⟩⟩⟩,λc4=>⟨λc8=>⟨λc9=>⟨A9,A9,ak⟩,λc9=>⟨A9,A9,ak⟩⟩,λc8=>⟨?_,A9,A9,?_,?_,?_,λc10=>⟨A9,?_,ak⟩,λc10=>⟨A9,?_,ak⟩⟩⟩⟩⟩⟩,λc1=>⟨A9,A9,ak⟩⟩
 ·(have:=hI.1;have:=hI.2.1.1;simp only [Aa] at c1;omega)
 iterate 9 · (have hx:=Qk s hI AX;omega)
 ·exact aMR
 ·exact mP
 ·exact aMR
 ·exact mP
 ·exact ⟨WK hI AX<|Qi hI c2,rfl,rfl⟩
 ·exact mP
 ·exact aNV
 iterate 2 · (have hx:=Qk s hI AX;omega)
 iterate 2 · exact ⟨rfl,AI⟩
 ·exact mP
 ·exact aNV
 iterate 2 · (have hx:=Qk s hI A8;omega)
 iterate 2 · exact ⟨rfl,AI⟩
def aBC:aWp:=[Wd,XB,XA,X8]
def amO:B1:=kI aBC<|la 8 func188 tS<|la 2 func184 eI<|la 3 func186 dT<|la 2 func184 WO<|l0 aBC
def uM:Rx.Ok:={}
def tH:Rx.Pf (jf):=⟨akQ,λs h=>rfl,ayl,ayI⟩
def arv:SA 0 aGD Rx:=s1 uM tH aBC amO
def asx:Fi UK Hz jf av1 Ht:=AS.fin uM tH
def ap3 (s:D9) (hE:UK s):(λs:D9=>swp (DF s) s.BM s.B6 s.BN s.most s.level (s.sums,s.levels,s.some)<|s.l.drop s.k.toNat) (Ht s)=(λs:D9=>swp (DF s) s.BM s.B6 s.BN s.most s.level (s.sums,s.levels,s.some)<|s.l.drop s.k.toNat) s:=by
 exact AS.Kh uM tH (λs:D9=>swp (DF s) s.BM s.B6 s.BN s.most s.level (s.sums,s.levels,s.some)<|s.l.drop s.k.toNat) (λs hI=>by
  show DV _ _ ((Tu s).rd s)
  unfold Tu;dsimp only [T.rd,T.rl];refine AH (λc1=>?_) λc1=>?_
  ·refine AH (λc2=>?_) (λc2=>?_)
   ·have c1:s.k<s.m:=AX
    have hn:¬(s.levels.getD (gi s.l s.k).toNat 0=s.level-1/\s.level<=Ff s.B6 (gi s.l s.k) (gi s.most<|gi s.l s.k)):=λh=>by
     exact aMc
    exact aNM
   ·refine AH (λc3=>?_) (λc3=>?_)
    ·have c1:s.k<s.m:=AX
     have hn:¬(s.levels.getD (gi s.l s.k).toNat 0=s.level-1/\s.level<=Ff s.B6 (gi s.l s.k) (gi s.most<|gi s.l s.k)):=λh=>by
      exact aMy
     exact aNM
    ·refine AH (λc4=>?_) (λc4=>?_)
     ·refine AH (λc5=>?_) (λc5=>?_)
      ·refine AH (λc6=>?_) (λc6=>?_)
       ·cases c6
       ·have c1:s.k<s.m:=AX
        have c2:=Qi hI c2
        have hp:s.levels.getD (gi s.l s.k).toNat 0=s.level-1/\s.level<=Ff s.B6 (gi s.l s.k) (gi s.most<|gi s.l s.k):=by
         exact mJ
        have hE:=WK hI c1 c2
        obtain ⟨m1,m2,_⟩:=WI hI c1 c2;rcases cf _ hE with ⟨q1,q2⟩ |⟨q1,q2,q3⟩
        ·rw [q1] at c4
         cases c4
        ·rw [m1] at q3
         have q3:((DF s).getD (gi s.l s.k).toNat []).all (Kt s.BM s.sums<|GA s.B6 s.BN (gi s.l s.k) s.level)=false:=q3
         exact qE s _ hI AX aOQ rfl rfl rfl rfl rfl rfl rfl rfl rfl rfl
      ·exact aNd
     ·refine AH (λc5=>?_) (λc5=>?_)
      ·exact aNl
      ·refine AH (λc6=>?_) (λc6=>?_)
       ·have c1:s.k<s.m:=AX
        have c2:=Qi hI c2
        have hp:s.levels.getD (gi s.l s.k).toNat 0=s.level-1/\s.level<=Ff s.B6 (gi s.l s.k) (gi s.most<|gi s.l s.k):=by
         exact mJ
        have hE:=WK hI c1 c2
        obtain ⟨m1,m2,_⟩:=WI hI c1 c2
        have hR:=qy hI c1 c2
        rcases cf _ hE with ⟨q1,q2⟩ |⟨q1,q2,q3⟩
        ·rw [m1] at q2
         have q2:((DF s).getD (gi s.l s.k).toNat []).all (Kt s.BM s.sums<|GA s.B6 s.BN (gi s.l s.k) s.level)=true:=q2
         have r1:=aQ9 _ hR
         rw [m2] at r1
         have r1:(Oh<|Sw s).sums=Kw s.sums (GA s.B6 s.BN (gi s.l s.k) s.level) ((DF s).getD (gi s.l s.k).toNat []):=r1
         have w1:=(hU hI c2).1
         exact qE s _ hI AX aOZ rfl rfl rfl rfl rfl rfl rfl rfl rfl rfl
        ·rw [q1] at c4
         cases c4
       ·cases c6
  ·rfl) s hE
def asw (s:D9) (hE:UK s):((Ht s).sums,(Ht s).levels,(Ht s).some)=swp (DF s) s.BM s.B6 s.BN s.most s.level (s.sums,s.levels,s.some) s.l:=by
 have q3:=ap3 s hE
 obtain ⟨s',hI,q1,q2⟩:=asx s hE;obtain ⟨h0,h1,_⟩:=hE;simp only at q3;rw [q2,show (Ht s).m=s.m from rfl,show (Ht s).l=s.l from rfl,F6 A0,h0] at q3;exact q3
structure JD where
 (most order:aWd)
 (n level:Y)
 BG:aWl
 Bf:aWg
 C4:aWr
 BQ:aWh
 C5:aWs
 Hd:aWl
 Hc:aWg
 Ef:aWr
 B6:aWh
 He:aWs
 BM:aWA
 (CI CH CG CF CE CD CC CL CK CJ C7 C6 CB CA C9 C8 BN sums levels:aWd)
def qi:=bN f150 0
def LI (s:JD):D9:=(⟨s.most,s.order,s.n,s.level,X,s.order,(M s.order:Y),0,s.BG,s.Bf,s.C4,s.BQ,s.C5,s.Hd,s.Hc,s.Ef,s.B6,s.He,s.BM,s.CI,s.CH,s.CG,s.CF,s.CE,s.CD,s.CC,s.CL,s.CK,s.CJ,s.C7,s.C6,s.CB,s.CA,s.C9,s.C8,s.BN,s.sums,s.levels⟩:D9)
def zP (s:JD):T (Rd JD):=letI a:=Ht<|LI s;.rl s.sums<|.rl s.levels<|.req (Rx.q<|LI s)<|.br (! a.some) (.rl a.sums<|.rl a.levels<|.so (.exit 0) {s with sums:=a.sums,levels:=a.levels})<|.rl a.sums<|.rl a.levels<|.nx {s with level:=AA<|s.level+1,sums:=a.sums,levels:=a.levels}
def Kn (s:JD):aWk:=[s.CI,s.CH,s.CG,s.CF,s.CE,s.CD,s.CC,s.CL,s.CK,s.CJ,s.C7,s.C6,s.CB,s.CA,s.C9,s.C8]
def kv (s:JD):Prop:=s.level=1/\(M s.order:Y)<=1000/\s.B6=s.BQ/\OkT (Kn s) s.BM s.B6 s.BN s.most s.order/\OkS s.BM s.order s.sums s.levels
def Tz (s:JD):Prop:=(1<=s.level/\s.level<=81)/\(M s.order:Y)<=1000/\s.B6=s.BQ/\OkT (Kn s) s.BM s.B6 s.BN s.most s.order/\OkS s.BM s.order s.sums s.levels
def tj (s:JD):aWe:=(82-s.level).toNat
def abh (x:Ex) (s s':JD):Prop:=x=.exit 0
def akP:∀s,kv s->Tz s:=by
 exact mQ
def aQI (s:JD) (hI:Tz s):UK (LI s):=by
 obtain ⟨⟨h0,h1⟩,h2,h3,hT,hS⟩:=hI;exact ⟨rfl,⟨rfl,h2,h0,h1⟩,h3,hT,hS⟩
def aaE (s:JD) (hI:Tz s):((Ht<|LI s).sums,(Ht<|LI s).levels,(Ht<|LI s).some)=swp (Kn s) s.BM s.B6 s.BN s.most s.level (s.sums,s.levels,X) s.order:=asw _<|aQI s hI
def ayk:Da Tz tj abh zP:=by
 intro s hI
 have hr:=aaE s hI
 obtain ⟨⟨h0,h1⟩,h2,h3,hT,hS⟩:=hI;refine AH (λc1=>rfl) λc1=>?_
 have c1:(Ht<|LI s).some=true:=A8
 have hk:=tR hT h0 h1 s.order (s.sums,s.levels,X) (λ_ h=>h) hS
 have hs:=pP (O:=Kn s) (rows:=s.BM) (gs:=s.B6) (alive:=s.BN) (most:=s.most) (level:=s.level) s.order (s.sums,s.levels,X)
 rw [<-hr] at hk hs
 have h80:s.level<=80:=by
  rcases hs c1 with h|h
  ·cases h
  ·exact h
 rw [AJ (x:=s.level+1)];exact ⟨⟨⟨A8,A8⟩,h2,h3,hT,hk⟩,by simp only [tj];omega⟩
def PV:AS JD:=⟨0,129,[2,3,4,12,14,15],[.ps 14 6 A7,.ps 14 7 A7,.ps 14 8 A7,.ps 14 9 A7,.ps 14 10 A7,.ps 14 11 A7,.ps 14 12 A7,.ps 14 13 A7,.ps 14 14 A7,.ps 14 15 A7,.ps 14 16 A7,.ps 14 17 A7,.ps 14 18 A7,.ps 14 19 A7,.ps 14 20 A7,.ps 14 21 A7],λs=>[.xl A7 s.most,.xl A7 s.order,.own 0 0,s.n,.own 1 0,s.level],λs=>[⟨[s.BG,s.Bf,s.C4,s.BQ,s.C5],28,.cl,X⟩,⟨[s.Hd,s.Hc,s.Ef,s.B6,s.He,.xl Eg s.BM,.xl A7 s.CI,.xl A7 s.CH,.xl A7 s.CG,.xl A7 s.CF,.xl A7 s.CE,.xl A7 s.CD,.xl A7 s.CC,.xl A7 s.CL,.xl A7 s.CK,.xl A7 s.CJ,.xl A7 s.C7,.xl A7 s.C6,.xl A7 s.CB,.xl A7 s.CA,.xl A7 s.C9,.xl A7 s.C8,.os 2 1 0<|M s.sums,.xl A7 s.BN,.os 3 1 0<|M s.levels],309,.cl,X⟩,bV 3 A7 s.sums,bV 3 A7 s.levels],λv b=>⟨Az A7 v 0,Az A7 v 1,AK v 3,AK v 5,AF Af b 0 0,AF .str b 0 1,AF Al b 0 2,AF Ah b 0 3,AF Am b 0 4,AF Af b 1 0,AF .str b 1 1,AF Al b 1 2,AF Ah b 1 3,AF Am b 1 4,AF Eg b 1 5,AF A7 b 1 6,AF A7 b 1 7,AF A7 b 1 8,AF A7 b 1 9,AF A7 b 1 10,AF A7 b 1 11,AF A7 b 1 12,AF A7 b 1 13,AF A7 b 1 14,AF A7 b 1 15,AF A7 b 1 16,AF A7 b 1 17,AF A7 b 1 18,AF A7 b 1 19,AF A7 b 1 20,AF A7 b 1 21,AF A7 b 1 23,Ac A7 b 2,Ac A7 b 3⟩,zP,λs r=> {s with level:=r.level,sums:=r.sums,levels:=r.levels},λs=>s,λ_ s=>s,[.exit 0],kv,Tz,tj⟩
abbrev Iw:=PV.run
def ayH:Rq Tz zP:=by
 intro s hI;refine ⟨A9,A9,?_,λc1=>⟨A9,A9,ak⟩,λc1=>⟨A9,A9,ak⟩⟩
 ·exact ⟨aQI s hI,rfl,rfl⟩
def Xo:aWp:=[Wd,XB,XA,X8]
def aBH:B1:=kI Xo<|la 8 func188 tS<|la 2 func184 eI<|la 3 func186 dT<|la 2 func184 WO<|l0 Xo
def aRU:PV.Ok:={}
def aR6:PV.Pf (abh):=⟨akP,λs h=>rfl,ayk,ayH⟩
def aru:SA 0 qi PV:=AS.snd aRU aR6 (ov (Γ:=Xo) (K:=aBH) (L:=(λi=>if i=13 then Rx.lp else Ak i)) (gk Xo) aBH.h qi (λb hb=>by
 rw [show BD _=[aGD] by kernel_rfl] at hb
 simp only [BA,Bu,Bs] at hb;subst hb;exact arv)) λs=>AU
def asu (s:JD) (hE:kv s):(Iw s).levels=shl (Kn s) s.BM s.B6 s.BN s.most s.order 81 1 s.sums s.levels:=by
 have hk:=AS.wQ aRU aR6 (V:=λs:JD=>shl (Kn s) s.BM s.B6 s.BN s.most s.order (82-s.level).toNat s.level s.sums s.levels) (K:=λ_ s' v=>s'.levels=v) (λs hI=>by
  have hr:=aaE s hI
  have hs:=pP (O:=Kn s) (rows:=s.BM) (gs:=s.B6) (alive:=s.BN) (most:=s.most) (level:=s.level) s.order (s.sums,s.levels,X)
  obtain ⟨⟨h0,h1⟩,h2,h3,hT,hS⟩:=hI;rw [<-hr] at hs
  have hf:(82-s.level).toNat=(81-s.level).toNat+1:=A0
  refine AH (λc1=>?_) λc1=>?_
  ·have c1:(Ht<|LI s).some=false:=A8
   show (Ht<|LI s).levels=shl _ _ _ _ _ _ _ _ _ _
   rw [hf,shl,<-hr,AE A8]
  ·have c1:(Ht<|LI s).some=true:=A8
   have h80:s.level<=80:=by
    rcases hs c1 with h|h
    ·cases h
    ·exact h
   rw [AJ (x:=s.level+1)]
   show shl (Kn s) s.BM s.B6 s.BN s.most s.order (82-(s.level+1)).toNat (s.level+1) (Ht<|LI s).sums (Ht<|LI s).levels=shl (Kn s) s.BM s.B6 s.BN s.most s.order (82-s.level).toNat s.level s.sums s.levels
   rw [hf,show 82-(s.level+1)=81-s.level by omega]
   conv=>rhs;rw [shl,<-hr]
   simp only [c1,Bp]) s hE
 rw [hk,hE.1];rfl
structure PL where
 l:aWh
 (m k:Y)
 Hd:aWl
 Hc:aWg
 Ef:aWr
 B6:aWh
 He:aWs
 BM:aWA
 (CI CH CG CF CE CD CC CL CK CJ C7 C6 CB CA C9 C8 BN out sums levels:aWd)
def aGC:=bN f150 1
def zO (s:PL):T (Rd PL):=letI a:=s.levels.getD s.k.toNat<|Ty.dflt A7;letI c:=AG s.l s.k;letI b:=s.out.set s.k.toNat<|EA c.2.2.2.1 c.2.2.2.2.2.1 a;.br (an<|s.k<s.m) (.ix s.k (M s.l)<|.ik s.k (M s.levels)<|.req ((1<=c.2.2.2.1/\c.2.2.2.1<=80/\1<=c.2.2.2.2.2.1/\c.2.2.2.2.2.1<=80)/\0<=a/\a<=1000)<|.ik s.k (M s.out)<|.re (M s.out) b<|.rl s.sums<|.rl s.levels<|.nx {s with k:=AA<|s.k+1,out:=b})<|.rl s.out<|.rl s.sums<|.rl s.levels<|.so (.exit 4) s
def ku (s:PL):Prop:=s.k=0/\s.out=aq (M s.l) 0/\(s.m=(M s.l:Y)/\s.m<=1000/\M s.levels=M s.l)/\(∀k:Y,0<=k->k<s.m->Dr (AG s.l k).2.2.2.1 (AG s.l k).2.2.2.2.1 (AG s.l k).2.2.2.2.2.1=U)/\(∀k:aWe,0<=s.levels.getD k 0/\s.levels.getD k 0<=80)
def Yk (s:PL):Prop:=(0<=s.k/\s.k<=s.m)/\s.out=SD s.l s.levels s.k.toNat++aq (M s.l-s.k.toNat) 0/\(s.m=(M s.l:Y)/\s.m<=1000/\M s.levels=M s.l)/\(∀k:Y,0<=k->k<s.m->Dr (AG s.l k).2.2.2.1 (AG s.l k).2.2.2.2.1 (AG s.l k).2.2.2.2.2.1=U)/\(∀k:aWe,0<=s.levels.getD k 0/\s.levels.getD k 0<=80)
def ti (s:PL):aWe:=(s.m-s.k).toNat
def aBp (x:Ex) (s s':PL):Prop:=x=.exit 4/\s'.out=Fa s'.l s'.levels
def akO:∀s,ku s->Yk s:=by
 exact aNv
def ayj:Da Yk ti aBp zO:=by
 intro s hI;obtain ⟨⟨h0,h1⟩,h2,⟨h3,h4,h5⟩,h6,h7⟩:=hI;refine AH (λc1=>?_) λc1=>?_
 ·have c1:s.k<s.m:=A8
  rw [AJ (x:=s.k+1)];refine ⟨⟨⟨A8,A8⟩,?_,⟨h3,h4,h5⟩,h6,h7⟩,by simp only [ti];omega⟩
  have e:M s.l-s.k.toNat=(M s.l-(s.k+1).toNat)+1:=A0
  have hs:=aIK (xs:=SD s.l s.levels s.k.toNat) (r:=M s.l-(s.k+1).toNat) (v:=D7 s.l s.k<|s.levels.getD s.k.toNat 0)
  rw [acv] at hs;rw [h2,e,show (s.k+1).toNat=s.k.toNat+1 by omega,afH,CP h0]
  rw [show (s.k+1).toNat=s.k.toNat+1 by omega] at hs
  exact hs
 ·have c1:s.m<=s.k:=A8
  refine ⟨rfl,?_⟩;rw [h2,show s.k.toNat=M s.l by omega,m6,List.replicate_zero,Gb]
  rfl
def Nu:AS PL:=⟨0,129,[14,19,108,109,110],[],λs=>[.own 0 0,.os 1 1 0<|M s.out,s.l,s.m,s.k],λs=>[⟨[s.Hd,s.Hc,s.Ef,s.B6,s.He,.xl Eg s.BM,.xl A7 s.CI,.xl A7 s.CH,.xl A7 s.CG,.xl A7 s.CF,.xl A7 s.CE,.xl A7 s.CD,.xl A7 s.CC,.xl A7 s.CL,.xl A7 s.CK,.xl A7 s.CJ,.xl A7 s.C7,.xl A7 s.C6,.xl A7 s.CB,.xl A7 s.CA,.xl A7 s.C9,.xl A7 s.C8,.os 2 1 0<|M s.sums,.xl A7 s.BN,.os 3 1 0<|M s.levels],309,.cl,X⟩,bV 3 A7 s.out,bV 3 A7 s.sums,bV 3 A7 s.levels],λv b=>⟨Az Ah v 2,AK v 3,AK v 4,AF Af b 0 0,AF .str b 0 1,AF Al b 0 2,AF Ah b 0 3,AF Am b 0 4,AF Eg b 0 5,AF A7 b 0 6,AF A7 b 0 7,AF A7 b 0 8,AF A7 b 0 9,AF A7 b 0 10,AF A7 b 0 11,AF A7 b 0 12,AF A7 b 0 13,AF A7 b 0 14,AF A7 b 0 15,AF A7 b 0 16,AF A7 b 0 17,AF A7 b 0 18,AF A7 b 0 19,AF A7 b 0 20,AF A7 b 0 21,AF A7 b 0 23,Ac A7 b 1,Ac A7 b 2,Ac A7 b 3⟩,zO,λs r=> {s with k:=r.k,out:=r.out},λs=>s,λ_ s=>s,[.exit 4],ku,Yk,ti⟩
abbrev QO:=Nu.run
abbrev auz:=Nu.As
def ayG:Rq Yk zO:=by
 intro s hI;refine ⟨λc1=>⟨?_,?_,?_,?_,?_,?_,?_,A9,A9,ak⟩,λc1=>⟨A9,A9,A9,ak⟩⟩
 iterate 3 · (obtain ⟨⟨h0,h1⟩,h2,⟨h3,h4,h5⟩,h6,h7⟩:=hI;(try simp only [Aa] at c1);have hl:M s.out=M s.l:=aPZ;first|omega|exact ⟨rfl,AI⟩ |exact ⟨rfl,rfl⟩)
 ·(have hh:=IQ.1<|hI.2.2.2.1 s.k hI.1.1 A8;have hb:=hI.2.2.2.2 s.k.toNat;refine ⟨A0,?_⟩;show 0<=s.levels.getD s.k.toNat 0/\s.levels.getD s.k.toNat 0<=1000;omega)
 iterate 3 · (obtain ⟨⟨h0,h1⟩,h2,⟨h3,h4,h5⟩,h6,h7⟩:=hI;(try simp only [Aa] at c1);have hl:M s.out=M s.l:=aPZ;first|omega|exact ⟨rfl,AI⟩ |exact ⟨rfl,rfl⟩)
def aRT:Nu.Ok:={}
def aR5:Nu.Pf (aBp):=⟨akO,λs h=>rfl,ayj,ayG⟩
def ars:SA 0 aGC Nu:=s1 aRT aR5 Xo aBH
def arG:Fi ku Yk aBp auz QO:=AS.fin aRT aR5
def aIu:aWf->T LV
 | .agg a::r=>s5 a λcs os ks gs bs=>(match r with
  | [.xl (.int J) al,.xl (.int J) mo,.xl (.int J) od]=> .ok (.AO [.xl A7<|Fe cs os ks gs bs al mo od,shE cs os ks gs bs al mo od])
  |_=> .no)
 |_=> .no
def N5 (cs:aWl) (os:aWg) (ks:aWr) (gs:aWh) (bs:aWs) (al mo od:aWd):EI:=letI a:=Jo cs os ks gs bs;(⟨al,a,(M a:Y),0,cs,os,ks,gs,bs,cs,os,ks,gs,bs,a,al,([]:aWd),([]:aWd),([]:aWd),([]:aWd),([]:aWd),([]:aWd),([]:aWd),([]:aWd),([]:aWd),([]:aWd),([]:aWd),([]:aWd),([]:aWd),([]:aWd),([]:aWd),([]:aWd),aq (M a:Y).toNat (0:Y),aq (M al:Y).toNat (0:Y)⟩:EI)
def LJ (cs:aWl) (os:aWg) (ks:aWr) (gs:aWh) (bs:aWs) (al mo od:aWd):JD:=letI a:=Il<|N5 cs os ks gs bs al mo od;(⟨mo,od,(M gs:Y),1,cs,os,ks,gs,bs,cs,os,ks,gs,bs,Jo cs os ks gs bs,(a.CI.drop 0).take<|M a.CI,(a.CH.drop 0).take<|M a.CH,(a.CG.drop 0).take<|M a.CG,(a.CF.drop 0).take<|M a.CF,(a.CE.drop 0).take<|M a.CE,(a.CD.drop 0).take<|M a.CD,(a.CC.drop 0).take<|M a.CC,(a.CL.drop 0).take<|M a.CL,(a.CK.drop 0).take<|M a.CK,(a.CJ.drop 0).take<|M a.CJ,(a.C7.drop 0).take<|M a.C7,(a.C6.drop 0).take<|M a.C6,(a.CB.drop 0).take<|M a.CB,(a.CA.drop 0).take<|M a.CA,(a.C9.drop 0).take<|M a.C9,(a.C8.drop 0).take<|M a.C8,al,a.sums,aq (M al:Y).toNat (0:Y)⟩:JD)
def aD4 (cs:aWl) (os:aWg) (ks:aWr) (gs:aWh) (bs:aWs) (al mo od:aWd):PL:=letI a:=Il<|N5 cs os ks gs bs al mo od;letI b:=Iw<|LJ cs os ks gs bs al mo od;(⟨gs,(M gs:Y),0,cs,os,ks,gs,bs,Jo cs os ks gs bs,(a.CI.drop 0).take<|M a.CI,(a.CH.drop 0).take<|M a.CH,(a.CG.drop 0).take<|M a.CG,(a.CF.drop 0).take<|M a.CF,(a.CE.drop 0).take<|M a.CE,(a.CD.drop 0).take<|M a.CD,(a.CC.drop 0).take<|M a.CC,(a.CL.drop 0).take<|M a.CL,(a.CK.drop 0).take<|M a.CK,(a.CJ.drop 0).take<|M a.CJ,(a.C7.drop 0).take<|M a.C7,(a.C6.drop 0).take<|M a.C6,(a.CB.drop 0).take<|M a.CB,(a.CA.drop 0).take<|M a.CA,(a.C9.drop 0).take<|M a.C9,(a.C8.drop 0).take<|M a.C8,al,aq (M gs:Y).toNat (0:Y),b.sums,b.levels⟩:PL)
def aBB:aWp:=[Wd,XB,XA,X8]
def amN:B1:=kI aBB<|la 8 func188 tS<|la 2 func184 eI<|la 3 func186 dT<|la 2 func184 WO<|l0 aBB
def aPk:=vm (S:=aIu) func150 aBB amN (L:=(λi=>if i=11 then PV.lp else if i=21 then Nu.lp else Ak i)) (λb hb=>by
 rw [show BD _=[qi,aGC] by kernel_rfl] at hb
 simp only [BA,Bu,Bs] at hb;rcases hb with rfl|rfl
 ·exact aru
 ·exact ars) (λargs lv h=>by
 unfold aIu at h;split at h
 case h_2=>cases h
 replace h:=IT h
 obtain ⟨cs,os,ks,gs,bs,rfl,h⟩:=h;split at h
 ·rename_i al mo od
  refine Aq (letI b:=aD4 cs os ks gs bs al mo od;letI d:=(M (Jo cs os ks gs bs):Y);letI g:=LJ cs os ks gs bs al mo od;letI j:=(M gs:Y);letI l:=(M al:Y);letI n:=((QO b).out.drop 0).take<|M (QO b).out;letI o:=N5 cs os ks gs bs al mo od;letI s:=(aq d.toNat (0:Y));letI t:=(aq j.toNat (0:Y));letI u:=(M mo:Y);letI w:=(Bb (dO (⟨X,mo,u,0,cs,os,ks,gs,bs⟩:JA))<|.ret);letI x:=(Tg.q (⟨X,mo,u,0,cs,os,ks,gs,bs⟩:JA));letI y:=(dN (⟨X,mo,u,0,cs,os,ks,gs,bs⟩:JA));letI z:=j<=1000;letI a:=Il o;letI f:=(aq l.toNat (0:Y));.br ((OH cs os ks gs bs) !=0) (.ok<|.AO [.xl A7 ([]:aWd),(1:Y)])<|.br (l !=j) (.ok<|.AO [.xl A7 ([]:aWd),(1:Y)])<|.br (u !=j) (.ok<|.AO [.xl A7 ([]:aWd),(1:Y)])<|.req (Tg.q (⟨X,al,l,0,cs,os,ks,gs,bs⟩:JA))<|.br (Bb (dO (⟨X,al,l,0,cs,os,ks,gs,bs⟩:JA))<|.ret) (.br (!(dN (⟨X,al,l,0,cs,os,ks,gs,bs⟩:JA)).r) (.ok<|.AO [.xl A7 ([]:aWd),(1:Y)])<|.req x<|.br w (.br (! y.r) (.ok<|.AO [.xl A7 ([]:aWd),(1:Y)])<|.req z<|.br (!(Gw od j)) (.ok<|.AO [.xl A7 ([]:aWd),(1:Y)])<|.rm 8 d<|.rm 8 l<|.r0 Int<|.r0 Int<|.r0 Int<|.r0 Int<|.r0 Int<|.r0 Int<|.r0 Int<|.r0 Int<|.r0 Int<|.r0 Int<|.r0 Int<|.r0 Int<|.r0 Int<|.r0 Int<|.r0 Int<|.r0 Int<|.re d.toNat s<|.re l.toNat f<|.req (PX.q o)<|.rz a.CI<|.rz a.CH<|.rz a.CG<|.rz a.CF<|.rz a.CE<|.rz a.CD<|.rz a.CC<|.rz a.CL<|.rz a.CK<|.rz a.CJ<|.rz a.C7<|.rz a.C6<|.rz a.CB<|.rz a.CA<|.rz a.C9<|.rz a.C8<|.rl a.sums<|.rl f<|.req (PV.q g)<|.rm 8 j<|.re j.toNat t<|.rl (Iw g).sums<|.rl (Iw g).levels<|.req (Nu.q b)<|.rz (QO b).out<|.ok<|.AO [.xl A7 n,(0:Y)])<|.br (!U) (.ok<|.AO [.xl A7 ([]:aWd),(1:Y)])<|.req z<|.br (!(Gw od j)) (.ok<|.AO [.xl A7 ([]:aWd),(1:Y)])<|.rm 8 d<|.rm 8 l<|.r0 Int<|.r0 Int<|.r0 Int<|.r0 Int<|.r0 Int<|.r0 Int<|.r0 Int<|.r0 Int<|.r0 Int<|.r0 Int<|.r0 Int<|.r0 Int<|.r0 Int<|.r0 Int<|.r0 Int<|.r0 Int<|.re d.toNat s<|.re l.toNat f<|.req (PX.q o)<|.rz a.CI<|.rz a.CH<|.rz a.CG<|.rz a.CF<|.rz a.CE<|.rz a.CD<|.rz a.CC<|.rz a.CL<|.rz a.CK<|.rz a.CJ<|.rz a.C7<|.rz a.C6<|.rz a.CB<|.rz a.CA<|.rz a.C9<|.rz a.C8<|.rl a.sums<|.rl f<|.req (PV.q g)<|.rm 8 j<|.re j.toNat t<|.rl (Iw g).sums<|.rl (Iw g).levels<|.req (Nu.q b)<|.rz (QO b).out<|.ok<|.AO [.xl A7 n,(0:Y)])<|.br (!U) (.ok<|.AO [.xl A7 ([]:aWd),(1:Y)])<|.req x<|.br w (.br (! y.r) (.ok<|.AO [.xl A7 ([]:aWd),(1:Y)])<|.req z<|.br (!(Gw od j)) (.ok<|.AO [.xl A7 ([]:aWd),(1:Y)])<|.rm 8 d<|.rm 8 l<|.r0 Int<|.r0 Int<|.r0 Int<|.r0 Int<|.r0 Int<|.r0 Int<|.r0 Int<|.r0 Int<|.r0 Int<|.r0 Int<|.r0 Int<|.r0 Int<|.r0 Int<|.r0 Int<|.r0 Int<|.r0 Int<|.re d.toNat s<|.re l.toNat f<|.req (PX.q o)<|.rz a.CI<|.rz a.CH<|.rz a.CG<|.rz a.CF<|.rz a.CE<|.rz a.CD<|.rz a.CC<|.rz a.CL<|.rz a.CK<|.rz a.CJ<|.rz a.C7<|.rz a.C6<|.rz a.CB<|.rz a.CA<|.rz a.C9<|.rz a.C8<|.rl a.sums<|.rl f<|.req (PV.q g)<|.rm 8 j<|.re j.toNat t<|.rl (Iw g).sums<|.rl (Iw g).levels<|.req (Nu.q b)<|.rz (QO b).out<|.ok<|.AO [.xl A7 n,(0:Y)])<|.br (!U) (.ok<|.AO [.xl A7 ([]:aWd),(1:Y)])<|.req z<|.br (!(Gw od j)) (.ok<|.AO [.xl A7 ([]:aWd),(1:Y)])<|.rm 8 d<|.rm 8 l<|.r0 Int<|.r0 Int<|.r0 Int<|.r0 Int<|.r0 Int<|.r0 Int<|.r0 Int<|.r0 Int<|.r0 Int<|.r0 Int<|.r0 Int<|.r0 Int<|.r0 Int<|.r0 Int<|.r0 Int<|.r0 Int<|.re d.toNat s<|.re l.toNat f<|.req (PX.q o)<|.rz a.CI<|.rz a.CH<|.rz a.CG<|.rz a.CF<|.rz a.CE<|.rz a.CD<|.rz a.CC<|.rz a.CL<|.rz a.CK<|.rz a.CJ<|.rz a.C7<|.rz a.C6<|.rz a.CB<|.rz a.CA<|.rz a.C9<|.rz a.C8<|.rl a.sums<|.rl f<|.req (PV.q g)<|.rm 8 j<|.re j.toNat t<|.rl (Iw g).sums<|.rl (Iw g).levels<|.req (Nu.q b)<|.rz (QO b).out<|.ok<|.AO [.xl A7 n,(0:Y)]) ?_;obtain rfl:=h
  have err:Fx cs os ks gs bs al mo od=X->LV.AO [.xl A7 ([]:aWd),.v<|ag J 1]=LV.AO [.xl A7<|Fe cs os ks gs bs al mo od,.v<|ag J<|shE cs os ks gs bs al mo od]:=λh=>by
   unfold Fe shE;rw [h];rfl
  have no_:∀ {p:Prop},¬p->(Fx cs os ks gs bs al mo od=U->p)->Fx cs os ks gs bs al mo od=false:=λh1 h2=>by
   rw [IM];exact λh=>h1<|h2 h
  refine ⟨λc=>err<|no_ (p:=BH cs os ks gs bs=U) (λh=>?_) λh=>(LM.1 h).1,λc=>?_⟩
  ·unfold OH at c
   rw [h] at c
   simp at c
  have hv:BH cs os ks gs bs=true:=by
   cases e:BH cs os ks gs bs with
   |true=>rfl
   |false=>unfold OH at c;rw [e] at c;simp at c
  have hl:=(DK.1 hv).1
  refine ⟨λc2=>err<|no_ (p:=M al=M gs) (by simp at c2;omega) λh=>(LM.1 h).2.1,λc2=>?_⟩
  refine ⟨λc3=>err<|no_ (p:=M mo=M gs) nB λh=>(LM.1 h).2.2.1,λc3=>?_⟩
  have c2:M al=M gs:=by simp at c2;omega
  have c3:M mo=M gs:=nB
  refine Jx ⟨⟨rfl,AZ,AZ,rfl⟩,rfl,rfl⟩ λhE1=>?_
  rcases aJi _ hE1.1 with ⟨q1,q2⟩ |⟨q1,q2,q3⟩
  rotate_left
  ·rw [q1,q2]
   refine ⟨λ_=>⟨λ_=>err<|no_ (p:=al.all I0=U) (by have q3:al.all I0=false:=q3;rw [q3];simp) λh=>(LM.1 h).2.2.2.1,λh=>Ao⟩,λh=>Ao⟩
  rw [q1];refine ⟨λh=>Ao,λ_=>⟨λh=>Ao,λ_=>?_⟩⟩
  have q2:al.all I0=true:=q2
  refine Jx ⟨⟨rfl,AZ,AZ,rfl⟩,rfl,rfl⟩ λhE2=>?_
  rcases aJi _ hE2.1 with ⟨p1,p2⟩ |⟨p1,p2,p3⟩
  rotate_left
  ·rw [p1,p2]
   refine ⟨λ_=>⟨λ_=>err<|no_ (p:=mo.all I0=U) (by have p3:mo.all I0=false:=p3;rw [p3];simp) λh=>(LM.1 h).2.2.2.2.1,λh=>Ao⟩,λh=>Ao⟩
  rw [p1];refine ⟨λh=>Ao,λ_=>⟨λh=>Ao,λ_=>?_⟩⟩
  have p2:mo.all I0=true:=p2
  refine ⟨A0,λc4=>err<|no_ (p:=Gw od (M gs:Y)=U) (by simp at c4;rw [c4];simp) λh=>(LM.1 h).2.2.2.2.2,λc4=>?_⟩
  have c4:Gw od (M gs:Y)=true:=yq
  have hok:Fx cs os ks gs bs al mo od=true:=LM.2 ⟨hv,c2,c3,q2,p2,c4⟩
  obtain ⟨hT,hS⟩:=alO hok
  have er:Jo cs os ks gs bs=Cy cs gs (M cs):=by unfold Jo;rw [AD hv]
  have hrl:=pn (cs:=cs) (gs:=gs) (k:=M cs)
  have hod:M od=M gs:=by
   unfold Gw at c4;simp only [AY,Aa] at c4;omega
  have hrn:(M (Jo cs os ks gs bs):Y)<=1000:=by rw [er];omega
  refine ⟨A0,A0,A9,A9,A9,A9,A9,A9,A9,A9,A9,A9,A9,A9,A9,A9,A9,A9,⟨rfl,AI⟩,⟨rfl,AI⟩,?_⟩
  have hN:UL (N5 cs os ks gs bs al mo od):=by
   refine ⟨rfl,λo ho=>?_,rfl,rfl,hrn,λr hr=>?_,hT.al,by show M (aq _ _)=M (Jo cs os ks gs bs);simp⟩
   ·simpa [Fu,N5] using ho
   ·have hr:r∈Cy cs gs (M cs):=by rw [<-er];exact hr
    obtain ⟨m1,m2,m3,m4⟩:=row_mem hr;refine ⟨A0,λm hm=>?_⟩
    have:=m2 m hm
    show 0<=m/\m<16/\m<(M al:Y)
    omega
  obtain ⟨nr1,nr2⟩:=asa _ hN
  have nr1:Fu (Il<|N5 cs os ks gs bs al mo od)=OL (Cy cs gs<|M cs):=by rw [nr1,<-er];rfl
  have nr2:(Il<|N5 cs os ks gs bs al mo od).sums=SM al (Cy cs gs<|M cs):=by rw [nr2,<-er];rfl
  refine ⟨⟨hN,rfl,rfl⟩,A0,A0,A0,A0,A0,A0,A0,A0,A0,A0,A0,A0,A0,A0,A0,A0,A9,A9,?_⟩
  have eO:Kn (LJ cs os ks gs bs al mo od)=Fu (Il<|N5 cs os ks gs bs al mo od):=by
   unfold Kn Fu LJ;simp only [CT,El]
  have hSh:kv (LJ cs os ks gs bs al mo od):=by
   refine ⟨rfl,by show (M od:Y)<=1000;omega,rfl,?_,?_⟩
   ·show OkT (Kn<|LJ cs os ks gs bs al mo od) (Jo cs os ks gs bs) gs al mo od
    rw [eO,nr1,er];exact hT
   ·show OkS (Jo cs os ks gs bs) od (Il<|N5 cs os ks gs bs al mo od).sums _
    rw [nr2,er];exact hS
  have sr:=asu _ hSh
  have sr:(Iw<|LJ cs os ks gs bs al mo od).levels=shV (Cy cs gs<|M cs) gs al mo od:=by
   rw [sr]
   show shl (Kn<|LJ cs os ks gs bs al mo od) (Jo cs os ks gs bs) gs al mo od 81 1 (Il<|N5 cs os ks gs bs al mo od).sums _=_
   rw [eO,nr1,nr2,er];rfl
  obtain ⟨sl,sb⟩:=aQJ hT 81 1 _ _ A0 A0 hS;refine ⟨⟨hSh,rfl,rfl⟩,A0,⟨rfl,AI⟩,A9,A9,?_⟩
  have hX:ku (aD4 cs os ks gs bs al mo od):=by
   refine ⟨rfl,rfl,⟨rfl,aPE,?_⟩,λk h0 h1=>?_,?_⟩
   ·show M (Iw<|LJ cs os ks gs bs al mo od).levels=M gs
    rw [sr];exact sl.trans (by rw [Ci];exact c2)
   ·have:=Ol hv h0 h1
    unfold GO chW at this;simp only [AY,BV] at this
    show Dr (AG gs k).2.2.2.1 (AG gs k).2.2.2.2.1 (AG gs k).2.2.2.2.2.1=U
    exact IQ.2 A0
   ·show ∀k:aWe,0<=(Iw<|LJ cs os ks gs bs al mo od).levels.getD k 0/\(Iw<|LJ cs os ks gs bs al mo od).levels.getD k 0<=80
    rw [sr];exact sb
  refine ⟨⟨hX,rfl,rfl⟩,A0,?_⟩;obtain ⟨s',_,_,x2⟩:=arG _ hX
  have x2:(QO<|aD4 cs os ks gs bs al mo od).out=Fa gs (Iw<|LJ cs os ks gs bs al mo od).levels:=x2
  show LV.AO [LV.xl _ _,_]=_
  rw [CT,El,x2,sr];unfold Fe shE;rw [AD hok,AD hok]
 ·cases h)
structure PB where
 m:aWh
 (k i:Y)
 out:aWd
def aGp:=bN f149 0
def aA7 (s:PB):T (Rd PB):=letI a:=s.out.set s.i.toNat (AG s.m s.i).2.2.2.2.2.2.1;.br (an<|s.i<s.k) (.ix s.i (M s.m)<|.ik s.i (M s.out)<|.re (M s.out) a<|.nx {s with i:=AA<|s.i+1,out:=a})<|.rl s.out<|.so (.exit 0) s
def kU (s:PB):Prop:=s.i=0/\s.k=(M s.m:Y)/\s.k<=1000/\M s.out=M s.m/\(∀j,0<=j->j<s.k->gi s.out j=0)/\True
def ZJ (s:PB):Prop:=(0<=s.i/\s.i<=s.k)/\s.k=(M s.m:Y)/\s.k<=1000/\M s.out=M s.m/\(∀j,0<=j->j<s.k->gi s.out j=if j<s.i then Cw (AG s.m j) else 0)/\True
def vC (s:PB):aWe:=(s.k-s.i).toNat
def aBh (x:Ex) (s s':PB):Prop:=x=.exit 0/\s'.out=HQ (M s'.m) (λj=>Cw<|AG s'.m j)
def anO:∀s,kU s->ZJ s:=by
 exact Sm
def ajB:Da ZJ vC aBh aA7:=by
 intro s hI;obtain ⟨⟨h0,h1⟩,h2,h3,h4,h5,h6⟩:=hI;refine AH (λc1=>?_) λc1=>?_
 ·have c1:s.i<s.k:=AX
  rw [AJ (x:=s.i+1)];refine ⟨⟨⟨A8,A8⟩,h2,h3,A8,λj j0 j1=>?_,h6⟩,by simp only [vC];omega⟩
  simp only;rw [J9 h0 A0 j0];exact mA
 ·exact aJ
def Pr:AS PB:=⟨0,31,[3,17,18,19],[],λs=>[.os 0 1 0<|M s.out,s.m,s.k,s.i],λs=>[bV 3 A7 s.out],λv b=>⟨Az Ah v 1,AK v 2,AK v 3,Ac A7 b 0⟩,aA7,λs r=> {r with m:=s.m,k:=s.k},λs=>s,λ_ s=>s,[.exit 0],kU,ZJ,vC⟩
abbrev aDf:=Pr.run
abbrev auc:=Pr.As
def azB:Rq ZJ aA7:=by
 exact xS
def aBA:aWp:=[]
def aS5:Pr.Ok:={}
def aRf:Pr.Pf (aBh):=⟨anO,λs h=>rfl,ajB,azB⟩
def ark:SA 0 aGp Pr:=s1 aS5 aRf aBA kN
def aw3:Fi kU ZJ aBh auc aDf:=AS.fin aS5 aRf
def aK9:aWf->T LV
 | [.xq 9 q0]=>(match ([q0 0,q0 1,q0 2,q0 3,q0 4,q0 5,q0 6,q0 7,q0 8]:aWf) with
  | [.xl (.pair .str (.pair (.int J) (.pair (.int J) (.pair (.int J) (.pair (.pair (.int J) (.int J)) (.pair (.int J) (.pair (.int J) (.pair (.int J) (.pair (.int J) (.int J)))))))))) cs,.xl (.str) os,.xl (.pair .str (.pair (.int J) (.pair (.int J) (.int J)))) ks,.xl (.pair .str (.pair (.int J) (.pair (.int J) (.pair (.int J) (.pair (.int J) (.pair (.int J) (.pair (.int J) (.int J)))))))) gs,.xl (.pair .str (.int J)) bs,.xl (.pair (.int J) (.pair (.int J) (.pair (.int J) (.pair (.int J) (.int J))))) l,.xl (.pair .bool (.pair (.int J) (.pair (.int J) (.int J)))) d,.v (ag J t),.xl (.int J) od]=> .req ((M gs:Y)<=1000) (.ok<|.xl A7<|Bv gs)
  |_=> .no)
 |_=> .no
def au0 (cs:aWl) (os:aWg) (ks:aWr) (gs:aWh) (bs:aWs) (l:aWn) (d:aWB) (t:Y) (od:aWd):letI c:=(M gs:Y);letI a:=(aq c.toNat (0:Y));letI b:=(aDf (⟨gs,c,(0:Y),a⟩:PB));Bl prog AV (aBA) kN (λi=>if i=3 then Pr.lp else Ak i) f149 [xQ 9 [cs,os,ks,gs,bs,l,d,t,.xl A7 od]]=.rm 8 c (.re c.toNat a<|.req (Pr.q (⟨gs,c,(0:Y),a⟩:PB))<|.rz b.out<|.ok<|.xl A7<|(b.out.drop 0).take<|M b.out):=AU
def awp:=vm (S:=aK9) func149 aBA kN (L:=(λi=>if i=3 then Pr.lp else Ak i)) (λb hb=>by
 rw [show BD _=[aGp] by kernel_rfl] at hb
 simp only [BA,Bu,Bs] at hb;subst hb;exact ark) (λargs lv h=>by
 refine ⟨?_⟩;unfold aK9 at h;split at h
 ·split at h
  case h_2=>cases h
  rename_i heq0;simp only [canL,canX];rw [E6 (n:=9) heq0];simp only [canL,canX];rw [au0];rename_i cs os ks gs bs l d t od;obtain ⟨hn,rfl⟩:=h
  have hE:kU ⟨gs,(M gs:Y),0,aq (M gs:Y).toNat 0⟩:=⟨rfl,rfl,hn,AI,λj _ _=>LY,ak⟩
  obtain ⟨_,_,q1,q2⟩:=aw3 _ hE
  have q2:(aDf ⟨gs,(M gs:Y),0,aq (M gs:Y).toNat 0⟩).out=Bv gs:=q2
  refine ⟨A0,⟨rfl,AI⟩,⟨hE,rfl,rfl⟩,A0,?_⟩
  show LV.xl _ _=_
  rw [CT,El,q2]
 ·cases h)
structure P3 where
 cs:aWl
 os:aWg
 ks:aWr
 gs:aWh
 bs:aWs
 l:aWn
 d:aWB
 t:Y
 od:aWd
 m:aWh
 (k i:Y)
 wanted:aWd
def aGm:=bN f148 0
def iv (s:P3):T (Rd P3):=letI a:=s.wanted.set s.i.toNat (AG s.m s.i).2.2.2.2.1;.br (an<|s.i<s.k) (.ix s.i (M s.m)<|.ix s.i (M s.d)<|.br (E8 s.d s.i).1 (.ik s.i (M s.wanted)<|.re (M s.wanted) a<|.nx {s with i:=AA<|s.i+1,wanted:=a})<|.rl s.wanted<|.nx {s with i:=AA<|s.i+1})<|.rl s.wanted<|.so (.exit 0) s
def kO (s:P3):Prop:=s.i=0/\s.k=(M s.m:Y)/\s.k<=1000/\M s.wanted=M s.m/\(∀j,0<=j->j<s.k->gi s.wanted j=0)/\M s.d=M s.m
def Xy (s:P3):Prop:=(0<=s.i/\s.i<=s.k)/\s.k=(M s.m:Y)/\s.k<=1000/\M s.wanted=M s.m/\(∀j,0<=j->j<s.k->gi s.wanted j=if j<s.i then if (E8 s.d j).1=U then (AG s.m j).2.2.2.2.1 else 0 else 0)/\M s.d=M s.m
def gB (s:P3):aWe:=(s.k-s.i).toNat
def aBd (x:Ex) (s s':P3):Prop:=x=.exit 0/\s'.wanted=HQ (M s'.m) (λj=>if (E8 s'.d j).1=U then (AG s'.m j).2.2.2.2.1 else 0)
def anG:∀s,kO s->Xy s:=by
 exact Sm
def ai7:Da Xy gB aBd iv:=by
 intro s hI;unfold iv;obtain ⟨⟨h0,h1⟩,h2,h3,h4,h5,h6⟩:=hI;refine AH (λc1=>?_) λc1=>?_
 ·refine AH (λc2=>?_) (λc2=>?_)
  ·have c1:s.i<s.k:=AX
   rw [AJ (x:=s.i+1)];refine ⟨⟨⟨AZ,AZ⟩,h2,h3,A8,λj j0 j1=>?_,h6⟩,by simp only [gB];omega⟩
   simp only;rw [J9 h0 bL j0]
   by_cases e:j=s.i
   ·subst e
    grind
   ·exact xu
  ·have c1:s.i<s.k:=AX
   rw [AJ (x:=s.i+1)];refine ⟨⟨⟨AZ,AZ⟩,h2,h3,h4,λj j0 j1=>?_,h6⟩,by simp only [gB];omega⟩
   simp only;rw [h5 j j0 j1]
   by_cases e:j=s.i
   ·subst e
    grind
   ·by_cases q:j<s.i
    ·omega
    ·omega
 ·have c1:s.k<=s.i:=AX
  exact xP
def Pp:AS P3:=⟨0,53,[0,4,18,19,20],[],λs=>[xQ 9 [s.cs,s.os,s.ks,s.gs,s.bs,s.l,s.d,s.t,.xl A7 s.od],.os 0 1 0<|M s.wanted,s.m,s.k,s.i],λs=>[bV 3 A7 s.wanted],λv b=>⟨Ar Af<|BT (v.getD 0 .junk) 0,Ar .str<|BT (v.getD 0 .junk) 1,Ar Al<|BT (v.getD 0 .junk) 2,Ar Ah<|BT (v.getD 0 .junk) 3,Ar Am<|BT (v.getD 0 .junk) 4,Ar AQ<|BT (v.getD 0 .junk) 5,Ar Aw<|BT (v.getD 0 .junk) 6,gI<|BT (v.getD 0 .junk) 7,Ar A7<|BT (v.getD 0 .junk) 8,Az Ah v 2,AK v 3,AK v 4,Ac A7 b 0⟩,iv,λs r=> {s with i:=r.i,wanted:=r.wanted},λs=>s,λ_ s=>s,[.exit 0],kO,Xy,gB⟩
abbrev aDL:=Pp.run
abbrev auX:=Pp.As
def azs:Rq Xy iv:=by
 intro s hI;refine ⟨λc1=>⟨?_,?_,λc2=>⟨?_,?_,?_,ak⟩,λc2=>⟨A9,ak⟩⟩,λc1=>⟨A9,ak⟩⟩
 all_goals ((obtain ⟨⟨h0,h1⟩,h2,h3,h4,h5,h6⟩:=hI;(try simp only [Aa] at c1);first|omega|exact ⟨rfl,AI⟩ |(omega)))
def aB9:aWp:=[awp,aPk]
def aRz:Pp.Ok:={}
def aRZ:Pp.Pf (aBd):=⟨anG,λs h=>rfl,ai7,azs⟩
def ard:SA 0 aGm Pp:=s1 aRz aRZ aB9 kN
def auS:Fi kO Xy aBd auX aDL:=AS.fin aRz aRZ
def aLI:aWf->T LV
 | [.xq 9 q0]=>(match ([q0 0,q0 1,q0 2,q0 3,q0 4,q0 5,q0 6,q0 7,q0 8]:aWf) with
  | [.xl (.pair .str (.pair (.int J) (.pair (.int J) (.pair (.int J) (.pair (.pair (.int J) (.int J)) (.pair (.int J) (.pair (.int J) (.pair (.int J) (.pair (.int J) (.int J)))))))))) cs,.xl (.str) os,.xl (.pair .str (.pair (.int J) (.pair (.int J) (.int J)))) ks,.xl (.pair .str (.pair (.int J) (.pair (.int J) (.pair (.int J) (.pair (.int J) (.pair (.int J) (.pair (.int J) (.int J)))))))) gs,.xl (.pair .str (.int J)) bs,.xl (.pair (.int J) (.pair (.int J) (.pair (.int J) (.pair (.int J) (.int J))))) l,.xl (.pair .bool (.pair (.int J) (.pair (.int J) (.int J)))) d,.v (ag J t),.xl (.int J) od]=> .req ((M gs:Y)<=1000/\M d=M gs) (.ok<|.AO [.xl A7<|Fe cs os ks gs bs (Bv gs) (JC gs d) od,shE cs os ks gs bs (Bv gs) (JC gs d) od])
  |_=> .no)
 |_=> .no
def atw (cs:aWl) (os:aWg) (ks:aWr) (gs:aWh) (bs:aWs) (l:aWn) (d:aWB) (t:Y) (od:aWd):letI b:=(M gs:Y);letI c:=(aq b.toNat (0:Y));letI a:=(aDL (⟨cs,os,ks,gs,bs,l,d,t,od,gs,b,(0:Y),c⟩:P3));letI e:=(a.wanted.drop 0).take<|M a.wanted;Bl prog AV (aB9) kN (λi=>if i=3 then Pp.lp else Ak i) f148 [xQ 9 [cs,os,ks,gs,bs,l,d,t,.xl A7 od]]=.rm 8 b (.re b.toNat c<|.req (Pp.q (⟨cs,os,ks,gs,bs,l,d,t,od,gs,b,(0:Y),c⟩:P3))<|.req (b<=1000)<|.rz a.wanted<|.ok<|.AO [.xl A7<|Fe cs os ks gs bs (Bv gs) e od,shE cs os ks gs bs (Bv gs) e od]):=AU
def awl:=vm (S:=aLI) func148 aB9 kN (L:=(λi=>if i=3 then Pp.lp else Ak i)) (λb hb=>by
 rw [show BD _=[aGm] by kernel_rfl] at hb
 simp only [BA,Bu,Bs] at hb;subst hb;exact ard) (λargs lv h=>by
 refine ⟨?_⟩;unfold aLI at h;split at h
 ·split at h
  case h_2=>cases h
  rename_i heq0;simp only [canL,canX];rw [E6 (n:=9) heq0];simp only [canL,canX];rw [atw];rename_i cs os ks gs bs l d t od;obtain ⟨⟨hn,hd⟩,rfl⟩:=h
  have hE:kO ⟨cs,os,ks,gs,bs,l,d,t,od,gs,(M gs:Y),0,aq (M gs:Y).toNat 0⟩:=⟨rfl,rfl,hn,AI,λj _ _=>LY,hd⟩
  obtain ⟨_,_,q1,q2⟩:=auS _ hE
  have q2:(aDL ⟨cs,os,ks,gs,bs,l,d,t,od,gs,(M gs:Y),0,aq (M gs:Y).toNat 0⟩).wanted=JC gs d:=q2
  refine ⟨A0,⟨rfl,AI⟩,⟨hE,rfl,rfl⟩,hn,A0,?_⟩
  show LV.AO [LV.xl _ _,_]=_
  rw [CT,El,q2]
 ·cases h)
structure Ov where
 m:aWh
 (k i:Y)
 out:aWd
def aA5 (s:Ov):T (Rd Ov):=letI a:=s.out.set s.i.toNat (AG s.m s.i).2.2.2.2.2.2.1;.br (an<|s.i<s.k) (.ix s.i (M s.m)<|.ik s.i (M s.out)<|.re (M s.out) a<|.nx {s with i:=AA<|s.i+1,out:=a})<|.rl s.out<|.so (.exit 0) s
def kT (s:Ov):Prop:=s.i=0/\s.k=(M s.m:Y)/\s.k<=1000/\M s.out=M s.m/\(∀j,0<=j->j<s.k->gi s.out j=0)/\True
def ZI (s:Ov):Prop:=(0<=s.i/\s.i<=s.k)/\s.k=(M s.m:Y)/\s.k<=1000/\M s.out=M s.m/\(∀j,0<=j->j<s.k->gi s.out j=if j<s.i then Cw (AG s.m j) else 0)/\True
def vB (s:Ov):aWe:=(s.k-s.i).toNat
def aBf (x:Ex) (s s':Ov):Prop:=x=.exit 0/\s'.out=HQ (M s'.m) (λj=>Cw<|AG s'.m j)
def anL:∀s,kT s->ZI s:=by
 exact Sm
def ahk:Da ZI vB aBf aA5:=by
 intro s hI;obtain ⟨⟨h0,h1⟩,h2,h3,h4,h5,h6⟩:=hI;refine AH (λc1=>?_) λc1=>?_
 ·have c1:s.i<s.k:=AX
  rw [AJ (x:=s.i+1)];refine ⟨⟨⟨A8,A8⟩,h2,h3,A8,λj j0 j1=>?_,h6⟩,by simp only [vB];omega⟩
  simp only;rw [J9 h0 bL j0];exact mA
 ·exact aJ
def Z7:AS Ov:=⟨0,31,[3,17,18,19],[],λs=>[.os 0 1 0<|M s.out,s.m,s.k,s.i],λs=>[bV 3 A7 s.out],λv b=>⟨Az Ah v 1,AK v 2,AK v 3,Ac A7 b 0⟩,aA5,λs r=> {r with m:=s.m,k:=s.k},λs=>s,λ_ s=>s,[.exit 0],kT,ZI,vB⟩
abbrev cN:=Z7.run
abbrev aub:=Z7.As
def Qv:aWp:=[Wh,awl,aPk]
def amF:B1:=kI Qv<|l0 Qv
def azx:Rq ZI aA5:=by
 exact xS
def aS4:Z7.Ok:={}
def aRe:Z7.Pf (aBf):=⟨anL,λs h=>rfl,ahk,azx⟩
def ari:=s2 (b:=bN f149 0) aS4 aRe Qv amF
def avw:Fi kT ZI aBf aub cN:=AS.fin aS4 aRe
structure P4 where
 cs:aWl
 os:aWg
 ks:aWr
 gs:aWh
 bs:aWs
 l:aWn
 d:aWB
 t:Y
 (od targets m:aWd)
 (k i:Y)
 alive:aWd
def aGn:=bN f106 0
def aA3 (s:P4):T (Rd P4):=letI b:=s.alive.getD s.i.toNat<|Ty.dflt A7;letI c:=M s.alive;letI a:=s.alive.set s.i.toNat (if b<(gi s.m s.i) then (gi s.m s.i) else b);.br (an<|s.i<s.k) (.ix s.i (M s.m)<|.ik s.i c<|.ik s.i c<|.re c a<|.nx {s with i:=AA<|s.i+1,alive:=a})<|.rl s.alive<|.so (.exit 0) s
def kR (s:P4):Prop:=s.i=0/\s.k=(M s.m:Y)/\s.k<=1000/\M s.alive=M s.m/\(∀j,0<=j->j<s.k->gi s.alive j=Cw (AG s.gs j))/\True
def Xz (s:P4):Prop:=(0<=s.i/\s.i<=s.k)/\s.k=(M s.m:Y)/\s.k<=1000/\M s.alive=M s.m/\(∀j,0<=j->j<s.k->gi s.alive j=if j<s.i then mx (Cw<|AG s.gs j) (gi s.m j) else Cw (AG s.gs j))/\True
def v9 (s:P4):aWe:=(s.k-s.i).toNat
def aBe (x:Ex) (s s':P4):Prop:=x=.exit 0/\s'.alive=HQ (M s'.m) (λj=>mx (Cw<|AG s'.gs j)<|gi s'.m j)
def anJ:∀s,kR s->Xz s:=by
 exact Sm
def aiB:Da Xz v9 aBe aA3:=by
 intro s hI;obtain ⟨⟨h0,h1⟩,h2,h3,h4,h5,h6⟩:=hI;refine AH (λc1=>?_) λc1=>?_
 ·have c1:s.i<s.k:=AX
  rw [AJ (x:=s.i+1)];refine ⟨⟨⟨A8,A8⟩,h2,h3,A8,λj j0 j1=>?_,h6⟩,by simp only [v9];omega⟩
  simp only
  have hi:=h5 s.i h0 c1
  rw [AE (show ¬s.i<s.i by omega)] at hi
  rw [J9 h0 bL j0]
  by_cases e:j=s.i
  ·subst e
   rw [AD rfl,AD (show s.i<s.i+1 by omega)]
   show mx (gi s.alive s.i) (gi s.m s.i)=_
   rw [hi]
  ·exact xu
 ·have c1:s.k<=s.i:=AX
  exact xP
def Pq:AS P4:=⟨0,71,[0,4,7,41,42,43],[],λs=>[xQ 9 [s.cs,s.os,s.ks,s.gs,s.bs,s.l,s.d,s.t,.xl A7 s.od],.xl A7 s.targets,.os 0 1 0<|M s.alive,.xl A7 s.m,s.k,s.i],λs=>[bV 3 A7 s.alive],λv b=>⟨Ar Af<|BT (v.getD 0 .junk) 0,Ar .str<|BT (v.getD 0 .junk) 1,Ar Al<|BT (v.getD 0 .junk) 2,Ar Ah<|BT (v.getD 0 .junk) 3,Ar Am<|BT (v.getD 0 .junk) 4,Ar AQ<|BT (v.getD 0 .junk) 5,Ar Aw<|BT (v.getD 0 .junk) 6,gI<|BT (v.getD 0 .junk) 7,Ar A7<|BT (v.getD 0 .junk) 8,Az A7 v 1,Az A7 v 3,AK v 4,AK v 5,Ac A7 b 0⟩,aA3,λs r=> {s with i:=r.i,alive:=r.alive},λs=>s,λ_ s=>s,[.exit 0],kR,Xz,v9⟩
abbrev aDF:=Pq.run
abbrev aua:=Pq.As
def azv:Rq Xz aA3:=by
 intro s hI;refine ⟨λc1=>⟨?_,?_,?_,?_,?_,?_,ak⟩,λc1=>⟨A9,ak⟩⟩
 all_goals ((obtain ⟨⟨h0,h1⟩,h2,h3,h4,h5,h6⟩:=hI;(try simp only [Aa] at c1);first|omega|exact ⟨rfl,AI⟩ |(omega)))
def aBF:B1:=kI Qv<|la 3 func149 ari<|l0 Qv
def aS2:Pq.Ok:={}
def aRc:Pq.Pf (aBe):=⟨anJ,λs h=>rfl,aiB,azv⟩
def arf:SA 0 aGn Pq:=s1 aS2 aRc Qv aBF
def avu:Fi kR Xz aBe aua aDF:=AS.fin aS2 aRc
def aLJ:aWf->T LV
 | [.xq 9 q0]=>(match ([q0 0,q0 1,q0 2,q0 3,q0 4,q0 5,q0 6,q0 7,q0 8]:aWf) with
  | [.xl (.pair .str (.pair (.int J) (.pair (.int J) (.pair (.int J) (.pair (.pair (.int J) (.int J)) (.pair (.int J) (.pair (.int J) (.pair (.int J) (.pair (.int J) (.int J)))))))))) cs,.xl (.str) os,.xl (.pair .str (.pair (.int J) (.pair (.int J) (.int J)))) ks,.xl (.pair .str (.pair (.int J) (.pair (.int J) (.pair (.int J) (.pair (.int J) (.pair (.int J) (.pair (.int J) (.int J)))))))) gs,.xl (.pair .str (.int J)) bs,.xl (.pair (.int J) (.pair (.int J) (.pair (.int J) (.pair (.int J) (.int J))))) l,.xl (.pair .bool (.pair (.int J) (.pair (.int J) (.int J)))) d,.v (ag J t),.xl (.int J) od]=> .req (M d=M gs/\Fx cs os ks gs bs (Bv gs) (JC gs d) od=U/\Kz l (M gs:Y) t=U/\Fx cs os ks gs bs (DO gs l t) (Fe cs os ks gs bs (Bv gs) (JC gs d) od) od=U) (.ok<|.AO [.xl A7<|ofO cs os ks gs bs l d t od,(0:Y)])
  |_=> .no)
 |_=> .no
def atx (cs:aWl) (os:aWg) (ks:aWr) (gs:aWh) (bs:aWs) (l:aWn) (d:aWB) (t:Y) (od:aWd):letI b:=(M gs:Y);letI c:=(aq b.toNat (0:Y));letI e:=Fe cs os ks gs bs (Bv gs) (JC gs d) od;letI f:=(cN (⟨gs,b,(0:Y),c⟩:Ov));letI h:=shE cs os ks gs bs (Bv gs) (JC gs d) od;letI j:=(M (HM l b t):Y);letI a:=(aDF (⟨cs,os,ks,gs,bs,l,d,t,od,e,HM l b t,j,(0:Y),f.out⟩:P4));letI g:=(a.alive.drop 0).take<|M a.alive;Bl prog AV Qv aBF (λi=>if i=9 then Pq.lp else Ak i) f106 [xQ 9 [cs,os,ks,gs,bs,l,d,t,.xl A7 od]]=.req (b<=1000/\M d=M gs) (.br (h !=0) (.ok<|.AO [.xl A7 ([]:aWd),h])<|.br ((Jy l b t) !=0) (.ok<|.AO [.xl A7 ([]:aWd),Jy l b t])<|.rm 8 b<|.re b.toNat c<|.req (Z7.q (⟨gs,b,(0:Y),c⟩:Ov))<|.rl f.out<|.req (Pq.q (⟨cs,os,ks,gs,bs,l,d,t,od,e,HM l b t,j,(0:Y),f.out⟩:P4))<|.rz a.alive<|.ok<|.AO [.xl A7<|Fe cs os ks gs bs g e od,shE cs os ks gs bs g e od]):=AU
def awm:=vm (S:=aLJ) func106 Qv aBF (L:=(λi=>if i=9 then Pq.lp else Ak i)) (λb hb=>by
 rw [show BD _=[aGn] by kernel_rfl] at hb
 simp only [BA,Bu,Bs] at hb;subst hb;exact arf) (λargs lv h=>by
 refine ⟨?_⟩;unfold aLJ at h;split at h
 ·split at h
  case h_2=>cases h
  rename_i heq0;simp only [canL,canX];rw [E6 (n:=9) heq0];simp only [canL,canX];rw [atx];rename_i cs os ks gs bs l d t od;obtain ⟨⟨hd,hk,hv,hk2⟩,rfl⟩:=h
  have gl:=(DK.1 (LM.1 hk).1).1.2.2.2.2.1
  have ea:HM l (M gs:Y) t=H3 (M gs) l t:=by unfold HM;rw [AD hv,By]
  rw [aaG hk,show Jy l (M gs:Y) t=0 by unfold Jy;rw [AD hv]]
  refine ⟨⟨A0,hd⟩,λc=>absurd c Ab,λ_=>⟨λc=>absurd c Ab,λ_=>?_⟩⟩
  have hE:kT ⟨gs,(M gs:Y),0,aq (M gs:Y).toNat 0⟩:=⟨rfl,rfl,AZ,AI,λj _ _=>LY,ak⟩
  obtain ⟨_,_,q1,q2⟩:=avw _ hE
  have q2:(cN ⟨gs,(M gs:Y),0,aq (M gs:Y).toNat 0⟩).out=Bv gs:=q2
  have hE2:kR ⟨cs,os,ks,gs,bs,l,d,t,od,Fe cs os ks gs bs (Bv gs) (JC gs d) od,HM l (M gs:Y) t,(M (HM l (M gs:Y) t):Y),0,(cN ⟨gs,(M gs:Y),0,aq (M gs:Y).toNat 0⟩).out⟩:=⟨rfl,rfl,by simp only;rw [ea,dM];omega,by simp only;rw [q2,ea,dM];exact Iu,λj j0 j1=>by
   simp only at j1|-;rw [ea,dM] at j1;rw [q2];exact Of j0 j1,ak⟩
  obtain ⟨_,_,q3,q4⟩:=avu _ hE2
  have q4:(aDF ⟨cs,os,ks,gs,bs,l,d,t,od,Fe cs os ks gs bs (Bv gs) (JC gs d) od,HM l (M gs:Y) t,(M (HM l (M gs:Y) t):Y),0,(cN ⟨gs,(M gs:Y),0,aq (M gs:Y).toNat 0⟩).out⟩).alive=DO gs l t:=q4.trans (by
   show HQ (M<|HM l (M gs:Y) t) (λj=>mx (Cw<|AG gs j)<|gi (HM l (M gs:Y) t) j)=_
   rw [ea,dM];rfl)
  refine ⟨A0,⟨rfl,AI⟩,⟨hE,rfl,rfl⟩,A9,⟨hE2,rfl,rfl⟩,A0,?_⟩
  show LV.AO [LV.xl _ _,_]=_
  rw [CT,El,q4,aaG hk2];rfl
 ·cases h)
def aAg:Array Tmp×Code×Code:=((Iz<|f108.body.getD .skip)[0]?).getD (#[],.skip,.skip)
def alg:aW8:=aAg.1
def alA:aWO:=aAg.2.1
def alp:aWO:=aAg.2.2
structure Mn where
 i:Y
 cs:aWl
 os:aWg
 ks:aWr
 gs:aWh
 bs:aWs
 l:aWn
 d:aWB
 t:Y
 od:aWd
 (c a:Y)
 r:aWo
 m:aWn
 st:LS
def aA4 (s:Mn):T (Rd Mn):=
 .br (an<|s.i>=0) (.ix s.i (M s.m)<|.br ((Ag s.m s.i).2.1==s.c) (.so (.ret) {s with r:=(((Ag s.m s.i).2.2.1 !=s.a) ||(an<|(Ag s.m s.i).2.2.2.1<=(AA<|s.t-6))),st:=.done<|.ret})<|.nx {s with i:=AA<|s.i-1}) (.so (.exit 0) s)
def kS (s:Mn):Prop:=s.st=.ready/\s.i=(M s.m:Y)-1/\(M s.m:Y)<=1000/\0<=s.t/\s.t<=1000000
def je (s:Mn):Prop:=s.st=.ready/\(-1<=s.i/\s.i<(M s.m:Y))/\(M s.m:Y)<=1000/\0<=s.t/\s.t<=1000000
def vA (s:Mn):aWe:=(s.i+1).toNat
def aby (x:Ex) (s s':Mn):Prop:=True
def anK:∀s,kS s->je s:=by
 rintro s ⟨h0,h1,h2⟩
 exact ⟨h0,A0,h2⟩
def aiC:Da je vA aby aA4:=by
 intro s hI;obtain ⟨hs,⟨h0,h1⟩,h2⟩:=hI;refine AH (λc1=>AH (λc2=>trivial) λc2=>?_) λc1=>trivial
 have c1:0<=s.i:=A8
 rw [AJ (x:=s.i-1)];exact ⟨⟨hs,⟨A8,A8⟩,h2⟩,by simp only [vA];omega⟩
def Z6:AS Mn:=⟨6,19,[0,1,3],[],λs=>[.CO 5,.own 4 0,s.i],λs=>[⟨[xQ 9 [s.cs,s.os,s.ks,s.gs,s.bs,s.l,s.d,s.t,.xl A7 s.od]],215,.cl,X⟩,⟨[s.c],3,.cl,X⟩,⟨[s.a],3,.cl,X⟩,⟨[s.r],4,.cl,X⟩,⟨[s.m],33,.cl,X⟩,⟨[.junk,.junk,.junk,.own 0 0,.own 1 0,.own 2 0,.own 3 0,.junk,.v<|.tuple #[],.junk,.junk,.junk,.junk,.junk,.junk,.junk,.junk,.junk,.junk,.junk,.junk,.junk,.junk,.junk,.junk,.junk,.v<|.tuple #[],.v<|.tuple #[],.v<|.tuple #[],.v<|.tuple #[],.v<|.tuple #[],.v<|.tuple #[],.v<|.tuple #[],.v<|.tuple #[],.v<|.tuple #[],.v<|.tuple #[],.v<|.tuple #[],.v<|.tuple #[],.v<|.tuple #[],.v<|.tuple #[],.v<|.tuple #[],.v<|.tuple #[],.v<|.tuple #[],.v<|.tuple #[],.v<|.tuple #[]],0,.Cl alg alA alp s.st,X⟩],λv b=>⟨AK v 2,Ar Af<|BT (BF (CW b 0) 0) 0,Ar .str<|BT (BF (CW b 0) 0) 1,Ar Al<|BT (BF (CW b 0) 0) 2,Ar Ah<|BT (BF (CW b 0) 0) 3,Ar Am<|BT (BF (CW b 0) 0) 4,Ar AQ<|BT (BF (CW b 0) 0) 5,Ar Aw<|BT (BF (CW b 0) 0) 6,gI<|BT (BF (CW b 0) 0) 7,Ar A7<|BT (BF (CW b 0) 0) 8,Aj b 1 0,Aj b 2 0,cgB b 3 0,AF AQ b 4 0,.ready⟩,aA4,λs r=> {r with cs:=s.cs,os:=s.os,ks:=s.ks,gs:=s.gs,bs:=s.bs,l:=s.l,d:=s.d,t:=s.t,od:=s.od,c:=s.c,a:=s.a,m:=s.m},λs=> {s with st:=.ready},λx s=> {s with st:=(match x with| .ret=>(.done<|.ret) | .exit 0=> .ready|_=> .ready)},[.ret,.exit 0],kS,je,vA⟩
abbrev aHx:=Z6.run
abbrev aJc:=Z6.As
def R8:aWp:=[]
def amD:B1:=kI R8<|l0 R8
def azw:Rq je aA4:=by
 intro s hI;refine ⟨λc1=>⟨?_,λ_=>trivial,λ_=>trivial⟩,λ_=>trivial⟩
 ·(obtain ⟨hs,⟨h0,h1⟩,h2⟩:=hI;simp only [Aa] at c1;omega)
def aS3:Z6.Ok:={}
def aRd:Z6.Pf (aby):=⟨anK,λs h=>by
 obtain ⟨i,cs,os,ks,gs,bs,l,d,t,od,c,a,r,m,st⟩:=s
 have e:=h.1
 subst e;rfl,aiC,azw⟩
def arh:=s2 (b:=bN f190 0) aS3 aRd R8 amD
def avv:Rs kS aJc aHx (λs:Mn=>nwO s.a s.t<|(s.m.take (s.i+1).toNat).reverse.find? λx=>x.2.1==s.c) (λx s' (v:aWo)=>(x=.ret/\s'.r=v)\/(x=.exit 0/\v=U)):=DU aS3 aRd (λs hI=>by
  obtain ⟨hs,⟨h0,h1⟩,h2⟩:=hI;refine AH (λc1=>?_) λc1=>?_
  ·have c1:0<=s.i:=A8
   have e:=(WC c1 (show s.i<(M s.m:Y) by omega)).2
   refine AH (λc2=> .inl ⟨rfl,?_⟩) λc2=>?_
   ·rw [e,List.reverse_append]
    show _=nwO s.a s.t (List.find? _ (Ag s.m s.i::_))
    rw [List.find?_cons_of_pos<|by exact c2]
    simp only [nwO];rw [AJ (x:=s.t-6)]
   ·show nwO _ _ _=nwO _ _ _
    rw [AJ (x:=s.i-1),e,List.reverse_append]
    show _=nwO s.a s.t (List.find? _ (Ag s.m s.i::_))
    rw [List.find?_cons_of_neg A8,show (s.i-1+1).toNat=s.i.toNat by omega]
    rfl
  ·have c1:s.i<0:=A8
   refine .inr ⟨rfl,?_⟩;rw [show (s.i+1).toNat=0 by omega]
   rfl)
def aJz:aWf->T LV
 | [.xq 9 q0,.v (ag J i),.v (ag J a)]=>(match ([q0 0,q0 1,q0 2,q0 3,q0 4,q0 5,q0 6,q0 7,q0 8]:aWf) with
  | [.xl (.pair .str (.pair (.int J) (.pair (.int J) (.pair (.int J) (.pair (.pair (.int J) (.int J)) (.pair (.int J) (.pair (.int J) (.pair (.int J) (.pair (.int J) (.int J)))))))))) cs,.xl (.str) os,.xl (.pair .str (.pair (.int J) (.pair (.int J) (.int J)))) ks,.xl (.pair .str (.pair (.int J) (.pair (.int J) (.pair (.int J) (.pair (.int J) (.pair (.int J) (.pair (.int J) (.int J)))))))) gs,.xl (.pair .str (.int J)) bs,.xl (.pair (.int J) (.pair (.int J) (.pair (.int J) (.pair (.int J) (.int J))))) l,.xl (.pair .bool (.pair (.int J) (.pair (.int J) (.int J)))) d,.v (ag J t),.xl (.int J) od]=> .req ((0<=i/\i<(M gs:Y))/\(M l:Y)<=1000/\0<=t/\t<=1000000) (.ok<|nwB gs l t i a)
  |_=> .no)
 |_=> .no
def aaP:B1:=kI R8<|la 1 func190 arh<|l0 R8
def atz (cs:aWl) (os:aWg) (ks:aWr) (gs:aWh) (bs:aWs) (l:aWn) (d:aWB) (t:Y) (od:aWd) (i a:Y):letI b:=(AA<|(M l:Y)-1);Bl prog AV (R8) aaP Ak f108 [xQ 9 [cs,os,ks,gs,bs,l,d,t,.xl A7 od],i,a]=.ix i (M gs) (.br (an<|a<=(AG gs i).2.2.2.2.2.2.1) (.ok X)<|.req (Z6.q (⟨b,cs,os,ks,gs,bs,l,d,t,od,i,a,X,l,.ready⟩:Mn))<|.br (Bb (aJc (⟨b,cs,os,ks,gs,bs,l,d,t,od,i,a,X,l,.ready⟩:Mn))<|.ret) (.ok (aHx (⟨b,cs,os,ks,gs,bs,l,d,t,od,i,a,X,l,.ready⟩:Mn)).r)<|.ok U):=AU
def awn:=vo (S:=aJz) func108 R8 aaP (λargs lv h=>by
 refine ⟨?_⟩;unfold aJz at h;split at h
 ·split at h
  case h_2=>cases h
  rename_i heq0;simp only [canL,canX];rw [E6 (n:=9) heq0];simp only [canL,canX];rw [atz];rename_i i a _ cs os ks gs bs l d t od;obtain ⟨⟨hi,hl,ht⟩,rfl⟩:=h;refine ⟨hi,λc=>B3 (λz=>LV.v<|.bool z) ?_,λc=>?_⟩
  ·have c:a<=Cw (AG gs i):=D5 c
   unfold nwB;rw [Cg c];rfl
  have c:¬a<=Cw (AG gs i):=KF c
  have hE:kS ⟨AA<|(M l:Y)-1,cs,os,ks,gs,bs,l,d,t,od,i,a,X,l,.ready⟩:=⟨rfl,by show AA ((M l:Y)-1)=_;rw [AJ],hl,ht⟩
  have ev:nwB gs l t i a=nwO a t ((l.take (AA ((M l:Y)-1)+1).toNat).reverse.find? λx=>x.2.1==i):=by
   unfold nwB;rw [IP c,AJ (x:=(M l:Y)-1),show ((M l:Y)-1+1).toNat=M l by omega,El]
   rfl
  refine ⟨⟨hE,rfl,rfl⟩,?_⟩;rcases avv _ hE with ⟨q1,q2⟩ |⟨q1,q2⟩<;>rw [q1]
  ·exact ⟨λ_=>B3 (λz=>LV.v<|.bool z)<|q2.trans ev.symm,λh=>Ao⟩
  ·exact ⟨λh=>Ao,λ_=>B3 (λz=>LV.v<|.bool z)<|q2.symm.trans ev.symm⟩
 ·cases h)
def aGb:aWf->T LV
 | [.v (ag J x)]=> .ok X
 |_=> .no
def Xn:aWp:=[]
def ar1:=vo (S:=aGb) func179 Xn kN (λargs lv h=>by
 unfold aGb at h;split at h
 ·rename_i x
  refine Aq (.ok<|.v<|.bool<|x !=x) ?_;obtain rfl:=h;exact B3 (λz=>LV.v<|.bool z) AI
 ·cases h)
def aKf:aWf->T LV
 | [.v (ag J x),.v (ag J y)]=> .ok (cm x y)
 |_=> .no
def anm:aWp:=[ar1]
def awu:=vo (S:=aKf) func143 anm kN (λargs lv h=>by
 unfold aKf at h;split at h
 ·rename_i x y
  refine Aq (.br X (.br X (.ok (0:Y))<|.ok<|.v<|ag J (-1))<|.br X (.ok (1:Y))<|.br (an<|x<y) (.ok<|.v<|ag J (-1))<|.br (an<|x>y) (.ok (1:Y))<|.ok (0:Y)) ?_;obtain rfl:=h;unfold cm;refine ⟨λh=>Ao,λ_=>⟨λh=>Ao,λ_=>⟨λc=>?_,λc=>⟨λc2=>?_,λc2=>?_⟩⟩⟩⟩<;>refine B3 (λz=>LV.v<|ag J z) ?_
  ·grind
  ·grind
  ·grind
 ·cases h)
structure Mo where
 (r z:Y)
 l:aWd
 (n i:Y)
def aGq:=bN f142 0
def zd (s:Mo):T (Rd Mo):=
 .br (an<|s.i<s.n) (.ix s.i (M s.l)<|.br ((gi s.l s.i) !=s.z) (.so (.ret) {s with r:=gi s.l s.i})<|.nx {s with i:=AA<|s.i+1}) (.so (.exit 0) s)
def kX (s:Mo):Prop:=s.i=0/\s.n=(M s.l:Y)/\s.n<=1000/\s.z=0
def kZ (s:Mo):Prop:=(0<=s.i/\s.i<=s.n)/\s.n=(M s.l:Y)/\s.n<=1000/\s.z=0
def vG (s:Mo):aWe:=(s.n-s.i).toNat
def abz (x:Ex) (s s':Mo):Prop:=True
def amx:∀s,kX s->kZ s:=by
 exact aNX
def ajS:Da kZ vG abz zd:=by
 intro s hI;obtain ⟨⟨h0,h1⟩,h2,h3,h4⟩:=hI;refine AH (λc1=>?_) λc1=>?_
 ·refine AH (λc2=>?_) (λc2=>?_)
  ·exact ak
  ·have c1:s.i<s.n:=A8
   rw [AJ (x:=s.i+1)];exact ⟨⟨⟨A8,A8⟩,h2,h3,h4⟩,by simp only [vG];omega⟩
 ·exact ak
def Rk:AS Mo:=⟨0,18,[2,3,6,7,8],[],λs=>[s.r,s.z,.xl A7 s.l,s.n,s.i],λ_=>[],λv b=>⟨AK v 0,AK v 1,Az A7 v 2,AK v 3,AK v 4⟩,zd,λs r=> {s with r:=r.r,i:=r.i},λs=>s,λ_ s=>s,[.ret,.exit 0],kX,kZ,vG⟩
abbrev aHz:=Rk.run
abbrev aJe:=Rk.As
def azE:Rq kZ zd:=by
 intro s hI;refine ⟨λc1=>⟨?_,λ_=>trivial,λ_=>trivial⟩,λ_=>trivial⟩
 ·(obtain ⟨⟨h0,h1⟩,h2,h3⟩:=hI;simp only [Aa] at c1;omega)
def aS8:Rk.Ok:={}
def aRi:Rk.Pf (abz):=⟨amx,λs h=>rfl,ajS,azE⟩
def arl:SA 0 aGq Rk:=s1 aS8 aRi Xn kN
def avX:Rs kX aJe aHz (λs:Mo=>orI<|s.l.drop s.i.toNat) (λx s' (v:Y)=>(x=.ret/\s'.r=v)\/(x=.exit 0/\s'.z=v)):=DU aS8 aRi (λs hI=>by
  obtain ⟨⟨h0,h1⟩,h2,h3,h4⟩:=hI;refine AH (λc1=>?_) λc1=>?_
  ·have c1:s.i<s.n:=A8
   have e:=(gi_step h0 (show s.i<(M s.l:Y) by omega)).1
   rw [AJ (x:=s.i+1)];refine AH (λc2=>?_) λc2=>?_
   ·refine .inl ⟨rfl,?_⟩
    rw [e,orI,AD A8]
   ·show orI _=orI _
    rw [e,orI,AE A8]
  ·have c1:s.n<=s.i:=A8
   refine .inr ⟨rfl,?_⟩;rw [F6 A0,h4];rfl)
def aKg:aWf->T LV
 | [.xl (.int J) l]=> .req ((M l:Y)<=1000) (.ok<|orI l)
 |_=> .no
def awv:=vm (S:=aKg) func142 Xn kN (L:=(λi=>if i=3 then Rk.lp else Ak i)) (λb hb=>by
 rw [show BD _=[aGq] by kernel_rfl] at hb
 simp only [BA,Bu,Bs] at hb;subst hb;exact arl) (λargs lv h=>by
 unfold aKg at h;split at h
 ·rename_i l
  refine Aq (letI a:=(M l:Y);.req (Rk.q (⟨0,0,l,a,0⟩:Mo))<|.br (Bb (aJe (⟨0,0,l,a,0⟩:Mo))<|.ret) (.ok (aHz (⟨0,0,l,a,0⟩:Mo)).r)<|.ok (0:Y)) ?_;obtain ⟨hl,rfl⟩:=h
  have hE:kX ⟨0,0,l,(M l:Y),0⟩:=⟨rfl,rfl,hl,rfl⟩
  refine ⟨⟨hE,rfl,rfl⟩,?_⟩;rcases avX _ hE with ⟨q1,q2⟩ |⟨q1,q2⟩<;>rw [q1]
  ·exact ⟨λ_=>B3 (λz=>LV.v<|ag J z) q2,λh=>Ao⟩
  ·exact ⟨λh=>Ao,λ_=>B3 (λz=>LV.v<|ag J z) q2⟩
 ·cases h)
def aIt:aWf->T LV
 | [.v (ag J i),.xq 1 q0,.xq 1 q1]=>(match ([q0 0]:aWf) with
  | [.xl (.pair .bool (.pair (.int J) (.pair (.int J) (.int J)))) d]=>(match ([q1 0]:aWf) with
  | [.v (ag J t)]=> .req (Ih d t/\0<=i/\i<(M d:Y)) (.ok<|slk d t i)
  |_=> .no)
  |_=> .no)
 |_=> .no
def asM (i:Y) (d:aWB) (t:Y):Bl prog AV (Xn) kN Ak f139 [i,xQ 1 [d],xQ 1 [t]]=.ix i (M d) (.ix i (M d)<|.ok<|AA<|(AA<|(E8 d i).2.2.1-t)-(E8 d i).2.1):=AU
def tM:=vo (S:=aIt) func139 Xn kN (λargs lv h=>by
 refine ⟨?_⟩;unfold aIt at h;split at h
 ·split at h
  case h_2=>cases h
  rename_i heq0;split at h
  case h_2=>cases h
  rename_i heq1;simp only [canL,canX];rw [E6 (n:=1) heq0];rw [E6 (n:=1) heq1];simp only [canL,canX];rw [asM];rename_i i _ _ _ d _ t;obtain ⟨⟨hw,hi⟩,rfl⟩:=h
  have b:=awy hw hi.1 hi.2
  have ht:=hw.2
  refine ⟨hi,hi,B3 (λz=>LV.v<|ag J z) ?_⟩
  unfold slk;rw [AJ (x:=(E8 d i).2.2.1-t),AJ]
 ·cases h)
def aUW:aWf->T LV
 | [.v (ag J a),.v (ag J b),.xq 1 q0,.xq 1 q1]=>(match ([q0 0]:aWf) with
  | [.xl (.pair .bool (.pair (.int J) (.pair (.int J) (.int J)))) d]=>(match ([q1 0]:aWf) with
  | [.fn 139 [.xq 1 q2,.xq 1 q3]]=>(match ([q2 0]:aWf) with
  | [.xl (.pair .bool (.pair (.int J) (.pair (.int J) (.int J)))) e]=>(match ([q3 0]:aWf) with
  | [.v (ag J t)]=> .req (d=e/\Ih d t/\(0<=a/\a<(M d:Y))/\0<=b/\b<(M d:Y)) (.ok<|cmD d t a b)
  |_=> .no)
  |_=> .no)
  |_=> .no)
  |_=> .no)
 |_=> .no
def ab7:aWp:=[tM,awv,awu]
def agJ (a b:Y) (d e:aWB) (t:Y):letI c:=cm (E8 d a).2.2.2 (E8 d b).2.2.2;letI f:=cm (slk e t a)<|slk e t b;Bl prog AV (ab7) kN Ak f141 [a,b,xQ 1 [d],xQ 1 [.fn 139 [xQ 1 [e],xQ 1 [t]]]]=.ix a (M d) (.ix b (M d)<|.req (Ih e t/\0<=a/\a<(M e:Y))<|.req (Ih e t/\0<=b/\b<(M e:Y))<|.req ((M ([c,f,cm a b]):Y)<=1000)<|.ok<|orI<|[c,f,cm a b]):=AU
def aa3:=vo (S:=aUW) func141 ab7 kN (λargs lv h=>by
 refine ⟨?_⟩;unfold aUW at h;split at h
 ·split at h
  case h_2=>cases h
  rename_i heq0;split at h
  case h_2=>cases h
  rename_i heq1;split at h
  case h_2=>cases h
  rename_i heq2;split at h
  case h_2=>cases h
  rename_i heq3;simp only [canL,canX];rw [E6 (n:=1) heq0];rw [E6 (n:=1) heq1];simp only [canL,canX];rw [E6 (n:=1) heq2];rw [E6 (n:=1) heq3];simp only [canL,canX];rw [agJ];rename_i a b _ d _ _ _ _ e _ t;obtain ⟨⟨rfl,hw,ha,hb⟩,rfl⟩:=h;exact ⟨ha,hb,⟨hw,ha⟩,⟨hw,hb⟩,AI,rfl⟩
 ·cases h)
structure PM where
 (n i:Y)
 d:aWB
 tick:Y
 out:aWd
def aHD:=bN f104 0
def aAG (s:PM):T (Rd PM):=letI a:=s.out.set s.i.toNat s.i;.br (an<|s.i<s.n) (.ik s.i (M s.out)<|.re (M s.out) a<|.nx {s with i:=AA<|s.i+1,out:=a})<|.rl s.out<|.so (.exit 0) s
def lE (s:PM):Prop:=s.i=0/\s.out=aq (M s.d) 0/\s.n=(M s.d:Y)/\s.n<=1000/\M s.out=M s.d
def YB (s:PM):Prop:=(0<=s.i/\s.i<=s.n)/\s.out=Fy s.i.toNat++aq (M s.d-s.i.toNat) 0/\s.n=(M s.d:Y)/\s.n<=1000/\M s.out=M s.d
def uB (s:PM):aWe:=(s.n-s.i).toNat
def aC2 (x:Ex) (s s':PM):Prop:=x=.exit 0/\s'.out=Fy (M s'.d)
def alP:∀s,lE s->YB s:=by
 exact aNv
def agT:Da YB uB aC2 aAG:=by
 intro s hI;obtain ⟨⟨h0,h1⟩,h2,h3,h4,h5⟩:=hI;refine AH (λc1=>?_) λc1=>?_
 ·have c1:s.i<s.n:=AX
  rw [AJ (x:=s.i+1)]
  have e:M s.d-s.i.toNat=(M s.d-(s.i+1).toNat)+1:=A0
  refine ⟨⟨⟨A8,A8⟩,?_,h3,h4,A8⟩,by simp only [uB];omega⟩
  simp only
  have hs:=aIK (xs:=Fy s.i.toNat) (r:=M s.d-(s.i+1).toNat) (v:=s.i)
  rw [Om] at hs;rw [h2,e,hs,show (s.i+1).toNat=s.i.toNat+1 by omega,aF2,CP h0]
 ·have c1:s.n<=s.i:=AX
  refine ⟨rfl,?_⟩;rw [h2,show s.i.toNat=M s.d by omega]
  simp
def S2:AS PM:=⟨0,26,[2,3,5,12,13],[],λs=>[.own 0 0,.own 1 0,.os 2 1 0<|M s.out,s.n,s.i],λs=>[⟨[s.d],44,.cl,X⟩,⟨[s.tick],3,.cl,X⟩,bV 3 A7 s.out],λv b=>⟨AK v 3,AK v 4,AF Aw b 0 0,Aj b 1 0,Ac A7 b 2⟩,aAG,λs r=> {s with i:=r.i,out:=r.out},λs=>s,λ_ s=>s,[.exit 0],lE,YB,uB⟩
abbrev ML:=S2.run
abbrev av6:=S2.As
def ayY:Rq YB aAG:=by
 intro s hI;refine ⟨λc1=>⟨?_,?_,?_,ak⟩,λc1=>⟨A9,ak⟩⟩
 all_goals ((obtain ⟨⟨h0,h1⟩,h2,h3,h4,h5⟩:=hI;simp only [Aa] at c1;first|omega|exact ⟨rfl,AI⟩))
def PI:aWp:=[tM,aa3]
def j6:B1:=kI PI<|l0 PI
def aSO:S2.Ok:={}
def aQg:S2.Pf (aC2):=⟨alP,λs h=>rfl,agT,ayY⟩
def asA:SA 0 aHD S2:=s1 aSO aQg PI j6
def asV:Fi lE YB aC2 av6 ML:=AS.fin aSO aQg
structure Nh where
 (a b i j:Y)
 b0:aWB
 b1:Y
 data:aWd
def aHV:=lN (bN f211 0) 0
def zp (s:Nh):T (Rd Nh):=letI c:=s.data.getD s.j.toNat<|Ty.dflt A7;letI d:=AA<|s.j-1;letI e:=M s.data;letI b:=s.data.getD d.toNat<|Ty.dflt A7;letI f:=s.data.set s.j.toNat b;.br (an<|s.j>s.a) (.ik s.j e<|.ik d e<|.req (s.b0=s.b0/\Ih s.b0 s.b1/\(0<=c/\c<(M s.b0:Y))/\0<=b/\b<(M s.b0:Y))<|.br (an<|(cmD s.b0 s.b1 c b)<0) (.ix d e<|.ix s.j e<|.req (d.toNat<M s.data)<|.req (s.j.toNat<M s.data)<|.ik s.j e<|.ix d e<|.req (d.toNat<M f)<|.re e (f.set d.toNat c)<|.nx {s with j:=d,data:=f.set d.toNat c})<|.rl s.data<|.so (.exit 2) s)<|.rl s.data<|.so (.exit 2) s
def kD (s:Nh):Prop:=s.a=0/\(0<=s.j/\s.j<(M s.data:Y))/\(M s.data=M s.b0/\(M s.data:Y)<=1000)/\(∀x∈s.data,0<=x/\x<(M s.b0:Y))/\Ih s.b0 s.b1
def ja (s:Nh):Prop:=s.a=0/\(0<=s.j/\s.j<(M s.data:Y))/\(M s.data=M s.b0/\(M s.data:Y)<=1000)/\(∀x∈s.data,0<=x/\x<(M s.b0:Y))/\Ih s.b0 s.b1
def tc (s:Nh):aWe:=s.j.toNat
def abt (x:Ex) (s s':Nh):Prop:=x=.exit 2
def am7:∀s,kD s->ja s:=by
 exact λs h=>h
def ahf:Da ja tc abt zp:=by
 intro s hI;obtain ⟨h0,⟨h1,h2⟩,⟨h3,h3'⟩,h4,h5⟩:=hI;refine AH (λc1=>?_) λc1=>rfl
 have c1:s.a<s.j:=AX
 rw [AJ (x:=s.j-1)];refine AH (λc2=>?_) λc2=>rfl
 have g0:=λ(k:aWe) (hk:k<M s.data)=>h4 (s.data.getD k 0) GD
 have hm:∀x∈(s.data.set s.j.toNat<|s.data.getD (s.j-1).toNat 0).set (s.j-1).toNat (s.data.getD s.j.toNat 0),0<=x/\x<(M s.b0:Y):=λx hx=>by
  rcases OU hx with hx|e
  ·rcases OU hx with hx|e
   ·exact h4 x hx
   ·rw [e];exact g0 _ A0
  ·grind
 exact ⟨⟨h0,⟨AZ,A8⟩,⟨A8,A8⟩,hm,h5⟩,by simp only [tc];omega⟩
def Rf:AS Nh:=⟨4,53,[0,1,2,3,8,9],[],λs=>[.os 2 1 0<|M s.data,s.a,s.b,.fn 141 [.own 0 0,.own 3 0],s.i,s.j],λs=>[⟨[s.b0],44,.cl,X⟩,⟨[s.b1],3,.cl,X⟩,bV 3 A7 s.data,⟨[.fn 139 [.own 0 0,.own 1 0]],167,.cl,X⟩],λv b=>⟨AK v 1,AK v 2,AK v 4,AK v 5,AF Aw b 0 0,Aj b 1 0,Ac A7 b 2⟩,zp,λs r=> {s with j:=r.j,data:=r.data},λs=>s,λ_ s=>s,[.exit 2],kD,ja,tc⟩
abbrev qJ:=Rf.run
abbrev avN:=Rf.As
def azj:Rq ja zp:=by
 intro s hI;refine ⟨λc1=>⟨?_,?_,?_,?_,?_,λc2=>⟨?_,?_,?_,?_,?_,?_,?_,?_,?_,ak⟩,λc2=>⟨A9,ak⟩⟩,λc1=>⟨A9,ak⟩⟩
 all_goals ((obtain ⟨h0,⟨h1,h2⟩,⟨h3,h3'⟩,h4,h5⟩:=hI;simp only [Aa,gt_iff_lt] at c1;(try rw [AJ (x:=s.j-1)]);have g0:∀k:aWe,k<M s.data->0<=s.data.getD k (Ty.dflt A7)/\s.data.getD k (Ty.dflt A7)<(M s.b0:Y):=(λk hk=>h4 _ GD);first|omega|exact ⟨rfl,h5,g0 _ A0,g0 _ A0⟩ |(simp only [C3];omega) |exact ⟨rfl,AI⟩))
def aSc:Rf.Ok:={}
def aQO:Rf.Pf (abt):=⟨am7,λs h=>rfl,ahf,azj⟩
def arW:SA 4 aHV Rf:=s2 aSc aQO PI j6
def aIX:Rs kD avN qJ (λs:Nh=>bub (ltD s.b0 s.b1) s.j.toNat s.data) (λx s' (v:aWd)=>x=.exit 2/\s'.data=v):=DU aSc aQO (λs hI=>by
  obtain ⟨h0,⟨h1,h2⟩,⟨h3,h3'⟩,h4,h5⟩:=hI;refine AH (λc1=>?_) λc1=>?_
  ·have c1:s.a<s.j:=A8
   rw [AJ (x:=s.j-1)]
   have e:s.j.toNat=(s.j-1).toNat+1:=A0
   refine AH (λc2=>?_) λc2=>?_
   ·show bub _ _ _=bub _ _ _
    rw [e,bub,AD (by unfold ltD;rw [e] at c2;exact c2)]
    rfl
   ·refine ⟨rfl,?_⟩
    rw [e] at c2;rw [e,bub,AE λhh=>absurd ((show U=_ from hh.symm).trans c2) Ab]
  ·have c1:s.j<=s.a:=A8
   refine ⟨rfl,?_⟩;rw [show s.j.toNat=0 by omega]
   rfl)
structure Ke where
 (a b i:Y)
 b0:aWB
 b1:Y
 data:aWd
def aHW:=bN f211 0
def zq (s:Ke):T (Rd Ke):=letI c:=(qJ (⟨s.a,s.b,s.i,s.i,s.b0,s.b1,s.data⟩:Nh));.br (an<|s.i<s.b) (.rl s.data<|.req (Rf.q (⟨s.a,s.b,s.i,s.i,s.b0,s.b1,s.data⟩:Nh))<|.rl c.data<|.nx {s with i:=AA<|s.i+1,data:=c.data})<|.rl s.data<|.so (.exit 0) s
def kE (s:Ke):Prop:=s.i=1/\(s.a=0/\s.b=(M s.data:Y))/\(M s.data=M s.b0/\(M s.data:Y)<=1000)/\(∀x∈s.data,0<=x/\x<(M s.b0:Y))/\Ih s.b0 s.b1
def Xs (s:Ke):Prop:=1<=s.i/\(s.a=0/\s.b=(M s.data:Y))/\(M s.data=M s.b0/\(M s.data:Y)<=1000)/\(∀x∈s.data,0<=x/\x<(M s.b0:Y))/\Ih s.b0 s.b1
def td (s:Ke):aWe:=(s.b-s.i).toNat
def abu (x:Ex) (s s':Ke):Prop:=x=.exit 0
def am8:∀s,kE s->Xs s:=by
 exact mQ
def ui (s:Ke) (hI:Xs s) (c1:s.i<s.b):kD ⟨s.a,s.b,s.i,s.i,s.b0,s.b1,s.data⟩:=by
 obtain ⟨h0,⟨h1,h2⟩,h3⟩:=hI;exact ⟨h1,⟨A8,A8⟩,h3⟩
def ahg:Da Xs td abu zq:=by
 intro s hI
 have hin:=λc1=>ui s hI c1
 obtain ⟨h0,⟨h1,h2⟩,⟨h3,h3'⟩,h4,h5⟩:=hI;refine AH (λc1=>?_) λc1=>rfl
 have c1:s.i<s.b:=A8
 obtain ⟨q1,q2⟩:=aIX _<|hin c1
 have hp:=aq5 (lt:=ltD s.b0 s.b1) (j:=s.i.toNat) (l:=s.data) A0
 rw [AJ (x:=s.i+1),q2];exact ⟨⟨A8,⟨h1,by simp only [hp.length_eq];exact h2⟩,⟨by simp only [hp.length_eq];exact h3,by simp only [hp.length_eq];exact h3'⟩,λx hx=>h4 x<|hp.subset hx,h5⟩,by simp only [td];omega⟩
def Rg:AS Ke:=⟨4,53,[0,1,2,3,8],[],λs=>[.os 2 1 0<|M s.data,s.a,s.b,.fn 141 [.own 0 0,.own 3 0],s.i],λs=>[⟨[s.b0],44,.cl,X⟩,⟨[s.b1],3,.cl,X⟩,bV 3 A7 s.data,⟨[.fn 139 [.own 0 0,.own 1 0]],167,.cl,X⟩],λv b=>⟨AK v 1,AK v 2,AK v 4,AF Aw b 0 0,Aj b 1 0,Ac A7 b 2⟩,zq,λs r=> {s with i:=r.i,data:=r.data},λs=>s,λ_ s=>s,[.exit 0],kE,Xs,td⟩
abbrev W4:=Rg.run
abbrev auU:=Rg.As
def azk:Rq Xs zq:=by
 intro s hI;refine ⟨λc1=>⟨A9,?_,A9,ak⟩,λc1=>⟨A9,ak⟩⟩
 ·exact ⟨ui s hI A8,rfl,rfl⟩
def aSd:Rg.Ok:={}
def aQP:Rg.Pf (abu):=⟨am8,λs h=>rfl,ahg,azk⟩
def rM:SA 4 aHW Rg:=AS.snd aSd aQP (Gg (Γ:=PI) (K:=j6) (L:=(Lx (λi=>if i=4 then Rf.lp else Ak i))) (gk PI) j6.h aHW (λb hb=>by
 rw [show BD _=[aHV] by kernel_rfl] at hb
 simp only [BA,Bu,Bs] at hb;subst hb;exact arW)) λs=>AU
def atp:Rs kE auU W4 (λs:Ke=>Mb (ltD s.b0 s.b1) s.data s.i.toNat) (λx s' (v:aWd)=>x=.exit 0/\s'.data=v):=DU aSd aQP (λs hI=>by
  have hin:=λc1=>ui s hI c1
  obtain ⟨h0,⟨h1,h2⟩,⟨h3,h3'⟩,h4,h5⟩:=hI;refine AH (λc1=>?_) λc1=>?_
  ·have c1:s.i<s.b:=A8
   obtain ⟨q1,q2⟩:=aIX _<|hin c1
   have q2:(qJ ⟨s.a,s.b,s.i,s.i,s.b0,s.b1,s.data⟩).data=bub (ltD s.b0 s.b1) s.i.toNat s.data:=q2
   rw [AJ (x:=s.i+1)]
   show Mb _ _ _=Mb _ _ _
   rw [q2,show (s.i+1).toNat=s.i.toNat+1 by omega,aeO A0]
  ·have c1:s.b<=s.i:=A8
   exact ⟨rfl,(afc A0).symm⟩)
structure Nv where
 (n FU a b:Y)
 b0:aWB
 b1:Y
 data:aWd
def zN (s:Nv):T (Rd Nv):=letI c:=(W4 (⟨s.a,s.b,AA<|s.a+1,s.b0,s.b1,s.data⟩:Ke));.br (an<|s.b<=s.n) (.rl s.data<|.req (Rg.q (⟨s.a,s.b,AA<|s.a+1,s.b0,s.b1,s.data⟩:Ke))<|.re (M s.data) c.data<|.nx {s with a:=s.b,b:=AA<|s.b+s.FU,data:=c.data})<|.rl s.data<|.so (.exit 0) s
def kr (s:Nv):Prop:=s.b=20/\s.n<20
def Yj (s:Nv):Prop:=s.b=20/\s.n<20
def aT2 (s:Nv):aWe:=0
def abg (x:Ex) (s s':Nv):Prop:=x=.exit 0
def akL:∀s,kr s->Yj s:=by
 exact λs h=>h
def axN:Da Yj aT2 abg zN:=by
 intro s hI;obtain ⟨h0,h1⟩:=hI;refine AH (λc1=>absurd (show s.b<=s.n by grind) A0) λc1=>rfl
def Yw:AS Nv:=⟨4,63,[0,1,2,6,7,8],[],λs=>[.os 2 1 0<|M s.data,s.n,.fn 141 [.own 0 0,.own 3 0],s.FU,s.a,s.b],λs=>[⟨[s.b0],44,.cl,X⟩,⟨[s.b1],3,.cl,X⟩,bV 3 A7 s.data,⟨[.fn 139 [.own 0 0,.own 1 0]],167,.cl,X⟩],λv b=>⟨AK v 1,AK v 3,AK v 4,AK v 5,AF Aw b 0 0,Aj b 1 0,Ac A7 b 2⟩,zN,λs r=> {s with a:=r.a,b:=r.b,data:=r.data},λs=>s,λ_ s=>s,[.exit 0],kr,Yj,aT2⟩
abbrev J3:=Yw.run
abbrev auy:=Yw.As
def amM:B1:=kI PI<|la 1 func211 rM<|l0 PI
def ayF:Rq Yj zN:=by
 intro s hI;refine ⟨λc1=>⟨A9,?_,?_,ak⟩,λc1=>⟨A9,ak⟩⟩
 all_goals ((simp only [Aa] at c1;exact absurd c1 (by have:=hI;unfold Yj at this;omega)))
def aRS:Yw.Ok:={}
def aR4:Yw.Pf (abg):=⟨akL,λs h=>rfl,axN,ayF⟩
def aI9:=s2 (b:=bN f178 0) aRS aR4 PI amM
def aqp:Rs kr auy J3 (λs:Nv=>(s.data,s.a)) (λx s' (v:List Int×Int)=>x=.exit 0/\(s'.data,s'.a)=v):=DU aRS aR4 (λs hI=>by
  obtain ⟨h0,h1⟩:=hI;exact AH (λc1=>absurd (show s.b<=s.n by grind) A0) λc1=>⟨rfl,rfl⟩)
def aiZ:aWf->T LV:=λ_=> .req False<|.ok<|.v undef
def axE:VV 212 aiZ:=by
 intro _ _ _ _ _ _ _ _ _ h;exact h.1.elim
structure PD where
 (n FU a b:Y)
 b0:aWB
 b1:Y
 data:aWd
def aGA:=lN (bN f178 1) 0
def zL (s:PD):T (Rd PD):=
 .br (an<|s.b<=s.n) (.rz s.data<|.req False<|.rl s.data<|.nx {s with a:=s.b,b:=AA<|s.b+(AA<|2*s.FU)}) (.rl s.data<|.so (.exit 4) s)
def ac6 (s:PD):Prop:=False
def jn (s:PD):Prop:=False
def aT0 (s:PD):aWe:=0
def acX (x:Ex) (s s':PD):Prop:=True
def akJ:∀s,ac6 s->jn s:=by
 exact λs h=>h
def axL:Da jn aT0 acX zL:=by
 intro s hI;exact hI.elim
def UN:AS PD:=⟨4,63,[0,1,2,6,7,8],[],λs=>[.os 2 1 0<|M s.data,s.n,.fn 141 [.own 0 0,.own 3 0],s.FU,s.a,s.b],λs=>[⟨[s.b0],44,.cl,X⟩,⟨[s.b1],3,.cl,X⟩,bV 3 A7 s.data,⟨[.fn 139 [.own 0 0,.own 1 0]],167,.cl,X⟩],λv b=>⟨AK v 1,AK v 3,AK v 4,AK v 5,AF Aw b 0 0,Aj b 1 0,Ac A7 b 2⟩,zL,λs r=> {s with a:=r.a,b:=r.b},λs=>s,λ_ s=>s,[.exit 4],ac6,jn,aT0⟩
abbrev at1:=UN.run
def Qw:aWp:=[tM,aa3,axE]
def aBG:B1:=kI Qw<|la 2 func178 aI9<|la 1 func211 rM<|l0 Qw
def ayD:Rq jn zL:=by
 intro s hI;refine ⟨λc1=>⟨?_,?_,A9,ak⟩,λc1=>⟨A9,ak⟩⟩
 all_goals (exact hI.elim)
def agR:UN.Ok:={}
def az3:UN.Pf (acX):=⟨akJ,λs h=>rfl,axL,ayD⟩
def aro:SA 4 aGA UN:=s2 agR az3 Qw aBG
structure PJ where
 (n FU:Y)
 b0:aWB
 b1:Y
 data:aWd
def aGB:=bN f178 1
def zM (s:PJ):T (Rd PJ):=
 .br (an<|s.FU<s.n) (.rl s.data<|.req (UN.q (⟨s.n,s.FU,0,AA<|2*s.FU,s.b0,s.b1,s.data⟩:PD))<|.br (an<|(AA<|(at1 (⟨s.n,s.FU,0,AA<|2*s.FU,s.b0,s.b1,s.data⟩:PD)).a+s.FU)<s.n) (.rz s.data<|.req False<|.rl s.data<|.nx {s with FU:=AA<|s.FU*2})<|.rl s.data<|.nx {s with FU:=AA<|s.FU*2}) (.rl s.data<|.so (.exit 2) s)
def aCQ (s:PJ):Prop:=s.FU=20/\s.n<20
def Yi (s:PJ):Prop:=s.FU=20/\s.n<20
def aT1 (s:PJ):aWe:=0
def acY (x:Ex) (s s':PJ):Prop:=x=.exit 2
def akK:∀s,aCQ s->Yi s:=by
 exact λs h=>h
def axM:Da Yi aT1 acY zM:=by
 intro s hI;obtain ⟨h0,h1⟩:=hI;refine AH (λc1=>absurd (show s.FU<s.n by grind) A0) λc1=>rfl
def jy:AS PJ:=⟨4,63,[0,1,2,6],[],λs=>[.os 2 1 0<|M s.data,s.n,.fn 141 [.own 0 0,.own 3 0],s.FU],λs=>[⟨[s.b0],44,.cl,X⟩,⟨[s.b1],3,.cl,X⟩,bV 3 A7 s.data,⟨[.fn 139 [.own 0 0,.own 1 0]],167,.cl,X⟩],λv b=>⟨AK v 1,AK v 3,AF Aw b 0 0,Aj b 1 0,Ac A7 b 2⟩,zM,λs r=> {s with FU:=r.FU},λs=>s,λ_ s=>s,[.exit 2],aCQ,Yi,aT1⟩
def ayE:Rq Yi zM:=by
 intro s hI;refine ⟨λc1=>⟨A9,?_,λc2=>⟨?_,?_,A9,ak⟩,λc2=>⟨A9,ak⟩⟩,λc1=>⟨A9,ak⟩⟩
 all_goals ((simp only [Aa] at c1;exact absurd c1 (by have:=hI;unfold Yi at this;omega)))
def agS:jy.Ok:={}
def az4:jy.Pf (acY):=⟨akK,λs h=>rfl,axM,ayE⟩
def arp:SA 4 aGB jy:=AS.snd agS az4 (Gg (Γ:=Qw) (K:=aBG) (L:=(Lx (λi=>if i=9 then UN.lp else Ak i))) (gk Qw) aBG.h aGB (λb hb=>by
 rw [show BD _=[aGA] by kernel_rfl] at hb
 simp only [BA,Bu,Bs] at hb;subst hb;exact aro)) λs=>AU
def aKu:aWf->T LV
 | [.xl (.pair .bool (.pair (.int J) (.pair (.int J) (.int J)))) d,.v (ag J t)]=> .req (Ih d t/\M d<=19) (.ok<|.xl A7<|HO d t)
 |_=> .no
def LN (d:aWB) (t:Y):PM:=(⟨(((M d:Y).toNat:aWe):Y),0,d,t,aq (M d:Y).toNat (0:Y)⟩:PM)
def IS (d:aWB) (t:Y):Nv:=(⟨((M (ML<|LN d t).out:aWe):Y),20,0,20,d,t,(ML<|LN d t).out⟩:Nv)
def W5 (d:aWB) (t:Y):Ke:=(⟨(J3<|IS d t).a,((M (ML<|LN d t).out:aWe):Y),AA<|(J3<|IS d t).a+1,d,t,(J3<|IS d t).data⟩:Ke)
def aG4 (d:aWB) (t:Y):PJ:=(⟨((M (ML<|LN d t).out:aWe):Y),20,d,t,(W4<|W5 d t).data⟩:PJ)
def amK:B1:=kI Qw<|la 7 func178 arp<|la 2 func178 aI9<|la 1 func211 rM<|l0 Qw
def awY:=vm (S:=aKu) func104 Qw amK (L:=(λi=>if i=3 then S2.lp else Ak i)) (λb hb=>by
 rw [show BD _=[aHD] by kernel_rfl] at hb
 simp only [BA,Bu,Bs] at hb;subst hb;exact asA) (λargs lv h=>by
 unfold aKu at h;split at h
 ·rename_i d t
  refine Aq (letI b:=M (ML<|LN d t).out;letI c:=(M d:Y);letI e:=W4<|W5 d t;.rm 8 c<|.re c.toNat (aq c.toNat (0:Y))<|.req (S2.q<|LN d t)<|.rl (ML<|LN d t).out<|.req (Yw.q<|IS d t)<|.rl (J3<|IS d t).data<|.req (Rg.q<|W5 d t)<|.re (M (J3<|IS d t).data) e.data<|.req (jy.q<|aG4 d t)<|.req (0+b<=M e.data)<|.ok<|.xl A7<|(e.data.drop 0).take b) ?_;obtain ⟨⟨hw,hd⟩,rfl⟩:=h
  have hE:lE (LN d t):=⟨rfl,MF,by show (((M d:Y).toNat:aWe):Y)=(M d:Y);omega,by show (((M d:Y).toNat:aWe):Y)<=1000;omega,by show M (aq _ (0:Y))=M d;rw [Ci];omega⟩
  obtain ⟨_,_,_,q1⟩:=asV _ hE
  have q1:(ML<|LN d t).out=Fy (M d):=q1
  have hl:M (ML<|LN d t).out=M d:=by rw [q1,Om]
  have hE2:kr (IS d t):=⟨rfl,aOc⟩
  obtain ⟨_,q2⟩:=aqp _ hE2
  have q2a:(J3<|IS d t).data=Fy (M d):=(B3 Prod.fst q2).trans q1
  have q2b:(J3<|IS d t).a=0:=B3 Prod.snd q2
  have hE3:kE (W5 d t):=⟨by show AA ((J3<|IS d t).a+1)=1;rw [q2b];rfl,⟨q2b,by show ((M (ML<|LN d t).out:aWe):Y)=(M (J3<|IS d t).data:Y);rw [q2a,hl,Om]⟩,⟨by show M (J3<|IS d t).data=M d;rw [q2a,Om],by show (M (J3<|IS d t).data:Y)<=1000;rw [q2a,Om];omega⟩,λx hx=>aFn.1 (by have hx:x∈(J3<|IS d t).data:=hx;rw [q2a] at hx;exact hx),hw⟩
  obtain ⟨_,q3⟩:=atp _ hE3
  have q3:(W4<|W5 d t).data=HO d t:=q3.trans (by
   show Mb (ltD d t) (J3<|IS d t).data (AA<|(J3<|IS d t).a+1).toNat=_
   rw [q2b,q2a];exact afb)
  have hl3:M (W4<|W5 d t).data=M d:=by rw [q3,aFt]
  have hE4:aCQ (aG4 d t):=⟨rfl,aOc⟩
  refine ⟨⟨A0,A0,A0,A0⟩,⟨rfl,AI⟩,⟨hE,rfl,rfl⟩,A9,⟨hE2,rfl,rfl⟩,A9,⟨hE3,rfl,rfl⟩,⟨rfl,by rw [q2a,Om,hl3]⟩,⟨hE4,rfl,rfl⟩,A0,?_⟩
  show LV.xl _ _=_
  rw [CT,hl,<-hl3,El,q3]
 ·cases h)
structure Ll where
 rs:aWJ
 (tick n t15:Y)
 offers:aWd
 m:aWh
 (k i:Y)
 ail:aWl
 c1:aWg
 c2:aWr
 c3:aWh
 c4:aWs
 NP:aWn
 afT:aWB
 TV:Y
 (avo GF:aWd)
 next:aWJ
 Cx:aWn
def aGo:=bN f78 0
def tQ (s:Ll) (e:Y) (w:aWo) (x:Y) (y:Y):T (Rd Ll):=letI a:=(s.n,(s.i,(x,(s.tick,(12:Y)))));letI b:=(s.next.set s.i.toNat (x,y));letI c:=s.GF.set s.i.toNat x;letI d:=M s.next;letI f:=M s.GF;.br (an<|s.i<s.k) (.ix s.i (M s.m)<|.ix s.i (M s.rs)<|.ix s.i (M s.offers)<|.br (e !=0) (.rl s.GF<|.rl s.next<|.rl s.Cx<|.so (.ret) {s with t15:=(1:Y)})<|.ik s.i f<|.ik s.i d<|.req ((0<=s.i/\s.i<(M s.c3:Y))/\(M s.NP:Y)<=1000/\0<=s.TV/\s.TV<=1000000)<|.br w (.rb (M s.Cx) (M<|[a]) 40<|.re f c<|.re d b<|.re (M s.Cx+M ([a])) (s.Cx++([a]))<|.nx {s with n:=AA<|s.n+1,i:=AA<|s.i+1,GF:=c,next:=b,Cx:=s.Cx++([a])})<|.re f c<|.re d b<|.rl s.Cx<|.nx {s with i:=AA<|s.i+1,GF:=c,next:=b})<|.rl s.GF<|.rl s.next<|.rl s.Cx<|.so (.exit 0) s
abbrev aA6 (s:Ll):=letI a:=AG s.m s.i;letI c:=C0 s.rs s.i;letI d:=gi s.offers s.i;letI b:=nA a.2.2.1 a.2.2.2.1 a.2.2.2.2.1 a.2.2.2.2.2.1 a.2.2.2.2.2.2.1 c.1 c.2 d;tQ s (nE a.2.2.1 a.2.2.2.1 a.2.2.2.2.1 a.2.2.2.2.2.1 a.2.2.2.2.2.2.1 c.1 c.2 d) (nwB s.c3 s.NP s.TV s.i b) b<|nS a.2.2.1 a.2.2.2.1 a.2.2.2.2.1 a.2.2.2.2.2.1 a.2.2.2.2.2.2.1 c.1 c.2 d
def Yt (s:Ll):Prop:=s.i=0/\s.Cx=[]/\(s.k=(M s.m:Y)/\s.k<=16)/\(s.c3=s.m/\s.TV=s.tick)/\((M s.NP:Y)<=1000/\0<=s.tick/\s.tick<=1000000)/\(M s.rs=M s.m/\M s.offers=M s.m/\M s.GF=M s.m/\M s.next=M s.m)/\dcK s.m s.rs s.offers/\1<=s.n-(M s.Cx:Y)/\s.n-(M s.Cx:Y)<=999900
def R6 (s:Ll):Prop:=letI a:=(M s.Cx:Y);(0<=s.i/\s.i<=s.k)/\(∀j,0<=j->j<s.i->gi s.GF j=nxA (AG s.m j) (C0 s.rs j) (gi s.offers j)/\C0 s.next j=(nxA (AG s.m j) (C0 s.rs j)<|gi s.offers j,nxS (AG s.m j) (C0 s.rs j)<|gi s.offers j))/\s.Cx=HE s.m s.NP s.tick (s.n-a) (FJ s.m s.rs s.offers<|M s.m) s.i.toNat/\(s.k=(M s.m:Y)/\s.k<=16)/\(s.c3=s.m/\s.TV=s.tick)/\((M s.NP:Y)<=1000/\0<=s.tick/\s.tick<=1000000)/\(M s.rs=M s.m/\M s.offers=M s.m/\M s.GF=M s.m/\M s.next=M s.m)/\dcK s.m s.rs s.offers/\1<=s.n-a/\s.n-a<=999900
def Wm (s:Ll):aWe:=(s.k-s.i).toNat
def jk (x:Ex) (s s':Ll):Prop:=x=.exit 0/\s'.GF=FJ s'.m s'.rs s'.offers (M s'.m)/\s'.next=dcR s'.m s'.rs s'.offers (M s'.m)/\s'.Cx=HE s'.m s'.NP s'.tick (s'.n-(M s'.Cx:Y)) (FJ s'.m s'.rs s'.offers<|M s'.m) (M s'.m)
def anN:∀s,Yt s->R6 s:=by
 rintro s ⟨h0,h1,h2⟩
 exact ⟨A0,λj j0 j1=>A0,yp,h2⟩
def aw2 (s:Ll) (hI:R6 s) (e:Y) (w:aWo) (x:Y) (y:Y) (he:nE (AG s.m s.i).2.2.1 (AG s.m s.i).2.2.2.1 (AG s.m s.i).2.2.2.2.1 (AG s.m s.i).2.2.2.2.2.1 (AG s.m s.i).2.2.2.2.2.2.1 (C0 s.rs s.i).1 (C0 s.rs s.i).2 (gi s.offers s.i)=e) (hw:nwB s.c3 s.NP s.TV s.i (nA (AG s.m s.i).2.2.1 (AG s.m s.i).2.2.2.1 (AG s.m s.i).2.2.2.2.1 (AG s.m s.i).2.2.2.2.2.1 (AG s.m s.i).2.2.2.2.2.2.1 (C0 s.rs s.i).1 (C0 s.rs s.i).2<|gi s.offers s.i)=w) (hx:nA (AG s.m s.i).2.2.1 (AG s.m s.i).2.2.2.1 (AG s.m s.i).2.2.2.2.1 (AG s.m s.i).2.2.2.2.2.1 (AG s.m s.i).2.2.2.2.2.2.1 (C0 s.rs s.i).1 (C0 s.rs s.i).2 (gi s.offers s.i)=x) (hy:nS (AG s.m s.i).2.2.1 (AG s.m s.i).2.2.2.1 (AG s.m s.i).2.2.2.2.1 (AG s.m s.i).2.2.2.2.2.1 (AG s.m s.i).2.2.2.2.2.2.1 (C0 s.rs s.i).1 (C0 s.rs s.i).2 (gi s.offers s.i)=y):DV (λs'=>R6 s'/\Wm s'<Wm s) (λx s'=>jk x s s') ((tQ s e w x y).rd s):=by
 unfold tQ;dsimp only [T.rd,T.rl,T.rv];obtain ⟨⟨h0,h1⟩,hA,hL,⟨h2,h3⟩,⟨h4,h5⟩,h6,⟨h7,h8,h9,h10⟩,hk,h11⟩:=hI
 have hll:M s.Cx<=s.i.toNat:=yy
 refine AH (λc1=>?_) λc1=>?_
 ·refine AH (λc2=>?_) (λc2=>?_)
  ·have c1:s.i<s.k:=AX
   have hm:s.i<(M s.m:Y):=A0
   exact absurd (he.symm.trans<|amT<|hk s.i h0 hm) EY
  ·refine AH (λc3=>?_) (λc3=>?_)
   ·have c1:s.i<s.k:=AX
    have hm:s.i<(M s.m:Y):=A0
    have hx':nxA (AG s.m s.i) (C0 s.rs s.i) (gi s.offers s.i)=x:=hx
    have hy':nxS (AG s.m s.i) (C0 s.rs s.i) (gi s.offers s.i)=y:=hy
    have hA':∀j,0<=j->j<s.i+1->gi (s.GF.set s.i.toNat x) j=nxA (AG s.m j) (C0 s.rs j) (gi s.offers j)/\C0 (s.next.set s.i.toNat (x,y)) j=(nxA (AG s.m j) (C0 s.rs j)<|gi s.offers j,nxS (AG s.m j) (C0 s.rs j)<|gi s.offers j):=λj j0 j1=>by
     exact aMO
    have hs:s.i.toNat+1=(s.i+1).toNat:=A0
    have hg:gi (FJ s.m s.rs s.offers<|M s.m) (s.i.toNat:aWe)=x:=aP1
    have hw':nwB s.m s.NP s.tick (s.i.toNat:aWe) x=w:=by rw [CP h0,<-hw,h4,h5];rw [<-hx]
    rw [AJ (x:=s.i+1),AJ (x:=s.n+1)]
    have hn:s.n+1-((M (s.Cx++[(s.n,s.i,x,s.tick,12)]):aWe):Y)=s.n-(M s.Cx:Y):=by
     exact aNO
    refine ⟨⟨⟨AZ,AZ⟩,hA',?_,⟨h2,h3⟩,⟨h4,h5⟩,h6,⟨h7,h8,aPa,aOr⟩,hk,by simp only;rw [hn];exact h11⟩,by simp only [Wm];omega⟩
    simp only;rw [hn,<-hs,HE,<-hL,hg,hw',c3,AD rfl,CP h0,show s.n-(M s.Cx:Y)+(M s.Cx:Y)=s.n by omega]
   ·have c1:s.i<s.k:=AX
    have hm:s.i<(M s.m:Y):=A0
    have hx':nxA (AG s.m s.i) (C0 s.rs s.i) (gi s.offers s.i)=x:=hx
    have hy':nxS (AG s.m s.i) (C0 s.rs s.i) (gi s.offers s.i)=y:=hy
    have hA':∀j,0<=j->j<s.i+1->gi (s.GF.set s.i.toNat x) j=nxA (AG s.m j) (C0 s.rs j) (gi s.offers j)/\C0 (s.next.set s.i.toNat (x,y)) j=(nxA (AG s.m j) (C0 s.rs j)<|gi s.offers j,nxS (AG s.m j) (C0 s.rs j)<|gi s.offers j):=λj j0 j1=>by
     exact aMO
    have hs:s.i.toNat+1=(s.i+1).toNat:=A0
    have hg:gi (FJ s.m s.rs s.offers<|M s.m) (s.i.toNat:aWe)=x:=aP1
    have hw':nwB s.m s.NP s.tick (s.i.toNat:aWe) x=w:=A8
    rw [AJ (x:=s.i+1)];refine ⟨⟨⟨AZ,AZ⟩,hA',?_,⟨h2,h3⟩,⟨h4,h5⟩,h6,⟨h7,h8,aPa,aOr⟩,hk,h11⟩,by simp only [Wm];omega⟩
    simp only;rw [<-hs,HE,<-hL,hg,hw',c3,AE Ab,Gb]
 ·have c1:s.k<=s.i:=AX
  have hi:s.i.toNat=M s.m:=A0
  refine ⟨rfl,acr (by rw [h9];exact Iu.symm) λj j0 j1=>?_,atT (by rw [h10,ep]) λj j0 j1=>?_,by have hL':=hL;rw [hi] at hL';exact hL'⟩
  ·rw [FJ,Iu] at j1
   rw [FJ,Of j0 j1];exact (hA j j0 A0).1
  ·rw [ep] at j1
   rw [ahn j0 j1];exact (hA j j0 A0).2
def ahm:Da R6 Wm jk aA6:=λs hI=>aw2 s hI _ _ _ _ rfl rfl rfl rfl
def Rj:AS Ll:=⟨0,108,[2,4,5,12,13,14,15,16,17,19,20,21,57,58,59],[.nl 21 65 AQ],λs=>[s.rs,s.tick,s.n,.v<|.slice aj 0 0,.v<|.slice aj 0 0,.v<|.slice aj 0 0,s.t15,.own 0 0,.xl A7 s.offers,.os 1 1 0<|M s.GF,.os 2 2 0<|M s.next,.os 3 5 0<|M s.Cx,s.m,s.k,s.i],λs=>[⟨[s.ail,s.c1,s.c2,s.c3,s.c4,s.NP,s.afT,s.TV,.xl A7 s.avo],218,.cl,U⟩,bV 3 A7 s.GF,bV 139 Ap s.next,bV 65 AQ s.Cx],λv b=>⟨Az Ap v 0,AK v 1,AK v 2,AK v 6,Az A7 v 8,Az Ah v 12,AK v 13,AK v 14,AF Af b 0 0,AF .str b 0 1,AF Al b 0 2,AF Ah b 0 3,AF Am b 0 4,AF AQ b 0 5,AF Aw b 0 6,Aj b 0 7,AF A7 b 0 8,Ac A7 b 1,Ac Ap b 2,Ac AQ b 3⟩,aA6,λs r=> {s with n:=r.n,t15:=r.t15,i:=r.i,GF:=r.GF,next:=r.next,Cx:=r.Cx},λs=>s,λ_ s=>s,[.ret,.exit 0],Yt,R6,Wm⟩
abbrev J4:=Rj.run
abbrev sR:=Rj.As
def azA:Rq R6 aA6:=by
 intro s hI;refine ⟨λc1=>⟨?_,?_,?_,λc2=>⟨A9,A9,A9,ak⟩,λc2=>⟨?_,?_,?_,?_,?_,λc3=>⟨?_,?_,?_,?_,ak⟩,λc3=>⟨?_,?_,A9,ak⟩⟩⟩,λc1=>⟨A9,A9,A9,ak⟩⟩
 all_goals ((obtain ⟨⟨h0,h1⟩,hA,hL,⟨h2,h3⟩,⟨h4,h5⟩,h6,⟨h7,h8,h9,h10⟩,hk,h11⟩:=hI;have hll:M s.Cx<=s.i.toNat:=yy;(try simp only [Aa] at c1);have hl3:M s.c3=M s.m:=B3 M h4;first|omega|exact ⟨rfl,AI⟩ |(refine ⟨A0,?_,?_⟩<;>simp only [Bj,Bt]<;>omega)))
def ab2:aWp:=[awY,awk,awm,awc,awn]
def uY:Rj.Ok:={}
def sj:Rj.Pf (jk):=⟨anN,λs h=>rfl,ahm,azA⟩
def arj:SA 0 aGo Rj:=s1 uY sj ab2 kN
def aw1:Fi Yt R6 jk sR J4:=AS.fin uY sj
def aw0:Rs Yt sR J4 (λs:Ll=>s.n-(M s.Cx:Y)) (λx s' (v:Y)=>s'.n-(M s'.Cx:Y)=v):=DU uY sj (λs hI=>by
  obtain ⟨⟨h0,h1⟩,hA,hL,⟨h2,h3⟩,⟨h4,h5⟩,h6,⟨h7,h8,h9,h10⟩,hk,h11⟩:=hI
  have hll:M s.Cx<=s.i.toNat:=yy
  refine AH (λc1=>?_) λc1=>?_
  ·refine AH (λc2=>?_) (λc2=>?_)
   ·rfl
   ·refine AH (λc3=>?_) (λc3=>?_)
    ·have c1:s.i<s.k:=A8
     rw [AJ (x:=s.n+1)]
     show s.n+1-((M (s.Cx++[_]):aWe):Y)=s.n-(M s.Cx:Y)
     exact aNO
    ·rfl
  ·rfl)
def aK7:aWf->T LV
 | .agg a::r=>s5 a λcs os ks gs bs=>(match r with
  | [.xl (.pair (.int J) (.pair (.int J) (.pair (.int J) (.pair (.int J) (.int J))))) l,.xl (.pair (.int J) (.int J)) rs,.xl (.pair .bool (.pair (.int J) (.pair (.int J) (.int J)))) d,.v (ag J t),.v (ag J n)]=> .req (Ih d t/\M d<=19) (.ok<|.AO [.xl A7<|deA cs os ks gs bs l rs d t n,deR cs os ks gs bs l rs d t n,deL cs os ks gs bs l rs d t n,deE cs os ks gs bs l rs d t n])
  |_=> .no)
 |_=> .no
def cI (cs:aWl) (os:aWg) (ks:aWr) (gs:aWh) (bs:aWs) (l:aWn) (rs:aWJ) (d:aWB) (t n:Y):Ll:=letI a:=ofO cs os ks gs bs l d t<|HO d t;(⟨rs,t,n,0,a,gs,(M gs:Y),0,cs,os,ks,gs,bs,l,d,t,HO d t,aq (M a:Y).toNat (0:Y),aq (M a:Y).toNat ((0:Y),(0:Y)),([]:aWn)⟩:Ll)
def aPs:=vm (S:=aK7) func78 ab2 kN (L:=(λi=>if i=11 then Rj.lp else Ak i)) (λb hb=>by
 rw [show BD _=[aGo] by kernel_rfl] at hb
 simp only [BA,Bu,Bs] at hb;subst hb;exact arj) (λargs lv h=>by
 unfold aK7 at h;split at h
 case h_2=>cases h
 replace h:=IT h
 obtain ⟨cs,os,ks,gs,bs,rfl,h⟩:=h;split at h
 ·rename_i l rs d t n
  refine Aq (letI a:=cI cs os ks gs bs l rs d t n;letI b:=(M (ofO cs os ks gs bs l d t<|HO d t):Y);.req (Ih d t/\M d<=19)<|.br (!(JV cs os ks gs bs l rs d t n)) (.ok<|.AO [.xl A7 ([]:aWd),.xl Ap ([]:aWJ),.xl AQ ([]:aWn),(1:Y)])<|.req (M d=M gs/\Fx cs os ks gs bs (Bv gs) (JC gs d) (HO d t)=U/\Kz l (M gs:Y) t=U/\Fx cs os ks gs bs (DO gs l t) (Fe cs os ks gs bs (Bv gs) (JC gs d)<|HO d t) (HO d t)=U)<|.br ((0:Y) !=0) (.ok<|.AO [.xl A7 ([]:aWd),.xl Ap ([]:aWJ),.xl AQ ([]:aWn),(1:Y)])<|.rm 8 b<|.rm 16 b<|.re b.toNat (aq b.toNat (0:Y))<|.re b.toNat (aq b.toNat ((0:Y),(0:Y)))<|.r0 Le<|.req (Rj.q a)<|.br (Bb (sR a)<|.ret) (.ok<|.AO [.xl A7 ([]:aWd),.xl Ap ([]:aWJ),.xl AQ ([]:aWn),(J4 a).t15])<|.rz (J4 a).GF<|.rz (J4 a).next (.rz (J4 a).Cx<|.ok<|.AO [.xl A7<|((J4 a).GF.drop 0).take<|M (J4 a).GF,(((J4 a).next.drop 0).take<|M (J4 a).next),(((J4 a).Cx.drop 0).take<|M (J4 a).Cx),(0:Y)])) ?_;obtain ⟨hw,rfl⟩:=h;refine ⟨hw,λc=>?_,λc=>?_⟩
  ·unfold deA deR deL deE
   rw [ntW c];rfl
  have c:=nfW c
  have V:=aVS c
  have ol:M (ofO cs os ks gs bs l d t<|HO d t)=M gs:=(abK V).1
  have hE:Yt (cI cs os ks gs bs l rs d t n):=⟨rfl,rfl,⟨rfl,by have:=V.gl;show (M gs:Y)<=16;omega⟩,A9,⟨by have:=(GH V.les).1;show (M l:Y)<=1000;omega,V.tb⟩,⟨V.rl,ol,by show M (aq _ (0:Y))=M gs;rw [Ci];omega,by show M (aq _ ((0:Y),(0:Y)))=M gs;rw [Ci];omega⟩,aTz V,by have:=V.nb;show 1<=n-(0:Y);omega,by have:=V.nb;show n-(0:Y)<=999900;omega⟩
  obtain ⟨_,_,q1,q2,q3,q4⟩:=aw1 _ hE
  have hn:=aw0 _ hE
  have hn:=hn.trans<|QB n
  have q2:(J4<|cI cs os ks gs bs l rs d t n).GF=deA cs os ks gs bs l rs d t n:=q2.trans (by unfold deA;rw [AD c];rfl)
  have q3:(J4<|cI cs os ks gs bs l rs d t n).next=deR cs os ks gs bs l rs d t n:=q3.trans (by unfold deR;rw [AD c];rfl)
  rw [hn] at q4
  have q4:(J4<|cI cs os ks gs bs l rs d t n).Cx=deL cs os ks gs bs l rs d t n:=q4.trans (by unfold deL;rw [AD c];rfl)
  have gl:=V.gl
  refine ⟨⟨V.dl,aaB V.si,aw9 V,jF V⟩,λc2=>absurd c2 Ab,λ_=>?_⟩
  refine ⟨by rw [ol];omega,by rw [ol];omega,⟨rfl,AI⟩,⟨rfl,AI⟩,A9,⟨hE,rfl,rfl⟩,?_⟩
  rw [q1];refine ⟨λh=>Ao,λ_=>⟨A0,A0,A0,?_⟩⟩
  show LV.AO [LV.xl _ _,LV.xl _ _,LV.xl _ _,_]=_
  rw [CT,El,CT,El,CT,El,q2,q3,q4];unfold deE;rw [AD c]
 ·cases h)
structure NZ where
 t5:Y
 t23:aWd
 (t24 t25:Y)
 BG:aWl
 Bf:aWg
 C4:aWr
 BQ:aWh
 C5:aWs
 DA:aWd
def aHP:=bN f98 0
def aAU (s:NZ):T (Rd NZ):=
 .br (an<|s.t25<s.t24) (.ix s.t25 (M s.t23)<|.br ((an<|(gi s.t23 s.t25)<0) ||(an<|(gi s.t23 s.t25)>80)) (.so (.ret) {s with t5:=(1:Y)})<|.nx {s with t25:=AA<|s.t25+1}) (.so (.exit 0) s)
def lK (s:NZ):Prop:=s.t5=0/\s.t25=0/\s.t24=(M s.t23:Y)/\s.t24<=1000/\∀k:aWe,k<M s.t23->0<=gi s.t23 k/\gi s.t23 k<=80
def YL (s:NZ):Prop:=s.t5=0/\(0<=s.t25/\s.t25<=s.t24)/\s.t24=(M s.t23:Y)/\s.t24<=1000/\∀k:aWe,k<M s.t23->0<=gi s.t23 k/\gi s.t23 k<=80
def tV (s:NZ):aWe:=(s.t24-s.t25).toNat
def aCE (x:Ex) (s s':NZ):Prop:=x=.exit 0/\s'.t5=0
def amW:∀s,lK s->YL s:=by
 rintro s ⟨h9,h0,h1,h2,h3⟩
 exact ⟨h9,A0,h1,h2,h3⟩
def afu:Da YL tV aCE aAU:=by
 intro s hI;obtain ⟨h9,⟨h0,h1⟩,h2,h3,h5⟩:=hI;refine AH (λc1=>AH (λc2=>?_) λc2=>?_) λc1=>?_
 ·exfalso
  have c1:s.t25<s.t24:=A8
  have:=h5 s.t25.toNat A0
  rw [CP h0] at this;simp only [Cj,Aa] at c2;omega
 ·have c1:s.t25<s.t24:=A8
  rw [AJ (x:=s.t25+1)];exact ⟨⟨h9,⟨A8,A8⟩,h2,h3,h5⟩,by simp only [tV];omega⟩
 ·exact ⟨rfl,h9⟩
def RU:AS NZ:=⟨0,65,[2,3,4,5,23,24,25],[],λs=>[.own 0 0,.own 1 0,.v<|.slice aj 0 0,s.t5,.xl A7 s.t23,s.t24,s.t25],λs=>[⟨[s.BG,s.Bf,s.C4,s.BQ,s.C5],28,.cl,X⟩,⟨[.xl A7 s.DA],29,.cl,X⟩],λv b=>⟨AK v 3,Az A7 v 4,AK v 5,AK v 6,AF Af b 0 0,AF .str b 0 1,AF Al b 0 2,AF Ah b 0 3,AF Am b 0 4,AF A7 b 1 0⟩,aAU,λs r=> {s with t5:=r.t5,t25:=r.t25},λs=>s,λ_ s=>s,[.ret,.exit 0],lK,YL,tV⟩
abbrev oV:=RU.run
abbrev aJV:=RU.As
def aza:Rq YL aAU:=by
 intro s hI;refine ⟨λc1=>⟨?_,λ_=>trivial,λ_=>trivial⟩,λ_=>trivial⟩
 ·(simp only [Aa] at c1;obtain ⟨h9,⟨h0,h1⟩,h2,h3⟩:=hI;omega)
def gd:aWp:=[P5,fi]
def aTQ:B1:=kI gd<|l0 gd
def aSU:RU.Ok:={}
def aQm:RU.Pf (aCE):=⟨amW,λs h=>rfl,afu,aza⟩
def arO:SA 0 aHP RU:=s1 aSU aQm gd aTQ
def auE:Fi lK YL aCE aJV oV:=AS.fin aSU aQm
def aAc:Array Tmp×Code×Code:=((Iz<|f98.body.getD .skip)[0]?).getD (#[],.skip,.skip)
def ale:aW8:=aAc.1
def al8:aWO:=aAc.2.1
def aln:aWO:=aAc.2.2
structure Jt where
 BG:aWl
 Bf:aWg
 C4:aWr
 BQ:aWh
 C5:aWs
 c:Y
 Bg:aWl
 Gf:aWg
 Gc:aWr
 Gi:aWh
 Gl:aWs
 b1:aWd
 b3:aW9
 b4:Y
 fD:aWM
 (jL Iv gU gV fC oe pg:Y)
 st:LS
def aAS (s:Jt):T (Rd Jt):=letI b:=gi s.b1 s.b4;letI d:=s.c.toNat<M s.b3;letI e:=Ul s.b3 s.c.toNat b;letI g:=M s.b3;letI h:=M s.BG;letI i:=Ae s.BG s.c;letI k:=(Bk J s.Iv 4) !=0;letI m:=s.c.toNat<M e;letI a:=XV s.b3 s.c.toNat b;letI f:=Ul a s.c.toNat b;letI j:=s.c.toNat<M a;letI l:=s.c.toNat<M f;.br (an<|s.c>=0) (.ix s.c g<|.ix s.b4 (M s.b1)<|.br ((Bk J s.Iv 1) !=0) (.req d<|.req d<|.br ((Bk J s.Iv 2) !=0) (.req j<|.req j<|.br k (.req l<|.req l<|.ix s.c h<|.re g (up3 f s.c.toNat b)<|.nx {s with c:=i.2.1,b3:=up3 f s.c.toNat b})<|.ix s.c h<|.re g f<|.nx {s with c:=i.2.1,b3:=f})<|.br k (.req j<|.req j<|.ix s.c h<|.re g (up3 a s.c.toNat b)<|.nx {s with c:=i.2.1,b3:=up3 a s.c.toNat b})<|.ix s.c h<|.re g a<|.nx {s with c:=i.2.1,b3:=a})<|.br ((Bk J s.Iv 2) !=0) (.req d<|.req d<|.br k (.req m<|.req m<|.ix s.c h<|.re g (up3 e s.c.toNat b)<|.nx {s with c:=i.2.1,b3:=up3 e s.c.toNat b})<|.ix s.c h<|.re g e<|.nx {s with c:=i.2.1,b3:=e})<|.br k (.req d<|.req d<|.ix s.c h<|.re g (up3 s.b3 s.c.toNat b)<|.nx {s with c:=i.2.1,b3:=up3 s.b3 s.c.toNat b})<|.ix s.c h<|.rl s.b3<|.nx {s with c:=i.2.1})<|.rl s.b3<|.so (.exit 0) s
def UM (s:Jt):Prop:=s.st=.ready/\Fh s.BG=U/\s.c<(M s.BG:Y)/\M s.b3=M s.BG/\(0<=s.b4/\s.b4<(M s.b1:Y))
def YK (s:Jt):Prop:=s.st=.ready/\Fh s.BG=U/\s.c<(M s.BG:Y)/\M s.b3=M s.BG/\(0<=s.b4/\s.b4<(M s.b1:Y))
def aDD (s:Jt):aWe:=(s.c+1).toNat
def aCC (x:Ex) (s s':Jt):Prop:=x=.exit 0/\s'.c<0
def amU:∀s,UM s->YK s:=by
 exact λs h=>h
def afs:Da YK aDD aCC aAS:=by
 intro s hI;obtain ⟨h0,h1,h2,h3,h4⟩:=hI;refine AH (λc1=>?_) λc1=>?_
 ·have c1:0<=s.c:=AX
  have:=Qo h1 c1 h2
  exact AH (λ_=>AH (λ_=>AH (λ_=>⟨⟨h0,h1,AZ,Sp,h4⟩,QI⟩) λ_=>⟨⟨h0,h1,AZ,Sp,h4⟩,QI⟩) λ_=>AH (λ_=>⟨⟨h0,h1,AZ,Sp,h4⟩,QI⟩) λ_=>⟨⟨h0,h1,AZ,Sp,h4⟩,QI⟩) λ_=>AH (λ_=>AH (λ_=>⟨⟨h0,h1,AZ,Sp,h4⟩,QI⟩) λ_=>⟨⟨h0,h1,AZ,Sp,h4⟩,QI⟩) λ_=>AH (λ_=>⟨⟨h0,h1,AZ,Sp,h4⟩,QI⟩) λ_=>⟨⟨h0,h1,AZ,A8,h4⟩,QI⟩
 ·have c1:¬(0<=s.c):=AX
  exact VM
def Yz:AS Jt:=⟨7,18,[0,2,4],[],λs=>[.CO 6,xQ 5 [s.BG,s.Bf,s.C4,s.BQ,s.C5],s.c],λs=>[⟨[s.Bg,s.Gf,s.Gc,s.Gi,s.Gl],28,.cl,X⟩,⟨[.xl A7 s.b1],29,.cl,X⟩,⟨[.os 3 3 0<|M s.b3],204,.cl,X⟩,⟨[],212,.vec (.pair A7 Ap) s.b3,X⟩,⟨[s.b4],3,.cl,X⟩,⟨[.v<|.string s.fD,s.jL,s.Iv,s.gU,s.gV,s.fC,s.oe,s.pg],114,.cl,X⟩,⟨[.junk,.junk,.junk,.own 1 0,.junk,.junk,.junk,.junk,.own 2 0,.own 4 0,.own 5 0,.junk,.junk,.junk,.junk,.junk,.junk,.junk,.junk,.junk,.junk,.junk,.junk,.junk,.junk,.junk,.junk,.junk,.junk,.junk,.junk,.junk,.junk,.junk,.junk,.junk,.junk,.junk,.junk,.junk,.junk,.junk,.junk,.junk,.junk,.junk,.junk,.junk,.junk,.junk,.junk,.junk,.junk,.junk,.junk,.junk,.junk,.junk,.junk,.junk,.junk,.junk,.junk,.junk,.junk],0,.Cl ale al8 aln s.st,X⟩],λv b=>⟨Ar Af<|BT (v.getD 1 .junk) 0,Ar .str<|BT (v.getD 1 .junk) 1,Ar Al<|BT (v.getD 1 .junk) 2,Ar Ah<|BT (v.getD 1 .junk) 3,Ar Am<|BT (v.getD 1 .junk) 4,AK v 2,AF Af b 0 0,AF .str b 0 1,AF Al b 0 2,AF Ah b 0 3,AF Am b 0 4,AF A7 b 1 0,Ac (.pair A7 Ap) b 3,Aj b 4 0,gSr<|BF (CW b 5) 0,Aj b 5 1,Aj b 5 2,Aj b 5 3,Aj b 5 4,Aj b 5 5,Aj b 5 6,Aj b 5 7,.ready⟩,aAS,λs r=> {r with BG:=s.BG,Bf:=s.Bf,C4:=s.C4,BQ:=s.BQ,C5:=s.C5,Bg:=s.Bg,Gf:=s.Gf,Gc:=s.Gc,Gi:=s.Gi,Gl:=s.Gl,b1:=s.b1,b4:=s.b4,fD:=s.fD,jL:=s.jL,Iv:=s.Iv,gU:=s.gU,gV:=s.gV,fC:=s.fC,oe:=s.oe,pg:=s.pg,st:=s.st},λs=> {s with st:=.ready},λx s=> {s with st:=(match x with| .exit 0=> .ready|_=> .ready)},[.exit 0],UM,YK,aDD⟩
abbrev TR:=Yz.run
abbrev aIU:=Yz.As
def azY:Rq YK aAS:=by
 intro s hI;refine ⟨λc1=>⟨?_,?_,λc2=>⟨?_,?_,λc3=>⟨?_,?_,λc4=>⟨?_,?_,?_,?_,ak⟩,λc4=>⟨?_,?_,ak⟩⟩,λc3=>⟨λc5=>⟨?_,?_,?_,?_,ak⟩,λc5=>⟨?_,?_,ak⟩⟩⟩,λc2=>⟨λc6=>⟨?_,?_,λc7=>⟨?_,?_,?_,?_,ak⟩,λc7=>⟨?_,?_,ak⟩⟩,λc6=>⟨λc8=>⟨?_,?_,?_,?_,ak⟩,λc8=>⟨?_,A9,ak⟩⟩⟩⟩,λc1=>⟨A9,ak⟩⟩
 all_goals ((obtain ⟨h0,h1,h2,h3,h4⟩:=hI;simp only [Aa,MB] at c1;first|omega|(simp only [aD9,aD8,aD7];omega) |simp [aD9,aD8,aD7]))
def uW:Yz.Ok:={}
def sf:Yz.Pf (aCC):=⟨amU,λs h=>by
 obtain ⟨BG,Bf,C4,BQ,C5,c,Bg,Gf,Gc,Gi,Gl,b1,b3,b4,fD,jL,Iv,gU,gV,fC,oe,pg,st⟩:=s
 have e:=h.1
 subst e;rfl,afs,azY⟩
def aIB:=s2 (b:=bN f172 0) uW sf gd aTQ
def auC:Fi UM YK aCC aIU TR:=AS.fin uW sf
def apW (s:Jt) (hE:UM s):(λs:Jt=>HD s.BG s.Iv (gi s.b1 s.b4) s.c s.b3) (TR s)=(λs:Jt=>HD s.BG s.Iv (gi s.b1 s.b4) s.c s.b3) s:=by
 exact AS.Kh uW sf (λs:Jt=>HD s.BG s.Iv (gi s.b1 s.b4) s.c s.b3) (λs hI=>by
  obtain ⟨h0,h1,h2,h3,h4⟩:=hI
  have hp:=ahZ (ph:=s.Iv) (v:=gi s.b1 s.b4) (l:=s.b3) h1 h2
  refine AH (λc1=>?_) λc1=>rfl
  have c1:0<=s.c:=A8
  rw [AD c1,aiX A0] at hp
  refine AH (λd1=>AH (λd2=>AH (λd4=>?_) λd4=>?_) λd2=>AH (λd4=>?_) λd4=>?_) (λd1=>AH (λd2=>AH (λd4=>?_) λd4=>?_) λd2=>AH (λd4=>?_) λd4=>?_)<;>
   (show HD _ _ _ _ _=HD _ _ _ _ _;rw [hp];simp only [d1,d2,d4,Bp,IJ,FQ])) s hE
def auB (s:Jt) (hE:UM s):aIU s=.exit 0/\(TR s).b3=HD s.BG s.Iv (gi s.b1 s.b4) s.c s.b3:=by
 have q3:=apW s hE
 obtain ⟨s',hI,q1,q2⟩:=auC s hE;refine ⟨q1,?_⟩
 have q3:HD s.BG s.Iv (gi s.b1 s.b4) (TR s).c (TR s).b3=HD s.BG s.Iv (gi s.b1 s.b4) s.c s.b3:=q3
 rw [<-q3];unfold HD;rw [ldW,AE A0]
structure MY where
 t5:Y
 t41:aWh
 (t42 t43:Y)
 BG:aWl
 Bf:aWg
 C4:aWr
 BQ:aWh
 C5:aWs
 DA:aWd
 b3:aW9
def aHO:=bN f98 1
def pR (s:MY):Jt:=(⟨s.BG,s.Bf,s.C4,s.BQ,s.C5,(AG s.t41 s.t43).2.1,s.BG,s.Bf,s.C4,s.BQ,s.C5,s.DA,s.b3,s.t43,(AG s.t41 s.t43).1,(AG s.t41 s.t43).2.1,(AG s.t41 s.t43).2.2.1,(AG s.t41 s.t43).2.2.2.1,(AG s.t41 s.t43).2.2.2.2.1,(AG s.t41 s.t43).2.2.2.2.2.1,(AG s.t41 s.t43).2.2.2.2.2.2.1,(AG s.t41 s.t43).2.2.2.2.2.2.2,.ready⟩:Jt)
def aAT (s:MY):T (Rd MY):=
 .br (an<|s.t43<s.t42) (.ix s.t43 (M s.t41)<|.rl s.b3<|.req (Yz.q<|pR s)<|.rl (TR<|pR s).b3<|.nx {s with t43:=AA<|s.t43+1,b3:=(TR<|pR s).b3}) (.rl s.b3<|.so (.exit 2) s)
def lJ (s:MY):Prop:=s.t43=0/\(s.t42=(M s.t41:Y)/\s.t42<=1000/\Fh s.BG=U/\atB s.BG s.t41=U/\M s.DA=M s.t41)/\s.b3=aq (M s.BG) (Ty.dflt<|.pair A7 Ap)
def U1 (s:MY):Prop:=(0<=s.t43/\s.t43<=s.t42)/\(s.t42=(M s.t41:Y)/\s.t42<=1000/\Fh s.BG=U/\atB s.BG s.t41=U/\M s.DA=M s.t41)/\s.b3=Jc s.BG s.t41 s.DA s.t43.toNat
def tU (s:MY):aWe:=(s.t42-s.t43).toNat
def aCD (x:Ex) (s s':MY):Prop:=x=.exit 2/\s'.b3=Jc s'.BG s'.t41 s'.DA (M s'.t41)
def amV:∀s,lJ s->U1 s:=by
 rintro s ⟨h0,h1,h2⟩
 exact ⟨A0,h1,by rw [h2,h0];rfl⟩
def aSp (s:MY) (hI:U1 s) (c1:s.t43<s.t42):UM (pR s):=by
 obtain ⟨⟨h0,h1⟩,⟨h2,h3,h4,h5,h6⟩,h7⟩:=hI;refine ⟨rfl,h4,gX h5 h0 A0,?_,⟨h0,?_⟩⟩
 ·show M s.b3=_
  rw [h7];exact rZ h4 h5 _ A0
 ·show s.t43<(M s.DA:Y)
  omega
def aft:Da U1 tU aCD aAT:=by
 intro s hI
 have hin:=λc1=>aSp s hI c1
 obtain ⟨⟨h0,h1⟩,⟨h2,h3,h4,h5,h6⟩,h7⟩:=hI;refine AH (λc1=>?_) λc1=>?_
 ·have c1:s.t43<s.t42:=A8
  obtain ⟨_,q⟩:=auB _<|hin c1;rw [AJ (x:=s.t43+1)];refine ⟨⟨⟨A8,A8⟩,⟨h2,h3,h4,h5,h6⟩,?_⟩,by simp only [tU];omega⟩
  rw [show (s.t43+1).toNat=s.t43.toNat+1 by omega,q]
  show HD s.BG (AG s.t41 s.t43).2.2.1 (gi s.DA s.t43) (AG s.t41 s.t43).2.1 s.b3=HD s.BG (AG s.t41 (s.t43.toNat:Y)).2.2.1 (gi s.DA (s.t43.toNat:Y)) (AG s.t41 (s.t43.toNat:Y)).2.1 (Jc s.BG s.t41 s.DA s.t43.toNat)
  grind
 ·have c1:s.t42<=s.t43:=A8
  refine ⟨rfl,?_⟩
  grind
def RT:AS MY:=⟨0,65,[2,3,4,5,8,41,42,43],[],λs=>[.own 0 0,.own 1 0,.v<|.slice aj 0 0,s.t5,.own 2 0,s.t41,s.t42,s.t43],λs=>[⟨[s.BG,s.Bf,s.C4,s.BQ,s.C5],28,.cl,X⟩,⟨[.xl A7 s.DA],29,.cl,X⟩,⟨[.os 3 3 0<|M s.b3],204,.cl,X⟩,⟨[],212,.vec (.pair A7 Ap) s.b3,X⟩],λv b=>⟨AK v 3,Az Ah v 5,AK v 6,AK v 7,AF Af b 0 0,AF .str b 0 1,AF Al b 0 2,AF Ah b 0 3,AF Am b 0 4,AF A7 b 1 0,Ac (.pair A7 Ap) b 3⟩,aAT,λs r=> {r with t5:=s.t5,t41:=s.t41,t42:=s.t42,BG:=s.BG,Bf:=s.Bf,C4:=s.C4,BQ:=s.BQ,C5:=s.C5,DA:=s.DA},λs=>s,λ_ s=>s,[.exit 2],lJ,U1,tU⟩
abbrev aDd:=RT.run
abbrev avH:=RT.As
def azZ:Rq U1 aAT:=by
 intro s hI;refine ⟨λc1=>⟨?_,A9,?_,A9,ak⟩,λc1=>⟨A9,ak⟩⟩
 ·(obtain ⟨⟨h0,h1⟩,⟨h2,h3⟩,h4⟩:=hI;simp only [Aa] at c1;omega)
 ·exact ⟨aSp s hI A8,rfl,rfl⟩
def wA:aWp:=[P5,fi]
def ahH:B1:=kI wA<|la 1 func172 aIB<|l0 wA
def aST:RT.Ok:={}
def aQl:RT.Pf (aCD):=⟨amV,λs h=>rfl,aft,azZ⟩
def arN:SA 0 aHO RT:=s1 aST aQl wA ahH
def auD:Fi lJ U1 aCD avH aDd:=AS.fin aST aQl
def JS (cs:aWl) (gs:aWh) (am:aWd):aWP:=if M am=M gs then Jc cs gs am (M gs) else []
def Jb (gs:aWh) (am:aWd):Y:=if M am=M gs then 0 else 1
def aUE:aWf->T LV
 | .agg a::r=>s5 a λcs os ks gs bs=>(match r with
  | [.xl (.int J) am]=> .req (BH cs os ks gs bs=U/\(M am=M gs->∀k:aWe,k<M am->0<=gi am k/\gi am k<=80)) (.ok<|.AO [.xl (.pair A7 Ap)<|JS cs gs am,Jb gs am])
  |_=> .no)
 |_=> .no
def w9:aWp:=[P5,fi]
def ahG:B1:=kI w9<|la 1 func172 aIB<|l0 w9
def aVG:=vm (S:=aUE) func98 w9 ahG (L:=(λi=>if i=4 then RU.lp else if i=11 then RT.lp else Ak i)) (λb hb=>by
 rw [show BD _=[aHP,aHO] by kernel_rfl] at hb
 simp only [BA,Bu,Bs] at hb;rcases hb with rfl|rfl
 ·exact arO
 ·exact arN) (λargs lv h=>by
 unfold aUE at h;split at h
 case h_2=>cases h
 replace h:=IT h
 obtain ⟨cs,os,ks,gs,bs,rfl,h⟩:=h;split at h
 ·rename_i am
  refine Aq (letI e:=(M am:Y);letI f:=(M gs:Y);letI g:=(M cs:Y);letI b:=(oV (⟨0,am,e,0,cs,os,ks,gs,bs,am⟩:NZ));letI d:=(aq g.toNat ((0:Y),((0:Y),(0:Y))));letI a:=(aDd (⟨b.t5,gs,f,0,cs,os,ks,gs,bs,am,d⟩:MY));.br ((!(BH cs os ks gs bs)) ||(e !=f)) (.ok<|.AO [.xl (.pair A7 Ap) ([]:aW9),(1:Y)])<|.req (RU.q (⟨0,am,e,0,cs,os,ks,gs,bs,am⟩:NZ))<|.br (Bb (aJV (⟨0,am,e,0,cs,os,ks,gs,bs,am⟩:NZ))<|.ret) (.ok<|.AO [.xl (.pair A7 Ap) ([]:aW9),b.t5])<|.rm 24 g<|.re g.toNat d<|.req (RT.q (⟨b.t5,gs,f,0,cs,os,ks,gs,bs,am,d⟩:MY))<|.rz a.b3<|.ok<|.AO [.xl (.pair A7 Ap)<|(a.b3.drop 0).take<|M a.b3,(0:Y)]) ?_;obtain ⟨⟨hv,hr⟩,rfl⟩:=h
  by_cases hl:M am=M gs
  rotate_left
  ·refine ⟨λ_=>?_,λc=>?_⟩
   ·unfold JS Jb
    rw [AE hl,AE hl];rfl
   ·rw [hv] at c;simp at c;omega
  have hr:=hr hl
  unfold JS Jb;rw [AD hl,AD hl]
  have hb:=(DK.1 hv).1
  have hA:lK ⟨0,am,(M am:Y),0,cs,os,ks,gs,bs,am⟩:=⟨rfl,rfl,rfl,A8,hr⟩
  obtain ⟨_,_,q1,q5⟩:=auE _ hA
  have hB:lJ ⟨(oV ⟨0,am,(M am:Y),0,cs,os,ks,gs,bs,am⟩).t5,gs,(M gs:Y),0,cs,os,ks,gs,bs,am,aq (M cs:Y).toNat ((0:Y),((0:Y),(0:Y)))⟩:=⟨rfl,⟨rfl,A8,pU hv,pV hv,hl⟩,by
   rw [By];rfl⟩
  obtain ⟨_,_,q6,q7⟩:=auD _ hB
  have q7:(aDd ⟨(oV ⟨0,am,(M am:Y),0,cs,os,ks,gs,bs,am⟩).t5,gs,(M gs:Y),0,cs,os,ks,gs,bs,am,aq (M cs:Y).toNat ((0:Y),((0:Y),(0:Y)))⟩).b3=Jc cs gs am (M gs):=q7
  refine ⟨λc=>?_,λ_=>⟨⟨hA,rfl,rfl⟩,?_⟩⟩
  ·exfalso
   rw [hv,hl] at c
   simp at c
  ·rw [q1]
   refine ⟨λh=>Ao,λ_=>⟨A0,⟨rfl,AI⟩,⟨hB,rfl,rfl⟩,A0,?_⟩⟩
   show LV.AO _=LV.AO _
   rw [CT,El,q7]
 ·cases h)
def aAb:Array Tmp×Code×Code:=((Iz<|f72.body.getD .skip)[0]?).getD (#[],.skip,.skip)
def aaH:aW8:=aAb.1
def aVi:aWO:=aAb.2.1
def aVg:aWO:=aAb.2.2
structure Nr where
 (c t7 t8 t11:Y)
 Bg:aWl
 Gf:aWg
 Gc:aWr
 Gi:aWh
 Gl:aWs
 (It J0 J2:Y)
 b2:aWo
 b3:Y
 b4:aW9
 NK:aWl
 NN:aWg
 NJ:aWr
 NL:aWh
 NR:aWs
 st:LS
def aGw:=lN (bN f136 0) 0
def iy (s:Nr):T (Rd Nr):=letI a:=DE<|Ae s.Bg s.c;letI b:=AA<|s.t11+1;letI d:=M s.Bg;.br (an<|s.t11<3) (.ix s.c (M s.b4)<|.br (s.t11==0) (.ix s.c d<|.br (an<|(gx (e:=.pair A7 Ap) s.b4 s.c).1>a) (.so (.ret) {s with It:=s.c,J0:=s.t11,J2:=(gx (e:=.pair A7 Ap) s.b4 s.c).1,b2:=U,b3:=(0:Y),st:=.done<|.ret})<|.nx {s with t11:=b})<|.br (s.t11==1) (.ix s.c d<|.br (an<|(gx (e:=.pair A7 Ap) s.b4 s.c).2.1>a) (.so (.ret) {s with It:=s.c,J0:=s.t11,J2:=(gx (e:=.pair A7 Ap) s.b4 s.c).2.1,b2:=U,b3:=(0:Y),st:=.done<|.ret})<|.nx {s with t11:=b})<|.br (s.t11==2) (.ix s.c d<|.br (an<|(gx (e:=.pair A7 Ap) s.b4 s.c).2.2>a) (.so (.ret) {s with It:=s.c,J0:=s.t11,J2:=(gx (e:=.pair A7 Ap) s.b4 s.c).2.2,b2:=U,b3:=(0:Y),st:=.done<|.ret})<|.nx {s with t11:=b})<|.no /-  -/)<|.so (.exit 2) s
def jq (s:Nr):Prop:=s.st=.ready/\s.t11=0/\(0<=s.c/\s.c<(M s.b4:Y))/\s.c<(M s.Bg:Y)
def kc (s:Nr):Prop:=s.st=.ready/\(0<=s.t11/\s.t11<=3)/\(0<=s.c/\s.c<(M s.b4:Y))/\s.c<(M s.Bg:Y)
def fa (s:Nr):aWe:=(3-s.t11).toNat
def ac2 (x:Ex) (s s':Nr):Prop:=True
def aoG:∀s,jq s->kc s:=by
 rintro s ⟨h,h0,h1⟩
 exact ⟨h,A0,h1⟩
def ajY:Da kc fa ac2 iy:=by
 intro s hI;obtain ⟨ht,h0,h1,h2⟩:=hI;refine AH (λc1=>?_) λc1=>?_
 ·refine AH (λc2=>?_) (λc2=>?_)
  ·refine AH (λc3=>?_) (λc3=>?_)
   ·trivial
   ·exact aM8
  ·refine AH (λc3=>?_) (λc3=>?_)
   ·refine AH (λc4=>?_) (λc4=>?_)
    ·trivial
    ·exact aM8
   ·refine AH (λc4=>?_) (λc4=>?_)
    ·refine AH (λc5=>?_) (λc5=>?_)
     ·trivial
     ·have c1:s.t11<3:=AX
      rw [AJ (x:=s.t11+1)];exact ⟨⟨ht,⟨A8,A8⟩,h1,h2⟩,by simp only [fa];omega⟩
    ·exfalso
     simp only [Aa,CQ,ne_eq] at*;omega
 ·trivial
def RC:AS Nr:=⟨7,22,[0,3,7,8,11],[],λs=>[.CO 6,s.c,s.t7,s.t8,s.t11],λs=>[⟨[s.Bg,s.Gf,s.Gc,s.Gi,s.Gl],28,.cl,X⟩,⟨[s.It,s.J0,s.J2],159,.cl,X⟩,⟨[s.b2],4,.cl,X⟩,⟨[s.b3],51,.cl,X⟩,⟨[.xl (.pair A7 Ap) s.b4],204,.cl,X⟩,⟨[s.NK,s.NN,s.NJ,s.NL,s.NR],28,.cl,X⟩,⟨[.junk,.junk,.own 0 0,.junk,.own 1 0,.own 2 0,.own 3 0,.own 4 0,.junk,.v<|.tuple #[],.v<|.tuple #[],.junk,.junk,.junk,.junk,.junk,.junk,.junk,.junk,.junk,.junk,.junk,.v<|.tuple #[],.v<|.tuple #[],.v<|.tuple #[],.v<|.tuple #[],.v<|.tuple #[],.v<|.tuple #[],.v<|.tuple #[],.v<|.tuple #[],.v<|.tuple #[],.v<|.tuple #[],.v<|.tuple #[],.v<|.tuple #[],.v<|.tuple #[],.v<|.tuple #[],.v<|.tuple #[],.v<|.tuple #[],.v<|.tuple #[],.v<|.tuple #[],.v<|.tuple #[],.v<|.tuple #[],.v<|.tuple #[],.v<|.tuple #[],.v<|.tuple #[],.v<|.tuple #[],.junk],0,.Cl aaH aVi aVg s.st,X⟩],λv b=>⟨AK v 1,AK v 2,AK v 3,AK v 4,AF Af b 0 0,AF .str b 0 1,AF Al b 0 2,AF Ah b 0 3,AF Am b 0 4,Aj b 1 0,Aj b 1 1,Aj b 1 2,cgB b 2 0,Aj b 3 0,AF (.pair A7 Ap) b 4 0,AF Af b 5 0,AF .str b 5 1,AF Al b 5 2,AF Ah b 5 3,AF Am b 5 4,.ready⟩,iy,λs r=> {r with c:=s.c,t7:=s.t7,t8:=s.t8,Bg:=s.Bg,Gf:=s.Gf,Gc:=s.Gc,Gi:=s.Gi,Gl:=s.Gl,b4:=s.b4,NK:=s.NK,NN:=s.NN,NJ:=s.NJ,NL:=s.NL,NR:=s.NR},λs=> {s with st:=.ready},λx s=> {s with st:=(match x with| .ret=>(.done<|.ret) | .exit 2=> .ready|_=> .ready)},[.ret,.exit 2],jq,kc,fa⟩
abbrev MP:=RC.run
abbrev eW:=RC.As
def XP:aWp:=[aVG,tN]
def vb:B1:=kI XP<|l0 XP
def azI:Rq kc iy:=by
 intro s hI;refine ⟨λc1=>⟨?_,λc2=>⟨?_,λ_=>trivial,λ_=>trivial⟩,λc2=>⟨λc4=>⟨?_,λ_=>trivial,λ_=>trivial⟩,λc4=>⟨λc6=>⟨?_,λ_=>trivial,λ_=>trivial⟩,λc6=>?_⟩⟩⟩,λ_=>trivial⟩
 iterate 4 · (obtain ⟨ht,h0,h1,h2⟩:=hI;omega)
 ·(exfalso;obtain ⟨ht,h0,h1,h2⟩:=hI;simp only [Aa,CQ,ne_eq] at*;omega)
def aSC:RC.Ok:={}
def aRm:RC.Pf (ac2):=⟨aoG,λs h=>by
 obtain ⟨c,t7,t8,t11,Bg,Gf,Gc,Gi,Gl,It,J0,J2,b2,b3,b4,NK,NN,NJ,NL,NR,st⟩:=s
 have e:=h.1
 subst e;rfl,ajY,azI⟩
def ar8:SA 7 aGw RC:=s2 aSC aRm XP vb
def avg:Rs jq eW MP (λs:Nr=>M5 (DE<|Ae s.Bg s.c) (gLi s.b4 s.c) s.t11) (λx s' (v:aWo)=>(x=.ret/\v=X/\s'.b2=U/\s'.b3=0)\/(x=.exit 2/\v=U)):=DU aSC aRm (λs hI=>by
  show DV _ _ ((iy s).rd s)
  obtain ⟨ht,h0,h1,h2⟩:=hI;refine AH (λc1=>?_) λc1=>?_
  ·refine AH (λc2=>?_) (λc2=>?_)
   ·refine AH (λc3=>?_) (λc3=>?_)
    ·refine .inl ⟨rfl,?_,rfl,rfl⟩
     have c3:(gLi s.b4 s.c).1>DE (Ae s.Bg s.c):=D5 c3
     exact xy
    ·have c1:s.t11<3:=AX
     rw [AJ (x:=s.t11+1)]
     have c3:¬(gLi s.b4 s.c).1>DE (Ae s.Bg s.c):=KF c3
     exact xk
   ·refine AH (λc3=>?_) (λc3=>?_)
    ·refine AH (λc4=>?_) (λc4=>?_)
     ·refine .inl ⟨rfl,?_,rfl,rfl⟩
      have c4:(gLi s.b4 s.c).2.1>DE (Ae s.Bg s.c):=D5 c4
      exact xy
     ·have c1:s.t11<3:=AX
      rw [AJ (x:=s.t11+1)]
      have c4:¬(gLi s.b4 s.c).2.1>DE (Ae s.Bg s.c):=KF c4
      exact xk
    ·refine AH (λc4=>?_) (λc4=>?_)
     ·refine AH (λc5=>?_) (λc5=>?_)
      ·refine .inl ⟨rfl,?_,rfl,rfl⟩
       have c5:(gLi s.b4 s.c).2.2>DE (Ae s.Bg s.c):=D5 c5
       exact xy
      ·have c1:s.t11<3:=AX
       rw [AJ (x:=s.t11+1)]
       have c5:¬(gLi s.b4 s.c).2.2>DE (Ae s.Bg s.c):=KF c5
       exact xk
     ·exfalso
      simp only [Aa,CQ,ne_eq] at*;omega
  ·have c1:3<=s.t11:=AX
   refine .inr ⟨rfl,?_⟩;unfold M5;simp only [AY,Cj,Aa];omega)
structure Kd where
 (t7 t8:Y)
 Bg:aWl
 Gf:aWg
 Gc:aWr
 Gi:aWh
 Gl:aWs
 (It J0 J2:Y)
 b2:aWo
 b3:Y
 b4:aW9
 NK:aWl
 NN:aWg
 NJ:aWr
 NL:aWh
 NR:aWs
 st:LS
def aGx:=bN f136 0
def Ix (s:Kd):Nr:=(⟨s.t8,s.t7,s.t8,0,s.Bg,s.Gf,s.Gc,s.Gi,s.Gl,s.It,s.J0,s.J2,s.b2,s.b3,s.b4,s.NK,s.NN,s.NJ,s.NL,s.NR,.ready⟩:Nr)
def zg (s:Kd):T (Rd Kd):=
 .br (an<|s.t8<s.t7) (.req (RC.q<|Ix s)<|.br (Bb (eW<|Ix s)<|.ret) (.so (.ret) {s with It:=(MP<|Ix s).It,J0:=(MP<|Ix s).J0,J2:=(MP<|Ix s).J2,b2:=(MP<|Ix s).b2,b3:=(MP<|Ix s).b3,st:=.done<|.ret})<|.nx {s with t8:=AA<|s.t8+1,It:=(MP<|Ix s).It,J0:=(MP<|Ix s).J0,J2:=(MP<|Ix s).J2,b2:=(MP<|Ix s).b2,b3:=(MP<|Ix s).b3}) (.so (.exit 0) s)
def jr (s:Kd):Prop:=s.st=.ready/\s.t8=0/\s.t7=(M s.Bg:Y)/\s.t7<=1000/\M s.b4=M s.Bg
def ZO (s:Kd):Prop:=s.st=.ready/\(0<=s.t8/\s.t8<=s.t7)/\s.t7=(M s.Bg:Y)/\s.t7<=1000/\M s.b4=M s.Bg
def vI (s:Kd):aWe:=(s.t7-s.t8).toNat
def ac3 (x:Ex) (s s':Kd):Prop:=True
def aoH:∀s,jr s->ZO s:=by
 rintro s ⟨h,h0,h1⟩
 exact ⟨h,A0,h1⟩
def aTh (s:Kd) (hI:ZO s) (c1:s.t8<s.t7):jq (Ix s):=by
 obtain ⟨ht,⟨h0,h1⟩,h2,h3,h4⟩:=hI;exact ⟨rfl,rfl,⟨h0,by show s.t8<(M s.b4:Y);omega⟩,by show s.t8<(M s.Bg:Y);omega⟩
def ajZ:Da ZO vI ac3 zg:=by
 intro s hI;obtain ⟨ht,⟨h0,h1⟩,h2,h3,h4⟩:=hI;refine AH (λc1=>AH (λc2=>trivial) λc2=>?_) λc1=>trivial
 have c1:s.t8<s.t7:=A8
 rw [AJ (x:=s.t8+1)];exact ⟨⟨ht,⟨A8,A8⟩,h2,h3,h4⟩,by simp only [vI];omega⟩
def UW:AS Kd:=⟨7,22,[0,7,8],[],λs=>[.CO 6,s.t7,s.t8],λs=>[⟨[s.Bg,s.Gf,s.Gc,s.Gi,s.Gl],28,.cl,X⟩,⟨[s.It,s.J0,s.J2],159,.cl,X⟩,⟨[s.b2],4,.cl,X⟩,⟨[s.b3],51,.cl,X⟩,⟨[.xl (.pair A7 Ap) s.b4],204,.cl,X⟩,⟨[s.NK,s.NN,s.NJ,s.NL,s.NR],28,.cl,X⟩,⟨[.junk,.junk,.own 0 0,.junk,.own 1 0,.own 2 0,.own 3 0,.own 4 0,.junk,.v<|.tuple #[],.v<|.tuple #[],.junk,.junk,.junk,.junk,.junk,.junk,.junk,.junk,.junk,.junk,.junk,.v<|.tuple #[],.v<|.tuple #[],.v<|.tuple #[],.v<|.tuple #[],.v<|.tuple #[],.v<|.tuple #[],.v<|.tuple #[],.v<|.tuple #[],.v<|.tuple #[],.v<|.tuple #[],.v<|.tuple #[],.v<|.tuple #[],.v<|.tuple #[],.v<|.tuple #[],.v<|.tuple #[],.v<|.tuple #[],.v<|.tuple #[],.v<|.tuple #[],.v<|.tuple #[],.v<|.tuple #[],.v<|.tuple #[],.v<|.tuple #[],.v<|.tuple #[],.v<|.tuple #[],.junk],0,.Cl aaH aVi aVg s.st,X⟩],λv b=>⟨AK v 1,AK v 2,AF Af b 0 0,AF .str b 0 1,AF Al b 0 2,AF Ah b 0 3,AF Am b 0 4,Aj b 1 0,Aj b 1 1,Aj b 1 2,cgB b 2 0,Aj b 3 0,AF (.pair A7 Ap) b 4 0,AF Af b 5 0,AF .str b 5 1,AF Al b 5 2,AF Ah b 5 3,AF Am b 5 4,.ready⟩,zg,λs r=> {r with t7:=s.t7,Bg:=s.Bg,Gf:=s.Gf,Gc:=s.Gc,Gi:=s.Gi,Gl:=s.Gl,b4:=s.b4,NK:=s.NK,NN:=s.NN,NJ:=s.NJ,NL:=s.NL,NR:=s.NR},λs=> {s with st:=.ready},λx s=> {s with st:=(match x with| .ret=>(.done<|.ret) | .exit 0=> .ready|_=> .ready)},[.ret,.exit 0],jr,ZO,vI⟩
abbrev cZ:=UW.run
abbrev dg:=UW.As
def azJ:Rq ZO zg:=by
 intro s hI;refine ⟨λc1=>⟨?_,λ_=>trivial,λ_=>trivial⟩,λ_=>trivial⟩
 ·exact ⟨aTh s hI A8,rfl,rfl⟩
def aSD:UW.Ok:={}
def aRn:UW.Pf (ac3):=⟨aoH,λs h=>by
 obtain ⟨t7,t8,Bg,Gf,Gc,Gi,Gl,It,J0,J2,b2,b3,b4,NK,NN,NJ,NL,NR,st⟩:=s
 have e:=h.1
 subst e;rfl,ajZ,azJ⟩
def ar9:SA 7 aGx UW:=AS.snd aSD aRn (Gg (Γ:=XP) (K:=vb) (L:=(Lx (λi=>if i=4 then RC.lp else Ak i))) (gk XP) vb.h aGx (λb hb=>by
 rw [show BD _=[aGw] by kernel_rfl] at hb
 simp only [BA,Bu,Bs] at hb;subst hb;exact ar8)) λs=>AU
def avh:Rs jr dg cZ (λs:Kd=>((au<|M s.Bg).drop s.t8.toNat).all λo=>ckO (DE<|Ae s.Bg o)<|Du s.b4 o) (λx s' (v:aWo)=>(x=.ret/\v=X/\s'.b2=U/\s'.b3=0)\/(x=.exit 0/\v=U)):=DU aSD aRn (λs hI=>by
  have hin:=λc1=>aTh s hI c1
  obtain ⟨ht,⟨h0,h1⟩,h2,h3,h4⟩:=hI;refine AH (λc1=>?_) λc1=>?_
  ·have c1:s.t8<s.t7:=AX
   have q:=avg _<|hin c1
   have e:((au<|M s.Bg).drop s.t8.toNat).all (λo=>ckO (DE<|Ae s.Bg o)<|Du s.b4 o)=(M5 (DE<|Ae s.Bg s.t8) (gLi s.b4 s.t8) 0&&((au<|M s.Bg).drop (s.t8+1).toNat).all (λo=>ckO (DE<|Ae s.Bg o)<|Du s.b4 o)):=by
    rw [SZ DD,Io,lZ,show (s.t8+1).toNat=s.t8.toNat+1 by omega,CP h0,an1]
    rfl
   refine AH (λc2=>?_) λc2=>?_
   ·rcases q with ⟨q1,q2,q3,q4⟩ |⟨q1,q2⟩
    ·refine .inl ⟨rfl,?_,q3,q4⟩
     rw [e]
     have q2:M5 (DE<|Ae s.Bg s.t8) (gLi s.b4 s.t8) 0=false:=q2
     grind
    ·rw [show eW (Ix s)=_ from q1] at c2
     cases c2
   ·rcases q with ⟨q1,q2,q3,q4⟩ |⟨q1,q2⟩
    ·rw [show eW (Ix s)=_ from q1] at c2
     cases c2
    ·show List.all _ _=List.all _ _
     rw [e]
     have q2:M5 (DE<|Ae s.Bg s.t8) (gLi s.b4 s.t8) 0=true:=q2
     rw [q2,EU,AJ (x:=s.t8+1)]
  ·have c1:s.t7<=s.t8:=AX
   refine .inr ⟨rfl,?_⟩;rw [F6 DD];rfl)
def vk1 (cs:aWl) (os:aWg) (ks:aWr) (gs:aWh) (bs:aWs) (am:aWd):Y:=if (an (M am=M gs)&&Bb (dg ⟨(M cs:Y),0,cs,os,ks,gs,bs,0,0,0,X,0,JS cs gs am,cs,os,ks,gs,bs,.ready⟩) (.ret))=U then (cZ ⟨(M cs:Y),0,cs,os,ks,gs,bs,0,0,0,X,0,JS cs gs am,cs,os,ks,gs,bs,.ready⟩).It else 0
def vk2 (cs:aWl) (os:aWg) (ks:aWr) (gs:aWh) (bs:aWs) (am:aWd):Y:=if (an (M am=M gs)&&Bb (dg ⟨(M cs:Y),0,cs,os,ks,gs,bs,0,0,0,X,0,JS cs gs am,cs,os,ks,gs,bs,.ready⟩) (.ret))=U then (cZ ⟨(M cs:Y),0,cs,os,ks,gs,bs,0,0,0,X,0,JS cs gs am,cs,os,ks,gs,bs,.ready⟩).J0 else 0
def vk3 (cs:aWl) (os:aWg) (ks:aWr) (gs:aWh) (bs:aWs) (am:aWd):Y:=if (an (M am=M gs)&&Bb (dg ⟨(M cs:Y),0,cs,os,ks,gs,bs,0,0,0,X,0,JS cs gs am,cs,os,ks,gs,bs,.ready⟩) (.ret))=U then (cZ ⟨(M cs:Y),0,cs,os,ks,gs,bs,0,0,0,X,0,JS cs gs am,cs,os,ks,gs,bs,.ready⟩).J2 else 0
def aL8:aWf->T LV
 | [.agg [.xl (.pair .str (.pair (.int J) (.pair (.int J) (.pair (.int J) (.pair (.pair (.int J) (.int J)) (.pair (.int J) (.pair (.int J) (.pair (.int J) (.pair (.int J) (.int J)))))))))) cs,.xl (.str) os,.xl (.pair .str (.pair (.int J) (.pair (.int J) (.int J)))) ks,.xl (.pair .str (.pair (.int J) (.pair (.int J) (.pair (.int J) (.pair (.int J) (.pair (.int J) (.pair (.int J) (.int J)))))))) gs,.xl (.pair .str (.int J)) bs],.xl (.int J) am]=> .req (BH cs os ks gs bs=U/\(M am=M gs->∀k:aWe,k<M am->0<=gi am k/\gi am k<=80)) (.tu #[.agg #[vk1 cs os ks gs bs am,vk2 cs os ks gs bs am,vk3 cs os ks gs bs am],.bool<|an (M am=M gs)&&!E9 cs gs am,Jb gs am])
 |_=> .no
def w8:aWp:=[aVG,tN]
def ahF:B1:=kI w8<|la 1 func136 ar9<|l0 w8
def Wg:=vo (S:=aL8) func72 w8 ahF (λargs lv h=>by
 unfold aL8 at h;split at h
 ·rename_i cs os ks gs bs am
  refine Aq (letI b:=(M cs:Y);letI d:=JS cs gs am;letI a:=(cZ (⟨b,0,cs,os,ks,gs,bs,0,0,0,X,0,d,cs,os,ks,gs,bs,.ready⟩:Kd));.req (BH cs os ks gs bs=U/\(M am=M gs->∀k:aWe,k<M am->0<=gi am k/\gi am k<=80))<|.br ((Jb gs am) !=0) (.tu #[.agg #[(0:Y),(0:Y),(0:Y)],X,(1:Y)])<|.req (UW.q (⟨b,0,cs,os,ks,gs,bs,0,0,0,X,0,d,cs,os,ks,gs,bs,.ready⟩:Kd))<|.br (Bb (dg (⟨b,0,cs,os,ks,gs,bs,0,0,0,X,0,d,cs,os,ks,gs,bs,.ready⟩:Kd))<|.ret) (.tu #[.agg #[a.It,a.J0,a.J2],a.b2,a.b3])<|.tu #[.agg #[(0:Y),(0:Y),(0:Y)],X,(0:Y)]) ?_;obtain ⟨hq,rfl⟩:=h
  have hv:=hq.1
  have hb:=(DK.1 hv).1
  refine ⟨hq,λc=>?_,λc=>?_⟩
  ·have hl:¬(M am)=M gs:=λh=>by unfold Jb at c;rw [AD h] at c;cases c
   unfold vk1 vk2 vk3 Jb;simp only [AE hl,IP hl,QA,IJ,FQ];rfl
  have hl:M am=M gs:=by
   unfold Jb at c;split at c
   ·assumption
   ·cases c
  have hX:JS cs gs am=Jc cs gs am (M gs):=AD hl
  have hY:Jb gs am=0:=AD hl
  rw [hY,Cg hl,EU]
  have hE:jr ⟨(M cs:Y),0,cs,os,ks,gs,bs,0,0,0,X,0,(JS cs gs am),cs,os,ks,gs,bs,.ready⟩:=⟨rfl,rfl,rfl,aPF,by show M (JS cs gs am)=M cs;rw [hX];exact rZ (pU hv) (pV hv) _<|At _⟩
  refine ⟨⟨hE,rfl,rfl⟩,?_⟩
  have e:E9 cs gs am=((au<|M cs).drop (0:Y).toNat).all (λo=>ckO (DE<|Ae cs o)<|Du (JS cs gs am) o):=by rw [hX];rfl
  rcases avh _ hE with ⟨q1,q2,q3,q4⟩ |⟨q1,q2⟩
  ·have q2:E9 cs gs am=false:=e.trans q2
   unfold vk1 vk2 vk3;simp only [Cg hl,EU];rw [q1,q3,q4,q2];exact ⟨λ_=>rfl,λh=>Ao⟩
  ·have q2:E9 cs gs am=true:=e.trans q2
   unfold vk1 vk2 vk3;simp only [Cg hl,EU];rw [q1,q2];exact ⟨λh=>Ao,λ_=>rfl⟩
 ·cases h)
def sF {cs:aWl}{os:aWg}{ks:aWr}{gs:aWh}{bs:aWs}(hs:BH cs os ks gs bs=U) {k:aWe}(hk:k<M (Bv gs)):0<=gi (Bv gs) k/\gi (Bv gs) k<=80:=by
 have hl:M (Bv gs)=M gs:=Iu
 rw [show gi (Bv gs) (k:Y)=Cw (AG gs k) from Of A0 A0]
 have:=Ol hs (c:=(k:Y)) A0 A0
 unfold GO at this;simp only [AY] at this
 have:=fc this.2.2
 omega
structure P9 where
 m:aWh
 (k i:Y)
 out:aWd
def aHC:=bN f73 0
def aAF (s:P9):T (Rd P9):=letI a:=s.out.set s.i.toNat (AG s.m s.i).2.2.2.2.2.2.1;.br (an<|s.i<s.k) (.ix s.i (M s.m)<|.ik s.i (M s.out)<|.re (M s.out) a<|.nx {s with i:=AA<|s.i+1,out:=a})<|.rl s.out<|.so (.exit 0) s
def lD (s:P9):Prop:=s.i=0/\s.k=(M s.m:Y)/\s.k<=1000/\M s.out=M s.m/\(∀j,0<=j->j<s.k->gi s.out j=0)/\True
def YA (s:P9):Prop:=(0<=s.i/\s.i<=s.k)/\s.k=(M s.m:Y)/\s.k<=1000/\M s.out=M s.m/\(∀j,0<=j->j<s.k->gi s.out j=if j<s.i then Cw (AG s.m j) else 0)/\True
def uA (s:P9):aWe:=(s.k-s.i).toNat
def aC1 (x:Ex) (s s':P9):Prop:=x=.exit 0/\s'.out=HQ (M s'.m) (λj=>Cw<|AG s'.m j)
def alN:∀s,lD s->YA s:=by
 exact Sm
def az5:Da YA uA aC1 aAF:=by
 intro s hI;obtain ⟨⟨h0,h1⟩,h2,h3,h4,h5,h6⟩:=hI;refine AH (λc1=>?_) λc1=>?_
 ·have c1:s.i<s.k:=AX
  rw [AJ (x:=s.i+1)];refine ⟨⟨⟨A8,A8⟩,h2,h3,A8,λj j0 j1=>?_,h6⟩,by simp only [uA];omega⟩
  simp only;rw [J9 h0 bL j0];exact mA
 ·exact aJ
def S1:AS P9:=⟨0,25,[3,11,12,13],[],λs=>[.os 0 1 0<|M s.out,s.m,s.k,s.i],λs=>[bV 3 A7 s.out],λv b=>⟨Az Ah v 1,AK v 2,AK v 3,Ac A7 b 0⟩,aAF,λs r=> {r with m:=s.m,k:=s.k},λs=>s,λ_ s=>s,[.exit 0],lD,YA,uA⟩
abbrev aDc:=S1.run
abbrev av5:=S1.As
def ayX:Rq YA aAF:=by
 exact xS
def aTD:aWp:=[]
def aSN:S1.Ok:={}
def aQf:S1.Pf (aC1):=⟨alN,λs h=>rfl,az5,ayX⟩
def as9:SA 0 aHC S1:=s1 aSN aQf aTD kN
def asQ:Fi lD YA aC1 av5 aDc:=AS.fin aSN aQf
def aKr:aWf->T LV
 | .agg a::r=>s5 a λcs os ks gs bs=>(match r with
  | []=> .req ((M gs:Y)<=1000) (.ok<|.xl A7<|Bv gs)
  |_=> .no)
 |_=> .no
def fh:=vm (S:=aKr) func73 aTD kN (L:=(λi=>if i=3 then S1.lp else Ak i)) (λb hb=>by
 rw [show BD _=[aHC] by kernel_rfl] at hb
 simp only [BA,Bu,Bs] at hb;subst hb;exact as9) (λargs lv h=>by
 unfold aKr at h;split at h
 case h_2=>cases h
 replace h:=IT h
 obtain ⟨cs,os,ks,gs,bs,rfl,h⟩:=h;split at h
 ·refine Aq (letI c:=(M gs:Y);letI a:=(aq c.toNat (0:Y));letI b:=(aDc (⟨gs,c,0,a⟩:P9));.rm 8 c<|.re c.toNat a<|.req (S1.q (⟨gs,c,0,a⟩:P9))<|.rz b.out<|.ok<|.xl A7<|(b.out.drop 0).take<|M b.out) ?_
  obtain ⟨hn,rfl⟩:=h
  have hE:lD ⟨gs,(M gs:Y),0,aq (M gs:Y).toNat 0⟩:=⟨rfl,rfl,hn,AI,λj _ _=>LY,ak⟩
  obtain ⟨_,_,q1,q2⟩:=asQ _ hE
  have q2:(aDc ⟨gs,(M gs:Y),0,aq (M gs:Y).toNat 0⟩).out=Bv gs:=q2
  refine ⟨A0,⟨rfl,AI⟩,⟨hE,rfl,rfl⟩,A0,?_⟩
  show LV.xl _ _=_
  rw [CT,El,q2]
 ·cases h)
def aIz:aWf->T LV
 | .agg a::r=>s5 a λcs os ks gs bs=>(match r with
  | []=> .req (BH cs os ks gs bs=U) (.ok<|.v<|.bool<|!E9 cs gs (Bv gs))
  |_=> .no)
 |_=> .no
def aiH:aWp:=[Wg,fh]
def fg:=vo (S:=aIz) func35 aiH kN (λargs lv h=>by
 unfold aIz at h;split at h
 case h_2=>cases h
 replace h:=IT h
 obtain ⟨cs,os,ks,gs,bs,rfl,h⟩:=h;split at h
 ·refine Aq (.req ((M gs:Y)<=1000)<|.req (BH cs os ks gs bs=U/\(M (Bv gs)=M gs->∀k:aWe,k<M (Bv gs)->0<=gi (Bv gs) k/\gi (Bv gs) k<=80))<|.ok<|.v<|.bool<|((Jb gs<|Bv gs)==0)&&(an (M (Bv gs)=M gs)&&!E9 cs gs (Bv gs))) ?_
  obtain ⟨hs,rfl⟩:=h
  have hg:=(DK.1 hs).1
  have hl:M (Bv gs)=M gs:=Iu
  have hY:Jb gs (Bv gs)=0:=AD hl
  refine ⟨A0,⟨hs,λ_ k hk=>sF hs hk⟩,?_⟩
  rw [hY,Cg hl];rfl
 ·cases h)
def aKh:aWf->T LV
 | [.v (.agg ⟨[.string nm,ag J at_,ag J ph,ag J mn,ag J mx,ag J st,ag J fb,ag J ow]⟩),.v (.agg ⟨[ag J sp,ag J sa,ag J sl,.bool sw]⟩)]=> .ok (sV (nm,at_,ph,mn,mx,st,fb,ow) (sp,sa,sl,sw))
 |_=> .no
def anb:aWp:=[WN,dF,aVV]
def aPu:=vo (S:=aKh) func111 anb kN (λargs lv h=>by
 unfold aKh at h;split at h
 ·rename_i nm at_ ph mn mx st fb ow sp sa sl sw
  refine Aq (.br (!(Ij ph mn mx st fb)) (.ok X)<|.br ((sp==0)&&((sa==0)&&((sl==0)&&(sw==X)))) (.ok U)<|.ok<|.v<|.bool<|(inB sp (0:Y) (5:Y))&&((inB sl (0:Y) (1000000:Y))&&((inB sa (0:Y) mx)&&(if sl !=0 then (!sw) ||(sp==5) else (sa==0)&&((!sw) ||(sp==5)))))) ?_
  obtain rfl:=h;refine ⟨λh1=>?_,λh1=>⟨λh2=>?_,λh2=>?_⟩⟩
  all_goals refine B3 (λz=>LV.v<|.bool z) ?_
  ·simp at h1;simp [sV,h1]
  ·simp at h1 h2
   obtain ⟨rfl,rfl,rfl,rfl⟩:=h2
   have:=fA.1 h1
   rw [Sk,P6]
   simp [h1];omega
  ·simp at h1
   unfold sV;simp only;rw [h1]
   by_cases hl:sl=0
   ·simp [hl]
   ·have:(sl !=0)=true:=my
    simp [this]
 ·cases h)
def aUd:aWf->T LV
 | [.v (.agg ⟨[.string nm,ag J at_,ag J ph,ag J mn,ag J mx,ag J st,ag J fb,ag J ow]⟩),.v (.agg ⟨[ag J ek,ag J en,ag J em]⟩)]=> .req (ek≠0) (.ok<|evV mx ek en em)
 |_=> .no
def ana:aWp:=[dF]
def aje:=vo (S:=aUd) func125 ana kN (λargs lv h=>by
 unfold aUd at h;split at h
 ·rename_i nm at_ ph mn mx st fb ow ek en em
  refine Aq (.br (ek==4) (.ok<|inB en (0:Y) (1:Y))<|.br (ek==6) (.ok<|inB en (0:Y) (2:Y))<|.br (ek==7) (.br (!(inB em (1:Y) (1000000:Y))) (.ok X)<|.ok<|inB en (0:Y) mx)<|.br (ek==0) (.ok<|inB en (0:Y) mx)<|.ok U) ?_;obtain ⟨h0,rfl⟩:=h;refine ⟨λh1=>?_,λh1=>⟨λh2=>?_,λh2=>⟨λh3=>⟨λh4=>?_,λh4=>?_⟩,λh3=>⟨λh4=>?_,λh4=>?_⟩⟩⟩⟩
  all_goals refine B3 (λz=>LV.v<|.bool z) ?_
  all_goals simp_all [evV]
 ·cases h)
def aK8:aWf->T LV
 | [.v (.agg ⟨[ag J sp,ag J sa,ag J sl,.bool sw]⟩),.v (.agg ⟨[ag J ek,ag J en,ag J em]⟩)]=> .ok (.v<|.agg #[dcP sp sw ek en,sa,sl,dcW sw ek en])
 |_=> .no
def anZ:aWp:=[]
def awo:=vo (S:=aK8) func126 anZ kN (λargs lv h=>by
 unfold aK8 at h;split at h
 ·rename_i sp sa sl sw ek en em
  refine Aq (.br (ek==4) (.br (en==1) (.ok<|.v<|.agg #[(3:Y),sa,sl,sw])<|.ok<|.v<|.agg #[(5:Y),sa,sl,sw])<|.br (ek==6) (.br (en==0) (.ok<|.v<|.agg #[(1:Y),sa,sl,.bool<|en==1])<|.ok<|.v<|.agg #[(5:Y),sa,sl,.bool<|en==1])<|.br (ek==2) (.br (!sw) (.ok<|.v<|.agg #[(0:Y),sa,sl,sw])<|.ok<|.v<|.agg #[sp,sa,sl,sw])<|.br (ek==9) (.br (!sw) (.ok<|.v<|.agg #[(1:Y),sa,sl,sw])<|.ok<|.v<|.agg #[sp,sa,sl,sw])<|.ok<|.v<|.agg #[sp,sa,sl,sw]) ?_;obtain rfl:=h
  have fin:∀(p:Y) (q:aWo),p=dcP sp sw ek en->q=dcW sw ek en->LV.v (.agg #[ag J p,ag J sa,ag J sl,.bool q])=LV.v (.agg #[ag J<|dcP sp sw ek en,ag J sa,ag J sl,.bool<|dcW sw ek en]):=λp q h1 h2=>A8
  refine ⟨λh1=>⟨λh2=>?_,λh2=>?_⟩,λh1=>⟨λh2=>⟨λh3=>?_,λh3=>?_⟩,λh2=>⟨λh3=>⟨λh4=>?_,λh4=>?_⟩,λh3=>⟨λh4=>⟨λh5=>?_,λh5=>?_⟩,λh4=>?_⟩⟩⟩⟩
  all_goals refine fin _ _ ?_ ?_
  all_goals simp_all [dcP,dcW]
 ·cases h)
def aUV:aWf->T LV
 | [.v (.agg ⟨[.string nm,ag J at_,ag J ph,ag J mn,ag J mx,ag J st,ag J fb,ag J ow]⟩),.v (.agg ⟨[ag J sp,ag J sa,ag J sl,.bool sw]⟩),.v (.agg ⟨[ag J ek,ag J en,ag J em]⟩)]=> .tu #[.agg #[(sN (nm,at_,ph,mn,mx,st,fb,ow) (sp,sa,sl,sw) ek en em).1,(sN (nm,at_,ph,mn,mx,st,fb,ow) (sp,sa,sl,sw) ek en em).2.1,(sN (nm,at_,ph,mn,mx,st,fb,ow) (sp,sa,sl,sw) ek en em).2.2.1,(sN (nm,at_,ph,mn,mx,st,fb,ow) (sp,sa,sl,sw) ek en em).2.2.2],sE (nm,at_,ph,mn,mx,st,fb,ow) (sp,sa,sl,sw) ek en em]
 |_=> .no
def aB8:aWp:=[aPu,dF,aje,awo]
def amB:B1:=kI aB8<|l0 aB8
def R1:=vo (S:=aUV) func88 aB8 amB (λargs lv h=>by
 unfold aUV at h;split at h
 ·rename_i nm at_ ph mn mx st fb ow sp sa sl sw ek en em
  refine Aq (letI a:=X7<|ek.toNat*6+(sp.toNat*1+0);letI c:=AA<|sl-1;letI d:=dcP sp sw ek en;letI f:=dcW sw ek en;.br (!(sV (nm,at_,ph,mn,mx,st,fb,ow) (sp,sa,sl,sw))) (.tu #[.agg #[(0:Y),(0:Y),(0:Y),X],(1:Y)])<|.br (!(inB ek (1:Y) (9:Y))) (.tu #[.agg #[(0:Y),(0:Y),(0:Y),X],(9:Y)])<|.req (ek≠0)<|.br (!(evV mx ek en em)) (.tu #[.agg #[(0:Y),(0:Y),(0:Y),X],(1:Y)])<|.req (0<=ek/\ek<(10:Y))<|.req (0<=sp/\sp<(6:Y))<|.br (a==(-1)) (.tu #[.agg #[(0:Y),(0:Y),(0:Y),X],(6:Y)])<|.br (a==(-2)) (.br (ek==7) (.tu #[.agg #[sp,en,em,sw],(0:Y)])<|.br (ek==8) (.br ((if (0:Y)<c then AA (sl-1) else 0)==0) (.tu #[.agg #[sp,(0:Y),ag J (if (0:Y)<c then AA (sl-1) else 0),sw],(0:Y)])<|.tu #[.agg #[sp,sa,ag J (if (0:Y)<c then AA (sl-1) else 0),sw],(0:Y)])<|.br (ek==9) (.tu #[.agg #[sp,(0:Y),(0:Y),sw],(0:Y)])<|.tu #[.agg #[sp,sa,sl,sw],(0:Y)])<|.br (a==(-3)) (.br (ek==7) (.tu #[.agg #[d,en,em,f],(0:Y)])<|.br (ek==8) (.br ((if (0:Y)<c then AA (sl-1) else 0)==0) (.tu #[.agg #[d,(0:Y),ag J (if (0:Y)<c then AA (sl-1) else 0),f],(0:Y)])<|.tu #[.agg #[d,sa,ag J (if (0:Y)<c then AA (sl-1) else 0),f],(0:Y)])<|.br (ek==9) (.tu #[.agg #[d,(0:Y),(0:Y),f],(0:Y)])<|.tu #[.agg #[d,sa,sl,f],(0:Y)])<|.br (ek==7) (.tu #[.agg #[a,en,em,sw],(0:Y)])<|.br (ek==8) (.br ((if (0:Y)<c then AA (sl-1) else 0)==0) (.tu #[.agg #[a,(0:Y),ag J (if (0:Y)<c then AA (sl-1) else 0),sw],(0:Y)])<|.tu #[.agg #[a,sa,ag J (if (0:Y)<c then AA (sl-1) else 0),sw],(0:Y)])<|.br (ek==9) (.tu #[.agg #[a,(0:Y),(0:Y),sw],(0:Y)])<|.tu #[.agg #[a,sa,sl,sw],(0:Y)]) ?_
  obtain rfl:=h
  have bad:∀e,e≠0->(sE (nm,at_,ph,mn,mx,st,fb,ow) (sp,sa,sl,sw) ek en em)=e->LV.v (.tuple #[.agg #[ag J 0,ag J 0,ag J 0,.bool X],ag J e])=LV.v (.tuple #[.agg #[ag J (sN (nm,at_,ph,mn,mx,st,fb,ow) (sp,sa,sl,sw) ek en em).1,ag J (sN (nm,at_,ph,mn,mx,st,fb,ow) (sp,sa,sl,sw) ek en em).2.1,ag J (sN (nm,at_,ph,mn,mx,st,fb,ow) (sp,sa,sl,sw) ek en em).2.2.1,.bool (sN (nm,at_,ph,mn,mx,st,fb,ow) (sp,sa,sl,sw) ek en em).2.2.2],ag J<|sE (nm,at_,ph,mn,mx,st,fb,ow) (sp,sa,sl,sw) ek en em]):=λe h0 h1=>by
   unfold sN;rw [h1];simp only [AE h0]
  have good:∀(p q r:Y) (b:aWo),(sE (nm,at_,ph,mn,mx,st,fb,ow) (sp,sa,sl,sw) ek en em)=0->p=IC sp sw ek en->q=sA sa sl ek en->r=sL sl ek em->b=sW sw ek en->LV.v (.tuple #[.agg #[ag J p,ag J q,ag J r,.bool b],ag J 0])=LV.v (.tuple #[.agg #[ag J (sN (nm,at_,ph,mn,mx,st,fb,ow) (sp,sa,sl,sw) ek en em).1,ag J (sN (nm,at_,ph,mn,mx,st,fb,ow) (sp,sa,sl,sw) ek en em).2.1,ag J (sN (nm,at_,ph,mn,mx,st,fb,ow) (sp,sa,sl,sw) ek en em).2.2.1,.bool (sN (nm,at_,ph,mn,mx,st,fb,ow) (sp,sa,sl,sw) ek en em).2.2.2],ag J<|sE (nm,at_,ph,mn,mx,st,fb,ow) (sp,sa,sl,sw) ek en em]):=λp q r b h0 h1 h2 h3 h4=>by
   unfold sN;rw [h0,h1,h2,h3,h4];simp only [Bp]
  refine ⟨λh1=>bad 1 Ab (by simp at h1;simp [sE,h1]),λh1=>⟨λh2=>bad 9 Ab (by simp at h1 h2;simp [sE,h1,h2]),λh2=>?_⟩⟩
  simp only [IK] at h1 h2
  have h2':=BV.1 h2
  refine ⟨A0,λh3=>bad 1 Ab (by simp at h3;simp [sE,h1,h2,h3]),λh3=>?_⟩
  simp only [IK] at h3;obtain ⟨g1,g2,g3,g4,g5,g6,g7,g8,g9⟩:=P6.1 h1;simp only at g2 g3 g4 g5 g6 g7 g8 g9
  have hw:AA (sl-1)=sl-1:=AJ
  have hn:(sE (nm,at_,ph,mn,mx,st,fb,ow) (sp,sa,sl,sw) ek en em)=if IC sp sw ek en<0 then 6 else 0:=by simp [sE,h1,h2,h3]
  have htk:(if (0:Y)<sl-1 then sl-1 else 0)=tkF sl:=rfl
  rw [hw,htk];refine ⟨A0,A0,?_⟩
  have hz:sw=X\/(sw=U/\sp=5):=by cases sw<;>simp_all
  rw [aiW A0 A0 A0 A0]
  clear h1 h2 h3 bad good g1 g4 g5 g6 g7 g9 hw htk
  rcases hz with rfl|⟨rfl,rfl⟩
  ·rcases nine h2'.1 h2'.2 with rfl|rfl|rfl|rfl|rfl|rfl|rfl|rfl|rfl<;>rcases aoB g2 g3 with rfl|rfl|rfl|rfl|rfl|rfl
   all_goals simp [T.all,oD,sN,hn,IC,sA,sL,sW,dcP,dcW]
   all_goals (try omega)
   all_goals (by_cases h4:en=1<;>by_cases h5:en=0<;>simp_all)
  ·rcases nine h2'.1 h2'.2 with rfl|rfl|rfl|rfl|rfl|rfl|rfl|rfl|rfl
   all_goals simp [T.all,oD,sN,hn,IC,sA,sL,sW,dcP,dcW]
   all_goals (try omega)
 ·cases h)
def aU8:aWf->T LV
 | [.v (.agg ⟨[.string nm,ag J at_,ag J ph,ag J mn,ag J mx,ag J st,ag J fb,ag J ow]⟩),.v (.agg ⟨[ag J sp,ag J sa,ag J sl,.bool sw]⟩)]=> .ok (Bo (nm,at_,ph,mn,mx,st,fb,ow) (sp,sa,sl,sw))
 |_=> .no
def anY:aWp:=[aPu]
def Xe:=vo (S:=aU8) func82 anY kN (λargs lv h=>by
 unfold aU8 at h;split at h
 ·rename_i nm at_ ph mn mx st fb ow sp sa sl sw
  refine Aq (.br (!(sV (nm,at_,ph,mn,mx,st,fb,ow) (sp,sa,sl,sw))) (.ok (0:Y))<|.br sw (.ok mx)<|.br (sp !=4) (.ok (0:Y))<|.br (sl !=0) (.ok sa)<|.ok fb) ?_;obtain rfl:=h;refine ⟨λh1=>?_,λh1=>⟨λh2=>?_,λh2=>⟨λh3=>?_,λh3=>⟨λh4=>?_,λh4=>?_⟩⟩⟩⟩
  all_goals refine B3 (λz=>LV.v<|ag J z) ?_
  all_goals simp_all [Bo]
 ·cases h)
structure M0 where
 most:Y
 r:aWo
 l:aWd
 (n i:Y)
def aJ1:=bN f117 0
def nJ (s:M0):T (Rd M0):=
 .br (an<|s.i<s.n) (.ix s.i (M s.l)<|.br ((an<|(gi s.l s.i)<0) ||(an<|(gi s.l s.i)>s.most)) (.so (.ret) {s with r:=X})<|.nx {s with i:=AA<|s.i+1}) (.so (.exit 0) s)
def Uo (s:M0) (j:Y):aWo:=inB (gi s.l j) 0 s.most
def nr (s:M0):Prop:=s.i=0/\0<=s.n/\s.n<=1000/\s.n=(M s.l:Y)
def cB (s:M0):Prop:=0<=s.i/\s.i<=s.n/\s.n<=1000/\(s.n=(M s.l:Y))/\∀j:aWe,(j:Y)<s.i->Uo s j=U
def aAw (s:M0):aWe:=(s.n-s.i).toNat
def wb (x:Ex) (s s':M0):Prop:=(x=.exit 0/\∀j:aWe,(j:Y)<s'.n->Uo s' j=U)\/(x=.ret/\s'.r=X/\∃j:aWe,(j:Y)<s'.n/\Uo s' j=X)
def ao9:∀s,nr s->cB s:=by
 exact KH
def akl:Da cB aAw wb nJ:=by
 intro s hI;unfold nJ;obtain ⟨h0,h1,h2,h3,h4⟩:=hI;refine AH (λc1=>AH (λc2=>?_) λc2=>?_) λc1=>?_
 ·have c1:s.i<s.n:=AX
  refine .inr ⟨rfl,rfl,s.i.toNat,A8,?_⟩
  have hg:Uo s s.i=false:=aOj
  exact hg
 ·have c1:s.i<s.n:=AX
  have hg:Uo s s.i=true:=aOj
  rw [AJ (x:=s.i+1)];refine ⟨⟨A8,A8,h2,h3,λj hj=>?_⟩,by simp only [aAw];omega⟩
  exact LF
 ·exact Sn
def SL:AS M0:=⟨0,21,[0,4,7,8,9],[],λs=>[s.most,s.r,.xl A7 s.l,s.n,s.i],λ_=>[],λv b=>⟨AK v 0,DQ v 1,Az A7 v 2,AK v 3,AK v 4⟩,nJ,λs r=> {s with r:=r.r,i:=r.i},λs=>s,λ_ s=>s,[.ret,.exit 0],nr,cB,aAw⟩
abbrev aQ5:=SL.run
abbrev aT4:=SL.As
def akD:Rq cB nJ:=by
 exact Sl
def aTG:aWp:=[]
def aVc:SL.Ok:={}
def aVo:SL.Pf (wb):=⟨ao9,λs h=>rfl,akl,akD⟩
def axG:SA 0 aJ1 SL:=s1 aVc aVo aTG kN
def awR:Fi nr cB wb aT4 aQ5:=AS.fin aVc aVo
def aUg:aWf->T LV
 | [.v (ag J most),.xl (.int J) ns]=> .req (M ns<=1000) (.ok<|ns.all λp=>inB p 0 most)
 |_=> .no
def aVW:=vm (S:=aUg) func117 aTG kN (L:=(λi=>if i=2 then SL.lp else Ak i)) (λb hb=>by
 rw [show BD _=[aJ1] by kernel_rfl] at hb
 simp only [BA,Bu,Bs] at hb;subst hb;exact axG) (λargs lv h=>by
 unfold aUg at h;split at h
 ·rename_i most ns
  refine Aq (letI a:=(M ns:Y);.req (SL.q (⟨most,X,ns,a,0⟩:M0))<|.br (Bb (aT4 (⟨most,X,ns,a,0⟩:M0))<|.ret) (.ok (aQ5 (⟨most,X,ns,a,0⟩:M0)).r)<|.ok U) ?_;obtain ⟨h0,rfl⟩:=h
  have hE:nr ⟨most,X,ns,(M ns:Y),0⟩:=⟨rfl,AZ,AZ,rfl⟩
  obtain ⟨s',hI,hq⟩:=awR _ hE;rw [aTZ];refine ⟨⟨hE,rfl,rfl⟩,?_⟩;rcases hq with ⟨q1,q2⟩ |⟨q1,q2,j,q3,q4⟩<;>rw [q1]
  ·rw [show Dp (M ns) (λj=>inB (gi ns j) 0 most)=U from Dx.2 q2]
   exact ⟨λh=>Ao,λ_=>rfl⟩
  ·rw [q2,show Dp (M ns) (λj=>inB (gi ns j) 0 most)=X from Qe j q3 q4]
   exact ⟨λ_=>rfl,λh=>Ao⟩
 ·cases h)
def aU9:aWf->T LV
 | [.v (.agg ⟨[ag J sr,ag J rg,.bool bk]⟩)]=> .ok (meV (sr,rg,bk))
 |_=> .no
def aiR:aWp:=[aVW]
def akc:=vo (S:=aU9) func116 aiR kN (λargs lv h=>by
 unfold aU9 at h;split at h
 ·rename_i sr rg bk
  refine Aq (.req (M ([sr])<=1000)<|.br (([sr]).all λp=>inB p 0 (1000000:Y)) (.br (an<|rg>=(-1000000000000000)) (.ok<|an<|rg<=1000000000000000)<|.ok X)<|.ok X) ?_
  obtain rfl:=h;refine ⟨AI,λc1=>⟨λc2=>?_,λc2=>?_⟩,λc1=>?_⟩
  all_goals refine B3 (λz=>LV.v<|.bool z) ?_
  all_goals simp only [Io,List.all_nil,mD] at c1
  all_goals first|(simp_all [meV];done) |(simp_all [meV];omega)
 ·cases h)
def aUA:aWf->T LV
 | [.v (.agg ⟨[ag J sr,ag J rg,.bool bk]⟩),.v (ag J a),.v (ag J p)]=> .tu #[.agg #[(IF (sr,rg,bk) a p).1,(IF (sr,rg,bk) a p).2.1,(IF (sr,rg,bk) a p).2.2],GR (sr,rg,bk) a p]
 |_=> .no
def vQ:aWp:=[akc,aVW]
def ags:B1:=kI vQ<|l0 vQ
def Xb:=vo (S:=aUA) func84 vQ ags (λargs lv h=>by
 unfold aUA at h;split at h
 ·rename_i sr rg bk a p
  refine Aq (letI b:=AA<|2300*a;.br (!(meV (sr,rg,bk))) (.tu #[.agg #[(0:Y),(0:Y),X],(1:Y)])<|.req (M ([a])<=1000)<|.br (!(([a]).all λp=>inB p 0 (80:Y))) (.tu #[.agg #[(0:Y),(0:Y),X],(1:Y)])<|.req (M ([p])<=1000)<|.br (!(([p]).all λp=>inB p 0 (3:Y))) (.tu #[.agg #[(0:Y),(0:Y),X],(1:Y)])<|.br bk (.br (!(meV (sr,(AA<|rg-(AA<|b*p)),bk))) (.tu #[.agg #[(0:Y),(0:Y),X],(3:Y)])<|.tu #[.agg #[sr,(AA<|rg-(AA<|b*p)),bk],(0:Y)])<|.br (!(meV (sr,(AA<|rg+(AA<|b*p)),bk))) (.tu #[.agg #[(0:Y),(0:Y),X],(3:Y)])<|.tu #[.agg #[sr,(AA<|rg+(AA<|b*p)),bk],(0:Y)]) ?_
  obtain rfl:=h
  have fin:∀(x1 x2:Y) (x3:aWo) (e:Y),(x1,x2,x3)=IF (sr,rg,bk) a p->e=GR (sr,rg,bk) a p->LV.v (.tuple #[.agg #[ag J x1,ag J x2,.bool x3],ag J e])=LV.v (.tuple #[.agg #[ag J (IF (sr,rg,bk) a p).1,ag J (IF (sr,rg,bk) a p).2.1,.bool (IF (sr,rg,bk) a p).2.2],ag J<|GR (sr,rg,bk) a p]):=by
   intro x1 x2 x3 e h1 h2;rw [h2,<-h1]
  have hw:meV (sr,rg,bk)=U->inB a 0 80=U->inB p 0 3=U->AA (rg-AA (AA (2300*a)*p))=rg-2300*a*p/\AA (rg+AA (AA (2300*a)*p))=rg+2300*a*p:=by
   intro h1 h2 h3
   simp [meV,inB] at h1 h2 h3
   have hm:0<=2300*a*p/\2300*a*p<=552000:=⟨Im A0 A0,Hl (Int.mul_le_mul (by omega:2300*a<=184000) (by omega:p<=3) A0 A0) A0⟩
   rw [AJ (x:=2300*a),AJ (x:=2300*a*p)];exact ⟨AJ,AJ⟩
  simp only [Io,List.all_nil,mD];refine ⟨λc1=>?_,λc1=>⟨AI,λc2=>?_,λc2=>⟨AI,λc3=>?_,λc3=>?_⟩⟩⟩
  ·refine fin _ _ _ _ ?_ ?_<;>simp at c1<;>simp [IF,GR,mcB,c1]
  ·refine fin _ _ _ _ ?_ ?_<;>simp at c1 c2<;>simp [IF,GR,mcB,c1,c2]
  ·refine fin _ _ _ _ ?_ ?_<;>simp at c1 c2 c3<;>simp [IF,GR,mcB,c1,c2,c3]
  ·simp at c1 c2 c3
   obtain ⟨w1,w2⟩:=hw c1 c2 c3;rw [w1,w2];refine ⟨λc4=>⟨λc5=>?_,λc5=>?_⟩,λc4=>⟨λc5=>?_,λc5=>?_⟩⟩<;>subst c4<;>simp at c5<;>refine fin _ _ _ _ ?_ ?_<;>simp [IF,GR,mcB,mcR,c1,c2,c3,c5]
 ·cases h)
def aUp:aWf->T LV
 | [.v (ag J n),.v (ag J a),.v (ag J b)]=> .ok (inB n a b)
 |_=> .no
def aiQ:aWp:=[]
def Tt:=vo (S:=aUp) func41 aiQ kN (λargs lv h=>by
 unfold aUp at h;split at h
 ·rename_i n a b
  refine Aq (.ok<|.v<|.bool<|(an<|n>=a)&&(an<|n<=b)) ?_;exact h
 ·cases h)
def aUI:aWf->T LV
 | [.v (ag J n)]=> .ok (inB n (-200) 200)
 |_=> .no
def aiP:aWp:=[Tt]
def iM:=vo (S:=aUI) func34 aiP kN (λargs lv h=>by
 unfold aUI at h;split at h
 ·rename_i n
  refine Aq (.ok<|inB n (-200:Y) (200:Y)) ?_;exact h
 ·cases h)
def oX (e:Ty):LV->Option (List e.D)
 | .xl e' l=>match Jw e' e with
  |some ⟨h⟩=>ah (Kl h l)
  |none=>aj
 |_=>aj
def IY {e:Ty}{x:LV}{l:List e.D}(h:oX e x=ah l):x=.xl e l:=by
 unfold oX at h;split at h
 ·split at h
  ·rename_i h2 _
   subst h2;cases h;rfl
  ·cases h
 ·cases h
def oI:LV->Option Int
 | .v (ag J n)=>ah n
 |_=>aj
def aAp {x:LV}{n:Y}(h:oI x=ah n):x=.v (ag J n):=by
 unfold oI at h;exact yA
def oB:LV->Option Bool
 | .v (.bool n)=>ah n
 |_=>aj
def alR {x:LV}{n:aWo}(h:oB x=ah n):x=.v (.bool n):=by
 unfold oB at h;exact yA
def N1:LV->Option PK
 | .agg [a0,a1,a2,a3,a4,a5,a6,a7,a8,a9,a10,a11,a12,a13,a14,a15,a16,a17,a18,a19]=>(oX Af a0).bind λcs=>(oX .str a1).bind λos=>(oX Al a2).bind λks=>(oX Ah a3).bind λgs=>(oX Am a4).bind λbs=>(oI a5).bind λtk=>(oB a6).bind λup=>(oX AQ a7).bind λls=>(oI a8).bind λse=>(oX (.int aw) a9).bind λfl=>(oX Ap a10).bind λra=>(oI a11).bind λnx=>(oX B7 a12).bind λst=>(oX AQ a13).bind λca=>(oX B9 a14).bind λmi=>(oX BS a15).bind λme=>(oX Aw a16).bind λdm=>(oX BP a17).bind λlk=>(oX A7 a18).bind λdr=>(oX A7 a19).bind λtg=>ah ⟨cs,os,ks,gs,bs,tk,up,ls,se,fl,ra,nx,st,ca,mi,me,dm,lk,dr,tg⟩
 |_=>aj
def WV {x:LV}{p:PK}(h:N1 x=ah p):x=(p):=by
 unfold N1 at h;split at h
 ·simp only [Option.bind_eq_some_iff] at h
  obtain ⟨cs,h0,os,h1,ks,h2,gs,h3,bs,h4,tk,h5,up,h6,ls,h7,se,h8,fl,h9,ra,h10,nx,h11,st,h12,ca,h13,mi,h14,me,h15,dm,h16,lk,h17,dr,h18,tg,h19,h⟩:=h;cases h;rw [IY h0,IY h1,IY h2,IY h3,IY h4,aAp h5,alR h6,IY h7,aAp h8,IY h9,IY h10,aAp h11,IY h12,IY h13,IY h14,IY h15,IY h16,IY h17,IY h18,IY h19]
 ·cases h
def WH:=bN f21 0
def P2:aWp:=[P5,iM,Tt]
def arx:Sound prog AV (.loop WH) (JG prog AV P2 G9 20 2 WH):=Sz (gk P2) kN.h 20 2 WH
structure Nz where
 r:aWo
 n:Y
 l:aWd
 (m i:Y)
 p:PK
def aGH:=bN f21 1
def aAE (s:Nz):T (Rd Nz):=
 .br (an<|s.i<s.m) (.ix s.i (M s.l)<|.ix s.i (M s.p.cs)<|.br (!(inB (gi s.l s.i) (1:Y) (Ae s.p.cs s.i).2.2.1)) (.so (.ret) {s with r:=X})<|.nx {s with i:=AA<|s.i+1}) (.so (.exit 2) s)
def Ro (s:Nz) (j:Y):aWo:=inB (gi s.l j) 1 (Ae s.p.cs j).2.2.1
def lC (s:Nz):Prop:=s.i=0/\0<=s.m/\s.m<=1000/\s.m=(M s.l:Y)/\M s.l=M s.p.cs
def Y5 (s:Nz):Prop:=0<=s.i/\s.i<=s.m/\s.m<=1000/\(s.m=(M s.l:Y)/\M s.l=M s.p.cs)/\∀j:aWe,(j:Y)<s.i->Ro s j=U
def tw (s:Nz):aWe:=(s.m-s.i).toNat
def aBw (x:Ex) (s s':Nz):Prop:=(x=.exit 2/\∀j:aWe,(j:Y)<s'.m->Ro s' j=U)\/(x=.ret/\s'.r=X/\∃j:aWe,(j:Y)<s'.m/\Ro s' j=X)
def alG:∀s,lC s->Y5 s:=by
 exact KH
def azT:Da Y5 tw aBw aAE:=by
 intro s hI;obtain ⟨h0,h1,h2,h3,h4⟩:=hI;refine AH (λc1=>AH (λc2=>?_) λc2=>?_) λc1=>?_
 ·have c1:s.i<s.m:=AX
  refine .inr ⟨rfl,rfl,s.i.toNat,AZ,?_⟩
  have hg:Ro s s.i=false:=by unfold Ro;simp_all
  exact hg
 ·have c1:s.i<s.m:=AX
  have hg:Ro s s.i=true:=by unfold Ro;simp_all
  rw [AJ (x:=s.i+1)];refine ⟨⟨A8,A8,h2,h3,λj hj=>?_⟩,by simp only [tw];omega⟩
  exact LF
 ·exact xx
def Ph:AS Nz:=⟨0,105,[1,2,3,61,62,63],[],λs=>[.own 0 0,s.r,s.n,.xl A7 s.l,s.m,s.i],λs=>[pB s.p],λv b=>⟨DQ v 1,AK v 2,Az A7 v 3,AK v 4,AK v 5,rQ b 0⟩,aAE,λs r=> {s with r:=r.r,i:=r.i},λs=>s,λ_ s=>s,[.ret,.exit 2],lC,Y5,tw⟩
abbrev dv:=Ph.run
abbrev eR:=Ph.As
def ayQ:Rq Y5 aAE:=by
 exact xN
def aRF:Ph.Ok:={}
def aQZ:Ph.Pf (aBw):=⟨alG,λs h=>rfl,azT,ayQ⟩
def as2:SA 0 aGH Ph:=s1 aRF aQZ P2 kN
def atN:Fi lC Y5 aBw eR dv:=AS.fin aRF aQZ
structure Ny where
 r:aWo
 n:Y
 l:aWd
 (m i:Y)
 p:PK
def aGG:=bN f21 2
def aAD (s:Ny):T (Rd Ny):=
 .br (an<|s.i<s.m) (.ix s.i (M s.l)<|.br (!(inB (gi s.l s.i) (-200) 200)) (.so (.ret) {s with r:=X})<|.nx {s with i:=AA<|s.i+1}) (.so (.exit 4) s)
def Rm (s:Ny) (j:Y):aWo:=inB (gi s.l j) (-200) 200
def lB (s:Ny):Prop:=s.i=0/\0<=s.m/\s.m<=1000/\s.m=(M s.l:Y)
def Y4 (s:Ny):Prop:=0<=s.i/\s.i<=s.m/\s.m<=1000/\(s.m=(M s.l:Y))/\∀j:aWe,(j:Y)<s.i->Rm s j=U
def tv (s:Ny):aWe:=(s.m-s.i).toNat
def aBu (x:Ex) (s s':Ny):Prop:=(x=.exit 4/\∀j:aWe,(j:Y)<s'.m->Rm s' j=U)\/(x=.ret/\s'.r=X/\∃j:aWe,(j:Y)<s'.m/\Rm s' j=X)
def alF:∀s,lB s->Y4 s:=by
 exact KH
def azS:Da Y4 tv aBu aAD:=by
 intro s hI;obtain ⟨h0,h1,h2,h3,h4⟩:=hI;refine AH (λc1=>AH (λc2=>?_) λc2=>?_) λc1=>?_
 ·have c1:s.i<s.m:=AX
  refine .inr ⟨rfl,rfl,s.i.toNat,A8,?_⟩
  have hg:Rm s s.i=false:=by unfold Rm;simp_all
  exact hg
 ·have c1:s.i<s.m:=AX
  have hg:Rm s s.i=true:=by unfold Rm;simp_all
  rw [AJ (x:=s.i+1)];refine ⟨⟨A8,A8,h2,h3,λj hj=>?_⟩,by simp only [tv];omega⟩
  exact LF
 ·exact xx
def Pg:AS Ny:=⟨0,105,[1,2,3,80,81,82],[],λs=>[.own 0 0,s.r,s.n,.xl A7 s.l,s.m,s.i],λs=>[pB s.p],λv b=>⟨DQ v 1,AK v 2,Az A7 v 3,AK v 4,AK v 5,rQ b 0⟩,aAD,λs r=> {s with r:=r.r,i:=r.i},λs=>s,λ_ s=>s,[.ret,.exit 4],lB,Y4,tv⟩
abbrev du:=Pg.run
abbrev eQ:=Pg.As
def ayP:Rq Y4 aAD:=by
 exact Sl
def aRE:Pg.Ok:={}
def aQY:Pg.Pf (aBu):=⟨alF,λs h=>rfl,azS,ayP⟩
def as1:SA 0 aGG Pg:=s1 aRE aQY P2 kN
def atM:Fi lB Y4 aBu eQ du:=AS.fin aRE aQY
structure Nx where
 r:aWo
 n:Y
 l:aWN
 (m i:Y)
def aGF:=bN f21 3
def aAC (s:Nx):T (Rd Nx):=
 .br (an<|s.i<s.m) (.ix s.i (M s.l)<|.br (!(inB (Ea s.l s.i).2.2.1 (0:Y)<|AA<|s.n-1)) (.so (.ret) {s with r:=X})<|.nx {s with i:=AA<|s.i+1}) (.so (.exit 6) s)
def Tl (s:Nx) (j:Y):aWo:=inB (Ea s.l j).2.2.1 0<|s.n-1
def lA (s:Nx):Prop:=s.i=0/\0<=s.m/\s.m<=100000000/\s.m=(M s.l:Y)/\0<=s.n/\s.n<=16
def Y3 (s:Nx):Prop:=0<=s.i/\s.i<=s.m/\s.m<=100000000/\(s.m=(M s.l:Y)/\0<=s.n/\s.n<=16)/\∀j:aWe,(j:Y)<s.i->Tl s j=U
def tt (s:Nx):aWe:=(s.m-s.i).toNat
def aBt (x:Ex) (s s':Nx):Prop:=(x=.exit 6/\∀j:aWe,(j:Y)<s'.m->Tl s' j=U)\/(x=.ret/\s'.r=X/\∃j:aWe,(j:Y)<s'.m/\Tl s' j=X)
def alE:∀s,lA s->Y3 s:=by
 exact KH
def azR:Da Y3 tt aBt aAC:=by
 intro s hI;obtain ⟨h0,h1,h2,h3,h4⟩:=hI;refine AH (λc1=>AH (λc2=>?_) λc2=>?_) λc1=>?_
 ·have c1:s.i<s.m:=AX
  refine .inr ⟨rfl,rfl,s.i.toNat,AZ,?_⟩
  have hg:Tl s s.i=false:=aO5
  exact hg
 ·have c1:s.i<s.m:=AX
  have hg:Tl s s.i=true:=aO5
  rw [AJ (x:=s.i+1)];refine ⟨⟨A8,A8,h2,h3,λj hj=>?_⟩,by simp only [tt];omega⟩
  exact LF
 ·exact xx
def Pe:AS Nx:=⟨0,105,[2,3,91,92,93],[],λs=>[s.r,s.n,s.l,s.m,s.i],λ_=>[],λv b=>⟨DQ v 0,AK v 1,Az BP v 2,AK v 3,AK v 4⟩,aAC,λs r=> {s with r:=r.r,i:=r.i},λs=>s,λ_ s=>s,[.ret,.exit 6],lA,Y3,tt⟩
abbrev rA:=Pe.run
abbrev fY:=Pe.As
def ayO:Rq Y3 aAC:=by
 intro s hI;refine ⟨λc1=>⟨?_,λ_=>trivial,λ_=>trivial⟩,λ_=>trivial⟩
 ·(obtain ⟨h0,h1,h2,h3,h4⟩:=hI;obtain ⟨g0,g1,g2⟩:=h3;simp at c1;omega)
def aRD:Pe.Ok:={}
def aQX:Pe.Pf (aBt):=⟨alE,λs h=>rfl,azR,ayO⟩
def arz:SA 0 aGF Pe:=s1 aRD aQX P2 kN
def atL:Fi lA Y3 aBt fY rA:=AS.fin aRD aQX
def qa {α:Type}{l:List α}{d:α}{f:α->aWo}:Dp (M l) (λk=>f<|l.getD k.toNat d)=l.all f:=by
 rw [Ip,Dx,BO]
 constructor
 ·intro h x hx
  obtain ⟨k,hk,rfl⟩:=HG.1 hx
  grind
 ·intro h j hj
  grind
def aUm:aWf->T LV
 | [x_p]=>(match N1 x_p with
  |some p=> .req (M p.lk<=100000000) (.ok<|EJ p)
  |none=> .no)
 |_=> .no
def QY (p:PK):Nz:=(⟨X,(M p.gs:Y),p.tg,(M p.tg:Y),0,p⟩:Nz)
def QX (p:PK):Ny:=(⟨(dv<|QY p).r,(M p.gs:Y),p.dr,(M p.dr:Y),0,p⟩:Ny)
def T6 (p:PK):Nx:=(⟨(du<|QX p).r,(M p.gs:Y),p.lk,(M p.lk:Y),0⟩:Nx)
def agq (p:PK):letI a:=(M p.gs:Y);Bl prog AV P2 kN (λi=>if i=5 then (JG prog AV P2 G9 20 2 WH) else if i=13 then Ph.lp else if i=19 then Pg.lp else if i=25 then Pe.lp else Ak i) f21 [p]=.br ((!(BH p.cs p.os p.ks p.gs p.bs)) ||(!(inB p.tk (0:Y) (1000000:Y)))) (.ok X) (.br ((M p.st:Y) !=a) (.ok X)<|.br ((M p.ca:Y) !=a) (.ok X)<|.br ((M p.mi:Y) !=a) (.ok X)<|.br ((M p.me:Y) !=a) (.ok X)<|.br ((M p.dm:Y) !=a) (.ok X)<|.br ((M p.dr:Y) !=a) (.ok X)<|.br ((M p.tg:Y) !=(M p.cs:Y)) (.ok X)<|.req (Ph.q<|QY p)<|.br (Bb (eR<|QY p)<|.ret) (.ok (dv<|QY p).r)<|.req (Pg.q<|QX p)<|.br (Bb (eQ<|QX p)<|.ret) (.ok (du<|QX p).r)<|.req (Pe.q<|T6 p)<|.br (Bb (fY<|T6 p)<|.ret) (.ok (rA<|T6 p).r)<|.ok U):=AU
def ajh:=vm (S:=aUm) func21 P2 kN (L:=(λi=>if i=5 then (JG prog AV P2 G9 20 2 WH) else if i=13 then Ph.lp else if i=19 then Pg.lp else if i=25 then Pe.lp else Ak i)) (λb hb=>by
 rw [show BD _=[WH,aGH,aGG,aGF] by kernel_rfl] at hb
 simp only [BA,Bu,Bs] at hb;rcases hb with rfl|rfl|rfl|rfl
 ·exact arx
 ·exact as2
 ·exact as1
 ·exact arz) (λargs lv h=>by
 refine ⟨?_⟩;unfold aUm at h;split at h
 ·split at h
  case h_2=>cases h
  rename_i p hp;obtain rfl:=WV hp;simp only [canL,canX];rw [agq];obtain ⟨hk,rfl⟩:=h
  have op:EJ p=U->_:=λhv=>by unfold EJ at hv;simp only [AY,Aa] at hv;exact hv
  have no:(EJ p=U->False)->LV.v (.bool X)=LV.v (.bool<|EJ p):=λh=>by
   cases e:EJ p
   ·rfl
   ·exact (h e).elim
  refine ⟨λc1=>no λhv=>?_,λc1=>⟨λc2=>no λhv=>?_,λc2=>⟨λc3=>no λhv=>?_,λc3=>⟨λc4=>no λhv=>?_,λc4=>⟨λc5=>no λhv=>?_,λc5=>⟨λc6=>no λhv=>?_,λc6=>⟨λc7=>no λhv=>?_,λc7=>⟨λc8=>no λhv=>?_,λc8=>?_⟩⟩⟩⟩⟩⟩⟩⟩
  iterate 8
   ·obtain ⟨⟨h1,h2⟩,⟨h3,h4,h5,h6,h7,h8⟩,h9,_⟩:=op hv
    simp_all
  simp only [bne_eq_false_iff_eq,Int.natCast_inj,Ga,IK] at c1 c2 c3 c4 c5 c6 c7 c8
  have hs:=DK.1 c1.1
  have hv:EJ p=(Dp (M p.tg) (λk=>inB (gi p.tg k) 1 (Ae p.cs k).2.2.1)&&(p.dr.all (λx=>inB x (-200) 200)&&p.lk.all (λl=>inB l.2.2.1 0<|(M p.gs:Y)-1))):=by
   unfold EJ
   grind
  have hr:Dp (M p.dr) (λk=>inB (gi p.dr k) (-200) 200)=p.dr.all (λx=>inB x (-200) 200):=qa (f:=λx=>inB x (-200) 200)
  have hl:Dp (M p.lk) (λk=>inB (Ea p.lk k).2.2.1 0<|(M p.gs:Y)-1)=p.lk.all (λl=>inB l.2.2.1 0<|(M p.gs:Y)-1):=qa (f:=λl:Lk=>inB l.2.2.1 0<|(M p.gs:Y)-1)
  rw [hv,<-hr,<-hl]
  have E1:lC (QY p):=⟨rfl,SY _,by show (M p.tg:Y)<=1000;omega,rfl,c8⟩
  have E2:lB (QX p):=⟨rfl,SY _,by show (M p.dr:Y)<=1000;omega,rfl⟩
  have E3:lA (T6 p):=⟨rfl,SY _,by show (M p.lk:Y)<=100000000;omega,rfl,SY _,by show (M p.gs:Y)<=16;omega⟩
  refine ⟨⟨E1,rfl,rfl⟩,?_⟩;obtain ⟨_,_,q⟩:=atN _ E1
  have q:(eR (QY p)=.exit 2/\_)\/(eR (QY p)=.ret/\(dv<|QY p).r=X/\∃j:aWe,(j:Y)<(M p.tg:Y)/\inB (gi p.tg j) 1 (Ae p.cs j).2.2.1=X):=q
  rcases q with ⟨q1,q2⟩ |⟨q1,q2,j,q3,q4⟩
  rotate_left
  ·exact y7
  rw [q1,show Dp (M p.tg) (λk=>inB (gi p.tg k) 1 (Ae p.cs k).2.2.1)=U from Dx.2 q2]
  refine ⟨λc=>Em,λ_=>⟨⟨E2,rfl,rfl⟩,?_⟩⟩
  obtain ⟨_,_,q⟩:=atM _ E2
  have q:(eQ (QX p)=.exit 4/\_)\/(eQ (QX p)=.ret/\(du<|QX p).r=X/\∃j:aWe,(j:Y)<(M p.dr:Y)/\inB (gi p.dr j) (-200) 200=X):=q
  rcases q with ⟨q1,q2⟩ |⟨q1,q2,j,q3,q4⟩
  rotate_left
  ·exact y7
  rw [q1,show Dp (M p.dr) (λk=>inB (gi p.dr k) (-200) 200)=U from Dx.2 q2]
  refine ⟨λc=>Em,λ_=>⟨⟨E3,rfl,rfl⟩,?_⟩⟩
  obtain ⟨_,_,q⟩:=atL _ E3
  have q:(fY (T6 p)=.exit 6/\_)\/(fY (T6 p)=.ret/\(rA<|T6 p).r=X/\∃j:aWe,(j:Y)<(M p.lk:Y)/\inB (Ea p.lk j).2.2.1 0 ((M p.gs:Y)-1)=X):=q
  rcases q with ⟨q1,q2⟩ |⟨q1,q2,j,q3,q4⟩
  rotate_left
  ·exact y7
  rw [q1,show Dp (M p.lk) (λk=>inB (Ea p.lk k).2.2.1 0<|(M p.gs:Y)-1)=U from Dx.2 q2]
  exact ⟨λc=>Em,λ_=>rfl⟩
 ·cases h)
def aUT:aWf->T LV
 | [.xl (.int J) l]=> .req (M l<=100000000) (.ok<|.xl A7 l)
 |_=> .no
def Tb:aWp:=[]
def aJq {α:Type}{l:List α}{d:α}{n:Y}(h:n=(M l:Y)):BI l (aq n.toNat d)=l:=by
 unfold BI
 simp_all
def getD_mem {α:Type}{l:List α}{i:aWe}{d:α}(h:i<M l):l.getD i d∈l:=by
 grind
def set_self {α:Type}{l:List α}{i:aWe}{d:α}(h:i<M l):l.set i (l.getD i d)=l:=by
 simp_all
def aVN:=vo (S:=aUT) func64 Tb kN (λargs lv h=>by
 unfold aUT at h;split at h
 ·rename_i l
  refine Aq (letI a:=(M l:Y);letI b:=(BI l<|aq a.toNat (0:Y));.rm 8 a<|.rc a (0:Y) (M l)<|.req (0+a.toNat<=M b)<|.ok<|.xl A7<|(b.drop 0).take a.toNat) ?_;obtain ⟨hl,rfl⟩:=h;rw [aJq rfl];refine ⟨A0,⟨AI,AI⟩,AI,?_⟩;rw [By,CT,El];rfl
 ·cases h)
structure OC where
 (n i:Y)
 p1:aWg
 p2:aWr
 p3:aWh
 p4:aWs
 az6:Y
 ady:aWo
 (p8 p11:Y)
 apG:aW2
 afg:aWB
 asR:aWN
 (T9 aff:aWd)
 (sG b11 b12 b13 b14:aWx)
 avq:Y
 adl:aWo
 b17:aWx
 b18:Y
 (b19 b110:aWx)
 V2:Y
 (afU avr aq9 afV aez aqA aE0 aey:aWx)
 b2:aWl
 b3:aWn
 b4:aWd
 b5:aWJ
 b6:aWE
 b7:aWn
 o:aWY
def aA2 (s:OC):T (Rd OC):=letI a:=s.o.getD s.i.toNat<|Ty.dflt B9;.br (an<|s.i<s.n) (.ik s.i (M s.o)<|.req (M a.1<=100000000)<|.ik s.i (M s.o)<|.rl s.b2<|.rl s.b3<|.rl s.b4<|.rl s.b5<|.rl s.b6<|.rl s.b7<|.re (M s.o) (s.o.set s.i.toNat a)<|.nx {s with i:=AA<|s.i+1,o:=s.o.set s.i.toNat a})<|.rl s.b2<|.rl s.b3<|.rl s.b4<|.rl s.b5<|.rl s.b6<|.rl s.b7<|.rl s.o<|.so (.exit 0) s
def kQ (s:OC):Prop:=s.i=0/\s.n=(M s.o:Y)/\s.n<=1000/\∀m∈s.o,M m.1<=1000
def jd (s:OC):Prop:=0<=s.i/\s.i<=s.n/\s.n=(M s.o:Y)/\s.n<=1000/\∀m∈s.o,M m.1<=1000
def v8 (s:OC):aWe:=(s.n-s.i).toNat
def abx (x:Ex) (s s':OC):Prop:=True
def anI:∀s,kQ s->jd s:=by
 exact aNR
def aiA:Da jd v8 abx aA2:=by
 intro s hI;obtain ⟨h0,h1,h2,h3,h4⟩:=hI;refine AH (λc1=>?_) λc1=>trivial
 ·have c1:s.i<s.n:=A8
  have e:=set_self (l:=s.o) (i:=s.i.toNat) (d:=Ty.dflt B9) A0
  rw [AJ (x:=s.i+1),e];exact ⟨⟨A8,A8,h2,h3,h4⟩,by simp only [v8];omega⟩
def Gu:AS OC:=⟨0,82,[1,2,44,45],[],λs=>[.own 0 0,.own 1 0,s.n,s.i],λs=>[⟨[.os 2 11 0<|M s.b2,s.p1,s.p2,s.p3,s.p4,s.az6,s.ady,.os 3 5 0<|M s.b3,s.p8,.os 4 1 0<|M s.b4,.os 5 2 0<|M s.b5,s.p11,.os 6 4 0<|M s.b6,.os 7 5 0<|M s.b7,.os 8 3 0<|M s.o,s.apG,s.afg,s.asR,.xl A7 s.T9,.xl A7 s.aff],47,.cl,X⟩,⟨[.v<|s.sG,.v<|s.b11,.v<|s.b12,.v<|s.b13,.v<|s.b14,s.avq,s.adl,.v<|s.b17,s.b18,.v<|s.b19,.v<|s.b110,s.V2,.v<|s.afU,.v<|s.avr,.v<|s.aq9,.v<|s.afV,.v<|s.aez,.v<|s.aqA,.v<|s.aE0,.v<|s.aey],47,.cl,X⟩,bV 79 Af s.b2,bV 65 AQ s.b3,bV 5 (.int aw) s.b4,bV 139 Ap s.b5,bV 107 B7 s.b6,bV 57 AQ s.b7,bV 123 B9 s.o],λv b=>⟨AK v 2,AK v 3,AF .str b 0 1,AF Al b 0 2,AF Ah b 0 3,AF Am b 0 4,Aj b 0 5,cgB b 0 6,Aj b 0 8,Aj b 0 11,AF BS b 0 15,AF Aw b 0 16,AF BP b 0 17,AF A7 b 0 18,AF A7 b 0 19,H8<|BF (CW b 1) 0,H8<|BF (CW b 1) 1,H8<|BF (CW b 1) 2,H8<|BF (CW b 1) 3,H8<|BF (CW b 1) 4,Aj b 1 5,cgB b 1 6,H8<|BF (CW b 1) 7,Aj b 1 8,H8<|BF (CW b 1) 9,H8<|BF (CW b 1) 10,Aj b 1 11,H8<|BF (CW b 1) 12,H8<|BF (CW b 1) 13,H8<|BF (CW b 1) 14,H8<|BF (CW b 1) 15,H8<|BF (CW b 1) 16,H8<|BF (CW b 1) 17,H8<|BF (CW b 1) 18,H8<|BF (CW b 1) 19,Ac Af b 2,Ac AQ b 3,Ac (.int aw) b 4,Ac Ap b 5,Ac B7 b 6,Ac AQ b 7,Ac B9 b 8⟩,aA2,λs r=> {s with i:=r.i,o:=r.o},λs=>s,λ_ s=>s,[.exit 0],kQ,jd,v8⟩
abbrev aHw:=Gu.run
abbrev auZ:=Gu.As
def azu:Rq jd aA2:=by
 intro s hI;refine ⟨λc1=>⟨?_,?_,?_,?_,?_,A9,A9,A9,A9,A9,A9,?_,ak⟩,λc1=>⟨A9,A9,A9,A9,A9,A9,A9,ak⟩⟩
 all_goals ((obtain ⟨h0,h1,h2,h3,h4⟩:=hI;(try simp only [Aa] at c1);first|omega|exact ⟨rfl,AI⟩ |exact ⟨rfl,rfl⟩ |exact HJ (h4 _<|getD_mem A0) Ab))
def vz:aWp:=[aVN]
def ahE:B1:=kI vz<|l0 vz
def aS1:Gu.Ok:={}
def aRb:Gu.Pf (abx):=⟨anI,λs h=>rfl,aiA,azu⟩
def Cu:=s1 (b:=bN f30 0) aS1 aRb vz ahE
def avt:Rs kQ auZ aHw (λs:OC=>s.o) (λx s' (v:aWY)=>x=.exit 0/\s'.o=v):=DU aS1 aRb (λs hI=>by
  obtain ⟨h0,h1,h2,h3,h4⟩:=hI;refine AH (λc1=>?_) λc1=>⟨rfl,rfl⟩
  have c1:s.i<s.n:=A8
  have e:=set_self (l:=s.o) (i:=s.i.toNat) (d:=Ty.dflt B9) A0
  rw [e];exact rfl)
structure MT where
 p:PK
def UI (s:MT):aWf:=[s.p]
def Yq (s:MT):aWi:=[]
def dH (s:MT):OC:=(⟨(((M s.p.mi:Y).toNat:aWe):Y),0,s.p.os,s.p.ks,s.p.gs,s.p.bs,s.p.tk,s.p.up,s.p.se,s.p.nx,s.p.me,s.p.dm,s.p.lk,s.p.dr,s.p.tg,.slice aj 0 0,.slice aj 0 0,.slice aj 0 0,.slice aj 0 0,.slice aj 0 0,0,X,.slice aj 0 0,0,.slice aj 0 0,.slice aj 0 0,0,.slice aj 0 0,.slice aj 0 0,.slice aj 0 0,.slice aj 0 0,.slice aj 0 0,.slice aj 0 0,.slice aj 0 0,.slice aj 0 0,BI s.p.cs<|aq (M s.p.cs:Y).toNat (ByteArray.empty,((0:Y),((0:Y),((0:Y),(((0:Y),(0:Y)),((0:Y),((0:Y),((0:Y),((0:Y),(0:Y)))))))))),BI s.p.ls<|aq (M s.p.ls:Y).toNat ((0:Y),((0:Y),((0:Y),((0:Y),(0:Y))))),BI s.p.fl<|aq (M s.p.fl:Y).toNat (0:Y),BI s.p.ra<|aq (M s.p.ra:Y).toNat ((0:Y),(0:Y)),BI s.p.st<|aq (M s.p.st:Y).toNat ((0:Y),((0:Y),((0:Y),X))),BI s.p.ca<|aq (M s.p.ca:Y).toNat ((0:Y),((0:Y),((0:Y),((0:Y),(0:Y))))),BI s.p.mi<|aq (M s.p.mi:Y).toNat (([]:aWd),((0:Y),(0:Y)))⟩:OC)
structure Yc where
 p:PK
 (n7 n8 n9 n10 n11:aWe)
def acP (s:Yc):LV:=.agg [.os 0 11 0<|M s.p.cs,s.p.os,s.p.ks,s.p.gs,s.p.bs,s.p.tk,s.p.up,.os 1 5 0<|M s.p.ls,s.p.se,.os 2 1 0<|M s.p.fl,.os 3 2 0<|M s.p.ra,s.p.nx,.os 4 4 0<|M s.p.st,.os 5 5 0<|M s.p.ca,.os 6 3 0<|M s.p.mi,.os 7 3 0 s.n7,.os 8 4 0 s.n8,.os 9 6 0 s.n9,.os 10 1 0 s.n10,.os 11 1 0 s.n11]
def acg (s:Yc):aWi:=[bV 79 Af s.p.cs,bV 65 AQ s.p.ls,bV 5 (.int aw) s.p.fl,bV 139 Ap s.p.ra,bV 107 B7 s.p.st,bV 57 AQ s.p.ca,bV 123 B9 s.p.mi,bV 110 BS s.p.me,bV 59 Aw s.p.dm,bV 68 BP s.p.lk,bV 3 A7 s.p.dr,bV 3 A7 s.p.tg]
def iu (s:MT):T Yc:=letI a:=(ByteArray.empty,((0:Y),((0:Y),((0:Y),(((0:Y),(0:Y)),((0:Y),((0:Y),((0:Y),((0:Y),(0:Y))))))))));letI f:=(M s.p.cs:Y);letI g:=(M s.p.fl:Y);letI h:=(M s.p.ls:Y);letI i:=(M s.p.ra:Y);letI j:=(M s.p.st:Y);letI k:=(M s.p.ca:Y);letI l:=(M s.p.mi:Y);letI m:=(M s.p.me:Y);letI n:=(M s.p.dm:Y);letI r:=(M s.p.lk:Y);letI t:=(M s.p.dr:Y);letI u:=(M s.p.tg:Y);letI v:=(BI s.p.fl<|aq g.toNat (0:Y));letI w:=BI s.p.cs<|aq f.toNat a;letI x:=(X,((0:Y),((0:Y),(0:Y))));letI b:=(BI s.p.ls<|aq h.toNat ((0:Y),((0:Y),((0:Y),((0:Y),(0:Y))))));letI c:=(BI s.p.ca<|aq k.toNat ((0:Y),((0:Y),((0:Y),((0:Y),(0:Y))))));letI d:=(BI s.p.st<|aq j.toNat ((0:Y),((0:Y),((0:Y),X))));letI e:=(BI s.p.ra<|aq i.toNat ((0:Y),(0:Y)));.rm 96 f<|.rc f a (M s.p.cs)<|.rm 40 h<|.rc h ((0:Y),((0:Y),((0:Y),((0:Y),(0:Y))))) (M s.p.ls)<|.rm 1 g<|.rc g (0:Y) (M s.p.fl)<|.rm 16 i<|.rc i ((0:Y),(0:Y)) (M s.p.ra)<|.rm 32 j<|.rc j ((0:Y),((0:Y),((0:Y),X))) (M s.p.st)<|.rm 40 k<|.rc k ((0:Y),((0:Y),((0:Y),((0:Y),(0:Y))))) (M s.p.ca)<|.rm 40 l<|.rc l (([]:aWd),((0:Y),(0:Y))) (M s.p.mi)<|.re f.toNat w<|.re h.toNat b<|.re g.toNat v<|.re i.toNat e<|.re j.toNat d<|.re k.toNat c<|.re l.toNat (BI s.p.mi<|aq l.toNat (([]:aWd),((0:Y),(0:Y))))<|.req (Gu.q<|dH s)<|.rm 24 m<|.rc m ((0:Y),((0:Y),X)) (M s.p.me)<|.rm 32 n<|.rc n x (M s.p.dm)<|.rm 48 r<|.rc r ((0:Y),((0:Y),((0:Y),((0:Y),((0:Y),(0:Y)))))) (M s.p.lk)<|.rm 8 t<|.rc t (0:Y) (M s.p.dr)<|.rm 8 u<|.rc u (0:Y) (M s.p.tg)<|.ok<|⟨⟨w,s.p.os,s.p.ks,s.p.gs,s.p.bs,s.p.tk,s.p.up,b,s.p.se,v,e,s.p.nx,d,c,(aHw<|dH s).o,BI s.p.me<|aq m.toNat ((0:Y),((0:Y),X)),BI s.p.dm<|aq n.toNat x,BI s.p.lk<|aq r.toNat ((0:Y),((0:Y),((0:Y),((0:Y),((0:Y),(0:Y)))))),BI s.p.dr<|aq t.toNat (0:Y),BI s.p.tg<|aq u.toNat (0:Y)⟩,m.toNat,n.toNat,r.toNat,t.toNat,u.toNat⟩
def Qh {α:Type}{l:List α}{d:α}:BI l (aq (M l:Y).toNat d)=l:=aJq rfl
structure LB (p:PK):Prop where
 cs:M p.cs<=20000000
 ls:M p.ls<=20000000
 fl:M p.fl<=20000000
 ra:M p.ra<=20000000
 st:M p.st<=20000000
 ca:M p.ca<=20000000
 mi:M p.mi<=1000
 me:M p.me<=20000000
 dm:M p.dm<=20000000
 lk:M p.lk<=20000000
 dr:M p.dr<=20000000
 tg:M p.tg<=20000000
 mis:∀m∈p.mi,M m.1<=1000
def kM (s:MT):Prop:=LB s.p
def aVl (s:MT):Yc:=⟨s.p,M s.p.me,M s.p.dm,M s.p.lk,M s.p.dr,M s.p.tg⟩
def jz:D8 MT Yc:=⟨UI,Yq,λv b=>⟨⟨Ar Af<|EO (v.getD 0 .junk) 0,Ar .str<|EO (v.getD 0 .junk) 1,Ar Al<|EO (v.getD 0 .junk) 2,Ar Ah<|EO (v.getD 0 .junk) 3,Ar Am<|EO (v.getD 0 .junk) 4,gI<|EO (v.getD 0 .junk) 5,gBo<|EO (v.getD 0 .junk) 6,Ar AQ<|EO (v.getD 0 .junk) 7,gI<|EO (v.getD 0 .junk) 8,Ar (.int aw)<|EO (v.getD 0 .junk) 9,Ar Ap<|EO (v.getD 0 .junk) 10,gI<|EO (v.getD 0 .junk) 11,Ar B7<|EO (v.getD 0 .junk) 12,Ar AQ<|EO (v.getD 0 .junk) 13,Ar B9<|EO (v.getD 0 .junk) 14,Ar BS<|EO (v.getD 0 .junk) 15,Ar Aw<|EO (v.getD 0 .junk) 16,Ar BP<|EO (v.getD 0 .junk) 17,Ar A7<|EO (v.getD 0 .junk) 18,Ar A7<|EO (v.getD 0 .junk) 19⟩⟩,kM,[],[],acP,acg,aVl⟩
abbrev azy (s:MT):Prop:=kM s/\UI s=UI s/\Yq s=Yq s
def aTP:B1:=kI Tb<|la 9 func30 Cu<|l0 Tb
def aVC:DS:=CV 30 0 9 (Gu.lp)<|E5 prog AV Tb 20 2
def aqM:Eb prog AV aVC:=DM func30 rfl AU Cu<|Hv<|gk Tb
def agI (s:MT):((Ep prog AV Tb aVC aTP).k 30 (UI s)<|Yq s).bind (λq=>GM (M<|Yq s) [0] [] .normal (q.1::UI s) q.2)=(iu s).mp (λs2=>⟨.normal,M (UI s)+1,[acP s2],acg s2,U⟩):=AU
def axh (s:MT) (hE:kM s):(iu s).all (λq=>q=aVl s):=by
 have ho:(dH s).o=s.p.mi:=Qh
 have hn:(dH s).n=(M s.p.mi:Y):=MF
 have hV:kQ (dH s):=⟨rfl,A8,by rw [hn];have:=hE.mi;omega,by rw [ho];exact hE.mis⟩
 have hm:=(avt _ hV).2.trans Qh
 unfold iu;simp only [Qh,hm];obtain ⟨h1,h2,h3,h4,h5,h6,h7,h8,h9,h10,h11,h12,_⟩:=hE
 repeat (refine ⟨by first|omega|exact ⟨AI,AI⟩ |exact ⟨rfl,AI⟩ |exact ⟨hV,rfl,rfl⟩,?_⟩)
 rfl
def avW:Dj prog AV 30 jz.m:=D8.sound (D:=jz) (t:=iu) (gk Tb) aqM aTP.h agI λs hE=>⟨axh s hE⟩
def ajP:Dj prog AV 30 (Qn λa=>jz.m a []):=aGW avW
structure EW where
 (ek en em c1 c2 c3 c4 c5:Y)
 d1:aWo
 (d2 d3 d4:Y)
instance:Coe EW Value:=⟨λe=> .agg #[ag J e.ek,ag J e.en,ag J e.em,ag J e.c1,ag J e.c2,ag J e.c3,ag J e.c4,ag J e.c5,.bool e.d1,ag J e.d2,ag J e.d3,ag J e.d4]⟩
instance:Coe EW LV:=⟨λe=> .v<|.agg #[ag J e.ek,ag J e.en,ag J e.em,ag J e.c1,ag J e.c2,ag J e.c3,ag J e.c4,ag J e.c5,.bool e.d1,ag J e.d2,ag J e.d3,ag J e.d4]⟩
def EW.c (e:EW):Ca:=(e.c1,e.c2,e.c3,e.c4,e.c5)
def EW.d (e:EW):Dm:=(e.d1,e.d2,e.d3,e.d4)
def EW.ev (e:EW):EV:=⟨e.ek,e.en,e.em,e.c,e.d⟩
def ng:LV->Option EW
 | .v (.agg ⟨[ag J ek,ag J en,ag J em,ag J c1,ag J c2,ag J c3,ag J c4,ag J c5,.bool d1,ag J d2,ag J d3,ag J d4]⟩)=>ah ⟨ek,en,em,c1,c2,c3,c4,c5,d1,d2,d3,d4⟩
 |_=>aj
def auo {x:LV}{ev:EW}(h:ng x=ah ev):x=(ev):=by
 unfold ng at h;exact yA
def zB:AB:=⟨[.v<|.slice aj 0 0,.v<|.slice aj 0 0,.v<|.slice aj 0 0,.v<|.slice aj 0 0,.v<|.slice aj 0 0,.v<|ag J 0,.v<|.bool X,.v<|.slice aj 0 0,.v<|ag J 0,.v<|.slice aj 0 0,.v<|.slice aj 0 0,.v<|ag J 0,.v<|.slice aj 0 0,.v<|.slice aj 0 0,.v<|.slice aj 0 0,.v<|.slice aj 0 0,.v<|.slice aj 0 0,.v<|.slice aj 0 0,.v<|.slice aj 0 0,.v<|.slice aj 0 0],47,.cl,X⟩
def eB (e:EW):AB:=⟨[.v<|ag J e.ek,.v<|ag J e.en,.v<|ag J e.em,.v<|ag J e.c1,.v<|ag J e.c2,.v<|ag J e.c3,.v<|ag J e.c4,.v<|ag J e.c5,.v<|.bool e.d1,.v<|ag J e.d2,.v<|ag J e.d3,.v<|ag J e.d4],68,.cl,X⟩
def rE (b:aWi) (i q:aWe):EW:=letI a:=CW b q;⟨gI<|BF a<|i+0,gI<|BF a<|i+1,gI<|BF a<|i+2,gI<|BF a<|i+3,gI<|BF a<|i+4,gI<|BF a<|i+5,gI<|BF a<|i+6,gI<|BF a<|i+7,gBo<|BF a<|i+8,gI<|BF a<|i+9,gI<|BF a<|i+10,gI<|BF a<|i+11⟩
def rG (b:aWi):EW:=rE b 20 16
structure Li where
 (i k0 k1 k2:Y)
 p:PK
 ev:EW
def Uh (s:Li):aWf:=[.own 16 0,s.i,.v<|.agg #[s.k0,s.k1,s.k2]]
def Yn (s:Li):aWi:=[AP,AP,zB,AP,bV 79 Af s.p.cs,bV 65 AQ s.p.ls,bV 5 (.int aw) s.p.fl,bV 139 Ap s.p.ra,bV 107 B7 s.p.st,bV 57 AQ s.p.ca,bV 123 B9 s.p.mi,bV 110 BS s.p.me,bV 59 Aw s.p.dm,bV 68 BP s.p.lk,bV 3 A7 s.p.dr,bV 3 A7 s.p.tg,⟨[.os 4 11 0<|M s.p.cs,.xl .str s.p.os,.xl Al s.p.ks,.xl Ah s.p.gs,.xl Am s.p.bs,.v<|ag J s.p.tk,.v<|.bool s.p.up,.os 5 5 0<|M s.p.ls,.v<|ag J s.p.se,.os 6 1 0<|M s.p.fl,.os 7 2 0<|M s.p.ra,.v<|ag J s.p.nx,.os 8 4 0<|M s.p.st,.os 9 5 0<|M s.p.ca,.os 10 3 0<|M s.p.mi,.os 11 3 0<|M s.p.me,.os 12 4 0<|M s.p.dm,.os 13 6 0<|M s.p.lk,.os 14 1 0<|M s.p.dr,.os 15 1 0<|M s.p.tg,.v<|ag J s.ev.ek,.v<|ag J s.ev.en,.v<|ag J s.ev.em,.v<|ag J s.ev.c1,.v<|ag J s.ev.c2,.v<|ag J s.ev.c3,.v<|ag J s.ev.c4,.v<|ag J s.ev.c5,.v<|.bool s.ev.d1,.v<|ag J s.ev.d2,.v<|ag J s.ev.d3,.v<|ag J s.ev.d4,.v<|.slice aj 0 0],97,.cl,X⟩]
structure YZ where
 res:Y
 p:PK
 ev:EW
def acM (s:YZ):LV:=.v<|ag J s.res
def acd (s:YZ):aWi:=[AP,AP,zB,AP,bV 79 Af s.p.cs,bV 65 AQ s.p.ls,bV 5 (.int aw) s.p.fl,bV 139 Ap s.p.ra,bV 107 B7 s.p.st,bV 57 AQ s.p.ca,bV 123 B9 s.p.mi,bV 110 BS s.p.me,bV 59 Aw s.p.dm,bV 68 BP s.p.lk,bV 3 A7 s.p.dr,bV 3 A7 s.p.tg,⟨[.os 4 11 0<|M s.p.cs,.xl .str s.p.os,.xl Al s.p.ks,.xl Ah s.p.gs,.xl Am s.p.bs,.v<|ag J s.p.tk,.v<|.bool s.p.up,.os 5 5 0<|M s.p.ls,.v<|ag J s.p.se,.os 6 1 0<|M s.p.fl,.os 7 2 0<|M s.p.ra,.v<|ag J s.p.nx,.os 8 4 0<|M s.p.st,.os 9 5 0<|M s.p.ca,.os 10 3 0<|M s.p.mi,.os 11 3 0<|M s.p.me,.os 12 4 0<|M s.p.dm,.os 13 6 0<|M s.p.lk,.os 14 1 0<|M s.p.dr,.os 15 1 0<|M s.p.tg,.v<|ag J s.ev.ek,.v<|ag J s.ev.en,.v<|ag J s.ev.em,.v<|ag J s.ev.c1,.v<|ag J s.ev.c2,.v<|ag J s.ev.c3,.v<|ag J s.ev.c4,.v<|ag J s.ev.c5,.v<|.bool s.ev.d1,.v<|ag J s.ev.d2,.v<|ag J s.ev.d3,.v<|ag J s.ev.d4,.v<|.slice aj 0 0],97,.cl,X⟩]
def zt (s:Li):T YZ:=letI c:=s.p.st.getD s.i.toNat<|Ty.dflt B7;letI d:=M s.p.st;letI a:=sE (AG s.p.gs s.i) c s.k0 s.k1 s.k2;letI b:=sN (AG s.p.gs s.i) c s.k0 s.k1 s.k2;.ix s.i (M s.p.gs)<|.ik s.i d<|.br (a==0) (.ik s.i d<|.pa s.p<|.re d (s.p.st.set s.i.toNat b)<|.rl s.p.ca<|.rl s.p.mi<|.rl s.p.me<|.rl s.p.dm<|.rl s.p.lk<|.rl s.p.dr<|.rl s.p.tg<|.ok<|⟨a,{s.p with st:=s.p.st.set s.i.toNat b},s.ev⟩)<|.pc s.p<|.ok<|⟨a,s.p,s.ev⟩
def aCf (s:Li):Prop:=0<=s.i/\s.i<(M s.p.gs:Y)/\M s.p.st=M s.p.gs
def ig (s:Li):YZ:=⟨sE (AG s.p.gs s.i) (BW s.p.st s.i) s.k0 s.k1 s.k2,{s.p with st:=CY s.p.gs s.p.st s.i s.k0 s.k1 s.k2},s.ev⟩
def aCk:D8 Li YZ:=⟨Uh,Yn,λv b=>⟨AK v 1,gI<|EO (v.getD 2 .junk) 0,gI<|EO (v.getD 2 .junk) 1,gI<|EO (v.getD 2 .junk) 2,rF b,rG b⟩,aCf,[0,1,3],[],acM,acd,ig⟩
abbrev wF (s:Li):Prop:=aCf s/\Uh s=Uh s/\Yn s=Yn s
def gb:aWp:=[R1]
def aV9:DS:=CV 30 0 9 (Gu.lp)<|E5 prog AV (gb) 20 2
def aqJ:Eb prog AV aV9:=DM func30 rfl AU Cu<|Hv<|gk gb
def agE (s:Li):((Ep prog AV gb aV9 G9).k 52 (Uh s)<|Yn s).bind (λq=>GM (M<|Yn s) [0] [] .normal (q.1::Uh s) q.2)=(zt s).mp (λs2=>⟨.normal,M (Uh s)+1,[acM s2],acd s2,U⟩):=AU
def axe (s:Li) (hE:aCf s):(zt s).all (λq=>q=ig s):=by
 obtain ⟨h0,h1,h2⟩:=hE;refine ⟨A0,A0,A0,λc=>?_,λc=>?_⟩
 ·have c:=eq_of_beq c
  have hg:CY s.p.gs s.p.st s.i s.k0 s.k1 s.k2=_:=AD c
  repeat (refine ⟨A8,?_⟩)
  unfold ig;rw [hg];rfl
 ·have c:=CQ.1 c
  have hg:CY s.p.gs s.p.st s.i s.k0 s.k1 s.k2=s.p.st:=AE c
  repeat (refine ⟨AI,?_⟩)
  unfold ig;rw [hg];rfl
def ajN:Dj prog AV 52 aCk.m:=D8.sound (D:=aCk) (t:=zt) (gk gb) aqJ QR agE λs hE=>⟨axe s hE⟩
structure MZ where
 (n i:Y)
 p:PK
 ev:EW
 left:aWN
def zl (s:MZ):T (Rd MZ):=letI a:=s.p.lk.getD s.i.toNat<|Ty.dflt BP;.br (an<|s.i<s.n) (.ik s.i (M s.p.lk)<|.br (a.2.2.1 !=s.ev.en) (.rb (M s.left) (M<|[a]) 48<|.re (M s.left+M ([a])) (s.left++([a]))<|.rl s.p.lk<|.pc s.p<|.nx {s with i:=AA<|s.i+1,left:=s.left++([a])})<|.rl s.left<|.rl s.p.lk<|.pc s.p<|.nx {s with i:=AA<|s.i+1})<|.rl s.left<|.rl s.p.lk<|.pc s.p<|.so (.exit 0) s
def k9 (s:MZ):Prop:=s.i=0/\s.n=(M s.p.lk:Y)/\s.n<=20000000/\(M s.left:Y)<=s.i
def jW (s:MZ):Prop:=0<=s.i/\s.i<=s.n/\s.n=(M s.p.lk:Y)/\s.n<=20000000/\(M s.left:Y)<=s.i
def gA (s:MZ):aWe:=(s.n-s.i).toNat
def abo (x:Ex) (s s':MZ):Prop:=True
def ama:∀s,k9 s->jW s:=by
 rintro s ⟨h0,h2,h3,h4⟩
 exact yE
def ahT:Da jW gA abo zl:=by
 intro s hI;obtain ⟨h0,h1,h2,h3,h4⟩:=hI;refine AH (λc1=>AH (λc2=>?_) λc2=>?_) λc1=>trivial
 all_goals have c1:s.i<s.n:=AX
 all_goals rw [AJ (x:=s.i+1)]
 ·exact ⟨⟨AZ,AZ,h2,h3,A8⟩,by simp only [gA];omega⟩
 ·exact ⟨⟨A8,A8,h2,h3,AZ⟩,by simp only [gA];omega⟩
def Kr:AS MZ:=⟨18,30,[0,1,4,11,12,13],[.nl 4 68 BP],λs=>[.own 16 0,.fn 54 [.own 17 0],.os 18 6 0<|M s.left,.os 13 6 0<|M s.p.lk,s.n,s.i],λs=>[AP,AP,zB,AP,bV 79 Af s.p.cs,bV 65 AQ s.p.ls,bV 5 (.int aw) s.p.fl,bV 139 Ap s.p.ra,bV 107 B7 s.p.st,bV 57 AQ s.p.ca,bV 123 B9 s.p.mi,bV 110 BS s.p.me,bV 59 Aw s.p.dm,bV 68 BP s.p.lk,bV 3 A7 s.p.dr,bV 3 A7 s.p.tg,⟨[.os 4 11 0<|M s.p.cs,.xl .str s.p.os,.xl Al s.p.ks,.xl Ah s.p.gs,.xl Am s.p.bs,.v<|ag J s.p.tk,.v<|.bool s.p.up,.os 5 5 0<|M s.p.ls,.v<|ag J s.p.se,.os 6 1 0<|M s.p.fl,.os 7 2 0<|M s.p.ra,.v<|ag J s.p.nx,.os 8 4 0<|M s.p.st,.os 9 5 0<|M s.p.ca,.os 10 3 0<|M s.p.mi,.os 11 3 0<|M s.p.me,.os 12 4 0<|M s.p.dm,.os 13 6 0<|M s.p.lk,.os 14 1 0<|M s.p.dr,.os 15 1 0<|M s.p.tg,.v<|ag J s.ev.ek,.v<|ag J s.ev.en,.v<|ag J s.ev.em,.v<|ag J s.ev.c1,.v<|ag J s.ev.c2,.v<|ag J s.ev.c3,.v<|ag J s.ev.c4,.v<|ag J s.ev.c5,.v<|.bool s.ev.d1,.v<|ag J s.ev.d2,.v<|ag J s.ev.d3,.v<|ag J s.ev.d4,.v<|.slice aj 0 0],97,.cl,X⟩,⟨[.own 16 0],92,.cl,X⟩,bV 68 BP s.left],λv b=>⟨AK v 4,AK v 5,rF b,rG b,Ac BP b 18⟩,zl,λs r=> {s with i:=r.i,left:=r.left},λs=>s,λ_ s=>s,[.exit 0],k9,jW,gA⟩
abbrev aE9:=Kr.run
abbrev avK:=Kr.As
def vw:aWp:=[Tt]
def ahD:B1:=kI vw<|la 9 func30 Cu<|l0 vw
def aze:Rq jW zl:=by
 intro s hI;refine ⟨λc1=>⟨?_,?_,λc2=>⟨?_,?_,A9,A9,A9,A9,A9,A9,A9,A9,A9,A9,A9,A9,A9,ak⟩,λc2=>⟨A9,A9,A9,A9,A9,A9,A9,A9,A9,A9,A9,A9,A9,A9,ak⟩⟩,λc1=>⟨A9,A9,A9,A9,A9,A9,A9,A9,A9,A9,A9,A9,A9,A9,ak⟩⟩
 all_goals ((obtain ⟨h0,h1,h2,h3,h4⟩:=hI;(try simp only [Aa] at c1);first|omega|exact ⟨rfl,rfl⟩ |(simp only [Bj,Bt,BL];omega) |(simp only [BL,Bj,Bt,FR];done)))
def aSX:Kr.Ok:={}
def aQp:Kr.Pf (abo):=⟨ama,λs h=>rfl,ahT,aze⟩
def KV:=s2 (b:=bN f53 0) aSX aQp vw ahD
def apo {l:aWN}{i:Y}(h0:0<=i) (h:i<M l):l.drop i.toNat=l.getD i.toNat (Ty.dflt BP)::l.drop (i+1).toNat:=by
 rw [SZ A0,DJ,Dg A0,show (i+1).toNat=i.toNat+1 by omega]
 rfl
def auJ:Rs k9 avK aE9 (λs:MZ=>s.left++(s.p.lk.drop s.i.toNat).filter (λl=>l.2.2.1 !=s.ev.en)) (λx s' (v:aWN)=>x=.exit 0/\s'.left=v):=DU aSX aQp (λs hI=>by
  obtain ⟨h0,h1,h2,h3,h4⟩:=hI;refine AH (λc1=>?_) λc1=>?_
  ·have c1:s.i<s.n:=A8
   rw [AJ (x:=s.i+1),apo h0 A0];refine AH (λc2=>?_) λc2=>?_
   ·show _++[_]++_=_++_
    rw [N8,AD c2,Ct];rfl
   ·show _++_=_++_
    grind
  ·have c1:s.n<=s.i:=A8
   refine ⟨rfl,?_⟩;rw [F6 A0]
   simp)
def JW (e:Y) (a b:PK):PK:=if e=0 then a else b
def LW {e:Y}{a b:PK}(h:e=0):JW e a b=a:=AD h
def Jn {e:Y}{a b:PK}(h:e≠0):JW e a b=b:=AE h
def TN {α:Type}(l:List α):(l.drop 0).take (M l)=l:=AI
def fP {l:aWh}(h:M l<=1000):AA ((M l:Y)-1)=(M l:Y)-1:=AJ
structure O8 where
 p:PK
 ev:EW
def Ue (s:O8):aWf:=[.own 16 0]
def ZG (s:O8):aWi:=[AP,AP,zB,AP,bV 79 Af s.p.cs,bV 65 AQ s.p.ls,bV 5 (.int aw) s.p.fl,bV 139 Ap s.p.ra,bV 107 B7 s.p.st,bV 57 AQ s.p.ca,bV 123 B9 s.p.mi,bV 110 BS s.p.me,bV 59 Aw s.p.dm,bV 68 BP s.p.lk,bV 3 A7 s.p.dr,bV 3 A7 s.p.tg,⟨[.os 4 11 0<|M s.p.cs,.xl .str s.p.os,.xl Al s.p.ks,.xl Ah s.p.gs,.xl Am s.p.bs,.v<|ag J s.p.tk,.v<|.bool s.p.up,.os 5 5 0<|M s.p.ls,.v<|ag J s.p.se,.os 6 1 0<|M s.p.fl,.os 7 2 0<|M s.p.ra,.v<|ag J s.p.nx,.os 8 4 0<|M s.p.st,.os 9 5 0<|M s.p.ca,.os 10 3 0<|M s.p.mi,.os 11 3 0<|M s.p.me,.os 12 4 0<|M s.p.dm,.os 13 6 0<|M s.p.lk,.os 14 1 0<|M s.p.dr,.os 15 1 0<|M s.p.tg,.v<|ag J s.ev.ek,.v<|ag J s.ev.en,.v<|ag J s.ev.em,.v<|ag J s.ev.c1,.v<|ag J s.ev.c2,.v<|ag J s.ev.c3,.v<|ag J s.ev.c4,.v<|ag J s.ev.c5,.v<|.bool s.ev.d1,.v<|ag J s.ev.d2,.v<|ag J s.ev.d3,.v<|ag J s.ev.d4,.v<|.slice aj 0 0],97,.cl,X⟩]
structure YW where
 res:Y
 p:PK
 ev:EW
def acI (s:YW):LV:=.v<|ag J s.res
def abe (s:YW):aWi:=[AP,AP,zB,AP,bV 79 Af s.p.cs,AP,bV 5 (.int aw) s.p.fl,bV 139 Ap s.p.ra,bV 107 B7 s.p.st,bV 57 AQ s.p.ca,bV 123 B9 s.p.mi,bV 110 BS s.p.me,bV 59 Aw s.p.dm,bV 68 BP s.p.lk,bV 3 A7 s.p.dr,bV 3 A7 s.p.tg,⟨[.os 4 11 0<|M s.p.cs,.xl .str s.p.os,.xl Al s.p.ks,.xl Ah s.p.gs,.xl Am s.p.bs,.v<|ag J s.p.tk,.v<|.bool s.p.up,.xl AQ s.p.ls,.v<|ag J s.p.se,.os 6 1 0<|M s.p.fl,.os 7 2 0<|M s.p.ra,.v<|ag J s.p.nx,.os 8 4 0<|M s.p.st,.os 9 5 0<|M s.p.ca,.os 10 3 0<|M s.p.mi,.os 11 3 0<|M s.p.me,.os 12 4 0<|M s.p.dm,.os 13 6 0<|M s.p.lk,.os 14 1 0<|M s.p.dr,.os 15 1 0<|M s.p.tg,.v<|ag J s.ev.ek,.v<|ag J s.ev.en,.v<|ag J s.ev.em,.v<|ag J s.ev.c1,.v<|ag J s.ev.c2,.v<|ag J s.ev.c3,.v<|ag J s.ev.c4,.v<|ag J s.ev.c5,.v<|.bool s.ev.d1,.v<|ag J s.ev.d2,.v<|ag J s.ev.d3,.v<|ag J s.ev.d4,.v<|.slice aj 0 0],97,.cl,X⟩]
def zr (s:O8):T YW:=
 .br (!s.p.up) (.rz s.p.ls<|.rl s.p.cs<|.rl s.p.fl<|.rl s.p.ra<|.pb s.p<|.ok<|⟨6,{s.p with ls:=(s.p.ls.drop 0).take<|M s.p.ls},s.ev⟩) (.rl s.p.cs<|.rl s.p.fl<|.rl s.p.ra<|.pb s.p<|.ok<|⟨0,{s.p with up:=X,ls:=([]:aWn)},s.ev⟩)
def aCc (s:O8):Prop:=True
def ic (s:O8):YW:=⟨PK.Ma s.p,JW (PK.Ma s.p) (PK.Ni s.p) s.p,s.ev⟩
def aCi:D8 O8 YW:=⟨Ue,ZG,λv b=>⟨rF b,rG b⟩,aCc,[0,1,3],[.pc 16 7 AQ,.kb 5],acI,abe,ic⟩
abbrev ak4 (s:O8):Prop:=aCc s/\Ue s=Ue s/\ZG s=ZG s
def fw:aWp:=[]
def aV6:DS:=CV 53 18 2 (Kr.lp)<|CV 30 0 9 (Gu.lp)<|E5 prog AV (fw) 20 2
def aqG:Eb prog AV aV6:=DM func53 rfl AU KV<|DM func30 rfl AU Cu<|Hv<|gk fw
def ag9 (s:O8):((Ep prog AV fw aV6 G9).k 26 (Ue s)<|ZG s).bind (λq=>GM (M<|ZG s) [0] [.pc 16 7 AQ,.kb 5] .normal (q.1::Ue s) q.2)=(zr s).mp (λs2=>⟨.normal,M (Ue s)+1,[acI s2],abe s2,U⟩):=AU
def axb (s:O8) (hE:aCc s):(zr s).all (λq=>q=ic s):=by
 refine ⟨λc=>⟨A0,?_⟩,λc=>?_⟩
 ·have c:s.p.up=false:=A8
  have he:s.p.Ma=6:=AD c
  rw [TN]
  repeat (refine ⟨AI,?_⟩)
  show _=_
  unfold ic;rw [Jn A8];rw [he]
 ·have c:s.p.up=true:=A8
  have he:s.p.Ma=0:=AE A8
  repeat (refine ⟨AI,?_⟩)
  unfold ic;rw [he];rfl
def ajL:Dj prog AV 26 aCi.m:=D8.sound (D:=aCi) (t:=zr) (gk fw) aqG QR ag9 λs hE=>⟨axb s hE⟩
structure O3 where
 p:PK
 ev:EW
def UY (s:O3):aWf:=[.own 16 0]
def ZA (s:O3):aWi:=[AP,AP,zB,AP,bV 79 Af s.p.cs,bV 65 AQ s.p.ls,bV 5 (.int aw) s.p.fl,bV 139 Ap s.p.ra,bV 107 B7 s.p.st,bV 57 AQ s.p.ca,bV 123 B9 s.p.mi,bV 110 BS s.p.me,bV 59 Aw s.p.dm,bV 68 BP s.p.lk,bV 3 A7 s.p.dr,bV 3 A7 s.p.tg,⟨[.os 4 11 0<|M s.p.cs,.xl .str s.p.os,.xl Al s.p.ks,.xl Ah s.p.gs,.xl Am s.p.bs,.v<|ag J s.p.tk,.v<|.bool s.p.up,.os 5 5 0<|M s.p.ls,.v<|ag J s.p.se,.os 6 1 0<|M s.p.fl,.os 7 2 0<|M s.p.ra,.v<|ag J s.p.nx,.os 8 4 0<|M s.p.st,.os 9 5 0<|M s.p.ca,.os 10 3 0<|M s.p.mi,.os 11 3 0<|M s.p.me,.os 12 4 0<|M s.p.dm,.os 13 6 0<|M s.p.lk,.os 14 1 0<|M s.p.dr,.os 15 1 0<|M s.p.tg,.v<|ag J s.ev.ek,.v<|ag J s.ev.en,.v<|ag J s.ev.em,.v<|ag J s.ev.c1,.v<|ag J s.ev.c2,.v<|ag J s.ev.c3,.v<|ag J s.ev.c4,.v<|ag J s.ev.c5,.v<|.bool s.ev.d1,.v<|ag J s.ev.d2,.v<|ag J s.ev.d3,.v<|ag J s.ev.d4,.v<|.slice aj 0 0],97,.cl,X⟩]
structure YQ where
 res:Y
 p:PK
 ev:EW
def acB (s:YQ):LV:=.v<|ag J s.res
def abW (s:YQ):aWi:=[AP,AP,zB,AP,bV 79 Af s.p.cs,bV 65 AQ s.p.ls,bV 5 (.int aw) s.p.fl,bV 139 Ap s.p.ra,bV 107 B7 s.p.st,bV 57 AQ s.p.ca,bV 123 B9 s.p.mi,bV 110 BS s.p.me,bV 59 Aw s.p.dm,bV 68 BP s.p.lk,bV 3 A7 s.p.dr,bV 3 A7 s.p.tg,⟨[.os 4 11 0<|M s.p.cs,.xl .str s.p.os,.xl Al s.p.ks,.xl Ah s.p.gs,.xl Am s.p.bs,.v<|ag J s.p.tk,.v<|.bool s.p.up,.os 5 5 0<|M s.p.ls,.v<|ag J s.p.se,.os 6 1 0<|M s.p.fl,.os 7 2 0<|M s.p.ra,.v<|ag J s.p.nx,.os 8 4 0<|M s.p.st,.os 9 5 0<|M s.p.ca,.os 10 3 0<|M s.p.mi,.os 11 3 0<|M s.p.me,.os 12 4 0<|M s.p.dm,.os 13 6 0<|M s.p.lk,.os 14 1 0<|M s.p.dr,.os 15 1 0<|M s.p.tg,.v<|ag J s.ev.ek,.v<|ag J s.ev.en,.v<|ag J s.ev.em,.v<|ag J s.ev.c1,.v<|ag J s.ev.c2,.v<|ag J s.ev.c3,.v<|ag J s.ev.c4,.v<|ag J s.ev.c5,.v<|.bool s.ev.d1,.v<|ag J s.ev.d2,.v<|ag J s.ev.d3,.v<|ag J s.ev.d4,.v<|.slice aj 0 0],97,.cl,X⟩]
def iF (s:O3):T YQ:=letI a:=(CY s.p.gs s.p.st s.ev.en (6:Y) (1:Y) (0:Y));.br (!(inB s.ev.en (0:Y)<|AA<|(M s.p.gs:Y)-1)) (.pc s.p<|.ok<|⟨1,s.p,s.ev⟩)<|.pc s.p<|.req (wF (⟨s.ev.en,6,1,0,s.p,s.ev⟩:Li))<|.pa s.p<|.rl a<|.rl s.p.ca<|.rl s.p.mi<|.rl s.p.me<|.rl s.p.dm<|.rl s.p.lk<|.rl s.p.dr<|.rl s.p.tg<|.ok<|⟨sE (AG s.p.gs s.ev.en) (BW s.p.st s.ev.en) (6:Y) (1:Y) (0:Y),{s.p with st:=a},s.ev⟩
def aCV (s:O3):Prop:=M s.p.st=M s.p.gs/\M s.p.gs<=1000
def ia (s:O3):YQ:=⟨PK.Nl s.p s.ev.en,{s.p with st:=if PK.isC s.p s.ev.en=U then CY s.p.gs s.p.st s.ev.en 6 1 0 else s.p.st},s.ev⟩
def aCG:D8 O3 YQ:=⟨UY,ZA,λv b=>⟨rF b,rG b⟩,aCV,[0,1,3],[],acB,abW,ia⟩
abbrev ajy (s:O3):Prop:=aCV s/\UY s=UY s/\ZA s=ZA s
def IU:aWp:=[Tt]
def fq:B1:=IH IU (la 2 func53 KV<|la 9 func30 Cu<|l0 IU) [⟨52,aCk.m,ajN⟩]
def aUz:DS:=CV 53 18 2 (Kr.lp)<|CV 30 0 9 (Gu.lp)<|E5 prog AV IU 20 2
def aqP:Eb prog AV aUz:=DM func53 rfl AU KV<|DM func30 rfl AU Cu<|Hv<|gk IU
def ag3 (s:O3):((Ep prog AV IU aUz fq).k 28 (UY s)<|ZA s).bind (λq=>GM (M<|ZA s) [0] [] .normal (q.1::UY s) q.2)=(iF s).mp (λs2=>⟨.normal,M (UY s)+1,[acB s2],abW s2,U⟩):=AU
def axR (s:O3) (hE:aCV s):(iF s).all (λq=>q=ia s):=by
 obtain ⟨h1,h2⟩:=hE;unfold iF;rw [fP h2];refine ⟨λc=>?_,λc=>?_⟩
 ·have c:s.p.isC s.ev.en=false:=QH
  repeat (refine ⟨AI,?_⟩)
  show _=_
  unfold ia PK.Nl
  simp_all
 ·have c:s.p.isC s.ev.en=true:=QH
  have ci:=BV.1 c
  have ci2:s.ev.en<(M s.p.gs:Y):=A0
  repeat (refine ⟨AI,?_⟩)
  refine ⟨⟨⟨ci.1,ci2,h1⟩,rfl,rfl⟩,?_⟩
  repeat (refine ⟨AI,?_⟩)
  show _=_
  unfold ia PK.Nl
  grind
def ajF:Dj prog AV 28 aCG.m:=D8.sound (D:=aCG) (t:=iF) (gk IU) aqP fq.h ag3 λs hE=>⟨axR s hE⟩
structure O7 where
 p:PK
 ev:EW
def Ud (s:O7):aWf:=[.own 16 0]
def ZF (s:O7):aWi:=[AP,AP,zB,AP,bV 79 Af s.p.cs,bV 65 AQ s.p.ls,bV 5 (.int aw) s.p.fl,bV 139 Ap s.p.ra,bV 107 B7 s.p.st,bV 57 AQ s.p.ca,bV 123 B9 s.p.mi,bV 110 BS s.p.me,bV 59 Aw s.p.dm,bV 68 BP s.p.lk,bV 3 A7 s.p.dr,bV 3 A7 s.p.tg,⟨[.os 4 11 0<|M s.p.cs,.xl .str s.p.os,.xl Al s.p.ks,.xl Ah s.p.gs,.xl Am s.p.bs,.v<|ag J s.p.tk,.v<|.bool s.p.up,.os 5 5 0<|M s.p.ls,.v<|ag J s.p.se,.os 6 1 0<|M s.p.fl,.os 7 2 0<|M s.p.ra,.v<|ag J s.p.nx,.os 8 4 0<|M s.p.st,.os 9 5 0<|M s.p.ca,.os 10 3 0<|M s.p.mi,.os 11 3 0<|M s.p.me,.os 12 4 0<|M s.p.dm,.os 13 6 0<|M s.p.lk,.os 14 1 0<|M s.p.dr,.os 15 1 0<|M s.p.tg,.v<|ag J s.ev.ek,.v<|ag J s.ev.en,.v<|ag J s.ev.em,.v<|ag J s.ev.c1,.v<|ag J s.ev.c2,.v<|ag J s.ev.c3,.v<|ag J s.ev.c4,.v<|ag J s.ev.c5,.v<|.bool s.ev.d1,.v<|ag J s.ev.d2,.v<|ag J s.ev.d3,.v<|ag J s.ev.d4,.v<|.slice aj 0 0],97,.cl,X⟩]
structure YV where
 res:Y
 p:PK
 ev:EW
def acH (s:YV):LV:=.v<|ag J s.res
def abd (s:YV):aWi:=[AP,AP,zB,AP,bV 79 Af s.p.cs,bV 65 AQ s.p.ls,bV 5 (.int aw) s.p.fl,bV 139 Ap s.p.ra,bV 107 B7 s.p.st,bV 57 AQ s.p.ca,bV 123 B9 s.p.mi,bV 110 BS s.p.me,bV 59 Aw s.p.dm,bV 68 BP s.p.lk,bV 3 A7 s.p.dr,bV 3 A7 s.p.tg,⟨[.os 4 11 0<|M s.p.cs,.xl .str s.p.os,.xl Al s.p.ks,.xl Ah s.p.gs,.xl Am s.p.bs,.v<|ag J s.p.tk,.v<|.bool s.p.up,.os 5 5 0<|M s.p.ls,.v<|ag J s.p.se,.os 6 1 0<|M s.p.fl,.os 7 2 0<|M s.p.ra,.v<|ag J s.p.nx,.os 8 4 0<|M s.p.st,.os 9 5 0<|M s.p.ca,.os 10 3 0<|M s.p.mi,.os 11 3 0<|M s.p.me,.os 12 4 0<|M s.p.dm,.os 13 6 0<|M s.p.lk,.os 14 1 0<|M s.p.dr,.os 15 1 0<|M s.p.tg,.v<|ag J s.ev.ek,.v<|ag J s.ev.en,.v<|ag J s.ev.em,.v<|ag J s.ev.c1,.v<|ag J s.ev.c2,.v<|ag J s.ev.c3,.v<|ag J s.ev.c4,.v<|ag J s.ev.c5,.v<|.bool s.ev.d1,.v<|ag J s.ev.d2,.v<|ag J s.ev.d3,.v<|ag J s.ev.d4,.v<|.slice aj 0 0],97,.cl,X⟩]
def il (s:O7):T YV:=letI a:=(CY s.p.gs s.p.st s.ev.en (6:Y) (0:Y) (0:Y));letI b:=(CY s.p.gs a s.ev.en (2:Y) (0:Y) (0:Y));letI c:=(X,((0:Y),((0:Y),(9:Y))));letI d:=M s.p.ca;.br (!(inB s.ev.en (0:Y)<|AA<|(M s.p.gs:Y)-1)) (.pc s.p<|.ok<|⟨1,s.p,s.ev⟩)<|.ik s.ev.en d<|.br (!((s.p.ca.getD s.ev.en.toNat<|Ty.dflt AQ).2.2.1 !=0)) (.pc s.p<|.ok<|⟨4,s.p,s.ev⟩)<|.pc s.p<|.req (wF (⟨s.ev.en,6,0,0,s.p,s.ev⟩:Li))<|.pa s.p<|.rl a<|.rl s.p.ca<|.rl s.p.mi<|.rl s.p.me<|.rl s.p.dm<|.rl s.p.lk<|.rl s.p.dr<|.rl s.p.tg<|.req (wF (⟨s.ev.en,2,0,0,{s.p with st:=a},s.ev⟩:Li))<|.ik s.ev.en d<|.ik s.ev.en (M s.p.mi)<|.ik s.ev.en (M s.p.dm)<|.pa s.p<|.rl b<|.re d (s.p.ca.set s.ev.en.toNat ((0:Y),((0:Y),((0:Y),((0:Y),(0:Y))))))<|.re (M s.p.mi) (s.p.mi.set s.ev.en.toNat (([]:aWd),((0:Y),(0:Y))))<|.rl s.p.me<|.re (M s.p.dm) (s.p.dm.set s.ev.en.toNat c)<|.rl s.p.lk<|.rl s.p.dr<|.rl s.p.tg<|.ok<|⟨0,{s.p with st:=b,ca:=s.p.ca.set s.ev.en.toNat ((0:Y),((0:Y),((0:Y),((0:Y),(0:Y))))),mi:=s.p.mi.set s.ev.en.toNat (([]:aWd),((0:Y),(0:Y))),dm:=s.p.dm.set s.ev.en.toNat c},s.ev⟩
def aCb (s:O7):Prop:=M s.p.st=M s.p.gs/\M s.p.gs<=1000/\M s.p.ca=M s.p.gs/\M s.p.mi=M s.p.gs/\M s.p.dm=M s.p.gs
def XX (s:O7):YV:=⟨PK.JB s.p s.ev.en,JW (PK.JB s.p s.ev.en) (PK.Qt s.p s.ev.en) s.p,s.ev⟩
def aCL:D8 O7 YV:=⟨Ud,ZF,λv b=>⟨rF b,rG b⟩,aCb,[0,1,3],[],acH,abd,XX⟩
abbrev ak3 (s:O7):Prop:=aCb s/\Ud s=Ud s/\ZF s=ZF s
def aV5:DS:=CV 53 18 2 (Kr.lp)<|CV 30 0 9 (Gu.lp)<|E5 prog AV IU 20 2
def aqU:Eb prog AV aV5:=DM func53 rfl AU KV<|DM func30 rfl AU Cu<|Hv<|gk IU
def ag8 (s:O7):((Ep prog AV IU aV5 fq).k 24 (Ud s)<|ZF s).bind (λq=>GM (M<|ZF s) [0] [] .normal (q.1::Ud s) q.2)=(il s).mp (λs2=>⟨.normal,M (Ud s)+1,[acH s2],abd s2,U⟩):=AU
def axa (s:O7) (hE:aCb s):(il s).all (λq=>q=XX s):=by
 obtain ⟨h1,h2,h3,h4,h5⟩:=hE;unfold il;rw [fP h2];refine ⟨λc=>?_,λc=>?_⟩
 ·have c:s.p.isC s.ev.en=false:=QH
  have he:s.p.JB s.ev.en=1:=AD c
  repeat (refine ⟨AI,?_⟩)
  show _=_
  unfold XX;rw [Jn MC];rw [he]
 ·have c:s.p.isC s.ev.en=true:=QH
  have ci:=BV.1 c
  have ci2:s.ev.en<(M s.p.gs:Y):=A0
  have hc:¬s.p.isC s.ev.en=false:=VY
  refine ⟨A0,A0,λc2=>?_,λc2=>?_⟩
  ·have c2:(Be s.p.ca s.ev.en).2.2.1=0:=by simp only [D2,bne_eq_false_iff_eq] at c2;exact c2
   have he:s.p.JB s.ev.en=4:=by unfold PK.JB;rw [AE hc,AD c2]
   repeat (refine ⟨AI,?_⟩)
   show _=_
   unfold XX;rw [Jn MC];rw [he]
  ·have c2:¬(Be s.p.ca s.ev.en).2.2.1=0:=by simp only [IK,Dv] at c2;exact c2
   have he:s.p.JB s.ev.en=0:=by unfold PK.JB;rw [AE hc,AE c2]
   have hg:M (CY s.p.gs s.p.st s.ev.en 6 0 0)=M s.p.gs:=by rw [J7];exact h1
   repeat (refine ⟨AI,?_⟩)
   refine ⟨⟨⟨ci.1,ci2,h1⟩,rfl,rfl⟩,?_⟩
   repeat (refine ⟨A0,?_⟩)
   refine ⟨⟨⟨ci.1,ci2,hg⟩,rfl,rfl⟩,?_⟩
   repeat (refine ⟨A8,?_⟩)
   show _=_
   unfold XX;rw [LW he];rw [he];rfl
def ajK:Dj prog AV 24 aCL.m:=D8.sound (D:=aCL) (t:=il) (gk IU) aqU fq.h ag8 λs hE=>⟨axa s hE⟩
structure O6 where
 p:PK
 ev:EW
def Uc (s:O6):aWf:=[.own 16 0]
def ZE (s:O6):aWi:=[AP,AP,zB,AP,bV 79 Af s.p.cs,bV 65 AQ s.p.ls,bV 5 (.int aw) s.p.fl,bV 139 Ap s.p.ra,bV 107 B7 s.p.st,bV 57 AQ s.p.ca,bV 123 B9 s.p.mi,bV 110 BS s.p.me,bV 59 Aw s.p.dm,bV 68 BP s.p.lk,bV 3 A7 s.p.dr,bV 3 A7 s.p.tg,⟨[.os 4 11 0<|M s.p.cs,.xl .str s.p.os,.xl Al s.p.ks,.xl Ah s.p.gs,.xl Am s.p.bs,.v<|ag J s.p.tk,.v<|.bool s.p.up,.os 5 5 0<|M s.p.ls,.v<|ag J s.p.se,.os 6 1 0<|M s.p.fl,.os 7 2 0<|M s.p.ra,.v<|ag J s.p.nx,.os 8 4 0<|M s.p.st,.os 9 5 0<|M s.p.ca,.os 10 3 0<|M s.p.mi,.os 11 3 0<|M s.p.me,.os 12 4 0<|M s.p.dm,.os 13 6 0<|M s.p.lk,.os 14 1 0<|M s.p.dr,.os 15 1 0<|M s.p.tg,.v<|ag J s.ev.ek,.v<|ag J s.ev.en,.v<|ag J s.ev.em,.v<|ag J s.ev.c1,.v<|ag J s.ev.c2,.v<|ag J s.ev.c3,.v<|ag J s.ev.c4,.v<|ag J s.ev.c5,.v<|.bool s.ev.d1,.v<|ag J s.ev.d2,.v<|ag J s.ev.d3,.v<|ag J s.ev.d4,.v<|.slice aj 0 0],97,.cl,X⟩]
structure YU where
 res:Y
 p:PK
 ev:EW
def acG (s:YU):LV:=.v<|ag J s.res
def abb (s:YU):aWi:=[AP,AP,zB,AP,bV 79 Af s.p.cs,bV 65 AQ s.p.ls,bV 5 (.int aw) s.p.fl,bV 139 Ap s.p.ra,bV 107 B7 s.p.st,bV 57 AQ s.p.ca,bV 123 B9 s.p.mi,bV 110 BS s.p.me,bV 59 Aw s.p.dm,AP,bV 3 A7 s.p.dr,bV 3 A7 s.p.tg,⟨[.os 4 11 0<|M s.p.cs,.xl .str s.p.os,.xl Al s.p.ks,.xl Ah s.p.gs,.xl Am s.p.bs,.v<|ag J s.p.tk,.v<|.bool s.p.up,.os 5 5 0<|M s.p.ls,.v<|ag J s.p.se,.os 6 1 0<|M s.p.fl,.os 7 2 0<|M s.p.ra,.v<|ag J s.p.nx,.os 8 4 0<|M s.p.st,.os 9 5 0<|M s.p.ca,.os 10 3 0<|M s.p.mi,.os 11 3 0<|M s.p.me,.os 12 4 0<|M s.p.dm,.xl BP s.p.lk,.os 14 1 0<|M s.p.dr,.os 15 1 0<|M s.p.tg,.v<|ag J s.ev.ek,.v<|ag J s.ev.en,.v<|ag J s.ev.em,.v<|ag J s.ev.c1,.v<|ag J s.ev.c2,.v<|ag J s.ev.c3,.v<|ag J s.ev.c4,.v<|ag J s.ev.c5,.v<|.bool s.ev.d1,.v<|ag J s.ev.d2,.v<|ag J s.ev.d3,.v<|ag J s.ev.d4,.v<|.slice aj 0 0],97,.cl,X⟩]
def iJ (s:O6):T YU:=letI b:=((M s.p.lk:aWe):Y);letI a:=(aE9 (⟨b,0,s.p,s.ev,([]:aWN)⟩:MZ));.br (!(inB s.ev.en (0:Y)<|AA<|(M s.p.gs:Y)-1)) (.rz s.p.lk<|.pa s.p<|.rl s.p.st<|.rl s.p.ca<|.rl s.p.mi<|.rl s.p.me<|.rl s.p.dm<|.rl s.p.dr<|.rl s.p.tg<|.ok<|⟨1,{s.p with lk:=(s.p.lk.drop 0).take<|M s.p.lk},s.ev⟩)<|.r0 Lk<|.rl s.p.lk<|.pc s.p<|.req (Kr.q (⟨b,0,s.p,s.ev,([]:aWN)⟩:MZ))<|.rz a.left<|.pa s.p<|.rl s.p.st<|.rl s.p.ca<|.rl s.p.mi<|.rl s.p.me<|.rl s.p.dm<|.rl s.p.dr<|.rl s.p.tg<|.ok<|⟨0,{s.p with lk:=(a.left.drop 0).take<|M a.left},s.ev⟩
def aCZ (s:O6):Prop:=M s.p.gs<=1000/\M s.p.lk<=20000000
def ib (s:O6):YU:=⟨PK.Nn s.p s.ev.en,JW (PK.Nn s.p s.ev.en) (PK.jJ s.p s.ev.en) s.p,s.ev⟩
def aCK:D8 O6 YU:=⟨Uc,ZE,λv b=>⟨rF b,rG b⟩,aCZ,[0,1,3],[.pc 16 17 BP,.kb 13],acG,abb,ib⟩
abbrev ak2 (s:O6):Prop:=aCZ s/\Uc s=Uc s/\ZE s=ZE s
def aTO:B1:=kI IU<|la 2 func53 KV<|la 9 func30 Cu<|l0 IU
def aV4:DS:=CV 53 18 2 (Kr.lp)<|CV 30 0 9 (Gu.lp)<|E5 prog AV IU 20 2
def aqT:Eb prog AV aV4:=DM func53 rfl AU KV<|DM func30 rfl AU Cu<|Hv<|gk IU
def ag7 (s:O6):((Ep prog AV IU aV4 aTO).k 25 (Uc s)<|ZE s).bind (λq=>GM (M<|ZE s) [0] [.pc 16 17 BP,.kb 13] .normal (q.1::Uc s) q.2)=(iJ s).mp (λs2=>⟨.normal,M (Uc s)+1,[acG s2],abb s2,U⟩):=AU
def axX (s:O6) (hE:aCZ s):(iJ s).all (λq=>q=ib s):=by
 obtain ⟨h1,h2⟩:=hE;unfold iJ;rw [fP h1];refine ⟨λc=>⟨A0,?_⟩,λc=>?_⟩
 ·have c:s.p.isC s.ev.en=false:=QH
  have he:s.p.Nn s.ev.en=1:=AD c
  rw [TN]
  repeat (refine ⟨AI,?_⟩)
  show _=_
  unfold ib;rw [Jn A8];rw [he]
 ·have c:s.p.isC s.ev.en=true:=QH
  have he:s.p.Nn s.ev.en=0:=AE A8
  have hV:k9 (⟨((M s.p.lk:aWe):Y),(0:Y),s.p,s.ev,([]:aWN)⟩:MZ):=⟨rfl,rfl,A8,A8⟩
  have q:=(auJ _ hV).2
  rw [TN,q]
  repeat (refine ⟨AI,?_⟩)
  refine ⟨⟨hV,rfl,rfl⟩,?_⟩
  repeat (refine ⟨AI,?_⟩)
  unfold ib;rw [he];rfl
def ajJ:Dj prog AV 25 aCK.m:=D8.sound (D:=aCK) (t:=iJ) (gk IU) aqT aTO.h ag7 λs hE=>⟨axX s hE⟩
open Go.RowKit Go.Extern.Stop Go.Stop Go.Extern Go Go.Sx
def auv (v:aWx) (w:aWq):(Extern.ReflectliteType.typeOf #[.iface 51 v]).run prog w=.ok (.iface 345<|.agg #[.pointer<|ah ⟨3,51,aj⟩]) w:=AU
def aLp:aWz->Sem Value:=Extern.ReflectliteType.method λt=>do Extern.Rtype.noPackHeld "Comparable" t;pure<|.bool (←typeInfo t).comparable
def aeI (w:aWq):(aLp #[.agg #[.pointer<|ah ⟨3,51,aj⟩]]).run prog w=.ok (.bool U) w:=AU
def auL (v:aWx) (w:aWq):(Go.method 486 345 v "Comparable").run prog w=.ok (254,v) w:=AU
def an9 (v:aWx) (xT:aWu) (w:aWq):(Instr.typeAssert (.iface 51 v) xT 347 U).run prog w=.ok (.tuple #[.nilIface,.bool X]) w:=xB Tryz.underlying347 AU AU v xT w
def afP (v:aWx) (xT:aWu) (w:aWq):(Instr.typeAssert (.iface 51 v) xT 350 U).run prog w=.ok (.tuple #[.nilIface,.bool X]) w:=xB Tryz.underlying350 AU AU v xT w
def af4 (v:aWx) (xT:aWu) (w:aWq):(Instr.typeAssert (.iface 51 v) xT 352 U).run prog w=.ok (.tuple #[.nilIface,.bool X]) w:=xB Tryz.underlying352 AU AU v xT w
def afO (n m:Y) (w:aWq):Calls prog 220 #[.iface 51<|ag J n,.iface 51<|ag J m] w λe w'=>e=.returned (.bool<|n==m)/\w'=w:=by
 have hu:=Tryz.underlying338
 have h8:=@run_callFunc_extern prog 228 _ Extern.ReflectliteType.typeOf func228 AU AU AU AU
 have h32:=@run_callFunc_extern prog 254 _ aLp func254 AU AU AU AU
 have tT:=auv
 have cT:=aeI
 have mR:=auL
 have nE:=an9
 have uE:=afP
 have vE:=af4
 have heq:=Go.Lib.run_eql_iface_int (P:=prog) w (k:=J) n m hu (by kernel_rfl:(prog.info? 51).map (·.comparable)=ah U) (by kernel_rfl:prog.underlying 51=ah (.int J))
 by_cases e:n=m
 ·subst e
  simp only [OS] at heq|-;exact aNE
 ·have e':(n==m)=false:=yj
  simp only [e'] at heq|-;exact aNE
def acT:aWf->T LV
 | [.v (.iface 51 (ag J n)),.v (.iface 51 (ag J m))]=> .ok (.v<|.bool<|n==m)
 |_=> .no
def iN:VV 220 acT:=λargs vals w Z lv hz hg hok hr h=>by
 unfold acT at h;split at h
 ·rename_i n m
  subst h;simp only [RL,R] at hr
  have e2:vals=#[.iface 51<|ag J n,.iface 51<|ag J m]:=by
   grind
  rw [e2];refine (afO n m w).mono λe w' ⟨he,hw⟩=>?_
  subst hw;exact ⟨Below.refl _ _,_,he,ak,Ji⟩
 ·cases h
def aUN:aWf->T LV
 | [.agg [.v (ag J se),.xl (.int aw) fl]]=> .ok (Hg se fl)
 |_=> .no
def gu:aWp:=[]
def Xc:=vo (S:=aUN) func128 gu kN (λargs lv h=>by
 unfold aUN at h;split at h
 ·rename_i se fl
  refine Aq (letI a:=(M fl:Y);.br (an<|se>=1) (.br (an<|se<=512) (.br (an<|a>=se) (.br (an<|a<=4096) (.req (se≠0)<|.ok<|.v<|.bool<|(a.tmod se)==0)<|.ok X)<|.ok X)<|.ok X)<|.ok X) ?_;obtain rfl:=h;unfold Hg;refine ⟨λc1=>⟨λc2=>⟨λc3=>⟨λc4=>⟨?_,?_⟩,λc4=>?_⟩,λc3=>?_⟩,λc2=>?_⟩,λc1=>?_⟩
  ·grind
  all_goals refine B3 (λz=>LV.v<|.bool z) ?_
  all_goals first|(simp_all;done) |(simp_all;intros;omega) |(simp_all;omega)
 ·cases h)
def aUG:aWf->T LV
 | [.agg [.v (ag J se),.xl (.int aw) fl]]=> .ok (FD se fl)
 |_=> .no
def aiO:aWp:=[Xc]
def zW:=vo (S:=aUG) func89 aiO kN (λargs lv h=>by
 unfold aUG at h;split at h
 ·rename_i se fl
  refine Aq (.br (Hg se fl) (.req (se≠0)<|.req ((2:Y)≠0)<|.ok<|.v<|.bool<|(((AA<|(M fl:Y).tdiv se).tmod 2)==0)&&(an<|(M fl:Y)>=32))<|.ok X) ?_;obtain rfl:=h;unfold FD;refine ⟨λc1=>?_,λc1=>?_⟩
  ·have hv:=NU.1 c1
   refine ⟨A0,Ab,?_⟩;refine B3 (λz=>LV.v<|.bool z) ?_
   rw [c1,AJ (x:=(M fl:Y).tdiv se) (by rw [IL A0];exact Hl Ab<|Sf A0 A0) (by rw [IL A0];exact Hl (VF _ A0) A0)]
   rfl
  ·refine B3 (λz=>LV.v<|.bool z) ?_
   rw [c1];rfl
 ·cases h)
def aUM:aWf->T LV
 | [.v (ag ax n)]=> .ok (.xl (.int aw)<|D6 n)
 |_=> .no
def akh:=vo (S:=aUM) func199 gu kN (λargs lv h=>by
 unfold aUM at h;split at h
 ·rename_i n
  refine Aq (.ok<|.xl (.int aw)<|[(IntKind.u8.wrap<|n.fdiv<|2^24),(IntKind.u8.wrap<|n.fdiv<|2^16),(IntKind.u8.wrap<|n.fdiv<|2^8),(IntKind.u8.wrap n)]) ?_;exact h
 ·cases h)
def aUw:aWf->T LV
 | [.xl (.int aw) b]=> .req (4<=M b) (.ok<|.v<|ag ax<|H7 b)
 |_=> .no
def zT:=vo (S:=aUw) func92 gu kN (λargs lv h=>by
 unfold aUw at h;split at h
 ·rename_i b
  refine Aq (letI a:=(M b:Y);.req (0<=(0:Y)/\0<a)<|.req (0<=(1:Y)/\1<a)<|.req (0<=(2:Y)/\2<a)<|.req (0<=(3:Y)/\3<a)<|.ok<|.v<|ag ax<|DY ax (DY ax (DY ax (IntKind.u32.wrap<|(IntKind.u32.wrap<|gi b (0:Y))*2^24)<|IntKind.u32.wrap<|(IntKind.u32.wrap<|gi b (1:Y))*2^16)<|IntKind.u32.wrap<|(IntKind.u32.wrap<|gi b (2:Y))*2^8)<|IntKind.u32.wrap<|gi b (3:Y)) ?_;obtain ⟨h0,rfl⟩:=h;exact ⟨⟨A0,A0⟩,⟨A0,A0⟩,⟨A0,A0⟩,⟨A0,A0⟩,rfl⟩
 ·cases h)
def aU6:aWf->T LV
 | [.agg [.v (ag J se),.xl (.int aw) fl],.v (ag J w)]=> .req ((w=0\/w=1)/\M fl<=4096) (.ok<|.xl (.int aw)<|Bn fl w)
 |_=> .no
def zZ:=vo (S:=aU6) func91 gu kN (λargs lv h=>by
 unfold aU6 at h;split at h
 ·rename_i se fl w
  refine Aq (letI a:=(AA<|(M fl:Y).tdiv 2);letI b:=AA<|(AA<|w+1)*a;letI c:=AA<|w*a;.req ((2:Y)≠0)<|.req (0<=c/\c<=b/\b<=(M fl:Y)/\b=b)<|.ok<|.xl (.int aw)<|(fl.drop c.toNat).take<|b.toNat-c.toNat) ?_;obtain ⟨⟨h0,h1⟩,rfl⟩:=h
  have e1:(M fl:Y).tdiv 2=((M fl / 2:aWe):Y):=AI
  have e2:AA ((M fl / 2:aWe):Y)=((M fl / 2:aWe):Y):=AJ
  rw [e1,e2];rcases h0 with rfl|rfl
  ·rw [Int.zero_mul,show (0:Y)+1=1 from rfl,show AA 0=0 from rfl,show AA 1=1 from rfl,aC,e2]
   refine ⟨Ab,⟨A0,A0,A0,rfl⟩,?_⟩;refine B3 (LV.xl<|.int aw) ?_;rfl
  ·rw [aC,show (1:Y)+1=2 from rfl,show AA 2=2 from rfl,e2,AJ (x:=2*((M fl / 2:aWe):Y))]
   refine ⟨Ab,⟨A0,A0,A0,rfl⟩,?_⟩;refine B3 (LV.xl<|.int aw) ?_
   congr 1
   omega
 ·cases h)
def aUU:aWf->T LV
 | [.agg [.v (ag J se),.xl (.int aw) fl]]=> .req (FD se fl=U) (.tu #[Au fl,I2 fl])
 |_=> .no
def aiN:aWp:=[zZ,zT]
def aa2 := vo (S:=aUU) func90 aiN kN (λargs lv h=>by
 unfold aUU at h;split at h
 ·rename_i se fl
  refine Aq (letI d:=(Bn fl (0:Y));letI f:=(Bn fl (1:Y));letI b:=((f.drop (1:Y).toNat).take<|(5:Y).toNat-(1:Y).toNat);letI c:=((d.drop (1:Y).toNat).take<|(5:Y).toNat-(1:Y).toNat);.req (((0:Y)=0\/(0:Y)=1)/\M fl<=4096)<|.req (((1:Y)=0\/(1:Y)=1)/\M fl<=4096)<|.req (0<=(0:Y)/\0<(M d:Y))<|.req (0<=(0:Y)/\0<(M f:Y))<|.br (((gi d (0:Y))==80)&&((gi f (0:Y))==80)) (.req (0<=(1:Y)/\(1:Y)<=(5:Y)/\(5:Y)<=(M f:Y))<|.req (4<=M b)<|.req (0<=(1:Y)/\(1:Y)<=(5:Y)/\(5:Y)<=(M d:Y))<|.req (4<=M c)<|.br (an<|(H7 b)>(H7 c)) (.tu #[(1:Y),(0:Y)])<|.tu #[(0:Y),(0:Y)])<|.br ((gi d (0:Y))==80) (.tu #[(0:Y),(0:Y)])<|.br ((gi f (0:Y))==80) (.tu #[(1:Y),(0:Y)])<|.tu #[(0:Y),(4:Y)]) ?_;obtain ⟨h0,rfl⟩:=h;obtain ⟨_,_,h32,hl,_⟩:=MQ.1 h0
  have l0:=cu fl 0
  have l1:=cu fl 1
  have fin:∀a e:Y,a=Au fl->e=I2 fl->LV.v (.tuple #[ag J a,ag J e])=LV.v (.tuple #[ag J<|Au fl,ag J<|I2 fl]):=λa e h1 h2=>zG
  have ew:∀w,H7 (((Bn fl w).drop (1:Y).toNat).take<|(5:Y).toNat-(1:Y).toNat)=JM fl w:=λw=>rfl
  simp only [ew];refine ⟨?_,?_⟩
  ·first|exact ⟨Ab,hl⟩ |omega|decide|(refine ⟨?_,?_⟩<;>omega) |(simp only [MA,FO];omega) |(refine ⟨Ab,Ab,?_⟩;omega)
  ·refine ⟨?_,?_⟩
   ·grind
   ·refine ⟨?_,?_⟩
    ·omega
    ·refine ⟨?_,?_⟩
     ·omega
     ·refine ⟨λc1=>?_,λc1=>?_⟩
      ·refine ⟨?_,?_⟩
       ·omega
       ·refine ⟨?_,?_⟩
        ·grind
        ·refine ⟨?_,?_⟩
         ·omega
         ·refine ⟨?_,?_⟩
          ·grind
          ·refine ⟨λc2=>?_,λc2=>?_⟩
           ·refine fin _ _ ?_ ?_<;>simp_all [Au,I2]
           ·refine fin _ _ ?_ ?_<;>simp_all [Au,I2]
      ·refine ⟨λc2=>?_,λc2=>?_⟩
       ·refine fin _ _ ?_ ?_<;>simp_all [Au,I2]
       ·refine ⟨λc3=>?_,λc3=>?_⟩
        ·refine fin _ _ ?_ ?_<;>simp_all [Au,I2]
        ·refine fin _ _ ?_ ?_<;>simp_all [Au,I2]
 ·cases h)
structure Mg where
 x:Y
 t8:aWk
 (t9 t10:Y)
 l:aWd
 (n i:Y)
def aHT:=lN (bN f130 0) 0
def zn (s:Mg):T (Rd Mg):=
 .br (an<|s.i<s.n) (.ix s.i (M s.l)<|.nx {s with x:=IntKind.u32.wrap<|(aLK ax s.x<|IntKind.u32.wrap<|gi s.l s.i)*16777619,i:=AA<|s.i+1}) (.so (.exit 2) s)
def kB (s:Mg):Prop:=s.i=0/\s.n<=70000/\s.n=(M s.l:Y)
def jZ (s:Mg):Prop:=0<=s.i/\s.i<=s.n/\s.n<=70000/\s.n=(M s.l:Y)
def tY (s:Mg):aWe:=(s.n-s.i).toNat
def abq (x:Ex) (s s':Mg):Prop:=True
def amr:∀s,kB s->jZ s:=by
 exact mH
def ahc:Da jZ tY abq zn:=by
 intro s hI;obtain ⟨h0,h1,h2,h3⟩:=hI;refine AH (λc1=>?_) λc1=>?_
 ·have c1:s.i<s.n:=A8
  rw [AJ (x:=s.i+1)];exact ⟨⟨A8,A8,h2,h3⟩,by simp only [tY];omega⟩
 ·trivial
def Rb:AS Mg:=⟨0,28,[3,8,9,10,14,15,16],[],λs=>[.v<|ag ax s.x,.xl (.sl<|.int aw) s.t8,s.t9,s.t10,.xl (.int aw) s.l,s.n,s.i],λ_=>[],λv b=>⟨AK v 0,Az (.sl<|.int aw) v 1,AK v 2,AK v 3,Az (.int aw) v 4,AK v 5,AK v 6⟩,zn,λs r=> {s with x:=r.x,i:=r.i},λs=>s,λ_ s=>s,[.exit 2],kB,jZ,tY⟩
abbrev aHs:=Rb.run
abbrev avL:=Rb.As
def azg:Rq jZ zn:=by
 intro s hI;refine ⟨λc1=>⟨?_,ak⟩,λ_=>trivial⟩
 ·(obtain ⟨h0,h1,h2,h3⟩:=hI;simp only [Aa] at c1;omega)
def gr:aWp:=[]
def aSZ:Rb.Ok:={}
def aQL:Rb.Pf (abq):=⟨amr,λs h=>rfl,ahc,azg⟩
def arT:SA 0 aHT Rb:=s1 aSZ aQL gr kN
def ati:Rs kB avL aHs (λs:Mg=>SB s.x<|s.l.drop s.i.toNat) (λx s' (v:Y)=>x=.exit 2/\s'.x=v):=DU aSZ aQL (λs hI=>by
  obtain ⟨h0,h1,h2,h3⟩:=hI;refine AH (λc1=>?_) λc1=>?_
  ·have c1:s.i<s.n:=A8
   rw [AJ (x:=s.i+1)];rw [(gi_step h0 A0).1];rfl
  ·have c1:s.n<=s.i:=A8
   refine ⟨rfl,?_⟩;rw [F6 A0];rfl)
structure Mh where
 x:Y
 l:aWk
 (n i:Y)
def qk:=bN f130 0
def zo (s:Mh):T (Rd Mh):=
 .br (an<|s.i<s.n) (.ix s.i (M s.l)<|.req (Rb.q (⟨s.x,s.l,s.n,s.i,gx (e:=.sl<|.int aw) s.l s.i,(M (gx (e:=.sl<|.int aw) s.l s.i):Y),0⟩:Mg))<|.nx {s with x:=(aHs (⟨s.x,s.l,s.n,s.i,gx (e:=.sl<|.int aw) s.l s.i,(M (gx (e:=.sl<|.int aw) s.l s.i):Y),0⟩:Mg)).x,i:=AA<|s.i+1}) (.so (.exit 0) s)
def I8 (l:aWk):Prop:=∀p∈l,M p<=70000
def Wo {l:aWk}(h:I8 l) {i:Y}(h0:0<=i) (h1:i<(M l:Y)):M (gx (e:=.sl<|.int aw) l i)<=70000:=by
 have:gx (e:=.sl<|.int aw) l i=l[i.toNat]' A0:=Lc A0
 rw [this];exact h _<|GZ _
def kC (s:Mh):Prop:=s.i=0/\s.n<=1000/\s.n=(M s.l:Y)/\I8 s.l
def Xq (s:Mh):Prop:=0<=s.i/\s.i<=s.n/\s.n<=1000/\s.n=(M s.l:Y)/\I8 s.l
def tZ (s:Mh):aWe:=(s.n-s.i).toNat
def abr (x:Ex) (s s':Mh):Prop:=True
def ams:∀s,kC s->Xq s:=by
 exact aI
def aSk (s:Mh) (hI:Xq s) (c1:s.i<s.n):kB (⟨s.x,s.l,s.n,s.i,(gx (e:=.sl<|.int aw) s.l s.i),(M (gx (e:=.sl<|.int aw) s.l s.i):Y),(0:Y)⟩:Mg):=by
 obtain ⟨h0,h1,h2,h3,h4⟩:=hI
 have:=Wo h4 h0 A0
 refine ⟨rfl,?_,rfl⟩
 show (M (gx (e:=.sl<|.int aw) s.l s.i):Y)<=70000
 omega
def ahd:Da Xq tZ abr zo:=by
 intro s hI;obtain ⟨h0,h1,h2,h3,h4⟩:=hI;refine AH (λc1=>?_) λc1=>trivial
 have c1:s.i<s.n:=A8
 rw [AJ (x:=s.i+1)];exact ⟨⟨A8,A8,h2,h3,h4⟩,by simp only [tZ];omega⟩
def Rc:AS Mh:=⟨0,28,[3,8,9,10],[],λs=>[.v<|ag ax s.x,.xl (.sl<|.int aw) s.l,s.n,s.i],λ_=>[],λv b=>⟨AK v 0,Az (.sl<|.int aw) v 1,AK v 2,AK v 3⟩,zo,λs r=> {r with l:=s.l,n:=s.n},λs=>s,λ_ s=>s,[.exit 0],kC,Xq,tZ⟩
abbrev aHt:=Rc.run
abbrev avM:=Rc.As
def azh:Rq Xq zo:=by
 intro s hI;refine ⟨λc1=>⟨?_,?_,ak⟩,λ_=>trivial⟩
 ·exact aNz
 ·exact ⟨aSk s hI A8,rfl,rfl⟩
def aSa:Rc.Ok:={}
def aQM:Rc.Pf (abr):=⟨ams,λs h=>rfl,ahd,azh⟩
def arU:SA 0 qk Rc:=AS.snd aSa aQM (ov (Γ:=gr) (K:=G9) (L:=(λi=>if i=6 then Rb.lp else Ak i)) (gk gr) kN.h qk (λb hb=>by
 rw [show BD _=[aHT] by kernel_rfl] at hb
 simp only [BA,Bu,Bs] at hb;subst hb;exact arT)) λs=>AU
def Wa {l:aWk}{i:Y}(h0:0<=i) (h:i<(M l:Y)):l.drop i.toNat=gx (e:=.sl<|.int aw) l i::l.drop (i+1).toNat:=(Qf h0 h).1
def atj:Rs kC avM aHt (λs:Mh=>(s.l.drop s.i.toNat).foldl SB s.x) (λx s' (v:Y)=>x=.exit 0/\s'.x=v):=DU aSa aQM (λs hI=>by
  have hin:=λc1=>aSk s hI c1
  obtain ⟨h0,h1,h2,h3,h4⟩:=hI;refine AH (λc1=>?_) λc1=>?_
  ·have c1:s.i<s.n:=A8
   rw [AJ (x:=s.i+1)]
   have hr:=(ati _<|hin c1).2
   rw [hr,Wa h0 A0];rfl
  ·have c1:s.n<=s.i:=A8
   refine ⟨rfl,?_⟩;rw [F6 A0];rfl)
def aUX:aWf->T LV
 | [.xl (.sl (.int aw)) ps]=> .req (M ps<=1000/\I8 ps) (.ok<|.v<|ag ax<|P8 ps)
 |_=> .no
def zY:=vm (S:=aUX) func130 gr kN (L:=(λi=>if i=3 then Rc.lp else Ak i)) (λb hb=>by
 rw [show BD _=[qk] by kernel_rfl] at hb
 simp only [BA,Bu,Bs] at hb;subst hb;exact arU) (λargs lv h=>by
 unfold aUX at h;split at h
 ·rename_i ps
  refine Aq (.req (Rc.q (⟨2166136261,ps,(M ps:Y),0⟩:Mh))<|.ok<|.v<|ag ax (aHt (⟨2166136261,ps,(M ps:Y),0⟩:Mh)).x) ?_;obtain ⟨⟨h0,h1⟩,rfl⟩:=h
  have hE:kC ⟨2166136261,ps,(M ps:Y),0⟩:=⟨rfl,AZ,rfl,h1⟩
  obtain ⟨q1,q2⟩:=atj _ hE;refine ⟨⟨hE,rfl,rfl⟩,?_⟩;refine B3 (λz=>LV.v<|ag ax z) ?_
  exact q2
 ·cases h)
def aia:aWf->T LV:=λ_=> .no
def aPn:VV 1000034 aia:=by
 exact yF
def aUr:aWf->T LV
 | [.xl (.int aw) d]=> .req (M d<=70000) (.ok<|.xl (.int aw)<|Bw d)
 |_=> .no
def aiM:aWp:=[zY,akh,aPn]
def zS:=vo (S:=aUr) func192 aiM kN (λargs lv h=>by
 unfold aUr at h;split at h
 ·rename_i d
  refine Aq (letI a:=(IntKind.u8.wrap<|(M d:Y).fdiv<|2^8);letI b:=(IntKind.u8.wrap (M d:Y));letI c:=(D6<|P8<|[(([a,b]).drop 0).take 2,d]);.req (0+2<=M ([a,b]))<|.ra 1 (M<|[(80:Y)]) (1+M ((([a,b]).drop 0).take 2)) 1<|.req (0+2<=M ([a,b]))<|.req (M ([(([a,b]).drop 0).take 2,d])<=1000/\I8 ([(([a,b]).drop 0).take 2,d]))<|.ra (1+M ((([a,b]).drop 0).take 2)) (M<|([(80:Y)])++((([a,b]).drop 0).take 2)) (1+M ((([a,b]).drop 0).take 2)+M c) 1<|.ra (1+M ((([a,b]).drop 0).take 2)+M c) (M<|(([(80:Y)])++((([a,b]).drop 0).take 2))++c) (1+M ((([a,b]).drop 0).take 2)+M c+M d) 1<|.req (0+(1+M ((([a,b]).drop 0).take 2)+M c+M d)<=M (((([(80:Y)])++((([a,b]).drop 0).take 2))++c)++d))<|.ok<|.xl (.int aw)<|((((([(80:Y)])++((([a,b]).drop 0).take 2))++c)++d).drop 0).take<|1+M ((([a,b]).drop 0).take 2)+M c+M d) ?_;obtain ⟨h0,rfl⟩:=h
  have e:(([(IntKind.u8.wrap<|(M d:Y).fdiv<|2^8),(IntKind.u8.wrap (M d:Y))].drop 0).take 2)=KA d:=rfl
  have e2:M (KA d)=2:=rfl
  have e4:∀n,M (D6 n)=4:=λ_=>rfl
  simp only [e]
  have hk:I8 [KA d,d]:=by
   intro p hp;simp only [BA,Bu,Bs] at hp;rcases hp with rfl|rfl
   ·rw [e2];omega
   ·exact h0
  iterate 7 refine ⟨A8,?_⟩
  refine B3 (LV.xl<|.int aw) ?_;rw [De A8];rfl
 ·cases h)
def aFh {b:aWd}:∀ {n m f:aWe},M b<=n+f->M b<=m+f->HX b n f=HX b m f
 |0,0,_,_,_=>rfl
 |0,m+1,f,h,_=>aOT
 |n+1,0,f,_,h=>aOT
 |n+1,m+1,f,h1,h2=>by
  simp only [HX];rw [aFh (n:=n) (m:=m) (f:=f+7+G6 b f) A0 A0]
def Ja (b:aWd) (f:aWe):List (List Int)×Nat×Bool:=HX b (M b) f
def Wn (b:aWd) (f:aWe):Ja b f=if f<M b/\gi b (f:Y)=80 then (if rcG b f then (HS b f::(Ja b<|f+7+G6 b f).1,(Ja b<|f+7+G6 b f).2) else ([],f,X)) else ([],f,U):=by
 unfold Ja;rw [aFh (n:=M b) (m:=M b+1) (f:=f) A0 A0];rfl
def aAe:Array Tmp×Code×Code:=((Iz<|f68.body.getD .skip)[0]?).getD (#[],.skip,.skip)
def alf:aW8:=aAe.1
def al9:aWO:=aAe.2.1
def alo:aWO:=aAe.2.2
structure Fw where
 (from_ Hu:Y)
 Hs:aWd
 (Oo Ob P7:Y)
 Oi:aWo
 (b2 dh cK EH:Y)
 dK:aWo
 b:aWd
 rs:aWk
 st:LS
def lkS (s:Fw):aWd:=((s.b.drop (AA<|s.from_+1).toNat).take<|(AA<|s.from_+3).toNat-(AA<|s.from_+1).toNat)
def Ei (s:Fw):Y:=(AA<|(AA<|(AA<|s.from_+7)+(AA<|(AA<|gi (lkS s) (0:Y))*2^8))+(AA<|gi (lkS s) (1:Y)))
def lkP (s:Fw):aWk:=([(s.b.drop (AA<|s.from_+1).toNat).take<|(AA<|s.from_+3).toNat-(AA<|s.from_+1).toNat,(s.b.drop (AA<|s.from_+7).toNat).take<|(Ei s).toNat-(AA<|s.from_+7).toNat])
def lkH (s:Fw):aWd:=((s.b.drop (AA<|s.from_+3).toNat).take<|(AA<|s.from_+7).toNat-(AA<|s.from_+3).toNat)
def L8 (s:Fw):aWd:=((s.b.drop (AA<|s.from_+7).toNat).take<|(Ei s).toNat-(AA<|s.from_+7).toNat)
def Pw (s:Fw):T (Rd Fw):=letI a:=(s.rs++([((([]:aWd)++([]:aWd)).drop 0).take<|0+M ([]:aWd)]));letI c:=(M s.rs+M ([((([]:aWd)++([]:aWd)).drop 0).take<|0+M ([]:aWd)]));letI d:=(s.rs++([((([]:aWd)++(L8 s)).drop 0).take<|0+M (L8 s)]));letI e:=(M s.b:Y);letI f:=(M<|[((([]:aWd)++([]:aWd)).drop 0).take<|0+M ([]:aWd)]);letI g:=(M s.rs+M ([((([]:aWd)++(L8 s)).drop 0).take<|0+M (L8 s)]));letI h:=AA<|s.from_+7;letI i:=(M ([]:aWd));letI j:=AA<|s.from_+3;letI k:=(P8<|lkP s)==(H7<|lkH s);letI l:=(M (lkS s):Y);letI m:=M s.rs;.br (an<|s.from_<e) (.ix s.from_ (M s.b)<|.br ((gi s.b s.from_)==80) (.br (an<|h<=e) (.req (0<=(AA<|s.from_+1)/\(AA<|s.from_+1)<=j/\j<=e)<|.req (0<=(0:Y)/\0<l)<|.req (0<=(1:Y)/\1<l)<|.br (an<|(Ei s)<=e) (.req (0<=h/\h<=(Ei s)/\(Ei s)<=e/\(Ei s)=(Ei s))<|.req (0<=j/\j<=h/\h<=e)<|.req (M (lkP s)<=1000/\I8 (lkP s))<|.req (4<=M (lkH s))<|.br (! k) (.rl s.rs<|.so (.ret) {s with Oo:=(0:Y),Ob:=(0:Y),P7:=(0:Y),Oi:=X,b2:=(11:Y),st:=.done<|.ret})<|.ra 0 i (0+M (L8 s)) 1<|.req (0+(0+M (L8 s))<=M (([]:aWd)++(L8 s)))<|.rb m (M<|[((([]:aWd)++(L8 s)).drop 0).take<|0+M (L8 s)]) 24<|.br (! k) (.re g d<|.so (.ret) {s with EH:=Ei s,rs:=d})<|.re g d<|.nx {s with from_:=Ei s,EH:=Ei s,rs:=d})<|.br (!X) (.rl s.rs<|.so (.ret) {s with Oo:=(0:Y),Ob:=(0:Y),P7:=(0:Y),Oi:=X,b2:=(11:Y),st:=.done<|.ret})<|.ra 0 i (0+M ([]:aWd)) 1<|.req (0+(0+M ([]:aWd))<=M (([]:aWd)++([]:aWd)))<|.rb m f 24<|.br (!X) (.re c a<|.so (.ret) {s with EH:=e,rs:=a})<|.re c a<|.nx {s with from_:=e,EH:=e,rs:=a})<|.br (!X) (.rl s.rs<|.so (.ret) {s with Oo:=(0:Y),Ob:=(0:Y),P7:=(0:Y),Oi:=X,b2:=(11:Y),st:=.done<|.ret})<|.ra 0 i (0+M ([]:aWd)) 1<|.req (0+(0+M ([]:aWd))<=M (([]:aWd)++([]:aWd)))<|.rb m f 24<|.br (!X) (.re c a<|.so (.ret) {s with EH:=e,rs:=a})<|.re c a<|.nx {s with from_:=e,EH:=e,rs:=a})<|.rl s.rs<|.so (.exit 0) s)<|.rl s.rs<|.so (.exit 0) s
def aB5 {b:aWd}(h:BJ b) (i:Y):0<=gi b i/\gi b i<=255:=by
 unfold gi;rw [DJ];cases e:b[i.toNat]? with
 |none=>decide
 |some x=>exact h x<|OP e
def aav {b:aWd}{m n k:aWe}(h:k<n):gi ((b.drop m).take n) (k:Y)=gi b ((m+k:aWe):Y):=by
 unfold gi
 grind
def Lr (s:Fw) (hb:BJ s.b) (h0:0<=s.from_) (h7:s.from_+7<=(M s.b:Y)) (hl:M s.b<=4096):
  Ei s=s.from_+7+G6 s.b s.from_.toNat/\M (lkS s)=2/\lkH s=(s.b.drop<|s.from_.toNat+3).take 4/\L8 s=HS s.b s.from_.toNat/\lkP s=[(s.b.drop<|s.from_.toNat+1).take 2,HS s.b s.from_.toNat]:=by
 obtain ⟨f,hf⟩:=Q2 h0
 have w1:AA (s.from_+1)=s.from_+1:=AJ
 have w3:AA (s.from_+3)=s.from_+3:=AJ
 have w7:AA (s.from_+7)=s.from_+7:=AJ
 have t1:(s.from_+1).toNat=f+1:=A0
 have t3:(s.from_+3).toNat=f+3:=A0
 have t7:(s.from_+7).toNat=f+7:=A0
 have tf:s.from_.toNat=f:=A0
 have eS:lkS s=(s.b.drop<|f+1).take 2:=by
  unfold lkS;rw [w1,w3,t1,t3,show f+3-(f+1)=2 by omega]
 have b1:=aB5 hb ((f+1:aWe):Y)
 have b2:=aB5 hb ((f+2:aWe):Y)
 have g0:gi (lkS s) (0:Y)=gi s.b ((f+1:aWe):Y):=by rw [eS];exact aav (k:=0) Ab
 have g1:gi (lkS s) (1:Y)=gi s.b ((f+2:aWe):Y):=by rw [eS];exact aav (k:=1) Ab
 have hN:G6 s.b f=(gi s.b ((f+1:aWe):Y)).toNat*256+(gi s.b ((f+2:aWe):Y)).toNat:=rfl
 have eT:Ei s=s.from_+7+G6 s.b f:=by
  unfold Ei;rw [g0,g1,w7,AJ (x:=gi s.b ((f+1:aWe):Y)),AJ (x:=gi s.b ((f+1:aWe):Y)*2^8),AJ (x:=gi s.b ((f+2:aWe):Y)),AJ (x:=s.from_+7+gi s.b ((f+1:aWe):Y)*2^8),AJ];omega
 have eD:(s.b.drop (AA<|s.from_+7).toNat).take ((Ei s).toNat-(AA<|s.from_+7).toNat)=HS s.b f:=by
  unfold HS;rw [eT,w7,t7,show (s.from_+7+(G6 s.b f:Y)).toNat-(f+7)=G6 s.b f by omega]
 rw [tf];refine ⟨eT,by rw [eS];simp only [MA,FO];omega,?_,eD,?_⟩
 ·unfold lkH
  rw [w3,w7,t3,t7,show f+7-(f+3)=4 by omega]
 ·unfold lkP
  rw [eD,w1,w3,t1,t3,show f+3-(f+1)=2 by omega]
def aLi (s:Fw) (hb:BJ s.b) (h0:0<=s.from_) (h7:s.from_+7<=(M s.b:Y)) (hl:M s.b<=4096) (hT:Ei s<=(M s.b:Y)):rcG s.b s.from_.toNat=(P8 (lkP s)==H7 (lkH s)):=by
 obtain ⟨e1,e2,e3,e4,e5⟩:=Lr s hb h0 h7 hl;unfold rcG rcF;rw [e3,e5,Cg (p:=s.from_.toNat+7<=M s.b) A0,Cg (p:=s.from_.toNat+7+G6 s.b s.from_.toNat<=M s.b) A0];rfl
def aLj (s:Fw) (h0:0<=s.from_) (hl:M s.b<=4096) (h:(M s.b:Y)<s.from_+7\/(M s.b:Y)<s.from_+7+G6 s.b s.from_.toNat):rcG s.b s.from_.toNat=false:=by
 unfold rcG rcF
 by_cases h1:s.from_.toNat+7<=M s.b
 ·rw [IP (p:=s.from_.toNat+7+G6 s.b s.from_.toNat<=M s.b) A0,Sg]
  rfl
 ·rw [IP (p:=s.from_.toNat+7<=M s.b) h1]
  rfl
def auK (fx:Ex->Fw->Fw) (hr:∀s',fx .ret s'={s' with st:=.done .ret}) (h0:∀s',fx (.exit 0) s'={s' with st:=.ready}) (s:Fw) (h:s.st=.ready):DV (λ_=>True) (λx s'=>fx x s'=s') ((Pw s).rd s):=by
 obtain ⟨from_,Hu,Hs,Oo,Ob,P7,Oi,b2,dh,cK,EH,dK,b,rs,st⟩:=s;subst h;unfold Pw;dsimp only [T.rd,T.rl,T.rv];refine AH (λc1=>?_) λc1=>?_
 ·refine AH (λc2=>?_) (λc2=>?_)
  ·refine AH (λc3=>?_) (λc3=>?_)
   ·refine AH (λc4=>?_) (λc4=>?_)
    ·refine AH (λc5=>?_) (λc5=>?_)
     ·exact hr _
     ·refine AH (λc6=>?_) (λc6=>?_)
      ·grind
      ·trivial
    ·refine AH (λc5=>?_) (λc5=>?_)
     ·exact hr _
     ·refine AH (λc6=>?_) (λc6=>?_)
      ·grind
      ·grind
   ·refine AH (λc4=>?_) (λc4=>?_)
    ·exact hr _
    ·refine AH (λc5=>?_) (λc5=>?_)
     ·grind
     ·grind
  ·exact h0 _
 ·exact h0 _
def o5 (s:Fw):Prop:=s.st=.ready/\5<=s.from_/\s.from_<=(M s.b:Y)/\M s.b<=4096/\BJ s.b/\s.EH=s.from_/\(M s.rs:Y)<=s.from_
def oF (s:Fw):Prop:=s.st=.ready/\5<=s.from_/\s.from_<=(M s.b:Y)/\M s.b<=4096/\BJ s.b/\s.EH=s.from_/\(M s.rs:Y)<=s.from_
def aB2 (s:Fw):aWe:=((M s.b:Y)-s.from_).toNat
def aLx (x:Ex) (s s':Fw):Prop:=True
def aoS:∀s,o5 s->oF s:=by
 exact λs h=>h
def amc:Da oF aB2 aLx Pw:=by
 intro s hI;unfold Pw;dsimp only [T.rd,T.rl,T.rv];refine AH (λc1=>?_) λc1=>?_
 ·refine AH (λc2=>?_) (λc2=>?_)
  ·refine AH (λc3=>?_) (λc3=>?_)
   ·refine AH (λc4=>?_) (λc4=>?_)
    ·refine AH (λc5=>?_) (λc5=>?_)
     ·trivial
     ·refine AH (λc6=>?_) (λc6=>?_)
      ·grind
      ·obtain ⟨ht,h5,hl,h4,hb,he,hr⟩:=hI
       have w7:AA (s.from_+7)=s.from_+7:=AJ
       have c3:s.from_+7<=(M s.b:Y):=A8
       have c4:=D5 c4
       obtain ⟨e1,e2,e3,e4,e5⟩:=Lr s hb A0 c3 h4;refine ⟨⟨ht,A8,c4,h4,hb,rfl,?_⟩,?_⟩
       ·grind
       ·simp only [aB2];omega
    ·refine AH (λc5=>?_) (λc5=>?_)
     ·trivial
     ·refine AH (λc6=>?_) (λc6=>?_)
      ·grind
      ·grind
   ·refine AH (λc4=>?_) (λc4=>?_)
    ·trivial
    ·refine AH (λc5=>?_) (λc5=>?_)
     ·grind
     ·grind
  ·trivial
 ·trivial
def SP:AS Fw:=⟨6,83,[0,1,3],[.nc 3 2 34<|.sl<|.int aw],λs=>[.CO 5,.own 4 0,s.from_],λs=>[⟨[s.Hu,.xl (.int aw) s.Hs],36,.cl,X⟩,⟨[s.Oo,.v<|ag ax s.Ob,.v<|.slice aj 0 0,s.P7,s.Oi],149,.cl,X⟩,⟨[s.b2],51,.cl,X⟩,⟨[s.dh,.v<|ag ax s.cK,.os 6 1 0<|M s.rs,s.EH,s.dK],149,.cl,X⟩,⟨[.xl (.int aw) s.b],34,.cl,X⟩,⟨[.junk,.junk,.own 1 0,.own 2 0,.junk,.junk,.junk,.own 3 0,.v<|.tuple #[],.junk,.junk,.junk,.junk,.junk,.junk,.junk,.junk,.junk,.junk,.junk,.junk,.junk,.junk,.junk,.junk,.junk,.junk,.junk,.junk,.junk,.junk,.junk,.junk,.junk,.v<|.tuple #[],.v<|.tuple #[],.v<|.tuple #[],.v<|.tuple #[],.v<|.tuple #[],.v<|.tuple #[],.v<|.tuple #[],.v<|.tuple #[],.v<|.tuple #[],.v<|.tuple #[],.v<|.tuple #[],.v<|.tuple #[],.v<|.tuple #[],.v<|.tuple #[],.v<|.tuple #[],.v<|.tuple #[],.v<|.tuple #[],.junk,.junk,.junk,.junk,.junk,.junk,.junk,.junk,.junk,.junk,.junk,.junk,.junk,.junk,.junk,.junk,.junk,.junk],0,.Cl alf al9 alo s.st,X⟩,⟨[],34,.vec (.sl<|.int aw) s.rs,X⟩],λv b=>⟨AK v 2,Aj b 0 0,AF (.int aw) b 0 1,Aj b 1 0,Aj b 1 1,Aj b 1 3,cgB b 1 4,Aj b 2 0,Aj b 3 0,Aj b 3 1,Aj b 3 3,cgB b 3 4,AF (.int aw) b 4 0,Ac (.sl<|.int aw) b 6,.ready⟩,Pw,λs r=> {r with Hu:=s.Hu,Hs:=s.Hs,dh:=s.dh,cK:=s.cK,dK:=s.dK,b:=s.b},λs=> {s with st:=.ready},λx s=> {s with st:=(match x with| .ret=>(.done<|.ret) | .exit 0=> .ready|_=> .ready)},[.ret,.exit 0],o5,oF,aB2⟩
abbrev Gk:=SP.run
abbrev aT7:=SP.As
def vP:aWp:=[zW,aa2,zZ,zT,zY]
def ahR:B1:=kI vP<|l0 vP
def alX:Rq oF Pw:=by
 intro s hI;refine ⟨λc1=>⟨?_,λc2=>⟨λc3=>⟨?_,?_,?_,λc4=>⟨?_,?_,?_,?_,λc5=>⟨A9,ak⟩,λc5=>⟨?_,?_,?_,λc6=>⟨?_,ak⟩,λc6=>⟨?_,ak⟩⟩⟩,λc4=>⟨λc7=>⟨A9,ak⟩,λc7=>⟨?_,?_,?_,λc8=>⟨?_,ak⟩,λc8=>⟨?_,ak⟩⟩⟩⟩,λc3=>⟨λc9=>⟨A9,ak⟩,λc9=>⟨?_,?_,?_,λc10=>⟨?_,ak⟩,λc10=>⟨?_,ak⟩⟩⟩⟩,λc2=>⟨A9,ak⟩⟩,λc1=>⟨A9,ak⟩⟩
 ·(obtain ⟨ht,h5,hl,h4,hb,he,hr⟩:=hI;have w7:AA (s.from_+7)=s.from_+7:=AJ;have w1:AA (s.from_+1)=s.from_+1:=AJ;have w3:AA (s.from_+3)=s.from_+3:=AJ;simp only [Aa] at c1;omega)
 iterate 3 · (obtain ⟨ht,h5,hl,h4,hb,he,hr⟩:=hI;have w7:AA (s.from_+7)=s.from_+7:=AJ;have w1:AA (s.from_+1)=s.from_+1:=AJ;have w3:AA (s.from_+3)=s.from_+3:=AJ;have k3:s.from_+7<=(M s.b:Y):=OZ;obtain ⟨e1,e2,e3,e4,e5⟩:=Lr s hb A0 k3 h4;(first|omega|(rw [w1,w3];omega) |(rw [w3,w7];omega)))
 iterate 2 · (obtain ⟨ht,h5,hl,h4,hb,he,hr⟩:=hI;have w7:AA (s.from_+7)=s.from_+7:=AJ;have w1:AA (s.from_+1)=s.from_+1:=AJ;have w3:AA (s.from_+3)=s.from_+3:=AJ;have k3:s.from_+7<=(M s.b:Y):=OZ;obtain ⟨e1,e2,e3,e4,e5⟩:=Lr s hb A0 k3 h4;have k4:Ei s<=(M s.b:Y):=D5 c4;have hD:M (HS s.b s.from_.toNat)<=4096:=aS;(first|omega|(rw [w1,w3];omega) |(rw [w3,w7];omega) |(rw [w7];exact ⟨A0,A0,k4,rfl⟩)))
 ·(obtain ⟨ht,h5,hl,h4,hb,he,hr⟩:=hI;have w7:AA (s.from_+7)=s.from_+7:=AJ;have w1:AA (s.from_+1)=s.from_+1:=AJ;have w3:AA (s.from_+3)=s.from_+3:=AJ;have k3:s.from_+7<=(M s.b:Y):=OZ;obtain ⟨e1,e2,e3,e4,e5⟩:=Lr s hb A0 k3 h4;have k4:Ei s<=(M s.b:Y):=D5 c4;have hD:M (HS s.b s.from_.toNat)<=4096:=aS;rw [e5];refine ⟨AI,λp hp=>?_⟩;simp only [BA,Bu,Bs] at hp;rcases hp with rfl|rfl;(first|(simp only [MA,FO];omega) |omega);omega)
 ·(obtain ⟨ht,h5,hl,h4,hb,he,hr⟩:=hI;have w7:AA (s.from_+7)=s.from_+7:=AJ;have w1:AA (s.from_+1)=s.from_+1:=AJ;have w3:AA (s.from_+3)=s.from_+3:=AJ;have k3:s.from_+7<=(M s.b:Y):=OZ;obtain ⟨e1,e2,e3,e4,e5⟩:=Lr s hb A0 k3 h4;have k4:Ei s<=(M s.b:Y):=D5 c4;have hD:M (HS s.b s.from_.toNat)<=4096:=aS;rw [e3];simp only [MA,FO];omega)
 ·(obtain ⟨ht,h5,hl,h4,hb,he,hr⟩:=hI;have w7:AA (s.from_+7)=s.from_+7:=AJ;have w1:AA (s.from_+1)=s.from_+1:=AJ;have w3:AA (s.from_+3)=s.from_+3:=AJ;have k3:s.from_+7<=(M s.b:Y):=OZ;obtain ⟨e1,e2,e3,e4,e5⟩:=Lr s hb A0 k3 h4;have k4:Ei s<=(M s.b:Y):=D5 c4;have hD:M (HS s.b s.from_.toNat)<=4096:=aS;rw [e4];simp only [BL,Bj,Bt,FR];try omega)
 ·grind
 iterate 3 · (obtain ⟨ht,h5,hl,h4,hb,he,hr⟩:=hI;have w7:AA (s.from_+7)=s.from_+7:=AJ;have w1:AA (s.from_+1)=s.from_+1:=AJ;have w3:AA (s.from_+3)=s.from_+3:=AJ;have k3:s.from_+7<=(M s.b:Y):=OZ;obtain ⟨e1,e2,e3,e4,e5⟩:=Lr s hb A0 k3 h4;have k4:Ei s<=(M s.b:Y):=D5 c4;have hD:M (HS s.b s.from_.toNat)<=4096:=aS;rw [e4];simp only [BL,Bj,Bt,FR];try omega)
 iterate 5 · exact absurd c7 Ab
 iterate 5 · exact absurd c9 Ab
def abC:SP.Ok:=⟨λs=>AU,λs _=>auK SP.fx (λ_=>rfl) (λ_=>rfl) (SP.rd s) rfl,λs=>rfl,λs t r=>rfl,λs=>rfl,λs=>AU⟩
def aVt:SP.Pf (aLx):=⟨aoS,λs h=>by
 obtain ⟨from_,Hu,Hs,Oo,Ob,P7,Oi,b2,dh,cK,EH,dK,b,rs,st⟩:=s
 have e:=h.1
 subst e;rfl,amc,alX⟩
def ayb:=s2 (b:=bN f129 0) abC aVt vP ahR
def ahV:Rs o5 aT7 Gk (λs:Fw=>(s.rs++(Ja s.b s.from_.toNat).1,(Ja s.b s.from_.toNat).2.1,(Ja s.b s.from_.toNat).2.2)) (λx s' (v:List (List Int)×Nat×Bool)=>(x=.exit 0/\s'.rs=v.1/\s'.EH=(v.2.1:Y)/\v.2.2=U)\/(x=.ret/\v.2.2=X/\s'.b2=11/\s'.Oo=0/\s'.Ob=0/\s'.P7=0/\s'.Oi=X)):=DU abC aVt (λs hI=>by
  show DV _ _ ((Pw s).rd s)
  unfold Pw;dsimp only [T.rd,T.rl];refine AH (λc1=>?_) λc1=>?_
  ·refine AH (λc2=>?_) (λc2=>?_)
   ·refine AH (λc3=>?_) (λc3=>?_)
    ·refine AH (λc4=>?_) (λc4=>?_)
     ·refine AH (λc5=>?_) (λc5=>?_)
      ·obtain ⟨ht,h5,hl,h4,hb,he,hr⟩:=hI
       have w7:AA (s.from_+7)=s.from_+7:=AJ
       have hq:=Wn s.b s.from_.toNat
       rw [CP A0] at hq;rw [AD ⟨mf,EY⟩] at hq
       have k3:s.from_+7<=(M s.b:Y):=OZ
       obtain ⟨e1,e2,e3,e4,e5⟩:=Lr s hb A0 k3 h4
       have hg:=aLi s hb A0 k3 h4<|D5 c4
       have hg:rcG s.b s.from_.toNat=false:=aPM
       exact xm
      ·refine AH (λc6=>?_) (λc6=>?_)
       ·exact absurd (c5.symm.trans c6) Ab
       ·obtain ⟨ht,h5,hl,h4,hb,he,hr⟩:=hI
        have w7:AA (s.from_+7)=s.from_+7:=AJ
        have hq:=Wn s.b s.from_.toNat
        rw [CP A0] at hq;rw [AD ⟨mf,EY⟩] at hq
        have k3:s.from_+7<=(M s.b:Y):=OZ
        obtain ⟨e1,e2,e3,e4,e5⟩:=Lr s hb A0 k3 h4
        have hg:=aLi s hb A0 k3 h4<|D5 c4
        have hg:rcG s.b s.from_.toNat=true:=aPM
        rw [AD hg] at hq
        have et:(Ei s).toNat=s.from_.toNat+7+G6 s.b s.from_.toNat:=A0
        have ed:((([]:aWd)++L8 s).drop 0).take (0+M (L8 s))=HS s.b s.from_.toNat:=by
         rw [e4,EX,CT,Ek];exact De<|At _
        show (s.rs++[_]++(Ja s.b (Ei s).toNat).1,(Ja s.b (Ei s).toNat).2.1,(Ja s.b (Ei s).toNat).2.2)=(s.rs++(Ja s.b s.from_.toNat).1,(Ja s.b s.from_.toNat).2.1,(Ja s.b s.from_.toNat).2.2)
        rw [ed,et,hq];simp only [Ct,KG,EX]
     ·refine AH (λc5=>?_) (λc5=>?_)
      ·obtain ⟨ht,h5,hl,h4,hb,he,hr⟩:=hI
       have w7:AA (s.from_+7)=s.from_+7:=AJ
       have hq:=Wn s.b s.from_.toNat
       rw [CP A0] at hq;rw [AD ⟨mf,EY⟩] at hq
       have k3:s.from_+7<=(M s.b:Y):=OZ
       obtain ⟨e1,e2,e3,e4,e5⟩:=Lr s hb A0 k3 h4
       have hg:=aLj s A0 h4<|.inr (by have:=KF c4;omega)
       exact xm
      ·refine AH (λc6=>?_) (λc6=>?_)
       ·exact absurd c5 Ab
       ·exact absurd c5 Ab
    ·refine AH (λc4=>?_) (λc4=>?_)
     ·obtain ⟨ht,h5,hl,h4,hb,he,hr⟩:=hI
      have w7:AA (s.from_+7)=s.from_+7:=AJ
      have hq:=Wn s.b s.from_.toNat
      rw [CP A0] at hq;rw [AD ⟨mf,EY⟩] at hq
      have hg:=aLj s A0 h4<|.inl (by rw [w7] at c3;have:=KF c3;omega)
      exact xm
     ·refine AH (λc5=>?_) (λc5=>?_)
      ·exact absurd c4 Ab
      ·exact absurd c4 Ab
   ·obtain ⟨ht,h5,hl,h4,hb,he,hr⟩:=hI
    have hq:=Wn s.b s.from_.toNat
    rw [CP A0] at hq;rw [AE A8] at hq;rw [hq];exact .inl ⟨rfl,(Gb _).symm,AZ,rfl⟩
  ·obtain ⟨ht,h5,hl,h4,hb,he,hr⟩:=hI
   have hq:=Wn s.b s.from_.toNat
   rw [CP A0] at hq;rw [AE A8] at hq;rw [hq];exact .inl ⟨rfl,(Gb _).symm,AZ,rfl⟩)
structure Mz where
 l:aWd
 (n i sH aDE wC:Y)
 qn:aWo
 (b1 X6 Vo UA:Y)
 J1:aWo
 rs:aWk
def aJ5:=bN f68 0
def aD0 (s:Mz):T (Rd Mz):=
 .br (an<|s.i<s.n) (.ix s.i (M s.l)<|.br s.J1 (.rl s.rs<|.nx {s with i:=AA<|s.i+1,J1:=((gi s.l s.i)==255)})<|.rl s.rs<|.nx {s with i:=AA<|s.i+1,J1:=X}) (.rl s.rs<|.so (.exit 2) s)
def o7 (s:Mz):Prop:=s.i=0/\s.n<=4096/\s.n=(M s.l:Y)
def oG (s:Mz):Prop:=0<=s.i/\s.i<=s.n/\s.n<=4096/\s.n=(M s.l:Y)
def wG (s:Mz):aWe:=(s.n-s.i).toNat
def aLy (x:Ex) (s s':Mz):Prop:=True
def aoV:∀s,o7 s->oG s:=by
 exact mH
def amf:Da oG wG aLy aD0:=by
 intro s hI;obtain ⟨h0,h1,h2,h3⟩:=hI;refine AH (λc1=>?_) λc1=>?_
 ·refine AH (λc2=>?_) (λc2=>?_)
  ·exact aNF
  ·exact aNF
 ·trivial
def SQ:AS Mz:=⟨0,69,[2,3,7,54,55,56],[],λs=>[.own 0 0,.own 1 0,.own 2 0,.xl (.int aw) s.l,s.n,s.i],λs=>[⟨[s.sH,.v<|ag ax s.aDE,.v<|.slice aj 0 0,s.wC,s.qn],149,.cl,X⟩,⟨[s.b1],51,.cl,X⟩,⟨[s.X6,.v<|ag ax s.Vo,.os 3 1 0<|M s.rs,s.UA,s.J1],149,.cl,X⟩,⟨[],34,.vec (.sl<|.int aw) s.rs,X⟩],λv b=>⟨Az (.int aw) v 3,AK v 4,AK v 5,Aj b 0 0,Aj b 0 1,Aj b 0 3,cgB b 0 4,Aj b 1 0,Aj b 2 0,Aj b 2 1,Aj b 2 3,cgB b 2 4,Ac (.sl<|.int aw) b 3⟩,aD0,λs r=> {s with i:=r.i,J1:=r.J1},λs=>s,λ_ s=>s,[.exit 2],o7,oG,wG⟩
abbrev tD:=SQ.run
abbrev ahw:=SQ.As
def alZ:Rq oG aD0:=by
 exact aMM
def gq:aWp:=[zW,aa2,zZ,zT,zY]
def aTU:B1:=kI gq<|la 1 func129 ayb<|l0 gq
def abE:SQ.Ok:={}
def aVv:SQ.Pf (aLy):=⟨aoV,λs h=>rfl,amf,alZ⟩
def ayc:SA 0 aJ5 SQ:=s1 abE aVv gq aTU
def aha:Rs o7 ahw tD (λs:Mz=>s.J1&&(s.l.drop s.i.toNat).all (λb=>b==255)) (λx s' (v:aWo)=>x=.exit 2/\s'.J1=v):=DU abE aVv (λs hI=>by
  obtain ⟨h0,h1,h2,h3⟩:=hI;refine AH (λc1=>AH (λc2=>?_) λc2=>?_) λc1=>?_
  ·have c1:s.i<s.n:=A8
   rw [AJ (x:=s.i+1)]
   show (_&&_)=(_&&_)
   rw [(gi_step h0 A0).1,Io,c2,EU]
  ·have c1:s.i<s.n:=A8
   rw [c2];rfl
  ·have c1:s.n<=s.i:=A8
   refine ⟨rfl,?_⟩;rw [F6 A0];exact (mD _).symm)
def ur {b:aWd}:∀ {n f:aWe},f<=M b->(HX b n f).2.1<=M b
 |0,_,h=>h
 | n+1,f,h=>by
  simp only [HX];split
  ·split
   ·rename_i hg
    unfold rcG rcF at hg;simp only [AY,Aa] at hg;exact ur (n:=n) hg.1.2
   ·exact h
  ·exact h
def Er (se:Y) (fl:aWd):Y:=if Br se fl=0 then Au fl else 0
def Ia (se:Y) (fl:aWd):Y:=if Br se fl=0 then JM fl (Au fl) else 0
def FB (se:Y) (fl:aWd):aWk:=if Br se fl=0 then (Ez fl).1 else []
def HP (se:Y) (fl:aWd):Y:=if Br se fl=0 then ((Ez fl).2.1:Y) else 0
def Kv (se:Y) (fl:aWd):aWo:=if Br se fl=0 then lkC fl else X
def aL2:aWf->T LV
 | [.agg [.v (ag J se),.xl (.int aw) fl]]=> .req (BJ fl) (.ok<|.AO [.agg [Er se fl,.v<|ag ax<|Ia se fl,.xl (.sl<|.int aw)<|FB se fl,HP se fl,Kv se fl],Br se fl])
 |_=> .no
def En (se:Y) (fl:aWd):Fw:=(⟨5,se,fl,0,0,0,X,0,Au fl,H7<|((Bn fl<|Au fl).drop (1:Y).toNat).take<|(5:Y).toNat-(1:Y).toNat,5,U,Bn fl<|Au fl,([]:aWk),.ready⟩:Fw)
def eE (se:Y) (fl:aWd):Mz:=(⟨((Bn fl<|Au fl).drop (Gk<|En se fl).EH.toNat).take<|(M (Bn fl<|Au fl):Y).toNat-(Gk<|En se fl).EH.toNat,(M (((Bn fl<|Au fl).drop (Gk<|En se fl).EH.toNat).take<|(M (Bn fl<|Au fl):Y).toNat-(Gk<|En se fl).EH.toNat):Y),0,(Gk<|En se fl).Oo,(Gk<|En se fl).Ob,(Gk<|En se fl).P7,(Gk<|En se fl).Oi,(Gk<|En se fl).b2,Au fl,H7<|((Bn fl<|Au fl).drop (1:Y).toNat).take<|(5:Y).toNat-(1:Y).toNat,(Gk<|En se fl).EH,U,(Gk<|En se fl).rs⟩:Mz)
def fj:=vm (S:=aL2) func68 gq aTU (L:=(λi=>if i=15 then SQ.lp else Ak i)) (λb hb=>by
 rw [show BD _=[aJ5] by kernel_rfl] at hb
 simp only [BA,Bu,Bs] at hb;subst hb;exact ayc) (λargs lv h=>by
 unfold aL2 at h;split at h
 ·rename_i se fl
  refine Aq (letI d:=Gk<|En se fl;letI f:=(M (Bn fl<|Au fl):Y);letI j:=(((Bn fl<|Au fl).drop (1:Y).toNat).take<|(5:Y).toNat-(1:Y).toNat);letI k:=List Int;.br (!(FD se fl)) (.ok<|.AO [.agg [(0:Y),.v<|ag ax 0,.xl (.sl<|.int aw) ([]:List k),(0:Y),X],(1:Y)])<|.req (FD se fl=U)<|.br ((I2 fl) !=0) (.ok<|.AO [.agg [(0:Y),.v<|ag ax 0,.xl (.sl<|.int aw) ([]:List k),(0:Y),X],(I2 fl)])<|.req (((Au fl)=0\/(Au fl)=1)/\M fl<=4096)<|.req (0<=(1:Y)/\(1:Y)<=(5:Y)/\(5:Y)<=f)<|.req (4<=M j)<|.r0 k<|.req (SP.q<|En se fl)<|.br (Bb (aT7<|En se fl)<|.ret) (.ok<|.AO [.agg [d.Oo,.v<|ag ax d.Ob,.xl (.sl<|.int aw) ([]:List k),d.P7,d.Oi],d.b2])<|.req (0<=d.EH/\d.EH<=f/\f<=f)<|.rl d.rs<|.req (SQ.q<|eE se fl)<|.rz d.rs<|.ok<|.AO [.agg [(Au fl),.v<|ag ax<|H7 j,.xl (.sl<|.int aw)<|(d.rs.drop 0).take<|M d.rs,d.EH,(tD<|eE se fl).J1],(0:Y)]) ?_;obtain ⟨hb,rfl⟩:=h
  have fin:∀(a g:Y) (r:aWk) (n:Y) (c:aWo) (e:Y),a=Er se fl->g=Ia se fl->r=FB se fl->n=HP se fl->c=Kv se fl->e=Br se fl->
   LV.AO [.agg [.v<|ag J a,.v<|ag ax g,.xl (.sl<|.int aw) r,.v<|ag J n,.v<|.bool c],.v<|ag J e]=LV.AO [.agg [.v<|ag J<|Er se fl,.v<|ag ax<|Ia se fl,.xl (.sl<|.int aw)<|FB se fl,.v<|ag J<|HP se fl,.v<|.bool<|Kv se fl],.v<|ag J<|Br se fl]:=λa g r n c e h1 h2 h3 h4 h5 h6=>by rw [h1,h2,h3,h4,h5,h6]
  refine ⟨λc1=>?_,λc1=>⟨AX,λc2=>?_,λc2=>?_⟩⟩
  ·have c1:FD se fl=false:=AX
   have hE:Br se fl=1:=by unfold Br;rw [AD c1]
   refine fin _ _ _ _ _ _ ?_ ?_ ?_ ?_ ?_ hE.symm<;>simp [Er,Ia,FB,HP,Kv,hE]
  ·have c1:FD se fl=true:=AX
   have c2:I2 fl≠0:=EY
   have hE:Br se fl=I2 fl:=by unfold Br;rw [AE bI,AD c2]
   refine fin _ _ _ _ _ _ ?_ ?_ ?_ ?_ ?_ hE.symm<;>simp [Er,Ia,FB,HP,Kv,hE,c2]
  have c1:FD se fl=true:=AX
  have c2:I2 fl=0:=EY
  have hj:=MQ.1 c1
  have hw:Au fl=0\/Au fl=1:=aPG
  have hl:=cu fl<|Au fl
  have hab:BJ (Bn fl<|Au fl):=by
   intro x hx;unfold Bn at hx;split at hx
   ·exact hb x<|VE hx
   ·exact hb x<|Q4<|VE hx
  have hQ:Ez fl=Ja (Bn fl<|Au fl) 5:=rfl
  have hE0:o5 (En se fl):=⟨rfl,by show (5:Y)<=5;decide,by show (5:Y)<=(M (Bn fl<|Au fl):Y);omega,by show M (Bn fl<|Au fl)<=4096;omega,hab,rfl,by show ((M ([]:aWk):aWe):Y)<=5;decide⟩
  have hr:=ahV _ hE0
  have hv:(En se fl).rs=[]:=rfl
  have hf:(En se fl).from_.toNat=5:=rfl
  have hB:(En se fl).b=Bn fl (Au fl):=rfl
  simp only [hv,hf,hB,EX,<-hQ] at hr;refine ⟨⟨hw,hj.2.2.2.1⟩,⟨Ab,Ab,A0⟩,by simp only [MA,FO];omega,A9,⟨hE0,rfl,rfl⟩,λc3=>?_,λc3=>?_⟩
  ·have c3:=WY c3
   rcases hr with ⟨q1,_⟩ |⟨q1,q2,q3,q4,q5,q6,q7⟩
   ·rw [c3] at q1;cases q1
   ·have hE:Br se fl=11:=by unfold Br;rw [AE bI,AE bJ,AE (by rw [q2];decide)]
    rw [q3,q4,q5,q6,q7];refine fin _ _ _ _ _ _ ?_ ?_ ?_ ?_ ?_ hE.symm<;>simp [Er,Ia,FB,HP,Kv,hE]
  ·rcases hr with ⟨q1,q2,q3,q4⟩ |⟨q1,_⟩
   ·have hE:Br se fl=0:=by unfold Br;rw [AE bI,AE bJ,AD q4]
    have hn:(Ez fl).2.1<=M (Bn fl<|Au fl):=ur A0
    have eL:((Bn fl<|Au fl).drop (Gk<|En se fl).EH.toNat).take ((M (Bn fl<|Au fl):Y).toNat-(Gk<|En se fl).EH.toNat)=(Bn fl<|Au fl).drop (Ez fl).2.1:=by
     rw [q3,By,By];exact De yr
    have hC:o7 (eE se fl):=⟨rfl,by
     show (M (((Bn fl<|Au fl).drop (Gk<|En se fl).EH.toNat).take<|(M (Bn fl<|Au fl):Y).toNat-(Gk<|En se fl).EH.toNat):Y)<=4096
     rw [eL,FO];omega,rfl⟩
    have hr2:(tD<|eE se fl).J1=(U&&((((Bn fl<|Au fl).drop (Gk<|En se fl).EH.toNat).take<|(M (Bn fl<|Au fl):Y).toNat-(Gk<|En se fl).EH.toNat).drop 0).all (λb=>b==255)):=(aha _ hC).2
    rw [eL,CT,EU] at hr2;refine ⟨⟨by rw [q3];omega,by rw [q3];omega,Co _⟩,A9,⟨hC,rfl,rfl⟩,A0,?_⟩
    refine fin _ _ _ _ _ _ ?_ ?_ ?_ ?_ ?_ hE.symm
    ·unfold Er;rw [AD hE]
    ·unfold Ia JM;rw [AD hE];rfl
    ·unfold FB;rw [AD hE,CT,De<|At _];exact q2
    ·unfold HP;rw [AD hE];exact q3
    ·unfold Kv;rw [AD hE];exact hr2
   ·exfalso;rw [q1] at c3;simp [Bb] at c3
 ·cases h)
end Go.Proofs.YtoifmkifedcnnaaGreatDoor
namespace Go.Sx
open Go Go.RowKit Go.Proofs.YtoifmkifedcnnaaGreatDoor
variable {P : Program} {G : B5} {Γ : Specs} {K : Hand} {L : Lg} {Z0 : Gz} {w0 : World}
abbrev Ut:=Nat->Option (List Nat×List Up)
def XJ (P:aWt) (G:B5) (Γ:aWR) (K:aW5) (L:PZ) (cs:Ut):aWO->aWf->aWi->T (Ex×List LV×List AB)
 | .seq a b,F,H=>(XJ P G Γ K L cs a F H).bind λq=>match q.1 with
  | .normal=>match cs (Gp b) with
   |some (live,us)=>(GM 0 live us .normal q.2.1 q.2.2).bind λv=>if v.low then XJ P G Γ K L cs b (Hw (M q.2.1) live v.vals) v.JN else .no
   |none=>XJ P G Γ K L cs b q.2.1 q.2.2
  |x=> .ok (x,q.2)
 |c,F,H=>DN P G Γ K L c F H
def aeE {L:PZ}{cs:Ut}(hΓ:∀g S,Γ g=ah S->Valid P G g S) (hK:FW P G K) (c:aWO) (hl:∀b∈BD c,Gm P G (AN 0) (.loop b)<|L b):Gm P G (AN 0) c (XJ P G Γ K L cs c):=by
 induction c with
 | seq c1 c2 ih1 ih2=>
  intro r w0 Z0 Z β F H a w ds Q x F' H' hA hr hD hW hF h hQ;obtain ⟨⟨y,F1,H1⟩,h1,h2⟩:=T.B8 h;obtain ⟨hr1,hr2⟩:=s9 (show r=aj\/(I3 c1&&I3 c2)=U from hr);refine wpIn_seq<|ih1 (λb hb=>hl b Sr) r w0 Z0 Z β F H a w ds _ y F1 H1 hA hr1 hD hW hF h1 λds' Z' β' a' w' e0 e1 e2=>?_
  cases y with
  | normal=>
   simp only at h2;split at h2
   ·rename_i live us hcs
    obtain ⟨v,h3,h4⟩:=T.B8 h2;split at h4
    ·rename_i hlow
     obtain ⟨_,_,Z2,β2,e3,e4⟩:=cd hA e1 e2 h3 hlow;exact ih2 (λb hb=>hl b Sr) r w0 Z0 Z2 β2 _ _ a' w' ds' Q x F' H' hA hr2 e0 e3 e4 h4 hQ
    ·cases h4
   ·exact ih2 (λb hb=>hl b Sr) r w0 Z0 Z' β' F1 H1 a' w' ds' Q x F' H' hA hr2 e0 e1 e2 h2 hQ
  |exit m=>
   obtain ⟨rfl,rfl,rfl⟩:=h2;exact hQ ds' Z' β' a' w' e0 e1 e2
  |ret=>
   obtain ⟨rfl,rfl,rfl⟩:=h2;exact hQ ds' Z' β' a' w' e0 e1 e2
 |_=>exact Gg hΓ hK _ hl
def j4 (P:aWt) (G:B5) (Γ:aWR) (K:aW5) (L:Lg) (cs:Ut) (fn:aWX) (args:aWf):T LV:=
 (match fn.body with
 |some c=>wP P fn (XJ P G Γ K (Lx L) cs c) args
 |none=> .no).bind λx=> .ok<|canX<|upR P fn.resultTypes.toList x
def aE7 {f:aWF}{fn:aWX}{c:aWO}{S:aWf->T LV}{cs:Ut}(hfn:P.funcs[f]? =ah fn) (hc:fn.body=ah c) (hΓ:∀g S,Γ g=ah S->Valid P G g S) (hK:FW P G K)
  (hL:∀b∈BD c,Sound P G (.loop b)<|L<|Gp b) (hS:∀args lv,(S args).all (λx=>x=lv)->(j4 P G Γ K L cs fn<|canL args).all (λx=>x=lv)):Valid P G f (K9 P fn.params.toList S):=
 aFc (aE8 hfn hc<|aeE (L:=Lx L) (cs:=cs) hΓ hK c hL) (λargs lv h=>by have:=hS args lv h;unfold j4 at this;simpa only [hc] using this)
def T.aD3 {α:Type}:T α->T α
 | .br b t e=> .br b t.red e.red
 | .req p t=> .req p (T.aD3 t)
 |t=>t
def T.aH6 {α:Type}{K:α->Prop}:∀ {t:T α},t.aD3.all K->t.all K
 | .ok _,h=>h
 | .br _ _ _,h=>⟨λhb=>T.WT<|h.1 hb,λhb=>T.WT<|h.2 hb⟩
 | .req _ _,h=>⟨h.1,T.aH6 h.2⟩
 | .no,h=>h
end Go.Sx
namespace Go.Proofs.YtoifmkifedcnnaaGreatDoor
set_option maxRecDepth 100000
set_option maxHeartbeats 4000000
open Go.Proofs.Tryz
open Go.Sx
def aTe:aWf->T LV
 | [.v (.agg ⟨[ag J x1,ag J x2,ag J x3,ag J x4,ag J x5]⟩)]=> .ok (.xl (.int aw)<|B2 (x1,x2,x3,x4,x5))
 |_=> .no
def WG:=bN f159 0
def LZ:aWp:=[]
def aqY:Sound prog AV (.loop WG) (JG prog AV LZ G9 20 2 WG):=Sz (gk LZ) kN.h 20 2 WG
def agl (x1 x2 x3 x4 x5:Y):letI a:=(((((((((((((aq (0:Y).toNat (0:Y))++([IntKind.u8.wrap<|x1.fdiv<|2^(24)]))++([IntKind.u8.wrap<|x1.fdiv<|2^(16)]))++([IntKind.u8.wrap<|x1.fdiv<|2^(8)]))++([IntKind.u8.wrap<|x1.fdiv<|2^(0)]))++([IntKind.u8.wrap<|x2.fdiv<|2^(0)]))++([IntKind.u8.wrap<|x3.fdiv<|2^(0)]))++([IntKind.u8.wrap<|x4.fdiv<|2^(24)]))++([IntKind.u8.wrap<|x4.fdiv<|2^(16)]))++([IntKind.u8.wrap<|x4.fdiv<|2^(8)]))++([IntKind.u8.wrap<|x4.fdiv<|2^(0)]))++([IntKind.u8.wrap<|x5.fdiv<|2^(8)]))++([IntKind.u8.wrap<|x5.fdiv<|2^(0)]));(Bl prog AV LZ kN (λi=>if i=4 then (JG prog AV LZ G9 20 2 WG) else Ak i) f159 [.v<|.agg #[x1,x2,x3,x4,x5]]).red=.req (0<=(0:Y)/\(0:Y)<=(12:Y)/\1*(12:Y)<=2^48/\(12:Y)<2^63) (.req (0<=(24:Y))<|.ra 0 0 1 1<|.req (0<=(16:Y))<|.ra 1 1 2 1<|.req (0<=(8:Y))<|.ra 2 2 3 1<|.req (0<=(0:Y))<|.ra 3 3 4 1<|.req (0<=(0:Y))<|.ra 4 4 5 1<|.req (0<=(0:Y))<|.ra 5 5 6 1<|.req (0<=(24:Y))<|.ra 6 6 7 1<|.req (0<=(16:Y))<|.ra 7 7 8 1<|.req (0<=(8:Y))<|.ra 8 8 9 1<|.req (0<=(0:Y))<|.ra 9 9 10 1<|.req (0<=(8:Y))<|.ra 10 10 11 1<|.req (0<=(0:Y))<|.ra 11 11 12 1<|.req (0+12<=M a)<|.ok<|.xl (.int aw)<|(a.drop 0).take 12):=AU
def aVU:=vm (S:=aTe) func159 LZ kN (L:=(λi=>if i=4 then (JG prog AV LZ G9 20 2 WG) else Ak i)) (λb hb=>by
 rw [show BD _=[WG] by kernel_rfl] at hb
 simp only [BA,Bu,Bs] at hb;subst hb;exact aqY) (λargs lv h=>by
 refine ⟨?_⟩;unfold aTe at h;split at h
 ·simp only [canL,canX]
  refine @T.WT _ _ _ ?_;rw [agl];obtain rfl:=h
  iterate 25 refine ⟨Ab,?_⟩
  refine ⟨At _,?_⟩;simp only [T.all,Int.pow_zero,Int.fdiv_one];rfl
 ·cases h)
def upZ (d:aWd):Le:=if M d=12 then GN d else (0,0,0,0,0)
def aTc:aWf->T LV
 | [.xl (.int aw) d]=> .req (BJ d) (.tu #[.agg #[(upZ d).1,(upZ d).2.1,(upZ d).2.2.1,(upZ d).2.2.2.1,(upZ d).2.2.2.2],an<|M d=12])
 |_=> .no
def WE:=bN f32 0
def aqW:Sound prog AV (.loop WE) (JG prog AV LZ G9 20 2 WE):=Sz (gk LZ) kN.h 20 2 WE
def agk (d:aWd):letI a:=(M d:Y);letI b:=AA<|0*2^8;(Bl prog AV LZ kN (λi=>if i=6 then (JG prog AV LZ G9 20 2 WE) else Ak i) f32 [.xl (.int aw) d]).aD3=.br (a !=12) (.tu #[.agg #[(0:Y),(0:Y),(0:Y),(0:Y),(0:Y)],X]) (.req (0<=(0:Y)/\0<a)<|.req (0<=(1:Y)/\1<a)<|.req (0<=(2:Y)/\2<a)<|.req (0<=(3:Y)/\3<a)<|.req (0<=(4:Y)/\4<a)<|.req (0<=(5:Y)/\5<a)<|.req (0<=(6:Y)/\6<a)<|.req (0<=(7:Y)/\7<a)<|.req (0<=(8:Y)/\8<a)<|.req (0<=(9:Y)/\9<a)<|.req (0<=(10:Y)/\10<a)<|.req (0<=(11:Y)/\11<a)<|.tu #[.agg #[DY J (AA<|(DY J (AA<|(DY J (AA<|(DY J b<|AA<|gi d (0:Y))*2^8)<|AA<|gi d (1:Y))*2^8)<|AA<|gi d (2:Y))*2^8)<|AA<|gi d (3:Y),DY J b<|AA<|gi d (4:Y),DY J b<|AA<|gi d (5:Y),DY J (AA<|(DY J (AA<|(DY J (AA<|(DY J b<|AA<|gi d (6:Y))*2^8)<|AA<|gi d (7:Y))*2^8)<|AA<|gi d (8:Y))*2^8)<|AA<|gi d (9:Y),DY J (AA<|(DY J b<|AA<|gi d (10:Y))*2^8)<|AA<|gi d (11:Y)],U]):=AU
def o8 {a b:Y}(h0:0<=a) (h1:a<1099511627776) (hb:0<=b/\b<=255):DY J (AA<|a*2^8) (AA b)=a*256+b:=by
 rw [AJ (x:=a*2^8),AJ (x:=b)];obtain ⟨a,rfl⟩:=Q2 h0;obtain ⟨b,rfl⟩:=Q2 hb.1
 have e:∀n:aWe,n<4611686018427387904->(BitVec.ofInt (IntKind.bits J) (n:Y)).toNat=n:=λn hn=>by
  show (BitVec.ofInt 64 (n:Y)).toNat=n
  rw [BitVec.toNat_ofInt];omega
 unfold DY;rw [show (a:Y)*2^8=((a*2^8:aWe):Y) by omega,BitVec.toNat_or,e _ A0,e _ A0,gP A0]
 show AA _=_
 rw [AJ];omega
def aBL {w:Y}(hw:0<=w/\w<=255):DY J (AA<|0*2^8) (AA w)=w:=by
 rw [o8 A0 A0 hw];omega
def aaN {z w:Y}(hz:0<=z/\z<=255) (hw:0<=w/\w<=255):DY J (AA<|DY J (AA<|0*2^8) (AA z)*2^8) (AA w)=z*256+w:=by
 rw [aBL hz,o8 A0 A0 hw]
def aaM {x y z w:Y}(hx:0<=x/\x<=255) (hy:0<=y/\y<=255) (hz:0<=z/\z<=255) (hw:0<=w/\w<=255):
  DY J (AA<|DY J (AA<|DY J (AA<|DY J (AA<|0*2^8) (AA x)*2^8) (AA y)*2^8) (AA z)*2^8) (AA w)=x*16777216+y*65536+z*256+w:=by
 rw [aaN hx hy,o8 A0 A0 hz,o8 A0 A0 hw];omega
def aja:=vm (S:=aTc) func32 LZ kN (L:=(λi=>if i=6 then (JG prog AV LZ G9 20 2 WE) else Ak i)) (λb hb=>by
 rw [show BD _=[WE] by kernel_rfl] at hb
 simp only [BA,Bu,Bs] at hb;subst hb;exact aqW) (λargs lv h=>by
 refine ⟨?_⟩;unfold aTc at h;split at h
 ·simp only [canL,canX]
  refine @T.aH6 _ _ _ ?_;rw [agk];rename_i d;obtain ⟨hb,rfl⟩:=h;refine ⟨λc=>?_,λc=>?_⟩
  ·have hl:¬(M d)=12:=VX
   unfold upZ;rw [AE hl,IP hl];rfl
  have hl:M d=12:=VX
  iterate 12 refine ⟨⟨Ab,A0⟩,?_⟩
  have b:=λi=>aB5 hb i
  unfold upZ;rw [AD hl,Cg hl,aaM (b 0) (b 1) (b 2)<|b 3,aBL<|b 4,aBL<|b 5,aaM (b 6) (b 7) (b 8)<|b 9,aaN (b 10)<|b 11];rfl
 ·cases h)
def aUF:aWf->T LV
 | [.agg [.v (ag J se),.xl (.int aw) fl]]=> .req (BJ fl) (.ok<|.AO [.xl (.sl<|.int aw)<|FB se fl,Br se fl])
 |_=> .no
def aiL:aWp:=[fj]
def ake:=vo (S:=aUF) func31 aiL kN (λargs lv h=>by
 unfold aUF at h;split at h
 ·rename_i se fl
  refine Aq (.req (BJ fl)<|.br ((Br se fl) !=0) (.ok<|.AO [.xl (.sl<|.int aw) ([]:aWk),(Br se fl)])<|.ok<|.AO [.xl (.sl<|.int aw)<|FB se fl,(0:Y)]) ?_;obtain ⟨h0,rfl⟩:=h;refine ⟨h0,λc=>?_,λc=>?_⟩
  ·have c:Br se fl≠0:=A8
   unfold FB;rw [AE c];rfl
  ·have c:Br se fl=0:=A8
   rw [c];rfl
 ·cases h)
def abO {b:aWd}:∀(n f:aWe),M (HX b n f).1<=n
 |0,_=>At _
 | n+1,f=>by
  simp only [HX];split
  ·split
   ·have:=abO (b:=b) n (f+7+G6 b f)
    grind
   ·grind
  ·grind
def aSt {b:aWd}(h:BJ b):∀(n f:aWe),∀d∈(HX b n f).1,BJ d
 |0,_,d,hd=>Vh
 | n+1,f,d,hd=>by
  simp only [HX] at hd;split at hd
  ·split at hd
   ·rcases BA.1 hd with rfl|hd
    ·exact λx hx=>h x<|Q4<|VE hx
    ·exact aSt h n _ d hd
   ·cases hd
  ·cases hd
def ahW {se:Y}{fl:aWd}(h:BJ fl) (hl:M fl<=4096):M (FB se fl)<=4096/\∀d∈FB se fl,BJ d:=by
 unfold FB;split
 ·have ha:=cu fl (Au fl)
  refine ⟨?_,aSt (λx hx=>?_) _ _⟩
  ·have:=abO (b:=Bn fl<|Au fl) (M<|Bn fl<|Au fl) 5
   unfold Ez;omega
  ·unfold Bn at hx
   split at hx
   ·exact h x<|VE hx
   ·exact h x<|Q4<|VE hx
 ·grind
def am5 {l:aWk}(h:∀d∈l,BJ d) {i:Y}(h0:0<=i) (h1:i<(M l:Y)):BJ (gx (e:=.sl<|.int aw) l i):=by
 grind
structure Nj where
 e:Y
 l:aWk
 (n i:Y)
 out:aWn
def aGO:=bN f10 0
def zJ (s:Nj):T (Rd Nj):=
 .br (an<|s.i<s.n) (.ix s.i (M s.l)<|.req (BJ<|gx (e:=.sl<|.int aw) s.l s.i)<|.br (!(an<|M (gx (e:=.sl<|.int aw) s.l s.i)=12)) (.rl s.out<|.so (.ret) {s with e:=(9:Y)})<|.rb (M s.out) (M<|[upZ<|gx (e:=.sl<|.int aw) s.l s.i]) 40<|.re (M s.out+M ([upZ<|gx (e:=.sl<|.int aw) s.l s.i])) (s.out++([upZ<|gx (e:=.sl<|.int aw) s.l s.i]))<|.nx {s with i:=AA<|s.i+1,out:=s.out++([upZ<|gx (e:=.sl<|.int aw) s.l s.i])}) (.rl s.out<|.so (.exit 0) s)
def kg (s:Nj):Prop:=s.i=0/\s.n<=5000/\s.n=(M s.l:Y)/\(∀d∈s.l,BJ d)/\(M s.out:Y)<=s.i
def jl (s:Nj):Prop:=0<=s.i/\s.i<=s.n/\s.n<=5000/\s.n=(M s.l:Y)/\(∀d∈s.l,BJ d)/\(M s.out:Y)<=s.i
def ug (s:Nj):aWe:=(s.n-s.i).toNat
def acV (x:Ex) (s s':Nj):Prop:=True
def aju:∀s,kg s->jl s:=by
 exact aI
def ax6:Da jl ug acV zJ:=by
 intro s hI;obtain ⟨h0,h1,h2,h3,h4,h5⟩:=hI;refine AH (λc1=>AH (λc2=>trivial) λc2=>?_) λc1=>trivial
 ·have c1:s.i<s.n:=A8
  rw [AJ (x:=s.i+1)];exact ⟨⟨A8,A8,h2,h3,h4,A8⟩,by simp only [ug];omega⟩
def Rv:AS Nj:=⟨0,50,[2,3,6,28,29,30],[.nl 6 65 AQ],λs=>[.v<|.slice aj 0 0,s.e,.os 0 5 0<|M s.out,.xl (.sl<|.int aw) s.l,s.n,s.i],λs=>[bV 65 AQ s.out],λv b=>⟨AK v 1,Az (.sl<|.int aw) v 3,AK v 4,AK v 5,Ac AQ b 0⟩,zJ,λs r=> {r with l:=s.l,n:=s.n},λs=>s,λ_ s=>s,[.ret,.exit 0],kg,jl,ug⟩
abbrev oR:=Rv.run
abbrev fV:=Rv.As
def ayB:Rq jl zJ:=by
 intro s hI;refine ⟨λc1=>⟨?_,?_,λc2=>⟨A9,ak⟩,λc2=>⟨?_,?_,ak⟩⟩,λc1=>⟨A9,ak⟩⟩
 all_goals ((obtain ⟨h0,h1,h2,h3,h4,h5⟩:=hI;have c1:s.i<s.n:=A8;have hb:=am5 h4 h0 A0;(first|exact hb|omega|(simp only [Bj,Bt];omega) |(simp only [BL,Bj,Bt,FR]))))
def aTE:aWp:=[Wf,ake,aja]
def aRQ:Rv.Ok:={}
def aR2:Rv.Pf (acV):=⟨aju,λs h=>rfl,ax6,ayB⟩
def aqd:SA 0 aGO Rv:=s1 aRQ aR2 aTE kN
def aqz:Rs kg fV oR (λs:Nj=>(s.out++(s.l.drop s.i.toNat).map GN,ldB<|s.l.drop s.i.toNat)) (λx s' (v:List Le×Bool)=>(x=.ret/\s'.e=9/\v.2=X)\/(x=.exit 0/\v=(s'.out,U))):=DU aRQ aR2 (λs hI=>by
  obtain ⟨h0,h1,h2,h3,h4,h5⟩:=hI;refine AH (λc1=>AH (λc2=>?_) λc2=>?_) λc1=>?_
  ·have c1:s.i<s.n:=A8
   refine .inl ⟨rfl,rfl,?_⟩;simp only [Wa h0 (show s.i<(M s.l:Y) by omega),ldB,Io,xJ,CQ]
   grind
  ·have c1:s.i<s.n:=A8
   have c2:M (gx (e:=.sl<|.int aw) s.l s.i)=12:=A8
   have hz:upZ (gx (e:=.sl<|.int aw) s.l s.i)=GN (gx (e:=.sl<|.int aw) s.l s.i):=AD c2
   rw [AJ (x:=s.i+1),hz]
   show (_++[_]++_,_)=(_++_,_)
   rw [Wa h0 A0];simp only [ET,Ct,KG,EX,ldB,Io,c2,OS,EU]
  ·have c1:s.n<=s.i:=A8
   refine .inr ⟨rfl,?_⟩;rw [F6 A0]
   simp [ldB])
def aUa:aWf->T LV
 | [.agg [.v (ag J se),.xl (.int aw) fl]]=> .req (BJ fl) (.ok<|.AO [Ad se fl,C2 se fl])
 |_=> .no
def QM (se:Y) (fl:aWd):Nj:=(⟨0,FB se fl,(M (FB se fl):Y),0,([]:aWn)⟩:Nj)
def XT:=vm (S:=aUa) func10 aTE kN (L:=(λi=>if i=8 then Rv.lp else Ak i)) (λb hb=>by
 rw [show BD _=[aGO] by kernel_rfl] at hb
 simp only [BA,Bu,Bs] at hb;subst hb;exact aqd) (λargs lv h=>by
 unfold aUa at h;split at h
 ·rename_i se fl
  refine Aq (letI a:=oR<|QM se fl;letI b:=(a.out.drop 0).take<|M a.out;.br ((se !=512) ||((M fl:Y) !=2048)) (.ok<|.AO [.xl AQ ([]:aWn),(1:Y)])<|.req (BJ fl)<|.br ((Br se fl) !=0) (.ok<|.AO [.xl AQ ([]:aWn),(Br se fl)])<|.r0 Le<|.req (Rv.q<|QM se fl)<|.br (Bb (fV<|QM se fl)<|.ret) (.ok<|.AO [.xl AQ ([]:aWn),a.e])<|.rz a.out<|.br (!(B4 b)) (.ok<|.AO [.xl AQ ([]:aWn),(9:Y)])<|.rz a.out<|.ok<|.AO [b,(0:Y)]) ?_;obtain ⟨hb,rfl⟩:=h
  have bad:∀e:Y,e≠0->C2 se fl=e->LV.AO [.xl AQ ([]:aWn),.v<|ag J e]=LV.AO [.xl AQ<|Ad se fl,.v<|ag J<|C2 se fl]:=λe h0 h1=>by unfold Ad;rw [h1,AE h0]
  refine ⟨λc1=>bad 1 Ab (by unfold C2;exact AD c1),λc1=>⟨hb,λc2=>?_,λc2=>?_⟩⟩
  all_goals have h0:¬((!(se==512) || !((M fl:Y)==2048))=U):=A8
  ·have c2:Br se fl≠0:=EY
   exact bad _ c2 (by unfold C2;rw [AE h0,AD c2])
  have hk:Br se fl=0:=EY
  have hl:M fl=2048:=by simp at h0;omega
  have hR:FB se fl=(Ez fl).1:=AD hk
  obtain ⟨n1,n2⟩:=ahW (se:=se) hb A0
  have hV:kg (QM se fl):=⟨rfl,by show (M (FB se fl):Y)<=5000;omega,rfl,n2,yN⟩
  have q:(fV (QM se fl)=.ret/\(oR<|QM se fl).e=9/\ldB (FB se fl)=X)\/(fV (QM se fl)=.exit 0/\((FB se fl).map GN,ldB<|FB se fl)=((oR<|QM se fl).out,U)):=aqz _ hV
  have hk':¬Br se fl≠0:=λh=>h hk
  refine ⟨A9,⟨hV,rfl,rfl⟩,λc3=>?_,λc3=>?_⟩
  ·rcases q with ⟨_,q2,q3⟩ |⟨q1,_⟩
   ·rw [q2]
    exact bad 9 Ab (by unfold C2;rw [AE h0,AE hk',<-hR,AE (by rw [q3];decide)])
   ·rw [WY c3] at q1;cases q1
  rcases q with ⟨q1,_⟩ |⟨_,q2⟩
  ·rw [q1] at c3;simp [Bb] at c3
  simp only [B0] at q2;rw [<-q2.1,CT,El];refine ⟨A0,λc4=>?_,λc4=>⟨A0,?_⟩⟩
  ·exact bad 9 Ab (by unfold C2;rw [AE h0,AE hk',<-hR,AD q2.2,AE yq])
  ·have hE:C2 se fl=0:=by unfold C2;rw [AE h0,AE hk',<-hR,AD q2.2,AD yq]
   unfold Ad;rw [hE,AD rfl,hR];rfl
 ·cases h)
def aAu {se:Y}{fl:aWd}(h:C2 se fl=0):B4 (Ad se fl)=true:=by
 unfold Ad;rw [AD h];unfold C2 at h;split at h
 ·cases h
 ·split at h
  ·grind
  ·split at h
   ·split at h
    ·assumption
    ·cases h
   ·cases h
def aTf:aWf->T LV
 | [.agg [.v (ag J se),.xl (.int aw) fl]]=> .req (BJ fl) (.tu #[JY se fl,ID se fl])
 |_=> .no
def aiK:aWp:=[XT]
def ajb:=vo (S:=aTf) func55 aiK kN (λargs lv h=>by
 unfold aTf at h;split at h
 ·rename_i se fl
  refine Aq (letI b:=(M (Ad se fl):Y);letI c:=Ag (Ad se fl)<|AA<|b-1;.req (BJ fl)<|.br ((C2 se fl) !=0) (.tu #[(0:Y),(C2 se fl)])<|.br (b==0) (.tu #[(1:Y),(0:Y)])<|.ix (AA<|b-1) (M<|Ad se fl)<|.br (c.1==1000000) (.tu #[(0:Y),(10:Y)])<|.tu #[(AA<|c.1+1),(0:Y)]) ?_;obtain ⟨hb,rfl⟩:=h
  have fin:∀a e:Y,a=JY se fl->e=ID se fl->LV.v (.tuple #[ag J a,ag J e])=LV.v (.tuple #[ag J<|JY se fl,ag J<|ID se fl]):=λa e h1 h2=>zG
  refine ⟨hb,λc1=>?_,λc1=>⟨λc2=>?_,λc2=>?_⟩⟩
  ·have c1:C2 se fl≠0:=AX
   refine fin _ _ ?_ ?_<;>simp [JY,ID,c1]
  all_goals have c1:C2 se fl=0:=AX
  ·have c2:M (Ad se fl)=0:=A8
   refine fin _ _ ?_ ?_<;>simp [JY,ID,c1,c2]
  ·have c2:¬(M<|Ad se fl)=0:=A8
   have hv:=GH<|aAu c1
   have hw:AA ((M (Ad se fl):Y)-1)=(M (Ad se fl):Y)-1:=AJ
   have hn:=LQ.1<|hv.2 _<|J8 (l:=Ad se fl) (i:=(M (Ad se fl):Y)-1) A0 A0
   rw [hw];refine ⟨⟨A0,A0⟩,λc3=>?_,λc3=>?_⟩
   ·refine fin _ _ ?_ ?_<;>simp at c3<;>simp [JY,ID,c1,c2,c3]
   ·rw [AJ]
    refine fin _ _ ?_ ?_<;>simp at c3<;>simp [JY,ID,c1,c2,c3]
 ·cases h)
def aKk:aWf->T LV
 | [.v (ag J n),.v (ag J a),.v (ag J b)]=> .ok (inB n a b)
 |_=> .no
def anX:aWp:=[]
def aPv:=vo (S:=aKk) func113 anX kN (λargs lv h=>by
 unfold aKk at h;split at h
 ·rename_i n a b
  refine Aq (.ok<|.v<|.bool<|(an<|n>=a)&&(an<|n<=b)) ?_;exact h
 ·cases h)
def aU5:aWf->T LV
 | [.v (.agg ⟨[ag J k,ag J ph,ag J mx,ag J nd,ag J dl]⟩)]=> .ok (GW (k,ph,mx,nd,dl))
 |_=> .no
def aB7:aWp:=[aPv]
def aa5:=vo (S:=aU5) func87 aB7 kN (λargs lv h=>by
 unfold aU5 at h;split at h
 ·rename_i k ph mx nd dl
  refine Aq (.ok<|.v<|.bool<|(inB k (0:Y) (4:Y))&&((inB ph (1:Y) (7:Y))&&((inB mx (1:Y) (80:Y))&&((inB nd (0:Y) (1000000000:Y))&&((inB dl (0:Y) (20:Y))&&((k !=3) ||(an<|dl>=1))))))) ?_;exact h
 ·cases h)
structure Lz where
 r:aWo
 l:aWd
 (n i:Y)
def aJy:=bN f112 0
def aCx (s:Lz):T (Rd Lz):=
 .br (an<|s.i<s.n) (.ix s.i (M s.l)<|.br (!(inB (gi s.l s.i) (0:Y) (80:Y))) (.so (.ret) {s with r:=X})<|.nx {s with i:=AA<|s.i+1}) (.so (.exit 0) s)
def SH (s:Lz) (j:Y):aWo:=inB (gi s.l j) 0 80
def nq (s:Lz):Prop:=s.i=0/\0<=s.n/\s.n<=1000/\s.n=(M s.l:Y)
def cA (s:Lz):Prop:=0<=s.i/\s.i<=s.n/\s.n<=1000/\(s.n=(M s.l:Y))/\∀j:aWe,(j:Y)<s.i->SH s j=U
def aAv (s:Lz):aWe:=(s.n-s.i).toNat
def wZ (x:Ex) (s s':Lz):Prop:=(x=.exit 0/\∀j:aWe,(j:Y)<s'.n->SH s' j=U)\/(x=.ret/\s'.r=X/\∃j:aWe,(j:Y)<s'.n/\SH s' j=X)
def ao8:∀s,nq s->cA s:=by
 exact KH
def ajt:Da cA aAv wZ aCx:=by
 intro s hI;obtain ⟨h0,h1,h2,h3,h4⟩:=hI;refine AH (λc1=>AH (λc2=>?_) λc2=>?_) λc1=>?_
 ·have c1:s.i<s.n:=AX
  refine .inr ⟨rfl,rfl,s.i.toNat,A8,?_⟩
  have hg:SH s s.i=false:=by unfold SH;simp_all
  exact hg
 ·have c1:s.i<s.n:=AX
  have hg:SH s s.i=true:=by unfold SH;simp_all
  rw [AJ (x:=s.i+1)];refine ⟨⟨A8,A8,h2,h3,λj hj=>?_⟩,by simp only [aAv];omega⟩
  exact LF
 ·exact Sn
def SJ:AS Lz:=⟨0,32,[2,22,23,24],[],λs=>[s.r,.xl A7 s.l,s.n,s.i],λ_=>[],λv b=>⟨DQ v 0,Az A7 v 1,AK v 2,AK v 3⟩,aCx,λs r=> {r with l:=s.l,n:=s.n},λs=>s,λ_ s=>s,[.ret,.exit 0],nq,cA,aAv⟩
abbrev aQ4:=SJ.run
abbrev aT3:=SJ.As
def akC:Rq cA aCx:=by
 exact Sl
def aVb:SJ.Ok:={}
def aVn:SJ.Pf (wZ):=⟨ao8,λs h=>rfl,ajt,akC⟩
def axF:SA 0 aJy SJ:=s1 aVb aVn aB7 kN
def ax5:Fi nq cA wZ aT3 aQ4:=AS.fin aVb aVn
def aUZ:aWf->T LV
 | [.agg [.xl (.int J) pil,.v (ag J tk),.v (ag J got)]]=> .ok (IE (pil,tk,got))
 |_=> .no
def ajc:=vm (S:=aUZ) func112 aB7 kN (L:=(λi=>if i=4 then SJ.lp else Ak i)) (λb hb=>by
 rw [show BD _=[aJy] by kernel_rfl] at hb
 simp only [BA,Bu,Bs] at hb;subst hb;exact axF) (λargs lv h=>by
 unfold aUZ at h;split at h
 ·rename_i pil tk got
  refine Aq (letI a:=(M pil:Y);.br ((an<|a>21) ||((!(inB tk (0:Y) (1000000:Y))) ||(!(inB got (0:Y) (2000000000:Y))))) (.ok X)<|.req (SJ.q (⟨X,pil,a,0⟩:Lz))<|.br (Bb (aT3 (⟨X,pil,a,0⟩:Lz))<|.ret) (.ok (aQ4 (⟨X,pil,a,0⟩:Lz)).r)<|.ok U) ?_;obtain rfl:=h;refine ⟨λc1=>B3 (λz=>LV.v<|.bool z) ?_,λc1=>?_⟩
  ·rw [Sk,IM]
   intro hm
   have:=di.1 hm
   simp [inB] at c1
   simp only at this;omega
  ·have hE:nq ⟨X,pil,(M pil:Y),0⟩:=by simp [inB] at c1;exact ⟨rfl,AI,A8,rfl⟩
   obtain ⟨s',hI,hq⟩:=ax5 _ hE
   have hm:IE (pil,tk,got)=pil.all (λp=>inB p 0 80):=by
    simp [inB] at c1
    have h21:M pil<=21:=A0
    simp [IE,inB,h21,c1]
   rw [hm,aTZ];refine ⟨⟨hE,rfl,rfl⟩,?_⟩;rcases hq with ⟨q1,q2⟩ |⟨q1,q2,j,q3,q4⟩<;>rw [q1]
   ·rw [show Dp (M pil) (λj=>inB (gi pil j) 0 80)=U from Dx.2 q2]
    exact ⟨λh=>Ao,λ_=>rfl⟩
   ·rw [q2,show Dp (M pil) (λj=>inB (gi pil j) 0 80)=X from Qe j q3 q4]
    exact ⟨λ_=>rfl,λh=>Ao⟩
 ·cases h)
structure O4 where
 p:PK
 ev:EW
def Ua (s:O4):aWf:=[.own 16 0]
def ZC (s:O4):aWi:=[AP,AP,zB,AP,bV 79 Af s.p.cs,bV 65 AQ s.p.ls,bV 5 (.int aw) s.p.fl,bV 139 Ap s.p.ra,bV 107 B7 s.p.st,bV 57 AQ s.p.ca,bV 123 B9 s.p.mi,bV 110 BS s.p.me,bV 59 Aw s.p.dm,bV 68 BP s.p.lk,bV 3 A7 s.p.dr,bV 3 A7 s.p.tg,⟨[.os 4 11 0<|M s.p.cs,.xl .str s.p.os,.xl Al s.p.ks,.xl Ah s.p.gs,.xl Am s.p.bs,.v<|ag J s.p.tk,.v<|.bool s.p.up,.os 5 5 0<|M s.p.ls,.v<|ag J s.p.se,.os 6 1 0<|M s.p.fl,.os 7 2 0<|M s.p.ra,.v<|ag J s.p.nx,.os 8 4 0<|M s.p.st,.os 9 5 0<|M s.p.ca,.os 10 3 0<|M s.p.mi,.os 11 3 0<|M s.p.me,.os 12 4 0<|M s.p.dm,.os 13 6 0<|M s.p.lk,.os 14 1 0<|M s.p.dr,.os 15 1 0<|M s.p.tg,.v<|ag J s.ev.ek,.v<|ag J s.ev.en,.v<|ag J s.ev.em,.v<|ag J s.ev.c1,.v<|ag J s.ev.c2,.v<|ag J s.ev.c3,.v<|ag J s.ev.c4,.v<|ag J s.ev.c5,.v<|.bool s.ev.d1,.v<|ag J s.ev.d2,.v<|ag J s.ev.d3,.v<|ag J s.ev.d4,.v<|.slice aj 0 0],97,.cl,X⟩]
structure YS where
 res:Y
 p:PK
 ev:EW
def acD (s:YS):LV:=.v<|ag J s.res
def abY (s:YS):aWi:=[AP,AP,zB,AP,bV 79 Af s.p.cs,AP,AP,AP,bV 107 B7 s.p.st,bV 57 AQ s.p.ca,bV 123 B9 s.p.mi,bV 110 BS s.p.me,bV 59 Aw s.p.dm,bV 68 BP s.p.lk,bV 3 A7 s.p.dr,bV 3 A7 s.p.tg,⟨[.os 4 11 0<|M s.p.cs,.xl .str s.p.os,.xl Al s.p.ks,.xl Ah s.p.gs,.xl Am s.p.bs,.v<|ag J s.p.tk,.v<|.bool s.p.up,.xl AQ s.p.ls,.v<|ag J s.p.se,.xl (.int aw) s.p.fl,.xl Ap s.p.ra,.v<|ag J s.p.nx,.os 8 4 0<|M s.p.st,.os 9 5 0<|M s.p.ca,.os 10 3 0<|M s.p.mi,.os 11 3 0<|M s.p.me,.os 12 4 0<|M s.p.dm,.os 13 6 0<|M s.p.lk,.os 14 1 0<|M s.p.dr,.os 15 1 0<|M s.p.tg,.v<|ag J s.ev.ek,.v<|ag J s.ev.en,.v<|ag J s.ev.em,.v<|ag J s.ev.c1,.v<|ag J s.ev.c2,.v<|ag J s.ev.c3,.v<|ag J s.ev.c4,.v<|ag J s.ev.c5,.v<|.bool s.ev.d1,.v<|ag J s.ev.d2,.v<|ag J s.ev.d3,.v<|ag J s.ev.d4,.v<|.slice aj 0 0],97,.cl,X⟩]
def iH (s:O4):T YS:=letI b:=(M s.p.gs:Y);letI c:=s.p.fl.drop 0;letI d:=M s.p.fl;letI e:=(aq b.toNat ((0:Y),(0:Y)));letI f:=s.p.ls.drop 0;letI g:=M s.p.ls;letI h:=s.p.ra.drop 0;letI i:=M s.p.ra;letI a:=c.take d;letI j:=Cm (Ad s.p.se a) s.p.tk;.br s.p.up (.rz s.p.ls<|.rz s.p.fl<|.rz s.p.ra<|.rl s.p.cs<|.pb s.p<|.ok<|⟨6,{s.p with ls:=f.take g,fl:=c.take d,ra:=h.take i},s.ev⟩)<|.rz s.p.fl<|.req (BJ a)<|.br ((C2 s.p.se a) !=0) (.rz s.p.ls<|.rz s.p.fl<|.rz s.p.ra<|.rl s.p.cs<|.pb s.p<|.ok<|⟨C2 s.p.se a,{s.p with ls:=f.take g,fl:=c.take d,ra:=h.take i},s.ev⟩)<|.br (j !=0) (.rz s.p.ls<|.rz s.p.fl<|.rz s.p.ra<|.rl s.p.cs<|.pb s.p<|.ok<|⟨j,{s.p with ls:=f.take g,fl:=c.take d,ra:=h.take i},s.ev⟩)<|.rz s.p.fl<|.req (BJ a)<|.br ((ID s.p.se a) !=0) (.rz s.p.ls<|.rz s.p.fl<|.rz s.p.ra<|.rl s.p.cs<|.pb s.p<|.ok<|⟨ID s.p.se a,{s.p with ls:=f.take g,fl:=c.take d,ra:=h.take i},s.ev⟩)<|.rm 16 b<|.rz s.p.fl<|.req (0+b.toNat<=M e)<|.rl s.p.cs<|.pb s.p<|.ok<|⟨0,{s.p with up:=U,ls:=BB (Ad s.p.se a) s.p.tk,fl:=c.take d,ra:=(e.drop 0).take b.toNat,nx:=JY s.p.se a},s.ev⟩
def aCX (s:O4):Prop:=BJ s.p.fl/\M s.p.gs<=1000
def R3 (s:O4):YS:=⟨PK.F9 s.p,JW (PK.F9 s.p) (PK.Qz s.p) s.p,s.ev⟩
def aCI:D8 O4 YS:=⟨Ua,ZC,λv b=>⟨rF b,rG b⟩,aCX,[0,1,3],[.pc 16 7 AQ,.kb 5,.pc 16 9<|.int aw,.kb 6,.pc 16 10 Ap,.kb 7],acD,abY,R3⟩
abbrev ak0 (s:O4):Prop:=aCX s/\Ua s=Ua s/\ZC s=ZC s
def fv:aWp:=[fk,XT,ajb]
def aV2:DS:=CV 53 18 2 (Kr.lp)<|CV 30 0 9 (Gu.lp)<|E5 prog AV (fv) 20 2
def aqR:Eb prog AV aV2:=DM func53 rfl AU KV<|DM func30 rfl AU Cu<|Hv<|gk fv
def ag5 (s:O4):((Ep prog AV fv aV2 G9).k 27 (Ua s)<|ZC s).bind (λq=>GM (M<|ZC s) [0] [.pc 16 7 AQ,.kb 5,.pc 16 9<|.int aw,.kb 6,.pc 16 10 Ap,.kb 7] .normal (q.1::Ua s) q.2)=(iH s).mp (λs2=>⟨.normal,M (Ua s)+1,[acD s2],abY s2,U⟩):=AU
def axT (s:O4) (hE:aCX s):(iH s).all (λq=>q=R3 s):=by
 obtain ⟨h1,h2⟩:=hE;unfold iH;simp only [TN];refine ⟨λc=>?_,λc=>?_⟩
 ·have he:s.p.F9=6:=by unfold PK.F9;rw [AD c]
  repeat (refine ⟨AI,?_⟩)
  show _=_
  unfold R3;rw [Jn MC];rw [he]
 have hu:¬s.p.up=true:=VY
 repeat (refine ⟨A0,?_⟩)
 refine ⟨λc1=>?_,λc1=>?_⟩
 ·have c1:C2 s.p.se s.p.fl≠0:=Dv.1 c1
  have he:s.p.F9=C2 s.p.se s.p.fl:=by unfold PK.F9;rw [AE hu,AD c1]
  repeat (refine ⟨AI,?_⟩)
  show _=_
  unfold R3;rw [Jn yd];rw [he]
 have c1:¬C2 s.p.se s.p.fl≠0:=λh=>aP2
 refine ⟨λc2=>?_,λc2=>?_⟩
 ·have c2:Cm (Ad s.p.se s.p.fl) s.p.tk≠0:=Dv.1 c2
  have he:s.p.F9=Cm (Ad s.p.se s.p.fl) s.p.tk:=by unfold PK.F9;rw [AE hu,AE c1,AD c2]
  repeat (refine ⟨AI,?_⟩)
  show _=_
  unfold R3;rw [Jn yd];rw [he]
 have c2:¬Cm (Ad s.p.se s.p.fl) s.p.tk≠0:=λh=>by rw [Dv.2 h] at c2;cases c2
 repeat (refine ⟨A0,?_⟩)
 refine ⟨λc3=>?_,λc3=>?_⟩
 ·have c3:ID s.p.se s.p.fl≠0:=Dv.1 c3
  have he:s.p.F9=ID s.p.se s.p.fl:=by unfold PK.F9;rw [AE hu,AE c1,AE c2]
  repeat (refine ⟨AI,?_⟩)
  show _=_
  unfold R3;rw [Jn yd];rw [he]
 have c3:ID s.p.se s.p.fl=0:=Zf λh=>by rw [Dv.2 h] at c3;cases c3
 have he:s.p.F9=0:=by unfold PK.F9;rw [AE hu,AE c1,AE c2,c3]
 rw [show (aq (M s.p.gs:Y).toNat ((0:Y),(0:Y))).drop 0=aq (M s.p.gs) (0,0) by rw [By];rfl,By,De (by rw [Ci];exact At _)]
 repeat (refine ⟨A8,?_⟩)
 show _=_
 unfold R3;rw [LW he];rw [he];rfl
def ajH:Dj prog AV 27 aCI.m:=D8.sound (D:=aCI) (t:=iH) (gk fv) aqR QR ag5 λs hE=>⟨axT s hE⟩
def S7 (c:Ca):Y:=if GW c=U then 0 else 1
def aKd:aWf->T LV
 | [.v (.agg ⟨[ag J x1,ag J x2,ag J x3,ag J x4,ag J x5]⟩)]=> .ok (.AO [.agg [.xl A7 ([]:aWd),(0:Y),(0:Y)],S7 (x1,x2,x3,x4,x5)])
 |_=> .no
def aiF:aWp:=[aa5]
def awt:=vo (S:=aKd) func49 aiF kN (λargs lv h=>by
 unfold aKd at h;split at h
 ·rename_i x1 x2 x3 x4 x5
  refine Aq (.br (!(GW (x1,x2,x3,x4,x5))) (.ok<|.AO [.agg [.xl A7 ([]:aWd),(0:Y),(0:Y)],(1:Y)])<|.ok<|.AO [.agg [.xl A7 ([]:aWd),(0:Y),(0:Y)],(0:Y)]) ?_;obtain rfl:=h;unfold S7;refine ⟨λc=>?_,λc=>?_⟩
  ·rw [AE A8]
   rfl
  ·rw [AD A8]
   rfl
 ·cases h)
structure Kq where
 (i k0 k1 k2:Y)
 p:PK
 ev:EW
def Ui (s:Kq):aWf:=[.own 16 0,s.i,.v<|.agg #[s.k0,s.k1,s.k2]]
def Yo (s:Kq):aWi:=[AP,AP,zB,AP,bV 79 Af s.p.cs,bV 65 AQ s.p.ls,bV 5 (.int aw) s.p.fl,bV 139 Ap s.p.ra,bV 107 B7 s.p.st,bV 57 AQ s.p.ca,bV 123 B9 s.p.mi,bV 110 BS s.p.me,bV 59 Aw s.p.dm,bV 68 BP s.p.lk,bV 3 A7 s.p.dr,bV 3 A7 s.p.tg,⟨[.os 4 11 0<|M s.p.cs,.xl .str s.p.os,.xl Al s.p.ks,.xl Ah s.p.gs,.xl Am s.p.bs,.v<|ag J s.p.tk,.v<|.bool s.p.up,.os 5 5 0<|M s.p.ls,.v<|ag J s.p.se,.os 6 1 0<|M s.p.fl,.os 7 2 0<|M s.p.ra,.v<|ag J s.p.nx,.os 8 4 0<|M s.p.st,.os 9 5 0<|M s.p.ca,.os 10 3 0<|M s.p.mi,.os 11 3 0<|M s.p.me,.os 12 4 0<|M s.p.dm,.os 13 6 0<|M s.p.lk,.os 14 1 0<|M s.p.dr,.os 15 1 0<|M s.p.tg,.v<|ag J s.ev.ek,.v<|ag J s.ev.en,.v<|ag J s.ev.em,.v<|ag J s.ev.c1,.v<|ag J s.ev.c2,.v<|ag J s.ev.c3,.v<|ag J s.ev.c4,.v<|ag J s.ev.c5,.v<|.bool s.ev.d1,.v<|ag J s.ev.d2,.v<|ag J s.ev.d3,.v<|ag J s.ev.d4,.v<|.slice aj 0 0],97,.cl,X⟩,AP,AP]
structure Ya where
 res:Y
 p:PK
 ev:EW
def acN (s:Ya):LV:=.v<|ag J s.res
def ace (s:Ya):aWi:=[AP,AP,zB,AP,bV 79 Af s.p.cs,bV 65 AQ s.p.ls,bV 5 (.int aw) s.p.fl,bV 139 Ap s.p.ra,bV 107 B7 s.p.st,bV 57 AQ s.p.ca,bV 123 B9 s.p.mi,bV 110 BS s.p.me,bV 59 Aw s.p.dm,bV 68 BP s.p.lk,bV 3 A7 s.p.dr,bV 3 A7 s.p.tg,⟨[.os 4 11 0<|M s.p.cs,.xl .str s.p.os,.xl Al s.p.ks,.xl Ah s.p.gs,.xl Am s.p.bs,.v<|ag J s.p.tk,.v<|.bool s.p.up,.os 5 5 0<|M s.p.ls,.v<|ag J s.p.se,.os 6 1 0<|M s.p.fl,.os 7 2 0<|M s.p.ra,.v<|ag J s.p.nx,.os 8 4 0<|M s.p.st,.os 9 5 0<|M s.p.ca,.os 10 3 0<|M s.p.mi,.os 11 3 0<|M s.p.me,.os 12 4 0<|M s.p.dm,.os 13 6 0<|M s.p.lk,.os 14 1 0<|M s.p.dr,.os 15 1 0<|M s.p.tg,.v<|ag J s.ev.ek,.v<|ag J s.ev.en,.v<|ag J s.ev.em,.v<|ag J s.ev.c1,.v<|ag J s.ev.c2,.v<|ag J s.ev.c3,.v<|ag J s.ev.c4,.v<|ag J s.ev.c5,.v<|.bool s.ev.d1,.v<|ag J s.ev.d2,.v<|ag J s.ev.d3,.v<|ag J s.ev.d4,.v<|.slice aj 0 0],97,.cl,X⟩,AP,AP]
def zu (s:Kq):T Ya:=letI c:=s.p.st.getD s.i.toNat<|Ty.dflt B7;letI d:=M s.p.st;letI a:=sE (AG s.p.gs s.i) c s.k0 s.k1 s.k2;letI b:=sN (AG s.p.gs s.i) c s.k0 s.k1 s.k2;.ix s.i (M s.p.gs)<|.ik s.i d<|.br (a==0) (.ik s.i d<|.pa s.p<|.re d (s.p.st.set s.i.toNat b)<|.rl s.p.ca<|.rl s.p.mi<|.rl s.p.me<|.rl s.p.dm<|.rl s.p.lk<|.rl s.p.dr<|.rl s.p.tg<|.ok<|⟨a,{s.p with st:=s.p.st.set s.i.toNat b},s.ev⟩)<|.pc s.p<|.ok<|⟨a,s.p,s.ev⟩
def aCg (s:Kq):Prop:=0<=s.i/\s.i<(M s.p.gs:Y)/\M s.p.st=M s.p.gs
def ij (s:Kq):Ya:=⟨sE (AG s.p.gs s.i) (BW s.p.st s.i) s.k0 s.k1 s.k2,{s.p with st:=CY s.p.gs s.p.st s.i s.k0 s.k1 s.k2},s.ev⟩
def aCl:D8 Kq Ya:=⟨Ui,Yo,λv b=>⟨AK v 1,gI<|EO (v.getD 2 .junk) 0,gI<|EO (v.getD 2 .junk) 1,gI<|EO (v.getD 2 .junk) 2,rF b,rG b⟩,aCg,[0,1,3,17,18],[],acN,ace,ij⟩
abbrev gZ (s:Kq):Prop:=aCg s/\Ui s=Ui s/\Yo s=Yo s
def fu:aWp:=[R1]
def aVA:DS:=CV 53 18 2 (Kr.lp)<|CV 30 0 9 (Gu.lp)<|E5 prog AV (fu) 20 2
def aqK:Eb prog AV aVA:=DM func53 rfl AU KV<|DM func30 rfl AU Cu<|Hv<|gk fu
end Go.Proofs.YtoifmkifedcnnaaGreatDoor
end
