/- Helpers for ParkTargets. Conditions: none. -/
import Derived.Test.YtmlcgekfmlidcaaGreatDoorQo3
set_option linter.defProp false
set_option linter.unusedVariables false
set_option linter.unusedSimpArgs false
noncomputable section
open List renaming length→M,length→aa,replicate→aq,range→au
open Bool renaming true→U,true→ae,false→X,false→af
open Go.Value renaming int→Y,int→ag
open Option renaming some→ah,none→aj
open Go.IntKind renaming i64→J,i64→ai,u8→aw,u32→ax
open True renaming intro→ak
open Decidable renaming decide→an
open ByteArray renaming mk→av
open Go.Region renaming ready→ay,wanted→az
open Go.Instr renaming findNow→aA
namespace Go.Proofs.YtmlcgekfmlidcaaGreatDoor
set_option maxRecDepth 100000
set_option maxHeartbeats 4000000
open Go.Proofs.Tryz
open Go.Sx
def WX (s:Ma) (j:Int):Bool:=raC (AG s.m j) (Bw s.rs j)&&HL (Dw s.d j)
def jn (s:Ma):Prop:=s.i=0/\0<=s.k/\s.k<=1000/\s.k=(M s.m:Int)/\M s.rs=M s.m/\M s.d=M s.m
def Y3 (s:Ma):Prop:=0<=s.i/\s.i<=s.k/\s.k<=1000/\(s.k=(M s.m:Int)/\M s.rs=M s.m/\M s.d=M s.m)/\∀j:Nat,(j:Int)<s.i->WX s j=U
def tM (s:Ma):Nat:=(s.k-s.i).toNat
def aAe (x:Ex) (s s':Ma):Prop:=(x=.exit 2/\∀j:Nat,(j:Int)<s'.k->WX s' j=U)\/(x=.ret/\s'.r=X/\∃j:Nat,(j:Int)<s'.k/\WX s' j=X)
def alV:∀s,jn s->Y3 s:=by
 exact Jx
theorem agf:Da Y3 tM aAe yw:=by
 intro s hI;obtain ⟨h0,h1,h2,h3,h4⟩:=hI;refine AH (λc1=>AH (λc2=>?_) λc2=>AH (λc3=>?_) λc3=>?_) λc1=>?_
 ·exact aL1
 ·exact aL1
 ·have c1:s.i<s.k:=AX
  have hg:WX s s.i=true:=aNF
  rw [AJ (x:=s.i+1)];refine ⟨⟨AZ,AZ,h2,h3,λj hj=>?_⟩,by simp only [tM];omega⟩
  exact L0
 ·have c1:s.k<=s.i:=AX
  exact ZV
def Qm:AS Ma:=⟨0,108,[0,1,6,82,83,84],[],λs=>[xQ 9 [s.cs,s.os,s.ks,s.gs,s.bs,s.l,s.d,s.t,.xl A7 s.od],s.rs,s.r,s.m,s.k,s.i],λ_=>[],λv b=>⟨Ao Ad<|BQ (v.getD 0 .junk) 0,Ao .str<|BQ (v.getD 0 .junk) 1,Ao Ah<|BQ (v.getD 0 .junk) 2,Ao Af<|BQ (v.getD 0 .junk) 3,Ao Ai<|BQ (v.getD 0 .junk) 4,Ao AP<|BQ (v.getD 0 .junk) 5,Ao As<|BQ (v.getD 0 .junk) 6,gI<|BQ (v.getD 0 .junk) 7,Ao A7<|BQ (v.getD 0 .junk) 8,B5 Am v 1,EO v 2,B5 Af v 3,AK v 4,AK v 5⟩,yw,λs r=> {s with r:=r.r,i:=r.i},λs=>s,λ_ s=>s,[.ret,.exit 2],jn,Y3,tM⟩
abbrev aGs:=Qm.run
abbrev aHY:=Qm.At
def axt:Rq Y3 yw:=by
 intro s hI;refine ⟨λc1=>⟨?_,?_,λ_=>trivial,λc2=>⟨?_,λ_=>trivial,λ_=>trivial⟩⟩,λ_=>trivial⟩
 all_goals ((obtain ⟨h0,h1,h2,h3,h4⟩:=hI;obtain ⟨h3,h5,h6⟩:=h3;simp at c1;omega))
def aPh:Qm.Ok:={}
def aP7:Qm.Pf (aAe):=⟨alV,λs h=>rfl,agf,axt⟩
def apt:SA 0 aFx Qm:=s1 aPh aP7 iC kN
def asH:Fi jn Y3 aAe aHY aGs:=AS.fin aPh aP7
def aIb:List LV->T LV
 | [.xq 9 q0,.xl (.pair (.int J) (.int J)) rs,.v (Y J n)]=>(match ([q0 0,q0 1,q0 2,q0 3,q0 4,q0 5,q0 6,q0 7,q0 8]:List LV) with
  | [.xl (.pair .str (.pair (.int J) (.pair (.int J) (.pair (.int J) (.pair (.pair (.int J) (.int J)) (.pair (.int J) (.pair (.int J) (.pair (.int J) (.pair (.int J) (.int J)))))))))) cs,.xl (.str) os,.xl (.pair .str (.pair (.int J) (.pair (.int J) (.int J)))) ks,.xl (.pair .str (.pair (.int J) (.pair (.int J) (.pair (.int J) (.pair (.int J) (.pair (.int J) (.pair (.int J) (.int J)))))))) gs,.xl (.pair .str (.int J)) bs,.xl (.pair (.int J) (.pair (.int J) (.pair (.int J) (.pair (.int J) (.int J))))) l,.xl (.pair .bool (.pair (.int J) (.pair (.int J) (.int J)))) d,.v (Y J t),.xl (.int J) od]=> .ok (JA cs os ks gs bs l rs d t n)
  |_=> .no)
 |_=> .no
def arx (cs:List Cd) (os:List ByteArray) (ks:List Ko) (gs:List Ch) (bs:List Ba) (l:List Le) (d:List Dm) (t:Int) (od:List Int) (rs:List Ra) (n:Int):letI b:=(M gs:Int);letI c:=(M l:Int);letI a:=(aC7 (⟨cs,os,ks,gs,bs,l,d,t,od,rs,X,b,l,c,(0:Int)⟩:MV));Bg prog AU (iC) kN (λi=>if i=8 then Qn.lp else if i=14 then Qm.lp else Ak i) f90 [xQ 9 [cs,os,ks,gs,bs,l,d,t,.xl A7 od],rs,n]=.br (((OC cs os ks gs bs) !=0) ||(!(B1 l))) (.ok X) (.br (((M rs:Int) !=b) ||(((M d:Int) !=b) ||((!(inB t (0:Int) (1000000:Int))) ||(!(inB n (1:Int) (999900:Int)))))) (.ok X)<|.req (Qn.q (⟨cs,os,ks,gs,bs,l,d,t,od,rs,X,b,l,c,(0:Int)⟩:MV))<|.br (Bj (aHe (⟨cs,os,ks,gs,bs,l,d,t,od,rs,X,b,l,c,(0:Int)⟩:MV))<|.ret) (.ok a.r)<|.req (Qm.q (⟨cs,os,ks,gs,bs,l,d,t,od,rs,a.r,gs,b,(0:Int)⟩:Ma))<|.br (Bj (aHY (⟨cs,os,ks,gs,bs,l,d,t,od,rs,a.r,gs,b,(0:Int)⟩:Ma))<|.ret) (.ok (aGs (⟨cs,os,ks,gs,bs,l,d,t,od,rs,a.r,gs,b,(0:Int)⟩:Ma)).r)<|.ok U):=AT
def auv:=vm (S:=aIb) func90 iC kN (L:=(λi=>if i=8 then Qn.lp else if i=14 then Qm.lp else Ak i)) (λb hb=>by
 rw [show BB _=[aFy,aFx] by kernel_rfl] at hb
 simp only [B7,Bu,Bt] at hb;rcases hb with rfl|rfl
 ·exact apv
 ·exact apt) (λargs lv h=>by
 refine ⟨?_⟩;unfold aIb at h;split at h
 ·split at h
  case h_2=>cases h
  rename_i heq0;simp only [canL,canX];rw [Dv (n:=9) heq0];simp only [canL,canX];rw [arx];rename_i rs n _ cs os ks gs bs l d t od;obtain rfl:=h
  have e0:((OC cs os ks gs bs !=0) || !B1 l)=!(BA cs os ks gs bs&&B1 l):=by
   unfold OC;cases BA cs os ks gs bs<;>cases B1 l<;>rfl
  have e1:(((M rs:Int) !=(M gs:Int)) ||(((M d:Int) !=(M gs:Int)) ||(!inB t 0 1000000 || !inB n 1 999900)))=!(an (M rs=M gs)&&(an (M d=M gs)&&(inB t 0 1000000&&inB n 1 999900))):=by
   rw [neN,neN,Bool.not_and,Bool.not_and,Bool.not_and]
  rw [e0,e1]
  have bad:JA cs os ks gs bs l rs d t n=X->LV.v (.bool X)=LV.v (.bool<|JA cs os ks gs bs l rs d t n):=λh=>VS
  refine ⟨λc=>bad (by unfold JA;rw [ntW c];rfl),λc=>⟨λc2=>bad (by unfold JA;rw [ntW c2,PZ,SY]),λc2=>?_⟩⟩
  have c:=nfW c
  have c2:=nfW c2
  have c':=c
  have c2':=c2
  simp only [AY,Aa] at c' c2'
  have hl:=Gv c'.2
  have hg:=(D5.1 c'.1).1.2.2.2.2.1
  have hE:jo ⟨cs,os,ks,gs,bs,l,d,t,od,rs,X,(M gs:Int),l,(M l:Int),0⟩:=⟨rfl,AZ,AZ,rfl⟩
  have ev:JA cs os ks gs bs l rs d t n=(below (M gs) l&&Di (M gs) (λj=>raC (AG gs j) (Bw rs j)&&HL (Dw d j))):=by
   unfold JA;rw [c,c2,EH,EH]
  refine ⟨⟨hE,rfl,rfl⟩,?_⟩;obtain ⟨_,_,hq⟩:=asI _ hE
  have eb:below (M gs) l=Di (M l) (λj=>an<|(Al l j).2.1<(M gs:Int)):=by
   rw [IY,Dq];exact (QB (d:=(0,0,0,0,0)) (p:=λx:Le=>an<|x.2.1<(M gs:Int))).symm
  rcases hq with ⟨q1,q2⟩ |⟨q1,q2,j,q3,q4⟩<;>rw [q1]
  rotate_left
  ·rw [q2]
   exact ⟨λ_=>bad (by rw [ev,eb,QI (f:=λj=>an<|(Al l j).2.1<(M gs:Int)) j q3 q4];rfl),λh=>An⟩
  refine ⟨λh=>An,λ_=>?_⟩
  have g0:below (M gs) l=true:=by rw [eb];exact Dq.2 q2
  have hE2:jn ⟨cs,os,ks,gs,bs,l,d,t,od,rs,(aC7 ⟨cs,os,ks,gs,bs,l,d,t,od,rs,X,(M gs:Int),l,(M l:Int),0⟩).r,gs,(M gs:Int),0⟩:=⟨rfl,AZ,AZ,rfl,c2'.1,c2'.2.1⟩
  refine ⟨⟨hE2,rfl,rfl⟩,?_⟩;obtain ⟨_,_,hq⟩:=asH _ hE2;rcases hq with ⟨q5,q6⟩ |⟨q5,q6,j,q7,q8⟩<;>rw [q5]
  ·exact ⟨λh=>An,λ_=>by rw [ev,g0,(Dq (f:=λj=>raC (AG gs j) (Bw rs j)&&HL (Dw d j))).2 q6];rfl⟩
  ·rw [q6]
   exact ⟨λ_=>bad<|by rw [ev,QI (f:=λj=>raC (AG gs j) (Bw rs j)&&HL (Dw d j)) j q7 q8,SY],λh=>An⟩
 ·cases h)
structure Mk where
 n:Int
 r:Bool
 l:List Int
 (m k:Int)
 seen:List Bool
def aFt:=bN f179 0
def fq (s:Mk):T (Rd Mk):=letI a:=gi s.l s.k;letI b:=M s.seen;letI c:=s.seen.set a.toNat U;.br (an<|s.k<s.m) (.ix s.k (M s.l)<|.br (an<|a<0) (.rl s.seen<|.so (.ret) {s with r:=X})<|.br (an<|a>=s.n) (.rl s.seen<|.so (.ret) {s with r:=X})<|.ik a b<|.br (s.seen.getD a.toNat<|Ty.dflt .bool) (.rl s.seen<|.so (.ret) {s with r:=X})<|.ik a b<|.re b c<|.nx {s with k:=AA<|s.k+1,seen:=c})<|.rl s.seen<|.so (.exit 0) s
def PQ (s:Mk) (j:Int):Bool:=PR s.n (gi s.l j)&&!(((s.l.take j.toNat).map id).contains<|id<|gi s.l j)
def aB6 (s:Mk):Prop:=s.k=0/\s.seen=aq (M s.seen) X/\s.m=(M s.l:Int)/\s.m<=1000/\s.n=(M s.seen:Int)
def Xy (s:Mk):Prop:=(0<=s.k/\s.k<=s.m)/\(∀j:Nat,j<M s.seen->s.seen.getD j X=(s.l.take s.k.toNat).contains (j:Int))/\(∀j:Nat,(j:Int)<s.k->PQ s j=U)/\s.m=(M s.l:Int)/\s.m<=1000/\s.n=(M s.seen:Int)
def tF (s:Mk):Nat:=(s.m-s.k).toNat
def j9 (x:Ex) (s s':Mk):Prop:=(x=.exit 0/\∀j:Nat,(j:Int)<s'.m->PQ s' j=U)\/(x=.ret/\s'.r=X/\∃j:Nat,(j:Int)<s'.m/\PQ s' j=X)
theorem alB:∀s,aB6 s->Xy s:=by
 rintro s ⟨h0,h1,h2,h3,h4⟩
 refine ⟨A0,λj hj=>?_,λj hj=>A0,h2,h3,h4⟩
 rw [h1,h0]
 grind
theorem azs:Da Xy tF j9 fq:=by
 intro s hI;unfold fq;obtain ⟨⟨h0,h1⟩,h2,h3,h4,h5,h6⟩:=hI;refine AH (λc1=>?_) λc1=>?_
 rotate_left
 ·have c1:s.m<=s.k:=AX
  exact .inl ⟨rfl,λj hj=>h3 j A0⟩
 have c1:s.k<s.m:=AX
 have bad:PQ s s.k=X->j9 .ret s {s with r:=X}:=λhg=> .inr ⟨rfl,rfl,s.k.toNat,AZ,by rw [CL h0];exact hg⟩
 refine AH (λc2=>bad ?_) λc2=>AH (λc3=>bad ?_) λc3=>AH (λc4=>bad ?_) λc4=>?_
 ·unfold PQ PR
  simp only [Aa] at c2;rw [I9 A0];rfl
 ·unfold PQ PR
  simp only [Aa] at c3;rw [I9 (p:=gi s.l s.k<s.n) A0,SY];rfl
 all_goals
  have c2:0<=gi s.l s.k:=EI
  have c3:gi s.l s.k<s.n:=N9
  have e:=h2 (gi s.l s.k).toNat A0
  rw [CL c2] at e
 ·have c4:s.seen.getD (gi s.l s.k).toNat X=true:=c4
  unfold PQ;rw [V2,id,<-e,c4]
  simp
 ·have c4:s.seen.getD (gi s.l s.k).toNat X=false:=c4
  have hg:PQ s s.k=true:=by
   unfold PQ;rw [V2,id,<-e,c4,oH.2 ⟨c2,c3⟩];rfl
  rw [AJ (x:=s.k+1)];refine ⟨⟨⟨AZ,AZ⟩,λj hj=>?_,λj hj=>?_,h4,h5,A8⟩,by simp only [tF];omega⟩
  ·simp only [Bz] at hj
   simp only;rw [(gi_step h0 (show s.k<M s.l by omega)).2,List.contains_append,<-h2 j hj]
   by_cases hj2:(gi s.l s.k).toNat=j
   ·subst hj2
    rw [CL c2]
    simp [List.getD,hj]
   ·have:¬(j:Int)=gi s.l s.k:=A0
    grind
  ·by_cases hji:(j:Int)<s.k
   ·exact h3 j hji
   ·have:(j:Int)=s.k:=lX
    rw [this];exact hg
def Rc:AS Mk:=⟨0,37,[1,4,5,14,15,16],[],λs=>[s.n,s.r,.os 0 1 0<|M s.seen,.xl A7 s.l,s.m,s.k],λs=>[bV 4 .bool s.seen],λv b=>⟨AK v 0,EO v 1,B5 A7 v 3,AK v 4,AK v 5,gVe .bool<|CT b 0⟩,fq,λs r=> {r with n:=s.n,l:=s.l,m:=s.m},λs=>s,λ_ s=>s,[.ret,.exit 0],aB6,Xy,tF⟩
abbrev aGr:=Rc.run
abbrev aHW:=Rc.At
theorem axl:Rq Xy fq:=by
 intro s hI;refine ⟨λc1=>⟨?_,λc2=>⟨A9,ak⟩,λc2=>⟨λc3=>⟨A9,ak⟩,λc3=>⟨?_,?_,λc4=>⟨A9,ak⟩,λc4=>⟨?_,?_,?_,ak⟩⟩⟩⟩,λc1=>⟨A9,ak⟩⟩
 iterate 5 · (obtain ⟨⟨h0,h1⟩,h2,h3,h4,h5,h6⟩:=hI;simp only [Aa,D3] at*;omega)
 ·grind
def abV:List Bd:=[]
def aQ6:Rc.Ok:={}
def aPZ:Rc.Pf (j9):=⟨alB,λs h=>rfl,azs,axl⟩
def apo:SA 0 aFt Rc:=s1 aQ6 aPZ abV kN
def ar5:Fi aB6 Xy j9 aHW aGr:=AS.fin aQ6 aPZ
def aI5:List LV->T LV
 | [.xl (.int J) l,.v (Y J n)]=> .req (n<=1000) (.ok<|GW l n)
 |_=> .no
def Wu:=vm (S:=aI5) func179 abV kN (L:=(λi=>if i=5 then Rc.lp else Ak i)) (λb hb=>by
 rw [show BB _=[aFt] by kernel_rfl] at hb
 simp only [B7,Bu,Bt] at hb;subst hb;exact apo) (λargs lv h=>by
 unfold aI5 at h;split at h
 ·rename_i l n
  refine Ap (letI a:=aq n.toNat X;letI b:=(M l:Int);.br (b !=n) (.ok X)<|.rm 1 n<|.re n.toNat a<|.req (Rc.q (⟨n,X,l,b,0,a⟩:Mk))<|.br (Bj (aHW (⟨n,X,l,b,0,a⟩:Mk))<|.ret) (.ok (aGr (⟨n,X,l,b,0,a⟩:Mk)).r)<|.ok U) ?_;obtain ⟨hl,rfl⟩:=h;refine ⟨λc=>Az (λz=>LV.v<|.bool z) ?_,λc=>?_⟩
  ·have c:¬(M l:Int)=n:=A8
   unfold GW;rw [I9 c];rfl
  ·have c:(M l:Int)=n:=A8
   unfold GW;rw [Cq c,EH];refine ⟨A0,⟨rfl,AI⟩,Lg ⟨⟨rfl,AI,rfl,A8,A8⟩,rfl,rfl⟩ λhE=>?_⟩
   obtain ⟨s',_,hq⟩:=ar5 _ hE.1;rcases hq with ⟨q1,q2⟩ |⟨q1,q2,j,q3,q4⟩
   ·rw [q1]
    have hk:=(Vu (d:=(0:Int)) (p:=PR n) (k:=id)).1 q2
    rw [V2] at hk;rw [hk];exact ⟨λh=>An,λ_=>rfl⟩
   ·rw [q1,q2]
    refine ⟨λ_=>Az (λz=>LV.v<|.bool z) ?_,λh=>An⟩
    rw [Sd,I2];intro hx
    have:=(Vu (d:=(0:Int)) (p:=PR n) (k:=id)).2 G1 j q3
    exact Bool.noConfusion<|this.symm.trans q4
 ·cases h)
structure Iv where
 r:Bool
 l:List Int
 (n i:Int)
 BY:List Cd
 GL:List ByteArray
 GJ:List Ko
 GN:List Ch
 GQ:List Ba
def yv (s:Iv):T (Rd Iv):=
 .br (an<|s.i<s.n) (.ix s.i (M s.l)<|.br (!((an<|(gi s.l s.i)>=0)&&(an<|(gi s.l s.i)<=80))) (.so (.ret) {s with r:=X})<|.nx {s with i:=AA<|s.i+1}) (.so (.exit 0) s)
def Te (s:Iv) (j:Int):Bool:=Hh<|gi s.l j
def jl (s:Iv):Prop:=s.i=0/\0<=s.n/\s.n<=1000/\s.n=(M s.l:Int)
def Y1 (s:Iv):Prop:=0<=s.i/\s.i<=s.n/\s.n<=1000/\(s.n=(M s.l:Int))/\∀j:Nat,(j:Int)<s.i->Te s j=U
def tK (s:Iv):Nat:=(s.n-s.i).toNat
def aAa (x:Ex) (s s':Iv):Prop:=(x=.exit 0/\∀j:Nat,(j:Int)<s'.n->Te s' j=U)\/(x=.ret/\s'.r=X/\∃j:Nat,(j:Int)<s'.n/\Te s' j=X)
def alN:∀s,jl s->Y1 s:=by
 exact Jx
theorem agZ:Da Y1 tK aAa yv:=by
 intro s hI;obtain ⟨h0,h1,h2,h3,h4⟩:=hI;refine AH (λc1=>AH (λc2=>?_) λc2=>?_) λc1=>?_
 ·have c1:s.i<s.n:=AX
  refine .inr ⟨rfl,rfl,s.i.toNat,A8,?_⟩
  have hg:Te s s.i=false:=aMv
  exact hg
 ·have c1:s.i<s.n:=AX
  have hg:Te s s.i=true:=aMv
  rw [AJ (x:=s.i+1)];refine ⟨⟨A8,A8,h2,h3,λj hj=>?_⟩,by simp only [tK];omega⟩
  exact L0
 ·exact Se
def TX:AS Iv:=⟨1,18,[1,4,7,8,9],[],λs=>[.fn 177 [],s.r,.xl A7 s.l,s.n,s.i],λs=>[⟨[s.BY,s.GL,s.GJ,s.GN,s.GQ],28,.cl,X⟩],λv b=>⟨EO v 1,B5 A7 v 2,AK v 3,AK v 4,AF Ad b 0 0,AF .str b 0 1,AF Ah b 0 2,AF Af b 0 3,AF Ai b 0 4⟩,yv,λs r=> {s with r:=r.r,i:=r.i},λs=>s,λ_ s=>s,[.ret,.exit 0],jl,Y1,tK⟩
abbrev cZ:=TX.run
abbrev cY:=TX.At
def Qc:List Bd:=[WQ,Wu,Wt,Wv]
def aki:Aw:=kI Qc<|l0 Qc
def axq:Rq Y1 yv:=by
 exact SZ
def aQB:TX.Ok:={}
def aPe:TX.Pf (aAa):=⟨alN,λs h=>rfl,agZ,axq⟩
def WJ:=s2 (b:=bN f178 0) aQB aPe Qc aki
def asu:Fi jl Y1 aAa cY cZ:=AS.fin aQB aPe
def aHj (s:Iv) (hE:jl s):(cY s=.exit 0/\s.l.all Hh=U)\/(cY s=.ret/\(cZ s).r=X/\s.l.all Hh=X):=by
 obtain ⟨s',hI,hq⟩:=asu s hE;obtain ⟨h0,h1,h2,h3⟩:=hE
 have en:(cZ s).n=s.n:=rfl
 rcases hq with ⟨q1,q2⟩ |⟨q1,q2,j,q3,q4⟩
 ·refine .inl ⟨q1,(QB (d:=(0:Int))).1 λj hj=>?_⟩
  have:=q2 j A0
  exact this
 ·exact aKr
structure FI where
 alive:List Int
 i:Int
 rows:List Rw
 (rn ri:Int)
 l:List Int
 (n k:Int)
 K0:List Cd
 K6:List ByteArray
 K5:List Ko
 K4:List Ch
 KF:List Ba
 HG:List Cd
 HE:List ByteArray
 EP:List Ko
 B2:List Ch
 HI:List Ba
 BF:List Rw
 (BE CH CG CF CC CB CA C9 C8 CE CD C7 C6 C5 C4 C3 C2 sums levels:List Int)
def aEq:=lN (bN f180 0) 0
def GZ (s:FI):List (List Int):=[s.CH,s.CG,s.CF,s.CC,s.CB,s.CA,s.C9,s.C8,s.CE,s.CD,s.C7,s.C6,s.C5,s.C4,s.C3,s.C2]
def nsO (s:FI) (l:List<|List Int):FI:={s with CH:=l.getD 0 [],CG:=l.getD 1 [],CF:=l.getD 2 [],CC:=l.getD 3 [],CB:=l.getD 4 [],CA:=l.getD 5 [],C9:=l.getD 6 [],C8:=l.getD 7 [],CE:=l.getD 8 [],CD:=l.getD 9 [],C7:=l.getD 10 [],C6:=l.getD 11 [],C5:=l.getD 12 [],C4:=l.getD 13 [],C3:=l.getD 14 [],C2:=l.getD 15 []}
def ns (s:FI) (j:Nat):FI:={nsO s ((GZ s).modify j (·++[s.i])) with k:=AA<|s.k+1,sums:=s.sums.set s.i.toNat<|AA<|s.sums.getD s.i.toNat 0+gi s.alive (j:Int)}
def rO {α:Type}(x:List Int):List (List Int)->Nat->T α->T α
 | [],_,t=>t
 |o::l,0,t=> .re (M o+M x) (o++x) (rO x l 1000 t)
 |o::l,j+1,t=> .rl o<|rO x l j t
def XF {σ:Type}{s:σ}{x:List Int}{t:T<|Rd σ}:∀l j,(rO x l j t).rd s=t.rd s
 | [],_=>rfl
 |_::l,0=>XF l 1000
 |_::l,j+1=>XF l j
def fL {α:Type}{K:α->Prop}{x:List Int}{t:T α}(h:t.all K):∀l j,(rO x l j t).all K
 | [],_=>h
 |_::l,0=>⟨⟨rfl,AI⟩,fL h l 1000⟩
 |_::l,j+1=>⟨⟨rfl,rfl⟩,fL h l j⟩
theorem aDc {α:Type}{K:α->Prop}{f:Nat->T α}{n:Int}:∀m j:Nat,(j:Int)<=n->n<j+m->(∀i:Nat,n=i->(f i).all K)->(splitN f n m j).all K
 |0,_,_,_,_=>A0
 |1,j,_,_,h=>h j A0
 |m+2,j,_,_,h=>⟨λc=>h j<|eq_of_beq c,λc=>aDc (m+1) (j+1) A8 A0 h⟩
theorem pC {σ:Type}{A:σ->Prop}{B:Ex->σ->Prop}{s:σ}{f:Nat->T (Rd σ)}{n:Int}:∀m j:Nat,(j:Int)<=n->n<j+m->(∀i:Nat,n=i->DO A B ((f i).rd s))->DO A B ((splitN f n m j).rd s)
 |0,_,_,_,_=>A0
 |1,j,_,_,h=>h j A0
 |m+2,j,_,_,h=>AH (λc=>h j<|eq_of_beq c) λc=>pC (m+1) (j+1) A8 A0 h
theorem ajS (s:FI) {l:List<|List Int}(h:M l=16):GZ (nsO s l)=l:=by
 show (au 16).map (λi=>l.getD i [])=l
 refine ZI lf λi h1 h2=>?_
 grind
def vW (s:FI):T (Rd FI):=letI a:=M s.sums;.br (an<|s.k<s.n) (.ix s.k (M s.l)<|.req (0<=(gi s.l s.k)/\(gi s.l s.k)<(16:Int))<|splitN (λj=> .rb (M<|(GZ s).getD j []) (M<|[s.i]) 8<|.ix s.i a<|.ix (j:Int) (M s.alive)<|.req (s.i.toNat<M s.sums)<|.ik s.i a<|rO [s.i] (GZ s) j<|.re a (ns s j).sums<|.rl s.levels<|.nx<|ns s j) (gi s.l s.k) 16 0)<|rO [] (GZ s) 1000<|.rl s.sums<|.rl s.levels<|.so (.exit 2) s
def Yo (s:FI):Prop:=s.k=0/\(∀o∈GZ s,(M o:Int)<=1000000)/\(0<=gi s.sums s.i/\gi s.sums s.i<=1000)/\s.n=(M s.l:Int)/\s.n<=1000/\(∀m∈s.l,0<=m/\m<16/\m<(M s.alive:Int))/\(∀a∈s.alive,0<=a/\a<=80)/\(0<=s.i/\s.i<(M s.sums:Int))
def Qf (s:FI):Prop:=(0<=s.k/\s.k<=s.n)/\(∀o∈GZ s,(M o:Int)<=1000000+s.k)/\(0<=gi s.sums s.i/\gi s.sums s.i<=1000+80*s.k)/\s.n=(M s.l:Int)/\s.n<=1000/\(∀m∈s.l,0<=m/\m<16/\m<(M s.alive:Int))/\(∀a∈s.alive,0<=a/\a<=80)/\(0<=s.i/\s.i<(M s.sums:Int))
def Ws (s:FI):Nat:=(s.n-s.k).toNat
def ac5 (x:Ex) (s s':FI):Prop:=x=.exit 2/\s'.k=s'.n
theorem ajR:∀s,Yo s->Qf s:=by
 rintro s ⟨h0,h1,h2,h3⟩
 exact ⟨A0,λo ho=>A8,A0,h3⟩
def dh (s:FI) (hI:Qf s) (c1:s.k<s.n):0<=gi s.l s.k/\gi s.l s.k<16/\gi s.l s.k<(M s.alive:Int):=by
 obtain ⟨⟨h0,h1⟩,h2,h3,h4,h5,h6,h7,h8⟩:=hI;exact h6 _ aNo
abbrev iJ (s:FI):=(LZ s.i (GZ s)<|s.l.drop s.k.toNat,s.sums.set s.i.toNat<|s.sums.getD s.i.toNat 0+smA s.alive (s.l.drop s.k.toNat))
theorem aQt (s:FI) (j:Nat) (hI:Qf s) (c1:s.k<s.n) (em:gi s.l s.k=(j:Int)):(Qf (ns s j)/\Ws (ns s j)<Ws s)/\iJ (ns s j)=iJ s:=by
 generalize e:ns s j=s'
 have hO:GZ s'=(GZ s).modify j (·++[s.i]):=by rw [<-e];exact ajS s (by rw [kD];rfl)
 have hs:s'.sums=s.sums.set s.i.toNat (AA<|s.sums.getD s.i.toNat 0+gi s.alive (j:Int)):=VJ
 have hk:s'.k=AA (s.k+1):=VJ
 have hn:s'.n=s.n:=VJ
 have hl:s'.l=s.l:=VJ
 have ha:s'.alive=s.alive:=VJ
 have hi:s'.i=s.i:=VJ
 have hm:=dh s hI c1
 obtain ⟨⟨h0,h1⟩,h2,⟨h3,h3'⟩,h4,h5,h6,h7,h8⟩:=hI;rw [AJ (x:=s.k+1)] at hk
 have hav:=h7 (gi s.alive (j:Int)) aNo
 have hgi:gi s.sums s.i=s.sums.getD s.i.toNat 0:=rfl
 rw [AJ (x:=s.sums.getD s.i.toNat 0+gi s.alive (j:Int))] at hs
 have hs2:gi s'.sums s'.i=s.sums.getD s.i.toNat 0+gi s.alive (j:Int):=by
  rw [hi,hs]
  show List.getD _ _ _=_
  grind
 refine ⟨⟨⟨⟨A0,A0⟩,λo ho=>?_,⟨by rw [hs2];omega,by rw [hs2];omega⟩,by rw [hn,hl];exact h4,A0,by rw [hl,ha];exact h6,by rw [ha];exact h7,⟨by rw [hi];omega,by rw [hi,hs,Bz];omega⟩⟩,by simp only [Ws];omega⟩,?_⟩
 ·rw [hO] at ho
  obtain ⟨k,hk2,rfl⟩:=I7.1 ho;rw [kD] at hk2
  have:=h2 (GZ s)[k]<|HS _
  rw [List.getElem_modify];split
  ·grind
  ·omega
 ·unfold iJ
  rw [hO,hs,hl,ha,hi,hk,(gi_step h0 (show s.k<M s.l by omega)).1,nX,aEi,em,Bx,aeT A0]
theorem aQu:Da Qf Ws ac5 vW:=by
 intro s hI;refine AH (λc1=>?_) λc1=>?_
 ·have hm:=dh s hI A8
  refine pC 16 0 A0 A0 λi em=>?_
  show DO _ _ ((rO _ _ i _).rd s)
  rw [XF];exact (aQt s i hI A8 em).1
 ·have c1:s.n<=s.k:=A8
  have h0:=hI.1
  exact V8
def UL:AS FI:=⟨1,67,[2,7,8,23,24,25,31,32,33],[.ns 7 6 3 A7,.ns 7 7 3 A7,.ns 7 8 3 A7,.ns 7 9 3 A7,.ns 7 10 3 A7,.ns 7 11 3 A7,.ns 7 12 3 A7,.ns 7 13 3 A7,.ns 7 14 3 A7,.ns 7 15 3 A7,.ns 7 16 3 A7,.ns 7 17 3 A7,.ns 7 18 3 A7,.ns 7 19 3 A7,.ns 7 20 3 A7,.ns 7 21 3 A7],λs=>[.xl A7 s.alive,.own 1 0,s.i,.xl Ei s.rows,s.rn,s.ri,.xl A7 s.l,s.n,s.k],λs=>[⟨[s.K0,s.K6,s.K5,s.K4,s.KF],28,.cl,X⟩,⟨[s.HG,s.HE,s.EP,s.B2,s.HI,.xl Ei s.BF,.os 2 1 0<|M s.CH,.os 3 1 0<|M s.CG,.os 4 1 0<|M s.CF,.os 5 1 0<|M s.CC,.os 6 1 0<|M s.CB,.os 7 1 0<|M s.CA,.os 8 1 0<|M s.C9,.os 9 1 0<|M s.C8,.os 10 1 0<|M s.CE,.os 11 1 0<|M s.CD,.os 12 1 0<|M s.C7,.os 13 1 0<|M s.C6,.os 14 1 0<|M s.C5,.os 15 1 0<|M s.C4,.os 16 1 0<|M s.C3,.os 17 1 0<|M s.C2,.os 18 1 0<|M s.sums,.xl A7 s.BE,.os 19 1 0<|M s.levels],305,.cl,X⟩,bV 3 A7 s.CH,bV 3 A7 s.CG,bV 3 A7 s.CF,bV 3 A7 s.CC,bV 3 A7 s.CB,bV 3 A7 s.CA,bV 3 A7 s.C9,bV 3 A7 s.C8,bV 3 A7 s.CE,bV 3 A7 s.CD,bV 3 A7 s.C7,bV 3 A7 s.C6,bV 3 A7 s.C5,bV 3 A7 s.C4,bV 3 A7 s.C3,bV 3 A7 s.C2,bV 3 A7 s.sums,bV 3 A7 s.levels],λv b=>⟨B5 A7 v 0,AK v 2,B5 Ei v 3,AK v 4,AK v 5,B5 A7 v 6,AK v 7,AK v 8,AF Ad b 0 0,AF .str b 0 1,AF Ah b 0 2,AF Af b 0 3,AF Ai b 0 4,AF Ad b 1 0,AF .str b 1 1,AF Ah b 1 2,AF Af b 1 3,AF Ai b 1 4,AF Ei b 1 5,AF A7 b 1 23,Ab A7 b 2,Ab A7 b 3,Ab A7 b 4,Ab A7 b 5,Ab A7 b 6,Ab A7 b 7,Ab A7 b 8,Ab A7 b 9,Ab A7 b 10,Ab A7 b 11,Ab A7 b 12,Ab A7 b 13,Ab A7 b 14,Ab A7 b 15,Ab A7 b 16,Ab A7 b 17,Ab A7 b 18,Ab A7 b 19⟩,vW,λs r=> {s with k:=r.k,CH:=r.CH,CG:=r.CG,CF:=r.CF,CC:=r.CC,CB:=r.CB,CA:=r.CA,C9:=r.C9,C8:=r.C8,CE:=r.CE,CD:=r.CD,C7:=r.C7,C6:=r.C6,C5:=r.C5,C4:=r.C4,C3:=r.C3,C2:=r.C2,sums:=r.sums},λs=>s,λ_ s=>s,[.exit 2],Yo,Qf,Ws⟩
abbrev GK:=UL.run
def zt:Aw:=kI Qc<|la 2 func178 WJ<|l0 Qc
theorem aw7:Rq Qf vW:=by
 intro s hI;refine ⟨λc1=>?_,λ_=>fL (by exact ⟨A9,A9,ak⟩) _ _⟩
 have hm:=dh s hI A8
 simp only [Aa] at c1;obtain ⟨⟨h0,h1⟩,h2,h3,h4,h5,h6,h7,h8,h9⟩:=id hI;refine ⟨⟨A0,A0⟩,⟨A0,A0⟩,aDc 16 0 A0 A0 λi em=>?_⟩
 refine ⟨⟨A0,?_⟩,⟨A0,A0⟩,⟨A0,A0⟩,A0,⟨A0,A0⟩,A0,fL ?_ _ _⟩
 ·grind
 ·exact ⟨⟨rfl,(Bz ..).symm⟩,A9,ak⟩
def qo:UL.Ok:={}
def rL:UL.Pf (ac5):=⟨ajR,λs h=>rfl,aQu,aw7⟩
def apY:SA 1 aEq UL:=s2 qo rL Qc zt
theorem ano (s:FI) (hE:Yo s):(λs:FI=>(LZ s.i (GZ s)<|s.l.drop s.k.toNat,s.sums.set s.i.toNat<|s.sums.getD s.i.toNat 0+smA s.alive (s.l.drop s.k.toNat))) (GK s)=(λs:FI=>(LZ s.i (GZ s)<|s.l.drop s.k.toNat,s.sums.set s.i.toNat<|s.sums.getD s.i.toNat 0+smA s.alive (s.l.drop s.k.toNat))) s:=by
 exact AS.KJ qo rL iJ (λs hI=>by
  refine AH (λc1=>?_) λc1=>?_
  ·have hm:=dh s hI A8
   refine pC 16 0 A0 A0 λi em=>?_
   show DO _ _ ((rO _ _ i _).rd s)
   rw [XF];exact (aQt s i hI A8 em).2
  ·rw [XF]
   exact rfl) s hE
def aqK (s:FI) (hE:Yo s):GZ (GK s)=LZ s.i (GZ s) s.l/\(GK s).sums=s.sums.set s.i.toNat (s.sums.getD s.i.toNat 0+smA s.alive s.l):=by
 have q3:=ano s hE
 obtain ⟨hI2,hf⟩:=AS.inv qo rL (λs=>AT) s hE
 have hI2:Qf (GK s):=hI2
 have hq:=cG (aQu _ hI2) hf
 have q2:(GK s).k=(GK s).n:=hq.2
 obtain ⟨h0,h1,h2,h3,h4,h5,h6,h7⟩:=hE;obtain ⟨g0,g1,g2,g3,g4,g5,g6,g7⟩:=hI2
 have el:(GK s).l=s.l:=rfl
 have en:(GK s).n=s.n:=rfl
 have ei:(GK s).i=s.i:=rfl
 have ea:(GK s).alive=s.alive:=rfl
 simp only at q3;rw [q2,en,el,ei,ea,En A0,h0,show (0:Int).toNat=0 from rfl,CP] at q3
 have e1:=Az Prod.fst q3
 have e2:=Az Prod.snd q3
 simp only at e1 e2;refine ⟨e1,?_⟩;rw [<-e2];exact (anK (by rw [ei] at g7;omega)).symm
structure E9 where
 alive:List Int
 rows:List Rw
 (rn ri:Int)
 K0:List Cd
 K6:List ByteArray
 K5:List Ko
 K4:List Ch
 KF:List Ba
 HG:List Cd
 HE:List ByteArray
 EP:List Ko
 B2:List Ch
 HI:List Ba
 BF:List Rw
 (BE CH CG CF CC CB CA C9 C8 CE CD C7 C6 C5 C4 C3 C2 sums levels:List Int)
def aEp:=bN f180 0
def MD (s:E9):FI:=(⟨s.alive,s.ri,s.rows,s.rn,s.ri,(CX s.rows s.ri).2,(M (CX s.rows s.ri).2:Int),0,s.K0,s.K6,s.K5,s.K4,s.KF,s.HG,s.HE,s.EP,s.B2,s.HI,s.BF,s.BE,s.CH,s.CG,s.CF,s.CC,s.CB,s.CA,s.C9,s.C8,s.CE,s.CD,s.C7,s.C6,s.C5,s.C4,s.C3,s.C2,s.sums,s.levels⟩:FI)
def vV (s:E9):T (Rd E9):=letI a:=GK<|MD s;.br (an<|s.ri<s.rn) (.ix s.ri (M s.rows)<|.rl s.CH<|.rl s.CG<|.rl s.CF<|.rl s.CC<|.rl s.CB<|.rl s.CA<|.rl s.C9<|.rl s.C8<|.rl s.CE<|.rl s.CD<|.rl s.C7<|.rl s.C6<|.rl s.C5<|.rl s.C4<|.rl s.C3<|.rl s.C2<|.rl s.sums<|.rl s.levels<|.req (UL.q<|MD s)<|.rl a.CH<|.rl a.CG<|.rl a.CF<|.rl a.CC<|.rl a.CB<|.rl a.CA<|.rl a.C9<|.rl a.C8<|.rl a.CE<|.rl a.CD<|.rl a.C7<|.rl a.C6<|.rl a.C5<|.rl a.C4<|.rl a.C3<|.rl a.C2<|.rl a.sums<|.rl s.levels<|.nx {s with ri:=AA<|s.ri+1,CH:=a.CH,CG:=a.CG,CF:=a.CF,CC:=a.CC,CB:=a.CB,CA:=a.CA,C9:=a.C9,C8:=a.C8,CE:=a.CE,CD:=a.CD,C7:=a.C7,C6:=a.C6,C5:=a.C5,C4:=a.C4,C3:=a.C3,C2:=a.C2,sums:=a.sums})<|.rl s.CH<|.rl s.CG<|.rl s.CF<|.rl s.CC<|.rl s.CB<|.rl s.CA<|.rl s.C9<|.rl s.C8<|.rl s.CE<|.rl s.CD<|.rl s.C7<|.rl s.C6<|.rl s.C5<|.rl s.C4<|.rl s.C3<|.rl s.C2<|.rl s.sums<|.rl s.levels<|.so (.exit 0) s
def Fc (s:E9):List (List Int):=[s.CH,s.CG,s.CF,s.CC,s.CB,s.CA,s.C9,s.C8,s.CE,s.CD,s.C7,s.C6,s.C5,s.C4,s.C3,s.C2]
def UG (s:E9):Prop:=s.ri=0/\(∀o∈Fc s,o=[])/\s.sums=aq (M s.rows) 0/\s.rn=(M s.rows:Int)/\s.rn<=1000/\(∀r∈s.rows,(M r.2:Int)<=1000/\∀m∈r.2,0<=m/\m<16/\m<(M s.alive:Int))/\(∀a∈s.alive,0<=a/\a<=80)/\M s.sums=M s.rows
def Mp (s:E9):Prop:=(0<=s.ri/\s.ri<=s.rn)/\(∀o∈Fc s,(M o:Int)<=1000*s.ri)/\(∀k:Nat,s.ri<=(k:Int)->s.sums.getD k 0=0)/\s.rn=(M s.rows:Int)/\s.rn<=1000/\(∀r∈s.rows,(M r.2:Int)<=1000/\∀m∈r.2,0<=m/\m<16/\m<(M s.alive:Int))/\(∀a∈s.alive,0<=a/\a<=80)/\M s.sums=M s.rows
def TO (s:E9):Nat:=(s.rn-s.ri).toNat
def j8 (x:Ex) (s s':E9):Prop:=x=.exit 0/\s'.ri=s'.rn
theorem ajQ:∀s,UG s->Mp s:=by
 rintro s ⟨h0,h1,h2,h3⟩
 refine ⟨A0,λo ho=>A8,λk _=>?_,h3⟩
 grind
def aQs (s:E9) (hI:Mp s) (c1:s.ri<s.rn):Yo (MD s):=by
 obtain ⟨⟨h0,h1⟩,h2,h3,h4,h5,h6,h7,h8⟩:=hI
 have hr:=h6 (CX s.rows s.ri) y7
 refine ⟨rfl,λo ho=>?_,?_,rfl,hr.1,hr.2,h7,h0,?_⟩
 ·have:=h2 o ho
  omega
 ·have:=h3 s.ri.toNat A0
  show 0<=s.sums.getD s.ri.toNat 0/\s.sums.getD s.ri.toNat 0<=1000
  omega
 ·show s.ri<(M s.sums:Int)
  omega
theorem aQr (s s':E9) (hI:Mp s) (c1:s.ri<s.rn) (hO:Fc s'=GZ (GK<|MD s)) (hs:s'.sums=(GK<|MD s).sums) (hk:s'.ri=AA (s.ri+1)) (hn:s'.rn=s.rn) (hl:s'.rows=s.rows) (ha:s'.alive=s.alive):
  (Mp s'/\TO s'<TO s)/\(λs:E9=>(HD (Fc s) s.ri<|s.rows.drop s.ri.toNat,HC s.alive s.sums s.ri<|s.rows.drop s.ri.toNat)) s'=(λs:E9=>(HD (Fc s) s.ri<|s.rows.drop s.ri.toNat,HC s.alive s.sums s.ri<|s.rows.drop s.ri.toNat)) s:=by
 obtain ⟨r1,r2⟩:=aqK _<|aQs s hI c1;obtain ⟨⟨h0,h1⟩,h2,h3,h4,h5,h6,h7,h8⟩:=hI
 have hr:=h6 (CX s.rows s.ri) y7
 rw [AJ (x:=s.ri+1)] at hk
 have r1:GZ (GK<|MD s)=LZ s.ri (Fc s) (CX s.rows s.ri).2:=r1
 have r2:(GK<|MD s).sums=s.sums.set s.ri.toNat (s.sums.getD s.ri.toNat 0+smA s.alive (CX s.rows s.ri).2):=r2
 refine ⟨⟨⟨⟨A0,A0⟩,λo ho=>?_,λk hk2=>?_,A8,A0,by rw [hl,ha];exact h6,by rw [ha];exact h7,A8⟩,by simp only [TO];omega⟩,?_⟩
 ·rw [hO,r1] at ho
  have:=aGV h2 o ho
  have:=hr.1
  rw [hk];omega
 ·rw [hs,r2]
  have:=h3 k A0
  simp only [List.getD] at this|-;rw [ZM A0];exact this
 ·simp only
  rw [hO,hs,hl,ha,r1,r2,hk,(aoC h0 (show s.ri<M s.rows by omega)).1]
  rfl
def aqI (s s':E9) (hI:Mp s) (c1:s.ri<s.rn) (hO:Fc s'=GZ (GK<|MD s)) (hs:s'.sums=(GK<|MD s).sums) (hk:s'.ri=AA (s.ri+1)) (hn:s'.rn=s.rn) (hl:s'.rows=s.rows) (ha:s'.alive=s.alive):DO (λs'=>Mp s'/\TO s'<TO s) (λx s'=>j8 x s s') (.next s'):=(aQr s s' hI c1 hO hs hk hn hl ha).1
def aqH (s s':E9) (hI:Mp s) (c1:s.ri<s.rn) (hO:Fc s'=GZ (GK<|MD s)) (hs:s'.sums=(GK<|MD s).sums) (hk:s'.ri=AA (s.ri+1)) (hn:s'.rn=s.rn) (hl:s'.rows=s.rows) (ha:s'.alive=s.alive):DO (λs'=>(λs:E9=>(HD (Fc s) s.ri<|s.rows.drop s.ri.toNat,HC s.alive s.sums s.ri<|s.rows.drop s.ri.toNat)) s'=(λs:E9=>(HD (Fc s) s.ri<|s.rows.drop s.ri.toNat,HC s.alive s.sums s.ri<|s.rows.drop s.ri.toNat)) s) (λ_ s'=>(λs:E9=>(HD (Fc s) s.ri<|s.rows.drop s.ri.toNat,HC s.alive s.sums s.ri<|s.rows.drop s.ri.toNat)) s'=(λs:E9=>(HD (Fc s) s.ri<|s.rows.drop s.ri.toNat,HC s.alive s.sums s.ri<|s.rows.drop s.ri.toNat)) s) (.next s'):=(aQr s s' hI c1 hO hs hk hn hl ha).2
theorem ayp:Da Mp TO j8 vV:=by
 intro s hI;refine AH (λc1=>?_) λc1=>?_
 ·exact aqI s _ hI A8 rfl rfl rfl rfl rfl rfl
 ·have c1:s.rn<=s.ri:=A8
  have h0:=hI.1
  exact V8
def PC:AS E9:=⟨1,67,[2,7,23,24,25],[.ns 7 6 3 A7,.ns 7 7 3 A7,.ns 7 8 3 A7,.ns 7 9 3 A7,.ns 7 10 3 A7,.ns 7 11 3 A7,.ns 7 12 3 A7,.ns 7 13 3 A7,.ns 7 14 3 A7,.ns 7 15 3 A7,.ns 7 16 3 A7,.ns 7 17 3 A7,.ns 7 18 3 A7,.ns 7 19 3 A7,.ns 7 20 3 A7,.ns 7 21 3 A7],λs=>[.xl A7 s.alive,.own 1 0,.xl Ei s.rows,s.rn,s.ri],λs=>[⟨[s.K0,s.K6,s.K5,s.K4,s.KF],28,.cl,X⟩,⟨[s.HG,s.HE,s.EP,s.B2,s.HI,.xl Ei s.BF,.os 2 1 0<|M s.CH,.os 3 1 0<|M s.CG,.os 4 1 0<|M s.CF,.os 5 1 0<|M s.CC,.os 6 1 0<|M s.CB,.os 7 1 0<|M s.CA,.os 8 1 0<|M s.C9,.os 9 1 0<|M s.C8,.os 10 1 0<|M s.CE,.os 11 1 0<|M s.CD,.os 12 1 0<|M s.C7,.os 13 1 0<|M s.C6,.os 14 1 0<|M s.C5,.os 15 1 0<|M s.C4,.os 16 1 0<|M s.C3,.os 17 1 0<|M s.C2,.os 18 1 0<|M s.sums,.xl A7 s.BE,.os 19 1 0<|M s.levels],305,.cl,X⟩,bV 3 A7 s.CH,bV 3 A7 s.CG,bV 3 A7 s.CF,bV 3 A7 s.CC,bV 3 A7 s.CB,bV 3 A7 s.CA,bV 3 A7 s.C9,bV 3 A7 s.C8,bV 3 A7 s.CE,bV 3 A7 s.CD,bV 3 A7 s.C7,bV 3 A7 s.C6,bV 3 A7 s.C5,bV 3 A7 s.C4,bV 3 A7 s.C3,bV 3 A7 s.C2,bV 3 A7 s.sums,bV 3 A7 s.levels],λv b=>⟨B5 A7 v 0,B5 Ei v 2,AK v 3,AK v 4,AF Ad b 0 0,AF .str b 0 1,AF Ah b 0 2,AF Af b 0 3,AF Ai b 0 4,AF Ad b 1 0,AF .str b 1 1,AF Ah b 1 2,AF Af b 1 3,AF Ai b 1 4,AF Ei b 1 5,AF A7 b 1 23,Ab A7 b 2,Ab A7 b 3,Ab A7 b 4,Ab A7 b 5,Ab A7 b 6,Ab A7 b 7,Ab A7 b 8,Ab A7 b 9,Ab A7 b 10,Ab A7 b 11,Ab A7 b 12,Ab A7 b 13,Ab A7 b 14,Ab A7 b 15,Ab A7 b 16,Ab A7 b 17,Ab A7 b 18,Ab A7 b 19⟩,vV,λs r=> {s with ri:=r.ri,CH:=r.CH,CG:=r.CG,CF:=r.CF,CC:=r.CC,CB:=r.CB,CA:=r.CA,C9:=r.C9,C8:=r.C8,CE:=r.CE,CD:=r.CD,C7:=r.C7,C6:=r.C6,C5:=r.C5,C4:=r.C4,C3:=r.C3,C2:=r.C2,sums:=r.sums},λs=>s,λ_ s=>s,[.exit 0],UG,Mp,TO⟩
abbrev IV:=PC.run
abbrev atL:=PC.At
theorem aw6:Rq Mp vV:=by
 intro s hI;refine ⟨λc1=>⟨?_,A9,A9,A9,A9,A9,A9,A9,A9,A9,A9,A9,A9,A9,A9,A9,A9,A9,A9,?_,A9,A9,A9,A9,A9,A9,A9,A9,A9,A9,A9,A9,A9,A9,A9,A9,A9,A9,ak⟩,λc1=>⟨A9,A9,A9,A9,A9,A9,A9,A9,A9,A9,A9,A9,A9,A9,A9,A9,A9,A9,ak⟩⟩
 ·(obtain ⟨h0,h2,h3,h4,h5,h6,h7,h8⟩:=hI;simp only [Aa] at c1;omega)
 ·exact ⟨aQs s hI A8,rfl,rfl⟩
def rk:PC.Ok:={}
def rK:PC.Pf (j8):=⟨ajQ,λs h=>rfl,ayp,aw6⟩
def cf:SA 1 aEp PC:=AS.snd rk rK (GM (Γ:=Qc) (K:=zt) (L:=(Lp (λi=>if i=6 then UL.lp else Ak i))) (gk Qc) zt.h aEp (λb hb=>by
 rw [show BB _=[aEq] by kernel_rfl] at hb
 simp only [B7,Bu,Bt] at hb;subst hb;exact apY)) λs=>AT
def aqJ:Fi UG Mp j8 atL IV:=AS.fin rk rK
theorem ann (s:E9) (hE:UG s):(λs:E9=>(HD (Fc s) s.ri<|s.rows.drop s.ri.toNat,HC s.alive s.sums s.ri<|s.rows.drop s.ri.toNat)) (IV s)=(λs:E9=>(HD (Fc s) s.ri<|s.rows.drop s.ri.toNat,HC s.alive s.sums s.ri<|s.rows.drop s.ri.toNat)) s:=by
 exact AS.KJ rk rK (λs:E9=>(HD (Fc s) s.ri<|s.rows.drop s.ri.toNat,HC s.alive s.sums s.ri<|s.rows.drop s.ri.toNat)) (λs hI=>by
  refine AH (λc1=>?_) λc1=>?_
  ·exact aqH s _ hI A8 rfl rfl rfl rfl rfl rfl
  ·rfl) s hE
def aqg (s:E9) (hE:UG s):Fc (IV s)=HD (Fc s) 0 s.rows/\(IV s).sums=HC s.alive s.sums 0 s.rows:=by
 have q3:=ann s hE
 obtain ⟨s',hI,q1,q2⟩:=aqJ s hE;obtain ⟨h0,h1,h2,h3,h4,h5⟩:=hE
 have el:(IV s).rows=s.rows:=rfl
 have en:(IV s).rn=s.rn:=rfl
 have ea:(IV s).alive=s.alive:=rfl
 simp only at q3;rw [q2,en,el,ea,En A0,h0] at q3;exact ⟨Az Prod.fst q3,Az Prod.snd q3⟩
structure MZ where
 r:Bool
 l:List Int
 (n i:Int)
 K0:List Cd
 K6:List ByteArray
 K5:List Ko
 K4:List Ch
 KF:List Ba
 HG:List Cd
 HE:List ByteArray
 EP:List Ko
 B2:List Ch
 HI:List Ba
 BF:List Rw
 (CH CG CF CC CB CA C9 C8 CE CD C7 C6 C5 C4 C3 C2 BE sums levels:List Int)
 ahM:ByteArray
 (an5 ao3 alJ alK ahK afW atv more:Int)
def gC (s:MZ):T (Rd MZ):=letI a:=gi s.l s.i;.br (an<|s.i<s.n) (.ix s.i (M s.l)<|.ik a (M s.sums)<|.ix a (M s.BF)<|.br (!(an<|(AA<|(s.sums.getD a.toNat<|Ty.dflt A7)+s.more)<=(CX s.BF a).1)) (.rl s.sums<|.rl s.levels<|.so (.ret) {s with r:=X})<|.rl s.sums<|.rl s.levels<|.nx {s with i:=AA<|s.i+1})<|.rl s.sums<|.rl s.levels<|.so (.exit 0) s
def Tf (s:MZ) (j:Int):Bool:=KZ s.BF s.sums s.more<|gi s.l j
def Yu (s:MZ):Prop:=s.i=0/\0<=s.n/\s.n<=1000/\s.n=(M s.l:Int)/\(∀r∈s.l,0<=r/\r<(M s.BF:Int))/\M s.sums=M s.BF/\(∀k:Nat,0<=s.sums.getD k 0/\s.sums.getD k 0<=2000)/\(0<=s.more/\s.more<=10000)
def Y2 (s:MZ):Prop:=0<=s.i/\s.i<=s.n/\s.n<=1000/\(s.n=(M s.l:Int)/\(∀r∈s.l,0<=r/\r<(M s.BF:Int))/\M s.sums=M s.BF/\(∀k:Nat,0<=s.sums.getD k 0/\s.sums.getD k 0<=2000)/\(0<=s.more/\s.more<=10000))/\∀j:Nat,(j:Int)<s.i->Tf s j=U
def tL (s:MZ):Nat:=(s.n-s.i).toNat
def aAc (x:Ex) (s s':MZ):Prop:=(x=.exit 0/\∀j:Nat,(j:Int)<s'.n->Tf s' j=U)\/(x=.ret/\s'.r=X/\∃j:Nat,(j:Int)<s'.n/\Tf s' j=X)
def alO:∀s,Yu s->Y2 s:=by
 exact Jx
theorem aga:Da Y2 tL aAc gC:=by
 intro s hI;unfold gC;obtain ⟨h0,h1,h2,h3,h4⟩:=hI;refine AH (λc1=>AH (λc2=>?_) λc2=>?_) λc1=>?_
 ·have c1:s.i<s.n:=AX
  refine .inr ⟨rfl,rfl,s.i.toNat,AZ,?_⟩
  have hg:Tf s s.i=false:=aMO
  exact hg
 ·have c1:s.i<s.n:=AX
  have hg:Tf s s.i=true:=aMO
  rw [AJ (x:=s.i+1)];refine ⟨⟨AZ,AZ,h2,h3,λj hj=>?_⟩,by simp only [tL];omega⟩
  exact L0
 ·exact Se
def Z7:AS MZ:=⟨7,18,[1,4,7,8,9],[],λs=>[.fn 214 [.own 4 0,.own 6 0],s.r,.xl A7 s.l,s.n,s.i],λs=>[⟨[s.K0,s.K6,s.K5,s.K4,s.KF],28,.cl,X⟩,⟨[s.HG,s.HE,s.EP,s.B2,s.HI,.xl Ei s.BF,.xl A7 s.CH,.xl A7 s.CG,.xl A7 s.CF,.xl A7 s.CC,.xl A7 s.CB,.xl A7 s.CA,.xl A7 s.C9,.xl A7 s.C8,.xl A7 s.CE,.xl A7 s.CD,.xl A7 s.C7,.xl A7 s.C6,.xl A7 s.C5,.xl A7 s.C4,.xl A7 s.C3,.xl A7 s.C2,.os 2 1 0<|M s.sums,.xl A7 s.BE,.os 3 1 0<|M s.levels],305,.cl,X⟩,bV 3 A7 s.sums,bV 3 A7 s.levels,⟨[.own 1 0],301,.cl,X⟩,⟨[.v<|.string s.ahM,s.an5,s.ao3,s.alJ,s.alK,s.ahK,s.afW,s.atv],97,.cl,X⟩,⟨[s.more],3,.cl,X⟩],λv b=>⟨EO v 1,B5 A7 v 2,AK v 3,AK v 4,AF Ad b 0 0,AF .str b 0 1,AF Ah b 0 2,AF Af b 0 3,AF Ai b 0 4,AF Ad b 1 0,AF .str b 1 1,AF Ah b 1 2,AF Af b 1 3,AF Ai b 1 4,AF Ei b 1 5,AF A7 b 1 6,AF A7 b 1 7,AF A7 b 1 8,AF A7 b 1 9,AF A7 b 1 10,AF A7 b 1 11,AF A7 b 1 12,AF A7 b 1 13,AF A7 b 1 14,AF A7 b 1 15,AF A7 b 1 16,AF A7 b 1 17,AF A7 b 1 18,AF A7 b 1 19,AF A7 b 1 20,AF A7 b 1 21,AF A7 b 1 23,Ab A7 b 2,Ab A7 b 3,gSr<|B8 (CT b 5) 0,Aj b 5 1,Aj b 5 2,Aj b 5 3,Aj b 5 4,Aj b 5 5,Aj b 5 6,Aj b 5 7,Aj b 6 0⟩,gC,λs r=> {s with r:=r.r,i:=r.i},λs=>s,λ_ s=>s,[.ret,.exit 0],Yu,Y2,tL⟩
abbrev dc:=Z7.run
abbrev dI:=Z7.At
def Ts:List Bd:=[WQ,Wu,Wt,Wv]
def akh:Aw:=kI Ts<|la 3 func180 cf<|la 2 func178 WJ<|l0 Ts
def axr:Rq Y2 gC:=by
 intro s hI;refine ⟨λc1=>⟨?_,?_,?_,?_,λc2=>⟨A9,A9,ak⟩,λc2=>⟨A9,A9,ak⟩⟩,λc1=>⟨A9,A9,ak⟩⟩
 all_goals ((obtain ⟨h0,h1,h2,⟨e0,e1,e2,e3,e4⟩,h4⟩:=hI;simp only [Aa] at c1;have hm:=e1 (gi s.l s.i)<|LH A0 A0;omega))
def aQC:Z7.Ok:={}
def aPf:Z7.Pf (aAc):=⟨alO,λs h=>rfl,aga,axr⟩
def oV:=s2 (b:=bN f178 0) aQC aPf Ts akh
def asv:Fi Yu Y2 aAc dI dc:=AS.fin aQC aPf
def bx (s:MZ) (hE:Yu s):(dI s=.exit 0/\s.l.all (KZ s.BF s.sums s.more)=U)\/(dI s=.ret/\(dc s).r=X/\s.l.all (KZ s.BF s.sums s.more)=X):=by
 obtain ⟨s',hI,hq⟩:=asv s hE;obtain ⟨h0,h1,h2,h3,_⟩:=hE
 have en:(dc s).n=s.n:=rfl
 rcases hq with ⟨q1,q2⟩ |⟨q1,q2,j,q3,q4⟩
 ·exact .inl ⟨q1,(QB (d:=(0:Int))).1 λj hj=>q2 j A0⟩
 ·exact aKr
structure Jm where
 (charger level:Int)
 l:List Int
 (n i:Int)
 K0:List Cd
 K6:List ByteArray
 K5:List Ko
 K4:List Ch
 KF:List Ba
 HG:List Cd
 HE:List ByteArray
 EP:List Ko
 B2:List Ch
 HI:List Ba
 BF:List Rw
 (CH CG CF CC CB CA C9 C8 CE CD C7 C6 C5 C4 C3 C2 BE sums levels:List Int)
 more:Int
def aBX (s:Jm):T (Rd Jm):=letI b:=gi s.l s.i;letI c:=M s.sums;letI a:=s.sums.set b.toNat<|AA<|(s.sums.getD b.toNat<|Ty.dflt A7)+s.more;.br (an<|s.i<s.n) (.ix s.i (M s.l)<|.ik b c<|.ik b c<|.re c a<|.rl s.levels<|.nx {s with i:=AA<|s.i+1,sums:=a})<|.rl s.sums<|.rl s.levels<|.so (.exit 0) s
def Un (s:Jm):Prop:=s.i=0/\(∀k:Nat,0<=s.sums.getD k 0/\s.sums.getD k 0<=2000)/\s.n=(M s.l:Int)/\s.n<=1000/\(∀r∈s.l,0<=r/\r<(M s.sums:Int))/\(0<=s.more/\s.more<=10000)
def bB (s:Jm):Prop:=(0<=s.i/\s.i<=s.n)/\(∀k:Nat,0<=s.sums.getD k 0/\s.sums.getD k 0<=2000+10000*s.i)/\s.n=(M s.l:Int)/\s.n<=1000/\(∀r∈s.l,0<=r/\r<(M s.sums:Int))/\(0<=s.more/\s.more<=10000)
def zg (s:Jm):Nat:=(s.n-s.i).toNat
def wN (x:Ex) (s s':Jm):Prop:=x=.exit 0/\s'.i=s'.n
theorem amZ:∀s,Un s->bB s:=by
 rintro s ⟨h0,h1,h2,h3⟩
 exact ⟨A0,λk=>A8,h2,h3⟩
theorem aib:Da bB zg wN aBX:=by
 intro s hI;obtain ⟨⟨h0,h1⟩,h2,h3,h4,h5,h6⟩:=hI;refine AH (λc1=>?_) λc1=>?_
 ·have c1:s.i<s.n:=AX
  have hb:=h2 (gi s.l s.i).toNat
  rw [AJ (x:=s.i+1),AJ (x:=s.sums.getD (gi s.l s.i).toNat (Ty.dflt A7)+s.more) aMw aMx];refine ⟨⟨⟨A8,A8⟩,λk=>?_,h3,h4,λr hr=>A8,h6⟩,by simp only [zg];omega⟩
  simp only
  have hk:=h2 k
  rw [T2];split
  ·show 0<=s.sums.getD (gi s.l s.i).toNat 0+s.more/\s.sums.getD (gi s.l s.i).toNat 0+s.more<=_
   omega
  ·omega
 ·exact Sc
def Uo:AS Jm:=⟨4,90,[1,2,6,7,66,67,68],[],λs=>[s.charger,.own 4 0,s.level,.own 5 0,.xl A7 s.l,s.n,s.i],λs=>[⟨[s.K0,s.K6,s.K5,s.K4,s.KF],28,.cl,X⟩,⟨[s.HG,s.HE,s.EP,s.B2,s.HI,.xl Ei s.BF,.xl A7 s.CH,.xl A7 s.CG,.xl A7 s.CF,.xl A7 s.CC,.xl A7 s.CB,.xl A7 s.CA,.xl A7 s.C9,.xl A7 s.C8,.xl A7 s.CE,.xl A7 s.CD,.xl A7 s.C7,.xl A7 s.C6,.xl A7 s.C5,.xl A7 s.C4,.xl A7 s.C3,.xl A7 s.C2,.os 2 1 0<|M s.sums,.xl A7 s.BE,.os 3 1 0<|M s.levels],305,.cl,X⟩,bV 3 A7 s.sums,bV 3 A7 s.levels,⟨[.own 1 0],301,.cl,X⟩,⟨[s.more],3,.cl,X⟩],λv b=>⟨AK v 0,AK v 2,B5 A7 v 4,AK v 5,AK v 6,AF Ad b 0 0,AF .str b 0 1,AF Ah b 0 2,AF Af b 0 3,AF Ai b 0 4,AF Ad b 1 0,AF .str b 1 1,AF Ah b 1 2,AF Af b 1 3,AF Ai b 1 4,AF Ei b 1 5,AF A7 b 1 6,AF A7 b 1 7,AF A7 b 1 8,AF A7 b 1 9,AF A7 b 1 10,AF A7 b 1 11,AF A7 b 1 12,AF A7 b 1 13,AF A7 b 1 14,AF A7 b 1 15,AF A7 b 1 16,AF A7 b 1 17,AF A7 b 1 18,AF A7 b 1 19,AF A7 b 1 20,AF A7 b 1 21,AF A7 b 1 23,Ab A7 b 2,Ab A7 b 3,Aj b 5 0⟩,aBX,λs r=> {s with i:=r.i,sums:=r.sums},λs=>s,λ_ s=>s,[.exit 0],Un,bB,zg⟩
abbrev OY:=Uo.run
abbrev agR:=Uo.At
def akg:Aw:=kI Ts<|la 2 func178 oV<|la 3 func180 cf<|la 2 func178 WJ<|l0 Ts
def ail:Rq bB aBX:=by
 intro s hI;refine ⟨λc1=>⟨?_,?_,?_,?_,?_,?_,A9,ak⟩,λc1=>⟨A9,A9,ak⟩⟩
 all_goals ((obtain ⟨⟨h0,h1⟩,h2,h3,h4,h5,h6⟩:=hI;(try simp only [Aa] at c1);first|(have hm:=h5 (gi s.l s.i)<|LH A0 A0;omega) |exact ⟨rfl,AI⟩ |exact ⟨rfl,rfl⟩))
def zY:Uo.Ok:={}
def zL:Uo.Pf (wN):=⟨amZ,λs h=>rfl,aib,ail⟩
def s8:=s2 (b:=bN f182 0) zY zL Ts akg
def awx:Fi Un bB wN agR OY:=AS.fin zY zL
theorem aqu (s:Jm) (hE:Un s):(λs:Jm=>Kd s.sums s.more<|s.l.drop s.i.toNat) (OY s)=(λs:Jm=>Kd s.sums s.more<|s.l.drop s.i.toNat) s:=by
 exact AS.KJ zY zL (λs:Jm=>Kd s.sums s.more<|s.l.drop s.i.toNat) (λs hI=>by
  obtain ⟨⟨h0,h1⟩,h2,h3,h4,h5,h6⟩:=hI;refine AH (λc1=>?_) λc1=>rfl
  have c1:s.i<s.n:=A8
  have hb:=h2 (gi s.l s.i).toNat
  rw [AJ (x:=s.i+1),AJ (x:=s.sums.getD (gi s.l s.i).toNat (Ty.dflt A7)+s.more) aMw aMx];rw [(gi_step h0 (show s.i<M s.l by omega)).1]
  rfl) s hE
def aP0 (s:Jm) (hE:Un s):(OY s).sums=Kd s.sums s.more s.l:=by
 have q3:=aqu s hE
 obtain ⟨s',hI,q1,q2⟩:=awx s hE;obtain ⟨h0,h1,h2,h3⟩:=hE;simp only at q3;rw [q2,show (OY s).n=s.n from rfl,show (OY s).l=s.l from rfl,show (OY s).more=s.more from rfl,En A0,h0] at q3;exact q3
structure Cy where
 (most order:List Int)
 (n level:Int)
 some:Bool
 l:List Int
 (m k:Int)
 B9:List Cd
 BW:List ByteArray
 C0:List Ko
 BM:List Ch
 C1:List Ba
 HG:List Cd
 HE:List ByteArray
 EP:List Ko
 B2:List Ch
 HI:List Ba
 BF:List Rw
 (CH CG CF CC CB CA C9 C8 CE CD C7 C6 C5 C4 C3 C2 BE sums levels:List Int)
def aF4:=lN (bN f139 0) 0
def TA (s:Cy):MZ:=letI c:=gi s.l s.k;letI d:=gi s.BE c;letI a:=AG s.B2 c;letI b:=AA<|(s.levels.getD c.toNat<|Ty.dflt A7)+1;(⟨X,([s.CH,s.CG,s.CF,s.CC,s.CB,s.CA,s.C9,s.C8,s.CE,s.CD,s.C7,s.C6,s.C5,s.C4,s.C3,s.C2]:List<|List Int).getD c.toNat [],(M (([s.CH,s.CG,s.CF,s.CC,s.CB,s.CA,s.C9,s.C8,s.CE,s.CD,s.C7,s.C6,s.C5,s.C4,s.C3,s.C2]:List<|List Int).getD c.toNat []):Int),0,s.B9,s.BW,s.C0,s.BM,s.C1,s.HG,s.HE,s.EP,s.B2,s.HI,s.BF,s.CH,s.CG,s.CF,s.CC,s.CB,s.CA,s.C9,s.C8,s.CE,s.CD,s.C7,s.C6,s.C5,s.C4,s.C3,s.C2,s.BE,s.sums,s.levels,a.1,a.2.1,a.2.2.1,a.2.2.2.1,a.2.2.2.2.1,a.2.2.2.2.2.1,a.2.2.2.2.2.2.1,a.2.2.2.2.2.2.2,AA<|(if d<(Dx a.2.2.2.1 a.2.2.2.2.2.1 b) then Dx a.2.2.2.1 a.2.2.2.2.2.1 b else d)-(if d<(Dx a.2.2.2.1 a.2.2.2.2.2.1<|AA<|b-1) then Dx a.2.2.2.1 a.2.2.2.2.2.1 (AA<|b-1) else d)⟩:MZ)
def Sp (s:Cy):Jm:=letI b:=gi s.l s.k;letI c:=AG s.B2 b;letI d:=gi s.BE b;letI a:=AA<|(s.levels.getD b.toNat<|Ty.dflt A7)+1;(⟨b,a,([s.CH,s.CG,s.CF,s.CC,s.CB,s.CA,s.C9,s.C8,s.CE,s.CD,s.C7,s.C6,s.C5,s.C4,s.C3,s.C2]:List<|List Int).getD b.toNat [],(M (([s.CH,s.CG,s.CF,s.CC,s.CB,s.CA,s.C9,s.C8,s.CE,s.CD,s.C7,s.C6,s.C5,s.C4,s.C3,s.C2]:List<|List Int).getD b.toNat []):Int),0,s.B9,s.BW,s.C0,s.BM,s.C1,s.HG,s.HE,s.EP,s.B2,s.HI,s.BF,s.CH,s.CG,s.CF,s.CC,s.CB,s.CA,s.C9,s.C8,s.CE,s.CD,s.C7,s.C6,s.C5,s.C4,s.C3,s.C2,s.BE,s.sums,s.levels,AA<|(if d<(Dx c.2.2.2.1 c.2.2.2.2.2.1 a) then Dx c.2.2.2.1 c.2.2.2.2.2.1 a else d)-(if d<(Dx c.2.2.2.1 c.2.2.2.2.2.1<|AA<|a-1) then Dx c.2.2.2.1 c.2.2.2.2.2.1 (AA<|a-1) else d)⟩:Jm)
def Tl (s:Cy):T (Rd Cy):=letI b:=gi s.l s.k;letI d:=M s.levels;letI e:=AA<|s.k+1;letI f:=AG s.B2 b;letI g:=OY<|Sp s;letI h:=s.levels.getD b.toNat<|Ty.dflt A7;letI c:=AA<|h+1;letI a:=s.levels.set b.toNat c;.br (an<|s.k<s.m) (.ix s.k (M s.l)<|.ik b d<|.br (h !=(AA<|s.level-1)) (.rl s.sums<|.rl s.levels<|.nx {s with k:=e})<|.ix b (M s.BM)<|.ix b (M s.most)<|.req ((gi s.most b)<=9223372036854775807)<|.br (an<|(HB (AG s.BM b).2.2.2.1 (AG s.BM b).2.2.2.2.1 (AG s.BM b).2.2.2.2.2.1<|gi s.most b)<s.level) (.rl s.sums<|.rl s.levels<|.nx {s with k:=e})<|.ix b (M s.B2)<|.ik b d<|.ix b (M s.BE)<|.req ((1<=f.2.2.2.1/\f.2.2.2.1<=80/\1<=f.2.2.2.2.2.1/\f.2.2.2.2.2.1<=80)/\0<=c/\c<=1000)<|.ix b (M s.BE)<|.req ((1<=f.2.2.2.1/\f.2.2.2.1<=80/\1<=f.2.2.2.2.2.1/\f.2.2.2.2.2.1<=80)/\0<=(AA<|c-1)/\(AA<|c-1)<=1000)<|.req (0<=b/\b<(16:Int))<|.rl s.sums<|.rl s.levels<|.req (Z7.q<|TA s)<|.br (Bj (dI<|TA s)<|.ret) (.br (!(dc<|TA s).r) (.br X (.rl s.sums<|.rl s.levels<|.nx {s with some:=U,k:=e})<|.rl s.sums<|.rl s.levels<|.nx {s with k:=e})<|.req (0<=b/\b<(16:Int))<|.rl s.sums<|.rl s.levels<|.req (Uo.q<|Sp s)<|.ik b d<|.br U (.rl g.sums<|.re d a<|.nx {s with some:=U,k:=e,sums:=g.sums,levels:=a})<|.rl g.sums<|.re d a<|.nx {s with k:=e,sums:=g.sums,levels:=a})<|.br (!U) (.br X (.rl s.sums<|.rl s.levels<|.nx {s with some:=U,k:=e})<|.rl s.sums<|.rl s.levels<|.nx {s with k:=e})<|.req (0<=b/\b<(16:Int))<|.rl s.sums<|.rl s.levels<|.req (Uo.q<|Sp s)<|.ik b d<|.br U (.rl g.sums<|.re d a<|.nx {s with some:=U,k:=e,sums:=g.sums,levels:=a})<|.rl g.sums<|.re d a<|.nx {s with k:=e,sums:=g.sums,levels:=a})<|.rl s.sums<|.rl s.levels<|.so (.exit 2) s
def D7 (s:Cy):List (List Int):=[s.CH,s.CG,s.CF,s.CC,s.CB,s.CA,s.C9,s.C8,s.CE,s.CD,s.C7,s.C6,s.C5,s.C4,s.C3,s.C2]
def UF (s:Cy):Prop:=s.k=0/\(s.m=(M s.l:Int)/\s.m<=1000/\1<=s.level/\s.level<=81)/\s.B2=s.BM/\OkT (D7 s) s.BF s.B2 s.BE s.most s.l/\OkS s.BF s.l s.sums s.levels
def He (s:Cy):Prop:=(0<=s.k/\s.k<=s.m)/\(s.m=(M s.l:Int)/\s.m<=1000/\1<=s.level/\s.level<=81)/\s.B2=s.BM/\OkT (D7 s) s.BF s.B2 s.BE s.most s.l/\OkS s.BF s.l s.sums s.levels
def TN (s:Cy):Nat:=(s.m-s.k).toNat
def j6 (x:Ex) (s s':Cy):Prop:=x=.exit 2/\s'.k=s'.m
def aiw:∀s,UF s->He s:=by
 exact kv
theorem QJ (s:Cy) (hI:He s) (c1:s.k<s.m):letI a:=gi s.l s.k;gi s.l s.k∈s.l/\(0<=gi s.l s.k/\gi s.l s.k<16)/\gi s.l s.k<(M s.B2:Int)/\gi s.l s.k<(M s.BM:Int)/\gi s.l s.k<(M s.BE:Int)/\gi s.l s.k<(M s.most:Int)/\gi s.l s.k<(M s.levels:Int)/\(0<=gi s.most a/\gi s.most a<=80)/\(0<=gi s.BE a/\gi s.BE a<=80):=by
 obtain ⟨⟨h0,h1⟩,⟨h2,h3,h4,h5⟩,h6,hT,hS⟩:=hI
 have hm:gi s.l s.k∈s.l:=LH h0 A0
 obtain ⟨o1,o2,o3,o4⟩:=hT.ord _ hm;exact ⟨hm,o1,o2,A8,o3,o4,hS.Bv _ hm,hT.mo _<|LH o1.1 o4,hT.al _<|LH o1.1 o3⟩
theorem QH {s:Cy}(hI:He s) (c2:((s.levels.getD (gi s.l s.k).toNat<|Ty.dflt A7) !=(AA<|s.level-1))=X):s.levels.getD (gi s.l s.k).toNat 0=s.level-1:=by
 obtain ⟨_,⟨h2,h3,h4,h5⟩,_⟩:=hI
 have c2:((s.levels.getD (gi s.l s.k).toNat 0) !=(AA<|s.level-1))=false:=c2
 rw [AJ (x:=s.level-1)] at c2
 grind
def fj {s:Cy}(hI:He s) (c2:s.levels.getD (gi s.l s.k).toNat 0=s.level-1):letI a:=(s.levels.getD (gi s.l s.k).toNat<|Ty.dflt A7)+1;AA a=s.level/\AA ((AA a)-1)=s.level-1:=by
 obtain ⟨_,⟨h2,h3,h4,h5⟩,_⟩:=hI
 have e:AA ((s.levels.getD (gi s.l s.k).toNat<|Ty.dflt A7)+1)=s.level:=by
  have:(s.levels.getD (gi s.l s.k).toNat<|Ty.dflt A7)=s.level-1:=c2
  rw [this,AJ (x:=s.level-1+1)];omega
 refine ⟨e,?_⟩;rw [e,AJ]
def Vv {s:Cy}(hI:He s) (c1:s.k<s.m) (c2:s.levels.getD (gi s.l s.k).toNat 0=s.level-1):letI a:=gi s.l s.k;(TA s).more=Fy s.B2 s.BE a s.level/\(Sp s).more=Fy s.B2 s.BE a s.level/\0<=Fy s.B2 s.BE a s.level/\Fy s.B2 s.BE a s.level<=10000:=by
 have hx:=QJ s hI c1
 obtain ⟨w1,w2⟩:=fj hI c2;obtain ⟨_,⟨h2,h3,h4,h5⟩,h6,hT,hS⟩:=hI
 have hb:=aQf (gs:=s.B2) (alive:=s.BE) (k:=s.level) (hT.has _ hx.1) hx.2.2.2.2.2.2.2.2 h4 h5
 have e:(TA s).more=Fy s.B2 s.BE (gi s.l s.k) s.level:=by
  unfold TA;simp only [w2];simp only [w1]
  show AA (Fy s.B2 s.BE (gi s.l s.k) s.level)=_
  rw [AJ]
 exact ⟨e,e,hb⟩
theorem aay {s:Cy}(hI:He s) (c1:s.k<s.m):((D7 s).getD (gi s.l s.k).toNat []).Nodup/\(M ((D7 s).getD (gi s.l s.k).toNat []):Int)<=1000/\∀r∈(D7 s).getD (gi s.l s.k).toNat [],0<=r/\r<(M s.BF:Int):=by
 have hx:=QJ s hI c1
 obtain ⟨_,_,_,hT,_⟩:=hI;refine hT.row _ ?_
 have hl:=hT.ol
 grind
theorem W0 {s:Cy}(hI:He s) (c1:s.k<s.m) (c2:s.levels.getD (gi s.l s.k).toNat 0=s.level-1):Yu (TA s):=by
 obtain ⟨m1,m2,m3⟩:=Vv hI c1 c2;obtain ⟨o1,o2,o3⟩:=aay hI c1;obtain ⟨_,_,_,hT,hS⟩:=hI;exact ⟨rfl,SR _,o2,rfl,o3,hS.len,hS.bd,A8⟩
theorem pn {s:Cy}(hI:He s) (c1:s.k<s.m) (c2:s.levels.getD (gi s.l s.k).toNat 0=s.level-1):Un (Sp s):=by
 obtain ⟨m1,m2,m3⟩:=Vv hI c1 c2;obtain ⟨o1,o2,o3⟩:=aay hI c1;obtain ⟨_,_,_,hT,hS⟩:=hI;refine ⟨rfl,hS.bd,rfl,o2,λr hr=>?_,A8⟩
 have:=o3 r hr
 have hl:=hS.len
 show 0<=r/\r<(M s.sums:Int)
 omega
theorem aOR (s s':Cy) (hI:He s) (c1:s.k<s.m) (ht:(s'.sums,s'.levels,s'.some)=Fp (D7 s) s.BF s.B2 s.BE s.most s.level (s.sums,s.levels,s.some) (gi s.l s.k)) (hk:s'.k=AA (s.k+1))
  (h_m:s'.m=s.m) (h_l:s'.l=s.l) (h_v:s'.level=s.level) (h_g:s'.B2=s.B2) (h_c:s'.BM=s.BM) (h_r:s'.BF=s.BF) (h_a:s'.BE=s.BE) (h_w:s'.most=s.most) (h_O:D7 s'=D7 s):
  (He s'/\TN s'<TN s)/\(λs:Cy=>swp (D7 s) s.BF s.B2 s.BE s.most s.level (s.sums,s.levels,s.some)<|s.l.drop s.k.toNat) s'=(λs:Cy=>swp (D7 s) s.BF s.B2 s.BE s.most s.level (s.sums,s.levels,s.some)<|s.l.drop s.k.toNat) s:=by
 have hx:=QJ s hI c1
 obtain ⟨⟨h0,h1⟩,⟨h2,h3,h4,h5⟩,h6,hT,hS⟩:=hI;rw [AJ (x:=s.k+1)] at hk
 have e1:s'.sums=(Fp (D7 s) s.BF s.B2 s.BE s.most s.level (s.sums,s.levels,s.some)<|gi s.l s.k).1:=Az (·.1) ht
 have e2:s'.levels=(Fp (D7 s) s.BF s.B2 s.BE s.most s.level (s.sums,s.levels,s.some)<|gi s.l s.k).2.1:=Az (·.2.1) ht
 refine ⟨⟨⟨⟨A0,A0⟩,⟨A8,A0,A0,A0⟩,A8,A8,?_⟩,by simp only [TN];omega⟩,?_⟩
 ·rw [h_r,h_l,e1,e2]
  exact aP1 hT hS hx.1 h4 h5
 ·simp only
  rw [h_O,h_r,h_g,h_a,h_w,h_v,h_l,ht,hk,(gi_step h0 (show s.k<M s.l by omega)).1]
  rfl
def oe (s s':Cy) (hI:He s) (c1:s.k<s.m) (ht:(s'.sums,s'.levels,s'.some)=Fp (D7 s) s.BF s.B2 s.BE s.most s.level (s.sums,s.levels,s.some) (gi s.l s.k)) (hk:s'.k=AA (s.k+1))
  (h_m:s'.m=s.m) (h_l:s'.l=s.l) (h_v:s'.level=s.level) (h_g:s'.B2=s.B2) (h_c:s'.BM=s.BM) (h_r:s'.BF=s.BF) (h_a:s'.BE=s.BE) (h_w:s'.most=s.most) (h_O:D7 s'=D7 s):DO (λs'=>He s'/\TN s'<TN s) (λx s'=>j6 x s s') (.next s'):=(aOR s s' hI c1 ht hk h_m h_l h_v h_g h_c h_r h_a h_w h_O).1
def oa (s s':Cy) (hI:He s) (c1:s.k<s.m) (ht:(s'.sums,s'.levels,s'.some)=Fp (D7 s) s.BF s.B2 s.BE s.most s.level (s.sums,s.levels,s.some) (gi s.l s.k)) (hk:s'.k=AA (s.k+1))
  (h_m:s'.m=s.m) (h_l:s'.l=s.l) (h_v:s'.level=s.level) (h_g:s'.B2=s.B2) (h_c:s'.BM=s.BM) (h_r:s'.BF=s.BF) (h_a:s'.BE=s.BE) (h_w:s'.most=s.most) (h_O:D7 s'=D7 s):DO (λs'=>(λs:Cy=>swp (D7 s) s.BF s.B2 s.BE s.most s.level (s.sums,s.levels,s.some)<|s.l.drop s.k.toNat) s'=(λs:Cy=>swp (D7 s) s.BF s.B2 s.BE s.most s.level (s.sums,s.levels,s.some)<|s.l.drop s.k.toNat) s) (λ_ s'=>(λs:Cy=>swp (D7 s) s.BF s.B2 s.BE s.most s.level (s.sums,s.levels,s.some)<|s.l.drop s.k.toNat) s'=(λs:Cy=>swp (D7 s) s.BF s.B2 s.BE s.most s.level (s.sums,s.levels,s.some)<|s.l.drop s.k.toNat) s) (.next s'):=(aOR s s' hI c1 ht hk h_m h_l h_v h_g h_c h_r h_a h_w h_O).2
def awq:Da He TN j6 Tl:=by
 intro s hI;unfold Tl;dsimp only [T.rd,T.rl,T.rv];refine AH (λc1=>?_) λc1=>?_
 ·refine AH (λc2=>?_) (λc2=>?_)
  ·have c1:s.k<s.m:=AX
   have hn:¬(s.levels.getD (gi s.l s.k).toNat 0=s.level-1/\s.level<=FO s.B2 (gi s.l s.k) (gi s.most<|gi s.l s.k)):=λh=>by
    exact aLG
   exact aM1
  ·refine AH (λc3=>?_) (λc3=>?_)
   ·have c1:s.k<s.m:=AX
    have hn:¬(s.levels.getD (gi s.l s.k).toNat 0=s.level-1/\s.level<=FO s.B2 (gi s.l s.k) (gi s.most<|gi s.l s.k)):=λh=>by
     exact aLa
    exact aM1
   ·refine AH (λc4=>?_) (λc4=>?_)
    ·refine AH (λc5=>?_) (λc5=>?_)
     ·refine AH (λc6=>?_) (λc6=>?_)
      ·cases c6
      ·have c1:s.k<s.m:=AX
       have c2:=QH hI c2
       have hp:s.levels.getD (gi s.l s.k).toNat 0=s.level-1/\s.level<=FO s.B2 (gi s.l s.k) (gi s.most<|gi s.l s.k):=by
        exact kT
       have hE:=W0 hI c1 c2
       obtain ⟨m1,m2,_⟩:=Vv hI c1 c2;rcases bx _ hE with ⟨q1,q2⟩ |⟨q1,q2,q3⟩
       ·rw [q1] at c4
        cases c4
       ·rw [m1] at q3
        have q3:((D7 s).getD (gi s.l s.k).toNat []).all (KZ s.BF s.sums<|Fy s.B2 s.BE (gi s.l s.k) s.level)=false:=q3
        exact oe s _ hI AX aNP rfl rfl rfl rfl rfl rfl rfl rfl rfl rfl
     ·exact aMj
    ·refine AH (λc5=>?_) (λc5=>?_)
     ·exact aML
     ·refine AH (λc6=>?_) (λc6=>?_)
      ·have c1:s.k<s.m:=AX
       have c2:=QH hI c2
       have hp:s.levels.getD (gi s.l s.k).toNat 0=s.level-1/\s.level<=FO s.B2 (gi s.l s.k) (gi s.most<|gi s.l s.k):=by
        exact kT
       have hE:=W0 hI c1 c2
       obtain ⟨m1,m2,_⟩:=Vv hI c1 c2
       have hR:=pn hI c1 c2
       rcases bx _ hE with ⟨q1,q2⟩ |⟨q1,q2,q3⟩
       ·rw [m1] at q2
        have q2:((D7 s).getD (gi s.l s.k).toNat []).all (KZ s.BF s.sums<|Fy s.B2 s.BE (gi s.l s.k) s.level)=true:=q2
        have r1:=aP0 _ hR
        rw [m2] at r1
        have r1:(OY<|Sp s).sums=Kd s.sums (Fy s.B2 s.BE (gi s.l s.k) s.level) ((D7 s).getD (gi s.l s.k).toNat []):=r1
        have w1:=(fj hI c2).1
        exact oe s _ hI AX aN7 rfl rfl rfl rfl rfl rfl rfl rfl rfl rfl
       ·rw [q1] at c4
        cases c4
      ·cases c6
 ·have c1:s.m<=s.k:=AX
  have h0:=hI.1
  exact V8
def R8:AS Cy:=⟨0,129,[2,3,4,12,14,15,16,66,67,68],[],λs=>[.xl A7 s.most,.xl A7 s.order,.own 0 0,s.n,.own 1 0,s.level,s.some,.xl A7 s.l,s.m,s.k],λs=>[⟨[s.B9,s.BW,s.C0,s.BM,s.C1],28,.cl,X⟩,⟨[s.HG,s.HE,s.EP,s.B2,s.HI,.xl Ei s.BF,.xl A7 s.CH,.xl A7 s.CG,.xl A7 s.CF,.xl A7 s.CC,.xl A7 s.CB,.xl A7 s.CA,.xl A7 s.C9,.xl A7 s.C8,.xl A7 s.CE,.xl A7 s.CD,.xl A7 s.C7,.xl A7 s.C6,.xl A7 s.C5,.xl A7 s.C4,.xl A7 s.C3,.xl A7 s.C2,.os 2 1 0<|M s.sums,.xl A7 s.BE,.os 3 1 0<|M s.levels],305,.cl,X⟩,bV 3 A7 s.sums,bV 3 A7 s.levels],λv b=>⟨B5 A7 v 0,B5 A7 v 1,AK v 3,AK v 5,EO v 6,B5 A7 v 7,AK v 8,AK v 9,AF Ad b 0 0,AF .str b 0 1,AF Ah b 0 2,AF Af b 0 3,AF Ai b 0 4,AF Ad b 1 0,AF .str b 1 1,AF Ah b 1 2,AF Af b 1 3,AF Ai b 1 4,AF Ei b 1 5,AF A7 b 1 6,AF A7 b 1 7,AF A7 b 1 8,AF A7 b 1 9,AF A7 b 1 10,AF A7 b 1 11,AF A7 b 1 12,AF A7 b 1 13,AF A7 b 1 14,AF A7 b 1 15,AF A7 b 1 16,AF A7 b 1 17,AF A7 b 1 18,AF A7 b 1 19,AF A7 b 1 20,AF A7 b 1 21,AF A7 b 1 23,Ab A7 b 2,Ab A7 b 3⟩,Tl,λs r=> {s with some:=r.some,k:=r.k,sums:=r.sums,levels:=r.levels},λs=>s,λ_ s=>s,[.exit 2],UF,He,TN⟩
abbrev HX:=R8.run
abbrev atC:=R8.At
theorem awO:Rq He Tl:=by
 intro s hI;refine ⟨λc1=>⟨?_,?_,?_,λc2=>⟨A9,A9,ak⟩,λc2=>⟨?_,?_,?_,λc3=>⟨A9,A9,ak⟩,λc3=>⟨?_,?_,?_,?_,?_,?_,?_,?_,A9,A9,?_,λc4=>⟨λc5=>⟨λc6=>⟨A9,A9,ak⟩,λc6=>⟨A9,A9,ak⟩⟩,λc5=>⟨?_,A9,A9,?_,?_,?_,λc7=>⟨A9,?_,ak⟩,λc7=>⟨A9,?_,ak⟩⟩⟩,λc4=>⟨λc8=>⟨λc9=>⟨A9,A9,ak⟩,λc9=>⟨A9,A9,ak⟩⟩,λc8=>⟨?_,A9,A9,?_,?_,?_,λc10=>⟨A9,?_,ak⟩,λc10=>⟨A9,?_,ak⟩⟩⟩⟩⟩⟩,λc1=>⟨A9,A9,ak⟩⟩
 ·(have:=hI.1;have:=hI.2.1.1;simp only [Aa] at c1;omega)
 iterate 9 · (have hx:=QJ s hI AX;omega)
 ·exact aL2
 ·exact ku
 ·exact aL2
 ·exact ku
 ·exact ⟨W0 hI AX<|QH hI c2,rfl,rfl⟩
 ·exact ku
 ·exact aMc
 iterate 2 · (have hx:=QJ s hI AX;omega)
 iterate 2 · exact ⟨rfl,AI⟩
 ·exact ku
 ·exact aMc
 iterate 2 · (have hx:=QJ s hI A8;omega)
 iterate 2 · exact ⟨rfl,AI⟩
def zq:List Bd:=[WQ,Wu,Wt,Wv]
def akf:Aw:=kI zq<|la 8 func182 s8<|la 2 func178 oV<|la 3 func180 cf<|la 2 func178 WJ<|l0 zq
def rh:R8.Ok:={}
def rI:R8.Pf (j6):=⟨aiw,λs h=>rfl,awq,awO⟩
def aq7:SA 0 aF4 R8:=s1 rh rI zq akf
def aqp:Fi UF He j6 atC HX:=AS.fin rh rI
def anI (s:Cy) (hE:UF s):(λs:Cy=>swp (D7 s) s.BF s.B2 s.BE s.most s.level (s.sums,s.levels,s.some)<|s.l.drop s.k.toNat) (HX s)=(λs:Cy=>swp (D7 s) s.BF s.B2 s.BE s.most s.level (s.sums,s.levels,s.some)<|s.l.drop s.k.toNat) s:=by
 exact AS.KJ rh rI (λs:Cy=>swp (D7 s) s.BF s.B2 s.BE s.most s.level (s.sums,s.levels,s.some)<|s.l.drop s.k.toNat) (λs hI=>by
  show DO _ _ ((Tl s).rd s)
  unfold Tl;dsimp only [T.rd,T.rl];refine AH (λc1=>?_) λc1=>?_
  ·refine AH (λc2=>?_) (λc2=>?_)
   ·have c1:s.k<s.m:=AX
    have hn:¬(s.levels.getD (gi s.l s.k).toNat 0=s.level-1/\s.level<=FO s.B2 (gi s.l s.k) (gi s.most<|gi s.l s.k)):=λh=>by
     exact aLG
    exact aM2
   ·refine AH (λc3=>?_) (λc3=>?_)
    ·have c1:s.k<s.m:=AX
     have hn:¬(s.levels.getD (gi s.l s.k).toNat 0=s.level-1/\s.level<=FO s.B2 (gi s.l s.k) (gi s.most<|gi s.l s.k)):=λh=>by
      exact aLa
     exact aM2
    ·refine AH (λc4=>?_) (λc4=>?_)
     ·refine AH (λc5=>?_) (λc5=>?_)
      ·refine AH (λc6=>?_) (λc6=>?_)
       ·cases c6
       ·have c1:s.k<s.m:=AX
        have c2:=QH hI c2
        have hp:s.levels.getD (gi s.l s.k).toNat 0=s.level-1/\s.level<=FO s.B2 (gi s.l s.k) (gi s.most<|gi s.l s.k):=by
         exact kT
        have hE:=W0 hI c1 c2
        obtain ⟨m1,m2,_⟩:=Vv hI c1 c2;rcases bx _ hE with ⟨q1,q2⟩ |⟨q1,q2,q3⟩
        ·rw [q1] at c4
         cases c4
        ·rw [m1] at q3
         have q3:((D7 s).getD (gi s.l s.k).toNat []).all (KZ s.BF s.sums<|Fy s.B2 s.BE (gi s.l s.k) s.level)=false:=q3
         exact oa s _ hI AX aNP rfl rfl rfl rfl rfl rfl rfl rfl rfl rfl
      ·exact aMj
     ·refine AH (λc5=>?_) (λc5=>?_)
      ·exact aML
      ·refine AH (λc6=>?_) (λc6=>?_)
       ·have c1:s.k<s.m:=AX
        have c2:=QH hI c2
        have hp:s.levels.getD (gi s.l s.k).toNat 0=s.level-1/\s.level<=FO s.B2 (gi s.l s.k) (gi s.most<|gi s.l s.k):=by
         exact kT
        have hE:=W0 hI c1 c2
        obtain ⟨m1,m2,_⟩:=Vv hI c1 c2
        have hR:=pn hI c1 c2
        rcases bx _ hE with ⟨q1,q2⟩ |⟨q1,q2,q3⟩
        ·rw [m1] at q2
         have q2:((D7 s).getD (gi s.l s.k).toNat []).all (KZ s.BF s.sums<|Fy s.B2 s.BE (gi s.l s.k) s.level)=true:=q2
         have r1:=aP0 _ hR
         rw [m2] at r1
         have r1:(OY<|Sp s).sums=Kd s.sums (Fy s.B2 s.BE (gi s.l s.k) s.level) ((D7 s).getD (gi s.l s.k).toNat []):=r1
         have w1:=(fj hI c2).1
         exact oa s _ hI AX aN7 rfl rfl rfl rfl rfl rfl rfl rfl rfl rfl
        ·rw [q1] at c4
         cases c4
       ·cases c6
  ·rfl) s hE
def aqo (s:Cy) (hE:UF s):((HX s).sums,(HX s).levels,(HX s).some)=swp (D7 s) s.BF s.B2 s.BE s.most s.level (s.sums,s.levels,s.some) s.l:=by
 have q3:=anI s hE
 obtain ⟨s',hI,q1,q2⟩:=aqp s hE;obtain ⟨h0,h1,_⟩:=hE;simp only at q3;rw [q2,show (HX s).m=s.m from rfl,show (HX s).l=s.l from rfl,En A0,h0] at q3;exact q3
structure Iw where
 (most order:List Int)
 (n level:Int)
 B9:List Cd
 BW:List ByteArray
 C0:List Ko
 BM:List Ch
 C1:List Ba
 HG:List Cd
 HE:List ByteArray
 EP:List Ko
 B2:List Ch
 HI:List Ba
 BF:List Rw
 (CH CG CF CC CB CA C9 C8 CE CD C7 C6 C5 C4 C3 C2 BE sums levels:List Int)
def pQ:=bN f139 0
def L2 (s:Iw):Cy:=(⟨s.most,s.order,s.n,s.level,X,s.order,(M s.order:Int),0,s.B9,s.BW,s.C0,s.BM,s.C1,s.HG,s.HE,s.EP,s.B2,s.HI,s.BF,s.CH,s.CG,s.CF,s.CC,s.CB,s.CA,s.C9,s.C8,s.CE,s.CD,s.C7,s.C6,s.C5,s.C4,s.C3,s.C2,s.BE,s.sums,s.levels⟩:Cy)
def vI (s:Iw):T (Rd Iw):=letI a:=HX<|L2 s;.rl s.sums<|.rl s.levels<|.req (R8.q<|L2 s)<|.br (! a.some) (.rl a.sums<|.rl a.levels<|.so (.exit 0) {s with sums:=a.sums,levels:=a.levels})<|.rl a.sums<|.rl a.levels<|.nx {s with level:=AA<|s.level+1,sums:=a.sums,levels:=a.levels}
def KO (s:Iw):List (List Int):=[s.CH,s.CG,s.CF,s.CC,s.CB,s.CA,s.C9,s.C8,s.CE,s.CD,s.C7,s.C6,s.C5,s.C4,s.C3,s.C2]
def iz (s:Iw):Prop:=s.level=1/\(M s.order:Int)<=1000/\s.B2=s.BM/\OkT (KO s) s.BF s.B2 s.BE s.most s.order/\OkS s.BF s.order s.sums s.levels
def Tp (s:Iw):Prop:=(1<=s.level/\s.level<=81)/\(M s.order:Int)<=1000/\s.B2=s.BM/\OkT (KO s) s.BF s.B2 s.BE s.most s.order/\OkS s.BF s.order s.sums s.levels
def tX (s:Iw):Nat:=(82-s.level).toNat
def ac0 (x:Ex) (s s':Iw):Prop:=x=.exit 0
def aiv:∀s,iz s->Tp s:=by
 exact kv
def aOP (s:Iw) (hI:Tp s):UF (L2 s):=by
 obtain ⟨⟨h0,h1⟩,h2,h3,hT,hS⟩:=hI;exact ⟨rfl,⟨rfl,h2,h0,h1⟩,h3,hT,hS⟩
def aax (s:Iw) (hI:Tp s):((HX<|L2 s).sums,(HX<|L2 s).levels,(HX<|L2 s).some)=swp (KO s) s.BF s.B2 s.BE s.most s.level (s.sums,s.levels,X) s.order:=aqo _<|aOP s hI
theorem awp:Da Tp tX ac0 vI:=by
 intro s hI
 have hr:=aax s hI
 obtain ⟨⟨h0,h1⟩,h2,h3,hT,hS⟩:=hI;refine AH (λc1=>rfl) λc1=>?_
 have c1:(HX<|L2 s).some=true:=A8
 have hk:=s7 hT h0 h1 s.order (s.sums,s.levels,X) (λ_ h=>h) hS
 have hs:=nz (O:=KO s) (rows:=s.BF) (gs:=s.B2) (alive:=s.BE) (most:=s.most) (level:=s.level) s.order (s.sums,s.levels,X)
 rw [<-hr] at hk hs
 have h80:s.level<=80:=by
  rcases hs c1 with h|h
  ·cases h
  ·exact h
 rw [AJ (x:=s.level+1)];exact ⟨⟨⟨A8,A8⟩,h2,h3,hT,hk⟩,by simp only [tX];omega⟩
def P9:AS Iw:=⟨0,129,[2,3,4,12,14,15],[.ps 14 6 A7,.ps 14 7 A7,.ps 14 8 A7,.ps 14 9 A7,.ps 14 10 A7,.ps 14 11 A7,.ps 14 12 A7,.ps 14 13 A7,.ps 14 14 A7,.ps 14 15 A7,.ps 14 16 A7,.ps 14 17 A7,.ps 14 18 A7,.ps 14 19 A7,.ps 14 20 A7,.ps 14 21 A7],λs=>[.xl A7 s.most,.xl A7 s.order,.own 0 0,s.n,.own 1 0,s.level],λs=>[⟨[s.B9,s.BW,s.C0,s.BM,s.C1],28,.cl,X⟩,⟨[s.HG,s.HE,s.EP,s.B2,s.HI,.xl Ei s.BF,.xl A7 s.CH,.xl A7 s.CG,.xl A7 s.CF,.xl A7 s.CC,.xl A7 s.CB,.xl A7 s.CA,.xl A7 s.C9,.xl A7 s.C8,.xl A7 s.CE,.xl A7 s.CD,.xl A7 s.C7,.xl A7 s.C6,.xl A7 s.C5,.xl A7 s.C4,.xl A7 s.C3,.xl A7 s.C2,.os 2 1 0<|M s.sums,.xl A7 s.BE,.os 3 1 0<|M s.levels],305,.cl,X⟩,bV 3 A7 s.sums,bV 3 A7 s.levels],λv b=>⟨B5 A7 v 0,B5 A7 v 1,AK v 3,AK v 5,AF Ad b 0 0,AF .str b 0 1,AF Ah b 0 2,AF Af b 0 3,AF Ai b 0 4,AF Ad b 1 0,AF .str b 1 1,AF Ah b 1 2,AF Af b 1 3,AF Ai b 1 4,AF Ei b 1 5,AF A7 b 1 6,AF A7 b 1 7,AF A7 b 1 8,AF A7 b 1 9,AF A7 b 1 10,AF A7 b 1 11,AF A7 b 1 12,AF A7 b 1 13,AF A7 b 1 14,AF A7 b 1 15,AF A7 b 1 16,AF A7 b 1 17,AF A7 b 1 18,AF A7 b 1 19,AF A7 b 1 20,AF A7 b 1 21,AF A7 b 1 23,Ab A7 b 2,Ab A7 b 3⟩,vI,λs r=> {s with level:=r.level,sums:=r.sums,levels:=r.levels},λs=>s,λ_ s=>s,[.exit 0],iz,Tp,tX⟩
abbrev Il:=P9.run
def awN:Rq Tp vI:=by
 intro s hI;refine ⟨A9,A9,?_,λc1=>⟨A9,A9,ak⟩,λc1=>⟨A9,A9,ak⟩⟩
 ·exact ⟨aOP s hI,rfl,rfl⟩
def XR:List Bd:=[WQ,Wu,Wt,Wv]
def aA3:Aw:=kI XR<|la 8 func182 s8<|la 2 func178 oV<|la 3 func180 cf<|la 2 func178 WJ<|l0 XR
def aQO:P9.Ok:={}
def aOr:P9.Pf (ac0):=⟨aiv,λs h=>rfl,awp,awN⟩
def aq6:SA 0 pQ P9:=AS.snd aQO aOr (nU (Γ:=XR) (K:=aA3) (L:=(λi=>if i=13 then R8.lp else Ak i)) (gk XR) aA3.h pQ (λb hb=>by
 rw [show BB _=[aF4] by kernel_rfl] at hb
 simp only [B7,Bu,Bt] at hb;subst hb;exact aq7)) λs=>AT
theorem aqm (s:Iw) (hE:iz s):(Il s).levels=shl (KO s) s.BF s.B2 s.BE s.most s.order 81 1 s.sums s.levels:=by
 have hk:=AS.wC aQO aOr (V:=λs:Iw=>shl (KO s) s.BF s.B2 s.BE s.most s.order (82-s.level).toNat s.level s.sums s.levels) (K:=λ_ s' v=>s'.levels=v) (λs hI=>by
  have hr:=aax s hI
  have hs:=nz (O:=KO s) (rows:=s.BF) (gs:=s.B2) (alive:=s.BE) (most:=s.most) (level:=s.level) s.order (s.sums,s.levels,X)
  obtain ⟨⟨h0,h1⟩,h2,h3,hT,hS⟩:=hI;rw [<-hr] at hs
  have hf:(82-s.level).toNat=(81-s.level).toNat+1:=A0
  refine AH (λc1=>?_) λc1=>?_
  ·have c1:(HX<|L2 s).some=false:=A8
   show (HX<|L2 s).levels=shl _ _ _ _ _ _ _ _ _ _
   rw [hf,shl,<-hr,AE A8]
  ·have c1:(HX<|L2 s).some=true:=A8
   have h80:s.level<=80:=by
    rcases hs c1 with h|h
    ·cases h
    ·exact h
   rw [AJ (x:=s.level+1)]
   show shl (KO s) s.BF s.B2 s.BE s.most s.order (82-(s.level+1)).toNat (s.level+1) (HX<|L2 s).sums (HX<|L2 s).levels=shl (KO s) s.BF s.B2 s.BE s.most s.order (82-s.level).toNat s.level s.sums s.levels
   rw [hf,show 82-(s.level+1)=81-s.level by omega]
   conv=>rhs;rw [shl,<-hr]
   simp only [c1,Br]) s hE
 rw [hk,hE.1];rfl
structure PG where
 l:List Ch
 (m k:Int)
 HG:List Cd
 HE:List ByteArray
 EP:List Ko
 B2:List Ch
 HI:List Ba
 BF:List Rw
 (CH CG CF CC CB CA C9 C8 CE CD C7 C6 C5 C4 C3 C2 BE out sums levels:List Int)
def aF3:=bN f139 1
def vH (s:PG):T (Rd PG):=letI a:=s.levels.getD s.k.toNat<|Ty.dflt A7;letI c:=AG s.l s.k;letI b:=s.out.set s.k.toNat<|Dx c.2.2.2.1 c.2.2.2.2.2.1 a;.br (an<|s.k<s.m) (.ix s.k (M s.l)<|.ik s.k (M s.levels)<|.req ((1<=c.2.2.2.1/\c.2.2.2.1<=80/\1<=c.2.2.2.2.2.1/\c.2.2.2.2.2.1<=80)/\0<=a/\a<=1000)<|.ik s.k (M s.out)<|.re (M s.out) b<|.rl s.sums<|.rl s.levels<|.nx {s with k:=AA<|s.k+1,out:=b})<|.rl s.out<|.rl s.sums<|.rl s.levels<|.so (.exit 4) s
def iy (s:PG):Prop:=s.k=0/\s.out=aq (M s.l) 0/\(s.m=(M s.l:Int)/\s.m<=1000/\M s.levels=M s.l)/\(∀k:Int,0<=k->k<s.m->Dk (AG s.l k).2.2.2.1 (AG s.l k).2.2.2.2.1 (AG s.l k).2.2.2.2.2.1=U)/\(∀k:Nat,0<=s.levels.getD k 0/\s.levels.getD k 0<=80)
def YN (s:PG):Prop:=(0<=s.k/\s.k<=s.m)/\s.out=S6 s.l s.levels s.k.toNat++aq (M s.l-s.k.toNat) 0/\(s.m=(M s.l:Int)/\s.m<=1000/\M s.levels=M s.l)/\(∀k:Int,0<=k->k<s.m->Dk (AG s.l k).2.2.2.1 (AG s.l k).2.2.2.2.1 (AG s.l k).2.2.2.2.2.1=U)/\(∀k:Nat,0<=s.levels.getD k 0/\s.levels.getD k 0<=80)
def tW (s:PG):Nat:=(s.m-s.k).toNat
def aAl (x:Ex) (s s':PG):Prop:=x=.exit 4/\s'.out=FJ s'.l s'.levels
def aiu:∀s,iy s->YN s:=by
 exact aLX
theorem awo:Da YN tW aAl vH:=by
 intro s hI;obtain ⟨⟨h0,h1⟩,h2,⟨h3,h4,h5⟩,h6,h7⟩:=hI;refine AH (λc1=>?_) λc1=>?_
 ·have c1:s.k<s.m:=A8
  rw [AJ (x:=s.k+1)];refine ⟨⟨⟨A8,A8⟩,?_,⟨h3,h4,h5⟩,h6,h7⟩,by simp only [tW];omega⟩
  have e:M s.l-s.k.toNat=(M s.l-(s.k+1).toNat)+1:=A0
  have hs:=aGk (xs:=S6 s.l s.levels s.k.toNat) (r:=M s.l-(s.k+1).toNat) (v:=Cw s.l s.k<|s.levels.getD s.k.toNat 0)
  rw [adD] at hs;rw [h2,e,show (s.k+1).toNat=s.k.toNat+1 by omega,aft,CL h0]
  rw [show (s.k+1).toNat=s.k.toNat+1 by omega] at hs
  exact hs
 ·have c1:s.m<=s.k:=A8
  refine ⟨rfl,?_⟩;rw [h2,show s.k.toNat=M s.l by omega,ko,List.replicate_zero,GF]
  rfl
def O0:AS PG:=⟨0,129,[14,19,108,109,110],[],λs=>[.own 0 0,.os 1 1 0<|M s.out,s.l,s.m,s.k],λs=>[⟨[s.HG,s.HE,s.EP,s.B2,s.HI,.xl Ei s.BF,.xl A7 s.CH,.xl A7 s.CG,.xl A7 s.CF,.xl A7 s.CC,.xl A7 s.CB,.xl A7 s.CA,.xl A7 s.C9,.xl A7 s.C8,.xl A7 s.CE,.xl A7 s.CD,.xl A7 s.C7,.xl A7 s.C6,.xl A7 s.C5,.xl A7 s.C4,.xl A7 s.C3,.xl A7 s.C2,.os 2 1 0<|M s.sums,.xl A7 s.BE,.os 3 1 0<|M s.levels],305,.cl,X⟩,bV 3 A7 s.out,bV 3 A7 s.sums,bV 3 A7 s.levels],λv b=>⟨B5 Af v 2,AK v 3,AK v 4,AF Ad b 0 0,AF .str b 0 1,AF Ah b 0 2,AF Af b 0 3,AF Ai b 0 4,AF Ei b 0 5,AF A7 b 0 6,AF A7 b 0 7,AF A7 b 0 8,AF A7 b 0 9,AF A7 b 0 10,AF A7 b 0 11,AF A7 b 0 12,AF A7 b 0 13,AF A7 b 0 14,AF A7 b 0 15,AF A7 b 0 16,AF A7 b 0 17,AF A7 b 0 18,AF A7 b 0 19,AF A7 b 0 20,AF A7 b 0 21,AF A7 b 0 23,Ab A7 b 1,Ab A7 b 2,Ab A7 b 3⟩,vH,λs r=> {s with k:=r.k,out:=r.out},λs=>s,λ_ s=>s,[.exit 4],iy,YN,tW⟩
abbrev Py:=O0.run
abbrev atA:=O0.At
theorem awM:Rq YN vH:=by
 intro s hI;refine ⟨λc1=>⟨?_,?_,?_,?_,?_,?_,?_,A9,A9,ak⟩,λc1=>⟨A9,A9,A9,ak⟩⟩
 iterate 3 · (obtain ⟨⟨h0,h1⟩,h2,⟨h3,h4,h5⟩,h6,h7⟩:=hI;(try simp only [Aa] at c1);have hl:M s.out=M s.l:=aNc;first|omega|exact ⟨rfl,AI⟩ |exact ⟨rfl,rfl⟩)
 ·(have hh:=IA.1<|hI.2.2.2.1 s.k hI.1.1 A8;have hb:=hI.2.2.2.2 s.k.toNat;refine ⟨A0,?_⟩;show 0<=s.levels.getD s.k.toNat 0/\s.levels.getD s.k.toNat 0<=1000;omega)
 iterate 3 · (obtain ⟨⟨h0,h1⟩,h2,⟨h3,h4,h5⟩,h6,h7⟩:=hI;(try simp only [Aa] at c1);have hl:M s.out=M s.l:=aNc;first|omega|exact ⟨rfl,AI⟩ |exact ⟨rfl,rfl⟩)
def aQN:O0.Ok:={}
def aOq:O0.Pf (aAl):=⟨aiu,λs h=>rfl,awo,awM⟩
def aq5:SA 0 aF3 O0:=s1 aQN aOq XR aA3
def aql:Fi iy YN aAl atA Py:=AS.fin aQN aOq
def aIe:List LV->T LV
 | .agg a::r=>s5 a λcs os ks gs bs=>(match r with
  | [.xl (.int J) al,.xl (.int J) mo,.xl (.int J) od]=> .ok (.AM [.xl A7<|FN cs os ks gs bs al mo od,shE cs os ks gs bs al mo od])
  |_=> .no)
 |_=> .no
def N0 (cs:List Cd) (os:List ByteArray) (ks:List Ko) (gs:List Ch) (bs:List Ba) (al mo od:List Int):E9:=letI a:=JW cs os ks gs bs;(⟨al,a,(M a:Int),0,cs,os,ks,gs,bs,cs,os,ks,gs,bs,a,al,([]:List Int),([]:List Int),([]:List Int),([]:List Int),([]:List Int),([]:List Int),([]:List Int),([]:List Int),([]:List Int),([]:List Int),([]:List Int),([]:List Int),([]:List Int),([]:List Int),([]:List Int),([]:List Int),aq (M a:Int).toNat (0:Int),aq (M al:Int).toNat (0:Int)⟩:E9)
def L3 (cs:List Cd) (os:List ByteArray) (ks:List Ko) (gs:List Ch) (bs:List Ba) (al mo od:List Int):Iw:=letI a:=IV<|N0 cs os ks gs bs al mo od;(⟨mo,od,(M gs:Int),1,cs,os,ks,gs,bs,cs,os,ks,gs,bs,JW cs os ks gs bs,(a.CH.drop 0).take<|M a.CH,(a.CG.drop 0).take<|M a.CG,(a.CF.drop 0).take<|M a.CF,(a.CC.drop 0).take<|M a.CC,(a.CB.drop 0).take<|M a.CB,(a.CA.drop 0).take<|M a.CA,(a.C9.drop 0).take<|M a.C9,(a.C8.drop 0).take<|M a.C8,(a.CE.drop 0).take<|M a.CE,(a.CD.drop 0).take<|M a.CD,(a.C7.drop 0).take<|M a.C7,(a.C6.drop 0).take<|M a.C6,(a.C5.drop 0).take<|M a.C5,(a.C4.drop 0).take<|M a.C4,(a.C3.drop 0).take<|M a.C3,(a.C2.drop 0).take<|M a.C2,al,a.sums,aq (M al:Int).toNat (0:Int)⟩:Iw)
def aBi (cs:List Cd) (os:List ByteArray) (ks:List Ko) (gs:List Ch) (bs:List Ba) (al mo od:List Int):PG:=letI a:=IV<|N0 cs os ks gs bs al mo od;letI b:=Il<|L3 cs os ks gs bs al mo od;(⟨gs,(M gs:Int),0,cs,os,ks,gs,bs,JW cs os ks gs bs,(a.CH.drop 0).take<|M a.CH,(a.CG.drop 0).take<|M a.CG,(a.CF.drop 0).take<|M a.CF,(a.CC.drop 0).take<|M a.CC,(a.CB.drop 0).take<|M a.CB,(a.CA.drop 0).take<|M a.CA,(a.C9.drop 0).take<|M a.C9,(a.C8.drop 0).take<|M a.C8,(a.CE.drop 0).take<|M a.CE,(a.CD.drop 0).take<|M a.CD,(a.C7.drop 0).take<|M a.C7,(a.C6.drop 0).take<|M a.C6,(a.C5.drop 0).take<|M a.C5,(a.C4.drop 0).take<|M a.C4,(a.C3.drop 0).take<|M a.C3,(a.C2.drop 0).take<|M a.C2,al,aq (M gs:Int).toNat (0:Int),b.sums,b.levels⟩:PG)
def zp:List Bd:=[WQ,Wu,Wt,Wv]
def ake:Aw:=kI zp<|la 8 func182 s8<|la 2 func178 oV<|la 3 func180 cf<|la 2 func178 WJ<|l0 zp
def aJn:=vm (S:=aIe) func139 zp ake (L:=(λi=>if i=11 then P9.lp else if i=21 then O0.lp else Ak i)) (λb hb=>by
 rw [show BB _=[pQ,aF3] by kernel_rfl] at hb
 simp only [B7,Bu,Bt] at hb;rcases hb with rfl|rfl
 ·exact aq6
 ·exact aq5) (λargs lv h=>by
 unfold aIe at h;split at h
 case h_2=>cases h
 replace h:=IC h
 obtain ⟨cs,os,ks,gs,bs,rfl,h⟩:=h;split at h
 ·rename_i al mo od
  refine Ap (letI b:=aBi cs os ks gs bs al mo od;letI d:=(M (JW cs os ks gs bs):Int);letI g:=L3 cs os ks gs bs al mo od;letI j:=(M gs:Int);letI l:=(M al:Int);letI n:=((Py b).out.drop 0).take<|M (Py b).out;letI o:=N0 cs os ks gs bs al mo od;letI s:=(aq d.toNat (0:Int));letI t:=(aq j.toNat (0:Int));letI u:=(M mo:Int);letI w:=(Bj (cY (⟨X,mo,u,0,cs,os,ks,gs,bs⟩:Iv))<|.ret);letI x:=(TX.q (⟨X,mo,u,0,cs,os,ks,gs,bs⟩:Iv));letI y:=(cZ (⟨X,mo,u,0,cs,os,ks,gs,bs⟩:Iv));letI z:=j<=1000;letI a:=IV o;letI f:=(aq l.toNat (0:Int));.br ((OC cs os ks gs bs) !=0) (.ok<|.AM [.xl A7 ([]:List Int),(1:Int)])<|.br (l !=j) (.ok<|.AM [.xl A7 ([]:List Int),(1:Int)])<|.br (u !=j) (.ok<|.AM [.xl A7 ([]:List Int),(1:Int)])<|.req (TX.q (⟨X,al,l,0,cs,os,ks,gs,bs⟩:Iv))<|.br (Bj (cY (⟨X,al,l,0,cs,os,ks,gs,bs⟩:Iv))<|.ret) (.br (!(cZ (⟨X,al,l,0,cs,os,ks,gs,bs⟩:Iv)).r) (.ok<|.AM [.xl A7 ([]:List Int),(1:Int)])<|.req x<|.br w (.br (! y.r) (.ok<|.AM [.xl A7 ([]:List Int),(1:Int)])<|.req z<|.br (!(GW od j)) (.ok<|.AM [.xl A7 ([]:List Int),(1:Int)])<|.rm 8 d<|.rm 8 l<|.r0 Int<|.r0 Int<|.r0 Int<|.r0 Int<|.r0 Int<|.r0 Int<|.r0 Int<|.r0 Int<|.r0 Int<|.r0 Int<|.r0 Int<|.r0 Int<|.r0 Int<|.r0 Int<|.r0 Int<|.r0 Int<|.re d.toNat s<|.re l.toNat f<|.req (PC.q o)<|.rz a.CH<|.rz a.CG<|.rz a.CF<|.rz a.CC<|.rz a.CB<|.rz a.CA<|.rz a.C9<|.rz a.C8<|.rz a.CE<|.rz a.CD<|.rz a.C7<|.rz a.C6<|.rz a.C5<|.rz a.C4<|.rz a.C3<|.rz a.C2<|.rl a.sums<|.rl f<|.req (P9.q g)<|.rm 8 j<|.re j.toNat t<|.rl (Il g).sums<|.rl (Il g).levels<|.req (O0.q b)<|.rz (Py b).out<|.ok<|.AM [.xl A7 n,(0:Int)])<|.br (!U) (.ok<|.AM [.xl A7 ([]:List Int),(1:Int)])<|.req z<|.br (!(GW od j)) (.ok<|.AM [.xl A7 ([]:List Int),(1:Int)])<|.rm 8 d<|.rm 8 l<|.r0 Int<|.r0 Int<|.r0 Int<|.r0 Int<|.r0 Int<|.r0 Int<|.r0 Int<|.r0 Int<|.r0 Int<|.r0 Int<|.r0 Int<|.r0 Int<|.r0 Int<|.r0 Int<|.r0 Int<|.r0 Int<|.re d.toNat s<|.re l.toNat f<|.req (PC.q o)<|.rz a.CH<|.rz a.CG<|.rz a.CF<|.rz a.CC<|.rz a.CB<|.rz a.CA<|.rz a.C9<|.rz a.C8<|.rz a.CE<|.rz a.CD<|.rz a.C7<|.rz a.C6<|.rz a.C5<|.rz a.C4<|.rz a.C3<|.rz a.C2<|.rl a.sums<|.rl f<|.req (P9.q g)<|.rm 8 j<|.re j.toNat t<|.rl (Il g).sums<|.rl (Il g).levels<|.req (O0.q b)<|.rz (Py b).out<|.ok<|.AM [.xl A7 n,(0:Int)])<|.br (!U) (.ok<|.AM [.xl A7 ([]:List Int),(1:Int)])<|.req x<|.br w (.br (! y.r) (.ok<|.AM [.xl A7 ([]:List Int),(1:Int)])<|.req z<|.br (!(GW od j)) (.ok<|.AM [.xl A7 ([]:List Int),(1:Int)])<|.rm 8 d<|.rm 8 l<|.r0 Int<|.r0 Int<|.r0 Int<|.r0 Int<|.r0 Int<|.r0 Int<|.r0 Int<|.r0 Int<|.r0 Int<|.r0 Int<|.r0 Int<|.r0 Int<|.r0 Int<|.r0 Int<|.r0 Int<|.r0 Int<|.re d.toNat s<|.re l.toNat f<|.req (PC.q o)<|.rz a.CH<|.rz a.CG<|.rz a.CF<|.rz a.CC<|.rz a.CB<|.rz a.CA<|.rz a.C9<|.rz a.C8<|.rz a.CE<|.rz a.CD<|.rz a.C7<|.rz a.C6<|.rz a.C5<|.rz a.C4<|.rz a.C3<|.rz a.C2<|.rl a.sums<|.rl f<|.req (P9.q g)<|.rm 8 j<|.re j.toNat t<|.rl (Il g).sums<|.rl (Il g).levels<|.req (O0.q b)<|.rz (Py b).out<|.ok<|.AM [.xl A7 n,(0:Int)])<|.br (!U) (.ok<|.AM [.xl A7 ([]:List Int),(1:Int)])<|.req z<|.br (!(GW od j)) (.ok<|.AM [.xl A7 ([]:List Int),(1:Int)])<|.rm 8 d<|.rm 8 l<|.r0 Int<|.r0 Int<|.r0 Int<|.r0 Int<|.r0 Int<|.r0 Int<|.r0 Int<|.r0 Int<|.r0 Int<|.r0 Int<|.r0 Int<|.r0 Int<|.r0 Int<|.r0 Int<|.r0 Int<|.r0 Int<|.re d.toNat s<|.re l.toNat f<|.req (PC.q o)<|.rz a.CH<|.rz a.CG<|.rz a.CF<|.rz a.CC<|.rz a.CB<|.rz a.CA<|.rz a.C9<|.rz a.C8<|.rz a.CE<|.rz a.CD<|.rz a.C7<|.rz a.C6<|.rz a.C5<|.rz a.C4<|.rz a.C3<|.rz a.C2<|.rl a.sums<|.rl f<|.req (P9.q g)<|.rm 8 j<|.re j.toNat t<|.rl (Il g).sums<|.rl (Il g).levels<|.req (O0.q b)<|.rz (Py b).out<|.ok<|.AM [.xl A7 n,(0:Int)]) ?_;obtain rfl:=h
  have err:Fj cs os ks gs bs al mo od=X->LV.AM [.xl A7 ([]:List Int),.v<|Y J 1]=LV.AM [.xl A7<|FN cs os ks gs bs al mo od,.v<|Y J<|shE cs os ks gs bs al mo od]:=λh=>by
   unfold FN shE;rw [h];rfl
  have no_:∀ {p:Prop},¬p->(Fj cs os ks gs bs al mo od=U->p)->Fj cs os ks gs bs al mo od=false:=λh1 h2=>by
   rw [I2];exact λh=>h1<|h2 h
  refine ⟨λc=>err<|no_ (p:=BA cs os ks gs bs=U) (λh=>?_) λh=>(L6.1 h).1,λc=>?_⟩
  ·unfold OC at c
   rw [h] at c
   simp at c
  have hv:BA cs os ks gs bs=true:=by
   cases e:BA cs os ks gs bs with
   |true=>rfl
   |false=>unfold OC at c;rw [e] at c;simp at c
  have hl:=(D5.1 hv).1
  refine ⟨λc2=>err<|no_ (p:=M al=M gs) (by simp at c2;omega) λh=>(L6.1 h).2.1,λc2=>?_⟩
  refine ⟨λc3=>err<|no_ (p:=M mo=M gs) lM λh=>(L6.1 h).2.2.1,λc3=>?_⟩
  have c2:M al=M gs:=by simp at c2;omega
  have c3:M mo=M gs:=lM
  refine Lg ⟨⟨rfl,AZ,AZ,rfl⟩,rfl,rfl⟩ λhE1=>?_
  rcases aHj _ hE1.1 with ⟨q1,q2⟩ |⟨q1,q2,q3⟩
  rotate_left
  ·rw [q1,q2]
   refine ⟨λ_=>⟨λ_=>err<|no_ (p:=al.all Hh=U) (by have q3:al.all Hh=false:=q3;rw [q3];simp) λh=>(L6.1 h).2.2.2.1,λh=>An⟩,λh=>An⟩
  rw [q1];refine ⟨λh=>An,λ_=>⟨λh=>An,λ_=>?_⟩⟩
  have q2:al.all Hh=true:=q2
  refine Lg ⟨⟨rfl,AZ,AZ,rfl⟩,rfl,rfl⟩ λhE2=>?_
  rcases aHj _ hE2.1 with ⟨p1,p2⟩ |⟨p1,p2,p3⟩
  rotate_left
  ·rw [p1,p2]
   refine ⟨λ_=>⟨λ_=>err<|no_ (p:=mo.all Hh=U) (by have p3:mo.all Hh=false:=p3;rw [p3];simp) λh=>(L6.1 h).2.2.2.2.1,λh=>An⟩,λh=>An⟩
  rw [p1];refine ⟨λh=>An,λ_=>⟨λh=>An,λ_=>?_⟩⟩
  have p2:mo.all Hh=true:=p2
  refine ⟨A0,λc4=>err<|no_ (p:=GW od (M gs:Int)=U) (by simp at c4;rw [c4];simp) λh=>(L6.1 h).2.2.2.2.2,λc4=>?_⟩
  have c4:GW od (M gs:Int)=true:=aC
  have hok:Fj cs os ks gs bs al mo od=true:=L6.2 ⟨hv,c2,c3,q2,p2,c4⟩
  obtain ⟨hT,hS⟩:=ajq hok
  have er:JW cs os ks gs bs=Cs cs gs (M cs):=by unfold JW;rw [AD hv]
  have hrl:=oG (cs:=cs) (gs:=gs) (k:=M cs)
  have hod:M od=M gs:=by
   unfold GW at c4;simp only [AY,Aa] at c4;omega
  have hrn:(M (JW cs os ks gs bs):Int)<=1000:=by rw [er];omega
  refine ⟨A0,A0,A9,A9,A9,A9,A9,A9,A9,A9,A9,A9,A9,A9,A9,A9,A9,A9,⟨rfl,AI⟩,⟨rfl,AI⟩,?_⟩
  have hN:UG (N0 cs os ks gs bs al mo od):=by
   refine ⟨rfl,λo ho=>?_,rfl,rfl,hrn,λr hr=>?_,hT.al,by show M (aq _ _)=M (JW cs os ks gs bs);simp⟩
   ·simpa [Fc,N0] using ho
   ·have hr:r∈Cs cs gs (M cs):=by rw [<-er];exact hr
    obtain ⟨m1,m2,m3,m4⟩:=row_mem hr;refine ⟨A0,λm hm=>?_⟩
    have:=m2 m hm
    show 0<=m/\m<16/\m<(M al:Int)
    omega
  obtain ⟨nr1,nr2⟩:=aqg _ hN
  have nr1:Fc (IV<|N0 cs os ks gs bs al mo od)=OL (Cs cs gs<|M cs):=by rw [nr1,<-er];rfl
  have nr2:(IV<|N0 cs os ks gs bs al mo od).sums=SM al (Cs cs gs<|M cs):=by rw [nr2,<-er];rfl
  refine ⟨⟨hN,rfl,rfl⟩,A0,A0,A0,A0,A0,A0,A0,A0,A0,A0,A0,A0,A0,A0,A0,A0,A9,A9,?_⟩
  have eO:KO (L3 cs os ks gs bs al mo od)=Fc (IV<|N0 cs os ks gs bs al mo od):=by
   unfold KO Fc L3;simp only [CP,EY]
  have hSh:iz (L3 cs os ks gs bs al mo od):=by
   refine ⟨rfl,by show (M od:Int)<=1000;omega,rfl,?_,?_⟩
   ·show OkT (KO<|L3 cs os ks gs bs al mo od) (JW cs os ks gs bs) gs al mo od
    rw [eO,nr1,er];exact hT
   ·show OkS (JW cs os ks gs bs) od (IV<|N0 cs os ks gs bs al mo od).sums _
    rw [nr2,er];exact hS
  have sr:=aqm _ hSh
  have sr:(Il<|L3 cs os ks gs bs al mo od).levels=shV (Cs cs gs<|M cs) gs al mo od:=by
   rw [sr]
   show shl (KO<|L3 cs os ks gs bs al mo od) (JW cs os ks gs bs) gs al mo od 81 1 (IV<|N0 cs os ks gs bs al mo od).sums _=_
   rw [eO,nr1,nr2,er];rfl
  obtain ⟨sl,sb⟩:=aOQ hT 81 1 _ _ A0 A0 hS;refine ⟨⟨hSh,rfl,rfl⟩,A0,⟨rfl,AI⟩,A9,A9,?_⟩
  have hX:iy (aBi cs os ks gs bs al mo od):=by
   refine ⟨rfl,rfl,⟨rfl,aMz,?_⟩,λk h0 h1=>?_,?_⟩
   ·show M (Il<|L3 cs os ks gs bs al mo od).levels=M gs
    rw [sr];exact sl.trans (by rw [Cf];exact c2)
   ·have:=Q6 hv h0 h1
    unfold Gl chW at this;simp only [AY,CM] at this
    show Dk (AG gs k).2.2.2.1 (AG gs k).2.2.2.2.1 (AG gs k).2.2.2.2.2.1=U
    exact IA.2 A0
   ·show ∀k:Nat,0<=(Il<|L3 cs os ks gs bs al mo od).levels.getD k 0/\(Il<|L3 cs os ks gs bs al mo od).levels.getD k 0<=80
    rw [sr];exact sb
  refine ⟨⟨hX,rfl,rfl⟩,A0,?_⟩;obtain ⟨s',_,_,x2⟩:=aql _ hX
  have x2:(Py<|aBi cs os ks gs bs al mo od).out=FJ gs (Il<|L3 cs os ks gs bs al mo od).levels:=x2
  show LV.AM [LV.xl _ _,_]=_
  rw [CP,EY,x2,sr];unfold FN shE;rw [AD hok,AD hok]
 ·cases h)
structure P0 where
 m:List Ch
 (k i:Int)
 out:List Int
def aG2:=bN f138 0
def zC (s:P0):T (Rd P0):=letI a:=s.out.set s.i.toNat (AG s.m s.i).2.2.2.2.2.2.1;.br (an<|s.i<s.k) (.ix s.i (M s.m)<|.ik s.i (M s.out)<|.re (M s.out) a<|.nx {s with i:=AA<|s.i+1,out:=a})<|.rl s.out<|.so (.exit 0) s
def jz (s:P0):Prop:=s.i=0/\s.k=(M s.m:Int)/\s.k<=1000/\M s.out=M s.m/\(∀j,0<=j->j<s.k->gi s.out j=0)/\True
def Xa (s:P0):Prop:=(0<=s.i/\s.i<=s.k)/\s.k=(M s.m:Int)/\s.k<=1000/\M s.out=M s.m/\(∀j,0<=j->j<s.k->gi s.out j=if j<s.i then Cp (AG s.m j) else 0)/\True
def sQ (s:P0):Nat:=(s.k-s.i).toNat
def aAB (x:Ex) (s s':P0):Prop:=x=.exit 0/\s'.out=H5 (M s'.m) (λj=>Cp<|AG s'.m j)
theorem alf:∀s,jz s->Xa s:=by
 exact Sa
theorem ahf:Da Xa sQ aAB zC:=by
 intro s hI;obtain ⟨⟨h0,h1⟩,h2,h3,h4,h5,h6⟩:=hI;refine AH (λc1=>?_) λc1=>?_
 ·have c1:s.i<s.k:=AX
  rw [AJ (x:=s.i+1)];refine ⟨⟨⟨A8,A8⟩,h2,h3,A8,λj j0 j1=>?_,h6⟩,by simp only [sQ];omega⟩
  simp only;rw [It h0 A0 j0];exact kX
 ·exact Zd
def QU:AS P0:=⟨0,31,[3,17,18,19],[],λs=>[.os 0 1 0<|M s.out,s.m,s.k,s.i],λs=>[bV 3 A7 s.out],λv b=>⟨B5 Af v 1,AK v 2,AK v 3,Ab A7 b 0⟩,zC,λs r=> {r with m:=s.m,k:=s.k},λs=>s,λ_ s=>s,[.exit 0],jz,Xa,sQ⟩
abbrev aCY:=QU.run
abbrev asY:=QU.At
def axF:Rq Xa zC:=by
 exact xB
def zz:List Bd:=[]
def aPp:QU.Ok:={}
def aPF:QU.Pf (aAB):=⟨alf,λs h=>rfl,ahf,axF⟩
def apM:SA 0 aG2 QU:=s1 aPp aPF zz kN
def au8:Fi jz Xa aAB asY aCY:=AS.fin aPp aPF
def aJY:List LV->T LV
 | [.xq 9 q0]=>(match ([q0 0,q0 1,q0 2,q0 3,q0 4,q0 5,q0 6,q0 7,q0 8]:List LV) with
  | [.xl (.pair .str (.pair (.int J) (.pair (.int J) (.pair (.int J) (.pair (.pair (.int J) (.int J)) (.pair (.int J) (.pair (.int J) (.pair (.int J) (.pair (.int J) (.int J)))))))))) cs,.xl (.str) os,.xl (.pair .str (.pair (.int J) (.pair (.int J) (.int J)))) ks,.xl (.pair .str (.pair (.int J) (.pair (.int J) (.pair (.int J) (.pair (.int J) (.pair (.int J) (.pair (.int J) (.int J)))))))) gs,.xl (.pair .str (.int J)) bs,.xl (.pair (.int J) (.pair (.int J) (.pair (.int J) (.pair (.int J) (.int J))))) l,.xl (.pair .bool (.pair (.int J) (.pair (.int J) (.int J)))) d,.v (Y J t),.xl (.int J) od]=> .req ((M gs:Int)<=1000) (.ok<|.xl A7<|Bp gs)
  |_=> .no)
 |_=> .no
def as6 (cs:List Cd) (os:List ByteArray) (ks:List Ko) (gs:List Ch) (bs:List Ba) (l:List Le) (d:List Dm) (t:Int) (od:List Int):letI c:=(M gs:Int);letI a:=(aq c.toNat (0:Int));letI b:=(aCY (⟨gs,c,(0:Int),a⟩:P0));Bg prog AU (zz) kN (λi=>if i=3 then QU.lp else Ak i) f138 [xQ 9 [cs,os,ks,gs,bs,l,d,t,.xl A7 od]]=.rm 8 c (.re c.toNat a<|.req (QU.q (⟨gs,c,(0:Int),a⟩:P0))<|.rz b.out<|.ok<|.xl A7<|(b.out.drop 0).take<|M b.out):=AT
def av3:=vm (S:=aJY) func138 zz kN (L:=(λi=>if i=3 then QU.lp else Ak i)) (λb hb=>by
 rw [show BB _=[aG2] by kernel_rfl] at hb
 simp only [B7,Bu,Bt] at hb;subst hb;exact apM) (λargs lv h=>by
 refine ⟨?_⟩;unfold aJY at h;split at h
 ·split at h
  case h_2=>cases h
  rename_i heq0;simp only [canL,canX];rw [Dv (n:=9) heq0];simp only [canL,canX];rw [as6];rename_i cs os ks gs bs l d t od;obtain ⟨hn,rfl⟩:=h
  have hE:jz ⟨gs,(M gs:Int),0,aq (M gs:Int).toNat 0⟩:=⟨rfl,rfl,hn,AI,λj _ _=>LG,ak⟩
  obtain ⟨_,_,q1,q2⟩:=au8 _ hE
  have q2:(aCY ⟨gs,(M gs:Int),0,aq (M gs:Int).toNat 0⟩).out=Bp gs:=q2
  refine ⟨A0,⟨rfl,AI⟩,⟨hE,rfl,rfl⟩,A0,?_⟩
  show LV.xl _ _=_
  rw [CP,EY,q2]
 ·cases h)
structure Oj where
 cs:List Cd
 os:List ByteArray
 ks:List Ko
 gs:List Ch
 bs:List Ba
 l:List Le
 d:List Dm
 t:Int
 od:List Int
 m:List Ch
 (k i:Int)
 wanted:List Int
def aFz:=bN f137 0
def gE (s:Oj):T (Rd Oj):=letI a:=s.wanted.set s.i.toNat (AG s.m s.i).2.2.2.2.1;.br (an<|s.i<s.k) (.ix s.i (M s.m)<|.ix s.i (M s.d)<|.br (Dw s.d s.i).1 (.ik s.i (M s.wanted)<|.re (M s.wanted) a<|.nx {s with i:=AA<|s.i+1,wanted:=a})<|.rl s.wanted<|.nx {s with i:=AA<|s.i+1})<|.rl s.wanted<|.so (.exit 0) s
def jr (s:Oj):Prop:=s.i=0/\s.k=(M s.m:Int)/\s.k<=1000/\M s.wanted=M s.m/\(∀j,0<=j->j<s.k->gi s.wanted j=0)/\M s.d=M s.m
def Y5 (s:Oj):Prop:=(0<=s.i/\s.i<=s.k)/\s.k=(M s.m:Int)/\s.k<=1000/\M s.wanted=M s.m/\(∀j,0<=j->j<s.k->gi s.wanted j=if j<s.i then if (Dw s.d j).1=U then (AG s.m j).2.2.2.2.1 else 0 else 0)/\M s.d=M s.m
def eu (s:Oj):Nat:=(s.k-s.i).toNat
def aAg (x:Ex) (s s':Oj):Prop:=x=.exit 0/\s'.wanted=H5 (M s'.m) (λj=>if (Dw s'.d j).1=U then (AG s'.m j).2.2.2.2.1 else 0)
theorem alX:∀s,jr s->Y5 s:=by
 exact Sa
theorem agi:Da Y5 eu aAg gE:=by
 intro s hI;unfold gE;obtain ⟨⟨h0,h1⟩,h2,h3,h4,h5,h6⟩:=hI;refine AH (λc1=>?_) λc1=>?_
 ·refine AH (λc2=>?_) (λc2=>?_)
  ·have c1:s.i<s.k:=AX
   rw [AJ (x:=s.i+1)];refine ⟨⟨⟨AZ,AZ⟩,h2,h3,A8,λj j0 j1=>?_,h6⟩,by simp only [eu];omega⟩
   simp only;rw [It h0 Zy j0]
   by_cases e:j=s.i
   ·subst e
    grind
   ·exact xg
  ·have c1:s.i<s.k:=AX
   rw [AJ (x:=s.i+1)];refine ⟨⟨⟨AZ,AZ⟩,h2,h3,h4,λj j0 j1=>?_,h6⟩,by simp only [eu];omega⟩
   simp only;rw [h5 j j0 j1]
   by_cases e:j=s.i
   ·subst e
    grind
   ·by_cases q:j<s.i
    ·omega
    ·omega
 ·have c1:s.k<=s.i:=AX
  exact x9
def Qo:AS Oj:=⟨0,53,[0,4,18,19,20],[],λs=>[xQ 9 [s.cs,s.os,s.ks,s.gs,s.bs,s.l,s.d,s.t,.xl A7 s.od],.os 0 1 0<|M s.wanted,s.m,s.k,s.i],λs=>[bV 3 A7 s.wanted],λv b=>⟨Ao Ad<|BQ (v.getD 0 .junk) 0,Ao .str<|BQ (v.getD 0 .junk) 1,Ao Ah<|BQ (v.getD 0 .junk) 2,Ao Af<|BQ (v.getD 0 .junk) 3,Ao Ai<|BQ (v.getD 0 .junk) 4,Ao AP<|BQ (v.getD 0 .junk) 5,Ao As<|BQ (v.getD 0 .junk) 6,gI<|BQ (v.getD 0 .junk) 7,Ao A7<|BQ (v.getD 0 .junk) 8,B5 Af v 2,AK v 3,AK v 4,Ab A7 b 0⟩,gE,λs r=> {s with i:=r.i,wanted:=r.wanted},λs=>s,λ_ s=>s,[.exit 0],jr,Y5,eu⟩
abbrev aBx:=Qo.run
abbrev asR:=Qo.At
def axv:Rq Y5 gE:=by
 intro s hI;refine ⟨λc1=>⟨?_,?_,λc2=>⟨?_,?_,?_,ak⟩,λc2=>⟨A9,ak⟩⟩,λc1=>⟨A9,ak⟩⟩
 all_goals ((obtain ⟨⟨h0,h1⟩,h2,h3,h4,h5,h6⟩:=hI;(try simp only [Aa] at c1);first|omega|exact ⟨rfl,AI⟩ |(omega)))
def zy:List Bd:=[av3,aJn]
def aPj:Qo.Ok:={}
def aP9:Qo.Pf (aAg):=⟨alX,λs h=>rfl,agi,axv⟩
def apw:SA 0 aFz Qo:=s1 aPj aP9 zy kN
def asJ:Fi jr Y5 aAg asR aBx:=AS.fin aPj aP9
def aIc:List LV->T LV
 | [.xq 9 q0]=>(match ([q0 0,q0 1,q0 2,q0 3,q0 4,q0 5,q0 6,q0 7,q0 8]:List LV) with
  | [.xl (.pair .str (.pair (.int J) (.pair (.int J) (.pair (.int J) (.pair (.pair (.int J) (.int J)) (.pair (.int J) (.pair (.int J) (.pair (.int J) (.pair (.int J) (.int J)))))))))) cs,.xl (.str) os,.xl (.pair .str (.pair (.int J) (.pair (.int J) (.int J)))) ks,.xl (.pair .str (.pair (.int J) (.pair (.int J) (.pair (.int J) (.pair (.int J) (.pair (.int J) (.pair (.int J) (.int J)))))))) gs,.xl (.pair .str (.int J)) bs,.xl (.pair (.int J) (.pair (.int J) (.pair (.int J) (.pair (.int J) (.int J))))) l,.xl (.pair .bool (.pair (.int J) (.pair (.int J) (.int J)))) d,.v (Y J t),.xl (.int J) od]=> .req ((M gs:Int)<=1000/\M d=M gs) (.ok<|.AM [.xl A7<|FN cs os ks gs bs (Bp gs) (Iy gs d) od,shE cs os ks gs bs (Bp gs) (Iy gs d) od])
  |_=> .no)
 |_=> .no
def arz (cs:List Cd) (os:List ByteArray) (ks:List Ko) (gs:List Ch) (bs:List Ba) (l:List Le) (d:List Dm) (t:Int) (od:List Int):letI b:=(M gs:Int);letI c:=(aq b.toNat (0:Int));letI a:=(aBx (⟨cs,os,ks,gs,bs,l,d,t,od,gs,b,(0:Int),c⟩:Oj));letI e:=(a.wanted.drop 0).take<|M a.wanted;Bg prog AU (zy) kN (λi=>if i=3 then Qo.lp else Ak i) f137 [xQ 9 [cs,os,ks,gs,bs,l,d,t,.xl A7 od]]=.rm 8 b (.re b.toNat c<|.req (Qo.q (⟨cs,os,ks,gs,bs,l,d,t,od,gs,b,(0:Int),c⟩:Oj))<|.req (b<=1000)<|.rz a.wanted<|.ok<|.AM [.xl A7<|FN cs os ks gs bs (Bp gs) e od,shE cs os ks gs bs (Bp gs) e od]):=AT
def auw:=vm (S:=aIc) func137 zy kN (L:=(λi=>if i=3 then Qo.lp else Ak i)) (λb hb=>by
 rw [show BB _=[aFz] by kernel_rfl] at hb
 simp only [B7,Bu,Bt] at hb;subst hb;exact apw) (λargs lv h=>by
 refine ⟨?_⟩;unfold aIc at h;split at h
 ·split at h
  case h_2=>cases h
  rename_i heq0;simp only [canL,canX];rw [Dv (n:=9) heq0];simp only [canL,canX];rw [arz];rename_i cs os ks gs bs l d t od;obtain ⟨⟨hn,hd⟩,rfl⟩:=h
  have hE:jr ⟨cs,os,ks,gs,bs,l,d,t,od,gs,(M gs:Int),0,aq (M gs:Int).toNat 0⟩:=⟨rfl,rfl,hn,AI,λj _ _=>LG,hd⟩
  obtain ⟨_,_,q1,q2⟩:=asJ _ hE
  have q2:(aBx ⟨cs,os,ks,gs,bs,l,d,t,od,gs,(M gs:Int),0,aq (M gs:Int).toNat 0⟩).wanted=Iy gs d:=q2
  refine ⟨A0,⟨rfl,AI⟩,⟨hE,rfl,rfl⟩,hn,A0,?_⟩
  show LV.AM [LV.xl _ _,_]=_
  rw [CP,EY,q2]
 ·cases h)
structure Og where
 m:List Ch
 (k i:Int)
 out:List Int
def z9 (s:Og):T (Rd Og):=letI a:=s.out.set s.i.toNat (AG s.m s.i).2.2.2.2.2.2.1;.br (an<|s.i<s.k) (.ix s.i (M s.m)<|.ik s.i (M s.out)<|.re (M s.out) a<|.nx {s with i:=AA<|s.i+1,out:=a})<|.rl s.out<|.so (.exit 0) s
def jy (s:Og):Prop:=s.i=0/\s.k=(M s.m:Int)/\s.k<=1000/\M s.out=M s.m/\(∀j,0<=j->j<s.k->gi s.out j=0)/\True
def XZ (s:Og):Prop:=(0<=s.i/\s.i<=s.k)/\s.k=(M s.m:Int)/\s.k<=1000/\M s.out=M s.m/\(∀j,0<=j->j<s.k->gi s.out j=if j<s.i then Cp (AG s.m j) else 0)/\True
def sP (s:Og):Nat:=(s.k-s.i).toNat
def aAA (x:Ex) (s s':Og):Prop:=x=.exit 0/\s'.out=H5 (M s'.m) (λj=>Cp<|AG s'.m j)
theorem alc:∀s,jy s->XZ s:=by
 exact Sa
theorem agI:Da XZ sP aAA z9:=by
 intro s hI;obtain ⟨⟨h0,h1⟩,h2,h3,h4,h5,h6⟩:=hI;refine AH (λc1=>?_) λc1=>?_
 ·have c1:s.i<s.k:=AX
  rw [AJ (x:=s.i+1)];refine ⟨⟨⟨A8,A8⟩,h2,h3,A8,λj j0 j1=>?_,h6⟩,by simp only [sP];omega⟩
  simp only;rw [It h0 Zy j0];exact kX
 ·exact Zd
def Z9:AS Og:=⟨0,31,[3,17,18,19],[],λs=>[.os 0 1 0<|M s.out,s.m,s.k,s.i],λs=>[bV 3 A7 s.out],λv b=>⟨B5 Af v 1,AK v 2,AK v 3,Ab A7 b 0⟩,z9,λs r=> {r with m:=s.m,k:=s.k},λs=>s,λ_ s=>s,[.exit 0],jy,XZ,sP⟩
abbrev bX:=Z9.run
abbrev asX:=Z9.At
def Qa:List Bd:=[WU,auw,aJn]
def akX:Aw:=kI Qa<|l0 Qa
def ay0:Rq XZ z9:=by
 exact xB
def aPo:Z9.Ok:={}
def aPE:Z9.Pf (aAA):=⟨alc,λs h=>rfl,agI,ay0⟩
def apI:=s2 (b:=bN f138 0) aPo aPE Qa akX
def au1:Fi jy XZ aAA asX bX:=AS.fin aPo aPE
structure Ol where
 cs:List Cd
 os:List ByteArray
 ks:List Ko
 gs:List Ch
 bs:List Ba
 l:List Le
 d:List Dm
 t:Int
 (od targets m:List Int)
 (k i:Int)
 alive:List Int
def aG0:=bN f91 0
def z7 (s:Ol):T (Rd Ol):=letI b:=s.alive.getD s.i.toNat<|Ty.dflt A7;letI c:=M s.alive;letI a:=s.alive.set s.i.toNat (if b<(gi s.m s.i) then (gi s.m s.i) else b);.br (an<|s.i<s.k) (.ix s.i (M s.m)<|.ik s.i c<|.ik s.i c<|.re c a<|.nx {s with i:=AA<|s.i+1,alive:=a})<|.rl s.alive<|.so (.exit 0) s
def jw (s:Ol):Prop:=s.i=0/\s.k=(M s.m:Int)/\s.k<=1000/\M s.alive=M s.m/\(∀j,0<=j->j<s.k->gi s.alive j=Cp (AG s.gs j))/\True
def Y6 (s:Ol):Prop:=(0<=s.i/\s.i<=s.k)/\s.k=(M s.m:Int)/\s.k<=1000/\M s.alive=M s.m/\(∀j,0<=j->j<s.k->gi s.alive j=if j<s.i then mx (Cp<|AG s.gs j) (gi s.m j) else Cp (AG s.gs j))/\True
def sM (s:Ol):Nat:=(s.k-s.i).toNat
def aA9 (x:Ex) (s s':Ol):Prop:=x=.exit 0/\s'.alive=H5 (M s'.m) (λj=>mx (Cp<|AG s'.gs j)<|gi s'.m j)
theorem ala:∀s,jw s->Y6 s:=by
 exact Sa
theorem agm:Da Y6 sM aA9 z7:=by
 intro s hI;obtain ⟨⟨h0,h1⟩,h2,h3,h4,h5,h6⟩:=hI;refine AH (λc1=>?_) λc1=>?_
 ·have c1:s.i<s.k:=AX
  rw [AJ (x:=s.i+1)];refine ⟨⟨⟨A8,A8⟩,h2,h3,A8,λj j0 j1=>?_,h6⟩,by simp only [sM];omega⟩
  simp only
  have hi:=h5 s.i h0 c1
  rw [AE (show ¬s.i<s.i by omega)] at hi
  rw [It h0 Zy j0]
  by_cases e:j=s.i
  ·subst e
   rw [AD rfl,AD (show s.i<s.i+1 by omega)]
   show mx (gi s.alive s.i) (gi s.m s.i)=_
   rw [hi]
  ·exact xg
 ·have c1:s.k<=s.i:=AX
  exact x9
def QT:AS Ol:=⟨0,71,[0,4,7,41,42,43],[],λs=>[xQ 9 [s.cs,s.os,s.ks,s.gs,s.bs,s.l,s.d,s.t,.xl A7 s.od],.xl A7 s.targets,.os 0 1 0<|M s.alive,.xl A7 s.m,s.k,s.i],λs=>[bV 3 A7 s.alive],λv b=>⟨Ao Ad<|BQ (v.getD 0 .junk) 0,Ao .str<|BQ (v.getD 0 .junk) 1,Ao Ah<|BQ (v.getD 0 .junk) 2,Ao Af<|BQ (v.getD 0 .junk) 3,Ao Ai<|BQ (v.getD 0 .junk) 4,Ao AP<|BQ (v.getD 0 .junk) 5,Ao As<|BQ (v.getD 0 .junk) 6,gI<|BQ (v.getD 0 .junk) 7,Ao A7<|BQ (v.getD 0 .junk) 8,B5 A7 v 1,B5 A7 v 3,AK v 4,AK v 5,Ab A7 b 0⟩,z7,λs r=> {s with i:=r.i,alive:=r.alive},λs=>s,λ_ s=>s,[.exit 0],jw,Y6,sM⟩
abbrev aBy:=QT.run
abbrev asW:=QT.At
def axy:Rq Y6 z7:=by
 intro s hI;refine ⟨λc1=>⟨?_,?_,?_,?_,?_,?_,ak⟩,λc1=>⟨A9,ak⟩⟩
 all_goals ((obtain ⟨⟨h0,h1⟩,h2,h3,h4,h5,h6⟩:=hI;(try simp only [Aa] at c1);first|omega|exact ⟨rfl,AI⟩ |(omega)))
def aA1:Aw:=kI Qa<|la 3 func138 apI<|l0 Qa
def aPm:QT.Ok:={}
def aPC:QT.Pf (aA9):=⟨ala,λs h=>rfl,agm,axy⟩
def apC:SA 0 aG0 QT:=s1 aPm aPC Qa aA1
def atz:Fi jw Y6 aA9 asW aBy:=AS.fin aPm aPC
def aJU:List LV->T LV
 | [.xq 9 q0]=>(match ([q0 0,q0 1,q0 2,q0 3,q0 4,q0 5,q0 6,q0 7,q0 8]:List LV) with
  | [.xl (.pair .str (.pair (.int J) (.pair (.int J) (.pair (.int J) (.pair (.pair (.int J) (.int J)) (.pair (.int J) (.pair (.int J) (.pair (.int J) (.pair (.int J) (.int J)))))))))) cs,.xl (.str) os,.xl (.pair .str (.pair (.int J) (.pair (.int J) (.int J)))) ks,.xl (.pair .str (.pair (.int J) (.pair (.int J) (.pair (.int J) (.pair (.int J) (.pair (.int J) (.pair (.int J) (.int J)))))))) gs,.xl (.pair .str (.int J)) bs,.xl (.pair (.int J) (.pair (.int J) (.pair (.int J) (.pair (.int J) (.int J))))) l,.xl (.pair .bool (.pair (.int J) (.pair (.int J) (.int J)))) d,.v (Y J t),.xl (.int J) od]=> .req (M d=M gs/\Fj cs os ks gs bs (Bp gs) (Iy gs d) od=U/\Kc l (M gs:Int) t=U/\Fj cs os ks gs bs (DG gs l t) (FN cs os ks gs bs (Bp gs) (Iy gs d) od) od=U) (.ok<|.AM [.xl A7<|ofO cs os ks gs bs l d t od,(0:Int)])
  |_=> .no)
 |_=> .no
def as2 (cs:List Cd) (os:List ByteArray) (ks:List Ko) (gs:List Ch) (bs:List Ba) (l:List Le) (d:List Dm) (t:Int) (od:List Int):letI b:=(M gs:Int);letI c:=(aq b.toNat (0:Int));letI e:=FN cs os ks gs bs (Bp gs) (Iy gs d) od;letI f:=(bX (⟨gs,b,(0:Int),c⟩:Og));letI h:=shE cs os ks gs bs (Bp gs) (Iy gs d) od;letI j:=(M (Gx l b t):Int);letI a:=(aBy (⟨cs,os,ks,gs,bs,l,d,t,od,e,Gx l b t,j,(0:Int),f.out⟩:Ol));letI g:=(a.alive.drop 0).take<|M a.alive;Bg prog AU Qa aA1 (λi=>if i=9 then QT.lp else Ak i) f91 [xQ 9 [cs,os,ks,gs,bs,l,d,t,.xl A7 od]]=.req (b<=1000/\M d=M gs) (.br (h !=0) (.ok<|.AM [.xl A7 ([]:List Int),h])<|.br ((Jl l b t) !=0) (.ok<|.AM [.xl A7 ([]:List Int),Jl l b t])<|.rm 8 b<|.re b.toNat c<|.req (Z9.q (⟨gs,b,(0:Int),c⟩:Og))<|.rl f.out<|.req (QT.q (⟨cs,os,ks,gs,bs,l,d,t,od,e,Gx l b t,j,(0:Int),f.out⟩:Ol))<|.rz a.alive<|.ok<|.AM [.xl A7<|FN cs os ks gs bs g e od,shE cs os ks gs bs g e od]):=AT
def auy:=vm (S:=aJU) func91 Qa aA1 (L:=(λi=>if i=9 then QT.lp else Ak i)) (λb hb=>by
 rw [show BB _=[aG0] by kernel_rfl] at hb
 simp only [B7,Bu,Bt] at hb;subst hb;exact apC) (λargs lv h=>by
 refine ⟨?_⟩;unfold aJU at h;split at h
 ·split at h
  case h_2=>cases h
  rename_i heq0;simp only [canL,canX];rw [Dv (n:=9) heq0];simp only [canL,canX];rw [as2];rename_i cs os ks gs bs l d t od;obtain ⟨⟨hd,hk,hv,hk2⟩,rfl⟩:=h
  have gl:=(D5.1 (L6.1 hk).1).1.2.2.2.2.1
  have ea:Gx l (M gs:Int) t=Gg (M gs) l t:=by unfold Gx;rw [AD hv,Bx]
  rw [aaz hk,show Jl l (M gs:Int) t=0 by unfold Jl;rw [AD hv]]
  refine ⟨⟨A0,hd⟩,λc=>absurd c Ae,λ_=>⟨λc=>absurd c Ae,λ_=>?_⟩⟩
  have hE:jy ⟨gs,(M gs:Int),0,aq (M gs:Int).toNat 0⟩:=⟨rfl,rfl,AZ,AI,λj _ _=>LG,ak⟩
  obtain ⟨_,_,q1,q2⟩:=au1 _ hE
  have q2:(bX ⟨gs,(M gs:Int),0,aq (M gs:Int).toNat 0⟩).out=Bp gs:=q2
  have hE2:jw ⟨cs,os,ks,gs,bs,l,d,t,od,FN cs os ks gs bs (Bp gs) (Iy gs d) od,Gx l (M gs:Int) t,(M (Gx l (M gs:Int) t):Int),0,(bX ⟨gs,(M gs:Int),0,aq (M gs:Int).toNat 0⟩).out⟩:=⟨rfl,rfl,by simp only;rw [ea,cV];omega,by simp only;rw [q2,ea,cV];exact Ih,λj j0 j1=>by
   simp only at j1|-;rw [ea,cV] at j1;rw [q2];exact OW j0 j1,ak⟩
  obtain ⟨_,_,q3,q4⟩:=atz _ hE2
  have q4:(aBy ⟨cs,os,ks,gs,bs,l,d,t,od,FN cs os ks gs bs (Bp gs) (Iy gs d) od,Gx l (M gs:Int) t,(M (Gx l (M gs:Int) t):Int),0,(bX ⟨gs,(M gs:Int),0,aq (M gs:Int).toNat 0⟩).out⟩).alive=DG gs l t:=q4.trans (by
   show H5 (M<|Gx l (M gs:Int) t) (λj=>mx (Cp<|AG gs j)<|gi (Gx l (M gs:Int) t) j)=_
   rw [ea,cV];rfl)
  refine ⟨A0,⟨rfl,AI⟩,⟨hE,rfl,rfl⟩,A9,⟨hE2,rfl,rfl⟩,A0,?_⟩
  show LV.AM [LV.xl _ _,_]=_
  rw [CP,EY,q4,aaz hk2];rfl
 ·cases h)
def zR:Array Tmp×Code×Code:=((Ik<|f93.body.getD .skip)[0]?).getD (#[],.skip,.skip)
def ak9:Array Tmp:=zR.1
def aje:Code:=zR.2.1
def akG:Code:=zR.2.2
structure Mn where
 i:Int
 cs:List Cd
 os:List ByteArray
 ks:List Ko
 gs:List Ch
 bs:List Ba
 l:List Le
 d:List Dm
 t:Int
 od:List Int
 (c a:Int)
 r:Bool
 m:List Le
 st:LS
def z8 (s:Mn):T (Rd Mn):=
 .br (an<|s.i>=0) (.ix s.i (M s.m)<|.br ((Al s.m s.i).2.1==s.c) (.so (.ret) {s with r:=(((Al s.m s.i).2.2.1 !=s.a) ||(an<|(Al s.m s.i).2.2.2.1<=(AA<|s.t-6))),st:=.done<|.ret})<|.nx {s with i:=AA<|s.i-1}) (.so (.exit 0) s)
def jx (s:Mn):Prop:=s.st=.ready/\s.i=(M s.m:Int)-1/\(M s.m:Int)<=1000/\0<=s.t/\s.t<=1000000
def ig (s:Mn):Prop:=s.st=.ready/\(-1<=s.i/\s.i<(M s.m:Int))/\(M s.m:Int)<=1000/\0<=s.t/\s.t<=1000000
def sO (s:Mn):Nat:=(s.i+1).toNat
def acF (x:Ex) (s s':Mn):Prop:=True
def alb:∀s,jx s->ig s:=by
 rintro s ⟨h0,h1,h2⟩
 exact ⟨h0,A0,h2⟩
theorem agF:Da ig sO acF z8:=by
 intro s hI;obtain ⟨hs,⟨h0,h1⟩,h2⟩:=hI;refine AH (λc1=>AH (λc2=>trivial) λc2=>?_) λc1=>trivial
 have c1:0<=s.i:=A8
 rw [AJ (x:=s.i-1)];exact ⟨⟨hs,⟨A8,A8⟩,h2⟩,by simp only [sO];omega⟩
def Z8:AS Mn:=⟨6,19,[0,1,3],[],λs=>[.CK 5,.own 4 0,s.i],λs=>[⟨[xQ 9 [s.cs,s.os,s.ks,s.gs,s.bs,s.l,s.d,s.t,.xl A7 s.od]],192,.cl,X⟩,⟨[s.c],3,.cl,X⟩,⟨[s.a],3,.cl,X⟩,⟨[s.r],4,.cl,X⟩,⟨[s.m],33,.cl,X⟩,⟨[.junk,.junk,.junk,.own 0 0,.own 1 0,.own 2 0,.own 3 0,.junk,.v<|.tuple #[],.junk,.junk,.junk,.junk,.junk,.junk,.junk,.junk,.junk,.junk,.junk,.junk,.junk,.junk,.junk,.junk,.junk,.v<|.tuple #[],.v<|.tuple #[],.v<|.tuple #[],.v<|.tuple #[],.v<|.tuple #[],.v<|.tuple #[],.v<|.tuple #[],.v<|.tuple #[],.v<|.tuple #[],.v<|.tuple #[],.v<|.tuple #[],.v<|.tuple #[],.v<|.tuple #[],.v<|.tuple #[],.v<|.tuple #[],.v<|.tuple #[],.v<|.tuple #[],.v<|.tuple #[],.v<|.tuple #[]],0,.Cc ak9 aje akG s.st,X⟩],λv b=>⟨AK v 2,Ao Ad<|BQ (B8 (CT b 0) 0) 0,Ao .str<|BQ (B8 (CT b 0) 0) 1,Ao Ah<|BQ (B8 (CT b 0) 0) 2,Ao Af<|BQ (B8 (CT b 0) 0) 3,Ao Ai<|BQ (B8 (CT b 0) 0) 4,Ao AP<|BQ (B8 (CT b 0) 0) 5,Ao As<|BQ (B8 (CT b 0) 0) 6,gI<|BQ (B8 (CT b 0) 0) 7,Ao A7<|BQ (B8 (CT b 0) 0) 8,Aj b 1 0,Aj b 2 0,Kw b 3 0,AF AP b 4 0,.ready⟩,z8,λs r=> {r with cs:=s.cs,os:=s.os,ks:=s.ks,gs:=s.gs,bs:=s.bs,l:=s.l,d:=s.d,t:=s.t,od:=s.od,c:=s.c,a:=s.a,m:=s.m},λs=> {s with st:=.ready},λx s=> {s with st:=(match x with| .ret=>(.done<|.ret) | .exit 0=> .ready|_=> .ready)},[.ret,.exit 0],jx,ig,sO⟩
abbrev aGu:=Z8.run
abbrev aHg:=Z8.At
def Qw:List Bd:=[]
def akW:Aw:=kI Qw<|l0 Qw
def axz:Rq ig z8:=by
 intro s hI;refine ⟨λc1=>⟨?_,λ_=>trivial,λ_=>trivial⟩,λ_=>trivial⟩
 ·(obtain ⟨hs,⟨h0,h1⟩,h2⟩:=hI;simp only [Aa] at c1;omega)
def aPn:Z8.Ok:={}
def aPD:Z8.Pf (acF):=⟨alb,λs h=>by
 obtain ⟨i,cs,os,ks,gs,bs,l,d,t,od,c,a,r,m,st⟩:=s
 have e:=h.1
 subst e;rfl,agF,axz⟩
def apH:=s2 (b:=bN f184 0) aPn aPD Qw akW
theorem au0:Rs jx aHg aGu (λs:Mn=>nwO s.a s.t<|(s.m.take (s.i+1).toNat).reverse.find? λx=>x.2.1==s.c) (λx s' (v:Bool)=>(x=.ret/\s'.r=v)\/(x=.exit 0/\v=U)):=DN aPn aPD (λs hI=>by
  obtain ⟨hs,⟨h0,h1⟩,h2⟩:=hI;refine AH (λc1=>?_) λc1=>?_
  ·have c1:0<=s.i:=A8
   have e:=(W1 c1 (show s.i<(M s.m:Int) by omega)).2
   refine AH (λc2=> .inl ⟨rfl,?_⟩) λc2=>?_
   ·rw [e,List.reverse_append]
    show _=nwO s.a s.t (List.find? _ (Al s.m s.i::_))
    rw [List.find?_cons_of_pos<|by exact c2]
    simp only [nwO];rw [AJ (x:=s.t-6)]
   ·show nwO _ _ _=nwO _ _ _
    rw [AJ (x:=s.i-1),e,List.reverse_append]
    show _=nwO s.a s.t (List.find? _ (Al s.m s.i::_))
    rw [List.find?_cons_of_neg A8,show (s.i-1+1).toNat=s.i.toNat by omega]
    rfl
  ·have c1:s.i<0:=A8
   refine .inr ⟨rfl,?_⟩;rw [show (s.i+1).toNat=0 by omega]
   rfl)
def aJV:List LV->T LV
 | [.xq 9 q0,.v (Y J i),.v (Y J a)]=>(match ([q0 0,q0 1,q0 2,q0 3,q0 4,q0 5,q0 6,q0 7,q0 8]:List LV) with
  | [.xl (.pair .str (.pair (.int J) (.pair (.int J) (.pair (.int J) (.pair (.pair (.int J) (.int J)) (.pair (.int J) (.pair (.int J) (.pair (.int J) (.pair (.int J) (.int J)))))))))) cs,.xl (.str) os,.xl (.pair .str (.pair (.int J) (.pair (.int J) (.int J)))) ks,.xl (.pair .str (.pair (.int J) (.pair (.int J) (.pair (.int J) (.pair (.int J) (.pair (.int J) (.pair (.int J) (.int J)))))))) gs,.xl (.pair .str (.int J)) bs,.xl (.pair (.int J) (.pair (.int J) (.pair (.int J) (.pair (.int J) (.int J))))) l,.xl (.pair .bool (.pair (.int J) (.pair (.int J) (.int J)))) d,.v (Y J t),.xl (.int J) od]=> .req ((0<=i/\i<(M gs:Int))/\(M l:Int)<=1000/\0<=t/\t<=1000000) (.ok<|nwB gs l t i a)
  |_=> .no)
 |_=> .no
def abn:Aw:=kI Qw<|la 1 func184 apH<|l0 Qw
def as3 (cs:List Cd) (os:List ByteArray) (ks:List Ko) (gs:List Ch) (bs:List Ba) (l:List Le) (d:List Dm) (t:Int) (od:List Int) (i a:Int):letI b:=(AA<|(M l:Int)-1);Bg prog AU (Qw) abn Ak f93 [xQ 9 [cs,os,ks,gs,bs,l,d,t,.xl A7 od],i,a]=.ix i (M gs) (.br (an<|a<=(AG gs i).2.2.2.2.2.2.1) (.ok X)<|.req (Z8.q (⟨b,cs,os,ks,gs,bs,l,d,t,od,i,a,X,l,.ready⟩:Mn))<|.br (Bj (aHg (⟨b,cs,os,ks,gs,bs,l,d,t,od,i,a,X,l,.ready⟩:Mn))<|.ret) (.ok (aGu (⟨b,cs,os,ks,gs,bs,l,d,t,od,i,a,X,l,.ready⟩:Mn)).r)<|.ok U):=AT
def auz:=vo (S:=aJV) func93 Qw abn (λargs lv h=>by
 refine ⟨?_⟩;unfold aJV at h;split at h
 ·split at h
  case h_2=>cases h
  rename_i heq0;simp only [canL,canX];rw [Dv (n:=9) heq0];simp only [canL,canX];rw [as3];rename_i i a _ cs os ks gs bs l d t od;obtain ⟨⟨hi,hl,ht⟩,rfl⟩:=h;refine ⟨hi,λc=>Az (λz=>LV.v<|.bool z) ?_,λc=>?_⟩
  ·have c:a<=Cp (AG gs i):=DY c
   unfold nwB;rw [Cq c];rfl
  have c:¬a<=Cp (AG gs i):=JN c
  have hE:jx ⟨AA<|(M l:Int)-1,cs,os,ks,gs,bs,l,d,t,od,i,a,X,l,.ready⟩:=⟨rfl,by show AA ((M l:Int)-1)=_;rw [AJ],hl,ht⟩
  have ev:nwB gs l t i a=nwO a t ((l.take (AA ((M l:Int)-1)+1).toNat).reverse.find? λx=>x.2.1==i):=by
   unfold nwB;rw [I9 c,AJ (x:=(M l:Int)-1),show ((M l:Int)-1+1).toNat=M l by omega,EY]
   rfl
  refine ⟨⟨hE,rfl,rfl⟩,?_⟩;rcases au0 _ hE with ⟨q1,q2⟩ |⟨q1,q2⟩<;>rw [q1]
  ·exact ⟨λ_=>Az (λz=>LV.v<|.bool z)<|q2.trans ev.symm,λh=>An⟩
  ·exact ⟨λh=>An,λ_=>Az (λz=>LV.v<|.bool z)<|q2.symm.trans ev.symm⟩
 ·cases h)
def aFe:List LV->T LV
 | [.v (Y J x)]=> .ok X
 |_=> .no
def XQ:List Bd:=[]
def aov:=vo (S:=aFe) func173 XQ kN (λargs lv h=>by
 unfold aFe at h;split at h
 ·rename_i x
  refine Ap (.ok<|.v<|.bool<|x !=x) ?_;obtain rfl:=h;exact Az (λz=>LV.v<|.bool z) AI
 ·cases h)
def aJc:List LV->T LV
 | [.v (Y J x),.v (Y J y)]=> .ok (cm x y)
 |_=> .no
def am7:List Bd:=[aov]
def auV:=vo (S:=aJc) func132 am7 kN (λargs lv h=>by
 unfold aJc at h;split at h
 ·rename_i x y
  refine Ap (.br X (.br X (.ok (0:Int))<|.ok<|.v<|Y J (-1))<|.br X (.ok (1:Int))<|.br (an<|x<y) (.ok<|.v<|Y J (-1))<|.br (an<|x>y) (.ok (1:Int))<|.ok (0:Int)) ?_;obtain rfl:=h;unfold cm;refine ⟨λh=>An,λ_=>⟨λh=>An,λ_=>⟨λc=>?_,λc=>⟨λc2=>?_,λc2=>?_⟩⟩⟩⟩<;>refine Az (λz=>LV.v<|Y J z) ?_
  ·grind
  ·grind
  ·grind
 ·cases h)
structure Mo where
 (r z:Int)
 l:List Int
 (n i:Int)
def aG3:=bN f131 0
def zF (s:Mo):T (Rd Mo):=
 .br (an<|s.i<s.n) (.ix s.i (M s.l)<|.br ((gi s.l s.i) !=s.z) (.so (.ret) {s with r:=gi s.l s.i})<|.nx {s with i:=AA<|s.i+1}) (.so (.exit 0) s)
def jK (s:Mo):Prop:=s.i=0/\s.n=(M s.l:Int)/\s.n<=1000/\s.z=0
def ij (s:Mo):Prop:=(0<=s.i/\s.i<=s.n)/\s.n=(M s.l:Int)/\s.n<=1000/\s.z=0
def sT (s:Mo):Nat:=(s.n-s.i).toNat
def acG (x:Ex) (s s':Mo):Prop:=True
def ali:∀s,jK s->ij s:=by
 exact aMe
theorem ahx:Da ij sT acG zF:=by
 intro s hI;obtain ⟨⟨h0,h1⟩,h2,h3,h4⟩:=hI;refine AH (λc1=>?_) λc1=>?_
 ·refine AH (λc2=>?_) (λc2=>?_)
  ·exact ak
  ·have c1:s.i<s.n:=A8
   rw [AJ (x:=s.i+1)];exact ⟨⟨⟨A8,A8⟩,h2,h3,h4⟩,by simp only [sT];omega⟩
 ·exact ak
def R2:AS Mo:=⟨0,18,[2,3,6,7,8],[],λs=>[s.r,s.z,.xl A7 s.l,s.n,s.i],λ_=>[],λv b=>⟨AK v 0,AK v 1,B5 A7 v 2,AK v 3,AK v 4⟩,zF,λs r=> {s with r:=r.r,i:=r.i},λs=>s,λ_ s=>s,[.ret,.exit 0],jK,ij,sT⟩
abbrev aGw:=R2.run
abbrev aHh:=R2.At
def axI:Rq ij zF:=by
 intro s hI;refine ⟨λc1=>⟨?_,λ_=>trivial,λ_=>trivial⟩,λ_=>trivial⟩
 ·(obtain ⟨⟨h0,h1⟩,h2,h3⟩:=hI;simp only [Aa] at c1;omega)
def aQi:R2.Ok:={}
def aPI:R2.Pf (acG):=⟨ali,λs h=>rfl,ahx,axI⟩
def apN:SA 0 aG3 R2:=s1 aQi aPI XQ kN
theorem auD:Rs jK aHh aGw (λs:Mo=>orI<|s.l.drop s.i.toNat) (λx s' (v:Int)=>(x=.ret/\s'.r=v)\/(x=.exit 0/\s'.z=v)):=DN aQi aPI (λs hI=>by
  obtain ⟨⟨h0,h1⟩,h2,h3,h4⟩:=hI;refine AH (λc1=>?_) λc1=>?_
  ·have c1:s.i<s.n:=A8
   have e:=(gi_step h0 (show s.i<(M s.l:Int) by omega)).1
   rw [AJ (x:=s.i+1)];refine AH (λc2=>?_) λc2=>?_
   ·refine .inl ⟨rfl,?_⟩
    rw [e,orI,AD A8]
   ·show orI _=orI _
    rw [e,orI,AE A8]
  ·have c1:s.n<=s.i:=A8
   refine .inr ⟨rfl,?_⟩;rw [En A0,h4];rfl)
def aJd:List LV->T LV
 | [.xl (.int J) l]=> .req ((M l:Int)<=1000) (.ok<|orI l)
 |_=> .no
def auW:=vm (S:=aJd) func131 XQ kN (L:=(λi=>if i=3 then R2.lp else Ak i)) (λb hb=>by
 rw [show BB _=[aG3] by kernel_rfl] at hb
 simp only [B7,Bu,Bt] at hb;subst hb;exact apN) (λargs lv h=>by
 unfold aJd at h;split at h
 ·rename_i l
  refine Ap (letI a:=(M l:Int);.req (R2.q (⟨0,0,l,a,0⟩:Mo))<|.br (Bj (aHh (⟨0,0,l,a,0⟩:Mo))<|.ret) (.ok (aGw (⟨0,0,l,a,0⟩:Mo)).r)<|.ok (0:Int)) ?_;obtain ⟨hl,rfl⟩:=h
  have hE:jK ⟨0,0,l,(M l:Int),0⟩:=⟨rfl,rfl,hl,rfl⟩
  refine ⟨⟨hE,rfl,rfl⟩,?_⟩;rcases auD _ hE with ⟨q1,q2⟩ |⟨q1,q2⟩<;>rw [q1]
  ·exact ⟨λ_=>Az (λz=>LV.v<|Y J z) q2,λh=>An⟩
  ·exact ⟨λh=>An,λ_=>Az (λz=>LV.v<|Y J z) q2⟩
 ·cases h)
def aId:List LV->T LV
 | [.v (Y J i),.xq 1 q0,.xq 1 q1]=>(match ([q0 0]:List LV) with
  | [.xl (.pair .bool (.pair (.int J) (.pair (.int J) (.int J)))) d]=>(match ([q1 0]:List LV) with
  | [.v (Y J t)]=> .req (IN d t/\0<=i/\i<(M d:Int)) (.ok<|slk d t i)
  |_=> .no)
  |_=> .no)
 |_=> .no
def arq (i:Int) (d:List Dm) (t:Int):Bg prog AU (XQ) kN Ak f128 [i,xQ 1 [d],xQ 1 [t]]=.ix i (M d) (.ix i (M d)<|.ok<|AA<|(AA<|(Dw d i).2.2.1-t)-(Dw d i).2.1):=AT
def qm:=vo (S:=aId) func128 XQ kN (λargs lv h=>by
 refine ⟨?_⟩;unfold aId at h;split at h
 ·split at h
  case h_2=>cases h
  rename_i heq0;split at h
  case h_2=>cases h
  rename_i heq1;simp only [canL,canX];rw [Dv (n:=1) heq0];rw [Dv (n:=1) heq1];simp only [canL,canX];rw [arq];rename_i i _ _ _ d _ t;obtain ⟨⟨hw,hi⟩,rfl⟩:=h
  have b:=av9 hw hi.1 hi.2
  have ht:=hw.2
  refine ⟨hi,hi,Az (λz=>LV.v<|Y J z) ?_⟩
  unfold slk;rw [AJ (x:=(Dw d i).2.2.1-t),AJ]
 ·cases h)
def aSt:List LV->T LV
 | [.v (Y J a),.v (Y J b),.xq 1 q0,.xq 1 q1]=>(match ([q0 0]:List LV) with
  | [.xl (.pair .bool (.pair (.int J) (.pair (.int J) (.int J)))) d]=>(match ([q1 0]:List LV) with
  | [.fn 128 [.xq 1 q2,.xq 1 q3]]=>(match ([q2 0]:List LV) with
  | [.xl (.pair .bool (.pair (.int J) (.pair (.int J) (.int J)))) e]=>(match ([q3 0]:List LV) with
  | [.v (Y J t)]=> .req (d=e/\IN d t/\(0<=a/\a<(M d:Int))/\0<=b/\b<(M d:Int)) (.ok<|cmD d t a b)
  |_=> .no)
  |_=> .no)
  |_=> .no)
  |_=> .no)
 |_=> .no
def abU:List Bd:=[qm,auW,auV]
def ayY (a b:Int) (d e:List Dm) (t:Int):letI c:=cm (Dw d a).2.2.2 (Dw d b).2.2.2;letI f:=cm (slk e t a)<|slk e t b;Bg prog AU (abU) kN Ak f130 [a,b,xQ 1 [d],xQ 1 [.fn 128 [xQ 1 [e],xQ 1 [t]]]]=.ix a (M d) (.ix b (M d)<|.req (IN e t/\0<=a/\a<(M e:Int))<|.req (IN e t/\0<=b/\b<(M e:Int))<|.req ((M ([c,f,cm a b]):Int)<=1000)<|.ok<|orI<|[c,f,cm a b]):=AT
def aTs:=vo (S:=aSt) func130 abU kN (λargs lv h=>by
 refine ⟨?_⟩;unfold aSt at h;split at h
 ·split at h
  case h_2=>cases h
  rename_i heq0;split at h
  case h_2=>cases h
  rename_i heq1;split at h
  case h_2=>cases h
  rename_i heq2;split at h
  case h_2=>cases h
  rename_i heq3;simp only [canL,canX];rw [Dv (n:=1) heq0];rw [Dv (n:=1) heq1];simp only [canL,canX];rw [Dv (n:=1) heq2];rw [Dv (n:=1) heq3];simp only [canL,canX];rw [ayY];rename_i a b _ d _ _ _ _ e _ t;obtain ⟨⟨rfl,hw,ha,hb⟩,rfl⟩:=h;exact ⟨ha,hb,⟨hw,ha⟩,⟨hw,hb⟩,AI,rfl⟩
 ·cases h)
structure PH where
 (n i:Int)
 d:List Dm
 tick:Int
 out:List Int
def aEl:=bN f89 0
def vQ (s:PH):T (Rd PH):=letI a:=s.out.set s.i.toNat s.i;.br (an<|s.i<s.n) (.ik s.i (M s.out)<|.re (M s.out) a<|.nx {s with i:=AA<|s.i+1,out:=a})<|.rl s.out<|.so (.exit 0) s
def iP (s:PH):Prop:=s.i=0/\s.out=aq (M s.d) 0/\s.n=(M s.d:Int)/\s.n<=1000/\M s.out=M s.d
def Xj (s:PH):Prop:=(0<=s.i/\s.i<=s.n)/\s.out=Fk s.i.toNat++aq (M s.d-s.i.toNat) 0/\s.n=(M s.d:Int)/\s.n<=1000/\M s.out=M s.d
def sX (s:PH):Nat:=(s.n-s.i).toNat
def aAK (x:Ex) (s s':PH):Prop:=x=.exit 0/\s'.out=Fk (M s'.d)
def ajr:∀s,iP s->Xj s:=by
 exact aLX
theorem ayj:Da Xj sX aAK vQ:=by
 intro s hI;obtain ⟨⟨h0,h1⟩,h2,h3,h4,h5⟩:=hI;refine AH (λc1=>?_) λc1=>?_
 ·have c1:s.i<s.n:=AX
  rw [AJ (x:=s.i+1)]
  have e:M s.d-s.i.toNat=(M s.d-(s.i+1).toNat)+1:=A0
  refine ⟨⟨⟨A8,A8⟩,?_,h3,h4,A8⟩,by simp only [sX];omega⟩
  simp only
  have hs:=aGk (xs:=Fk s.i.toNat) (r:=M s.d-(s.i+1).toNat) (v:=s.i)
  rw [Ob] at hs;rw [h2,e,hs,show (s.i+1).toNat=s.i.toNat+1 by omega,aDh,CL h0]
 ·have c1:s.n<=s.i:=AX
  refine ⟨rfl,?_⟩;rw [h2,show s.i.toNat=M s.d by omega]
  simp
def RC:AS PH:=⟨0,26,[2,3,5,12,13],[],λs=>[.own 0 0,.own 1 0,.os 2 1 0<|M s.out,s.n,s.i],λs=>[⟨[s.d],44,.cl,X⟩,⟨[s.tick],3,.cl,X⟩,bV 3 A7 s.out],λv b=>⟨AK v 3,AK v 4,AF As b 0 0,Aj b 1 0,Ab A7 b 2⟩,vQ,λs r=> {s with i:=r.i,out:=r.out},λs=>s,λ_ s=>s,[.exit 0],iP,Xj,sX⟩
abbrev MI:=RC.run
abbrev atH:=RC.At
def awd:Rq Xj vQ:=by
 intro s hI;refine ⟨λc1=>⟨?_,?_,?_,ak⟩,λc1=>⟨A9,ak⟩⟩
 all_goals ((obtain ⟨⟨h0,h1⟩,h2,h3,h4,h5⟩:=hI;simp only [Aa] at c1;first|omega|exact ⟨rfl,AI⟩))
def P6:List Bd:=[qm,aTs]
def iA:Aw:=kI P6<|l0 P6
def aPt:RC.Ok:={}
def aOZ:RC.Pf (aAK):=⟨ajr,λs h=>rfl,ayj,awd⟩
def apU:SA 0 aEl RC:=s1 aPt aOZ P6 iA
def aqb:Fi iP Xj aAK atH MI:=AS.fin aPt aOZ
structure Nb where
 (a b i j:Int)
 b0:List Dm
 b1:Int
 data:List Int
def aFu:=lN (bN f209 0) 0
def vF (s:Nb):T (Rd Nb):=letI c:=s.data.getD s.j.toNat<|Ty.dflt A7;letI d:=AA<|s.j-1;letI e:=M s.data;letI b:=s.data.getD d.toNat<|Ty.dflt A7;letI f:=s.data.set s.j.toNat b;.br (an<|s.j>s.a) (.ik s.j e<|.ik d e<|.req (s.b0=s.b0/\IN s.b0 s.b1/\(0<=c/\c<(M s.b0:Int))/\0<=b/\b<(M s.b0:Int))<|.br (an<|(cmD s.b0 s.b1 c b)<0) (.ix d e<|.ix s.j e<|.req (d.toNat<M s.data)<|.req (s.j.toNat<M s.data)<|.ik s.j e<|.ix d e<|.req (d.toNat<M f)<|.re e (f.set d.toNat c)<|.nx {s with j:=d,data:=f.set d.toNat c})<|.rl s.data<|.so (.exit 2) s)<|.rl s.data<|.so (.exit 2) s
def jg (s:Nb):Prop:=s.a=0/\(0<=s.j/\s.j<(M s.data:Int))/\(M s.data=M s.b0/\(M s.data:Int)<=1000)/\(∀x∈s.data,0<=x/\x<(M s.b0:Int))/\IN s.b0 s.b1
def iZ (s:Nb):Prop:=s.a=0/\(0<=s.j/\s.j<(M s.data:Int))/\(M s.data=M s.b0/\(M s.data:Int)<=1000)/\(∀x∈s.data,0<=x/\x<(M s.b0:Int))/\IN s.b0 s.b1
def tG (s:Nb):Nat:=s.j.toNat
def acA (x:Ex) (s s':Nb):Prop:=x=.exit 2
def alC:∀s,jg s->iZ s:=by
 exact λs h=>h
theorem azt:Da iZ tG acA vF:=by
 intro s hI;obtain ⟨h0,⟨h1,h2⟩,⟨h3,h3'⟩,h4,h5⟩:=hI;refine AH (λc1=>?_) λc1=>rfl
 have c1:s.a<s.j:=AX
 rw [AJ (x:=s.j-1)];refine AH (λc2=>?_) λc2=>rfl
 have g0:=λ(k:Nat) (hk:k<M s.data)=>h4 (s.data.getD k 0) G1
 have hm:∀x∈(s.data.set s.j.toNat<|s.data.getD (s.j-1).toNat 0).set (s.j-1).toNat (s.data.getD s.j.toNat 0),0<=x/\x<(M s.b0:Int):=λx hx=>by
  rcases SJ hx with hx|e
  ·rcases SJ hx with hx|e
   ·exact h4 x hx
   ·rw [e];exact g0 _ A0
  ·grind
 exact ⟨⟨h0,⟨AZ,A8⟩,⟨A8,A8⟩,hm,h5⟩,by simp only [tG];omega⟩
def Re:AS Nb:=⟨4,53,[0,1,2,3,8,9],[],λs=>[.os 2 1 0<|M s.data,s.a,s.b,.fn 130 [.own 0 0,.own 3 0],s.i,s.j],λs=>[⟨[s.b0],44,.cl,X⟩,⟨[s.b1],3,.cl,X⟩,bV 3 A7 s.data,⟨[.fn 128 [.own 0 0,.own 1 0]],206,.cl,X⟩],λv b=>⟨AK v 1,AK v 2,AK v 4,AK v 5,AF As b 0 0,Aj b 1 0,Ab A7 b 2⟩,vF,λs r=> {s with j:=r.j,data:=r.data},λs=>s,λ_ s=>s,[.exit 2],jg,iZ,tG⟩
abbrev og:=Re.run
abbrev asN:=Re.At
def axm:Rq iZ vF:=by
 intro s hI;refine ⟨λc1=>⟨?_,?_,?_,?_,?_,λc2=>⟨?_,?_,?_,?_,?_,?_,?_,?_,?_,ak⟩,λc2=>⟨A9,ak⟩⟩,λc1=>⟨A9,ak⟩⟩
 all_goals ((obtain ⟨h0,⟨h1,h2⟩,⟨h3,h3'⟩,h4,h5⟩:=hI;simp only [Aa,gt_iff_lt] at c1;(try rw [AJ (x:=s.j-1)]);have g0:∀k:Nat,k<M s.data->0<=s.data.getD k (Ty.dflt A7)/\s.data.getD k (Ty.dflt A7)<(M s.b0:Int):=(λk hk=>h4 _ G1);first|omega|exact ⟨rfl,h5,g0 _ A0,g0 _ A0⟩ |(simp only [Bz];omega) |exact ⟨rfl,AI⟩))
def aQ7:Re.Ok:={}
def aPa:Re.Pf (acA):=⟨alC,λs h=>rfl,azt,axm⟩
def apq:SA 4 aFu Re:=s2 aQ7 aPa P6 iA
theorem aHu:Rs jg asN og (λs:Nb=>Kx (ltD s.b0 s.b1) s.j.toNat s.data) (λx s' (v:List Int)=>x=.exit 2/\s'.data=v):=DN aQ7 aPa (λs hI=>by
  obtain ⟨h0,⟨h1,h2⟩,⟨h3,h3'⟩,h4,h5⟩:=hI;refine AH (λc1=>?_) λc1=>?_
  ·have c1:s.a<s.j:=A8
   rw [AJ (x:=s.j-1)]
   have e:s.j.toNat=(s.j-1).toNat+1:=A0
   refine AH (λc2=>?_) λc2=>?_
   ·show Kx _ _ _=Kx _ _ _
    rw [e,Kx,AD (by unfold ltD;rw [e] at c2;exact c2)]
    rfl
   ·refine ⟨rfl,?_⟩
    rw [e] at c2;rw [e,Kx,AE λhh=>absurd ((show U=_ from hh.symm).trans c2) Ae]
  ·have c1:s.j<=s.a:=A8
   refine ⟨rfl,?_⟩;rw [show s.j.toNat=0 by omega]
   rfl)
structure KM where
 (a b i:Int)
 b0:List Dm
 b1:Int
 data:List Int
def aFv:=bN f209 0
def yn (s:KM):T (Rd KM):=letI c:=(og (⟨s.a,s.b,s.i,s.i,s.b0,s.b1,s.data⟩:Nb));.br (an<|s.i<s.b) (.rl s.data<|.req (Re.q (⟨s.a,s.b,s.i,s.i,s.b0,s.b1,s.data⟩:Nb))<|.rl c.data<|.nx {s with i:=AA<|s.i+1,data:=c.data})<|.rl s.data<|.so (.exit 0) s
def jh (s:KM):Prop:=s.i=1/\(s.a=0/\s.b=(M s.data:Int))/\(M s.data=M s.b0/\(M s.data:Int)<=1000)/\(∀x∈s.data,0<=x/\x<(M s.b0:Int))/\IN s.b0 s.b1
def Xz (s:KM):Prop:=1<=s.i/\(s.a=0/\s.b=(M s.data:Int))/\(M s.data=M s.b0/\(M s.data:Int)<=1000)/\(∀x∈s.data,0<=x/\x<(M s.b0:Int))/\IN s.b0 s.b1
def tH (s:KM):Nat:=(s.b-s.i).toNat
def acB (x:Ex) (s s':KM):Prop:=x=.exit 0
def alD:∀s,jh s->Xz s:=by
 exact kv
theorem uA (s:KM) (hI:Xz s) (c1:s.i<s.b):jg ⟨s.a,s.b,s.i,s.i,s.b0,s.b1,s.data⟩:=by
 obtain ⟨h0,⟨h1,h2⟩,h3⟩:=hI;exact ⟨h1,⟨A8,A8⟩,h3⟩
theorem azu:Da Xz tH acB yn:=by
 intro s hI
 have hin:=λc1=>uA s hI c1
 obtain ⟨h0,⟨h1,h2⟩,⟨h3,h3'⟩,h4,h5⟩:=hI;refine AH (λc1=>?_) λc1=>rfl
 have c1:s.i<s.b:=A8
 obtain ⟨q1,q2⟩:=aHu _<|hin c1
 have hp:=ao4 (lt:=ltD s.b0 s.b1) (j:=s.i.toNat) (l:=s.data) A0
 rw [AJ (x:=s.i+1),q2];exact ⟨⟨A8,⟨h1,by simp only [hp.length_eq];exact h2⟩,⟨by simp only [hp.length_eq];exact h3,by simp only [hp.length_eq];exact h3'⟩,λx hx=>h4 x<|hp.subset hx,h5⟩,by simp only [tH];omega⟩
def Rf:AS KM:=⟨4,53,[0,1,2,3,8],[],λs=>[.os 2 1 0<|M s.data,s.a,s.b,.fn 130 [.own 0 0,.own 3 0],s.i],λs=>[⟨[s.b0],44,.cl,X⟩,⟨[s.b1],3,.cl,X⟩,bV 3 A7 s.data,⟨[.fn 128 [.own 0 0,.own 1 0]],206,.cl,X⟩],λv b=>⟨AK v 1,AK v 2,AK v 4,AF As b 0 0,Aj b 1 0,Ab A7 b 2⟩,yn,λs r=> {s with i:=r.i,data:=r.data},λs=>s,λ_ s=>s,[.exit 0],jh,Xz,tH⟩
abbrev Vl:=Rf.run
abbrev asO:=Rf.At
theorem axn:Rq Xz yn:=by
 intro s hI;refine ⟨λc1=>⟨A9,?_,A9,ak⟩,λc1=>⟨A9,ak⟩⟩
 ·exact ⟨uA s hI A8,rfl,rfl⟩
def aQ8:Rf.Ok:={}
def aPb:Rf.Pf (acB):=⟨alD,λs h=>rfl,azu,axn⟩
def pe:SA 4 aFv Rf:=AS.snd aQ8 aPb (GM (Γ:=P6) (K:=iA) (L:=(Lp (λi=>if i=4 then Re.lp else Ak i))) (gk P6) iA.h aFv (λb hb=>by
 rw [show BB _=[aFu] by kernel_rfl] at hb
 simp only [B7,Bu,Bt] at hb;subst hb;exact apq)) λs=>AT
theorem ar7:Rs jh asO Vl (λs:KM=>MY (ltD s.b0 s.b1) s.data s.i.toNat) (λx s' (v:List Int)=>x=.exit 0/\s'.data=v):=DN aQ8 aPb (λs hI=>by
  have hin:=λc1=>uA s hI c1
  obtain ⟨h0,⟨h1,h2⟩,⟨h3,h3'⟩,h4,h5⟩:=hI;refine AH (λc1=>?_) λc1=>?_
  ·have c1:s.i<s.b:=A8
   obtain ⟨q1,q2⟩:=aHu _<|hin c1
   have q2:(og ⟨s.a,s.b,s.i,s.i,s.b0,s.b1,s.data⟩).data=Kx (ltD s.b0 s.b1) s.i.toNat s.data:=q2
   rw [AJ (x:=s.i+1)]
   show MY _ _ _=MY _ _ _
   rw [q2,show (s.i+1).toNat=s.i.toNat+1 by omega,aeu A0]
  ·have c1:s.b<=s.i:=A8
   exact ⟨rfl,(afn A0).symm⟩)
structure Nd where
 (n FE a b:Int)
 b0:List Dm
 b1:Int
 data:List Int
def vG (s:Nd):T (Rd Nd):=letI c:=(Vl (⟨s.a,s.b,AA<|s.a+1,s.b0,s.b1,s.data⟩:KM));.br (an<|s.b<=s.n) (.rl s.data<|.req (Rf.q (⟨s.a,s.b,AA<|s.a+1,s.b0,s.b1,s.data⟩:KM))<|.re (M s.data) c.data<|.nx {s with a:=s.b,b:=AA<|s.b+s.FE,data:=c.data})<|.rl s.data<|.so (.exit 0) s
def iw (s:Nd):Prop:=s.b=20/\s.n<20
def YM (s:Nd):Prop:=s.b=20/\s.n<20
def aQe (s:Nd):Nat:=0
def aco (x:Ex) (s s':Nd):Prop:=x=.exit 0
def air:∀s,iw s->YM s:=by
 exact λs h=>h
theorem avW:Da YM aQe aco vG:=by
 intro s hI;obtain ⟨h0,h1⟩:=hI;refine AH (λc1=>absurd (show s.b<=s.n by grind) A0) λc1=>rfl
def Yy:AS Nd:=⟨4,63,[0,1,2,6,7,8],[],λs=>[.os 2 1 0<|M s.data,s.n,.fn 130 [.own 0 0,.own 3 0],s.FE,s.a,s.b],λs=>[⟨[s.b0],44,.cl,X⟩,⟨[s.b1],3,.cl,X⟩,bV 3 A7 s.data,⟨[.fn 128 [.own 0 0,.own 1 0]],206,.cl,X⟩],λv b=>⟨AK v 1,AK v 3,AK v 4,AK v 5,AF As b 0 0,Aj b 1 0,Ab A7 b 2⟩,vG,λs r=> {s with a:=r.a,b:=r.b,data:=r.data},λs=>s,λ_ s=>s,[.exit 0],iw,YM,aQe⟩
abbrev Im:=Yy.run
abbrev at7:=Yy.At
def akd:Aw:=kI P6<|la 1 func209 pe<|l0 P6
def awL:Rq YM vG:=by
 intro s hI;refine ⟨λc1=>⟨A9,?_,?_,ak⟩,λc1=>⟨A9,ak⟩⟩
 all_goals ((simp only [Aa] at c1;exact absurd c1 (by have:=hI;unfold YM at this;omega)))
def aQM:Yy.Ok:={}
def aOp:Yy.Pf (aco):=⟨air,λs h=>rfl,avW,awL⟩
def aGJ:=s2 (b:=bN f172 0) aQM aOp P6 akd
theorem aoi:Rs iw at7 Im (λs:Nd=>(s.data,s.a)) (λx s' (v:List Int×Int)=>x=.exit 0/\(s'.data,s'.a)=v):=DN aQM aOp (λs hI=>by
  obtain ⟨h0,h1⟩:=hI;exact AH (λc1=>absurd (show s.b<=s.n by grind) A0) λc1=>⟨rfl,rfl⟩)
def ahB:List LV->T LV:=λ_=> .req False<|.ok<|.v undef
def aui:VV 210 ahB:=by
 intro _ _ _ _ _ _ _ _ _ h;exact h.1.elim
structure PE where
 (n FE a b:Int)
 b0:List Dm
 b1:Int
 data:List Int
def aF1:=lN (bN f172 1) 0
def vz (s:PE):T (Rd PE):=
 .br (an<|s.b<=s.n) (.rz s.data<|.req False<|.rl s.data<|.nx {s with a:=s.b,b:=AA<|s.b+(AA<|2*s.FE)}) (.rl s.data<|.so (.exit 4) s)
def acN (s:PE):Prop:=False
def jH (s:PE):Prop:=False
def aQc (s:PE):Nat:=0
def ack (x:Ex) (s s':PE):Prop:=True
def aip:∀s,acN s->jH s:=by
 exact λs h=>h
def avU:Da jH aQc ack vz:=by
 intro s hI;exact hI.elim
def UI:AS PE:=⟨4,63,[0,1,2,6,7,8],[],λs=>[.os 2 1 0<|M s.data,s.n,.fn 130 [.own 0 0,.own 3 0],s.FE,s.a,s.b],λs=>[⟨[s.b0],44,.cl,X⟩,⟨[s.b1],3,.cl,X⟩,bV 3 A7 s.data,⟨[.fn 128 [.own 0 0,.own 1 0]],206,.cl,X⟩],λv b=>⟨AK v 1,AK v 3,AK v 4,AK v 5,AF As b 0 0,Aj b 1 0,Ab A7 b 2⟩,vz,λs r=> {s with a:=r.a,b:=r.b},λs=>s,λ_ s=>s,[.exit 4],acN,jH,aQc⟩
abbrev aqt:=UI.run
def Qb:List Bd:=[qm,aTs,aui]
def aA2:Aw:=kI Qb<|la 2 func172 aGJ<|la 1 func209 pe<|l0 Qb
def awJ:Rq jH vz:=by
 intro s hI;refine ⟨λc1=>⟨?_,?_,A9,ak⟩,λc1=>⟨A9,ak⟩⟩
 all_goals (exact hI.elim)
def ayg:UI.Ok:={}
def axB:UI.Pf (ack):=⟨aip,λs h=>rfl,avU,awJ⟩
def aq2:SA 4 aF1 UI:=s2 ayg axB Qb aA2
structure PF where
 (n FE:Int)
 b0:List Dm
 b1:Int
 data:List Int
def aF2:=bN f172 1
def w4 (s:PF):T (Rd PF):=
 .br (an<|s.FE<s.n) (.rl s.data<|.req (UI.q (⟨s.n,s.FE,0,AA<|2*s.FE,s.b0,s.b1,s.data⟩:PE))<|.br (an<|(AA<|(aqt (⟨s.n,s.FE,0,AA<|2*s.FE,s.b0,s.b1,s.data⟩:PE)).a+s.FE)<s.n) (.rz s.data<|.req False<|.rl s.data<|.nx {s with FE:=AA<|s.FE*2})<|.rl s.data<|.nx {s with FE:=AA<|s.FE*2}) (.rl s.data<|.so (.exit 2) s)
def aB3 (s:PF):Prop:=s.FE=20/\s.n<20
def YL (s:PF):Prop:=s.FE=20/\s.n<20
def aQd (s:PF):Nat:=0
def acn (x:Ex) (s s':PF):Prop:=x=.exit 2
def aiq:∀s,aB3 s->YL s:=by
 exact λs h=>h
theorem avV:Da YL aQd acn w4:=by
 intro s hI;obtain ⟨h0,h1⟩:=hI;refine AH (λc1=>absurd (show s.FE<s.n by grind) A0) λc1=>rfl
def jT:AS PF:=⟨4,63,[0,1,2,6],[],λs=>[.os 2 1 0<|M s.data,s.n,.fn 130 [.own 0 0,.own 3 0],s.FE],λs=>[⟨[s.b0],44,.cl,X⟩,⟨[s.b1],3,.cl,X⟩,bV 3 A7 s.data,⟨[.fn 128 [.own 0 0,.own 1 0]],206,.cl,X⟩],λv b=>⟨AK v 1,AK v 3,AF As b 0 0,Aj b 1 0,Ab A7 b 2⟩,w4,λs r=> {s with FE:=r.FE},λs=>s,λ_ s=>s,[.exit 2],aB3,YL,aQd⟩
def awK:Rq YL w4:=by
 intro s hI;refine ⟨λc1=>⟨A9,?_,λc2=>⟨?_,?_,A9,ak⟩,λc2=>⟨A9,ak⟩⟩,λc1=>⟨A9,ak⟩⟩
 all_goals ((simp only [Aa] at c1;exact absurd c1 (by have:=hI;unfold YL at this;omega)))
def ayi:jT.Ok:={}
def axC:jT.Pf (acn):=⟨aiq,λs h=>rfl,avV,awK⟩
def aq3:SA 4 aF2 jT:=AS.snd ayi axC (GM (Γ:=Qb) (K:=aA2) (L:=(Lp (λi=>if i=9 then UI.lp else Ak i))) (gk Qb) aA2.h aF2 (λb hb=>by
 rw [show BB _=[aF1] by kernel_rfl] at hb
 simp only [B7,Bu,Bt] at hb;subst hb;exact aq2)) λs=>AT
def aIr:List LV->T LV
 | [.xl (.pair .bool (.pair (.int J) (.pair (.int J) (.int J)))) d,.v (Y J t)]=> .req (IN d t/\M d<=19) (.ok<|.xl A7<|H3 d t)
 |_=> .no
def L5 (d:List Dm) (t:Int):PH:=(⟨(((M d:Int).toNat:Nat):Int),0,d,t,aq (M d:Int).toNat (0:Int)⟩:PH)
def IB (d:List Dm) (t:Int):Nd:=(⟨((M (MI<|L5 d t).out:Nat):Int),20,0,20,d,t,(MI<|L5 d t).out⟩:Nd)
def Vr (d:List Dm) (t:Int):KM:=(⟨(Im<|IB d t).a,((M (MI<|L5 d t).out:Nat):Int),AA<|(Im<|IB d t).a+1,d,t,(Im<|IB d t).data⟩:KM)
def aEf (d:List Dm) (t:Int):PF:=(⟨((M (MI<|L5 d t).out:Nat):Int),20,d,t,(Vl<|Vr d t).data⟩:PF)
def akc:Aw:=kI Qb<|la 7 func172 aq3<|la 2 func172 aGJ<|la 1 func209 pe<|l0 Qb
def aul:=vm (S:=aIr) func89 Qb akc (L:=(λi=>if i=3 then RC.lp else Ak i)) (λb hb=>by
 rw [show BB _=[aEl] by kernel_rfl] at hb
 simp only [B7,Bu,Bt] at hb;subst hb;exact apU) (λargs lv h=>by
 unfold aIr at h;split at h
 ·rename_i d t
  refine Ap (letI b:=M (MI<|L5 d t).out;letI c:=(M d:Int);letI e:=Vl<|Vr d t;.rm 8 c<|.re c.toNat (aq c.toNat (0:Int))<|.req (RC.q<|L5 d t)<|.rl (MI<|L5 d t).out<|.req (Yy.q<|IB d t)<|.rl (Im<|IB d t).data<|.req (Rf.q<|Vr d t)<|.re (M (Im<|IB d t).data) e.data<|.req (jT.q<|aEf d t)<|.req (0+b<=M e.data)<|.ok<|.xl A7<|(e.data.drop 0).take b) ?_;obtain ⟨⟨hw,hd⟩,rfl⟩:=h
  have hE:iP (L5 d t):=⟨rfl,MB,by show (((M d:Int).toNat:Nat):Int)=(M d:Int);omega,by show (((M d:Int).toNat:Nat):Int)<=1000;omega,by show M (aq _ (0:Int))=M d;rw [Cf];omega⟩
  obtain ⟨_,_,_,q1⟩:=aqb _ hE
  have q1:(MI<|L5 d t).out=Fk (M d):=q1
  have hl:M (MI<|L5 d t).out=M d:=by rw [q1,Ob]
  have hE2:iw (IB d t):=⟨rfl,aMt⟩
  obtain ⟨_,q2⟩:=aoi _ hE2
  have q2a:(Im<|IB d t).data=Fk (M d):=(Az Prod.fst q2).trans q1
  have q2b:(Im<|IB d t).a=0:=Az Prod.snd q2
  have hE3:jh (Vr d t):=⟨by show AA ((Im<|IB d t).a+1)=1;rw [q2b];rfl,⟨q2b,by show ((M (MI<|L5 d t).out:Nat):Int)=(M (Im<|IB d t).data:Int);rw [q2a,hl,Ob]⟩,⟨by show M (Im<|IB d t).data=M d;rw [q2a,Ob],by show (M (Im<|IB d t).data:Int)<=1000;rw [q2a,Ob];omega⟩,λx hx=>aEP.1 (by have hx:x∈(Im<|IB d t).data:=hx;rw [q2a] at hx;exact hx),hw⟩
  obtain ⟨_,q3⟩:=ar7 _ hE3
  have q3:(Vl<|Vr d t).data=H3 d t:=q3.trans (by
   show MY (ltD d t) (Im<|IB d t).data (AA<|(Im<|IB d t).a+1).toNat=_
   rw [q2b,q2a];exact afm)
  have hl3:M (Vl<|Vr d t).data=M d:=by rw [q3,aEW]
  have hE4:aB3 (aEf d t):=⟨rfl,aMt⟩
  refine ⟨⟨A0,A0,A0,A0⟩,⟨rfl,AI⟩,⟨hE,rfl,rfl⟩,A9,⟨hE2,rfl,rfl⟩,A9,⟨hE3,rfl,rfl⟩,⟨rfl,by rw [q2a,Ob,hl3]⟩,⟨hE4,rfl,rfl⟩,A0,?_⟩
  show LV.xl _ _=_
  rw [CP,hl,<-hl3,EY,q3]
 ·cases h)
structure LQ where
 rs:List Ra
 (tick n t15:Int)
 offers:List Int
 m:List Ch
 (k i:Int)
 ahL:List Cd
 c1:List ByteArray
 c2:List Ko
 c3:List Ch
 c4:List Ba
 NJ:List Le
 agA:List Dm
 TV:Int
 (atu G2:List Int)
 next:List Ra
 Cr:List Le
def aG1:=bN f64 0
def ry (s:LQ) (e:Int) (w:Bool) (x:Int) (y:Int):T (Rd LQ):=letI a:=(s.n,(s.i,(x,(s.tick,(12:Int)))));letI b:=(s.next.set s.i.toNat (x,y));letI c:=s.G2.set s.i.toNat x;letI d:=M s.next;letI f:=M s.G2;.br (an<|s.i<s.k) (.ix s.i (M s.m)<|.ix s.i (M s.rs)<|.ix s.i (M s.offers)<|.br (e !=0) (.rl s.G2<|.rl s.next<|.rl s.Cr<|.so (.ret) {s with t15:=(1:Int)})<|.ik s.i f<|.ik s.i d<|.req ((0<=s.i/\s.i<(M s.c3:Int))/\(M s.NJ:Int)<=1000/\0<=s.TV/\s.TV<=1000000)<|.br w (.rb (M s.Cr) (M<|[a]) 40<|.re f c<|.re d b<|.re (M s.Cr+M ([a])) (s.Cr++([a]))<|.nx {s with n:=AA<|s.n+1,i:=AA<|s.i+1,G2:=c,next:=b,Cr:=s.Cr++([a])})<|.re f c<|.re d b<|.rl s.Cr<|.nx {s with i:=AA<|s.i+1,G2:=c,next:=b})<|.rl s.G2<|.rl s.next<|.rl s.Cr<|.so (.exit 0) s
abbrev zA (s:LQ):=letI a:=AG s.m s.i;letI c:=Bw s.rs s.i;letI d:=gi s.offers s.i;letI b:=nA a.2.2.1 a.2.2.2.1 a.2.2.2.2.1 a.2.2.2.2.2.1 a.2.2.2.2.2.2.1 c.1 c.2 d;ry s (nE a.2.2.1 a.2.2.2.1 a.2.2.2.2.1 a.2.2.2.2.2.1 a.2.2.2.2.2.2.1 c.1 c.2 d) (nwB s.c3 s.NJ s.TV s.i b) b<|nS a.2.2.1 a.2.2.2.1 a.2.2.2.2.1 a.2.2.2.2.2.1 a.2.2.2.2.2.2.1 c.1 c.2 d
def Yv (s:LQ):Prop:=s.i=0/\s.Cr=[]/\(s.k=(M s.m:Int)/\s.k<=16)/\(s.c3=s.m/\s.TV=s.tick)/\((M s.NJ:Int)<=1000/\0<=s.tick/\s.tick<=1000000)/\(M s.rs=M s.m/\M s.offers=M s.m/\M s.G2=M s.m/\M s.next=M s.m)/\dcK s.m s.rs s.offers/\1<=s.n-(M s.Cr:Int)/\s.n-(M s.Cr:Int)<=999900
def Rh (s:LQ):Prop:=letI a:=(M s.Cr:Int);(0<=s.i/\s.i<=s.k)/\(∀j,0<=j->j<s.i->gi s.G2 j=Kq (AG s.m j) (Bw s.rs j) (gi s.offers j)/\Bw s.next j=(Kq (AG s.m j) (Bw s.rs j)<|gi s.offers j,nxS (AG s.m j) (Bw s.rs j)<|gi s.offers j))/\s.Cr=Gt s.m s.NJ s.tick (s.n-a) (FT s.m s.rs s.offers<|M s.m) s.i.toNat/\(s.k=(M s.m:Int)/\s.k<=16)/\(s.c3=s.m/\s.TV=s.tick)/\((M s.NJ:Int)<=1000/\0<=s.tick/\s.tick<=1000000)/\(M s.rs=M s.m/\M s.offers=M s.m/\M s.G2=M s.m/\M s.next=M s.m)/\dcK s.m s.rs s.offers/\1<=s.n-a/\s.n-a<=999900
def WN (s:LQ):Nat:=(s.k-s.i).toNat
def jE (x:Ex) (s s':LQ):Prop:=x=.exit 0/\s'.G2=FT s'.m s'.rs s'.offers (M s'.m)/\s'.next=dcR s'.m s'.rs s'.offers (M s'.m)/\s'.Cr=Gt s'.m s'.NJ s'.tick (s'.n-(M s'.Cr:Int)) (FT s'.m s'.rs s'.offers<|M s'.m) (M s'.m)
def ale:∀s,Yv s->Rh s:=by
 rintro s ⟨h0,h1,h2⟩
 exact ⟨A0,λj j0 j1=>A0,yb,h2⟩
theorem au7 (s:LQ) (hI:Rh s) (e:Int) (w:Bool) (x:Int) (y:Int) (he:nE (AG s.m s.i).2.2.1 (AG s.m s.i).2.2.2.1 (AG s.m s.i).2.2.2.2.1 (AG s.m s.i).2.2.2.2.2.1 (AG s.m s.i).2.2.2.2.2.2.1 (Bw s.rs s.i).1 (Bw s.rs s.i).2 (gi s.offers s.i)=e) (hw:nwB s.c3 s.NJ s.TV s.i (nA (AG s.m s.i).2.2.1 (AG s.m s.i).2.2.2.1 (AG s.m s.i).2.2.2.2.1 (AG s.m s.i).2.2.2.2.2.1 (AG s.m s.i).2.2.2.2.2.2.1 (Bw s.rs s.i).1 (Bw s.rs s.i).2<|gi s.offers s.i)=w) (hx:nA (AG s.m s.i).2.2.1 (AG s.m s.i).2.2.2.1 (AG s.m s.i).2.2.2.2.1 (AG s.m s.i).2.2.2.2.2.1 (AG s.m s.i).2.2.2.2.2.2.1 (Bw s.rs s.i).1 (Bw s.rs s.i).2 (gi s.offers s.i)=x) (hy:nS (AG s.m s.i).2.2.1 (AG s.m s.i).2.2.2.1 (AG s.m s.i).2.2.2.2.1 (AG s.m s.i).2.2.2.2.2.1 (AG s.m s.i).2.2.2.2.2.2.1 (Bw s.rs s.i).1 (Bw s.rs s.i).2 (gi s.offers s.i)=y):DO (λs'=>Rh s'/\WN s'<WN s) (λx s'=>jE x s s') ((ry s e w x y).rd s):=by
 unfold ry;dsimp only [T.rd,T.rl,T.rv];obtain ⟨⟨h0,h1⟩,hA,hL,⟨h2,h3⟩,⟨h4,h5⟩,h6,⟨h7,h8,h9,h10⟩,hk,h11⟩:=hI
 have hll:M s.Cr<=s.i.toNat:=yO
 refine AH (λc1=>?_) λc1=>?_
 ·refine AH (λc2=>?_) (λc2=>?_)
  ·have c1:s.i<s.k:=AX
   have hm:s.i<(M s.m:Int):=A0
   exact absurd (he.symm.trans<|akk<|hk s.i h0 hm) EI
  ·refine AH (λc3=>?_) (λc3=>?_)
   ·have c1:s.i<s.k:=AX
    have hm:s.i<(M s.m:Int):=A0
    have hx':Kq (AG s.m s.i) (Bw s.rs s.i) (gi s.offers s.i)=x:=hx
    have hy':nxS (AG s.m s.i) (Bw s.rs s.i) (gi s.offers s.i)=y:=hy
    have hA':∀j,0<=j->j<s.i+1->gi (s.G2.set s.i.toNat x) j=Kq (AG s.m j) (Bw s.rs j) (gi s.offers j)/\Bw (s.next.set s.i.toNat (x,y)) j=(Kq (AG s.m j) (Bw s.rs j)<|gi s.offers j,nxS (AG s.m j) (Bw s.rs j)<|gi s.offers j):=λj j0 j1=>by
     exact aKz
    have hs:s.i.toNat+1=(s.i+1).toNat:=A0
    have hg:gi (FT s.m s.rs s.offers<|M s.m) (s.i.toNat:Nat)=x:=aNu
    have hw':nwB s.m s.NJ s.tick (s.i.toNat:Nat) x=w:=by rw [CL h0,<-hw,h4,h5];rw [<-hx]
    rw [AJ (x:=s.i+1),AJ (x:=s.n+1)]
    have hn:s.n+1-((M (s.Cr++[(s.n,s.i,x,s.tick,12)]):Nat):Int)=s.n-(M s.Cr:Int):=by
     exact aMM
    refine ⟨⟨⟨AZ,AZ⟩,hA',?_,⟨h2,h3⟩,⟨h4,h5⟩,h6,⟨h7,h8,aNd,aNa⟩,hk,by simp only;rw [hn];exact h11⟩,by simp only [WN];omega⟩
    simp only;rw [hn,<-hs,Gt,<-hL,hg,hw',c3,AD rfl,CL h0,show s.n-(M s.Cr:Int)+(M s.Cr:Int)=s.n by omega]
   ·have c1:s.i<s.k:=AX
    have hm:s.i<(M s.m:Int):=A0
    have hx':Kq (AG s.m s.i) (Bw s.rs s.i) (gi s.offers s.i)=x:=hx
    have hy':nxS (AG s.m s.i) (Bw s.rs s.i) (gi s.offers s.i)=y:=hy
    have hA':∀j,0<=j->j<s.i+1->gi (s.G2.set s.i.toNat x) j=Kq (AG s.m j) (Bw s.rs j) (gi s.offers j)/\Bw (s.next.set s.i.toNat (x,y)) j=(Kq (AG s.m j) (Bw s.rs j)<|gi s.offers j,nxS (AG s.m j) (Bw s.rs j)<|gi s.offers j):=λj j0 j1=>by
     exact aKz
    have hs:s.i.toNat+1=(s.i+1).toNat:=A0
    have hg:gi (FT s.m s.rs s.offers<|M s.m) (s.i.toNat:Nat)=x:=aNu
    have hw':nwB s.m s.NJ s.tick (s.i.toNat:Nat) x=w:=A8
    rw [AJ (x:=s.i+1)];refine ⟨⟨⟨AZ,AZ⟩,hA',?_,⟨h2,h3⟩,⟨h4,h5⟩,h6,⟨h7,h8,aNd,aNa⟩,hk,h11⟩,by simp only [WN];omega⟩
    simp only;rw [<-hs,Gt,<-hL,hg,hw',c3,AE Ae,GF]
 ·have c1:s.k<=s.i:=AX
  have hi:s.i.toNat=M s.m:=A0
  refine ⟨rfl,ad9 (by rw [h9];exact Ih.symm) λj j0 j1=>?_,arB (by rw [h10,dN]) λj j0 j1=>?_,by have hL':=hL;rw [hi] at hL';exact hL'⟩
  ·rw [FT,Ih] at j1
   rw [FT,OW j0 j1];exact (hA j j0 A0).1
  ·rw [dN] at j1
   rw [agK j0 j1];exact (hA j j0 A0).2
def agJ:Da Rh WN jE zA:=λs hI=>au7 s hI _ _ _ _ rfl rfl rfl rfl
def R1:AS LQ:=⟨0,108,[2,4,5,12,13,14,15,16,17,19,20,21,57,58,59],[.nl 21 101 AP],λs=>[s.rs,s.tick,s.n,.v<|.slice aj 0 0,.v<|.slice aj 0 0,.v<|.slice aj 0 0,s.t15,.own 0 0,.xl A7 s.offers,.os 1 1 0<|M s.G2,.os 2 2 0<|M s.next,.os 3 5 0<|M s.Cr,s.m,s.k,s.i],λs=>[⟨[s.ahL,s.c1,s.c2,s.c3,s.c4,s.NJ,s.agA,s.TV,.xl A7 s.atu],195,.cl,U⟩,bV 3 A7 s.G2,bV 127 Am s.next,bV 101 AP s.Cr],λv b=>⟨B5 Am v 0,AK v 1,AK v 2,AK v 6,B5 A7 v 8,B5 Af v 12,AK v 13,AK v 14,AF Ad b 0 0,AF .str b 0 1,AF Ah b 0 2,AF Af b 0 3,AF Ai b 0 4,AF AP b 0 5,AF As b 0 6,Aj b 0 7,AF A7 b 0 8,Ab A7 b 1,Ab Am b 2,Ab AP b 3⟩,zA,λs r=> {s with n:=r.n,t15:=r.t15,i:=r.i,G2:=r.G2,next:=r.next,Cr:=r.Cr},λs=>s,λ_ s=>s,[.ret,.exit 0],Yv,Rh,WN⟩
abbrev Io:=R1.run
abbrev qh:=R1.At
def ay1:Rq Rh zA:=by
 intro s hI;refine ⟨λc1=>⟨?_,?_,?_,λc2=>⟨A9,A9,A9,ak⟩,λc2=>⟨?_,?_,?_,?_,?_,λc3=>⟨?_,?_,?_,?_,ak⟩,λc3=>⟨?_,?_,A9,ak⟩⟩⟩,λc1=>⟨A9,A9,A9,ak⟩⟩
 all_goals ((obtain ⟨⟨h0,h1⟩,hA,hL,⟨h2,h3⟩,⟨h4,h5⟩,h6,⟨h7,h8,h9,h10⟩,hk,h11⟩:=hI;have hll:M s.Cr<=s.i.toNat:=yO;(try simp only [Aa] at c1);have hl3:M s.c3=M s.m:=Az M h4;first|omega|exact ⟨rfl,AI⟩ |(refine ⟨A0,?_,?_⟩<;>simp only [Bc,Bn]<;>omega)))
def abP:List Bd:=[aul,auv,auy,aun,auz]
def rA:R1.Ok:={}
def rX:R1.Pf (jE):=⟨ale,λs h=>rfl,agJ,ay1⟩
def apJ:SA 0 aG1 R1:=s1 rA rX abP kN
def au6:Fi Yv Rh jE qh Io:=AS.fin rA rX
theorem au5:Rs Yv qh Io (λs:LQ=>s.n-(M s.Cr:Int)) (λx s' (v:Int)=>s'.n-(M s'.Cr:Int)=v):=DN rA rX (λs hI=>by
  obtain ⟨⟨h0,h1⟩,hA,hL,⟨h2,h3⟩,⟨h4,h5⟩,h6,⟨h7,h8,h9,h10⟩,hk,h11⟩:=hI
  have hll:M s.Cr<=s.i.toNat:=yO
  refine AH (λc1=>?_) λc1=>?_
  ·refine AH (λc2=>?_) (λc2=>?_)
   ·rfl
   ·refine AH (λc3=>?_) (λc3=>?_)
    ·have c1:s.i<s.k:=A8
     rw [AJ (x:=s.n+1)]
     show s.n+1-((M (s.Cr++[_]):Nat):Int)=s.n-(M s.Cr:Int)
     exact aMM
    ·rfl
  ·rfl)
def aJW:List LV->T LV
 | .agg a::r=>s5 a λcs os ks gs bs=>(match r with
  | [.xl (.pair (.int J) (.pair (.int J) (.pair (.int J) (.pair (.int J) (.int J))))) l,.xl (.pair (.int J) (.int J)) rs,.xl (.pair .bool (.pair (.int J) (.pair (.int J) (.int J)))) d,.v (Y J t),.v (Y J n)]=> .req (IN d t/\M d<=19) (.ok<|.AM [.xl A7<|deA cs os ks gs bs l rs d t n,deR cs os ks gs bs l rs d t n,deL cs os ks gs bs l rs d t n,deE cs os ks gs bs l rs d t n])
  |_=> .no)
 |_=> .no
def bR (cs:List Cd) (os:List ByteArray) (ks:List Ko) (gs:List Ch) (bs:List Ba) (l:List Le) (rs:List Ra) (d:List Dm) (t n:Int):LQ:=letI a:=ofO cs os ks gs bs l d t<|H3 d t;(⟨rs,t,n,0,a,gs,(M gs:Int),0,cs,os,ks,gs,bs,l,d,t,H3 d t,aq (M a:Int).toNat (0:Int),aq (M a:Int).toNat ((0:Int),(0:Int)),([]:List Le)⟩:LQ)
def aJu:=vm (S:=aJW) func64 abP kN (L:=(λi=>if i=11 then R1.lp else Ak i)) (λb hb=>by
 rw [show BB _=[aG1] by kernel_rfl] at hb
 simp only [B7,Bu,Bt] at hb;subst hb;exact apJ) (λargs lv h=>by
 unfold aJW at h;split at h
 case h_2=>cases h
 replace h:=IC h
 obtain ⟨cs,os,ks,gs,bs,rfl,h⟩:=h;split at h
 ·rename_i l rs d t n
  refine Ap (letI a:=bR cs os ks gs bs l rs d t n;letI b:=(M (ofO cs os ks gs bs l d t<|H3 d t):Int);.req (IN d t/\M d<=19)<|.br (!(JA cs os ks gs bs l rs d t n)) (.ok<|.AM [.xl A7 ([]:List Int),.xl Am ([]:List Ra),.xl AP ([]:List Le),(1:Int)])<|.req (M d=M gs/\Fj cs os ks gs bs (Bp gs) (Iy gs d) (H3 d t)=U/\Kc l (M gs:Int) t=U/\Fj cs os ks gs bs (DG gs l t) (FN cs os ks gs bs (Bp gs) (Iy gs d)<|H3 d t) (H3 d t)=U)<|.br ((0:Int) !=0) (.ok<|.AM [.xl A7 ([]:List Int),.xl Am ([]:List Ra),.xl AP ([]:List Le),(1:Int)])<|.rm 8 b<|.rm 16 b<|.re b.toNat (aq b.toNat (0:Int))<|.re b.toNat (aq b.toNat ((0:Int),(0:Int)))<|.r0 Le<|.req (R1.q a)<|.br (Bj (qh a)<|.ret) (.ok<|.AM [.xl A7 ([]:List Int),.xl Am ([]:List Ra),.xl AP ([]:List Le),(Io a).t15])<|.rz (Io a).G2<|.rz (Io a).next (.rz (Io a).Cr<|.ok<|.AM [.xl A7<|((Io a).G2.drop 0).take<|M (Io a).G2,(((Io a).next.drop 0).take<|M (Io a).next),(((Io a).Cr.drop 0).take<|M (Io a).Cr),(0:Int)])) ?_;obtain ⟨hw,rfl⟩:=h;refine ⟨hw,λc=>?_,λc=>?_⟩
  ·unfold deA deR deL deE
   rw [ntW c];rfl
  have c:=nfW c
  have V:=aa1 c
  have ol:M (ofO cs os ks gs bs l d t<|H3 d t)=M gs:=(aaN V).1
  have hE:Yv (bR cs os ks gs bs l rs d t n):=⟨rfl,rfl,⟨rfl,by have:=V.gl;show (M gs:Int)<=16;omega⟩,A9,⟨by have:=(Gv V.les).1;show (M l:Int)<=1000;omega,V.tb⟩,⟨V.rl,ol,by show M (aq _ (0:Int))=M gs;rw [Cf];omega,by show M (aq _ ((0:Int),(0:Int)))=M gs;rw [Cf];omega⟩,aRd V,by have:=V.nb;show 1<=n-(0:Int);omega,by have:=V.nb;show n-(0:Int)<=999900;omega⟩
  obtain ⟨_,_,q1,q2,q3,q4⟩:=au6 _ hE
  have hn:=au5 _ hE
  have hn:=hn.trans<|Pk n
  have q2:(Io<|bR cs os ks gs bs l rs d t n).G2=deA cs os ks gs bs l rs d t n:=q2.trans (by unfold deA;rw [AD c];rfl)
  have q3:(Io<|bR cs os ks gs bs l rs d t n).next=deR cs os ks gs bs l rs d t n:=q3.trans (by unfold deR;rw [AD c];rfl)
  rw [hn] at q4
  have q4:(Io<|bR cs os ks gs bs l rs d t n).Cr=deL cs os ks gs bs l rs d t n:=q4.trans (by unfold deL;rw [AD c];rfl)
  have gl:=V.gl
  refine ⟨⟨V.dl,aau V.si,auH V,gZ V⟩,λc2=>absurd c2 Ae,λ_=>?_⟩
  refine ⟨by rw [ol];omega,by rw [ol];omega,⟨rfl,AI⟩,⟨rfl,AI⟩,A9,⟨hE,rfl,rfl⟩,?_⟩
  rw [q1];refine ⟨λh=>An,λ_=>⟨A0,A0,A0,?_⟩⟩
  show LV.AM [LV.xl _ _,LV.xl _ _,LV.xl _ _,_]=_
  rw [CP,EY,CP,EY,CP,EY,q2,q3,q4];unfold deE;rw [AD c]
 ·cases h)
structure NT where
 t5:Int
 t23:List Int
 (t24 t25:Int)
 B9:List Cd
 BW:List ByteArray
 C0:List Ko
 BM:List Ch
 C1:List Ba
 Cz:List Int
def aFn:=bN f84 0
def vf (s:NT):T (Rd NT):=
 .br (an<|s.t25<s.t24) (.ix s.t25 (M s.t23)<|.br ((an<|(gi s.t23 s.t25)<0) ||(an<|(gi s.t23 s.t25)>80)) (.so (.ret) {s with t5:=(1:Int)})<|.nx {s with t25:=AA<|s.t25+1}) (.so (.exit 0) s)
def jY (s:NT):Prop:=s.t5=0/\s.t25=0/\s.t24=(M s.t23:Int)/\s.t24<=1000/\∀k:Nat,k<M s.t23->0<=gi s.t23 k/\gi s.t23 k<=80
def Xt (s:NT):Prop:=s.t5=0/\(0<=s.t25/\s.t25<=s.t24)/\s.t24=(M s.t23:Int)/\s.t24<=1000/\∀k:Nat,k<M s.t23->0<=gi s.t23 k/\gi s.t23 k<=80
def tA (s:NT):Nat:=(s.t24-s.t25).toNat
def aAV (x:Ex) (s s':NT):Prop:=x=.exit 0/\s'.t5=0
def akn:∀s,jY s->Xt s:=by
 rintro s ⟨h9,h0,h1,h2,h3⟩
 exact ⟨h9,A0,h1,h2,h3⟩
theorem ay9:Da Xt tA aAV vf:=by
 intro s hI;obtain ⟨h9,⟨h0,h1⟩,h2,h3,h5⟩:=hI;refine AH (λc1=>AH (λc2=>?_) λc2=>?_) λc1=>?_
 ·exfalso
  have c1:s.t25<s.t24:=A8
  have:=h5 s.t25.toNat A0
  rw [CL h0] at this;simp only [Cl,Aa] at c2;omega
 ·have c1:s.t25<s.t24:=A8
  rw [AJ (x:=s.t25+1)];exact ⟨⟨h9,⟨A8,A8⟩,h2,h3,h5⟩,by simp only [tA];omega⟩
 ·exact ⟨rfl,h9⟩
def RT:AS NT:=⟨0,65,[2,3,4,5,23,24,25],[],λs=>[.own 0 0,.own 1 0,.v<|.slice aj 0 0,s.t5,.xl A7 s.t23,s.t24,s.t25],λs=>[⟨[s.B9,s.BW,s.C0,s.BM,s.C1],28,.cl,X⟩,⟨[.xl A7 s.Cz],29,.cl,X⟩],λv b=>⟨AK v 3,B5 A7 v 4,AK v 5,AK v 6,AF Ad b 0 0,AF .str b 0 1,AF Ah b 0 2,AF Af b 0 3,AF Ai b 0 4,AF A7 b 1 0⟩,vf,λs r=> {s with t5:=r.t5,t25:=r.t25},λs=>s,λ_ s=>s,[.ret,.exit 0],jY,Xt,tA⟩
abbrev nG:=RT.run
abbrev aHT:=RT.At
def axd:Rq Xt vf:=by
 intro s hI;refine ⟨λc1=>⟨?_,λ_=>trivial,λ_=>trivial⟩,λ_=>trivial⟩
 ·(simp only [Aa] at c1;obtain ⟨h9,⟨h0,h1⟩,h2,h3⟩:=hI;omega)
def fX:List Bd:=[Om,eK]
def aRA:Aw:=kI fX<|l0 fX
def aPz:RT.Ok:={}
def aPS:RT.Pf (aAV):=⟨akn,λs h=>rfl,ay9,axd⟩
def apf:SA 0 aFn RT:=s1 aPz aPS fX aRA
def arL:Fi jY Xt aAV aHT nG:=AS.fin aPz aPS
def zO:Array Tmp×Code×Code:=((Ik<|f84.body.getD .skip)[0]?).getD (#[],.skip,.skip)
def ak7:Array Tmp:=zO.1
def ajc:Code:=zO.2.1
def akE:Code:=zO.2.2
structure Jd where
 B9:List Cd
 BW:List ByteArray
 C0:List Ko
 BM:List Ch
 C1:List Ba
 c:Int
 BY:List Cd
 GL:List ByteArray
 GJ:List Ko
 GN:List Ch
 GQ:List Ba
 b1:List Int
 b3:List (Int×Ra)
 b4:Int
 dQ:ByteArray
 (iH Ig fS fT dP nK oN:Int)
 st:LS
def vd (s:Jd):T (Rd Jd):=letI b:=gi s.b1 s.b4;letI d:=s.c.toNat<M s.b3;letI e:=Uc s.b3 s.c.toNat b;letI g:=M s.b3;letI h:=M s.B9;letI i:=Ac s.B9 s.c;letI k:=(Bf J s.Ig 4) !=0;letI m:=s.c.toNat<M e;letI a:=XA s.b3 s.c.toNat b;letI f:=Uc a s.c.toNat b;letI j:=s.c.toNat<M a;letI l:=s.c.toNat<M f;.br (an<|s.c>=0) (.ix s.c g<|.ix s.b4 (M s.b1)<|.br ((Bf J s.Ig 1) !=0) (.req d<|.req d<|.br ((Bf J s.Ig 2) !=0) (.req j<|.req j<|.br k (.req l<|.req l<|.ix s.c h<|.re g (Kl f s.c.toNat b)<|.nx {s with c:=i.2.1,b3:=Kl f s.c.toNat b})<|.ix s.c h<|.re g f<|.nx {s with c:=i.2.1,b3:=f})<|.br k (.req j<|.req j<|.ix s.c h<|.re g (Kl a s.c.toNat b)<|.nx {s with c:=i.2.1,b3:=Kl a s.c.toNat b})<|.ix s.c h<|.re g a<|.nx {s with c:=i.2.1,b3:=a})<|.br ((Bf J s.Ig 2) !=0) (.req d<|.req d<|.br k (.req m<|.req m<|.ix s.c h<|.re g (Kl e s.c.toNat b)<|.nx {s with c:=i.2.1,b3:=Kl e s.c.toNat b})<|.ix s.c h<|.re g e<|.nx {s with c:=i.2.1,b3:=e})<|.br k (.req d<|.req d<|.ix s.c h<|.re g (Kl s.b3 s.c.toNat b)<|.nx {s with c:=i.2.1,b3:=Kl s.b3 s.c.toNat b})<|.ix s.c h<|.rl s.b3<|.nx {s with c:=i.2.1})<|.rl s.b3<|.so (.exit 0) s
def UH (s:Jd):Prop:=s.st=.ready/\FU s.B9=U/\s.c<(M s.B9:Int)/\M s.b3=M s.B9/\(0<=s.b4/\s.b4<(M s.b1:Int))
def Xs (s:Jd):Prop:=s.st=.ready/\FU s.B9=U/\s.c<(M s.B9:Int)/\M s.b3=M s.B9/\(0<=s.b4/\s.b4<(M s.b1:Int))
def aBt (s:Jd):Nat:=(s.c+1).toNat
def aAT (x:Ex) (s s':Jd):Prop:=x=.exit 0/\s'.c<0
def akl:∀s,UH s->Xs s:=by
 exact λs h=>h
theorem ay7:Da Xs aBt aAT vd:=by
 intro s hI;obtain ⟨h0,h1,h2,h3,h4⟩:=hI;refine AH (λc1=>?_) λc1=>?_
 ·have c1:0<=s.c:=AX
  have:=QL h1 c1 h2
  exact AH (λ_=>AH (λ_=>AH (λ_=>⟨⟨h0,h1,AZ,Sh,h4⟩,Pq⟩) λ_=>⟨⟨h0,h1,AZ,Sh,h4⟩,Pq⟩) λ_=>AH (λ_=>⟨⟨h0,h1,AZ,Sh,h4⟩,Pq⟩) λ_=>⟨⟨h0,h1,AZ,Sh,h4⟩,Pq⟩) λ_=>AH (λ_=>AH (λ_=>⟨⟨h0,h1,AZ,Sh,h4⟩,Pq⟩) λ_=>⟨⟨h0,h1,AZ,Sh,h4⟩,Pq⟩) λ_=>AH (λ_=>⟨⟨h0,h1,AZ,Sh,h4⟩,Pq⟩) λ_=>⟨⟨h0,h1,AZ,A8,h4⟩,Pq⟩
 ·have c1:¬(0<=s.c):=AX
  exact V8
def Z4:AS Jd:=⟨7,18,[0,2,4],[],λs=>[.CK 6,xQ 5 [s.B9,s.BW,s.C0,s.BM,s.C1],s.c],λs=>[⟨[s.BY,s.GL,s.GJ,s.GN,s.GQ],28,.cl,X⟩,⟨[.xl A7 s.b1],29,.cl,X⟩,⟨[.os 3 3 0<|M s.b3],181,.cl,X⟩,⟨[],189,.vec (.pair A7 Am) s.b3,X⟩,⟨[s.b4],3,.cl,X⟩,⟨[.v<|.string s.dQ,s.iH,s.Ig,s.fS,s.fT,s.dP,s.nK,s.oN],97,.cl,X⟩,⟨[.junk,.junk,.junk,.own 1 0,.junk,.junk,.junk,.junk,.own 2 0,.own 4 0,.own 5 0,.junk,.junk,.junk,.junk,.junk,.junk,.junk,.junk,.junk,.junk,.junk,.junk,.junk,.junk,.junk,.junk,.junk,.junk,.junk,.junk,.junk,.junk,.junk,.junk,.junk,.junk,.junk,.junk,.junk,.junk,.junk,.junk,.junk,.junk,.junk,.junk,.junk,.junk,.junk,.junk,.junk,.junk,.junk,.junk,.junk,.junk,.junk,.junk,.junk,.junk,.junk,.junk,.junk,.junk],0,.Cc ak7 ajc akE s.st,X⟩],λv b=>⟨Ao Ad<|BQ (v.getD 1 .junk) 0,Ao .str<|BQ (v.getD 1 .junk) 1,Ao Ah<|BQ (v.getD 1 .junk) 2,Ao Af<|BQ (v.getD 1 .junk) 3,Ao Ai<|BQ (v.getD 1 .junk) 4,AK v 2,AF Ad b 0 0,AF .str b 0 1,AF Ah b 0 2,AF Af b 0 3,AF Ai b 0 4,AF A7 b 1 0,Ab (.pair A7 Am) b 3,Aj b 4 0,gSr<|B8 (CT b 5) 0,Aj b 5 1,Aj b 5 2,Aj b 5 3,Aj b 5 4,Aj b 5 5,Aj b 5 6,Aj b 5 7,.ready⟩,vd,λs r=> {r with B9:=s.B9,BW:=s.BW,C0:=s.C0,BM:=s.BM,C1:=s.C1,BY:=s.BY,GL:=s.GL,GJ:=s.GJ,GN:=s.GN,GQ:=s.GQ,b1:=s.b1,b4:=s.b4,dQ:=s.dQ,iH:=s.iH,Ig:=s.Ig,fS:=s.fS,fT:=s.fT,dP:=s.dP,nK:=s.nK,oN:=s.oN,st:=s.st},λs=> {s with st:=.ready},λx s=> {s with st:=(match x with| .exit 0=> .ready|_=> .ready)},[.exit 0],UH,Xs,aBt⟩
abbrev T9:=Z4.run
abbrev aHS:=Z4.At
def awF:Rq Xs vd:=by
 intro s hI;refine ⟨λc1=>⟨?_,?_,λc2=>⟨?_,?_,λc3=>⟨?_,?_,λc4=>⟨?_,?_,?_,?_,ak⟩,λc4=>⟨?_,?_,ak⟩⟩,λc3=>⟨λc5=>⟨?_,?_,?_,?_,ak⟩,λc5=>⟨?_,?_,ak⟩⟩⟩,λc2=>⟨λc6=>⟨?_,?_,λc7=>⟨?_,?_,?_,?_,ak⟩,λc7=>⟨?_,?_,ak⟩⟩,λc6=>⟨λc8=>⟨?_,?_,?_,?_,ak⟩,λc8=>⟨?_,A9,ak⟩⟩⟩⟩,λc1=>⟨A9,ak⟩⟩
 all_goals ((obtain ⟨h0,h1,h2,h3,h4⟩:=hI;simp only [Aa,M7] at c1;first|omega|(simp only [aBl,aBk,aBj];omega) |simp [aBl,aBk,aBj]))
def qy:Z4.Ok:={}
def rU:Z4.Pf (aAT):=⟨akl,λs h=>by
 obtain ⟨B9,BW,C0,BM,C1,c,BY,GL,GJ,GN,GQ,b1,b3,b4,dQ,iH,Ig,fS,fT,dP,nK,oN,st⟩:=s
 have e:=h.1
 subst e;rfl,ay7,awF⟩
def aG9:=s2 (b:=bN f166 0) qy rU fX aRA
def arJ:Fi UH Xs aAT aHS T9:=AS.fin qy rU
theorem anZ (s:Jd) (hE:UH s):(λs:Jd=>Gn s.B9 s.Ig (gi s.b1 s.b4) s.c s.b3) (T9 s)=(λs:Jd=>Gn s.B9 s.Ig (gi s.b1 s.b4) s.c s.b3) s:=by
 exact AS.KJ qy rU (λs:Jd=>Gn s.B9 s.Ig (gi s.b1 s.b4) s.c s.b3) (λs hI=>by
  obtain ⟨h0,h1,h2,h3,h4⟩:=hI
  have hp:=azm (ph:=s.Ig) (v:=gi s.b1 s.b4) (l:=s.b3) h1 h2
  refine AH (λc1=>?_) λc1=>rfl
  have c1:0<=s.c:=A8
  rw [AD c1,ah9 A0] at hp
  refine AH (λd1=>AH (λd2=>AH (λd4=>?_) λd4=>?_) λd2=>AH (λd4=>?_) λd4=>?_) (λd1=>AH (λd2=>AH (λd4=>?_) λd4=>?_) λd2=>AH (λd4=>?_) λd4=>?_)<;>
   (show Gn _ _ _ _ _=Gn _ _ _ _ _;rw [hp];simp only [d1,d2,d4,Br,I5,FA])) s hE
def arI (s:Jd) (hE:UH s):aHS s=.exit 0/\(T9 s).b3=Gn s.B9 s.Ig (gi s.b1 s.b4) s.c s.b3:=by
 have q3:=anZ s hE
 obtain ⟨s',hI,q1,q2⟩:=arJ s hE;refine ⟨q1,?_⟩
 have q3:Gn s.B9 s.Ig (gi s.b1 s.b4) (T9 s).c (T9 s).b3=Gn s.B9 s.Ig (gi s.b1 s.b4) s.c s.b3:=q3
 rw [<-q3];unfold Gn;rw [ldW,AE A0]
structure MW where
 t5:Int
 t41:List Ch
 (t42 t43:Int)
 B9:List Cd
 BW:List ByteArray
 C0:List Ko
 BM:List Ch
 C1:List Ba
 Cz:List Int
 b3:List (Int×Ra)
def aFm:=bN f84 1
def o5 (s:MW):Jd:=(⟨s.B9,s.BW,s.C0,s.BM,s.C1,(AG s.t41 s.t43).2.1,s.B9,s.BW,s.C0,s.BM,s.C1,s.Cz,s.b3,s.t43,(AG s.t41 s.t43).1,(AG s.t41 s.t43).2.1,(AG s.t41 s.t43).2.2.1,(AG s.t41 s.t43).2.2.2.1,(AG s.t41 s.t43).2.2.2.2.1,(AG s.t41 s.t43).2.2.2.2.2.1,(AG s.t41 s.t43).2.2.2.2.2.2.1,(AG s.t41 s.t43).2.2.2.2.2.2.2,.ready⟩:Jd)
def ve (s:MW):T (Rd MW):=
 .br (an<|s.t43<s.t42) (.ix s.t43 (M s.t41)<|.rl s.b3<|.req (Z4.q<|o5 s)<|.rl (T9<|o5 s).b3<|.nx {s with t43:=AA<|s.t43+1,b3:=(T9<|o5 s).b3}) (.rl s.b3<|.so (.exit 2) s)
def jW (s:MW):Prop:=s.t43=0/\(s.t42=(M s.t41:Int)/\s.t42<=1000/\FU s.B9=U/\atB s.B9 s.t41=U/\M s.Cz=M s.t41)/\s.b3=aq (M s.B9) (Ty.dflt<|.pair A7 Am)
def UD (s:MW):Prop:=(0<=s.t43/\s.t43<=s.t42)/\(s.t42=(M s.t41:Int)/\s.t42<=1000/\FU s.B9=U/\atB s.B9 s.t41=U/\M s.Cz=M s.t41)/\s.b3=JD s.B9 s.t41 s.Cz s.t43.toNat
def sv (s:MW):Nat:=(s.t42-s.t43).toNat
def aAU (x:Ex) (s s':MW):Prop:=x=.exit 2/\s'.b3=JD s'.B9 s'.t41 s'.Cz (M s'.t41)
def akm:∀s,jW s->UD s:=by
 rintro s ⟨h0,h1,h2⟩
 exact ⟨A0,h1,by rw [h2,h0];rfl⟩
def aQX (s:MW) (hI:UD s) (c1:s.t43<s.t42):UH (o5 s):=by
 obtain ⟨⟨h0,h1⟩,⟨h2,h3,h4,h5,h6⟩,h7⟩:=hI;refine ⟨rfl,h4,fU h5 h0 A0,?_,⟨h0,?_⟩⟩
 ·show M s.b3=_
  rw [h7];exact qI h4 h5 _ A0
 ·show s.t43<(M s.Cz:Int)
  omega
theorem ay8:Da UD sv aAU ve:=by
 intro s hI
 have hin:=λc1=>aQX s hI c1
 obtain ⟨⟨h0,h1⟩,⟨h2,h3,h4,h5,h6⟩,h7⟩:=hI;refine AH (λc1=>?_) λc1=>?_
 ·have c1:s.t43<s.t42:=A8
  obtain ⟨_,q⟩:=arI _<|hin c1;rw [AJ (x:=s.t43+1)];refine ⟨⟨⟨A8,A8⟩,⟨h2,h3,h4,h5,h6⟩,?_⟩,by simp only [sv];omega⟩
  rw [show (s.t43+1).toNat=s.t43.toNat+1 by omega,q]
  show Gn s.B9 (AG s.t41 s.t43).2.2.1 (gi s.Cz s.t43) (AG s.t41 s.t43).2.1 s.b3=Gn s.B9 (AG s.t41 (s.t43.toNat:Int)).2.2.1 (gi s.Cz (s.t43.toNat:Int)) (AG s.t41 (s.t43.toNat:Int)).2.1 (JD s.B9 s.t41 s.Cz s.t43.toNat)
  grind
 ·have c1:s.t42<=s.t43:=A8
  refine ⟨rfl,?_⟩
  grind
def RS:AS MW:=⟨0,65,[2,3,4,5,8,41,42,43],[],λs=>[.own 0 0,.own 1 0,.v<|.slice aj 0 0,s.t5,.own 2 0,s.t41,s.t42,s.t43],λs=>[⟨[s.B9,s.BW,s.C0,s.BM,s.C1],28,.cl,X⟩,⟨[.xl A7 s.Cz],29,.cl,X⟩,⟨[.os 3 3 0<|M s.b3],181,.cl,X⟩,⟨[],189,.vec (.pair A7 Am) s.b3,X⟩],λv b=>⟨AK v 3,B5 Af v 5,AK v 6,AK v 7,AF Ad b 0 0,AF .str b 0 1,AF Ah b 0 2,AF Af b 0 3,AF Ai b 0 4,AF A7 b 1 0,Ab (.pair A7 Am) b 3⟩,ve,λs r=> {r with t5:=s.t5,t41:=s.t41,t42:=s.t42,B9:=s.B9,BW:=s.BW,C0:=s.C0,BM:=s.BM,C1:=s.C1,Cz:=s.Cz},λs=>s,λ_ s=>s,[.exit 2],jW,UD,sv⟩
abbrev aCW:=RS.run
abbrev atS:=RS.At
theorem axc:Rq UD ve:=by
 intro s hI;refine ⟨λc1=>⟨?_,A9,?_,A9,ak⟩,λc1=>⟨A9,ak⟩⟩
 ·(obtain ⟨⟨h0,h1⟩,⟨h2,h3⟩,h4⟩:=hI;simp only [Aa] at c1;omega)
 ·exact ⟨aQX s hI A8,rfl,rfl⟩
def tt:List Bd:=[Om,eK]
def azU:Aw:=kI tt<|la 1 func166 aG9<|l0 tt
def aPy:RS.Ok:={}
def aPR:RS.Pf (aAU):=⟨akm,λs h=>rfl,ay8,axc⟩
def ape:SA 0 aFm RS:=s1 aPy aPR tt azU
def arK:Fi jW UD aAU atS aCW:=AS.fin aPy aPR
def J8 (cs:List Cd) (gs:List Ch) (am:List Int):List Ld:=if M am=M gs then JD cs gs am (M gs) else []
def JC (gs:List Ch) (am:List Int):Int:=if M am=M gs then 0 else 1
def aSS:List LV->T LV
 | .agg a::r=>s5 a λcs os ks gs bs=>(match r with
  | [.xl (.int J) am]=> .req (BA cs os ks gs bs=U/\(M am=M gs->∀k:Nat,k<M am->0<=gi am k/\gi am k<=80)) (.ok<|.AM [.xl (.pair A7 Am)<|J8 cs gs am,JC gs am])
  |_=> .no)
 |_=> .no
def tq:List Bd:=[Om,eK]
def azT:Aw:=kI tq<|la 1 func166 aG9<|l0 tq
def aaC:=vm (S:=aSS) func84 tq azT (L:=(λi=>if i=4 then RT.lp else if i=11 then RS.lp else Ak i)) (λb hb=>by
 rw [show BB _=[aFn,aFm] by kernel_rfl] at hb
 simp only [B7,Bu,Bt] at hb;rcases hb with rfl|rfl
 ·exact apf
 ·exact ape) (λargs lv h=>by
 unfold aSS at h;split at h
 case h_2=>cases h
 replace h:=IC h
 obtain ⟨cs,os,ks,gs,bs,rfl,h⟩:=h;split at h
 ·rename_i am
  refine Ap (letI e:=(M am:Int);letI f:=(M gs:Int);letI g:=(M cs:Int);letI b:=(nG (⟨0,am,e,0,cs,os,ks,gs,bs,am⟩:NT));letI d:=(aq g.toNat ((0:Int),((0:Int),(0:Int))));letI a:=(aCW (⟨b.t5,gs,f,0,cs,os,ks,gs,bs,am,d⟩:MW));.br ((!(BA cs os ks gs bs)) ||(e !=f)) (.ok<|.AM [.xl (.pair A7 Am) ([]:List<|Int×Ra),(1:Int)])<|.req (RT.q (⟨0,am,e,0,cs,os,ks,gs,bs,am⟩:NT))<|.br (Bj (aHT (⟨0,am,e,0,cs,os,ks,gs,bs,am⟩:NT))<|.ret) (.ok<|.AM [.xl (.pair A7 Am) ([]:List<|Int×Ra),b.t5])<|.rm 24 g<|.re g.toNat d<|.req (RS.q (⟨b.t5,gs,f,0,cs,os,ks,gs,bs,am,d⟩:MW))<|.rz a.b3<|.ok<|.AM [.xl (.pair A7 Am)<|(a.b3.drop 0).take<|M a.b3,(0:Int)]) ?_;obtain ⟨⟨hv,hr⟩,rfl⟩:=h
  by_cases hl:M am=M gs
  rotate_left
  ·refine ⟨λ_=>?_,λc=>?_⟩
   ·unfold J8 JC
    rw [AE hl,AE hl];rfl
   ·rw [hv] at c;simp at c;omega
  have hr:=hr hl
  unfold J8 JC;rw [AD hl,AD hl]
  have hb:=(D5.1 hv).1
  have hA:jY ⟨0,am,(M am:Int),0,cs,os,ks,gs,bs,am⟩:=⟨rfl,rfl,rfl,A8,hr⟩
  obtain ⟨_,_,q1,q5⟩:=arL _ hA
  have hB:jW ⟨(nG ⟨0,am,(M am:Int),0,cs,os,ks,gs,bs,am⟩).t5,gs,(M gs:Int),0,cs,os,ks,gs,bs,am,aq (M cs:Int).toNat ((0:Int),((0:Int),(0:Int)))⟩:=⟨rfl,⟨rfl,A8,nr hv,nt hv,hl⟩,by
   rw [Bx];rfl⟩
  obtain ⟨_,_,q6,q7⟩:=arK _ hB
  have q7:(aCW ⟨(nG ⟨0,am,(M am:Int),0,cs,os,ks,gs,bs,am⟩).t5,gs,(M gs:Int),0,cs,os,ks,gs,bs,am,aq (M cs:Int).toNat ((0:Int),((0:Int),(0:Int)))⟩).b3=JD cs gs am (M gs):=q7
  refine ⟨λc=>?_,λ_=>⟨⟨hA,rfl,rfl⟩,?_⟩⟩
  ·exfalso
   rw [hv,hl] at c
   simp at c
  ·rw [q1]
   refine ⟨λh=>An,λ_=>⟨A0,⟨rfl,AI⟩,⟨hB,rfl,rfl⟩,A0,?_⟩⟩
   show LV.AM _=LV.AM _
   rw [CP,EY,q7]
 ·cases h)
def zN:Array Tmp×Code×Code:=((Ik<|f61.body.getD .skip)[0]?).getD (#[],.skip,.skip)
def ab1:Array Tmp:=zN.1
def ab6:Code:=zN.2.1
def ab4:Code:=zN.2.2
structure Nx where
 (c t7 t8 t11:Int)
 BY:List Cd
 GL:List ByteArray
 GJ:List Ko
 GN:List Ch
 GQ:List Ba
 (Ie Is Iu:Int)
 b2:Bool
 b3:Int
 b4:List (Int×Ra)
 ND:List Cd
 NH:List ByteArray
 NC:List Ko
 NF:List Ch
 NP:List Ba
 st:LS
def aG7:=lN (bN f124 0) 0
def gF (s:Nx):T (Rd Nx):=letI a:=D6<|Ac s.BY s.c;letI b:=AA<|s.t11+1;letI d:=M s.BY;.br (an<|s.t11<3) (.ix s.c (M s.b4)<|.br (s.t11==0) (.ix s.c d<|.br (an<|(gx (e:=.pair A7 Am) s.b4 s.c).1>a) (.so (.ret) {s with Ie:=s.c,Is:=s.t11,Iu:=(gx (e:=.pair A7 Am) s.b4 s.c).1,b2:=U,b3:=(0:Int),st:=.done<|.ret})<|.nx {s with t11:=b})<|.br (s.t11==1) (.ix s.c d<|.br (an<|(gx (e:=.pair A7 Am) s.b4 s.c).2.1>a) (.so (.ret) {s with Ie:=s.c,Is:=s.t11,Iu:=(gx (e:=.pair A7 Am) s.b4 s.c).2.1,b2:=U,b3:=(0:Int),st:=.done<|.ret})<|.nx {s with t11:=b})<|.br (s.t11==2) (.ix s.c d<|.br (an<|(gx (e:=.pair A7 Am) s.b4 s.c).2.2>a) (.so (.ret) {s with Ie:=s.c,Is:=s.t11,Iu:=(gx (e:=.pair A7 Am) s.b4 s.c).2.2,b2:=U,b3:=(0:Int),st:=.done<|.ret})<|.nx {s with t11:=b})<|.no /-  -/)<|.so (.exit 2) s
def jM (s:Nx):Prop:=s.st=.ready/\s.t11=0/\(0<=s.c/\s.c<(M s.b4:Int))/\s.c<(M s.BY:Int)
def im (s:Nx):Prop:=s.st=.ready/\(0<=s.t11/\s.t11<=3)/\(0<=s.c/\s.c<(M s.b4:Int))/\s.c<(M s.BY:Int)
def dy (s:Nx):Nat:=(3-s.t11).toNat
def acJ (x:Ex) (s s':Nx):Prop:=True
def alG:∀s,jM s->im s:=by
 rintro s ⟨h,h0,h1⟩
 exact ⟨h,A0,h1⟩
theorem ai2:Da im dy acJ gF:=by
 intro s hI;obtain ⟨ht,h0,h1,h2⟩:=hI;refine AH (λc1=>?_) λc1=>?_
 ·refine AH (λc2=>?_) (λc2=>?_)
  ·refine AH (λc3=>?_) (λc3=>?_)
   ·trivial
   ·exact aL7
  ·refine AH (λc3=>?_) (λc3=>?_)
   ·refine AH (λc4=>?_) (λc4=>?_)
    ·trivial
    ·exact aL7
   ·refine AH (λc4=>?_) (λc4=>?_)
    ·refine AH (λc5=>?_) (λc5=>?_)
     ·trivial
     ·have c1:s.t11<3:=AX
      rw [AJ (x:=s.t11+1)];exact ⟨⟨ht,⟨A8,A8⟩,h1,h2⟩,by simp only [dy];omega⟩
    ·exfalso
     simp only [Aa,CU,ne_eq] at*;omega
 ·trivial
def R4:AS Nx:=⟨7,22,[0,3,7,8,11],[],λs=>[.CK 6,s.c,s.t7,s.t8,s.t11],λs=>[⟨[s.BY,s.GL,s.GJ,s.GN,s.GQ],28,.cl,X⟩,⟨[s.Ie,s.Is,s.Iu],140,.cl,X⟩,⟨[s.b2],4,.cl,X⟩,⟨[s.b3],51,.cl,X⟩,⟨[.xl (.pair A7 Am) s.b4],181,.cl,X⟩,⟨[s.ND,s.NH,s.NC,s.NF,s.NP],28,.cl,X⟩,⟨[.junk,.junk,.own 0 0,.junk,.own 1 0,.own 2 0,.own 3 0,.own 4 0,.junk,.v<|.tuple #[],.v<|.tuple #[],.junk,.junk,.junk,.junk,.junk,.junk,.junk,.junk,.junk,.junk,.junk,.v<|.tuple #[],.v<|.tuple #[],.v<|.tuple #[],.v<|.tuple #[],.v<|.tuple #[],.v<|.tuple #[],.v<|.tuple #[],.v<|.tuple #[],.v<|.tuple #[],.v<|.tuple #[],.v<|.tuple #[],.v<|.tuple #[],.v<|.tuple #[],.v<|.tuple #[],.v<|.tuple #[],.v<|.tuple #[],.v<|.tuple #[],.v<|.tuple #[],.v<|.tuple #[],.v<|.tuple #[],.v<|.tuple #[],.v<|.tuple #[],.v<|.tuple #[],.v<|.tuple #[],.junk],0,.Cc ab1 ab6 ab4 s.st,X⟩],λv b=>⟨AK v 1,AK v 2,AK v 3,AK v 4,AF Ad b 0 0,AF .str b 0 1,AF Ah b 0 2,AF Af b 0 3,AF Ai b 0 4,Aj b 1 0,Aj b 1 1,Aj b 1 2,Kw b 2 0,Aj b 3 0,AF (.pair A7 Am) b 4 0,AF Ad b 5 0,AF .str b 5 1,AF Ah b 5 2,AF Af b 5 3,AF Ai b 5 4,.ready⟩,gF,λs r=> {r with c:=s.c,t7:=s.t7,t8:=s.t8,BY:=s.BY,GL:=s.GL,GJ:=s.GJ,GN:=s.GN,GQ:=s.GQ,b4:=s.b4,ND:=s.ND,NH:=s.NH,NC:=s.NC,NF:=s.NF,NP:=s.NP},λs=> {s with st:=.ready},λx s=> {s with st:=(match x with| .ret=>(.done<|.ret) | .exit 2=> .ready|_=> .ready)},[.ret,.exit 2],jM,im,dy⟩
abbrev MQ:=R4.run
abbrev dJ:=R4.At
def X6:List Bd:=[aaC,qn]
def uF:Aw:=kI X6<|l0 X6
def axL:Rq im gF:=by
 intro s hI;refine ⟨λc1=>⟨?_,λc2=>⟨?_,λ_=>trivial,λ_=>trivial⟩,λc2=>⟨λc4=>⟨?_,λ_=>trivial,λ_=>trivial⟩,λc4=>⟨λc6=>⟨?_,λ_=>trivial,λ_=>trivial⟩,λc6=>?_⟩⟩⟩,λ_=>trivial⟩
 iterate 4 · (obtain ⟨ht,h0,h1,h2⟩:=hI;omega)
 ·(exfalso;obtain ⟨ht,h0,h1,h2⟩:=hI;simp only [Aa,CU,ne_eq] at*;omega)
def aQl:R4.Ok:={}
def aPL:R4.Pf (acJ):=⟨alG,λs h=>by
 obtain ⟨c,t7,t8,t11,BY,GL,GJ,GN,GQ,Ie,Is,Iu,b2,b3,b4,ND,NH,NC,NF,NP,st⟩:=s
 have e:=h.1
 subst e;rfl,ai2,axL⟩
def apQ:SA 7 aG7 R4:=s2 aQl aPL X6 uF
def atj:Rs jM dJ MQ (λs:Nx=>Lw (D6<|Ac s.BY s.c) (gLi s.b4 s.c) s.t11) (λx s' (v:Bool)=>(x=.ret/\v=X/\s'.b2=U/\s'.b3=0)\/(x=.exit 2/\v=U)):=DN aQl aPL (λs hI=>by
  show DO _ _ ((gF s).rd s)
  obtain ⟨ht,h0,h1,h2⟩:=hI;refine AH (λc1=>?_) λc1=>?_
  ·refine AH (λc2=>?_) (λc2=>?_)
   ·refine AH (λc3=>?_) (λc3=>?_)
    ·refine .inl ⟨rfl,?_,rfl,rfl⟩
     have c3:(gLi s.b4 s.c).1>D6 (Ac s.BY s.c):=DY c3
     exact xO
    ·have c1:s.t11<3:=AX
     rw [AJ (x:=s.t11+1)]
     have c3:¬(gLi s.b4 s.c).1>D6 (Ac s.BY s.c):=JN c3
     exact xY
   ·refine AH (λc3=>?_) (λc3=>?_)
    ·refine AH (λc4=>?_) (λc4=>?_)
     ·refine .inl ⟨rfl,?_,rfl,rfl⟩
      have c4:(gLi s.b4 s.c).2.1>D6 (Ac s.BY s.c):=DY c4
      exact xO
     ·have c1:s.t11<3:=AX
      rw [AJ (x:=s.t11+1)]
      have c4:¬(gLi s.b4 s.c).2.1>D6 (Ac s.BY s.c):=JN c4
      exact xY
    ·refine AH (λc4=>?_) (λc4=>?_)
     ·refine AH (λc5=>?_) (λc5=>?_)
      ·refine .inl ⟨rfl,?_,rfl,rfl⟩
       have c5:(gLi s.b4 s.c).2.2>D6 (Ac s.BY s.c):=DY c5
       exact xO
      ·have c1:s.t11<3:=AX
       rw [AJ (x:=s.t11+1)]
       have c5:¬(gLi s.b4 s.c).2.2>D6 (Ac s.BY s.c):=JN c5
       exact xY
     ·exfalso
      simp only [Aa,CU,ne_eq] at*;omega
  ·have c1:3<=s.t11:=AX
   refine .inr ⟨rfl,?_⟩;unfold Lw;simp only [AY,Cl,Aa];omega)
structure KH where
 (t7 t8:Int)
 BY:List Cd
 GL:List ByteArray
 GJ:List Ko
 GN:List Ch
 GQ:List Ba
 (Ie Is Iu:Int)
 b2:Bool
 b3:Int
 b4:List (Int×Ra)
 ND:List Cd
 NH:List ByteArray
 NC:List Ko
 NF:List Ch
 NP:List Ba
 st:LS
def aFR:=bN f124 0
def Ii (s:KH):Nx:=(⟨s.t8,s.t7,s.t8,0,s.BY,s.GL,s.GJ,s.GN,s.GQ,s.Ie,s.Is,s.Iu,s.b2,s.b3,s.b4,s.ND,s.NH,s.NC,s.NF,s.NP,.ready⟩:Nx)
def zI (s:KH):T (Rd KH):=
 .br (an<|s.t8<s.t7) (.req (R4.q<|Ii s)<|.br (Bj (dJ<|Ii s)<|.ret) (.so (.ret) {s with Ie:=(MQ<|Ii s).Ie,Is:=(MQ<|Ii s).Is,Iu:=(MQ<|Ii s).Iu,b2:=(MQ<|Ii s).b2,b3:=(MQ<|Ii s).b3,st:=.done<|.ret})<|.nx {s with t8:=AA<|s.t8+1,Ie:=(MQ<|Ii s).Ie,Is:=(MQ<|Ii s).Is,Iu:=(MQ<|Ii s).Iu,b2:=(MQ<|Ii s).b2,b3:=(MQ<|Ii s).b3}) (.so (.exit 0) s)
def jO (s:KH):Prop:=s.st=.ready/\s.t8=0/\s.t7=(M s.BY:Int)/\s.t7<=1000/\M s.b4=M s.BY
def Xe (s:KH):Prop:=s.st=.ready/\(0<=s.t8/\s.t8<=s.t7)/\s.t7=(M s.BY:Int)/\s.t7<=1000/\M s.b4=M s.BY
def sU (s:KH):Nat:=(s.t7-s.t8).toNat
def acK (x:Ex) (s s':KH):Prop:=True
def alH:∀s,jO s->Xe s:=by
 rintro s ⟨h,h0,h1⟩
 exact ⟨h,A0,h1⟩
def aRj (s:KH) (hI:Xe s) (c1:s.t8<s.t7):jM (Ii s):=by
 obtain ⟨ht,⟨h0,h1⟩,h2,h3,h4⟩:=hI;exact ⟨rfl,rfl,⟨h0,by show s.t8<(M s.b4:Int);omega⟩,by show s.t8<(M s.BY:Int);omega⟩
theorem ai3:Da Xe sU acK zI:=by
 intro s hI;obtain ⟨ht,⟨h0,h1⟩,h2,h3,h4⟩:=hI;refine AH (λc1=>AH (λc2=>trivial) λc2=>?_) λc1=>trivial
 have c1:s.t8<s.t7:=A8
 rw [AJ (x:=s.t8+1)];exact ⟨⟨ht,⟨A8,A8⟩,h2,h3,h4⟩,by simp only [sU];omega⟩
def UQ:AS KH:=⟨7,22,[0,7,8],[],λs=>[.CK 6,s.t7,s.t8],λs=>[⟨[s.BY,s.GL,s.GJ,s.GN,s.GQ],28,.cl,X⟩,⟨[s.Ie,s.Is,s.Iu],140,.cl,X⟩,⟨[s.b2],4,.cl,X⟩,⟨[s.b3],51,.cl,X⟩,⟨[.xl (.pair A7 Am) s.b4],181,.cl,X⟩,⟨[s.ND,s.NH,s.NC,s.NF,s.NP],28,.cl,X⟩,⟨[.junk,.junk,.own 0 0,.junk,.own 1 0,.own 2 0,.own 3 0,.own 4 0,.junk,.v<|.tuple #[],.v<|.tuple #[],.junk,.junk,.junk,.junk,.junk,.junk,.junk,.junk,.junk,.junk,.junk,.v<|.tuple #[],.v<|.tuple #[],.v<|.tuple #[],.v<|.tuple #[],.v<|.tuple #[],.v<|.tuple #[],.v<|.tuple #[],.v<|.tuple #[],.v<|.tuple #[],.v<|.tuple #[],.v<|.tuple #[],.v<|.tuple #[],.v<|.tuple #[],.v<|.tuple #[],.v<|.tuple #[],.v<|.tuple #[],.v<|.tuple #[],.v<|.tuple #[],.v<|.tuple #[],.v<|.tuple #[],.v<|.tuple #[],.v<|.tuple #[],.v<|.tuple #[],.v<|.tuple #[],.junk],0,.Cc ab1 ab6 ab4 s.st,X⟩],λv b=>⟨AK v 1,AK v 2,AF Ad b 0 0,AF .str b 0 1,AF Ah b 0 2,AF Af b 0 3,AF Ai b 0 4,Aj b 1 0,Aj b 1 1,Aj b 1 2,Kw b 2 0,Aj b 3 0,AF (.pair A7 Am) b 4 0,AF Ad b 5 0,AF .str b 5 1,AF Ah b 5 2,AF Af b 5 3,AF Ai b 5 4,.ready⟩,zI,λs r=> {r with t7:=s.t7,BY:=s.BY,GL:=s.GL,GJ:=s.GJ,GN:=s.GN,GQ:=s.GQ,b4:=s.b4,ND:=s.ND,NH:=s.NH,NC:=s.NC,NF:=s.NF,NP:=s.NP},λs=> {s with st:=.ready},λx s=> {s with st:=(match x with| .ret=>(.done<|.ret) | .exit 0=> .ready|_=> .ready)},[.ret,.exit 0],jO,Xe,sU⟩
abbrev bg:=UQ.run
abbrev cg:=UQ.At
theorem axM:Rq Xe zI:=by
 intro s hI;refine ⟨λc1=>⟨?_,λ_=>trivial,λ_=>trivial⟩,λ_=>trivial⟩
 ·exact ⟨aRj s hI A8,rfl,rfl⟩
def aQm:UQ.Ok:={}
def aPM:UQ.Pf (acK):=⟨alH,λs h=>by
 obtain ⟨t7,t8,BY,GL,GJ,GN,GQ,Ie,Is,Iu,b2,b3,b4,ND,NH,NC,NF,NP,st⟩:=s
 have e:=h.1
 subst e;rfl,ai3,axM⟩
def apS:SA 7 aFR UQ:=AS.snd aQm aPM (GM (Γ:=X6) (K:=uF) (L:=(Lp (λi=>if i=4 then R4.lp else Ak i))) (gk X6) uF.h aFR (λb hb=>by
 rw [show BB _=[aG7] by kernel_rfl] at hb
 simp only [B7,Bu,Bt] at hb;subst hb;exact apQ)) λs=>AT
theorem atm:Rs jO cg bg (λs:KH=>((au<|M s.BY).drop s.t8.toNat).all λo=>ckO (D6<|Ac s.BY o)<|Dn s.b4 o) (λx s' (v:Bool)=>(x=.ret/\v=X/\s'.b2=U/\s'.b3=0)\/(x=.exit 0/\v=U)):=DN aQm aPM (λs hI=>by
  have hin:=λc1=>aRj s hI c1
  obtain ⟨ht,⟨h0,h1⟩,h2,h3,h4⟩:=hI;refine AH (λc1=>?_) λc1=>?_
  ·have c1:s.t8<s.t7:=AX
   have q:=atj _<|hin c1
   have e:((au<|M s.BY).drop s.t8.toNat).all (λo=>ckO (D6<|Ac s.BY o)<|Dn s.b4 o)=(Lw (D6<|Ac s.BY s.t8) (gLi s.b4 s.t8) 0&&((au<|M s.BY).drop (s.t8+1).toNat).all (λo=>ckO (D6<|Ac s.BY o)<|Dn s.b4 o)):=by
    rw [SK D4,IW,kE,show (s.t8+1).toNat=s.t8.toNat+1 by omega,CL h0,alF]
    rfl
   refine AH (λc2=>?_) λc2=>?_
   ·rcases q with ⟨q1,q2,q3,q4⟩ |⟨q1,q2⟩
    ·refine .inl ⟨rfl,?_,q3,q4⟩
     rw [e]
     have q2:Lw (D6<|Ac s.BY s.t8) (gLi s.b4 s.t8) 0=false:=q2
     grind
    ·rw [show dJ (Ii s)=_ from q1] at c2
     cases c2
   ·rcases q with ⟨q1,q2,q3,q4⟩ |⟨q1,q2⟩
    ·rw [show dJ (Ii s)=_ from q1] at c2
     cases c2
    ·show List.all _ _=List.all _ _
     rw [e]
     have q2:Lw (D6<|Ac s.BY s.t8) (gLi s.b4 s.t8) 0=true:=q2
     rw [q2,EH,AJ (x:=s.t8+1)]
  ·have c1:s.t7<=s.t8:=AX
   refine .inr ⟨rfl,?_⟩;rw [En D4];rfl)
def vk1 (cs:List Cd) (os:List ByteArray) (ks:List Ko) (gs:List Ch) (bs:List Ba) (am:List Int):Int:=if (an (M am=M gs)&&Bj (cg ⟨(M cs:Int),0,cs,os,ks,gs,bs,0,0,0,X,0,J8 cs gs am,cs,os,ks,gs,bs,.ready⟩) (.ret))=U then (bg ⟨(M cs:Int),0,cs,os,ks,gs,bs,0,0,0,X,0,J8 cs gs am,cs,os,ks,gs,bs,.ready⟩).Ie else 0
def vk2 (cs:List Cd) (os:List ByteArray) (ks:List Ko) (gs:List Ch) (bs:List Ba) (am:List Int):Int:=if (an (M am=M gs)&&Bj (cg ⟨(M cs:Int),0,cs,os,ks,gs,bs,0,0,0,X,0,J8 cs gs am,cs,os,ks,gs,bs,.ready⟩) (.ret))=U then (bg ⟨(M cs:Int),0,cs,os,ks,gs,bs,0,0,0,X,0,J8 cs gs am,cs,os,ks,gs,bs,.ready⟩).Is else 0
def vk3 (cs:List Cd) (os:List ByteArray) (ks:List Ko) (gs:List Ch) (bs:List Ba) (am:List Int):Int:=if (an (M am=M gs)&&Bj (cg ⟨(M cs:Int),0,cs,os,ks,gs,bs,0,0,0,X,0,J8 cs gs am,cs,os,ks,gs,bs,.ready⟩) (.ret))=U then (bg ⟨(M cs:Int),0,cs,os,ks,gs,bs,0,0,0,X,0,J8 cs gs am,cs,os,ks,gs,bs,.ready⟩).Iu else 0
def aJA:List LV->T LV
 | [.agg [.xl (.pair .str (.pair (.int J) (.pair (.int J) (.pair (.int J) (.pair (.pair (.int J) (.int J)) (.pair (.int J) (.pair (.int J) (.pair (.int J) (.pair (.int J) (.int J)))))))))) cs,.xl (.str) os,.xl (.pair .str (.pair (.int J) (.pair (.int J) (.int J)))) ks,.xl (.pair .str (.pair (.int J) (.pair (.int J) (.pair (.int J) (.pair (.int J) (.pair (.int J) (.pair (.int J) (.int J)))))))) gs,.xl (.pair .str (.int J)) bs],.xl (.int J) am]=> .req (BA cs os ks gs bs=U/\(M am=M gs->∀k:Nat,k<M am->0<=gi am k/\gi am k<=80)) (.tu #[.agg #[vk1 cs os ks gs bs am,vk2 cs os ks gs bs am,vk3 cs os ks gs bs am],.bool<|an (M am=M gs)&&!E0 cs gs am,JC gs am])
 |_=> .no
def tn:List Bd:=[aaC,qn]
def azS:Aw:=kI tn<|la 1 func124 apS<|l0 tn
def WT:=vo (S:=aJA) func61 tn azS (λargs lv h=>by
 unfold aJA at h;split at h
 ·rename_i cs os ks gs bs am
  refine Ap (letI b:=(M cs:Int);letI d:=J8 cs gs am;letI a:=(bg (⟨b,0,cs,os,ks,gs,bs,0,0,0,X,0,d,cs,os,ks,gs,bs,.ready⟩:KH));.req (BA cs os ks gs bs=U/\(M am=M gs->∀k:Nat,k<M am->0<=gi am k/\gi am k<=80))<|.br ((JC gs am) !=0) (.tu #[.agg #[(0:Int),(0:Int),(0:Int)],X,(1:Int)])<|.req (UQ.q (⟨b,0,cs,os,ks,gs,bs,0,0,0,X,0,d,cs,os,ks,gs,bs,.ready⟩:KH))<|.br (Bj (cg (⟨b,0,cs,os,ks,gs,bs,0,0,0,X,0,d,cs,os,ks,gs,bs,.ready⟩:KH))<|.ret) (.tu #[.agg #[a.Ie,a.Is,a.Iu],a.b2,a.b3])<|.tu #[.agg #[(0:Int),(0:Int),(0:Int)],X,(0:Int)]) ?_;obtain ⟨hq,rfl⟩:=h
  have hv:=hq.1
  have hb:=(D5.1 hv).1
  refine ⟨hq,λc=>?_,λc=>?_⟩
  ·have hl:¬(M am)=M gs:=λh=>by unfold JC at c;rw [AD h] at c;cases c
   unfold vk1 vk2 vk3 JC;simp only [AE hl,I9 hl,PZ,I5,FA];rfl
  have hl:M am=M gs:=by
   unfold JC at c;split at c
   ·assumption
   ·cases c
  have hX:J8 cs gs am=JD cs gs am (M gs):=AD hl
  have hY:JC gs am=0:=AD hl
  rw [hY,Cq hl,EH]
  have hE:jO ⟨(M cs:Int),0,cs,os,ks,gs,bs,0,0,0,X,0,(J8 cs gs am),cs,os,ks,gs,bs,.ready⟩:=⟨rfl,rfl,rfl,aN0,by show M (J8 cs gs am)=M cs;rw [hX];exact qI (nr hv) (nt hv) _<|Ax _⟩
  refine ⟨⟨hE,rfl,rfl⟩,?_⟩
  have e:E0 cs gs am=((au<|M cs).drop (0:Int).toNat).all (λo=>ckO (D6<|Ac cs o)<|Dn (J8 cs gs am) o):=by rw [hX];rfl
  rcases atm _ hE with ⟨q1,q2,q3,q4⟩ |⟨q1,q2⟩
  ·have q2:E0 cs gs am=false:=e.trans q2
   unfold vk1 vk2 vk3;simp only [Cq hl,EH];rw [q1,q3,q4,q2];exact ⟨λ_=>rfl,λh=>An⟩
  ·have q2:E0 cs gs am=true:=e.trans q2
   unfold vk1 vk2 vk3;simp only [Cq hl,EH];rw [q1,q2];exact ⟨λh=>An,λ_=>rfl⟩
 ·cases h)
def qV {cs:List Cd}{os:List ByteArray}{ks:List Ko}{gs:List Ch}{bs:List Ba}(hs:BA cs os ks gs bs=U) {k:Nat}(hk:k<M (Bp gs)):0<=gi (Bp gs) k/\gi (Bp gs) k<=80:=by
 have hl:M (Bp gs)=M gs:=Ih
 rw [show gi (Bp gs) (k:Int)=Cp (AG gs k) from OW A0 A0]
 have:=Q6 hs (c:=(k:Int)) A0 A0
 unfold Gl at this;simp only [AY] at this
 have:=dz this.2.2
 omega
structure Oy where
 m:List Ch
 (k i:Int)
 out:List Int
def aEk:=bN f62 0
def vP (s:Oy):T (Rd Oy):=letI a:=s.out.set s.i.toNat (AG s.m s.i).2.2.2.2.2.2.1;.br (an<|s.i<s.k) (.ix s.i (M s.m)<|.ik s.i (M s.out)<|.re (M s.out) a<|.nx {s with i:=AA<|s.i+1,out:=a})<|.rl s.out<|.so (.exit 0) s
def iO (s:Oy):Prop:=s.i=0/\s.k=(M s.m:Int)/\s.k<=1000/\M s.out=M s.m/\(∀j,0<=j->j<s.k->gi s.out j=0)/\True
def Xi (s:Oy):Prop:=(0<=s.i/\s.i<=s.k)/\s.k=(M s.m:Int)/\s.k<=1000/\M s.out=M s.m/\(∀j,0<=j->j<s.k->gi s.out j=if j<s.i then Cp (AG s.m j) else 0)/\True
def tm (s:Oy):Nat:=(s.k-s.i).toNat
def aAJ (x:Ex) (s s':Oy):Prop:=x=.exit 0/\s'.out=H5 (M s'.m) (λj=>Cp<|AG s'.m j)
theorem ajp:∀s,iO s->Xi s:=by
 exact Sa
theorem axD:Da Xi tm aAJ vP:=by
 intro s hI;obtain ⟨⟨h0,h1⟩,h2,h3,h4,h5,h6⟩:=hI;refine AH (λc1=>?_) λc1=>?_
 ·have c1:s.i<s.k:=AX
  rw [AJ (x:=s.i+1)];refine ⟨⟨⟨A8,A8⟩,h2,h3,A8,λj j0 j1=>?_,h6⟩,by simp only [tm];omega⟩
  simp only;rw [It h0 Zy j0];exact kX
 ·exact Zd
def RB:AS Oy:=⟨0,25,[3,11,12,13],[],λs=>[.os 0 1 0<|M s.out,s.m,s.k,s.i],λs=>[bV 3 A7 s.out],λv b=>⟨B5 Af v 1,AK v 2,AK v 3,Ab A7 b 0⟩,vP,λs r=> {r with m:=s.m,k:=s.k},λs=>s,λ_ s=>s,[.exit 0],iO,Xi,tm⟩
abbrev aCV:=RB.run
abbrev atG:=RB.At
def awc:Rq Xi vP:=by
 exact xB
def aQz:List Bd:=[]
def aPs:RB.Ok:={}
def aOY:RB.Pf (aAJ):=⟨ajp,λs h=>rfl,axD,awc⟩
def aqG:SA 0 aEk RB:=s1 aPs aOY aQz kN
def aqX:Fi iO Xi aAJ atG aCV:=AS.fin aPs aOY
def aIp:List LV->T LV
 | .agg a::r=>s5 a λcs os ks gs bs=>(match r with
  | []=> .req ((M gs:Int)<=1000) (.ok<|.xl A7<|Bp gs)
  |_=> .no)
 |_=> .no
def eI:=vm (S:=aIp) func62 aQz kN (L:=(λi=>if i=3 then RB.lp else Ak i)) (λb hb=>by
 rw [show BB _=[aEk] by kernel_rfl] at hb
 simp only [B7,Bu,Bt] at hb;subst hb;exact aqG) (λargs lv h=>by
 unfold aIp at h;split at h
 case h_2=>cases h
 replace h:=IC h
 obtain ⟨cs,os,ks,gs,bs,rfl,h⟩:=h;split at h
 ·refine Ap (letI c:=(M gs:Int);letI a:=(aq c.toNat (0:Int));letI b:=(aCV (⟨gs,c,0,a⟩:Oy));.rm 8 c<|.re c.toNat a<|.req (RB.q (⟨gs,c,0,a⟩:Oy))<|.rz b.out<|.ok<|.xl A7<|(b.out.drop 0).take<|M b.out) ?_
  obtain ⟨hn,rfl⟩:=h
  have hE:iO ⟨gs,(M gs:Int),0,aq (M gs:Int).toNat 0⟩:=⟨rfl,rfl,hn,AI,λj _ _=>LG,ak⟩
  obtain ⟨_,_,q1,q2⟩:=aqX _ hE
  have q2:(aCV ⟨gs,(M gs:Int),0,aq (M gs:Int).toNat 0⟩).out=Bp gs:=q2
  refine ⟨A0,⟨rfl,AI⟩,⟨hE,rfl,rfl⟩,A0,?_⟩
  show LV.xl _ _=_
  rw [CP,EY,q2]
 ·cases h)
def aIl:List LV->T LV
 | .agg a::r=>s5 a λcs os ks gs bs=>(match r with
  | []=> .req (BA cs os ks gs bs=U) (.ok<|.v<|.bool<|!E0 cs gs (Bp gs))
  |_=> .no)
 |_=> .no
def agt:List Bd:=[WT,eI]
def eG:=vo (S:=aIl) func26 agt kN (λargs lv h=>by
 unfold aIl at h;split at h
 case h_2=>cases h
 replace h:=IC h
 obtain ⟨cs,os,ks,gs,bs,rfl,h⟩:=h;split at h
 ·refine Ap (.req ((M gs:Int)<=1000)<|.req (BA cs os ks gs bs=U/\(M (Bp gs)=M gs->∀k:Nat,k<M (Bp gs)->0<=gi (Bp gs) k/\gi (Bp gs) k<=80))<|.ok<|.v<|.bool<|((JC gs<|Bp gs)==0)&&(an (M (Bp gs)=M gs)&&!E0 cs gs (Bp gs))) ?_
  obtain ⟨hs,rfl⟩:=h
  have hg:=(D5.1 hs).1
  have hl:M (Bp gs)=M gs:=Ih
  have hY:JC gs (Bp gs)=0:=AD hl
  refine ⟨A0,⟨hs,λ_ k hk=>qV hs hk⟩,?_⟩
  rw [hY,Cq hl];rfl
 ·cases h)
def aJe:List LV->T LV
 | [.v (.agg ⟨[.string nm,Y J at_,Y J ph,Y J mn,Y J mx,Y J st,Y J fb,Y J ow]⟩),.v (.agg ⟨[Y J sp,Y J sa,Y J sl,.bool sw]⟩)]=> .ok (sV (nm,at_,ph,mn,mx,st,fb,ow) (sp,sa,sl,sw))
 |_=> .no
def alu:List Bd:=[WI,cQ,aa4]
def aJv:=vo (S:=aJe) func98 alu kN (λargs lv h=>by
 unfold aJe at h;split at h
 ·rename_i nm at_ ph mn mx st fb ow sp sa sl sw
  refine Ap (.br (!(IT ph mn mx st fb)) (.ok X)<|.br ((sp==0)&&((sa==0)&&((sl==0)&&(sw==X)))) (.ok U)<|.ok<|.v<|.bool<|(inB sp (0:Int) (5:Int))&&((inB sl (0:Int) (1000000:Int))&&((inB sa (0:Int) mx)&&(if sl !=0 then (!sw) ||(sp==5) else (sa==0)&&((!sw) ||(sp==5)))))) ?_
  obtain rfl:=h;refine ⟨λh1=>?_,λh1=>⟨λh2=>?_,λh2=>?_⟩⟩
  all_goals refine Az (λz=>LV.v<|.bool z) ?_
  ·simp at h1;simp [sV,h1]
  ·simp at h1 h2
   obtain ⟨rfl,rfl,rfl,rfl⟩:=h2
   have:=aH7.1 h1
   rw [Sd,aOC]
   simp [h1];omega
  ·simp at h1
   unfold sV;simp only;rw [h1]
   by_cases hl:sl=0
   ·simp [hl]
   ·have:(sl !=0)=true:=lY
    simp [this]
 ·cases h)
def aSk:List LV->T LV
 | [.v (.agg ⟨[.string nm,Y J at_,Y J ph,Y J mn,Y J mx,Y J st,Y J fb,Y J ow]⟩),.v (.agg ⟨[Y J ek,Y J en,Y J em]⟩)]=> .req (ek≠0) (.ok<|evV mx ek en em)
 |_=> .no
def alr:List Bd:=[cQ]
def aiA:=vo (S:=aSk) func112 alr kN (λargs lv h=>by
 unfold aSk at h;split at h
 ·rename_i nm at_ ph mn mx st fb ow ek en em
  refine Ap (.br (ek==4) (.ok<|inB en (0:Int) (1:Int))<|.br (ek==6) (.ok<|inB en (0:Int) (2:Int))<|.br (ek==7) (.br (!(inB em (1:Int) (1000000:Int))) (.ok X)<|.ok<|inB en (0:Int) mx)<|.br (ek==0) (.ok<|inB en (0:Int) mx)<|.ok U) ?_;obtain ⟨h0,rfl⟩:=h;refine ⟨λh1=>?_,λh1=>⟨λh2=>?_,λh2=>⟨λh3=>⟨λh4=>?_,λh4=>?_⟩,λh3=>⟨λh4=>?_,λh4=>?_⟩⟩⟩⟩
  all_goals refine Az (λz=>LV.v<|.bool z) ?_
  all_goals simp_all [evV]
 ·cases h)
def aJX:List LV->T LV
 | [.v (.agg ⟨[Y J sp,Y J sa,Y J sl,.bool sw]⟩),.v (.agg ⟨[Y J ek,Y J en,Y J em]⟩)]=> .ok (.v<|.agg #[dcP sp sw ek en,sa,sl,dcW sw ek en])
 |_=> .no
def alq:List Bd:=[]
def av2:=vo (S:=aJX) func113 alq kN (λargs lv h=>by
 unfold aJX at h;split at h
 ·rename_i sp sa sl sw ek en em
  refine Ap (.br (ek==4) (.br (en==1) (.ok<|.v<|.agg #[(3:Int),sa,sl,sw])<|.ok<|.v<|.agg #[(5:Int),sa,sl,sw])<|.br (ek==6) (.br (en==0) (.ok<|.v<|.agg #[(1:Int),sa,sl,.bool<|en==1])<|.ok<|.v<|.agg #[(5:Int),sa,sl,.bool<|en==1])<|.br (ek==2) (.br (!sw) (.ok<|.v<|.agg #[(0:Int),sa,sl,sw])<|.ok<|.v<|.agg #[sp,sa,sl,sw])<|.br (ek==9) (.br (!sw) (.ok<|.v<|.agg #[(1:Int),sa,sl,sw])<|.ok<|.v<|.agg #[sp,sa,sl,sw])<|.ok<|.v<|.agg #[sp,sa,sl,sw]) ?_;obtain rfl:=h
  have fin:∀(p:Int) (q:Bool),p=dcP sp sw ek en->q=dcW sw ek en->LV.v (.agg #[Y J p,Y J sa,Y J sl,.bool q])=LV.v (.agg #[Y J<|dcP sp sw ek en,Y J sa,Y J sl,.bool<|dcW sw ek en]):=λp q h1 h2=>A8
  refine ⟨λh1=>⟨λh2=>?_,λh2=>?_⟩,λh1=>⟨λh2=>⟨λh3=>?_,λh3=>?_⟩,λh2=>⟨λh3=>⟨λh4=>?_,λh4=>?_⟩,λh3=>⟨λh4=>⟨λh5=>?_,λh5=>?_⟩,λh4=>?_⟩⟩⟩⟩
  all_goals refine fin _ _ ?_ ?_
  all_goals simp_all [dcP,dcW]
 ·cases h)
def aSs:List LV->T LV
 | [.v (.agg ⟨[.string nm,Y J at_,Y J ph,Y J mn,Y J mx,Y J st,Y J fb,Y J ow]⟩),.v (.agg ⟨[Y J sp,Y J sa,Y J sl,.bool sw]⟩),.v (.agg ⟨[Y J ek,Y J en,Y J em]⟩)]=> .tu #[.agg #[(sN (nm,at_,ph,mn,mx,st,fb,ow) (sp,sa,sl,sw) ek en em).1,(sN (nm,at_,ph,mn,mx,st,fb,ow) (sp,sa,sl,sw) ek en em).2.1,(sN (nm,at_,ph,mn,mx,st,fb,ow) (sp,sa,sl,sw) ek en em).2.2.1,(sN (nm,at_,ph,mn,mx,st,fb,ow) (sp,sa,sl,sw) ek en em).2.2.2],sE (nm,at_,ph,mn,mx,st,fb,ow) (sp,sa,sl,sw) ek en em]
 |_=> .no
def zx:List Bd:=[aJv,cQ,aiA,av2]
def akV:Aw:=kI zx<|l0 zx
def Qt:=vo (S:=aSs) func74 zx akV (λargs lv h=>by
 unfold aSs at h;split at h
 ·rename_i nm at_ ph mn mx st fb ow sp sa sl sw ek en em
  refine Ap (letI a:=Wc<|ek.toNat*6+(sp.toNat*1+0);letI c:=AA<|sl-1;letI d:=dcP sp sw ek en;letI f:=dcW sw ek en;.br (!(sV (nm,at_,ph,mn,mx,st,fb,ow) (sp,sa,sl,sw))) (.tu #[.agg #[(0:Int),(0:Int),(0:Int),X],(1:Int)])<|.br (!(inB ek (1:Int) (9:Int))) (.tu #[.agg #[(0:Int),(0:Int),(0:Int),X],(9:Int)])<|.req (ek≠0)<|.br (!(evV mx ek en em)) (.tu #[.agg #[(0:Int),(0:Int),(0:Int),X],(1:Int)])<|.req (0<=ek/\ek<(10:Int))<|.req (0<=sp/\sp<(6:Int))<|.br (a==(-1)) (.tu #[.agg #[(0:Int),(0:Int),(0:Int),X],(6:Int)])<|.br (a==(-2)) (.br (ek==7) (.tu #[.agg #[sp,en,em,sw],(0:Int)])<|.br (ek==8) (.br ((if (0:Int)<c then AA (sl-1) else 0)==0) (.tu #[.agg #[sp,(0:Int),Y J (if (0:Int)<c then AA (sl-1) else 0),sw],(0:Int)])<|.tu #[.agg #[sp,sa,Y J (if (0:Int)<c then AA (sl-1) else 0),sw],(0:Int)])<|.br (ek==9) (.tu #[.agg #[sp,(0:Int),(0:Int),sw],(0:Int)])<|.tu #[.agg #[sp,sa,sl,sw],(0:Int)])<|.br (a==(-3)) (.br (ek==7) (.tu #[.agg #[d,en,em,f],(0:Int)])<|.br (ek==8) (.br ((if (0:Int)<c then AA (sl-1) else 0)==0) (.tu #[.agg #[d,(0:Int),Y J (if (0:Int)<c then AA (sl-1) else 0),f],(0:Int)])<|.tu #[.agg #[d,sa,Y J (if (0:Int)<c then AA (sl-1) else 0),f],(0:Int)])<|.br (ek==9) (.tu #[.agg #[d,(0:Int),(0:Int),f],(0:Int)])<|.tu #[.agg #[d,sa,sl,f],(0:Int)])<|.br (ek==7) (.tu #[.agg #[a,en,em,sw],(0:Int)])<|.br (ek==8) (.br ((if (0:Int)<c then AA (sl-1) else 0)==0) (.tu #[.agg #[a,(0:Int),Y J (if (0:Int)<c then AA (sl-1) else 0),sw],(0:Int)])<|.tu #[.agg #[a,sa,Y J (if (0:Int)<c then AA (sl-1) else 0),sw],(0:Int)])<|.br (ek==9) (.tu #[.agg #[a,(0:Int),(0:Int),sw],(0:Int)])<|.tu #[.agg #[a,sa,sl,sw],(0:Int)]) ?_
  obtain rfl:=h
  have bad:∀e,e≠0->(sE (nm,at_,ph,mn,mx,st,fb,ow) (sp,sa,sl,sw) ek en em)=e->LV.v (.tuple #[.agg #[Y J 0,Y J 0,Y J 0,.bool X],Y J e])=LV.v (.tuple #[.agg #[Y J (sN (nm,at_,ph,mn,mx,st,fb,ow) (sp,sa,sl,sw) ek en em).1,Y J (sN (nm,at_,ph,mn,mx,st,fb,ow) (sp,sa,sl,sw) ek en em).2.1,Y J (sN (nm,at_,ph,mn,mx,st,fb,ow) (sp,sa,sl,sw) ek en em).2.2.1,.bool (sN (nm,at_,ph,mn,mx,st,fb,ow) (sp,sa,sl,sw) ek en em).2.2.2],Y J<|sE (nm,at_,ph,mn,mx,st,fb,ow) (sp,sa,sl,sw) ek en em]):=λe h0 h1=>by
   unfold sN;rw [h1];simp only [AE h0]
  have good:∀(p q r:Int) (b:Bool),(sE (nm,at_,ph,mn,mx,st,fb,ow) (sp,sa,sl,sw) ek en em)=0->p=phF sp sw ek en->q=sA sa sl ek en->r=sL sl ek em->b=sW sw ek en->LV.v (.tuple #[.agg #[Y J p,Y J q,Y J r,.bool b],Y J 0])=LV.v (.tuple #[.agg #[Y J (sN (nm,at_,ph,mn,mx,st,fb,ow) (sp,sa,sl,sw) ek en em).1,Y J (sN (nm,at_,ph,mn,mx,st,fb,ow) (sp,sa,sl,sw) ek en em).2.1,Y J (sN (nm,at_,ph,mn,mx,st,fb,ow) (sp,sa,sl,sw) ek en em).2.2.1,.bool (sN (nm,at_,ph,mn,mx,st,fb,ow) (sp,sa,sl,sw) ek en em).2.2.2],Y J<|sE (nm,at_,ph,mn,mx,st,fb,ow) (sp,sa,sl,sw) ek en em]):=λp q r b h0 h1 h2 h3 h4=>by
   unfold sN;rw [h0,h1,h2,h3,h4];simp only [Br]
  refine ⟨λh1=>bad 1 Ae (by simp at h1;simp [sE,h1]),λh1=>⟨λh2=>bad 9 Ae (by simp at h1 h2;simp [sE,h1,h2]),λh2=>?_⟩⟩
  simp only [I8] at h1 h2
  have h2':=CM.1 h2
  refine ⟨A0,λh3=>bad 1 Ae (by simp at h3;simp [sE,h1,h2,h3]),λh3=>?_⟩
  simp only [I8] at h3;obtain ⟨g1,g2,g3,g4,g5,g6,g7,g8,g9⟩:=aOC.1 h1;simp only at g2 g3 g4 g5 g6 g7 g8 g9
  have hw:AA (sl-1)=sl-1:=AJ
  have hn:(sE (nm,at_,ph,mn,mx,st,fb,ow) (sp,sa,sl,sw) ek en em)=if phF sp sw ek en<0 then 6 else 0:=by simp [sE,h1,h2,h3]
  have htk:(if (0:Int)<sl-1 then sl-1 else 0)=tkF sl:=rfl
  rw [hw,htk];refine ⟨A0,A0,?_⟩
  have hz:sw=X\/(sw=U/\sp=5):=by cases sw<;>simp_all
  rw [ah8 A0 A0 A0 A0]
  clear h1 h2 h3 bad good g1 g4 g5 g6 g7 g9 hw htk
  rcases hz with rfl|⟨rfl,rfl⟩
  ·rcases nine h2'.1 h2'.2 with rfl|rfl|rfl|rfl|rfl|rfl|rfl|rfl|rfl<;>rcases amW g2 g3 with rfl|rfl|rfl|rfl|rfl|rfl
   all_goals simp [T.all,mV,sN,hn,phF,sA,sL,sW,dcP,dcW]
   all_goals (try omega)
   all_goals (by_cases h4:en=1<;>by_cases h5:en=0<;>simp_all)
  ·rcases nine h2'.1 h2'.2 with rfl|rfl|rfl|rfl|rfl|rfl|rfl|rfl|rfl
   all_goals simp [T.all,mV,sN,hn,phF,sA,sL,sW,dcP,dcW]
   all_goals (try omega)
 ·cases h)
def aTA:List LV->T LV
 | [.v (.agg ⟨[.string nm,Y J at_,Y J ph,Y J mn,Y J mx,Y J st,Y J fb,Y J ow]⟩),.v (.agg ⟨[Y J sp,Y J sa,Y J sl,.bool sw]⟩)]=> .ok (Bk (nm,at_,ph,mn,mx,st,fb,ow) (sp,sa,sl,sw))
 |_=> .no
def alp:List Bd:=[aJv]
def XJ:=vo (S:=aTA) func68 alp kN (λargs lv h=>by
 unfold aTA at h;split at h
 ·rename_i nm at_ ph mn mx st fb ow sp sa sl sw
  refine Ap (.br (!(sV (nm,at_,ph,mn,mx,st,fb,ow) (sp,sa,sl,sw))) (.ok (0:Int))<|.br sw (.ok mx)<|.br (sp !=4) (.ok (0:Int))<|.br (sl !=0) (.ok sa)<|.ok fb) ?_;obtain rfl:=h;refine ⟨λh1=>?_,λh1=>⟨λh2=>?_,λh2=>⟨λh3=>?_,λh3=>⟨λh4=>?_,λh4=>?_⟩⟩⟩⟩
  all_goals refine Az (λz=>LV.v<|Y J z) ?_
  all_goals simp_all [Bk]
 ·cases h)
structure Lm where
 most:Int
 r:Bool
 l:List Int
 (n i:Int)
def aHB:=bN f104 0
def lz (s:Lm):T (Rd Lm):=
 .br (an<|s.i<s.n) (.ix s.i (M s.l)<|.br ((an<|(gi s.l s.i)<0) ||(an<|(gi s.l s.i)>s.most)) (.so (.ret) {s with r:=X})<|.nx {s with i:=AA<|s.i+1}) (.so (.exit 0) s)
def Uf (s:Lm) (j:Int):Bool:=inB (gi s.l j) 0 s.most
def mg (s:Lm):Prop:=s.i=0/\0<=s.n/\s.n<=1000/\s.n=(M s.l:Int)
def aX (s:Lm):Prop:=0<=s.i/\s.i<=s.n/\s.n<=1000/\(s.n=(M s.l:Int))/\∀j:Nat,(j:Int)<s.i->Uf s j=U
def zd (s:Lm):Nat:=(s.n-s.i).toNat
def wK (x:Ex) (s s':Lm):Prop:=(x=.exit 0/\∀j:Nat,(j:Int)<s'.n->Uf s' j=U)\/(x=.ret/\s'.r=X/\∃j:Nat,(j:Int)<s'.n/\Uf s' j=X)
def amU:∀s,mg s->aX s:=by
 exact Jx
theorem ajG:Da aX zd wK lz:=by
 intro s hI;unfold lz;obtain ⟨h0,h1,h2,h3,h4⟩:=hI;refine AH (λc1=>AH (λc2=>?_) λc2=>?_) λc1=>?_
 ·have c1:s.i<s.n:=AX
  refine .inr ⟨rfl,rfl,s.i.toNat,A8,?_⟩
  have hg:Uf s s.i=false:=aNJ
  exact hg
 ·have c1:s.i<s.n:=AX
  have hg:Uf s s.i=true:=aNJ
  rw [AJ (x:=s.i+1)];refine ⟨⟨A8,A8,h2,h3,λj hj=>?_⟩,by simp only [zd];omega⟩
  exact L0
 ·exact Se
def S2:AS Lm:=⟨0,21,[0,4,7,8,9],[],λs=>[s.most,s.r,.xl A7 s.l,s.n,s.i],λ_=>[],λv b=>⟨AK v 0,EO v 1,B5 A7 v 2,AK v 3,AK v 4⟩,lz,λs r=> {s with r:=r.r,i:=r.i},λs=>s,λ_ s=>s,[.ret,.exit 0],mg,aX,zd⟩
abbrev aOG:=S2.run
abbrev aRn:=S2.At
def aii:Rq aX lz:=by
 exact SZ
def aRk:List Bd:=[]
def aak:S2.Ok:={}
def aaT:S2.Pf (wK):=⟨amU,λs h=>rfl,ajG,aii⟩
def avK:SA 0 aHB S2:=s1 aak aaT aRk kN
def aub:Fi mg aX wK aRn aOG:=AS.fin aak aaT
def aS5:List LV->T LV
 | [.v (Y J most),.xl (.int J) ns]=> .req (M ns<=1000) (.ok<|ns.all λp=>inB p 0 most)
 |_=> .no
def aa5:=vm (S:=aS5) func104 aRk kN (L:=(λi=>if i=2 then S2.lp else Ak i)) (λb hb=>by
 rw [show BB _=[aHB] by kernel_rfl] at hb
 simp only [B7,Bu,Bt] at hb;subst hb;exact avK) (λargs lv h=>by
 unfold aS5 at h;split at h
 ·rename_i most ns
  refine Ap (letI a:=(M ns:Int);.req (S2.q (⟨most,X,ns,a,0⟩:Lm))<|.br (Bj (aRn (⟨most,X,ns,a,0⟩:Lm))<|.ret) (.ok (aOG (⟨most,X,ns,a,0⟩:Lm)).r)<|.ok U) ?_;obtain ⟨h0,rfl⟩:=h
  have hE:mg ⟨most,X,ns,(M ns:Int),0⟩:=⟨rfl,AZ,AZ,rfl⟩
  obtain ⟨s',hI,hq⟩:=aub _ hE;rw [aSZ];refine ⟨⟨hE,rfl,rfl⟩,?_⟩;rcases hq with ⟨q1,q2⟩ |⟨q1,q2,j,q3,q4⟩<;>rw [q1]
  ·rw [show Di (M ns) (λj=>inB (gi ns j) 0 most)=U from Dq.2 q2]
   exact ⟨λh=>An,λ_=>rfl⟩
  ·rw [q2,show Di (M ns) (λj=>inB (gi ns j) 0 most)=X from QI j q3 q4]
   exact ⟨λ_=>rfl,λh=>An⟩
 ·cases h)
def aSN:List LV->T LV
 | [.v (.agg ⟨[Y J sr,Y J rg,.bool bk]⟩)]=> .ok (meV (sr,rg,bk))
 |_=> .no
def ah3:List Bd:=[aa5]
def aj6:=vo (S:=aSN) func103 ah3 kN (λargs lv h=>by
 unfold aSN at h;split at h
 ·rename_i sr rg bk
  refine Ap (.req (M ([sr])<=1000)<|.br (([sr]).all λp=>inB p 0 (1000000:Int)) (.br (an<|rg>=(-1000000000000000)) (.ok<|an<|rg<=1000000000000000)<|.ok X)<|.ok X) ?_
  obtain rfl:=h;refine ⟨AI,λc1=>⟨λc2=>?_,λc2=>?_⟩,λc1=>?_⟩
  all_goals refine Az (λz=>LV.v<|.bool z) ?_
  all_goals simp only [IW,List.all_nil,ka] at c1
  all_goals first|(simp_all [meV];done) |(simp_all [meV];omega)
 ·cases h)
def aSO:List LV->T LV
 | [.v (.agg ⟨[Y J sr,Y J rg,.bool bk]⟩),.v (Y J a),.v (Y J p)]=> .tu #[.agg #[(IS (sr,rg,bk) a p).1,(IS (sr,rg,bk) a p).2.1,(IS (sr,rg,bk) a p).2.2],Gs (sr,rg,bk) a p]
 |_=> .no
def u7:List Bd:=[aj6,aa5]
def az4:Aw:=kI u7<|l0 u7
def X9:=vo (S:=aSO) func70 u7 az4 (λargs lv h=>by
 unfold aSO at h;split at h
 ·rename_i sr rg bk a p
  refine Ap (letI b:=AA<|2300*a;.br (!(meV (sr,rg,bk))) (.tu #[.agg #[(0:Int),(0:Int),X],(1:Int)])<|.req (M ([a])<=1000)<|.br (!(([a]).all λp=>inB p 0 (80:Int))) (.tu #[.agg #[(0:Int),(0:Int),X],(1:Int)])<|.req (M ([p])<=1000)<|.br (!(([p]).all λp=>inB p 0 (3:Int))) (.tu #[.agg #[(0:Int),(0:Int),X],(1:Int)])<|.br bk (.br (!(meV (sr,(AA<|rg-(AA<|b*p)),bk))) (.tu #[.agg #[(0:Int),(0:Int),X],(3:Int)])<|.tu #[.agg #[sr,(AA<|rg-(AA<|b*p)),bk],(0:Int)])<|.br (!(meV (sr,(AA<|rg+(AA<|b*p)),bk))) (.tu #[.agg #[(0:Int),(0:Int),X],(3:Int)])<|.tu #[.agg #[sr,(AA<|rg+(AA<|b*p)),bk],(0:Int)]) ?_
  obtain rfl:=h
  have fin:∀(x1 x2:Int) (x3:Bool) (e:Int),(x1,x2,x3)=IS (sr,rg,bk) a p->e=Gs (sr,rg,bk) a p->LV.v (.tuple #[.agg #[Y J x1,Y J x2,.bool x3],Y J e])=LV.v (.tuple #[.agg #[Y J (IS (sr,rg,bk) a p).1,Y J (IS (sr,rg,bk) a p).2.1,.bool (IS (sr,rg,bk) a p).2.2],Y J<|Gs (sr,rg,bk) a p]):=by
   intro x1 x2 x3 e h1 h2;rw [h2,<-h1]
  have hw:meV (sr,rg,bk)=U->inB a 0 80=U->inB p 0 3=U->AA (rg-AA (AA (2300*a)*p))=rg-2300*a*p/\AA (rg+AA (AA (2300*a)*p))=rg+2300*a*p:=by
   intro h1 h2 h3
   simp [meV,inB] at h1 h2 h3
   have hm:0<=2300*a*p/\2300*a*p<=552000:=⟨Ia A0 A0,IX (Int.mul_le_mul (by omega:2300*a<=184000) (by omega:p<=3) A0 A0) A0⟩
   rw [AJ (x:=2300*a),AJ (x:=2300*a*p)];exact ⟨AJ,AJ⟩
  simp only [IW,List.all_nil,ka];refine ⟨λc1=>?_,λc1=>⟨AI,λc2=>?_,λc2=>⟨AI,λc3=>?_,λc3=>?_⟩⟩⟩
  ·refine fin _ _ _ _ ?_ ?_<;>simp at c1<;>simp [IS,Gs,mcB,c1]
  ·refine fin _ _ _ _ ?_ ?_<;>simp at c1 c2<;>simp [IS,Gs,mcB,c1,c2]
  ·refine fin _ _ _ _ ?_ ?_<;>simp at c1 c2 c3<;>simp [IS,Gs,mcB,c1,c2,c3]
  ·simp at c1 c2 c3
   obtain ⟨w1,w2⟩:=hw c1 c2 c3;rw [w1,w2];refine ⟨λc4=>⟨λc5=>?_,λc5=>?_⟩,λc4=>⟨λc5=>?_,λc5=>?_⟩⟩<;>subst c4<;>simp at c5<;>refine fin _ _ _ _ ?_ ?_<;>simp [IS,Gs,mcB,mcR,c1,c2,c3,c5]
 ·cases h)
def aSE:List LV->T LV
 | [.v (Y J n),.v (Y J a),.v (Y J b)]=> .ok (inB n a b)
 |_=> .no
def ah2:List Bd:=[]
def Tk:=vo (S:=aSE) func29 ah2 kN (λargs lv h=>by
 unfold aSE at h;split at h
 ·rename_i n a b
  refine Ap (.ok<|.v<|.bool<|(an<|n>=a)&&(an<|n<=b)) ?_;exact h
 ·cases h)
def aRx:List LV->T LV
 | [.v (Y J n)]=> .ok (inB n (-200) 200)
 |_=> .no
def ah1:List Bd:=[Tk]
def gK:=vo (S:=aRx) func25 ah1 kN (λargs lv h=>by
 unfold aRx at h;split at h
 ·rename_i n
  refine Ap (.ok<|inB n (-200:Int) (200:Int)) ?_;exact h
 ·cases h)
def oX (e:Ty):LV->Option (List e.D)
 | .xl e' l=>match Je e' e with
  |some ⟨h⟩=>ah (KX h l)
  |none=>aj
 |_=>aj
def IG {e:Ty}{x:LV}{l:List e.D}(h:oX e x=ah l):x=.xl e l:=by
 unfold oX at h;split at h
 ·split at h
  ·rename_i h2 _
   subst h2;cases h;rfl
  ·cases h
 ·cases h
def oI:LV->Option Int
 | .v (Y J n)=>ah n
 |_=>aj
def zo {x:LV}{n:Int}(h:oI x=ah n):x=.v (Y J n):=by
 unfold oI at h;exact xp
def oB:LV->Option Bool
 | .v (.bool n)=>ah n
 |_=>aj
def ajt {x:LV}{n:Bool}(h:oB x=ah n):x=.v (.bool n):=by
 unfold oB at h;exact xp
def Mu:LV->Option PK
 | .agg [a0,a1,a2,a3,a4,a5,a6,a7,a8,a9,a10,a11,a12,a13,a14,a15,a16,a17,a18,a19]=>(oX Ad a0).bind λcs=>(oX .str a1).bind λos=>(oX Ah a2).bind λks=>(oX Af a3).bind λgs=>(oX Ai a4).bind λbs=>(oI a5).bind λtk=>(oB a6).bind λup=>(oX AP a7).bind λls=>(oI a8).bind λse=>(oX (.int aw) a9).bind λfl=>(oX Am a10).bind λra=>(oI a11).bind λnx=>(oX B3 a12).bind λst=>(oX AP a13).bind λca=>(oX B6 a14).bind λmi=>(oX BO a15).bind λme=>(oX As a16).bind λdm=>(oX BJ a17).bind λlk=>(oX A7 a18).bind λdr=>(oX A7 a19).bind λtg=>ah ⟨cs,os,ks,gs,bs,tk,up,ls,se,fl,ra,nx,st,ca,mi,me,dm,lk,dr,tg⟩
 |_=>aj
def W5 {x:LV}{p:PK}(h:Mu x=ah p):x=(p):=by
 unfold Mu at h;split at h
 ·simp only [Option.bind_eq_some_iff] at h
  obtain ⟨cs,h0,os,h1,ks,h2,gs,h3,bs,h4,tk,h5,up,h6,ls,h7,se,h8,fl,h9,ra,h10,nx,h11,st,h12,ca,h13,mi,h14,me,h15,dm,h16,lk,h17,dr,h18,tg,h19,h⟩:=h;cases h;rw [IG h0,IG h1,IG h2,IG h3,IG h4,zo h5,ajt h6,IG h7,zo h8,IG h9,IG h10,zo h11,IG h12,IG h13,IG h14,IG h15,IG h16,IG h17,IG h18,IG h19]
 ·cases h
def Vz:=bN f14 0
def Ow:List Bd:=[Om,gK,Tk]
def aq8:Sound prog AU (.loop Vz) (J0 prog AU Ow Fx 20 2 Vz):=Sn (gk Ow) kN.h 20 2 Vz
structure Ni where
 r:Bool
 n:Int
 l:List Int
 (m i:Int)
 p:PK
def aF7:=bN f14 1
def vO (s:Ni):T (Rd Ni):=
 .br (an<|s.i<s.m) (.ix s.i (M s.l)<|.ix s.i (M s.p.cs)<|.br (!(inB (gi s.l s.i) (1:Int) (Ac s.p.cs s.i).2.2.1)) (.so (.ret) {s with r:=X})<|.nx {s with i:=AA<|s.i+1}) (.so (.exit 2) s)
def Rj (s:Ni) (j:Int):Bool:=inB (gi s.l j) 1 (Ac s.p.cs j).2.2.1
def iM (s:Ni):Prop:=s.i=0/\0<=s.m/\s.m<=1000/\s.m=(M s.l:Int)/\M s.l=M s.p.cs
def YT (s:Ni):Prop:=0<=s.i/\s.i<=s.m/\s.m<=1000/\(s.m=(M s.l:Int)/\M s.l=M s.p.cs)/\∀j:Nat,(j:Int)<s.i->Rj s j=U
def th (s:Ni):Nat:=(s.m-s.i).toNat
def aAG (x:Ex) (s s':Ni):Prop:=(x=.exit 2/\∀j:Nat,(j:Int)<s'.m->Rj s' j=U)\/(x=.ret/\s'.r=X/\∃j:Nat,(j:Int)<s'.m/\Rj s' j=X)
def ajk:∀s,iM s->YT s:=by
 exact Jx
theorem ax4:Da YT th aAG vO:=by
 intro s hI;obtain ⟨h0,h1,h2,h3,h4⟩:=hI;refine AH (λc1=>AH (λc2=>?_) λc2=>?_) λc1=>?_
 ·have c1:s.i<s.m:=AX
  refine .inr ⟨rfl,rfl,s.i.toNat,AZ,?_⟩
  have hg:Rj s s.i=false:=by unfold Rj;simp_all
  exact hg
 ·have c1:s.i<s.m:=AX
  have hg:Rj s s.i=true:=by unfold Rj;simp_all
  rw [AJ (x:=s.i+1)];refine ⟨⟨A8,A8,h2,h3,λj hj=>?_⟩,by simp only [th];omega⟩
  exact L0
 ·exact kr
def Ql:AS Ni:=⟨0,105,[1,2,3,61,62,63],[],λs=>[.own 0 0,s.r,s.n,.xl A7 s.l,s.m,s.i],λs=>[pB s.p],λv b=>⟨EO v 1,AK v 2,B5 A7 v 3,AK v 4,AK v 5,rQ b 0⟩,vO,λs r=> {s with r:=r.r,i:=r.i},λs=>s,λ_ s=>s,[.ret,.exit 2],iM,YT,th⟩
abbrev dY:=Ql.run
abbrev dG:=Ql.At
def awV:Rq YT vO:=by
 exact xD
def aQV:Ql.Ok:={}
def aOU:Ql.Pf (aAG):=⟨ajk,λs h=>rfl,ax4,awV⟩
def aqB:SA 0 aF7 Ql:=s1 aQV aOU Ow kN
def aqR:Fi iM YT aAG dG dY:=AS.fin aQV aOU
structure Nh where
 r:Bool
 n:Int
 l:List Int
 (m i:Int)
 p:PK
def aF6:=bN f14 2
def vN (s:Nh):T (Rd Nh):=
 .br (an<|s.i<s.m) (.ix s.i (M s.l)<|.br (!(inB (gi s.l s.i) (-200) 200)) (.so (.ret) {s with r:=X})<|.nx {s with i:=AA<|s.i+1}) (.so (.exit 4) s)
def Ri (s:Nh) (j:Int):Bool:=inB (gi s.l j) (-200) 200
def iL (s:Nh):Prop:=s.i=0/\0<=s.m/\s.m<=1000/\s.m=(M s.l:Int)
def YS (s:Nh):Prop:=0<=s.i/\s.i<=s.m/\s.m<=1000/\(s.m=(M s.l:Int))/\∀j:Nat,(j:Int)<s.i->Ri s j=U
def td (s:Nh):Nat:=(s.m-s.i).toNat
def aAp (x:Ex) (s s':Nh):Prop:=(x=.exit 4/\∀j:Nat,(j:Int)<s'.m->Ri s' j=U)\/(x=.ret/\s'.r=X/\∃j:Nat,(j:Int)<s'.m/\Ri s' j=X)
def ajj:∀s,iL s->YS s:=by
 exact Jx
theorem axb:Da YS td aAp vN:=by
 intro s hI;obtain ⟨h0,h1,h2,h3,h4⟩:=hI;refine AH (λc1=>AH (λc2=>?_) λc2=>?_) λc1=>?_
 ·have c1:s.i<s.m:=AX
  refine .inr ⟨rfl,rfl,s.i.toNat,A8,?_⟩
  have hg:Ri s s.i=false:=by unfold Ri;simp_all
  exact hg
 ·have c1:s.i<s.m:=AX
  have hg:Ri s s.i=true:=by unfold Ri;simp_all
  rw [AJ (x:=s.i+1)];refine ⟨⟨A8,A8,h2,h3,λj hj=>?_⟩,by simp only [td];omega⟩
  exact L0
 ·exact kr
def Qk:AS Nh:=⟨0,105,[1,2,3,80,81,82],[],λs=>[.own 0 0,s.r,s.n,.xl A7 s.l,s.m,s.i],λs=>[pB s.p],λv b=>⟨EO v 1,AK v 2,B5 A7 v 3,AK v 4,AK v 5,rQ b 0⟩,vN,λs r=> {s with r:=r.r,i:=r.i},λs=>s,λ_ s=>s,[.ret,.exit 4],iL,YS,td⟩
abbrev dX:=Qk.run
abbrev dF:=Qk.At
def awU:Rq YS vN:=by
 exact SZ
def aQU:Qk.Ok:={}
def aOx:Qk.Pf (aAp):=⟨ajj,λs h=>rfl,axb,awU⟩
def aqA:SA 0 aF6 Qk:=s1 aQU aOx Ow kN
def aqQ:Fi iL YS aAp dF dX:=AS.fin aQU aOx
structure Ng where
 r:Bool
 n:Int
 l:List Lk
 (m i:Int)
def aF5:=bN f14 3
def vM (s:Ng):T (Rd Ng):=
 .br (an<|s.i<s.m) (.ix s.i (M s.l)<|.br (!(inB (Gc s.l s.i).2.2.1 (0:Int)<|AA<|s.n-1)) (.so (.ret) {s with r:=X})<|.nx {s with i:=AA<|s.i+1}) (.so (.exit 6) s)
def Tc (s:Ng) (j:Int):Bool:=inB (Gc s.l j).2.2.1 0<|s.n-1
def iK (s:Ng):Prop:=s.i=0/\0<=s.m/\s.m<=100000000/\s.m=(M s.l:Int)/\0<=s.n/\s.n<=16
def YR (s:Ng):Prop:=0<=s.i/\s.i<=s.m/\s.m<=100000000/\(s.m=(M s.l:Int)/\0<=s.n/\s.n<=16)/\∀j:Nat,(j:Int)<s.i->Tc s j=U
def tc (s:Ng):Nat:=(s.m-s.i).toNat
def aAo (x:Ex) (s s':Ng):Prop:=(x=.exit 6/\∀j:Nat,(j:Int)<s'.m->Tc s' j=U)\/(x=.ret/\s'.r=X/\∃j:Nat,(j:Int)<s'.m/\Tc s' j=X)
def aji:∀s,iK s->YR s:=by
 exact Jx
theorem axa:Da YR tc aAo vM:=by
 intro s hI;obtain ⟨h0,h1,h2,h3,h4⟩:=hI;refine AH (λc1=>AH (λc2=>?_) λc2=>?_) λc1=>?_
 ·have c1:s.i<s.m:=AX
  refine .inr ⟨rfl,rfl,s.i.toNat,AZ,?_⟩
  have hg:Tc s s.i=false:=aMq
  exact hg
 ·have c1:s.i<s.m:=AX
  have hg:Tc s s.i=true:=aMq
  rw [AJ (x:=s.i+1)];refine ⟨⟨A8,A8,h2,h3,λj hj=>?_⟩,by simp only [tc];omega⟩
  exact L0
 ·exact kr
def Qj:AS Ng:=⟨0,105,[2,3,91,92,93],[],λs=>[s.r,s.n,s.l,s.m,s.i],λ_=>[],λv b=>⟨EO v 0,AK v 1,B5 BJ v 2,AK v 3,AK v 4⟩,vM,λs r=> {s with r:=r.r,i:=r.i},λs=>s,λ_ s=>s,[.ret,.exit 6],iK,YR,tc⟩
abbrev pq:=Qj.run
abbrev dD:=Qj.At
def awT:Rq YR vM:=by
 intro s hI;refine ⟨λc1=>⟨?_,λ_=>trivial,λ_=>trivial⟩,λ_=>trivial⟩
 ·(obtain ⟨h0,h1,h2,h3,h4⟩:=hI;obtain ⟨g0,g1,g2⟩:=h3;simp at c1;omega)
def aQT:Qj.Ok:={}
def aOw:Qj.Pf (aAo):=⟨aji,λs h=>rfl,axa,awT⟩
def aq9:SA 0 aF5 Qj:=s1 aQT aOw Ow kN
def ar4:Fi iK YR aAo dD pq:=AS.fin aQT aOw
theorem ot {α:Type}{l:List α}{d:α}{f:α->Bool}:Di (M l) (λk=>f<|l.getD k.toNat d)=l.all f:=by
 rw [IY,Dq,BH]
 constructor
 ·intro h x hx
  obtain ⟨k,hk,rfl⟩:=I7.1 hx
  grind
 ·intro h j hj
  grind
def aSB:List LV->T LV
 | [x_p]=>(match Mu x_p with
  |some p=> .req (M p.lk<=100000000) (.ok<|EA p)
  |none=> .no)
 |_=> .no
def Q5 (p:PK):Ni:=(⟨X,(M p.gs:Int),p.tg,(M p.tg:Int),0,p⟩:Ni)
def Q4 (p:PK):Nh:=(⟨(dY<|Q5 p).r,(M p.gs:Int),p.dr,(M p.dr:Int),0,p⟩:Nh)
def Sy (p:PK):Ng:=(⟨(dX<|Q4 p).r,(M p.gs:Int),p.lk,(M p.lk:Int),0⟩:Ng)
def ayC (p:PK):letI a:=(M p.gs:Int);Bg prog AU Ow kN (λi=>if i=5 then (J0 prog AU Ow Fx 20 2 Vz) else if i=13 then Ql.lp else if i=19 then Qk.lp else if i=25 then Qj.lp else Ak i) f14 [p]=.br ((!(BA p.cs p.os p.ks p.gs p.bs)) ||(!(inB p.tk (0:Int) (1000000:Int)))) (.ok X) (.br ((M p.st:Int) !=a) (.ok X)<|.br ((M p.ca:Int) !=a) (.ok X)<|.br ((M p.mi:Int) !=a) (.ok X)<|.br ((M p.me:Int) !=a) (.ok X)<|.br ((M p.dm:Int) !=a) (.ok X)<|.br ((M p.dr:Int) !=a) (.ok X)<|.br ((M p.tg:Int) !=(M p.cs:Int)) (.ok X)<|.req (Ql.q<|Q5 p)<|.br (Bj (dG<|Q5 p)<|.ret) (.ok (dY<|Q5 p).r)<|.req (Qk.q<|Q4 p)<|.br (Bj (dF<|Q4 p)<|.ret) (.ok (dX<|Q4 p).r)<|.req (Qj.q<|Sy p)<|.br (Bj (dD<|Sy p)<|.ret) (.ok (pq<|Sy p).r)<|.ok U):=AT
def aiC:=vm (S:=aSB) func14 Ow kN (L:=(λi=>if i=5 then (J0 prog AU Ow Fx 20 2 Vz) else if i=13 then Ql.lp else if i=19 then Qk.lp else if i=25 then Qj.lp else Ak i)) (λb hb=>by
 rw [show BB _=[Vz,aF7,aF6,aF5] by kernel_rfl] at hb
 simp only [B7,Bu,Bt] at hb;rcases hb with rfl|rfl|rfl|rfl
 ·exact aq8
 ·exact aqB
 ·exact aqA
 ·exact aq9) (λargs lv h=>by
 refine ⟨?_⟩;unfold aSB at h;split at h
 ·split at h
  case h_2=>cases h
  rename_i p hp;obtain rfl:=W5 hp;simp only [canL,canX];rw [ayC];obtain ⟨hk,rfl⟩:=h
  have op:EA p=U->_:=λhv=>by unfold EA at hv;simp only [AY,Aa] at hv;exact hv
  have no:(EA p=U->False)->LV.v (.bool X)=LV.v (.bool<|EA p):=λh=>by
   cases e:EA p
   ·rfl
   ·exact (h e).elim
  refine ⟨λc1=>no λhv=>?_,λc1=>⟨λc2=>no λhv=>?_,λc2=>⟨λc3=>no λhv=>?_,λc3=>⟨λc4=>no λhv=>?_,λc4=>⟨λc5=>no λhv=>?_,λc5=>⟨λc6=>no λhv=>?_,λc6=>⟨λc7=>no λhv=>?_,λc7=>⟨λc8=>no λhv=>?_,λc8=>?_⟩⟩⟩⟩⟩⟩⟩⟩
  iterate 8
   ·obtain ⟨⟨h1,h2⟩,⟨h3,h4,h5,h6,h7,h8⟩,h9,_⟩:=op hv
    simp_all
  simp only [bne_eq_false_iff_eq,Int.natCast_inj,GH,I8] at c1 c2 c3 c4 c5 c6 c7 c8
  have hs:=D5.1 c1.1
  have hv:EA p=(Di (M p.tg) (λk=>inB (gi p.tg k) 1 (Ac p.cs k).2.2.1)&&(p.dr.all (λx=>inB x (-200) 200)&&p.lk.all (λl=>inB l.2.2.1 0<|(M p.gs:Int)-1))):=by
   unfold EA
   grind
  have hr:Di (M p.dr) (λk=>inB (gi p.dr k) (-200) 200)=p.dr.all (λx=>inB x (-200) 200):=ot (f:=λx=>inB x (-200) 200)
  have hl:Di (M p.lk) (λk=>inB (Gc p.lk k).2.2.1 0<|(M p.gs:Int)-1)=p.lk.all (λl=>inB l.2.2.1 0<|(M p.gs:Int)-1):=ot (f:=λl:Lk=>inB l.2.2.1 0<|(M p.gs:Int)-1)
  rw [hv,<-hr,<-hl]
  have E1:iM (Q5 p):=⟨rfl,SR _,by show (M p.tg:Int)<=1000;omega,rfl,c8⟩
  have E2:iL (Q4 p):=⟨rfl,SR _,by show (M p.dr:Int)<=1000;omega,rfl⟩
  have E3:iK (Sy p):=⟨rfl,SR _,by show (M p.lk:Int)<=100000000;omega,rfl,SR _,by show (M p.gs:Int)<=16;omega⟩
  refine ⟨⟨E1,rfl,rfl⟩,?_⟩;obtain ⟨_,_,q⟩:=aqR _ E1
  have q:(dG (Q5 p)=.exit 2/\_)\/(dG (Q5 p)=.ret/\(dY<|Q5 p).r=X/\∃j:Nat,(j:Int)<(M p.tg:Int)/\inB (gi p.tg j) 1 (Ac p.cs j).2.2.1=X):=q
  rcases q with ⟨q1,q2⟩ |⟨q1,q2,j,q3,q4⟩
  rotate_left
  ·exact xe
  rw [q1,show Di (M p.tg) (λk=>inB (gi p.tg k) 1 (Ac p.cs k).2.2.1)=U from Dq.2 q2]
  refine ⟨λc=>GI,λ_=>⟨⟨E2,rfl,rfl⟩,?_⟩⟩
  obtain ⟨_,_,q⟩:=aqQ _ E2
  have q:(dF (Q4 p)=.exit 4/\_)\/(dF (Q4 p)=.ret/\(dX<|Q4 p).r=X/\∃j:Nat,(j:Int)<(M p.dr:Int)/\inB (gi p.dr j) (-200) 200=X):=q
  rcases q with ⟨q1,q2⟩ |⟨q1,q2,j,q3,q4⟩
  rotate_left
  ·exact xe
  rw [q1,show Di (M p.dr) (λk=>inB (gi p.dr k) (-200) 200)=U from Dq.2 q2]
  refine ⟨λc=>GI,λ_=>⟨⟨E3,rfl,rfl⟩,?_⟩⟩
  obtain ⟨_,_,q⟩:=ar4 _ E3
  have q:(dD (Sy p)=.exit 6/\_)\/(dD (Sy p)=.ret/\(pq<|Sy p).r=X/\∃j:Nat,(j:Int)<(M p.lk:Int)/\inB (Gc p.lk j).2.2.1 0 ((M p.gs:Int)-1)=X):=q
  rcases q with ⟨q1,q2⟩ |⟨q1,q2,j,q3,q4⟩
  rotate_left
  ·exact xe
  rw [q1,show Di (M p.lk) (λk=>inB (Gc p.lk k).2.2.1 0<|(M p.gs:Int)-1)=U from Dq.2 q2]
  exact ⟨λc=>GI,λ_=>rfl⟩
 ·cases h)
def aSq:List LV->T LV
 | [.xl (.int J) l]=> .req (M l<=100000000) (.ok<|.xl A7 l)
 |_=> .no
def TR:List Bd:=[]
def aHo {α:Type}{l:List α}{d:α}{n:Int}(h:n=(M l:Int)):BC l (aq n.toNat d)=l:=by
 unfold BC
 simp_all
theorem getD_mem {α:Type}{l:List α}{i:Nat}{d:α}(h:i<M l):l.getD i d∈l:=by
 grind
def set_self {α:Type}{l:List α}{i:Nat}{d:α}(h:i<M l):l.set i (l.getD i d)=l:=by
 simp_all
def aTm:=vo (S:=aSq) func54 TR kN (λargs lv h=>by
 unfold aSq at h;split at h
 ·rename_i l
  refine Ap (letI a:=(M l:Int);letI b:=(BC l<|aq a.toNat (0:Int));.rm 8 a<|.rc a (0:Int) (M l)<|.req (0+a.toNat<=M b)<|.ok<|.xl A7<|(b.drop 0).take a.toNat) ?_;obtain ⟨hl,rfl⟩:=h;rw [aHo rfl];refine ⟨A0,⟨AI,AI⟩,AI,?_⟩;rw [Bx,CP,EY];rfl
 ·cases h)
structure Nv where
 (n i:Int)
 p1:List ByteArray
 p2:List Ko
 p3:List Ch
 p4:List Ba
 axE:Int
 aeG:Bool
 (p8 p11:Int)
 anS:List Me
 afc:List Dm
 aqY:List Lk
 (T1 afb:List Int)
 (qW b11 b12 b13 b14:Value)
 atw:Int
 ae5:Bool
 b17:Value
 b18:Int
 (b19 b110:Value)
 Uy:Int
 (agB atx ao8 agC afK aoN aCh afJ:Value)
 b2:List Cd
 b3:List Le
 b4:List Int
 b5:List Ra
 b6:List St
 b7:List Le
 o:List Mi
def yz (s:Nv):T (Rd Nv):=letI a:=s.o.getD s.i.toNat<|Ty.dflt B6;.br (an<|s.i<s.n) (.ik s.i (M s.o)<|.req (M a.1<=100000000)<|.ik s.i (M s.o)<|.rl s.b2<|.rl s.b3<|.rl s.b4<|.rl s.b5<|.rl s.b6<|.rl s.b7<|.re (M s.o) (s.o.set s.i.toNat a)<|.nx {s with i:=AA<|s.i+1,o:=s.o.set s.i.toNat a})<|.rl s.b2<|.rl s.b3<|.rl s.b4<|.rl s.b5<|.rl s.b6<|.rl s.b7<|.rl s.o<|.so (.exit 0) s
def ju (s:Nv):Prop:=s.i=0/\s.n=(M s.o:Int)/\s.n<=1000/\∀m∈s.o,M m.1<=1000
def ic (s:Nv):Prop:=0<=s.i/\s.i<=s.n/\s.n=(M s.o:Int)/\s.n<=1000/\∀m∈s.o,M m.1<=1000
def sK (s:Nv):Nat:=(s.n-s.i).toNat
def acE (x:Ex) (s s':Nv):Prop:=True
def alZ:∀s,ju s->ic s:=by
 exact aMY
theorem agl:Da ic sK acE yz:=by
 intro s hI;obtain ⟨h0,h1,h2,h3,h4⟩:=hI;refine AH (λc1=>?_) λc1=>trivial
 ·have c1:s.i<s.n:=A8
  have e:=set_self (l:=s.o) (i:=s.i.toNat) (d:=Ty.dflt B6) A0
  rw [AJ (x:=s.i+1),e];exact ⟨⟨A8,A8,h2,h3,h4⟩,by simp only [sK];omega⟩
def Gb:AS Nv:=⟨0,82,[1,2,44,45],[],λs=>[.own 0 0,.own 1 0,s.n,s.i],λs=>[⟨[.os 2 11 0<|M s.b2,s.p1,s.p2,s.p3,s.p4,s.axE,s.aeG,.os 3 5 0<|M s.b3,s.p8,.os 4 1 0<|M s.b4,.os 5 2 0<|M s.b5,s.p11,.os 6 4 0<|M s.b6,.os 7 5 0<|M s.b7,.os 8 3 0<|M s.o,s.anS,s.afc,s.aqY,.xl A7 s.T1,.xl A7 s.afb],47,.cl,X⟩,⟨[.v<|s.qW,.v<|s.b11,.v<|s.b12,.v<|s.b13,.v<|s.b14,s.atw,s.ae5,.v<|s.b17,s.b18,.v<|s.b19,.v<|s.b110,s.Uy,.v<|s.agB,.v<|s.atx,.v<|s.ao8,.v<|s.agC,.v<|s.afK,.v<|s.aoN,.v<|s.aCh,.v<|s.afJ],47,.cl,X⟩,bV 67 Ad s.b2,bV 101 AP s.b3,bV 5 (.int aw) s.b4,bV 127 Am s.b5,bV 90 B3 s.b6,bV 55 AP s.b7,bV 107 B6 s.o],λv b=>⟨AK v 2,AK v 3,AF .str b 0 1,AF Ah b 0 2,AF Af b 0 3,AF Ai b 0 4,Aj b 0 5,Kw b 0 6,Aj b 0 8,Aj b 0 11,AF BO b 0 15,AF As b 0 16,AF BJ b 0 17,AF A7 b 0 18,AF A7 b 0 19,Gp<|B8 (CT b 1) 0,Gp<|B8 (CT b 1) 1,Gp<|B8 (CT b 1) 2,Gp<|B8 (CT b 1) 3,Gp<|B8 (CT b 1) 4,Aj b 1 5,Kw b 1 6,Gp<|B8 (CT b 1) 7,Aj b 1 8,Gp<|B8 (CT b 1) 9,Gp<|B8 (CT b 1) 10,Aj b 1 11,Gp<|B8 (CT b 1) 12,Gp<|B8 (CT b 1) 13,Gp<|B8 (CT b 1) 14,Gp<|B8 (CT b 1) 15,Gp<|B8 (CT b 1) 16,Gp<|B8 (CT b 1) 17,Gp<|B8 (CT b 1) 18,Gp<|B8 (CT b 1) 19,Ab Ad b 2,Ab AP b 3,Ab (.int aw) b 4,Ab Am b 5,Ab B3 b 6,Ab AP b 7,Ab B6 b 8⟩,yz,λs r=> {s with i:=r.i,o:=r.o},λs=>s,λ_ s=>s,[.exit 0],ju,ic,sK⟩
abbrev aGt:=Gb.run
abbrev asV:=Gb.At
def axx:Rq ic yz:=by
 intro s hI;refine ⟨λc1=>⟨?_,?_,?_,?_,?_,A9,A9,A9,A9,A9,A9,?_,ak⟩,λc1=>⟨A9,A9,A9,A9,A9,A9,A9,ak⟩⟩
 all_goals ((obtain ⟨h0,h1,h2,h3,h4⟩:=hI;(try simp only [Aa] at c1);first|omega|exact ⟨rfl,AI⟩ |exact ⟨rfl,rfl⟩ |exact HU (h4 _<|getD_mem A0) Ae))
def uV:List Bd:=[aTm]
def azR:Aw:=kI uV<|l0 uV
def aPl:Gb.Ok:={}
def aPB:Gb.Pf (acE):=⟨alZ,λs h=>rfl,agl,axx⟩
def Cn:=s1 (b:=bN f23 0) aPl aPB uV azR
theorem aty:Rs ju asV aGt (λs:Nv=>s.o) (λx s' (v:List Mi)=>x=.exit 0/\s'.o=v):=DN aPl aPB (λs hI=>by
  obtain ⟨h0,h1,h2,h3,h4⟩:=hI;refine AH (λc1=>?_) λc1=>⟨rfl,rfl⟩
  have c1:s.i<s.n:=A8
  have e:=set_self (l:=s.o) (i:=s.i.toNat) (d:=Ty.dflt B6) A0
  rw [e];exact rfl)
structure MK where
 p:PK
def UB (s:MK):List LV:=[s.p]
def Yj (s:MK):List AB:=[]
def cK (s:MK):Nv:=(⟨(((M s.p.mi:Int).toNat:Nat):Int),0,s.p.os,s.p.ks,s.p.gs,s.p.bs,s.p.tk,s.p.up,s.p.se,s.p.nx,s.p.me,s.p.dm,s.p.lk,s.p.dr,s.p.tg,.slice aj 0 0,.slice aj 0 0,.slice aj 0 0,.slice aj 0 0,.slice aj 0 0,0,X,.slice aj 0 0,0,.slice aj 0 0,.slice aj 0 0,0,.slice aj 0 0,.slice aj 0 0,.slice aj 0 0,.slice aj 0 0,.slice aj 0 0,.slice aj 0 0,.slice aj 0 0,.slice aj 0 0,BC s.p.cs<|aq (M s.p.cs:Int).toNat (ByteArray.empty,((0:Int),((0:Int),((0:Int),(((0:Int),(0:Int)),((0:Int),((0:Int),((0:Int),((0:Int),(0:Int)))))))))),BC s.p.ls<|aq (M s.p.ls:Int).toNat ((0:Int),((0:Int),((0:Int),((0:Int),(0:Int))))),BC s.p.fl<|aq (M s.p.fl:Int).toNat (0:Int),BC s.p.ra<|aq (M s.p.ra:Int).toNat ((0:Int),(0:Int)),BC s.p.st<|aq (M s.p.st:Int).toNat ((0:Int),((0:Int),((0:Int),X))),BC s.p.ca<|aq (M s.p.ca:Int).toNat ((0:Int),((0:Int),((0:Int),((0:Int),(0:Int))))),BC s.p.mi<|aq (M s.p.mi:Int).toNat (([]:List Int),((0:Int),(0:Int)))⟩:Nv)
structure YF where
 p:PK
 (n7 n8 n9 n10 n11:Nat)
def acZ (s:YF):LV:=.agg [.os 0 11 0<|M s.p.cs,s.p.os,s.p.ks,s.p.gs,s.p.bs,s.p.tk,s.p.up,.os 1 5 0<|M s.p.ls,s.p.se,.os 2 1 0<|M s.p.fl,.os 3 2 0<|M s.p.ra,s.p.nx,.os 4 4 0<|M s.p.st,.os 5 5 0<|M s.p.ca,.os 6 3 0<|M s.p.mi,.os 7 3 0 s.n7,.os 8 4 0 s.n8,.os 9 6 0 s.n9,.os 10 1 0 s.n10,.os 11 1 0 s.n11]
def ad4 (s:YF):List AB:=[bV 67 Ad s.p.cs,bV 101 AP s.p.ls,bV 5 (.int aw) s.p.fl,bV 127 Am s.p.ra,bV 90 B3 s.p.st,bV 55 AP s.p.ca,bV 107 B6 s.p.mi,bV 93 BO s.p.me,bV 57 As s.p.dm,bV 103 BJ s.p.lk,bV 3 A7 s.p.dr,bV 3 A7 s.p.tg]
def gD (s:MK):T YF:=letI a:=(ByteArray.empty,((0:Int),((0:Int),((0:Int),(((0:Int),(0:Int)),((0:Int),((0:Int),((0:Int),((0:Int),(0:Int))))))))));letI f:=(M s.p.cs:Int);letI g:=(M s.p.fl:Int);letI h:=(M s.p.ls:Int);letI i:=(M s.p.ra:Int);letI j:=(M s.p.st:Int);letI k:=(M s.p.ca:Int);letI l:=(M s.p.mi:Int);letI m:=(M s.p.me:Int);letI n:=(M s.p.dm:Int);letI r:=(M s.p.lk:Int);letI t:=(M s.p.dr:Int);letI u:=(M s.p.tg:Int);letI v:=(BC s.p.fl<|aq g.toNat (0:Int));letI w:=BC s.p.cs<|aq f.toNat a;letI x:=(X,((0:Int),((0:Int),(0:Int))));letI b:=(BC s.p.ls<|aq h.toNat ((0:Int),((0:Int),((0:Int),((0:Int),(0:Int))))));letI c:=(BC s.p.ca<|aq k.toNat ((0:Int),((0:Int),((0:Int),((0:Int),(0:Int))))));letI d:=(BC s.p.st<|aq j.toNat ((0:Int),((0:Int),((0:Int),X))));letI e:=(BC s.p.ra<|aq i.toNat ((0:Int),(0:Int)));.rm 96 f<|.rc f a (M s.p.cs)<|.rm 40 h<|.rc h ((0:Int),((0:Int),((0:Int),((0:Int),(0:Int))))) (M s.p.ls)<|.rm 1 g<|.rc g (0:Int) (M s.p.fl)<|.rm 16 i<|.rc i ((0:Int),(0:Int)) (M s.p.ra)<|.rm 32 j<|.rc j ((0:Int),((0:Int),((0:Int),X))) (M s.p.st)<|.rm 40 k<|.rc k ((0:Int),((0:Int),((0:Int),((0:Int),(0:Int))))) (M s.p.ca)<|.rm 40 l<|.rc l (([]:List Int),((0:Int),(0:Int))) (M s.p.mi)<|.re f.toNat w<|.re h.toNat b<|.re g.toNat v<|.re i.toNat e<|.re j.toNat d<|.re k.toNat c<|.re l.toNat (BC s.p.mi<|aq l.toNat (([]:List Int),((0:Int),(0:Int))))<|.req (Gb.q<|cK s)<|.rm 24 m<|.rc m ((0:Int),((0:Int),X)) (M s.p.me)<|.rm 32 n<|.rc n x (M s.p.dm)<|.rm 48 r<|.rc r ((0:Int),((0:Int),((0:Int),((0:Int),((0:Int),(0:Int)))))) (M s.p.lk)<|.rm 8 t<|.rc t (0:Int) (M s.p.dr)<|.rm 8 u<|.rc u (0:Int) (M s.p.tg)<|.ok<|⟨⟨w,s.p.os,s.p.ks,s.p.gs,s.p.bs,s.p.tk,s.p.up,b,s.p.se,v,e,s.p.nx,d,c,(aGt<|cK s).o,BC s.p.me<|aq m.toNat ((0:Int),((0:Int),X)),BC s.p.dm<|aq n.toNat x,BC s.p.lk<|aq r.toNat ((0:Int),((0:Int),((0:Int),((0:Int),((0:Int),(0:Int)))))),BC s.p.dr<|aq t.toNat (0:Int),BC s.p.tg<|aq u.toNat (0:Int)⟩,m.toNat,n.toNat,r.toNat,t.toNat,u.toNat⟩
def QF {α:Type}{l:List α}{d:α}:BC l (aq (M l:Int).toNat d)=l:=aHo rfl
structure LB (p:PK):Prop where
 cs:M p.cs<=20000000
 ls:M p.ls<=20000000
 fl:M p.fl<=20000000
 ra:M p.ra<=20000000
 st:M p.st<=20000000
 ca:M p.ca<=20000000
 mi:M p.mi<=1000
 me:M p.me<=20000000
 dm:M p.dm<=20000000
 lk:M p.lk<=20000000
 dr:M p.dr<=20000000
 tg:M p.tg<=20000000
 mis:∀m∈p.mi,M m.1<=1000
def jq (s:MK):Prop:=LB s.p
def aaQ (s:MK):YF:=⟨s.p,M s.p.me,M s.p.dm,M s.p.lk,M s.p.dr,M s.p.tg⟩
def jU:Cx MK YF:=⟨UB,Yj,λv b=>⟨⟨Ao Ad<|ED (v.getD 0 .junk) 0,Ao .str<|ED (v.getD 0 .junk) 1,Ao Ah<|ED (v.getD 0 .junk) 2,Ao Af<|ED (v.getD 0 .junk) 3,Ao Ai<|ED (v.getD 0 .junk) 4,gI<|ED (v.getD 0 .junk) 5,gBo<|ED (v.getD 0 .junk) 6,Ao AP<|ED (v.getD 0 .junk) 7,gI<|ED (v.getD 0 .junk) 8,Ao (.int aw)<|ED (v.getD 0 .junk) 9,Ao Am<|ED (v.getD 0 .junk) 10,gI<|ED (v.getD 0 .junk) 11,Ao B3<|ED (v.getD 0 .junk) 12,Ao AP<|ED (v.getD 0 .junk) 13,Ao B6<|ED (v.getD 0 .junk) 14,Ao BO<|ED (v.getD 0 .junk) 15,Ao As<|ED (v.getD 0 .junk) 16,Ao BJ<|ED (v.getD 0 .junk) 17,Ao A7<|ED (v.getD 0 .junk) 18,Ao A7<|ED (v.getD 0 .junk) 19⟩⟩,jq,[],[],acZ,ad4,aaQ⟩
abbrev azx (s:MK):Prop:=jq s/\UB s=UB s/\Yj s=Yj s
def aR9:Aw:=kI TR<|la 9 func23 Cn<|l0 TR
def aTB:DL:=CS 23 0 9 (Gb.lp)<|Du prog AU TR 20 2
def aof:EL prog AU aTB:=DD func23 rfl AT Cn<|Hb<|gk TR
def ayX (s:MK):((Ec prog AU TR aTB aR9).k 23 (UB s)<|Yj s).bind (λq=>G6 (M<|Yj s) [0] [] .normal (q.1::UB s) q.2)=(gD s).mp (λs2=>⟨.normal,M (UB s)+1,[acZ s2],ad4 s2,U⟩):=AT
theorem avl (s:MK) (hE:jq s):(gD s).all (λq=>q=aaQ s):=by
 have ho:(cK s).o=s.p.mi:=QF
 have hn:(cK s).n=(M s.p.mi:Int):=MB
 have hV:ju (cK s):=⟨rfl,A8,by rw [hn];have:=hE.mi;omega,by rw [ho];exact hE.mis⟩
 have hm:=(aty _ hV).2.trans QF
 unfold gD;simp only [QF,hm];obtain ⟨h1,h2,h3,h4,h5,h6,h7,h8,h9,h10,h11,h12,_⟩:=hE
 repeat (refine ⟨by first|omega|exact ⟨AI,AI⟩ |exact ⟨rfl,AI⟩ |exact ⟨hV,rfl,rfl⟩,?_⟩)
 rfl
def auC:Df prog AU 23 jU.m:=Cx.sound (D:=jU) (t:=gD) (gk TR) aof aR9.h ayX λs hE=>⟨avl s hE⟩
def ahu:Df prog AU 23 (QO λa=>jU.m a []):=aFG auC
structure EW where
 (ek en em c1 c2 c3 c4 c5:Int)
 d1:Bool
 (d2 d3 d4:Int)
instance:Coe EW Value:=⟨λe=> .agg #[Y J e.ek,Y J e.en,Y J e.em,Y J e.c1,Y J e.c2,Y J e.c3,Y J e.c4,Y J e.c5,.bool e.d1,Y J e.d2,Y J e.d3,Y J e.d4]⟩
instance:Coe EW LV:=⟨λe=> .v<|.agg #[Y J e.ek,Y J e.en,Y J e.em,Y J e.c1,Y J e.c2,Y J e.c3,Y J e.c4,Y J e.c5,.bool e.d1,Y J e.d2,Y J e.d3,Y J e.d4]⟩
def EW.c (e:EW):Ca:=(e.c1,e.c2,e.c3,e.c4,e.c5)
def EW.d (e:EW):Dm:=(e.d1,e.d2,e.d3,e.d4)
def EW.ev (e:EW):EV:=⟨e.ek,e.en,e.em,e.c,e.d⟩
def mK:LV->Option EW
 | .v (.agg ⟨[Y J ek,Y J en,Y J em,Y J c1,Y J c2,Y J c3,Y J c4,Y J c5,.bool d1,Y J d2,Y J d3,Y J d4]⟩)=>ah ⟨ek,en,em,c1,c2,c3,c4,c5,d1,d2,d3,d4⟩
 |_=>aj
def asr {x:LV}{ev:EW}(h:mK x=ah ev):x=(ev):=by
 unfold mK at h;exact xp
def zB:AB:=⟨[.v<|.slice aj 0 0,.v<|.slice aj 0 0,.v<|.slice aj 0 0,.v<|.slice aj 0 0,.v<|.slice aj 0 0,.v<|Y J 0,.v<|.bool X,.v<|.slice aj 0 0,.v<|Y J 0,.v<|.slice aj 0 0,.v<|.slice aj 0 0,.v<|Y J 0,.v<|.slice aj 0 0,.v<|.slice aj 0 0,.v<|.slice aj 0 0,.v<|.slice aj 0 0,.v<|.slice aj 0 0,.v<|.slice aj 0 0,.v<|.slice aj 0 0,.v<|.slice aj 0 0],47,.cl,X⟩
def eB (e:EW):AB:=⟨[.v<|Y J e.ek,.v<|Y J e.en,.v<|Y J e.em,.v<|Y J e.c1,.v<|Y J e.c2,.v<|Y J e.c3,.v<|Y J e.c4,.v<|Y J e.c5,.v<|.bool e.d1,.v<|Y J e.d2,.v<|Y J e.d3,.v<|Y J e.d4],68,.cl,X⟩
def rE (b:List AB) (i q:Nat):EW:=letI a:=CT b q;⟨gI<|B8 a<|i+0,gI<|B8 a<|i+1,gI<|B8 a<|i+2,gI<|B8 a<|i+3,gI<|B8 a<|i+4,gI<|B8 a<|i+5,gI<|B8 a<|i+6,gI<|B8 a<|i+7,gBo<|B8 a<|i+8,gI<|B8 a<|i+9,gI<|B8 a<|i+10,gI<|B8 a<|i+11⟩
def rG (b:List AB):EW:=rE b 20 16
structure LO where
 (i k0 k1 k2:Int)
 p:PK
 ev:EW
def U8 (s:LO):List LV:=[.own 16 0,s.i,.v<|.agg #[s.k0,s.k1,s.k2]]
def Yg (s:LO):List AB:=[AO,AO,zB,AO,bV 67 Ad s.p.cs,bV 101 AP s.p.ls,bV 5 (.int aw) s.p.fl,bV 127 Am s.p.ra,bV 90 B3 s.p.st,bV 55 AP s.p.ca,bV 107 B6 s.p.mi,bV 93 BO s.p.me,bV 57 As s.p.dm,bV 103 BJ s.p.lk,bV 3 A7 s.p.dr,bV 3 A7 s.p.tg,⟨[.os 4 11 0<|M s.p.cs,.xl .str s.p.os,.xl Ah s.p.ks,.xl Af s.p.gs,.xl Ai s.p.bs,.v<|Y J s.p.tk,.v<|.bool s.p.up,.os 5 5 0<|M s.p.ls,.v<|Y J s.p.se,.os 6 1 0<|M s.p.fl,.os 7 2 0<|M s.p.ra,.v<|Y J s.p.nx,.os 8 4 0<|M s.p.st,.os 9 5 0<|M s.p.ca,.os 10 3 0<|M s.p.mi,.os 11 3 0<|M s.p.me,.os 12 4 0<|M s.p.dm,.os 13 6 0<|M s.p.lk,.os 14 1 0<|M s.p.dr,.os 15 1 0<|M s.p.tg,.v<|Y J s.ev.ek,.v<|Y J s.ev.en,.v<|Y J s.ev.em,.v<|Y J s.ev.c1,.v<|Y J s.ev.c2,.v<|Y J s.ev.c3,.v<|Y J s.ev.c4,.v<|Y J s.ev.c5,.v<|.bool s.ev.d1,.v<|Y J s.ev.d2,.v<|Y J s.ev.d3,.v<|Y J s.ev.d4,.v<|.slice aj 0 0],85,.cl,X⟩]
structure YC where
 res:Int
 p:PK
 ev:EW
def acW (s:YC):LV:=.v<|Y J s.res
def ad1 (s:YC):List AB:=[AO,AO,zB,AO,bV 67 Ad s.p.cs,bV 101 AP s.p.ls,bV 5 (.int aw) s.p.fl,bV 127 Am s.p.ra,bV 90 B3 s.p.st,bV 55 AP s.p.ca,bV 107 B6 s.p.mi,bV 93 BO s.p.me,bV 57 As s.p.dm,bV 103 BJ s.p.lk,bV 3 A7 s.p.dr,bV 3 A7 s.p.tg,⟨[.os 4 11 0<|M s.p.cs,.xl .str s.p.os,.xl Ah s.p.ks,.xl Af s.p.gs,.xl Ai s.p.bs,.v<|Y J s.p.tk,.v<|.bool s.p.up,.os 5 5 0<|M s.p.ls,.v<|Y J s.p.se,.os 6 1 0<|M s.p.fl,.os 7 2 0<|M s.p.ra,.v<|Y J s.p.nx,.os 8 4 0<|M s.p.st,.os 9 5 0<|M s.p.ca,.os 10 3 0<|M s.p.mi,.os 11 3 0<|M s.p.me,.os 12 4 0<|M s.p.dm,.os 13 6 0<|M s.p.lk,.os 14 1 0<|M s.p.dr,.os 15 1 0<|M s.p.tg,.v<|Y J s.ev.ek,.v<|Y J s.ev.en,.v<|Y J s.ev.em,.v<|Y J s.ev.c1,.v<|Y J s.ev.c2,.v<|Y J s.ev.c3,.v<|Y J s.ev.c4,.v<|Y J s.ev.c5,.v<|.bool s.ev.d1,.v<|Y J s.ev.d2,.v<|Y J s.ev.d3,.v<|Y J s.ev.d4,.v<|.slice aj 0 0],85,.cl,X⟩]
def yp (s:LO):T YC:=letI c:=s.p.st.getD s.i.toNat<|Ty.dflt B3;letI d:=M s.p.st;letI a:=sE (AG s.p.gs s.i) c s.k0 s.k1 s.k2;letI b:=sN (AG s.p.gs s.i) c s.k0 s.k1 s.k2;.ix s.i (M s.p.gs)<|.ik s.i d<|.br (a==0) (.ik s.i d<|.pa s.p<|.re d (s.p.st.set s.i.toNat b)<|.rl s.p.ca<|.rl s.p.mi<|.rl s.p.me<|.rl s.p.dm<|.rl s.p.lk<|.rl s.p.dr<|.rl s.p.tg<|.ok<|⟨a,{s.p with st:=s.p.st.set s.i.toNat b},s.ev⟩)<|.pc s.p<|.ok<|⟨a,s.p,s.ev⟩
def aAu (s:LO):Prop:=0<=s.i/\s.i<(M s.p.gs:Int)/\M s.p.st=M s.p.gs
def gq (s:LO):YC:=⟨sE (AG s.p.gs s.i) (Bq s.p.st s.i) s.k0 s.k1 s.k2,{s.p with st:=Ct s.p.gs s.p.st s.i s.k0 s.k1 s.k2},s.ev⟩
def aBK:Cx LO YC:=⟨U8,Yg,λv b=>⟨AK v 1,gI<|ED (v.getD 2 .junk) 0,gI<|ED (v.getD 2 .junk) 1,gI<|ED (v.getD 2 .junk) 2,rF b,rG b⟩,aAu,[0,1,3],[],acW,ad1,gq⟩
abbrev ud (s:LO):Prop:=aAu s/\U8 s=U8 s/\Yg s=Yg s
def ef:List Bd:=[Qt]
def aTi:DL:=CS 23 0 9 (Gb.lp)<|Du prog AU (ef) 20 2
def aoc:EL prog AU aTi:=DD func23 rfl AT Cn<|Hb<|gk ef
def ayT (s:LO):((Ec prog AU ef aTi Fx).k 40 (U8 s)<|Yg s).bind (λq=>G6 (M<|Yg s) [0] [] .normal (q.1::U8 s) q.2)=(yp s).mp (λs2=>⟨.normal,M (U8 s)+1,[acW s2],ad1 s2,U⟩):=AT
theorem avi (s:LO) (hE:aAu s):(yp s).all (λq=>q=gq s):=by
 obtain ⟨h0,h1,h2⟩:=hE;refine ⟨A0,A0,A0,λc=>?_,λc=>?_⟩
 ·have c:=eq_of_beq c
  have hg:Ct s.p.gs s.p.st s.i s.k0 s.k1 s.k2=_:=AD c
  repeat (refine ⟨A8,?_⟩)
  unfold gq;rw [hg];rfl
 ·have c:=CU.1 c
  have hg:Ct s.p.gs s.p.st s.i s.k0 s.k1 s.k2=s.p.st:=AE c
  repeat (refine ⟨AI,?_⟩)
  unfold gq;rw [hg];rfl
def ahs:Df prog AU 40 aBK.m:=Cx.sound (D:=aBK) (t:=yp) (gk ef) aoc Q0 ayT λs hE=>⟨avi s hE⟩
structure MX where
 (n i:Int)
 p:PK
 ev:EW
 left:List Lk
def vA (s:MX):T (Rd MX):=letI a:=s.p.lk.getD s.i.toNat<|Ty.dflt BJ;.br (an<|s.i<s.n) (.ik s.i (M s.p.lk)<|.br (a.2.2.1 !=s.ev.en) (.rb (M s.left) (M<|[a]) 48<|.re (M s.left+M ([a])) (s.left++([a]))<|.rl s.p.lk<|.pc s.p<|.nx {s with i:=AA<|s.i+1,left:=s.left++([a])})<|.rl s.left<|.rl s.p.lk<|.pc s.p<|.nx {s with i:=AA<|s.i+1})<|.rl s.left<|.rl s.p.lk<|.pc s.p<|.so (.exit 0) s
def jc (s:MX):Prop:=s.i=0/\s.n=(M s.p.lk:Int)/\s.n<=20000000/\(M s.left:Int)<=s.i
def iW (s:MX):Prop:=0<=s.i/\s.i<=s.n/\s.n=(M s.p.lk:Int)/\s.n<=20000000/\(M s.left:Int)<=s.i
def ep (s:MX):Nat:=(s.n-s.i).toNat
def ac6 (x:Ex) (s s':MX):Prop:=True
def al1:∀s,jc s->iW s:=by
 rintro s ⟨h0,h2,h3,h4⟩
 exact xZ
theorem azf:Da iW ep ac6 vA:=by
 intro s hI;obtain ⟨h0,h1,h2,h3,h4⟩:=hI;refine AH (λc1=>AH (λc2=>?_) λc2=>?_) λc1=>trivial
 all_goals have c1:s.i<s.n:=AX
 all_goals rw [AJ (x:=s.i+1)]
 ·exact ⟨⟨AZ,AZ,h2,h3,A8⟩,by simp only [ep];omega⟩
 ·exact ⟨⟨A8,A8,h2,h3,AZ⟩,by simp only [ep];omega⟩
def KT:AS MX:=⟨18,30,[0,1,4,11,12,13],[.nl 4 103 BJ],λs=>[.own 16 0,.fn 42 [.own 17 0],.os 18 6 0<|M s.left,.os 13 6 0<|M s.p.lk,s.n,s.i],λs=>[AO,AO,zB,AO,bV 67 Ad s.p.cs,bV 101 AP s.p.ls,bV 5 (.int aw) s.p.fl,bV 127 Am s.p.ra,bV 90 B3 s.p.st,bV 55 AP s.p.ca,bV 107 B6 s.p.mi,bV 93 BO s.p.me,bV 57 As s.p.dm,bV 103 BJ s.p.lk,bV 3 A7 s.p.dr,bV 3 A7 s.p.tg,⟨[.os 4 11 0<|M s.p.cs,.xl .str s.p.os,.xl Ah s.p.ks,.xl Af s.p.gs,.xl Ai s.p.bs,.v<|Y J s.p.tk,.v<|.bool s.p.up,.os 5 5 0<|M s.p.ls,.v<|Y J s.p.se,.os 6 1 0<|M s.p.fl,.os 7 2 0<|M s.p.ra,.v<|Y J s.p.nx,.os 8 4 0<|M s.p.st,.os 9 5 0<|M s.p.ca,.os 10 3 0<|M s.p.mi,.os 11 3 0<|M s.p.me,.os 12 4 0<|M s.p.dm,.os 13 6 0<|M s.p.lk,.os 14 1 0<|M s.p.dr,.os 15 1 0<|M s.p.tg,.v<|Y J s.ev.ek,.v<|Y J s.ev.en,.v<|Y J s.ev.em,.v<|Y J s.ev.c1,.v<|Y J s.ev.c2,.v<|Y J s.ev.c3,.v<|Y J s.ev.c4,.v<|Y J s.ev.c5,.v<|.bool s.ev.d1,.v<|Y J s.ev.d2,.v<|Y J s.ev.d3,.v<|Y J s.ev.d4,.v<|.slice aj 0 0],85,.cl,X⟩,⟨[.own 16 0],80,.cl,X⟩,bV 103 BJ s.left],λv b=>⟨AK v 4,AK v 5,rF b,rG b,Ab BJ b 18⟩,vA,λs r=> {s with i:=r.i,left:=r.left},λs=>s,λ_ s=>s,[.exit 0],jc,iW,ep⟩
abbrev aCu:=KT.run
abbrev atV:=KT.At
def uU:List Bd:=[Tk]
def azQ:Aw:=kI uU<|la 9 func23 Cn<|l0 uU
def axh:Rq iW vA:=by
 intro s hI;refine ⟨λc1=>⟨?_,?_,λc2=>⟨?_,?_,A9,A9,A9,A9,A9,A9,A9,A9,A9,A9,A9,A9,A9,ak⟩,λc2=>⟨A9,A9,A9,A9,A9,A9,A9,A9,A9,A9,A9,A9,A9,A9,ak⟩⟩,λc1=>⟨A9,A9,A9,A9,A9,A9,A9,A9,A9,A9,A9,A9,A9,A9,ak⟩⟩
 all_goals ((obtain ⟨h0,h1,h2,h3,h4⟩:=hI;(try simp only [Aa] at c1);first|omega|exact ⟨rfl,rfl⟩ |(simp only [Bc,Bn,BD];omega) |(simp only [BD,Bc,Bn,FB];done)))
def aQ2:KT.Ok:={}
def aPV:KT.Pf (ac6):=⟨al1,λs h=>rfl,azf,axh⟩
def K8:=s2 (b:=bN f41 0) aQ2 aPV uU azQ
def aoD {l:List Lk}{i:Int}(h0:0<=i) (h:i<M l):l.drop i.toNat=l.getD i.toNat (Ty.dflt BJ)::l.drop (i+1).toNat:=by
 rw [SK A0,DV,DX A0,show (i+1).toNat=i.toNat+1 by omega]
 rfl
theorem arQ:Rs jc atV aCu (λs:MX=>s.left++(s.p.lk.drop s.i.toNat).filter (λl=>l.2.2.1 !=s.ev.en)) (λx s' (v:List Lk)=>x=.exit 0/\s'.left=v):=DN aQ2 aPV (λs hI=>by
  obtain ⟨h0,h1,h2,h3,h4⟩:=hI;refine AH (λc1=>?_) λc1=>?_
  ·have c1:s.i<s.n:=A8
   rw [AJ (x:=s.i+1),aoD h0 A0];refine AH (λc2=>?_) λc2=>?_
   ·show _++[_]++_=_++_
    rw [N1,AD c2,Cm];rfl
   ·show _++_=_++_
    grind
  ·have c1:s.n<=s.i:=A8
   refine ⟨rfl,?_⟩;rw [En A0]
   simp)
def JF (e:Int) (a b:PK):PK:=if e=0 then a else b
def LJ {e:Int}{a b:PK}(h:e=0):JF e a b=a:=AD h
def JX {e:Int}{a b:PK}(h:e≠0):JF e a b=b:=AE h
def TC {α:Type}(l:List α):(l.drop 0).take (M l)=l:=AI
def dt {l:List Ch}(h:M l<=1000):AA ((M l:Int)-1)=(M l:Int)-1:=AJ
structure Nr where
 p:PK
 ev:EW
def UZ (s:Nr):List LV:=[.own 16 0]
def Yd (s:Nr):List AB:=[AO,AO,zB,AO,bV 67 Ad s.p.cs,bV 101 AP s.p.ls,bV 5 (.int aw) s.p.fl,bV 127 Am s.p.ra,bV 90 B3 s.p.st,bV 55 AP s.p.ca,bV 107 B6 s.p.mi,bV 93 BO s.p.me,bV 57 As s.p.dm,bV 103 BJ s.p.lk,bV 3 A7 s.p.dr,bV 3 A7 s.p.tg,⟨[.os 4 11 0<|M s.p.cs,.xl .str s.p.os,.xl Ah s.p.ks,.xl Af s.p.gs,.xl Ai s.p.bs,.v<|Y J s.p.tk,.v<|.bool s.p.up,.os 5 5 0<|M s.p.ls,.v<|Y J s.p.se,.os 6 1 0<|M s.p.fl,.os 7 2 0<|M s.p.ra,.v<|Y J s.p.nx,.os 8 4 0<|M s.p.st,.os 9 5 0<|M s.p.ca,.os 10 3 0<|M s.p.mi,.os 11 3 0<|M s.p.me,.os 12 4 0<|M s.p.dm,.os 13 6 0<|M s.p.lk,.os 14 1 0<|M s.p.dr,.os 15 1 0<|M s.p.tg,.v<|Y J s.ev.ek,.v<|Y J s.ev.en,.v<|Y J s.ev.em,.v<|Y J s.ev.c1,.v<|Y J s.ev.c2,.v<|Y J s.ev.c3,.v<|Y J s.ev.c4,.v<|Y J s.ev.c5,.v<|.bool s.ev.d1,.v<|Y J s.ev.d2,.v<|Y J s.ev.d3,.v<|Y J s.ev.d4,.v<|.slice aj 0 0],85,.cl,X⟩]
structure Y9 where
 res:Int
 p:PK
 ev:EW
def acT (s:Y9):LV:=.v<|Y J s.res
def acw (s:Y9):List AB:=[AO,AO,zB,AO,bV 67 Ad s.p.cs,AO,bV 5 (.int aw) s.p.fl,bV 127 Am s.p.ra,bV 90 B3 s.p.st,bV 55 AP s.p.ca,bV 107 B6 s.p.mi,bV 93 BO s.p.me,bV 57 As s.p.dm,bV 103 BJ s.p.lk,bV 3 A7 s.p.dr,bV 3 A7 s.p.tg,⟨[.os 4 11 0<|M s.p.cs,.xl .str s.p.os,.xl Ah s.p.ks,.xl Af s.p.gs,.xl Ai s.p.bs,.v<|Y J s.p.tk,.v<|.bool s.p.up,.xl AP s.p.ls,.v<|Y J s.p.se,.os 6 1 0<|M s.p.fl,.os 7 2 0<|M s.p.ra,.v<|Y J s.p.nx,.os 8 4 0<|M s.p.st,.os 9 5 0<|M s.p.ca,.os 10 3 0<|M s.p.mi,.os 11 3 0<|M s.p.me,.os 12 4 0<|M s.p.dm,.os 13 6 0<|M s.p.lk,.os 14 1 0<|M s.p.dr,.os 15 1 0<|M s.p.tg,.v<|Y J s.ev.ek,.v<|Y J s.ev.en,.v<|Y J s.ev.em,.v<|Y J s.ev.c1,.v<|Y J s.ev.c2,.v<|Y J s.ev.c3,.v<|Y J s.ev.c4,.v<|Y J s.ev.c5,.v<|.bool s.ev.d1,.v<|Y J s.ev.d2,.v<|Y J s.ev.d3,.v<|Y J s.ev.d4,.v<|.slice aj 0 0],85,.cl,X⟩]
def yo (s:Nr):T Y9:=
 .br (!s.p.up) (.rz s.p.ls<|.rl s.p.cs<|.rl s.p.fl<|.rl s.p.ra<|.pb s.p<|.ok<|⟨6,{s.p with ls:=(s.p.ls.drop 0).take<|M s.p.ls},s.ev⟩) (.rl s.p.cs<|.rl s.p.fl<|.rl s.p.ra<|.pb s.p<|.ok<|⟨0,{s.p with up:=X,ls:=([]:List Le)},s.ev⟩)
def aAr (s:Nr):Prop:=True
def gp (s:Nr):Y9:=⟨PK.Mm s.p,JF (PK.Mm s.p) (PK.P8 s.p) s.p,s.ev⟩
def aBI:Cx Nr Y9:=⟨UZ,Yd,λv b=>⟨rF b,rG b⟩,aAr,[0,1,3],[.pc 16 7 AP,.kb 5],acT,acw,gp⟩
abbrev aiY (s:Nr):Prop:=aAr s/\UZ s=UZ s/\Yd s=Yd s
def eZ:List Bd:=[]
def aTf:DL:=CS 41 18 2 (KT.lp)<|CS 23 0 9 (Gb.lp)<|Du prog AU (eZ) 20 2
def aoZ:EL prog AU aTf:=DD func41 rfl AT K8<|DD func23 rfl AT Cn<|Hb<|gk eZ
def ayO (s:Nr):((Ec prog AU eZ aTf Fx).k 19 (UZ s)<|Yd s).bind (λq=>G6 (M<|Yd s) [0] [.pc 16 7 AP,.kb 5] .normal (q.1::UZ s) q.2)=(yo s).mp (λs2=>⟨.normal,M (UZ s)+1,[acT s2],acw s2,U⟩):=AT
theorem avf (s:Nr) (hE:aAr s):(yo s).all (λq=>q=gp s):=by
 refine ⟨λc=>⟨A0,?_⟩,λc=>?_⟩
 ·have c:s.p.up=false:=A8
  have he:s.p.Mm=6:=AD c
  rw [TC]
  repeat (refine ⟨AI,?_⟩)
  show _=_
  unfold gp;rw [JX A8];rw [he]
 ·have c:s.p.up=true:=A8
  have he:s.p.Mm=0:=AE A8
  repeat (refine ⟨AI,?_⟩)
  unfold gp;rw [he];rfl
def ahq:Df prog AU 19 aBI.m:=Cx.sound (D:=aBI) (t:=yo) (gk eZ) aoZ Q0 ayO λs hE=>⟨avf s hE⟩
structure Nm where
 p:PK
 ev:EW
def US (s:Nm):List LV:=[.own 16 0]
def YX (s:Nm):List AB:=[AO,AO,zB,AO,bV 67 Ad s.p.cs,bV 101 AP s.p.ls,bV 5 (.int aw) s.p.fl,bV 127 Am s.p.ra,bV 90 B3 s.p.st,bV 55 AP s.p.ca,bV 107 B6 s.p.mi,bV 93 BO s.p.me,bV 57 As s.p.dm,bV 103 BJ s.p.lk,bV 3 A7 s.p.dr,bV 3 A7 s.p.tg,⟨[.os 4 11 0<|M s.p.cs,.xl .str s.p.os,.xl Ah s.p.ks,.xl Af s.p.gs,.xl Ai s.p.bs,.v<|Y J s.p.tk,.v<|.bool s.p.up,.os 5 5 0<|M s.p.ls,.v<|Y J s.p.se,.os 6 1 0<|M s.p.fl,.os 7 2 0<|M s.p.ra,.v<|Y J s.p.nx,.os 8 4 0<|M s.p.st,.os 9 5 0<|M s.p.ca,.os 10 3 0<|M s.p.mi,.os 11 3 0<|M s.p.me,.os 12 4 0<|M s.p.dm,.os 13 6 0<|M s.p.lk,.os 14 1 0<|M s.p.dr,.os 15 1 0<|M s.p.tg,.v<|Y J s.ev.ek,.v<|Y J s.ev.en,.v<|Y J s.ev.em,.v<|Y J s.ev.c1,.v<|Y J s.ev.c2,.v<|Y J s.ev.c3,.v<|Y J s.ev.c4,.v<|Y J s.ev.c5,.v<|.bool s.ev.d1,.v<|Y J s.ev.d2,.v<|Y J s.ev.d3,.v<|Y J s.ev.d4,.v<|.slice aj 0 0],85,.cl,X⟩]
structure XV where
 res:Int
 p:PK
 ev:EW
def abD (s:XV):LV:=.v<|Y J s.res
def aby (s:XV):List AB:=[AO,AO,zB,AO,bV 67 Ad s.p.cs,bV 101 AP s.p.ls,bV 5 (.int aw) s.p.fl,bV 127 Am s.p.ra,bV 90 B3 s.p.st,bV 55 AP s.p.ca,bV 107 B6 s.p.mi,bV 93 BO s.p.me,bV 57 As s.p.dm,bV 103 BJ s.p.lk,bV 3 A7 s.p.dr,bV 3 A7 s.p.tg,⟨[.os 4 11 0<|M s.p.cs,.xl .str s.p.os,.xl Ah s.p.ks,.xl Af s.p.gs,.xl Ai s.p.bs,.v<|Y J s.p.tk,.v<|.bool s.p.up,.os 5 5 0<|M s.p.ls,.v<|Y J s.p.se,.os 6 1 0<|M s.p.fl,.os 7 2 0<|M s.p.ra,.v<|Y J s.p.nx,.os 8 4 0<|M s.p.st,.os 9 5 0<|M s.p.ca,.os 10 3 0<|M s.p.mi,.os 11 3 0<|M s.p.me,.os 12 4 0<|M s.p.dm,.os 13 6 0<|M s.p.lk,.os 14 1 0<|M s.p.dr,.os 15 1 0<|M s.p.tg,.v<|Y J s.ev.ek,.v<|Y J s.ev.en,.v<|Y J s.ev.em,.v<|Y J s.ev.c1,.v<|Y J s.ev.c2,.v<|Y J s.ev.c3,.v<|Y J s.ev.c4,.v<|Y J s.ev.c5,.v<|.bool s.ev.d1,.v<|Y J s.ev.d2,.v<|Y J s.ev.d3,.v<|Y J s.ev.d4,.v<|.slice aj 0 0],85,.cl,X⟩]
def ft (s:Nm):T XV:=letI a:=(Ct s.p.gs s.p.st s.ev.en (6:Int) (1:Int) (0:Int));.br (!(inB s.ev.en (0:Int)<|AA<|(M s.p.gs:Int)-1)) (.pc s.p<|.ok<|⟨1,s.p,s.ev⟩)<|.pc s.p<|.req (ud (⟨s.ev.en,6,1,0,s.p,s.ev⟩:LO))<|.pa s.p<|.rl a<|.rl s.p.ca<|.rl s.p.mi<|.rl s.p.me<|.rl s.p.dm<|.rl s.p.lk<|.rl s.p.dr<|.rl s.p.tg<|.ok<|⟨sE (AG s.p.gs s.ev.en) (Bq s.p.st s.ev.en) (6:Int) (1:Int) (0:Int),{s.p with st:=a},s.ev⟩
def aB7 (s:Nm):Prop:=M s.p.st=M s.p.gs/\M s.p.gs<=1000
def gj (s:Nm):XV:=⟨PK.P1 s.p s.ev.en,{s.p with st:=if PK.isC s.p s.ev.en=U then Ct s.p.gs s.p.st s.ev.en 6 1 0 else s.p.st},s.ev⟩
def aBC:Cx Nm XV:=⟨US,YX,λv b=>⟨rF b,rG b⟩,aB7,[0,1,3],[],abD,aby,gj⟩
abbrev aiS (s:Nm):Prop:=aB7 s/\US s=US s/\YX s=YX s
def ID:List Bd:=[Tk]
def fI:Aw:=I1 ID (la 2 func41 K8<|la 9 func23 Cn<|l0 ID) [⟨40,aBK.m,ahs⟩]
def aTE:DL:=CS 41 18 2 (KT.lp)<|CS 23 0 9 (Gb.lp)<|Du prog AU ID 20 2
def aoT:EL prog AU aTE:=DD func41 rfl AT K8<|DD func23 rfl AT Cn<|Hb<|gk ID
def ayI (s:Nm):((Ec prog AU ID aTE fI).k 21 (US s)<|YX s).bind (λq=>G6 (M<|YX s) [0] [] .normal (q.1::US s) q.2)=(ft s).mp (λs2=>⟨.normal,M (US s)+1,[abD s2],aby s2,U⟩):=AT
theorem avY (s:Nm) (hE:aB7 s):(ft s).all (λq=>q=gj s):=by
 obtain ⟨h1,h2⟩:=hE;unfold ft;rw [dt h2];refine ⟨λc=>?_,λc=>?_⟩
 ·have c:s.p.isC s.ev.en=false:=Pt
  repeat (refine ⟨AI,?_⟩)
  show _=_
  unfold gj PK.P1
  simp_all
 ·have c:s.p.isC s.ev.en=true:=Pt
  have ci:=CM.1 c
  have ci2:s.ev.en<(M s.p.gs:Int):=A0
  repeat (refine ⟨AI,?_⟩)
  refine ⟨⟨⟨ci.1,ci2,h1⟩,rfl,rfl⟩,?_⟩
  repeat (refine ⟨AI,?_⟩)
  show _=_
  unfold gj PK.P1
  grind
def ahj:Df prog AU 21 aBC.m:=Cx.sound (D:=aBC) (t:=ft) (gk ID) aoT fI.h ayI λs hE=>⟨avY s hE⟩
structure Nq where
 p:PK
 ev:EW
def UY (s:Nq):List LV:=[.own 16 0]
def Yc (s:Nq):List AB:=[AO,AO,zB,AO,bV 67 Ad s.p.cs,bV 101 AP s.p.ls,bV 5 (.int aw) s.p.fl,bV 127 Am s.p.ra,bV 90 B3 s.p.st,bV 55 AP s.p.ca,bV 107 B6 s.p.mi,bV 93 BO s.p.me,bV 57 As s.p.dm,bV 103 BJ s.p.lk,bV 3 A7 s.p.dr,bV 3 A7 s.p.tg,⟨[.os 4 11 0<|M s.p.cs,.xl .str s.p.os,.xl Ah s.p.ks,.xl Af s.p.gs,.xl Ai s.p.bs,.v<|Y J s.p.tk,.v<|.bool s.p.up,.os 5 5 0<|M s.p.ls,.v<|Y J s.p.se,.os 6 1 0<|M s.p.fl,.os 7 2 0<|M s.p.ra,.v<|Y J s.p.nx,.os 8 4 0<|M s.p.st,.os 9 5 0<|M s.p.ca,.os 10 3 0<|M s.p.mi,.os 11 3 0<|M s.p.me,.os 12 4 0<|M s.p.dm,.os 13 6 0<|M s.p.lk,.os 14 1 0<|M s.p.dr,.os 15 1 0<|M s.p.tg,.v<|Y J s.ev.ek,.v<|Y J s.ev.en,.v<|Y J s.ev.em,.v<|Y J s.ev.c1,.v<|Y J s.ev.c2,.v<|Y J s.ev.c3,.v<|Y J s.ev.c4,.v<|Y J s.ev.c5,.v<|.bool s.ev.d1,.v<|Y J s.ev.d2,.v<|Y J s.ev.d3,.v<|Y J s.ev.d4,.v<|.slice aj 0 0],85,.cl,X⟩]
structure Y8 where
 res:Int
 p:PK
 ev:EW
def acS (s:Y8):LV:=.v<|Y J s.res
def acv (s:Y8):List AB:=[AO,AO,zB,AO,bV 67 Ad s.p.cs,bV 101 AP s.p.ls,bV 5 (.int aw) s.p.fl,bV 127 Am s.p.ra,bV 90 B3 s.p.st,bV 55 AP s.p.ca,bV 107 B6 s.p.mi,bV 93 BO s.p.me,bV 57 As s.p.dm,bV 103 BJ s.p.lk,bV 3 A7 s.p.dr,bV 3 A7 s.p.tg,⟨[.os 4 11 0<|M s.p.cs,.xl .str s.p.os,.xl Ah s.p.ks,.xl Af s.p.gs,.xl Ai s.p.bs,.v<|Y J s.p.tk,.v<|.bool s.p.up,.os 5 5 0<|M s.p.ls,.v<|Y J s.p.se,.os 6 1 0<|M s.p.fl,.os 7 2 0<|M s.p.ra,.v<|Y J s.p.nx,.os 8 4 0<|M s.p.st,.os 9 5 0<|M s.p.ca,.os 10 3 0<|M s.p.mi,.os 11 3 0<|M s.p.me,.os 12 4 0<|M s.p.dm,.os 13 6 0<|M s.p.lk,.os 14 1 0<|M s.p.dr,.os 15 1 0<|M s.p.tg,.v<|Y J s.ev.ek,.v<|Y J s.ev.en,.v<|Y J s.ev.em,.v<|Y J s.ev.c1,.v<|Y J s.ev.c2,.v<|Y J s.ev.c3,.v<|Y J s.ev.c4,.v<|Y J s.ev.c5,.v<|.bool s.ev.d1,.v<|Y J s.ev.d2,.v<|Y J s.ev.d3,.v<|Y J s.ev.d4,.v<|.slice aj 0 0],85,.cl,X⟩]
def fz (s:Nq):T Y8:=letI a:=(Ct s.p.gs s.p.st s.ev.en (6:Int) (0:Int) (0:Int));letI b:=(Ct s.p.gs a s.ev.en (2:Int) (0:Int) (0:Int));letI c:=(X,((0:Int),((0:Int),(9:Int))));letI d:=M s.p.ca;.br (!(inB s.ev.en (0:Int)<|AA<|(M s.p.gs:Int)-1)) (.pc s.p<|.ok<|⟨1,s.p,s.ev⟩)<|.ik s.ev.en d<|.br (!((s.p.ca.getD s.ev.en.toNat<|Ty.dflt AP).2.2.1 !=0)) (.pc s.p<|.ok<|⟨4,s.p,s.ev⟩)<|.pc s.p<|.req (ud (⟨s.ev.en,6,0,0,s.p,s.ev⟩:LO))<|.pa s.p<|.rl a<|.rl s.p.ca<|.rl s.p.mi<|.rl s.p.me<|.rl s.p.dm<|.rl s.p.lk<|.rl s.p.dr<|.rl s.p.tg<|.req (ud (⟨s.ev.en,2,0,0,{s.p with st:=a},s.ev⟩:LO))<|.ik s.ev.en d<|.ik s.ev.en (M s.p.mi)<|.ik s.ev.en (M s.p.dm)<|.pa s.p<|.rl b<|.re d (s.p.ca.set s.ev.en.toNat ((0:Int),((0:Int),((0:Int),((0:Int),(0:Int))))))<|.re (M s.p.mi) (s.p.mi.set s.ev.en.toNat (([]:List Int),((0:Int),(0:Int))))<|.rl s.p.me<|.re (M s.p.dm) (s.p.dm.set s.ev.en.toNat c)<|.rl s.p.lk<|.rl s.p.dr<|.rl s.p.tg<|.ok<|⟨0,{s.p with st:=b,ca:=s.p.ca.set s.ev.en.toNat ((0:Int),((0:Int),((0:Int),((0:Int),(0:Int))))),mi:=s.p.mi.set s.ev.en.toNat (([]:List Int),((0:Int),(0:Int))),dm:=s.p.dm.set s.ev.en.toNat c},s.ev⟩
def aAq (s:Nq):Prop:=M s.p.st=M s.p.gs/\M s.p.gs<=1000/\M s.p.ca=M s.p.gs/\M s.p.mi=M s.p.gs/\M s.p.dm=M s.p.gs
def XD (s:Nq):Y8:=⟨PK.KI s.p s.ev.en,JF (PK.KI s.p s.ev.en) (PK.QY s.p s.ev.en) s.p,s.ev⟩
def aBH:Cx Nq Y8:=⟨UY,Yc,λv b=>⟨rF b,rG b⟩,aAq,[0,1,3],[],acS,acv,XD⟩
abbrev aiX (s:Nq):Prop:=aAq s/\UY s=UY s/\Yc s=Yc s
def aTe:DL:=CS 41 18 2 (KT.lp)<|CS 23 0 9 (Gb.lp)<|Du prog AU ID 20 2
def aoY:EL prog AU aTe:=DD func41 rfl AT K8<|DD func23 rfl AT Cn<|Hb<|gk ID
def ayN (s:Nq):((Ec prog AU ID aTe fI).k 17 (UY s)<|Yc s).bind (λq=>G6 (M<|Yc s) [0] [] .normal (q.1::UY s) q.2)=(fz s).mp (λs2=>⟨.normal,M (UY s)+1,[acS s2],acv s2,U⟩):=AT
theorem ave (s:Nq) (hE:aAq s):(fz s).all (λq=>q=XD s):=by
 obtain ⟨h1,h2,h3,h4,h5⟩:=hE;unfold fz;rw [dt h2];refine ⟨λc=>?_,λc=>?_⟩
 ·have c:s.p.isC s.ev.en=false:=Pt
  have he:s.p.KI s.ev.en=1:=AD c
  repeat (refine ⟨AI,?_⟩)
  show _=_
  unfold XD;rw [JX M9];rw [he]
 ·have c:s.p.isC s.ev.en=true:=Pt
  have ci:=CM.1 c
  have ci2:s.ev.en<(M s.p.gs:Int):=A0
  have hc:¬s.p.isC s.ev.en=false:=VM
  refine ⟨A0,A0,λc2=>?_,λc2=>?_⟩
  ·have c2:(BZ s.p.ca s.ev.en).2.2.1=0:=by simp only [DB,bne_eq_false_iff_eq] at c2;exact c2
   have he:s.p.KI s.ev.en=4:=by unfold PK.KI;rw [AE hc,AD c2]
   repeat (refine ⟨AI,?_⟩)
   show _=_
   unfold XD;rw [JX M9];rw [he]
  ·have c2:¬(BZ s.p.ca s.ev.en).2.2.1=0:=by simp only [I8,EX] at c2;exact c2
   have he:s.p.KI s.ev.en=0:=by unfold PK.KI;rw [AE hc,AE c2]
   have hg:M (Ct s.p.gs s.p.st s.ev.en 6 0 0)=M s.p.gs:=by rw [L9];exact h1
   repeat (refine ⟨AI,?_⟩)
   refine ⟨⟨⟨ci.1,ci2,h1⟩,rfl,rfl⟩,?_⟩
   repeat (refine ⟨A0,?_⟩)
   refine ⟨⟨⟨ci.1,ci2,hg⟩,rfl,rfl⟩,?_⟩
   repeat (refine ⟨A8,?_⟩)
   show _=_
   unfold XD;rw [LJ he];rw [he];rfl
def ahp:Df prog AU 17 aBH.m:=Cx.sound (D:=aBH) (t:=fz) (gk ID) aoY fI.h ayN λs hE=>⟨ave s hE⟩
structure Np where
 p:PK
 ev:EW
def UX (s:Np):List LV:=[.own 16 0]
def Yb (s:Np):List AB:=[AO,AO,zB,AO,bV 67 Ad s.p.cs,bV 101 AP s.p.ls,bV 5 (.int aw) s.p.fl,bV 127 Am s.p.ra,bV 90 B3 s.p.st,bV 55 AP s.p.ca,bV 107 B6 s.p.mi,bV 93 BO s.p.me,bV 57 As s.p.dm,bV 103 BJ s.p.lk,bV 3 A7 s.p.dr,bV 3 A7 s.p.tg,⟨[.os 4 11 0<|M s.p.cs,.xl .str s.p.os,.xl Ah s.p.ks,.xl Af s.p.gs,.xl Ai s.p.bs,.v<|Y J s.p.tk,.v<|.bool s.p.up,.os 5 5 0<|M s.p.ls,.v<|Y J s.p.se,.os 6 1 0<|M s.p.fl,.os 7 2 0<|M s.p.ra,.v<|Y J s.p.nx,.os 8 4 0<|M s.p.st,.os 9 5 0<|M s.p.ca,.os 10 3 0<|M s.p.mi,.os 11 3 0<|M s.p.me,.os 12 4 0<|M s.p.dm,.os 13 6 0<|M s.p.lk,.os 14 1 0<|M s.p.dr,.os 15 1 0<|M s.p.tg,.v<|Y J s.ev.ek,.v<|Y J s.ev.en,.v<|Y J s.ev.em,.v<|Y J s.ev.c1,.v<|Y J s.ev.c2,.v<|Y J s.ev.c3,.v<|Y J s.ev.c4,.v<|Y J s.ev.c5,.v<|.bool s.ev.d1,.v<|Y J s.ev.d2,.v<|Y J s.ev.d3,.v<|Y J s.ev.d4,.v<|.slice aj 0 0],85,.cl,X⟩]
structure Y7 where
 res:Int
 p:PK
 ev:EW
def acR (s:Y7):LV:=.v<|Y J s.res
def acu (s:Y7):List AB:=[AO,AO,zB,AO,bV 67 Ad s.p.cs,bV 101 AP s.p.ls,bV 5 (.int aw) s.p.fl,bV 127 Am s.p.ra,bV 90 B3 s.p.st,bV 55 AP s.p.ca,bV 107 B6 s.p.mi,bV 93 BO s.p.me,bV 57 As s.p.dm,AO,bV 3 A7 s.p.dr,bV 3 A7 s.p.tg,⟨[.os 4 11 0<|M s.p.cs,.xl .str s.p.os,.xl Ah s.p.ks,.xl Af s.p.gs,.xl Ai s.p.bs,.v<|Y J s.p.tk,.v<|.bool s.p.up,.os 5 5 0<|M s.p.ls,.v<|Y J s.p.se,.os 6 1 0<|M s.p.fl,.os 7 2 0<|M s.p.ra,.v<|Y J s.p.nx,.os 8 4 0<|M s.p.st,.os 9 5 0<|M s.p.ca,.os 10 3 0<|M s.p.mi,.os 11 3 0<|M s.p.me,.os 12 4 0<|M s.p.dm,.xl BJ s.p.lk,.os 14 1 0<|M s.p.dr,.os 15 1 0<|M s.p.tg,.v<|Y J s.ev.ek,.v<|Y J s.ev.en,.v<|Y J s.ev.em,.v<|Y J s.ev.c1,.v<|Y J s.ev.c2,.v<|Y J s.ev.c3,.v<|Y J s.ev.c4,.v<|Y J s.ev.c5,.v<|.bool s.ev.d1,.v<|Y J s.ev.d2,.v<|Y J s.ev.d3,.v<|Y J s.ev.d4,.v<|.slice aj 0 0],85,.cl,X⟩]
def fy (s:Np):T Y7:=letI b:=((M s.p.lk:Nat):Int);letI a:=(aCu (⟨b,0,s.p,s.ev,([]:List Lk)⟩:MX));.br (!(inB s.ev.en (0:Int)<|AA<|(M s.p.gs:Int)-1)) (.rz s.p.lk<|.pa s.p<|.rl s.p.st<|.rl s.p.ca<|.rl s.p.mi<|.rl s.p.me<|.rl s.p.dm<|.rl s.p.dr<|.rl s.p.tg<|.ok<|⟨1,{s.p with lk:=(s.p.lk.drop 0).take<|M s.p.lk},s.ev⟩)<|.r0 Lk<|.rl s.p.lk<|.pc s.p<|.req (KT.q (⟨b,0,s.p,s.ev,([]:List Lk)⟩:MX))<|.rz a.left<|.pa s.p<|.rl s.p.st<|.rl s.p.ca<|.rl s.p.mi<|.rl s.p.me<|.rl s.p.dm<|.rl s.p.dr<|.rl s.p.tg<|.ok<|⟨0,{s.p with lk:=(a.left.drop 0).take<|M a.left},s.ev⟩
def aBB (s:Np):Prop:=M s.p.gs<=1000/\M s.p.lk<=20000000
def gn (s:Np):Y7:=⟨PK.O2 s.p s.ev.en,JF (PK.O2 s.p s.ev.en) (PK.gT s.p s.ev.en) s.p,s.ev⟩
def aBG:Cx Np Y7:=⟨UX,Yb,λv b=>⟨rF b,rG b⟩,aBB,[0,1,3],[.pc 16 17 BJ,.kb 13],acR,acu,gn⟩
abbrev aiW (s:Np):Prop:=aBB s/\UX s=UX s/\Yb s=Yb s
def aR8:Aw:=kI ID<|la 2 func41 K8<|la 9 func23 Cn<|l0 ID
def aTd:DL:=CS 41 18 2 (KT.lp)<|CS 23 0 9 (Gb.lp)<|Du prog AU ID 20 2
def aoX:EL prog AU aTd:=DD func41 rfl AT K8<|DD func23 rfl AT Cn<|Hb<|gk ID
def ayM (s:Np):((Ec prog AU ID aTd aR8).k 18 (UX s)<|Yb s).bind (λq=>G6 (M<|Yb s) [0] [.pc 16 17 BJ,.kb 13] .normal (q.1::UX s) q.2)=(fy s).mp (λs2=>⟨.normal,M (UX s)+1,[acR s2],acu s2,U⟩):=AT
theorem avd (s:Np) (hE:aBB s):(fy s).all (λq=>q=gn s):=by
 obtain ⟨h1,h2⟩:=hE;unfold fy;rw [dt h1];refine ⟨λc=>⟨A0,?_⟩,λc=>?_⟩
 ·have c:s.p.isC s.ev.en=false:=Pt
  have he:s.p.O2 s.ev.en=1:=AD c
  rw [TC]
  repeat (refine ⟨AI,?_⟩)
  show _=_
  unfold gn;rw [JX A8];rw [he]
 ·have c:s.p.isC s.ev.en=true:=Pt
  have he:s.p.O2 s.ev.en=0:=AE A8
  have hV:jc (⟨((M s.p.lk:Nat):Int),(0:Int),s.p,s.ev,([]:List Lk)⟩:MX):=⟨rfl,rfl,A8,A8⟩
  have q:=(arQ _ hV).2
  rw [TC,q]
  repeat (refine ⟨AI,?_⟩)
  refine ⟨⟨hV,rfl,rfl⟩,?_⟩
  repeat (refine ⟨AI,?_⟩)
  unfold gn;rw [he];rfl
def aho:Df prog AU 18 aBG.m:=Cx.sound (D:=aBG) (t:=fy) (gk ID) aoX aR8.h ayM λs hE=>⟨avd s hE⟩
open Go.RowKit Go.Extern.Stop Go.Stop Go.Extern Go Go.Sx
def asx (v:Value) (w:World):(Extern.ReflectliteType.typeOf #[.iface 51 v]).run prog w=.ok (.iface 343<|.agg #[.pointer<|ah ⟨3,51,aj⟩]) w:=AT
def aKR:Array Value->Sem Value:=Extern.ReflectliteType.method λt=>do Extern.Rtype.noPackHeld "Comparable" t;pure<|.bool (←typeInfo t).comparable
def aeZ (w:World):(aKR #[.agg #[.pointer<|ah ⟨3,51,aj⟩]]).run prog w=.ok (.bool U) w:=AT
def asD (v:Value) (w:World):(Go.method 484 343 v "Comparable").run prog w=.ok (252,v) w:=AT
def alP (v:Value) (xT:TypeId) (w:World):(Instr.typeAssert (.iface 51 v) xT 345 U).run prog w=.ok (.tuple #[.nilIface,.bool X]) w:=wu Tryz.underlying345 AT AT v xT w
def ag6 (v:Value) (xT:TypeId) (w:World):(Instr.typeAssert (.iface 51 v) xT 348 U).run prog w=.ok (.tuple #[.nilIface,.bool X]) w:=wu Tryz.underlying348 AT AT v xT w
def afT (v:Value) (xT:TypeId) (w:World):(Instr.typeAssert (.iface 51 v) xT 350 U).run prog w=.ok (.tuple #[.nilIface,.bool X]) w:=wu Tryz.underlying350 AT AT v xT w
def ag5 (n m:Int) (w:World):Calls prog 218 #[.iface 51<|Y J n,.iface 51<|Y J m] w λe w'=>e=.returned (.bool<|n==m)/\w'=w:=by
 have hu:=Tryz.underlying336
 have h8:=@run_callFunc_extern prog 226 _ Extern.ReflectliteType.typeOf func226 AT AT AT AT
 have h32:=@run_callFunc_extern prog 252 _ aKR func252 AT AT AT AT
 have tT:=asx
 have cT:=aeZ
 have mR:=asD
 have nE:=alP
 have uE:=ag6
 have vE:=afT
 have heq:=Go.Lib.run_eql_iface_int (P:=prog) w (k:=J) n m hu (by kernel_rfl:(prog.info? 51).map (·.comparable)=ah U) (by kernel_rfl:prog.underlying 51=ah (.int J))
 by_cases e:n=m
 ·subst e
  simp only [OJ] at heq|-;exact aLu
 ·have e':(n==m)=false:=yg
  simp only [e'] at heq|-;exact aLu
def acg:List LV->T LV
 | [.v (.iface 51 (Y J n)),.v (.iface 51 (Y J m))]=> .ok (.v<|.bool<|n==m)
 |_=> .no
theorem gL:VV 218 acg:=λargs vals w Z lv hz hg hok hr h=>by
 unfold acg at h;split at h
 ·rename_i n m
  subst h;simp only [RL,R] at hr
  have e2:vals=#[.iface 51<|Y J n,.iface 51<|Y J m]:=by
   grind
  rw [e2];refine (ag5 n m w).mono λe w' ⟨he,hw⟩=>?_
  subst hw;exact ⟨Below.refl _ _,_,he,ak,JR⟩
 ·cases h
def aS2:List LV->T LV
 | [.agg [.v (Y J se),.xl (.int aw) fl]]=> .ok (HM se fl)
 |_=> .no
def fg:List Bd:=[]
def XH:=vo (S:=aS2) func127 fg kN (λargs lv h=>by
 unfold aS2 at h;split at h
 ·rename_i se fl
  refine Ap (letI a:=(M fl:Int);.br (an<|se>=1) (.br (an<|se<=512) (.br (an<|a>=se) (.br (an<|a<=4096) (.req (se≠0)<|.ok<|.v<|.bool<|(a.tmod se)==0)<|.ok X)<|.ok X)<|.ok X)<|.ok X) ?_;obtain rfl:=h;unfold HM;refine ⟨λc1=>⟨λc2=>⟨λc3=>⟨λc4=>⟨?_,?_⟩,λc4=>?_⟩,λc3=>?_⟩,λc2=>?_⟩,λc1=>?_⟩
  ·grind
  all_goals refine Az (λz=>LV.v<|.bool z) ?_
  all_goals first|(simp_all;done) |(simp_all;intros;omega) |(simp_all;omega)
 ·cases h)
def aRv:List LV->T LV
 | [.agg [.v (Y J se),.xl (.int aw) fl]]=> .ok (FQ se fl)
 |_=> .no
def ah0:List Bd:=[XH]
def vk:=vo (S:=aRv) func88 ah0 kN (λargs lv h=>by
 unfold aRv at h;split at h
 ·rename_i se fl
  refine Ap (.br (HM se fl) (.req (se≠0)<|.req ((2:Int)≠0)<|.ok<|.v<|.bool<|(((AA<|(M fl:Int).tdiv se).tmod 2)==0)&&(an<|(M fl:Int)>=32))<|.ok X) ?_;obtain rfl:=h;unfold FQ;refine ⟨λc1=>?_,λc1=>?_⟩
  ·have hv:=NN.1 c1
   refine ⟨A0,Ae,?_⟩;refine Az (λz=>LV.v<|.bool z) ?_
   rw [c1,AJ (x:=(M fl:Int).tdiv se) (by rw [I4 A0];exact IX Ae<|SX A0 A0) (by rw [I4 A0];exact IX (V1 _ A0) A0)]
   rfl
  ·refine Az (λz=>LV.v<|.bool z) ?_
   rw [c1];rfl
 ·cases h)
def aS1:List LV->T LV
 | [.v (Y ax n)]=> .ok (.xl (.int aw)<|Cv n)
 |_=> .no
def ajB:=vo (S:=aS1) func193 fg kN (λargs lv h=>by
 unfold aS1 at h;split at h
 ·rename_i n
  refine Ap (.ok<|.xl (.int aw)<|[(IntKind.u8.wrap<|n.fdiv<|2^24),(IntKind.u8.wrap<|n.fdiv<|2^16),(IntKind.u8.wrap<|n.fdiv<|2^8),(IntKind.u8.wrap n)]) ?_;exact h
 ·cases h)
def aSL:List LV->T LV
 | [.xl (.int aw) b]=> .req (4<=M b) (.ok<|.v<|Y ax<|Gm b)
 |_=> .no
def vh:=vo (S:=aSL) func161 fg kN (λargs lv h=>by
 unfold aSL at h;split at h
 ·rename_i b
  refine Ap (letI a:=(M b:Int);.req (0<=(0:Int)/\0<a)<|.req (0<=(1:Int)/\1<a)<|.req (0<=(2:Int)/\2<a)<|.req (0<=(3:Int)/\3<a)<|.ok<|.v<|Y ax<|DQ ax (DQ ax (DQ ax (IntKind.u32.wrap<|(IntKind.u32.wrap<|gi b (0:Int))*2^24)<|IntKind.u32.wrap<|(IntKind.u32.wrap<|gi b (1:Int))*2^16)<|IntKind.u32.wrap<|(IntKind.u32.wrap<|gi b (2:Int))*2^8)<|IntKind.u32.wrap<|gi b (3:Int)) ?_;obtain ⟨h0,rfl⟩:=h;exact ⟨⟨A0,A0⟩,⟨A0,A0⟩,⟨A0,A0⟩,⟨A0,A0⟩,rfl⟩
 ·cases h)
def aSy:List LV->T LV
 | [.agg [.v (Y J se),.xl (.int aw) fl],.v (Y J w)]=> .req ((w=0\/w=1)/\M fl<=4096) (.ok<|.xl (.int aw)<|Bi fl w)
 |_=> .no
def vq:=vo (S:=aSy) func160 fg kN (λargs lv h=>by
 unfold aSy at h;split at h
 ·rename_i se fl w
  refine Ap (letI a:=(AA<|(M fl:Int).tdiv 2);letI b:=AA<|(AA<|w+1)*a;letI c:=AA<|w*a;.req ((2:Int)≠0)<|.req (0<=c/\c<=b/\b<=(M fl:Int)/\b=b)<|.ok<|.xl (.int aw)<|(fl.drop c.toNat).take<|b.toNat-c.toNat) ?_;obtain ⟨⟨h0,h1⟩,rfl⟩:=h
  have e1:(M fl:Int).tdiv 2=((M fl / 2:Nat):Int):=AI
  have e2:AA ((M fl / 2:Nat):Int)=((M fl / 2:Nat):Int):=AJ
  rw [e1,e2];rcases h0 with rfl|rfl
  ·rw [Int.zero_mul,show (0:Int)+1=1 from rfl,show AA 0=0 from rfl,show AA 1=1 from rfl,Za,e2]
   refine ⟨Ae,⟨A0,A0,A0,rfl⟩,?_⟩;refine Az (LV.xl<|.int aw) ?_;rfl
  ·rw [Za,show (1:Int)+1=2 from rfl,show AA 2=2 from rfl,e2,AJ (x:=2*((M fl / 2:Nat):Int))]
   refine ⟨Ae,⟨A0,A0,A0,rfl⟩,?_⟩;refine Az (LV.xl<|.int aw) ?_
   congr 1
   omega
 ·cases h)
def aSr:List LV->T LV
 | [.agg [.v (Y J se),.xl (.int aw) fl]]=> .req (FQ se fl=U) (.tu #[Aq fl,Hl fl])
 |_=> .no
def agz:List Bd:=[vq,vh]
def aTr := vo (S:=aSr) func159 agz kN (λargs lv h=>by
 unfold aSr at h;split at h
 ·rename_i se fl
  refine Ap (letI d:=(Bi fl (0:Int));letI f:=(Bi fl (1:Int));letI b:=((f.drop (1:Int).toNat).take<|(5:Int).toNat-(1:Int).toNat);letI c:=((d.drop (1:Int).toNat).take<|(5:Int).toNat-(1:Int).toNat);.req (((0:Int)=0\/(0:Int)=1)/\M fl<=4096)<|.req (((1:Int)=0\/(1:Int)=1)/\M fl<=4096)<|.req (0<=(0:Int)/\0<(M d:Int))<|.req (0<=(0:Int)/\0<(M f:Int))<|.br (((gi d (0:Int))==80)&&((gi f (0:Int))==80)) (.req (0<=(1:Int)/\(1:Int)<=(5:Int)/\(5:Int)<=(M f:Int))<|.req (4<=M b)<|.req (0<=(1:Int)/\(1:Int)<=(5:Int)/\(5:Int)<=(M d:Int))<|.req (4<=M c)<|.br (an<|(Gm b)>(Gm c)) (.tu #[(1:Int),(0:Int)])<|.tu #[(0:Int),(0:Int)])<|.br ((gi d (0:Int))==80) (.tu #[(0:Int),(0:Int)])<|.br ((gi f (0:Int))==80) (.tu #[(1:Int),(0:Int)])<|.tu #[(0:Int),(4:Int)]) ?_;obtain ⟨h0,rfl⟩:=h;obtain ⟨_,_,h32,hl,_⟩:=ML.1 h0
  have l0:=cF fl 0
  have l1:=cF fl 1
  have fin:∀a e:Int,a=Aq fl->e=Hl fl->LV.v (.tuple #[Y J a,Y J e])=LV.v (.tuple #[Y J<|Aq fl,Y J<|Hl fl]):=λa e h1 h2=>yY
  have ew:∀w,Gm (((Bi fl w).drop (1:Int).toNat).take<|(5:Int).toNat-(1:Int).toNat)=J7 fl w:=λw=>rfl
  simp only [ew];refine ⟨?_,?_⟩
  ·first|exact ⟨Ae,hl⟩ |omega|decide|(refine ⟨?_,?_⟩<;>omega) |(simp only [M6,F8];omega) |(refine ⟨Ae,Ae,?_⟩;omega)
  ·refine ⟨?_,?_⟩
   ·grind
   ·refine ⟨?_,?_⟩
    ·omega
    ·refine ⟨?_,?_⟩
     ·omega
     ·refine ⟨λc1=>?_,λc1=>?_⟩
      ·refine ⟨?_,?_⟩
       ·omega
       ·refine ⟨?_,?_⟩
        ·grind
        ·refine ⟨?_,?_⟩
         ·omega
         ·refine ⟨?_,?_⟩
          ·grind
          ·refine ⟨λc2=>?_,λc2=>?_⟩
           ·refine fin _ _ ?_ ?_<;>simp_all [Aq,Hl]
           ·refine fin _ _ ?_ ?_<;>simp_all [Aq,Hl]
      ·refine ⟨λc2=>?_,λc2=>?_⟩
       ·refine fin _ _ ?_ ?_<;>simp_all [Aq,Hl]
       ·refine ⟨λc3=>?_,λc3=>?_⟩
        ·refine fin _ _ ?_ ?_<;>simp_all [Aq,Hl]
        ·refine fin _ _ ?_ ?_<;>simp_all [Aq,Hl]
 ·cases h)
structure Mh where
 x:Int
 t8:List (List Int)
 (t9 t10:Int)
 l:List Int
 (n i:Int)
def aFs:=lN (bN f200 0) 0
def vC (s:Mh):T (Rd Mh):=
 .br (an<|s.i<s.n) (.ix s.i (M s.l)<|.nx {s with x:=IntKind.u32.wrap<|(aJy ax s.x<|IntKind.u32.wrap<|gi s.l s.i)*16777619,i:=AA<|s.i+1}) (.so (.exit 2) s)
def je (s:Mh):Prop:=s.i=0/\s.n<=70000/\s.n=(M s.l:Int)
def iY (s:Mh):Prop:=0<=s.i/\s.i<=s.n/\s.n<=70000/\s.n=(M s.l:Int)
def tD (s:Mh):Nat:=(s.n-s.i).toNat
def ac8 (x:Ex) (s s':Mh):Prop:=True
def al9:∀s,je s->iY s:=by
 exact kz
theorem azq:Da iY tD ac8 vC:=by
 intro s hI;obtain ⟨h0,h1,h2,h3⟩:=hI;refine AH (λc1=>?_) λc1=>?_
 ·have c1:s.i<s.n:=A8
  rw [AJ (x:=s.i+1)];exact ⟨⟨A8,A8,h2,h3⟩,by simp only [tD];omega⟩
 ·trivial
def RZ:AS Mh:=⟨0,28,[3,8,9,10,14,15,16],[],λs=>[.v<|Y ax s.x,.xl (.sl<|.int aw) s.t8,s.t9,s.t10,.xl (.int aw) s.l,s.n,s.i],λ_=>[],λv b=>⟨AK v 0,B5 (.sl<|.int aw) v 1,AK v 2,AK v 3,B5 (.int aw) v 4,AK v 5,AK v 6⟩,vC,λs r=> {s with x:=r.x,i:=r.i},λs=>s,λ_ s=>s,[.exit 2],je,iY,tD⟩
abbrev aGp:=RZ.run
abbrev atW:=RZ.At
def axj:Rq iY vC:=by
 intro s hI;refine ⟨λc1=>⟨?_,ak⟩,λ_=>trivial⟩
 ·(obtain ⟨h0,h1,h2,h3⟩:=hI;simp only [Aa] at c1;omega)
def ff:List Bd:=[]
def aQ4:RZ.Ok:={}
def aPX:RZ.Pf (ac8):=⟨al9,λs h=>rfl,azq,axj⟩
def apm:SA 0 aFs RZ:=s1 aQ4 aPX ff kN
theorem arW:Rs je atW aGp (λs:Mh=>SB s.x<|s.l.drop s.i.toNat) (λx s' (v:Int)=>x=.exit 2/\s'.x=v):=DN aQ4 aPX (λs hI=>by
  obtain ⟨h0,h1,h2,h3⟩:=hI;refine AH (λc1=>?_) λc1=>?_
  ·have c1:s.i<s.n:=A8
   rw [AJ (x:=s.i+1)];rw [(gi_step h0 A0).1];rfl
  ·have c1:s.n<=s.i:=A8
   refine ⟨rfl,?_⟩;rw [En A0];rfl)
structure Mj where
 x:Int
 l:List (List Int)
 (n i:Int)
def pS:=bN f200 0
def vD (s:Mj):T (Rd Mj):=
 .br (an<|s.i<s.n) (.ix s.i (M s.l)<|.req (RZ.q (⟨s.x,s.l,s.n,s.i,gx (e:=.sl<|.int aw) s.l s.i,(M (gx (e:=.sl<|.int aw) s.l s.i):Int),0⟩:Mh))<|.nx {s with x:=(aGp (⟨s.x,s.l,s.n,s.i,gx (e:=.sl<|.int aw) s.l s.i,(M (gx (e:=.sl<|.int aw) s.l s.i):Int),0⟩:Mh)).x,i:=AA<|s.i+1}) (.so (.exit 0) s)
def Hs (l:List<|List Int):Prop:=∀p∈l,M p<=70000
def We {l:List<|List Int}(h:Hs l) {i:Int}(h0:0<=i) (h1:i<(M l:Int)):M (gx (e:=.sl<|.int aw) l i)<=70000:=by
 have:gx (e:=.sl<|.int aw) l i=l[i.toNat]' A0:=O3 A0
 rw [this];exact h _<|HS _
def jf (s:Mj):Prop:=s.i=0/\s.n<=1000/\s.n=(M s.l:Int)/\Hs s.l
def Xx (s:Mj):Prop:=0<=s.i/\s.i<=s.n/\s.n<=1000/\s.n=(M s.l:Int)/\Hs s.l
def tE (s:Mj):Nat:=(s.n-s.i).toNat
def ac9 (x:Ex) (s s':Mj):Prop:=True
def alA:∀s,jf s->Xx s:=by
 exact Zg
def aRP (s:Mj) (hI:Xx s) (c1:s.i<s.n):je (⟨s.x,s.l,s.n,s.i,(gx (e:=.sl<|.int aw) s.l s.i),(M (gx (e:=.sl<|.int aw) s.l s.i):Int),(0:Int)⟩:Mh):=by
 obtain ⟨h0,h1,h2,h3,h4⟩:=hI
 have:=We h4 h0 A0
 refine ⟨rfl,?_,rfl⟩
 show (M (gx (e:=.sl<|.int aw) s.l s.i):Int)<=70000
 omega
theorem azr:Da Xx tE ac9 vD:=by
 intro s hI;obtain ⟨h0,h1,h2,h3,h4⟩:=hI;refine AH (λc1=>?_) λc1=>trivial
 have c1:s.i<s.n:=A8
 rw [AJ (x:=s.i+1)];exact ⟨⟨A8,A8,h2,h3,h4⟩,by simp only [tE];omega⟩
def Rb:AS Mj:=⟨0,28,[3,8,9,10],[],λs=>[.v<|Y ax s.x,.xl (.sl<|.int aw) s.l,s.n,s.i],λ_=>[],λv b=>⟨AK v 0,B5 (.sl<|.int aw) v 1,AK v 2,AK v 3⟩,vD,λs r=> {r with l:=s.l,n:=s.n},λs=>s,λ_ s=>s,[.exit 0],jf,Xx,tE⟩
abbrev aGq:=Rb.run
abbrev asM:=Rb.At
theorem axk:Rq Xx vD:=by
 intro s hI;refine ⟨λc1=>⟨?_,?_,ak⟩,λ_=>trivial⟩
 ·exact aMS
 ·exact ⟨aRP s hI A8,rfl,rfl⟩
def aQ5:Rb.Ok:={}
def aPY:Rb.Pf (ac9):=⟨alA,λs h=>rfl,azr,axk⟩
def apn:SA 0 pS Rb:=AS.snd aQ5 aPY (nU (Γ:=ff) (K:=Fx) (L:=(λi=>if i=6 then RZ.lp else Ak i)) (gk ff) kN.h pS (λb hb=>by
 rw [show BB _=[aFs] by kernel_rfl] at hb
 simp only [B7,Bu,Bt] at hb;subst hb;exact apm)) λs=>AT
def WA {l:List<|List Int}{i:Int}(h0:0<=i) (h:i<(M l:Int)):l.drop i.toNat=gx (e:=.sl<|.int aw) l i::l.drop (i+1).toNat:=(QD h0 h).1
theorem arX:Rs jf asM aGq (λs:Mj=>(s.l.drop s.i.toNat).foldl SB s.x) (λx s' (v:Int)=>x=.exit 0/\s'.x=v):=DN aQ5 aPY (λs hI=>by
  have hin:=λc1=>aRP s hI c1
  obtain ⟨h0,h1,h2,h3,h4⟩:=hI;refine AH (λc1=>?_) λc1=>?_
  ·have c1:s.i<s.n:=A8
   rw [AJ (x:=s.i+1)]
   have hr:=(arW _<|hin c1).2
   rw [hr,WA h0 A0];rfl
  ·have c1:s.n<=s.i:=A8
   refine ⟨rfl,?_⟩;rw [En A0];rfl)
def aSu:List LV->T LV
 | [.xl (.sl (.int aw)) ps]=> .req (M ps<=1000/\Hs ps) (.ok<|.v<|Y ax<|Oz ps)
 |_=> .no
def vp:=vm (S:=aSu) func200 ff kN (L:=(λi=>if i=3 then Rb.lp else Ak i)) (λb hb=>by
 rw [show BB _=[pS] by kernel_rfl] at hb
 simp only [B7,Bu,Bt] at hb;subst hb;exact apn) (λargs lv h=>by
 unfold aSu at h;split at h
 ·rename_i ps
  refine Ap (.req (Rb.q (⟨2166136261,ps,(M ps:Int),0⟩:Mj))<|.ok<|.v<|Y ax (aGq (⟨2166136261,ps,(M ps:Int),0⟩:Mj)).x) ?_;obtain ⟨⟨h0,h1⟩,rfl⟩:=h
  have hE:jf ⟨2166136261,ps,(M ps:Int),0⟩:=⟨rfl,AZ,rfl,h1⟩
  obtain ⟨q1,q2⟩:=arX _ hE;refine ⟨⟨hE,rfl,rfl⟩,?_⟩;refine Az (λz=>LV.v<|Y ax z) ?_
  exact q2
 ·cases h)
def ahC:List LV->T LV:=λ_=> .no
def aJp:VV 1000034 ahC:=by
 exact xa
def aSG:List LV->T LV
 | [.xl (.int aw) d]=> .req (M d<=70000) (.ok<|.xl (.int aw)<|Bo d)
 |_=> .no
def agy:List Bd:=[ajB,vp,aJp]
def vg:=vo (S:=aSG) func186 agy kN (λargs lv h=>by
 unfold aSG at h;split at h
 ·rename_i d
  refine Ap (letI a:=(IntKind.u8.wrap<|(M d:Int).fdiv<|2^8);letI b:=(IntKind.u8.wrap (M d:Int));letI c:=(Cv<|Oz<|[(([a,b]).drop 0).take 2,d]);.req (0+2<=M ([a,b]))<|.ra 1 (M<|[(80:Int)]) (1+M ((([a,b]).drop 0).take 2)) 1<|.req (0+2<=M ([a,b]))<|.req (M ([(([a,b]).drop 0).take 2,d])<=1000/\Hs ([(([a,b]).drop 0).take 2,d]))<|.ra (1+M ((([a,b]).drop 0).take 2)) (M<|([(80:Int)])++((([a,b]).drop 0).take 2)) (1+M ((([a,b]).drop 0).take 2)+M c) 1<|.ra (1+M ((([a,b]).drop 0).take 2)+M c) (M<|(([(80:Int)])++((([a,b]).drop 0).take 2))++c) (1+M ((([a,b]).drop 0).take 2)+M c+M d) 1<|.req (0+(1+M ((([a,b]).drop 0).take 2)+M c+M d)<=M (((([(80:Int)])++((([a,b]).drop 0).take 2))++c)++d))<|.ok<|.xl (.int aw)<|((((([(80:Int)])++((([a,b]).drop 0).take 2))++c)++d).drop 0).take<|1+M ((([a,b]).drop 0).take 2)+M c+M d) ?_;obtain ⟨h0,rfl⟩:=h
  have e:(([(IntKind.u8.wrap<|(M d:Int).fdiv<|2^8),(IntKind.u8.wrap (M d:Int))].drop 0).take 2)=Js d:=rfl
  have e2:M (Js d)=2:=rfl
  have e4:∀n,M (Cv n)=4:=λ_=>rfl
  simp only [e]
  have hk:Hs [Js d,d]:=by
   intro p hp;simp only [B7,Bu,Bt] at hp;rcases hp with rfl|rfl
   ·rw [e2];omega
   ·exact h0
  iterate 7 refine ⟨A8,?_⟩
  refine Az (LV.xl<|.int aw) ?_;rw [DZ A8];rfl
 ·cases h)
def aEK {b:List Int}:∀ {n m f:Nat},M b<=n+f->M b<=m+f->HA b n f=HA b m f
 |0,0,_,_,_=>rfl
 |0,m+1,f,h,_=>aNS
 |n+1,0,f,_,h=>aNS
 |n+1,m+1,f,h1,h2=>by
  simp only [HA];rw [aEK (n:=n) (m:=m) (f:=f+7+Fv b f) A0 A0]
def JB (b:List Int) (f:Nat):List (List Int)×Nat×Bool:=HA b (M b) f
def Wd (b:List Int) (f:Nat):JB b f=if f<M b/\gi b (f:Int)=80 then (if rcG b f then (H7 b f::(JB b<|f+7+Fv b f).1,(JB b<|f+7+Fv b f).2) else ([],f,X)) else ([],f,U):=by
 unfold JB;rw [aEK (n:=M b) (m:=M b+1) (f:=f) A0 A0];rfl
def zQ:Array Tmp×Code×Code:=((Ik<|f115.body.getD .skip)[0]?).getD (#[],.skip,.skip)
def ak8:Array Tmp:=zQ.1
def ajd:Code:=zQ.2.1
def akF:Code:=zQ.2.2
structure Fh where
 (from_ HZ:Int)
 HY:List Int
 (Of OS On:Int)
 OZ:Bool
 (b2 cx bU E8:Int)
 cU:Bool
 b:List Int
 rs:List (List Int)
 st:LS
def lkS (s:Fh):List Int:=((s.b.drop (AA<|s.from_+1).toNat).take<|(AA<|s.from_+3).toNat-(AA<|s.from_+1).toNat)
def EU (s:Fh):Int:=(AA<|(AA<|(AA<|s.from_+7)+(AA<|(AA<|gi (lkS s) (0:Int))*2^8))+(AA<|gi (lkS s) (1:Int)))
def lkP (s:Fh):List (List Int):=([(s.b.drop (AA<|s.from_+1).toNat).take<|(AA<|s.from_+3).toNat-(AA<|s.from_+1).toNat,(s.b.drop (AA<|s.from_+7).toNat).take<|(EU s).toNat-(AA<|s.from_+7).toNat])
def lkH (s:Fh):List Int:=((s.b.drop (AA<|s.from_+3).toNat).take<|(AA<|s.from_+7).toNat-(AA<|s.from_+3).toNat)
def Kg (s:Fh):List Int:=((s.b.drop (AA<|s.from_+7).toNat).take<|(EU s).toNat-(AA<|s.from_+7).toNat)
def PS (s:Fh):T (Rd Fh):=letI a:=(s.rs++([((([]:List Int)++([]:List Int)).drop 0).take<|0+M ([]:List Int)]));letI c:=(M s.rs+M ([((([]:List Int)++([]:List Int)).drop 0).take<|0+M ([]:List Int)]));letI d:=(s.rs++([((([]:List Int)++(Kg s)).drop 0).take<|0+M (Kg s)]));letI e:=(M s.b:Int);letI f:=(M<|[((([]:List Int)++([]:List Int)).drop 0).take<|0+M ([]:List Int)]);letI g:=(M s.rs+M ([((([]:List Int)++(Kg s)).drop 0).take<|0+M (Kg s)]));letI h:=AA<|s.from_+7;letI i:=(M ([]:List Int));letI j:=AA<|s.from_+3;letI k:=(Oz<|lkP s)==(Gm<|lkH s);letI l:=(M (lkS s):Int);letI m:=M s.rs;.br (an<|s.from_<e) (.ix s.from_ (M s.b)<|.br ((gi s.b s.from_)==80) (.br (an<|h<=e) (.req (0<=(AA<|s.from_+1)/\(AA<|s.from_+1)<=j/\j<=e)<|.req (0<=(0:Int)/\0<l)<|.req (0<=(1:Int)/\1<l)<|.br (an<|(EU s)<=e) (.req (0<=h/\h<=(EU s)/\(EU s)<=e/\(EU s)=(EU s))<|.req (0<=j/\j<=h/\h<=e)<|.req (M (lkP s)<=1000/\Hs (lkP s))<|.req (4<=M (lkH s))<|.br (! k) (.rl s.rs<|.so (.ret) {s with Of:=(0:Int),OS:=(0:Int),On:=(0:Int),OZ:=X,b2:=(11:Int),st:=.done<|.ret})<|.ra 0 i (0+M (Kg s)) 1<|.req (0+(0+M (Kg s))<=M (([]:List Int)++(Kg s)))<|.rb m (M<|[((([]:List Int)++(Kg s)).drop 0).take<|0+M (Kg s)]) 24<|.br (! k) (.re g d<|.so (.ret) {s with E8:=EU s,rs:=d})<|.re g d<|.nx {s with from_:=EU s,E8:=EU s,rs:=d})<|.br (!X) (.rl s.rs<|.so (.ret) {s with Of:=(0:Int),OS:=(0:Int),On:=(0:Int),OZ:=X,b2:=(11:Int),st:=.done<|.ret})<|.ra 0 i (0+M ([]:List Int)) 1<|.req (0+(0+M ([]:List Int))<=M (([]:List Int)++([]:List Int)))<|.rb m f 24<|.br (!X) (.re c a<|.so (.ret) {s with E8:=e,rs:=a})<|.re c a<|.nx {s with from_:=e,E8:=e,rs:=a})<|.br (!X) (.rl s.rs<|.so (.ret) {s with Of:=(0:Int),OS:=(0:Int),On:=(0:Int),OZ:=X,b2:=(11:Int),st:=.done<|.ret})<|.ra 0 i (0+M ([]:List Int)) 1<|.req (0+(0+M ([]:List Int))<=M (([]:List Int)++([]:List Int)))<|.rb m f 24<|.br (!X) (.re c a<|.so (.ret) {s with E8:=e,rs:=a})<|.re c a<|.nx {s with from_:=e,E8:=e,rs:=a})<|.rl s.rs<|.so (.exit 0) s)<|.rl s.rs<|.so (.exit 0) s
def zv {b:List Int}(h:BG b) (i:Int):0<=gi b i/\gi b i<=255:=by
 unfold gi;rw [DV];cases e:b[i.toNat]? with
 |none=>decide
 |some x=>exact h x<|Pb e
theorem abK {b:List Int}{m n k:Nat}(h:k<n):gi ((b.drop m).take n) (k:Int)=gi b ((m+k:Nat):Int):=by
 unfold gi
 grind
def Lh (s:Fh) (hb:BG s.b) (h0:0<=s.from_) (h7:s.from_+7<=(M s.b:Int)) (hl:M s.b<=4096):
  EU s=s.from_+7+Fv s.b s.from_.toNat/\M (lkS s)=2/\lkH s=(s.b.drop<|s.from_.toNat+3).take 4/\Kg s=H7 s.b s.from_.toNat/\lkP s=[(s.b.drop<|s.from_.toNat+1).take 2,H7 s.b s.from_.toNat]:=by
 obtain ⟨f,hf⟩:=Pj h0
 have w1:AA (s.from_+1)=s.from_+1:=AJ
 have w3:AA (s.from_+3)=s.from_+3:=AJ
 have w7:AA (s.from_+7)=s.from_+7:=AJ
 have t1:(s.from_+1).toNat=f+1:=A0
 have t3:(s.from_+3).toNat=f+3:=A0
 have t7:(s.from_+7).toNat=f+7:=A0
 have tf:s.from_.toNat=f:=A0
 have eS:lkS s=(s.b.drop<|f+1).take 2:=by
  unfold lkS;rw [w1,w3,t1,t3,show f+3-(f+1)=2 by omega]
 have b1:=zv hb ((f+1:Nat):Int)
 have b2:=zv hb ((f+2:Nat):Int)
 have g0:gi (lkS s) (0:Int)=gi s.b ((f+1:Nat):Int):=by rw [eS];exact abK (k:=0) Ae
 have g1:gi (lkS s) (1:Int)=gi s.b ((f+2:Nat):Int):=by rw [eS];exact abK (k:=1) Ae
 have hN:Fv s.b f=(gi s.b ((f+1:Nat):Int)).toNat*256+(gi s.b ((f+2:Nat):Int)).toNat:=rfl
 have eT:EU s=s.from_+7+Fv s.b f:=by
  unfold EU;rw [g0,g1,w7,AJ (x:=gi s.b ((f+1:Nat):Int)),AJ (x:=gi s.b ((f+1:Nat):Int)*2^8),AJ (x:=gi s.b ((f+2:Nat):Int)),AJ (x:=s.from_+7+gi s.b ((f+1:Nat):Int)*2^8),AJ];omega
 have eD:(s.b.drop (AA<|s.from_+7).toNat).take ((EU s).toNat-(AA<|s.from_+7).toNat)=H7 s.b f:=by
  unfold H7;rw [eT,w7,t7,show (s.from_+7+(Fv s.b f:Int)).toNat-(f+7)=Fv s.b f by omega]
 rw [tf];refine ⟨eT,by rw [eS];simp only [M6,F8];omega,?_,eD,?_⟩
 ·unfold lkH
  rw [w3,w7,t3,t7,show f+7-(f+3)=4 by omega]
 ·unfold lkP
  rw [eD,w1,w3,t1,t3,show f+3-(f+1)=2 by omega]
def aKO (s:Fh) (hb:BG s.b) (h0:0<=s.from_) (h7:s.from_+7<=(M s.b:Int)) (hl:M s.b<=4096) (hT:EU s<=(M s.b:Int)):rcG s.b s.from_.toNat=(Oz (lkP s)==Gm (lkH s)):=by
 obtain ⟨e1,e2,e3,e4,e5⟩:=Lh s hb h0 h7 hl;unfold rcG rcF;rw [e3,e5,Cq (p:=s.from_.toNat+7<=M s.b) A0,Cq (p:=s.from_.toNat+7+Fv s.b s.from_.toNat<=M s.b) A0];rfl
def aKP (s:Fh) (h0:0<=s.from_) (hl:M s.b<=4096) (h:(M s.b:Int)<s.from_+7\/(M s.b:Int)<s.from_+7+Fv s.b s.from_.toNat):rcG s.b s.from_.toNat=false:=by
 unfold rcG rcF
 by_cases h1:s.from_.toNat+7<=M s.b
 ·rw [I9 (p:=s.from_.toNat+7+Fv s.b s.from_.toNat<=M s.b) A0,SY]
  rfl
 ·rw [I9 (p:=s.from_.toNat+7<=M s.b) h1]
  rfl
theorem arR (fx:Ex->Fh->Fh) (hr:∀s',fx .ret s'={s' with st:=.done .ret}) (h0:∀s',fx (.exit 0) s'={s' with st:=.ready}) (s:Fh) (h:s.st=.ready):DO (λ_=>True) (λx s'=>fx x s'=s') ((PS s).rd s):=by
 obtain ⟨from_,HZ,HY,Of,OS,On,OZ,b2,cx,bU,E8,cU,b,rs,st⟩:=s;subst h;unfold PS;dsimp only [T.rd,T.rl,T.rv];refine AH (λc1=>?_) λc1=>?_
 ·refine AH (λc2=>?_) (λc2=>?_)
  ·refine AH (λc3=>?_) (λc3=>?_)
   ·refine AH (λc4=>?_) (λc4=>?_)
    ·refine AH (λc5=>?_) (λc5=>?_)
     ·exact hr _
     ·refine AH (λc6=>?_) (λc6=>?_)
      ·grind
      ·trivial
    ·refine AH (λc5=>?_) (λc5=>?_)
     ·exact hr _
     ·refine AH (λc6=>?_) (λc6=>?_)
      ·grind
      ·grind
   ·refine AH (λc4=>?_) (λc4=>?_)
    ·exact hr _
    ·refine AH (λc5=>?_) (λc5=>?_)
     ·grind
     ·grind
  ·exact h0 _
 ·exact h0 _
def mm (s:Fh):Prop:=s.st=.ready/\5<=s.from_/\s.from_<=(M s.b:Int)/\M s.b<=4096/\BG s.b/\s.E8=s.from_/\(M s.rs:Int)<=s.from_
def mX (s:Fh):Prop:=s.st=.ready/\5<=s.from_/\s.from_<=(M s.b:Int)/\M s.b<=4096/\BG s.b/\s.E8=s.from_/\(M s.rs:Int)<=s.from_
def zj (s:Fh):Nat:=((M s.b:Int)-s.from_).toNat
def aKc (x:Ex) (s s':Fh):Prop:=True
def amJ:∀s,mm s->mX s:=by
 exact λs h=>h
theorem al3:Da mX zj aKc PS:=by
 intro s hI;unfold PS;dsimp only [T.rd,T.rl,T.rv];refine AH (λc1=>?_) λc1=>?_
 ·refine AH (λc2=>?_) (λc2=>?_)
  ·refine AH (λc3=>?_) (λc3=>?_)
   ·refine AH (λc4=>?_) (λc4=>?_)
    ·refine AH (λc5=>?_) (λc5=>?_)
     ·trivial
     ·refine AH (λc6=>?_) (λc6=>?_)
      ·grind
      ·obtain ⟨ht,h5,hl,h4,hb,he,hr⟩:=hI
       have w7:AA (s.from_+7)=s.from_+7:=AJ
       have c3:s.from_+7<=(M s.b:Int):=A8
       have c4:=DY c4
       obtain ⟨e1,e2,e3,e4,e5⟩:=Lh s hb A0 c3 h4;refine ⟨⟨ht,A8,c4,h4,hb,rfl,?_⟩,?_⟩
       ·grind
       ·simp only [zj];omega
    ·refine AH (λc5=>?_) (λc5=>?_)
     ·trivial
     ·refine AH (λc6=>?_) (λc6=>?_)
      ·grind
      ·grind
   ·refine AH (λc4=>?_) (λc4=>?_)
    ·trivial
    ·refine AH (λc5=>?_) (λc5=>?_)
     ·grind
     ·grind
  ·trivial
 ·trivial
def S4:AS Fh:=⟨6,83,[0,1,3],[.nc 3 2 34<|.sl<|.int aw],λs=>[.CK 5,.own 4 0,s.from_],λs=>[⟨[s.HZ,.xl (.int aw) s.HY],36,.cl,X⟩,⟨[s.Of,.v<|Y ax s.OS,.v<|.slice aj 0 0,s.On,s.OZ],235,.cl,X⟩,⟨[s.b2],51,.cl,X⟩,⟨[s.cx,.v<|Y ax s.bU,.os 6 1 0<|M s.rs,s.E8,s.cU],235,.cl,X⟩,⟨[.xl (.int aw) s.b],34,.cl,X⟩,⟨[.junk,.junk,.own 1 0,.own 2 0,.junk,.junk,.junk,.own 3 0,.v<|.tuple #[],.junk,.junk,.junk,.junk,.junk,.junk,.junk,.junk,.junk,.junk,.junk,.junk,.junk,.junk,.junk,.junk,.junk,.junk,.junk,.junk,.junk,.junk,.junk,.junk,.junk,.v<|.tuple #[],.v<|.tuple #[],.v<|.tuple #[],.v<|.tuple #[],.v<|.tuple #[],.v<|.tuple #[],.v<|.tuple #[],.v<|.tuple #[],.v<|.tuple #[],.v<|.tuple #[],.v<|.tuple #[],.v<|.tuple #[],.v<|.tuple #[],.v<|.tuple #[],.v<|.tuple #[],.v<|.tuple #[],.v<|.tuple #[],.junk,.junk,.junk,.junk,.junk,.junk,.junk,.junk,.junk,.junk,.junk,.junk,.junk,.junk,.junk,.junk,.junk,.junk],0,.Cc ak8 ajd akF s.st,X⟩,⟨[],34,.vec (.sl<|.int aw) s.rs,X⟩],λv b=>⟨AK v 2,Aj b 0 0,AF (.int aw) b 0 1,Aj b 1 0,Aj b 1 1,Aj b 1 3,Kw b 1 4,Aj b 2 0,Aj b 3 0,Aj b 3 1,Aj b 3 3,Kw b 3 4,AF (.int aw) b 4 0,Ab (.sl<|.int aw) b 6,.ready⟩,PS,λs r=> {r with HZ:=s.HZ,HY:=s.HY,cx:=s.cx,bU:=s.bU,cU:=s.cU,b:=s.b},λs=> {s with st:=.ready},λx s=> {s with st:=(match x with| .ret=>(.done<|.ret) | .exit 0=> .ready|_=> .ready)},[.ret,.exit 0],mm,mX,zj⟩
abbrev GO:=S4.run
abbrev aRq:=S4.At
def u6:List Bd:=[vk,aTr,vq,vh,vp]
def az3:Aw:=kI u6<|l0 u6
theorem ak0:Rq mX PS:=by
 intro s hI;refine ⟨λc1=>⟨?_,λc2=>⟨λc3=>⟨?_,?_,?_,λc4=>⟨?_,?_,?_,?_,λc5=>⟨A9,ak⟩,λc5=>⟨?_,?_,?_,λc6=>⟨?_,ak⟩,λc6=>⟨?_,ak⟩⟩⟩,λc4=>⟨λc7=>⟨A9,ak⟩,λc7=>⟨?_,?_,?_,λc8=>⟨?_,ak⟩,λc8=>⟨?_,ak⟩⟩⟩⟩,λc3=>⟨λc9=>⟨A9,ak⟩,λc9=>⟨?_,?_,?_,λc10=>⟨?_,ak⟩,λc10=>⟨?_,ak⟩⟩⟩⟩,λc2=>⟨A9,ak⟩⟩,λc1=>⟨A9,ak⟩⟩
 ·(obtain ⟨ht,h5,hl,h4,hb,he,hr⟩:=hI;have w7:AA (s.from_+7)=s.from_+7:=AJ;have w1:AA (s.from_+1)=s.from_+1:=AJ;have w3:AA (s.from_+3)=s.from_+3:=AJ;simp only [Aa] at c1;omega)
 iterate 3 · (obtain ⟨ht,h5,hl,h4,hb,he,hr⟩:=hI;have w7:AA (s.from_+7)=s.from_+7:=AJ;have w1:AA (s.from_+1)=s.from_+1:=AJ;have w3:AA (s.from_+3)=s.from_+3:=AJ;have k3:s.from_+7<=(M s.b:Int):=OQ;obtain ⟨e1,e2,e3,e4,e5⟩:=Lh s hb A0 k3 h4;(first|omega|(rw [w1,w3];omega) |(rw [w3,w7];omega)))
 iterate 2 · (obtain ⟨ht,h5,hl,h4,hb,he,hr⟩:=hI;have w7:AA (s.from_+7)=s.from_+7:=AJ;have w1:AA (s.from_+1)=s.from_+1:=AJ;have w3:AA (s.from_+3)=s.from_+3:=AJ;have k3:s.from_+7<=(M s.b:Int):=OQ;obtain ⟨e1,e2,e3,e4,e5⟩:=Lh s hb A0 k3 h4;have k4:EU s<=(M s.b:Int):=DY c4;have hD:M (H7 s.b s.from_.toNat)<=4096:=Zk;(first|omega|(rw [w1,w3];omega) |(rw [w3,w7];omega) |(rw [w7];exact ⟨A0,A0,k4,rfl⟩)))
 ·(obtain ⟨ht,h5,hl,h4,hb,he,hr⟩:=hI;have w7:AA (s.from_+7)=s.from_+7:=AJ;have w1:AA (s.from_+1)=s.from_+1:=AJ;have w3:AA (s.from_+3)=s.from_+3:=AJ;have k3:s.from_+7<=(M s.b:Int):=OQ;obtain ⟨e1,e2,e3,e4,e5⟩:=Lh s hb A0 k3 h4;have k4:EU s<=(M s.b:Int):=DY c4;have hD:M (H7 s.b s.from_.toNat)<=4096:=Zk;rw [e5];refine ⟨AI,λp hp=>?_⟩;simp only [B7,Bu,Bt] at hp;rcases hp with rfl|rfl;(first|(simp only [M6,F8];omega) |omega);omega)
 ·(obtain ⟨ht,h5,hl,h4,hb,he,hr⟩:=hI;have w7:AA (s.from_+7)=s.from_+7:=AJ;have w1:AA (s.from_+1)=s.from_+1:=AJ;have w3:AA (s.from_+3)=s.from_+3:=AJ;have k3:s.from_+7<=(M s.b:Int):=OQ;obtain ⟨e1,e2,e3,e4,e5⟩:=Lh s hb A0 k3 h4;have k4:EU s<=(M s.b:Int):=DY c4;have hD:M (H7 s.b s.from_.toNat)<=4096:=Zk;rw [e3];simp only [M6,F8];omega)
 ·(obtain ⟨ht,h5,hl,h4,hb,he,hr⟩:=hI;have w7:AA (s.from_+7)=s.from_+7:=AJ;have w1:AA (s.from_+1)=s.from_+1:=AJ;have w3:AA (s.from_+3)=s.from_+3:=AJ;have k3:s.from_+7<=(M s.b:Int):=OQ;obtain ⟨e1,e2,e3,e4,e5⟩:=Lh s hb A0 k3 h4;have k4:EU s<=(M s.b:Int):=DY c4;have hD:M (H7 s.b s.from_.toNat)<=4096:=Zk;rw [e4];simp only [BD,Bc,Bn,FB];try omega)
 ·grind
 iterate 3 · (obtain ⟨ht,h5,hl,h4,hb,he,hr⟩:=hI;have w7:AA (s.from_+7)=s.from_+7:=AJ;have w1:AA (s.from_+1)=s.from_+1:=AJ;have w3:AA (s.from_+3)=s.from_+3:=AJ;have k3:s.from_+7<=(M s.b:Int):=OQ;obtain ⟨e1,e2,e3,e4,e5⟩:=Lh s hb A0 k3 h4;have k4:EU s<=(M s.b:Int):=DY c4;have hD:M (H7 s.b s.from_.toNat)<=4096:=Zk;rw [e4];simp only [BD,Bc,Bn,FB];try omega)
 iterate 5 · exact absurd c7 Ae
 iterate 5 · exact absurd c9 Ae
def aap:S4.Ok:=⟨λs=>AT,λs _=>arR S4.fx (λ_=>rfl) (λ_=>rfl) (S4.rd s) rfl,λs=>rfl,λs t r=>rfl,λs=>rfl,λs=>AT⟩
def aaZ:S4.Pf (aKc):=⟨amJ,λs h=>by
 obtain ⟨from_,HZ,HY,Of,OS,On,OZ,b2,cx,bU,E8,cU,b,rs,st⟩:=s
 have e:=h.1
 subst e;rfl,al3,ak0⟩
def avP:=s2 (b:=bN f199 0) aap aaZ u6 az3
theorem azi:Rs mm aRq GO (λs:Fh=>(s.rs++(JB s.b s.from_.toNat).1,(JB s.b s.from_.toNat).2.1,(JB s.b s.from_.toNat).2.2)) (λx s' (v:List (List Int)×Nat×Bool)=>(x=.exit 0/\s'.rs=v.1/\s'.E8=(v.2.1:Int)/\v.2.2=U)\/(x=.ret/\v.2.2=X/\s'.b2=11/\s'.Of=0/\s'.OS=0/\s'.On=0/\s'.OZ=X)):=DN aap aaZ (λs hI=>by
  show DO _ _ ((PS s).rd s)
  unfold PS;dsimp only [T.rd,T.rl];refine AH (λc1=>?_) λc1=>?_
  ·refine AH (λc2=>?_) (λc2=>?_)
   ·refine AH (λc3=>?_) (λc3=>?_)
    ·refine AH (λc4=>?_) (λc4=>?_)
     ·refine AH (λc5=>?_) (λc5=>?_)
      ·obtain ⟨ht,h5,hl,h4,hb,he,hr⟩:=hI
       have w7:AA (s.from_+7)=s.from_+7:=AJ
       have hq:=Wd s.b s.from_.toNat
       rw [CL A0] at hq;rw [AD ⟨lO,EI⟩] at hq
       have k3:s.from_+7<=(M s.b:Int):=OQ
       obtain ⟨e1,e2,e3,e4,e5⟩:=Lh s hb A0 k3 h4
       have hg:=aKO s hb A0 k3 h4<|DY c4
       have hg:rcG s.b s.from_.toNat=false:=aO1
       exact xR
      ·refine AH (λc6=>?_) (λc6=>?_)
       ·exact absurd (c5.symm.trans c6) Ae
       ·obtain ⟨ht,h5,hl,h4,hb,he,hr⟩:=hI
        have w7:AA (s.from_+7)=s.from_+7:=AJ
        have hq:=Wd s.b s.from_.toNat
        rw [CL A0] at hq;rw [AD ⟨lO,EI⟩] at hq
        have k3:s.from_+7<=(M s.b:Int):=OQ
        obtain ⟨e1,e2,e3,e4,e5⟩:=Lh s hb A0 k3 h4
        have hg:=aKO s hb A0 k3 h4<|DY c4
        have hg:rcG s.b s.from_.toNat=true:=aO1
        rw [AD hg] at hq
        have et:(EU s).toNat=s.from_.toNat+7+Fv s.b s.from_.toNat:=A0
        have ed:((([]:List Int)++Kg s).drop 0).take (0+M (Kg s))=H7 s.b s.from_.toNat:=by
         rw [e4,EF,CP,EZ];exact DZ<|Ax _
        show (s.rs++[_]++(JB s.b (EU s).toNat).1,(JB s.b (EU s).toNat).2.1,(JB s.b (EU s).toNat).2.2)=(s.rs++(JB s.b s.from_.toNat).1,(JB s.b s.from_.toNat).2.1,(JB s.b s.from_.toNat).2.2)
        rw [ed,et,hq];simp only [Cm,Ju,EF]
     ·refine AH (λc5=>?_) (λc5=>?_)
      ·obtain ⟨ht,h5,hl,h4,hb,he,hr⟩:=hI
       have w7:AA (s.from_+7)=s.from_+7:=AJ
       have hq:=Wd s.b s.from_.toNat
       rw [CL A0] at hq;rw [AD ⟨lO,EI⟩] at hq
       have k3:s.from_+7<=(M s.b:Int):=OQ
       obtain ⟨e1,e2,e3,e4,e5⟩:=Lh s hb A0 k3 h4
       have hg:=aKP s A0 h4<|.inr (by have:=JN c4;omega)
       exact xR
      ·refine AH (λc6=>?_) (λc6=>?_)
       ·exact absurd c5 Ae
       ·exact absurd c5 Ae
    ·refine AH (λc4=>?_) (λc4=>?_)
     ·obtain ⟨ht,h5,hl,h4,hb,he,hr⟩:=hI
      have w7:AA (s.from_+7)=s.from_+7:=AJ
      have hq:=Wd s.b s.from_.toNat
      rw [CL A0] at hq;rw [AD ⟨lO,EI⟩] at hq
      have hg:=aKP s A0 h4<|.inl (by rw [w7] at c3;have:=JN c3;omega)
      exact xR
     ·refine AH (λc5=>?_) (λc5=>?_)
      ·exact absurd c4 Ae
      ·exact absurd c4 Ae
   ·obtain ⟨ht,h5,hl,h4,hb,he,hr⟩:=hI
    have hq:=Wd s.b s.from_.toNat
    rw [CL A0] at hq;rw [AE A8] at hq;rw [hq];exact .inl ⟨rfl,(GF _).symm,AZ,rfl⟩
  ·obtain ⟨ht,h5,hl,h4,hb,he,hr⟩:=hI
   have hq:=Wd s.b s.from_.toNat
   rw [CL A0] at hq;rw [AE A8] at hq;rw [hq];exact .inl ⟨rfl,(GF _).symm,AZ,rfl⟩)
structure Ms where
 l:List Int
 (n i qX aBr ug:Int)
 pV:Bool
 (b1 Wb Vf U0:Int)
 Ir:Bool
 rs:List (List Int)
def aJE:=bN f115 0
def aBZ (s:Ms):T (Rd Ms):=
 .br (an<|s.i<s.n) (.ix s.i (M s.l)<|.br s.Ir (.rl s.rs<|.nx {s with i:=AA<|s.i+1,Ir:=((gi s.l s.i)==255)})<|.rl s.rs<|.nx {s with i:=AA<|s.i+1,Ir:=X}) (.rl s.rs<|.so (.exit 2) s)
def mQ (s:Ms):Prop:=s.i=0/\s.n<=4096/\s.n=(M s.l:Int)
def mY (s:Ms):Prop:=0<=s.i/\s.i<=s.n/\s.n<=4096/\s.n=(M s.l:Int)
def ux (s:Ms):Nat:=(s.n-s.i).toNat
def aKd (x:Ex) (s s':Ms):Prop:=True
def amN:∀s,mQ s->mY s:=by
 exact kz
theorem al5:Da mY ux aKd aBZ:=by
 intro s hI;obtain ⟨h0,h1,h2,h3⟩:=hI;refine AH (λc1=>?_) λc1=>?_
 ·refine AH (λc2=>?_) (λc2=>?_)
  ·exact aLv
  ·exact aLv
 ·trivial
def S5:AS Ms:=⟨0,69,[2,3,7,54,55,56],[],λs=>[.own 0 0,.own 1 0,.own 2 0,.xl (.int aw) s.l,s.n,s.i],λs=>[⟨[s.qX,.v<|Y ax s.aBr,.v<|.slice aj 0 0,s.ug,s.pV],235,.cl,X⟩,⟨[s.b1],51,.cl,X⟩,⟨[s.Wb,.v<|Y ax s.Vf,.os 3 1 0<|M s.rs,s.U0,s.Ir],235,.cl,X⟩,⟨[],34,.vec (.sl<|.int aw) s.rs,X⟩],λv b=>⟨B5 (.int aw) v 3,AK v 4,AK v 5,Aj b 0 0,Aj b 0 1,Aj b 0 3,Kw b 0 4,Aj b 1 0,Aj b 2 0,Aj b 2 1,Aj b 2 3,Kw b 2 4,Ab (.sl<|.int aw) b 3⟩,aBZ,λs r=> {s with i:=r.i,Ir:=r.Ir},λs=>s,λ_ s=>s,[.exit 2],mQ,mY,ux⟩
abbrev sH:=S5.run
abbrev agW:=S5.At
def ak2:Rq mY aBZ:=by
 exact aKx
def fe:List Bd:=[vk,aTr,vq,vh,vp]
def aRE:Aw:=kI fe<|la 1 func199 avP<|l0 fe
def aar:S5.Ok:={}
def aad:S5.Pf (aKd):=⟨amN,λs h=>rfl,al5,ak2⟩
def awg:SA 0 aJE S5:=s1 aar aad fe aRE
theorem azo:Rs mQ agW sH (λs:Ms=>s.Ir&&(s.l.drop s.i.toNat).all (λb=>b==255)) (λx s' (v:Bool)=>x=.exit 2/\s'.Ir=v):=DN aar aad (λs hI=>by
  obtain ⟨h0,h1,h2,h3⟩:=hI;refine AH (λc1=>AH (λc2=>?_) λc2=>?_) λc1=>?_
  ·have c1:s.i<s.n:=A8
   rw [AJ (x:=s.i+1)]
   show (_&&_)=(_&&_)
   rw [(gi_step h0 A0).1,IW,c2,EH]
  ·have c1:s.i<s.n:=A8
   rw [c2];rfl
  ·have c1:s.n<=s.i:=A8
   refine ⟨rfl,?_⟩;rw [En A0];exact (ka _).symm)
def uY {b:List Int}:∀ {n f:Nat},f<=M b->(HA b n f).2.1<=M b
 |0,_,h=>h
 | n+1,f,h=>by
  simp only [HA];split
  ·split
   ·rename_i hg
    unfold rcG rcF at hg;simp only [AY,Aa] at hg;exact uY (n:=n) hg.1.2
   ·exact h
  ·exact h
def Ee (se:Int) (fl:List Int):Int:=if Bm se fl=0 then Aq fl else 0
def II (se:Int) (fl:List Int):Int:=if Bm se fl=0 then J7 fl (Aq fl) else 0
def Es (se:Int) (fl:List Int):List (List Int):=if Bm se fl=0 then (Ek fl).1 else []
def H4 (se:Int) (fl:List Int):Int:=if Bm se fl=0 then ((Ek fl).2.1:Int) else 0
def Kf (se:Int) (fl:List Int):Bool:=if Bm se fl=0 then Ly fl else X
def aJ4:List LV->T LV
 | [.agg [.v (Y J se),.xl (.int aw) fl]]=> .req (BG fl) (.ok<|.AM [.agg [Ee se fl,.v<|Y ax<|II se fl,.xl (.sl<|.int aw)<|Es se fl,H4 se fl,Kf se fl],Bm se fl])
 |_=> .no
def Ea (se:Int) (fl:List Int):Fh:=(⟨5,se,fl,0,0,0,X,0,Aq fl,Gm<|((Bi fl<|Aq fl).drop (1:Int).toNat).take<|(5:Int).toNat-(1:Int).toNat,5,U,Bi fl<|Aq fl,([]:List<|List Int),.ready⟩:Fh)
def oT (se:Int) (fl:List Int):Ms:=(⟨((Bi fl<|Aq fl).drop (GO<|Ea se fl).E8.toNat).take<|(M (Bi fl<|Aq fl):Int).toNat-(GO<|Ea se fl).E8.toNat,(M (((Bi fl<|Aq fl).drop (GO<|Ea se fl).E8.toNat).take<|(M (Bi fl<|Aq fl):Int).toNat-(GO<|Ea se fl).E8.toNat):Int),0,(GO<|Ea se fl).Of,(GO<|Ea se fl).OS,(GO<|Ea se fl).On,(GO<|Ea se fl).OZ,(GO<|Ea se fl).b2,Aq fl,Gm<|((Bi fl<|Aq fl).drop (1:Int).toNat).take<|(5:Int).toNat-(1:Int).toNat,(GO<|Ea se fl).E8,U,(GO<|Ea se fl).rs⟩:Ms)
def eM:=vm (S:=aJ4) func115 fe aRE (L:=(λi=>if i=15 then S5.lp else Ak i)) (λb hb=>by
 rw [show BB _=[aJE] by kernel_rfl] at hb
 simp only [B7,Bu,Bt] at hb;subst hb;exact awg) (λargs lv h=>by
 unfold aJ4 at h;split at h
 ·rename_i se fl
  refine Ap (letI d:=GO<|Ea se fl;letI f:=(M (Bi fl<|Aq fl):Int);letI j:=(((Bi fl<|Aq fl).drop (1:Int).toNat).take<|(5:Int).toNat-(1:Int).toNat);letI k:=List Int;.br (!(FQ se fl)) (.ok<|.AM [.agg [(0:Int),.v<|Y ax 0,.xl (.sl<|.int aw) ([]:List k),(0:Int),X],(1:Int)])<|.req (FQ se fl=U)<|.br ((Hl fl) !=0) (.ok<|.AM [.agg [(0:Int),.v<|Y ax 0,.xl (.sl<|.int aw) ([]:List k),(0:Int),X],(Hl fl)])<|.req (((Aq fl)=0\/(Aq fl)=1)/\M fl<=4096)<|.req (0<=(1:Int)/\(1:Int)<=(5:Int)/\(5:Int)<=f)<|.req (4<=M j)<|.r0 k<|.req (S4.q<|Ea se fl)<|.br (Bj (aRq<|Ea se fl)<|.ret) (.ok<|.AM [.agg [d.Of,.v<|Y ax d.OS,.xl (.sl<|.int aw) ([]:List k),d.On,d.OZ],d.b2])<|.req (0<=d.E8/\d.E8<=f/\f<=f)<|.rl d.rs<|.req (S5.q<|oT se fl)<|.rz d.rs<|.ok<|.AM [.agg [(Aq fl),.v<|Y ax<|Gm j,.xl (.sl<|.int aw)<|(d.rs.drop 0).take<|M d.rs,d.E8,(sH<|oT se fl).Ir],(0:Int)]) ?_;obtain ⟨hb,rfl⟩:=h
  have fin:∀(a g:Int) (r:List<|List Int) (n:Int) (c:Bool) (e:Int),a=Ee se fl->g=II se fl->r=Es se fl->n=H4 se fl->c=Kf se fl->e=Bm se fl->
   LV.AM [.agg [.v<|Y J a,.v<|Y ax g,.xl (.sl<|.int aw) r,.v<|Y J n,.v<|.bool c],.v<|Y J e]=LV.AM [.agg [.v<|Y J<|Ee se fl,.v<|Y ax<|II se fl,.xl (.sl<|.int aw)<|Es se fl,.v<|Y J<|H4 se fl,.v<|.bool<|Kf se fl],.v<|Y J<|Bm se fl]:=λa g r n c e h1 h2 h3 h4 h5 h6=>by rw [h1,h2,h3,h4,h5,h6]
  refine ⟨λc1=>?_,λc1=>⟨AX,λc2=>?_,λc2=>?_⟩⟩
  ·have c1:FQ se fl=false:=AX
   have hE:Bm se fl=1:=by unfold Bm;rw [AD c1]
   refine fin _ _ _ _ _ _ ?_ ?_ ?_ ?_ ?_ hE.symm<;>simp [Ee,II,Es,H4,Kf,hE]
  ·have c1:FQ se fl=true:=AX
   have c2:Hl fl≠0:=EI
   have hE:Bm se fl=Hl fl:=by unfold Bm;rw [AE aD,AD c2]
   refine fin _ _ _ _ _ _ ?_ ?_ ?_ ?_ ?_ hE.symm<;>simp [Ee,II,Es,H4,Kf,hE,c2]
  have c1:FQ se fl=true:=AX
  have c2:Hl fl=0:=EI
  have hj:=ML.1 c1
  have hw:Aq fl=0\/Aq fl=1:=aN1
  have hl:=cF fl<|Aq fl
  have hab:BG (Bi fl<|Aq fl):=by
   intro x hx;unfold Bi at hx;split at hx
   ·exact hb x<|V0 hx
   ·exact hb x<|Pc<|V0 hx
  have hQ:Ek fl=JB (Bi fl<|Aq fl) 5:=rfl
  have hE0:mm (Ea se fl):=⟨rfl,by show (5:Int)<=5;decide,by show (5:Int)<=(M (Bi fl<|Aq fl):Int);omega,by show M (Bi fl<|Aq fl)<=4096;omega,hab,rfl,by show ((M ([]:List<|List Int):Nat):Int)<=5;decide⟩
  have hr:=azi _ hE0
  have hv:(Ea se fl).rs=[]:=rfl
  have hf:(Ea se fl).from_.toNat=5:=rfl
  have hB:(Ea se fl).b=Bi fl (Aq fl):=rfl
  simp only [hv,hf,hB,EF,<-hQ] at hr;refine ⟨⟨hw,hj.2.2.2.1⟩,⟨Ae,Ae,A0⟩,by simp only [M6,F8];omega,A9,⟨hE0,rfl,rfl⟩,λc3=>?_,λc3=>?_⟩
  ·have c3:=W8 c3
   rcases hr with ⟨q1,_⟩ |⟨q1,q2,q3,q4,q5,q6,q7⟩
   ·rw [c3] at q1;cases q1
   ·have hE:Bm se fl=11:=by unfold Bm;rw [AE aD,AE aE,AE (by rw [q2];decide)]
    rw [q3,q4,q5,q6,q7];refine fin _ _ _ _ _ _ ?_ ?_ ?_ ?_ ?_ hE.symm<;>simp [Ee,II,Es,H4,Kf,hE]
  ·rcases hr with ⟨q1,q2,q3,q4⟩ |⟨q1,_⟩
   ·have hE:Bm se fl=0:=by unfold Bm;rw [AE aD,AE aE,AD q4]
    have hn:(Ek fl).2.1<=M (Bi fl<|Aq fl):=uY A0
    have eL:((Bi fl<|Aq fl).drop (GO<|Ea se fl).E8.toNat).take ((M (Bi fl<|Aq fl):Int).toNat-(GO<|Ea se fl).E8.toNat)=(Bi fl<|Aq fl).drop (Ek fl).2.1:=by
     rw [q3,Bx,Bx];exact DZ yc
    have hC:mQ (oT se fl):=⟨rfl,by
     show (M (((Bi fl<|Aq fl).drop (GO<|Ea se fl).E8.toNat).take<|(M (Bi fl<|Aq fl):Int).toNat-(GO<|Ea se fl).E8.toNat):Int)<=4096
     rw [eL,F8];omega,rfl⟩
    have hr2:(sH<|oT se fl).Ir=(U&&((((Bi fl<|Aq fl).drop (GO<|Ea se fl).E8.toNat).take<|(M (Bi fl<|Aq fl):Int).toNat-(GO<|Ea se fl).E8.toNat).drop 0).all (λb=>b==255)):=(azo _ hC).2
    rw [eL,CP,EH] at hr2;refine ⟨⟨by rw [q3];omega,by rw [q3];omega,DU _⟩,A9,⟨hC,rfl,rfl⟩,A0,?_⟩
    refine fin _ _ _ _ _ _ ?_ ?_ ?_ ?_ ?_ hE.symm
    ·unfold Ee;rw [AD hE]
    ·unfold II J7;rw [AD hE];rfl
    ·unfold Es;rw [AD hE,CP,DZ<|Ax _];exact q2
    ·unfold H4;rw [AD hE];exact q3
    ·unfold Kf;rw [AD hE];exact hr2
   ·exfalso;rw [q1] at c3;simp [Bj] at c3
 ·cases h)
end Go.Proofs.YtmlcgekfmlidcaaGreatDoor
namespace Go.Sx
open Go Go.RowKit Go.Proofs.YtmlcgekfmlidcaaGreatDoor
variable {P : Program} {G : B0} {Γ : Specs} {K : Hand} {L : LM} {Z0 : Gz} {w0 : World}
abbrev Uq:=Nat->Option (List Nat×List Up)
def X0 (P:Program) (G:B0) (Γ:Specs) (K:Hand) (L:Qe) (cs:Uq):Code->List LV->List AB->T (Ex×List LV×List AB)
 | .seq a b,F,H=>(X0 P G Γ K L cs a F H).bind λq=>match q.1 with
  | .normal=>match cs (GS b) with
   |some (live,us)=>(G6 0 live us .normal q.2.1 q.2.2).bind λv=>if v.low then X0 P G Γ K L cs b (Ha (M q.2.1) live v.vals) v.J2 else .no
   |none=>X0 P G Γ K L cs b q.2.1 q.2.2
  |x=> .ok (x,q.2)
 |c,F,H=>DE P G Γ K L c F H
def aeW {L:Qe}{cs:Uq}(hΓ:∀g S,Γ g=ah S->Valid P G g S) (hK:FF P G K) (c:Code) (hl:∀b∈BB c,GV P G (AN 0) (.loop b)<|L b):GV P G (AN 0) c (X0 P G Γ K L cs c):=by
 induction c with
 | seq c1 c2 ih1 ih2=>
  intro r w0 Z0 Z β F H a w ds Q x F' H' hA hr hD hW hF h hQ;obtain ⟨⟨y,F1,H1⟩,h1,h2⟩:=T.B4 h;obtain ⟨hr1,hr2⟩:=qS (show r=aj\/(Hi c1&&Hi c2)=U from hr);refine wpIn_seq<|ih1 (λb hb=>hl b Sj) r w0 Z0 Z β F H a w ds _ y F1 H1 hA hr1 hD hW hF h1 λds' Z' β' a' w' e0 e1 e2=>?_
  cases y with
  | normal=>
   simp only at h2;split at h2
   ·rename_i live us hcs
    obtain ⟨v,h3,h4⟩:=T.B4 h2;split at h4
    ·rename_i hlow
     obtain ⟨_,_,Z2,β2,e3,e4⟩:=bu hA e1 e2 h3 hlow;exact ih2 (λb hb=>hl b Sj) r w0 Z0 Z2 β2 _ _ a' w' ds' Q x F' H' hA hr2 e0 e3 e4 h4 hQ
    ·cases h4
   ·exact ih2 (λb hb=>hl b Sj) r w0 Z0 Z' β' F1 H1 a' w' ds' Q x F' H' hA hr2 e0 e1 e2 h2 hQ
  |exit m=>
   obtain ⟨rfl,rfl,rfl⟩:=h2;exact hQ ds' Z' β' a' w' e0 e1 e2
  |ret=>
   obtain ⟨rfl,rfl,rfl⟩:=h2;exact hQ ds' Z' β' a' w' e0 e1 e2
 |_=>exact GM hΓ hK _ hl
def iF (P:Program) (G:B0) (Γ:Specs) (K:Hand) (L:LM) (cs:Uq) (fn:Func) (args:List LV):T LV:=
 (match fn.body with
 |some c=>wB P fn (X0 P G Γ K (Lp L) cs c) args
 |none=> .no).bind λx=> .ok<|canX<|upR P fn.resultTypes.toList x
def aCt {f:FuncId}{fn:Func}{c:Code}{S:List LV->T LV}{cs:Uq}(hfn:P.funcs[f]? =ah fn) (hc:fn.body=ah c) (hΓ:∀g S,Γ g=ah S->Valid P G g S) (hK:FF P G K)
  (hL:∀b∈BB c,Sound P G (.loop b)<|L<|GS b) (hS:∀args lv,(S args).all (λx=>x=lv)->(iF P G Γ K L cs fn<|canL args).all (λx=>x=lv)):Valid P G f (Jr P fn.params.toList S):=
 aEG (aD4 hfn hc<|aeW (L:=Lp L) (cs:=cs) hΓ hK c hL) (λargs lv h=>by have:=hS args lv h;unfold iF at this;simpa only [hc] using this)
def T.aBb {α:Type}:T α->T α
 | .br b t e=> .br b t.red e.red
 | .req p t=> .req p (T.aBb t)
 |t=>t
def T.aFa {α:Type}{K:α->Prop}:∀ {t:T α},t.aBb.all K->t.all K
 | .ok _,h=>h
 | .br _ _ _,h=>⟨λhb=>T.WH<|h.1 hb,λhb=>T.WH<|h.2 hb⟩
 | .req _ _,h=>⟨h.1,T.aFa h.2⟩
 | .no,h=>h
end Go.Sx
namespace Go.Proofs.YtmlcgekfmlidcaaGreatDoor
set_option maxRecDepth 100000
set_option maxHeartbeats 4000000
open Go.Proofs.Tryz
open Go.Sx
def aSe:List LV->T LV
 | [.v (.agg ⟨[Y J x1,Y J x2,Y J x3,Y J x4,Y J x5]⟩)]=> .ok (.xl (.int aw)<|Ay (x1,x2,x3,x4,x5))
 |_=> .no
def Vy:=bN f148 0
def LI:List Bd:=[]
def aon:Sound prog AU (.loop Vy) (J0 prog AU LI Fx 20 2 Vy):=Sn (gk LI) kN.h 20 2 Vy
def ayy (x1 x2 x3 x4 x5:Int):letI a:=(((((((((((((aq (0:Int).toNat (0:Int))++([IntKind.u8.wrap<|x1.fdiv<|2^(24)]))++([IntKind.u8.wrap<|x1.fdiv<|2^(16)]))++([IntKind.u8.wrap<|x1.fdiv<|2^(8)]))++([IntKind.u8.wrap<|x1.fdiv<|2^(0)]))++([IntKind.u8.wrap<|x2.fdiv<|2^(0)]))++([IntKind.u8.wrap<|x3.fdiv<|2^(0)]))++([IntKind.u8.wrap<|x4.fdiv<|2^(24)]))++([IntKind.u8.wrap<|x4.fdiv<|2^(16)]))++([IntKind.u8.wrap<|x4.fdiv<|2^(8)]))++([IntKind.u8.wrap<|x4.fdiv<|2^(0)]))++([IntKind.u8.wrap<|x5.fdiv<|2^(8)]))++([IntKind.u8.wrap<|x5.fdiv<|2^(0)]));(Bg prog AU LI kN (λi=>if i=4 then (J0 prog AU LI Fx 20 2 Vy) else Ak i) f148 [.v<|.agg #[x1,x2,x3,x4,x5]]).red=.req (0<=(0:Int)/\(0:Int)<=(12:Int)/\1*(12:Int)<=2^48/\(12:Int)<2^63) (.req (0<=(24:Int))<|.ra 0 0 1 1<|.req (0<=(16:Int))<|.ra 1 1 2 1<|.req (0<=(8:Int))<|.ra 2 2 3 1<|.req (0<=(0:Int))<|.ra 3 3 4 1<|.req (0<=(0:Int))<|.ra 4 4 5 1<|.req (0<=(0:Int))<|.ra 5 5 6 1<|.req (0<=(24:Int))<|.ra 6 6 7 1<|.req (0<=(16:Int))<|.ra 7 7 8 1<|.req (0<=(8:Int))<|.ra 8 8 9 1<|.req (0<=(0:Int))<|.ra 9 9 10 1<|.req (0<=(8:Int))<|.ra 10 10 11 1<|.req (0<=(0:Int))<|.ra 11 11 12 1<|.req (0+12<=M a)<|.ok<|.xl (.int aw)<|(a.drop 0).take 12):=AT
def aa3:=vm (S:=aSe) func148 LI kN (L:=(λi=>if i=4 then (J0 prog AU LI Fx 20 2 Vy) else Ak i)) (λb hb=>by
 rw [show BB _=[Vy] by kernel_rfl] at hb
 simp only [B7,Bu,Bt] at hb;subst hb;exact aon) (λargs lv h=>by
 refine ⟨?_⟩;unfold aSe at h;split at h
 ·simp only [canL,canX]
  refine @T.WH _ _ _ ?_;rw [ayy];obtain rfl:=h
  iterate 25 refine ⟨Ae,?_⟩
  refine ⟨Ax _,?_⟩;simp only [T.all,Int.pow_zero,Int.fdiv_one];rfl
 ·cases h)
def Kk (d:List Int):Le:=if M d=12 then G7 d else (0,0,0,0,0)
def aSc:List LV->T LV
 | [.xl (.int aw) d]=> .req (BG d) (.tu #[.agg #[(Kk d).1,(Kk d).2.1,(Kk d).2.2.1,(Kk d).2.2.2.1,(Kk d).2.2.2.2],an<|M d=12])
 |_=> .no
def W3:=bN f76 0
def aom:Sound prog AU (.loop W3) (J0 prog AU LI Fx 20 2 W3):=Sn (gk LI) kN.h 20 2 W3
def ayx (d:List Int):letI a:=(M d:Int);letI b:=AA<|0*2^8;(Bg prog AU LI kN (λi=>if i=6 then (J0 prog AU LI Fx 20 2 W3) else Ak i) f76 [.xl (.int aw) d]).aBb=.br (a !=12) (.tu #[.agg #[(0:Int),(0:Int),(0:Int),(0:Int),(0:Int)],X]) (.req (0<=(0:Int)/\0<a)<|.req (0<=(1:Int)/\1<a)<|.req (0<=(2:Int)/\2<a)<|.req (0<=(3:Int)/\3<a)<|.req (0<=(4:Int)/\4<a)<|.req (0<=(5:Int)/\5<a)<|.req (0<=(6:Int)/\6<a)<|.req (0<=(7:Int)/\7<a)<|.req (0<=(8:Int)/\8<a)<|.req (0<=(9:Int)/\9<a)<|.req (0<=(10:Int)/\10<a)<|.req (0<=(11:Int)/\11<a)<|.tu #[.agg #[DQ J (AA<|(DQ J (AA<|(DQ J (AA<|(DQ J b<|AA<|gi d (0:Int))*2^8)<|AA<|gi d (1:Int))*2^8)<|AA<|gi d (2:Int))*2^8)<|AA<|gi d (3:Int),DQ J b<|AA<|gi d (4:Int),DQ J b<|AA<|gi d (5:Int),DQ J (AA<|(DQ J (AA<|(DQ J (AA<|(DQ J b<|AA<|gi d (6:Int))*2^8)<|AA<|gi d (7:Int))*2^8)<|AA<|gi d (8:Int))*2^8)<|AA<|gi d (9:Int),DQ J (AA<|(DQ J b<|AA<|gi d (10:Int))*2^8)<|AA<|gi d (11:Int)],U]):=AT
def o8 {a b:Int}(h0:0<=a) (h1:a<1099511627776) (hb:0<=b/\b<=255):DQ J (AA<|a*2^8) (AA b)=a*256+b:=by
 rw [AJ (x:=a*2^8),AJ (x:=b)];obtain ⟨a,rfl⟩:=Pj h0;obtain ⟨b,rfl⟩:=Pj hb.1
 have e:∀n:Nat,n<4611686018427387904->(BitVec.ofInt (IntKind.bits J) (n:Int)).toNat=n:=λn hn=>by
  show (BitVec.ofInt 64 (n:Int)).toNat=n
  rw [BitVec.toNat_ofInt];omega
 unfold DQ;rw [show (a:Int)*2^8=((a*2^8:Nat):Int) by omega,BitVec.toNat_or,e _ A0,e _ A0,fO A0]
 show AA _=_
 rw [AJ];omega
def aA4 {w:Int}(hw:0<=w/\w<=255):DQ J (AA<|0*2^8) (AA w)=w:=by
 rw [o8 A0 A0 hw];omega
def abA {z w:Int}(hz:0<=z/\z<=255) (hw:0<=w/\w<=255):DQ J (AA<|DQ J (AA<|0*2^8) (AA z)*2^8) (AA w)=z*256+w:=by
 rw [aA4 hz,o8 A0 A0 hw]
def ab9 {x y z w:Int}(hx:0<=x/\x<=255) (hy:0<=y/\y<=255) (hz:0<=z/\z<=255) (hw:0<=w/\w<=255):
  DQ J (AA<|DQ J (AA<|DQ J (AA<|DQ J (AA<|0*2^8) (AA x)*2^8) (AA y)*2^8) (AA z)*2^8) (AA w)=x*16777216+y*65536+z*256+w:=by
 rw [abA hx hy,o8 A0 A0 hz,o8 A0 A0 hw];omega
def ai5:=vm (S:=aSc) func76 LI kN (L:=(λi=>if i=6 then (J0 prog AU LI Fx 20 2 W3) else Ak i)) (λb hb=>by
 rw [show BB _=[W3] by kernel_rfl] at hb
 simp only [B7,Bu,Bt] at hb;subst hb;exact aom) (λargs lv h=>by
 refine ⟨?_⟩;unfold aSc at h;split at h
 ·simp only [canL,canX]
  refine @T.aFa _ _ _ ?_;rw [ayx];rename_i d;obtain ⟨hb,rfl⟩:=h;refine ⟨λc=>?_,λc=>?_⟩
  ·have hl:¬(M d)=12:=VL
   unfold Kk;rw [AE hl,I9 hl];rfl
  have hl:M d=12:=VL
  iterate 12 refine ⟨⟨Ae,A0⟩,?_⟩
  have b:=λi=>zv hb i
  unfold Kk;rw [AD hl,Cq hl,ab9 (b 0) (b 1) (b 2)<|b 3,aA4<|b 4,aA4<|b 5,ab9 (b 6) (b 7) (b 8)<|b 9,abA (b 10)<|b 11];rfl
 ·cases h)
def aRu:List LV->T LV
 | [.agg [.v (Y J se),.xl (.int aw) fl]]=> .req (BG fl) (.ok<|.AM [.xl (.sl<|.int aw)<|Es se fl,Bm se fl])
 |_=> .no
def agx:List Bd:=[eM]
def aj8:=vo (S:=aRu) func75 agx kN (λargs lv h=>by
 unfold aRu at h;split at h
 ·rename_i se fl
  refine Ap (.req (BG fl)<|.br ((Bm se fl) !=0) (.ok<|.AM [.xl (.sl<|.int aw) ([]:List<|List Int),(Bm se fl)])<|.ok<|.AM [.xl (.sl<|.int aw)<|Es se fl,(0:Int)]) ?_;obtain ⟨h0,rfl⟩:=h;refine ⟨h0,λc=>?_,λc=>?_⟩
  ·have c:Bm se fl≠0:=A8
   unfold Es;rw [AE c];rfl
  ·have c:Bm se fl=0:=A8
   rw [c];rfl
 ·cases h)
theorem abe {b:List Int}:∀(n f:Nat),M (HA b n f).1<=n
 |0,_=>Ax _
 | n+1,f=>by
  simp only [HA];split
  ·split
   ·have:=abe (b:=b) n (f+7+Fv b f)
    grind
   ·grind
  ·grind
def aQb {b:List Int}(h:BG b):∀(n f:Nat),∀d∈(HA b n f).1,BG d
 |0,_,d,hd=>VN
 | n+1,f,d,hd=>by
  simp only [HA] at hd;split at hd
  ·split at hd
   ·rcases B7.1 hd with rfl|hd
    ·exact λx hx=>h x<|Pc<|V0 hx
    ·exact aQb h n _ d hd
   ·cases hd
  ·cases hd
theorem azj {se:Int}{fl:List Int}(h:BG fl) (hl:M fl<=4096):M (Es se fl)<=4096/\∀d∈Es se fl,BG d:=by
 unfold Es;split
 ·have ha:=cF fl (Aq fl)
  refine ⟨?_,aQb (λx hx=>?_) _ _⟩
  ·have:=abe (b:=Bi fl<|Aq fl) (M<|Bi fl<|Aq fl) 5
   unfold Ek;omega
  ·unfold Bi at hx
   split at hx
   ·exact h x<|V0 hx
   ·exact h x<|Pc<|V0 hx
 ·grind
theorem akQ {l:List<|List Int}(h:∀d∈l,BG d) {i:Int}(h0:0<=i) (h1:i<(M l:Int)):BG (gx (e:=.sl<|.int aw) l i):=by
 grind
structure O5 where
 e:Int
 l:List (List Int)
 (n i:Int)
 out:List Le
def aEz:=bN f43 0
def vv (s:O5):T (Rd O5):=
 .br (an<|s.i<s.n) (.ix s.i (M s.l)<|.req (BG<|gx (e:=.sl<|.int aw) s.l s.i)<|.br (!(an<|M (gx (e:=.sl<|.int aw) s.l s.i)=12)) (.rl s.out<|.so (.ret) {s with e:=(9:Int)})<|.rb (M s.out) (M<|[Kk<|gx (e:=.sl<|.int aw) s.l s.i]) 40<|.re (M s.out+M ([Kk<|gx (e:=.sl<|.int aw) s.l s.i])) (s.out++([Kk<|gx (e:=.sl<|.int aw) s.l s.i]))<|.nx {s with i:=AA<|s.i+1,out:=s.out++([Kk<|gx (e:=.sl<|.int aw) s.l s.i])}) (.rl s.out<|.so (.exit 0) s)
def iu (s:O5):Prop:=s.i=0/\s.n<=5000/\s.n=(M s.l:Int)/\(∀d∈s.l,BG d)/\(M s.out:Int)<=s.i
def jF (s:O5):Prop:=0<=s.i/\s.i<=s.n/\s.n<=5000/\s.n=(M s.l:Int)/\(∀d∈s.l,BG d)/\(M s.out:Int)<=s.i
def tU (s:O5):Nat:=(s.n-s.i).toNat
def aci (x:Ex) (s s':O5):Prop:=True
def ai4:∀s,iu s->jF s:=by
 exact Zg
theorem avH:Da jF tU aci vv:=by
 intro s hI;obtain ⟨h0,h1,h2,h3,h4,h5⟩:=hI;refine AH (λc1=>AH (λc2=>trivial) λc2=>?_) λc1=>trivial
 ·have c1:s.i<s.n:=A8
  rw [AJ (x:=s.i+1)];exact ⟨⟨A8,A8,h2,h3,h4,A8⟩,by simp only [tU];omega⟩
def R7:AS O5:=⟨0,50,[2,3,6,28,29,30],[.nl 6 101 AP],λs=>[.v<|.slice aj 0 0,s.e,.os 0 5 0<|M s.out,.xl (.sl<|.int aw) s.l,s.n,s.i],λs=>[bV 101 AP s.out],λv b=>⟨AK v 1,B5 (.sl<|.int aw) v 3,AK v 4,AK v 5,Ab AP b 0⟩,vv,λs r=> {r with l:=s.l,n:=s.n},λs=>s,λ_ s=>s,[.ret,.exit 0],iu,jF,tU⟩
abbrev nC:=R7.run
abbrev dA:=R7.At
theorem awH:Rq jF vv:=by
 intro s hI;refine ⟨λc1=>⟨?_,?_,λc2=>⟨A9,ak⟩,λc2=>⟨?_,?_,ak⟩⟩,λc1=>⟨A9,ak⟩⟩
 all_goals ((obtain ⟨h0,h1,h2,h3,h4,h5⟩:=hI;have c1:s.i<s.n:=A8;have hb:=akQ h4 h0 A0;(first|exact hb|omega|(simp only [Bc,Bn];omega) |(simp only [BD,Bc,Bn,FB]))))
def aR0:List Bd:=[aj8,ai5,WS]
def aQK:R7.Ok:={}
def aOn:R7.Pf (aci):=⟨ai4,λs h=>rfl,avH,awH⟩
def aq0:SA 0 aEz R7:=s1 aQK aOn aR0 kN
theorem aot:Rs iu dA nC (λs:O5=>(s.out++(s.l.drop s.i.toNat).map G7,ldB<|s.l.drop s.i.toNat)) (λx s' (v:List Le×Bool)=>(x=.ret/\s'.e=9/\v.2=X)\/(x=.exit 0/\v=(s'.out,U))):=DN aQK aOn (λs hI=>by
  obtain ⟨h0,h1,h2,h3,h4,h5⟩:=hI;refine AH (λc1=>AH (λc2=>?_) λc2=>?_) λc1=>?_
  ·have c1:s.i<s.n:=A8
   refine .inl ⟨rfl,rfl,?_⟩;simp only [WA h0 (show s.i<(M s.l:Int) by omega),ldB,IW,aKi,CU]
   grind
  ·have c1:s.i<s.n:=A8
   have c2:M (gx (e:=.sl<|.int aw) s.l s.i)=12:=A8
   have hz:Kk (gx (e:=.sl<|.int aw) s.l s.i)=G7 (gx (e:=.sl<|.int aw) s.l s.i):=AD c2
   rw [AJ (x:=s.i+1),hz]
   show (_++[_]++_,_)=(_++_,_)
   rw [WA h0 A0];simp only [EG,Cm,Ju,EF,ldB,IW,c2,OJ,EH]
  ·have c1:s.n<=s.i:=A8
   refine .inr ⟨rfl,?_⟩;rw [En A0]
   simp [ldB])
def aSh:List LV->T LV
 | [.agg [.v (Y J se),.xl (.int aw) fl]]=> .req (BG fl) (.ok<|.AM [BI se fl,CO se fl])
 |_=> .no
def Px (se:Int) (fl:List Int):O5:=(⟨0,Es se fl,(M (Es se fl):Int),0,([]:List Le)⟩:O5)
def uy:=vm (S:=aSh) func43 aR0 kN (L:=(λi=>if i=8 then R7.lp else Ak i)) (λb hb=>by
 rw [show BB _=[aEz] by kernel_rfl] at hb
 simp only [B7,Bu,Bt] at hb;subst hb;exact aq0) (λargs lv h=>by
 unfold aSh at h;split at h
 ·rename_i se fl
  refine Ap (letI a:=nC<|Px se fl;letI b:=(a.out.drop 0).take<|M a.out;.br ((se !=512) ||((M fl:Int) !=2048)) (.ok<|.AM [.xl AP ([]:List Le),(1:Int)])<|.req (BG fl)<|.br ((Bm se fl) !=0) (.ok<|.AM [.xl AP ([]:List Le),(Bm se fl)])<|.r0 Le<|.req (R7.q<|Px se fl)<|.br (Bj (dA<|Px se fl)<|.ret) (.ok<|.AM [.xl AP ([]:List Le),a.e])<|.rz a.out<|.br (!(B1 b)) (.ok<|.AM [.xl AP ([]:List Le),(9:Int)])<|.rz a.out<|.ok<|.AM [b,(0:Int)]) ?_;obtain ⟨hb,rfl⟩:=h
  have bad:∀e:Int,e≠0->CO se fl=e->LV.AM [.xl AP ([]:List Le),.v<|Y J e]=LV.AM [.xl AP<|BI se fl,.v<|Y J<|CO se fl]:=λe h0 h1=>by unfold BI;rw [h1,AE h0]
  refine ⟨λc1=>bad 1 Ae (by unfold CO;exact AD c1),λc1=>⟨hb,λc2=>?_,λc2=>?_⟩⟩
  all_goals have h0:¬((!(se==512) || !((M fl:Int)==2048))=U):=A8
  ·have c2:Bm se fl≠0:=EI
   exact bad _ c2 (by unfold CO;rw [AE h0,AD c2])
  have hk:Bm se fl=0:=EI
  have hl:M fl=2048:=by simp at h0;omega
  have hR:Es se fl=(Ek fl).1:=AD hk
  obtain ⟨n1,n2⟩:=azj (se:=se) hb A0
  have hV:iu (Px se fl):=⟨rfl,by show (M (Es se fl):Int)<=5000;omega,rfl,n2,y9⟩
  have q:(dA (Px se fl)=.ret/\(nC<|Px se fl).e=9/\ldB (Es se fl)=X)\/(dA (Px se fl)=.exit 0/\((Es se fl).map G7,ldB<|Es se fl)=((nC<|Px se fl).out,U)):=aot _ hV
  have hk':¬Bm se fl≠0:=λh=>h hk
  refine ⟨A9,⟨hV,rfl,rfl⟩,λc3=>?_,λc3=>?_⟩
  ·rcases q with ⟨_,q2,q3⟩ |⟨q1,_⟩
   ·rw [q2]
    exact bad 9 Ae (by unfold CO;rw [AE h0,AE hk',<-hR,AE (by rw [q3];decide)])
   ·rw [W8 c3] at q1;cases q1
  rcases q with ⟨q1,_⟩ |⟨_,q2⟩
  ·rw [q1] at c3;simp [Bj] at c3
  simp only [Av] at q2;rw [<-q2.1,CP,EY];refine ⟨A0,λc4=>?_,λc4=>⟨A0,?_⟩⟩
  ·exact bad 9 Ae (by unfold CO;rw [AE h0,AE hk',<-hR,AD q2.2,AE aC])
  ·have hE:CO se fl=0:=by unfold CO;rw [AE h0,AE hk',<-hR,AD q2.2,AD aC]
   unfold BI;rw [hE,AD rfl,hR];rfl
 ·cases h)
theorem aA0 {se:Int}{fl:List Int}(h:CO se fl=0):B1 (BI se fl)=true:=by
 unfold BI;rw [AD h];unfold CO at h;split at h
 ·cases h
 ·split at h
  ·grind
  ·split at h
   ·split at h
    ·assumption
    ·cases h
   ·cases h
def aSf:List LV->T LV
 | [.agg [.v (Y J se),.xl (.int aw) fl]]=> .req (BG fl) (.tu #[JG se fl,Hz se fl])
 |_=> .no
def agw:List Bd:=[uy]
def ai6:=vo (S:=aSf) func45 agw kN (λargs lv h=>by
 unfold aSf at h;split at h
 ·rename_i se fl
  refine Ap (letI b:=(M (BI se fl):Int);letI c:=Al (BI se fl)<|AA<|b-1;.req (BG fl)<|.br ((CO se fl) !=0) (.tu #[(0:Int),(CO se fl)])<|.br (b==0) (.tu #[(1:Int),(0:Int)])<|.ix (AA<|b-1) (M<|BI se fl)<|.br (c.1==1000000) (.tu #[(0:Int),(10:Int)])<|.tu #[(AA<|c.1+1),(0:Int)]) ?_;obtain ⟨hb,rfl⟩:=h
  have fin:∀a e:Int,a=JG se fl->e=Hz se fl->LV.v (.tuple #[Y J a,Y J e])=LV.v (.tuple #[Y J<|JG se fl,Y J<|Hz se fl]):=λa e h1 h2=>yY
  refine ⟨hb,λc1=>?_,λc1=>⟨λc2=>?_,λc2=>?_⟩⟩
  ·have c1:CO se fl≠0:=AX
   refine fin _ _ ?_ ?_<;>simp [JG,Hz,c1]
  all_goals have c1:CO se fl=0:=AX
  ·have c2:M (BI se fl)=0:=A8
   refine fin _ _ ?_ ?_<;>simp [JG,Hz,c1,c2]
  ·have c2:¬(M<|BI se fl)=0:=A8
   have hv:=Gv<|aA0 c1
   have hw:AA ((M (BI se fl):Int)-1)=(M (BI se fl):Int)-1:=AJ
   have hn:=MR.1<|hv.2 _<|LA (l:=BI se fl) (i:=(M (BI se fl):Int)-1) A0 A0
   rw [hw];refine ⟨⟨A0,A0⟩,λc3=>?_,λc3=>?_⟩
   ·refine fin _ _ ?_ ?_<;>simp at c3<;>simp [JG,Hz,c1,c2,c3]
   ·rw [AJ]
    refine fin _ _ ?_ ?_<;>simp at c3<;>simp [JG,Hz,c1,c2,c3]
 ·cases h)
def aJh:List LV->T LV
 | [.v (Y J n),.v (Y J a),.v (Y J b)]=> .ok (inB n a b)
 |_=> .no
def alo:List Bd:=[]
def aJw:=vo (S:=aJh) func100 alo kN (λargs lv h=>by
 unfold aJh at h;split at h
 ·rename_i n a b
  refine Ap (.ok<|.v<|.bool<|(an<|n>=a)&&(an<|n<=b)) ?_;exact h
 ·cases h)
def aSx:List LV->T LV
 | [.v (.agg ⟨[Y J k,Y J ph,Y J mx,Y J nd,Y J dl]⟩)]=> .ok (GC (k,ph,mx,nd,dl))
 |_=> .no
def zw:List Bd:=[aJw]
def aTu:=vo (S:=aSx) func73 zw kN (λargs lv h=>by
 unfold aSx at h;split at h
 ·rename_i k ph mx nd dl
  refine Ap (.ok<|.v<|.bool<|(inB k (0:Int) (4:Int))&&((inB ph (1:Int) (7:Int))&&((inB mx (1:Int) (80:Int))&&((inB nd (0:Int) (1000000000:Int))&&((inB dl (0:Int) (20:Int))&&((k !=3) ||(an<|dl>=1))))))) ?_;exact h
 ·cases h)
structure Ll where
 r:Bool
 l:List Int
 (n i:Int)
def aHA:=bN f99 0
def aBW (s:Ll):T (Rd Ll):=
 .br (an<|s.i<s.n) (.ix s.i (M s.l)<|.br (!(inB (gi s.l s.i) (0:Int) (80:Int))) (.so (.ret) {s with r:=X})<|.nx {s with i:=AA<|s.i+1}) (.so (.exit 0) s)
def Rz (s:Ll) (j:Int):Bool:=inB (gi s.l j) 0 80
def mf (s:Ll):Prop:=s.i=0/\0<=s.n/\s.n<=1000/\s.n=(M s.l:Int)
def aW (s:Ll):Prop:=0<=s.i/\s.i<=s.n/\s.n<=1000/\(s.n=(M s.l:Int))/\∀j:Nat,(j:Int)<s.i->Rz s j=U
def zc (s:Ll):Nat:=(s.n-s.i).toNat
def wJ (x:Ex) (s s':Ll):Prop:=(x=.exit 0/\∀j:Nat,(j:Int)<s'.n->Rz s' j=U)\/(x=.ret/\s'.r=X/\∃j:Nat,(j:Int)<s'.n/\Rz s' j=X)
def amT:∀s,mf s->aW s:=by
 exact Jx
theorem aiO:Da aW zc wJ aBW:=by
 intro s hI;obtain ⟨h0,h1,h2,h3,h4⟩:=hI;refine AH (λc1=>AH (λc2=>?_) λc2=>?_) λc1=>?_
 ·have c1:s.i<s.n:=AX
  refine .inr ⟨rfl,rfl,s.i.toNat,A8,?_⟩
  have hg:Rz s s.i=false:=by unfold Rz;simp_all
  exact hg
 ·have c1:s.i<s.n:=AX
  have hg:Rz s s.i=true:=by unfold Rz;simp_all
  rw [AJ (x:=s.i+1)];refine ⟨⟨A8,A8,h2,h3,λj hj=>?_⟩,by simp only [zc];omega⟩
  exact L0
 ·exact Se
def S1:AS Ll:=⟨0,32,[2,22,23,24],[],λs=>[s.r,.xl A7 s.l,s.n,s.i],λ_=>[],λv b=>⟨EO v 0,B5 A7 v 1,AK v 2,AK v 3⟩,aBW,λs r=> {r with l:=s.l,n:=s.n},λs=>s,λ_ s=>s,[.ret,.exit 0],mf,aW,zc⟩
abbrev aOF:=S1.run
abbrev aRm:=S1.At
def aif:Rq aW aBW:=by
 exact SZ
def aaj:S1.Ok:={}
def aaS:S1.Pf (wJ):=⟨amT,λs h=>rfl,aiO,aif⟩
def avJ:SA 0 aHA S1:=s1 aaj aaS zw kN
def avG:Fi mf aW wJ aRm aOF:=AS.fin aaj aaS
def aSg:List LV->T LV
 | [.agg [.xl (.int J) pil,.v (Y J tk),.v (Y J got)]]=> .ok (IQ (pil,tk,got))
 |_=> .no
def ai8:=vm (S:=aSg) func99 zw kN (L:=(λi=>if i=4 then S1.lp else Ak i)) (λb hb=>by
 rw [show BB _=[aHA] by kernel_rfl] at hb
 simp only [B7,Bu,Bt] at hb;subst hb;exact avJ) (λargs lv h=>by
 unfold aSg at h;split at h
 ·rename_i pil tk got
  refine Ap (letI a:=(M pil:Int);.br ((an<|a>21) ||((!(inB tk (0:Int) (1000000:Int))) ||(!(inB got (0:Int) (2000000000:Int))))) (.ok X)<|.req (S1.q (⟨X,pil,a,0⟩:Ll))<|.br (Bj (aRm (⟨X,pil,a,0⟩:Ll))<|.ret) (.ok (aOF (⟨X,pil,a,0⟩:Ll)).r)<|.ok U) ?_;obtain rfl:=h;refine ⟨λc1=>Az (λz=>LV.v<|.bool z) ?_,λc1=>?_⟩
  ·rw [Sd,I2]
   intro hm
   have:=dj.1 hm
   simp [inB] at c1
   simp only at this;omega
  ·have hE:mf ⟨X,pil,(M pil:Int),0⟩:=by simp [inB] at c1;exact ⟨rfl,AI,A8,rfl⟩
   obtain ⟨s',hI,hq⟩:=avG _ hE
   have hm:IQ (pil,tk,got)=pil.all (λp=>inB p 0 80):=by
    simp [inB] at c1
    have h21:M pil<=21:=A0
    simp [IQ,inB,h21,c1]
   rw [hm,aSZ];refine ⟨⟨hE,rfl,rfl⟩,?_⟩;rcases hq with ⟨q1,q2⟩ |⟨q1,q2,j,q3,q4⟩<;>rw [q1]
   ·rw [show Di (M pil) (λj=>inB (gi pil j) 0 80)=U from Dq.2 q2]
    exact ⟨λh=>An,λ_=>rfl⟩
   ·rw [q2,show Di (M pil) (λj=>inB (gi pil j) 0 80)=X from QI j q3 q4]
    exact ⟨λ_=>rfl,λh=>An⟩
 ·cases h)
structure Nn where
 p:PK
 ev:EW
def UU (s:Nn):List LV:=[.own 16 0]
def YZ (s:Nn):List AB:=[AO,AO,zB,AO,bV 67 Ad s.p.cs,bV 101 AP s.p.ls,bV 5 (.int aw) s.p.fl,bV 127 Am s.p.ra,bV 90 B3 s.p.st,bV 55 AP s.p.ca,bV 107 B6 s.p.mi,bV 93 BO s.p.me,bV 57 As s.p.dm,bV 103 BJ s.p.lk,bV 3 A7 s.p.dr,bV 3 A7 s.p.tg,⟨[.os 4 11 0<|M s.p.cs,.xl .str s.p.os,.xl Ah s.p.ks,.xl Af s.p.gs,.xl Ai s.p.bs,.v<|Y J s.p.tk,.v<|.bool s.p.up,.os 5 5 0<|M s.p.ls,.v<|Y J s.p.se,.os 6 1 0<|M s.p.fl,.os 7 2 0<|M s.p.ra,.v<|Y J s.p.nx,.os 8 4 0<|M s.p.st,.os 9 5 0<|M s.p.ca,.os 10 3 0<|M s.p.mi,.os 11 3 0<|M s.p.me,.os 12 4 0<|M s.p.dm,.os 13 6 0<|M s.p.lk,.os 14 1 0<|M s.p.dr,.os 15 1 0<|M s.p.tg,.v<|Y J s.ev.ek,.v<|Y J s.ev.en,.v<|Y J s.ev.em,.v<|Y J s.ev.c1,.v<|Y J s.ev.c2,.v<|Y J s.ev.c3,.v<|Y J s.ev.c4,.v<|Y J s.ev.c5,.v<|.bool s.ev.d1,.v<|Y J s.ev.d2,.v<|Y J s.ev.d3,.v<|Y J s.ev.d4,.v<|.slice aj 0 0],85,.cl,X⟩]
structure XX where
 res:Int
 p:PK
 ev:EW
def acP (s:XX):LV:=.v<|Y J s.res
def acp (s:XX):List AB:=[AO,AO,zB,AO,bV 67 Ad s.p.cs,AO,AO,AO,bV 90 B3 s.p.st,bV 55 AP s.p.ca,bV 107 B6 s.p.mi,bV 93 BO s.p.me,bV 57 As s.p.dm,bV 103 BJ s.p.lk,bV 3 A7 s.p.dr,bV 3 A7 s.p.tg,⟨[.os 4 11 0<|M s.p.cs,.xl .str s.p.os,.xl Ah s.p.ks,.xl Af s.p.gs,.xl Ai s.p.bs,.v<|Y J s.p.tk,.v<|.bool s.p.up,.xl AP s.p.ls,.v<|Y J s.p.se,.xl (.int aw) s.p.fl,.xl Am s.p.ra,.v<|Y J s.p.nx,.os 8 4 0<|M s.p.st,.os 9 5 0<|M s.p.ca,.os 10 3 0<|M s.p.mi,.os 11 3 0<|M s.p.me,.os 12 4 0<|M s.p.dm,.os 13 6 0<|M s.p.lk,.os 14 1 0<|M s.p.dr,.os 15 1 0<|M s.p.tg,.v<|Y J s.ev.ek,.v<|Y J s.ev.en,.v<|Y J s.ev.em,.v<|Y J s.ev.c1,.v<|Y J s.ev.c2,.v<|Y J s.ev.c3,.v<|Y J s.ev.c4,.v<|Y J s.ev.c5,.v<|.bool s.ev.d1,.v<|Y J s.ev.d2,.v<|Y J s.ev.d3,.v<|Y J s.ev.d4,.v<|.slice aj 0 0],85,.cl,X⟩]
def fv (s:Nn):T XX:=letI b:=(M s.p.gs:Int);letI c:=s.p.fl.drop 0;letI d:=M s.p.fl;letI e:=(aq b.toNat ((0:Int),(0:Int)));letI f:=s.p.ls.drop 0;letI g:=M s.p.ls;letI h:=s.p.ra.drop 0;letI i:=M s.p.ra;letI a:=c.take d;letI j:=D9 (BI s.p.se a) s.p.tk;.br s.p.up (.rz s.p.ls<|.rz s.p.fl<|.rz s.p.ra<|.rl s.p.cs<|.pb s.p<|.ok<|⟨6,{s.p with ls:=f.take g,fl:=c.take d,ra:=h.take i},s.ev⟩)<|.rz s.p.fl<|.req (BG a)<|.br ((CO s.p.se a) !=0) (.rz s.p.ls<|.rz s.p.fl<|.rz s.p.ra<|.rl s.p.cs<|.pb s.p<|.ok<|⟨CO s.p.se a,{s.p with ls:=f.take g,fl:=c.take d,ra:=h.take i},s.ev⟩)<|.br (j !=0) (.rz s.p.ls<|.rz s.p.fl<|.rz s.p.ra<|.rl s.p.cs<|.pb s.p<|.ok<|⟨j,{s.p with ls:=f.take g,fl:=c.take d,ra:=h.take i},s.ev⟩)<|.rz s.p.fl<|.req (BG a)<|.br ((Hz s.p.se a) !=0) (.rz s.p.ls<|.rz s.p.fl<|.rz s.p.ra<|.rl s.p.cs<|.pb s.p<|.ok<|⟨Hz s.p.se a,{s.p with ls:=f.take g,fl:=c.take d,ra:=h.take i},s.ev⟩)<|.rm 16 b<|.rz s.p.fl<|.req (0+b.toNat<=M e)<|.rl s.p.cs<|.pb s.p<|.ok<|⟨0,{s.p with up:=U,ls:=BX (BI s.p.se a) s.p.tk,fl:=c.take d,ra:=(e.drop 0).take b.toNat,nx:=JG s.p.se a},s.ev⟩
def aB9 (s:Nn):Prop:=BG s.p.fl/\M s.p.gs<=1000
def Qq (s:Nn):XX:=⟨PK.Er s.p,JF (PK.Er s.p) (PK.Qu s.p) s.p,s.ev⟩
def aBE:Cx Nn XX:=⟨UU,YZ,λv b=>⟨rF b,rG b⟩,aB9,[0,1,3],[.pc 16 7 AP,.kb 5,.pc 16 9<|.int aw,.kb 6,.pc 16 10 Am,.kb 7],acP,acp,Qq⟩
abbrev aiU (s:Nn):Prop:=aB9 s/\UU s=UU s/\YZ s=YZ s
def eY:List Bd:=[uy,eQ,ai6]
def aTb:DL:=CS 41 18 2 (KT.lp)<|CS 23 0 9 (Gb.lp)<|Du prog AU (eY) 20 2
def aoV:EL prog AU aTb:=DD func41 rfl AT K8<|DD func23 rfl AT Cn<|Hb<|gk eY
def ayK (s:Nn):((Ec prog AU eY aTb Fx).k 20 (UU s)<|YZ s).bind (λq=>G6 (M<|YZ s) [0] [.pc 16 7 AP,.kb 5,.pc 16 9<|.int aw,.kb 6,.pc 16 10 Am,.kb 7] .normal (q.1::UU s) q.2)=(fv s).mp (λs2=>⟨.normal,M (UU s)+1,[acP s2],acp s2,U⟩):=AT
end Go.Proofs.YtmlcgekfmlidcaaGreatDoor
end
