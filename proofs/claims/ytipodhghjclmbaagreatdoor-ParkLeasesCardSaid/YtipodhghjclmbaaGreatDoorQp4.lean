/- Helpers for ParkLeases. Conditions: none. -/
import Derived.Test.YtipodhghjclmbaaGreatDoorQp3
set_option linter.defProp false
set_option linter.unusedVariables false
set_option linter.unusedSimpArgs false
noncomputable section
open List renaming length→M,length→aa,replicate→aq,range→au
open Bool renaming true→U,true→ae,false→X,false→af
open Go.Value renaming int→Y,int→ag
open Option renaming some→ah,none→aj
open Go.IntKind renaming i64→J,i64→ai,u8→aw,u32→ax
open True renaming intro→ak
open Decidable renaming decide→an
open ByteArray renaming mk→av
open Go.Region renaming ready→ay,wanted→az
open Go.Instr renaming findNow→aA
namespace Go.Proofs.YtipodhghjclmbaaGreatDoor
set_option maxRecDepth 100000
set_option maxHeartbeats 4000000
open Go.Proofs.Tryz
open Go.Sx
def Qs:AT Mb:=⟨0,108,[0,1,6,9,67,68,69],[],λs=>[xQ 9 [s.cs,s.os,s.ks,s.gs,s.bs,s.l,s.d,s.t,.xl A7 s.od],s.ak1,s.r,s.n,s.m,s.k,s.i],λ_=>[],λv b=>⟨Ap Ad<|BT (v.getD 0 .junk) 0,Ap .str<|BT (v.getD 0 .junk) 1,Ap Ai<|BT (v.getD 0 .junk) 2,Ap Ae<|BT (v.getD 0 .junk) 3,Ap Aj<|BT (v.getD 0 .junk) 4,Ap AQ<|BT (v.getD 0 .junk) 5,Ap Au<|BT (v.getD 0 .junk) 6,gI<|BT (v.getD 0 .junk) 7,Ap A7<|BT (v.getD 0 .junk) 8,B5 Am v 1,Ec v 2,AK v 3,B5 AQ v 4,AK v 5,AK v 6⟩,vd,λs r=> {s with r:=r.r,i:=r.i},λs=>s,λ_ s=>s,[.ret,.exit 0],iN,Y4,su⟩
abbrev aC4:=Qs.run
abbrev aI8:=Qs.Av
def awl:Rq Y4 vd:=by
 exact Sj
def gL:List Bd:=[WU,WS,aTu,aaR,ai5]
def aQY:Qs.Ok:={}
def aP0:Qs.Pf (aAh):=⟨alf,λs h=>rfl,ah0,awl⟩
def aqF:SA 0 aFj Qs:=s1 aQY aP0 gL kN
def asQ:Fi iN Y4 aAh aI8 aC4:=AT.fin aQY aP0
structure Mk where
 cs:List Cd
 os:List ByteArray
 ks:List Ko
 gs:List Ch
 bs:List Ba
 l:List Le
 d:List Dm
 t:Int
 od:List Int
 rs:List Ra
 r:Bool
 m:List Ch
 (k i:Int)
def aFi:=bN f118 1
def vb (s:Mk):T (Rd Mk):=letI a:=AG s.m s.i;.br (an<|s.i<s.k) (.ix s.i (M s.m)<|.ix s.i (M s.rs)<|.br (!(IU a.2.2.1 a.2.2.2.1 a.2.2.2.2.1 a.2.2.2.2.2.1 a.2.2.2.2.2.2.1 (Bw s.rs s.i).1 (Bw s.rs s.i).2)) (.so (.ret) {s with r:=X})<|.ix s.i (M s.d)<|.br (!(HR<|Dq s.d s.i)) (.so (.ret) {s with r:=X})<|.nx {s with i:=AA<|s.i+1})<|.so (.exit 2) s
def Wc (s:Mk) (j:Int):Bool:=raC (AG s.m j) (Bw s.rs j)&&HR (Dq s.d j)
def iM (s:Mk):Prop:=s.i=0/\0<=s.k/\s.k<=1000/\s.k=(M s.m:Int)/\M s.rs=M s.m/\M s.d=M s.m
def Y3 (s:Mk):Prop:=0<=s.i/\s.i<=s.k/\s.k<=1000/\(s.k=(M s.m:Int)/\M s.rs=M s.m/\M s.d=M s.m)/\∀j:Nat,(j:Int)<s.i->Wc s j=U
def ss (s:Mk):Nat:=(s.k-s.i).toNat
def aAg (x:Ex) (s s':Mk):Prop:=(x=.exit 2/\∀j:Nat,(j:Int)<s'.k->Wc s' j=U)\/(x=.ret/\s'.r=X/\∃j:Nat,(j:Int)<s'.k/\Wc s' j=X)
def ale:∀s,iM s->Y3 s:=by
 exact L3
theorem agz:Da Y3 ss aAg vb:=by
 intro s hI;obtain ⟨h0,h1,h2,h3,h4⟩:=hI;refine AH (λc1=>AH (λc2=>?_) λc2=>AH (λc3=>?_) λc3=>?_) λc1=>?_
 ·exact aLO
 ·exact aLO
 ·have c1:s.i<s.k:=AX
  have hg:Wc s s.i=true:=aN4
  rw [AJ (x:=s.i+1)];refine ⟨⟨AZ,AZ,h2,h3,λj hj=>?_⟩,by simp only [ss];omega⟩
  exact L2
 ·have c1:s.k<=s.i:=AX
  exact Zf
def Qr:AT Mk:=⟨0,108,[0,1,6,82,83,84],[],λs=>[xQ 9 [s.cs,s.os,s.ks,s.gs,s.bs,s.l,s.d,s.t,.xl A7 s.od],s.rs,s.r,s.m,s.k,s.i],λ_=>[],λv b=>⟨Ap Ad<|BT (v.getD 0 .junk) 0,Ap .str<|BT (v.getD 0 .junk) 1,Ap Ai<|BT (v.getD 0 .junk) 2,Ap Ae<|BT (v.getD 0 .junk) 3,Ap Aj<|BT (v.getD 0 .junk) 4,Ap AQ<|BT (v.getD 0 .junk) 5,Ap Au<|BT (v.getD 0 .junk) 6,gI<|BT (v.getD 0 .junk) 7,Ap A7<|BT (v.getD 0 .junk) 8,B5 Am v 1,Ec v 2,B5 Ae v 3,AK v 4,AK v 5⟩,vb,λs r=> {s with r:=r.r,i:=r.i},λs=>s,λ_ s=>s,[.ret,.exit 2],iM,Y3,ss⟩
abbrev aGA:=Qr.run
abbrev aI7:=Qr.Av
def awk:Rq Y3 vb:=by
 intro s hI;refine ⟨λc1=>⟨?_,?_,λ_=>trivial,λc2=>⟨?_,λ_=>trivial,λ_=>trivial⟩⟩,λ_=>trivial⟩
 all_goals ((obtain ⟨h0,h1,h2,h3,h4⟩:=hI;obtain ⟨h3,h5,h6⟩:=h3;simp at c1;omega))
def aQX:Qr.Ok:={}
def aOz:Qr.Pf (aAg):=⟨ale,λs h=>rfl,agz,awk⟩
def aqE:SA 0 aFi Qr:=s1 aQX aOz gL kN
def asP:Fi iM Y3 aAg aI7 aGA:=AT.fin aQX aOz
def aIU:List LV->T LV
 | [.xq 9 q0,.xl (.pair (.int J) (.int J)) rs,.v (Y J n)]=>(match ([q0 0,q0 1,q0 2,q0 3,q0 4,q0 5,q0 6,q0 7,q0 8]:List LV) with
  | [.xl (.pair .str (.pair (.int J) (.pair (.int J) (.pair (.int J) (.pair (.pair (.int J) (.int J)) (.pair (.int J) (.pair (.int J) (.pair (.int J) (.pair (.int J) (.int J)))))))))) cs,.xl (.str) os,.xl (.pair .str (.pair (.int J) (.pair (.int J) (.int J)))) ks,.xl (.pair .str (.pair (.int J) (.pair (.int J) (.pair (.int J) (.pair (.int J) (.pair (.int J) (.pair (.int J) (.int J)))))))) gs,.xl (.pair .str (.int J)) bs,.xl (.pair (.int J) (.pair (.int J) (.pair (.int J) (.pair (.int J) (.int J))))) l,.xl (.pair .bool (.pair (.int J) (.pair (.int J) (.int J)))) d,.v (Y J t),.xl (.int J) od]=> .ok (JG cs os ks gs bs l rs d t n)
  |_=> .no)
 |_=> .no
def aqk (cs:List Cd) (os:List ByteArray) (ks:List Ko) (gs:List Ch) (bs:List Ba) (l:List Le) (d:List Dm) (t:Int) (od:List Int) (rs:List Ra) (n:Int):letI b:=(M gs:Int);letI c:=(M l:Int);letI a:=(aC4 (⟨cs,os,ks,gs,bs,l,d,t,od,rs,X,b,l,c,(0:Int)⟩:Mb));Bi prog AV (gL) kN (λi=>if i=8 then Qs.lp else if i=14 then Qr.lp else Al i) f118 [xQ 9 [cs,os,ks,gs,bs,l,d,t,.xl A7 od],rs,n]=.br (((OI cs os ks gs bs) !=0) ||(!(BC l))) (.ok X) (.br (((M rs:Int) !=b) ||(((M d:Int) !=b) ||((!(inB t (0:Int) (1000000:Int))) ||(!(inB n (1:Int) (999900:Int)))))) (.ok X)<|.req (Qs.q (⟨cs,os,ks,gs,bs,l,d,t,od,rs,X,b,l,c,(0:Int)⟩:Mb))<|.br (Bs (aI8 (⟨cs,os,ks,gs,bs,l,d,t,od,rs,X,b,l,c,(0:Int)⟩:Mb))<|.ret) (.ok a.r)<|.req (Qr.q (⟨cs,os,ks,gs,bs,l,d,t,od,rs,a.r,gs,b,(0:Int)⟩:Mk))<|.br (Bs (aI7 (⟨cs,os,ks,gs,bs,l,d,t,od,rs,a.r,gs,b,(0:Int)⟩:Mk))<|.ret) (.ok (aGA (⟨cs,os,ks,gs,bs,l,d,t,od,rs,a.r,gs,b,(0:Int)⟩:Mk)).r)<|.ok U):=AU
def av1:=vm (S:=aIU) func118 gL kN (L:=(λi=>if i=8 then Qs.lp else if i=14 then Qr.lp else Al i)) (λb hb=>by
 rw [show BD _=[aFj,aFi] by kernel_rfl] at hb
 simp only [B7,Bt,Bu] at hb;rcases hb with rfl|rfl
 ·exact aqF
 ·exact aqE) (λargs lv h=>by
 refine ⟨?_⟩;unfold aIU at h;split at h
 ·split at h
  case h_2=>cases h
  rename_i heq0;simp only [canL,canX];rw [Dn (n:=9) heq0];simp only [canL,canX];rw [aqk];rename_i rs n _ cs os ks gs bs l d t od;obtain rfl:=h
  have e0:((OI cs os ks gs bs !=0) || !BC l)=!(BL cs os ks gs bs&&BC l):=by
   unfold OI;cases BL cs os ks gs bs<;>cases BC l<;>rfl
  have e1:(((M rs:Int) !=(M gs:Int)) ||(((M d:Int) !=(M gs:Int)) ||(!inB t 0 1000000 || !inB n 1 999900)))=!(an (M rs=M gs)&&(an (M d=M gs)&&(inB t 0 1000000&&inB n 1 999900))):=by
   rw [neN,neN,Bool.not_and,Bool.not_and,Bool.not_and]
  rw [e0,e1]
  have bad:JG cs os ks gs bs l rs d t n=X->LV.v (.bool X)=LV.v (.bool<|JG cs os ks gs bs l rs d t n):=λh=>VZ
  refine ⟨λc=>bad (by unfold JG;rw [ntW c];rfl),λc=>⟨λc2=>bad (by unfold JG;rw [ntW c2,Pq,SS]),λc2=>?_⟩⟩
  have c:=nfW c
  have c2:=nfW c2
  have c':=c
  have c2':=c2
  simp only [AY,Ac] at c' c2'
  have hl:=GS c'.2
  have hg:=(DF.1 c'.1).1.2.2.2.2.1
  have hE:iN ⟨cs,os,ks,gs,bs,l,d,t,od,rs,X,(M gs:Int),l,(M l:Int),0⟩:=⟨rfl,AZ,AZ,rfl⟩
  have ev:JG cs os ks gs bs l rs d t n=(below (M gs) l&&Dc (M gs) (λj=>raC (AG gs j) (Bw rs j)&&HR (Dq d j))):=by
   unfold JG;rw [c,c2,EA,EA]
  refine ⟨⟨hE,rfl,rfl⟩,?_⟩;obtain ⟨_,_,hq⟩:=asQ _ hE
  have eb:below (M gs) l=Dc (M l) (λj=>an<|(An l j).2.1<(M gs:Int)):=by
   rw [Ia,Dy];exact (QJ (d:=(0,0,0,0,0)) (p:=λx:Le=>an<|x.2.1<(M gs:Int))).symm
  rcases hq with ⟨q1,q2⟩ |⟨q1,q2,j,q3,q4⟩<;>rw [q1]
  rotate_left
  ·rw [q2]
   exact ⟨λ_=>bad (by rw [ev,eb,QP (f:=λj=>an<|(An l j).2.1<(M gs:Int)) j q3 q4];rfl),λh=>Ao⟩
  refine ⟨λh=>Ao,λ_=>?_⟩
  have g0:below (M gs) l=true:=by rw [eb];exact Dy.2 q2
  have hE2:iM ⟨cs,os,ks,gs,bs,l,d,t,od,rs,(aC4 ⟨cs,os,ks,gs,bs,l,d,t,od,rs,X,(M gs:Int),l,(M l:Int),0⟩).r,gs,(M gs:Int),0⟩:=⟨rfl,AZ,AZ,rfl,c2'.1,c2'.2.1⟩
  refine ⟨⟨hE2,rfl,rfl⟩,?_⟩;obtain ⟨_,_,hq⟩:=asP _ hE2;rcases hq with ⟨q5,q6⟩ |⟨q5,q6,j,q7,q8⟩<;>rw [q5]
  ·exact ⟨λh=>Ao,λ_=>by rw [ev,g0,(Dy (f:=λj=>raC (AG gs j) (Bw rs j)&&HR (Dq d j))).2 q6];rfl⟩
  ·rw [q6]
   exact ⟨λ_=>bad<|by rw [ev,QP (f:=λj=>raC (AG gs j) (Bw rs j)&&HR (Dq d j)) j q7 q8,SS],λh=>Ao⟩
 ·cases h)
structure Mt where
 n:Int
 r:Bool
 l:List Int
 (m k:Int)
 seen:List Bool
def aFe:=bN f189 0
def gB (s:Mt):T (Rd Mt):=letI a:=gi s.l s.k;letI b:=M s.seen;letI c:=s.seen.set a.toNat U;.br (an<|s.k<s.m) (.ix s.k (M s.l)<|.br (an<|a<0) (.rl s.seen<|.so (.ret) {s with r:=X})<|.br (an<|a>=s.n) (.rl s.seen<|.so (.ret) {s with r:=X})<|.ik a b<|.br (s.seen.getD a.toNat<|Ty.dflt .bool) (.rl s.seen<|.so (.ret) {s with r:=X})<|.ik a b<|.re b c<|.nx {s with k:=AA<|s.k+1,seen:=c})<|.rl s.seen<|.so (.exit 0) s
def PY (s:Mt) (j:Int):Bool:=Pc s.n (gi s.l j)&&!(((s.l.take j.toNat).map id).contains<|id<|gi s.l j)
def aB8 (s:Mt):Prop:=s.k=0/\s.seen=aq (M s.seen) X/\s.m=(M s.l:Int)/\s.m<=1000/\s.n=(M s.seen:Int)
def Xy (s:Mt):Prop:=(0<=s.k/\s.k<=s.m)/\(∀j:Nat,j<M s.seen->s.seen.getD j X=(s.l.take s.k.toNat).contains (j:Int))/\(∀j:Nat,(j:Int)<s.k->PY s j=U)/\s.m=(M s.l:Int)/\s.m<=1000/\s.n=(M s.seen:Int)
def sY (s:Mt):Nat:=(s.m-s.k).toNat
def iF (x:Ex) (s s':Mt):Prop:=(x=.exit 0/\∀j:Nat,(j:Int)<s'.m->PY s' j=U)\/(x=.ret/\s'.r=X/\∃j:Nat,(j:Int)<s'.m/\PY s' j=X)
theorem aja:∀s,aB8 s->Xy s:=by
 rintro s ⟨h0,h1,h2,h3,h4⟩
 refine ⟨A0,λj hj=>?_,λj hj=>A0,h2,h3,h4⟩
 rw [h1,h0]
 grind
theorem ayA:Da Xy sY iF gB:=by
 intro s hI;unfold gB;obtain ⟨⟨h0,h1⟩,h2,h3,h4,h5,h6⟩:=hI;refine AH (λc1=>?_) λc1=>?_
 rotate_left
 ·have c1:s.m<=s.k:=AX
  exact .inl ⟨rfl,λj hj=>h3 j A0⟩
 have c1:s.k<s.m:=AX
 have bad:PY s s.k=X->iF .ret s {s with r:=X}:=λhg=> .inr ⟨rfl,rfl,s.k.toNat,AZ,by rw [CM h0];exact hg⟩
 refine AH (λc2=>bad ?_) λc2=>AH (λc3=>bad ?_) λc3=>AH (λc4=>bad ?_) λc4=>?_
 ·unfold PY Pc
  simp only [Ac] at c2;rw [I8 A0];rfl
 ·unfold PY Pc
  simp only [Ac] at c3;rw [I8 (p:=gi s.l s.k<s.n) A0,SS];rfl
 all_goals
  have c2:0<=gi s.l s.k:=EC
  have c3:gi s.l s.k<s.n:=ND
  have e:=h2 (gi s.l s.k).toNat A0
  rw [CM c2] at e
 ·have c4:s.seen.getD (gi s.l s.k).toNat X=true:=c4
  unfold PY;rw [V8,id,<-e,c4]
  simp
 ·have c4:s.seen.getD (gi s.l s.k).toNat X=false:=c4
  have hg:PY s s.k=true:=by
   unfold PY;rw [V8,id,<-e,c4,o7.2 ⟨c2,c3⟩];rfl
  rw [AJ (x:=s.k+1)];refine ⟨⟨⟨AZ,AZ⟩,λj hj=>?_,λj hj=>?_,h4,h5,A8⟩,by simp only [sY];omega⟩
  ·simp only [CH] at hj
   simp only;rw [(gi_step h0 (show s.k<M s.l by omega)).2,List.contains_append,<-h2 j hj]
   by_cases hj2:(gi s.l s.k).toNat=j
   ·subst hj2
    rw [CM c2]
    simp [List.getD,hj]
   ·have:¬(j:Int)=gi s.l s.k:=A0
    grind
  ·by_cases hji:(j:Int)<s.k
   ·exact h3 j hji
   ·have:(j:Int)=s.k:=lO
    rw [this];exact hg
def RX:AT Mt:=⟨0,37,[1,4,5,14,15,16],[],λs=>[s.n,s.r,.os 0 1 0<|M s.seen,.xl A7 s.l,s.m,s.k],λs=>[bV 4 .bool s.seen],λv b=>⟨AK v 0,Ec v 1,B5 A7 v 3,AK v 4,AK v 5,gVe .bool<|CS b 0⟩,gB,λs r=> {r with n:=s.n,l:=s.l,m:=s.m},λs=>s,λ_ s=>s,[.ret,.exit 0],aB8,Xy,sY⟩
abbrev aG9:=RX.run
abbrev aI5:=RX.Av
theorem awc:Rq Xy gB:=by
 intro s hI;refine ⟨λc1=>⟨?_,λc2=>⟨A9,ak⟩,λc2=>⟨λc3=>⟨A9,ak⟩,λc3=>⟨?_,?_,λc4=>⟨A9,ak⟩,λc4=>⟨?_,?_,?_,ak⟩⟩⟩⟩,λc1=>⟨A9,ak⟩⟩
 iterate 5 · (obtain ⟨⟨h0,h1⟩,h2,h3,h4,h5,h6⟩:=hI;simp only [Ac,Cy] at*;omega)
 ·grind
def acC:List Bd:=[]
def aQP:RX.Ok:={}
def aOr:RX.Pf (iF):=⟨aja,λs h=>rfl,ayA,awc⟩
def aqA:SA 0 aFe RX:=s1 aQP aOr acC kN
def asA:Fi aB8 Xy iF aI5 aG9:=AT.fin aQP aOr
def aJW:List LV->T LV
 | [.xl (.int J) l,.v (Y J n)]=> .req (n<=1000) (.ok<|Gb l n)
 |_=> .no
def Wt:=vm (S:=aJW) func189 acC kN (L:=(λi=>if i=5 then RX.lp else Al i)) (λb hb=>by
 rw [show BD _=[aFe] by kernel_rfl] at hb
 simp only [B7,Bt,Bu] at hb;subst hb;exact aqA) (λargs lv h=>by
 unfold aJW at h;split at h
 ·rename_i l n
  refine Aq (letI a:=aq n.toNat X;letI b:=(M l:Int);.br (b !=n) (.ok X)<|.rm 1 n<|.re n.toNat a<|.req (RX.q (⟨n,X,l,b,0,a⟩:Mt))<|.br (Bs (aI5 (⟨n,X,l,b,0,a⟩:Mt))<|.ret) (.ok (aG9 (⟨n,X,l,b,0,a⟩:Mt)).r)<|.ok U) ?_;obtain ⟨hl,rfl⟩:=h;refine ⟨λc=>B0 (λz=>LV.v<|.bool z) ?_,λc=>?_⟩
  ·have c:¬(M l:Int)=n:=A8
   unfold Gb;rw [I8 c];rfl
  ·have c:(M l:Int)=n:=A8
   unfold Gb;rw [Cm c,EA];refine ⟨A0,⟨rfl,AI⟩,Lf ⟨⟨rfl,AI,rfl,A8,A8⟩,rfl,rfl⟩ λhE=>?_⟩
   obtain ⟨s',_,hq⟩:=asA _ hE.1;rcases hq with ⟨q1,q2⟩ |⟨q1,q2,j,q3,q4⟩
   ·rw [q1]
    have hk:=(W2 (d:=(0:Int)) (p:=Pc n) (k:=id)).1 q2
    rw [V8] at hk;rw [hk];exact ⟨λh=>Ao,λ_=>rfl⟩
   ·rw [q1,q2]
    refine ⟨λ_=>B0 (λz=>LV.v<|.bool z) ?_,λh=>Ao⟩
    rw [Sh,I6];intro hx
    have:=(W2 (d:=(0:Int)) (p:=Pc n) (k:=id)).2 G1 j q3
    exact Bool.noConfusion<|this.symm.trans q4
 ·cases h)
structure Iw where
 r:Bool
 l:List Int
 (n i:Int)
 Bg:List Cd
 GO:List ByteArray
 GM:List Ko
 GQ:List Ch
 GV:List Ba
def va (s:Iw):T (Rd Iw):=
 .br (an<|s.i<s.n) (.ix s.i (M s.l)<|.br (!((an<|(gi s.l s.i)>=0)&&(an<|(gi s.l s.i)<=80))) (.so (.ret) {s with r:=X})<|.nx {s with i:=AA<|s.i+1}) (.so (.exit 0) s)
def Th (s:Iw) (j:Int):Bool:=Hk<|gi s.l j
def iK (s:Iw):Prop:=s.i=0/\0<=s.n/\s.n<=1000/\s.n=(M s.l:Int)
def Y1 (s:Iw):Prop:=0<=s.i/\s.i<=s.n/\s.n<=1000/\(s.n=(M s.l:Int))/\∀j:Nat,(j:Int)<s.i->Th s j=U
def sj (s:Iw):Nat:=(s.n-s.i).toNat
def aAd (x:Ex) (s s':Iw):Prop:=(x=.exit 0/\∀j:Nat,(j:Int)<s'.n->Th s' j=U)\/(x=.ret/\s'.r=X/\∃j:Nat,(j:Int)<s'.n/\Th s' j=X)
def alX:∀s,iK s->Y1 s:=by
 exact L3
theorem agu:Da Y1 sj aAd va:=by
 intro s hI;obtain ⟨h0,h1,h2,h3,h4⟩:=hI;refine AH (λc1=>AH (λc2=>?_) λc2=>?_) λc1=>?_
 ·have c1:s.i<s.n:=AX
  refine .inr ⟨rfl,rfl,s.i.toNat,A8,?_⟩
  have hg:Th s s.i=false:=aMB
  exact hg
 ·have c1:s.i<s.n:=AX
  have hg:Th s s.i=true:=aMB
  rw [AJ (x:=s.i+1)];refine ⟨⟨A8,A8,h2,h3,λj hj=>?_⟩,by simp only [sj];omega⟩
  exact L2
 ·exact Sg
def Tc:AT Iw:=⟨1,18,[1,4,7,8,9],[],λs=>[.fn 187 [],s.r,.xl A7 s.l,s.n,s.i],λs=>[⟨[s.Bg,s.GO,s.GM,s.GQ,s.GV],28,.cl,X⟩],λv b=>⟨Ec v 1,B5 A7 v 2,AK v 3,AK v 4,AF Ad b 0 0,AF .str b 0 1,AF Ai b 0 2,AF Ae b 0 3,AF Aj b 0 4⟩,va,λs r=> {s with r:=r.r,i:=r.i},λs=>s,λ_ s=>s,[.ret,.exit 0],iK,Y1,sj⟩
abbrev cV:=Tc.run
abbrev cU:=Tc.Av
def Qh:List Bd:=[WS,Wt,Ws,Wu]
def al9:Ay:=kI Qh<|l0 Qh
def awh:Rq Y1 va:=by
 exact Sj
def aQU:Tc.Ok:={}
def aOw:Tc.Pf (aAd):=⟨alX,λs h=>rfl,agu,awh⟩
def WM:=s2 (b:=bN f188 0) aQU aOw Qh al9
def atK:Fi iK Y1 aAd cU cV:=AT.fin aQU aOw
def aIJ (s:Iw) (hE:iK s):(cU s=.exit 0/\s.l.all Hk=U)\/(cU s=.ret/\(cV s).r=X/\s.l.all Hk=X):=by
 obtain ⟨s',hI,hq⟩:=atK s hE;obtain ⟨h0,h1,h2,h3⟩:=hE
 have en:(cV s).n=s.n:=rfl
 rcases hq with ⟨q1,q2⟩ |⟨q1,q2,j,q3,q4⟩
 ·refine .inl ⟨q1,(QJ (d:=(0:Int))).1 λj hj=>?_⟩
  have:=q2 j A0
  exact this
 ·exact aL3
structure FJ where
 alive:List Int
 i:Int
 rows:List Rw
 (rn ri:Int)
 l:List Int
 (n k:Int)
 K2:List Cd
 K8:List ByteArray
 K7:List Ko
 K6:List Ch
 KI:List Ba
 HN:List Cd
 HM:List ByteArray
 Ew:List Ko
 B2:List Ch
 HO:List Ba
 BH:List Rw
 (BG CG CF CE CD CB CA C9 C8 C7 CC C6 C5 C4 C3 C2 C1 sums levels:List Int)
def aEe:=lN (bN f190 0) 0
def Ge (s:FJ):List (List Int):=[s.CG,s.CF,s.CE,s.CD,s.CB,s.CA,s.C9,s.C8,s.C7,s.CC,s.C6,s.C5,s.C4,s.C3,s.C2,s.C1]
def nsO (s:FJ) (l:List<|List Int):FJ:={s with CG:=l.getD 0 [],CF:=l.getD 1 [],CE:=l.getD 2 [],CD:=l.getD 3 [],CB:=l.getD 4 [],CA:=l.getD 5 [],C9:=l.getD 6 [],C8:=l.getD 7 [],C7:=l.getD 8 [],CC:=l.getD 9 [],C6:=l.getD 10 [],C5:=l.getD 11 [],C4:=l.getD 12 [],C3:=l.getD 13 [],C2:=l.getD 14 [],C1:=l.getD 15 []}
def ns (s:FJ) (j:Nat):FJ:={nsO s ((Ge s).modify j (·++[s.i])) with k:=AA<|s.k+1,sums:=s.sums.set s.i.toNat<|AA<|s.sums.getD s.i.toNat 0+gi s.alive (j:Int)}
def rO {α:Type}(x:List Int):List (List Int)->Nat->T α->T α
 | [],_,t=>t
 |o::l,0,t=> .re (M o+M x) (o++x) (rO x l 1000 t)
 |o::l,j+1,t=> .rl o<|rO x l j t
def XH {σ:Type}{s:σ}{x:List Int}{t:T<|Rd σ}:∀l j,(rO x l j t).rd s=t.rd s
 | [],_=>rfl
 |_::l,0=>XH l 1000
 |_::l,j+1=>XH l j
def fC {α:Type}{K:α->Prop}{x:List Int}{t:T α}(h:t.all K):∀l j,(rO x l j t).all K
 | [],_=>h
 |_::l,0=>⟨⟨rfl,AI⟩,fC h l 1000⟩
 |_::l,j+1=>⟨⟨rfl,rfl⟩,fC h l j⟩
theorem aDW {α:Type}{K:α->Prop}{f:Nat->T α}{n:Int}:∀m j:Nat,(j:Int)<=n->n<j+m->(∀i:Nat,n=i->(f i).all K)->(splitN f n m j).all K
 |0,_,_,_,_=>A0
 |1,j,_,_,h=>h j A0
 |m+2,j,_,_,h=>⟨λc=>h j<|eq_of_beq c,λc=>aDW (m+1) (j+1) A8 A0 h⟩
theorem ov {σ:Type}{A:σ->Prop}{B:Ex->σ->Prop}{s:σ}{f:Nat->T (Rd σ)}{n:Int}:∀m j:Nat,(j:Int)<=n->n<j+m->(∀i:Nat,n=i->DK A B ((f i).rd s))->DK A B ((splitN f n m j).rd s)
 |0,_,_,_,_=>A0
 |1,j,_,_,h=>h j A0
 |m+2,j,_,_,h=>AH (λc=>h j<|eq_of_beq c) λc=>ov (m+1) (j+1) A8 A0 h
theorem ajg (s:FJ) {l:List<|List Int}(h:M l=16):Ge (nsO s l)=l:=by
 show (au 16).map (λi=>l.getD i [])=l
 refine ZU lT λi h1 h2=>?_
 grind
def wI (s:FJ):T (Rd FJ):=letI a:=M s.sums;.br (an<|s.k<s.n) (.ix s.k (M s.l)<|.req (0<=(gi s.l s.k)/\(gi s.l s.k)<(16:Int))<|splitN (λj=> .rb (M<|(Ge s).getD j []) (M<|[s.i]) 8<|.ix s.i a<|.ix (j:Int) (M s.alive)<|.req (s.i.toNat<M s.sums)<|.ik s.i a<|rO [s.i] (Ge s) j<|.re a (ns s j).sums<|.rl s.levels<|.nx<|ns s j) (gi s.l s.k) 16 0)<|rO [] (Ge s) 1000<|.rl s.sums<|.rl s.levels<|.so (.exit 2) s
def Xl (s:FJ):Prop:=s.k=0/\(∀o∈Ge s,(M o:Int)<=1000000)/\(0<=gi s.sums s.i/\gi s.sums s.i<=1000)/\s.n=(M s.l:Int)/\s.n<=1000/\(∀m∈s.l,0<=m/\m<16/\m<(M s.alive:Int))/\(∀a∈s.alive,0<=a/\a<=80)/\(0<=s.i/\s.i<(M s.sums:Int))
def Qj (s:FJ):Prop:=(0<=s.k/\s.k<=s.n)/\(∀o∈Ge s,(M o:Int)<=1000000+s.k)/\(0<=gi s.sums s.i/\gi s.sums s.i<=1000+80*s.k)/\s.n=(M s.l:Int)/\s.n<=1000/\(∀m∈s.l,0<=m/\m<16/\m<(M s.alive:Int))/\(∀a∈s.alive,0<=a/\a<=80)/\(0<=s.i/\s.i<(M s.sums:Int))
def Ww (s:FJ):Nat:=(s.n-s.k).toNat
def abb (x:Ex) (s s':FJ):Prop:=x=.exit 2/\s'.k=s'.n
theorem ajf:∀s,Xl s->Qj s:=by
 rintro s ⟨h0,h1,h2,h3⟩
 exact ⟨A0,λo ho=>A8,A0,h3⟩
def dJ (s:FJ) (hI:Qj s) (c1:s.k<s.n):0<=gi s.l s.k/\gi s.l s.k<16/\gi s.l s.k<(M s.alive:Int):=by
 obtain ⟨⟨h0,h1⟩,h2,h3,h4,h5,h6,h7,h8⟩:=hI;exact h6 _ aMz
abbrev hU (s:FJ):=(Lh s.i (Ge s)<|s.l.drop s.k.toNat,s.sums.set s.i.toNat<|s.sums.getD s.i.toNat 0+smA s.alive (s.l.drop s.k.toNat))
theorem aQG (s:FJ) (j:Nat) (hI:Qj s) (c1:s.k<s.n) (em:gi s.l s.k=(j:Int)):(Qj (ns s j)/\Ww (ns s j)<Ww s)/\hU (ns s j)=hU s:=by
 generalize e:ns s j=s'
 have hO:Ge s'=(Ge s).modify j (·++[s.i]):=by rw [<-e];exact ajg s (by rw [kJ];rfl)
 have hs:s'.sums=s.sums.set s.i.toNat (AA<|s.sums.getD s.i.toNat 0+gi s.alive (j:Int)):=VU
 have hk:s'.k=AA (s.k+1):=VU
 have hn:s'.n=s.n:=VU
 have hl:s'.l=s.l:=VU
 have ha:s'.alive=s.alive:=VU
 have hi:s'.i=s.i:=VU
 have hm:=dJ s hI c1
 obtain ⟨⟨h0,h1⟩,h2,⟨h3,h3'⟩,h4,h5,h6,h7,h8⟩:=hI;rw [AJ (x:=s.k+1)] at hk
 have hav:=h7 (gi s.alive (j:Int)) aMz
 have hgi:gi s.sums s.i=s.sums.getD s.i.toNat 0:=rfl
 rw [AJ (x:=s.sums.getD s.i.toNat 0+gi s.alive (j:Int))] at hs
 have hs2:gi s'.sums s'.i=s.sums.getD s.i.toNat 0+gi s.alive (j:Int):=by
  rw [hi,hs]
  show List.getD _ _ _=_
  grind
 refine ⟨⟨⟨⟨A0,A0⟩,λo ho=>?_,⟨by rw [hs2];omega,by rw [hs2];omega⟩,by rw [hn,hl];exact h4,A0,by rw [hl,ha];exact h6,by rw [ha];exact h7,⟨by rw [hi];omega,by rw [hi,hs,CH];omega⟩⟩,by simp only [Ww];omega⟩,?_⟩
 ·rw [hO] at ho
  obtain ⟨k,hk2,rfl⟩:=I4.1 ho;rw [kJ] at hk2
  have:=h2 (Ge s)[k]<|H0 _
  rw [List.getElem_modify];split
  ·grind
  ·omega
 ·unfold hU
  rw [hO,hs,hl,ha,hi,hk,(gi_step h0 (show s.k<M s.l by omega)).1,nO,aEZ,em,By,aeN A0]
theorem aQH:Da Qj Ww abb wI:=by
 intro s hI;refine AH (λc1=>?_) λc1=>?_
 ·have hm:=dJ s hI A8
  refine ov 16 0 A0 A0 λi em=>?_
  show DK _ _ ((rO _ _ i _).rd s)
  rw [XH];exact (aQG s i hI A8 em).1
 ·have c1:s.n<=s.k:=A8
  have h0:=hI.1
  exact VE
def UJ:AT FJ:=⟨1,67,[2,7,8,23,24,25,31,32,33],[.ns 7 6 3 A7,.ns 7 7 3 A7,.ns 7 8 3 A7,.ns 7 9 3 A7,.ns 7 10 3 A7,.ns 7 11 3 A7,.ns 7 12 3 A7,.ns 7 13 3 A7,.ns 7 14 3 A7,.ns 7 15 3 A7,.ns 7 16 3 A7,.ns 7 17 3 A7,.ns 7 18 3 A7,.ns 7 19 3 A7,.ns 7 20 3 A7,.ns 7 21 3 A7],λs=>[.xl A7 s.alive,.own 1 0,s.i,.xl Ed s.rows,s.rn,s.ri,.xl A7 s.l,s.n,s.k],λs=>[⟨[s.K2,s.K8,s.K7,s.K6,s.KI],28,.cl,X⟩,⟨[s.HN,s.HM,s.Ew,s.B2,s.HO,.xl Ed s.BH,.os 2 1 0<|M s.CG,.os 3 1 0<|M s.CF,.os 4 1 0<|M s.CE,.os 5 1 0<|M s.CD,.os 6 1 0<|M s.CB,.os 7 1 0<|M s.CA,.os 8 1 0<|M s.C9,.os 9 1 0<|M s.C8,.os 10 1 0<|M s.C7,.os 11 1 0<|M s.CC,.os 12 1 0<|M s.C6,.os 13 1 0<|M s.C5,.os 14 1 0<|M s.C4,.os 15 1 0<|M s.C3,.os 16 1 0<|M s.C2,.os 17 1 0<|M s.C1,.os 18 1 0<|M s.sums,.xl A7 s.BG,.os 19 1 0<|M s.levels],308,.cl,X⟩,bV 3 A7 s.CG,bV 3 A7 s.CF,bV 3 A7 s.CE,bV 3 A7 s.CD,bV 3 A7 s.CB,bV 3 A7 s.CA,bV 3 A7 s.C9,bV 3 A7 s.C8,bV 3 A7 s.C7,bV 3 A7 s.CC,bV 3 A7 s.C6,bV 3 A7 s.C5,bV 3 A7 s.C4,bV 3 A7 s.C3,bV 3 A7 s.C2,bV 3 A7 s.C1,bV 3 A7 s.sums,bV 3 A7 s.levels],λv b=>⟨B5 A7 v 0,AK v 2,B5 Ed v 3,AK v 4,AK v 5,B5 A7 v 6,AK v 7,AK v 8,AF Ad b 0 0,AF .str b 0 1,AF Ai b 0 2,AF Ae b 0 3,AF Aj b 0 4,AF Ad b 1 0,AF .str b 1 1,AF Ai b 1 2,AF Ae b 1 3,AF Aj b 1 4,AF Ed b 1 5,AF A7 b 1 23,Ab A7 b 2,Ab A7 b 3,Ab A7 b 4,Ab A7 b 5,Ab A7 b 6,Ab A7 b 7,Ab A7 b 8,Ab A7 b 9,Ab A7 b 10,Ab A7 b 11,Ab A7 b 12,Ab A7 b 13,Ab A7 b 14,Ab A7 b 15,Ab A7 b 16,Ab A7 b 17,Ab A7 b 18,Ab A7 b 19⟩,wI,λs r=> {s with k:=r.k,CG:=r.CG,CF:=r.CF,CE:=r.CE,CD:=r.CD,CB:=r.CB,CA:=r.CA,C9:=r.C9,C8:=r.C8,C7:=r.C7,CC:=r.CC,C6:=r.C6,C5:=r.C5,C4:=r.C4,C3:=r.C3,C2:=r.C2,C1:=r.C1,sums:=r.sums},λs=>s,λ_ s=>s,[.exit 2],Xl,Qj,Ww⟩
abbrev GN:=UJ.run
def zV:Ay:=kI Qh<|la 2 func188 WM<|l0 Qh
theorem ax8:Rq Qj wI:=by
 intro s hI;refine ⟨λc1=>?_,λ_=>fC (by exact ⟨A9,A9,ak⟩) _ _⟩
 have hm:=dJ s hI A8
 simp only [Ac] at c1;obtain ⟨⟨h0,h1⟩,h2,h3,h4,h5,h6,h7,h8,h9⟩:=id hI;refine ⟨⟨A0,A0⟩,⟨A0,A0⟩,aDW 16 0 A0 A0 λi em=>?_⟩
 refine ⟨⟨A0,?_⟩,⟨A0,A0⟩,⟨A0,A0⟩,A0,⟨A0,A0⟩,A0,fC ?_ _ _⟩
 ·grind
 ·exact ⟨⟨rfl,(CH ..).symm⟩,A9,ak⟩
def rX:UJ.Ok:={}
def sJ:UJ.Pf (abb):=⟨ajf,λs h=>rfl,aQH,ax8⟩
def aoU:SA 1 aEe UJ:=s2 rX sJ Qh zV
theorem anF (s:FJ) (hE:Xl s):(λs:FJ=>(Lh s.i (Ge s)<|s.l.drop s.k.toNat,s.sums.set s.i.toNat<|s.sums.getD s.i.toNat 0+smA s.alive (s.l.drop s.k.toNat))) (GN s)=(λs:FJ=>(Lh s.i (Ge s)<|s.l.drop s.k.toNat,s.sums.set s.i.toNat<|s.sums.getD s.i.toNat 0+smA s.alive (s.l.drop s.k.toNat))) s:=by
 exact AT.KL rX sJ hU (λs hI=>by
  refine AH (λc1=>?_) λc1=>?_
  ·have hm:=dJ s hI A8
   refine ov 16 0 A0 A0 λi em=>?_
   show DK _ _ ((rO _ _ i _).rd s)
   rw [XH];exact (aQG s i hI A8 em).2
  ·rw [XH]
   exact rfl) s hE
def ar6 (s:FJ) (hE:Xl s):Ge (GN s)=Lh s.i (Ge s) s.l/\(GN s).sums=s.sums.set s.i.toNat (s.sums.getD s.i.toNat 0+smA s.alive s.l):=by
 have q3:=anF s hE
 obtain ⟨hI2,hf⟩:=AT.inv rX sJ (λs=>AU) s hE
 have hI2:Qj (GN s):=hI2
 have hq:=cE (aQH _ hI2) hf
 have q2:(GN s).k=(GN s).n:=hq.2
 obtain ⟨h0,h1,h2,h3,h4,h5,h6,h7⟩:=hE;obtain ⟨g0,g1,g2,g3,g4,g5,g6,g7⟩:=hI2
 have el:(GN s).l=s.l:=rfl
 have en:(GN s).n=s.n:=rfl
 have ei:(GN s).i=s.i:=rfl
 have ea:(GN s).alive=s.alive:=rfl
 simp only at q3;rw [q2,en,el,ei,ea,El A0,h0,show (0:Int).toNat=0 from rfl,CP] at q3
 have e1:=B0 Prod.fst q3
 have e2:=B0 Prod.snd q3
 simp only at e1 e2;refine ⟨e1,?_⟩;rw [<-e2];exact (amx (by rw [ei] at g7;omega)).symm
structure E5 where
 alive:List Int
 rows:List Rw
 (rn ri:Int)
 K2:List Cd
 K8:List ByteArray
 K7:List Ko
 K6:List Ch
 KI:List Ba
 HN:List Cd
 HM:List ByteArray
 Ew:List Ko
 B2:List Ch
 HO:List Ba
 BH:List Rw
 (BG CG CF CE CD CB CA C9 C8 C7 CC C6 C5 C4 C3 C2 C1 sums levels:List Int)
def aF8:=bN f190 0
def MK (s:E5):FJ:=(⟨s.alive,s.ri,s.rows,s.rn,s.ri,(CX s.rows s.ri).2,(M (CX s.rows s.ri).2:Int),0,s.K2,s.K8,s.K7,s.K6,s.KI,s.HN,s.HM,s.Ew,s.B2,s.HO,s.BH,s.BG,s.CG,s.CF,s.CE,s.CD,s.CB,s.CA,s.C9,s.C8,s.C7,s.CC,s.C6,s.C5,s.C4,s.C3,s.C2,s.C1,s.sums,s.levels⟩:FJ)
def wH (s:E5):T (Rd E5):=letI a:=GN<|MK s;.br (an<|s.ri<s.rn) (.ix s.ri (M s.rows)<|.rl s.CG<|.rl s.CF<|.rl s.CE<|.rl s.CD<|.rl s.CB<|.rl s.CA<|.rl s.C9<|.rl s.C8<|.rl s.C7<|.rl s.CC<|.rl s.C6<|.rl s.C5<|.rl s.C4<|.rl s.C3<|.rl s.C2<|.rl s.C1<|.rl s.sums<|.rl s.levels<|.req (UJ.q<|MK s)<|.rl a.CG<|.rl a.CF<|.rl a.CE<|.rl a.CD<|.rl a.CB<|.rl a.CA<|.rl a.C9<|.rl a.C8<|.rl a.C7<|.rl a.CC<|.rl a.C6<|.rl a.C5<|.rl a.C4<|.rl a.C3<|.rl a.C2<|.rl a.C1<|.rl a.sums<|.rl s.levels<|.nx {s with ri:=AA<|s.ri+1,CG:=a.CG,CF:=a.CF,CE:=a.CE,CD:=a.CD,CB:=a.CB,CA:=a.CA,C9:=a.C9,C8:=a.C8,C7:=a.C7,CC:=a.CC,C6:=a.C6,C5:=a.C5,C4:=a.C4,C3:=a.C3,C2:=a.C2,C1:=a.C1,sums:=a.sums})<|.rl s.CG<|.rl s.CF<|.rl s.CE<|.rl s.CD<|.rl s.CB<|.rl s.CA<|.rl s.C9<|.rl s.C8<|.rl s.C7<|.rl s.CC<|.rl s.C6<|.rl s.C5<|.rl s.C4<|.rl s.C3<|.rl s.C2<|.rl s.C1<|.rl s.sums<|.rl s.levels<|.so (.exit 0) s
def Fa (s:E5):List (List Int):=[s.CG,s.CF,s.CE,s.CD,s.CB,s.CA,s.C9,s.C8,s.C7,s.CC,s.C6,s.C5,s.C4,s.C3,s.C2,s.C1]
def Tw (s:E5):Prop:=s.ri=0/\(∀o∈Fa s,o=[])/\s.sums=aq (M s.rows) 0/\s.rn=(M s.rows:Int)/\s.rn<=1000/\(∀r∈s.rows,(M r.2:Int)<=1000/\∀m∈r.2,0<=m/\m<16/\m<(M s.alive:Int))/\(∀a∈s.alive,0<=a/\a<=80)/\M s.sums=M s.rows
def Mx (s:E5):Prop:=(0<=s.ri/\s.ri<=s.rn)/\(∀o∈Fa s,(M o:Int)<=1000*s.ri)/\(∀k:Nat,s.ri<=(k:Int)->s.sums.getD k 0=0)/\s.rn=(M s.rows:Int)/\s.rn<=1000/\(∀r∈s.rows,(M r.2:Int)<=1000/\∀m∈r.2,0<=m/\m<16/\m<(M s.alive:Int))/\(∀a∈s.alive,0<=a/\a<=80)/\M s.sums=M s.rows
def TQ (s:E5):Nat:=(s.rn-s.ri).toNat
def iE (x:Ex) (s s':E5):Prop:=x=.exit 0/\s'.ri=s'.rn
theorem akO:∀s,Tw s->Mx s:=by
 rintro s ⟨h0,h1,h2,h3⟩
 refine ⟨A0,λo ho=>A8,λk _=>?_,h3⟩
 grind
def aQF (s:E5) (hI:Mx s) (c1:s.ri<s.rn):Xl (MK s):=by
 obtain ⟨⟨h0,h1⟩,h2,h3,h4,h5,h6,h7,h8⟩:=hI
 have hr:=h6 (CX s.rows s.ri) y8
 refine ⟨rfl,λo ho=>?_,?_,rfl,hr.1,hr.2,h7,h0,?_⟩
 ·have:=h2 o ho
  omega
 ·have:=h3 s.ri.toNat A0
  show 0<=s.sums.getD s.ri.toNat 0/\s.sums.getD s.ri.toNat 0<=1000
  omega
 ·show s.ri<(M s.sums:Int)
  omega
theorem aQE (s s':E5) (hI:Mx s) (c1:s.ri<s.rn) (hO:Fa s'=Ge (GN<|MK s)) (hs:s'.sums=(GN<|MK s).sums) (hk:s'.ri=AA (s.ri+1)) (hn:s'.rn=s.rn) (hl:s'.rows=s.rows) (ha:s'.alive=s.alive):
  (Mx s'/\TQ s'<TQ s)/\(λs:E5=>(HL (Fa s) s.ri<|s.rows.drop s.ri.toNat,HK s.alive s.sums s.ri<|s.rows.drop s.ri.toNat)) s'=(λs:E5=>(HL (Fa s) s.ri<|s.rows.drop s.ri.toNat,HK s.alive s.sums s.ri<|s.rows.drop s.ri.toNat)) s:=by
 obtain ⟨r1,r2⟩:=ar6 _<|aQF s hI c1;obtain ⟨⟨h0,h1⟩,h2,h3,h4,h5,h6,h7,h8⟩:=hI
 have hr:=h6 (CX s.rows s.ri) y8
 rw [AJ (x:=s.ri+1)] at hk
 have r1:Ge (GN<|MK s)=Lh s.ri (Fa s) (CX s.rows s.ri).2:=r1
 have r2:(GN<|MK s).sums=s.sums.set s.ri.toNat (s.sums.getD s.ri.toNat 0+smA s.alive (CX s.rows s.ri).2):=r2
 refine ⟨⟨⟨⟨A0,A0⟩,λo ho=>?_,λk hk2=>?_,A8,A0,by rw [hl,ha];exact h6,by rw [ha];exact h7,A8⟩,by simp only [TQ];omega⟩,?_⟩
 ·rw [hO,r1] at ho
  have:=aGx h2 o ho
  have:=hr.1
  rw [hk];omega
 ·rw [hs,r2]
  have:=h3 k A0
  simp only [List.getD] at this|-;rw [ZL A0];exact this
 ·simp only
  rw [hO,hs,hl,ha,r1,r2,hk,(anW h0 (show s.ri<M s.rows by omega)).1]
  rfl
def ar4 (s s':E5) (hI:Mx s) (c1:s.ri<s.rn) (hO:Fa s'=Ge (GN<|MK s)) (hs:s'.sums=(GN<|MK s).sums) (hk:s'.ri=AA (s.ri+1)) (hn:s'.rn=s.rn) (hl:s'.rows=s.rows) (ha:s'.alive=s.alive):DK (λs'=>Mx s'/\TQ s'<TQ s) (λx s'=>iE x s s') (.next s'):=(aQE s s' hI c1 hO hs hk hn hl ha).1
def ar2 (s s':E5) (hI:Mx s) (c1:s.ri<s.rn) (hO:Fa s'=Ge (GN<|MK s)) (hs:s'.sums=(GN<|MK s).sums) (hk:s'.ri=AA (s.ri+1)) (hn:s'.rn=s.rn) (hl:s'.rows=s.rows) (ha:s'.alive=s.alive):DK (λs'=>(λs:E5=>(HL (Fa s) s.ri<|s.rows.drop s.ri.toNat,HK s.alive s.sums s.ri<|s.rows.drop s.ri.toNat)) s'=(λs:E5=>(HL (Fa s) s.ri<|s.rows.drop s.ri.toNat,HK s.alive s.sums s.ri<|s.rows.drop s.ri.toNat)) s) (λ_ s'=>(λs:E5=>(HL (Fa s) s.ri<|s.rows.drop s.ri.toNat,HK s.alive s.sums s.ri<|s.rows.drop s.ri.toNat)) s'=(λs:E5=>(HL (Fa s) s.ri<|s.rows.drop s.ri.toNat,HK s.alive s.sums s.ri<|s.rows.drop s.ri.toNat)) s) (.next s'):=(aQE s s' hI c1 hO hs hk hn hl ha).2
theorem axe:Da Mx TQ iE wH:=by
 intro s hI;refine AH (λc1=>?_) λc1=>?_
 ·exact ar4 s _ hI A8 rfl rfl rfl rfl rfl rfl
 ·have c1:s.rn<=s.ri:=A8
  have h0:=hI.1
  exact VE
def PJ:AT E5:=⟨1,67,[2,7,23,24,25],[.ns 7 6 3 A7,.ns 7 7 3 A7,.ns 7 8 3 A7,.ns 7 9 3 A7,.ns 7 10 3 A7,.ns 7 11 3 A7,.ns 7 12 3 A7,.ns 7 13 3 A7,.ns 7 14 3 A7,.ns 7 15 3 A7,.ns 7 16 3 A7,.ns 7 17 3 A7,.ns 7 18 3 A7,.ns 7 19 3 A7,.ns 7 20 3 A7,.ns 7 21 3 A7],λs=>[.xl A7 s.alive,.own 1 0,.xl Ed s.rows,s.rn,s.ri],λs=>[⟨[s.K2,s.K8,s.K7,s.K6,s.KI],28,.cl,X⟩,⟨[s.HN,s.HM,s.Ew,s.B2,s.HO,.xl Ed s.BH,.os 2 1 0<|M s.CG,.os 3 1 0<|M s.CF,.os 4 1 0<|M s.CE,.os 5 1 0<|M s.CD,.os 6 1 0<|M s.CB,.os 7 1 0<|M s.CA,.os 8 1 0<|M s.C9,.os 9 1 0<|M s.C8,.os 10 1 0<|M s.C7,.os 11 1 0<|M s.CC,.os 12 1 0<|M s.C6,.os 13 1 0<|M s.C5,.os 14 1 0<|M s.C4,.os 15 1 0<|M s.C3,.os 16 1 0<|M s.C2,.os 17 1 0<|M s.C1,.os 18 1 0<|M s.sums,.xl A7 s.BG,.os 19 1 0<|M s.levels],308,.cl,X⟩,bV 3 A7 s.CG,bV 3 A7 s.CF,bV 3 A7 s.CE,bV 3 A7 s.CD,bV 3 A7 s.CB,bV 3 A7 s.CA,bV 3 A7 s.C9,bV 3 A7 s.C8,bV 3 A7 s.C7,bV 3 A7 s.CC,bV 3 A7 s.C6,bV 3 A7 s.C5,bV 3 A7 s.C4,bV 3 A7 s.C3,bV 3 A7 s.C2,bV 3 A7 s.C1,bV 3 A7 s.sums,bV 3 A7 s.levels],λv b=>⟨B5 A7 v 0,B5 Ed v 2,AK v 3,AK v 4,AF Ad b 0 0,AF .str b 0 1,AF Ai b 0 2,AF Ae b 0 3,AF Aj b 0 4,AF Ad b 1 0,AF .str b 1 1,AF Ai b 1 2,AF Ae b 1 3,AF Aj b 1 4,AF Ed b 1 5,AF A7 b 1 23,Ab A7 b 2,Ab A7 b 3,Ab A7 b 4,Ab A7 b 5,Ab A7 b 6,Ab A7 b 7,Ab A7 b 8,Ab A7 b 9,Ab A7 b 10,Ab A7 b 11,Ab A7 b 12,Ab A7 b 13,Ab A7 b 14,Ab A7 b 15,Ab A7 b 16,Ab A7 b 17,Ab A7 b 18,Ab A7 b 19⟩,wH,λs r=> {s with ri:=r.ri,CG:=r.CG,CF:=r.CF,CE:=r.CE,CD:=r.CD,CB:=r.CB,CA:=r.CA,C9:=r.C9,C8:=r.C8,C7:=r.C7,CC:=r.CC,C6:=r.C6,C5:=r.C5,C4:=r.C4,C3:=r.C3,C2:=r.C2,C1:=r.C1,sums:=r.sums},λs=>s,λ_ s=>s,[.exit 0],Tw,Mx,TQ⟩
abbrev IY:=PJ.run
abbrev arn:=PJ.Av
theorem ax7:Rq Mx wH:=by
 intro s hI;refine ⟨λc1=>⟨?_,A9,A9,A9,A9,A9,A9,A9,A9,A9,A9,A9,A9,A9,A9,A9,A9,A9,A9,?_,A9,A9,A9,A9,A9,A9,A9,A9,A9,A9,A9,A9,A9,A9,A9,A9,A9,A9,ak⟩,λc1=>⟨A9,A9,A9,A9,A9,A9,A9,A9,A9,A9,A9,A9,A9,A9,A9,A9,A9,A9,ak⟩⟩
 ·(obtain ⟨h0,h2,h3,h4,h5,h6,h7,h8⟩:=hI;simp only [Ac] at c1;omega)
 ·exact ⟨aQF s hI A8,rfl,rfl⟩
def rW:PJ.Ok:={}
def sI:PJ.Pf (iE):=⟨akO,λs h=>rfl,axe,ax7⟩
def cZ:SA 1 aF8 PJ:=AT.snd rW sI (GP (Γ:=Qh) (K:=zV) (L:=(Lv (λi=>if i=6 then UJ.lp else Al i))) (gk Qh) zV.h aF8 (λb hb=>by
 rw [show BD _=[aEe] by kernel_rfl] at hb
 simp only [B7,Bt,Bu] at hb;subst hb;exact aoU)) λs=>AU
def ar5:Fi Tw Mx iE arn IY:=AT.fin rW sI
theorem anE (s:E5) (hE:Tw s):(λs:E5=>(HL (Fa s) s.ri<|s.rows.drop s.ri.toNat,HK s.alive s.sums s.ri<|s.rows.drop s.ri.toNat)) (IY s)=(λs:E5=>(HL (Fa s) s.ri<|s.rows.drop s.ri.toNat,HK s.alive s.sums s.ri<|s.rows.drop s.ri.toNat)) s:=by
 exact AT.KL rW sI (λs:E5=>(HL (Fa s) s.ri<|s.rows.drop s.ri.toNat,HK s.alive s.sums s.ri<|s.rows.drop s.ri.toNat)) (λs hI=>by
  refine AH (λc1=>?_) λc1=>?_
  ·exact ar2 s _ hI A8 rfl rfl rfl rfl rfl rfl
  ·rfl) s hE
def ar1 (s:E5) (hE:Tw s):Fa (IY s)=HL (Fa s) 0 s.rows/\(IY s).sums=HK s.alive s.sums 0 s.rows:=by
 have q3:=anE s hE
 obtain ⟨s',hI,q1,q2⟩:=ar5 s hE;obtain ⟨h0,h1,h2,h3,h4,h5⟩:=hE
 have el:(IY s).rows=s.rows:=rfl
 have en:(IY s).rn=s.rn:=rfl
 have ea:(IY s).alive=s.alive:=rfl
 simp only at q3;rw [q2,en,el,ea,El A0,h0] at q3;exact ⟨B0 Prod.fst q3,B0 Prod.snd q3⟩
structure Mv where
 r:Bool
 l:List Int
 (n i:Int)
 K2:List Cd
 K8:List ByteArray
 K7:List Ko
 K6:List Ch
 KI:List Ba
 HN:List Cd
 HM:List ByteArray
 Ew:List Ko
 B2:List Ch
 HO:List Ba
 BH:List Rw
 (CG CF CE CD CB CA C9 C8 C7 CC C6 C5 C4 C3 C2 C1 BG sums levels:List Int)
 ahY:ByteArray
 (am4 anl alO alP ahW afK atq more:Int)
def fg (s:Mv):T (Rd Mv):=letI a:=gi s.l s.i;.br (an<|s.i<s.n) (.ix s.i (M s.l)<|.ik a (M s.sums)<|.ix a (M s.BH)<|.br (!(an<|(AA<|(s.sums.getD a.toNat<|Ty.dflt A7)+s.more)<=(CX s.BH a).1)) (.rl s.sums<|.rl s.levels<|.so (.ret) {s with r:=X})<|.rl s.sums<|.rl s.levels<|.nx {s with i:=AA<|s.i+1})<|.rl s.sums<|.rl s.levels<|.so (.exit 0) s
def Ti (s:Mv) (j:Int):Bool:=KZ s.BH s.sums s.more<|gi s.l j
def Yq (s:Mv):Prop:=s.i=0/\0<=s.n/\s.n<=1000/\s.n=(M s.l:Int)/\(∀r∈s.l,0<=r/\r<(M s.BH:Int))/\M s.sums=M s.BH/\(∀k:Nat,0<=s.sums.getD k 0/\s.sums.getD k 0<=2000)/\(0<=s.more/\s.more<=10000)
def Y2 (s:Mv):Prop:=0<=s.i/\s.i<=s.n/\s.n<=1000/\(s.n=(M s.l:Int)/\(∀r∈s.l,0<=r/\r<(M s.BH:Int))/\M s.sums=M s.BH/\(∀k:Nat,0<=s.sums.getD k 0/\s.sums.getD k 0<=2000)/\(0<=s.more/\s.more<=10000))/\∀j:Nat,(j:Int)<s.i->Ti s j=U
def sq (s:Mv):Nat:=(s.n-s.i).toNat
def aAe (x:Ex) (s s':Mv):Prop:=(x=.exit 0/\∀j:Nat,(j:Int)<s'.n->Ti s' j=U)\/(x=.ret/\s'.r=X/\∃j:Nat,(j:Int)<s'.n/\Ti s' j=X)
def alY:∀s,Yq s->Y2 s:=by
 exact L3
theorem agv:Da Y2 sq aAe fg:=by
 intro s hI;unfold fg;obtain ⟨h0,h1,h2,h3,h4⟩:=hI;refine AH (λc1=>AH (λc2=>?_) λc2=>?_) λc1=>?_
 ·have c1:s.i<s.n:=AX
  refine .inr ⟨rfl,rfl,s.i.toNat,AZ,?_⟩
  have hg:Ti s s.i=false:=aMC
  exact hg
 ·have c1:s.i<s.n:=AX
  have hg:Ti s s.i=true:=aMC
  rw [AJ (x:=s.i+1)];refine ⟨⟨AZ,AZ,h2,h3,λj hj=>?_⟩,by simp only [sq];omega⟩
  exact L2
 ·exact Sg
def Z3:AT Mv:=⟨7,18,[1,4,7,8,9],[],λs=>[.fn 216 [.own 4 0,.own 6 0],s.r,.xl A7 s.l,s.n,s.i],λs=>[⟨[s.K2,s.K8,s.K7,s.K6,s.KI],28,.cl,X⟩,⟨[s.HN,s.HM,s.Ew,s.B2,s.HO,.xl Ed s.BH,.xl A7 s.CG,.xl A7 s.CF,.xl A7 s.CE,.xl A7 s.CD,.xl A7 s.CB,.xl A7 s.CA,.xl A7 s.C9,.xl A7 s.C8,.xl A7 s.C7,.xl A7 s.CC,.xl A7 s.C6,.xl A7 s.C5,.xl A7 s.C4,.xl A7 s.C3,.xl A7 s.C2,.xl A7 s.C1,.os 2 1 0<|M s.sums,.xl A7 s.BG,.os 3 1 0<|M s.levels],308,.cl,X⟩,bV 3 A7 s.sums,bV 3 A7 s.levels,⟨[.own 1 0],304,.cl,X⟩,⟨[.v<|.string s.ahY,s.am4,s.anl,s.alO,s.alP,s.ahW,s.afK,s.atq],56,.cl,X⟩,⟨[s.more],3,.cl,X⟩],λv b=>⟨Ec v 1,B5 A7 v 2,AK v 3,AK v 4,AF Ad b 0 0,AF .str b 0 1,AF Ai b 0 2,AF Ae b 0 3,AF Aj b 0 4,AF Ad b 1 0,AF .str b 1 1,AF Ai b 1 2,AF Ae b 1 3,AF Aj b 1 4,AF Ed b 1 5,AF A7 b 1 6,AF A7 b 1 7,AF A7 b 1 8,AF A7 b 1 9,AF A7 b 1 10,AF A7 b 1 11,AF A7 b 1 12,AF A7 b 1 13,AF A7 b 1 14,AF A7 b 1 15,AF A7 b 1 16,AF A7 b 1 17,AF A7 b 1 18,AF A7 b 1 19,AF A7 b 1 20,AF A7 b 1 21,AF A7 b 1 23,Ab A7 b 2,Ab A7 b 3,gSr<|B9 (CS b 5) 0,Ak b 5 1,Ak b 5 2,Ak b 5 3,Ak b 5 4,Ak b 5 5,Ak b 5 6,Ak b 5 7,Ak b 6 0⟩,fg,λs r=> {s with r:=r.r,i:=r.i},λs=>s,λ_ s=>s,[.ret,.exit 0],Yq,Y2,sq⟩
abbrev dF:=Z3.run
abbrev dc:=Z3.Av
def UC:List Bd:=[WS,Wt,Ws,Wu]
def al8:Ay:=kI UC<|la 3 func190 cZ<|la 2 func188 WM<|l0 UC
def awi:Rq Y2 fg:=by
 intro s hI;refine ⟨λc1=>⟨?_,?_,?_,?_,λc2=>⟨A9,A9,ak⟩,λc2=>⟨A9,A9,ak⟩⟩,λc1=>⟨A9,A9,ak⟩⟩
 all_goals ((obtain ⟨h0,h1,h2,⟨e0,e1,e2,e3,e4⟩,h4⟩:=hI;simp only [Ac] at c1;have hm:=e1 (gi s.l s.i)<|KG A0 A0;omega))
def aQV:Z3.Ok:={}
def aOx:Z3.Pf (aAe):=⟨alY,λs h=>rfl,agv,awi⟩
def oQ:=s2 (b:=bN f188 0) aQV aOx UC al8
def atL:Fi Yq Y2 aAe dc dF:=AT.fin aQV aOx
def bw (s:Mv) (hE:Yq s):(dc s=.exit 0/\s.l.all (KZ s.BH s.sums s.more)=U)\/(dc s=.ret/\(dF s).r=X/\s.l.all (KZ s.BH s.sums s.more)=X):=by
 obtain ⟨s',hI,hq⟩:=atL s hE;obtain ⟨h0,h1,h2,h3,_⟩:=hE
 have en:(dF s).n=s.n:=rfl
 rcases hq with ⟨q1,q2⟩ |⟨q1,q2,j,q3,q4⟩
 ·exact .inl ⟨q1,(QJ (d:=(0:Int))).1 λj hj=>q2 j A0⟩
 ·exact aL3
structure Jm where
 (charger level:Int)
 l:List Int
 (n i:Int)
 K2:List Cd
 K8:List ByteArray
 K7:List Ko
 K6:List Ch
 KI:List Ba
 HN:List Cd
 HM:List ByteArray
 Ew:List Ko
 B2:List Ch
 HO:List Ba
 BH:List Rw
 (CG CF CE CD CB CA C9 C8 C7 CC C6 C5 C4 C3 C2 C1 BG sums levels:List Int)
 more:Int
def aBL (s:Jm):T (Rd Jm):=letI b:=gi s.l s.i;letI c:=M s.sums;letI a:=s.sums.set b.toNat<|AA<|(s.sums.getD b.toNat<|Ty.dflt A7)+s.more;.br (an<|s.i<s.n) (.ix s.i (M s.l)<|.ik b c<|.ik b c<|.re c a<|.rl s.levels<|.nx {s with i:=AA<|s.i+1,sums:=a})<|.rl s.sums<|.rl s.levels<|.so (.exit 0) s
def V0 (s:Jm):Prop:=s.i=0/\(∀k:Nat,0<=s.sums.getD k 0/\s.sums.getD k 0<=2000)/\s.n=(M s.l:Int)/\s.n<=1000/\(∀r∈s.l,0<=r/\r<(M s.sums:Int))/\(0<=s.more/\s.more<=10000)
def bI (s:Jm):Prop:=(0<=s.i/\s.i<=s.n)/\(∀k:Nat,0<=s.sums.getD k 0/\s.sums.getD k 0<=2000+10000*s.i)/\s.n=(M s.l:Int)/\s.n<=1000/\(∀r∈s.l,0<=r/\r<(M s.sums:Int))/\(0<=s.more/\s.more<=10000)
def zd (s:Jm):Nat:=(s.n-s.i).toNat
def wV (x:Ex) (s s':Jm):Prop:=x=.exit 0/\s'.i=s'.n
theorem amg:∀s,V0 s->bI s:=by
 rintro s ⟨h0,h1,h2,h3⟩
 exact ⟨A0,λk=>A8,h2,h3⟩
theorem ajR:Da bI zd wV aBL:=by
 intro s hI;obtain ⟨⟨h0,h1⟩,h2,h3,h4,h5,h6⟩:=hI;refine AH (λc1=>?_) λc1=>?_
 ·have c1:s.i<s.n:=AX
  have hb:=h2 (gi s.l s.i).toNat
  rw [AJ (x:=s.i+1),AJ (x:=s.sums.getD (gi s.l s.i).toNat (Ty.dflt A7)+s.more) aMs aMt];refine ⟨⟨⟨A8,A8⟩,λk=>?_,h3,h4,λr hr=>A8,h6⟩,by simp only [zd];omega⟩
  simp only
  have hk:=h2 k
  rw [T7];split
  ·show 0<=s.sums.getD (gi s.l s.i).toNat 0+s.more/\s.sums.getD (gi s.l s.i).toNat 0+s.more<=_
   omega
  ·omega
 ·exact Sf
def V1:AT Jm:=⟨4,90,[1,2,6,7,66,67,68],[],λs=>[s.charger,.own 4 0,s.level,.own 5 0,.xl A7 s.l,s.n,s.i],λs=>[⟨[s.K2,s.K8,s.K7,s.K6,s.KI],28,.cl,X⟩,⟨[s.HN,s.HM,s.Ew,s.B2,s.HO,.xl Ed s.BH,.xl A7 s.CG,.xl A7 s.CF,.xl A7 s.CE,.xl A7 s.CD,.xl A7 s.CB,.xl A7 s.CA,.xl A7 s.C9,.xl A7 s.C8,.xl A7 s.C7,.xl A7 s.CC,.xl A7 s.C6,.xl A7 s.C5,.xl A7 s.C4,.xl A7 s.C3,.xl A7 s.C2,.xl A7 s.C1,.os 2 1 0<|M s.sums,.xl A7 s.BG,.os 3 1 0<|M s.levels],308,.cl,X⟩,bV 3 A7 s.sums,bV 3 A7 s.levels,⟨[.own 1 0],304,.cl,X⟩,⟨[s.more],3,.cl,X⟩],λv b=>⟨AK v 0,AK v 2,B5 A7 v 4,AK v 5,AK v 6,AF Ad b 0 0,AF .str b 0 1,AF Ai b 0 2,AF Ae b 0 3,AF Aj b 0 4,AF Ad b 1 0,AF .str b 1 1,AF Ai b 1 2,AF Ae b 1 3,AF Aj b 1 4,AF Ed b 1 5,AF A7 b 1 6,AF A7 b 1 7,AF A7 b 1 8,AF A7 b 1 9,AF A7 b 1 10,AF A7 b 1 11,AF A7 b 1 12,AF A7 b 1 13,AF A7 b 1 14,AF A7 b 1 15,AF A7 b 1 16,AF A7 b 1 17,AF A7 b 1 18,AF A7 b 1 19,AF A7 b 1 20,AF A7 b 1 21,AF A7 b 1 23,Ab A7 b 2,Ab A7 b 3,Ak b 5 0⟩,aBL,λs r=> {s with i:=r.i,sums:=r.sums},λs=>s,λ_ s=>s,[.exit 0],V0,bI,zd⟩
abbrev Ol:=V1.run
abbrev agi:=V1.Av
def al7:Ay:=kI UC<|la 2 func188 oQ<|la 3 func190 cZ<|la 2 func188 WM<|l0 UC
def ais:Rq bI aBL:=by
 intro s hI;refine ⟨λc1=>⟨?_,?_,?_,?_,?_,?_,A9,ak⟩,λc1=>⟨A9,A9,ak⟩⟩
 all_goals ((obtain ⟨⟨h0,h1⟩,h2,h3,h4,h5,h6⟩:=hI;(try simp only [Ac] at c1);first|(have hm:=h5 (gi s.l s.i)<|KG A0 A0;omega) |exact ⟨rfl,AI⟩ |exact ⟨rfl,rfl⟩))
def zO:V1.Ok:={}
def zL:V1.Pf (wV):=⟨amg,λs h=>rfl,ajR,ais⟩
def qo:=s2 (b:=bN f192 0) zO zL UC al7
def avj:Fi V0 bI wV agi Ol:=AT.fin zO zL
theorem apt (s:Jm) (hE:V0 s):(λs:Jm=>Ke s.sums s.more<|s.l.drop s.i.toNat) (Ol s)=(λs:Jm=>Ke s.sums s.more<|s.l.drop s.i.toNat) s:=by
 exact AT.KL zO zL (λs:Jm=>Ke s.sums s.more<|s.l.drop s.i.toNat) (λs hI=>by
  obtain ⟨⟨h0,h1⟩,h2,h3,h4,h5,h6⟩:=hI;refine AH (λc1=>?_) λc1=>rfl
  have c1:s.i<s.n:=A8
  have hb:=h2 (gi s.l s.i).toNat
  rw [AJ (x:=s.i+1),AJ (x:=s.sums.getD (gi s.l s.i).toNat (Ty.dflt A7)+s.more) aMs aMt];rw [(gi_step h0 (show s.i<M s.l by omega)).1]
  rfl) s hE
def aOJ (s:Jm) (hE:V0 s):(Ol s).sums=Ke s.sums s.more s.l:=by
 have q3:=apt s hE
 obtain ⟨s',hI,q1,q2⟩:=avj s hE;obtain ⟨h0,h1,h2,h3⟩:=hE;simp only at q3;rw [q2,show (Ol s).n=s.n from rfl,show (Ol s).l=s.l from rfl,show (Ol s).more=s.more from rfl,El A0,h0] at q3;exact q3
structure Cu where
 (most order:List Int)
 (n level:Int)
 some:Bool
 l:List Int
 (m k:Int)
 BB:List Cd
 Bf:List ByteArray
 Bz:List Ko
 BN:List Ch
 C0:List Ba
 HN:List Cd
 HM:List ByteArray
 Ew:List Ko
 B2:List Ch
 HO:List Ba
 BH:List Rw
 (CG CF CE CD CB CA C9 C8 C7 CC C6 C5 C4 C3 C2 C1 BG sums levels:List Int)
def aEx:=lN (bN f158 0) 0
def TF (s:Cu):Mv:=letI c:=gi s.l s.k;letI d:=gi s.BG c;letI a:=AG s.B2 c;letI b:=AA<|(s.levels.getD c.toNat<|Ty.dflt A7)+1;(⟨X,([s.CG,s.CF,s.CE,s.CD,s.CB,s.CA,s.C9,s.C8,s.C7,s.CC,s.C6,s.C5,s.C4,s.C3,s.C2,s.C1]:List<|List Int).getD c.toNat [],(M (([s.CG,s.CF,s.CE,s.CD,s.CB,s.CA,s.C9,s.C8,s.C7,s.CC,s.C6,s.C5,s.C4,s.C3,s.C2,s.C1]:List<|List Int).getD c.toNat []):Int),0,s.BB,s.Bf,s.Bz,s.BN,s.C0,s.HN,s.HM,s.Ew,s.B2,s.HO,s.BH,s.CG,s.CF,s.CE,s.CD,s.CB,s.CA,s.C9,s.C8,s.C7,s.CC,s.C6,s.C5,s.C4,s.C3,s.C2,s.C1,s.BG,s.sums,s.levels,a.1,a.2.1,a.2.2.1,a.2.2.2.1,a.2.2.2.2.1,a.2.2.2.2.2.1,a.2.2.2.2.2.2.1,a.2.2.2.2.2.2.2,AA<|(if d<(Dr a.2.2.2.1 a.2.2.2.2.2.1 b) then Dr a.2.2.2.1 a.2.2.2.2.2.1 b else d)-(if d<(Dr a.2.2.2.1 a.2.2.2.2.2.1<|AA<|b-1) then Dr a.2.2.2.1 a.2.2.2.2.2.1 (AA<|b-1) else d)⟩:Mv)
def Sw (s:Cu):Jm:=letI b:=gi s.l s.k;letI c:=AG s.B2 b;letI d:=gi s.BG b;letI a:=AA<|(s.levels.getD b.toNat<|Ty.dflt A7)+1;(⟨b,a,([s.CG,s.CF,s.CE,s.CD,s.CB,s.CA,s.C9,s.C8,s.C7,s.CC,s.C6,s.C5,s.C4,s.C3,s.C2,s.C1]:List<|List Int).getD b.toNat [],(M (([s.CG,s.CF,s.CE,s.CD,s.CB,s.CA,s.C9,s.C8,s.C7,s.CC,s.C6,s.C5,s.C4,s.C3,s.C2,s.C1]:List<|List Int).getD b.toNat []):Int),0,s.BB,s.Bf,s.Bz,s.BN,s.C0,s.HN,s.HM,s.Ew,s.B2,s.HO,s.BH,s.CG,s.CF,s.CE,s.CD,s.CB,s.CA,s.C9,s.C8,s.C7,s.CC,s.C6,s.C5,s.C4,s.C3,s.C2,s.C1,s.BG,s.sums,s.levels,AA<|(if d<(Dr c.2.2.2.1 c.2.2.2.2.2.1 a) then Dr c.2.2.2.1 c.2.2.2.2.2.1 a else d)-(if d<(Dr c.2.2.2.1 c.2.2.2.2.2.1<|AA<|a-1) then Dr c.2.2.2.1 c.2.2.2.2.2.1 (AA<|a-1) else d)⟩:Jm)
def Tk (s:Cu):T (Rd Cu):=letI b:=gi s.l s.k;letI d:=M s.levels;letI e:=AA<|s.k+1;letI f:=AG s.B2 b;letI g:=Ol<|Sw s;letI h:=s.levels.getD b.toNat<|Ty.dflt A7;letI c:=AA<|h+1;letI a:=s.levels.set b.toNat c;.br (an<|s.k<s.m) (.ix s.k (M s.l)<|.ik b d<|.br (h !=(AA<|s.level-1)) (.rl s.sums<|.rl s.levels<|.nx {s with k:=e})<|.ix b (M s.BN)<|.ix b (M s.most)<|.req ((gi s.most b)<=9223372036854775807)<|.br (an<|(HE (AG s.BN b).2.2.2.1 (AG s.BN b).2.2.2.2.1 (AG s.BN b).2.2.2.2.2.1<|gi s.most b)<s.level) (.rl s.sums<|.rl s.levels<|.nx {s with k:=e})<|.ix b (M s.B2)<|.ik b d<|.ix b (M s.BG)<|.req ((1<=f.2.2.2.1/\f.2.2.2.1<=80/\1<=f.2.2.2.2.2.1/\f.2.2.2.2.2.1<=80)/\0<=c/\c<=1000)<|.ix b (M s.BG)<|.req ((1<=f.2.2.2.1/\f.2.2.2.1<=80/\1<=f.2.2.2.2.2.1/\f.2.2.2.2.2.1<=80)/\0<=(AA<|c-1)/\(AA<|c-1)<=1000)<|.req (0<=b/\b<(16:Int))<|.rl s.sums<|.rl s.levels<|.req (Z3.q<|TF s)<|.br (Bs (dc<|TF s)<|.ret) (.br (!(dF<|TF s).r) (.br X (.rl s.sums<|.rl s.levels<|.nx {s with some:=U,k:=e})<|.rl s.sums<|.rl s.levels<|.nx {s with k:=e})<|.req (0<=b/\b<(16:Int))<|.rl s.sums<|.rl s.levels<|.req (V1.q<|Sw s)<|.ik b d<|.br U (.rl g.sums<|.re d a<|.nx {s with some:=U,k:=e,sums:=g.sums,levels:=a})<|.rl g.sums<|.re d a<|.nx {s with k:=e,sums:=g.sums,levels:=a})<|.br (!U) (.br X (.rl s.sums<|.rl s.levels<|.nx {s with some:=U,k:=e})<|.rl s.sums<|.rl s.levels<|.nx {s with k:=e})<|.req (0<=b/\b<(16:Int))<|.rl s.sums<|.rl s.levels<|.req (V1.q<|Sw s)<|.ik b d<|.br U (.rl g.sums<|.re d a<|.nx {s with some:=U,k:=e,sums:=g.sums,levels:=a})<|.rl g.sums<|.re d a<|.nx {s with k:=e,sums:=g.sums,levels:=a})<|.rl s.sums<|.rl s.levels<|.so (.exit 2) s
def D3 (s:Cu):List (List Int):=[s.CG,s.CF,s.CE,s.CD,s.CB,s.CA,s.C9,s.C8,s.C7,s.CC,s.C6,s.C5,s.C4,s.C3,s.C2,s.C1]
def Tv (s:Cu):Prop:=s.k=0/\(s.m=(M s.l:Int)/\s.m<=1000/\1<=s.level/\s.level<=81)/\s.B2=s.BN/\OkT (D3 s) s.BH s.B2 s.BG s.most s.l/\OkS s.BH s.l s.sums s.levels
def Hj (s:Cu):Prop:=(0<=s.k/\s.k<=s.m)/\(s.m=(M s.l:Int)/\s.m<=1000/\1<=s.level/\s.level<=81)/\s.B2=s.BN/\OkT (D3 s) s.BH s.B2 s.BG s.most s.l/\OkS s.BH s.l s.sums s.levels
def TT (s:Cu):Nat:=(s.m-s.k).toNat
def iC (x:Ex) (s s':Cu):Prop:=x=.exit 2/\s'.k=s'.m
def ajK:∀s,Tv s->Hj s:=by
 exact ke
theorem QQ (s:Cu) (hI:Hj s) (c1:s.k<s.m):letI a:=gi s.l s.k;gi s.l s.k∈s.l/\(0<=gi s.l s.k/\gi s.l s.k<16)/\gi s.l s.k<(M s.B2:Int)/\gi s.l s.k<(M s.BN:Int)/\gi s.l s.k<(M s.BG:Int)/\gi s.l s.k<(M s.most:Int)/\gi s.l s.k<(M s.levels:Int)/\(0<=gi s.most a/\gi s.most a<=80)/\(0<=gi s.BG a/\gi s.BG a<=80):=by
 obtain ⟨⟨h0,h1⟩,⟨h2,h3,h4,h5⟩,h6,hT,hS⟩:=hI
 have hm:gi s.l s.k∈s.l:=KG h0 A0
 obtain ⟨o1,o2,o3,o4⟩:=hT.ord _ hm;exact ⟨hm,o1,o2,A8,o3,o4,hS.EZ _ hm,hT.mo _<|KG o1.1 o4,hT.al _<|KG o1.1 o3⟩
theorem QO {s:Cu}(hI:Hj s) (c2:((s.levels.getD (gi s.l s.k).toNat<|Ty.dflt A7) !=(AA<|s.level-1))=X):s.levels.getD (gi s.l s.k).toNat 0=s.level-1:=by
 obtain ⟨_,⟨h2,h3,h4,h5⟩,_⟩:=hI
 have c2:((s.levels.getD (gi s.l s.k).toNat 0) !=(AA<|s.level-1))=false:=c2
 rw [AJ (x:=s.level-1)] at c2
 grind
def fa {s:Cu}(hI:Hj s) (c2:s.levels.getD (gi s.l s.k).toNat 0=s.level-1):letI a:=(s.levels.getD (gi s.l s.k).toNat<|Ty.dflt A7)+1;AA a=s.level/\AA ((AA a)-1)=s.level-1:=by
 obtain ⟨_,⟨h2,h3,h4,h5⟩,_⟩:=hI
 have e:AA ((s.levels.getD (gi s.l s.k).toNat<|Ty.dflt A7)+1)=s.level:=by
  have:(s.levels.getD (gi s.l s.k).toNat<|Ty.dflt A7)=s.level-1:=c2
  rw [this,AJ (x:=s.level-1+1)];omega
 refine ⟨e,?_⟩;rw [e,AJ]
def W3 {s:Cu}(hI:Hj s) (c1:s.k<s.m) (c2:s.levels.getD (gi s.l s.k).toNat 0=s.level-1):letI a:=gi s.l s.k;(TF s).more=Fq s.B2 s.BG a s.level/\(Sw s).more=Fq s.B2 s.BG a s.level/\0<=Fq s.B2 s.BG a s.level/\Fq s.B2 s.BG a s.level<=10000:=by
 have hx:=QQ s hI c1
 obtain ⟨w1,w2⟩:=fa hI c2;obtain ⟨_,⟨h2,h3,h4,h5⟩,h6,hT,hS⟩:=hI
 have hb:=aQy (gs:=s.B2) (alive:=s.BG) (k:=s.level) (hT.has _ hx.1) hx.2.2.2.2.2.2.2.2 h4 h5
 have e:(TF s).more=Fq s.B2 s.BG (gi s.l s.k) s.level:=by
  unfold TF;simp only [w2];simp only [w1]
  show AA (Fq s.B2 s.BG (gi s.l s.k) s.level)=_
  rw [AJ]
 exact ⟨e,e,hb⟩
theorem aa7 {s:Cu}(hI:Hj s) (c1:s.k<s.m):((D3 s).getD (gi s.l s.k).toNat []).Nodup/\(M ((D3 s).getD (gi s.l s.k).toNat []):Int)<=1000/\∀r∈(D3 s).getD (gi s.l s.k).toNat [],0<=r/\r<(M s.BH:Int):=by
 have hx:=QQ s hI c1
 obtain ⟨_,_,_,hT,_⟩:=hI;refine hT.row _ ?_
 have hl:=hT.ol
 grind
theorem W8 {s:Cu}(hI:Hj s) (c1:s.k<s.m) (c2:s.levels.getD (gi s.l s.k).toNat 0=s.level-1):Yq (TF s):=by
 obtain ⟨m1,m2,m3⟩:=W3 hI c1 c2;obtain ⟨o1,o2,o3⟩:=aa7 hI c1;obtain ⟨_,_,_,hT,hS⟩:=hI;exact ⟨rfl,V6 _,o2,rfl,o3,hS.len,hS.bd,A8⟩
theorem qB {s:Cu}(hI:Hj s) (c1:s.k<s.m) (c2:s.levels.getD (gi s.l s.k).toNat 0=s.level-1):V0 (Sw s):=by
 obtain ⟨m1,m2,m3⟩:=W3 hI c1 c2;obtain ⟨o1,o2,o3⟩:=aa7 hI c1;obtain ⟨_,_,_,hT,hS⟩:=hI;refine ⟨rfl,hS.bd,rfl,o2,λr hr=>?_,A8⟩
 have:=o3 r hr
 have hl:=hS.len
 show 0<=r/\r<(M s.sums:Int)
 omega
theorem aOT (s s':Cu) (hI:Hj s) (c1:s.k<s.m) (ht:(s'.sums,s'.levels,s'.some)=Fm (D3 s) s.BH s.B2 s.BG s.most s.level (s.sums,s.levels,s.some) (gi s.l s.k)) (hk:s'.k=AA (s.k+1))
  (h_m:s'.m=s.m) (h_l:s'.l=s.l) (h_v:s'.level=s.level) (h_g:s'.B2=s.B2) (h_c:s'.BN=s.BN) (h_r:s'.BH=s.BH) (h_a:s'.BG=s.BG) (h_w:s'.most=s.most) (h_O:D3 s'=D3 s):
  (Hj s'/\TT s'<TT s)/\(λs:Cu=>swp (D3 s) s.BH s.B2 s.BG s.most s.level (s.sums,s.levels,s.some)<|s.l.drop s.k.toNat) s'=(λs:Cu=>swp (D3 s) s.BH s.B2 s.BG s.most s.level (s.sums,s.levels,s.some)<|s.l.drop s.k.toNat) s:=by
 have hx:=QQ s hI c1
 obtain ⟨⟨h0,h1⟩,⟨h2,h3,h4,h5⟩,h6,hT,hS⟩:=hI;rw [AJ (x:=s.k+1)] at hk
 have e1:s'.sums=(Fm (D3 s) s.BH s.B2 s.BG s.most s.level (s.sums,s.levels,s.some)<|gi s.l s.k).1:=B0 (·.1) ht
 have e2:s'.levels=(Fm (D3 s) s.BH s.B2 s.BG s.most s.level (s.sums,s.levels,s.some)<|gi s.l s.k).2.1:=B0 (·.2.1) ht
 refine ⟨⟨⟨⟨A0,A0⟩,⟨A8,A0,A0,A0⟩,A8,A8,?_⟩,by simp only [TT];omega⟩,?_⟩
 ·rw [h_r,h_l,e1,e2]
  exact aOK hT hS hx.1 h4 h5
 ·simp only
  rw [h_O,h_r,h_g,h_a,h_w,h_v,h_l,ht,hk,(gi_step h0 (show s.k<M s.l by omega)).1]
  rfl
def aCb (s s':Cu) (hI:Hj s) (c1:s.k<s.m) (ht:(s'.sums,s'.levels,s'.some)=Fm (D3 s) s.BH s.B2 s.BG s.most s.level (s.sums,s.levels,s.some) (gi s.l s.k)) (hk:s'.k=AA (s.k+1))
  (h_m:s'.m=s.m) (h_l:s'.l=s.l) (h_v:s'.level=s.level) (h_g:s'.B2=s.B2) (h_c:s'.BN=s.BN) (h_r:s'.BH=s.BH) (h_a:s'.BG=s.BG) (h_w:s'.most=s.most) (h_O:D3 s'=D3 s):DK (λs'=>Hj s'/\TT s'<TT s) (λx s'=>iC x s s') (.next s'):=(aOT s s' hI c1 ht hk h_m h_l h_v h_g h_c h_r h_a h_w h_O).1
def aCa (s s':Cu) (hI:Hj s) (c1:s.k<s.m) (ht:(s'.sums,s'.levels,s'.some)=Fm (D3 s) s.BH s.B2 s.BG s.most s.level (s.sums,s.levels,s.some) (gi s.l s.k)) (hk:s'.k=AA (s.k+1))
  (h_m:s'.m=s.m) (h_l:s'.l=s.l) (h_v:s'.level=s.level) (h_g:s'.B2=s.B2) (h_c:s'.BN=s.BN) (h_r:s'.BH=s.BH) (h_a:s'.BG=s.BG) (h_w:s'.most=s.most) (h_O:D3 s'=D3 s):DK (λs'=>(λs:Cu=>swp (D3 s) s.BH s.B2 s.BG s.most s.level (s.sums,s.levels,s.some)<|s.l.drop s.k.toNat) s'=(λs:Cu=>swp (D3 s) s.BH s.B2 s.BG s.most s.level (s.sums,s.levels,s.some)<|s.l.drop s.k.toNat) s) (λ_ s'=>(λs:Cu=>swp (D3 s) s.BH s.B2 s.BG s.most s.level (s.sums,s.levels,s.some)<|s.l.drop s.k.toNat) s'=(λs:Cu=>swp (D3 s) s.BH s.B2 s.BG s.most s.level (s.sums,s.levels,s.some)<|s.l.drop s.k.toNat) s) (.next s'):=(aOT s s' hI c1 ht hk h_m h_l h_v h_g h_c h_r h_a h_w h_O).2
def ava:Da Hj TT iC Tk:=by
 intro s hI;unfold Tk;dsimp only [T.rd,T.rl,T.rv];refine AH (λc1=>?_) λc1=>?_
 ·refine AH (λc2=>?_) (λc2=>?_)
  ·have c1:s.k<s.m:=AX
   have hn:¬(s.levels.getD (gi s.l s.k).toNat 0=s.level-1/\s.level<=FP s.B2 (gi s.l s.k) (gi s.most<|gi s.l s.k)):=λh=>by
    exact aKV
   exact aKr
  ·refine AH (λc3=>?_) (λc3=>?_)
   ·have c1:s.k<s.m:=AX
    have hn:¬(s.levels.getD (gi s.l s.k).toNat 0=s.level-1/\s.level<=FP s.B2 (gi s.l s.k) (gi s.most<|gi s.l s.k)):=λh=>by
     exact aM1
    exact aKr
   ·refine AH (λc4=>?_) (λc4=>?_)
    ·refine AH (λc5=>?_) (λc5=>?_)
     ·refine AH (λc6=>?_) (λc6=>?_)
      ·cases c6
      ·have c1:s.k<s.m:=AX
       have c2:=QO hI c2
       have hp:s.levels.getD (gi s.l s.k).toNat 0=s.level-1/\s.level<=FP s.B2 (gi s.l s.k) (gi s.most<|gi s.l s.k):=by
        exact kQ
       have hE:=W8 hI c1 c2
       obtain ⟨m1,m2,_⟩:=W3 hI c1 c2;rcases bw _ hE with ⟨q1,q2⟩ |⟨q1,q2,q3⟩
       ·rw [q1] at c4
        cases c4
       ·rw [m1] at q3
        have q3:((D3 s).getD (gi s.l s.k).toNat []).all (KZ s.BH s.sums<|Fq s.B2 s.BG (gi s.l s.k) s.level)=false:=q3
        exact aCb s _ hI AX aNE rfl rfl rfl rfl rfl rfl rfl rfl rfl rfl
     ·exact aMT
    ·refine AH (λc5=>?_) (λc5=>?_)
     ·exact aMb
     ·refine AH (λc6=>?_) (λc6=>?_)
      ·have c1:s.k<s.m:=AX
       have c2:=QO hI c2
       have hp:s.levels.getD (gi s.l s.k).toNat 0=s.level-1/\s.level<=FP s.B2 (gi s.l s.k) (gi s.most<|gi s.l s.k):=by
        exact kQ
       have hE:=W8 hI c1 c2
       obtain ⟨m1,m2,_⟩:=W3 hI c1 c2
       have hR:=qB hI c1 c2
       rcases bw _ hE with ⟨q1,q2⟩ |⟨q1,q2,q3⟩
       ·rw [m1] at q2
        have q2:((D3 s).getD (gi s.l s.k).toNat []).all (KZ s.BH s.sums<|Fq s.B2 s.BG (gi s.l s.k) s.level)=true:=q2
        have r1:=aOJ _ hR
        rw [m2] at r1
        have r1:(Ol<|Sw s).sums=Ke s.sums (Fq s.B2 s.BG (gi s.l s.k) s.level) ((D3 s).getD (gi s.l s.k).toNat []):=r1
        have w1:=(fa hI c2).1
        exact aCb s _ hI AX aNM rfl rfl rfl rfl rfl rfl rfl rfl rfl rfl
       ·rw [q1] at c4
        cases c4
      ·cases c6
 ·have c1:s.m<=s.k:=AX
  have h0:=hI.1
  exact VE
def Ru:AT Cu:=⟨0,129,[2,3,4,12,14,15,16,66,67,68],[],λs=>[.xl A7 s.most,.xl A7 s.order,.own 0 0,s.n,.own 1 0,s.level,s.some,.xl A7 s.l,s.m,s.k],λs=>[⟨[s.BB,s.Bf,s.Bz,s.BN,s.C0],28,.cl,X⟩,⟨[s.HN,s.HM,s.Ew,s.B2,s.HO,.xl Ed s.BH,.xl A7 s.CG,.xl A7 s.CF,.xl A7 s.CE,.xl A7 s.CD,.xl A7 s.CB,.xl A7 s.CA,.xl A7 s.C9,.xl A7 s.C8,.xl A7 s.C7,.xl A7 s.CC,.xl A7 s.C6,.xl A7 s.C5,.xl A7 s.C4,.xl A7 s.C3,.xl A7 s.C2,.xl A7 s.C1,.os 2 1 0<|M s.sums,.xl A7 s.BG,.os 3 1 0<|M s.levels],308,.cl,X⟩,bV 3 A7 s.sums,bV 3 A7 s.levels],λv b=>⟨B5 A7 v 0,B5 A7 v 1,AK v 3,AK v 5,Ec v 6,B5 A7 v 7,AK v 8,AK v 9,AF Ad b 0 0,AF .str b 0 1,AF Ai b 0 2,AF Ae b 0 3,AF Aj b 0 4,AF Ad b 1 0,AF .str b 1 1,AF Ai b 1 2,AF Ae b 1 3,AF Aj b 1 4,AF Ed b 1 5,AF A7 b 1 6,AF A7 b 1 7,AF A7 b 1 8,AF A7 b 1 9,AF A7 b 1 10,AF A7 b 1 11,AF A7 b 1 12,AF A7 b 1 13,AF A7 b 1 14,AF A7 b 1 15,AF A7 b 1 16,AF A7 b 1 17,AF A7 b 1 18,AF A7 b 1 19,AF A7 b 1 20,AF A7 b 1 21,AF A7 b 1 23,Ab A7 b 2,Ab A7 b 3⟩,Tk,λs r=> {s with some:=r.some,k:=r.k,sums:=r.sums,levels:=r.levels},λs=>s,λ_ s=>s,[.exit 2],Tv,Hj,TT⟩
abbrev Hd:=Ru.run
abbrev arZ:=Ru.Av
theorem awp:Rq Hj Tk:=by
 intro s hI;refine ⟨λc1=>⟨?_,?_,?_,λc2=>⟨A9,A9,ak⟩,λc2=>⟨?_,?_,?_,λc3=>⟨A9,A9,ak⟩,λc3=>⟨?_,?_,?_,?_,?_,?_,?_,?_,A9,A9,?_,λc4=>⟨λc5=>⟨λc6=>⟨A9,A9,ak⟩,λc6=>⟨A9,A9,ak⟩⟩,λc5=>⟨?_,A9,A9,?_,?_,?_,λc7=>⟨A9,?_,ak⟩,λc7=>⟨A9,?_,ak⟩⟩⟩,λc4=>⟨λc8=>⟨λc9=>⟨A9,A9,ak⟩,λc9=>⟨A9,A9,ak⟩⟩,λc8=>⟨?_,A9,A9,?_,?_,?_,λc10=>⟨A9,?_,ak⟩,λc10=>⟨A9,?_,ak⟩⟩⟩⟩⟩⟩,λc1=>⟨A9,A9,ak⟩⟩
 ·(have:=hI.1;have:=hI.2.1.1;simp only [Ac] at c1;omega)
 iterate 9 · (have hx:=QQ s hI AX;omega)
 ·exact aLP
 ·exact kc
 ·exact aLP
 ·exact kc
 ·exact ⟨W8 hI AX<|QO hI c2,rfl,rfl⟩
 ·exact kc
 ·exact aML
 iterate 2 · (have hx:=QQ s hI AX;omega)
 iterate 2 · exact ⟨rfl,AI⟩
 ·exact kc
 ·exact aML
 iterate 2 · (have hx:=QQ s hI A8;omega)
 iterate 2 · exact ⟨rfl,AI⟩
def zv:List Bd:=[WS,Wt,Ws,Wu]
def al6:Ay:=kI zv<|la 8 func192 qo<|la 2 func188 oQ<|la 3 func190 cZ<|la 2 func188 WM<|l0 zv
def rS:Ru.Ok:={}
def sG:Ru.Pf (iC):=⟨ajK,λs h=>rfl,ava,awp⟩
def aoq:SA 0 aEx Ru:=s1 rS sG zv al6
def apo:Fi Tv Hj iC arZ Hd:=AT.fin rS sG
def amw (s:Cu) (hE:Tv s):(λs:Cu=>swp (D3 s) s.BH s.B2 s.BG s.most s.level (s.sums,s.levels,s.some)<|s.l.drop s.k.toNat) (Hd s)=(λs:Cu=>swp (D3 s) s.BH s.B2 s.BG s.most s.level (s.sums,s.levels,s.some)<|s.l.drop s.k.toNat) s:=by
 exact AT.KL rS sG (λs:Cu=>swp (D3 s) s.BH s.B2 s.BG s.most s.level (s.sums,s.levels,s.some)<|s.l.drop s.k.toNat) (λs hI=>by
  show DK _ _ ((Tk s).rd s)
  unfold Tk;dsimp only [T.rd,T.rl];refine AH (λc1=>?_) λc1=>?_
  ·refine AH (λc2=>?_) (λc2=>?_)
   ·have c1:s.k<s.m:=AX
    have hn:¬(s.levels.getD (gi s.l s.k).toNat 0=s.level-1/\s.level<=FP s.B2 (gi s.l s.k) (gi s.most<|gi s.l s.k)):=λh=>by
     exact aKV
    exact aKs
   ·refine AH (λc3=>?_) (λc3=>?_)
    ·have c1:s.k<s.m:=AX
     have hn:¬(s.levels.getD (gi s.l s.k).toNat 0=s.level-1/\s.level<=FP s.B2 (gi s.l s.k) (gi s.most<|gi s.l s.k)):=λh=>by
      exact aM1
     exact aKs
    ·refine AH (λc4=>?_) (λc4=>?_)
     ·refine AH (λc5=>?_) (λc5=>?_)
      ·refine AH (λc6=>?_) (λc6=>?_)
       ·cases c6
       ·have c1:s.k<s.m:=AX
        have c2:=QO hI c2
        have hp:s.levels.getD (gi s.l s.k).toNat 0=s.level-1/\s.level<=FP s.B2 (gi s.l s.k) (gi s.most<|gi s.l s.k):=by
         exact kQ
        have hE:=W8 hI c1 c2
        obtain ⟨m1,m2,_⟩:=W3 hI c1 c2;rcases bw _ hE with ⟨q1,q2⟩ |⟨q1,q2,q3⟩
        ·rw [q1] at c4
         cases c4
        ·rw [m1] at q3
         have q3:((D3 s).getD (gi s.l s.k).toNat []).all (KZ s.BH s.sums<|Fq s.B2 s.BG (gi s.l s.k) s.level)=false:=q3
         exact aCa s _ hI AX aNE rfl rfl rfl rfl rfl rfl rfl rfl rfl rfl
      ·exact aMT
     ·refine AH (λc5=>?_) (λc5=>?_)
      ·exact aMb
      ·refine AH (λc6=>?_) (λc6=>?_)
       ·have c1:s.k<s.m:=AX
        have c2:=QO hI c2
        have hp:s.levels.getD (gi s.l s.k).toNat 0=s.level-1/\s.level<=FP s.B2 (gi s.l s.k) (gi s.most<|gi s.l s.k):=by
         exact kQ
        have hE:=W8 hI c1 c2
        obtain ⟨m1,m2,_⟩:=W3 hI c1 c2
        have hR:=qB hI c1 c2
        rcases bw _ hE with ⟨q1,q2⟩ |⟨q1,q2,q3⟩
        ·rw [m1] at q2
         have q2:((D3 s).getD (gi s.l s.k).toNat []).all (KZ s.BH s.sums<|Fq s.B2 s.BG (gi s.l s.k) s.level)=true:=q2
         have r1:=aOJ _ hR
         rw [m2] at r1
         have r1:(Ol<|Sw s).sums=Ke s.sums (Fq s.B2 s.BG (gi s.l s.k) s.level) ((D3 s).getD (gi s.l s.k).toNat []):=r1
         have w1:=(fa hI c2).1
         exact aCa s _ hI AX aNM rfl rfl rfl rfl rfl rfl rfl rfl rfl rfl
        ·rw [q1] at c4
         cases c4
       ·cases c6
  ·rfl) s hE
def apn (s:Cu) (hE:Tv s):((Hd s).sums,(Hd s).levels,(Hd s).some)=swp (D3 s) s.BH s.B2 s.BG s.most s.level (s.sums,s.levels,s.some) s.l:=by
 have q3:=amw s hE
 obtain ⟨s',hI,q1,q2⟩:=apo s hE;obtain ⟨h0,h1,_⟩:=hE;simp only at q3;rw [q2,show (Hd s).m=s.m from rfl,show (Hd s).l=s.l from rfl,El A0,h0] at q3;exact q3
structure Iy where
 (most order:List Int)
 (n level:Int)
 BB:List Cd
 Bf:List ByteArray
 Bz:List Ko
 BN:List Ch
 C0:List Ba
 HN:List Cd
 HM:List ByteArray
 Ew:List Ko
 B2:List Ch
 HO:List Ba
 BH:List Rw
 (CG CF CE CD CB CA C9 C8 C7 CC C6 C5 C4 C3 C2 C1 BG sums levels:List Int)
def pI:=bN f158 0
def L5 (s:Iy):Cu:=(⟨s.most,s.order,s.n,s.level,X,s.order,(M s.order:Int),0,s.BB,s.Bf,s.Bz,s.BN,s.C0,s.HN,s.HM,s.Ew,s.B2,s.HO,s.BH,s.CG,s.CF,s.CE,s.CD,s.CB,s.CA,s.C9,s.C8,s.C7,s.CC,s.C6,s.C5,s.C4,s.C3,s.C2,s.C1,s.BG,s.sums,s.levels⟩:Cu)
def vu (s:Iy):T (Rd Iy):=letI a:=Hd<|L5 s;.rl s.sums<|.rl s.levels<|.req (Ru.q<|L5 s)<|.br (! a.some) (.rl a.sums<|.rl a.levels<|.so (.exit 0) {s with sums:=a.sums,levels:=a.levels})<|.rl a.sums<|.rl a.levels<|.nx {s with level:=AA<|s.level+1,sums:=a.sums,levels:=a.levels}
def KP (s:Iy):List (List Int):=[s.CG,s.CF,s.CE,s.CD,s.CB,s.CA,s.C9,s.C8,s.C7,s.CC,s.C6,s.C5,s.C4,s.C3,s.C2,s.C1]
def jU (s:Iy):Prop:=s.level=1/\(M s.order:Int)<=1000/\s.B2=s.BN/\OkT (KP s) s.BH s.B2 s.BG s.most s.order/\OkS s.BH s.order s.sums s.levels
def U6 (s:Iy):Prop:=(1<=s.level/\s.level<=81)/\(M s.order:Int)<=1000/\s.B2=s.BN/\OkT (KP s) s.BH s.B2 s.BG s.most s.order/\OkS s.BH s.order s.sums s.levels
def tK (s:Iy):Nat:=(82-s.level).toNat
def ac6 (x:Ex) (s s':Iy):Prop:=x=.exit 0
def ajJ:∀s,jU s->U6 s:=by
 exact ke
def aOR (s:Iy) (hI:U6 s):Tv (L5 s):=by
 obtain ⟨⟨h0,h1⟩,h2,h3,hT,hS⟩:=hI;exact ⟨rfl,⟨rfl,h2,h0,h1⟩,h3,hT,hS⟩
def aa6 (s:Iy) (hI:U6 s):((Hd<|L5 s).sums,(Hd<|L5 s).levels,(Hd<|L5 s).some)=swp (KP s) s.BH s.B2 s.BG s.most s.level (s.sums,s.levels,X) s.order:=apn _<|aOR s hI
theorem avZ:Da U6 tK ac6 vu:=by
 intro s hI
 have hr:=aa6 s hI
 obtain ⟨⟨h0,h1⟩,h2,h3,hT,hS⟩:=hI;refine AH (λc1=>rfl) λc1=>?_
 have c1:(Hd<|L5 s).some=true:=A8
 have hk:=qn hT h0 h1 s.order (s.sums,s.levels,X) (λ_ h=>h) hS
 have hs:=ng (O:=KP s) (rows:=s.BH) (gs:=s.B2) (alive:=s.BG) (most:=s.most) (level:=s.level) s.order (s.sums,s.levels,X)
 rw [<-hr] at hk hs
 have h80:s.level<=80:=by
  rcases hs c1 with h|h
  ·cases h
  ·exact h
 rw [AJ (x:=s.level+1)];exact ⟨⟨⟨A8,A8⟩,h2,h3,hT,hk⟩,by simp only [tK];omega⟩
def PZ:AT Iy:=⟨0,129,[2,3,4,12,14,15],[.ps 14 6 A7,.ps 14 7 A7,.ps 14 8 A7,.ps 14 9 A7,.ps 14 10 A7,.ps 14 11 A7,.ps 14 12 A7,.ps 14 13 A7,.ps 14 14 A7,.ps 14 15 A7,.ps 14 16 A7,.ps 14 17 A7,.ps 14 18 A7,.ps 14 19 A7,.ps 14 20 A7,.ps 14 21 A7],λs=>[.xl A7 s.most,.xl A7 s.order,.own 0 0,s.n,.own 1 0,s.level],λs=>[⟨[s.BB,s.Bf,s.Bz,s.BN,s.C0],28,.cl,X⟩,⟨[s.HN,s.HM,s.Ew,s.B2,s.HO,.xl Ed s.BH,.xl A7 s.CG,.xl A7 s.CF,.xl A7 s.CE,.xl A7 s.CD,.xl A7 s.CB,.xl A7 s.CA,.xl A7 s.C9,.xl A7 s.C8,.xl A7 s.C7,.xl A7 s.CC,.xl A7 s.C6,.xl A7 s.C5,.xl A7 s.C4,.xl A7 s.C3,.xl A7 s.C2,.xl A7 s.C1,.os 2 1 0<|M s.sums,.xl A7 s.BG,.os 3 1 0<|M s.levels],308,.cl,X⟩,bV 3 A7 s.sums,bV 3 A7 s.levels],λv b=>⟨B5 A7 v 0,B5 A7 v 1,AK v 3,AK v 5,AF Ad b 0 0,AF .str b 0 1,AF Ai b 0 2,AF Ae b 0 3,AF Aj b 0 4,AF Ad b 1 0,AF .str b 1 1,AF Ai b 1 2,AF Ae b 1 3,AF Aj b 1 4,AF Ed b 1 5,AF A7 b 1 6,AF A7 b 1 7,AF A7 b 1 8,AF A7 b 1 9,AF A7 b 1 10,AF A7 b 1 11,AF A7 b 1 12,AF A7 b 1 13,AF A7 b 1 14,AF A7 b 1 15,AF A7 b 1 16,AF A7 b 1 17,AF A7 b 1 18,AF A7 b 1 19,AF A7 b 1 20,AF A7 b 1 21,AF A7 b 1 23,Ab A7 b 2,Ab A7 b 3⟩,vu,λs r=> {s with level:=r.level,sums:=r.sums,levels:=r.levels},λs=>s,λ_ s=>s,[.exit 0],jU,U6,tK⟩
abbrev Il:=PZ.run
def awo:Rq U6 vu:=by
 intro s hI;refine ⟨A9,A9,?_,λc1=>⟨A9,A9,ak⟩,λc1=>⟨A9,A9,ak⟩⟩
 ·exact ⟨aOR s hI,rfl,rfl⟩
def XR:List Bd:=[WS,Wt,Ws,Wu]
def zU:Ay:=kI XR<|la 8 func192 qo<|la 2 func188 oQ<|la 3 func190 cZ<|la 2 func188 WM<|l0 XR
def aPi:PZ.Ok:={}
def aPB:PZ.Pf (ac6):=⟨ajJ,λs h=>rfl,avZ,awo⟩
def aop:SA 0 pI PZ:=AT.snd aPi aPB (nL (Γ:=XR) (K:=zU) (L:=(λi=>if i=13 then Ru.lp else Al i)) (gk XR) zU.h pI (λb hb=>by
 rw [show BD _=[aEx] by kernel_rfl] at hb
 simp only [B7,Bt,Bu] at hb;subst hb;exact aoq)) λs=>AU
theorem apm (s:Iy) (hE:jU s):(Il s).levels=shl (KP s) s.BH s.B2 s.BG s.most s.order 81 1 s.sums s.levels:=by
 have hk:=AT.aBb aPi aPB (V:=λs:Iy=>shl (KP s) s.BH s.B2 s.BG s.most s.order (82-s.level).toNat s.level s.sums s.levels) (K:=λ_ s' v=>s'.levels=v) (λs hI=>by
  have hr:=aa6 s hI
  have hs:=ng (O:=KP s) (rows:=s.BH) (gs:=s.B2) (alive:=s.BG) (most:=s.most) (level:=s.level) s.order (s.sums,s.levels,X)
  obtain ⟨⟨h0,h1⟩,h2,h3,hT,hS⟩:=hI;rw [<-hr] at hs
  have hf:(82-s.level).toNat=(81-s.level).toNat+1:=A0
  refine AH (λc1=>?_) λc1=>?_
  ·have c1:(Hd<|L5 s).some=false:=A8
   show (Hd<|L5 s).levels=shl _ _ _ _ _ _ _ _ _ _
   rw [hf,shl,<-hr,AE A8]
  ·have c1:(Hd<|L5 s).some=true:=A8
   have h80:s.level<=80:=by
    rcases hs c1 with h|h
    ·cases h
    ·exact h
   rw [AJ (x:=s.level+1)]
   show shl (KP s) s.BH s.B2 s.BG s.most s.order (82-(s.level+1)).toNat (s.level+1) (Hd<|L5 s).sums (Hd<|L5 s).levels=shl (KP s) s.BH s.B2 s.BG s.most s.order (82-s.level).toNat s.level s.sums s.levels
   rw [hf,show 82-(s.level+1)=81-s.level by omega]
   conv=>rhs;rw [shl,<-hr]
   simp only [c1,Bm]) s hE
 rw [hk,hE.1];rfl
structure PO where
 l:List Ch
 (m k:Int)
 HN:List Cd
 HM:List ByteArray
 Ew:List Ko
 B2:List Ch
 HO:List Ba
 BH:List Rw
 (CG CF CE CD CB CA C9 C8 C7 CC C6 C5 C4 C3 C2 C1 BG out sums levels:List Int)
def aEw:=bN f158 1
def vt (s:PO):T (Rd PO):=letI a:=s.levels.getD s.k.toNat<|Ty.dflt A7;letI c:=AG s.l s.k;letI b:=s.out.set s.k.toNat<|Dr c.2.2.2.1 c.2.2.2.2.2.1 a;.br (an<|s.k<s.m) (.ix s.k (M s.l)<|.ik s.k (M s.levels)<|.req ((1<=c.2.2.2.1/\c.2.2.2.1<=80/\1<=c.2.2.2.2.2.1/\c.2.2.2.2.2.1<=80)/\0<=a/\a<=1000)<|.ik s.k (M s.out)<|.re (M s.out) b<|.rl s.sums<|.rl s.levels<|.nx {s with k:=AA<|s.k+1,out:=b})<|.rl s.out<|.rl s.sums<|.rl s.levels<|.so (.exit 4) s
def jT (s:PO):Prop:=s.k=0/\s.out=aq (M s.l) 0/\(s.m=(M s.l:Int)/\s.m<=1000/\M s.levels=M s.l)/\(∀k:Int,0<=k->k<s.m->Dh (AG s.l k).2.2.2.1 (AG s.l k).2.2.2.2.1 (AG s.l k).2.2.2.2.2.1=U)/\(∀k:Nat,0<=s.levels.getD k 0/\s.levels.getD k 0<=80)
def YN (s:PO):Prop:=(0<=s.k/\s.k<=s.m)/\s.out=SR s.l s.levels s.k.toNat++aq (M s.l-s.k.toNat) 0/\(s.m=(M s.l:Int)/\s.m<=1000/\M s.levels=M s.l)/\(∀k:Int,0<=k->k<s.m->Dh (AG s.l k).2.2.2.1 (AG s.l k).2.2.2.2.1 (AG s.l k).2.2.2.2.2.1=U)/\(∀k:Nat,0<=s.levels.getD k 0/\s.levels.getD k 0<=80)
def tJ (s:PO):Nat:=(s.m-s.k).toNat
def aA3 (x:Ex) (s s':PO):Prop:=x=.exit 4/\s'.out=FL s'.l s'.levels
def ajI:∀s,jT s->YN s:=by
 exact aLq
theorem avY:Da YN tJ aA3 vt:=by
 intro s hI;obtain ⟨⟨h0,h1⟩,h2,⟨h3,h4,h5⟩,h6,h7⟩:=hI;refine AH (λc1=>?_) λc1=>?_
 ·have c1:s.k<s.m:=A8
  rw [AJ (x:=s.k+1)];refine ⟨⟨⟨A8,A8⟩,?_,⟨h3,h4,h5⟩,h6,h7⟩,by simp only [tJ];omega⟩
  have e:M s.l-s.k.toNat=(M s.l-(s.k+1).toNat)+1:=A0
  have hs:=aGV (xs:=SR s.l s.levels s.k.toNat) (r:=M s.l-(s.k+1).toNat) (v:=Cq s.l s.k<|s.levels.getD s.k.toNat 0)
  rw [ad4] at hs;rw [h2,e,show (s.k+1).toNat=s.k.toNat+1 by omega,ag5,CM h0]
  rw [show (s.k+1).toNat=s.k.toNat+1 by omega] at hs
  exact hs
 ·have c1:s.m<=s.k:=A8
  refine ⟨rfl,?_⟩;rw [h2,show s.k.toNat=M s.l by omega,kV,List.replicate_zero,GK]
  rfl
def Nz:AT PO:=⟨0,129,[14,19,108,109,110],[],λs=>[.own 0 0,.os 1 1 0<|M s.out,s.l,s.m,s.k],λs=>[⟨[s.HN,s.HM,s.Ew,s.B2,s.HO,.xl Ed s.BH,.xl A7 s.CG,.xl A7 s.CF,.xl A7 s.CE,.xl A7 s.CD,.xl A7 s.CB,.xl A7 s.CA,.xl A7 s.C9,.xl A7 s.C8,.xl A7 s.C7,.xl A7 s.CC,.xl A7 s.C6,.xl A7 s.C5,.xl A7 s.C4,.xl A7 s.C3,.xl A7 s.C2,.xl A7 s.C1,.os 2 1 0<|M s.sums,.xl A7 s.BG,.os 3 1 0<|M s.levels],308,.cl,X⟩,bV 3 A7 s.out,bV 3 A7 s.sums,bV 3 A7 s.levels],λv b=>⟨B5 Ae v 2,AK v 3,AK v 4,AF Ad b 0 0,AF .str b 0 1,AF Ai b 0 2,AF Ae b 0 3,AF Aj b 0 4,AF Ed b 0 5,AF A7 b 0 6,AF A7 b 0 7,AF A7 b 0 8,AF A7 b 0 9,AF A7 b 0 10,AF A7 b 0 11,AF A7 b 0 12,AF A7 b 0 13,AF A7 b 0 14,AF A7 b 0 15,AF A7 b 0 16,AF A7 b 0 17,AF A7 b 0 18,AF A7 b 0 19,AF A7 b 0 20,AF A7 b 0 21,AF A7 b 0 23,Ab A7 b 1,Ab A7 b 2,Ab A7 b 3⟩,vt,λs r=> {s with k:=r.k,out:=r.out},λs=>s,λ_ s=>s,[.exit 4],jT,YN,tJ⟩
abbrev Q7:=Nz.run
abbrev arY:=Nz.Av
theorem awn:Rq YN vt:=by
 intro s hI;refine ⟨λc1=>⟨?_,?_,?_,?_,?_,?_,?_,A9,A9,ak⟩,λc1=>⟨A9,A9,A9,ak⟩⟩
 iterate 3 · (obtain ⟨⟨h0,h1⟩,h2,⟨h3,h4,h5⟩,h6,h7⟩:=hI;(try simp only [Ac] at c1);have hl:M s.out=M s.l:=aNZ;first|omega|exact ⟨rfl,AI⟩ |exact ⟨rfl,rfl⟩)
 ·(have hh:=IB.1<|hI.2.2.2.1 s.k hI.1.1 A8;have hb:=hI.2.2.2.2 s.k.toNat;refine ⟨A0,?_⟩;show 0<=s.levels.getD s.k.toNat 0/\s.levels.getD s.k.toNat 0<=1000;omega)
 iterate 3 · (obtain ⟨⟨h0,h1⟩,h2,⟨h3,h4,h5⟩,h6,h7⟩:=hI;(try simp only [Ac] at c1);have hl:M s.out=M s.l:=aNZ;first|omega|exact ⟨rfl,AI⟩ |exact ⟨rfl,rfl⟩)
def aPh:Nz.Ok:={}
def aPA:Nz.Pf (aA3):=⟨ajI,λs h=>rfl,avY,awn⟩
def aoo:SA 0 aEw Nz:=s1 aPh aPA XR zU
def apl:Fi jT YN aA3 arY Q7:=AT.fin aPh aPA
def aHN:List LV->T LV
 | .agg a::r=>s5 a λcs os ks gs bs=>(match r with
  | [.xl (.int J) al,.xl (.int J) mo,.xl (.int J) od]=> .ok (.AO [.xl A7<|Fk cs os ks gs bs al mo od,shE cs os ks gs bs al mo od])
  |_=> .no)
 |_=> .no
def N6 (cs:List Cd) (os:List ByteArray) (ks:List Ko) (gs:List Ch) (bs:List Ba) (al mo od:List Int):E5:=letI a:=JX cs os ks gs bs;(⟨al,a,(M a:Int),0,cs,os,ks,gs,bs,cs,os,ks,gs,bs,a,al,([]:List Int),([]:List Int),([]:List Int),([]:List Int),([]:List Int),([]:List Int),([]:List Int),([]:List Int),([]:List Int),([]:List Int),([]:List Int),([]:List Int),([]:List Int),([]:List Int),([]:List Int),([]:List Int),aq (M a:Int).toNat (0:Int),aq (M al:Int).toNat (0:Int)⟩:E5)
def L6 (cs:List Cd) (os:List ByteArray) (ks:List Ko) (gs:List Ch) (bs:List Ba) (al mo od:List Int):Iy:=letI a:=IY<|N6 cs os ks gs bs al mo od;(⟨mo,od,(M gs:Int),1,cs,os,ks,gs,bs,cs,os,ks,gs,bs,JX cs os ks gs bs,(a.CG.drop 0).take<|M a.CG,(a.CF.drop 0).take<|M a.CF,(a.CE.drop 0).take<|M a.CE,(a.CD.drop 0).take<|M a.CD,(a.CB.drop 0).take<|M a.CB,(a.CA.drop 0).take<|M a.CA,(a.C9.drop 0).take<|M a.C9,(a.C8.drop 0).take<|M a.C8,(a.C7.drop 0).take<|M a.C7,(a.CC.drop 0).take<|M a.CC,(a.C6.drop 0).take<|M a.C6,(a.C5.drop 0).take<|M a.C5,(a.C4.drop 0).take<|M a.C4,(a.C3.drop 0).take<|M a.C3,(a.C2.drop 0).take<|M a.C2,(a.C1.drop 0).take<|M a.C1,al,a.sums,aq (M al:Int).toNat (0:Int)⟩:Iy)
def aBf (cs:List Cd) (os:List ByteArray) (ks:List Ko) (gs:List Ch) (bs:List Ba) (al mo od:List Int):PO:=letI a:=IY<|N6 cs os ks gs bs al mo od;letI b:=Il<|L6 cs os ks gs bs al mo od;(⟨gs,(M gs:Int),0,cs,os,ks,gs,bs,JX cs os ks gs bs,(a.CG.drop 0).take<|M a.CG,(a.CF.drop 0).take<|M a.CF,(a.CE.drop 0).take<|M a.CE,(a.CD.drop 0).take<|M a.CD,(a.CB.drop 0).take<|M a.CB,(a.CA.drop 0).take<|M a.CA,(a.C9.drop 0).take<|M a.C9,(a.C8.drop 0).take<|M a.C8,(a.C7.drop 0).take<|M a.C7,(a.CC.drop 0).take<|M a.CC,(a.C6.drop 0).take<|M a.C6,(a.C5.drop 0).take<|M a.C5,(a.C4.drop 0).take<|M a.C4,(a.C3.drop 0).take<|M a.C3,(a.C2.drop 0).take<|M a.C2,(a.C1.drop 0).take<|M a.C1,al,aq (M gs:Int).toNat (0:Int),b.sums,b.levels⟩:PO)
def zu:List Bd:=[WS,Wt,Ws,Wu]
def al5:Ay:=kI zu<|la 8 func192 qo<|la 2 func188 oQ<|la 3 func190 cZ<|la 2 func188 WM<|l0 zu
def aJe:=vm (S:=aHN) func158 zu al5 (L:=(λi=>if i=11 then PZ.lp else if i=21 then Nz.lp else Al i)) (λb hb=>by
 rw [show BD _=[pI,aEw] by kernel_rfl] at hb
 simp only [B7,Bt,Bu] at hb;rcases hb with rfl|rfl
 ·exact aop
 ·exact aoo) (λargs lv h=>by
 unfold aHN at h;split at h
 case h_2=>cases h
 replace h:=IE h
 obtain ⟨cs,os,ks,gs,bs,rfl,h⟩:=h;split at h
 ·rename_i al mo od
  refine Aq (letI b:=aBf cs os ks gs bs al mo od;letI d:=(M (JX cs os ks gs bs):Int);letI g:=L6 cs os ks gs bs al mo od;letI j:=(M gs:Int);letI l:=(M al:Int);letI n:=((Q7 b).out.drop 0).take<|M (Q7 b).out;letI o:=N6 cs os ks gs bs al mo od;letI s:=(aq d.toNat (0:Int));letI t:=(aq j.toNat (0:Int));letI u:=(M mo:Int);letI w:=(Bs (cU (⟨X,mo,u,0,cs,os,ks,gs,bs⟩:Iw))<|.ret);letI x:=(Tc.q (⟨X,mo,u,0,cs,os,ks,gs,bs⟩:Iw));letI y:=(cV (⟨X,mo,u,0,cs,os,ks,gs,bs⟩:Iw));letI z:=j<=1000;letI a:=IY o;letI f:=(aq l.toNat (0:Int));.br ((OI cs os ks gs bs) !=0) (.ok<|.AO [.xl A7 ([]:List Int),(1:Int)])<|.br (l !=j) (.ok<|.AO [.xl A7 ([]:List Int),(1:Int)])<|.br (u !=j) (.ok<|.AO [.xl A7 ([]:List Int),(1:Int)])<|.req (Tc.q (⟨X,al,l,0,cs,os,ks,gs,bs⟩:Iw))<|.br (Bs (cU (⟨X,al,l,0,cs,os,ks,gs,bs⟩:Iw))<|.ret) (.br (!(cV (⟨X,al,l,0,cs,os,ks,gs,bs⟩:Iw)).r) (.ok<|.AO [.xl A7 ([]:List Int),(1:Int)])<|.req x<|.br w (.br (! y.r) (.ok<|.AO [.xl A7 ([]:List Int),(1:Int)])<|.req z<|.br (!(Gb od j)) (.ok<|.AO [.xl A7 ([]:List Int),(1:Int)])<|.rm 8 d<|.rm 8 l<|.r0 Int<|.r0 Int<|.r0 Int<|.r0 Int<|.r0 Int<|.r0 Int<|.r0 Int<|.r0 Int<|.r0 Int<|.r0 Int<|.r0 Int<|.r0 Int<|.r0 Int<|.r0 Int<|.r0 Int<|.r0 Int<|.re d.toNat s<|.re l.toNat f<|.req (PJ.q o)<|.rz a.CG<|.rz a.CF<|.rz a.CE<|.rz a.CD<|.rz a.CB<|.rz a.CA<|.rz a.C9<|.rz a.C8<|.rz a.C7<|.rz a.CC<|.rz a.C6<|.rz a.C5<|.rz a.C4<|.rz a.C3<|.rz a.C2<|.rz a.C1<|.rl a.sums<|.rl f<|.req (PZ.q g)<|.rm 8 j<|.re j.toNat t<|.rl (Il g).sums<|.rl (Il g).levels<|.req (Nz.q b)<|.rz (Q7 b).out<|.ok<|.AO [.xl A7 n,(0:Int)])<|.br (!U) (.ok<|.AO [.xl A7 ([]:List Int),(1:Int)])<|.req z<|.br (!(Gb od j)) (.ok<|.AO [.xl A7 ([]:List Int),(1:Int)])<|.rm 8 d<|.rm 8 l<|.r0 Int<|.r0 Int<|.r0 Int<|.r0 Int<|.r0 Int<|.r0 Int<|.r0 Int<|.r0 Int<|.r0 Int<|.r0 Int<|.r0 Int<|.r0 Int<|.r0 Int<|.r0 Int<|.r0 Int<|.r0 Int<|.re d.toNat s<|.re l.toNat f<|.req (PJ.q o)<|.rz a.CG<|.rz a.CF<|.rz a.CE<|.rz a.CD<|.rz a.CB<|.rz a.CA<|.rz a.C9<|.rz a.C8<|.rz a.C7<|.rz a.CC<|.rz a.C6<|.rz a.C5<|.rz a.C4<|.rz a.C3<|.rz a.C2<|.rz a.C1<|.rl a.sums<|.rl f<|.req (PZ.q g)<|.rm 8 j<|.re j.toNat t<|.rl (Il g).sums<|.rl (Il g).levels<|.req (Nz.q b)<|.rz (Q7 b).out<|.ok<|.AO [.xl A7 n,(0:Int)])<|.br (!U) (.ok<|.AO [.xl A7 ([]:List Int),(1:Int)])<|.req x<|.br w (.br (! y.r) (.ok<|.AO [.xl A7 ([]:List Int),(1:Int)])<|.req z<|.br (!(Gb od j)) (.ok<|.AO [.xl A7 ([]:List Int),(1:Int)])<|.rm 8 d<|.rm 8 l<|.r0 Int<|.r0 Int<|.r0 Int<|.r0 Int<|.r0 Int<|.r0 Int<|.r0 Int<|.r0 Int<|.r0 Int<|.r0 Int<|.r0 Int<|.r0 Int<|.r0 Int<|.r0 Int<|.r0 Int<|.r0 Int<|.re d.toNat s<|.re l.toNat f<|.req (PJ.q o)<|.rz a.CG<|.rz a.CF<|.rz a.CE<|.rz a.CD<|.rz a.CB<|.rz a.CA<|.rz a.C9<|.rz a.C8<|.rz a.C7<|.rz a.CC<|.rz a.C6<|.rz a.C5<|.rz a.C4<|.rz a.C3<|.rz a.C2<|.rz a.C1<|.rl a.sums<|.rl f<|.req (PZ.q g)<|.rm 8 j<|.re j.toNat t<|.rl (Il g).sums<|.rl (Il g).levels<|.req (Nz.q b)<|.rz (Q7 b).out<|.ok<|.AO [.xl A7 n,(0:Int)])<|.br (!U) (.ok<|.AO [.xl A7 ([]:List Int),(1:Int)])<|.req z<|.br (!(Gb od j)) (.ok<|.AO [.xl A7 ([]:List Int),(1:Int)])<|.rm 8 d<|.rm 8 l<|.r0 Int<|.r0 Int<|.r0 Int<|.r0 Int<|.r0 Int<|.r0 Int<|.r0 Int<|.r0 Int<|.r0 Int<|.r0 Int<|.r0 Int<|.r0 Int<|.r0 Int<|.r0 Int<|.r0 Int<|.r0 Int<|.re d.toNat s<|.re l.toNat f<|.req (PJ.q o)<|.rz a.CG<|.rz a.CF<|.rz a.CE<|.rz a.CD<|.rz a.CB<|.rz a.CA<|.rz a.C9<|.rz a.C8<|.rz a.C7<|.rz a.CC<|.rz a.C6<|.rz a.C5<|.rz a.C4<|.rz a.C3<|.rz a.C2<|.rz a.C1<|.rl a.sums<|.rl f<|.req (PZ.q g)<|.rm 8 j<|.re j.toNat t<|.rl (Il g).sums<|.rl (Il g).levels<|.req (Nz.q b)<|.rz (Q7 b).out<|.ok<|.AO [.xl A7 n,(0:Int)]) ?_;obtain rfl:=h
  have err:G7 cs os ks gs bs al mo od=X->LV.AO [.xl A7 ([]:List Int),.v<|Y J 1]=LV.AO [.xl A7<|Fk cs os ks gs bs al mo od,.v<|Y J<|shE cs os ks gs bs al mo od]:=λh=>by
   unfold Fk shE;rw [h];rfl
  have no_:∀ {p:Prop},¬p->(G7 cs os ks gs bs al mo od=U->p)->G7 cs os ks gs bs al mo od=false:=λh1 h2=>by
   rw [I6];exact λh=>h1<|h2 h
  refine ⟨λc=>err<|no_ (p:=BL cs os ks gs bs=U) (λh=>?_) λh=>(L9.1 h).1,λc=>?_⟩
  ·unfold OI at c
   rw [h] at c
   simp at c
  have hv:BL cs os ks gs bs=true:=by
   cases e:BL cs os ks gs bs with
   |true=>rfl
   |false=>unfold OI at c;rw [e] at c;simp at c
  have hl:=(DF.1 hv).1
  refine ⟨λc2=>err<|no_ (p:=M al=M gs) (by simp at c2;omega) λh=>(L9.1 h).2.1,λc2=>?_⟩
  refine ⟨λc3=>err<|no_ (p:=M mo=M gs) lK λh=>(L9.1 h).2.2.1,λc3=>?_⟩
  have c2:M al=M gs:=by simp at c2;omega
  have c3:M mo=M gs:=lK
  refine Lf ⟨⟨rfl,AZ,AZ,rfl⟩,rfl,rfl⟩ λhE1=>?_
  rcases aIJ _ hE1.1 with ⟨q1,q2⟩ |⟨q1,q2,q3⟩
  rotate_left
  ·rw [q1,q2]
   refine ⟨λ_=>⟨λ_=>err<|no_ (p:=al.all Hk=U) (by have q3:al.all Hk=false:=q3;rw [q3];simp) λh=>(L9.1 h).2.2.2.1,λh=>Ao⟩,λh=>Ao⟩
  rw [q1];refine ⟨λh=>Ao,λ_=>⟨λh=>Ao,λ_=>?_⟩⟩
  have q2:al.all Hk=true:=q2
  refine Lf ⟨⟨rfl,AZ,AZ,rfl⟩,rfl,rfl⟩ λhE2=>?_
  rcases aIJ _ hE2.1 with ⟨p1,p2⟩ |⟨p1,p2,p3⟩
  rotate_left
  ·rw [p1,p2]
   refine ⟨λ_=>⟨λ_=>err<|no_ (p:=mo.all Hk=U) (by have p3:mo.all Hk=false:=p3;rw [p3];simp) λh=>(L9.1 h).2.2.2.2.1,λh=>Ao⟩,λh=>Ao⟩
  rw [p1];refine ⟨λh=>Ao,λ_=>⟨λh=>Ao,λ_=>?_⟩⟩
  have p2:mo.all Hk=true:=p2
  refine ⟨A0,λc4=>err<|no_ (p:=Gb od (M gs:Int)=U) (by simp at c4;rw [c4];simp) λh=>(L9.1 h).2.2.2.2.2,λc4=>?_⟩
  have c4:Gb od (M gs:Int)=true:=yl
  have hok:G7 cs os ks gs bs al mo od=true:=L9.2 ⟨hv,c2,c3,q2,p2,c4⟩
  obtain ⟨hT,hS⟩:=akG hok
  have er:JX cs os ks gs bs=DH cs gs (M cs):=by unfold JX;rw [AD hv]
  have hrl:=o6 (cs:=cs) (gs:=gs) (k:=M cs)
  have hod:M od=M gs:=by
   unfold Gb at c4;simp only [AY,Ac] at c4;omega
  have hrn:(M (JX cs os ks gs bs):Int)<=1000:=by rw [er];omega
  refine ⟨A0,A0,A9,A9,A9,A9,A9,A9,A9,A9,A9,A9,A9,A9,A9,A9,A9,A9,⟨rfl,AI⟩,⟨rfl,AI⟩,?_⟩
  have hN:Tw (N6 cs os ks gs bs al mo od):=by
   refine ⟨rfl,λo ho=>?_,rfl,rfl,hrn,λr hr=>?_,hT.al,by show M (aq _ _)=M (JX cs os ks gs bs);simp⟩
   ·simpa [Fa,N6] using ho
   ·have hr:r∈DH cs gs (M cs):=by rw [<-er];exact hr
    obtain ⟨m1,m2,m3,m4⟩:=row_mem hr;refine ⟨A0,λm hm=>?_⟩
    have:=m2 m hm
    show 0<=m/\m<16/\m<(M al:Int)
    omega
  obtain ⟨nr1,nr2⟩:=ar1 _ hN
  have nr1:Fa (IY<|N6 cs os ks gs bs al mo od)=OL (DH cs gs<|M cs):=by rw [nr1,<-er];rfl
  have nr2:(IY<|N6 cs os ks gs bs al mo od).sums=SM al (DH cs gs<|M cs):=by rw [nr2,<-er];rfl
  refine ⟨⟨hN,rfl,rfl⟩,A0,A0,A0,A0,A0,A0,A0,A0,A0,A0,A0,A0,A0,A0,A0,A0,A9,A9,?_⟩
  have eO:KP (L6 cs os ks gs bs al mo od)=Fa (IY<|N6 cs os ks gs bs al mo od):=by
   unfold KP Fa L6;simp only [CP,EN]
  have hSh:jU (L6 cs os ks gs bs al mo od):=by
   refine ⟨rfl,by show (M od:Int)<=1000;omega,rfl,?_,?_⟩
   ·show OkT (KP<|L6 cs os ks gs bs al mo od) (JX cs os ks gs bs) gs al mo od
    rw [eO,nr1,er];exact hT
   ·show OkS (JX cs os ks gs bs) od (IY<|N6 cs os ks gs bs al mo od).sums _
    rw [nr2,er];exact hS
  have sr:=apm _ hSh
  have sr:(Il<|L6 cs os ks gs bs al mo od).levels=shV (DH cs gs<|M cs) gs al mo od:=by
   rw [sr]
   show shl (KP<|L6 cs os ks gs bs al mo od) (JX cs os ks gs bs) gs al mo od 81 1 (IY<|N6 cs os ks gs bs al mo od).sums _=_
   rw [eO,nr1,nr2,er];rfl
  obtain ⟨sl,sb⟩:=aOS hT 81 1 _ _ A0 A0 hS;refine ⟨⟨hSh,rfl,rfl⟩,A0,⟨rfl,AI⟩,A9,A9,?_⟩
  have hX:jT (aBf cs os ks gs bs al mo od):=by
   refine ⟨rfl,rfl,⟨rfl,aN7,?_⟩,λk h0 h1=>?_,?_⟩
   ·show M (Il<|L6 cs os ks gs bs al mo od).levels=M gs
    rw [sr];exact sl.trans (by rw [Ce];exact c2)
   ·have:=Oo hv h0 h1
    unfold GA chW at this;simp only [AY,BV] at this
    show Dh (AG gs k).2.2.2.1 (AG gs k).2.2.2.2.1 (AG gs k).2.2.2.2.2.1=U
    exact IB.2 A0
   ·show ∀k:Nat,0<=(Il<|L6 cs os ks gs bs al mo od).levels.getD k 0/\(Il<|L6 cs os ks gs bs al mo od).levels.getD k 0<=80
    rw [sr];exact sb
  refine ⟨⟨hX,rfl,rfl⟩,A0,?_⟩;obtain ⟨s',_,_,x2⟩:=apl _ hX
  have x2:(Q7<|aBf cs os ks gs bs al mo od).out=FL gs (Il<|L6 cs os ks gs bs al mo od).levels:=x2
  show LV.AO [LV.xl _ _,_]=_
  rw [CP,EN,x2,sr];unfold Fk shE;rw [AD hok,AD hok]
 ·cases h)
structure P9 where
 m:List Ch
 (k i:Int)
 out:List Int
def aFn:=bN f157 0
def vC (s:P9):T (Rd P9):=letI a:=s.out.set s.i.toNat (AG s.m s.i).2.2.2.2.2.2.1;.br (an<|s.i<s.k) (.ix s.i (M s.m)<|.ik s.i (M s.out)<|.re (M s.out) a<|.nx {s with i:=AA<|s.i+1,out:=a})<|.rl s.out<|.so (.exit 0) s
def jb (s:P9):Prop:=s.i=0/\s.k=(M s.m:Int)/\s.k<=1000/\M s.out=M s.m/\(∀j,0<=j->j<s.k->gi s.out j=0)/\True
def Y8 (s:P9):Prop:=(0<=s.i/\s.i<=s.k)/\s.k=(M s.m:Int)/\s.k<=1000/\M s.out=M s.m/\(∀j,0<=j->j<s.k->gi s.out j=if j<s.i then CO (AG s.m j) else 0)/\True
def tD (s:P9):Nat:=(s.k-s.i).toNat
def aAG (x:Ex) (s s':P9):Prop:=x=.exit 0/\s'.out=H7 (M s'.m) (λj=>CO<|AG s'.m j)
theorem alq:∀s,jb s->Y8 s:=by
 exact Sk
theorem agL:Da Y8 tD aAG vC:=by
 intro s hI;obtain ⟨⟨h0,h1⟩,h2,h3,h4,h5,h6⟩:=hI;refine AH (λc1=>?_) λc1=>?_
 ·have c1:s.i<s.k:=AX
  rw [AJ (x:=s.i+1)];refine ⟨⟨⟨A8,A8⟩,h2,h3,A8,λj j0 j1=>?_,h6⟩,by simp only [tD];omega⟩
  simp only;rw [JW h0 A0 j0];exact kZ
 ·exact Zh
def Qv:AT P9:=⟨0,31,[3,17,18,19],[],λs=>[.os 0 1 0<|M s.out,s.m,s.k,s.i],λs=>[bV 3 A7 s.out],λv b=>⟨B5 Ae v 1,AK v 2,AK v 3,Ab A7 b 0⟩,vC,λs r=> {r with m:=s.m,k:=s.k},λs=>s,λ_ s=>s,[.exit 0],jb,Y8,tD⟩
abbrev aCH:=Qv.run
abbrev at6:=Qv.Av
def awJ:Rq Y8 vC:=by
 exact xZ
def zt:List Bd:=[]
def aQ2:Qv.Ok:={}
def aOZ:Qv.Pf (aAG):=⟨alq,λs h=>rfl,agL,awJ⟩
def apa:SA 0 aFn Qv:=s1 aQ2 aOZ zt kN
def asf:Fi jb Y8 aAG at6 aCH:=AT.fin aQ2 aOZ
def aId:List LV->T LV
 | [.xq 9 q0]=>(match ([q0 0,q0 1,q0 2,q0 3,q0 4,q0 5,q0 6,q0 7,q0 8]:List LV) with
  | [.xl (.pair .str (.pair (.int J) (.pair (.int J) (.pair (.int J) (.pair (.pair (.int J) (.int J)) (.pair (.int J) (.pair (.int J) (.pair (.int J) (.pair (.int J) (.int J)))))))))) cs,.xl (.str) os,.xl (.pair .str (.pair (.int J) (.pair (.int J) (.int J)))) ks,.xl (.pair .str (.pair (.int J) (.pair (.int J) (.pair (.int J) (.pair (.int J) (.pair (.int J) (.pair (.int J) (.int J)))))))) gs,.xl (.pair .str (.int J)) bs,.xl (.pair (.int J) (.pair (.int J) (.pair (.int J) (.pair (.int J) (.int J))))) l,.xl (.pair .bool (.pair (.int J) (.pair (.int J) (.int J)))) d,.v (Y J t),.xl (.int J) od]=> .req ((M gs:Int)<=1000) (.ok<|.xl A7<|Bv gs)
  |_=> .no)
 |_=> .no
def aqo (cs:List Cd) (os:List ByteArray) (ks:List Ko) (gs:List Ch) (bs:List Ba) (l:List Le) (d:List Dm) (t:Int) (od:List Int):letI c:=(M gs:Int);letI a:=(aq c.toNat (0:Int));letI b:=(aCH (⟨gs,c,(0:Int),a⟩:P9));Bi prog AV (zt) kN (λi=>if i=3 then Qv.lp else Al i) f157 [xQ 9 [cs,os,ks,gs,bs,l,d,t,.xl A7 od]]=.rm 8 c (.re c.toNat a<|.req (Qv.q (⟨gs,c,(0:Int),a⟩:P9))<|.rz b.out<|.ok<|.xl A7<|(b.out.drop 0).take<|M b.out):=AU
def av6:=vm (S:=aId) func157 zt kN (L:=(λi=>if i=3 then Qv.lp else Al i)) (λb hb=>by
 rw [show BD _=[aFn] by kernel_rfl] at hb
 simp only [B7,Bt,Bu] at hb;subst hb;exact apa) (λargs lv h=>by
 refine ⟨?_⟩;unfold aId at h;split at h
 ·split at h
  case h_2=>cases h
  rename_i heq0;simp only [canL,canX];rw [Dn (n:=9) heq0];simp only [canL,canX];rw [aqo];rename_i cs os ks gs bs l d t od;obtain ⟨hn,rfl⟩:=h
  have hE:jb ⟨gs,(M gs:Int),0,aq (M gs:Int).toNat 0⟩:=⟨rfl,rfl,hn,AI,λj _ _=>Nd,ak⟩
  obtain ⟨_,_,q1,q2⟩:=asf _ hE
  have q2:(aCH ⟨gs,(M gs:Int),0,aq (M gs:Int).toNat 0⟩).out=Bv gs:=q2
  refine ⟨A0,⟨rfl,AI⟩,⟨hE,rfl,rfl⟩,A0,?_⟩
  show LV.xl _ _=_
  rw [CP,EN,q2]
 ·cases h)
structure Oz where
 cs:List Cd
 os:List ByteArray
 ks:List Ko
 gs:List Ch
 bs:List Ba
 l:List Le
 d:List Dm
 t:Int
 od:List Int
 m:List Ch
 (k i:Int)
 wanted:List Int
def aFk:=bN f156 0
def fi (s:Oz):T (Rd Oz):=letI a:=s.wanted.set s.i.toNat (AG s.m s.i).2.2.2.2.1;.br (an<|s.i<s.k) (.ix s.i (M s.m)<|.ix s.i (M s.d)<|.br (Dq s.d s.i).1 (.ik s.i (M s.wanted)<|.re (M s.wanted) a<|.nx {s with i:=AA<|s.i+1,wanted:=a})<|.rl s.wanted<|.nx {s with i:=AA<|s.i+1})<|.rl s.wanted<|.so (.exit 0) s
def iP (s:Oz):Prop:=s.i=0/\s.k=(M s.m:Int)/\s.k<=1000/\M s.wanted=M s.m/\(∀j,0<=j->j<s.k->gi s.wanted j=0)/\M s.d=M s.m
def Y5 (s:Oz):Prop:=(0<=s.i/\s.i<=s.k)/\s.k=(M s.m:Int)/\s.k<=1000/\M s.wanted=M s.m/\(∀j,0<=j->j<s.k->gi s.wanted j=if j<s.i then if (Dq s.d j).1=U then (AG s.m j).2.2.2.2.1 else 0 else 0)/\M s.d=M s.m
def eQ (s:Oz):Nat:=(s.k-s.i).toNat
def aAi (x:Ex) (s s':Oz):Prop:=x=.exit 0/\s'.wanted=H7 (M s'.m) (λj=>if (Dq s'.d j).1=U then (AG s'.m j).2.2.2.2.1 else 0)
theorem alg:∀s,iP s->Y5 s:=by
 exact Sk
theorem ah1:Da Y5 eQ aAi fi:=by
 intro s hI;unfold fi;obtain ⟨⟨h0,h1⟩,h2,h3,h4,h5,h6⟩:=hI;refine AH (λc1=>?_) λc1=>?_
 ·refine AH (λc2=>?_) (λc2=>?_)
  ·have c1:s.i<s.k:=AX
   rw [AJ (x:=s.i+1)];refine ⟨⟨⟨AZ,AZ⟩,h2,h3,A8,λj j0 j1=>?_,h6⟩,by simp only [eQ];omega⟩
   simp only;rw [JW h0 aE j0]
   by_cases e:j=s.i
   ·subst e
    grind
   ·exact xu
  ·have c1:s.i<s.k:=AX
   rw [AJ (x:=s.i+1)];refine ⟨⟨⟨AZ,AZ⟩,h2,h3,h4,λj j0 j1=>?_,h6⟩,by simp only [eQ];omega⟩
   simp only;rw [h5 j j0 j1]
   by_cases e:j=s.i
   ·subst e
    grind
   ·by_cases q:j<s.i
    ·omega
    ·omega
 ·have c1:s.k<=s.i:=AX
  exact xX
def Qt:AT Oz:=⟨0,53,[0,4,18,19,20],[],λs=>[xQ 9 [s.cs,s.os,s.ks,s.gs,s.bs,s.l,s.d,s.t,.xl A7 s.od],.os 0 1 0<|M s.wanted,s.m,s.k,s.i],λs=>[bV 3 A7 s.wanted],λv b=>⟨Ap Ad<|BT (v.getD 0 .junk) 0,Ap .str<|BT (v.getD 0 .junk) 1,Ap Ai<|BT (v.getD 0 .junk) 2,Ap Ae<|BT (v.getD 0 .junk) 3,Ap Aj<|BT (v.getD 0 .junk) 4,Ap AQ<|BT (v.getD 0 .junk) 5,Ap Au<|BT (v.getD 0 .junk) 6,gI<|BT (v.getD 0 .junk) 7,Ap A7<|BT (v.getD 0 .junk) 8,B5 Ae v 2,AK v 3,AK v 4,Ab A7 b 0⟩,fi,λs r=> {s with i:=r.i,wanted:=r.wanted},λs=>s,λ_ s=>s,[.exit 0],iP,Y5,eQ⟩
abbrev aBu:=Qt.run
abbrev asu:=Qt.Av
def awm:Rq Y5 fi:=by
 intro s hI;refine ⟨λc1=>⟨?_,?_,λc2=>⟨?_,?_,?_,ak⟩,λc2=>⟨A9,ak⟩⟩,λc1=>⟨A9,ak⟩⟩
 all_goals ((obtain ⟨⟨h0,h1⟩,h2,h3,h4,h5,h6⟩:=hI;(try simp only [Ac] at c1);first|omega|exact ⟨rfl,AI⟩ |(omega)))
def zr:List Bd:=[av6,aJe]
def aQZ:Qt.Ok:={}
def aP1:Qt.Pf (aAi):=⟨alg,λs h=>rfl,ah1,awm⟩
def aqG:SA 0 aFk Qt:=s1 aQZ aP1 zr kN
def asR:Fi iP Y5 aAi asu aBu:=AT.fin aQZ aP1
def aIV:List LV->T LV
 | [.xq 9 q0]=>(match ([q0 0,q0 1,q0 2,q0 3,q0 4,q0 5,q0 6,q0 7,q0 8]:List LV) with
  | [.xl (.pair .str (.pair (.int J) (.pair (.int J) (.pair (.int J) (.pair (.pair (.int J) (.int J)) (.pair (.int J) (.pair (.int J) (.pair (.int J) (.pair (.int J) (.int J)))))))))) cs,.xl (.str) os,.xl (.pair .str (.pair (.int J) (.pair (.int J) (.int J)))) ks,.xl (.pair .str (.pair (.int J) (.pair (.int J) (.pair (.int J) (.pair (.int J) (.pair (.int J) (.pair (.int J) (.int J)))))))) gs,.xl (.pair .str (.int J)) bs,.xl (.pair (.int J) (.pair (.int J) (.pair (.int J) (.pair (.int J) (.int J))))) l,.xl (.pair .bool (.pair (.int J) (.pair (.int J) (.int J)))) d,.v (Y J t),.xl (.int J) od]=> .req ((M gs:Int)<=1000/\M d=M gs) (.ok<|.AO [.xl A7<|Fk cs os ks gs bs (Bv gs) (J0 gs d) od,shE cs os ks gs bs (Bv gs) (J0 gs d) od])
  |_=> .no)
 |_=> .no
def aql (cs:List Cd) (os:List ByteArray) (ks:List Ko) (gs:List Ch) (bs:List Ba) (l:List Le) (d:List Dm) (t:Int) (od:List Int):letI b:=(M gs:Int);letI c:=(aq b.toNat (0:Int));letI a:=(aBu (⟨cs,os,ks,gs,bs,l,d,t,od,gs,b,(0:Int),c⟩:Oz));letI e:=(a.wanted.drop 0).take<|M a.wanted;Bi prog AV (zr) kN (λi=>if i=3 then Qt.lp else Al i) f156 [xQ 9 [cs,os,ks,gs,bs,l,d,t,.xl A7 od]]=.rm 8 b (.re b.toNat c<|.req (Qt.q (⟨cs,os,ks,gs,bs,l,d,t,od,gs,b,(0:Int),c⟩:Oz))<|.req (b<=1000)<|.rz a.wanted<|.ok<|.AO [.xl A7<|Fk cs os ks gs bs (Bv gs) e od,shE cs os ks gs bs (Bv gs) e od]):=AU
def av2:=vm (S:=aIV) func156 zr kN (L:=(λi=>if i=3 then Qt.lp else Al i)) (λb hb=>by
 rw [show BD _=[aFk] by kernel_rfl] at hb
 simp only [B7,Bt,Bu] at hb;subst hb;exact aqG) (λargs lv h=>by
 refine ⟨?_⟩;unfold aIV at h;split at h
 ·split at h
  case h_2=>cases h
  rename_i heq0;simp only [canL,canX];rw [Dn (n:=9) heq0];simp only [canL,canX];rw [aql];rename_i cs os ks gs bs l d t od;obtain ⟨⟨hn,hd⟩,rfl⟩:=h
  have hE:iP ⟨cs,os,ks,gs,bs,l,d,t,od,gs,(M gs:Int),0,aq (M gs:Int).toNat 0⟩:=⟨rfl,rfl,hn,AI,λj _ _=>Nd,hd⟩
  obtain ⟨_,_,q1,q2⟩:=asR _ hE
  have q2:(aBu ⟨cs,os,ks,gs,bs,l,d,t,od,gs,(M gs:Int),0,aq (M gs:Int).toNat 0⟩).wanted=J0 gs d:=q2
  refine ⟨A0,⟨rfl,AI⟩,⟨hE,rfl,rfl⟩,hn,A0,?_⟩
  show LV.AO [LV.xl _ _,_]=_
  rw [CP,EN,q2]
 ·cases h)
structure Ow where
 m:List Ch
 (k i:Int)
 out:List Int
def vA (s:Ow):T (Rd Ow):=letI a:=s.out.set s.i.toNat (AG s.m s.i).2.2.2.2.2.2.1;.br (an<|s.i<s.k) (.ix s.i (M s.m)<|.ik s.i (M s.out)<|.re (M s.out) a<|.nx {s with i:=AA<|s.i+1,out:=a})<|.rl s.out<|.so (.exit 0) s
def ja (s:Ow):Prop:=s.i=0/\s.k=(M s.m:Int)/\s.k<=1000/\M s.out=M s.m/\(∀j,0<=j->j<s.k->gi s.out j=0)/\True
def Y7 (s:Ow):Prop:=(0<=s.i/\s.i<=s.k)/\s.k=(M s.m:Int)/\s.k<=1000/\M s.out=M s.m/\(∀j,0<=j->j<s.k->gi s.out j=if j<s.i then CO (AG s.m j) else 0)/\True
def tC (s:Ow):Nat:=(s.k-s.i).toNat
def aAF (x:Ex) (s s':Ow):Prop:=x=.exit 0/\s'.out=H7 (M s'.m) (λj=>CO<|AG s'.m j)
theorem aln:∀s,ja s->Y7 s:=by
 exact Sk
theorem ah8:Da Y7 tC aAF vA:=by
 intro s hI;obtain ⟨⟨h0,h1⟩,h2,h3,h4,h5,h6⟩:=hI;refine AH (λc1=>?_) λc1=>?_
 ·have c1:s.i<s.k:=AX
  rw [AJ (x:=s.i+1)];refine ⟨⟨⟨A8,A8⟩,h2,h3,A8,λj j0 j1=>?_,h6⟩,by simp only [tC];omega⟩
  simp only;rw [JW h0 aE j0];exact kZ
 ·exact Zh
def Z5:AT Ow:=⟨0,31,[3,17,18,19],[],λs=>[.os 0 1 0<|M s.out,s.m,s.k,s.i],λs=>[bV 3 A7 s.out],λv b=>⟨B5 Ae v 1,AK v 2,AK v 3,Ab A7 b 0⟩,vA,λs r=> {r with m:=s.m,k:=s.k},λs=>s,λ_ s=>s,[.exit 0],ja,Y7,tC⟩
abbrev bY:=Z5.run
abbrev at1:=Z5.Av
def Qf:List Bd:=[QW,av2,aJe]
def akz:Ay:=kI Qf<|l0 Qf
def awH:Rq Y7 vA:=by
 exact xZ
def aQ1:Z5.Ok:={}
def aOY:Z5.Pf (aAF):=⟨aln,λs h=>rfl,ah8,awH⟩
def aqJ:=s2 (b:=bN f157 0) aQ1 aOY Qf akz
def asY:Fi ja Y7 aAF at1 bY:=AT.fin aQ1 aOY
structure P0 where
 cs:List Cd
 os:List ByteArray
 ks:List Ko
 gs:List Ch
 bs:List Ba
 l:List Le
 d:List Dm
 t:Int
 (od targets m:List Int)
 (k i:Int)
 alive:List Int
def aFl:=bN f119 0
def v8 (s:P0):T (Rd P0):=letI b:=s.alive.getD s.i.toNat<|Ty.dflt A7;letI c:=M s.alive;letI a:=s.alive.set s.i.toNat (if b<(gi s.m s.i) then (gi s.m s.i) else b);.br (an<|s.i<s.k) (.ix s.i (M s.m)<|.ik s.i c<|.ik s.i c<|.re c a<|.nx {s with i:=AA<|s.i+1,alive:=a})<|.rl s.alive<|.so (.exit 0) s
def iS (s:P0):Prop:=s.i=0/\s.k=(M s.m:Int)/\s.k<=1000/\M s.alive=M s.m/\(∀j,0<=j->j<s.k->gi s.alive j=CO (AG s.gs j))/\True
def Y6 (s:P0):Prop:=(0<=s.i/\s.i<=s.k)/\s.k=(M s.m:Int)/\s.k<=1000/\M s.alive=M s.m/\(∀j,0<=j->j<s.k->gi s.alive j=if j<s.i then mx (CO<|AG s.gs j) (gi s.m j) else CO (AG s.gs j))/\True
def tA (s:P0):Nat:=(s.k-s.i).toNat
def aAj (x:Ex) (s s':P0):Prop:=x=.exit 0/\s'.alive=H7 (M s'.m) (λj=>mx (CO<|AG s'.gs j)<|gi s'.m j)
theorem alj:∀s,iS s->Y6 s:=by
 exact Sk
theorem ah5:Da Y6 tA aAj v8:=by
 intro s hI;obtain ⟨⟨h0,h1⟩,h2,h3,h4,h5,h6⟩:=hI;refine AH (λc1=>?_) λc1=>?_
 ·have c1:s.i<s.k:=AX
  rw [AJ (x:=s.i+1)];refine ⟨⟨⟨A8,A8⟩,h2,h3,A8,λj j0 j1=>?_,h6⟩,by simp only [tA];omega⟩
  simp only
  have hi:=h5 s.i h0 c1
  rw [AE (show ¬s.i<s.i by omega)] at hi
  rw [JW h0 aE j0]
  by_cases e:j=s.i
  ·subst e
   rw [AD rfl,AD (show s.i<s.i+1 by omega)]
   show mx (gi s.alive s.i) (gi s.m s.i)=_
   rw [hi]
  ·exact xu
 ·have c1:s.k<=s.i:=AX
  exact xX
def Qu:AT P0:=⟨0,71,[0,4,7,41,42,43],[],λs=>[xQ 9 [s.cs,s.os,s.ks,s.gs,s.bs,s.l,s.d,s.t,.xl A7 s.od],.xl A7 s.targets,.os 0 1 0<|M s.alive,.xl A7 s.m,s.k,s.i],λs=>[bV 3 A7 s.alive],λv b=>⟨Ap Ad<|BT (v.getD 0 .junk) 0,Ap .str<|BT (v.getD 0 .junk) 1,Ap Ai<|BT (v.getD 0 .junk) 2,Ap Ae<|BT (v.getD 0 .junk) 3,Ap Aj<|BT (v.getD 0 .junk) 4,Ap AQ<|BT (v.getD 0 .junk) 5,Ap Au<|BT (v.getD 0 .junk) 6,gI<|BT (v.getD 0 .junk) 7,Ap A7<|BT (v.getD 0 .junk) 8,B5 A7 v 1,B5 A7 v 3,AK v 4,AK v 5,Ab A7 b 0⟩,v8,λs r=> {s with i:=r.i,alive:=r.alive},λs=>s,λ_ s=>s,[.exit 0],iS,Y6,tA⟩
abbrev aBv:=Qu.run
abbrev asz:=Qu.Av
def awF:Rq Y6 v8:=by
 intro s hI;refine ⟨λc1=>⟨?_,?_,?_,?_,?_,?_,ak⟩,λc1=>⟨A9,ak⟩⟩
 all_goals ((obtain ⟨⟨h0,h1⟩,h2,h3,h4,h5,h6⟩:=hI;(try simp only [Ac] at c1);first|omega|exact ⟨rfl,AI⟩ |(omega)))
def zS:Ay:=kI Qf<|la 3 func157 aqJ<|l0 Qf
def aQc:Qu.Ok:={}
def aOW:Qu.Pf (aAj):=⟨alj,λs h=>rfl,ah5,awF⟩
def aqH:SA 0 aFl Qu:=s1 aQc aOW Qf zS
def asW:Fi iS Y6 aAj asz aBv:=AT.fin aQc aOW
def aIW:List LV->T LV
 | [.xq 9 q0]=>(match ([q0 0,q0 1,q0 2,q0 3,q0 4,q0 5,q0 6,q0 7,q0 8]:List LV) with
  | [.xl (.pair .str (.pair (.int J) (.pair (.int J) (.pair (.int J) (.pair (.pair (.int J) (.int J)) (.pair (.int J) (.pair (.int J) (.pair (.int J) (.pair (.int J) (.int J)))))))))) cs,.xl (.str) os,.xl (.pair .str (.pair (.int J) (.pair (.int J) (.int J)))) ks,.xl (.pair .str (.pair (.int J) (.pair (.int J) (.pair (.int J) (.pair (.int J) (.pair (.int J) (.pair (.int J) (.int J)))))))) gs,.xl (.pair .str (.int J)) bs,.xl (.pair (.int J) (.pair (.int J) (.pair (.int J) (.pair (.int J) (.int J))))) l,.xl (.pair .bool (.pair (.int J) (.pair (.int J) (.int J)))) d,.v (Y J t),.xl (.int J) od]=> .req (M d=M gs/\G7 cs os ks gs bs (Bv gs) (J0 gs d) od=U/\Kd l (M gs:Int) t=U/\G7 cs os ks gs bs (Hp gs l t) (Fk cs os ks gs bs (Bv gs) (J0 gs d) od) od=U) (.ok<|.AO [.xl A7<|ofO cs os ks gs bs l d t od,(0:Int)])
  |_=> .no)
 |_=> .no
def aqm (cs:List Cd) (os:List ByteArray) (ks:List Ko) (gs:List Ch) (bs:List Ba) (l:List Le) (d:List Dm) (t:Int) (od:List Int):letI b:=(M gs:Int);letI c:=(aq b.toNat (0:Int));letI e:=Fk cs os ks gs bs (Bv gs) (J0 gs d) od;letI f:=(bY (⟨gs,b,(0:Int),c⟩:Ow));letI h:=shE cs os ks gs bs (Bv gs) (J0 gs d) od;letI j:=(M (Eo l b t):Int);letI a:=(aBv (⟨cs,os,ks,gs,bs,l,d,t,od,e,Eo l b t,j,(0:Int),f.out⟩:P0));letI g:=(a.alive.drop 0).take<|M a.alive;Bi prog AV Qf zS (λi=>if i=9 then Qu.lp else Al i) f119 [xQ 9 [cs,os,ks,gs,bs,l,d,t,.xl A7 od]]=.req (b<=1000/\M d=M gs) (.br (h !=0) (.ok<|.AO [.xl A7 ([]:List Int),h])<|.br ((Hq l b t) !=0) (.ok<|.AO [.xl A7 ([]:List Int),Hq l b t])<|.rm 8 b<|.re b.toNat c<|.req (Z5.q (⟨gs,b,(0:Int),c⟩:Ow))<|.rl f.out<|.req (Qu.q (⟨cs,os,ks,gs,bs,l,d,t,od,e,Eo l b t,j,(0:Int),f.out⟩:P0))<|.rz a.alive<|.ok<|.AO [.xl A7<|Fk cs os ks gs bs g e od,shE cs os ks gs bs g e od]):=AU
def av3:=vm (S:=aIW) func119 Qf zS (L:=(λi=>if i=9 then Qu.lp else Al i)) (λb hb=>by
 rw [show BD _=[aFl] by kernel_rfl] at hb
 simp only [B7,Bt,Bu] at hb;subst hb;exact aqH) (λargs lv h=>by
 refine ⟨?_⟩;unfold aIW at h;split at h
 ·split at h
  case h_2=>cases h
  rename_i heq0;simp only [canL,canX];rw [Dn (n:=9) heq0];simp only [canL,canX];rw [aqm];rename_i cs os ks gs bs l d t od;obtain ⟨⟨hd,hk,hv,hk2⟩,rfl⟩:=h
  have gl:=(DF.1 (L9.1 hk).1).1.2.2.2.2.1
  have ea:Eo l (M gs:Int) t=J9 (M gs) l t:=by unfold Eo;rw [AD hv,By]
  rw [aa9 hk,show Hq l (M gs:Int) t=0 by unfold Hq;rw [AD hv]]
  refine ⟨⟨A0,hd⟩,λc=>absurd c Aa,λ_=>⟨λc=>absurd c Aa,λ_=>?_⟩⟩
  have hE:ja ⟨gs,(M gs:Int),0,aq (M gs:Int).toNat 0⟩:=⟨rfl,rfl,AZ,AI,λj _ _=>Nd,ak⟩
  obtain ⟨_,_,q1,q2⟩:=asY _ hE
  have q2:(bY ⟨gs,(M gs:Int),0,aq (M gs:Int).toNat 0⟩).out=Bv gs:=q2
  have hE2:iS ⟨cs,os,ks,gs,bs,l,d,t,od,Fk cs os ks gs bs (Bv gs) (J0 gs d) od,Eo l (M gs:Int) t,(M (Eo l (M gs:Int) t):Int),0,(bY ⟨gs,(M gs:Int),0,aq (M gs:Int).toNat 0⟩).out⟩:=⟨rfl,rfl,by simp only;rw [ea,T9];omega,by simp only;rw [q2,ea,T9];exact K0,λj j0 j1=>by
   simp only at j1|-;rw [ea,T9] at j1;rw [q2];exact Sq j0 j1,ak⟩
  obtain ⟨_,_,q3,q4⟩:=asW _ hE2
  have q4:(aBv ⟨cs,os,ks,gs,bs,l,d,t,od,Fk cs os ks gs bs (Bv gs) (J0 gs d) od,Eo l (M gs:Int) t,(M (Eo l (M gs:Int) t):Int),0,(bY ⟨gs,(M gs:Int),0,aq (M gs:Int).toNat 0⟩).out⟩).alive=Hp gs l t:=q4.trans (by
   show H7 (M<|Eo l (M gs:Int) t) (λj=>mx (CO<|AG gs j)<|gi (Eo l (M gs:Int) t) j)=_
   rw [ea,T9];rfl)
  refine ⟨A0,⟨rfl,AI⟩,⟨hE,rfl,rfl⟩,A9,⟨hE2,rfl,rfl⟩,A0,?_⟩
  show LV.AO [LV.xl _ _,_]=_
  rw [CP,EN,q4,aa9 hk2];rfl
 ·cases h)
def z9:Array Tmp×Code×Code:=((It<|f121.body.getD .skip)[0]?).getD (#[],.skip,.skip)
def ajA:Array Tmp:=z9.1
def ak4:Code:=z9.2.1
def aie:Code:=z9.2.2
structure Ml where
 i:Int
 cs:List Cd
 os:List ByteArray
 ks:List Ko
 gs:List Ch
 bs:List Ba
 l:List Le
 d:List Dm
 t:Int
 od:List Int
 (c a:Int)
 r:Bool
 m:List Le
 st:LS
def v9 (s:Ml):T (Rd Ml):=
 .br (an<|s.i>=0) (.ix s.i (M s.m)<|.br ((An s.m s.i).2.1==s.c) (.so (.ret) {s with r:=(((An s.m s.i).2.2.1 !=s.a) ||(an<|(An s.m s.i).2.2.2.1<=(AA<|s.t-6))),st:=.done<|.ret})<|.nx {s with i:=AA<|s.i-1}) (.so (.exit 0) s)
def iT (s:Ml):Prop:=s.st=.ready/\s.i=(M s.m:Int)-1/\(M s.m:Int)<=1000/\0<=s.t/\s.t<=1000000
def jJ (s:Ml):Prop:=s.st=.ready/\(-1<=s.i/\s.i<(M s.m:Int))/\(M s.m:Int)<=1000/\0<=s.t/\s.t<=1000000
def tB (s:Ml):Nat:=(s.i+1).toNat
def acX (x:Ex) (s s':Ml):Prop:=True
def alm:∀s,iT s->jJ s:=by
 rintro s ⟨h0,h1,h2⟩
 exact ⟨h0,A0,h2⟩
theorem ah6:Da jJ tB acX v9:=by
 intro s hI;obtain ⟨hs,⟨h0,h1⟩,h2⟩:=hI;refine AH (λc1=>AH (λc2=>trivial) λc2=>?_) λc1=>trivial
 have c1:0<=s.i:=A8
 rw [AJ (x:=s.i-1)];exact ⟨⟨hs,⟨A8,A8⟩,h2⟩,by simp only [tB];omega⟩
def Z4:AT Ml:=⟨6,19,[0,1,3],[],λs=>[.CK 5,.own 4 0,s.i],λs=>[⟨[xQ 9 [s.cs,s.os,s.ks,s.gs,s.bs,s.l,s.d,s.t,.xl A7 s.od]],230,.cl,X⟩,⟨[s.c],3,.cl,X⟩,⟨[s.a],3,.cl,X⟩,⟨[s.r],4,.cl,X⟩,⟨[s.m],33,.cl,X⟩,⟨[.junk,.junk,.junk,.own 0 0,.own 1 0,.own 2 0,.own 3 0,.junk,.v<|.tuple #[],.junk,.junk,.junk,.junk,.junk,.junk,.junk,.junk,.junk,.junk,.junk,.junk,.junk,.junk,.junk,.junk,.junk,.v<|.tuple #[],.v<|.tuple #[],.v<|.tuple #[],.v<|.tuple #[],.v<|.tuple #[],.v<|.tuple #[],.v<|.tuple #[],.v<|.tuple #[],.v<|.tuple #[],.v<|.tuple #[],.v<|.tuple #[],.v<|.tuple #[],.v<|.tuple #[],.v<|.tuple #[],.v<|.tuple #[],.v<|.tuple #[],.v<|.tuple #[],.v<|.tuple #[],.v<|.tuple #[]],0,.Cc ajA ak4 aie s.st,X⟩],λv b=>⟨AK v 2,Ap Ad<|BT (B9 (CS b 0) 0) 0,Ap .str<|BT (B9 (CS b 0) 0) 1,Ap Ai<|BT (B9 (CS b 0) 0) 2,Ap Ae<|BT (B9 (CS b 0) 0) 3,Ap Aj<|BT (B9 (CS b 0) 0) 4,Ap AQ<|BT (B9 (CS b 0) 0) 5,Ap Au<|BT (B9 (CS b 0) 0) 6,gI<|BT (B9 (CS b 0) 0) 7,Ap A7<|BT (B9 (CS b 0) 0) 8,Ak b 1 0,Ak b 2 0,Kk b 3 0,AF AQ b 4 0,.ready⟩,v9,λs r=> {r with cs:=s.cs,os:=s.os,ks:=s.ks,gs:=s.gs,bs:=s.bs,l:=s.l,d:=s.d,t:=s.t,od:=s.od,c:=s.c,a:=s.a,m:=s.m},λs=> {s with st:=.ready},λx s=> {s with st:=(match x with| .ret=>(.done<|.ret) | .exit 0=> .ready|_=> .ready)},[.ret,.exit 0],iT,jJ,tB⟩
abbrev aGt:=Z4.run
abbrev aI9:=Z4.Av
def R8:List Bd:=[]
def aky:Ay:=kI R8<|l0 R8
def awG:Rq jJ v9:=by
 intro s hI;refine ⟨λc1=>⟨?_,λ_=>trivial,λ_=>trivial⟩,λ_=>trivial⟩
 ·(obtain ⟨hs,⟨h0,h1⟩,h2⟩:=hI;simp only [Ac] at c1;omega)
def aQ0:Z4.Ok:={}
def aOX:Z4.Pf (acX):=⟨alm,λs h=>by
 obtain ⟨i,cs,os,ks,gs,bs,l,d,t,od,c,a,r,m,st⟩:=s
 have e:=h.1
 subst e;rfl,ah6,awG⟩
def aqI:=s2 (b:=bN f194 0) aQ0 aOX R8 aky
theorem asX:Rs iT aI9 aGt (λs:Ml=>nwO s.a s.t<|(s.m.take (s.i+1).toNat).reverse.find? λx=>x.2.1==s.c) (λx s' (v:Bool)=>(x=.ret/\s'.r=v)\/(x=.exit 0/\v=U)):=DJ aQ0 aOX (λs hI=>by
  obtain ⟨hs,⟨h0,h1⟩,h2⟩:=hI;refine AH (λc1=>?_) λc1=>?_
  ·have c1:0<=s.i:=A8
   have e:=(W9 c1 (show s.i<(M s.m:Int) by omega)).2
   refine AH (λc2=> .inl ⟨rfl,?_⟩) λc2=>?_
   ·rw [e,List.reverse_append]
    show _=nwO s.a s.t (List.find? _ (An s.m s.i::_))
    rw [List.find?_cons_of_pos<|by exact c2]
    simp only [nwO];rw [AJ (x:=s.t-6)]
   ·show nwO _ _ _=nwO _ _ _
    rw [AJ (x:=s.i-1),e,List.reverse_append]
    show _=nwO s.a s.t (List.find? _ (An s.m s.i::_))
    rw [List.find?_cons_of_neg A8,show (s.i-1+1).toNat=s.i.toNat by omega]
    rfl
  ·have c1:s.i<0:=A8
   refine .inr ⟨rfl,?_⟩;rw [show (s.i+1).toNat=0 by omega]
   rfl)
def aIX:List LV->T LV
 | [.xq 9 q0,.v (Y J i),.v (Y J a)]=>(match ([q0 0,q0 1,q0 2,q0 3,q0 4,q0 5,q0 6,q0 7,q0 8]:List LV) with
  | [.xl (.pair .str (.pair (.int J) (.pair (.int J) (.pair (.int J) (.pair (.pair (.int J) (.int J)) (.pair (.int J) (.pair (.int J) (.pair (.int J) (.pair (.int J) (.int J)))))))))) cs,.xl (.str) os,.xl (.pair .str (.pair (.int J) (.pair (.int J) (.int J)))) ks,.xl (.pair .str (.pair (.int J) (.pair (.int J) (.pair (.int J) (.pair (.int J) (.pair (.int J) (.pair (.int J) (.int J)))))))) gs,.xl (.pair .str (.int J)) bs,.xl (.pair (.int J) (.pair (.int J) (.pair (.int J) (.pair (.int J) (.int J))))) l,.xl (.pair .bool (.pair (.int J) (.pair (.int J) (.int J)))) d,.v (Y J t),.xl (.int J) od]=> .req ((0<=i/\i<(M gs:Int))/\(M l:Int)<=1000/\0<=t/\t<=1000000) (.ok<|nwB gs l t i a)
  |_=> .no)
 |_=> .no
def ab5:Ay:=kI R8<|la 1 func194 aqI<|l0 R8
def aqn (cs:List Cd) (os:List ByteArray) (ks:List Ko) (gs:List Ch) (bs:List Ba) (l:List Le) (d:List Dm) (t:Int) (od:List Int) (i a:Int):letI b:=(AA<|(M l:Int)-1);Bi prog AV (R8) ab5 Al f121 [xQ 9 [cs,os,ks,gs,bs,l,d,t,.xl A7 od],i,a]=.ix i (M gs) (.br (an<|a<=(AG gs i).2.2.2.2.2.2.1) (.ok X)<|.req (Z4.q (⟨b,cs,os,ks,gs,bs,l,d,t,od,i,a,X,l,.ready⟩:Ml))<|.br (Bs (aI9 (⟨b,cs,os,ks,gs,bs,l,d,t,od,i,a,X,l,.ready⟩:Ml))<|.ret) (.ok (aGt (⟨b,cs,os,ks,gs,bs,l,d,t,od,i,a,X,l,.ready⟩:Ml)).r)<|.ok U):=AU
def av4:=vo (S:=aIX) func121 R8 ab5 (λargs lv h=>by
 refine ⟨?_⟩;unfold aIX at h;split at h
 ·split at h
  case h_2=>cases h
  rename_i heq0;simp only [canL,canX];rw [Dn (n:=9) heq0];simp only [canL,canX];rw [aqn];rename_i i a _ cs os ks gs bs l d t od;obtain ⟨⟨hi,hl,ht⟩,rfl⟩:=h;refine ⟨hi,λc=>B0 (λz=>LV.v<|.bool z) ?_,λc=>?_⟩
  ·have c:a<=CO (AG gs i):=Cx c
   unfold nwB;rw [Cm c];rfl
  have c:¬a<=CO (AG gs i):=Jw c
  have hE:iT ⟨AA<|(M l:Int)-1,cs,os,ks,gs,bs,l,d,t,od,i,a,X,l,.ready⟩:=⟨rfl,by show AA ((M l:Int)-1)=_;rw [AJ],hl,ht⟩
  have ev:nwB gs l t i a=nwO a t ((l.take (AA ((M l:Int)-1)+1).toNat).reverse.find? λx=>x.2.1==i):=by
   unfold nwB;rw [I8 c,AJ (x:=(M l:Int)-1),show ((M l:Int)-1+1).toNat=M l by omega,EN]
   rfl
  refine ⟨⟨hE,rfl,rfl⟩,?_⟩;rcases asX _ hE with ⟨q1,q2⟩ |⟨q1,q2⟩<;>rw [q1]
  ·exact ⟨λ_=>B0 (λz=>LV.v<|.bool z)<|q2.trans ev.symm,λh=>Ao⟩
  ·exact ⟨λh=>Ao,λ_=>B0 (λz=>LV.v<|.bool z)<|q2.symm.trans ev.symm⟩
 ·cases h)
def aFS:List LV->T LV
 | [.v (Y J x)]=> .ok X
 |_=> .no
def XQ:List Bd:=[]
def ap3:=vo (S:=aFS) func183 XQ kN (λargs lv h=>by
 unfold aFS at h;split at h
 ·rename_i x
  refine Aq (.ok<|.v<|.bool<|x !=x) ?_;obtain rfl:=h;exact B0 (λz=>LV.v<|.bool z) AI
 ·cases h)
def aJ3:List LV->T LV
 | [.v (Y J x),.v (Y J y)]=> .ok (cm x y)
 |_=> .no
def akP:List Bd:=[ap3]
def avC:=vo (S:=aJ3) func151 akP kN (λargs lv h=>by
 unfold aJ3 at h;split at h
 ·rename_i x y
  refine Aq (.br X (.br X (.ok (0:Int))<|.ok<|.v<|Y J (-1))<|.br X (.ok (1:Int))<|.br (an<|x<y) (.ok<|.v<|Y J (-1))<|.br (an<|x>y) (.ok (1:Int))<|.ok (0:Int)) ?_;obtain rfl:=h;unfold cm;refine ⟨λh=>Ao,λ_=>⟨λh=>Ao,λ_=>⟨λc=>?_,λc=>⟨λc2=>?_,λc2=>?_⟩⟩⟩⟩<;>refine B0 (λz=>LV.v<|Y J z) ?_
  ·grind
  ·grind
  ·grind
 ·cases h)
structure Mw where
 (r z:Int)
 l:List Int
 (n i:Int)
def aFo:=bN f150 0
def zE (s:Mw):T (Rd Mw):=
 .br (an<|s.i<s.n) (.ix s.i (M s.l)<|.br ((gi s.l s.i) !=s.z) (.so (.ret) {s with r:=gi s.l s.i})<|.nx {s with i:=AA<|s.i+1}) (.so (.exit 0) s)
def je (s:Mw):Prop:=s.i=0/\s.n=(M s.l:Int)/\s.n<=1000/\s.z=0
def jK (s:Mw):Prop:=(0<=s.i/\s.i<=s.n)/\s.n=(M s.l:Int)/\s.n<=1000/\s.z=0
def tG (s:Mw):Nat:=(s.n-s.i).toNat
def acY (x:Ex) (s s':Mw):Prop:=True
def aly:∀s,je s->jK s:=by
 exact aMN
theorem ag7:Da jK tG acY zE:=by
 intro s hI;obtain ⟨⟨h0,h1⟩,h2,h3,h4⟩:=hI;refine AH (λc1=>?_) λc1=>?_
 ·refine AH (λc2=>?_) (λc2=>?_)
  ·exact ak
  ·have c1:s.i<s.n:=A8
   rw [AJ (x:=s.i+1)];exact ⟨⟨⟨A8,A8⟩,h2,h3,h4⟩,by simp only [tG];omega⟩
 ·exact ak
def Rf:AT Mw:=⟨0,18,[2,3,6,7,8],[],λs=>[s.r,s.z,.xl A7 s.l,s.n,s.i],λ_=>[],λv b=>⟨AK v 0,AK v 1,B5 A7 v 2,AK v 3,AK v 4⟩,zE,λs r=> {s with r:=r.r,i:=r.i},λs=>s,λ_ s=>s,[.ret,.exit 0],je,jK,tG⟩
abbrev aGv:=Rf.run
abbrev aIH:=Rf.Av
def awM:Rq jK zE:=by
 intro s hI;refine ⟨λc1=>⟨?_,λ_=>trivial,λ_=>trivial⟩,λ_=>trivial⟩
 ·(obtain ⟨⟨h0,h1⟩,h2,h3⟩:=hI;simp only [Ac] at c1;omega)
def aQ5:Rf.Ok:={}
def aOc:Rf.Pf (acY):=⟨aly,λs h=>rfl,ag7,awM⟩
def apb:SA 0 aFo Rf:=s1 aQ5 aOc XQ kN
theorem asE:Rs je aIH aGv (λs:Mw=>orI<|s.l.drop s.i.toNat) (λx s' (v:Int)=>(x=.ret/\s'.r=v)\/(x=.exit 0/\s'.z=v)):=DJ aQ5 aOc (λs hI=>by
  obtain ⟨⟨h0,h1⟩,h2,h3,h4⟩:=hI;refine AH (λc1=>?_) λc1=>?_
  ·have c1:s.i<s.n:=A8
   have e:=(gi_step h0 (show s.i<(M s.l:Int) by omega)).1
   rw [AJ (x:=s.i+1)];refine AH (λc2=>?_) λc2=>?_
   ·refine .inl ⟨rfl,?_⟩
    rw [e,orI,AD A8]
   ·show orI _=orI _
    rw [e,orI,AE A8]
  ·have c1:s.n<=s.i:=A8
   refine .inr ⟨rfl,?_⟩;rw [El A0,h4];rfl)
def aJ4:List LV->T LV
 | [.xl (.int J) l]=> .req ((M l:Int)<=1000) (.ok<|orI l)
 |_=> .no
def avD:=vm (S:=aJ4) func150 XQ kN (L:=(λi=>if i=3 then Rf.lp else Al i)) (λb hb=>by
 rw [show BD _=[aFo] by kernel_rfl] at hb
 simp only [B7,Bt,Bu] at hb;subst hb;exact apb) (λargs lv h=>by
 unfold aJ4 at h;split at h
 ·rename_i l
  refine Aq (letI a:=(M l:Int);.req (Rf.q (⟨0,0,l,a,0⟩:Mw))<|.br (Bs (aIH (⟨0,0,l,a,0⟩:Mw))<|.ret) (.ok (aGv (⟨0,0,l,a,0⟩:Mw)).r)<|.ok (0:Int)) ?_;obtain ⟨hl,rfl⟩:=h
  have hE:je ⟨0,0,l,(M l:Int),0⟩:=⟨rfl,rfl,hl,rfl⟩
  refine ⟨⟨hE,rfl,rfl⟩,?_⟩;rcases asE _ hE with ⟨q1,q2⟩ |⟨q1,q2⟩<;>rw [q1]
  ·exact ⟨λ_=>B0 (λz=>LV.v<|Y J z) q2,λh=>Ao⟩
  ·exact ⟨λh=>Ao,λ_=>B0 (λz=>LV.v<|Y J z) q2⟩
 ·cases h)
def aHM:List LV->T LV
 | [.v (Y J i),.xq 1 q0,.xq 1 q1]=>(match ([q0 0]:List LV) with
  | [.xl (.pair .bool (.pair (.int J) (.pair (.int J) (.int J)))) d]=>(match ([q1 0]:List LV) with
  | [.v (Y J t)]=> .req (IQ d t/\0<=i/\i<(M d:Int)) (.ok<|slk d t i)
  |_=> .no)
  |_=> .no)
 |_=> .no
def aqf (i:Int) (d:List Dm) (t:Int):Bi prog AV (XQ) kN Al f147 [i,xQ 1 [d],xQ 1 [t]]=.ix i (M d) (.ix i (M d)<|.ok<|AA<|(AA<|(Dq d i).2.2.1-t)-(Dq d i).2.1):=AU
def qi:=vo (S:=aHM) func147 XQ kN (λargs lv h=>by
 refine ⟨?_⟩;unfold aHM at h;split at h
 ·split at h
  case h_2=>cases h
  rename_i heq0;split at h
  case h_2=>cases h
  rename_i heq1;simp only [canL,canX];rw [Dn (n:=1) heq0];rw [Dn (n:=1) heq1];simp only [canL,canX];rw [aqf];rename_i i _ _ _ d _ t;obtain ⟨⟨hw,hi⟩,rfl⟩:=h
  have b:=auA hw hi.1 hi.2
  have ht:=hw.2
  refine ⟨hi,hi,B0 (λz=>LV.v<|Y J z) ?_⟩
  unfold slk;rw [AJ (x:=(Dq d i).2.2.1-t),AJ]
 ·cases h)
def aSJ:List LV->T LV
 | [.v (Y J a),.v (Y J b),.xq 1 q0,.xq 1 q1]=>(match ([q0 0]:List LV) with
  | [.xl (.pair .bool (.pair (.int J) (.pair (.int J) (.int J)))) d]=>(match ([q1 0]:List LV) with
  | [.fn 147 [.xq 1 q2,.xq 1 q3]]=>(match ([q2 0]:List LV) with
  | [.xl (.pair .bool (.pair (.int J) (.pair (.int J) (.int J)))) e]=>(match ([q3 0]:List LV) with
  | [.v (Y J t)]=> .req (d=e/\IQ d t/\(0<=a/\a<(M d:Int))/\0<=b/\b<(M d:Int)) (.ok<|cmD d t a b)
  |_=> .no)
  |_=> .no)
  |_=> .no)
  |_=> .no)
 |_=> .no
def acB:List Bd:=[qi,avD,avC]
def ayw (a b:Int) (d e:List Dm) (t:Int):letI c:=cm (Dq d a).2.2.2 (Dq d b).2.2.2;letI f:=cm (slk e t a)<|slk e t b;Bi prog AV (acB) kN Al f149 [a,b,xQ 1 [d],xQ 1 [.fn 147 [xQ 1 [e],xQ 1 [t]]]]=.ix a (M d) (.ix b (M d)<|.req (IQ e t/\0<=a/\a<(M e:Int))<|.req (IQ e t/\0<=b/\b<(M e:Int))<|.req ((M ([c,f,cm a b]):Int)<=1000)<|.ok<|orI<|[c,f,cm a b]):=AU
def aTt:=vo (S:=aSJ) func149 acB kN (λargs lv h=>by
 refine ⟨?_⟩;unfold aSJ at h;split at h
 ·split at h
  case h_2=>cases h
  rename_i heq0;split at h
  case h_2=>cases h
  rename_i heq1;split at h
  case h_2=>cases h
  rename_i heq2;split at h
  case h_2=>cases h
  rename_i heq3;simp only [canL,canX];rw [Dn (n:=1) heq0];rw [Dn (n:=1) heq1];simp only [canL,canX];rw [Dn (n:=1) heq2];rw [Dn (n:=1) heq3];simp only [canL,canX];rw [ayw];rename_i a b _ d _ _ _ _ e _ t;obtain ⟨⟨rfl,hw,ha,hb⟩,rfl⟩:=h;exact ⟨ha,hb,⟨hw,ha⟩,⟨hw,hb⟩,AI,rfl⟩
 ·cases h)
structure PR where
 (n i:Int)
 d:List Dm
 tick:Int
 out:List Int
def aF4:=bN f117 0
def wC (s:PR):T (Rd PR):=letI a:=s.out.set s.i.toNat s.i;.br (an<|s.i<s.n) (.ik s.i (M s.out)<|.re (M s.out) a<|.nx {s with i:=AA<|s.i+1,out:=a})<|.rl s.out<|.so (.exit 0) s
def iY (s:PR):Prop:=s.i=0/\s.out=aq (M s.d) 0/\s.n=(M s.d:Int)/\s.n<=1000/\M s.out=M s.d
def YX (s:PR):Prop:=(0<=s.i/\s.i<=s.n)/\s.out=Fj s.i.toNat++aq (M s.d-s.i.toNat) 0/\s.n=(M s.d:Int)/\s.n<=1000/\M s.out=M s.d
def tV (s:PR):Nat:=(s.n-s.i).toNat
def aAM (x:Ex) (s s':PR):Prop:=x=.exit 0/\s'.out=Fj (M s'.d)
def akH:∀s,iY s->YX s:=by
 exact aLq
theorem axU:Da YX tV aAM wC:=by
 intro s hI;obtain ⟨⟨h0,h1⟩,h2,h3,h4,h5⟩:=hI;refine AH (λc1=>?_) λc1=>?_
 ·have c1:s.i<s.n:=AX
  rw [AJ (x:=s.i+1)]
  have e:M s.d-s.i.toNat=(M s.d-(s.i+1).toNat)+1:=A0
  refine ⟨⟨⟨A8,A8⟩,?_,h3,h4,A8⟩,by simp only [tV];omega⟩
  simp only
  have hs:=aGV (xs:=Fj s.i.toNat) (r:=M s.d-(s.i+1).toNat) (v:=s.i)
  rw [Om] at hs;rw [h2,e,hs,show (s.i+1).toNat=s.i.toNat+1 by omega,aDc,CM h0]
 ·have c1:s.n<=s.i:=AX
  refine ⟨rfl,?_⟩;rw [h2,show s.i.toNat=M s.d by omega]
  simp
def Rz:AT PR:=⟨0,26,[2,3,5,12,13],[],λs=>[.own 0 0,.own 1 0,.os 2 1 0<|M s.out,s.n,s.i],λs=>[⟨[s.d],44,.cl,X⟩,⟨[s.tick],3,.cl,X⟩,bV 3 A7 s.out],λv b=>⟨AK v 3,AK v 4,AF Au b 0 0,Ak b 1 0,Ab A7 b 2⟩,wC,λs r=> {s with i:=r.i,out:=r.out},λs=>s,λ_ s=>s,[.exit 0],iY,YX,tV⟩
abbrev MO:=Rz.run
abbrev ari:=Rz.Av
def ax2:Rq YX wC:=by
 intro s hI;refine ⟨λc1=>⟨?_,?_,?_,ak⟩,λc1=>⟨A9,ak⟩⟩
 all_goals ((obtain ⟨⟨h0,h1⟩,h2,h3,h4,h5⟩:=hI;simp only [Ac] at c1;first|omega|exact ⟨rfl,AI⟩))
def PF:List Bd:=[qi,aTt]
def gU:Ay:=kI PF<|l0 PF
def aPQ:Rz.Ok:={}
def aOe:Rz.Pf (aAM):=⟨akH,λs h=>rfl,axU,ax2⟩
def aoP:SA 0 aF4 Rz:=s1 aPQ aOe PF gU
def aqw:Fi iY YX aAM ari MO:=AT.fin aPQ aOe
structure Nj where
 (a b i j:Int)
 b0:List Dm
 b1:Int
 data:List Int
def aFf:=lN (bN f211 0) 0
def vS (s:Nj):T (Rd Nj):=letI c:=s.data.getD s.j.toNat<|Ty.dflt A7;letI d:=AA<|s.j-1;letI e:=M s.data;letI b:=s.data.getD d.toNat<|Ty.dflt A7;letI f:=s.data.set s.j.toNat b;.br (an<|s.j>s.a) (.ik s.j e<|.ik d e<|.req (s.b0=s.b0/\IQ s.b0 s.b1/\(0<=c/\c<(M s.b0:Int))/\0<=b/\b<(M s.b0:Int))<|.br (an<|(cmD s.b0 s.b1 c b)<0) (.ix d e<|.ix s.j e<|.req (d.toNat<M s.data)<|.req (s.j.toNat<M s.data)<|.ik s.j e<|.ix d e<|.req (d.toNat<M f)<|.re e (f.set d.toNat c)<|.nx {s with j:=d,data:=f.set d.toNat c})<|.rl s.data<|.so (.exit 2) s)<|.rl s.data<|.so (.exit 2) s
def iy (s:Nj):Prop:=s.a=0/\(0<=s.j/\s.j<(M s.data:Int))/\(M s.data=M s.b0/\(M s.data:Int)<=1000)/\(∀x∈s.data,0<=x/\x<(M s.b0:Int))/\IQ s.b0 s.b1
def jF (s:Nj):Prop:=s.a=0/\(0<=s.j/\s.j<(M s.data:Int))/\(M s.data=M s.b0/\(M s.data:Int)<=1000)/\(∀x∈s.data,0<=x/\x<(M s.b0:Int))/\IQ s.b0 s.b1
def sZ (s:Nj):Nat:=s.j.toNat
def acS (x:Ex) (s s':Nj):Prop:=x=.exit 2
def ajb:∀s,iy s->jF s:=by
 exact λs h=>h
theorem ayB:Da jF sZ acS vS:=by
 intro s hI;obtain ⟨h0,⟨h1,h2⟩,⟨h3,h3'⟩,h4,h5⟩:=hI;refine AH (λc1=>?_) λc1=>rfl
 have c1:s.a<s.j:=AX
 rw [AJ (x:=s.j-1)];refine AH (λc2=>?_) λc2=>rfl
 have g0:=λ(k:Nat) (hk:k<M s.data)=>h4 (s.data.getD k 0) G1
 have hm:∀x∈(s.data.set s.j.toNat<|s.data.getD (s.j-1).toNat 0).set (s.j-1).toNat (s.data.getD s.j.toNat 0),0<=x/\x<(M s.b0:Int):=λx hx=>by
  rcases OQ hx with hx|e
  ·rcases OQ hx with hx|e
   ·exact h4 x hx
   ·rw [e];exact g0 _ A0
  ·grind
 exact ⟨⟨h0,⟨AZ,A8⟩,⟨A8,A8⟩,hm,h5⟩,by simp only [sZ];omega⟩
def RY:AT Nj:=⟨4,53,[0,1,2,3,8,9],[],λs=>[.os 2 1 0<|M s.data,s.a,s.b,.fn 149 [.own 0 0,.own 3 0],s.i,s.j],λs=>[⟨[s.b0],44,.cl,X⟩,⟨[s.b1],3,.cl,X⟩,bV 3 A7 s.data,⟨[.fn 147 [.own 0 0,.own 1 0]],218,.cl,X⟩],λv b=>⟨AK v 1,AK v 2,AK v 4,AK v 5,AF Au b 0 0,Ak b 1 0,Ab A7 b 2⟩,vS,λs r=> {s with j:=r.j,data:=r.data},λs=>s,λ_ s=>s,[.exit 2],iy,jF,sZ⟩
abbrev oV:=RY.run
abbrev arL:=RY.Av
def awd:Rq jF vS:=by
 intro s hI;refine ⟨λc1=>⟨?_,?_,?_,?_,?_,λc2=>⟨?_,?_,?_,?_,?_,?_,?_,?_,?_,ak⟩,λc2=>⟨A9,ak⟩⟩,λc1=>⟨A9,ak⟩⟩
 all_goals ((obtain ⟨h0,⟨h1,h2⟩,⟨h3,h3'⟩,h4,h5⟩:=hI;simp only [Ac,gt_iff_lt] at c1;(try rw [AJ (x:=s.j-1)]);have g0:∀k:Nat,k<M s.data->0<=s.data.getD k (Ty.dflt A7)/\s.data.getD k (Ty.dflt A7)<(M s.b0:Int):=(λk hk=>h4 _ G1);first|omega|exact ⟨rfl,h5,g0 _ A0,g0 _ A0⟩ |(simp only [CH];omega) |exact ⟨rfl,AI⟩))
def aQQ:RY.Ok:={}
def aOs:RY.Pf (acS):=⟨ajb,λs h=>rfl,ayB,awd⟩
def aqB:SA 4 aFf RY:=s2 aQQ aOs PF gU
theorem aGp:Rs iy arL oV (λs:Nj=>Kl (ltD s.b0 s.b1) s.j.toNat s.data) (λx s' (v:List Int)=>x=.exit 2/\s'.data=v):=DJ aQQ aOs (λs hI=>by
  obtain ⟨h0,⟨h1,h2⟩,⟨h3,h3'⟩,h4,h5⟩:=hI;refine AH (λc1=>?_) λc1=>?_
  ·have c1:s.a<s.j:=A8
   rw [AJ (x:=s.j-1)]
   have e:s.j.toNat=(s.j-1).toNat+1:=A0
   refine AH (λc2=>?_) λc2=>?_
   ·show Kl _ _ _=Kl _ _ _
    rw [e,Kl,AD (by unfold ltD;rw [e] at c2;exact c2)]
    rfl
   ·refine ⟨rfl,?_⟩
    rw [e] at c2;rw [e,Kl,AE λhh=>absurd ((show U=_ from hh.symm).trans c2) Aa]
  ·have c1:s.j<=s.a:=A8
   refine ⟨rfl,?_⟩;rw [show s.j.toNat=0 by omega]
   rfl)
structure KN where
 (a b i:Int)
 b0:List Dm
 b1:Int
 data:List Int
def aFg:=bN f211 0
def vT (s:KN):T (Rd KN):=letI c:=(oV (⟨s.a,s.b,s.i,s.i,s.b0,s.b1,s.data⟩:Nj));.br (an<|s.i<s.b) (.rl s.data<|.req (RY.q (⟨s.a,s.b,s.i,s.i,s.b0,s.b1,s.data⟩:Nj))<|.rl c.data<|.nx {s with i:=AA<|s.i+1,data:=c.data})<|.rl s.data<|.so (.exit 0) s
def iz (s:KN):Prop:=s.i=1/\(s.a=0/\s.b=(M s.data:Int))/\(M s.data=M s.b0/\(M s.data:Int)<=1000)/\(∀x∈s.data,0<=x/\x<(M s.b0:Int))/\IQ s.b0 s.b1
def Xz (s:KN):Prop:=1<=s.i/\(s.a=0/\s.b=(M s.data:Int))/\(M s.data=M s.b0/\(M s.data:Int)<=1000)/\(∀x∈s.data,0<=x/\x<(M s.b0:Int))/\IQ s.b0 s.b1
def sd (s:KN):Nat:=(s.b-s.i).toNat
def acT (x:Ex) (s s':KN):Prop:=x=.exit 0
def ajc:∀s,iz s->Xz s:=by
 exact ke
theorem uR (s:KN) (hI:Xz s) (c1:s.i<s.b):iy ⟨s.a,s.b,s.i,s.i,s.b0,s.b1,s.data⟩:=by
 obtain ⟨h0,⟨h1,h2⟩,h3⟩:=hI;exact ⟨h1,⟨A8,A8⟩,h3⟩
theorem ayC:Da Xz sd acT vT:=by
 intro s hI
 have hin:=λc1=>uR s hI c1
 obtain ⟨h0,⟨h1,h2⟩,⟨h3,h3'⟩,h4,h5⟩:=hI;refine AH (λc1=>?_) λc1=>rfl
 have c1:s.i<s.b:=A8
 obtain ⟨q1,q2⟩:=aGp _<|hin c1
 have hp:=anm (lt:=ltD s.b0 s.b1) (j:=s.i.toNat) (l:=s.data) A0
 rw [AJ (x:=s.i+1),q2];exact ⟨⟨A8,⟨h1,by simp only [hp.length_eq];exact h2⟩,⟨by simp only [hp.length_eq];exact h3,by simp only [hp.length_eq];exact h3'⟩,λx hx=>h4 x<|hp.subset hx,h5⟩,by simp only [sd];omega⟩
def RZ:AT KN:=⟨4,53,[0,1,2,3,8],[],λs=>[.os 2 1 0<|M s.data,s.a,s.b,.fn 149 [.own 0 0,.own 3 0],s.i],λs=>[⟨[s.b0],44,.cl,X⟩,⟨[s.b1],3,.cl,X⟩,bV 3 A7 s.data,⟨[.fn 147 [.own 0 0,.own 1 0]],218,.cl,X⟩],λv b=>⟨AK v 1,AK v 2,AK v 4,AF Au b 0 0,Ak b 1 0,Ab A7 b 2⟩,vT,λs r=> {s with i:=r.i,data:=r.data},λs=>s,λ_ s=>s,[.exit 0],iz,Xz,sd⟩
abbrev Vr:=RZ.run
abbrev asl:=RZ.Av
theorem awe:Rq Xz vT:=by
 intro s hI;refine ⟨λc1=>⟨A9,?_,A9,ak⟩,λc1=>⟨A9,ak⟩⟩
 ·exact ⟨uR s hI A8,rfl,rfl⟩
def aQR:RZ.Ok:={}
def aOt:RZ.Pf (acT):=⟨ajc,λs h=>rfl,ayC,awe⟩
def pw:SA 4 aFg RZ:=AT.snd aQR aOt (GP (Γ:=PF) (K:=gU) (L:=(Lv (λi=>if i=4 then RY.lp else Al i))) (gk PF) gU.h aFg (λb hb=>by
 rw [show BD _=[aFf] by kernel_rfl] at hb
 simp only [B7,Bt,Bu] at hb;subst hb;exact aqB)) λs=>AU
theorem arN:Rs iz asl Vr (λs:KN=>Mf (ltD s.b0 s.b1) s.data s.i.toNat) (λx s' (v:List Int)=>x=.exit 0/\s'.data=v):=DJ aQR aOt (λs hI=>by
  have hin:=λc1=>uR s hI c1
  obtain ⟨h0,⟨h1,h2⟩,⟨h3,h3'⟩,h4,h5⟩:=hI;refine AH (λc1=>?_) λc1=>?_
  ·have c1:s.i<s.b:=A8
   obtain ⟨q1,q2⟩:=aGp _<|hin c1
   have q2:(oV ⟨s.a,s.b,s.i,s.i,s.b0,s.b1,s.data⟩).data=Kl (ltD s.b0 s.b1) s.i.toNat s.data:=q2
   rw [AJ (x:=s.i+1)]
   show Mf _ _ _=Mf _ _ _
   rw [q2,show (s.i+1).toNat=s.i.toNat+1 by omega,ael A0]
  ·have c1:s.b<=s.i:=A8
   exact ⟨rfl,(afa A0).symm⟩)
structure O6 where
 (n FC a b:Int)
 b0:List Dm
 b1:Int
 data:List Int
def vr (s:O6):T (Rd O6):=letI c:=(Vr (⟨s.a,s.b,AA<|s.a+1,s.b0,s.b1,s.data⟩:KN));.br (an<|s.b<=s.n) (.rl s.data<|.req (RZ.q (⟨s.a,s.b,AA<|s.a+1,s.b0,s.b1,s.data⟩:KN))<|.re (M s.data) c.data<|.nx {s with a:=s.b,b:=AA<|s.b+s.FC,data:=c.data})<|.rl s.data<|.so (.exit 0) s
def jS (s:O6):Prop:=s.b=20/\s.n<20
def YM (s:O6):Prop:=s.b=20/\s.n<20
def aQx (s:O6):Nat:=0
def ac5 (x:Ex) (s s':O6):Prop:=x=.exit 0
def ajF:∀s,jS s->YM s:=by
 exact λs h=>h
theorem avq:Da YM aQx ac5 vr:=by
 intro s hI;obtain ⟨h0,h1⟩:=hI;refine AH (λc1=>absurd (show s.b<=s.n by grind) A0) λc1=>rfl
def Yu:AT O6:=⟨4,63,[0,1,2,6,7,8],[],λs=>[.os 2 1 0<|M s.data,s.n,.fn 149 [.own 0 0,.own 3 0],s.FC,s.a,s.b],λs=>[⟨[s.b0],44,.cl,X⟩,⟨[s.b1],3,.cl,X⟩,bV 3 A7 s.data,⟨[.fn 147 [.own 0 0,.own 1 0]],218,.cl,X⟩],λv b=>⟨AK v 1,AK v 3,AK v 4,AK v 5,AF Au b 0 0,Ak b 1 0,Ab A7 b 2⟩,vr,λs r=> {s with a:=r.a,b:=r.b,data:=r.data},λs=>s,λ_ s=>s,[.exit 0],jS,YM,aQx⟩
abbrev Im:=Yu.run
abbrev arX:=Yu.Av
def al4:Ay:=kI PF<|la 1 func211 pw<|l0 PF
def avN:Rq YM vr:=by
 intro s hI;refine ⟨λc1=>⟨A9,?_,?_,ak⟩,λc1=>⟨A9,ak⟩⟩
 all_goals ((simp only [Ac] at c1;exact absurd c1 (by have:=hI;unfold YM at this;omega)))
def aPg:Yu.Ok:={}
def aP9:Yu.Pf (ac5):=⟨ajF,λs h=>rfl,avq,avN⟩
def aGE:=s2 (b:=bN f182 0) aPg aP9 PF al4
theorem aoZ:Rs jS arX Im (λs:O6=>(s.data,s.a)) (λx s' (v:List Int×Int)=>x=.exit 0/\(s'.data,s'.a)=v):=DJ aPg aP9 (λs hI=>by
  obtain ⟨h0,h1⟩:=hI;exact AH (λc1=>absurd (show s.b<=s.n by grind) A0) λc1=>⟨rfl,rfl⟩)
def ahM:List LV->T LV:=λ_=> .req False<|.ok<|.v undef
def au5:VV 212 ahM:=by
 intro _ _ _ _ _ _ _ _ _ h;exact h.1.elim
structure PM where
 (n FC a b:Int)
 b0:List Dm
 b1:Int
 data:List Int
def aEu:=lN (bN f182 1) 0
def vp (s:PM):T (Rd PM):=
 .br (an<|s.b<=s.n) (.rz s.data<|.req False<|.rl s.data<|.nx {s with a:=s.b,b:=AA<|s.b+(AA<|2*s.FC)}) (.rl s.data<|.so (.exit 4) s)
def aci (s:PM):Prop:=False
def iJ (s:PM):Prop:=False
def aQv (s:PM):Nat:=0
def ac3 (x:Ex) (s s':PM):Prop:=True
def ahz:∀s,aci s->iJ s:=by
 exact λs h=>h
def avo:Da iJ aQv ac3 vp:=by
 intro s hI;exact hI.elim
def Tz:AT PM:=⟨4,63,[0,1,2,6,7,8],[],λs=>[.os 2 1 0<|M s.data,s.n,.fn 149 [.own 0 0,.own 3 0],s.FC,s.a,s.b],λs=>[⟨[s.b0],44,.cl,X⟩,⟨[s.b1],3,.cl,X⟩,bV 3 A7 s.data,⟨[.fn 147 [.own 0 0,.own 1 0]],218,.cl,X⟩],λv b=>⟨AK v 1,AK v 3,AK v 4,AK v 5,AF Au b 0 0,Ak b 1 0,Ab A7 b 2⟩,vp,λs r=> {s with a:=r.a,b:=r.b},λs=>s,λ_ s=>s,[.exit 4],aci,iJ,aQv⟩
abbrev aps:=Tz.run
def Qg:List Bd:=[qi,aTt,au5]
def zT:Ay:=kI Qg<|la 2 func182 aGE<|la 1 func211 pw<|l0 Qg
def avL:Rq iJ vp:=by
 intro s hI;refine ⟨λc1=>⟨?_,?_,A9,ak⟩,λc1=>⟨A9,ak⟩⟩
 all_goals (exact hI.elim)
def axS:Tz.Ok:={}
def ay4:Tz.Pf (ac3):=⟨ahz,λs h=>rfl,avo,avL⟩
def aol:SA 4 aEu Tz:=s2 axS ay4 Qg zT
structure PN where
 (n FC:Int)
 b0:List Dm
 b1:Int
 data:List Int
def aEv:=bN f182 1
def vq (s:PN):T (Rd PN):=
 .br (an<|s.FC<s.n) (.rl s.data<|.req (Tz.q (⟨s.n,s.FC,0,AA<|2*s.FC,s.b0,s.b1,s.data⟩:PM))<|.br (an<|(AA<|(aps (⟨s.n,s.FC,0,AA<|2*s.FC,s.b0,s.b1,s.data⟩:PM)).a+s.FC)<s.n) (.rz s.data<|.req False<|.rl s.data<|.nx {s with FC:=AA<|s.FC*2})<|.rl s.data<|.nx {s with FC:=AA<|s.FC*2}) (.rl s.data<|.so (.exit 2) s)
def aB5 (s:PN):Prop:=s.FC=20/\s.n<20
def YL (s:PN):Prop:=s.FC=20/\s.n<20
def aQw (s:PN):Nat:=0
def ac4 (x:Ex) (s s':PN):Prop:=x=.exit 2
def ajE:∀s,aB5 s->YL s:=by
 exact λs h=>h
theorem avp:Da YL aQw ac4 vq:=by
 intro s hI;obtain ⟨h0,h1⟩:=hI;refine AH (λc1=>absurd (show s.FC<s.n by grind) A0) λc1=>rfl
def jn:AT PN:=⟨4,63,[0,1,2,6],[],λs=>[.os 2 1 0<|M s.data,s.n,.fn 149 [.own 0 0,.own 3 0],s.FC],λs=>[⟨[s.b0],44,.cl,X⟩,⟨[s.b1],3,.cl,X⟩,bV 3 A7 s.data,⟨[.fn 147 [.own 0 0,.own 1 0]],218,.cl,X⟩],λv b=>⟨AK v 1,AK v 3,AF Au b 0 0,Ak b 1 0,Ab A7 b 2⟩,vq,λs r=> {s with FC:=r.FC},λs=>s,λ_ s=>s,[.exit 2],aB5,YL,aQw⟩
def avM:Rq YL vq:=by
 intro s hI;refine ⟨λc1=>⟨A9,?_,λc2=>⟨?_,?_,A9,ak⟩,λc2=>⟨A9,ak⟩⟩,λc1=>⟨A9,ak⟩⟩
 all_goals ((simp only [Ac] at c1;exact absurd c1 (by have:=hI;unfold YL at this;omega)))
def axT:jn.Ok:={}
def ay5:jn.Pf (ac4):=⟨ajE,λs h=>rfl,avp,avM⟩
def aom:SA 4 aEv jn:=AT.snd axT ay5 (GP (Γ:=Qg) (K:=zT) (L:=(Lv (λi=>if i=9 then Tz.lp else Al i))) (gk Qg) zT.h aEv (λb hb=>by
 rw [show BD _=[aEu] by kernel_rfl] at hb
 simp only [B7,Bt,Bu] at hb;subst hb;exact aol)) λs=>AU
def aJH:List LV->T LV
 | [.xl (.pair .bool (.pair (.int J) (.pair (.int J) (.int J)))) d,.v (Y J t)]=> .req (IQ d t/\M d<=19) (.ok<|.xl A7<|H5 d t)
 |_=> .no
def L8 (d:List Dm) (t:Int):PR:=(⟨(((M d:Int).toNat:Nat):Int),0,d,t,aq (M d:Int).toNat (0:Int)⟩:PR)
def IC (d:List Dm) (t:Int):O6:=(⟨((M (MO<|L8 d t).out:Nat):Int),20,0,20,d,t,(MO<|L8 d t).out⟩:O6)
def W0 (d:List Dm) (t:Int):KN:=(⟨(Im<|IC d t).a,((M (MO<|L8 d t).out:Nat):Int),AA<|(Im<|IC d t).a+1,d,t,(Im<|IC d t).data⟩:KN)
def aEX (d:List Dm) (t:Int):PN:=(⟨((M (MO<|L8 d t).out:Nat):Int),20,d,t,(Vr<|W0 d t).data⟩:PN)
def al3:Ay:=kI Qg<|la 7 func182 aom<|la 2 func182 aGE<|la 1 func211 pw<|l0 Qg
def aup:=vm (S:=aJH) func117 Qg al3 (L:=(λi=>if i=3 then Rz.lp else Al i)) (λb hb=>by
 rw [show BD _=[aF4] by kernel_rfl] at hb
 simp only [B7,Bt,Bu] at hb;subst hb;exact aoP) (λargs lv h=>by
 unfold aJH at h;split at h
 ·rename_i d t
  refine Aq (letI b:=M (MO<|L8 d t).out;letI c:=(M d:Int);letI e:=Vr<|W0 d t;.rm 8 c<|.re c.toNat (aq c.toNat (0:Int))<|.req (Rz.q<|L8 d t)<|.rl (MO<|L8 d t).out<|.req (Yu.q<|IC d t)<|.rl (Im<|IC d t).data<|.req (RZ.q<|W0 d t)<|.re (M (Im<|IC d t).data) e.data<|.req (jn.q<|aEX d t)<|.req (0+b<=M e.data)<|.ok<|.xl A7<|(e.data.drop 0).take b) ?_;obtain ⟨⟨hw,hd⟩,rfl⟩:=h
  have hE:iY (L8 d t):=⟨rfl,MI,by show (((M d:Int).toNat:Nat):Int)=(M d:Int);omega,by show (((M d:Int).toNat:Nat):Int)<=1000;omega,by show M (aq _ (0:Int))=M d;rw [Ce];omega⟩
  obtain ⟨_,_,_,q1⟩:=aqw _ hE
  have q1:(MO<|L8 d t).out=Fj (M d):=q1
  have hl:M (MO<|L8 d t).out=M d:=by rw [q1,Om]
  have hE2:jS (IC d t):=⟨rfl,aMm⟩
  obtain ⟨_,q2⟩:=aoZ _ hE2
  have q2a:(Im<|IC d t).data=Fj (M d):=(B0 Prod.fst q2).trans q1
  have q2b:(Im<|IC d t).a=0:=B0 Prod.snd q2
  have hE3:iz (W0 d t):=⟨by show AA ((Im<|IC d t).a+1)=1;rw [q2b];rfl,⟨q2b,by show ((M (MO<|L8 d t).out:Nat):Int)=(M (Im<|IC d t).data:Int);rw [q2a,hl,Om]⟩,⟨by show M (Im<|IC d t).data=M d;rw [q2a,Om],by show (M (Im<|IC d t).data:Int)<=1000;rw [q2a,Om];omega⟩,λx hx=>aEd.1 (by have hx:x∈(Im<|IC d t).data:=hx;rw [q2a] at hx;exact hx),hw⟩
  obtain ⟨_,q3⟩:=arN _ hE3
  have q3:(Vr<|W0 d t).data=H5 d t:=q3.trans (by
   show Mf (ltD d t) (Im<|IC d t).data (AA<|(Im<|IC d t).a+1).toNat=_
   rw [q2b,q2a];exact aft)
  have hl3:M (Vr<|W0 d t).data=M d:=by rw [q3,aEN]
  have hE4:aB5 (aEX d t):=⟨rfl,aMm⟩
  refine ⟨⟨A0,A0,A0,A0⟩,⟨rfl,AI⟩,⟨hE,rfl,rfl⟩,A9,⟨hE2,rfl,rfl⟩,A9,⟨hE3,rfl,rfl⟩,⟨rfl,by rw [q2a,Om,hl3]⟩,⟨hE4,rfl,rfl⟩,A0,?_⟩
  show LV.xl _ _=_
  rw [CP,hl,<-hl3,EN,q3]
 ·cases h)
structure LR where
 rs:List Ra
 (tick n t15:Int)
 offers:List Int
 m:List Ch
 (k i:Int)
 ahX:List Cd
 c1:List ByteArray
 c2:List Ko
 c3:List Ch
 c4:List Ba
 NO:List Le
 ag0:List Dm
 TY:Int
 (atp G2:List Int)
 next:List Ra
 Co:List Le
def aFm:=bN f94 0
def qm (s:LR) (e:Int) (w:Bool) (x:Int) (y:Int):T (Rd LR):=letI a:=(s.n,(s.i,(x,(s.tick,(12:Int)))));letI b:=(s.next.set s.i.toNat (x,y));letI c:=s.G2.set s.i.toNat x;letI d:=M s.next;letI f:=M s.G2;.br (an<|s.i<s.k) (.ix s.i (M s.m)<|.ix s.i (M s.rs)<|.ix s.i (M s.offers)<|.br (e !=0) (.rl s.G2<|.rl s.next<|.rl s.Co<|.so (.ret) {s with t15:=(1:Int)})<|.ik s.i f<|.ik s.i d<|.req ((0<=s.i/\s.i<(M s.c3:Int))/\(M s.NO:Int)<=1000/\0<=s.TY/\s.TY<=1000000)<|.br w (.rb (M s.Co) (M<|[a]) 40<|.re f c<|.re d b<|.re (M s.Co+M ([a])) (s.Co++([a]))<|.nx {s with n:=AA<|s.n+1,i:=AA<|s.i+1,G2:=c,next:=b,Co:=s.Co++([a])})<|.re f c<|.re d b<|.rl s.Co<|.nx {s with i:=AA<|s.i+1,G2:=c,next:=b})<|.rl s.G2<|.rl s.next<|.rl s.Co<|.so (.exit 0) s
abbrev vB (s:LR):=letI a:=AG s.m s.i;letI c:=Bw s.rs s.i;letI d:=gi s.offers s.i;letI b:=nA a.2.2.1 a.2.2.2.1 a.2.2.2.2.1 a.2.2.2.2.2.1 a.2.2.2.2.2.2.1 c.1 c.2 d;qm s (nE a.2.2.1 a.2.2.2.1 a.2.2.2.2.1 a.2.2.2.2.2.1 a.2.2.2.2.2.2.1 c.1 c.2 d) (nwB s.c3 s.NO s.TY s.i b) b<|nS a.2.2.1 a.2.2.2.1 a.2.2.2.2.1 a.2.2.2.2.2.1 a.2.2.2.2.2.2.1 c.1 c.2 d
def Yr (s:LR):Prop:=s.i=0/\s.Co=[]/\(s.k=(M s.m:Int)/\s.k<=16)/\(s.c3=s.m/\s.TY=s.tick)/\((M s.NO:Int)<=1000/\0<=s.tick/\s.tick<=1000000)/\(M s.rs=M s.m/\M s.offers=M s.m/\M s.G2=M s.m/\M s.next=M s.m)/\dcK s.m s.rs s.offers/\1<=s.n-(M s.Co:Int)/\s.n-(M s.Co:Int)<=999900
def R5 (s:LR):Prop:=letI a:=(M s.Co:Int);(0<=s.i/\s.i<=s.k)/\(∀j,0<=j->j<s.i->gi s.G2 j=nxA (AG s.m j) (Bw s.rs j) (gi s.offers j)/\Bw s.next j=(nxA (AG s.m j) (Bw s.rs j)<|gi s.offers j,nxS (AG s.m j) (Bw s.rs j)<|gi s.offers j))/\s.Co=Gx s.m s.NO s.tick (s.n-a) (JE s.m s.rs s.offers<|M s.m) s.i.toNat/\(s.k=(M s.m:Int)/\s.k<=16)/\(s.c3=s.m/\s.TY=s.tick)/\((M s.NO:Int)<=1000/\0<=s.tick/\s.tick<=1000000)/\(M s.rs=M s.m/\M s.offers=M s.m/\M s.G2=M s.m/\M s.next=M s.m)/\dcK s.m s.rs s.offers/\1<=s.n-a/\s.n-a<=999900
def Wa (s:LR):Nat:=(s.k-s.i).toNat
def iG (x:Ex) (s s':LR):Prop:=x=.exit 0/\s'.G2=JE s'.m s'.rs s'.offers (M s'.m)/\s'.next=dcR s'.m s'.rs s'.offers (M s'.m)/\s'.Co=Gx s'.m s'.NO s'.tick (s'.n-(M s'.Co:Int)) (JE s'.m s'.rs s'.offers<|M s'.m) (M s'.m)
def alp:∀s,Yr s->R5 s:=by
 rintro s ⟨h0,h1,h2⟩
 exact ⟨A0,λj j0 j1=>A0,yk,h2⟩
theorem ase (s:LR) (hI:R5 s) (e:Int) (w:Bool) (x:Int) (y:Int) (he:nE (AG s.m s.i).2.2.1 (AG s.m s.i).2.2.2.1 (AG s.m s.i).2.2.2.2.1 (AG s.m s.i).2.2.2.2.2.1 (AG s.m s.i).2.2.2.2.2.2.1 (Bw s.rs s.i).1 (Bw s.rs s.i).2 (gi s.offers s.i)=e) (hw:nwB s.c3 s.NO s.TY s.i (nA (AG s.m s.i).2.2.1 (AG s.m s.i).2.2.2.1 (AG s.m s.i).2.2.2.2.1 (AG s.m s.i).2.2.2.2.2.1 (AG s.m s.i).2.2.2.2.2.2.1 (Bw s.rs s.i).1 (Bw s.rs s.i).2<|gi s.offers s.i)=w) (hx:nA (AG s.m s.i).2.2.1 (AG s.m s.i).2.2.2.1 (AG s.m s.i).2.2.2.2.1 (AG s.m s.i).2.2.2.2.2.1 (AG s.m s.i).2.2.2.2.2.2.1 (Bw s.rs s.i).1 (Bw s.rs s.i).2 (gi s.offers s.i)=x) (hy:nS (AG s.m s.i).2.2.1 (AG s.m s.i).2.2.2.1 (AG s.m s.i).2.2.2.2.1 (AG s.m s.i).2.2.2.2.2.1 (AG s.m s.i).2.2.2.2.2.2.1 (Bw s.rs s.i).1 (Bw s.rs s.i).2 (gi s.offers s.i)=y):DK (λs'=>R5 s'/\Wa s'<Wa s) (λx s'=>iG x s s') ((qm s e w x y).rd s):=by
 unfold qm;dsimp only [T.rd,T.rl,T.rv];obtain ⟨⟨h0,h1⟩,hA,hL,⟨h2,h3⟩,⟨h4,h5⟩,h6,⟨h7,h8,h9,h10⟩,hk,h11⟩:=hI
 have hll:M s.Co<=s.i.toNat:=yV
 refine AH (λc1=>?_) λc1=>?_
 ·refine AH (λc2=>?_) (λc2=>?_)
  ·have c1:s.i<s.k:=AX
   have hm:s.i<(M s.m:Int):=A0
   exact absurd (he.symm.trans<|ajn<|hk s.i h0 hm) EC
  ·refine AH (λc3=>?_) (λc3=>?_)
   ·have c1:s.i<s.k:=AX
    have hm:s.i<(M s.m:Int):=A0
    have hx':nxA (AG s.m s.i) (Bw s.rs s.i) (gi s.offers s.i)=x:=hx
    have hy':nxS (AG s.m s.i) (Bw s.rs s.i) (gi s.offers s.i)=y:=hy
    have hA':∀j,0<=j->j<s.i+1->gi (s.G2.set s.i.toNat x) j=nxA (AG s.m j) (Bw s.rs j) (gi s.offers j)/\Bw (s.next.set s.i.toNat (x,y)) j=(nxA (AG s.m j) (Bw s.rs j)<|gi s.offers j,nxS (AG s.m j) (Bw s.rs j)<|gi s.offers j):=λj j0 j1=>by
     exact aLM
    have hs:s.i.toNat+1=(s.i+1).toNat:=A0
    have hg:gi (JE s.m s.rs s.offers<|M s.m) (s.i.toNat:Nat)=x:=aNp
    have hw':nwB s.m s.NO s.tick (s.i.toNat:Nat) x=w:=by rw [CM h0,<-hw,h4,h5];rw [<-hx]
    rw [AJ (x:=s.i+1),AJ (x:=s.n+1)]
    have hn:s.n+1-((M (s.Co++[(s.n,s.i,x,s.tick,12)]):Nat):Int)=s.n-(M s.Co:Int):=by
     exact aMc
    refine ⟨⟨⟨AZ,AZ⟩,hA',?_,⟨h2,h3⟩,⟨h4,h5⟩,h6,⟨h7,h8,aNa,aNz⟩,hk,by simp only;rw [hn];exact h11⟩,by simp only [Wa];omega⟩
    simp only;rw [hn,<-hs,Gx,<-hL,hg,hw',c3,AD rfl,CM h0,show s.n-(M s.Co:Int)+(M s.Co:Int)=s.n by omega]
   ·have c1:s.i<s.k:=AX
    have hm:s.i<(M s.m:Int):=A0
    have hx':nxA (AG s.m s.i) (Bw s.rs s.i) (gi s.offers s.i)=x:=hx
    have hy':nxS (AG s.m s.i) (Bw s.rs s.i) (gi s.offers s.i)=y:=hy
    have hA':∀j,0<=j->j<s.i+1->gi (s.G2.set s.i.toNat x) j=nxA (AG s.m j) (Bw s.rs j) (gi s.offers j)/\Bw (s.next.set s.i.toNat (x,y)) j=(nxA (AG s.m j) (Bw s.rs j)<|gi s.offers j,nxS (AG s.m j) (Bw s.rs j)<|gi s.offers j):=λj j0 j1=>by
     exact aLM
    have hs:s.i.toNat+1=(s.i+1).toNat:=A0
    have hg:gi (JE s.m s.rs s.offers<|M s.m) (s.i.toNat:Nat)=x:=aNp
    have hw':nwB s.m s.NO s.tick (s.i.toNat:Nat) x=w:=A8
    rw [AJ (x:=s.i+1)];refine ⟨⟨⟨AZ,AZ⟩,hA',?_,⟨h2,h3⟩,⟨h4,h5⟩,h6,⟨h7,h8,aNa,aNz⟩,hk,h11⟩,by simp only [Wa];omega⟩
    simp only;rw [<-hs,Gx,<-hL,hg,hw',c3,AE Aa,GK]
 ·have c1:s.k<=s.i:=AX
  have hi:s.i.toNat=M s.m:=A0
  refine ⟨rfl,ad3 (by rw [h9];exact K0.symm) λj j0 j1=>?_,arP (by rw [h10,cy]) λj j0 j1=>?_,by have hL':=hL;rw [hi] at hL';exact hL'⟩
  ·rw [JE,K0] at j1
   rw [JE,Sq j0 j1];exact (hA j j0 A0).1
  ·rw [cy] at j1
   rw [agK j0 j1];exact (hA j j0 A0).2
def agJ:Da R5 Wa iG vB:=λs hI=>ase s hI _ _ _ _ rfl rfl rfl rfl
def Re:AT LR:=⟨0,108,[2,4,5,12,13,14,15,16,17,19,20,21,57,58,59],[.nl 21 90 AQ],λs=>[s.rs,s.tick,s.n,.v<|.slice aj 0 0,.v<|.slice aj 0 0,.v<|.slice aj 0 0,s.t15,.own 0 0,.xl A7 s.offers,.os 1 1 0<|M s.G2,.os 2 2 0<|M s.next,.os 3 5 0<|M s.Co,s.m,s.k,s.i],λs=>[⟨[s.ahX,s.c1,s.c2,s.c3,s.c4,s.NO,s.ag0,s.TY,.xl A7 s.atp],233,.cl,U⟩,bV 3 A7 s.G2,bV 143 Am s.next,bV 90 AQ s.Co],λv b=>⟨B5 Am v 0,AK v 1,AK v 2,AK v 6,B5 A7 v 8,B5 Ae v 12,AK v 13,AK v 14,AF Ad b 0 0,AF .str b 0 1,AF Ai b 0 2,AF Ae b 0 3,AF Aj b 0 4,AF AQ b 0 5,AF Au b 0 6,Ak b 0 7,AF A7 b 0 8,Ab A7 b 1,Ab Am b 2,Ab AQ b 3⟩,vB,λs r=> {s with n:=r.n,t15:=r.t15,i:=r.i,G2:=r.G2,next:=r.next,Co:=r.Co},λs=>s,λ_ s=>s,[.ret,.exit 0],Yr,R5,Wa⟩
abbrev Io:=Re.run
abbrev qe:=Re.Av
def awI:Rq R5 vB:=by
 intro s hI;refine ⟨λc1=>⟨?_,?_,?_,λc2=>⟨A9,A9,A9,ak⟩,λc2=>⟨?_,?_,?_,?_,?_,λc3=>⟨?_,?_,?_,?_,ak⟩,λc3=>⟨?_,?_,A9,ak⟩⟩⟩,λc1=>⟨A9,A9,A9,ak⟩⟩
 all_goals ((obtain ⟨⟨h0,h1⟩,hA,hL,⟨h2,h3⟩,⟨h4,h5⟩,h6,⟨h7,h8,h9,h10⟩,hk,h11⟩:=hI;have hll:M s.Co<=s.i.toNat:=yV;(try simp only [Ac] at c1);have hl3:M s.c3=M s.m:=B0 M h4;first|omega|exact ⟨rfl,AI⟩ |(refine ⟨A0,?_,?_⟩<;>simp only [Bk,Bp]<;>omega)))
def aan:List Bd:=[aup,av1,av3,aur,av4]
def qq:Re.Ok:={}
def rN:Re.Pf (iG):=⟨alp,λs h=>rfl,agJ,awI⟩
def aqK:SA 0 aFm Re:=s1 qq rN aan kN
def asc:Fi Yr R5 iG qe Io:=AT.fin qq rN
theorem asb:Rs Yr qe Io (λs:LR=>s.n-(M s.Co:Int)) (λx s' (v:Int)=>s'.n-(M s'.Co:Int)=v):=DJ qq rN (λs hI=>by
  obtain ⟨⟨h0,h1⟩,hA,hL,⟨h2,h3⟩,⟨h4,h5⟩,h6,⟨h7,h8,h9,h10⟩,hk,h11⟩:=hI
  have hll:M s.Co<=s.i.toNat:=yV
  refine AH (λc1=>?_) λc1=>?_
  ·refine AH (λc2=>?_) (λc2=>?_)
   ·rfl
   ·refine AH (λc3=>?_) (λc3=>?_)
    ·have c1:s.i<s.k:=A8
     rw [AJ (x:=s.n+1)]
     show s.n+1-((M (s.Co++[_]):Nat):Int)=s.n-(M s.Co:Int)
     exact aMc
    ·rfl
  ·rfl)
def aIY:List LV->T LV
 | .agg a::r=>s5 a λcs os ks gs bs=>(match r with
  | [.xl (.pair (.int J) (.pair (.int J) (.pair (.int J) (.pair (.int J) (.int J))))) l,.xl (.pair (.int J) (.int J)) rs,.xl (.pair .bool (.pair (.int J) (.pair (.int J) (.int J)))) d,.v (Y J t),.v (Y J n)]=> .req (IQ d t/\M d<=19) (.ok<|.AO [.xl A7<|deA cs os ks gs bs l rs d t n,deR cs os ks gs bs l rs d t n,deL cs os ks gs bs l rs d t n,deE cs os ks gs bs l rs d t n])
  |_=> .no)
 |_=> .no
def bT (cs:List Cd) (os:List ByteArray) (ks:List Ko) (gs:List Ch) (bs:List Ba) (l:List Le) (rs:List Ra) (d:List Dm) (t n:Int):LR:=letI a:=ofO cs os ks gs bs l d t<|H5 d t;(⟨rs,t,n,0,a,gs,(M gs:Int),0,cs,os,ks,gs,bs,l,d,t,H5 d t,aq (M a:Int).toNat (0:Int),aq (M a:Int).toNat ((0:Int),(0:Int)),([]:List Le)⟩:LR)
def aJY:=vm (S:=aIY) func94 aan kN (L:=(λi=>if i=11 then Re.lp else Al i)) (λb hb=>by
 rw [show BD _=[aFm] by kernel_rfl] at hb
 simp only [B7,Bt,Bu] at hb;subst hb;exact aqK) (λargs lv h=>by
 unfold aIY at h;split at h
 case h_2=>cases h
 replace h:=IE h
 obtain ⟨cs,os,ks,gs,bs,rfl,h⟩:=h;split at h
 ·rename_i l rs d t n
  refine Aq (letI a:=bT cs os ks gs bs l rs d t n;letI b:=(M (ofO cs os ks gs bs l d t<|H5 d t):Int);.req (IQ d t/\M d<=19)<|.br (!(JG cs os ks gs bs l rs d t n)) (.ok<|.AO [.xl A7 ([]:List Int),.xl Am ([]:List Ra),.xl AQ ([]:List Le),(1:Int)])<|.req (M d=M gs/\G7 cs os ks gs bs (Bv gs) (J0 gs d) (H5 d t)=U/\Kd l (M gs:Int) t=U/\G7 cs os ks gs bs (Hp gs l t) (Fk cs os ks gs bs (Bv gs) (J0 gs d)<|H5 d t) (H5 d t)=U)<|.br ((0:Int) !=0) (.ok<|.AO [.xl A7 ([]:List Int),.xl Am ([]:List Ra),.xl AQ ([]:List Le),(1:Int)])<|.rm 8 b<|.rm 16 b<|.re b.toNat (aq b.toNat (0:Int))<|.re b.toNat (aq b.toNat ((0:Int),(0:Int)))<|.r0 Le<|.req (Re.q a)<|.br (Bs (qe a)<|.ret) (.ok<|.AO [.xl A7 ([]:List Int),.xl Am ([]:List Ra),.xl AQ ([]:List Le),(Io a).t15])<|.rz (Io a).G2<|.rz (Io a).next (.rz (Io a).Co<|.ok<|.AO [.xl A7<|((Io a).G2.drop 0).take<|M (Io a).G2,(((Io a).next.drop 0).take<|M (Io a).next),(((Io a).Co.drop 0).take<|M (Io a).Co),(0:Int)])) ?_;obtain ⟨hw,rfl⟩:=h;refine ⟨hw,λc=>?_,λc=>?_⟩
  ·unfold deA deR deL deE
   rw [ntW c];rfl
  have c:=nfW c
  have V:=aaL c
  have ol:M (ofO cs os ks gs bs l d t<|H5 d t)=M gs:=(aau V).1
  have hE:Yr (bT cs os ks gs bs l rs d t n):=⟨rfl,rfl,⟨rfl,by have:=V.gl;show (M gs:Int)<=16;omega⟩,A9,⟨by have:=(GS V.les).1;show (M l:Int)<=1000;omega,V.tb⟩,⟨V.rl,ol,by show M (aq _ (0:Int))=M gs;rw [Ce];omega,by show M (aq _ ((0:Int),(0:Int)))=M gs;rw [Ce];omega⟩,agI V,by have:=V.nb;show 1<=n-(0:Int);omega,by have:=V.nb;show n-(0:Int)<=999900;omega⟩
  obtain ⟨_,_,q1,q2,q3,q4⟩:=asc _ hE
  have hn:=asb _ hE
  have hn:=hn.trans<|Po n
  have q2:(Io<|bT cs os ks gs bs l rs d t n).G2=deA cs os ks gs bs l rs d t n:=q2.trans (by unfold deA;rw [AD c];rfl)
  have q3:(Io<|bT cs os ks gs bs l rs d t n).next=deR cs os ks gs bs l rs d t n:=q3.trans (by unfold deR;rw [AD c];rfl)
  rw [hn] at q4
  have q4:(Io<|bT cs os ks gs bs l rs d t n).Co=deL cs os ks gs bs l rs d t n:=q4.trans (by unfold deL;rw [AD c];rfl)
  have gl:=V.gl
  refine ⟨⟨V.dl,aa3 V.si,atQ V,aat V⟩,λc2=>absurd c2 Aa,λ_=>?_⟩
  refine ⟨by rw [ol];omega,by rw [ol];omega,⟨rfl,AI⟩,⟨rfl,AI⟩,A9,⟨hE,rfl,rfl⟩,?_⟩
  rw [q1];refine ⟨λh=>Ao,λ_=>⟨A0,A0,A0,?_⟩⟩
  show LV.AO [LV.xl _ _,LV.xl _ _,LV.xl _ _,_]=_
  rw [CP,EN,CP,EN,CP,EN,q2,q3,q4];unfold deE;rw [AD c]
 ·cases h)
structure Na where
 t5:Int
 t23:List Int
 (t24 t25:Int)
 BB:List Cd
 Bf:List ByteArray
 Bz:List Ko
 BN:List Ch
 C0:List Ba
 Cv:List Int
def aEl:=bN f90 0
def vL (s:Na):T (Rd Na):=
 .br (an<|s.t25<s.t24) (.ix s.t25 (M s.t23)<|.br ((an<|(gi s.t23 s.t25)<0) ||(an<|(gi s.t23 s.t25)>80)) (.so (.ret) {s with t5:=(1:Int)})<|.nx {s with t25:=AA<|s.t25+1}) (.so (.exit 0) s)
def ij (s:Na):Prop:=s.t5=0/\s.t25=0/\s.t24=(M s.t23:Int)/\s.t24<=1000/\∀k:Nat,k<M s.t23->0<=gi s.t23 k/\gi s.t23 k<=80
def Xt (s:Na):Prop:=s.t5=0/\(0<=s.t25/\s.t25<=s.t24)/\s.t24=(M s.t23:Int)/\s.t24<=1000/\∀k:Nat,k<M s.t23->0<=gi s.t23 k/\gi s.t23 k<=80
def sR (s:Na):Nat:=(s.t24-s.t25).toNat
def aAX (x:Ex) (s s':Na):Prop:=x=.exit 0/\s'.t5=0
def ajq:∀s,ij s->Xt s:=by
 rintro s ⟨h9,h0,h1,h2,h3⟩
 exact ⟨h9,A0,h1,h2,h3⟩
theorem ayK:Da Xt sR aAX vL:=by
 intro s hI;obtain ⟨h9,⟨h0,h1⟩,h2,h3,h5⟩:=hI;refine AH (λc1=>AH (λc2=>?_) λc2=>?_) λc1=>?_
 ·exfalso
  have c1:s.t25<s.t24:=A8
  have:=h5 s.t25.toNat A0
  rw [CM h0] at this;simp only [Ck,Ac] at c2;omega
 ·have c1:s.t25<s.t24:=A8
  rw [AJ (x:=s.t25+1)];exact ⟨⟨h9,⟨A8,A8⟩,h2,h3,h5⟩,by simp only [sR];omega⟩
 ·exact ⟨rfl,h9⟩
def RK:AT Na:=⟨0,65,[2,3,4,5,23,24,25],[],λs=>[.own 0 0,.own 1 0,.v<|.slice aj 0 0,s.t5,.xl A7 s.t23,s.t24,s.t25],λs=>[⟨[s.BB,s.Bf,s.Bz,s.BN,s.C0],28,.cl,X⟩,⟨[.xl A7 s.Cv],29,.cl,X⟩],λv b=>⟨AK v 3,B5 A7 v 4,AK v 5,AK v 6,AF Ad b 0 0,AF .str b 0 1,AF Ai b 0 2,AF Ae b 0 3,AF Aj b 0 4,AF A7 b 1 0⟩,vL,λs r=> {s with t5:=r.t5,t25:=r.t25},λs=>s,λ_ s=>s,[.ret,.exit 0],ij,Xt,sR⟩
abbrev mv:=RK.run
abbrev aI2:=RK.Av
def awS:Rq Xt vL:=by
 intro s hI;refine ⟨λc1=>⟨?_,λ_=>trivial,λ_=>trivial⟩,λ_=>trivial⟩
 ·(simp only [Ac] at c1;obtain ⟨h9,⟨h0,h1⟩,h2,h3⟩:=hI;omega)
def eP:List Bd:=[P1,du]
def aRP:Ay:=kI eP<|l0 eP
def aQI:RK.Ok:={}
def aOk:RK.Pf (aAX):=⟨ajq,λs h=>rfl,ayK,awS⟩
def aq2:SA 0 aEl RK:=s1 aQI aOk eP aRP
def aqS:Fi ij Xt aAX aI2 mv:=AT.fin aQI aOk
def yz:Array Tmp×Code×Code:=((It<|f90.body.getD .skip)[0]?).getD (#[],.skip,.skip)
def aj8:Array Tmp:=yz.1
def ak2:Code:=yz.2.1
def aic:Code:=yz.2.2
structure Je where
 BB:List Cd
 Bf:List ByteArray
 Bz:List Ko
 BN:List Ch
 C0:List Ba
 c:Int
 Bg:List Cd
 GO:List ByteArray
 GM:List Ko
 GQ:List Ch
 GV:List Ba
 b1:List Int
 b3:List (Int×Ra)
 b4:Int
 dB:ByteArray
 (gz Ii fM fN dA nB oC:Int)
 st:LS
def vJ (s:Je):T (Rd Je):=letI b:=gi s.b1 s.b4;letI d:=s.c.toNat<M s.b3;letI e:=Ug s.b3 s.c.toNat b;letI g:=M s.b3;letI h:=M s.BB;letI i:=Ag s.BB s.c;letI k:=(Bq J s.Ii 4) !=0;letI m:=s.c.toNat<M e;letI a:=XD s.b3 s.c.toNat b;letI f:=Ug a s.c.toNat b;letI j:=s.c.toNat<M a;letI l:=s.c.toNat<M f;.br (an<|s.c>=0) (.ix s.c g<|.ix s.b4 (M s.b1)<|.br ((Bq J s.Ii 1) !=0) (.req d<|.req d<|.br ((Bq J s.Ii 2) !=0) (.req j<|.req j<|.br k (.req l<|.req l<|.ix s.c h<|.re g (Kn f s.c.toNat b)<|.nx {s with c:=i.2.1,b3:=Kn f s.c.toNat b})<|.ix s.c h<|.re g f<|.nx {s with c:=i.2.1,b3:=f})<|.br k (.req j<|.req j<|.ix s.c h<|.re g (Kn a s.c.toNat b)<|.nx {s with c:=i.2.1,b3:=Kn a s.c.toNat b})<|.ix s.c h<|.re g a<|.nx {s with c:=i.2.1,b3:=a})<|.br ((Bq J s.Ii 2) !=0) (.req d<|.req d<|.br k (.req m<|.req m<|.ix s.c h<|.re g (Kn e s.c.toNat b)<|.nx {s with c:=i.2.1,b3:=Kn e s.c.toNat b})<|.ix s.c h<|.re g e<|.nx {s with c:=i.2.1,b3:=e})<|.br k (.req d<|.req d<|.ix s.c h<|.re g (Kn s.b3 s.c.toNat b)<|.nx {s with c:=i.2.1,b3:=Kn s.b3 s.c.toNat b})<|.ix s.c h<|.rl s.b3<|.nx {s with c:=i.2.1})<|.rl s.b3<|.so (.exit 0) s
def Tx (s:Je):Prop:=s.st=.ready/\Fx s.BB=U/\s.c<(M s.BB:Int)/\M s.b3=M s.BB/\(0<=s.b4/\s.b4<(M s.b1:Int))
def Xs (s:Je):Prop:=s.st=.ready/\Fx s.BB=U/\s.c<(M s.BB:Int)/\M s.b3=M s.BB/\(0<=s.b4/\s.b4<(M s.b1:Int))
def aBq (s:Je):Nat:=(s.c+1).toNat
def aAV (x:Ex) (s s':Je):Prop:=x=.exit 0/\s'.c<0
def ajo:∀s,Tx s->Xs s:=by
 exact λs h=>h
theorem ayI:Da Xs aBq aAV vJ:=by
 intro s hI;obtain ⟨h0,h1,h2,h3,h4⟩:=hI;refine AH (λc1=>?_) λc1=>?_
 ·have c1:0<=s.c:=AX
  have:=QX h1 c1 h2
  exact AH (λ_=>AH (λ_=>AH (λ_=>⟨⟨h0,h1,AZ,Sn,h4⟩,Q1⟩) λ_=>⟨⟨h0,h1,AZ,Sn,h4⟩,Q1⟩) λ_=>AH (λ_=>⟨⟨h0,h1,AZ,Sn,h4⟩,Q1⟩) λ_=>⟨⟨h0,h1,AZ,Sn,h4⟩,Q1⟩) λ_=>AH (λ_=>AH (λ_=>⟨⟨h0,h1,AZ,Sn,h4⟩,Q1⟩) λ_=>⟨⟨h0,h1,AZ,Sn,h4⟩,Q1⟩) λ_=>AH (λ_=>⟨⟨h0,h1,AZ,Sn,h4⟩,Q1⟩) λ_=>⟨⟨h0,h1,AZ,A8,h4⟩,Q1⟩
 ·have c1:¬(0<=s.c):=AX
  exact VE
def Yx:AT Je:=⟨7,18,[0,2,4],[],λs=>[.CK 6,xQ 5 [s.BB,s.Bf,s.Bz,s.BN,s.C0],s.c],λs=>[⟨[s.Bg,s.GO,s.GM,s.GQ,s.GV],28,.cl,X⟩,⟨[.xl A7 s.b1],29,.cl,X⟩,⟨[.os 3 3 0<|M s.b3],192,.cl,X⟩,⟨[],200,.vec (.pair A7 Am) s.b3,X⟩,⟨[s.b4],3,.cl,X⟩,⟨[.v<|.string s.dB,s.gz,s.Ii,s.fM,s.fN,s.dA,s.nB,s.oC],56,.cl,X⟩,⟨[.junk,.junk,.junk,.own 1 0,.junk,.junk,.junk,.junk,.own 2 0,.own 4 0,.own 5 0,.junk,.junk,.junk,.junk,.junk,.junk,.junk,.junk,.junk,.junk,.junk,.junk,.junk,.junk,.junk,.junk,.junk,.junk,.junk,.junk,.junk,.junk,.junk,.junk,.junk,.junk,.junk,.junk,.junk,.junk,.junk,.junk,.junk,.junk,.junk,.junk,.junk,.junk,.junk,.junk,.junk,.junk,.junk,.junk,.junk,.junk,.junk,.junk,.junk,.junk,.junk,.junk,.junk,.junk],0,.Cc aj8 ak2 aic s.st,X⟩],λv b=>⟨Ap Ad<|BT (v.getD 1 .junk) 0,Ap .str<|BT (v.getD 1 .junk) 1,Ap Ai<|BT (v.getD 1 .junk) 2,Ap Ae<|BT (v.getD 1 .junk) 3,Ap Aj<|BT (v.getD 1 .junk) 4,AK v 2,AF Ad b 0 0,AF .str b 0 1,AF Ai b 0 2,AF Ae b 0 3,AF Aj b 0 4,AF A7 b 1 0,Ab (.pair A7 Am) b 3,Ak b 4 0,gSr<|B9 (CS b 5) 0,Ak b 5 1,Ak b 5 2,Ak b 5 3,Ak b 5 4,Ak b 5 5,Ak b 5 6,Ak b 5 7,.ready⟩,vJ,λs r=> {r with BB:=s.BB,Bf:=s.Bf,Bz:=s.Bz,BN:=s.BN,C0:=s.C0,Bg:=s.Bg,GO:=s.GO,GM:=s.GM,GQ:=s.GQ,GV:=s.GV,b1:=s.b1,b4:=s.b4,dB:=s.dB,gz:=s.gz,Ii:=s.Ii,fM:=s.fM,fN:=s.fN,dA:=s.dA,nB:=s.nB,oC:=s.oC,st:=s.st},λs=> {s with st:=.ready},λx s=> {s with st:=(match x with| .exit 0=> .ready|_=> .ready)},[.exit 0],Tx,Xs,aBq⟩
abbrev TE:=Yx.run
abbrev aI1:=Yx.Av
def awQ:Rq Xs vJ:=by
 intro s hI;refine ⟨λc1=>⟨?_,?_,λc2=>⟨?_,?_,λc3=>⟨?_,?_,λc4=>⟨?_,?_,?_,?_,ak⟩,λc4=>⟨?_,?_,ak⟩⟩,λc3=>⟨λc5=>⟨?_,?_,?_,?_,ak⟩,λc5=>⟨?_,?_,ak⟩⟩⟩,λc2=>⟨λc6=>⟨?_,?_,λc7=>⟨?_,?_,?_,?_,ak⟩,λc7=>⟨?_,?_,ak⟩⟩,λc6=>⟨λc8=>⟨?_,?_,?_,?_,ak⟩,λc8=>⟨?_,A9,ak⟩⟩⟩⟩,λc1=>⟨A9,ak⟩⟩
 all_goals ((obtain ⟨h0,h1,h2,h3,h4⟩:=hI;simp only [Ac,M9] at c1;first|omega|(simp only [aBi,aBh,aBg];omega) |simp [aBi,aBh,aBg]))
def rp:Yx.Ok:={}
def rL:Yx.Pf (aAV):=⟨ajo,λs h=>by
 obtain ⟨BB,Bf,Bz,BN,C0,c,Bg,GO,GM,GQ,GV,b1,b3,b4,dB,gz,Ii,fM,fN,dA,nB,oC,st⟩:=s
 have e:=h.1
 subst e;rfl,ayI,awQ⟩
def aGH:=s2 (b:=bN f141 0) rp rL eP aRP
def aqQ:Fi Tx Xs aAV aI1 TE:=AT.fin rp rL
theorem anV (s:Je) (hE:Tx s):(λs:Je=>HG s.BB s.Ii (gi s.b1 s.b4) s.c s.b3) (TE s)=(λs:Je=>HG s.BB s.Ii (gi s.b1 s.b4) s.c s.b3) s:=by
 exact AT.KL rp rL (λs:Je=>HG s.BB s.Ii (gi s.b1 s.b4) s.c s.b3) (λs hI=>by
  obtain ⟨h0,h1,h2,h3,h4⟩:=hI
  have hp:=ayY (ph:=s.Ii) (v:=gi s.b1 s.b4) (l:=s.b3) h1 h2
  refine AH (λc1=>?_) λc1=>rfl
  have c1:0<=s.c:=A8
  rw [AD c1,ahK A0] at hp
  refine AH (λd1=>AH (λd2=>AH (λd4=>?_) λd4=>?_) λd2=>AH (λd4=>?_) λd4=>?_) (λd1=>AH (λd2=>AH (λd4=>?_) λd4=>?_) λd2=>AH (λd4=>?_) λd4=>?_)<;>
   (show HG _ _ _ _ _=HG _ _ _ _ _;rw [hp];simp only [d1,d2,d4,Bm,IA,F9])) s hE
def aqO (s:Je) (hE:Tx s):aI1 s=.exit 0/\(TE s).b3=HG s.BB s.Ii (gi s.b1 s.b4) s.c s.b3:=by
 have q3:=anV s hE
 obtain ⟨s',hI,q1,q2⟩:=aqQ s hE;refine ⟨q1,?_⟩
 have q3:HG s.BB s.Ii (gi s.b1 s.b4) (TE s).c (TE s).b3=HG s.BB s.Ii (gi s.b1 s.b4) s.c s.b3:=q3
 rw [<-q3];unfold HG;rw [ldW,AE A0]
structure Mc where
 t5:Int
 t41:List Ch
 (t42 t43:Int)
 BB:List Cd
 Bf:List ByteArray
 Bz:List Ko
 BN:List Ch
 C0:List Ba
 Cv:List Int
 b3:List (Int×Ra)
def aEk:=bN f90 1
def ni (s:Mc):Je:=(⟨s.BB,s.Bf,s.Bz,s.BN,s.C0,(AG s.t41 s.t43).2.1,s.BB,s.Bf,s.Bz,s.BN,s.C0,s.Cv,s.b3,s.t43,(AG s.t41 s.t43).1,(AG s.t41 s.t43).2.1,(AG s.t41 s.t43).2.2.1,(AG s.t41 s.t43).2.2.2.1,(AG s.t41 s.t43).2.2.2.2.1,(AG s.t41 s.t43).2.2.2.2.2.1,(AG s.t41 s.t43).2.2.2.2.2.2.1,(AG s.t41 s.t43).2.2.2.2.2.2.2,.ready⟩:Je)
def vK (s:Mc):T (Rd Mc):=
 .br (an<|s.t43<s.t42) (.ix s.t43 (M s.t41)<|.rl s.b3<|.req (Yx.q<|ni s)<|.rl (TE<|ni s).b3<|.nx {s with t43:=AA<|s.t43+1,b3:=(TE<|ni s).b3}) (.rl s.b3<|.so (.exit 2) s)
def ig (s:Mc):Prop:=s.t43=0/\(s.t42=(M s.t41:Int)/\s.t42<=1000/\Fx s.BB=U/\atB s.BB s.t41=U/\M s.Cv=M s.t41)/\s.b3=aq (M s.BB) (Ty.dflt<|.pair A7 Am)
def Tt (s:Mc):Prop:=(0<=s.t43/\s.t43<=s.t42)/\(s.t42=(M s.t41:Int)/\s.t42<=1000/\Fx s.BB=U/\atB s.BB s.t41=U/\M s.Cv=M s.t41)/\s.b3=ldS s.BB s.t41 s.Cv s.t43.toNat
def sQ (s:Mc):Nat:=(s.t42-s.t43).toNat
def aAW (x:Ex) (s s':Mc):Prop:=x=.exit 2/\s'.b3=ldS s'.BB s'.t41 s'.Cv (M s'.t41)
def ajp:∀s,ig s->Tt s:=by
 rintro s ⟨h0,h1,h2⟩
 exact ⟨A0,h1,by rw [h2,h0];rfl⟩
def aQh (s:Mc) (hI:Tt s) (c1:s.t43<s.t42):Tx (ni s):=by
 obtain ⟨⟨h0,h1⟩,⟨h2,h3,h4,h5,h6⟩,h7⟩:=hI;refine ⟨rfl,h4,uk h5 h0 A0,?_,⟨h0,?_⟩⟩
 ·show M s.b3=_
  rw [h7];exact qH h4 h5 _ A0
 ·show s.t43<(M s.Cv:Int)
  omega
theorem ayJ:Da Tt sQ aAW vK:=by
 intro s hI
 have hin:=λc1=>aQh s hI c1
 obtain ⟨⟨h0,h1⟩,⟨h2,h3,h4,h5,h6⟩,h7⟩:=hI;refine AH (λc1=>?_) λc1=>?_
 ·have c1:s.t43<s.t42:=A8
  obtain ⟨_,q⟩:=aqO _<|hin c1;rw [AJ (x:=s.t43+1)];refine ⟨⟨⟨A8,A8⟩,⟨h2,h3,h4,h5,h6⟩,?_⟩,by simp only [sQ];omega⟩
  rw [show (s.t43+1).toNat=s.t43.toNat+1 by omega,q]
  show HG s.BB (AG s.t41 s.t43).2.2.1 (gi s.Cv s.t43) (AG s.t41 s.t43).2.1 s.b3=HG s.BB (AG s.t41 (s.t43.toNat:Int)).2.2.1 (gi s.Cv (s.t43.toNat:Int)) (AG s.t41 (s.t43.toNat:Int)).2.1 (ldS s.BB s.t41 s.Cv s.t43.toNat)
  grind
 ·have c1:s.t42<=s.t43:=A8
  refine ⟨rfl,?_⟩
  grind
def RJ:AT Mc:=⟨0,65,[2,3,4,5,8,41,42,43],[],λs=>[.own 0 0,.own 1 0,.v<|.slice aj 0 0,s.t5,.own 2 0,s.t41,s.t42,s.t43],λs=>[⟨[s.BB,s.Bf,s.Bz,s.BN,s.C0],28,.cl,X⟩,⟨[.xl A7 s.Cv],29,.cl,X⟩,⟨[.os 3 3 0<|M s.b3],192,.cl,X⟩,⟨[],200,.vec (.pair A7 Am) s.b3,X⟩],λv b=>⟨AK v 3,B5 Ae v 5,AK v 6,AK v 7,AF Ad b 0 0,AF .str b 0 1,AF Ai b 0 2,AF Ae b 0 3,AF Aj b 0 4,AF A7 b 1 0,Ab (.pair A7 Am) b 3⟩,vK,λs r=> {r with t5:=s.t5,t41:=s.t41,t42:=s.t42,BB:=s.BB,Bf:=s.Bf,Bz:=s.Bz,BN:=s.BN,C0:=s.C0,Cv:=s.Cv},λs=>s,λ_ s=>s,[.exit 2],ig,Tt,sQ⟩
abbrev aC9:=RJ.run
abbrev arC:=RJ.Av
theorem awR:Rq Tt vK:=by
 intro s hI;refine ⟨λc1=>⟨?_,A9,?_,A9,ak⟩,λc1=>⟨A9,ak⟩⟩
 ·(obtain ⟨⟨h0,h1⟩,⟨h2,h3⟩,h4⟩:=hI;simp only [Ac] at c1;omega)
 ·exact ⟨aQh s hI A8,rfl,rfl⟩
def uG:List Bd:=[P1,du]
def azl:Ay:=kI uG<|la 1 func141 aGH<|l0 uG
def aPV:RJ.Ok:={}
def aOj:RJ.Pf (aAW):=⟨ajp,λs h=>rfl,ayJ,awR⟩
def aq1:SA 0 aEk RJ:=s1 aPV aOj uG azl
def aqR:Fi ig Tt aAW arC aC9:=AT.fin aPV aOj
def JB (cs:List Cd) (gs:List Ch) (am:List Int):List Ld:=if M am=M gs then ldS cs gs am (M gs) else []
def JJ (gs:List Ch) (am:List Int):Int:=if M am=M gs then 0 else 1
def aSo:List LV->T LV
 | .agg a::r=>s5 a λcs os ks gs bs=>(match r with
  | [.xl (.int J) am]=> .req (BL cs os ks gs bs=U/\(M am=M gs->∀k:Nat,k<M am->0<=gi am k/\gi am k<=80)) (.ok<|.AO [.xl (.pair A7 Am)<|JB cs gs am,JJ gs am])
  |_=> .no)
 |_=> .no
def uF:List Bd:=[P1,du]
def azk:Ay:=kI uF<|la 1 func141 aGH<|l0 uF
def aaT:=vm (S:=aSo) func90 uF azk (L:=(λi=>if i=4 then RK.lp else if i=11 then RJ.lp else Al i)) (λb hb=>by
 rw [show BD _=[aEl,aEk] by kernel_rfl] at hb
 simp only [B7,Bt,Bu] at hb;rcases hb with rfl|rfl
 ·exact aq2
 ·exact aq1) (λargs lv h=>by
 unfold aSo at h;split at h
 case h_2=>cases h
 replace h:=IE h
 obtain ⟨cs,os,ks,gs,bs,rfl,h⟩:=h;split at h
 ·rename_i am
  refine Aq (letI e:=(M am:Int);letI f:=(M gs:Int);letI g:=(M cs:Int);letI b:=(mv (⟨0,am,e,0,cs,os,ks,gs,bs,am⟩:Na));letI d:=(aq g.toNat ((0:Int),((0:Int),(0:Int))));letI a:=(aC9 (⟨b.t5,gs,f,0,cs,os,ks,gs,bs,am,d⟩:Mc));.br ((!(BL cs os ks gs bs)) ||(e !=f)) (.ok<|.AO [.xl (.pair A7 Am) ([]:List<|Int×Ra),(1:Int)])<|.req (RK.q (⟨0,am,e,0,cs,os,ks,gs,bs,am⟩:Na))<|.br (Bs (aI2 (⟨0,am,e,0,cs,os,ks,gs,bs,am⟩:Na))<|.ret) (.ok<|.AO [.xl (.pair A7 Am) ([]:List<|Int×Ra),b.t5])<|.rm 24 g<|.re g.toNat d<|.req (RJ.q (⟨b.t5,gs,f,0,cs,os,ks,gs,bs,am,d⟩:Mc))<|.rz a.b3<|.ok<|.AO [.xl (.pair A7 Am)<|(a.b3.drop 0).take<|M a.b3,(0:Int)]) ?_;obtain ⟨⟨hv,hr⟩,rfl⟩:=h
  by_cases hl:M am=M gs
  rotate_left
  ·refine ⟨λ_=>?_,λc=>?_⟩
   ·unfold JB JJ
    rw [AE hl,AE hl];rfl
   ·rw [hv] at c;simp at c;omega
  have hr:=hr hl
  unfold JB JJ;rw [AD hl,AD hl]
  have hb:=(DF.1 hv).1
  have hA:ij ⟨0,am,(M am:Int),0,cs,os,ks,gs,bs,am⟩:=⟨rfl,rfl,rfl,A8,hr⟩
  obtain ⟨_,_,q1,q5⟩:=aqS _ hA
  have hB:ig ⟨(mv ⟨0,am,(M am:Int),0,cs,os,ks,gs,bs,am⟩).t5,gs,(M gs:Int),0,cs,os,ks,gs,bs,am,aq (M cs:Int).toNat ((0:Int),((0:Int),(0:Int)))⟩:=⟨rfl,⟨rfl,A8,ox hv,oz hv,hl⟩,by
   rw [By];rfl⟩
  obtain ⟨_,_,q6,q7⟩:=aqR _ hB
  have q7:(aC9 ⟨(mv ⟨0,am,(M am:Int),0,cs,os,ks,gs,bs,am⟩).t5,gs,(M gs:Int),0,cs,os,ks,gs,bs,am,aq (M cs:Int).toNat ((0:Int),((0:Int),(0:Int)))⟩).b3=ldS cs gs am (M gs):=q7
  refine ⟨λc=>?_,λ_=>⟨⟨hA,rfl,rfl⟩,?_⟩⟩
  ·exfalso
   rw [hv,hl] at c
   simp at c
  ·rw [q1]
   refine ⟨λh=>Ao,λ_=>⟨A0,⟨rfl,AI⟩,⟨hB,rfl,rfl⟩,A0,?_⟩⟩
   show LV.AO _=LV.AO _
   rw [CP,EN,q7]
 ·cases h)
def yy:Array Tmp×Code×Code:=((It<|f50.body.getD .skip)[0]?).getD (#[],.skip,.skip)
def aaA:Array Tmp:=yy.1
def aaG:Code:=yy.2.1
def aaD:Code:=yy.2.2
structure Nw where
 (c t7 t8 t11:Int)
 Bg:List Cd
 GO:List ByteArray
 GM:List Ko
 GQ:List Ch
 GV:List Ba
 (Ih Iu Iv:Int)
 b2:Bool
 b3:Int
 b4:List (Int×Ra)
 NJ:List Cd
 NM:List ByteArray
 NI:List Ko
 NK:List Ch
 NU:List Ba
 st:LS
def aFr:=lN (bN f114 0) 0
def fj (s:Nw):T (Rd Nw):=letI a:=Dz<|Ag s.Bg s.c;letI b:=AA<|s.t11+1;letI d:=M s.Bg;.br (an<|s.t11<3) (.ix s.c (M s.b4)<|.br (s.t11==0) (.ix s.c d<|.br (an<|(gx (e:=.pair A7 Am) s.b4 s.c).1>a) (.so (.ret) {s with Ih:=s.c,Iu:=s.t11,Iv:=(gx (e:=.pair A7 Am) s.b4 s.c).1,b2:=U,b3:=(0:Int),st:=.done<|.ret})<|.nx {s with t11:=b})<|.br (s.t11==1) (.ix s.c d<|.br (an<|(gx (e:=.pair A7 Am) s.b4 s.c).2.1>a) (.so (.ret) {s with Ih:=s.c,Iu:=s.t11,Iv:=(gx (e:=.pair A7 Am) s.b4 s.c).2.1,b2:=U,b3:=(0:Int),st:=.done<|.ret})<|.nx {s with t11:=b})<|.br (s.t11==2) (.ix s.c d<|.br (an<|(gx (e:=.pair A7 Am) s.b4 s.c).2.2>a) (.so (.ret) {s with Ih:=s.c,Iu:=s.t11,Iv:=(gx (e:=.pair A7 Am) s.b4 s.c).2.2,b2:=U,b3:=(0:Int),st:=.done<|.ret})<|.nx {s with t11:=b})<|.no /-  -/)<|.so (.exit 2) s
def jg (s:Nw):Prop:=s.st=.ready/\s.t11=0/\(0<=s.c/\s.c<(M s.b4:Int))/\s.c<(M s.Bg:Int)
def jM (s:Nw):Prop:=s.st=.ready/\(0<=s.t11/\s.t11<=3)/\(0<=s.c/\s.c<(M s.b4:Int))/\s.c<(M s.Bg:Int)
def dg (s:Nw):Nat:=(3-s.t11).toNat
def ace (x:Ex) (s s':Nw):Prop:=True
def alL:∀s,jg s->jM s:=by
 rintro s ⟨h,h0,h1⟩
 exact ⟨h,A0,h1⟩
theorem agD:Da jM dg ace fj:=by
 intro s hI;obtain ⟨ht,h0,h1,h2⟩:=hI;refine AH (λc1=>?_) λc1=>?_
 ·refine AH (λc2=>?_) (λc2=>?_)
  ·refine AH (λc3=>?_) (λc3=>?_)
   ·trivial
   ·exact aLU
  ·refine AH (λc3=>?_) (λc3=>?_)
   ·refine AH (λc4=>?_) (λc4=>?_)
    ·trivial
    ·exact aLU
   ·refine AH (λc4=>?_) (λc4=>?_)
    ·refine AH (λc5=>?_) (λc5=>?_)
     ·trivial
     ·have c1:s.t11<3:=AX
      rw [AJ (x:=s.t11+1)];exact ⟨⟨ht,⟨A8,A8⟩,h1,h2⟩,by simp only [dg];omega⟩
    ·exfalso
     simp only [Ac,CN,ne_eq] at*;omega
 ·trivial
def Rh:AT Nw:=⟨7,22,[0,3,7,8,11],[],λs=>[.CK 6,s.c,s.t7,s.t8,s.t11],λs=>[⟨[s.Bg,s.GO,s.GM,s.GQ,s.GV],28,.cl,X⟩,⟨[s.Ih,s.Iu,s.Iv],133,.cl,X⟩,⟨[s.b2],4,.cl,X⟩,⟨[s.b3],50,.cl,X⟩,⟨[.xl (.pair A7 Am) s.b4],192,.cl,X⟩,⟨[s.NJ,s.NM,s.NI,s.NK,s.NU],28,.cl,X⟩,⟨[.junk,.junk,.own 0 0,.junk,.own 1 0,.own 2 0,.own 3 0,.own 4 0,.junk,.v<|.tuple #[],.v<|.tuple #[],.junk,.junk,.junk,.junk,.junk,.junk,.junk,.junk,.junk,.junk,.junk,.v<|.tuple #[],.v<|.tuple #[],.v<|.tuple #[],.v<|.tuple #[],.v<|.tuple #[],.v<|.tuple #[],.v<|.tuple #[],.v<|.tuple #[],.v<|.tuple #[],.v<|.tuple #[],.v<|.tuple #[],.v<|.tuple #[],.v<|.tuple #[],.v<|.tuple #[],.v<|.tuple #[],.v<|.tuple #[],.v<|.tuple #[],.v<|.tuple #[],.v<|.tuple #[],.v<|.tuple #[],.v<|.tuple #[],.v<|.tuple #[],.v<|.tuple #[],.v<|.tuple #[],.junk],0,.Cc aaA aaG aaD s.st,X⟩],λv b=>⟨AK v 1,AK v 2,AK v 3,AK v 4,AF Ad b 0 0,AF .str b 0 1,AF Ai b 0 2,AF Ae b 0 3,AF Aj b 0 4,Ak b 1 0,Ak b 1 1,Ak b 1 2,Kk b 2 0,Ak b 3 0,AF (.pair A7 Am) b 4 0,AF Ad b 5 0,AF .str b 5 1,AF Ai b 5 2,AF Ae b 5 3,AF Aj b 5 4,.ready⟩,fj,λs r=> {r with c:=s.c,t7:=s.t7,t8:=s.t8,Bg:=s.Bg,GO:=s.GO,GM:=s.GM,GQ:=s.GQ,GV:=s.GV,b4:=s.b4,NJ:=s.NJ,NM:=s.NM,NI:=s.NI,NK:=s.NK,NU:=s.NU},λs=> {s with st:=.ready},λx s=> {s with st:=(match x with| .ret=>(.done<|.ret) | .exit 2=> .ready|_=> .ready)},[.ret,.exit 2],jg,jM,dg⟩
abbrev MP:=Rh.run
abbrev dd:=Rh.Av
def X7:List Bd:=[aaT,qj]
def uW:Ay:=kI X7<|l0 X7
def axn:Rq jM fj:=by
 intro s hI;refine ⟨λc1=>⟨?_,λc2=>⟨?_,λ_=>trivial,λ_=>trivial⟩,λc2=>⟨λc4=>⟨?_,λ_=>trivial,λ_=>trivial⟩,λc4=>⟨λc6=>⟨?_,λ_=>trivial,λ_=>trivial⟩,λc6=>?_⟩⟩⟩,λ_=>trivial⟩
 iterate 4 · (obtain ⟨ht,h0,h1,h2⟩:=hI;omega)
 ·(exfalso;obtain ⟨ht,h0,h1,h2⟩:=hI;simp only [Ac,CN,ne_eq] at*;omega)
def aQ8:Rh.Ok:={}
def aPs:Rh.Pf (ace):=⟨alL,λs h=>by
 obtain ⟨c,t7,t8,t11,Bg,GO,GM,GQ,GV,Ih,Iu,Iv,b2,b3,b4,NJ,NM,NI,NK,NU,st⟩:=s
 have e:=h.1
 subst e;rfl,agD,axn⟩
def apd:SA 7 aFr Rh:=s2 aQ8 aPs X7 uW
def atf:Rs jg dd MP (λs:Nw=>M0 (Dz<|Ag s.Bg s.c) (gLi s.b4 s.c) s.t11) (λx s' (v:Bool)=>(x=.ret/\v=X/\s'.b2=U/\s'.b3=0)\/(x=.exit 2/\v=U)):=DJ aQ8 aPs (λs hI=>by
  show DK _ _ ((fj s).rd s)
  obtain ⟨ht,h0,h1,h2⟩:=hI;refine AH (λc1=>?_) λc1=>?_
  ·refine AH (λc2=>?_) (λc2=>?_)
   ·refine AH (λc3=>?_) (λc3=>?_)
    ·refine .inl ⟨rfl,?_,rfl,rfl⟩
     have c3:(gLi s.b4 s.c).1>Dz (Ag s.Bg s.c):=Cx c3
     exact xc
    ·have c1:s.t11<3:=AX
     rw [AJ (x:=s.t11+1)]
     have c3:¬(gLi s.b4 s.c).1>Dz (Ag s.Bg s.c):=Jw c3
     exact xh
   ·refine AH (λc3=>?_) (λc3=>?_)
    ·refine AH (λc4=>?_) (λc4=>?_)
     ·refine .inl ⟨rfl,?_,rfl,rfl⟩
      have c4:(gLi s.b4 s.c).2.1>Dz (Ag s.Bg s.c):=Cx c4
      exact xc
     ·have c1:s.t11<3:=AX
      rw [AJ (x:=s.t11+1)]
      have c4:¬(gLi s.b4 s.c).2.1>Dz (Ag s.Bg s.c):=Jw c4
      exact xh
    ·refine AH (λc4=>?_) (λc4=>?_)
     ·refine AH (λc5=>?_) (λc5=>?_)
      ·refine .inl ⟨rfl,?_,rfl,rfl⟩
       have c5:(gLi s.b4 s.c).2.2>Dz (Ag s.Bg s.c):=Cx c5
       exact xc
      ·have c1:s.t11<3:=AX
       rw [AJ (x:=s.t11+1)]
       have c5:¬(gLi s.b4 s.c).2.2>Dz (Ag s.Bg s.c):=Jw c5
       exact xh
     ·exfalso
      simp only [Ac,CN,ne_eq] at*;omega
  ·have c1:3<=s.t11:=AX
   refine .inr ⟨rfl,?_⟩;unfold M0;simp only [AY,Ck,Ac];omega)
structure KK where
 (t7 t8:Int)
 Bg:List Cd
 GO:List ByteArray
 GM:List Ko
 GQ:List Ch
 GV:List Ba
 (Ih Iu Iv:Int)
 b2:Bool
 b3:Int
 b4:List (Int×Ra)
 NJ:List Cd
 NM:List ByteArray
 NI:List Ko
 NK:List Ch
 NU:List Ba
 st:LS
def aFs:=bN f114 0
def Ij (s:KK):Nw:=(⟨s.t8,s.t7,s.t8,0,s.Bg,s.GO,s.GM,s.GQ,s.GV,s.Ih,s.Iu,s.Iv,s.b2,s.b3,s.b4,s.NJ,s.NM,s.NI,s.NK,s.NU,.ready⟩:Nw)
def zH (s:KK):T (Rd KK):=
 .br (an<|s.t8<s.t7) (.req (Rh.q<|Ij s)<|.br (Bs (dd<|Ij s)<|.ret) (.so (.ret) {s with Ih:=(MP<|Ij s).Ih,Iu:=(MP<|Ij s).Iu,Iv:=(MP<|Ij s).Iv,b2:=(MP<|Ij s).b2,b3:=(MP<|Ij s).b3,st:=.done<|.ret})<|.nx {s with t8:=AA<|s.t8+1,Ih:=(MP<|Ij s).Ih,Iu:=(MP<|Ij s).Iu,Iv:=(MP<|Ij s).Iv,b2:=(MP<|Ij s).b2,b3:=(MP<|Ij s).b3}) (.so (.exit 0) s)
def jh (s:KK):Prop:=s.st=.ready/\s.t8=0/\s.t7=(M s.Bg:Int)/\s.t7<=1000/\M s.b4=M s.Bg
def Xf (s:KK):Prop:=s.st=.ready/\(0<=s.t8/\s.t8<=s.t7)/\s.t7=(M s.Bg:Int)/\s.t7<=1000/\M s.b4=M s.Bg
def sK (s:KK):Nat:=(s.t7-s.t8).toNat
def acf (x:Ex) (s s':KK):Prop:=True
def alM:∀s,jh s->Xf s:=by
 rintro s ⟨h,h0,h1⟩
 exact ⟨h,A0,h1⟩
def aS2 (s:KK) (hI:Xf s) (c1:s.t8<s.t7):jg (Ij s):=by
 obtain ⟨ht,⟨h0,h1⟩,h2,h3,h4⟩:=hI;exact ⟨rfl,rfl,⟨h0,by show s.t8<(M s.b4:Int);omega⟩,by show s.t8<(M s.Bg:Int);omega⟩
theorem agE:Da Xf sK acf zH:=by
 intro s hI;obtain ⟨ht,⟨h0,h1⟩,h2,h3,h4⟩:=hI;refine AH (λc1=>AH (λc2=>trivial) λc2=>?_) λc1=>trivial
 have c1:s.t8<s.t7:=A8
 rw [AJ (x:=s.t8+1)];exact ⟨⟨ht,⟨A8,A8⟩,h2,h3,h4⟩,by simp only [sK];omega⟩
def UO:AT KK:=⟨7,22,[0,7,8],[],λs=>[.CK 6,s.t7,s.t8],λs=>[⟨[s.Bg,s.GO,s.GM,s.GQ,s.GV],28,.cl,X⟩,⟨[s.Ih,s.Iu,s.Iv],133,.cl,X⟩,⟨[s.b2],4,.cl,X⟩,⟨[s.b3],50,.cl,X⟩,⟨[.xl (.pair A7 Am) s.b4],192,.cl,X⟩,⟨[s.NJ,s.NM,s.NI,s.NK,s.NU],28,.cl,X⟩,⟨[.junk,.junk,.own 0 0,.junk,.own 1 0,.own 2 0,.own 3 0,.own 4 0,.junk,.v<|.tuple #[],.v<|.tuple #[],.junk,.junk,.junk,.junk,.junk,.junk,.junk,.junk,.junk,.junk,.junk,.v<|.tuple #[],.v<|.tuple #[],.v<|.tuple #[],.v<|.tuple #[],.v<|.tuple #[],.v<|.tuple #[],.v<|.tuple #[],.v<|.tuple #[],.v<|.tuple #[],.v<|.tuple #[],.v<|.tuple #[],.v<|.tuple #[],.v<|.tuple #[],.v<|.tuple #[],.v<|.tuple #[],.v<|.tuple #[],.v<|.tuple #[],.v<|.tuple #[],.v<|.tuple #[],.v<|.tuple #[],.v<|.tuple #[],.v<|.tuple #[],.v<|.tuple #[],.v<|.tuple #[],.junk],0,.Cc aaA aaG aaD s.st,X⟩],λv b=>⟨AK v 1,AK v 2,AF Ad b 0 0,AF .str b 0 1,AF Ai b 0 2,AF Ae b 0 3,AF Aj b 0 4,Ak b 1 0,Ak b 1 1,Ak b 1 2,Kk b 2 0,Ak b 3 0,AF (.pair A7 Am) b 4 0,AF Ad b 5 0,AF .str b 5 1,AF Ai b 5 2,AF Ae b 5 3,AF Aj b 5 4,.ready⟩,zH,λs r=> {r with t7:=s.t7,Bg:=s.Bg,GO:=s.GO,GM:=s.GM,GQ:=s.GQ,GV:=s.GV,b4:=s.b4,NJ:=s.NJ,NM:=s.NM,NI:=s.NI,NK:=s.NK,NU:=s.NU},λs=> {s with st:=.ready},λx s=> {s with st:=(match x with| .ret=>(.done<|.ret) | .exit 0=> .ready|_=> .ready)},[.ret,.exit 0],jh,Xf,sK⟩
abbrev bf:=UO.run
abbrev cj:=UO.Av
theorem axo:Rq Xf zH:=by
 intro s hI;refine ⟨λc1=>⟨?_,λ_=>trivial,λ_=>trivial⟩,λ_=>trivial⟩
 ·exact ⟨aS2 s hI A8,rfl,rfl⟩
def aQ9:UO.Ok:={}
def aPt:UO.Pf (acf):=⟨alM,λs h=>by
 obtain ⟨t7,t8,Bg,GO,GM,GQ,GV,Ih,Iu,Iv,b2,b3,b4,NJ,NM,NI,NK,NU,st⟩:=s
 have e:=h.1
 subst e;rfl,agE,axo⟩
def ape:SA 7 aFs UO:=AT.snd aQ9 aPt (GP (Γ:=X7) (K:=uW) (L:=(Lv (λi=>if i=4 then Rh.lp else Al i))) (gk X7) uW.h aFs (λb hb=>by
 rw [show BD _=[aFr] by kernel_rfl] at hb
 simp only [B7,Bt,Bu] at hb;subst hb;exact apd)) λs=>AU
theorem ath:Rs jh cj bf (λs:KK=>((au<|M s.Bg).drop s.t8.toNat).all λo=>ckO (Dz<|Ag s.Bg o)<|EH s.b4 o) (λx s' (v:Bool)=>(x=.ret/\v=X/\s'.b2=U/\s'.b3=0)\/(x=.exit 0/\v=U)):=DJ aQ9 aPt (λs hI=>by
  have hin:=λc1=>aS2 s hI c1
  obtain ⟨ht,⟨h0,h1⟩,h2,h3,h4⟩:=hI;refine AH (λc1=>?_) λc1=>?_
  ·have c1:s.t8<s.t7:=AX
   have q:=atf _<|hin c1
   have e:((au<|M s.Bg).drop s.t8.toNat).all (λo=>ckO (Dz<|Ag s.Bg o)<|EH s.b4 o)=(M0 (Dz<|Ag s.Bg s.t8) (gLi s.b4 s.t8) 0&&((au<|M s.Bg).drop (s.t8+1).toNat).all (λo=>ckO (Dz<|Ag s.Bg o)<|EH s.b4 o)):=by
    rw [SZ D2,Ic,kK,show (s.t8+1).toNat=s.t8.toNat+1 by omega,CM h0,alK]
    rfl
   refine AH (λc2=>?_) λc2=>?_
   ·rcases q with ⟨q1,q2,q3,q4⟩ |⟨q1,q2⟩
    ·refine .inl ⟨rfl,?_,q3,q4⟩
     rw [e]
     have q2:M0 (Dz<|Ag s.Bg s.t8) (gLi s.b4 s.t8) 0=false:=q2
     grind
    ·rw [show dd (Ij s)=_ from q1] at c2
     cases c2
   ·rcases q with ⟨q1,q2,q3,q4⟩ |⟨q1,q2⟩
    ·rw [show dd (Ij s)=_ from q1] at c2
     cases c2
    ·show List.all _ _=List.all _ _
     rw [e]
     have q2:M0 (Dz<|Ag s.Bg s.t8) (gLi s.b4 s.t8) 0=true:=q2
     rw [q2,EA,AJ (x:=s.t8+1)]
  ·have c1:s.t7<=s.t8:=AX
   refine .inr ⟨rfl,?_⟩;rw [El D2];rfl)
def vk1 (cs:List Cd) (os:List ByteArray) (ks:List Ko) (gs:List Ch) (bs:List Ba) (am:List Int):Int:=if (an (M am=M gs)&&Bs (cj ⟨(M cs:Int),0,cs,os,ks,gs,bs,0,0,0,X,0,JB cs gs am,cs,os,ks,gs,bs,.ready⟩) (.ret))=U then (bf ⟨(M cs:Int),0,cs,os,ks,gs,bs,0,0,0,X,0,JB cs gs am,cs,os,ks,gs,bs,.ready⟩).Ih else 0
def vk2 (cs:List Cd) (os:List ByteArray) (ks:List Ko) (gs:List Ch) (bs:List Ba) (am:List Int):Int:=if (an (M am=M gs)&&Bs (cj ⟨(M cs:Int),0,cs,os,ks,gs,bs,0,0,0,X,0,JB cs gs am,cs,os,ks,gs,bs,.ready⟩) (.ret))=U then (bf ⟨(M cs:Int),0,cs,os,ks,gs,bs,0,0,0,X,0,JB cs gs am,cs,os,ks,gs,bs,.ready⟩).Iu else 0
def vk3 (cs:List Cd) (os:List ByteArray) (ks:List Ko) (gs:List Ch) (bs:List Ba) (am:List Int):Int:=if (an (M am=M gs)&&Bs (cj ⟨(M cs:Int),0,cs,os,ks,gs,bs,0,0,0,X,0,JB cs gs am,cs,os,ks,gs,bs,.ready⟩) (.ret))=U then (bf ⟨(M cs:Int),0,cs,os,ks,gs,bs,0,0,0,X,0,JB cs gs am,cs,os,ks,gs,bs,.ready⟩).Iv else 0
def aJT:List LV->T LV
 | [.agg [.xl (.pair .str (.pair (.int J) (.pair (.int J) (.pair (.int J) (.pair (.pair (.int J) (.int J)) (.pair (.int J) (.pair (.int J) (.pair (.int J) (.pair (.int J) (.int J)))))))))) cs,.xl (.str) os,.xl (.pair .str (.pair (.int J) (.pair (.int J) (.int J)))) ks,.xl (.pair .str (.pair (.int J) (.pair (.int J) (.pair (.int J) (.pair (.int J) (.pair (.int J) (.pair (.int J) (.int J)))))))) gs,.xl (.pair .str (.int J)) bs],.xl (.int J) am]=> .req (BL cs os ks gs bs=U/\(M am=M gs->∀k:Nat,k<M am->0<=gi am k/\gi am k<=80)) (.tu #[.agg #[vk1 cs os ks gs bs am,vk2 cs os ks gs bs am,vk3 cs os ks gs bs am],.bool<|an (M am=M gs)&&!HI cs gs am,JJ gs am])
 |_=> .no
def uD:List Bd:=[aaT,qj]
def azj:Ay:=kI uD<|la 1 func114 ape<|l0 uD
def WV:=vo (S:=aJT) func50 uD azj (λargs lv h=>by
 unfold aJT at h;split at h
 ·rename_i cs os ks gs bs am
  refine Aq (letI b:=(M cs:Int);letI d:=JB cs gs am;letI a:=(bf (⟨b,0,cs,os,ks,gs,bs,0,0,0,X,0,d,cs,os,ks,gs,bs,.ready⟩:KK));.req (BL cs os ks gs bs=U/\(M am=M gs->∀k:Nat,k<M am->0<=gi am k/\gi am k<=80))<|.br ((JJ gs am) !=0) (.tu #[.agg #[(0:Int),(0:Int),(0:Int)],X,(1:Int)])<|.req (UO.q (⟨b,0,cs,os,ks,gs,bs,0,0,0,X,0,d,cs,os,ks,gs,bs,.ready⟩:KK))<|.br (Bs (cj (⟨b,0,cs,os,ks,gs,bs,0,0,0,X,0,d,cs,os,ks,gs,bs,.ready⟩:KK))<|.ret) (.tu #[.agg #[a.Ih,a.Iu,a.Iv],a.b2,a.b3])<|.tu #[.agg #[(0:Int),(0:Int),(0:Int)],X,(0:Int)]) ?_;obtain ⟨hq,rfl⟩:=h
  have hv:=hq.1
  have hb:=(DF.1 hv).1
  refine ⟨hq,λc=>?_,λc=>?_⟩
  ·have hl:¬(M am)=M gs:=λh=>by unfold JJ at c;rw [AD h] at c;cases c
   unfold vk1 vk2 vk3 JJ;simp only [AE hl,I8 hl,Pq,IA,F9];rfl
  have hl:M am=M gs:=by
   unfold JJ at c;split at c
   ·assumption
   ·cases c
  have hX:JB cs gs am=ldS cs gs am (M gs):=AD hl
  have hY:JJ gs am=0:=AD hl
  rw [hY,Cm hl,EA]
  have hE:jh ⟨(M cs:Int),0,cs,os,ks,gs,bs,0,0,0,X,0,(JB cs gs am),cs,os,ks,gs,bs,.ready⟩:=⟨rfl,rfl,rfl,aN8,by show M (JB cs gs am)=M cs;rw [hX];exact qH (ox hv) (oz hv) _<|Ar _⟩
  refine ⟨⟨hE,rfl,rfl⟩,?_⟩
  have e:HI cs gs am=((au<|M cs).drop (0:Int).toNat).all (λo=>ckO (Dz<|Ag cs o)<|EH (JB cs gs am) o):=by rw [hX];rfl
  rcases ath _ hE with ⟨q1,q2,q3,q4⟩ |⟨q1,q2⟩
  ·have q2:HI cs gs am=false:=e.trans q2
   unfold vk1 vk2 vk3;simp only [Cm hl,EA];rw [q1,q3,q4,q2];exact ⟨λ_=>rfl,λh=>Ao⟩
  ·have q2:HI cs gs am=true:=e.trans q2
   unfold vk1 vk2 vk3;simp only [Cm hl,EA];rw [q1,q2];exact ⟨λh=>Ao,λ_=>rfl⟩
 ·cases h)
def atr {cs:List Cd}{os:List ByteArray}{ks:List Ko}{gs:List Ch}{bs:List Ba}(hs:BL cs os ks gs bs=U) {k:Nat}(hk:k<M (Bv gs)):0<=gi (Bv gs) k/\gi (Bv gs) k<=80:=by
 have hl:M (Bv gs)=M gs:=K0
 rw [show gi (Bv gs) (k:Int)=CO (AG gs k) from Sq A0 A0]
 have:=Oo hs (c:=(k:Int)) A0 A0
 unfold GA at this;simp only [AY] at this
 have:=dh this.2.2
 omega
structure PA where
 m:List Ch
 (k i:Int)
 out:List Int
def aF3:=bN f51 0
def wB (s:PA):T (Rd PA):=letI a:=s.out.set s.i.toNat (AG s.m s.i).2.2.2.2.2.2.1;.br (an<|s.i<s.k) (.ix s.i (M s.m)<|.ik s.i (M s.out)<|.re (M s.out) a<|.nx {s with i:=AA<|s.i+1,out:=a})<|.rl s.out<|.so (.exit 0) s
def iX (s:PA):Prop:=s.i=0/\s.k=(M s.m:Int)/\s.k<=1000/\M s.out=M s.m/\(∀j,0<=j->j<s.k->gi s.out j=0)/\True
def YW (s:PA):Prop:=(0<=s.i/\s.i<=s.k)/\s.k=(M s.m:Int)/\s.k<=1000/\M s.out=M s.m/\(∀j,0<=j->j<s.k->gi s.out j=if j<s.i then CO (AG s.m j) else 0)/\True
def tU (s:PA):Nat:=(s.k-s.i).toNat
def aAL (x:Ex) (s s':PA):Prop:=x=.exit 0/\s'.out=H7 (M s'.m) (λj=>CO<|AG s'.m j)
theorem akF:∀s,iX s->YW s:=by
 exact Sk
theorem ay6:Da YW tU aAL wB:=by
 intro s hI;obtain ⟨⟨h0,h1⟩,h2,h3,h4,h5,h6⟩:=hI;refine AH (λc1=>?_) λc1=>?_
 ·have c1:s.i<s.k:=AX
  rw [AJ (x:=s.i+1)];refine ⟨⟨⟨A8,A8⟩,h2,h3,A8,λj j0 j1=>?_,h6⟩,by simp only [tU];omega⟩
  simp only;rw [JW h0 aE j0];exact kZ
 ·exact Zh
def Ry:AT PA:=⟨0,25,[3,11,12,13],[],λs=>[.os 0 1 0<|M s.out,s.m,s.k,s.i],λs=>[bV 3 A7 s.out],λv b=>⟨B5 Ae v 1,AK v 2,AK v 3,Ab A7 b 0⟩,wB,λs r=> {r with m:=s.m,k:=s.k},λs=>s,λ_ s=>s,[.exit 0],iX,YW,tU⟩
abbrev aC8:=Ry.run
abbrev arh:=Ry.Av
def ax1:Rq YW wB:=by
 exact xZ
def aR9:List Bd:=[]
def aPP:Ry.Ok:={}
def aOd:Ry.Pf (aAL):=⟨akF,λs h=>rfl,ay6,ax1⟩
def aoO:SA 0 aF3 Ry:=s1 aPP aOd aR9 kN
def aqr:Fi iX YW aAL arh aC8:=AT.fin aPP aOd
def aJF:List LV->T LV
 | .agg a::r=>s5 a λcs os ks gs bs=>(match r with
  | []=> .req ((M gs:Int)<=1000) (.ok<|.xl A7<|Bv gs)
  |_=> .no)
 |_=> .no
def dt:=vm (S:=aJF) func51 aR9 kN (L:=(λi=>if i=3 then Ry.lp else Al i)) (λb hb=>by
 rw [show BD _=[aF3] by kernel_rfl] at hb
 simp only [B7,Bt,Bu] at hb;subst hb;exact aoO) (λargs lv h=>by
 unfold aJF at h;split at h
 case h_2=>cases h
 replace h:=IE h
 obtain ⟨cs,os,ks,gs,bs,rfl,h⟩:=h;split at h
 ·refine Aq (letI c:=(M gs:Int);letI a:=(aq c.toNat (0:Int));letI b:=(aC8 (⟨gs,c,0,a⟩:PA));.rm 8 c<|.re c.toNat a<|.req (Ry.q (⟨gs,c,0,a⟩:PA))<|.rz b.out<|.ok<|.xl A7<|(b.out.drop 0).take<|M b.out) ?_
  obtain ⟨hn,rfl⟩:=h
  have hE:iX ⟨gs,(M gs:Int),0,aq (M gs:Int).toNat 0⟩:=⟨rfl,rfl,hn,AI,λj _ _=>Nd,ak⟩
  obtain ⟨_,_,q1,q2⟩:=aqr _ hE
  have q2:(aC8 ⟨gs,(M gs:Int),0,aq (M gs:Int).toNat 0⟩).out=Bv gs:=q2
  refine ⟨A0,⟨rfl,AI⟩,⟨hE,rfl,rfl⟩,A0,?_⟩
  show LV.xl _ _=_
  rw [CP,EN,q2]
 ·cases h)
def aJD:List LV->T LV
 | .agg a::r=>s5 a λcs os ks gs bs=>(match r with
  | []=> .req (BL cs os ks gs bs=U) (.ok<|.v<|.bool<|!HI cs gs (Bv gs))
  |_=> .no)
 |_=> .no
def azM:List Bd:=[WV,dt]
def dq:=vo (S:=aJD) func26 azM kN (λargs lv h=>by
 unfold aJD at h;split at h
 case h_2=>cases h
 replace h:=IE h
 obtain ⟨cs,os,ks,gs,bs,rfl,h⟩:=h;split at h
 ·refine Aq (.req ((M gs:Int)<=1000)<|.req (BL cs os ks gs bs=U/\(M (Bv gs)=M gs->∀k:Nat,k<M (Bv gs)->0<=gi (Bv gs) k/\gi (Bv gs) k<=80))<|.ok<|.v<|.bool<|((JJ gs<|Bv gs)==0)&&(an (M (Bv gs)=M gs)&&!HI cs gs (Bv gs))) ?_
  obtain ⟨hs,rfl⟩:=h
  have hg:=(DF.1 hs).1
  have hl:M (Bv gs)=M gs:=K0
  have hY:JJ gs (Bv gs)=0:=AD hl
  refine ⟨A0,⟨hs,λ_ k hk=>atr hs hk⟩,?_⟩
  rw [hY,Cm hl];rfl
 ·cases h)
def aJ5:List LV->T LV
 | [.v (.agg ⟨[.string nm,Y J at_,Y J ph,Y J mn,Y J mx,Y J st,Y J fb,Y J ow]⟩),.v (.agg ⟨[Y J sp,Y J sa,Y J sl,.bool sw]⟩)]=> .ok (sV (nm,at_,ph,mn,mx,st,fb,ow) (sp,sa,sl,sw))
 |_=> .no
def akn:List Bd:=[WK,aaO,cF]
def aJZ:=vo (S:=aJ5) func23 akn kN (λargs lv h=>by
 unfold aJ5 at h;split at h
 ·rename_i nm at_ ph mn mx st fb ow sp sa sl sw
  refine Aq (.br (!(IW ph mn mx st fb)) (.ok X)<|.br ((sp==0)&&((sa==0)&&((sl==0)&&(sw==X)))) (.ok U)<|.ok<|.v<|.bool<|(inB sp (0:Int) (5:Int))&&((inB sl (0:Int) (1000000:Int))&&((inB sa (0:Int) mx)&&(if sl !=0 then (!sw) ||(sp==5) else (sa==0)&&((!sw) ||(sp==5)))))) ?_
  obtain rfl:=h;refine ⟨λh1=>?_,λh1=>⟨λh2=>?_,λh2=>?_⟩⟩
  all_goals refine B0 (λz=>LV.v<|.bool z) ?_
  ·simp at h1;simp [sV,h1]
  ·simp at h1 h2
   obtain ⟨rfl,rfl,rfl,rfl⟩:=h2
   have:=cd.1 h1
   rw [Sh,Nb]
   simp [h1];omega
  ·simp at h1
   unfold sV;simp only;rw [h1]
   by_cases hl:sl=0
   ·simp [hl]
   ·have:(sl !=0)=true:=lP
    simp [this]
 ·cases h)
def aRf:List LV->T LV
 | [.v (.agg ⟨[.string nm,Y J at_,Y J ph,Y J mn,Y J mx,Y J st,Y J fb,Y J ow]⟩),.v (.agg ⟨[Y J ek,Y J en,Y J em]⟩)]=> .req (ek≠0) (.ok<|evV mx ek en em)
 |_=> .no
def akm:List Bd:=[cF]
def ai4:=vo (S:=aRf) func134 akm kN (λargs lv h=>by
 unfold aRf at h;split at h
 ·rename_i nm at_ ph mn mx st fb ow ek en em
  refine Aq (.br (ek==4) (.ok<|inB en (0:Int) (1:Int))<|.br (ek==6) (.ok<|inB en (0:Int) (2:Int))<|.br (ek==7) (.br (!(inB em (1:Int) (1000000:Int))) (.ok X)<|.ok<|inB en (0:Int) mx)<|.br (ek==0) (.ok<|inB en (0:Int) mx)<|.ok U) ?_;obtain ⟨h0,rfl⟩:=h;refine ⟨λh1=>?_,λh1=>⟨λh2=>?_,λh2=>⟨λh3=>⟨λh4=>?_,λh4=>?_⟩,λh3=>⟨λh4=>?_,λh4=>?_⟩⟩⟩⟩
  all_goals refine B0 (λz=>LV.v<|.bool z) ?_
  all_goals simp_all [evV]
 ·cases h)
def aIZ:List LV->T LV
 | [.v (.agg ⟨[Y J sp,Y J sa,Y J sl,.bool sw]⟩),.v (.agg ⟨[Y J ek,Y J en,Y J em]⟩)]=> .ok (.v<|.agg #[dcP sp sw ek en,sa,sl,dcW sw ek en])
 |_=> .no
def akl:List Bd:=[]
def av5:=vo (S:=aIZ) func135 akl kN (λargs lv h=>by
 unfold aIZ at h;split at h
 ·rename_i sp sa sl sw ek en em
  refine Aq (.br (ek==4) (.br (en==1) (.ok<|.v<|.agg #[(3:Int),sa,sl,sw])<|.ok<|.v<|.agg #[(5:Int),sa,sl,sw])<|.br (ek==6) (.br (en==0) (.ok<|.v<|.agg #[(1:Int),sa,sl,.bool<|en==1])<|.ok<|.v<|.agg #[(5:Int),sa,sl,.bool<|en==1])<|.br (ek==2) (.br (!sw) (.ok<|.v<|.agg #[(0:Int),sa,sl,sw])<|.ok<|.v<|.agg #[sp,sa,sl,sw])<|.br (ek==9) (.br (!sw) (.ok<|.v<|.agg #[(1:Int),sa,sl,sw])<|.ok<|.v<|.agg #[sp,sa,sl,sw])<|.ok<|.v<|.agg #[sp,sa,sl,sw]) ?_;obtain rfl:=h
  have fin:∀(p:Int) (q:Bool),p=dcP sp sw ek en->q=dcW sw ek en->LV.v (.agg #[Y J p,Y J sa,Y J sl,.bool q])=LV.v (.agg #[Y J<|dcP sp sw ek en,Y J sa,Y J sl,.bool<|dcW sw ek en]):=λp q h1 h2=>A8
  refine ⟨λh1=>⟨λh2=>?_,λh2=>?_⟩,λh1=>⟨λh2=>⟨λh3=>?_,λh3=>?_⟩,λh2=>⟨λh3=>⟨λh4=>?_,λh4=>?_⟩,λh3=>⟨λh4=>⟨λh5=>?_,λh5=>?_⟩,λh4=>?_⟩⟩⟩⟩
  all_goals refine fin _ _ ?_ ?_
  all_goals simp_all [dcP,dcW]
 ·cases h)
def aSI:List LV->T LV
 | [.v (.agg ⟨[.string nm,Y J at_,Y J ph,Y J mn,Y J mx,Y J st,Y J fb,Y J ow]⟩),.v (.agg ⟨[Y J sp,Y J sa,Y J sl,.bool sw]⟩),.v (.agg ⟨[Y J ek,Y J en,Y J em]⟩)]=> .tu #[.agg #[(sN (nm,at_,ph,mn,mx,st,fb,ow) (sp,sa,sl,sw) ek en em).1,(sN (nm,at_,ph,mn,mx,st,fb,ow) (sp,sa,sl,sw) ek en em).2.1,(sN (nm,at_,ph,mn,mx,st,fb,ow) (sp,sa,sl,sw) ek en em).2.2.1,(sN (nm,at_,ph,mn,mx,st,fb,ow) (sp,sa,sl,sw) ek en em).2.2.2],sE (nm,at_,ph,mn,mx,st,fb,ow) (sp,sa,sl,sw) ek en em]
 |_=> .no
def zq:List Bd:=[aJZ,cF,ai4,av5]
def akx:Ay:=kI zq<|l0 zq
def Qy:=vo (S:=aSI) func102 zq akx (λargs lv h=>by
 unfold aSI at h;split at h
 ·rename_i nm at_ ph mn mx st fb ow sp sa sl sw ek en em
  refine Aq (letI a:=We<|ek.toNat*6+(sp.toNat*1+0);letI c:=AA<|sl-1;letI d:=dcP sp sw ek en;letI f:=dcW sw ek en;.br (!(sV (nm,at_,ph,mn,mx,st,fb,ow) (sp,sa,sl,sw))) (.tu #[.agg #[(0:Int),(0:Int),(0:Int),X],(1:Int)])<|.br (!(inB ek (1:Int) (9:Int))) (.tu #[.agg #[(0:Int),(0:Int),(0:Int),X],(9:Int)])<|.req (ek≠0)<|.br (!(evV mx ek en em)) (.tu #[.agg #[(0:Int),(0:Int),(0:Int),X],(1:Int)])<|.req (0<=ek/\ek<(10:Int))<|.req (0<=sp/\sp<(6:Int))<|.br (a==(-1)) (.tu #[.agg #[(0:Int),(0:Int),(0:Int),X],(6:Int)])<|.br (a==(-2)) (.br (ek==7) (.tu #[.agg #[sp,en,em,sw],(0:Int)])<|.br (ek==8) (.br ((if (0:Int)<c then AA (sl-1) else 0)==0) (.tu #[.agg #[sp,(0:Int),Y J (if (0:Int)<c then AA (sl-1) else 0),sw],(0:Int)])<|.tu #[.agg #[sp,sa,Y J (if (0:Int)<c then AA (sl-1) else 0),sw],(0:Int)])<|.br (ek==9) (.tu #[.agg #[sp,(0:Int),(0:Int),sw],(0:Int)])<|.tu #[.agg #[sp,sa,sl,sw],(0:Int)])<|.br (a==(-3)) (.br (ek==7) (.tu #[.agg #[d,en,em,f],(0:Int)])<|.br (ek==8) (.br ((if (0:Int)<c then AA (sl-1) else 0)==0) (.tu #[.agg #[d,(0:Int),Y J (if (0:Int)<c then AA (sl-1) else 0),f],(0:Int)])<|.tu #[.agg #[d,sa,Y J (if (0:Int)<c then AA (sl-1) else 0),f],(0:Int)])<|.br (ek==9) (.tu #[.agg #[d,(0:Int),(0:Int),f],(0:Int)])<|.tu #[.agg #[d,sa,sl,f],(0:Int)])<|.br (ek==7) (.tu #[.agg #[a,en,em,sw],(0:Int)])<|.br (ek==8) (.br ((if (0:Int)<c then AA (sl-1) else 0)==0) (.tu #[.agg #[a,(0:Int),Y J (if (0:Int)<c then AA (sl-1) else 0),sw],(0:Int)])<|.tu #[.agg #[a,sa,Y J (if (0:Int)<c then AA (sl-1) else 0),sw],(0:Int)])<|.br (ek==9) (.tu #[.agg #[a,(0:Int),(0:Int),sw],(0:Int)])<|.tu #[.agg #[a,sa,sl,sw],(0:Int)]) ?_
  obtain rfl:=h
  have bad:∀e,e≠0->(sE (nm,at_,ph,mn,mx,st,fb,ow) (sp,sa,sl,sw) ek en em)=e->LV.v (.tuple #[.agg #[Y J 0,Y J 0,Y J 0,.bool X],Y J e])=LV.v (.tuple #[.agg #[Y J (sN (nm,at_,ph,mn,mx,st,fb,ow) (sp,sa,sl,sw) ek en em).1,Y J (sN (nm,at_,ph,mn,mx,st,fb,ow) (sp,sa,sl,sw) ek en em).2.1,Y J (sN (nm,at_,ph,mn,mx,st,fb,ow) (sp,sa,sl,sw) ek en em).2.2.1,.bool (sN (nm,at_,ph,mn,mx,st,fb,ow) (sp,sa,sl,sw) ek en em).2.2.2],Y J<|sE (nm,at_,ph,mn,mx,st,fb,ow) (sp,sa,sl,sw) ek en em]):=λe h0 h1=>by
   unfold sN;rw [h1];simp only [AE h0]
  have good:∀(p q r:Int) (b:Bool),(sE (nm,at_,ph,mn,mx,st,fb,ow) (sp,sa,sl,sw) ek en em)=0->p=Hy sp sw ek en->q=sA sa sl ek en->r=sL sl ek em->b=sW sw ek en->LV.v (.tuple #[.agg #[Y J p,Y J q,Y J r,.bool b],Y J 0])=LV.v (.tuple #[.agg #[Y J (sN (nm,at_,ph,mn,mx,st,fb,ow) (sp,sa,sl,sw) ek en em).1,Y J (sN (nm,at_,ph,mn,mx,st,fb,ow) (sp,sa,sl,sw) ek en em).2.1,Y J (sN (nm,at_,ph,mn,mx,st,fb,ow) (sp,sa,sl,sw) ek en em).2.2.1,.bool (sN (nm,at_,ph,mn,mx,st,fb,ow) (sp,sa,sl,sw) ek en em).2.2.2],Y J<|sE (nm,at_,ph,mn,mx,st,fb,ow) (sp,sa,sl,sw) ek en em]):=λp q r b h0 h1 h2 h3 h4=>by
   unfold sN;rw [h0,h1,h2,h3,h4];simp only [Bm]
  refine ⟨λh1=>bad 1 Aa (by simp at h1;simp [sE,h1]),λh1=>⟨λh2=>bad 9 Aa (by simp at h1 h2;simp [sE,h1,h2]),λh2=>?_⟩⟩
  simp only [I5] at h1 h2
  have h2':=BV.1 h2
  refine ⟨A0,λh3=>bad 1 Aa (by simp at h3;simp [sE,h1,h2,h3]),λh3=>?_⟩
  simp only [I5] at h3;obtain ⟨g1,g2,g3,g4,g5,g6,g7,g8,g9⟩:=Nb.1 h1;simp only at g2 g3 g4 g5 g6 g7 g8 g9
  have hw:AA (sl-1)=sl-1:=AJ
  have hn:(sE (nm,at_,ph,mn,mx,st,fb,ow) (sp,sa,sl,sw) ek en em)=if Hy sp sw ek en<0 then 6 else 0:=by simp [sE,h1,h2,h3]
  have htk:(if (0:Int)<sl-1 then sl-1 else 0)=M3 sl:=rfl
  rw [hw,htk];refine ⟨A0,A0,?_⟩
  have hz:sw=X\/(sw=U/\sp=5):=by cases sw<;>simp_all
  rw [ahJ A0 A0 A0 A0]
  clear h1 h2 h3 bad good g1 g4 g5 g6 g7 g9 hw htk
  rcases hz with rfl|⟨rfl,rfl⟩
  ·rcases nine h2'.1 h2'.2 with rfl|rfl|rfl|rfl|rfl|rfl|rfl|rfl|rfl<;>rcases amb g2 g3 with rfl|rfl|rfl|rfl|rfl|rfl
   all_goals simp [T.all,mQ,sN,hn,Hy,sA,sL,sW,dcP,dcW]
   all_goals (try omega)
   all_goals (by_cases h4:en=1<;>by_cases h5:en=0<;>simp_all)
  ·rcases nine h2'.1 h2'.2 with rfl|rfl|rfl|rfl|rfl|rfl|rfl|rfl|rfl
   all_goals simp [T.all,mQ,sN,hn,Hy,sA,sL,sW,dcP,dcW]
   all_goals (try omega)
 ·cases h)
def aSQ:List LV->T LV
 | [.v (.agg ⟨[.string nm,Y J at_,Y J ph,Y J mn,Y J mx,Y J st,Y J fb,Y J ow]⟩),.v (.agg ⟨[Y J sp,Y J sa,Y J sl,.bool sw]⟩)]=> .ok (BX (nm,at_,ph,mn,mx,st,fb,ow) (sp,sa,sl,sw))
 |_=> .no
def akk:List Bd:=[aJZ]
def Qz:=vo (S:=aSQ) func10 akk kN (λargs lv h=>by
 unfold aSQ at h;split at h
 ·rename_i nm at_ ph mn mx st fb ow sp sa sl sw
  refine Aq (.br (!(sV (nm,at_,ph,mn,mx,st,fb,ow) (sp,sa,sl,sw))) (.ok (0:Int))<|.br sw (.ok mx)<|.br (sp !=4) (.ok (0:Int))<|.br (sl !=0) (.ok sa)<|.ok fb) ?_;obtain rfl:=h;refine ⟨λh1=>?_,λh1=>⟨λh2=>?_,λh2=>⟨λh3=>?_,λh3=>⟨λh4=>?_,λh4=>?_⟩⟩⟩⟩
  all_goals refine B0 (λz=>LV.v<|Y J z) ?_
  all_goals simp_all [BX]
 ·cases h)
structure Lp where
 most:Int
 r:Bool
 l:List Int
 (n i:Int)
def aHU:=bN f129 0
def lX (s:Lp):T (Rd Lp):=
 .br (an<|s.i<s.n) (.ix s.i (M s.l)<|.br ((an<|(gi s.l s.i)<0) ||(an<|(gi s.l s.i)>s.most)) (.so (.ret) {s with r:=X})<|.nx {s with i:=AA<|s.i+1}) (.so (.exit 0) s)
def Uj (s:Lp) (j:Int):Bool:=inB (gi s.l j) 0 s.most
def mK (s:Lp):Prop:=s.i=0/\0<=s.n/\s.n<=1000/\s.n=(M s.l:Int)
def bE (s:Lp):Prop:=0<=s.i/\s.i<=s.n/\s.n<=1000/\(s.n=(M s.l:Int))/\∀j:Nat,(j:Int)<s.i->Uj s j=U
def za (s:Lp):Nat:=(s.n-s.i).toNat
def wS (x:Ex) (s s':Lp):Prop:=(x=.exit 0/\∀j:Nat,(j:Int)<s'.n->Uj s' j=U)\/(x=.ret/\s'.r=X/\∃j:Nat,(j:Int)<s'.n/\Uj s' j=X)
def amZ:∀s,mK s->bE s:=by
 exact L3
theorem aiQ:Da bE za wS lX:=by
 intro s hI;unfold lX;obtain ⟨h0,h1,h2,h3,h4⟩:=hI;refine AH (λc1=>AH (λc2=>?_) λc2=>?_) λc1=>?_
 ·have c1:s.i<s.n:=AX
  refine .inr ⟨rfl,rfl,s.i.toNat,A8,?_⟩
  have hg:Uj s s.i=false:=aMe
  exact hg
 ·have c1:s.i<s.n:=AX
  have hg:Uj s s.i=true:=aMe
  rw [AJ (x:=s.i+1)];refine ⟨⟨A8,A8,h2,h3,λj hj=>?_⟩,by simp only [za];omega⟩
  exact L2
 ·exact Sg
def SI:AT Lp:=⟨0,21,[0,4,7,8,9],[],λs=>[s.most,s.r,.xl A7 s.l,s.n,s.i],λ_=>[],λv b=>⟨AK v 0,Ec v 1,B5 A7 v 2,AK v 3,AK v 4⟩,lX,λs r=> {s with r:=r.r,i:=r.i},λs=>s,λ_ s=>s,[.ret,.exit 0],mK,bE,za⟩
abbrev aOF:=SI.run
abbrev aRF:=SI.Av
def aip:Rq bE lX:=by
 exact Sj
def aRC:List Bd:=[]
def abO:SI.Ok:={}
def aTl:SI.Pf (wS):=⟨amZ,λs h=>rfl,aiQ,aip⟩
def aw8:SA 0 aHU SI:=s1 abO aTl aRC kN
def auZ:Fi mK bE wS aRF aOF:=AT.fin abO aTl
def aSR:List LV->T LV
 | [.v (Y J most),.xl (.int J) ns]=> .req (M ns<=1000) (.ok<|ns.all λp=>inB p 0 most)
 |_=> .no
def aaP:=vm (S:=aSR) func129 aRC kN (L:=(λi=>if i=2 then SI.lp else Al i)) (λb hb=>by
 rw [show BD _=[aHU] by kernel_rfl] at hb
 simp only [B7,Bt,Bu] at hb;subst hb;exact aw8) (λargs lv h=>by
 unfold aSR at h;split at h
 ·rename_i most ns
  refine Aq (letI a:=(M ns:Int);.req (SI.q (⟨most,X,ns,a,0⟩:Lp))<|.br (Bs (aRF (⟨most,X,ns,a,0⟩:Lp))<|.ret) (.ok (aOF (⟨most,X,ns,a,0⟩:Lp)).r)<|.ok U) ?_;obtain ⟨h0,rfl⟩:=h
  have hE:mK ⟨most,X,ns,(M ns:Int),0⟩:=⟨rfl,AZ,AZ,rfl⟩
  obtain ⟨s',hI,hq⟩:=auZ _ hE;rw [aRp];refine ⟨⟨hE,rfl,rfl⟩,?_⟩;rcases hq with ⟨q1,q2⟩ |⟨q1,q2,j,q3,q4⟩<;>rw [q1]
  ·rw [show Dc (M ns) (λj=>inB (gi ns j) 0 most)=U from Dy.2 q2]
   exact ⟨λh=>Ao,λ_=>rfl⟩
  ·rw [q2,show Dc (M ns) (λj=>inB (gi ns j) 0 most)=X from QP j q3 q4]
   exact ⟨λ_=>rfl,λh=>Ao⟩
 ·cases h)
def aSj:List LV->T LV
 | [.v (.agg ⟨[Y J sr,Y J rg,.bool bk]⟩)]=> .ok (meV (sr,rg,bk))
 |_=> .no
def azW:List Bd:=[aaP]
def aiF:=vo (S:=aSj) func128 azW kN (λargs lv h=>by
 unfold aSj at h;split at h
 ·rename_i sr rg bk
  refine Aq (.req (M ([sr])<=1000)<|.br (([sr]).all λp=>inB p 0 (1000000:Int)) (.br (an<|rg>=(-1000000000000000)) (.ok<|an<|rg<=1000000000000000)<|.ok X)<|.ok X) ?_
  obtain rfl:=h;refine ⟨AI,λc1=>⟨λc2=>?_,λc2=>?_⟩,λc1=>?_⟩
  all_goals refine B0 (λz=>LV.v<|.bool z) ?_
  all_goals simp only [Ic,List.all_nil,k6] at c1
  all_goals first|(simp_all [meV];done) |(simp_all [meV];omega)
 ·cases h)
def aSk:List LV->T LV
 | [.v (.agg ⟨[Y J sr,Y J rg,.bool bk]⟩),.v (Y J a),.v (Y J p)]=> .tu #[.agg #[(I0 (sr,rg,bk) a p).1,(I0 (sr,rg,bk) a p).2.1,(I0 (sr,rg,bk) a p).2.2],GF (sr,rg,bk) a p]
 |_=> .no
def uM:List Bd:=[aiF,aaP]
def azv:Ay:=kI uM<|l0 uM
def XC:=vo (S:=aSk) func99 uM azv (λargs lv h=>by
 unfold aSk at h;split at h
 ·rename_i sr rg bk a p
  refine Aq (letI b:=AA<|2300*a;.br (!(meV (sr,rg,bk))) (.tu #[.agg #[(0:Int),(0:Int),X],(1:Int)])<|.req (M ([a])<=1000)<|.br (!(([a]).all λp=>inB p 0 (80:Int))) (.tu #[.agg #[(0:Int),(0:Int),X],(1:Int)])<|.req (M ([p])<=1000)<|.br (!(([p]).all λp=>inB p 0 (3:Int))) (.tu #[.agg #[(0:Int),(0:Int),X],(1:Int)])<|.br bk (.br (!(meV (sr,(AA<|rg-(AA<|b*p)),bk))) (.tu #[.agg #[(0:Int),(0:Int),X],(3:Int)])<|.tu #[.agg #[sr,(AA<|rg-(AA<|b*p)),bk],(0:Int)])<|.br (!(meV (sr,(AA<|rg+(AA<|b*p)),bk))) (.tu #[.agg #[(0:Int),(0:Int),X],(3:Int)])<|.tu #[.agg #[sr,(AA<|rg+(AA<|b*p)),bk],(0:Int)]) ?_
  obtain rfl:=h
  have fin:∀(x1 x2:Int) (x3:Bool) (e:Int),(x1,x2,x3)=I0 (sr,rg,bk) a p->e=GF (sr,rg,bk) a p->LV.v (.tuple #[.agg #[Y J x1,Y J x2,.bool x3],Y J e])=LV.v (.tuple #[.agg #[Y J (I0 (sr,rg,bk) a p).1,Y J (I0 (sr,rg,bk) a p).2.1,.bool (I0 (sr,rg,bk) a p).2.2],Y J<|GF (sr,rg,bk) a p]):=by
   intro x1 x2 x3 e h1 h2;rw [h2,<-h1]
  have hw:meV (sr,rg,bk)=U->inB a 0 80=U->inB p 0 3=U->AA (rg-AA (AA (2300*a)*p))=rg-2300*a*p/\AA (rg+AA (AA (2300*a)*p))=rg+2300*a*p:=by
   intro h1 h2 h3
   simp [meV,inB] at h1 h2 h3
   have hm:0<=2300*a*p/\2300*a*p<=552000:=⟨Ib A0 A0,OR (Int.mul_le_mul (by omega:2300*a<=184000) (by omega:p<=3) A0 A0) A0⟩
   rw [AJ (x:=2300*a),AJ (x:=2300*a*p)];exact ⟨AJ,AJ⟩
  simp only [Ic,List.all_nil,k6];refine ⟨λc1=>?_,λc1=>⟨AI,λc2=>?_,λc2=>⟨AI,λc3=>?_,λc3=>?_⟩⟩⟩
  ·refine fin _ _ _ _ ?_ ?_<;>simp at c1<;>simp [I0,GF,mcB,c1]
  ·refine fin _ _ _ _ ?_ ?_<;>simp at c1 c2<;>simp [I0,GF,mcB,c1,c2]
  ·refine fin _ _ _ _ ?_ ?_<;>simp at c1 c2 c3<;>simp [I0,GF,mcB,c1,c2,c3]
  ·simp at c1 c2 c3
   obtain ⟨w1,w2⟩:=hw c1 c2 c3;rw [w1,w2];refine ⟨λc4=>⟨λc5=>?_,λc5=>?_⟩,λc4=>⟨λc5=>?_,λc5=>?_⟩⟩<;>subst c4<;>simp at c5<;>refine fin _ _ _ _ ?_ ?_<;>simp [I0,GF,mcB,mcR,c1,c2,c3,c5]
 ·cases h)
def aSa:List LV->T LV
 | [.v (Y J n),.v (Y J a),.v (Y J b)]=> .ok (inB n a b)
 |_=> .no
def azV:List Bd:=[]
def Ts:=vo (S:=aSa) func49 azV kN (λargs lv h=>by
 unfold aSa at h;split at h
 ·rename_i n a b
  refine Aq (.ok<|.v<|.bool<|(an<|n>=a)&&(an<|n<=b)) ?_;exact h
 ·cases h)
def aS5:List LV->T LV
 | [.v (Y J n)]=> .ok (inB n (-200) 200)
 |_=> .no
def azU:List Bd:=[Ts]
def fe:=vo (S:=aS5) func25 azU kN (λargs lv h=>by
 unfold aS5 at h;split at h
 ·rename_i n
  refine Aq (.ok<|inB n (-200:Int) (200:Int)) ?_;exact h
 ·cases h)
def oX (e:Ty):LV->Option (List e.D)
 | .xl e' l=>match Jf e' e with
  |some ⟨h⟩=>ah (KX h l)
  |none=>aj
 |_=>aj
def II {e:Ty}{x:LV}{l:List e.D}(h:oX e x=ah l):x=.xl e l:=by
 unfold oX at h;split at h
 ·split at h
  ·rename_i h2 _
   subst h2;cases h;rfl
  ·cases h
 ·cases h
def oI:LV->Option Int
 | .v (Y J n)=>ah n
 |_=>aj
def zR {x:LV}{n:Int}(h:oI x=ah n):x=.v (Y J n):=by
 unfold oI at h;exact xk
def oB:LV->Option Bool
 | .v (.bool n)=>ah n
 |_=>aj
def akJ {x:LV}{n:Bool}(h:oB x=ah n):x=.v (.bool n):=by
 unfold oB at h;exact xk
def Mz:LV->Option PK
 | .agg [a0,a1,a2,a3,a4,a5,a6,a7,a8,a9,a10,a11,a12,a13,a14,a15,a16,a17,a18,a19]=>(oX Ad a0).bind λcs=>(oX .str a1).bind λos=>(oX Ai a2).bind λks=>(oX Ae a3).bind λgs=>(oX Aj a4).bind λbs=>(oI a5).bind λtk=>(oB a6).bind λup=>(oX AQ a7).bind λls=>(oI a8).bind λse=>(oX (.int aw) a9).bind λfl=>(oX Am a10).bind λra=>(oI a11).bind λnx=>(oX B3 a12).bind λst=>(oX AQ a13).bind λca=>(oX B6 a14).bind λmi=>(oX BQ a15).bind λme=>(oX Au a16).bind λdm=>(oX BM a17).bind λlk=>(oX A7 a18).bind λdr=>(oX A7 a19).bind λtg=>ah ⟨cs,os,ks,gs,bs,tk,up,ls,se,fl,ra,nx,st,ca,mi,me,dm,lk,dr,tg⟩
 |_=>aj
def WB {x:LV}{p:PK}(h:Mz x=ah p):x=(p):=by
 unfold Mz at h;split at h
 ·simp only [Option.bind_eq_some_iff] at h
  obtain ⟨cs,h0,os,h1,ks,h2,gs,h3,bs,h4,tk,h5,up,h6,ls,h7,se,h8,fl,h9,ra,h10,nx,h11,st,h12,ca,h13,mi,h14,me,h15,dm,h16,lk,h17,dr,h18,tg,h19,h⟩:=h;cases h;rw [II h0,II h1,II h2,II h3,II h4,zR h5,akJ h6,II h7,zR h8,II h9,II h10,zR h11,II h12,II h13,II h14,II h15,II h16,II h17,II h18,II h19]
 ·cases h
def W7:=bN f30 0
def P8:List Bd:=[P1,fe,Ts]
def aor:Sound prog AV (.loop W7) (J2 prog AV P8 Fp 20 2 W7):=Ss (gk P8) kN.h 20 2 W7
structure OA where
 r:Bool
 n:Int
 l:List Int
 (m i:Int)
 p:PK
def aF0:=bN f30 1
def wA (s:OA):T (Rd OA):=
 .br (an<|s.i<s.m) (.ix s.i (M s.l)<|.ix s.i (M s.p.cs)<|.br (!(inB (gi s.l s.i) (1:Int) (Ag s.p.cs s.i).2.2.1)) (.so (.ret) {s with r:=X})<|.nx {s with i:=AA<|s.i+1}) (.so (.exit 2) s)
def Rl (s:OA) (j:Int):Bool:=inB (gi s.l j) 1 (Ag s.p.cs j).2.2.1
def iV (s:OA):Prop:=s.i=0/\0<=s.m/\s.m<=1000/\s.m=(M s.l:Int)/\M s.l=M s.p.cs
def YT (s:OA):Prop:=0<=s.i/\s.i<=s.m/\s.m<=1000/\(s.m=(M s.l:Int)/\M s.l=M s.p.cs)/\∀j:Nat,(j:Int)<s.i->Rl s j=U
def tQ (s:OA):Nat:=(s.m-s.i).toNat
def aA9 (x:Ex) (s s':OA):Prop:=(x=.exit 2/\∀j:Nat,(j:Int)<s'.m->Rl s' j=U)\/(x=.ret/\s'.r=X/\∃j:Nat,(j:Int)<s'.m/\Rl s' j=X)
def akA:∀s,iV s->YT s:=by
 exact L3
theorem axy:Da YT tQ aA9 wA:=by
 intro s hI;obtain ⟨h0,h1,h2,h3,h4⟩:=hI;refine AH (λc1=>AH (λc2=>?_) λc2=>?_) λc1=>?_
 ·have c1:s.i<s.m:=AX
  refine .inr ⟨rfl,rfl,s.i.toNat,AZ,?_⟩
  have hg:Rl s s.i=false:=by unfold Rl;simp_all
  exact hg
 ·have c1:s.i<s.m:=AX
  have hg:Rl s s.i=true:=by unfold Rl;simp_all
  rw [AJ (x:=s.i+1)];refine ⟨⟨A8,A8,h2,h3,λj hj=>?_⟩,by simp only [tQ];omega⟩
  exact L2
 ·exact xx
def Qp:AT OA:=⟨0,105,[1,2,3,61,62,63],[],λs=>[.own 0 0,s.r,s.n,.xl A7 s.l,s.m,s.i],λs=>[pB s.p],λv b=>⟨Ec v 1,AK v 2,B5 A7 v 3,AK v 4,AK v 5,rQ b 0⟩,wA,λs r=> {s with r:=r.r,i:=r.i},λs=>s,λ_ s=>s,[.ret,.exit 2],iV,YT,tQ⟩
abbrev oH:=Qp.run
abbrev dY:=Qp.Av
def aww:Rq YT wA:=by
 exact aL0
def aPp:Qp.Ok:={}
def aPI:Qp.Pf (aA9):=⟨akA,λs h=>rfl,axy,aww⟩
def aou:SA 0 aF0 Qp:=s1 aPp aPI P8 kN
def apS:Fi iV YT aA9 dY oH:=AT.fin aPp aPI
structure O9 where
 r:Bool
 n:Int
 l:List Int
 (m i:Int)
 p:PK
def aEz:=bN f30 2
def w9 (s:O9):T (Rd O9):=
 .br (an<|s.i<s.m) (.ix s.i (M s.l)<|.br (!(inB (gi s.l s.i) (-200) 200)) (.so (.ret) {s with r:=X})<|.nx {s with i:=AA<|s.i+1}) (.so (.exit 4) s)
def Rk (s:O9) (j:Int):Bool:=inB (gi s.l j) (-200) 200
def iU (s:O9):Prop:=s.i=0/\0<=s.m/\s.m<=1000/\s.m=(M s.l:Int)
def YS (s:O9):Prop:=0<=s.i/\s.i<=s.m/\s.m<=1000/\(s.m=(M s.l:Int))/\∀j:Nat,(j:Int)<s.i->Rk s j=U
def tP (s:O9):Nat:=(s.m-s.i).toNat
def aA8 (x:Ex) (s s':O9):Prop:=(x=.exit 4/\∀j:Nat,(j:Int)<s'.m->Rk s' j=U)\/(x=.ret/\s'.r=X/\∃j:Nat,(j:Int)<s'.m/\Rk s' j=X)
def ak9:∀s,iU s->YS s:=by
 exact L3
theorem axx:Da YS tP aA8 w9:=by
 intro s hI;obtain ⟨h0,h1,h2,h3,h4⟩:=hI;refine AH (λc1=>AH (λc2=>?_) λc2=>?_) λc1=>?_
 ·have c1:s.i<s.m:=AX
  refine .inr ⟨rfl,rfl,s.i.toNat,A8,?_⟩
  have hg:Rk s s.i=false:=by unfold Rk;simp_all
  exact hg
 ·have c1:s.i<s.m:=AX
  have hg:Rk s s.i=true:=by unfold Rk;simp_all
  rw [AJ (x:=s.i+1)];refine ⟨⟨A8,A8,h2,h3,λj hj=>?_⟩,by simp only [tP];omega⟩
  exact L2
 ·exact xx
def Qo:AT O9:=⟨0,105,[1,2,3,80,81,82],[],λs=>[.own 0 0,s.r,s.n,.xl A7 s.l,s.m,s.i],λs=>[pB s.p],λv b=>⟨Ec v 1,AK v 2,B5 A7 v 3,AK v 4,AK v 5,rQ b 0⟩,w9,λs r=> {s with r:=r.r,i:=r.i},λs=>s,λ_ s=>s,[.ret,.exit 4],iU,YS,tP⟩
abbrev oG:=Qo.run
abbrev dX:=Qo.Av
def awv:Rq YS w9:=by
 exact Sj
def aPo:Qo.Ok:={}
def aPH:Qo.Pf (aA8):=⟨ak9,λs h=>rfl,axx,awv⟩
def aot:SA 0 aEz Qo:=s1 aPo aPH P8 kN
def apQ:Fi iU YS aA8 dX oG:=AT.fin aPo aPH
structure O8 where
 r:Bool
 n:Int
 l:List Lk
 (m i:Int)
def aEy:=bN f30 3
def w8 (s:O8):T (Rd O8):=
 .br (an<|s.i<s.m) (.ix s.i (M s.l)<|.br (!(inB (Fb s.l s.i).2.2.1 (0:Int)<|AA<|s.n-1)) (.so (.ret) {s with r:=X})<|.nx {s with i:=AA<|s.i+1}) (.so (.exit 6) s)
def Tg (s:O8) (j:Int):Bool:=inB (Fb s.l j).2.2.1 0<|s.n-1
def jZ (s:O8):Prop:=s.i=0/\0<=s.m/\s.m<=100000000/\s.m=(M s.l:Int)/\0<=s.n/\s.n<=16
def YR (s:O8):Prop:=0<=s.i/\s.i<=s.m/\s.m<=100000000/\(s.m=(M s.l:Int)/\0<=s.n/\s.n<=16)/\∀j:Nat,(j:Int)<s.i->Tg s j=U
def tO (s:O8):Nat:=(s.m-s.i).toNat
def aA7 (x:Ex) (s s':O8):Prop:=(x=.exit 6/\∀j:Nat,(j:Int)<s'.m->Tg s' j=U)\/(x=.ret/\s'.r=X/\∃j:Nat,(j:Int)<s'.m/\Tg s' j=X)
def ak8:∀s,jZ s->YR s:=by
 exact L3
theorem axw:Da YR tO aA7 w8:=by
 intro s hI;obtain ⟨h0,h1,h2,h3,h4⟩:=hI;refine AH (λc1=>AH (λc2=>?_) λc2=>?_) λc1=>?_
 ·have c1:s.i<s.m:=AX
  refine .inr ⟨rfl,rfl,s.i.toNat,AZ,?_⟩
  have hg:Tg s s.i=false:=aMw
  exact hg
 ·have c1:s.i<s.m:=AX
  have hg:Tg s s.i=true:=aMw
  rw [AJ (x:=s.i+1)];refine ⟨⟨A8,A8,h2,h3,λj hj=>?_⟩,by simp only [tO];omega⟩
  exact L2
 ·exact xx
def Qn:AT O8:=⟨0,105,[2,3,91,92,93],[],λs=>[s.r,s.n,s.l,s.m,s.i],λ_=>[],λv b=>⟨Ec v 0,AK v 1,B5 BM v 2,AK v 3,AK v 4⟩,w8,λs r=> {s with r:=r.r,i:=r.i},λs=>s,λ_ s=>s,[.ret,.exit 6],jZ,YR,tO⟩
abbrev pX:=Qn.run
abbrev dW:=Qn.Av
def awu:Rq YR w8:=by
 intro s hI;refine ⟨λc1=>⟨?_,λ_=>trivial,λ_=>trivial⟩,λ_=>trivial⟩
 ·(obtain ⟨h0,h1,h2,h3,h4⟩:=hI;obtain ⟨g0,g1,g2⟩:=h3;simp at c1;omega)
def aPn:Qn.Ok:={}
def aPG:Qn.Pf (aA7):=⟨ak8,λs h=>rfl,axw,awu⟩
def aos:SA 0 aEy Qn:=s1 aPn aPG P8 kN
def apO:Fi jZ YR aA7 dW pX:=AT.fin aPn aPG
theorem pE {α:Type}{l:List α}{d:α}{f:α->Bool}:Dc (M l) (λk=>f<|l.getD k.toNat d)=l.all f:=by
 rw [Ia,Dy,BP]
 constructor
 ·intro h x hx
  obtain ⟨k,hk,rfl⟩:=I4.1 hx
  grind
 ·intro h j hj
  grind
def aSX:List LV->T LV
 | [x_p]=>(match Mz x_p with
  |some p=> .req (M p.lk<=100000000) (.ok<|E6 p)
  |none=> .no)
 |_=> .no
def QD (p:PK):OA:=(⟨X,(M p.gs:Int),p.tg,(M p.tg:Int),0,p⟩:OA)
def QC (p:PK):O9:=(⟨(oH<|QD p).r,(M p.gs:Int),p.dr,(M p.dr:Int),0,p⟩:O9)
def T4 (p:PK):O8:=(⟨(oG<|QC p).r,(M p.gs:Int),p.lk,(M p.lk:Int),0⟩:O8)
def axJ (p:PK):letI a:=(M p.gs:Int);Bi prog AV P8 kN (λi=>if i=5 then (J2 prog AV P8 Fp 20 2 W7) else if i=13 then Qp.lp else if i=19 then Qo.lp else if i=25 then Qn.lp else Al i) f30 [p]=.br ((!(BL p.cs p.os p.ks p.gs p.bs)) ||(!(inB p.tk (0:Int) (1000000:Int)))) (.ok X) (.br ((M p.st:Int) !=a) (.ok X)<|.br ((M p.ca:Int) !=a) (.ok X)<|.br ((M p.mi:Int) !=a) (.ok X)<|.br ((M p.me:Int) !=a) (.ok X)<|.br ((M p.dm:Int) !=a) (.ok X)<|.br ((M p.dr:Int) !=a) (.ok X)<|.br ((M p.tg:Int) !=(M p.cs:Int)) (.ok X)<|.req (Qp.q<|QD p)<|.br (Bs (dY<|QD p)<|.ret) (.ok (oH<|QD p).r)<|.req (Qo.q<|QC p)<|.br (Bs (dX<|QC p)<|.ret) (.ok (oG<|QC p).r)<|.req (Qn.q<|T4 p)<|.br (Bs (dW<|T4 p)<|.ret) (.ok (pX<|T4 p).r)<|.ok U):=AU
def ai8:=vm (S:=aSX) func30 P8 kN (L:=(λi=>if i=5 then (J2 prog AV P8 Fp 20 2 W7) else if i=13 then Qp.lp else if i=19 then Qo.lp else if i=25 then Qn.lp else Al i)) (λb hb=>by
 rw [show BD _=[W7,aF0,aEz,aEy] by kernel_rfl] at hb
 simp only [B7,Bt,Bu] at hb;rcases hb with rfl|rfl|rfl|rfl
 ·exact aor
 ·exact aou
 ·exact aot
 ·exact aos) (λargs lv h=>by
 refine ⟨?_⟩;unfold aSX at h;split at h
 ·split at h
  case h_2=>cases h
  rename_i p hp;obtain rfl:=WB hp;simp only [canL,canX];rw [axJ];obtain ⟨hk,rfl⟩:=h
  have op:E6 p=U->_:=λhv=>by unfold E6 at hv;simp only [AY,Ac] at hv;exact hv
  have no:(E6 p=U->False)->LV.v (.bool X)=LV.v (.bool<|E6 p):=λh=>by
   cases e:E6 p
   ·rfl
   ·exact (h e).elim
  refine ⟨λc1=>no λhv=>?_,λc1=>⟨λc2=>no λhv=>?_,λc2=>⟨λc3=>no λhv=>?_,λc3=>⟨λc4=>no λhv=>?_,λc4=>⟨λc5=>no λhv=>?_,λc5=>⟨λc6=>no λhv=>?_,λc6=>⟨λc7=>no λhv=>?_,λc7=>⟨λc8=>no λhv=>?_,λc8=>?_⟩⟩⟩⟩⟩⟩⟩⟩
  iterate 8
   ·obtain ⟨⟨h1,h2⟩,⟨h3,h4,h5,h6,h7,h8⟩,h9,_⟩:=op hv
    simp_all
  simp only [bne_eq_false_iff_eq,Int.natCast_inj,GJ,I5] at c1 c2 c3 c4 c5 c6 c7 c8
  have hs:=DF.1 c1.1
  have hv:E6 p=(Dc (M p.tg) (λk=>inB (gi p.tg k) 1 (Ag p.cs k).2.2.1)&&(p.dr.all (λx=>inB x (-200) 200)&&p.lk.all (λl=>inB l.2.2.1 0<|(M p.gs:Int)-1))):=by
   unfold E6
   grind
  have hr:Dc (M p.dr) (λk=>inB (gi p.dr k) (-200) 200)=p.dr.all (λx=>inB x (-200) 200):=pE (f:=λx=>inB x (-200) 200)
  have hl:Dc (M p.lk) (λk=>inB (Fb p.lk k).2.2.1 0<|(M p.gs:Int)-1)=p.lk.all (λl=>inB l.2.2.1 0<|(M p.gs:Int)-1):=pE (f:=λl:Lk=>inB l.2.2.1 0<|(M p.gs:Int)-1)
  rw [hv,<-hr,<-hl]
  have E1:iV (QD p):=⟨rfl,V6 _,by show (M p.tg:Int)<=1000;omega,rfl,c8⟩
  have E2:iU (QC p):=⟨rfl,V6 _,by show (M p.dr:Int)<=1000;omega,rfl⟩
  have E3:jZ (T4 p):=⟨rfl,V6 _,by show (M p.lk:Int)<=100000000;omega,rfl,V6 _,by show (M p.gs:Int)<=16;omega⟩
  refine ⟨⟨E1,rfl,rfl⟩,?_⟩;obtain ⟨_,_,q⟩:=apS _ E1
  have q:(dY (QD p)=.exit 2/\_)\/(dY (QD p)=.ret/\(oH<|QD p).r=X/\∃j:Nat,(j:Int)<(M p.tg:Int)/\inB (gi p.tg j) 1 (Ag p.cs j).2.2.1=X):=q
  rcases q with ⟨q1,q2⟩ |⟨q1,q2,j,q3,q4⟩
  rotate_left
  ·exact xe
  rw [q1,show Dc (M p.tg) (λk=>inB (gi p.tg k) 1 (Ag p.cs k).2.2.1)=U from Dy.2 q2]
  refine ⟨λc=>FU,λ_=>⟨⟨E2,rfl,rfl⟩,?_⟩⟩
  obtain ⟨_,_,q⟩:=apQ _ E2
  have q:(dX (QC p)=.exit 4/\_)\/(dX (QC p)=.ret/\(oG<|QC p).r=X/\∃j:Nat,(j:Int)<(M p.dr:Int)/\inB (gi p.dr j) (-200) 200=X):=q
  rcases q with ⟨q1,q2⟩ |⟨q1,q2,j,q3,q4⟩
  rotate_left
  ·exact xe
  rw [q1,show Dc (M p.dr) (λk=>inB (gi p.dr k) (-200) 200)=U from Dy.2 q2]
  refine ⟨λc=>FU,λ_=>⟨⟨E3,rfl,rfl⟩,?_⟩⟩
  obtain ⟨_,_,q⟩:=apO _ E3
  have q:(dW (T4 p)=.exit 6/\_)\/(dW (T4 p)=.ret/\(pX<|T4 p).r=X/\∃j:Nat,(j:Int)<(M p.lk:Int)/\inB (Fb p.lk j).2.2.1 0 ((M p.gs:Int)-1)=X):=q
  rcases q with ⟨q1,q2⟩ |⟨q1,q2,j,q3,q4⟩
  rotate_left
  ·exact xe
  rw [q1,show Dc (M p.lk) (λk=>inB (Fb p.lk k).2.2.1 0<|(M p.gs:Int)-1)=U from Dy.2 q2]
  exact ⟨λc=>FU,λ_=>rfl⟩
 ·cases h)
def aSG:List LV->T LV
 | [.xl (.int J) l]=> .req (M l<=100000000) (.ok<|.xl A7 l)
 |_=> .no
def TV:List Bd:=[]
def aHO {α:Type}{l:List α}{d:α}{n:Int}(h:n=(M l:Int)):BE l (aq n.toNat d)=l:=by
 unfold BE
 simp_all
theorem getD_mem {α:Type}{l:List α}{i:Nat}{d:α}(h:i<M l):l.getD i d∈l:=by
 grind
def set_self {α:Type}{l:List α}{i:Nat}{d:α}(h:i<M l):l.set i (l.getD i d)=l:=by
 simp_all
def aad:=vo (S:=aSG) func60 TV kN (λargs lv h=>by
 unfold aSG at h;split at h
 ·rename_i l
  refine Aq (letI a:=(M l:Int);letI b:=(BE l<|aq a.toNat (0:Int));.rm 8 a<|.rc a (0:Int) (M l)<|.req (0+a.toNat<=M b)<|.ok<|.xl A7<|(b.drop 0).take a.toNat) ?_;obtain ⟨hl,rfl⟩:=h;rw [aHO rfl];refine ⟨A0,⟨AI,AI⟩,AI,?_⟩;rw [By,CP,EN];rfl
 ·cases h)
structure Nu where
 (n i:Int)
 p1:List ByteArray
 p2:List Ko
 p3:List Ch
 p4:List Ba
 ay7:Int
 aeA:Bool
 (p8 p11:Int)
 an0:List Me
 afe:List Dm
 aqs:List Lk
 (T6 afd:List Int)
 (qS b11 b12 b13 b14:Value)
 att:Int
 adz:Bool
 b17:Value
 b18:Int
 (b19 b110:Value)
 Uy:Int
 (ag2 atu anr ag3 afN ant aCP afM:Value)
 b2:List Cd
 b3:List Le
 b4:List Int
 b5:List Ra
 b6:List St
 b7:List Le
 o:List Mi
def vf (s:Nu):T (Rd Nu):=letI a:=s.o.getD s.i.toNat<|Ty.dflt B6;.br (an<|s.i<s.n) (.ik s.i (M s.o)<|.req (M a.1<=100000000)<|.ik s.i (M s.o)<|.rl s.b2<|.rl s.b3<|.rl s.b4<|.rl s.b5<|.rl s.b6<|.rl s.b7<|.re (M s.o) (s.o.set s.i.toNat a)<|.nx {s with i:=AA<|s.i+1,o:=s.o.set s.i.toNat a})<|.rl s.b2<|.rl s.b3<|.rl s.b4<|.rl s.b5<|.rl s.b6<|.rl s.b7<|.rl s.o<|.so (.exit 0) s
def iR (s:Nu):Prop:=s.i=0/\s.n=(M s.o:Int)/\s.n<=1000/\∀m∈s.o,M m.1<=1000
def jI (s:Nu):Prop:=0<=s.i/\s.i<=s.n/\s.n=(M s.o:Int)/\s.n<=1000/\∀m∈s.o,M m.1<=1000
def sv (s:Nu):Nat:=(s.n-s.i).toNat
def acW (x:Ex) (s s':Nu):Prop:=True
def ali:∀s,iR s->jI s:=by
 exact aMH
theorem ah4:Da jI sv acW vf:=by
 intro s hI;obtain ⟨h0,h1,h2,h3,h4⟩:=hI;refine AH (λc1=>?_) λc1=>trivial
 ·have c1:s.i<s.n:=A8
  have e:=set_self (l:=s.o) (i:=s.i.toNat) (d:=Ty.dflt B6) A0
  rw [AJ (x:=s.i+1),e];exact ⟨⟨A8,A8,h2,h3,h4⟩,by simp only [sv];omega⟩
def Gg:AT Nu:=⟨0,82,[1,2,44,45],[],λs=>[.own 0 0,.own 1 0,s.n,s.i],λs=>[⟨[.os 2 11 0<|M s.b2,s.p1,s.p2,s.p3,s.p4,s.ay7,s.aeA,.os 3 5 0<|M s.b3,s.p8,.os 4 1 0<|M s.b4,.os 5 2 0<|M s.b5,s.p11,.os 6 4 0<|M s.b6,.os 7 5 0<|M s.b7,.os 8 3 0<|M s.o,s.an0,s.afe,s.aqs,.xl A7 s.T6,.xl A7 s.afd],47,.cl,X⟩,⟨[.v<|s.qS,.v<|s.b11,.v<|s.b12,.v<|s.b13,.v<|s.b14,s.att,s.adz,.v<|s.b17,s.b18,.v<|s.b19,.v<|s.b110,s.Uy,.v<|s.ag2,.v<|s.atu,.v<|s.anr,.v<|s.ag3,.v<|s.afN,.v<|s.ant,.v<|s.aCP,.v<|s.afM],47,.cl,X⟩,bV 79 Ad s.b2,bV 90 AQ s.b3,bV 5 (.int aw) s.b4,bV 143 Am s.b5,bV 58 B3 s.b6,bV 69 AQ s.b7,bV 148 B6 s.o],λv b=>⟨AK v 2,AK v 3,AF .str b 0 1,AF Ai b 0 2,AF Ae b 0 3,AF Aj b 0 4,Ak b 0 5,Kk b 0 6,Ak b 0 8,Ak b 0 11,AF BQ b 0 15,AF Au b 0 16,AF BM b 0 17,AF A7 b 0 18,AF A7 b 0 19,Gw<|B9 (CS b 1) 0,Gw<|B9 (CS b 1) 1,Gw<|B9 (CS b 1) 2,Gw<|B9 (CS b 1) 3,Gw<|B9 (CS b 1) 4,Ak b 1 5,Kk b 1 6,Gw<|B9 (CS b 1) 7,Ak b 1 8,Gw<|B9 (CS b 1) 9,Gw<|B9 (CS b 1) 10,Ak b 1 11,Gw<|B9 (CS b 1) 12,Gw<|B9 (CS b 1) 13,Gw<|B9 (CS b 1) 14,Gw<|B9 (CS b 1) 15,Gw<|B9 (CS b 1) 16,Gw<|B9 (CS b 1) 17,Gw<|B9 (CS b 1) 18,Gw<|B9 (CS b 1) 19,Ab Ad b 2,Ab AQ b 3,Ab (.int aw) b 4,Ab Am b 5,Ab B3 b 6,Ab AQ b 7,Ab B6 b 8⟩,vf,λs r=> {s with i:=r.i,o:=r.o},λs=>s,λ_ s=>s,[.exit 0],iR,jI,sv⟩
abbrev aGB:=Gg.run
abbrev asx:=Gg.Av
def awE:Rq jI vf:=by
 intro s hI;refine ⟨λc1=>⟨?_,?_,?_,?_,?_,A9,A9,A9,A9,A9,A9,?_,ak⟩,λc1=>⟨A9,A9,A9,A9,A9,A9,A9,ak⟩⟩
 all_goals ((obtain ⟨h0,h1,h2,h3,h4⟩:=hI;(try simp only [Ac] at c1);first|omega|exact ⟨rfl,AI⟩ |exact ⟨rfl,rfl⟩ |exact HZ (h4 _<|getD_mem A0) Aa))
def uC:List Bd:=[aad]
def azi:Ay:=kI uC<|l0 uC
def aQb:Gg.Ok:={}
def aOV:Gg.Pf (acW):=⟨ali,λs h=>rfl,ah4,awE⟩
def Cn:=s1 (b:=bN f29 0) aQb aOV uC azi
theorem asV:Rs iR asx aGB (λs:Nu=>s.o) (λx s' (v:List Mi)=>x=.exit 0/\s'.o=v):=DJ aQb aOV (λs hI=>by
  obtain ⟨h0,h1,h2,h3,h4⟩:=hI;refine AH (λc1=>?_) λc1=>⟨rfl,rfl⟩
  have c1:s.i<s.n:=A8
  have e:=set_self (l:=s.o) (i:=s.i.toNat) (d:=Ty.dflt B6) A0
  rw [e];exact rfl)
structure MX where
 p:PK
def Ud (s:MX):List LV:=[s.p]
def Yj (s:MX):List AB:=[]
def cN (s:MX):Nu:=(⟨(((M s.p.mi:Int).toNat:Nat):Int),0,s.p.os,s.p.ks,s.p.gs,s.p.bs,s.p.tk,s.p.up,s.p.se,s.p.nx,s.p.me,s.p.dm,s.p.lk,s.p.dr,s.p.tg,.slice aj 0 0,.slice aj 0 0,.slice aj 0 0,.slice aj 0 0,.slice aj 0 0,0,X,.slice aj 0 0,0,.slice aj 0 0,.slice aj 0 0,0,.slice aj 0 0,.slice aj 0 0,.slice aj 0 0,.slice aj 0 0,.slice aj 0 0,.slice aj 0 0,.slice aj 0 0,.slice aj 0 0,BE s.p.cs<|aq (M s.p.cs:Int).toNat (ByteArray.empty,((0:Int),((0:Int),((0:Int),(((0:Int),(0:Int)),((0:Int),((0:Int),((0:Int),((0:Int),(0:Int)))))))))),BE s.p.ls<|aq (M s.p.ls:Int).toNat ((0:Int),((0:Int),((0:Int),((0:Int),(0:Int))))),BE s.p.fl<|aq (M s.p.fl:Int).toNat (0:Int),BE s.p.ra<|aq (M s.p.ra:Int).toNat ((0:Int),(0:Int)),BE s.p.st<|aq (M s.p.st:Int).toNat ((0:Int),((0:Int),((0:Int),X))),BE s.p.ca<|aq (M s.p.ca:Int).toNat ((0:Int),((0:Int),((0:Int),((0:Int),(0:Int))))),BE s.p.mi<|aq (M s.p.mi:Int).toNat (([]:List Int),((0:Int),(0:Int)))⟩:Nu)
structure YF where
 p:PK
 (n7 n8 n9 n10 n11:Nat)
def abv (s:YF):LV:=.agg [.os 0 11 0<|M s.p.cs,s.p.os,s.p.ks,s.p.gs,s.p.bs,s.p.tk,s.p.up,.os 1 5 0<|M s.p.ls,s.p.se,.os 2 1 0<|M s.p.fl,.os 3 2 0<|M s.p.ra,s.p.nx,.os 4 4 0<|M s.p.st,.os 5 5 0<|M s.p.ca,.os 6 3 0<|M s.p.mi,.os 7 3 0 s.n7,.os 8 4 0 s.n8,.os 9 6 0 s.n9,.os 10 1 0 s.n10,.os 11 1 0 s.n11]
def acQ (s:YF):List AB:=[bV 79 Ad s.p.cs,bV 90 AQ s.p.ls,bV 5 (.int aw) s.p.fl,bV 143 Am s.p.ra,bV 58 B3 s.p.st,bV 69 AQ s.p.ca,bV 148 B6 s.p.mi,bV 105 BQ s.p.me,bV 71 Au s.p.dm,bV 154 BM s.p.lk,bV 3 A7 s.p.dr,bV 3 A7 s.p.tg]
def fh (s:MX):T YF:=letI a:=(ByteArray.empty,((0:Int),((0:Int),((0:Int),(((0:Int),(0:Int)),((0:Int),((0:Int),((0:Int),((0:Int),(0:Int))))))))));letI f:=(M s.p.cs:Int);letI g:=(M s.p.fl:Int);letI h:=(M s.p.ls:Int);letI i:=(M s.p.ra:Int);letI j:=(M s.p.st:Int);letI k:=(M s.p.ca:Int);letI l:=(M s.p.mi:Int);letI m:=(M s.p.me:Int);letI n:=(M s.p.dm:Int);letI r:=(M s.p.lk:Int);letI t:=(M s.p.dr:Int);letI u:=(M s.p.tg:Int);letI v:=(BE s.p.fl<|aq g.toNat (0:Int));letI w:=BE s.p.cs<|aq f.toNat a;letI x:=(X,((0:Int),((0:Int),(0:Int))));letI b:=(BE s.p.ls<|aq h.toNat ((0:Int),((0:Int),((0:Int),((0:Int),(0:Int))))));letI c:=(BE s.p.ca<|aq k.toNat ((0:Int),((0:Int),((0:Int),((0:Int),(0:Int))))));letI d:=(BE s.p.st<|aq j.toNat ((0:Int),((0:Int),((0:Int),X))));letI e:=(BE s.p.ra<|aq i.toNat ((0:Int),(0:Int)));.rm 96 f<|.rc f a (M s.p.cs)<|.rm 40 h<|.rc h ((0:Int),((0:Int),((0:Int),((0:Int),(0:Int))))) (M s.p.ls)<|.rm 1 g<|.rc g (0:Int) (M s.p.fl)<|.rm 16 i<|.rc i ((0:Int),(0:Int)) (M s.p.ra)<|.rm 32 j<|.rc j ((0:Int),((0:Int),((0:Int),X))) (M s.p.st)<|.rm 40 k<|.rc k ((0:Int),((0:Int),((0:Int),((0:Int),(0:Int))))) (M s.p.ca)<|.rm 40 l<|.rc l (([]:List Int),((0:Int),(0:Int))) (M s.p.mi)<|.re f.toNat w<|.re h.toNat b<|.re g.toNat v<|.re i.toNat e<|.re j.toNat d<|.re k.toNat c<|.re l.toNat (BE s.p.mi<|aq l.toNat (([]:List Int),((0:Int),(0:Int))))<|.req (Gg.q<|cN s)<|.rm 24 m<|.rc m ((0:Int),((0:Int),X)) (M s.p.me)<|.rm 32 n<|.rc n x (M s.p.dm)<|.rm 48 r<|.rc r ((0:Int),((0:Int),((0:Int),((0:Int),((0:Int),(0:Int)))))) (M s.p.lk)<|.rm 8 t<|.rc t (0:Int) (M s.p.dr)<|.rm 8 u<|.rc u (0:Int) (M s.p.tg)<|.ok<|⟨⟨w,s.p.os,s.p.ks,s.p.gs,s.p.bs,s.p.tk,s.p.up,b,s.p.se,v,e,s.p.nx,d,c,(aGB<|cN s).o,BE s.p.me<|aq m.toNat ((0:Int),((0:Int),X)),BE s.p.dm<|aq n.toNat x,BE s.p.lk<|aq r.toNat ((0:Int),((0:Int),((0:Int),((0:Int),((0:Int),(0:Int)))))),BE s.p.dr<|aq t.toNat (0:Int),BE s.p.tg<|aq u.toNat (0:Int)⟩,m.toNat,n.toNat,r.toNat,t.toNat,u.toNat⟩
def QM {α:Type}{l:List α}{d:α}:BE l (aq (M l:Int).toNat d)=l:=aHO rfl
structure LB (p:PK):Prop where
 cs:M p.cs<=20000000
 ls:M p.ls<=20000000
 fl:M p.fl<=20000000
 ra:M p.ra<=20000000
 st:M p.st<=20000000
 ca:M p.ca<=20000000
 mi:M p.mi<=1000
 me:M p.me<=20000000
 dm:M p.dm<=20000000
 lk:M p.lk<=20000000
 dr:M p.dr<=20000000
 tg:M p.tg<=20000000
 mis:∀m∈p.mi,M m.1<=1000
def iO (s:MX):Prop:=LB s.p
def aTi (s:MX):YF:=⟨s.p,M s.p.me,M s.p.dm,M s.p.lk,M s.p.dr,M s.p.tg⟩
def jo:Cr MX YF:=⟨Ud,Yj,λv b=>⟨⟨Ap Ad<|E7 (v.getD 0 .junk) 0,Ap .str<|E7 (v.getD 0 .junk) 1,Ap Ai<|E7 (v.getD 0 .junk) 2,Ap Ae<|E7 (v.getD 0 .junk) 3,Ap Aj<|E7 (v.getD 0 .junk) 4,gI<|E7 (v.getD 0 .junk) 5,gBo<|E7 (v.getD 0 .junk) 6,Ap AQ<|E7 (v.getD 0 .junk) 7,gI<|E7 (v.getD 0 .junk) 8,Ap (.int aw)<|E7 (v.getD 0 .junk) 9,Ap Am<|E7 (v.getD 0 .junk) 10,gI<|E7 (v.getD 0 .junk) 11,Ap B3<|E7 (v.getD 0 .junk) 12,Ap AQ<|E7 (v.getD 0 .junk) 13,Ap B6<|E7 (v.getD 0 .junk) 14,Ap BQ<|E7 (v.getD 0 .junk) 15,Ap Au<|E7 (v.getD 0 .junk) 16,Ap BM<|E7 (v.getD 0 .junk) 17,Ap A7<|E7 (v.getD 0 .junk) 18,Ap A7<|E7 (v.getD 0 .junk) 19⟩⟩,iO,[],[],abv,acQ,aTi⟩
abbrev azx (s:MX):Prop:=iO s/\Ud s=Ud s/\Yj s=Yj s
def aRO:Ay:=kI TV<|la 9 func29 Cn<|l0 TV
def aTd:DG:=CR 29 0 9 (Gg.lp)<|Dp prog AV TV 20 2
def aoH:EF prog AV aTd:=D6 func29 rfl AU Cn<|Hg<|gk TV
def ayv (s:MX):((ER prog AV TV aTd aRO).k 29 (Ud s)<|Yj s).bind (λq=>G8 (M<|Yj s) [0] [] .normal (q.1::Ud s) q.2)=(fh s).mp (λs2=>⟨.normal,M (Ud s)+1,[abv s2],acQ s2,U⟩):=AU
theorem aw5 (s:MX) (hE:iO s):(fh s).all (λq=>q=aTi s):=by
 have ho:(cN s).o=s.p.mi:=QM
 have hn:(cN s).n=(M s.p.mi:Int):=MI
 have hV:iR (cN s):=⟨rfl,A8,by rw [hn];have:=hE.mi;omega,by rw [ho];exact hE.mis⟩
 have hm:=(asV _ hV).2.trans QM
 unfold fh;simp only [QM,hm];obtain ⟨h1,h2,h3,h4,h5,h6,h7,h8,h9,h10,h11,h12,_⟩:=hE
 repeat (refine ⟨by first|omega|exact ⟨AI,AI⟩ |exact ⟨rfl,AI⟩ |exact ⟨hV,rfl,rfl⟩,?_⟩)
 rfl
def asD:DV prog AV 29 jo.m:=Cr.sound (D:=jo) (t:=fh) (gk TV) aoH aRO.h ayv λs hE=>⟨aw5 s hE⟩
def aga:DV prog AV 29 (QU λa=>jo.m a []):=aFD asD
structure EW where
 (ek en em c1 c2 c3 c4 c5:Int)
 d1:Bool
 (d2 d3 d4:Int)
instance:Coe EW Value:=⟨λe=> .agg #[Y J e.ek,Y J e.en,Y J e.em,Y J e.c1,Y J e.c2,Y J e.c3,Y J e.c4,Y J e.c5,.bool e.d1,Y J e.d2,Y J e.d3,Y J e.d4]⟩
instance:Coe EW LV:=⟨λe=> .v<|.agg #[Y J e.ek,Y J e.en,Y J e.em,Y J e.c1,Y J e.c2,Y J e.c3,Y J e.c4,Y J e.c5,.bool e.d1,Y J e.d2,Y J e.d3,Y J e.d4]⟩
def EW.c (e:EW):Ca:=(e.c1,e.c2,e.c3,e.c4,e.c5)
def EW.d (e:EW):Dm:=(e.d1,e.d2,e.d3,e.d4)
def EW.ev (e:EW):EV:=⟨e.ek,e.en,e.em,e.c,e.d⟩
def mF:LV->Option EW
 | .v (.agg ⟨[Y J ek,Y J en,Y J em,Y J c1,Y J c2,Y J c3,Y J c4,Y J c5,.bool d1,Y J d2,Y J d3,Y J d4]⟩)=>ah ⟨ek,en,em,c1,c2,c3,c4,c5,d1,d2,d3,d4⟩
 |_=>aj
def atJ {x:LV}{ev:EW}(h:mF x=ah ev):x=(ev):=by
 unfold mF at h;exact xk
def zB:AB:=⟨[.v<|.slice aj 0 0,.v<|.slice aj 0 0,.v<|.slice aj 0 0,.v<|.slice aj 0 0,.v<|.slice aj 0 0,.v<|Y J 0,.v<|.bool X,.v<|.slice aj 0 0,.v<|Y J 0,.v<|.slice aj 0 0,.v<|.slice aj 0 0,.v<|Y J 0,.v<|.slice aj 0 0,.v<|.slice aj 0 0,.v<|.slice aj 0 0,.v<|.slice aj 0 0,.v<|.slice aj 0 0,.v<|.slice aj 0 0,.v<|.slice aj 0 0,.v<|.slice aj 0 0],47,.cl,X⟩
def eB (e:EW):AB:=⟨[.v<|Y J e.ek,.v<|Y J e.en,.v<|Y J e.em,.v<|Y J e.c1,.v<|Y J e.c2,.v<|Y J e.c3,.v<|Y J e.c4,.v<|Y J e.c5,.v<|.bool e.d1,.v<|Y J e.d2,.v<|Y J e.d3,.v<|Y J e.d4],68,.cl,X⟩
def rE (b:List AB) (i q:Nat):EW:=letI a:=CS b q;⟨gI<|B9 a<|i+0,gI<|B9 a<|i+1,gI<|B9 a<|i+2,gI<|B9 a<|i+3,gI<|B9 a<|i+4,gI<|B9 a<|i+5,gI<|B9 a<|i+6,gI<|B9 a<|i+7,gBo<|B9 a<|i+8,gI<|B9 a<|i+9,gI<|B9 a<|i+10,gI<|B9 a<|i+11⟩
def rG (b:List AB):EW:=rE b 20 16
structure LP where
 (i k0 k1 k2:Int)
 p:PK
 ev:EW
def Ua (s:LP):List LV:=[.own 16 0,s.i,.v<|.agg #[s.k0,s.k1,s.k2]]
def Yg (s:LP):List AB:=[AP,AP,zB,AP,bV 79 Ad s.p.cs,bV 90 AQ s.p.ls,bV 5 (.int aw) s.p.fl,bV 143 Am s.p.ra,bV 58 B3 s.p.st,bV 69 AQ s.p.ca,bV 148 B6 s.p.mi,bV 105 BQ s.p.me,bV 71 Au s.p.dm,bV 154 BM s.p.lk,bV 3 A7 s.p.dr,bV 3 A7 s.p.tg,⟨[.os 4 11 0<|M s.p.cs,.xl .str s.p.os,.xl Ai s.p.ks,.xl Ae s.p.gs,.xl Aj s.p.bs,.v<|Y J s.p.tk,.v<|.bool s.p.up,.os 5 5 0<|M s.p.ls,.v<|Y J s.p.se,.os 6 1 0<|M s.p.fl,.os 7 2 0<|M s.p.ra,.v<|Y J s.p.nx,.os 8 4 0<|M s.p.st,.os 9 5 0<|M s.p.ca,.os 10 3 0<|M s.p.mi,.os 11 3 0<|M s.p.me,.os 12 4 0<|M s.p.dm,.os 13 6 0<|M s.p.lk,.os 14 1 0<|M s.p.dr,.os 15 1 0<|M s.p.tg,.v<|Y J s.ev.ek,.v<|Y J s.ev.en,.v<|Y J s.ev.em,.v<|Y J s.ev.c1,.v<|Y J s.ev.c2,.v<|Y J s.ev.c3,.v<|Y J s.ev.c4,.v<|Y J s.ev.c5,.v<|.bool s.ev.d1,.v<|Y J s.ev.d2,.v<|Y J s.ev.d3,.v<|Y J s.ev.d4,.v<|.slice aj 0 0],116,.cl,X⟩]
structure YC where
 res:Int
 p:PK
 ev:EW
def abr (s:YC):LV:=.v<|Y J s.res
def acN (s:YC):List AB:=[AP,AP,zB,AP,bV 79 Ad s.p.cs,bV 90 AQ s.p.ls,bV 5 (.int aw) s.p.fl,bV 143 Am s.p.ra,bV 58 B3 s.p.st,bV 69 AQ s.p.ca,bV 148 B6 s.p.mi,bV 105 BQ s.p.me,bV 71 Au s.p.dm,bV 154 BM s.p.lk,bV 3 A7 s.p.dr,bV 3 A7 s.p.tg,⟨[.os 4 11 0<|M s.p.cs,.xl .str s.p.os,.xl Ai s.p.ks,.xl Ae s.p.gs,.xl Aj s.p.bs,.v<|Y J s.p.tk,.v<|.bool s.p.up,.os 5 5 0<|M s.p.ls,.v<|Y J s.p.se,.os 6 1 0<|M s.p.fl,.os 7 2 0<|M s.p.ra,.v<|Y J s.p.nx,.os 8 4 0<|M s.p.st,.os 9 5 0<|M s.p.ca,.os 10 3 0<|M s.p.mi,.os 11 3 0<|M s.p.me,.os 12 4 0<|M s.p.dm,.os 13 6 0<|M s.p.lk,.os 14 1 0<|M s.p.dr,.os 15 1 0<|M s.p.tg,.v<|Y J s.ev.ek,.v<|Y J s.ev.en,.v<|Y J s.ev.em,.v<|Y J s.ev.c1,.v<|Y J s.ev.c2,.v<|Y J s.ev.c3,.v<|Y J s.ev.c4,.v<|Y J s.ev.c5,.v<|.bool s.ev.d1,.v<|Y J s.ev.d2,.v<|Y J s.ev.d3,.v<|Y J s.ev.d4,.v<|.slice aj 0 0],116,.cl,X⟩]
def vV (s:LP):T YC:=letI c:=s.p.st.getD s.i.toNat<|Ty.dflt B3;letI d:=M s.p.st;letI a:=sE (AG s.p.gs s.i) c s.k0 s.k1 s.k2;letI b:=sN (AG s.p.gs s.i) c s.k0 s.k1 s.k2;.ix s.i (M s.p.gs)<|.ik s.i d<|.br (a==0) (.ik s.i d<|.pa s.p<|.re d (s.p.st.set s.i.toNat b)<|.rl s.p.ca<|.rl s.p.mi<|.rl s.p.me<|.rl s.p.dm<|.rl s.p.lk<|.rl s.p.dr<|.rl s.p.tg<|.ok<|⟨a,{s.p with st:=s.p.st.set s.i.toNat b},s.ev⟩)<|.pc s.p<|.ok<|⟨a,s.p,s.ev⟩
def aAo (s:LP):Prop:=0<=s.i/\s.i<(M s.p.gs:Int)/\M s.p.st=M s.p.gs
def gZ (s:LP):YC:=⟨sE (AG s.p.gs s.i) (BJ s.p.st s.i) s.k0 s.k1 s.k2,{s.p with st:=CU s.p.gs s.p.st s.i s.k0 s.k1 s.k2},s.ev⟩
def aAz:Cr LP YC:=⟨Ua,Yg,λv b=>⟨AK v 1,gI<|E7 (v.getD 2 .junk) 0,gI<|E7 (v.getD 2 .junk) 1,gI<|E7 (v.getD 2 .junk) 2,rF b,rG b⟩,aAo,[0,1,3],[],abr,acN,gZ⟩
abbrev ud (s:LP):Prop:=aAo s/\Ua s=Ua s/\Yg s=Yg s
def eM:List Bd:=[Qy]
def aSx:DG:=CR 29 0 9 (Gg.lp)<|Dp prog AV (eM) 20 2
def aoE:EF prog AV aSx:=D6 func29 rfl AU Cn<|Hg<|gk eM
def ayr (s:LP):((ER prog AV eM aSx Fp).k 74 (Ua s)<|Yg s).bind (λq=>G8 (M<|Yg s) [0] [] .normal (q.1::Ua s) q.2)=(vV s).mp (λs2=>⟨.normal,M (Ua s)+1,[abr s2],acN s2,U⟩):=AU
theorem aw2 (s:LP) (hE:aAo s):(vV s).all (λq=>q=gZ s):=by
 obtain ⟨h0,h1,h2⟩:=hE;refine ⟨A0,A0,A0,λc=>?_,λc=>?_⟩
 ·have c:=eq_of_beq c
  have hg:CU s.p.gs s.p.st s.i s.k0 s.k1 s.k2=_:=AD c
  repeat (refine ⟨A8,?_⟩)
  unfold gZ;rw [hg];rfl
 ·have c:=CN.1 c
  have hg:CU s.p.gs s.p.st s.i s.k0 s.k1 s.k2=s.p.st:=AE c
  repeat (refine ⟨AI,?_⟩)
  unfold gZ;rw [hg];rfl
def agY:DV prog AV 74 aAz.m:=Cr.sound (D:=aAz) (t:=vV) (gk eM) aoE Q9 ayr λs hE=>⟨aw2 s hE⟩
structure Md where
 (n i:Int)
 p:PK
 ev:EW
 left:List Lk
def vO (s:Md):T (Rd Md):=letI a:=s.p.lk.getD s.i.toNat<|Ty.dflt BM;.br (an<|s.i<s.n) (.ik s.i (M s.p.lk)<|.br (a.2.2.1 !=s.ev.en) (.rb (M s.left) (M<|[a]) 48<|.re (M s.left+M ([a])) (s.left++([a]))<|.rl s.p.lk<|.pc s.p<|.nx {s with i:=AA<|s.i+1,left:=s.left++([a])})<|.rl s.left<|.rl s.p.lk<|.pc s.p<|.nx {s with i:=AA<|s.i+1})<|.rl s.left<|.rl s.p.lk<|.pc s.p<|.so (.exit 0) s
def ir (s:Md):Prop:=s.i=0/\s.n=(M s.p.lk:Int)/\s.n<=20000000/\(M s.left:Int)<=s.i
def j8 (s:Md):Prop:=0<=s.i/\s.i<=s.n/\s.n=(M s.p.lk:Int)/\s.n<=20000000/\(M s.left:Int)<=s.i
def fK (s:Md):Nat:=(s.n-s.i).toNat
def abd (x:Ex) (s s':Md):Prop:=True
def aju:∀s,ir s->j8 s:=by
 rintro s ⟨h0,h2,h3,h4⟩
 exact xo
theorem ayR:Da j8 fK abd vO:=by
 intro s hI;obtain ⟨h0,h1,h2,h3,h4⟩:=hI;refine AH (λc1=>AH (λc2=>?_) λc2=>?_) λc1=>trivial
 all_goals have c1:s.i<s.n:=AX
 all_goals rw [AJ (x:=s.i+1)]
 ·exact ⟨⟨AZ,AZ,h2,h3,A8⟩,by simp only [fK];omega⟩
 ·exact ⟨⟨A8,A8,h2,h3,AZ⟩,by simp only [fK];omega⟩
def KT:AT Md:=⟨18,30,[0,1,4,11,12,13],[.nl 4 154 BM],λs=>[.own 16 0,.fn 76 [.own 17 0],.os 18 6 0<|M s.left,.os 13 6 0<|M s.p.lk,s.n,s.i],λs=>[AP,AP,zB,AP,bV 79 Ad s.p.cs,bV 90 AQ s.p.ls,bV 5 (.int aw) s.p.fl,bV 143 Am s.p.ra,bV 58 B3 s.p.st,bV 69 AQ s.p.ca,bV 148 B6 s.p.mi,bV 105 BQ s.p.me,bV 71 Au s.p.dm,bV 154 BM s.p.lk,bV 3 A7 s.p.dr,bV 3 A7 s.p.tg,⟨[.os 4 11 0<|M s.p.cs,.xl .str s.p.os,.xl Ai s.p.ks,.xl Ae s.p.gs,.xl Aj s.p.bs,.v<|Y J s.p.tk,.v<|.bool s.p.up,.os 5 5 0<|M s.p.ls,.v<|Y J s.p.se,.os 6 1 0<|M s.p.fl,.os 7 2 0<|M s.p.ra,.v<|Y J s.p.nx,.os 8 4 0<|M s.p.st,.os 9 5 0<|M s.p.ca,.os 10 3 0<|M s.p.mi,.os 11 3 0<|M s.p.me,.os 12 4 0<|M s.p.dm,.os 13 6 0<|M s.p.lk,.os 14 1 0<|M s.p.dr,.os 15 1 0<|M s.p.tg,.v<|Y J s.ev.ek,.v<|Y J s.ev.en,.v<|Y J s.ev.em,.v<|Y J s.ev.c1,.v<|Y J s.ev.c2,.v<|Y J s.ev.c3,.v<|Y J s.ev.c4,.v<|Y J s.ev.c5,.v<|.bool s.ev.d1,.v<|Y J s.ev.d2,.v<|Y J s.ev.d3,.v<|Y J s.ev.d4,.v<|.slice aj 0 0],116,.cl,X⟩,⟨[.own 16 0],112,.cl,X⟩,bV 154 BM s.left],λv b=>⟨AK v 4,AK v 5,rF b,rG b,Ab BM b 18⟩,vO,λs r=> {s with i:=r.i,left:=r.left},λs=>s,λ_ s=>s,[.exit 0],ir,j8,fK⟩
abbrev aCw:=KT.run
abbrev arF:=KT.Av
def uB:List Bd:=[Ts]
def azh:Ay:=kI uB<|la 9 func29 Cn<|l0 uB
def awW:Rq j8 vO:=by
 intro s hI;refine ⟨λc1=>⟨?_,?_,λc2=>⟨?_,?_,A9,A9,A9,A9,A9,A9,A9,A9,A9,A9,A9,A9,A9,ak⟩,λc2=>⟨A9,A9,A9,A9,A9,A9,A9,A9,A9,A9,A9,A9,A9,A9,ak⟩⟩,λc1=>⟨A9,A9,A9,A9,A9,A9,A9,A9,A9,A9,A9,A9,A9,A9,ak⟩⟩
 all_goals ((obtain ⟨h0,h1,h2,h3,h4⟩:=hI;(try simp only [Ac] at c1);first|omega|exact ⟨rfl,rfl⟩ |(simp only [Bk,Bp,BF];omega) |(simp only [BF,Bk,Bp,FA];done)))
def aQL:KT.Ok:={}
def aOn:KT.Pf (abd):=⟨aju,λs h=>rfl,ayR,awW⟩
def KA:=s2 (b:=bN f75 0) aQL aOn uB azh
def anX {l:List Lk}{i:Int}(h0:0<=i) (h:i<M l):l.drop i.toNat=l.getD i.toNat (Ty.dflt BM)::l.drop (i+1).toNat:=by
 rw [SZ A0,Dd,DQ A0,show (i+1).toNat=i.toNat+1 by omega]
 rfl
theorem arw:Rs ir arF aCw (λs:Md=>s.left++(s.p.lk.drop s.i.toNat).filter (λl=>l.2.2.1 !=s.ev.en)) (λx s' (v:List Lk)=>x=.exit 0/\s'.left=v):=DJ aQL aOn (λs hI=>by
  obtain ⟨h0,h1,h2,h3,h4⟩:=hI;refine AH (λc1=>?_) λc1=>?_
  ·have c1:s.i<s.n:=A8
   rw [AJ (x:=s.i+1),anX h0 A0];refine AH (λc2=>?_) λc2=>?_
   ·show _++[_]++_=_++_
    rw [OX,AD c2,Cl];rfl
   ·show _++_=_++_
    grind
  ·have c1:s.n<=s.i:=A8
   refine ⟨rfl,?_⟩;rw [El A0]
   simp)
def JL (e:Int) (a b:PK):PK:=if e=0 then a else b
def LJ {e:Int}{a b:PK}(h:e=0):JL e a b=a:=AD h
def JY {e:Int}{a b:PK}(h:e≠0):JL e a b=b:=AE h
def TI {α:Type}(l:List α):(l.drop 0).take (M l)=l:=AI
def dN {l:List Ch}(h:M l<=1000):AA ((M l:Int)-1)=(M l:Int)-1:=AJ
structure Nq where
 p:PK
 ev:EW
def UX (s:Nq):List LV:=[.own 16 0]
def Yd (s:Nq):List AB:=[AP,AP,zB,AP,bV 79 Ad s.p.cs,bV 90 AQ s.p.ls,bV 5 (.int aw) s.p.fl,bV 143 Am s.p.ra,bV 58 B3 s.p.st,bV 69 AQ s.p.ca,bV 148 B6 s.p.mi,bV 105 BQ s.p.me,bV 71 Au s.p.dm,bV 154 BM s.p.lk,bV 3 A7 s.p.dr,bV 3 A7 s.p.tg,⟨[.os 4 11 0<|M s.p.cs,.xl .str s.p.os,.xl Ai s.p.ks,.xl Ae s.p.gs,.xl Aj s.p.bs,.v<|Y J s.p.tk,.v<|.bool s.p.up,.os 5 5 0<|M s.p.ls,.v<|Y J s.p.se,.os 6 1 0<|M s.p.fl,.os 7 2 0<|M s.p.ra,.v<|Y J s.p.nx,.os 8 4 0<|M s.p.st,.os 9 5 0<|M s.p.ca,.os 10 3 0<|M s.p.mi,.os 11 3 0<|M s.p.me,.os 12 4 0<|M s.p.dm,.os 13 6 0<|M s.p.lk,.os 14 1 0<|M s.p.dr,.os 15 1 0<|M s.p.tg,.v<|Y J s.ev.ek,.v<|Y J s.ev.en,.v<|Y J s.ev.em,.v<|Y J s.ev.c1,.v<|Y J s.ev.c2,.v<|Y J s.ev.c3,.v<|Y J s.ev.c4,.v<|Y J s.ev.c5,.v<|.bool s.ev.d1,.v<|Y J s.ev.d2,.v<|Y J s.ev.d3,.v<|Y J s.ev.d4,.v<|.slice aj 0 0],116,.cl,X⟩]
structure Xc where
 res:Int
 p:PK
 ev:EW
def abo (s:Xc):LV:=.v<|Y J s.res
def acv (s:Xc):List AB:=[AP,AP,zB,AP,bV 79 Ad s.p.cs,AP,bV 5 (.int aw) s.p.fl,bV 143 Am s.p.ra,bV 58 B3 s.p.st,bV 69 AQ s.p.ca,bV 148 B6 s.p.mi,bV 105 BQ s.p.me,bV 71 Au s.p.dm,bV 154 BM s.p.lk,bV 3 A7 s.p.dr,bV 3 A7 s.p.tg,⟨[.os 4 11 0<|M s.p.cs,.xl .str s.p.os,.xl Ai s.p.ks,.xl Ae s.p.gs,.xl Aj s.p.bs,.v<|Y J s.p.tk,.v<|.bool s.p.up,.xl AQ s.p.ls,.v<|Y J s.p.se,.os 6 1 0<|M s.p.fl,.os 7 2 0<|M s.p.ra,.v<|Y J s.p.nx,.os 8 4 0<|M s.p.st,.os 9 5 0<|M s.p.ca,.os 10 3 0<|M s.p.mi,.os 11 3 0<|M s.p.me,.os 12 4 0<|M s.p.dm,.os 13 6 0<|M s.p.lk,.os 14 1 0<|M s.p.dr,.os 15 1 0<|M s.p.tg,.v<|Y J s.ev.ek,.v<|Y J s.ev.en,.v<|Y J s.ev.em,.v<|Y J s.ev.c1,.v<|Y J s.ev.c2,.v<|Y J s.ev.c3,.v<|Y J s.ev.c4,.v<|Y J s.ev.c5,.v<|.bool s.ev.d1,.v<|Y J s.ev.d2,.v<|Y J s.ev.d3,.v<|Y J s.ev.d4,.v<|.slice aj 0 0],116,.cl,X⟩]
def vU (s:Nq):T Xc:=
 .br (!s.p.up) (.rz s.p.ls<|.rl s.p.cs<|.rl s.p.fl<|.rl s.p.ra<|.pb s.p<|.ok<|⟨6,{s.p with ls:=(s.p.ls.drop 0).take<|M s.p.ls},s.ev⟩) (.rl s.p.cs<|.rl s.p.fl<|.rl s.p.ra<|.pb s.p<|.ok<|⟨0,{s.p with up:=X,ls:=([]:List Le)},s.ev⟩)
def aAl (s:Nq):Prop:=True
def gY (s:Nq):Xc:=⟨PK.Mh s.p,JL (PK.Mh s.p) (PK.PH s.p) s.p,s.ev⟩
def aAx:Cr Nq Xc:=⟨UX,Yd,λv b=>⟨rF b,rG b⟩,aAl,[0,1,3],[.pc 16 7 AQ,.kb 5],abo,acv,gY⟩
abbrev ahF (s:Nq):Prop:=aAl s/\UX s=UX s/\Yd s=Yd s
def eK:List Bd:=[]
def aSu:DG:=CR 75 18 2 (KT.lp)<|CR 29 0 9 (Gg.lp)<|Dp prog AV (eK) 20 2
def aoB:EF prog AV aSu:=D6 func75 rfl AU KA<|D6 func29 rfl AU Cn<|Hg<|gk eK
def aym (s:Nq):((ER prog AV eK aSu Fp).k 35 (UX s)<|Yd s).bind (λq=>G8 (M<|Yd s) [0] [.pc 16 7 AQ,.kb 5] .normal (q.1::UX s) q.2)=(vU s).mp (λs2=>⟨.normal,M (UX s)+1,[abo s2],acv s2,U⟩):=AU
theorem avz (s:Nq) (hE:aAl s):(vU s).all (λq=>q=gY s):=by
 refine ⟨λc=>⟨A0,?_⟩,λc=>?_⟩
 ·have c:s.p.up=false:=A8
  have he:s.p.Mh=6:=AD c
  rw [TI]
  repeat (refine ⟨AI,?_⟩)
  show _=_
  unfold gY;rw [JY A8];rw [he]
 ·have c:s.p.up=true:=A8
  have he:s.p.Mh=0:=AE A8
  repeat (refine ⟨AI,?_⟩)
  unfold gY;rw [he];rfl
def agV:DV prog AV 35 aAx.m:=Cr.sound (D:=aAx) (t:=vU) (gk eK) aoB Q9 aym λs hE=>⟨avz s hE⟩
structure Nl where
 p:PK
 ev:EW
def UQ (s:Nl):List LV:=[.own 16 0]
def Z8 (s:Nl):List AB:=[AP,AP,zB,AP,bV 79 Ad s.p.cs,bV 90 AQ s.p.ls,bV 5 (.int aw) s.p.fl,bV 143 Am s.p.ra,bV 58 B3 s.p.st,bV 69 AQ s.p.ca,bV 148 B6 s.p.mi,bV 105 BQ s.p.me,bV 71 Au s.p.dm,bV 154 BM s.p.lk,bV 3 A7 s.p.dr,bV 3 A7 s.p.tg,⟨[.os 4 11 0<|M s.p.cs,.xl .str s.p.os,.xl Ai s.p.ks,.xl Ae s.p.gs,.xl Aj s.p.bs,.v<|Y J s.p.tk,.v<|.bool s.p.up,.os 5 5 0<|M s.p.ls,.v<|Y J s.p.se,.os 6 1 0<|M s.p.fl,.os 7 2 0<|M s.p.ra,.v<|Y J s.p.nx,.os 8 4 0<|M s.p.st,.os 9 5 0<|M s.p.ca,.os 10 3 0<|M s.p.mi,.os 11 3 0<|M s.p.me,.os 12 4 0<|M s.p.dm,.os 13 6 0<|M s.p.lk,.os 14 1 0<|M s.p.dr,.os 15 1 0<|M s.p.tg,.v<|Y J s.ev.ek,.v<|Y J s.ev.en,.v<|Y J s.ev.em,.v<|Y J s.ev.c1,.v<|Y J s.ev.c2,.v<|Y J s.ev.c3,.v<|Y J s.ev.c4,.v<|Y J s.ev.c5,.v<|.bool s.ev.d1,.v<|Y J s.ev.d2,.v<|Y J s.ev.d3,.v<|Y J s.ev.d4,.v<|.slice aj 0 0],116,.cl,X⟩]
structure XW where
 res:Int
 p:PK
 ev:EW
def abh (s:XW):LV:=.v<|Y J s.res
def ack (s:XW):List AB:=[AP,AP,zB,AP,bV 79 Ad s.p.cs,bV 90 AQ s.p.ls,bV 5 (.int aw) s.p.fl,bV 143 Am s.p.ra,bV 58 B3 s.p.st,bV 69 AQ s.p.ca,bV 148 B6 s.p.mi,bV 105 BQ s.p.me,bV 71 Au s.p.dm,bV 154 BM s.p.lk,bV 3 A7 s.p.dr,bV 3 A7 s.p.tg,⟨[.os 4 11 0<|M s.p.cs,.xl .str s.p.os,.xl Ai s.p.ks,.xl Ae s.p.gs,.xl Aj s.p.bs,.v<|Y J s.p.tk,.v<|.bool s.p.up,.os 5 5 0<|M s.p.ls,.v<|Y J s.p.se,.os 6 1 0<|M s.p.fl,.os 7 2 0<|M s.p.ra,.v<|Y J s.p.nx,.os 8 4 0<|M s.p.st,.os 9 5 0<|M s.p.ca,.os 10 3 0<|M s.p.mi,.os 11 3 0<|M s.p.me,.os 12 4 0<|M s.p.dm,.os 13 6 0<|M s.p.lk,.os 14 1 0<|M s.p.dr,.os 15 1 0<|M s.p.tg,.v<|Y J s.ev.ek,.v<|Y J s.ev.en,.v<|Y J s.ev.em,.v<|Y J s.ev.c1,.v<|Y J s.ev.c2,.v<|Y J s.ev.c3,.v<|Y J s.ev.c4,.v<|Y J s.ev.c5,.v<|.bool s.ev.d1,.v<|Y J s.ev.d2,.v<|Y J s.ev.d3,.v<|Y J s.ev.d4,.v<|.slice aj 0 0],116,.cl,X⟩]
def gC (s:Nl):T XW:=letI a:=(CU s.p.gs s.p.st s.ev.en (6:Int) (1:Int) (0:Int));.br (!(inB s.ev.en (0:Int)<|AA<|(M s.p.gs:Int)-1)) (.pc s.p<|.ok<|⟨1,s.p,s.ev⟩)<|.pc s.p<|.req (ud (⟨s.ev.en,6,1,0,s.p,s.ev⟩:LP))<|.pa s.p<|.rl a<|.rl s.p.ca<|.rl s.p.mi<|.rl s.p.me<|.rl s.p.dm<|.rl s.p.lk<|.rl s.p.dr<|.rl s.p.tg<|.ok<|⟨sE (AG s.p.gs s.ev.en) (BJ s.p.st s.ev.en) (6:Int) (1:Int) (0:Int),{s.p with st:=a},s.ev⟩
def aB9 (s:Nl):Prop:=M s.p.st=M s.p.gs/\M s.p.gs<=1000
def gV (s:Nl):XW:=⟨PK.O0 s.p s.ev.en,{s.p with st:=if PK.isC s.p s.ev.en=U then CU s.p.gs s.p.st s.ev.en 6 1 0 else s.p.st},s.ev⟩
def aAr:Cr Nl XW:=⟨UQ,Z8,λv b=>⟨rF b,rG b⟩,aB9,[0,1,3],[],abh,ack,gV⟩
abbrev ah9 (s:Nl):Prop:=aB9 s/\UQ s=UQ s/\Z8 s=Z8 s
def ID:List Bd:=[Ts]
def fA:Ay:=I2 ID (la 2 func75 KA<|la 9 func29 Cn<|l0 ID) [⟨74,aAz.m,agY⟩]
def aTb:DG:=CR 75 18 2 (KT.lp)<|CR 29 0 9 (Gg.lp)<|Dp prog AV ID 20 2
def ao5:EF prog AV aTb:=D6 func75 rfl AU KA<|D6 func29 rfl AU Cn<|Hg<|gk ID
def ayg (s:Nl):((ER prog AV ID aTb fA).k 37 (UQ s)<|Z8 s).bind (λq=>G8 (M<|Z8 s) [0] [] .normal (q.1::UQ s) q.2)=(gC s).mp (λs2=>⟨.normal,M (UQ s)+1,[abh s2],ack s2,U⟩):=AU
theorem avs (s:Nl) (hE:aB9 s):(gC s).all (λq=>q=gV s):=by
 obtain ⟨h1,h2⟩:=hE;unfold gC;rw [dN h2];refine ⟨λc=>?_,λc=>?_⟩
 ·have c:s.p.isC s.ev.en=false:=Q0
  repeat (refine ⟨AI,?_⟩)
  show _=_
  unfold gV PK.O0
  simp_all
 ·have c:s.p.isC s.ev.en=true:=Q0
  have ci:=BV.1 c
  have ci2:s.ev.en<(M s.p.gs:Int):=A0
  repeat (refine ⟨AI,?_⟩)
  refine ⟨⟨⟨ci.1,ci2,h1⟩,rfl,rfl⟩,?_⟩
  repeat (refine ⟨AI,?_⟩)
  show _=_
  unfold gV PK.O0
  grind
def agP:DV prog AV 37 aAr.m:=Cr.sound (D:=aAr) (t:=gC) (gk ID) ao5 fA.h ayg λs hE=>⟨avs s hE⟩
structure Np where
 p:PK
 ev:EW
def UW (s:Np):List LV:=[.own 16 0]
def Yc (s:Np):List AB:=[AP,AP,zB,AP,bV 79 Ad s.p.cs,bV 90 AQ s.p.ls,bV 5 (.int aw) s.p.fl,bV 143 Am s.p.ra,bV 58 B3 s.p.st,bV 69 AQ s.p.ca,bV 148 B6 s.p.mi,bV 105 BQ s.p.me,bV 71 Au s.p.dm,bV 154 BM s.p.lk,bV 3 A7 s.p.dr,bV 3 A7 s.p.tg,⟨[.os 4 11 0<|M s.p.cs,.xl .str s.p.os,.xl Ai s.p.ks,.xl Ae s.p.gs,.xl Aj s.p.bs,.v<|Y J s.p.tk,.v<|.bool s.p.up,.os 5 5 0<|M s.p.ls,.v<|Y J s.p.se,.os 6 1 0<|M s.p.fl,.os 7 2 0<|M s.p.ra,.v<|Y J s.p.nx,.os 8 4 0<|M s.p.st,.os 9 5 0<|M s.p.ca,.os 10 3 0<|M s.p.mi,.os 11 3 0<|M s.p.me,.os 12 4 0<|M s.p.dm,.os 13 6 0<|M s.p.lk,.os 14 1 0<|M s.p.dr,.os 15 1 0<|M s.p.tg,.v<|Y J s.ev.ek,.v<|Y J s.ev.en,.v<|Y J s.ev.em,.v<|Y J s.ev.c1,.v<|Y J s.ev.c2,.v<|Y J s.ev.c3,.v<|Y J s.ev.c4,.v<|Y J s.ev.c5,.v<|.bool s.ev.d1,.v<|Y J s.ev.d2,.v<|Y J s.ev.d3,.v<|Y J s.ev.d4,.v<|.slice aj 0 0],116,.cl,X⟩]
structure Xb where
 res:Int
 p:PK
 ev:EW
def abn (s:Xb):LV:=.v<|Y J s.res
def acu (s:Xb):List AB:=[AP,AP,zB,AP,bV 79 Ad s.p.cs,bV 90 AQ s.p.ls,bV 5 (.int aw) s.p.fl,bV 143 Am s.p.ra,bV 58 B3 s.p.st,bV 69 AQ s.p.ca,bV 148 B6 s.p.mi,bV 105 BQ s.p.me,bV 71 Au s.p.dm,bV 154 BM s.p.lk,bV 3 A7 s.p.dr,bV 3 A7 s.p.tg,⟨[.os 4 11 0<|M s.p.cs,.xl .str s.p.os,.xl Ai s.p.ks,.xl Ae s.p.gs,.xl Aj s.p.bs,.v<|Y J s.p.tk,.v<|.bool s.p.up,.os 5 5 0<|M s.p.ls,.v<|Y J s.p.se,.os 6 1 0<|M s.p.fl,.os 7 2 0<|M s.p.ra,.v<|Y J s.p.nx,.os 8 4 0<|M s.p.st,.os 9 5 0<|M s.p.ca,.os 10 3 0<|M s.p.mi,.os 11 3 0<|M s.p.me,.os 12 4 0<|M s.p.dm,.os 13 6 0<|M s.p.lk,.os 14 1 0<|M s.p.dr,.os 15 1 0<|M s.p.tg,.v<|Y J s.ev.ek,.v<|Y J s.ev.en,.v<|Y J s.ev.em,.v<|Y J s.ev.c1,.v<|Y J s.ev.c2,.v<|Y J s.ev.c3,.v<|Y J s.ev.c4,.v<|Y J s.ev.c5,.v<|.bool s.ev.d1,.v<|Y J s.ev.d2,.v<|Y J s.ev.d3,.v<|Y J s.ev.d4,.v<|.slice aj 0 0],116,.cl,X⟩]
def gH (s:Np):T Xb:=letI a:=(CU s.p.gs s.p.st s.ev.en (6:Int) (0:Int) (0:Int));letI b:=(CU s.p.gs a s.ev.en (2:Int) (0:Int) (0:Int));letI c:=(X,((0:Int),((0:Int),(9:Int))));letI d:=M s.p.ca;.br (!(inB s.ev.en (0:Int)<|AA<|(M s.p.gs:Int)-1)) (.pc s.p<|.ok<|⟨1,s.p,s.ev⟩)<|.ik s.ev.en d<|.br (!((s.p.ca.getD s.ev.en.toNat<|Ty.dflt AQ).2.2.1 !=0)) (.pc s.p<|.ok<|⟨4,s.p,s.ev⟩)<|.pc s.p<|.req (ud (⟨s.ev.en,6,0,0,s.p,s.ev⟩:LP))<|.pa s.p<|.rl a<|.rl s.p.ca<|.rl s.p.mi<|.rl s.p.me<|.rl s.p.dm<|.rl s.p.lk<|.rl s.p.dr<|.rl s.p.tg<|.req (ud (⟨s.ev.en,2,0,0,{s.p with st:=a},s.ev⟩:LP))<|.ik s.ev.en d<|.ik s.ev.en (M s.p.mi)<|.ik s.ev.en (M s.p.dm)<|.pa s.p<|.rl b<|.re d (s.p.ca.set s.ev.en.toNat ((0:Int),((0:Int),((0:Int),((0:Int),(0:Int))))))<|.re (M s.p.mi) (s.p.mi.set s.ev.en.toNat (([]:List Int),((0:Int),(0:Int))))<|.rl s.p.me<|.re (M s.p.dm) (s.p.dm.set s.ev.en.toNat c)<|.rl s.p.lk<|.rl s.p.dr<|.rl s.p.tg<|.ok<|⟨0,{s.p with st:=b,ca:=s.p.ca.set s.ev.en.toNat ((0:Int),((0:Int),((0:Int),((0:Int),(0:Int))))),mi:=s.p.mi.set s.ev.en.toNat (([]:List Int),((0:Int),(0:Int))),dm:=s.p.dm.set s.ev.en.toNat c},s.ev⟩
def aAk (s:Np):Prop:=M s.p.st=M s.p.gs/\M s.p.gs<=1000/\M s.p.ca=M s.p.gs/\M s.p.mi=M s.p.gs/\M s.p.dm=M s.p.gs
def XF (s:Np):Xb:=⟨PK.Ix s.p s.ev.en,JL (PK.Ix s.p s.ev.en) (PK.Qd s.p s.ev.en) s.p,s.ev⟩
def aAw:Cr Np Xb:=⟨UW,Yc,λv b=>⟨rF b,rG b⟩,aAk,[0,1,3],[],abn,acu,XF⟩
abbrev ahE (s:Np):Prop:=aAk s/\UW s=UW s/\Yc s=Yc s
def aSt:DG:=CR 75 18 2 (KT.lp)<|CR 29 0 9 (Gg.lp)<|Dp prog AV ID 20 2
def aoA:EF prog AV aSt:=D6 func75 rfl AU KA<|D6 func29 rfl AU Cn<|Hg<|gk ID
def ayl (s:Np):((ER prog AV ID aSt fA).k 33 (UW s)<|Yc s).bind (λq=>G8 (M<|Yc s) [0] [] .normal (q.1::UW s) q.2)=(gH s).mp (λs2=>⟨.normal,M (UW s)+1,[abn s2],acu s2,U⟩):=AU
theorem avy (s:Np) (hE:aAk s):(gH s).all (λq=>q=XF s):=by
 obtain ⟨h1,h2,h3,h4,h5⟩:=hE;unfold gH;rw [dN h2];refine ⟨λc=>?_,λc=>?_⟩
 ·have c:s.p.isC s.ev.en=false:=Q0
  have he:s.p.Ix s.ev.en=1:=AD c
  repeat (refine ⟨AI,?_⟩)
  show _=_
  unfold XF;rw [JY MH];rw [he]
 ·have c:s.p.isC s.ev.en=true:=Q0
  have ci:=BV.1 c
  have ci2:s.ev.en<(M s.p.gs:Int):=A0
  have hc:¬s.p.isC s.ev.en=false:=aF
  refine ⟨A0,A0,λc2=>?_,λc2=>?_⟩
  ·have c2:(Bc s.p.ca s.ev.en).2.2.1=0:=by simp only [Cs,bne_eq_false_iff_eq] at c2;exact c2
   have he:s.p.Ix s.ev.en=4:=by unfold PK.Ix;rw [AE hc,AD c2]
   repeat (refine ⟨AI,?_⟩)
   show _=_
   unfold XF;rw [JY MH];rw [he]
  ·have c2:¬(Bc s.p.ca s.ev.en).2.2.1=0:=by simp only [I5,Ek] at c2;exact c2
   have he:s.p.Ix s.ev.en=0:=by unfold PK.Ix;rw [AE hc,AE c2]
   have hg:M (CU s.p.gs s.p.st s.ev.en 6 0 0)=M s.p.gs:=by rw [Ir];exact h1
   repeat (refine ⟨AI,?_⟩)
   refine ⟨⟨⟨ci.1,ci2,h1⟩,rfl,rfl⟩,?_⟩
   repeat (refine ⟨A0,?_⟩)
   refine ⟨⟨⟨ci.1,ci2,hg⟩,rfl,rfl⟩,?_⟩
   repeat (refine ⟨A8,?_⟩)
   show _=_
   unfold XF;rw [LJ he];rw [he];rfl
def agU:DV prog AV 33 aAw.m:=Cr.sound (D:=aAw) (t:=gH) (gk ID) aoA fA.h ayl λs hE=>⟨avy s hE⟩
structure No where
 p:PK
 ev:EW
def UU (s:No):List LV:=[.own 16 0]
def Yb (s:No):List AB:=[AP,AP,zB,AP,bV 79 Ad s.p.cs,bV 90 AQ s.p.ls,bV 5 (.int aw) s.p.fl,bV 143 Am s.p.ra,bV 58 B3 s.p.st,bV 69 AQ s.p.ca,bV 148 B6 s.p.mi,bV 105 BQ s.p.me,bV 71 Au s.p.dm,bV 154 BM s.p.lk,bV 3 A7 s.p.dr,bV 3 A7 s.p.tg,⟨[.os 4 11 0<|M s.p.cs,.xl .str s.p.os,.xl Ai s.p.ks,.xl Ae s.p.gs,.xl Aj s.p.bs,.v<|Y J s.p.tk,.v<|.bool s.p.up,.os 5 5 0<|M s.p.ls,.v<|Y J s.p.se,.os 6 1 0<|M s.p.fl,.os 7 2 0<|M s.p.ra,.v<|Y J s.p.nx,.os 8 4 0<|M s.p.st,.os 9 5 0<|M s.p.ca,.os 10 3 0<|M s.p.mi,.os 11 3 0<|M s.p.me,.os 12 4 0<|M s.p.dm,.os 13 6 0<|M s.p.lk,.os 14 1 0<|M s.p.dr,.os 15 1 0<|M s.p.tg,.v<|Y J s.ev.ek,.v<|Y J s.ev.en,.v<|Y J s.ev.em,.v<|Y J s.ev.c1,.v<|Y J s.ev.c2,.v<|Y J s.ev.c3,.v<|Y J s.ev.c4,.v<|Y J s.ev.c5,.v<|.bool s.ev.d1,.v<|Y J s.ev.d2,.v<|Y J s.ev.d3,.v<|Y J s.ev.d4,.v<|.slice aj 0 0],116,.cl,X⟩]
structure Xa where
 res:Int
 p:PK
 ev:EW
def abm (s:Xa):LV:=.v<|Y J s.res
def acr (s:Xa):List AB:=[AP,AP,zB,AP,bV 79 Ad s.p.cs,bV 90 AQ s.p.ls,bV 5 (.int aw) s.p.fl,bV 143 Am s.p.ra,bV 58 B3 s.p.st,bV 69 AQ s.p.ca,bV 148 B6 s.p.mi,bV 105 BQ s.p.me,bV 71 Au s.p.dm,AP,bV 3 A7 s.p.dr,bV 3 A7 s.p.tg,⟨[.os 4 11 0<|M s.p.cs,.xl .str s.p.os,.xl Ai s.p.ks,.xl Ae s.p.gs,.xl Aj s.p.bs,.v<|Y J s.p.tk,.v<|.bool s.p.up,.os 5 5 0<|M s.p.ls,.v<|Y J s.p.se,.os 6 1 0<|M s.p.fl,.os 7 2 0<|M s.p.ra,.v<|Y J s.p.nx,.os 8 4 0<|M s.p.st,.os 9 5 0<|M s.p.ca,.os 10 3 0<|M s.p.mi,.os 11 3 0<|M s.p.me,.os 12 4 0<|M s.p.dm,.xl BM s.p.lk,.os 14 1 0<|M s.p.dr,.os 15 1 0<|M s.p.tg,.v<|Y J s.ev.ek,.v<|Y J s.ev.en,.v<|Y J s.ev.em,.v<|Y J s.ev.c1,.v<|Y J s.ev.c2,.v<|Y J s.ev.c3,.v<|Y J s.ev.c4,.v<|Y J s.ev.c5,.v<|.bool s.ev.d1,.v<|Y J s.ev.d2,.v<|Y J s.ev.d3,.v<|Y J s.ev.d4,.v<|.slice aj 0 0],116,.cl,X⟩]
def gG (s:No):T Xa:=letI b:=((M s.p.lk:Nat):Int);letI a:=(aCw (⟨b,0,s.p,s.ev,([]:List Lk)⟩:Md));.br (!(inB s.ev.en (0:Int)<|AA<|(M s.p.gs:Int)-1)) (.rz s.p.lk<|.pa s.p<|.rl s.p.st<|.rl s.p.ca<|.rl s.p.mi<|.rl s.p.me<|.rl s.p.dm<|.rl s.p.dr<|.rl s.p.tg<|.ok<|⟨1,{s.p with lk:=(s.p.lk.drop 0).take<|M s.p.lk},s.ev⟩)<|.r0 Lk<|.rl s.p.lk<|.pc s.p<|.req (KT.q (⟨b,0,s.p,s.ev,([]:List Lk)⟩:Md))<|.rz a.left<|.pa s.p<|.rl s.p.st<|.rl s.p.ca<|.rl s.p.mi<|.rl s.p.me<|.rl s.p.dm<|.rl s.p.dr<|.rl s.p.tg<|.ok<|⟨0,{s.p with lk:=(a.left.drop 0).take<|M a.left},s.ev⟩
def aBD (s:No):Prop:=M s.p.gs<=1000/\M s.p.lk<=20000000
def gX (s:No):Xa:=⟨PK.O2 s.p s.ev.en,JL (PK.O2 s.p s.ev.en) (PK.gR s.p s.ev.en) s.p,s.ev⟩
def aAv:Cr No Xa:=⟨UU,Yb,λv b=>⟨rF b,rG b⟩,aBD,[0,1,3],[.pc 16 17 BM,.kb 13],abm,acr,gX⟩
abbrev ahD (s:No):Prop:=aBD s/\UU s=UU s/\Yb s=Yb s
def aRN:Ay:=kI ID<|la 2 func75 KA<|la 9 func29 Cn<|l0 ID
def aSs:DG:=CR 75 18 2 (KT.lp)<|CR 29 0 9 (Gg.lp)<|Dp prog AV ID 20 2
def ao9:EF prog AV aSs:=D6 func75 rfl AU KA<|D6 func29 rfl AU Cn<|Hg<|gk ID
def ayk (s:No):((ER prog AV ID aSs aRN).k 34 (UU s)<|Yb s).bind (λq=>G8 (M<|Yb s) [0] [.pc 16 17 BM,.kb 13] .normal (q.1::UU s) q.2)=(gG s).mp (λs2=>⟨.normal,M (UU s)+1,[abm s2],acr s2,U⟩):=AU
theorem avx (s:No) (hE:aBD s):(gG s).all (λq=>q=gX s):=by
 obtain ⟨h1,h2⟩:=hE;unfold gG;rw [dN h1];refine ⟨λc=>⟨A0,?_⟩,λc=>?_⟩
 ·have c:s.p.isC s.ev.en=false:=Q0
  have he:s.p.O2 s.ev.en=1:=AD c
  rw [TI]
  repeat (refine ⟨AI,?_⟩)
  show _=_
  unfold gX;rw [JY A8];rw [he]
 ·have c:s.p.isC s.ev.en=true:=Q0
  have he:s.p.O2 s.ev.en=0:=AE A8
  have hV:ir (⟨((M s.p.lk:Nat):Int),(0:Int),s.p,s.ev,([]:List Lk)⟩:Md):=⟨rfl,rfl,A8,A8⟩
  have q:=(arw _ hV).2
  rw [TI,q]
  repeat (refine ⟨AI,?_⟩)
  refine ⟨⟨hV,rfl,rfl⟩,?_⟩
  repeat (refine ⟨AI,?_⟩)
  unfold gX;rw [he];rfl
def agT:DV prog AV 34 aAv.m:=Cr.sound (D:=aAv) (t:=gG) (gk ID) ao9 aRN.h ayk λs hE=>⟨avx s hE⟩
open Go.RowKit Go.Extern.Stop Go.Stop Go.Extern Go Go.Sx
def atO (v:Value) (w:World):(Extern.ReflectliteType.typeOf #[.iface 50 v]).run prog w=.ok (.iface 343<|.agg #[.pointer<|ah ⟨3,50,aj⟩]) w:=AU
def aKN:Array Value->Sem Value:=Extern.ReflectliteType.method λt=>do Extern.Rtype.noPackHeld "Comparable" t;pure<|.bool (←typeInfo t).comparable
def aeR (w:World):(aKN #[.agg #[.pointer<|ah ⟨3,50,aj⟩]]).run prog w=.ok (.bool U) w:=AU
def asK (v:Value) (w:World):(Go.method 484 343 v "Comparable").run prog w=.ok (252,v) w:=AU
def alZ (v:Value) (xT:TypeId) (w:World):(Instr.typeAssert (.iface 50 v) xT 345 U).run prog w=.ok (.tuple #[.nilIface,.bool X]) w:=xB Tryz.underlying345 AU AU v xT w
def afW (v:Value) (xT:TypeId) (w:World):(Instr.typeAssert (.iface 50 v) xT 348 U).run prog w=.ok (.tuple #[.nilIface,.bool X]) w:=xB Tryz.underlying348 AU AU v xT w
def aex (v:Value) (xT:TypeId) (w:World):(Instr.typeAssert (.iface 50 v) xT 350 U).run prog w=.ok (.tuple #[.nilIface,.bool X]) w:=xB Tryz.underlying350 AU AU v xT w
def afV (n m:Int) (w:World):Calls prog 220 #[.iface 50<|Y J n,.iface 50<|Y J m] w λe w'=>e=.returned (.bool<|n==m)/\w'=w:=by
 have hu:=Tryz.underlying336
 have h8:=@run_callFunc_extern prog 226 _ Extern.ReflectliteType.typeOf func226 AU AU AU AU
 have h32:=@run_callFunc_extern prog 252 _ aKN func252 AU AU AU AU
 have tT:=atO
 have cT:=aeR
 have mR:=asK
 have nE:=alZ
 have uE:=afW
 have vE:=aex
 have heq:=Go.Lib.run_eql_iface_int (P:=prog) w (k:=J) n m hu (by kernel_rfl:(prog.info? 50).map (·.comparable)=ah U) (by kernel_rfl:prog.underlying 50=ah (.int J))
 by_cases e:n=m
 ·subst e
  simp only [OV] at heq|-;exact aL9
 ·have e':(n==m)=false:=yq
  simp only [e'] at heq|-;exact aL9
def abz:List LV->T LV
 | [.v (.iface 50 (Y J n)),.v (.iface 50 (Y J m))]=> .ok (.v<|.bool<|n==m)
 |_=> .no
theorem fm:VV 220 abz:=λargs vals w Z lv hz hg hok hr h=>by
 unfold abz at h;split at h
 ·rename_i n m
  subst h;simp only [RL,R] at hr
  have e2:vals=#[.iface 50<|Y J n,.iface 50<|Y J m]:=by
   grind
  rw [e2];refine (afV n m w).mono λe w' ⟨he,hw⟩=>?_
  subst hw;exact ⟨Below.refl _ _,_,he,ak,JR⟩
 ·cases h
def aSA:List LV->T LV
 | [.agg [.v (Y J se),.xl (.int aw) fl]]=> .ok (HQ se fl)
 |_=> .no
def fW:List Bd:=[]
def XK:=vo (S:=aSA) func103 fW kN (λargs lv h=>by
 unfold aSA at h;split at h
 ·rename_i se fl
  refine Aq (letI a:=(M fl:Int);.br (an<|se>=1) (.br (an<|se<=512) (.br (an<|a>=se) (.br (an<|a<=4096) (.req (se≠0)<|.ok<|.v<|.bool<|(a.tmod se)==0)<|.ok X)<|.ok X)<|.ok X)<|.ok X) ?_;obtain rfl:=h;unfold HQ;refine ⟨λc1=>⟨λc2=>⟨λc3=>⟨λc4=>⟨?_,?_⟩,λc4=>?_⟩,λc3=>?_⟩,λc2=>?_⟩,λc1=>?_⟩
  ·grind
  all_goals refine B0 (λz=>LV.v<|.bool z) ?_
  all_goals first|(simp_all;done) |(simp_all;intros;omega) |(simp_all;omega)
 ·cases h)
def aS3:List LV->T LV
 | [.agg [.v (Y J se),.xl (.int aw) fl]]=> .ok (FR se fl)
 |_=> .no
def azT:List Bd:=[XK]
def uo:=vo (S:=aS3) func80 azT kN (λargs lv h=>by
 unfold aS3 at h;split at h
 ·rename_i se fl
  refine Aq (.br (HQ se fl) (.req (se≠0)<|.req ((2:Int)≠0)<|.ok<|.v<|.bool<|(((AA<|(M fl:Int).tdiv se).tmod 2)==0)&&(an<|(M fl:Int)>=32))<|.ok X) ?_;obtain rfl:=h;unfold FR;refine ⟨λc1=>?_,λc1=>?_⟩
  ·have hv:=NS.1 c1
   refine ⟨A0,Aa,?_⟩;refine B0 (λz=>LV.v<|.bool z) ?_
   rw [c1,AJ (x:=(M fl:Int).tdiv se) (by rw [I9 A0];exact OR Aa<|SY A0 A0) (by rw [I9 A0];exact OR (V5 _ A0) A0)]
   rfl
  ·refine B0 (λz=>LV.v<|.bool z) ?_
   rw [c1];rfl
 ·cases h)
def aS9:List LV->T LV
 | [.v (Y ax n)]=> .ok (.xl (.int aw)<|Cp n)
 |_=> .no
def aiL:=vo (S:=aS9) func203 fW kN (λargs lv h=>by
 unfold aS9 at h;split at h
 ·rename_i n
  refine Aq (.ok<|.xl (.int aw)<|[(IntKind.u8.wrap<|n.fdiv<|2^24),(IntKind.u8.wrap<|n.fdiv<|2^16),(IntKind.u8.wrap<|n.fdiv<|2^8),(IntKind.u8.wrap n)]) ?_;exact h
 ·cases h)
def aSh:List LV->T LV
 | [.xl (.int aw) b]=> .req (4<=M b) (.ok<|.v<|Y ax<|Gq b)
 |_=> .no
def uz:=vo (S:=aSh) func83 fW kN (λargs lv h=>by
 unfold aSh at h;split at h
 ·rename_i b
  refine Aq (letI a:=(M b:Int);.req (0<=(0:Int)/\0<a)<|.req (0<=(1:Int)/\1<a)<|.req (0<=(2:Int)/\2<a)<|.req (0<=(3:Int)/\3<a)<|.ok<|.v<|Y ax<|DM ax (DM ax (DM ax (IntKind.u32.wrap<|(IntKind.u32.wrap<|gi b (0:Int))*2^24)<|IntKind.u32.wrap<|(IntKind.u32.wrap<|gi b (1:Int))*2^16)<|IntKind.u32.wrap<|(IntKind.u32.wrap<|gi b (2:Int))*2^8)<|IntKind.u32.wrap<|gi b (3:Int)) ?_;obtain ⟨h0,rfl⟩:=h;exact ⟨⟨A0,A0⟩,⟨A0,A0⟩,⟨A0,A0⟩,⟨A0,A0⟩,rfl⟩
 ·cases h)
def aSO:List LV->T LV
 | [.agg [.v (Y J se),.xl (.int aw) fl],.v (Y J w)]=> .req ((w=0\/w=1)/\M fl<=4096) (.ok<|.xl (.int aw)<|Bl fl w)
 |_=> .no
def ur:=vo (S:=aSO) func82 fW kN (λargs lv h=>by
 unfold aSO at h;split at h
 ·rename_i se fl w
  refine Aq (letI a:=(AA<|(M fl:Int).tdiv 2);letI b:=AA<|(AA<|w+1)*a;letI c:=AA<|w*a;.req ((2:Int)≠0)<|.req (0<=c/\c<=b/\b<=(M fl:Int)/\b=b)<|.ok<|.xl (.int aw)<|(fl.drop c.toNat).take<|b.toNat-c.toNat) ?_;obtain ⟨⟨h0,h1⟩,rfl⟩:=h
  have e1:(M fl:Int).tdiv 2=((M fl / 2:Nat):Int):=AI
  have e2:AA ((M fl / 2:Nat):Int)=((M fl / 2:Nat):Int):=AJ
  rw [e1,e2];rcases h0 with rfl|rfl
  ·rw [Int.zero_mul,show (0:Int)+1=1 from rfl,show AA 0=0 from rfl,show AA 1=1 from rfl,ZN,e2]
   refine ⟨Aa,⟨A0,A0,A0,rfl⟩,?_⟩;refine B0 (LV.xl<|.int aw) ?_;rfl
  ·rw [ZN,show (1:Int)+1=2 from rfl,show AA 2=2 from rfl,e2,AJ (x:=2*((M fl / 2:Nat):Int))]
   refine ⟨Aa,⟨A0,A0,A0,rfl⟩,?_⟩;refine B0 (LV.xl<|.int aw) ?_
   congr 1
   omega
 ·cases h)
def aSH:List LV->T LV
 | [.agg [.v (Y J se),.xl (.int aw) fl]]=> .req (FR se fl=U) (.tu #[As fl,Ht fl])
 |_=> .no
def azS:List Bd:=[ur,uz]
def aTs := vo (S:=aSH) func81 azS kN (λargs lv h=>by
 unfold aSH at h;split at h
 ·rename_i se fl
  refine Aq (letI d:=(Bl fl (0:Int));letI f:=(Bl fl (1:Int));letI b:=((f.drop (1:Int).toNat).take<|(5:Int).toNat-(1:Int).toNat);letI c:=((d.drop (1:Int).toNat).take<|(5:Int).toNat-(1:Int).toNat);.req (((0:Int)=0\/(0:Int)=1)/\M fl<=4096)<|.req (((1:Int)=0\/(1:Int)=1)/\M fl<=4096)<|.req (0<=(0:Int)/\0<(M d:Int))<|.req (0<=(0:Int)/\0<(M f:Int))<|.br (((gi d (0:Int))==80)&&((gi f (0:Int))==80)) (.req (0<=(1:Int)/\(1:Int)<=(5:Int)/\(5:Int)<=(M f:Int))<|.req (4<=M b)<|.req (0<=(1:Int)/\(1:Int)<=(5:Int)/\(5:Int)<=(M d:Int))<|.req (4<=M c)<|.br (an<|(Gq b)>(Gq c)) (.tu #[(1:Int),(0:Int)])<|.tu #[(0:Int),(0:Int)])<|.br ((gi d (0:Int))==80) (.tu #[(0:Int),(0:Int)])<|.br ((gi f (0:Int))==80) (.tu #[(1:Int),(0:Int)])<|.tu #[(0:Int),(4:Int)]) ?_;obtain ⟨h0,rfl⟩:=h;obtain ⟨_,_,h32,hl,_⟩:=MQ.1 h0
  have l0:=cD fl 0
  have l1:=cD fl 1
  have fin:∀a e:Int,a=As fl->e=Ht fl->LV.v (.tuple #[Y J a,Y J e])=LV.v (.tuple #[Y J<|As fl,Y J<|Ht fl]):=λa e h1 h2=>yv
  have ew:∀w,Gq (((Bl fl w).drop (1:Int).toNat).take<|(5:Int).toNat-(1:Int).toNat)=J6 fl w:=λw=>rfl
  simp only [ew];refine ⟨?_,?_⟩
  ·first|exact ⟨Aa,hl⟩ |omega|decide|(refine ⟨?_,?_⟩<;>omega) |(simp only [MC,F7];omega) |(refine ⟨Aa,Aa,?_⟩;omega)
  ·refine ⟨?_,?_⟩
   ·grind
   ·refine ⟨?_,?_⟩
    ·omega
    ·refine ⟨?_,?_⟩
     ·omega
     ·refine ⟨λc1=>?_,λc1=>?_⟩
      ·refine ⟨?_,?_⟩
       ·omega
       ·refine ⟨?_,?_⟩
        ·grind
        ·refine ⟨?_,?_⟩
         ·omega
         ·refine ⟨?_,?_⟩
          ·grind
          ·refine ⟨λc2=>?_,λc2=>?_⟩
           ·refine fin _ _ ?_ ?_<;>simp_all [As,Ht]
           ·refine fin _ _ ?_ ?_<;>simp_all [As,Ht]
      ·refine ⟨λc2=>?_,λc2=>?_⟩
       ·refine fin _ _ ?_ ?_<;>simp_all [As,Ht]
       ·refine ⟨λc3=>?_,λc3=>?_⟩
        ·refine fin _ _ ?_ ?_<;>simp_all [As,Ht]
        ·refine fin _ _ ?_ ?_<;>simp_all [As,Ht]
 ·cases h)
structure Mr where
 x:Int
 t8:List (List Int)
 (t9 t10:Int)
 l:List Int
 (n i:Int)
def aFd:=lN (bN f105 0) 0
def vQ (s:Mr):T (Rd Mr):=
 .br (an<|s.i<s.n) (.ix s.i (M s.l)<|.nx {s with x:=IntKind.u32.wrap<|(aJk ax s.x<|IntKind.u32.wrap<|gi s.l s.i)*16777619,i:=AA<|s.i+1}) (.so (.exit 2) s)
def iv (s:Mr):Prop:=s.i=0/\s.n<=70000/\s.n=(M s.l:Int)
def jE (s:Mr):Prop:=0<=s.i/\s.i<=s.n/\s.n<=70000/\s.n=(M s.l:Int)
def sU (s:Mr):Nat:=(s.n-s.i).toNat
def abf (x:Ex) (s s':Mr):Prop:=True
def ajT:∀s,iv s->jE s:=by
 exact kf
theorem ayc:Da jE sU abf vQ:=by
 intro s hI;obtain ⟨h0,h1,h2,h3⟩:=hI;refine AH (λc1=>?_) λc1=>?_
 ·have c1:s.i<s.n:=A8
  rw [AJ (x:=s.i+1)];exact ⟨⟨A8,A8,h2,h3⟩,by simp only [sU];omega⟩
 ·trivial
def RT:AT Mr:=⟨0,28,[3,8,9,10,14,15,16],[],λs=>[.v<|Y ax s.x,.xl (.sl<|.int aw) s.t8,s.t9,s.t10,.xl (.int aw) s.l,s.n,s.i],λ_=>[],λv b=>⟨AK v 0,B5 (.sl<|.int aw) v 1,AK v 2,AK v 3,B5 (.int aw) v 4,AK v 5,AK v 6⟩,vQ,λs r=> {s with x:=r.x,i:=r.i},λs=>s,λ_ s=>s,[.exit 2],iv,jE,sU⟩
abbrev aG7:=RT.run
abbrev arH:=RT.Av
def awY:Rq jE vQ:=by
 intro s hI;refine ⟨λc1=>⟨?_,ak⟩,λ_=>trivial⟩
 ·(obtain ⟨h0,h1,h2,h3⟩:=hI;simp only [Ac] at c1;omega)
def fV:List Bd:=[]
def aQN:RT.Ok:={}
def aOp:RT.Pf (abf):=⟨ajT,λs h=>rfl,ayc,awY⟩
def aq8:SA 0 aFd RT:=s1 aQN aOp fV kN
theorem as6:Rs iv arH aG7 (λs:Mr=>SQ s.x<|s.l.drop s.i.toNat) (λx s' (v:Int)=>x=.exit 2/\s'.x=v):=DJ aQN aOp (λs hI=>by
  obtain ⟨h0,h1,h2,h3⟩:=hI;refine AH (λc1=>?_) λc1=>?_
  ·have c1:s.i<s.n:=A8
   rw [AJ (x:=s.i+1)];rw [(gi_step h0 A0).1];rfl
  ·have c1:s.n<=s.i:=A8
   refine ⟨rfl,?_⟩;rw [El A0];rfl)
structure Ms where
 x:Int
 l:List (List Int)
 (n i:Int)
def pK:=bN f105 0
def vR (s:Ms):T (Rd Ms):=
 .br (an<|s.i<s.n) (.ix s.i (M s.l)<|.req (RT.q (⟨s.x,s.l,s.n,s.i,gx (e:=.sl<|.int aw) s.l s.i,(M (gx (e:=.sl<|.int aw) s.l s.i):Int),0⟩:Mr))<|.nx {s with x:=(aG7 (⟨s.x,s.l,s.n,s.i,gx (e:=.sl<|.int aw) s.l s.i,(M (gx (e:=.sl<|.int aw) s.l s.i):Int),0⟩:Mr)).x,i:=AA<|s.i+1}) (.so (.exit 0) s)
def Hv (l:List<|List Int):Prop:=∀p∈l,M p<=70000
def WQ {l:List<|List Int}(h:Hv l) {i:Int}(h0:0<=i) (h1:i<(M l:Int)):M (gx (e:=.sl<|.int aw) l i)<=70000:=by
 have:gx (e:=.sl<|.int aw) l i=l[i.toNat]' A0:=Mg A0
 rw [this];exact h _<|H0 _
def iw (s:Ms):Prop:=s.i=0/\s.n<=1000/\s.n=(M s.l:Int)/\Hv s.l
def Xx (s:Ms):Prop:=0<=s.i/\s.i<=s.n/\s.n<=1000/\s.n=(M s.l:Int)/\Hv s.l
def sX (s:Ms):Nat:=(s.n-s.i).toNat
def abg (x:Ex) (s s':Ms):Prop:=True
def ajU:∀s,iw s->Xx s:=by
 exact Zc
def aQr (s:Ms) (hI:Xx s) (c1:s.i<s.n):iv (⟨s.x,s.l,s.n,s.i,(gx (e:=.sl<|.int aw) s.l s.i),(M (gx (e:=.sl<|.int aw) s.l s.i):Int),(0:Int)⟩:Mr):=by
 obtain ⟨h0,h1,h2,h3,h4⟩:=hI
 have:=WQ h4 h0 A0
 refine ⟨rfl,?_,rfl⟩
 show (M (gx (e:=.sl<|.int aw) s.l s.i):Int)<=70000
 omega
theorem ayd:Da Xx sX abg vR:=by
 intro s hI;obtain ⟨h0,h1,h2,h3,h4⟩:=hI;refine AH (λc1=>?_) λc1=>trivial
 have c1:s.i<s.n:=A8
 rw [AJ (x:=s.i+1)];exact ⟨⟨A8,A8,h2,h3,h4⟩,by simp only [sX];omega⟩
def RU:AT Ms:=⟨0,28,[3,8,9,10],[],λs=>[.v<|Y ax s.x,.xl (.sl<|.int aw) s.l,s.n,s.i],λ_=>[],λv b=>⟨AK v 0,B5 (.sl<|.int aw) v 1,AK v 2,AK v 3⟩,vR,λs r=> {r with l:=s.l,n:=s.n},λs=>s,λ_ s=>s,[.exit 0],iw,Xx,sX⟩
abbrev aG8:=RU.run
abbrev arK:=RU.Av
theorem awZ:Rq Xx vR:=by
 intro s hI;refine ⟨λc1=>⟨?_,?_,ak⟩,λ_=>trivial⟩
 ·exact aLV
 ·exact ⟨aQr s hI A8,rfl,rfl⟩
def aQO:RU.Ok:={}
def aOq:RU.Pf (abg):=⟨ajU,λs h=>rfl,ayd,awZ⟩
def aq9:SA 0 pK RU:=AT.snd aQO aOq (nL (Γ:=fV) (K:=Fp) (L:=(λi=>if i=6 then RT.lp else Al i)) (gk fV) kN.h pK (λb hb=>by
 rw [show BD _=[aFd] by kernel_rfl] at hb
 simp only [B7,Bt,Bu] at hb;subst hb;exact aq8)) λs=>AU
def WG {l:List<|List Int}{i:Int}(h0:0<=i) (h:i<(M l:Int)):l.drop i.toNat=gx (e:=.sl<|.int aw) l i::l.drop (i+1).toNat:=(QK h0 h).1
theorem as7:Rs iw arK aG8 (λs:Ms=>(s.l.drop s.i.toNat).foldl SQ s.x) (λx s' (v:Int)=>x=.exit 0/\s'.x=v):=DJ aQO aOq (λs hI=>by
  have hin:=λc1=>aQr s hI c1
  obtain ⟨h0,h1,h2,h3,h4⟩:=hI;refine AH (λc1=>?_) λc1=>?_
  ·have c1:s.i<s.n:=A8
   rw [AJ (x:=s.i+1)]
   have hr:=(as6 _<|hin c1).2
   rw [hr,WG h0 A0];rfl
  ·have c1:s.n<=s.i:=A8
   refine ⟨rfl,?_⟩;rw [El A0];rfl)
def aSK:List LV->T LV
 | [.xl (.sl (.int aw)) ps]=> .req (M ps<=1000/\Hv ps) (.ok<|.v<|Y ax<|PC ps)
 |_=> .no
def uq:=vm (S:=aSK) func105 fV kN (L:=(λi=>if i=3 then RU.lp else Al i)) (λb hb=>by
 rw [show BD _=[pK] by kernel_rfl] at hb
 simp only [B7,Bt,Bu] at hb;subst hb;exact aq9) (λargs lv h=>by
 unfold aSK at h;split at h
 ·rename_i ps
  refine Aq (.req (RU.q (⟨2166136261,ps,(M ps:Int),0⟩:Ms))<|.ok<|.v<|Y ax (aG8 (⟨2166136261,ps,(M ps:Int),0⟩:Ms)).x) ?_;obtain ⟨⟨h0,h1⟩,rfl⟩:=h
  have hE:iw ⟨2166136261,ps,(M ps:Int),0⟩:=⟨rfl,AZ,rfl,h1⟩
  obtain ⟨q1,q2⟩:=as7 _ hE;refine ⟨⟨hE,rfl,rfl⟩,?_⟩;refine B0 (λz=>LV.v<|Y ax z) ?_
  exact q2
 ·cases h)
def ahN:List LV->T LV:=λ_=> .no
def aJg:VV 1000034 ahN:=by
 exact xp
def aSc:List LV->T LV
 | [.xl (.int aw) d]=> .req (M d<=70000) (.ok<|.xl (.int aw)<|Br d)
 |_=> .no
def azR:List Bd:=[uq,aiL,aJg]
def uy:=vo (S:=aSc) func196 azR kN (λargs lv h=>by
 unfold aSc at h;split at h
 ·rename_i d
  refine Aq (letI a:=(IntKind.u8.wrap<|(M d:Int).fdiv<|2^8);letI b:=(IntKind.u8.wrap (M d:Int));letI c:=(Cp<|PC<|[(([a,b]).drop 0).take 2,d]);.req (0+2<=M ([a,b]))<|.ra 1 (M<|[(80:Int)]) (1+M ((([a,b]).drop 0).take 2)) 1<|.req (0+2<=M ([a,b]))<|.req (M ([(([a,b]).drop 0).take 2,d])<=1000/\Hv ([(([a,b]).drop 0).take 2,d]))<|.ra (1+M ((([a,b]).drop 0).take 2)) (M<|([(80:Int)])++((([a,b]).drop 0).take 2)) (1+M ((([a,b]).drop 0).take 2)+M c) 1<|.ra (1+M ((([a,b]).drop 0).take 2)+M c) (M<|(([(80:Int)])++((([a,b]).drop 0).take 2))++c) (1+M ((([a,b]).drop 0).take 2)+M c+M d) 1<|.req (0+(1+M ((([a,b]).drop 0).take 2)+M c+M d)<=M (((([(80:Int)])++((([a,b]).drop 0).take 2))++c)++d))<|.ok<|.xl (.int aw)<|((((([(80:Int)])++((([a,b]).drop 0).take 2))++c)++d).drop 0).take<|1+M ((([a,b]).drop 0).take 2)+M c+M d) ?_;obtain ⟨h0,rfl⟩:=h
  have e:(([(IntKind.u8.wrap<|(M d:Int).fdiv<|2^8),(IntKind.u8.wrap (M d:Int))].drop 0).take 2)=Jv d:=rfl
  have e2:M (Jv d)=2:=rfl
  have e4:∀n,M (Cp n)=4:=λ_=>rfl
  simp only [e]
  have hk:Hv [Jv d,d]:=by
   intro p hp;simp only [B7,Bt,Bu] at hp;rcases hp with rfl|rfl
   ·rw [e2];omega
   ·exact h0
  iterate 7 refine ⟨A8,?_⟩
  refine B0 (LV.xl<|.int aw) ?_;rw [DR A8];rfl
 ·cases h)
def aES {b:List Int}:∀ {n m f:Nat},M b<=n+f->M b<=m+f->HD b n f=HD b m f
 |0,0,_,_,_=>rfl
 |0,m+1,f,h,_=>aNH
 |n+1,0,f,_,h=>aNH
 |n+1,m+1,f,h1,h2=>by
  simp only [HD];rw [aES (n:=n) (m:=m) (f:=f+7+Fv b f) A0 A0]
def JH (b:List Int) (f:Nat):List (List Int)×Nat×Bool:=HD b (M b) f
def Wb (b:List Int) (f:Nat):JH b f=if f<M b/\gi b (f:Int)=80 then (if rcG b f then (H9 b f::(JH b<|f+7+Fv b f).1,(JH b<|f+7+Fv b f).2) else ([],f,X)) else ([],f,U):=by
 unfold JH;rw [aES (n:=M b) (m:=M b+1) (f:=f) A0 A0];rfl
def z8:Array Tmp×Code×Code:=((It<|f39.body.getD .skip)[0]?).getD (#[],.skip,.skip)
def aj9:Array Tmp:=z8.1
def ak3:Code:=z8.2.1
def aid:Code:=z8.2.2
structure Fh where
 (from_ He:Int)
 Hc:List Int
 (Ot Oe P2:Int)
 On:Bool
 (b2 ct bW E0:Int)
 cP:Bool
 b:List Int
 rs:List (List Int)
 st:LS
def lkS (s:Fh):List Int:=((s.b.drop (AA<|s.from_+1).toNat).take<|(AA<|s.from_+3).toNat-(AA<|s.from_+1).toNat)
def EK (s:Fh):Int:=(AA<|(AA<|(AA<|s.from_+7)+(AA<|(AA<|gi (lkS s) (0:Int))*2^8))+(AA<|gi (lkS s) (1:Int)))
def lkP (s:Fh):List (List Int):=([(s.b.drop (AA<|s.from_+1).toNat).take<|(AA<|s.from_+3).toNat-(AA<|s.from_+1).toNat,(s.b.drop (AA<|s.from_+7).toNat).take<|(EK s).toNat-(AA<|s.from_+7).toNat])
def lkH (s:Fh):List Int:=((s.b.drop (AA<|s.from_+3).toNat).take<|(AA<|s.from_+7).toNat-(AA<|s.from_+3).toNat)
def Kh (s:Fh):List Int:=((s.b.drop (AA<|s.from_+7).toNat).take<|(EK s).toNat-(AA<|s.from_+7).toNat)
def Pd (s:Fh):T (Rd Fh):=letI a:=(s.rs++([((([]:List Int)++([]:List Int)).drop 0).take<|0+M ([]:List Int)]));letI c:=(M s.rs+M ([((([]:List Int)++([]:List Int)).drop 0).take<|0+M ([]:List Int)]));letI d:=(s.rs++([((([]:List Int)++(Kh s)).drop 0).take<|0+M (Kh s)]));letI e:=(M s.b:Int);letI f:=(M<|[((([]:List Int)++([]:List Int)).drop 0).take<|0+M ([]:List Int)]);letI g:=(M s.rs+M ([((([]:List Int)++(Kh s)).drop 0).take<|0+M (Kh s)]));letI h:=AA<|s.from_+7;letI i:=(M ([]:List Int));letI j:=AA<|s.from_+3;letI k:=(PC<|lkP s)==(Gq<|lkH s);letI l:=(M (lkS s):Int);letI m:=M s.rs;.br (an<|s.from_<e) (.ix s.from_ (M s.b)<|.br ((gi s.b s.from_)==80) (.br (an<|h<=e) (.req (0<=(AA<|s.from_+1)/\(AA<|s.from_+1)<=j/\j<=e)<|.req (0<=(0:Int)/\0<l)<|.req (0<=(1:Int)/\1<l)<|.br (an<|(EK s)<=e) (.req (0<=h/\h<=(EK s)/\(EK s)<=e/\(EK s)=(EK s))<|.req (0<=j/\j<=h/\h<=e)<|.req (M (lkP s)<=1000/\Hv (lkP s))<|.req (4<=M (lkH s))<|.br (! k) (.rl s.rs<|.so (.ret) {s with Ot:=(0:Int),Oe:=(0:Int),P2:=(0:Int),On:=X,b2:=(11:Int),st:=.done<|.ret})<|.ra 0 i (0+M (Kh s)) 1<|.req (0+(0+M (Kh s))<=M (([]:List Int)++(Kh s)))<|.rb m (M<|[((([]:List Int)++(Kh s)).drop 0).take<|0+M (Kh s)]) 24<|.br (! k) (.re g d<|.so (.ret) {s with E0:=EK s,rs:=d})<|.re g d<|.nx {s with from_:=EK s,E0:=EK s,rs:=d})<|.br (!X) (.rl s.rs<|.so (.ret) {s with Ot:=(0:Int),Oe:=(0:Int),P2:=(0:Int),On:=X,b2:=(11:Int),st:=.done<|.ret})<|.ra 0 i (0+M ([]:List Int)) 1<|.req (0+(0+M ([]:List Int))<=M (([]:List Int)++([]:List Int)))<|.rb m f 24<|.br (!X) (.re c a<|.so (.ret) {s with E0:=e,rs:=a})<|.re c a<|.nx {s with from_:=e,E0:=e,rs:=a})<|.br (!X) (.rl s.rs<|.so (.ret) {s with Ot:=(0:Int),Oe:=(0:Int),P2:=(0:Int),On:=X,b2:=(11:Int),st:=.done<|.ret})<|.ra 0 i (0+M ([]:List Int)) 1<|.req (0+(0+M ([]:List Int))<=M (([]:List Int)++([]:List Int)))<|.rb m f 24<|.br (!X) (.re c a<|.so (.ret) {s with E0:=e,rs:=a})<|.re c a<|.nx {s with from_:=e,E0:=e,rs:=a})<|.rl s.rs<|.so (.exit 0) s)<|.rl s.rs<|.so (.exit 0) s
def zn {b:List Int}(h:BI b) (i:Int):0<=gi b i/\gi b i<=255:=by
 unfold gi;rw [Dd];cases e:b[i.toNat]? with
 |none=>decide
 |some x=>exact h x<|OS e
theorem aai {b:List Int}{m n k:Nat}(h:k<n):gi ((b.drop m).take n) (k:Int)=gi b ((m+k:Nat):Int):=by
 unfold gi
 grind
def Lo (s:Fh) (hb:BI s.b) (h0:0<=s.from_) (h7:s.from_+7<=(M s.b:Int)) (hl:M s.b<=4096):
  EK s=s.from_+7+Fv s.b s.from_.toNat/\M (lkS s)=2/\lkH s=(s.b.drop<|s.from_.toNat+3).take 4/\Kh s=H9 s.b s.from_.toNat/\lkP s=[(s.b.drop<|s.from_.toNat+1).take 2,H9 s.b s.from_.toNat]:=by
 obtain ⟨f,hf⟩:=Pr h0
 have w1:AA (s.from_+1)=s.from_+1:=AJ
 have w3:AA (s.from_+3)=s.from_+3:=AJ
 have w7:AA (s.from_+7)=s.from_+7:=AJ
 have t1:(s.from_+1).toNat=f+1:=A0
 have t3:(s.from_+3).toNat=f+3:=A0
 have t7:(s.from_+7).toNat=f+7:=A0
 have tf:s.from_.toNat=f:=A0
 have eS:lkS s=(s.b.drop<|f+1).take 2:=by
  unfold lkS;rw [w1,w3,t1,t3,show f+3-(f+1)=2 by omega]
 have b1:=zn hb ((f+1:Nat):Int)
 have b2:=zn hb ((f+2:Nat):Int)
 have g0:gi (lkS s) (0:Int)=gi s.b ((f+1:Nat):Int):=by rw [eS];exact aai (k:=0) Aa
 have g1:gi (lkS s) (1:Int)=gi s.b ((f+2:Nat):Int):=by rw [eS];exact aai (k:=1) Aa
 have hN:Fv s.b f=(gi s.b ((f+1:Nat):Int)).toNat*256+(gi s.b ((f+2:Nat):Int)).toNat:=rfl
 have eT:EK s=s.from_+7+Fv s.b f:=by
  unfold EK;rw [g0,g1,w7,AJ (x:=gi s.b ((f+1:Nat):Int)),AJ (x:=gi s.b ((f+1:Nat):Int)*2^8),AJ (x:=gi s.b ((f+2:Nat):Int)),AJ (x:=s.from_+7+gi s.b ((f+1:Nat):Int)*2^8),AJ];omega
 have eD:(s.b.drop (AA<|s.from_+7).toNat).take ((EK s).toNat-(AA<|s.from_+7).toNat)=H9 s.b f:=by
  unfold H9;rw [eT,w7,t7,show (s.from_+7+(Fv s.b f:Int)).toNat-(f+7)=Fv s.b f by omega]
 rw [tf];refine ⟨eT,by rw [eS];simp only [MC,F7];omega,?_,eD,?_⟩
 ·unfold lkH
  rw [w3,w7,t3,t7,show f+7-(f+3)=4 by omega]
 ·unfold lkP
  rw [eD,w1,w3,t1,t3,show f+3-(f+1)=2 by omega]
def aJy (s:Fh) (hb:BI s.b) (h0:0<=s.from_) (h7:s.from_+7<=(M s.b:Int)) (hl:M s.b<=4096) (hT:EK s<=(M s.b:Int)):rcG s.b s.from_.toNat=(PC (lkP s)==Gq (lkH s)):=by
 obtain ⟨e1,e2,e3,e4,e5⟩:=Lo s hb h0 h7 hl;unfold rcG rcF;rw [e3,e5,Cm (p:=s.from_.toNat+7<=M s.b) A0,Cm (p:=s.from_.toNat+7+Fv s.b s.from_.toNat<=M s.b) A0];rfl
def aJz (s:Fh) (h0:0<=s.from_) (hl:M s.b<=4096) (h:(M s.b:Int)<s.from_+7\/(M s.b:Int)<s.from_+7+Fv s.b s.from_.toNat):rcG s.b s.from_.toNat=false:=by
 unfold rcG rcF
 by_cases h1:s.from_.toNat+7<=M s.b
 ·rw [I8 (p:=s.from_.toNat+7+Fv s.b s.from_.toNat<=M s.b) A0,SS]
  rfl
 ·rw [I8 (p:=s.from_.toNat+7<=M s.b) h1]
  rfl
theorem arx (fx:Ex->Fh->Fh) (hr:∀s',fx .ret s'={s' with st:=.done .ret}) (h0:∀s',fx (.exit 0) s'={s' with st:=.ready}) (s:Fh) (h:s.st=.ready):DK (λ_=>True) (λx s'=>fx x s'=s') ((Pd s).rd s):=by
 obtain ⟨from_,He,Hc,Ot,Oe,P2,On,b2,ct,bW,E0,cP,b,rs,st⟩:=s;subst h;unfold Pd;dsimp only [T.rd,T.rl,T.rv];refine AH (λc1=>?_) λc1=>?_
 ·refine AH (λc2=>?_) (λc2=>?_)
  ·refine AH (λc3=>?_) (λc3=>?_)
   ·refine AH (λc4=>?_) (λc4=>?_)
    ·refine AH (λc5=>?_) (λc5=>?_)
     ·exact hr _
     ·refine AH (λc6=>?_) (λc6=>?_)
      ·grind
      ·trivial
    ·refine AH (λc5=>?_) (λc5=>?_)
     ·exact hr _
     ·refine AH (λc6=>?_) (λc6=>?_)
      ·grind
      ·grind
   ·refine AH (λc4=>?_) (λc4=>?_)
    ·exact hr _
    ·refine AH (λc5=>?_) (λc5=>?_)
     ·grind
     ·grind
  ·exact h0 _
 ·exact h0 _
def mO (s:Fh):Prop:=s.st=.ready/\5<=s.from_/\s.from_<=(M s.b:Int)/\M s.b<=4096/\BI s.b/\s.E0=s.from_/\(M s.rs:Int)<=s.from_
def mG (s:Fh):Prop:=s.st=.ready/\5<=s.from_/\s.from_<=(M s.b:Int)/\M s.b<=4096/\BI s.b/\s.E0=s.from_/\(M s.rs:Int)<=s.from_
def zg (s:Fh):Nat:=((M s.b:Int)-s.from_).toNat
def aKF (x:Ex) (s s':Fh):Prop:=True
def amG:∀s,mO s->mG s:=by
 exact λs h=>h
theorem ajw:Da mG zg aKF Pd:=by
 intro s hI;unfold Pd;dsimp only [T.rd,T.rl,T.rv];refine AH (λc1=>?_) λc1=>?_
 ·refine AH (λc2=>?_) (λc2=>?_)
  ·refine AH (λc3=>?_) (λc3=>?_)
   ·refine AH (λc4=>?_) (λc4=>?_)
    ·refine AH (λc5=>?_) (λc5=>?_)
     ·trivial
     ·refine AH (λc6=>?_) (λc6=>?_)
      ·grind
      ·obtain ⟨ht,h5,hl,h4,hb,he,hr⟩:=hI
       have w7:AA (s.from_+7)=s.from_+7:=AJ
       have c3:s.from_+7<=(M s.b:Int):=A8
       have c4:=Cx c4
       obtain ⟨e1,e2,e3,e4,e5⟩:=Lo s hb A0 c3 h4;refine ⟨⟨ht,A8,c4,h4,hb,rfl,?_⟩,?_⟩
       ·grind
       ·simp only [zg];omega
    ·refine AH (λc5=>?_) (λc5=>?_)
     ·trivial
     ·refine AH (λc6=>?_) (λc6=>?_)
      ·grind
      ·grind
   ·refine AH (λc4=>?_) (λc4=>?_)
    ·trivial
    ·refine AH (λc5=>?_) (λc5=>?_)
     ·grind
     ·grind
  ·trivial
 ·trivial
def SL:AT Fh:=⟨6,83,[0,1,3],[.nc 3 2 34<|.sl<|.int aw],λs=>[.CK 5,.own 4 0,s.from_],λs=>[⟨[s.He,.xl (.int aw) s.Hc],36,.cl,X⟩,⟨[s.Ot,.v<|Y ax s.Oe,.v<|.slice aj 0 0,s.P2,s.On],119,.cl,X⟩,⟨[s.b2],50,.cl,X⟩,⟨[s.ct,.v<|Y ax s.bW,.os 6 1 0<|M s.rs,s.E0,s.cP],119,.cl,X⟩,⟨[.xl (.int aw) s.b],34,.cl,X⟩,⟨[.junk,.junk,.own 1 0,.own 2 0,.junk,.junk,.junk,.own 3 0,.v<|.tuple #[],.junk,.junk,.junk,.junk,.junk,.junk,.junk,.junk,.junk,.junk,.junk,.junk,.junk,.junk,.junk,.junk,.junk,.junk,.junk,.junk,.junk,.junk,.junk,.junk,.junk,.v<|.tuple #[],.v<|.tuple #[],.v<|.tuple #[],.v<|.tuple #[],.v<|.tuple #[],.v<|.tuple #[],.v<|.tuple #[],.v<|.tuple #[],.v<|.tuple #[],.v<|.tuple #[],.v<|.tuple #[],.v<|.tuple #[],.v<|.tuple #[],.v<|.tuple #[],.v<|.tuple #[],.v<|.tuple #[],.v<|.tuple #[],.junk,.junk,.junk,.junk,.junk,.junk,.junk,.junk,.junk,.junk,.junk,.junk,.junk,.junk,.junk,.junk,.junk,.junk],0,.Cc aj9 ak3 aid s.st,X⟩,⟨[],34,.vec (.sl<|.int aw) s.rs,X⟩],λv b=>⟨AK v 2,Ak b 0 0,AF (.int aw) b 0 1,Ak b 1 0,Ak b 1 1,Ak b 1 3,Kk b 1 4,Ak b 2 0,Ak b 3 0,Ak b 3 1,Ak b 3 3,Kk b 3 4,AF (.int aw) b 4 0,Ab (.sl<|.int aw) b 6,.ready⟩,Pd,λs r=> {r with He:=s.He,Hc:=s.Hc,ct:=s.ct,bW:=s.bW,cP:=s.cP,b:=s.b},λs=> {s with st:=.ready},λx s=> {s with st:=(match x with| .ret=>(.done<|.ret) | .exit 0=> .ready|_=> .ready)},[.ret,.exit 0],mO,mG,zg⟩
abbrev GR:=SL.run
abbrev aRI:=SL.Av
def uL:List Bd:=[uo,aTs,ur,uz,uq]
def azu:Ay:=kI uL<|l0 uL
theorem aiw:Rq mG Pd:=by
 intro s hI;refine ⟨λc1=>⟨?_,λc2=>⟨λc3=>⟨?_,?_,?_,λc4=>⟨?_,?_,?_,?_,λc5=>⟨A9,ak⟩,λc5=>⟨?_,?_,?_,λc6=>⟨?_,ak⟩,λc6=>⟨?_,ak⟩⟩⟩,λc4=>⟨λc7=>⟨A9,ak⟩,λc7=>⟨?_,?_,?_,λc8=>⟨?_,ak⟩,λc8=>⟨?_,ak⟩⟩⟩⟩,λc3=>⟨λc9=>⟨A9,ak⟩,λc9=>⟨?_,?_,?_,λc10=>⟨?_,ak⟩,λc10=>⟨?_,ak⟩⟩⟩⟩,λc2=>⟨A9,ak⟩⟩,λc1=>⟨A9,ak⟩⟩
 ·(obtain ⟨ht,h5,hl,h4,hb,he,hr⟩:=hI;have w7:AA (s.from_+7)=s.from_+7:=AJ;have w1:AA (s.from_+1)=s.from_+1:=AJ;have w3:AA (s.from_+3)=s.from_+3:=AJ;simp only [Ac] at c1;omega)
 iterate 3 · (obtain ⟨ht,h5,hl,h4,hb,he,hr⟩:=hI;have w7:AA (s.from_+7)=s.from_+7:=AJ;have w1:AA (s.from_+1)=s.from_+1:=AJ;have w3:AA (s.from_+3)=s.from_+3:=AJ;have k3:s.from_+7<=(M s.b:Int):=Oc;obtain ⟨e1,e2,e3,e4,e5⟩:=Lo s hb A0 k3 h4;(first|omega|(rw [w1,w3];omega) |(rw [w3,w7];omega)))
 iterate 2 · (obtain ⟨ht,h5,hl,h4,hb,he,hr⟩:=hI;have w7:AA (s.from_+7)=s.from_+7:=AJ;have w1:AA (s.from_+1)=s.from_+1:=AJ;have w3:AA (s.from_+3)=s.from_+3:=AJ;have k3:s.from_+7<=(M s.b:Int):=Oc;obtain ⟨e1,e2,e3,e4,e5⟩:=Lo s hb A0 k3 h4;have k4:EK s<=(M s.b:Int):=Cx c4;have hD:M (H9 s.b s.from_.toNat)<=4096:=Zx;(first|omega|(rw [w1,w3];omega) |(rw [w3,w7];omega) |(rw [w7];exact ⟨A0,A0,k4,rfl⟩)))
 ·(obtain ⟨ht,h5,hl,h4,hb,he,hr⟩:=hI;have w7:AA (s.from_+7)=s.from_+7:=AJ;have w1:AA (s.from_+1)=s.from_+1:=AJ;have w3:AA (s.from_+3)=s.from_+3:=AJ;have k3:s.from_+7<=(M s.b:Int):=Oc;obtain ⟨e1,e2,e3,e4,e5⟩:=Lo s hb A0 k3 h4;have k4:EK s<=(M s.b:Int):=Cx c4;have hD:M (H9 s.b s.from_.toNat)<=4096:=Zx;rw [e5];refine ⟨AI,λp hp=>?_⟩;simp only [B7,Bt,Bu] at hp;rcases hp with rfl|rfl;(first|(simp only [MC,F7];omega) |omega);omega)
 ·(obtain ⟨ht,h5,hl,h4,hb,he,hr⟩:=hI;have w7:AA (s.from_+7)=s.from_+7:=AJ;have w1:AA (s.from_+1)=s.from_+1:=AJ;have w3:AA (s.from_+3)=s.from_+3:=AJ;have k3:s.from_+7<=(M s.b:Int):=Oc;obtain ⟨e1,e2,e3,e4,e5⟩:=Lo s hb A0 k3 h4;have k4:EK s<=(M s.b:Int):=Cx c4;have hD:M (H9 s.b s.from_.toNat)<=4096:=Zx;rw [e3];simp only [MC,F7];omega)
 ·(obtain ⟨ht,h5,hl,h4,hb,he,hr⟩:=hI;have w7:AA (s.from_+7)=s.from_+7:=AJ;have w1:AA (s.from_+1)=s.from_+1:=AJ;have w3:AA (s.from_+3)=s.from_+3:=AJ;have k3:s.from_+7<=(M s.b:Int):=Oc;obtain ⟨e1,e2,e3,e4,e5⟩:=Lo s hb A0 k3 h4;have k4:EK s<=(M s.b:Int):=Cx c4;have hD:M (H9 s.b s.from_.toNat)<=4096:=Zx;rw [e4];simp only [BF,Bk,Bp,FA];try omega)
 ·grind
 iterate 3 · (obtain ⟨ht,h5,hl,h4,hb,he,hr⟩:=hI;have w7:AA (s.from_+7)=s.from_+7:=AJ;have w1:AA (s.from_+1)=s.from_+1:=AJ;have w3:AA (s.from_+3)=s.from_+3:=AJ;have k3:s.from_+7<=(M s.b:Int):=Oc;obtain ⟨e1,e2,e3,e4,e5⟩:=Lo s hb A0 k3 h4;have k4:EK s<=(M s.b:Int):=Cx c4;have hD:M (H9 s.b s.from_.toNat)<=4096:=Zx;rw [e4];simp only [BF,Bk,Bp,FA];try omega)
 iterate 5 · exact absurd c7 Aa
 iterate 5 · exact absurd c9 Aa
def abT:SL.Ok:=⟨λs=>AU,λs _=>arx SL.fx (λ_=>rfl) (λ_=>rfl) (SL.rd s) rfl,λs=>rfl,λs t r=>rfl,λs=>rfl,λs=>AU⟩
def abE:SL.Pf (aKF):=⟨amG,λs h=>by
 obtain ⟨from_,He,Hc,Ot,Oe,P2,On,b2,ct,bW,E0,cP,b,rs,st⟩:=s
 have e:=h.1
 subst e;rfl,ajw,aiw⟩
def avQ:=s2 (b:=bN f104 0) abT abE uL azu
theorem ayT:Rs mO aRI GR (λs:Fh=>(s.rs++(JH s.b s.from_.toNat).1,(JH s.b s.from_.toNat).2.1,(JH s.b s.from_.toNat).2.2)) (λx s' (v:List (List Int)×Nat×Bool)=>(x=.exit 0/\s'.rs=v.1/\s'.E0=(v.2.1:Int)/\v.2.2=U)\/(x=.ret/\v.2.2=X/\s'.b2=11/\s'.Ot=0/\s'.Oe=0/\s'.P2=0/\s'.On=X)):=DJ abT abE (λs hI=>by
  show DK _ _ ((Pd s).rd s)
  unfold Pd;dsimp only [T.rd,T.rl];refine AH (λc1=>?_) λc1=>?_
  ·refine AH (λc2=>?_) (λc2=>?_)
   ·refine AH (λc3=>?_) (λc3=>?_)
    ·refine AH (λc4=>?_) (λc4=>?_)
     ·refine AH (λc5=>?_) (λc5=>?_)
      ·obtain ⟨ht,h5,hl,h4,hb,he,hr⟩:=hI
       have w7:AA (s.from_+7)=s.from_+7:=AJ
       have hq:=Wb s.b s.from_.toNat
       rw [CM A0] at hq;rw [AD ⟨lH,EC⟩] at hq
       have k3:s.from_+7<=(M s.b:Int):=Oc
       obtain ⟨e1,e2,e3,e4,e5⟩:=Lo s hb A0 k3 h4
       have hg:=aJy s hb A0 k3 h4<|Cx c4
       have hg:rcG s.b s.from_.toNat=false:=aNT
       exact xi
      ·refine AH (λc6=>?_) (λc6=>?_)
       ·exact absurd (c5.symm.trans c6) Aa
       ·obtain ⟨ht,h5,hl,h4,hb,he,hr⟩:=hI
        have w7:AA (s.from_+7)=s.from_+7:=AJ
        have hq:=Wb s.b s.from_.toNat
        rw [CM A0] at hq;rw [AD ⟨lH,EC⟩] at hq
        have k3:s.from_+7<=(M s.b:Int):=Oc
        obtain ⟨e1,e2,e3,e4,e5⟩:=Lo s hb A0 k3 h4
        have hg:=aJy s hb A0 k3 h4<|Cx c4
        have hg:rcG s.b s.from_.toNat=true:=aNT
        rw [AD hg] at hq
        have et:(EK s).toNat=s.from_.toNat+7+Fv s.b s.from_.toNat:=A0
        have ed:((([]:List Int)++Kh s).drop 0).take (0+M (Kh s))=H9 s.b s.from_.toNat:=by
         rw [e4,EB,CP,EM];exact DR<|Ar _
        show (s.rs++[_]++(JH s.b (EK s).toNat).1,(JH s.b (EK s).toNat).2.1,(JH s.b (EK s).toNat).2.2)=(s.rs++(JH s.b s.from_.toNat).1,(JH s.b s.from_.toNat).2.1,(JH s.b s.from_.toNat).2.2)
        rw [ed,et,hq];simp only [Cl,L0,EB]
     ·refine AH (λc5=>?_) (λc5=>?_)
      ·obtain ⟨ht,h5,hl,h4,hb,he,hr⟩:=hI
       have w7:AA (s.from_+7)=s.from_+7:=AJ
       have hq:=Wb s.b s.from_.toNat
       rw [CM A0] at hq;rw [AD ⟨lH,EC⟩] at hq
       have k3:s.from_+7<=(M s.b:Int):=Oc
       obtain ⟨e1,e2,e3,e4,e5⟩:=Lo s hb A0 k3 h4
       have hg:=aJz s A0 h4<|.inr (by have:=Jw c4;omega)
       exact xi
      ·refine AH (λc6=>?_) (λc6=>?_)
       ·exact absurd c5 Aa
       ·exact absurd c5 Aa
    ·refine AH (λc4=>?_) (λc4=>?_)
     ·obtain ⟨ht,h5,hl,h4,hb,he,hr⟩:=hI
      have w7:AA (s.from_+7)=s.from_+7:=AJ
      have hq:=Wb s.b s.from_.toNat
      rw [CM A0] at hq;rw [AD ⟨lH,EC⟩] at hq
      have hg:=aJz s A0 h4<|.inl (by rw [w7] at c3;have:=Jw c3;omega)
      exact xi
     ·refine AH (λc5=>?_) (λc5=>?_)
      ·exact absurd c4 Aa
      ·exact absurd c4 Aa
   ·obtain ⟨ht,h5,hl,h4,hb,he,hr⟩:=hI
    have hq:=Wb s.b s.from_.toNat
    rw [CM A0] at hq;rw [AE A8] at hq;rw [hq];exact .inl ⟨rfl,(GK _).symm,AZ,rfl⟩
  ·obtain ⟨ht,h5,hl,h4,hb,he,hr⟩:=hI
   have hq:=Wb s.b s.from_.toNat
   rw [CM A0] at hq;rw [AE A8] at hq;rw [hq];exact .inl ⟨rfl,(GK _).symm,AZ,rfl⟩)
structure N2 where
 l:List Int
 (n i qT aBp uj:Int)
 pO:Bool
 (b1 Wd Vj U3:Int)
 Is:Bool
 rs:List (List Int)
def aHa:=bN f39 0
def aBN (s:N2):T (Rd N2):=
 .br (an<|s.i<s.n) (.ix s.i (M s.l)<|.br s.Is (.rl s.rs<|.nx {s with i:=AA<|s.i+1,Is:=((gi s.l s.i)==255)})<|.rl s.rs<|.nx {s with i:=AA<|s.i+1,Is:=X}) (.rl s.rs<|.so (.exit 2) s)
def mW (s:N2):Prop:=s.i=0/\s.n<=4096/\s.n=(M s.l:Int)
def mH (s:N2):Prop:=0<=s.i/\s.i<=s.n/\s.n<=4096/\s.n=(M s.l:Int)
def um (s:N2):Nat:=(s.n-s.i).toNat
def aKG (x:Ex) (s s':N2):Prop:=True
def amJ:∀s,mW s->mH s:=by
 exact kf
theorem ajy:Da mH um aKG aBN:=by
 intro s hI;obtain ⟨h0,h1,h2,h3⟩:=hI;refine AH (λc1=>?_) λc1=>?_
 ·refine AH (λc2=>?_) (λc2=>?_)
  ·exact aLA
  ·exact aLA
 ·trivial
def SO:AT N2:=⟨0,69,[2,3,7,54,55,56],[],λs=>[.own 0 0,.own 1 0,.own 2 0,.xl (.int aw) s.l,s.n,s.i],λs=>[⟨[s.qT,.v<|Y ax s.aBp,.v<|.slice aj 0 0,s.uj,s.pO],119,.cl,X⟩,⟨[s.b1],50,.cl,X⟩,⟨[s.Wd,.v<|Y ax s.Vj,.os 3 1 0<|M s.rs,s.U3,s.Is],119,.cl,X⟩,⟨[],34,.vec (.sl<|.int aw) s.rs,X⟩],λv b=>⟨B5 (.int aw) v 3,AK v 4,AK v 5,Ak b 0 0,Ak b 0 1,Ak b 0 3,Kk b 0 4,Ak b 1 0,Ak b 2 0,Ak b 2 1,Ak b 2 3,Kk b 2 4,Ab (.sl<|.int aw) b 3⟩,aBN,λs r=> {s with i:=r.i,Is:=r.Is},λs=>s,λ_ s=>s,[.exit 2],mW,mH,um⟩
abbrev s9:=SO.run
abbrev agq:=SO.Av
def aiy:Rq mH aBN:=by
 exact aLK
def fU:List Bd:=[uo,aTs,ur,uz,uq]
def aRT:Ay:=kI fU<|la 1 func104 avQ<|l0 fU
def abV:SO.Ok:={}
def abH:SO.Pf (aKG):=⟨amJ,λs h=>rfl,ajy,aiy⟩
def avR:SA 0 aHa SO:=s1 abV abH fU aRT
theorem aya:Rs mW agq s9 (λs:N2=>s.Is&&(s.l.drop s.i.toNat).all (λb=>b==255)) (λx s' (v:Bool)=>x=.exit 2/\s'.Is=v):=DJ abV abH (λs hI=>by
  obtain ⟨h0,h1,h2,h3⟩:=hI;refine AH (λc1=>AH (λc2=>?_) λc2=>?_) λc1=>?_
  ·have c1:s.i<s.n:=A8
   rw [AJ (x:=s.i+1)]
   show (_&&_)=(_&&_)
   rw [(gi_step h0 A0).1,Ic,c2,EA]
  ·have c1:s.i<s.n:=A8
   rw [c2];rfl
  ·have c1:s.n<=s.i:=A8
   refine ⟨rfl,?_⟩;rw [El A0];exact (k6 _).symm)
def uO {b:List Int}:∀ {n f:Nat},f<=M b->(HD b n f).2.1<=M b
 |0,_,h=>h
 | n+1,f,h=>by
  simp only [HD];split
  ·split
   ·rename_i hg
    unfold rcG rcF at hg;simp only [AY,Ac] at hg;exact uO (n:=n) hg.1.2
   ·exact h
  ·exact h
def EU (se:Int) (fl:List Int):Int:=if Bo se fl=0 then As fl else 0
def IK (se:Int) (fl:List Int):Int:=if Bo se fl=0 then J6 fl (As fl) else 0
def Ep (se:Int) (fl:List Int):List (List Int):=if Bo se fl=0 then (Eh fl).1 else []
def H6 (se:Int) (fl:List Int):Int:=if Bo se fl=0 then ((Eh fl).2.1:Int) else 0
def Kc (se:Int) (fl:List Int):Bool:=if Bo se fl=0 then M8 fl else X
def aJN:List LV->T LV
 | [.agg [.v (Y J se),.xl (.int aw) fl]]=> .req (BI fl) (.ok<|.AO [.agg [EU se fl,.v<|Y ax<|IK se fl,.xl (.sl<|.int aw)<|Ep se fl,H6 se fl,Kc se fl],Bo se fl])
 |_=> .no
def EO (se:Int) (fl:List Int):Fh:=(⟨5,se,fl,0,0,0,X,0,As fl,Gq<|((Bl fl<|As fl).drop (1:Int).toNat).take<|(5:Int).toNat-(1:Int).toNat,5,U,Bl fl<|As fl,([]:List<|List Int),.ready⟩:Fh)
def oM (se:Int) (fl:List Int):N2:=(⟨((Bl fl<|As fl).drop (GR<|EO se fl).E0.toNat).take<|(M (Bl fl<|As fl):Int).toNat-(GR<|EO se fl).E0.toNat,(M (((Bl fl<|As fl).drop (GR<|EO se fl).E0.toNat).take<|(M (Bl fl<|As fl):Int).toNat-(GR<|EO se fl).E0.toNat):Int),0,(GR<|EO se fl).Ot,(GR<|EO se fl).Oe,(GR<|EO se fl).P2,(GR<|EO se fl).On,(GR<|EO se fl).b2,As fl,Gq<|((Bl fl<|As fl).drop (1:Int).toNat).take<|(5:Int).toNat-(1:Int).toNat,(GR<|EO se fl).E0,U,(GR<|EO se fl).rs⟩:N2)
def dv:=vm (S:=aJN) func39 fU aRT (L:=(λi=>if i=15 then SO.lp else Al i)) (λb hb=>by
 rw [show BD _=[aHa] by kernel_rfl] at hb
 simp only [B7,Bt,Bu] at hb;subst hb;exact avR) (λargs lv h=>by
 unfold aJN at h;split at h
 ·rename_i se fl
  refine Aq (letI d:=GR<|EO se fl;letI f:=(M (Bl fl<|As fl):Int);letI j:=(((Bl fl<|As fl).drop (1:Int).toNat).take<|(5:Int).toNat-(1:Int).toNat);letI k:=List Int;.br (!(FR se fl)) (.ok<|.AO [.agg [(0:Int),.v<|Y ax 0,.xl (.sl<|.int aw) ([]:List k),(0:Int),X],(1:Int)])<|.req (FR se fl=U)<|.br ((Ht fl) !=0) (.ok<|.AO [.agg [(0:Int),.v<|Y ax 0,.xl (.sl<|.int aw) ([]:List k),(0:Int),X],(Ht fl)])<|.req (((As fl)=0\/(As fl)=1)/\M fl<=4096)<|.req (0<=(1:Int)/\(1:Int)<=(5:Int)/\(5:Int)<=f)<|.req (4<=M j)<|.r0 k<|.req (SL.q<|EO se fl)<|.br (Bs (aRI<|EO se fl)<|.ret) (.ok<|.AO [.agg [d.Ot,.v<|Y ax d.Oe,.xl (.sl<|.int aw) ([]:List k),d.P2,d.On],d.b2])<|.req (0<=d.E0/\d.E0<=f/\f<=f)<|.rl d.rs<|.req (SO.q<|oM se fl)<|.rz d.rs<|.ok<|.AO [.agg [(As fl),.v<|Y ax<|Gq j,.xl (.sl<|.int aw)<|(d.rs.drop 0).take<|M d.rs,d.E0,(s9<|oM se fl).Is],(0:Int)]) ?_;obtain ⟨hb,rfl⟩:=h
  have fin:∀(a g:Int) (r:List<|List Int) (n:Int) (c:Bool) (e:Int),a=EU se fl->g=IK se fl->r=Ep se fl->n=H6 se fl->c=Kc se fl->e=Bo se fl->
   LV.AO [.agg [.v<|Y J a,.v<|Y ax g,.xl (.sl<|.int aw) r,.v<|Y J n,.v<|.bool c],.v<|Y J e]=LV.AO [.agg [.v<|Y J<|EU se fl,.v<|Y ax<|IK se fl,.xl (.sl<|.int aw)<|Ep se fl,.v<|Y J<|H6 se fl,.v<|.bool<|Kc se fl],.v<|Y J<|Bo se fl]:=λa g r n c e h1 h2 h3 h4 h5 h6=>by rw [h1,h2,h3,h4,h5,h6]
  refine ⟨λc1=>?_,λc1=>⟨AX,λc2=>?_,λc2=>?_⟩⟩
  ·have c1:FR se fl=false:=AX
   have hE:Bo se fl=1:=by unfold Bo;rw [AD c1]
   refine fin _ _ _ _ _ _ ?_ ?_ ?_ ?_ ?_ hE.symm<;>simp [EU,IK,Ep,H6,Kc,hE]
  ·have c1:FR se fl=true:=AX
   have c2:Ht fl≠0:=EC
   have hE:Bo se fl=Ht fl:=by unfold Bo;rw [AE aB,AD c2]
   refine fin _ _ _ _ _ _ ?_ ?_ ?_ ?_ ?_ hE.symm<;>simp [EU,IK,Ep,H6,Kc,hE,c2]
  have c1:FR se fl=true:=AX
  have c2:Ht fl=0:=EC
  have hj:=MQ.1 c1
  have hw:As fl=0\/As fl=1:=aN9
  have hl:=cD fl<|As fl
  have hab:BI (Bl fl<|As fl):=by
   intro x hx;unfold Bl at hx;split at hx
   ·exact hb x<|V4 hx
   ·exact hb x<|Pu<|V4 hx
  have hQ:Eh fl=JH (Bl fl<|As fl) 5:=rfl
  have hE0:mO (EO se fl):=⟨rfl,by show (5:Int)<=5;decide,by show (5:Int)<=(M (Bl fl<|As fl):Int);omega,by show M (Bl fl<|As fl)<=4096;omega,hab,rfl,by show ((M ([]:List<|List Int):Nat):Int)<=5;decide⟩
  have hr:=ayT _ hE0
  have hv:(EO se fl).rs=[]:=rfl
  have hf:(EO se fl).from_.toNat=5:=rfl
  have hB:(EO se fl).b=Bl fl (As fl):=rfl
  simp only [hv,hf,hB,EB,<-hQ] at hr;refine ⟨⟨hw,hj.2.2.2.1⟩,⟨Aa,Aa,A0⟩,by simp only [MC,F7];omega,A9,⟨hE0,rfl,rfl⟩,λc3=>?_,λc3=>?_⟩
  ·have c3:=WD c3
   rcases hr with ⟨q1,_⟩ |⟨q1,q2,q3,q4,q5,q6,q7⟩
   ·rw [c3] at q1;cases q1
   ·have hE:Bo se fl=11:=by unfold Bo;rw [AE aB,AE aC,AE (by rw [q2];decide)]
    rw [q3,q4,q5,q6,q7];refine fin _ _ _ _ _ _ ?_ ?_ ?_ ?_ ?_ hE.symm<;>simp [EU,IK,Ep,H6,Kc,hE]
  ·rcases hr with ⟨q1,q2,q3,q4⟩ |⟨q1,_⟩
   ·have hE:Bo se fl=0:=by unfold Bo;rw [AE aB,AE aC,AD q4]
    have hn:(Eh fl).2.1<=M (Bl fl<|As fl):=uO A0
    have eL:((Bl fl<|As fl).drop (GR<|EO se fl).E0.toNat).take ((M (Bl fl<|As fl):Int).toNat-(GR<|EO se fl).E0.toNat)=(Bl fl<|As fl).drop (Eh fl).2.1:=by
     rw [q3,By,By];exact DR ym
    have hC:mW (oM se fl):=⟨rfl,by
     show (M (((Bl fl<|As fl).drop (GR<|EO se fl).E0.toNat).take<|(M (Bl fl<|As fl):Int).toNat-(GR<|EO se fl).E0.toNat):Int)<=4096
     rw [eL,F7];omega,rfl⟩
    have hr2:(s9<|oM se fl).Is=(U&&((((Bl fl<|As fl).drop (GR<|EO se fl).E0.toNat).take<|(M (Bl fl<|As fl):Int).toNat-(GR<|EO se fl).E0.toNat).drop 0).all (λb=>b==255)):=(aya _ hC).2
    rw [eL,CP,EA] at hr2;refine ⟨⟨by rw [q3];omega,by rw [q3];omega,De _⟩,A9,⟨hC,rfl,rfl⟩,A0,?_⟩
    refine fin _ _ _ _ _ _ ?_ ?_ ?_ ?_ ?_ hE.symm
    ·unfold EU;rw [AD hE]
    ·unfold IK J6;rw [AD hE];rfl
    ·unfold Ep;rw [AD hE,CP,DR<|Ar _];exact q2
    ·unfold H6;rw [AD hE];exact q3
    ·unfold Kc;rw [AD hE];exact hr2
   ·exfalso;rw [q1] at c3;simp [Bs] at c3
 ·cases h)
end Go.Proofs.YtipodhghjclmbaaGreatDoor
namespace Go.Sx
open Go Go.RowKit Go.Proofs.YtipodhghjclmbaaGreatDoor
variable {P : Program} {G : B1} {Γ : Specs} {K : Hand} {L : LN} {Z0 : Gz} {w0 : World}
abbrev V2:=Nat->Option (List Nat×List Up)
def X2 (P:Program) (G:B1) (Γ:Specs) (K:Hand) (L:Qi) (cs:V2):Code->List LV->List AB->T (Ex×List LV×List AB)
 | .seq a b,F,H=>(X2 P G Γ K L cs a F H).bind λq=>match q.1 with
  | .normal=>match cs (GY b) with
   |some (live,us)=>(G8 0 live us .normal q.2.1 q.2.2).bind λv=>if v.low then X2 P G Γ K L cs b (Hf (M q.2.1) live v.vals) v.J7 else .no
   |none=>X2 P G Γ K L cs b q.2.1 q.2.2
  |x=> .ok (x,q.2)
 |c,F,H=>D8 P G Γ K L c F H
def aeW {L:Qi}{cs:V2}(hΓ:∀g S,Γ g=ah S->Valid P G g S) (hK:FE P G K) (c:Code) (hl:∀b∈BD c,Ga P G (AN 0) (.loop b)<|L b):Ga P G (AN 0) c (X2 P G Γ K L cs c):=by
 induction c with
 | seq c1 c2 ih1 ih2=>
  intro r w0 Z0 Z β F H a w ds Q x F' H' hA hr hD hW hF h hQ;obtain ⟨⟨y,F1,H1⟩,h1,h2⟩:=T.B4 h;obtain ⟨hr1,hr2⟩:=qP (show r=aj\/(Ho c1&&Ho c2)=U from hr);refine wpIn_seq<|ih1 (λb hb=>hl b So) r w0 Z0 Z β F H a w ds _ y F1 H1 hA hr1 hD hW hF h1 λds' Z' β' a' w' e0 e1 e2=>?_
  cases y with
  | normal=>
   simp only at h2;split at h2
   ·rename_i live us hcs
    obtain ⟨v,h3,h4⟩:=T.B4 h2;split at h4
    ·rename_i hlow
     obtain ⟨_,_,Z2,β2,e3,e4⟩:=bq hA e1 e2 h3 hlow;exact ih2 (λb hb=>hl b So) r w0 Z0 Z2 β2 _ _ a' w' ds' Q x F' H' hA hr2 e0 e3 e4 h4 hQ
    ·cases h4
   ·exact ih2 (λb hb=>hl b So) r w0 Z0 Z' β' F1 H1 a' w' ds' Q x F' H' hA hr2 e0 e1 e2 h2 hQ
  |exit m=>
   obtain ⟨rfl,rfl,rfl⟩:=h2;exact hQ ds' Z' β' a' w' e0 e1 e2
  |ret=>
   obtain ⟨rfl,rfl,rfl⟩:=h2;exact hQ ds' Z' β' a' w' e0 e1 e2
 |_=>exact GP hΓ hK _ hl
def iA (P:Program) (G:B1) (Γ:Specs) (K:Hand) (L:LN) (cs:V2) (fn:Func) (args:List LV):T LV:=
 (match fn.body with
 |some c=>aBa P fn (X2 P G Γ K (Lv L) cs c) args
 |none=> .no).bind λx=> .ok<|canX<|upR P fn.resultTypes.toList x
def aCs {f:FuncId}{fn:Func}{c:Code}{S:List LV->T LV}{cs:V2}(hfn:P.funcs[f]? =ah fn) (hc:fn.body=ah c) (hΓ:∀g S,Γ g=ah S->Valid P G g S) (hK:FE P G K)
  (hL:∀b∈BD c,Sound P G (.loop b)<|L<|GY b) (hS:∀args lv,(S args).all (λx=>x=lv)->(iA P G Γ K L cs fn<|canL args).all (λx=>x=lv)):Valid P G f (Ju P fn.params.toList S):=
 aED (aCt hfn hc<|aeW (L:=Lv L) (cs:=cs) hΓ hK c hL) (λargs lv h=>by have:=hS args lv h;unfold iA at this;simpa only [hc] using this)
def T.aBR {α:Type}:T α->T α
 | .br b t e=> .br b t.red e.red
 | .req p t=> .req p (T.aBR t)
 |t=>t
def T.aFP {α:Type}{K:α->Prop}:∀ {t:T α},t.aBR.all K->t.all K
 | .ok _,h=>h
 | .br _ _ _,h=>⟨λhb=>T.WI<|h.1 hb,λhb=>T.WI<|h.2 hb⟩
 | .req _ _,h=>⟨h.1,T.aFP h.2⟩
 | .no,h=>h
end Go.Sx
namespace Go.Proofs.YtipodhghjclmbaaGreatDoor
set_option maxRecDepth 100000
set_option maxHeartbeats 4000000
open Go.Proofs.Tryz
open Go.Sx
def aRZ:List LV->T LV
 | [.v (.agg ⟨[Y J x1,Y J x2,Y J x3,Y J x4,Y J x5]⟩)]=> .ok (.xl (.int aw)<|Az (x1,x2,x3,x4,x5))
 |_=> .no
def W6:=bN f167 0
def LK:List Bd:=[]
def aoe:Sound prog AV (.loop W6) (J2 prog AV LK Fp 20 2 W6):=Ss (gk LK) kN.h 20 2 W6
def axE (x1 x2 x3 x4 x5:Int):letI a:=(((((((((((((aq (0:Int).toNat (0:Int))++([IntKind.u8.wrap<|x1.fdiv<|2^(24)]))++([IntKind.u8.wrap<|x1.fdiv<|2^(16)]))++([IntKind.u8.wrap<|x1.fdiv<|2^(8)]))++([IntKind.u8.wrap<|x1.fdiv<|2^(0)]))++([IntKind.u8.wrap<|x2.fdiv<|2^(0)]))++([IntKind.u8.wrap<|x3.fdiv<|2^(0)]))++([IntKind.u8.wrap<|x4.fdiv<|2^(24)]))++([IntKind.u8.wrap<|x4.fdiv<|2^(16)]))++([IntKind.u8.wrap<|x4.fdiv<|2^(8)]))++([IntKind.u8.wrap<|x4.fdiv<|2^(0)]))++([IntKind.u8.wrap<|x5.fdiv<|2^(8)]))++([IntKind.u8.wrap<|x5.fdiv<|2^(0)]));(Bi prog AV LK kN (λi=>if i=4 then (J2 prog AV LK Fp 20 2 W6) else Al i) f167 [.v<|.agg #[x1,x2,x3,x4,x5]]).red=.req (0<=(0:Int)/\(0:Int)<=(12:Int)/\1*(12:Int)<=2^48/\(12:Int)<2^63) (.req (0<=(24:Int))<|.ra 0 0 1 1<|.req (0<=(16:Int))<|.ra 1 1 2 1<|.req (0<=(8:Int))<|.ra 2 2 3 1<|.req (0<=(0:Int))<|.ra 3 3 4 1<|.req (0<=(0:Int))<|.ra 4 4 5 1<|.req (0<=(0:Int))<|.ra 5 5 6 1<|.req (0<=(24:Int))<|.ra 6 6 7 1<|.req (0<=(16:Int))<|.ra 7 7 8 1<|.req (0<=(8:Int))<|.ra 8 8 9 1<|.req (0<=(0:Int))<|.ra 9 9 10 1<|.req (0<=(8:Int))<|.ra 10 10 11 1<|.req (0<=(0:Int))<|.ra 11 11 12 1<|.req (0+12<=M a)<|.ok<|.xl (.int aw)<|(a.drop 0).take 12):=AU
def aaN:=vm (S:=aRZ) func167 LK kN (L:=(λi=>if i=4 then (J2 prog AV LK Fp 20 2 W6) else Al i)) (λb hb=>by
 rw [show BD _=[W6] by kernel_rfl] at hb
 simp only [B7,Bt,Bu] at hb;subst hb;exact aoe) (λargs lv h=>by
 refine ⟨?_⟩;unfold aRZ at h;split at h
 ·simp only [canL,canX]
  refine @T.WI _ _ _ ?_;rw [axE];obtain rfl:=h
  iterate 25 refine ⟨Aa,?_⟩
  refine ⟨Ar _,?_⟩;simp only [T.all,Int.pow_zero,Int.fdiv_one];rfl
 ·cases h)
def Km (d:List Int):Le:=if M d=12 then G9 d else (0,0,0,0,0)
def aRs:List LV->T LV
 | [.xl (.int aw) d]=> .req (BI d) (.tu #[.agg #[(Km d).1,(Km d).2.1,(Km d).2.2.1,(Km d).2.2.2.1,(Km d).2.2.2.2],an<|M d=12])
 |_=> .no
def W5:=bN f18 0
def aod:Sound prog AV (.loop W5) (J2 prog AV LK Fp 20 2 W5):=Ss (gk LK) kN.h 20 2 W5
def axD (d:List Int):letI a:=(M d:Int);letI b:=AA<|0*2^8;(Bi prog AV LK kN (λi=>if i=6 then (J2 prog AV LK Fp 20 2 W5) else Al i) f18 [.xl (.int aw) d]).aBR=.br (a !=12) (.tu #[.agg #[(0:Int),(0:Int),(0:Int),(0:Int),(0:Int)],X]) (.req (0<=(0:Int)/\0<a)<|.req (0<=(1:Int)/\1<a)<|.req (0<=(2:Int)/\2<a)<|.req (0<=(3:Int)/\3<a)<|.req (0<=(4:Int)/\4<a)<|.req (0<=(5:Int)/\5<a)<|.req (0<=(6:Int)/\6<a)<|.req (0<=(7:Int)/\7<a)<|.req (0<=(8:Int)/\8<a)<|.req (0<=(9:Int)/\9<a)<|.req (0<=(10:Int)/\10<a)<|.req (0<=(11:Int)/\11<a)<|.tu #[.agg #[DM J (AA<|(DM J (AA<|(DM J (AA<|(DM J b<|AA<|gi d (0:Int))*2^8)<|AA<|gi d (1:Int))*2^8)<|AA<|gi d (2:Int))*2^8)<|AA<|gi d (3:Int),DM J b<|AA<|gi d (4:Int),DM J b<|AA<|gi d (5:Int),DM J (AA<|(DM J (AA<|(DM J (AA<|(DM J b<|AA<|gi d (6:Int))*2^8)<|AA<|gi d (7:Int))*2^8)<|AA<|gi d (8:Int))*2^8)<|AA<|gi d (9:Int),DM J (AA<|(DM J b<|AA<|gi d (10:Int))*2^8)<|AA<|gi d (11:Int)],U]):=AU
def o8 {a b:Int}(h0:0<=a) (h1:a<1099511627776) (hb:0<=b/\b<=255):DM J (AA<|a*2^8) (AA b)=a*256+b:=by
 rw [AJ (x:=a*2^8),AJ (x:=b)];obtain ⟨a,rfl⟩:=Pr h0;obtain ⟨b,rfl⟩:=Pr hb.1
 have e:∀n:Nat,n<4611686018427387904->(BitVec.ofInt (IntKind.bits J) (n:Int)).toNat=n:=λn hn=>by
  show (BitVec.ofInt 64 (n:Int)).toNat=n
  rw [BitVec.toNat_ofInt];omega
 unfold DM;rw [show (a:Int)*2^8=((a*2^8:Nat):Int) by omega,BitVec.toNat_or,e _ A0,e _ A0,fF A0]
 show AA _=_
 rw [AJ];omega
def zw {w:Int}(hw:0<=w/\w<=255):DM J (AA<|0*2^8) (AA w)=w:=by
 rw [o8 A0 A0 hw];omega
def acI {z w:Int}(hz:0<=z/\z<=255) (hw:0<=w/\w<=255):DM J (AA<|DM J (AA<|0*2^8) (AA z)*2^8) (AA w)=z*256+w:=by
 rw [zw hz,o8 A0 A0 hw]
def acH {x y z w:Int}(hx:0<=x/\x<=255) (hy:0<=y/\y<=255) (hz:0<=z/\z<=255) (hw:0<=w/\w<=255):
  DM J (AA<|DM J (AA<|DM J (AA<|DM J (AA<|0*2^8) (AA x)*2^8) (AA y)*2^8) (AA z)*2^8) (AA w)=x*16777216+y*65536+z*256+w:=by
 rw [acI hx hy,o8 A0 A0 hz,o8 A0 A0 hw];omega
def ai0:=vm (S:=aRs) func18 LK kN (L:=(λi=>if i=6 then (J2 prog AV LK Fp 20 2 W5) else Al i)) (λb hb=>by
 rw [show BD _=[W5] by kernel_rfl] at hb
 simp only [B7,Bt,Bu] at hb;subst hb;exact aod) (λargs lv h=>by
 refine ⟨?_⟩;unfold aRs at h;split at h
 ·simp only [canL,canX]
  refine @T.aFP _ _ _ ?_;rw [axD];rename_i d;obtain ⟨hb,rfl⟩:=h;refine ⟨λc=>?_,λc=>?_⟩
  ·have hl:¬(M d)=12:=VL
   unfold Km;rw [AE hl,I8 hl];rfl
  have hl:M d=12:=VL
  iterate 12 refine ⟨⟨Aa,A0⟩,?_⟩
  have b:=λi=>zn hb i
  unfold Km;rw [AD hl,Cm hl,acH (b 0) (b 1) (b 2)<|b 3,zw<|b 4,zw<|b 5,acH (b 6) (b 7) (b 8)<|b 9,acI (b 10)<|b 11];rfl
 ·cases h)
def aSp:List LV->T LV
 | [.agg [.v (Y J se),.xl (.int aw) fl]]=> .req (BI fl) (.ok<|.AO [.xl (.sl<|.int aw)<|Ep se fl,Bo se fl])
 |_=> .no
def azQ:List Bd:=[dv]
def aiI:=vo (S:=aSp) func17 azQ kN (λargs lv h=>by
 unfold aSp at h;split at h
 ·rename_i se fl
  refine Aq (.req (BI fl)<|.br ((Bo se fl) !=0) (.ok<|.AO [.xl (.sl<|.int aw) ([]:List<|List Int),(Bo se fl)])<|.ok<|.AO [.xl (.sl<|.int aw)<|Ep se fl,(0:Int)]) ?_;obtain ⟨h0,rfl⟩:=h;refine ⟨h0,λc=>?_,λc=>?_⟩
  ·have c:Bo se fl≠0:=A8
   unfold Ep;rw [AE c];rfl
  ·have c:Bo se fl=0:=A8
   rw [c];rfl
 ·cases h)
theorem aax {b:List Int}:∀(n f:Nat),M (HD b n f).1<=n
 |0,_=>Ar _
 | n+1,f=>by
  simp only [HD];split
  ·split
   ·have:=aax (b:=b) n (f+7+Fv b f)
    grind
   ·grind
  ·grind
def aQl {b:List Int}(h:BI b):∀(n f:Nat),∀d∈(HD b n f).1,BI d
 |0,_,d,hd=>VX
 | n+1,f,d,hd=>by
  simp only [HD] at hd;split at hd
  ·split at hd
   ·rcases B7.1 hd with rfl|hd
    ·exact λx hx=>h x<|Pu<|V4 hx
    ·exact aQl h n _ d hd
   ·cases hd
  ·cases hd
theorem ayV {se:Int}{fl:List Int}(h:BI fl) (hl:M fl<=4096):M (Ep se fl)<=4096/\∀d∈Ep se fl,BI d:=by
 unfold Ep;split
 ·have ha:=cD fl (As fl)
  refine ⟨?_,aQl (λx hx=>?_) _ _⟩
  ·have:=aax (b:=Bl fl<|As fl) (M<|Bl fl<|As fl) 5
   unfold Eh;omega
  ·unfold Bl at hx
   split at hx
   ·exact h x<|V4 hx
   ·exact h x<|Pu<|V4 hx
 ·grind
theorem akb {l:List<|List Int}(h:∀d∈l,BI d) {i:Int}(h0:0<=i) (h1:i<(M l:Int)):BI (gx (e:=.sl<|.int aw) l i):=by
 grind
structure O4 where
 e:Int
 l:List (List Int)
 (n i:Int)
 out:List Le
def aEs:=bN f8 0
def vj (s:O4):T (Rd O4):=
 .br (an<|s.i<s.n) (.ix s.i (M s.l)<|.req (BI<|gx (e:=.sl<|.int aw) s.l s.i)<|.br (!(an<|M (gx (e:=.sl<|.int aw) s.l s.i)=12)) (.rl s.out<|.so (.ret) {s with e:=(9:Int)})<|.rb (M s.out) (M<|[Km<|gx (e:=.sl<|.int aw) s.l s.i]) 40<|.re (M s.out+M ([Km<|gx (e:=.sl<|.int aw) s.l s.i])) (s.out++([Km<|gx (e:=.sl<|.int aw) s.l s.i]))<|.nx {s with i:=AA<|s.i+1,out:=s.out++([Km<|gx (e:=.sl<|.int aw) s.l s.i])}) (.rl s.out<|.so (.exit 0) s)
def jQ (s:O4):Prop:=s.i=0/\s.n<=5000/\s.n=(M s.l:Int)/\(∀d∈s.l,BI d)/\(M s.out:Int)<=s.i
def iH (s:O4):Prop:=0<=s.i/\s.i<=s.n/\s.n<=5000/\s.n=(M s.l:Int)/\(∀d∈s.l,BI d)/\(M s.out:Int)<=s.i
def tH (s:O4):Nat:=(s.n-s.i).toNat
def ac1 (x:Ex) (s s':O4):Prop:=True
def aia:∀s,jQ s->iH s:=by
 exact Zc
theorem auI:Da iH tH ac1 vj:=by
 intro s hI;obtain ⟨h0,h1,h2,h3,h4,h5⟩:=hI;refine AH (λc1=>AH (λc2=>trivial) λc2=>?_) λc1=>trivial
 ·have c1:s.i<s.n:=A8
  rw [AJ (x:=s.i+1)];exact ⟨⟨A8,A8,h2,h3,h4,A8⟩,by simp only [tH];omega⟩
def Rt:AT O4:=⟨0,50,[2,3,6,28,29,30],[.nl 6 90 AQ],λs=>[.v<|.slice aj 0 0,s.e,.os 0 5 0<|M s.out,.xl (.sl<|.int aw) s.l,s.n,s.i],λs=>[bV 90 AQ s.out],λv b=>⟨AK v 1,B5 (.sl<|.int aw) v 3,AK v 4,AK v 5,Ab AQ b 0⟩,vj,λs r=> {r with l:=s.l,n:=s.n},λs=>s,λ_ s=>s,[.ret,.exit 0],jQ,iH,tH⟩
abbrev mq:=Rt.run
abbrev dT:=Rt.Av
theorem avJ:Rq iH vj:=by
 intro s hI;refine ⟨λc1=>⟨?_,?_,λc2=>⟨A9,ak⟩,λc2=>⟨?_,?_,ak⟩⟩,λc1=>⟨A9,ak⟩⟩
 all_goals ((obtain ⟨h0,h1,h2,h3,h4,h5⟩:=hI;have c1:s.i<s.n:=A8;have hb:=akb h4 h0 A0;(first|exact hb|omega|(simp only [Bk,Bp];omega) |(simp only [BF,Bk,Bp,FA]))))
def aRA:List Bd:=[aiI,ai0,WU]
def aPe:Rt.Ok:={}
def aP7:Rt.Pf (ac1):=⟨aia,λs h=>rfl,auI,avJ⟩
def aoj:SA 0 aEs Rt:=s1 aPe aP7 aRA kN
theorem ap1:Rs jQ dT mq (λs:O4=>(s.out++(s.l.drop s.i.toNat).map G9,ldB<|s.l.drop s.i.toNat)) (λx s' (v:List Le×Bool)=>(x=.ret/\s'.e=9/\v.2=X)\/(x=.exit 0/\v=(s'.out,U))):=DJ aPe aP7 (λs hI=>by
  obtain ⟨h0,h1,h2,h3,h4,h5⟩:=hI;refine AH (λc1=>AH (λc2=>?_) λc2=>?_) λc1=>?_
  ·have c1:s.i<s.n:=A8
   refine .inl ⟨rfl,rfl,?_⟩;simp only [WG h0 (show s.i<(M s.l:Int) by omega),ldB,Ic,wu,CN]
   grind
  ·have c1:s.i<s.n:=A8
   have c2:M (gx (e:=.sl<|.int aw) s.l s.i)=12:=A8
   have hz:Km (gx (e:=.sl<|.int aw) s.l s.i)=G9 (gx (e:=.sl<|.int aw) s.l s.i):=AD c2
   rw [AJ (x:=s.i+1),hz]
   show (_++[_]++_,_)=(_++_,_)
   rw [WG h0 A0];simp only [E9,Cl,L0,EB,ldB,Ic,c2,OV,EA]
  ·have c1:s.n<=s.i:=A8
   refine .inr ⟨rfl,?_⟩;rw [El A0]
   simp [ldB])
def aRc:List LV->T LV
 | [.agg [.v (Y J se),.xl (.int aw) fl]]=> .req (BI fl) (.ok<|.AO [Af se fl,CL se fl])
 |_=> .no
def Q6 (se:Int) (fl:List Int):O4:=(⟨0,Ep se fl,(M (Ep se fl):Int),0,([]:List Le)⟩:O4)
def XA:=vm (S:=aRc) func8 aRA kN (L:=(λi=>if i=8 then Rt.lp else Al i)) (λb hb=>by
 rw [show BD _=[aEs] by kernel_rfl] at hb
 simp only [B7,Bt,Bu] at hb;subst hb;exact aoj) (λargs lv h=>by
 unfold aRc at h;split at h
 ·rename_i se fl
  refine Aq (letI a:=mq<|Q6 se fl;letI b:=(a.out.drop 0).take<|M a.out;.br ((se !=512) ||((M fl:Int) !=2048)) (.ok<|.AO [.xl AQ ([]:List Le),(1:Int)])<|.req (BI fl)<|.br ((Bo se fl) !=0) (.ok<|.AO [.xl AQ ([]:List Le),(Bo se fl)])<|.r0 Le<|.req (Rt.q<|Q6 se fl)<|.br (Bs (dT<|Q6 se fl)<|.ret) (.ok<|.AO [.xl AQ ([]:List Le),a.e])<|.rz a.out<|.br (!(BC b)) (.ok<|.AO [.xl AQ ([]:List Le),(9:Int)])<|.rz a.out<|.ok<|.AO [b,(0:Int)]) ?_;obtain ⟨hb,rfl⟩:=h
  have bad:∀e:Int,e≠0->CL se fl=e->LV.AO [.xl AQ ([]:List Le),.v<|Y J e]=LV.AO [.xl AQ<|Af se fl,.v<|Y J<|CL se fl]:=λe h0 h1=>by unfold Af;rw [h1,AE h0]
  refine ⟨λc1=>bad 1 Aa (by unfold CL;exact AD c1),λc1=>⟨hb,λc2=>?_,λc2=>?_⟩⟩
  all_goals have h0:¬((!(se==512) || !((M fl:Int)==2048))=U):=A8
  ·have c2:Bo se fl≠0:=EC
   exact bad _ c2 (by unfold CL;rw [AE h0,AD c2])
  have hk:Bo se fl=0:=EC
  have hl:M fl=2048:=by simp at h0;omega
  have hR:Ep se fl=(Eh fl).1:=AD hk
  obtain ⟨n1,n2⟩:=ayV (se:=se) hb A0
  have hV:jQ (Q6 se fl):=⟨rfl,by show (M (Ep se fl):Int)<=5000;omega,rfl,n2,yM⟩
  have q:(dT (Q6 se fl)=.ret/\(mq<|Q6 se fl).e=9/\ldB (Ep se fl)=X)\/(dT (Q6 se fl)=.exit 0/\((Ep se fl).map G9,ldB<|Ep se fl)=((mq<|Q6 se fl).out,U)):=ap1 _ hV
  have hk':¬Bo se fl≠0:=λh=>h hk
  refine ⟨A9,⟨hV,rfl,rfl⟩,λc3=>?_,λc3=>?_⟩
  ·rcases q with ⟨_,q2,q3⟩ |⟨q1,_⟩
   ·rw [q2]
    exact bad 9 Aa (by unfold CL;rw [AE h0,AE hk',<-hR,AE (by rw [q3];decide)])
   ·rw [WD c3] at q1;cases q1
  rcases q with ⟨q1,_⟩ |⟨_,q2⟩
  ·rw [q1] at c3;simp [Bs] at c3
  simp only [Ax] at q2;rw [<-q2.1,CP,EN];refine ⟨A0,λc4=>?_,λc4=>⟨A0,?_⟩⟩
  ·exact bad 9 Aa (by unfold CL;rw [AE h0,AE hk',<-hR,AD q2.2,AE yl])
  ·have hE:CL se fl=0:=by unfold CL;rw [AE h0,AE hk',<-hR,AD q2.2,AD yl]
   unfold Af;rw [hE,AD rfl,hR];rfl
 ·cases h)
theorem zY {se:Int}{fl:List Int}(h:CL se fl=0):BC (Af se fl)=true:=by
 unfold Af;rw [AD h];unfold CL at h;split at h
 ·cases h
 ·split at h
  ·grind
  ·split at h
   ·split at h
    ·assumption
    ·cases h
   ·cases h
def aRa:List LV->T LV
 | [.agg [.v (Y J se),.xl (.int aw) fl]]=> .req (BI fl) (.tu #[JM se fl,IT se fl])
 |_=> .no
def azP:List Bd:=[XA]
def ai1:=vo (S:=aRa) func78 azP kN (λargs lv h=>by
 unfold aRa at h;split at h
 ·rename_i se fl
  refine Aq (letI b:=(M (Af se fl):Int);letI c:=An (Af se fl)<|AA<|b-1;.req (BI fl)<|.br ((CL se fl) !=0) (.tu #[(0:Int),(CL se fl)])<|.br (b==0) (.tu #[(1:Int),(0:Int)])<|.ix (AA<|b-1) (M<|Af se fl)<|.br (c.1==1000000) (.tu #[(0:Int),(10:Int)])<|.tu #[(AA<|c.1+1),(0:Int)]) ?_;obtain ⟨hb,rfl⟩:=h
  have fin:∀a e:Int,a=JM se fl->e=IT se fl->LV.v (.tuple #[Y J a,Y J e])=LV.v (.tuple #[Y J<|JM se fl,Y J<|IT se fl]):=λa e h1 h2=>yv
  refine ⟨hb,λc1=>?_,λc1=>⟨λc2=>?_,λc2=>?_⟩⟩
  ·have c1:CL se fl≠0:=AX
   refine fin _ _ ?_ ?_<;>simp [JM,IT,c1]
  all_goals have c1:CL se fl=0:=AX
  ·have c2:M (Af se fl)=0:=A8
   refine fin _ _ ?_ ?_<;>simp [JM,IT,c1,c2]
  ·have c2:¬(M<|Af se fl)=0:=A8
   have hv:=GS<|zY c1
   have hw:AA ((M (Af se fl):Int)-1)=(M (Af se fl):Int)-1:=AJ
   have hn:=LD.1<|hv.2 _<|MR (l:=Af se fl) (i:=(M (Af se fl):Int)-1) A0 A0
   rw [hw];refine ⟨⟨A0,A0⟩,λc3=>?_,λc3=>?_⟩
   ·refine fin _ _ ?_ ?_<;>simp at c3<;>simp [JM,IT,c1,c2,c3]
   ·rw [AJ]
    refine fin _ _ ?_ ?_<;>simp at c3<;>simp [JM,IT,c1,c2,c3]
 ·cases h)
def aJ8:List LV->T LV
 | [.v (Y J n),.v (Y J a),.v (Y J b)]=> .ok (inB n a b)
 |_=> .no
def akj:List Bd:=[]
def aJa:=vo (S:=aJ8) func125 akj kN (λargs lv h=>by
 unfold aJ8 at h;split at h
 ·rename_i n a b
  refine Aq (.ok<|.v<|.bool<|(an<|n>=a)&&(an<|n<=b)) ?_;exact h
 ·cases h)
def aSN:List LV->T LV
 | [.v (.agg ⟨[Y J k,Y J ph,Y J mx,Y J nd,Y J dl]⟩)]=> .ok (GH (k,ph,mx,nd,dl))
 |_=> .no
def zp:List Bd:=[aJa]
def aTv:=vo (S:=aSN) func101 zp kN (λargs lv h=>by
 unfold aSN at h;split at h
 ·rename_i k ph mx nd dl
  refine Aq (.ok<|.v<|.bool<|(inB k (0:Int) (4:Int))&&((inB ph (1:Int) (7:Int))&&((inB mx (1:Int) (80:Int))&&((inB nd (0:Int) (1000000000:Int))&&((inB dl (0:Int) (20:Int))&&((k !=3) ||(an<|dl>=1))))))) ?_;exact h
 ·cases h)
structure Ly where
 r:Bool
 l:List Int
 (n i:Int)
def aHT:=bN f124 0
def aBK (s:Ly):T (Rd Ly):=
 .br (an<|s.i<s.n) (.ix s.i (M s.l)<|.br (!(inB (gi s.l s.i) (0:Int) (80:Int))) (.so (.ret) {s with r:=X})<|.nx {s with i:=AA<|s.i+1}) (.so (.exit 0) s)
def SE (s:Ly) (j:Int):Bool:=inB (gi s.l j) 0 80
def mJ (s:Ly):Prop:=s.i=0/\0<=s.n/\s.n<=1000/\s.n=(M s.l:Int)
def bB (s:Ly):Prop:=0<=s.i/\s.i<=s.n/\s.n<=1000/\(s.n=(M s.l:Int))/\∀j:Nat,(j:Int)<s.i->SE s j=U
def zZ (s:Ly):Nat:=(s.n-s.i).toNat
def wR (x:Ex) (s s':Ly):Prop:=(x=.exit 0/\∀j:Nat,(j:Int)<s'.n->SE s' j=U)\/(x=.ret/\s'.r=X/\∃j:Nat,(j:Int)<s'.n/\SE s' j=X)
def amX:∀s,mJ s->bB s:=by
 exact L3
theorem aiZ:Da bB zZ wR aBK:=by
 intro s hI;obtain ⟨h0,h1,h2,h3,h4⟩:=hI;refine AH (λc1=>AH (λc2=>?_) λc2=>?_) λc1=>?_
 ·have c1:s.i<s.n:=AX
  refine .inr ⟨rfl,rfl,s.i.toNat,A8,?_⟩
  have hg:SE s s.i=false:=by unfold SE;simp_all
  exact hg
 ·have c1:s.i<s.n:=AX
  have hg:SE s s.i=true:=by unfold SE;simp_all
  rw [AJ (x:=s.i+1)];refine ⟨⟨A8,A8,h2,h3,λj hj=>?_⟩,by simp only [zZ];omega⟩
  exact L2
 ·exact Sg
def SH:AT Ly:=⟨0,32,[2,22,23,24],[],λs=>[s.r,.xl A7 s.l,s.n,s.i],λ_=>[],λv b=>⟨Ec v 0,B5 A7 v 1,AK v 2,AK v 3⟩,aBK,λs r=> {r with l:=s.l,n:=s.n},λs=>s,λ_ s=>s,[.ret,.exit 0],mJ,bB,zZ⟩
abbrev aOE:=SH.run
abbrev aRE:=SH.Av
def aio:Rq bB aBK:=by
 exact Sj
def abN:SH.Ok:={}
def aTk:SH.Pf (wR):=⟨amX,λs h=>rfl,aiZ,aio⟩
def aw7:SA 0 aHT SH:=s1 abN aTk zp kN
def auH:Fi mJ bB wR aRE aOE:=AT.fin abN aTk
def aRb:List LV->T LV
 | [.agg [.xl (.int J) pil,.v (Y J tk),.v (Y J got)]]=> .ok (Hz (pil,tk,got))
 |_=> .no
def ai2:=vm (S:=aRb) func124 zp kN (L:=(λi=>if i=4 then SH.lp else Al i)) (λb hb=>by
 rw [show BD _=[aHT] by kernel_rfl] at hb
 simp only [B7,Bt,Bu] at hb;subst hb;exact aw7) (λargs lv h=>by
 unfold aRb at h;split at h
 ·rename_i pil tk got
  refine Aq (letI a:=(M pil:Int);.br ((an<|a>21) ||((!(inB tk (0:Int) (1000000:Int))) ||(!(inB got (0:Int) (2000000000:Int))))) (.ok X)<|.req (SH.q (⟨X,pil,a,0⟩:Ly))<|.br (Bs (aRE (⟨X,pil,a,0⟩:Ly))<|.ret) (.ok (aOE (⟨X,pil,a,0⟩:Ly)).r)<|.ok U) ?_;obtain rfl:=h;refine ⟨λc1=>B0 (λz=>LV.v<|.bool z) ?_,λc1=>?_⟩
  ·rw [Sh,I6]
   intro hm
   have:=ck.1 hm
   simp [inB] at c1
   simp only at this;omega
  ·have hE:mJ ⟨X,pil,(M pil:Int),0⟩:=by simp [inB] at c1;exact ⟨rfl,AI,A8,rfl⟩
   obtain ⟨s',hI,hq⟩:=auH _ hE
   have hm:Hz (pil,tk,got)=pil.all (λp=>inB p 0 80):=by
    simp [inB] at c1
    have h21:M pil<=21:=A0
    simp [Hz,inB,h21,c1]
   rw [hm,aRp];refine ⟨⟨hE,rfl,rfl⟩,?_⟩;rcases hq with ⟨q1,q2⟩ |⟨q1,q2,j,q3,q4⟩<;>rw [q1]
   ·rw [show Dc (M pil) (λj=>inB (gi pil j) 0 80)=U from Dy.2 q2]
    exact ⟨λh=>Ao,λ_=>rfl⟩
   ·rw [q2,show Dc (M pil) (λj=>inB (gi pil j) 0 80)=X from QP j q3 q4]
    exact ⟨λ_=>rfl,λh=>Ao⟩
 ·cases h)
structure Nm where
 p:PK
 ev:EW
def US (s:Nm):List LV:=[.own 16 0]
def ZA (s:Nm):List AB:=[AP,AP,zB,AP,bV 79 Ad s.p.cs,bV 90 AQ s.p.ls,bV 5 (.int aw) s.p.fl,bV 143 Am s.p.ra,bV 58 B3 s.p.st,bV 69 AQ s.p.ca,bV 148 B6 s.p.mi,bV 105 BQ s.p.me,bV 71 Au s.p.dm,bV 154 BM s.p.lk,bV 3 A7 s.p.dr,bV 3 A7 s.p.tg,⟨[.os 4 11 0<|M s.p.cs,.xl .str s.p.os,.xl Ai s.p.ks,.xl Ae s.p.gs,.xl Aj s.p.bs,.v<|Y J s.p.tk,.v<|.bool s.p.up,.os 5 5 0<|M s.p.ls,.v<|Y J s.p.se,.os 6 1 0<|M s.p.fl,.os 7 2 0<|M s.p.ra,.v<|Y J s.p.nx,.os 8 4 0<|M s.p.st,.os 9 5 0<|M s.p.ca,.os 10 3 0<|M s.p.mi,.os 11 3 0<|M s.p.me,.os 12 4 0<|M s.p.dm,.os 13 6 0<|M s.p.lk,.os 14 1 0<|M s.p.dr,.os 15 1 0<|M s.p.tg,.v<|Y J s.ev.ek,.v<|Y J s.ev.en,.v<|Y J s.ev.em,.v<|Y J s.ev.c1,.v<|Y J s.ev.c2,.v<|Y J s.ev.c3,.v<|Y J s.ev.c4,.v<|Y J s.ev.c5,.v<|.bool s.ev.d1,.v<|Y J s.ev.d2,.v<|Y J s.ev.d3,.v<|Y J s.ev.d4,.v<|.slice aj 0 0],116,.cl,X⟩]
structure XY where
 res:Int
 p:PK
 ev:EW
def abk (s:XY):LV:=.v<|Y J s.res
def aco (s:XY):List AB:=[AP,AP,zB,AP,bV 79 Ad s.p.cs,AP,AP,AP,bV 58 B3 s.p.st,bV 69 AQ s.p.ca,bV 148 B6 s.p.mi,bV 105 BQ s.p.me,bV 71 Au s.p.dm,bV 154 BM s.p.lk,bV 3 A7 s.p.dr,bV 3 A7 s.p.tg,⟨[.os 4 11 0<|M s.p.cs,.xl .str s.p.os,.xl Ai s.p.ks,.xl Ae s.p.gs,.xl Aj s.p.bs,.v<|Y J s.p.tk,.v<|.bool s.p.up,.xl AQ s.p.ls,.v<|Y J s.p.se,.xl (.int aw) s.p.fl,.xl Am s.p.ra,.v<|Y J s.p.nx,.os 8 4 0<|M s.p.st,.os 9 5 0<|M s.p.ca,.os 10 3 0<|M s.p.mi,.os 11 3 0<|M s.p.me,.os 12 4 0<|M s.p.dm,.os 13 6 0<|M s.p.lk,.os 14 1 0<|M s.p.dr,.os 15 1 0<|M s.p.tg,.v<|Y J s.ev.ek,.v<|Y J s.ev.en,.v<|Y J s.ev.em,.v<|Y J s.ev.c1,.v<|Y J s.ev.c2,.v<|Y J s.ev.c3,.v<|Y J s.ev.c4,.v<|Y J s.ev.c5,.v<|.bool s.ev.d1,.v<|Y J s.ev.d2,.v<|Y J s.ev.d3,.v<|Y J s.ev.d4,.v<|.slice aj 0 0],116,.cl,X⟩]
def gE (s:Nm):T XY:=letI b:=(M s.p.gs:Int);letI c:=s.p.fl.drop 0;letI d:=M s.p.fl;letI e:=(aq b.toNat ((0:Int),(0:Int)));letI f:=s.p.ls.drop 0;letI g:=M s.p.ls;letI h:=s.p.ra.drop 0;letI i:=M s.p.ra;letI a:=c.take d;letI j:=D9 (Af s.p.se a) s.p.tk;.br s.p.up (.rz s.p.ls<|.rz s.p.fl<|.rz s.p.ra<|.rl s.p.cs<|.pb s.p<|.ok<|⟨6,{s.p with ls:=f.take g,fl:=c.take d,ra:=h.take i},s.ev⟩)<|.rz s.p.fl<|.req (BI a)<|.br ((CL s.p.se a) !=0) (.rz s.p.ls<|.rz s.p.fl<|.rz s.p.ra<|.rl s.p.cs<|.pb s.p<|.ok<|⟨CL s.p.se a,{s.p with ls:=f.take g,fl:=c.take d,ra:=h.take i},s.ev⟩)<|.br (j !=0) (.rz s.p.ls<|.rz s.p.fl<|.rz s.p.ra<|.rl s.p.cs<|.pb s.p<|.ok<|⟨j,{s.p with ls:=f.take g,fl:=c.take d,ra:=h.take i},s.ev⟩)<|.rz s.p.fl<|.req (BI a)<|.br ((IT s.p.se a) !=0) (.rz s.p.ls<|.rz s.p.fl<|.rz s.p.ra<|.rl s.p.cs<|.pb s.p<|.ok<|⟨IT s.p.se a,{s.p with ls:=f.take g,fl:=c.take d,ra:=h.take i},s.ev⟩)<|.rm 16 b<|.rz s.p.fl<|.req (0+b.toNat<=M e)<|.rl s.p.cs<|.pb s.p<|.ok<|⟨0,{s.p with up:=U,ls:=BW (Af s.p.se a) s.p.tk,fl:=c.take d,ra:=(e.drop 0).take b.toNat,nx:=JM s.p.se a},s.ev⟩
def aBB (s:Nm):Prop:=BI s.p.fl/\M s.p.gs<=1000
def R2 (s:Nm):XY:=⟨PK.FY s.p,JL (PK.FY s.p) (PK.Tm s.p) s.p,s.ev⟩
def aAt:Cr Nm XY:=⟨US,ZA,λv b=>⟨rF b,rG b⟩,aBB,[0,1,3],[.pc 16 7 AQ,.kb 5,.pc 16 9<|.int aw,.kb 6,.pc 16 10 Am,.kb 7],abk,aco,R2⟩
abbrev ahB (s:Nm):Prop:=aBB s/\US s=US s/\ZA s=ZA s
def eI:List Bd:=[XA,dx,ai1]
end Go.Proofs.YtipodhghjclmbaaGreatDoor
end
