/- Helpers for ParkFailure. Conditions: none. -/
import Derived.Test.YtpfblnbippcdjaaGreatDoorQn3
set_option linter.defProp false
set_option linter.unusedVariables false
set_option linter.unusedSimpArgs false
noncomputable section
open List renaming length→M,length→aa,replicate→aq,range→au
open Bool renaming true→U,true→ae,false→X,false→af
open Go.Value renaming int→Y,int→ag
open Option renaming some→ah,none→aj
open Go.IntKind renaming i64→J,i64→ai,u8→aw,u32→ax
open True renaming intro→ak
open Decidable renaming decide→an
open ByteArray renaming mk→av
open Go.Region renaming ready→ay,wanted→az
open Go.Instr renaming findNow→aA
namespace Go.Proofs.YtpfblnbippcdjaaGreatDoor
set_option maxRecDepth 100000
set_option maxHeartbeats 4000000
open Go.Proofs.Tryz
open Go.Sx
def aaF:=vo (S:=aSw) func136 ald kN (λargs lv h=>by
 unfold aSw at h;split at h
 ·rename_i n a b
  refine Ap (.ok<|.v<|.bool<|(an<|n>=a)&&(an<|n<=b)) ?_;exact h
 ·cases h)
def aSn:List LV->T LV
 | [.v (.agg ⟨[.bool wa,Y J ow,Y J le,Y J ra]⟩)]=> .ok (HI (wa,ow,le,ra))
 |_=> .no
def alc:List Bd:=[aaF]
def ahy:=vo (S:=aSn) func138 alc kN (λargs lv h=>by
 unfold aSn at h;split at h
 ·rename_i wa ow le ra
  refine Ap (.ok<|.v<|.bool<|(inB ow (0:Int) (1000000000:Int))&&((inB le (0:Int) (1000000:Int))&&(inB ra (1:Int) (9:Int)))) ?_;exact h
 ·cases h)
structure MU where
 cs:List Cd
 os:List ByteArray
 ks:List Ko
 gs:List Ch
 bs:List Ba
 l:List Le
 d:List Dm
 t:Int
 od:List Int
 ajO:List Ra
 r:Bool
 n:Int
 m:List Le
 (k i:Int)
def aFl:=bN f92 0
def v7 (s:MU):T (Rd MU):=
 .br (an<|s.i<s.k) (.ix s.i (M s.m)<|.br (an<|(At s.m s.i).2.1>=s.n) (.so (.ret) {s with r:=X})<|.nx {s with i:=AA<|s.i+1}) (.so (.exit 0) s)
def Td (s:MU) (j:Int):Bool:=an<|(At s.m j).2.1<s.n
def iN (s:MU):Prop:=s.i=0/\0<=s.k/\s.k<=1000/\s.k=(M s.m:Int)
def Y5 (s:MU):Prop:=0<=s.i/\s.i<=s.k/\s.k<=1000/\(s.k=(M s.m:Int))/\∀j:Nat,(j:Int)<s.i->Td s j=U
def sh (s:MU):Nat:=(s.k-s.i).toNat
def aAH (x:Ex) (s s':MU):Prop:=(x=.exit 0/\∀j:Nat,(j:Int)<s'.k->Td s' j=U)\/(x=.ret/\s'.r=X/\∃j:Nat,(j:Int)<s'.k/\Td s' j=X)
def alG:∀s,iN s->Y5 s:=by
 exact JH
theorem agU:Da Y5 sh aAH v7:=by
 intro s hI;obtain ⟨h0,h1,h2,h3,h4⟩:=hI;refine AH (λc1=>AH (λc2=>?_) λc2=>?_) λc1=>?_
 ·have c1:s.i<s.k:=AX
  refine .inr ⟨rfl,rfl,s.i.toNat,A8,?_⟩
  have hg:Td s s.i=false:=aNH
  exact hg
 ·have c1:s.i<s.k:=AX
  have hg:Td s s.i=true:=aNH
  rw [AI (x:=s.i+1)];refine ⟨⟨A8,A8,h2,h3,λj hj=>?_⟩,by simp only [sh];omega⟩
  exact L3
 ·have c1:s.k<=s.i:=AX
  exact ZY
def Qq:AR MU:=⟨0,108,[0,1,6,9,67,68,69],[],λs=>[xQ 9 [s.cs,s.os,s.ks,s.gs,s.bs,s.l,s.d,s.t,.xl A7 s.od],s.ajO,s.r,s.n,s.m,s.k,s.i],λ_=>[],λv b=>⟨Ao Ad<|BT (v.getD 0 .junk) 0,Ao .str<|BT (v.getD 0 .junk) 1,Ao Ah<|BT (v.getD 0 .junk) 2,Ao Ae<|BT (v.getD 0 .junk) 3,Ao Ai<|BT (v.getD 0 .junk) 4,Ao AP<|BT (v.getD 0 .junk) 5,Ao Ak<|BT (v.getD 0 .junk) 6,gI<|BT (v.getD 0 .junk) 7,Ao A7<|BT (v.getD 0 .junk) 8,B4 Am v 1,E4 v 2,AK v 3,B4 AP v 4,AK v 5,AK v 6⟩,v7,λs r=> {s with r:=r.r,i:=r.i},λs=>s,λ_ s=>s,[.ret,.exit 0],iN,Y5,sh⟩
abbrev aC0:=Qq.run
abbrev aI5:=Qq.Aq
def axo:Rq Y5 v7:=by
 exact Sc
def gM:List Bd:=[WO,WM,aaF,aTv,ahy]
def aQ0:Qq.Ok:={}
def aOV:Qq.Pf (aAH):=⟨alG,λs h=>rfl,agU,axo⟩
def apg:SA 0 aFl Qq:=s1 aQ0 aOV gM kN
def as3:Fi iN Y5 aAH aI5 aC0:=AR.fin aQ0 aOV
structure Mo where
 cs:List Cd
 os:List ByteArray
 ks:List Ko
 gs:List Ch
 bs:List Ba
 l:List Le
 d:List Dm
 t:Int
 od:List Int
 rs:List Ra
 r:Bool
 m:List Ch
 (k i:Int)
def aFk:=bN f92 1
def v5 (s:Mo):T (Rd Mo):=letI a:=AG s.m s.i;.br (an<|s.i<s.k) (.ix s.i (M s.m)<|.ix s.i (M s.rs)<|.br (!(IG a.2.2.1 a.2.2.2.1 a.2.2.2.2.1 a.2.2.2.2.2.1 a.2.2.2.2.2.2.1 (C1 s.rs s.i).1 (C1 s.rs s.i).2)) (.so (.ret) {s with r:=X})<|.ix s.i (M s.d)<|.br (!(HI<|Dp s.d s.i)) (.so (.ret) {s with r:=X})<|.nx {s with i:=AA<|s.i+1})<|.so (.exit 2) s
def WY (s:Mo) (j:Int):Bool:=raC (AG s.m j) (C1 s.rs j)&&HI (Dp s.d j)
def iM (s:Mo):Prop:=s.i=0/\0<=s.k/\s.k<=1000/\s.k=(M s.m:Int)/\M s.rs=M s.m/\M s.d=M s.m
def Y4 (s:Mo):Prop:=0<=s.i/\s.i<=s.k/\s.k<=1000/\(s.k=(M s.m:Int)/\M s.rs=M s.m/\M s.d=M s.m)/\∀j:Nat,(j:Int)<s.i->WY s j=U
def sf (s:Mo):Nat:=(s.k-s.i).toNat
def aAG (x:Ex) (s s':Mo):Prop:=(x=.exit 2/\∀j:Nat,(j:Int)<s'.k->WY s' j=U)\/(x=.ret/\s'.r=X/\∃j:Nat,(j:Int)<s'.k/\WY s' j=X)
def alF:∀s,iM s->Y4 s:=by
 exact JH
theorem agT:Da Y4 sf aAG v5:=by
 intro s hI;obtain ⟨h0,h1,h2,h3,h4⟩:=hI;refine AH (λc1=>AH (λc2=>?_) λc2=>AH (λc3=>?_) λc3=>?_) λc1=>?_
 ·exact aKr
 ·exact aKr
 ·have c1:s.i<s.k:=AX
  have hg:WY s s.i=true:=aMp
  rw [AI (x:=s.i+1)];refine ⟨⟨AZ,AZ,h2,h3,λj hj=>?_⟩,by simp only [sf];omega⟩
  exact L3
 ·have c1:s.k<=s.i:=AX
  exact ZY
def Qp:AR Mo:=⟨0,108,[0,1,6,82,83,84],[],λs=>[xQ 9 [s.cs,s.os,s.ks,s.gs,s.bs,s.l,s.d,s.t,.xl A7 s.od],s.rs,s.r,s.m,s.k,s.i],λ_=>[],λv b=>⟨Ao Ad<|BT (v.getD 0 .junk) 0,Ao .str<|BT (v.getD 0 .junk) 1,Ao Ah<|BT (v.getD 0 .junk) 2,Ao Ae<|BT (v.getD 0 .junk) 3,Ao Ai<|BT (v.getD 0 .junk) 4,Ao AP<|BT (v.getD 0 .junk) 5,Ao Ak<|BT (v.getD 0 .junk) 6,gI<|BT (v.getD 0 .junk) 7,Ao A7<|BT (v.getD 0 .junk) 8,B4 Am v 1,E4 v 2,B4 Ae v 3,AK v 4,AK v 5⟩,v5,λs r=> {s with r:=r.r,i:=r.i},λs=>s,λ_ s=>s,[.ret,.exit 2],iM,Y4,sf⟩
abbrev aGo:=Qp.run
abbrev aI4:=Qp.Aq
def axn:Rq Y4 v5:=by
 intro s hI;refine ⟨λc1=>⟨?_,?_,λ_=>trivial,λc2=>⟨?_,λ_=>trivial,λ_=>trivial⟩⟩,λ_=>trivial⟩
 all_goals ((obtain ⟨h0,h1,h2,h3,h4⟩:=hI;obtain ⟨h3,h5,h6⟩:=h3;simp at c1;omega))
def aPz:Qp.Ok:={}
def aOU:Qp.Pf (aAG):=⟨alF,λs h=>rfl,agT,axn⟩
def apf:SA 0 aFk Qp:=s1 aPz aOU gM kN
def asl:Fi iM Y4 aAG aI4 aGo:=AR.fin aPz aOU
def aIw:List LV->T LV
 | [.xq 9 q0,.xl (.pair (.int J) (.int J)) rs,.v (Y J n)]=>(match ([q0 0,q0 1,q0 2,q0 3,q0 4,q0 5,q0 6,q0 7,q0 8]:List LV) with
  | [.xl (.pair .str (.pair (.int J) (.pair (.int J) (.pair (.int J) (.pair (.pair (.int J) (.int J)) (.pair (.int J) (.pair (.int J) (.pair (.int J) (.pair (.int J) (.int J)))))))))) cs,.xl (.str) os,.xl (.pair .str (.pair (.int J) (.pair (.int J) (.int J)))) ks,.xl (.pair .str (.pair (.int J) (.pair (.int J) (.pair (.int J) (.pair (.int J) (.pair (.int J) (.pair (.int J) (.int J)))))))) gs,.xl (.pair .str (.int J)) bs,.xl (.pair (.int J) (.pair (.int J) (.pair (.int J) (.pair (.int J) (.int J))))) l,.xl (.pair .bool (.pair (.int J) (.pair (.int J) (.int J)))) d,.v (Y J t),.xl (.int J) od]=> .ok (J6 cs os ks gs bs l rs d t n)
  |_=> .no)
 |_=> .no
def ari (cs:List Cd) (os:List ByteArray) (ks:List Ko) (gs:List Ch) (bs:List Ba) (l:List Le) (d:List Dm) (t:Int) (od:List Int) (rs:List Ra) (n:Int):letI b:=(M gs:Int);letI c:=(M l:Int);letI a:=(aC0 (⟨cs,os,ks,gs,bs,l,d,t,od,rs,X,b,l,c,(0:Int)⟩:MU));Bk prog AV (gM) kN (λi=>if i=8 then Qq.lp else if i=14 then Qp.lp else Ag i) f92 [xQ 9 [cs,os,ks,gs,bs,l,d,t,.xl A7 od],rs,n]=.br (((OB cs os ks gs bs) !=0) ||(!(BL l))) (.ok X) (.br (((M rs:Int) !=b) ||(((M d:Int) !=b) ||((!(inB t (0:Int) (1000000:Int))) ||(!(inB n (1:Int) (999900:Int)))))) (.ok X)<|.req (Qq.q (⟨cs,os,ks,gs,bs,l,d,t,od,rs,X,b,l,c,(0:Int)⟩:MU))<|.br (Bj (aI5 (⟨cs,os,ks,gs,bs,l,d,t,od,rs,X,b,l,c,(0:Int)⟩:MU))<|.ret) (.ok a.r)<|.req (Qp.q (⟨cs,os,ks,gs,bs,l,d,t,od,rs,a.r,gs,b,(0:Int)⟩:Mo))<|.br (Bj (aI4 (⟨cs,os,ks,gs,bs,l,d,t,od,rs,a.r,gs,b,(0:Int)⟩:Mo))<|.ret) (.ok (aGo (⟨cs,os,ks,gs,bs,l,d,t,od,rs,a.r,gs,b,(0:Int)⟩:Mo)).r)<|.ok U):=AT
def auU:=vm (S:=aIw) func92 gM kN (L:=(λi=>if i=8 then Qq.lp else if i=14 then Qp.lp else Ag i)) (λb hb=>by
 rw [show BA _=[aFl,aFk] by kernel_rfl] at hb
 simp only [B8,Bu,Bt] at hb;rcases hb with rfl|rfl
 ·exact apg
 ·exact apf) (λargs lv h=>by
 refine ⟨?_⟩;unfold aIw at h;split at h
 ·split at h
  case h_2=>cases h
  rename_i heq0;simp only [canL,canX];rw [Dn (n:=9) heq0];simp only [canL,canX];rw [ari];rename_i rs n _ cs os ks gs bs l d t od;obtain rfl:=h
  have e0:((OB cs os ks gs bs !=0) || !BL l)=!(BI cs os ks gs bs&&BL l):=by
   unfold OB;cases BI cs os ks gs bs<;>cases BL l<;>rfl
  have e1:(((M rs:Int) !=(M gs:Int)) ||(((M d:Int) !=(M gs:Int)) ||(!inB t 0 1000000 || !inB n 1 999900)))=!(an (M rs=M gs)&&(an (M d=M gs)&&(inB t 0 1000000&&inB n 1 999900))):=by
   rw [neN,neN,Bool.not_and,Bool.not_and,Bool.not_and]
  rw [e0,e1]
  have bad:J6 cs os ks gs bs l rs d t n=X->LV.v (.bool X)=LV.v (.bool<|J6 cs os ks gs bs l rs d t n):=λh=>VR
  refine ⟨λc=>bad (by unfold J6;rw [ntW c];rfl),λc=>⟨λc2=>bad (by unfold J6;rw [ntW c2,Pt,Sa]),λc2=>?_⟩⟩
  have c:=nfW c
  have c2:=nfW c2
  have c':=c
  have c2':=c2
  simp only [AY,Ac] at c' c2'
  have hl:=Ij c'.2
  have hg:=(DD.1 c'.1).1.2.2.2.2.1
  have hE:iN ⟨cs,os,ks,gs,bs,l,d,t,od,rs,X,(M gs:Int),l,(M l:Int),0⟩:=⟨rfl,AZ,AZ,rfl⟩
  have ev:J6 cs os ks gs bs l rs d t n=(below (M gs) l&&D9 (M gs) (λj=>raC (AG gs j) (C1 rs j)&&HI (Dp d j))):=by
   unfold J6;rw [c,c2,E9,E9]
  refine ⟨⟨hE,rfl,rfl⟩,?_⟩;obtain ⟨_,_,hq⟩:=as3 _ hE
  have eb:below (M gs) l=D9 (M l) (λj=>an<|(At l j).2.1<(M gs:Int)):=by
   rw [IP,Di];exact (QK (d:=(0,0,0,0,0)) (p:=λx:Le=>an<|x.2.1<(M gs:Int))).symm
  rcases hq with ⟨q1,q2⟩ |⟨q1,q2,j,q3,q4⟩<;>rw [q1]
  rotate_left
  ·rw [q2]
   exact ⟨λ_=>bad (by rw [ev,eb,Oq (f:=λj=>an<|(At l j).2.1<(M gs:Int)) j q3 q4];rfl),λh=>An⟩
  refine ⟨λh=>An,λ_=>?_⟩
  have g0:below (M gs) l=true:=by rw [eb];exact Di.2 q2
  have hE2:iM ⟨cs,os,ks,gs,bs,l,d,t,od,rs,(aC0 ⟨cs,os,ks,gs,bs,l,d,t,od,rs,X,(M gs:Int),l,(M l:Int),0⟩).r,gs,(M gs:Int),0⟩:=⟨rfl,AZ,AZ,rfl,c2'.1,c2'.2.1⟩
  refine ⟨⟨hE2,rfl,rfl⟩,?_⟩;obtain ⟨_,_,hq⟩:=asl _ hE2;rcases hq with ⟨q5,q6⟩ |⟨q5,q6,j,q7,q8⟩<;>rw [q5]
  ·exact ⟨λh=>An,λ_=>by rw [ev,g0,(Di (f:=λj=>raC (AG gs j) (C1 rs j)&&HI (Dp d j))).2 q6];rfl⟩
  ·rw [q6]
   exact ⟨λ_=>bad<|by rw [ev,Oq (f:=λj=>raC (AG gs j) (C1 rs j)&&HI (Dp d j)) j q7 q8,Sa],λh=>An⟩
 ·cases h)
structure Ml where
 n:Int
 r:Bool
 l:List Int
 (m k:Int)
 seen:List Bool
def aFg:=bN f181 0
def gG (s:Ml):T (Rd Ml):=letI a:=gi s.l s.k;letI b:=M s.seen;letI c:=s.seen.set a.toNat U;.br (an<|s.k<s.m) (.ix s.k (M s.l)<|.br (an<|a<0) (.rl s.seen<|.so (.ret) {s with r:=X})<|.br (an<|a>=s.n) (.rl s.seen<|.so (.ret) {s with r:=X})<|.ik a b<|.br (s.seen.getD a.toNat<|Ty.dflt .bool) (.rl s.seen<|.so (.ret) {s with r:=X})<|.ik a b<|.re b c<|.nx {s with k:=AA<|s.k+1,seen:=c})<|.rl s.seen<|.so (.exit 0) s
def PU (s:Ml) (j:Int):Bool:=Pb s.n (gi s.l j)&&!(((s.l.take j.toNat).map id).contains<|id<|gi s.l j)
def aAv (s:Ml):Prop:=s.k=0/\s.seen=aq (M s.seen) X/\s.m=(M s.l:Int)/\s.m<=1000/\s.n=(M s.seen:Int)
def Xz (s:Ml):Prop:=(0<=s.k/\s.k<=s.m)/\(∀j:Nat,j<M s.seen->s.seen.getD j X=(s.l.take s.k.toNat).contains (j:Int))/\(∀j:Nat,(j:Int)<s.k->PU s j=U)/\s.m=(M s.l:Int)/\s.m<=1000/\s.n=(M s.seen:Int)
def sS (s:Ml):Nat:=(s.m-s.k).toNat
def iF (x:Ex) (s s':Ml):Prop:=(x=.exit 0/\∀j:Nat,(j:Int)<s'.m->PU s' j=U)\/(x=.ret/\s'.r=X/\∃j:Nat,(j:Int)<s'.m/\PU s' j=X)
theorem aku:∀s,aAv s->Xz s:=by
 rintro s ⟨h0,h1,h2,h3,h4⟩
 refine ⟨A0,λj hj=>?_,λj hj=>A0,h2,h3,h4⟩
 rw [h1,h0]
 grind
theorem azp:Da Xz sS iF gG:=by
 intro s hI;unfold gG;obtain ⟨⟨h0,h1⟩,h2,h3,h4,h5,h6⟩:=hI;refine AH (λc1=>?_) λc1=>?_
 rotate_left
 ·have c1:s.m<=s.k:=AX
  exact .inl ⟨rfl,λj hj=>h3 j A0⟩
 have c1:s.k<s.m:=AX
 have bad:PU s s.k=X->iF .ret s {s with r:=X}:=λhg=> .inr ⟨rfl,rfl,s.k.toNat,AZ,by rw [CR h0];exact hg⟩
 refine AH (λc2=>bad ?_) λc2=>AH (λc3=>bad ?_) λc3=>AH (λc4=>bad ?_) λc4=>?_
 ·unfold PU Pb
  simp only [Ac] at c2;rw [I1 A0];rfl
 ·unfold PU Pb
  simp only [Ac] at c3;rw [I1 (p:=gi s.l s.k<s.n) A0,Sa];rfl
 all_goals
  have c2:0<=gi s.l s.k:=EA
  have c3:gi s.l s.k<s.n:=N7
  have e:=h2 (gi s.l s.k).toNat A0
  rw [CR c2] at e
 ·have c4:s.seen.getD (gi s.l s.k).toNat X=true:=c4
  unfold PU;rw [Uz,id,<-e,c4]
  simp
 ·have c4:s.seen.getD (gi s.l s.k).toNat X=false:=c4
  have hg:PU s s.k=true:=by
   unfold PU;rw [Uz,id,<-e,c4,o9.2 ⟨c2,c3⟩];rfl
  rw [AI (x:=s.k+1)];refine ⟨⟨⟨AZ,AZ⟩,λj hj=>?_,λj hj=>?_,h4,h5,A8⟩,by simp only [sS];omega⟩
  ·simp only [CL] at hj
   simp only;rw [(gi_step h0 (show s.k<M s.l by omega)).2,List.contains_append,<-h2 j hj]
   by_cases hj2:(gi s.l s.k).toNat=j
   ·subst hj2
    rw [CR c2]
    simp [List.getD,hj]
   ·have:¬(j:Int)=gi s.l s.k:=A0
    grind
  ·by_cases hji:(j:Int)<s.k
   ·exact h3 j hji
   ·have:(j:Int)=s.k:=lP
    rw [this];exact hg
def RM:AR Ml:=⟨0,37,[1,4,5,14,15,16],[],λs=>[s.n,s.r,.os 0 1 0<|M s.seen,.xl A7 s.l,s.m,s.k],λs=>[bV 4 .bool s.seen],λv b=>⟨AK v 0,E4 v 1,B4 A7 v 3,AK v 4,AK v 5,gVe .bool<|CU b 0⟩,gG,λs r=> {r with n:=s.n,l:=s.l,m:=s.m},λs=>s,λ_ s=>s,[.ret,.exit 0],aAv,Xz,sS⟩
abbrev aGD:=RM.run
abbrev aHz:=RM.Aq
theorem axf:Rq Xz gG:=by
 intro s hI;refine ⟨λc1=>⟨?_,λc2=>⟨A9,ak⟩,λc2=>⟨λc3=>⟨A9,ak⟩,λc3=>⟨?_,?_,λc4=>⟨A9,ak⟩,λc4=>⟨?_,?_,?_,ak⟩⟩⟩⟩,λc1=>⟨A9,ak⟩⟩
 iterate 5 · (obtain ⟨⟨h0,h1⟩,h2,h3,h4,h5,h6⟩:=hI;simp only [Ac,Cv] at*;omega)
 ·grind
def abM:List Bd:=[]
def aQa:RM.Ok:={}
def aOt:RM.Pf (iF):=⟨aku,λs h=>rfl,azp,axf⟩
def apa:SA 0 aFg RM:=s1 aQa aOt abM kN
def arT:Fi aAv Xz iF aHz aGD:=AR.fin aQa aOt
def aIk:List LV->T LV
 | [.xl (.int J) l,.v (Y J n)]=> .req (n<=1000) (.ok<|GU l n)
 |_=> .no
def Wo:=vm (S:=aIk) func181 abM kN (L:=(λi=>if i=5 then RM.lp else Ag i)) (λb hb=>by
 rw [show BA _=[aFg] by kernel_rfl] at hb
 simp only [B8,Bu,Bt] at hb;subst hb;exact apa) (λargs lv h=>by
 unfold aIk at h;split at h
 ·rename_i l n
  refine Ap (letI a:=aq n.toNat X;letI b:=(M l:Int);.br (b !=n) (.ok X)<|.rm 1 n<|.re n.toNat a<|.req (RM.q (⟨n,X,l,b,0,a⟩:Ml))<|.br (Bj (aHz (⟨n,X,l,b,0,a⟩:Ml))<|.ret) (.ok (aGD (⟨n,X,l,b,0,a⟩:Ml)).r)<|.ok U) ?_;obtain ⟨hl,rfl⟩:=h;refine ⟨λc=>B1 (λz=>LV.v<|.bool z) ?_,λc=>?_⟩
  ·have c:¬(M l:Int)=n:=A8
   unfold GU;rw [I1 c];rfl
  ·have c:(M l:Int)=n:=A8
   unfold GU;rw [DB c,E9];refine ⟨A0,⟨rfl,AJ⟩,LY ⟨⟨rfl,AJ,rfl,A8,A8⟩,rfl,rfl⟩ λhE=>?_⟩
   obtain ⟨s',_,hq⟩:=arT _ hE.1;rcases hq with ⟨q1,q2⟩ |⟨q1,q2,j,q3,q4⟩
   ·rw [q1]
    have hk:=(Vv (d:=(0:Int)) (p:=Pb n) (k:=id)).1 q2
    rw [Uz] at hk;rw [hk];exact ⟨λh=>An,λ_=>rfl⟩
   ·rw [q1,q2]
    refine ⟨λ_=>B1 (λz=>LV.v<|.bool z) ?_,λh=>An⟩
    rw [Sf,Hw];intro hx
    have:=(Vv (d:=(0:Int)) (p:=Pb n) (k:=id)).2 Fv j q3
    exact Bool.noConfusion<|this.symm.trans q4
 ·cases h)
structure Il where
 r:Bool
 l:List Int
 (n i:Int)
 Be:List Cd
 GI:List ByteArray
 GG:List Ko
 GK:List Ch
 GN:List Ba
def uz (s:Il):T (Rd Il):=
 .br (an<|s.i<s.n) (.ix s.i (M s.l)<|.br (!((an<|(gi s.l s.i)>=0)&&(an<|(gi s.l s.i)<=80))) (.so (.ret) {s with r:=X})<|.nx {s with i:=AA<|s.i+1}) (.so (.exit 0) s)
def Tb (s:Il) (j:Int):Bool:=Hc<|gi s.l j
def iK (s:Il):Prop:=s.i=0/\0<=s.n/\s.n<=1000/\s.n=(M s.l:Int)
def Y2 (s:Il):Prop:=0<=s.i/\s.i<=s.n/\s.n<=1000/\(s.n=(M s.l:Int))/\∀j:Nat,(j:Int)<s.i->Tb s j=U
def sZ (s:Il):Nat:=(s.n-s.i).toNat
def aAD (x:Ex) (s s':Il):Prop:=(x=.exit 0/\∀j:Nat,(j:Int)<s'.n->Tb s' j=U)\/(x=.ret/\s'.r=X/\∃j:Nat,(j:Int)<s'.n/\Tb s' j=X)
def al8:∀s,iK s->Y2 s:=by
 exact JH
theorem agO:Da Y2 sZ aAD uz:=by
 intro s hI;obtain ⟨h0,h1,h2,h3,h4⟩:=hI;refine AH (λc1=>AH (λc2=>?_) λc2=>?_) λc1=>?_
 ·have c1:s.i<s.n:=AX
  refine .inr ⟨rfl,rfl,s.i.toNat,A8,?_⟩
  have hg:Tb s s.i=false:=aMk
  exact hg
 ·have c1:s.i<s.n:=AX
  have hg:Tb s s.i=true:=aMk
  rw [AI (x:=s.i+1)];refine ⟨⟨A8,A8,h2,h3,λj hj=>?_⟩,by simp only [sZ];omega⟩
  exact L3
 ·exact Sg
def TZ:AR Il:=⟨1,18,[1,4,7,8,9],[],λs=>[.fn 179 [],s.r,.xl A7 s.l,s.n,s.i],λs=>[⟨[s.Be,s.GI,s.GG,s.GK,s.GN],28,.cl,X⟩],λv b=>⟨E4 v 1,B4 A7 v 2,AK v 3,AK v 4,AF Ad b 0 0,AF .str b 0 1,AF Ah b 0 2,AF Ae b 0 3,AF Ai b 0 4⟩,uz,λs r=> {s with r:=r.r,i:=r.i},λs=>s,λ_ s=>s,[.ret,.exit 0],iK,Y2,sZ⟩
abbrev cU:=TZ.run
abbrev cS:=TZ.Aq
def QY:List Bd:=[WM,Wo,Wn,Wp]
def akT:Ax:=kI QY<|l0 QY
def axk:Rq Y2 uz:=by
 exact Sc
def aPw:TZ.Ok:={}
def aOR:TZ.Pf (aAD):=⟨al8,λs h=>rfl,agO,axk⟩
def WE:=s2 (b:=bN f180 0) aPw aOR QY akT
def asZ:Fi iK Y2 aAD cS cU:=AR.fin aPw aOR
def aI9 (s:Il) (hE:iK s):(cS s=.exit 0/\s.l.all Hc=U)\/(cS s=.ret/\(cU s).r=X/\s.l.all Hc=X):=by
 obtain ⟨s',hI,hq⟩:=asZ s hE;obtain ⟨h0,h1,h2,h3⟩:=hE
 have en:(cU s).n=s.n:=rfl
 rcases hq with ⟨q1,q2⟩ |⟨q1,q2,j,q3,q4⟩
 ·refine .inl ⟨q1,(QK (d:=(0:Int))).1 λj hj=>?_⟩
  have:=q2 j A0
  exact this
 ·exact aKg
structure F9 where
 alive:List Int
 i:Int
 rows:List Rw
 (rn ri:Int)
 l:List Int
 (n k:Int)
 Jz:List Cd
 K5:List ByteArray
 K4:List Ko
 K3:List Ch
 KF:List Ba
 H5:List Cd
 H4:List ByteArray
 EH:List Ko
 B0:List Ch
 H6:List Ba
 BE:List Rw
 (BF CK CJ CE CD CC CB CA CH CG CF C9 C8 C7 C6 C5 C4 sums levels:List Int)
def aFG:=lN (bN f182 0) 0
def GW (s:F9):List (List Int):=[s.CK,s.CJ,s.CE,s.CD,s.CC,s.CB,s.CA,s.CH,s.CG,s.CF,s.C9,s.C8,s.C7,s.C6,s.C5,s.C4]
def nsO (s:F9) (l:List<|List Int):F9:={s with CK:=l.getD 0 [],CJ:=l.getD 1 [],CE:=l.getD 2 [],CD:=l.getD 3 [],CC:=l.getD 4 [],CB:=l.getD 5 [],CA:=l.getD 6 [],CH:=l.getD 7 [],CG:=l.getD 8 [],CF:=l.getD 9 [],C9:=l.getD 10 [],C8:=l.getD 11 [],C7:=l.getD 12 [],C6:=l.getD 13 [],C5:=l.getD 14 [],C4:=l.getD 15 []}
def ns (s:F9) (j:Nat):F9:={nsO s ((GW s).modify j (·++[s.i])) with k:=AA<|s.k+1,sums:=s.sums.set s.i.toNat<|AA<|s.sums.getD s.i.toNat 0+gi s.alive (j:Int)}
def rO {α:Type}(x:List Int):List (List Int)->Nat->T α->T α
 | [],_,t=>t
 |o::l,0,t=> .re (M o+M x) (o++x) (rO x l 1000 t)
 |o::l,j+1,t=> .rl o<|rO x l j t
def XO {σ:Type}{s:σ}{x:List Int}{t:T<|Rd σ}:∀l j,(rO x l j t).rd s=t.rd s
 | [],_=>rfl
 |_::l,0=>XO l 1000
 |_::l,j+1=>XO l j
def dq {α:Type}{K:α->Prop}{x:List Int}{t:T α}(h:t.all K):∀l j,(rO x l j t).all K
 | [],_=>h
 |_::l,0=>⟨⟨rfl,AJ⟩,dq h l 1000⟩
 |_::l,j+1=>⟨⟨rfl,rfl⟩,dq h l j⟩
theorem aDQ {α:Type}{K:α->Prop}{f:Nat->T α}{n:Int}:∀m j:Nat,(j:Int)<=n->n<j+m->(∀i:Nat,n=i->(f i).all K)->(splitN f n m j).all K
 |0,_,_,_,_=>A0
 |1,j,_,_,h=>h j A0
 |m+2,j,_,_,h=>⟨λc=>h j<|eq_of_beq c,λc=>aDQ (m+1) (j+1) A8 A0 h⟩
theorem oZ {σ:Type}{A:σ->Prop}{B:Ex->σ->Prop}{s:σ}{f:Nat->T (Rd σ)}{n:Int}:∀m j:Nat,(j:Int)<=n->n<j+m->(∀i:Nat,n=i->DK A B ((f i).rd s))->DK A B ((splitN f n m j).rd s)
 |0,_,_,_,_=>A0
 |1,j,_,_,h=>h j A0
 |m+2,j,_,_,h=>AH (λc=>h j<|eq_of_beq c) λc=>oZ (m+1) (j+1) A8 A0 h
theorem ajG (s:F9) {l:List<|List Int}(h:M l=16):GW (nsO s l)=l:=by
 show (au 16).map (λi=>l.getD i [])=l
 refine jx lU λi h1 h2=>?_
 grind
def vF (s:F9):T (Rd F9):=letI a:=M s.sums;.br (an<|s.k<s.n) (.ix s.k (M s.l)<|.req (0<=(gi s.l s.k)/\(gi s.l s.k)<(16:Int))<|splitN (λj=> .rb (M<|(GW s).getD j []) (M<|[s.i]) 8<|.ix s.i a<|.ix (j:Int) (M s.alive)<|.req (s.i.toNat<M s.sums)<|.ik s.i a<|rO [s.i] (GW s) j<|.re a (ns s j).sums<|.rl s.levels<|.nx<|ns s j) (gi s.l s.k) 16 0)<|rO [] (GW s) 1000<|.rl s.sums<|.rl s.levels<|.so (.exit 2) s
def Xm (s:F9):Prop:=s.k=0/\(∀o∈GW s,(M o:Int)<=1000000)/\(0<=gi s.sums s.i/\gi s.sums s.i<=1000)/\s.n=(M s.l:Int)/\s.n<=1000/\(∀m∈s.l,0<=m/\m<16/\m<(M s.alive:Int))/\(∀a∈s.alive,0<=a/\a<=80)/\(0<=s.i/\s.i<(M s.sums:Int))
def Qi (s:F9):Prop:=(0<=s.k/\s.k<=s.n)/\(∀o∈GW s,(M o:Int)<=1000000+s.k)/\(0<=gi s.sums s.i/\gi s.sums s.i<=1000+80*s.k)/\s.n=(M s.l:Int)/\s.n<=1000/\(∀m∈s.l,0<=m/\m<16/\m<(M s.alive:Int))/\(∀a∈s.alive,0<=a/\a<=80)/\(0<=s.i/\s.i<(M s.sums:Int))
def Ws (s:F9):Nat:=(s.n-s.k).toNat
def ace (x:Ex) (s s':F9):Prop:=x=.exit 2/\s'.k=s'.n
theorem ajF:∀s,Xm s->Qi s:=by
 rintro s ⟨h0,h1,h2,h3⟩
 exact ⟨A0,λo ho=>A8,A0,h3⟩
def dI (s:F9) (hI:Qi s) (c1:s.k<s.n):0<=gi s.l s.k/\gi s.l s.k<16/\gi s.l s.k<(M s.alive:Int):=by
 obtain ⟨⟨h0,h1⟩,h2,h3,h4,h5,h6,h7,h8⟩:=hI;exact h6 _ aNl
abbrev gp (s:F9):=(Lb s.i (GW s)<|s.l.drop s.k.toNat,s.sums.set s.i.toNat<|s.sums.getD s.i.toNat 0+smA s.alive (s.l.drop s.k.toNat))
theorem aPu (s:F9) (j:Nat) (hI:Qi s) (c1:s.k<s.n) (em:gi s.l s.k=(j:Int)):(Qi (ns s j)/\Ws (ns s j)<Ws s)/\gp (ns s j)=gp s:=by
 generalize e:ns s j=s'
 have hO:GW s'=(GW s).modify j (·++[s.i]):=by rw [<-e];exact ajG s (by rw [kA];rfl)
 have hs:s'.sums=s.sums.set s.i.toNat (AA<|s.sums.getD s.i.toNat 0+gi s.alive (j:Int)):=VJ
 have hk:s'.k=AA (s.k+1):=VJ
 have hn:s'.n=s.n:=VJ
 have hl:s'.l=s.l:=VJ
 have ha:s'.alive=s.alive:=VJ
 have hi:s'.i=s.i:=VJ
 have hm:=dI s hI c1
 obtain ⟨⟨h0,h1⟩,h2,⟨h3,h3'⟩,h4,h5,h6,h7,h8⟩:=hI;rw [AI (x:=s.k+1)] at hk
 have hav:=h7 (gi s.alive (j:Int)) aNl
 have hgi:gi s.sums s.i=s.sums.getD s.i.toNat 0:=rfl
 rw [AI (x:=s.sums.getD s.i.toNat 0+gi s.alive (j:Int))] at hs
 have hs2:gi s'.sums s'.i=s.sums.getD s.i.toNat 0+gi s.alive (j:Int):=by
  rw [hi,hs]
  show List.getD _ _ _=_
  grind
 refine ⟨⟨⟨⟨A0,A0⟩,λo ho=>?_,⟨by rw [hs2];omega,by rw [hs2];omega⟩,by rw [hn,hl];exact h4,A0,by rw [hl,ha];exact h6,by rw [ha];exact h7,⟨by rw [hi];omega,by rw [hi,hs,CL];omega⟩⟩,by simp only [Ws];omega⟩,?_⟩
 ·rw [hO] at ho
  obtain ⟨k,hk2,rfl⟩:=I0.1 ho;rw [kA] at hk2
  have:=h2 (GW s)[k]<|GD _
  rw [List.getElem_modify];split
  ·grind
  ·omega
 ·unfold gp
  rw [hO,hs,hl,ha,hi,hk,(gi_step h0 (show s.k<M s.l by omega)).1,na,aEb,em,C3,aeI A0]
theorem aQs:Da Qi Ws ace vF:=by
 intro s hI;refine AH (λc1=>?_) λc1=>?_
 ·have hm:=dI s hI A8
  refine oZ 16 0 A0 A0 λi em=>?_
  show DK _ _ ((rO _ _ i _).rd s)
  rw [XO];exact (aPu s i hI A8 em).1
 ·have c1:s.n<=s.k:=A8
  have h0:=hI.1
  exact V7
def Ts:AR F9:=⟨1,67,[2,7,8,23,24,25,31,32,33],[.ns 7 6 3 A7,.ns 7 7 3 A7,.ns 7 8 3 A7,.ns 7 9 3 A7,.ns 7 10 3 A7,.ns 7 11 3 A7,.ns 7 12 3 A7,.ns 7 13 3 A7,.ns 7 14 3 A7,.ns 7 15 3 A7,.ns 7 16 3 A7,.ns 7 17 3 A7,.ns 7 18 3 A7,.ns 7 19 3 A7,.ns 7 20 3 A7,.ns 7 21 3 A7],λs=>[.xl A7 s.alive,.own 1 0,s.i,.xl Ea s.rows,s.rn,s.ri,.xl A7 s.l,s.n,s.k],λs=>[⟨[s.Jz,s.K5,s.K4,s.K3,s.KF],28,.cl,X⟩,⟨[s.H5,s.H4,s.EH,s.B0,s.H6,.xl Ea s.BE,.os 2 1 0<|M s.CK,.os 3 1 0<|M s.CJ,.os 4 1 0<|M s.CE,.os 5 1 0<|M s.CD,.os 6 1 0<|M s.CC,.os 7 1 0<|M s.CB,.os 8 1 0<|M s.CA,.os 9 1 0<|M s.CH,.os 10 1 0<|M s.CG,.os 11 1 0<|M s.CF,.os 12 1 0<|M s.C9,.os 13 1 0<|M s.C8,.os 14 1 0<|M s.C7,.os 15 1 0<|M s.C6,.os 16 1 0<|M s.C5,.os 17 1 0<|M s.C4,.os 18 1 0<|M s.sums,.xl A7 s.BF,.os 19 1 0<|M s.levels],307,.cl,X⟩,bV 3 A7 s.CK,bV 3 A7 s.CJ,bV 3 A7 s.CE,bV 3 A7 s.CD,bV 3 A7 s.CC,bV 3 A7 s.CB,bV 3 A7 s.CA,bV 3 A7 s.CH,bV 3 A7 s.CG,bV 3 A7 s.CF,bV 3 A7 s.C9,bV 3 A7 s.C8,bV 3 A7 s.C7,bV 3 A7 s.C6,bV 3 A7 s.C5,bV 3 A7 s.C4,bV 3 A7 s.sums,bV 3 A7 s.levels],λv b=>⟨B4 A7 v 0,AK v 2,B4 Ea v 3,AK v 4,AK v 5,B4 A7 v 6,AK v 7,AK v 8,AF Ad b 0 0,AF .str b 0 1,AF Ah b 0 2,AF Ae b 0 3,AF Ai b 0 4,AF Ad b 1 0,AF .str b 1 1,AF Ah b 1 2,AF Ae b 1 3,AF Ai b 1 4,AF Ea b 1 5,AF A7 b 1 23,Ab A7 b 2,Ab A7 b 3,Ab A7 b 4,Ab A7 b 5,Ab A7 b 6,Ab A7 b 7,Ab A7 b 8,Ab A7 b 9,Ab A7 b 10,Ab A7 b 11,Ab A7 b 12,Ab A7 b 13,Ab A7 b 14,Ab A7 b 15,Ab A7 b 16,Ab A7 b 17,Ab A7 b 18,Ab A7 b 19⟩,vF,λs r=> {s with k:=r.k,CK:=r.CK,CJ:=r.CJ,CE:=r.CE,CD:=r.CD,CC:=r.CC,CB:=r.CB,CA:=r.CA,CH:=r.CH,CG:=r.CG,CF:=r.CF,C9:=r.C9,C8:=r.C8,C7:=r.C7,C6:=r.C6,C5:=r.C5,C4:=r.C4,sums:=r.sums},λs=>s,λ_ s=>s,[.exit 2],Xm,Qi,Ws⟩
abbrev GH:=Ts.run
def zt:Ax:=kI QY<|la 2 func180 WE<|l0 QY
theorem awd:Rq Qi vF:=by
 intro s hI;refine ⟨λc1=>?_,λ_=>dq (by exact ⟨A9,A9,ak⟩) _ _⟩
 have hm:=dI s hI A8
 simp only [Ac] at c1;obtain ⟨⟨h0,h1⟩,h2,h3,h4,h5,h6,h7,h8,h9⟩:=id hI;refine ⟨⟨A0,A0⟩,⟨A0,A0⟩,aDQ 16 0 A0 A0 λi em=>?_⟩
 refine ⟨⟨A0,?_⟩,⟨A0,A0⟩,⟨A0,A0⟩,A0,⟨A0,A0⟩,A0,dq ?_ _ _⟩
 ·grind
 ·exact ⟨⟨rfl,(CL ..).symm⟩,A9,ak⟩
def rU:Ts.Ok:={}
def sG:Ts.Pf (ace):=⟨ajF,λs h=>rfl,aQs,awd⟩
def aqA:SA 1 aFG Ts:=s2 rU sG QY zt
theorem anK (s:F9) (hE:Xm s):(λs:F9=>(Lb s.i (GW s)<|s.l.drop s.k.toNat,s.sums.set s.i.toNat<|s.sums.getD s.i.toNat 0+smA s.alive (s.l.drop s.k.toNat))) (GH s)=(λs:F9=>(Lb s.i (GW s)<|s.l.drop s.k.toNat,s.sums.set s.i.toNat<|s.sums.getD s.i.toNat 0+smA s.alive (s.l.drop s.k.toNat))) s:=by
 exact AR.KJ rU sG gp (λs hI=>by
  refine AH (λc1=>?_) λc1=>?_
  ·have hm:=dI s hI A8
   refine oZ 16 0 A0 A0 λi em=>?_
   show DK _ _ ((rO _ _ i _).rd s)
   rw [XO];exact (aPu s i hI A8 em).2
  ·rw [XO]
   exact rfl) s hE
def aqa (s:F9) (hE:Xm s):GW (GH s)=Lb s.i (GW s) s.l/\(GH s).sums=s.sums.set s.i.toNat (s.sums.getD s.i.toNat 0+smA s.alive s.l):=by
 have q3:=anK s hE
 obtain ⟨hI2,hf⟩:=AR.inv rU sG (λs=>AT) s hE
 have hI2:Qi (GH s):=hI2
 have hq:=cD (aQs _ hI2) hf
 have q2:(GH s).k=(GH s).n:=hq.2
 obtain ⟨h0,h1,h2,h3,h4,h5,h6,h7⟩:=hE;obtain ⟨g0,g1,g2,g3,g4,g5,g6,g7⟩:=hI2
 have el:(GH s).l=s.l:=rfl
 have en:(GH s).n=s.n:=rfl
 have ei:(GH s).i=s.i:=rfl
 have ea:(GH s).alive=s.alive:=rfl
 simp only at q3;rw [q2,en,el,ei,ea,Ef A0,h0,show (0:Int).toNat=0 from rfl,CP] at q3
 have e1:=B1 Prod.fst q3
 have e2:=B1 Prod.snd q3
 simp only at e1 e2;refine ⟨e1,?_⟩;rw [<-e2];exact (an1 (by rw [ei] at g7;omega)).symm
structure Dy where
 alive:List Int
 rows:List Rw
 (rn ri:Int)
 Jz:List Cd
 K5:List ByteArray
 K4:List Ko
 K3:List Ch
 KF:List Ba
 H5:List Cd
 H4:List ByteArray
 EH:List Ko
 B0:List Ch
 H6:List Ba
 BE:List Rw
 (BF CK CJ CE CD CC CB CA CH CG CF C9 C8 C7 C6 C5 C4 sums levels:List Int)
def aFF:=bN f182 0
def ME (s:Dy):F9:=(⟨s.alive,s.ri,s.rows,s.rn,s.ri,(Cb s.rows s.ri).2,(M (Cb s.rows s.ri).2:Int),0,s.Jz,s.K5,s.K4,s.K3,s.KF,s.H5,s.H4,s.EH,s.B0,s.H6,s.BE,s.BF,s.CK,s.CJ,s.CE,s.CD,s.CC,s.CB,s.CA,s.CH,s.CG,s.CF,s.C9,s.C8,s.C7,s.C6,s.C5,s.C4,s.sums,s.levels⟩:F9)
def vD (s:Dy):T (Rd Dy):=letI a:=GH<|ME s;.br (an<|s.ri<s.rn) (.ix s.ri (M s.rows)<|.rl s.CK<|.rl s.CJ<|.rl s.CE<|.rl s.CD<|.rl s.CC<|.rl s.CB<|.rl s.CA<|.rl s.CH<|.rl s.CG<|.rl s.CF<|.rl s.C9<|.rl s.C8<|.rl s.C7<|.rl s.C6<|.rl s.C5<|.rl s.C4<|.rl s.sums<|.rl s.levels<|.req (Ts.q<|ME s)<|.rl a.CK<|.rl a.CJ<|.rl a.CE<|.rl a.CD<|.rl a.CC<|.rl a.CB<|.rl a.CA<|.rl a.CH<|.rl a.CG<|.rl a.CF<|.rl a.C9<|.rl a.C8<|.rl a.C7<|.rl a.C6<|.rl a.C5<|.rl a.C4<|.rl a.sums<|.rl s.levels<|.nx {s with ri:=AA<|s.ri+1,CK:=a.CK,CJ:=a.CJ,CE:=a.CE,CD:=a.CD,CC:=a.CC,CB:=a.CB,CA:=a.CA,CH:=a.CH,CG:=a.CG,CF:=a.CF,C9:=a.C9,C8:=a.C8,C7:=a.C7,C6:=a.C6,C5:=a.C5,C4:=a.C4,sums:=a.sums})<|.rl s.CK<|.rl s.CJ<|.rl s.CE<|.rl s.CD<|.rl s.CC<|.rl s.CB<|.rl s.CA<|.rl s.CH<|.rl s.CG<|.rl s.CF<|.rl s.C9<|.rl s.C8<|.rl s.C7<|.rl s.C6<|.rl s.C5<|.rl s.C4<|.rl s.sums<|.rl s.levels<|.so (.exit 0) s
def FT (s:Dy):List (List Int):=[s.CK,s.CJ,s.CE,s.CD,s.CC,s.CB,s.CA,s.CH,s.CG,s.CF,s.C9,s.C8,s.C7,s.C6,s.C5,s.C4]
def Tm (s:Dy):Prop:=s.ri=0/\(∀o∈FT s,o=[])/\s.sums=aq (M s.rows) 0/\s.rn=(M s.rows:Int)/\s.rn<=1000/\(∀r∈s.rows,(M r.2:Int)<=1000/\∀m∈r.2,0<=m/\m<16/\m<(M s.alive:Int))/\(∀a∈s.alive,0<=a/\a<=80)/\M s.sums=M s.rows
def Mb (s:Dy):Prop:=(0<=s.ri/\s.ri<=s.rn)/\(∀o∈FT s,(M o:Int)<=1000*s.ri)/\(∀k:Nat,s.ri<=(k:Int)->s.sums.getD k 0=0)/\s.rn=(M s.rows:Int)/\s.rn<=1000/\(∀r∈s.rows,(M r.2:Int)<=1000/\∀m∈r.2,0<=m/\m<16/\m<(M s.alive:Int))/\(∀a∈s.alive,0<=a/\a<=80)/\M s.sums=M s.rows
def TJ (s:Dy):Nat:=(s.rn-s.ri).toNat
def iE (x:Ex) (s s':Dy):Prop:=x=.exit 0/\s'.ri=s'.rn
theorem ajE:∀s,Tm s->Mb s:=by
 rintro s ⟨h0,h1,h2,h3⟩
 refine ⟨A0,λo ho=>A8,λk _=>?_,h3⟩
 grind
def aPt (s:Dy) (hI:Mb s) (c1:s.ri<s.rn):Xm (ME s):=by
 obtain ⟨⟨h0,h1⟩,h2,h3,h4,h5,h6,h7,h8⟩:=hI
 have hr:=h6 (Cb s.rows s.ri) yA
 refine ⟨rfl,λo ho=>?_,?_,rfl,hr.1,hr.2,h7,h0,?_⟩
 ·have:=h2 o ho
  omega
 ·have:=h3 s.ri.toNat A0
  show 0<=s.sums.getD s.ri.toNat 0/\s.sums.getD s.ri.toNat 0<=1000
  omega
 ·show s.ri<(M s.sums:Int)
  omega
theorem aPs (s s':Dy) (hI:Mb s) (c1:s.ri<s.rn) (hO:FT s'=GW (GH<|ME s)) (hs:s'.sums=(GH<|ME s).sums) (hk:s'.ri=AA (s.ri+1)) (hn:s'.rn=s.rn) (hl:s'.rows=s.rows) (ha:s'.alive=s.alive):
  (Mb s'/\TJ s'<TJ s)/\(λs:Dy=>(H3 (FT s) s.ri<|s.rows.drop s.ri.toNat,H0 s.alive s.sums s.ri<|s.rows.drop s.ri.toNat)) s'=(λs:Dy=>(H3 (FT s) s.ri<|s.rows.drop s.ri.toNat,H0 s.alive s.sums s.ri<|s.rows.drop s.ri.toNat)) s:=by
 obtain ⟨r1,r2⟩:=aqa _<|aPt s hI c1;obtain ⟨⟨h0,h1⟩,h2,h3,h4,h5,h6,h7,h8⟩:=hI
 have hr:=h6 (Cb s.rows s.ri) yA
 rw [AI (x:=s.ri+1)] at hk
 have r1:GW (GH<|ME s)=Lb s.ri (FT s) (Cb s.rows s.ri).2:=r1
 have r2:(GH<|ME s).sums=s.sums.set s.ri.toNat (s.sums.getD s.ri.toNat 0+smA s.alive (Cb s.rows s.ri).2):=r2
 refine ⟨⟨⟨⟨A0,A0⟩,λo ho=>?_,λk hk2=>?_,A8,A0,by rw [hl,ha];exact h6,by rw [ha];exact h7,A8⟩,by simp only [TJ];omega⟩,?_⟩
 ·rw [hO,r1] at ho
  have:=aGv h2 o ho
  have:=hr.1
  rw [hk];omega
 ·rw [hs,r2]
  have:=h3 k A0
  simp only [List.getD] at this|-;rw [ZO A0];exact this
 ·simp only
  rw [hO,hs,hl,ha,r1,r2,hk,(anr h0 (show s.ri<M s.rows by omega)).1]
  rfl
def aqY (s s':Dy) (hI:Mb s) (c1:s.ri<s.rn) (hO:FT s'=GW (GH<|ME s)) (hs:s'.sums=(GH<|ME s).sums) (hk:s'.ri=AA (s.ri+1)) (hn:s'.rn=s.rn) (hl:s'.rows=s.rows) (ha:s'.alive=s.alive):DK (λs'=>Mb s'/\TJ s'<TJ s) (λx s'=>iE x s s') (.next s'):=(aPs s s' hI c1 hO hs hk hn hl ha).1
def aqX (s s':Dy) (hI:Mb s) (c1:s.ri<s.rn) (hO:FT s'=GW (GH<|ME s)) (hs:s'.sums=(GH<|ME s).sums) (hk:s'.ri=AA (s.ri+1)) (hn:s'.rn=s.rn) (hl:s'.rows=s.rows) (ha:s'.alive=s.alive):DK (λs'=>(λs:Dy=>(H3 (FT s) s.ri<|s.rows.drop s.ri.toNat,H0 s.alive s.sums s.ri<|s.rows.drop s.ri.toNat)) s'=(λs:Dy=>(H3 (FT s) s.ri<|s.rows.drop s.ri.toNat,H0 s.alive s.sums s.ri<|s.rows.drop s.ri.toNat)) s) (λ_ s'=>(λs:Dy=>(H3 (FT s) s.ri<|s.rows.drop s.ri.toNat,H0 s.alive s.sums s.ri<|s.rows.drop s.ri.toNat)) s'=(λs:Dy=>(H3 (FT s) s.ri<|s.rows.drop s.ri.toNat,H0 s.alive s.sums s.ri<|s.rows.drop s.ri.toNat)) s) (.next s'):=(aPs s s' hI c1 hO hs hk hn hl ha).2
theorem aym:Da Mb TJ iE vD:=by
 intro s hI;refine AH (λc1=>?_) λc1=>?_
 ·exact aqY s _ hI A8 rfl rfl rfl rfl rfl rfl
 ·have c1:s.rn<=s.ri:=A8
  have h0:=hI.1
  exact V7
def PY:AR Dy:=⟨1,67,[2,7,23,24,25],[.ns 7 6 3 A7,.ns 7 7 3 A7,.ns 7 8 3 A7,.ns 7 9 3 A7,.ns 7 10 3 A7,.ns 7 11 3 A7,.ns 7 12 3 A7,.ns 7 13 3 A7,.ns 7 14 3 A7,.ns 7 15 3 A7,.ns 7 16 3 A7,.ns 7 17 3 A7,.ns 7 18 3 A7,.ns 7 19 3 A7,.ns 7 20 3 A7,.ns 7 21 3 A7],λs=>[.xl A7 s.alive,.own 1 0,.xl Ea s.rows,s.rn,s.ri],λs=>[⟨[s.Jz,s.K5,s.K4,s.K3,s.KF],28,.cl,X⟩,⟨[s.H5,s.H4,s.EH,s.B0,s.H6,.xl Ea s.BE,.os 2 1 0<|M s.CK,.os 3 1 0<|M s.CJ,.os 4 1 0<|M s.CE,.os 5 1 0<|M s.CD,.os 6 1 0<|M s.CC,.os 7 1 0<|M s.CB,.os 8 1 0<|M s.CA,.os 9 1 0<|M s.CH,.os 10 1 0<|M s.CG,.os 11 1 0<|M s.CF,.os 12 1 0<|M s.C9,.os 13 1 0<|M s.C8,.os 14 1 0<|M s.C7,.os 15 1 0<|M s.C6,.os 16 1 0<|M s.C5,.os 17 1 0<|M s.C4,.os 18 1 0<|M s.sums,.xl A7 s.BF,.os 19 1 0<|M s.levels],307,.cl,X⟩,bV 3 A7 s.CK,bV 3 A7 s.CJ,bV 3 A7 s.CE,bV 3 A7 s.CD,bV 3 A7 s.CC,bV 3 A7 s.CB,bV 3 A7 s.CA,bV 3 A7 s.CH,bV 3 A7 s.CG,bV 3 A7 s.CF,bV 3 A7 s.C9,bV 3 A7 s.C8,bV 3 A7 s.C7,bV 3 A7 s.C6,bV 3 A7 s.C5,bV 3 A7 s.C4,bV 3 A7 s.sums,bV 3 A7 s.levels],λv b=>⟨B4 A7 v 0,B4 Ea v 2,AK v 3,AK v 4,AF Ad b 0 0,AF .str b 0 1,AF Ah b 0 2,AF Ae b 0 3,AF Ai b 0 4,AF Ad b 1 0,AF .str b 1 1,AF Ah b 1 2,AF Ae b 1 3,AF Ai b 1 4,AF Ea b 1 5,AF A7 b 1 23,Ab A7 b 2,Ab A7 b 3,Ab A7 b 4,Ab A7 b 5,Ab A7 b 6,Ab A7 b 7,Ab A7 b 8,Ab A7 b 9,Ab A7 b 10,Ab A7 b 11,Ab A7 b 12,Ab A7 b 13,Ab A7 b 14,Ab A7 b 15,Ab A7 b 16,Ab A7 b 17,Ab A7 b 18,Ab A7 b 19⟩,vD,λs r=> {s with ri:=r.ri,CK:=r.CK,CJ:=r.CJ,CE:=r.CE,CD:=r.CD,CC:=r.CC,CB:=r.CB,CA:=r.CA,CH:=r.CH,CG:=r.CG,CF:=r.CF,C9:=r.C9,C8:=r.C8,C7:=r.C7,C6:=r.C6,C5:=r.C5,C4:=r.C4,sums:=r.sums},λs=>s,λ_ s=>s,[.exit 0],Tm,Mb,TJ⟩
abbrev IM:=PY.run
abbrev asz:=PY.Aq
theorem awc:Rq Mb vD:=by
 intro s hI;refine ⟨λc1=>⟨?_,A9,A9,A9,A9,A9,A9,A9,A9,A9,A9,A9,A9,A9,A9,A9,A9,A9,A9,?_,A9,A9,A9,A9,A9,A9,A9,A9,A9,A9,A9,A9,A9,A9,A9,A9,A9,A9,ak⟩,λc1=>⟨A9,A9,A9,A9,A9,A9,A9,A9,A9,A9,A9,A9,A9,A9,A9,A9,A9,A9,ak⟩⟩
 ·(obtain ⟨h0,h2,h3,h4,h5,h6,h7,h8⟩:=hI;simp only [Ac] at c1;omega)
 ·exact ⟨aPt s hI A8,rfl,rfl⟩
def rS:PY.Ok:={}
def sF:PY.Pf (iE):=⟨ajE,λs h=>rfl,aym,awc⟩
def cY:SA 1 aFF PY:=AR.snd rS sF (GJ (Γ:=QY) (K:=zt) (L:=(Ll (λi=>if i=6 then Ts.lp else Ag i))) (gk QY) zt.h aFF (λb hb=>by
 rw [show BA _=[aFG] by kernel_rfl] at hb
 simp only [B8,Bu,Bt] at hb;subst hb;exact aqA)) λs=>AT
def aqZ:Fi Tm Mb iE asz IM:=AR.fin rS sF
theorem anJ (s:Dy) (hE:Tm s):(λs:Dy=>(H3 (FT s) s.ri<|s.rows.drop s.ri.toNat,H0 s.alive s.sums s.ri<|s.rows.drop s.ri.toNat)) (IM s)=(λs:Dy=>(H3 (FT s) s.ri<|s.rows.drop s.ri.toNat,H0 s.alive s.sums s.ri<|s.rows.drop s.ri.toNat)) s:=by
 exact AR.KJ rS sF (λs:Dy=>(H3 (FT s) s.ri<|s.rows.drop s.ri.toNat,H0 s.alive s.sums s.ri<|s.rows.drop s.ri.toNat)) (λs hI=>by
  refine AH (λc1=>?_) λc1=>?_
  ·exact aqX s _ hI A8 rfl rfl rfl rfl rfl rfl
  ·rfl) s hE
def aqW (s:Dy) (hE:Tm s):FT (IM s)=H3 (FT s) 0 s.rows/\(IM s).sums=H0 s.alive s.sums 0 s.rows:=by
 have q3:=anJ s hE
 obtain ⟨s',hI,q1,q2⟩:=aqZ s hE;obtain ⟨h0,h1,h2,h3,h4,h5⟩:=hE
 have el:(IM s).rows=s.rows:=rfl
 have en:(IM s).rn=s.rn:=rfl
 have ea:(IM s).alive=s.alive:=rfl
 simp only at q3;rw [q2,en,el,ea,Ef A0,h0] at q3;exact ⟨B1 Prod.fst q3,B1 Prod.snd q3⟩
structure Mn where
 r:Bool
 l:List Int
 (n i:Int)
 Jz:List Cd
 K5:List ByteArray
 K4:List Ko
 K3:List Ch
 KF:List Ba
 H5:List Cd
 H4:List ByteArray
 EH:List Ko
 B0:List Ch
 H6:List Ba
 BE:List Rw
 (CK CJ CE CD CC CB CA CH CG CF C9 C8 C7 C6 C5 C4 BF sums levels:List Int)
 ah9:ByteArray
 (amv ao5 al5 al6 ahr afE atd more:Int)
def fj (s:Mn):T (Rd Mn):=letI a:=gi s.l s.i;.br (an<|s.i<s.n) (.ix s.i (M s.l)<|.ik a (M s.sums)<|.ix a (M s.BE)<|.br (!(an<|(AA<|(s.sums.getD a.toNat<|Ty.dflt A7)+s.more)<=(Cb s.BE a).1)) (.rl s.sums<|.rl s.levels<|.so (.ret) {s with r:=X})<|.rl s.sums<|.rl s.levels<|.nx {s with i:=AA<|s.i+1})<|.rl s.sums<|.rl s.levels<|.so (.exit 0) s
def Tc (s:Mn) (j:Int):Bool:=KY s.BE s.sums s.more<|gi s.l j
def Yo (s:Mn):Prop:=s.i=0/\0<=s.n/\s.n<=1000/\s.n=(M s.l:Int)/\(∀r∈s.l,0<=r/\r<(M s.BE:Int))/\M s.sums=M s.BE/\(∀k:Nat,0<=s.sums.getD k 0/\s.sums.getD k 0<=2000)/\(0<=s.more/\s.more<=10000)
def Y3 (s:Mn):Prop:=0<=s.i/\s.i<=s.n/\s.n<=1000/\(s.n=(M s.l:Int)/\(∀r∈s.l,0<=r/\r<(M s.BE:Int))/\M s.sums=M s.BE/\(∀k:Nat,0<=s.sums.getD k 0/\s.sums.getD k 0<=2000)/\(0<=s.more/\s.more<=10000))/\∀j:Nat,(j:Int)<s.i->Tc s j=U
def sd (s:Mn):Nat:=(s.n-s.i).toNat
def aAE (x:Ex) (s s':Mn):Prop:=(x=.exit 0/\∀j:Nat,(j:Int)<s'.n->Tc s' j=U)\/(x=.ret/\s'.r=X/\∃j:Nat,(j:Int)<s'.n/\Tc s' j=X)
def al9:∀s,Yo s->Y3 s:=by
 exact JH
theorem agP:Da Y3 sd aAE fj:=by
 intro s hI;unfold fj;obtain ⟨h0,h1,h2,h3,h4⟩:=hI;refine AH (λc1=>AH (λc2=>?_) λc2=>?_) λc1=>?_
 ·have c1:s.i<s.n:=AX
  refine .inr ⟨rfl,rfl,s.i.toNat,AZ,?_⟩
  have hg:Tc s s.i=false:=aME
  exact hg
 ·have c1:s.i<s.n:=AX
  have hg:Tc s s.i=true:=aME
  rw [AI (x:=s.i+1)];refine ⟨⟨AZ,AZ,h2,h3,λj hj=>?_⟩,by simp only [sd];omega⟩
  exact L3
 ·exact Sg
def Yy:AR Mn:=⟨7,18,[1,4,7,8,9],[],λs=>[.fn 216 [.own 4 0,.own 6 0],s.r,.xl A7 s.l,s.n,s.i],λs=>[⟨[s.Jz,s.K5,s.K4,s.K3,s.KF],28,.cl,X⟩,⟨[s.H5,s.H4,s.EH,s.B0,s.H6,.xl Ea s.BE,.xl A7 s.CK,.xl A7 s.CJ,.xl A7 s.CE,.xl A7 s.CD,.xl A7 s.CC,.xl A7 s.CB,.xl A7 s.CA,.xl A7 s.CH,.xl A7 s.CG,.xl A7 s.CF,.xl A7 s.C9,.xl A7 s.C8,.xl A7 s.C7,.xl A7 s.C6,.xl A7 s.C5,.xl A7 s.C4,.os 2 1 0<|M s.sums,.xl A7 s.BF,.os 3 1 0<|M s.levels],307,.cl,X⟩,bV 3 A7 s.sums,bV 3 A7 s.levels,⟨[.own 1 0],303,.cl,X⟩,⟨[.v<|.string s.ah9,s.amv,s.ao5,s.al5,s.al6,s.ahr,s.afE,s.atd],90,.cl,X⟩,⟨[s.more],3,.cl,X⟩],λv b=>⟨E4 v 1,B4 A7 v 2,AK v 3,AK v 4,AF Ad b 0 0,AF .str b 0 1,AF Ah b 0 2,AF Ae b 0 3,AF Ai b 0 4,AF Ad b 1 0,AF .str b 1 1,AF Ah b 1 2,AF Ae b 1 3,AF Ai b 1 4,AF Ea b 1 5,AF A7 b 1 6,AF A7 b 1 7,AF A7 b 1 8,AF A7 b 1 9,AF A7 b 1 10,AF A7 b 1 11,AF A7 b 1 12,AF A7 b 1 13,AF A7 b 1 14,AF A7 b 1 15,AF A7 b 1 16,AF A7 b 1 17,AF A7 b 1 18,AF A7 b 1 19,AF A7 b 1 20,AF A7 b 1 21,AF A7 b 1 23,Ab A7 b 2,Ab A7 b 3,gSr<|BB (CU b 5) 0,Aj b 5 1,Aj b 5 2,Aj b 5 3,Aj b 5 4,Aj b 5 5,Aj b 5 6,Aj b 5 7,Aj b 6 0⟩,fj,λs r=> {s with r:=r.r,i:=r.i},λs=>s,λ_ s=>s,[.ret,.exit 0],Yo,Y3,sd⟩
abbrev dD:=Yy.run
abbrev dc:=Yy.Aq
def U7:List Bd:=[WM,Wo,Wn,Wp]
def akS:Ax:=kI U7<|la 3 func182 cY<|la 2 func180 WE<|l0 U7
def axl:Rq Y3 fj:=by
 intro s hI;refine ⟨λc1=>⟨?_,?_,?_,?_,λc2=>⟨A9,A9,ak⟩,λc2=>⟨A9,A9,ak⟩⟩,λc1=>⟨A9,A9,ak⟩⟩
 all_goals ((obtain ⟨h0,h1,h2,⟨e0,e1,e2,e3,e4⟩,h4⟩:=hI;simp only [Ac] at c1;have hm:=e1 (gi s.l s.i)<|KI A0 A0;omega))
def aPx:Yy.Ok:={}
def aOS:Yy.Pf (aAE):=⟨al9,λs h=>rfl,agP,axl⟩
def oQ:=s2 (b:=bN f180 0) aPx aOS U7 akS
def asa:Fi Yo Y3 aAE dc dD:=AR.fin aPx aOS
def bu (s:Mn) (hE:Yo s):(dc s=.exit 0/\s.l.all (KY s.BE s.sums s.more)=U)\/(dc s=.ret/\(dD s).r=X/\s.l.all (KY s.BE s.sums s.more)=X):=by
 obtain ⟨s',hI,hq⟩:=asa s hE;obtain ⟨h0,h1,h2,h3,_⟩:=hE
 have en:(dD s).n=s.n:=rfl
 rcases hq with ⟨q1,q2⟩ |⟨q1,q2,j,q3,q4⟩
 ·exact .inl ⟨q1,(QK (d:=(0:Int))).1 λj hj=>q2 j A0⟩
 ·exact aKg
structure Jj where
 (charger level:Int)
 l:List Int
 (n i:Int)
 Jz:List Cd
 K5:List ByteArray
 K4:List Ko
 K3:List Ch
 KF:List Ba
 H5:List Cd
 H4:List ByteArray
 EH:List Ko
 B0:List Ch
 H6:List Ba
 BE:List Rw
 (CK CJ CE CD CC CB CA CH CG CF C9 C8 C7 C6 C5 C4 BF sums levels:List Int)
 more:Int
def aBN (s:Jj):T (Rd Jj):=letI b:=gi s.l s.i;letI c:=M s.sums;letI a:=s.sums.set b.toNat<|AA<|(s.sums.getD b.toNat<|Ty.dflt A7)+s.more;.br (an<|s.i<s.n) (.ix s.i (M s.l)<|.ik b c<|.ik b c<|.re c a<|.rl s.levels<|.nx {s with i:=AA<|s.i+1,sums:=a})<|.rl s.sums<|.rl s.levels<|.so (.exit 0) s
def Us (s:Jj):Prop:=s.i=0/\(∀k:Nat,0<=s.sums.getD k 0/\s.sums.getD k 0<=2000)/\s.n=(M s.l:Int)/\s.n<=1000/\(∀r∈s.l,0<=r/\r<(M s.sums:Int))/\(0<=s.more/\s.more<=10000)
def bL (s:Jj):Prop:=(0<=s.i/\s.i<=s.n)/\(∀k:Nat,0<=s.sums.getD k 0/\s.sums.getD k 0<=2000+10000*s.i)/\s.n=(M s.l:Int)/\s.n<=1000/\(∀r∈s.l,0<=r/\r<(M s.sums:Int))/\(0<=s.more/\s.more<=10000)
def zd (s:Jj):Nat:=(s.n-s.i).toNat
def wP (x:Ex) (s s':Jj):Prop:=x=.exit 0/\s'.i=s'.n
theorem amM:∀s,Us s->bL s:=by
 rintro s ⟨h0,h1,h2,h3⟩
 exact ⟨A0,λk=>A8,h2,h3⟩
theorem aim:Da bL zd wP aBN:=by
 intro s hI;obtain ⟨⟨h0,h1⟩,h2,h3,h4,h5,h6⟩:=hI;refine AH (λc1=>?_) λc1=>?_
 ·have c1:s.i<s.n:=AX
  have hb:=h2 (gi s.l s.i).toNat
  rw [AI (x:=s.i+1),AI (x:=s.sums.getD (gi s.l s.i).toNat (Ty.dflt A7)+s.more) aMl aMm];refine ⟨⟨⟨A8,A8⟩,λk=>?_,h3,h4,λr hr=>A8,h6⟩,by simp only [zd];omega⟩
  simp only
  have hk:=h2 k
  rw [T1];split
  ·show 0<=s.sums.getD (gi s.l s.i).toNat 0+s.more/\s.sums.getD (gi s.l s.i).toNat 0+s.more<=_
   omega
  ·omega
 ·exact Sb
def Ut:AR Jj:=⟨4,90,[1,2,6,7,66,67,68],[],λs=>[s.charger,.own 4 0,s.level,.own 5 0,.xl A7 s.l,s.n,s.i],λs=>[⟨[s.Jz,s.K5,s.K4,s.K3,s.KF],28,.cl,X⟩,⟨[s.H5,s.H4,s.EH,s.B0,s.H6,.xl Ea s.BE,.xl A7 s.CK,.xl A7 s.CJ,.xl A7 s.CE,.xl A7 s.CD,.xl A7 s.CC,.xl A7 s.CB,.xl A7 s.CA,.xl A7 s.CH,.xl A7 s.CG,.xl A7 s.CF,.xl A7 s.C9,.xl A7 s.C8,.xl A7 s.C7,.xl A7 s.C6,.xl A7 s.C5,.xl A7 s.C4,.os 2 1 0<|M s.sums,.xl A7 s.BF,.os 3 1 0<|M s.levels],307,.cl,X⟩,bV 3 A7 s.sums,bV 3 A7 s.levels,⟨[.own 1 0],303,.cl,X⟩,⟨[s.more],3,.cl,X⟩],λv b=>⟨AK v 0,AK v 2,B4 A7 v 4,AK v 5,AK v 6,AF Ad b 0 0,AF .str b 0 1,AF Ah b 0 2,AF Ae b 0 3,AF Ai b 0 4,AF Ad b 1 0,AF .str b 1 1,AF Ah b 1 2,AF Ae b 1 3,AF Ai b 1 4,AF Ea b 1 5,AF A7 b 1 6,AF A7 b 1 7,AF A7 b 1 8,AF A7 b 1 9,AF A7 b 1 10,AF A7 b 1 11,AF A7 b 1 12,AF A7 b 1 13,AF A7 b 1 14,AF A7 b 1 15,AF A7 b 1 16,AF A7 b 1 17,AF A7 b 1 18,AF A7 b 1 19,AF A7 b 1 20,AF A7 b 1 21,AF A7 b 1 23,Ab A7 b 2,Ab A7 b 3,Aj b 5 0⟩,aBN,λs r=> {s with i:=r.i,sums:=r.sums},λs=>s,λ_ s=>s,[.exit 0],Us,bL,zd⟩
abbrev Oe:=Ut.run
abbrev agG:=Ut.Aq
def akR:Ax:=kI U7<|la 2 func180 oQ<|la 3 func182 cY<|la 2 func180 WE<|l0 U7
def aiU:Rq bL aBN:=by
 intro s hI;refine ⟨λc1=>⟨?_,?_,?_,?_,?_,?_,A9,ak⟩,λc1=>⟨A9,A9,ak⟩⟩
 all_goals ((obtain ⟨⟨h0,h1⟩,h2,h3,h4,h5,h6⟩:=hI;(try simp only [Ac] at c1);first|(have hm:=h5 (gi s.l s.i)<|KI A0 A0;omega) |exact ⟨rfl,AJ⟩ |exact ⟨rfl,rfl⟩))
def zM:Ut.Ok:={}
def zL:Ut.Pf (wP):=⟨amM,λs h=>rfl,aim,aiU⟩
def qk:=s2 (b:=bN f184 0) zM zL U7 akR
def awp:Fi Us bL wP agG Oe:=AR.fin zM zL
theorem aqi (s:Jj) (hE:Us s):(λs:Jj=>Kc s.sums s.more<|s.l.drop s.i.toNat) (Oe s)=(λs:Jj=>Kc s.sums s.more<|s.l.drop s.i.toNat) s:=by
 exact AR.KJ zM zL (λs:Jj=>Kc s.sums s.more<|s.l.drop s.i.toNat) (λs hI=>by
  obtain ⟨⟨h0,h1⟩,h2,h3,h4,h5,h6⟩:=hI;refine AH (λc1=>?_) λc1=>rfl
  have c1:s.i<s.n:=A8
  have hb:=h2 (gi s.l s.i).toNat
  rw [AI (x:=s.i+1),AI (x:=s.sums.getD (gi s.l s.i).toNat (Ty.dflt A7)+s.more) aMl aMm];rw [(gi_step h0 (show s.i<M s.l by omega)).1]
  rfl) s hE
def aOI (s:Jj) (hE:Us s):(Oe s).sums=Kc s.sums s.more s.l:=by
 have q3:=aqi s hE
 obtain ⟨s',hI,q1,q2⟩:=awp s hE;obtain ⟨h0,h1,h2,h3⟩:=hE;simp only at q3;rw [q2,show (Oe s).n=s.n from rfl,show (Oe s).l=s.l from rfl,show (Oe s).more=s.more from rfl,Ef A0,h0] at q3;exact q3
structure Cw where
 (most order:List Int)
 (n level:Int)
 some:Bool
 l:List Int
 (m k:Int)
 B9:List Cd
 BV:List ByteArray
 Bz:List Ko
 B5:List Ch
 C0:List Ba
 H5:List Cd
 H4:List ByteArray
 EH:List Ko
 B0:List Ch
 H6:List Ba
 BE:List Rw
 (CK CJ CE CD CC CB CA CH CG CF C9 C8 C7 C6 C5 C4 BF sums levels:List Int)
def aF3:=lN (bN f141 0) 0
def T8 (s:Cw):Mn:=letI c:=gi s.l s.k;letI d:=gi s.BF c;letI a:=AG s.B0 c;letI b:=AA<|(s.levels.getD c.toNat<|Ty.dflt A7)+1;(⟨X,([s.CK,s.CJ,s.CE,s.CD,s.CC,s.CB,s.CA,s.CH,s.CG,s.CF,s.C9,s.C8,s.C7,s.C6,s.C5,s.C4]:List<|List Int).getD c.toNat [],(M (([s.CK,s.CJ,s.CE,s.CD,s.CC,s.CB,s.CA,s.CH,s.CG,s.CF,s.C9,s.C8,s.C7,s.C6,s.C5,s.C4]:List<|List Int).getD c.toNat []):Int),0,s.B9,s.BV,s.Bz,s.B5,s.C0,s.H5,s.H4,s.EH,s.B0,s.H6,s.BE,s.CK,s.CJ,s.CE,s.CD,s.CC,s.CB,s.CA,s.CH,s.CG,s.CF,s.C9,s.C8,s.C7,s.C6,s.C5,s.C4,s.BF,s.sums,s.levels,a.1,a.2.1,a.2.2.1,a.2.2.2.1,a.2.2.2.2.1,a.2.2.2.2.2.1,a.2.2.2.2.2.2.1,a.2.2.2.2.2.2.2,AA<|(if d<(Dq a.2.2.2.1 a.2.2.2.2.2.1 b) then Dq a.2.2.2.1 a.2.2.2.2.2.1 b else d)-(if d<(Dq a.2.2.2.1 a.2.2.2.2.2.1<|AA<|b-1) then Dq a.2.2.2.1 a.2.2.2.2.2.1 (AA<|b-1) else d)⟩:Mn)
def Sq (s:Cw):Jj:=letI b:=gi s.l s.k;letI c:=AG s.B0 b;letI d:=gi s.BF b;letI a:=AA<|(s.levels.getD b.toNat<|Ty.dflt A7)+1;(⟨b,a,([s.CK,s.CJ,s.CE,s.CD,s.CC,s.CB,s.CA,s.CH,s.CG,s.CF,s.C9,s.C8,s.C7,s.C6,s.C5,s.C4]:List<|List Int).getD b.toNat [],(M (([s.CK,s.CJ,s.CE,s.CD,s.CC,s.CB,s.CA,s.CH,s.CG,s.CF,s.C9,s.C8,s.C7,s.C6,s.C5,s.C4]:List<|List Int).getD b.toNat []):Int),0,s.B9,s.BV,s.Bz,s.B5,s.C0,s.H5,s.H4,s.EH,s.B0,s.H6,s.BE,s.CK,s.CJ,s.CE,s.CD,s.CC,s.CB,s.CA,s.CH,s.CG,s.CF,s.C9,s.C8,s.C7,s.C6,s.C5,s.C4,s.BF,s.sums,s.levels,AA<|(if d<(Dq c.2.2.2.1 c.2.2.2.2.2.1 a) then Dq c.2.2.2.1 c.2.2.2.2.2.1 a else d)-(if d<(Dq c.2.2.2.1 c.2.2.2.2.2.1<|AA<|a-1) then Dq c.2.2.2.1 c.2.2.2.2.2.1 (AA<|a-1) else d)⟩:Jj)
def Tk (s:Cw):T (Rd Cw):=letI b:=gi s.l s.k;letI d:=M s.levels;letI e:=AA<|s.k+1;letI f:=AG s.B0 b;letI g:=Oe<|Sq s;letI h:=s.levels.getD b.toNat<|Ty.dflt A7;letI c:=AA<|h+1;letI a:=s.levels.set b.toNat c;.br (an<|s.k<s.m) (.ix s.k (M s.l)<|.ik b d<|.br (h !=(AA<|s.level-1)) (.rl s.sums<|.rl s.levels<|.nx {s with k:=e})<|.ix b (M s.B5)<|.ix b (M s.most)<|.req ((gi s.most b)<=9223372036854775807)<|.br (an<|(HC (AG s.B5 b).2.2.2.1 (AG s.B5 b).2.2.2.2.1 (AG s.B5 b).2.2.2.2.2.1<|gi s.most b)<s.level) (.rl s.sums<|.rl s.levels<|.nx {s with k:=e})<|.ix b (M s.B0)<|.ik b d<|.ix b (M s.BF)<|.req ((1<=f.2.2.2.1/\f.2.2.2.1<=80/\1<=f.2.2.2.2.2.1/\f.2.2.2.2.2.1<=80)/\0<=c/\c<=1000)<|.ix b (M s.BF)<|.req ((1<=f.2.2.2.1/\f.2.2.2.1<=80/\1<=f.2.2.2.2.2.1/\f.2.2.2.2.2.1<=80)/\0<=(AA<|c-1)/\(AA<|c-1)<=1000)<|.req (0<=b/\b<(16:Int))<|.rl s.sums<|.rl s.levels<|.req (Yy.q<|T8 s)<|.br (Bj (dc<|T8 s)<|.ret) (.br (!(dD<|T8 s).r) (.br X (.rl s.sums<|.rl s.levels<|.nx {s with some:=U,k:=e})<|.rl s.sums<|.rl s.levels<|.nx {s with k:=e})<|.req (0<=b/\b<(16:Int))<|.rl s.sums<|.rl s.levels<|.req (Ut.q<|Sq s)<|.ik b d<|.br U (.rl g.sums<|.re d a<|.nx {s with some:=U,k:=e,sums:=g.sums,levels:=a})<|.rl g.sums<|.re d a<|.nx {s with k:=e,sums:=g.sums,levels:=a})<|.br (!U) (.br X (.rl s.sums<|.rl s.levels<|.nx {s with some:=U,k:=e})<|.rl s.sums<|.rl s.levels<|.nx {s with k:=e})<|.req (0<=b/\b<(16:Int))<|.rl s.sums<|.rl s.levels<|.req (Ut.q<|Sq s)<|.ik b d<|.br U (.rl g.sums<|.re d a<|.nx {s with some:=U,k:=e,sums:=g.sums,levels:=a})<|.rl g.sums<|.re d a<|.nx {s with k:=e,sums:=g.sums,levels:=a})<|.rl s.sums<|.rl s.levels<|.so (.exit 2) s
def D3 (s:Cw):List (List Int):=[s.CK,s.CJ,s.CE,s.CD,s.CC,s.CB,s.CA,s.CH,s.CG,s.CF,s.C9,s.C8,s.C7,s.C6,s.C5,s.C4]
def U3 (s:Cw):Prop:=s.k=0/\(s.m=(M s.l:Int)/\s.m<=1000/\1<=s.level/\s.level<=81)/\s.B0=s.B5/\OkT (D3 s) s.BE s.B0 s.BF s.most s.l/\OkS s.BE s.l s.sums s.levels
def Ha (s:Cw):Prop:=(0<=s.k/\s.k<=s.m)/\(s.m=(M s.l:Int)/\s.m<=1000/\1<=s.level/\s.level<=81)/\s.B0=s.B5/\OkT (D3 s) s.BE s.B0 s.BF s.most s.l/\OkS s.BE s.l s.sums s.levels
def TM (s:Cw):Nat:=(s.m-s.k).toNat
def iC (x:Ex) (s s':Cw):Prop:=x=.exit 2/\s'.k=s'.m
def aid:∀s,U3 s->Ha s:=by
 exact kz
theorem QR (s:Cw) (hI:Ha s) (c1:s.k<s.m):letI a:=gi s.l s.k;gi s.l s.k∈s.l/\(0<=gi s.l s.k/\gi s.l s.k<16)/\gi s.l s.k<(M s.B0:Int)/\gi s.l s.k<(M s.B5:Int)/\gi s.l s.k<(M s.BF:Int)/\gi s.l s.k<(M s.most:Int)/\gi s.l s.k<(M s.levels:Int)/\(0<=gi s.most a/\gi s.most a<=80)/\(0<=gi s.BF a/\gi s.BF a<=80):=by
 obtain ⟨⟨h0,h1⟩,⟨h2,h3,h4,h5⟩,h6,hT,hS⟩:=hI
 have hm:gi s.l s.k∈s.l:=KI h0 A0
 obtain ⟨o1,o2,o3,o4⟩:=hT.ord _ hm;exact ⟨hm,o1,o2,A8,o3,o4,hS.EX _ hm,hT.mo _<|KI o1.1 o4,hT.al _<|KI o1.1 o3⟩
theorem QQ {s:Cw}(hI:Ha s) (c2:((s.levels.getD (gi s.l s.k).toNat<|Ty.dflt A7) !=(AA<|s.level-1))=X):s.levels.getD (gi s.l s.k).toNat 0=s.level-1:=by
 obtain ⟨_,⟨h2,h3,h4,h5⟩,_⟩:=hI
 have c2:((s.levels.getD (gi s.l s.k).toNat 0) !=(AA<|s.level-1))=false:=c2
 rw [AI (x:=s.level-1)] at c2
 grind
def fW {s:Cw}(hI:Ha s) (c2:s.levels.getD (gi s.l s.k).toNat 0=s.level-1):letI a:=(s.levels.getD (gi s.l s.k).toNat<|Ty.dflt A7)+1;AA a=s.level/\AA ((AA a)-1)=s.level-1:=by
 obtain ⟨_,⟨h2,h3,h4,h5⟩,_⟩:=hI
 have e:AA ((s.levels.getD (gi s.l s.k).toNat<|Ty.dflt A7)+1)=s.level:=by
  have:(s.levels.getD (gi s.l s.k).toNat<|Ty.dflt A7)=s.level-1:=c2
  rw [this,AI (x:=s.level-1+1)];omega
 refine ⟨e,?_⟩;rw [e,AI]
def Vx {s:Cw}(hI:Ha s) (c1:s.k<s.m) (c2:s.levels.getD (gi s.l s.k).toNat 0=s.level-1):letI a:=gi s.l s.k;(T8 s).more=Fg s.B0 s.BF a s.level/\(Sq s).more=Fg s.B0 s.BF a s.level/\0<=Fg s.B0 s.BF a s.level/\Fg s.B0 s.BF a s.level<=10000:=by
 have hx:=QR s hI c1
 obtain ⟨w1,w2⟩:=fW hI c2;obtain ⟨_,⟨h2,h3,h4,h5⟩,h6,hT,hS⟩:=hI
 have hb:=aQj (gs:=s.B0) (alive:=s.BF) (k:=s.level) (hT.has _ hx.1) hx.2.2.2.2.2.2.2.2 h4 h5
 have e:(T8 s).more=Fg s.B0 s.BF (gi s.l s.k) s.level:=by
  unfold T8;simp only [w2];simp only [w1]
  show AA (Fg s.B0 s.BF (gi s.l s.k) s.level)=_
  rw [AI]
 exact ⟨e,e,hb⟩
theorem aap {s:Cw}(hI:Ha s) (c1:s.k<s.m):((D3 s).getD (gi s.l s.k).toNat []).Nodup/\(M ((D3 s).getD (gi s.l s.k).toNat []):Int)<=1000/\∀r∈(D3 s).getD (gi s.l s.k).toNat [],0<=r/\r<(M s.BE:Int):=by
 have hx:=QR s hI c1
 obtain ⟨_,_,_,hT,_⟩:=hI;refine hT.row _ ?_
 have hl:=hT.ol
 grind
theorem W0 {s:Cw}(hI:Ha s) (c1:s.k<s.m) (c2:s.levels.getD (gi s.l s.k).toNat 0=s.level-1):Yo (T8 s):=by
 obtain ⟨m1,m2,m3⟩:=Vx hI c1 c2;obtain ⟨o1,o2,o3⟩:=aap hI c1;obtain ⟨_,_,_,hT,hS⟩:=hI;exact ⟨rfl,Po _,o2,rfl,o3,hS.len,hS.bd,A8⟩
theorem pw {s:Cw}(hI:Ha s) (c1:s.k<s.m) (c2:s.levels.getD (gi s.l s.k).toNat 0=s.level-1):Us (Sq s):=by
 obtain ⟨m1,m2,m3⟩:=Vx hI c1 c2;obtain ⟨o1,o2,o3⟩:=aap hI c1;obtain ⟨_,_,_,hT,hS⟩:=hI;refine ⟨rfl,hS.bd,rfl,o2,λr hr=>?_,A8⟩
 have:=o3 r hr
 have hl:=hS.len
 show 0<=r/\r<(M s.sums:Int)
 omega
theorem aOA (s s':Cw) (hI:Ha s) (c1:s.k<s.m) (ht:(s'.sums,s'.levels,s'.some)=Fc (D3 s) s.BE s.B0 s.BF s.most s.level (s.sums,s.levels,s.some) (gi s.l s.k)) (hk:s'.k=AA (s.k+1))
  (h_m:s'.m=s.m) (h_l:s'.l=s.l) (h_v:s'.level=s.level) (h_g:s'.B0=s.B0) (h_c:s'.B5=s.B5) (h_r:s'.BE=s.BE) (h_a:s'.BF=s.BF) (h_w:s'.most=s.most) (h_O:D3 s'=D3 s):
  (Ha s'/\TM s'<TM s)/\(λs:Cw=>swp (D3 s) s.BE s.B0 s.BF s.most s.level (s.sums,s.levels,s.some)<|s.l.drop s.k.toNat) s'=(λs:Cw=>swp (D3 s) s.BE s.B0 s.BF s.most s.level (s.sums,s.levels,s.some)<|s.l.drop s.k.toNat) s:=by
 have hx:=QR s hI c1
 obtain ⟨⟨h0,h1⟩,⟨h2,h3,h4,h5⟩,h6,hT,hS⟩:=hI;rw [AI (x:=s.k+1)] at hk
 have e1:s'.sums=(Fc (D3 s) s.BE s.B0 s.BF s.most s.level (s.sums,s.levels,s.some)<|gi s.l s.k).1:=B1 (·.1) ht
 have e2:s'.levels=(Fc (D3 s) s.BE s.B0 s.BF s.most s.level (s.sums,s.levels,s.some)<|gi s.l s.k).2.1:=B1 (·.2.1) ht
 refine ⟨⟨⟨⟨A0,A0⟩,⟨A8,A0,A0,A0⟩,A8,A8,?_⟩,by simp only [TM];omega⟩,?_⟩
 ·rw [h_r,h_l,e1,e2]
  exact aOJ hT hS hx.1 h4 h5
 ·simp only
  rw [h_O,h_r,h_g,h_a,h_w,h_v,h_l,ht,hk,(gi_step h0 (show s.k<M s.l by omega)).1]
  rfl
def aCm (s s':Cw) (hI:Ha s) (c1:s.k<s.m) (ht:(s'.sums,s'.levels,s'.some)=Fc (D3 s) s.BE s.B0 s.BF s.most s.level (s.sums,s.levels,s.some) (gi s.l s.k)) (hk:s'.k=AA (s.k+1))
  (h_m:s'.m=s.m) (h_l:s'.l=s.l) (h_v:s'.level=s.level) (h_g:s'.B0=s.B0) (h_c:s'.B5=s.B5) (h_r:s'.BE=s.BE) (h_a:s'.BF=s.BF) (h_w:s'.most=s.most) (h_O:D3 s'=D3 s):DK (λs'=>Ha s'/\TM s'<TM s) (λx s'=>iC x s s') (.next s'):=(aOA s s' hI c1 ht hk h_m h_l h_v h_g h_c h_r h_a h_w h_O).1
def aCl (s s':Cw) (hI:Ha s) (c1:s.k<s.m) (ht:(s'.sums,s'.levels,s'.some)=Fc (D3 s) s.BE s.B0 s.BF s.most s.level (s.sums,s.levels,s.some) (gi s.l s.k)) (hk:s'.k=AA (s.k+1))
  (h_m:s'.m=s.m) (h_l:s'.l=s.l) (h_v:s'.level=s.level) (h_g:s'.B0=s.B0) (h_c:s'.B5=s.B5) (h_r:s'.BE=s.BE) (h_a:s'.BF=s.BF) (h_w:s'.most=s.most) (h_O:D3 s'=D3 s):DK (λs'=>(λs:Cw=>swp (D3 s) s.BE s.B0 s.BF s.most s.level (s.sums,s.levels,s.some)<|s.l.drop s.k.toNat) s'=(λs:Cw=>swp (D3 s) s.BE s.B0 s.BF s.most s.level (s.sums,s.levels,s.some)<|s.l.drop s.k.toNat) s) (λ_ s'=>(λs:Cw=>swp (D3 s) s.BE s.B0 s.BF s.most s.level (s.sums,s.levels,s.some)<|s.l.drop s.k.toNat) s'=(λs:Cw=>swp (D3 s) s.BE s.B0 s.BF s.most s.level (s.sums,s.levels,s.some)<|s.l.drop s.k.toNat) s) (.next s'):=(aOA s s' hI c1 ht hk h_m h_l h_v h_g h_c h_r h_a h_w h_O).2
def awg:Da Ha TM iC Tk:=by
 intro s hI;unfold Tk;dsimp only [T.rd,T.rl,T.rv];refine AH (λc1=>?_) λc1=>?_
 ·refine AH (λc2=>?_) (λc2=>?_)
  ·have c1:s.k<s.m:=AX
   have hn:¬(s.levels.getD (gi s.l s.k).toNat 0=s.level-1/\s.level<=FF s.B0 (gi s.l s.k) (gi s.most<|gi s.l s.k)):=λh=>by
    exact aL6
   exact aLq
  ·refine AH (λc3=>?_) (λc3=>?_)
   ·have c1:s.k<s.m:=AX
    have hn:¬(s.levels.getD (gi s.l s.k).toNat 0=s.level-1/\s.level<=FF s.B0 (gi s.l s.k) (gi s.most<|gi s.l s.k)):=λh=>by
     exact aLR
    exact aLq
   ·refine AH (λc4=>?_) (λc4=>?_)
    ·refine AH (λc5=>?_) (λc5=>?_)
     ·refine AH (λc6=>?_) (λc6=>?_)
      ·cases c6
      ·have c1:s.k<s.m:=AX
       have c2:=QQ hI c2
       have hp:s.levels.getD (gi s.l s.k).toNat 0=s.level-1/\s.level<=FF s.B0 (gi s.l s.k) (gi s.most<|gi s.l s.k):=by
        exact kM
       have hE:=W0 hI c1 c2
       obtain ⟨m1,m2,_⟩:=Vx hI c1 c2;rcases bu _ hE with ⟨q1,q2⟩ |⟨q1,q2,q3⟩
       ·rw [q1] at c4
        cases c4
       ·rw [m1] at q3
        have q3:((D3 s).getD (gi s.l s.k).toNat []).all (KY s.BE s.sums<|Fg s.B0 s.BF (gi s.l s.k) s.level)=false:=q3
        exact aCm s _ hI AX aNJ rfl rfl rfl rfl rfl rfl rfl rfl rfl rfl
     ·exact aM2
    ·refine AH (λc5=>?_) (λc5=>?_)
     ·exact aMA
     ·refine AH (λc6=>?_) (λc6=>?_)
      ·have c1:s.k<s.m:=AX
       have c2:=QQ hI c2
       have hp:s.levels.getD (gi s.l s.k).toNat 0=s.level-1/\s.level<=FF s.B0 (gi s.l s.k) (gi s.most<|gi s.l s.k):=by
        exact kM
       have hE:=W0 hI c1 c2
       obtain ⟨m1,m2,_⟩:=Vx hI c1 c2
       have hR:=pw hI c1 c2
       rcases bu _ hE with ⟨q1,q2⟩ |⟨q1,q2,q3⟩
       ·rw [m1] at q2
        have q2:((D3 s).getD (gi s.l s.k).toNat []).all (KY s.BE s.sums<|Fg s.B0 s.BF (gi s.l s.k) s.level)=true:=q2
        have r1:=aOI _ hR
        rw [m2] at r1
        have r1:(Oe<|Sq s).sums=Kc s.sums (Fg s.B0 s.BF (gi s.l s.k) s.level) ((D3 s).getD (gi s.l s.k).toNat []):=r1
        have w1:=(fW hI c2).1
        exact aCm s _ hI AX aN1 rfl rfl rfl rfl rfl rfl rfl rfl rfl rfl
       ·rw [q1] at c4
        cases c4
      ·cases c6
 ·have c1:s.m<=s.k:=AX
  have h0:=hI.1
  exact V7
def Rm:AR Cw:=⟨0,129,[2,3,4,12,14,15,16,66,67,68],[],λs=>[.xl A7 s.most,.xl A7 s.order,.own 0 0,s.n,.own 1 0,s.level,s.some,.xl A7 s.l,s.m,s.k],λs=>[⟨[s.B9,s.BV,s.Bz,s.B5,s.C0],28,.cl,X⟩,⟨[s.H5,s.H4,s.EH,s.B0,s.H6,.xl Ea s.BE,.xl A7 s.CK,.xl A7 s.CJ,.xl A7 s.CE,.xl A7 s.CD,.xl A7 s.CC,.xl A7 s.CB,.xl A7 s.CA,.xl A7 s.CH,.xl A7 s.CG,.xl A7 s.CF,.xl A7 s.C9,.xl A7 s.C8,.xl A7 s.C7,.xl A7 s.C6,.xl A7 s.C5,.xl A7 s.C4,.os 2 1 0<|M s.sums,.xl A7 s.BF,.os 3 1 0<|M s.levels],307,.cl,X⟩,bV 3 A7 s.sums,bV 3 A7 s.levels],λv b=>⟨B4 A7 v 0,B4 A7 v 1,AK v 3,AK v 5,E4 v 6,B4 A7 v 7,AK v 8,AK v 9,AF Ad b 0 0,AF .str b 0 1,AF Ah b 0 2,AF Ae b 0 3,AF Ai b 0 4,AF Ad b 1 0,AF .str b 1 1,AF Ah b 1 2,AF Ae b 1 3,AF Ai b 1 4,AF Ea b 1 5,AF A7 b 1 6,AF A7 b 1 7,AF A7 b 1 8,AF A7 b 1 9,AF A7 b 1 10,AF A7 b 1 11,AF A7 b 1 12,AF A7 b 1 13,AF A7 b 1 14,AF A7 b 1 15,AF A7 b 1 16,AF A7 b 1 17,AF A7 b 1 18,AF A7 b 1 19,AF A7 b 1 20,AF A7 b 1 21,AF A7 b 1 23,Ab A7 b 2,Ab A7 b 3⟩,Tk,λs r=> {s with some:=r.some,k:=r.k,sums:=r.sums,levels:=r.levels},λs=>s,λ_ s=>s,[.exit 2],U3,Ha,TM⟩
abbrev HT:=Rm.run
abbrev arD:=Rm.Aq
theorem awH:Rq Ha Tk:=by
 intro s hI;refine ⟨λc1=>⟨?_,?_,?_,λc2=>⟨A9,A9,ak⟩,λc2=>⟨?_,?_,?_,λc3=>⟨A9,A9,ak⟩,λc3=>⟨?_,?_,?_,?_,?_,?_,?_,?_,A9,A9,?_,λc4=>⟨λc5=>⟨λc6=>⟨A9,A9,ak⟩,λc6=>⟨A9,A9,ak⟩⟩,λc5=>⟨?_,A9,A9,?_,?_,?_,λc7=>⟨A9,?_,ak⟩,λc7=>⟨A9,?_,ak⟩⟩⟩,λc4=>⟨λc8=>⟨λc9=>⟨A9,A9,ak⟩,λc9=>⟨A9,A9,ak⟩⟩,λc8=>⟨?_,A9,A9,?_,?_,?_,λc10=>⟨A9,?_,ak⟩,λc10=>⟨A9,?_,ak⟩⟩⟩⟩⟩⟩,λc1=>⟨A9,A9,ak⟩⟩
 ·(have:=hI.1;have:=hI.2.1.1;simp only [Ac] at c1;omega)
 iterate 9 · (have hx:=QR s hI AX;omega)
 ·exact aKs
 ·exact kv
 ·exact aKs
 ·exact kv
 ·exact ⟨W0 hI AX<|QQ hI c2,rfl,rfl⟩
 ·exact kv
 ·exact aMV
 iterate 2 · (have hx:=QR s hI AX;omega)
 iterate 2 · exact ⟨rfl,AJ⟩
 ·exact kv
 ·exact aMV
 iterate 2 · (have hx:=QR s hI A8;omega)
 iterate 2 · exact ⟨rfl,AJ⟩
def zn:List Bd:=[WM,Wo,Wn,Wp]
def akQ:Ax:=kI zn<|la 8 func184 qk<|la 2 func180 oQ<|la 3 func182 cY<|la 2 func180 WE<|l0 zn
def rP:Rm.Ok:={}
def sB:Rm.Pf (iC):=⟨aid,λs h=>rfl,awg,awH⟩
def apu:SA 0 aF3 Rm:=s1 rP sB zn akQ
def apM:Fi U3 Ha iC arD HT:=AR.fin rP sB
def an0 (s:Cw) (hE:U3 s):(λs:Cw=>swp (D3 s) s.BE s.B0 s.BF s.most s.level (s.sums,s.levels,s.some)<|s.l.drop s.k.toNat) (HT s)=(λs:Cw=>swp (D3 s) s.BE s.B0 s.BF s.most s.level (s.sums,s.levels,s.some)<|s.l.drop s.k.toNat) s:=by
 exact AR.KJ rP sB (λs:Cw=>swp (D3 s) s.BE s.B0 s.BF s.most s.level (s.sums,s.levels,s.some)<|s.l.drop s.k.toNat) (λs hI=>by
  show DK _ _ ((Tk s).rd s)
  unfold Tk;dsimp only [T.rd,T.rl];refine AH (λc1=>?_) λc1=>?_
  ·refine AH (λc2=>?_) (λc2=>?_)
   ·have c1:s.k<s.m:=AX
    have hn:¬(s.levels.getD (gi s.l s.k).toNat 0=s.level-1/\s.level<=FF s.B0 (gi s.l s.k) (gi s.most<|gi s.l s.k)):=λh=>by
     exact aL6
    exact aLr
   ·refine AH (λc3=>?_) (λc3=>?_)
    ·have c1:s.k<s.m:=AX
     have hn:¬(s.levels.getD (gi s.l s.k).toNat 0=s.level-1/\s.level<=FF s.B0 (gi s.l s.k) (gi s.most<|gi s.l s.k)):=λh=>by
      exact aLR
     exact aLr
    ·refine AH (λc4=>?_) (λc4=>?_)
     ·refine AH (λc5=>?_) (λc5=>?_)
      ·refine AH (λc6=>?_) (λc6=>?_)
       ·cases c6
       ·have c1:s.k<s.m:=AX
        have c2:=QQ hI c2
        have hp:s.levels.getD (gi s.l s.k).toNat 0=s.level-1/\s.level<=FF s.B0 (gi s.l s.k) (gi s.most<|gi s.l s.k):=by
         exact kM
        have hE:=W0 hI c1 c2
        obtain ⟨m1,m2,_⟩:=Vx hI c1 c2;rcases bu _ hE with ⟨q1,q2⟩ |⟨q1,q2,q3⟩
        ·rw [q1] at c4
         cases c4
        ·rw [m1] at q3
         have q3:((D3 s).getD (gi s.l s.k).toNat []).all (KY s.BE s.sums<|Fg s.B0 s.BF (gi s.l s.k) s.level)=false:=q3
         exact aCl s _ hI AX aNJ rfl rfl rfl rfl rfl rfl rfl rfl rfl rfl
      ·exact aM2
     ·refine AH (λc5=>?_) (λc5=>?_)
      ·exact aMA
      ·refine AH (λc6=>?_) (λc6=>?_)
       ·have c1:s.k<s.m:=AX
        have c2:=QQ hI c2
        have hp:s.levels.getD (gi s.l s.k).toNat 0=s.level-1/\s.level<=FF s.B0 (gi s.l s.k) (gi s.most<|gi s.l s.k):=by
         exact kM
        have hE:=W0 hI c1 c2
        obtain ⟨m1,m2,_⟩:=Vx hI c1 c2
        have hR:=pw hI c1 c2
        rcases bu _ hE with ⟨q1,q2⟩ |⟨q1,q2,q3⟩
        ·rw [m1] at q2
         have q2:((D3 s).getD (gi s.l s.k).toNat []).all (KY s.BE s.sums<|Fg s.B0 s.BF (gi s.l s.k) s.level)=true:=q2
         have r1:=aOI _ hR
         rw [m2] at r1
         have r1:(Oe<|Sq s).sums=Kc s.sums (Fg s.B0 s.BF (gi s.l s.k) s.level) ((D3 s).getD (gi s.l s.k).toNat []):=r1
         have w1:=(fW hI c2).1
         exact aCl s _ hI AX aN1 rfl rfl rfl rfl rfl rfl rfl rfl rfl rfl
        ·rw [q1] at c4
         cases c4
       ·cases c6
  ·rfl) s hE
def apJ (s:Cw) (hE:U3 s):((HT s).sums,(HT s).levels,(HT s).some)=swp (D3 s) s.BE s.B0 s.BF s.most s.level (s.sums,s.levels,s.some) s.l:=by
 have q3:=an0 s hE
 obtain ⟨s',hI,q1,q2⟩:=apM s hE;obtain ⟨h0,h1,_⟩:=hE;simp only at q3;rw [q2,show (HT s).m=s.m from rfl,show (HT s).l=s.l from rfl,Ef A0,h0] at q3;exact q3
structure Io where
 (most order:List Int)
 (n level:Int)
 B9:List Cd
 BV:List ByteArray
 Bz:List Ko
 B5:List Ch
 C0:List Ba
 H5:List Cd
 H4:List ByteArray
 EH:List Ko
 B0:List Ch
 H6:List Ba
 BE:List Rw
 (CK CJ CE CD CC CB CA CH CG CF C9 C8 C7 C6 C5 C4 BF sums levels:List Int)
def pJ:=bN f141 0
def L5 (s:Io):Cw:=(⟨s.most,s.order,s.n,s.level,X,s.order,(M s.order:Int),0,s.B9,s.BV,s.Bz,s.B5,s.C0,s.H5,s.H4,s.EH,s.B0,s.H6,s.BE,s.CK,s.CJ,s.CE,s.CD,s.CC,s.CB,s.CA,s.CH,s.CG,s.CF,s.C9,s.C8,s.C7,s.C6,s.C5,s.C4,s.BF,s.sums,s.levels⟩:Cw)
def vq (s:Io):T (Rd Io):=letI a:=HT<|L5 s;.rl s.sums<|.rl s.levels<|.req (Rm.q<|L5 s)<|.br (! a.some) (.rl a.sums<|.rl a.levels<|.so (.exit 0) {s with sums:=a.sums,levels:=a.levels})<|.rl a.sums<|.rl a.levels<|.nx {s with level:=AA<|s.level+1,sums:=a.sums,levels:=a.levels}
def KN (s:Io):List (List Int):=[s.CK,s.CJ,s.CE,s.CD,s.CC,s.CB,s.CA,s.CH,s.CG,s.CF,s.C9,s.C8,s.C7,s.C6,s.C5,s.C4]
def iQ (s:Io):Prop:=s.level=1/\(M s.order:Int)<=1000/\s.B0=s.B5/\OkT (KN s) s.BE s.B0 s.BF s.most s.order/\OkS s.BE s.order s.sums s.levels
def Tz (s:Io):Prop:=(1<=s.level/\s.level<=81)/\(M s.order:Int)<=1000/\s.B0=s.B5/\OkT (KN s) s.BE s.B0 s.BF s.most s.order/\OkS s.BE s.order s.sums s.levels
def rD (s:Io):Nat:=(82-s.level).toNat
def acW (x:Ex) (s s':Io):Prop:=x=.exit 0
def aic:∀s,iQ s->Tz s:=by
 exact kz
def aO8 (s:Io) (hI:Tz s):U3 (L5 s):=by
 obtain ⟨⟨h0,h1⟩,h2,h3,hT,hS⟩:=hI;exact ⟨rfl,⟨rfl,h2,h0,h1⟩,h3,hT,hS⟩
def aTm (s:Io) (hI:Tz s):((HT<|L5 s).sums,(HT<|L5 s).levels,(HT<|L5 s).some)=swp (KN s) s.BE s.B0 s.BF s.most s.level (s.sums,s.levels,X) s.order:=apJ _<|aO8 s hI
theorem avM:Da Tz rD acW vq:=by
 intro s hI
 have hr:=aTm s hI
 obtain ⟨⟨h0,h1⟩,h2,h3,hT,hS⟩:=hI;refine AH (λc1=>rfl) λc1=>?_
 have c1:(HT<|L5 s).some=true:=A8
 have hk:=qj hT h0 h1 s.order (s.sums,s.levels,X) (λ_ h=>h) hS
 have hs:=nh (O:=KN s) (rows:=s.BE) (gs:=s.B0) (alive:=s.BF) (most:=s.most) (level:=s.level) s.order (s.sums,s.levels,X)
 rw [<-hr] at hk hs
 have h80:s.level<=80:=by
  rcases hs c1 with h|h
  ·cases h
  ·exact h
 rw [AI (x:=s.level+1)];exact ⟨⟨⟨A8,A8⟩,h2,h3,hT,hk⟩,by simp only [rD];omega⟩
def PV:AR Io:=⟨0,129,[2,3,4,12,14,15],[.ps 14 6 A7,.ps 14 7 A7,.ps 14 8 A7,.ps 14 9 A7,.ps 14 10 A7,.ps 14 11 A7,.ps 14 12 A7,.ps 14 13 A7,.ps 14 14 A7,.ps 14 15 A7,.ps 14 16 A7,.ps 14 17 A7,.ps 14 18 A7,.ps 14 19 A7,.ps 14 20 A7,.ps 14 21 A7],λs=>[.xl A7 s.most,.xl A7 s.order,.own 0 0,s.n,.own 1 0,s.level],λs=>[⟨[s.B9,s.BV,s.Bz,s.B5,s.C0],28,.cl,X⟩,⟨[s.H5,s.H4,s.EH,s.B0,s.H6,.xl Ea s.BE,.xl A7 s.CK,.xl A7 s.CJ,.xl A7 s.CE,.xl A7 s.CD,.xl A7 s.CC,.xl A7 s.CB,.xl A7 s.CA,.xl A7 s.CH,.xl A7 s.CG,.xl A7 s.CF,.xl A7 s.C9,.xl A7 s.C8,.xl A7 s.C7,.xl A7 s.C6,.xl A7 s.C5,.xl A7 s.C4,.os 2 1 0<|M s.sums,.xl A7 s.BF,.os 3 1 0<|M s.levels],307,.cl,X⟩,bV 3 A7 s.sums,bV 3 A7 s.levels],λv b=>⟨B4 A7 v 0,B4 A7 v 1,AK v 3,AK v 5,AF Ad b 0 0,AF .str b 0 1,AF Ah b 0 2,AF Ae b 0 3,AF Ai b 0 4,AF Ad b 1 0,AF .str b 1 1,AF Ah b 1 2,AF Ae b 1 3,AF Ai b 1 4,AF Ea b 1 5,AF A7 b 1 6,AF A7 b 1 7,AF A7 b 1 8,AF A7 b 1 9,AF A7 b 1 10,AF A7 b 1 11,AF A7 b 1 12,AF A7 b 1 13,AF A7 b 1 14,AF A7 b 1 15,AF A7 b 1 16,AF A7 b 1 17,AF A7 b 1 18,AF A7 b 1 19,AF A7 b 1 20,AF A7 b 1 21,AF A7 b 1 23,Ab A7 b 2,Ab A7 b 3⟩,vq,λs r=> {s with level:=r.level,sums:=r.sums,levels:=r.levels},λs=>s,λ_ s=>s,[.exit 0],iQ,Tz,rD⟩
abbrev IZ:=PV.run
def awG:Rq Tz vq:=by
 intro s hI;refine ⟨A9,A9,?_,λc1=>⟨A9,A9,ak⟩,λc1=>⟨A9,A9,ak⟩⟩
 ·exact ⟨aO8 s hI,rfl,rfl⟩
def XE:List Bd:=[WM,Wo,Wn,Wp]
def zr:Ax:=kI XE<|la 8 func184 qk<|la 2 func180 oQ<|la 3 func182 cY<|la 2 func180 WE<|l0 XE
def aPc:PV.Ok:={}
def aPB:PV.Pf (acW):=⟨aic,λs h=>rfl,avM,awG⟩
def apt:SA 0 pJ PV:=AR.snd aPc aPB (nL (Γ:=XE) (K:=zr) (L:=(λi=>if i=13 then Rm.lp else Ag i)) (gk XE) zr.h pJ (λb hb=>by
 rw [show BA _=[aF3] by kernel_rfl] at hb
 simp only [B8,Bu,Bt] at hb;subst hb;exact apu)) λs=>AT
theorem apI (s:Io) (hE:iQ s):(IZ s).levels=shl (KN s) s.BE s.B0 s.BF s.most s.order 81 1 s.sums s.levels:=by
 have hk:=AR.wI aPc aPB (V:=λs:Io=>shl (KN s) s.BE s.B0 s.BF s.most s.order (82-s.level).toNat s.level s.sums s.levels) (K:=λ_ s' v=>s'.levels=v) (λs hI=>by
  have hr:=aTm s hI
  have hs:=nh (O:=KN s) (rows:=s.BE) (gs:=s.B0) (alive:=s.BF) (most:=s.most) (level:=s.level) s.order (s.sums,s.levels,X)
  obtain ⟨⟨h0,h1⟩,h2,h3,hT,hS⟩:=hI;rw [<-hr] at hs
  have hf:(82-s.level).toNat=(81-s.level).toNat+1:=A0
  refine AH (λc1=>?_) λc1=>?_
  ·have c1:(HT<|L5 s).some=false:=A8
   show (HT<|L5 s).levels=shl _ _ _ _ _ _ _ _ _ _
   rw [hf,shl,<-hr,AE A8]
  ·have c1:(HT<|L5 s).some=true:=A8
   have h80:s.level<=80:=by
    rcases hs c1 with h|h
    ·cases h
    ·exact h
   rw [AI (x:=s.level+1)]
   show shl (KN s) s.BE s.B0 s.BF s.most s.order (82-(s.level+1)).toNat (s.level+1) (HT<|L5 s).sums (HT<|L5 s).levels=shl (KN s) s.BE s.B0 s.BF s.most s.order (82-s.level).toNat s.level s.sums s.levels
   rw [hf,show 82-(s.level+1)=81-s.level by omega]
   conv=>rhs;rw [shl,<-hr]
   simp only [c1,Bm]) s hE
 rw [hk,hE.1];rfl
structure PL where
 l:List Ch
 (m k:Int)
 H5:List Cd
 H4:List ByteArray
 EH:List Ko
 B0:List Ch
 H6:List Ba
 BE:List Rw
 (CK CJ CE CD CC CB CA CH CG CF C9 C8 C7 C6 C5 C4 BF out sums levels:List Int)
def aF2:=bN f141 1
def vp (s:PL):T (Rd PL):=letI a:=s.levels.getD s.k.toNat<|Ty.dflt A7;letI c:=AG s.l s.k;letI b:=s.out.set s.k.toNat<|Dq c.2.2.2.1 c.2.2.2.2.2.1 a;.br (an<|s.k<s.m) (.ix s.k (M s.l)<|.ik s.k (M s.levels)<|.req ((1<=c.2.2.2.1/\c.2.2.2.1<=80/\1<=c.2.2.2.2.2.1/\c.2.2.2.2.2.1<=80)/\0<=a/\a<=1000)<|.ik s.k (M s.out)<|.re (M s.out) b<|.rl s.sums<|.rl s.levels<|.nx {s with k:=AA<|s.k+1,out:=b})<|.rl s.out<|.rl s.sums<|.rl s.levels<|.so (.exit 4) s
def jW (s:PL):Prop:=s.k=0/\s.out=aq (M s.l) 0/\(s.m=(M s.l:Int)/\s.m<=1000/\M s.levels=M s.l)/\(∀k:Int,0<=k->k<s.m->De (AG s.l k).2.2.2.1 (AG s.l k).2.2.2.2.1 (AG s.l k).2.2.2.2.2.1=U)/\(∀k:Nat,0<=s.levels.getD k 0/\s.levels.getD k 0<=80)
def YN (s:PL):Prop:=(0<=s.k/\s.k<=s.m)/\s.out=SO s.l s.levels s.k.toNat++aq (M s.l-s.k.toNat) 0/\(s.m=(M s.l:Int)/\s.m<=1000/\M s.levels=M s.l)/\(∀k:Int,0<=k->k<s.m->De (AG s.l k).2.2.2.1 (AG s.l k).2.2.2.2.1 (AG s.l k).2.2.2.2.2.1=U)/\(∀k:Nat,0<=s.levels.getD k 0/\s.levels.getD k 0<=80)
def rC (s:PL):Nat:=(s.m-s.k).toNat
def aAV (x:Ex) (s s':PL):Prop:=x=.exit 4/\s'.out=FA s'.l s'.levels
def aib:∀s,jW s->YN s:=by
 exact xS
theorem avL:Da YN rC aAV vp:=by
 intro s hI;obtain ⟨⟨h0,h1⟩,h2,⟨h3,h4,h5⟩,h6,h7⟩:=hI;refine AH (λc1=>?_) λc1=>?_
 ·have c1:s.k<s.m:=A8
  rw [AI (x:=s.k+1)];refine ⟨⟨⟨A8,A8⟩,?_,⟨h3,h4,h5⟩,h6,h7⟩,by simp only [rC];omega⟩
  have e:M s.l-s.k.toNat=(M s.l-(s.k+1).toNat)+1:=A0
  have hs:=aG5 (xs:=SO s.l s.levels s.k.toNat) (r:=M s.l-(s.k+1).toNat) (v:=Cr s.l s.k<|s.levels.getD s.k.toNat 0)
  rw [acy] at hs;rw [h2,e,show (s.k+1).toNat=s.k.toNat+1 by omega,ag0,CR h0]
  rw [show (s.k+1).toNat=s.k.toNat+1 by omega] at hs
  exact hs
 ·have c1:s.m<=s.k:=A8
  refine ⟨rfl,?_⟩;rw [h2,show s.k.toNat=M s.l by omega,kZ,List.replicate_zero,GB]
  rfl
def Nq:AR PL:=⟨0,129,[14,19,108,109,110],[],λs=>[.own 0 0,.os 1 1 0<|M s.out,s.l,s.m,s.k],λs=>[⟨[s.H5,s.H4,s.EH,s.B0,s.H6,.xl Ea s.BE,.xl A7 s.CK,.xl A7 s.CJ,.xl A7 s.CE,.xl A7 s.CD,.xl A7 s.CC,.xl A7 s.CB,.xl A7 s.CA,.xl A7 s.CH,.xl A7 s.CG,.xl A7 s.CF,.xl A7 s.C9,.xl A7 s.C8,.xl A7 s.C7,.xl A7 s.C6,.xl A7 s.C5,.xl A7 s.C4,.os 2 1 0<|M s.sums,.xl A7 s.BF,.os 3 1 0<|M s.levels],307,.cl,X⟩,bV 3 A7 s.out,bV 3 A7 s.sums,bV 3 A7 s.levels],λv b=>⟨B4 Ae v 2,AK v 3,AK v 4,AF Ad b 0 0,AF .str b 0 1,AF Ah b 0 2,AF Ae b 0 3,AF Ai b 0 4,AF Ea b 0 5,AF A7 b 0 6,AF A7 b 0 7,AF A7 b 0 8,AF A7 b 0 9,AF A7 b 0 10,AF A7 b 0 11,AF A7 b 0 12,AF A7 b 0 13,AF A7 b 0 14,AF A7 b 0 15,AF A7 b 0 16,AF A7 b 0 17,AF A7 b 0 18,AF A7 b 0 19,AF A7 b 0 20,AF A7 b 0 21,AF A7 b 0 23,Ab A7 b 1,Ab A7 b 2,Ab A7 b 3⟩,vp,λs r=> {s with k:=r.k,out:=r.out},λs=>s,λ_ s=>s,[.exit 4],jW,YN,rC⟩
abbrev Q7:=Nq.run
abbrev arC:=Nq.Aq
theorem ax3:Rq YN vp:=by
 intro s hI;refine ⟨λc1=>⟨?_,?_,?_,?_,?_,?_,?_,A9,A9,ak⟩,λc1=>⟨A9,A9,A9,ak⟩⟩
 iterate 3 · (obtain ⟨⟨h0,h1⟩,h2,⟨h3,h4,h5⟩,h6,h7⟩:=hI;(try simp only [Ac] at c1);have hl:M s.out=M s.l:=aNY;first|omega|exact ⟨rfl,AJ⟩ |exact ⟨rfl,rfl⟩)
 ·(have hh:=I3.1<|hI.2.2.2.1 s.k hI.1.1 A8;have hb:=hI.2.2.2.2 s.k.toNat;refine ⟨A0,?_⟩;show 0<=s.levels.getD s.k.toNat 0/\s.levels.getD s.k.toNat 0<=1000;omega)
 iterate 3 · (obtain ⟨⟨h0,h1⟩,h2,⟨h3,h4,h5⟩,h6,h7⟩:=hI;(try simp only [Ac] at c1);have hl:M s.out=M s.l:=aNY;first|omega|exact ⟨rfl,AJ⟩ |exact ⟨rfl,rfl⟩)
def aPb:Nq.Ok:={}
def aPA:Nq.Pf (aAV):=⟨aib,λs h=>rfl,avL,ax3⟩
def aod:SA 0 aF2 Nq:=s1 aPb aPA XE zr
def apH:Fi jW YN aAV arC Q7:=AR.fin aPb aPA
def aJD:List LV->T LV
 | .agg a::r=>s5 a λcs os ks gs bs=>(match r with
  | [.xl (.int J) al,.xl (.int J) mo,.xl (.int J) od]=> .ok (.AM [.xl A7<|Fb cs os ks gs bs al mo od,shE cs os ks gs bs al mo od])
  |_=> .no)
 |_=> .no
def N0 (cs:List Cd) (os:List ByteArray) (ks:List Ko) (gs:List Ch) (bs:List Ba) (al mo od:List Int):Dy:=letI a:=JQ cs os ks gs bs;(⟨al,a,(M a:Int),0,cs,os,ks,gs,bs,cs,os,ks,gs,bs,a,al,([]:List Int),([]:List Int),([]:List Int),([]:List Int),([]:List Int),([]:List Int),([]:List Int),([]:List Int),([]:List Int),([]:List Int),([]:List Int),([]:List Int),([]:List Int),([]:List Int),([]:List Int),([]:List Int),aq (M a:Int).toNat (0:Int),aq (M al:Int).toNat (0:Int)⟩:Dy)
def L6 (cs:List Cd) (os:List ByteArray) (ks:List Ko) (gs:List Ch) (bs:List Ba) (al mo od:List Int):Io:=letI a:=IM<|N0 cs os ks gs bs al mo od;(⟨mo,od,(M gs:Int),1,cs,os,ks,gs,bs,cs,os,ks,gs,bs,JQ cs os ks gs bs,(a.CK.drop 0).take<|M a.CK,(a.CJ.drop 0).take<|M a.CJ,(a.CE.drop 0).take<|M a.CE,(a.CD.drop 0).take<|M a.CD,(a.CC.drop 0).take<|M a.CC,(a.CB.drop 0).take<|M a.CB,(a.CA.drop 0).take<|M a.CA,(a.CH.drop 0).take<|M a.CH,(a.CG.drop 0).take<|M a.CG,(a.CF.drop 0).take<|M a.CF,(a.C9.drop 0).take<|M a.C9,(a.C8.drop 0).take<|M a.C8,(a.C7.drop 0).take<|M a.C7,(a.C6.drop 0).take<|M a.C6,(a.C5.drop 0).take<|M a.C5,(a.C4.drop 0).take<|M a.C4,al,a.sums,aq (M al:Int).toNat (0:Int)⟩:Io)
def aBZ (cs:List Cd) (os:List ByteArray) (ks:List Ko) (gs:List Ch) (bs:List Ba) (al mo od:List Int):PL:=letI a:=IM<|N0 cs os ks gs bs al mo od;letI b:=IZ<|L6 cs os ks gs bs al mo od;(⟨gs,(M gs:Int),0,cs,os,ks,gs,bs,JQ cs os ks gs bs,(a.CK.drop 0).take<|M a.CK,(a.CJ.drop 0).take<|M a.CJ,(a.CE.drop 0).take<|M a.CE,(a.CD.drop 0).take<|M a.CD,(a.CC.drop 0).take<|M a.CC,(a.CB.drop 0).take<|M a.CB,(a.CA.drop 0).take<|M a.CA,(a.CH.drop 0).take<|M a.CH,(a.CG.drop 0).take<|M a.CG,(a.CF.drop 0).take<|M a.CF,(a.C9.drop 0).take<|M a.C9,(a.C8.drop 0).take<|M a.C8,(a.C7.drop 0).take<|M a.C7,(a.C6.drop 0).take<|M a.C6,(a.C5.drop 0).take<|M a.C5,(a.C4.drop 0).take<|M a.C4,al,aq (M gs:Int).toNat (0:Int),b.sums,b.levels⟩:PL)
def zm:List Bd:=[WM,Wo,Wn,Wp]
def akP:Ax:=kI zm<|la 8 func184 qk<|la 2 func180 oQ<|la 3 func182 cY<|la 2 func180 WE<|l0 zm
def aJg:=vm (S:=aJD) func141 zm akP (L:=(λi=>if i=11 then PV.lp else if i=21 then Nq.lp else Ag i)) (λb hb=>by
 rw [show BA _=[pJ,aF2] by kernel_rfl] at hb
 simp only [B8,Bu,Bt] at hb;rcases hb with rfl|rfl
 ·exact apt
 ·exact aod) (λargs lv h=>by
 unfold aJD at h;split at h
 case h_2=>cases h
 replace h:=HX h
 obtain ⟨cs,os,ks,gs,bs,rfl,h⟩:=h;split at h
 ·rename_i al mo od
  refine Ap (letI b:=aBZ cs os ks gs bs al mo od;letI d:=(M (JQ cs os ks gs bs):Int);letI g:=L6 cs os ks gs bs al mo od;letI j:=(M gs:Int);letI l:=(M al:Int);letI n:=((Q7 b).out.drop 0).take<|M (Q7 b).out;letI o:=N0 cs os ks gs bs al mo od;letI s:=(aq d.toNat (0:Int));letI t:=(aq j.toNat (0:Int));letI u:=(M mo:Int);letI w:=(Bj (cS (⟨X,mo,u,0,cs,os,ks,gs,bs⟩:Il))<|.ret);letI x:=(TZ.q (⟨X,mo,u,0,cs,os,ks,gs,bs⟩:Il));letI y:=(cU (⟨X,mo,u,0,cs,os,ks,gs,bs⟩:Il));letI z:=j<=1000;letI a:=IM o;letI f:=(aq l.toNat (0:Int));.br ((OB cs os ks gs bs) !=0) (.ok<|.AM [.xl A7 ([]:List Int),(1:Int)])<|.br (l !=j) (.ok<|.AM [.xl A7 ([]:List Int),(1:Int)])<|.br (u !=j) (.ok<|.AM [.xl A7 ([]:List Int),(1:Int)])<|.req (TZ.q (⟨X,al,l,0,cs,os,ks,gs,bs⟩:Il))<|.br (Bj (cS (⟨X,al,l,0,cs,os,ks,gs,bs⟩:Il))<|.ret) (.br (!(cU (⟨X,al,l,0,cs,os,ks,gs,bs⟩:Il)).r) (.ok<|.AM [.xl A7 ([]:List Int),(1:Int)])<|.req x<|.br w (.br (! y.r) (.ok<|.AM [.xl A7 ([]:List Int),(1:Int)])<|.req z<|.br (!(GU od j)) (.ok<|.AM [.xl A7 ([]:List Int),(1:Int)])<|.rm 8 d<|.rm 8 l<|.r0 Int<|.r0 Int<|.r0 Int<|.r0 Int<|.r0 Int<|.r0 Int<|.r0 Int<|.r0 Int<|.r0 Int<|.r0 Int<|.r0 Int<|.r0 Int<|.r0 Int<|.r0 Int<|.r0 Int<|.r0 Int<|.re d.toNat s<|.re l.toNat f<|.req (PY.q o)<|.rz a.CK<|.rz a.CJ<|.rz a.CE<|.rz a.CD<|.rz a.CC<|.rz a.CB<|.rz a.CA<|.rz a.CH<|.rz a.CG<|.rz a.CF<|.rz a.C9<|.rz a.C8<|.rz a.C7<|.rz a.C6<|.rz a.C5<|.rz a.C4<|.rl a.sums<|.rl f<|.req (PV.q g)<|.rm 8 j<|.re j.toNat t<|.rl (IZ g).sums<|.rl (IZ g).levels<|.req (Nq.q b)<|.rz (Q7 b).out<|.ok<|.AM [.xl A7 n,(0:Int)])<|.br (!U) (.ok<|.AM [.xl A7 ([]:List Int),(1:Int)])<|.req z<|.br (!(GU od j)) (.ok<|.AM [.xl A7 ([]:List Int),(1:Int)])<|.rm 8 d<|.rm 8 l<|.r0 Int<|.r0 Int<|.r0 Int<|.r0 Int<|.r0 Int<|.r0 Int<|.r0 Int<|.r0 Int<|.r0 Int<|.r0 Int<|.r0 Int<|.r0 Int<|.r0 Int<|.r0 Int<|.r0 Int<|.r0 Int<|.re d.toNat s<|.re l.toNat f<|.req (PY.q o)<|.rz a.CK<|.rz a.CJ<|.rz a.CE<|.rz a.CD<|.rz a.CC<|.rz a.CB<|.rz a.CA<|.rz a.CH<|.rz a.CG<|.rz a.CF<|.rz a.C9<|.rz a.C8<|.rz a.C7<|.rz a.C6<|.rz a.C5<|.rz a.C4<|.rl a.sums<|.rl f<|.req (PV.q g)<|.rm 8 j<|.re j.toNat t<|.rl (IZ g).sums<|.rl (IZ g).levels<|.req (Nq.q b)<|.rz (Q7 b).out<|.ok<|.AM [.xl A7 n,(0:Int)])<|.br (!U) (.ok<|.AM [.xl A7 ([]:List Int),(1:Int)])<|.req x<|.br w (.br (! y.r) (.ok<|.AM [.xl A7 ([]:List Int),(1:Int)])<|.req z<|.br (!(GU od j)) (.ok<|.AM [.xl A7 ([]:List Int),(1:Int)])<|.rm 8 d<|.rm 8 l<|.r0 Int<|.r0 Int<|.r0 Int<|.r0 Int<|.r0 Int<|.r0 Int<|.r0 Int<|.r0 Int<|.r0 Int<|.r0 Int<|.r0 Int<|.r0 Int<|.r0 Int<|.r0 Int<|.r0 Int<|.r0 Int<|.re d.toNat s<|.re l.toNat f<|.req (PY.q o)<|.rz a.CK<|.rz a.CJ<|.rz a.CE<|.rz a.CD<|.rz a.CC<|.rz a.CB<|.rz a.CA<|.rz a.CH<|.rz a.CG<|.rz a.CF<|.rz a.C9<|.rz a.C8<|.rz a.C7<|.rz a.C6<|.rz a.C5<|.rz a.C4<|.rl a.sums<|.rl f<|.req (PV.q g)<|.rm 8 j<|.re j.toNat t<|.rl (IZ g).sums<|.rl (IZ g).levels<|.req (Nq.q b)<|.rz (Q7 b).out<|.ok<|.AM [.xl A7 n,(0:Int)])<|.br (!U) (.ok<|.AM [.xl A7 ([]:List Int),(1:Int)])<|.req z<|.br (!(GU od j)) (.ok<|.AM [.xl A7 ([]:List Int),(1:Int)])<|.rm 8 d<|.rm 8 l<|.r0 Int<|.r0 Int<|.r0 Int<|.r0 Int<|.r0 Int<|.r0 Int<|.r0 Int<|.r0 Int<|.r0 Int<|.r0 Int<|.r0 Int<|.r0 Int<|.r0 Int<|.r0 Int<|.r0 Int<|.r0 Int<|.re d.toNat s<|.re l.toNat f<|.req (PY.q o)<|.rz a.CK<|.rz a.CJ<|.rz a.CE<|.rz a.CD<|.rz a.CC<|.rz a.CB<|.rz a.CA<|.rz a.CH<|.rz a.CG<|.rz a.CF<|.rz a.C9<|.rz a.C8<|.rz a.C7<|.rz a.C6<|.rz a.C5<|.rz a.C4<|.rl a.sums<|.rl f<|.req (PV.q g)<|.rm 8 j<|.re j.toNat t<|.rl (IZ g).sums<|.rl (IZ g).levels<|.req (Nq.q b)<|.rz (Q7 b).out<|.ok<|.AM [.xl A7 n,(0:Int)]) ?_;obtain rfl:=h
  have err:G0 cs os ks gs bs al mo od=X->LV.AM [.xl A7 ([]:List Int),.v<|Y J 1]=LV.AM [.xl A7<|Fb cs os ks gs bs al mo od,.v<|Y J<|shE cs os ks gs bs al mo od]:=λh=>by
   unfold Fb shE;rw [h];rfl
  have no_:∀ {p:Prop},¬p->(G0 cs os ks gs bs al mo od=U->p)->G0 cs os ks gs bs al mo od=false:=λh1 h2=>by
   rw [Hw];exact λh=>h1<|h2 h
  refine ⟨λc=>err<|no_ (p:=BI cs os ks gs bs=U) (λh=>?_) λh=>(L9.1 h).1,λc=>?_⟩
  ·unfold OB at c
   rw [h] at c
   simp at c
  have hv:BI cs os ks gs bs=true:=by
   cases e:BI cs os ks gs bs with
   |true=>rfl
   |false=>unfold OB at c;rw [e] at c;simp at c
  have hl:=(DD.1 hv).1
  refine ⟨λc2=>err<|no_ (p:=M al=M gs) (by simp at c2;omega) λh=>(L9.1 h).2.1,λc2=>?_⟩
  refine ⟨λc3=>err<|no_ (p:=M mo=M gs) lQ λh=>(L9.1 h).2.2.1,λc3=>?_⟩
  have c2:M al=M gs:=by simp at c2;omega
  have c3:M mo=M gs:=lQ
  refine LY ⟨⟨rfl,AZ,AZ,rfl⟩,rfl,rfl⟩ λhE1=>?_
  rcases aI9 _ hE1.1 with ⟨q1,q2⟩ |⟨q1,q2,q3⟩
  rotate_left
  ·rw [q1,q2]
   refine ⟨λ_=>⟨λ_=>err<|no_ (p:=al.all Hc=U) (by have q3:al.all Hc=false:=q3;rw [q3];simp) λh=>(L9.1 h).2.2.2.1,λh=>An⟩,λh=>An⟩
  rw [q1];refine ⟨λh=>An,λ_=>⟨λh=>An,λ_=>?_⟩⟩
  have q2:al.all Hc=true:=q2
  refine LY ⟨⟨rfl,AZ,AZ,rfl⟩,rfl,rfl⟩ λhE2=>?_
  rcases aI9 _ hE2.1 with ⟨p1,p2⟩ |⟨p1,p2,p3⟩
  rotate_left
  ·rw [p1,p2]
   refine ⟨λ_=>⟨λ_=>err<|no_ (p:=mo.all Hc=U) (by have p3:mo.all Hc=false:=p3;rw [p3];simp) λh=>(L9.1 h).2.2.2.2.1,λh=>An⟩,λh=>An⟩
  rw [p1];refine ⟨λh=>An,λ_=>⟨λh=>An,λ_=>?_⟩⟩
  have p2:mo.all Hc=true:=p2
  refine ⟨A0,λc4=>err<|no_ (p:=GU od (M gs:Int)=U) (by simp at c4;rw [c4];simp) λh=>(L9.1 h).2.2.2.2.2,λc4=>?_⟩
  have c4:GU od (M gs:Int)=true:=yj
  have hok:G0 cs os ks gs bs al mo od=true:=L9.2 ⟨hv,c2,c3,q2,p2,c4⟩
  obtain ⟨hT,hS⟩:=ajd hok
  have er:JQ cs os ks gs bs=DH cs gs (M cs):=by unfold JQ;rw [AD hv]
  have hrl:=o7 (cs:=cs) (gs:=gs) (k:=M cs)
  have hod:M od=M gs:=by
   unfold GU at c4;simp only [AY,Ac] at c4;omega
  have hrn:(M (JQ cs os ks gs bs):Int)<=1000:=by rw [er];omega
  refine ⟨A0,A0,A9,A9,A9,A9,A9,A9,A9,A9,A9,A9,A9,A9,A9,A9,A9,A9,⟨rfl,AJ⟩,⟨rfl,AJ⟩,?_⟩
  have hN:Tm (N0 cs os ks gs bs al mo od):=by
   refine ⟨rfl,λo ho=>?_,rfl,rfl,hrn,λr hr=>?_,hT.al,by show M (aq _ _)=M (JQ cs os ks gs bs);simp⟩
   ·simpa [FT,N0] using ho
   ·have hr:r∈DH cs gs (M cs):=by rw [<-er];exact hr
    obtain ⟨m1,m2,m3,m4⟩:=row_mem hr;refine ⟨A0,λm hm=>?_⟩
    have:=m2 m hm
    show 0<=m/\m<16/\m<(M al:Int)
    omega
  obtain ⟨nr1,nr2⟩:=aqW _ hN
  have nr1:FT (IM<|N0 cs os ks gs bs al mo od)=OL (DH cs gs<|M cs):=by rw [nr1,<-er];rfl
  have nr2:(IM<|N0 cs os ks gs bs al mo od).sums=SM al (DH cs gs<|M cs):=by rw [nr2,<-er];rfl
  refine ⟨⟨hN,rfl,rfl⟩,A0,A0,A0,A0,A0,A0,A0,A0,A0,A0,A0,A0,A0,A0,A0,A0,A9,A9,?_⟩
  have eO:KN (L6 cs os ks gs bs al mo od)=FT (IM<|N0 cs os ks gs bs al mo od):=by
   unfold KN FT L6;simp only [CP,E6]
  have hSh:iQ (L6 cs os ks gs bs al mo od):=by
   refine ⟨rfl,by show (M od:Int)<=1000;omega,rfl,?_,?_⟩
   ·show OkT (KN<|L6 cs os ks gs bs al mo od) (JQ cs os ks gs bs) gs al mo od
    rw [eO,nr1,er];exact hT
   ·show OkS (JQ cs os ks gs bs) od (IM<|N0 cs os ks gs bs al mo od).sums _
    rw [nr2,er];exact hS
  have sr:=apI _ hSh
  have sr:(IZ<|L6 cs os ks gs bs al mo od).levels=shV (DH cs gs<|M cs) gs al mo od:=by
   rw [sr]
   show shl (KN<|L6 cs os ks gs bs al mo od) (JQ cs os ks gs bs) gs al mo od 81 1 (IM<|N0 cs os ks gs bs al mo od).sums _=_
   rw [eO,nr1,nr2,er];rfl
  obtain ⟨sl,sb⟩:=aO9 hT 81 1 _ _ A0 A0 hS;refine ⟨⟨hSh,rfl,rfl⟩,A0,⟨rfl,AJ⟩,A9,A9,?_⟩
  have hX:jW (aBZ cs os ks gs bs al mo od):=by
   refine ⟨rfl,rfl,⟨rfl,aNe,?_⟩,λk h0 h1=>?_,?_⟩
   ·show M (IZ<|L6 cs os ks gs bs al mo od).levels=M gs
    rw [sr];exact sl.trans (by rw [Ce];exact c2)
   ·have:=Og hv h0 h1
    unfold G3 chW at this;simp only [AY,Bf] at this
    show De (AG gs k).2.2.2.1 (AG gs k).2.2.2.2.1 (AG gs k).2.2.2.2.2.1=U
    exact I3.2 A0
   ·show ∀k:Nat,0<=(IZ<|L6 cs os ks gs bs al mo od).levels.getD k 0/\(IZ<|L6 cs os ks gs bs al mo od).levels.getD k 0<=80
    rw [sr];exact sb
  refine ⟨⟨hX,rfl,rfl⟩,A0,?_⟩;obtain ⟨s',_,_,x2⟩:=apH _ hX
  have x2:(Q7<|aBZ cs os ks gs bs al mo od).out=FA gs (IZ<|L6 cs os ks gs bs al mo od).levels:=x2
  show LV.AM [LV.xl _ _,_]=_
  rw [CP,E6,x2,sr];unfold Fb shE;rw [AD hok,AD hok]
 ·cases h)
structure P8 where
 m:List Ch
 (k i:Int)
 out:List Int
def aFp:=bN f140 0
def z8 (s:P8):T (Rd P8):=letI a:=s.out.set s.i.toNat (AG s.m s.i).2.2.2.2.2.2.1;.br (an<|s.i<s.k) (.ix s.i (M s.m)<|.ik s.i (M s.out)<|.re (M s.out) a<|.nx {s with i:=AA<|s.i+1,out:=a})<|.rl s.out<|.so (.exit 0) s
def jd (s:P8):Prop:=s.i=0/\s.k=(M s.m:Int)/\s.k<=1000/\M s.out=M s.m/\(∀j,0<=j->j<s.k->gi s.out j=0)/\True
def Y9 (s:P8):Prop:=(0<=s.i/\s.i<=s.k)/\s.k=(M s.m:Int)/\s.k<=1000/\M s.out=M s.m/\(∀j,0<=j->j<s.k->gi s.out j=if j<s.i then CW (AG s.m j) else 0)/\True
def sv (s:P8):Nat:=(s.k-s.i).toNat
def aAL (x:Ex) (s s':P8):Prop:=x=.exit 0/\s'.out=FC (M s'.m) (λj=>CW<|AG s'.m j)
theorem alP:∀s,jd s->Y9 s:=by
 exact Sd
theorem ag6:Da Y9 sv aAL z8:=by
 intro s hI;obtain ⟨⟨h0,h1⟩,h2,h3,h4,h5,h6⟩:=hI;refine AH (λc1=>?_) λc1=>?_
 ·have c1:s.i<s.k:=AX
  rw [AI (x:=s.i+1)];refine ⟨⟨⟨A8,A8⟩,h2,h3,A8,λj j0 j1=>?_,h6⟩,by simp only [sv];omega⟩
  simp only;rw [KB h0 A0 j0];exact kR
 ·exact Zf
def Qt:AR P8:=⟨0,31,[3,17,18,19],[],λs=>[.os 0 1 0<|M s.out,s.m,s.k,s.i],λs=>[bV 3 A7 s.out],λv b=>⟨B4 Ae v 1,AK v 2,AK v 3,Ab A7 b 0⟩,z8,λs r=> {r with m:=s.m,k:=s.k},λs=>s,λ_ s=>s,[.exit 0],jd,Y9,sv⟩
abbrev aCT:=Qt.run
abbrev asH:=Qt.Aq
def axw:Rq Y9 z8:=by
 exact xC
def zl:List Bd:=[]
def aQ7:Qt.Ok:={}
def aPh:Qt.Pf (aAL):=⟨alP,λs h=>rfl,ag6,axw⟩
def apo:SA 0 aFp Qt:=s1 aQ7 aPh zl kN
def atv:Fi jd Y9 aAL asH aCT:=AR.fin aQ7 aPh
def aJ4:List LV->T LV
 | [.xq 9 q0]=>(match ([q0 0,q0 1,q0 2,q0 3,q0 4,q0 5,q0 6,q0 7,q0 8]:List LV) with
  | [.xl (.pair .str (.pair (.int J) (.pair (.int J) (.pair (.int J) (.pair (.pair (.int J) (.int J)) (.pair (.int J) (.pair (.int J) (.pair (.int J) (.pair (.int J) (.int J)))))))))) cs,.xl (.str) os,.xl (.pair .str (.pair (.int J) (.pair (.int J) (.int J)))) ks,.xl (.pair .str (.pair (.int J) (.pair (.int J) (.pair (.int J) (.pair (.int J) (.pair (.int J) (.pair (.int J) (.int J)))))))) gs,.xl (.pair .str (.int J)) bs,.xl (.pair (.int J) (.pair (.int J) (.pair (.int J) (.pair (.int J) (.int J))))) l,.xl (.pair .bool (.pair (.int J) (.pair (.int J) (.int J)))) d,.v (Y J t),.xl (.int J) od]=> .req ((M gs:Int)<=1000) (.ok<|.xl A7<|BP gs)
  |_=> .no)
 |_=> .no
def arn (cs:List Cd) (os:List ByteArray) (ks:List Ko) (gs:List Ch) (bs:List Ba) (l:List Le) (d:List Dm) (t:Int) (od:List Int):letI c:=(M gs:Int);letI a:=(aq c.toNat (0:Int));letI b:=(aCT (⟨gs,c,(0:Int),a⟩:P8));Bk prog AV (zl) kN (λi=>if i=3 then Qt.lp else Ag i) f140 [xQ 9 [cs,os,ks,gs,bs,l,d,t,.xl A7 od]]=.rm 8 c (.re c.toNat a<|.req (Qt.q (⟨gs,c,(0:Int),a⟩:P8))<|.rz b.out<|.ok<|.xl A7<|(b.out.drop 0).take<|M b.out):=AT
def aua:=vm (S:=aJ4) func140 zl kN (L:=(λi=>if i=3 then Qt.lp else Ag i)) (λb hb=>by
 rw [show BA _=[aFp] by kernel_rfl] at hb
 simp only [B8,Bu,Bt] at hb;subst hb;exact apo) (λargs lv h=>by
 refine ⟨?_⟩;unfold aJ4 at h;split at h
 ·split at h
  case h_2=>cases h
  rename_i heq0;simp only [canL,canX];rw [Dn (n:=9) heq0];simp only [canL,canX];rw [arn];rename_i cs os ks gs bs l d t od;obtain ⟨hn,rfl⟩:=h
  have hE:jd ⟨gs,(M gs:Int),0,aq (M gs:Int).toNat 0⟩:=⟨rfl,rfl,hn,AJ,λj _ _=>NV,ak⟩
  obtain ⟨_,_,q1,q2⟩:=atv _ hE
  have q2:(aCT ⟨gs,(M gs:Int),0,aq (M gs:Int).toNat 0⟩).out=BP gs:=q2
  refine ⟨A0,⟨rfl,AJ⟩,⟨hE,rfl,rfl⟩,A0,?_⟩
  show LV.xl _ _=_
  rw [CP,E6,q2]
 ·cases h)
structure Ow where
 cs:List Cd
 os:List ByteArray
 ks:List Ko
 gs:List Ch
 bs:List Ba
 l:List Le
 d:List Dm
 t:Int
 od:List Int
 m:List Ch
 (k i:Int)
 wanted:List Int
def aFm:=bN f139 0
def fm (s:Ow):T (Rd Ow):=letI a:=s.wanted.set s.i.toNat (AG s.m s.i).2.2.2.2.1;.br (an<|s.i<s.k) (.ix s.i (M s.m)<|.ix s.i (M s.d)<|.br (Dp s.d s.i).1 (.ik s.i (M s.wanted)<|.re (M s.wanted) a<|.nx {s with i:=AA<|s.i+1,wanted:=a})<|.rl s.wanted<|.nx {s with i:=AA<|s.i+1})<|.rl s.wanted<|.so (.exit 0) s
def iP (s:Ow):Prop:=s.i=0/\s.k=(M s.m:Int)/\s.k<=1000/\M s.wanted=M s.m/\(∀j,0<=j->j<s.k->gi s.wanted j=0)/\M s.d=M s.m
def Y6 (s:Ow):Prop:=(0<=s.i/\s.i<=s.k)/\s.k=(M s.m:Int)/\s.k<=1000/\M s.wanted=M s.m/\(∀j,0<=j->j<s.k->gi s.wanted j=if j<s.i then if (Dp s.d j).1=U then (AG s.m j).2.2.2.2.1 else 0 else 0)/\M s.d=M s.m
def fL (s:Ow):Nat:=(s.k-s.i).toNat
def aAI (x:Ex) (s s':Ow):Prop:=x=.exit 0/\s'.wanted=FC (M s'.m) (λj=>if (Dp s'.d j).1=U then (AG s'.m j).2.2.2.2.1 else 0)
theorem alH:∀s,iP s->Y6 s:=by
 exact Sd
theorem agV:Da Y6 fL aAI fm:=by
 intro s hI;unfold fm;obtain ⟨⟨h0,h1⟩,h2,h3,h4,h5,h6⟩:=hI;refine AH (λc1=>?_) λc1=>?_
 ·refine AH (λc2=>?_) (λc2=>?_)
  ·have c1:s.i<s.k:=AX
   rw [AI (x:=s.i+1)];refine ⟨⟨⟨AZ,AZ⟩,h2,h3,A8,λj j0 j1=>?_,h6⟩,by simp only [fL];omega⟩
   simp only;rw [KB h0 aH j0]
   by_cases e:j=s.i
   ·subst e
    grind
   ·exact xj
  ·have c1:s.i<s.k:=AX
   rw [AI (x:=s.i+1)];refine ⟨⟨⟨AZ,AZ⟩,h2,h3,h4,λj j0 j1=>?_,h6⟩,by simp only [fL];omega⟩
   simp only;rw [h5 j j0 j1]
   by_cases e:j=s.i
   ·subst e
    grind
   ·by_cases q:j<s.i
    ·omega
    ·omega
 ·have c1:s.k<=s.i:=AX
  exact xA
def Qr:AR Ow:=⟨0,53,[0,4,18,19,20],[],λs=>[xQ 9 [s.cs,s.os,s.ks,s.gs,s.bs,s.l,s.d,s.t,.xl A7 s.od],.os 0 1 0<|M s.wanted,s.m,s.k,s.i],λs=>[bV 3 A7 s.wanted],λv b=>⟨Ao Ad<|BT (v.getD 0 .junk) 0,Ao .str<|BT (v.getD 0 .junk) 1,Ao Ah<|BT (v.getD 0 .junk) 2,Ao Ae<|BT (v.getD 0 .junk) 3,Ao Ai<|BT (v.getD 0 .junk) 4,Ao AP<|BT (v.getD 0 .junk) 5,Ao Ak<|BT (v.getD 0 .junk) 6,gI<|BT (v.getD 0 .junk) 7,Ao A7<|BT (v.getD 0 .junk) 8,B4 Ae v 2,AK v 3,AK v 4,Ab A7 b 0⟩,fm,λs r=> {s with i:=r.i,wanted:=r.wanted},λs=>s,λ_ s=>s,[.exit 0],iP,Y6,fL⟩
abbrev aBp:=Qr.run
abbrev atN:=Qr.Aq
def axp:Rq Y6 fm:=by
 intro s hI;refine ⟨λc1=>⟨?_,?_,λc2=>⟨?_,?_,?_,ak⟩,λc2=>⟨A9,ak⟩⟩,λc1=>⟨A9,ak⟩⟩
 all_goals ((obtain ⟨⟨h0,h1⟩,h2,h3,h4,h5,h6⟩:=hI;(try simp only [Ac] at c1);first|omega|exact ⟨rfl,AJ⟩ |(omega)))
def zk:List Bd:=[aua,aJg]
def aQ1:Qr.Ok:={}
def aOW:Qr.Pf (aAI):=⟨alH,λs h=>rfl,agV,axp⟩
def aph:SA 0 aFm Qr:=s1 aQ1 aOW zk kN
def as4:Fi iP Y6 aAI atN aBp:=AR.fin aQ1 aOW
def aIx:List LV->T LV
 | [.xq 9 q0]=>(match ([q0 0,q0 1,q0 2,q0 3,q0 4,q0 5,q0 6,q0 7,q0 8]:List LV) with
  | [.xl (.pair .str (.pair (.int J) (.pair (.int J) (.pair (.int J) (.pair (.pair (.int J) (.int J)) (.pair (.int J) (.pair (.int J) (.pair (.int J) (.pair (.int J) (.int J)))))))))) cs,.xl (.str) os,.xl (.pair .str (.pair (.int J) (.pair (.int J) (.int J)))) ks,.xl (.pair .str (.pair (.int J) (.pair (.int J) (.pair (.int J) (.pair (.int J) (.pair (.int J) (.pair (.int J) (.int J)))))))) gs,.xl (.pair .str (.int J)) bs,.xl (.pair (.int J) (.pair (.int J) (.pair (.int J) (.pair (.int J) (.int J))))) l,.xl (.pair .bool (.pair (.int J) (.pair (.int J) (.int J)))) d,.v (Y J t),.xl (.int J) od]=> .req ((M gs:Int)<=1000/\M d=M gs) (.ok<|.AM [.xl A7<|Fb cs os ks gs bs (BP gs) (Iq gs d) od,shE cs os ks gs bs (BP gs) (Iq gs d) od])
  |_=> .no)
 |_=> .no
def arj (cs:List Cd) (os:List ByteArray) (ks:List Ko) (gs:List Ch) (bs:List Ba) (l:List Le) (d:List Dm) (t:Int) (od:List Int):letI b:=(M gs:Int);letI c:=(aq b.toNat (0:Int));letI a:=(aBp (⟨cs,os,ks,gs,bs,l,d,t,od,gs,b,(0:Int),c⟩:Ow));letI e:=(a.wanted.drop 0).take<|M a.wanted;Bk prog AV (zk) kN (λi=>if i=3 then Qr.lp else Ag i) f139 [xQ 9 [cs,os,ks,gs,bs,l,d,t,.xl A7 od]]=.rm 8 b (.re b.toNat c<|.req (Qr.q (⟨cs,os,ks,gs,bs,l,d,t,od,gs,b,(0:Int),c⟩:Ow))<|.req (b<=1000)<|.rz a.wanted<|.ok<|.AM [.xl A7<|Fb cs os ks gs bs (BP gs) e od,shE cs os ks gs bs (BP gs) e od]):=AT
def auV:=vm (S:=aIx) func139 zk kN (L:=(λi=>if i=3 then Qr.lp else Ag i)) (λb hb=>by
 rw [show BA _=[aFm] by kernel_rfl] at hb
 simp only [B8,Bu,Bt] at hb;subst hb;exact aph) (λargs lv h=>by
 refine ⟨?_⟩;unfold aIx at h;split at h
 ·split at h
  case h_2=>cases h
  rename_i heq0;simp only [canL,canX];rw [Dn (n:=9) heq0];simp only [canL,canX];rw [arj];rename_i cs os ks gs bs l d t od;obtain ⟨⟨hn,hd⟩,rfl⟩:=h
  have hE:iP ⟨cs,os,ks,gs,bs,l,d,t,od,gs,(M gs:Int),0,aq (M gs:Int).toNat 0⟩:=⟨rfl,rfl,hn,AJ,λj _ _=>NV,hd⟩
  obtain ⟨_,_,q1,q2⟩:=as4 _ hE
  have q2:(aBp ⟨cs,os,ks,gs,bs,l,d,t,od,gs,(M gs:Int),0,aq (M gs:Int).toNat 0⟩).wanted=Iq gs d:=q2
  refine ⟨A0,⟨rfl,AJ⟩,⟨hE,rfl,rfl⟩,hn,A0,?_⟩
  show LV.AM [LV.xl _ _,_]=_
  rw [CP,E6,q2]
 ·cases h)
structure Ot where
 m:List Ch
 (k i:Int)
 out:List Int
def yz (s:Ot):T (Rd Ot):=letI a:=s.out.set s.i.toNat (AG s.m s.i).2.2.2.2.2.2.1;.br (an<|s.i<s.k) (.ix s.i (M s.m)<|.ik s.i (M s.out)<|.re (M s.out) a<|.nx {s with i:=AA<|s.i+1,out:=a})<|.rl s.out<|.so (.exit 0) s
def jc (s:Ot):Prop:=s.i=0/\s.k=(M s.m:Int)/\s.k<=1000/\M s.out=M s.m/\(∀j,0<=j->j<s.k->gi s.out j=0)/\True
def Y8 (s:Ot):Prop:=(0<=s.i/\s.i<=s.k)/\s.k=(M s.m:Int)/\s.k<=1000/\M s.out=M s.m/\(∀j,0<=j->j<s.k->gi s.out j=if j<s.i then CW (AG s.m j) else 0)/\True
def su (s:Ot):Nat:=(s.k-s.i).toNat
def aAK (x:Ex) (s s':Ot):Prop:=x=.exit 0/\s'.out=FC (M s'.m) (λj=>CW<|AG s'.m j)
theorem alM:∀s,jc s->Y8 s:=by
 exact Sd
theorem agc:Da Y8 su aAK yz:=by
 intro s hI;obtain ⟨⟨h0,h1⟩,h2,h3,h4,h5,h6⟩:=hI;refine AH (λc1=>?_) λc1=>?_
 ·have c1:s.i<s.k:=AX
  rw [AI (x:=s.i+1)];refine ⟨⟨⟨A8,A8⟩,h2,h3,A8,λj j0 j1=>?_,h6⟩,by simp only [su];omega⟩
  simp only;rw [KB h0 aH j0];exact kR
 ·exact Zf
def Z3:AR Ot:=⟨0,31,[3,17,18,19],[],λs=>[.os 0 1 0<|M s.out,s.m,s.k,s.i],λs=>[bV 3 A7 s.out],λv b=>⟨B4 Ae v 1,AK v 2,AK v 3,Ab A7 b 0⟩,yz,λs r=> {r with m:=s.m,k:=s.k},λs=>s,λ_ s=>s,[.exit 0],jc,Y8,su⟩
abbrev bX:=Z3.run
abbrev asG:=Z3.Aq
def Qf:List Bd:=[WR,auV,aJg]
def akJ:Ax:=kI Qf<|l0 Qf
def axu:Rq Y8 yz:=by
 exact xC
def aQ6:Z3.Ok:={}
def aPg:Z3.Pf (aAK):=⟨alM,λs h=>rfl,agc,axu⟩
def apl:=s2 (b:=bN f140 0) aQ6 aPg Qf akJ
def asA:Fi jc Y8 aAK asG bX:=AR.fin aQ6 aPg
structure Ox where
 cs:List Cd
 os:List ByteArray
 ks:List Ko
 gs:List Ch
 bs:List Ba
 l:List Le
 d:List Dm
 t:Int
 (od targets m:List Int)
 (k i:Int)
 alive:List Int
def aFn:=bN f93 0
def yx (s:Ox):T (Rd Ox):=letI b:=s.alive.getD s.i.toNat<|Ty.dflt A7;letI c:=M s.alive;letI a:=s.alive.set s.i.toNat (if b<(gi s.m s.i) then (gi s.m s.i) else b);.br (an<|s.i<s.k) (.ix s.i (M s.m)<|.ik s.i c<|.ik s.i c<|.re c a<|.nx {s with i:=AA<|s.i+1,alive:=a})<|.rl s.alive<|.so (.exit 0) s
def ja (s:Ox):Prop:=s.i=0/\s.k=(M s.m:Int)/\s.k<=1000/\M s.alive=M s.m/\(∀j,0<=j->j<s.k->gi s.alive j=CW (AG s.gs j))/\True
def Y7 (s:Ox):Prop:=(0<=s.i/\s.i<=s.k)/\s.k=(M s.m:Int)/\s.k<=1000/\M s.alive=M s.m/\(∀j,0<=j->j<s.k->gi s.alive j=if j<s.i then mx (CW<|AG s.gs j) (gi s.m j) else CW (AG s.gs j))/\True
def sq (s:Ox):Nat:=(s.k-s.i).toNat
def aAJ (x:Ex) (s s':Ox):Prop:=x=.exit 0/\s'.alive=FC (M s'.m) (λj=>mx (CW<|AG s'.gs j)<|gi s'.m j)
theorem alK:∀s,ja s->Y7 s:=by
 exact Sd
theorem agZ:Da Y7 sq aAJ yx:=by
 intro s hI;obtain ⟨⟨h0,h1⟩,h2,h3,h4,h5,h6⟩:=hI;refine AH (λc1=>?_) λc1=>?_
 ·have c1:s.i<s.k:=AX
  rw [AI (x:=s.i+1)];refine ⟨⟨⟨A8,A8⟩,h2,h3,A8,λj j0 j1=>?_,h6⟩,by simp only [sq];omega⟩
  simp only
  have hi:=h5 s.i h0 c1
  rw [AE (show ¬s.i<s.i by omega)] at hi
  rw [KB h0 aH j0]
  by_cases e:j=s.i
  ·subst e
   rw [AD rfl,AD (show s.i<s.i+1 by omega)]
   show mx (gi s.alive s.i) (gi s.m s.i)=_
   rw [hi]
  ·exact xj
 ·have c1:s.k<=s.i:=AX
  exact xA
def Qs:AR Ox:=⟨0,71,[0,4,7,41,42,43],[],λs=>[xQ 9 [s.cs,s.os,s.ks,s.gs,s.bs,s.l,s.d,s.t,.xl A7 s.od],.xl A7 s.targets,.os 0 1 0<|M s.alive,.xl A7 s.m,s.k,s.i],λs=>[bV 3 A7 s.alive],λv b=>⟨Ao Ad<|BT (v.getD 0 .junk) 0,Ao .str<|BT (v.getD 0 .junk) 1,Ao Ah<|BT (v.getD 0 .junk) 2,Ao Ae<|BT (v.getD 0 .junk) 3,Ao Ai<|BT (v.getD 0 .junk) 4,Ao AP<|BT (v.getD 0 .junk) 5,Ao Ak<|BT (v.getD 0 .junk) 6,gI<|BT (v.getD 0 .junk) 7,Ao A7<|BT (v.getD 0 .junk) 8,B4 A7 v 1,B4 A7 v 3,AK v 4,AK v 5,Ab A7 b 0⟩,yx,λs r=> {s with i:=r.i,alive:=r.alive},λs=>s,λ_ s=>s,[.exit 0],ja,Y7,sq⟩
abbrev aBq:=Qs.run
abbrev asF:=Qs.Aq
def axs:Rq Y7 yx:=by
 intro s hI;refine ⟨λc1=>⟨?_,?_,?_,?_,?_,?_,ak⟩,λc1=>⟨A9,ak⟩⟩
 all_goals ((obtain ⟨⟨h0,h1⟩,h2,h3,h4,h5,h6⟩:=hI;(try simp only [Ac] at c1);first|omega|exact ⟨rfl,AJ⟩ |(omega)))
def zp:Ax:=kI Qf<|la 3 func140 apl<|l0 Qf
def aQ4:Qs.Ok:={}
def aPe:Qs.Pf (aAJ):=⟨alK,λs h=>rfl,agZ,axs⟩
def apj:SA 0 aFn Qs:=s1 aQ4 aPe Qf zp
def as8:Fi ja Y7 aAJ asF aBq:=AR.fin aQ4 aPe
def aJ0:List LV->T LV
 | [.xq 9 q0]=>(match ([q0 0,q0 1,q0 2,q0 3,q0 4,q0 5,q0 6,q0 7,q0 8]:List LV) with
  | [.xl (.pair .str (.pair (.int J) (.pair (.int J) (.pair (.int J) (.pair (.pair (.int J) (.int J)) (.pair (.int J) (.pair (.int J) (.pair (.int J) (.pair (.int J) (.int J)))))))))) cs,.xl (.str) os,.xl (.pair .str (.pair (.int J) (.pair (.int J) (.int J)))) ks,.xl (.pair .str (.pair (.int J) (.pair (.int J) (.pair (.int J) (.pair (.int J) (.pair (.int J) (.pair (.int J) (.int J)))))))) gs,.xl (.pair .str (.int J)) bs,.xl (.pair (.int J) (.pair (.int J) (.pair (.int J) (.pair (.int J) (.int J))))) l,.xl (.pair .bool (.pair (.int J) (.pair (.int J) (.int J)))) d,.v (Y J t),.xl (.int J) od]=> .req (M d=M gs/\G0 cs os ks gs bs (BP gs) (Iq gs d) od=U/\LZ l (M gs:Int) t=U/\G0 cs os ks gs bs (Hh gs l t) (Fb cs os ks gs bs (BP gs) (Iq gs d) od) od=U) (.ok<|.AM [.xl A7<|ofO cs os ks gs bs l d t od,(0:Int)])
  |_=> .no)
 |_=> .no
def ark (cs:List Cd) (os:List ByteArray) (ks:List Ko) (gs:List Ch) (bs:List Ba) (l:List Le) (d:List Dm) (t:Int) (od:List Int):letI b:=(M gs:Int);letI c:=(aq b.toNat (0:Int));letI e:=Fb cs os ks gs bs (BP gs) (Iq gs d) od;letI f:=(bX (⟨gs,b,(0:Int),c⟩:Ot));letI h:=shE cs os ks gs bs (BP gs) (Iq gs d) od;letI j:=(M (Gr l b t):Int);letI a:=(aBq (⟨cs,os,ks,gs,bs,l,d,t,od,e,Gr l b t,j,(0:Int),f.out⟩:Ox));letI g:=(a.alive.drop 0).take<|M a.alive;Bk prog AV Qf zp (λi=>if i=9 then Qs.lp else Ag i) f93 [xQ 9 [cs,os,ks,gs,bs,l,d,t,.xl A7 od]]=.req (b<=1000/\M d=M gs) (.br (h !=0) (.ok<|.AM [.xl A7 ([]:List Int),h])<|.br ((Kb l b t) !=0) (.ok<|.AM [.xl A7 ([]:List Int),Kb l b t])<|.rm 8 b<|.re b.toNat c<|.req (Z3.q (⟨gs,b,(0:Int),c⟩:Ot))<|.rl f.out<|.req (Qs.q (⟨cs,os,ks,gs,bs,l,d,t,od,e,Gr l b t,j,(0:Int),f.out⟩:Ox))<|.rz a.alive<|.ok<|.AM [.xl A7<|Fb cs os ks gs bs g e od,shE cs os ks gs bs g e od]):=AT
def auW:=vm (S:=aJ0) func93 Qf zp (L:=(λi=>if i=9 then Qs.lp else Ag i)) (λb hb=>by
 rw [show BA _=[aFn] by kernel_rfl] at hb
 simp only [B8,Bu,Bt] at hb;subst hb;exact apj) (λargs lv h=>by
 refine ⟨?_⟩;unfold aJ0 at h;split at h
 ·split at h
  case h_2=>cases h
  rename_i heq0;simp only [canL,canX];rw [Dn (n:=9) heq0];simp only [canL,canX];rw [ark];rename_i cs os ks gs bs l d t od;obtain ⟨⟨hd,hk,hv,hk2⟩,rfl⟩:=h
  have gl:=(DD.1 (L9.1 hk).1).1.2.2.2.2.1
  have ea:Gr l (M gs:Int) t=Lm (M gs) l t:=by unfold Gr;rw [AD hv,C3]
  rw [aar hk,show Kb l (M gs:Int) t=0 by unfold Kb;rw [AD hv]]
  refine ⟨⟨A0,hd⟩,λc=>absurd c Aa,λ_=>⟨λc=>absurd c Aa,λ_=>?_⟩⟩
  have hE:jc ⟨gs,(M gs:Int),0,aq (M gs:Int).toNat 0⟩:=⟨rfl,rfl,AZ,AJ,λj _ _=>NV,ak⟩
  obtain ⟨_,_,q1,q2⟩:=asA _ hE
  have q2:(bX ⟨gs,(M gs:Int),0,aq (M gs:Int).toNat 0⟩).out=BP gs:=q2
  have hE2:ja ⟨cs,os,ks,gs,bs,l,d,t,od,Fb cs os ks gs bs (BP gs) (Iq gs d) od,Gr l (M gs:Int) t,(M (Gr l (M gs:Int) t):Int),0,(bX ⟨gs,(M gs:Int),0,aq (M gs:Int).toNat 0⟩).out⟩:=⟨rfl,rfl,by simp only;rw [ea,cN];omega,by simp only;rw [q2,ea,cN];exact I2,λj j0 j1=>by
   simp only at j1|-;rw [ea,cN] at j1;rw [q2];exact Q5 j0 j1,ak⟩
  obtain ⟨_,_,q3,q4⟩:=as8 _ hE2
  have q4:(aBq ⟨cs,os,ks,gs,bs,l,d,t,od,Fb cs os ks gs bs (BP gs) (Iq gs d) od,Gr l (M gs:Int) t,(M (Gr l (M gs:Int) t):Int),0,(bX ⟨gs,(M gs:Int),0,aq (M gs:Int).toNat 0⟩).out⟩).alive=Hh gs l t:=q4.trans (by
   show FC (M<|Gr l (M gs:Int) t) (λj=>mx (CW<|AG gs j)<|gi (Gr l (M gs:Int) t) j)=_
   rw [ea,cN];rfl)
  refine ⟨A0,⟨rfl,AJ⟩,⟨hE,rfl,rfl⟩,A9,⟨hE2,rfl,rfl⟩,A0,?_⟩
  show LV.AM [LV.xl _ _,_]=_
  rw [CP,E6,q4,aar hk2];rfl
 ·cases h)
def yv:Array Tmp×Code×Code:=((Ii<|f95.body.getD .skip)[0]?).getD (#[],.skip,.skip)
def aju:Array Tmp:=yv.1
def ajR:Code:=yv.2.1
def ak2:Code:=yv.2.2
structure Mp where
 i:Int
 cs:List Cd
 os:List ByteArray
 ks:List Ko
 gs:List Ch
 bs:List Ba
 l:List Le
 d:List Dm
 t:Int
 od:List Int
 (c a:Int)
 r:Bool
 m:List Le
 st:LS
def yy (s:Mp):T (Rd Mp):=
 .br (an<|s.i>=0) (.ix s.i (M s.m)<|.br ((At s.m s.i).2.1==s.c) (.so (.ret) {s with r:=(((At s.m s.i).2.2.1 !=s.a) ||(an<|(At s.m s.i).2.2.2.1<=(AA<|s.t-6))),st:=.done<|.ret})<|.nx {s with i:=AA<|s.i-1}) (.so (.exit 0) s)
def jb (s:Mp):Prop:=s.st=.ready/\s.i=(M s.m:Int)-1/\(M s.m:Int)<=1000/\0<=s.t/\s.t<=1000000
def jL (s:Mp):Prop:=s.st=.ready/\(-1<=s.i/\s.i<(M s.m:Int))/\(M s.m:Int)<=1000/\0<=s.t/\s.t<=1000000
def ss (s:Mp):Nat:=(s.i+1).toNat
def ac2 (x:Ex) (s s':Mp):Prop:=True
def alL:∀s,jb s->jL s:=by
 rintro s ⟨h0,h1,h2⟩
 exact ⟨h0,A0,h2⟩
theorem aga:Da jL ss ac2 yy:=by
 intro s hI;obtain ⟨hs,⟨h0,h1⟩,h2⟩:=hI;refine AH (λc1=>AH (λc2=>trivial) λc2=>?_) λc1=>trivial
 have c1:0<=s.i:=A8
 rw [AI (x:=s.i-1)];exact ⟨⟨hs,⟨A8,A8⟩,h2⟩,by simp only [ss];omega⟩
def Yz:AR Mp:=⟨6,19,[0,1,3],[],λs=>[.CO 5,.own 4 0,s.i],λs=>[⟨[xQ 9 [s.cs,s.os,s.ks,s.gs,s.bs,s.l,s.d,s.t,.xl A7 s.od]],194,.cl,X⟩,⟨[s.c],3,.cl,X⟩,⟨[s.a],3,.cl,X⟩,⟨[s.r],4,.cl,X⟩,⟨[s.m],34,.cl,X⟩,⟨[.junk,.junk,.junk,.own 0 0,.own 1 0,.own 2 0,.own 3 0,.junk,.v<|.tuple #[],.junk,.junk,.junk,.junk,.junk,.junk,.junk,.junk,.junk,.junk,.junk,.junk,.junk,.junk,.junk,.junk,.junk,.v<|.tuple #[],.v<|.tuple #[],.v<|.tuple #[],.v<|.tuple #[],.v<|.tuple #[],.v<|.tuple #[],.v<|.tuple #[],.v<|.tuple #[],.v<|.tuple #[],.v<|.tuple #[],.v<|.tuple #[],.v<|.tuple #[],.v<|.tuple #[],.v<|.tuple #[],.v<|.tuple #[],.v<|.tuple #[],.v<|.tuple #[],.v<|.tuple #[],.v<|.tuple #[]],0,.Cg aju ajR ak2 s.st,X⟩],λv b=>⟨AK v 2,Ao Ad<|BT (BB (CU b 0) 0) 0,Ao .str<|BT (BB (CU b 0) 0) 1,Ao Ah<|BT (BB (CU b 0) 0) 2,Ao Ae<|BT (BB (CU b 0) 0) 3,Ao Ai<|BT (BB (CU b 0) 0) 4,Ao AP<|BT (BB (CU b 0) 0) 5,Ao Ak<|BT (BB (CU b 0) 0) 6,gI<|BT (BB (CU b 0) 0) 7,Ao A7<|BT (BB (CU b 0) 0) 8,Aj b 1 0,Aj b 2 0,Kn b 3 0,AF AP b 4 0,.ready⟩,yy,λs r=> {r with cs:=s.cs,os:=s.os,ks:=s.ks,gs:=s.gs,bs:=s.bs,l:=s.l,d:=s.d,t:=s.t,od:=s.od,c:=s.c,a:=s.a,m:=s.m},λs=> {s with st:=.ready},λx s=> {s with st:=(match x with| .ret=>(.done<|.ret) | .exit 0=> .ready|_=> .ready)},[.ret,.exit 0],jb,jL,ss⟩
abbrev aGq:=Yz.run
abbrev aI6:=Yz.Aq
def R4:List Bd:=[]
def akH:Ax:=kI R4<|l0 R4
def axt:Rq jL yy:=by
 intro s hI;refine ⟨λc1=>⟨?_,λ_=>trivial,λ_=>trivial⟩,λ_=>trivial⟩
 ·(obtain ⟨hs,⟨h0,h1⟩,h2⟩:=hI;simp only [Ac] at c1;omega)
def aQ5:Yz.Ok:={}
def aPf:Yz.Pf (ac2):=⟨alL,λs h=>by
 obtain ⟨i,cs,os,ks,gs,bs,l,d,t,od,c,a,r,m,st⟩:=s
 have e:=h.1
 subst e;rfl,aga,axt⟩
def apk:=s2 (b:=bN f186 0) aQ5 aPf R4 akH
theorem as9:Rs jb aI6 aGq (λs:Mp=>nwO s.a s.t<|(s.m.take (s.i+1).toNat).reverse.find? λx=>x.2.1==s.c) (λx s' (v:Bool)=>(x=.ret/\s'.r=v)\/(x=.exit 0/\v=U)):=DJ aQ5 aPf (λs hI=>by
  obtain ⟨hs,⟨h0,h1⟩,h2⟩:=hI;refine AH (λc1=>?_) λc1=>?_
  ·have c1:0<=s.i:=A8
   have e:=(W4 c1 (show s.i<(M s.m:Int) by omega)).2
   refine AH (λc2=> .inl ⟨rfl,?_⟩) λc2=>?_
   ·rw [e,List.reverse_append]
    show _=nwO s.a s.t (List.find? _ (At s.m s.i::_))
    rw [List.find?_cons_of_pos<|by exact c2]
    simp only [nwO];rw [AI (x:=s.t-6)]
   ·show nwO _ _ _=nwO _ _ _
    rw [AI (x:=s.i-1),e,List.reverse_append]
    show _=nwO s.a s.t (List.find? _ (At s.m s.i::_))
    rw [List.find?_cons_of_neg A8,show (s.i-1+1).toNat=s.i.toNat by omega]
    rfl
  ·have c1:s.i<0:=A8
   refine .inr ⟨rfl,?_⟩;rw [show (s.i+1).toNat=0 by omega]
   rfl)
def aJ1:List LV->T LV
 | [.xq 9 q0,.v (Y J i),.v (Y J a)]=>(match ([q0 0,q0 1,q0 2,q0 3,q0 4,q0 5,q0 6,q0 7,q0 8]:List LV) with
  | [.xl (.pair .str (.pair (.int J) (.pair (.int J) (.pair (.int J) (.pair (.pair (.int J) (.int J)) (.pair (.int J) (.pair (.int J) (.pair (.int J) (.pair (.int J) (.int J)))))))))) cs,.xl (.str) os,.xl (.pair .str (.pair (.int J) (.pair (.int J) (.int J)))) ks,.xl (.pair .str (.pair (.int J) (.pair (.int J) (.pair (.int J) (.pair (.int J) (.pair (.int J) (.pair (.int J) (.int J)))))))) gs,.xl (.pair .str (.int J)) bs,.xl (.pair (.int J) (.pair (.int J) (.pair (.int J) (.pair (.int J) (.int J))))) l,.xl (.pair .bool (.pair (.int J) (.pair (.int J) (.int J)))) d,.v (Y J t),.xl (.int J) od]=> .req ((0<=i/\i<(M gs:Int))/\(M l:Int)<=1000/\0<=t/\t<=1000000) (.ok<|nwB gs l t i a)
  |_=> .no)
 |_=> .no
def abd:Ax:=kI R4<|la 1 func186 apk<|l0 R4
def arl (cs:List Cd) (os:List ByteArray) (ks:List Ko) (gs:List Ch) (bs:List Ba) (l:List Le) (d:List Dm) (t:Int) (od:List Int) (i a:Int):letI b:=(AA<|(M l:Int)-1);Bk prog AV (R4) abd Ag f95 [xQ 9 [cs,os,ks,gs,bs,l,d,t,.xl A7 od],i,a]=.ix i (M gs) (.br (an<|a<=(AG gs i).2.2.2.2.2.2.1) (.ok X)<|.req (Yz.q (⟨b,cs,os,ks,gs,bs,l,d,t,od,i,a,X,l,.ready⟩:Mp))<|.br (Bj (aI6 (⟨b,cs,os,ks,gs,bs,l,d,t,od,i,a,X,l,.ready⟩:Mp))<|.ret) (.ok (aGq (⟨b,cs,os,ks,gs,bs,l,d,t,od,i,a,X,l,.ready⟩:Mp)).r)<|.ok U):=AT
def auX:=vo (S:=aJ1) func95 R4 abd (λargs lv h=>by
 refine ⟨?_⟩;unfold aJ1 at h;split at h
 ·split at h
  case h_2=>cases h
  rename_i heq0;simp only [canL,canX];rw [Dn (n:=9) heq0];simp only [canL,canX];rw [arl];rename_i i a _ cs os ks gs bs l d t od;obtain ⟨⟨hi,hl,ht⟩,rfl⟩:=h;refine ⟨hi,λc=>B1 (λz=>LV.v<|.bool z) ?_,λc=>?_⟩
  ·have c:a<=CW (AG gs i):=DC c
   unfold nwB;rw [DB c];rfl
  have c:¬a<=CW (AG gs i):=JE c
  have hE:jb ⟨AA<|(M l:Int)-1,cs,os,ks,gs,bs,l,d,t,od,i,a,X,l,.ready⟩:=⟨rfl,by show AA ((M l:Int)-1)=_;rw [AI],hl,ht⟩
  have ev:nwB gs l t i a=nwO a t ((l.take (AA ((M l:Int)-1)+1).toNat).reverse.find? λx=>x.2.1==i):=by
   unfold nwB;rw [I1 c,AI (x:=(M l:Int)-1),show ((M l:Int)-1+1).toNat=M l by omega,E6]
   rfl
  refine ⟨⟨hE,rfl,rfl⟩,?_⟩;rcases as9 _ hE with ⟨q1,q2⟩ |⟨q1,q2⟩<;>rw [q1]
  ·exact ⟨λ_=>B1 (λz=>LV.v<|.bool z)<|q2.trans ev.symm,λh=>An⟩
  ·exact ⟨λh=>An,λ_=>B1 (λz=>LV.v<|.bool z)<|q2.symm.trans ev.symm⟩
 ·cases h)
def aFW:List LV->T LV
 | [.v (Y J x)]=> .ok X
 |_=> .no
def XD:List Bd:=[]
def ap3:=vo (S:=aFW) func175 XD kN (λargs lv h=>by
 unfold aFW at h;split at h
 ·rename_i x
  refine Ap (.ok<|.v<|.bool<|x !=x) ?_;obtain rfl:=h;exact B1 (λz=>LV.v<|.bool z) AJ
 ·cases h)
def aJ8:List LV->T LV
 | [.v (Y J x),.v (Y J y)]=> .ok (cm x y)
 |_=> .no
def aln:List Bd:=[ap3]
def auf:=vo (S:=aJ8) func134 aln kN (λargs lv h=>by
 unfold aJ8 at h;split at h
 ·rename_i x y
  refine Ap (.br X (.br X (.ok (0:Int))<|.ok<|.v<|Y J (-1))<|.br X (.ok (1:Int))<|.br (an<|x<y) (.ok<|.v<|Y J (-1))<|.br (an<|x>y) (.ok (1:Int))<|.ok (0:Int)) ?_;obtain rfl:=h;unfold cm;refine ⟨λh=>An,λ_=>⟨λh=>An,λ_=>⟨λc=>?_,λc=>⟨λc2=>?_,λc2=>?_⟩⟩⟩⟩<;>refine B1 (λz=>LV.v<|Y J z) ?_
  ·grind
  ·grind
  ·grind
 ·cases h)
structure Ma where
 (r z:Int)
 l:List Int
 (n i:Int)
def aFq:=bN f133 0
def zC (s:Ma):T (Rd Ma):=
 .br (an<|s.i<s.n) (.ix s.i (M s.l)<|.br ((gi s.l s.i) !=s.z) (.so (.ret) {s with r:=gi s.l s.i})<|.nx {s with i:=AA<|s.i+1}) (.so (.exit 0) s)
def jg (s:Ma):Prop:=s.i=0/\s.n=(M s.l:Int)/\s.n<=1000/\s.z=0
def jM (s:Ma):Prop:=(0<=s.i/\s.i<=s.n)/\s.n=(M s.l:Int)/\s.n<=1000/\s.z=0
def tC (s:Ma):Nat:=(s.n-s.i).toNat
def ac3 (x:Ex) (s s':Ma):Prop:=True
def aky:∀s,jg s->jM s:=by
 exact aMX
theorem ahh:Da jM tC ac3 zC:=by
 intro s hI;obtain ⟨⟨h0,h1⟩,h2,h3,h4⟩:=hI;refine AH (λc1=>?_) λc1=>?_
 ·refine AH (λc2=>?_) (λc2=>?_)
  ·exact ak
  ·have c1:s.i<s.n:=A8
   rw [AI (x:=s.i+1)];exact ⟨⟨⟨A8,A8⟩,h2,h3,h4⟩,by simp only [tC];omega⟩
 ·exact ak
def RY:AR Ma:=⟨0,18,[2,3,6,7,8],[],λs=>[s.r,s.z,.xl A7 s.l,s.n,s.i],λ_=>[],λv b=>⟨AK v 0,AK v 1,B4 A7 v 2,AK v 3,AK v 4⟩,zC,λs r=> {s with r:=r.r,i:=r.i},λs=>s,λ_ s=>s,[.ret,.exit 0],jg,jM,tC⟩
abbrev aGs:=RY.run
abbrev aI7:=RY.Aq
def axz:Rq jM zC:=by
 intro s hI;refine ⟨λc1=>⟨?_,λ_=>trivial,λ_=>trivial⟩,λ_=>trivial⟩
 ·(obtain ⟨⟨h0,h1⟩,h2,h3⟩:=hI;simp only [Ac] at c1;omega)
def aQA:RY.Ok:={}
def aPk:RY.Pf (ac3):=⟨aky,λs h=>rfl,ahh,axz⟩
def apq:SA 0 aFq RY:=s1 aQA aPk XD kN
theorem au0:Rs jg aI7 aGs (λs:Ma=>orI<|s.l.drop s.i.toNat) (λx s' (v:Int)=>(x=.ret/\s'.r=v)\/(x=.exit 0/\s'.z=v)):=DJ aQA aPk (λs hI=>by
  obtain ⟨⟨h0,h1⟩,h2,h3,h4⟩:=hI;refine AH (λc1=>?_) λc1=>?_
  ·have c1:s.i<s.n:=A8
   have e:=(gi_step h0 (show s.i<(M s.l:Int) by omega)).1
   rw [AI (x:=s.i+1)];refine AH (λc2=>?_) λc2=>?_
   ·refine .inl ⟨rfl,?_⟩
    rw [e,orI,AD A8]
   ·show orI _=orI _
    rw [e,orI,AE A8]
  ·have c1:s.n<=s.i:=A8
   refine .inr ⟨rfl,?_⟩;rw [Ef A0,h4];rfl)
def aJ9:List LV->T LV
 | [.xl (.int J) l]=> .req ((M l:Int)<=1000) (.ok<|orI l)
 |_=> .no
def aug:=vm (S:=aJ9) func133 XD kN (L:=(λi=>if i=3 then RY.lp else Ag i)) (λb hb=>by
 rw [show BA _=[aFq] by kernel_rfl] at hb
 simp only [B8,Bu,Bt] at hb;subst hb;exact apq) (λargs lv h=>by
 unfold aJ9 at h;split at h
 ·rename_i l
  refine Ap (letI a:=(M l:Int);.req (RY.q (⟨0,0,l,a,0⟩:Ma))<|.br (Bj (aI7 (⟨0,0,l,a,0⟩:Ma))<|.ret) (.ok (aGs (⟨0,0,l,a,0⟩:Ma)).r)<|.ok (0:Int)) ?_;obtain ⟨hl,rfl⟩:=h
  have hE:jg ⟨0,0,l,(M l:Int),0⟩:=⟨rfl,rfl,hl,rfl⟩
  refine ⟨⟨hE,rfl,rfl⟩,?_⟩;rcases au0 _ hE with ⟨q1,q2⟩ |⟨q1,q2⟩<;>rw [q1]
  ·exact ⟨λ_=>B1 (λz=>LV.v<|Y J z) q2,λh=>An⟩
  ·exact ⟨λh=>An,λ_=>B1 (λz=>LV.v<|Y J z) q2⟩
 ·cases h)
def aJC:List LV->T LV
 | [.v (Y J i),.xq 1 q0,.xq 1 q1]=>(match ([q0 0]:List LV) with
  | [.xl (.pair .bool (.pair (.int J) (.pair (.int J) (.int J)))) d]=>(match ([q1 0]:List LV) with
  | [.v (Y J t)]=> .req (IF d t/\0<=i/\i<(M d:Int)) (.ok<|slk d t i)
  |_=> .no)
  |_=> .no)
 |_=> .no
def arY (i:Int) (d:List Dm) (t:Int):Bk prog AV (XD) kN Ag f130 [i,xQ 1 [d],xQ 1 [t]]=.ix i (M d) (.ix i (M d)<|.ok<|AA<|(AA<|(Dp d i).2.2.1-t)-(Dp d i).2.1):=AT
def qn:=vo (S:=aJC) func130 XD kN (λargs lv h=>by
 refine ⟨?_⟩;unfold aJC at h;split at h
 ·split at h
  case h_2=>cases h
  rename_i heq0;split at h
  case h_2=>cases h
  rename_i heq1;simp only [canL,canX];rw [Dn (n:=1) heq0];rw [Dn (n:=1) heq1];simp only [canL,canX];rw [arY];rename_i i _ _ _ d _ t;obtain ⟨⟨hw,hi⟩,rfl⟩:=h
  have b:=aur hw hi.1 hi.2
  have ht:=hw.2
  refine ⟨hi,hi,B1 (λz=>LV.v<|Y J z) ?_⟩
  unfold slk;rw [AI (x:=(Dp d i).2.2.1-t),AI]
 ·cases h)
def aS9:List LV->T LV
 | [.v (Y J a),.v (Y J b),.xq 1 q0,.xq 1 q1]=>(match ([q0 0]:List LV) with
  | [.xl (.pair .bool (.pair (.int J) (.pair (.int J) (.int J)))) d]=>(match ([q1 0]:List LV) with
  | [.fn 130 [.xq 1 q2,.xq 1 q3]]=>(match ([q2 0]:List LV) with
  | [.xl (.pair .bool (.pair (.int J) (.pair (.int J) (.int J)))) e]=>(match ([q3 0]:List LV) with
  | [.v (Y J t)]=> .req (d=e/\IF d t/\(0<=a/\a<(M d:Int))/\0<=b/\b<(M d:Int)) (.ok<|cmD d t a b)
  |_=> .no)
  |_=> .no)
  |_=> .no)
  |_=> .no)
 |_=> .no
def abL:List Bd:=[qn,aug,auf]
def ayV (a b:Int) (d e:List Dm) (t:Int):letI c:=cm (Dp d a).2.2.2 (Dp d b).2.2.2;letI f:=cm (slk e t a)<|slk e t b;Bk prog AV (abL) kN Ag f132 [a,b,xQ 1 [d],xQ 1 [.fn 130 [xQ 1 [e],xQ 1 [t]]]]=.ix a (M d) (.ix b (M d)<|.req (IF e t/\0<=a/\a<(M e:Int))<|.req (IF e t/\0<=b/\b<(M e:Int))<|.req ((M ([c,f,cm a b]):Int)<=1000)<|.ok<|orI<|[c,f,cm a b]):=AT
def aaD:=vo (S:=aS9) func132 abL kN (λargs lv h=>by
 refine ⟨?_⟩;unfold aS9 at h;split at h
 ·split at h
  case h_2=>cases h
  rename_i heq0;split at h
  case h_2=>cases h
  rename_i heq1;split at h
  case h_2=>cases h
  rename_i heq2;split at h
  case h_2=>cases h
  rename_i heq3;simp only [canL,canX];rw [Dn (n:=1) heq0];rw [Dn (n:=1) heq1];simp only [canL,canX];rw [Dn (n:=1) heq2];rw [Dn (n:=1) heq3];simp only [canL,canX];rw [ayV];rename_i a b _ d _ _ _ _ e _ t;obtain ⟨⟨rfl,hw,ha,hb⟩,rfl⟩:=h;exact ⟨ha,hb,⟨hw,ha⟩,⟨hw,hb⟩,AJ,rfl⟩
 ·cases h)
structure PM where
 (n i:Int)
 d:List Dm
 tick:Int
 out:List Int
def aFB:=bN f91 0
def w5 (s:PM):T (Rd PM):=letI a:=s.out.set s.i.toNat s.i;.br (an<|s.i<s.n) (.ik s.i (M s.out)<|.re (M s.out) a<|.nx {s with i:=AA<|s.i+1,out:=a})<|.rl s.out<|.so (.exit 0) s
def ia (s:PM):Prop:=s.i=0/\s.out=aq (M s.d) 0/\s.n=(M s.d:Int)/\s.n<=1000/\M s.out=M s.d
def YY (s:PM):Prop:=(0<=s.i/\s.i<=s.n)/\s.out=FZ s.i.toNat++aq (M s.d-s.i.toNat) 0/\s.n=(M s.d:Int)/\s.n<=1000/\M s.out=M s.d
def tQ (s:PM):Nat:=(s.n-s.i).toNat
def aAf (x:Ex) (s s':PM):Prop:=x=.exit 0/\s'.out=FZ (M s'.d)
def aje:∀s,ia s->YY s:=by
 exact xS
theorem ayg:Da YY tQ aAf w5:=by
 intro s hI;obtain ⟨⟨h0,h1⟩,h2,h3,h4,h5⟩:=hI;refine AH (λc1=>?_) λc1=>?_
 ·have c1:s.i<s.n:=AX
  rw [AI (x:=s.i+1)]
  have e:M s.d-s.i.toNat=(M s.d-(s.i+1).toNat)+1:=A0
  refine ⟨⟨⟨A8,A8⟩,?_,h3,h4,A8⟩,by simp only [tQ];omega⟩
  simp only
  have hs:=aG5 (xs:=FZ s.i.toNat) (r:=M s.d-(s.i+1).toNat) (v:=s.i)
  rw [Oh] at hs;rw [h2,e,hs,show (s.i+1).toNat=s.i.toNat+1 by omega,aDZ,CR h0]
 ·have c1:s.n<=s.i:=AX
  refine ⟨rfl,?_⟩;rw [h2,show s.i.toNat=M s.d by omega]
  simp
def Ru:AR PM:=⟨0,26,[2,3,5,12,13],[],λs=>[.own 0 0,.own 1 0,.os 2 1 0<|M s.out,s.n,s.i],λs=>[⟨[s.d],45,.cl,X⟩,⟨[s.tick],3,.cl,X⟩,bV 3 A7 s.out],λv b=>⟨AK v 3,AK v 4,AF Ak b 0 0,Aj b 1 0,Ab A7 b 2⟩,w5,λs r=> {s with i:=r.i,out:=r.out},λs=>s,λ_ s=>s,[.exit 0],ia,YY,tQ⟩
abbrev MI:=Ru.run
abbrev asv:=Ru.Aq
def awV:Rq YY w5:=by
 intro s hI;refine ⟨λc1=>⟨?_,?_,?_,ak⟩,λc1=>⟨A9,ak⟩⟩
 all_goals ((obtain ⟨⟨h0,h1⟩,h2,h3,h4,h5⟩:=hI;simp only [Ac] at c1;first|omega|exact ⟨rfl,AJ⟩))
def PD:List Bd:=[qn,aaD]
def gK:Ax:=kI PD<|l0 PD
def aQN:Ru.Ok:={}
def aOg:Ru.Pf (aAf):=⟨aje,λs h=>rfl,ayg,awV⟩
def aq5:SA 0 aFB Ru:=s1 aQN aOg PD gK
def aqR:Fi ia YY aAf asv MI:=AR.fin aQN aOg
structure Na where
 (a b i j:Int)
 b0:List Dm
 b1:Int
 data:List Int
def aFh:=lN (bN f211 0) 0
def vU (s:Na):T (Rd Na):=letI c:=s.data.getD s.j.toNat<|Ty.dflt A7;letI d:=AA<|s.j-1;letI e:=M s.data;letI b:=s.data.getD d.toNat<|Ty.dflt A7;letI f:=s.data.set s.j.toNat b;.br (an<|s.j>s.a) (.ik s.j e<|.ik d e<|.req (s.b0=s.b0/\IF s.b0 s.b1/\(0<=c/\c<(M s.b0:Int))/\0<=b/\b<(M s.b0:Int))<|.br (an<|(cmD s.b0 s.b1 c b)<0) (.ix d e<|.ix s.j e<|.req (d.toNat<M s.data)<|.req (s.j.toNat<M s.data)<|.ik s.j e<|.ix d e<|.req (d.toNat<M f)<|.re e (f.set d.toNat c)<|.nx {s with j:=d,data:=f.set d.toNat c})<|.rl s.data<|.so (.exit 2) s)<|.rl s.data<|.so (.exit 2) s
def iG (s:Na):Prop:=s.a=0/\(0<=s.j/\s.j<(M s.data:Int))/\(M s.data=M s.b0/\(M s.data:Int)<=1000)/\(∀x∈s.data,0<=x/\x<(M s.b0:Int))/\IF s.b0 s.b1
def jH (s:Na):Prop:=s.a=0/\(0<=s.j/\s.j<(M s.data:Int))/\(M s.data=M s.b0/\(M s.data:Int)<=1000)/\(∀x∈s.data,0<=x/\x<(M s.b0:Int))/\IF s.b0 s.b1
def sT (s:Na):Nat:=s.j.toNat
def acj (x:Ex) (s s':Na):Prop:=x=.exit 2
def akv:∀s,iG s->jH s:=by
 exact λs h=>h
theorem azq:Da jH sT acj vU:=by
 intro s hI;obtain ⟨h0,⟨h1,h2⟩,⟨h3,h3'⟩,h4,h5⟩:=hI;refine AH (λc1=>?_) λc1=>rfl
 have c1:s.a<s.j:=AX
 rw [AI (x:=s.j-1)];refine AH (λc2=>?_) λc2=>rfl
 have g0:=λ(k:Nat) (hk:k<M s.data)=>h4 (s.data.getD k 0) Fv
 have hm:∀x∈(s.data.set s.j.toNat<|s.data.getD (s.j-1).toNat 0).set (s.j-1).toNat (s.data.getD s.j.toNat 0),0<=x/\x<(M s.b0:Int):=λx hx=>by
  rcases OR hx with hx|e
  ·rcases OR hx with hx|e
   ·exact h4 x hx
   ·rw [e];exact g0 _ A0
  ·grind
 exact ⟨⟨h0,⟨AZ,A8⟩,⟨A8,A8⟩,hm,h5⟩,by simp only [sT];omega⟩
def RR:AR Na:=⟨4,53,[0,1,2,3,8,9],[],λs=>[.os 2 1 0<|M s.data,s.a,s.b,.fn 132 [.own 0 0,.own 3 0],s.i,s.j],λs=>[⟨[s.b0],45,.cl,X⟩,⟨[s.b1],3,.cl,X⟩,bV 3 A7 s.data,⟨[.fn 130 [.own 0 0,.own 1 0]],208,.cl,X⟩],λv b=>⟨AK v 1,AK v 2,AK v 4,AK v 5,AF Ak b 0 0,Aj b 1 0,Ab A7 b 2⟩,vU,λs r=> {s with j:=r.j,data:=r.data},λs=>s,λ_ s=>s,[.exit 2],iG,jH,sT⟩
abbrev oe:=RR.run
abbrev atJ:=RR.Aq
def axg:Rq jH vU:=by
 intro s hI;refine ⟨λc1=>⟨?_,?_,?_,?_,?_,λc2=>⟨?_,?_,?_,?_,?_,?_,?_,?_,?_,ak⟩,λc2=>⟨A9,ak⟩⟩,λc1=>⟨A9,ak⟩⟩
 all_goals ((obtain ⟨h0,⟨h1,h2⟩,⟨h3,h3'⟩,h4,h5⟩:=hI;simp only [Ac,gt_iff_lt] at c1;(try rw [AI (x:=s.j-1)]);have g0:∀k:Nat,k<M s.data->0<=s.data.getD k (Ty.dflt A7)/\s.data.getD k (Ty.dflt A7)<(M s.b0:Int):=(λk hk=>h4 _ Fv);first|omega|exact ⟨rfl,h5,g0 _ A0,g0 _ A0⟩ |(simp only [CL];omega) |exact ⟨rfl,AJ⟩))
def aQb:RR.Ok:={}
def aOu:RR.Pf (acj):=⟨akv,λs h=>rfl,azq,axg⟩
def apc:SA 4 aFh RR:=s2 aQb aOu PD gK
theorem aGk:Rs iG atJ oe (λs:Na=>Kp (ltD s.b0 s.b1) s.j.toNat s.data) (λx s' (v:List Int)=>x=.exit 2/\s'.data=v):=DJ aQb aOu (λs hI=>by
  obtain ⟨h0,⟨h1,h2⟩,⟨h3,h3'⟩,h4,h5⟩:=hI;refine AH (λc1=>?_) λc1=>?_
  ·have c1:s.a<s.j:=A8
   rw [AI (x:=s.j-1)]
   have e:s.j.toNat=(s.j-1).toNat+1:=A0
   refine AH (λc2=>?_) λc2=>?_
   ·show Kp _ _ _=Kp _ _ _
    rw [e,Kp,AD (by unfold ltD;rw [e] at c2;exact c2)]
    rfl
   ·refine ⟨rfl,?_⟩
    rw [e] at c2;rw [e,Kp,AE λhh=>absurd ((show U=_ from hh.symm).trans c2) Aa]
  ·have c1:s.j<=s.a:=A8
   refine ⟨rfl,?_⟩;rw [show s.j.toNat=0 by omega]
   rfl)
structure KL where
 (a b i:Int)
 b0:List Dm
 b1:Int
 data:List Int
def aFi:=bN f211 0
def vV (s:KL):T (Rd KL):=letI c:=(oe (⟨s.a,s.b,s.i,s.i,s.b0,s.b1,s.data⟩:Na));.br (an<|s.i<s.b) (.rl s.data<|.req (RR.q (⟨s.a,s.b,s.i,s.i,s.b0,s.b1,s.data⟩:Na))<|.rl c.data<|.nx {s with i:=AA<|s.i+1,data:=c.data})<|.rl s.data<|.so (.exit 0) s
def iH (s:KL):Prop:=s.i=1/\(s.a=0/\s.b=(M s.data:Int))/\(M s.data=M s.b0/\(M s.data:Int)<=1000)/\(∀x∈s.data,0<=x/\x<(M s.b0:Int))/\IF s.b0 s.b1
def Y0 (s:KL):Prop:=1<=s.i/\(s.a=0/\s.b=(M s.data:Int))/\(M s.data=M s.b0/\(M s.data:Int)<=1000)/\(∀x∈s.data,0<=x/\x<(M s.b0:Int))/\IF s.b0 s.b1
def sU (s:KL):Nat:=(s.b-s.i).toNat
def ack (x:Ex) (s s':KL):Prop:=x=.exit 0
def akw:∀s,iH s->Y0 s:=by
 exact kz
theorem uR (s:KL) (hI:Y0 s) (c1:s.i<s.b):iG ⟨s.a,s.b,s.i,s.i,s.b0,s.b1,s.data⟩:=by
 obtain ⟨h0,⟨h1,h2⟩,h3⟩:=hI;exact ⟨h1,⟨A8,A8⟩,h3⟩
theorem azr:Da Y0 sU ack vV:=by
 intro s hI
 have hin:=λc1=>uR s hI c1
 obtain ⟨h0,⟨h1,h2⟩,⟨h3,h3'⟩,h4,h5⟩:=hI;refine AH (λc1=>?_) λc1=>rfl
 have c1:s.i<s.b:=A8
 obtain ⟨q1,q2⟩:=aGk _<|hin c1
 have hp:=ao6 (lt:=ltD s.b0 s.b1) (j:=s.i.toNat) (l:=s.data) A0
 rw [AI (x:=s.i+1),q2];exact ⟨⟨A8,⟨h1,by simp only [hp.length_eq];exact h2⟩,⟨by simp only [hp.length_eq];exact h3,by simp only [hp.length_eq];exact h3'⟩,λx hx=>h4 x<|hp.subset hx,h5⟩,by simp only [sU];omega⟩
def RS:AR KL:=⟨4,53,[0,1,2,3,8],[],λs=>[.os 2 1 0<|M s.data,s.a,s.b,.fn 132 [.own 0 0,.own 3 0],s.i],λs=>[⟨[s.b0],45,.cl,X⟩,⟨[s.b1],3,.cl,X⟩,bV 3 A7 s.data,⟨[.fn 130 [.own 0 0,.own 1 0]],208,.cl,X⟩],λv b=>⟨AK v 1,AK v 2,AK v 4,AF Ak b 0 0,Aj b 1 0,Ab A7 b 2⟩,vV,λs r=> {s with i:=r.i,data:=r.data},λs=>s,λ_ s=>s,[.exit 0],iH,Y0,sU⟩
abbrev Vn:=RS.run
abbrev atK:=RS.Aq
theorem axh:Rq Y0 vV:=by
 intro s hI;refine ⟨λc1=>⟨A9,?_,A9,ak⟩,λc1=>⟨A9,ak⟩⟩
 ·exact ⟨uR s hI A8,rfl,rfl⟩
def aQc:RS.Ok:={}
def aOv:RS.Pf (ack):=⟨akw,λs h=>rfl,azr,axh⟩
def po:SA 4 aFi RS:=AR.snd aQc aOv (GJ (Γ:=PD) (K:=gK) (L:=(Ll (λi=>if i=4 then RR.lp else Ag i))) (gk PD) gK.h aFi (λb hb=>by
 rw [show BA _=[aFh] by kernel_rfl] at hb
 simp only [B8,Bu,Bt] at hb;subst hb;exact apc)) λs=>AT
theorem arU:Rs iH atK Vn (λs:KL=>MZ (ltD s.b0 s.b1) s.data s.i.toNat) (λx s' (v:List Int)=>x=.exit 0/\s'.data=v):=DJ aQc aOv (λs hI=>by
  have hin:=λc1=>uR s hI c1
  obtain ⟨h0,⟨h1,h2⟩,⟨h3,h3'⟩,h4,h5⟩:=hI;refine AH (λc1=>?_) λc1=>?_
  ·have c1:s.i<s.b:=A8
   obtain ⟨q1,q2⟩:=aGk _<|hin c1
   have q2:(oe ⟨s.a,s.b,s.i,s.i,s.b0,s.b1,s.data⟩).data=Kp (ltD s.b0 s.b1) s.i.toNat s.data:=q2
   rw [AI (x:=s.i+1)]
   show MZ _ _ _=MZ _ _ _
   rw [q2,show (s.i+1).toNat=s.i.toNat+1 by omega,aeg A0]
  ·have c1:s.b<=s.i:=A8
   exact ⟨rfl,(afT A0).symm⟩)
structure Nx where
 (n Ez a b:Int)
 b0:List Dm
 b1:Int
 data:List Int
def vk (s:Nx):T (Rd Nx):=letI c:=(Vn (⟨s.a,s.b,AA<|s.a+1,s.b0,s.b1,s.data⟩:KL));.br (an<|s.b<=s.n) (.rl s.data<|.req (RS.q (⟨s.a,s.b,AA<|s.a+1,s.b0,s.b1,s.data⟩:KL))<|.re (M s.data) c.data<|.nx {s with a:=s.b,b:=AA<|s.b+s.Ez,data:=c.data})<|.rl s.data<|.so (.exit 0) s
def jV (s:Nx):Prop:=s.b=20/\s.n<20
def YM (s:Nx):Prop:=s.b=20/\s.n<20
def aQz (s:Nx):Nat:=0
def acV (x:Ex) (s s':Nx):Prop:=x=.exit 0
def aiY:∀s,jV s->YM s:=by
 exact λs h=>h
theorem aw1:Da YM aQz acV vk:=by
 intro s hI;obtain ⟨h0,h1⟩:=hI;refine AH (λc1=>absurd (show s.b<=s.n by grind) A0) λc1=>rfl
def Ys:AR Nx:=⟨4,63,[0,1,2,6,7,8],[],λs=>[.os 2 1 0<|M s.data,s.n,.fn 132 [.own 0 0,.own 3 0],s.Ez,s.a,s.b],λs=>[⟨[s.b0],45,.cl,X⟩,⟨[s.b1],3,.cl,X⟩,bV 3 A7 s.data,⟨[.fn 130 [.own 0 0,.own 1 0]],208,.cl,X⟩],λv b=>⟨AK v 1,AK v 3,AK v 4,AK v 5,AF Ak b 0 0,Aj b 1 0,Ab A7 b 2⟩,vk,λs r=> {s with a:=r.a,b:=r.b,data:=r.data},λs=>s,λ_ s=>s,[.exit 0],jV,YM,aQz⟩
abbrev Ia:=Ys.run
abbrev arB:=Ys.Aq
def akO:Ax:=kI PD<|la 1 func211 po<|l0 PD
def ax2:Rq YM vk:=by
 intro s hI;refine ⟨λc1=>⟨A9,?_,?_,ak⟩,λc1=>⟨A9,ak⟩⟩
 all_goals ((simp only [Ac] at c1;exact absurd c1 (by have:=hI;unfold YM at this;omega)))
def aPa:Ys.Ok:={}
def aP9:Ys.Pf (acV):=⟨aiY,λs h=>rfl,aw1,ax2⟩
def aGG:=s2 (b:=bN f174 0) aPa aP9 PD akO
theorem aop:Rs jV arB Ia (λs:Nx=>(s.data,s.a)) (λx s' (v:List Int×Int)=>x=.exit 0/\(s'.data,s'.a)=v):=DJ aPa aP9 (λs hI=>by
  obtain ⟨h0,h1⟩:=hI;exact AH (λc1=>absurd (show s.b<=s.n by grind) A0) λc1=>⟨rfl,rfl⟩)
def agz:List LV->T LV:=λ_=> .req False<|.ok<|.v undef
def av8:VV 212 agz:=by
 intro _ _ _ _ _ _ _ _ _ h;exact h.1.elim
structure PI where
 (n Ez a b:Int)
 b0:List Dm
 b1:Int
 data:List Int
def aF0:=lN (bN f174 1) 0
def vi (s:PI):T (Rd PI):=
 .br (an<|s.b<=s.n) (.rz s.data<|.req False<|.rl s.data<|.nx {s with a:=s.b,b:=AA<|s.b+(AA<|2*s.Ez)}) (.rl s.data<|.so (.exit 4) s)
def acA (s:PI):Prop:=False
def j6 (s:PI):Prop:=False
def aQx (s:PI):Nat:=0
def acT (x:Ex) (s s':PI):Prop:=True
def aiW:∀s,acA s->j6 s:=by
 exact λs h=>h
def avz:Da j6 aQx acT vi:=by
 intro s hI;exact hI.elim
def To:AR PI:=⟨4,63,[0,1,2,6,7,8],[],λs=>[.os 2 1 0<|M s.data,s.n,.fn 132 [.own 0 0,.own 3 0],s.Ez,s.a,s.b],λs=>[⟨[s.b0],45,.cl,X⟩,⟨[s.b1],3,.cl,X⟩,bV 3 A7 s.data,⟨[.fn 130 [.own 0 0,.own 1 0]],208,.cl,X⟩],λv b=>⟨AK v 1,AK v 3,AK v 4,AK v 5,AF Ak b 0 0,Aj b 1 0,Ab A7 b 2⟩,vi,λs r=> {s with a:=r.a,b:=r.b},λs=>s,λ_ s=>s,[.exit 4],acA,j6,aQx⟩
abbrev aqg:=To.run
def Qg:List Bd:=[qn,aaD,av8]
def zq:Ax:=kI Qg<|la 2 func174 aGG<|la 1 func211 po<|l0 Qg
def ax0:Rq j6 vi:=by
 intro s hI;refine ⟨λc1=>⟨?_,?_,A9,ak⟩,λc1=>⟨A9,ak⟩⟩
 all_goals (exact hI.elim)
def ayd:To.Ok:={}
def ax5:To.Pf (acT):=⟨aiW,λs h=>rfl,avz,ax0⟩
def aoa:SA 4 aF0 To:=s2 ayd ax5 Qg zq
structure PJ where
 (n Ez:Int)
 b0:List Dm
 b1:Int
 data:List Int
def aF1:=bN f174 1
def vj (s:PJ):T (Rd PJ):=
 .br (an<|s.Ez<s.n) (.rl s.data<|.req (To.q (⟨s.n,s.Ez,0,AA<|2*s.Ez,s.b0,s.b1,s.data⟩:PI))<|.br (an<|(AA<|(aqg (⟨s.n,s.Ez,0,AA<|2*s.Ez,s.b0,s.b1,s.data⟩:PI)).a+s.Ez)<s.n) (.rz s.data<|.req False<|.rl s.data<|.nx {s with Ez:=AA<|s.Ez*2})<|.rl s.data<|.nx {s with Ez:=AA<|s.Ez*2}) (.rl s.data<|.so (.exit 2) s)
def aAs (s:PJ):Prop:=s.Ez=20/\s.n<20
def YL (s:PJ):Prop:=s.Ez=20/\s.n<20
def aQy (s:PJ):Nat:=0
def acU (x:Ex) (s s':PJ):Prop:=x=.exit 2
def aiX:∀s,aAs s->YL s:=by
 exact λs h=>h
theorem aw0:Da YL aQy acU vj:=by
 intro s hI;obtain ⟨h0,h1⟩:=hI;refine AH (λc1=>absurd (show s.Ez<s.n by grind) A0) λc1=>rfl
def jq:AR PJ:=⟨4,63,[0,1,2,6],[],λs=>[.os 2 1 0<|M s.data,s.n,.fn 132 [.own 0 0,.own 3 0],s.Ez],λs=>[⟨[s.b0],45,.cl,X⟩,⟨[s.b1],3,.cl,X⟩,bV 3 A7 s.data,⟨[.fn 130 [.own 0 0,.own 1 0]],208,.cl,X⟩],λv b=>⟨AK v 1,AK v 3,AF Ak b 0 0,Aj b 1 0,Ab A7 b 2⟩,vj,λs r=> {s with Ez:=r.Ez},λs=>s,λ_ s=>s,[.exit 2],aAs,YL,aQy⟩
def ax1:Rq YL vj:=by
 intro s hI;refine ⟨λc1=>⟨A9,?_,λc2=>⟨?_,?_,A9,ak⟩,λc2=>⟨A9,ak⟩⟩,λc1=>⟨A9,ak⟩⟩
 all_goals ((simp only [Ac] at c1;exact absurd c1 (by have:=hI;unfold YL at this;omega)))
def ayf:jq.Ok:={}
def ax6:jq.Pf (acU):=⟨aiX,λs h=>rfl,aw0,ax1⟩
def aob:SA 4 aF1 jq:=AR.snd ayf ax6 (GJ (Γ:=Qg) (K:=zq) (L:=(Ll (λi=>if i=9 then To.lp else Ag i))) (gk Qg) zq.h aF1 (λb hb=>by
 rw [show BA _=[aF0] by kernel_rfl] at hb
 simp only [B8,Bu,Bt] at hb;subst hb;exact aoa)) λs=>AT
def aJM:List LV->T LV
 | [.xl (.pair .bool (.pair (.int J) (.pair (.int J) (.int J)))) d,.v (Y J t)]=> .req (IF d t/\M d<=19) (.ok<|.xl A7<|Gt d t)
 |_=> .no
def L8 (d:List Dm) (t:Int):PM:=(⟨(((M d:Int).toNat:Nat):Int),0,d,t,aq (M d:Int).toNat (0:Int)⟩:PM)
def I4 (d:List Dm) (t:Int):Nx:=(⟨((M (MI<|L8 d t).out:Nat):Int),20,0,20,d,t,(MI<|L8 d t).out⟩:Nx)
def Vt (d:List Dm) (t:Int):KL:=(⟨(Ia<|I4 d t).a,((M (MI<|L8 d t).out:Nat):Int),AA<|(Ia<|I4 d t).a+1,d,t,(Ia<|I4 d t).data⟩:KL)
def aEZ (d:List Dm) (t:Int):PJ:=(⟨((M (MI<|L8 d t).out:Nat):Int),20,d,t,(Vn<|Vt d t).data⟩:PJ)
def akN:Ax:=kI Qg<|la 7 func174 aob<|la 2 func174 aGG<|la 1 func211 po<|l0 Qg
def avC:=vm (S:=aJM) func91 Qg akN (L:=(λi=>if i=3 then Ru.lp else Ag i)) (λb hb=>by
 rw [show BA _=[aFB] by kernel_rfl] at hb
 simp only [B8,Bu,Bt] at hb;subst hb;exact aq5) (λargs lv h=>by
 unfold aJM at h;split at h
 ·rename_i d t
  refine Ap (letI b:=M (MI<|L8 d t).out;letI c:=(M d:Int);letI e:=Vn<|Vt d t;.rm 8 c<|.re c.toNat (aq c.toNat (0:Int))<|.req (Ru.q<|L8 d t)<|.rl (MI<|L8 d t).out<|.req (Ys.q<|I4 d t)<|.rl (Ia<|I4 d t).data<|.req (RS.q<|Vt d t)<|.re (M (Ia<|I4 d t).data) e.data<|.req (jq.q<|aEZ d t)<|.req (0+b<=M e.data)<|.ok<|.xl A7<|(e.data.drop 0).take b) ?_;obtain ⟨⟨hw,hd⟩,rfl⟩:=h
  have hE:ia (L8 d t):=⟨rfl,MC,by show (((M d:Int).toNat:Nat):Int)=(M d:Int);omega,by show (((M d:Int).toNat:Nat):Int)<=1000;omega,by show M (aq _ (0:Int))=M d;rw [Ce];omega⟩
  obtain ⟨_,_,_,q1⟩:=aqR _ hE
  have q1:(MI<|L8 d t).out=FZ (M d):=q1
  have hl:M (MI<|L8 d t).out=M d:=by rw [q1,Oh]
  have hE2:jV (I4 d t):=⟨rfl,aMb⟩
  obtain ⟨_,q2⟩:=aop _ hE2
  have q2a:(Ia<|I4 d t).data=FZ (M d):=(B1 Prod.fst q2).trans q1
  have q2b:(Ia<|I4 d t).a=0:=B1 Prod.snd q2
  have hE3:iH (Vt d t):=⟨by show AA ((Ia<|I4 d t).a+1)=1;rw [q2b];rfl,⟨q2b,by show ((M (MI<|L8 d t).out:Nat):Int)=(M (Ia<|I4 d t).data:Int);rw [q2a,hl,Oh]⟩,⟨by show M (Ia<|I4 d t).data=M d;rw [q2a,Oh],by show (M (Ia<|I4 d t).data:Int)<=1000;rw [q2a,Oh];omega⟩,λx hx=>aEf.1 (by have hx:x∈(Ia<|I4 d t).data:=hx;rw [q2a] at hx;exact hx),hw⟩
  obtain ⟨_,q3⟩:=arU _ hE3
  have q3:(Vn<|Vt d t).data=Gt d t:=q3.trans (by
   show MZ (ltD d t) (Ia<|I4 d t).data (AA<|(Ia<|I4 d t).a+1).toNat=_
   rw [q2b,q2a];exact afS)
  have hl3:M (Vn<|Vt d t).data=M d:=by rw [q3,aEL]
  have hE4:aAs (aEZ d t):=⟨rfl,aMb⟩
  refine ⟨⟨A0,A0,A0,A0⟩,⟨rfl,AJ⟩,⟨hE,rfl,rfl⟩,A9,⟨hE2,rfl,rfl⟩,A9,⟨hE3,rfl,rfl⟩,⟨rfl,by rw [q2a,Oh,hl3]⟩,⟨hE4,rfl,rfl⟩,A0,?_⟩
  show LV.xl _ _=_
  rw [CP,hl,<-hl3,E6,q3]
 ·cases h)
structure LQ where
 rs:List Ra
 (tick n t15:Int)
 offers:List Int
 m:List Ch
 (k i:Int)
 ah8:List Cd
 c1:List ByteArray
 c2:List Ko
 c3:List Ch
 c4:List Ba
 NG:List Le
 afv:List Dm
 TR:Int
 (atc Fw:List Int)
 next:List Ra
 Co:List Le
def aFo:=bN f66 0
def qi (s:LQ) (e:Int) (w:Bool) (x:Int) (y:Int):T (Rd LQ):=letI a:=(s.n,(s.i,(x,(s.tick,(12:Int)))));letI b:=(s.next.set s.i.toNat (x,y));letI c:=s.Fw.set s.i.toNat x;letI d:=M s.next;letI f:=M s.Fw;.br (an<|s.i<s.k) (.ix s.i (M s.m)<|.ix s.i (M s.rs)<|.ix s.i (M s.offers)<|.br (e !=0) (.rl s.Fw<|.rl s.next<|.rl s.Co<|.so (.ret) {s with t15:=(1:Int)})<|.ik s.i f<|.ik s.i d<|.req ((0<=s.i/\s.i<(M s.c3:Int))/\(M s.NG:Int)<=1000/\0<=s.TR/\s.TR<=1000000)<|.br w (.rb (M s.Co) (M<|[a]) 40<|.re f c<|.re d b<|.re (M s.Co+M ([a])) (s.Co++([a]))<|.nx {s with n:=AA<|s.n+1,i:=AA<|s.i+1,Fw:=c,next:=b,Co:=s.Co++([a])})<|.re f c<|.re d b<|.rl s.Co<|.nx {s with i:=AA<|s.i+1,Fw:=c,next:=b})<|.rl s.Fw<|.rl s.next<|.rl s.Co<|.so (.exit 0) s
abbrev z7 (s:LQ):=letI a:=AG s.m s.i;letI c:=C1 s.rs s.i;letI d:=gi s.offers s.i;letI b:=nA a.2.2.1 a.2.2.2.1 a.2.2.2.2.1 a.2.2.2.2.2.1 a.2.2.2.2.2.2.1 c.1 c.2 d;qi s (nE a.2.2.1 a.2.2.2.1 a.2.2.2.2.1 a.2.2.2.2.2.1 a.2.2.2.2.2.2.1 c.1 c.2 d) (nwB s.c3 s.NG s.TR s.i b) b<|nS a.2.2.1 a.2.2.2.1 a.2.2.2.2.1 a.2.2.2.2.2.1 a.2.2.2.2.2.2.1 c.1 c.2 d
def Yp (s:LQ):Prop:=s.i=0/\s.Co=[]/\(s.k=(M s.m:Int)/\s.k<=16)/\(s.c3=s.m/\s.TR=s.tick)/\((M s.NG:Int)<=1000/\0<=s.tick/\s.tick<=1000000)/\(M s.rs=M s.m/\M s.offers=M s.m/\M s.Fw=M s.m/\M s.next=M s.m)/\dcK s.m s.rs s.offers/\1<=s.n-(M s.Co:Int)/\s.n-(M s.Co:Int)<=999900
def R2 (s:LQ):Prop:=letI a:=(M s.Co:Int);(0<=s.i/\s.i<=s.k)/\(∀j,0<=j->j<s.i->gi s.Fw j=nxA (AG s.m j) (C1 s.rs j) (gi s.offers j)/\C1 s.next j=(nxA (AG s.m j) (C1 s.rs j)<|gi s.offers j,nxS (AG s.m j) (C1 s.rs j)<|gi s.offers j))/\s.Co=H8 s.m s.NG s.tick (s.n-a) (Kq s.m s.rs s.offers<|M s.m) s.i.toNat/\(s.k=(M s.m:Int)/\s.k<=16)/\(s.c3=s.m/\s.TR=s.tick)/\((M s.NG:Int)<=1000/\0<=s.tick/\s.tick<=1000000)/\(M s.rs=M s.m/\M s.offers=M s.m/\M s.Fw=M s.m/\M s.next=M s.m)/\dcK s.m s.rs s.offers/\1<=s.n-a/\s.n-a<=999900
def WW (s:LQ):Nat:=(s.k-s.i).toNat
def j3 (x:Ex) (s s':LQ):Prop:=x=.exit 0/\s'.Fw=Kq s'.m s'.rs s'.offers (M s'.m)/\s'.next=dcR s'.m s'.rs s'.offers (M s'.m)/\s'.Co=H8 s'.m s'.NG s'.tick (s'.n-(M s'.Co:Int)) (Kq s'.m s'.rs s'.offers<|M s'.m) (M s'.m)
def alO:∀s,Yp s->R2 s:=by
 rintro s ⟨h0,h1,h2⟩
 exact ⟨A0,λj j0 j1=>A0,yi,h2⟩
theorem atu (s:LQ) (hI:R2 s) (e:Int) (w:Bool) (x:Int) (y:Int) (he:nE (AG s.m s.i).2.2.1 (AG s.m s.i).2.2.2.1 (AG s.m s.i).2.2.2.2.1 (AG s.m s.i).2.2.2.2.2.1 (AG s.m s.i).2.2.2.2.2.2.1 (C1 s.rs s.i).1 (C1 s.rs s.i).2 (gi s.offers s.i)=e) (hw:nwB s.c3 s.NG s.TR s.i (nA (AG s.m s.i).2.2.1 (AG s.m s.i).2.2.2.1 (AG s.m s.i).2.2.2.2.1 (AG s.m s.i).2.2.2.2.2.1 (AG s.m s.i).2.2.2.2.2.2.1 (C1 s.rs s.i).1 (C1 s.rs s.i).2<|gi s.offers s.i)=w) (hx:nA (AG s.m s.i).2.2.1 (AG s.m s.i).2.2.2.1 (AG s.m s.i).2.2.2.2.1 (AG s.m s.i).2.2.2.2.2.1 (AG s.m s.i).2.2.2.2.2.2.1 (C1 s.rs s.i).1 (C1 s.rs s.i).2 (gi s.offers s.i)=x) (hy:nS (AG s.m s.i).2.2.1 (AG s.m s.i).2.2.2.1 (AG s.m s.i).2.2.2.2.1 (AG s.m s.i).2.2.2.2.2.1 (AG s.m s.i).2.2.2.2.2.2.1 (C1 s.rs s.i).1 (C1 s.rs s.i).2 (gi s.offers s.i)=y):DK (λs'=>R2 s'/\WW s'<WW s) (λx s'=>j3 x s s') ((qi s e w x y).rd s):=by
 unfold qi;dsimp only [T.rd,T.rl,T.rv];obtain ⟨⟨h0,h1⟩,hA,hL,⟨h2,h3⟩,⟨h4,h5⟩,h6,⟨h7,h8,h9,h10⟩,hk,h11⟩:=hI
 have hll:M s.Co<=s.i.toNat:=yP
 refine AH (λc1=>?_) λc1=>?_
 ·refine AH (λc2=>?_) (λc2=>?_)
  ·have c1:s.i<s.k:=AX
   have hm:s.i<(M s.m:Int):=A0
   exact absurd (he.symm.trans<|akV<|hk s.i h0 hm) EA
  ·refine AH (λc3=>?_) (λc3=>?_)
   ·have c1:s.i<s.k:=AX
    have hm:s.i<(M s.m:Int):=A0
    have hx':nxA (AG s.m s.i) (C1 s.rs s.i) (gi s.offers s.i)=x:=hx
    have hy':nxS (AG s.m s.i) (C1 s.rs s.i) (gi s.offers s.i)=y:=hy
    have hA':∀j,0<=j->j<s.i+1->gi (s.Fw.set s.i.toNat x) j=nxA (AG s.m j) (C1 s.rs j) (gi s.offers j)/\C1 (s.next.set s.i.toNat (x,y)) j=(nxA (AG s.m j) (C1 s.rs j)<|gi s.offers j,nxS (AG s.m j) (C1 s.rs j)<|gi s.offers j):=λj j0 j1=>by
     exact aKp
    have hs:s.i.toNat+1=(s.i+1).toNat:=A0
    have hg:gi (Kq s.m s.rs s.offers<|M s.m) (s.i.toNat:Nat)=x:=aNq
    have hw':nwB s.m s.NG s.tick (s.i.toNat:Nat) x=w:=by rw [CR h0,<-hw,h4,h5];rw [<-hx]
    rw [AI (x:=s.i+1),AI (x:=s.n+1)]
    have hn:s.n+1-((M (s.Co++[(s.n,s.i,x,s.tick,12)]):Nat):Int)=s.n-(M s.Co:Int):=by
     exact aMB
    refine ⟨⟨⟨AZ,AZ⟩,hA',?_,⟨h2,h3⟩,⟨h4,h5⟩,h6,⟨h7,h8,aNZ,aNW⟩,hk,by simp only;rw [hn];exact h11⟩,by simp only [WW];omega⟩
    simp only;rw [hn,<-hs,H8,<-hL,hg,hw',c3,AD rfl,CR h0,show s.n-(M s.Co:Int)+(M s.Co:Int)=s.n by omega]
   ·have c1:s.i<s.k:=AX
    have hm:s.i<(M s.m:Int):=A0
    have hx':nxA (AG s.m s.i) (C1 s.rs s.i) (gi s.offers s.i)=x:=hx
    have hy':nxS (AG s.m s.i) (C1 s.rs s.i) (gi s.offers s.i)=y:=hy
    have hA':∀j,0<=j->j<s.i+1->gi (s.Fw.set s.i.toNat x) j=nxA (AG s.m j) (C1 s.rs j) (gi s.offers j)/\C1 (s.next.set s.i.toNat (x,y)) j=(nxA (AG s.m j) (C1 s.rs j)<|gi s.offers j,nxS (AG s.m j) (C1 s.rs j)<|gi s.offers j):=λj j0 j1=>by
     exact aKp
    have hs:s.i.toNat+1=(s.i+1).toNat:=A0
    have hg:gi (Kq s.m s.rs s.offers<|M s.m) (s.i.toNat:Nat)=x:=aNq
    have hw':nwB s.m s.NG s.tick (s.i.toNat:Nat) x=w:=A8
    rw [AI (x:=s.i+1)];refine ⟨⟨⟨AZ,AZ⟩,hA',?_,⟨h2,h3⟩,⟨h4,h5⟩,h6,⟨h7,h8,aNZ,aNW⟩,hk,h11⟩,by simp only [WW];omega⟩
    simp only;rw [<-hs,H8,<-hL,hg,hw',c3,AE Aa,GB]
 ·have c1:s.k<=s.i:=AX
  have hi:s.i.toNat=M s.m:=A0
  refine ⟨rfl,acv (by rw [h9];exact I2.symm) λj j0 j1=>?_,arW (by rw [h10,cy]) λj j0 j1=>?_,by have hL':=hL;rw [hi] at hL';exact hL'⟩
  ·rw [Kq,I2] at j1
   rw [Kq,Q5 j0 j1];exact (hA j j0 A0).1
  ·rw [cy] at j1
   rw [ag5 j0 j1];exact (hA j j0 A0).2
def ag4:Da R2 WW j3 z7:=λs hI=>atu s hI _ _ _ _ rfl rfl rfl rfl
def RX:AR LQ:=⟨0,108,[2,4,5,12,13,14,15,16,17,19,20,21,57,58,59],[.nl 21 104 AP],λs=>[s.rs,s.tick,s.n,.v<|.slice aj 0 0,.v<|.slice aj 0 0,.v<|.slice aj 0 0,s.t15,.own 0 0,.xl A7 s.offers,.os 1 1 0<|M s.Fw,.os 2 2 0<|M s.next,.os 3 5 0<|M s.Co,s.m,s.k,s.i],λs=>[⟨[s.ah8,s.c1,s.c2,s.c3,s.c4,s.NG,s.afv,s.TR,.xl A7 s.atc],197,.cl,U⟩,bV 3 A7 s.Fw,bV 130 Am s.next,bV 104 AP s.Co],λv b=>⟨B4 Am v 0,AK v 1,AK v 2,AK v 6,B4 A7 v 8,B4 Ae v 12,AK v 13,AK v 14,AF Ad b 0 0,AF .str b 0 1,AF Ah b 0 2,AF Ae b 0 3,AF Ai b 0 4,AF AP b 0 5,AF Ak b 0 6,Aj b 0 7,AF A7 b 0 8,Ab A7 b 1,Ab Am b 2,Ab AP b 3⟩,z7,λs r=> {s with n:=r.n,t15:=r.t15,i:=r.i,Fw:=r.Fw,next:=r.next,Co:=r.Co},λs=>s,λ_ s=>s,[.ret,.exit 0],Yp,R2,WW⟩
abbrev Ib:=RX.run
abbrev qX:=RX.Aq
def axv:Rq R2 z7:=by
 intro s hI;refine ⟨λc1=>⟨?_,?_,?_,λc2=>⟨A9,A9,A9,ak⟩,λc2=>⟨?_,?_,?_,?_,?_,λc3=>⟨?_,?_,?_,?_,ak⟩,λc3=>⟨?_,?_,A9,ak⟩⟩⟩,λc1=>⟨A9,A9,A9,ak⟩⟩
 all_goals ((obtain ⟨⟨h0,h1⟩,hA,hL,⟨h2,h3⟩,⟨h4,h5⟩,h6,⟨h7,h8,h9,h10⟩,hk,h11⟩:=hI;have hll:M s.Co<=s.i.toNat:=yP;(try simp only [Ac] at c1);have hl3:M s.c3=M s.m:=B1 M h4;first|omega|exact ⟨rfl,AJ⟩ |(refine ⟨A0,?_,?_⟩<;>simp only [Bi,Bp]<;>omega)))
def abv:List Bd:=[avC,auU,auW,avE,auX]
def rp:RX.Ok:={}
def rL:RX.Pf (j3):=⟨alO,λs h=>rfl,ag4,axv⟩
def apm:SA 0 aFo RX:=s1 rp rL abv kN
def att:Fi Yp R2 j3 qX Ib:=AR.fin rp rL
theorem atr:Rs Yp qX Ib (λs:LQ=>s.n-(M s.Co:Int)) (λx s' (v:Int)=>s'.n-(M s'.Co:Int)=v):=DJ rp rL (λs hI=>by
  obtain ⟨⟨h0,h1⟩,hA,hL,⟨h2,h3⟩,⟨h4,h5⟩,h6,⟨h7,h8,h9,h10⟩,hk,h11⟩:=hI
  have hll:M s.Co<=s.i.toNat:=yP
  refine AH (λc1=>?_) λc1=>?_
  ·refine AH (λc2=>?_) (λc2=>?_)
   ·rfl
   ·refine AH (λc3=>?_) (λc3=>?_)
    ·have c1:s.i<s.k:=A8
     rw [AI (x:=s.n+1)]
     show s.n+1-((M (s.Co++[_]):Nat):Int)=s.n-(M s.Co:Int)
     exact aMB
    ·rfl
  ·rfl)
def aJ2:List LV->T LV
 | .agg a::r=>s5 a λcs os ks gs bs=>(match r with
  | [.xl (.pair (.int J) (.pair (.int J) (.pair (.int J) (.pair (.int J) (.int J))))) l,.xl (.pair (.int J) (.int J)) rs,.xl (.pair .bool (.pair (.int J) (.pair (.int J) (.int J)))) d,.v (Y J t),.v (Y J n)]=> .req (IF d t/\M d<=19) (.ok<|.AM [.xl A7<|deA cs os ks gs bs l rs d t n,deR cs os ks gs bs l rs d t n,deL cs os ks gs bs l rs d t n,deE cs os ks gs bs l rs d t n])
  |_=> .no)
 |_=> .no
def bP (cs:List Cd) (os:List ByteArray) (ks:List Ko) (gs:List Ch) (bs:List Ba) (l:List Le) (rs:List Ra) (d:List Dm) (t n:Int):LQ:=letI a:=ofO cs os ks gs bs l d t<|Gt d t;(⟨rs,t,n,0,a,gs,(M gs:Int),0,cs,os,ks,gs,bs,l,d,t,Gt d t,aq (M a:Int).toNat (0:Int),aq (M a:Int).toNat ((0:Int),(0:Int)),([]:List Le)⟩:LQ)
def aJj:=vm (S:=aJ2) func66 abv kN (L:=(λi=>if i=11 then RX.lp else Ag i)) (λb hb=>by
 rw [show BA _=[aFo] by kernel_rfl] at hb
 simp only [B8,Bu,Bt] at hb;subst hb;exact apm) (λargs lv h=>by
 unfold aJ2 at h;split at h
 case h_2=>cases h
 replace h:=HX h
 obtain ⟨cs,os,ks,gs,bs,rfl,h⟩:=h;split at h
 ·rename_i l rs d t n
  refine Ap (letI a:=bP cs os ks gs bs l rs d t n;letI b:=(M (ofO cs os ks gs bs l d t<|Gt d t):Int);.req (IF d t/\M d<=19)<|.br (!(J6 cs os ks gs bs l rs d t n)) (.ok<|.AM [.xl A7 ([]:List Int),.xl Am ([]:List Ra),.xl AP ([]:List Le),(1:Int)])<|.req (M d=M gs/\G0 cs os ks gs bs (BP gs) (Iq gs d) (Gt d t)=U/\LZ l (M gs:Int) t=U/\G0 cs os ks gs bs (Hh gs l t) (Fb cs os ks gs bs (BP gs) (Iq gs d)<|Gt d t) (Gt d t)=U)<|.br ((0:Int) !=0) (.ok<|.AM [.xl A7 ([]:List Int),.xl Am ([]:List Ra),.xl AP ([]:List Le),(1:Int)])<|.rm 8 b<|.rm 16 b<|.re b.toNat (aq b.toNat (0:Int))<|.re b.toNat (aq b.toNat ((0:Int),(0:Int)))<|.r0 Le<|.req (RX.q a)<|.br (Bj (qX a)<|.ret) (.ok<|.AM [.xl A7 ([]:List Int),.xl Am ([]:List Ra),.xl AP ([]:List Le),(Ib a).t15])<|.rz (Ib a).Fw<|.rz (Ib a).next (.rz (Ib a).Co<|.ok<|.AM [.xl A7<|((Ib a).Fw.drop 0).take<|M (Ib a).Fw,(((Ib a).next.drop 0).take<|M (Ib a).next),(((Ib a).Co.drop 0).take<|M (Ib a).Co),(0:Int)])) ?_;obtain ⟨hw,rfl⟩:=h;refine ⟨hw,λc=>?_,λc=>?_⟩
  ·unfold deA deR deL deE
   rw [ntW c];rfl
  have c:=nfW c
  have V:=ahs c
  have ol:M (ofO cs os ks gs bs l d t<|Gt d t)=M gs:=(aao V).1
  have hE:Yp (bP cs os ks gs bs l rs d t n):=⟨rfl,rfl,⟨rfl,by have:=V.gl;show (M gs:Int)<=16;omega⟩,A9,⟨by have:=(Ij V.les).1;show (M l:Int)<=1000;omega,V.tb⟩,⟨V.rl,ol,by show M (aq _ (0:Int))=M gs;rw [Ce];omega,by show M (aq _ ((0:Int),(0:Int)))=M gs;rw [Ce];omega⟩,ag3 V,by have:=V.nb;show 1<=n-(0:Int);omega,by have:=V.nb;show n-(0:Int)<=999900;omega⟩
  obtain ⟨_,_,q1,q2,q3,q4⟩:=att _ hE
  have hn:=atr _ hE
  have hn:=hn.trans<|Pu n
  have q2:(Ib<|bP cs os ks gs bs l rs d t n).Fw=deA cs os ks gs bs l rs d t n:=q2.trans (by unfold deA;rw [AD c];rfl)
  have q3:(Ib<|bP cs os ks gs bs l rs d t n).next=deR cs os ks gs bs l rs d t n:=q3.trans (by unfold deR;rw [AD c];rfl)
  rw [hn] at q4
  have q4:(Ib<|bP cs os ks gs bs l rs d t n).Co=deL cs os ks gs bs l rs d t n:=q4.trans (by unfold deL;rw [AD c];rfl)
  have gl:=V.gl
  refine ⟨⟨V.dl,aTj V.si,atS V,aan V⟩,λc2=>absurd c2 Aa,λ_=>?_⟩
  refine ⟨by rw [ol];omega,by rw [ol];omega,⟨rfl,AJ⟩,⟨rfl,AJ⟩,A9,⟨hE,rfl,rfl⟩,?_⟩
  rw [q1];refine ⟨λh=>An,λ_=>⟨A0,A0,A0,?_⟩⟩
  show LV.AM [LV.xl _ _,LV.xl _ _,LV.xl _ _,_]=_
  rw [CP,E6,CP,E6,CP,E6,q2,q3,q4];unfold deE;rw [AD c]
 ·cases h)
structure NS where
 t5:Int
 t23:List Int
 (t24 t25:Int)
 B9:List Cd
 BV:List ByteArray
 Bz:List Ko
 B5:List Ch
 C0:List Ba
 Cx:List Int
def aEn:=bN f86 0
def vN (s:NS):T (Rd NS):=
 .br (an<|s.t25<s.t24) (.ix s.t25 (M s.t23)<|.br ((an<|(gi s.t23 s.t25)<0) ||(an<|(gi s.t23 s.t25)>80)) (.so (.ret) {s with t5:=(1:Int)})<|.nx {s with t25:=AA<|s.t25+1}) (.so (.exit 0) s)
def im (s:NS):Prop:=s.t5=0/\s.t25=0/\s.t24=(M s.t23:Int)/\s.t24<=1000/\∀k:Nat,k<M s.t23->0<=gi s.t23 k/\gi s.t23 k<=80
def Xu (s:NS):Prop:=s.t5=0/\(0<=s.t25/\s.t25<=s.t24)/\s.t24=(M s.t23:Int)/\s.t24<=1000/\∀k:Nat,k<M s.t23->0<=gi s.t23 k/\gi s.t23 k<=80
def sM (s:NS):Nat:=(s.t24-s.t25).toNat
def aA8 (x:Ex) (s s':NS):Prop:=x=.exit 0/\s'.t5=0
def akY:∀s,im s->Xu s:=by
 rintro s ⟨h9,h0,h1,h2,h3⟩
 exact ⟨h9,A0,h1,h2,h3⟩
theorem ay6:Da Xu sM aA8 vN:=by
 intro s hI;obtain ⟨h9,⟨h0,h1⟩,h2,h3,h5⟩:=hI;refine AH (λc1=>AH (λc2=>?_) λc2=>?_) λc1=>?_
 ·exfalso
  have c1:s.t25<s.t24:=A8
  have:=h5 s.t25.toNat A0
  rw [CR h0] at this;simp only [Cl,Ac] at c2;omega
 ·have c1:s.t25<s.t24:=A8
  rw [AI (x:=s.t25+1)];exact ⟨⟨h9,⟨A8,A8⟩,h2,h3,h5⟩,by simp only [sM];omega⟩
 ·exact ⟨rfl,h9⟩
def RE:AR NS:=⟨0,65,[2,3,4,5,23,24,25],[],λs=>[.own 0 0,.own 1 0,.v<|.slice aj 0 0,s.t5,.xl A7 s.t23,s.t24,s.t25],λs=>[⟨[s.B9,s.BV,s.Bz,s.B5,s.C0],28,.cl,X⟩,⟨[.xl A7 s.Cx],29,.cl,X⟩],λv b=>⟨AK v 3,B4 A7 v 4,AK v 5,AK v 6,AF Ad b 0 0,AF .str b 0 1,AF Ah b 0 2,AF Ae b 0 3,AF Ai b 0 4,AF A7 b 1 0⟩,vN,λs r=> {s with t5:=r.t5,t25:=r.t25},λs=>s,λ_ s=>s,[.ret,.exit 0],im,Xu,sM⟩
abbrev mw:=RE.run
abbrev aHw:=RE.Aq
def aw9:Rq Xu vN:=by
 intro s hI;refine ⟨λc1=>⟨?_,λ_=>trivial,λ_=>trivial⟩,λ_=>trivial⟩
 ·(simp only [Ac] at c1;obtain ⟨h9,⟨h0,h1⟩,h2,h3⟩:=hI;omega)
def fD:List Bd:=[Oy,dv]
def aRL:Ax:=kI fD<|l0 fD
def aQT:RE.Ok:={}
def aOm:RE.Pf (aA8):=⟨akY,λs h=>rfl,ay6,aw9⟩
def apS:SA 0 aEn RE:=s1 aQT aOm fD aRL
def arz:Fi im Xu aA8 aHw mw:=AR.fin aQT aOm
def yr:Array Tmp×Code×Code:=((Ii<|f86.body.getD .skip)[0]?).getD (#[],.skip,.skip)
def ajs:Array Tmp:=yr.1
def ajP:Code:=yr.2.1
def ak0:Code:=yr.2.2
structure JY where
 B9:List Cd
 BV:List ByteArray
 Bz:List Ko
 B5:List Ch
 C0:List Ba
 c:Int
 Be:List Cd
 GI:List ByteArray
 GG:List Ko
 GK:List Ch
 GN:List Ba
 b1:List Int
 b3:List (Int×Ra)
 b4:Int
 dB:ByteArray
 (hM IW fU fV dA nC oD:Int)
 st:LS
def vL (s:JY):T (Rd JY):=letI b:=gi s.b1 s.b4;letI d:=s.c.toNat<M s.b3;letI e:=UZ s.b3 s.c.toNat b;letI g:=M s.b3;letI h:=M s.B9;letI i:=Al s.B9 s.c;letI k:=(Bv J s.IW 4) !=0;letI m:=s.c.toNat<M e;letI a:=XA s.b3 s.c.toNat b;letI f:=UZ a s.c.toNat b;letI j:=s.c.toNat<M a;letI l:=s.c.toNat<M f;.br (an<|s.c>=0) (.ix s.c g<|.ix s.b4 (M s.b1)<|.br ((Bv J s.IW 1) !=0) (.req d<|.req d<|.br ((Bv J s.IW 2) !=0) (.req j<|.req j<|.br k (.req l<|.req l<|.ix s.c h<|.re g (Ku f s.c.toNat b)<|.nx {s with c:=i.2.1,b3:=Ku f s.c.toNat b})<|.ix s.c h<|.re g f<|.nx {s with c:=i.2.1,b3:=f})<|.br k (.req j<|.req j<|.ix s.c h<|.re g (Ku a s.c.toNat b)<|.nx {s with c:=i.2.1,b3:=Ku a s.c.toNat b})<|.ix s.c h<|.re g a<|.nx {s with c:=i.2.1,b3:=a})<|.br ((Bv J s.IW 2) !=0) (.req d<|.req d<|.br k (.req m<|.req m<|.ix s.c h<|.re g (Ku e s.c.toNat b)<|.nx {s with c:=i.2.1,b3:=Ku e s.c.toNat b})<|.ix s.c h<|.re g e<|.nx {s with c:=i.2.1,b3:=e})<|.br k (.req d<|.req d<|.ix s.c h<|.re g (Ku s.b3 s.c.toNat b)<|.nx {s with c:=i.2.1,b3:=Ku s.b3 s.c.toNat b})<|.ix s.c h<|.rl s.b3<|.nx {s with c:=i.2.1})<|.rl s.b3<|.so (.exit 0) s
def Tn (s:JY):Prop:=s.st=.ready/\Fq s.B9=U/\s.c<(M s.B9:Int)/\M s.b3=M s.B9/\(0<=s.b4/\s.b4<(M s.b1:Int))
def Xt (s:JY):Prop:=s.st=.ready/\Fq s.B9=U/\s.c<(M s.B9:Int)/\M s.b3=M s.B9/\(0<=s.b4/\s.b4<(M s.b1:Int))
def aBk (s:JY):Nat:=(s.c+1).toNat
def aA6 (x:Ex) (s s':JY):Prop:=x=.exit 0/\s'.c<0
def akW:∀s,Tn s->Xt s:=by
 exact λs h=>h
theorem ay4:Da Xt aBk aA6 vL:=by
 intro s hI;obtain ⟨h0,h1,h2,h3,h4⟩:=hI;refine AH (λc1=>?_) λc1=>?_
 ·have c1:0<=s.c:=AX
  have:=QW h1 c1 h2
  exact AH (λ_=>AH (λ_=>AH (λ_=>⟨⟨h0,h1,AZ,Sk,h4⟩,Pz⟩) λ_=>⟨⟨h0,h1,AZ,Sk,h4⟩,Pz⟩) λ_=>AH (λ_=>⟨⟨h0,h1,AZ,Sk,h4⟩,Pz⟩) λ_=>⟨⟨h0,h1,AZ,Sk,h4⟩,Pz⟩) λ_=>AH (λ_=>AH (λ_=>⟨⟨h0,h1,AZ,Sk,h4⟩,Pz⟩) λ_=>⟨⟨h0,h1,AZ,Sk,h4⟩,Pz⟩) λ_=>AH (λ_=>⟨⟨h0,h1,AZ,Sk,h4⟩,Pz⟩) λ_=>⟨⟨h0,h1,AZ,A8,h4⟩,Pz⟩
 ·have c1:¬(0<=s.c):=AX
  exact V7
def Yv:AR JY:=⟨7,18,[0,2,4],[],λs=>[.CO 6,xQ 5 [s.B9,s.BV,s.Bz,s.B5,s.C0],s.c],λs=>[⟨[s.Be,s.GI,s.GG,s.GK,s.GN],28,.cl,X⟩,⟨[.xl A7 s.b1],29,.cl,X⟩,⟨[.os 3 3 0<|M s.b3],183,.cl,X⟩,⟨[],191,.vec (.pair A7 Am) s.b3,X⟩,⟨[s.b4],3,.cl,X⟩,⟨[.v<|.string s.dB,s.hM,s.IW,s.fU,s.fV,s.dA,s.nC,s.oD],90,.cl,X⟩,⟨[.junk,.junk,.junk,.own 1 0,.junk,.junk,.junk,.junk,.own 2 0,.own 4 0,.own 5 0,.junk,.junk,.junk,.junk,.junk,.junk,.junk,.junk,.junk,.junk,.junk,.junk,.junk,.junk,.junk,.junk,.junk,.junk,.junk,.junk,.junk,.junk,.junk,.junk,.junk,.junk,.junk,.junk,.junk,.junk,.junk,.junk,.junk,.junk,.junk,.junk,.junk,.junk,.junk,.junk,.junk,.junk,.junk,.junk,.junk,.junk,.junk,.junk,.junk,.junk,.junk,.junk,.junk,.junk],0,.Cg ajs ajP ak0 s.st,X⟩],λv b=>⟨Ao Ad<|BT (v.getD 1 .junk) 0,Ao .str<|BT (v.getD 1 .junk) 1,Ao Ah<|BT (v.getD 1 .junk) 2,Ao Ae<|BT (v.getD 1 .junk) 3,Ao Ai<|BT (v.getD 1 .junk) 4,AK v 2,AF Ad b 0 0,AF .str b 0 1,AF Ah b 0 2,AF Ae b 0 3,AF Ai b 0 4,AF A7 b 1 0,Ab (.pair A7 Am) b 3,Aj b 4 0,gSr<|BB (CU b 5) 0,Aj b 5 1,Aj b 5 2,Aj b 5 3,Aj b 5 4,Aj b 5 5,Aj b 5 6,Aj b 5 7,.ready⟩,vL,λs r=> {r with B9:=s.B9,BV:=s.BV,Bz:=s.Bz,B5:=s.B5,C0:=s.C0,Be:=s.Be,GI:=s.GI,GG:=s.GG,GK:=s.GK,GN:=s.GN,b1:=s.b1,b4:=s.b4,dB:=s.dB,hM:=s.hM,IW:=s.IW,fU:=s.fU,fV:=s.fV,dA:=s.dA,nC:=s.nC,oD:=s.oD,st:=s.st},λs=> {s with st:=.ready},λx s=> {s with st:=(match x with| .exit 0=> .ready|_=> .ready)},[.exit 0],Tn,Xt,aBk⟩
abbrev TC:=Yv.run
abbrev aHv:=Yv.Aq
def aw7:Rq Xt vL:=by
 intro s hI;refine ⟨λc1=>⟨?_,?_,λc2=>⟨?_,?_,λc3=>⟨?_,?_,λc4=>⟨?_,?_,?_,?_,ak⟩,λc4=>⟨?_,?_,ak⟩⟩,λc3=>⟨λc5=>⟨?_,?_,?_,?_,ak⟩,λc5=>⟨?_,?_,ak⟩⟩⟩,λc2=>⟨λc6=>⟨?_,?_,λc7=>⟨?_,?_,?_,?_,ak⟩,λc7=>⟨?_,?_,ak⟩⟩,λc6=>⟨λc8=>⟨?_,?_,?_,?_,ak⟩,λc8=>⟨?_,A9,ak⟩⟩⟩⟩,λc1=>⟨A9,ak⟩⟩
 all_goals ((obtain ⟨h0,h1,h2,h3,h4⟩:=hI;simp only [Ac,M8] at c1;first|omega|(simp only [aBd,aBb,aBa];omega) |simp [aBd,aBb,aBa]))
def rj:Yv.Ok:={}
def rJ:Yv.Pf (aA6):=⟨akW,λs h=>by
 obtain ⟨B9,BV,Bz,B5,C0,c,Be,GI,GG,GK,GN,b1,b3,b4,dB,hM,IW,fU,fV,dA,nC,oD,st⟩:=s
 have e:=h.1
 subst e;rfl,ay4,aw7⟩
def aGI:=s2 (b:=bN f168 0) rj rJ fD aRL
def arw:Fi Tn Xt aA6 aHv TC:=AR.fin rj rJ
theorem anS (s:JY) (hE:Tn s):(λs:JY=>HD s.B9 s.IW (gi s.b1 s.b4) s.c s.b3) (TC s)=(λs:JY=>HD s.B9 s.IW (gi s.b1 s.b4) s.c s.b3) s:=by
 exact AR.KJ rj rJ (λs:JY=>HD s.B9 s.IW (gi s.b1 s.b4) s.c s.b3) (λs hI=>by
  obtain ⟨h0,h1,h2,h3,h4⟩:=hI
  have hp:=azi (ph:=s.IW) (v:=gi s.b1 s.b4) (l:=s.b3) h1 h2
  refine AH (λc1=>?_) λc1=>rfl
  have c1:0<=s.c:=A8
  rw [AD c1,ahS A0] at hp
  refine AH (λd1=>AH (λd2=>AH (λd4=>?_) λd4=>?_) λd2=>AH (λd4=>?_) λd4=>?_) (λd1=>AH (λd2=>AH (λd4=>?_) λd4=>?_) λd2=>AH (λd4=>?_) λd4=>?_)<;>
   (show HD _ _ _ _ _=HD _ _ _ _ _;rw [hp];simp only [d1,d2,d4,Bm,Hz,FM])) s hE
def arv (s:JY) (hE:Tn s):aHv s=.exit 0/\(TC s).b3=HD s.B9 s.IW (gi s.b1 s.b4) s.c s.b3:=by
 have q3:=anS s hE
 obtain ⟨s',hI,q1,q2⟩:=arw s hE;refine ⟨q1,?_⟩
 have q3:HD s.B9 s.IW (gi s.b1 s.b4) (TC s).c (TC s).b3=HD s.B9 s.IW (gi s.b1 s.b4) s.c s.b3:=q3
 rw [<-q3];unfold HD;rw [ldW,AE A0]
structure MW where
 t5:Int
 t41:List Ch
 (t42 t43:Int)
 B9:List Cd
 BV:List ByteArray
 Bz:List Ko
 B5:List Ch
 C0:List Ba
 Cx:List Int
 b3:List (Int×Ra)
def aEm:=bN f86 1
def ni (s:MW):JY:=(⟨s.B9,s.BV,s.Bz,s.B5,s.C0,(AG s.t41 s.t43).2.1,s.B9,s.BV,s.Bz,s.B5,s.C0,s.Cx,s.b3,s.t43,(AG s.t41 s.t43).1,(AG s.t41 s.t43).2.1,(AG s.t41 s.t43).2.2.1,(AG s.t41 s.t43).2.2.2.1,(AG s.t41 s.t43).2.2.2.2.1,(AG s.t41 s.t43).2.2.2.2.2.1,(AG s.t41 s.t43).2.2.2.2.2.2.1,(AG s.t41 s.t43).2.2.2.2.2.2.2,.ready⟩:JY)
def vM (s:MW):T (Rd MW):=
 .br (an<|s.t43<s.t42) (.ix s.t43 (M s.t41)<|.rl s.b3<|.req (Yv.q<|ni s)<|.rl (TC<|ni s).b3<|.nx {s with t43:=AA<|s.t43+1,b3:=(TC<|ni s).b3}) (.rl s.b3<|.so (.exit 2) s)
def il (s:MW):Prop:=s.t43=0/\(s.t42=(M s.t41:Int)/\s.t42<=1000/\Fq s.B9=U/\atB s.B9 s.t41=U/\M s.Cx=M s.t41)/\s.b3=aq (M s.B9) (Ty.dflt<|.pair A7 Am)
def U1 (s:MW):Prop:=(0<=s.t43/\s.t43<=s.t42)/\(s.t42=(M s.t41:Int)/\s.t42<=1000/\Fq s.B9=U/\atB s.B9 s.t41=U/\M s.Cx=M s.t41)/\s.b3=ldS s.B9 s.t41 s.Cx s.t43.toNat
def tc (s:MW):Nat:=(s.t42-s.t43).toNat
def aA7 (x:Ex) (s s':MW):Prop:=x=.exit 2/\s'.b3=ldS s'.B9 s'.t41 s'.Cx (M s'.t41)
def akX:∀s,il s->U1 s:=by
 rintro s ⟨h0,h1,h2⟩
 exact ⟨A0,h1,by rw [h2,h0];rfl⟩
def aQk (s:MW) (hI:U1 s) (c1:s.t43<s.t42):Tn (ni s):=by
 obtain ⟨⟨h0,h1⟩,⟨h2,h3,h4,h5,h6⟩,h7⟩:=hI;refine ⟨rfl,h4,uh h5 h0 A0,?_,⟨h0,?_⟩⟩
 ·show M s.b3=_
  rw [h7];exact qG h4 h5 _ A0
 ·show s.t43<(M s.Cx:Int)
  omega
theorem ay5:Da U1 tc aA7 vM:=by
 intro s hI
 have hin:=λc1=>aQk s hI c1
 obtain ⟨⟨h0,h1⟩,⟨h2,h3,h4,h5,h6⟩,h7⟩:=hI;refine AH (λc1=>?_) λc1=>?_
 ·have c1:s.t43<s.t42:=A8
  obtain ⟨_,q⟩:=arv _<|hin c1;rw [AI (x:=s.t43+1)];refine ⟨⟨⟨A8,A8⟩,⟨h2,h3,h4,h5,h6⟩,?_⟩,by simp only [tc];omega⟩
  rw [show (s.t43+1).toNat=s.t43.toNat+1 by omega,q]
  show HD s.B9 (AG s.t41 s.t43).2.2.1 (gi s.Cx s.t43) (AG s.t41 s.t43).2.1 s.b3=HD s.B9 (AG s.t41 (s.t43.toNat:Int)).2.2.1 (gi s.Cx (s.t43.toNat:Int)) (AG s.t41 (s.t43.toNat:Int)).2.1 (ldS s.B9 s.t41 s.Cx s.t43.toNat)
  grind
 ·have c1:s.t42<=s.t43:=A8
  refine ⟨rfl,?_⟩
  grind
def RC:AR MW:=⟨0,65,[2,3,4,5,8,41,42,43],[],λs=>[.own 0 0,.own 1 0,.v<|.slice aj 0 0,s.t5,.own 2 0,s.t41,s.t42,s.t43],λs=>[⟨[s.B9,s.BV,s.Bz,s.B5,s.C0],28,.cl,X⟩,⟨[.xl A7 s.Cx],29,.cl,X⟩,⟨[.os 3 3 0<|M s.b3],183,.cl,X⟩,⟨[],191,.vec (.pair A7 Am) s.b3,X⟩],λv b=>⟨AK v 3,B4 Ae v 5,AK v 6,AK v 7,AF Ad b 0 0,AF .str b 0 1,AF Ah b 0 2,AF Ae b 0 3,AF Ai b 0 4,AF A7 b 1 0,Ab (.pair A7 Am) b 3⟩,vM,λs r=> {r with t5:=s.t5,t41:=s.t41,t42:=s.t42,B9:=s.B9,BV:=s.BV,Bz:=s.Bz,B5:=s.B5,C0:=s.C0,Cx:=s.Cx},λs=>s,λ_ s=>s,[.exit 2],il,U1,tc⟩
abbrev aC4:=RC.run
abbrev atD:=RC.Aq
theorem aw8:Rq U1 vM:=by
 intro s hI;refine ⟨λc1=>⟨?_,A9,?_,A9,ak⟩,λc1=>⟨A9,ak⟩⟩
 ·(obtain ⟨⟨h0,h1⟩,⟨h2,h3⟩,h4⟩:=hI;simp only [Ac] at c1;omega)
 ·exact ⟨aQk s hI A8,rfl,rfl⟩
def uG:List Bd:=[Oy,dv]
def azR:Ax:=kI uG<|la 1 func168 aGI<|l0 uG
def aQS:RC.Ok:={}
def aOl:RC.Pf (aA7):=⟨akX,λs h=>rfl,ay5,aw8⟩
def apQ:SA 0 aEm RC:=s1 aQS aOl uG azR
def arx:Fi il U1 aA7 atD aC4:=AR.fin aQS aOl
def J2 (cs:List Cd) (gs:List Ch) (am:List Int):List Ld:=if M am=M gs then ldS cs gs am (M gs) else []
def J8 (gs:List Ch) (am:List Int):Int:=if M am=M gs then 0 else 1
def aSR:List LV->T LV
 | .agg a::r=>s5 a λcs os ks gs bs=>(match r with
  | [.xl (.int J) am]=> .req (BI cs os ks gs bs=U/\(M am=M gs->∀k:Nat,k<M am->0<=gi am k/\gi am k<=80)) (.ok<|.AM [.xl (.pair A7 Am)<|J2 cs gs am,J8 gs am])
  |_=> .no)
 |_=> .no
def uF:List Bd:=[Oy,dv]
def azQ:Ax:=kI uF<|la 1 func168 aGI<|l0 uF
def aTy:=vm (S:=aSR) func86 uF azQ (L:=(λi=>if i=4 then RE.lp else if i=11 then RC.lp else Ag i)) (λb hb=>by
 rw [show BA _=[aEn,aEm] by kernel_rfl] at hb
 simp only [B8,Bu,Bt] at hb;rcases hb with rfl|rfl
 ·exact apS
 ·exact apQ) (λargs lv h=>by
 unfold aSR at h;split at h
 case h_2=>cases h
 replace h:=HX h
 obtain ⟨cs,os,ks,gs,bs,rfl,h⟩:=h;split at h
 ·rename_i am
  refine Ap (letI e:=(M am:Int);letI f:=(M gs:Int);letI g:=(M cs:Int);letI b:=(mw (⟨0,am,e,0,cs,os,ks,gs,bs,am⟩:NS));letI d:=(aq g.toNat ((0:Int),((0:Int),(0:Int))));letI a:=(aC4 (⟨b.t5,gs,f,0,cs,os,ks,gs,bs,am,d⟩:MW));.br ((!(BI cs os ks gs bs)) ||(e !=f)) (.ok<|.AM [.xl (.pair A7 Am) ([]:List<|Int×Ra),(1:Int)])<|.req (RE.q (⟨0,am,e,0,cs,os,ks,gs,bs,am⟩:NS))<|.br (Bj (aHw (⟨0,am,e,0,cs,os,ks,gs,bs,am⟩:NS))<|.ret) (.ok<|.AM [.xl (.pair A7 Am) ([]:List<|Int×Ra),b.t5])<|.rm 24 g<|.re g.toNat d<|.req (RC.q (⟨b.t5,gs,f,0,cs,os,ks,gs,bs,am,d⟩:MW))<|.rz a.b3<|.ok<|.AM [.xl (.pair A7 Am)<|(a.b3.drop 0).take<|M a.b3,(0:Int)]) ?_;obtain ⟨⟨hv,hr⟩,rfl⟩:=h
  by_cases hl:M am=M gs
  rotate_left
  ·refine ⟨λ_=>?_,λc=>?_⟩
   ·unfold J2 J8
    rw [AE hl,AE hl];rfl
   ·rw [hv] at c;simp at c;omega
  have hr:=hr hl
  unfold J2 J8;rw [AD hl,AD hl]
  have hb:=(DD.1 hv).1
  have hA:im ⟨0,am,(M am:Int),0,cs,os,ks,gs,bs,am⟩:=⟨rfl,rfl,rfl,A8,hr⟩
  obtain ⟨_,_,q1,q5⟩:=arz _ hA
  have hB:il ⟨(mw ⟨0,am,(M am:Int),0,cs,os,ks,gs,bs,am⟩).t5,gs,(M gs:Int),0,cs,os,ks,gs,bs,am,aq (M cs:Int).toNat ((0:Int),((0:Int),(0:Int)))⟩:=⟨rfl,⟨rfl,A8,oz hv,p7 hv,hl⟩,by
   rw [C3];rfl⟩
  obtain ⟨_,_,q6,q7⟩:=arx _ hB
  have q7:(aC4 ⟨(mw ⟨0,am,(M am:Int),0,cs,os,ks,gs,bs,am⟩).t5,gs,(M gs:Int),0,cs,os,ks,gs,bs,am,aq (M cs:Int).toNat ((0:Int),((0:Int),(0:Int)))⟩).b3=ldS cs gs am (M gs):=q7
  refine ⟨λc=>?_,λ_=>⟨⟨hA,rfl,rfl⟩,?_⟩⟩
  ·exfalso
   rw [hv,hl] at c
   simp at c
  ·rw [q1]
   refine ⟨λh=>An,λ_=>⟨A0,⟨rfl,AJ⟩,⟨hB,rfl,rfl⟩,A0,?_⟩⟩
   show LV.AM _=LV.AM _
   rw [CP,E6,q7]
 ·cases h)
def yq:Array Tmp×Code×Code:=((Ii<|f63.body.getD .skip)[0]?).getD (#[],.skip,.skip)
def aas:Array Tmp:=yq.1
def aax:Code:=yq.2.1
def aav:Code:=yq.2.2
structure Nn where
 (c t7 t8 t11:Int)
 Be:List Cd
 GI:List ByteArray
 GG:List Ko
 GK:List Ch
 GN:List Ba
 (IV Ik Ih:Int)
 b2:Bool
 b3:Int
 b4:List (Int×Ra)
 NB:List Cd
 ND:List ByteArray
 NA:List Ko
 NC:List Ch
 NL:List Ba
 st:LS
def aFt:=lN (bN f126 0) 0
def fo (s:Nn):T (Rd Nn):=letI a:=EN<|Al s.Be s.c;letI b:=AA<|s.t11+1;letI d:=M s.Be;.br (an<|s.t11<3) (.ix s.c (M s.b4)<|.br (s.t11==0) (.ix s.c d<|.br (an<|(gx (e:=.pair A7 Am) s.b4 s.c).1>a) (.so (.ret) {s with IV:=s.c,Ik:=s.t11,Ih:=(gx (e:=.pair A7 Am) s.b4 s.c).1,b2:=U,b3:=(0:Int),st:=.done<|.ret})<|.nx {s with t11:=b})<|.br (s.t11==1) (.ix s.c d<|.br (an<|(gx (e:=.pair A7 Am) s.b4 s.c).2.1>a) (.so (.ret) {s with IV:=s.c,Ik:=s.t11,Ih:=(gx (e:=.pair A7 Am) s.b4 s.c).2.1,b2:=U,b3:=(0:Int),st:=.done<|.ret})<|.nx {s with t11:=b})<|.br (s.t11==2) (.ix s.c d<|.br (an<|(gx (e:=.pair A7 Am) s.b4 s.c).2.2>a) (.so (.ret) {s with IV:=s.c,Ik:=s.t11,Ih:=(gx (e:=.pair A7 Am) s.b4 s.c).2.2,b2:=U,b3:=(0:Int),st:=.done<|.ret})<|.nx {s with t11:=b})<|.no /-  -/)<|.so (.exit 2) s
def jj (s:Nn):Prop:=s.st=.ready/\s.t11=0/\(0<=s.c/\s.c<(M s.b4:Int))/\s.c<(M s.Be:Int)
def jP (s:Nn):Prop:=s.st=.ready/\(0<=s.t11/\s.t11<=3)/\(0<=s.c/\s.c<(M s.b4:Int))/\s.c<(M s.Be:Int)
def dh (s:Nn):Nat:=(3-s.t11).toNat
def ac6 (x:Ex) (s s':Nn):Prop:=True
def al2:∀s,jj s->jP s:=by
 rintro s ⟨h,h0,h1⟩
 exact ⟨h,A0,h1⟩
theorem ahm:Da jP dh ac6 fo:=by
 intro s hI;obtain ⟨ht,h0,h1,h2⟩:=hI;refine AH (λc1=>?_) λc1=>?_
 ·refine AH (λc2=>?_) (λc2=>?_)
  ·refine AH (λc3=>?_) (λc3=>?_)
   ·trivial
   ·exact aKx
  ·refine AH (λc3=>?_) (λc3=>?_)
   ·refine AH (λc4=>?_) (λc4=>?_)
    ·trivial
    ·exact aKx
   ·refine AH (λc4=>?_) (λc4=>?_)
    ·refine AH (λc5=>?_) (λc5=>?_)
     ·trivial
     ·have c1:s.t11<3:=AX
      rw [AI (x:=s.t11+1)];exact ⟨⟨ht,⟨A8,A8⟩,h1,h2⟩,by simp only [dh];omega⟩
    ·exfalso
     simp only [Ac,CQ,ne_eq] at*;omega
 ·trivial
def Rb:AR Nn:=⟨7,22,[0,3,7,8,11],[],λs=>[.CO 6,s.c,s.t7,s.t8,s.t11],λs=>[⟨[s.Be,s.GI,s.GG,s.GK,s.GN],28,.cl,X⟩,⟨[s.IV,s.Ik,s.Ih],143,.cl,X⟩,⟨[s.b2],4,.cl,X⟩,⟨[s.b3],52,.cl,X⟩,⟨[.xl (.pair A7 Am) s.b4],183,.cl,X⟩,⟨[s.NB,s.ND,s.NA,s.NC,s.NL],28,.cl,X⟩,⟨[.junk,.junk,.own 0 0,.junk,.own 1 0,.own 2 0,.own 3 0,.own 4 0,.junk,.v<|.tuple #[],.v<|.tuple #[],.junk,.junk,.junk,.junk,.junk,.junk,.junk,.junk,.junk,.junk,.junk,.v<|.tuple #[],.v<|.tuple #[],.v<|.tuple #[],.v<|.tuple #[],.v<|.tuple #[],.v<|.tuple #[],.v<|.tuple #[],.v<|.tuple #[],.v<|.tuple #[],.v<|.tuple #[],.v<|.tuple #[],.v<|.tuple #[],.v<|.tuple #[],.v<|.tuple #[],.v<|.tuple #[],.v<|.tuple #[],.v<|.tuple #[],.v<|.tuple #[],.v<|.tuple #[],.v<|.tuple #[],.v<|.tuple #[],.v<|.tuple #[],.v<|.tuple #[],.v<|.tuple #[],.junk],0,.Cg aas aax aav s.st,X⟩],λv b=>⟨AK v 1,AK v 2,AK v 3,AK v 4,AF Ad b 0 0,AF .str b 0 1,AF Ah b 0 2,AF Ae b 0 3,AF Ai b 0 4,Aj b 1 0,Aj b 1 1,Aj b 1 2,Kn b 2 0,Aj b 3 0,AF (.pair A7 Am) b 4 0,AF Ad b 5 0,AF .str b 5 1,AF Ah b 5 2,AF Ae b 5 3,AF Ai b 5 4,.ready⟩,fo,λs r=> {r with c:=s.c,t7:=s.t7,t8:=s.t8,Be:=s.Be,GI:=s.GI,GG:=s.GG,GK:=s.GK,GN:=s.GN,b4:=s.b4,NB:=s.NB,ND:=s.ND,NA:=s.NA,NC:=s.NC,NL:=s.NL},λs=> {s with st:=.ready},λx s=> {s with st:=(match x with| .ret=>(.done<|.ret) | .exit 2=> .ready|_=> .ready)},[.ret,.exit 2],jj,jP,dh⟩
abbrev MQ:=Rb.run
abbrev dd:=Rb.Aq
def X1:List Bd:=[aTy,qo]
def uW:Ax:=kI X1<|l0 X1
def axF:Rq jP fo:=by
 intro s hI;refine ⟨λc1=>⟨?_,λc2=>⟨?_,λ_=>trivial,λ_=>trivial⟩,λc2=>⟨λc4=>⟨?_,λ_=>trivial,λ_=>trivial⟩,λc4=>⟨λc6=>⟨?_,λ_=>trivial,λ_=>trivial⟩,λc6=>?_⟩⟩⟩,λ_=>trivial⟩
 iterate 4 · (obtain ⟨ht,h0,h1,h2⟩:=hI;omega)
 ·(exfalso;obtain ⟨ht,h0,h1,h2⟩:=hI;simp only [Ac,CQ,ne_eq] at*;omega)
def aQD:Rb.Ok:={}
def aPn:Rb.Pf (ac6):=⟨al2,λs h=>by
 obtain ⟨c,t7,t8,t11,Be,GI,GG,GK,GN,IV,Ik,Ih,b2,b3,b4,NB,ND,NA,NC,NL,st⟩:=s
 have e:=h.1
 subst e;rfl,ahm,axF⟩
def aps:SA 7 aFt Rb:=s2 aQD aPn X1 uW
def au6:Rs jj dd MQ (λs:Nn=>Lv (EN<|Al s.Be s.c) (gLi s.b4 s.c) s.t11) (λx s' (v:Bool)=>(x=.ret/\v=X/\s'.b2=U/\s'.b3=0)\/(x=.exit 2/\v=U)):=DJ aQD aPn (λs hI=>by
  show DK _ _ ((fo s).rd s)
  obtain ⟨ht,h0,h1,h2⟩:=hI;refine AH (λc1=>?_) λc1=>?_
  ·refine AH (λc2=>?_) (λc2=>?_)
   ·refine AH (λc3=>?_) (λc3=>?_)
    ·refine .inl ⟨rfl,?_,rfl,rfl⟩
     have c3:(gLi s.b4 s.c).1>EN (Al s.Be s.c):=DC c3
     exact xR
    ·have c1:s.t11<3:=AX
     rw [AI (x:=s.t11+1)]
     have c3:¬(gLi s.b4 s.c).1>EN (Al s.Be s.c):=JE c3
     exact xZ
   ·refine AH (λc3=>?_) (λc3=>?_)
    ·refine AH (λc4=>?_) (λc4=>?_)
     ·refine .inl ⟨rfl,?_,rfl,rfl⟩
      have c4:(gLi s.b4 s.c).2.1>EN (Al s.Be s.c):=DC c4
      exact xR
     ·have c1:s.t11<3:=AX
      rw [AI (x:=s.t11+1)]
      have c4:¬(gLi s.b4 s.c).2.1>EN (Al s.Be s.c):=JE c4
      exact xZ
    ·refine AH (λc4=>?_) (λc4=>?_)
     ·refine AH (λc5=>?_) (λc5=>?_)
      ·refine .inl ⟨rfl,?_,rfl,rfl⟩
       have c5:(gLi s.b4 s.c).2.2>EN (Al s.Be s.c):=DC c5
       exact xR
      ·have c1:s.t11<3:=AX
       rw [AI (x:=s.t11+1)]
       have c5:¬(gLi s.b4 s.c).2.2>EN (Al s.Be s.c):=JE c5
       exact xZ
     ·exfalso
      simp only [Ac,CQ,ne_eq] at*;omega
  ·have c1:3<=s.t11:=AX
   refine .inr ⟨rfl,?_⟩;unfold Lv;simp only [AY,Cl,Ac];omega)
structure KG where
 (t7 t8:Int)
 Be:List Cd
 GI:List ByteArray
 GG:List Ko
 GK:List Ch
 GN:List Ba
 (IV Ik Ih:Int)
 b2:Bool
 b3:Int
 b4:List (Int×Ra)
 NB:List Cd
 ND:List ByteArray
 NA:List Ko
 NC:List Ch
 NL:List Ba
 st:LS
def aFu:=bN f126 0
def IX (s:KG):Nn:=(⟨s.t8,s.t7,s.t8,0,s.Be,s.GI,s.GG,s.GK,s.GN,s.IV,s.Ik,s.Ih,s.b2,s.b3,s.b4,s.NB,s.ND,s.NA,s.NC,s.NL,.ready⟩:Nn)
def zF (s:KG):T (Rd KG):=
 .br (an<|s.t8<s.t7) (.req (Rb.q<|IX s)<|.br (Bj (dd<|IX s)<|.ret) (.so (.ret) {s with IV:=(MQ<|IX s).IV,Ik:=(MQ<|IX s).Ik,Ih:=(MQ<|IX s).Ih,b2:=(MQ<|IX s).b2,b3:=(MQ<|IX s).b3,st:=.done<|.ret})<|.nx {s with t8:=AA<|s.t8+1,IV:=(MQ<|IX s).IV,Ik:=(MQ<|IX s).Ik,Ih:=(MQ<|IX s).Ih,b2:=(MQ<|IX s).b2,b3:=(MQ<|IX s).b3}) (.so (.exit 0) s)
def jk (s:KG):Prop:=s.st=.ready/\s.t8=0/\s.t7=(M s.Be:Int)/\s.t7<=1000/\M s.b4=M s.Be
def YD (s:KG):Prop:=s.st=.ready/\(0<=s.t8/\s.t8<=s.t7)/\s.t7=(M s.Be:Int)/\s.t7<=1000/\M s.b4=M s.Be
def tD (s:KG):Nat:=(s.t7-s.t8).toNat
def ac7 (x:Ex) (s s':KG):Prop:=True
def al3:∀s,jk s->YD s:=by
 rintro s ⟨h,h0,h1⟩
 exact ⟨h,A0,h1⟩
def aRf (s:KG) (hI:YD s) (c1:s.t8<s.t7):jj (IX s):=by
 obtain ⟨ht,⟨h0,h1⟩,h2,h3,h4⟩:=hI;exact ⟨rfl,rfl,⟨h0,by show s.t8<(M s.b4:Int);omega⟩,by show s.t8<(M s.Be:Int);omega⟩
theorem ahn:Da YD tD ac7 zF:=by
 intro s hI;obtain ⟨ht,⟨h0,h1⟩,h2,h3,h4⟩:=hI;refine AH (λc1=>AH (λc2=>trivial) λc2=>?_) λc1=>trivial
 have c1:s.t8<s.t7:=A8
 rw [AI (x:=s.t8+1)];exact ⟨⟨ht,⟨A8,A8⟩,h2,h3,h4⟩,by simp only [tD];omega⟩
def UG:AR KG:=⟨7,22,[0,7,8],[],λs=>[.CO 6,s.t7,s.t8],λs=>[⟨[s.Be,s.GI,s.GG,s.GK,s.GN],28,.cl,X⟩,⟨[s.IV,s.Ik,s.Ih],143,.cl,X⟩,⟨[s.b2],4,.cl,X⟩,⟨[s.b3],52,.cl,X⟩,⟨[.xl (.pair A7 Am) s.b4],183,.cl,X⟩,⟨[s.NB,s.ND,s.NA,s.NC,s.NL],28,.cl,X⟩,⟨[.junk,.junk,.own 0 0,.junk,.own 1 0,.own 2 0,.own 3 0,.own 4 0,.junk,.v<|.tuple #[],.v<|.tuple #[],.junk,.junk,.junk,.junk,.junk,.junk,.junk,.junk,.junk,.junk,.junk,.v<|.tuple #[],.v<|.tuple #[],.v<|.tuple #[],.v<|.tuple #[],.v<|.tuple #[],.v<|.tuple #[],.v<|.tuple #[],.v<|.tuple #[],.v<|.tuple #[],.v<|.tuple #[],.v<|.tuple #[],.v<|.tuple #[],.v<|.tuple #[],.v<|.tuple #[],.v<|.tuple #[],.v<|.tuple #[],.v<|.tuple #[],.v<|.tuple #[],.v<|.tuple #[],.v<|.tuple #[],.v<|.tuple #[],.v<|.tuple #[],.v<|.tuple #[],.v<|.tuple #[],.junk],0,.Cg aas aax aav s.st,X⟩],λv b=>⟨AK v 1,AK v 2,AF Ad b 0 0,AF .str b 0 1,AF Ah b 0 2,AF Ae b 0 3,AF Ai b 0 4,Aj b 1 0,Aj b 1 1,Aj b 1 2,Kn b 2 0,Aj b 3 0,AF (.pair A7 Am) b 4 0,AF Ad b 5 0,AF .str b 5 1,AF Ah b 5 2,AF Ae b 5 3,AF Ai b 5 4,.ready⟩,zF,λs r=> {r with t7:=s.t7,Be:=s.Be,GI:=s.GI,GG:=s.GG,GK:=s.GK,GN:=s.GN,b4:=s.b4,NB:=s.NB,ND:=s.ND,NA:=s.NA,NC:=s.NC,NL:=s.NL},λs=> {s with st:=.ready},λx s=> {s with st:=(match x with| .ret=>(.done<|.ret) | .exit 0=> .ready|_=> .ready)},[.ret,.exit 0],jk,YD,tD⟩
abbrev bc:=UG.run
abbrev cg:=UG.Aq
theorem axG:Rq YD zF:=by
 intro s hI;refine ⟨λc1=>⟨?_,λ_=>trivial,λ_=>trivial⟩,λ_=>trivial⟩
 ·exact ⟨aRf s hI A8,rfl,rfl⟩
def aQE:UG.Ok:={}
def aPo:UG.Pf (ac7):=⟨al3,λs h=>by
 obtain ⟨t7,t8,Be,GI,GG,GK,GN,IV,Ik,Ih,b2,b3,b4,NB,ND,NA,NC,NL,st⟩:=s
 have e:=h.1
 subst e;rfl,ahn,axG⟩
def ap7:SA 7 aFu UG:=AR.snd aQE aPo (GJ (Γ:=X1) (K:=uW) (L:=(Ll (λi=>if i=4 then Rb.lp else Ag i))) (gk X1) uW.h aFu (λb hb=>by
 rw [show BA _=[aFt] by kernel_rfl] at hb
 simp only [B8,Bu,Bt] at hb;subst hb;exact aps)) λs=>AT
theorem au7:Rs jk cg bc (λs:KG=>((au<|M s.Be).drop s.t8.toNat).all λo=>ckO (EN<|Al s.Be o)<|EF s.b4 o) (λx s' (v:Bool)=>(x=.ret/\v=X/\s'.b2=U/\s'.b3=0)\/(x=.exit 0/\v=U)):=DJ aQE aPo (λs hI=>by
  have hin:=λc1=>aRf s hI c1
  obtain ⟨ht,⟨h0,h1⟩,h2,h3,h4⟩:=hI;refine AH (λc1=>?_) λc1=>?_
  ·have c1:s.t8<s.t7:=AX
   have q:=au6 _<|hin c1
   have e:((au<|M s.Be).drop s.t8.toNat).all (λo=>ckO (EN<|Al s.Be o)<|EF s.b4 o)=(Lv (EN<|Al s.Be s.t8) (gLi s.b4 s.t8) 0&&((au<|M s.Be).drop (s.t8+1).toNat).all (λo=>ckO (EN<|Al s.Be o)<|EF s.b4 o)):=by
    rw [SU D2,IN,kB,show (s.t8+1).toNat=s.t8.toNat+1 by omega,CR h0,al1]
    rfl
   refine AH (λc2=>?_) λc2=>?_
   ·rcases q with ⟨q1,q2,q3,q4⟩ |⟨q1,q2⟩
    ·refine .inl ⟨rfl,?_,q3,q4⟩
     rw [e]
     have q2:Lv (EN<|Al s.Be s.t8) (gLi s.b4 s.t8) 0=false:=q2
     grind
    ·rw [show dd (IX s)=_ from q1] at c2
     cases c2
   ·rcases q with ⟨q1,q2,q3,q4⟩ |⟨q1,q2⟩
    ·rw [show dd (IX s)=_ from q1] at c2
     cases c2
    ·show List.all _ _=List.all _ _
     rw [e]
     have q2:Lv (EN<|Al s.Be s.t8) (gLi s.b4 s.t8) 0=true:=q2
     rw [q2,E9,AI (x:=s.t8+1)]
  ·have c1:s.t7<=s.t8:=AX
   refine .inr ⟨rfl,?_⟩;rw [Ef D2];rfl)
def vk1 (cs:List Cd) (os:List ByteArray) (ks:List Ko) (gs:List Ch) (bs:List Ba) (am:List Int):Int:=if (an (M am=M gs)&&Bj (cg ⟨(M cs:Int),0,cs,os,ks,gs,bs,0,0,0,X,0,J2 cs gs am,cs,os,ks,gs,bs,.ready⟩) (.ret))=U then (bc ⟨(M cs:Int),0,cs,os,ks,gs,bs,0,0,0,X,0,J2 cs gs am,cs,os,ks,gs,bs,.ready⟩).IV else 0
def vk2 (cs:List Cd) (os:List ByteArray) (ks:List Ko) (gs:List Ch) (bs:List Ba) (am:List Int):Int:=if (an (M am=M gs)&&Bj (cg ⟨(M cs:Int),0,cs,os,ks,gs,bs,0,0,0,X,0,J2 cs gs am,cs,os,ks,gs,bs,.ready⟩) (.ret))=U then (bc ⟨(M cs:Int),0,cs,os,ks,gs,bs,0,0,0,X,0,J2 cs gs am,cs,os,ks,gs,bs,.ready⟩).Ik else 0
def vk3 (cs:List Cd) (os:List ByteArray) (ks:List Ko) (gs:List Ch) (bs:List Ba) (am:List Int):Int:=if (an (M am=M gs)&&Bj (cg ⟨(M cs:Int),0,cs,os,ks,gs,bs,0,0,0,X,0,J2 cs gs am,cs,os,ks,gs,bs,.ready⟩) (.ret))=U then (bc ⟨(M cs:Int),0,cs,os,ks,gs,bs,0,0,0,X,0,J2 cs gs am,cs,os,ks,gs,bs,.ready⟩).Ih else 0
def aIh:List LV->T LV
 | [.agg [.xl (.pair .str (.pair (.int J) (.pair (.int J) (.pair (.int J) (.pair (.pair (.int J) (.int J)) (.pair (.int J) (.pair (.int J) (.pair (.int J) (.pair (.int J) (.int J)))))))))) cs,.xl (.str) os,.xl (.pair .str (.pair (.int J) (.pair (.int J) (.int J)))) ks,.xl (.pair .str (.pair (.int J) (.pair (.int J) (.pair (.int J) (.pair (.int J) (.pair (.int J) (.pair (.int J) (.int J)))))))) gs,.xl (.pair .str (.int J)) bs],.xl (.int J) am]=> .req (BI cs os ks gs bs=U/\(M am=M gs->∀k:Nat,k<M am->0<=gi am k/\gi am k<=80)) (.tu #[.agg #[vk1 cs os ks gs bs am,vk2 cs os ks gs bs am,vk3 cs os ks gs bs am],.bool<|an (M am=M gs)&&!II cs gs am,J8 gs am])
 |_=> .no
def uD:List Bd:=[aTy,qo]
def azP:Ax:=kI uD<|la 1 func126 ap7<|l0 uD
def WQ:=vo (S:=aIh) func63 uD azP (λargs lv h=>by
 unfold aIh at h;split at h
 ·rename_i cs os ks gs bs am
  refine Ap (letI b:=(M cs:Int);letI d:=J2 cs gs am;letI a:=(bc (⟨b,0,cs,os,ks,gs,bs,0,0,0,X,0,d,cs,os,ks,gs,bs,.ready⟩:KG));.req (BI cs os ks gs bs=U/\(M am=M gs->∀k:Nat,k<M am->0<=gi am k/\gi am k<=80))<|.br ((J8 gs am) !=0) (.tu #[.agg #[(0:Int),(0:Int),(0:Int)],X,(1:Int)])<|.req (UG.q (⟨b,0,cs,os,ks,gs,bs,0,0,0,X,0,d,cs,os,ks,gs,bs,.ready⟩:KG))<|.br (Bj (cg (⟨b,0,cs,os,ks,gs,bs,0,0,0,X,0,d,cs,os,ks,gs,bs,.ready⟩:KG))<|.ret) (.tu #[.agg #[a.IV,a.Ik,a.Ih],a.b2,a.b3])<|.tu #[.agg #[(0:Int),(0:Int),(0:Int)],X,(0:Int)]) ?_;obtain ⟨hq,rfl⟩:=h
  have hv:=hq.1
  have hb:=(DD.1 hv).1
  refine ⟨hq,λc=>?_,λc=>?_⟩
  ·have hl:¬(M am)=M gs:=λh=>by unfold J8 at c;rw [AD h] at c;cases c
   unfold vk1 vk2 vk3 J8;simp only [AE hl,I1 hl,Pt,Hz,FM];rfl
  have hl:M am=M gs:=by
   unfold J8 at c;split at c
   ·assumption
   ·cases c
  have hX:J2 cs gs am=ldS cs gs am (M gs):=AD hl
  have hY:J8 gs am=0:=AD hl
  rw [hY,DB hl,E9]
  have hE:jk ⟨(M cs:Int),0,cs,os,ks,gs,bs,0,0,0,X,0,(J2 cs gs am),cs,os,ks,gs,bs,.ready⟩:=⟨rfl,rfl,rfl,aNf,by show M (J2 cs gs am)=M cs;rw [hX];exact qG (oz hv) (p7 hv) _<|Av _⟩
  refine ⟨⟨hE,rfl,rfl⟩,?_⟩
  have e:II cs gs am=((au<|M cs).drop (0:Int).toNat).all (λo=>ckO (EN<|Al cs o)<|EF (J2 cs gs am) o):=by rw [hX];rfl
  rcases au7 _ hE with ⟨q1,q2,q3,q4⟩ |⟨q1,q2⟩
  ·have q2:II cs gs am=false:=e.trans q2
   unfold vk1 vk2 vk3;simp only [DB hl,E9];rw [q1,q3,q4,q2];exact ⟨λ_=>rfl,λh=>An⟩
  ·have q2:II cs gs am=true:=e.trans q2
   unfold vk1 vk2 vk3;simp only [DB hl,E9];rw [q1,q2];exact ⟨λh=>An,λ_=>rfl⟩
 ·cases h)
def ate {cs:List Cd}{os:List ByteArray}{ks:List Ko}{gs:List Ch}{bs:List Ba}(hs:BI cs os ks gs bs=U) {k:Nat}(hk:k<M (BP gs)):0<=gi (BP gs) k/\gi (BP gs) k<=80:=by
 have hl:M (BP gs)=M gs:=I2
 rw [show gi (BP gs) (k:Int)=CW (AG gs k) from Q5 A0 A0]
 have:=Og hs (c:=(k:Int)) A0 A0
 unfold G3 at this;simp only [AY] at this
 have:=di this.2.2
 omega
structure P6 where
 m:List Ch
 (k i:Int)
 out:List Int
def aFA:=bN f64 0
def w4 (s:P6):T (Rd P6):=letI a:=s.out.set s.i.toNat (AG s.m s.i).2.2.2.2.2.2.1;.br (an<|s.i<s.k) (.ix s.i (M s.m)<|.ik s.i (M s.out)<|.re (M s.out) a<|.nx {s with i:=AA<|s.i+1,out:=a})<|.rl s.out<|.so (.exit 0) s
def iZ (s:P6):Prop:=s.i=0/\s.k=(M s.m:Int)/\s.k<=1000/\M s.out=M s.m/\(∀j,0<=j->j<s.k->gi s.out j=0)/\True
def YX (s:P6):Prop:=(0<=s.i/\s.i<=s.k)/\s.k=(M s.m:Int)/\s.k<=1000/\M s.out=M s.m/\(∀j,0<=j->j<s.k->gi s.out j=if j<s.i then CW (AG s.m j) else 0)/\True
def tP (s:P6):Nat:=(s.k-s.i).toNat
def aAe (x:Ex) (s s':P6):Prop:=x=.exit 0/\s'.out=FC (M s'.m) (λj=>CW<|AG s'.m j)
theorem ajc:∀s,iZ s->YX s:=by
 exact Sd
theorem ax7:Da YX tP aAe w4:=by
 intro s hI;obtain ⟨⟨h0,h1⟩,h2,h3,h4,h5,h6⟩:=hI;refine AH (λc1=>?_) λc1=>?_
 ·have c1:s.i<s.k:=AX
  rw [AI (x:=s.i+1)];refine ⟨⟨⟨A8,A8⟩,h2,h3,A8,λj j0 j1=>?_,h6⟩,by simp only [tP];omega⟩
  simp only;rw [KB h0 aH j0];exact kR
 ·exact Zf
def Rt:AR P6:=⟨0,25,[3,11,12,13],[],λs=>[.os 0 1 0<|M s.out,s.m,s.k,s.i],λs=>[bV 3 A7 s.out],λv b=>⟨B4 Ae v 1,AK v 2,AK v 3,Ab A7 b 0⟩,w4,λs r=> {r with m:=s.m,k:=s.k},λs=>s,λ_ s=>s,[.exit 0],iZ,YX,tP⟩
abbrev aC3:=Rt.run
abbrev asu:=Rt.Aq
def awU:Rq YX w4:=by
 exact xC
def aR7:List Bd:=[]
def aQM:Rt.Ok:={}
def aOf:Rt.Pf (aAe):=⟨ajc,λs h=>rfl,ax7,awU⟩
def aq4:SA 0 aFA Rt:=s1 aQM aOf aR7 kN
def aqy:Fi iZ YX aAe asu aC3:=AR.fin aQM aOf
def aJK:List LV->T LV
 | .agg a::r=>s5 a λcs os ks gs bs=>(match r with
  | []=> .req ((M gs:Int)<=1000) (.ok<|.xl A7<|BP gs)
  |_=> .no)
 |_=> .no
def du:=vm (S:=aJK) func64 aR7 kN (L:=(λi=>if i=3 then Rt.lp else Ag i)) (λb hb=>by
 rw [show BA _=[aFA] by kernel_rfl] at hb
 simp only [B8,Bu,Bt] at hb;subst hb;exact aq4) (λargs lv h=>by
 unfold aJK at h;split at h
 case h_2=>cases h
 replace h:=HX h
 obtain ⟨cs,os,ks,gs,bs,rfl,h⟩:=h;split at h
 ·refine Ap (letI c:=(M gs:Int);letI a:=(aq c.toNat (0:Int));letI b:=(aC3 (⟨gs,c,0,a⟩:P6));.rm 8 c<|.re c.toNat a<|.req (Rt.q (⟨gs,c,0,a⟩:P6))<|.rz b.out<|.ok<|.xl A7<|(b.out.drop 0).take<|M b.out) ?_
  obtain ⟨hn,rfl⟩:=h
  have hE:iZ ⟨gs,(M gs:Int),0,aq (M gs:Int).toNat 0⟩:=⟨rfl,rfl,hn,AJ,λj _ _=>NV,ak⟩
  obtain ⟨_,_,q1,q2⟩:=aqy _ hE
  have q2:(aC3 ⟨gs,(M gs:Int),0,aq (M gs:Int).toNat 0⟩).out=BP gs:=q2
  refine ⟨A0,⟨rfl,AJ⟩,⟨hE,rfl,rfl⟩,A0,?_⟩
  show LV.xl _ _=_
  rw [CP,E6,q2]
 ·cases h)
def aJI:List LV->T LV
 | .agg a::r=>s5 a λcs os ks gs bs=>(match r with
  | []=> .req (BI cs os ks gs bs=U) (.ok<|.v<|.bool<|!II cs gs (BP gs))
  |_=> .no)
 |_=> .no
def agi:List Bd:=[WQ,du]
def dt:=vo (S:=aJI) func28 agi kN (λargs lv h=>by
 unfold aJI at h;split at h
 case h_2=>cases h
 replace h:=HX h
 obtain ⟨cs,os,ks,gs,bs,rfl,h⟩:=h;split at h
 ·refine Ap (.req ((M gs:Int)<=1000)<|.req (BI cs os ks gs bs=U/\(M (BP gs)=M gs->∀k:Nat,k<M (BP gs)->0<=gi (BP gs) k/\gi (BP gs) k<=80))<|.ok<|.v<|.bool<|((J8 gs<|BP gs)==0)&&(an (M (BP gs)=M gs)&&!II cs gs (BP gs))) ?_
  obtain ⟨hs,rfl⟩:=h
  have hg:=(DD.1 hs).1
  have hl:M (BP gs)=M gs:=I2
  have hY:J8 gs (BP gs)=0:=AD hl
  refine ⟨A0,⟨hs,λ_ k hk=>ate hs hk⟩,?_⟩
  rw [hY,DB hl];rfl
 ·cases h)
def aJA:List LV->T LV
 | [.v (.agg ⟨[.string nm,Y J at_,Y J ph,Y J mn,Y J mx,Y J st,Y J fb,Y J ow]⟩),.v (.agg ⟨[Y J sp,Y J sa,Y J sl,.bool sw]⟩)]=> .ok (sV (nm,at_,ph,mn,mx,st,fb,ow) (sp,sa,sl,sw))
 |_=> .no
def alb:List Bd:=[WD,cJ,aTr]
def aJk:=vo (S:=aJA) func100 alb kN (λargs lv h=>by
 unfold aJA at h;split at h
 ·rename_i nm at_ ph mn mx st fb ow sp sa sl sw
  refine Ap (.br (!(IK ph mn mx st fb)) (.ok X)<|.br ((sp==0)&&((sa==0)&&((sl==0)&&(sw==X)))) (.ok U)<|.ok<|.v<|.bool<|(inB sp (0:Int) (5:Int))&&((inB sl (0:Int) (1000000:Int))&&((inB sa (0:Int) mx)&&(if sl !=0 then (!sw) ||(sp==5) else (sa==0)&&((!sw) ||(sp==5)))))) ?_
  obtain rfl:=h;refine ⟨λh1=>?_,λh1=>⟨λh2=>?_,λh2=>?_⟩⟩
  all_goals refine B1 (λz=>LV.v<|.bool z) ?_
  ·simp at h1;simp [sV,h1]
  ·simp at h1 h2
   obtain ⟨rfl,rfl,rfl,rfl⟩:=h2
   have:=cb.1 h1
   rw [Sf,NT]
   simp [h1];omega
  ·simp at h1
   unfold sV;simp only;rw [h1]
   by_cases hl:sl=0
   ·simp [hl]
   ·have:(sl !=0)=true:=lR
    simp [this]
 ·cases h)
def aSm:List LV->T LV
 | [.v (.agg ⟨[.string nm,Y J at_,Y J ph,Y J mn,Y J mx,Y J st,Y J fb,Y J ow]⟩),.v (.agg ⟨[Y J ek,Y J en,Y J em]⟩)]=> .req (ek≠0) (.ok<|evV mx ek en em)
 |_=> .no
def ala:List Bd:=[cJ]
def ahx:=vo (S:=aSm) func114 ala kN (λargs lv h=>by
 unfold aSm at h;split at h
 ·rename_i nm at_ ph mn mx st fb ow ek en em
  refine Ap (.br (ek==4) (.ok<|inB en (0:Int) (1:Int))<|.br (ek==6) (.ok<|inB en (0:Int) (2:Int))<|.br (ek==7) (.br (!(inB em (1:Int) (1000000:Int))) (.ok X)<|.ok<|inB en (0:Int) mx)<|.br (ek==0) (.ok<|inB en (0:Int) mx)<|.ok U) ?_;obtain ⟨h0,rfl⟩:=h;refine ⟨λh1=>?_,λh1=>⟨λh2=>?_,λh2=>⟨λh3=>⟨λh4=>?_,λh4=>?_⟩,λh3=>⟨λh4=>?_,λh4=>?_⟩⟩⟩⟩
  all_goals refine B1 (λz=>LV.v<|.bool z) ?_
  all_goals simp_all [evV]
 ·cases h)
def aJ3:List LV->T LV
 | [.v (.agg ⟨[Y J sp,Y J sa,Y J sl,.bool sw]⟩),.v (.agg ⟨[Y J ek,Y J en,Y J em]⟩)]=> .ok (.v<|.agg #[dcP sp sw ek en,sa,sl,dcW sw ek en])
 |_=> .no
def alZ:List Bd:=[]
def auY:=vo (S:=aJ3) func115 alZ kN (λargs lv h=>by
 unfold aJ3 at h;split at h
 ·rename_i sp sa sl sw ek en em
  refine Ap (.br (ek==4) (.br (en==1) (.ok<|.v<|.agg #[(3:Int),sa,sl,sw])<|.ok<|.v<|.agg #[(5:Int),sa,sl,sw])<|.br (ek==6) (.br (en==0) (.ok<|.v<|.agg #[(1:Int),sa,sl,.bool<|en==1])<|.ok<|.v<|.agg #[(5:Int),sa,sl,.bool<|en==1])<|.br (ek==2) (.br (!sw) (.ok<|.v<|.agg #[(0:Int),sa,sl,sw])<|.ok<|.v<|.agg #[sp,sa,sl,sw])<|.br (ek==9) (.br (!sw) (.ok<|.v<|.agg #[(1:Int),sa,sl,sw])<|.ok<|.v<|.agg #[sp,sa,sl,sw])<|.ok<|.v<|.agg #[sp,sa,sl,sw]) ?_;obtain rfl:=h
  have fin:∀(p:Int) (q:Bool),p=dcP sp sw ek en->q=dcW sw ek en->LV.v (.agg #[Y J p,Y J sa,Y J sl,.bool q])=LV.v (.agg #[Y J<|dcP sp sw ek en,Y J sa,Y J sl,.bool<|dcW sw ek en]):=λp q h1 h2=>A8
  refine ⟨λh1=>⟨λh2=>?_,λh2=>?_⟩,λh1=>⟨λh2=>⟨λh3=>?_,λh3=>?_⟩,λh2=>⟨λh3=>⟨λh4=>?_,λh4=>?_⟩,λh3=>⟨λh4=>⟨λh5=>?_,λh5=>?_⟩,λh4=>?_⟩⟩⟩⟩
  all_goals refine fin _ _ ?_ ?_
  all_goals simp_all [dcP,dcW]
 ·cases h)
def aS8:List LV->T LV
 | [.v (.agg ⟨[.string nm,Y J at_,Y J ph,Y J mn,Y J mx,Y J st,Y J fb,Y J ow]⟩),.v (.agg ⟨[Y J sp,Y J sa,Y J sl,.bool sw]⟩),.v (.agg ⟨[Y J ek,Y J en,Y J em]⟩)]=> .tu #[.agg #[(sN (nm,at_,ph,mn,mx,st,fb,ow) (sp,sa,sl,sw) ek en em).1,(sN (nm,at_,ph,mn,mx,st,fb,ow) (sp,sa,sl,sw) ek en em).2.1,(sN (nm,at_,ph,mn,mx,st,fb,ow) (sp,sa,sl,sw) ek en em).2.2.1,(sN (nm,at_,ph,mn,mx,st,fb,ow) (sp,sa,sl,sw) ek en em).2.2.2],sE (nm,at_,ph,mn,mx,st,fb,ow) (sp,sa,sl,sw) ek en em]
 |_=> .no
def zj:List Bd:=[aJk,cJ,ahx,auY]
def akG:Ax:=kI zj<|l0 zj
def Qw:=vo (S:=aS8) func76 zj akG (λargs lv h=>by
 unfold aS8 at h;split at h
 ·rename_i nm at_ ph mn mx st fb ow sp sa sl sw ek en em
  refine Ap (letI a:=Wa<|ek.toNat*6+(sp.toNat*1+0);letI c:=AA<|sl-1;letI d:=dcP sp sw ek en;letI f:=dcW sw ek en;.br (!(sV (nm,at_,ph,mn,mx,st,fb,ow) (sp,sa,sl,sw))) (.tu #[.agg #[(0:Int),(0:Int),(0:Int),X],(1:Int)])<|.br (!(inB ek (1:Int) (9:Int))) (.tu #[.agg #[(0:Int),(0:Int),(0:Int),X],(9:Int)])<|.req (ek≠0)<|.br (!(evV mx ek en em)) (.tu #[.agg #[(0:Int),(0:Int),(0:Int),X],(1:Int)])<|.req (0<=ek/\ek<(10:Int))<|.req (0<=sp/\sp<(6:Int))<|.br (a==(-1)) (.tu #[.agg #[(0:Int),(0:Int),(0:Int),X],(6:Int)])<|.br (a==(-2)) (.br (ek==7) (.tu #[.agg #[sp,en,em,sw],(0:Int)])<|.br (ek==8) (.br ((if (0:Int)<c then AA (sl-1) else 0)==0) (.tu #[.agg #[sp,(0:Int),Y J (if (0:Int)<c then AA (sl-1) else 0),sw],(0:Int)])<|.tu #[.agg #[sp,sa,Y J (if (0:Int)<c then AA (sl-1) else 0),sw],(0:Int)])<|.br (ek==9) (.tu #[.agg #[sp,(0:Int),(0:Int),sw],(0:Int)])<|.tu #[.agg #[sp,sa,sl,sw],(0:Int)])<|.br (a==(-3)) (.br (ek==7) (.tu #[.agg #[d,en,em,f],(0:Int)])<|.br (ek==8) (.br ((if (0:Int)<c then AA (sl-1) else 0)==0) (.tu #[.agg #[d,(0:Int),Y J (if (0:Int)<c then AA (sl-1) else 0),f],(0:Int)])<|.tu #[.agg #[d,sa,Y J (if (0:Int)<c then AA (sl-1) else 0),f],(0:Int)])<|.br (ek==9) (.tu #[.agg #[d,(0:Int),(0:Int),f],(0:Int)])<|.tu #[.agg #[d,sa,sl,f],(0:Int)])<|.br (ek==7) (.tu #[.agg #[a,en,em,sw],(0:Int)])<|.br (ek==8) (.br ((if (0:Int)<c then AA (sl-1) else 0)==0) (.tu #[.agg #[a,(0:Int),Y J (if (0:Int)<c then AA (sl-1) else 0),sw],(0:Int)])<|.tu #[.agg #[a,sa,Y J (if (0:Int)<c then AA (sl-1) else 0),sw],(0:Int)])<|.br (ek==9) (.tu #[.agg #[a,(0:Int),(0:Int),sw],(0:Int)])<|.tu #[.agg #[a,sa,sl,sw],(0:Int)]) ?_
  obtain rfl:=h
  have bad:∀e,e≠0->(sE (nm,at_,ph,mn,mx,st,fb,ow) (sp,sa,sl,sw) ek en em)=e->LV.v (.tuple #[.agg #[Y J 0,Y J 0,Y J 0,.bool X],Y J e])=LV.v (.tuple #[.agg #[Y J (sN (nm,at_,ph,mn,mx,st,fb,ow) (sp,sa,sl,sw) ek en em).1,Y J (sN (nm,at_,ph,mn,mx,st,fb,ow) (sp,sa,sl,sw) ek en em).2.1,Y J (sN (nm,at_,ph,mn,mx,st,fb,ow) (sp,sa,sl,sw) ek en em).2.2.1,.bool (sN (nm,at_,ph,mn,mx,st,fb,ow) (sp,sa,sl,sw) ek en em).2.2.2],Y J<|sE (nm,at_,ph,mn,mx,st,fb,ow) (sp,sa,sl,sw) ek en em]):=λe h0 h1=>by
   unfold sN;rw [h1];simp only [AE h0]
  have good:∀(p q r:Int) (b:Bool),(sE (nm,at_,ph,mn,mx,st,fb,ow) (sp,sa,sl,sw) ek en em)=0->p=Jp sp sw ek en->q=sA sa sl ek en->r=sL sl ek em->b=sW sw ek en->LV.v (.tuple #[.agg #[Y J p,Y J q,Y J r,.bool b],Y J 0])=LV.v (.tuple #[.agg #[Y J (sN (nm,at_,ph,mn,mx,st,fb,ow) (sp,sa,sl,sw) ek en em).1,Y J (sN (nm,at_,ph,mn,mx,st,fb,ow) (sp,sa,sl,sw) ek en em).2.1,Y J (sN (nm,at_,ph,mn,mx,st,fb,ow) (sp,sa,sl,sw) ek en em).2.2.1,.bool (sN (nm,at_,ph,mn,mx,st,fb,ow) (sp,sa,sl,sw) ek en em).2.2.2],Y J<|sE (nm,at_,ph,mn,mx,st,fb,ow) (sp,sa,sl,sw) ek en em]):=λp q r b h0 h1 h2 h3 h4=>by
   unfold sN;rw [h0,h1,h2,h3,h4];simp only [Bm]
  refine ⟨λh1=>bad 1 Aa (by simp at h1;simp [sE,h1]),λh1=>⟨λh2=>bad 9 Aa (by simp at h1 h2;simp [sE,h1,h2]),λh2=>?_⟩⟩
  simp only [Hv] at h1 h2
  have h2':=Bf.1 h2
  refine ⟨A0,λh3=>bad 1 Aa (by simp at h3;simp [sE,h1,h2,h3]),λh3=>?_⟩
  simp only [Hv] at h3;obtain ⟨g1,g2,g3,g4,g5,g6,g7,g8,g9⟩:=NT.1 h1;simp only at g2 g3 g4 g5 g6 g7 g8 g9
  have hw:AA (sl-1)=sl-1:=AI
  have hn:(sE (nm,at_,ph,mn,mx,st,fb,ow) (sp,sa,sl,sw) ek en em)=if Jp sp sw ek en<0 then 6 else 0:=by simp [sE,h1,h2,h3]
  have htk:(if (0:Int)<sl-1 then sl-1 else 0)=tkF sl:=rfl
  rw [hw,htk];refine ⟨A0,A0,?_⟩
  have hz:sw=X\/(sw=U/\sp=5):=by cases sw<;>simp_all
  rw [ahR A0 A0 A0 A0]
  clear h1 h2 h3 bad good g1 g4 g5 g6 g7 g9 hw htk
  rcases hz with rfl|⟨rfl,rfl⟩
  ·rcases nine h2'.1 h2'.2 with rfl|rfl|rfl|rfl|rfl|rfl|rfl|rfl|rfl<;>rcases amI g2 g3 with rfl|rfl|rfl|rfl|rfl|rfl
   all_goals simp [T.all,mF,sN,hn,Jp,sA,sL,sW,dcP,dcW]
   all_goals (try omega)
   all_goals (by_cases h4:en=1<;>by_cases h5:en=0<;>simp_all)
  ·rcases nine h2'.1 h2'.2 with rfl|rfl|rfl|rfl|rfl|rfl|rfl|rfl|rfl
   all_goals simp [T.all,mF,sN,hn,Jp,sA,sL,sW,dcP,dcW]
   all_goals (try omega)
 ·cases h)
def aTB:List LV->T LV
 | [.v (.agg ⟨[.string nm,Y J at_,Y J ph,Y J mn,Y J mx,Y J st,Y J fb,Y J ow]⟩),.v (.agg ⟨[Y J sp,Y J sa,Y J sl,.bool sw]⟩)]=> .ok (Bg (nm,at_,ph,mn,mx,st,fb,ow) (sp,sa,sl,sw))
 |_=> .no
def alY:List Bd:=[aJk]
def X9:=vo (S:=aTB) func70 alY kN (λargs lv h=>by
 unfold aTB at h;split at h
 ·rename_i nm at_ ph mn mx st fb ow sp sa sl sw
  refine Ap (.br (!(sV (nm,at_,ph,mn,mx,st,fb,ow) (sp,sa,sl,sw))) (.ok (0:Int))<|.br sw (.ok mx)<|.br (sp !=4) (.ok (0:Int))<|.br (sl !=0) (.ok sa)<|.ok fb) ?_;obtain rfl:=h;refine ⟨λh1=>?_,λh1=>⟨λh2=>?_,λh2=>⟨λh3=>?_,λh3=>⟨λh4=>?_,λh4=>?_⟩⟩⟩⟩
  all_goals refine B1 (λz=>LV.v<|Y J z) ?_
  all_goals simp_all [Bg]
 ·cases h)
structure Lo where
 most:Int
 r:Bool
 l:List Int
 (n i:Int)
def aHW:=bN f106 0
def lY (s:Lo):T (Rd Lo):=
 .br (an<|s.i<s.n) (.ix s.i (M s.l)<|.br ((an<|(gi s.l s.i)<0) ||(an<|(gi s.l s.i)>s.most)) (.so (.ret) {s with r:=X})<|.nx {s with i:=AA<|s.i+1}) (.so (.exit 0) s)
def Uc (s:Lo) (j:Int):Bool:=inB (gi s.l j) 0 s.most
def mQ (s:Lo):Prop:=s.i=0/\0<=s.n/\s.n<=1000/\s.n=(M s.l:Int)
def bI (s:Lo):Prop:=0<=s.i/\s.i<=s.n/\s.n<=1000/\(s.n=(M s.l:Int))/\∀j:Nat,(j:Int)<s.i->Uc s j=U
def za (s:Lo):Nat:=(s.n-s.i).toNat
def wM (x:Ex) (s s':Lo):Prop:=(x=.exit 0/\∀j:Nat,(j:Int)<s'.n->Uc s' j=U)\/(x=.ret/\s'.r=X/\∃j:Nat,(j:Int)<s'.n/\Uc s' j=X)
def amF:∀s,mQ s->bI s:=by
 exact JH
theorem aj0:Da bI za wM lY:=by
 intro s hI;unfold lY;obtain ⟨h0,h1,h2,h3,h4⟩:=hI;refine AH (λc1=>AH (λc2=>?_) λc2=>?_) λc1=>?_
 ·have c1:s.i<s.n:=AX
  refine .inr ⟨rfl,rfl,s.i.toNat,A8,?_⟩
  have hg:Uc s s.i=false:=aNC
  exact hg
 ·have c1:s.i<s.n:=AX
  have hg:Uc s s.i=true:=aNC
  rw [AI (x:=s.i+1)];refine ⟨⟨A8,A8,h2,h3,λj hj=>?_⟩,by simp only [za];omega⟩
  exact L3
 ·exact Sg
def SF:AR Lo:=⟨0,21,[0,4,7,8,9],[],λs=>[s.most,s.r,.xl A7 s.l,s.n,s.i],λ_=>[],λv b=>⟨AK v 0,E4 v 1,B4 A7 v 2,AK v 3,AK v 4⟩,lY,λs r=> {s with r:=r.r,i:=r.i},λs=>s,λ_ s=>s,[.ret,.exit 0],mQ,bI,za⟩
abbrev aOE:=SF.run
abbrev aRk:=SF.Aq
def aiR:Rq bI lY:=by
 exact Sc
def aRA:List Bd:=[]
def aaZ:SF.Ok:={}
def ab4:SF.Pf (wM):=⟨amF,λs h=>rfl,aj0,aiR⟩
def avc:SA 0 aHW SF:=s1 aaZ ab4 aRA kN
def aul:Fi mQ bI wM aRk aOE:=AR.fin aaZ ab4
def aSp:List LV->T LV
 | [.v (Y J most),.xl (.int J) ns]=> .req (M ns<=1000) (.ok<|ns.all λp=>inB p 0 most)
 |_=> .no
def aTs:=vm (S:=aSp) func106 aRA kN (L:=(λi=>if i=2 then SF.lp else Ag i)) (λb hb=>by
 rw [show BA _=[aHW] by kernel_rfl] at hb
 simp only [B8,Bu,Bt] at hb;subst hb;exact avc) (λargs lv h=>by
 unfold aSp at h;split at h
 ·rename_i most ns
  refine Ap (letI a:=(M ns:Int);.req (SF.q (⟨most,X,ns,a,0⟩:Lo))<|.br (Bj (aRk (⟨most,X,ns,a,0⟩:Lo))<|.ret) (.ok (aOE (⟨most,X,ns,a,0⟩:Lo)).r)<|.ok U) ?_;obtain ⟨h0,rfl⟩:=h
  have hE:mQ ⟨most,X,ns,(M ns:Int),0⟩:=⟨rfl,AZ,AZ,rfl⟩
  obtain ⟨s',hI,hq⟩:=aul _ hE;rw [aSb];refine ⟨⟨hE,rfl,rfl⟩,?_⟩;rcases hq with ⟨q1,q2⟩ |⟨q1,q2,j,q3,q4⟩<;>rw [q1]
  ·rw [show D9 (M ns) (λj=>inB (gi ns j) 0 most)=U from Di.2 q2]
   exact ⟨λh=>An,λ_=>rfl⟩
  ·rw [q2,show D9 (M ns) (λj=>inB (gi ns j) 0 most)=X from Oq j q3 q4]
   exact ⟨λ_=>rfl,λh=>An⟩
 ·cases h)
def aSM:List LV->T LV
 | [.v (.agg ⟨[Y J sr,Y J rg,.bool bk]⟩)]=> .ok (meV (sr,rg,bk))
 |_=> .no
def agt:List Bd:=[aTs]
def aiq:=vo (S:=aSM) func105 agt kN (λargs lv h=>by
 unfold aSM at h;split at h
 ·rename_i sr rg bk
  refine Ap (.req (M ([sr])<=1000)<|.br (([sr]).all λp=>inB p 0 (1000000:Int)) (.br (an<|rg>=(-1000000000000000)) (.ok<|an<|rg<=1000000000000000)<|.ok X)<|.ok X) ?_
  obtain rfl:=h;refine ⟨AJ,λc1=>⟨λc2=>?_,λc2=>?_⟩,λc1=>?_⟩
  all_goals refine B1 (λz=>LV.v<|.bool z) ?_
  all_goals simp only [IN,List.all_nil,kU] at c1
  all_goals first|(simp_all [meV];done) |(simp_all [meV];omega)
 ·cases h)
def aSN:List LV->T LV
 | [.v (.agg ⟨[Y J sr,Y J rg,.bool bk]⟩),.v (Y J a),.v (Y J p)]=> .tu #[.agg #[(HB (sr,rg,bk) a p).1,(HB (sr,rg,bk) a p).2.1,(HB (sr,rg,bk) a p).2.2],Fh (sr,rg,bk) a p]
 |_=> .no
def uM:List Bd:=[aiq,aTs]
def azb:Ax:=kI uM<|l0 uM
def XC:=vo (S:=aSN) func72 uM azb (λargs lv h=>by
 unfold aSN at h;split at h
 ·rename_i sr rg bk a p
  refine Ap (letI b:=AA<|2300*a;.br (!(meV (sr,rg,bk))) (.tu #[.agg #[(0:Int),(0:Int),X],(1:Int)])<|.req (M ([a])<=1000)<|.br (!(([a]).all λp=>inB p 0 (80:Int))) (.tu #[.agg #[(0:Int),(0:Int),X],(1:Int)])<|.req (M ([p])<=1000)<|.br (!(([p]).all λp=>inB p 0 (3:Int))) (.tu #[.agg #[(0:Int),(0:Int),X],(1:Int)])<|.br bk (.br (!(meV (sr,(AA<|rg-(AA<|b*p)),bk))) (.tu #[.agg #[(0:Int),(0:Int),X],(3:Int)])<|.tu #[.agg #[sr,(AA<|rg-(AA<|b*p)),bk],(0:Int)])<|.br (!(meV (sr,(AA<|rg+(AA<|b*p)),bk))) (.tu #[.agg #[(0:Int),(0:Int),X],(3:Int)])<|.tu #[.agg #[sr,(AA<|rg+(AA<|b*p)),bk],(0:Int)]) ?_
  obtain rfl:=h
  have fin:∀(x1 x2:Int) (x3:Bool) (e:Int),(x1,x2,x3)=HB (sr,rg,bk) a p->e=Fh (sr,rg,bk) a p->LV.v (.tuple #[.agg #[Y J x1,Y J x2,.bool x3],Y J e])=LV.v (.tuple #[.agg #[Y J (HB (sr,rg,bk) a p).1,Y J (HB (sr,rg,bk) a p).2.1,.bool (HB (sr,rg,bk) a p).2.2],Y J<|Fh (sr,rg,bk) a p]):=by
   intro x1 x2 x3 e h1 h2;rw [h2,<-h1]
  have hw:meV (sr,rg,bk)=U->inB a 0 80=U->inB p 0 3=U->AA (rg-AA (AA (2300*a)*p))=rg-2300*a*p/\AA (rg+AA (AA (2300*a)*p))=rg+2300*a*p:=by
   intro h1 h2 h3
   simp [meV,inB] at h1 h2 h3
   have hm:0<=2300*a*p/\2300*a*p<=552000:=⟨IS A0 A0,L0 (Int.mul_le_mul (by omega:2300*a<=184000) (by omega:p<=3) A0 A0) A0⟩
   rw [AI (x:=2300*a),AI (x:=2300*a*p)];exact ⟨AI,AI⟩
  simp only [IN,List.all_nil,kU];refine ⟨λc1=>?_,λc1=>⟨AJ,λc2=>?_,λc2=>⟨AJ,λc3=>?_,λc3=>?_⟩⟩⟩
  ·refine fin _ _ _ _ ?_ ?_<;>simp at c1<;>simp [HB,Fh,mcB,c1]
  ·refine fin _ _ _ _ ?_ ?_<;>simp at c1 c2<;>simp [HB,Fh,mcB,c1,c2]
  ·refine fin _ _ _ _ ?_ ?_<;>simp at c1 c2 c3<;>simp [HB,Fh,mcB,c1,c2,c3]
  ·simp at c1 c2 c3
   obtain ⟨w1,w2⟩:=hw c1 c2 c3;rw [w1,w2];refine ⟨λc4=>⟨λc5=>?_,λc5=>?_⟩,λc4=>⟨λc5=>?_,λc5=>?_⟩⟩<;>subst c4<;>simp at c5<;>refine fin _ _ _ _ ?_ ?_<;>simp [HB,Fh,mcB,mcR,c1,c2,c3,c5]
 ·cases h)
def aSD:List LV->T LV
 | [.v (Y J n),.v (Y J a),.v (Y J b)]=> .ok (inB n a b)
 |_=> .no
def ags:List Bd:=[]
def Tj:=vo (S:=aSD) func31 ags kN (λargs lv h=>by
 unfold aSD at h;split at h
 ·rename_i n a b
  refine Ap (.ok<|.v<|.bool<|(an<|n>=a)&&(an<|n<=b)) ?_;exact h
 ·cases h)
def aSV:List LV->T LV
 | [.v (Y J n)]=> .ok (inB n (-200) 200)
 |_=> .no
def agr:List Bd:=[Tj]
def fZ:=vo (S:=aSV) func27 agr kN (λargs lv h=>by
 unfold aSV at h;split at h
 ·rename_i n
  refine Ap (.ok<|inB n (-200:Int) (200:Int)) ?_;exact h
 ·cases h)
def oX (e:Ty):LV->Option (List e.D)
 | .xl e' l=>match JZ e' e with
  |some ⟨h⟩=>ah (KW h l)
  |none=>aj
 |_=>aj
def I7 {e:Ty}{x:LV}{l:List e.D}(h:oX e x=ah l):x=.xl e l:=by
 unfold oX at h;split at h
 ·split at h
  ·rename_i h2 _
   subst h2;cases h;rfl
  ·cases h
 ·cases h
def oI:LV->Option Int
 | .v (Y J n)=>ah n
 |_=>aj
def zQ {x:LV}{n:Int}(h:oI x=ah n):x=.v (Y J n):=by
 unfold oI at h;exact xt
def oB:LV->Option Bool
 | .v (.bool n)=>ah n
 |_=>aj
def ajg {x:LV}{n:Bool}(h:oB x=ah n):x=.v (.bool n):=by
 unfold oB at h;exact xt
def Mr:LV->Option PK
 | .agg [a0,a1,a2,a3,a4,a5,a6,a7,a8,a9,a10,a11,a12,a13,a14,a15,a16,a17,a18,a19]=>(oX Ad a0).bind λcs=>(oX .str a1).bind λos=>(oX Ah a2).bind λks=>(oX Ae a3).bind λgs=>(oX Ai a4).bind λbs=>(oI a5).bind λtk=>(oB a6).bind λup=>(oX AP a7).bind λls=>(oI a8).bind λse=>(oX (.int aw) a9).bind λfl=>(oX Am a10).bind λra=>(oI a11).bind λnx=>(oX B3 a12).bind λst=>(oX AP a13).bind λca=>(oX B7 a14).bind λmi=>(oX BS a15).bind λme=>(oX Ak a16).bind λdm=>(oX BM a17).bind λlk=>(oX A7 a18).bind λdr=>(oX A7 a19).bind λtg=>ah ⟨cs,os,ks,gs,bs,tk,up,ls,se,fl,ra,nx,st,ca,mi,me,dm,lk,dr,tg⟩
 |_=>aj
def WI {x:LV}{p:PK}(h:Mr x=ah p):x=(p):=by
 unfold Mr at h;split at h
 ·simp only [Option.bind_eq_some_iff] at h
  obtain ⟨cs,h0,os,h1,ks,h2,gs,h3,bs,h4,tk,h5,up,h6,ls,h7,se,h8,fl,h9,ra,h10,nx,h11,st,h12,ca,h13,mi,h14,me,h15,dm,h16,lk,h17,dr,h18,tg,h19,h⟩:=h;cases h;rw [I7 h0,I7 h1,I7 h2,I7 h3,I7 h4,zQ h5,ajg h6,I7 h7,zQ h8,I7 h9,I7 h10,zQ h11,I7 h12,I7 h13,I7 h14,I7 h15,I7 h16,I7 h17,I7 h18,I7 h19]
 ·cases h
def W3:=bN f16 0
def Oz:List Bd:=[Oy,fZ,Tj]
def apw:Sound prog AV (.loop W3) (Iu prog AV Oz Ff 20 2 W3):=So (gk Oz) kN.h 20 2 W3
structure O1 where
 r:Bool
 n:Int
 l:List Int
 (m i:Int)
 p:PK
def aF7:=bN f16 1
def vz (s:O1):T (Rd O1):=
 .br (an<|s.i<s.m) (.ix s.i (M s.l)<|.ix s.i (M s.p.cs)<|.br (!(inB (gi s.l s.i) (1:Int) (Al s.p.cs s.i).2.2.1)) (.so (.ret) {s with r:=X})<|.nx {s with i:=AA<|s.i+1}) (.so (.exit 2) s)
def Rf (s:O1) (j:Int):Bool:=inB (gi s.l j) 1 (Al s.p.cs j).2.2.1
def iX (s:O1):Prop:=s.i=0/\0<=s.m/\s.m<=1000/\s.m=(M s.l:Int)/\M s.l=M s.p.cs
def YU (s:O1):Prop:=0<=s.i/\s.i<=s.m/\s.m<=1000/\(s.m=(M s.l:Int)/\M s.l=M s.p.cs)/\∀j:Nat,(j:Int)<s.i->Rf s j=U
def tL (s:O1):Nat:=(s.m-s.i).toNat
def aAb (x:Ex) (s s':O1):Prop:=(x=.exit 2/\∀j:Nat,(j:Int)<s'.m->Rf s' j=U)\/(x=.ret/\s'.r=X/\∃j:Nat,(j:Int)<s'.m/\Rf s' j=X)
def ajX:∀s,iX s->YU s:=by
 exact JH
theorem axT:Da YU tL aAb vz:=by
 intro s hI;obtain ⟨h0,h1,h2,h3,h4⟩:=hI;refine AH (λc1=>AH (λc2=>?_) λc2=>?_) λc1=>?_
 ·have c1:s.i<s.m:=AX
  refine .inr ⟨rfl,rfl,s.i.toNat,AZ,?_⟩
  have hg:Rf s s.i=false:=by unfold Rf;simp_all
  exact hg
 ·have c1:s.i<s.m:=AX
  have hg:Rf s s.i=true:=by unfold Rf;simp_all
  rw [AI (x:=s.i+1)];refine ⟨⟨A8,A8,h2,h3,λj hj=>?_⟩,by simp only [tL];omega⟩
  exact L3
 ·exact Zh
def Qo:AR O1:=⟨0,105,[1,2,3,61,62,63],[],λs=>[.own 0 0,s.r,s.n,.xl A7 s.l,s.m,s.i],λs=>[⟨[s.p.cs,s.p.os,s.p.ks,s.p.gs,s.p.bs,s.p.tk,s.p.up,s.p.ls,s.p.se,.xl (.int aw) s.p.fl,s.p.ra,s.p.nx,s.p.st,s.p.ca,s.p.mi,s.p.me,s.p.dm,s.p.lk,.xl A7 s.p.dr,.xl A7 s.p.tg],48,.cl,X⟩],λv b=>⟨E4 v 1,AK v 2,B4 A7 v 3,AK v 4,AK v 5,rQ b 0⟩,vz,λs r=> {s with r:=r.r,i:=r.i},λs=>s,λ_ s=>s,[.ret,.exit 2],iX,YU,tL⟩
abbrev oH:=Qo.run
abbrev dY:=Qo.Aq
def awP:Rq YU vz:=by
 exact kQ
def aPN:Qo.Ok:={}
def aOb:Qo.Pf (aAb):=⟨ajX,λs h=>rfl,axT,awP⟩
def apz:SA 0 aF7 Qo:=s1 aPN aOb Oz kN
def aqs:Fi iX YU aAb dY oH:=AR.fin aPN aOb
structure O0 where
 r:Bool
 n:Int
 l:List Int
 (m i:Int)
 p:PK
def aF6:=bN f16 2
def vw (s:O0):T (Rd O0):=
 .br (an<|s.i<s.m) (.ix s.i (M s.l)<|.br (!(inB (gi s.l s.i) (-200) 200)) (.so (.ret) {s with r:=X})<|.nx {s with i:=AA<|s.i+1}) (.so (.exit 4) s)
def R3 (s:O0) (j:Int):Bool:=inB (gi s.l j) (-200) 200
def iW (s:O0):Prop:=s.i=0/\0<=s.m/\s.m<=1000/\s.m=(M s.l:Int)
def YT (s:O0):Prop:=0<=s.i/\s.i<=s.m/\s.m<=1000/\(s.m=(M s.l:Int))/\∀j:Nat,(j:Int)<s.i->R3 s j=U
def tK (s:O0):Nat:=(s.m-s.i).toNat
def aAa (x:Ex) (s s':O0):Prop:=(x=.exit 4/\∀j:Nat,(j:Int)<s'.m->R3 s' j=U)\/(x=.ret/\s'.r=X/\∃j:Nat,(j:Int)<s'.m/\R3 s' j=X)
def ajW:∀s,iW s->YT s:=by
 exact JH
theorem axS:Da YT tK aAa vw:=by
 intro s hI;obtain ⟨h0,h1,h2,h3,h4⟩:=hI;refine AH (λc1=>AH (λc2=>?_) λc2=>?_) λc1=>?_
 ·have c1:s.i<s.m:=AX
  refine .inr ⟨rfl,rfl,s.i.toNat,A8,?_⟩
  have hg:R3 s s.i=false:=by unfold R3;simp_all
  exact hg
 ·have c1:s.i<s.m:=AX
  have hg:R3 s s.i=true:=by unfold R3;simp_all
  rw [AI (x:=s.i+1)];refine ⟨⟨A8,A8,h2,h3,λj hj=>?_⟩,by simp only [tK];omega⟩
  exact L3
 ·exact Zh
def Qn:AR O0:=⟨0,105,[1,2,3,80,81,82],[],λs=>[.own 0 0,s.r,s.n,.xl A7 s.l,s.m,s.i],λs=>[⟨[s.p.cs,s.p.os,s.p.ks,s.p.gs,s.p.bs,s.p.tk,s.p.up,s.p.ls,s.p.se,.xl (.int aw) s.p.fl,s.p.ra,s.p.nx,s.p.st,s.p.ca,s.p.mi,s.p.me,s.p.dm,s.p.lk,.xl A7 s.p.dr,.xl A7 s.p.tg],48,.cl,X⟩],λv b=>⟨E4 v 1,AK v 2,B4 A7 v 3,AK v 4,AK v 5,rQ b 0⟩,vw,λs r=> {s with r:=r.r,i:=r.i},λs=>s,λ_ s=>s,[.ret,.exit 4],iW,YT,tK⟩
abbrev oU:=Qn.run
abbrev dX:=Qn.Aq
def awO:Rq YT vw:=by
 exact Sc
def aPM:Qn.Ok:={}
def aOa:Qn.Pf (aAa):=⟨ajW,λs h=>rfl,axS,awO⟩
def apy:SA 0 aF6 Qn:=s1 aPM aOa Oz kN
def aqr:Fi iW YT aAa dX oU:=AR.fin aPM aOa
structure Nz where
 r:Bool
 n:Int
 l:List Lk
 (m i:Int)
def aF5:=bN f16 3
def vv (s:Nz):T (Rd Nz):=
 .br (an<|s.i<s.m) (.ix s.i (M s.l)<|.br (!(inB (FU s.l s.i).2.2.1 (0:Int)<|AA<|s.n-1)) (.so (.ret) {s with r:=X})<|.nx {s with i:=AA<|s.i+1}) (.so (.exit 6) s)
def TY (s:Nz) (j:Int):Bool:=inB (FU s.l j).2.2.1 0<|s.n-1
def iV (s:Nz):Prop:=s.i=0/\0<=s.m/\s.m<=100000000/\s.m=(M s.l:Int)/\0<=s.n/\s.n<=16
def YS (s:Nz):Prop:=0<=s.i/\s.i<=s.m/\s.m<=100000000/\(s.m=(M s.l:Int)/\0<=s.n/\s.n<=16)/\∀j:Nat,(j:Int)<s.i->TY s j=U
def tJ (s:Nz):Nat:=(s.m-s.i).toNat
def aAZ (x:Ex) (s s':Nz):Prop:=(x=.exit 6/\∀j:Nat,(j:Int)<s'.m->TY s' j=U)\/(x=.ret/\s'.r=X/\∃j:Nat,(j:Int)<s'.m/\TY s' j=X)
def ajV:∀s,iV s->YS s:=by
 exact JH
theorem axR:Da YS tJ aAZ vv:=by
 intro s hI;obtain ⟨h0,h1,h2,h3,h4⟩:=hI;refine AH (λc1=>AH (λc2=>?_) λc2=>?_) λc1=>?_
 ·have c1:s.i<s.m:=AX
  refine .inr ⟨rfl,rfl,s.i.toNat,AZ,?_⟩
  have hg:TY s s.i=false:=aMg
  exact hg
 ·have c1:s.i<s.m:=AX
  have hg:TY s s.i=true:=aMg
  rw [AI (x:=s.i+1)];refine ⟨⟨A8,A8,h2,h3,λj hj=>?_⟩,by simp only [tJ];omega⟩
  exact L3
 ·exact Zh
def Qm:AR Nz:=⟨0,105,[2,3,91,92,93],[],λs=>[s.r,s.n,s.l,s.m,s.i],λ_=>[],λv b=>⟨E4 v 0,AK v 1,B4 BM v 2,AK v 3,AK v 4⟩,vv,λs r=> {s with r:=r.r,i:=r.i},λs=>s,λ_ s=>s,[.ret,.exit 6],iV,YS,tJ⟩
abbrev qB:=Qm.run
abbrev dW:=Qm.Aq
def awN:Rq YS vv:=by
 intro s hI;refine ⟨λc1=>⟨?_,λ_=>trivial,λ_=>trivial⟩,λ_=>trivial⟩
 ·(obtain ⟨h0,h1,h2,h3,h4⟩:=hI;obtain ⟨g0,g1,g2⟩:=h3;simp at c1;omega)
def aPL:Qm.Ok:={}
def aOZ:Qm.Pf (aAZ):=⟨ajV,λs h=>rfl,axR,awN⟩
def apx:SA 0 aF5 Qm:=s1 aPL aOZ Oz kN
def aqp:Fi iV YS aAZ dW qB:=AR.fin aPL aOZ
theorem oA {α:Type}{l:List α}{d:α}{f:α->Bool}:D9 (M l) (λk=>f<|l.getD k.toNat d)=l.all f:=by
 rw [IP,Di,BR]
 constructor
 ·intro h x hx
  obtain ⟨k,hk,rfl⟩:=I0.1 hx
  grind
 ·intro h j hj
  grind
def aSv:List LV->T LV
 | [x_p]=>(match Mr x_p with
  |some p=> .req (M p.lk<=100000000) (.ok<|Dz p)
  |none=> .no)
 |_=> .no
def QE (p:PK):O1:=(⟨X,(M p.gs:Int),p.tg,(M p.tg:Int),0,p⟩:O1)
def QD (p:PK):O0:=(⟨(oH<|QE p).r,(M p.gs:Int),p.dr,(M p.dr:Int),0,p⟩:O0)
def Sz (p:PK):Nz:=(⟨(oU<|QD p).r,(M p.gs:Int),p.lk,(M p.lk:Int),0⟩:Nz)
def ayz (p:PK):letI a:=(M p.gs:Int);Bk prog AV Oz kN (λi=>if i=5 then (Iu prog AV Oz Ff 20 2 W3) else if i=13 then Qo.lp else if i=19 then Qn.lp else if i=25 then Qm.lp else Ag i) f16 [p]=.br ((!(BI p.cs p.os p.ks p.gs p.bs)) ||(!(inB p.tk (0:Int) (1000000:Int)))) (.ok X) (.br ((M p.st:Int) !=a) (.ok X)<|.br ((M p.ca:Int) !=a) (.ok X)<|.br ((M p.mi:Int) !=a) (.ok X)<|.br ((M p.me:Int) !=a) (.ok X)<|.br ((M p.dm:Int) !=a) (.ok X)<|.br ((M p.dr:Int) !=a) (.ok X)<|.br ((M p.tg:Int) !=(M p.cs:Int)) (.ok X)<|.req (Qo.q<|QE p)<|.br (Bj (dY<|QE p)<|.ret) (.ok (oH<|QE p).r)<|.req (Qn.q<|QD p)<|.br (Bj (dX<|QD p)<|.ret) (.ok (oU<|QD p).r)<|.req (Qm.q<|Sz p)<|.br (Bj (dW<|Sz p)<|.ret) (.ok (qB<|Sz p).r)<|.ok U):=AT
def ahz:=vm (S:=aSv) func16 Oz kN (L:=(λi=>if i=5 then (Iu prog AV Oz Ff 20 2 W3) else if i=13 then Qo.lp else if i=19 then Qn.lp else if i=25 then Qm.lp else Ag i)) (λb hb=>by
 rw [show BA _=[W3,aF7,aF6,aF5] by kernel_rfl] at hb
 simp only [B8,Bu,Bt] at hb;rcases hb with rfl|rfl|rfl|rfl
 ·exact apw
 ·exact apz
 ·exact apy
 ·exact apx) (λargs lv h=>by
 refine ⟨?_⟩;unfold aSv at h;split at h
 ·split at h
  case h_2=>cases h
  rename_i p hp;obtain rfl:=WI hp;simp only [canL,canX];rw [ayz];obtain ⟨hk,rfl⟩:=h
  have op:Dz p=U->_:=λhv=>by unfold Dz at hv;simp only [AY,Ac] at hv;exact hv
  have no:(Dz p=U->False)->LV.v (.bool X)=LV.v (.bool<|Dz p):=λh=>by
   cases e:Dz p
   ·rfl
   ·exact (h e).elim
  refine ⟨λc1=>no λhv=>?_,λc1=>⟨λc2=>no λhv=>?_,λc2=>⟨λc3=>no λhv=>?_,λc3=>⟨λc4=>no λhv=>?_,λc4=>⟨λc5=>no λhv=>?_,λc5=>⟨λc6=>no λhv=>?_,λc6=>⟨λc7=>no λhv=>?_,λc7=>⟨λc8=>no λhv=>?_,λc8=>?_⟩⟩⟩⟩⟩⟩⟩⟩
  iterate 8
   ·obtain ⟨⟨h1,h2⟩,⟨h3,h4,h5,h6,h7,h8⟩,h9,_⟩:=op hv
    simp_all
  simp only [bne_eq_false_iff_eq,Int.natCast_inj,GF,Hv] at c1 c2 c3 c4 c5 c6 c7 c8
  have hs:=DD.1 c1.1
  have hv:Dz p=(D9 (M p.tg) (λk=>inB (gi p.tg k) 1 (Al p.cs k).2.2.1)&&(p.dr.all (λx=>inB x (-200) 200)&&p.lk.all (λl=>inB l.2.2.1 0<|(M p.gs:Int)-1))):=by
   unfold Dz
   grind
  have hr:D9 (M p.dr) (λk=>inB (gi p.dr k) (-200) 200)=p.dr.all (λx=>inB x (-200) 200):=oA (f:=λx=>inB x (-200) 200)
  have hl:D9 (M p.lk) (λk=>inB (FU p.lk k).2.2.1 0<|(M p.gs:Int)-1)=p.lk.all (λl=>inB l.2.2.1 0<|(M p.gs:Int)-1):=oA (f:=λl:Lk=>inB l.2.2.1 0<|(M p.gs:Int)-1)
  rw [hv,<-hr,<-hl]
  have E1:iX (QE p):=⟨rfl,Po _,by show (M p.tg:Int)<=1000;omega,rfl,c8⟩
  have E2:iW (QD p):=⟨rfl,Po _,by show (M p.dr:Int)<=1000;omega,rfl⟩
  have E3:iV (Sz p):=⟨rfl,Po _,by show (M p.lk:Int)<=100000000;omega,rfl,Po _,by show (M p.gs:Int)<=16;omega⟩
  refine ⟨⟨E1,rfl,rfl⟩,?_⟩;obtain ⟨_,_,q⟩:=aqs _ E1
  have q:(dY (QE p)=.exit 2/\_)\/(dY (QE p)=.ret/\(oH<|QE p).r=X/\∃j:Nat,(j:Int)<(M p.tg:Int)/\inB (gi p.tg j) 1 (Al p.cs j).2.2.1=X):=q
  rcases q with ⟨q1,q2⟩ |⟨q1,q2,j,q3,q4⟩
  rotate_left
  ·exact xh
  rw [q1,show D9 (M p.tg) (λk=>inB (gi p.tg k) 1 (Al p.cs k).2.2.1)=U from Di.2 q2]
  refine ⟨λc=>FN,λ_=>⟨⟨E2,rfl,rfl⟩,?_⟩⟩
  obtain ⟨_,_,q⟩:=aqr _ E2
  have q:(dX (QD p)=.exit 4/\_)\/(dX (QD p)=.ret/\(oU<|QD p).r=X/\∃j:Nat,(j:Int)<(M p.dr:Int)/\inB (gi p.dr j) (-200) 200=X):=q
  rcases q with ⟨q1,q2⟩ |⟨q1,q2,j,q3,q4⟩
  rotate_left
  ·exact xh
  rw [q1,show D9 (M p.dr) (λk=>inB (gi p.dr k) (-200) 200)=U from Di.2 q2]
  refine ⟨λc=>FN,λ_=>⟨⟨E3,rfl,rfl⟩,?_⟩⟩
  obtain ⟨_,_,q⟩:=aqp _ E3
  have q:(dW (Sz p)=.exit 6/\_)\/(dW (Sz p)=.ret/\(qB<|Sz p).r=X/\∃j:Nat,(j:Int)<(M p.lk:Int)/\inB (FU p.lk j).2.2.1 0 ((M p.gs:Int)-1)=X):=q
  rcases q with ⟨q1,q2⟩ |⟨q1,q2,j,q3,q4⟩
  rotate_left
  ·exact xh
  rw [q1,show D9 (M p.lk) (λk=>inB (FU p.lk k).2.2.1 0<|(M p.gs:Int)-1)=U from Di.2 q2]
  exact ⟨λc=>FN,λ_=>rfl⟩
 ·cases h)
def aS6:List LV->T LV
 | [.xl (.int J) l]=> .req (M l<=100000000) (.ok<|.xl A7 l)
 |_=> .no
def TO:List Bd:=[]
def aHE {α:Type}{l:List α}{d:α}{n:Int}(h:n=(M l:Int)):BC l (aq n.toNat d)=l:=by
 unfold BC
 simp_all
theorem getD_mem {α:Type}{l:List α}{i:Nat}{d:α}(h:i<M l):l.getD i d∈l:=by
 grind
def set_self {α:Type}{l:List α}{i:Nat}{d:α}(h:i<M l):l.set i (l.getD i d)=l:=by
 simp_all
def aa7:=vo (S:=aS6) func56 TO kN (λargs lv h=>by
 unfold aS6 at h;split at h
 ·rename_i l
  refine Ap (letI a:=(M l:Int);letI b:=(BC l<|aq a.toNat (0:Int));.rm 8 a<|.rc a (0:Int) (M l)<|.req (0+a.toNat<=M b)<|.ok<|.xl A7<|(b.drop 0).take a.toNat) ?_;obtain ⟨hl,rfl⟩:=h;rw [aHE rfl];refine ⟨A0,⟨AJ,AJ⟩,AJ,?_⟩;rw [C3,CP,E6];rfl
 ·cases h)
structure Nl where
 (n i:Int)
 p1:List ByteArray
 p2:List Ko
 p3:List Ch
 p4:List Ba
 ax8:Int
 ae6:Bool
 (p8 p11:Int)
 anH:List Me
 afX:List Dm
 aqN:List Lk
 (T0 afW:List Int)
 (qe b11 b12 b13 b14:Value)
 atf:Int
 adu:Bool
 b17:Value
 b18:Int
 (b19 b110:Value)
 Uq:Int
 (afx ath anx afy afH ao0 aCa afG:Value)
 b2:List Cd
 b3:List Le
 b4:List Int
 b5:List Ra
 b6:List St
 b7:List Le
 o:List Mi
def v9 (s:Nl):T (Rd Nl):=letI a:=s.o.getD s.i.toNat<|Ty.dflt B7;.br (an<|s.i<s.n) (.ik s.i (M s.o)<|.req (M a.1<=100000000)<|.ik s.i (M s.o)<|.rl s.b2<|.rl s.b3<|.rl s.b4<|.rl s.b5<|.rl s.b6<|.rl s.b7<|.re (M s.o) (s.o.set s.i.toNat a)<|.nx {s with i:=AA<|s.i+1,o:=s.o.set s.i.toNat a})<|.rl s.b2<|.rl s.b3<|.rl s.b4<|.rl s.b5<|.rl s.b6<|.rl s.b7<|.rl s.o<|.so (.exit 0) s
def jZ (s:Nl):Prop:=s.i=0/\s.n=(M s.o:Int)/\s.n<=1000/\∀m∈s.o,M m.1<=1000
def jK (s:Nl):Prop:=0<=s.i/\s.i<=s.n/\s.n=(M s.o:Int)/\s.n<=1000/\∀m∈s.o,M m.1<=1000
def sj (s:Nl):Nat:=(s.n-s.i).toNat
def ac1 (x:Ex) (s s':Nl):Prop:=True
def alJ:∀s,jZ s->jK s:=by
 exact aMR
theorem agY:Da jK sj ac1 v9:=by
 intro s hI;obtain ⟨h0,h1,h2,h3,h4⟩:=hI;refine AH (λc1=>?_) λc1=>trivial
 ·have c1:s.i<s.n:=A8
  have e:=set_self (l:=s.o) (i:=s.i.toNat) (d:=Ty.dflt B7) A0
  rw [AI (x:=s.i+1),e];exact ⟨⟨A8,A8,h2,h3,h4⟩,by simp only [sj];omega⟩
def GZ:AR Nl:=⟨0,82,[1,2,44,45],[],λs=>[.own 0 0,.own 1 0,s.n,s.i],λs=>[⟨[.os 2 11 0<|M s.b2,s.p1,s.p2,s.p3,s.p4,s.ax8,s.ae6,.os 3 5 0<|M s.b3,s.p8,.os 4 1 0<|M s.b4,.os 5 2 0<|M s.b5,s.p11,.os 6 4 0<|M s.b6,.os 7 5 0<|M s.b7,.os 8 3 0<|M s.o,s.anH,s.afX,s.aqN,.xl A7 s.T0,.xl A7 s.afW],48,.cl,X⟩,⟨[.v<|s.qe,.v<|s.b11,.v<|s.b12,.v<|s.b13,.v<|s.b14,s.atf,s.adu,.v<|s.b17,s.b18,.v<|s.b19,.v<|s.b110,s.Uq,.v<|s.afx,.v<|s.ath,.v<|s.anx,.v<|s.afy,.v<|s.afH,.v<|s.ao0,.v<|s.aCa,.v<|s.afG],48,.cl,X⟩,bV 73 Ad s.b2,bV 104 AP s.b3,bV 5 (.int aw) s.b4,bV 130 Am s.b5,bV 95 B3 s.b6,bV 56 AP s.b7,bV 110 B7 s.o],λv b=>⟨AK v 2,AK v 3,AF .str b 0 1,AF Ah b 0 2,AF Ae b 0 3,AF Ai b 0 4,Aj b 0 5,Kn b 0 6,Aj b 0 8,Aj b 0 11,AF BS b 0 15,AF Ak b 0 16,AF BM b 0 17,AF A7 b 0 18,AF A7 b 0 19,Gl<|BB (CU b 1) 0,Gl<|BB (CU b 1) 1,Gl<|BB (CU b 1) 2,Gl<|BB (CU b 1) 3,Gl<|BB (CU b 1) 4,Aj b 1 5,Kn b 1 6,Gl<|BB (CU b 1) 7,Aj b 1 8,Gl<|BB (CU b 1) 9,Gl<|BB (CU b 1) 10,Aj b 1 11,Gl<|BB (CU b 1) 12,Gl<|BB (CU b 1) 13,Gl<|BB (CU b 1) 14,Gl<|BB (CU b 1) 15,Gl<|BB (CU b 1) 16,Gl<|BB (CU b 1) 17,Gl<|BB (CU b 1) 18,Gl<|BB (CU b 1) 19,Ab Ad b 2,Ab AP b 3,Ab (.int aw) b 4,Ab Am b 5,Ab B3 b 6,Ab AP b 7,Ab B7 b 8⟩,v9,λs r=> {s with i:=r.i,o:=r.o},λs=>s,λ_ s=>s,[.exit 0],jZ,jK,sj⟩
abbrev aGp:=GZ.run
abbrev asE:=GZ.Aq
def axr:Rq jK v9:=by
 intro s hI;refine ⟨λc1=>⟨?_,?_,?_,?_,?_,A9,A9,A9,A9,A9,A9,?_,ak⟩,λc1=>⟨A9,A9,A9,A9,A9,A9,A9,ak⟩⟩
 all_goals ((obtain ⟨h0,h1,h2,h3,h4⟩:=hI;(try simp only [Ac] at c1);first|omega|exact ⟨rfl,AJ⟩ |exact ⟨rfl,rfl⟩ |exact HP (h4 _<|getD_mem A0) Aa))
def uC:List Bd:=[aa7]
def azO:Ax:=kI uC<|l0 uC
def aQ3:GZ.Ok:={}
def aPd:GZ.Pf (ac1):=⟨alJ,λs h=>rfl,agY,axr⟩
def Cn:=s1 (b:=bN f25 0) aQ3 aPd uC azO
theorem as7:Rs jZ asE aGp (λs:Nl=>s.o) (λx s' (v:List Mi)=>x=.exit 0/\s'.o=v):=DJ aQ3 aPd (λs hI=>by
  obtain ⟨h0,h1,h2,h3,h4⟩:=hI;refine AH (λc1=>?_) λc1=>⟨rfl,rfl⟩
  have c1:s.i<s.n:=A8
  have e:=set_self (l:=s.o) (i:=s.i.toNat) (d:=Ty.dflt B7) A0
  rw [e];exact rfl)
structure MK where
 p:PK
def UU (s:MK):List LV:=[s.p]
def Yk (s:MK):List AB:=[]
def cM (s:MK):Nl:=(⟨(((M s.p.mi:Int).toNat:Nat):Int),0,s.p.os,s.p.ks,s.p.gs,s.p.bs,s.p.tk,s.p.up,s.p.se,s.p.nx,s.p.me,s.p.dm,s.p.lk,s.p.dr,s.p.tg,.slice aj 0 0,.slice aj 0 0,.slice aj 0 0,.slice aj 0 0,.slice aj 0 0,0,X,.slice aj 0 0,0,.slice aj 0 0,.slice aj 0 0,0,.slice aj 0 0,.slice aj 0 0,.slice aj 0 0,.slice aj 0 0,.slice aj 0 0,.slice aj 0 0,.slice aj 0 0,.slice aj 0 0,BC s.p.cs<|aq (M s.p.cs:Int).toNat (ByteArray.empty,((0:Int),((0:Int),((0:Int),(((0:Int),(0:Int)),((0:Int),((0:Int),((0:Int),((0:Int),(0:Int)))))))))),BC s.p.ls<|aq (M s.p.ls:Int).toNat ((0:Int),((0:Int),((0:Int),((0:Int),(0:Int))))),BC s.p.fl<|aq (M s.p.fl:Int).toNat (0:Int),BC s.p.ra<|aq (M s.p.ra:Int).toNat ((0:Int),(0:Int)),BC s.p.st<|aq (M s.p.st:Int).toNat ((0:Int),((0:Int),((0:Int),X))),BC s.p.ca<|aq (M s.p.ca:Int).toNat ((0:Int),((0:Int),((0:Int),((0:Int),(0:Int))))),BC s.p.mi<|aq (M s.p.mi:Int).toNat (([]:List Int),((0:Int),(0:Int)))⟩:Nl)
structure Xc where
 p:PK
 (n7 n8 n9 n10 n11:Nat)
def abE (s:Xc):LV:=.agg [.os 0 11 0<|M s.p.cs,s.p.os,s.p.ks,s.p.gs,s.p.bs,s.p.tk,s.p.up,.os 1 5 0<|M s.p.ls,s.p.se,.os 2 1 0<|M s.p.fl,.os 3 2 0<|M s.p.ra,s.p.nx,.os 4 4 0<|M s.p.st,.os 5 5 0<|M s.p.ca,.os 6 3 0<|M s.p.mi,.os 7 3 0 s.n7,.os 8 4 0 s.n8,.os 9 6 0 s.n9,.os 10 1 0 s.n10,.os 11 1 0 s.n11]
def abx (s:Xc):List AB:=[bV 73 Ad s.p.cs,bV 104 AP s.p.ls,bV 5 (.int aw) s.p.fl,bV 130 Am s.p.ra,bV 95 B3 s.p.st,bV 56 AP s.p.ca,bV 110 B7 s.p.mi,bV 98 BS s.p.me,bV 58 Ak s.p.dm,bV 106 BM s.p.lk,bV 3 A7 s.p.dr,bV 3 A7 s.p.tg]
def fk (s:MK):T Xc:=letI a:=(ByteArray.empty,((0:Int),((0:Int),((0:Int),(((0:Int),(0:Int)),((0:Int),((0:Int),((0:Int),((0:Int),(0:Int))))))))));letI f:=(M s.p.cs:Int);letI g:=(M s.p.fl:Int);letI h:=(M s.p.ls:Int);letI i:=(M s.p.ra:Int);letI j:=(M s.p.st:Int);letI k:=(M s.p.ca:Int);letI l:=(M s.p.mi:Int);letI m:=(M s.p.me:Int);letI n:=(M s.p.dm:Int);letI r:=(M s.p.lk:Int);letI t:=(M s.p.dr:Int);letI u:=(M s.p.tg:Int);letI v:=(BC s.p.fl<|aq g.toNat (0:Int));letI w:=BC s.p.cs<|aq f.toNat a;letI x:=(X,((0:Int),((0:Int),(0:Int))));letI b:=(BC s.p.ls<|aq h.toNat ((0:Int),((0:Int),((0:Int),((0:Int),(0:Int))))));letI c:=(BC s.p.ca<|aq k.toNat ((0:Int),((0:Int),((0:Int),((0:Int),(0:Int))))));letI d:=(BC s.p.st<|aq j.toNat ((0:Int),((0:Int),((0:Int),X))));letI e:=(BC s.p.ra<|aq i.toNat ((0:Int),(0:Int)));.rm 96 f<|.rc f a (M s.p.cs)<|.rm 40 h<|.rc h ((0:Int),((0:Int),((0:Int),((0:Int),(0:Int))))) (M s.p.ls)<|.rm 1 g<|.rc g (0:Int) (M s.p.fl)<|.rm 16 i<|.rc i ((0:Int),(0:Int)) (M s.p.ra)<|.rm 32 j<|.rc j ((0:Int),((0:Int),((0:Int),X))) (M s.p.st)<|.rm 40 k<|.rc k ((0:Int),((0:Int),((0:Int),((0:Int),(0:Int))))) (M s.p.ca)<|.rm 40 l<|.rc l (([]:List Int),((0:Int),(0:Int))) (M s.p.mi)<|.re f.toNat w<|.re h.toNat b<|.re g.toNat v<|.re i.toNat e<|.re j.toNat d<|.re k.toNat c<|.re l.toNat (BC s.p.mi<|aq l.toNat (([]:List Int),((0:Int),(0:Int))))<|.req (GZ.q<|cM s)<|.rm 24 m<|.rc m ((0:Int),((0:Int),X)) (M s.p.me)<|.rm 32 n<|.rc n x (M s.p.dm)<|.rm 48 r<|.rc r ((0:Int),((0:Int),((0:Int),((0:Int),((0:Int),(0:Int)))))) (M s.p.lk)<|.rm 8 t<|.rc t (0:Int) (M s.p.dr)<|.rm 8 u<|.rc u (0:Int) (M s.p.tg)<|.ok<|⟨⟨w,s.p.os,s.p.ks,s.p.gs,s.p.bs,s.p.tk,s.p.up,b,s.p.se,v,e,s.p.nx,d,c,(aGp<|cM s).o,BC s.p.me<|aq m.toNat ((0:Int),((0:Int),X)),BC s.p.dm<|aq n.toNat x,BC s.p.lk<|aq r.toNat ((0:Int),((0:Int),((0:Int),((0:Int),((0:Int),(0:Int)))))),BC s.p.dr<|aq t.toNat (0:Int),BC s.p.tg<|aq u.toNat (0:Int)⟩,m.toNat,n.toNat,r.toNat,t.toNat,u.toNat⟩
def QO {α:Type}{l:List α}{d:α}:BC l (aq (M l:Int).toNat d)=l:=aHE rfl
structure LB (p:PK):Prop where
 cs:M p.cs<=20000000
 ls:M p.ls<=20000000
 fl:M p.fl<=20000000
 ra:M p.ra<=20000000
 st:M p.st<=20000000
 ca:M p.ca<=20000000
 mi:M p.mi<=1000
 me:M p.me<=20000000
 dm:M p.dm<=20000000
 lk:M p.lk<=20000000
 dr:M p.dr<=20000000
 tg:M p.tg<=20000000
 mis:∀m∈p.mi,M m.1<=1000
def iO (s:MK):Prop:=LB s.p
def ab1 (s:MK):Xc:=⟨s.p,M s.p.me,M s.p.dm,M s.p.lk,M s.p.dr,M s.p.tg⟩
def jr:Cs MK Xc:=⟨UU,Yk,λv b=>⟨⟨Ao Ad<|E0 (v.getD 0 .junk) 0,Ao .str<|E0 (v.getD 0 .junk) 1,Ao Ah<|E0 (v.getD 0 .junk) 2,Ao Ae<|E0 (v.getD 0 .junk) 3,Ao Ai<|E0 (v.getD 0 .junk) 4,gI<|E0 (v.getD 0 .junk) 5,gBo<|E0 (v.getD 0 .junk) 6,Ao AP<|E0 (v.getD 0 .junk) 7,gI<|E0 (v.getD 0 .junk) 8,Ao (.int aw)<|E0 (v.getD 0 .junk) 9,Ao Am<|E0 (v.getD 0 .junk) 10,gI<|E0 (v.getD 0 .junk) 11,Ao B3<|E0 (v.getD 0 .junk) 12,Ao AP<|E0 (v.getD 0 .junk) 13,Ao B7<|E0 (v.getD 0 .junk) 14,Ao BS<|E0 (v.getD 0 .junk) 15,Ao Ak<|E0 (v.getD 0 .junk) 16,Ao BM<|E0 (v.getD 0 .junk) 17,Ao A7<|E0 (v.getD 0 .junk) 18,Ao A7<|E0 (v.getD 0 .junk) 19⟩⟩,iO,[],[],abE,abx,ab1⟩
abbrev azx (s:MK):Prop:=iO s/\UU s=UU s/\Yk s=Yk s
def aRK:Ax:=kI TO<|la 9 func25 Cn<|l0 TO
def aTb:DE:=CT 25 0 9 (GZ.lp)<|Dl prog AV TO 20 2
def aoS:ED prog AV aTb:=D5 func25 rfl AT Cn<|HW<|gk TO
def ayU (s:MK):((EP prog AV TO aTb aRK).k 25 (UU s)<|Yk s).bind (λq=>G2 (M<|Yk s) [0] [] .normal (q.1::UU s) q.2)=(fk s).mp (λs2=>⟨.normal,M (UU s)+1,[abE s2],abx s2,U⟩):=AT
theorem avZ (s:MK) (hE:iO s):(fk s).all (λq=>q=ab1 s):=by
 have ho:(cM s).o=s.p.mi:=QO
 have hn:(cM s).n=(M s.p.mi:Int):=MC
 have hV:jZ (cM s):=⟨rfl,A8,by rw [hn];have:=hE.mi;omega,by rw [ho];exact hE.mis⟩
 have hm:=(as7 _ hV).2.trans QO
 unfold fk;simp only [QO,hm];obtain ⟨h1,h2,h3,h4,h5,h6,h7,h8,h9,h10,h11,h12,_⟩:=hE
 repeat (refine ⟨by first|omega|exact ⟨AJ,AJ⟩ |exact ⟨rfl,AJ⟩ |exact ⟨hV,rfl,rfl⟩,?_⟩)
 rfl
def atz:DX prog AV 25 jr.m:=Cs.sound (D:=jr) (t:=fk) (gk TO) aoS aRK.h ayU λs hE=>⟨avZ s hE⟩
def ahd:DX prog AV 25 (QU λa=>jr.m a []):=aFJ atz
structure EW where
 (ek en em c1 c2 c3 c4 c5:Int)
 d1:Bool
 (d2 d3 d4:Int)
instance:Coe EW Value:=⟨λe=> .agg #[Y J e.ek,Y J e.en,Y J e.em,Y J e.c1,Y J e.c2,Y J e.c3,Y J e.c4,Y J e.c5,.bool e.d1,Y J e.d2,Y J e.d3,Y J e.d4]⟩
instance:Coe EW LV:=⟨λe=> .v<|.agg #[Y J e.ek,Y J e.en,Y J e.em,Y J e.c1,Y J e.c2,Y J e.c3,Y J e.c4,Y J e.c5,.bool e.d1,Y J e.d2,Y J e.d3,Y J e.d4]⟩
def EW.c (e:EW):Ca:=(e.c1,e.c2,e.c3,e.c4,e.c5)
def EW.d (e:EW):Dm:=(e.d1,e.d2,e.d3,e.d4)
def EW.ev (e:EW):EV:=⟨e.ek,e.en,e.em,e.c,e.d⟩
def mE:LV->Option EW
 | .v (.agg ⟨[Y J ek,Y J en,Y J em,Y J c1,Y J c2,Y J c3,Y J c4,Y J c5,.bool d1,Y J d2,Y J d3,Y J d4]⟩)=>ah ⟨ek,en,em,c1,c2,c3,c4,c5,d1,d2,d3,d4⟩
 |_=>aj
def asY {x:LV}{ev:EW}(h:mE x=ah ev):x=(ev):=by
 unfold mE at h;exact xt
def zB:AB:=⟨[.v<|.slice aj 0 0,.v<|.slice aj 0 0,.v<|.slice aj 0 0,.v<|.slice aj 0 0,.v<|.slice aj 0 0,.v<|Y J 0,.v<|.bool X,.v<|.slice aj 0 0,.v<|Y J 0,.v<|.slice aj 0 0,.v<|.slice aj 0 0,.v<|Y J 0,.v<|.slice aj 0 0,.v<|.slice aj 0 0,.v<|.slice aj 0 0,.v<|.slice aj 0 0,.v<|.slice aj 0 0,.v<|.slice aj 0 0,.v<|.slice aj 0 0,.v<|.slice aj 0 0],48,.cl,X⟩
def eB (e:EW):AB:=⟨[.v<|Y J e.ek,.v<|Y J e.en,.v<|Y J e.em,.v<|Y J e.c1,.v<|Y J e.c2,.v<|Y J e.c3,.v<|Y J e.c4,.v<|Y J e.c5,.v<|.bool e.d1,.v<|Y J e.d2,.v<|Y J e.d3,.v<|Y J e.d4],68,.cl,X⟩
def rE (b:List AB) (i q:Nat):EW:=letI a:=CU b q;⟨gI<|BB a<|i+0,gI<|BB a<|i+1,gI<|BB a<|i+2,gI<|BB a<|i+3,gI<|BB a<|i+4,gI<|BB a<|i+5,gI<|BB a<|i+6,gI<|BB a<|i+7,gBo<|BB a<|i+8,gI<|BB a<|i+9,gI<|BB a<|i+10,gI<|BB a<|i+11⟩
def rG (b:List AB):EW:=rE b 20 16
structure LO where
 (i k0 k1 k2:Int)
 p:PK
 ev:EW
def UR (s:LO):List LV:=[.own 16 0,s.i,.v<|.agg #[s.k0,s.k1,s.k2]]
def Yh (s:LO):List AB:=[AO,AO,zB,AO,bV 73 Ad s.p.cs,bV 104 AP s.p.ls,bV 5 (.int aw) s.p.fl,bV 130 Am s.p.ra,bV 95 B3 s.p.st,bV 56 AP s.p.ca,bV 110 B7 s.p.mi,bV 98 BS s.p.me,bV 58 Ak s.p.dm,bV 106 BM s.p.lk,bV 3 A7 s.p.dr,bV 3 A7 s.p.tg,⟨[.os 4 11 0<|M s.p.cs,.xl .str s.p.os,.xl Ah s.p.ks,.xl Ae s.p.gs,.xl Ai s.p.bs,.v<|Y J s.p.tk,.v<|.bool s.p.up,.os 5 5 0<|M s.p.ls,.v<|Y J s.p.se,.os 6 1 0<|M s.p.fl,.os 7 2 0<|M s.p.ra,.v<|Y J s.p.nx,.os 8 4 0<|M s.p.st,.os 9 5 0<|M s.p.ca,.os 10 3 0<|M s.p.mi,.os 11 3 0<|M s.p.me,.os 12 4 0<|M s.p.dm,.os 13 6 0<|M s.p.lk,.os 14 1 0<|M s.p.dr,.os 15 1 0<|M s.p.tg,.v<|Y J s.ev.ek,.v<|Y J s.ev.en,.v<|Y J s.ev.em,.v<|Y J s.ev.c1,.v<|Y J s.ev.c2,.v<|Y J s.ev.c3,.v<|Y J s.ev.c4,.v<|Y J s.ev.c5,.v<|.bool s.ev.d1,.v<|Y J s.ev.d2,.v<|Y J s.ev.d3,.v<|Y J s.ev.d4,.v<|.slice aj 0 0],88,.cl,X⟩]
structure XZ where
 res:Int
 p:PK
 ev:EW
def abB (s:XZ):LV:=.v<|Y J s.res
def acL (s:XZ):List AB:=[AO,AO,zB,AO,bV 73 Ad s.p.cs,bV 104 AP s.p.ls,bV 5 (.int aw) s.p.fl,bV 130 Am s.p.ra,bV 95 B3 s.p.st,bV 56 AP s.p.ca,bV 110 B7 s.p.mi,bV 98 BS s.p.me,bV 58 Ak s.p.dm,bV 106 BM s.p.lk,bV 3 A7 s.p.dr,bV 3 A7 s.p.tg,⟨[.os 4 11 0<|M s.p.cs,.xl .str s.p.os,.xl Ah s.p.ks,.xl Ae s.p.gs,.xl Ai s.p.bs,.v<|Y J s.p.tk,.v<|.bool s.p.up,.os 5 5 0<|M s.p.ls,.v<|Y J s.p.se,.os 6 1 0<|M s.p.fl,.os 7 2 0<|M s.p.ra,.v<|Y J s.p.nx,.os 8 4 0<|M s.p.st,.os 9 5 0<|M s.p.ca,.os 10 3 0<|M s.p.mi,.os 11 3 0<|M s.p.me,.os 12 4 0<|M s.p.dm,.os 13 6 0<|M s.p.lk,.os 14 1 0<|M s.p.dr,.os 15 1 0<|M s.p.tg,.v<|Y J s.ev.ek,.v<|Y J s.ev.en,.v<|Y J s.ev.em,.v<|Y J s.ev.c1,.v<|Y J s.ev.c2,.v<|Y J s.ev.c3,.v<|Y J s.ev.c4,.v<|Y J s.ev.c5,.v<|.bool s.ev.d1,.v<|Y J s.ev.d2,.v<|Y J s.ev.d3,.v<|Y J s.ev.d4,.v<|.slice aj 0 0],88,.cl,X⟩]
def vX (s:LO):T XZ:=letI c:=s.p.st.getD s.i.toNat<|Ty.dflt B3;letI d:=M s.p.st;letI a:=sE (AG s.p.gs s.i) c s.k0 s.k1 s.k2;letI b:=sN (AG s.p.gs s.i) c s.k0 s.k1 s.k2;.ix s.i (M s.p.gs)<|.ik s.i d<|.br (a==0) (.ik s.i d<|.pa s.p<|.re d (s.p.st.set s.i.toNat b)<|.rl s.p.ca<|.rl s.p.mi<|.rl s.p.me<|.rl s.p.dm<|.rl s.p.lk<|.rl s.p.dr<|.rl s.p.tg<|.ok<|⟨a,{s.p with st:=s.p.st.set s.i.toNat b},s.ev⟩)<|.pc s.p<|.ok<|⟨a,s.p,s.ev⟩
def aB5 (s:LO):Prop:=0<=s.i/\s.i<(M s.p.gs:Int)/\M s.p.st=M s.p.gs
def gZ (s:LO):XZ:=⟨sE (AG s.p.gs s.i) (BG s.p.st s.i) s.k0 s.k1 s.k2,{s.p with st:=CV s.p.gs s.p.st s.i s.k0 s.k1 s.k2},s.ev⟩
def aBB:Cs LO XZ:=⟨UR,Yh,λv b=>⟨AK v 1,gI<|E0 (v.getD 2 .junk) 0,gI<|E0 (v.getD 2 .junk) 1,gI<|E0 (v.getD 2 .junk) 2,rF b,rG b⟩,aB5,[0,1,3],[],abB,acL,gZ⟩
abbrev uc (s:LO):Prop:=aB5 s/\UR s=UR s/\Yh s=Yh s
def fC:List Bd:=[Qw]
def aTM:DE:=CT 25 0 9 (GZ.lp)<|Dl prog AV (fC) 20 2
def aoP:ED prog AV aTM:=D5 func25 rfl AT Cn<|HW<|gk fC
def ayQ (s:LO):((EP prog AV fC aTM Ff).k 42 (UR s)<|Yh s).bind (λq=>G2 (M<|Yh s) [0] [] .normal (q.1::UR s) q.2)=(vX s).mp (λs2=>⟨.normal,M (UR s)+1,[abB s2],acL s2,U⟩):=AT
theorem avW (s:LO) (hE:aB5 s):(vX s).all (λq=>q=gZ s):=by
 obtain ⟨h0,h1,h2⟩:=hE;refine ⟨A0,A0,A0,λc=>?_,λc=>?_⟩
 ·have c:=eq_of_beq c
  have hg:CV s.p.gs s.p.st s.i s.k0 s.k1 s.k2=_:=AD c
  repeat (refine ⟨A8,?_⟩)
  unfold gZ;rw [hg];rfl
 ·have c:=CQ.1 c
  have hg:CV s.p.gs s.p.st s.i s.k0 s.k1 s.k2=s.p.st:=AE c
  repeat (refine ⟨AJ,?_⟩)
  unfold gZ;rw [hg];rfl
def ahb:DX prog AV 42 aBB.m:=Cs.sound (D:=aBB) (t:=vX) (gk fC) aoP Q9 ayQ λs hE=>⟨avW s hE⟩
structure MX where
 (n i:Int)
 p:PK
 ev:EW
 left:List Lk
def vQ (s:MX):T (Rd MX):=letI a:=s.p.lk.getD s.i.toNat<|Ty.dflt BM;.br (an<|s.i<s.n) (.ik s.i (M s.p.lk)<|.br (a.2.2.1 !=s.ev.en) (.rb (M s.left) (M<|[a]) 48<|.re (M s.left+M ([a])) (s.left++([a]))<|.rl s.p.lk<|.pc s.p<|.nx {s with i:=AA<|s.i+1,left:=s.left++([a])})<|.rl s.left<|.rl s.p.lk<|.pc s.p<|.nx {s with i:=AA<|s.i+1})<|.rl s.left<|.rl s.p.lk<|.pc s.p<|.so (.exit 0) s
def iv (s:MX):Prop:=s.i=0/\s.n=(M s.p.lk:Int)/\s.n<=20000000/\(M s.left:Int)<=s.i
def jE (s:MX):Prop:=0<=s.i/\s.i<=s.n/\s.n=(M s.p.lk:Int)/\s.n<=20000000/\(M s.left:Int)<=s.i
def fK (s:MX):Nat:=(s.n-s.i).toNat
def acf (x:Ex) (s s':MX):Prop:=True
def akd:∀s,iv s->jE s:=by
 rintro s ⟨h0,h2,h3,h4⟩
 exact xa
theorem ayB:Da jE fK acf vQ:=by
 intro s hI;obtain ⟨h0,h1,h2,h3,h4⟩:=hI;refine AH (λc1=>AH (λc2=>?_) λc2=>?_) λc1=>trivial
 all_goals have c1:s.i<s.n:=AX
 all_goals rw [AI (x:=s.i+1)]
 ·exact ⟨⟨AZ,AZ,h2,h3,A8⟩,by simp only [fK];omega⟩
 ·exact ⟨⟨A8,A8,h2,h3,AZ⟩,by simp only [fK];omega⟩
def KS:AR MX:=⟨18,30,[0,1,4,11,12,13],[.nl 4 106 BM],λs=>[.own 16 0,.fn 44 [.own 17 0],.os 18 6 0<|M s.left,.os 13 6 0<|M s.p.lk,s.n,s.i],λs=>[AO,AO,zB,AO,bV 73 Ad s.p.cs,bV 104 AP s.p.ls,bV 5 (.int aw) s.p.fl,bV 130 Am s.p.ra,bV 95 B3 s.p.st,bV 56 AP s.p.ca,bV 110 B7 s.p.mi,bV 98 BS s.p.me,bV 58 Ak s.p.dm,bV 106 BM s.p.lk,bV 3 A7 s.p.dr,bV 3 A7 s.p.tg,⟨[.os 4 11 0<|M s.p.cs,.xl .str s.p.os,.xl Ah s.p.ks,.xl Ae s.p.gs,.xl Ai s.p.bs,.v<|Y J s.p.tk,.v<|.bool s.p.up,.os 5 5 0<|M s.p.ls,.v<|Y J s.p.se,.os 6 1 0<|M s.p.fl,.os 7 2 0<|M s.p.ra,.v<|Y J s.p.nx,.os 8 4 0<|M s.p.st,.os 9 5 0<|M s.p.ca,.os 10 3 0<|M s.p.mi,.os 11 3 0<|M s.p.me,.os 12 4 0<|M s.p.dm,.os 13 6 0<|M s.p.lk,.os 14 1 0<|M s.p.dr,.os 15 1 0<|M s.p.tg,.v<|Y J s.ev.ek,.v<|Y J s.ev.en,.v<|Y J s.ev.em,.v<|Y J s.ev.c1,.v<|Y J s.ev.c2,.v<|Y J s.ev.c3,.v<|Y J s.ev.c4,.v<|Y J s.ev.c5,.v<|.bool s.ev.d1,.v<|Y J s.ev.d2,.v<|Y J s.ev.d3,.v<|Y J s.ev.d4,.v<|.slice aj 0 0],88,.cl,X⟩,⟨[.own 16 0],83,.cl,X⟩,bV 106 BM s.left],λv b=>⟨AK v 4,AK v 5,rF b,rG b,Ab BM b 18⟩,vQ,λs r=> {s with i:=r.i,left:=r.left},λs=>s,λ_ s=>s,[.exit 0],iv,jE,fK⟩
abbrev adb:=KS.run
abbrev atG:=KS.Aq
def uB:List Bd:=[Tj]
def azN:Ax:=kI uB<|la 9 func25 Cn<|l0 uB
def awF:Rq jE vQ:=by
 intro s hI;refine ⟨λc1=>⟨?_,?_,λc2=>⟨?_,?_,A9,A9,A9,A9,A9,A9,A9,A9,A9,A9,A9,A9,A9,ak⟩,λc2=>⟨A9,A9,A9,A9,A9,A9,A9,A9,A9,A9,A9,A9,A9,A9,ak⟩⟩,λc1=>⟨A9,A9,A9,A9,A9,A9,A9,A9,A9,A9,A9,A9,A9,A9,ak⟩⟩
 all_goals ((obtain ⟨h0,h1,h2,h3,h4⟩:=hI;(try simp only [Ac] at c1);first|omega|exact ⟨rfl,rfl⟩ |(simp only [Bi,Bp,BD];omega) |(simp only [BD,Bi,Bp,Ei];done)))
def aQW:KS.Ok:={}
def aOp:KS.Pf (acf):=⟨akd,λs h=>rfl,ayB,awF⟩
def K7:=s2 (b:=bN f43 0) aQW aOp uB azN
def ant {l:List Lk}{i:Int}(h0:0<=i) (h:i<M l):l.drop i.toNat=l.getD i.toNat (Ty.dflt BM)::l.drop (i+1).toNat:=by
 rw [SU A0,DQ,DR A0,show (i+1).toNat=i.toNat+1 by omega]
 rfl
theorem arG:Rs iv atG adb (λs:MX=>s.left++(s.p.lk.drop s.i.toNat).filter (λl=>l.2.2.1 !=s.ev.en)) (λx s' (v:List Lk)=>x=.exit 0/\s'.left=v):=DJ aQW aOp (λs hI=>by
  obtain ⟨h0,h1,h2,h3,h4⟩:=hI;refine AH (λc1=>?_) λc1=>?_
  ·have c1:s.i<s.n:=A8
   rw [AI (x:=s.i+1),ant h0 A0];refine AH (λc2=>?_) λc2=>?_
   ·show _++[_]++_=_++_
    rw [OQ,AD c2,Cm];rfl
   ·show _++_=_++_
    grind
  ·have c1:s.n<=s.i:=A8
   refine ⟨rfl,?_⟩;rw [Ef A0]
   simp)
def JA (e:Int) (a b:PK):PK:=if e=0 then a else b
def LH {e:Int}{a b:PK}(h:e=0):JA e a b=a:=AD h
def JR {e:Int}{a b:PK}(h:e≠0):JA e a b=b:=AE h
def TA {α:Type}(l:List α):(l.drop 0).take (M l)=l:=AJ
def dM {l:List Ch}(h:M l<=1000):AA ((M l:Int)-1)=(M l:Int)-1:=AI
structure Nh where
 p:PK
 ev:EW
def UO (s:Nh):List LV:=[.own 16 0]
def Ye (s:Nh):List AB:=[AO,AO,zB,AO,bV 73 Ad s.p.cs,bV 104 AP s.p.ls,bV 5 (.int aw) s.p.fl,bV 130 Am s.p.ra,bV 95 B3 s.p.st,bV 56 AP s.p.ca,bV 110 B7 s.p.mi,bV 98 BS s.p.me,bV 58 Ak s.p.dm,bV 106 BM s.p.lk,bV 3 A7 s.p.dr,bV 3 A7 s.p.tg,⟨[.os 4 11 0<|M s.p.cs,.xl .str s.p.os,.xl Ah s.p.ks,.xl Ae s.p.gs,.xl Ai s.p.bs,.v<|Y J s.p.tk,.v<|.bool s.p.up,.os 5 5 0<|M s.p.ls,.v<|Y J s.p.se,.os 6 1 0<|M s.p.fl,.os 7 2 0<|M s.p.ra,.v<|Y J s.p.nx,.os 8 4 0<|M s.p.st,.os 9 5 0<|M s.p.ca,.os 10 3 0<|M s.p.mi,.os 11 3 0<|M s.p.me,.os 12 4 0<|M s.p.dm,.os 13 6 0<|M s.p.lk,.os 14 1 0<|M s.p.dr,.os 15 1 0<|M s.p.tg,.v<|Y J s.ev.ek,.v<|Y J s.ev.en,.v<|Y J s.ev.em,.v<|Y J s.ev.c1,.v<|Y J s.ev.c2,.v<|Y J s.ev.c3,.v<|Y J s.ev.c4,.v<|Y J s.ev.c5,.v<|.bool s.ev.d1,.v<|Y J s.ev.d2,.v<|Y J s.ev.d3,.v<|Y J s.ev.d4,.v<|.slice aj 0 0],88,.cl,X⟩]
structure XW where
 res:Int
 p:PK
 ev:EW
def ab8 (s:XW):LV:=.v<|Y J s.res
def acI (s:XW):List AB:=[AO,AO,zB,AO,bV 73 Ad s.p.cs,AO,bV 5 (.int aw) s.p.fl,bV 130 Am s.p.ra,bV 95 B3 s.p.st,bV 56 AP s.p.ca,bV 110 B7 s.p.mi,bV 98 BS s.p.me,bV 58 Ak s.p.dm,bV 106 BM s.p.lk,bV 3 A7 s.p.dr,bV 3 A7 s.p.tg,⟨[.os 4 11 0<|M s.p.cs,.xl .str s.p.os,.xl Ah s.p.ks,.xl Ae s.p.gs,.xl Ai s.p.bs,.v<|Y J s.p.tk,.v<|.bool s.p.up,.xl AP s.p.ls,.v<|Y J s.p.se,.os 6 1 0<|M s.p.fl,.os 7 2 0<|M s.p.ra,.v<|Y J s.p.nx,.os 8 4 0<|M s.p.st,.os 9 5 0<|M s.p.ca,.os 10 3 0<|M s.p.mi,.os 11 3 0<|M s.p.me,.os 12 4 0<|M s.p.dm,.os 13 6 0<|M s.p.lk,.os 14 1 0<|M s.p.dr,.os 15 1 0<|M s.p.tg,.v<|Y J s.ev.ek,.v<|Y J s.ev.en,.v<|Y J s.ev.em,.v<|Y J s.ev.c1,.v<|Y J s.ev.c2,.v<|Y J s.ev.c3,.v<|Y J s.ev.c4,.v<|Y J s.ev.c5,.v<|.bool s.ev.d1,.v<|Y J s.ev.d2,.v<|Y J s.ev.d3,.v<|Y J s.ev.d4,.v<|.slice aj 0 0],88,.cl,X⟩]
def vW (s:Nh):T XW:=
 .br (!s.p.up) (.rz s.p.ls<|.rl s.p.cs<|.rl s.p.fl<|.rl s.p.ra<|.pb s.p<|.ok<|⟨6,{s.p with ls:=(s.p.ls.drop 0).take<|M s.p.ls},s.ev⟩) (.rl s.p.cs<|.rl s.p.fl<|.rl s.p.ra<|.pb s.p<|.ok<|⟨0,{s.p with up:=X,ls:=([]:List Le)},s.ev⟩)
def aB2 (s:Nh):Prop:=True
def gY (s:Nh):XW:=⟨PK.MY s.p,JA (PK.MY s.p) (PK.PF s.p) s.p,s.ev⟩
def aB9:Cs Nh XW:=⟨UO,Ye,λv b=>⟨rF b,rG b⟩,aB2,[0,1,3],[.pc 16 7 AP,.kb 5],ab8,acI,gY⟩
abbrev aiI (s:Nh):Prop:=aB2 s/\UO s=UO s/\Ye s=Ye s
def fB:List Bd:=[]
def aTJ:DE:=CT 43 18 2 (KS.lp)<|CT 25 0 9 (GZ.lp)<|Dl prog AV (fB) 20 2
def aoM:ED prog AV aTJ:=D5 func43 rfl AT K7<|D5 func25 rfl AT Cn<|HW<|gk fB
def ayL (s:Nh):((EP prog AV fB aTJ Ff).k 21 (UO s)<|Ye s).bind (λq=>G2 (M<|Ye s) [0] [.pc 16 7 AP,.kb 5] .normal (q.1::UO s) q.2)=(vW s).mp (λs2=>⟨.normal,M (UO s)+1,[ab8 s2],acI s2,U⟩):=AT
theorem avT (s:Nh) (hE:aB2 s):(vW s).all (λq=>q=gY s):=by
 refine ⟨λc=>⟨A0,?_⟩,λc=>?_⟩
 ·have c:s.p.up=false:=A8
  have he:s.p.MY=6:=AD c
  rw [TA]
  repeat (refine ⟨AJ,?_⟩)
  show _=_
  unfold gY;rw [JR A8];rw [he]
 ·have c:s.p.up=true:=A8
  have he:s.p.MY=0:=AE A8
  repeat (refine ⟨AJ,?_⟩)
  unfold gY;rw [he];rfl
def ahZ:DX prog AV 21 aB9.m:=Cs.sound (D:=aB9) (t:=vW) (gk fB) aoM Q9 ayL λs hE=>⟨avT s hE⟩
structure Nb where
 p:PK
 ev:EW
def UI (s:Nb):List LV:=[.own 16 0]
def Z6 (s:Nb):List AB:=[AO,AO,zB,AO,bV 73 Ad s.p.cs,bV 104 AP s.p.ls,bV 5 (.int aw) s.p.fl,bV 130 Am s.p.ra,bV 95 B3 s.p.st,bV 56 AP s.p.ca,bV 110 B7 s.p.mi,bV 98 BS s.p.me,bV 58 Ak s.p.dm,bV 106 BM s.p.lk,bV 3 A7 s.p.dr,bV 3 A7 s.p.tg,⟨[.os 4 11 0<|M s.p.cs,.xl .str s.p.os,.xl Ah s.p.ks,.xl Ae s.p.gs,.xl Ai s.p.bs,.v<|Y J s.p.tk,.v<|.bool s.p.up,.os 5 5 0<|M s.p.ls,.v<|Y J s.p.se,.os 6 1 0<|M s.p.fl,.os 7 2 0<|M s.p.ra,.v<|Y J s.p.nx,.os 8 4 0<|M s.p.st,.os 9 5 0<|M s.p.ca,.os 10 3 0<|M s.p.mi,.os 11 3 0<|M s.p.me,.os 12 4 0<|M s.p.dm,.os 13 6 0<|M s.p.lk,.os 14 1 0<|M s.p.dr,.os 15 1 0<|M s.p.tg,.v<|Y J s.ev.ek,.v<|Y J s.ev.en,.v<|Y J s.ev.em,.v<|Y J s.ev.c1,.v<|Y J s.ev.c2,.v<|Y J s.ev.c3,.v<|Y J s.ev.c4,.v<|Y J s.ev.c5,.v<|.bool s.ev.d1,.v<|Y J s.ev.d2,.v<|Y J s.ev.d3,.v<|Y J s.ev.d4,.v<|.slice aj 0 0],88,.cl,X⟩]
structure Xf where
 res:Int
 p:PK
 ev:EW
def abU (s:Xf):LV:=.v<|Y J s.res
def acC (s:Xf):List AB:=[AO,AO,zB,AO,bV 73 Ad s.p.cs,bV 104 AP s.p.ls,bV 5 (.int aw) s.p.fl,bV 130 Am s.p.ra,bV 95 B3 s.p.st,bV 56 AP s.p.ca,bV 110 B7 s.p.mi,bV 98 BS s.p.me,bV 58 Ak s.p.dm,bV 106 BM s.p.lk,bV 3 A7 s.p.dr,bV 3 A7 s.p.tg,⟨[.os 4 11 0<|M s.p.cs,.xl .str s.p.os,.xl Ah s.p.ks,.xl Ae s.p.gs,.xl Ai s.p.bs,.v<|Y J s.p.tk,.v<|.bool s.p.up,.os 5 5 0<|M s.p.ls,.v<|Y J s.p.se,.os 6 1 0<|M s.p.fl,.os 7 2 0<|M s.p.ra,.v<|Y J s.p.nx,.os 8 4 0<|M s.p.st,.os 9 5 0<|M s.p.ca,.os 10 3 0<|M s.p.mi,.os 11 3 0<|M s.p.me,.os 12 4 0<|M s.p.dm,.os 13 6 0<|M s.p.lk,.os 14 1 0<|M s.p.dr,.os 15 1 0<|M s.p.tg,.v<|Y J s.ev.ek,.v<|Y J s.ev.en,.v<|Y J s.ev.em,.v<|Y J s.ev.c1,.v<|Y J s.ev.c2,.v<|Y J s.ev.c3,.v<|Y J s.ev.c4,.v<|Y J s.ev.c5,.v<|.bool s.ev.d1,.v<|Y J s.ev.d2,.v<|Y J s.ev.d3,.v<|Y J s.ev.d4,.v<|.slice aj 0 0],88,.cl,X⟩]
def gH (s:Nb):T Xf:=letI a:=(CV s.p.gs s.p.st s.ev.en (6:Int) (1:Int) (0:Int));.br (!(inB s.ev.en (0:Int)<|AA<|(M s.p.gs:Int)-1)) (.pc s.p<|.ok<|⟨1,s.p,s.ev⟩)<|.pc s.p<|.req (uc (⟨s.ev.en,6,1,0,s.p,s.ev⟩:LO))<|.pa s.p<|.rl a<|.rl s.p.ca<|.rl s.p.mi<|.rl s.p.me<|.rl s.p.dm<|.rl s.p.lk<|.rl s.p.dr<|.rl s.p.tg<|.ok<|⟨sE (AG s.p.gs s.ev.en) (BG s.p.st s.ev.en) (6:Int) (1:Int) (0:Int),{s.p with st:=a},s.ev⟩
def aAw (s:Nb):Prop:=M s.p.st=M s.p.gs/\M s.p.gs<=1000
def gV (s:Nb):Xf:=⟨PK.PA s.p s.ev.en,{s.p with st:=if PK.isC s.p s.ev.en=U then CV s.p.gs s.p.st s.ev.en 6 1 0 else s.p.st},s.ev⟩
def aAi:Cs Nb Xf:=⟨UI,Z6,λv b=>⟨rF b,rG b⟩,aAw,[0,1,3],[],abU,acC,gV⟩
abbrev aiC (s:Nb):Prop:=aAw s/\UI s=UI s/\Z6 s=Z6 s
def I5:List Bd:=[Tj]
def eh:Ax:=Ht I5 (la 2 func43 K7<|la 9 func25 Cn<|l0 I5) [⟨42,aBB.m,ahb⟩]
def aTD:DE:=CT 43 18 2 (KS.lp)<|CT 25 0 9 (GZ.lp)<|Dl prog AV I5 20 2
def aoG:ED prog AV aTD:=D5 func43 rfl AT K7<|D5 func25 rfl AT Cn<|HW<|gk I5
def ayF (s:Nb):((EP prog AV I5 aTD eh).k 23 (UI s)<|Z6 s).bind (λq=>G2 (M<|Z6 s) [0] [] .normal (q.1::UI s) q.2)=(gH s).mp (λs2=>⟨.normal,M (UI s)+1,[abU s2],acC s2,U⟩):=AT
theorem aw3 (s:Nb) (hE:aAw s):(gH s).all (λq=>q=gV s):=by
 obtain ⟨h1,h2⟩:=hE;unfold gH;rw [dM h2];refine ⟨λc=>?_,λc=>?_⟩
 ·have c:s.p.isC s.ev.en=false:=Q1
  repeat (refine ⟨AJ,?_⟩)
  show _=_
  unfold gV PK.PA
  simp_all
 ·have c:s.p.isC s.ev.en=true:=Q1
  have ci:=Bf.1 c
  have ci2:s.ev.en<(M s.p.gs:Int):=A0
  repeat (refine ⟨AJ,?_⟩)
  refine ⟨⟨⟨ci.1,ci2,h1⟩,rfl,rfl⟩,?_⟩
  repeat (refine ⟨AJ,?_⟩)
  show _=_
  unfold gV PK.PA
  grind
def agA:DX prog AV 23 aAi.m:=Cs.sound (D:=aAi) (t:=gH) (gk I5) aoG eh.h ayF λs hE=>⟨aw3 s hE⟩
structure Ng where
 p:PK
 ev:EW
def UN (s:Ng):List LV:=[.own 16 0]
def ZB (s:Ng):List AB:=[AO,AO,zB,AO,bV 73 Ad s.p.cs,bV 104 AP s.p.ls,bV 5 (.int aw) s.p.fl,bV 130 Am s.p.ra,bV 95 B3 s.p.st,bV 56 AP s.p.ca,bV 110 B7 s.p.mi,bV 98 BS s.p.me,bV 58 Ak s.p.dm,bV 106 BM s.p.lk,bV 3 A7 s.p.dr,bV 3 A7 s.p.tg,⟨[.os 4 11 0<|M s.p.cs,.xl .str s.p.os,.xl Ah s.p.ks,.xl Ae s.p.gs,.xl Ai s.p.bs,.v<|Y J s.p.tk,.v<|.bool s.p.up,.os 5 5 0<|M s.p.ls,.v<|Y J s.p.se,.os 6 1 0<|M s.p.fl,.os 7 2 0<|M s.p.ra,.v<|Y J s.p.nx,.os 8 4 0<|M s.p.st,.os 9 5 0<|M s.p.ca,.os 10 3 0<|M s.p.mi,.os 11 3 0<|M s.p.me,.os 12 4 0<|M s.p.dm,.os 13 6 0<|M s.p.lk,.os 14 1 0<|M s.p.dr,.os 15 1 0<|M s.p.tg,.v<|Y J s.ev.ek,.v<|Y J s.ev.en,.v<|Y J s.ev.em,.v<|Y J s.ev.c1,.v<|Y J s.ev.c2,.v<|Y J s.ev.c3,.v<|Y J s.ev.c4,.v<|Y J s.ev.c5,.v<|.bool s.ev.d1,.v<|Y J s.ev.d2,.v<|Y J s.ev.d3,.v<|Y J s.ev.d4,.v<|.slice aj 0 0],88,.cl,X⟩]
structure XV where
 res:Int
 p:PK
 ev:EW
def ab7 (s:XV):LV:=.v<|Y J s.res
def acH (s:XV):List AB:=[AO,AO,zB,AO,bV 73 Ad s.p.cs,bV 104 AP s.p.ls,bV 5 (.int aw) s.p.fl,bV 130 Am s.p.ra,bV 95 B3 s.p.st,bV 56 AP s.p.ca,bV 110 B7 s.p.mi,bV 98 BS s.p.me,bV 58 Ak s.p.dm,bV 106 BM s.p.lk,bV 3 A7 s.p.dr,bV 3 A7 s.p.tg,⟨[.os 4 11 0<|M s.p.cs,.xl .str s.p.os,.xl Ah s.p.ks,.xl Ae s.p.gs,.xl Ai s.p.bs,.v<|Y J s.p.tk,.v<|.bool s.p.up,.os 5 5 0<|M s.p.ls,.v<|Y J s.p.se,.os 6 1 0<|M s.p.fl,.os 7 2 0<|M s.p.ra,.v<|Y J s.p.nx,.os 8 4 0<|M s.p.st,.os 9 5 0<|M s.p.ca,.os 10 3 0<|M s.p.mi,.os 11 3 0<|M s.p.me,.os 12 4 0<|M s.p.dm,.os 13 6 0<|M s.p.lk,.os 14 1 0<|M s.p.dr,.os 15 1 0<|M s.p.tg,.v<|Y J s.ev.ek,.v<|Y J s.ev.en,.v<|Y J s.ev.em,.v<|Y J s.ev.c1,.v<|Y J s.ev.c2,.v<|Y J s.ev.c3,.v<|Y J s.ev.c4,.v<|Y J s.ev.c5,.v<|.bool s.ev.d1,.v<|Y J s.ev.d2,.v<|Y J s.ev.d3,.v<|Y J s.ev.d4,.v<|.slice aj 0 0],88,.cl,X⟩]
def ff (s:Ng):T XV:=letI a:=(CV s.p.gs s.p.st s.ev.en (6:Int) (0:Int) (0:Int));letI b:=(CV s.p.gs a s.ev.en (2:Int) (0:Int) (0:Int));letI c:=(X,((0:Int),((0:Int),(9:Int))));letI d:=M s.p.ca;.br (!(inB s.ev.en (0:Int)<|AA<|(M s.p.gs:Int)-1)) (.pc s.p<|.ok<|⟨1,s.p,s.ev⟩)<|.ik s.ev.en d<|.br (!((s.p.ca.getD s.ev.en.toNat<|Ty.dflt AP).2.2.1 !=0)) (.pc s.p<|.ok<|⟨4,s.p,s.ev⟩)<|.pc s.p<|.req (uc (⟨s.ev.en,6,0,0,s.p,s.ev⟩:LO))<|.pa s.p<|.rl a<|.rl s.p.ca<|.rl s.p.mi<|.rl s.p.me<|.rl s.p.dm<|.rl s.p.lk<|.rl s.p.dr<|.rl s.p.tg<|.req (uc (⟨s.ev.en,2,0,0,{s.p with st:=a},s.ev⟩:LO))<|.ik s.ev.en d<|.ik s.ev.en (M s.p.mi)<|.ik s.ev.en (M s.p.dm)<|.pa s.p<|.rl b<|.re d (s.p.ca.set s.ev.en.toNat ((0:Int),((0:Int),((0:Int),((0:Int),(0:Int))))))<|.re (M s.p.mi) (s.p.mi.set s.ev.en.toNat (([]:List Int),((0:Int),(0:Int))))<|.rl s.p.me<|.re (M s.p.dm) (s.p.dm.set s.ev.en.toNat c)<|.rl s.p.lk<|.rl s.p.dr<|.rl s.p.tg<|.ok<|⟨0,{s.p with st:=b,ca:=s.p.ca.set s.ev.en.toNat ((0:Int),((0:Int),((0:Int),((0:Int),(0:Int))))),mi:=s.p.mi.set s.ev.en.toNat (([]:List Int),((0:Int),(0:Int))),dm:=s.p.dm.set s.ev.en.toNat c},s.ev⟩
def aB1 (s:Ng):Prop:=M s.p.st=M s.p.gs/\M s.p.gs<=1000/\M s.p.ca=M s.p.gs/\M s.p.mi=M s.p.gs/\M s.p.dm=M s.p.gs
def XM (s:Ng):XV:=⟨PK.JW s.p s.ev.en,JA (PK.JW s.p s.ev.en) (PK.Qd s.p s.ev.en) s.p,s.ev⟩
def aB8:Cs Ng XV:=⟨UN,ZB,λv b=>⟨rF b,rG b⟩,aB1,[0,1,3],[],ab7,acH,XM⟩
abbrev aiH (s:Ng):Prop:=aB1 s/\UN s=UN s/\ZB s=ZB s
def aTI:DE:=CT 43 18 2 (KS.lp)<|CT 25 0 9 (GZ.lp)<|Dl prog AV I5 20 2
def aoL:ED prog AV aTI:=D5 func43 rfl AT K7<|D5 func25 rfl AT Cn<|HW<|gk I5
def ayK (s:Ng):((EP prog AV I5 aTI eh).k 19 (UN s)<|ZB s).bind (λq=>G2 (M<|ZB s) [0] [] .normal (q.1::UN s) q.2)=(ff s).mp (λs2=>⟨.normal,M (UN s)+1,[ab7 s2],acH s2,U⟩):=AT
theorem avS (s:Ng) (hE:aB1 s):(ff s).all (λq=>q=XM s):=by
 obtain ⟨h1,h2,h3,h4,h5⟩:=hE;unfold ff;rw [dM h2];refine ⟨λc=>?_,λc=>?_⟩
 ·have c:s.p.isC s.ev.en=false:=Q1
  have he:s.p.JW s.ev.en=1:=AD c
  repeat (refine ⟨AJ,?_⟩)
  show _=_
  unfold XM;rw [JR MB];rw [he]
 ·have c:s.p.isC s.ev.en=true:=Q1
  have ci:=Bf.1 c
  have ci2:s.ev.en<(M s.p.gs:Int):=A0
  have hc:¬s.p.isC s.ev.en=false:=VH
  refine ⟨A0,A0,λc2=>?_,λc2=>?_⟩
  ·have c2:(Bb s.p.ca s.ev.en).2.2.1=0:=by simp only [Ct,bne_eq_false_iff_eq] at c2;exact c2
   have he:s.p.JW s.ev.en=4:=by unfold PK.JW;rw [AE hc,AD c2]
   repeat (refine ⟨AJ,?_⟩)
   show _=_
   unfold XM;rw [JR MB];rw [he]
  ·have c2:¬(Bb s.p.ca s.ev.en).2.2.1=0:=by simp only [Hv,EL] at c2;exact c2
   have he:s.p.JW s.ev.en=0:=by unfold PK.JW;rw [AE hc,AE c2]
   have hg:M (CV s.p.gs s.p.st s.ev.en 6 0 0)=M s.p.gs:=by rw [JO];exact h1
   repeat (refine ⟨AJ,?_⟩)
   refine ⟨⟨⟨ci.1,ci2,h1⟩,rfl,rfl⟩,?_⟩
   repeat (refine ⟨A0,?_⟩)
   refine ⟨⟨⟨ci.1,ci2,hg⟩,rfl,rfl⟩,?_⟩
   repeat (refine ⟨A8,?_⟩)
   show _=_
   unfold XM;rw [LH he];rw [he];rfl
def ahY:DX prog AV 19 aB8.m:=Cs.sound (D:=aB8) (t:=ff) (gk I5) aoL eh.h ayK λs hE=>⟨avS s hE⟩
structure Nf where
 p:PK
 ev:EW
def UM (s:Nf):List LV:=[.own 16 0]
def ZA (s:Nf):List AB:=[AO,AO,zB,AO,bV 73 Ad s.p.cs,bV 104 AP s.p.ls,bV 5 (.int aw) s.p.fl,bV 130 Am s.p.ra,bV 95 B3 s.p.st,bV 56 AP s.p.ca,bV 110 B7 s.p.mi,bV 98 BS s.p.me,bV 58 Ak s.p.dm,bV 106 BM s.p.lk,bV 3 A7 s.p.dr,bV 3 A7 s.p.tg,⟨[.os 4 11 0<|M s.p.cs,.xl .str s.p.os,.xl Ah s.p.ks,.xl Ae s.p.gs,.xl Ai s.p.bs,.v<|Y J s.p.tk,.v<|.bool s.p.up,.os 5 5 0<|M s.p.ls,.v<|Y J s.p.se,.os 6 1 0<|M s.p.fl,.os 7 2 0<|M s.p.ra,.v<|Y J s.p.nx,.os 8 4 0<|M s.p.st,.os 9 5 0<|M s.p.ca,.os 10 3 0<|M s.p.mi,.os 11 3 0<|M s.p.me,.os 12 4 0<|M s.p.dm,.os 13 6 0<|M s.p.lk,.os 14 1 0<|M s.p.dr,.os 15 1 0<|M s.p.tg,.v<|Y J s.ev.ek,.v<|Y J s.ev.en,.v<|Y J s.ev.em,.v<|Y J s.ev.c1,.v<|Y J s.ev.c2,.v<|Y J s.ev.c3,.v<|Y J s.ev.c4,.v<|Y J s.ev.c5,.v<|.bool s.ev.d1,.v<|Y J s.ev.d2,.v<|Y J s.ev.d3,.v<|Y J s.ev.d4,.v<|.slice aj 0 0],88,.cl,X⟩]
structure XU where
 res:Int
 p:PK
 ev:EW
def abY (s:XU):LV:=.v<|Y J s.res
def acG (s:XU):List AB:=[AO,AO,zB,AO,bV 73 Ad s.p.cs,bV 104 AP s.p.ls,bV 5 (.int aw) s.p.fl,bV 130 Am s.p.ra,bV 95 B3 s.p.st,bV 56 AP s.p.ca,bV 110 B7 s.p.mi,bV 98 BS s.p.me,bV 58 Ak s.p.dm,AO,bV 3 A7 s.p.dr,bV 3 A7 s.p.tg,⟨[.os 4 11 0<|M s.p.cs,.xl .str s.p.os,.xl Ah s.p.ks,.xl Ae s.p.gs,.xl Ai s.p.bs,.v<|Y J s.p.tk,.v<|.bool s.p.up,.os 5 5 0<|M s.p.ls,.v<|Y J s.p.se,.os 6 1 0<|M s.p.fl,.os 7 2 0<|M s.p.ra,.v<|Y J s.p.nx,.os 8 4 0<|M s.p.st,.os 9 5 0<|M s.p.ca,.os 10 3 0<|M s.p.mi,.os 11 3 0<|M s.p.me,.os 12 4 0<|M s.p.dm,.xl BM s.p.lk,.os 14 1 0<|M s.p.dr,.os 15 1 0<|M s.p.tg,.v<|Y J s.ev.ek,.v<|Y J s.ev.en,.v<|Y J s.ev.em,.v<|Y J s.ev.c1,.v<|Y J s.ev.c2,.v<|Y J s.ev.c3,.v<|Y J s.ev.c4,.v<|Y J s.ev.c5,.v<|.bool s.ev.d1,.v<|Y J s.ev.d2,.v<|Y J s.ev.d3,.v<|Y J s.ev.d4,.v<|.slice aj 0 0],88,.cl,X⟩]
def fe (s:Nf):T XU:=letI b:=((M s.p.lk:Nat):Int);letI a:=(adb (⟨b,0,s.p,s.ev,([]:List Lk)⟩:MX));.br (!(inB s.ev.en (0:Int)<|AA<|(M s.p.gs:Int)-1)) (.rz s.p.lk<|.pa s.p<|.rl s.p.st<|.rl s.p.ca<|.rl s.p.mi<|.rl s.p.me<|.rl s.p.dm<|.rl s.p.dr<|.rl s.p.tg<|.ok<|⟨1,{s.p with lk:=(s.p.lk.drop 0).take<|M s.p.lk},s.ev⟩)<|.r0 Lk<|.rl s.p.lk<|.pc s.p<|.req (KS.q (⟨b,0,s.p,s.ev,([]:List Lk)⟩:MX))<|.rz a.left<|.pa s.p<|.rl s.p.st<|.rl s.p.ca<|.rl s.p.mi<|.rl s.p.me<|.rl s.p.dm<|.rl s.p.dr<|.rl s.p.tg<|.ok<|⟨0,{s.p with lk:=(a.left.drop 0).take<|M a.left},s.ev⟩
def aB0 (s:Nf):Prop:=M s.p.gs<=1000/\M s.p.lk<=20000000
def gX (s:Nf):XU:=⟨PK.Ns s.p s.ev.en,JA (PK.Ns s.p s.ev.en) (PK.gT s.p s.ev.en) s.p,s.ev⟩
def aAm:Cs Nf XU:=⟨UM,ZA,λv b=>⟨rF b,rG b⟩,aB0,[0,1,3],[.pc 16 17 BM,.kb 13],abY,acG,gX⟩
abbrev aiG (s:Nf):Prop:=aB0 s/\UM s=UM s/\ZA s=ZA s
def aRJ:Ax:=kI I5<|la 2 func43 K7<|la 9 func25 Cn<|l0 I5
def aTH:DE:=CT 43 18 2 (KS.lp)<|CT 25 0 9 (GZ.lp)<|Dl prog AV I5 20 2
def aoK:ED prog AV aTH:=D5 func43 rfl AT K7<|D5 func25 rfl AT Cn<|HW<|gk I5
def ayJ (s:Nf):((EP prog AV I5 aTH aRJ).k 20 (UM s)<|ZA s).bind (λq=>G2 (M<|ZA s) [0] [.pc 16 17 BM,.kb 13] .normal (q.1::UM s) q.2)=(fe s).mp (λs2=>⟨.normal,M (UM s)+1,[abY s2],acG s2,U⟩):=AT
theorem avR (s:Nf) (hE:aB0 s):(fe s).all (λq=>q=gX s):=by
 obtain ⟨h1,h2⟩:=hE;unfold fe;rw [dM h1];refine ⟨λc=>⟨A0,?_⟩,λc=>?_⟩
 ·have c:s.p.isC s.ev.en=false:=Q1
  have he:s.p.Ns s.ev.en=1:=AD c
  rw [TA]
  repeat (refine ⟨AJ,?_⟩)
  show _=_
  unfold gX;rw [JR A8];rw [he]
 ·have c:s.p.isC s.ev.en=true:=Q1
  have he:s.p.Ns s.ev.en=0:=AE A8
  have hV:iv (⟨((M s.p.lk:Nat):Int),(0:Int),s.p,s.ev,([]:List Lk)⟩:MX):=⟨rfl,rfl,A8,A8⟩
  have q:=(arG _ hV).2
  rw [TA,q]
  repeat (refine ⟨AJ,?_⟩)
  refine ⟨⟨hV,rfl,rfl⟩,?_⟩
  repeat (refine ⟨AJ,?_⟩)
  unfold gX;rw [he];rfl
def ahX:DX prog AV 20 aAm.m:=Cs.sound (D:=aAm) (t:=fe) (gk I5) aoK aRJ.h ayJ λs hE=>⟨avR s hE⟩
open Go.RowKit Go.Extern.Stop Go.Stop Go.Extern Go Go.Sx
def ase (v:Value) (w:World):(Extern.ReflectliteType.typeOf #[.iface 52 v]).run prog w=.ok (.iface 345<|.agg #[.pointer<|ah ⟨3,52,aj⟩]) w:=AT
def aKG:Array Value->Sem Value:=Extern.ReflectliteType.method λt=>do Extern.Rtype.noPackHeld "Comparable" t;pure<|.bool (←typeInfo t).comparable
def aeK (w:World):(aKG #[.agg #[.pointer<|ah ⟨3,52,aj⟩]]).run prog w=.ok (.bool U) w:=AT
def asf (v:Value) (w:World):(Go.method 486 345 v "Comparable").run prog w=.ok (254,v) w:=AT
def alA (v:Value) (xT:TypeId) (w:World):(Instr.typeAssert (.iface 52 v) xT 347 U).run prog w=.ok (.tuple #[.nilIface,.bool X]) w:=wu Tryz.underlying347 AT AT v xT w
def afr (v:Value) (xT:TypeId) (w:World):(Instr.typeAssert (.iface 52 v) xT 350 U).run prog w=.ok (.tuple #[.nilIface,.bool X]) w:=wu Tryz.underlying350 AT AT v xT w
def aes (v:Value) (xT:TypeId) (w:World):(Instr.typeAssert (.iface 52 v) xT 352 U).run prog w=.ok (.tuple #[.nilIface,.bool X]) w:=wu Tryz.underlying352 AT AT v xT w
def afq (n m:Int) (w:World):Calls prog 220 #[.iface 52<|Y J n,.iface 52<|Y J m] w λe w'=>e=.returned (.bool<|n==m)/\w'=w:=by
 have hu:=Tryz.underlying338
 have h8:=@run_callFunc_extern prog 228 _ Extern.ReflectliteType.typeOf func228 AT AT AT AT
 have h32:=@run_callFunc_extern prog 254 _ aKG func254 AT AT AT AT
 have tT:=ase
 have cT:=aeK
 have mR:=asf
 have nE:=alA
 have uE:=afr
 have vE:=aes
 have heq:=Go.Lib.run_eql_iface_int (P:=prog) w (k:=J) n m hu (by kernel_rfl:(prog.info? 52).map (·.comparable)=ah U) (by kernel_rfl:prog.underlying 52=ah (.int J))
 by_cases e:n=m
 ·subst e
  simp only [OO] at heq|-;exact aLj
 ·have e':(n==m)=false:=yX
  simp only [e'] at heq|-;exact aLj
def acP:List LV->T LV
 | [.v (.iface 52 (Y J n)),.v (.iface 52 (Y J m))]=> .ok (.v<|.bool<|n==m)
 |_=> .no
theorem fq:VV 220 acP:=λargs vals w Z lv hz hg hok hr h=>by
 unfold acP at h;split at h
 ·rename_i n m
  subst h;simp only [RL,R] at hr
  have e2:vals=#[.iface 52<|Y J n,.iface 52<|Y J m]:=by
   grind
  rw [e2];refine (afq n m w).mono λe w' ⟨he,hw⟩=>?_
  subst hw;exact ⟨Below.refl _ _,_,he,ak,JJ⟩
 ·cases h
def aSa:List LV->T LV
 | [.agg [.v (Y J se),.xl (.int aw) fl]]=> .ok (HG se fl)
 |_=> .no
def eV:List Bd:=[]
def X7:=vo (S:=aSa) func129 eV kN (λargs lv h=>by
 unfold aSa at h;split at h
 ·rename_i se fl
  refine Ap (letI a:=(M fl:Int);.br (an<|se>=1) (.br (an<|se<=512) (.br (an<|a>=se) (.br (an<|a<=4096) (.req (se≠0)<|.ok<|.v<|.bool<|(a.tmod se)==0)<|.ok X)<|.ok X)<|.ok X)<|.ok X) ?_;obtain rfl:=h;unfold HG;refine ⟨λc1=>⟨λc2=>⟨λc3=>⟨λc4=>⟨?_,?_⟩,λc4=>?_⟩,λc3=>?_⟩,λc2=>?_⟩,λc1=>?_⟩
  ·grind
  all_goals refine B1 (λz=>LV.v<|.bool z) ?_
  all_goals first|(simp_all;done) |(simp_all;intros;omega) |(simp_all;omega)
 ·cases h)
def aST:List LV->T LV
 | [.agg [.v (Y J se),.xl (.int aw) fl]]=> .ok (FJ se fl)
 |_=> .no
def agq:List Bd:=[X7]
def uq:=vo (S:=aST) func90 agq kN (λargs lv h=>by
 unfold aST at h;split at h
 ·rename_i se fl
  refine Ap (.br (HG se fl) (.req (se≠0)<|.req ((2:Int)≠0)<|.ok<|.v<|.bool<|(((AA<|(M fl:Int).tdiv se).tmod 2)==0)&&(an<|(M fl:Int)>=32))<|.ok X) ?_;obtain rfl:=h;unfold FJ;refine ⟨λc1=>?_,λc1=>?_⟩
  ·have hv:=NJ.1 c1
   refine ⟨A0,Aa,?_⟩;refine B1 (λz=>LV.v<|.bool z) ?_
   rw [c1,AI (x:=(M fl:Int).tdiv se) (by rw [Hy A0];exact L0 Aa<|SZ A0 A0) (by rw [Hy A0];exact L0 (V2 _ A0) A0)]
   rfl
  ·refine B1 (λz=>LV.v<|.bool z) ?_
   rw [c1];rfl
 ·cases h)
def aSZ:List LV->T LV
 | [.v (Y ax n)]=> .ok (.xl (.int aw)<|Cq n)
 |_=> .no
def aiv:=vo (S:=aSZ) func195 eV kN (λargs lv h=>by
 unfold aSZ at h;split at h
 ·rename_i n
  refine Ap (.ok<|.xl (.int aw)<|[(IntKind.u8.wrap<|n.fdiv<|2^24),(IntKind.u8.wrap<|n.fdiv<|2^16),(IntKind.u8.wrap<|n.fdiv<|2^8),(IntKind.u8.wrap n)]) ?_;exact h
 ·cases h)
def aSK:List LV->T LV
 | [.xl (.int aw) b]=> .req (4<=M b) (.ok<|.v<|Y ax<|Gi b)
 |_=> .no
def uk:=vo (S:=aSK) func163 eV kN (λargs lv h=>by
 unfold aSK at h;split at h
 ·rename_i b
  refine Ap (letI a:=(M b:Int);.req (0<=(0:Int)/\0<a)<|.req (0<=(1:Int)/\1<a)<|.req (0<=(2:Int)/\2<a)<|.req (0<=(3:Int)/\3<a)<|.ok<|.v<|Y ax<|DM ax (DM ax (DM ax (IntKind.u32.wrap<|(IntKind.u32.wrap<|gi b (0:Int))*2^24)<|IntKind.u32.wrap<|(IntKind.u32.wrap<|gi b (1:Int))*2^16)<|IntKind.u32.wrap<|(IntKind.u32.wrap<|gi b (2:Int))*2^8)<|IntKind.u32.wrap<|gi b (3:Int)) ?_;obtain ⟨h0,rfl⟩:=h;exact ⟨⟨A0,A0⟩,⟨A0,A0⟩,⟨A0,A0⟩,⟨A0,A0⟩,rfl⟩
 ·cases h)
def aSz:List LV->T LV
 | [.agg [.v (Y J se),.xl (.int aw) fl],.v (Y J w)]=> .req ((w=0\/w=1)/\M fl<=4096) (.ok<|.xl (.int aw)<|Bn fl w)
 |_=> .no
def vb:=vo (S:=aSz) func162 eV kN (λargs lv h=>by
 unfold aSz at h;split at h
 ·rename_i se fl w
  refine Ap (letI a:=(AA<|(M fl:Int).tdiv 2);letI b:=AA<|(AA<|w+1)*a;letI c:=AA<|w*a;.req ((2:Int)≠0)<|.req (0<=c/\c<=b/\b<=(M fl:Int)/\b=b)<|.ok<|.xl (.int aw)<|(fl.drop c.toNat).take<|b.toNat-c.toNat) ?_;obtain ⟨⟨h0,h1⟩,rfl⟩:=h
  have e1:(M fl:Int).tdiv 2=((M fl / 2:Nat):Int):=AJ
  have e2:AA ((M fl / 2:Nat):Int)=((M fl / 2:Nat):Int):=AI
  rw [e1,e2];rcases h0 with rfl|rfl
  ·rw [Int.zero_mul,show (0:Int)+1=1 from rfl,show AA 0=0 from rfl,show AA 1=1 from rfl,Zc,e2]
   refine ⟨Aa,⟨A0,A0,A0,rfl⟩,?_⟩;refine B1 (LV.xl<|.int aw) ?_;rfl
  ·rw [Zc,show (1:Int)+1=2 from rfl,show AA 2=2 from rfl,e2,AI (x:=2*((M fl / 2:Nat):Int))]
   refine ⟨Aa,⟨A0,A0,A0,rfl⟩,?_⟩;refine B1 (LV.xl<|.int aw) ?_
   congr 1
   omega
 ·cases h)
def aS7:List LV->T LV
 | [.agg [.v (Y J se),.xl (.int aw) fl]]=> .req (FJ se fl=U) (.tu #[Ar fl,Hf fl])
 |_=> .no
def agp:List Bd:=[vb,uk]
def aaC := vo (S:=aS7) func161 agp kN (λargs lv h=>by
 unfold aS7 at h;split at h
 ·rename_i se fl
  refine Ap (letI d:=(Bn fl (0:Int));letI f:=(Bn fl (1:Int));letI b:=((f.drop (1:Int).toNat).take<|(5:Int).toNat-(1:Int).toNat);letI c:=((d.drop (1:Int).toNat).take<|(5:Int).toNat-(1:Int).toNat);.req (((0:Int)=0\/(0:Int)=1)/\M fl<=4096)<|.req (((1:Int)=0\/(1:Int)=1)/\M fl<=4096)<|.req (0<=(0:Int)/\0<(M d:Int))<|.req (0<=(0:Int)/\0<(M f:Int))<|.br (((gi d (0:Int))==80)&&((gi f (0:Int))==80)) (.req (0<=(1:Int)/\(1:Int)<=(5:Int)/\(5:Int)<=(M f:Int))<|.req (4<=M b)<|.req (0<=(1:Int)/\(1:Int)<=(5:Int)/\(5:Int)<=(M d:Int))<|.req (4<=M c)<|.br (an<|(Gi b)>(Gi c)) (.tu #[(1:Int),(0:Int)])<|.tu #[(0:Int),(0:Int)])<|.br ((gi d (0:Int))==80) (.tu #[(0:Int),(0:Int)])<|.br ((gi f (0:Int))==80) (.tu #[(1:Int),(0:Int)])<|.tu #[(0:Int),(4:Int)]) ?_;obtain ⟨h0,rfl⟩:=h;obtain ⟨_,_,h32,hl,_⟩:=ML.1 h0
  have l0:=cC fl 0
  have l1:=cC fl 1
  have fin:∀a e:Int,a=Ar fl->e=Hf fl->LV.v (.tuple #[Y J a,Y J e])=LV.v (.tuple #[Y J<|Ar fl,Y J<|Hf fl]):=λa e h1 h2=>yc
  have ew:∀w,Gi (((Bn fl w).drop (1:Int).toNat).take<|(5:Int).toNat-(1:Int).toNat)=Iy fl w:=λw=>rfl
  simp only [ew];refine ⟨?_,?_⟩
  ·first|exact ⟨Aa,hl⟩ |omega|decide|(refine ⟨?_,?_⟩<;>omega) |(simp only [M6,Eu];omega) |(refine ⟨Aa,Aa,?_⟩;omega)
  ·refine ⟨?_,?_⟩
   ·grind
   ·refine ⟨?_,?_⟩
    ·omega
    ·refine ⟨?_,?_⟩
     ·omega
     ·refine ⟨λc1=>?_,λc1=>?_⟩
      ·refine ⟨?_,?_⟩
       ·omega
       ·refine ⟨?_,?_⟩
        ·grind
        ·refine ⟨?_,?_⟩
         ·omega
         ·refine ⟨?_,?_⟩
          ·grind
          ·refine ⟨λc2=>?_,λc2=>?_⟩
           ·refine fin _ _ ?_ ?_<;>simp_all [Ar,Hf]
           ·refine fin _ _ ?_ ?_<;>simp_all [Ar,Hf]
      ·refine ⟨λc2=>?_,λc2=>?_⟩
       ·refine fin _ _ ?_ ?_<;>simp_all [Ar,Hf]
       ·refine ⟨λc3=>?_,λc3=>?_⟩
        ·refine fin _ _ ?_ ?_<;>simp_all [Ar,Hf]
        ·refine fin _ _ ?_ ?_<;>simp_all [Ar,Hf]
 ·cases h)
structure Mj where
 x:Int
 t8:List (List Int)
 (t9 t10:Int)
 l:List Int
 (n i:Int)
def aEr:=lN (bN f202 0) 0
def vS (s:Mj):T (Rd Mj):=
 .br (an<|s.i<s.n) (.ix s.i (M s.l)<|.nx {s with x:=IntKind.u32.wrap<|(aJn ax s.x<|IntKind.u32.wrap<|gi s.l s.i)*16777619,i:=AA<|s.i+1}) (.so (.exit 2) s)
def iy (s:Mj):Prop:=s.i=0/\s.n<=70000/\s.n=(M s.l:Int)
def jG (s:Mj):Prop:=0<=s.i/\s.i<=s.n/\s.n<=70000/\s.n=(M s.l:Int)
def sQ (s:Mj):Nat:=(s.n-s.i).toNat
def ach (x:Ex) (s s':Mj):Prop:=True
def aks:∀s,iy s->jG s:=by
 exact kc
theorem azn:Da jG sQ ach vS:=by
 intro s hI;obtain ⟨h0,h1,h2,h3⟩:=hI;refine AH (λc1=>?_) λc1=>?_
 ·have c1:s.i<s.n:=A8
  rw [AI (x:=s.i+1)];exact ⟨⟨A8,A8,h2,h3⟩,by simp only [sQ];omega⟩
 ·trivial
def RJ:AR Mj:=⟨0,28,[3,8,9,10,14,15,16],[],λs=>[.v<|Y ax s.x,.xl (.sl<|.int aw) s.t8,s.t9,s.t10,.xl (.int aw) s.l,s.n,s.i],λ_=>[],λv b=>⟨AK v 0,B4 (.sl<|.int aw) v 1,AK v 2,AK v 3,B4 (.int aw) v 4,AK v 5,AK v 6⟩,vS,λs r=> {s with x:=r.x,i:=r.i},λs=>s,λ_ s=>s,[.exit 2],iy,jG,sQ⟩
abbrev aGB:=RJ.run
abbrev atH:=RJ.Aq
def axd:Rq jG vS:=by
 intro s hI;refine ⟨λc1=>⟨?_,ak⟩,λ_=>trivial⟩
 ·(obtain ⟨h0,h1,h2,h3⟩:=hI;simp only [Ac] at c1;omega)
def eU:List Bd:=[]
def aQY:RJ.Ok:={}
def aOr:RJ.Pf (ach):=⟨aks,λs h=>rfl,azn,axd⟩
def apY:SA 0 aEr RJ:=s1 aQY aOr eU kN
theorem arP:Rs iy atH aGB (λs:Mj=>SL s.x<|s.l.drop s.i.toNat) (λx s' (v:Int)=>x=.exit 2/\s'.x=v):=DJ aQY aOr (λs hI=>by
  obtain ⟨h0,h1,h2,h3⟩:=hI;refine AH (λc1=>?_) λc1=>?_
  ·have c1:s.i<s.n:=A8
   rw [AI (x:=s.i+1)];rw [(gi_step h0 A0).1];rfl
  ·have c1:s.n<=s.i:=A8
   refine ⟨rfl,?_⟩;rw [Ef A0];rfl)
structure Mk where
 x:Int
 l:List (List Int)
 (n i:Int)
def pL:=bN f202 0
def vT (s:Mk):T (Rd Mk):=
 .br (an<|s.i<s.n) (.ix s.i (M s.l)<|.req (RJ.q (⟨s.x,s.l,s.n,s.i,gx (e:=.sl<|.int aw) s.l s.i,(M (gx (e:=.sl<|.int aw) s.l s.i):Int),0⟩:Mj))<|.nx {s with x:=(aGB (⟨s.x,s.l,s.n,s.i,gx (e:=.sl<|.int aw) s.l s.i,(M (gx (e:=.sl<|.int aw) s.l s.i):Int),0⟩:Mj)).x,i:=AA<|s.i+1}) (.so (.exit 0) s)
def Hj (l:List<|List Int):Prop:=∀p∈l,M p<=70000
def WJ {l:List<|List Int}(h:Hj l) {i:Int}(h0:0<=i) (h1:i<(M l:Int)):M (gx (e:=.sl<|.int aw) l i)<=70000:=by
 have:gx (e:=.sl<|.int aw) l i=l[i.toNat]' A0:=LJ A0
 rw [this];exact h _<|GD _
def iz (s:Mk):Prop:=s.i=0/\s.n<=1000/\s.n=(M s.l:Int)/\Hj s.l
def Xy (s:Mk):Prop:=0<=s.i/\s.i<=s.n/\s.n<=1000/\s.n=(M s.l:Int)/\Hj s.l
def sR (s:Mk):Nat:=(s.n-s.i).toNat
def aci (x:Ex) (s s':Mk):Prop:=True
def akt:∀s,iz s->Xy s:=by
 exact Zi
def aQg (s:Mk) (hI:Xy s) (c1:s.i<s.n):iy (⟨s.x,s.l,s.n,s.i,(gx (e:=.sl<|.int aw) s.l s.i),(M (gx (e:=.sl<|.int aw) s.l s.i):Int),(0:Int)⟩:Mj):=by
 obtain ⟨h0,h1,h2,h3,h4⟩:=hI
 have:=WJ h4 h0 A0
 refine ⟨rfl,?_,rfl⟩
 show (M (gx (e:=.sl<|.int aw) s.l s.i):Int)<=70000
 omega
theorem azo:Da Xy sR aci vT:=by
 intro s hI;obtain ⟨h0,h1,h2,h3,h4⟩:=hI;refine AH (λc1=>?_) λc1=>trivial
 have c1:s.i<s.n:=A8
 rw [AI (x:=s.i+1)];exact ⟨⟨A8,A8,h2,h3,h4⟩,by simp only [sR];omega⟩
def RK:AR Mk:=⟨0,28,[3,8,9,10],[],λs=>[.v<|Y ax s.x,.xl (.sl<|.int aw) s.l,s.n,s.i],λ_=>[],λv b=>⟨AK v 0,B4 (.sl<|.int aw) v 1,AK v 2,AK v 3⟩,vT,λs r=> {r with l:=s.l,n:=s.n},λs=>s,λ_ s=>s,[.exit 0],iz,Xy,sR⟩
abbrev aGC:=RK.run
abbrev atI:=RK.Aq
theorem axe:Rq Xy vT:=by
 intro s hI;refine ⟨λc1=>⟨?_,?_,ak⟩,λ_=>trivial⟩
 ·exact aMK
 ·exact ⟨aQg s hI A8,rfl,rfl⟩
def aQZ:RK.Ok:={}
def aOs:RK.Pf (aci):=⟨akt,λs h=>rfl,azo,axe⟩
def apZ:SA 0 pL RK:=AR.snd aQZ aOs (nL (Γ:=eU) (K:=Ff) (L:=(λi=>if i=6 then RJ.lp else Ag i)) (gk eU) kN.h pL (λb hb=>by
 rw [show BA _=[aEr] by kernel_rfl] at hb
 simp only [B8,Bu,Bt] at hb;subst hb;exact apY)) λs=>AT
def W9 {l:List<|List Int}{i:Int}(h0:0<=i) (h:i<(M l:Int)):l.drop i.toNat=gx (e:=.sl<|.int aw) l i::l.drop (i+1).toNat:=(QM h0 h).1
theorem arQ:Rs iz atI aGC (λs:Mk=>(s.l.drop s.i.toNat).foldl SL s.x) (λx s' (v:Int)=>x=.exit 0/\s'.x=v):=DJ aQZ aOs (λs hI=>by
  have hin:=λc1=>aQg s hI c1
  obtain ⟨h0,h1,h2,h3,h4⟩:=hI;refine AH (λc1=>?_) λc1=>?_
  ·have c1:s.i<s.n:=A8
   rw [AI (x:=s.i+1)]
   have hr:=(arP _<|hin c1).2
   rw [hr,W9 h0 A0];rfl
  ·have c1:s.n<=s.i:=A8
   refine ⟨rfl,?_⟩;rw [Ef A0];rfl)
def aSA:List LV->T LV
 | [.xl (.sl (.int aw)) ps]=> .req (M ps<=1000/\Hj ps) (.ok<|.v<|Y ax<|P9 ps)
 |_=> .no
def va:=vm (S:=aSA) func202 eU kN (L:=(λi=>if i=3 then RK.lp else Ag i)) (λb hb=>by
 rw [show BA _=[pL] by kernel_rfl] at hb
 simp only [B8,Bu,Bt] at hb;subst hb;exact apZ) (λargs lv h=>by
 unfold aSA at h;split at h
 ·rename_i ps
  refine Ap (.req (RK.q (⟨2166136261,ps,(M ps:Int),0⟩:Mk))<|.ok<|.v<|Y ax (aGC (⟨2166136261,ps,(M ps:Int),0⟩:Mk)).x) ?_;obtain ⟨⟨h0,h1⟩,rfl⟩:=h
  have hE:iz ⟨2166136261,ps,(M ps:Int),0⟩:=⟨rfl,AZ,rfl,h1⟩
  obtain ⟨q1,q2⟩:=arQ _ hE;refine ⟨⟨hE,rfl,rfl⟩,?_⟩;refine B1 (λz=>LV.v<|Y ax z) ?_
  exact q2
 ·cases h)
def ah0:List LV->T LV:=λ_=> .no
def aJi:VV 1000035 ah0:=by
 exact xb
def aSF:List LV->T LV
 | [.xl (.int aw) d]=> .req (M d<=70000) (.ok<|.xl (.int aw)<|Bw d)
 |_=> .no
def agn:List Bd:=[aiv,va,aJi]
def uj:=vo (S:=aSF) func188 agn kN (λargs lv h=>by
 unfold aSF at h;split at h
 ·rename_i d
  refine Ap (letI a:=(IntKind.u8.wrap<|(M d:Int).fdiv<|2^8);letI b:=(IntKind.u8.wrap (M d:Int));letI c:=(Cq<|P9<|[(([a,b]).drop 0).take 2,d]);.req (0+2<=M ([a,b]))<|.ra 1 (M<|[(80:Int)]) (1+M ((([a,b]).drop 0).take 2)) 1<|.req (0+2<=M ([a,b]))<|.req (M ([(([a,b]).drop 0).take 2,d])<=1000/\Hj ([(([a,b]).drop 0).take 2,d]))<|.ra (1+M ((([a,b]).drop 0).take 2)) (M<|([(80:Int)])++((([a,b]).drop 0).take 2)) (1+M ((([a,b]).drop 0).take 2)+M c) 1<|.ra (1+M ((([a,b]).drop 0).take 2)+M c) (M<|(([(80:Int)])++((([a,b]).drop 0).take 2))++c) (1+M ((([a,b]).drop 0).take 2)+M c+M d) 1<|.req (0+(1+M ((([a,b]).drop 0).take 2)+M c+M d)<=M (((([(80:Int)])++((([a,b]).drop 0).take 2))++c)++d))<|.ok<|.xl (.int aw)<|((((([(80:Int)])++((([a,b]).drop 0).take 2))++c)++d).drop 0).take<|1+M ((([a,b]).drop 0).take 2)+M c+M d) ?_;obtain ⟨h0,rfl⟩:=h
  have e:(([(IntKind.u8.wrap<|(M d:Int).fdiv<|2^8),(IntKind.u8.wrap (M d:Int))].drop 0).take 2)=Jv d:=rfl
  have e2:M (Jv d)=2:=rfl
  have e4:∀n,M (Cq n)=4:=λ_=>rfl
  simp only [e]
  have hk:Hj [Jv d,d]:=by
   intro p hp;simp only [B8,Bu,Bt] at hp;rcases hp with rfl|rfl
   ·rw [e2];omega
   ·exact h0
  iterate 7 refine ⟨A8,?_⟩
  refine B1 (LV.xl<|.int aw) ?_;rw [DS A8];rfl
 ·cases h)
def aEQ {b:List Int}:∀ {n m f:Nat},M b<=n+f->M b<=m+f->H7 b n f=H7 b m f
 |0,0,_,_,_=>rfl
 |0,m+1,f,h,_=>aMv
 |n+1,0,f,_,h=>aMv
 |n+1,m+1,f,h1,h2=>by
  simp only [H7];rw [aEQ (n:=n) (m:=m) (f:=f+7+Fo b f) A0 A0]
def J7 (b:List Int) (f:Nat):List (List Int)×Nat×Bool:=H7 b (M b) f
def WX (b:List Int) (f:Nat):J7 b f=if f<M b/\gi b (f:Int)=80 then (if rcG b f then (Gx b f::(J7 b<|f+7+Fo b f).1,(J7 b<|f+7+Fo b f).2) else ([],f,X)) else ([],f,U):=by
 unfold J7;rw [aEQ (n:=M b) (m:=M b+1) (f:=f) A0 A0];rfl
def yu:Array Tmp×Code×Code:=((Ii<|f117.body.getD .skip)[0]?).getD (#[],.skip,.skip)
def ajt:Array Tmp:=yu.1
def ajQ:Code:=yu.2.1
def ak1:Code:=yu.2.2
structure FY where
 (from_ HU:Int)
 HS:List Int
 (Oo OZ P0:Int)
 Of:Bool
 (b2 ct bU Dw:Int)
 cR:Bool
 b:List Int
 rs:List (List Int)
 st:LS
def lkS (s:FY):List Int:=((s.b.drop (AA<|s.from_+1).toNat).take<|(AA<|s.from_+3).toNat-(AA<|s.from_+1).toNat)
def EJ (s:FY):Int:=(AA<|(AA<|(AA<|s.from_+7)+(AA<|(AA<|gi (lkS s) (0:Int))*2^8))+(AA<|gi (lkS s) (1:Int)))
def lkP (s:FY):List (List Int):=([(s.b.drop (AA<|s.from_+1).toNat).take<|(AA<|s.from_+3).toNat-(AA<|s.from_+1).toNat,(s.b.drop (AA<|s.from_+7).toNat).take<|(EJ s).toNat-(AA<|s.from_+7).toNat])
def lkH (s:FY):List Int:=((s.b.drop (AA<|s.from_+3).toNat).take<|(AA<|s.from_+7).toNat-(AA<|s.from_+3).toNat)
def Kf (s:FY):List Int:=((s.b.drop (AA<|s.from_+7).toNat).take<|(EJ s).toNat-(AA<|s.from_+7).toNat)
def PZ (s:FY):T (Rd FY):=letI a:=(s.rs++([((([]:List Int)++([]:List Int)).drop 0).take<|0+M ([]:List Int)]));letI c:=(M s.rs+M ([((([]:List Int)++([]:List Int)).drop 0).take<|0+M ([]:List Int)]));letI d:=(s.rs++([((([]:List Int)++(Kf s)).drop 0).take<|0+M (Kf s)]));letI e:=(M s.b:Int);letI f:=(M<|[((([]:List Int)++([]:List Int)).drop 0).take<|0+M ([]:List Int)]);letI g:=(M s.rs+M ([((([]:List Int)++(Kf s)).drop 0).take<|0+M (Kf s)]));letI h:=AA<|s.from_+7;letI i:=(M ([]:List Int));letI j:=AA<|s.from_+3;letI k:=(P9<|lkP s)==(Gi<|lkH s);letI l:=(M (lkS s):Int);letI m:=M s.rs;.br (an<|s.from_<e) (.ix s.from_ (M s.b)<|.br ((gi s.b s.from_)==80) (.br (an<|h<=e) (.req (0<=(AA<|s.from_+1)/\(AA<|s.from_+1)<=j/\j<=e)<|.req (0<=(0:Int)/\0<l)<|.req (0<=(1:Int)/\1<l)<|.br (an<|(EJ s)<=e) (.req (0<=h/\h<=(EJ s)/\(EJ s)<=e/\(EJ s)=(EJ s))<|.req (0<=j/\j<=h/\h<=e)<|.req (M (lkP s)<=1000/\Hj (lkP s))<|.req (4<=M (lkH s))<|.br (! k) (.rl s.rs<|.so (.ret) {s with Oo:=(0:Int),OZ:=(0:Int),P0:=(0:Int),Of:=X,b2:=(11:Int),st:=.done<|.ret})<|.ra 0 i (0+M (Kf s)) 1<|.req (0+(0+M (Kf s))<=M (([]:List Int)++(Kf s)))<|.rb m (M<|[((([]:List Int)++(Kf s)).drop 0).take<|0+M (Kf s)]) 24<|.br (! k) (.re g d<|.so (.ret) {s with Dw:=EJ s,rs:=d})<|.re g d<|.nx {s with from_:=EJ s,Dw:=EJ s,rs:=d})<|.br (!X) (.rl s.rs<|.so (.ret) {s with Oo:=(0:Int),OZ:=(0:Int),P0:=(0:Int),Of:=X,b2:=(11:Int),st:=.done<|.ret})<|.ra 0 i (0+M ([]:List Int)) 1<|.req (0+(0+M ([]:List Int))<=M (([]:List Int)++([]:List Int)))<|.rb m f 24<|.br (!X) (.re c a<|.so (.ret) {s with Dw:=e,rs:=a})<|.re c a<|.nx {s with from_:=e,Dw:=e,rs:=a})<|.br (!X) (.rl s.rs<|.so (.ret) {s with Oo:=(0:Int),OZ:=(0:Int),P0:=(0:Int),Of:=X,b2:=(11:Int),st:=.done<|.ret})<|.ra 0 i (0+M ([]:List Int)) 1<|.req (0+(0+M ([]:List Int))<=M (([]:List Int)++([]:List Int)))<|.rb m f 24<|.br (!X) (.re c a<|.so (.ret) {s with Dw:=e,rs:=a})<|.re c a<|.nx {s with from_:=e,Dw:=e,rs:=a})<|.rl s.rs<|.so (.exit 0) s)<|.rl s.rs<|.so (.exit 0) s
def zg {b:List Int}(h:BH b) (i:Int):0<=gi b i/\gi b i<=255:=by
 unfold gi;rw [DQ];cases e:b[i.toNat]? with
 |none=>decide
 |some x=>exact h x<|OK e
theorem abp {b:List Int}{m n k:Nat}(h:k<n):gi ((b.drop m).take n) (k:Int)=gi b ((m+k:Nat):Int):=by
 unfold gi
 grind
def Lh (s:FY) (hb:BH s.b) (h0:0<=s.from_) (h7:s.from_+7<=(M s.b:Int)) (hl:M s.b<=4096):
  EJ s=s.from_+7+Fo s.b s.from_.toNat/\M (lkS s)=2/\lkH s=(s.b.drop<|s.from_.toNat+3).take 4/\Kf s=Gx s.b s.from_.toNat/\lkP s=[(s.b.drop<|s.from_.toNat+1).take 2,Gx s.b s.from_.toNat]:=by
 obtain ⟨f,hf⟩:=Pk h0
 have w1:AA (s.from_+1)=s.from_+1:=AI
 have w3:AA (s.from_+3)=s.from_+3:=AI
 have w7:AA (s.from_+7)=s.from_+7:=AI
 have t1:(s.from_+1).toNat=f+1:=A0
 have t3:(s.from_+3).toNat=f+3:=A0
 have t7:(s.from_+7).toNat=f+7:=A0
 have tf:s.from_.toNat=f:=A0
 have eS:lkS s=(s.b.drop<|f+1).take 2:=by
  unfold lkS;rw [w1,w3,t1,t3,show f+3-(f+1)=2 by omega]
 have b1:=zg hb ((f+1:Nat):Int)
 have b2:=zg hb ((f+2:Nat):Int)
 have g0:gi (lkS s) (0:Int)=gi s.b ((f+1:Nat):Int):=by rw [eS];exact abp (k:=0) Aa
 have g1:gi (lkS s) (1:Int)=gi s.b ((f+2:Nat):Int):=by rw [eS];exact abp (k:=1) Aa
 have hN:Fo s.b f=(gi s.b ((f+1:Nat):Int)).toNat*256+(gi s.b ((f+2:Nat):Int)).toNat:=rfl
 have eT:EJ s=s.from_+7+Fo s.b f:=by
  unfold EJ;rw [g0,g1,w7,AI (x:=gi s.b ((f+1:Nat):Int)),AI (x:=gi s.b ((f+1:Nat):Int)*2^8),AI (x:=gi s.b ((f+2:Nat):Int)),AI (x:=s.from_+7+gi s.b ((f+1:Nat):Int)*2^8),AI];omega
 have eD:(s.b.drop (AA<|s.from_+7).toNat).take ((EJ s).toNat-(AA<|s.from_+7).toNat)=Gx s.b f:=by
  unfold Gx;rw [eT,w7,t7,show (s.from_+7+(Fo s.b f:Int)).toNat-(f+7)=Fo s.b f by omega]
 rw [tf];refine ⟨eT,by rw [eS];simp only [M6,Eu];omega,?_,eD,?_⟩
 ·unfold lkH
  rw [w3,w7,t3,t7,show f+7-(f+3)=4 by omega]
 ·unfold lkP
  rw [eD,w1,w3,t1,t3,show f+3-(f+1)=2 by omega]
def aKD (s:FY) (hb:BH s.b) (h0:0<=s.from_) (h7:s.from_+7<=(M s.b:Int)) (hl:M s.b<=4096) (hT:EJ s<=(M s.b:Int)):rcG s.b s.from_.toNat=(P9 (lkP s)==Gi (lkH s)):=by
 obtain ⟨e1,e2,e3,e4,e5⟩:=Lh s hb h0 h7 hl;unfold rcG rcF;rw [e3,e5,DB (p:=s.from_.toNat+7<=M s.b) A0,DB (p:=s.from_.toNat+7+Fo s.b s.from_.toNat<=M s.b) A0];rfl
def aKE (s:FY) (h0:0<=s.from_) (hl:M s.b<=4096) (h:(M s.b:Int)<s.from_+7\/(M s.b:Int)<s.from_+7+Fo s.b s.from_.toNat):rcG s.b s.from_.toNat=false:=by
 unfold rcG rcF
 by_cases h1:s.from_.toNat+7<=M s.b
 ·rw [I1 (p:=s.from_.toNat+7+Fo s.b s.from_.toNat<=M s.b) A0,Sa]
  rfl
 ·rw [I1 (p:=s.from_.toNat+7<=M s.b) h1]
  rfl
theorem arH (fx:Ex->FY->FY) (hr:∀s',fx .ret s'={s' with st:=.done .ret}) (h0:∀s',fx (.exit 0) s'={s' with st:=.ready}) (s:FY) (h:s.st=.ready):DK (λ_=>True) (λx s'=>fx x s'=s') ((PZ s).rd s):=by
 obtain ⟨from_,HU,HS,Oo,OZ,P0,Of,b2,ct,bU,Dw,cR,b,rs,st⟩:=s;subst h;unfold PZ;dsimp only [T.rd,T.rl,T.rv];refine AH (λc1=>?_) λc1=>?_
 ·refine AH (λc2=>?_) (λc2=>?_)
  ·refine AH (λc3=>?_) (λc3=>?_)
   ·refine AH (λc4=>?_) (λc4=>?_)
    ·refine AH (λc5=>?_) (λc5=>?_)
     ·exact hr _
     ·refine AH (λc6=>?_) (λc6=>?_)
      ·grind
      ·trivial
    ·refine AH (λc5=>?_) (λc5=>?_)
     ·exact hr _
     ·refine AH (λc6=>?_) (λc6=>?_)
      ·grind
      ·grind
   ·refine AH (λc4=>?_) (λc4=>?_)
    ·exact hr _
    ·refine AH (λc5=>?_) (λc5=>?_)
     ·grind
     ·grind
  ·exact h0 _
 ·exact h0 _
def mV (s:FY):Prop:=s.st=.ready/\5<=s.from_/\s.from_<=(M s.b:Int)/\M s.b<=4096/\BH s.b/\s.Dw=s.from_/\(M s.rs:Int)<=s.from_
def mM (s:FY):Prop:=s.st=.ready/\5<=s.from_/\s.from_<=(M s.b:Int)/\M s.b<=4096/\BH s.b/\s.Dw=s.from_/\(M s.rs:Int)<=s.from_
def zS (s:FY):Nat:=((M s.b:Int)-s.from_).toNat
def aKR (x:Ex) (s s':FY):Prop:=True
def amb:∀s,mV s->mM s:=by
 exact λs h=>h
theorem akf:Da mM zS aKR PZ:=by
 intro s hI;unfold PZ;dsimp only [T.rd,T.rl,T.rv];refine AH (λc1=>?_) λc1=>?_
 ·refine AH (λc2=>?_) (λc2=>?_)
  ·refine AH (λc3=>?_) (λc3=>?_)
   ·refine AH (λc4=>?_) (λc4=>?_)
    ·refine AH (λc5=>?_) (λc5=>?_)
     ·trivial
     ·refine AH (λc6=>?_) (λc6=>?_)
      ·grind
      ·obtain ⟨ht,h5,hl,h4,hb,he,hr⟩:=hI
       have w7:AA (s.from_+7)=s.from_+7:=AI
       have c3:s.from_+7<=(M s.b:Int):=A8
       have c4:=DC c4
       obtain ⟨e1,e2,e3,e4,e5⟩:=Lh s hb A0 c3 h4;refine ⟨⟨ht,A8,c4,h4,hb,rfl,?_⟩,?_⟩
       ·grind
       ·simp only [zS];omega
    ·refine AH (λc5=>?_) (λc5=>?_)
     ·trivial
     ·refine AH (λc6=>?_) (λc6=>?_)
      ·grind
      ·grind
   ·refine AH (λc4=>?_) (λc4=>?_)
    ·trivial
    ·refine AH (λc5=>?_) (λc5=>?_)
     ·grind
     ·grind
  ·trivial
 ·trivial
def SH:AR FY:=⟨6,83,[0,1,3],[.nc 3 2 35<|.sl<|.int aw],λs=>[.CO 5,.own 4 0,s.from_],λs=>[⟨[s.HU,.xl (.int aw) s.HS],37,.cl,X⟩,⟨[s.Oo,.v<|Y ax s.OZ,.v<|.slice aj 0 0,s.P0,s.Of],237,.cl,X⟩,⟨[s.b2],52,.cl,X⟩,⟨[s.ct,.v<|Y ax s.bU,.os 6 1 0<|M s.rs,s.Dw,s.cR],237,.cl,X⟩,⟨[.xl (.int aw) s.b],35,.cl,X⟩,⟨[.junk,.junk,.own 1 0,.own 2 0,.junk,.junk,.junk,.own 3 0,.v<|.tuple #[],.junk,.junk,.junk,.junk,.junk,.junk,.junk,.junk,.junk,.junk,.junk,.junk,.junk,.junk,.junk,.junk,.junk,.junk,.junk,.junk,.junk,.junk,.junk,.junk,.junk,.v<|.tuple #[],.v<|.tuple #[],.v<|.tuple #[],.v<|.tuple #[],.v<|.tuple #[],.v<|.tuple #[],.v<|.tuple #[],.v<|.tuple #[],.v<|.tuple #[],.v<|.tuple #[],.v<|.tuple #[],.v<|.tuple #[],.v<|.tuple #[],.v<|.tuple #[],.v<|.tuple #[],.v<|.tuple #[],.v<|.tuple #[],.junk,.junk,.junk,.junk,.junk,.junk,.junk,.junk,.junk,.junk,.junk,.junk,.junk,.junk,.junk,.junk,.junk,.junk],0,.Cg ajt ajQ ak1 s.st,X⟩,⟨[],35,.vec (.sl<|.int aw) s.rs,X⟩],λv b=>⟨AK v 2,Aj b 0 0,AF (.int aw) b 0 1,Aj b 1 0,Aj b 1 1,Aj b 1 3,Kn b 1 4,Aj b 2 0,Aj b 3 0,Aj b 3 1,Aj b 3 3,Kn b 3 4,AF (.int aw) b 4 0,Ab (.sl<|.int aw) b 6,.ready⟩,PZ,λs r=> {r with HU:=s.HU,HS:=s.HS,ct:=s.ct,bU:=s.bU,cR:=s.cR,b:=s.b},λs=> {s with st:=.ready},λx s=> {s with st:=(match x with| .ret=>(.done<|.ret) | .exit 0=> .ready|_=> .ready)},[.ret,.exit 0],mV,mM,zS⟩
abbrev GL:=SH.run
abbrev aRn:=SH.Aq
def uL:List Bd:=[uq,aaC,vb,uk,va]
def aza:Ax:=kI uL<|l0 uL
theorem ajl:Rq mM PZ:=by
 intro s hI;refine ⟨λc1=>⟨?_,λc2=>⟨λc3=>⟨?_,?_,?_,λc4=>⟨?_,?_,?_,?_,λc5=>⟨A9,ak⟩,λc5=>⟨?_,?_,?_,λc6=>⟨?_,ak⟩,λc6=>⟨?_,ak⟩⟩⟩,λc4=>⟨λc7=>⟨A9,ak⟩,λc7=>⟨?_,?_,?_,λc8=>⟨?_,ak⟩,λc8=>⟨?_,ak⟩⟩⟩⟩,λc3=>⟨λc9=>⟨A9,ak⟩,λc9=>⟨?_,?_,?_,λc10=>⟨?_,ak⟩,λc10=>⟨?_,ak⟩⟩⟩⟩,λc2=>⟨A9,ak⟩⟩,λc1=>⟨A9,ak⟩⟩
 ·(obtain ⟨ht,h5,hl,h4,hb,he,hr⟩:=hI;have w7:AA (s.from_+7)=s.from_+7:=AI;have w1:AA (s.from_+1)=s.from_+1:=AI;have w3:AA (s.from_+3)=s.from_+3:=AI;simp only [Ac] at c1;omega)
 iterate 3 · (obtain ⟨ht,h5,hl,h4,hb,he,hr⟩:=hI;have w7:AA (s.from_+7)=s.from_+7:=AI;have w1:AA (s.from_+1)=s.from_+1:=AI;have w3:AA (s.from_+3)=s.from_+3:=AI;have k3:s.from_+7<=(M s.b:Int):=OW;obtain ⟨e1,e2,e3,e4,e5⟩:=Lh s hb A0 k3 h4;(first|omega|(rw [w1,w3];omega) |(rw [w3,w7];omega)))
 iterate 2 · (obtain ⟨ht,h5,hl,h4,hb,he,hr⟩:=hI;have w7:AA (s.from_+7)=s.from_+7:=AI;have w1:AA (s.from_+1)=s.from_+1:=AI;have w3:AA (s.from_+3)=s.from_+3:=AI;have k3:s.from_+7<=(M s.b:Int):=OW;obtain ⟨e1,e2,e3,e4,e5⟩:=Lh s hb A0 k3 h4;have k4:EJ s<=(M s.b:Int):=DC c4;have hD:M (Gx s.b s.from_.toNat)<=4096:=Zn;(first|omega|(rw [w1,w3];omega) |(rw [w3,w7];omega) |(rw [w7];exact ⟨A0,A0,k4,rfl⟩)))
 ·(obtain ⟨ht,h5,hl,h4,hb,he,hr⟩:=hI;have w7:AA (s.from_+7)=s.from_+7:=AI;have w1:AA (s.from_+1)=s.from_+1:=AI;have w3:AA (s.from_+3)=s.from_+3:=AI;have k3:s.from_+7<=(M s.b:Int):=OW;obtain ⟨e1,e2,e3,e4,e5⟩:=Lh s hb A0 k3 h4;have k4:EJ s<=(M s.b:Int):=DC c4;have hD:M (Gx s.b s.from_.toNat)<=4096:=Zn;rw [e5];refine ⟨AJ,λp hp=>?_⟩;simp only [B8,Bu,Bt] at hp;rcases hp with rfl|rfl;(first|(simp only [M6,Eu];omega) |omega);omega)
 ·(obtain ⟨ht,h5,hl,h4,hb,he,hr⟩:=hI;have w7:AA (s.from_+7)=s.from_+7:=AI;have w1:AA (s.from_+1)=s.from_+1:=AI;have w3:AA (s.from_+3)=s.from_+3:=AI;have k3:s.from_+7<=(M s.b:Int):=OW;obtain ⟨e1,e2,e3,e4,e5⟩:=Lh s hb A0 k3 h4;have k4:EJ s<=(M s.b:Int):=DC c4;have hD:M (Gx s.b s.from_.toNat)<=4096:=Zn;rw [e3];simp only [M6,Eu];omega)
 ·(obtain ⟨ht,h5,hl,h4,hb,he,hr⟩:=hI;have w7:AA (s.from_+7)=s.from_+7:=AI;have w1:AA (s.from_+1)=s.from_+1:=AI;have w3:AA (s.from_+3)=s.from_+3:=AI;have k3:s.from_+7<=(M s.b:Int):=OW;obtain ⟨e1,e2,e3,e4,e5⟩:=Lh s hb A0 k3 h4;have k4:EJ s<=(M s.b:Int):=DC c4;have hD:M (Gx s.b s.from_.toNat)<=4096:=Zn;rw [e4];simp only [BD,Bi,Bp,Ei];try omega)
 ·grind
 iterate 3 · (obtain ⟨ht,h5,hl,h4,hb,he,hr⟩:=hI;have w7:AA (s.from_+7)=s.from_+7:=AI;have w1:AA (s.from_+1)=s.from_+1:=AI;have w3:AA (s.from_+3)=s.from_+3:=AI;have k3:s.from_+7<=(M s.b:Int):=OW;obtain ⟨e1,e2,e3,e4,e5⟩:=Lh s hb A0 k3 h4;have k4:EJ s<=(M s.b:Int):=DC c4;have hD:M (Gx s.b s.from_.toNat)<=4096:=Zn;rw [e4];simp only [BD,Bi,Bp,Ei];try omega)
 iterate 5 · exact absurd c7 Aa
 iterate 5 · exact absurd c9 Aa
def aag:SH.Ok:=⟨λs=>AT,λs _=>arH SH.fx (λ_=>rfl) (λ_=>rfl) (SH.rd s) rfl,λs=>rfl,λs t r=>rfl,λs=>rfl,λs=>AT⟩
def aaQ:SH.Pf (aKR):=⟨amb,λs h=>by
 obtain ⟨from_,HU,HS,Oo,OZ,P0,Of,b2,ct,bU,Dw,cR,b,rs,st⟩:=s
 have e:=h.1
 subst e;rfl,akf,ajl⟩
def avh:=s2 (b:=bN f201 0) aag aaQ uL aza
theorem aze:Rs mV aRn GL (λs:FY=>(s.rs++(J7 s.b s.from_.toNat).1,(J7 s.b s.from_.toNat).2.1,(J7 s.b s.from_.toNat).2.2)) (λx s' (v:List (List Int)×Nat×Bool)=>(x=.exit 0/\s'.rs=v.1/\s'.Dw=(v.2.1:Int)/\v.2.2=U)\/(x=.ret/\v.2.2=X/\s'.b2=11/\s'.Oo=0/\s'.OZ=0/\s'.P0=0/\s'.Of=X)):=DJ aag aaQ (λs hI=>by
  show DK _ _ ((PZ s).rd s)
  unfold PZ;dsimp only [T.rd,T.rl];refine AH (λc1=>?_) λc1=>?_
  ·refine AH (λc2=>?_) (λc2=>?_)
   ·refine AH (λc3=>?_) (λc3=>?_)
    ·refine AH (λc4=>?_) (λc4=>?_)
     ·refine AH (λc5=>?_) (λc5=>?_)
      ·obtain ⟨ht,h5,hl,h4,hb,he,hr⟩:=hI
       have w7:AA (s.from_+7)=s.from_+7:=AI
       have hq:=WX s.b s.from_.toNat
       rw [CR A0] at hq;rw [AD ⟨lG,EA⟩] at hq
       have k3:s.from_+7<=(M s.b:Int):=OW
       obtain ⟨e1,e2,e3,e4,e5⟩:=Lh s hb A0 k3 h4
       have hg:=aKD s hb A0 k3 h4<|DC c4
       have hg:rcG s.b s.from_.toNat=false:=aNu
       exact xU
      ·refine AH (λc6=>?_) (λc6=>?_)
       ·exact absurd (c5.symm.trans c6) Aa
       ·obtain ⟨ht,h5,hl,h4,hb,he,hr⟩:=hI
        have w7:AA (s.from_+7)=s.from_+7:=AI
        have hq:=WX s.b s.from_.toNat
        rw [CR A0] at hq;rw [AD ⟨lG,EA⟩] at hq
        have k3:s.from_+7<=(M s.b:Int):=OW
        obtain ⟨e1,e2,e3,e4,e5⟩:=Lh s hb A0 k3 h4
        have hg:=aKD s hb A0 k3 h4<|DC c4
        have hg:rcG s.b s.from_.toNat=true:=aNu
        rw [AD hg] at hq
        have et:(EJ s).toNat=s.from_.toNat+7+Fo s.b s.from_.toNat:=A0
        have ed:((([]:List Int)++Kf s).drop 0).take (0+M (Kf s))=Gx s.b s.from_.toNat:=by
         rw [e4,E7,CP,EK];exact DS<|Av _
        show (s.rs++[_]++(J7 s.b (EJ s).toNat).1,(J7 s.b (EJ s).toNat).2.1,(J7 s.b (EJ s).toNat).2.2)=(s.rs++(J7 s.b s.from_.toNat).1,(J7 s.b s.from_.toNat).2.1,(J7 s.b s.from_.toNat).2.2)
        rw [ed,et,hq];simp only [Cm,L2,E7]
     ·refine AH (λc5=>?_) (λc5=>?_)
      ·obtain ⟨ht,h5,hl,h4,hb,he,hr⟩:=hI
       have w7:AA (s.from_+7)=s.from_+7:=AI
       have hq:=WX s.b s.from_.toNat
       rw [CR A0] at hq;rw [AD ⟨lG,EA⟩] at hq
       have k3:s.from_+7<=(M s.b:Int):=OW
       obtain ⟨e1,e2,e3,e4,e5⟩:=Lh s hb A0 k3 h4
       have hg:=aKE s A0 h4<|.inr (by have:=JE c4;omega)
       exact xU
      ·refine AH (λc6=>?_) (λc6=>?_)
       ·exact absurd c5 Aa
       ·exact absurd c5 Aa
    ·refine AH (λc4=>?_) (λc4=>?_)
     ·obtain ⟨ht,h5,hl,h4,hb,he,hr⟩:=hI
      have w7:AA (s.from_+7)=s.from_+7:=AI
      have hq:=WX s.b s.from_.toNat
      rw [CR A0] at hq;rw [AD ⟨lG,EA⟩] at hq
      have hg:=aKE s A0 h4<|.inl (by rw [w7] at c3;have:=JE c3;omega)
      exact xU
     ·refine AH (λc5=>?_) (λc5=>?_)
      ·exact absurd c4 Aa
      ·exact absurd c4 Aa
   ·obtain ⟨ht,h5,hl,h4,hb,he,hr⟩:=hI
    have hq:=WX s.b s.from_.toNat
    rw [CR A0] at hq;rw [AE A8] at hq;rw [hq];exact .inl ⟨rfl,(GB _).symm,AZ,rfl⟩
  ·obtain ⟨ht,h5,hl,h4,hb,he,hr⟩:=hI
   have hq:=WX s.b s.from_.toNat
   rw [CR A0] at hq;rw [AE A8] at hq;rw [hq];exact .inl ⟨rfl,(GB _).symm,AZ,rfl⟩)
structure Mw where
 l:List Int
 (n i qP aBj ug:Int)
 pP:Bool
 (b1 WZ Vf Tv:Int)
 Ig:Bool
 rs:List (List Int)
def aHa:=bN f117 0
def aBQ (s:Mw):T (Rd Mw):=
 .br (an<|s.i<s.n) (.ix s.i (M s.l)<|.br s.Ig (.rl s.rs<|.nx {s with i:=AA<|s.i+1,Ig:=((gi s.l s.i)==255)})<|.rl s.rs<|.nx {s with i:=AA<|s.i+1,Ig:=X}) (.rl s.rs<|.so (.exit 2) s)
def mX (s:Mw):Prop:=s.i=0/\s.n<=4096/\s.n=(M s.l:Int)
def mN (s:Mw):Prop:=0<=s.i/\s.i<=s.n/\s.n<=4096/\s.n=(M s.l:Int)
def ui (s:Mw):Nat:=(s.n-s.i).toNat
def aKS (x:Ex) (s s':Mw):Prop:=True
def amg:∀s,mX s->mN s:=by
 exact kc
theorem ako:Da mN ui aKS aBQ:=by
 intro s hI;obtain ⟨h0,h1,h2,h3⟩:=hI;refine AH (λc1=>?_) λc1=>?_
 ·refine AH (λc2=>?_) (λc2=>?_)
  ·exact aLk
  ·exact aLk
 ·trivial
def SI:AR Mw:=⟨0,69,[2,3,7,54,55,56],[],λs=>[.own 0 0,.own 1 0,.own 2 0,.xl (.int aw) s.l,s.n,s.i],λs=>[⟨[s.qP,.v<|Y ax s.aBj,.v<|.slice aj 0 0,s.ug,s.pP],237,.cl,X⟩,⟨[s.b1],52,.cl,X⟩,⟨[s.WZ,.v<|Y ax s.Vf,.os 3 1 0<|M s.rs,s.Tv,s.Ig],237,.cl,X⟩,⟨[],35,.vec (.sl<|.int aw) s.rs,X⟩],λv b=>⟨B4 (.int aw) v 3,AK v 4,AK v 5,Aj b 0 0,Aj b 0 1,Aj b 0 3,Kn b 0 4,Aj b 1 0,Aj b 2 0,Aj b 2 1,Aj b 2 3,Kn b 2 4,Ab (.sl<|.int aw) b 3⟩,aBQ,λs r=> {s with i:=r.i,Ig:=r.Ig},λs=>s,λ_ s=>s,[.exit 2],mX,mN,ui⟩
abbrev ry:=SI.run
abbrev agK:=SI.Aq
def ajn:Rq mN aBQ:=by
 exact aKm
def eR:List Bd:=[uq,aaC,vb,uk,va]
def aRP:Ax:=kI eR<|la 1 func201 avh<|l0 eR
def aai:SI.Ok:={}
def aaS:SI.Pf (aKS):=⟨amg,λs h=>rfl,ako,ajn⟩
def avi:SA 0 aHa SI:=s1 aai aaS eR aRP
theorem azl:Rs mX agK ry (λs:Mw=>s.Ig&&(s.l.drop s.i.toNat).all (λb=>b==255)) (λx s' (v:Bool)=>x=.exit 2/\s'.Ig=v):=DJ aai aaS (λs hI=>by
  obtain ⟨h0,h1,h2,h3⟩:=hI;refine AH (λc1=>AH (λc2=>?_) λc2=>?_) λc1=>?_
  ·have c1:s.i<s.n:=A8
   rw [AI (x:=s.i+1)]
   show (_&&_)=(_&&_)
   rw [(gi_step h0 A0).1,IN,c2,E9]
  ·have c1:s.i<s.n:=A8
   rw [c2];rfl
  ·have c1:s.n<=s.i:=A8
   refine ⟨rfl,?_⟩;rw [Ef A0];exact (kU _).symm)
def uO {b:List Int}:∀ {n f:Nat},f<=M b->(H7 b n f).2.1<=M b
 |0,_,h=>h
 | n+1,f,h=>by
  simp only [H7];split
  ·split
   ·rename_i hg
    unfold rcG rcF at hg;simp only [AY,Ac] at hg;exact uO (n:=n) hg.1.2
   ·exact h
  ·exact h
def ES (se:Int) (fl:List Int):Int:=if Bs se fl=0 then Ar fl else 0
def I9 (se:Int) (fl:List Int):Int:=if Bs se fl=0 then Iy fl (Ar fl) else 0
def Ek (se:Int) (fl:List Int):List (List Int):=if Bs se fl=0 then (Ed fl).1 else []
def Gv (se:Int) (fl:List Int):Int:=if Bs se fl=0 then ((Ed fl).2.1:Int) else 0
def Ka (se:Int) (fl:List Int):Bool:=if Bs se fl=0 then Lw fl else X
def aJS:List LV->T LV
 | [.agg [.v (Y J se),.xl (.int aw) fl]]=> .req (BH fl) (.ok<|.AM [.agg [ES se fl,.v<|Y ax<|I9 se fl,.xl (.sl<|.int aw)<|Ek se fl,Gv se fl,Ka se fl],Bs se fl])
 |_=> .no
def EM (se:Int) (fl:List Int):FY:=(⟨5,se,fl,0,0,0,X,0,Ar fl,Gi<|((Bn fl<|Ar fl).drop (1:Int).toNat).take<|(5:Int).toNat-(1:Int).toNat,5,U,Bn fl<|Ar fl,([]:List<|List Int),.ready⟩:FY)
def oM (se:Int) (fl:List Int):Mw:=(⟨((Bn fl<|Ar fl).drop (GL<|EM se fl).Dw.toNat).take<|(M (Bn fl<|Ar fl):Int).toNat-(GL<|EM se fl).Dw.toNat,(M (((Bn fl<|Ar fl).drop (GL<|EM se fl).Dw.toNat).take<|(M (Bn fl<|Ar fl):Int).toNat-(GL<|EM se fl).Dw.toNat):Int),0,(GL<|EM se fl).Oo,(GL<|EM se fl).OZ,(GL<|EM se fl).P0,(GL<|EM se fl).Of,(GL<|EM se fl).b2,Ar fl,Gi<|((Bn fl<|Ar fl).drop (1:Int).toNat).take<|(5:Int).toNat-(1:Int).toNat,(GL<|EM se fl).Dw,U,(GL<|EM se fl).rs⟩:Mw)
def dx:=vm (S:=aJS) func117 eR aRP (L:=(λi=>if i=15 then SI.lp else Ag i)) (λb hb=>by
 rw [show BA _=[aHa] by kernel_rfl] at hb
 simp only [B8,Bu,Bt] at hb;subst hb;exact avi) (λargs lv h=>by
 unfold aJS at h;split at h
 ·rename_i se fl
  refine Ap (letI d:=GL<|EM se fl;letI f:=(M (Bn fl<|Ar fl):Int);letI j:=(((Bn fl<|Ar fl).drop (1:Int).toNat).take<|(5:Int).toNat-(1:Int).toNat);letI k:=List Int;.br (!(FJ se fl)) (.ok<|.AM [.agg [(0:Int),.v<|Y ax 0,.xl (.sl<|.int aw) ([]:List k),(0:Int),X],(1:Int)])<|.req (FJ se fl=U)<|.br ((Hf fl) !=0) (.ok<|.AM [.agg [(0:Int),.v<|Y ax 0,.xl (.sl<|.int aw) ([]:List k),(0:Int),X],(Hf fl)])<|.req (((Ar fl)=0\/(Ar fl)=1)/\M fl<=4096)<|.req (0<=(1:Int)/\(1:Int)<=(5:Int)/\(5:Int)<=f)<|.req (4<=M j)<|.r0 k<|.req (SH.q<|EM se fl)<|.br (Bj (aRn<|EM se fl)<|.ret) (.ok<|.AM [.agg [d.Oo,.v<|Y ax d.OZ,.xl (.sl<|.int aw) ([]:List k),d.P0,d.Of],d.b2])<|.req (0<=d.Dw/\d.Dw<=f/\f<=f)<|.rl d.rs<|.req (SI.q<|oM se fl)<|.rz d.rs<|.ok<|.AM [.agg [(Ar fl),.v<|Y ax<|Gi j,.xl (.sl<|.int aw)<|(d.rs.drop 0).take<|M d.rs,d.Dw,(ry<|oM se fl).Ig],(0:Int)]) ?_;obtain ⟨hb,rfl⟩:=h
  have fin:∀(a g:Int) (r:List<|List Int) (n:Int) (c:Bool) (e:Int),a=ES se fl->g=I9 se fl->r=Ek se fl->n=Gv se fl->c=Ka se fl->e=Bs se fl->
   LV.AM [.agg [.v<|Y J a,.v<|Y ax g,.xl (.sl<|.int aw) r,.v<|Y J n,.v<|.bool c],.v<|Y J e]=LV.AM [.agg [.v<|Y J<|ES se fl,.v<|Y ax<|I9 se fl,.xl (.sl<|.int aw)<|Ek se fl,.v<|Y J<|Gv se fl,.v<|.bool<|Ka se fl],.v<|Y J<|Bs se fl]:=λa g r n c e h1 h2 h3 h4 h5 h6=>by rw [h1,h2,h3,h4,h5,h6]
  refine ⟨λc1=>?_,λc1=>⟨AX,λc2=>?_,λc2=>?_⟩⟩
  ·have c1:FJ se fl=false:=AX
   have hE:Bs se fl=1:=by unfold Bs;rw [AD c1]
   refine fin _ _ _ _ _ _ ?_ ?_ ?_ ?_ ?_ hE.symm<;>simp [ES,I9,Ek,Gv,Ka,hE]
  ·have c1:FJ se fl=true:=AX
   have c2:Hf fl≠0:=EA
   have hE:Bs se fl=Hf fl:=by unfold Bs;rw [AE Zz,AD c2]
   refine fin _ _ _ _ _ _ ?_ ?_ ?_ ?_ ?_ hE.symm<;>simp [ES,I9,Ek,Gv,Ka,hE,c2]
  have c1:FJ se fl=true:=AX
  have c2:Hf fl=0:=EA
  have hj:=ML.1 c1
  have hw:Ar fl=0\/Ar fl=1:=aNg
  have hl:=cC fl<|Ar fl
  have hab:BH (Bn fl<|Ar fl):=by
   intro x hx;unfold Bn at hx;split at hx
   ·exact hb x<|Uw hx
   ·exact hb x<|Pm<|Uw hx
  have hQ:Ed fl=J7 (Bn fl<|Ar fl) 5:=rfl
  have hE0:mV (EM se fl):=⟨rfl,by show (5:Int)<=5;decide,by show (5:Int)<=(M (Bn fl<|Ar fl):Int);omega,by show M (Bn fl<|Ar fl)<=4096;omega,hab,rfl,by show ((M ([]:List<|List Int):Nat):Int)<=5;decide⟩
  have hr:=aze _ hE0
  have hv:(EM se fl).rs=[]:=rfl
  have hf:(EM se fl).from_.toNat=5:=rfl
  have hB:(EM se fl).b=Bn fl (Ar fl):=rfl
  simp only [hv,hf,hB,E7,<-hQ] at hr;refine ⟨⟨hw,hj.2.2.2.1⟩,⟨Aa,Aa,A0⟩,by simp only [M6,Eu];omega,A9,⟨hE0,rfl,rfl⟩,λc3=>?_,λc3=>?_⟩
  ·have c3:=W7 c3
   rcases hr with ⟨q1,_⟩ |⟨q1,q2,q3,q4,q5,q6,q7⟩
   ·rw [c3] at q1;cases q1
   ·have hE:Bs se fl=11:=by unfold Bs;rw [AE Zz,AE aB,AE (by rw [q2];decide)]
    rw [q3,q4,q5,q6,q7];refine fin _ _ _ _ _ _ ?_ ?_ ?_ ?_ ?_ hE.symm<;>simp [ES,I9,Ek,Gv,Ka,hE]
  ·rcases hr with ⟨q1,q2,q3,q4⟩ |⟨q1,_⟩
   ·have hE:Bs se fl=0:=by unfold Bs;rw [AE Zz,AE aB,AD q4]
    have hn:(Ed fl).2.1<=M (Bn fl<|Ar fl):=uO A0
    have eL:((Bn fl<|Ar fl).drop (GL<|EM se fl).Dw.toNat).take ((M (Bn fl<|Ar fl):Int).toNat-(GL<|EM se fl).Dw.toNat)=(Bn fl<|Ar fl).drop (Ed fl).2.1:=by
     rw [q3,C3,C3];exact DS yk
    have hC:mX (oM se fl):=⟨rfl,by
     show (M (((Bn fl<|Ar fl).drop (GL<|EM se fl).Dw.toNat).take<|(M (Bn fl<|Ar fl):Int).toNat-(GL<|EM se fl).Dw.toNat):Int)<=4096
     rw [eL,Eu];omega,rfl⟩
    have hr2:(ry<|oM se fl).Ig=(U&&((((Bn fl<|Ar fl).drop (GL<|EM se fl).Dw.toNat).take<|(M (Bn fl<|Ar fl):Int).toNat-(GL<|EM se fl).Dw.toNat).drop 0).all (λb=>b==255)):=(azl _ hC).2
    rw [eL,CP,E9] at hr2;refine ⟨⟨by rw [q3];omega,by rw [q3];omega,Dg _⟩,A9,⟨hC,rfl,rfl⟩,A0,?_⟩
    refine fin _ _ _ _ _ _ ?_ ?_ ?_ ?_ ?_ hE.symm
    ·unfold ES;rw [AD hE]
    ·unfold I9 Iy;rw [AD hE];rfl
    ·unfold Ek;rw [AD hE,CP,DS<|Av _];exact q2
    ·unfold Gv;rw [AD hE];exact q3
    ·unfold Ka;rw [AD hE];exact hr2
   ·exfalso;rw [q1] at c3;simp [Bj] at c3
 ·cases h)
end Go.Proofs.YtpfblnbippcdjaaGreatDoor
namespace Go.Sx
open Go Go.RowKit Go.Proofs.YtpfblnbippcdjaaGreatDoor
variable {P : Program} {G : Az} {Γ : Specs} {K : Hand} {L : LM} {Z0 : Gz} {w0 : World}
abbrev Uu:=Nat->Option (List Nat×List Up)
def X5 (P:Program) (G:Az) (Γ:Specs) (K:Hand) (L:Qh) (cs:Uu):Code->List LV->List AB->T (Ex×List LV×List AB)
 | .seq a b,F,H=>(X5 P G Γ K L cs a F H).bind λq=>match q.1 with
  | .normal=>match cs (GP b) with
   |some (live,us)=>(G2 0 live us .normal q.2.1 q.2.2).bind λv=>if v.low then X5 P G Γ K L cs b (HV (M q.2.1) live v.vals) v.J0 else .no
   |none=>X5 P G Γ K L cs b q.2.1 q.2.2
  |x=> .ok (x,q.2)
 |c,F,H=>D7 P G Γ K L c F H
def aeP {L:Qh}{cs:Uu}(hΓ:∀g S,Γ g=ah S->Valid P G g S) (hK:F5 P G K) (c:Code) (hl:∀b∈BA c,GR P G (AN 0) (.loop b)<|L b):GR P G (AN 0) c (X5 P G Γ K L cs c):=by
 induction c with
 | seq c1 c2 ih1 ih2=>
  intro r w0 Z0 Z β F H a w ds Q x F' H' hA hr hD hW hF h hQ;obtain ⟨⟨y,F1,H1⟩,h1,h2⟩:=T.B2 h;obtain ⟨hr1,hr2⟩:=qN (show r=aj\/(He c1&&He c2)=U from hr);refine wpIn_seq<|ih1 (λb hb=>hl b Sl) r w0 Z0 Z β F H a w ds _ y F1 H1 hA hr1 hD hW hF h1 λds' Z' β' a' w' e0 e1 e2=>?_
  cases y with
  | normal=>
   simp only at h2;split at h2
   ·rename_i live us hcs
    obtain ⟨v,h3,h4⟩:=T.B2 h2;split at h4
    ·rename_i hlow
     obtain ⟨_,_,Z2,β2,e3,e4⟩:=bp hA e1 e2 h3 hlow;exact ih2 (λb hb=>hl b Sl) r w0 Z0 Z2 β2 _ _ a' w' ds' Q x F' H' hA hr2 e0 e3 e4 h4 hQ
    ·cases h4
   ·exact ih2 (λb hb=>hl b Sl) r w0 Z0 Z' β' F1 H1 a' w' ds' Q x F' H' hA hr2 e0 e1 e2 h2 hQ
  |exit m=>
   obtain ⟨rfl,rfl,rfl⟩:=h2;exact hQ ds' Z' β' a' w' e0 e1 e2
  |ret=>
   obtain ⟨rfl,rfl,rfl⟩:=h2;exact hQ ds' Z' β' a' w' e0 e1 e2
 |_=>exact GJ hΓ hK _ hl
def iA (P:Program) (G:Az) (Γ:Specs) (K:Hand) (L:LM) (cs:Uu) (fn:Func) (args:List LV):T LV:=
 (match fn.body with
 |some c=>wH P fn (X5 P G Γ K (Ll L) cs c) args
 |none=> .no).bind λx=> .ok<|canX<|upR P fn.resultTypes.toList x
def aCo {f:FuncId}{fn:Func}{c:Code}{S:List LV->T LV}{cs:Uu}(hfn:P.funcs[f]? =ah fn) (hc:fn.body=ah c) (hΓ:∀g S,Γ g=ah S->Valid P G g S) (hK:F5 P G K)
  (hL:∀b∈BA c,Sound P G (.loop b)<|L<|GP b) (hS:∀args lv,(S args).all (λx=>x=lv)->(iA P G Γ K L cs fn<|canL args).all (λx=>x=lv)):Valid P G f (Ju P fn.params.toList S):=
 aEC (aCp hfn hc<|aeP (L:=Ll L) (cs:=cs) hΓ hK c hL) (λargs lv h=>by have:=hS args lv h;unfold iA at this;simpa only [hc] using this)
def T.aBT {α:Type}:T α->T α
 | .br b t e=> .br b t.red e.red
 | .req p t=> .req p (T.aBT t)
 |t=>t
def T.aFT {α:Type}{K:α->Prop}:∀ {t:T α},t.aBT.all K->t.all K
 | .ok _,h=>h
 | .br _ _ _,h=>⟨λhb=>T.WC<|h.1 hb,λhb=>T.WC<|h.2 hb⟩
 | .req _ _,h=>⟨h.1,T.aFT h.2⟩
 | .no,h=>h
end Go.Sx
namespace Go.Proofs.YtpfblnbippcdjaaGreatDoor
set_option maxRecDepth 100000
set_option maxHeartbeats 4000000
open Go.Proofs.Tryz
open Go.Sx
def aSg:List LV->T LV
 | [.v (.agg ⟨[Y J x1,Y J x2,Y J x3,Y J x4,Y J x5]⟩)]=> .ok (.xl (.int aw)<|Ay (x1,x2,x3,x4,x5))
 |_=> .no
def W2:=bN f150 0
def LI:List Bd:=[]
def aot:Sound prog AV (.loop W2) (Iu prog AV LI Ff 20 2 W2):=So (gk LI) kN.h 20 2 W2
def ayv (x1 x2 x3 x4 x5:Int):letI a:=(((((((((((((aq (0:Int).toNat (0:Int))++([IntKind.u8.wrap<|x1.fdiv<|2^(24)]))++([IntKind.u8.wrap<|x1.fdiv<|2^(16)]))++([IntKind.u8.wrap<|x1.fdiv<|2^(8)]))++([IntKind.u8.wrap<|x1.fdiv<|2^(0)]))++([IntKind.u8.wrap<|x2.fdiv<|2^(0)]))++([IntKind.u8.wrap<|x3.fdiv<|2^(0)]))++([IntKind.u8.wrap<|x4.fdiv<|2^(24)]))++([IntKind.u8.wrap<|x4.fdiv<|2^(16)]))++([IntKind.u8.wrap<|x4.fdiv<|2^(8)]))++([IntKind.u8.wrap<|x4.fdiv<|2^(0)]))++([IntKind.u8.wrap<|x5.fdiv<|2^(8)]))++([IntKind.u8.wrap<|x5.fdiv<|2^(0)]));(Bk prog AV LI kN (λi=>if i=4 then (Iu prog AV LI Ff 20 2 W2) else Ag i) f150 [.v<|.agg #[x1,x2,x3,x4,x5]]).red=.req (0<=(0:Int)/\(0:Int)<=(12:Int)/\1*(12:Int)<=2^48/\(12:Int)<2^63) (.req (0<=(24:Int))<|.ra 0 0 1 1<|.req (0<=(16:Int))<|.ra 1 1 2 1<|.req (0<=(8:Int))<|.ra 2 2 3 1<|.req (0<=(0:Int))<|.ra 3 3 4 1<|.req (0<=(0:Int))<|.ra 4 4 5 1<|.req (0<=(0:Int))<|.ra 5 5 6 1<|.req (0<=(24:Int))<|.ra 6 6 7 1<|.req (0<=(16:Int))<|.ra 7 7 8 1<|.req (0<=(8:Int))<|.ra 8 8 9 1<|.req (0<=(0:Int))<|.ra 9 9 10 1<|.req (0<=(8:Int))<|.ra 10 10 11 1<|.req (0<=(0:Int))<|.ra 11 11 12 1<|.req (0+12<=M a)<|.ok<|.xl (.int aw)<|(a.drop 0).take 12):=AT
def aTq:=vm (S:=aSg) func150 LI kN (L:=(λi=>if i=4 then (Iu prog AV LI Ff 20 2 W2) else Ag i)) (λb hb=>by
 rw [show BA _=[W2] by kernel_rfl] at hb
 simp only [B8,Bu,Bt] at hb;subst hb;exact aot) (λargs lv h=>by
 refine ⟨?_⟩;unfold aSg at h;split at h
 ·simp only [canL,canX]
  refine @T.WC _ _ _ ?_;rw [ayv];obtain rfl:=h
  iterate 25 refine ⟨Aa,?_⟩
  refine ⟨Av _,?_⟩;simp only [T.all,Int.pow_zero,Int.fdiv_one];rfl
 ·cases h)
def Kt (d:List Int):Le:=if M d=12 then G4 d else (0,0,0,0,0)
def aSe:List LV->T LV
 | [.xl (.int aw) d]=> .req (BH d) (.tu #[.agg #[(Kt d).1,(Kt d).2.1,(Kt d).2.2.1,(Kt d).2.2.2.1,(Kt d).2.2.2.2],an<|M d=12])
 |_=> .no
def W1:=bN f78 0
def aos:Sound prog AV (.loop W1) (Iu prog AV LI Ff 20 2 W1):=So (gk LI) kN.h 20 2 W1
def ayu (d:List Int):letI a:=(M d:Int);letI b:=AA<|0*2^8;(Bk prog AV LI kN (λi=>if i=6 then (Iu prog AV LI Ff 20 2 W1) else Ag i) f78 [.xl (.int aw) d]).aBT=.br (a !=12) (.tu #[.agg #[(0:Int),(0:Int),(0:Int),(0:Int),(0:Int)],X]) (.req (0<=(0:Int)/\0<a)<|.req (0<=(1:Int)/\1<a)<|.req (0<=(2:Int)/\2<a)<|.req (0<=(3:Int)/\3<a)<|.req (0<=(4:Int)/\4<a)<|.req (0<=(5:Int)/\5<a)<|.req (0<=(6:Int)/\6<a)<|.req (0<=(7:Int)/\7<a)<|.req (0<=(8:Int)/\8<a)<|.req (0<=(9:Int)/\9<a)<|.req (0<=(10:Int)/\10<a)<|.req (0<=(11:Int)/\11<a)<|.tu #[.agg #[DM J (AA<|(DM J (AA<|(DM J (AA<|(DM J b<|AA<|gi d (0:Int))*2^8)<|AA<|gi d (1:Int))*2^8)<|AA<|gi d (2:Int))*2^8)<|AA<|gi d (3:Int),DM J b<|AA<|gi d (4:Int),DM J b<|AA<|gi d (5:Int),DM J (AA<|(DM J (AA<|(DM J (AA<|(DM J b<|AA<|gi d (6:Int))*2^8)<|AA<|gi d (7:Int))*2^8)<|AA<|gi d (8:Int))*2^8)<|AA<|gi d (9:Int),DM J (AA<|(DM J b<|AA<|gi d (10:Int))*2^8)<|AA<|gi d (11:Int)],U]):=AT
def o8 {a b:Int}(h0:0<=a) (h1:a<1099511627776) (hb:0<=b/\b<=255):DM J (AA<|a*2^8) (AA b)=a*256+b:=by
 rw [AI (x:=a*2^8),AI (x:=b)];obtain ⟨a,rfl⟩:=Pk h0;obtain ⟨b,rfl⟩:=Pk hb.1
 have e:∀n:Nat,n<4611686018427387904->(BitVec.ofInt (IntKind.bits J) (n:Int)).toNat=n:=λn hn=>by
  show (BitVec.ofInt 64 (n:Int)).toNat=n
  rw [BitVec.toNat_ofInt];omega
 unfold DM;rw [show (a:Int)*2^8=((a*2^8:Nat):Int) by omega,BitVec.toNat_or,e _ A0,e _ A0,fG A0]
 show AA _=_
 rw [AI];omega
def zv {w:Int}(hw:0<=w/\w<=255):DM J (AA<|0*2^8) (AA w)=w:=by
 rw [o8 A0 A0 hw];omega
def abR {z w:Int}(hz:0<=z/\z<=255) (hw:0<=w/\w<=255):DM J (AA<|DM J (AA<|0*2^8) (AA z)*2^8) (AA w)=z*256+w:=by
 rw [zv hz,o8 A0 A0 hw]
def abQ {x y z w:Int}(hx:0<=x/\x<=255) (hy:0<=y/\y<=255) (hz:0<=z/\z<=255) (hw:0<=w/\w<=255):
  DM J (AA<|DM J (AA<|DM J (AA<|DM J (AA<|0*2^8) (AA x)*2^8) (AA y)*2^8) (AA z)*2^8) (AA w)=x*16777216+y*65536+z*256+w:=by
 rw [abR hx hy,o8 A0 A0 hz,o8 A0 A0 hw];omega
def aht:=vm (S:=aSe) func78 LI kN (L:=(λi=>if i=6 then (Iu prog AV LI Ff 20 2 W1) else Ag i)) (λb hb=>by
 rw [show BA _=[W1] by kernel_rfl] at hb
 simp only [B8,Bu,Bt] at hb;subst hb;exact aos) (λargs lv h=>by
 refine ⟨?_⟩;unfold aSe at h;split at h
 ·simp only [canL,canX]
  refine @T.aFT _ _ _ ?_;rw [ayu];rename_i d;obtain ⟨hb,rfl⟩:=h;refine ⟨λc=>?_,λc=>?_⟩
  ·have hl:¬(M d)=12:=VM
   unfold Kt;rw [AE hl,I1 hl];rfl
  have hl:M d=12:=VM
  iterate 12 refine ⟨⟨Aa,A0⟩,?_⟩
  have b:=λi=>zg hb i
  unfold Kt;rw [AD hl,DB hl,abQ (b 0) (b 1) (b 2)<|b 3,zv<|b 4,zv<|b 5,abQ (b 6) (b 7) (b 8)<|b 9,abR (b 10)<|b 11];rfl
 ·cases h)
def aSS:List LV->T LV
 | [.agg [.v (Y J se),.xl (.int aw) fl]]=> .req (BH fl) (.ok<|.AM [.xl (.sl<|.int aw)<|Ek se fl,Bs se fl])
 |_=> .no
def agm:List Bd:=[dx]
def ais:=vo (S:=aSS) func77 agm kN (λargs lv h=>by
 unfold aSS at h;split at h
 ·rename_i se fl
  refine Ap (.req (BH fl)<|.br ((Bs se fl) !=0) (.ok<|.AM [.xl (.sl<|.int aw) ([]:List<|List Int),(Bs se fl)])<|.ok<|.AM [.xl (.sl<|.int aw)<|Ek se fl,(0:Int)]) ?_;obtain ⟨h0,rfl⟩:=h;refine ⟨h0,λc=>?_,λc=>?_⟩
  ·have c:Bs se fl≠0:=A8
   unfold Ek;rw [AE c];rfl
  ·have c:Bs se fl=0:=A8
   rw [c];rfl
 ·cases h)
theorem aaL {b:List Int}:∀(n f:Nat),M (H7 b n f).1<=n
 |0,_=>Av _
 | n+1,f=>by
  simp only [H7];split
  ·split
   ·have:=aaL (b:=b) n (f+7+Fo b f)
    grind
   ·grind
  ·grind
def aQo {b:List Int}(h:BH b):∀(n f:Nat),∀d∈(H7 b n f).1,BH d
 |0,_,d,hd=>VN
 | n+1,f,d,hd=>by
  simp only [H7] at hd;split at hd
  ·split at hd
   ·rcases B8.1 hd with rfl|hd
    ·exact λx hx=>h x<|Pm<|Uw hx
    ·exact aQo h n _ d hd
   ·cases hd
  ·cases hd
theorem azf {se:Int}{fl:List Int}(h:BH fl) (hl:M fl<=4096):M (Ek se fl)<=4096/\∀d∈Ek se fl,BH d:=by
 unfold Ek;split
 ·have ha:=cC fl (Ar fl)
  refine ⟨?_,aQo (λx hx=>?_) _ _⟩
  ·have:=aaL (b:=Bn fl<|Ar fl) (M<|Bn fl<|Ar fl) 5
   unfold Ed;omega
  ·unfold Bn at hx
   split at hx
   ·exact h x<|Uw hx
   ·exact h x<|Pm<|Uw hx
 ·grind
theorem akB {l:List<|List Int}(h:∀d∈l,BH d) {i:Int}(h0:0<=i) (h1:i<(M l:Int)):BH (gx (e:=.sl<|.int aw) l i):=by
 grind
structure Nu where
 e:Int
 l:List (List Int)
 (n i:Int)
 out:List Le
def aEx:=bN f45 0
def vg (s:Nu):T (Rd Nu):=
 .br (an<|s.i<s.n) (.ix s.i (M s.l)<|.req (BH<|gx (e:=.sl<|.int aw) s.l s.i)<|.br (!(an<|M (gx (e:=.sl<|.int aw) s.l s.i)=12)) (.rl s.out<|.so (.ret) {s with e:=(9:Int)})<|.rb (M s.out) (M<|[Kt<|gx (e:=.sl<|.int aw) s.l s.i]) 40<|.re (M s.out+M ([Kt<|gx (e:=.sl<|.int aw) s.l s.i])) (s.out++([Kt<|gx (e:=.sl<|.int aw) s.l s.i]))<|.nx {s with i:=AA<|s.i+1,out:=s.out++([Kt<|gx (e:=.sl<|.int aw) s.l s.i])}) (.rl s.out<|.so (.exit 0) s)
def jS (s:Nu):Prop:=s.i=0/\s.n<=5000/\s.n=(M s.l:Int)/\(∀d∈s.l,BH d)/\(M s.out:Int)<=s.i
def j4 (s:Nu):Prop:=0<=s.i/\s.i<=s.n/\s.n<=5000/\s.n=(M s.l:Int)/\(∀d∈s.l,BH d)/\(M s.out:Int)<=s.i
def qy (s:Nu):Nat:=(s.n-s.i).toNat
def acR (x:Ex) (s s':Nu):Prop:=True
def aiB:∀s,jS s->j4 s:=by
 exact Zi
theorem auz:Da j4 qy acR vg:=by
 intro s hI;obtain ⟨h0,h1,h2,h3,h4,h5⟩:=hI;refine AH (λc1=>AH (λc2=>trivial) λc2=>?_) λc1=>trivial
 ·have c1:s.i<s.n:=A8
  rw [AI (x:=s.i+1)];exact ⟨⟨A8,A8,h2,h3,h4,A8⟩,by simp only [qy];omega⟩
def Rk:AR Nu:=⟨0,50,[2,3,6,28,29,30],[.nl 6 104 AP],λs=>[.v<|.slice aj 0 0,s.e,.os 0 5 0<|M s.out,.xl (.sl<|.int aw) s.l,s.n,s.i],λs=>[bV 104 AP s.out],λv b=>⟨AK v 1,B4 (.sl<|.int aw) v 3,AK v 4,AK v 5,Ab AP b 0⟩,vg,λs r=> {r with l:=s.l,n:=s.n},λs=>s,λ_ s=>s,[.ret,.exit 0],jS,j4,qy⟩
abbrev mr:=Rk.run
abbrev dS:=Rk.Aq
theorem awx:Rq j4 vg:=by
 intro s hI;refine ⟨λc1=>⟨?_,?_,λc2=>⟨A9,ak⟩,λc2=>⟨?_,?_,ak⟩⟩,λc1=>⟨A9,ak⟩⟩
 all_goals ((obtain ⟨h0,h1,h2,h3,h4,h5⟩:=hI;have c1:s.i<s.n:=A8;have hb:=akB h4 h0 A0;(first|exact hb|omega|(simp only [Bi,Bp];omega) |(simp only [BD,Bi,Bp,Ei]))))
def aR8:List Bd:=[ais,aht,WO]
def aPX:Rk.Ok:={}
def aP6:Rk.Pf (acR):=⟨aiB,λs h=>rfl,auz,awx⟩
def aoX:SA 0 aEx Rk:=s1 aPX aP6 aR8 kN
theorem ap1:Rs jS dS mr (λs:Nu=>(s.out++(s.l.drop s.i.toNat).map G4,ldB<|s.l.drop s.i.toNat)) (λx s' (v:List Le×Bool)=>(x=.ret/\s'.e=9/\v.2=X)\/(x=.exit 0/\v=(s'.out,U))):=DJ aPX aP6 (λs hI=>by
  obtain ⟨h0,h1,h2,h3,h4,h5⟩:=hI;refine AH (λc1=>AH (λc2=>?_) λc2=>?_) λc1=>?_
  ·have c1:s.i<s.n:=A8
   refine .inl ⟨rfl,rfl,?_⟩;simp only [W9 h0 (show s.i<(M s.l:Int) by omega),ldB,IN,wy,CQ]
   grind
  ·have c1:s.i<s.n:=A8
   have c2:M (gx (e:=.sl<|.int aw) s.l s.i)=12:=A8
   have hz:Kt (gx (e:=.sl<|.int aw) s.l s.i)=G4 (gx (e:=.sl<|.int aw) s.l s.i):=AD c2
   rw [AI (x:=s.i+1),hz]
   show (_++[_]++_,_)=(_++_,_)
   rw [W9 h0 A0];simp only [E8,Cm,L2,E7,ldB,IN,c2,OO,E9]
  ·have c1:s.n<=s.i:=A8
   refine .inr ⟨rfl,?_⟩;rw [Ef A0]
   simp [ldB])
def aSj:List LV->T LV
 | [.agg [.v (Y J se),.xl (.int aw) fl]]=> .req (BH fl) (.ok<|.AM [BQ se fl,CX se fl])
 |_=> .no
def Q6 (se:Int) (fl:List Int):Nu:=(⟨0,Ek se fl,(M (Ek se fl):Int),0,([]:List Le)⟩:Nu)
def uu:=vm (S:=aSj) func45 aR8 kN (L:=(λi=>if i=8 then Rk.lp else Ag i)) (λb hb=>by
 rw [show BA _=[aEx] by kernel_rfl] at hb
 simp only [B8,Bu,Bt] at hb;subst hb;exact aoX) (λargs lv h=>by
 unfold aSj at h;split at h
 ·rename_i se fl
  refine Ap (letI a:=mr<|Q6 se fl;letI b:=(a.out.drop 0).take<|M a.out;.br ((se !=512) ||((M fl:Int) !=2048)) (.ok<|.AM [.xl AP ([]:List Le),(1:Int)])<|.req (BH fl)<|.br ((Bs se fl) !=0) (.ok<|.AM [.xl AP ([]:List Le),(Bs se fl)])<|.r0 Le<|.req (Rk.q<|Q6 se fl)<|.br (Bj (dS<|Q6 se fl)<|.ret) (.ok<|.AM [.xl AP ([]:List Le),a.e])<|.rz a.out<|.br (!(BL b)) (.ok<|.AM [.xl AP ([]:List Le),(9:Int)])<|.rz a.out<|.ok<|.AM [b,(0:Int)]) ?_;obtain ⟨hb,rfl⟩:=h
  have bad:∀e:Int,e≠0->CX se fl=e->LV.AM [.xl AP ([]:List Le),.v<|Y J e]=LV.AM [.xl AP<|BQ se fl,.v<|Y J<|CX se fl]:=λe h0 h1=>by unfold BQ;rw [h1,AE h0]
  refine ⟨λc1=>bad 1 Aa (by unfold CX;exact AD c1),λc1=>⟨hb,λc2=>?_,λc2=>?_⟩⟩
  all_goals have h0:¬((!(se==512) || !((M fl:Int)==2048))=U):=A8
  ·have c2:Bs se fl≠0:=EA
   exact bad _ c2 (by unfold CX;rw [AE h0,AD c2])
  have hk:Bs se fl=0:=EA
  have hl:M fl=2048:=by simp at h0;omega
  have hR:Ek se fl=(Ed fl).1:=AD hk
  obtain ⟨n1,n2⟩:=azf (se:=se) hb A0
  have hV:jS (Q6 se fl):=⟨rfl,by show (M (Ek se fl):Int)<=5000;omega,rfl,n2,yC⟩
  have q:(dS (Q6 se fl)=.ret/\(mr<|Q6 se fl).e=9/\ldB (Ek se fl)=X)\/(dS (Q6 se fl)=.exit 0/\((Ek se fl).map G4,ldB<|Ek se fl)=((mr<|Q6 se fl).out,U)):=ap1 _ hV
  have hk':¬Bs se fl≠0:=λh=>h hk
  refine ⟨A9,⟨hV,rfl,rfl⟩,λc3=>?_,λc3=>?_⟩
  ·rcases q with ⟨_,q2,q3⟩ |⟨q1,_⟩
   ·rw [q2]
    exact bad 9 Aa (by unfold CX;rw [AE h0,AE hk',<-hR,AE (by rw [q3];decide)])
   ·rw [W7 c3] at q1;cases q1
  rcases q with ⟨q1,_⟩ |⟨_,q2⟩
  ·rw [q1] at c3;simp [Bj] at c3
  simp only [Aw] at q2;rw [<-q2.1,CP,E6];refine ⟨A0,λc4=>?_,λc4=>⟨A0,?_⟩⟩
  ·exact bad 9 Aa (by unfold CX;rw [AE h0,AE hk',<-hR,AD q2.2,AE yj])
  ·have hE:CX se fl=0:=by unfold CX;rw [AE h0,AE hk',<-hR,AD q2.2,AD yj]
   unfold BQ;rw [hE,AD rfl,hR];rfl
 ·cases h)
theorem zR {se:Int}{fl:List Int}(h:CX se fl=0):BL (BQ se fl)=true:=by
 unfold BQ;rw [AD h];unfold CX at h;split at h
 ·cases h
 ·split at h
  ·grind
  ·split at h
   ·split at h
    ·assumption
    ·cases h
   ·cases h
def aSh:List LV->T LV
 | [.agg [.v (Y J se),.xl (.int aw) fl]]=> .req (BH fl) (.tu #[nwA se fl,Js se fl])
 |_=> .no
def agl:List Bd:=[uu]
def ahu:=vo (S:=aSh) func47 agl kN (λargs lv h=>by
 unfold aSh at h;split at h
 ·rename_i se fl
  refine Ap (letI b:=(M (BQ se fl):Int);letI c:=At (BQ se fl)<|AA<|b-1;.req (BH fl)<|.br ((CX se fl) !=0) (.tu #[(0:Int),(CX se fl)])<|.br (b==0) (.tu #[(1:Int),(0:Int)])<|.ix (AA<|b-1) (M<|BQ se fl)<|.br (c.1==1000000) (.tu #[(0:Int),(10:Int)])<|.tu #[(AA<|c.1+1),(0:Int)]) ?_;obtain ⟨hb,rfl⟩:=h
  have fin:∀a e:Int,a=nwA se fl->e=Js se fl->LV.v (.tuple #[Y J a,Y J e])=LV.v (.tuple #[Y J<|nwA se fl,Y J<|Js se fl]):=λa e h1 h2=>yc
  refine ⟨hb,λc1=>?_,λc1=>⟨λc2=>?_,λc2=>?_⟩⟩
  ·have c1:CX se fl≠0:=AX
   refine fin _ _ ?_ ?_<;>simp [nwA,Js,c1]
  all_goals have c1:CX se fl=0:=AX
  ·have c2:M (BQ se fl)=0:=A8
   refine fin _ _ ?_ ?_<;>simp [nwA,Js,c1,c2]
  ·have c2:¬(M<|BQ se fl)=0:=A8
   have hv:=Ij<|zR c1
   have hw:AA ((M (BQ se fl):Int)-1)=(M (BQ se fl):Int)-1:=AI
   have hn:=QL.1<|hv.2 _<|On (l:=BQ se fl) (i:=(M (BQ se fl):Int)-1) A0 A0
   rw [hw];refine ⟨⟨A0,A0⟩,λc3=>?_,λc3=>?_⟩
   ·refine fin _ _ ?_ ?_<;>simp at c3<;>simp [nwA,Js,c1,c2,c3]
   ·rw [AI]
    refine fin _ _ ?_ ?_<;>simp at c3<;>simp [nwA,Js,c1,c2,c3]
 ·cases h)
def aId:List LV->T LV
 | [.v (Y J n),.v (Y J a),.v (Y J b)]=> .ok (inB n a b)
 |_=> .no
def alX:List Bd:=[]
def aJl:=vo (S:=aId) func102 alX kN (λargs lv h=>by
 unfold aId at h;split at h
 ·rename_i n a b
  refine Ap (.ok<|.v<|.bool<|(an<|n>=a)&&(an<|n<=b)) ?_;exact h
 ·cases h)
def aSy:List LV->T LV
 | [.v (.agg ⟨[Y J k,Y J ph,Y J mx,Y J nd,Y J dl]⟩)]=> .ok (GA (k,ph,mx,nd,dl))
 |_=> .no
def zi:List Bd:=[aJl]
def aTe:=vo (S:=aSy) func75 zi kN (λargs lv h=>by
 unfold aSy at h;split at h
 ·rename_i k ph mx nd dl
  refine Ap (.ok<|.v<|.bool<|(inB k (0:Int) (4:Int))&&((inB ph (1:Int) (7:Int))&&((inB mx (1:Int) (80:Int))&&((inB nd (0:Int) (1000000000:Int))&&((inB dl (0:Int) (20:Int))&&((k !=3) ||(an<|dl>=1))))))) ?_;exact h
 ·cases h)
structure Ln where
 r:Bool
 l:List Int
 (n i:Int)
def aHV:=bN f101 0
def aBM (s:Ln):T (Rd Ln):=
 .br (an<|s.i<s.n) (.ix s.i (M s.l)<|.br (!(inB (gi s.l s.i) (0:Int) (80:Int))) (.so (.ret) {s with r:=X})<|.nx {s with i:=AA<|s.i+1}) (.so (.exit 0) s)
def SC (s:Ln) (j:Int):Bool:=inB (gi s.l j) 0 80
def mP (s:Ln):Prop:=s.i=0/\0<=s.n/\s.n<=1000/\s.n=(M s.l:Int)
def bH (s:Ln):Prop:=0<=s.i/\s.i<=s.n/\s.n<=1000/\(s.n=(M s.l:Int))/\∀j:Nat,(j:Int)<s.i->SC s j=U
def zZ (s:Ln):Nat:=(s.n-s.i).toNat
def wJ (x:Ex) (s s':Ln):Prop:=(x=.exit 0/\∀j:Nat,(j:Int)<s'.n->SC s' j=U)\/(x=.ret/\s'.r=X/\∃j:Nat,(j:Int)<s'.n/\SC s' j=X)
def amB:∀s,mP s->bH s:=by
 exact JH
theorem aiA:Da bH zZ wJ aBM:=by
 intro s hI;obtain ⟨h0,h1,h2,h3,h4⟩:=hI;refine AH (λc1=>AH (λc2=>?_) λc2=>?_) λc1=>?_
 ·have c1:s.i<s.n:=AX
  refine .inr ⟨rfl,rfl,s.i.toNat,A8,?_⟩
  have hg:SC s s.i=false:=by unfold SC;simp_all
  exact hg
 ·have c1:s.i<s.n:=AX
  have hg:SC s s.i=true:=by unfold SC;simp_all
  rw [AI (x:=s.i+1)];refine ⟨⟨A8,A8,h2,h3,λj hj=>?_⟩,by simp only [zZ];omega⟩
  exact L3
 ·exact Sg
def SE:AR Ln:=⟨0,32,[2,22,23,24],[],λs=>[s.r,.xl A7 s.l,s.n,s.i],λ_=>[],λv b=>⟨E4 v 0,B4 A7 v 1,AK v 2,AK v 3⟩,aBM,λs r=> {r with l:=s.l,n:=s.n},λs=>s,λ_ s=>s,[.ret,.exit 0],mP,bH,zZ⟩
abbrev aOD:=SE.run
abbrev aRj:=SE.Aq
def aiQ:Rq bH aBM:=by
 exact Sc
def aaY:SE.Ok:={}
def ab3:SE.Pf (wJ):=⟨amB,λs h=>rfl,aiA,aiQ⟩
def avb:SA 0 aHV SE:=s1 aaY ab3 zi kN
def auy:Fi mP bH wJ aRj aOD:=AR.fin aaY ab3
def aSi:List LV->T LV
 | [.agg [.xl (.int J) pil,.v (Y J tk),.v (Y J got)]]=> .ok (Hr (pil,tk,got))
 |_=> .no
def ahv:=vm (S:=aSi) func101 zi kN (L:=(λi=>if i=4 then SE.lp else Ag i)) (λb hb=>by
 rw [show BA _=[aHV] by kernel_rfl] at hb
 simp only [B8,Bu,Bt] at hb;subst hb;exact avb) (λargs lv h=>by
 unfold aSi at h;split at h
 ·rename_i pil tk got
  refine Ap (letI a:=(M pil:Int);.br ((an<|a>21) ||((!(inB tk (0:Int) (1000000:Int))) ||(!(inB got (0:Int) (2000000000:Int))))) (.ok X)<|.req (SE.q (⟨X,pil,a,0⟩:Ln))<|.br (Bj (aRj (⟨X,pil,a,0⟩:Ln))<|.ret) (.ok (aOD (⟨X,pil,a,0⟩:Ln)).r)<|.ok U) ?_;obtain rfl:=h;refine ⟨λc1=>B1 (λz=>LV.v<|.bool z) ?_,λc1=>?_⟩
  ·rw [Sf,Hw]
   intro hm
   have:=ck.1 hm
   simp [inB] at c1
   simp only at this;omega
  ·have hE:mP ⟨X,pil,(M pil:Int),0⟩:=by simp [inB] at c1;exact ⟨rfl,AJ,A8,rfl⟩
   obtain ⟨s',hI,hq⟩:=auy _ hE
   have hm:Hr (pil,tk,got)=pil.all (λp=>inB p 0 80):=by
    simp [inB] at c1
    have h21:M pil<=21:=A0
    simp [Hr,inB,h21,c1]
   rw [hm,aSb];refine ⟨⟨hE,rfl,rfl⟩,?_⟩;rcases hq with ⟨q1,q2⟩ |⟨q1,q2,j,q3,q4⟩<;>rw [q1]
   ·rw [show D9 (M pil) (λj=>inB (gi pil j) 0 80)=U from Di.2 q2]
    exact ⟨λh=>An,λ_=>rfl⟩
   ·rw [q2,show D9 (M pil) (λj=>inB (gi pil j) 0 80)=X from Oq j q3 q4]
    exact ⟨λ_=>rfl,λh=>An⟩
 ·cases h)
structure Nc where
 p:PK
 ev:EW
def UK (s:Nc):List LV:=[.own 16 0]
def Z8 (s:Nc):List AB:=[AO,AO,zB,AO,bV 73 Ad s.p.cs,bV 104 AP s.p.ls,bV 5 (.int aw) s.p.fl,bV 130 Am s.p.ra,bV 95 B3 s.p.st,bV 56 AP s.p.ca,bV 110 B7 s.p.mi,bV 98 BS s.p.me,bV 58 Ak s.p.dm,bV 106 BM s.p.lk,bV 3 A7 s.p.dr,bV 3 A7 s.p.tg,⟨[.os 4 11 0<|M s.p.cs,.xl .str s.p.os,.xl Ah s.p.ks,.xl Ae s.p.gs,.xl Ai s.p.bs,.v<|Y J s.p.tk,.v<|.bool s.p.up,.os 5 5 0<|M s.p.ls,.v<|Y J s.p.se,.os 6 1 0<|M s.p.fl,.os 7 2 0<|M s.p.ra,.v<|Y J s.p.nx,.os 8 4 0<|M s.p.st,.os 9 5 0<|M s.p.ca,.os 10 3 0<|M s.p.mi,.os 11 3 0<|M s.p.me,.os 12 4 0<|M s.p.dm,.os 13 6 0<|M s.p.lk,.os 14 1 0<|M s.p.dr,.os 15 1 0<|M s.p.tg,.v<|Y J s.ev.ek,.v<|Y J s.ev.en,.v<|Y J s.ev.em,.v<|Y J s.ev.c1,.v<|Y J s.ev.c2,.v<|Y J s.ev.c3,.v<|Y J s.ev.c4,.v<|Y J s.ev.c5,.v<|.bool s.ev.d1,.v<|Y J s.ev.d2,.v<|Y J s.ev.d3,.v<|Y J s.ev.d4,.v<|.slice aj 0 0],88,.cl,X⟩]
structure Xh where
 res:Int
 p:PK
 ev:EW
def abW (s:Xh):LV:=.v<|Y J s.res
end Go.Proofs.YtpfblnbippcdjaaGreatDoor
end
