/- Helpers for ParkLeases. Conditions: none. -/
import Derived.Test.YtipodhghjclmbaaGreatDoorQp2
set_option linter.defProp false
set_option linter.unusedVariables false
set_option linter.unusedSimpArgs false
noncomputable section
open List renaming length→M,length→aa,replicate→aq,range→au
open Bool renaming true→U,true→ae,false→X,false→af
open Go.Value renaming int→Y,int→ag
open Option renaming some→ah,none→aj
open Go.IntKind renaming i64→J,i64→ai,u8→aw,u32→ax
open True renaming intro→ak
open Decidable renaming decide→an
open ByteArray renaming mk→av
open Go.Region renaming ready→ay,wanted→az
open Go.Instr renaming findNow→aA
namespace Go.Proofs.YtipodhghjclmbaaGreatDoor
set_option maxRecDepth 100000
set_option maxHeartbeats 4000000
open Go.Proofs.Tryz
open Go.Sx
theorem gi_step {l:List Int}{i:Int}(h0:0<=i) (h:i<M l):l.drop i.toNat=gi l i::l.drop (i+1).toNat/\l.take (i+1).toNat=l.take i.toNat++[gi l i]:=by
 have hlt:i.toNat<M l:=A0
 rw [IF hlt,show (i+1).toNat=i.toNat+1 by omega,List.take_add_one,DQ hlt,SZ hlt]
 grind
def az7 {l:List Ch}{n:Int}(h:n.toNat<M l):AG l n=l[n.toNat]:=Mg h
def anb {l:List Cd}{i:Int}(h0:0<=i) (h:i<M l):l.drop i.toNat=Ag l i::l.drop (i+1).toNat/\l.take (i+1).toNat=l.take i.toNat++[Ag l i]:=QK h0 h
def ana {l:List Ch}{i:Int}(h0:0<=i) (h:i<M l):l.drop i.toNat=AG l i::l.drop (i+1).toNat/\l.take (i+1).toNat=l.take i.toNat++[AG l i]:=QK h0 h
def aFB {l:List Ko}{i:Int}(h0:0<=i) (h:i<M l):l.drop i.toNat=OH l i::l.drop (i+1).toNat/\l.take (i+1).toNat=l.take i.toNat++[OH l i]:=QK h0 h
def ane {l:List Ba}{i:Int}(h0:0<=i) (h:i<M l):l.drop i.toNat=OO l i::l.drop (i+1).toNat/\l.take (i+1).toNat=l.take i.toNat++[OO l i]:=QK h0 h
def aGe {l:List ByteArray}{i:Int}(h0:0<=i) (h:i<M l):l.drop i.toNat=gS l i::l.drop (i+1).toNat/\l.take (i+1).toNat=l.take i.toNat++[gS l i]:=QK h0 h
def Dh (mi ma st:Int):Bool:=an (1<=mi)&&(an (mi<=ma)&&(an (ma<=80)&&(an (1<=st)&&an (st<=80))))
def IB {mi ma st:Int}:Dh mi ma st=U↔1<=mi/\mi<=ma/\ma<=80/\1<=st/\st<=80:=by simp [Dh]
def EG (mi ma st:Int):Int:=if Dh mi ma st then (ma-mi) / st+2 else 0
def Dr (mi st k:Int):Int:=if k=0 then 0 else mi+(k-1)*st
def amE (mi ma st k:Int):Int:=if k<0\/EG mi ma st<=k then 1 else 0
def amA (mi ma st k:Int):Int:=if k<0\/EG mi ma st<=k then 0 else Dr mi st k
def HE (mi ma st a:Int):Int:=if Dh mi ma st=X\/a<0 then -1 else if a<mi then 0 else min (EG mi ma st-1) ((a-mi) / st+1)
def oF {x st:Int}(h0:0<=x) (h1:1<=st):0<=x / st/\x / st<=x:=⟨SY h0 A0,V5 _ h0⟩
def aQi {mi ma st:Int}:0<=EG mi ma st/\EG mi ma st<=81:=by
 unfold EG;split
 ·rename_i h
  exact aLl
 ·omega
def qE {mi ma st:Int}(h:Dh mi ma st=U):2<=EG mi ma st:=by
 unfold EG;rw [AD h];exact aLl
def aEQ {mi ma st:Int}(h:Dh mi ma st=X):EG mi ma st=0:=by simp [EG,h]
def az4 {a b:Int}(a0:0<=a) (a1:a<=1000) (b0:0<=b) (b1:b<=80):0<=a*b/\a*b<=80000:=
 ⟨Ib a0 b0,OR (V7 b1 a0) A0⟩
theorem aGZ (bs:ByteArray):∀(n i:Nat) (r:List UInt8),bs.size-i=n->ByteArray.toList.loop bs i r=r.reverse++bs.data.toList.drop i
 |0,i,r,h=>by
  rw [ByteArray.toList.loop,AE A0,El (by simp only [xD];show bs.size<=i;omega),GK]
 | n+1,i,r,h=>by
  have hi:i<M bs.data.toList:=by simp only [xD];show i<bs.size;omega
  rw [ByteArray.toList.loop,AD A0,aGZ bs n (i+1) _ A0,List.reverse_cons,Cl,SZ hi]
  have:bs.get! i=bs.data.toList[i]:=by
   show bs.data[i]! =_
   grind
  rw [this];rfl
def aGa (bs:ByteArray):bs.toList=bs.data.toList:=by
 rw [ByteArray.toList,aGZ bs _ 0 [] rfl];rfl
def aug {a b:ByteArray}(h:a.toList=b.toList):a=b:=by
 rw [aGa,aGa] at h;cases a;cases b;simp at h;rw [h]
def ui {a b:ByteArray}:(a==b)=U↔a=b:=by
 show (a.data==b.data)=U↔_
 rw [Cz];exact ⟨λh=>by cases a;cases b;simp at h;rw [h],λh=>VZ⟩
instance:LawfulBEq ByteArray where
 eq_of_beq h:=ui.1 h
 rfl:=ui.2 rfl
def Wr (a b:ByteArray):(a.toList==b.toList)=(a==b):=by
 rw [Ia,Cz,ui];exact ⟨aug,λh=>VZ⟩
def kinds:List ByteArray:=[av #[102,101,101,100,101,114],av #[99,97,98,108,101],av #[111,119,110,101,114],av #[99,111,110,116,114,97,99,116],av #[99,104,97,114,103,101,114],av #[98,97,121],av #[116,97,114,105,102,102]]
def hM:List ByteArray:=[av #[108,105,109,105,116],av #[110,101,117,116,114,97,108],av #[102,117,115,101],av #[116,104,101,114,109,97,108],av #[102,114,111,109],av #[97,116],av #[112,104,97,115,101,115],av #[97,109,112,115],av #[102,97,108,108,98,97,99,107],av #[111,119,110,101,114],av #[99,97,114,100],av #[114,97,110,107],av #[99,104,97,114,103,101,114]]
def oD:List ByteArray:=[av #[115,116,97,114,116],av #[101,110,101,114,103,121],av #[116,105,109,101],av #[105,100,108,101],av #[99,97,112],av #[116,97,120]]
def words:List ByteArray:=[av #[111,110],av #[119,111,114,107],av #[115,97,116,117,114,100,97,121],av #[115,117,110,100,97,121],av #[98,101,116,119,101,101,110],av #[112,101,114],av #[102,114,101,101]]
def isIn (l:List ByteArray) (w:ByteArray):Bool:=l.any (w== ·)
def Uq:Int->List ByteArray->ByteArray->Int
 |_,[],_=>0
 |n,x::l,w=>if w==x then n else Uq (n+1) l w
theorem aEF:∀(n:Int) (l:List ByteArray) (w:ByteArray),0<n->(Uq n l w !=0)=isIn l w
 |_,[],_,_=>rfl
 | n,x::l,w,h=>by
  simp only [Uq,isIn,ZO];split
  ·grind
  ·rename_i c
   have:=aEF (n+1) l w A0
   simp only [isIn] at this;rw [this]
   simp [c]
def aBV (w:ByteArray):Bool:=isIn kinds w ||(isIn hM w ||(isIn oD w ||isIn words w))
def chA (b:Int):Bool:=an (b>=97)&&an (b<=122)
def chB (b:Int):Bool:=chA b ||((an (b>=48)&&an (b<=57)) ||b==95)
def gwB (w:ByteArray):Bool:=an (1<=w.size/\w.size<=12)&&(chA (Jn w 0)&&(au w.size).all λi=>i==0 ||chB (Jn w i))
def nameB (w:ByteArray):Bool:=gwB w&&!aBV w
def Lf {p q:Prop}(h:p) (k:p->q):p/\q:=⟨h,k h⟩
def Dc (n:Nat) (f:Int->Bool):Bool:=(au n).all λj=>f (j:Int)
theorem Dy {n:Nat}{f:Int->Bool}:Dc n f=U↔∀j:Nat,(j:Int)<(n:Int)->f j=true:=by
 unfold Dc
 grind
def QP {n:Nat}{f:Int->Bool}(j:Nat) (h:(j:Int)<(n:Int)) (hf:f j=X):Dc n f=false:=by
 rw [I6];intro hx;rw [Dy.1 hx j h] at hf;cases hf
def cbZ (c:Cbl):Bool:=(c.1==0)&&((c.2.1==0)&&((c.2.2.1==0)&&((c.2.2.2.1==0)&&(c.2.2.2.2==0))))
def IX (c:Cbl):Bool:=cbZ c ||(an (0<=c.1)&&(an (c.1<c.2.1)&&(an (c.2.1<=200000)&&(inB c.2.2.1 0 1000&&(inB c.2.2.2.1 0 1000&&inB c.2.2.2.2 1 1000000)))))
def Hu (i:Int) (c:Cd):Bool:=(if i=0 then c.2.1==-1 else inB c.2.1 0 (i-1))&&(inB c.2.2.1 1 1000&&(inB c.2.2.2.1 1 1000&&(((c.2.2.2.2.1.1==0)&&(c.2.2.2.2.1.2==0) ||(inB c.2.2.2.2.1.1 1 1000&&inB c.2.2.2.2.1.2 0 1000000))&&IX c.2.2.2.2.2)))
def chW (c:Ch):Bool:=inB c.2.2.1 1 7&&(inB c.2.2.2.1 1 80&&(inB c.2.2.2.2.1 c.2.2.2.1 80&&(inB c.2.2.2.2.2.1 1 80&&(c.2.2.2.2.2.2.1==0 ||inB c.2.2.2.2.2.2.1 c.2.2.2.1 c.2.2.2.2.1))))
def GA (nc no:Int) (c:Ch):Bool:=inB c.2.1 0 (nc-1)&&(inB c.2.2.2.2.2.2.2 0 (no-1)&&chW c)
def koV (no:Int) (c:Ko):Bool:=inB c.2.1 0 (no-1)&&(inB c.2.2.1 1 9&&inB c.2.2.2 1 1000000)
def once {α:Type} [BEq α] (l:List α):Bool:=(au<|M l).all λj=>match l[j]? with
 |some x=>!((l.take j).contains x)
 |none=>U
theorem oe {α:Type} [BEq α] [LawfulBEq α] {l:List α}:once l=U↔∀(j:Nat) (h:j<M l),¬l[j]∈l.take j:=by
 unfold once;rw [BP];refine ⟨λh j hj hm=>?_,λh j hj=>?_⟩
 ·have:=h j (IZ.2 hj)
  rw [DQ hj] at this;simp only [Cs] at this;rw [ZJ.2 hm] at this;cases this
 ·have hj:=IZ.1 hj
  grind
def M6 (cs:List Cd) (os:List ByteArray) (ks:List Ko) (gs:List Ch) (bs:List Ba):Bool:=
 Dc (M cs) (λj=>Hu j<|Ag cs j)&&(ks.all (koV<|M os)&&(once (ks.map (·.2.2.2))&&(gs.all (GA (M cs)<|M os)&&bs.all (λb=>inB b.2 0<|(M gs:Int)-1))))
def LI (cs:List Cd) (os:List ByteArray) (ks:List Ko) (gs:List Ch) (bs:List Ba):List ByteArray:=cs.map (·.1)++os++ks.map (·.1)++gs.map (·.1)++bs.map (·.1)
def BL (cs:List Cd) (os:List ByteArray) (ks:List Ko) (gs:List Ch) (bs:List Ba):Bool:=
 an (1<=M cs/\M cs<=16/\M os<=8/\M ks<=32/\M gs<=16/\M bs<=24)&&((LI cs os ks gs bs).all nameB&&(once (LI cs os ks gs bs)&&M6 cs os ks gs bs))
theorem agG {nm:ByteArray}{i up li ne ra he am mo ga lo de:Int}(hi:0<=i) {K:Bool->Prop}(h:K<|Hu i (nm,up,li,ne,(ra,he),am,mo,ga,lo,de)):
  ((if i==0 then (up !=(-1)) ||((an<|i>0)&&((an<|up<0) ||(an<|up>=i))) else (an<|i>0)&&((an<|up<0) ||(an<|up>=i)))=U->K X)/\
  ((if i==0 then (up !=(-1)) ||((an<|i>0)&&((an<|up<0) ||(an<|up>=i))) else (an<|i>0)&&((an<|up<0) ||(an<|up>=i)))=X->
   (((!(inB li (1:Int) (1000:Int))) ||(!(inB ne (1:Int) (1000:Int))))=U->K X)/\
   (((!(inB li (1:Int) (1000:Int))) ||(!(inB ne (1:Int) (1000:Int))))=X->
    (((!((ra==0)&&(he==0)))&&(!(inB ra (1:Int) (1000:Int)) ||(!(inB he (0:Int) (1000000:Int)))))=U->K X)/\
    (((!((ra==0)&&(he==0)))&&(!(inB ra (1:Int) (1000:Int)) ||(!(inB he (0:Int) (1000000:Int)))))=X->
     (((am==0)&&((mo==0)&&((ga==0)&&((lo==0)&&(de==0)))))=U->K U)/\
     (((am==0)&&((mo==0)&&((ga==0)&&((lo==0)&&(de==0)))))=X->K ((inB am (0:Int) (200000:Int))&&((inB mo (0:Int) (200000:Int))&&((inB ga (0:Int) (1000:Int))&&((inB lo (0:Int) (1000:Int))&&((inB de (1:Int) (1000000:Int))&&(an<|mo>am)))))))))):=by
 have e1:(if i==0 then (up !=(-1)) ||((an<|i>0)&&((an<|up<0) ||(an<|up>=i))) else (an<|i>0)&&((an<|up<0) ||(an<|up>=i)))=!(if i=0 then up==-1 else inB up 0 (i-1)):=by
  by_cases h0:i=0
  ·grind
  ·have:(i==0)=false:=by simpa using h0
   rw [this,AE h0,Ia]
   simp [inB]
   omega
 rw [e1];unfold Hu at h;simp only at h;generalize (if i=0 then up==-1 else inB up 0 (i-1))=b1 at*
 refine ⟨λc=>?_,λc=>⟨λc2=>?_,λc2=>⟨λc3=>?_,λc3=>⟨λc4=>?_,λc4=>?_⟩⟩⟩⟩
 ·grind
 all_goals
  have c:b1=true:=Ig
  rw [c,EA] at h
 ·have:(inB li 1 1000&&inB ne 1 1000)=false:=A8
  grind
 all_goals
  have c2:inB li 1 1000=U/\inB ne 1 1000=true:=EC
  rw [c2.1,c2.2,EA,EA] at h
 ·have:((ra==0)&&(he==0) ||(inB ra 1 1000&&inB he 0 1000000))=false:=by
   grind
  grind
 all_goals
  have:((ra==0)&&(he==0) ||(inB ra 1 1000&&inB he 0 1000000))=true:=by
   grind
  rw [this,EA] at h
 ·unfold IX cbZ at h
  grind
 ·unfold IX cbZ at h
  rw [c4,Ct] at h
  have:((inB am (0:Int) (200000:Int))&&((inB mo (0:Int) (200000:Int))&&((inB ga (0:Int) (1000:Int))&&((inB lo (0:Int) (1000:Int))&&((inB de (1:Int) (1000000:Int))&&(an<|mo>am))))))=(an (0<=am)&&(an (am<mo)&&(an (mo<=200000)&&(inB ga 0 1000&&(inB lo 0 1000&&inB de 1 1000000))))):=by
   rw [Ia];simp only [AY,BV,Ac];omega
  rw [this];exact h
theorem W2 {α β:Type} [BEq β] [LawfulBEq β] {l:List α}{d:α}{p:α->Bool}{k:α->β}:(∀j:Nat,(j:Int)<(M l:Int)->(p (l.getD (j:Int).toNat d)&&!(((l.take (j:Int).toNat).map k).contains<|k<|l.getD (j:Int).toNat d))=U)↔(l.all p&&once (l.map k))=true:=by
 have hg:∀(j:Nat) (h:j<M l),l.getD (j:Int).toNat d=l[j]:=λj h=>Mg (n:=(j:Int)) h
 rw [AY,BP,oe]
 constructor
 ·intro h
  refine ⟨λx hx=>?_,λj hj hm=>?_⟩
  ·obtain ⟨j,hj,rfl⟩:=List.getElem_of_mem hx
   have:=h j A0
   rw [hg j hj,AY] at this;exact this.1
  ·have hj':j<M l:=A8
   have:=h j A0
   rw [hg j hj',AY,Cs] at this
   have h2:=this.2
   rw [By,List.map_take,ZJ.2 A8] at h2;cases h2
 ·intro ⟨h1,h2⟩ j hj
  have hj':j<M l:=A0
  rw [hg j hj',AY,Cs];refine ⟨h1 _<|H0 _,?_⟩;rw [I6,By,List.map_take]
  grind
theorem QJ {α:Type}{l:List α}{d:α}{p:α->Bool}:(∀j:Nat,(j:Int)<(M l:Int)->p (l.getD (j:Int).toNat d)=U)↔l.all p=true:=by
 have hg:∀(j:Nat) (h:j<M l),l.getD (j:Int).toNat d=l[j]:=λj h=>Mg (n:=(j:Int)) h
 rw [BP]
 constructor
 ·intro h x hx
  obtain ⟨j,hj,rfl⟩:=List.getElem_of_mem hx
  have:=h j A0
  rw [hg j hj] at this;exact this
 ·intro h j hj
  grind
def IW (ph mn mx st fb:Int):Bool:=inB ph 1 7&&(inB mn 1 80&&(inB mx 1 80&&(inB st 1 80&&(an (mn<=mx)&&(fb==0 ||inB fb mn mx)))))
def cd {ph mn mx st fb:Int}:IW ph mn mx st fb=U↔1<=ph/\ph<=7/\1<=mn/\mn<=80/\1<=mx/\mx<=80/\1<=st/\st<=80/\mn<=mx/\(fb=0\/(mn<=fb/\fb<=mx)):=by
 simp [IW,inB];omega
def EZ (mn mx st a:Int):Int:=if a<mn then 0 else min a mx-(min a mx-mn) %st
def adU {x s:Int}(hx:0<=x) (hs:1<=s):0<=x%s/\x%s<=x/\x%s<s:=by
 have h1:=Int.mul_ediv_add_emod x s
 have h2:0<=x / s:=SY hx A0
 have h3:0<=s*(x / s):=Ib A0 h2
 have h4:=Int.emod_nonneg x (b:=s) A0
 have h5:=Int.emod_lt_of_pos x (b:=s) A0
 omega
def aes {mn mx st a:Int}(h1:1<=mn) (h2:mn<=mx) (h3:mx<=80) (h4:1<=st):0<=EZ mn mx st a/\EZ mn mx st a<=80/\(a<mn->EZ mn mx st a=0)/\(mn<=a->mn<=EZ mn mx st a/\EZ mn mx st a<=a/\EZ mn mx st a<=mx):=by
 unfold EZ;split
 ·omega
 ·have e1:=adU (x:=min a mx-mn) (s:=st) A0 h4
  omega
def chP (mn mx st:Int):Prop:=1<=mn/\mn<=mx/\mx<=80/\1<=st/\st<=80
def aRi {ph mn mx st fb:Int}(h:IW ph mn mx st fb=U):chP mn mx st:=by
 rw [cd] at h;unfold chP;omega
def IU (ph mn mx st fb a s:Int):Bool:=IW ph mn mx st fb&&(an (0<=s)&&(an (s<=1000000)&&(an (0<=a)&&(EZ mn mx st a==a))))
def okB (ph mn mx st fb a s want:Int):Bool:=IU ph mn mx st fb a s&&(an (0<=want)&&an (want<=80))
def nE (ph mn mx st fb a s want:Int):Int:=if okB ph mn mx st fb a s want then 0 else 1
def nA (ph mn mx st fb a s want:Int):Int:=
 if okB ph mn mx st fb a s want then (if a=0 then (if EZ mn mx st want≠0/\5<=s then mn else 0) else if EZ mn mx st want=0 then 0 else min (EZ mn mx st want) (a+st)) else 0
def nS (ph mn mx st fb a s want:Int):Int:=
 if okB ph mn mx st fb a s want then (if a=0 then (if EZ mn mx st want≠0/\5<=s then 0 else min (s+1) 1000000) else if EZ mn mx st want=0 then 0 else min (s+1) 1000000) else 0
def aGm (x y:Int):(if y<x then y else x)=min x y:=A0
def ahb {mn mx st am:Int}(h:am<mn):0=EZ mn mx st am:=by rw [EZ,AD h]
def aha {mn mx st am:Int}(hc:chP mn mx st) (h:mn<=am):AA ((if mx<am then mx else am)-(AA<|(if mx<am then mx else am)-mn).tmod st)=EZ mn mx st am:=by
 unfold chP at hc;rw [aGm]
 have e1:=adU (x:=min am mx-mn) (s:=st) A0 A0
 rw [AJ (x:=min am mx-mn),xL A0,AJ,EZ,AE A0]
def amB {ph mn mx st fb a s:Int}(h:((!IW ph mn mx st fb) ||(an (s<0) ||(an (s>1000000) ||an (a<0))))=U):X=IU ph mn mx st fb a s:=by
 cases hr:IU ph mn mx st fb a s
 ·rfl
 ·simp [IU] at hr h
  rw [hr.1] at h
  simp at h
  omega
def aK2 {ph mn mx st fb a s:Int}(h:((!IW ph mn mx st fb) ||(an (s<0) ||(an (s>1000000) ||an (a<0))))=X):chP mn mx st/\(EZ mn mx st a==a)=IU ph mn mx st fb a s:=by
 simp at h
 obtain ⟨h1,h2,h3,h4⟩:=h;exact ⟨aRi h1,by simp [IU,h1,h2,h3,h4]⟩
def aqu {ph mn mx st fb a s want:Int}(h:okB ph mn mx st fb a s want=U):(!IU ph mn mx st fb a s ||(an (want<0) ||an (want>80)))=X/\chP mn mx st/\(0<=s/\s<=1000000)/\(0<=want/\want<=80)/\0<=a/\a<=80/\1<=st/\st<=80:=by
 simp only [okB,IU,AY,Ac,Cz] at h;obtain ⟨⟨h1,h2,h3,h4,h5⟩,h6,h7⟩:=h
 have hc:=aRi h1
 have hc':=hc
 have:=aes (a:=a) hc'.1 hc'.2.1 hc'.2.2.1 hc'.2.2.2.1
 refine ⟨?_,hc,⟨h2,h3⟩,⟨h6,h7⟩,h4,A0,hc'.2.2.2.1,hc'.2.2.2.2⟩
 simp [IU,h1,h2,h3,h4,h5];omega
def aqv {ph mn mx st fb a s want:Int}(h:¬okB ph mn mx st fb a s want=U):(!IU ph mn mx st fb a s ||(an (want<0) ||an (want>80)))=true:=by
 cases hr:IU ph mn mx st fb a s
 ·rfl
 ·simp [okB,hr] at h|-;omega
def Fx (cs:List Cd):Bool:=Dc (M cs) λj=>an<|(Ag cs j).2.1<j
theorem QX {cs:List Cd}(h:Fx cs=U) {c:Int}(h0:0<=c) (h1:c<M cs):(Ag cs c).2.1<c:=by
 have:=Dy.1 h c.toNat A0
 grind
def GG:Nat->List Cd->Int->Int->Bool
 |0,_,_,_=>X
 |k+1,cs,o,c=>if c>=0 then (c==o ||GG k cs o (Ag cs c).2.1) else X
def HJ (cs:List Cd) (o c:Int):Bool:=GG (c.toNat+2) cs o c
theorem aPY {cs:List Cd}{o:Int}(hu:Fx cs=U):∀(k k':Nat) (c:Int),c<M cs->(c+1).toNat<k->(c+1).toNat<k'->GG k cs o c=GG k' cs o c
 |0,_,_,_,h,_=>A0
 |_+1,0,_,_,_,h=>A0
 | k+1,k'+1,c,hc,h,h'=>by
  simp only [GG]
  by_cases h0:c>=0
  ·rw [AD h0,AD h0]
   have:=QX hu h0 hc
   rw [aPY hu k k' (Ag cs c).2.1 A0 A0 A0]
  ·grind
theorem aPZ {cs:List Cd}{o c:Int}(hu:Fx cs=U) (hc:c<M cs):HJ cs o c=if c>=0 then (c==o ||HJ cs o (Ag cs c).2.1) else false:=by
 unfold HJ;rw [GG]
 by_cases h0:c>=0
 ·rw [AD h0,AD h0]
  have:=QX hu h0 hc
  rw [aPY hu (c.toNat+1) ((Ag cs c).2.1.toNat+2) (Ag cs c).2.1 A0 A0 A0]
 ·grind
def atB (cs:List Cd) (gs:List Ch):Bool:=Dc (M gs) λj=>an<|(AG gs j).2.1<(M cs:Int)
theorem uk {cs:List Cd}{gs:List Ch}(h:atB cs gs=U) {c:Int}(h0:0<=c) (h1:c<M gs):(AG gs c).2.1<(M cs:Int):=by
 have:=Dy.1 h c.toNat A0
 grind
def H8 (cs:List Cd) (gs:List Ch) (o:Int) (k:Nat):List Int:=((au k).map λj:Nat=>(j:Int)).filter λj=>HJ cs o (AG gs j).2.1
theorem ag1 {cs:List Cd}{gs:List Ch}{o:Int}{k:Nat}:H8 cs gs o (k+1)=H8 cs gs o k++(if HJ cs o (AG gs k).2.1=U then [(k:Int)] else []):=by
 unfold H8;rw [SX,Jx,ZE]
 grind
theorem pM {cs:List Cd}{gs:List Ch}{o:Int}{k:Nat}:M (H8 cs gs o k)<=k:=by
 unfold H8
 grind
theorem DF {cs:List Cd}{os:List ByteArray}{ks:List Ko}{gs:List Ch}{bs:List Ba}:BL cs os ks gs bs=U↔(1<=M cs/\M cs<=16/\M os<=8/\M ks<=32/\M gs<=16/\M bs<=24)/\(LI cs os ks gs bs).all nameB=U/\once (LI cs os ks gs bs)=U/\Dc (M cs) (λj=>Hu j<|Ag cs j)=U/\ks.all (koV<|M os)=U/\once (ks.map (·.2.2.2))=U/\gs.all (GA (M cs)<|M os)=U/\bs.all (λb=>inB b.2 0<|(M gs:Int)-1)=true:=by
 unfold BL M6
 grind
theorem oy {cs:List Cd}{os:List ByteArray}{ks:List Ko}{gs:List Ch}{bs:List Ba}(h:BL cs os ks gs bs=U) {c:Int}(h0:0<=c) (h1:c<M cs):Hu c (Ag cs c)=true:=by
 have:=Dy.1 (DF.1 h).2.2.2.1 c.toNat A0
 grind
def Oo {cs:List Cd}{os:List ByteArray}{ks:List Ko}{gs:List Ch}{bs:List Ba}(h:BL cs os ks gs bs=U) {c:Int}(h0:0<=c) (h1:c<M gs):GA (M cs) (M os) (AG gs c)=true:=by
 have:=BP.1 (DF.1 h).2.2.2.2.2.2.1 gs[c.toNat]<|H0 _
 rwa [az7 A0]
theorem ox {cs:List Cd}{os:List ByteArray}{ks:List Ko}{gs:List Ch}{bs:List Ba}(h:BL cs os ks gs bs=U):Fx cs=true:=
 Dy.2 λj hj=>by
  have:=oy h (c:=j) A0 hj
  unfold Hu at this;rw [AY] at this
  have h1:=this.1
  rw [Ac];split at h1
  ·grind
  ·have:=BV.1 h1;omega
def oz {cs:List Cd}{os:List ByteArray}{ks:List Ko}{gs:List Ch}{bs:List Ba}(h:BL cs os ks gs bs=U):atB cs gs=true:=
 Dy.2 λj hj=>by
  have:=Oo h (c:=j) A0 hj
  unfold GA at this;rw [AY] at this
  have:=BV.1 this.1
  rw [Ac];omega
def wg (cs:List Cd) (os:List ByteArray) (ks:List Ko) (gs:List Ch) (bs:List Ba) (o:Int):Int:=if BL cs os ks gs bs=U/\0<=o/\o<M cs then 0 else 1
def Q4 (cs:List Cd) (os:List ByteArray) (ks:List Ko) (gs:List Ch) (bs:List Ba) (o:Int):List Int:=if BL cs os ks gs bs=U/\0<=o/\o<M cs then H8 cs gs o (M gs) else []
def aJ (ga ro:Int):Nat->Int
 |0=>0
 |k+1=>if ga*(k+1)*(k+1)<=ro then (k:Int)+1 else aJ ga ro k
def ajG {ga m:Int}(h0:0<=ga) (h1:ga<=1000) (m0:0<=m) (m1:m<=1000):(0<=ga*m/\ga*m<=1000000)/\0<=ga*m*m/\ga*m*m<=1000000000:=by
 have a1:=MD h1 m0
 have a2:=Ib h0 m0
 have a3:ga*m*m<=1000000*m:=MD A0 m0
 exact ⟨⟨a2,A0⟩,Ib a2 m0,A0⟩
def aoc {ga a b:Int}(h0:0<=ga) (a0:0<=a) (h:a<=b):ga*a*a<=ga*b*b:=by
 have h1:=V7 h h0
 exact OR (MD h1 a0)<|V7 h<|Ib h0 A0
def aGy {ga ro r:Int}:∀ {k:Nat},0<=r->r<=k->(r=0\/ga*r*r<=ro)->(∀a:Int,r<a->a<=k->¬ga*a*a<=ro)->aJ ga ro k=r
 |0,h0,h1,_,_=>by simp only [aJ];omega
 | k+1,h0,h1,h2,h3=>by
  simp only [aJ]
  by_cases hr:r=(k:Int)+1
  ·subst hr
   omega
  ·rw [AE<|h3 ((k:Int)+1) A0 A0]
   exact aGy h0 A0 h2 λa ha hk=>h3 a ha A0
def prm (ga ro:Int):Int:=aJ ga ro 1000
def pmE (c:Cbl):Int:=if IX c=U then 0 else 1
def N4 (c:Cbl):Int:=if IX c=U then (if cbZ c=U then 1000 else prm c.2.2.1 ((if c.2.2.2.2<c.2.2.2.1 then c.2.2.2.2 else c.2.2.2.1)*(c.2.1-c.1))) else 0
def ahV {c:Cbl}(h:IX c=U) (hz:cbZ c=X):(0<=c.1/\c.1<c.2.1/\c.2.1<=200000)/\(0<=c.2.2.1/\c.2.2.1<=1000)/\(0<=c.2.2.2.1/\c.2.2.2.1<=1000)/\1<=c.2.2.2.2/\c.2.2.2.2<=1000000:=by
 unfold IX at h;rw [hz,Ct] at h;simp only [AY,Ac,BV] at h;omega
def Js (f:Int) (l:List Int):Int:=l.foldl (λa n=>if n<a then n else a) f
def Dz (c:Cd):Int:=if c.2.2.2.2.1.1=0 then Js c.2.2.1 [c.2.2.2.1,N4 c.2.2.2.2.2] else Js c.2.2.1 [c.2.2.2.1,N4 c.2.2.2.2.2,c.2.2.2.2.1.1]
theorem apT {c:Cbl}:(pmE c !=0)=!IX c:=by
 unfold pmE
 grind
abbrev Ed:Ty:=.pair A7<|.sl A7
abbrev Rw:=Int×List Int
def CX (l:List Rw) (n:Int):Rw:=l.getD n.toNat (0,[])
def oE {l:List Rw}{n:Int}(h:n.toNat<M l):CX l n=l[n.toNat]:=Mg h
def anW {l:List Rw}{i:Int}(h0:0<=i) (h:i<M l):l.drop i.toNat=CX l i::l.drop (i+1).toNat/\l.take (i+1).toNat=l.take i.toNat++[CX l i]:=QK h0 h
def IF {l:List Int}{n:Int}(h:n.toNat<M l):gi l n=l[n.toNat]:=Mg h
def usA (ph p:Int):Bool:=Bq J ph (AA<|(1:Int)*2^(min p.toNat 64)) !=0
def E4 (gs:List Ch) (p:Int) (l:List Int):List Int:=l.filter λk=>usA (AG gs k).2.2.1 p
def XO (gs:List Ch) (p:Int) (l:List Int):Prop:=0<=p/\M l<=1000/\∀k∈l,0<=k/\k<(M gs:Int)
def atj {gs:List Ch}{p:Int}{l:List Int}:M (E4 gs p l)<=M l:=xA _ _
def aFv {cs:List Cd}{gs:List Ch}{o:Int}{k:Nat}{x:Int}(h:x∈H8 cs gs o k):0<=x/\x<(k:Int):=by
 have:=(DE.1 h).1
 obtain ⟨j,h1,rfl⟩:=Ej.1 this
 have:=IZ.1 h1
 omega
def rowP (cs:List Cd) (gs:List Ch) (c p:Int):List Rw:=if M (E4 gs p<|H8 cs gs c<|M gs)>0 then [(Dz<|Ag cs c,E4 gs p<|H8 cs gs c<|M gs)] else []
def lr (cs:List Cd) (gs:List Ch) (c:Int):List Rw:=rowP cs gs c 0++rowP cs gs c 1++rowP cs gs c 2
def DH (cs:List Cd) (gs:List Ch):Nat->List Rw
 |0=>[]
 |k+1=>DH cs gs k++lr cs gs k
theorem pC {cs:List Cd}{gs:List Ch}{c p:Int}:M (rowP cs gs c p)<=1:=by
 unfold rowP
 grind
def amo {cs:List Cd}{gs:List Ch}{c:Int}:M (lr cs gs c)<=3:=by
 unfold lr
 have h0:=pC (cs:=cs) (gs:=gs) (c:=c) (p:=0)
 have h1:=pC (cs:=cs) (gs:=gs) (c:=c) (p:=1)
 have h2:=pC (cs:=cs) (gs:=gs) (c:=c) (p:=2)
 simp only [BF];omega
def o6 {cs:List Cd}{gs:List Ch}:∀ {k:Nat},M (DH cs gs k)<=3*k
 |0=>by simp [DH]
 |k+1=>by
  have:=o6 (cs:=cs) (gs:=gs) (k:=k)
  have h2:=amo (cs:=cs) (gs:=gs) (c:=k)
  simp only [DH,BF];omega
def OI (cs:List Cd) (os:List ByteArray) (ks:List Ko) (gs:List Ch) (bs:List Ba):Int:=if BL cs os ks gs bs=U then 0 else 1
def JX (cs:List Cd) (os:List ByteArray) (ks:List Ko) (gs:List Ch) (bs:List Ba):List Rw:=if BL cs os ks gs bs=U then DH cs gs (M cs) else []
def Hk (a:Int):Bool:=an (a>=0)&&an (a<=80)
def QH {a:Int}:Hk a=U↔0<=a/\a<=80:=by simp [Hk]
def Pc (n i:Int):Bool:=an (0<=i)&&an (i<n)
def o7 {n i:Int}:Pc n i=U↔0<=i/\i<n:=by simp [Pc]
def Gb (l:List Int) (n:Int):Bool:=an ((M l:Int)=n)&&(l.all (Pc n)&&once l)
def smA (alive l:List Int):Int:=(l.map λm=>gi alive m).sum
def Lh (i:Int) (o:List<|List Int) (l:List Int):List (List Int):=l.foldl (λo m=>o.modify m.toNat (·++[i])) o
def HL (o:List<|List Int) (i:Int):List Rw->List (List Int)
 | []=>o
 |r::rs=>HL (Lh i o r.2) (i+1) rs
def HK (alive sm:List Int) (i:Int):List Rw->List Int
 | []=>sm
 |r::rs=>HK alive (sm.set i.toNat<|sm.getD i.toNat 0+smA alive r.2) (i+1) rs
def aEZ {alive l:List Int}{m:Int}:smA alive (m::l)=gi alive m+smA alive l:=by simp [smA]
def nO {i m:Int}{o:List<|List Int}{l:List Int}:Lh i o (m::l)=Lh i (o.modify m.toNat (·++[i])) l:=rfl
def aBz {i:Int}:∀ {l:List Int}{o:List<|List Int},M (Lh i o l)=M o
 | [],o=>rfl
 |m::l,o=>by rw [nO,aBz,kJ]
theorem aGx {i:Int}:∀ {l:List Int}{o:List<|List Int}{b:Int},(∀x∈o,(M x:Int)<=b)->∀x∈Lh i o l,(M x:Int)<=b+M l
 | [],o,b,h,x,hx=>by have:=h x hx;simp only [Bp];omega
 | m::l,o,b,h,x,hx=>by
  rw [nO] at hx
  have:=aGx (b:=b+1) (λy hy=>by
   obtain ⟨k,hk,rfl⟩:=I4.1 hy;rw [kJ] at hk
   have:=h o[k]<|H0 _
   rw [List.getElem_modify];split
   ·grind
   ·omega) x hx
  simp only [Bk];omega
def amx {l:List Int}{i:Nat}(h:i<M l):l.set i (l.getD i 0+0)=l:=by
 simp_all
theorem aeN {l:List Int}{i:Nat}{a b:Int}(h:i<M l):letI c:=l.set i<|l.getD i 0+a;c.set i (c.getD i 0+b)=l.set i (l.getD i 0+(a+b)):=by
 have e:(l.set i<|l.getD i 0+a).getD i 0=l.getD i 0+a:=A8
 rw [e,List.set_set]
 congr 1
 omega
def mx (a b:Int):Int:=if a<b then b else a
def Cq (gs:List Ch) (i k:Int):Int:=Dr (AG gs i).2.2.2.1 (AG gs i).2.2.2.2.2.1 k
def FP (gs:List Ch) (i a:Int):Int:=HE (AG gs i).2.2.2.1 (AG gs i).2.2.2.2.1 (AG gs i).2.2.2.2.2.1 a
def Fq (gs:List Ch) (alive:List Int) (i k:Int):Int:=mx (gi alive i) (Cq gs i k)-mx (gi alive i) (Cq gs i<|k-1)
def KZ (rows:List Rw) (sm:List Int) (mo r:Int):Bool:=an<|sm.getD r.toNat 0+mo<=(CX rows r).1
def Ke (sm:List Int) (mo:Int) (l:List Int):List Int:=l.foldl (λsm r=>sm.set r.toNat<|sm.getD r.toNat 0+mo) sm
abbrev Tr:=List Int×List Int×Bool
def Fm (O:List<|List Int) (rows:List Rw) (gs:List Ch) (alive most:List Int) (level:Int) (t:Tr) (i:Int):Tr:=
 if t.2.1.getD i.toNat 0=level-1/\level<=FP gs i (gi most i) then
  (if ((O.getD i.toNat []).all<|KZ rows t.1<|Fq gs alive i level)=U then (Ke t.1 (Fq gs alive i level)<|O.getD i.toNat [],t.2.1.set i.toNat level,U) else t)
 else t
def swp (O:List<|List Int) (rows:List Rw) (gs:List Ch) (alive most:List Int) (level:Int) (t:Tr) (l:List Int):Tr:=l.foldl (Fm O rows gs alive most level) t
def shl (O:List<|List Int) (rows:List Rw) (gs:List Ch) (alive most order:List Int):Nat->Int->List Int->List Int->List Int
 |0,_,_,lv=>lv
 |f+1,level,sm,lv=>if (swp O rows gs alive most level (sm,lv,X) order).2.2=U then shl O rows gs alive most order f (level+1) (swp O rows gs alive most level (sm,lv,X) order).1 (swp O rows gs alive most level (sm,lv,X) order).2.1 else (swp O rows gs alive most level (sm,lv,X) order).2.1
def aCR {sm l:List Int}{mo r:Int}:Ke sm mo (r::l)=Ke (sm.set r.toNat<|sm.getD r.toNat 0+mo) mo l:=rfl
def nC {mo:Int}:∀ {l sm:List Int},M (Ke sm mo l)=M sm
 | [],_=>rfl
 |r::l,sm=>by rw [aCR,nC,CH]
theorem T7 {sm:List Int}{i k:Nat}{v:Int}:(sm.set i v).getD k 0=if i=k/\k<M sm then v else sm.getD k 0:=by
 by_cases h:i=k
 ·subst h
  by_cases h2:i<M sm
  ·simp [h2]
  ·grind
 ·simp [h]
theorem aDH {mo:Int}:∀ {l sm:List Int}{k:Nat},(∀r∈l,r.toNat≠k)->(Ke sm mo l).getD k 0=sm.getD k 0
 | [],_,_,_=>rfl
 |r::l,sm,k,h=>by
  rw [aCR,aDH λx hx=>h x A8,T7,AE λe=>h r AI e.1]
theorem pQ {mo:Int}:∀ {l sm:List Int}{k:Nat},l.Nodup->(∀r∈l,0<=r)->k<M sm->(Ke sm mo l).getD k 0=sm.getD k 0+(if (k:Int)∈l then mo else 0)
 | [],sm,k,_,_,_=>by simp [Ke]
 | r::l,sm,k,hn,h0,hk=>by
  rw [aCR];obtain ⟨n1,n2⟩:=ME.1 hn
  have hr:=h0 r AI
  by_cases e:r.toNat=k
  ·rw [aDH λx hx e2=>n1 (by
    have:=h0 x A8
    have:r=x:=A0
    rw [this];exact hx),T7,AD ⟨e,hk⟩,AD A8,e]
  ·rw [pQ n2 (λx hx=>h0 x A8) A8,T7,AE λc=>e c.1]
   have:¬(k:Int)=r:=A0
   simp [this]
def uP {mi ma st a:Int}:HE mi ma st a<=80:=by
 have:=aQi (mi:=mi) (ma:=ma) (st:=st)
 unfold HE;split
 ·omega
 ·split
  ·omega
  ·omega
structure OkT (O:List (List Int)) (rows:List Rw) (gs:List Ch) (alive most order:List Int):Prop where
 ol:M O=16
 ord:∀i∈order,(0<=i/\i<16)/\i<(M gs:Int)/\i<(M alive:Int)/\i<(M most:Int)
 al:∀a∈alive,0<=a/\a<=80
 mo:∀a∈most,0<=a/\a<=80
 has:∀i∈order,Dh (AG gs i).2.2.2.1 (AG gs i).2.2.2.2.1 (AG gs i).2.2.2.2.2.1=U
 row:∀o∈O,o.Nodup/\(M o:Int)<=1000/\∀r∈o,0<=r/\r<(M rows:Int)
 cap:∀r∈rows,r.1<=1000
structure OkS (rows:List Rw) (order sm lv:List Int):Prop where
 len:M sm=M rows
 bd:∀k:Nat,0<=sm.getD k 0/\sm.getD k 0<=2000
 EZ:∀i∈order,i<(M lv:Int)
 lvb:∀k:Nat,0<=lv.getD k 0/\lv.getD k 0<=80
def ahk {mi st k:Int}(h:1<=mi/\mi<=80/\1<=st/\st<=80) (h0:0<=k) (h1:k<=81):0<=Dr mi st k/\Dr mi st k<=6480:=by
 unfold Dr;split
 ·omega
 ·have a1:0<=(k-1)*st:=Ib A0 A0
  have a2:(k-1)*st<=(k-1)*80:=V7 A0 A0
  omega
def aFN {mi st j k:Int}(h:1<=mi/\1<=st) (h0:0<=j) (h1:j<=k):Dr mi st j<=Dr mi st k:=by
 unfold Dr;split
 ·split
  ·omega
  ·have a1:0<=(k-1)*st:=Ib A0 A0
   omega
 ·rw [AE A0]
  have:(j-1)*st<=(k-1)*st:=MD A0 A0
  omega
def aQy {gs:List Ch}{alive:List Int}{i k:Int}(hh:Dh (AG gs i).2.2.2.1 (AG gs i).2.2.2.2.1 (AG gs i).2.2.2.2.2.1=U) (ha:0<=gi alive i/\gi alive i<=80) (h0:1<=k) (h1:k<=81):0<=Fq gs alive i k/\Fq gs alive i k<=10000:=by
 obtain ⟨g1,g2,g3,g4,g5⟩:=IB.1 hh
 have b1:=ahk (mi:=(AG gs i).2.2.2.1) (st:=(AG gs i).2.2.2.2.2.1) (k:=k) ⟨g1,A0,g4,g5⟩ A0 h1
 have b3:=aFN (mi:=(AG gs i).2.2.2.1) (st:=(AG gs i).2.2.2.2.2.1) (j:=k-1) (k:=k) ⟨g1,g4⟩ A0 A0
 unfold Fq mx Cq;omega
def KG {l:List Int}{i:Int}(h0:0<=i) (h:i<(M l:Int)):gi l i∈l:=by
 rw [IF A0];exact H0 _
theorem aOK {O:List<|List Int}{rows:List Rw}{gs:List Ch}{alive most order:List Int}{level:Int}{t:Tr}{i:Int}(hT:OkT O rows gs alive most order) (hS:OkS rows order t.1 t.2.1) (hi:i∈order) (h0:1<=level) (h1:level<=81):letI b:=Fm O rows gs alive most level t i;OkS rows order b.1 b.2.1:=by
 unfold Fm;split
 ·split
  ·rename_i hc hf
   obtain ⟨⟨o0,o1⟩,o2,o3,o4⟩:=hT.ord i hi
   have hl80:=uP (mi:=(AG gs i).2.2.2.1) (ma:=(AG gs i).2.2.2.2.1) (st:=(AG gs i).2.2.2.2.2.1) (a:=gi most i)
   have hl81:=hc.2
   unfold FP at hl81
   have hm:=aQy (gs:=gs) (alive:=alive) (k:=level) (hT.has i hi) (hT.al _<|KG o0 o3) h0 h1
   have ho:O.getD i.toNat []∈O:=by
    have hl:=hT.ol
    grind
   obtain ⟨r1,r2,r3⟩:=hT.row _ ho
   refine ⟨by simp only;rw [nC];exact hS.len,λk=>?_,λj hj=>by simp only [CH];exact hS.EZ j hj,λk=>by
    have:=hS.lvb k
    rw [T7];split<;>omega⟩
   by_cases hk:k<M t.1
   ·rw [pQ r1 (λr hr=>(r3 r hr).1) hk]
    have hb:=hS.bd k
    split
    ·rename_i hkm
     have hfit:=BP.1 hf _ hkm
     unfold KZ at hfit;rw [Ac,By] at hfit
     have hk2:=hS.len
     have:=hT.cap (CX rows (k:Int)) y8
     omega
    ·omega
   ·rw [Dd,ZK (by rw [nC];omega)]
    simp
  ·exact hS
 ·exact hS
theorem qn {O:List<|List Int}{rows:List Rw}{gs:List Ch}{alive most order:List Int}{level:Int}(hT:OkT O rows gs alive most order) (h0:1<=level) (h1:level<=81):∀(l:List Int) (t:Tr),(∀i∈l,i∈order)->OkS rows order t.1 t.2.1->OkS rows order (swp O rows gs alive most level t l).1 (swp O rows gs alive most level t l).2.1
 | [],t,_,h=>h
 |i::l,t,hl,h=>qn hT h0 h1 l _ (λj hj=>hl j A8)<|aOK hT h (hl i AI) h0 h1
theorem ng {O:List<|List Int}{rows:List Rw}{gs:List Ch}{alive most:List Int}{level:Int}:∀(l:List Int) (t:Tr),(swp O rows gs alive most level t l).2.2=U->t.2.2=U\/level<=80
 | [],t,h=> .inl h
 | i::l,t,h=>by
  rcases ng l _ h with h2|h2
  ·unfold Fm at h2
   split at h2
   ·rename_i hc
    have:=uP (mi:=(AG gs i).2.2.2.1) (ma:=(AG gs i).2.2.2.2.1) (st:=(AG gs i).2.2.2.2.2.1) (a:=gi most i)
    have h3:=hc.2
    unfold FP at h3;omega
   ·grind
  ·grind
theorem aeh {O:List<|List Int}{rows:List Rw}{gs:List Ch}{alive most:List Int}{level:Int}{t:Tr}{i:Int}:M (Fm O rows gs alive most level t i).2.1=M t.2.1:=by
 unfold Fm;split
 ·split
  ·grind
  ·rfl
 ·rfl
def aCc {O:List<|List Int}{rows:List Rw}{gs:List Ch}{alive most:List Int}{level:Int}:∀(l:List Int) (t:Tr),M (swp O rows gs alive most level t l).2.1=M t.2.1
 | [],t=>rfl
 |i::l,t=>(aCc l _).trans aeh
theorem aOS {O:List<|List Int}{rows:List Rw}{gs:List Ch}{alive most order:List Int}(hT:OkT O rows gs alive most order):∀(f:Nat) (level:Int) (sm lv:List Int),1<=level->level<=81->OkS rows order sm lv->M (shl O rows gs alive most order f level sm lv)=M lv/\∀k:Nat,0<=(shl O rows gs alive most order f level sm lv).getD k 0/\(shl O rows gs alive most order f level sm lv).getD k 0<=80
 |0,_,_,lv,_,_,h=>⟨rfl,h.lvb⟩
 | f+1,level,sm,lv,h0,h1,h=>by
  have hk:=qn hT h0 h1 order (sm,lv,X) (λ_ h=>h) h
  have hl:=aCc (O:=O) (rows:=rows) (gs:=gs) (alive:=alive) (most:=most) (level:=level) order (sm,lv,X)
  have hs:=ng (O:=O) (rows:=rows) (gs:=gs) (alive:=alive) (most:=most) (level:=level) order (sm,lv,X)
  rw [shl];split
  ·rename_i hc
   have h80:level<=80:=by
    rcases hs hc with h|h
    ·cases h
    ·exact h
   obtain ⟨g1,g2⟩:=aOS hT f (level+1) _ _ A0 A0 hk
   grind
  ·exact ⟨hl,hk.lvb⟩
def Jr (i:Int):List Rw->Int->List Int
 | [],_=>[]
 |r::rs,j=>(if r.2.contains j then [i] else [])++Jr (i+1) rs j
theorem aeI {o:List<|List Int}{f:List Int->List Int}{j k:Nat}(h:k<M o):(o.modify j f).getD k []=if j=k then f (o.getD k []) else o.getD k []:=by
 grind
theorem aEI {i:Int}:∀ {l:List Int}{o:List<|List Int}{k:Nat},l.Nodup->(∀m∈l,0<=m)->k<M o->(Lh i o l).getD k []=o.getD k []++(if l.contains (k:Int) then [i] else [])
 | [],o,k,_,_,_=>by simp [Lh]
 | m::l,o,k,hn,h0,hk=>by
  obtain ⟨n1,n2⟩:=ME.1 hn
  have hm:=h0 m AI
  rw [nO,aEI n2 (λx hx=>h0 x A8) A8,aeI hk]
  by_cases e:m.toNat=k
  ·have e2:(k:Int)=m:=A0
   grind
  ·rw [AE e]
   have:¬(k:Int)=m:=A0
   simp [this]
def zk (r:Rw):Prop:=r.2.Nodup/\∀m∈r.2,0<=m
def aCv:∀ {rs:List Rw}{o:List<|List Int}{i:Int},M (HL o i rs)=M o
 | [],_,_=>rfl
 |r::rs,o,i=>by rw [HL,aCv,aBz]
theorem aGY:∀ {rs:List Rw}{o:List<|List Int}{i:Int}{k:Nat},(∀r∈rs,zk r)->k<M o->(HL o i rs).getD k []=o.getD k []++Jr i rs k
 | [],o,i,k,_,_=>by simp [HL,Jr]
 |r::rs,o,i,k,h,hk=>by
  obtain ⟨h1,h2⟩:=h r AI;rw [HL,aGY (λx hx=>h x A8) (by rw [aBz];exact hk),aEI h1 h2 hk,Jr,Cl]
theorem TJ:∀ {rs:List Rw}{i j x:Int},x∈Jr i rs j↔i<=x/\x<i+M rs/\(CX rs<|x-i).2.contains j=U
 | [],i,j,x=>by simp [Jr];omega
 | r ::rs,i,j,x=>by
  rw [Jr,Be,TJ]
  by_cases e:x=i
  ·subst e
   have g0:CX (r::rs) (x-x)=r:=by simp [CX]
   rw [g0]
   constructor
   ·rintro (h|h)
    ·split at h
     ·rename_i hc
      grind
     ·cases h
    ·omega
   ·rintro ⟨_,_,h⟩
    rw [AD h]
    simp
  ·have hn:¬x∈(if r.2.contains j then [i] else []):=by
    split
    ·grind
    ·simp
   simp only [Bk]
   constructor
   ·rintro (h|⟨h1,h2,h3⟩)
    ·grind
    ·refine ⟨A0,A0,?_⟩
     exact aL7
   ·rintro ⟨h1,h2,h3⟩
    refine .inr ⟨A0,A0,?_⟩;exact aL7
def nP:∀ {rs:List Rw}{i j:Int},(Jr i rs j).Nodup
 | [],_,_=>List.nodup_nil
 | r::rs,i,j=>by
  rw [Jr];split
  ·rw [x9,ME]
   refine ⟨λh=>?_,nP⟩
   have:=(TJ.1 h).1
   omega
  ·rw [EB];exact nP
theorem aH4:∀ {rs:List Rw}{i j:Int},M (Jr i rs j)<=M rs
 | [],_,_=>Ar _
 |r::rs,i,j=>by
  have:=aH4 (rs:=rs) (i:=i+1) (j:=j)
  rw [Jr]
  grind
def aCu {alive:List Int}:∀ {rs:List Rw}{sm:List Int}{i:Int},M (HK alive sm i rs)=M sm
 | [],_,_=>rfl
 |r::rs,sm,i=>by rw [HK,aCu,CH]
theorem aGW {alive:List Int}:∀ {rs:List Rw}{sm:List Int}{i:Int}{k:Nat},0<=i->k<M sm->(HK alive sm i rs).getD k 0=sm.getD k 0+(if i<=(k:Int)/\(k:Int)<i+M rs then smA alive (CX rs<|(k:Int)-i).2 else 0)
 | [],sm,i,k,_,_=>by
  rw [AE AI]
  simp [HK]
 | r ::rs,sm,i,k,hi,hk=>by
  rw [HK,aGW A0 A8,T7]
  by_cases e:i.toNat=k
  ·have e2:(k:Int)=i:=A0
   rw [AD ⟨e,hk⟩,AE A0,AD A8,e,e2]
   have:CX (r::rs) (i-i)=r:=by simp [CX]
   rw [this];omega
  ·rw [AE λc=>e c.1]
   by_cases c:i+1<=(k:Int)/\(k:Int)<i+1+M rs
   ·rw [AD c,AD A8]
    have:CX (r::rs) ((k:Int)-i)=CX rs ((k:Int)-(i+1)):=by
     unfold CX;rw [show ((k:Int)-i).toNat=((k:Int)-(i+1)).toNat+1 by omega]
     simp
    rw [this]
   ·grind
theorem aOQ {alive:List Int}(ha:∀a∈alive,0<=a/\a<=80):∀ {l:List Int},(∀m∈l,0<=m/\m<(M alive:Int))->0<=smA alive l/\smA alive l<=80*M l
 | [],_=>by simp [smA]
 |m::l,h=>by
  have h1:=aOQ ha (l:=l) λx hx=>h x A8
  have hm:=h m AI
  have:=ha (gi alive m)<|KG hm.1 hm.2
  rw [aEZ];simp only [Bk];omega
def adV {α:Type}{l:List α}(p:α->Bool) (h:l.Nodup):(l.filter p).Nodup:=List.Pairwise.filter p h
def afL {cs:List Cd}{gs:List Ch}{o:Int}{k:Nat}:(H8 cs gs o k).Nodup:=by
 refine adV _ ?_;exact wy _ (λa b h=>A0) kB
def ati {gs:List Ch}{p k:Int}{l:List Int}:k∈E4 gs p l↔k∈l/\usA (AG gs k).2.2.1 p=true:=by simp [E4,DE]
theorem adq {cs:List Cd}{gs:List Ch}{c p:Int}{r:Rw}(h:r∈rowP cs gs c p):r=(Dz<|Ag cs c,E4 gs p<|H8 cs gs c<|M gs)/\M (E4 gs p<|H8 cs gs c<|M gs)>0:=by
 unfold rowP at h;exact ko
theorem pD {cs:List Cd}{gs:List Ch}{r:Rw}:∀ {k:Nat},r∈DH cs gs k->∃c p:Int,(0<=c/\c<(k:Int))/\(p=0\/p=1\/p=2)/\r=(Dz<|Ag cs c,E4 gs p<|H8 cs gs c<|M gs)/\M r.2>0
 |0,h=>Ao
 | k+1,h=>by
  rw [DH,Be] at h;rcases h with h|h
  ·obtain ⟨c,p,h1,h2,h3⟩:=pD h
   grind
  ·unfold lr at h
   rw [Be,Be] at h;rcases h with (h|h) |h
   ·exact y6
   ·exact y6
   ·exact y6
def row_mem {cs:List Cd}{gs:List Ch}{r:Rw}{k:Nat}(h:r∈DH cs gs k):r.2.Nodup/\(∀m∈r.2,0<=m/\m<(M gs:Int))/\M r.2<=M gs/\M r.2>0:=by
 obtain ⟨c,p,h1,h2,h3,h4⟩:=pD h;subst h3;refine ⟨adV _ afL,λm hm=>aFv (ati.1 hm).1,HZ atj pM,h4⟩
def FL (gs:List Ch) (lv:List Int):List Int:=(au<|M gs).map λk:Nat=>Cq gs (k:Int)<|lv.getD k 0
def OL (rows:List Rw):List (List Int):=HL (aq 16 []) 0 rows
def SM (alive:List Int) (rows:List Rw):List Int:=HK alive (aq (M rows) 0) 0 rows
def G7 (cs:List Cd) (os:List ByteArray) (ks:List Ko) (gs:List Ch) (bs:List Ba) (al mo od:List Int):Bool:=BL cs os ks gs bs&&(an (M al=M gs)&&(an (M mo=M gs)&&(al.all Hk&&(mo.all Hk&&Gb od (M gs)))))
def shV (rows:List Rw) (gs:List Ch) (al mo od:List Int):List Int:=shl (OL rows) rows gs al mo od 81 1 (SM al rows)<|aq (M al) 0
def shE (cs:List Cd) (os:List ByteArray) (ks:List Ko) (gs:List Ch) (bs:List Ba) (al mo od:List Int):Int:=if G7 cs os ks gs bs al mo od=U then 0 else 1
def Fk (cs:List Cd) (os:List ByteArray) (ks:List Ko) (gs:List Ch) (bs:List Ba) (al mo od:List Int):List Int:=if G7 cs os ks gs bs al mo od=U then FL gs (shV (DH cs gs<|M cs) gs al mo od) else []
def L9 {cs:List Cd}{os:List ByteArray}{ks:List Ko}{gs:List Ch}{bs:List Ba}{al mo od:List Int}:G7 cs os ks gs bs al mo od=U↔BL cs os ks gs bs=U/\M al=M gs/\M mo=M gs/\al.all Hk=U/\mo.all Hk=U/\Gb od (M gs)=true:=by
 simp [G7]
theorem aQk:∀ {l:List Int}{f:Int},Js f l<=f
 | [],f=>De _
 |n::l,f=>by
  have:Js f (n::l)=Js (if n<f then n else f) l:=rfl
  have:=aQk (l:=l) (f:=if n<f then n else f)
  split at this<;>rename_i h
  ·grind
  ·grind
def arz {c:Cd}:Dz c<=c.2.2.1:=by
 unfold Dz;split<;>exact aQk
def aDz {rows:List Rw}:M (OL rows)=16:=by rw [OL,aCv,Ce]
theorem uc {rows:List Rw}(h:∀r∈rows,zk r) {k:Nat}(hk:k<16):(OL rows).getD k []=Jr 0 rows k:=by
 rw [OL,aGY h A8]
 have:(aq 16 ([]:List Int)).getD k []=[]:=by
  grind
 grind
def apz {cs:List Cd}{gs:List Ch}{k:Nat}:∀r∈DH cs gs k,zk r:=λr hr=>⟨(row_mem hr).1,λm hm=>((row_mem hr).2.1 m hm).1⟩
def aCS {al:List Int}{rows:List Rw}:M (SM al rows)=M rows:=by rw [SM,aCu,Ce]
theorem aRr {al:List Int}{rows:List Rw}{k:Nat}(hk:k<M rows):(SM al rows).getD k 0=smA al (CX rows k).2:=by
 rw [SM,aGW (De _) A8,AD A0,Po]
 grind
def aCJ {od:List Int}{n i:Int}(h:Gb od n=U) (hi:i∈od):0<=i/\i<n:=by
 unfold Gb at h;simp only [AY,BP] at h;exact o7.1<|h.2.1 i hi
theorem akG {cs:List Cd}{os:List ByteArray}{ks:List Ko}{gs:List Ch}{bs:List Ba}{al mo od:List Int}(h:G7 cs os ks gs bs al mo od=U):letI b:=DH cs gs<|M cs;OkT (OL b) b gs al mo od/\OkS b od (SM al b) (aq (M al) 0):=by
 obtain ⟨hv,h1,h2,h3,h4,h5⟩:=L9.1 h
 have hl:=(DF.1 hv).1
 have ha:∀a∈al,0<=a/\a<=80:=λa ha=>QH.1<|BP.1 h3 a ha
 refine ⟨⟨aDz,λi hi=>?_,ha,λa ha=>QH.1<|BP.1 h4 a ha,λi hi=>?_,λo ho=>?_,λr hr=>?_⟩,⟨aCS,λk=>?_,λi hi=>?_,λk=>?_⟩⟩
 ·have:=aCJ h5 hi
  omega
 ·have hi:=aCJ h5 hi
  have:=Oo hv hi.1 hi.2
  exact aLj
 ·obtain ⟨k,hk,rfl⟩:=I4.1 ho
  rw [aDz] at hk
  have e:=uc (rows:=DH cs gs<|M cs) apz hk
  rw [Dd,DQ A8,kA] at e;rw [e]
  have hln:=aH4 (rs:=DH cs gs<|M cs) (i:=0) (j:=k)
  have hrn:=o6 (cs:=cs) (gs:=gs) (k:=M cs)
  refine ⟨nP,A0,λr hr=>?_⟩
  have:=TJ.1 hr
  omega
 ·obtain ⟨c,p,hc,hp,rfl,_⟩:=pD hr
  have hcv:=oy hv hc.1 hc.2
  unfold Hu at hcv;simp only [AY,BV] at hcv
  have:=arz (c:=Ag cs c)
  simp only;omega
 ·by_cases hk:k<M (DH cs gs<|M cs)
  ·rw [aRr hk]
   have hr:CX (DH cs gs<|M cs) (k:Int)∈DH cs gs (M cs):=by rw [oE yj];exact H0 _
   obtain ⟨m1,m2,m3,_⟩:=row_mem hr
   have:=aOQ ha (l:=(CX (DH cs gs<|M cs) (k:Int)).2) λm hm=>A8
   omega
  ·rw [Dd,ZK (by rw [aCS];omega)]
   simp
 ·have:=aCJ h5 hi
  rw [Ce];omega
 ·have:(aq (M al) (0:Int)).getD k 0=0:=by
   simp only [List.getD,ZI];split<;>rfl
  omega
theorem aGV {xs:List Int}{r:Nat}{v:Int}:(xs++aq (r+1) 0).set (M xs) v=xs++[v]++aq r 0:=by
 grind
def SR (gs:List Ch) (lv:List Int) (n:Nat):List Int:=(au n).map λk:Nat=>Cq gs (k:Int)<|lv.getD k 0
def ag5 {gs:List Ch}{lv:List Int}{n:Nat}:SR gs lv (n+1)=SR gs lv n++[Cq gs (n:Int)<|lv.getD n 0]:=by
 simp [SR,SX]
def ad4 {gs:List Ch}{lv:List Int}{n:Nat}:M (SR gs lv n)=n:=by simp [SR]
theorem ntW {b:Bool}(h:(!b)=U):b=false:=A8
theorem nfW {b:Bool}(h:(!b)=X):b=true:=A8
def wt (n:Int):Int:=(n*1000000+999799) / 999800
def wtA (n:Int):Int:=if inB n 0 1000000=U then wt n else 0
def wtE (n:Int):Int:=if inB n 0 1000000=U then 0 else 1
def aJc {m n:Int}:m*999800 / 1000000>=n↔wt n<=m:=by
 unfold wt;omega
def amD {a b:Int}(a0:0<=a) (a1:a<=3000000) (b0:0<=b) (b1:b<=1000000):0<=a*b/\a*b<=3000000000000:=
 ⟨Ib a0 b0,OR (V7 b1 a0) A0⟩
def aaH {n:Int}(h0:0<=n):0<=wt n/\wt n<=2*n+2:=by
 unfold wt;omega
abbrev AQ:Ty:=.pair A7<|.pair A7<|.pair A7<|.pair A7 A7
abbrev Le:=Int×Int×Int×Int×Int
instance:Coe (List Le) LV:=⟨.xl AQ⟩
def An (l:List Le) (n:Int):Le:=l.getD n.toNat (0,0,0,0,0)
def D5 (x:Le):Bool:=inB x.1 1 1000000&&(inB x.2.1 0 15&&(inB x.2.2.1 0 80&&(inB x.2.2.2.1 0 1000000&&inB x.2.2.2.2 1 1000)))
def Jh (b x:Le):Bool:=an (x.1>b.1)&&an (x.2.2.2.1>=b.2.2.2.1)
def Gn (l:List Le) (j:Int):Bool:=D5 (An l j)&&(an (j=0) ||Jh (An l<|j-1) (An l j))
def BC (l:List Le):Bool:=an (M l<=64)&&Dc (M l) (Gn l)
def Nf {l:List Le}{n:Int}(h:n.toNat<M l):An l n=l[n.toNat]:=Mg h
def W9 {l:List Le}{i:Int}(h0:0<=i) (h:i<M l):l.drop i.toNat=An l i::l.drop (i+1).toNat/\l.take (i+1).toNat=l.take i.toNat++[An l i]:=QK h0 h
theorem MR {l:List Le}{i:Int}(h0:0<=i) (h:i<M l):An l i∈l:=by
 rw [Nf A0]
 grind
def LD {x:Le}:D5 x=U↔(1<=x.1/\x.1<=1000000)/\(0<=x.2.1/\x.2.1<=15)/\(0<=x.2.2.1/\x.2.2.1<=80)/\(0<=x.2.2.2.1/\x.2.2.2.1<=1000000)/\1<=x.2.2.2.2/\x.2.2.2.2<=1000:=by
 unfold D5;simp only [AY,BV]
theorem GS {l:List Le}(h:BC l=U):M l<=64/\∀x∈l,D5 x=true:=by
 unfold BC at h;rw [AY] at h;refine ⟨Cx h.1,λx hx=>?_⟩
 obtain ⟨k,hk,rfl⟩:=I4.1 hx
 have:=Dy.1 h.2 k A0
 unfold Gn at this;rw [AY,Nf A8] at this
 grind
def DB (x:Le):Int:=x.2.2.2.1+10+wt x.2.2.2.2
def LZ (t:Int) (x:Le):Bool:=an<|DB x>t
def Ka (l:List Le) (t:Int):Bool:=BC l&&inB t 0 1100000
def BW (l:List Le) (t:Int):List Le:=if Ka l t=U then l.filter (LZ t) else []
def D9 (l:List Le) (t:Int):Int:=if Ka l t=U then 0 else 1
def FN (l:List Le) (x:Le):Int:=if (BC l&&D5 x)=U then (if (an (M l>0)&&!Jh (An l<|(M l:Int)-1) x)=U then 12 else if M l=64 then 10 else 0) else 1
def Gk (l:List Le) (x:Le):List Le:=if FN l x=0 then l++[x] else []
end Go.Proofs.YtipodhghjclmbaaGreatDoor
namespace Go.Sx
open Go.Proofs.YtipodhghjclmbaaGreatDoor
variable {P : Program} {G : B1} {Γ : Specs} {σ : Type}
structure CpD (σ:Type) where
 A:σ->List LV
 B:σ->List AB
 g:List LV->List AB->σ
 E:σ->Prop
 mu:σ->Nat
 r:σ->σ
namespace CpD
variable (D : CpD σ)
def m (n:Nat) (args:List LV) (H:List AB):T (LV×List AB):=(Ul H args).bind λa=>(aR H H).bind λb=>
 .req (D.E (D.g a b)/\D.mu (D.g a b)<n/\D.A (D.g a b)=a/\D.B (D.g a b)=b) (.ok (.v<|.tuple #[],D.B<|D.r<|D.g a b))
variable {D}
def eh {n:Nat}{args:List LV}{H:List AB}{q:LV×List AB}(h:(D.m n args H).all λz=>z=q):∃s,D.E s/\D.mu s<n/\D.A s=args/\D.B s=H/\q=(.v<|.tuple #[],D.B<|D.r s):=by
 unfold m at h;obtain ⟨a,h1,h2⟩:=T.B4 h;obtain ⟨b,h3,h4⟩:=T.B4 h2
 have e1:=cg h1
 have e2:=dS h3
 obtain ⟨⟨g1,g2,g3,g4⟩,g5⟩:=h4;exact ⟨_,g1,g2,g3.trans e1,g4.trans e2,g5.symm⟩
def one (c:FuncId) (m:List LV->List AB->T (LV×List AB)):Does:=λg=>if g=c then ah m else aj
def WY {c:FuncId}{m:List LV->List AB->T (LV×List AB)}(h:DV P G c m):∀g m',one c m g=ah m'->DV P G g m':=λg m' e=>by
 unfold one at e;split at e
 ·rename_i q
  subst q;cases e;exact h
 ·cases e
def sound {LL:DG}{c:FuncId}{d:Nat}(hΓ:∀g S,Γ g=ah S->Valid P G g S) (hLL:EF P G LL)
  (hstep:∀(n:Nat) (s:σ),D.E s->D.mu s<=n->SB (λq=>q=(.v<|.tuple #[],D.B<|D.r s)) ((ER P G Γ LL<|Uu P G Γ LL (one c<|D.m n) d).k c (D.A s)<|D.B s)):∀n,DV P G c (D.m n)
 |0=>λw0 Z0 Z β H w args vals lv H' hW hr hok hq=>by
  obtain ⟨s,_,h,_⟩:=eh hq;exact absurd h (Nat.not_lt_zero _)
 |n+1=>DV.walk hΓ hLL (aCB hΓ hLL (WY<|sound hΓ hLL hstep n) d) λargs H lv H' hq=>by
  obtain ⟨s,h1,h2,h3,h4,h5⟩:=eh hq;rw [<-h3,<-h4,h5];exact (hstep n s h1<|Nat.le_of_lt_succ h2).out
end CpD
end Go.Sx
namespace Go.Sx
open Go Go.RowKit Go.Proofs.YtipodhghjclmbaaGreatDoor
variable {P : Program} {G : B1} {Γ : Specs} {σ τ : Type}
def Qe (ks:List Nat) (H:List AB):List AB:=ks.foldl (λH k=>H.set k ⟨[],0,.dead,X⟩) H
def ae8 (ks:List Nat):∀(H:List AB),M (Qe ks H)=M H:=by
 induction ks with
 |nil=>intro H;rfl
 |cons k ks ih=>intro H;simp only [Qe,Jy] at ih|-;rw [ih];simp
def RW.kills {w0 w:World}{Z0:Gz}{Z:Nat->Prop}{β:Nat->Loc}(ks:List Nat):∀ {H:List AB},RW G w0 Z0 Z β H w->RW G w0 Z0 Z β (Qe ks H) w:=by
 induction ks with
 |nil=>intro H h;exact h
 |cons k ks ih=>intro H h;simp only [Qe,Jy] at ih|-;exact ih<|h.kill k 0
structure Cr (σ τ:Type) where
 A:σ->List LV
 B:σ->List AB
 g:List LV->List AB->σ
 E:σ->Prop
 kl:List Nat
 us:List Up
 V:τ->LV
 C:τ->List AB
 r:σ->τ
namespace Cr
variable {D : Cr σ τ}
def m (D:Cr σ τ) (args:List LV) (H:List AB):T (LV×List AB):=(Ul (Qe D.kl H) args).bind λa=>(aR (Qe D.kl H)<|Qe D.kl H).bind λb=>
 .req (D.E (D.g a b)/\D.A (D.g a b)=a/\D.B (D.g a b)=b) (.ok (D.V<|D.r<|D.g a b,D.C<|D.r<|D.g a b))
def eh {args:List LV}{H:List AB}{q:LV×List AB}(h:(D.m args H).all λz=>z=q):∃s,D.E s/\D.A s=args/\D.B s=Qe D.kl H/\q=(D.V<|D.r s,D.C<|D.r s):=by
 obtain ⟨a,h1,h2⟩:=T.B4 h;obtain ⟨b,h3,h4⟩:=T.B4 h2
 have e1:=cg h1
 have e2:=dS h3
 obtain ⟨⟨g1,g3,g4⟩,g5⟩:=h4;exact ⟨_,g1,g3.trans e1,g4.trans e2,g5.symm⟩
theorem sound {LL:DG}{K:Hand}{c:FuncId}{t:σ->T τ}(hΓ:∀g S,Γ g=ah S->Valid P G g S) (hLL:EF P G LL) (hK:FE P G K)
  (hnf:∀s,((ER P G Γ LL K).k c (D.A s)<|D.B s).bind (λq=>G8 (M<|D.B s) [0] D.us .normal (q.1::D.A s) q.2)=(t s).mp (λs2=>⟨.normal,M (D.A s)+1,[D.V s2],D.C s2,U⟩))
  (ht:∀s,D.E s->SB (λs2=>s2=D.r s) (t s)):DV P G c D.m:=λw0 Z0 Z β H w args vals lv H' hW hr hok hq=>by
 obtain ⟨s,h1,h2,h3,h4⟩:=eh hq;simp only [Ax] at h4;obtain ⟨rfl,rfl⟩:=h4
 have hall:((t s).mp λs2=>(⟨.normal,M (D.A s)+1,[D.V s2],D.C s2,U⟩:Vw)).all (λz=>z=⟨.normal,M (D.A s)+1,[D.V<|D.r s],D.C<|D.r s,U⟩):=T.Wx<|T.BY (λx hx=>by rw [hx]) (ht s h1).out
 rw [<-hnf s] at hall;obtain ⟨⟨lv1,H1⟩,q1,q2⟩:=T.B4 hall;simp only at q2
 have hWk:RW G w0 Z0 Z β (D.B s) w:=by rw [h3];exact hW.kills D.kl
 have hlen:M (D.B s)=M H:=by rw [h3,ae8]
 have hsz:vals.size=M args:=by have:=hr.length;simpa using this
 let a0:Act:={tmps:=vals,defers:=[]}
 have hF0:RF [] β Z w (M<|D.B s) args a0:=by
  refine ⟨hsz,λt x hx=>?_,rfl,λd hd=>VX⟩
  obtain ⟨y,e1,e2⟩:=RL.get t x hr hx
  have:vals.getD t undef=y:=by
   have e3:t<vals.size:=A8
   have e4:vals[t]? =ah y:=by simpa using e1
   rw [Pl e3] at e4
   simp [Array.getD,e3,Dw e4]
  refine ⟨?_,by rw [hlen];exact AS.get t x hok hx⟩
  show R β Z w x (vals.getD t undef)
  rw [this];exact e2
 rw [h2] at q1;refine ((nD hΓ hLL hK).k w0 _ Z β (D.B s) w c args vals lv1 H1 (hWk.hold hF0) hr (by rw [hlen];exact hok) q1).mono λe w' ⟨v,he,Z',β',r1,r2,r3⟩=>⟨v,he,?_⟩
 have hF1:=RW.held hF0 r1
 have hF2:RF [] β' Z' w' (M H1) (lv1::D.A s) {tmps:=#[v]++vals,defers:=[]}:=by
  refine ⟨by simp [h2,hsz];omega,λt x hx=>?_,rfl,λd hd=>VX⟩
  cases t with
  | zero=>
   simp only [List.getElem?_cons_zero,Ah] at hx;subst hx
   exact ⟨by
    have e:(#[v]++vals).getD 0 undef=v:=aMi
    rw [e];exact r2,r3⟩
  | succ t=>
   rw [h2] at hx
   have:=hF1.get t x hx
   have e:(#[v]++vals).getD (t+1) undef=vals.getD t undef:=by
    have ht:t<vals.size:=A8
    simp [Array.getD,ht,Array.getElem_append,show t+1<1+vals.size by omega]
   grind
 have hgh:AN (M<|D.B s) Z0:=λp hp=>by rw [hlen];exact (hW.gh p hp).2
 obtain ⟨_,_,Z2,β2,k1,k2⟩:=bq hgh r1.less hF2 q2 rfl;refine ⟨Z2,β2,k1,?_⟩
 have hx:(Hf (M (lv1::D.A s)) [0] [D.V<|D.r s])[0]? =ah (D.V<|D.r s):=by
  simp [Hf,QL,at_]
 have:=k2.get 0 _ hx
 have e:(#[v]++vals).getD 0 undef=v:=aMi
 refine ⟨?_,this.2⟩
 have h5:=this.1
 rwa [e] at h5
end Cr
def EJ (n m:Nat):List Nat:=(au n).map (·+m)++au m
theorem ave {n m i:Nat}(h:i<n):(EJ n m)[i]? =ah (i+m):=by
 unfold EJ;rw [HW A8]
 simp [h]
def avf {n m i:Nat}(h:i<m):(EJ n m)[n+i]? =ah i:=by
 unfold EJ
 simp [h]
def aGU {n m:Nat}:M (EJ n m)=n+m:=by simp [EJ]
theorem oR {n m k:Nat}:k∈EJ n m↔k<n+m:=by
 unfold EJ;simp only [Be,Ej,IZ];refine ⟨λh=>?_,λh=>?_⟩
 ·omega
 ·by_cases h1:k<m
  ·grind
  ·exact .inl ⟨k-m,A0,A0⟩
theorem aDU:∀ {ks:List Nat},ks.Nodup->nodupB ks=U
 | [],_=>rfl
 |k::ks,h=>by
  obtain ⟨h1,h2⟩:=ME.1 h;simp only [nodupB,AY,Cs];exact ⟨A8,aDU h2⟩
theorem afs {n m:Nat}:nodupB (EJ n m)=true:=by
 apply aDU
 unfold EJ;rw [xJ];refine ⟨?_,kB,λx hx y hy e=>?_⟩
 ·exact wy _ (λa b (h:a≠b) e=>h A8)<|kB (n:=n)
 ·obtain ⟨j,_,rfl⟩:=Ej.1 hx
  have:=IZ.1 hy
  omega
theorem RW.join {w0 w w':World}{Z0:Gz}{Z Z':Nat->Prop}{β β':Nat->Loc}{H Hn:List AB}(hW:RW G w0 Z0 Z β H w) (hS:RW G w ⟨Z,[],[]⟩ Z' β' Hn w'):
  ∃β2,(∀k,k<M H->β2 k=β k)/\(∃β1,(∀k,k<M Hn->β1 k=β' k)/\Rn (EJ (M H)<|M Hn) β1 β2)/\RW G w0 Z0 (λb=>Z b\/Z' b) β2 (H++Hn.map (IN<|EJ (M H)<|M Hn)) w':=by
 generalize hn:M H=n;generalize hm:M Hn=m
 let β1:Nat->Loc:=λk=>if k<m then β' k else β (k-m)
 have hb1:∀k,k<m->β1 k=β' k:=λk hk=>by simp only [β1];rw [AD hk]
 have hb1':∀k,β1 (k+m)=β k:=λk=>A8
 have hD:RW G w ⟨Z,[],[]⟩ Z' β1 (Hn++aq n G3) w':=hS.acE λk hk=>hb1 k<|hm▸hk
 have hget:∀k,k<m->(Hn++aq n G3)[k]? =Hn[k]? :=λk hk=>HW<|hm▸hk
 have hgetd:∀k,m<=k->k<n+m->(Hn++aq n G3)[k]? =ah G3:=λk h1 h2=>by
  grind
 have hcl:KE (Hn++aq n G3) (EJ n m) []=true:=by
  unfold KE;simp only [AY,BP];refine ⟨λx hx=>by simp [ownsL] at hx,λk hk=>?_⟩
  have hk:=oR.1 hk
  by_cases h1:k<m
  ·rw [hget k h1]
   obtain ⟨b,hb⟩:∃b,Hn[k]? =ah b:=⟨_,DQ<|hm▸h1⟩;rw [hb];simp only [BP];intro j hj
   have:=aEP (hS.blk k b hb).2 j hj
   rw [ZJ,oR];omega
  ·rw [hgetd k A0 hk]
   simp [G3,AB.owns,ownsL]
 obtain ⟨β2,r1,r2⟩:=hD.ren (N:=0) (Z0:=⟨Z,[],[]⟩) (λp hp=>lV) hcl afs MI
 have hag:∀k,k<n->β2 k=β k:=λk hk=>by rw [r1 k (k+m)<|ave hk,hb1']
 have hnew:∀i,i<m->((EJ n m).map λk=>IN (EJ n m)<|(Hn++aq n G3).getD k U2)[n+i]? =(Hn[i]?).map (IN<|EJ n m):=λi hi=>by
  rw [DS,avf hi];simp only [JQ,Dd,hget i hi];rw [DQ<|hm▸hi]
  simp
 refine ⟨β2,hag,⟨β1,hb1,r1⟩,?_⟩
 have hbw:Below w.heap.size w w':=hS.below
 have old:∀i b,(H++Hn.map (IN<|EJ n m))[i]? =ah b->(i<n/\H[i]? =ah b/\β2 i=β i)\/(n<=i/\((EJ n m).map λk=>IN (EJ n m)<|(Hn++aq n G3).getD k U2)[i]? =ah b):=λi b h=>by
  by_cases hi:i<n
  ·rw [HW<|hn▸hi] at h
   exact .inl ⟨hi,h,hag i hi⟩
  ·have hlt:=(Dv.1 h).1
   simp only [BF,G0,hn,hm] at hlt;rw [GL A0,DS,hn] at h;refine .inr ⟨A0,?_⟩
   have:=hnew (i-n) A0
   rw [show n+(i-n)=i by omega] at this
   rw [this];exact h
 have hlive:∀i b,i<n->β2 i=β i->(live β2 i b↔live β i b):=λi b _ e=>by unfold live;rw [e]
 have hlen:M (H++Hn.map (IN<|EJ n m))=n+m:=by simp [hn,hm]
 have hlen2:M ((EJ n m).map λk=>IN (EJ n m)<|(Hn++aq n G3).getD k U2)=n+m:=by simp [aGU]
 refine ⟨⟨hbw.os.trans hW.below.os,hbw.tape.trans hW.below.tape,hbw.output.trans hW.below.output,HZ hW.below.size hbw.size,λk hk=>?_⟩,λb hz=>?_,λb hz=>?_,λi b hb hl hp=>?_,λi b hb hl hp=>?_,λi b hb hl=>?_,λi j bi bj hi hj li lj pi e=>?_,λi b hb=>?_,?_,λp hp=>?_,λD hD=>?_⟩
 ·rw [hbw.block k<|ZD hk hW.below.size];exact hW.below.block k hk
 ·rcases hz with h|h
  ·exact ZD (hW.Bb b h) hbw.size
  ·exact hS.Bb b h
 ·rcases hz with h|h
  ·exact hW.EX b h
  ·rcases hS.EX b h with h|h
   ·exact hW.EX b h
   ·exact .inr<|HZ hW.below.size h
 ·rcases old i b hb with ⟨h1,h2,h3⟩ |⟨h1,h2⟩
  ·have hl':=(hlive i b h1 h3).1 hl
   rw [h3];intro hz;rcases hz with h|h
   ·exact hW.Cf i b h2 hl' hp h
   ·rcases hS.EX _ h with h|h
    ·exact hW.Cf i b h2 hl' hp h
    ·have:=hW.lt h2 hl'
     omega
  ·intro hz
   rcases hz with h|h
   ·have h4:=r2.low i b h2 hl
    have:=hW.Bb _ h
    omega
   ·exact r2.Cf i b h2 hl hp h
 ·rcases old i b hb with ⟨h1,h2,h3⟩ |⟨h1,h2⟩
  ·rw [h3];exact .inl<|hW.G6 i b h2 ((hlive i b h1 h3).1 hl) hp
  ·exact .inr<|r2.G6 i b h2 hl hp
 ·rcases old i b hb with ⟨h1,h2,h3⟩ |⟨h1,h2⟩
  ·rw [h3];exact hW.low i b h2<|(hlive i b h1 h3).1 hl
  ·exact HZ hW.below.size<|r2.low i b h2 hl
 ·rcases old i bi hi with ⟨h1,h2,h3⟩ |⟨h1,h2⟩<;>rcases old j bj hj with ⟨g1,g2,g3⟩ |⟨g1,g2⟩
  ·rw [h3,g3] at e
   exact hW.inj i j bi bj h2 g2 ((hlive i bi h1 h3).1 li) ((hlive j bj g1 g3).1 lj) pi e
  ·rw [h3] at e
   have:=hW.lt h2<|(hlive i bi h1 h3).1 li
   have:=r2.low j bj g2 lj
   omega
  ·rw [g3] at e
   have:=hW.lt g2<|(hlive j bj g1 g3).1 lj
   have:=r2.low i bi h2 li
   omega
  ·exact r2.inj i j bi bj h2 g2 li lj pi e
 ·rcases old i b hb with ⟨h1,h2,h3⟩ |⟨h1,h2⟩
  ·obtain ⟨q1,q2⟩:=hW.blk i b h2
   refine ⟨BZ.keep (n:=M H) (λk hk=>hag k<|hn▸hk) (λ_ h=> .inl h) (λb hz=>hbw.block b<|hW.Bb b hz) h3 (λhl=>hbw.block _<|hW.lt h2 hl) q2 q1,?_⟩
   rw [hlen]
   exact ⟨AS.mono A0 _ q2.1,by
    have:=q2.2
    cases hk:b.k with
    |mp kd ks vs=>rw [hk] at this;exact AS.mono A0 _ this
    |_=>trivial⟩
  ·obtain ⟨q1,q2⟩:=r2.blk i b h2
   refine ⟨BZ.keep (n:=n+m) (λ_ _=>rfl) (λ_ h=> .inr h) (λ_ _=>rfl) rfl (λ_=>rfl) (by rw [hlen2] at q2;exact q2) q1,?_⟩
   rw [hlen];rw [hlen2] at q2;exact q2
 ·exact hW.CW.mono (λ_ h=> .inl h) λb hz=>hbw.block b<|hW.Bb b hz
 ·obtain ⟨q1,q2⟩:=hW.gh p hp
  exact ⟨R.mono (n:=M H) (λk hk=>hag k<|hn▸hk) (λ_ h=> .inl h) (λb hz=>hbw.block b<|hW.Bb b hz) _ _ q2 q1,okV.mono (by rw [hlen];omega) _ q2⟩
 ·obtain ⟨q1,q2⟩:=hW.Ci D hD
  exact ⟨.inl q1,by unfold Fc at*;rw [hbw.block D<|hW.Bb D q1];exact q2⟩
def QU (S:List LV->T (LV×List AB)) (args:List LV) (H:List AB):T (LV×List AB):=
 if noOwnL args then (S args).bind λq=> .ok (renV (EJ (M H)<|M q.2) q.1,H++q.2.map (IN<|EJ (M H)<|M q.2)) else .no
theorem aFD {g:FuncId}{m:List LV->List AB->T (LV×List AB)}(h:DV P G g m):DV P G g (QU λargs=>m args []):=λw0 Z0 Z β H w args vals lv H' hW hr hok hq=>by
 unfold QU at hq;split at hq
 ·rename_i hno
  obtain ⟨⟨lv1,Hn⟩,h1,h2⟩:=T.B4 hq;obtain ⟨rfl,rfl⟩:=h2
  have hok0:=noOwnL_ok args hno hok
  have hW1:RW G w ⟨Z,[],[]⟩ Z β [] w:=⟨Below.refl _ _,hW.Bb,λb hz=> .inl hz,λk b hb=>A8,λk b hb=>A8,λk b hb=>A8,λi j bi bj hb=>AI,λk b hb=>A8,hW.CW,λp hp=>lV,λD hD=>(by cases hD)⟩
  refine (h w ⟨Z,[],[]⟩ Z β [] w args vals lv1 Hn hW1 hr hok0 h1).mono λe w' ⟨v,he,Z',β',r1,r2,r3⟩=>⟨v,he,?_⟩
  obtain ⟨β2,a1,⟨β1,a2,a3⟩,a4⟩:=hW.join r1;refine ⟨_,β2,a4,?_,?_⟩
  ·have q:=R.mono (n:=M Hn) (Z':=λb=>Z b\/Z' b) (w':=w') a2 (λ_ h=> .inr h) (λ_ _=>rfl) _ _ r3 r2
   exact ren_R a3 _ _ (λk hk=>oR.2 aMy) r3 q
  ·have:=ren_ok (ks:=EJ (M H)<|M Hn) _ (λk hk=>oR.2 aMy) r3
   rw [aGU] at this
   grind
 ·cases hq
end Go.Sx
namespace Go.Proofs.YtipodhghjclmbaaGreatDoor
set_option maxRecDepth 100000
set_option maxHeartbeats 4000000
open Go.Proofs.Tryz
open Go.Sx
def Ue:Nat->Int
 |0=>1
 |1=>1
 |2=>1
 |3=>0
 |4=>2
 |5=>2
 |_=>3
def We (j:Nat):Int:=[-1,-1,-1,-1,-1,-1,1,-1,-1,-1,-1,-1,-1,0,-1,-1,-1,-3,-1,2,-1,-1,-1,-1,-1,-1,-3,-1,-1,-1,-1,-1,-1,4,-1,-1,-1,-1,-1,-1,-3,-1,-2,-2,-2,-2,-2,-2,-2,-2,-2,-2,-2,-2,0,1,1,1,1,-3].getD j 0
def aBE:Nat->Int
 |0=>4
 |1=>1
 |2=>1
 |3=>4
 |_=>2
def AV:B1:=fun
 |2=>ah (8,λj=> Y J<|Ue j)
 |1=>ah (60,λj=> Y J<|We j)
 |0=>ah (5,λj=> Y J<|aBE j)
 |_=>aj
structure Bd where
  f:FuncId
  S:List LV->T LV
  v:Valid prog AV f S
def gm:List Bd->Specs
  | [],_=>aj
  |b::l,g=>if g=b.f then ah b.S else gm l g
def gk:∀(l:List Bd) g S,gm l g=ah S->Valid prog AV g S
  | [],_,_,h=>Ao
  | b::l,g,S,h=>by
    simp only [gm] at h;split at h
    · rename_i hg;simp only [Ah] at h;subst h hg;exact b.v
    · exact gk l g S h
structure LBx where
  L:DG
  h:EF prog AV L
structure Ay where
  K:Hand
  h:FE prog AV K
structure Db where
  g:FuncId
  m:List LV->List AB->T (LV×List AB)
  c:DV prog AV g m
instance {f:FuncId} {S:List LV->T LV}:CoeOut (Valid prog AV f S) Bd:=⟨λv=>⟨f,S,v⟩⟩
instance:Coe (List Bd) Specs:=⟨gm⟩
instance:Coe Ay Hand:=⟨Ay.K⟩
def kN:Ay:=⟨Fp,Q9⟩
def l0 (l:List Bd):LBx:=⟨Dp prog AV (gm l) 20 2,Hg<|gk l⟩
def la (id:Nat) {g:FuncId}{N:Nat}{t:List LV->List AB->T (Ex×List LV×List AB)}{fn:Func}{bd:Code}(hfn:prog.funcs[g]? =ah fn) (ht:Ga prog AV (AN N) (.loop bd) t) (h:LBx) (hc:fn.body=ah (fn.body.getD .skip):=by kernel_rfl) (hid:(BD<|fn.body.getD .skip).filter (λb=>GY b==id)=[bd]:=by kernel_rfl):LBx:=⟨CR g N id t h.L,D6 hfn hc hid ht h.h⟩
def kI (l:List Bd) (h:LBx):Ay:=⟨inl prog AV (gm l) h.L 9,aCT (gk l) h.h 9⟩
def dm:List Db->Does
  | [],_=>aj
  |p::ps,g=>if g=p.g then ah p.m else dm ps g
def dk:∀(l:List Db) g m,dm l g=ah m->DV prog AV g m
  | [],_,_,e=>Q3
  | p::ps,g,m,e=>by
    simp only [dm] at e;split at e
    · rename_i hg;simp only [Ah] at e;subst e hg;exact p.c
    · exact dk ps g m e
def I2 (l:List Bd) (h:LBx) (C:List Db):Ay:=⟨Uu prog AV (gm l) h.L (dm C) 9,aCB (gk l) h.h (dk C) 9⟩
abbrev VV (f:FuncId) (S:List LV->T LV):=Valid prog AV f S
abbrev SA {σ:Type}(N:Nat) (b:Code) (D:AT σ):=Ga prog AV (AN N) (.loop b) D.lp
abbrev uS (fn:Func) (S:List LV->T LV):=Ju prog fn.params.toList S
abbrev lN (c:Code) (k:Nat):Code:=((BD c)[k]?).getD .skip
abbrev bN (fn:Func) (k:Nat):Code:=lN (fn.body.getD .skip) k
def vo {f:FuncId}{fn:Func}{S:List LV->T LV}(hfn:prog.funcs[f]? =ah fn) (l:List Bd) (h:Ay) (hS:∀args lv,(S args).all (λx=>x=lv)->SB (λx=>x=lv) (Bi prog AV (gm l) h.K Al fn<|canL args)) (hc:fn.body=ah (fn.body.getD .skip):=by kernel_rfl) (e:BD (fn.body.getD .skip)=[]:=by kernel_rfl):Valid prog AV f (Ju prog fn.params.toList S):=nX hfn hc (gk l) h.h (oh e) λa v q=>(hS a v q).out
def vl {f:FuncId}{fn:Func}{S:List LV->T LV}{t:List LV->List AB->T (Ex×List LV×List AB)}{bd:Code}(hfn:prog.funcs[f]? =ah fn) (l:List Bd) (h:Ay) (k:Nat) (sn:Sound prog AV (.loop bd) t) (hS:∀args lv,(S args).all (λx=>x=lv)->SB (λx=>x=lv) (Bi prog AV (gm l) h.K (λi=>if i=k then t else Al i) fn<|canL args)) (hc:fn.body=ah (fn.body.getD .skip):=by kernel_rfl) (e:BD (fn.body.getD .skip)=[bd]:=by kernel_rfl) (hk:GY bd=k:=by kernel_rfl):Valid prog AV f (Ju prog fn.params.toList S):=nX hfn hc (gk l) h.h (L:=λi=>if i=k then t else Al i) (λb hb=>by
  rw [e,HY] at hb;subst hb
  show Sound _ _ _ (if GY b=k then t else Al (GY b))
  rw [AD hk];exact sn) λa v q=>(hS a v q).out
def vm {f:FuncId}{fn:Func}{S:List LV->T LV}{L:LN}(hfn:prog.funcs[f]? =ah fn) (l:List Bd) (h:Ay) (hL:∀b∈BD (fn.body.getD .skip),Sound prog AV (.loop b)<|L<|GY b) (hS:∀args lv,(S args).all (λx=>x=lv)->SB (λx=>x=lv) (Bi prog AV (gm l) h.K L fn<|canL args)) (hc:fn.body=ah (fn.body.getD .skip):=by kernel_rfl):Valid prog AV f (Ju prog fn.params.toList S):=nX hfn hc (gk l) h.h hL λa v q=>(hS a v q).out
def Aq {t:T LV}(t':T LV) {K:LV->Prop}(h':t'.all K) (h:t=t':=by kernel_rfl):SB K t:=⟨aDt h h'⟩
def Da {σ:Type}(I:σ->Prop) (mu:σ->Nat) (Q:Ex->σ->σ->Prop) (t:σ->T (Rd σ)):Prop:=∀s,I s->DK (λs'=>I s'/\mu s'<mu s) (λx s'=>Q x s s') ((t s).rd s)
def Rq {σ:Type}(I:σ->Prop) (t:σ->T (Rd σ)):Prop:=∀s,I s->(t s).all (λ_=>True)
def Fi {σ:Type}(E I:σ->Prop) (Q:Ex->σ->σ->Prop) (x:σ->Ex) (r:σ->σ):Prop:=∀s,E s->∃s',I s'/\Q (x s) s' (r s)
def Rs {σ Y:Type}(E:σ->Prop) (x:σ->Ex) (r:σ->σ) (V:σ->Y) (K:Ex->σ->Y->Prop):Prop:=∀s,E s->K (x s) (r s) (V s)
variable {σ : Type} {D : AT σ} {Q : Ex -> σ -> σ -> Prop} {b : Code}
def DJ (o:D.Ok) (p:D.Pf Q) {Y:Type}{V:σ->Y}{K:Ex->σ->Y->Prop}(hv:∀s,D.I s->DK (λs'=>V s'=V s) (λx s'=>K x s'<|V s) (D.f s)):Rs D.E D.Av D.run V K:=λs hE=>AT.aBb o p V K hv s hE
def s1 (o:D.Ok) (p:D.Pf Q) (l:List Bd) (h:Ay) (e:BD b=[]:=by kernel_rfl) (hn:∀s,gw D.N D.lv D.us (D8 prog AV (gm l) h.K (Lv Al) b (Hf D.n D.lv<|D.A<|D.rd s)<|D.B<|D.rd s)=(D.t<|D.rd s).mp (rdV D.n D.A D.B):=by intro s;kernel_rfl):Ga prog AV (AN D.N) (.loop b) D.lp:=AT.snd o p (GP (gk l) h.h b (λb hb=>by rw [e] at hb;cases hb)) hn
def s2 (o:D.Ok) (p:D.Pf Q) (l:List Bd) (h:Ay) (hn:∀s,gw D.N D.lv D.us (D8 prog AV (gm l) h.K (J2 prog AV (gm l) h.K 20 2) b (Hf D.n D.lv<|D.A<|D.rd s)<|D.B<|D.rd s)=(D.t<|D.rd s).mp (rdV D.n D.A D.B):=by intro s;kernel_rfl):Ga prog AV (AN D.N) (.loop b) D.lp:=AT.snd o p (GP (gk l) h.h b λb _=>Ss (gk l) h.h 20 2 b) hn
end Go.Proofs.YtipodhghjclmbaaGreatDoor
namespace Go.Proofs.YtipodhghjclmbaaGreatDoor
set_option maxRecDepth 100000
set_option maxHeartbeats 4000000
open Go.Proofs.Tryz
open Go.Sx
abbrev B3:Ty:=.pair A7<|.pair A7<|.pair A7 .bool
abbrev St:=Int×Int×Int×Bool
instance:Coe (List St) LV:=⟨.xl B3⟩
def BJ (l:List St) (n:Int):St:=l.getD n.toNat (0,0,0,X)
def sV (c:Ch) (s:St):Bool:=IW c.2.2.1 c.2.2.2.1 c.2.2.2.2.1 c.2.2.2.2.2.1 c.2.2.2.2.2.2.1&&(inB s.1 0 5&&(inB s.2.2.1 0 1000000&&(inB s.2.1 0 c.2.2.2.2.1&&((s.2.2.1 !=0 ||s.2.1==0)&&(!s.2.2.2 ||s.1==5)))))
def Nb {c:Ch}{s:St}:sV c s=U↔IW c.2.2.1 c.2.2.2.1 c.2.2.2.2.1 c.2.2.2.2.2.1 c.2.2.2.2.2.2.1=U/\0<=s.1/\s.1<=5/\0<=s.2.2.1/\s.2.2.1<=1000000/\0<=s.2.1/\s.2.1<=c.2.2.2.2.1/\(s.2.2.1=0->s.2.1=0)/\(s.2.2.2=U->s.1=5):=by
 obtain ⟨p,a,l,w⟩:=s;unfold sV;cases w<;>simp [BV]<;>omega
def evV (mx k n m:Int):Bool:=if k=4 then inB n 0 1 else if k=6 then inB n 0 2 else if k=7 then inB m 1 1000000&&inB n 0 mx else U
def Hy (p:Int) (w:Bool) (k n:Int):Int:=
 if k=1 then (if p=0 then 1 else -1)
 else if k=2 then (if p=5/\w=U then 5 else if p=1\/p=5 then 0 else -1)
 else if k=3 then (if p=1 then 2 else -1)
 else if k=4 then (if p=2 then (if n=1 then 3 else 5) else -1)
 else if k=5 then (if p=3 then 4 else -1)
 else if k=6 then (if p=4 then (if n=0 then 1 else 5) else -1)
 else if k=9 then (if p=0\/w=U then p else 1)
 else p
def M3 (l:Int):Int:=if 0<l-1 then l-1 else 0
def sL (l k m:Int):Int:=if k=7 then m else if k=8 then M3 l else if k=9 then 0 else l
def sA (a l k n:Int):Int:=if k=7 then n else if k=8 then (if M3 l=0 then 0 else a) else if k=9 then 0 else a
def sW (w:Bool) (k n:Int):Bool:=w ||(k==6&&n==1)
def sE (c:Ch) (s:St) (k n m:Int):Int:=
 if sV c s=U then (if inB k 1 9=U then (if evV c.2.2.2.2.1 k n m=U then (if Hy s.1 s.2.2.2 k n<0 then 6 else 0) else 1) else 9) else 1
def sN (c:Ch) (s:St) (k n m:Int):St:=if sE c s k n m=0 then (Hy s.1 s.2.2.2 k n,sA s.2.1 s.2.2.1 k n,sL s.2.2.1 k m,sW s.2.2.2 k n) else (0,0,0,X)
def BX (c:Ch) (s:St):Int:=if sV c s=U then (if s.2.2.2=U then c.2.2.2.2.1 else if s.1≠4 then 0 else if s.2.2.1≠0 then s.2.1 else c.2.2.2.2.2.2.1) else 0
def EL (c:Ch) (s:St) (k n m:Int):St:=if sE c s k n m=0 then sN c s k n m else s
def mQ (k p:Int):Int:=
 if k=1 then (if p=0 then 1 else -1)
 else if k=2 then (if p=1 then 0 else if p=5 then -3 else -1)
 else if k=3 then (if p=1 then 2 else -1)
 else if k=4 then (if p=2 then -3 else -1)
 else if k=5 then (if p=3 then 4 else -1)
 else if k=6 then (if p=4 then -3 else -1)
 else if k=7 then -2
 else if k=8 then -2
 else if p=0 then 0 else if p=5 then -3 else 1
theorem ahJ {k p:Int}(h1:1<=k) (h2:k<=9) (h3:0<=p) (h4:p<=5):We (k.toNat*6+(p.toNat*1+0))=mQ k p:=by
 have key:∀e:Fin 10,∀s:Fin 6,1<=e.val->We (e.val*6+(s.val*1+0))=mQ (e.val:Int) (s.val:Int):=Aa
 have:=key ⟨k.toNat,A0⟩ ⟨p.toNat,A0⟩ A8
 grind
def dcP (p:Int) (w:Bool) (k n:Int):Int:=if k=4 then (if n=1 then 3 else 5) else if k=6 then (if n=0 then 1 else 5) else if k=2 then (if w=U then p else 0) else if k=9 then (if w=U then p else 1) else p
def dcW (w:Bool) (k n:Int):Bool:=if k=6 then n==1 else w
def nine {k:Int}(h1:1<=k) (h2:k<=9):k=1\/k=2\/k=3\/k=4\/k=5\/k=6\/k=7\/k=8\/k=9:=A0
def amb {p:Int}(h1:0<=p) (h2:p<=5):p=0\/p=1\/p=2\/p=3\/p=4\/p=5:=A0
def atM {mx k n m:Int}(h:evV mx k n m=U):(k=4->0<=n/\n<=1)/\(k=6->0<=n/\n<=2)/\(k=7->1<=m/\m<=1000000/\0<=n/\n<=mx):=by
 unfold evV at h;refine ⟨λe=>?_,λe=>?_,λe=>?_⟩
 ·subst e;simpa [BV] using h
 ·subst e;simpa [BV] using h
 ·subst e;simp [BV] at h;omega
theorem ajO {c:Ch}{s:St}{k n m:Int}(h:sE c s k n m=0):sV c s=U/\1<=k/\k<=9/\evV c.2.2.2.2.1 k n m=U/\0<=Hy s.1 s.2.2.2 k n:=by
 unfold sE at h
 repeat' split at h
 all_goals first|(exfalso;omega) |skip
 rename_i h1 h2 h3 h4
 have h2:=BV.1 h2
 grind
def ajN {c:Ch}{s:St}{k n m:Int}(h:sE c s k n m=0):sV c (sN c s k n m)=true:=by
 obtain ⟨h1,h2,h3,h4,h5⟩:=ajO h
 have he:=atM h4
 obtain ⟨p,a,l,w⟩:=s
 have h1:=Nb.1 h1
 rw [Nb];unfold sN;rw [AD h];obtain ⟨g1,g2,g3,g4,g5,g6,g7,g8,g9⟩:=h1
 have gc:=cd.1 g1
 simp only at*
 have hp:Hy p w k n<=5:=by
  unfold Hy
  repeat' split
  all_goals omega
 have ht:0<=M3 l/\M3 l<=l:=by unfold M3;split<;>omega
 have hL:0<=sL l k m/\sL l k m<=1000000:=by
  unfold sL
  repeat' split
  all_goals omega
 have hA:0<=sA a l k n/\sA a l k n<=c.2.2.2.2.1:=by
  unfold sA
  repeat' split
  all_goals omega
 refine ⟨g1,h5,hp,hL.1,hL.2,hA.1,hA.2,λhl=>?_,λhw=>?_⟩
 ·unfold sL at hl
  unfold sA
  repeat' split
  all_goals repeat' split at hl
  all_goals omega
 ·unfold sW at hw
  simp only [Ck,AY,Cz] at hw;rcases hw with hw|⟨e1,e2⟩
  ·have hs:=g9 hw
   subst hs;unfold Hy at h5|-;simp only [hw] at h5|-;rcases nine h2 h3 with rfl|rfl|rfl|rfl|rfl|rfl|rfl|rfl|rfl<;>simp at h5|-
  ·subst e1 e2
   unfold Hy at h5|-
   simp at h5|-
   split at h5
   ·rename_i h4;simp [h4]
   ·omega
def uY {c:Ch}{s:St}{k n m:Int}(h:sV c s=U):sV c (EL c s k n m)=true:=by
 unfold EL;split
 ·rename_i h1;exact ajN h1
 ·exact h
abbrev Ca:=Int×Int×Int×Int×Int
def Bc (l:List Ca) (n:Int):Ca:=l.getD n.toNat (0,0,0,0,0)
abbrev B6:Ty:=.pair (.sl A7)<|.pair A7 A7
abbrev Mi:=List Int×Int×Int
instance:Coe (List Mi) LV:=⟨.xl B6⟩
def Cj (l:List Mi) (n:Int):Mi:=l.getD n.toNat ([],0,0)
abbrev BQ:Ty:=.pair A7<|.pair A7 .bool
abbrev Me:=Int×Int×Bool
instance:Coe (List Me) LV:=⟨.xl BQ⟩
def gMe (l:List Me) (n:Int):Me:=l.getD n.toNat (0,0,X)
def GH (c:Ca):Bool:=inB c.1 0 4&&(inB c.2.1 1 7&&(inB c.2.2.1 1 80&&(inB c.2.2.2.1 0 1000000000&&(inB c.2.2.2.2 0 20&&(c.1 !=3 ||an (c.2.2.2.2>=1))))))
def WH {c:Ca}:GH c=U↔0<=c.1/\c.1<=4/\1<=c.2.1/\c.2.1<=7/\1<=c.2.2.1/\c.2.2.1<=80/\0<=c.2.2.2.1/\c.2.2.2.1<=1000000000/\0<=c.2.2.2.2/\c.2.2.2.2<=20/\(c.1=3->1<=c.2.2.2.2):=by
 simp [GH,inB];omega
def Hz (m:Mi):Bool:=an (M m.1<=21)&&(inB m.2.1 0 1000000&&(inB m.2.2 0 2000000000&&m.1.all (λp=>inB p 0 80)))
def ck {m:Mi}:Hz m=U↔M m.1<=21/\0<=m.2.1/\m.2.1<=1000000/\0<=m.2.2/\m.2.2<=2000000000/\∀p∈m.1,0<=p/\p<=80:=by
 simp [Hz,BV,and_assoc]
def cnt (n:Int):Int:=n%2+n / 2%2+n / 4%2
def afZ {n:Int}:0<=cnt n/\cnt n<=3:=by unfold cnt;omega
def eight {n:Int}(h1:0<=n) (h2:n<=7):n=0\/n=1\/n=2\/n=3\/n=4\/n=5\/n=6\/n=7:=A0
def land (a b:Int):Int:=Bq J a b
def Kg (k ph p:Int):Int:=if k=2 then land (land ph p) (-land ph p) else land ph p
def aCz {a b:Int}(ha:0<=a/\a<=7) (hb:0<=b/\b<=7):0<=land a b/\land a b<=7/\0<=land (land a b) (-land a b)/\land (land a b) (-land a b)<=7/\(land a b≠0->land (land a b) (-land a b)≠0):=by
 have key:∀x y:Fin 8,0<=land x.val y.val/\land x.val y.val<=7/\0<=land (land x.val y.val) (-land x.val y.val)/\land (land x.val y.val) (-land x.val y.val)<=7/\(land x.val y.val≠0->land (land x.val y.val) (-land x.val y.val)≠0):=Aa
 have:=key ⟨a.toNat,A0⟩ ⟨b.toNat,A0⟩
 simp only [CM ha.1,CM hb.1] at this;exact this
def aS (dl:Int) (pil:List Int):Int:=if (M pil:Int)-dl>=0 then pil.getD ((M pil:Int)-dl).toNat 0 else 0
def Gj (c:Ca) (m:Mi) (al:Int):Int:=
 if c.1=1 then (if c.2.2.2.2=0 then al else min al (aS c.2.2.2.2 m.1))
 else if c.1=3 then (if (m.2.1.tdiv c.2.2.2.2).tmod 2=1 then 0 else al)
 else if c.1=4 then (if al=0 then 0 else c.2.2.1) else al
def Er (c:Ca) (m:Mi) (p al:Int):Int:=if Kg c.1 c.2.1 p=0\/m.2.2>=c.2.2.2.1 then 0 else min c.2.2.1 (Gj c m al)
def HA (c:Ca) (m:Mi) (p al:Int):Int:=if Er c m p al=0 then 0 else Kg c.1 c.2.1 p
def dwP (pil:List Int) (al:Int):List Int:=(pil++[al]).drop<|M pil-20
def dwG (c:Ca) (m:Mi) (p al:Int):Int:=m.2.2+2300*Er c m p al*cnt (HA c m p al)
def Ky (c:Ca) (m:Mi) (p al:Int):Bool:=GH c&&(Hz m&&(inB p 1 7&&(inB al 0 80&&m.2.1 !=1000000)))
def cx {c:Ca}{m:Mi}{p al:Int}:Ky c m p al=U↔GH c=U/\Hz m=U/\1<=p/\p<=7/\0<=al/\al<=80/\m.2.1≠1000000:=by
 simp [Ky,BV,and_assoc]
theorem aCE {k ph p:Int}(h1:1<=ph/\ph<=7) (h2:1<=p/\p<=7):0<=Kg k ph p/\Kg k ph p<=7:=by
 obtain ⟨a1,a2,a3,a4,_⟩:=aCz (a:=ph) (b:=p) ⟨A0,A0⟩ ⟨A0,A0⟩;unfold Kg;exact Zj
def afG {dl:Int}{pil:List Int}(h:∀p∈pil,0<=p/\p<=80):0<=aS dl pil:=by
 unfold aS;split
 ·rw [Dd]
  cases hg:pil[((M pil:Int)-dl).toNat]? with
  |none=>simp
  |some x=>simp;exact (h x<|OS hg).1
 ·omega
def aeZ {c:Ca}{m:Mi}{al:Int}(hc:GH c=U) (hm:Hz m=U) (ha:0<=al):0<=Gj c m al:=by
 have hc:=WH.1 hc
 have hm:=ck.1 hm
 have:=afG (dl:=c.2.2.2.2) hm.2.2.2.2.2
 unfold Gj
 repeat' split
 all_goals omega
def aDk {c:Ca}{m:Mi}{p al:Int}(hc:GH c=U) (hm:Hz m=U) (hp:1<=p/\p<=7) (ha:0<=al/\al<=80):
  0<=Er c m p al/\Er c m p al<=c.2.2.1/\0<=HA c m p al/\HA c m p al<=7:=by
 have hw:=aeZ hc hm ha.1
 have hc:=WH.1 hc
 have hs:=aCE (k:=c.1) (ph:=c.2.1) (p:=p) ⟨A0,A0⟩ hp
 have h1:0<=Er c m p al/\Er c m p al<=c.2.2.1:=by unfold Er;split<;>omega
 refine ⟨h1.1,h1.2,?_⟩;unfold HA;omega
def FQ (c:Ca) (m:Mi) (p al:Int):Int:=if Ky c m p al=U then Er c m p al else 0
def Eb (c:Ca) (m:Mi) (p al:Int):Int:=if Ky c m p al=U then HA c m p al else 0
def Jp (c:Ca) (m:Mi) (p al:Int):Mi:=if Ky c m p al=U then (dwP m.1 al,m.2.1+1,dwG c m p al) else ([],0,0)
def JD (c:Ca) (m:Mi) (p al:Int):Int:=if Ky c m p al=U then 0 else 1
def meV (m:Me):Bool:=inB m.1 0 1000000&&(an (m.2.1>=-1000000000000000)&&an (m.2.1<=1000000000000000))
def mcR (m:Me) (a p:Int):Int:=if m.2.2=U then m.2.1-2300*a*p else m.2.1+2300*a*p
def mcB (m:Me) (a p:Int):Bool:=meV m&&(inB a 0 80&&inB p 0 3)
def GF (m:Me) (a p:Int):Int:=if mcB m a p=U then (if meV (m.1,mcR m a p,m.2.2)=U then 0 else 3) else 1
def I0 (m:Me) (a p:Int):Me:=if GF m a p=0 then (m.1,mcR m a p,m.2.2) else (0,0,X)
def BA (t d:Int):Int:=if (inB t 0 1000000&&inB d (-200) 200)=U then t*(1000000+d) / 1000000 else 0
def HC (t d:Int):Int:=if (inB t 0 1000000&&inB d (-200) 200)=U then 0 else 1
theorem aRp {l:List Int}{f:Int->Bool}:l.all f=Dc (M l) (λj=>f<|gi l j):=by
 rw [Ia,BP,Dy];refine ⟨λh j hj=>h _<|KG A0 hj,λh x hx=>?_⟩
 obtain ⟨k,hk,rfl⟩:=I4.1 hx
 have:=h k A0
 rwa [IF A8] at this
section
variable {lt : Int -> Int -> Bool}
def LY (lt:Int->Int->Bool):List Int->Int->List Int
 | [],x=>[x]
 |y::q,x=>if lt x y=U then y::LY lt q x else x::y::q
theorem nQ {x:Int}:∀ {q:List Int},(LY lt q x).Perm (x::q)
 | []=>List.Perm.refl _
 |y::q=>by
  unfold LY;split
  ·exact (List.Perm.cons y nQ).trans<|List.Perm.swap x y q
  ·grind
def anH {q:List Int}{x:Int}:M (LY lt q x)=M q+1:=by rw [nQ.length_eq];rfl
theorem aDM:∀ {l acc:List Int},(l.foldl (LY lt) acc).Perm (acc++l)
 | [],acc=>AI
 |x::l,acc=>by
  rw [Jy];refine aDM.trans ?_;refine (x8 l nQ).trans ?_
  grind
def sortB (lt:Int->Int->Bool) (l:List Int):List Int:=(l.foldl (LY lt) []).reverse
def aeY {l:List Int}:(sortB lt l).Perm l:=by
 exact (wz _).trans (by have:=aDM (lt:=lt) (l:=l) (acc:=[]);simpa using this)
def Kv (l:List Int) (j:Nat):List Int:=(l.set (j+1)<|l.getD j 0).set j<|l.getD (j+1) 0
def Kl (lt:Int->Int->Bool):Nat->List Int->List Int
 |0,l=>l
 |j+1,l=>if lt (l.getD (j+1) 0) (l.getD j 0)=U then Kl lt j (Kv l j) else l
def atI {p post:List Int}{x y:Int}:Kv (p++y::x::post) (M p)=p++x::y::post:=by
 unfold Kv
 simp
theorem qR {post:List Int}{x:Int}:∀ {q:List Int},Kl lt (M q) (q.reverse++x::post)=(LY lt q x).reverse++post
 | []=>by simp [Kl,LY]
 | y::q=>by
  have e1:((y::q).reverse++x::post)=q.reverse++y::x::post:=AI
  rw [e1,Bk,Kl]
  have g1:(q.reverse++y::x::post).getD (M q) 0=y:=AI
  have g2:(q.reverse++y::x::post).getD (M q+1) 0=x:=AI
  rw [g1,g2];unfold LY;split
  ·have e2:Kv (q.reverse++y::x::post) (M q)=q.reverse++x::y::post:=by
    have:=atI (p:=q.reverse) (x:=x) (y:=y) (post:=post)
    grind
   rw [e2,qR]
   simp
  ·simp
theorem anm:∀ {j:Nat}{l:List Int},j<M l->(Kl lt j l).Perm l:=λ{j l} h=>by
 have e:l=(l.take j).reverse.reverse++l[j]::l.drop (j+1):=AI
 have hj:M (l.take j).reverse=j:=A8
 have h2:=qR (lt:=lt) (q:=(l.take j).reverse) (x:=l[j]) (post:=l.drop<|j+1)
 rw [hj,<-e] at h2;rw [h2];refine (x8 _<|(wz _).trans nQ).trans ?_;refine (List.perm_middle.symm.trans ?_);refine (x8 _<|wz _).trans ?_
 grind
def Mf (lt:Int->Int->Bool) (l:List Int) (i:Nat):List Int:=((l.drop i).foldl (LY lt) (l.take i).reverse).reverse
theorem ael {l:List Int}{i:Nat}(h:i<M l):Mf lt (Kl lt i l) (i+1)=Mf lt l i:=by
 have e:l=(l.take i).reverse.reverse++l[i]::l.drop (i+1):=AI
 have hi:M (l.take i).reverse=i:=A8
 have h2:=qR (lt:=lt) (q:=(l.take i).reverse) (x:=l[i]) (post:=l.drop<|i+1)
 have hl:M ((LY lt (l.take i).reverse l[i]).reverse)=i+1:=by rw [List.length_reverse,anH,hi]
 unfold Mf
 grind
def aft {l:List Int}:Mf lt l 1=sortB lt l:=by
 cases l with
 |nil=>rfl
 |cons x l=>simp [Mf,sortB,LY]
def afa {l:List Int}{i:Nat}(h:M l<=i):Mf lt l i=l:=by
 unfold Mf;rw [List.drop_of_length_le h,DR h]
 simp
end
abbrev Au:Ty:=.pair .bool<|.pair A7<|.pair A7 A7
abbrev Dm:=Bool×Int×Int×Int
instance:Coe (List Dm) LV:=⟨.xl Au⟩
def Dq (l:List Dm) (n:Int):Dm:=l.getD n.toNat (X,0,0,0)
def slk (d:List Dm) (t i:Int):Int:=(Dq d i).2.2.1-t-(Dq d i).2.1
def cm (a b:Int):Int:=if a<b then -1 else if a>b then 1 else 0
def orI:List Int->Int
 | []=>0
 |x::l=>if (x !=0)=U then x else orI l
def cmD (d:List Dm) (t a b:Int):Int:=orI [cm (Dq d a).2.2.2 (Dq d b).2.2.2,cm (slk d t a)<|slk d t b,cm a b]
def ltD (d:List Dm) (t a b:Int):Bool:=an<|cmD d t a b<0
def IQ (d:List Dm) (t:Int):Prop:=(∀x∈d,(-2000000000<=x.2.1/\x.2.1<=2000000000)/\-2000000000<=x.2.2.1/\x.2.2.1<=2000000000)/\-2000000000<=t/\t<=2000000000
theorem arR {d:List Dm}{i:Int}(h0:0<=i) (h1:i<(M d:Int)):Dq d i∈d:=by
 unfold Dq
 grind
def auA {d:List Dm}{t i:Int}(h:IQ d t) (h0:0<=i) (h1:i<(M d:Int)):(-2000000000<=(Dq d i).2.1/\(Dq d i).2.1<=2000000000)/\-2000000000<=(Dq d i).2.2.1/\(Dq d i).2.2.1<=2000000000:=h.1 _<|arR h0 h1
def Fj (n:Nat):List Int:=(au n).map λk:Nat=>(k:Int)
def H5 (d:List Dm) (t:Int):List Int:=sortB (ltD d t)<|Fj<|M d
def aDc {n:Nat}:Fj (n+1)=Fj n++[(n:Int)]:=by simp [Fj,SX]
def Om {n:Nat}:M (Fj n)=n:=by simp [Fj]
theorem aEd {n:Nat}{x:Int}:x∈Fj n↔0<=x/\x<(n:Int):=by
 unfold Fj;rw [Ej]
 constructor
 ·rintro ⟨k,hk,rfl⟩
  rw [IZ] at hk;omega
 ·exact λh=>⟨x.toNat,A8,A0⟩
def aek {n:Nat}:(Fj n).Nodup:=wy _ (λa b h=>A0) kB
def aCN {d:List Dm}{t:Int}:(H5 d t).Perm (Fj<|M d):=aeY
def aEN {d:List Dm}{t:Int}:M (H5 d t)=M d:=by rw [aCN.length_eq,Om]
def amy {d:List Dm}{t x:Int}:x∈H5 d t↔0<=x/\x<(M d:Int):=aCN.mem_iff.trans aEd
def aee {d:List Dm}{t:Int}:(H5 d t).Nodup:=aCN.nodup_iff.2 aek
theorem qF {mi ma st a k:Int}(hh:Dh mi ma st=U) (ha:0<=a) (h0:0<=k) (h1:k<EG mi ma st):Dr mi st k<=a↔k<=HE mi ma st a:=by
 obtain ⟨g1,g2,g3,g4,g5⟩:=IB.1 hh
 have hn:¬(Dh mi ma st=X\/a<0):=A8
 unfold HE;rw [AE hn];unfold Dr
 by_cases e:k=0
 ·subst e
  simp only [Bm];exact aLh
 ·rw [AE e]
  have hp:0<=(k-1)*st:=Ib A0 A0
  split
  ·omega
  ·have:=(Int.le_ediv_iff_mul_le (a:=k-1) (b:=a-mi) (c:=st) A0)
   omega
def aQm {mi ma st a:Int}(hh:Dh mi ma st=U):HE mi ma st a<EG mi ma st:=by
 have:=qE hh
 unfold HE;split
 ·omega
 ·omega
theorem af9 {mi ma st a:Int}(hh:Dh mi ma st=U) (ha:0<=a):0<=HE mi ma st a:=by
 have:=qE hh
 obtain ⟨g1,g2,g3,g4,g5⟩:=IB.1 hh
 have hn:¬(Dh mi ma st=X\/a<0):=A8
 unfold HE;rw [AE hn];exact aLh
theorem aeg {l:List Int}:once l=U↔l.Nodup:=by
 rw [oe,List.nodup_iff_pairwise_ne,jw]
 constructor
 ·intro h i j hi hj hij e
  exact h j hj (by rw [<-e,I4];exact ⟨i,A8,AI⟩)
 ·intro h j hj hm
  obtain ⟨i,hi,e⟩:=I4.1 hm
  grind
theorem ad2:∀ {r l:List Int},r.Nodup->(∀x∈r,x∈l)->M r=M l->l.Nodup/\∀x∈l,x∈r
 | [],l,_,_,h=>by
  have:l=[]:=MA.1 h.symm
  subst this
  simp
 | x::r,l,hn,hs,h=>by
  obtain ⟨n1,n2⟩:=ME.1 hn
  have hx:=hs x AI
  have hp:=List.perm_cons_erase hx
  obtain ⟨i1,i2⟩:=ad2 (l:=l.erase x) n2 (λy hy=>by
   have hy2:=hs y A8
   have hne:y≠x:=λe=>n1<|e▸hy
   exact (List.mem_erase_of_ne hne).2 hy2) A8
  refine ⟨hp.nodup_iff.2<|ME.2 ⟨λhm=>n1<|i2 x hm,i1⟩,λy hy=>?_⟩
  by_cases e:y=x
  ·simp [e]
  ·grind
def aM (n:Nat):List Int:=(au n).map λk:Nat=>(k:Int)
def aEH {n:Nat}{x:Int}:x∈aM n↔0<=x/\x<(n:Int):=by
 unfold aM;rw [Ej]
 constructor
 ·rintro ⟨k,hk,rfl⟩
  have:=IZ.1 hk
  omega
 ·rintro ⟨h1,h2⟩
  exact ⟨x.toNat,IZ.2 A0,A0⟩
def aeH {n:Nat}:M (aM n)=n:=by simp [aM]
theorem aE4 {l:List Int}{n:Nat}:Gb l n=U↔M l=n/\l.Nodup/\∀i∈l,0<=i/\i<(n:Int):=by
 unfold Gb;simp only [AY,Ac,BP,o7,aeg]
 constructor
 ·grind
 ·grind
def afo {l:List Int}{n:Nat}(h:Gb l n=U) {i:Int}(h0:0<=i) (h1:i<(n:Int)):i∈l:=by
 obtain ⟨g1,g2,g3⟩:=aE4.1 h;exact (ad2 g2 (l:=aM n) (λx hx=>aEH.2<|g3 x hx) (by rw [aeH];exact g1)).2 i<|aEH.2 ⟨h0,h1⟩
def Kr (al am ms:List Int):Int:=(ms.map λm=>mx (gi al m)<|gi am m).sum
def rowB (al am:List Int) (r:Rw):Bool:=r.2.all (λm=>gi am m==0) ||an (Kr al am r.2<=r.1)
def gj (rows:List Rw) (al am:List Int):Bool:=rows.all<|rowB al am
def np {al am ms:List Int}{m:Int}:Kr al am (m::ms)=mx (gi al m) (gi am m)+Kr al am ms:=by simp [Kr]
def aKK (gs:List Ch) (i k:Int):Int:=amA (AG gs i).2.2.2.1 (AG gs i).2.2.2.2.1 (AG gs i).2.2.2.2.2.1 k
def aKJ (gs:List Ch) (i k:Int):Int:=amE (AG gs i).2.2.2.1 (AG gs i).2.2.2.2.1 (AG gs i).2.2.2.2.2.1 k
structure we (gs:List Ch) (out:List Int):Prop where
 len:M out=M gs
 bd:∀a∈out,0<=a/\a<=1000000
def we.put {gs:List Ch}{out:List Int}(h:we gs out) {k:Nat}{v:Int}(hv:0<=v/\v<=1000000):we gs (out.set k v):=
 ⟨by rw [CH];exact h.len,λa ha=>by
  rcases OQ ha with h2|h2
  ·exact h.bd a h2
  ·rw [h2];exact hv⟩
section
variable {P : List Int -> Bool} {tp : Int -> Int}
def JF (P:List Int->Bool) (tp:Int->Int) (L:Int) (lv:List Int) (i:Int):List Int:=
 if gi lv i=L-1/\L<=tp i then (if P (lv.set i.toNat L)=U then lv.set i.toNat L else lv) else lv
def Jt (P:List Int->Bool) (tp:Int->Int) (L:Int) (lv l:List Int):List Int:=l.foldl (JF P tp L) lv
def GD (P:List Int->Bool) (tp:Int->Int) (od:List Int):Nat->Int->List Int->List Int
 |0,_,lv=>lv
 |f+1,L,lv=>GD P tp od f (L+1)<|Jt P tp L lv od
def JW {l:List Int}{i j v:Int}(h0:0<=i) (h1:i<(M l:Int)) (hj:0<=j):gi (l.set i.toNat v) j=if j=i then v else gi l j:=by
 unfold gi;rw [T7]
 by_cases e:j=i
 ·subst e
  omega
 ·omega
def S3 (n:Nat) (l:List Int):Prop:=∀i∈l,0<=i/\i<(n:Int)
theorem aEA {L i:Int}{lv:List Int}:M (JF P tp L lv i)=M lv:=by
 unfold JF;split
 ·split
  ·grind
  ·rfl
 ·rfl
theorem azC {L i j:Int}{lv:List Int}(h:0<=i/\i<(M lv:Int)) (hj:0<=j):gi lv j<=gi (JF P tp L lv i) j:=by
 exact aLy
theorem azE {L i j:Int}{lv:List Int}(h:0<=i/\i<(M lv:Int)) (hj:0<=j):gi (JF P tp L lv i) j<=gi lv j\/(gi (JF P tp L lv i) j=L/\L<=tp j):=by
 exact aLy
def nz {L i:Int}{lv l:List Int}:Jt P tp L lv (i::l)=Jt P tp L (JF P tp L lv i) l:=rfl
def dM {L:Int}:∀ {l lv:List Int},M (Jt P tp L lv l)=M lv
 | [],_=>rfl
 |i::l,lv=>by rw [nz,dM (l:=l),aEA]
theorem aRU {L j:Int}(hj:0<=j):∀ {l lv:List Int},S3 (M lv) l->gi lv j<=gi (Jt P tp L lv l) j
 | [],_,_=>De _
 |i::l,lv,h=>by
  rw [nz]
  have h1:=azC (P:=P) (tp:=tp) (L:=L) (h i AI) hj
  have h2:=aRU (L:=L) hj (l:=l) (lv:=JF P tp L lv i) aNQ
  omega
theorem ua {L j:Int}(hj:0<=j):∀ {l lv:List Int},S3 (M lv) l->gi (Jt P tp L lv l) j<=gi lv j\/(gi (Jt P tp L lv l) j<=L/\gi (Jt P tp L lv l) j<=tp j)
 | [],_,_=> .inl (De _)
 |i::l,lv,h=>by
  rw [nz]
  have h1:=azE (P:=P) (tp:=tp) (L:=L) (h i AI) hj
  have h2:=ua (L:=L) hj (l:=l) (lv:=JF P tp L lv i) aNQ
  omega
def aGc {od:List Int}:∀ {f:Nat}{L:Int}{lv:List Int},M (GD P tp od f L lv)=M lv
 |0,_,_=>rfl
 |f+1,L,lv=>by rw [GD,aGc,dM]
def aRV {od:List Int}{j:Int}(hj:0<=j):∀ {f:Nat}{L:Int}{lv:List Int},S3 (M lv) od->gi lv j<=gi (GD P tp od f L lv) j
 |0,_,_,_=>De _
 |f+1,L,lv,h=>by
  rw [GD]
  have h1:=aRU (P:=P) (tp:=tp) (L:=L) hj h
  have h2:=aRV (f:=f) (L:=L+1) (lv:=Jt P tp L lv od) hj (by rw [dM];exact h)
  omega
def aRW {od:List Int}{j:Int}(hj:0<=j):∀ {f:Nat}{L:Int}{lv:List Int},S3 (M lv) od->gi (GD P tp od f L lv) j<=gi lv j\/(gi (GD P tp od f L lv) j<=L+f-1/\gi (GD P tp od f L lv) j<=tp j)
 |0,_,_,_=> .inl (De _)
 |f+1,L,lv,h=>by
  rw [GD]
  have h1:=ua (P:=P) (tp:=tp) (L:=L) hj h
  have h2:=aRW (f:=f) (L:=L+1) (lv:=Jt P tp L lv od) hj (by rw [dM];exact h)
  omega
def aEG {od:List Int}:∀ {f:Nat}{L:Int}{lv:List Int},GD P tp od (f+1) L lv=Jt P tp (L+f) (GD P tp od f L lv) od
 |0,L,lv=>by simp [GD]
 |f+1,L,lv=>by
  rw [GD,aEG (f:=f) (L:=L+1),GD,show L+1+(f:Int)=L+((f+1:Nat):Int) by omega]
theorem aCV {L:Int}:∀ {l lv:List Int},(∀i∈l,gi lv i≠L-1\/tp i<L)->Jt P tp L lv l=lv
 | [],_,_=>rfl
 | i::l,lv,h=>by
  have e:JF P tp L lv i=lv:=by
   unfold JF
   grind
  rw [nz,e,aCV λj hj=>h j A8]
theorem aE5 {od:List Int}:∀ {f:Nat}{L:Int}{lv:List Int},(∀i∈od,gi lv i<L-1)->GD P tp od f L lv=lv
 |0,_,_,_=>rfl
 |f+1,L,lv,h=>by
  rw [GD,aCV λi hi=> .inl A8,aE5 λi hi=>A8]
end
structure Hr (rows:List Rw) (gs:List Ch) (al mo od:List Int):Prop where
 mem:∀r∈rows,r.2.Nodup/\∀m∈r.2,0<=m/\m<(M gs:Int)
 has:∀i:Int,0<=i->i<(M gs:Int)->Dh (AG gs i).2.2.2.1 (AG gs i).2.2.2.2.1 (AG gs i).2.2.2.2.2.1=U
 gl:M gs<=16
 all:M al=M gs
 mol:M mo=M gs
 al:∀a∈al,0<=a/\a<=80
 mo:∀a∈mo,0<=a/\a<=80
 nd:od.Nodup
 ord:S3 (M gs) od
 cov:∀i:Int,0<=i->i<(M gs:Int)->i∈od
def aa8 {cs:List Cd}{os:List ByteArray}{ks:List Ko}{gs:List Ch}{bs:List Ba}{al mo od:List Int}(h:G7 cs os ks gs bs al mo od=U):Hr (DH cs gs<|M cs) gs al mo od:=by
 obtain ⟨hv,h1,h2,h3,h4,h5⟩:=L9.1 h
 have hl:=(DF.1 hv).1
 obtain ⟨o1,o2,o3⟩:=aE4.1 h5;refine ⟨λr hr=>⟨(row_mem hr).1,(row_mem hr).2.1⟩,λi h0 h1=>?_,A0,h1,h2,λa ha=>QH.1<|BP.1 h3 a ha,λa ha=>QH.1<|BP.1 h4 a ha,o2,o3,λi h0 h1=>afo h5 h0 h1⟩
 have:=Oo hv h0 h1
 exact aLj
def PP (rows:List Rw) (gs:List Ch) (al lv:List Int):Bool:=gj rows al<|FL gs lv
def tpO (gs:List Ch) (mo:List Int) (i:Int):Int:=FP gs i<|gi mo i
def aFM {gs:List Ch}{lv:List Int}:M (FL gs lv)=M gs:=by simp [FL]
def TO {gs:List Ch}{lv:List Int}{i:Int}(h0:0<=i) (h1:i<(M gs:Int)):gi (FL gs lv) i=Cq gs i (gi lv i):=by
 rw [IF (by rw [aFM];omega)]
 simp only [FL,x6,kK];rfl
def acJ {gs:List Ch}{i:Int}:Cq gs i 0=0:=by simp [Cq,Dr]
def aFO {gs:List Ch}{i a b:Int}(hh:Dh (AG gs i).2.2.2.1 (AG gs i).2.2.2.2.1 (AG gs i).2.2.2.2.2.1=U) (h0:0<=a) (h1:a<=b):Cq gs i a<=Cq gs i b:=by
 obtain ⟨g1,g2,g3,g4,g5⟩:=IB.1 hh;exact aFN ⟨g1,g4⟩ h0 h1
theorem aRo {gs:List Ch}{i a b:Int}(hh:Dh (AG gs i).2.2.2.1 (AG gs i).2.2.2.2.1 (AG gs i).2.2.2.2.2.1=U) (h0:0<=a) (h1:a<b):Cq gs i a<Cq gs i b:=by
 obtain ⟨g1,g2,g3,g4,g5⟩:=IB.1 hh
 have h2:=aFO hh (show 0<=a+1 by omega) (show a+1<=b by omega)
 have h3:Cq gs i a<Cq gs i (a+1):=by
  unfold Cq Dr;split
  ·grind
  ·have:(a+1-1)*(AG gs i).2.2.2.2.2.1=(a-1)*(AG gs i).2.2.2.2.2.1+(AG gs i).2.2.2.2.2.1:=by
    grind
   omega
 omega
def aRn {gs:List Ch}{i a:Int}(hh:Dh (AG gs i).2.2.2.1 (AG gs i).2.2.2.2.1 (AG gs i).2.2.2.2.2.1=U) (h0:0<=a):0<=Cq gs i a:=by
 have:=aFO hh (De 0) h0
 exact this
theorem nY {al am bm:List Int}:∀ {ms:List Int},(∀m∈ms,gi am m=gi bm m)->Kr al am ms=Kr al bm ms
 | [],_=>rfl
 |m::ms,h=>by rw [np,np,nY (ms:=ms) λx hx=>h x A8,h m AI]
theorem aGQ {al am bm:List Int}{i:Int}:∀ {ms:List Int},ms.Nodup->i∈ms->(∀m∈ms,m≠i->gi am m=gi bm m)->Kr al bm ms=Kr al am ms+(mx (gi al i) (gi bm i)-mx (gi al i) (gi am i))
 | [],_,h,_=>Ao
 | m::ms,hn,hi,h=>by
  obtain ⟨n1,n2⟩:=ME.1 hn;rw [np,np]
  by_cases e:m=i
  ·subst e
   rw [nY (am:=am) (bm:=bm) λx hx=>h x A8 λe=>n1<|e▸hx]
   omega
  ·have hi2:i∈ms:=by
    rcases B7.1 hi with h|h
    ·grind
    ·exact h
   rw [aGQ n2 hi2 λx hx=>h x A8,h m AI e]
   omega
theorem aei {al am bm:List Int}{r:Rw}(h:∀m∈r.2,gi am m=gi bm m):rowB al am r=rowB al bm r:=by
 unfold rowB;rw [nY h]
 congr 1
 rw [Ia,BP,BP]
 constructor
 ·grind
 ·grind
structure Inv (rows:List Rw) (gs:List Ch) (al sm lv:List Int):Prop where
 sl:M sm=M rows
 sm:∀k:Nat,k<M rows->sm.getD k 0=Kr al (FL gs lv) (CX rows k).2
 ll:M lv=M gs
 nn:∀j,0<=j->0<=gi lv j
 pp:PP rows gs al lv=U
def dQ {rows:List Rw}{k:Int}(h0:0<=k) (h1:k<(M rows:Int)):CX rows k∈rows:=by
 rw [oE A0];exact H0 _
def qV {rows:List Rw}{gs:List Ch}{al mo od lv:List Int}(H:Hr rows gs al mo od) {i L:Int}(hl:M lv=M gs) (h0:0<=i) (h1:i<(M gs:Int)) {r:Rw}(hr:r∈rows):
  (∀m∈r.2,m≠i->gi (FL gs lv) m=gi (FL gs<|lv.set i.toNat L) m)/\gi (FL gs<|lv.set i.toNat L) i=Cq gs i L:=by
 refine ⟨λm hm e=>?_,?_⟩
 ·obtain ⟨m0,m1⟩:=(H.mem r hr).2 m hm
  rw [TO m0 m1,TO m0 m1,JW h0 A0 m0,AE e]
 ·rw [TO h0 h1,JW h0 A0 h0,AD rfl]
def aOP {rows:List Rw}{gs:List Ch}{al mo od lv:List Int}(H:Hr rows gs al mo od) {i L:Int}(hl:M lv=M gs) (h0:0<=i) (h1:i<(M gs:Int)) {r:Rw}(hr:r∈rows) (hc:gi lv i=L-1):
  Kr al (FL gs<|lv.set i.toNat L) r.2=Kr al (FL gs lv) r.2+(if i∈r.2 then Fq gs al i L else 0):=by
 obtain ⟨p1,p2⟩:=qV (L:=L) H hl h0 h1 hr;split
 ·rename_i hi
  rw [aGQ (am:=FL gs lv) (H.mem r hr).1 hi p1,p2,TO h0 h1,hc];rfl
 ·rename_i hi
  rw [<-nY (am:=FL gs lv) λm hm=>p1 m hm λe=>hi<|e▸hm]
  omega
theorem arU {rows:List Rw}{gs:List Ch}{al mo od sm lv:List Int}(H:Hr rows gs al mo od) (hI:Inv rows gs al sm lv) {i L:Int}(h0:0<=i) (h1:i<(M gs:Int)) (hL:1<=L) (hc:gi lv i=L-1):
  ((OL rows).getD i.toNat []).all (KZ rows sm<|Fq gs al i L)=PP rows gs al (lv.set i.toNat L):=by
 have hg:=H.gl
 rw [uc (λr hr=>⟨(H.mem r hr).1,λm hm=>((H.mem r hr).2 m hm).1⟩) A0,Ia,BP]
 unfold PP gj;rw [BP]
 have hpp:=hI.pp
 unfold PP gj at hpp;rw [BP] at hpp
 have hpos:1<=Cq gs i L:=by
  have:=aRo (H.has i h0 h1) (De 0) (show 0<L by omega)
  rw [acJ] at this;omega
 have hfit:∀k:Int,0<=k->k<(M rows:Int)->i∈(CX rows k).2->(KZ rows sm (Fq gs al i L) k=rowB al (FL gs<|lv.set i.toNat L) (CX rows k)):=λk k0 k1 hk=>by
  have hr:=dQ k0 k1
  have hs:=hI.sm k.toNat A0
  have hp:=aOP (L:=L) H hI.ll h0 h1 hr hc
  have hz:(CX rows k).2.all (λm=>gi (FL gs<|lv.set i.toNat L) m==0)=false:=by
   rw [I6];intro hz
   have:=BP.1 hz i hk
   rw [(qV (L:=L) H hI.ll h0 h1 hr).2,Cz] at this;omega
  unfold KZ rowB
  grind
 constructor
 ·intro h r hr
  obtain ⟨k,hk,rfl⟩:=I4.1 hr
  have ek:CX rows (k:Int)=rows[k]:=oE yj
  by_cases hi:i∈rows[k].2
  ·have:=h (k:Int)<|TJ.2 ⟨A0,A0,by
    rw [Po,ek,CM h0]
    simpa using hi⟩
   rw [hfit k A0 A0 A8,ek] at this;exact this
  ·rw [<-aei (am:=FL gs lv) λm hm=>(qV (L:=L) H hI.ll h0 h1 hr).1 m hm λe=>hi<|e▸hm]
   exact hpp _ hr
 ·intro h x hx
  obtain ⟨x0,x1,x2⟩:=TJ.1 hx;rw [hfit x x0 A0 A8];exact h _<|dQ x0 A0
theorem apy {rows:List Rw}{gs:List Ch}{al mo od sm lv:List Int}{b:Bool}(H:Hr rows gs al mo od) (hI:Inv rows gs al sm lv) {i L:Int}(h0:0<=i) (h1:i<(M gs:Int)) (hL:1<=L):
  (Fm (OL rows) rows gs al mo L (sm,lv,b) i).2.1=JF (PP rows gs al) (tpO gs mo) L lv i/\Inv rows gs al (Fm (OL rows) rows gs al mo L (sm,lv,b) i).1 (Fm (OL rows) rows gs al mo L (sm,lv,b) i).2.1/\((Fm (OL rows) rows gs al mo L (sm,lv,b) i).2.2=X->b=X/\(Fm (OL rows) rows gs al mo L (sm,lv,b) i).2.1=lv):=by
 unfold Fm JF
 by_cases hc:gi lv i=L-1/\L<=tpO gs mo i
 ·have hf:=arU H hI h0 h1 hL hc.1
  rw [AD (show lv.getD i.toNat 0=L-1/\L<=FP gs i (gi mo i) from hc),AD hc,hf]
  by_cases hp:PP rows gs al (lv.set i.toNat L)=U
  ·rw [AD hp,AD hp]
   have hg:=H.gl
   refine ⟨rfl,⟨by rw [nC];exact hI.sl,λk hk=>?_,by rw [CH];exact hI.ll,λj hj=>?_,hp⟩,λh=>Ao⟩
   ·have hr:CX rows (k:Int)∈rows:=dQ A0 A0
    rw [uc (λr hr=>⟨(H.mem r hr).1,λm hm=>((H.mem r hr).2 m hm).1⟩) A0,pQ nP (λr hr=>(TJ.1 hr).1) (by rw [hI.sl];exact hk),hI.sm k hk,aOP (L:=L) H hI.ll h0 h1 hr hc.1]
    have:(k:Int)∈Jr 0 rows (i.toNat:Int)↔i∈(CX rows (k:Int)).2:=by
     rw [TJ,Po,CM h0]
     constructor
     ·grind
     ·grind
    by_cases hm:i∈(CX rows (k:Int)).2
    ·grind
    ·grind
   ·simp only
    rw [JW h0 (by rw [hI.ll];exact h1) hj]
    split
    ·omega
    ·exact hI.nn j hj
  ·rw [AE hp,AE hp]
   grind
 ·rw [AE (show ¬(lv.getD i.toNat 0=L-1/\L<=FP gs i (gi mo i)) from hc),AE hc]
  grind
theorem aGC {rows:List Rw}{gs:List Ch}{al mo od:List Int}(H:Hr rows gs al mo od) {L:Int}(hL:1<=L):∀ {l sm lv:List Int}{b:Bool},S3 (M gs) l->Inv rows gs al sm lv->
  (swp (OL rows) rows gs al mo L (sm,lv,b) l).2.1=Jt (PP rows gs al) (tpO gs mo) L lv l/\Inv rows gs al (swp (OL rows) rows gs al mo L (sm,lv,b) l).1 (swp (OL rows) rows gs al mo L (sm,lv,b) l).2.1/\((swp (OL rows) rows gs al mo L (sm,lv,b) l).2.2=X->b=X/\(swp (OL rows) rows gs al mo L (sm,lv,b) l).2.1=lv)
 | [],sm,lv,b,_,hI=>⟨rfl,hI,λh=>⟨h,rfl⟩⟩
 |i::l,sm,lv,b,hr,hI=>by
  obtain ⟨i0,i1⟩:=hr i AI;obtain ⟨r1,r2,r3⟩:=apy (b:=b) H hI i0 i1 hL;obtain ⟨s1,s2,s3⟩:=aGC H hL (l:=l) (b:=(Fm (OL rows) rows gs al mo L (sm,lv,b) i).2.2) (λx hx=>hr x A8) r2
  refine ⟨s1.trans (by rw [r1];rfl),s2,λh=>?_⟩
  obtain ⟨t1,t2⟩:=s3 h;obtain ⟨t3,t4⟩:=r3 t1;exact ⟨t3,t2.trans t4⟩
theorem aGS {rows:List Rw}{gs:List Ch}{al mo od:List Int}(H:Hr rows gs al mo od):∀ {f:Nat}{L:Int}{sm lv:List Int},1<=L->Inv rows gs al sm lv->(∀i∈od,gi lv i<=L-1)->shl (OL rows) rows gs al mo od f L sm lv=GD (PP rows gs al) (tpO gs mo) od f L lv
 |0,_,_,_,_,_,_=>rfl
 | f+1,L,sm,lv,hL,hI,hb=>by
  obtain ⟨s1,s2,s3⟩:=aGC (b:=X) H hL H.ord hI;rw [shl,GD];split
  ·rw [aGS H A0 s2 (λi hi=>by
    rw [s1]
    have h1:=ua (P:=PP rows gs al) (tp:=tpO gs mo) (L:=L) (H.ord i hi).1 (l:=od) (lv:=lv) (by rw [hI.ll];exact H.ord)
    have h2:=hb i hi
    omega),s1]
  ·rename_i hc
   have hc:(swp (OL rows) rows gs al mo L (sm,lv,X) od).2.2=false:=A8
   have e:=(s3 hc).2
   rw [<-s1,e,aE5 λi hi=>A8]
theorem Nd {n:Nat}{j:Int}:gi (aq n 0) j=0:=by
 unfold gi
 grind
theorem aje {rows:List Rw}{gs:List Ch}{al mo od:List Int}(H:Hr rows gs al mo od):Inv rows gs al (SM al rows) (aq (M gs) 0):=by
 have hz:∀r∈rows,∀m∈r.2,gi (FL gs<|aq (M gs) 0) m=0:=λr hr m hm=>by
  obtain ⟨m0,m1⟩:=(H.mem r hr).2 m hm;rw [TO m0 m1,Nd,acJ]
 refine ⟨aCS,λk hk=>?_,Ce,λj _=>by rw [Nd];omega,?_⟩
 ·rw [aRr hk]
  have hr:CX rows (k:Int)∈rows:=dQ A0 A0
  unfold smA Kr
  congr 1
  refine JO λm hm=>?_
  obtain ⟨m0,m1⟩:=(H.mem _ hr).2 m hm;rw [hz _ hr m hm]
  have:=H.al _<|KG m0 (by rw [H.all];exact m1)
  unfold mx;omega
 ·unfold PP gj
  rw [BP];intro r hr;unfold rowB
  grind
def lvF (rows:List Rw) (gs:List Ch) (al mo od:List Int):List Int:=GD (PP rows gs al) (tpO gs mo) od 80 1<|aq (M gs) 0
def ql {rows:List Rw}{gs:List Ch}{al mo od:List Int}(H:Hr rows gs al mo od) {i:Int}(h0:0<=i) (h1:i<(M gs:Int)):0<=tpO gs mo i/\tpO gs mo i<=80/\tpO gs mo i<EG (AG gs i).2.2.2.1 (AG gs i).2.2.2.2.1 (AG gs i).2.2.2.2.2.1:=
 ⟨af9 (H.has i h0 h1) (H.mo _<|KG h0 (by rw [H.mol];exact h1)).1,uP,aQm<|H.has i h0 h1⟩
def avb {rows:List Rw}{gs:List Ch}{al mo od:List Int}(H:Hr rows gs al mo od):shV rows gs al mo od=lvF rows gs al mo od:=by
 unfold shV lvF;rw [H.all,aGS H A0 (aje H) (λi _=>by rw [Nd];omega),aEG,aCV λi hi=> .inr ?_]
 have:=ql H (H.ord i hi).1 (H.ord i hi).2
 omega
section
variable {rows : List Rw} {gs : List Ch} {al mo od : List Int}
def ars:M (lvF rows gs al mo od)=M gs:=by
 unfold lvF;rw [aGc,Ce]
def aH2 (H:Hr rows gs al mo od):S3 (M<|aq (M gs) (0:Int)) od:=by rw [Ce];exact H.ord
def ayM (H:Hr rows gs al mo od) {j:Int}(hj:0<=j):0<=gi (lvF rows gs al mo od) j:=by
 have:=aRV (P:=PP rows gs al) (tp:=tpO gs mo) (f:=80) (L:=1) hj<|aH2 H
 rw [Nd] at this;exact this
def aQj (H:Hr rows gs al mo od) {j:Int}(h0:0<=j) (h1:j<(M gs:Int)):gi (lvF rows gs al mo od) j<=tpO gs mo j:=by
 have h2:=aRW (P:=PP rows gs al) (tp:=tpO gs mo) (f:=80) (L:=1) h0<|aH2 H
 rw [Nd] at h2
 have h3:=ql H h0 h1
 unfold lvF;omega
def as1 {i k:Int}(hh:Dh (AG gs i).2.2.2.1 (AG gs i).2.2.2.2.1 (AG gs i).2.2.2.2.2.1=U) (h0:0<=k) (h1:k<EG (AG gs i).2.2.2.1 (AG gs i).2.2.2.2.1 (AG gs i).2.2.2.2.2.1):FP gs i (Cq gs i k)=k:=by
 have h2:=aRn hh h0
 have h3:=(qF hh h2 h0 h1).1<|De _
 have h4:=aQm (a:=Cq gs i k) hh
 have h5:=(qF hh h2 (k:=HE (AG gs i).2.2.2.1 (AG gs i).2.2.2.2.1 (AG gs i).2.2.2.2.2.1<|Cq gs i k) A0 h4).2<|De _
 by_cases e:k<HE (AG gs i).2.2.2.1 (AG gs i).2.2.2.2.1 (AG gs i).2.2.2.2.2.1 (Cq gs i k)
 ·have:=aRo hh h0 e
  have h5:Cq gs i (HE (AG gs i).2.2.2.1 (AG gs i).2.2.2.2.1 (AG gs i).2.2.2.2.2.1<|Cq gs i k)<=Cq gs i k:=h5
  omega
 ·unfold FP
  omega
end
def au2 {mi ma st k:Int}(hh:Dh mi ma st=U) (h0:0<=k) (h1:k<EG mi ma st):Dr mi st k<=ma:=by
 obtain ⟨g1,g2,g3,g4,g5⟩:=IB.1 hh;unfold Dr;split
 ·omega
 ·unfold EG at h1
  have h2:(k-1)<=(ma-mi) / st:=A0
  have:=(Int.le_ediv_iff_mul_le (a:=k-1) (b:=ma-mi) (c:=st) A0).1 h2
  omega
theorem ahl {mi ma st k:Int}(h0:0<=k) (h1:k<EG mi ma st):amA mi ma st k=Dr mi st k/\amE mi ma st k=0:=by
 unfold amA amE
 grind
section
variable {rows : List Rw} {gs : List Ch} {al mo od lv : List Int}
def lvR (gs:List Ch) (lv:List Int):Prop:=M lv=M gs/\∀j,0<=j->j<(M gs:Int)->0<=gi lv j/\gi lv j<EG (AG gs j).2.2.2.1 (AG gs j).2.2.2.2.1 (AG gs j).2.2.2.2.2.1
def zW (H:Hr rows gs al mo od):lvR gs (lvF rows gs al mo od):=⟨ars,λj h0 h1=>⟨ayM H h0,by
 have:=aQj H h0 h1
 have:=ql H h0 h1
 omega⟩⟩
def atP (H:Hr rows gs al mo od) {j k:Int}(h0:0<=j) (h1:j<(M gs:Int)) (k0:0<=k) (k1:k<EG (AG gs j).2.2.2.1 (AG gs j).2.2.2.2.1 (AG gs j).2.2.2.2.2.1):(0<=Cq gs j k/\Cq gs j k<=80)/\aKJ gs j k=0/\aKK gs j k=Cq gs j k/\FP gs j (Cq gs j k)=k:=by
 have hh:=H.has j h0 h1
 obtain ⟨g1,g2,g3,g4,g5⟩:=IB.1 hh
 have h2:=au2 hh k0 k1
 obtain ⟨e1,e2⟩:=ahl k0 k1;refine ⟨⟨aRn hh k0,?_⟩,e2,e1,as1 hh k0 k1⟩;unfold Cq;omega
theorem ahj (H:Hr rows gs al mo od) (R:lvR gs lv) {j:Int}(h0:0<=j) (h1:j<(M gs:Int)):letI a:=FL gs lv;FP gs j (gi a j)=gi lv j/\aKJ gs j (gi lv j)=0/\aKK gs j (gi lv j)=gi a j/\0<=gi a j/\gi a j<=80:=by
 obtain ⟨r0,r1⟩:=R.2 j h0 h1;obtain ⟨a1,a2,a3,a4⟩:=atP H h0 h1 r0 r1;rw [TO h0 h1]
 grind
def ahu (H:Hr rows gs al mo od) {j k:Int}(h0:0<=j) (h1:j<(M gs:Int)) (k0:0<=k) (k1:k<EG (AG gs j).2.2.2.1 (AG gs j).2.2.2.2.1 (AG gs j).2.2.2.2.2.1):Cq gs j k<=gi mo j↔k<=tpO gs mo j:=
 qF (H.has j h0 h1) (H.mo _<|KG h0 (by rw [H.mol];exact h1)).1 k0 k1
theorem ad3 {a b:List Int}(hl:M a=M b) (h:∀j:Int,0<=j->j<(M b:Int)->gi a j=gi b j):a=b:=ZU hl λk h1 h2=>by
 have:=h (k:Int) A0 A0
 rw [IF A8,IF A8] at this
 grind
def g4 (gs:List Ch) (mo b am:List Int) (j:Int):Prop:=(0<=gi b j/\gi b j<EG (AG gs j).2.2.2.1 (AG gs j).2.2.2.2.1 (AG gs j).2.2.2.2.2.1)/\gi am j=Cq gs j (gi b j)/\gi am j<=gi mo j
end
section
variable {cs : List Cd} {os : List ByteArray} {ks : List Ko} {gs : List Ch} {bs : List Ba} {al mo od : List Int}
def avc (h:G7 cs os ks gs bs al mo od=U):Fk cs os ks gs bs al mo od=FL gs (lvF (DH cs gs<|M cs) gs al mo od):=by
 unfold Fk;rw [AD h,avb<|aa8 h]
def aa9 (h:G7 cs os ks gs bs al mo od=U):shE cs os ks gs bs al mo od=0:=by unfold shE;rw [AD h]
end
abbrev Am:Ty:=.pair A7 A7
abbrev Ra:=Int×Int
instance:Coe (List Ra) LV:=⟨.xl Am⟩
def Bw (l:List Ra) (n:Int):Ra:=l.getD n.toNat (0,0)
def uN {l:List Ra}{n:Int}(h:n.toNat<M l):Bw l n=l[n.toNat]:=Mg h
def aRX {l:List Int}{j:Int}(h:M l<=j.toNat):gi l j=0:=by
 unfold gi;rw [Dd,ZK h];rfl
theorem ayH {l:List Int}{a:Int}(h:a∈l):∃j:Int,(0<=j/\j<(M l:Int))/\gi l j=a:=by
 obtain ⟨k,hk,e⟩:=I4.1 h;exact ⟨k,A0,by rw [IF A8];simpa using e⟩
def neN {a b:Nat}:((a:Int) !=(b:Int))=!an (a=b):=by
 by_cases h:a=b
 ·simp [h]
 ·have h':(a:Int)≠(b:Int):=A0
  simp [h,h']
def Lx (t:Int) (x:Le):Bool:=an (x.2.2.2.1<=t)&&an (DB x>t)
def Ku (o:List Int) (x:Le):List Int:=o.set x.2.1.toNat<|mx (gi o x.2.1) x.2.2.1
def J9 (n:Nat) (l:List Le) (t:Int):List Int:=(l.filter<|Lx t).foldl Ku<|aq n 0
def below (n:Int) (l:List Le):Bool:=l.all λx=>an<|x.2.1<n
def Kd (l:List Le) (n t:Int):Bool:=(BC l&&(inB n 0 16&&inB t 0 1100000))&&below n l
def Eo (l:List Le) (n t:Int):List Int:=if Kd l n t=U then J9 n.toNat l t else []
def Hq (l:List Le) (n t:Int):Int:=if Kd l n t=U then 0 else 1
def aGk {o:List Int}{x:Le}:M (Ku o x)=M o:=by simp [Ku]
def aGj:∀ {l:List Le}{o:List Int},M (l.foldl Ku o)=M o
 | [],_=>rfl
 |x::l,o=>by rw [Jy,aGj,aGk]
def T9 {n:Nat}{l:List Le}{t:Int}:M (J9 n l t)=n:=by rw [J9,aGj,Ce]
theorem aE3 {l:List Le}(h:BC l=U):l.Pairwise (λa b=>a.1<b.1/\a.2.2.2.1<=b.2.2.2.1):=by
 unfold BC at h;rw [AY] at h
 have hs:∀k:Nat,(hk:k+1<M l)->l[k].1<l[k+1].1/\l[k].2.2.2.1<=l[k+1].2.2.2.1:=λk hk=>by
  have:=Dy.1 h.2 (k+1) A0
  unfold Gn Jh at this;rw [Nf (n:=((k+1:Nat):Int)) A8,Nf (n:=((k+1:Nat):Int)-1) A0] at this;simp only [AY,Ck,Ac] at this;obtain ⟨_,h1|h1⟩:=this
  ·omega
  ·have e:(((k+1:Nat):Int)-1).toNat=k:=A0
   simp only [e,By] at h1;omega
 rw [jw];intro i j hi hj hij
 induction j with
 |zero=>omega
 | succ j ih=>
  have h1:=hs j A0
  by_cases e:i=j
  ·grind
  ·have h2:=ih A0 A0
   omega
def CO (c:Ch):Int:=c.2.2.2.2.2.2.1
def raC (c:Ch) (r:Ra):Bool:=IU c.2.2.1 c.2.2.2.1 c.2.2.2.2.1 c.2.2.2.2.2.1 (CO c) r.1 r.2
def HR (x:Dm):Bool:=inB x.2.1 0 1000000000&&(inB x.2.2.1 0 1000000&&inB x.2.2.2 1 9)
def JG (cs:List Cd) (os:List ByteArray) (ks:List Ko) (gs:List Ch) (bs:List Ba) (l:List Le) (rs:List Ra) (d:List Dm) (t n:Int):Bool:=
 (BL cs os ks gs bs&&BC l)&&((an (M rs=M gs)&&(an (M d=M gs)&&(inB t 0 1000000&&inB n 1 999900)))&&(below (M gs) l&&Dc (M gs) (λj=>raC (AG gs j) (Bw rs j)&&HR (Dq d j))))
def H7 (n:Nat) (f:Int->Int):List Int:=(au n).map λk:Nat=>f (k:Int)
def K0 {n:Nat}{f:Int->Int}:M (H7 n f)=n:=by simp [H7]
theorem Sq {n:Nat}{f:Int->Int}{j:Int}(h0:0<=j) (h1:j<(n:Int)):gi (H7 n f) j=f j:=by
 rw [IF (by rw [K0];omega)]
 simp only [H7,x6,kK]
 grind
theorem aD8 {n:Nat}{f:Int->Int}{x:Int}(h:x∈H7 n f):∃j,(0<=j/\j<(n:Int))/\f j=x:=by
 obtain ⟨k,hk,e⟩:=Ej.1 h
 grind
def Bv (gs:List Ch):List Int:=H7 (M gs) λk=>CO<|AG gs k
def J0 (gs:List Ch) (d:List Dm):List Int:=H7 (M gs) (λk=>if (Dq d k).1=U then (AG gs k).2.2.2.2.1 else 0)
def Hp (gs:List Ch) (l:List Le) (t:Int):List Int:=H7 (M gs) λk=>mx (CO<|AG gs k)<|gi (J9 (M gs) l t) k
def tgL (cs:List Cd) (os:List ByteArray) (ks:List Ko) (gs:List Ch) (bs:List Ba) (d:List Dm) (t:Int):List Int:=Fk cs os ks gs bs (Bv gs) (J0 gs d)<|H5 d t
def M7 (cs:List Cd) (os:List ByteArray) (ks:List Ko) (gs:List Ch) (bs:List Ba) (l:List Le) (d:List Dm) (t:Int):List Int:=Fk cs os ks gs bs (Hp gs l t) (tgL cs os ks gs bs d t)<|H5 d t
theorem afR {l:List Ra}{i j:Int}{v:Ra}(h0:0<=i) (h1:i<(M l:Int)) (hj:0<=j):Bw (l.set i.toNat v) j=if j=i then v else Bw l j:=by
 unfold Bw;rw [Dd,Dd,I7]
 by_cases e:j=i
 ·subst e
  rw [AD rfl,AD rfl,AD A0];rfl
 ·grind
theorem arP {a b:List Ra}(hl:M a=M b) (h:∀j:Int,0<=j->j<(M b:Int)->Bw a j=Bw b j):a=b:=ZU hl λk h1 h2=>by
 have:=h (k:Int) A0 A0
 rw [uN A8,uN A8] at this
 grind
def ofO (cs:List Cd) (os:List ByteArray) (ks:List Ko) (gs:List Ch) (bs:List Ba) (l:List Le) (d:List Dm) (t:Int) (od:List Int):List Int:=Fk cs os ks gs bs (Hp gs l t) (Fk cs os ks gs bs (Bv gs) (J0 gs d) od) od
def nwO (a t:Int):Option Le->Bool
 |none=>U
 |some x=>x.2.2.1 !=a ||an (x.2.2.2.1<=t-6)
def nwB (gs:List Ch) (l:List Le) (t i a:Int):Bool:=!an (a<=CO (AG gs i))&&nwO a t (l.reverse.find? λx=>x.2.1==i)
def nxA (c:Ch) (r:Ra) (w:Int):Int:=nA c.2.2.1 c.2.2.2.1 c.2.2.2.2.1 c.2.2.2.2.2.1 (CO c) r.1 r.2 w
def nxS (c:Ch) (r:Ra) (w:Int):Int:=nS c.2.2.1 c.2.2.2.1 c.2.2.2.2.1 c.2.2.2.2.2.1 (CO c) r.1 r.2 w
def JE (gs:List Ch) (rs:List Ra) (w:List Int) (k:Nat):List Int:=H7 k λk=>nxA (AG gs k) (Bw rs k)<|gi w k
def dcR (gs:List Ch) (rs:List Ra) (w:List Int) (k:Nat):List Ra:=(au k).map λk:Nat=>(nxA (AG gs k) (Bw rs k)<|gi w k,nxS (AG gs k) (Bw rs k)<|gi w k)
def Gx (gs:List Ch) (l:List Le) (t n:Int) (am:List Int):Nat->List Le
 |0=>[]
 |k+1=>Gx gs l t n am k++(if nwB gs l t k (gi am k)=U then [(n+M (Gx gs l t n am k),(k:Int),gi am k,t,12)] else [])
def cy {gs:List Ch}{rs:List Ra}{w:List Int}{k:Nat}:M (dcR gs rs w k)=k:=by simp [dcR]
theorem agK {gs:List Ch}{rs:List Ra}{w:List Int}{k:Nat}{j:Int}(h0:0<=j) (h1:j<(k:Int)):Bw (dcR gs rs w k) j=(nxA (AG gs j) (Bw rs j)<|gi w j,nxS (AG gs j) (Bw rs j)<|gi w j):=by
 rw [uN (by rw [cy];omega)]
 simp only [dcR,x6,kK]
 grind
def okC (c:Ch) (r:Ra) (w:Int):Bool:=okB c.2.2.1 c.2.2.2.1 c.2.2.2.2.1 c.2.2.2.2.2.1 (CO c) r.1 r.2 w
def dcK (gs:List Ch) (rs:List Ra) (w:List Int):Prop:=∀j,0<=j->j<(M gs:Int)->okC (AG gs j) (Bw rs j) (gi w j)=U
theorem aCG {gs:List Ch}{l:List Le}{t n:Int}{am:List Int}:∀ {k:Nat},M (Gx gs l t n am k)<=k
 |0=>by simp [Gx]
 |k+1=>by
  have:=aCG (gs:=gs) (l:=l) (t:=t) (n:=n) (am:=am) (k:=k)
  rw [Gx,BF];exact Zj
section
variable (cs : List Cd) (os : List ByteArray) (ks : List Ko) (gs : List Ch) (bs : List Ba) (l : List Le) (rs : List Ra) (d : List Dm) (t n : Int)
def deA:List Int:=if JG cs os ks gs bs l rs d t n=U then JE gs rs (M7 cs os ks gs bs l d t) (M gs) else []
def deR:List Ra:=if JG cs os ks gs bs l rs d t n=U then dcR gs rs (M7 cs os ks gs bs l d t) (M gs) else []
def deL:List Le:=if JG cs os ks gs bs l rs d t n=U then Gx gs l t n (JE gs rs (M7 cs os ks gs bs l d t)<|M gs) (M gs) else []
def deE:Int:=if JG cs os ks gs bs l rs d t n=U then 0 else 1
end
section
variable {cs : List Cd} {os : List ByteArray} {ks : List Ko} {gs : List Ch} {bs : List Ba} {l : List Le} {rs : List Ra} {d : List Dm} {t n : Int}
structure Vd (cs:List Cd) (os:List ByteArray) (ks:List Ko) (gs:List Ch) (bs:List Ba) (l:List Le) (rs:List Ra) (d:List Dm) (t n:Int):Prop where
 site:BL cs os ks gs bs=U
 les:BC l=U
 rl:M rs=M gs
 dl:M d=M gs
 gl:M gs<=16
 tb:0<=t/\t<=1000000
 nb:1<=n/\n<=999900
 co:below (M gs) l=U
 ra:∀j:Int,0<=j->j<(M gs:Int)->raC (AG gs j) (Bw rs j)=U
 dm:∀j:Int,0<=j->j<(M gs:Int)->HR (Dq d j)=U
 ch:∀j:Int,0<=j->j<(M gs:Int)->chW (AG gs j)=U
def aaL (h:JG cs os ks gs bs l rs d t n=U):Vd cs os ks gs bs l rs d t n:=by
 unfold JG at h;simp only [AY,Ac,BV] at h;obtain ⟨⟨h1,h2⟩,⟨h3,h4,h5,h6⟩,h7,h8⟩:=h
 have hj:∀j:Int,0<=j->j<(M gs:Int)->raC (AG gs j) (Bw rs j)=U/\HR (Dq d j)=true:=λj h0 hj=>by
  have:=Dy.1 h8 j.toNat A0
  rw [CM h0,AY] at this;exact this
 exact ⟨h1,h2,h3,h4,(DF.1 h1).1.2.2.2.2.1,h5,h6,h7,λj h0 h1=>(hj j h0 h1).1,λj h0 h1=>(hj j h0 h1).2,λj h0 hj=>by
  have:=Oo h1 h0 hj
  unfold GA at this;simp only [AY] at this;exact this.2.2⟩
def dh {c:Ch}(h:chW c=U):(1<=c.2.2.1/\c.2.2.1<=7)/\(1<=c.2.2.2.1/\c.2.2.2.1<=c.2.2.2.2.1)/\c.2.2.2.2.1<=80/\(1<=c.2.2.2.2.2.1/\c.2.2.2.2.2.1<=80)/\0<=CO c/\CO c<=c.2.2.2.2.1:=by
 unfold chW at h;unfold CO;simp only [AY,Ck,BV,Cz] at h;omega
theorem aHt (hv:BC l=U) {m:Nat}:∀a∈J9 m l t,0<=a/\a<=80:=by
 have key:∀(l:List Le) (o:List Int),(∀x∈l,D5 x=U)->(∀a∈o,0<=a/\a<=80)->∀a∈l.foldl Ku o,0<=a/\a<=80:=λl=>by
  induction l with
  |nil=>exact λo _ h=>h
  | cons x l ih=>
   intro o hl ho;refine ih _ (λy hy=>hl y A8) λa ha=>?_
   have hx:=LD.1<|hl x AI
   rcases OQ ha with ha|rfl
   ·grind
   ·have:0<=gi o x.2.1/\gi o x.2.1<=80:=by
     by_cases h:x.2.1.toNat<M o
     ·rw [IF h];exact ho _<|H0 _
     ·rw [aRX A0];omega
    unfold mx;omega
 refine key _ _ (λx hx=>(GS hv).2 x (DE.1 hx).1) λa ha=>?_
 rw [List.eq_of_mem_replicate ha];omega
def aGq (hd:M d=M gs):Gb (H5 d t) (M gs)=true:=by
 unfold Gb;rw [aEN,hd,Cm rfl,EA,AY,BP];refine ⟨λx hx=>o7.2 (by have:=amy.1 hx;rw [hd] at this;exact this),oe.2 λj hj hm=>?_⟩
 obtain ⟨k,hk,e⟩:=I4.1 hm;rw [MC] at hk;rw [List.getElem_take] at e
 have:=(jw.1<|aee (d:=d) (t:=t)) k j A0 hj A0
 exact this e
def zo {l:List Int}{a b:Int}(hz:a<=0/\0<=b) (h:∀x∈l,a<=x/\x<=b) {j:Int}:a<=gi l j/\gi l j<=b:=by
 by_cases hj:j.toNat<M l
 ·rw [IF hj];exact h _<|H0 _
 ·rw [aRX A0];exact hz
structure Si (cs:List Cd) (os:List ByteArray) (ks:List Ko) (gs:List Ch) (bs:List Ba) (d:List Dm):Prop where
 site:BL cs os ks gs bs=U
 dl:M d=M gs
theorem Si.ch (h:Si cs os ks gs bs d) {j:Int}(h0:0<=j) (hj:j<(M gs:Int)):chW (AG gs j)=true:=by
 have:=Oo h.site h0 hj
 unfold GA at this
 grind
def Vd.si (h:Vd cs os ks gs bs l rs d t n):Si cs os ks gs bs d:=⟨h.site,h.dl⟩
def ahc (h:Si cs os ks gs bs d):∀a∈Bv gs,0<=a/\a<=80:=λa ha=>by
 exact aLr
def au9 (h:Si cs os ks gs bs d):∀a∈J0 gs d,0<=a/\a<=80:=λa ha=>by
 exact aLr
def ahn (h:Vd cs os ks gs bs l rs d t n):∀a∈Hp gs l t,0<=a/\a<=80:=λa ha=>by
 obtain ⟨j,⟨h0,h1⟩,rfl⟩:=aD8 ha
 have:=dh<|h.ch j h0 h1
 have:=zo (j:=j) ⟨De 0,Aa⟩<|aHt h.les (m:=M gs) (t:=t)
 unfold mx;omega
theorem avd {al mo od:List Int}(hk:G7 cs os ks gs bs al mo od=U):letI a:=Fk cs os ks gs bs al mo od;M a=M gs/\∀j,0<=j->j<(M gs:Int)->(0<=gi a j/\gi a j<=80)/\gi a j<=gi mo j:=by
 have H:=aa8 hk
 rw [avc hk];refine ⟨aFM,λj h0 h1=>?_⟩
 obtain ⟨_,_,_,e4,e5⟩:=ahj H (zW H) h0 h1
 have h3:=(ahu H h0 h1 ((zW H).2 j h0 h1).1 ((zW H).2 j h0 h1).2).2<|aQj H h0 h1
 rw [TO h0 h1] at e4 e5|-
 grind
theorem aGT {al mo od:List Int}(hk:G7 cs os ks gs bs al mo od=U):M (Fk cs os ks gs bs al mo od)=M gs/\∀a∈Fk cs os ks gs bs al mo od,0<=a/\a<=80:=by
 obtain ⟨h1,h2⟩:=avd hk;refine ⟨h1,λa ha=>?_⟩
 obtain ⟨j,hj,rfl⟩:=ayH ha
 grind
def aa3 (h:Si cs os ks gs bs d):G7 cs os ks gs bs (Bv gs) (J0 gs d) (H5 d t)=true:=
 L9.2 ⟨h.site,K0,K0,BP.2 λa ha=>QH.2<|ahc h a ha,BP.2 λa ha=>QH.2<|au9 h a ha,aGq h.dl⟩
def aa4 (h:Si cs os ks gs bs d):M (tgL cs os ks gs bs d t)=M gs/\∀a∈tgL cs os ks gs bs d t,0<=a/\a<=80:=by
 exact aGT<|aa3 (t:=t) h
def aat (h:Vd cs os ks gs bs l rs d t n):G7 cs os ks gs bs (Hp gs l t) (tgL cs os ks gs bs d t) (H5 d t)=true:=
 L9.2 ⟨h.site,K0,(aa4 h.si).1,BP.2 λa ha=>QH.2<|ahn h a ha,BP.2 λa ha=>QH.2<|(aa4 h.si).2 a ha,aGq h.dl⟩
def aau (h:Vd cs os ks gs bs l rs d t n):M (M7 cs os ks gs bs l d t)=M gs/\∀a∈M7 cs os ks gs bs l d t,0<=a/\a<=80:=by
 exact aGT<|aat h
def akI (h:Vd cs os ks gs bs l rs d t n) {j:Int}:letI a:=M7 cs os ks gs bs l d t;0<=gi a j/\gi a j<=80:=zo ⟨De 0,Aa⟩ (aau h).2
def agI (h:Vd cs os ks gs bs l rs d t n):dcK gs rs (M7 cs os ks gs bs l d t):=λj j0 j1=>by
 have hr:=h.ra j j0 j1
 have hb:=akI h (j:=j)
 unfold raC at hr;unfold okC okB;rw [hr,Cm hb.1,Cm hb.2];rfl
def atQ (h:Vd cs os ks gs bs l rs d t n):Kd l (M gs) t=true:=by
 have:=h.gl
 have:=h.tb
 unfold Kd;rw [h.les,BV.2 ⟨A0,A0⟩,BV.2 ⟨A0,A0⟩,h.co];rfl
end
section
variable {P : List Int -> Bool} {tp : Int -> Int}
end
def ajn {ph mn mx st fb a s want:Int}(h:okB ph mn mx st fb a s want=U):nE ph mn mx st fb a s want=0:=by rw [nE,AD h]
section
variable {cs : List Cd} {os : List ByteArray} {ks : List Ko} {gs : List Ch} {bs : List Ba} {l : List Le} {rs : List Ra} {d : List Dm} {t n : Int}
def axX {i a:Int}(h:nwB gs l t i a=U):CO (AG gs i)<a:=by
 unfold nwB at h;rw [AY] at h
 have h1:=h.1
 simp only [Cs,Cy] at h1;omega
end
abbrev Ld:=Int×Ra
def EH (l:List Ld) (i:Nat):Ld:=l.getD i<|Ty.dflt<|.pair A7 Am
def XD (l:List Ld) (i:Nat) (v:Int):List Ld:=l.set i ((AA<|(l.getD i<|Ty.dflt<|.pair A7 Am).1+v),(l.getD i<|Ty.dflt<|.pair A7 Am).2)
def Ug (l:List Ld) (i:Nat) (v:Int):List Ld:=letI a:=l.getD i<|Ty.dflt<|.pair A7 Am;l.set i (a.1,((AA<|a.2.1+v),a.2.2))
def Kn (l:List Ld) (i:Nat) (v:Int):List Ld:=letI a:=l.getD i<|Ty.dflt<|.pair A7 Am;l.set i (a.1,(a.2.1,(AA<|a.2.2+v)))
def aBi {l:List Ld}{i:Nat}{v:Int}:M (XD l i v)=M l:=by simp [XD]
def aBh {l:List Ld}{i:Nat}{v:Int}:M (Ug l i v)=M l:=by simp [Ug]
def aBg {l:List Ld}{i:Nat}{v:Int}:M (Kn l i v)=M l:=by simp [Kn]
def adE (ph v:Int) (e:Ld):Ld:=
 (if (Bq J ph 1 !=0)=U then AA (e.1+v) else e.1,
  (if (Bq J ph 2 !=0)=U then AA (e.2.1+v) else e.2.1,
   if (Bq J ph 4 !=0)=U then AA (e.2.2+v) else e.2.2))
def adP (ph v:Int) (l:List Ld) (i:Nat):List Ld:=l.set i<|adE ph v<|EH l i
theorem aGf {l:List Ld}{i j:Nat}{e:Ld}(h:i<M l):EH (l.set i e) j=if i=j then e else EH l j:=by
 unfold EH;rw [Dd,Dd,I7]
 by_cases hij:i=j
 ·subst hij
  rw [AD rfl,AD rfl,AD h];rfl
 ·grind
def anZ {l:List Ld}{i:Nat}(h:i<M l):l.set i (EH l i)=l:=by
 unfold EH
 simp_all
def aud {l:List Ld}{i:Nat}{v:Int}:XD l i v=l.set i (AA<|(EH l i).1+v,(EH l i).2):=rfl
def auc {l:List Ld}{i:Nat}{v:Int}:Ug l i v=l.set i ((EH l i).1,(AA<|(EH l i).2.1+v,(EH l i).2.2)):=rfl
def aub {l:List Ld}{i:Nat}{v:Int}:Kn l i v=l.set i ((EH l i).1,((EH l i).2.1,AA<|(EH l i).2.2+v)):=rfl
def ahK {ph v:Int}{l:List Ld}{i:Nat}(h:i<M l):adP ph v l i=
  (let a:=if (Bq J ph 1 !=0)=U then XD l i v else l
   let b:=if (Bq J ph 2 !=0)=U then Ug a i v else a
   if (Bq J ph 4 !=0)=U then Kn b i v else b):=by
 unfold adP adE
 by_cases h1:(Bq J ph 1 !=0)=U<;>by_cases h2:(Bq J ph 2 !=0)=U<;>by_cases h4:(Bq J ph 4 !=0)=U<;>
  simp only [h1,h2,h4,Bm,IA,F9,aud,auc,aub,aGf h,List.set_set]<;>exact anZ h
def atX {ph v:Int}{l:List Ld}{i:Nat}:M (adP ph v l i)=M l:=by simp [adP]
def ldW:Nat->List Cd->Int->Int->Int->List Ld->List Ld
 |0,_,_,_,_,l=>l
 |k+1,cs,ph,v,c,l=>if c>=0 then ldW k cs ph v (Ag cs c).2.1 (adP ph v l c.toNat) else l
def HG (cs:List Cd) (ph v c:Int) (l:List Ld):List Ld:=ldW (c.toNat+2) cs ph v c l
theorem aQn {cs:List Cd}{ph v:Int}(hu:Fx cs=U):∀(k k':Nat) (c:Int) (l:List Ld),c<M cs->(c+1).toNat<k->(c+1).toNat<k'->ldW k cs ph v c l=ldW k' cs ph v c l
 |0,_,_,_,_,h,_=>A0
 |_+1,0,_,_,_,_,h=>A0
 | k+1,k'+1,c,l,hc,h,h'=>by
  simp only [ldW]
  by_cases h0:c>=0
  ·rw [AD h0,AD h0]
   have:=QX hu h0 hc
   exact aQn hu k k' _ _ A0 A0 A0
  ·grind
theorem ayY {cs:List Cd}{ph v c:Int}{l:List Ld}(hu:Fx cs=U) (hc:c<M cs):HG cs ph v c l=if c>=0 then HG cs ph v (Ag cs c).2.1 (adP ph v l c.toNat) else l:=by
 unfold HG;rw [ldW]
 by_cases h0:c>=0
 ·rw [AD h0,AD h0]
  have:=QX hu h0 hc
  rw [aQn hu (c.toNat+1) ((Ag cs c).2.1.toNat+2) (Ag cs c).2.1 _ A0 A0 A0]
 ·grind
def aPX {cs:List Cd}{o:Int}(hu:Fx cs=U):∀(k:Nat) (c:Int),c<M cs->GG k cs o c=U->o<=c
 |0,_,_,h=>by simp [GG] at h
 | k+1,c,hc,h=>by
  simp only [GG] at h;split at h
  ·rename_i h0
   rw [Ck] at h;rcases h with h|h
   ·have:=eq_of_beq h
    omega
   ·have h1:=QX hu h0 hc
    have:=aPX hu k _ A0 h
    omega
  ·cases h
theorem aQo {cs:List Cd}{ph v:Int}(hu:Fx cs=U) {o:Nat}:∀(k:Nat) (c:Int) (l:List Ld),c<M cs->M l=M cs->M (ldW k cs ph v c l)=M cs/\EH (ldW k cs ph v c l) o=if GG k cs (o:Int) c=U then adE ph v (EH l o) else EH l o
 |0,c,l,hc,hl=>⟨hl,by simp [ldW,GG]⟩
 | k +1,c,l,hc,hl=>by
  simp only [ldW]
  by_cases h0:c>=0
  ·have e0:GG (k+1) cs (o:Int) c=(c==(o:Int) ||GG k cs (o:Int) (Ag cs c).2.1):=by
    show (if c>=0 then _ else _)=_
    grind
   rw [AD h0,e0]
   have h1:=QX hu h0 hc
   have hct:c.toNat<M l:=A0
   obtain ⟨q1,q2⟩:=aQo hu (o:=o) k (Ag cs c).2.1 (adP ph v l c.toNat) A0 (by rw [atX];exact hl)
   refine ⟨q1,?_⟩;rw [q2];unfold adP;rw [aGf hct]
   by_cases hco:c.toNat=o
   ·have hb:(c==(o:Int))=true:=A8
    have hn:GG k cs (o:Int) (Ag cs c).2.1=false:=by
     cases hq:GG k cs (o:Int) (Ag cs c).2.1 with
     |false=>rfl
     |true=>
      have:=aPX hu k _ A0 hq
      omega
    rw [hb,hn,AD hco,hco]
    simp
   ·have hb:(c==(o:Int))=false:=by
     cases hq:c==(o:Int) with
     |false=>rfl
     |true=>
      have:=eq_of_beq hq
      omega
    grind
  ·have e0:GG (k+1) cs (o:Int) c=false:=by
    show (if c>=0 then _ else _)=_
    grind
   grind
def ayZ {cs:List Cd}{ph v c:Int}{l:List Ld}(hu:Fx cs=U) (hc:c<M cs) (hl:M l=M cs) (o:Nat):M (HG cs ph v c l)=M cs/\EH (HG cs ph v c l) o=if HJ cs (o:Int) c=U then adE ph v (EH l o) else EH l o:=
 aQo hu _ c l hc hl
def ldS (cs:List Cd) (gs:List Ch) (am:List Int):Nat->List Ld
 |0=>aq (M cs) (Ty.dflt<|.pair A7 Am)
 |k+1=>HG cs (AG gs k).2.2.1 (gi am k) (AG gs k).2.1<|ldS cs gs am k
def qH {cs:List Cd}{gs:List Ch}{am:List Int}(hu:Fx cs=U) (ha:atB cs gs=U):∀k:Nat,k<=M gs->M (ldS cs gs am k)=M cs
 |0,_=>by simp [ldS]
 |k+1,hk=>(ayZ hu (uk ha A0 A0) (qH hu ha k A0) 0).1
abbrev BM:Ty:=.pair A7 AQ
abbrev Lk:=Int×Le
def Fb (l:List Lk) (n:Int):Lk:=l.getD n.toNat (0,0,0,0,0,0)
structure PK where
 cs:List Cd
 os:List ByteArray
 ks:List Ko
 gs:List Ch
 bs:List Ba
 tk:Int
 up:Bool
 ls:List Le
 se:Int
 fl:List Int
 ra:List Ra
 nx:Int
 st:List St
 ca:List Ca
 mi:List Mi
 me:List Me
 dm:List Dm
 lk:List Lk
 (dr tg:List Int)
def pB (p:PK):AB:=⟨[.xl Ad p.cs,.xl .str p.os,.xl Ai p.ks,.xl Ae p.gs,.xl Aj p.bs,.v<|Y J p.tk,.v<|.bool p.up,.xl AQ p.ls,.v<|Y J p.se,.xl (.int aw) p.fl,.xl Am p.ra,.v<|Y J p.nx,.xl B3 p.st,.xl AQ p.ca,.xl B6 p.mi,.xl BQ p.me,.xl Au p.dm,.xl BM p.lk,.xl A7 p.dr,.xl A7 p.tg],47,.cl,X⟩
instance:Coe PK LV:=⟨λp=> .agg [.xl Ad p.cs,.xl .str p.os,.xl Ai p.ks,.xl Ae p.gs,.xl Aj p.bs,.v<|Y J p.tk,.v<|.bool p.up,.xl AQ p.ls,.v<|Y J p.se,.xl (.int aw) p.fl,.xl Am p.ra,.v<|Y J p.nx,.xl B3 p.st,.xl AQ p.ca,.xl B6 p.mi,.xl BQ p.me,.xl Au p.dm,.xl BM p.lk,.xl A7 p.dr,.xl A7 p.tg]⟩
def rQ (b:List AB) (q:Nat):PK:=letI a:=CS b q;⟨Ap Ad<|B9 a 0,Ap .str<|B9 a 1,Ap Ai<|B9 a 2,Ap Ae<|B9 a 3,Ap Aj<|B9 a 4,gI<|B9 a 5,gBo<|B9 a 6,Ap AQ<|B9 a 7,gI<|B9 a 8,Ap (.int aw)<|B9 a 9,Ap Am<|B9 a 10,gI<|B9 a 11,Ap B3<|B9 a 12,Ap AQ<|B9 a 13,Ap B6<|B9 a 14,Ap BQ<|B9 a 15,Ap Au<|B9 a 16,Ap BM<|B9 a 17,Ap A7<|B9 a 18,Ap A7<|B9 a 19⟩
def rV (b:List AB) (q j k:Nat) (e:Ty):List e.D:=bif Nat.beq k 0 then Ap e (B9 (CS b q) j) else gVe e (CS b k)
def rB (b:List AB) (q acs als afl ara ast aca ami ame adm alk adr atg:Nat):PK:=letI a:=CS b q;⟨rV b q 0 acs Ad,Ap .str<|B9 a 1,Ap Ai<|B9 a 2,Ap Ae<|B9 a 3,Ap Aj<|B9 a 4,gI<|B9 a 5,gBo<|B9 a 6,rV b q 7 als AQ,gI<|B9 a 8,rV b q 9 afl<|.int aw,rV b q 10 ara Am,gI<|B9 a 11,rV b q 12 ast B3,rV b q 13 aca AQ,rV b q 14 ami B6,rV b q 15 ame BQ,rV b q 16 adm Au,rV b q 17 alk BM,rV b q 18 adr A7,rV b q 19 atg A7⟩
def rF (b:List AB):PK:=rB b 16 4 5 6 7 8 9 10 11 12 13 14 15
def rT (b:List AB):PK:=rB b 16 4 0 0 0 8 9 10 11 0 0 14 15
abbrev _root_.Go.Sx.T.pc {α:Type}(p:PK) (t:T α):T α:=.rl p.cs<|.rl p.ls<|.rl p.fl<|.rl p.ra<|.rl p.st<|.rl p.ca<|.rl p.mi<|.rl p.me<|.rl p.dm<|.rl p.lk<|.rl p.dr<|.rl p.tg t
abbrev _root_.Go.Sx.T.pd {α:Type}(p:PK) (t:T α):T α:=.rl p.cs<|.rl p.st<|.rl p.ca<|.rl p.mi<|.rl p.me<|.rl p.dr<|.rl p.tg t
abbrev _root_.Go.Sx.T.pb {α:Type}(p:PK) (t:T α):T α:=.rl p.st<|.rl p.ca<|.rl p.mi<|.rl p.me<|.rl p.dm<|.rl p.lk<|.rl p.dr<|.rl p.tg t
abbrev _root_.Go.Sx.T.pa {α:Type}(p:PK) (t:T α):T α:=.rl p.cs<|.rl p.ls<|.rl p.fl<|.rl p.ra t
instance:Coe (List Lk) LV:=⟨.xl BM⟩
namespace PK
variable (p : PK)
def sV:Bool:=BL p.cs p.os p.ks p.gs p.bs
end PK
def IS (c:Cd) (t:Int):Cd:=(c.1,c.2.1,t,c.2.2.2)
def ET (cs:List Cd) (tg:List Int):Nat->List Cd
 |0=>cs
 |k+1=>(ET cs tg k).set k<|IS (Ag (ET cs tg k) k)<|gi tg k
def CU (gs:List Ch) (st:List St) (i k n m:Int):List St:=if sE (AG gs i) (BJ st i) k n m=0 then st.set i.toNat (sN (AG gs i) (BJ st i) k n m) else st
def Lw (gs:List Ch) (lk:List Lk) (t:Int) (st:List St):Nat->List St
 |0=>st
 |k+1=>if (Fb lk k).1>t then Lw gs lk t st k else CU gs (Lw gs lk t st k) (Fb lk k).2.2.1 7 (Fb lk k).2.2.2.1 (Fb lk k).2.2.2.2.2
def Lj (gs:List Ch) (st:List St) (i:Int):Nat->List St
 |0=>st
 |k+1=>CU gs (Lj gs st i k) i 8 0 0
def Lb (gs:List Ch) (dr:List Int) (t:Int) (st:List St):Nat->List St
 |0=>st
 |k+1=>if HC t (gi dr k)=0/\HC (t+1) (gi dr k)=0 then Lj gs (Lb gs dr t st k) k (BA (t+1) (gi dr k)-BA t (gi dr k)).toNat else Lb gs dr t st k
structure DW where
 st:List St
 mi:List Mi
 me:List Me
 dw:List Int
def Gp (gs:List Ch) (ca:List Ca) (s:DW) (i:Int):DW:=
 if (Bc ca i).2.2.1=0 then s
 else if JD (Bc ca i) (Cj s.mi i) (AG gs i).2.2.1 (BX (AG gs i)<|BJ s.st i)=0 then
  let a:=FQ (Bc ca i) (Cj s.mi i) (AG gs i).2.2.1<|BX (AG gs i)<|BJ s.st i
  let o:=cnt<|Eb (Bc ca i) (Cj s.mi i) (AG gs i).2.2.1<|BX (AG gs i)<|BJ s.st i
  ⟨if a>BX (AG gs i) (BJ s.st i) then CU gs s.st i 6 2 0 else s.st,s.mi.set i.toNat<|Jp (Bc ca i) (Cj s.mi i) (AG gs i).2.2.1<|BX (AG gs i)<|BJ s.st i,
   if GF (gMe s.me i) a o=0 then s.me.set i.toNat (I0 (gMe s.me i) a o) else s.me,s.dw.set i.toNat a⟩
 else s
def Ez (gs:List Ch) (ca:List Ca) (s:DW):Nat->DW
 |0=>s
 |k+1=>Gp gs ca (Ez gs ca s k) k
theorem qW {cs:List Cd}{k:Nat}{x:Cd}{j:Nat}(hk:k<M cs):Ag (cs.set k x) (j:Int)=if j=k then x else Ag cs j:=by
 unfold Ag
 by_cases e:j=k
 ·grind
 ·grind
def QR {cs:List Cd}{k:Nat}(hk:k<M cs):Ag cs (k:Int)=cs[k]:=by
 unfold Ag
 simp [hk]
theorem nZ {cs:List Cd}{os:List ByteArray}{ks:List Ko}{gs:List Ch}{bs:List Ba}(h:BL cs os ks gs bs=U) {k:Nat}(hk:k<M cs) {t:Int}(ht:1<=t/\t<=1000):
  BL (cs.set k<|IS (Ag cs k) t) os ks gs bs=true:=by
 have hm:(cs.set k<|IS (Ag cs k) t).map (·.1)=cs.map (·.1):=by
  rw [List.map_set]
  have:(IS (Ag cs k) t).1=(cs.map (·.1))[k]' A8:=by
   rw [QR hk];simp [IS]
  rw [this,List.set_getElem_self]
 unfold BL LI M6 at h|-;rw [hm,CH];simp only [AY] at h|-;obtain ⟨h1,h2,h3,h4,h5⟩:=h;refine ⟨h1,h2,h3,?_,h5⟩;rw [Dy] at h4|-;intro j hj
 have hc:=h4 j hj
 rw [qW hk];split
 ·rename_i e
  subst e;unfold Hu IS at*;simp only [AY] at hc|-;exact ⟨hc.1,BV.2 ht,hc.2.2⟩
 ·exact hc
def BI (l:List Int):Prop:=∀x∈l,0<=x/\x<=255
def mC (x b:Int):Int:=IntKind.u32.wrap<|aJk ax x (IntKind.u32.wrap b)*16777619
def SQ (x:Int) (l:List Int):Int:=l.foldl mC x
def PC (ps:List<|List Int):Int:=ps.foldl SQ 2166136261
def Cp (n:Int):List Int:=[IntKind.u8.wrap<|n.fdiv<|2^24,IntKind.u8.wrap<|n.fdiv<|2^16,IntKind.u8.wrap<|n.fdiv<|2^8,IntKind.u8.wrap n]
def nm4 (a b c d:Int):Int:=DM ax (DM ax (DM ax (IntKind.u32.wrap<|IntKind.u32.wrap a*2^24)<|IntKind.u32.wrap<|IntKind.u32.wrap b*2^16)<|IntKind.u32.wrap<|IntKind.u32.wrap c*2^8)<|IntKind.u32.wrap d
def Gq (l:List Int):Int:=nm4 (gi l 0) (gi l 1) (gi l 2)<|gi l 3
def Jv (d:List Int):List Int:=[IntKind.u8.wrap<|(M d:Int).fdiv<|2^8,IntKind.u8.wrap (M d:Int)]
def Br (d:List Int):List Int:=80::(Jv d++(Cp (PC [Jv d,d])++d))
def GZ {n:Int}:IntKind.u8.wrap n=n%256:=aMr
def TA {n:Int}:IntKind.u32.wrap n=n%4294967296:=aMr
def asH (x b:Int):0<=mC x b/\mC x b<4294967296:=by unfold mC;rw [TA];omega
def asJ {x:Int}(h:0<=x/\x<4294967296) (l:List Int):0<=SQ x l/\SQ x l<4294967296:=by
 induction l generalizing x with
 |nil=>exact h
 |cons b l ih=>exact ih<|asH x b
def asI (ps:List<|List Int):0<=PC ps/\PC ps<4294967296:=by
 have:∀(ps:List<|List Int) (x:Int),0<=x/\x<4294967296->0<=ps.foldl SQ x/\ps.foldl SQ x<4294967296:=by
  intro ps
  induction ps with
  |nil=>intro x h;exact h
  |cons p ps ih=>intro x h;exact ih _<|asJ h p
 exact this ps _ Aa
def fF {a b k:Nat}(h:b<2^k):a*2^k |||b=a*2^k+b:=by
 rw [Nat.mul_comm,<-Nat.two_pow_add_eq_or_of_lt h]
theorem qL {a b:Nat}(ha:a<4294967296) (hb:b<4294967296):DM ax (a:Int) (b:Int)=((a |||b:Nat):Int):=by
 have h:=Nat.or_lt_two_pow (n:=32) ha hb
 unfold DM;rw [TA]
 have e:∀n:Nat,n<4294967296->(BitVec.ofInt (IntKind.bits ax) (n:Int)).toNat=n:=λn hn=>by
  show (BitVec.ofInt 32 (n:Int)).toNat=n
  grind
 rw [BitVec.toNat_or,e a ha,e b hb];omega
def axC {a b c d:Int}(ha:0<=a/\a<=255) (hb:0<=b/\b<=255) (hc:0<=c/\c<=255) (hd:0<=d/\d<=255):nm4 a b c d=a*16777216+b*65536+c*256+d:=by
 obtain ⟨a,rfl⟩:=Pr ha.1;obtain ⟨b,rfl⟩:=Pr hb.1;obtain ⟨c,rfl⟩:=Pr hc.1;obtain ⟨d,rfl⟩:=Pr hd.1;unfold nm4
 have e1:IntKind.u32.wrap (IntKind.u32.wrap (a:Int)*2^24)=((a*2^24:Nat):Int):=yT
 have e2:IntKind.u32.wrap (IntKind.u32.wrap (b:Int)*2^16)=((b*2^16:Nat):Int):=yT
 have e3:IntKind.u32.wrap (IntKind.u32.wrap (c:Int)*2^8)=((c*2^8:Nat):Int):=yT
 have e4:IntKind.u32.wrap (d:Int)=((d:Nat):Int):=by rw [TA];omega
 rw [e1,e2,e3,e4,qL A0 A0,fF A0,
  qL A0 A0,show a*2^24+b*2^16=(a*2^8+b)*2^16 by omega,fF A0,
  qL A0 A0,show (a*2^8+b)*2^16+c*2^8=(a*2^16+b*2^8+c)*2^8 by omega,fF A0]
 omega
def WA (n:Int):BI (Cp n):=by
 intro x hx;simp only [Cp,B7,Bt,Bu] at hx;rcases hx with rfl|rfl|rfl|rfl<;>rw [GZ]<;>omega
def aH7 {n:Int}(h:0<=n/\n<4294967296):Gq (Cp n)=n:=by
 have e:Gq (Cp n)=nm4 (IntKind.u8.wrap<|n.fdiv<|2^24) (IntKind.u8.wrap<|n.fdiv<|2^16) (IntKind.u8.wrap<|n.fdiv<|2^8) (IntKind.u8.wrap n):=rfl
 rw [e,axC aD aD aD aD,GZ,GZ,GZ,GZ,
  Pk _ Aa,Pk _ Aa,Pk _ Aa]
 omega
def Fv (b:List Int) (f:Nat):Nat:=(gi b<|(f:Int)+1).toNat*256+(gi b<|(f:Int)+2).toNat
def rcF (b:List Int) (f:Nat):Bool:=an (f+7<=M b)&&an (f+7+Fv b f<=M b)
def H9 (b:List Int) (f:Nat):List Int:=(b.drop<|f+7).take<|Fv b f
def rcG (b:List Int) (f:Nat):Bool:=rcF b f&&(PC [(b.drop<|f+1).take 2,H9 b f]==Gq ((b.drop<|f+3).take 4))
def HD (b:List Int):Nat->Nat->List (List Int)×Nat×Bool
 |0,f=>([],f,U)
 |n+1,f=>if f<M b/\gi b (f:Int)=80 then (if rcG b f then (H9 b f::(HD b n<|f+7+Fv b f).1,(HD b n<|f+7+Fv b f).2) else ([],f,X)) else ([],f,U)
theorem X3 {pre l:List Int}{k:Nat}:gi (pre++l) ((M pre+k:Nat):Int)=l.getD k 0:=by
 unfold gi
 grind
def pV {pre l:List Int}{k:Nat}:(pre++l).drop (M pre+k)=l.drop k:=by
 simp_all
def MM (d:List Int):M (Br d)=7+M d:=by simp [Br,Jv,Cp];omega
theorem apN {pre rest d:List Int}(hd:M d<=65535):let b:=pre++(Br d++rest);gi b (M pre:Int)=80/\M pre<M b/\Fv b (M pre)=M d/\H9 b (M pre)=d/\rcG b (M pre)=true:=by
 intro b
 have hl:M b=M pre+(7+M d+M rest):=by simp [b,MM]
 have g0:gi b (M pre:Int)=80:=X3 (k:=0)
 have hn:Fv b (M pre)=M d:=by
  have e1:gi b ((M pre:Int)+1)=IntKind.u8.wrap ((M d:Int).fdiv<|2^8):=X3 (k:=1)
  have e2:gi b ((M pre:Int)+2)=IntKind.u8.wrap (M d:Int):=X3 (k:=2)
  unfold Fv;rw [e1,e2,GZ,GZ,Pk _ Aa];omega
 have d7:b.drop (M pre+7)=d++rest:=by
  rw [pV]
  simp [Br,Jv,Cp]
 have hD:H9 b (M pre)=d:=by
  unfold H9
  grind
 have d1:(b.drop<|M pre+1).take 2=Jv d:=by
  rw [pV]
  simp [Br,Jv]
 have d3:(b.drop<|M pre+3).take 4=Cp (PC [Jv d,d]):=by
  rw [pV]
  simp [Br,Jv,Cp]
 refine ⟨g0,A0,hn,hD,?_⟩;unfold rcG rcF;rw [hn,hD,d1,d3,aH7<|asI _]
 simp;omega
def BO (ds:List<|List Int):List Int:=ds.flatMap Br
theorem aER {rest:List Int}(hr:gi rest 0≠80):∀(ds:List<|List Int) (pre:List Int) (n:Nat),(∀d∈ds,M d<=65535)->M ds<n->
  HD (pre++(BO ds++rest)) n (M pre)=(ds,M pre+M (BO ds),U)
 | [],pre,n,_,hn=>by
  obtain ⟨n,rfl⟩:∃m,n=m+1:=⟨n-1,A0⟩;simp only [BO,List.flatMap_nil,EB,HD];rw [AE]
  ·simp
  ·rintro ⟨_,h⟩
   rw [show ((M pre:Nat):Int)=((M pre+0:Nat):Int) by simp,X3] at h
   exact hr h
 |d::ds,pre,n,hd,hn=>by
  obtain ⟨n,rfl⟩:∃m,n=m+1:=⟨n-1,A0⟩
  have e:pre++(BO (d::ds)++rest)=pre++(Br d++(BO ds++rest)):=by simp [BO]
  rw [e];obtain ⟨h1,h2,h3,h4,h5⟩:=apN (pre:=pre) (rest:=BO ds++rest)<|hd d AI;simp only [HD];rw [AD ⟨h2,h1⟩,AD h5,h3,h4]
  have e2:pre++(Br d++(BO ds++rest))=(pre++Br d)++(BO ds++rest):=AI
  have e3:M pre+7+M d=M (pre++Br d):=by simp [MM];omega
  rw [e2,e3,aER hr ds (pre++Br d) n (λx hx=>hd x A8) A8]
  simp [BO,MM];omega
abbrev Bj:Ty:=.pair A7<|.sl<|.int aw
abbrev Fl:=Int×List Int
def GB (l:List Fl) (n:Int):Fl:=l.getD n.toNat (0,[])
def HQ (se:Int) (l:List Int):Bool:=letI a:=(M l:Int);decide (se>=1)&&(an (se<=512)&&(an (a>=se)&&(an (a<=4096)&&(a.tmod se==0))))
def NS {se:Int}{l:List Int}:HQ se l=U↔1<=se/\se<=512/\se<=(M l:Int)/\M l<=4096/\(M l:Int).tmod se=0:=by
 simp [HQ];omega
def FR (se:Int) (l:List Int):Bool:=HQ se l&&(((M l:Int).tdiv se).tmod 2==0&&an ((M l:Int)>=32))
def MQ {se:Int}{l:List Int}:FR se l=U↔HQ se l=U/\((M l:Int).tdiv se).tmod 2=0/\32<=M l/\M l<=4096/\1<=se:=by
 unfold FR;simp only [AY,Cz,Ac];refine ⟨λ⟨h1,h2,h3⟩=>⟨h1,h2,A0,(NS.1 h1).2.2.2.1,(NS.1 h1).1⟩,λ⟨h1,h2,h3,_,_⟩=>⟨h1,h2,A0⟩⟩
def Bl (l:List Int) (w:Int):List Int:=if w=0 then l.take (M l / 2) else (l.drop<|M l / 2).take (M l / 2)
theorem cD (l:List Int) (w:Int):M (Bl l w)=M l / 2:=by
 unfold Bl
 grind
def J6 (l:List Int) (w:Int):Int:=Gq<|((Bl l w).drop 1).take 4
def As (l:List Int):Int:=if gi (Bl l 0) 0=80 then (if gi (Bl l 1) 0=80 then (if J6 l 1>J6 l 0 then 1 else 0) else 0) else if gi (Bl l 1) 0=80 then 1 else 0
def Ht (l:List Int):Int:=if gi (Bl l 0) 0=80\/gi (Bl l 1) 0=80 then 0 else 4
def DZ (fl:List Int) (a:Int) (d:List Int):Nat->List Int
 |0=>fl
 |k+1=>(DZ fl a d k).set (a+k).toNat<|Bq aw (gi (DZ fl a d k)<|a+k)<|gi d k
def Dj (se:Int) (fl:List Int) (a:Int) (d:List Int):List Fl:=(au<|M d+1).map λk=>(se,DZ fl a d k)
def Eu (se:Int) (fl:List Int) (a:Int) (d:List Int):Int:=if (!HQ se fl ||an (a<0))=U then 1 else if a>(M fl:Int)-M d then 3 else 0
def Eg (fl:List Int) (a:Int):Nat->List Int
 |0=>fl
 |k+1=>(Eg fl a k).set (a+k).toNat 255
def Kx (se:Int) (fl:List Int) (s:Int):List Fl:=(au<|se.toNat+1).map λk=>(se,Eg fl (s*se) k)
def I3 (se:Int) (fl:List Int) (s:Int):Int:=if (!HQ se fl ||(an (s<0) ||an (s>=(M fl:Int).tdiv se)))=U then 1 else 0
def Sz (fl:List Int) (a:Int) (d:List Int) (k:Nat):M (DZ fl a d k)=M fl:=by
 induction k with
 |zero=>rfl
 |succ k ih=>simp [DZ,ih]
def cG (fl:List Int) (a:Int) (k:Nat):M (Eg fl a k)=M fl:=by
 induction k with
 |zero=>rfl
 |succ k ih=>simp [Eg,ih]
theorem KF {a b:List Int}:BI (a++b)↔BI a/\BI b:=by
 unfold BI
 grind
def QI {x:Int}{l:List Int}:BI (x::l)↔(0<=x/\x<=255)/\BI l:=by
 unfold BI
 simp
def cz (k:Nat):BI (aq k 255):=by
 intro x hx;rw [SV] at hx;omega
theorem aHS {l:List Int}(h:BI l) (i:Nat) {x:Int}(hx:0<=x/\x<=255):BI (l.set i x):=by
 intro y hy;rcases OQ hy with h1|h1
 ·exact h y h1
 ·grind
def au1 (x y:Int):0<=Bq aw x y/\Bq aw x y<=255:=by
 unfold Bq;rw [GZ];omega
def sC {fl:List Int}(h:BI fl) (a:Int) (d:List Int) (k:Nat):BI (DZ fl a d k):=by
 induction k with
 |zero=>exact h
 |succ k ih=>exact aHS ih _<|au1 _ _
def aR4 {fl:List Int}(h:BI fl) (a:Int) (k:Nat):BI (Eg fl a k):=by
 induction k with
 |zero=>exact h
 |succ k ih=>exact aHS ih _ Aa
def anv {x:Int}(h:0<=x/\x<=255):Bq aw 255 x=x:=by
 unfold Bq;rw [GZ];obtain ⟨n,rfl⟩:=Pr h.1
 have e:(BitVec.ofInt (IntKind.bits aw) 255&&&BitVec.ofInt (IntKind.bits aw) (n:Int)).toNat=n:=by
  show (BitVec.ofInt 8 255&&&BitVec.ofInt 8 (n:Int)).toNat=n
  rw [show BitVec.ofInt 8 255=BitVec.allOnes 8 from rfl,BitVec.allOnes_and,BitVec.toNat_ofInt];omega
 omega
theorem aO8 {pre post d:List Int}(hd:BI d):∀k,k<=M d->DZ (pre++(aq (M d) 255++post)) (M pre:Int) d k=pre++(d.take k++(aq (M d-k) 255++post))
 |0,_=>by simp [DZ]
 | k+1,hk=>by
  simp only [DZ];rw [aO8 hd k A0];obtain ⟨j,hj⟩:∃j,M d-k=j+1:=⟨M d-k-1,A0⟩
  have e1:(M pre:Int)+(k:Int)=((M pre+k:Nat):Int):=A0
  have ht:M (d.take k)=k:=D2
  have e2:gi (pre++(d.take k++(aq (M d-k) 255++post))) ((M pre:Int)+k)=255:=by
   rw [e1,X3,Dd,GL A0,ht,kV,hj,ZC];rfl
  have e3:gi d (k:Int)=d[k]:=IF A0
  rw [e2,e3,anv<|hd _<|H0 _,e1,By,kD _ _ A0,xO,kD _ _ A0,ht,kV,hj,ZC];rw [show M d-(k+1)=j by omega,ZM<|Nat.lt_of_succ_le hk]
  grind
def dH {pre post d:List Int}(hd:BI d):DZ (pre++(aq (M d) 255++post)) (M pre:Int) d (M d)=pre++(d++post):=by
 rw [aO8 hd _<|Ar _];simp
def DO (g:Int) (ds:List<|List Int) (k:Nat):List Int:=(80::Cp g)++(BO ds++aq k 255)
def J3 (w:Int) (A O:List Int):List Int:=if w=0 then A++O else O++A
def aEK (a b:List<|List Int):BO (a++b)=BO a++BO b:=by simp [BO]
def pF (ds:List<|List Int):M (BO ds)=(ds.map λd=>7+M d).sum:=by
 induction ds with
 |nil=>rfl
 |cons d ds ih=>simp only [BO,k9,BF,E9,List.sum_cons,MM] at*;rw [ih]
def apZ (ds:List<|List Int):7*M ds<=M (BO ds):=by
 induction ds with
 |nil=>simp [BO]
 |cons d ds ih=>simp only [BO,k9,BF,Bk,MM] at*;omega
def auV (d:List Int):BI (Jv d):=by
 intro x hx;simp only [Jv,B7,Bt,Bu] at hx;rcases hx with rfl|rfl<;>rw [GZ]<;>omega
def aH1 {d:List Int}(h:BI d):BI (Br d):=by
 unfold Br;rw [QI,KF,KF];exact ⟨Aa,auV d,WA _,h⟩
theorem qK {ds:List<|List Int}(h:∀d∈ds,BI d):BI (BO ds):=by
 induction ds with
 |nil=>intro x hx;simp [BO] at hx
 |cons d ds ih=>
  have e:BO (d::ds)=Br d++BO ds:=rfl
  rw [e,KF];exact ⟨aH1<|h d AI,ih λx hx=>h x A8⟩
def azG (k:Nat) (rest:List Int) (h:gi rest 0≠80):gi (aq k 255++rest) 0≠80:=by
 cases k with
 |zero=>simpa using h
 |succ k=>simp [gi,ZC]
structure JI (fl:List Int) (w g:Int) (ds:List (List Int)) (k:Nat) (O:List Int):Prop where
 eq:fl=J3 w (DO g ds k) O
 la:M (DO g ds k)=1024
 lo:M O=1024
 bo:BI O
 hw:w=0\/w=1
 hg:0<=g/\g<4294967296
 old:gi O 0=80->Gq ((O.drop 1).take 4)<g
 bd:∀d∈ds,BI d/\M d<=65535
def Ov (g:Int) (ds:List<|List Int) (k:Nat):M (DO g ds k)=5+M (BO ds)+k:=by
 simp [DO,Cp];omega
def aGl {g:Int}(hg:0<=g/\g<4294967296) (ds:List<|List Int) (k:Nat):Gq (((DO g ds k).drop 1).take 4)=g:=by
 have:((DO g ds k).drop 1).take 4=Cp g:=by simp [DO,Cp]
 rw [this,aH7 hg]
theorem aDr {w:Int}{A O:List Int}(hA:M A=1024) (hO:M O=1024) (hw:w=0\/w=1):Bl (J3 w A O) w=A/\Bl (J3 w A O) (1-w)=O:=by
 have hl:∀a b:List Int,M a=1024->M b=1024->Bl (a++b) 0=a/\Bl (a++b) 1=b:=by
  intro a b ha hb
  have e:M (a++b) / 2=1024:=A8
  unfold Bl
  grind
 rcases hw with rfl|rfl
 ·exact hl A O hA hO
 ·have:=hl O A hO hA
  exact ⟨this.2,this.1⟩
namespace JI
variable {fl : List Int} {w g : Int} {ds : List (List Int)} {k : Nat} {O : List Int}
def len (h:JI fl w g ds k O):M fl=2048:=by
 rw [h.eq];unfold J3;split<;>simp [h.la,h.lo]
def bja (h:JI fl w g ds k O):BI (DO g ds k):=by
 unfold DO;rw [KF,KF,QI];exact ⟨⟨Aa,WA _⟩,qK λd hd=>(h.bd d hd).1,cz _⟩
def F4 (h:JI fl w g ds k O):BI fl:=by
 rw [h.eq];unfold J3;split
 ·rw [KF];exact ⟨h.bja,h.bo⟩
 ·rw [KF];exact ⟨h.bo,h.bja⟩
def jv (h:JI fl w g ds k O):FR 512 fl=true:=by
 rw [MQ,NS,h.len]
 decide
def ar (h:JI fl w g ds k O):Bl fl w=DO g ds k:=by rw [h.eq];exact (aDr h.la h.lo h.hw).1
def ao (h:JI fl w g ds k O):Bl fl (1-w)=O:=by rw [h.eq];exact (aDr h.la h.lo h.hw).2
def gen (h:JI fl w g ds k O):J6 fl w=g:=by unfold J6;rw [h.ar,aGl h.hg]
theorem cur (h:JI fl w g ds k O):As fl=w/\Ht fl=0:=by
 have ha:=h.ar;have ho:=h.ao;have hgn:=h.gen
 have g80:gi (DO g ds k) 0=80:=rfl
 have hold:gi (Bl fl<|1-w) 0=80->J6 fl (1-w)<g:=by rw [ho];unfold J6;rw [ho];exact h.old
 unfold As Ht;rcases h.hw with rfl|rfl
 ·have e:(1:Int)-0=1:=rfl
  rw [e] at hold;rw [ha,hgn];refine ⟨?_,A8⟩;rw [AD g80];split
  ·omega
  ·rfl
 ·have e:(1:Int)-1=0:=rfl
  rw [e] at hold;rw [ha,hgn];refine ⟨?_,A8⟩;split
  ·omega
  ·rfl
end JI
def Eh (fl:List Int):List (List Int)×Nat×Bool:=HD (Bl fl<|As fl) (M<|Bl fl<|As fl) 5
def Bo (se:Int) (fl:List Int):Int:=if FR se fl=X then 1 else if Ht fl≠0 then Ht fl else if (Eh fl).2.2=U then 0 else 11
def M8 (fl:List Int):Bool:=((Bl fl<|As fl).drop (Eh fl).2.1).all λb=>b==255
def M5 (se:Int) (fl d:List Int):Bool:=an (M d>65535) ||an (7+M d+(Eh fl).2.1>M fl / 2)
def GI (fl:List Int):Int:=As fl*((M fl / 2:Nat):Int)+(Eh fl).2.1
def apB (fl d:List Int):List Int:=DZ fl (GI fl+1) ((Br d).drop 1)<|M<|(Br d).drop 1
def HS (se:Int) (fl d:List Int):List Fl:=Dj se fl (GI fl+1) ((Br d).drop 1)++(Dj se (apB fl d) (GI fl) [80]).drop 1
def Az (x:Le):List Int:=Cp x.1++(IntKind.u8.wrap x.2.1::IntKind.u8.wrap x.2.2.1::(Cp x.2.2.2.1++[IntKind.u8.wrap<|x.2.2.2.2.fdiv<|2^8,IntKind.u8.wrap x.2.2.2.2]))
def b4 (d:List Int) (i:Int):Int:=gi d i*16777216+gi d (i+1)*65536+gi d (i+2)*256+gi d (i+3)
def G9 (d:List Int):Le:=(b4 d 0,gi d 4,gi d 5,b4 d 6,gi d 10*256+gi d 11)
def KB (x:Le):M (Az x)=12:=rfl
def fp (n:Int):0<=IntKind.u8.wrap n/\IntKind.u8.wrap n<=255:=aD
def sF (x:Le):BI (Az x):=by
 unfold Az;rw [KF,QI,QI,KF,QI,QI];exact ⟨WA _,fp _,fp _,WA _,fp _,fp _,λx hx=>Q2⟩
def aHu {n:Int}(h:0<=n/\n<4294967296):IntKind.u8.wrap (n.fdiv<|2^24)*16777216+IntKind.u8.wrap (n.fdiv<|2^16)*65536+IntKind.u8.wrap (n.fdiv<|2^8)*256+IntKind.u8.wrap n=n:=by
 rw [GZ,GZ,GZ,GZ,Pk _ Aa,Pk _ Aa,Pk _ Aa];omega
theorem ap9 {x:Le}(h:D5 x=U):G9 (Az x)=x:=by
 obtain ⟨nu,co,am,fr,tk⟩:=x;obtain ⟨h1,h2,h3,h4,h5⟩:=LD.1 h;simp only at h1 h2 h3 h4 h5
 have e1:b4 (Az (nu,co,am,fr,tk)) 0=nu:=aHu (n:=nu) A0
 have e2:b4 (Az (nu,co,am,fr,tk)) 6=fr:=aHu (n:=fr) A0
 have e3:gi (Az (nu,co,am,fr,tk)) 4=co:=by show IntKind.u8.wrap co=co;rw [GZ];omega
 have e4:gi (Az (nu,co,am,fr,tk)) 5=am:=by show IntKind.u8.wrap am=am;rw [GZ];omega
 have e5:gi (Az (nu,co,am,fr,tk)) 10*256+gi (Az (nu,co,am,fr,tk)) 11=tk:=by
  show IntKind.u8.wrap (tk.fdiv<|2^8)*256+IntKind.u8.wrap tk=tk
  rw [GZ,GZ,Pk _ Aa];omega
 unfold G9
 grind
def ldB (rs:List<|List Int):Bool:=rs.all λd=>M d==12
def CL (se:Int) (fl:List Int):Int:=if (!(se==512) || !((M fl:Int)==2048))=U then 1 else if Bo se fl≠0 then Bo se fl else if ldB (Eh fl).1=U then (if BC ((Eh fl).1.map G9)=U then 0 else 9) else 9
def Af (se:Int) (fl:List Int):List Le:=if CL se fl=0 then (Eh fl).1.map G9 else []
namespace JI
variable {fl : List Int} {w g : Int} {ds : List (List Int)} {k : Nat} {O : List Int}
def lk (h:JI fl w g ds k O):Eh fl=(ds,5+M (BO ds),U):=by
 unfold Eh;rw [h.cur.1,h.ar,h.la]
 have hp:=apZ ds
 have hl:=h.la
 rw [Ov] at hl
 have:=aER (rest:=aq k 255) (by have:=azG k [] Aa;simpa using this) ds (80::Cp g) 1024 (λd hd=>(h.bd d hd).2) A0
 exact this
def Ui (h:JI fl w g ds k O):Bo 512 fl=0:=by
 unfold Bo;rw [h.jv,h.cur.2,h.lk];rfl
def cl (h:JI fl w g ds k O):M8 fl=true:=by
 unfold M8;rw [h.lk,h.cur.1,h.ar,BP];intro x hx
 have e:(DO g ds k).drop (5+M (BO ds))=aq k 255:=by
  unfold DO;rw [<-Cl];exact List.drop_left' (by simp [Cp];omega)
 simp only [e,SV] at hx
 simp [hx.2]
def half (h:JI fl w g ds k O):M fl / 2=1024:=by rw [h.len]
def full (h:JI fl w g ds k O) {d:List Int}(hd:M d<=65535) (hk:7+M d<=k):M5 512 fl d=false:=by
 unfold M5;rw [h.half,h.lk]
 have hl:=h.la
 rw [Ov] at hl
 simp;omega
def afn (g:Int) (ds:List<|List Int) {k:Nat}(n:Nat) (hk:n<=k):DO g ds k=((80::Cp g)++BO ds)++(aq n 255++aq (k-n) 255):=by
 unfold DO
 simp_all
def split (h:JI fl w g ds k O) (n:Nat) (hk:n<=k):∃pre post,fl=pre++(aq n 255++post)/\(M pre:Int)=GI fl/\
  ∀x:List Int,pre++(x++post)=J3 w (((80::Cp g)++BO ds)++(x++aq (k-n) 255)) O:=by
 have hP:GI fl=w*1024+((5+M (BO ds):Nat):Int):=by unfold GI;rw [h.half,h.cur.1,h.lk];rfl
 have h5:(M ((80::Cp g)++BO ds):Int)=((5+M (BO ds):Nat):Int):=by simp [Cp];omega
 have he:=h.eq
 rw [afn g ds n hk] at he;rcases h.hw with rfl|rfl
 ·refine ⟨(80::Cp g)++BO ds,aq (k-n) 255++O,?_,A0,λx=>?_⟩
  ·rw [he];unfold J3;rw [AD rfl];simp only [Cl]
  ·unfold J3;rw [AD rfl];simp only [Cl]
 ·refine ⟨O++((80::Cp g)++BO ds),aq (k-n) 255,?_,by rw [hP,BF];have:=h.lo;omega,λx=>?_⟩
  ·rw [he];unfold J3;rw [AE Aa];simp only [Cl]
  ·unfold J3;rw [AE Aa];simp only [Cl]
theorem app (h:JI fl w g ds k O) {d:List Int}(hb:BI d) (hd:M d<=65535) (hk:7+M d<=k):
  JI (DZ (apB fl d) (GI fl) [80] 1) w g (ds++[d]) (k-(7+M d)) O:=by
 obtain ⟨pre,post,e1,e2,e3⟩:=h.split (7+M d) hk
 have hp:Br d=80::(Br d).drop 1:=rfl
 have hl:=MM d
 have hby:BI ((Br d).drop 1):=by have:=aH1 hb;rw [hp,QI] at this;exact this.2
 have eA:apB fl d=pre++(aq 1 255++((Br d).drop 1++post)):=by
  unfold apB
  have:=dH (pre:=pre++[255]) (post:=post) (d:=(Br d).drop 1) hby
  rw [<-e2]
  have e9:(M ((pre++[255]:List Int)):Int)=(M pre:Int)+1:=AI
  rw [e9] at this
  have e0:fl=pre++[255]++(aq (M<|(Br d).drop 1) 255++post):=by
   grind
  rw [<-e0] at this;rw [this];simp
 have eB:DZ (apB fl d) (GI fl) [80] 1=pre++(Br d++post):=by
  rw [eA,<-e2]
  have:=dH (pre:=pre) (post:=(Br d).drop 1++post) (d:=[80]) aNo
  grind
 have eJ:DO g (ds++[d]) (k-(7+M d))=((80::Cp g)++BO ds)++(Br d++aq (k-(7+M d)) 255):=by
  unfold DO;rw [aEK,show BO [d]=Br d by simp [BO]]
  simp only [Cl]
 refine ⟨by rw [eB,e3,eJ],?_,h.lo,h.bo,h.hw,h.hg,h.old,?_⟩
 ·have:=h.la
  rw [Ov] at this;rw [Ov,aEK,BF,show BO [d]=Br d by simp [BO],hl];omega
 ·intro x hx
  rw [Be,HY] at hx;rcases hx with hx|rfl
  ·exact h.bd x hx
  ·exact ⟨hb,hd⟩
end JI
def aFL (se:Int) (fl d:List Int) (y:Fl):(HS se fl d).getLastD y=(se,DZ (apB fl d) (GI fl) [80] 1):=by
 unfold HS Dj;rw [show au (M ([80]:List Int)+1)=[0,1] from rfl]
 simp
def aaz {fl:List Int}{w g:Int}{ls:List Le}{k:Nat}{O:List Int}(h:JI fl w g (ls.map Az) k O) (hv:BC ls=U):CL 512 fl=0/\Af 512 fl=ls:=by
 have h1:(ls.map Az).map G9=ls:=by
  rw [Gy]
  have:=(GS hv).2
  calc ls.map (G9∘Az)=ls.map id:=JO (λx hx=>ap9<|this x hx)
   _=ls:=V8 _
 have h2:ldB (ls.map Az)=true:=by
  unfold ldB;rw [BP];intro d hd;obtain ⟨x,_,rfl⟩:=Ej.1 hd
  simp [KB]
 have h3:CL 512 fl=0:=by
  unfold CL;rw [h.Ui,h.lk,h.len];simp only [h2,h1,hv];rfl
 refine ⟨h3,?_⟩;unfold Af
 rwa [AD h3,h.lk]
section
variable {cs : List Cd} {os : List ByteArray} {ks : List Ko} {gs : List Ch} {bs : List Ba} {l : List Le} {rs : List Ra} {d : List Dm} {t n : Int}
structure NwL (gs:List Ch) (am:List Int) (t n:Int) (m:List Le):Prop where
 at_:∀k:Int,0<=k->k<(M m:Int)->An m k=(n+k,(An m k).2.1,gi am (An m k).2.1,t,12)/\(0<=(An m k).2.1/\(An m k).2.1<(M gs:Int))/\CO (AG gs (An m k).2.1)<gi am (An m k).2.1
 up:∀k:Int,1<=k->k<(M m:Int)->(An m (k-1)).2.1<(An m k).2.1
theorem WE {m:List Le}{x:Le}{k:Int}(h0:0<=k):An (m++[x]) k=if k<(M m:Int) then An m k else if k=(M m:Int) then x else (0,0,0,0,0):=by
 unfold An;rw [Dd,Dd];split
 ·grind
 ·rw [GL A0]
  split
  ·rw [show k.toNat-M m=0 by omega]
   rfl
  ·rw [ZK A8]
   rfl
theorem fY {am:List Int}:∀ {K:Nat},K<=M gs->NwL gs am t n (Gx gs l t n am K)/\∀x∈Gx gs l t n am K,x.2.1<(K:Int)
 |0,_=>⟨⟨λk h0 h1=>aO1,λk h0 h1=>aO1⟩,λx hx=>Q2⟩
 | K +1,h=>by
  obtain ⟨⟨h1,h2⟩,h3⟩:=fY (am:=am) (K:=K) A0;rw [Gx];split
  ·rename_i hn
   have hf:=axX hn
   refine ⟨⟨λk k0 k1=>?_,λk k0 k1=>?_⟩,λx hx=>?_⟩
   ·simp only [BF,Bk,Bp] at k1
    rw [WE k0];split
    ·grind
    ·rename_i hk
     have e:k=(M (Gx gs l t n am K):Int):=A0
     rw [AD e,e]
     grind
   ·simp only [BF,Bk,Bp] at k1
    rw [WE A0,WE A0,AD (show k-1<(M (Gx gs l t n am K):Int) by omega)]
    split
    ·grind
    ·rename_i hk
     rw [AD (show k=(M (Gx gs l t n am K):Int) by omega)]
     exact h3 _<|MR A0 A0
   ·rw [Be,HY] at hx
    rcases hx with hx|rfl
    ·have:=h3 x hx;omega
    ·simp only;omega
  ·rw [GK]
   exact ⟨⟨h1,h2⟩,λx hx=>by have:=h3 x hx;omega⟩
theorem aEE:BC l=U↔M l<=64/\∀k:Int,0<=k->k<(M l:Int)->D5 (An l k)=U/\(k=0\/Jh (An l<|k-1) (An l k)=U):=by
 unfold BC;rw [AY,Ac,Dy];refine and_congr_right λ_=>⟨λh k k0 k1=>?_,λh j hj=>?_⟩
 ·have:=h k.toNat A0
  rw [CM k0] at this;unfold Gn at this;rw [AY,Ck,Ac] at this;exact this
 ·obtain ⟨h1,h2⟩:=h j A0 hj
  unfold Gn
  grind
theorem aE2 {x:Le}(h:BC l=U) (hx:D5 x=U) (hl:M l<64) (hf:M l=0\/Jh (An l<|(M l:Int)-1) x=U):BC (l++[x])=true:=by
 rw [aEE] at h|-;refine ⟨A8,λk k0 k1=>?_⟩
 simp only [BF,Bk,Bp] at k1;rw [WE k0];split
 ·rename_i hk
  obtain ⟨h1,h2⟩:=h.2 k k0 hk;refine ⟨h1,?_⟩;rcases h2 with h2|h2
  ·grind
  ·by_cases e:k=0
   ·exact .inl e
   ·rw [WE A0,AD A0]
    grind
 ·rename_i hk
  have e:k=(M l:Int):=A0
  rw [AD e];refine ⟨hx,?_⟩;rcases hf with hf|hf
  ·omega
  ·by_cases e0:k=0
   ·grind
   ·rw [WE A0,AD A0,e]
    grind
structure Fit (l:List Le) (n t:Int):Prop where
 les:BC l=U
 last:M l=0\/((An l ((M l:Int)-1)).1<n/\(An l ((M l:Int)-1)).2.2.2.1<=t)
def Fit.mono {n' t':Int}(h:Fit l n t) (hn:n<=n') (ht:t<=t'):Fit l n' t':=⟨h.les,by
 rcases h.last with h1|h1
 ·exact .inl h1
 ·exact .inr A0⟩
theorem ab2 {j:Int}(hj:0<=j):∀(l:List Le) (o:List Int),(∀x∈l,0<=x.2.1/\x.2.1<(M o:Int))->gi o j<=gi (l.foldl Ku o) j/\∀x∈l,x.2.1=j->x.2.2.1<=gi (l.foldl Ku o) j
 | [],_,_=>⟨De _,λx hx=>Q2⟩
 | x::l,o,hc=>by
  rw [Jy]
  have hx0:=hc x AI
  obtain ⟨h1,h2⟩:=ab2 hj l (Ku o x) (λy hy=>by rw [aGk];exact hc y A8)
  have h3:gi o j<=gi (Ku o x) j/\(x.2.1=j->x.2.2.1<=gi (Ku o x) j):=by
   unfold Ku;rw [JW hx0.1 hx0.2 hj];split
   ·rename_i e
    rw [<-e];unfold mx;omega
   ·rename_i e
    omega
  refine ⟨A0,λy hy e=>?_⟩
  rcases B7.1 hy with rfl|hy
  ·have:=h3.2 e
   omega
  ·grind
def ahm (hv:BC l=U) (hb:below (M gs) l=U):∀x∈l.filter (Lx t),0<=x.2.1/\x.2.1<(M (aq (M gs) (0:Int)):Int):=λx hx=>by
 have hx:=(DE.1 hx).1
 have h1:=LD.1<|(GS hv).2 x hx
 have h2:=Cx<|BP.1 hb x hx
 rw [Ce];omega
def atT (hv:BC l=U) (hb:below (M gs) l=U) {x:Le}(hx:x∈l) (ha:Lx t x=U):x.2.2.1<=gi (J9 (M gs) l t) x.2.1:=by
 have h1:=LD.1<|(GS hv).2 x hx
 exact (ab2 h1.2.1.1 _ _<|ahm hv hb).2 x (DE.2 ⟨hx,ha⟩) rfl
end
abbrev alz (a b:Le):Prop:=a.1<b.1/\a.2.2.2.1<=b.2.2.2.1
def qG {l:List Le}:BC l=U↔M l<=64/\(∀x∈l,D5 x=U)/\l.Pairwise alz:=by
 refine ⟨λh=>⟨(GS h).1,(GS h).2,aE3 h⟩,λ⟨h1,h2,h3⟩=>aEE.2 ⟨h1,λk k0 k1=>⟨h2 _<|MR k0 k1,?_⟩⟩⟩
 by_cases e:k=0
 ·exact .inl e
 ·right
  have:=jw.1 h3 (k-1).toNat k.toNat A0 A0 A0
  rw [<-Nf,<-Nf] at this;unfold Jh;rw [Cm (p:=(An l k).1>_) this.1,Cm (p:=(An l k).2.2.2.1>=_) this.2];rfl
theorem oW {l m:List Le}(h:BC l=U) (hs:m.Sublist l):BC m=true:=by
 rw [qG] at h|-
 grind
def grS (o:List Le) (x:Le):List Le:=if FN o x=0 then Gk o x else o
theorem tq {o:List Le}{x:Le}(h:BC o=U):BC (grS o x)=U/\(grS o x=o\/grS o x=o++[x]):=by
 unfold grS;split
 ·rename_i e
  have e2:Gk o x=o++[x]:=by unfold Gk;rw [AD e]
  rw [e2];refine ⟨?_,.inr rfl⟩;unfold FN at e;split at e
  ·rename_i c
   rw [AY] at c;split at e
   ·omega
   ·rename_i c2
    split at e
    ·omega
    ·rename_i c3
     have:=(GS h).1
     refine aE2 h c.2 A0 ?_
     by_cases q:M o=0
     ·exact .inl q
     ·right
      grind
  ·omega
 ·grind
def ckO (m:Int) (e:Ld):Bool:=an (e.1<=m)&&(an (e.2.1<=m)&&an (e.2.2<=m))
def ckN (cs:List Cd) (L:List Ld) (k:Nat):Bool:=Dc k λo=>ckO (Dz<|Ag cs o)<|EH L o.toNat
def gLi (l:List Ld) (i:Int):Ld:=gx (e:=.pair A7 Am) l i
def M0 (m:Int) (e:Ld) (t:Int):Bool:=(an (t>0) ||an (e.1<=m))&&((an (t>1) ||an (e.2.1<=m))&&(an (t>2) ||an (e.2.2<=m)))
def alK {m:Int}{e:Ld}:M0 m e 0=ckO m e:=by simp [M0,ckO]
def HI (cs:List Cd) (gs:List Ch) (m:List Int):Bool:=ckN cs (ldS cs gs m<|M gs)<|M cs
section
variable {cs : List Cd} {os : List ByteArray} {ks : List Ko} {gs : List Ch} {bs : List Ba} {l : List Le} {rs : List Ra} {d : List Dm} {t n : Int}
def atS {j:Int}(j0:0<=j) (j1:j<(M gs:Int)):gi (Hp gs l t) j=mx (CO<|AG gs j) (gi (J9 (M gs) l t) j):=Sq j0 j1
theorem anw {l2:List Le}{t2:Int}(hs:BL cs os ks gs bs=U) (hv:BC l2=U) {j:Int}(j0:0<=j) (j1:j<(M gs:Int)):0<=gi (Hp gs l2 t2) j/\gi (Hp gs l2 t2) j<=80:=by
 have hch:chW (AG gs j)=true:=by
  have:=Oo hs j0 j1
  unfold GA at this
  grind
 have hc:=dh hch
 have h:=zo (a:=0) (b:=80) (j:=j) Aa<|aHt (t:=t2) (m:=M gs) hv
 rw [atS j0 j1];unfold mx;omega
end
def isW (se:Int) (fl:List Int) (s:Int):Bool:=!(((fl.drop (s*se).toNat).take se.toNat).all λb=>b==255)
def Fe (se:Int) (f0:List Int) (s:Int):Nat->List Fl×List Int->List Fl×List Int
 |0,a=>a
 |n+1,a=>Fe se f0 (s+1) n (if isW se f0 s=U then (a.1++(Kx se a.2 s).drop 1,Eg a.2 (s*se) se.toNat) else a)
def rwF (fl:List Int) (ds:List<|List Int):Bool:=an (5+(ds.map λd=>7+M d).sum<=M fl / 2)&&ds.all (λd=>an<|M d<=65535)
def Fu (se:Int) (fl:List Int) (ds:List<|List Int):Int:=if Bo se fl≠0 then Bo se fl else if (!rwF fl ds ||(J6 fl (As fl)==4294967295))=U then 10 else 0
def HP (se:Int) (fl:List Int):List Fl×List Int:=letI a:=((M fl / 2:Nat):Int);Fe se fl ((1-As fl)*a.tdiv se) (a.tdiv se).toNat ([(se,fl)],fl)
def Gu (fl:List Int):Int:=(1-As fl)*((M fl / 2:Nat):Int)
def Ee (fl:List Int) (ds:List<|List Int):List Int:=Cp (J6 fl (As fl)+1)++BO ds
def Ks (se:Int) (fl:List Int) (ds:List<|List Int):List Int:=DZ (HP se fl).2 (Gu fl+1) (Ee fl ds)<|M<|Ee fl ds
def Ft (se:Int) (fl:List Int) (ds:List<|List Int):List Fl:=if Fu se fl ds=0 then (HP se fl).1++((Dj se (HP se fl).2 (Gu fl+1)<|Ee fl ds).drop 1++(Dj se (Ks se fl ds) (Gu fl) [80]).drop 1) else []
def Es (se:Int) (fl d:List Int):Int:=if Bo se fl≠0 then Bo se fl else if M5 se fl d=U then 10 else if M8 fl=U then 0 else Fu se fl ((Eh fl).1++[d])
def HT (se:Int) (fl d:List Int):List Fl:=if Bo se fl≠0 then [] else if M5 se fl d=U then [] else if M8 fl=U then HS se fl d else Ft se fl ((Eh fl).1++[d])
def I1 (l:List Le) (x:Le) (t:Int):List (List Int):=letI a:=(An l<|(M l:Int)-1);((BW l t).map Az)++((if M l>0/\(M (BW l t)=0\/(An (BW l t)<|(M (BW l t):Int)-1).1≠a.1) then [Az a] else [])++[Az x])
def HB (l:List Le) (x:Le):Bool:=letI a:=(An l<|(M l:Int)-1);decide (M l>0)&&(an (x.1<=a.1) ||an (x.2.2.2.1<a.2.2.2.1))
def EI (se:Int) (fl:List Int) (x:Le) (t:Int):Int:=
 if CL se fl≠0 then CL se fl else if (!D5 x || !inB t 0 1100000)=U then 1 else if HB (Af se fl) x=U then 12 else
 if Es se fl (Az x)≠10 then Es se fl (Az x) else Fu se fl (I1 (Af se fl) x t)
def Cg (se:Int) (fl:List Int) (x:Le) (t:Int):List Fl:=
 if CL se fl≠0 then [] else if (!D5 x || !inB t 0 1100000)=U then [] else if HB (Af se fl) x=U then [] else
 if Es se fl (Az x)≠10 then HT se fl (Az x) else Ft se fl (I1 (Af se fl) x t)
def IT (se:Int) (fl:List Int):Int:=if CL se fl≠0 then CL se fl else if M (Af se fl)=0 then 0 else if (An (Af se fl)<|(M (Af se fl):Int)-1).1=1000000 then 10 else 0
def JM (se:Int) (fl:List Int):Int:=letI a:=(An (Af se fl)<|(M (Af se fl):Int)-1);if CL se fl≠0 then 0 else if M (Af se fl)=0 then 1 else if a.1=1000000 then 0 else a.1+1
structure SN where
 ls:List Le
 se:Int
 fl:List Int
 nx:Int
 lk:List Lk
def Ta (t:Int) (x:Le):Lk:=(t+(7*t+3*x.2.1).tmod 5,x)
def FK (t:Int) (s:SN) (x:Le):SN:=
 if FN s.ls x=0/\EI s.se s.fl x t=0 then
  ⟨Gk s.ls x,(GB (Cg s.se s.fl x t)<|(M (Cg s.se s.fl x t):Int)-1).1,(GB (Cg s.se s.fl x t)<|(M (Cg s.se s.fl x t):Int)-1).2,x.1+1,s.lk++[Ta t x]⟩
 else s
def FM (t:Int) (xs:List Le) (s:SN):Nat->SN
 |0=>s
 |k+1=>FK t (FM t xs s k)<|An xs k
def Dt (l:List Le) (t:Int):List Le:=if D9 l t=0 then BW l t else l
namespace PK
variable (p : PK)
def Fy:List Cd:=ET p.cs p.tg<|M p.tg
def dE:Int:=deE p.Fy p.os p.ks p.gs p.bs (Dt p.ls p.tk) p.ra p.dm p.tk p.nx
def dR:List Ra:=deR p.Fy p.os p.ks p.gs p.bs (Dt p.ls p.tk) p.ra p.dm p.tk p.nx
def dL:List Le:=deL p.Fy p.os p.ks p.gs p.bs (Dt p.ls p.tk) p.ra p.dm p.tk p.nx
def Gt:SN:=⟨Dt p.ls p.tk,p.se,p.fl,p.nx,p.lk⟩
def sn1:SN:=FM p.tk p.dL p.Gt<|M p.dL
def AM:PK:=if p.up=X then p else if p.dE≠0 then {p with ls:=Dt p.ls p.tk} else {p with ra:=p.dR,ls:=p.sn1.ls,se:=p.sn1.se,fl:=p.sn1.fl,nx:=p.sn1.nx,lk:=p.sn1.lk}
def J8:PK:={p with st:=Lw p.gs p.lk p.tk p.st<|M p.lk,lk:=p.lk.filter λl=>an<|l.1>p.tk}
def Um:PK:={p with st:=Lb p.gs p.dr p.tk p.st<|M p.dr}
def dw:DW:=Ez p.gs p.ca ⟨p.st,p.mi,p.me,aq (M p.gs) 0⟩<|M p.gs
def DY:PK:={p with st:=p.dw.st,mi:=p.dw.mi,me:=p.dw.me}
end PK
def EY (gs:List Ch) (tg:List Int) (am:List Int) (cs:List Cd):Nat->List Cd
 |0=>cs
 |k+1=>if gi tg k>=(Ag (EY gs tg am cs k) k).2.2.1 then EY gs tg am cs k else
  if (an (M am=M gs)&&HI ((EY gs tg am cs k).set k<|IS (Ag (EY gs tg am cs k) k)<|gi tg k) gs am)=U then (EY gs tg am cs k).set k (IS (Ag (EY gs tg am cs k) k)<|gi tg k) else EY gs tg am cs k
namespace PK
variable (p : PK)
def rsA:List Int:=if Hq p.ls (M p.gs) (p.tk+1)=0 then Hp p.gs p.ls (p.tk+1) else []
def Jj:PK:={p with cs:=if p.up=X then p.cs else EY p.gs p.tg p.rsA p.cs (M p.tg)}
def endP:PK:={p with tk:=p.tk+1}
def B8:PK:=p.AM.J8.Um
def CZ:PK:=p.B8.DY.Jj.endP
def Mj:List Int:=p.B8.dw.dw
def IH:Int:=if p.tk=1000000 then 15 else 0
end PK
namespace PK
variable (p : PK) (n m : Int) (c : Ca) (d : Dm)
def isC:Bool:=inB n 0<|(M p.gs:Int)-1
def G4:Int:=if p.isC n=X then 1 else if (!GH c || !HR d)=U then 1 else if ((Bc p.ca n).2.2.1 !=0 ||(BJ p.st n).1 !=0)=U then 6 else 0
def yx:List St:=CU p.gs (CU p.gs (CU p.gs (CU p.gs p.st n 1 0 0) n 3 0 0) n 4 1 0) n 5 0 0
def O1:PK:={p with ca:=p.ca.set n.toNat c,mi:=p.mi.set n.toNat ([],0,0),dm:=p.dm.set n.toNat d,st:=p.yx n}
def Ix:Int:=if p.isC n=X then 1 else if (Bc p.ca n).2.2.1=0 then 4 else 0
def Qd:PK:={p with ca:=p.ca.set n.toNat (0,0,0,0,0),mi:=p.mi.set n.toNat ([],0,0),dm:=p.dm.set n.toNat (X,0,0,9),st:=CU p.gs (CU p.gs p.st n 6 0 0) n 2 0 0}
def O2:Int:=if p.isC n=X then 1 else 0
def gR:PK:={p with lk:=p.lk.filter λl=>l.2.2.1 !=n}
def Mh:Int:=if p.up=X then 6 else 0
def PH:PK:={p with up:=X,ls:=[]}
def FY:Int:=if p.up=U then 6 else if CL p.se p.fl≠0 then CL p.se p.fl else if D9 (Af p.se p.fl) p.tk≠0 then D9 (Af p.se p.fl) p.tk else IT p.se p.fl
def Tm:PK:={p with up:=U,ls:=BW (Af p.se p.fl) p.tk,nx:=JM p.se p.fl,ra:=aq (M p.gs) (0,0)}
def O0:Int:=if p.isC n=X then 1 else sE (AG p.gs n) (BJ p.st n) 6 1 0
def aaJ:PK:={p with st:=CU p.gs p.st n 6 1 0}
def La:PK:={p with tg:=p.tg.set n.toNat m}
def Hs:Int:=if (!inB n 0 ((M p.cs:Int)-1) || !inB m 1 (Ag p.cs n).2.2.1)=U then 1 else if HI (p.La n m).Fy p.gs (Bv p.gs)=X then 13 else 0
end PK
def E6 (p:PK):Bool:=(BL p.cs p.os p.ks p.gs p.bs&&inB p.tk 0 1000000)&&((an (M p.st=M p.gs)&&(an (M p.ca=M p.gs)&&(an (M p.mi=M p.gs)&&(an (M p.me=M p.gs)&&(an (M p.dm=M p.gs)&&an (M p.dr=M p.gs))))))&&
 (an (M p.tg=M p.cs)&&(Dc (M p.tg) (λk=>inB (gi p.tg k) 1 (Ag p.cs k).2.2.1)&&(p.dr.all (λx=>inB x (-200) 200)&&p.lk.all (λl=>inB l.2.2.1 0<|(M p.gs:Int)-1)))))
structure EV where
 (ek en em:Int)
 c:Ca
 d:Dm
def PK0:PK:=⟨[],[],[],[],[],0,X,[],0,[],[],0,[],[],[],[],[],[],[],[]⟩
def BR (p:PK) (e:EV):Int:=if E6 p=X then 1 else if e.ek=1 then p.IH else if e.ek=2 then p.G4 e.en e.c e.d else if e.ek=3 then p.Ix e.en else if e.ek=4 then p.O2 e.en else if e.ek=5 then p.Mh else if e.ek=6 then p.FY else if e.ek=7 then p.O0 e.en else if e.ek=8 then p.Hs e.en e.em else 9
def BS (p:PK) (e:EV):PK:=if BR p e≠0 then PK0 else if e.ek=1 then p.CZ else if e.ek=2 then p.O1 e.en e.c e.d else if e.ek=3 then p.Qd e.en else if e.ek=4 then p.gR e.en else if e.ek=5 then p.PH else if e.ek=6 then p.Tm else if e.ek=7 then p.aaJ e.en else p.La e.en e.em
def D4 (p:PK) (e:EV):List Int:=if BR p e≠0 then [] else if e.ek=1 then p.Mj else []
def DA (cs:List Cd) (os:List ByteArray) (ks:List Ko) (gs:List Ch) (bs:List Ba) (dr:List Int):Int:=
 if BL cs os ks gs bs=X\/M dr≠M gs then 1 else if dr.all (λx=>inB x (-200) 200)=X then 1 else if HI cs gs (Bv gs)=X then 13 else 0
def Di:List Int:=DO 0 [] 1019++aq 1024 255
def newP (cs:List Cd) (os:List ByteArray) (ks:List Ko) (gs:List Ch) (bs:List Ba) (dr:List Int):PK:=if DA cs os ks gs bs dr≠0 then PK0 else
 ⟨cs,os,ks,gs,bs,0,U,[],512,Di,aq (M gs) (0,0),1,aq (M gs) (0,0,0,X),aq (M gs) (0,0,0,0,0),aq (M gs) ([],0,0),(Fj<|M gs).map λk=>(k+1,0,X),aq (M gs) (X,0,0,9),[],dr,cs.map λc=>c.2.2.1⟩
structure VP (p:PK):Prop where
 site:BL p.cs p.os p.ks p.gs p.bs=U
 tk:0<=p.tk/\p.tk<=1000000
 st:M p.st=M p.gs
 ca:M p.ca=M p.gs
 mi:M p.mi=M p.gs
 me:M p.me=M p.gs
 dm:M p.dm=M p.gs
 dr:M p.dr=M p.gs
 Gs:M p.tg=M p.cs
 tg:∀k:Nat,k<M p.tg->1<=gi p.tg k/\gi p.tg k<=(Ag p.cs k).2.2.1
 dr8:p.dr.all (λx=>inB x (-200) 200)=U
 lk:∀l∈p.lk,0<=l.2.2.1/\l.2.2.1<(M p.gs:Int)
def Vp {p:PK}:E6 p=U↔VP p:=by
 unfold E6;simp only [AY,Ac,BV,Dy]
 constructor
 ·rintro ⟨⟨h1,h2⟩,⟨h3,h4,h5,h6,h7,h8⟩,h9,h10,h11,h12⟩
  exact ⟨h1,h2,h3,h4,h5,h6,h7,h8,h9,λk hk=>h10 k A0,h11,λl hl=>by have:=BP.1 h12 l hl;rw [BV] at this;omega⟩
 ·intro h
  refine ⟨⟨h.site,h.tk⟩,⟨h.st,h.ca,h.mi,h.me,h.dm,h.dr⟩,h.Gs,λk hk=>h.tg k A0,h.dr8,BP.2 λl hl=>BV.2 ?_⟩
  have:=h.lk l hl
  omega
theorem Ir {gs:List Ch}{st:List St}{i k n m:Int}:M (CU gs st i k n m)=M st:=by
 unfold CU
 grind
def pP {gs:List Ch}{lk:List Lk}{t:Int}{st:List St}:∀k,M (Lw gs lk t st k)=M st
 |0=>rfl
 |k+1=>by
  unfold Lw;split
  ·exact pP k
  ·rw [Ir];exact pP k
def aEU {gs:List Ch}{st:List St}{i:Int}:∀k,M (Lj gs st i k)=M st
 |0=>rfl
 |k+1=>by unfold Lj;rw [Ir];exact aEU k
def pG {gs:List Ch}{dr:List Int}{t:Int}{st:List St}:∀k,M (Lb gs dr t st k)=M st
 |0=>rfl
 |k+1=>by
  unfold Lb;split
  ·rw [aEU];exact pG k
  ·exact pG k
theorem asO {gs:List Ch}{ca:List Ca}{s:DW}{i:Int}:letI a:=Gp gs ca s i;M a.st=M s.st/\M a.mi=M s.mi/\M a.me=M s.me/\M a.dw=M s.dw:=by
 unfold Gp;split
 ·grind
 ·split
  ·refine ⟨?_,AI,?_,AI⟩
   ·simp only;split
    ·exact Ir
    ·rfl
   ·grind
  ·grind
theorem aIL {gs:List Ch}{ca:List Ca}{s:DW}:∀k,M (Ez gs ca s k).st=M s.st/\M (Ez gs ca s k).mi=M s.mi/\M (Ez gs ca s k).me=M s.me/\M (Ez gs ca s k).dw=M s.dw
 |0=>⟨rfl,rfl,rfl,rfl⟩
 |k+1=>by
  obtain ⟨h1,h2,h3,h4⟩:=aIL (gs:=gs) (ca:=ca) (s:=s) k;obtain ⟨g1,g2,g3,g4⟩:=asO (gs:=gs) (ca:=ca) (s:=Ez gs ca s k) (i:=(k:Int));unfold Ez
  grind
theorem uh {cs:List Cd}{os:List ByteArray}{ks:List Ko}{gs:List Ch}{bs:List Ba}(h:BL cs os ks gs bs=U) {k:Nat}(hk:k<M cs):1<=(Ag cs k).2.2.1/\(Ag cs k).2.2.1<=1000:=by
 have:=oy h (c:=(k:Int)) A0 A0
 unfold Hu at this;simp only [AY,BV] at this
 grind
def T5 {gs:List Ch}{tg am:List Int}{cs:List Cd}:∀n,M (EY gs tg am cs n)=M cs
 |0=>rfl
 | n+1=>by
  unfold EY;split
  ·exact T5 n
  ·split
   ·rw [CH];exact T5 n
   ·exact T5 n
theorem pZ {gs:List Ch}{tg am:List Int}{cs:List Cd}:∀n,n<=M cs->∀j:Nat,(Ag (EY gs tg am cs n) j=Ag cs j\/(j<n/\gi tg j<(Ag cs j).2.2.1/\Ag (EY gs tg am cs n) j=IS (Ag cs j) (gi tg j)))/\(n<=j->Ag (EY gs tg am cs n) j=Ag cs j)
 |0,_,j=>⟨.inl rfl,λ_=>rfl⟩
 | n +1,hn,j=>by
  obtain ⟨h1,h2⟩:=pZ (gs:=gs) (tg:=tg) (am:=am) (cs:=cs) n A0 j
  have hl:n<M (EY gs tg am cs n):=by rw [T5];omega
  unfold EY;split
  ·grind
  ·rename_i hlt
   split
   ·rw [qW hl]
    by_cases e:j=n
    ·subst e
     grind
    ·rw [AE e]
     grind
   ·grind
def aDa {gs:List Ch}{tg am:List Int}{cs:List Cd}{os:List ByteArray}{ks:List Ko}{bs:List Ba}(h:BL cs os ks gs bs=U) (ht:∀k:Nat,k<M cs->1<=gi tg k/\gi tg k<=1000):∀n,n<=M cs->BL (EY gs tg am cs n) os ks gs bs=U
 |0,_=>h
 | n+1,hn=>by
  have h1:=aDa (am:=am) h ht n A0
  unfold EY;split
  ·exact h1
  ·split
   ·exact nZ h1 (by rw [T5];omega)<|ht n A0
   ·exact h1
def Oj {cs:List Cd}{tg:List Int}:∀n,M (ET cs tg n)=M cs
 |0=>rfl
 |n+1=>by unfold ET;rw [CH];exact Oj n
def aDp {tg:List Int}{cs:List Cd}{os:List ByteArray}{ks:List Ko}{gs:List Ch}{bs:List Ba}(h:BL cs os ks gs bs=U) (ht:∀k:Nat,k<M cs->1<=gi tg k/\gi tg k<=1000):∀n,n<=M cs->BL (ET cs tg n) os ks gs bs=U
 |0,_=>h
 |n+1,hn=>by
  exact nZ (aDp h ht n A0) (by rw [Oj];omega)<|ht n A0
theorem zz {p:PK}:∀x∈p.dL,0<=x.2.1/\x.2.1<(M p.gs:Int):=by
 intro x hx;unfold PK.dL deL at hx;split at hx
 ·obtain ⟨k,hk,rfl⟩:=I4.1 hx
  have:=(fY (gs:=p.gs) (l:=Dt p.ls p.tk) (t:=p.tk) (n:=p.nx) (am:=JE p.gs p.ra (M7 p.Fy p.os p.ks p.gs p.bs (Dt p.ls p.tk) p.dm p.tk)<|M p.gs)<|Ar _).1.at_ (k:Int) A0 A0
  rw [Nf A8] at this
  grind
 ·cases hx
theorem apk {t:Int}{s:SN}{x:Le}:(FK t s x).lk=s.lk\/(FK t s x).lk=s.lk++[Ta t x]:=by
 unfold FK;exact Zj
theorem pz {t:Int}{xs:List Le}{s:SN}:∀n,n<=M xs->(∀l∈(FM t xs s n).lk,l∈s.lk\/∃x∈xs,l=Ta t x)/\M (FM t xs s n).lk<=M s.lk+n
 |0,_=>⟨λl hl=> .inl hl,Ar _⟩
 | n+1,hn=>by
  obtain ⟨h1,h2⟩:=pz (t:=t) (xs:=xs) (s:=s) n A0;unfold FM;rcases apk (t:=t) (s:=FM t xs s n) (x:=An xs n) with e|e<;>rw [e]
  ·grind
  ·refine ⟨λl hl=>?_,A8⟩
   rw [Be,HY] at hl;rcases hl with hl|rfl
   ·grind
   ·exact .inr ⟨_,MR A0 A0,rfl⟩
def asa {p:PK}(h:∀l∈p.lk,0<=l.2.2.1/\l.2.2.1<(M p.gs:Int)):∀l∈p.AM.lk,0<=l.2.2.1/\l.2.2.1<(M p.gs:Int):=by
 unfold PK.AM;split
 ·exact h
 ·split
  ·exact h
  ·intro l hl
   rcases (pz (t:=p.tk) (xs:=p.dL) (s:=p.Gt) _<|Ar _).1 l hl with e|⟨x,hx,rfl⟩
   ·exact h l e
   ·exact zz x hx
theorem NL (p:PK):p.AM.cs=p.cs/\p.AM.os=p.os/\p.AM.ks=p.ks/\p.AM.gs=p.gs/\p.AM.bs=p.bs/\p.AM.tk=p.tk/\p.AM.up=p.up/\p.AM.st=p.st/\p.AM.ca=p.ca/\p.AM.mi=p.mi/\p.AM.me=p.me/\p.AM.dm=p.dm/\p.AM.dr=p.dr/\p.AM.tg=p.tg:=by
 unfold PK.AM;exact Zj
def VP.dec {p:PK}(h:VP p):VP p.AM:=by
 obtain ⟨e1,e2,e3,e4,e5,e6,e7,e8,e9,e10,e11,e12,e13,e14⟩:=NL p;refine ⟨?_,?_,?_,?_,?_,?_,?_,?_,?_,?_,?_,?_⟩
 ·rw [e1,e2,e3,e4,e5];exact h.site
 ·rw [e6];exact h.tk
 ·rw [e8,e4];exact h.st
 ·rw [e9,e4];exact h.ca
 ·rw [e10,e4];exact h.mi
 ·rw [e11,e4];exact h.me
 ·rw [e12,e4];exact h.dm
 ·rw [e13,e4];exact h.dr
 ·rw [e14,e1];exact h.Gs
 ·rw [e14,e1];exact h.tg
 ·rw [e13];exact h.dr8
 ·rw [e4];exact asa h.lk
def VP.arr {p:PK}(h:VP p):VP p.J8:={h with st:=(pP _).trans h.st,lk:=λl hl=>h.lk l<|(DE.1 hl).1}
def VP.cnt {p:PK}(h:VP p):VP p.Um:={h with st:=(pG _).trans h.st}
def VP.drw {p:PK}(h:VP p):VP p.DY:=
 have hl:=aIL (gs:=p.gs) (ca:=p.ca) (s:=⟨p.st,p.mi,p.me,aq (M p.gs) 0⟩)<|M p.gs
 {h with st:=hl.1.trans h.st,mi:=hl.2.1.trans h.mi,me:=hl.2.2.1.trans h.me}
def VP.tg1 {p:PK}(h:VP p):∀k:Nat,k<M p.cs->1<=gi p.tg k/\gi p.tg k<=1000:=λk hk=>by
 have:=h.tg k (by rw [h.Gs];omega)
 have:=uh h.site hk
 omega
def VP.rst {p:PK}(h:VP p):VP p.Jj:=by
 have hs:BL p.Jj.cs p.os p.ks p.gs p.bs=true:=by
  unfold PK.Jj;split
  ·exact h.site
  ·rw [h.Gs];exact aDa h.site h.tg1 _<|Ar _
 have hl:M p.Jj.cs=M p.cs:=by
  unfold PK.Jj;split
  ·rfl
  ·exact T5 _
 refine {h with site:=hs,Gs:=h.Gs.trans hl.symm,tg:=λk hk=>?_}
 have ht:=h.tg k hk
 refine ⟨ht.1,?_⟩;unfold PK.Jj;split
 ·exact ht.2
 ·rcases (pZ (gs:=p.gs) (tg:=p.tg) (am:=p.rsA) (cs:=p.cs) (M p.tg) (by rw [h.Gs];omega) k).1 with e|⟨_,_,e⟩<;>rw [e]
  ·exact ht.2
  ·exact De _
def VP.tick {p:PK}(h:VP p) (ht:p.tk≠1000000):VP p.CZ:=by
 have h5:=h.dec.arr.cnt.drw.rst
 have et:p.B8.DY.Jj.tk=p.tk:=(NL p).2.2.2.2.2.1
 have:=h.tk
 exact {h5 with tk:=by show 0<=p.B8.DY.Jj.tk+1/\p.B8.DY.Jj.tk+1<=1000000;omega}
def afc {p:PK}{n:Int}:M (p.yx n)=M p.st:=by
 unfold PK.yx;rw [Ir,Ir,Ir,Ir]
def VP.step {p:PK}(h:VP p) {e:EV}(he:BR p e=0):VP (BS p e):=by
 unfold BS;rw [AE A0];unfold BR at he;rw [AE (by rw [Vp.2 h];decide)] at he
 split
 ·rename_i h1
  rw [AD h1] at he;unfold PK.IH at he;exact h.tick λhh=>aNg
 rename_i h1;rw [AE h1] at he;split
 ·exact {h with ca:=by simp only [PK.O1,CH];exact h.ca,mi:=by simp only [PK.O1,CH];exact h.mi,dm:=by simp only [PK.O1,CH];exact h.dm,st:=afc.trans h.st}
 rename_i h2;rw [AE h2] at he;split
 ·exact {h with ca:=by simp only [PK.Qd,CH];exact h.ca,mi:=by simp only [PK.Qd,CH];exact h.mi,dm:=by simp only [PK.Qd,CH];exact h.dm,st:=by simp only [PK.Qd,Ir];exact h.st}
 rename_i h3;rw [AE h3] at he;split
 ·exact {h with lk:=λl hl=>h.lk l<|(DE.1 hl).1}
 rename_i h4;rw [AE h4] at he;split
 ·exact {h with}
 rename_i h5;rw [AE h5] at he;split
 ·exact {h with}
 rename_i h6;rw [AE h6] at he;split
 ·exact {h with st:=Ir.trans h.st}
 rename_i h7;rw [AE h7] at he;split at he
 ·unfold PK.Hs at he
  split at he
  ·cases he
  ·rename_i hb
   simp only [Ck,Cs,not_or,Pv,BV] at hb;obtain ⟨⟨n0,n1⟩,m0,m1⟩:=hb;refine {h with Gs:=by simp only [PK.La,CH];exact h.Gs,tg:=λk hk=>?_}
   have hk':k<M p.tg:=by simpa only [PK.La,CH] using hk
   have ht:=h.tg k hk'
   show 1<=gi (p.tg.set e.en.toNat e.em) k/\gi (p.tg.set e.en.toNat e.em) k<=(Ag p.cs k).2.2.1
   unfold gi at ht|-;rw [Dd,I7]
   by_cases ek:e.en.toNat=(k:Int).toNat
   ·rw [AD ek,AD (by rw [By] at ek;omega)]
    rw [By] at ek
    have:e.en=(k:Int):=A0
    rw [<-this];exact ⟨m0,m1⟩
   ·rw [AE ek,<-Dd]
    exact ht
 ·cases he
theorem aGb {α:Type}{l:List α}{d x:α}{i j:Nat}:(l.set i x).getD j d=if i=j/\i<M l then x else l.getD j d:=by
 by_cases e:i=j
 ·subst e
  by_cases h:i<M l
  ·grind
  ·grind
 ·grind
structure D1 where
 c:Ca
 m:Mi
 e:Me
 (ph al:Int)
namespace D1
variable (d : D1)
def ok:Bool:=!(d.c.2.2.1==0)&&(JD d.c d.m d.ph d.al==0)
def a:Int:=FQ d.c d.m d.ph d.al
def o:Int:=cnt<|Eb d.c d.m d.ph d.al
end D1
def d1 (gs:List Ch) (ca:List Ca) (s:DW) (j:Int):D1:=⟨Bc ca j,Cj s.mi j,gMe s.me j,(AG gs j).2.2.1,BX (AG gs j)<|BJ s.st j⟩
theorem agy {gs:List Ch}{ca:List Ca}{s:DW}{i:Int}(h:(d1 gs ca s i).ok=X):Gp gs ca s i=s:=by
 unfold D1.ok d1 at h;unfold Gp
 by_cases h1:(Bc ca i).2.2.1=0
 ·grind
 ·grind
def asN {gs:List Ch}{ca:List Ca}{s:DW}{i:Int}(h:(d1 gs ca s i).ok=U):Gp gs ca s i=
  ⟨if (d1 gs ca s i).a>(d1 gs ca s i).al then CU gs s.st i 6 2 0 else s.st,s.mi.set i.toNat<|Jp (d1 gs ca s i).c (d1 gs ca s i).m (d1 gs ca s i).ph (d1 gs ca s i).al,
   if GF (d1 gs ca s i).e (d1 gs ca s i).a (d1 gs ca s i).o=0 then s.me.set i.toNat (I0 (d1 gs ca s i).e (d1 gs ca s i).a (d1 gs ca s i).o) else s.me,s.dw.set i.toNat (d1 gs ca s i).a⟩:=by
 unfold D1.ok d1 at h;simp only [AY,Cs,CN,Cz] at h;unfold Gp;rw [AE h.1,AD h.2];rfl
def asF {k ph p:Int}(h1:1<=ph/\ph<=7) (h2:1<=p/\p<=7) (h:Kg k ph p≠0):1<=cnt (Kg k ph p):=by
 have:=aCE (k:=k) h1 h2
 unfold cnt;omega
theorem D1.bd {d:D1}(h:d.ok=U):0<=d.a/\d.a<=80/\0<=d.o/\d.o<=3/\(d.a≠0->1<=d.o)/\(Jp d.c d.m d.ph d.al).2.2=d.m.2.2+2300*d.a*d.o:=by
 unfold D1.ok at h;simp only [AY,Cs,CN,Cz] at h
 have hB:Ky d.c d.m d.ph d.al=true:=by
  exact aLb
 obtain ⟨hc,hm,h1,h2,h3,h4,_⟩:=cx.1 hB;obtain ⟨b1,b2,b3,b4⟩:=aDk hc hm ⟨h1,h2⟩ ⟨h3,h4⟩
 have hc':=WH.1 hc
 have hs:=afZ (n:=Eb d.c d.m d.ph d.al)
 have ea:d.a=Er d.c d.m d.ph d.al:=aNv
 have eo:d.o=cnt (HA d.c d.m d.ph d.al):=by unfold D1.o Eb;rw [AD hB]
 refine ⟨A0,A0,hs.1,hs.2,λhz=>?_,?_⟩
 ·rw [eo]
  rw [ea] at hz;unfold HA;rw [AE hz];refine asF ⟨A0,A0⟩ ⟨h1,h2⟩ λhq=>hz ?_
  unfold Er
  grind
 ·unfold Jp
  rw [AD hB,ea,eo];rfl
def aah {c:Ch}{s:St}{k n m:Int}(h:s.2.2.2=X) (hk:k≠6\/n≠1):(EL c s k n m).2.2.2=false:=by
 unfold EL;split
 ·rename_i he
  unfold sN;rw [AD he];simp only [sW,h,Ct,wu,CN];exact hk
 ·exact h
def ake {c:Ch}{s:St}{k n m:Int}(h:0<=s.2.2.1):(EL c s k n m).2.2.1<=s.2.2.1\/(k=7/\(EL c s k n m).2.2.1=m):=by
 unfold EL;split
 ·rename_i he
  unfold sN;rw [AD he];simp only [sL];split
  ·exact .inr ⟨by assumption,rfl⟩
  ·refine .inl ?_
   split
   ·unfold M3;split<;>omega
   ·split<;>omega
 ·exact .inl<|De _
def akd {c:Ch}{s:St}(h:sV c s=U):(EL c s 8 0 0).2.2.1=M3 s.2.2.1:=by
 have hv:=Nb.1 h
 have he:sE c s 8 0 0=0:=by
  unfold sE;rw [AD h,AD Aa,AD<|by simp [evV]]
  have:Hy s.1 s.2.2.2 8 0=s.1:=by simp [Hy]
  rw [this,AE A0]
 unfold EL sN;rw [AD he,AD he]
 simp [sL]
def uZ {gs:List Ch}{st:List St}{i k n m:Int}(h0:0<=i) (h1:i<(M st:Int)) {j:Int}(hj:0<=j):BJ (CU gs st i k n m) j=if j=i then EL (AG gs i) (BJ st i) k n m else BJ st j:=by
 unfold CU EL
 by_cases e:j=i
 ·subst e
  rw [AD rfl];split
  ·unfold BJ;rw [aGb,AD ⟨rfl,A0⟩]
  ·rfl
 ·rw [AE e]
  split
  ·unfold BJ;rw [aGb,AE A0]
  ·rfl
def CT (gs:List Ch) (Q:Int->St->Prop) (st:List St):Prop:=M st=M gs/\∀j:Int,0<=j->j<(M gs:Int)->Q j (BJ st j)
def CT.gv {gs:List Ch}{Q:Int->St->Prop}{st:List St}(h:CT gs Q st) {i k n m:Int}(h0:0<=i) (h1:i<(M gs:Int)) (hq:Q i (BJ st i)->Q i (EL (AG gs i) (BJ st i) k n m)):CT gs Q (CU gs st i k n m):=by
 refine ⟨Ir.trans h.1,λj j0 j1=>?_⟩
 rw [uZ h0 (by rw [h.1];exact h1) j0]
 split
 ·rename_i e;subst e;exact hq<|h.2 j j0 j1
 ·exact h.2 j j0 j1
def CT.arr {gs:List Ch}{Q:Int->St->Prop}{st:List St}{lk:List Lk}{t:Int}(h:CT gs Q st) (hl:∀l∈lk,(0<=l.2.2.1/\l.2.2.1<(M gs:Int))/\(l.1<=t->∀s,Q l.2.2.1 s->Q l.2.2.1 (EL (AG gs l.2.2.1) s 7 l.2.2.2.1 l.2.2.2.2.2))):∀n,n<=M lk->CT gs Q (Lw gs lk t st n)
 |0,_=>h
 | n+1,hn=>by
  have ih:=CT.arr h hl n A0
  have hm:Fb lk n∈lk:=by
   unfold Fb;rw [Mg (by rw [By];omega)]
   exact H0 _
  obtain ⟨⟨c0,c1⟩,hq⟩:=hl _ hm;unfold Lw;split
  ·exact ih
  ·exact ih.gv c0 c1<|hq A0 _
def CT.dw {gs:List Ch}{ca:List Ca}{Q:Int->St->Prop}{s:DW}(h:CT gs Q s.st) (hq:∀j st,Q j st->Q j (EL (AG gs j) st 6 2 0)):∀n,n<=M gs->CT gs Q (Ez gs ca s n).st
 |0,_=>h
 | n+1,hn=>by
  have ih:=CT.dw (ca:=ca) h hq n A0
  unfold Ez Gp;split
  ·exact ih
  ·split
   ·simp only
    split
    ·exact ih.gv A0 A0<|hq _ _
    ·exact ih
   ·exact ih
def Gr (gs:List Ch) (b:Int->Int) (j:Int) (s:St):Prop:=sV (AG gs j) s=U/\s.2.2.2=X/\s.2.2.1<=b j
def Gr.le {gs:List Ch}{b b':Int->Int}{j:Int}{s:St}(h:Gr gs b j s) (hb:b j<=b' j):Gr gs b' j s:=⟨h.1,h.2.1,OR h.2.2 hb⟩
def Gr.gv {gs:List Ch}{b:Int->Int}{j k n m:Int}{s:St}(h:Gr gs b j s) (hk:k≠6\/n≠1) (hm:k=7->m<=b j):Gr gs b j (EL (AG gs j) s k n m):=by
 have hv:=Nb.1 h.1
 refine ⟨uY h.1,aah h.2.1 hk,?_⟩;rcases ake (c:=AG gs j) (k:=k) (n:=n) (m:=m) hv.2.2.2.1 with e|⟨e1,e2⟩
 ·exact OR e h.2.2
 ·rw [e2];exact hm e1
def aa2 {gs:List Ch}{b:Int->Int}{st:List St}(h:CT gs (Gr gs b) st) (hb:∀j,0<=b j) {i:Int}(h0:0<=i) (h1:i<(M gs:Int)):∀k:Nat,CT gs (Gr gs (λj=>if j=i then (if b j-k<0 then 0 else b j-k) else b j)) (Lj gs st i k)
 |0=>⟨h.1,λj j0 j1=>(h.2 j j0 j1).le aMl⟩
 | k+1=>by
  have ih:=aa2 h hb h0 h1 k
  unfold Lj;refine ⟨Ir.trans ih.1,λj j0 j1=>?_⟩
  rw [uZ h0 (by rw [ih.1];exact h1) j0]
  have hj:=ih.2 j j0 j1
  split
  ·rename_i e
   subst e
   have hv:=Nb.1 hj.1
   have h3:=hj.2.2
   have hbj:=hb j
   simp only [Bm] at h3;refine ⟨uY hj.1,aah hj.2.1<|.inl Aa,?_⟩;rw [akd hj.1];simp only [Bm];unfold M3;split at h3<;>split<;>split<;>omega
  ·rename_i e
   refine hj.le ?_;rw [AE e,AE e];exact De _
def OK (dr:List Int) (t:Int) (j:Int):Int:=BA (t+1) (gi dr j)-BA t (gi dr j)
def aA0 {gs:List Ch}{b:Int->Int}{st:List St}{dr:List Int}{t:Int}(h:CT gs (Gr gs b) st) (hb:∀j,0<=b j) (hd:∀j:Int,0<=j->j<(M dr:Int)->-200<=gi dr j/\gi dr j<=200) (hl:M dr=M gs) (ht:0<=t/\t<1000000):
  ∀n:Nat,n<=M dr->CT gs (Gr gs (λj=>if j<n then (if b j-OK dr t j<0 then 0 else b j-OK dr t j) else b j)) (Lb gs dr t st n)
 | 0,_=>⟨h.1,λj j0 j1=>by
   have:=h.2 j j0 j1
   refine this.le ?_;rw [AE A0];exact De _⟩
 | n+1,hn=>by
  have ih:=aA0 h hb hd hl ht n A0
  have hdn:=hd (n:Int) A0 A0
  have hs:HC t (gi dr n)=0/\HC (t+1) (gi dr n)=0:=by
   exact aM5
  have ho:0<=OK dr t n:=by
   unfold OK BA;rw [AD VN,AD VN]
   have:t*(1000000+gi dr n)<=(t+1)*(1000000+gi dr n):=MD A0 A0
   have:=x7 (by decide:(0:Int)<1000000) this
   omega
  unfold Lb;rw [AD hs]
  have:=aa2 ih (λj=>aMl) (i:=(n:Int)) A0 A0 (BA (t+1) (gi dr n)-BA t (gi dr n)).toNat
  refine ⟨this.1,λj j0 j1=>(this.2 j j0 j1).le ?_⟩
  have e:(((BA (t+1) (gi dr n)-BA t (gi dr n)).toNat:Nat):Int)=OK dr t n:=by unfold OK at ho|-;omega
  simp only [e]
  have hbj:=hb j
  by_cases ej:j=n
  ·subst ej
   rw [AD rfl,AE (show ¬((n:Int)<(n:Int)) by omega),AD (show (n:Int)<((n+1:Nat):Int) by omega)]
   exact De _
  ·rw [AE ej]
   by_cases hj:j<(n:Int)
   ·rw [AD hj,AD (show j<((n+1:Nat):Int) by omega)];exact De _
   ·rw [AE hj,AE (show ¬j<((n+1:Nat):Int) by omega)];exact De _
structure FI (p:PK):Prop where
 st:CT p.gs (Gr p.gs (λ_=>12)) p.st
 lk:∀l∈p.lk,p.tk<=l.1/\l.1<=p.tk+3/\l.2.2.2.2.2=12
 ca:∀c∈p.ca,c.1≠4
def alv {p:PK}:∀x∈p.dL,x.2.2.2.2=12:=by
 intro x hx;unfold PK.dL deL at hx;split at hx
 ·obtain ⟨k,hk,rfl⟩:=I4.1 hx
  have:=(fY (gs:=p.gs) (l:=Dt p.ls p.tk) (t:=p.tk) (n:=p.nx) (am:=JE p.gs p.ra (M7 p.Fy p.os p.ks p.gs p.bs (Dt p.ls p.tk) p.dm p.tk)<|M p.gs)<|Ar _).1.at_ (k:Int) A0 A0
  have:=this.1
  rw [Nf yj] at this;simp only [By] at this;rw [this]
 ·cases hx
def agH {p:PK}(hv:VP p) (h:∀l∈p.lk,p.tk<=l.1/\l.1<=p.tk+3/\l.2.2.2.2.2=12):∀l∈p.AM.lk,p.tk<=l.1/\l.1<=p.tk+4/\l.2.2.2.2.2=12:=by
 unfold PK.AM;split
 ·exact λl hl=>by have:=h l hl;omega
 ·split
  ·exact λl hl=>by have:=h l hl;omega
  ·intro l hl
   rcases (pz (t:=p.tk) (xs:=p.dL) (s:=p.Gt) _<|Ar _).1 l hl with e|⟨x,hx,rfl⟩
   ·have:=h l e;omega
   ·have h1:=(zz x hx).1
    have h2:=hv.tk
    have h3:0<=(7*p.tk+3*x.2.1).tmod 5/\(7*p.tk+3*x.2.1).tmod 5<=4:=by
     rw [xL A0];omega
    exact ⟨aN3,aN3,alv x hx⟩
def R6 {p:PK}(hv:VP p):∀j:Int,0<=j->j<(M p.dr:Int)->-200<=gi p.dr j/\gi p.dr j<=200:=λj j0 j1=>by
 have:=BP.1 hv.dr8 (gi p.dr j)<|KG j0 j1
 rwa [BV] at this
def FI.tick {p:PK}(h:FI p) (hv:VP p) (ht:p.tk≠1000000):FI p.CZ:=by
 obtain ⟨e1,e2,e3,e4,e5,e6,e7,e8,e9,e10,e11,e12,e13,e14⟩:=NL p
 have htk:=hv.tk
 have hl:=agH hv h.lk
 have hvd:=hv.dec
 have s0:CT p.AM.gs (Gr p.AM.gs λ_=>12) p.AM.st:=by rw [e4,e8];exact h.st
 have s1:CT p.AM.gs (Gr p.AM.gs λ_=>12) p.AM.J8.st:=s0.arr (t:=p.AM.tk) (λl hl'=>⟨hvd.lk l hl',λ_ s hs=>hs.gv (.inl Aa) (λ_=>by have:=(hl l hl').2.2;(try simp only []);omega)⟩) _<|Ar _
 have s2:CT p.AM.gs (Gr p.AM.gs λ_=>12) p.B8.st:=by
  have:=aA0 (t:=p.AM.tk) (dr:=p.AM.dr) s1 (λ_=>Aa) (R6 hvd) hvd.dr (by rw [e6];omega) (M p.AM.dr)<|Ar _
  refine ⟨this.1,λj j0 j1=>(this.2 j j0 j1).le ?_⟩
  rw [AD (by rw [hvd.dr];exact j1)]
  have ho:0<=OK p.AM.dr p.AM.tk j:=by
   have hd:=R6 hvd j j0 (by rw [hvd.dr];exact j1)
   unfold OK BA;rw [AD aNh,AD aNh]
   have:p.AM.tk*(1000000+gi p.AM.dr j)<=(p.AM.tk+1)*(1000000+gi p.AM.dr j):=MD A0 A0
   have:=x7 (by decide:(0:Int)<1000000) this
   omega
  split<;>omega
 have s3:CT p.AM.gs (Gr p.AM.gs λ_=>12) p.B8.dw.st:=CT.dw s2 (λj s hs=>hs.gv (.inr Aa) λhk=>NF) _<|Ar _
 refine ⟨s3,λl hl'=>?_,?_⟩
 ·have hm:l∈p.AM.lk/\an (l.1>p.AM.tk)=true:=DE.1 hl'
  have:=hl l hm.1
  have h2:=Cx hm.2
  rw [e6] at h2
  have et:p.CZ.tk=p.tk+1:=by show p.AM.tk+1=_;rw [e6]
  rw [et];omega
 ·show ∀c∈p.AM.ca,_
  rw [e9];exact h.ca
def FI.step {p:PK}(h:FI p) (hv:VP p) {e:EV}(he:BR p e=0) (hw:e.ek≠7) (hc:e.c.1≠4):FI (BS p e):=by
 unfold BS;rw [AE A0];unfold BR at he;rw [AE yH] at he;split
 ·rename_i h1
  rw [AD h1] at he;unfold PK.IH at he;exact h.tick hv λhh=>aNg
 rename_i h1;rw [AE h1] at he
 have cr:∀ {i:Int},p.isC i≠X->0<=i/\i<(M p.gs:Int):=λ{i} hh=>by
  exact aMR
 split
 ·rename_i h2
  rw [AD h2] at he;unfold PK.G4 at he;split at he
  ·cases he
  rename_i hi;obtain ⟨i0,i1⟩:=cr hi;refine {h with st:=?_,ca:=λc hc'=>?_}
  ·exact (((h.st.gv i0 i1 λhs=>hs.gv (.inl Aa) λhk=>NF).gv i0 i1 λhs=>hs.gv (.inl Aa) λhk=>NF).gv i0 i1 λhs=>hs.gv (.inl Aa) λhk=>NF).gv i0 i1 λhs=>hs.gv (.inl Aa) λhk=>NF
  ·rcases OQ hc' with hx|rfl
   ·exact h.ca c hx
   ·exact hc
 rename_i h2;rw [AE h2] at he;split
 ·rename_i h3
  rw [AD h3] at he;unfold PK.Ix at he;split at he
  ·cases he
  rename_i hi;obtain ⟨i0,i1⟩:=cr hi;refine {h with st:=?_,ca:=λc hc'=>?_}
  ·exact (h.st.gv i0 i1 λhs=>hs.gv (.inr Aa) λhk=>NF).gv i0 i1 λhs=>hs.gv (.inl Aa) λhk=>NF
  ·rcases OQ hc' with hx|rfl
   ·exact h.ca c hx
   ·decide
 rename_i h3;rw [AE h3] at he;split
 ·exact {h with lk:=λl hl=>h.lk l (DE.1 hl).1}
 rename_i h4;rw [AE h4] at he;split
 ·exact {h with}
 rename_i h5;rw [AE h5] at he;split
 ·exact {h with}
 rename_i h6;rw [AE h6] at he;exact {h with}
structure FG (T:Int) (p:PK):Prop where
 up:p.up=X
 tk:0<=T/\T<=p.tk
 st:CT p.gs (Gr p.gs (λj=>if p.tk<T+4 then 12 else (if 12-(BA p.tk (gi p.dr j)-BA (T+4) (gi p.dr j))<0 then 0 else 12-(BA p.tk (gi p.dr j)-BA (T+4) (gi p.dr j))))) p.st
 lk:∀l∈p.lk,p.tk<=l.1/\l.1<=T+3/\l.2.2.2.2.2=12
 ca:∀c∈p.ca,c.1≠4
def nh {d t t':Int}(hd:-200<=d/\d<=200) (h0:0<=t) (h1:t<=t') (h2:t'<=1000000):BA t d<=BA t' d:=by
 unfold BA;rw [AD VN,AD VN];exact x7 (by decide:(0:Int)<1000000)<|MD h1 A0
def FG.bef {T:Int}{p:PK}(h:FG T p) (hv:VP p) (ht:p.tk<1000000) (hT:T+4<=1000000):CT p.gs (Gr p.gs (λj=>if p.tk+1<T+4 then 12 else (if 12-(BA (p.tk+1) (gi p.dr j)-BA (T+4) (gi p.dr j))<0 then 0 else 12-(BA (p.tk+1) (gi p.dr j)-BA (T+4) (gi p.dr j))))) p.B8.st:=by
 have hd:p.AM=p:=aNw
 have htk:=hv.tk
 have hT0:=h.tk
 unfold PK.B8;rw [hd]
 have s1:CT p.gs (Gr p.gs (λj=>if p.tk<T+4 then 12 else (if 12-(BA p.tk (gi p.dr j)-BA (T+4) (gi p.dr j))<0 then 0 else 12-(BA p.tk (gi p.dr j)-BA (T+4) (gi p.dr j))))) p.J8.st:=
  h.st.arr (t:=p.tk) (λl hl'=>⟨hv.lk l hl',λ_ s hs=>hs.gv (.inl Aa) (λ_=>by have:=h.lk l hl';(try simp only []);rw [AD A0];omega)⟩) _ (Ar _)
 have:=aA0 (t:=p.tk) (dr:=p.dr) s1 (λj=>by (try simp only []);split<;>(try split)<;>omega) (R6 hv) hv.dr A0 (M p.dr)<|Ar _
 refine ⟨this.1,λj j0 j1=>(this.2 j j0 j1).le ?_⟩
 have hj:j<(M p.dr:Int):=yI
 have hdj:=R6 hv j j0 hj
 (try simp only [])
 rw [AD hj];unfold OK
 have m1:=nh (t:=p.tk) (t':=p.tk+1) hdj htk.1 A0 A0
 by_cases c1:p.tk<T+4
 ·rw [AD c1]
  by_cases c2:p.tk+1<T+4
  ·rw [AD c2];split<;>omega
  ·have e4:p.tk+1=T+4:=A0
   have e5:BA (p.tk+1) (gi p.dr j)=BA (T+4) (gi p.dr j):=by rw [e4]
   rw [AE c2];exact aKw
 ·have m2:=nh (t:=T+4) (t':=p.tk) hdj A0 A0 A0
  have c2:¬p.tk+1<T+4:=A0
  rw [AE c1,AE c2];exact aKw
def au8 {c:Ca}{m:Mi}{al:Int}(hm:Hz m=U) (ha:0<=al) (h4:c.1≠4):Gj c m al<=al:=by
 have hm:=ck.1 hm
 unfold Gj
 repeat' split
 all_goals omega
def D1.le {d:D1}(h:d.ok=U) (h4:d.c.1≠4):d.a<=d.al:=by
 unfold D1.ok at h;simp only [AY,Cs,CN,Cz] at h
 have hB:Ky d.c d.m d.ph d.al=true:=by
  exact aLb
 obtain ⟨hc,hm,h1,h2,h3,h5,_⟩:=cx.1 hB
 have ea:d.a=Er d.c d.m d.ph d.al:=aNv
 have:=au8 (c:=d.c) hm h3 h4
 rw [ea];unfold Er;split<;>omega
def akS {ca:List Ca}(h:∀c∈ca,c.1≠4) (i:Int):(Bc ca i).1≠4:=by
 unfold Bc;rw [Dd];cases hx:ca[i.toNat]? with
 |none=>simp
 |some y=>exact h y<|OS hx
def aRt {gs:List Ch}{ca:List Ca}(h:∀c∈ca,c.1≠4) {s:DW}:∀n,(Ez gs ca s n).st=s.st
 |0=>rfl
 | n+1=>by
  have ih:=aRt (gs:=gs) h (s:=s) n
  show (Gp gs ca (Ez gs ca s n) n).st=s.st
  cases hk:(d1 gs ca (Ez gs ca s n) n).ok
  ·rw [agy hk];exact ih
  ·rw [asN hk]
   have:=D1.le hk<|akS h n
   (try simp only [])
   rw [AE A0];exact ih
def FG.tick {T:Int}{p:PK}(h:FG T p) (hv:VP p) (ht:p.tk<1000000) (hT:T+4<=1000000):FG T p.CZ:=by
 have hb:=h.bef hv ht hT
 have hd:p.AM=p:=aNw
 have hT0:=h.tk
 have e:p.B8=p.J8.Um:=by unfold PK.B8;rw [hd]
 have et:p.CZ.tk=p.tk+1:=by show p.B8.tk+1=_;rw [e];rfl
 have eg:p.CZ.gs=p.gs:=by show p.B8.gs=_;rw [e];rfl
 have ed:p.CZ.dr=p.dr:=by show p.B8.dr=_;rw [e];rfl
 refine ⟨by show p.B8.up=X;rw [e];exact h.up,by rw [et];omega,?_,?_,?_⟩
 ·have es:p.CZ.st=p.B8.st:=aRt (by show ∀c∈p.B8.ca,_;rw [e];exact h.ca) _
  rw [es,eg,et,ed];exact hb
 ·intro l hl
  have hm:l∈p.B8.lk:=hl
  rw [e] at hm
  have hm2:l∈p.lk/\an (l.1>p.tk)=true:=DE.1 hm
  have:=h.lk l hm2.1
  have h2:=Cx hm2.2
  rw [et];omega
 ·show ∀c∈p.B8.ca,_
  rw [e];exact h.ca
structure LmG (C cs:List Cd):Prop where
 len:M cs=M C
 up:∀o:Nat,(Ag cs o).2.1=(Ag C o).2.1
 lim:∀o:Nat,Dz (Ag C o)<=Dz (Ag cs o)
def LmG.on {C cs:List Cd}(h:LmG C cs) {o:Int}:∀(k:Nat) (c:Int),GG k cs o c=GG k C o c
 |0,_=>rfl
 | k+1,c=>by
  simp only [GG];split
  ·rename_i c0
   have e:=h.up c.toNat
   rw [CM c0] at e;rw [e,h.on k]
  ·rfl
section
variable {cs C : List Cd} {os : List ByteArray} {ks : List Ko} {gs : List Ch} {bs : List Ba} {l : List Le} {rs : List Ra} {d : List Dm} {t n : Int}
end
def aSE:List LV->T LV
 | [.v (Y J r),.v (Y J m)]=> .req ((0<=r/\r<=1000000)/\0<=m/\m<=3000000) (.ok<|.v<|Y J<|m*r / 1000000)
 |_=> .no
def acA:List Bd:=[]
def aiN:=vo (S:=aSE) func108 acA kN (λargs lv h=>by
 unfold aSE at h;split at h
 ·rename_i r m
  refine Aq (.req ((1000000:Int)≠0)<|.ok<|AA<|(AA<|m*r).tdiv 1000000) ?_;obtain ⟨⟨hr,hm⟩,rfl⟩:=h
  have h1:=amD (a:=m) (b:=r) hm.1 hm.2 hr.1 hr.2
  refine ⟨A0,B0 (λz=>LV.v<|Y J z) ?_⟩
  rw [AJ (x:=m*r),I9 h1.1,AJ]
 ·cases h)
def aJV:List LV->T LV
 | [.v (Y J n)]=> .ok (inB n 0 1000000)
 |_=> .no
def aJX:=vo (S:=aJV) func106 acA kN (λargs lv h=>by
 unfold aJV at h;split at h
 ·rename_i n
  refine Aq (.ok<|.v<|.bool<|(an<|n>=0)&&(an<|n<=1000000)) ?_;exact h
 ·cases h)
structure PV where
 (low high r n:Int)
def vM (s:PV):T (Rd PV):=letI a:=AA<|s.low+(AA<|(AA<|s.high-s.low).tdiv 2);.br (an<|s.low<s.high) (.req ((2:Int)≠0)<|.req ((0<=s.r/\s.r<=1000000)/\0<=a/\a<=3000000)<|.br (an<|(a*s.r / 1000000)>=s.n) (.nx {s with high:=a})<|.nx {s with low:=AA<|a+1})<|.so (.exit 0) s
def im (s:PV):Prop:=s.low=0/\s.high=2*s.n+2/\s.r=999800/\0<=s.n/\s.n<=1000000
def Xv (s:PV):Prop:=(0<=s.low/\s.low<=wt s.n)/\(wt s.n<=s.high/\s.high<=2*s.n+2)/\s.r=999800/\0<=s.n/\s.n<=1000000
def fJ (s:PV):Nat:=(s.high-s.low).toNat
def aAa (x:Ex) (s s':PV):Prop:=x=.exit 0/\s'.low=wt s'.n
def ajs:∀s,im s->Xv s:=by
 rintro s ⟨h0,h1,h2,h3,h4⟩
 have:=aaH h3
 exact xo
theorem ayO:Da Xv fJ aAa vM:=by
 intro s hI;obtain ⟨⟨h0,h1⟩,⟨h2,h3⟩,h4,h5,h6⟩:=hI;refine AH (λc1=>?_) λc1=>?_
 ·have c1:s.low<s.high:=AX
  have hd:(s.high-s.low).tdiv 2=(s.high-s.low) / 2:=I9 A0
  have hm:AA (s.low+AA ((AA<|s.high-s.low).tdiv 2))=s.low+(s.high-s.low) / 2:=by
   rw [AJ (x:=s.high-s.low),hd,AJ (x:=(s.high-s.low) / 2),AJ]
  rw [hm];refine AH (λc2=>?_) λc2=>?_
  ·rw [Ac,h4,aJc] at c2
   exact ⟨⟨⟨h0,h1⟩,⟨AZ,AZ⟩,h4,h5,h6⟩,by simp only [fJ];omega⟩
  ·rw [Cy,h4,aJc] at c2
   rw [AJ (x:=s.low+(s.high-s.low) / 2+1)];exact ⟨⟨⟨A8,AZ⟩,⟨h2,h3⟩,h4,h5,h6⟩,by simp only [fJ];omega⟩
 ·have c1:s.high<=s.low:=AX
  exact VE
def Yy:AT PV:=⟨3,24,[0,1,2],[],λs=>[s.low,s.high,.fn 138 [.own 1 0,.own 0 0,.own 2 0]],λs=>[⟨[s.r],216,.cl,X⟩,⟨[.fn 108 []],217,.cl,X⟩,⟨[s.n],3,.cl,X⟩],λv b=>⟨AK v 0,AK v 1,Ak b 0 0,Ak b 2 0⟩,vM,λs r=> {r with r:=s.r,n:=s.n},λs=>s,λ_ s=>s,[.exit 0],im,Xv,fJ⟩
abbrev aG6:=Yy.run
abbrev arD:=Yy.Av
def UB:List Bd:=[aJX,aiN]
def al2:Ay:=kI UB<|l0 UB
def awU:Rq Xv vM:=by
 intro s hI;refine ⟨λc1=>⟨?_,?_,λ_=>trivial,λ_=>trivial⟩,λ_=>trivial⟩
 all_goals ((obtain ⟨⟨h0,h1⟩,⟨h2,h3⟩,h4,h5,h6⟩:=hI;simp only [Ac] at c1;first|decide|(have hd:(s.high-s.low).tdiv 2=(s.high-s.low) / 2:=I9 A0;have hm:AA (s.low+AA ((AA<|s.high-s.low).tdiv 2))=s.low+(s.high-s.low) / 2:=(by rw [AJ (x:=s.high-s.low),hd,AJ (x:=(s.high-s.low) / 2),AJ]);rw [hm];omega)))
def aQK:Yy.Ok:={}
def aOm:Yy.Pf (aAa):=⟨ajs,λs h=>rfl,ayO,awU⟩
def aq5:=s2 (b:=bN f137 0) aQK aOm UB al2
def aru:Fi im Xv aAa arD aG6:=AT.fin aQK aOm
def aHA:List LV->T LV
 | [.v (Y J n)]=> .tu #[wtA n,wtE n]
 |_=> .no
def al1:Ay:=kI UB<|la 1 func137 aq5<|l0 UB
def auL:=vo (S:=aHA) func85 UB al1 (λargs lv h=>by
 unfold aHA at h;split at h
 ·rename_i n
  refine Aq (.br (!(inB n 0 1000000)) (.tu #[(0:Int),(1:Int)])<|.req (Yy.q (⟨0,(AA<|(AA<|2*n)+2),999800,n⟩:PV))<|.tu #[(aG6 (⟨0,(AA<|(AA<|2*n)+2),999800,n⟩:PV)).low,(0:Int)]) ?_;obtain rfl:=h;refine ⟨λc=>?_,λc=>?_⟩
  ·have c:=ntW c
   unfold wtA wtE;rw [c];rfl
  ·have c:=nfW c
   have hb:=BV.1 c
   have hE:im ⟨0,AA<|AA (2*n)+2,999800,n⟩:=⟨rfl,by
    rw [AJ (x:=2*n),AJ],rfl,hb.1,hb.2⟩
   obtain ⟨_,_,_,q⟩:=aru _ hE;refine ⟨⟨hE,rfl,rfl⟩,?_⟩;rw [q];unfold wtA wtE;rw [AD c,AD c];exact rfl
 ·cases h)
def aSm:List LV->T LV
 | [.v (Y J n),.v (Y J a),.v (Y J b)]=> .ok (inB n a b)
 |_=> .no
def ac9:List Bd:=[]
def v7:=vo (S:=aSm) func20 ac9 kN (λargs lv h=>by
 unfold aSm at h;split at h
 ·rename_i n a b
  refine Aq (.ok<|.v<|.bool<|(an<|n>=a)&&(an<|n<=b)) ?_;exact h
 ·cases h)
def aJQ:List LV->T LV
 | [.v (.agg ⟨[Y J nu,Y J co,Y J am,Y J fr,Y J tk]⟩)]=> .ok (D5 (nu,co,am,fr,tk))
 |_=> .no
def aks:List Bd:=[v7]
def aJi:=vo (S:=aJQ) func40 aks kN (λargs lv h=>by
 unfold aJQ at h;split at h
 ·rename_i nu co am fr tk
  refine Aq (.ok<|.v<|.bool<|(inB nu (1:Int) (1000000:Int))&&((inB co (0:Int) (15:Int))&&((inB am (0:Int) (80:Int))&&((inB fr (0:Int) (1000000:Int))&&(inB tk (1:Int) (1000:Int)))))) ?_;exact h
 ·cases h)
def aSn:List LV->T LV
 | [.v (.agg ⟨[Y J nu,Y J co,Y J am,Y J fr,Y J tk]⟩),.v (.agg ⟨[Y J nu2,Y J co2,Y J am2,Y J fr2,Y J tk2]⟩)]=> .ok (Jh (nu,co,am,fr,tk) (nu2,co2,am2,fr2,tk2))
 |_=> .no
def aaS:=vo (S:=aSn) func41 ac9 kN (λargs lv h=>by
 unfold aSn at h;split at h
 ·rename_i nu co am fr tk nu2 co2 am2 fr2 tk2
  refine Aq (.ok<|.v<|.bool<|(an<|nu2>nu)&&(an<|fr2>=fr)) ?_;exact h
 ·cases h)
def aJR:List LV->T LV
 | [.v (.agg ⟨[Y J nu,Y J co,Y J am,Y J fr,Y J tk]⟩)]=> .req ((0<=fr/\fr<=1000000)/\0<=tk/\tk<=1000000) (.ok<|DB (nu,co,am,fr,tk))
 |_=> .no
def akr:List Bd:=[auL]
def aJj:=vo (S:=aJR) func43 akr kN (λargs lv h=>by
 unfold aJR at h;split at h
 ·rename_i nu co am fr tk
  refine Aq (.br ((wtE tk) !=0) (.ok fr)<|.ok<|AA<|(AA<|fr+10)+(wtA tk)) ?_;obtain ⟨⟨hf,ht⟩,rfl⟩:=h
  have c:=BV.2 ht
  have hw:=aaH ht.1
  have ea:wtA tk=wt tk:=by unfold wtA;rw [AD c]
  have ee:wtE tk=0:=by unfold wtE;rw [AD c]
  rw [ea,ee,AJ (x:=fr+10),AJ];exact ⟨λh=>Ao,λ_=>rfl⟩
 ·cases h)
structure OC where
 l:List Le
 r:Bool
 m:List Le
 (n i:Int)
def aEm:=bN f19 0
def gA (s:OC):T (Rd OC):=
 .br (an<|s.i<s.n) (.ix s.i (M s.m)<|.br (!(D5<|An s.m s.i)) (.so (.ret) {s with r:=X})<|.br (an<|s.i>0) (.ix (AA<|s.i-1) (M s.l)<|.br (!(Jh (An s.l<|AA<|s.i-1)<|An s.m s.i)) (.so (.ret) {s with r:=X})<|.nx {s with i:=AA<|s.i+1})<|.nx {s with i:=AA<|s.i+1}) (.so (.exit 0) s)
def il (s:OC):Prop:=s.i=0/\s.n=(M s.l:Int)/\s.n<=1000/\s.m=s.l
def Xu (s:OC):Prop:=(0<=s.i/\s.i<=s.n)/\s.n=(M s.l:Int)/\s.n<=1000/\s.m=s.l/\∀j:Nat,(j:Int)<s.i->Gn s.l j=U
def fI (s:OC):Nat:=(s.n-s.i).toNat
def aAY (x:Ex) (s s':OC):Prop:=(x=.exit 0/\∀j:Nat,(j:Int)<s'.n->Gn s'.l j=U)\/(x=.ret/\s'.r=X/\∃j:Nat,(j:Int)<s'.n/\Gn s'.l j=X)
def ajr:∀s,il s->Xu s:=by
 rintro s ⟨h0,h2,h3,h4⟩
 exact ⟨A0,h2,h3,h4,λj hj=>A0⟩
def ayL:Da Xu fI aAY gA:=by
 intro s hI;unfold gA;obtain ⟨⟨h0,h1⟩,h2,h3,h4,hA⟩:=hI;refine AH (λc1=>?_) λc1=>?_
 ·refine AH (λc2=>?_) (λc2=>?_)
  ·have c1:s.i<s.n:=AX
   rw [h4] at c2;refine .inr ⟨rfl,rfl,s.i.toNat,AZ,?_⟩;rw [CM h0];unfold Gn;rw [ntW c2];rfl
  ·refine AH (λc3=>?_) (λc3=>?_)
   ·refine AH (λc4=>?_) (λc4=>?_)
    ·have c1:s.i<s.n:=AX
     rw [h4] at c2
     have c3:0<s.i:=ND
     rw [AJ (x:=s.i-1),h4] at c4;refine .inr ⟨rfl,rfl,s.i.toNat,AZ,?_⟩;rw [CM h0];unfold Gn;rw [nfW c2,I8 A0,ntW c4];rfl
    ·have c1:s.i<s.n:=AX
     rw [h4] at c2
     have c3:0<s.i:=ND
     rw [AJ (x:=s.i-1),h4] at c4
     have hg:Gn s.l s.i=true:=by unfold Gn;rw [nfW c2,I8 A0,nfW c4];rfl
     rw [AJ (x:=s.i+1)]
     exact ⟨⟨⟨AZ,AZ⟩,h2,h3,h4,λj hj=>by
      by_cases e:(j:Int)<s.i
      ·exact hA j e
      ·have e:(j:Int)=s.i:=lO
       show Gn s.l j=U
       rw [e];exact hg⟩,by simp only [fI];omega⟩
   ·have c1:s.i<s.n:=AX
    rw [h4] at c2
    have hg:Gn s.l s.i=true:=by unfold Gn;rw [nfW c2,Cm lK];rfl
    rw [AJ (x:=s.i+1)]
    exact ⟨⟨⟨AZ,AZ⟩,h2,h3,h4,λj hj=>by
     by_cases e:(j:Int)<s.i
     ·exact hA j e
     ·have e:(j:Int)=s.i:=lO
      rw [e];exact hg⟩,by simp only [fI];omega⟩
 ·have c1:s.n<=s.i:=AX
  exact .inl ⟨rfl,λj hj=>hA j A0⟩
def RM:AT OC:=⟨0,33,[0,2,8,9,10],[],λs=>[s.l,s.r,s.m,s.n,s.i],λ_=>[],λv b=>⟨B5 AQ v 0,Ec v 1,B5 AQ v 2,AK v 3,AK v 4⟩,gA,λs r=> {s with r:=r.r,i:=r.i},λs=>s,λ_ s=>s,[.ret,.exit 0],il,Xu,fI⟩
abbrev aG5:=RM.run
abbrev aI3:=RM.Av
def awT:Rq Xu gA:=by
 intro s hI;refine ⟨λc1=>⟨?_,λ_=>trivial,λc2=>⟨λc3=>⟨?_,λ_=>trivial,λ_=>trivial⟩,λ_=>trivial⟩⟩,λ_=>trivial⟩
 all_goals ((obtain ⟨⟨h0,h1⟩,h2,h3,h4,hA⟩:=hI;simp only [Ac] at c1;have hl:M s.m=M s.l:=B0 M h4;first|omega|(simp only [Ac,gt_iff_lt] at c3;rw [AJ (x:=s.i-1)];omega)))
def ac8:List Bd:=[aJi,aaS]
def aQJ:RM.Ok:={}
def aOl:RM.Pf (aAY):=⟨ajr,λs h=>rfl,ayL,awT⟩
def aq3:SA 0 aEm RM:=s1 aQJ aOl ac8 kN
def arq:Fi il Xu aAY aI3 aG5:=AT.fin aQJ aOl
def aJM:List LV->T LV
 | [.xl (.pair (.int J) (.pair (.int J) (.pair (.int J) (.pair (.int J) (.int J))))) l]=> .ok (BC l)
 |_=> .no
def WU:=vm (S:=aJM) func19 ac8 kN (L:=(λi=>if i=4 then RM.lp else Al i)) (λb hb=>by
 rw [show BD _=[aEm] by kernel_rfl] at hb
 simp only [B7,Bt,Bu] at hb;subst hb;exact aq3) (λargs lv h=>by
 unfold aJM at h;split at h
 ·rename_i l
  refine Aq (letI a:=(M l:Int);.br (an<|a>64) (.ok X)<|.req (RM.q (⟨l,X,l,a,0⟩:OC))<|.br (Bs (aI3 (⟨l,X,l,a,0⟩:OC))<|.ret) (.ok (aG5 (⟨l,X,l,a,0⟩:OC)).r)<|.ok U) ?_;obtain rfl:=h;refine ⟨λc=>B0 (λz=>LV.v<|.bool z) ?_,λc=>?_⟩
  ·have c:64<(M l:Int):=Ig
   unfold BC;rw [I8 A0];rfl
  ·have c:(M l:Int)<=64:=Ig
   have hE:il ⟨l,X,l,(M l:Int),0⟩:=⟨rfl,rfl,AZ,rfl⟩
   refine ⟨⟨hE,rfl,rfl⟩,?_⟩;obtain ⟨_,_,hq⟩:=arq _ hE;rcases hq with ⟨q1,q2⟩ |⟨q1,q2,j,q3,q4⟩<;>rw [q1]
   ·have e:Dc (M l) (Gn l)=true:=Dy.2 (λj hj=>q2 j (by show (j:Int)<(M l:Int);omega))
    unfold BC;rw [Cm A0,e];exact ⟨λh=>Ao,λ_=>rfl⟩
   ·have e:Dc (M l) (Gn l)=false:=QP j (by have q3:(j:Int)<(M l:Int):=q3;omega) q4
    rw [q2];unfold BC;rw [Cm A0,e];exact ⟨λ_=>rfl,λh=>Ao⟩
 ·cases h)
structure PB where
 tick:Int
 l:List Le
 (n i:Int)
 out:List Le
def aFh:=bN f77 0
def vZ (s:PB):T (Rd PB):=letI a:=An s.l s.i;.br (an<|s.i<s.n) (.ix s.i (M s.l)<|.req ((0<=a.2.2.2.1/\a.2.2.2.1<=1000000)/\0<=a.2.2.2.2/\a.2.2.2.2<=1000000)<|.br (an<|(DB a)>s.tick) (.rb (M s.out) (M<|[a]) 40<|.re (M s.out+M ([a])) (s.out++([a]))<|.nx {s with i:=AA<|s.i+1,out:=s.out++([a])})<|.rl s.out<|.nx {s with i:=AA<|s.i+1})<|.rl s.out<|.so (.exit 0) s
def j4 (s:PB):Prop:=s.i=0/\s.out=[]/\s.n=(M s.l:Int)/\s.n<=1000/\∀x∈s.l,D5 x=U
def Y0 (s:PB):Prop:=(0<=s.i/\s.i<=s.n)/\s.out=(s.l.take s.i.toNat).filter (LZ s.tick)/\s.n=(M s.l:Int)/\s.n<=1000/\∀x∈s.l,D5 x=U
def sh (s:PB):Nat:=(s.n-s.i).toNat
def aAc (x:Ex) (s s':PB):Prop:=x=.exit 0/\s'.out=s'.l.filter (LZ s'.tick)
def akW:∀s,j4 s->Y0 s:=by
 rintro s ⟨h0,h1,h2⟩
 exact ⟨A0,G1,h2⟩
theorem agf:Da Y0 sh aAc vZ:=by
 intro s hI;obtain ⟨⟨h0,h1⟩,hA,h2,h3,h4⟩:=hI;refine AH (λc1=>?_) λc1=>?_
 ·have c1:s.i<s.n:=AX
  have e:=(W9 h0 (show s.i<M s.l by omega)).2
  rw [AJ (x:=s.i+1)];refine AH (λc2=>?_) λc2=>?_
  all_goals
   refine ⟨⟨⟨A8,AZ⟩,?_,h2,h3,h4⟩,by simp only [sh];omega⟩
   simp only
   have c2:LZ s.tick (An s.l s.i)=_:=c2
   rw [e,ZE,hA,OX,c2]
   simp
 ·have c1:s.n<=s.i:=AX
  refine ⟨rfl,?_⟩;rw [hA,DR A0]
def Rb:AT PB:=⟨0,33,[1,6,17,18,19],[.nl 6 90 AQ],λs=>[s.tick,.os 0 5 0<|M s.out,s.l,s.n,s.i],λs=>[bV 90 AQ s.out],λv b=>⟨AK v 0,B5 AQ v 2,AK v 3,AK v 4,Ab AQ b 0⟩,vZ,λs r=> {s with i:=r.i,out:=r.out},λs=>s,λ_ s=>s,[.exit 0],j4,Y0,sh⟩
abbrev aCA:=Rb.run
abbrev asn:=Rb.Av
theorem awg:Rq Y0 vZ:=by
 intro s hI;refine ⟨λc1=>⟨?_,?_,λc2=>⟨?_,?_,ak⟩,λc2=>⟨A9,ak⟩⟩,λc1=>⟨A9,ak⟩⟩
 all_goals ((obtain ⟨⟨h0,h1⟩,hA,h2,h3,h4⟩:=hI;simp only [Ac] at c1;have hv:=LD.1<|h4 _<|MR h0 (show s.i<M s.l by omega);have hl:M s.out<=s.i.toNat:=A8;first|omega|(refine ⟨A0,?_,?_⟩<;>simp only [Bk,Bp]<;>omega) |exact ⟨rfl,AI⟩))
def ac7:List Bd:=[WU,v7,aJj]
def aQT:Rb.Ok:={}
def aOv:Rb.Pf (aAc):=⟨akW,λs h=>rfl,agf,awg⟩
def aqD:SA 0 aFh Rb:=s1 aQT aOv ac7 kN
def arW:Fi j4 Y0 aAc asn aCA:=AT.fin aQT aOv
def aIS:List LV->T LV
 | [.xl (.pair (.int J) (.pair (.int J) (.pair (.int J) (.pair (.int J) (.int J))))) l,.v (Y J t)]=> .ok (.AO [BW l t,D9 l t])
 |_=> .no
def ub:=uS f77 aIS
theorem dx:VV 77 ub:=vm func77 ac7 kN (L:=(λi=>if i=5 then Rb.lp else Al i)) (λb hb=>by
 rw [show BD _=[aFh] by kernel_rfl] at hb
 simp only [B7,Bt,Bu] at hb;subst hb;exact aqD) (λargs lv h=>by
 unfold aIS at h;split at h
 ·rename_i l t
  refine Aq (letI a:=(aCA (⟨t,l,(M l:Int),(0:Int),([]:List Le)⟩:PB));.br ((!(BC l)) ||(!(inB t (0:Int) (1100000:Int)))) (.ok<|.AO [.xl AQ ([]:List Le),(1:Int)])<|.r0 Le<|.req (Rb.q (⟨t,l,(M l:Int),(0:Int),([]:List Le)⟩:PB))<|.rz a.out<|.ok<|.AO [((a.out.drop 0).take<|M a.out),(0:Int)]) ?_;obtain rfl:=h;refine ⟨λc=>?_,λc=>?_⟩
  ·have c:Ka l t=false:=aMj
   unfold BW D9;rw [c];rfl
  ·have c:Ka l t=true:=aMj
   have hv:BC l=true:=A8
   have hl:=GS hv
   have hE:j4 ⟨t,l,(M l:Int),0,[]⟩:=⟨rfl,rfl,rfl,AZ,hl.2⟩
   obtain ⟨_,_,q1,q2⟩:=arW _ hE
   have q2:(aCA ⟨t,l,(M l:Int),0,[]⟩).out=l.filter (LZ t):=q2
   refine ⟨A9,⟨hE,rfl,rfl⟩,A0,?_⟩
   show LV.AO [LV.xl _ _,_]=_
   unfold BW D9
   grind
 ·cases h)
structure Ny where
 l:List Le
 (cS tick e:Int)
 m:List Le
 (k i:Int)
def aFu:=bN f9 0
def zK (s:Ny):T (Rd Ny):=
 .br (an<|s.i<s.k) (.ix s.i (M s.m)<|.br (an<|(An s.m s.i).2.1>=s.cS) (.so (.ret) {s with e:=(1:Int)})<|.nx {s with i:=AA<|s.i+1}) (.so (.exit 0) s)
def jm (s:Ny):Prop:=s.i=0/\s.k=(M s.m:Int)/\s.k<=1000
def Xh (s:Ny):Prop:=(0<=s.i/\s.i<=s.k)/\s.k=(M s.m:Int)/\s.k<=1000/\∀x∈s.m.take s.i.toNat,x.2.1<s.cS
def sM (s:Ny):Nat:=(s.k-s.i).toNat
def aAK (x:Ex) (s s':Ny):Prop:=(x=.exit 0/\below s'.cS s'.m=U)\/(x=.ret/\s'.e=1/\below s'.cS s'.m=X)
def alW:∀s,jm s->Xh s:=by
 rintro s ⟨h0,h1,h2⟩
 exact ⟨A0,h1,h2,G1⟩
theorem ahI:Da Xh sM aAK zK:=by
 intro s hI;obtain ⟨⟨h0,h1⟩,h2,h3,h4⟩:=hI;refine AH (λc1=>?_) λc1=>?_
 ·have c1:s.i<s.k:=AX
  refine AH (λc2=>?_) λc2=>?_
  ·refine .inr ⟨rfl,rfl,?_⟩
   unfold below;rw [List.all_eq_false];exact ⟨An s.m s.i,MR h0 A8,EC⟩
  ·rw [AJ (x:=s.i+1)]
   refine ⟨⟨⟨A8,A8⟩,h2,h3,λx hx=>?_⟩,by simp only [sM];omega⟩
   rw [(W9 h0 A8).2,Be,HY] at hx;rcases hx with hx|rfl
   ·exact h4 x hx
   ·simpa using c2
 ·have c1:s.k<=s.i:=AX
  refine .inl ⟨rfl,?_⟩;rw [DR A0] at h4;unfold below
  grind
def Rj:AT Ny:=⟨0,48,[0,1,2,6,7,26,27,28],[],λs=>[s.l,s.cS,s.tick,.v<|.slice aj 0 0,s.e,s.m,s.k,s.i],λ_=>[],λv b=>⟨B5 AQ v 0,AK v 1,AK v 2,AK v 4,B5 AQ v 5,AK v 6,AK v 7⟩,zK,λs r=> {s with e:=r.e,i:=r.i},λs=>s,λ_ s=>s,[.ret,.exit 0],jm,Xh,sM⟩
abbrev aGw:=Rj.run
abbrev aII:=Rj.Av
def axs:Rq Xh zK:=by
 exact aKy
def R9:List Bd:=[WU,v7,aJj]
def ab6:Ay:=kI R9<|l0 R9
def aQC:Rj.Ok:={}
def aPw:Rj.Pf (aAK):=⟨alW,λs h=>rfl,ahI,axs⟩
def aph:SA 0 aFu Rj:=s1 aQC aPw R9 ab6
def atV:Fi jm Xh aAK aII aGw:=AT.fin aQC aPw
def zA:Array Tmp×Code×Code:=((It<|f9.body.getD .skip)[0]?).getD (#[],.skip,.skip)
def ajB:Array Tmp:=zA.1
def ak5:Code:=zA.2.1
def aif:Code:=zA.2.2
structure Ni where
 m:List Le
 (k i:Int)
 o:List Int
 q:List Le
 t:Int
 st:LS
def zJ (s:Ni):T (Rd Ni):=letI b:=An s.m s.i;letI c:=s.o.getD b.2.1.toNat<|Ty.dflt A7;letI a:=s.o.set b.2.1.toNat (if c<b.2.2.1 then b.2.2.1 else c);.br (an<|s.i<s.k) (.ix s.i (M s.m)<|.br (an<|b.2.2.2.1>s.t) (.rl s.o<|.so (.exit 0) s)<|.req ((0<=b.2.2.2.1/\b.2.2.2.1<=1000000)/\0<=b.2.2.2.2/\b.2.2.2.2<=1000000)<|.br (an<|(DB b)<=s.t) (.rl s.o<|.nx {s with i:=AA<|s.i+1})<|.ik b.2.1 (M s.o)<|.ik b.2.1 (M s.o)<|.re (M s.o) a<|.nx {s with i:=AA<|s.i+1,o:=a})<|.rl s.o<|.so (.exit 0) s
def jl (s:Ni):Prop:=s.st=.ready/\s.i=0/\s.k=(M s.m:Int)/\s.k<=1000/\(∀x∈s.m,D5 x=U/\x.2.1<(M s.o:Int))/\s.m.Pairwise (λa b=>a.1<b.1/\a.2.2.2.1<=b.2.2.2.1)
def jP (s:Ni):Prop:=s.st=.ready/\(0<=s.i/\s.i<=s.k)/\s.k=(M s.m:Int)/\s.k<=1000/\(∀x∈s.m,D5 x=U/\x.2.1<(M s.o:Int))/\s.m.Pairwise (λa b=>a.1<b.1/\a.2.2.2.1<=b.2.2.2.1)
def eY (s:Ni):Nat:=(s.k-s.i).toNat
def ach (x:Ex) (s s':Ni):Prop:=x=.exit 0
def alV:∀s,jl s->jP s:=by
 rintro s ⟨h0,h1,h2⟩
 exact ⟨h0,A0,h2⟩
theorem ahq:Da jP eY ach zJ:=by
 intro s hI;obtain ⟨hs,⟨h0,h1⟩,h2,h3,h4,h5⟩:=hI;refine AH (λc1=>?_) λc1=>rfl
 have c1:s.i<s.k:=AX
 rw [AJ (x:=s.i+1)];refine AH (λc2=>rfl) λc2=>AH (λc3=>?_) λc3=>?_
 ·exact ⟨⟨hs,⟨A8,AZ⟩,h2,h3,h4,h5⟩,by simp only [eY];omega⟩
 ·exact ⟨⟨hs,⟨A8,A8⟩,h2,h3,λx hx=>A8,h5⟩,by simp only [eY];omega⟩
def Z6:AT Ni:=⟨6,27,[0,2,6,7,8],[],λs=>[.CK 5,.own 4 0,s.m,s.k,s.i],λs=>[bV 3 A7 s.o,⟨[.os 0 1 0<|M s.o],29,.cl,X⟩,⟨[.fn 21 [.own 1 0]],95,.cl,X⟩,⟨[s.q],33,.cl,X⟩,⟨[s.t],3,.cl,X⟩,⟨[.junk,.junk,.junk,.junk,.junk,.junk,.junk,.junk,.junk,.junk,.junk,.own 2 0,.junk,.junk,.junk,.junk,.junk,.junk,.junk,.junk,.junk,.junk,.junk,.junk,.junk,.junk,.junk,.junk,.junk,.junk,.junk,.junk,.junk,.junk,.junk,.junk,.junk,.junk,.junk,.junk,.junk,.junk,.junk,.junk,.junk,.junk,.junk,.junk],0,.Cc ajB ak5 aif s.st,X⟩],λv b=>⟨B5 AQ v 2,AK v 3,AK v 4,Ab A7 b 0,AF AQ b 3 0,Ak b 4 0,.ready⟩,zJ,λs r=> {r with m:=s.m,k:=s.k,q:=s.q,t:=s.t,st:=s.st},λs=> {s with st:=.ready},λx s=> {s with st:=(match x with| .exit 0=> .ready|_=> .ready)},[.exit 0],jl,jP,eY⟩
abbrev aCx:=Z6.run
abbrev atG:=Z6.Av
def axr:Rq jP zJ:=by
 intro s hI;refine ⟨λc1=>⟨?_,λc2=>⟨A9,ak⟩,λc2=>⟨?_,λc3=>⟨A9,ak⟩,λc3=>⟨?_,?_,?_,?_,?_,ak⟩⟩⟩,λc1=>⟨A9,ak⟩⟩
 all_goals ((obtain ⟨hs,⟨h0,h1⟩,h2,h3,h4,h5⟩:=hI;simp only [Ac] at c1;have hv:=(h4 _<|MR h0 (show s.i<M s.m by omega)).2;have hl:=LD.1 (h4 _<|MR h0 (show s.i<M s.m by omega)).1;first|omega|exact ⟨rfl,AI⟩))
def aQB:Z6.Ok:={}
def aPv:Z6.Pf (ach):=⟨alV,λs h=>by
 obtain ⟨m,k,i,o,q,t,st⟩:=s
 have e:=h.1
 subst e;rfl,ahq,axr⟩
def apg:=s2 (b:=bN f42 0) aQB aPv R9 ab6
theorem atU:Rs jl atG aCx (λs:Ni=>((s.m.drop s.i.toNat).filter<|Lx s.t).foldl Ku s.o) (λx s' (v:List Int)=>x=.exit 0/\s'.o=v):=DJ aQB aPv (λs hI=>by
  obtain ⟨hs,⟨h0,h1⟩,h2,h3,h4,h5⟩:=hI;refine AH (λc1=>?_) λc1=>?_
  ·have c1:s.i<s.k:=AX
   have e:=(W9 h0 (show s.i<(M s.m:Int) by omega)).1
   rw [AJ (x:=s.i+1)];refine AH (λc2=>?_) λc2=>AH (λc3=>?_) λc3=>?_
   ·refine ⟨rfl,?_⟩
    have c2:(An s.m s.i).2.2.2.1>s.t:=EC
    have hp:(s.m.drop s.i.toNat).Pairwise (λa b=>a.1<b.1/\a.2.2.2.1<=b.2.2.2.1):=List.Pairwise.sublist (List.drop_sublist _ _) h5
    rw [e,kH] at hp;rw [List.filter_eq_nil_iff.2]
    ·rfl
    ·rw [e]
     intro x hx;unfold Lx;rw [I8,Pq]
     ·decide
     ·rcases B7.1 hx with rfl|hx
      ·omega
      ·have:=(hp.1 x hx).2
       omega
   ·show List.foldl _ _ _=List.foldl _ _ _
    have c3:DB (An s.m s.i)<=s.t:=ND
    have hb:¬Lx s.t (An s.m s.i)=true:=by
     unfold Lx;rw [I8 (p:=DB _>_) A0,SS]
     decide
    simp only
    grind
   ·show List.foldl _ _ _=List.foldl _ _ _
    have c2:(An s.m s.i).2.2.2.1<=s.t:=EC
    have c3:s.t<DB (An s.m s.i):=ND
    have hb:Lx s.t (An s.m s.i)=true:=by
     unfold Lx;rw [Cm c2,Cm c3];rfl
    rw [e,OX,AD hb,Jy];rfl
  ·have c1:s.k<=s.i:=A8
   refine ⟨rfl,?_⟩;rw [El A0];rfl)
def aIN:List LV->T LV
 | [.xl (.pair (.int J) (.pair (.int J) (.pair (.int J) (.pair (.int J) (.int J))))) l,.v (Y J n),.v (Y J t)]=> .ok (.AO [.xl A7<|Eo l n t,Hq l n t])
 |_=> .no
def al0:Ay:=kI R9<|la 1 func42 apg<|l0 R9
def QW:=vm (S:=aIN) func9 R9 al0 (L:=(λi=>if i=4 then Rj.lp else Al i)) (λb hb=>by
 rw [show BD _=[aFu] by kernel_rfl] at hb
 simp only [B7,Bt,Bu] at hb;subst hb;exact aph) (λargs lv h=>by
 unfold aIN at h;split at h
 ·rename_i l n t
  refine Aq (letI b:=(aq n.toNat (0:Int));letI d:=(M l:Int);letI a:=(aCx (⟨l,d,0,b,l,t,.ready⟩:Ni));.br ((!(BC l)) ||((!(inB n (0:Int) (16:Int))) ||(!(inB t (0:Int) (1100000:Int))))) (.ok<|.AO [.xl A7 ([]:List Int),(1:Int)])<|.req (Rj.q (⟨l,n,t,0,l,d,0⟩:Ny))<|.br (Bs (aII (⟨l,n,t,0,l,d,0⟩:Ny))<|.ret) (.ok<|.AO [.xl A7 ([]:List Int),(aGw (⟨l,n,t,0,l,d,0⟩:Ny)).e])<|.rm 8 n<|.re n.toNat b<|.req (Z6.q (⟨l,d,0,b,l,t,.ready⟩:Ni))<|.rz a.o<|.ok<|.AO [.xl A7<|(a.o.drop 0).take<|M a.o,(0:Int)]) ?_;obtain rfl:=h
  have bad:Kd l n t=X->LV.AO [.xl A7 ([]:List Int),.v<|Y J 1]=LV.AO [.xl A7<|Eo l n t,.v<|Y J<|Hq l n t]:=λc=>by
   unfold Eo Hq;rw [c];rfl
  refine ⟨λc=>bad ?_,λc=>?_⟩
  ·unfold Kd
   grind
  have c:(BC l&&(inB n 0 16&&inB t 0 1100000))=true:=A8
  have c':=c
  rw [AY,AY,BV,BV] at c';obtain ⟨hv,hn,ht⟩:=c'
  have hl:=GS hv
  have hE:jm ⟨l,n,t,0,l,(M l:Int),0⟩:=⟨rfl,rfl,AZ⟩
  refine ⟨⟨hE,rfl,rfl⟩,?_⟩;obtain ⟨_,_,hq⟩:=atV _ hE;rcases hq with ⟨q1,q2⟩ |⟨q1,q2,q3⟩<;>rw [q1]
  ·refine ⟨λh=>Ao,λ_=>?_⟩
   have q2:below n l=true:=q2
   have hE2:jl ⟨l,(M l:Int),0,aq n.toNat 0,l,t,.ready⟩:=⟨rfl,rfl,rfl,AZ,λx hx=>⟨hl.2 x hx,by
    have:=Cx<|BP.1 q2 x hx
    simp only [Ce];omega⟩,aE3 hv⟩
   obtain ⟨_,q4⟩:=atU _ hE2;refine ⟨A0,⟨rfl,AI⟩,⟨hE2,rfl,rfl⟩,A0,?_⟩;rw [CP,EN,q4];unfold Eo Hq Kd;rw [c,q2];rfl
  ·have q3:below n l=false:=q3
   rw [q2];exact ⟨λ_=>bad (by unfold Kd;rw [q3,SS]),λh=>Ao⟩
 ·cases h)
def aJL:List LV->T LV
 | [.v (.agg ⟨[.string nm,Y J at_,Y J ph,Y J mi,Y J ma,Y J st,Y J fb,Y J ow]⟩)]=> .ok (EG mi ma st)
 |_=> .no
def m8:List Bd:=[]
def aqi (nm:ByteArray) (at_ ph mi ma st fb ow:Int):Bi prog AV (m8) kN Al f215 [.v<|.agg #[.string nm,at_,ph,mi,ma,st,fb,ow]]=.br ((an<|mi<1) ||((an<|mi>ma) ||((an<|ma>80) ||((an<|st<1) ||(an<|st>80))))) (.ok (0:Int)) (.req (st≠0)<|.ok<|AA<|(AA<|(AA<|ma-mi).tdiv st)+2):=AU
def aus:=vo (S:=aJL) func215 m8 kN (λargs lv h=>by
 refine ⟨?_⟩;unfold aJL at h;split at h
 ·simp only [canL,canX]
  rw [aqi];rename_i mi ma st _ _;obtain rfl:=h;refine ⟨λc=>B0 (λz=>LV.v<|Y J z) ?_,λc=>⟨?_,B0 (λz=>LV.v<|Y J z) ?_⟩⟩
  ·have:Dh mi ma st=false:=by
    rw [I6];intro h;have:=IB.1 h;simp at c;omega
   rw [aEQ this]
  ·grind
  ·have hh:=IB.2 VL
   obtain ⟨h1,h2,h3,h4,h5⟩:=IB.1 hh
   have:=oF (x:=ma-mi) (st:=st) A0 A0
   rw [AJ (x:=ma-mi),I9 A0,AJ (x:=(ma-mi) / st),AJ]
   simp [EG,hh]
 ·cases h)
def aJ9:List LV->T LV
 | [.v (.agg ⟨[.string nm,Y J at_,Y J ph,Y J mi,Y J ma,Y J st,Y J fb,Y J ow]⟩),.v (Y J k)]=> .req ((1<=mi/\mi<=80/\1<=st/\st<=80)/\0<=k/\k<=1000) (.ok<|Dr mi st k)
 |_=> .no
def aqN (nm:ByteArray) (at_ ph mi ma st fb ow k:Int):Bi prog AV (m8) kN Al f193 [.v<|.agg #[.string nm,at_,ph,mi,ma,st,fb,ow],k]=.br (k==0) (.ok (0:Int)) (.ok<|AA<|mi+(AA<|(AA<|k-1)*st)):=AU
def Wu:=vo (S:=aJ9) func193 m8 kN (λargs lv h=>by
 refine ⟨?_⟩;unfold aJ9 at h;split at h
 ·simp only [canL,canX]
  rw [aqN];rename_i mi _ st _ _ k;obtain ⟨⟨⟨h1,h2,h3,h4⟩,h5,h6⟩,rfl⟩:=h;refine ⟨λc=>B0 (λz=>LV.v<|Y J z) ?_,λc=>B0 (λz=>LV.v<|Y J z) ?_⟩
  ·have c:k=0:=A8
   simp [Dr,c]
  ·have c:k≠0:=A8
   have:=az4 (a:=k-1) (b:=st) A0 A0 A0 A0
   rw [AJ (x:=k-1),AJ (x:=(k-1)*st),AJ]
   simp [Dr,c]
 ·cases h)
def aJP:List LV->T LV
 | [.v (.agg ⟨[.string nm,Y J at_,Y J ph,Y J mi,Y J ma,Y J st,Y J fb,Y J ow]⟩),.v (Y J a)]=> .req (a<=9223372036854775807) (.ok<|HE mi ma st a)
 |_=> .no
def aK3:List Bd:=[aus]
def aqj (nm:ByteArray) (at_ ph mi ma st fb ow a:Int):letI b:=(AA<|(AA<|a-mi).tdiv st)+1;letI c:=EG mi ma st;Bi prog AV (aK3) kN Al f191 [.v<|.agg #[.string nm,at_,ph,mi,ma,st,fb,ow],a]=.br ((c==0) ||(an<|a<0)) (.ok<|.v<|Y J (-1)) (.br (an<|a<mi) (.ok (0:Int))<|.req (st≠0)<|.ok<|.v<|Y J (if (AA b)<(AA<|c-1) then AA b else AA (c-1))):=AU
def Ws:=vo (S:=aJP) func191 aK3 kN (λargs lv h=>by
 refine ⟨?_⟩;unfold aJP at h;split at h
 ·simp only [canL,canX]
  rw [aqj];rename_i mi ma st _ _ a;obtain ⟨ha,rfl⟩:=h
  have hb:=aQi (mi:=mi) (ma:=ma) (st:=st)
  refine ⟨λc=>B0 (λz=>LV.v<|Y J z) ?_,λc=>⟨λc2=>B0 (λz=>LV.v<|Y J z) ?_,λc2=>?_⟩⟩
  ·have c:Dh mi ma st=X\/a<0:=by
    simp at c
    rcases c with c|c
    ·left
     cases e:Dh mi ma st with
     |false=>rfl
     |true=>have:=qE e;omega
    ·exact .inr c
   simp only [HE,AD c]
  all_goals
   simp at c c2
   have hh:Dh mi ma st=true:=by
    cases e:Dh mi ma st with
    |true=>rfl
    |false=>exact absurd (aEQ e) c.1
   have hn:¬(Dh mi ma st=X\/a<0):=A8
   have:=IB.1 hh
  ·simp only [HE,AE hn,AD c2]
  ·have:=oF (x:=a-mi) (st:=st) A0 A0
   refine ⟨A0,B0 (λz=>LV.v<|Y J z) ?_⟩
   rw [AJ (x:=a-mi),I9 A0,AJ (x:=(a-mi) / st),AJ (x:=(a-mi) / st+1),AJ (x:=EG mi ma st-1)];simp only [HE,AE hn,AE (show ¬a<mi by omega)]
   omega
 ·cases h)
def aDu:List LV->T LV
 | [.v (.string w)]=> .ok (isIn hM w)
 |_=> .no
def Uk:List Bd:=[]
def aET:=vo (S:=aDu) func178 Uk kN (λargs lv h=>by
 unfold aDu at h;split at h
 ·rename_i w
  refine Aq (.br (w.toList==(av #[108,105,109,105,116]).toList) (.ok U)<|.br (w.toList==(av #[110,101,117,116,114,97,108]).toList) (.ok U)<|.br (w.toList==(av #[102,117,115,101]).toList) (.ok U)<|.br (w.toList==(av #[116,104,101,114,109,97,108]).toList) (.ok U)<|.br (w.toList==(av #[102,114,111,109]).toList) (.ok U)<|.br (w.toList==(av #[97,116]).toList) (.ok U)<|.br (w.toList==(av #[112,104,97,115,101,115]).toList) (.ok U)<|.br (w.toList==(av #[97,109,112,115]).toList) (.ok U)<|.br (w.toList==(av #[102,97,108,108,98,97,99,107]).toList) (.ok U)<|.br (w.toList==(av #[111,119,110,101,114]).toList) (.ok U)<|.br (w.toList==(av #[99,97,114,100]).toList) (.ok U)<|.br (w.toList==(av #[114,97,110,107]).toList) (.ok U)<|.br (w.toList==(av #[99,104,97,114,103,101,114]).toList) (.ok U)<|.ok X) ?_;obtain rfl:=h;simp only [Wr];unfold isIn hM;simp only [ZO,kU];refine ⟨λc0=>yX,λc0=>?_⟩
  rw [c0,Ct];refine ⟨λc1=>yY,λc1=>?_⟩
  rw [c1,Ct];refine ⟨λc2=>yZ,λc2=>?_⟩
  rw [c2,Ct];refine ⟨λc3=>ya,λc3=>?_⟩
  rw [c3,Ct];refine ⟨λc4=>yb,λc4=>?_⟩
  rw [c4,Ct];refine ⟨λc5=>yc,λc5=>?_⟩
  rw [c5,Ct];refine ⟨λc6=>by simp [c6,T.all],λc6=>?_⟩
  rw [c6,Ct];refine ⟨λc7=>by simp [c7,T.all],λc7=>?_⟩
  rw [c7,Ct];refine ⟨λc8=>by simp [c8,T.all],λc8=>?_⟩
  rw [c8,Ct];refine ⟨λc9=>by simp [c9,T.all],λc9=>?_⟩
  rw [c9,Ct];refine ⟨λc10=>by simp [c10,T.all],λc10=>?_⟩
  rw [c10,Ct];refine ⟨λc11=>by simp [c11,T.all],λc11=>?_⟩
  rw [c11,Ct];refine ⟨λc12=>by simp [c12,T.all],λc12=>?_⟩
  rw [c12,Ct];rfl
 ·cases h)
def aFV:List LV->T LV
 | [.v (.string w)]=> .ok (isIn oD w)
 |_=> .no
def aFz:=vo (S:=aFV) func179 Uk kN (λargs lv h=>by
 unfold aFV at h;split at h
 ·rename_i w
  refine Aq (.br (w.toList==(av #[115,116,97,114,116]).toList) (.ok U)<|.br (w.toList==(av #[101,110,101,114,103,121]).toList) (.ok U)<|.br (w.toList==(av #[116,105,109,101]).toList) (.ok U)<|.br (w.toList==(av #[105,100,108,101]).toList) (.ok U)<|.br (w.toList==(av #[99,97,112]).toList) (.ok U)<|.br (w.toList==(av #[116,97,120]).toList) (.ok U)<|.ok X) ?_;obtain rfl:=h;simp only [Wr];unfold isIn oD;simp only [ZO,kU];refine ⟨λc0=>yX,λc0=>?_⟩
  rw [c0,Ct];refine ⟨λc1=>yY,λc1=>?_⟩
  rw [c1,Ct];refine ⟨λc2=>yZ,λc2=>?_⟩
  rw [c2,Ct];refine ⟨λc3=>ya,λc3=>?_⟩
  rw [c3,Ct];refine ⟨λc4=>yb,λc4=>?_⟩
  rw [c4,Ct];refine ⟨λc5=>yc,λc5=>?_⟩
  rw [c5,Ct];rfl
 ·cases h)
def aFT:List LV->T LV
 | [.v (.string w)]=> .ok (isIn words w)
 |_=> .no
def aFy:=vo (S:=aFT) func210 Uk kN (λargs lv h=>by
 unfold aFT at h;split at h
 ·rename_i w
  refine Aq (.br (w.toList==(av #[111,110]).toList) (.ok U)<|.br (w.toList==(av #[119,111,114,107]).toList) (.ok U)<|.br (w.toList==(av #[115,97,116,117,114,100,97,121]).toList) (.ok U)<|.br (w.toList==(av #[115,117,110,100,97,121]).toList) (.ok U)<|.br (w.toList==(av #[98,101,116,119,101,101,110]).toList) (.ok U)<|.br (w.toList==(av #[112,101,114]).toList) (.ok U)<|.br (w.toList==(av #[102,114,101,101]).toList) (.ok U)<|.ok X) ?_;obtain rfl:=h;simp only [Wr];unfold isIn words;simp only [ZO,kU];refine ⟨λc0=>yX,λc0=>?_⟩
  rw [c0,Ct];refine ⟨λc1=>yY,λc1=>?_⟩
  rw [c1,Ct];refine ⟨λc2=>yZ,λc2=>?_⟩
  rw [c2,Ct];refine ⟨λc3=>ya,λc3=>?_⟩
  rw [c3,Ct];refine ⟨λc4=>yb,λc4=>?_⟩
  rw [c4,Ct];refine ⟨λc5=>yc,λc5=>?_⟩
  rw [c5,Ct];refine ⟨λc6=>by simp [c6,T.all],λc6=>?_⟩
  rw [c6,Ct];rfl
 ·cases h)
def aJU:List LV->T LV
 | [.v (.string w)]=> .ok (Uq 1 kinds w)
 |_=> .no
def auu:=vo (S:=aJU) func209 Uk kN (λargs lv h=>by
 unfold aJU at h;split at h
 ·rename_i w
  refine Aq (.br (w.toList==(av #[102,101,101,100,101,114]).toList) (.ok (1:Int))<|.br (w.toList==(av #[99,97,98,108,101]).toList) (.ok (2:Int))<|.br (w.toList==(av #[111,119,110,101,114]).toList) (.ok (3:Int))<|.br (w.toList==(av #[99,111,110,116,114,97,99,116]).toList) (.ok (4:Int))<|.br (w.toList==(av #[99,104,97,114,103,101,114]).toList) (.ok (5:Int))<|.br (w.toList==(av #[98,97,121]).toList) (.ok (6:Int))<|.br (w.toList==(av #[116,97,114,105,102,102]).toList) (.ok (7:Int))<|.ok (0:Int)) ?_;obtain rfl:=h;simp only [Wr];simp only [Uq,kinds];refine ⟨λc0=>by rw [AD c0];rfl,λc0=>?_⟩
  rw [AE<|by simp [c0]]
  refine ⟨λc1=>by rw [AD c1];rfl,λc1=>?_⟩
  rw [AE<|by simp [c1]]
  refine ⟨λc2=>by rw [AD c2];rfl,λc2=>?_⟩
  rw [AE<|by simp [c2]]
  refine ⟨λc3=>by rw [AD c3];rfl,λc3=>?_⟩
  rw [AE<|by simp [c3]]
  refine ⟨λc4=>by rw [AD c4];rfl,λc4=>?_⟩
  rw [AE<|by simp [c4]]
  refine ⟨λc5=>by rw [AD c5];rfl,λc5=>?_⟩
  rw [AE A8];refine ⟨λc6=>by rw [AD c6];rfl,λc6=>?_⟩
  rw [AE A8];rfl
 ·cases h)
def aFU:List LV->T LV
 | [.v (.string w)]=> .ok (aBV w)
 |_=> .no
def amR:List Bd:=[aET,aFz,auu,aFy]
def ap4:=vo (S:=aFU) func177 amR kN (λargs lv h=>by
 unfold aFU at h;split at h
 ·rename_i w
  refine Aq (.ok<|.v<|.bool (((Uq 1 kinds w) !=0) ||((isIn hM w) ||((isIn oD w) ||(isIn words w))))) ?_;obtain rfl:=h;rw [aEF 1 kinds _ Aa];rfl
 ·cases h)
structure Lt where
 text:ByteArray
 r:Bool
 i:Int
def aHb:=bN f176 0
def lh (s:Lt):T (Rd Lt):=letI a:=Jn s.text s.i;.br (an<|s.i<(s.text.size:Int)) (.req (0<=s.i/\s.i<(s.text.size:Int))<|.br (if an (a>=97) then !(an<|a<=122)&&(if an (a>=48) then !(an<|a<=57)&&(!(a==95)) else !(a==95)) else if an (a>=48) then !(an<|a<=57)&&(!(a==95)) else !(a==95)) (.so (.ret) {s with r:=X})<|.nx {s with i:=AA<|s.i+1})<|.so (.exit 0) s
def OG (s:Lt) (j:Int):Bool:=an (j<1) ||(chB<|Jn s.text j)
def mX (s:Lt):Prop:=s.i=1/\1<=(s.text.size:Int)/\(s.text.size:Int)<=1000/\True
def bL (s:Lt):Prop:=1<=s.i/\s.i<=(s.text.size:Int)/\(s.text.size:Int)<=1000/\(True)/\∀j:Nat,(j:Int)<s.i->OG s j=U
def zi (s:Lt):Nat:=((s.text.size:Int)-s.i).toNat
def wZ (x:Ex) (s s':Lt):Prop:=(x=.exit 0/\∀j:Nat,(j:Int)<(s'.text.size:Int)->OG s' j=U)\/(x=.ret/\s'.r=X/\∃j:Nat,(j:Int)<(s'.text.size:Int)/\OG s' j=X)
def amN:∀s,mX s->bL s:=by
 rintro s ⟨h0,h1,h2,h3⟩
 exact ⟨A0,A0,h2,h3,λj hj=>by unfold OG;rw [Cm A0];rfl⟩
theorem akc:Da bL zi wZ lh:=by
 intro s hI;unfold lh;obtain ⟨h0,h1,h2,h3,h4⟩:=hI;refine AH (λc1=>AH (λc2=>?_) λc2=>?_) λc1=>?_
 ·have c1:s.i<(s.text.size:Int):=AX
  refine .inr ⟨rfl,rfl,s.i.toNat,AZ,?_⟩;rw [CM A0]
  have hg:OG s s.i=false:=aMD
  exact hg
 ·have c1:s.i<(s.text.size:Int):=AX
  have hg:OG s s.i=true:=aMD
  rw [AJ (x:=s.i+1)];refine ⟨⟨AZ,AZ,h2,h3,λj hj=>?_⟩,by simp only [zi];omega⟩
  by_cases hji:(j:Int)<s.i
  ·exact h4 j hji
  ·have:(j:Int)=s.i:=A8
   rw [this];exact hg
 ·have c1:(s.text.size:Int)<=s.i:=AX
  exact Zf
def SP:AT Lt:=⟨0,51,[0,2,3],[],λs=>[.v<|.string s.text,s.r,s.i],λ_=>[],λv b=>⟨gSr<|v.getD 0 .junk,Ec v 1,AK v 2⟩,lh,λs r=> {r with text:=s.text},λs=>s,λ_ s=>s,[.ret,.exit 0],mX,bL,zi⟩
abbrev dj:=SP.run
abbrev aRJ:=SP.Av
def aiz:Rq bL lh:=by
 exact Sj
def aao:SP.Ok:={}
def abI:SP.Pf (wZ):=⟨amN,λs h=>rfl,akc,aiz⟩
def avS:SA 0 aHb SP:=s1 aao abI Uk kN
def azB:Fi mX bL wZ aRJ dj:=AT.fin aao abI
def aFY:List LV->T LV
 | [.v (.string w)]=> .ok (gwB w)
 |_=> .no
def ap6:=vm (S:=aFY) func176 Uk kN (L:=(λi=>if i=4 then SP.lp else Al i)) (λb hb=>by
 rw [show BD _=[aHb] by kernel_rfl] at hb
 simp only [B7,Bt,Bu] at hb;subst hb;exact avS) (λargs lv h=>by
 unfold aFY at h;split at h
 ·rename_i w
  refine Aq (letI a:=(w.size:Int);.br (an<|a<1) (.ok X)<|.br (an<|a>12) (.ok X)<|.req (0<=(0:Int)/\(0:Int)<a)<|.br (an<|(Jn w (0:Int))<97) (.ok X)<|.req (0<=(0:Int)/\(0:Int)<a)<|.br (an<|(Jn w (0:Int))>122) (.ok X)<|.req (SP.q (⟨w,X,1⟩:Lt))<|.br (Bs (aRJ (⟨w,X,1⟩:Lt))<|.ret) (.ok (dj (⟨w,X,1⟩:Lt)).r)<|.ok U) ?_;obtain rfl:=h
  have bad:¬(((1<=w.size/\w.size<=12)/\(97<=Jn w 0/\Jn w 0<=122)))->LV.v (.bool X)=LV.v (.bool<|gwB w):=λhn=>B0 (λz=>LV.v<|.bool z) (by
   rw [Sh,I6];intro h;simp only [gwB,chA,AY,Ac] at h;exact hn ⟨h.1,A0,A0⟩)
  refine ⟨λc=>bad VL,λc=>⟨λc2=>bad A8,λc2=>⟨VL,λc3=>bad lK,λc3=>⟨VL,λc4=>bad yU,λc4=>?_⟩⟩⟩⟩
  simp only [Cy] at c c2 c3 c4
  have hE:mX ⟨w,X,1⟩:=⟨rfl,AZ,AZ,ak⟩
  have key:gwB w=(au w.size).all λi=>i==0 ||chB (Jn w i):=by
   simp only [gwB,chA];rw [Cm A0,Cm A0,Cm A0];rfl
  obtain ⟨s',_,hq⟩:=azB _ hE;refine ⟨⟨hE,rfl,rfl⟩,?_⟩;rw [key];rcases hq with ⟨h1,h2⟩ |⟨h1,h2,j,h3,h4⟩
  ·rw [h1]
   refine ⟨λh=>Ao,λ_=>B0 (λz=>LV.v<|.bool z) ?_⟩
   rw [Sh,BP];intro i hi
   have:=h2 i (by show (i:Int)<(w.size:Int);have:=IZ.1 hi;omega)
   simp only [OG] at this;rw [show (dj ⟨w,X,1⟩).text=w from rfl] at this;rw [Ck] at this;rcases this with h|h
   ·have:i=0:=by simp at h;omega
    simp [this]
   ·rw [h];simp
  ·rw [h1,h2]
   refine ⟨λ_=>B0 (λz=>LV.v<|.bool z) ?_,λh=>Ao⟩
   rw [Sh,I6];intro hx;rw [BP] at hx
   have h3:(j:Int)<(w.size:Int):=h3
   have:=hx j<|IZ.2 A0
   simp only [OG] at h4;rw [show (dj ⟨w,X,1⟩).text=w from rfl] at h4;rw [GJ] at h4
   have h5:=h4.1
   simp at h5
   rw [h4.2] at this
   simp at this
   omega
 ·cases h)
def aFZ:List LV->T LV
 | [.v (.string w)]=> .ok (nameB w)
 |_=> .no
def amQ:List Bd:=[ap6,ap4]
def ap7:=vo (S:=aFZ) func139 amQ kN (λargs lv h=>by
 unfold aFZ at h;split at h
 ·rename_i w
  refine Aq (.ok<|.v<|.bool<|(gwB w)&&(!(aBV w))) ?_;exact h
 ·cases h)
def aIP:List LV->T LV
 | [.v (.string w)]=> .ok (nameB w)
 |_=> .no
def aBe:List Bd:=[ap7,aET,aFz,aFy]
def amM:Ay:=kI aBe<|l0 aBe
def auv:=vo (S:=aIP) func47 aBe amM (λargs lv h=>by
 unfold aIP at h;split at h
 ·rename_i w
  refine Aq (.br (((1:Int) !=1) ||((!(ByteArray.empty.toList==(av #[]).toList)) ||((0:Int) !=0))) (.ok X)<|.br (((2:Int) !=2) ||((an<|(3:Int)<1) ||((an<|(3:Int)>7) ||(!(nameB w))))) (.br (!X) (.ok X)<|.ok U)<|.br (!U) (.ok X)<|.ok U) ?_;obtain rfl:=h;refine ⟨λc=>?_,λ_=>?_⟩
  ·exfalso
   rw [Wr] at c
   revert c
   decide
  ·cases nameB w<;>simp [T.all]
 ·cases h)
def aFX:List LV->T LV
 | [.v (.agg ⟨[Y J a,Y J b]⟩),.v (Y J n)]=> .ok (inB n a b)
 |_=> .no
def aBd:List Bd:=[]
def pn:=vo (S:=aFX) func88 aBd kN (λargs lv h=>by
 unfold aFX at h;split at h
 ·rename_i a b n
  refine Aq (.ok<|.v<|.bool<|(an<|n>=a)&&(an<|n<=b)) ?_;exact h
 ·cases h)
def aIQ:List LV->T LV
 | [.v (.agg ⟨[Y J am,Y J mo,Y J ga,Y J lo,Y J de]⟩)]=> .ok (an<|mo>am)
 |_=> .no
def auw:=vo (S:=aIQ) func110 aBd kN (λargs lv h=>by
 unfold aIQ at h;split at h
 ·rename_i am mo ga lo de
  refine Aq (.ok<|an<|mo>am) ?_;exact h
 ·cases h)
def aIR:List LV->T LV
 | [.v (.agg ⟨[.string nm,Y J at_,Y J ph,Y J mi,Y J ma,Y J st,Y J fb,Y J ow]⟩)]=> .ok (.v<|.bool<|an (mi<=ma)&&((fb==0) ||inB fb mi ma))
 |_=> .no
def auy:=vo (S:=aIR) func111 aBd kN (λargs lv h=>by
 unfold aIR at h;split at h
 ·rename_i nm at_ ph mi ma st fb ow
  refine Aq (.ok<|.v<|.bool<|(an<|mi<=ma)&&((fb==0) ||((an<|fb>=mi)&&(an<|fb<=ma)))) ?_;exact h
 ·cases h)
def aHC:List LV->T LV
 | [.v (.agg ⟨[.string nm,Y J up_,Y J li,Y J ne,Y J ra,Y J he,Y J am,Y J mo,Y J ga,Y J lo,Y J de]⟩),.v (Y J i)]=> .req (0<=i) (.ok<|Hu i (nm,up_,li,ne,(ra,he),am,mo,ga,lo,de))
 |_=> .no
def amP:List Bd:=[pn,auw]
def au3:=vo (S:=aHC) func87 amP kN (λargs lv h=>by
 unfold aHC at h;split at h
 ·rename_i nm up_ li ne ra he am mo ga lo de i
  refine Aq (.br (if i==0 then (up_ !=(-1)) ||((an<|i>0)&&((an<|up_<0) ||(an<|up_>=i))) else (an<|i>0)&&((an<|up_<0) ||(an<|up_>=i))) (.ok X)<|.br ((!(inB li (1:Int) (1000:Int))) ||(!(inB ne (1:Int) (1000:Int)))) (.ok X)<|.br ((!((ra==0)&&(he==0)))&&(!(inB ra (1:Int) (1000:Int)) ||(!(inB he (0:Int) (1000000:Int))))) (.ok X)<|.br ((am==0)&&((mo==0)&&((ga==0)&&((lo==0)&&(de==0))))) (.ok U)<|.ok<|.v<|.bool<|(inB am (0:Int) (200000:Int))&&((inB mo (0:Int) (200000:Int))&&((inB ga (0:Int) (1000:Int))&&((inB lo (0:Int) (1000:Int))&&((inB de (1:Int) (1000000:Int))&&(an<|mo>am)))))) ?_
  obtain ⟨hi,h⟩:=h;exact agG (K:=λz=>LV.v (.bool z)=lv) hi h
 ·cases h)
def aHD:List LV->T LV
 | .agg a::r=>s5 a λcs os ks gs bs=>(match r with
  | [.v (.agg ⟨[.string nm,Y J at_,Y J ph,Y J mi,Y J ma,Y J st,Y J fb,Y J ow]⟩)]=> .req ((M cs:Int)<=1000/\(M os:Int)<=1000) (.ok<|GA (M cs) (M os) (nm,at_,ph,mi,ma,st,fb,ow))
  |_=> .no)
 |_=> .no
def akR:List Bd:=[pn,auy]
def au4:=vo (S:=aHD) func89 akR kN (λargs lv h=>by
 unfold aHD at h;split at h
 case h_2=>cases h
 replace h:=IE h
 obtain ⟨cs,os,ks,gs,bs,rfl,h⟩:=h;split at h
 ·rename_i nm at_ ph mi ma st fb ow
  refine Aq (.ok<|.v<|.bool<|(inB at_ (0:Int)<|AA<|(M cs:Int)-1)&&((inB ow (0:Int)<|AA<|(M os:Int)-1)&&((inB ph (1:Int) (7:Int))&&((inB mi (1:Int) (80:Int))&&((inB ma (1:Int) (80:Int))&&((inB st (1:Int) (80:Int))&&((inB fb (0:Int) (80:Int))&&(an (mi<=ma)&&((fb==0) ||inB fb mi ma))))))))) ?_;obtain ⟨⟨h1,h2⟩,rfl⟩:=h;refine B0 (λz=>LV.v<|.bool z) ?_
  rw [AJ (x:=(M cs:Int)-1),AJ (x:=(M os:Int)-1)];unfold GA chW;rw [Ia];simp only [AY,Ck,BV,Ac,Cz];omega
 ·cases h)
structure NQ where
 l:List Cd
 (n i:Int)
 BB:List Cd
 Bf:List ByteArray
 Bz:List Ko
 BN:List Ch
 C0:List Ba
 out:List ByteArray
def aEj:=bN f46 0
def vI (s:NQ):T (Rd NQ):=letI a:=Ag s.l s.i;.br (an<|s.i<s.n) (.ix s.i (M s.l)<|.rb (M s.out) (M<|[a.1]) 16<|.re (M s.out+M ([a.1])) (s.out++([a.1]))<|.nx {s with i:=AA<|s.i+1,out:=s.out++([a.1])})<|.rl s.out<|.so (.exit 0) s
def Yp (s:NQ):Prop:=s.i=0/\s.n=(M s.l:Int)/\s.n<=1000/\(M s.out:Int)<=10000
def Xr (s:NQ):Prop:=0<=s.i/\s.i<=s.n/\s.n=(M s.l:Int)/\s.n<=1000/\(M s.out:Int)<=10000+s.i
def sP (s:NQ):Nat:=(s.n-s.i).toNat
def aAU (x:Ex) (s s':NQ):Prop:=x=.exit 0/\s'.i=s'.n
def ajl:∀s,Yp s->Xr s:=by
 exact ZZ
theorem axj:Da Xr sP aAU vI:=by
 intro s hI;obtain ⟨h0,h1,h2,h3,h4⟩:=hI;refine AH (λc1=>?_) λc1=>?_
 ·have c1:s.i<s.n:=A8
  rw [AJ (x:=s.i+1)];exact ⟨⟨A8,A8,h2,h3,A8⟩,by simp only [sP];omega⟩
 ·exact Sf
def RI:AT NQ:=⟨0,80,[1,3,15,16,17],[.nl 3 9 .str],λs=>[.own 0 0,.os 1 1 0<|M s.out,s.l,s.n,s.i],λs=>[⟨[s.BB,s.Bf,s.Bz,s.BN,s.C0],28,.cl,X⟩,bV 9 .str s.out],λv b=>⟨B5 Ad v 2,AK v 3,AK v 4,AF Ad b 0 0,AF .str b 0 1,AF Ai b 0 2,AF Ae b 0 3,AF Aj b 0 4,Ab .str b 1⟩,vI,λs r=> {s with i:=r.i,out:=r.out},λs=>s,λ_ s=>s,[.exit 0],Yp,Xr,sP⟩
abbrev Vc:=RI.run
abbrev arB:=RI.Av
def awP:Rq Xr vI:=by
 exact Ze
def UF:List Bd:=[]
def rk:RI.Ok:={}
def rK:RI.Pf (aAU):=⟨ajl,λs h=>rfl,axj,awP⟩
def aq0:SA 0 aEj RI:=s1 rk rK UF kN
def aqb:Fi Yp Xr aAU arB Vc:=AT.fin rk rK
theorem aqa (s:NQ) (hE:Yp s):(Vc s).out=s.out++s.l.map (·.1):=by
 have hk:=AT.KL rk rK (λs=>s.out++(s.l.drop s.i.toNat).map (·.1)) (λs hI=>by
  obtain ⟨h0,h1,h2,h3,h4⟩:=hI;refine AH (λc1=>?_) λc1=>?_
  ·have c1:s.i<s.n:=A8
   rw [AJ (x:=s.i+1)]
   show _++_=_++_
   rw [(anb h0 (show s.i<M s.l by omega)).1]
   simp
  ·rfl) s hE
 obtain ⟨s',hI,q1,q2⟩:=aqb s hE
 have q3:=q2
 have hn:(Vc s).n=(M s.l:Int):=hE.2.1
 have hl:(Vc s).l=s.l:=rfl
 exact Zi
structure NP where
 l:List ByteArray
 (n i:Int)
 BB:List Cd
 Bf:List ByteArray
 Bz:List Ko
 BN:List Ch
 C0:List Ba
 out:List ByteArray
def aEi:=bN f46 1
def vH (s:NP):T (Rd NP):=letI a:=gS s.l s.i;.br (an<|s.i<s.n) (.ix s.i (M s.l)<|.rb (M s.out) (M<|[a]) 16<|.re (M s.out+M ([a])) (s.out++([a]))<|.nx {s with i:=AA<|s.i+1,out:=s.out++([a])})<|.rl s.out<|.so (.exit 2) s
def Yo (s:NP):Prop:=s.i=0/\s.n=(M s.l:Int)/\s.n<=1000/\(M s.out:Int)<=10000
def Xq (s:NP):Prop:=0<=s.i/\s.i<=s.n/\s.n=(M s.l:Int)/\s.n<=1000/\(M s.out:Int)<=10000+s.i
def th (s:NP):Nat:=(s.n-s.i).toNat
def aAT (x:Ex) (s s':NP):Prop:=x=.exit 2/\s'.i=s'.n
def ajk:∀s,Yo s->Xq s:=by
 exact ZZ
theorem axi:Da Xq th aAT vH:=by
 intro s hI;obtain ⟨h0,h1,h2,h3,h4⟩:=hI;refine AH (λc1=>?_) λc1=>?_
 ·have c1:s.i<s.n:=A8
  rw [AJ (x:=s.i+1)];exact ⟨⟨A8,A8,h2,h3,A8⟩,by simp only [th];omega⟩
 ·exact Sf
def RH:AT NP:=⟨0,80,[1,3,28,29,30],[],λs=>[.own 0 0,.os 1 1 0<|M s.out,s.l,s.n,s.i],λs=>[⟨[s.BB,s.Bf,s.Bz,s.BN,s.C0],28,.cl,X⟩,bV 9 .str s.out],λv b=>⟨B5 .str v 2,AK v 3,AK v 4,AF Ad b 0 0,AF .str b 0 1,AF Ai b 0 2,AF Ae b 0 3,AF Aj b 0 4,Ab .str b 1⟩,vH,λs r=> {s with i:=r.i,out:=r.out},λs=>s,λ_ s=>s,[.exit 2],Yo,Xq,th⟩
abbrev Vf:=RH.run
abbrev arA:=RH.Av
def awO:Rq Xq vH:=by
 exact Ze
def rj:RH.Ok:={}
def rJ:RH.Pf (aAT):=⟨ajk,λs h=>rfl,axi,awO⟩
def aoY:SA 0 aEi RH:=s1 rj rJ UF kN
def aqZ:Fi Yo Xq aAT arA Vf:=AT.fin rj rJ
theorem aqY (s:NP) (hE:Yo s):(Vf s).out=s.out++s.l:=by
 have hk:=AT.KL rj rJ (λs=>s.out++(s.l.drop s.i.toNat)) (λs hI=>by
  obtain ⟨h0,h1,h2,h3,h4⟩:=hI;refine AH (λc1=>?_) λc1=>?_
  ·have c1:s.i<s.n:=A8
   rw [AJ (x:=s.i+1)]
   show _++_=_++_
   rw [(aGe h0 (show s.i<M s.l by omega)).1]
   simp
  ·rfl) s hE
 obtain ⟨s',hI,q1,q2⟩:=aqZ s hE
 have q3:=q2
 have hn:(Vf s).n=(M s.l:Int):=hE.2.1
 have hl:(Vf s).l=s.l:=rfl
 exact Zi
structure NW where
 l:List Ko
 (n i:Int)
 BB:List Cd
 Bf:List ByteArray
 Bz:List Ko
 BN:List Ch
 C0:List Ba
 out:List ByteArray
def aEh:=bN f46 2
def vG (s:NW):T (Rd NW):=letI a:=OH s.l s.i;.br (an<|s.i<s.n) (.ix s.i (M s.l)<|.rb (M s.out) (M<|[a.1]) 16<|.re (M s.out+M ([a.1])) (s.out++([a.1]))<|.nx {s with i:=AA<|s.i+1,out:=s.out++([a.1])})<|.rl s.out<|.so (.exit 4) s
def Yn (s:NW):Prop:=s.i=0/\s.n=(M s.l:Int)/\s.n<=1000/\(M s.out:Int)<=10000
def Xp (s:NW):Prop:=0<=s.i/\s.i<=s.n/\s.n=(M s.l:Int)/\s.n<=1000/\(M s.out:Int)<=10000+s.i
def td (s:NW):Nat:=(s.n-s.i).toNat
def aAS (x:Ex) (s s':NW):Prop:=x=.exit 4/\s'.i=s'.n
def ajj:∀s,Yn s->Xp s:=by
 exact ZZ
theorem axh:Da Xp td aAS vG:=by
 intro s hI;obtain ⟨h0,h1,h2,h3,h4⟩:=hI;refine AH (λc1=>?_) λc1=>?_
 ·have c1:s.i<s.n:=A8
  rw [AJ (x:=s.i+1)];exact ⟨⟨A8,A8,h2,h3,A8⟩,by simp only [td];omega⟩
 ·exact Sf
def RG:AT NW:=⟨0,80,[1,3,41,42,43],[],λs=>[.own 0 0,.os 1 1 0<|M s.out,s.l,s.n,s.i],λs=>[⟨[s.BB,s.Bf,s.Bz,s.BN,s.C0],28,.cl,X⟩,bV 9 .str s.out],λv b=>⟨B5 Ai v 2,AK v 3,AK v 4,AF Ad b 0 0,AF .str b 0 1,AF Ai b 0 2,AF Ae b 0 3,AF Aj b 0 4,Ab .str b 1⟩,vG,λs r=> {s with i:=r.i,out:=r.out},λs=>s,λ_ s=>s,[.exit 4],Yn,Xp,td⟩
abbrev Vh:=RG.run
abbrev ar9:=RG.Av
def awN:Rq Xp vG:=by
 exact Ze
def rh:RG.Ok:={}
def rI:RG.Pf (aAS):=⟨ajj,λs h=>rfl,axh,awN⟩
def aoX:SA 0 aEh RG:=s1 rh rI UF kN
def aqX:Fi Yn Xp aAS ar9 Vh:=AT.fin rh rI
theorem aqW (s:NW) (hE:Yn s):(Vh s).out=s.out++s.l.map (·.1):=by
 have hk:=AT.KL rh rI (λs=>s.out++(s.l.drop s.i.toNat).map (·.1)) (λs hI=>by
  obtain ⟨h0,h1,h2,h3,h4⟩:=hI;refine AH (λc1=>?_) λc1=>?_
  ·have c1:s.i<s.n:=A8
   rw [AJ (x:=s.i+1)]
   show _++_=_++_
   rw [(aFB h0 (show s.i<M s.l by omega)).1]
   simp
  ·rfl) s hE
 obtain ⟨s',hI,q1,q2⟩:=aqX s hE
 have q3:=q2
 have hn:(Vh s).n=(M s.l:Int):=hE.2.1
 have hl:(Vh s).l=s.l:=rfl
 exact Zi
structure NX where
 l:List Ch
 (n i:Int)
 BB:List Cd
 Bf:List ByteArray
 Bz:List Ko
 BN:List Ch
 C0:List Ba
 out:List ByteArray
def aEg:=bN f46 3
def wK (s:NX):T (Rd NX):=letI a:=AG s.l s.i;.br (an<|s.i<s.n) (.ix s.i (M s.l)<|.rb (M s.out) (M<|[a.1]) 16<|.re (M s.out+M ([a.1])) (s.out++([a.1]))<|.nx {s with i:=AA<|s.i+1,out:=s.out++([a.1])})<|.rl s.out<|.so (.exit 6) s
def Ym (s:NX):Prop:=s.i=0/\s.n=(M s.l:Int)/\s.n<=1000/\(M s.out:Int)<=10000
def Xo (s:NX):Prop:=0<=s.i/\s.i<=s.n/\s.n=(M s.l:Int)/\s.n<=1000/\(M s.out:Int)<=10000+s.i
def tc (s:NX):Nat:=(s.n-s.i).toNat
def aAR (x:Ex) (s s':NX):Prop:=x=.exit 6/\s'.i=s'.n
def aji:∀s,Ym s->Xo s:=by
 exact ZZ
theorem axg:Da Xo tc aAR wK:=by
 intro s hI;obtain ⟨h0,h1,h2,h3,h4⟩:=hI;refine AH (λc1=>?_) λc1=>?_
 ·have c1:s.i<s.n:=A8
  rw [AJ (x:=s.i+1)];exact ⟨⟨A8,A8,h2,h3,A8⟩,by simp only [tc];omega⟩
 ·exact Sf
def RE:AT NX:=⟨0,80,[1,3,54,55,56],[],λs=>[.own 0 0,.os 1 1 0<|M s.out,s.l,s.n,s.i],λs=>[⟨[s.BB,s.Bf,s.Bz,s.BN,s.C0],28,.cl,X⟩,bV 9 .str s.out],λv b=>⟨B5 Ae v 2,AK v 3,AK v 4,AF Ad b 0 0,AF .str b 0 1,AF Ai b 0 2,AF Ae b 0 3,AF Aj b 0 4,Ab .str b 1⟩,wK,λs r=> {s with i:=r.i,out:=r.out},λs=>s,λ_ s=>s,[.exit 6],Ym,Xo,tc⟩
abbrev Vo:=RE.run
abbrev arp:=RE.Av
def axB:Rq Xo wK:=by
 exact Ze
def rZ:RE.Ok:={}
def rH:RE.Pf (aAR):=⟨aji,λs h=>rfl,axg,axB⟩
def aoW:SA 0 aEg RE:=s1 rZ rH UF kN
def aqV:Fi Ym Xo aAR arp Vo:=AT.fin rZ rH
theorem aqU (s:NX) (hE:Ym s):(Vo s).out=s.out++s.l.map (·.1):=by
 have hk:=AT.KL rZ rH (λs=>s.out++(s.l.drop s.i.toNat).map (·.1)) (λs hI=>by
  obtain ⟨h0,h1,h2,h3,h4⟩:=hI;refine AH (λc1=>?_) λc1=>?_
  ·have c1:s.i<s.n:=A8
   rw [AJ (x:=s.i+1)]
   show _++_=_++_
   rw [(ana h0 (show s.i<M s.l by omega)).1]
   simp
  ·rfl) s hE
 obtain ⟨s',hI,q1,q2⟩:=aqV s hE
 have q3:=q2
 have hn:(Vo s).n=(M s.l:Int):=hE.2.1
 have hl:(Vo s).l=s.l:=rfl
 exact Zi
structure Nh where
 l:List Ba
 (n i:Int)
 out:List ByteArray
def aEf:=bN f46 4
def wJ (s:Nh):T (Rd Nh):=letI a:=OO s.l s.i;.br (an<|s.i<s.n) (.ix s.i (M s.l)<|.rb (M s.out) (M<|[a.1]) 16<|.re (M s.out+M ([a.1])) (s.out++([a.1]))<|.nx {s with i:=AA<|s.i+1,out:=s.out++([a.1])})<|.rl s.out<|.so (.exit 8) s
def Yl (s:Nh):Prop:=s.i=0/\s.n=(M s.l:Int)/\s.n<=1000/\(M s.out:Int)<=10000
def Xn (s:Nh):Prop:=0<=s.i/\s.i<=s.n/\s.n=(M s.l:Int)/\s.n<=1000/\(M s.out:Int)<=10000+s.i
def ta (s:Nh):Nat:=(s.n-s.i).toNat
def aAQ (x:Ex) (s s':Nh):Prop:=x=.exit 8/\s'.i=s'.n
def ajh:∀s,Yl s->Xn s:=by
 exact ZZ
theorem axf:Da Xn ta aAQ wJ:=by
 intro s hI;obtain ⟨h0,h1,h2,h3,h4⟩:=hI;refine AH (λc1=>?_) λc1=>?_
 ·have c1:s.i<s.n:=A8
  rw [AJ (x:=s.i+1)];exact ⟨⟨A8,A8,h2,h3,A8⟩,by simp only [ta];omega⟩
 ·exact Sf
def RC:AT Nh:=⟨0,80,[3,67,68,69],[],λs=>[.os 0 1 0<|M s.out,s.l,s.n,s.i],λs=>[bV 9 .str s.out],λv b=>⟨B5 Aj v 1,AK v 2,AK v 3,Ab .str b 0⟩,wJ,λs r=> {r with l:=s.l,n:=s.n},λs=>s,λ_ s=>s,[.exit 8],Yl,Xn,ta⟩
abbrev W1:=RC.run
abbrev aro:=RC.Av
def ax9:Rq Xn wJ:=by
 exact Ze
def rY:RC.Ok:={}
def rD:RC.Pf (aAQ):=⟨ajh,λs h=>rfl,axf,ax9⟩
def aoV:SA 0 aEf RC:=s1 rY rD UF kN
def ar8:Fi Yl Xn aAQ aro W1:=AT.fin rY rD
theorem ar7 (s:Nh) (hE:Yl s):(W1 s).out=s.out++s.l.map (·.1):=by
 have hk:=AT.KL rY rD (λs=>s.out++(s.l.drop s.i.toNat).map (·.1)) (λs hI=>by
  obtain ⟨h0,h1,h2,h3,h4⟩:=hI;refine AH (λc1=>?_) λc1=>?_
  ·have c1:s.i<s.n:=A8
   rw [AJ (x:=s.i+1)]
   show _++_=_++_
   rw [(ane h0 (show s.i<M s.l by omega)).1]
   simp
  ·rfl) s hE
 obtain ⟨s',hI,q1,q2⟩:=ar8 s hE
 have q3:=q2
 have hn:(W1 s).n=(M s.l:Int):=hE.2.1
 have hl:(W1 s).l=s.l:=rfl
 exact Zi
def aJJ:List LV->T LV
 | .agg a::r=>s5 a λcs os ks gs bs=>(match r with
  | []=> .req ((M cs:Int)<=1000/\(M os:Int)<=1000/\(M ks:Int)<=1000/\(M gs:Int)<=1000/\(M bs:Int)<=1000) (.ok<|.xl .str<|LI cs os ks gs bs)
  |_=> .no)
 |_=> .no
def auq:=vm (S:=aJJ) func46 UF kN (L:=(λi=>if i=3 then RI.lp else if i=8 then RH.lp else if i=13 then RG.lp else if i=18 then RE.lp else if i=23 then RC.lp else Al i)) (λb hb=>by
 rw [show BD _=[aEj,aEi,aEh,aEg,aEf] by kernel_rfl] at hb
 simp only [B7,Bt,Bu] at hb;rcases hb with rfl|rfl|rfl|rfl|rfl
 ·exact aq0
 ·exact aoY
 ·exact aoX
 ·exact aoW
 ·exact aoV) (λargs lv h=>by
 unfold aJJ at h;split at h
 case h_2=>cases h
 replace h:=IE h
 obtain ⟨cs,os,ks,gs,bs,rfl,h⟩:=h;split at h
 ·refine Aq (letI b:=(Vc (⟨cs,(M cs:Int),0,cs,os,ks,gs,bs,([]:List ByteArray)⟩:NQ));letI d:=(Vf (⟨os,(M os:Int),0,cs,os,ks,gs,bs,b.out⟩:NP));letI a:=(Vh (⟨ks,(M ks:Int),0,cs,os,ks,gs,bs,d.out⟩:NW));letI c:=(Vo (⟨gs,(M gs:Int),0,cs,os,ks,gs,bs,a.out⟩:NX));letI e:=(W1 (⟨bs,(M bs:Int),0,c.out⟩:Nh));.r0 ByteArray<|.req (RI.q (⟨cs,(M cs:Int),0,cs,os,ks,gs,bs,([]:List ByteArray)⟩:NQ))<|.rl b.out<|.req (RH.q (⟨os,(M os:Int),0,cs,os,ks,gs,bs,b.out⟩:NP))<|.rl d.out<|.req (RG.q (⟨ks,(M ks:Int),0,cs,os,ks,gs,bs,d.out⟩:NW))<|.rl a.out<|.req (RE.q (⟨gs,(M gs:Int),0,cs,os,ks,gs,bs,a.out⟩:NX))<|.rl c.out<|.req (RC.q (⟨bs,(M bs:Int),0,c.out⟩:Nh))<|.rz e.out<|.ok<|.xl .str<|(e.out.drop 0).take<|M e.out) ?_
  obtain ⟨⟨hc,ho,hk,hg,hb⟩,rfl⟩:=h
  have hE0:Yp ⟨cs,(M cs:Int),0,cs,os,ks,gs,bs,([]:List ByteArray)⟩:=⟨rfl,rfl,hc,by simp only;decide⟩
  have o0:=aqa _ hE0
  refine ⟨A9,⟨hE0,rfl,rfl⟩,?_⟩;generalize (Vc ⟨cs,(M cs:Int),0,cs,os,ks,gs,bs,([]:List ByteArray)⟩).out=r0 at*
  have o0:r0=([]:List ByteArray)++cs.map (·.1):=o0
  have l0:(M r0:Int)<=1000:=by rw [o0];simp only [BF,G0,Bp];omega
  have hE1:Yo ⟨os,(M os:Int),0,cs,os,ks,gs,bs,r0⟩:=⟨rfl,rfl,ho,AZ⟩
  have o1:=aqY _ hE1
  refine ⟨A9,⟨hE1,rfl,rfl⟩,?_⟩;generalize (Vf ⟨os,(M os:Int),0,cs,os,ks,gs,bs,r0⟩).out=r1 at*
  have o1:r1=r0++os:=o1
  have l1:(M r1:Int)<=2000:=by rw [o1];simp only [BF,G0,Bp];omega
  have hE2:Yn ⟨ks,(M ks:Int),0,cs,os,ks,gs,bs,r1⟩:=⟨rfl,rfl,hk,AZ⟩
  have o2:=aqW _ hE2
  refine ⟨A9,⟨hE2,rfl,rfl⟩,?_⟩;generalize (Vh ⟨ks,(M ks:Int),0,cs,os,ks,gs,bs,r1⟩).out=r2 at*
  have o2:r2=r1++ks.map (·.1):=o2
  have l2:(M r2:Int)<=3000:=A8
  have hE3:Ym ⟨gs,(M gs:Int),0,cs,os,ks,gs,bs,r2⟩:=⟨rfl,rfl,hg,AZ⟩
  have o3:=aqU _ hE3
  refine ⟨A9,⟨hE3,rfl,rfl⟩,?_⟩;generalize (Vo ⟨gs,(M gs:Int),0,cs,os,ks,gs,bs,r2⟩).out=r3 at*
  have o3:r3=r2++gs.map (·.1):=o3
  have l3:(M r3:Int)<=4000:=A8
  have hE4:Yl ⟨bs,(M bs:Int),0,r3⟩:=⟨rfl,rfl,hb,AZ⟩
  have o4:=ar7 _ hE4
  refine ⟨A9,⟨hE4,rfl,rfl⟩,?_⟩;generalize (W1 ⟨bs,(M bs:Int),0,r3⟩).out=r4 at*
  have o4:r4=r3++bs.map (·.1):=o4
  refine ⟨A0,?_⟩
  show LV.xl _ _=_
  rw [CP,DR A0,o4,o3,o2,o1,o0,EB];rfl
 ·cases h)
structure MT where
 r:Bool
 l:List Cd
 (n i:Int)
 BB:List Cd
 Bf:List ByteArray
 Bz:List Ko
 BN:List Ch
 C0:List Ba
def aEr:=bN f48 0
def vi (s:MT):T (Rd MT):=
 .br (an<|s.i<s.n) (.ix s.i (M s.l)<|.req (0<=s.i)<|.br (!(Hu s.i<|Ag s.l s.i)) (.so (.ret) {s with r:=X})<|.nx {s with i:=AA<|s.i+1}) (.so (.exit 0) s)
def Tf (s:MT) (j:Int):Bool:=Hu j<|Ag s.l j
def aB4 (s:MT):Prop:=s.i=0/\0<=s.n/\s.n<=1000/\s.n=(M s.l:Int)
def YK (s:MT):Prop:=0<=s.i/\s.i<=s.n/\s.n<=1000/\(s.n=(M s.l:Int))/\∀j:Nat,(j:Int)<s.i->Tf s j=U
def rC (s:MT):Nat:=(s.n-s.i).toNat
def aA2 (x:Ex) (s s':MT):Prop:=(x=.exit 0/\∀j:Nat,(j:Int)<s'.n->Tf s' j=U)\/(x=.ret/\s'.r=X/\∃j:Nat,(j:Int)<s'.n/\Tf s' j=X)
def aiY:∀s,aB4 s->YK s:=by
 exact L3
theorem auG:Da YK rC aA2 vi:=by
 intro s hI;obtain ⟨h0,h1,h2,h3,h4⟩:=hI;refine AH (λc1=>AH (λc2=>?_) λc2=>?_) λc1=>?_
 ·have c1:s.i<s.n:=AX
  refine .inr ⟨rfl,rfl,s.i.toNat,A8,?_⟩;rw [CM A0]
  have hg:Tf s s.i=false:=aMG
  exact hg
 ·have c1:s.i<s.n:=AX
  have hg:Tf s s.i=true:=aMG
  rw [AJ (x:=s.i+1)];refine ⟨⟨A8,A8,h2,h3,λj hj=>?_⟩,by simp only [rC];omega⟩
  exact L2
 ·exact Sg
def Rr:AT MT:=⟨0,95,[1,2,13,14,15],[],λs=>[.own 0 0,s.r,s.l,s.n,s.i],λs=>[⟨[s.BB,s.Bf,s.Bz,s.BN,s.C0],28,.cl,X⟩],λv b=>⟨Ec v 1,B5 Ad v 2,AK v 3,AK v 4,AF Ad b 0 0,AF .str b 0 1,AF Ai b 0 2,AF Ae b 0 3,AF Aj b 0 4⟩,vi,λs r=> {s with r:=r.r,i:=r.i},λs=>s,λ_ s=>s,[.ret,.exit 0],aB4,YK,rC⟩
abbrev acw:=Rr.run
abbrev aI0:=Rr.Av
def avI:Rq YK vi:=by
 exact aL0
def XS:List Bd:=[au3,pn,au4]
def aPd:Rr.Ok:={}
def aP6:Rr.Pf (aA2):=⟨aiY,λs h=>rfl,auG,avI⟩
def aoi:SA 0 aEr Rr:=s1 aPd aP6 XS kN
def ap0:Fi aB4 YK aA2 aI0 acw:=AT.fin aPd aP6
structure MY where
 r:Bool
 l:List Ko
 (n i:Int)
 BB:List Cd
 Bf:List ByteArray
 Bz:List Ko
 BN:List Ch
 C0:List Ba
 cards:List Int
def aEp:=bN f48 1
def fq (s:MY):T (Rd MY):=letI a:=OH s.l s.i;.br (an<|s.i<s.n) (.ix s.i (M s.l)<|.br ((!(inB a.2.1 (0:Int)<|AA<|(M s.Bf:Int)-1)) ||((!(inB a.2.2.1 (1:Int) (9:Int))) ||((!(inB a.2.2.2 (1:Int) (1000000:Int))) ||(List.contains s.cards a.2.2.2)))) (.so (.ret) {s with r:=X})<|.req (List.contains s.cards a.2.2.2=X)<|.nx {s with i:=AA<|s.i+1,cards:=s.cards++[a.2.2.2]})<|.so (.exit 2) s
def Te (s:MY) (j:Int):Bool:=koV (M s.Bf) (OH s.l j)&&!(((s.l.take j.toNat).map (·.2.2.2)).contains (OH s.l j).2.2.2)
def aB3 (s:MY):Prop:=s.i=0/\s.cards=[]/\s.n=(M s.l:Int)/\s.n<=1000/\(M s.Bf:Int)<=1000
def YJ (s:MY):Prop:=0<=s.i/\s.i<=s.n/\s.n=(M s.l:Int)/\s.n<=1000/\((M s.Bf:Int)<=1000)/\s.cards=(s.l.take s.i.toNat).map (·.2.2.2)/\∀j:Nat,(j:Int)<s.i->Te s j=U
def rA (s:MY):Nat:=(s.n-s.i).toNat
def aA1 (x:Ex) (s s':MY):Prop:=(x=.exit 2/\∀j:Nat,(j:Int)<s'.n->Te s' j=U)\/(x=.ret/\s'.r=X/\∃j:Nat,(j:Int)<s'.n/\Te s' j=X)
def aiX:∀s,aB3 s->YJ s:=by
 exact aLv
def auE:Da YJ rA aA1 fq:=by
 intro s hI;unfold fq;obtain ⟨h0,h1,h2,h3,h4,h5,h6⟩:=hI;refine AH (λc1=>AH (λc2=>?_) λc2=>?_) λc1=>?_
 ·have c1:s.i<s.n:=AX
  refine .inr ⟨rfl,rfl,s.i.toNat,AZ,?_⟩;rw [CM h0]
  have hg:Te s s.i=false:=by
   exact aKd
  exact hg
 ·have c1:s.i<s.n:=AX
  have hg:Te s s.i=true:=by
   exact aKd
  rw [AJ (x:=s.i+1)];refine ⟨⟨AZ,AZ,h2,h3,h4,?_,λj hj=>?_⟩,by simp only [rA];omega⟩
  ·simp only
   rw [(aFB h0 (show s.i<M s.l by omega)).2,h5]
   try rw [Jx]
   try rfl
  ·exact aKp
 ·exact aM9
def Rp:AT MY:=⟨0,95,[1,2,5,27,28,29],[],λs=>[.own 0 0,s.r,.om 1,s.l,s.n,s.i],λs=>[⟨[s.BB,s.Bf,s.Bz,s.BN,s.C0],28,.cl,X⟩,⟨[],188,.st A7 s.cards,X⟩],λv b=>⟨Ec v 1,B5 Ai v 3,AK v 4,AK v 5,AF Ad b 0 0,AF .str b 0 1,AF Ai b 0 2,AF Ae b 0 3,AF Aj b 0 4,gSe A7<|CS b 1⟩,fq,λs r=> {s with r:=r.r,i:=r.i,cards:=r.cards},λs=>s,λ_ s=>s,[.ret,.exit 2],aB3,YJ,rA⟩
abbrev acy:=Rp.run
abbrev aHz:=Rp.Av
def avH:Rq YJ fq:=by
 intro s hI;refine ⟨λc1=>⟨?_,λ_=>trivial,λc2=>⟨?_,ak⟩⟩,λ_=>trivial⟩
 all_goals ((obtain ⟨h0,h1,h2,h3,h4,h5,h6⟩:=hI;first|(simp at c1;omega) |(simp only [GJ] at c2;exact c2.2.2.2)))
def aPc:Rp.Ok:={}
def aP5:Rp.Pf (aA1):=⟨aiX,λs h=>rfl,auE,avH⟩
def aoh:SA 0 aEp Rp:=s1 aPc aP5 XS kN
def aoN:Fi aB3 YJ aA1 aHz acy:=AT.fin aPc aP5
structure MZ where
 r:Bool
 l:List Ch
 (n i:Int)
 BB:List Cd
 Bf:List ByteArray
 Bz:List Ko
 BN:List Ch
 C0:List Ba
def aEo:=bN f48 2
def vh (s:MZ):T (Rd MZ):=
 .br (an<|s.i<s.n) (.ix s.i (M s.l)<|.req ((M s.BB:Int)<=1000/\(M s.Bf:Int)<=1000)<|.br (!(GA (M s.BB) (M s.Bf)<|AG s.l s.i)) (.so (.ret) {s with r:=X})<|.nx {s with i:=AA<|s.i+1}) (.so (.exit 4) s)
def Td (s:MZ) (j:Int):Bool:=GA (M s.BB) (M s.Bf)<|AG s.l j
def aB2 (s:MZ):Prop:=s.i=0/\0<=s.n/\s.n<=1000/\s.n=(M s.l:Int)/\(M s.BB:Int)<=1000/\(M s.Bf:Int)<=1000
def YI (s:MZ):Prop:=0<=s.i/\s.i<=s.n/\s.n<=1000/\(s.n=(M s.l:Int)/\(M s.BB:Int)<=1000/\(M s.Bf:Int)<=1000)/\∀j:Nat,(j:Int)<s.i->Td s j=U
def qz (s:MZ):Nat:=(s.n-s.i).toNat
def aAD (x:Ex) (s s':MZ):Prop:=(x=.exit 4/\∀j:Nat,(j:Int)<s'.n->Td s' j=U)\/(x=.ret/\s'.r=X/\∃j:Nat,(j:Int)<s'.n/\Td s' j=X)
def aiW:∀s,aB2 s->YI s:=by
 exact L3
theorem auD:Da YI qz aAD vh:=by
 intro s hI;obtain ⟨h0,h1,h2,h3,h4⟩:=hI;refine AH (λc1=>AH (λc2=>?_) λc2=>?_) λc1=>?_
 ·have c1:s.i<s.n:=AX
  refine .inr ⟨rfl,rfl,s.i.toNat,AZ,?_⟩
  have hg:Td s s.i=false:=aMF
  exact hg
 ·have c1:s.i<s.n:=AX
  have hg:Td s s.i=true:=aMF
  rw [AJ (x:=s.i+1)];refine ⟨⟨A8,A8,h2,h3,λj hj=>?_⟩,by simp only [qz];omega⟩
  exact L2
 ·exact Sg
def Ro:AT MZ:=⟨0,95,[1,2,67,68,69],[],λs=>[.own 0 0,s.r,s.l,s.n,s.i],λs=>[⟨[s.BB,s.Bf,s.Bz,s.BN,s.C0],28,.cl,X⟩],λv b=>⟨Ec v 1,B5 Ae v 2,AK v 3,AK v 4,AF Ad b 0 0,AF .str b 0 1,AF Ai b 0 2,AF Ae b 0 3,AF Aj b 0 4⟩,vh,λs r=> {s with r:=r.r,i:=r.i},λs=>s,λ_ s=>s,[.ret,.exit 4],aB2,YI,qz⟩
abbrev adL:=Ro.run
abbrev aHy:=Ro.Av
def avG:Rq YI vh:=by
 intro s hI;refine ⟨λc1=>⟨?_,?_,λ_=>trivial,λ_=>trivial⟩,λ_=>trivial⟩
 all_goals ((obtain ⟨h0,h1,h2,h3,h4⟩:=hI;simp at c1;first|omega|exact h3.2))
def aPb:Ro.Ok:={}
def aP4:Ro.Pf (aAD):=⟨aiW,λs h=>rfl,auD,avG⟩
def aog:SA 0 aEo Ro:=s1 aPb aP4 XS kN
def aoM:Fi aB2 YI aAD aHy adL:=AT.fin aPb aP4
structure Mm where
 r:Bool
 l:List Ba
 (n i:Int)
 BB:List Cd
 Bf:List ByteArray
 Bz:List Ko
 BN:List Ch
 C0:List Ba
def aEn:=bN f48 3
def vg (s:Mm):T (Rd Mm):=
 .br (an<|s.i<s.n) (.ix s.i (M s.l)<|.br (!(inB (OO s.l s.i).2 (0:Int)<|AA<|(M s.BN:Int)-1)) (.so (.ret) {s with r:=X})<|.nx {s with i:=AA<|s.i+1}) (.so (.exit 6) s)
def Tb (s:Mm) (j:Int):Bool:=inB (OO s.l j).2 0<|AA<|(M s.BN:Int)-1
def aB1 (s:Mm):Prop:=s.i=0/\0<=s.n/\s.n<=1000/\s.n=(M s.l:Int)
def YH (s:Mm):Prop:=0<=s.i/\s.i<=s.n/\s.n<=1000/\(s.n=(M s.l:Int))/\∀j:Nat,(j:Int)<s.i->Tb s j=U
def qy (s:Mm):Nat:=(s.n-s.i).toNat
def aAC (x:Ex) (s s':Mm):Prop:=(x=.exit 6/\∀j:Nat,(j:Int)<s'.n->Tb s' j=U)\/(x=.ret/\s'.r=X/\∃j:Nat,(j:Int)<s'.n/\Tb s' j=X)
def aiV:∀s,aB1 s->YH s:=by
 exact L3
theorem auC:Da YH qy aAC vg:=by
 intro s hI;obtain ⟨h0,h1,h2,h3,h4⟩:=hI;refine AH (λc1=>AH (λc2=>?_) λc2=>?_) λc1=>?_
 ·have c1:s.i<s.n:=AX
  refine .inr ⟨rfl,rfl,s.i.toNat,A8,?_⟩
  have hg:Tb s s.i=false:=aME
  exact hg
 ·have c1:s.i<s.n:=AX
  have hg:Tb s s.i=true:=aME
  rw [AJ (x:=s.i+1)];refine ⟨⟨A8,A8,h2,h3,λj hj=>?_⟩,by simp only [qy];omega⟩
  exact L2
 ·exact Sg
def Rm:AT Mm:=⟨0,95,[1,2,79,80,81],[],λs=>[.own 0 0,s.r,s.l,s.n,s.i],λs=>[⟨[s.BB,s.Bf,s.Bz,s.BN,s.C0],28,.cl,X⟩],λv b=>⟨Ec v 1,B5 Aj v 2,AK v 3,AK v 4,AF Ad b 0 0,AF .str b 0 1,AF Ai b 0 2,AF Ae b 0 3,AF Aj b 0 4⟩,vg,λs r=> {s with r:=r.r,i:=r.i},λs=>s,λ_ s=>s,[.ret,.exit 6],aB1,YH,qy⟩
abbrev aG1:=Rm.run
abbrev aHx:=Rm.Av
def avF:Rq YH vg:=by
 exact Sj
def aPa:Rm.Ok:={}
def aP3:Rm.Pf (aAC):=⟨aiV,λs h=>rfl,auC,avF⟩
def aof:SA 0 aEn Rm:=s1 aPa aP3 XS kN
def aoL:Fi aB1 YH aAC aHx aG1:=AT.fin aPa aP3
def aHB:List LV->T LV
 | .agg a::r=>s5 a λcs os ks gs bs=>(match r with
  | []=> .req ((M cs:Int)<=1000/\(M os:Int)<=1000/\(M ks:Int)<=1000/\(M gs:Int)<=1000/\(M bs:Int)<=1000) (.ok<|M6 cs os ks gs bs)
  |_=> .no)
 |_=> .no
def auM:=vm (S:=aHB) func48 XS kN (L:=(λi=>if i=2 then Rr.lp else if i=9 then Rp.lp else if i=16 then Ro.lp else if i=22 then Rm.lp else Al i)) (λb hb=>by
 rw [show BD _=[aEr,aEp,aEo,aEn] by kernel_rfl] at hb
 simp only [B7,Bt,Bu] at hb;rcases hb with rfl|rfl|rfl|rfl
 ·exact aoi
 ·exact aoh
 ·exact aog
 ·exact aof) (λargs lv h=>by
 unfold aHB at h;split at h
 case h_2=>cases h
 replace h:=IE h
 obtain ⟨cs,os,ks,gs,bs,rfl,h⟩:=h;split at h
 ·refine Aq (letI g:=(M cs:Int);letI k:=(M ks:Int);letI l:=(M gs:Int);letI m:=(M bs:Int);letI c:=(acw (⟨X,cs,g,0,cs,os,ks,gs,bs⟩:MT));letI a:=(acy (⟨c.r,ks,k,0,cs,os,ks,gs,bs,([]:List Int)⟩:MY));letI e:=(adL (⟨a.r,gs,l,0,cs,os,ks,gs,bs⟩:MZ));.req (Rr.q (⟨X,cs,g,0,cs,os,ks,gs,bs⟩:MT))<|.br (Bs (aI0 (⟨X,cs,g,0,cs,os,ks,gs,bs⟩:MT))<|.ret) (.ok c.r)<|.req (Rp.q (⟨c.r,ks,k,0,cs,os,ks,gs,bs,([]:List Int)⟩:MY))<|.br (Bs (aHz (⟨c.r,ks,k,0,cs,os,ks,gs,bs,([]:List Int)⟩:MY))<|.ret) (.ok a.r)<|.req (Ro.q (⟨a.r,gs,l,0,cs,os,ks,gs,bs⟩:MZ))<|.br (Bs (aHy (⟨a.r,gs,l,0,cs,os,ks,gs,bs⟩:MZ))<|.ret) (.ok e.r)<|.req (Rm.q (⟨e.r,bs,m,0,cs,os,ks,gs,bs⟩:Mm))<|.br (Bs (aHx (⟨e.r,bs,m,0,cs,os,ks,gs,bs⟩:Mm))<|.ret) (.ok (aG1 (⟨e.r,bs,m,0,cs,os,ks,gs,bs⟩:Mm)).r)<|.ok U) ?_
  obtain ⟨⟨hc,ho,hk,hg,hb⟩,rfl⟩:=h;refine Lf ⟨⟨rfl,AZ,hc,rfl⟩,rfl,rfl⟩ λhE0=>?_
  obtain ⟨s',_,hq⟩:=ap0 _ hE0.1;rcases hq with ⟨q1,q2⟩ |⟨q1,q2,j,q3,q4⟩
  rotate_left
  ·rw [q1,q2]
   refine ⟨λ_=>B0 (λz=>LV.v<|.bool z) ?_,λh=>Ao⟩
   unfold M6;rw [QP (f:=λj=>Hu j<|Ag cs j) j q3 q4]
   rfl
  rw [q1];refine ⟨λh=>Ao,λ_=>?_⟩
  have g0:Dc (M cs) (λj=>Hu j<|Ag cs j)=true:=Dy.2 q2
  refine Lf ⟨⟨rfl,rfl,rfl,hk,ho⟩,rfl,rfl⟩ λhE1=>?_
  obtain ⟨s',_,hq⟩:=aoN _ hE1.1;rcases hq with ⟨q1,q2⟩ |⟨q1,q2,j,q3,q4⟩
  rotate_left
  ·rw [q1,q2]
   refine ⟨λ_=>B0 (λz=>LV.v<|.bool z) ?_,λh=>Ao⟩
   unfold M6
   have hn:(ks.all (koV<|M os)&&once (ks.map (·.2.2.2)))=false:=by
    rw [I6];intro hx
    have:=(W2 (d:=(emp,0,0,0))).2 hx j q3
    exact Bool.noConfusion<|this.symm.trans q4
   rw [g0,EA,<-VA,hn];rfl
  rw [q1];refine ⟨λh=>Ao,λ_=>?_⟩
  have g1:(ks.all (koV<|M os)&&once (ks.map (·.2.2.2)))=true:=(W2 (d:=(emp,0,0,0))).1 q2
  refine Lf ⟨⟨rfl,AZ,hg,rfl,hc,ho⟩,rfl,rfl⟩ λhE2=>?_
  obtain ⟨s',_,hq⟩:=aoM _ hE2.1;rcases hq with ⟨q1,q2⟩ |⟨q1,q2,j,q3,q4⟩
  rotate_left
  ·rw [q1,q2]
   refine ⟨λ_=>B0 (λz=>LV.v<|.bool z) ?_,λh=>Ao⟩
   unfold M6
   have hn:gs.all (GA (M cs)<|M os)=false:=by
    rw [I6];intro hx
    have:=(QJ (d:=(emp,0,0,0,0,0,0,0))).2 hx j q3
    exact Bool.noConfusion<|this.symm.trans q4
   rw [g0,EA,<-VA,g1,hn];rfl
  rw [q1];refine ⟨λh=>Ao,λ_=>?_⟩
  have g2:gs.all (GA (M cs)<|M os)=true:=(QJ (d:=(emp,0,0,0,0,0,0,0))).1 q2
  have hw:=AJ (x:=(M gs:Int)-1)
  refine Lf ⟨⟨rfl,AI,hb,rfl⟩,rfl,rfl⟩ λhE3=>?_
  obtain ⟨s',_,hq⟩:=aoL _ hE3.1;rcases hq with ⟨q1,q2⟩ |⟨q1,q2,j,q3,q4⟩
  rotate_left
  ·rw [q1,q2]
   refine ⟨λ_=>B0 (λz=>LV.v<|.bool z) ?_,λh=>Ao⟩
   unfold M6
   have hn:bs.all (λb=>inB b.2 0<|(M gs:Int)-1)=false:=by
    rw [I6];intro hx
    have:=(QJ (d:=(emp,0))).2 hx j q3
    have q4:inB (OO bs j).2 0 (AA<|(M gs:Int)-1)=false:=q4
    rw [hw] at q4;exact Bool.noConfusion<|this.symm.trans q4
   rw [g0,EA,<-VA,g1,g2,hn];rfl
  rw [q1];refine ⟨λh=>Ao,λ_=>?_⟩
  have g3:bs.all (λb=>inB b.2 0<|(M gs:Int)-1)=true:=(QJ (d:=(emp,0))).1 (λj hj=>by
   have:inB (OO bs j).2 0 (AA<|(M gs:Int)-1)=true:=q2 j hj
   rw [hw] at this;exact this)
  refine B0 (λz=>LV.v<|.bool z) ?_
  unfold M6;rw [g0,EA,<-VA,g1,g2,g3];rfl
 ·cases h)
structure Lq where
 r:Bool
 l:List ByteArray
 (n i:Int)
 BB:List Cd
 Bf:List ByteArray
 Bz:List Ko
 BN:List Ch
 C0:List Ba
 seen:List ByteArray
def aHV:=bN f24 0
def lY (s:Lq):T (Rd Lq):=letI a:=gS s.l s.i;.br (an<|s.i<s.n) (.ix s.i (M s.l)<|.br ((!(nameB a)) ||(List.contains s.seen a)) (.so (.ret) {s with r:=X})<|.req (List.contains s.seen a=X)<|.nx {s with i:=AA<|s.i+1,seen:=s.seen++[a]})<|.so (.exit 0) s
def SF (s:Lq) (j:Int):Bool:=nameB (gS s.l j)&&!(((s.l.take j.toNat).map id).contains<|gS s.l j)
def wP (s:Lq):Prop:=s.i=0/\s.seen=[]/\s.n=(M s.l:Int)/\s.n<=1000/\True
def bF (s:Lq):Prop:=0<=s.i/\s.i<=s.n/\s.n=(M s.l:Int)/\s.n<=1000/\(True)/\s.seen=(s.l.take s.i.toNat).map id/\∀j:Nat,(j:Int)<s.i->SF s j=U
def zb (s:Lq):Nat:=(s.n-s.i).toNat
def wT (x:Ex) (s s':Lq):Prop:=(x=.exit 0/\∀j:Nat,(j:Int)<s'.n->SF s' j=U)\/(x=.ret/\s'.r=X/\∃j:Nat,(j:Int)<s'.n/\SF s' j=X)
def ama:∀s,wP s->bF s:=by
 exact aLv
theorem ahy:Da bF zb wT lY:=by
 intro s hI;unfold lY;obtain ⟨h0,h1,h2,h3,h4,h5,h6⟩:=hI;refine AH (λc1=>AH (λc2=>?_) λc2=>?_) λc1=>?_
 ·have c1:s.i<s.n:=AX
  refine .inr ⟨rfl,rfl,s.i.toNat,AZ,?_⟩;rw [CM h0]
  have hg:SF s s.i=false:=by
   unfold SF
   grind
  exact hg
 ·have c1:s.i<s.n:=AX
  have hg:SF s s.i=true:=by
   unfold SF
   grind
  rw [AJ (x:=s.i+1)];refine ⟨⟨AZ,AZ,h2,h3,h4,?_,λj hj=>?_⟩,by simp only [zb];omega⟩
  ·simp only
   rw [(aGe h0 (show s.i<M s.l by omega)).2,h5]
   try rw [Jx]
   try rfl
  ·exact aKp
 ·exact aM9
def SJ:AT Lq:=⟨0,61,[1,2,3,42,43,44],[],λs=>[.own 0 0,s.r,.om 1,s.l,s.n,s.i],λs=>[⟨[s.BB,s.Bf,s.Bz,s.BN,s.C0],28,.cl,X⟩,⟨[],128,.st .str s.seen,X⟩],λv b=>⟨Ec v 1,B5 .str v 3,AK v 4,AK v 5,AF Ad b 0 0,AF .str b 0 1,AF Ai b 0 2,AF Ae b 0 3,AF Aj b 0 4,gSe .str<|CS b 1⟩,lY,λs r=> {s with r:=r.r,i:=r.i,seen:=r.seen},λs=>s,λ_ s=>s,[.ret,.exit 0],wP,bF,zb⟩
abbrev aOG:=SJ.run
abbrev aRG:=SJ.Av
def aiq:Rq bF lY:=by
 intro s hI;refine ⟨λc1=>⟨?_,λ_=>trivial,λc2=>⟨?_,ak⟩⟩,λ_=>trivial⟩
 all_goals ((obtain ⟨h0,h1,h2,h3,h4,h5,h6⟩:=hI;first|(simp at c1;omega) |(simp only [GJ] at c2;exact c2.2)))
def acD:List Bd:=[auq,auv,auM]
def abP:SJ.Ok:={}
def aTm:SJ.Pf (wT):=⟨ama,λs h=>rfl,ahy,aiq⟩
def aw9:SA 0 aHV SJ:=s1 abP aTm acD kN
def avn:Fi wP bF wT aRG aOG:=AT.fin abP aTm
def aHE:List LV->T LV
 | .agg a::r=>s5 a λcs os ks gs bs=>(match r with
  | []=> .ok (BL cs os ks gs bs)
  |_=> .no)
 |_=> .no
def P1:=vm (S:=aHE) func24 acD kN (L:=(λi=>if i=5 then SJ.lp else Al i)) (λb hb=>by
 rw [show BD _=[aHV] by kernel_rfl] at hb
 simp only [B7,Bt,Bu] at hb;subst hb;exact aw9) (λargs lv h=>by
 unfold aHE at h;split at h
 case h_2=>cases h
 replace h:=IE h
 obtain ⟨cs,os,ks,gs,bs,rfl,h⟩:=h;split at h
 ·refine Aq (letI b:=LI cs os ks gs bs;letI e:=(M b:Int);letI f:=(M cs:Int);letI a:=(f<=1000/\(M os:Int)<=1000/\(M ks:Int)<=1000/\(M gs:Int)<=1000/\(M bs:Int)<=1000);.br ((an<|f<1) ||((an<|f>16) ||((an<|(M os:Int)>8) ||((an<|(M ks:Int)>32) ||((an<|(M gs:Int)>16) ||(an<|(M bs:Int)>24)))))) (.ok X)<|.req a<|.req (SJ.q (⟨X,b,e,0,cs,os,ks,gs,bs,([]:List ByteArray)⟩:Lq))<|.br (Bs (aRG (⟨X,b,e,0,cs,os,ks,gs,bs,([]:List ByteArray)⟩:Lq))<|.ret) (.ok (aOG (⟨X,b,e,0,cs,os,ks,gs,bs,([]:List ByteArray)⟩:Lq)).r)<|.req a<|.ok<|M6 cs os ks gs bs) ?_
  obtain rfl:=h;refine ⟨λc=>B0 (λz=>LV.v<|.bool z) ?_,λc=>?_⟩
  ·rw [Sh,I6]
   intro hx;unfold BL at hx;rw [AY,Ac] at hx;simp only [Ck,Ac] at c;omega
  have hd:1<=M cs/\M cs<=16/\M os<=8/\M ks<=32/\M gs<=16/\M bs<=24:=by
   simp only [GJ,Cy] at c;omega
  have hs:BL cs os ks gs bs=(((LI cs os ks gs bs).all nameB&&once (LI cs os ks gs bs))&&M6 cs os ks gs bs):=by
   unfold BL
   grind
  have hl:(M (LI cs os ks gs bs):Int)<=1000:=by
   unfold LI;simp only [BF,G0];omega
  rw [hs]
  have hr:(M cs:Int)<=1000/\(M os:Int)<=1000/\(M ks:Int)<=1000/\(M gs:Int)<=1000/\(M bs:Int)<=1000:=A0
  refine ⟨hr,?_⟩;generalize LI cs os ks gs bs=l at*;refine Lf ⟨⟨rfl,rfl,rfl,hl,ak⟩,rfl,rfl⟩ λhE=>?_
  obtain ⟨s',_,hq⟩:=avn _ hE.1;rcases hq with ⟨q1,q2⟩ |⟨q1,q2,j,q3,q4⟩
  ·rw [q1]
   have hk:=(W2 (d:=emp) (p:=nameB) (k:=id)).1 q2
   rw [V8] at hk;refine ⟨λh=>Ao,λ_=>⟨hr,?_⟩⟩
   rw [hk,EA];rfl
  ·rw [q1,q2]
   refine ⟨λ_=>B0 (λz=>LV.v<|.bool z) ?_,λh=>Ao⟩
   have hn:(l.all nameB&&once l)=false:=by
    rw [I6];intro hx
    have:=(W2 (d:=emp) (p:=nameB) (k:=id)).2 (by rw [V8];exact hx) j q3
    exact Bool.noConfusion<|this.symm.trans q4
   rw [hn];rfl
 ·cases h)
def aJG:List LV->T LV
 | .agg a::r=>s5 a λcs os ks gs bs=>(match r with
  | [.v (Y J c)]=> .ok (.fn 141 [xQ 1 [c],xQ 5 [cs,os,ks,gs,bs]])
  |_=> .no)
 |_=> .no
def QZ:List Bd:=[]
def ab9:Ay:=kI QZ<|l0 QZ
def du:=vo (S:=aJG) func112 QZ ab9 (λargs lv h=>by
 unfold aJG at h;split at h
 case h_2=>cases h
 replace h:=IE h
 obtain ⟨cs,os,ks,gs,bs,rfl,h⟩:=h;split at h
 ·rename_i c
  refine Aq (.ok<|.fn 141 [(xQ 1 [c]),(xQ 5 [cs,os,ks,gs,bs])]) ?_;exact h
 ·cases h)
def zD:Array Tmp×Code×Code:=((It<|f214.body.getD .skip)[0]?).getD (#[],.skip,.skip)
def ajD:Array Tmp:=zD.1
def ak7:Code:=zD.2.1
def aij:Code:=zD.2.2
structure Mp where
 cs:List Cd
 os:List ByteArray
 ks:List Ko
 gs:List Ch
 bs:List Ba
 (c b0:Int)
 b1:Bool
 st:LS
def fv (s:Mp):T (Rd Mp):=
 .br (an<|s.c>=0) (.br (s.c==s.b0) (.so (.ret) {s with b1:=U,st:=.done<|.ret})<|.ix s.c (M s.cs)<|.nx {s with c:=(Ag s.cs s.c).2.1}) (.so (.exit 0) s)
def aB7 (s:Mp):Prop:=s.st=.ready/\Fx s.cs=U/\s.c<(M s.cs:Int)/\s.b1=X
def j6 (s:Mp):Prop:=s.st=.ready/\Fx s.cs=U/\s.c<(M s.cs:Int)
def tR (s:Mp):Nat:=(s.c+1).toNat
def abY (x:Ex) (s s':Mp):Prop:=(x=.ret/\s'.b1=U/\HJ s.cs s.b0 s.c=U)\/(x=.exit 0/\HJ s.cs s.b0 s.c=X)
def akB:∀s,aB7 s->j6 s:=by
 rintro s ⟨h0,h1,h2,h3⟩
 exact ⟨h0,h1,h2⟩
theorem aO6:Da j6 tR abY fv:=by
 intro s hI;obtain ⟨h0,h1,h2⟩:=hI
 have hp:=aPZ (o:=s.b0) h1 h2
 refine AH (λc1=>AH (λc2=>?_) λc2=>?_) λc1=>?_
 ·have c1:0<=s.c:=A8
  exact .inl ⟨rfl,rfl,A8⟩
 ·have c1:0<=s.c:=A8
  have:=QX h1 c1 h2
  exact ⟨⟨h0,h1,A8⟩,by simp only [tR];omega⟩
 ·have c1:¬(0<=s.c):=A8
  exact .inr ⟨rfl,A8⟩
def Yw:AT Mp:=⟨3,18,[0,2,4],[],λs=>[.CK 2,xQ 5 [s.cs,s.os,s.ks,s.gs,s.bs],s.c],λs=>[⟨[s.b0],3,.cl,X⟩,⟨[s.b1],4,.cl,X⟩,⟨[.junk,.junk,.junk,.own 0 0,.own 1 0,.v<|.tuple #[],.junk,.v<|.tuple #[],.v<|.tuple #[],.v<|.tuple #[],.v<|.tuple #[]],0,.Cc ajD ak7 aij s.st,X⟩],λv b=>⟨Ap Ad<|BT (v.getD 1 .junk) 0,Ap .str<|BT (v.getD 1 .junk) 1,Ap Ai<|BT (v.getD 1 .junk) 2,Ap Ae<|BT (v.getD 1 .junk) 3,Ap Aj<|BT (v.getD 1 .junk) 4,AK v 2,Ak b 0 0,Kk b 1 0,.ready⟩,fv,λs r=> {r with cs:=s.cs,os:=s.os,ks:=s.ks,gs:=s.gs,bs:=s.bs,b0:=s.b0},λs=> {s with st:=.ready},λx s=> {s with st:=(match x with| .ret=>(.done<|.ret) | .exit 0=> .ready|_=> .ready)},[.ret,.exit 0],aB7,j6,tR⟩
abbrev pY:=Yw.run
abbrev qZ:=Yw.Av
def awx:Rq j6 fv:=by
 intro s hI;refine ⟨λc1=>⟨λ_=>trivial,λc2=>⟨?_,ak⟩⟩,λ_=>trivial⟩
 ·(obtain ⟨h0,h1,h2⟩:=hI;simp at c1 h2;exact ⟨c1,h2⟩)
def rU:Yw.Ok:={}
def sH:Yw.Pf (abY):=⟨akB,λs h=>by
 obtain ⟨cs,os,ks,gs,bs,c,b0,b1,st⟩:=s
 have e:=h.1
 subst e;rfl,aO6,awx⟩
def aov:=s2 (b:=bN f141 0) rU sH QZ ab9
theorem axz (s:Mp) (hE:aB7 s):(qZ s=.ret/\(pY s).b1=U/\HJ s.cs s.b0 s.c=U)\/(qZ s=.exit 0/\HJ s.cs s.b0 s.c=X):=by
 have hk:=AT.KL rU sH (λs=>HJ s.cs s.b0 s.c) (λs hI=>by
  obtain ⟨h0,h1,h2⟩:=hI
  have hp:=aPZ (o:=s.b0) h1 h2
  refine AH (λc1=>AH (λc2=>rfl) λc2=>?_) λc1=>rfl
  have c1:0<=s.c:=A8
  show HJ _ _ _=HJ _ _ _
  rw [hp,AD c1,c2,Ct]) s hE
 have hk:HJ s.cs s.b0 (pY s).c=HJ s.cs s.b0 s.c:=hk
 obtain ⟨s',hI,hf⟩:=AT.end_ rU sH s hE
 have hq:=cE (aO6 s' hI) hf
 have hc:=cE (Pn:=λ_=>True) (Ps:=λ_ r=>r.cs=s'.cs/\r.b0=s'.b0/\r.c=s'.c) (r:=(fv s').rd s') (by
   exact AH (λ_=>AH (λ_=>⟨rfl,rfl,rfl⟩) λ_=>trivial) λ_=>⟨rfl,rfl,rfl⟩) hf
 obtain ⟨hc1,hc3,hc2⟩:=hc
 have e1:s.cs=s'.cs:=hc1
 have e2:s.b0=s'.b0:=hc3
 rwa [<-hk,hc2,e1,e2]
def aS6:List LV->T LV
 | [.fn 141 [.xq 1 q0,.xq 5 q1],.v (Y J o)]=>(match ([q0 0]:List LV) with
  | [.v (Y J c)]=>(match ([q1 0,q1 1,q1 2,q1 3,q1 4]:List LV) with
  | [.xl (.pair .str (.pair (.int J) (.pair (.int J) (.pair (.int J) (.pair (.pair (.int J) (.int J)) (.pair (.int J) (.pair (.int J) (.pair (.int J) (.pair (.int J) (.int J)))))))))) cs,.xl (.str) os,.xl (.pair .str (.pair (.int J) (.pair (.int J) (.int J)))) ks,.xl (.pair .str (.pair (.int J) (.pair (.int J) (.pair (.int J) (.pair (.int J) (.pair (.int J) (.pair (.int J) (.int J)))))))) gs,.xl (.pair .str (.int J)) bs]=> .req (Fx cs=U/\c<(M cs:Int)) (.ok<|HJ cs o c)
  |_=> .no)
  |_=> .no)
 |_=> .no
def ab8:Ay:=kI QZ<|la 1 func141 aov<|l0 QZ
def ayq (c:Int) (cs:List Cd) (os:List ByteArray) (ks:List Ko) (gs:List Ch) (bs:List Ba) (o:Int):Bi prog AV QZ ab8 Al f214 [.fn 141 [xQ 1 [c],xQ 5 [cs,os,ks,gs,bs]],o]=.req (Yw.q (⟨cs,os,ks,gs,bs,c,o,X,.ready⟩:Mp)) (.br (Bs (qZ (⟨cs,os,ks,gs,bs,c,o,X,.ready⟩:Mp))<|.ret) (.ok (pY (⟨cs,os,ks,gs,bs,c,o,X,.ready⟩:Mp)).b1)<|.ok X):=AU
def aiK:=vo (S:=aS6) func214 QZ ab8 (λargs lv h=>by
 refine ⟨?_⟩;unfold aS6 at h;split at h
 ·split at h
  case h_2=>cases h
  rename_i heq0;split at h
  case h_2=>cases h
  rename_i heq1;simp only [canL,canX];rw [Dn (n:=1) heq0];rw [Dn (n:=5) heq1];simp only [canL,canX];rw [ayq];obtain ⟨⟨hu,hc⟩,rfl⟩:=h;refine Lf ⟨⟨rfl,hu,hc,rfl⟩,rfl,rfl⟩ λhE=>?_
  rcases axz _ hE.1 with ⟨h1,h2,h3⟩ |⟨h1,h2⟩
  ·rw [h1,h2]
   exact ⟨λ_=>B0 (λz=>LV.v<|.bool z) h3.symm,λh=>Ao⟩
  ·rw [h1]
   exact ⟨λh=>Ao,λ_=>B0 (λz=>LV.v<|.bool z) h2.symm⟩
 ·cases h)
structure OF where
 l:List Ch
 (n i:Int)
 Bg:List Cd
 GO:List ByteArray
 GM:List Ko
 GQ:List Ch
 GV:List Ba
 b1:Int
 out:List Int
def aHd:=bN f184 0
def lq (s:OF):T (Rd OF):=
 .br (an<|s.i<s.n) (.ix s.i (M s.l)<|.req (Fx s.Bg=U/\(AG s.l s.i).2.1<(M s.Bg:Int))<|.br (HJ s.Bg s.b1 (AG s.l s.i).2.1) (.rb (M s.out) (M<|[s.i]) 8<|.re (M s.out+M ([s.i])) (s.out++([s.i]))<|.nx {s with i:=AA<|s.i+1,out:=s.out++([s.i])})<|.rl s.out<|.nx {s with i:=AA<|s.i+1}) (.rl s.out<|.so (.exit 0) s)
def mZ (s:OF):Prop:=s.i=0/\s.out=[]/\s.n=(M s.l:Int)/\s.n<=1000/\Fx s.Bg=U/\atB s.Bg s.l=U
def bP (s:OF):Prop:=(0<=s.i/\s.i<=s.n)/\s.out=H8 s.Bg s.l s.b1 s.i.toNat/\s.n=(M s.l:Int)/\s.n<=1000/\Fx s.Bg=U/\atB s.Bg s.l=U
def gP (s:OF):Nat:=(s.n-s.i).toNat
def wc (x:Ex) (s s':OF):Prop:=x=.exit 0/\s'.out=H8 s'.Bg s'.l s'.b1 (M s'.l)
def am5:∀s,mZ s->bP s:=by
 rintro s ⟨h0,h1,h2,h3,h4,h5⟩
 exact ⟨⟨A0,A0⟩,yk,h2,h3,h4,h5⟩
theorem alR:Da bP gP wc lq:=by
 intro s hI;unfold lq;obtain ⟨⟨h0,h1⟩,h2,h3,h4,h5,h6⟩:=hI;refine AH (λc1=>?_) λc1=>?_
 ·have c1:s.i<s.n:=AX
  have hs:=ag1 (cs:=s.Bg) (gs:=s.l) (o:=s.b1) (k:=s.i.toNat)
  rw [AJ (x:=s.i+1)];refine AH (λc2=>?_) λc2=>?_
  ·refine ⟨⟨⟨AZ,AZ⟩,?_,h3,h4,h5,h6⟩,by simp only [gP];omega⟩
   simp only
   grind
  ·refine ⟨⟨⟨A8,A8⟩,?_,h3,h4,h5,h6⟩,by simp only [gP];omega⟩
   simp only
   grind
 ·have c1:s.n<=s.i:=AX
  exact ⟨rfl,A8⟩
def S9:AT OF:=⟨0,42,[6,7,26,27,28],[.nl 7 3 A7],λs=>[.fn 213 [.own 0 0,.own 1 0],.os 2 1 0<|M s.out,s.l,s.n,s.i],λs=>[⟨[s.Bg,s.GO,s.GM,s.GQ,s.GV],28,.cl,X⟩,⟨[s.b1],3,.cl,X⟩,bV 3 A7 s.out],λv b=>⟨B5 Ae v 2,AK v 3,AK v 4,AF Ad b 0 0,AF .str b 0 1,AF Ai b 0 2,AF Ae b 0 3,AF Aj b 0 4,Ak b 1 0,Ab A7 b 2⟩,lq,λs r=> {s with i:=r.i,out:=r.out},λs=>s,λ_ s=>s,[.exit 0],mZ,bP,gP⟩
abbrev p7:=S9.run
abbrev ags:=S9.Av
def aj7:Rq bP lq:=by
 intro s hI;refine ⟨λc1=>⟨?_,?_,λc2=>⟨?_,?_,ak⟩,λc2=>⟨A9,ak⟩⟩,λc1=>⟨A9,ak⟩⟩
 all_goals ((obtain ⟨⟨h0,h1⟩,h2,h3,h4,h5,h6⟩:=hI;have hol:M s.out<=s.i.toNat:=(by rw [h2];exact pM);(try simp only [Ac] at c1);first|omega|exact ⟨h5,uk h6 h0 A0⟩ |(refine ⟨A0,?_,?_⟩<;>simp only [Bk,Bp]<;>omega) |exact ⟨rfl,AI⟩ |exact ⟨rfl,rfl⟩))
def gN:List Bd:=[P1,du,aiK]
def ab7:Ay:=kI gN<|l0 gN
def aas:S9.Ok:={}
def abL:S9.Pf (wc):=⟨am5,λs h=>rfl,alR,aj7⟩
def avV:SA 0 aHd S9:=s1 aas abL gN ab7
def ahZ:Fi mZ bP wc ags p7:=AT.fin aas abL
def aFa:List LV->T LV
 | .agg a::r=>s5 a λcs os ks gs bs=>(match r with
  | [.v (Y J o)]=> .ok (.AO [.xl A7<|Q4 cs os ks gs bs o,wg cs os ks gs bs o])
  |_=> .no)
 |_=> .no
def ap8:=vm (S:=aFa) func184 gN ab7 (L:=(λi=>if i=6 then S9.lp else Al i)) (λb hb=>by
 rw [show BD _=[aHd] by kernel_rfl] at hb
 simp only [B7,Bt,Bu] at hb;subst hb;exact avV) (λargs lv h=>by
 unfold aFa at h;split at h
 case h_2=>cases h
 replace h:=IE h
 obtain ⟨cs,os,ks,gs,bs,rfl,h⟩:=h;split at h
 ·rename_i o
  refine Aq (letI a:=(p7 (⟨gs,(M gs:Int),0,cs,os,ks,gs,bs,o,([]:List Int)⟩:OF));.br ((!(BL cs os ks gs bs)) ||((an<|o<0) ||(an<|o>=(M cs:Int)))) (.ok<|.AO [.xl A7 ([]:List Int),(1:Int)])<|.r0 Int<|.req (S9.q (⟨gs,(M gs:Int),0,cs,os,ks,gs,bs,o,([]:List Int)⟩:OF))<|.rz a.out<|.ok<|.AO [.xl A7<|(a.out.drop 0).take<|M a.out,(0:Int)]) ?_;obtain rfl:=h;refine ⟨λc=>?_,λc=>?_⟩
  ·have hn:¬(BL cs os ks gs bs=U/\0<=o/\o<(M cs:Int)):=by
    rintro ⟨h1,h2,h3⟩
    rw [h1] at c
    simp at c
    omega
   show LV.AO _=_
   unfold Q4 wg
   grind
  ·simp only [GJ,I5,Cy] at c
   have hl:=(DF.1 c.1).1
   have hE:mZ ⟨gs,(M gs:Int),0,cs,os,ks,gs,bs,o,([]:List Int)⟩:=⟨rfl,rfl,rfl,AZ,ox c.1,oz c.1⟩
   obtain ⟨s',_,q1,q2⟩:=ahZ _ hE
   have q2:(p7 ⟨gs,(M gs:Int),0,cs,os,ks,gs,bs,o,([]:List Int)⟩).out=H8 cs gs o (M gs):=q2
   refine ⟨A9,⟨hE,rfl,rfl⟩,A0,?_⟩
   show LV.AO [LV.xl _ _,_]=_
   unfold Q4 wg
   grind
 ·cases h)
def aJ0:List LV->T LV
 | [.v (.agg ⟨[Y J am,Y J mo,Y J ga,Y J lo,Y J de]⟩)]=> .ok (IX (am,mo,ga,lo,de))
 |_=> .no
def RA:List Bd:=[]
def hnd20:Ay:=kI RA<|l0 RA
def av8:=vo (S:=aJ0) func142 RA hnd20 (λargs lv h=>by
 unfold aJ0 at h;split at h
 ·rename_i am mo ga lo de
  refine Aq (.br ((am==0)&&((mo==0)&&((ga==0)&&((lo==0)&&(de==0))))) (.ok U)<|.br ((an<|am>=0)&&(an<|am<=200000)) (.br (an<|mo>am) (.br (an<|mo<=200000) (.br ((an<|ga>=0)&&(an<|ga<=1000)) (.br ((an<|lo>=0)&&(an<|lo<=1000)) (.ok<|.v<|.bool<|(an<|de>=1)&&(an<|de<=1000000))<|.ok X)<|.ok X)<|.ok X)<|.ok X)<|.ok X) ?_;obtain rfl:=h;unfold IX cbZ;refine ⟨λc=>by rw [c];rfl,λc=>?_⟩
  unfold inB;refine ⟨λc1=>⟨λc2=>⟨λc3=>⟨λc4=>⟨λc5=>?_,λc5=>?_⟩,λc4=>?_⟩,λc3=>?_⟩,λc2=>?_⟩,λc1=>?_⟩
  all_goals refine B0 (λz=>LV.v<|.bool z) ?_
  all_goals
   grind
 ·cases h)
def aH9:List LV->T LV
 | [.xq 6 q0]=>(match ([q0 0,q0 1,q0 2,q0 3,q0 4,q0 5]:List LV) with
  | [.v (Y J am),.v (Y J mo),.v (Y J ga),.v (Y J lo),.v (Y J de),.v (Y J now)]=> .ok (.v<|Y J (if de<lo then de else lo))
  |_=> .no)
 |_=> .no
def aqd (am mo ga lo de now:Int):Bi prog AV (RA) kN Al f144 [xQ 6 [am,mo,ga,lo,de,now]]=.ok (.v<|Y J (if de<lo then de else lo)):=AU
def auK:=vo (S:=aH9) func144 RA kN (λargs lv h=>by
 refine ⟨?_⟩;unfold aH9 at h;split at h
 ·split at h
  case h_2=>cases h
  rename_i heq0;simp only [canL,canX];rw [Dn (n:=6) heq0];simp only [canL,canX]
  rwa [aqd]
 ·cases h)
def aH8:List LV->T LV
 | [.xq 6 q0]=>(match ([q0 0,q0 1,q0 2,q0 3,q0 4,q0 5]:List LV) with
  | [.v (Y J am),.v (Y J mo),.v (Y J ga),.v (Y J lo),.v (Y J de),.v (Y J now)]=> .ok (cbZ (am,mo,ga,lo,de))
  |_=> .no)
 |_=> .no
def aqc (am mo ga lo de now:Int):Bi prog AV (RA) kN Al f143 [xQ 6 [am,mo,ga,lo,de,now]]=.ok (.v<|.bool<|(am==0)&&((mo==0)&&((ga==0)&&((lo==0)&&(de==0))))):=AU
def auJ:=vo (S:=aH8) func143 RA kN (λargs lv h=>by
 refine ⟨?_⟩;unfold aH8 at h;split at h
 ·split at h
  case h_2=>cases h
  rename_i heq0;simp only [canL,canX];rw [Dn (n:=6) heq0];simp only [canL,canX]
  rwa [aqc]
 ·cases h)
structure ON where
 (low high afP atv atx atw ahe anu b11 b12 b13 b14 ahd b3:Int)
def ln (s:ON):T (Rd ON):=letI a:=AA<|s.low+(AA<|(AA<|(AA<|s.high-s.low)+1).tdiv 2);.br (an<|s.low<s.high) (.req ((2:Int)≠0)<|.br (an<|(AA<|(AA<|s.b12*a)*a)<=s.b3) (.nx {s with low:=a})<|.nx {s with high:=AA<|a-1})<|.so (.exit 0) s
def wh (s:ON):Prop:=s.low=0/\s.high=1000/\(0<=s.b12/\s.b12<=1000)/\0<=s.b3
def bM (s:ON):Prop:=(0<=s.low/\s.low<=s.high/\s.high<=1000)/\s.b12*s.low*s.low<=s.b3/\(∀a:Int,s.high<a->a<=1000->¬s.b12*a*a<=s.b3)/\(0<=s.b12/\s.b12<=1000)/\0<=s.b3
def gO (s:ON):Nat:=(s.high-s.low).toNat
def wb (x:Ex) (s s':ON):Prop:=x=.exit 0/\s'.low=prm s'.b12 s'.b3
theorem amO:∀s,wh s->bM s:=by
 rintro s ⟨h0,h1,h2,h3⟩
 exact ⟨A0,A8,λa h h2=>A0,h2,h3⟩
theorem akg:Da bM gO wb ln:=by
 intro s hI;unfold ln;obtain ⟨⟨h0,h1,h2⟩,h3,h4,⟨h5,h6⟩,h7⟩:=hI
 have em:s.low<s.high->AA (s.low+AA ((AA<|AA (s.high-s.low)+1).tdiv 2))=s.low+(s.high-s.low+1) / 2:=λc=>by
  rw [AJ (x:=s.high-s.low),AJ (x:=s.high-s.low+1),I9 A0,AJ (x:=(s.high-s.low+1) / 2),AJ]
 refine AH (λc1=>?_) λc1=>?_
 ·have c1:s.low<s.high:=AX
  rw [em c1]
  have hm1:s.low<s.low+(s.high-s.low+1) / 2:=A0
  have hm2:s.low+(s.high-s.low+1) / 2<=s.high:=A0
  generalize s.low+(s.high-s.low+1) / 2=m at hm1 hm2|-;obtain ⟨⟨b1,b2⟩,b3,b4⟩:=ajG h5 h6 (m:=m) A0 A0;rw [AJ (x:=s.b12*m),AJ (x:=s.b12*m*m),AJ (x:=m-1)];refine AH (λc2=>?_) λc2=>?_
  ·have c2:s.b12*m*m<=s.b3:=EC
   exact ⟨⟨⟨AZ,AZ,h2⟩,c2,h4,⟨h5,h6⟩,h7⟩,by simp only [gO];omega⟩
  ·have c2:¬s.b12*m*m<=s.b3:=EC
   refine ⟨⟨⟨h0,AZ,AZ⟩,h3,λa ha hk=>?_,⟨h5,h6⟩,h7⟩,by simp only [gO];omega⟩
   have:=aoc h5 (a:=m) (b:=a) A0 A8
   simp only;omega
 ·have c1:s.high<=s.low:=AX
  refine ⟨rfl,(aGy (k:=1000) h0 A0 (.inr h3) λa ha hk=>h4 a A0 A0).symm⟩
def aZ:AT ON:=⟨4,25,[0,1,2],[],λs=>[s.low,s.high,.fn 146 [.own 2 0,.own 3 0]],λs=>[⟨[s.afP,s.atv,s.atx,s.atw,s.ahe],77,.cl,X⟩,⟨[s.anu,s.b11,s.b12,s.b13,s.b14,s.ahd],268,.cl,X⟩,⟨[.own 1 0],266,.cl,X⟩,⟨[s.b3],3,.cl,X⟩],λv b=>⟨AK v 0,AK v 1,Ak b 0 0,Ak b 0 1,Ak b 0 2,Ak b 0 3,Ak b 0 4,Ak b 1 0,Ak b 1 1,Ak b 1 2,Ak b 1 3,Ak b 1 4,Ak b 1 5,Ak b 3 0⟩,ln,λs r=> {s with low:=r.low,high:=r.high},λs=>s,λ_ s=>s,[.exit 0],wh,bM,gO⟩
abbrev aOH:=aZ.run
abbrev agr:=aZ.Av
def UE:List Bd:=[av8,auJ,auK]
def akX:Ay:=kI UE<|l0 UE
def aj3:Rq bM ln:=by
 intro s hI;refine ⟨λc1=>⟨?_,λ_=>trivial,λ_=>trivial⟩,λ_=>trivial⟩
 ·omega
def aap:aZ.Ok:={}
def abJ:aZ.Pf (wb):=⟨amO,λs h=>rfl,akg,aj3⟩
def avT:=s2 (b:=bN f145 0) aap abJ UE akX
def azF:Fi wh bM wb agr aOH:=AT.fin aap abJ
def aJE:List LV->T LV
 | [.v (.agg ⟨[Y J am,Y J mo,Y J ga,Y J lo,Y J de]⟩)]=> .tu #[N4 (am,mo,ga,lo,de),pmE (am,mo,ga,lo,de)]
 |_=> .no
def alC:Ay:=kI UE<|la 1 func145 avT<|l0 UE
def auo:=vo (S:=aJE) func115 UE alC (λargs lv h=>by
 unfold aJE at h;split at h
 ·rename_i am mo ga lo de
  refine Aq (letI a:=AA<|(if de<lo then de else lo)*(AA<|mo-am);.br (!(IX (am,mo,ga,lo,de))) (.tu #[(0:Int),(1:Int)])<|.br (cbZ (am,mo,ga,lo,de)) (.tu #[(1000:Int),(0:Int)])<|.req (aZ.q (⟨0,1000,am,mo,ga,lo,de,am,mo,ga,lo,de,0,a⟩:ON))<|.tu #[(aOH (⟨0,1000,am,mo,ga,lo,de,am,mo,ga,lo,de,0,a⟩:ON)).low,(0:Int)]) ?_
  obtain rfl:=h;refine ⟨λc=>?_,λc=>⟨λc2=>?_,λc2=>?_⟩⟩
  ·have c:IX (am,mo,ga,lo,de)=false:=Ig
   simp [T.all,N4,pmE,c]
  ·have c:IX (am,mo,ga,lo,de)=true:=Ig
   simp [T.all,N4,pmE,c,c2]
  ·have c:IX (am,mo,ga,lo,de)=true:=Ig
   obtain ⟨⟨h1,h2,h3⟩,⟨h4,h5⟩,⟨h6,h7⟩,h8,h9⟩:=ahV c c2;simp only at h1 h2 h3 h4 h5 h6 h7 h8 h9
   have hm:0<=(if de<lo then de else lo)/\(if de<lo then de else lo)<=1000:=by split<;>omega
   have e:N4 (am,mo,ga,lo,de)=prm ga ((if de<lo then de else lo)*(mo-am)):=by
    unfold N4
    grind
   have e2:pmE (am,mo,ga,lo,de)=0:=by
    unfold pmE;rw [AD c]
   rw [e,e2,AJ (x:=mo-am)];generalize (if de<lo then de else lo)=mn at hm|-
   have a1:0<=mn*(mo-am):=Ib hm.1 A0
   have a2:mn*(mo-am)<=1000*(mo-am):=MD hm.2 A0
   rw [AJ (x:=mn*(mo-am))];refine Lf ⟨⟨rfl,rfl,⟨h4,h5⟩,a1⟩,rfl,rfl⟩ λhE=>?_
   obtain ⟨s',_,q1,q2⟩:=azF _ hE.1;rw [q2];rfl
 ·cases h)
structure KQ where
 first:Int
 l:List Int
 (n i:Int)
def aFb:=bN f116 0
def vN (s:KQ):T (Rd KQ):=
 .br (an<|s.i<s.n) (.ix s.i (M s.l)<|.nx {s with first:=(if (gi s.l s.i)<s.first then (gi s.l s.i) else s.first),i:=AA<|s.i+1}) (.so (.exit 0) s)
def iq (s:KQ):Prop:=s.i=0/\s.n=(M s.l:Int)/\s.n<=1000
def Xw (s:KQ):Prop:=0<=s.i/\s.i<=s.n/\s.n=(M s.l:Int)/\s.n<=1000
def sS (s:KQ):Nat:=(s.n-s.i).toNat
def aAb (x:Ex) (s s':KQ):Prop:=x=.exit 0/\s'.i=s'.n
def ajt:∀s,iq s->Xw s:=by
 exact kf
theorem ayP:Da Xw sS aAb vN:=by
 intro s hI;obtain ⟨h0,h1,h2,h3⟩:=hI;refine AH (λc1=>?_) λc1=>?_
 ·have c1:s.i<s.n:=A8
  rw [AJ (x:=s.i+1)];exact ⟨⟨A8,A8,h2,h3⟩,by simp only [sS];omega⟩
 ·exact Sf
def RR:AT KQ:=⟨0,18,[0,7,8,9],[],λs=>[s.first,.xl A7 s.l,s.n,s.i],λ_=>[],λv b=>⟨AK v 0,B5 A7 v 1,AK v 2,AK v 3⟩,vN,λs r=> {r with l:=s.l,n:=s.n},λs=>s,λ_ s=>s,[.exit 0],iq,Xw,sS⟩
abbrev cW:=RR.run
abbrev arE:=RR.Av
def awV:Rq Xw vN:=by
 intro s hI;refine ⟨λc1=>⟨?_,ak⟩,λ_=>trivial⟩
 ·(obtain ⟨h0,h1,h2,h3⟩:=hI;simp at c1;omega)
def gM:List Bd:=[]
def ru:RR.Ok:={}
def rM:RR.Pf (aAb):=⟨ajt,λs h=>rfl,ayP,awV⟩
def aq6:SA 0 aFb RR:=s1 ru rM gM kN
def arv:Fi iq Xw aAb arE cW:=AT.fin ru rM
theorem anI (s:KQ) (hE:iq s):(λs:KQ=>Js s.first<|s.l.drop s.i.toNat) (cW s)=(λs:KQ=>Js s.first<|s.l.drop s.i.toNat) s:=by
 exact AT.KL ru rM (λs:KQ=>Js s.first<|s.l.drop s.i.toNat) (λs hI=>by
  obtain ⟨h0,h1,h2,h3⟩:=hI;refine AH (λc1=>?_) λc1=>rfl
  have c1:s.i<s.n:=A8
  rw [AJ (x:=s.i+1)];rw [(gi_step h0 (show s.i<M s.l by omega)).1]
  rfl) s hE
def aJS:List LV->T LV
 | [.v (Y J f),.xl (.int J) l]=> .req ((M l:Int)<=1000) (.ok<|Js f l)
 |_=> .no
def aut:=vm (S:=aJS) func116 gM kN (L:=(λi=>if i=2 then RR.lp else Al i)) (λb hb=>by
 rw [show BD _=[aFb] by kernel_rfl] at hb
 simp only [B7,Bt,Bu] at hb;subst hb;exact aq6) (λargs lv h=>by
 unfold aJS at h;split at h
 ·rename_i f l
  refine Aq (.req (RR.q (⟨f,l,(M l:Int),0⟩:KQ))<|.ok (cW (⟨f,l,(M l:Int),0⟩:KQ)).first) ?_;obtain ⟨hl,rfl⟩:=h;refine Lf ⟨⟨rfl,rfl,hl⟩,rfl,rfl⟩ λhE=>?_
  obtain ⟨s',_,q1,q2⟩:=arv _ hE.1
  have q3:=anI _ hE.1
  simp only at q3;rw [q2] at q3
  have e:(cW ⟨f,l,(M l:Int),0⟩).n=(M l:Int):=rfl
  have e2:(cW ⟨f,l,(M l:Int),0⟩).l=l:=rfl
  rw [e,e2,El A0] at q3;exact B0 (λz=>LV.v<|Y J z) q3
 ·cases h)
def aJO:List LV->T LV
 | [.v (.agg ⟨[.string nm,Y J up_,Y J li,Y J ne,Y J ra,Y J he,Y J am,Y J mo,Y J ga,Y J lo,Y J de]⟩)]=> .ok (Dz (nm,up_,li,ne,(ra,he),am,mo,ga,lo,de))
 |_=> .no
def akQ:List Bd:=[auo,aut]
def qj:=vo (S:=aJO) func92 akQ kN (λargs lv h=>by
 unfold aJO at h;split at h
 ·rename_i nm up_ li ne ra he am mo ga lo de
  refine Aq (letI a:=(N4 (am,mo,ga,lo,de));.br ((pmE (am,mo,ga,lo,de)) !=0) (.br (ra==0) (.req ((M ([ne,(0:Int)]):Int)<=1000)<|.ok<|Js li<|[ne,(0:Int)])<|.req ((M ([ne,(0:Int),ra]):Int)<=1000)<|.ok<|Js li<|[ne,(0:Int),ra])<|.br (ra==0) (.req ((M ([ne,a]):Int)<=1000)<|.ok<|Js li<|[ne,a])<|.req ((M ([ne,a,ra]):Int)<=1000)<|.ok<|Js li<|[ne,a,ra]) ?_;obtain rfl:=h;unfold Dz;simp only;refine ⟨λc=>?_,λc=>?_⟩
  ·have e:N4 (am,mo,ga,lo,de)=0:=by
    rw [apT] at c
    have c:IX (am,mo,ga,lo,de)=false:=Ig
    unfold N4;rw [c];rfl
   rw [e];refine ⟨λc2=>⟨AI,?_⟩,λc2=>⟨AI,?_⟩⟩
   ·rw [AD EC];rfl
   ·rw [AE EC];rfl
  ·refine ⟨λc2=>⟨AI,?_⟩,λc2=>⟨AI,?_⟩⟩
   ·rw [AD A8];rfl
   ·rw [AE A8];rfl
 ·cases h)
def aJA:List LV->T LV
 | [.v (Y J k),.xq 5 q0,.xq 2 q1]=>(match ([q0 0,q0 1,q0 2,q0 3,q0 4]:List LV) with
  | [.xl (.pair .str (.pair (.int J) (.pair (.int J) (.pair (.int J) (.pair (.pair (.int J) (.int J)) (.pair (.int J) (.pair (.int J) (.pair (.int J) (.pair (.int J) (.int J)))))))))) cs,.xl (.str) os,.xl (.pair .str (.pair (.int J) (.pair (.int J) (.int J)))) ks,.xl (.pair .str (.pair (.int J) (.pair (.int J) (.pair (.int J) (.pair (.int J) (.pair (.int J) (.pair (.int J) (.int J)))))))) gs,.xl (.pair .str (.int J)) bs]=>(match ([q1 0,q1 1]:List LV) with
  | [.v (Y J c),.v (Y J p)]=> .req ((0<=k/\k<(M gs:Int))/\0<=p) (.ok<|usA (AG gs k).2.2.1 p)
  |_=> .no)
  |_=> .no)
 |_=> .no
def aqg (k:Int) (cs:List Cd) (os:List ByteArray) (ks:List Ko) (gs:List Ch) (bs:List Ba) (c p:Int):Bi prog AV (gM) kN Al f186 [k,xQ 5 [cs,os,ks,gs,bs],xQ 2 [c,p]]=.ix k (M gs) (.req (0<=p)<|.ok<|.v<|.bool<|(Bq J (AG gs k).2.2.1<|AA<|(1:Int)*2^(min p.toNat 64)) !=0):=AU
def aJf:=vo (S:=aJA) func186 gM kN (λargs lv h=>by
 refine ⟨?_⟩;unfold aJA at h;split at h
 ·split at h
  case h_2=>cases h
  rename_i heq0;split at h
  case h_2=>cases h
  rename_i heq1;simp only [canL,canX];rw [Dn (n:=5) heq0];rw [Dn (n:=2) heq1];simp only [canL,canX];rw [aqg];obtain ⟨⟨h1,h2⟩,h3⟩:=h;exact ⟨h1,h2,h3⟩
 ·cases h)
structure Ja where
 cs:List Cd
 os:List ByteArray
 ks:List Ko
 gs:List Ch
 bs:List Ba
 (c p:Int)
 l:List Int
 (n i:Int)
 out:List Int
def aFt:=bN f185 0
def zI (s:Ja):T (Rd Ja):=letI a:=gi s.l s.i;.br (an<|s.i<s.n) (.ix s.i (M s.l)<|.req ((0<=a/\a<(M s.gs:Int))/\0<=s.p)<|.br (usA (AG s.gs a).2.2.1 s.p) (.rb (M s.out) (M<|[a]) 8<|.re (M s.out+M ([a])) (s.out++([a]))<|.nx {s with i:=AA<|s.i+1,out:=s.out++([a])})<|.rl s.out<|.nx {s with i:=AA<|s.i+1})<|.rl s.out<|.so (.exit 0) s
def Yt (s:Ja):Prop:=s.i=0/\s.out=[]/\s.n=(M s.l:Int)/\s.n<=1000/\0<=s.p/\∀k∈s.l,0<=k/\k<(M s.gs:Int)
def Xg (s:Ja):Prop:=(0<=s.i/\s.i<=s.n)/\(M s.out:Int)<=s.i/\s.n=(M s.l:Int)/\s.n<=1000/\0<=s.p/\∀k∈s.l,0<=k/\k<(M s.gs:Int)
def eW (s:Ja):Nat:=(s.n-s.i).toNat
def aAJ (x:Ex) (s s':Ja):Prop:=x=.exit 0/\s'.i=s'.n
theorem alN:∀s,Yt s->Xg s:=by
 rintro s ⟨h0,h1,h2,h3,h4,h5⟩
 exact ⟨A0,A8,h2,h3,h4,h5⟩
theorem agF:Da Xg eW aAJ zI:=by
 intro s hI;obtain ⟨⟨h0,h1⟩,h2,h3,h4,h5,h6⟩:=hI;refine AH (λc1=>?_) λc1=>?_
 ·have c1:s.i<s.n:=AX
  rw [AJ (x:=s.i+1)];refine AH (λc2=>?_) λc2=>?_
  ·exact ⟨⟨⟨AZ,AZ⟩,A8,h3,h4,h5,h6⟩,by simp only [eW];omega⟩
  ·exact ⟨⟨⟨A8,A8⟩,AZ,h3,h4,h5,h6⟩,by simp only [eW];omega⟩
 ·have c1:s.n<=s.i:=AX
  exact VE
def Qx:AT Ja:=⟨0,23,[1,5,8,9,10],[.nl 5 3 A7],λs=>[.fn 186 [xQ 5 [s.cs,s.os,s.ks,s.gs,s.bs],xQ 2 [s.c,s.p]],.os 0 1 0<|M s.out,.xl A7 s.l,s.n,s.i],λs=>[bV 3 A7 s.out],λv b=>⟨Ap Ad<|BT (gFn (v.getD 0 .junk) 0) 0,Ap .str<|BT (gFn (v.getD 0 .junk) 0) 1,Ap Ai<|BT (gFn (v.getD 0 .junk) 0) 2,Ap Ae<|BT (gFn (v.getD 0 .junk) 0) 3,Ap Aj<|BT (gFn (v.getD 0 .junk) 0) 4,gI<|BT (gFn (v.getD 0 .junk) 1) 0,gI<|BT (gFn (v.getD 0 .junk) 1) 1,B5 A7 v 2,AK v 3,AK v 4,Ab A7 b 0⟩,zI,λs r=> {s with i:=r.i,out:=r.out},λs=>s,λ_ s=>s,[.exit 0],Yt,Xg,eW⟩
abbrev Vy:=Qx.run
abbrev atE:=Qx.Av
def axp:Rq Xg zI:=by
 intro s hI;refine ⟨λc1=>⟨?_,?_,λc2=>⟨?_,?_,ak⟩,λc2=>⟨A9,ak⟩⟩,λc1=>⟨A9,ak⟩⟩
 all_goals ((obtain ⟨⟨h0,h1⟩,h2,h3,h4,h5,h6⟩:=hI;(try simp only [Ac] at c1);first|omega|(refine ⟨h6 _ ?_,h5⟩;rw [IF A0];exact H0 _) |(refine ⟨A0,?_,?_⟩<;>simp only [Bk,Bp]<;>omega) |exact ⟨rfl,AI⟩ |exact ⟨rfl,rfl⟩))
def zl:List Bd:=[aJf]
def qt:Qx.Ok:={}
def rP:Qx.Pf (aAJ):=⟨alN,λs h=>rfl,agF,axp⟩
def apf:SA 0 aFt Qx:=s1 qt rP zl kN
def atn:Fi Yt Xg aAJ atE Vy:=AT.fin qt rP
theorem ao1 (s:Ja) (hE:Yt s):(λs:Ja=>s.out++E4 s.gs s.p (s.l.drop s.i.toNat)) (Vy s)=(λs:Ja=>s.out++E4 s.gs s.p (s.l.drop s.i.toNat)) s:=by
 exact AT.KL qt rP (λs:Ja=>s.out++E4 s.gs s.p (s.l.drop s.i.toNat)) (λs hI=>by
  obtain ⟨⟨h0,h1⟩,h2,h3,h4,h5,h6⟩:=hI;refine AH (λc1=>?_) λc1=>rfl
  have c1:s.i<s.n:=A8
  rw [AJ (x:=s.i+1)];refine AH (λc2=>?_) λc2=>?_
  ·show _++E4 _ _ _=_++E4 _ _ _
   rw [(gi_step h0 (show s.i<M s.l by omega)).1]
   simp [E4,OX,c2]
  ·show _++E4 _ _ _=_++E4 _ _ _
   rw [(gi_step h0 (show s.i<M s.l by omega)).1]
   simp [E4,OX,c2]) s hE
def atm (s:Ja) (hE:Yt s):(Vy s).out=E4 s.gs s.p s.l:=by
 obtain ⟨s',_,q1,q2⟩:=atn s hE
 have q3:=ao1 s hE
 obtain ⟨h0,h1,h2,h3⟩:=hE;simp only at q3;rw [q2,show (Vy s).n=s.n from rfl,show (Vy s).l=s.l from rfl,El A0,h0,h1] at q3
 simpa [E4] using q3
def aJ6:List LV->T LV
 | [.xl (.int J) l,.fn 186 [.xq 5 q0,.xq 2 q1]]=>(match ([q0 0,q0 1,q0 2,q0 3,q0 4]:List LV) with
  | [.xl (.pair .str (.pair (.int J) (.pair (.int J) (.pair (.int J) (.pair (.pair (.int J) (.int J)) (.pair (.int J) (.pair (.int J) (.pair (.int J) (.pair (.int J) (.int J)))))))))) cs,.xl (.str) os,.xl (.pair .str (.pair (.int J) (.pair (.int J) (.int J)))) ks,.xl (.pair .str (.pair (.int J) (.pair (.int J) (.pair (.int J) (.pair (.int J) (.pair (.int J) (.pair (.int J) (.int J)))))))) gs,.xl (.pair .str (.int J)) bs]=>(match ([q1 0,q1 1]:List LV) with
  | [.v (Y J c),.v (Y J p)]=> .req (XO gs p l) (.ok<|.xl A7<|E4 gs p l)
  |_=> .no)
  |_=> .no)
 |_=> .no
def aqL (l:List Int) (cs:List Cd) (os:List ByteArray) (ks:List Ko) (gs:List Ch) (bs:List Ba) (c p:Int):letI a:=(Vy (⟨cs,os,ks,gs,bs,c,p,l,(M l:Int),(0:Int),([]:List Int)⟩:Ja));Bi prog AV (zl) kN (λi=>if i=3 then Qx.lp else Al i) f185 [.xl A7 l,.fn 186 [xQ 5 [cs,os,ks,gs,bs],xQ 2 [c,p]]]=.r0 Int (.req (Qx.q (⟨cs,os,ks,gs,bs,c,p,l,(M l:Int),(0:Int),([]:List Int)⟩:Ja))<|.rz a.out<|.ok<|.xl A7<|(a.out.drop 0).take<|M a.out):=AU
def auW:=vm (S:=aJ6) func185 zl kN (L:=(λi=>if i=3 then Qx.lp else Al i)) (λb hb=>by
 rw [show BD _=[aFt] by kernel_rfl] at hb
 simp only [B7,Bt,Bu] at hb;subst hb;exact apf) (λargs lv h=>by
 refine ⟨?_⟩;unfold aJ6 at h;split at h
 ·split at h
  case h_2=>cases h
  rename_i heq0;split at h
  case h_2=>cases h
  rename_i heq1;simp only [canL,canX];rw [Dn (n:=5) heq0];simp only [canL,canX];rw [Dn (n:=2) heq1];simp only [canL,canX];rw [aqL];obtain ⟨⟨hp,hl,hm⟩,rfl⟩:=h;refine ⟨A9,Lf ⟨⟨rfl,rfl,rfl,AZ,hp,hm⟩,rfl,rfl⟩ λhE=>⟨A0,?_⟩⟩
  show LV.xl _ _=_
  rw [CP,EN,atm _ hE.1]
 ·cases h)
def zC:Array Tmp×Code×Code:=((It<|f152.body.getD .skip)[0]?).getD (#[],.skip,.skip)
def ajC:Array Tmp:=zC.1
def ak6:Code:=zC.2.1
def aii:Code:=zC.2.2
structure OE where
 (n c:Int)
 Ei:List Cd
 Ob:List ByteArray
 OP:List Ko
 DD:List Ch
 Od:List Ba
 below:List Int
 K2:List Cd
 K8:List ByteArray
 K7:List Ko
 K6:List Ch
 KI:List Ba
 rows:List Rw
 st:LS
def lZ (s:OE):T (Rd OE):=letI a:=Q4 s.Ei s.Ob s.OP s.DD s.Od s.c;letI b:=Dz<|Ag s.Ei s.c;letI d:=(b,E4 s.DD (0:Int) a);letI e:=(b,E4 s.DD (1:Int) a);letI f:=(b,E4 s.DD (2:Int) a);letI g:=(an<|(M (E4 s.DD (2:Int) a):Int)>0);letI h:=s.rows++([d]);letI i:=M s.rows+M ([d])+M ([e]);letI j:=AA<|s.c+1;letI k:=M s.rows+M ([d])+M ([e])+M ([f]);letI l:=M s.Ei;letI m:=M s.rows+M ([d]);letI o:=s.rows++([e]);letI p:=(XO s.DD (2:Int) a);letI q:=M s.rows+M ([d])+M ([f]);letI r:=M s.rows+M ([e])+M ([f]);letI t:=(an<|(M (E4 s.DD (1:Int) a):Int)>0);letI u:=h++([e]);letI v:=M s.rows+M ([e]);letI w:=M s.rows;.br (an<|s.c<s.n) (.req (XO s.DD (0:Int) a)<|.br (an<|(M (E4 s.DD (0:Int) a):Int)>0) (.ix s.c l<|.rb w (M<|[d]) 32<|.req (XO s.DD (1:Int) a)<|.br t (.ix s.c l<|.ra m (M h) i 32<|.req p<|.br g (.ix s.c l<|.ra i (M u) k 32<|.re k (u++([f]))<|.nx {s with c:=j,below:=a,rows:=(u++([f]))})<|.re i u<|.nx {s with c:=j,below:=a,rows:=u})<|.req p<|.br g (.ix s.c l<|.ra m (M h) q 32<|.re q (h++([f]))<|.nx {s with c:=j,below:=a,rows:=(h++([f]))})<|.re m h<|.nx {s with c:=j,below:=a,rows:=h})<|.req (XO s.DD (1:Int) a)<|.br t (.ix s.c l<|.rb w (M<|[e]) 32<|.req p<|.br g (.ix s.c l<|.ra v (M o) r 32<|.re r (o++([f]))<|.nx {s with c:=j,below:=a,rows:=(o++([f]))})<|.re v o<|.nx {s with c:=j,below:=a,rows:=o})<|.req p<|.br g (.ix s.c l<|.rb w (M<|[f]) 32<|.re (M s.rows+M ([f])) (s.rows++([f]))<|.nx {s with c:=j,below:=a,rows:=(s.rows++([f]))})<|.rl s.rows<|.nx {s with c:=j,below:=a})<|.rl s.rows<|.so (.exit 0) s
def mL (s:OE):Prop:=s.st=.ready/\s.c=0/\s.rows=[]/\BL s.Ei s.Ob s.OP s.DD s.Od=U/\s.n=(M s.Ei:Int)
def bH (s:OE):Prop:=s.st=.ready/\(0<=s.c/\s.c<=s.n)/\s.rows=DH s.Ei s.DD s.c.toNat/\BL s.Ei s.Ob s.OP s.DD s.Od=U/\s.n=(M s.Ei:Int)
def zc (s:OE):Nat:=(s.n-s.c).toNat
def wU (x:Ex) (s s':OE):Prop:=x=.exit 0/\s'.rows=DH s'.Ei s'.DD (M s'.Ei)
def amc:∀s,mL s->bH s:=by
 rintro s ⟨h0,h1,h2,h3,h4⟩
 exact ⟨h0,A0,by rw [h1,h2];rfl,h3,h4⟩
theorem ajQ:Da bH zc wU lZ:=by
 intro s hI;unfold lZ;obtain ⟨h0,⟨h1,h2⟩,h3,h4,h5⟩:=hI;refine AH (λc1=>?_) λc1=>?_
 rotate_left
 ·have c1:s.n<=s.c:=AX
  exact ⟨rfl,A8⟩
 have c1:s.c<s.n:=AX
 have hl:=(DF.1 h4).1
 rw [AJ (x:=s.c+1)]
 have eb:Q4 s.Ei s.Ob s.OP s.DD s.Od s.c=H8 s.Ei s.DD s.c (M s.DD):=by
  unfold Q4
  grind
 rw [eb]
 have fin:∀r:List Rw,r=DH s.Ei s.DD s.c.toNat++(rowP s.Ei s.DD s.c 0++rowP s.Ei s.DD s.c 1++rowP s.Ei s.DD s.c 2)->r=DH s.Ei s.DD (s.c+1).toNat:=λr hr=>by
  rw [hr,show (s.c+1).toNat=s.c.toNat+1 by omega,DH,CM h1]
  rfl
 refine AH (λc2=>?_) (λc2=>?_)<;>refine AH (λc3=>?_) (λc3=>?_)<;>refine AH (λc4=>?_) λc4=>?_
 all_goals
  refine ⟨⟨h0,⟨AZ,AZ⟩,?_,h4,h5⟩,by simp only [zc];omega⟩
  simp only [Ac,Cy] at c2 c3 c4;refine fin _ ?_;simp only [h3,rowP]
  first|rw [AD A0] |rw [AE A0]
  first|rw [AD A0] |rw [AE A0]
  first|rw [AD A0] |rw [AE A0]
  grind
def aW:AT OE:=⟨5,22,[0,7,8],[.nc 1 0 301 Ed,.pc 2 0 A7,.pk 0],λs=>[.CK 4,s.n,s.c],λs=>[⟨[s.Ei,s.Ob,s.OP,s.DD,s.Od],28,.cl,U⟩,⟨[.os 5 2 0<|M s.rows],273,.cl,X⟩,⟨[.xl A7 s.below],29,.cl,X⟩,⟨[s.K2,s.K8,s.K7,s.K6,s.KI],28,.cl,X⟩,⟨[.junk,.own 0 0,.junk,.junk,.own 1 0,.own 2 0,.v<|.tuple #[],.v<|.tuple #[],.junk,.junk,.junk,.junk,.junk,.v<|.tuple #[],.v<|.tuple #[],.v<|.tuple #[],.v<|.tuple #[],.v<|.tuple #[],.v<|.tuple #[],.v<|.tuple #[],.v<|.tuple #[],.v<|.tuple #[],.v<|.tuple #[],.junk,.v<|.tuple #[],.v<|.tuple #[],.v<|.tuple #[],.v<|.tuple #[],.v<|.tuple #[],.v<|.tuple #[],.v<|.tuple #[],.v<|.tuple #[],.v<|.tuple #[],.v<|.tuple #[],.v<|.tuple #[],.v<|.tuple #[],.v<|.tuple #[],.v<|.tuple #[],.v<|.tuple #[],.v<|.tuple #[],.v<|.tuple #[],.v<|.tuple #[],.junk],0,.Cc ajC ak6 aii s.st,X⟩,bV 301 Ed s.rows],λv b=>⟨AK v 1,AK v 2,AF Ad b 0 0,AF .str b 0 1,AF Ai b 0 2,AF Ae b 0 3,AF Aj b 0 4,AF A7 b 2 0,AF Ad b 3 0,AF .str b 3 1,AF Ai b 3 2,AF Ae b 3 3,AF Aj b 3 4,Ab Ed b 5,.ready⟩,lZ,λs r=> {r with n:=s.n,Ei:=s.Ei,Ob:=s.Ob,OP:=s.OP,DD:=s.DD,Od:=s.Od,K2:=s.K2,K8:=s.K8,K7:=s.K7,K6:=s.K6,KI:=s.KI,st:=s.st},λs=> {s with st:=.ready},λx s=> {s with st:=(match x with| .exit 0=> .ready|_=> .ready)},[.exit 0],mL,bH,zc⟩
abbrev p0:=aW.run
abbrev agh:=aW.Av
def UD:List Bd:=[P1,qj,ap8,auW,aJf]
def alB:Ay:=kI UD<|l0 UD
def air:Rq bH lZ:=by
 intro s hI;refine ⟨λc1=>⟨?_,λc2=>⟨?_,?_,?_,λc3=>⟨?_,?_,?_,λc4=>⟨?_,?_,?_,ak⟩,λc4=>⟨?_,ak⟩⟩,λc3=>⟨?_,λc5=>⟨?_,?_,?_,ak⟩,λc5=>⟨?_,ak⟩⟩⟩,λc2=>⟨?_,λc6=>⟨?_,?_,?_,λc7=>⟨?_,?_,?_,ak⟩,λc7=>⟨?_,ak⟩⟩,λc6=>⟨?_,λc8=>⟨?_,?_,?_,ak⟩,λc8=>⟨A9,ak⟩⟩⟩⟩,λc1=>⟨A9,ak⟩⟩
 all_goals ((obtain ⟨h0,⟨h1,h2⟩,h3,h4,h5⟩:=hI;have hl:=(DF.1 h4).1;(try simp only [Ac] at c1);have hr:M s.rows<=3*s.c.toNat:=(by rw [h3];exact o6);have eb:Q4 s.Ei s.Ob s.OP s.DD s.Od s.c=H8 s.Ei s.DD s.c (M s.DD):=(by unfold Q4;rw [AD ⟨h4,h1,A0⟩]);first|omega|((try simp only);rw [eb];refine ⟨Aa,HZ pM A0,λk hk=>aFv hk⟩) |(refine ⟨A0,?_,?_⟩<;>simp only [BF,Bk,Bp]<;>omega) |(simp only [BF,Bk,Bp];omega) |exact ⟨rfl,AI⟩ |exact ⟨rfl,rfl⟩))
def abQ:aW.Ok:={}
def aTn:aW.Pf (wU):=⟨amc,λs h=>by
 obtain ⟨n,c,Ei,Ob,OP,DD,Od,below,K2,K8,K7,K6,KI,rows,st⟩:=s
 have e:=h.1
 subst e;rfl,ajQ,air⟩
def awC:=s2 (b:=bN f114 0) abQ aTn UD alB
def avh:Fi mL bH wU agh p0:=AT.fin abQ aTn
def aJB:List LV->T LV
 | .agg a::r=>s5 a λcs os ks gs bs=>(match r with
  | []=> .ok (.AO [.xl Ed<|JX cs os ks gs bs,OI cs os ks gs bs])
  |_=> .no)
 |_=> .no
def alA:Ay:=kI UD<|la 1 func114 awC<|l0 UD
def WS:=vo (S:=aJB) func152 UD alA (λargs lv h=>by
 unfold aJB at h;split at h
 case h_2=>cases h
 replace h:=IE h
 obtain ⟨cs,os,ks,gs,bs,rfl,h⟩:=h;split at h
 ·refine Aq (letI a:=(p0 (⟨(M cs:Int),0,cs,os,ks,gs,bs,([]:List Int),cs,os,ks,gs,bs,([]:List Rw),.ready⟩:OE));.br (!(BL cs os ks gs bs)) (.ok<|.AO [.xl Ed ([]:List Rw),(1:Int)])<|.r0 Rw<|.req (aW.q (⟨(M cs:Int),0,cs,os,ks,gs,bs,([]:List Int),cs,os,ks,gs,bs,([]:List Rw),.ready⟩:OE))<|.rz a.rows<|.ok<|.AO [.xl Ed<|(a.rows.drop 0).take<|M a.rows,(0:Int)]) ?_
  obtain rfl:=h;refine ⟨λc=>?_,λc=>?_⟩
  ·have c:BL cs os ks gs bs=false:=A8
   unfold JX OI;rw [c];rfl
  ·have c:BL cs os ks gs bs=true:=A8
   have hE:mL ⟨(M cs:Int),0,cs,os,ks,gs,bs,([]:List Int),cs,os,ks,gs,bs,([]:List<|Int×(List Int)),.ready⟩:=⟨rfl,rfl,rfl,c,rfl⟩
   obtain ⟨s',_,q1,q2⟩:=avh _ hE
   have q2:(p0 ⟨(M cs:Int),0,cs,os,ks,gs,bs,([]:List Int),cs,os,ks,gs,bs,([]:List<|Int×(List Int)),.ready⟩).rows=DH cs gs (M cs):=q2
   refine ⟨A9,⟨hE,rfl,rfl⟩,A0,?_⟩
   show LV.AO [LV.xl _ _,_]=_
   unfold JX OI
   grind
 ·cases h)
def aDv:List LV->T LV
 | [.v (Y J n),.v (Y J a),.v (Y J b)]=> .ok (inB n a b)
 |_=> .no
def KU:List Bd:=[]
def cF:=vo (S:=aDv) func45 KU kN (λargs lv h=>by
 unfold aDv at h;split at h
 ·rename_i n a b
  refine Aq (.ok<|.v<|.bool<|(an<|n>=a)&&(an<|n<=b)) ?_;exact h
 ·cases h)
def aRh:List LV->T LV
 | [.v (.agg ⟨[.string nm,Y J at_,Y J ph,Y J mn,Y J mx,Y J st,Y J fb,Y J ow]⟩)]=> .ok (IW ph mn mx st fb)
 |_=> .no
def akw:List Bd:=[cF]
def aaO:=vo (S:=aRh) func44 akw kN (λargs lv h=>by
 unfold aRh at h;split at h
 ·rename_i nm at_ ph mn mx st fb ow
  refine Aq (.ok<|.v<|.bool<|(inB ph (1:Int) (7:Int))&&((inB mn (1:Int) (80:Int))&&((inB mx (1:Int) (80:Int))&&((inB st (1:Int) (80:Int))&&((an<|mn<=mx)&&((fb==0) ||(inB fb mn mx))))))) ?_;exact h
 ·cases h)
def aFR:List LV->T LV
 | []=> .ok (.v<|.agg #[(0:Int),(0:Int),(0:Int),X])
 |_=> .no
def an7  :Bi prog AV KU kN Al f28 []=.ok (.v<|.agg #[(0:Int),(0:Int),(0:Int),X]):=AU
def WK:=vo (S:=aFR) func28 KU kN (λargs lv h=>by
 refine ⟨?_⟩;unfold aFR at h;split at h
 ·simp only [canL]
  rwa [an7]
 ·cases h)
def aSM:List LV->T LV
 | [.v (.agg ⟨[.string nm,Y J at_,Y J ph,Y J mn,Y J mx,Y J st,Y J fb,Y J ow]⟩),.v (.agg ⟨[Y J 0,Y J 0,Y J 0,.bool X]⟩)]=> .ok (IW ph mn mx st fb)
 |_=> .no
def akv:List Bd:=[WK,aaO,cF]
def aiO:=vo (S:=aSM) func23 akv kN (λargs lv h=>by
 unfold aSM at h;split at h
 ·rename_i nm at_ ph mn mx st fb ow
  refine Aq (.br (!(IW ph mn mx st fb)) (.ok X)<|.br (((0:Int)==0)&&(((0:Int)==0)&&(((0:Int)==0)&&(X==X)))) (.ok U)<|.ok<|.v<|.bool<|(inB (0:Int) (0:Int) (5:Int))&&((inB (0:Int) (0:Int) (1000000:Int))&&((inB (0:Int) (0:Int) mx)&&(if (0:Int) !=0 then (!X) ||((0:Int)==5) else ((0:Int)==0)&&((!X) ||((0:Int)==5)))))) ?_
  obtain rfl:=h;refine ⟨λhb=>?_,λhb=>⟨λ_=>?_,λhf=>absurd hf Aa⟩⟩
  ·show LV.v (.bool X)=_
   rw [show IW _ _ _ _ _=X by simpa using hb]
  ·show LV.v (.bool U)=_
   rw [show IW _ _ _ _ _=U by simpa using hb]
 ·cases h)
def aJC:List LV->T LV
 | [.v (.agg ⟨[.string nm,Y J at_,Y J ph,Y J mn,Y J mx,Y J st,Y J fb,Y J ow]⟩),.v (Y J am)]=> .req (chP mn mx st) (.ok<|EZ mn mx st am)
 |_=> .no
def aJh:=vo (S:=aJC) func159 KU kN (λargs lv h=>by
 unfold aJC at h;split at h
 ·rename_i nm at_ ph mn mx st fb ow am
  refine Aq (.br (an<|am<mn) (.ok (0:Int))<|.req (st≠0)<|.ok<|AA<|(if mx<am then mx else am)-((AA<|(if mx<am then mx else am)-mn).tmod st)) ?_
  obtain ⟨hc,rfl⟩:=h;refine ⟨λhb=>?_,λhb=>⟨by unfold chP at hc;omega,?_⟩⟩
  ·exact B0 (λz=>LV.v<|Y J z)<|ahb A8
  ·exact B0 (λz=>LV.v<|Y J z)<|aha hc A8
 ·cases h)
def aSW:List LV->T LV
 | [.v (.agg ⟨[.string nm,Y J at_,Y J ph,Y J mn,Y J mx,Y J st,Y J fb,Y J ow]⟩),.v (.agg ⟨[Y J a,Y J si]⟩)]=> .ok (IU ph mn mx st fb a si)
 |_=> .no
def aku:List Bd:=[aiO,WK,aJh]
def aaR:=vo (S:=aSW) func154 aku kN (λargs lv h=>by
 unfold aSW at h;split at h
 ·rename_i nm at_ ph mn mx st fb ow a si
  refine Aq (.br ((!(IW ph mn mx st fb)) ||((an<|si<0) ||((an<|si>1000000) ||(an<|a<0)))) (.ok X)<|.req (chP mn mx st)<|.ok<|.v<|.bool<|(EZ mn mx st a)==a) ?_;obtain rfl:=h;refine ⟨λhb=>?_,λhb=>⟨?_,?_⟩⟩
  ·exact B0 (λz=>LV.v<|.bool z)<|amB hb
  ·exact (aK2 hb).1
  ·exact B0 (λz=>LV.v<|.bool z) (aK2 hb).2
 ·cases h)
def aFW:List LV->T LV
 | [.v (.bool b)]=> .ok (.v<|Y J (if b then (1:Int) else 0))
 |_=> .no
def ap5:=vo (S:=aFW) func164 KU kN (λargs lv h=>by
 unfold aFW at h;split at h
 ·rename_i b
  refine Aq (.br b (.ok (1:Int))<|.ok (0:Int)) ?_;obtain rfl:=h;cases b
  ·exact ⟨λhb=>L4,λ_=>rfl⟩
  ·exact ⟨λ_=>rfl,λhb=>L4⟩
 ·cases h)
def aSg:List LV->T LV
 | [.xq 8 q0]=>(match ([q0 0,q0 1,q0 2,q0 3,q0 4,q0 5,q0 6,q0 7]:List LV) with
  | [.v (.string nm),.v (Y J at_),.v (Y J ph),.v (Y J mn),.v (Y J mx),.v (Y J st),.v (Y J fb),.v (Y J ow)]=> .ok (.v<|.agg #[mn,(0:Int)])
  |_=> .no)
 |_=> .no
def ayf (nm:ByteArray) (at_ ph mn mx st fb ow:Int):Bi prog AV KU kN Al f160 [xQ 8 [.v<|.string nm,at_,ph,mn,mx,st,fb,ow]]=.ok (.v<|.agg #[mn,(0:Int)]):=AU
def aiE:=vo (S:=aSg) func160 KU kN (λargs lv h=>by
 refine ⟨?_⟩;unfold aSg at h;split at h
 ·split at h
  case h_2=>cases h
  rename_i heq0;simp only [canL,canX];rw [Dn (n:=8) heq0];simp only [canL,canX]
  rwa [ayf]
 ·cases h)
def aSf:List LV->T LV
 | [.xq 1 q0]=>(match ([q0 0]:List LV) with
  | [.v (Y J lo)]=> .ok (.v<|.agg #[(0:Int),lo])
  |_=> .no)
 |_=> .no
def aye (lo:Int):Bi prog AV KU kN Al f161 [xQ 1 [lo]]=.ok (.v<|.agg #[(0:Int),lo]):=AU
def aiD:=vo (S:=aSf) func161 KU kN (λargs lv h=>by
 refine ⟨?_⟩;unfold aSf at h;split at h
 ·split at h
  case h_2=>cases h
  rename_i heq0;simp only [canL,canX];rw [Dn (n:=1) heq0];simp only [canL,canX]
  rwa [aye]
 ·cases h)
def aSe:List LV->T LV
 | []=> .ok (.v<|.agg #[(0:Int),(0:Int)])
 |_=> .no
def axM  :Bi prog AV KU kN Al f162 []=.ok (.v<|.agg #[(0:Int),(0:Int)]):=AU
def aiC:=vo (S:=aSe) func162 KU kN (λargs lv h=>by
 refine ⟨?_⟩;unfold aSe at h;split at h
 ·simp only [canL]
  rwa [axM]
 ·cases h)
def aSd:List LV->T LV
 | [.xq 1 q0,.xq 2 q1,.xq 8 q2,.xq 1 q3]=>(match ([q0 0]:List LV) with
  | [.v (Y J lv)]=>(match ([q1 0,q1 1]:List LV) with
  | [.v (Y J a),.v (Y J si)]=>(match ([q2 0,q2 1,q2 2,q2 3,q2 4,q2 5,q2 6,q2 7]:List LV) with
  | [.v (.string nm),.v (Y J at_),.v (Y J ph),.v (Y J mn),.v (Y J mx),.v (Y J st),.v (Y J fb),.v (Y J ow)]=>(match ([q3 0]:List LV) with
  | [.v (Y J lo)]=> .ok (.v<|.agg #[Y J (if AA (a+st)<lv then AA (a+st) else lv),lo])
  |_=> .no)
  |_=> .no)
  |_=> .no)
  |_=> .no)
 |_=> .no
def axL (lv a si:Int) (nm:ByteArray) (at_ ph mn mx st fb ow lo:Int):Bi prog AV KU kN Al f163 [xQ 1 [lv],xQ 2 [a,si],xQ 8 [.v<|.string nm,at_,ph,mn,mx,st,fb,ow],xQ 1 [lo]]=.ok (.v<|.agg #[Y J (if (AA<|a+st)<lv then AA (a+st) else lv),lo]):=AU
def aiB:=vo (S:=aSd) func163 KU kN (λargs lv h=>by
 refine ⟨?_⟩;unfold aSd at h;split at h
 ·split at h
  case h_2=>cases h
  rename_i heq0;split at h
  case h_2=>cases h
  rename_i heq1;split at h
  case h_2=>cases h
  rename_i heq2;split at h
  case h_2=>cases h
  rename_i heq3;simp only [canL,canX];rw [Dn (n:=1) heq0];rw [Dn (n:=2) heq1];rw [Dn (n:=8) heq2];rw [Dn (n:=1) heq3];simp only [canL,canX]
  rwa [axL]
 ·cases h)
def azA {a l si:Int}:Ue ((if (a !=0) then (1:Int) else 0).toNat*4+((if (l !=0) then (1:Int) else 0).toNat*2+((if (an<|si>=5) then (1:Int) else 0).toNat*1+0)))=if a=0 then (if l=0 then 1 else if 5<=si then 0 else 1) else if l=0 then 2 else 3:=by
 by_cases c1:a=0<;>by_cases c2:l=0<;>by_cases c3:5<=si<;>simp [c1,c2,c3,Ue]
def aJK:List LV->T LV
 | [.v (.agg ⟨[.string nm,Y J at_,Y J ph,Y J mn,Y J mx,Y J st,Y J fb,Y J ow]⟩),.v (.agg ⟨[Y J a,Y J si]⟩),.v (Y J want)]=> .tu #[.agg #[nA ph mn mx st fb a si want,nS ph mn mx st fb a si want],nE ph mn mx st fb a si want]
 |_=> .no
def akt:List Bd:=[aaR,aJh,aiE,aiD,aiC,aiB,ap5]
def aur:=vo (S:=aJK) func120 akt kN (λargs lv h=>by
 unfold aJK at h;split at h
 ·rename_i nm at_ ph mn mx st fb ow a si want
  refine Aq (letI d:=EZ mn mx st want;letI e:=an<|si>=5;letI c:=(Ue<|(if (a !=0) then (1:Int) else 0).toNat*4+((if (d !=0) then (1:Int) else 0).toNat*2+((if e then (1:Int) else 0).toNat*1+0)));.br ((!(IU ph mn mx st fb a si)) ||((an<|want<0) ||(an<|want>80))) (.tu #[.agg #[(0:Int),(0:Int)],(1:Int)])<|.req (chP mn mx st)<|.req (0<=(if (a !=0) then (1:Int) else 0)/\(if (a !=0) then (1:Int) else 0)<(2:Int))<|.req (0<=(if (d !=0) then (1:Int) else 0)/\(if (d !=0) then (1:Int) else 0)<(2:Int))<|.req (0<=(if e then (1:Int) else 0)/\(if e then (1:Int) else 0)<(2:Int))<|.br (c==0) (.tu #[.agg #[mn,(0:Int)],(0:Int)])<|.br (c==1) (.tu #[.agg #[(0:Int),Y J (if (1000000:Int)<(AA<|si+1) then 1000000 else AA (si+1))],(0:Int)])<|.br (c==2) (.tu #[.agg #[(0:Int),(0:Int)],(0:Int)])<|.br (c==3) (.tu #[.agg #[Y J (if AA (a+st)<d then AA (a+st) else d),Y J (if (1000000:Int)<(AA<|si+1) then 1000000 else AA (si+1))],(0:Int)])<|.no) ?_
  obtain rfl:=h
  by_cases hk:okB ph mn mx st fb a si want=U
  ·obtain ⟨k1,k2,k3,k4,k5⟩:=aqu hk
   have w1:AA (si+1)=si+1:=AJ
   have w2:AA (a+st)=a+st:=AJ
   have i0:∀b:Bool,0<=(if b=U then (1:Int) else 0)/\(if b=U then (1:Int) else 0)<2:=λb=>by cases b<;>simp
   simp only [T.all,nA,nS,nE,k1,w1,w2,hk,aGm,Bm,azA,i0,FA]
   grind
  ·have hn:=aqv hk
   simp only [T.all,nA,nS,nE,hk,hn]
   simp
 ·cases h)
def aSL:List LV->T LV
 | [.v (Y J n),.v (Y J a),.v (Y J b)]=> .ok (inB n a b)
 |_=> .no
def akp:List Bd:=[]
def aTu:=vo (S:=aSL) func153 akp kN (λargs lv h=>by
 unfold aSL at h;split at h
 ·rename_i n a b
  refine Aq (.ok<|.v<|.bool<|(an<|n>=a)&&(an<|n<=b)) ?_;exact h
 ·cases h)
def aRg:List LV->T LV
 | [.v (.agg ⟨[.bool wa,Y J ow,Y J le,Y J ra]⟩)]=> .ok (HR (wa,ow,le,ra))
 |_=> .no
def ako:List Bd:=[aTu]
def ai5:=vo (S:=aRg) func155 ako kN (λargs lv h=>by
 unfold aRg at h;split at h
 ·rename_i wa ow le ra
  refine Aq (.ok<|.v<|.bool<|(inB ow (0:Int) (1000000000:Int))&&((inB le (0:Int) (1000000:Int))&&(inB ra (1:Int) (9:Int)))) ?_;exact h
 ·cases h)
structure Mb where
 cs:List Cd
 os:List ByteArray
 ks:List Ko
 gs:List Ch
 bs:List Ba
 l:List Le
 d:List Dm
 t:Int
 od:List Int
 ak1:List Ra
 r:Bool
 n:Int
 m:List Le
 (k i:Int)
def aFj:=bN f118 0
def vd (s:Mb):T (Rd Mb):=
 .br (an<|s.i<s.k) (.ix s.i (M s.m)<|.br (an<|(An s.m s.i).2.1>=s.n) (.so (.ret) {s with r:=X})<|.nx {s with i:=AA<|s.i+1}) (.so (.exit 0) s)
def Tj (s:Mb) (j:Int):Bool:=an<|(An s.m j).2.1<s.n
def iN (s:Mb):Prop:=s.i=0/\0<=s.k/\s.k<=1000/\s.k=(M s.m:Int)
def Y4 (s:Mb):Prop:=0<=s.i/\s.i<=s.k/\s.k<=1000/\(s.k=(M s.m:Int))/\∀j:Nat,(j:Int)<s.i->Tj s j=U
def su (s:Mb):Nat:=(s.k-s.i).toNat
def aAh (x:Ex) (s s':Mb):Prop:=(x=.exit 0/\∀j:Nat,(j:Int)<s'.k->Tj s' j=U)\/(x=.ret/\s'.r=X/\∃j:Nat,(j:Int)<s'.k/\Tj s' j=X)
def alf:∀s,iN s->Y4 s:=by
 exact L3
theorem ah0:Da Y4 su aAh vd:=by
 intro s hI;obtain ⟨h0,h1,h2,h3,h4⟩:=hI;refine AH (λc1=>AH (λc2=>?_) λc2=>?_) λc1=>?_
 ·have c1:s.i<s.k:=AX
  refine .inr ⟨rfl,rfl,s.i.toNat,A8,?_⟩
  have hg:Tj s s.i=false:=aND
  exact hg
 ·have c1:s.i<s.k:=AX
  have hg:Tj s s.i=true:=aND
  rw [AJ (x:=s.i+1)];refine ⟨⟨A8,A8,h2,h3,λj hj=>?_⟩,by simp only [su];omega⟩
  exact L2
 ·have c1:s.k<=s.i:=AX
  exact Zf
end Go.Proofs.YtipodhghjclmbaaGreatDoor
end
