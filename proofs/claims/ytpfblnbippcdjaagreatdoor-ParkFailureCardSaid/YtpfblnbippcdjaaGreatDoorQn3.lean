/- Helpers for ParkFailure. Conditions: none. -/
import Derived.Test.YtpfblnbippcdjaaGreatDoorQn2
set_option linter.defProp false
set_option linter.unusedVariables false
set_option linter.unusedSimpArgs false
noncomputable section
open List renaming length→M,length→aa,replicate→aq,range→au
open Bool renaming true→U,true→ae,false→X,false→af
open Go.Value renaming int→Y,int→ag
open Option renaming some→ah,none→aj
open Go.IntKind renaming i64→J,i64→ai,u8→aw,u32→ax
open True renaming intro→ak
open Decidable renaming decide→an
open ByteArray renaming mk→av
open Go.Region renaming ready→ay,wanted→az
open Go.Instr renaming findNow→aA
namespace Go.Proofs.YtpfblnbippcdjaaGreatDoor
set_option maxRecDepth 100000
set_option maxHeartbeats 4000000
open Go.Proofs.Tryz
open Go.Sx
def De (mi ma st:Int):Bool:=an (1<=mi)&&(an (mi<=ma)&&(an (ma<=80)&&(an (1<=st)&&an (st<=80))))
def I3 {mi ma st:Int}:De mi ma st=U↔1<=mi/\mi<=ma/\ma<=80/\1<=st/\st<=80:=by simp [De]
def EE (mi ma st:Int):Int:=if De mi ma st then (ma-mi) / st+2 else 0
def Dq (mi st k:Int):Int:=if k=0 then 0 else mi+(k-1)*st
def amE (mi ma st k:Int):Int:=if k<0\/EE mi ma st<=k then 1 else 0
def amA (mi ma st k:Int):Int:=if k<0\/EE mi ma st<=k then 0 else Dq mi st k
def HC (mi ma st a:Int):Int:=if De mi ma st=X\/a<0 then -1 else if a<mi then 0 else min (EE mi ma st-1) ((a-mi) / st+1)
def oG {x st:Int}(h0:0<=x) (h1:1<=st):0<=x / st/\x / st<=x:=⟨SZ h0 A0,V2 _ h0⟩
def aQl {mi ma st:Int}:0<=EE mi ma st/\EE mi ma st<=81:=by
 unfold EE;split
 ·rename_i h
  exact aLK
 ·omega
def qE {mi ma st:Int}(h:De mi ma st=U):2<=EE mi ma st:=by
 unfold EE;rw [AD h];exact aLK
def aEO {mi ma st:Int}(h:De mi ma st=X):EE mi ma st=0:=by simp [EE,h]
def ay2 {a b:Int}(a0:0<=a) (a1:a<=1000) (b0:0<=b) (b1:b<=80):0<=a*b/\a*b<=80000:=
 ⟨IS a0 b0,L0 (Ux b1 a0) A0⟩
theorem aGQ (bs:ByteArray):∀(n i:Nat) (r:List UInt8),bs.size-i=n->ByteArray.toList.loop bs i r=r.reverse++bs.data.toList.drop i
 |0,i,r,h=>by
  rw [ByteArray.toList.loop,AE A0,Ef (by simp only [wb];show bs.size<=i;omega),GB]
 | n+1,i,r,h=>by
  have hi:i<M bs.data.toList:=by simp only [wb];show i<bs.size;omega
  rw [ByteArray.toList.loop,AD A0,aGQ bs n (i+1) _ A0,List.reverse_cons,Cm,SU hi]
  have:bs.get! i=bs.data.toList[i]:=by
   show bs.data[i]! =_
   grind
  rw [this];rfl
def aGR (bs:ByteArray):bs.toList=bs.data.toList:=by
 rw [ByteArray.toList,aGQ bs _ 0 [] rfl];rfl
def auL {a b:ByteArray}(h:a.toList=b.toList):a=b:=by
 rw [aGR,aGR] at h;cases a;cases b;simp at h;rw [h]
def uf {a b:ByteArray}:(a==b)=U↔a=b:=by
 show (a.data==b.data)=U↔_
 rw [Cz];exact ⟨λh=>by cases a;cases b;simp at h;rw [h],λh=>VR⟩
instance:LawfulBEq ByteArray where
 eq_of_beq h:=uf.1 h
 rfl:=uf.2 rfl
def Wq (a b:ByteArray):(a.toList==b.toList)=(a==b):=by
 rw [IP,Cz,uf];exact ⟨auL,λh=>VR⟩
def kinds:List ByteArray:=[av #[102,101,101,100,101,114],av #[99,97,98,108,101],av #[111,119,110,101,114],av #[99,111,110,116,114,97,99,116],av #[99,104,97,114,103,101,114],av #[98,97,121],av #[116,97,114,105,102,102]]
def hU:List ByteArray:=[av #[108,105,109,105,116],av #[110,101,117,116,114,97,108],av #[102,117,115,101],av #[116,104,101,114,109,97,108],av #[102,114,111,109],av #[97,116],av #[112,104,97,115,101,115],av #[97,109,112,115],av #[102,97,108,108,98,97,99,107],av #[111,119,110,101,114],av #[99,97,114,100],av #[114,97,110,107],av #[99,104,97,114,103,101,114]]
def oE:List ByteArray:=[av #[115,116,97,114,116],av #[101,110,101,114,103,121],av #[116,105,109,101],av #[105,100,108,101],av #[99,97,112],av #[116,97,120]]
def words:List ByteArray:=[av #[111,110],av #[119,111,114,107],av #[115,97,116,117,114,100,97,121],av #[115,117,110,100,97,121],av #[98,101,116,119,101,101,110],av #[112,101,114],av #[102,114,101,101]]
def isIn (l:List ByteArray) (w:ByteArray):Bool:=l.any (w== ·)
def Ud:Int->List ByteArray->ByteArray->Int
 |_,[],_=>0
 |n,x::l,w=>if w==x then n else Ud (n+1) l w
theorem aEV:∀(n:Int) (l:List ByteArray) (w:ByteArray),0<n->(Ud n l w !=0)=isIn l w
 |_,[],_,_=>rfl
 | n,x::l,w,h=>by
  simp only [Ud,isIn,ZI];split
  ·grind
  ·rename_i c
   have:=aEV (n+1) l w A0
   simp only [isIn] at this;rw [this]
   simp [c]
def aBV (w:ByteArray):Bool:=isIn kinds w ||(isIn hU w ||(isIn oE w ||isIn words w))
def chA (b:Int):Bool:=an (b>=97)&&an (b<=122)
def chB (b:Int):Bool:=chA b ||((an (b>=48)&&an (b<=57)) ||b==95)
def gwB (w:ByteArray):Bool:=an (1<=w.size/\w.size<=12)&&(chA (Jk w 0)&&(au w.size).all λi=>i==0 ||chB (Jk w i))
def nameB (w:ByteArray):Bool:=gwB w&&!aBV w
def LY {p q:Prop}(h:p) (k:p->q):p/\q:=⟨h,k h⟩
def D9 (n:Nat) (f:Int->Bool):Bool:=(au n).all λj=>f (j:Int)
theorem Di {n:Nat}{f:Int->Bool}:D9 n f=U↔∀j:Nat,(j:Int)<(n:Int)->f j=true:=by
 unfold D9
 grind
def Oq {n:Nat}{f:Int->Bool}(j:Nat) (h:(j:Int)<(n:Int)) (hf:f j=X):D9 n f=false:=by
 rw [Hw];intro hx;rw [Di.1 hx j h] at hf;cases hf
def cbZ (c:Cbl):Bool:=(c.1==0)&&((c.2.1==0)&&((c.2.2.1==0)&&((c.2.2.2.1==0)&&(c.2.2.2.2==0))))
def IL (c:Cbl):Bool:=cbZ c ||(an (0<=c.1)&&(an (c.1<c.2.1)&&(an (c.2.1<=200000)&&(inB c.2.2.1 0 1000&&(inB c.2.2.2.1 0 1000&&inB c.2.2.2.2 1 1000000)))))
def Hi (i:Int) (c:Cd):Bool:=(if i=0 then c.2.1==-1 else inB c.2.1 0 (i-1))&&(inB c.2.2.1 1 1000&&(inB c.2.2.2.1 1 1000&&(((c.2.2.2.2.1.1==0)&&(c.2.2.2.2.1.2==0) ||(inB c.2.2.2.2.1.1 1 1000&&inB c.2.2.2.2.1.2 0 1000000))&&IL c.2.2.2.2.2)))
def chW (c:Ch):Bool:=inB c.2.2.1 1 7&&(inB c.2.2.2.1 1 80&&(inB c.2.2.2.2.1 c.2.2.2.1 80&&(inB c.2.2.2.2.2.1 1 80&&(c.2.2.2.2.2.2.1==0 ||inB c.2.2.2.2.2.2.1 c.2.2.2.1 c.2.2.2.2.1))))
def G3 (nc no:Int) (c:Ch):Bool:=inB c.2.1 0 (nc-1)&&(inB c.2.2.2.2.2.2.2 0 (no-1)&&chW c)
def koV (no:Int) (c:Ko):Bool:=inB c.2.1 0 (no-1)&&(inB c.2.2.1 1 9&&inB c.2.2.2 1 1000000)
def once {α:Type} [BEq α] (l:List α):Bool:=(au<|M l).all λj=>match l[j]? with
 |some x=>!((l.take j).contains x)
 |none=>U
theorem oq {α:Type} [BEq α] [LawfulBEq α] {l:List α}:once l=U↔∀(j:Nat) (h:j<M l),¬l[j]∈l.take j:=by
 unfold once;rw [BR];refine ⟨λh j hj hm=>?_,λh j hj=>?_⟩
 ·have:=h j (IQ.2 hj)
  rw [DR hj] at this;simp only [Ct] at this;rw [ZM.2 hm] at this;cases this
 ·have hj:=IQ.1 hj
  grind
def Lz (cs:List Cd) (os:List ByteArray) (ks:List Ko) (gs:List Ch) (bs:List Ba):Bool:=
 D9 (M cs) (λj=>Hi j<|Al cs j)&&(ks.all (koV<|M os)&&(once (ks.map (·.2.2.2))&&(gs.all (G3 (M cs)<|M os)&&bs.all (λb=>inB b.2 0<|(M gs:Int)-1))))
def LG (cs:List Cd) (os:List ByteArray) (ks:List Ko) (gs:List Ch) (bs:List Ba):List ByteArray:=cs.map (·.1)++os++ks.map (·.1)++gs.map (·.1)++bs.map (·.1)
def BI (cs:List Cd) (os:List ByteArray) (ks:List Ko) (gs:List Ch) (bs:List Ba):Bool:=
 an (1<=M cs/\M cs<=16/\M os<=8/\M ks<=32/\M gs<=16/\M bs<=24)&&((LG cs os ks gs bs).all nameB&&(once (LG cs os ks gs bs)&&Lz cs os ks gs bs))
theorem ahp {nm:ByteArray}{i up li ne ra he am mo ga lo de:Int}(hi:0<=i) {K:Bool->Prop}(h:K<|Hi i (nm,up,li,ne,(ra,he),am,mo,ga,lo,de)):
  ((if i==0 then (up !=(-1)) ||((an<|i>0)&&((an<|up<0) ||(an<|up>=i))) else (an<|i>0)&&((an<|up<0) ||(an<|up>=i)))=U->K X)/\
  ((if i==0 then (up !=(-1)) ||((an<|i>0)&&((an<|up<0) ||(an<|up>=i))) else (an<|i>0)&&((an<|up<0) ||(an<|up>=i)))=X->
   (((!(inB li (1:Int) (1000:Int))) ||(!(inB ne (1:Int) (1000:Int))))=U->K X)/\
   (((!(inB li (1:Int) (1000:Int))) ||(!(inB ne (1:Int) (1000:Int))))=X->
    (((!((ra==0)&&(he==0)))&&(!(inB ra (1:Int) (1000:Int)) ||(!(inB he (0:Int) (1000000:Int)))))=U->K X)/\
    (((!((ra==0)&&(he==0)))&&(!(inB ra (1:Int) (1000:Int)) ||(!(inB he (0:Int) (1000000:Int)))))=X->
     (((am==0)&&((mo==0)&&((ga==0)&&((lo==0)&&(de==0)))))=U->K U)/\
     (((am==0)&&((mo==0)&&((ga==0)&&((lo==0)&&(de==0)))))=X->K ((inB am (0:Int) (200000:Int))&&((inB mo (0:Int) (200000:Int))&&((inB ga (0:Int) (1000:Int))&&((inB lo (0:Int) (1000:Int))&&((inB de (1:Int) (1000000:Int))&&(an<|mo>am)))))))))):=by
 have e1:(if i==0 then (up !=(-1)) ||((an<|i>0)&&((an<|up<0) ||(an<|up>=i))) else (an<|i>0)&&((an<|up<0) ||(an<|up>=i)))=!(if i=0 then up==-1 else inB up 0 (i-1)):=by
  by_cases h0:i=0
  ·grind
  ·have:(i==0)=false:=by simpa using h0
   rw [this,AE h0,IP]
   simp [inB]
   omega
 rw [e1];unfold Hi at h;simp only at h;generalize (if i=0 then up==-1 else inB up 0 (i-1))=b1 at*
 refine ⟨λc=>?_,λc=>⟨λc2=>?_,λc2=>⟨λc3=>?_,λc3=>⟨λc4=>?_,λc4=>?_⟩⟩⟩⟩
 ·grind
 all_goals
  have c:b1=true:=IT
  rw [c,E9] at h
 ·have:(inB li 1 1000&&inB ne 1 1000)=false:=A8
  grind
 all_goals
  have c2:inB li 1 1000=U/\inB ne 1 1000=true:=EA
  rw [c2.1,c2.2,E9,E9] at h
 ·have:((ra==0)&&(he==0) ||(inB ra 1 1000&&inB he 0 1000000))=false:=by
   grind
  grind
 all_goals
  have:((ra==0)&&(he==0) ||(inB ra 1 1000&&inB he 0 1000000))=true:=by
   grind
  rw [this,E9] at h
 ·unfold IL cbZ at h
  grind
 ·unfold IL cbZ at h
  rw [c4,Cu] at h
  have:((inB am (0:Int) (200000:Int))&&((inB mo (0:Int) (200000:Int))&&((inB ga (0:Int) (1000:Int))&&((inB lo (0:Int) (1000:Int))&&((inB de (1:Int) (1000000:Int))&&(an<|mo>am))))))=(an (0<=am)&&(an (am<mo)&&(an (mo<=200000)&&(inB ga 0 1000&&(inB lo 0 1000&&inB de 1 1000000))))):=by
   rw [IP];simp only [AY,Bf,Ac];omega
  rw [this];exact h
theorem Vv {α β:Type} [BEq β] [LawfulBEq β] {l:List α}{d:α}{p:α->Bool}{k:α->β}:(∀j:Nat,(j:Int)<(M l:Int)->(p (l.getD (j:Int).toNat d)&&!(((l.take (j:Int).toNat).map k).contains<|k<|l.getD (j:Int).toNat d))=U)↔(l.all p&&once (l.map k))=true:=by
 have hg:∀(j:Nat) (h:j<M l),l.getD (j:Int).toNat d=l[j]:=λj h=>LJ (n:=(j:Int)) h
 rw [AY,BR,oq]
 constructor
 ·intro h
  refine ⟨λx hx=>?_,λj hj hm=>?_⟩
  ·obtain ⟨j,hj,rfl⟩:=List.getElem_of_mem hx
   have:=h j A0
   rw [hg j hj,AY] at this;exact this.1
  ·have hj':j<M l:=A8
   have:=h j A0
   rw [hg j hj',AY,Ct] at this
   have h2:=this.2
   rw [C3,List.map_take,ZM.2 A8] at h2;cases h2
 ·intro ⟨h1,h2⟩ j hj
  have hj':j<M l:=A0
  rw [hg j hj',AY,Ct];refine ⟨h1 _<|GD _,?_⟩;rw [Hw,C3,List.map_take]
  grind
theorem QK {α:Type}{l:List α}{d:α}{p:α->Bool}:(∀j:Nat,(j:Int)<(M l:Int)->p (l.getD (j:Int).toNat d)=U)↔l.all p=true:=by
 have hg:∀(j:Nat) (h:j<M l),l.getD (j:Int).toNat d=l[j]:=λj h=>LJ (n:=(j:Int)) h
 rw [BR]
 constructor
 ·intro h x hx
  obtain ⟨j,hj,rfl⟩:=List.getElem_of_mem hx
  have:=h j A0
  rw [hg j hj] at this;exact this
 ·intro h j hj
  grind
def IK (ph mn mx st fb:Int):Bool:=inB ph 1 7&&(inB mn 1 80&&(inB mx 1 80&&(inB st 1 80&&(an (mn<=mx)&&(fb==0 ||inB fb mn mx)))))
def cb {ph mn mx st fb:Int}:IK ph mn mx st fb=U↔1<=ph/\ph<=7/\1<=mn/\mn<=80/\1<=mx/\mx<=80/\1<=st/\st<=80/\mn<=mx/\(fb=0\/(mn<=fb/\fb<=mx)):=by
 simp [IK,inB];omega
def EX (mn mx st a:Int):Int:=if a<mn then 0 else min a mx-(min a mx-mn) %st
def adO {x s:Int}(hx:0<=x) (hs:1<=s):0<=x%s/\x%s<=x/\x%s<s:=by
 have h1:=Int.mul_ediv_add_emod x s
 have h2:0<=x / s:=SZ hx A0
 have h3:0<=s*(x / s):=IS A0 h2
 have h4:=Int.emod_nonneg x (b:=s) A0
 have h5:=Int.emod_lt_of_pos x (b:=s) A0
 omega
def aem {mn mx st a:Int}(h1:1<=mn) (h2:mn<=mx) (h3:mx<=80) (h4:1<=st):0<=EX mn mx st a/\EX mn mx st a<=80/\(a<mn->EX mn mx st a=0)/\(mn<=a->mn<=EX mn mx st a/\EX mn mx st a<=a/\EX mn mx st a<=mx):=by
 unfold EX;split
 ·omega
 ·have e1:=adO (x:=min a mx-mn) (s:=st) A0 h4
  omega
def chP (mn mx st:Int):Prop:=1<=mn/\mn<=mx/\mx<=80/\1<=st/\st<=80
def aRg {ph mn mx st fb:Int}(h:IK ph mn mx st fb=U):chP mn mx st:=by
 rw [cb] at h;unfold chP;omega
def IG (ph mn mx st fb a s:Int):Bool:=IK ph mn mx st fb&&(an (0<=s)&&(an (s<=1000000)&&(an (0<=a)&&(EX mn mx st a==a))))
def okB (ph mn mx st fb a s want:Int):Bool:=IG ph mn mx st fb a s&&(an (0<=want)&&an (want<=80))
def nE (ph mn mx st fb a s want:Int):Int:=if okB ph mn mx st fb a s want then 0 else 1
def nA (ph mn mx st fb a s want:Int):Int:=
 if okB ph mn mx st fb a s want then (if a=0 then (if EX mn mx st want≠0/\5<=s then mn else 0) else if EX mn mx st want=0 then 0 else min (EX mn mx st want) (a+st)) else 0
def nS (ph mn mx st fb a s want:Int):Int:=
 if okB ph mn mx st fb a s want then (if a=0 then (if EX mn mx st want≠0/\5<=s then 0 else min (s+1) 1000000) else if EX mn mx st want=0 then 0 else min (s+1) 1000000) else 0
def aGh (x y:Int):(if y<x then y else x)=min x y:=A0
def ahC {mn mx st am:Int}(h:am<mn):0=EX mn mx st am:=by rw [EX,AD h]
def ahB {mn mx st am:Int}(hc:chP mn mx st) (h:mn<=am):AA ((if mx<am then mx else am)-(AA<|(if mx<am then mx else am)-mn).tmod st)=EX mn mx st am:=by
 unfold chP at hc;rw [aGh]
 have e1:=adO (x:=min am mx-mn) (s:=st) A0 A0
 rw [AI (x:=min am mx-mn),x8 A0,AI,EX,AE A0]
def am1 {ph mn mx st fb a s:Int}(h:((!IK ph mn mx st fb) ||(an (s<0) ||(an (s>1000000) ||an (a<0))))=U):X=IG ph mn mx st fb a s:=by
 cases hr:IG ph mn mx st fb a s
 ·rfl
 ·simp [IG] at hr h
  rw [hr.1] at h
  simp at h
  omega
def aJx {ph mn mx st fb a s:Int}(h:((!IK ph mn mx st fb) ||(an (s<0) ||(an (s>1000000) ||an (a<0))))=X):chP mn mx st/\(EX mn mx st a==a)=IG ph mn mx st fb a s:=by
 simp at h
 obtain ⟨h1,h2,h3,h4⟩:=h;exact ⟨aRg h1,by simp [IG,h1,h2,h3,h4]⟩
def aqP {ph mn mx st fb a s want:Int}(h:okB ph mn mx st fb a s want=U):(!IG ph mn mx st fb a s ||(an (want<0) ||an (want>80)))=X/\chP mn mx st/\(0<=s/\s<=1000000)/\(0<=want/\want<=80)/\0<=a/\a<=80/\1<=st/\st<=80:=by
 simp only [okB,IG,AY,Ac,Cz] at h;obtain ⟨⟨h1,h2,h3,h4,h5⟩,h6,h7⟩:=h
 have hc:=aRg h1
 have hc':=hc
 have:=aem (a:=a) hc'.1 hc'.2.1 hc'.2.2.1 hc'.2.2.2.1
 refine ⟨?_,hc,⟨h2,h3⟩,⟨h6,h7⟩,h4,A0,hc'.2.2.2.1,hc'.2.2.2.2⟩
 simp [IG,h1,h2,h3,h4,h5];omega
def aqQ {ph mn mx st fb a s want:Int}(h:¬okB ph mn mx st fb a s want=U):(!IG ph mn mx st fb a s ||(an (want<0) ||an (want>80)))=true:=by
 cases hr:IG ph mn mx st fb a s
 ·rfl
 ·simp [okB,hr] at h|-;omega
def Fq (cs:List Cd):Bool:=D9 (M cs) λj=>an<|(Al cs j).2.1<j
theorem QW {cs:List Cd}(h:Fq cs=U) {c:Int}(h0:0<=c) (h1:c<M cs):(Al cs c).2.1<c:=by
 have:=Di.1 h c.toNat A0
 grind
def Hq:Nat->List Cd->Int->Int->Bool
 |0,_,_,_=>X
 |k+1,cs,o,c=>if c>=0 then (c==o ||Hq k cs o (Al cs c).2.1) else X
def HA (cs:List Cd) (o c:Int):Bool:=Hq (c.toNat+2) cs o c
theorem aPR {cs:List Cd}{o:Int}(hu:Fq cs=U):∀(k k':Nat) (c:Int),c<M cs->(c+1).toNat<k->(c+1).toNat<k'->Hq k cs o c=Hq k' cs o c
 |0,_,_,_,h,_=>A0
 |_+1,0,_,_,_,h=>A0
 | k+1,k'+1,c,hc,h,h'=>by
  simp only [Hq]
  by_cases h0:c>=0
  ·rw [AD h0,AD h0]
   have:=QW hu h0 hc
   rw [aPR hu k k' (Al cs c).2.1 A0 A0 A0]
  ·grind
theorem aPS {cs:List Cd}{o c:Int}(hu:Fq cs=U) (hc:c<M cs):HA cs o c=if c>=0 then (c==o ||HA cs o (Al cs c).2.1) else false:=by
 unfold HA;rw [Hq]
 by_cases h0:c>=0
 ·rw [AD h0,AD h0]
  have:=QW hu h0 hc
  rw [aPR hu (c.toNat+1) ((Al cs c).2.1.toNat+2) (Al cs c).2.1 A0 A0 A0]
 ·grind
def atB (cs:List Cd) (gs:List Ch):Bool:=D9 (M gs) λj=>an<|(AG gs j).2.1<(M cs:Int)
theorem uh {cs:List Cd}{gs:List Ch}(h:atB cs gs=U) {c:Int}(h0:0<=c) (h1:c<M gs):(AG gs c).2.1<(M cs:Int):=by
 have:=Di.1 h c.toNat A0
 grind
def Gw (cs:List Cd) (gs:List Ch) (o:Int) (k:Nat):List Int:=((au k).map λj:Nat=>(j:Int)).filter λj=>HA cs o (AG gs j).2.1
theorem afw {cs:List Cd}{gs:List Ch}{o:Int}{k:Nat}:Gw cs gs o (k+1)=Gw cs gs o k++(if HA cs o (AG gs k).2.1=U then [(k:Int)] else []):=by
 unfold Gw;rw [Pj,Jw,ZS]
 grind
theorem pN {cs:List Cd}{gs:List Ch}{o:Int}{k:Nat}:M (Gw cs gs o k)<=k:=by
 unfold Gw
 grind
theorem DD {cs:List Cd}{os:List ByteArray}{ks:List Ko}{gs:List Ch}{bs:List Ba}:BI cs os ks gs bs=U↔(1<=M cs/\M cs<=16/\M os<=8/\M ks<=32/\M gs<=16/\M bs<=24)/\(LG cs os ks gs bs).all nameB=U/\once (LG cs os ks gs bs)=U/\D9 (M cs) (λj=>Hi j<|Al cs j)=U/\ks.all (koV<|M os)=U/\once (ks.map (·.2.2.2))=U/\gs.all (G3 (M cs)<|M os)=U/\bs.all (λb=>inB b.2 0<|(M gs:Int)-1)=true:=by
 unfold BI Lz
 grind
theorem p0 {cs:List Cd}{os:List ByteArray}{ks:List Ko}{gs:List Ch}{bs:List Ba}(h:BI cs os ks gs bs=U) {c:Int}(h0:0<=c) (h1:c<M cs):Hi c (Al cs c)=true:=by
 have:=Di.1 (DD.1 h).2.2.2.1 c.toNat A0
 grind
def Og {cs:List Cd}{os:List ByteArray}{ks:List Ko}{gs:List Ch}{bs:List Ba}(h:BI cs os ks gs bs=U) {c:Int}(h0:0<=c) (h1:c<M gs):G3 (M cs) (M os) (AG gs c)=true:=by
 have:=BR.1 (DD.1 h).2.2.2.2.2.2.1 gs[c.toNat]<|GD _
 rwa [agw A0]
theorem oz {cs:List Cd}{os:List ByteArray}{ks:List Ko}{gs:List Ch}{bs:List Ba}(h:BI cs os ks gs bs=U):Fq cs=true:=
 Di.2 λj hj=>by
  have:=p0 h (c:=j) A0 hj
  unfold Hi at this;rw [AY] at this
  have h1:=this.1
  rw [Ac];split at h1
  ·grind
  ·have:=Bf.1 h1;omega
def p7 {cs:List Cd}{os:List ByteArray}{ks:List Ko}{gs:List Ch}{bs:List Ba}(h:BI cs os ks gs bs=U):atB cs gs=true:=
 Di.2 λj hj=>by
  have:=Og h (c:=j) A0 hj
  unfold G3 at this;rw [AY] at this
  have:=Bf.1 this.1
  rw [Ac];omega
def wK (cs:List Cd) (os:List ByteArray) (ks:List Ko) (gs:List Ch) (bs:List Ba) (o:Int):Int:=if BI cs os ks gs bs=U/\0<=o/\o<M cs then 0 else 1
def Q3 (cs:List Cd) (os:List ByteArray) (ks:List Ko) (gs:List Ch) (bs:List Ba) (o:Int):List Int:=if BI cs os ks gs bs=U/\0<=o/\o<M cs then Gw cs gs o (M gs) else []
def aJ (ga ro:Int):Nat->Int
 |0=>0
 |k+1=>if ga*(k+1)*(k+1)<=ro then (k:Int)+1 else aJ ga ro k
def aiZ {ga m:Int}(h0:0<=ga) (h1:ga<=1000) (m0:0<=m) (m1:m<=1000):(0<=ga*m/\ga*m<=1000000)/\0<=ga*m*m/\ga*m*m<=1000000000:=by
 have a1:=M0 h1 m0
 have a2:=IS h0 m0
 have a3:ga*m*m<=1000000*m:=M0 A0 m0
 exact ⟨⟨a2,A0⟩,IS a2 m0,A0⟩
def aor {ga a b:Int}(h0:0<=ga) (a0:0<=a) (h:a<=b):ga*a*a<=ga*b*b:=by
 have h1:=Ux h h0
 exact L0 (M0 h1 a0)<|Ux h<|IS h0 A0
def aGw {ga ro r:Int}:∀ {k:Nat},0<=r->r<=k->(r=0\/ga*r*r<=ro)->(∀a:Int,r<a->a<=k->¬ga*a*a<=ro)->aJ ga ro k=r
 |0,h0,h1,_,_=>by simp only [aJ];omega
 | k+1,h0,h1,h2,h3=>by
  simp only [aJ]
  by_cases hr:r=(k:Int)+1
  ·subst hr
   omega
  ·rw [AE<|h3 ((k:Int)+1) A0 A0]
   exact aGw h0 A0 h2 λa ha hk=>h3 a ha A0
def prm (ga ro:Int):Int:=aJ ga ro 1000
def pmE (c:Cbl):Int:=if IL c=U then 0 else 1
def Mz (c:Cbl):Int:=if IL c=U then (if cbZ c=U then 1000 else prm c.2.2.1 ((if c.2.2.2.2<c.2.2.2.1 then c.2.2.2.2 else c.2.2.2.1)*(c.2.1-c.1))) else 0
def ahq {c:Cbl}(h:IL c=U) (hz:cbZ c=X):(0<=c.1/\c.1<c.2.1/\c.2.1<=200000)/\(0<=c.2.2.1/\c.2.2.1<=1000)/\(0<=c.2.2.2.1/\c.2.2.2.1<=1000)/\1<=c.2.2.2.2/\c.2.2.2.2<=1000000:=by
 unfold IL at h;rw [hz,Cu] at h;simp only [AY,Ac,Bf] at h;omega
def Jt (f:Int) (l:List Int):Int:=l.foldl (λa n=>if n<a then n else a) f
def EN (c:Cd):Int:=if c.2.2.2.2.1.1=0 then Jt c.2.2.1 [c.2.2.2.1,Mz c.2.2.2.2.2] else Jt c.2.2.1 [c.2.2.2.1,Mz c.2.2.2.2.2,c.2.2.2.2.1.1]
theorem aqt {c:Cbl}:(pmE c !=0)=!IL c:=by
 unfold pmE
 grind
abbrev Ea:Ty:=.pair A7<|.sl A7
abbrev Rw:=Int×List Int
def Cb (l:List Rw) (n:Int):Rw:=l.getD n.toNat (0,[])
def oF {l:List Rw}{n:Int}(h:n.toNat<M l):Cb l n=l[n.toNat]:=LJ h
def anr {l:List Rw}{i:Int}(h0:0<=i) (h:i<M l):l.drop i.toNat=Cb l i::l.drop (i+1).toNat/\l.take (i+1).toNat=l.take i.toNat++[Cb l i]:=QM h0 h
def Im {l:List Int}{n:Int}(h:n.toNat<M l):gi l n=l[n.toNat]:=LJ h
def usA (ph p:Int):Bool:=Bv J ph (AA<|(1:Int)*2^(min p.toNat 64)) !=0
def Dx (gs:List Ch) (p:Int) (l:List Int):List Int:=l.filter λk=>usA (AG gs k).2.2.1 p
def XS (gs:List Ch) (p:Int) (l:List Int):Prop:=0<=p/\M l<=1000/\∀k∈l,0<=k/\k<(M gs:Int)
def au9 {gs:List Ch}{p:Int}{l:List Int}:M (Dx gs p l)<=M l:=wq _ _
def aFx {cs:List Cd}{gs:List Ch}{o:Int}{k:Nat}{x:Int}(h:x∈Gw cs gs o k):0<=x/\x<(k:Int):=by
 have:=(Fs.1 h).1
 obtain ⟨j,h1,rfl⟩:=Eg.1 this
 have:=IQ.1 h1
 omega
def rowP (cs:List Cd) (gs:List Ch) (c p:Int):List Rw:=if M (Dx gs p<|Gw cs gs c<|M gs)>0 then [(EN<|Al cs c,Dx gs p<|Gw cs gs c<|M gs)] else []
def m5 (cs:List Cd) (gs:List Ch) (c:Int):List Rw:=rowP cs gs c 0++rowP cs gs c 1++rowP cs gs c 2
def DH (cs:List Cd) (gs:List Ch):Nat->List Rw
 |0=>[]
 |k+1=>DH cs gs k++m5 cs gs k
theorem pD {cs:List Cd}{gs:List Ch}{c p:Int}:M (rowP cs gs c p)<=1:=by
 unfold rowP
 grind
def amz {cs:List Cd}{gs:List Ch}{c:Int}:M (m5 cs gs c)<=3:=by
 unfold m5
 have h0:=pD (cs:=cs) (gs:=gs) (c:=c) (p:=0)
 have h1:=pD (cs:=cs) (gs:=gs) (c:=c) (p:=1)
 have h2:=pD (cs:=cs) (gs:=gs) (c:=c) (p:=2)
 simp only [BD];omega
def o7 {cs:List Cd}{gs:List Ch}:∀ {k:Nat},M (DH cs gs k)<=3*k
 |0=>by simp [DH]
 |k+1=>by
  have:=o7 (cs:=cs) (gs:=gs) (k:=k)
  have h2:=amz (cs:=cs) (gs:=gs) (c:=k)
  simp only [DH,BD];omega
def OB (cs:List Cd) (os:List ByteArray) (ks:List Ko) (gs:List Ch) (bs:List Ba):Int:=if BI cs os ks gs bs=U then 0 else 1
def JQ (cs:List Cd) (os:List ByteArray) (ks:List Ko) (gs:List Ch) (bs:List Ba):List Rw:=if BI cs os ks gs bs=U then DH cs gs (M cs) else []
def Hc (a:Int):Bool:=an (a>=0)&&an (a<=80)
def QI {a:Int}:Hc a=U↔0<=a/\a<=80:=by simp [Hc]
def Pb (n i:Int):Bool:=an (0<=i)&&an (i<n)
def o9 {n i:Int}:Pb n i=U↔0<=i/\i<n:=by simp [Pb]
def GU (l:List Int) (n:Int):Bool:=an ((M l:Int)=n)&&(l.all (Pb n)&&once l)
def smA (alive l:List Int):Int:=(l.map λm=>gi alive m).sum
def Lb (i:Int) (o:List<|List Int) (l:List Int):List (List Int):=l.foldl (λo m=>o.modify m.toNat (·++[i])) o
def H3 (o:List<|List Int) (i:Int):List Rw->List (List Int)
 | []=>o
 |r::rs=>H3 (Lb i o r.2) (i+1) rs
def H0 (alive sm:List Int) (i:Int):List Rw->List Int
 | []=>sm
 |r::rs=>H0 alive (sm.set i.toNat<|sm.getD i.toNat 0+smA alive r.2) (i+1) rs
def aEb {alive l:List Int}{m:Int}:smA alive (m::l)=gi alive m+smA alive l:=by simp [smA]
def na {i m:Int}{o:List<|List Int}{l:List Int}:Lb i o (m::l)=Lb i (o.modify m.toNat (·++[i])) l:=rfl
def aBu {i:Int}:∀ {l:List Int}{o:List<|List Int},M (Lb i o l)=M o
 | [],o=>rfl
 |m::l,o=>by rw [na,aBu,kA]
theorem aGv {i:Int}:∀ {l:List Int}{o:List<|List Int}{b:Int},(∀x∈o,(M x:Int)<=b)->∀x∈Lb i o l,(M x:Int)<=b+M l
 | [],o,b,h,x,hx=>by have:=h x hx;simp only [Bp];omega
 | m::l,o,b,h,x,hx=>by
  rw [na] at hx
  have:=aGv (b:=b+1) (λy hy=>by
   obtain ⟨k,hk,rfl⟩:=I0.1 hy;rw [kA] at hk
   have:=h o[k]<|GD _
   rw [List.getElem_modify];split
   ·grind
   ·omega) x hx
  simp only [Bi];omega
def an1 {l:List Int}{i:Nat}(h:i<M l):l.set i (l.getD i 0+0)=l:=by
 simp_all
theorem aeI {l:List Int}{i:Nat}{a b:Int}(h:i<M l):letI c:=l.set i<|l.getD i 0+a;c.set i (c.getD i 0+b)=l.set i (l.getD i 0+(a+b)):=by
 have e:(l.set i<|l.getD i 0+a).getD i 0=l.getD i 0+a:=A8
 rw [e,List.set_set]
 congr 1
 omega
def mx (a b:Int):Int:=if a<b then b else a
def Cr (gs:List Ch) (i k:Int):Int:=Dq (AG gs i).2.2.2.1 (AG gs i).2.2.2.2.2.1 k
def FF (gs:List Ch) (i a:Int):Int:=HC (AG gs i).2.2.2.1 (AG gs i).2.2.2.2.1 (AG gs i).2.2.2.2.2.1 a
def Fg (gs:List Ch) (alive:List Int) (i k:Int):Int:=mx (gi alive i) (Cr gs i k)-mx (gi alive i) (Cr gs i<|k-1)
def KY (rows:List Rw) (sm:List Int) (mo r:Int):Bool:=an<|sm.getD r.toNat 0+mo<=(Cb rows r).1
def Kc (sm:List Int) (mo:Int) (l:List Int):List Int:=l.foldl (λsm r=>sm.set r.toNat<|sm.getD r.toNat 0+mo) sm
abbrev Tr:=List Int×List Int×Bool
def Fc (O:List<|List Int) (rows:List Rw) (gs:List Ch) (alive most:List Int) (level:Int) (t:Tr) (i:Int):Tr:=
 if t.2.1.getD i.toNat 0=level-1/\level<=FF gs i (gi most i) then
  (if ((O.getD i.toNat []).all<|KY rows t.1<|Fg gs alive i level)=U then (Kc t.1 (Fg gs alive i level)<|O.getD i.toNat [],t.2.1.set i.toNat level,U) else t)
 else t
def swp (O:List<|List Int) (rows:List Rw) (gs:List Ch) (alive most:List Int) (level:Int) (t:Tr) (l:List Int):Tr:=l.foldl (Fc O rows gs alive most level) t
def shl (O:List<|List Int) (rows:List Rw) (gs:List Ch) (alive most order:List Int):Nat->Int->List Int->List Int->List Int
 |0,_,_,lv=>lv
 |f+1,level,sm,lv=>if (swp O rows gs alive most level (sm,lv,X) order).2.2=U then shl O rows gs alive most order f (level+1) (swp O rows gs alive most level (sm,lv,X) order).1 (swp O rows gs alive most level (sm,lv,X) order).2.1 else (swp O rows gs alive most level (sm,lv,X) order).2.1
def aCc {sm l:List Int}{mo r:Int}:Kc sm mo (r::l)=Kc (sm.set r.toNat<|sm.getD r.toNat 0+mo) mo l:=rfl
def nD {mo:Int}:∀ {l sm:List Int},M (Kc sm mo l)=M sm
 | [],_=>rfl
 |r::l,sm=>by rw [aCc,nD,CL]
theorem T1 {sm:List Int}{i k:Nat}{v:Int}:(sm.set i v).getD k 0=if i=k/\k<M sm then v else sm.getD k 0:=by
 by_cases h:i=k
 ·subst h
  by_cases h2:i<M sm
  ·simp [h2]
  ·grind
 ·simp [h]
theorem aDG {mo:Int}:∀ {l sm:List Int}{k:Nat},(∀r∈l,r.toNat≠k)->(Kc sm mo l).getD k 0=sm.getD k 0
 | [],_,_,_=>rfl
 |r::l,sm,k,h=>by
  rw [aCc,aDG λx hx=>h x A8,T1,AE λe=>h r AJ e.1]
theorem pR {mo:Int}:∀ {l sm:List Int}{k:Nat},l.Nodup->(∀r∈l,0<=r)->k<M sm->(Kc sm mo l).getD k 0=sm.getD k 0+(if (k:Int)∈l then mo else 0)
 | [],sm,k,_,_,_=>by simp [Kc]
 | r::l,sm,k,hn,h0,hk=>by
  rw [aCc];obtain ⟨n1,n2⟩:=M3.1 hn
  have hr:=h0 r AJ
  by_cases e:r.toNat=k
  ·rw [aDG λx hx e2=>n1 (by
    have:=h0 x A8
    have:r=x:=A0
    rw [this];exact hx),T1,AD ⟨e,hk⟩,AD A8,e]
  ·rw [pR n2 (λx hx=>h0 x A8) A8,T1,AE λc=>e c.1]
   have:¬(k:Int)=r:=A0
   simp [this]
def uP {mi ma st a:Int}:HC mi ma st a<=80:=by
 have:=aQl (mi:=mi) (ma:=ma) (st:=st)
 unfold HC;split
 ·omega
 ·split
  ·omega
  ·omega
structure OkT (O:List (List Int)) (rows:List Rw) (gs:List Ch) (alive most order:List Int):Prop where
 ol:M O=16
 ord:∀i∈order,(0<=i/\i<16)/\i<(M gs:Int)/\i<(M alive:Int)/\i<(M most:Int)
 al:∀a∈alive,0<=a/\a<=80
 mo:∀a∈most,0<=a/\a<=80
 has:∀i∈order,De (AG gs i).2.2.2.1 (AG gs i).2.2.2.2.1 (AG gs i).2.2.2.2.2.1=U
 row:∀o∈O,o.Nodup/\(M o:Int)<=1000/\∀r∈o,0<=r/\r<(M rows:Int)
 cap:∀r∈rows,r.1<=1000
structure OkS (rows:List Rw) (order sm lv:List Int):Prop where
 len:M sm=M rows
 bd:∀k:Nat,0<=sm.getD k 0/\sm.getD k 0<=2000
 EX:∀i∈order,i<(M lv:Int)
 lvb:∀k:Nat,0<=lv.getD k 0/\lv.getD k 0<=80
def ahL {mi st k:Int}(h:1<=mi/\mi<=80/\1<=st/\st<=80) (h0:0<=k) (h1:k<=81):0<=Dq mi st k/\Dq mi st k<=6480:=by
 unfold Dq;split
 ·omega
 ·have a1:0<=(k-1)*st:=IS A0 A0
  have a2:(k-1)*st<=(k-1)*80:=Ux A0 A0
  omega
def aFR {mi st j k:Int}(h:1<=mi/\1<=st) (h0:0<=j) (h1:j<=k):Dq mi st j<=Dq mi st k:=by
 unfold Dq;split
 ·split
  ·omega
  ·have a1:0<=(k-1)*st:=IS A0 A0
   omega
 ·rw [AE A0]
  have:(j-1)*st<=(k-1)*st:=M0 A0 A0
  omega
def aQj {gs:List Ch}{alive:List Int}{i k:Int}(hh:De (AG gs i).2.2.2.1 (AG gs i).2.2.2.2.1 (AG gs i).2.2.2.2.2.1=U) (ha:0<=gi alive i/\gi alive i<=80) (h0:1<=k) (h1:k<=81):0<=Fg gs alive i k/\Fg gs alive i k<=10000:=by
 obtain ⟨g1,g2,g3,g4,g5⟩:=I3.1 hh
 have b1:=ahL (mi:=(AG gs i).2.2.2.1) (st:=(AG gs i).2.2.2.2.2.1) (k:=k) ⟨g1,A0,g4,g5⟩ A0 h1
 have b3:=aFR (mi:=(AG gs i).2.2.2.1) (st:=(AG gs i).2.2.2.2.2.1) (j:=k-1) (k:=k) ⟨g1,g4⟩ A0 A0
 unfold Fg mx Cr;omega
def KI {l:List Int}{i:Int}(h0:0<=i) (h:i<(M l:Int)):gi l i∈l:=by
 rw [Im A0];exact GD _
theorem aOJ {O:List<|List Int}{rows:List Rw}{gs:List Ch}{alive most order:List Int}{level:Int}{t:Tr}{i:Int}(hT:OkT O rows gs alive most order) (hS:OkS rows order t.1 t.2.1) (hi:i∈order) (h0:1<=level) (h1:level<=81):letI b:=Fc O rows gs alive most level t i;OkS rows order b.1 b.2.1:=by
 unfold Fc;split
 ·split
  ·rename_i hc hf
   obtain ⟨⟨o0,o1⟩,o2,o3,o4⟩:=hT.ord i hi
   have hl80:=uP (mi:=(AG gs i).2.2.2.1) (ma:=(AG gs i).2.2.2.2.1) (st:=(AG gs i).2.2.2.2.2.1) (a:=gi most i)
   have hl81:=hc.2
   unfold FF at hl81
   have hm:=aQj (gs:=gs) (alive:=alive) (k:=level) (hT.has i hi) (hT.al _<|KI o0 o3) h0 h1
   have ho:O.getD i.toNat []∈O:=by
    have hl:=hT.ol
    grind
   obtain ⟨r1,r2,r3⟩:=hT.row _ ho
   refine ⟨by simp only;rw [nD];exact hS.len,λk=>?_,λj hj=>by simp only [CL];exact hS.EX j hj,λk=>by
    have:=hS.lvb k
    rw [T1];split<;>omega⟩
   by_cases hk:k<M t.1
   ·rw [pR r1 (λr hr=>(r3 r hr).1) hk]
    have hb:=hS.bd k
    split
    ·rename_i hkm
     have hfit:=BR.1 hf _ hkm
     unfold KY at hfit;rw [Ac,C3] at hfit
     have hk2:=hS.len
     have:=hT.cap (Cb rows (k:Int)) yA
     omega
    ·omega
   ·rw [DQ,ZN (by rw [nD];omega)]
    simp
  ·exact hS
 ·exact hS
theorem qj {O:List<|List Int}{rows:List Rw}{gs:List Ch}{alive most order:List Int}{level:Int}(hT:OkT O rows gs alive most order) (h0:1<=level) (h1:level<=81):∀(l:List Int) (t:Tr),(∀i∈l,i∈order)->OkS rows order t.1 t.2.1->OkS rows order (swp O rows gs alive most level t l).1 (swp O rows gs alive most level t l).2.1
 | [],t,_,h=>h
 |i::l,t,hl,h=>qj hT h0 h1 l _ (λj hj=>hl j A8)<|aOJ hT h (hl i AJ) h0 h1
theorem nh {O:List<|List Int}{rows:List Rw}{gs:List Ch}{alive most:List Int}{level:Int}:∀(l:List Int) (t:Tr),(swp O rows gs alive most level t l).2.2=U->t.2.2=U\/level<=80
 | [],t,h=> .inl h
 | i::l,t,h=>by
  rcases nh l _ h with h2|h2
  ·unfold Fc at h2
   split at h2
   ·rename_i hc
    have:=uP (mi:=(AG gs i).2.2.2.1) (ma:=(AG gs i).2.2.2.2.1) (st:=(AG gs i).2.2.2.2.2.1) (a:=gi most i)
    have h3:=hc.2
    unfold FF at h3;omega
   ·grind
  ·grind
theorem aec {O:List<|List Int}{rows:List Rw}{gs:List Ch}{alive most:List Int}{level:Int}{t:Tr}{i:Int}:M (Fc O rows gs alive most level t i).2.1=M t.2.1:=by
 unfold Fc;split
 ·split
  ·grind
  ·rfl
 ·rfl
def aCs {O:List<|List Int}{rows:List Rw}{gs:List Ch}{alive most:List Int}{level:Int}:∀(l:List Int) (t:Tr),M (swp O rows gs alive most level t l).2.1=M t.2.1
 | [],t=>rfl
 |i::l,t=>(aCs l _).trans aec
theorem aO9 {O:List<|List Int}{rows:List Rw}{gs:List Ch}{alive most order:List Int}(hT:OkT O rows gs alive most order):∀(f:Nat) (level:Int) (sm lv:List Int),1<=level->level<=81->OkS rows order sm lv->M (shl O rows gs alive most order f level sm lv)=M lv/\∀k:Nat,0<=(shl O rows gs alive most order f level sm lv).getD k 0/\(shl O rows gs alive most order f level sm lv).getD k 0<=80
 |0,_,_,lv,_,_,h=>⟨rfl,h.lvb⟩
 | f+1,level,sm,lv,h0,h1,h=>by
  have hk:=qj hT h0 h1 order (sm,lv,X) (λ_ h=>h) h
  have hl:=aCs (O:=O) (rows:=rows) (gs:=gs) (alive:=alive) (most:=most) (level:=level) order (sm,lv,X)
  have hs:=nh (O:=O) (rows:=rows) (gs:=gs) (alive:=alive) (most:=most) (level:=level) order (sm,lv,X)
  rw [shl];split
  ·rename_i hc
   have h80:level<=80:=by
    rcases hs hc with h|h
    ·cases h
    ·exact h
   obtain ⟨g1,g2⟩:=aO9 hT f (level+1) _ _ A0 A0 hk
   grind
  ·exact ⟨hl,hk.lvb⟩
def Jr (i:Int):List Rw->Int->List Int
 | [],_=>[]
 |r::rs,j=>(if r.2.contains j then [i] else [])++Jr (i+1) rs j
theorem aeC {o:List<|List Int}{f:List Int->List Int}{j k:Nat}(h:k<M o):(o.modify j f).getD k []=if j=k then f (o.getD k []) else o.getD k []:=by
 grind
theorem aEh {i:Int}:∀ {l:List Int}{o:List<|List Int}{k:Nat},l.Nodup->(∀m∈l,0<=m)->k<M o->(Lb i o l).getD k []=o.getD k []++(if l.contains (k:Int) then [i] else [])
 | [],o,k,_,_,_=>by simp [Lb]
 | m::l,o,k,hn,h0,hk=>by
  obtain ⟨n1,n2⟩:=M3.1 hn
  have hm:=h0 m AJ
  rw [na,aEh n2 (λx hx=>h0 x A8) A8,aeC hk]
  by_cases e:m.toNat=k
  ·have e2:(k:Int)=m:=A0
   grind
  ·rw [AE e]
   have:¬(k:Int)=m:=A0
   simp [this]
def zW (r:Rw):Prop:=r.2.Nodup/\∀m∈r.2,0<=m
def aCr:∀ {rs:List Rw}{o:List<|List Int}{i:Int},M (H3 o i rs)=M o
 | [],_,_=>rfl
 |r::rs,o,i=>by rw [H3,aCr,aBu]
theorem aGP:∀ {rs:List Rw}{o:List<|List Int}{i:Int}{k:Nat},(∀r∈rs,zW r)->k<M o->(H3 o i rs).getD k []=o.getD k []++Jr i rs k
 | [],o,i,k,_,_=>by simp [H3,Jr]
 |r::rs,o,i,k,h,hk=>by
  obtain ⟨h1,h2⟩:=h r AJ;rw [H3,aGP (λx hx=>h x A8) (by rw [aBu];exact hk),aEh h1 h2 hk,Jr,Cm]
theorem TD:∀ {rs:List Rw}{i j x:Int},x∈Jr i rs j↔i<=x/\x<i+M rs/\(Cb rs<|x-i).2.contains j=U
 | [],i,j,x=>by simp [Jr];omega
 | r ::rs,i,j,x=>by
  rw [Jr,By,TD]
  by_cases e:x=i
  ·subst e
   have g0:Cb (r::rs) (x-x)=r:=by simp [Cb]
   rw [g0]
   constructor
   ·rintro (h|h)
    ·split at h
     ·rename_i hc
      grind
     ·cases h
    ·omega
   ·rintro ⟨_,_,h⟩
    rw [AD h]
    simp
  ·have hn:¬x∈(if r.2.contains j then [i] else []):=by
    split
    ·grind
    ·simp
   simp only [Bi]
   constructor
   ·rintro (h|⟨h1,h2,h3⟩)
    ·grind
    ·refine ⟨A0,A0,?_⟩
     exact aLh
   ·rintro ⟨h1,h2,h3⟩
    refine .inr ⟨A0,A0,?_⟩;exact aLh
def nf:∀ {rs:List Rw}{i j:Int},(Jr i rs j).Nodup
 | [],_,_=>List.nodup_nil
 | r::rs,i,j=>by
  rw [Jr];split
  ·rw [wo,M3]
   refine ⟨λh=>?_,nf⟩
   have:=(TD.1 h).1
   omega
  ·rw [E7];exact nf
theorem aGY:∀ {rs:List Rw}{i j:Int},M (Jr i rs j)<=M rs
 | [],_,_=>Av _
 |r::rs,i,j=>by
  have:=aGY (rs:=rs) (i:=i+1) (j:=j)
  rw [Jr]
  grind
def aCq {alive:List Int}:∀ {rs:List Rw}{sm:List Int}{i:Int},M (H0 alive sm i rs)=M sm
 | [],_,_=>rfl
 |r::rs,sm,i=>by rw [H0,aCq,CL]
theorem aGO {alive:List Int}:∀ {rs:List Rw}{sm:List Int}{i:Int}{k:Nat},0<=i->k<M sm->(H0 alive sm i rs).getD k 0=sm.getD k 0+(if i<=(k:Int)/\(k:Int)<i+M rs then smA alive (Cb rs<|(k:Int)-i).2 else 0)
 | [],sm,i,k,_,_=>by
  rw [AE AJ]
  simp [H0]
 | r ::rs,sm,i,k,hi,hk=>by
  rw [H0,aGO A0 A8,T1]
  by_cases e:i.toNat=k
  ·have e2:(k:Int)=i:=A0
   rw [AD ⟨e,hk⟩,AE A0,AD A8,e,e2]
   have:Cb (r::rs) (i-i)=r:=by simp [Cb]
   rw [this];omega
  ·rw [AE λc=>e c.1]
   by_cases c:i+1<=(k:Int)/\(k:Int)<i+1+M rs
   ·rw [AD c,AD A8]
    have:Cb (r::rs) ((k:Int)-i)=Cb rs ((k:Int)-(i+1)):=by
     unfold Cb;rw [show ((k:Int)-i).toNat=((k:Int)-(i+1)).toNat+1 by omega]
     simp
    rw [this]
   ·grind
theorem aOO {alive:List Int}(ha:∀a∈alive,0<=a/\a<=80):∀ {l:List Int},(∀m∈l,0<=m/\m<(M alive:Int))->0<=smA alive l/\smA alive l<=80*M l
 | [],_=>by simp [smA]
 |m::l,h=>by
  have h1:=aOO ha (l:=l) λx hx=>h x A8
  have hm:=h m AJ
  have:=ha (gi alive m)<|KI hm.1 hm.2
  rw [aEb];simp only [Bi];omega
def adQ {α:Type}{l:List α}(p:α->Bool) (h:l.Nodup):(l.filter p).Nodup:=List.Pairwise.filter p h
def afF {cs:List Cd}{gs:List Ch}{o:Int}{k:Nat}:(Gw cs gs o k).Nodup:=by
 refine adQ _ ?_;exact xK _ (λa b h=>A0) jy
def au8 {gs:List Ch}{p k:Int}{l:List Int}:k∈Dx gs p l↔k∈l/\usA (AG gs k).2.2.1 p=true:=by simp [Dx,Fs]
theorem adk {cs:List Cd}{gs:List Ch}{c p:Int}{r:Rw}(h:r∈rowP cs gs c p):r=(EN<|Al cs c,Dx gs p<|Gw cs gs c<|M gs)/\M (Dx gs p<|Gw cs gs c<|M gs)>0:=by
 unfold rowP at h;exact kr
theorem pE {cs:List Cd}{gs:List Ch}{r:Rw}:∀ {k:Nat},r∈DH cs gs k->∃c p:Int,(0<=c/\c<(k:Int))/\(p=0\/p=1\/p=2)/\r=(EN<|Al cs c,Dx gs p<|Gw cs gs c<|M gs)/\M r.2>0
 |0,h=>An
 | k+1,h=>by
  rw [DH,By] at h;rcases h with h|h
  ·obtain ⟨c,p,h1,h2,h3⟩:=pE h
   grind
  ·unfold m5 at h
   rw [By,By] at h;rcases h with (h|h) |h
   ·exact xn
   ·exact xn
   ·exact xn
def row_mem {cs:List Cd}{gs:List Ch}{r:Rw}{k:Nat}(h:r∈DH cs gs k):r.2.Nodup/\(∀m∈r.2,0<=m/\m<(M gs:Int))/\M r.2<=M gs/\M r.2>0:=by
 obtain ⟨c,p,h1,h2,h3,h4⟩:=pE h;subst h3;refine ⟨adQ _ afF,λm hm=>aFx (au8.1 hm).1,HP au9 pN,h4⟩
def FA (gs:List Ch) (lv:List Int):List Int:=(au<|M gs).map λk:Nat=>Cr gs (k:Int)<|lv.getD k 0
def OL (rows:List Rw):List (List Int):=H3 (aq 16 []) 0 rows
def SM (alive:List Int) (rows:List Rw):List Int:=H0 alive (aq (M rows) 0) 0 rows
def G0 (cs:List Cd) (os:List ByteArray) (ks:List Ko) (gs:List Ch) (bs:List Ba) (al mo od:List Int):Bool:=BI cs os ks gs bs&&(an (M al=M gs)&&(an (M mo=M gs)&&(al.all Hc&&(mo.all Hc&&GU od (M gs)))))
def shV (rows:List Rw) (gs:List Ch) (al mo od:List Int):List Int:=shl (OL rows) rows gs al mo od 81 1 (SM al rows)<|aq (M al) 0
def shE (cs:List Cd) (os:List ByteArray) (ks:List Ko) (gs:List Ch) (bs:List Ba) (al mo od:List Int):Int:=if G0 cs os ks gs bs al mo od=U then 0 else 1
def Fb (cs:List Cd) (os:List ByteArray) (ks:List Ko) (gs:List Ch) (bs:List Ba) (al mo od:List Int):List Int:=if G0 cs os ks gs bs al mo od=U then FA gs (shV (DH cs gs<|M cs) gs al mo od) else []
def L9 {cs:List Cd}{os:List ByteArray}{ks:List Ko}{gs:List Ch}{bs:List Ba}{al mo od:List Int}:G0 cs os ks gs bs al mo od=U↔BI cs os ks gs bs=U/\M al=M gs/\M mo=M gs/\al.all Hc=U/\mo.all Hc=U/\GU od (M gs)=true:=by
 simp [G0]
theorem aQn:∀ {l:List Int}{f:Int},Jt f l<=f
 | [],f=>Dg _
 |n::l,f=>by
  have:Jt f (n::l)=Jt (if n<f then n else f) l:=rfl
  have:=aQn (l:=l) (f:=if n<f then n else f)
  split at this<;>rename_i h
  ·grind
  ·grind
def arI {c:Cd}:EN c<=c.2.2.1:=by
 unfold EN;split<;>exact aQn
def aE0 {rows:List Rw}:M (OL rows)=16:=by rw [OL,aCr,Ce]
theorem ub {rows:List Rw}(h:∀r∈rows,zW r) {k:Nat}(hk:k<16):(OL rows).getD k []=Jr 0 rows k:=by
 rw [OL,aGP h A8]
 have:(aq 16 ([]:List Int)).getD k []=[]:=by
  grind
 grind
def aqm {cs:List Cd}{gs:List Ch}{k:Nat}:∀r∈DH cs gs k,zW r:=λr hr=>⟨(row_mem hr).1,λm hm=>((row_mem hr).2.1 m hm).1⟩
def aCd {al:List Int}{rows:List Rw}:M (SM al rows)=M rows:=by rw [SM,aCq,Ce]
theorem aSd {al:List Int}{rows:List Rw}{k:Nat}(hk:k<M rows):(SM al rows).getD k 0=smA al (Cb rows k).2:=by
 rw [SM,aGO (Dg _) A8,AD A0,Pu]
 grind
def aCV {od:List Int}{n i:Int}(h:GU od n=U) (hi:i∈od):0<=i/\i<n:=by
 unfold GU at h;simp only [AY,BR] at h;exact o9.1<|h.2.1 i hi
theorem ajd {cs:List Cd}{os:List ByteArray}{ks:List Ko}{gs:List Ch}{bs:List Ba}{al mo od:List Int}(h:G0 cs os ks gs bs al mo od=U):letI b:=DH cs gs<|M cs;OkT (OL b) b gs al mo od/\OkS b od (SM al b) (aq (M al) 0):=by
 obtain ⟨hv,h1,h2,h3,h4,h5⟩:=L9.1 h
 have hl:=(DD.1 hv).1
 have ha:∀a∈al,0<=a/\a<=80:=λa ha=>QI.1<|BR.1 h3 a ha
 refine ⟨⟨aE0,λi hi=>?_,ha,λa ha=>QI.1<|BR.1 h4 a ha,λi hi=>?_,λo ho=>?_,λr hr=>?_⟩,⟨aCd,λk=>?_,λi hi=>?_,λk=>?_⟩⟩
 ·have:=aCV h5 hi
  omega
 ·have hi:=aCV h5 hi
  have:=Og hv hi.1 hi.2
  exact aLI
 ·obtain ⟨k,hk,rfl⟩:=I0.1 ho
  rw [aE0] at hk
  have e:=ub (rows:=DH cs gs<|M cs) aqm hk
  rw [DQ,DR A8,jw] at e;rw [e]
  have hln:=aGY (rs:=DH cs gs<|M cs) (i:=0) (j:=k)
  have hrn:=o7 (cs:=cs) (gs:=gs) (k:=M cs)
  refine ⟨nf,A0,λr hr=>?_⟩
  have:=TD.1 hr
  omega
 ·obtain ⟨c,p,hc,hp,rfl,_⟩:=pE hr
  have hcv:=p0 hv hc.1 hc.2
  unfold Hi at hcv;simp only [AY,Bf] at hcv
  have:=arI (c:=Al cs c)
  simp only;omega
 ·by_cases hk:k<M (DH cs gs<|M cs)
  ·rw [aSd hk]
   have hr:Cb (DH cs gs<|M cs) (k:Int)∈DH cs gs (M cs):=by rw [oF yh];exact GD _
   obtain ⟨m1,m2,m3,_⟩:=row_mem hr
   have:=aOO ha (l:=(Cb (DH cs gs<|M cs) (k:Int)).2) λm hm=>A8
   omega
  ·rw [DQ,ZN (by rw [aCd];omega)]
   simp
 ·have:=aCV h5 hi
  rw [Ce];omega
 ·have:(aq (M al) (0:Int)).getD k 0=0:=by
   simp only [List.getD,Uy];split<;>rfl
  omega
theorem aG5 {xs:List Int}{r:Nat}{v:Int}:(xs++aq (r+1) 0).set (M xs) v=xs++[v]++aq r 0:=by
 grind
def SO (gs:List Ch) (lv:List Int) (n:Nat):List Int:=(au n).map λk:Nat=>Cr gs (k:Int)<|lv.getD k 0
def ag0 {gs:List Ch}{lv:List Int}{n:Nat}:SO gs lv (n+1)=SO gs lv n++[Cr gs (n:Int)<|lv.getD n 0]:=by
 simp [SO,Pj]
def acy {gs:List Ch}{lv:List Int}{n:Nat}:M (SO gs lv n)=n:=by simp [SO]
theorem ntW {b:Bool}(h:(!b)=U):b=false:=A8
theorem nfW {b:Bool}(h:(!b)=X):b=true:=A8
def wt (n:Int):Int:=(n*1000000+999799) / 999800
def wtA (n:Int):Int:=if inB n 0 1000000=U then wt n else 0
def wtE (n:Int):Int:=if inB n 0 1000000=U then 0 else 1
def aJd {m n:Int}:m*999800 / 1000000>=n↔wt n<=m:=by
 unfold wt;omega
def am3 {a b:Int}(a0:0<=a) (a1:a<=3000000) (b0:0<=b) (b1:b<=1000000):0<=a*b/\a*b<=3000000000000:=
 ⟨IS a0 b0,L0 (Ux b1 a0) A0⟩
def aaG {n:Int}(h0:0<=n):0<=wt n/\wt n<=2*n+2:=by
 unfold wt;omega
abbrev AP:Ty:=.pair A7<|.pair A7<|.pair A7<|.pair A7 A7
abbrev Le:=Int×Int×Int×Int×Int
instance:Coe (List Le) LV:=⟨.xl AP⟩
def At (l:List Le) (n:Int):Le:=l.getD n.toNat (0,0,0,0,0)
def D4 (x:Le):Bool:=inB x.1 1 1000000&&(inB x.2.1 0 15&&(inB x.2.2.1 0 80&&(inB x.2.2.2.1 0 1000000&&inB x.2.2.2.2 1 1000)))
def Jd (b x:Le):Bool:=an (x.1>b.1)&&an (x.2.2.2.1>=b.2.2.2.1)
def Gg (l:List Le) (j:Int):Bool:=D4 (At l j)&&(an (j=0) ||Jd (At l<|j-1) (At l j))
def BL (l:List Le):Bool:=an (M l<=64)&&D9 (M l) (Gg l)
def NW {l:List Le}{n:Int}(h:n.toNat<M l):At l n=l[n.toNat]:=LJ h
def W4 {l:List Le}{i:Int}(h0:0<=i) (h:i<M l):l.drop i.toNat=At l i::l.drop (i+1).toNat/\l.take (i+1).toNat=l.take i.toNat++[At l i]:=QM h0 h
theorem On {l:List Le}{i:Int}(h0:0<=i) (h:i<M l):At l i∈l:=by
 rw [NW A0]
 grind
def QL {x:Le}:D4 x=U↔(1<=x.1/\x.1<=1000000)/\(0<=x.2.1/\x.2.1<=15)/\(0<=x.2.2.1/\x.2.2.1<=80)/\(0<=x.2.2.2.1/\x.2.2.2.1<=1000000)/\1<=x.2.2.2.2/\x.2.2.2.2<=1000:=by
 unfold D4;simp only [AY,Bf]
theorem Ij {l:List Le}(h:BL l=U):M l<=64/\∀x∈l,D4 x=true:=by
 unfold BL at h;rw [AY] at h;refine ⟨DC h.1,λx hx=>?_⟩
 obtain ⟨k,hk,rfl⟩:=I0.1 hx
 have:=Di.1 h.2 k A0
 unfold Gg at this;rw [AY,NW A8] at this
 grind
def Pc (x:Le):Int:=x.2.2.2.1+10+wt x.2.2.2.2
def Ms (t:Int) (x:Le):Bool:=an<|Pc x>t
def O8 (l:List Le) (t:Int):Bool:=BL l&&inB t 0 1100000
def Br (l:List Le) (t:Int):List Le:=if O8 l t=U then l.filter (Ms t) else []
def DF (l:List Le) (t:Int):Int:=if O8 l t=U then 0 else 1
def FD (l:List Le) (x:Le):Int:=if (BL l&&D4 x)=U then (if (an (M l>0)&&!Jd (At l<|(M l:Int)-1) x)=U then 12 else if M l=64 then 10 else 0) else 1
def Jc (l:List Le) (x:Le):List Le:=if FD l x=0 then l++[x] else []
end Go.Proofs.YtpfblnbippcdjaaGreatDoor
namespace Go.Sx
open Go.Proofs.YtpfblnbippcdjaaGreatDoor
variable {P : Program} {G : Az} {Γ : Specs} {σ : Type}
structure CpD (σ:Type) where
 A:σ->List LV
 B:σ->List AB
 g:List LV->List AB->σ
 E:σ->Prop
 mu:σ->Nat
 r:σ->σ
namespace CpD
variable (D : CpD σ)
def m (n:Nat) (args:List LV) (H:List AB):T (LV×List AB):=(Uj H args).bind λa=>(aP H H).bind λb=>
 .req (D.E (D.g a b)/\D.mu (D.g a b)<n/\D.A (D.g a b)=a/\D.B (D.g a b)=b) (.ok (.v<|.tuple #[],D.B<|D.r<|D.g a b))
variable {D}
def ef {n:Nat}{args:List LV}{H:List AB}{q:LV×List AB}(h:(D.m n args H).all λz=>z=q):∃s,D.E s/\D.mu s<n/\D.A s=args/\D.B s=H/\q=(.v<|.tuple #[],D.B<|D.r s):=by
 unfold m at h;obtain ⟨a,h1,h2⟩:=T.B2 h;obtain ⟨b,h3,h4⟩:=T.B2 h2
 have e1:=cf h1
 have e2:=dQ h3
 obtain ⟨⟨g1,g2,g3,g4⟩,g5⟩:=h4;exact ⟨_,g1,g2,g3.trans e1,g4.trans e2,g5.symm⟩
def one (c:FuncId) (m:List LV->List AB->T (LV×List AB)):Does:=λg=>if g=c then ah m else aj
def WU {c:FuncId}{m:List LV->List AB->T (LV×List AB)}(h:DX P G c m):∀g m',one c m g=ah m'->DX P G g m':=λg m' e=>by
 unfold one at e;split at e
 ·rename_i q
  subst q;cases e;exact h
 ·cases e
def sound {LL:DE}{c:FuncId}{d:Nat}(hΓ:∀g S,Γ g=ah S->Valid P G g S) (hLL:ED P G LL)
  (hstep:∀(n:Nat) (s:σ),D.E s->D.mu s<=n->S8 (λq=>q=(.v<|.tuple #[],D.B<|D.r s)) ((EP P G Γ LL<|Uh P G Γ LL (one c<|D.m n) d).k c (D.A s)<|D.B s)):∀n,DX P G c (D.m n)
 |0=>λw0 Z0 Z β H w args vals lv H' hW hr hok hq=>by
  obtain ⟨s,_,h,_⟩:=ef hq;exact absurd h (Nat.not_lt_zero _)
 |n+1=>DX.walk hΓ hLL (aC7 hΓ hLL (WU<|sound hΓ hLL hstep n) d) λargs H lv H' hq=>by
  obtain ⟨s,h1,h2,h3,h4,h5⟩:=ef hq;rw [<-h3,<-h4,h5];exact (hstep n s h1<|Nat.le_of_lt_succ h2).out
end CpD
end Go.Sx
namespace Go.Sx
open Go Go.RowKit Go.Proofs.YtpfblnbippcdjaaGreatDoor
variable {P : Program} {G : Az} {Γ : Specs} {σ τ : Type}
def Qe (ks:List Nat) (H:List AB):List AB:=ks.foldl (λH k=>H.set k ⟨[],0,.dead,X⟩) H
def ae4 (ks:List Nat):∀(H:List AB),M (Qe ks H)=M H:=by
 induction ks with
 |nil=>intro H;rfl
 |cons k ks ih=>intro H;simp only [Qe,Ky] at ih|-;rw [ih];simp
def RW.kills {w0 w:World}{Z0:Gz}{Z:Nat->Prop}{β:Nat->Loc}(ks:List Nat):∀ {H:List AB},RW G w0 Z0 Z β H w->RW G w0 Z0 Z β (Qe ks H) w:=by
 induction ks with
 |nil=>intro H h;exact h
 |cons k ks ih=>intro H h;simp only [Qe,Ky] at ih|-;exact ih<|h.kill k 0
structure Cs (σ τ:Type) where
 A:σ->List LV
 B:σ->List AB
 g:List LV->List AB->σ
 E:σ->Prop
 kl:List Nat
 us:List Up
 V:τ->LV
 C:τ->List AB
 r:σ->τ
namespace Cs
variable {D : Cs σ τ}
def m (D:Cs σ τ) (args:List LV) (H:List AB):T (LV×List AB):=(Uj (Qe D.kl H) args).bind λa=>(aP (Qe D.kl H)<|Qe D.kl H).bind λb=>
 .req (D.E (D.g a b)/\D.A (D.g a b)=a/\D.B (D.g a b)=b) (.ok (D.V<|D.r<|D.g a b,D.C<|D.r<|D.g a b))
def ef {args:List LV}{H:List AB}{q:LV×List AB}(h:(D.m args H).all λz=>z=q):∃s,D.E s/\D.A s=args/\D.B s=Qe D.kl H/\q=(D.V<|D.r s,D.C<|D.r s):=by
 obtain ⟨a,h1,h2⟩:=T.B2 h;obtain ⟨b,h3,h4⟩:=T.B2 h2
 have e1:=cf h1
 have e2:=dQ h3
 obtain ⟨⟨g1,g3,g4⟩,g5⟩:=h4;exact ⟨_,g1,g3.trans e1,g4.trans e2,g5.symm⟩
theorem sound {LL:DE}{K:Hand}{c:FuncId}{t:σ->T τ}(hΓ:∀g S,Γ g=ah S->Valid P G g S) (hLL:ED P G LL) (hK:F5 P G K)
  (hnf:∀s,((EP P G Γ LL K).k c (D.A s)<|D.B s).bind (λq=>G2 (M<|D.B s) [0] D.us .normal (q.1::D.A s) q.2)=(t s).mp (λs2=>⟨.normal,M (D.A s)+1,[D.V s2],D.C s2,U⟩))
  (ht:∀s,D.E s->S8 (λs2=>s2=D.r s) (t s)):DX P G c D.m:=λw0 Z0 Z β H w args vals lv H' hW hr hok hq=>by
 obtain ⟨s,h1,h2,h3,h4⟩:=ef hq;simp only [Aw] at h4;obtain ⟨rfl,rfl⟩:=h4
 have hall:((t s).mp λs2=>(⟨.normal,M (D.A s)+1,[D.V s2],D.C s2,U⟩:Vw)).all (λz=>z=⟨.normal,M (D.A s)+1,[D.V<|D.r s],D.C<|D.r s,U⟩):=T.Wt<|T.BW (λx hx=>by rw [hx]) (ht s h1).out
 rw [<-hnf s] at hall;obtain ⟨⟨lv1,H1⟩,q1,q2⟩:=T.B2 hall;simp only at q2
 have hWk:RW G w0 Z0 Z β (D.B s) w:=by rw [h3];exact hW.kills D.kl
 have hlen:M (D.B s)=M H:=by rw [h3,ae4]
 have hsz:vals.size=M args:=by have:=hr.length;simpa using this
 let a0:Act:={tmps:=vals,defers:=[]}
 have hF0:RF [] β Z w (M<|D.B s) args a0:=by
  refine ⟨hsz,λt x hx=>?_,rfl,λd hd=>VN⟩
  obtain ⟨y,e1,e2⟩:=RL.get t x hr hx
  have:vals.getD t undef=y:=by
   have e3:t<vals.size:=A8
   have e4:vals[t]? =ah y:=by simpa using e1
   rw [Pq e3] at e4
   simp [Array.getD,e3,Dt e4]
  refine ⟨?_,by rw [hlen];exact AS.get t x hok hx⟩
  show R β Z w x (vals.getD t undef)
  rw [this];exact e2
 rw [h2] at q1;refine ((nF hΓ hLL hK).k w0 _ Z β (D.B s) w c args vals lv1 H1 (hWk.hold hF0) hr (by rw [hlen];exact hok) q1).mono λe w' ⟨v,he,Z',β',r1,r2,r3⟩=>⟨v,he,?_⟩
 have hF1:=RW.held hF0 r1
 have hF2:RF [] β' Z' w' (M H1) (lv1::D.A s) {tmps:=#[v]++vals,defers:=[]}:=by
  refine ⟨by simp [h2,hsz];omega,λt x hx=>?_,rfl,λd hd=>VN⟩
  cases t with
  | zero=>
   simp only [List.getElem?_cons_zero,Af] at hx;subst hx
   exact ⟨by
    have e:(#[v]++vals).getD 0 undef=v:=aNG
    rw [e];exact r2,r3⟩
  | succ t=>
   rw [h2] at hx
   have:=hF1.get t x hx
   have e:(#[v]++vals).getD (t+1) undef=vals.getD t undef:=by
    have ht:t<vals.size:=A8
    simp [Array.getD,ht,Array.getElem_append,show t+1<1+vals.size by omega]
   grind
 have hgh:AN (M<|D.B s) Z0:=λp hp=>by rw [hlen];exact (hW.gh p hp).2
 obtain ⟨_,_,Z2,β2,k1,k2⟩:=bp hgh r1.less hF2 q2 rfl;refine ⟨Z2,β2,k1,?_⟩
 have hx:(HV (M (lv1::D.A s)) [0] [D.V<|D.r s])[0]? =ah (D.V<|D.r s):=by
  simp [HV,QN,at_]
 have:=k2.get 0 _ hx
 have e:(#[v]++vals).getD 0 undef=v:=aNG
 refine ⟨?_,this.2⟩
 have h5:=this.1
 rwa [e] at h5
end Cs
def EI (n m:Nat):List Nat:=(au n).map (·+m)++au m
theorem awk {n m i:Nat}(h:i<n):(EI n m)[i]? =ah (i+m):=by
 unfold EI;rw [HL A8]
 simp [h]
def awl {n m i:Nat}(h:i<m):(EI n m)[n+i]? =ah i:=by
 unfold EI
 simp [h]
def aG4 {n m:Nat}:M (EI n m)=n+m:=by simp [EI]
theorem oR {n m k:Nat}:k∈EI n m↔k<n+m:=by
 unfold EI;simp only [By,Eg,IQ];refine ⟨λh=>?_,λh=>?_⟩
 ·omega
 ·by_cases h1:k<m
  ·grind
  ·exact .inl ⟨k-m,A0,A0⟩
theorem aDN:∀ {ks:List Nat},ks.Nodup->nodupB ks=U
 | [],_=>rfl
 |k::ks,h=>by
  obtain ⟨h1,h2⟩:=M3.1 h;simp only [nodupB,AY,Ct];exact ⟨A8,aDN h2⟩
theorem afR {n m:Nat}:nodupB (EI n m)=true:=by
 apply aDN
 unfold EI;rw [xI];refine ⟨?_,jy,λx hx y hy e=>?_⟩
 ·exact xK _ (λa b (h:a≠b) e=>h A8)<|jy (n:=n)
 ·obtain ⟨j,_,rfl⟩:=Eg.1 hx
  have:=IQ.1 hy
  omega
theorem RW.join {w0 w w':World}{Z0:Gz}{Z Z':Nat->Prop}{β β':Nat->Loc}{H Hn:List AB}(hW:RW G w0 Z0 Z β H w) (hS:RW G w ⟨Z,[],[]⟩ Z' β' Hn w'):
  ∃β2,(∀k,k<M H->β2 k=β k)/\(∃β1,(∀k,k<M Hn->β1 k=β' k)/\Rn (EI (M H)<|M Hn) β1 β2)/\RW G w0 Z0 (λb=>Z b\/Z' b) β2 (H++Hn.map (IC<|EI (M H)<|M Hn)) w':=by
 generalize hn:M H=n;generalize hm:M Hn=m
 let β1:Nat->Loc:=λk=>if k<m then β' k else β (k-m)
 have hb1:∀k,k<m->β1 k=β' k:=λk hk=>by simp only [β1];rw [AD hk]
 have hb1':∀k,β1 (k+m)=β k:=λk=>A8
 have hD:RW G w ⟨Z,[],[]⟩ Z' β1 (Hn++aq n Fx) w':=hS.abP λk hk=>hb1 k<|hm▸hk
 have hget:∀k,k<m->(Hn++aq n Fx)[k]? =Hn[k]? :=λk hk=>HL<|hm▸hk
 have hgetd:∀k,m<=k->k<n+m->(Hn++aq n Fx)[k]? =ah Fx:=λk h1 h2=>by
  grind
 have hcl:KC (Hn++aq n Fx) (EI n m) []=true:=by
  unfold KC;simp only [AY,BR];refine ⟨λx hx=>by simp [ownsL] at hx,λk hk=>?_⟩
  have hk:=oR.1 hk
  by_cases h1:k<m
  ·rw [hget k h1]
   obtain ⟨b,hb⟩:∃b,Hn[k]? =ah b:=⟨_,DR<|hm▸h1⟩;rw [hb];simp only [BR];intro j hj
   have:=aEN (hS.blk k b hb).2 j hj
   rw [ZM,oR];omega
  ·rw [hgetd k A0 hk]
   simp [Fx,AB.owns,ownsL]
 obtain ⟨β2,r1,r2⟩:=hD.ren (N:=0) (Z0:=⟨Z,[],[]⟩) (λp hp=>lX) hcl afR MC
 have hag:∀k,k<n->β2 k=β k:=λk hk=>by rw [r1 k (k+m)<|awk hk,hb1']
 have hnew:∀i,i<m->((EI n m).map λk=>IC (EI n m)<|(Hn++aq n Fx).getD k Tu)[n+i]? =(Hn[i]?).map (IC<|EI n m):=λi hi=>by
  rw [DT,awl hi];simp only [JG,DQ,hget i hi];rw [DR<|hm▸hi]
  simp
 refine ⟨β2,hag,⟨β1,hb1,r1⟩,?_⟩
 have hbw:Below w.heap.size w w':=hS.below
 have old:∀i b,(H++Hn.map (IC<|EI n m))[i]? =ah b->(i<n/\H[i]? =ah b/\β2 i=β i)\/(n<=i/\((EI n m).map λk=>IC (EI n m)<|(Hn++aq n Fx).getD k Tu)[i]? =ah b):=λi b h=>by
  by_cases hi:i<n
  ·rw [HL<|hn▸hi] at h
   exact .inl ⟨hi,h,hag i hi⟩
  ·have hlt:=(Du.1 h).1
   simp only [BD,Ft,hn,hm] at hlt;rw [GC A0,DT,hn] at h;refine .inr ⟨A0,?_⟩
   have:=hnew (i-n) A0
   rw [show n+(i-n)=i by omega] at this
   rw [this];exact h
 have hlive:∀i b,i<n->β2 i=β i->(live β2 i b↔live β i b):=λi b _ e=>by unfold live;rw [e]
 have hlen:M (H++Hn.map (IC<|EI n m))=n+m:=by simp [hn,hm]
 have hlen2:M ((EI n m).map λk=>IC (EI n m)<|(Hn++aq n Fx).getD k Tu)=n+m:=by simp [aG4]
 refine ⟨⟨hbw.os.trans hW.below.os,hbw.tape.trans hW.below.tape,hbw.output.trans hW.below.output,HP hW.below.size hbw.size,λk hk=>?_⟩,λb hz=>?_,λb hz=>?_,λi b hb hl hp=>?_,λi b hb hl hp=>?_,λi b hb hl=>?_,λi j bi bj hi hj li lj pi e=>?_,λi b hb=>?_,?_,λp hp=>?_,λD hD=>?_⟩
 ·rw [hbw.block k<|ZR hk hW.below.size];exact hW.below.block k hk
 ·rcases hz with h|h
  ·exact ZR (hW.BY b h) hbw.size
  ·exact hS.BY b h
 ·rcases hz with h|h
  ·exact hW.ET b h
  ·rcases hS.ET b h with h|h
   ·exact hW.ET b h
   ·exact .inr<|HP hW.below.size h
 ·rcases old i b hb with ⟨h1,h2,h3⟩ |⟨h1,h2⟩
  ·have hl':=(hlive i b h1 h3).1 hl
   rw [h3];intro hz;rcases hz with h|h
   ·exact hW.Ci i b h2 hl' hp h
   ·rcases hS.ET _ h with h|h
    ·exact hW.Ci i b h2 hl' hp h
    ·have:=hW.lt h2 hl'
     omega
  ·intro hz
   rcases hz with h|h
   ·have h4:=r2.low i b h2 hl
    have:=hW.BY _ h
    omega
   ·exact r2.Ci i b h2 hl hp h
 ·rcases old i b hb with ⟨h1,h2,h3⟩ |⟨h1,h2⟩
  ·rw [h3];exact .inl<|hW.Fz i b h2 ((hlive i b h1 h3).1 hl) hp
  ·exact .inr<|r2.Fz i b h2 hl hp
 ·rcases old i b hb with ⟨h1,h2,h3⟩ |⟨h1,h2⟩
  ·rw [h3];exact hW.low i b h2<|(hlive i b h1 h3).1 hl
  ·exact HP hW.below.size<|r2.low i b h2 hl
 ·rcases old i bi hi with ⟨h1,h2,h3⟩ |⟨h1,h2⟩<;>rcases old j bj hj with ⟨g1,g2,g3⟩ |⟨g1,g2⟩
  ·rw [h3,g3] at e
   exact hW.inj i j bi bj h2 g2 ((hlive i bi h1 h3).1 li) ((hlive j bj g1 g3).1 lj) pi e
  ·rw [h3] at e
   have:=hW.lt h2<|(hlive i bi h1 h3).1 li
   have:=r2.low j bj g2 lj
   omega
  ·rw [g3] at e
   have:=hW.lt g2<|(hlive j bj g1 g3).1 lj
   have:=r2.low i bi h2 li
   omega
  ·exact r2.inj i j bi bj h2 g2 li lj pi e
 ·rcases old i b hb with ⟨h1,h2,h3⟩ |⟨h1,h2⟩
  ·obtain ⟨q1,q2⟩:=hW.blk i b h2
   refine ⟨BX.keep (n:=M H) (λk hk=>hag k<|hn▸hk) (λ_ h=> .inl h) (λb hz=>hbw.block b<|hW.BY b hz) h3 (λhl=>hbw.block _<|hW.lt h2 hl) q2 q1,?_⟩
   rw [hlen]
   exact ⟨AS.mono A0 _ q2.1,by
    have:=q2.2
    cases hk:b.k with
    |mp kd ks vs=>rw [hk] at this;exact AS.mono A0 _ this
    |_=>trivial⟩
  ·obtain ⟨q1,q2⟩:=r2.blk i b h2
   refine ⟨BX.keep (n:=n+m) (λ_ _=>rfl) (λ_ h=> .inr h) (λ_ _=>rfl) rfl (λ_=>rfl) (by rw [hlen2] at q2;exact q2) q1,?_⟩
   rw [hlen];rw [hlen2] at q2;exact q2
 ·exact hW.CZ.mono (λ_ h=> .inl h) λb hz=>hbw.block b<|hW.BY b hz
 ·obtain ⟨q1,q2⟩:=hW.gh p hp
  exact ⟨R.mono (n:=M H) (λk hk=>hag k<|hn▸hk) (λ_ h=> .inl h) (λb hz=>hbw.block b<|hW.BY b hz) _ _ q2 q1,okV.mono (by rw [hlen];omega) _ q2⟩
 ·obtain ⟨q1,q2⟩:=hW.Ck D hD
  exact ⟨.inl q1,by unfold FV at*;rw [hbw.block D<|hW.BY D q1];exact q2⟩
def QU (S:List LV->T (LV×List AB)) (args:List LV) (H:List AB):T (LV×List AB):=
 if noOwnL args then (S args).bind λq=> .ok (renV (EI (M H)<|M q.2) q.1,H++q.2.map (IC<|EI (M H)<|M q.2)) else .no
theorem aFJ {g:FuncId}{m:List LV->List AB->T (LV×List AB)}(h:DX P G g m):DX P G g (QU λargs=>m args []):=λw0 Z0 Z β H w args vals lv H' hW hr hok hq=>by
 unfold QU at hq;split at hq
 ·rename_i hno
  obtain ⟨⟨lv1,Hn⟩,h1,h2⟩:=T.B2 hq;obtain ⟨rfl,rfl⟩:=h2
  have hok0:=noOwnL_ok args hno hok
  have hW1:RW G w ⟨Z,[],[]⟩ Z β [] w:=⟨Below.refl _ _,hW.BY,λb hz=> .inl hz,λk b hb=>A8,λk b hb=>A8,λk b hb=>A8,λi j bi bj hb=>AJ,λk b hb=>A8,hW.CZ,λp hp=>lX,λD hD=>(by cases hD)⟩
  refine (h w ⟨Z,[],[]⟩ Z β [] w args vals lv1 Hn hW1 hr hok0 h1).mono λe w' ⟨v,he,Z',β',r1,r2,r3⟩=>⟨v,he,?_⟩
  obtain ⟨β2,a1,⟨β1,a2,a3⟩,a4⟩:=hW.join r1;refine ⟨_,β2,a4,?_,?_⟩
  ·have q:=R.mono (n:=M Hn) (Z':=λb=>Z b\/Z' b) (w':=w') a2 (λ_ h=> .inr h) (λ_ _=>rfl) _ _ r3 r2
   exact ren_R a3 _ _ (λk hk=>oR.2 aNk) r3 q
  ·have:=ren_ok (ks:=EI (M H)<|M Hn) _ (λk hk=>oR.2 aNk) r3
   rw [aG4] at this
   grind
 ·cases hq
end Go.Sx
namespace Go.Proofs.YtpfblnbippcdjaaGreatDoor
set_option maxRecDepth 100000
set_option maxHeartbeats 4000000
open Go.Proofs.Tryz
open Go.Sx
def UX:Nat->Int
 |0=>1
 |1=>1
 |2=>1
 |3=>0
 |4=>2
 |5=>2
 |_=>3
def Wa (j:Nat):Int:=[-1,-1,-1,-1,-1,-1,1,-1,-1,-1,-1,-1,-1,0,-1,-1,-1,-3,-1,2,-1,-1,-1,-1,-1,-1,-3,-1,-1,-1,-1,-1,-1,4,-1,-1,-1,-1,-1,-1,-3,-1,-2,-2,-2,-2,-2,-2,-2,-2,-2,-2,-2,-2,0,1,1,1,1,-3].getD j 0
def aBH:Nat->Int
 |0=>4
 |1=>1
 |2=>1
 |3=>4
 |_=>2
def AV:Az:=fun
 |2=>ah (8,λj=> Y J<|UX j)
 |0=>ah (60,λj=> Y J<|Wa j)
 |1=>ah (5,λj=> Y J<|aBH j)
 |_=>aj
structure Bd where
  f:FuncId
  S:List LV->T LV
  v:Valid prog AV f S
def gm:List Bd->Specs
  | [],_=>aj
  |b::l,g=>if g=b.f then ah b.S else gm l g
def gk:∀(l:List Bd) g S,gm l g=ah S->Valid prog AV g S
  | [],_,_,h=>An
  | b::l,g,S,h=>by
    simp only [gm] at h;split at h
    · rename_i hg;simp only [Af] at h;subst h hg;exact b.v
    · exact gk l g S h
structure LBx where
  L:DE
  h:ED prog AV L
structure Ax where
  K:Hand
  h:F5 prog AV K
structure Db where
  g:FuncId
  m:List LV->List AB->T (LV×List AB)
  c:DX prog AV g m
instance {f:FuncId} {S:List LV->T LV}:CoeOut (Valid prog AV f S) Bd:=⟨λv=>⟨f,S,v⟩⟩
instance:Coe (List Bd) Specs:=⟨gm⟩
instance:Coe Ax Hand:=⟨Ax.K⟩
def kN:Ax:=⟨Ff,Q9⟩
def l0 (l:List Bd):LBx:=⟨Dl prog AV (gm l) 20 2,HW<|gk l⟩
def la (id:Nat) {g:FuncId}{N:Nat}{t:List LV->List AB->T (Ex×List LV×List AB)}{fn:Func}{bd:Code}(hfn:prog.funcs[g]? =ah fn) (ht:GR prog AV (AN N) (.loop bd) t) (h:LBx) (hc:fn.body=ah (fn.body.getD .skip):=by kernel_rfl) (hid:(BA<|fn.body.getD .skip).filter (λb=>GP b==id)=[bd]:=by kernel_rfl):LBx:=⟨CT g N id t h.L,D5 hfn hc hid ht h.h⟩
def kI (l:List Bd) (h:LBx):Ax:=⟨inl prog AV (gm l) h.L 9,aCe (gk l) h.h 9⟩
def dm:List Db->Does
  | [],_=>aj
  |p::ps,g=>if g=p.g then ah p.m else dm ps g
def dk:∀(l:List Db) g m,dm l g=ah m->DX prog AV g m
  | [],_,_,e=>Q2
  | p::ps,g,m,e=>by
    simp only [dm] at e;split at e
    · rename_i hg;simp only [Af] at e;subst e hg;exact p.c
    · exact dk ps g m e
def Ht (l:List Bd) (h:LBx) (C:List Db):Ax:=⟨Uh prog AV (gm l) h.L (dm C) 9,aC7 (gk l) h.h (dk C) 9⟩
abbrev VV (f:FuncId) (S:List LV->T LV):=Valid prog AV f S
abbrev SA {σ:Type}(N:Nat) (b:Code) (D:AR σ):=GR prog AV (AN N) (.loop b) D.lp
abbrev uS (fn:Func) (S:List LV->T LV):=Ju prog fn.params.toList S
abbrev lN (c:Code) (k:Nat):Code:=((BA c)[k]?).getD .skip
abbrev bN (fn:Func) (k:Nat):Code:=lN (fn.body.getD .skip) k
def vo {f:FuncId}{fn:Func}{S:List LV->T LV}(hfn:prog.funcs[f]? =ah fn) (l:List Bd) (h:Ax) (hS:∀args lv,(S args).all (λx=>x=lv)->S8 (λx=>x=lv) (Bk prog AV (gm l) h.K Ag fn<|canL args)) (hc:fn.body=ah (fn.body.getD .skip):=by kernel_rfl) (e:BA (fn.body.getD .skip)=[]:=by kernel_rfl):Valid prog AV f (Ju prog fn.params.toList S):=nW hfn hc (gk l) h.h (ou e) λa v q=>(hS a v q).out
def vl {f:FuncId}{fn:Func}{S:List LV->T LV}{t:List LV->List AB->T (Ex×List LV×List AB)}{bd:Code}(hfn:prog.funcs[f]? =ah fn) (l:List Bd) (h:Ax) (k:Nat) (sn:Sound prog AV (.loop bd) t) (hS:∀args lv,(S args).all (λx=>x=lv)->S8 (λx=>x=lv) (Bk prog AV (gm l) h.K (λi=>if i=k then t else Ag i) fn<|canL args)) (hc:fn.body=ah (fn.body.getD .skip):=by kernel_rfl) (e:BA (fn.body.getD .skip)=[bd]:=by kernel_rfl) (hk:GP bd=k:=by kernel_rfl):Valid prog AV f (Ju prog fn.params.toList S):=nW hfn hc (gk l) h.h (L:=λi=>if i=k then t else Ag i) (λb hb=>by
  rw [e,M7] at hb;subst hb
  show Sound _ _ _ (if GP b=k then t else Ag (GP b))
  rw [AD hk];exact sn) λa v q=>(hS a v q).out
def vm {f:FuncId}{fn:Func}{S:List LV->T LV}{L:LM}(hfn:prog.funcs[f]? =ah fn) (l:List Bd) (h:Ax) (hL:∀b∈BA (fn.body.getD .skip),Sound prog AV (.loop b)<|L<|GP b) (hS:∀args lv,(S args).all (λx=>x=lv)->S8 (λx=>x=lv) (Bk prog AV (gm l) h.K L fn<|canL args)) (hc:fn.body=ah (fn.body.getD .skip):=by kernel_rfl):Valid prog AV f (Ju prog fn.params.toList S):=nW hfn hc (gk l) h.h hL λa v q=>(hS a v q).out
def Ap {t:T LV}(t':T LV) {K:LV->Prop}(h':t'.all K) (h:t=t':=by kernel_rfl):S8 K t:=⟨aDx h h'⟩
def Da {σ:Type}(I:σ->Prop) (mu:σ->Nat) (Q:Ex->σ->σ->Prop) (t:σ->T (Rd σ)):Prop:=∀s,I s->DK (λs'=>I s'/\mu s'<mu s) (λx s'=>Q x s s') ((t s).rd s)
def Rq {σ:Type}(I:σ->Prop) (t:σ->T (Rd σ)):Prop:=∀s,I s->(t s).all (λ_=>True)
def Fi {σ:Type}(E I:σ->Prop) (Q:Ex->σ->σ->Prop) (x:σ->Ex) (r:σ->σ):Prop:=∀s,E s->∃s',I s'/\Q (x s) s' (r s)
def Rs {σ Y:Type}(E:σ->Prop) (x:σ->Ex) (r:σ->σ) (V:σ->Y) (K:Ex->σ->Y->Prop):Prop:=∀s,E s->K (x s) (r s) (V s)
variable {σ : Type} {D : AR σ} {Q : Ex -> σ -> σ -> Prop} {b : Code}
def DJ (o:D.Ok) (p:D.Pf Q) {Y:Type}{V:σ->Y}{K:Ex->σ->Y->Prop}(hv:∀s,D.I s->DK (λs'=>V s'=V s) (λx s'=>K x s'<|V s) (D.f s)):Rs D.E D.Aq D.run V K:=λs hE=>AR.wI o p V K hv s hE
def s1 (o:D.Ok) (p:D.Pf Q) (l:List Bd) (h:Ax) (e:BA b=[]:=by kernel_rfl) (hn:∀s,gz D.N D.lv D.us (D7 prog AV (gm l) h.K (Ll Ag) b (HV D.n D.lv<|D.A<|D.rd s)<|D.B<|D.rd s)=(D.t<|D.rd s).mp (rdV D.n D.A D.B):=by intro s;kernel_rfl):GR prog AV (AN D.N) (.loop b) D.lp:=AR.snd o p (GJ (gk l) h.h b (λb hb=>by rw [e] at hb;cases hb)) hn
def s2 (o:D.Ok) (p:D.Pf Q) (l:List Bd) (h:Ax) (hn:∀s,gz D.N D.lv D.us (D7 prog AV (gm l) h.K (Iu prog AV (gm l) h.K 20 2) b (HV D.n D.lv<|D.A<|D.rd s)<|D.B<|D.rd s)=(D.t<|D.rd s).mp (rdV D.n D.A D.B):=by intro s;kernel_rfl):GR prog AV (AN D.N) (.loop b) D.lp:=AR.snd o p (GJ (gk l) h.h b λb _=>So (gk l) h.h 20 2 b) hn
end Go.Proofs.YtpfblnbippcdjaaGreatDoor
namespace Go.Proofs.YtpfblnbippcdjaaGreatDoor
set_option maxRecDepth 100000
set_option maxHeartbeats 4000000
open Go.Proofs.Tryz
open Go.Sx
abbrev B3:Ty:=.pair A7<|.pair A7<|.pair A7 .bool
abbrev St:=Int×Int×Int×Bool
instance:Coe (List St) LV:=⟨.xl B3⟩
def BG (l:List St) (n:Int):St:=l.getD n.toNat (0,0,0,X)
def sV (c:Ch) (s:St):Bool:=IK c.2.2.1 c.2.2.2.1 c.2.2.2.2.1 c.2.2.2.2.2.1 c.2.2.2.2.2.2.1&&(inB s.1 0 5&&(inB s.2.2.1 0 1000000&&(inB s.2.1 0 c.2.2.2.2.1&&((s.2.2.1 !=0 ||s.2.1==0)&&(!s.2.2.2 ||s.1==5)))))
def NT {c:Ch}{s:St}:sV c s=U↔IK c.2.2.1 c.2.2.2.1 c.2.2.2.2.1 c.2.2.2.2.2.1 c.2.2.2.2.2.2.1=U/\0<=s.1/\s.1<=5/\0<=s.2.2.1/\s.2.2.1<=1000000/\0<=s.2.1/\s.2.1<=c.2.2.2.2.1/\(s.2.2.1=0->s.2.1=0)/\(s.2.2.2=U->s.1=5):=by
 obtain ⟨p,a,l,w⟩:=s;unfold sV;cases w<;>simp [Bf]<;>omega
def evV (mx k n m:Int):Bool:=if k=4 then inB n 0 1 else if k=6 then inB n 0 2 else if k=7 then inB m 1 1000000&&inB n 0 mx else U
def Jp (p:Int) (w:Bool) (k n:Int):Int:=
 if k=1 then (if p=0 then 1 else -1)
 else if k=2 then (if p=5/\w=U then 5 else if p=1\/p=5 then 0 else -1)
 else if k=3 then (if p=1 then 2 else -1)
 else if k=4 then (if p=2 then (if n=1 then 3 else 5) else -1)
 else if k=5 then (if p=3 then 4 else -1)
 else if k=6 then (if p=4 then (if n=0 then 1 else 5) else -1)
 else if k=9 then (if p=0\/w=U then p else 1)
 else p
def tkF (l:Int):Int:=if 0<l-1 then l-1 else 0
def sL (l k m:Int):Int:=if k=7 then m else if k=8 then tkF l else if k=9 then 0 else l
def sA (a l k n:Int):Int:=if k=7 then n else if k=8 then (if tkF l=0 then 0 else a) else if k=9 then 0 else a
def sW (w:Bool) (k n:Int):Bool:=w ||(k==6&&n==1)
def sE (c:Ch) (s:St) (k n m:Int):Int:=
 if sV c s=U then (if inB k 1 9=U then (if evV c.2.2.2.2.1 k n m=U then (if Jp s.1 s.2.2.2 k n<0 then 6 else 0) else 1) else 9) else 1
def sN (c:Ch) (s:St) (k n m:Int):St:=if sE c s k n m=0 then (Jp s.1 s.2.2.2 k n,sA s.2.1 s.2.2.1 k n,sL s.2.2.1 k m,sW s.2.2.2 k n) else (0,0,0,X)
def Bg (c:Ch) (s:St):Int:=if sV c s=U then (if s.2.2.2=U then c.2.2.2.2.1 else if s.1≠4 then 0 else if s.2.2.1≠0 then s.2.1 else c.2.2.2.2.2.2.1) else 0
def IJ (c:Ch) (s:St) (k n m:Int):St:=if sE c s k n m=0 then sN c s k n m else s
def mF (k p:Int):Int:=
 if k=1 then (if p=0 then 1 else -1)
 else if k=2 then (if p=1 then 0 else if p=5 then -3 else -1)
 else if k=3 then (if p=1 then 2 else -1)
 else if k=4 then (if p=2 then -3 else -1)
 else if k=5 then (if p=3 then 4 else -1)
 else if k=6 then (if p=4 then -3 else -1)
 else if k=7 then -2
 else if k=8 then -2
 else if p=0 then 0 else if p=5 then -3 else 1
theorem ahR {k p:Int}(h1:1<=k) (h2:k<=9) (h3:0<=p) (h4:p<=5):Wa (k.toNat*6+(p.toNat*1+0))=mF k p:=by
 have key:∀e:Fin 10,∀s:Fin 6,1<=e.val->Wa (e.val*6+(s.val*1+0))=mF (e.val:Int) (s.val:Int):=Aa
 have:=key ⟨k.toNat,A0⟩ ⟨p.toNat,A0⟩ A8
 grind
def dcP (p:Int) (w:Bool) (k n:Int):Int:=if k=4 then (if n=1 then 3 else 5) else if k=6 then (if n=0 then 1 else 5) else if k=2 then (if w=U then p else 0) else if k=9 then (if w=U then p else 1) else p
def dcW (w:Bool) (k n:Int):Bool:=if k=6 then n==1 else w
def nine {k:Int}(h1:1<=k) (h2:k<=9):k=1\/k=2\/k=3\/k=4\/k=5\/k=6\/k=7\/k=8\/k=9:=A0
def amI {p:Int}(h1:0<=p) (h2:p<=5):p=0\/p=1\/p=2\/p=3\/p=4\/p=5:=A0
def asb {mx k n m:Int}(h:evV mx k n m=U):(k=4->0<=n/\n<=1)/\(k=6->0<=n/\n<=2)/\(k=7->1<=m/\m<=1000000/\0<=n/\n<=mx):=by
 unfold evV at h;refine ⟨λe=>?_,λe=>?_,λe=>?_⟩
 ·subst e;simpa [Bf] using h
 ·subst e;simpa [Bf] using h
 ·subst e;simp [Bf] at h;omega
theorem aij {c:Ch}{s:St}{k n m:Int}(h:sE c s k n m=0):sV c s=U/\1<=k/\k<=9/\evV c.2.2.2.2.1 k n m=U/\0<=Jp s.1 s.2.2.2 k n:=by
 unfold sE at h
 repeat' split at h
 all_goals first|(exfalso;omega) |skip
 rename_i h1 h2 h3 h4
 have h2:=Bf.1 h2
 grind
def aii {c:Ch}{s:St}{k n m:Int}(h:sE c s k n m=0):sV c (sN c s k n m)=true:=by
 obtain ⟨h1,h2,h3,h4,h5⟩:=aij h
 have he:=asb h4
 obtain ⟨p,a,l,w⟩:=s
 have h1:=NT.1 h1
 rw [NT];unfold sN;rw [AD h];obtain ⟨g1,g2,g3,g4,g5,g6,g7,g8,g9⟩:=h1
 have gc:=cb.1 g1
 simp only at*
 have hp:Jp p w k n<=5:=by
  unfold Jp
  repeat' split
  all_goals omega
 have ht:0<=tkF l/\tkF l<=l:=by unfold tkF;split<;>omega
 have hL:0<=sL l k m/\sL l k m<=1000000:=by
  unfold sL
  repeat' split
  all_goals omega
 have hA:0<=sA a l k n/\sA a l k n<=c.2.2.2.2.1:=by
  unfold sA
  repeat' split
  all_goals omega
 refine ⟨g1,h5,hp,hL.1,hL.2,hA.1,hA.2,λhl=>?_,λhw=>?_⟩
 ·unfold sL at hl
  unfold sA
  repeat' split
  all_goals repeat' split at hl
  all_goals omega
 ·unfold sW at hw
  simp only [Cl,AY,Cz] at hw;rcases hw with hw|⟨e1,e2⟩
  ·have hs:=g9 hw
   subst hs;unfold Jp at h5|-;simp only [hw] at h5|-;rcases nine h2 h3 with rfl|rfl|rfl|rfl|rfl|rfl|rfl|rfl|rfl<;>simp at h5|-
  ·subst e1 e2
   unfold Jp at h5|-
   simp at h5|-
   split at h5
   ·rename_i h4;simp [h4]
   ·omega
def aRQ {c:Ch}{s:St}{k n m:Int}(h:sV c s=U):sV c (IJ c s k n m)=true:=by
 unfold IJ;split
 ·rename_i h1;exact aii h1
 ·exact h
abbrev Ca:=Int×Int×Int×Int×Int
def Bb (l:List Ca) (n:Int):Ca:=l.getD n.toNat (0,0,0,0,0)
abbrev B7:Ty:=.pair (.sl A7)<|.pair A7 A7
abbrev Mi:=List Int×Int×Int
instance:Coe (List Mi) LV:=⟨.xl B7⟩
def CI (l:List Mi) (n:Int):Mi:=l.getD n.toNat ([],0,0)
abbrev BS:Ty:=.pair A7<|.pair A7 .bool
abbrev Me:=Int×Int×Bool
instance:Coe (List Me) LV:=⟨.xl BS⟩
def G7 (l:List Me) (n:Int):Me:=l.getD n.toNat (0,0,X)
def GA (c:Ca):Bool:=inB c.1 0 4&&(inB c.2.1 1 7&&(inB c.2.2.1 1 80&&(inB c.2.2.2.1 0 1000000000&&(inB c.2.2.2.2 0 20&&(c.1 !=3 ||an (c.2.2.2.2>=1))))))
def WB {c:Ca}:GA c=U↔0<=c.1/\c.1<=4/\1<=c.2.1/\c.2.1<=7/\1<=c.2.2.1/\c.2.2.1<=80/\0<=c.2.2.2.1/\c.2.2.2.1<=1000000000/\0<=c.2.2.2.2/\c.2.2.2.2<=20/\(c.1=3->1<=c.2.2.2.2):=by
 simp [GA,inB];omega
def Hr (m:Mi):Bool:=an (M m.1<=21)&&(inB m.2.1 0 1000000&&(inB m.2.2 0 2000000000&&m.1.all (λp=>inB p 0 80)))
def ck {m:Mi}:Hr m=U↔M m.1<=21/\0<=m.2.1/\m.2.1<=1000000/\0<=m.2.2/\m.2.2<=2000000000/\∀p∈m.1,0<=p/\p<=80:=by
 simp [Hr,Bf,and_assoc]
def cnt (n:Int):Int:=n%2+n / 2%2+n / 4%2
def afu {n:Int}:0<=cnt n/\cnt n<=3:=by unfold cnt;omega
def eight {n:Int}(h1:0<=n) (h2:n<=7):n=0\/n=1\/n=2\/n=3\/n=4\/n=5\/n=6\/n=7:=A0
def land (a b:Int):Int:=Bv J a b
def Ke (k ph p:Int):Int:=if k=2 then land (land ph p) (-land ph p) else land ph p
def aD7 {a b:Int}(ha:0<=a/\a<=7) (hb:0<=b/\b<=7):0<=land a b/\land a b<=7/\0<=land (land a b) (-land a b)/\land (land a b) (-land a b)<=7/\(land a b≠0->land (land a b) (-land a b)≠0):=by
 have key:∀x y:Fin 8,0<=land x.val y.val/\land x.val y.val<=7/\0<=land (land x.val y.val) (-land x.val y.val)/\land (land x.val y.val) (-land x.val y.val)<=7/\(land x.val y.val≠0->land (land x.val y.val) (-land x.val y.val)≠0):=Aa
 have:=key ⟨a.toNat,A0⟩ ⟨b.toNat,A0⟩
 simp only [CR ha.1,CR hb.1] at this;exact this
def aT (dl:Int) (pil:List Int):Int:=if (M pil:Int)-dl>=0 then pil.getD ((M pil:Int)-dl).toNat 0 else 0
def Gc (c:Ca) (m:Mi) (al:Int):Int:=
 if c.1=1 then (if c.2.2.2.2=0 then al else min al (aT c.2.2.2.2 m.1))
 else if c.1=3 then (if (m.2.1.tdiv c.2.2.2.2).tmod 2=1 then 0 else al)
 else if c.1=4 then (if al=0 then 0 else c.2.2.1) else al
def Em (c:Ca) (m:Mi) (p al:Int):Int:=if Ke c.1 c.2.1 p=0\/m.2.2>=c.2.2.2.1 then 0 else min c.2.2.1 (Gc c m al)
def Gy (c:Ca) (m:Mi) (p al:Int):Int:=if Em c m p al=0 then 0 else Ke c.1 c.2.1 p
def dwP (pil:List Int) (al:Int):List Int:=(pil++[al]).drop<|M pil-20
def dwG (c:Ca) (m:Mi) (p al:Int):Int:=m.2.2+2300*Em c m p al*cnt (Gy c m p al)
def Km (c:Ca) (m:Mi) (p al:Int):Bool:=GA c&&(Hr m&&(inB p 1 7&&(inB al 0 80&&m.2.1 !=1000000)))
def cx {c:Ca}{m:Mi}{p al:Int}:Km c m p al=U↔GA c=U/\Hr m=U/\1<=p/\p<=7/\0<=al/\al<=80/\m.2.1≠1000000:=by
 simp [Km,Bf,and_assoc]
theorem aCQ {k ph p:Int}(h1:1<=ph/\ph<=7) (h2:1<=p/\p<=7):0<=Ke k ph p/\Ke k ph p<=7:=by
 obtain ⟨a1,a2,a3,a4,_⟩:=aD7 (a:=ph) (b:=p) ⟨A0,A0⟩ ⟨A0,A0⟩;unfold Ke;exact Zk
def afB {dl:Int}{pil:List Int}(h:∀p∈pil,0<=p/\p<=80):0<=aT dl pil:=by
 unfold aT;split
 ·rw [DQ]
  cases hg:pil[((M pil:Int)-dl).toNat]? with
  |none=>simp
  |some x=>simp;exact (h x<|OK hg).1
 ·omega
def aeU {c:Ca}{m:Mi}{al:Int}(hc:GA c=U) (hm:Hr m=U) (ha:0<=al):0<=Gc c m al:=by
 have hc:=WB.1 hc
 have hm:=ck.1 hm
 have:=afB (dl:=c.2.2.2.2) hm.2.2.2.2.2
 unfold Gc
 repeat' split
 all_goals omega
def aDm {c:Ca}{m:Mi}{p al:Int}(hc:GA c=U) (hm:Hr m=U) (hp:1<=p/\p<=7) (ha:0<=al/\al<=80):
  0<=Em c m p al/\Em c m p al<=c.2.2.1/\0<=Gy c m p al/\Gy c m p al<=7:=by
 have hw:=aeU hc hm ha.1
 have hc:=WB.1 hc
 have hs:=aCQ (k:=c.1) (ph:=c.2.1) (p:=p) ⟨A0,A0⟩ hp
 have h1:0<=Em c m p al/\Em c m p al<=c.2.2.1:=by unfold Em;split<;>omega
 refine ⟨h1.1,h1.2,?_⟩;unfold Gy;omega
def FH (c:Ca) (m:Mi) (p al:Int):Int:=if Km c m p al=U then Em c m p al else 0
def EZ (c:Ca) (m:Mi) (p al:Int):Int:=if Km c m p al=U then Gy c m p al else 0
def JB (c:Ca) (m:Mi) (p al:Int):Mi:=if Km c m p al=U then (dwP m.1 al,m.2.1+1,dwG c m p al) else ([],0,0)
def J4 (c:Ca) (m:Mi) (p al:Int):Int:=if Km c m p al=U then 0 else 1
def meV (m:Me):Bool:=inB m.1 0 1000000&&(an (m.2.1>=-1000000000000000)&&an (m.2.1<=1000000000000000))
def mcR (m:Me) (a p:Int):Int:=if m.2.2=U then m.2.1-2300*a*p else m.2.1+2300*a*p
def mcB (m:Me) (a p:Int):Bool:=meV m&&(inB a 0 80&&inB p 0 3)
def Fh (m:Me) (a p:Int):Int:=if mcB m a p=U then (if meV (m.1,mcR m a p,m.2.2)=U then 0 else 3) else 1
def HB (m:Me) (a p:Int):Me:=if Fh m a p=0 then (m.1,mcR m a p,m.2.2) else (0,0,X)
def Bx (t d:Int):Int:=if (inB t 0 1000000&&inB d (-200) 200)=U then t*(1000000+d) / 1000000 else 0
def IE (t d:Int):Int:=if (inB t 0 1000000&&inB d (-200) 200)=U then 0 else 1
theorem aSb {l:List Int}{f:Int->Bool}:l.all f=D9 (M l) (λj=>f<|gi l j):=by
 rw [IP,BR,Di];refine ⟨λh j hj=>h _<|KI A0 hj,λh x hx=>?_⟩
 obtain ⟨k,hk,rfl⟩:=I0.1 hx
 have:=h k A0
 rwa [Im A8] at this
section
variable {lt : Int -> Int -> Bool}
def LW (lt:Int->Int->Bool):List Int->Int->List Int
 | [],x=>[x]
 |y::q,x=>if lt x y=U then y::LW lt q x else x::y::q
theorem nP {x:Int}:∀ {q:List Int},(LW lt q x).Perm (x::q)
 | []=>List.Perm.refl _
 |y::q=>by
  unfold LW;split
  ·exact (List.Perm.cons y nP).trans<|List.Perm.swap x y q
  ·grind
def anw {q:List Int}{x:Int}:M (LW lt q x)=M q+1:=by rw [nP.length_eq];rfl
theorem aDJ:∀ {l acc:List Int},(l.foldl (LW lt) acc).Perm (acc++l)
 | [],acc=>AJ
 |x::l,acc=>by
  rw [Ky];refine aDJ.trans ?_;refine (wj l nP).trans ?_
  grind
def sortB (lt:Int->Int->Bool) (l:List Int):List Int:=(l.foldl (LW lt) []).reverse
def aeT {l:List Int}:(sortB lt l).Perm l:=by
 exact (xL _).trans (by have:=aDJ (lt:=lt) (l:=l) (acc:=[]);simpa using this)
def Ki (l:List Int) (j:Nat):List Int:=(l.set (j+1)<|l.getD j 0).set j<|l.getD (j+1) 0
def Kp (lt:Int->Int->Bool):Nat->List Int->List Int
 |0,l=>l
 |j+1,l=>if lt (l.getD (j+1) 0) (l.getD j 0)=U then Kp lt j (Ki l j) else l
def asX {p post:List Int}{x y:Int}:Ki (p++y::x::post) (M p)=p++x::y::post:=by
 unfold Ki
 simp
theorem qd {post:List Int}{x:Int}:∀ {q:List Int},Kp lt (M q) (q.reverse++x::post)=(LW lt q x).reverse++post
 | []=>by simp [Kp,LW]
 | y::q=>by
  have e1:((y::q).reverse++x::post)=q.reverse++y::x::post:=AJ
  rw [e1,Bi,Kp]
  have g1:(q.reverse++y::x::post).getD (M q) 0=y:=AJ
  have g2:(q.reverse++y::x::post).getD (M q+1) 0=x:=AJ
  rw [g1,g2];unfold LW;split
  ·have e2:Ki (q.reverse++y::x::post) (M q)=q.reverse++x::y::post:=by
    have:=asX (p:=q.reverse) (x:=x) (y:=y) (post:=post)
    grind
   rw [e2,qd]
   simp
  ·simp
theorem ao6:∀ {j:Nat}{l:List Int},j<M l->(Kp lt j l).Perm l:=λ{j l} h=>by
 have e:l=(l.take j).reverse.reverse++l[j]::l.drop (j+1):=AJ
 have hj:M (l.take j).reverse=j:=A8
 have h2:=qd (lt:=lt) (q:=(l.take j).reverse) (x:=l[j]) (post:=l.drop<|j+1)
 rw [hj,<-e] at h2;rw [h2];refine (wj _<|(xL _).trans nP).trans ?_;refine (List.perm_middle.symm.trans ?_);refine (wj _<|xL _).trans ?_
 grind
def MZ (lt:Int->Int->Bool) (l:List Int) (i:Nat):List Int:=((l.drop i).foldl (LW lt) (l.take i).reverse).reverse
theorem aeg {l:List Int}{i:Nat}(h:i<M l):MZ lt (Kp lt i l) (i+1)=MZ lt l i:=by
 have e:l=(l.take i).reverse.reverse++l[i]::l.drop (i+1):=AJ
 have hi:M (l.take i).reverse=i:=A8
 have h2:=qd (lt:=lt) (q:=(l.take i).reverse) (x:=l[i]) (post:=l.drop<|i+1)
 have hl:M ((LW lt (l.take i).reverse l[i]).reverse)=i+1:=by rw [List.length_reverse,anw,hi]
 unfold MZ
 grind
def afS {l:List Int}:MZ lt l 1=sortB lt l:=by
 cases l with
 |nil=>rfl
 |cons x l=>simp [MZ,sortB,LW]
def afT {l:List Int}{i:Nat}(h:M l<=i):MZ lt l i=l:=by
 unfold MZ;rw [List.drop_of_length_le h,DS h]
 simp
end
abbrev Ak:Ty:=.pair .bool<|.pair A7<|.pair A7 A7
abbrev Dm:=Bool×Int×Int×Int
instance:Coe (List Dm) LV:=⟨.xl Ak⟩
def Dp (l:List Dm) (n:Int):Dm:=l.getD n.toNat (X,0,0,0)
def slk (d:List Dm) (t i:Int):Int:=(Dp d i).2.2.1-t-(Dp d i).2.1
def cm (a b:Int):Int:=if a<b then -1 else if a>b then 1 else 0
def orI:List Int->Int
 | []=>0
 |x::l=>if (x !=0)=U then x else orI l
def cmD (d:List Dm) (t a b:Int):Int:=orI [cm (Dp d a).2.2.2 (Dp d b).2.2.2,cm (slk d t a)<|slk d t b,cm a b]
def ltD (d:List Dm) (t a b:Int):Bool:=an<|cmD d t a b<0
def IF (d:List Dm) (t:Int):Prop:=(∀x∈d,(-2000000000<=x.2.1/\x.2.1<=2000000000)/\-2000000000<=x.2.2.1/\x.2.2.1<=2000000000)/\-2000000000<=t/\t<=2000000000
theorem ar0 {d:List Dm}{i:Int}(h0:0<=i) (h1:i<(M d:Int)):Dp d i∈d:=by
 unfold Dp
 grind
def aur {d:List Dm}{t i:Int}(h:IF d t) (h0:0<=i) (h1:i<(M d:Int)):(-2000000000<=(Dp d i).2.1/\(Dp d i).2.1<=2000000000)/\-2000000000<=(Dp d i).2.2.1/\(Dp d i).2.2.1<=2000000000:=h.1 _<|ar0 h0 h1
def FZ (n:Nat):List Int:=(au n).map λk:Nat=>(k:Int)
def Gt (d:List Dm) (t:Int):List Int:=sortB (ltD d t)<|FZ<|M d
def aDZ {n:Nat}:FZ (n+1)=FZ n++[(n:Int)]:=by simp [FZ,Pj]
def Oh {n:Nat}:M (FZ n)=n:=by simp [FZ]
theorem aEf {n:Nat}{x:Int}:x∈FZ n↔0<=x/\x<(n:Int):=by
 unfold FZ;rw [Eg]
 constructor
 ·rintro ⟨k,hk,rfl⟩
  rw [IQ] at hk;omega
 ·exact λh=>⟨x.toNat,A8,A0⟩
def aef {n:Nat}:(FZ n).Nodup:=xK _ (λa b h=>A0) jy
def aCY {d:List Dm}{t:Int}:(Gt d t).Perm (FZ<|M d):=aeT
def aEL {d:List Dm}{t:Int}:M (Gt d t)=M d:=by rw [aCY.length_eq,Oh]
def anF {d:List Dm}{t x:Int}:x∈Gt d t↔0<=x/\x<(M d:Int):=aCY.mem_iff.trans aEf
def aeY {d:List Dm}{t:Int}:(Gt d t).Nodup:=aCY.nodup_iff.2 aef
theorem qF {mi ma st a k:Int}(hh:De mi ma st=U) (ha:0<=a) (h0:0<=k) (h1:k<EE mi ma st):Dq mi st k<=a↔k<=HC mi ma st a:=by
 obtain ⟨g1,g2,g3,g4,g5⟩:=I3.1 hh
 have hn:¬(De mi ma st=X\/a<0):=A8
 unfold HC;rw [AE hn];unfold Dq
 by_cases e:k=0
 ·subst e
  simp only [Bm];exact aLG
 ·rw [AE e]
  have hp:0<=(k-1)*st:=IS A0 A0
  split
  ·omega
  ·have:=(Int.le_ediv_iff_mul_le (a:=k-1) (b:=a-mi) (c:=st) A0)
   omega
def aQp {mi ma st a:Int}(hh:De mi ma st=U):HC mi ma st a<EE mi ma st:=by
 have:=qE hh
 unfold HC;split
 ·omega
 ·omega
theorem af4 {mi ma st a:Int}(hh:De mi ma st=U) (ha:0<=a):0<=HC mi ma st a:=by
 have:=qE hh
 obtain ⟨g1,g2,g3,g4,g5⟩:=I3.1 hh
 have hn:¬(De mi ma st=X\/a<0):=A8
 unfold HC;rw [AE hn];exact aLG
theorem aea {l:List Int}:once l=U↔l.Nodup:=by
 rw [oq,List.nodup_iff_pairwise_ne,kF]
 constructor
 ·intro h i j hi hj hij e
  exact h j hj (by rw [<-e,I0];exact ⟨i,A8,AJ⟩)
 ·intro h j hj hm
  obtain ⟨i,hi,e⟩:=I0.1 hm
  grind
theorem acu:∀ {r l:List Int},r.Nodup->(∀x∈r,x∈l)->M r=M l->l.Nodup/\∀x∈l,x∈r
 | [],l,_,_,h=>by
  have:l=[]:=M4.1 h.symm
  subst this
  simp
 | x::r,l,hn,hs,h=>by
  obtain ⟨n1,n2⟩:=M3.1 hn
  have hx:=hs x AJ
  have hp:=List.perm_cons_erase hx
  obtain ⟨i1,i2⟩:=acu (l:=l.erase x) n2 (λy hy=>by
   have hy2:=hs y A8
   have hne:y≠x:=λe=>n1<|e▸hy
   exact (List.mem_erase_of_ne hne).2 hy2) A8
  refine ⟨hp.nodup_iff.2<|M3.2 ⟨λhm=>n1<|i2 x hm,i1⟩,λy hy=>?_⟩
  by_cases e:y=x
  ·simp [e]
  ·grind
def aI (n:Nat):List Int:=(au n).map λk:Nat=>(k:Int)
def aEg {n:Nat}{x:Int}:x∈aI n↔0<=x/\x<(n:Int):=by
 unfold aI;rw [Eg]
 constructor
 ·rintro ⟨k,hk,rfl⟩
  have:=IQ.1 hk
  omega
 ·rintro ⟨h1,h2⟩
  exact ⟨x.toNat,IQ.2 A0,A0⟩
def aeJ {n:Nat}:M (aI n)=n:=by simp [aI]
theorem aE3 {l:List Int}{n:Nat}:GU l n=U↔M l=n/\l.Nodup/\∀i∈l,0<=i/\i<(n:Int):=by
 unfold GU;simp only [AY,Ac,BR,o9,aea]
 constructor
 ·grind
 ·grind
def afP {l:List Int}{n:Nat}(h:GU l n=U) {i:Int}(h0:0<=i) (h1:i<(n:Int)):i∈l:=by
 obtain ⟨g1,g2,g3⟩:=aE3.1 h;exact (acu g2 (l:=aI n) (λx hx=>aEg.2<|g3 x hx) (by rw [aeJ];exact g1)).2 i<|aEg.2 ⟨h0,h1⟩
def Kw (al am ms:List Int):Int:=(ms.map λm=>mx (gi al m)<|gi am m).sum
def rowB (al am:List Int) (r:Rw):Bool:=r.2.all (λm=>gi am m==0) ||an (Kw al am r.2<=r.1)
def gj (rows:List Rw) (al am:List Int):Bool:=rows.all<|rowB al am
def np {al am ms:List Int}{m:Int}:Kw al am (m::ms)=mx (gi al m) (gi am m)+Kw al am ms:=by simp [Kw]
def aKO (gs:List Ch) (i k:Int):Int:=amA (AG gs i).2.2.2.1 (AG gs i).2.2.2.2.1 (AG gs i).2.2.2.2.2.1 k
def aKN (gs:List Ch) (i k:Int):Int:=amE (AG gs i).2.2.2.1 (AG gs i).2.2.2.2.1 (AG gs i).2.2.2.2.2.1 k
structure wW (gs:List Ch) (out:List Int):Prop where
 len:M out=M gs
 bd:∀a∈out,0<=a/\a<=1000000
def wW.put {gs:List Ch}{out:List Int}(h:wW gs out) {k:Nat}{v:Int}(hv:0<=v/\v<=1000000):wW gs (out.set k v):=
 ⟨by rw [CL];exact h.len,λa ha=>by
  rcases OR ha with h2|h2
  ·exact h.bd a h2
  ·rw [h2];exact hv⟩
section
variable {P : List Int -> Bool} {tp : Int -> Int}
def J5 (P:List Int->Bool) (tp:Int->Int) (L:Int) (lv:List Int) (i:Int):List Int:=
 if gi lv i=L-1/\L<=tp i then (if P (lv.set i.toNat L)=U then lv.set i.toNat L else lv) else lv
def Jo (P:List Int->Bool) (tp:Int->Int) (L:Int) (lv l:List Int):List Int:=l.foldl (J5 P tp L) lv
def G8 (P:List Int->Bool) (tp:Int->Int) (od:List Int):Nat->Int->List Int->List Int
 |0,_,lv=>lv
 |f+1,L,lv=>G8 P tp od f (L+1)<|Jo P tp L lv od
def KB {l:List Int}{i j v:Int}(h0:0<=i) (h1:i<(M l:Int)) (hj:0<=j):gi (l.set i.toNat v) j=if j=i then v else gi l j:=by
 unfold gi;rw [T1]
 by_cases e:j=i
 ·subst e
  omega
 ·omega
def S1 (n:Nat) (l:List Int):Prop:=∀i∈l,0<=i/\i<(n:Int)
theorem aE8 {L i:Int}{lv:List Int}:M (J5 P tp L lv i)=M lv:=by
 unfold J5;split
 ·split
  ·grind
  ·rfl
 ·rfl
theorem az8 {L i j:Int}{lv:List Int}(h:0<=i/\i<(M lv:Int)) (hj:0<=j):gi lv j<=gi (J5 P tp L lv i) j:=by
 exact aLO
theorem az9 {L i j:Int}{lv:List Int}(h:0<=i/\i<(M lv:Int)) (hj:0<=j):gi (J5 P tp L lv i) j<=gi lv j\/(gi (J5 P tp L lv i) j=L/\L<=tp j):=by
 exact aLO
def o6 {L i:Int}{lv l:List Int}:Jo P tp L lv (i::l)=Jo P tp L (J5 P tp L lv i) l:=rfl
def dK {L:Int}:∀ {l lv:List Int},M (Jo P tp L lv l)=M lv
 | [],_=>rfl
 |i::l,lv=>by rw [o6,dK (l:=l),aE8]
theorem aRS {L j:Int}(hj:0<=j):∀ {l lv:List Int},S1 (M lv) l->gi lv j<=gi (Jo P tp L lv l) j
 | [],_,_=>Dg _
 |i::l,lv,h=>by
  rw [o6]
  have h1:=az8 (P:=P) (tp:=tp) (L:=L) (h i AJ) hj
  have h2:=aRS (L:=L) hj (l:=l) (lv:=J5 P tp L lv i) aN5
  omega
theorem uY {L j:Int}(hj:0<=j):∀ {l lv:List Int},S1 (M lv) l->gi (Jo P tp L lv l) j<=gi lv j\/(gi (Jo P tp L lv l) j<=L/\gi (Jo P tp L lv l) j<=tp j)
 | [],_,_=> .inl (Dg _)
 |i::l,lv,h=>by
  rw [o6]
  have h1:=az9 (P:=P) (tp:=tp) (L:=L) (h i AJ) hj
  have h2:=uY (L:=L) hj (l:=l) (lv:=J5 P tp L lv i) aN5
  omega
def aGU {od:List Int}:∀ {f:Nat}{L:Int}{lv:List Int},M (G8 P tp od f L lv)=M lv
 |0,_,_=>rfl
 |f+1,L,lv=>by rw [G8,aGU,dK]
def aR0 {od:List Int}{j:Int}(hj:0<=j):∀ {f:Nat}{L:Int}{lv:List Int},S1 (M lv) od->gi lv j<=gi (G8 P tp od f L lv) j
 |0,_,_,_=>Dg _
 |f+1,L,lv,h=>by
  rw [G8]
  have h1:=aRS (P:=P) (tp:=tp) (L:=L) hj h
  have h2:=aR0 (f:=f) (L:=L+1) (lv:=Jo P tp L lv od) hj (by rw [dK];exact h)
  omega
def aR1 {od:List Int}{j:Int}(hj:0<=j):∀ {f:Nat}{L:Int}{lv:List Int},S1 (M lv) od->gi (G8 P tp od f L lv) j<=gi lv j\/(gi (G8 P tp od f L lv) j<=L+f-1/\gi (G8 P tp od f L lv) j<=tp j)
 |0,_,_,_=> .inl (Dg _)
 |f+1,L,lv,h=>by
  rw [G8]
  have h1:=uY (P:=P) (tp:=tp) (L:=L) hj h
  have h2:=aR1 (f:=f) (L:=L+1) (lv:=Jo P tp L lv od) hj (by rw [dK];exact h)
  omega
def aEE {od:List Int}:∀ {f:Nat}{L:Int}{lv:List Int},G8 P tp od (f+1) L lv=Jo P tp (L+f) (G8 P tp od f L lv) od
 |0,L,lv=>by simp [G8]
 |f+1,L,lv=>by
  rw [G8,aEE (f:=f) (L:=L+1),G8,show L+1+(f:Int)=L+((f+1:Nat):Int) by omega]
theorem aCg {L:Int}:∀ {l lv:List Int},(∀i∈l,gi lv i≠L-1\/tp i<L)->Jo P tp L lv l=lv
 | [],_,_=>rfl
 | i::l,lv,h=>by
  have e:J5 P tp L lv i=lv:=by
   unfold J5
   grind
  rw [o6,e,aCg λj hj=>h j A8]
theorem aE4 {od:List Int}:∀ {f:Nat}{L:Int}{lv:List Int},(∀i∈od,gi lv i<L-1)->G8 P tp od f L lv=lv
 |0,_,_,_=>rfl
 |f+1,L,lv,h=>by
  rw [G8,aCg λi hi=> .inl A8,aE4 λi hi=>A8]
end
structure Hg (rows:List Rw) (gs:List Ch) (al mo od:List Int):Prop where
 mem:∀r∈rows,r.2.Nodup/\∀m∈r.2,0<=m/\m<(M gs:Int)
 has:∀i:Int,0<=i->i<(M gs:Int)->De (AG gs i).2.2.2.1 (AG gs i).2.2.2.2.1 (AG gs i).2.2.2.2.2.1=U
 gl:M gs<=16
 all:M al=M gs
 mol:M mo=M gs
 al:∀a∈al,0<=a/\a<=80
 mo:∀a∈mo,0<=a/\a<=80
 nd:od.Nodup
 ord:S1 (M gs) od
 cov:∀i:Int,0<=i->i<(M gs:Int)->i∈od
def aaq {cs:List Cd}{os:List ByteArray}{ks:List Ko}{gs:List Ch}{bs:List Ba}{al mo od:List Int}(h:G0 cs os ks gs bs al mo od=U):Hg (DH cs gs<|M cs) gs al mo od:=by
 obtain ⟨hv,h1,h2,h3,h4,h5⟩:=L9.1 h
 have hl:=(DD.1 hv).1
 obtain ⟨o1,o2,o3⟩:=aE3.1 h5;refine ⟨λr hr=>⟨(row_mem hr).1,(row_mem hr).2.1⟩,λi h0 h1=>?_,A0,h1,h2,λa ha=>QI.1<|BR.1 h3 a ha,λa ha=>QI.1<|BR.1 h4 a ha,o2,o3,λi h0 h1=>afP h5 h0 h1⟩
 have:=Og hv h0 h1
 exact aLI
def PP (rows:List Rw) (gs:List Ch) (al lv:List Int):Bool:=gj rows al<|FA gs lv
def tpO (gs:List Ch) (mo:List Int) (i:Int):Int:=FF gs i<|gi mo i
def aG0 {gs:List Ch}{lv:List Int}:M (FA gs lv)=M gs:=by simp [FA]
def TH {gs:List Ch}{lv:List Int}{i:Int}(h0:0<=i) (h1:i<(M gs:Int)):gi (FA gs lv) i=Cr gs i (gi lv i):=by
 rw [Im (by rw [aG0];omega)]
 simp only [FA,xM,kB];rfl
def abS {gs:List Ch}{i:Int}:Cr gs i 0=0:=by simp [Cr,Dq]
def aFS {gs:List Ch}{i a b:Int}(hh:De (AG gs i).2.2.2.1 (AG gs i).2.2.2.2.1 (AG gs i).2.2.2.2.2.1=U) (h0:0<=a) (h1:a<=b):Cr gs i a<=Cr gs i b:=by
 obtain ⟨g1,g2,g3,g4,g5⟩:=I3.1 hh;exact aFR ⟨g1,g4⟩ h0 h1
theorem aRX {gs:List Ch}{i a b:Int}(hh:De (AG gs i).2.2.2.1 (AG gs i).2.2.2.2.1 (AG gs i).2.2.2.2.2.1=U) (h0:0<=a) (h1:a<b):Cr gs i a<Cr gs i b:=by
 obtain ⟨g1,g2,g3,g4,g5⟩:=I3.1 hh
 have h2:=aFS hh (show 0<=a+1 by omega) (show a+1<=b by omega)
 have h3:Cr gs i a<Cr gs i (a+1):=by
  unfold Cr Dq;split
  ·grind
  ·have:(a+1-1)*(AG gs i).2.2.2.2.2.1=(a-1)*(AG gs i).2.2.2.2.2.1+(AG gs i).2.2.2.2.2.1:=by
    grind
   omega
 omega
def aRW {gs:List Ch}{i a:Int}(hh:De (AG gs i).2.2.2.1 (AG gs i).2.2.2.2.1 (AG gs i).2.2.2.2.2.1=U) (h0:0<=a):0<=Cr gs i a:=by
 have:=aFS hh (Dg 0) h0
 exact this
theorem nX {al am bm:List Int}:∀ {ms:List Int},(∀m∈ms,gi am m=gi bm m)->Kw al am ms=Kw al bm ms
 | [],_=>rfl
 |m::ms,h=>by rw [np,np,nX (ms:=ms) λx hx=>h x A8,h m AJ]
theorem aGM {al am bm:List Int}{i:Int}:∀ {ms:List Int},ms.Nodup->i∈ms->(∀m∈ms,m≠i->gi am m=gi bm m)->Kw al bm ms=Kw al am ms+(mx (gi al i) (gi bm i)-mx (gi al i) (gi am i))
 | [],_,h,_=>An
 | m::ms,hn,hi,h=>by
  obtain ⟨n1,n2⟩:=M3.1 hn;rw [np,np]
  by_cases e:m=i
  ·subst e
   rw [nX (am:=am) (bm:=bm) λx hx=>h x A8 λe=>n1<|e▸hx]
   omega
  ·have hi2:i∈ms:=by
    rcases B8.1 hi with h|h
    ·grind
    ·exact h
   rw [aGM n2 hi2 λx hx=>h x A8,h m AJ e]
   omega
theorem aed {al am bm:List Int}{r:Rw}(h:∀m∈r.2,gi am m=gi bm m):rowB al am r=rowB al bm r:=by
 unfold rowB;rw [nX h]
 congr 1
 rw [IP,BR,BR]
 constructor
 ·grind
 ·grind
structure Inv (rows:List Rw) (gs:List Ch) (al sm lv:List Int):Prop where
 sl:M sm=M rows
 sm:∀k:Nat,k<M rows->sm.getD k 0=Kw al (FA gs lv) (Cb rows k).2
 ll:M lv=M gs
 nn:∀j,0<=j->0<=gi lv j
 pp:PP rows gs al lv=U
def dP {rows:List Rw}{k:Int}(h0:0<=k) (h1:k<(M rows:Int)):Cb rows k∈rows:=by
 rw [oF A0];exact GD _
def qR {rows:List Rw}{gs:List Ch}{al mo od lv:List Int}(H:Hg rows gs al mo od) {i L:Int}(hl:M lv=M gs) (h0:0<=i) (h1:i<(M gs:Int)) {r:Rw}(hr:r∈rows):
  (∀m∈r.2,m≠i->gi (FA gs lv) m=gi (FA gs<|lv.set i.toNat L) m)/\gi (FA gs<|lv.set i.toNat L) i=Cr gs i L:=by
 refine ⟨λm hm e=>?_,?_⟩
 ·obtain ⟨m0,m1⟩:=(H.mem r hr).2 m hm
  rw [TH m0 m1,TH m0 m1,KB h0 A0 m0,AE e]
 ·rw [TH h0 h1,KB h0 A0 h0,AD rfl]
def aON {rows:List Rw}{gs:List Ch}{al mo od lv:List Int}(H:Hg rows gs al mo od) {i L:Int}(hl:M lv=M gs) (h0:0<=i) (h1:i<(M gs:Int)) {r:Rw}(hr:r∈rows) (hc:gi lv i=L-1):
  Kw al (FA gs<|lv.set i.toNat L) r.2=Kw al (FA gs lv) r.2+(if i∈r.2 then Fg gs al i L else 0):=by
 obtain ⟨p1,p2⟩:=qR (L:=L) H hl h0 h1 hr;split
 ·rename_i hi
  rw [aGM (am:=FA gs lv) (H.mem r hr).1 hi p1,p2,TH h0 h1,hc];rfl
 ·rename_i hi
  rw [<-nX (am:=FA gs lv) λm hm=>p1 m hm λe=>hi<|e▸hm]
  omega
theorem ar7 {rows:List Rw}{gs:List Ch}{al mo od sm lv:List Int}(H:Hg rows gs al mo od) (hI:Inv rows gs al sm lv) {i L:Int}(h0:0<=i) (h1:i<(M gs:Int)) (hL:1<=L) (hc:gi lv i=L-1):
  ((OL rows).getD i.toNat []).all (KY rows sm<|Fg gs al i L)=PP rows gs al (lv.set i.toNat L):=by
 have hg:=H.gl
 rw [ub (λr hr=>⟨(H.mem r hr).1,λm hm=>((H.mem r hr).2 m hm).1⟩) A0,IP,BR]
 unfold PP gj;rw [BR]
 have hpp:=hI.pp
 unfold PP gj at hpp;rw [BR] at hpp
 have hpos:1<=Cr gs i L:=by
  have:=aRX (H.has i h0 h1) (Dg 0) (show 0<L by omega)
  rw [abS] at this;omega
 have hfit:∀k:Int,0<=k->k<(M rows:Int)->i∈(Cb rows k).2->(KY rows sm (Fg gs al i L) k=rowB al (FA gs<|lv.set i.toNat L) (Cb rows k)):=λk k0 k1 hk=>by
  have hr:=dP k0 k1
  have hs:=hI.sm k.toNat A0
  have hp:=aON (L:=L) H hI.ll h0 h1 hr hc
  have hz:(Cb rows k).2.all (λm=>gi (FA gs<|lv.set i.toNat L) m==0)=false:=by
   rw [Hw];intro hz
   have:=BR.1 hz i hk
   rw [(qR (L:=L) H hI.ll h0 h1 hr).2,Cz] at this;omega
  unfold KY rowB
  grind
 constructor
 ·intro h r hr
  obtain ⟨k,hk,rfl⟩:=I0.1 hr
  have ek:Cb rows (k:Int)=rows[k]:=oF yh
  by_cases hi:i∈rows[k].2
  ·have:=h (k:Int)<|TD.2 ⟨A0,A0,by
    rw [Pu,ek,CR h0]
    simpa using hi⟩
   rw [hfit k A0 A0 A8,ek] at this;exact this
  ·rw [<-aed (am:=FA gs lv) λm hm=>(qR (L:=L) H hI.ll h0 h1 hr).1 m hm λe=>hi<|e▸hm]
   exact hpp _ hr
 ·intro h x hx
  obtain ⟨x0,x1,x2⟩:=TD.1 hx;rw [hfit x x0 A0 A8];exact h _<|dP x0 A0
theorem aql {rows:List Rw}{gs:List Ch}{al mo od sm lv:List Int}{b:Bool}(H:Hg rows gs al mo od) (hI:Inv rows gs al sm lv) {i L:Int}(h0:0<=i) (h1:i<(M gs:Int)) (hL:1<=L):
  (Fc (OL rows) rows gs al mo L (sm,lv,b) i).2.1=J5 (PP rows gs al) (tpO gs mo) L lv i/\Inv rows gs al (Fc (OL rows) rows gs al mo L (sm,lv,b) i).1 (Fc (OL rows) rows gs al mo L (sm,lv,b) i).2.1/\((Fc (OL rows) rows gs al mo L (sm,lv,b) i).2.2=X->b=X/\(Fc (OL rows) rows gs al mo L (sm,lv,b) i).2.1=lv):=by
 unfold Fc J5
 by_cases hc:gi lv i=L-1/\L<=tpO gs mo i
 ·have hf:=ar7 H hI h0 h1 hL hc.1
  rw [AD (show lv.getD i.toNat 0=L-1/\L<=FF gs i (gi mo i) from hc),AD hc,hf]
  by_cases hp:PP rows gs al (lv.set i.toNat L)=U
  ·rw [AD hp,AD hp]
   have hg:=H.gl
   refine ⟨rfl,⟨by rw [nD];exact hI.sl,λk hk=>?_,by rw [CL];exact hI.ll,λj hj=>?_,hp⟩,λh=>An⟩
   ·have hr:Cb rows (k:Int)∈rows:=dP A0 A0
    rw [ub (λr hr=>⟨(H.mem r hr).1,λm hm=>((H.mem r hr).2 m hm).1⟩) A0,pR nf (λr hr=>(TD.1 hr).1) (by rw [hI.sl];exact hk),hI.sm k hk,aON (L:=L) H hI.ll h0 h1 hr hc.1]
    have:(k:Int)∈Jr 0 rows (i.toNat:Int)↔i∈(Cb rows (k:Int)).2:=by
     rw [TD,Pu,CR h0]
     constructor
     ·grind
     ·grind
    by_cases hm:i∈(Cb rows (k:Int)).2
    ·grind
    ·grind
   ·simp only
    rw [KB h0 (by rw [hI.ll];exact h1) hj]
    split
    ·omega
    ·exact hI.nn j hj
  ·rw [AE hp,AE hp]
   grind
 ·rw [AE (show ¬(lv.getD i.toNat 0=L-1/\L<=FF gs i (gi mo i)) from hc),AE hc]
  grind
theorem aGE {rows:List Rw}{gs:List Ch}{al mo od:List Int}(H:Hg rows gs al mo od) {L:Int}(hL:1<=L):∀ {l sm lv:List Int}{b:Bool},S1 (M gs) l->Inv rows gs al sm lv->
  (swp (OL rows) rows gs al mo L (sm,lv,b) l).2.1=Jo (PP rows gs al) (tpO gs mo) L lv l/\Inv rows gs al (swp (OL rows) rows gs al mo L (sm,lv,b) l).1 (swp (OL rows) rows gs al mo L (sm,lv,b) l).2.1/\((swp (OL rows) rows gs al mo L (sm,lv,b) l).2.2=X->b=X/\(swp (OL rows) rows gs al mo L (sm,lv,b) l).2.1=lv)
 | [],sm,lv,b,_,hI=>⟨rfl,hI,λh=>⟨h,rfl⟩⟩
 |i::l,sm,lv,b,hr,hI=>by
  obtain ⟨i0,i1⟩:=hr i AJ;obtain ⟨r1,r2,r3⟩:=aql (b:=b) H hI i0 i1 hL;obtain ⟨s1,s2,s3⟩:=aGE H hL (l:=l) (b:=(Fc (OL rows) rows gs al mo L (sm,lv,b) i).2.2) (λx hx=>hr x A8) r2
  refine ⟨s1.trans (by rw [r1];rfl),s2,λh=>?_⟩
  obtain ⟨t1,t2⟩:=s3 h;obtain ⟨t3,t4⟩:=r3 t1;exact ⟨t3,t2.trans t4⟩
theorem aGN {rows:List Rw}{gs:List Ch}{al mo od:List Int}(H:Hg rows gs al mo od):∀ {f:Nat}{L:Int}{sm lv:List Int},1<=L->Inv rows gs al sm lv->(∀i∈od,gi lv i<=L-1)->shl (OL rows) rows gs al mo od f L sm lv=G8 (PP rows gs al) (tpO gs mo) od f L lv
 |0,_,_,_,_,_,_=>rfl
 | f+1,L,sm,lv,hL,hI,hb=>by
  obtain ⟨s1,s2,s3⟩:=aGE (b:=X) H hL H.ord hI;rw [shl,G8];split
  ·rw [aGN H A0 s2 (λi hi=>by
    rw [s1]
    have h1:=uY (P:=PP rows gs al) (tp:=tpO gs mo) (L:=L) (H.ord i hi).1 (l:=od) (lv:=lv) (by rw [hI.ll];exact H.ord)
    have h2:=hb i hi
    omega),s1]
  ·rename_i hc
   have hc:(swp (OL rows) rows gs al mo L (sm,lv,X) od).2.2=false:=A8
   have e:=(s3 hc).2
   rw [<-s1,e,aE4 λi hi=>A8]
theorem NV {n:Nat}{j:Int}:gi (aq n 0) j=0:=by
 unfold gi
 grind
theorem akF {rows:List Rw}{gs:List Ch}{al mo od:List Int}(H:Hg rows gs al mo od):Inv rows gs al (SM al rows) (aq (M gs) 0):=by
 have hz:∀r∈rows,∀m∈r.2,gi (FA gs<|aq (M gs) 0) m=0:=λr hr m hm=>by
  obtain ⟨m0,m1⟩:=(H.mem r hr).2 m hm;rw [TH m0 m1,NV,abS]
 refine ⟨aCd,λk hk=>?_,Ce,λj _=>by rw [NV];omega,?_⟩
 ·rw [aSd hk]
  have hr:Cb rows (k:Int)∈rows:=dP A0 A0
  unfold smA Kw
  congr 1
  refine JF λm hm=>?_
  obtain ⟨m0,m1⟩:=(H.mem _ hr).2 m hm;rw [hz _ hr m hm]
  have:=H.al _<|KI m0 (by rw [H.all];exact m1)
  unfold mx;omega
 ·unfold PP gj
  rw [BR];intro r hr;unfold rowB
  grind
def lvF (rows:List Rw) (gs:List Ch) (al mo od:List Int):List Int:=G8 (PP rows gs al) (tpO gs mo) od 80 1<|aq (M gs) 0
def qh {rows:List Rw}{gs:List Ch}{al mo od:List Int}(H:Hg rows gs al mo od) {i:Int}(h0:0<=i) (h1:i<(M gs:Int)):0<=tpO gs mo i/\tpO gs mo i<=80/\tpO gs mo i<EE (AG gs i).2.2.2.1 (AG gs i).2.2.2.2.1 (AG gs i).2.2.2.2.2.1:=
 ⟨af4 (H.has i h0 h1) (H.mo _<|KI h0 (by rw [H.mol];exact h1)).1,uP,aQp<|H.has i h0 h1⟩
def awh {rows:List Rw}{gs:List Ch}{al mo od:List Int}(H:Hg rows gs al mo od):shV rows gs al mo od=lvF rows gs al mo od:=by
 unfold shV lvF;rw [H.all,aGN H A0 (akF H) (λi _=>by rw [NV];omega),aEE,aCg λi hi=> .inr ?_]
 have:=qh H (H.ord i hi).1 (H.ord i hi).2
 omega
section
variable {rows : List Rw} {gs : List Ch} {al mo od : List Int}
def as2:M (lvF rows gs al mo od)=M gs:=by
 unfold lvF;rw [aGU,Ce]
def aH0 (H:Hg rows gs al mo od):S1 (M<|aq (M gs) (0:Int)) od:=by rw [Ce];exact H.ord
def ay8 (H:Hg rows gs al mo od) {j:Int}(hj:0<=j):0<=gi (lvF rows gs al mo od) j:=by
 have:=aR0 (P:=PP rows gs al) (tp:=tpO gs mo) (f:=80) (L:=1) hj<|aH0 H
 rw [NV] at this;exact this
def aQm (H:Hg rows gs al mo od) {j:Int}(h0:0<=j) (h1:j<(M gs:Int)):gi (lvF rows gs al mo od) j<=tpO gs mo j:=by
 have h2:=aR1 (P:=PP rows gs al) (tp:=tpO gs mo) (f:=80) (L:=1) h0<|aH0 H
 rw [NV] at h2
 have h3:=qh H h0 h1
 unfold lvF;omega
def arJ {i k:Int}(hh:De (AG gs i).2.2.2.1 (AG gs i).2.2.2.2.1 (AG gs i).2.2.2.2.2.1=U) (h0:0<=k) (h1:k<EE (AG gs i).2.2.2.1 (AG gs i).2.2.2.2.1 (AG gs i).2.2.2.2.2.1):FF gs i (Cr gs i k)=k:=by
 have h2:=aRW hh h0
 have h3:=(qF hh h2 h0 h1).1<|Dg _
 have h4:=aQp (a:=Cr gs i k) hh
 have h5:=(qF hh h2 (k:=HC (AG gs i).2.2.2.1 (AG gs i).2.2.2.2.1 (AG gs i).2.2.2.2.2.1<|Cr gs i k) A0 h4).2<|Dg _
 by_cases e:k<HC (AG gs i).2.2.2.1 (AG gs i).2.2.2.2.1 (AG gs i).2.2.2.2.2.1 (Cr gs i k)
 ·have:=aRX hh h0 e
  have h5:Cr gs i (HC (AG gs i).2.2.2.1 (AG gs i).2.2.2.2.1 (AG gs i).2.2.2.2.2.1<|Cr gs i k)<=Cr gs i k:=h5
  omega
 ·unfold FF
  omega
end
def atP {mi ma st k:Int}(hh:De mi ma st=U) (h0:0<=k) (h1:k<EE mi ma st):Dq mi st k<=ma:=by
 obtain ⟨g1,g2,g3,g4,g5⟩:=I3.1 hh;unfold Dq;split
 ·omega
 ·unfold EE at h1
  have h2:(k-1)<=(ma-mi) / st:=A0
  have:=(Int.le_ediv_iff_mul_le (a:=k-1) (b:=ma-mi) (c:=st) A0).1 h2
  omega
theorem ahM {mi ma st k:Int}(h0:0<=k) (h1:k<EE mi ma st):amA mi ma st k=Dq mi st k/\amE mi ma st k=0:=by
 unfold amA amE
 grind
section
variable {rows : List Rw} {gs : List Ch} {al mo od lv : List Int}
def lvR (gs:List Ch) (lv:List Int):Prop:=M lv=M gs/\∀j,0<=j->j<(M gs:Int)->0<=gi lv j/\gi lv j<EE (AG gs j).2.2.2.1 (AG gs j).2.2.2.2.1 (AG gs j).2.2.2.2.2.1
def zX (H:Hg rows gs al mo od):lvR gs (lvF rows gs al mo od):=⟨as2,λj h0 h1=>⟨ay8 H h0,by
 have:=aQm H h0 h1
 have:=qh H h0 h1
 omega⟩⟩
def atQ (H:Hg rows gs al mo od) {j k:Int}(h0:0<=j) (h1:j<(M gs:Int)) (k0:0<=k) (k1:k<EE (AG gs j).2.2.2.1 (AG gs j).2.2.2.2.1 (AG gs j).2.2.2.2.2.1):(0<=Cr gs j k/\Cr gs j k<=80)/\aKN gs j k=0/\aKO gs j k=Cr gs j k/\FF gs j (Cr gs j k)=k:=by
 have hh:=H.has j h0 h1
 obtain ⟨g1,g2,g3,g4,g5⟩:=I3.1 hh
 have h2:=atP hh k0 k1
 obtain ⟨e1,e2⟩:=ahM k0 k1;refine ⟨⟨aRW hh k0,?_⟩,e2,e1,arJ hh k0 k1⟩;unfold Cr;omega
theorem ahK (H:Hg rows gs al mo od) (R:lvR gs lv) {j:Int}(h0:0<=j) (h1:j<(M gs:Int)):letI a:=FA gs lv;FF gs j (gi a j)=gi lv j/\aKN gs j (gi lv j)=0/\aKO gs j (gi lv j)=gi a j/\0<=gi a j/\gi a j<=80:=by
 obtain ⟨r0,r1⟩:=R.2 j h0 h1;obtain ⟨a1,a2,a3,a4⟩:=atQ H h0 h1 r0 r1;rw [TH h0 h1]
 grind
def aj6 (H:Hg rows gs al mo od) {j k:Int}(h0:0<=j) (h1:j<(M gs:Int)) (k0:0<=k) (k1:k<EE (AG gs j).2.2.2.1 (AG gs j).2.2.2.2.1 (AG gs j).2.2.2.2.2.1):Cr gs j k<=gi mo j↔k<=tpO gs mo j:=
 qF (H.has j h0 h1) (H.mo _<|KI h0 (by rw [H.mol];exact h1)).1 k0 k1
theorem acv {a b:List Int}(hl:M a=M b) (h:∀j:Int,0<=j->j<(M b:Int)->gi a j=gi b j):a=b:=jx hl λk h1 h2=>by
 have:=h (k:Int) A0 A0
 rw [Im A8,Im A8] at this
 grind
def g4 (gs:List Ch) (mo b am:List Int) (j:Int):Prop:=(0<=gi b j/\gi b j<EE (AG gs j).2.2.2.1 (AG gs j).2.2.2.2.1 (AG gs j).2.2.2.2.2.1)/\gi am j=Cr gs j (gi b j)/\gi am j<=gi mo j
end
section
variable {cs : List Cd} {os : List ByteArray} {ks : List Ko} {gs : List Ch} {bs : List Ba} {al mo od : List Int}
def awi (h:G0 cs os ks gs bs al mo od=U):Fb cs os ks gs bs al mo od=FA gs (lvF (DH cs gs<|M cs) gs al mo od):=by
 unfold Fb;rw [AD h,awh<|aaq h]
def aar (h:G0 cs os ks gs bs al mo od=U):shE cs os ks gs bs al mo od=0:=by unfold shE;rw [AD h]
end
abbrev Am:Ty:=.pair A7 A7
abbrev Ra:=Int×Int
instance:Coe (List Ra) LV:=⟨.xl Am⟩
def C1 (l:List Ra) (n:Int):Ra:=l.getD n.toNat (0,0)
def uN {l:List Ra}{n:Int}(h:n.toNat<M l):C1 l n=l[n.toNat]:=LJ h
def aR3 {l:List Int}{j:Int}(h:M l<=j.toNat):gi l j=0:=by
 unfold gi;rw [DQ,ZN h];rfl
theorem ay3 {l:List Int}{a:Int}(h:a∈l):∃j:Int,(0<=j/\j<(M l:Int))/\gi l j=a:=by
 obtain ⟨k,hk,e⟩:=I0.1 h;exact ⟨k,A0,by rw [Im A8];simpa using e⟩
def neN {a b:Nat}:((a:Int) !=(b:Int))=!an (a=b):=by
 by_cases h:a=b
 ·simp [h]
 ·have h':(a:Int)≠(b:Int):=A0
  simp [h,h']
def SP (t:Int) (x:Le):Bool:=an (x.2.2.2.1<=t)&&an (Pc x>t)
def kpA (o:List Int) (x:Le):List Int:=o.set x.2.1.toNat<|mx (gi o x.2.1) x.2.2.1
def Lm (n:Nat) (l:List Le) (t:Int):List Int:=(l.filter<|SP t).foldl kpA<|aq n 0
def below (n:Int) (l:List Le):Bool:=l.all λx=>an<|x.2.1<n
def LZ (l:List Le) (n t:Int):Bool:=(BL l&&(inB n 0 16&&inB t 0 1100000))&&below n l
def Gr (l:List Le) (n t:Int):List Int:=if LZ l n t=U then Lm n.toNat l t else []
def Kb (l:List Le) (n t:Int):Int:=if LZ l n t=U then 0 else 1
def arO {o:List Int}{x:Le}:M (kpA o x)=M o:=by simp [kpA]
def aGf:∀ {l:List Le}{o:List Int},M (l.foldl kpA o)=M o
 | [],_=>rfl
 |x::l,o=>by rw [Ky,aGf,arO]
def cN {n:Nat}{l:List Le}{t:Int}:M (Lm n l t)=n:=by rw [Lm,aGf,Ce]
theorem aE2 {l:List Le}(h:BL l=U):l.Pairwise (λa b=>a.1<b.1/\a.2.2.2.1<=b.2.2.2.1):=by
 unfold BL at h;rw [AY] at h
 have hs:∀k:Nat,(hk:k+1<M l)->l[k].1<l[k+1].1/\l[k].2.2.2.1<=l[k+1].2.2.2.1:=λk hk=>by
  have:=Di.1 h.2 (k+1) A0
  unfold Gg Jd at this;rw [NW (n:=((k+1:Nat):Int)) A8,NW (n:=((k+1:Nat):Int)-1) A0] at this;simp only [AY,Cl,Ac] at this;obtain ⟨_,h1|h1⟩:=this
  ·omega
  ·have e:(((k+1:Nat):Int)-1).toNat=k:=A0
   simp only [e,C3] at h1;omega
 rw [kF];intro i j hi hj hij
 induction j with
 |zero=>omega
 | succ j ih=>
  have h1:=hs j A0
  by_cases e:i=j
  ·grind
  ·have h2:=ih A0 A0
   omega
def CW (c:Ch):Int:=c.2.2.2.2.2.2.1
def raC (c:Ch) (r:Ra):Bool:=IG c.2.2.1 c.2.2.2.1 c.2.2.2.2.1 c.2.2.2.2.2.1 (CW c) r.1 r.2
def HI (x:Dm):Bool:=inB x.2.1 0 1000000000&&(inB x.2.2.1 0 1000000&&inB x.2.2.2 1 9)
def J6 (cs:List Cd) (os:List ByteArray) (ks:List Ko) (gs:List Ch) (bs:List Ba) (l:List Le) (rs:List Ra) (d:List Dm) (t n:Int):Bool:=
 (BI cs os ks gs bs&&BL l)&&((an (M rs=M gs)&&(an (M d=M gs)&&(inB t 0 1000000&&inB n 1 999900)))&&(below (M gs) l&&D9 (M gs) (λj=>raC (AG gs j) (C1 rs j)&&HI (Dp d j))))
def FC (n:Nat) (f:Int->Int):List Int:=(au n).map λk:Nat=>f (k:Int)
def I2 {n:Nat}{f:Int->Int}:M (FC n f)=n:=by simp [FC]
def afd {n:Nat}{f:Int->Int}:FC (n+1) f=FC n f++[f (n:Int)]:=by simp [FC,Pj]
theorem Q5 {n:Nat}{f:Int->Int}{j:Int}(h0:0<=j) (h1:j<(n:Int)):gi (FC n f) j=f j:=by
 rw [Im (by rw [I2];omega)]
 simp only [FC,xM,kB]
 grind
theorem aD5 {n:Nat}{f:Int->Int}{x:Int}(h:x∈FC n f):∃j,(0<=j/\j<(n:Int))/\f j=x:=by
 obtain ⟨k,hk,e⟩:=Eg.1 h
 grind
def BP (gs:List Ch):List Int:=FC (M gs) λk=>CW<|AG gs k
def Iq (gs:List Ch) (d:List Dm):List Int:=FC (M gs) (λk=>if (Dp d k).1=U then (AG gs k).2.2.2.2.1 else 0)
def Hh (gs:List Ch) (l:List Le) (t:Int):List Int:=FC (M gs) λk=>mx (CW<|AG gs k)<|gi (Lm (M gs) l t) k
def tgL (cs:List Cd) (os:List ByteArray) (ks:List Ko) (gs:List Ch) (bs:List Ba) (d:List Dm) (t:Int):List Int:=Fb cs os ks gs bs (BP gs) (Iq gs d)<|Gt d t
def ofL (cs:List Cd) (os:List ByteArray) (ks:List Ko) (gs:List Ch) (bs:List Ba) (l:List Le) (d:List Dm) (t:Int):List Int:=Fb cs os ks gs bs (Hh gs l t) (tgL cs os ks gs bs d t)<|Gt d t
theorem afL {l:List Ra}{i j:Int}{v:Ra}(h0:0<=i) (h1:i<(M l:Int)) (hj:0<=j):C1 (l.set i.toNat v) j=if j=i then v else C1 l j:=by
 unfold C1;rw [DQ,DQ,Hx]
 by_cases e:j=i
 ·subst e
  rw [AD rfl,AD rfl,AD A0];rfl
 ·grind
theorem arW {a b:List Ra}(hl:M a=M b) (h:∀j:Int,0<=j->j<(M b:Int)->C1 a j=C1 b j):a=b:=jx hl λk h1 h2=>by
 have:=h (k:Int) A0 A0
 rw [uN A8,uN A8] at this
 grind
def ofO (cs:List Cd) (os:List ByteArray) (ks:List Ko) (gs:List Ch) (bs:List Ba) (l:List Le) (d:List Dm) (t:Int) (od:List Int):List Int:=Fb cs os ks gs bs (Hh gs l t) (Fb cs os ks gs bs (BP gs) (Iq gs d) od) od
def nwO (a t:Int):Option Le->Bool
 |none=>U
 |some x=>x.2.2.1 !=a ||an (x.2.2.2.1<=t-6)
def nwB (gs:List Ch) (l:List Le) (t i a:Int):Bool:=!an (a<=CW (AG gs i))&&nwO a t (l.reverse.find? λx=>x.2.1==i)
def nxA (c:Ch) (r:Ra) (w:Int):Int:=nA c.2.2.1 c.2.2.2.1 c.2.2.2.2.1 c.2.2.2.2.2.1 (CW c) r.1 r.2 w
def nxS (c:Ch) (r:Ra) (w:Int):Int:=nS c.2.2.1 c.2.2.2.1 c.2.2.2.2.1 c.2.2.2.2.2.1 (CW c) r.1 r.2 w
def Kq (gs:List Ch) (rs:List Ra) (w:List Int) (k:Nat):List Int:=FC k λk=>nxA (AG gs k) (C1 rs k)<|gi w k
def dcR (gs:List Ch) (rs:List Ra) (w:List Int) (k:Nat):List Ra:=(au k).map λk:Nat=>(nxA (AG gs k) (C1 rs k)<|gi w k,nxS (AG gs k) (C1 rs k)<|gi w k)
def H8 (gs:List Ch) (l:List Le) (t n:Int) (am:List Int):Nat->List Le
 |0=>[]
 |k+1=>H8 gs l t n am k++(if nwB gs l t k (gi am k)=U then [(n+M (H8 gs l t n am k),(k:Int),gi am k,t,12)] else [])
def cy {gs:List Ch}{rs:List Ra}{w:List Int}{k:Nat}:M (dcR gs rs w k)=k:=by simp [dcR]
theorem ag5 {gs:List Ch}{rs:List Ra}{w:List Int}{k:Nat}{j:Int}(h0:0<=j) (h1:j<(k:Int)):C1 (dcR gs rs w k) j=(nxA (AG gs j) (C1 rs j)<|gi w j,nxS (AG gs j) (C1 rs j)<|gi w j):=by
 rw [uN (by rw [cy];omega)]
 simp only [dcR,xM,kB]
 grind
def okC (c:Ch) (r:Ra) (w:Int):Bool:=okB c.2.2.1 c.2.2.2.1 c.2.2.2.2.1 c.2.2.2.2.2.1 (CW c) r.1 r.2 w
def dcK (gs:List Ch) (rs:List Ra) (w:List Int):Prop:=∀j,0<=j->j<(M gs:Int)->okC (AG gs j) (C1 rs j) (gi w j)=U
theorem aCS {gs:List Ch}{l:List Le}{t n:Int}{am:List Int}:∀ {k:Nat},M (H8 gs l t n am k)<=k
 |0=>by simp [H8]
 |k+1=>by
  have:=aCS (gs:=gs) (l:=l) (t:=t) (n:=n) (am:=am) (k:=k)
  rw [H8,BD];exact Zk
section
variable (cs : List Cd) (os : List ByteArray) (ks : List Ko) (gs : List Ch) (bs : List Ba) (l : List Le) (rs : List Ra) (d : List Dm) (t n : Int)
def deA:List Int:=if J6 cs os ks gs bs l rs d t n=U then Kq gs rs (ofL cs os ks gs bs l d t) (M gs) else []
def deR:List Ra:=if J6 cs os ks gs bs l rs d t n=U then dcR gs rs (ofL cs os ks gs bs l d t) (M gs) else []
def deL:List Le:=if J6 cs os ks gs bs l rs d t n=U then H8 gs l t n (Kq gs rs (ofL cs os ks gs bs l d t)<|M gs) (M gs) else []
def deE:Int:=if J6 cs os ks gs bs l rs d t n=U then 0 else 1
end
section
variable {cs : List Cd} {os : List ByteArray} {ks : List Ko} {gs : List Ch} {bs : List Ba} {l : List Le} {rs : List Ra} {d : List Dm} {t n : Int}
structure Vd (cs:List Cd) (os:List ByteArray) (ks:List Ko) (gs:List Ch) (bs:List Ba) (l:List Le) (rs:List Ra) (d:List Dm) (t n:Int):Prop where
 site:BI cs os ks gs bs=U
 les:BL l=U
 rl:M rs=M gs
 dl:M d=M gs
 gl:M gs<=16
 tb:0<=t/\t<=1000000
 nb:1<=n/\n<=999900
 co:below (M gs) l=U
 ra:∀j:Int,0<=j->j<(M gs:Int)->raC (AG gs j) (C1 rs j)=U
 dm:∀j:Int,0<=j->j<(M gs:Int)->HI (Dp d j)=U
 ch:∀j:Int,0<=j->j<(M gs:Int)->chW (AG gs j)=U
def ahs (h:J6 cs os ks gs bs l rs d t n=U):Vd cs os ks gs bs l rs d t n:=by
 unfold J6 at h;simp only [AY,Ac,Bf] at h;obtain ⟨⟨h1,h2⟩,⟨h3,h4,h5,h6⟩,h7,h8⟩:=h
 have hj:∀j:Int,0<=j->j<(M gs:Int)->raC (AG gs j) (C1 rs j)=U/\HI (Dp d j)=true:=λj h0 hj=>by
  have:=Di.1 h8 j.toNat A0
  rw [CR h0,AY] at this;exact this
 exact ⟨h1,h2,h3,h4,(DD.1 h1).1.2.2.2.2.1,h5,h6,h7,λj h0 h1=>(hj j h0 h1).1,λj h0 h1=>(hj j h0 h1).2,λj h0 hj=>by
  have:=Og h1 h0 hj
  unfold G3 at this;simp only [AY] at this;exact this.2.2⟩
def di {c:Ch}(h:chW c=U):(1<=c.2.2.1/\c.2.2.1<=7)/\(1<=c.2.2.2.1/\c.2.2.2.1<=c.2.2.2.2.1)/\c.2.2.2.2.1<=80/\(1<=c.2.2.2.2.2.1/\c.2.2.2.2.2.1<=80)/\0<=CW c/\CW c<=c.2.2.2.2.1:=by
 unfold chW at h;unfold CW;simp only [AY,Cl,Bf,Cz] at h;omega
theorem aH1 (hv:BL l=U) {m:Nat}:∀a∈Lm m l t,0<=a/\a<=80:=by
 have key:∀(l:List Le) (o:List Int),(∀x∈l,D4 x=U)->(∀a∈o,0<=a/\a<=80)->∀a∈l.foldl kpA o,0<=a/\a<=80:=λl=>by
  induction l with
  |nil=>exact λo _ h=>h
  | cons x l ih=>
   intro o hl ho;refine ih _ (λy hy=>hl y A8) λa ha=>?_
   have hx:=QL.1<|hl x AJ
   rcases OR ha with ha|rfl
   ·grind
   ·have:0<=gi o x.2.1/\gi o x.2.1<=80:=by
     by_cases h:x.2.1.toNat<M o
     ·rw [Im h];exact ho _<|GD _
     ·rw [aR3 A0];omega
    unfold mx;omega
 refine key _ _ (λx hx=>(Ij hv).2 x (Fs.1 hx).1) λa ha=>?_
 rw [List.eq_of_mem_replicate ha];omega
def aGl (hd:M d=M gs):GU (Gt d t) (M gs)=true:=by
 unfold GU;rw [aEL,hd,DB rfl,E9,AY,BR];refine ⟨λx hx=>o9.2 (by have:=anF.1 hx;rw [hd] at this;exact this),oq.2 λj hj hm=>?_⟩
 obtain ⟨k,hk,e⟩:=I0.1 hm;rw [M6] at hk;rw [List.getElem_take] at e
 have:=(kF.1<|aeY (d:=d) (t:=t)) k j A0 hj A0
 exact this e
def zh {l:List Int}{a b:Int}(hz:a<=0/\0<=b) (h:∀x∈l,a<=x/\x<=b) {j:Int}:a<=gi l j/\gi l j<=b:=by
 by_cases hj:j.toNat<M l
 ·rw [Im hj];exact h _<|GD _
 ·rw [aR3 A0];exact hz
structure Si (cs:List Cd) (os:List ByteArray) (ks:List Ko) (gs:List Ch) (bs:List Ba) (d:List Dm):Prop where
 site:BI cs os ks gs bs=U
 dl:M d=M gs
theorem Si.ch (h:Si cs os ks gs bs d) {j:Int}(h0:0<=j) (hj:j<(M gs:Int)):chW (AG gs j)=true:=by
 have:=Og h.site h0 hj
 unfold G3 at this
 grind
def Vd.si (h:Vd cs os ks gs bs l rs d t n):Si cs os ks gs bs d:=⟨h.site,h.dl⟩
def ahD (h:Si cs os ks gs bs d):∀a∈BP gs,0<=a/\a<=80:=λa ha=>by
 exact aMH
def auq (h:Si cs os ks gs bs d):∀a∈Iq gs d,0<=a/\a<=80:=λa ha=>by
 exact aMH
def ahN (h:Vd cs os ks gs bs l rs d t n):∀a∈Hh gs l t,0<=a/\a<=80:=λa ha=>by
 obtain ⟨j,⟨h0,h1⟩,rfl⟩:=aD5 ha
 have:=di<|h.ch j h0 h1
 have:=zh (j:=j) ⟨Dg 0,Aa⟩<|aH1 h.les (m:=M gs) (t:=t)
 unfold mx;omega
theorem awj {al mo od:List Int}(hk:G0 cs os ks gs bs al mo od=U):letI a:=Fb cs os ks gs bs al mo od;M a=M gs/\∀j,0<=j->j<(M gs:Int)->(0<=gi a j/\gi a j<=80)/\gi a j<=gi mo j:=by
 have H:=aaq hk
 rw [awi hk];refine ⟨aG0,λj h0 h1=>?_⟩
 obtain ⟨_,_,_,e4,e5⟩:=ahK H (zX H) h0 h1
 have h3:=(aj6 H h0 h1 ((zX H).2 j h0 h1).1 ((zX H).2 j h0 h1).2).2<|aQm H h0 h1
 rw [TH h0 h1] at e4 e5|-
 grind
theorem aG3 {al mo od:List Int}(hk:G0 cs os ks gs bs al mo od=U):M (Fb cs os ks gs bs al mo od)=M gs/\∀a∈Fb cs os ks gs bs al mo od,0<=a/\a<=80:=by
 obtain ⟨h1,h2⟩:=awj hk;refine ⟨h1,λa ha=>?_⟩
 obtain ⟨j,hj,rfl⟩:=ay3 ha
 grind
def aTj (h:Si cs os ks gs bs d):G0 cs os ks gs bs (BP gs) (Iq gs d) (Gt d t)=true:=
 L9.2 ⟨h.site,I2,I2,BR.2 λa ha=>QI.2<|ahD h a ha,BR.2 λa ha=>QI.2<|auq h a ha,aGl h.dl⟩
def aTk (h:Si cs os ks gs bs d):M (tgL cs os ks gs bs d t)=M gs/\∀a∈tgL cs os ks gs bs d t,0<=a/\a<=80:=by
 exact aG3<|aTj (t:=t) h
def aan (h:Vd cs os ks gs bs l rs d t n):G0 cs os ks gs bs (Hh gs l t) (tgL cs os ks gs bs d t) (Gt d t)=true:=
 L9.2 ⟨h.site,I2,(aTk h.si).1,BR.2 λa ha=>QI.2<|ahN h a ha,BR.2 λa ha=>QI.2<|(aTk h.si).2 a ha,aGl h.dl⟩
def aao (h:Vd cs os ks gs bs l rs d t n):M (ofL cs os ks gs bs l d t)=M gs/\∀a∈ofL cs os ks gs bs l d t,0<=a/\a<=80:=by
 exact aG3<|aan h
def ajf (h:Vd cs os ks gs bs l rs d t n) {j:Int}:letI a:=ofL cs os ks gs bs l d t;0<=gi a j/\gi a j<=80:=zh ⟨Dg 0,Aa⟩ (aao h).2
def ag3 (h:Vd cs os ks gs bs l rs d t n):dcK gs rs (ofL cs os ks gs bs l d t):=λj j0 j1=>by
 have hr:=h.ra j j0 j1
 have hb:=ajf h (j:=j)
 unfold raC at hr;unfold okC okB;rw [hr,DB hb.1,DB hb.2];rfl
def atS (h:Vd cs os ks gs bs l rs d t n):LZ l (M gs) t=true:=by
 have:=h.gl
 have:=h.tb
 unfold LZ;rw [h.les,Bf.2 ⟨A0,A0⟩,Bf.2 ⟨A0,A0⟩,h.co];rfl
end
section
variable {P : List Int -> Bool} {tp : Int -> Int}
end
def akV {ph mn mx st fb a s want:Int}(h:okB ph mn mx st fb a s want=U):nE ph mn mx st fb a s want=0:=by rw [nE,AD h]
section
variable {cs : List Cd} {os : List ByteArray} {ks : List Ko} {gs : List Ch} {bs : List Ba} {l : List Le} {rs : List Ra} {d : List Dm} {t n : Int}
def ayh {i a:Int}(h:nwB gs l t i a=U):CW (AG gs i)<a:=by
 unfold nwB at h;rw [AY] at h
 have h1:=h.1
 simp only [Ct,Cv] at h1;omega
end
abbrev Ld:=Int×Ra
def EF (l:List Ld) (i:Nat):Ld:=l.getD i<|Ty.dflt<|.pair A7 Am
def XA (l:List Ld) (i:Nat) (v:Int):List Ld:=l.set i ((AA<|(l.getD i<|Ty.dflt<|.pair A7 Am).1+v),(l.getD i<|Ty.dflt<|.pair A7 Am).2)
def UZ (l:List Ld) (i:Nat) (v:Int):List Ld:=letI a:=l.getD i<|Ty.dflt<|.pair A7 Am;l.set i (a.1,((AA<|a.2.1+v),a.2.2))
def Ku (l:List Ld) (i:Nat) (v:Int):List Ld:=letI a:=l.getD i<|Ty.dflt<|.pair A7 Am;l.set i (a.1,(a.2.1,(AA<|a.2.2+v)))
def aBd {l:List Ld}{i:Nat}{v:Int}:M (XA l i v)=M l:=by simp [XA]
def aBb {l:List Ld}{i:Nat}{v:Int}:M (UZ l i v)=M l:=by simp [UZ]
def aBa {l:List Ld}{i:Nat}{v:Int}:M (Ku l i v)=M l:=by simp [Ku]
def adE (ph v:Int) (e:Ld):Ld:=
 (if (Bv J ph 1 !=0)=U then AA (e.1+v) else e.1,
  (if (Bv J ph 2 !=0)=U then AA (e.2.1+v) else e.2.1,
   if (Bv J ph 4 !=0)=U then AA (e.2.2+v) else e.2.2))
def adP (ph v:Int) (l:List Ld) (i:Nat):List Ld:=l.set i<|adE ph v<|EF l i
theorem aGX {l:List Ld}{i j:Nat}{e:Ld}(h:i<M l):EF (l.set i e) j=if i=j then e else EF l j:=by
 unfold EF;rw [DQ,DQ,Hx]
 by_cases hij:i=j
 ·subst hij
  rw [AD rfl,AD rfl,AD h];rfl
 ·grind
def ani {l:List Ld}{i:Nat}(h:i<M l):l.set i (EF l i)=l:=by
 unfold EF
 simp_all
def auJ {l:List Ld}{i:Nat}{v:Int}:XA l i v=l.set i (AA<|(EF l i).1+v,(EF l i).2):=rfl
def auI {l:List Ld}{i:Nat}{v:Int}:UZ l i v=l.set i ((EF l i).1,(AA<|(EF l i).2.1+v,(EF l i).2.2)):=rfl
def auH {l:List Ld}{i:Nat}{v:Int}:Ku l i v=l.set i ((EF l i).1,((EF l i).2.1,AA<|(EF l i).2.2+v)):=rfl
def ahS {ph v:Int}{l:List Ld}{i:Nat}(h:i<M l):adP ph v l i=
  (let a:=if (Bv J ph 1 !=0)=U then XA l i v else l
   let b:=if (Bv J ph 2 !=0)=U then UZ a i v else a
   if (Bv J ph 4 !=0)=U then Ku b i v else b):=by
 unfold adP adE
 by_cases h1:(Bv J ph 1 !=0)=U<;>by_cases h2:(Bv J ph 2 !=0)=U<;>by_cases h4:(Bv J ph 4 !=0)=U<;>
  simp only [h1,h2,h4,Bm,Hz,FM,auJ,auI,auH,aGX h,List.set_set]<;>exact ani h
def atX {ph v:Int}{l:List Ld}{i:Nat}:M (adP ph v l i)=M l:=by simp [adP]
def ldW:Nat->List Cd->Int->Int->Int->List Ld->List Ld
 |0,_,_,_,_,l=>l
 |k+1,cs,ph,v,c,l=>if c>=0 then ldW k cs ph v (Al cs c).2.1 (adP ph v l c.toNat) else l
def HD (cs:List Cd) (ph v c:Int) (l:List Ld):List Ld:=ldW (c.toNat+2) cs ph v c l
theorem aQq {cs:List Cd}{ph v:Int}(hu:Fq cs=U):∀(k k':Nat) (c:Int) (l:List Ld),c<M cs->(c+1).toNat<k->(c+1).toNat<k'->ldW k cs ph v c l=ldW k' cs ph v c l
 |0,_,_,_,_,h,_=>A0
 |_+1,0,_,_,_,_,h=>A0
 | k+1,k'+1,c,l,hc,h,h'=>by
  simp only [ldW]
  by_cases h0:c>=0
  ·rw [AD h0,AD h0]
   have:=QW hu h0 hc
   exact aQq hu k k' _ _ A0 A0 A0
  ·grind
theorem azi {cs:List Cd}{ph v c:Int}{l:List Ld}(hu:Fq cs=U) (hc:c<M cs):HD cs ph v c l=if c>=0 then HD cs ph v (Al cs c).2.1 (adP ph v l c.toNat) else l:=by
 unfold HD;rw [ldW]
 by_cases h0:c>=0
 ·rw [AD h0,AD h0]
  have:=QW hu h0 hc
  rw [aQq hu (c.toNat+1) ((Al cs c).2.1.toNat+2) (Al cs c).2.1 _ A0 A0 A0]
 ·grind
def aPQ {cs:List Cd}{o:Int}(hu:Fq cs=U):∀(k:Nat) (c:Int),c<M cs->Hq k cs o c=U->o<=c
 |0,_,_,h=>by simp [Hq] at h
 | k+1,c,hc,h=>by
  simp only [Hq] at h;split at h
  ·rename_i h0
   rw [Cl] at h;rcases h with h|h
   ·have:=eq_of_beq h
    omega
   ·have h1:=QW hu h0 hc
    have:=aPQ hu k _ A0 h
    omega
  ·cases h
theorem aQr {cs:List Cd}{ph v:Int}(hu:Fq cs=U) {o:Nat}:∀(k:Nat) (c:Int) (l:List Ld),c<M cs->M l=M cs->M (ldW k cs ph v c l)=M cs/\EF (ldW k cs ph v c l) o=if Hq k cs (o:Int) c=U then adE ph v (EF l o) else EF l o
 |0,c,l,hc,hl=>⟨hl,by simp [ldW,Hq]⟩
 | k +1,c,l,hc,hl=>by
  simp only [ldW]
  by_cases h0:c>=0
  ·have e0:Hq (k+1) cs (o:Int) c=(c==(o:Int) ||Hq k cs (o:Int) (Al cs c).2.1):=by
    show (if c>=0 then _ else _)=_
    grind
   rw [AD h0,e0]
   have h1:=QW hu h0 hc
   have hct:c.toNat<M l:=A0
   obtain ⟨q1,q2⟩:=aQr hu (o:=o) k (Al cs c).2.1 (adP ph v l c.toNat) A0 (by rw [atX];exact hl)
   refine ⟨q1,?_⟩;rw [q2];unfold adP;rw [aGX hct]
   by_cases hco:c.toNat=o
   ·have hb:(c==(o:Int))=true:=A8
    have hn:Hq k cs (o:Int) (Al cs c).2.1=false:=by
     cases hq:Hq k cs (o:Int) (Al cs c).2.1 with
     |false=>rfl
     |true=>
      have:=aPQ hu k _ A0 hq
      omega
    rw [hb,hn,AD hco,hco]
    simp
   ·have hb:(c==(o:Int))=false:=by
     cases hq:c==(o:Int) with
     |false=>rfl
     |true=>
      have:=eq_of_beq hq
      omega
    grind
  ·have e0:Hq (k+1) cs (o:Int) c=false:=by
    show (if c>=0 then _ else _)=_
    grind
   grind
def azj {cs:List Cd}{ph v c:Int}{l:List Ld}(hu:Fq cs=U) (hc:c<M cs) (hl:M l=M cs) (o:Nat):M (HD cs ph v c l)=M cs/\EF (HD cs ph v c l) o=if HA cs (o:Int) c=U then adE ph v (EF l o) else EF l o:=
 aQr hu _ c l hc hl
def ldS (cs:List Cd) (gs:List Ch) (am:List Int):Nat->List Ld
 |0=>aq (M cs) (Ty.dflt<|.pair A7 Am)
 |k+1=>HD cs (AG gs k).2.2.1 (gi am k) (AG gs k).2.1<|ldS cs gs am k
def qG {cs:List Cd}{gs:List Ch}{am:List Int}(hu:Fq cs=U) (ha:atB cs gs=U):∀k:Nat,k<=M gs->M (ldS cs gs am k)=M cs
 |0,_=>by simp [ldS]
 |k+1,hk=>(azj hu (uh ha A0 A0) (qG hu ha k A0) 0).1
abbrev BM:Ty:=.pair A7 AP
abbrev Lk:=Int×Le
def FU (l:List Lk) (n:Int):Lk:=l.getD n.toNat (0,0,0,0,0,0)
structure PK where
 cs:List Cd
 os:List ByteArray
 ks:List Ko
 gs:List Ch
 bs:List Ba
 tk:Int
 up:Bool
 ls:List Le
 se:Int
 fl:List Int
 ra:List Ra
 nx:Int
 st:List St
 ca:List Ca
 mi:List Mi
 me:List Me
 dm:List Dm
 lk:List Lk
 (dr tg:List Int)
instance:Coe PK LV:=⟨λp=> .agg [.xl Ad p.cs,.xl .str p.os,.xl Ah p.ks,.xl Ae p.gs,.xl Ai p.bs,.v<|Y J p.tk,.v<|.bool p.up,.xl AP p.ls,.v<|Y J p.se,.xl (.int aw) p.fl,.xl Am p.ra,.v<|Y J p.nx,.xl B3 p.st,.xl AP p.ca,.xl B7 p.mi,.xl BS p.me,.xl Ak p.dm,.xl BM p.lk,.xl A7 p.dr,.xl A7 p.tg]⟩
def rQ (b:List AB) (q:Nat):PK:=letI a:=CU b q;⟨Ao Ad<|BB a 0,Ao .str<|BB a 1,Ao Ah<|BB a 2,Ao Ae<|BB a 3,Ao Ai<|BB a 4,gI<|BB a 5,gBo<|BB a 6,Ao AP<|BB a 7,gI<|BB a 8,Ao (.int aw)<|BB a 9,Ao Am<|BB a 10,gI<|BB a 11,Ao B3<|BB a 12,Ao AP<|BB a 13,Ao B7<|BB a 14,Ao BS<|BB a 15,Ao Ak<|BB a 16,Ao BM<|BB a 17,Ao A7<|BB a 18,Ao A7<|BB a 19⟩
def rV (b:List AB) (q j k:Nat) (e:Ty):List e.D:=bif Nat.beq k 0 then Ao e (BB (CU b q) j) else gVe e (CU b k)
def rB (b:List AB) (q acs als afl ara ast aca ami ame adm alk adr atg:Nat):PK:=letI a:=CU b q;⟨rV b q 0 acs Ad,Ao .str<|BB a 1,Ao Ah<|BB a 2,Ao Ae<|BB a 3,Ao Ai<|BB a 4,gI<|BB a 5,gBo<|BB a 6,rV b q 7 als AP,gI<|BB a 8,rV b q 9 afl<|.int aw,rV b q 10 ara Am,gI<|BB a 11,rV b q 12 ast B3,rV b q 13 aca AP,rV b q 14 ami B7,rV b q 15 ame BS,rV b q 16 adm Ak,rV b q 17 alk BM,rV b q 18 adr A7,rV b q 19 atg A7⟩
def rF (b:List AB):PK:=rB b 16 4 5 6 7 8 9 10 11 12 13 14 15
def rT (b:List AB):PK:=rB b 16 4 0 0 0 8 9 10 11 0 0 14 15
abbrev _root_.Go.Sx.T.pc {α:Type}(p:PK) (t:T α):T α:=.rl p.cs<|.rl p.ls<|.rl p.fl<|.rl p.ra<|.rl p.st<|.rl p.ca<|.rl p.mi<|.rl p.me<|.rl p.dm<|.rl p.lk<|.rl p.dr<|.rl p.tg t
abbrev _root_.Go.Sx.T.pd {α:Type}(p:PK) (t:T α):T α:=.rl p.cs<|.rl p.st<|.rl p.ca<|.rl p.mi<|.rl p.me<|.rl p.dr<|.rl p.tg t
abbrev _root_.Go.Sx.T.pb {α:Type}(p:PK) (t:T α):T α:=.rl p.st<|.rl p.ca<|.rl p.mi<|.rl p.me<|.rl p.dm<|.rl p.lk<|.rl p.dr<|.rl p.tg t
abbrev _root_.Go.Sx.T.pa {α:Type}(p:PK) (t:T α):T α:=.rl p.cs<|.rl p.ls<|.rl p.fl<|.rl p.ra t
instance:Coe (List Lk) LV:=⟨.xl BM⟩
namespace PK
variable (p : PK)
def sV:Bool:=BI p.cs p.os p.ks p.gs p.bs
end PK
def Jn (c:Cd) (t:Int):Cd:=(c.1,c.2.1,t,c.2.2.2)
def Hb (cs:List Cd) (tg:List Int):Nat->List Cd
 |0=>cs
 |k+1=>(Hb cs tg k).set k<|Jn (Al (Hb cs tg k) k)<|gi tg k
def CV (gs:List Ch) (st:List St) (i k n m:Int):List St:=if sE (AG gs i) (BG st i) k n m=0 then st.set i.toNat (sN (AG gs i) (BG st i) k n m) else st
def Mu (gs:List Ch) (lk:List Lk) (t:Int) (st:List St):Nat->List St
 |0=>st
 |k+1=>if (FU lk k).1>t then Mu gs lk t st k else CV gs (Mu gs lk t st k) (FU lk k).2.2.1 7 (FU lk k).2.2.2.1 (FU lk k).2.2.2.2.2
def OC (gs:List Ch) (st:List St) (i:Int):Nat->List St
 |0=>st
 |k+1=>CV gs (OC gs st i k) i 8 0 0
def OH (gs:List Ch) (dr:List Int) (t:Int) (st:List St):Nat->List St
 |0=>st
 |k+1=>if IE t (gi dr k)=0/\IE (t+1) (gi dr k)=0 then OC gs (OH gs dr t st k) k (Bx (t+1) (gi dr k)-Bx t (gi dr k)).toNat else OH gs dr t st k
structure DW where
 st:List St
 mi:List Mi
 me:List Me
 dw:List Int
def FK (gs:List Ch) (ca:List Ca) (s:DW) (i:Int):DW:=
 if (Bb ca i).2.2.1=0 then s
 else if J4 (Bb ca i) (CI s.mi i) (AG gs i).2.2.1 (Bg (AG gs i)<|BG s.st i)=0 then
  let a:=FH (Bb ca i) (CI s.mi i) (AG gs i).2.2.1<|Bg (AG gs i)<|BG s.st i
  let o:=cnt<|EZ (Bb ca i) (CI s.mi i) (AG gs i).2.2.1<|Bg (AG gs i)<|BG s.st i
  ⟨if a>Bg (AG gs i) (BG s.st i) then CV gs s.st i 6 2 0 else s.st,s.mi.set i.toNat<|JB (Bb ca i) (CI s.mi i) (AG gs i).2.2.1<|Bg (AG gs i)<|BG s.st i,
   if Fh (G7 s.me i) a o=0 then s.me.set i.toNat (HB (G7 s.me i) a o) else s.me,s.dw.set i.toNat a⟩
 else s
def Cy (gs:List Ch) (ca:List Ca) (s:DW):Nat->DW
 |0=>s
 |k+1=>FK gs ca (Cy gs ca s k) k
theorem aHl {cs:List Cd}{k:Nat}{x:Cd}{j:Nat}(hk:k<M cs):Al (cs.set k x) (j:Int)=if j=k then x else Al cs j:=by
 unfold Al
 by_cases e:j=k
 ·grind
 ·grind
def cv {cs:List Cd}{k:Nat}(hk:k<M cs):Al cs (k:Int)=cs[k]:=by
 unfold Al
 simp [hk]
theorem nY {cs:List Cd}{os:List ByteArray}{ks:List Ko}{gs:List Ch}{bs:List Ba}(h:BI cs os ks gs bs=U) {k:Nat}(hk:k<M cs) {t:Int}(ht:1<=t/\t<=1000):
  BI (cs.set k<|Jn (Al cs k) t) os ks gs bs=true:=by
 have hm:(cs.set k<|Jn (Al cs k) t).map (·.1)=cs.map (·.1):=by
  rw [List.map_set]
  have:(Jn (Al cs k) t).1=(cs.map (·.1))[k]' A8:=by
   rw [cv hk];simp [Jn]
  rw [this,List.set_getElem_self]
 unfold BI LG Lz at h|-;rw [hm,CL];simp only [AY] at h|-;obtain ⟨h1,h2,h3,h4,h5⟩:=h;refine ⟨h1,h2,h3,?_,h5⟩;rw [Di] at h4|-;intro j hj
 have hc:=h4 j hj
 rw [aHl hk];split
 ·rename_i e
  subst e;unfold Hi Jn at*;simp only [AY] at hc|-;exact ⟨hc.1,Bf.2 ht,hc.2.2⟩
 ·exact hc
def BH (l:List Int):Prop:=∀x∈l,0<=x/\x<=255
def mK (x b:Int):Int:=IntKind.u32.wrap<|aJn ax x (IntKind.u32.wrap b)*16777619
def SL (x:Int) (l:List Int):Int:=l.foldl mK x
def P9 (ps:List<|List Int):Int:=ps.foldl SL 2166136261
def Cq (n:Int):List Int:=[IntKind.u8.wrap<|n.fdiv<|2^24,IntKind.u8.wrap<|n.fdiv<|2^16,IntKind.u8.wrap<|n.fdiv<|2^8,IntKind.u8.wrap n]
def nm4 (a b c d:Int):Int:=DM ax (DM ax (DM ax (IntKind.u32.wrap<|IntKind.u32.wrap a*2^24)<|IntKind.u32.wrap<|IntKind.u32.wrap b*2^16)<|IntKind.u32.wrap<|IntKind.u32.wrap c*2^8)<|IntKind.u32.wrap d
def Gi (l:List Int):Int:=nm4 (gi l 0) (gi l 1) (gi l 2)<|gi l 3
def Jv (d:List Int):List Int:=[IntKind.u8.wrap<|(M d:Int).fdiv<|2^8,IntKind.u8.wrap (M d:Int)]
def Bw (d:List Int):List Int:=80::(Jv d++(Cq (P9 [Jv d,d])++d))
def GQ {n:Int}:IntKind.u8.wrap n=n%256:=aNA
def T3 {n:Int}:IntKind.u32.wrap n=n%4294967296:=aNA
def au3 (x b:Int):0<=mK x b/\mK x b<4294967296:=by unfold mK;rw [T3];omega
def au5 {x:Int}(h:0<=x/\x<4294967296) (l:List Int):0<=SL x l/\SL x l<4294967296:=by
 induction l generalizing x with
 |nil=>exact h
 |cons b l ih=>exact ih<|au3 x b
def au4 (ps:List<|List Int):0<=P9 ps/\P9 ps<4294967296:=by
 have:∀(ps:List<|List Int) (x:Int),0<=x/\x<4294967296->0<=ps.foldl SL x/\ps.foldl SL x<4294967296:=by
  intro ps
  induction ps with
  |nil=>intro x h;exact h
  |cons p ps ih=>intro x h;exact ih _<|au5 h p
 exact this ps _ Aa
def fG {a b k:Nat}(h:b<2^k):a*2^k |||b=a*2^k+b:=by
 rw [Nat.mul_comm,<-Nat.two_pow_add_eq_or_of_lt h]
theorem qK {a b:Nat}(ha:a<4294967296) (hb:b<4294967296):DM ax (a:Int) (b:Int)=((a |||b:Nat):Int):=by
 have h:=Nat.or_lt_two_pow (n:=32) ha hb
 unfold DM;rw [T3]
 have e:∀n:Nat,n<4294967296->(BitVec.ofInt (IntKind.bits ax) (n:Int)).toNat=n:=λn hn=>by
  show (BitVec.ofInt 32 (n:Int)).toNat=n
  grind
 rw [BitVec.toNat_or,e a ha,e b hb];omega
def ayt {a b c d:Int}(ha:0<=a/\a<=255) (hb:0<=b/\b<=255) (hc:0<=c/\c<=255) (hd:0<=d/\d<=255):nm4 a b c d=a*16777216+b*65536+c*256+d:=by
 obtain ⟨a,rfl⟩:=Pk ha.1;obtain ⟨b,rfl⟩:=Pk hb.1;obtain ⟨c,rfl⟩:=Pk hc.1;obtain ⟨d,rfl⟩:=Pk hd.1;unfold nm4
 have e1:IntKind.u32.wrap (IntKind.u32.wrap (a:Int)*2^24)=((a*2^24:Nat):Int):=yN
 have e2:IntKind.u32.wrap (IntKind.u32.wrap (b:Int)*2^16)=((b*2^16:Nat):Int):=yN
 have e3:IntKind.u32.wrap (IntKind.u32.wrap (c:Int)*2^8)=((c*2^8:Nat):Int):=yN
 have e4:IntKind.u32.wrap (d:Int)=((d:Nat):Int):=by rw [T3];omega
 rw [e1,e2,e3,e4,qK A0 A0,fG A0,
  qK A0 A0,show a*2^24+b*2^16=(a*2^8+b)*2^16 by omega,fG A0,
  qK A0 A0,show (a*2^8+b)*2^16+c*2^8=(a*2^16+b*2^8+c)*2^8 by omega,fG A0]
 omega
def W5 (n:Int):BH (Cq n):=by
 intro x hx;simp only [Cq,B8,Bu,Bt] at hx;rcases hx with rfl|rfl|rfl|rfl<;>rw [GQ]<;>omega
def aGZ {n:Int}(h:0<=n/\n<4294967296):Gi (Cq n)=n:=by
 have e:Gi (Cq n)=nm4 (IntKind.u8.wrap<|n.fdiv<|2^24) (IntKind.u8.wrap<|n.fdiv<|2^16) (IntKind.u8.wrap<|n.fdiv<|2^8) (IntKind.u8.wrap n):=rfl
 rw [e,ayt aG aG aG aG,GQ,GQ,GQ,GQ,
  Pp _ Aa,Pp _ Aa,Pp _ Aa]
 omega
def Fo (b:List Int) (f:Nat):Nat:=(gi b<|(f:Int)+1).toNat*256+(gi b<|(f:Int)+2).toNat
def rcF (b:List Int) (f:Nat):Bool:=an (f+7<=M b)&&an (f+7+Fo b f<=M b)
def Gx (b:List Int) (f:Nat):List Int:=(b.drop<|f+7).take<|Fo b f
def rcG (b:List Int) (f:Nat):Bool:=rcF b f&&(P9 [(b.drop<|f+1).take 2,Gx b f]==Gi ((b.drop<|f+3).take 4))
def H7 (b:List Int):Nat->Nat->List (List Int)×Nat×Bool
 |0,f=>([],f,U)
 |n+1,f=>if f<M b/\gi b (f:Int)=80 then (if rcG b f then (Gx b f::(H7 b n<|f+7+Fo b f).1,(H7 b n<|f+7+Fo b f).2) else ([],f,X)) else ([],f,U)
theorem Wr {pre l:List Int}{k:Nat}:gi (pre++l) ((M pre+k:Nat):Int)=l.getD k 0:=by
 unfold gi
 grind
def pU {pre l:List Int}{k:Nat}:(pre++l).drop (M pre+k)=l.drop k:=by
 simp_all
def MG (d:List Int):M (Bw d)=7+M d:=by simp [Bw,Jv,Cq];omega
theorem aqn {pre rest d:List Int}(hd:M d<=65535):let b:=pre++(Bw d++rest);gi b (M pre:Int)=80/\M pre<M b/\Fo b (M pre)=M d/\Gx b (M pre)=d/\rcG b (M pre)=true:=by
 intro b
 have hl:M b=M pre+(7+M d+M rest):=by simp [b,MG]
 have g0:gi b (M pre:Int)=80:=Wr (k:=0)
 have hn:Fo b (M pre)=M d:=by
  have e1:gi b ((M pre:Int)+1)=IntKind.u8.wrap ((M d:Int).fdiv<|2^8):=Wr (k:=1)
  have e2:gi b ((M pre:Int)+2)=IntKind.u8.wrap (M d:Int):=Wr (k:=2)
  unfold Fo;rw [e1,e2,GQ,GQ,Pp _ Aa];omega
 have d7:b.drop (M pre+7)=d++rest:=by
  rw [pU]
  simp [Bw,Jv,Cq]
 have hD:Gx b (M pre)=d:=by
  unfold Gx
  grind
 have d1:(b.drop<|M pre+1).take 2=Jv d:=by
  rw [pU]
  simp [Bw,Jv]
 have d3:(b.drop<|M pre+3).take 4=Cq (P9 [Jv d,d]):=by
  rw [pU]
  simp [Bw,Jv,Cq]
 refine ⟨g0,A0,hn,hD,?_⟩;unfold rcG rcF;rw [hn,hD,d1,d3,aGZ<|au4 _]
 simp;omega
def BN (ds:List<|List Int):List Int:=ds.flatMap Bw
theorem aEP {rest:List Int}(hr:gi rest 0≠80):∀(ds:List<|List Int) (pre:List Int) (n:Nat),(∀d∈ds,M d<=65535)->M ds<n->
  H7 (pre++(BN ds++rest)) n (M pre)=(ds,M pre+M (BN ds),U)
 | [],pre,n,_,hn=>by
  obtain ⟨n,rfl⟩:∃m,n=m+1:=⟨n-1,A0⟩;simp only [BN,List.flatMap_nil,E7,H7];rw [AE]
  ·simp
  ·rintro ⟨_,h⟩
   rw [show ((M pre:Nat):Int)=((M pre+0:Nat):Int) by simp,Wr] at h
   exact hr h
 |d::ds,pre,n,hd,hn=>by
  obtain ⟨n,rfl⟩:∃m,n=m+1:=⟨n-1,A0⟩
  have e:pre++(BN (d::ds)++rest)=pre++(Bw d++(BN ds++rest)):=by simp [BN]
  rw [e];obtain ⟨h1,h2,h3,h4,h5⟩:=aqn (pre:=pre) (rest:=BN ds++rest)<|hd d AJ;simp only [H7];rw [AD ⟨h2,h1⟩,AD h5,h3,h4]
  have e2:pre++(Bw d++(BN ds++rest))=(pre++Bw d)++(BN ds++rest):=AJ
  have e3:M pre+7+M d=M (pre++Bw d):=by simp [MG];omega
  rw [e2,e3,aEP hr ds (pre++Bw d) n (λx hx=>hd x A8) A8]
  simp [BN,MG];omega
abbrev Bl:Ty:=.pair A7<|.sl<|.int aw
abbrev Fl:=Int×List Int
def G5 (l:List Fl) (n:Int):Fl:=l.getD n.toNat (0,[])
def HG (se:Int) (l:List Int):Bool:=letI a:=(M l:Int);decide (se>=1)&&(an (se<=512)&&(an (a>=se)&&(an (a<=4096)&&(a.tmod se==0))))
def NJ {se:Int}{l:List Int}:HG se l=U↔1<=se/\se<=512/\se<=(M l:Int)/\M l<=4096/\(M l:Int).tmod se=0:=by
 simp [HG];omega
def FJ (se:Int) (l:List Int):Bool:=HG se l&&(((M l:Int).tdiv se).tmod 2==0&&an ((M l:Int)>=32))
def ML {se:Int}{l:List Int}:FJ se l=U↔HG se l=U/\((M l:Int).tdiv se).tmod 2=0/\32<=M l/\M l<=4096/\1<=se:=by
 unfold FJ;simp only [AY,Cz,Ac];refine ⟨λ⟨h1,h2,h3⟩=>⟨h1,h2,A0,(NJ.1 h1).2.2.2.1,(NJ.1 h1).1⟩,λ⟨h1,h2,h3,_,_⟩=>⟨h1,h2,A0⟩⟩
def Bn (l:List Int) (w:Int):List Int:=if w=0 then l.take (M l / 2) else (l.drop<|M l / 2).take (M l / 2)
theorem cC (l:List Int) (w:Int):M (Bn l w)=M l / 2:=by
 unfold Bn
 grind
def Iy (l:List Int) (w:Int):Int:=Gi<|((Bn l w).drop 1).take 4
def Ar (l:List Int):Int:=if gi (Bn l 0) 0=80 then (if gi (Bn l 1) 0=80 then (if Iy l 1>Iy l 0 then 1 else 0) else 0) else if gi (Bn l 1) 0=80 then 1 else 0
def Hf (l:List Int):Int:=if gi (Bn l 0) 0=80\/gi (Bn l 1) 0=80 then 0 else 4
def Dc (fl:List Int) (a:Int) (d:List Int):Nat->List Int
 |0=>fl
 |k+1=>(Dc fl a d k).set (a+k).toNat<|Bv aw (gi (Dc fl a d k)<|a+k)<|gi d k
def Df (se:Int) (fl:List Int) (a:Int) (d:List Int):List Fl:=(au<|M d+1).map λk=>(se,Dc fl a d k)
def Ep (se:Int) (fl:List Int) (a:Int) (d:List Int):Int:=if (!HG se fl ||an (a<0))=U then 1 else if a>(M fl:Int)-M d then 3 else 0
def Ec (fl:List Int) (a:Int):Nat->List Int
 |0=>fl
 |k+1=>(Ec fl a k).set (a+k).toNat 255
def Kl (se:Int) (fl:List Int) (s:Int):List Fl:=(au<|se.toNat+1).map λk=>(se,Ec fl (s*se) k)
def Hu (se:Int) (fl:List Int) (s:Int):Int:=if (!HG se fl ||(an (s<0) ||an (s>=(M fl:Int).tdiv se)))=U then 1 else 0
def Su (fl:List Int) (a:Int) (d:List Int) (k:Nat):M (Dc fl a d k)=M fl:=by
 induction k with
 |zero=>rfl
 |succ k ih=>simp [Dc,ih]
def cE (fl:List Int) (a:Int) (k:Nat):M (Ec fl a k)=M fl:=by
 induction k with
 |zero=>rfl
 |succ k ih=>simp [Ec,ih]
theorem KD {a b:List Int}:BH (a++b)↔BH a/\BH b:=by
 unfold BH
 grind
def QB {x:Int}{l:List Int}:BH (x::l)↔(0<=x/\x<=255)/\BH l:=by
 unfold BH
 simp
def cz (k:Nat):BH (aq k 255):=by
 intro x hx;rw [SR] at hx;omega
theorem aHU {l:List Int}(h:BH l) (i:Nat) {x:Int}(hx:0<=x/\x<=255):BH (l.set i x):=by
 intro y hy;rcases OR hy with h1|h1
 ·exact h y h1
 ·grind
def atO (x y:Int):0<=Bv aw x y/\Bv aw x y<=255:=by
 unfold Bv;rw [GQ];omega
def s8 {fl:List Int}(h:BH fl) (a:Int) (d:List Int) (k:Nat):BH (Dc fl a d k):=by
 induction k with
 |zero=>exact h
 |succ k ih=>exact aHU ih _<|atO _ _
def aRt {fl:List Int}(h:BH fl) (a:Int) (k:Nat):BH (Ec fl a k):=by
 induction k with
 |zero=>exact h
 |succ k ih=>exact aHU ih _ Aa
def ao2 {x:Int}(h:0<=x/\x<=255):Bv aw 255 x=x:=by
 unfold Bv;rw [GQ];obtain ⟨n,rfl⟩:=Pk h.1
 have e:(BitVec.ofInt (IntKind.bits aw) 255&&&BitVec.ofInt (IntKind.bits aw) (n:Int)).toNat=n:=by
  show (BitVec.ofInt 8 255&&&BitVec.ofInt 8 (n:Int)).toNat=n
  rw [show BitVec.ofInt 8 255=BitVec.allOnes 8 from rfl,BitVec.allOnes_and,BitVec.toNat_ofInt];omega
 omega
theorem aOx {pre post d:List Int}(hd:BH d):∀k,k<=M d->Dc (pre++(aq (M d) 255++post)) (M pre:Int) d k=pre++(d.take k++(aq (M d-k) 255++post))
 |0,_=>by simp [Dc]
 | k+1,hk=>by
  simp only [Dc];rw [aOx hd k A0];obtain ⟨j,hj⟩:∃j,M d-k=j+1:=⟨M d-k-1,A0⟩
  have e1:(M pre:Int)+(k:Int)=((M pre+k:Nat):Int):=A0
  have ht:M (d.take k)=k:=D2
  have e2:gi (pre++(d.take k++(aq (M d-k) 255++post))) ((M pre:Int)+k)=255:=by
   rw [e1,Wr,DQ,GC A0,ht,kZ,hj,ZQ];rfl
  have e3:gi d (k:Int)=d[k]:=Im A0
  rw [e2,e3,ao2<|hd _<|GD _,e1,C3,kK _ _ A0,wg,kK _ _ A0,ht,kZ,hj,ZQ];rw [show M d-(k+1)=j by omega,ZE<|Nat.lt_of_succ_le hk]
  grind
def dG {pre post d:List Int}(hd:BH d):Dc (pre++(aq (M d) 255++post)) (M pre:Int) d (M d)=pre++(d++post):=by
 rw [aOx hd _<|Av _];simp
def DO (g:Int) (ds:List<|List Int) (k:Nat):List Int:=(80::Cq g)++(BN ds++aq k 255)
def Iv (w:Int) (A O:List Int):List Int:=if w=0 then A++O else O++A
def aEi (a b:List<|List Int):BN (a++b)=BN a++BN b:=by simp [BN]
def pF (ds:List<|List Int):M (BN ds)=(ds.map λd=>7+M d).sum:=by
 induction ds with
 |nil=>rfl
 |cons d ds ih=>simp only [BN,kD,BD,E8,List.sum_cons,MG] at*;rw [ih]
def aqw (ds:List<|List Int):7*M ds<=M (BN ds):=by
 induction ds with
 |nil=>simp [BN]
 |cons d ds ih=>simp only [BN,kD,BD,Bi,MG] at*;omega
def avx (d:List Int):BH (Jv d):=by
 intro x hx;simp only [Jv,B8,Bu,Bt] at hx;rcases hx with rfl|rfl<;>rw [GQ]<;>omega
def aGz {d:List Int}(h:BH d):BH (Bw d):=by
 unfold Bw;rw [QB,KD,KD];exact ⟨Aa,avx d,W5 _,h⟩
theorem qJ {ds:List<|List Int}(h:∀d∈ds,BH d):BH (BN ds):=by
 induction ds with
 |nil=>intro x hx;simp [BN] at hx
 |cons d ds ih=>
  have e:BN (d::ds)=Bw d++BN ds:=rfl
  rw [e,KD];exact ⟨aGz<|h d AJ,ih λx hx=>h x A8⟩
def azB (k:Nat) (rest:List Int) (h:gi rest 0≠80):gi (aq k 255++rest) 0≠80:=by
 cases k with
 |zero=>simpa using h
 |succ k=>simp [gi,ZQ]
structure JI (fl:List Int) (w g:Int) (ds:List (List Int)) (k:Nat) (O:List Int):Prop where
 eq:fl=Iv w (DO g ds k) O
 la:M (DO g ds k)=1024
 lo:M O=1024
 bo:BH O
 hw:w=0\/w=1
 hg:0<=g/\g<4294967296
 old:gi O 0=80->Gi ((O.drop 1).take 4)<g
 bd:∀d∈ds,BH d/\M d<=65535
def Ol (g:Int) (ds:List<|List Int) (k:Nat):M (DO g ds k)=5+M (BN ds)+k:=by
 simp [DO,Cq];omega
def aGg {g:Int}(hg:0<=g/\g<4294967296) (ds:List<|List Int) (k:Nat):Gi (((DO g ds k).drop 1).take 4)=g:=by
 have:((DO g ds k).drop 1).take 4=Cq g:=by simp [DO,Cq]
 rw [this,aGZ hg]
theorem aDt {w:Int}{A O:List Int}(hA:M A=1024) (hO:M O=1024) (hw:w=0\/w=1):Bn (Iv w A O) w=A/\Bn (Iv w A O) (1-w)=O:=by
 have hl:∀a b:List Int,M a=1024->M b=1024->Bn (a++b) 0=a/\Bn (a++b) 1=b:=by
  intro a b ha hb
  have e:M (a++b) / 2=1024:=A8
  unfold Bn
  grind
 rcases hw with rfl|rfl
 ·exact hl A O hA hO
 ·have:=hl O A hO hA
  exact ⟨this.2,this.1⟩
namespace JI
variable {fl : List Int} {w g : Int} {ds : List (List Int)} {k : Nat} {O : List Int}
def len (h:JI fl w g ds k O):M fl=2048:=by
 rw [h.eq];unfold Iv;split<;>simp [h.la,h.lo]
def bja (h:JI fl w g ds k O):BH (DO g ds k):=by
 unfold DO;rw [KD,KD,QB];exact ⟨⟨Aa,W5 _⟩,qJ λd hd=>(h.bd d hd).1,cz _⟩
def Er (h:JI fl w g ds k O):BH fl:=by
 rw [h.eq];unfold Iv;split
 ·rw [KD];exact ⟨h.bja,h.bo⟩
 ·rw [KD];exact ⟨h.bo,h.bja⟩
def jv (h:JI fl w g ds k O):FJ 512 fl=true:=by
 rw [ML,NJ,h.len]
 decide
def ar (h:JI fl w g ds k O):Bn fl w=DO g ds k:=by rw [h.eq];exact (aDt h.la h.lo h.hw).1
def ao (h:JI fl w g ds k O):Bn fl (1-w)=O:=by rw [h.eq];exact (aDt h.la h.lo h.hw).2
def gen (h:JI fl w g ds k O):Iy fl w=g:=by unfold Iy;rw [h.ar,aGg h.hg]
theorem cur (h:JI fl w g ds k O):Ar fl=w/\Hf fl=0:=by
 have ha:=h.ar;have ho:=h.ao;have hgn:=h.gen
 have g80:gi (DO g ds k) 0=80:=rfl
 have hold:gi (Bn fl<|1-w) 0=80->Iy fl (1-w)<g:=by rw [ho];unfold Iy;rw [ho];exact h.old
 unfold Ar Hf;rcases h.hw with rfl|rfl
 ·have e:(1:Int)-0=1:=rfl
  rw [e] at hold;rw [ha,hgn];refine ⟨?_,A8⟩;rw [AD g80];split
  ·omega
  ·rfl
 ·have e:(1:Int)-1=0:=rfl
  rw [e] at hold;rw [ha,hgn];refine ⟨?_,A8⟩;split
  ·omega
  ·rfl
end JI
def Ed (fl:List Int):List (List Int)×Nat×Bool:=H7 (Bn fl<|Ar fl) (M<|Bn fl<|Ar fl) 5
def Bs (se:Int) (fl:List Int):Int:=if FJ se fl=X then 1 else if Hf fl≠0 then Hf fl else if (Ed fl).2.2=U then 0 else 11
def Lw (fl:List Int):Bool:=((Bn fl<|Ar fl).drop (Ed fl).2.1).all λb=>b==255
def Ly (se:Int) (fl d:List Int):Bool:=an (M d>65535) ||an (7+M d+(Ed fl).2.1>M fl / 2)
def G9 (fl:List Int):Int:=Ar fl*((M fl / 2:Nat):Int)+(Ed fl).2.1
def apB (fl d:List Int):List Int:=Dc fl (G9 fl+1) ((Bw d).drop 1)<|M<|(Bw d).drop 1
def HK (se:Int) (fl d:List Int):List Fl:=Df se fl (G9 fl+1) ((Bw d).drop 1)++(Df se (apB fl d) (G9 fl) [80]).drop 1
def Ay (x:Le):List Int:=Cq x.1++(IntKind.u8.wrap x.2.1::IntKind.u8.wrap x.2.2.1::(Cq x.2.2.2.1++[IntKind.u8.wrap<|x.2.2.2.2.fdiv<|2^8,IntKind.u8.wrap x.2.2.2.2]))
def b4 (d:List Int) (i:Int):Int:=gi d i*16777216+gi d (i+1)*65536+gi d (i+2)*256+gi d (i+3)
def G4 (d:List Int):Le:=(b4 d 0,gi d 4,gi d 5,b4 d 6,gi d 10*256+gi d 11)
def K8 (x:Le):M (Ay x)=12:=rfl
def fu (n:Int):0<=IntKind.u8.wrap n/\IntKind.u8.wrap n<=255:=aG
def s9 (x:Le):BH (Ay x):=by
 unfold Ay;rw [KD,QB,QB,KD,QB,QB];exact ⟨W5 _,fu _,fu _,W5 _,fu _,fu _,λx hx=>by cases hx⟩
def aHm {n:Int}(h:0<=n/\n<4294967296):IntKind.u8.wrap (n.fdiv<|2^24)*16777216+IntKind.u8.wrap (n.fdiv<|2^16)*65536+IntKind.u8.wrap (n.fdiv<|2^8)*256+IntKind.u8.wrap n=n:=by
 rw [GQ,GQ,GQ,GQ,Pp _ Aa,Pp _ Aa,Pp _ Aa];omega
theorem aog {x:Le}(h:D4 x=U):G4 (Ay x)=x:=by
 obtain ⟨nu,co,am,fr,tk⟩:=x;obtain ⟨h1,h2,h3,h4,h5⟩:=QL.1 h;simp only at h1 h2 h3 h4 h5
 have e1:b4 (Ay (nu,co,am,fr,tk)) 0=nu:=aHm (n:=nu) A0
 have e2:b4 (Ay (nu,co,am,fr,tk)) 6=fr:=aHm (n:=fr) A0
 have e3:gi (Ay (nu,co,am,fr,tk)) 4=co:=by show IntKind.u8.wrap co=co;rw [GQ];omega
 have e4:gi (Ay (nu,co,am,fr,tk)) 5=am:=by show IntKind.u8.wrap am=am;rw [GQ];omega
 have e5:gi (Ay (nu,co,am,fr,tk)) 10*256+gi (Ay (nu,co,am,fr,tk)) 11=tk:=by
  show IntKind.u8.wrap (tk.fdiv<|2^8)*256+IntKind.u8.wrap tk=tk
  rw [GQ,GQ,Pp _ Aa];omega
 unfold G4
 grind
def ldB (rs:List<|List Int):Bool:=rs.all λd=>M d==12
def CX (se:Int) (fl:List Int):Int:=if (!(se==512) || !((M fl:Int)==2048))=U then 1 else if Bs se fl≠0 then Bs se fl else if ldB (Ed fl).1=U then (if BL ((Ed fl).1.map G4)=U then 0 else 9) else 9
def BQ (se:Int) (fl:List Int):List Le:=if CX se fl=0 then (Ed fl).1.map G4 else []
namespace JI
variable {fl : List Int} {w g : Int} {ds : List (List Int)} {k : Nat} {O : List Int}
def lk (h:JI fl w g ds k O):Ed fl=(ds,5+M (BN ds),U):=by
 unfold Ed;rw [h.cur.1,h.ar,h.la]
 have hp:=aqw ds
 have hl:=h.la
 rw [Ol] at hl
 have:=aEP (rest:=aq k 255) (by have:=azB k [] Aa;simpa using this) ds (80::Cq g) 1024 (λd hd=>(h.bd d hd).2) A0
 exact this
def Ub (h:JI fl w g ds k O):Bs 512 fl=0:=by
 unfold Bs;rw [h.jv,h.cur.2,h.lk];rfl
def cl (h:JI fl w g ds k O):Lw fl=true:=by
 unfold Lw;rw [h.lk,h.cur.1,h.ar,BR];intro x hx
 have e:(DO g ds k).drop (5+M (BN ds))=aq k 255:=by
  unfold DO;rw [<-Cm];exact List.drop_left' (by simp [Cq];omega)
 simp only [e,SR] at hx
 simp [hx.2]
def half (h:JI fl w g ds k O):M fl / 2=1024:=by rw [h.len]
def full (h:JI fl w g ds k O) {d:List Int}(hd:M d<=65535) (hk:7+M d<=k):Ly 512 fl d=false:=by
 unfold Ly;rw [h.half,h.lk]
 have hl:=h.la
 rw [Ol] at hl
 simp;omega
def afO (g:Int) (ds:List<|List Int) {k:Nat}(n:Nat) (hk:n<=k):DO g ds k=((80::Cq g)++BN ds)++(aq n 255++aq (k-n) 255):=by
 unfold DO
 simp_all
def split (h:JI fl w g ds k O) (n:Nat) (hk:n<=k):∃pre post,fl=pre++(aq n 255++post)/\(M pre:Int)=G9 fl/\
  ∀x:List Int,pre++(x++post)=Iv w (((80::Cq g)++BN ds)++(x++aq (k-n) 255)) O:=by
 have hP:G9 fl=w*1024+((5+M (BN ds):Nat):Int):=by unfold G9;rw [h.half,h.cur.1,h.lk];rfl
 have h5:(M ((80::Cq g)++BN ds):Int)=((5+M (BN ds):Nat):Int):=by simp [Cq];omega
 have he:=h.eq
 rw [afO g ds n hk] at he;rcases h.hw with rfl|rfl
 ·refine ⟨(80::Cq g)++BN ds,aq (k-n) 255++O,?_,A0,λx=>?_⟩
  ·rw [he];unfold Iv;rw [AD rfl];simp only [Cm]
  ·unfold Iv;rw [AD rfl];simp only [Cm]
 ·refine ⟨O++((80::Cq g)++BN ds),aq (k-n) 255,?_,by rw [hP,BD];have:=h.lo;omega,λx=>?_⟩
  ·rw [he];unfold Iv;rw [AE Aa];simp only [Cm]
  ·unfold Iv;rw [AE Aa];simp only [Cm]
theorem app (h:JI fl w g ds k O) {d:List Int}(hb:BH d) (hd:M d<=65535) (hk:7+M d<=k):
  JI (Dc (apB fl d) (G9 fl) [80] 1) w g (ds++[d]) (k-(7+M d)) O:=by
 obtain ⟨pre,post,e1,e2,e3⟩:=h.split (7+M d) hk
 have hp:Bw d=80::(Bw d).drop 1:=rfl
 have hl:=MG d
 have hby:BH ((Bw d).drop 1):=by have:=aGz hb;rw [hp,QB] at this;exact this.2
 have eA:apB fl d=pre++(aq 1 255++((Bw d).drop 1++post)):=by
  unfold apB
  have:=dG (pre:=pre++[255]) (post:=post) (d:=(Bw d).drop 1) hby
  rw [<-e2]
  have e9:(M ((pre++[255]:List Int)):Int)=(M pre:Int)+1:=AJ
  rw [e9] at this
  have e0:fl=pre++[255]++(aq (M<|(Bw d).drop 1) 255++post):=by
   grind
  rw [<-e0] at this;rw [this];simp
 have eB:Dc (apB fl d) (G9 fl) [80] 1=pre++(Bw d++post):=by
  rw [eA,<-e2]
  have:=dG (pre:=pre) (post:=(Bw d).drop 1++post) (d:=[80]) aNp
  grind
 have eJ:DO g (ds++[d]) (k-(7+M d))=((80::Cq g)++BN ds)++(Bw d++aq (k-(7+M d)) 255):=by
  unfold DO;rw [aEi,show BN [d]=Bw d by simp [BN]]
  simp only [Cm]
 refine ⟨by rw [eB,e3,eJ],?_,h.lo,h.bo,h.hw,h.hg,h.old,?_⟩
 ·have:=h.la
  rw [Ol] at this;rw [Ol,aEi,BD,show BN [d]=Bw d by simp [BN],hl];omega
 ·intro x hx
  rw [By,M7] at hx;rcases hx with hx|rfl
  ·exact h.bd x hx
  ·exact ⟨hb,hd⟩
end JI
def aFz (se:Int) (fl d:List Int) (y:Fl):(HK se fl d).getLastD y=(se,Dc (apB fl d) (G9 fl) [80] 1):=by
 unfold HK Df;rw [show au (M ([80]:List Int)+1)=[0,1] from rfl]
 simp
def aaM {fl:List Int}{w g:Int}{ls:List Le}{k:Nat}{O:List Int}(h:JI fl w g (ls.map Ay) k O) (hv:BL ls=U):CX 512 fl=0/\BQ 512 fl=ls:=by
 have h1:(ls.map Ay).map G4=ls:=by
  rw [Gp]
  have:=(Ij hv).2
  calc ls.map (G4∘Ay)=ls.map id:=JF (λx hx=>aog<|this x hx)
   _=ls:=Uz _
 have h2:ldB (ls.map Ay)=true:=by
  unfold ldB;rw [BR];intro d hd;obtain ⟨x,_,rfl⟩:=Eg.1 hd
  simp [K8]
 have h3:CX 512 fl=0:=by
  unfold CX;rw [h.Ub,h.lk,h.len];simp only [h2,h1,hv];rfl
 refine ⟨h3,?_⟩;unfold BQ
 rwa [AD h3,h.lk]
section
variable {cs : List Cd} {os : List ByteArray} {ks : List Ko} {gs : List Ch} {bs : List Ba} {l : List Le} {rs : List Ra} {d : List Dm} {t n : Int}
structure NwL (gs:List Ch) (am:List Int) (t n:Int) (m:List Le):Prop where
 at_:∀k:Int,0<=k->k<(M m:Int)->At m k=(n+k,(At m k).2.1,gi am (At m k).2.1,t,12)/\(0<=(At m k).2.1/\(At m k).2.1<(M gs:Int))/\CW (AG gs (At m k).2.1)<gi am (At m k).2.1
 up:∀k:Int,1<=k->k<(M m:Int)->(At m (k-1)).2.1<(At m k).2.1
theorem W8 {m:List Le}{x:Le}{k:Int}(h0:0<=k):At (m++[x]) k=if k<(M m:Int) then At m k else if k=(M m:Int) then x else (0,0,0,0,0):=by
 unfold At;rw [DQ,DQ];split
 ·grind
 ·rw [GC A0]
  split
  ·rw [show k.toNat-M m=0 by omega]
   rfl
  ·rw [ZN A8]
   rfl
theorem tm {am:List Int}:∀ {K:Nat},K<=M gs->NwL gs am t n (H8 gs l t n am K)/\∀x∈H8 gs l t n am K,x.2.1<(K:Int)
 |0,_=>⟨⟨λk h0 h1=>aO0,λk h0 h1=>aO0⟩,λx hx=>by cases hx⟩
 | K +1,h=>by
  obtain ⟨⟨h1,h2⟩,h3⟩:=tm (am:=am) (K:=K) A0;rw [H8];split
  ·rename_i hn
   have hf:=ayh hn
   refine ⟨⟨λk k0 k1=>?_,λk k0 k1=>?_⟩,λx hx=>?_⟩
   ·simp only [BD,Bi,Bp] at k1
    rw [W8 k0];split
    ·grind
    ·rename_i hk
     have e:k=(M (H8 gs l t n am K):Int):=A0
     rw [AD e,e]
     grind
   ·simp only [BD,Bi,Bp] at k1
    rw [W8 A0,W8 A0,AD (show k-1<(M (H8 gs l t n am K):Int) by omega)]
    split
    ·grind
    ·rename_i hk
     rw [AD (show k=(M (H8 gs l t n am K):Int) by omega)]
     exact h3 _<|On A0 A0
   ·rw [By,M7] at hx
    rcases hx with hx|rfl
    ·have:=h3 x hx;omega
    ·simp only;omega
  ·rw [GB]
   exact ⟨⟨h1,h2⟩,λx hx=>by have:=h3 x hx;omega⟩
theorem aEU:BL l=U↔M l<=64/\∀k:Int,0<=k->k<(M l:Int)->D4 (At l k)=U/\(k=0\/Jd (At l<|k-1) (At l k)=U):=by
 unfold BL;rw [AY,Ac,Di];refine and_congr_right λ_=>⟨λh k k0 k1=>?_,λh j hj=>?_⟩
 ·have:=h k.toNat A0
  rw [CR k0] at this;unfold Gg at this;rw [AY,Cl,Ac] at this;exact this
 ·obtain ⟨h1,h2⟩:=h j A0 hj
  unfold Gg
  grind
theorem aE1 {x:Le}(h:BL l=U) (hx:D4 x=U) (hl:M l<64) (hf:M l=0\/Jd (At l<|(M l:Int)-1) x=U):BL (l++[x])=true:=by
 rw [aEU] at h|-;refine ⟨A8,λk k0 k1=>?_⟩
 simp only [BD,Bi,Bp] at k1;rw [W8 k0];split
 ·rename_i hk
  obtain ⟨h1,h2⟩:=h.2 k k0 hk;refine ⟨h1,?_⟩;rcases h2 with h2|h2
  ·grind
  ·by_cases e:k=0
   ·exact .inl e
   ·rw [W8 A0,AD A0]
    grind
 ·rename_i hk
  have e:k=(M l:Int):=A0
  rw [AD e];refine ⟨hx,?_⟩;rcases hf with hf|hf
  ·omega
  ·by_cases e0:k=0
   ·grind
   ·rw [W8 A0,AD A0,e]
    grind
structure Fit (l:List Le) (n t:Int):Prop where
 les:BL l=U
 last:M l=0\/((At l ((M l:Int)-1)).1<n/\(At l ((M l:Int)-1)).2.2.2.1<=t)
def Fit.mono {n' t':Int}(h:Fit l n t) (hn:n<=n') (ht:t<=t'):Fit l n' t':=⟨h.les,by
 rcases h.last with h1|h1
 ·exact .inl h1
 ·exact .inr A0⟩
end
abbrev amq (a b:Le):Prop:=a.1<b.1/\a.2.2.2.1<=b.2.2.2.1
def arK {l:List Le}:BL l=U↔M l<=64/\(∀x∈l,D4 x=U)/\l.Pairwise amq:=by
 refine ⟨λh=>⟨(Ij h).1,(Ij h).2,aE2 h⟩,λ⟨h1,h2,h3⟩=>aEU.2 ⟨h1,λk k0 k1=>⟨h2 _<|On k0 k1,?_⟩⟩⟩
 by_cases e:k=0
 ·exact .inl e
 ·right
  have:=kF.1 h3 (k-1).toNat k.toNat A0 A0 A0
  rw [<-NW,<-NW] at this;unfold Jd;rw [DB (p:=(At l k).1>_) this.1,DB (p:=(At l k).2.2.2.1>=_) this.2];rfl
theorem aER {l m:List Le}(h:BL l=U) (hs:m.Sublist l):BL m=true:=by
 rw [arK] at h|-
 grind
def grS (o:List Le) (x:Le):List Le:=if FD o x=0 then Jc o x else o
theorem aR2 {o:List Le}{x:Le}(h:BL o=U):BL (grS o x)=U/\(grS o x=o\/grS o x=o++[x]):=by
 unfold grS;split
 ·rename_i e
  have e2:Jc o x=o++[x]:=by unfold Jc;rw [AD e]
  rw [e2];refine ⟨?_,.inr rfl⟩;unfold FD at e;split at e
  ·rename_i c
   rw [AY] at c;split at e
   ·omega
   ·rename_i c2
    split at e
    ·omega
    ·rename_i c3
     have:=(Ij h).1
     refine aE1 h c.2 A0 ?_
     by_cases q:M o=0
     ·exact .inl q
     ·right
      grind
  ·omega
 ·grind
def ckO (m:Int) (e:Ld):Bool:=an (e.1<=m)&&(an (e.2.1<=m)&&an (e.2.2<=m))
def ckN (cs:List Cd) (L:List Ld) (k:Nat):Bool:=D9 k λo=>ckO (EN<|Al cs o)<|EF L o.toNat
def gLi (l:List Ld) (i:Int):Ld:=gx (e:=.pair A7 Am) l i
def Lv (m:Int) (e:Ld) (t:Int):Bool:=(an (t>0) ||an (e.1<=m))&&((an (t>1) ||an (e.2.1<=m))&&(an (t>2) ||an (e.2.2<=m)))
def al1 {m:Int}{e:Ld}:Lv m e 0=ckO m e:=by simp [Lv,ckO]
def II (cs:List Cd) (gs:List Ch) (m:List Int):Bool:=ckN cs (ldS cs gs m<|M gs)<|M cs
section
variable {cs : List Cd} {os : List ByteArray} {ks : List Ko} {gs : List Ch} {bs : List Ba} {l : List Le} {rs : List Ra} {d : List Dm} {t n : Int}
def atT {j:Int}(j0:0<=j) (j1:j<(M gs:Int)):gi (Hh gs l t) j=mx (CW<|AG gs j) (gi (Lm (M gs) l t) j):=Q5 j0 j1
theorem aoC {l2:List Le}{t2:Int}(hs:BI cs os ks gs bs=U) (hv:BL l2=U) {j:Int}(j0:0<=j) (j1:j<(M gs:Int)):0<=gi (Hh gs l2 t2) j/\gi (Hh gs l2 t2) j<=80:=by
 have hch:chW (AG gs j)=true:=by
  have:=Og hs j0 j1
  unfold G3 at this
  grind
 have hc:=di hch
 have h:=zh (a:=0) (b:=80) (j:=j) Aa<|aH1 (t:=t2) (m:=M gs) hv
 rw [atT j0 j1];unfold mx;omega
end
def isW (se:Int) (fl:List Int) (s:Int):Bool:=!(((fl.drop (s*se).toNat).take se.toNat).all λb=>b==255)
def Fa (se:Int) (f0:List Int) (s:Int):Nat->List Fl×List Int->List Fl×List Int
 |0,a=>a
 |n+1,a=>Fa se f0 (s+1) n (if isW se f0 s=U then (a.1++(Kl se a.2 s).drop 1,Ec a.2 (s*se) se.toNat) else a)
def rwF (fl:List Int) (ds:List<|List Int):Bool:=an (5+(ds.map λd=>7+M d).sum<=M fl / 2)&&ds.all (λd=>an<|M d<=65535)
def Fm (se:Int) (fl:List Int) (ds:List<|List Int):Int:=if Bs se fl≠0 then Bs se fl else if (!rwF fl ds ||(Iy fl (Ar fl)==4294967295))=U then 10 else 0
def HE (se:Int) (fl:List Int):List Fl×List Int:=letI a:=((M fl / 2:Nat):Int);Fa se fl ((1-Ar fl)*a.tdiv se) (a.tdiv se).toNat ([(se,fl)],fl)
def Gj (fl:List Int):Int:=(1-Ar fl)*((M fl / 2:Nat):Int)
def Eb (fl:List Int) (ds:List<|List Int):List Int:=Cq (Iy fl (Ar fl)+1)++BN ds
def Kx (se:Int) (fl:List Int) (ds:List<|List Int):List Int:=Dc (HE se fl).2 (Gj fl+1) (Eb fl ds)<|M<|Eb fl ds
def Fk (se:Int) (fl:List Int) (ds:List<|List Int):List Fl:=if Fm se fl ds=0 then (HE se fl).1++((Df se (HE se fl).2 (Gj fl+1)<|Eb fl ds).drop 1++(Df se (Kx se fl ds) (Gj fl) [80]).drop 1) else []
def En (se:Int) (fl d:List Int):Int:=if Bs se fl≠0 then Bs se fl else if Ly se fl d=U then 10 else if Lw fl=U then 0 else Fm se fl ((Ed fl).1++[d])
def HJ (se:Int) (fl d:List Int):List Fl:=if Bs se fl≠0 then [] else if Ly se fl d=U then [] else if Lw fl=U then HK se fl d else Fk se fl ((Ed fl).1++[d])
def Hs (l:List Le) (x:Le) (t:Int):List (List Int):=letI a:=(At l<|(M l:Int)-1);((Br l t).map Ay)++((if M l>0/\(M (Br l t)=0\/(At (Br l t)<|(M (Br l t):Int)-1).1≠a.1) then [Ay a] else [])++[Ay x])
def H9 (l:List Le) (x:Le):Bool:=letI a:=(At l<|(M l:Int)-1);decide (M l>0)&&(an (x.1<=a.1) ||an (x.2.2.2.1<a.2.2.2.1))
def EG (se:Int) (fl:List Int) (x:Le) (t:Int):Int:=
 if CX se fl≠0 then CX se fl else if (!D4 x || !inB t 0 1100000)=U then 1 else if H9 (BQ se fl) x=U then 12 else
 if En se fl (Ay x)≠10 then En se fl (Ay x) else Fm se fl (Hs (BQ se fl) x t)
def Cj (se:Int) (fl:List Int) (x:Le) (t:Int):List Fl:=
 if CX se fl≠0 then [] else if (!D4 x || !inB t 0 1100000)=U then [] else if H9 (BQ se fl) x=U then [] else
 if En se fl (Ay x)≠10 then HJ se fl (Ay x) else Fk se fl (Hs (BQ se fl) x t)
def Js (se:Int) (fl:List Int):Int:=if CX se fl≠0 then CX se fl else if M (BQ se fl)=0 then 0 else if (At (BQ se fl)<|(M (BQ se fl):Int)-1).1=1000000 then 10 else 0
def nwA (se:Int) (fl:List Int):Int:=letI a:=(At (BQ se fl)<|(M (BQ se fl):Int)-1);if CX se fl≠0 then 0 else if M (BQ se fl)=0 then 1 else if a.1=1000000 then 0 else a.1+1
structure SN where
 ls:List Le
 se:Int
 fl:List Int
 nx:Int
 lk:List Lk
def X6 (t:Int) (x:Le):Lk:=(t+(7*t+3*x.2.1).tmod 5,x)
def Gu (t:Int) (s:SN) (x:Le):SN:=
 if FD s.ls x=0/\EG s.se s.fl x t=0 then
  ⟨Jc s.ls x,(G5 (Cj s.se s.fl x t)<|(M (Cj s.se s.fl x t):Int)-1).1,(G5 (Cj s.se s.fl x t)<|(M (Cj s.se s.fl x t):Int)-1).2,x.1+1,s.lk++[X6 t x]⟩
 else s
def Ja (t:Int) (xs:List Le) (s:SN):Nat->SN
 |0=>s
 |k+1=>Gu t (Ja t xs s k)<|At xs k
def Gm (l:List Le) (t:Int):List Le:=if DF l t=0 then Br l t else l
namespace PK
variable (p : PK)
def JC:List Cd:=Hb p.cs p.tg<|M p.tg
def dE:Int:=deE p.JC p.os p.ks p.gs p.bs (Gm p.ls p.tk) p.ra p.dm p.tk p.nx
def dR:List Ra:=deR p.JC p.os p.ks p.gs p.bs (Gm p.ls p.tk) p.ra p.dm p.tk p.nx
def dL:List Le:=deL p.JC p.os p.ks p.gs p.bs (Gm p.ls p.tk) p.ra p.dm p.tk p.nx
def Hp:SN:=⟨Gm p.ls p.tk,p.se,p.fl,p.nx,p.lk⟩
def sn1:SN:=Ja p.tk p.dL p.Hp<|M p.dL
def AU:PK:=if p.up=X then p else if p.dE≠0 then {p with ls:=Gm p.ls p.tk} else {p with ra:=p.dR,ls:=p.sn1.ls,se:=p.sn1.se,fl:=p.sn1.fl,nx:=p.sn1.nx,lk:=p.sn1.lk}
def Ji:PK:={p with st:=Mu p.gs p.lk p.tk p.st<|M p.lk,lk:=p.lk.filter λl=>an<|l.1>p.tk}
def SK:PK:={p with st:=OH p.gs p.dr p.tk p.st<|M p.dr}
def dw:DW:=Cy p.gs p.ca ⟨p.st,p.mi,p.me,aq (M p.gs) 0⟩<|M p.gs
def G1:PK:={p with st:=p.dw.st,mi:=p.dw.mi,me:=p.dw.me}
end PK
def FB (gs:List Ch) (tg:List Int) (am:List Int) (cs:List Cd):Nat->List Cd
 |0=>cs
 |k+1=>if gi tg k>=(Al (FB gs tg am cs k) k).2.2.1 then FB gs tg am cs k else
  if (an (M am=M gs)&&II ((FB gs tg am cs k).set k<|Jn (Al (FB gs tg am cs k) k)<|gi tg k) gs am)=U then (FB gs tg am cs k).set k (Jn (Al (FB gs tg am cs k) k)<|gi tg k) else FB gs tg am cs k
namespace PK
variable (p : PK)
def rsA:List Int:=if Kb p.ls (M p.gs) (p.tk+1)=0 then Hh p.gs p.ls (p.tk+1) else []
def Jf:PK:={p with cs:=if p.up=X then p.cs else FB p.gs p.tg p.rsA p.cs (M p.tg)}
def endP:PK:={p with tk:=p.tk+1}
def B6:PK:=p.AU.Ji.SK
def F6:PK:=p.B6.G1.Jf.endP
def Is:List Int:=p.B6.dw.dw
def Ir:Int:=if p.tk=1000000 then 15 else 0
end PK
namespace PK
variable (p : PK) (n m : Int) (c : Ca) (d : Dm)
def isC:Bool:=inB n 0<|(M p.gs:Int)-1
def GS:Int:=if p.isC n=X then 1 else if (!GA c || !HI d)=U then 1 else if ((Bb p.ca n).2.2.1 !=0 ||(BG p.st n).1 !=0)=U then 6 else 0
def zK:List St:=CV p.gs (CV p.gs (CV p.gs (CV p.gs p.st n 1 0 0) n 3 0 0) n 4 1 0) n 5 0 0
def Nr:PK:={p with ca:=p.ca.set n.toNat c,mi:=p.mi.set n.toNat ([],0,0),dm:=p.dm.set n.toNat d,st:=p.zK n}
def JW:Int:=if p.isC n=X then 1 else if (Bb p.ca n).2.2.1=0 then 4 else 0
def Qd:PK:={p with ca:=p.ca.set n.toNat (0,0,0,0,0),mi:=p.mi.set n.toNat ([],0,0),dm:=p.dm.set n.toNat (X,0,0,9),st:=CV p.gs (CV p.gs p.st n 6 0 0) n 2 0 0}
def Ns:Int:=if p.isC n=X then 1 else 0
def gT:PK:={p with lk:=p.lk.filter λl=>l.2.2.1 !=n}
def MY:Int:=if p.up=X then 6 else 0
def PF:PK:={p with up:=X,ls:=[]}
def Gb:Int:=if p.up=U then 6 else if CX p.se p.fl≠0 then CX p.se p.fl else if DF (BQ p.se p.fl) p.tk≠0 then DF (BQ p.se p.fl) p.tk else Js p.se p.fl
def XK:PK:={p with up:=U,ls:=Br (BQ p.se p.fl) p.tk,nx:=nwA p.se p.fl,ra:=aq (M p.gs) (0,0)}
def PA:Int:=if p.isC n=X then 1 else sE (AG p.gs n) (BG p.st n) 6 1 0
def aTn:PK:={p with st:=CV p.gs p.st n 6 1 0}
def Lt:PK:={p with tg:=p.tg.set n.toNat m}
def Iz:Int:=if (!inB n 0 ((M p.cs:Int)-1) || !inB m 1 (Al p.cs n).2.2.1)=U then 1 else if II (p.Lt n m).JC p.gs (BP p.gs)=X then 13 else 0
end PK
def Dz (p:PK):Bool:=(BI p.cs p.os p.ks p.gs p.bs&&inB p.tk 0 1000000)&&((an (M p.st=M p.gs)&&(an (M p.ca=M p.gs)&&(an (M p.mi=M p.gs)&&(an (M p.me=M p.gs)&&(an (M p.dm=M p.gs)&&an (M p.dr=M p.gs))))))&&
 (an (M p.tg=M p.cs)&&(D9 (M p.tg) (λk=>inB (gi p.tg k) 1 (Al p.cs k).2.2.1)&&(p.dr.all (λx=>inB x (-200) 200)&&p.lk.all (λl=>inB l.2.2.1 0<|(M p.gs:Int)-1)))))
structure EV where
 (ek en em:Int)
 c:Ca
 d:Dm
def PK0:PK:=⟨[],[],[],[],[],0,X,[],0,[],[],0,[],[],[],[],[],[],[],[]⟩
def BJ (p:PK) (e:EV):Int:=if Dz p=X then 1 else if e.ek=1 then p.Ir else if e.ek=2 then p.GS e.en e.c e.d else if e.ek=3 then p.JW e.en else if e.ek=4 then p.Ns e.en else if e.ek=5 then p.MY else if e.ek=6 then p.Gb else if e.ek=7 then p.PA e.en else if e.ek=8 then p.Iz e.en e.em else 9
def BO (p:PK) (e:EV):PK:=if BJ p e≠0 then PK0 else if e.ek=1 then p.F6 else if e.ek=2 then p.Nr e.en e.c e.d else if e.ek=3 then p.Qd e.en else if e.ek=4 then p.gT e.en else if e.ek=5 then p.PF else if e.ek=6 then p.XK else if e.ek=7 then p.aTn e.en else p.Lt e.en e.em
def Bc (p:PK) (e:EV):List Int:=if BJ p e≠0 then [] else if e.ek=1 then p.Is else []
def DI (cs:List Cd) (os:List ByteArray) (ks:List Ko) (gs:List Ch) (bs:List Ba) (dr:List Int):Int:=
 if BI cs os ks gs bs=X\/M dr≠M gs then 1 else if dr.all (λx=>inB x (-200) 200)=X then 1 else if II cs gs (BP gs)=X then 13 else 0
def El:List Int:=DO 0 [] 1019++aq 1024 255
def newP (cs:List Cd) (os:List ByteArray) (ks:List Ko) (gs:List Ch) (bs:List Ba) (dr:List Int):PK:=if DI cs os ks gs bs dr≠0 then PK0 else
 ⟨cs,os,ks,gs,bs,0,U,[],512,El,aq (M gs) (0,0),1,aq (M gs) (0,0,0,X),aq (M gs) (0,0,0,0,0),aq (M gs) ([],0,0),(FZ<|M gs).map λk=>(k+1,0,X),aq (M gs) (X,0,0,9),[],dr,cs.map λc=>c.2.2.1⟩
structure VP (p:PK):Prop where
 site:BI p.cs p.os p.ks p.gs p.bs=U
 tk:0<=p.tk/\p.tk<=1000000
 st:M p.st=M p.gs
 ca:M p.ca=M p.gs
 mi:M p.mi=M p.gs
 me:M p.me=M p.gs
 dm:M p.dm=M p.gs
 dr:M p.dr=M p.gs
 Ho:M p.tg=M p.cs
 tg:∀k:Nat,k<M p.tg->1<=gi p.tg k/\gi p.tg k<=(Al p.cs k).2.2.1
 dr8:p.dr.all (λx=>inB x (-200) 200)=U
 lk:∀l∈p.lk,0<=l.2.2.1/\l.2.2.1<(M p.gs:Int)
def QC {p:PK}:Dz p=U↔VP p:=by
 unfold Dz;simp only [AY,Ac,Bf,Di]
 constructor
 ·rintro ⟨⟨h1,h2⟩,⟨h3,h4,h5,h6,h7,h8⟩,h9,h10,h11,h12⟩
  exact ⟨h1,h2,h3,h4,h5,h6,h7,h8,h9,λk hk=>h10 k A0,h11,λl hl=>by have:=BR.1 h12 l hl;rw [Bf] at this;omega⟩
 ·intro h
  refine ⟨⟨h.site,h.tk⟩,⟨h.st,h.ca,h.mi,h.me,h.dm,h.dr⟩,h.Ho,λk hk=>h.tg k A0,h.dr8,BR.2 λl hl=>Bf.2 ?_⟩
  have:=h.lk l hl
  omega
theorem JO {gs:List Ch}{st:List St}{i k n m:Int}:M (CV gs st i k n m)=M st:=by
 unfold CV
 grind
def pQ {gs:List Ch}{lk:List Lk}{t:Int}{st:List St}:∀k,M (Mu gs lk t st k)=M st
 |0=>rfl
 |k+1=>by
  unfold Mu;split
  ·exact pQ k
  ·rw [JO];exact pQ k
def aEA {gs:List Ch}{st:List St}{i:Int}:∀k,M (OC gs st i k)=M st
 |0=>rfl
 |k+1=>by unfold OC;rw [JO];exact aEA k
def pV {gs:List Ch}{dr:List Int}{t:Int}{st:List St}:∀k,M (OH gs dr t st k)=M st
 |0=>rfl
 |k+1=>by
  unfold OH;split
  ·rw [aEA];exact pV k
  ·exact pV k
theorem asj {gs:List Ch}{ca:List Ca}{s:DW}{i:Int}:letI a:=FK gs ca s i;M a.st=M s.st/\M a.mi=M s.mi/\M a.me=M s.me/\M a.dw=M s.dw:=by
 unfold FK;split
 ·grind
 ·split
  ·refine ⟨?_,AJ,?_,AJ⟩
   ·simp only;split
    ·exact JO
    ·rfl
   ·grind
  ·grind
theorem cj {gs:List Ch}{ca:List Ca}{s:DW}:∀k,M (Cy gs ca s k).st=M s.st/\M (Cy gs ca s k).mi=M s.mi/\M (Cy gs ca s k).me=M s.me/\M (Cy gs ca s k).dw=M s.dw
 |0=>⟨rfl,rfl,rfl,rfl⟩
 |k+1=>by
  obtain ⟨h1,h2,h3,h4⟩:=cj (gs:=gs) (ca:=ca) (s:=s) k;obtain ⟨g1,g2,g3,g4⟩:=asj (gs:=gs) (ca:=ca) (s:=Cy gs ca s k) (i:=(k:Int));unfold Cy
  grind
theorem ue {cs:List Cd}{os:List ByteArray}{ks:List Ko}{gs:List Ch}{bs:List Ba}(h:BI cs os ks gs bs=U) {k:Nat}(hk:k<M cs):1<=(Al cs k).2.2.1/\(Al cs k).2.2.1<=1000:=by
 have:=p0 h (c:=(k:Int)) A0 A0
 unfold Hi at this;simp only [AY,Bf] at this
 grind
def Vy {gs:List Ch}{tg am:List Int}{cs:List Cd}:∀n,M (FB gs tg am cs n)=M cs
 |0=>rfl
 | n+1=>by
  unfold FB;split
  ·exact Vy n
  ·split
   ·rw [CL];exact Vy n
   ·exact Vy n
theorem aGu {gs:List Ch}{tg am:List Int}{cs:List Cd}:∀n,n<=M cs->∀j:Nat,(Al (FB gs tg am cs n) j=Al cs j\/(j<n/\gi tg j<(Al cs j).2.2.1/\Al (FB gs tg am cs n) j=Jn (Al cs j) (gi tg j)))/\(n<=j->Al (FB gs tg am cs n) j=Al cs j)
 |0,_,j=>⟨.inl rfl,λ_=>rfl⟩
 | n +1,hn,j=>by
  obtain ⟨h1,h2⟩:=aGu (gs:=gs) (tg:=tg) (am:=am) (cs:=cs) n A0 j
  have hl:n<M (FB gs tg am cs n):=by rw [Vy];omega
  unfold FB;split
  ·grind
  ·rename_i hlt
   split
   ·rw [aHl hl]
    by_cases e:j=n
    ·subst e
     grind
    ·rw [AE e]
     grind
   ·grind
def aDU {gs:List Ch}{tg am:List Int}{cs:List Cd}{os:List ByteArray}{ks:List Ko}{bs:List Ba}(h:BI cs os ks gs bs=U) (ht:∀k:Nat,k<M cs->1<=gi tg k/\gi tg k<=1000):∀n,n<=M cs->BI (FB gs tg am cs n) os ks gs bs=U
 |0,_=>h
 | n+1,hn=>by
  have h1:=aDU (am:=am) h ht n A0
  unfold FB;split
  ·exact h1
  ·split
   ·exact nY h1 (by rw [Vy];omega)<|ht n A0
   ·exact h1
def aBm {cs:List Cd}{tg:List Int}:∀n,M (Hb cs tg n)=M cs
 |0=>rfl
 |n+1=>by unfold Hb;rw [CL];exact aBm n
def aDr {tg:List Int}{cs:List Cd}{os:List ByteArray}{ks:List Ko}{gs:List Ch}{bs:List Ba}(h:BI cs os ks gs bs=U) (ht:∀k:Nat,k<M cs->1<=gi tg k/\gi tg k<=1000):∀n,n<=M cs->BI (Hb cs tg n) os ks gs bs=U
 |0,_=>h
 |n+1,hn=>by
  exact nY (aDr h ht n A0) (by rw [aBm];omega)<|ht n A0
theorem zw {p:PK}:∀x∈p.dL,0<=x.2.1/\x.2.1<(M p.gs:Int):=by
 intro x hx;unfold PK.dL deL at hx;split at hx
 ·obtain ⟨k,hk,rfl⟩:=I0.1 hx
  have:=(tm (gs:=p.gs) (l:=Gm p.ls p.tk) (t:=p.tk) (n:=p.nx) (am:=Kq p.gs p.ra (ofL p.JC p.os p.ks p.gs p.bs (Gm p.ls p.tk) p.dm p.tk)<|M p.gs)<|Av _).1.at_ (k:Int) A0 A0
  rw [NW A8] at this
  grind
 ·cases hx
theorem apG {t:Int}{s:SN}{x:Le}:(Gu t s x).lk=s.lk\/(Gu t s x).lk=s.lk++[X6 t x]:=by
 unfold Gu;exact Zk
theorem pq {t:Int}{xs:List Le}{s:SN}:∀n,n<=M xs->(∀l∈(Ja t xs s n).lk,l∈s.lk\/∃x∈xs,l=X6 t x)/\M (Ja t xs s n).lk<=M s.lk+n
 |0,_=>⟨λl hl=> .inl hl,Av _⟩
 | n+1,hn=>by
  obtain ⟨h1,h2⟩:=pq (t:=t) (xs:=xs) (s:=s) n A0;unfold Ja;rcases apG (t:=t) (s:=Ja t xs s n) (x:=At xs n) with e|e<;>rw [e]
  ·grind
  ·refine ⟨λl hl=>?_,A8⟩
   rw [By,M7] at hl;rcases hl with hl|rfl
   ·grind
   ·exact .inr ⟨_,On A0 A0,rfl⟩
def atq {p:PK}(h:∀l∈p.lk,0<=l.2.2.1/\l.2.2.1<(M p.gs:Int)):∀l∈p.AU.lk,0<=l.2.2.1/\l.2.2.1<(M p.gs:Int):=by
 unfold PK.AU;split
 ·exact h
 ·split
  ·exact h
  ·intro l hl
   rcases (pq (t:=p.tk) (xs:=p.dL) (s:=p.Hp) _<|Av _).1 l hl with e|⟨x,hx,rfl⟩
   ·exact h l e
   ·exact zw x hx
theorem Vk (p:PK):p.AU.cs=p.cs/\p.AU.os=p.os/\p.AU.ks=p.ks/\p.AU.gs=p.gs/\p.AU.bs=p.bs/\p.AU.tk=p.tk/\p.AU.up=p.up/\p.AU.st=p.st/\p.AU.ca=p.ca/\p.AU.mi=p.mi/\p.AU.me=p.me/\p.AU.dm=p.dm/\p.AU.dr=p.dr/\p.AU.tg=p.tg:=by
 unfold PK.AU;exact Zk
def VP.dec {p:PK}(h:VP p):VP p.AU:=by
 obtain ⟨e1,e2,e3,e4,e5,e6,e7,e8,e9,e10,e11,e12,e13,e14⟩:=Vk p;refine ⟨?_,?_,?_,?_,?_,?_,?_,?_,?_,?_,?_,?_⟩
 ·rw [e1,e2,e3,e4,e5];exact h.site
 ·rw [e6];exact h.tk
 ·rw [e8,e4];exact h.st
 ·rw [e9,e4];exact h.ca
 ·rw [e10,e4];exact h.mi
 ·rw [e11,e4];exact h.me
 ·rw [e12,e4];exact h.dm
 ·rw [e13,e4];exact h.dr
 ·rw [e14,e1];exact h.Ho
 ·rw [e14,e1];exact h.tg
 ·rw [e13];exact h.dr8
 ·rw [e4];exact atq h.lk
def VP.arr {p:PK}(h:VP p):VP p.Ji:={h with st:=(pQ _).trans h.st,lk:=λl hl=>h.lk l<|(Fs.1 hl).1}
def VP.cnt {p:PK}(h:VP p):VP p.SK:={h with st:=(pV _).trans h.st}
def VP.drw {p:PK}(h:VP p):VP p.G1:=
 have hl:=cj (gs:=p.gs) (ca:=p.ca) (s:=⟨p.st,p.mi,p.me,aq (M p.gs) 0⟩)<|M p.gs
 {h with st:=hl.1.trans h.st,mi:=hl.2.1.trans h.mi,me:=hl.2.2.1.trans h.me}
def VP.tg1 {p:PK}(h:VP p):∀k:Nat,k<M p.cs->1<=gi p.tg k/\gi p.tg k<=1000:=λk hk=>by
 have:=h.tg k (by rw [h.Ho];omega)
 have:=ue h.site hk
 omega
def VP.rst {p:PK}(h:VP p):VP p.Jf:=by
 have hs:BI p.Jf.cs p.os p.ks p.gs p.bs=true:=by
  unfold PK.Jf;split
  ·exact h.site
  ·rw [h.Ho];exact aDU h.site h.tg1 _<|Av _
 have hl:M p.Jf.cs=M p.cs:=by
  unfold PK.Jf;split
  ·rfl
  ·exact Vy _
 refine {h with site:=hs,Ho:=h.Ho.trans hl.symm,tg:=λk hk=>?_}
 have ht:=h.tg k hk
 refine ⟨ht.1,?_⟩;unfold PK.Jf;split
 ·exact ht.2
 ·rcases (aGu (gs:=p.gs) (tg:=p.tg) (am:=p.rsA) (cs:=p.cs) (M p.tg) (by rw [h.Ho];omega) k).1 with e|⟨_,_,e⟩<;>rw [e]
  ·exact ht.2
  ·exact Dg _
def VP.tick {p:PK}(h:VP p) (ht:p.tk≠1000000):VP p.F6:=by
 have h5:=h.dec.arr.cnt.drw.rst
 have et:p.B6.G1.Jf.tk=p.tk:=(Vk p).2.2.2.2.2.1
 have:=h.tk
 exact {h5 with tk:=by show 0<=p.B6.G1.Jf.tk+1/\p.B6.G1.Jf.tk+1<=1000000;omega}
def afV {p:PK}{n:Int}:M (p.zK n)=M p.st:=by
 unfold PK.zK;rw [JO,JO,JO,JO]
def VP.step {p:PK}(h:VP p) {e:EV}(he:BJ p e=0):VP (BO p e):=by
 unfold BO;rw [AE A0];unfold BJ at he;rw [AE (by rw [QC.2 h];decide)] at he
 split
 ·rename_i h1
  rw [AD h1] at he;unfold PK.Ir at he;exact h.tick λhh=>aNL
 rename_i h1;rw [AE h1] at he;split
 ·exact {h with ca:=by simp only [PK.Nr,CL];exact h.ca,mi:=by simp only [PK.Nr,CL];exact h.mi,dm:=by simp only [PK.Nr,CL];exact h.dm,st:=afV.trans h.st}
 rename_i h2;rw [AE h2] at he;split
 ·exact {h with ca:=by simp only [PK.Qd,CL];exact h.ca,mi:=by simp only [PK.Qd,CL];exact h.mi,dm:=by simp only [PK.Qd,CL];exact h.dm,st:=by simp only [PK.Qd,JO];exact h.st}
 rename_i h3;rw [AE h3] at he;split
 ·exact {h with lk:=λl hl=>h.lk l<|(Fs.1 hl).1}
 rename_i h4;rw [AE h4] at he;split
 ·exact {h with}
 rename_i h5;rw [AE h5] at he;split
 ·exact {h with}
 rename_i h6;rw [AE h6] at he;split
 ·exact {h with st:=JO.trans h.st}
 rename_i h7;rw [AE h7] at he;split at he
 ·unfold PK.Iz at he
  split at he
  ·cases he
  ·rename_i hb
   simp only [Cl,Ct,not_or,V3,Bf] at hb;obtain ⟨⟨n0,n1⟩,m0,m1⟩:=hb;refine {h with Ho:=by simp only [PK.Lt,CL];exact h.Ho,tg:=λk hk=>?_}
   have hk':k<M p.tg:=by simpa only [PK.Lt,CL] using hk
   have ht:=h.tg k hk'
   show 1<=gi (p.tg.set e.en.toNat e.em) k/\gi (p.tg.set e.en.toNat e.em) k<=(Al p.cs k).2.2.1
   unfold gi at ht|-;rw [DQ,Hx]
   by_cases ek:e.en.toNat=(k:Int).toNat
   ·rw [AD ek,AD (by rw [C3] at ek;omega)]
    rw [C3] at ek
    have:e.en=(k:Int):=A0
    rw [<-this];exact ⟨m0,m1⟩
   ·rw [AE ek,<-DQ]
    exact ht
 ·cases he
theorem Om {α:Type}{l:List α}{d x:α}{i j:Nat}:(l.set i x).getD j d=if i=j/\i<M l then x else l.getD j d:=by
 by_cases e:i=j
 ·subst e
  by_cases h:i<M l
  ·grind
  ·grind
 ·grind
def az7 {gs:List Ch}{st:List St}{i j k n m:Int}(hi:0<=i) (hj:0<=j) (hij:i≠j):BG (CV gs st i k n m) j=BG st j:=by
 unfold CV;split
 ·unfold BG;rw [Om,AE A0]
 ·rfl
structure D1 where
 c:Ca
 m:Mi
 e:Me
 (ph al:Int)
namespace D1
variable (d : D1)
def ok:Bool:=!(d.c.2.2.1==0)&&(J4 d.c d.m d.ph d.al==0)
def a:Int:=FH d.c d.m d.ph d.al
def o:Int:=cnt<|EZ d.c d.m d.ph d.al
end D1
def d1 (gs:List Ch) (ca:List Ca) (s:DW) (j:Int):D1:=⟨Bb ca j,CI s.mi j,G7 s.me j,(AG gs j).2.2.1,Bg (AG gs j)<|BG s.st j⟩
theorem th {gs:List Ch}{ca:List Ca}{s:DW}{i:Int}(h:(d1 gs ca s i).ok=X):FK gs ca s i=s:=by
 unfold D1.ok d1 at h;unfold FK
 by_cases h1:(Bb ca i).2.2.1=0
 ·grind
 ·grind
def qa {gs:List Ch}{ca:List Ca}{s:DW}{i:Int}(h:(d1 gs ca s i).ok=U):FK gs ca s i=
  ⟨if (d1 gs ca s i).a>(d1 gs ca s i).al then CV gs s.st i 6 2 0 else s.st,s.mi.set i.toNat<|JB (d1 gs ca s i).c (d1 gs ca s i).m (d1 gs ca s i).ph (d1 gs ca s i).al,
   if Fh (d1 gs ca s i).e (d1 gs ca s i).a (d1 gs ca s i).o=0 then s.me.set i.toNat (HB (d1 gs ca s i).e (d1 gs ca s i).a (d1 gs ca s i).o) else s.me,s.dw.set i.toNat (d1 gs ca s i).a⟩:=by
 unfold D1.ok d1 at h;simp only [AY,Ct,CQ,Cz] at h;unfold FK;rw [AE h.1,AD h.2];rfl
def aRz {gs:List Ch}{ca:List Ca}{s:DW}{i j:Nat}(h:i≠j):
  BG (FK gs ca s i).st j=BG s.st j/\CI (FK gs ca s i).mi j=CI s.mi j/\G7 (FK gs ca s i).me j=G7 s.me j/\gi (FK gs ca s i).dw j=gi s.dw j:=by
 cases hk:(d1 gs ca s i).ok
 ·rw [th hk];exact ⟨rfl,rfl,rfl,rfl⟩
 ·rw [qa hk]
  refine ⟨?_,?_,?_,?_⟩
  ·simp only;split
   ·exact az7 A0 A0 A0
   ·rfl
  ·unfold CI;rw [Om,AE A0]
  ·simp only;split
   ·unfold G7;rw [Om,AE A0]
   ·rfl
  ·unfold gi;rw [Om,AE A0]
theorem aRx {gs:List Ch}{ca:List Ca}{s:DW}:∀(k j:Nat),k<=j->
  BG (Cy gs ca s k).st j=BG s.st j/\CI (Cy gs ca s k).mi j=CI s.mi j/\G7 (Cy gs ca s k).me j=G7 s.me j/\gi (Cy gs ca s k).dw j=gi s.dw j
 |0,_,_=>⟨rfl,rfl,rfl,rfl⟩
 |k+1,j,h=>by
  obtain ⟨h1,h2,h3,h4⟩:=aRx (gs:=gs) (ca:=ca) (s:=s) k j A0;obtain ⟨g1,g2,g3,g4⟩:=aRz (gs:=gs) (ca:=ca) (s:=Cy gs ca s k) (i:=k) (j:=j) A0;unfold Cy
  grind
theorem aRy {gs:List Ch}{ca:List Ca}{s:DW}{n:Nat}(hm:M s.mi=n) (he:M s.me=n) (hd:M s.dw=n) {j:Nat}(hj:j<n):∀(k:Nat),j<k->
  CI (Cy gs ca s k).mi j=(if (d1 gs ca s j).ok=U then JB (d1 gs ca s j).c (d1 gs ca s j).m (d1 gs ca s j).ph (d1 gs ca s j).al else CI s.mi j)/\
  G7 (Cy gs ca s k).me j=(if (d1 gs ca s j).ok=U/\Fh (d1 gs ca s j).e (d1 gs ca s j).a (d1 gs ca s j).o=0 then HB (d1 gs ca s j).e (d1 gs ca s j).a (d1 gs ca s j).o else G7 s.me j)/\
  gi (Cy gs ca s k).dw j=(if (d1 gs ca s j).ok=U then (d1 gs ca s j).a else gi s.dw j)
 |0,h=>A0
 | k +1,h=>by
  by_cases e:j=k
  ·subst e
   obtain ⟨h1,h2,h3,h4⟩:=aRx (gs:=gs) (ca:=ca) (s:=s) j j<|Av _;obtain ⟨l1,l2,l3,l4⟩:=cj (gs:=gs) (ca:=ca) (s:=s) j
   have ed:d1 gs ca (Cy gs ca s j) j=d1 gs ca s j:=by unfold d1;rw [h1,h2,h3]
   unfold Cy;cases hk:(d1 gs ca s j).ok
   ·rw [th A8]
    grind
   ·rw [qa A8,ed]
    simp only [Bm,Ei];refine ⟨?_,?_,?_⟩
    ·unfold CI;rw [Om,AD ⟨rfl,A0⟩]
    ·split
     ·unfold G7;rw [Om,AD ⟨rfl,A0⟩]
     ·exact h3
    ·unfold gi;rw [Om,AD ⟨rfl,A0⟩]
  ·obtain ⟨g1,g2,g3,g4⟩:=aRz (gs:=gs) (ca:=ca) (s:=Cy gs ca s k) (i:=k) (j:=j) A0
   obtain ⟨h1,h2,h3⟩:=aRy hm he hd hj k A0;exact ⟨g2.trans h1,g3.trans h2,g4.trans h3⟩
def au1 {k ph p:Int}(h1:1<=ph/\ph<=7) (h2:1<=p/\p<=7) (h:Ke k ph p≠0):1<=cnt (Ke k ph p):=by
 have:=aCQ (k:=k) h1 h2
 unfold cnt;omega
theorem D1.bd {d:D1}(h:d.ok=U):0<=d.a/\d.a<=80/\0<=d.o/\d.o<=3/\(d.a≠0->1<=d.o)/\(JB d.c d.m d.ph d.al).2.2=d.m.2.2+2300*d.a*d.o:=by
 unfold D1.ok at h;simp only [AY,Ct,CQ,Cz] at h
 have hB:Km d.c d.m d.ph d.al=true:=by
  exact aMQ
 obtain ⟨hc,hm,h1,h2,h3,h4,_⟩:=cx.1 hB;obtain ⟨b1,b2,b3,b4⟩:=aDm hc hm ⟨h1,h2⟩ ⟨h3,h4⟩
 have hc':=WB.1 hc
 have hs:=afu (n:=EZ d.c d.m d.ph d.al)
 have ea:d.a=Em d.c d.m d.ph d.al:=aNT
 have eo:d.o=cnt (Gy d.c d.m d.ph d.al):=by unfold D1.o EZ;rw [AD hB]
 refine ⟨A0,A0,hs.1,hs.2,λhz=>?_,?_⟩
 ·rw [eo]
  rw [ea] at hz;unfold Gy;rw [AE hz];refine au1 ⟨A0,A0⟩ ⟨h1,h2⟩ λhq=>hz ?_
  unfold Em
  grind
 ·unfold JB
  rw [AD hB,ea,eo];rfl
def abo {c:Ch}{s:St}{k n m:Int}(h:s.2.2.2=X) (hk:k≠6\/n≠1):(IJ c s k n m).2.2.2=false:=by
 unfold IJ;split
 ·rename_i he
  unfold sN;rw [AD he];simp only [sW,h,Cu,wy,CQ];exact hk
 ·exact h
def akE {c:Ch}{s:St}{k n m:Int}(h:0<=s.2.2.1):(IJ c s k n m).2.2.1<=s.2.2.1\/(k=7/\(IJ c s k n m).2.2.1=m):=by
 unfold IJ;split
 ·rename_i he
  unfold sN;rw [AD he];simp only [sL];split
  ·exact .inr ⟨by assumption,rfl⟩
  ·refine .inl ?_
   split
   ·unfold tkF;split<;>omega
   ·split<;>omega
 ·exact .inl<|Dg _
def akD {c:Ch}{s:St}(h:sV c s=U):(IJ c s 8 0 0).2.2.1=tkF s.2.2.1:=by
 have hv:=NT.1 h
 have he:sE c s 8 0 0=0:=by
  unfold sE;rw [AD h,AD Aa,AD<|by simp [evV]]
  have:Jp s.1 s.2.2.2 8 0=s.1:=by simp [Jp]
  rw [this,AE A0]
 unfold IJ sN;rw [AD he,AD he]
 simp [sL]
def aRR {gs:List Ch}{st:List St}{i k n m:Int}(h0:0<=i) (h1:i<(M st:Int)) {j:Int}(hj:0<=j):BG (CV gs st i k n m) j=if j=i then IJ (AG gs i) (BG st i) k n m else BG st j:=by
 unfold CV IJ
 by_cases e:j=i
 ·subst e
  rw [AD rfl];split
  ·unfold BG;rw [Om,AD ⟨rfl,A0⟩]
  ·rfl
 ·rw [AE e]
  split
  ·unfold BG;rw [Om,AE A0]
  ·rfl
def EU (gs:List Ch) (Q:Int->St->Prop) (st:List St):Prop:=M st=M gs/\∀j:Int,0<=j->j<(M gs:Int)->Q j (BG st j)
def EU.gv {gs:List Ch}{Q:Int->St->Prop}{st:List St}(h:EU gs Q st) {i k n m:Int}(h0:0<=i) (h1:i<(M gs:Int)) (hq:Q i (BG st i)->Q i (IJ (AG gs i) (BG st i) k n m)):EU gs Q (CV gs st i k n m):=by
 refine ⟨JO.trans h.1,λj j0 j1=>?_⟩
 rw [aRR h0 (by rw [h.1];exact h1) j0]
 split
 ·rename_i e;subst e;exact hq<|h.2 j j0 j1
 ·exact h.2 j j0 j1
def EU.arr {gs:List Ch}{Q:Int->St->Prop}{st:List St}{lk:List Lk}{t:Int}(h:EU gs Q st) (hl:∀l∈lk,(0<=l.2.2.1/\l.2.2.1<(M gs:Int))/\(l.1<=t->∀s,Q l.2.2.1 s->Q l.2.2.1 (IJ (AG gs l.2.2.1) s 7 l.2.2.2.1 l.2.2.2.2.2))):∀n,n<=M lk->EU gs Q (Mu gs lk t st n)
 |0,_=>h
 | n+1,hn=>by
  have ih:=EU.arr h hl n A0
  have hm:FU lk n∈lk:=by
   unfold FU;rw [LJ (by rw [C3];omega)]
   exact GD _
  obtain ⟨⟨c0,c1⟩,hq⟩:=hl _ hm;unfold Mu;split
  ·exact ih
  ·exact ih.gv c0 c1<|hq A0 _
def EU.dw {gs:List Ch}{ca:List Ca}{Q:Int->St->Prop}{s:DW}(h:EU gs Q s.st) (hq:∀j st,Q j st->Q j (IJ (AG gs j) st 6 2 0)):∀n,n<=M gs->EU gs Q (Cy gs ca s n).st
 |0,_=>h
 | n+1,hn=>by
  have ih:=EU.dw (ca:=ca) h hq n A0
  unfold Cy FK;split
  ·exact ih
  ·split
   ·simp only
    split
    ·exact ih.gv A0 A0<|hq _ _
    ·exact ih
   ·exact ih
def Gn (gs:List Ch) (b:Int->Int) (j:Int) (s:St):Prop:=sV (AG gs j) s=U/\s.2.2.2=X/\s.2.2.1<=b j
def Gn.le {gs:List Ch}{b b':Int->Int}{j:Int}{s:St}(h:Gn gs b j s) (hb:b j<=b' j):Gn gs b' j s:=⟨h.1,h.2.1,L0 h.2.2 hb⟩
def Gn.gv {gs:List Ch}{b:Int->Int}{j k n m:Int}{s:St}(h:Gn gs b j s) (hk:k≠6\/n≠1) (hm:k=7->m<=b j):Gn gs b j (IJ (AG gs j) s k n m):=by
 have hv:=NT.1 h.1
 refine ⟨aRQ h.1,abo h.2.1 hk,?_⟩;rcases akE (c:=AG gs j) (k:=k) (n:=n) (m:=m) hv.2.2.2.1 with e|⟨e1,e2⟩
 ·exact L0 e h.2.2
 ·rw [e2];exact hm e1
def aTi {gs:List Ch}{b:Int->Int}{st:List St}(h:EU gs (Gn gs b) st) (hb:∀j,0<=b j) {i:Int}(h0:0<=i) (h1:i<(M gs:Int)):∀k:Nat,EU gs (Gn gs (λj=>if j=i then (if b j-k<0 then 0 else b j-k) else b j)) (OC gs st i k)
 |0=>⟨h.1,λj j0 j1=>(h.2 j j0 j1).le aMa⟩
 | k+1=>by
  have ih:=aTi h hb h0 h1 k
  unfold OC;refine ⟨JO.trans ih.1,λj j0 j1=>?_⟩
  rw [aRR h0 (by rw [ih.1];exact h1) j0]
  have hj:=ih.2 j j0 j1
  split
  ·rename_i e
   subst e
   have hv:=NT.1 hj.1
   have h3:=hj.2.2
   have hbj:=hb j
   simp only [Bm] at h3;refine ⟨aRQ hj.1,abo hj.2.1<|.inl Aa,?_⟩;rw [akD hj.1];simp only [Bm];unfold tkF;split at h3<;>split<;>split<;>omega
  ·rename_i e
   refine hj.le ?_;rw [AE e,AE e];exact Dg _
def OE (dr:List Int) (t:Int) (j:Int):Int:=Bx (t+1) (gi dr j)-Bx t (gi dr j)
def zx {gs:List Ch}{b:Int->Int}{st:List St}{dr:List Int}{t:Int}(h:EU gs (Gn gs b) st) (hb:∀j,0<=b j) (hd:∀j:Int,0<=j->j<(M dr:Int)->-200<=gi dr j/\gi dr j<=200) (hl:M dr=M gs) (ht:0<=t/\t<1000000):
  ∀n:Nat,n<=M dr->EU gs (Gn gs (λj=>if j<n then (if b j-OE dr t j<0 then 0 else b j-OE dr t j) else b j)) (OH gs dr t st n)
 | 0,_=>⟨h.1,λj j0 j1=>by
   have:=h.2 j j0 j1
   refine this.le ?_;rw [AE A0];exact Dg _⟩
 | n+1,hn=>by
  have ih:=zx h hb hd hl ht n A0
  have hdn:=hd (n:Int) A0 A0
  have hs:IE t (gi dr n)=0/\IE (t+1) (gi dr n)=0:=by
   unfold IE;rw [AD,AD]
   ·exact ⟨rfl,rfl⟩
   ·rw [AY,Bf,Bf];omega
   ·rw [AY,Bf,Bf];omega
  have ho:0<=OE dr t n:=by
   unfold OE Bx;rw [AD VE,AD VE]
   have:t*(1000000+gi dr n)<=(t+1)*(1000000+gi dr n):=M0 A0 A0
   have:=xN (by decide:(0:Int)<1000000) this
   omega
  unfold OH;rw [AD hs]
  have:=aTi ih (λj=>aMa) (i:=(n:Int)) A0 A0 (Bx (t+1) (gi dr n)-Bx t (gi dr n)).toNat
  refine ⟨this.1,λj j0 j1=>(this.2 j j0 j1).le ?_⟩
  have e:(((Bx (t+1) (gi dr n)-Bx t (gi dr n)).toNat:Nat):Int)=OE dr t n:=by unfold OE at ho|-;omega
  simp only [e]
  have hbj:=hb j
  by_cases ej:j=n
  ·subst ej
   rw [AD rfl,AE (show ¬((n:Int)<(n:Int)) by omega),AD (show (n:Int)<((n+1:Nat):Int) by omega)]
   exact Dg _
  ·rw [AE ej]
   by_cases hj:j<(n:Int)
   ·rw [AD hj,AD (show j<((n+1:Nat):Int) by omega)];exact Dg _
   ·rw [AE hj,AE (show ¬j<((n+1:Nat):Int) by omega)];exact Dg _
def ax9 {d t t':Int}(hd:-200<=d/\d<=200) (h0:0<=t) (h1:t+20<=t') (h2:t'<=1000000):Bx t' d-Bx t d>=12:=by
 unfold Bx;rw [AD VE,AD VE]
 have:(t+20)*(1000000+d)<=t'*(1000000+d):=M0 A0 A0
 have e:(t+20)*(1000000+d)=t*(1000000+d)+20*(1000000+d):=ka _ _ _
 omega
structure FI (p:PK):Prop where
 st:EU p.gs (Gn p.gs (λ_=>12)) p.st
 lk:∀l∈p.lk,p.tk<=l.1/\l.1<=p.tk+3/\l.2.2.2.2.2=12
 ca:∀c∈p.ca,c.1≠4
def alT {p:PK}:∀x∈p.dL,x.2.2.2.2=12:=by
 intro x hx;unfold PK.dL deL at hx;split at hx
 ·obtain ⟨k,hk,rfl⟩:=I0.1 hx
  have:=(tm (gs:=p.gs) (l:=Gm p.ls p.tk) (t:=p.tk) (n:=p.nx) (am:=Kq p.gs p.ra (ofL p.JC p.os p.ks p.gs p.bs (Gm p.ls p.tk) p.dm p.tk)<|M p.gs)<|Av _).1.at_ (k:Int) A0 A0
  have:=this.1
  rw [NW yh] at this;simp only [C3] at this;rw [this]
 ·cases hx
def agd {p:PK}(hv:VP p) (h:∀l∈p.lk,p.tk<=l.1/\l.1<=p.tk+3/\l.2.2.2.2.2=12):∀l∈p.AU.lk,p.tk<=l.1/\l.1<=p.tk+4/\l.2.2.2.2.2=12:=by
 unfold PK.AU;split
 ·exact λl hl=>by have:=h l hl;omega
 ·split
  ·exact λl hl=>by have:=h l hl;omega
  ·intro l hl
   rcases (pq (t:=p.tk) (xs:=p.dL) (s:=p.Hp) _<|Av _).1 l hl with e|⟨x,hx,rfl⟩
   ·have:=h l e;omega
   ·have h1:=(zw x hx).1
    have h2:=hv.tk
    have h3:0<=(7*p.tk+3*x.2.1).tmod 5/\(7*p.tk+3*x.2.1).tmod 5<=4:=by
     rw [x8 A0];omega
    exact ⟨aMo,aMo,alT x hx⟩
def XQ {p:PK}(hv:VP p):∀j:Int,0<=j->j<(M p.dr:Int)->-200<=gi p.dr j/\gi p.dr j<=200:=λj j0 j1=>by
 have:=BR.1 hv.dr8 (gi p.dr j)<|KI j0 j1
 rwa [Bf] at this
def FI.tick {p:PK}(h:FI p) (hv:VP p) (ht:p.tk≠1000000):FI p.F6:=by
 obtain ⟨e1,e2,e3,e4,e5,e6,e7,e8,e9,e10,e11,e12,e13,e14⟩:=Vk p
 have htk:=hv.tk
 have hl:=agd hv h.lk
 have hvd:=hv.dec
 have s0:EU p.AU.gs (Gn p.AU.gs λ_=>12) p.AU.st:=by rw [e4,e8];exact h.st
 have s1:EU p.AU.gs (Gn p.AU.gs λ_=>12) p.AU.Ji.st:=s0.arr (t:=p.AU.tk) (λl hl'=>⟨hvd.lk l hl',λ_ s hs=>hs.gv (.inl Aa) (λ_=>by have:=(hl l hl').2.2;(try simp only []);omega)⟩) _<|Av _
 have s2:EU p.AU.gs (Gn p.AU.gs λ_=>12) p.B6.st:=by
  have:=zx (t:=p.AU.tk) (dr:=p.AU.dr) s1 (λ_=>Aa) (XQ hvd) hvd.dr (by rw [e6];omega) (M p.AU.dr)<|Av _
  refine ⟨this.1,λj j0 j1=>(this.2 j j0 j1).le ?_⟩
  rw [AD (by rw [hvd.dr];exact j1)]
  have ho:0<=OE p.AU.dr p.AU.tk j:=by
   have hd:=XQ hvd j j0 (by rw [hvd.dr];exact j1)
   unfold OE Bx;rw [AD aNM,AD aNM]
   have:p.AU.tk*(1000000+gi p.AU.dr j)<=(p.AU.tk+1)*(1000000+gi p.AU.dr j):=M0 A0 A0
   have:=xN (by decide:(0:Int)<1000000) this
   omega
  split<;>omega
 have s3:EU p.AU.gs (Gn p.AU.gs λ_=>12) p.B6.dw.st:=EU.dw s2 (λj s hs=>hs.gv (.inr Aa) λhk=>OX) _<|Av _
 refine ⟨s3,λl hl'=>?_,?_⟩
 ·have hm:l∈p.AU.lk/\an (l.1>p.AU.tk)=true:=Fs.1 hl'
  have:=hl l hm.1
  have h2:=DC hm.2
  rw [e6] at h2
  have et:p.F6.tk=p.tk+1:=by show p.AU.tk+1=_;rw [e6]
  rw [et];omega
 ·show ∀c∈p.AU.ca,_
  rw [e9];exact h.ca
def FI.step {p:PK}(h:FI p) (hv:VP p) {e:EV}(he:BJ p e=0) (hw:e.ek≠7) (hc:e.c.1≠4):FI (BO p e):=by
 unfold BO;rw [AE A0];unfold BJ at he;rw [AE (by rw [QC.2 hv];decide)] at he
 split
 ·rename_i h1
  rw [AD h1] at he;unfold PK.Ir at he;exact h.tick hv λhh=>aNL
 rename_i h1;rw [AE h1] at he
 have cr:∀ {i:Int},p.isC i≠X->0<=i/\i<(M p.gs:Int):=λ{i} hh=>by
  unfold PK.isC at hh;simp only [ne_eq,V3,Bf] at hh;omega
 split
 ·rename_i h2
  rw [AD h2] at he;unfold PK.GS at he;split at he
  ·cases he
  rename_i hi;obtain ⟨i0,i1⟩:=cr hi;refine {h with st:=?_,ca:=λc hc'=>?_}
  ·exact (((h.st.gv i0 i1 λhs=>hs.gv (.inl Aa) λhk=>OX).gv i0 i1 λhs=>hs.gv (.inl Aa) λhk=>OX).gv i0 i1 λhs=>hs.gv (.inl Aa) λhk=>OX).gv i0 i1 λhs=>hs.gv (.inl Aa) λhk=>OX
  ·rcases OR hc' with hx|rfl
   ·exact h.ca c hx
   ·exact hc
 rename_i h2;rw [AE h2] at he;split
 ·rename_i h3
  rw [AD h3] at he;unfold PK.JW at he;split at he
  ·cases he
  rename_i hi;obtain ⟨i0,i1⟩:=cr hi;refine {h with st:=?_,ca:=λc hc'=>?_}
  ·exact (h.st.gv i0 i1 λhs=>hs.gv (.inr Aa) λhk=>OX).gv i0 i1 λhs=>hs.gv (.inl Aa) λhk=>OX
  ·rcases OR hc' with hx|rfl
   ·exact h.ca c hx
   ·decide
 rename_i h3;rw [AE h3] at he;split
 ·exact {h with lk:=λl hl=>h.lk l (Fs.1 hl).1}
 rename_i h4;rw [AE h4] at he;split
 ·exact {h with}
 rename_i h5;rw [AE h5] at he;split
 ·exact {h with}
 rename_i h6;rw [AE h6] at he;exact {h with}
structure FG (T:Int) (p:PK):Prop where
 up:p.up=X
 tk:0<=T/\T<=p.tk
 st:EU p.gs (Gn p.gs (λj=>if p.tk<T+4 then 12 else (if 12-(Bx p.tk (gi p.dr j)-Bx (T+4) (gi p.dr j))<0 then 0 else 12-(Bx p.tk (gi p.dr j)-Bx (T+4) (gi p.dr j))))) p.st
 lk:∀l∈p.lk,p.tk<=l.1/\l.1<=T+3/\l.2.2.2.2.2=12
 ca:∀c∈p.ca,c.1≠4
def FI.fg {p:PK}(h:FI p) (hv:VP p) (hu:p.up=X):FG p.tk p:=⟨hu,⟨hv.tk.1,Dg _⟩,⟨h.st.1,λj j0 j1=>(h.st.2 j j0 j1).le (by (try simp only []);rw [AD A0];exact Dg _)⟩,h.lk,h.ca⟩
def aEW {d t t':Int}(hd:-200<=d/\d<=200) (h0:0<=t) (h1:t<=t') (h2:t'<=1000000):Bx t d<=Bx t' d:=by
 unfold Bx;rw [AD VE,AD VE];exact xN (by decide:(0:Int)<1000000)<|M0 h1 A0
def FG.bef {T:Int}{p:PK}(h:FG T p) (hv:VP p) (ht:p.tk<1000000) (hT:T+4<=1000000):EU p.gs (Gn p.gs (λj=>if p.tk+1<T+4 then 12 else (if 12-(Bx (p.tk+1) (gi p.dr j)-Bx (T+4) (gi p.dr j))<0 then 0 else 12-(Bx (p.tk+1) (gi p.dr j)-Bx (T+4) (gi p.dr j))))) p.B6.st:=by
 have hd:p.AU=p:=y8
 have htk:=hv.tk
 have hT0:=h.tk
 unfold PK.B6;rw [hd]
 have s1:EU p.gs (Gn p.gs (λj=>if p.tk<T+4 then 12 else (if 12-(Bx p.tk (gi p.dr j)-Bx (T+4) (gi p.dr j))<0 then 0 else 12-(Bx p.tk (gi p.dr j)-Bx (T+4) (gi p.dr j))))) p.Ji.st:=
  h.st.arr (t:=p.tk) (λl hl'=>⟨hv.lk l hl',λ_ s hs=>hs.gv (.inl Aa) (λ_=>by have:=h.lk l hl';(try simp only []);rw [AD A0];omega)⟩) _ (Av _)
 have:=zx (t:=p.tk) (dr:=p.dr) s1 (λj=>by (try simp only []);split<;>(try split)<;>omega) (XQ hv) hv.dr A0 (M p.dr)<|Av _
 refine ⟨this.1,λj j0 j1=>(this.2 j j0 j1).le ?_⟩
 have hj:j<(M p.dr:Int):=by rw [hv.dr];exact j1
 have hdj:=XQ hv j j0 hj
 (try simp only [])
 rw [AD hj];unfold OE
 have m1:=aEW (t:=p.tk) (t':=p.tk+1) hdj htk.1 A0 A0
 by_cases c1:p.tk<T+4
 ·rw [AD c1]
  by_cases c2:p.tk+1<T+4
  ·rw [AD c2];split<;>omega
  ·have e4:p.tk+1=T+4:=A0
   have e5:Bx (p.tk+1) (gi p.dr j)=Bx (T+4) (gi p.dr j):=by rw [e4]
   rw [AE c2];exact aKy
 ·have m2:=aEW (t:=T+4) (t':=p.tk) hdj A0 A0 A0
  have c2:¬p.tk+1<T+4:=A0
  rw [AE c1,AE c2];exact aKy
def aup {c:Ca}{m:Mi}{al:Int}(hm:Hr m=U) (ha:0<=al) (h4:c.1≠4):Gc c m al<=al:=by
 have hm:=ck.1 hm
 unfold Gc
 repeat' split
 all_goals omega
def D1.le {d:D1}(h:d.ok=U) (h4:d.c.1≠4):d.a<=d.al:=by
 unfold D1.ok at h;simp only [AY,Ct,CQ,Cz] at h
 have hB:Km d.c d.m d.ph d.al=true:=by
  exact aMQ
 obtain ⟨hc,hm,h1,h2,h3,h5,_⟩:=cx.1 hB
 have ea:d.a=Em d.c d.m d.ph d.al:=aNT
 have:=aup (c:=d.c) hm h3 h4
 rw [ea];unfold Em;split<;>omega
def abO {ca:List Ca}(h:∀c∈ca,c.1≠4) (i:Int):(Bb ca i).1≠4:=by
 unfold Bb;rw [DQ];cases hx:ca[i.toNat]? with
 |none=>simp
 |some y=>exact h y<|OK hx
def aRv {gs:List Ch}{ca:List Ca}(h:∀c∈ca,c.1≠4) {s:DW}:∀n,(Cy gs ca s n).st=s.st
 |0=>rfl
 | n+1=>by
  have ih:=aRv (gs:=gs) h (s:=s) n
  show (FK gs ca (Cy gs ca s n) n).st=s.st
  cases hk:(d1 gs ca (Cy gs ca s n) n).ok
  ·rw [th hk];exact ih
  ·rw [qa hk]
   have:=D1.le hk<|abO h n
   (try simp only [])
   rw [AE A0];exact ih
def FG.tick {T:Int}{p:PK}(h:FG T p) (hv:VP p) (ht:p.tk<1000000) (hT:T+4<=1000000):FG T p.F6:=by
 have hb:=h.bef hv ht hT
 have hd:p.AU=p:=y8
 have hT0:=h.tk
 have e:p.B6=p.Ji.SK:=by unfold PK.B6;rw [hd]
 have et:p.F6.tk=p.tk+1:=by show p.B6.tk+1=_;rw [e];rfl
 have eg:p.F6.gs=p.gs:=by show p.B6.gs=_;rw [e];rfl
 have ed:p.F6.dr=p.dr:=by show p.B6.dr=_;rw [e];rfl
 refine ⟨by show p.B6.up=X;rw [e];exact h.up,by rw [et];omega,?_,?_,?_⟩
 ·have es:p.F6.st=p.B6.st:=aRv (by show ∀c∈p.B6.ca,_;rw [e];exact h.ca) _
  rw [es,eg,et,ed];exact hb
 ·intro l hl
  have hm:l∈p.B6.lk:=hl
  rw [e] at hm
  have hm2:l∈p.lk/\an (l.1>p.tk)=true:=Fs.1 hm
  have:=h.lk l hm2.1
  have h2:=DC hm2.2
  rw [et];omega
 ·show ∀c∈p.B6.ca,_
  rw [e];exact h.ca
def FG.draw {T:Int}{p:PK}(h:FG T p) (hv:VP p) (ht:p.tk<1000000) (h24:T+23<=p.tk):M p.Is=M p.gs/\∀i:Nat,i<M p.gs->gi p.Is i<=CW (AG p.gs i):=by
 have hT0:=h.tk
 have hb:=h.bef hv ht A0
 have hd:p.AU=p:=y8
 have e:p.B6=p.Ji.SK:=by unfold PK.B6;rw [hd]
 have hvb:VP p.B6:=hv.dec.arr.cnt
 have f4:p.B6.gs=p.gs:=yb
 have f9:p.B6.ca=p.ca:=yb
 have hl:=cj (gs:=p.B6.gs) (ca:=p.B6.ca) (s:=⟨p.B6.st,p.B6.mi,p.B6.me,aq (M p.B6.gs) 0⟩)<|M p.B6.gs
 refine ⟨by refine hl.2.2.2.trans ?_;rw [Ce,f4],λi hi=>?_⟩
 have:=(aRy (gs:=p.B6.gs) (ca:=p.B6.ca) (s:=⟨p.B6.st,p.B6.mi,p.B6.me,aq (M p.B6.gs) 0⟩) (n:=M p.B6.gs) hvb.mi hvb.me AJ (j:=i) (by rw [f4];exact hi) (M p.B6.gs) (by rw [f4];exact hi)).2.2
 have hfb:0<=CW (AG p.gs i):=by
  have:=(cb.1 (NT.1 (hb.2 i A0 A0).1).1)
  unfold CW;omega
 show gi p.B6.dw.dw i<=_
 refine L0 (Int.le_of_eq this) ?_;split
 ·rename_i hk
  refine L0 (D1.le hk<|abO (by rw [f9];exact h.ca) i) ?_
  show Bg (AG p.B6.gs i) (BG p.B6.st i)<=_
  rw [f4];obtain ⟨q1,q2,q3⟩:=hb.2 i A0 A0
  have hdj:=XQ hv (i:Int) A0 (by rw [hv.dr];omega)
  have h12:=ax9 (t:=T+4) (t':=p.tk+1) hdj A0 A0 A0
  have c9:¬p.tk+1<T+4:=A0
  have c8:12-(Bx (p.tk+1) (gi p.dr i)-Bx (T+4) (gi p.dr i))<=0:=A0
  have q3:(BG p.B6.st i).2.2.1<=0:=by
   refine L0 q3 ?_
   show (if p.tk+1<T+4 then 12 else _)<=(0:Int)
   rw [AE c9];split<;>omega
  have q0:=(NT.1 q1).2.2.2.1
  unfold Bg;rw [AD q1,AE (by rw [q2];decide)]
  split
  ·exact hfb
  ·rw [AE A0]
   exact Dg _
 ·unfold gi
  rw [DQ,Uy];split<;>exact hfb
def aS4:List LV->T LV
 | [.v (Y J r),.v (Y J m)]=> .req ((0<=r/\r<=1000000)/\0<=m/\m<=3000000) (.ok<|.v<|Y J<|m*r / 1000000)
 |_=> .no
def abK:List Bd:=[]
def aix:=vo (S:=aS4) func99 abK kN (λargs lv h=>by
 unfold aS4 at h;split at h
 ·rename_i r m
  refine Ap (.req ((1000000:Int)≠0)<|.ok<|AA<|(AA<|m*r).tdiv 1000000) ?_;obtain ⟨⟨hr,hm⟩,rfl⟩:=h
  have h1:=am3 (a:=m) (b:=r) hm.1 hm.2 hr.1 hr.2
  refine ⟨A0,B1 (λz=>LV.v<|Y J z) ?_⟩
  rw [AI (x:=m*r),Hy h1.1,AI]
 ·cases h)
def aIj:List LV->T LV
 | [.v (Y J n)]=> .ok (inB n 0 1000000)
 |_=> .no
def aJc:=vo (S:=aIj) func98 abK kN (λargs lv h=>by
 unfold aIj at h;split at h
 ·rename_i n
  refine Ap (.ok<|.v<|.bool<|(an<|n>=0)&&(an<|n<=1000000)) ?_;exact h
 ·cases h)
structure PR where
 (low high r n:Int)
def vO (s:PR):T (Rd PR):=letI a:=AA<|s.low+(AA<|(AA<|s.high-s.low).tdiv 2);.br (an<|s.low<s.high) (.req ((2:Int)≠0)<|.req ((0<=s.r/\s.r<=1000000)/\0<=a/\a<=3000000)<|.br (an<|(a*s.r / 1000000)>=s.n) (.nx {s with high:=a})<|.nx {s with low:=AA<|a+1})<|.so (.exit 0) s
def ir (s:PR):Prop:=s.low=0/\s.high=2*s.n+2/\s.r=999800/\0<=s.n/\s.n<=1000000
def Xw (s:PR):Prop:=(0<=s.low/\s.low<=wt s.n)/\(wt s.n<=s.high/\s.high<=2*s.n+2)/\s.r=999800/\0<=s.n/\s.n<=1000000
def fJ (s:PR):Nat:=(s.high-s.low).toNat
def aAA (x:Ex) (s s':PR):Prop:=x=.exit 0/\s'.low=wt s'.n
def akb:∀s,ir s->Xw s:=by
 rintro s ⟨h0,h1,h2,h3,h4⟩
 have:=aaG h3
 exact xa
theorem ay9:Da Xw fJ aAA vO:=by
 intro s hI;obtain ⟨⟨h0,h1⟩,⟨h2,h3⟩,h4,h5,h6⟩:=hI;refine AH (λc1=>?_) λc1=>?_
 ·have c1:s.low<s.high:=AX
  have hd:(s.high-s.low).tdiv 2=(s.high-s.low) / 2:=Hy A0
  have hm:AA (s.low+AA ((AA<|s.high-s.low).tdiv 2))=s.low+(s.high-s.low) / 2:=by
   rw [AI (x:=s.high-s.low),hd,AI (x:=(s.high-s.low) / 2),AI]
  rw [hm];refine AH (λc2=>?_) λc2=>?_
  ·rw [Ac,h4,aJd] at c2
   exact ⟨⟨⟨h0,h1⟩,⟨AZ,AZ⟩,h4,h5,h6⟩,by simp only [fJ];omega⟩
  ·rw [Cv,h4,aJd] at c2
   rw [AI (x:=s.low+(s.high-s.low) / 2+1)];exact ⟨⟨⟨A8,AZ⟩,⟨h2,h3⟩,h4,h5,h6⟩,by simp only [fJ];omega⟩
 ·have c1:s.high<=s.low:=AX
  exact V7
def Yw:AR PR:=⟨3,24,[0,1,2],[],λs=>[s.low,s.high,.fn 204 [.own 1 0,.own 0 0,.own 2 0]],λs=>[⟨[s.r],207,.cl,X⟩,⟨[.fn 99 []],290,.cl,X⟩,⟨[s.n],3,.cl,X⟩],λv b=>⟨AK v 0,AK v 1,Aj b 0 0,Aj b 2 0⟩,vO,λs r=> {r with r:=s.r,n:=s.n},λs=>s,λ_ s=>s,[.exit 0],ir,Xw,fJ⟩
abbrev aGA:=Yw.run
abbrev atE:=Yw.Aq
def U6:List Bd:=[aJc,aix]
def akM:Ax:=kI U6<|l0 U6
def awD:Rq Xw vO:=by
 intro s hI;refine ⟨λc1=>⟨?_,?_,λ_=>trivial,λ_=>trivial⟩,λ_=>trivial⟩
 all_goals ((obtain ⟨⟨h0,h1⟩,⟨h2,h3⟩,h4,h5,h6⟩:=hI;simp only [Ac] at c1;first|decide|(have hd:(s.high-s.low).tdiv 2=(s.high-s.low) / 2:=Hy A0;have hm:AA (s.low+AA ((AA<|s.high-s.low).tdiv 2))=s.low+(s.high-s.low) / 2:=(by rw [AI (x:=s.high-s.low),hd,AI (x:=(s.high-s.low) / 2),AI]);rw [hm];omega)))
def aQV:Yw.Ok:={}
def aOo:Yw.Pf (aAA):=⟨akb,λs h=>rfl,ay9,awD⟩
def apU:=s2 (b:=bN f203 0) aQV aOo U6 akM
def arE:Fi ir Xw aAA atE aGA:=AR.fin aQV aOo
def aH4:List LV->T LV
 | [.v (Y J n)]=> .tu #[wtA n,wtE n]
 |_=> .no
def akL:Ax:=kI U6<|la 1 func203 apU<|l0 U6
def av3:=vo (S:=aH4) func120 U6 akL (λargs lv h=>by
 unfold aH4 at h;split at h
 ·rename_i n
  refine Ap (.br (!(inB n 0 1000000)) (.tu #[(0:Int),(1:Int)])<|.req (Yw.q (⟨0,(AA<|(AA<|2*n)+2),999800,n⟩:PR))<|.tu #[(aGA (⟨0,(AA<|(AA<|2*n)+2),999800,n⟩:PR)).low,(0:Int)]) ?_;obtain rfl:=h;refine ⟨λc=>?_,λc=>?_⟩
  ·have c:=ntW c
   unfold wtA wtE;rw [c];rfl
  ·have c:=nfW c
   have hb:=Bf.1 c
   have hE:ir ⟨0,AA<|AA (2*n)+2,999800,n⟩:=⟨rfl,by
    rw [AI (x:=2*n),AI],rfl,hb.1,hb.2⟩
   obtain ⟨_,_,_,q⟩:=arE _ hE;refine ⟨⟨hE,rfl,rfl⟩,?_⟩;rw [q];unfold wtA wtE;rw [AD c,AD c];exact rfl
 ·cases h)
def aSP:List LV->T LV
 | [.v (Y J n),.v (Y J a),.v (Y J b)]=> .ok (inB n a b)
 |_=> .no
def abJ:List Bd:=[]
def uo:=vo (S:=aSP) func80 abJ kN (λargs lv h=>by
 unfold aSP at h;split at h
 ·rename_i n a b
  refine Ap (.ok<|.v<|.bool<|(an<|n>=a)&&(an<|n<=b)) ?_;exact h
 ·cases h)
def aJV:List LV->T LV
 | [.v (.agg ⟨[Y J nu,Y J co,Y J am,Y J fr,Y J tk]⟩)]=> .ok (D4 (nu,co,am,fr,tk))
 |_=> .no
def alg:List Bd:=[uo]
def aJa:=vo (S:=aJV) func118 alg kN (λargs lv h=>by
 unfold aJV at h;split at h
 ·rename_i nu co am fr tk
  refine Ap (.ok<|.v<|.bool<|(inB nu (1:Int) (1000000:Int))&&((inB co (0:Int) (15:Int))&&((inB am (0:Int) (80:Int))&&((inB fr (0:Int) (1000000:Int))&&(inB tk (1:Int) (1000:Int)))))) ?_;exact h
 ·cases h)
def aSQ:List LV->T LV
 | [.v (.agg ⟨[Y J nu,Y J co,Y J am,Y J fr,Y J tk]⟩),.v (.agg ⟨[Y J nu2,Y J co2,Y J am2,Y J fr2,Y J tk2]⟩)]=> .ok (Jd (nu,co,am,fr,tk) (nu2,co2,am2,fr2,tk2))
 |_=> .no
def aTx:=vo (S:=aSQ) func119 abJ kN (λargs lv h=>by
 unfold aSQ at h;split at h
 ·rename_i nu co am fr tk nu2 co2 am2 fr2 tk2
  refine Ap (.ok<|.v<|.bool<|(an<|nu2>nu)&&(an<|fr2>=fr)) ?_;exact h
 ·cases h)
def aJW:List LV->T LV
 | [.v (.agg ⟨[Y J nu,Y J co,Y J am,Y J fr,Y J tk]⟩)]=> .req ((0<=fr/\fr<=1000000)/\0<=tk/\tk<=1000000) (.ok<|Pc (nu,co,am,fr,tk))
 |_=> .no
def alf:List Bd:=[av3]
def aJb:=vo (S:=aJW) func81 alf kN (λargs lv h=>by
 unfold aJW at h;split at h
 ·rename_i nu co am fr tk
  refine Ap (.br ((wtE tk) !=0) (.ok fr)<|.ok<|AA<|(AA<|fr+10)+(wtA tk)) ?_;obtain ⟨⟨hf,ht⟩,rfl⟩:=h
  have c:=Bf.2 ht
  have hw:=aaG ht.1
  have ea:wtA tk=wt tk:=by unfold wtA;rw [AD c]
  have ee:wtE tk=0:=by unfold wtE;rw [AD c]
  rw [ea,ee,AI (x:=fr+10),AI];exact ⟨λh=>An,λ_=>rfl⟩
 ·cases h)
structure O3 where
 l:List Le
 r:Bool
 m:List Le
 (n i:Int)
def aEo:=bN f79 0
def gF (s:O3):T (Rd O3):=
 .br (an<|s.i<s.n) (.ix s.i (M s.m)<|.br (!(D4<|At s.m s.i)) (.so (.ret) {s with r:=X})<|.br (an<|s.i>0) (.ix (AA<|s.i-1) (M s.l)<|.br (!(Jd (At s.l<|AA<|s.i-1)<|At s.m s.i)) (.so (.ret) {s with r:=X})<|.nx {s with i:=AA<|s.i+1})<|.nx {s with i:=AA<|s.i+1}) (.so (.exit 0) s)
def iq (s:O3):Prop:=s.i=0/\s.n=(M s.l:Int)/\s.n<=1000/\s.m=s.l
def Xv (s:O3):Prop:=(0<=s.i/\s.i<=s.n)/\s.n=(M s.l:Int)/\s.n<=1000/\s.m=s.l/\∀j:Nat,(j:Int)<s.i->Gg s.l j=U
def fI (s:O3):Nat:=(s.n-s.i).toNat
def aA9 (x:Ex) (s s':O3):Prop:=(x=.exit 0/\∀j:Nat,(j:Int)<s'.n->Gg s'.l j=U)\/(x=.ret/\s'.r=X/\∃j:Nat,(j:Int)<s'.n/\Gg s'.l j=X)
def akZ:∀s,iq s->Xv s:=by
 rintro s ⟨h0,h2,h3,h4⟩
 exact ⟨A0,h2,h3,h4,λj hj=>A0⟩
def ay7:Da Xv fI aA9 gF:=by
 intro s hI;unfold gF;obtain ⟨⟨h0,h1⟩,h2,h3,h4,hA⟩:=hI;refine AH (λc1=>?_) λc1=>?_
 ·refine AH (λc2=>?_) (λc2=>?_)
  ·have c1:s.i<s.n:=AX
   rw [h4] at c2;refine .inr ⟨rfl,rfl,s.i.toNat,AZ,?_⟩;rw [CR h0];unfold Gg;rw [ntW c2];rfl
  ·refine AH (λc3=>?_) (λc3=>?_)
   ·refine AH (λc4=>?_) (λc4=>?_)
    ·have c1:s.i<s.n:=AX
     rw [h4] at c2
     have c3:0<s.i:=N7
     rw [AI (x:=s.i-1),h4] at c4;refine .inr ⟨rfl,rfl,s.i.toNat,AZ,?_⟩;rw [CR h0];unfold Gg;rw [nfW c2,I1 A0,ntW c4];rfl
    ·have c1:s.i<s.n:=AX
     rw [h4] at c2
     have c3:0<s.i:=N7
     rw [AI (x:=s.i-1),h4] at c4
     have hg:Gg s.l s.i=true:=by unfold Gg;rw [nfW c2,I1 A0,nfW c4];rfl
     rw [AI (x:=s.i+1)]
     exact ⟨⟨⟨AZ,AZ⟩,h2,h3,h4,λj hj=>by
      by_cases e:(j:Int)<s.i
      ·exact hA j e
      ·have e:(j:Int)=s.i:=lP
       show Gg s.l j=U
       rw [e];exact hg⟩,by simp only [fI];omega⟩
   ·have c1:s.i<s.n:=AX
    rw [h4] at c2
    have hg:Gg s.l s.i=true:=by unfold Gg;rw [nfW c2,DB lQ];rfl
    rw [AI (x:=s.i+1)]
    exact ⟨⟨⟨AZ,AZ⟩,h2,h3,h4,λj hj=>by
     by_cases e:(j:Int)<s.i
     ·exact hA j e
     ·have e:(j:Int)=s.i:=lP
      rw [e];exact hg⟩,by simp only [fI];omega⟩
 ·have c1:s.n<=s.i:=AX
  exact .inl ⟨rfl,λj hj=>hA j A0⟩
def RG:AR O3:=⟨0,33,[0,2,8,9,10],[],λs=>[s.l,s.r,s.m,s.n,s.i],λ_=>[],λv b=>⟨B4 AP v 0,E4 v 1,B4 AP v 2,AK v 3,AK v 4⟩,gF,λs r=> {s with r:=r.r,i:=r.i},λs=>s,λ_ s=>s,[.ret,.exit 0],iq,Xv,fI⟩
abbrev aG9:=RG.run
abbrev aHx:=RG.Aq
def awC:Rq Xv gF:=by
 intro s hI;refine ⟨λc1=>⟨?_,λ_=>trivial,λc2=>⟨λc3=>⟨?_,λ_=>trivial,λ_=>trivial⟩,λ_=>trivial⟩⟩,λ_=>trivial⟩
 all_goals ((obtain ⟨⟨h0,h1⟩,h2,h3,h4,hA⟩:=hI;simp only [Ac] at c1;have hl:M s.m=M s.l:=B1 M h4;first|omega|(simp only [Ac,gt_iff_lt] at c3;rw [AI (x:=s.i-1)];omega)))
def abI:List Bd:=[aJa,aTx]
def aQU:RG.Ok:={}
def aOn:RG.Pf (aA9):=⟨akZ,λs h=>rfl,ay7,awC⟩
def apT:SA 0 aEo RG:=s1 aQU aOn abI kN
def as1:Fi iq Xv aA9 aHx aG9:=AR.fin aQU aOn
def aJR:List LV->T LV
 | [.xl (.pair (.int J) (.pair (.int J) (.pair (.int J) (.pair (.int J) (.int J))))) l]=> .ok (BL l)
 |_=> .no
def WO:=vm (S:=aJR) func79 abI kN (L:=(λi=>if i=4 then RG.lp else Ag i)) (λb hb=>by
 rw [show BA _=[aEo] by kernel_rfl] at hb
 simp only [B8,Bu,Bt] at hb;subst hb;exact apT) (λargs lv h=>by
 unfold aJR at h;split at h
 ·rename_i l
  refine Ap (letI a:=(M l:Int);.br (an<|a>64) (.ok X)<|.req (RG.q (⟨l,X,l,a,0⟩:O3))<|.br (Bj (aHx (⟨l,X,l,a,0⟩:O3))<|.ret) (.ok (aG9 (⟨l,X,l,a,0⟩:O3)).r)<|.ok U) ?_;obtain rfl:=h;refine ⟨λc=>B1 (λz=>LV.v<|.bool z) ?_,λc=>?_⟩
  ·have c:64<(M l:Int):=IT
   unfold BL;rw [I1 A0];rfl
  ·have c:(M l:Int)<=64:=IT
   have hE:iq ⟨l,X,l,(M l:Int),0⟩:=⟨rfl,rfl,AZ,rfl⟩
   refine ⟨⟨hE,rfl,rfl⟩,?_⟩;obtain ⟨_,_,hq⟩:=as1 _ hE;rcases hq with ⟨q1,q2⟩ |⟨q1,q2,j,q3,q4⟩<;>rw [q1]
   ·have e:D9 (M l) (Gg l)=true:=Di.2 (λj hj=>q2 j (by show (j:Int)<(M l:Int);omega))
    unfold BL;rw [DB A0,e];exact ⟨λh=>An,λ_=>rfl⟩
   ·have e:D9 (M l) (Gg l)=false:=Oq j (by have q3:(j:Int)<(M l:Int):=q3;omega) q4
    rw [q2];unfold BL;rw [DB A0,e];exact ⟨λ_=>rfl,λh=>An⟩
 ·cases h)
structure P7 where
 tick:Int
 l:List Le
 (n i:Int)
 out:List Le
def aFj:=bN f46 0
def uy (s:P7):T (Rd P7):=letI a:=At s.l s.i;.br (an<|s.i<s.n) (.ix s.i (M s.l)<|.req ((0<=a.2.2.2.1/\a.2.2.2.1<=1000000)/\0<=a.2.2.2.2/\a.2.2.2.2<=1000000)<|.br (an<|(Pc a)>s.tick) (.rb (M s.out) (M<|[a]) 40<|.re (M s.out+M ([a])) (s.out++([a]))<|.nx {s with i:=AA<|s.i+1,out:=s.out++([a])})<|.rl s.out<|.nx {s with i:=AA<|s.i+1})<|.rl s.out<|.so (.exit 0) s
def iJ (s:P7):Prop:=s.i=0/\s.out=[]/\s.n=(M s.l:Int)/\s.n<=1000/\∀x∈s.l,D4 x=U
def Y1 (s:P7):Prop:=(0<=s.i/\s.i<=s.n)/\s.out=(s.l.take s.i.toNat).filter (Ms s.tick)/\s.n=(M s.l:Int)/\s.n<=1000/\∀x∈s.l,D4 x=U
def sY (s:P7):Nat:=(s.n-s.i).toNat
def aAC (x:Ex) (s s':P7):Prop:=x=.exit 0/\s'.out=s'.l.filter (Ms s'.tick)
def al7:∀s,iJ s->Y1 s:=by
 rintro s ⟨h0,h1,h2⟩
 exact ⟨A0,Fv,h2⟩
theorem agB:Da Y1 sY aAC uy:=by
 intro s hI;obtain ⟨⟨h0,h1⟩,hA,h2,h3,h4⟩:=hI;refine AH (λc1=>?_) λc1=>?_
 ·have c1:s.i<s.n:=AX
  have e:=(W4 h0 (show s.i<M s.l by omega)).2
  rw [AI (x:=s.i+1)];refine AH (λc2=>?_) λc2=>?_
  all_goals
   refine ⟨⟨⟨A8,AZ⟩,?_,h2,h3,h4⟩,by simp only [sY];omega⟩
   simp only
   have c2:Ms s.tick (At s.l s.i)=_:=c2
   rw [e,ZS,hA,OQ,c2]
   simp
 ·have c1:s.n<=s.i:=AX
  refine ⟨rfl,?_⟩;rw [hA,DS A0]
def RT:AR P7:=⟨0,33,[1,6,17,18,19],[.nl 6 104 AP],λs=>[s.tick,.os 0 5 0<|M s.out,s.l,s.n,s.i],λs=>[bV 104 AP s.out],λv b=>⟨AK v 0,B4 AP v 2,AK v 3,AK v 4,Ab AP b 0⟩,uy,λs r=> {s with i:=r.i,out:=r.out},λs=>s,λ_ s=>s,[.exit 0],iJ,Y1,sY⟩
abbrev aC5:=RT.run
abbrev atL:=RT.Aq
theorem axj:Rq Y1 uy:=by
 intro s hI;refine ⟨λc1=>⟨?_,?_,λc2=>⟨?_,?_,ak⟩,λc2=>⟨A9,ak⟩⟩,λc1=>⟨A9,ak⟩⟩
 all_goals ((obtain ⟨⟨h0,h1⟩,hA,h2,h3,h4⟩:=hI;simp only [Ac] at c1;have hv:=QL.1<|h4 _<|On h0 (show s.i<M s.l by omega);have hl:M s.out<=s.i.toNat:=A8;first|omega|(refine ⟨A0,?_,?_⟩<;>simp only [Bi,Bp]<;>omega) |exact ⟨rfl,AJ⟩))
def abH:List Bd:=[WO,uo,aJb]
def aPv:RT.Ok:={}
def aOQ:RT.Pf (aAC):=⟨al7,λs h=>rfl,agB,axj⟩
def ape:SA 0 aFj RT:=s1 aPv aOQ abH kN
def arA:Fi iJ Y1 aAC atL aC5:=AR.fin aPv aOQ
def aIs:List LV->T LV
 | [.xl (.pair (.int J) (.pair (.int J) (.pair (.int J) (.pair (.int J) (.int J))))) l,.v (Y J t)]=> .ok (.AM [Br l t,DF l t])
 |_=> .no
def ua:=uS f46 aIs
theorem dy:VV 46 ua:=vm func46 abH kN (L:=(λi=>if i=5 then RT.lp else Ag i)) (λb hb=>by
 rw [show BA _=[aFj] by kernel_rfl] at hb
 simp only [B8,Bu,Bt] at hb;subst hb;exact ape) (λargs lv h=>by
 unfold aIs at h;split at h
 ·rename_i l t
  refine Ap (letI a:=(aC5 (⟨t,l,(M l:Int),(0:Int),([]:List Le)⟩:P7));.br ((!(BL l)) ||(!(inB t (0:Int) (1100000:Int)))) (.ok<|.AM [.xl AP ([]:List Le),(1:Int)])<|.r0 Le<|.req (RT.q (⟨t,l,(M l:Int),(0:Int),([]:List Le)⟩:P7))<|.rz a.out<|.ok<|.AM [((a.out.drop 0).take<|M a.out),(0:Int)]) ?_;obtain rfl:=h;refine ⟨λc=>?_,λc=>?_⟩
  ·have c:O8 l t=false:=aMh
   unfold Br DF;rw [c];rfl
  ·have c:O8 l t=true:=aMh
   have hv:BL l=true:=A8
   have hl:=Ij hv
   have hE:iJ ⟨t,l,(M l:Int),0,[]⟩:=⟨rfl,rfl,rfl,AZ,hl.2⟩
   obtain ⟨_,_,q1,q2⟩:=arA _ hE
   have q2:(aC5 ⟨t,l,(M l:Int),0,[]⟩).out=l.filter (Ms t):=q2
   refine ⟨A9,⟨hE,rfl,rfl⟩,A0,?_⟩
   show LV.AM [LV.xl _ _,_]=_
   unfold Br DF
   grind
 ·cases h)
structure Np where
 l:List Le
 (cQ tick e:Int)
 m:List Le
 (k i:Int)
def aFw:=bN f74 0
def zI (s:Np):T (Rd Np):=
 .br (an<|s.i<s.k) (.ix s.i (M s.m)<|.br (an<|(At s.m s.i).2.1>=s.cQ) (.so (.ret) {s with e:=(1:Int)})<|.nx {s with i:=AA<|s.i+1}) (.so (.exit 0) s)
def jo (s:Np):Prop:=s.i=0/\s.k=(M s.m:Int)/\s.k<=1000
def YF (s:Np):Prop:=(0<=s.i/\s.i<=s.k)/\s.k=(M s.m:Int)/\s.k<=1000/\∀x∈s.m.take s.i.toNat,x.2.1<s.cQ
def tE (s:Np):Nat:=(s.k-s.i).toNat
def aAP (x:Ex) (s s':Np):Prop:=(x=.exit 0/\below s'.cQ s'.m=U)\/(x=.ret/\s'.e=1/\below s'.cQ s'.m=X)
def amS:∀s,jo s->YF s:=by
 rintro s ⟨h0,h1,h2⟩
 exact ⟨A0,h1,h2,Fv⟩
theorem ahQ:Da YF tE aAP zI:=by
 intro s hI;obtain ⟨⟨h0,h1⟩,h2,h3,h4⟩:=hI;refine AH (λc1=>?_) λc1=>?_
 ·have c1:s.i<s.k:=AX
  refine AH (λc2=>?_) λc2=>?_
  ·refine .inr ⟨rfl,rfl,?_⟩
   unfold below;rw [List.all_eq_false];exact ⟨At s.m s.i,On h0 A8,EA⟩
  ·rw [AI (x:=s.i+1)]
   refine ⟨⟨⟨A8,A8⟩,h2,h3,λx hx=>?_⟩,by simp only [tE];omega⟩
   rw [(W4 h0 A8).2,By,M7] at hx;rcases hx with hx|rfl
   ·exact h4 x hx
   ·simpa using c2
 ·have c1:s.k<=s.i:=AX
  refine .inl ⟨rfl,?_⟩;rw [DS A0] at h4;unfold below
  grind
def Re:AR Np:=⟨0,48,[0,1,2,6,7,26,27,28],[],λs=>[s.l,s.cQ,s.tick,.v<|.slice aj 0 0,s.e,s.m,s.k,s.i],λ_=>[],λv b=>⟨B4 AP v 0,AK v 1,AK v 2,AK v 4,B4 AP v 5,AK v 6,AK v 7⟩,zI,λs r=> {s with e:=r.e,i:=r.i},λs=>s,λ_ s=>s,[.ret,.exit 0],jo,YF,tE⟩
abbrev aGt:=Re.run
abbrev aI8:=Re.Aq
def axK:Rq YF zI:=by
 exact aL0
def R5:List Bd:=[WO,uo,aJb]
def abe:Ax:=kI R5<|l0 R5
def aQH:Re.Ok:={}
def aPr:Re.Pf (aAP):=⟨amS,λs h=>rfl,ahQ,axK⟩
def apA:SA 0 aFw Re:=s1 aQH aPr R5 abe
def atV:Fi jo YF aAP aI8 aGt:=AR.fin aQH aPr
def yw:Array Tmp×Code×Code:=((Ii<|f74.body.getD .skip)[0]?).getD (#[],.skip,.skip)
def ajv:Array Tmp:=yw.1
def ajS:Code:=yw.2.1
def ak3:Code:=yw.2.2
structure NZ where
 m:List Le
 (k i:Int)
 o:List Int
 q:List Le
 t:Int
 st:LS
def zH (s:NZ):T (Rd NZ):=letI b:=At s.m s.i;letI c:=s.o.getD b.2.1.toNat<|Ty.dflt A7;letI a:=s.o.set b.2.1.toNat (if c<b.2.2.1 then b.2.2.1 else c);.br (an<|s.i<s.k) (.ix s.i (M s.m)<|.br (an<|b.2.2.2.1>s.t) (.rl s.o<|.so (.exit 0) s)<|.req ((0<=b.2.2.2.1/\b.2.2.2.1<=1000000)/\0<=b.2.2.2.2/\b.2.2.2.2<=1000000)<|.br (an<|(Pc b)<=s.t) (.rl s.o<|.nx {s with i:=AA<|s.i+1})<|.ik b.2.1 (M s.o)<|.ik b.2.1 (M s.o)<|.re (M s.o) a<|.nx {s with i:=AA<|s.i+1,o:=a})<|.rl s.o<|.so (.exit 0) s
def jn (s:NZ):Prop:=s.st=.ready/\s.i=0/\s.k=(M s.m:Int)/\s.k<=1000/\(∀x∈s.m,D4 x=U/\x.2.1<(M s.o:Int))/\s.m.Pairwise (λa b=>a.1<b.1/\a.2.2.2.1<=b.2.2.2.1)
def jR (s:NZ):Prop:=s.st=.ready/\(0<=s.i/\s.i<=s.k)/\s.k=(M s.m:Int)/\s.k<=1000/\(∀x∈s.m,D4 x=U/\x.2.1<(M s.o:Int))/\s.m.Pairwise (λa b=>a.1<b.1/\a.2.2.2.1<=b.2.2.2.1)
def eY (s:NZ):Nat:=(s.k-s.i).toNat
def ac9 (x:Ex) (s s':NZ):Prop:=x=.exit 0
def amR:∀s,jn s->jR s:=by
 rintro s ⟨h0,h1,h2⟩
 exact ⟨h0,A0,h2⟩
theorem ahP:Da jR eY ac9 zH:=by
 intro s hI;obtain ⟨hs,⟨h0,h1⟩,h2,h3,h4,h5⟩:=hI;refine AH (λc1=>?_) λc1=>rfl
 have c1:s.i<s.k:=AX
 rw [AI (x:=s.i+1)];refine AH (λc2=>rfl) λc2=>AH (λc3=>?_) λc3=>?_
 ·exact ⟨⟨hs,⟨A8,AZ⟩,h2,h3,h4,h5⟩,by simp only [eY];omega⟩
 ·exact ⟨⟨hs,⟨A8,A8⟩,h2,h3,λx hx=>A8,h5⟩,by simp only [eY];omega⟩
def Z4:AR NZ:=⟨6,27,[0,2,6,7,8],[],λs=>[.CO 5,.own 4 0,s.m,s.k,s.i],λs=>[bV 3 A7 s.o,⟨[.os 0 1 0<|M s.o],29,.cl,X⟩,⟨[.fn 111 [.own 1 0]],149,.cl,X⟩,⟨[s.q],34,.cl,X⟩,⟨[s.t],3,.cl,X⟩,⟨[.junk,.junk,.junk,.junk,.junk,.junk,.junk,.junk,.junk,.junk,.junk,.own 2 0,.junk,.junk,.junk,.junk,.junk,.junk,.junk,.junk,.junk,.junk,.junk,.junk,.junk,.junk,.junk,.junk,.junk,.junk,.junk,.junk,.junk,.junk,.junk,.junk,.junk,.junk,.junk,.junk,.junk,.junk,.junk,.junk,.junk,.junk,.junk,.junk],0,.Cg ajv ajS ak3 s.st,X⟩],λv b=>⟨B4 AP v 2,AK v 3,AK v 4,Ab A7 b 0,AF AP b 3 0,Aj b 4 0,.ready⟩,zH,λs r=> {r with m:=s.m,k:=s.k,q:=s.q,t:=s.t,st:=s.st},λs=> {s with st:=.ready},λx s=> {s with st:=(match x with| .exit 0=> .ready|_=> .ready)},[.exit 0],jn,jR,eY⟩
abbrev aCt:=Z4.run
abbrev asV:=Z4.Aq
def axJ:Rq jR zH:=by
 intro s hI;refine ⟨λc1=>⟨?_,λc2=>⟨A9,ak⟩,λc2=>⟨?_,λc3=>⟨A9,ak⟩,λc3=>⟨?_,?_,?_,?_,?_,ak⟩⟩⟩,λc1=>⟨A9,ak⟩⟩
 all_goals ((obtain ⟨hs,⟨h0,h1⟩,h2,h3,h4,h5⟩:=hI;simp only [Ac] at c1;have hv:=(h4 _<|On h0 (show s.i<M s.m by omega)).2;have hl:=QL.1 (h4 _<|On h0 (show s.i<M s.m by omega)).1;first|omega|exact ⟨rfl,AJ⟩))
def aQG:Z4.Ok:={}
def aPq:Z4.Pf (ac9):=⟨amR,λs h=>by
 obtain ⟨m,k,i,o,q,t,st⟩:=s
 have e:=h.1
 subst e;rfl,ahP,axJ⟩
def ap9:=s2 (b:=bN f156 0) aQG aPq R5 abe
theorem atU:Rs jn asV aCt (λs:NZ=>((s.m.drop s.i.toNat).filter<|SP s.t).foldl kpA s.o) (λx s' (v:List Int)=>x=.exit 0/\s'.o=v):=DJ aQG aPq (λs hI=>by
  obtain ⟨hs,⟨h0,h1⟩,h2,h3,h4,h5⟩:=hI;refine AH (λc1=>?_) λc1=>?_
  ·have c1:s.i<s.k:=AX
   have e:=(W4 h0 (show s.i<(M s.m:Int) by omega)).1
   rw [AI (x:=s.i+1)];refine AH (λc2=>?_) λc2=>AH (λc3=>?_) λc3=>?_
   ·refine ⟨rfl,?_⟩
    have c2:(At s.m s.i).2.2.2.1>s.t:=EA
    have hp:(s.m.drop s.i.toNat).Pairwise (λa b=>a.1<b.1/\a.2.2.2.1<=b.2.2.2.1):=List.Pairwise.sublist (List.drop_sublist _ _) h5
    rw [e,k9] at hp;rw [List.filter_eq_nil_iff.2]
    ·rfl
    ·rw [e]
     intro x hx;unfold SP;rw [I1,Pt]
     ·decide
     ·rcases B8.1 hx with rfl|hx
      ·omega
      ·have:=(hp.1 x hx).2
       omega
   ·show List.foldl _ _ _=List.foldl _ _ _
    have c3:Pc (At s.m s.i)<=s.t:=N7
    have hb:¬SP s.t (At s.m s.i)=true:=by
     unfold SP;rw [I1 (p:=Pc _>_) A0,Sa]
     decide
    simp only
    grind
   ·show List.foldl _ _ _=List.foldl _ _ _
    have c2:(At s.m s.i).2.2.2.1<=s.t:=EA
    have c3:s.t<Pc (At s.m s.i):=N7
    have hb:SP s.t (At s.m s.i)=true:=by
     unfold SP;rw [DB c2,DB c3];rfl
    rw [e,OQ,AD hb,Ky];rfl
  ·have c1:s.k<=s.i:=A8
   refine ⟨rfl,?_⟩;rw [Ef A0];rfl)
def aIf:List LV->T LV
 | [.xl (.pair (.int J) (.pair (.int J) (.pair (.int J) (.pair (.int J) (.int J))))) l,.v (Y J n),.v (Y J t)]=> .ok (.AM [.xl A7<|Gr l n t,Kb l n t])
 |_=> .no
def akK:Ax:=kI R5<|la 1 func156 ap9<|l0 R5
def WR:=vm (S:=aIf) func74 R5 akK (L:=(λi=>if i=4 then Re.lp else Ag i)) (λb hb=>by
 rw [show BA _=[aFw] by kernel_rfl] at hb
 simp only [B8,Bu,Bt] at hb;subst hb;exact apA) (λargs lv h=>by
 unfold aIf at h;split at h
 ·rename_i l n t
  refine Ap (letI b:=(aq n.toNat (0:Int));letI d:=(M l:Int);letI a:=(aCt (⟨l,d,0,b,l,t,.ready⟩:NZ));.br ((!(BL l)) ||((!(inB n (0:Int) (16:Int))) ||(!(inB t (0:Int) (1100000:Int))))) (.ok<|.AM [.xl A7 ([]:List Int),(1:Int)])<|.req (Re.q (⟨l,n,t,0,l,d,0⟩:Np))<|.br (Bj (aI8 (⟨l,n,t,0,l,d,0⟩:Np))<|.ret) (.ok<|.AM [.xl A7 ([]:List Int),(aGt (⟨l,n,t,0,l,d,0⟩:Np)).e])<|.rm 8 n<|.re n.toNat b<|.req (Z4.q (⟨l,d,0,b,l,t,.ready⟩:NZ))<|.rz a.o<|.ok<|.AM [.xl A7<|(a.o.drop 0).take<|M a.o,(0:Int)]) ?_;obtain rfl:=h
  have bad:LZ l n t=X->LV.AM [.xl A7 ([]:List Int),.v<|Y J 1]=LV.AM [.xl A7<|Gr l n t,.v<|Y J<|Kb l n t]:=λc=>by
   unfold Gr Kb;rw [c];rfl
  refine ⟨λc=>bad ?_,λc=>?_⟩
  ·unfold LZ
   grind
  have c:(BL l&&(inB n 0 16&&inB t 0 1100000))=true:=A8
  have c':=c
  rw [AY,AY,Bf,Bf] at c';obtain ⟨hv,hn,ht⟩:=c'
  have hl:=Ij hv
  have hE:jo ⟨l,n,t,0,l,(M l:Int),0⟩:=⟨rfl,rfl,AZ⟩
  refine ⟨⟨hE,rfl,rfl⟩,?_⟩;obtain ⟨_,_,hq⟩:=atV _ hE;rcases hq with ⟨q1,q2⟩ |⟨q1,q2,q3⟩<;>rw [q1]
  ·refine ⟨λh=>An,λ_=>?_⟩
   have q2:below n l=true:=q2
   have hE2:jn ⟨l,(M l:Int),0,aq n.toNat 0,l,t,.ready⟩:=⟨rfl,rfl,rfl,AZ,λx hx=>⟨hl.2 x hx,by
    have:=DC<|BR.1 q2 x hx
    simp only [Ce];omega⟩,aE2 hv⟩
   obtain ⟨_,q4⟩:=atU _ hE2;refine ⟨A0,⟨rfl,AJ⟩,⟨hE2,rfl,rfl⟩,A0,?_⟩;rw [CP,E6,q4];unfold Gr Kb LZ;rw [c,q2];rfl
  ·have q3:below n l=false:=q3
   rw [q2];exact ⟨λ_=>bad (by unfold LZ;rw [q3,Sa]),λh=>An⟩
 ·cases h)
def aJQ:List LV->T LV
 | [.v (.agg ⟨[.string nm,Y J at_,Y J ph,Y J mi,Y J ma,Y J st,Y J fb,Y J ow]⟩)]=> .ok (EE mi ma st)
 |_=> .no
def mB:List Bd:=[]
def arf (nm:ByteArray) (at_ ph mi ma st fb ow:Int):Bk prog AV (mB) kN Ag f215 [.v<|.agg #[.string nm,at_,ph,mi,ma,st,fb,ow]]=.br ((an<|mi<1) ||((an<|mi>ma) ||((an<|ma>80) ||((an<|st<1) ||(an<|st>80))))) (.ok (0:Int)) (.req (st≠0)<|.ok<|AA<|(AA<|(AA<|ma-mi).tdiv st)+2):=AT
def auN:=vo (S:=aJQ) func215 mB kN (λargs lv h=>by
 refine ⟨?_⟩;unfold aJQ at h;split at h
 ·simp only [canL,canX]
  rw [arf];rename_i mi ma st _ _;obtain rfl:=h;refine ⟨λc=>B1 (λz=>LV.v<|Y J z) ?_,λc=>⟨?_,B1 (λz=>LV.v<|Y J z) ?_⟩⟩
  ·have:De mi ma st=false:=by
    rw [Hw];intro h;have:=I3.1 h;simp at c;omega
   rw [aEO this]
  ·grind
  ·have hh:=I3.2 VM
   obtain ⟨h1,h2,h3,h4,h5⟩:=I3.1 hh
   have:=oG (x:=ma-mi) (st:=st) A0 A0
   rw [AI (x:=ma-mi),Hy A0,AI (x:=(ma-mi) / st),AI]
   simp [EE,hh]
 ·cases h)
def aIe:List LV->T LV
 | [.v (.agg ⟨[.string nm,Y J at_,Y J ph,Y J mi,Y J ma,Y J st,Y J fb,Y J ow]⟩),.v (Y J k)]=> .req ((1<=mi/\mi<=80/\1<=st/\st<=80)/\0<=k/\k<=1000) (.ok<|Dq mi st k)
 |_=> .no
def ars (nm:ByteArray) (at_ ph mi ma st fb ow k:Int):Bk prog AV (mB) kN Ag f185 [.v<|.agg #[.string nm,at_,ph,mi,ma,st,fb,ow],k]=.br (k==0) (.ok (0:Int)) (.ok<|AA<|mi+(AA<|(AA<|k-1)*st)):=AT
def Wp:=vo (S:=aIe) func185 mB kN (λargs lv h=>by
 refine ⟨?_⟩;unfold aIe at h;split at h
 ·simp only [canL,canX]
  rw [ars];rename_i mi _ st _ _ k;obtain ⟨⟨⟨h1,h2,h3,h4⟩,h5,h6⟩,rfl⟩:=h;refine ⟨λc=>B1 (λz=>LV.v<|Y J z) ?_,λc=>B1 (λz=>LV.v<|Y J z) ?_⟩
  ·have c:k=0:=A8
   simp [Dq,c]
  ·have c:k≠0:=A8
   have:=ay2 (a:=k-1) (b:=st) A0 A0 A0 A0
   rw [AI (x:=k-1),AI (x:=(k-1)*st),AI]
   simp [Dq,c]
 ·cases h)
def aJU:List LV->T LV
 | [.v (.agg ⟨[.string nm,Y J at_,Y J ph,Y J mi,Y J ma,Y J st,Y J fb,Y J ow]⟩),.v (Y J a)]=> .req (a<=9223372036854775807) (.ok<|HC mi ma st a)
 |_=> .no
def aKK:List Bd:=[auN]
def arh (nm:ByteArray) (at_ ph mi ma st fb ow a:Int):letI b:=(AA<|(AA<|a-mi).tdiv st)+1;letI c:=EE mi ma st;Bk prog AV (aKK) kN Ag f183 [.v<|.agg #[.string nm,at_,ph,mi,ma,st,fb,ow],a]=.br ((c==0) ||(an<|a<0)) (.ok<|.v<|Y J (-1)) (.br (an<|a<mi) (.ok (0:Int))<|.req (st≠0)<|.ok<|.v<|Y J (if (AA b)<(AA<|c-1) then AA b else AA (c-1))):=AT
def Wn:=vo (S:=aJU) func183 aKK kN (λargs lv h=>by
 refine ⟨?_⟩;unfold aJU at h;split at h
 ·simp only [canL,canX]
  rw [arh];rename_i mi ma st _ _ a;obtain ⟨ha,rfl⟩:=h
  have hb:=aQl (mi:=mi) (ma:=ma) (st:=st)
  refine ⟨λc=>B1 (λz=>LV.v<|Y J z) ?_,λc=>⟨λc2=>B1 (λz=>LV.v<|Y J z) ?_,λc2=>?_⟩⟩
  ·have c:De mi ma st=X\/a<0:=by
    simp at c
    rcases c with c|c
    ·left
     cases e:De mi ma st with
     |false=>rfl
     |true=>have:=qE e;omega
    ·exact .inr c
   simp only [HC,AD c]
  all_goals
   simp at c c2
   have hh:De mi ma st=true:=by
    cases e:De mi ma st with
    |true=>rfl
    |false=>exact absurd (aEO e) c.1
   have hn:¬(De mi ma st=X\/a<0):=A8
   have:=I3.1 hh
  ·simp only [HC,AE hn,AD c2]
  ·have:=oG (x:=a-mi) (st:=st) A0 A0
   refine ⟨A0,B1 (λz=>LV.v<|Y J z) ?_⟩
   rw [AI (x:=a-mi),Hy A0,AI (x:=(a-mi) / st),AI (x:=(a-mi) / st+1),AI (x:=EE mi ma st-1)];simp only [HC,AE hn,AE (show ¬a<mi by omega)]
   omega
 ·cases h)
def aDy:List LV->T LV
 | [.v (.string w)]=> .ok (isIn hU w)
 |_=> .no
def Ui:List Bd:=[]
def aED:=vo (S:=aDy) func207 Ui kN (λargs lv h=>by
 unfold aDy at h;split at h
 ·rename_i w
  refine Ap (.br (w.toList==(av #[108,105,109,105,116]).toList) (.ok U)<|.br (w.toList==(av #[110,101,117,116,114,97,108]).toList) (.ok U)<|.br (w.toList==(av #[102,117,115,101]).toList) (.ok U)<|.br (w.toList==(av #[116,104,101,114,109,97,108]).toList) (.ok U)<|.br (w.toList==(av #[102,114,111,109]).toList) (.ok U)<|.br (w.toList==(av #[97,116]).toList) (.ok U)<|.br (w.toList==(av #[112,104,97,115,101,115]).toList) (.ok U)<|.br (w.toList==(av #[97,109,112,115]).toList) (.ok U)<|.br (w.toList==(av #[102,97,108,108,98,97,99,107]).toList) (.ok U)<|.br (w.toList==(av #[111,119,110,101,114]).toList) (.ok U)<|.br (w.toList==(av #[99,97,114,100]).toList) (.ok U)<|.br (w.toList==(av #[114,97,110,107]).toList) (.ok U)<|.br (w.toList==(av #[99,104,97,114,103,101,114]).toList) (.ok U)<|.ok X) ?_;obtain rfl:=h;simp only [Wq];unfold isIn hU;simp only [ZI,kY];refine ⟨λc0=>yE,λc0=>?_⟩
  rw [c0,Cu];refine ⟨λc1=>yF,λc1=>?_⟩
  rw [c1,Cu];refine ⟨λc2=>yG,λc2=>?_⟩
  rw [c2,Cu];refine ⟨λc3=>yH,λc3=>?_⟩
  rw [c3,Cu];refine ⟨λc4=>yd,λc4=>?_⟩
  rw [c4,Cu];refine ⟨λc5=>ye,λc5=>?_⟩
  rw [c5,Cu];refine ⟨λc6=>by simp [c6,T.all],λc6=>?_⟩
  rw [c6,Cu];refine ⟨λc7=>by simp [c7,T.all],λc7=>?_⟩
  rw [c7,Cu];refine ⟨λc8=>by simp [c8,T.all],λc8=>?_⟩
  rw [c8,Cu];refine ⟨λc9=>by simp [c9,T.all],λc9=>?_⟩
  rw [c9,Cu];refine ⟨λc10=>by simp [c10,T.all],λc10=>?_⟩
  rw [c10,Cu];refine ⟨λc11=>by simp [c11,T.all],λc11=>?_⟩
  rw [c11,Cu];refine ⟨λc12=>by simp [c12,T.all],λc12=>?_⟩
  rw [c12,Cu];rfl
 ·cases h)
def aFZ:List LV->T LV
 | [.v (.string w)]=> .ok (isIn oE w)
 |_=> .no
def aG2:=vo (S:=aFZ) func208 Ui kN (λargs lv h=>by
 unfold aFZ at h;split at h
 ·rename_i w
  refine Ap (.br (w.toList==(av #[115,116,97,114,116]).toList) (.ok U)<|.br (w.toList==(av #[101,110,101,114,103,121]).toList) (.ok U)<|.br (w.toList==(av #[116,105,109,101]).toList) (.ok U)<|.br (w.toList==(av #[105,100,108,101]).toList) (.ok U)<|.br (w.toList==(av #[99,97,112]).toList) (.ok U)<|.br (w.toList==(av #[116,97,120]).toList) (.ok U)<|.ok X) ?_;obtain rfl:=h;simp only [Wq];unfold isIn oE;simp only [ZI,kY];refine ⟨λc0=>yE,λc0=>?_⟩
  rw [c0,Cu];refine ⟨λc1=>yF,λc1=>?_⟩
  rw [c1,Cu];refine ⟨λc2=>yG,λc2=>?_⟩
  rw [c2,Cu];refine ⟨λc3=>yH,λc3=>?_⟩
  rw [c3,Cu];refine ⟨λc4=>yd,λc4=>?_⟩
  rw [c4,Cu];refine ⟨λc5=>ye,λc5=>?_⟩
  rw [c5,Cu];rfl
 ·cases h)
def aFX:List LV->T LV
 | [.v (.string w)]=> .ok (isIn words w)
 |_=> .no
def aG1:=vo (S:=aFX) func223 Ui kN (λargs lv h=>by
 unfold aFX at h;split at h
 ·rename_i w
  refine Ap (.br (w.toList==(av #[111,110]).toList) (.ok U)<|.br (w.toList==(av #[119,111,114,107]).toList) (.ok U)<|.br (w.toList==(av #[115,97,116,117,114,100,97,121]).toList) (.ok U)<|.br (w.toList==(av #[115,117,110,100,97,121]).toList) (.ok U)<|.br (w.toList==(av #[98,101,116,119,101,101,110]).toList) (.ok U)<|.br (w.toList==(av #[112,101,114]).toList) (.ok U)<|.br (w.toList==(av #[102,114,101,101]).toList) (.ok U)<|.ok X) ?_;obtain rfl:=h;simp only [Wq];unfold isIn words;simp only [ZI,kY];refine ⟨λc0=>yE,λc0=>?_⟩
  rw [c0,Cu];refine ⟨λc1=>yF,λc1=>?_⟩
  rw [c1,Cu];refine ⟨λc2=>yG,λc2=>?_⟩
  rw [c2,Cu];refine ⟨λc3=>yH,λc3=>?_⟩
  rw [c3,Cu];refine ⟨λc4=>yd,λc4=>?_⟩
  rw [c4,Cu];refine ⟨λc5=>ye,λc5=>?_⟩
  rw [c5,Cu];refine ⟨λc6=>by simp [c6,T.all],λc6=>?_⟩
  rw [c6,Cu];rfl
 ·cases h)
def aIi:List LV->T LV
 | [.v (.string w)]=> .ok (Ud 1 kinds w)
 |_=> .no
def auP:=vo (S:=aIi) func222 Ui kN (λargs lv h=>by
 unfold aIi at h;split at h
 ·rename_i w
  refine Ap (.br (w.toList==(av #[102,101,101,100,101,114]).toList) (.ok (1:Int))<|.br (w.toList==(av #[99,97,98,108,101]).toList) (.ok (2:Int))<|.br (w.toList==(av #[111,119,110,101,114]).toList) (.ok (3:Int))<|.br (w.toList==(av #[99,111,110,116,114,97,99,116]).toList) (.ok (4:Int))<|.br (w.toList==(av #[99,104,97,114,103,101,114]).toList) (.ok (5:Int))<|.br (w.toList==(av #[98,97,121]).toList) (.ok (6:Int))<|.br (w.toList==(av #[116,97,114,105,102,102]).toList) (.ok (7:Int))<|.ok (0:Int)) ?_;obtain rfl:=h;simp only [Wq];simp only [Ud,kinds];refine ⟨λc0=>by rw [AD c0];rfl,λc0=>?_⟩
  rw [AE<|by simp [c0]]
  refine ⟨λc1=>by rw [AD c1];rfl,λc1=>?_⟩
  rw [AE<|by simp [c1]]
  refine ⟨λc2=>by rw [AD c2];rfl,λc2=>?_⟩
  rw [AE<|by simp [c2]]
  refine ⟨λc3=>by rw [AD c3];rfl,λc3=>?_⟩
  rw [AE<|by simp [c3]]
  refine ⟨λc4=>by rw [AD c4];rfl,λc4=>?_⟩
  rw [AE<|by simp [c4]]
  refine ⟨λc5=>by rw [AD c5];rfl,λc5=>?_⟩
  rw [AE A8];refine ⟨λc6=>by rw [AD c6];rfl,λc6=>?_⟩
  rw [AE A8];rfl
 ·cases h)
def aFY:List LV->T LV
 | [.v (.string w)]=> .ok (aBV w)
 |_=> .no
def amo:List Bd:=[aED,aG2,auP,aG1]
def ap4:=vo (S:=aFY) func206 amo kN (λargs lv h=>by
 unfold aFY at h;split at h
 ·rename_i w
  refine Ap (.ok<|.v<|.bool (((Ud 1 kinds w) !=0) ||((isIn hU w) ||((isIn oE w) ||(isIn words w))))) ?_;obtain rfl:=h;rw [aEV 1 kinds _ Aa];rfl
 ·cases h)
structure Ls where
 text:ByteArray
 r:Bool
 i:Int
def aHb:=bN f205 0
def ln (s:Ls):T (Rd Ls):=letI a:=Jk s.text s.i;.br (an<|s.i<(s.text.size:Int)) (.req (0<=s.i/\s.i<(s.text.size:Int))<|.br (if an (a>=97) then !(an<|a<=122)&&(if an (a>=48) then !(an<|a<=57)&&(!(a==95)) else !(a==95)) else if an (a>=48) then !(an<|a<=57)&&(!(a==95)) else !(a==95)) (.so (.ret) {s with r:=X})<|.nx {s with i:=AA<|s.i+1})<|.so (.exit 0) s
def O9 (s:Ls) (j:Int):Bool:=an (j<1) ||(chB<|Jk s.text j)
def mY (s:Ls):Prop:=s.i=1/\1<=(s.text.size:Int)/\(s.text.size:Int)<=1000/\True
def aZ (s:Ls):Prop:=1<=s.i/\s.i<=(s.text.size:Int)/\(s.text.size:Int)<=1000/\(True)/\∀j:Nat,(j:Int)<s.i->O9 s j=U
def zU (s:Ls):Nat:=((s.text.size:Int)-s.i).toNat
def wT (x:Ex) (s s':Ls):Prop:=(x=.exit 0/\∀j:Nat,(j:Int)<(s'.text.size:Int)->O9 s' j=U)\/(x=.ret/\s'.r=X/\∃j:Nat,(j:Int)<(s'.text.size:Int)/\O9 s' j=X)
def amk:∀s,mY s->aZ s:=by
 rintro s ⟨h0,h1,h2,h3⟩
 exact ⟨A0,A0,h2,h3,λj hj=>by unfold O9;rw [DB A0];rfl⟩
theorem akC:Da aZ zU wT ln:=by
 intro s hI;unfold ln;obtain ⟨h0,h1,h2,h3,h4⟩:=hI;refine AH (λc1=>AH (λc2=>?_) λc2=>?_) λc1=>?_
 ·have c1:s.i<(s.text.size:Int):=AX
  refine .inr ⟨rfl,rfl,s.i.toNat,AZ,?_⟩;rw [CR A0]
  have hg:O9 s s.i=false:=aLx
  exact hg
 ·have c1:s.i<(s.text.size:Int):=AX
  have hg:O9 s s.i=true:=aLx
  rw [AI (x:=s.i+1)];refine ⟨⟨AZ,AZ,h2,h3,λj hj=>?_⟩,by simp only [zU];omega⟩
  by_cases hji:(j:Int)<s.i
  ·exact h4 j hji
  ·have:(j:Int)=s.i:=A8
   rw [this];exact hg
 ·have c1:(s.text.size:Int)<=s.i:=AX
  exact ZY
def SJ:AR Ls:=⟨0,51,[0,2,3],[],λs=>[.v<|.string s.text,s.r,s.i],λ_=>[],λv b=>⟨gSr<|v.getD 0 .junk,E4 v 1,AK v 2⟩,ln,λs r=> {r with text:=s.text},λs=>s,λ_ s=>s,[.ret,.exit 0],mY,aZ,zU⟩
abbrev dn:=SJ.run
abbrev aRo:=SJ.Aq
def ajo:Rq aZ ln:=by
 exact Sc
def aaj:SJ.Ok:={}
def aaT:SJ.Pf (wT):=⟨amk,λs h=>rfl,akC,ajo⟩
def avF:SA 0 aHb SJ:=s1 aaj aaT Ui kN
def az6:Fi mY aZ wT aRo dn:=AR.fin aaj aaT
def aFd:List LV->T LV
 | [.v (.string w)]=> .ok (gwB w)
 |_=> .no
def ap6:=vm (S:=aFd) func205 Ui kN (L:=(λi=>if i=4 then SJ.lp else Ag i)) (λb hb=>by
 rw [show BA _=[aHb] by kernel_rfl] at hb
 simp only [B8,Bu,Bt] at hb;subst hb;exact avF) (λargs lv h=>by
 unfold aFd at h;split at h
 ·rename_i w
  refine Ap (letI a:=(w.size:Int);.br (an<|a<1) (.ok X)<|.br (an<|a>12) (.ok X)<|.req (0<=(0:Int)/\(0:Int)<a)<|.br (an<|(Jk w (0:Int))<97) (.ok X)<|.req (0<=(0:Int)/\(0:Int)<a)<|.br (an<|(Jk w (0:Int))>122) (.ok X)<|.req (SJ.q (⟨w,X,1⟩:Ls))<|.br (Bj (aRo (⟨w,X,1⟩:Ls))<|.ret) (.ok (dn (⟨w,X,1⟩:Ls)).r)<|.ok U) ?_;obtain rfl:=h
  have bad:¬(((1<=w.size/\w.size<=12)/\(97<=Jk w 0/\Jk w 0<=122)))->LV.v (.bool X)=LV.v (.bool<|gwB w):=λhn=>B1 (λz=>LV.v<|.bool z) (by
   rw [Sf,Hw];intro h;simp only [gwB,chA,AY,Ac] at h;exact hn ⟨h.1,A0,A0⟩)
  refine ⟨λc=>bad VM,λc=>⟨λc2=>bad A8,λc2=>⟨VM,λc3=>bad lQ,λc3=>⟨VM,λc4=>bad yO,λc4=>?_⟩⟩⟩⟩
  simp only [Cv] at c c2 c3 c4
  have hE:mY ⟨w,X,1⟩:=⟨rfl,AZ,AZ,ak⟩
  have key:gwB w=(au w.size).all λi=>i==0 ||chB (Jk w i):=by
   simp only [gwB,chA];rw [DB A0,DB A0,DB A0];rfl
  obtain ⟨s',_,hq⟩:=az6 _ hE;refine ⟨⟨hE,rfl,rfl⟩,?_⟩;rw [key];rcases hq with ⟨h1,h2⟩ |⟨h1,h2,j,h3,h4⟩
  ·rw [h1]
   refine ⟨λh=>An,λ_=>B1 (λz=>LV.v<|.bool z) ?_⟩
   rw [Sf,BR];intro i hi
   have:=h2 i (by show (i:Int)<(w.size:Int);have:=IQ.1 hi;omega)
   simp only [O9] at this;rw [show (dn ⟨w,X,1⟩).text=w from rfl] at this;rw [Cl] at this;rcases this with h|h
   ·have:i=0:=by simp at h;omega
    simp [this]
   ·rw [h];simp
  ·rw [h1,h2]
   refine ⟨λ_=>B1 (λz=>LV.v<|.bool z) ?_,λh=>An⟩
   rw [Sf,Hw];intro hx;rw [BR] at hx
   have h3:(j:Int)<(w.size:Int):=h3
   have:=hx j<|IQ.2 A0
   simp only [O9] at h4;rw [show (dn ⟨w,X,1⟩).text=w from rfl] at h4;rw [GF] at h4
   have h5:=h4.1
   simp at h5
   rw [h4.2] at this
   simp at this
   omega
 ·cases h)
def aFe:List LV->T LV
 | [.v (.string w)]=> .ok (nameB w)
 |_=> .no
def amn:List Bd:=[ap6,ap4]
def aoe:=vo (S:=aFe) func166 amn kN (λargs lv h=>by
 unfold aFe at h;split at h
 ·rename_i w
  refine Ap (.ok<|.v<|.bool<|(gwB w)&&(!(aBV w))) ?_;exact h
 ·cases h)
def aIl:List LV->T LV
 | [.v (.string w)]=> .ok (nameB w)
 |_=> .no
def wD:List Bd:=[aoe,aED,aG2,aG1]
def amj:Ax:=kI wD<|l0 wD
def auQ:=vo (S:=aIl) func61 wD amj (λargs lv h=>by
 unfold aIl at h;split at h
 ·rename_i w
  refine Ap (.br (((1:Int) !=1) ||((!(ByteArray.empty.toList==(av #[]).toList)) ||((0:Int) !=0))) (.ok X)<|.br (((2:Int) !=2) ||((an<|(3:Int)<1) ||((an<|(3:Int)>7) ||(!(nameB w))))) (.br (!X) (.ok X)<|.ok U)<|.br (!U) (.ok X)<|.ok U) ?_;obtain rfl:=h;refine ⟨λc=>?_,λ_=>?_⟩
  ·exfalso
   rw [Wq] at c
   revert c
   decide
  ·cases nameB w<;>simp [T.all]
 ·cases h)
def aFb:List LV->T LV
 | [.v (.agg ⟨[Y J a,Y J b]⟩),.v (Y J n)]=> .ok (inB n a b)
 |_=> .no
def wC:List Bd:=[]
def pg:=vo (S:=aFb) func84 wC kN (λargs lv h=>by
 unfold aFb at h;split at h
 ·rename_i a b n
  refine Ap (.ok<|.v<|.bool<|(an<|n>=a)&&(an<|n<=b)) ?_;exact h
 ·cases h)
def aIp:List LV->T LV
 | [.v (.agg ⟨[Y J am,Y J mo,Y J ga,Y J lo,Y J de]⟩)]=> .ok (an<|mo>am)
 |_=> .no
def auR:=vo (S:=aIp) func122 wC kN (λargs lv h=>by
 unfold aIp at h;split at h
 ·rename_i am mo ga lo de
  refine Ap (.ok<|an<|mo>am) ?_;exact h
 ·cases h)
def aIq:List LV->T LV
 | [.v (.agg ⟨[.string nm,Y J at_,Y J ph,Y J mi,Y J ma,Y J st,Y J fb,Y J ow]⟩)]=> .ok (.v<|.bool<|an (mi<=ma)&&((fb==0) ||inB fb mi ma))
 |_=> .no
def auS:=vo (S:=aIq) func123 wC kN (λargs lv h=>by
 unfold aIq at h;split at h
 ·rename_i nm at_ ph mi ma st fb ow
  refine Ap (.ok<|.v<|.bool<|(an<|mi<=ma)&&((fb==0) ||((an<|fb>=mi)&&(an<|fb<=ma)))) ?_;exact h
 ·cases h)
def aHA:List LV->T LV
 | [.v (.agg ⟨[.string nm,Y J Ks,Y J li,Y J ne,Y J ra,Y J he,Y J am,Y J mo,Y J ga,Y J lo,Y J de]⟩),.v (Y J i)]=> .req (0<=i) (.ok<|Hi i (nm,Ks,li,ne,(ra,he),am,mo,ga,lo,de))
 |_=> .no
def amm:List Bd:=[pg,auR]
def av5:=vo (S:=aHA) func83 amm kN (λargs lv h=>by
 unfold aHA at h;split at h
 ·rename_i nm Ks li ne ra he am mo ga lo de i
  refine Ap (.br (if i==0 then (Ks !=(-1)) ||((an<|i>0)&&((an<|Ks<0) ||(an<|Ks>=i))) else (an<|i>0)&&((an<|Ks<0) ||(an<|Ks>=i))) (.ok X)<|.br ((!(inB li (1:Int) (1000:Int))) ||(!(inB ne (1:Int) (1000:Int)))) (.ok X)<|.br ((!((ra==0)&&(he==0)))&&(!(inB ra (1:Int) (1000:Int)) ||(!(inB he (0:Int) (1000000:Int))))) (.ok X)<|.br ((am==0)&&((mo==0)&&((ga==0)&&((lo==0)&&(de==0))))) (.ok U)<|.ok<|.v<|.bool<|(inB am (0:Int) (200000:Int))&&((inB mo (0:Int) (200000:Int))&&((inB ga (0:Int) (1000:Int))&&((inB lo (0:Int) (1000:Int))&&((inB de (1:Int) (1000000:Int))&&(an<|mo>am)))))) ?_
  obtain ⟨hi,h⟩:=h;exact ahp (K:=λz=>LV.v (.bool z)=lv) hi h
 ·cases h)
def aHB:List LV->T LV
 | .agg a::r=>s5 a λcs os ks gs bs=>(match r with
  | [.v (.agg ⟨[.string nm,Y J at_,Y J ph,Y J mi,Y J ma,Y J st,Y J fb,Y J ow]⟩)]=> .req ((M cs:Int)<=1000/\(M os:Int)<=1000) (.ok<|G3 (M cs) (M os) (nm,at_,ph,mi,ma,st,fb,ow))
  |_=> .no)
 |_=> .no
def alp:List Bd:=[pg,auS]
def av6:=vo (S:=aHB) func85 alp kN (λargs lv h=>by
 unfold aHB at h;split at h
 case h_2=>cases h
 replace h:=HX h
 obtain ⟨cs,os,ks,gs,bs,rfl,h⟩:=h;split at h
 ·rename_i nm at_ ph mi ma st fb ow
  refine Ap (.ok<|.v<|.bool<|(inB at_ (0:Int)<|AA<|(M cs:Int)-1)&&((inB ow (0:Int)<|AA<|(M os:Int)-1)&&((inB ph (1:Int) (7:Int))&&((inB mi (1:Int) (80:Int))&&((inB ma (1:Int) (80:Int))&&((inB st (1:Int) (80:Int))&&((inB fb (0:Int) (80:Int))&&(an (mi<=ma)&&((fb==0) ||inB fb mi ma))))))))) ?_;obtain ⟨⟨h1,h2⟩,rfl⟩:=h;refine B1 (λz=>LV.v<|.bool z) ?_
  rw [AI (x:=(M cs:Int)-1),AI (x:=(M os:Int)-1)];unfold G3 chW;rw [IP];simp only [AY,Cl,Bf,Ac,Cz];omega
 ·cases h)
structure NH where
 l:List Cd
 (n i:Int)
 B9:List Cd
 BV:List ByteArray
 Bz:List Ko
 B5:List Ch
 C0:List Ba
 out:List ByteArray
def aEl:=bN f60 0
def vK (s:NH):T (Rd NH):=letI a:=Al s.l s.i;.br (an<|s.i<s.n) (.ix s.i (M s.l)<|.rb (M s.out) (M<|[a.1]) 16<|.re (M s.out+M ([a.1])) (s.out++([a.1]))<|.nx {s with i:=AA<|s.i+1,out:=s.out++([a.1])})<|.rl s.out<|.so (.exit 0) s
def Yn (s:NH):Prop:=s.i=0/\s.n=(M s.l:Int)/\s.n<=1000/\(M s.out:Int)<=10000
def Xs (s:NH):Prop:=0<=s.i/\s.i<=s.n/\s.n=(M s.l:Int)/\s.n<=1000/\(M s.out:Int)<=10000+s.i
def ta (s:NH):Nat:=(s.n-s.i).toNat
def aA5 (x:Ex) (s s':NH):Prop:=x=.exit 0/\s'.i=s'.n
def ajL:∀s,Yn s->Xs s:=by
 exact ZU
theorem ayr:Da Xs ta aA5 vK:=by
 intro s hI;obtain ⟨h0,h1,h2,h3,h4⟩:=hI;refine AH (λc1=>?_) λc1=>?_
 ·have c1:s.i<s.n:=A8
  rw [AI (x:=s.i+1)];exact ⟨⟨A8,A8,h2,h3,A8⟩,by simp only [ta];omega⟩
 ·exact Sb
def RB:AR NH:=⟨0,80,[1,3,15,16,17],[.nl 3 9 .str],λs=>[.own 0 0,.os 1 1 0<|M s.out,s.l,s.n,s.i],λs=>[⟨[s.B9,s.BV,s.Bz,s.B5,s.C0],28,.cl,X⟩,bV 9 .str s.out],λv b=>⟨B4 Ad v 2,AK v 3,AK v 4,AF Ad b 0 0,AF .str b 0 1,AF Ah b 0 2,AF Ae b 0 3,AF Ai b 0 4,Ab .str b 1⟩,vK,λs r=> {s with i:=r.i,out:=r.out},λs=>s,λ_ s=>s,[.exit 0],Yn,Xs,ta⟩
abbrev VW:=RB.run
abbrev atC:=RB.Aq
def aw6:Rq Xs vK:=by
 exact ZX
def UA:List Bd:=[]
def rh:RB.Ok:={}
def rI:RB.Pf (aA5):=⟨ajL,λs h=>rfl,ayr,aw6⟩
def apO:SA 0 aEl RB:=s1 rh rI UA kN
def aqK:Fi Yn Xs aA5 atC VW:=AR.fin rh rI
theorem aqJ (s:NH) (hE:Yn s):(VW s).out=s.out++s.l.map (·.1):=by
 have hk:=AR.KJ rh rI (λs=>s.out++(s.l.drop s.i.toNat).map (·.1)) (λs hI=>by
  obtain ⟨h0,h1,h2,h3,h4⟩:=hI;refine AH (λc1=>?_) λc1=>?_
  ·have c1:s.i<s.n:=A8
   rw [AI (x:=s.i+1)]
   show _++_=_++_
   rw [(ank h0 (show s.i<M s.l by omega)).1]
   simp
  ·rfl) s hE
 obtain ⟨s',hI,q1,q2⟩:=aqK s hE
 have q3:=q2
 have hn:(VW s).n=(M s.l:Int):=hE.2.1
 have hl:(VW s).l=s.l:=rfl
 exact Zg
structure NI where
 l:List ByteArray
 (n i:Int)
 B9:List Cd
 BV:List ByteArray
 Bz:List Ko
 B5:List Ch
 C0:List Ba
 out:List ByteArray
def aEk:=bN f60 1
def vJ (s:NI):T (Rd NI):=letI a:=gS s.l s.i;.br (an<|s.i<s.n) (.ix s.i (M s.l)<|.rb (M s.out) (M<|[a]) 16<|.re (M s.out+M ([a])) (s.out++([a]))<|.nx {s with i:=AA<|s.i+1,out:=s.out++([a])})<|.rl s.out<|.so (.exit 2) s
def Ym (s:NI):Prop:=s.i=0/\s.n=(M s.l:Int)/\s.n<=1000/\(M s.out:Int)<=10000
def Xr (s:NI):Prop:=0<=s.i/\s.i<=s.n/\s.n=(M s.l:Int)/\s.n<=1000/\(M s.out:Int)<=10000+s.i
def tZ (s:NI):Nat:=(s.n-s.i).toNat
def aA4 (x:Ex) (s s':NI):Prop:=x=.exit 2/\s'.i=s'.n
def ajK:∀s,Ym s->Xr s:=by
 exact ZU
theorem ayq:Da Xr tZ aA4 vJ:=by
 intro s hI;obtain ⟨h0,h1,h2,h3,h4⟩:=hI;refine AH (λc1=>?_) λc1=>?_
 ·have c1:s.i<s.n:=A8
  rw [AI (x:=s.i+1)];exact ⟨⟨A8,A8,h2,h3,A8⟩,by simp only [tZ];omega⟩
 ·exact Sb
def RA:AR NI:=⟨0,80,[1,3,28,29,30],[],λs=>[.own 0 0,.os 1 1 0<|M s.out,s.l,s.n,s.i],λs=>[⟨[s.B9,s.BV,s.Bz,s.B5,s.C0],28,.cl,X⟩,bV 9 .str s.out],λv b=>⟨B4 .str v 2,AK v 3,AK v 4,AF Ad b 0 0,AF .str b 0 1,AF Ah b 0 2,AF Ae b 0 3,AF Ai b 0 4,Ab .str b 1⟩,vJ,λs r=> {s with i:=r.i,out:=r.out},λs=>s,λ_ s=>s,[.exit 2],Ym,Xr,tZ⟩
abbrev VX:=RA.run
abbrev atA:=RA.Aq
def aw5:Rq Xr vJ:=by
 exact ZX
def rZ:RA.Ok:={}
def rH:RA.Pf (aA4):=⟨ajK,λs h=>rfl,ayq,aw5⟩
def apN:SA 0 aEk RA:=s1 rZ rH UA kN
def aqI:Fi Ym Xr aA4 atA VX:=AR.fin rZ rH
theorem aqH (s:NI) (hE:Ym s):(VX s).out=s.out++s.l:=by
 have hk:=AR.KJ rZ rH (λs=>s.out++(s.l.drop s.i.toNat)) (λs hI=>by
  obtain ⟨h0,h1,h2,h3,h4⟩:=hI;refine AH (λc1=>?_) λc1=>?_
  ·have c1:s.i<s.n:=A8
   rw [AI (x:=s.i+1)]
   show _++_=_++_
   rw [(aGW h0 (show s.i<M s.l by omega)).1]
   simp
  ·rfl) s hE
 obtain ⟨s',hI,q1,q2⟩:=aqI s hE
 have q3:=q2
 have hn:(VX s).n=(M s.l:Int):=hE.2.1
 have hl:(VX s).l=s.l:=rfl
 exact Zg
structure NO where
 l:List Ko
 (n i:Int)
 B9:List Cd
 BV:List ByteArray
 Bz:List Ko
 B5:List Ch
 C0:List Ba
 out:List ByteArray
def aEj:=bN f60 2
def vI (s:NO):T (Rd NO):=letI a:=OA s.l s.i;.br (an<|s.i<s.n) (.ix s.i (M s.l)<|.rb (M s.out) (M<|[a.1]) 16<|.re (M s.out+M ([a.1])) (s.out++([a.1]))<|.nx {s with i:=AA<|s.i+1,out:=s.out++([a.1])})<|.rl s.out<|.so (.exit 4) s
def Xp (s:NO):Prop:=s.i=0/\s.n=(M s.l:Int)/\s.n<=1000/\(M s.out:Int)<=10000
def Xq (s:NO):Prop:=0<=s.i/\s.i<=s.n/\s.n=(M s.l:Int)/\s.n<=1000/\(M s.out:Int)<=10000+s.i
def tY (s:NO):Nat:=(s.n-s.i).toNat
def aA3 (x:Ex) (s s':NO):Prop:=x=.exit 4/\s'.i=s'.n
def ajJ:∀s,Xp s->Xq s:=by
 exact ZU
theorem ayp:Da Xq tY aA3 vI:=by
 intro s hI;obtain ⟨h0,h1,h2,h3,h4⟩:=hI;refine AH (λc1=>?_) λc1=>?_
 ·have c1:s.i<s.n:=A8
  rw [AI (x:=s.i+1)];exact ⟨⟨A8,A8,h2,h3,A8⟩,by simp only [tY];omega⟩
 ·exact Sb
def R9:AR NO:=⟨0,80,[1,3,41,42,43],[],λs=>[.own 0 0,.os 1 1 0<|M s.out,s.l,s.n,s.i],λs=>[⟨[s.B9,s.BV,s.Bz,s.B5,s.C0],28,.cl,X⟩,bV 9 .str s.out],λv b=>⟨B4 Ah v 2,AK v 3,AK v 4,AF Ad b 0 0,AF .str b 0 1,AF Ah b 0 2,AF Ae b 0 3,AF Ai b 0 4,Ab .str b 1⟩,vI,λs r=> {s with i:=r.i,out:=r.out},λs=>s,λ_ s=>s,[.exit 4],Xp,Xq,tY⟩
abbrev Va:=R9.run
abbrev at7:=R9.Aq
def aw4:Rq Xq vI:=by
 exact ZX
def rY:R9.Ok:={}
def sJ:R9.Pf (aA3):=⟨ajJ,λs h=>rfl,ayp,aw4⟩
def aqD:SA 0 aEj R9:=s1 rY sJ UA kN
def aqG:Fi Xp Xq aA3 at7 Va:=AR.fin rY sJ
theorem aqF (s:NO) (hE:Xp s):(Va s).out=s.out++s.l.map (·.1):=by
 have hk:=AR.KJ rY sJ (λs=>s.out++(s.l.drop s.i.toNat).map (·.1)) (λs hI=>by
  obtain ⟨h0,h1,h2,h3,h4⟩:=hI;refine AH (λc1=>?_) λc1=>?_
  ·have c1:s.i<s.n:=A8
   rw [AI (x:=s.i+1)]
   show _++_=_++_
   rw [(aEH h0 (show s.i<M s.l by omega)).1]
   simp
  ·rfl) s hE
 obtain ⟨s',hI,q1,q2⟩:=aqG s hE
 have q3:=q2
 have hn:(Va s).n=(M s.l:Int):=hE.2.1
 have hl:(Va s).l=s.l:=rfl
 exact Zg
structure NP where
 l:List Ch
 (n i:Int)
 B9:List Cd
 BV:List ByteArray
 Bz:List Ko
 B5:List Ch
 C0:List Ba
 out:List ByteArray
def aFI:=bN f60 3
def vH (s:NP):T (Rd NP):=letI a:=AG s.l s.i;.br (an<|s.i<s.n) (.ix s.i (M s.l)<|.rb (M s.out) (M<|[a.1]) 16<|.re (M s.out+M ([a.1])) (s.out++([a.1]))<|.nx {s with i:=AA<|s.i+1,out:=s.out++([a.1])})<|.rl s.out<|.so (.exit 6) s
def Xo (s:NP):Prop:=s.i=0/\s.n=(M s.l:Int)/\s.n<=1000/\(M s.out:Int)<=10000
def Yd (s:NP):Prop:=0<=s.i/\s.i<=s.n/\s.n=(M s.l:Int)/\s.n<=1000/\(M s.out:Int)<=10000+s.i
def tX (s:NP):Nat:=(s.n-s.i).toNat
def aA2 (x:Ex) (s s':NP):Prop:=x=.exit 6/\s'.i=s'.n
def ajI:∀s,Xo s->Yd s:=by
 exact ZU
theorem ayo:Da Yd tX aA2 vH:=by
 intro s hI;obtain ⟨h0,h1,h2,h3,h4⟩:=hI;refine AH (λc1=>?_) λc1=>?_
 ·have c1:s.i<s.n:=A8
  rw [AI (x:=s.i+1)];exact ⟨⟨A8,A8,h2,h3,A8⟩,by simp only [tX];omega⟩
 ·exact Sb
def R8:AR NP:=⟨0,80,[1,3,54,55,56],[],λs=>[.own 0 0,.os 1 1 0<|M s.out,s.l,s.n,s.i],λs=>[⟨[s.B9,s.BV,s.Bz,s.B5,s.C0],28,.cl,X⟩,bV 9 .str s.out],λv b=>⟨B4 Ae v 2,AK v 3,AK v 4,AF Ad b 0 0,AF .str b 0 1,AF Ah b 0 2,AF Ae b 0 3,AF Ai b 0 4,Ab .str b 1⟩,vH,λs r=> {s with i:=r.i,out:=r.out},λs=>s,λ_ s=>s,[.exit 6],Xo,Yd,tX⟩
abbrev Vi:=R8.run
abbrev at6:=R8.Aq
def awf:Rq Yd vH:=by
 exact ZX
def rX:R8.Ok:={}
def sI:R8.Pf (aA2):=⟨ajI,λs h=>rfl,ayo,awf⟩
def aqC:SA 0 aFI R8:=s1 rX sI UA kN
def aqE:Fi Xo Yd aA2 at6 Vi:=AR.fin rX sI
theorem aqd (s:NP) (hE:Xo s):(Vi s).out=s.out++s.l.map (·.1):=by
 have hk:=AR.KJ rX sI (λs=>s.out++(s.l.drop s.i.toNat).map (·.1)) (λs hI=>by
  obtain ⟨h0,h1,h2,h3,h4⟩:=hI;refine AH (λc1=>?_) λc1=>?_
  ·have c1:s.i<s.n:=A8
   rw [AI (x:=s.i+1)]
   show _++_=_++_
   rw [(anj h0 (show s.i<M s.l by omega)).1]
   simp
  ·rfl) s hE
 obtain ⟨s',hI,q1,q2⟩:=aqE s hE
 have q3:=q2
 have hn:(Vi s).n=(M s.l:Int):=hE.2.1
 have hl:(Vi s).l=s.l:=rfl
 exact Zg
structure NY where
 l:List Ba
 (n i:Int)
 out:List ByteArray
def aFH:=bN f60 4
def vG (s:NY):T (Rd NY):=letI a:=OI s.l s.i;.br (an<|s.i<s.n) (.ix s.i (M s.l)<|.rb (M s.out) (M<|[a.1]) 16<|.re (M s.out+M ([a.1])) (s.out++([a.1]))<|.nx {s with i:=AA<|s.i+1,out:=s.out++([a.1])})<|.rl s.out<|.so (.exit 8) s
def Xn (s:NY):Prop:=s.i=0/\s.n=(M s.l:Int)/\s.n<=1000/\(M s.out:Int)<=10000
def Yc (s:NY):Prop:=0<=s.i/\s.i<=s.n/\s.n=(M s.l:Int)/\s.n<=1000/\(M s.out:Int)<=10000+s.i
def tW (s:NY):Nat:=(s.n-s.i).toNat
def aA1 (x:Ex) (s s':NY):Prop:=x=.exit 8/\s'.i=s'.n
def ajH:∀s,Xn s->Yc s:=by
 exact ZU
theorem ayn:Da Yc tW aA1 vG:=by
 intro s hI;obtain ⟨h0,h1,h2,h3,h4⟩:=hI;refine AH (λc1=>?_) λc1=>?_
 ·have c1:s.i<s.n:=A8
  rw [AI (x:=s.i+1)];exact ⟨⟨A8,A8,h2,h3,A8⟩,by simp only [tW];omega⟩
 ·exact Sb
def Rz:AR NY:=⟨0,80,[3,67,68,69],[],λs=>[.os 0 1 0<|M s.out,s.l,s.n,s.i],λs=>[bV 9 .str s.out],λv b=>⟨B4 Ai v 1,AK v 2,AK v 3,Ab .str b 0⟩,vG,λs r=> {r with l:=s.l,n:=s.n},λs=>s,λ_ s=>s,[.exit 8],Xn,Yc,tW⟩
abbrev Vu:=Rz.run
abbrev at1:=Rz.Aq
def awe:Rq Yc vG:=by
 exact ZX
def rW:Rz.Ok:={}
def sH:Rz.Pf (aA1):=⟨ajH,λs h=>rfl,ayn,awe⟩
def aqB:SA 0 aFH Rz:=s1 rW sH UA kN
def aqc:Fi Xn Yc aA1 at1 Vu:=AR.fin rW sH
theorem aqb (s:NY) (hE:Xn s):(Vu s).out=s.out++s.l.map (·.1):=by
 have hk:=AR.KJ rW sH (λs=>s.out++(s.l.drop s.i.toNat).map (·.1)) (λs hI=>by
  obtain ⟨h0,h1,h2,h3,h4⟩:=hI;refine AH (λc1=>?_) λc1=>?_
  ·have c1:s.i<s.n:=A8
   rw [AI (x:=s.i+1)]
   show _++_=_++_
   rw [(anl h0 (show s.i<M s.l by omega)).1]
   simp
  ·rfl) s hE
 obtain ⟨s',hI,q1,q2⟩:=aqc s hE
 have q3:=q2
 have hn:(Vu s).n=(M s.l:Int):=hE.2.1
 have hl:(Vu s).l=s.l:=rfl
 exact Zg
def aJO:List LV->T LV
 | .agg a::r=>s5 a λcs os ks gs bs=>(match r with
  | []=> .req ((M cs:Int)<=1000/\(M os:Int)<=1000/\(M ks:Int)<=1000/\(M gs:Int)<=1000/\(M bs:Int)<=1000) (.ok<|.xl .str<|LG cs os ks gs bs)
  |_=> .no)
 |_=> .no
def avD:=vm (S:=aJO) func60 UA kN (L:=(λi=>if i=3 then RB.lp else if i=8 then RA.lp else if i=13 then R9.lp else if i=18 then R8.lp else if i=23 then Rz.lp else Ag i)) (λb hb=>by
 rw [show BA _=[aEl,aEk,aEj,aFI,aFH] by kernel_rfl] at hb
 simp only [B8,Bu,Bt] at hb;rcases hb with rfl|rfl|rfl|rfl|rfl
 ·exact apO
 ·exact apN
 ·exact aqD
 ·exact aqC
 ·exact aqB) (λargs lv h=>by
 unfold aJO at h;split at h
 case h_2=>cases h
 replace h:=HX h
 obtain ⟨cs,os,ks,gs,bs,rfl,h⟩:=h;split at h
 ·refine Ap (letI b:=(VW (⟨cs,(M cs:Int),0,cs,os,ks,gs,bs,([]:List ByteArray)⟩:NH));letI d:=(VX (⟨os,(M os:Int),0,cs,os,ks,gs,bs,b.out⟩:NI));letI a:=(Va (⟨ks,(M ks:Int),0,cs,os,ks,gs,bs,d.out⟩:NO));letI c:=(Vi (⟨gs,(M gs:Int),0,cs,os,ks,gs,bs,a.out⟩:NP));letI e:=(Vu (⟨bs,(M bs:Int),0,c.out⟩:NY));.r0 ByteArray<|.req (RB.q (⟨cs,(M cs:Int),0,cs,os,ks,gs,bs,([]:List ByteArray)⟩:NH))<|.rl b.out<|.req (RA.q (⟨os,(M os:Int),0,cs,os,ks,gs,bs,b.out⟩:NI))<|.rl d.out<|.req (R9.q (⟨ks,(M ks:Int),0,cs,os,ks,gs,bs,d.out⟩:NO))<|.rl a.out<|.req (R8.q (⟨gs,(M gs:Int),0,cs,os,ks,gs,bs,a.out⟩:NP))<|.rl c.out<|.req (Rz.q (⟨bs,(M bs:Int),0,c.out⟩:NY))<|.rz e.out<|.ok<|.xl .str<|(e.out.drop 0).take<|M e.out) ?_
  obtain ⟨⟨hc,ho,hk,hg,hb⟩,rfl⟩:=h
  have hE0:Yn ⟨cs,(M cs:Int),0,cs,os,ks,gs,bs,([]:List ByteArray)⟩:=⟨rfl,rfl,hc,by simp only;decide⟩
  have o0:=aqJ _ hE0
  refine ⟨A9,⟨hE0,rfl,rfl⟩,?_⟩;generalize (VW ⟨cs,(M cs:Int),0,cs,os,ks,gs,bs,([]:List ByteArray)⟩).out=r0 at*
  have o0:r0=([]:List ByteArray)++cs.map (·.1):=o0
  have l0:(M r0:Int)<=1000:=by rw [o0];simp only [BD,Ft,Bp];omega
  have hE1:Ym ⟨os,(M os:Int),0,cs,os,ks,gs,bs,r0⟩:=⟨rfl,rfl,ho,AZ⟩
  have o1:=aqH _ hE1
  refine ⟨A9,⟨hE1,rfl,rfl⟩,?_⟩;generalize (VX ⟨os,(M os:Int),0,cs,os,ks,gs,bs,r0⟩).out=r1 at*
  have o1:r1=r0++os:=o1
  have l1:(M r1:Int)<=2000:=by rw [o1];simp only [BD,Ft,Bp];omega
  have hE2:Xp ⟨ks,(M ks:Int),0,cs,os,ks,gs,bs,r1⟩:=⟨rfl,rfl,hk,AZ⟩
  have o2:=aqF _ hE2
  refine ⟨A9,⟨hE2,rfl,rfl⟩,?_⟩;generalize (Va ⟨ks,(M ks:Int),0,cs,os,ks,gs,bs,r1⟩).out=r2 at*
  have o2:r2=r1++ks.map (·.1):=o2
  have l2:(M r2:Int)<=3000:=A8
  have hE3:Xo ⟨gs,(M gs:Int),0,cs,os,ks,gs,bs,r2⟩:=⟨rfl,rfl,hg,AZ⟩
  have o3:=aqd _ hE3
  refine ⟨A9,⟨hE3,rfl,rfl⟩,?_⟩;generalize (Vi ⟨gs,(M gs:Int),0,cs,os,ks,gs,bs,r2⟩).out=r3 at*
  have o3:r3=r2++gs.map (·.1):=o3
  have l3:(M r3:Int)<=4000:=A8
  have hE4:Xn ⟨bs,(M bs:Int),0,r3⟩:=⟨rfl,rfl,hb,AZ⟩
  have o4:=aqb _ hE4
  refine ⟨A9,⟨hE4,rfl,rfl⟩,?_⟩;generalize (Vu ⟨bs,(M bs:Int),0,r3⟩).out=r4 at*
  have o4:r4=r3++bs.map (·.1):=o4
  refine ⟨A0,?_⟩
  show LV.xl _ _=_
  rw [CP,DS A0,o4,o3,o2,o1,o0,E7];rfl
 ·cases h)
structure MJ where
 r:Bool
 l:List Cd
 (n i:Int)
 B9:List Cd
 BV:List ByteArray
 Bz:List Ko
 B5:List Ch
 C0:List Ba
def aEw:=bN f62 0
def vf (s:MJ):T (Rd MJ):=
 .br (an<|s.i<s.n) (.ix s.i (M s.l)<|.req (0<=s.i)<|.br (!(Hi s.i<|Al s.l s.i)) (.so (.ret) {s with r:=X})<|.nx {s with i:=AA<|s.i+1}) (.so (.exit 0) s)
def TW (s:MJ) (j:Int):Bool:=Hi j<|Al s.l j
def aAq (s:MJ):Prop:=s.i=0/\0<=s.n/\s.n<=1000/\s.n=(M s.l:Int)
def YJ (s:MJ):Prop:=0<=s.i/\s.i<=s.n/\s.n<=1000/\(s.n=(M s.l:Int))/\∀j:Nat,(j:Int)<s.i->TW s j=U
def qx (s:MJ):Nat:=(s.n-s.i).toNat
def aAT (x:Ex) (s s':MJ):Prop:=(x=.exit 0/\∀j:Nat,(j:Int)<s'.n->TW s' j=U)\/(x=.ret/\s'.r=X/\∃j:Nat,(j:Int)<s'.n/\TW s' j=X)
def ai9:∀s,aAq s->YJ s:=by
 exact JH
theorem auw:Da YJ qx aAT vf:=by
 intro s hI;obtain ⟨h0,h1,h2,h3,h4⟩:=hI;refine AH (λc1=>AH (λc2=>?_) λc2=>?_) λc1=>?_
 ·have c1:s.i<s.n:=AX
  refine .inr ⟨rfl,rfl,s.i.toNat,A8,?_⟩;rw [CR A0]
  have hg:TW s s.i=false:=aMj
  exact hg
 ·have c1:s.i<s.n:=AX
  have hg:TW s s.i=true:=aMj
  rw [AI (x:=s.i+1)];refine ⟨⟨A8,A8,h2,h3,λj hj=>?_⟩,by simp only [qx];omega⟩
  exact L3
 ·exact Sg
def Rj:AR MJ:=⟨0,95,[1,2,13,14,15],[],λs=>[.own 0 0,s.r,s.l,s.n,s.i],λs=>[⟨[s.B9,s.BV,s.Bz,s.B5,s.C0],28,.cl,X⟩],λv b=>⟨E4 v 1,B4 Ad v 2,AK v 3,AK v 4,AF Ad b 0 0,AF .str b 0 1,AF Ah b 0 2,AF Ae b 0 3,AF Ai b 0 4⟩,vf,λs r=> {s with r:=r.r,i:=r.i},λs=>s,λ_ s=>s,[.ret,.exit 0],aAq,YJ,qx⟩
abbrev acn:=Rj.run
abbrev aHu:=Rj.Aq
def aww:Rq YJ vf:=by
 exact kQ
def XF:List Bd:=[av5,pg,av6]
def aPW:Rj.Ok:={}
def aP5:Rj.Pf (aAT):=⟨ai9,λs h=>rfl,auw,aww⟩
def aoW:SA 0 aEw Rj:=s1 aPW aP5 XF kN
def ap0:Fi aAq YJ aAT aHu acn:=AR.fin aPW aP5
structure MR where
 r:Bool
 l:List Ko
 (n i:Int)
 B9:List Cd
 BV:List ByteArray
 Bz:List Ko
 B5:List Ch
 C0:List Ba
 cards:List Int
def aEv:=bN f62 1
def fv (s:MR):T (Rd MR):=letI a:=OA s.l s.i;.br (an<|s.i<s.n) (.ix s.i (M s.l)<|.br ((!(inB a.2.1 (0:Int)<|AA<|(M s.BV:Int)-1)) ||((!(inB a.2.2.1 (1:Int) (9:Int))) ||((!(inB a.2.2.2 (1:Int) (1000000:Int))) ||(List.contains s.cards a.2.2.2)))) (.so (.ret) {s with r:=X})<|.req (List.contains s.cards a.2.2.2=X)<|.nx {s with i:=AA<|s.i+1,cards:=s.cards++[a.2.2.2]})<|.so (.exit 2) s
def TV (s:MR) (j:Int):Bool:=koV (M s.BV) (OA s.l j)&&!(((s.l.take j.toNat).map (·.2.2.2)).contains (OA s.l j).2.2.2)
def aAp (s:MR):Prop:=s.i=0/\s.cards=[]/\s.n=(M s.l:Int)/\s.n<=1000/\(M s.BV:Int)<=1000
def YI (s:MR):Prop:=0<=s.i/\s.i<=s.n/\s.n=(M s.l:Int)/\s.n<=1000/\((M s.BV:Int)<=1000)/\s.cards=(s.l.take s.i.toNat).map (·.2.2.2)/\∀j:Nat,(j:Int)<s.i->TV s j=U
def qv (s:MR):Nat:=(s.n-s.i).toNat
def aAS (x:Ex) (s s':MR):Prop:=(x=.exit 2/\∀j:Nat,(j:Int)<s'.n->TV s' j=U)\/(x=.ret/\s'.r=X/\∃j:Nat,(j:Int)<s'.n/\TV s' j=X)
def ai8:∀s,aAp s->YI s:=by
 exact aLw
def auv:Da YI qv aAS fv:=by
 intro s hI;unfold fv;obtain ⟨h0,h1,h2,h3,h4,h5,h6⟩:=hI;refine AH (λc1=>AH (λc2=>?_) λc2=>?_) λc1=>?_
 ·have c1:s.i<s.n:=AX
  refine .inr ⟨rfl,rfl,s.i.toNat,AZ,?_⟩;rw [CR h0]
  have hg:TV s s.i=false:=by
   exact aKY
  exact hg
 ·have c1:s.i<s.n:=AX
  have hg:TV s s.i=true:=by
   exact aKY
  rw [AI (x:=s.i+1)];refine ⟨⟨AZ,AZ,h2,h3,h4,?_,λj hj=>?_⟩,by simp only [qv];omega⟩
  ·simp only
   rw [(aEH h0 (show s.i<M s.l by omega)).2,h5]
   try rw [Jw]
   try rfl
  ·exact aMC
 ·exact aLY
def Ri:AR MR:=⟨0,95,[1,2,5,27,28,29],[],λs=>[.own 0 0,s.r,.om 1,s.l,s.n,s.i],λs=>[⟨[s.B9,s.BV,s.Bz,s.B5,s.C0],28,.cl,X⟩,⟨[],179,.st A7 s.cards,X⟩],λv b=>⟨E4 v 1,B4 Ah v 3,AK v 4,AK v 5,AF Ad b 0 0,AF .str b 0 1,AF Ah b 0 2,AF Ae b 0 3,AF Ai b 0 4,gSe A7<|CU b 1⟩,fv,λs r=> {s with r:=r.r,i:=r.i,cards:=r.cards},λs=>s,λ_ s=>s,[.ret,.exit 2],aAp,YI,qv⟩
abbrev aco:=Ri.run
abbrev aHs:=Ri.Aq
def awv:Rq YI fv:=by
 intro s hI;refine ⟨λc1=>⟨?_,λ_=>trivial,λc2=>⟨?_,ak⟩⟩,λ_=>trivial⟩
 all_goals ((obtain ⟨h0,h1,h2,h3,h4,h5,h6⟩:=hI;first|(simp at c1;omega) |(simp only [GF] at c2;exact c2.2.2.2)))
def aPV:Ri.Ok:={}
def aP4:Ri.Pf (aAS):=⟨ai8,λs h=>rfl,auv,awv⟩
def aoV:SA 0 aEv Ri:=s1 aPV aP4 XF kN
def aoz:Fi aAp YI aAS aHs aco:=AR.fin aPV aP4
structure MS where
 r:Bool
 l:List Ch
 (n i:Int)
 B9:List Cd
 BV:List ByteArray
 Bz:List Ko
 B5:List Ch
 C0:List Ba
def aEu:=bN f62 2
def ve (s:MS):T (Rd MS):=
 .br (an<|s.i<s.n) (.ix s.i (M s.l)<|.req ((M s.B9:Int)<=1000/\(M s.BV:Int)<=1000)<|.br (!(G3 (M s.B9) (M s.BV)<|AG s.l s.i)) (.so (.ret) {s with r:=X})<|.nx {s with i:=AA<|s.i+1}) (.so (.exit 4) s)
def TU (s:MS) (j:Int):Bool:=G3 (M s.B9) (M s.BV)<|AG s.l j
def aAo (s:MS):Prop:=s.i=0/\0<=s.n/\s.n<=1000/\s.n=(M s.l:Int)/\(M s.B9:Int)<=1000/\(M s.BV:Int)<=1000
def YH (s:MS):Prop:=0<=s.i/\s.i<=s.n/\s.n<=1000/\(s.n=(M s.l:Int)/\(M s.B9:Int)<=1000/\(M s.BV:Int)<=1000)/\∀j:Nat,(j:Int)<s.i->TU s j=U
def qu (s:MS):Nat:=(s.n-s.i).toNat
def aAR (x:Ex) (s s':MS):Prop:=(x=.exit 4/\∀j:Nat,(j:Int)<s'.n->TU s' j=U)\/(x=.ret/\s'.r=X/\∃j:Nat,(j:Int)<s'.n/\TU s' j=X)
def ai7:∀s,aAo s->YH s:=by
 exact JH
theorem auu:Da YH qu aAR ve:=by
 intro s hI;obtain ⟨h0,h1,h2,h3,h4⟩:=hI;refine AH (λc1=>AH (λc2=>?_) λc2=>?_) λc1=>?_
 ·have c1:s.i<s.n:=AX
  refine .inr ⟨rfl,rfl,s.i.toNat,AZ,?_⟩
  have hg:TU s s.i=false:=aLz
  exact hg
 ·have c1:s.i<s.n:=AX
  have hg:TU s s.i=true:=aLz
  rw [AI (x:=s.i+1)];refine ⟨⟨A8,A8,h2,h3,λj hj=>?_⟩,by simp only [qu];omega⟩
  exact L3
 ·exact Sg
def Rh:AR MS:=⟨0,95,[1,2,67,68,69],[],λs=>[.own 0 0,s.r,s.l,s.n,s.i],λs=>[⟨[s.B9,s.BV,s.Bz,s.B5,s.C0],28,.cl,X⟩],λv b=>⟨E4 v 1,B4 Ae v 2,AK v 3,AK v 4,AF Ad b 0 0,AF .str b 0 1,AF Ah b 0 2,AF Ae b 0 3,AF Ai b 0 4⟩,ve,λs r=> {s with r:=r.r,i:=r.i},λs=>s,λ_ s=>s,[.ret,.exit 4],aAo,YH,qu⟩
abbrev adI:=Rh.run
abbrev aHr:=Rh.Aq
def awu:Rq YH ve:=by
 intro s hI;refine ⟨λc1=>⟨?_,?_,λ_=>trivial,λ_=>trivial⟩,λ_=>trivial⟩
 all_goals ((obtain ⟨h0,h1,h2,h3,h4⟩:=hI;simp at c1;first|omega|exact h3.2))
def aPU:Rh.Ok:={}
def aP3:Rh.Pf (aAR):=⟨ai7,λs h=>rfl,auu,awu⟩
def aoU:SA 0 aEu Rh:=s1 aPU aP3 XF kN
def aoy:Fi aAo YH aAR aHr adI:=AR.fin aPU aP3
structure Mc where
 r:Bool
 l:List Ba
 (n i:Int)
 B9:List Cd
 BV:List ByteArray
 Bz:List Ko
 B5:List Ch
 C0:List Ba
def aFQ:=bN f62 3
def vd (s:Mc):T (Rd Mc):=
 .br (an<|s.i<s.n) (.ix s.i (M s.l)<|.br (!(inB (OI s.l s.i).2 (0:Int)<|AA<|(M s.B5:Int)-1)) (.so (.ret) {s with r:=X})<|.nx {s with i:=AA<|s.i+1}) (.so (.exit 6) s)
def TT (s:Mc) (j:Int):Bool:=inB (OI s.l j).2 0<|AA<|(M s.B5:Int)-1
def aAn (s:Mc):Prop:=s.i=0/\0<=s.n/\s.n<=1000/\s.n=(M s.l:Int)
def YG (s:Mc):Prop:=0<=s.i/\s.i<=s.n/\s.n<=1000/\(s.n=(M s.l:Int))/\∀j:Nat,(j:Int)<s.i->TT s j=U
def qt (s:Mc):Nat:=(s.n-s.i).toNat
def aAQ (x:Ex) (s s':Mc):Prop:=(x=.exit 6/\∀j:Nat,(j:Int)<s'.n->TT s' j=U)\/(x=.ret/\s'.r=X/\∃j:Nat,(j:Int)<s'.n/\TT s' j=X)
def ai6:∀s,aAn s->YG s:=by
 exact JH
theorem aut:Da YG qt aAQ vd:=by
 intro s hI;obtain ⟨h0,h1,h2,h3,h4⟩:=hI;refine AH (λc1=>AH (λc2=>?_) λc2=>?_) λc1=>?_
 ·have c1:s.i<s.n:=AX
  refine .inr ⟨rfl,rfl,s.i.toNat,A8,?_⟩
  have hg:TT s s.i=false:=aLy
  exact hg
 ·have c1:s.i<s.n:=AX
  have hg:TT s s.i=true:=aLy
  rw [AI (x:=s.i+1)];refine ⟨⟨A8,A8,h2,h3,λj hj=>?_⟩,by simp only [qt];omega⟩
  exact L3
 ·exact Sg
def Rg:AR Mc:=⟨0,95,[1,2,79,80,81],[],λs=>[.own 0 0,s.r,s.l,s.n,s.i],λs=>[⟨[s.B9,s.BV,s.Bz,s.B5,s.C0],28,.cl,X⟩],λv b=>⟨E4 v 1,B4 Ai v 2,AK v 3,AK v 4,AF Ad b 0 0,AF .str b 0 1,AF Ah b 0 2,AF Ae b 0 3,AF Ai b 0 4⟩,vd,λs r=> {s with r:=r.r,i:=r.i},λs=>s,λ_ s=>s,[.ret,.exit 6],aAn,YG,qt⟩
abbrev aG8:=Rg.run
abbrev aHq:=Rg.Aq
def awt:Rq YG vd:=by
 exact Sc
def aPT:Rg.Ok:={}
def aP2:Rg.Pf (aAQ):=⟨ai6,λs h=>rfl,aut,awt⟩
def aou:SA 0 aFQ Rg:=s1 aPT aP2 XF kN
def aox:Fi aAn YG aAQ aHq aG8:=AR.fin aPT aP2
def aH7:List LV->T LV
 | .agg a::r=>s5 a λcs os ks gs bs=>(match r with
  | []=> .req ((M cs:Int)<=1000/\(M os:Int)<=1000/\(M ks:Int)<=1000/\(M gs:Int)<=1000/\(M bs:Int)<=1000) (.ok<|Lz cs os ks gs bs)
  |_=> .no)
 |_=> .no
def av4:=vm (S:=aH7) func62 XF kN (L:=(λi=>if i=2 then Rj.lp else if i=9 then Ri.lp else if i=16 then Rh.lp else if i=22 then Rg.lp else Ag i)) (λb hb=>by
 rw [show BA _=[aEw,aEv,aEu,aFQ] by kernel_rfl] at hb
 simp only [B8,Bu,Bt] at hb;rcases hb with rfl|rfl|rfl|rfl
 ·exact aoW
 ·exact aoV
 ·exact aoU
 ·exact aou) (λargs lv h=>by
 unfold aH7 at h;split at h
 case h_2=>cases h
 replace h:=HX h
 obtain ⟨cs,os,ks,gs,bs,rfl,h⟩:=h;split at h
 ·refine Ap (letI g:=(M cs:Int);letI k:=(M ks:Int);letI l:=(M gs:Int);letI m:=(M bs:Int);letI c:=(acn (⟨X,cs,g,0,cs,os,ks,gs,bs⟩:MJ));letI a:=(aco (⟨c.r,ks,k,0,cs,os,ks,gs,bs,([]:List Int)⟩:MR));letI e:=(adI (⟨a.r,gs,l,0,cs,os,ks,gs,bs⟩:MS));.req (Rj.q (⟨X,cs,g,0,cs,os,ks,gs,bs⟩:MJ))<|.br (Bj (aHu (⟨X,cs,g,0,cs,os,ks,gs,bs⟩:MJ))<|.ret) (.ok c.r)<|.req (Ri.q (⟨c.r,ks,k,0,cs,os,ks,gs,bs,([]:List Int)⟩:MR))<|.br (Bj (aHs (⟨c.r,ks,k,0,cs,os,ks,gs,bs,([]:List Int)⟩:MR))<|.ret) (.ok a.r)<|.req (Rh.q (⟨a.r,gs,l,0,cs,os,ks,gs,bs⟩:MS))<|.br (Bj (aHr (⟨a.r,gs,l,0,cs,os,ks,gs,bs⟩:MS))<|.ret) (.ok e.r)<|.req (Rg.q (⟨e.r,bs,m,0,cs,os,ks,gs,bs⟩:Mc))<|.br (Bj (aHq (⟨e.r,bs,m,0,cs,os,ks,gs,bs⟩:Mc))<|.ret) (.ok (aG8 (⟨e.r,bs,m,0,cs,os,ks,gs,bs⟩:Mc)).r)<|.ok U) ?_
  obtain ⟨⟨hc,ho,hk,hg,hb⟩,rfl⟩:=h;refine LY ⟨⟨rfl,AZ,hc,rfl⟩,rfl,rfl⟩ λhE0=>?_
  obtain ⟨s',_,hq⟩:=ap0 _ hE0.1;rcases hq with ⟨q1,q2⟩ |⟨q1,q2,j,q3,q4⟩
  rotate_left
  ·rw [q1,q2]
   refine ⟨λ_=>B1 (λz=>LV.v<|.bool z) ?_,λh=>An⟩
   unfold Lz;rw [Oq (f:=λj=>Hi j<|Al cs j) j q3 q4]
   rfl
  rw [q1];refine ⟨λh=>An,λ_=>?_⟩
  have g0:D9 (M cs) (λj=>Hi j<|Al cs j)=true:=Di.2 q2
  refine LY ⟨⟨rfl,rfl,rfl,hk,ho⟩,rfl,rfl⟩ λhE1=>?_
  obtain ⟨s',_,hq⟩:=aoz _ hE1.1;rcases hq with ⟨q1,q2⟩ |⟨q1,q2,j,q3,q4⟩
  rotate_left
  ·rw [q1,q2]
   refine ⟨λ_=>B1 (λz=>LV.v<|.bool z) ?_,λh=>An⟩
   unfold Lz
   have hn:(ks.all (koV<|M os)&&once (ks.map (·.2.2.2)))=false:=by
    rw [Hw];intro hx
    have:=(Vv (d:=(emp,0,0,0))).2 hx j q3
    exact Bool.noConfusion<|this.symm.trans q4
   rw [g0,E9,<-V4,hn];rfl
  rw [q1];refine ⟨λh=>An,λ_=>?_⟩
  have g1:(ks.all (koV<|M os)&&once (ks.map (·.2.2.2)))=true:=(Vv (d:=(emp,0,0,0))).1 q2
  refine LY ⟨⟨rfl,AZ,hg,rfl,hc,ho⟩,rfl,rfl⟩ λhE2=>?_
  obtain ⟨s',_,hq⟩:=aoy _ hE2.1;rcases hq with ⟨q1,q2⟩ |⟨q1,q2,j,q3,q4⟩
  rotate_left
  ·rw [q1,q2]
   refine ⟨λ_=>B1 (λz=>LV.v<|.bool z) ?_,λh=>An⟩
   unfold Lz
   have hn:gs.all (G3 (M cs)<|M os)=false:=by
    rw [Hw];intro hx
    have:=(QK (d:=(emp,0,0,0,0,0,0,0))).2 hx j q3
    exact Bool.noConfusion<|this.symm.trans q4
   rw [g0,E9,<-V4,g1,hn];rfl
  rw [q1];refine ⟨λh=>An,λ_=>?_⟩
  have g2:gs.all (G3 (M cs)<|M os)=true:=(QK (d:=(emp,0,0,0,0,0,0,0))).1 q2
  have hw:=AI (x:=(M gs:Int)-1)
  refine LY ⟨⟨rfl,AJ,hb,rfl⟩,rfl,rfl⟩ λhE3=>?_
  obtain ⟨s',_,hq⟩:=aox _ hE3.1;rcases hq with ⟨q1,q2⟩ |⟨q1,q2,j,q3,q4⟩
  rotate_left
  ·rw [q1,q2]
   refine ⟨λ_=>B1 (λz=>LV.v<|.bool z) ?_,λh=>An⟩
   unfold Lz
   have hn:bs.all (λb=>inB b.2 0<|(M gs:Int)-1)=false:=by
    rw [Hw];intro hx
    have:=(QK (d:=(emp,0))).2 hx j q3
    have q4:inB (OI bs j).2 0 (AA<|(M gs:Int)-1)=false:=q4
    rw [hw] at q4;exact Bool.noConfusion<|this.symm.trans q4
   rw [g0,E9,<-V4,g1,g2,hn];rfl
  rw [q1];refine ⟨λh=>An,λ_=>?_⟩
  have g3:bs.all (λb=>inB b.2 0<|(M gs:Int)-1)=true:=(QK (d:=(emp,0))).1 (λj hj=>by
   have:inB (OI bs j).2 0 (AA<|(M gs:Int)-1)=true:=q2 j hj
   rw [hw] at this;exact this)
  refine B1 (λz=>LV.v<|.bool z) ?_
  unfold Lz;rw [g0,E9,<-V4,g1,g2,g3];rfl
 ·cases h)
structure Lp where
 r:Bool
 l:List ByteArray
 (n i:Int)
 B9:List Cd
 BV:List ByteArray
 Bz:List Ko
 B5:List Ch
 C0:List Ba
 seen:List ByteArray
def aHX:=bN f26 0
def lZ (s:Lp):T (Rd Lp):=letI a:=gS s.l s.i;.br (an<|s.i<s.n) (.ix s.i (M s.l)<|.br ((!(nameB a)) ||(List.contains s.seen a)) (.so (.ret) {s with r:=X})<|.req (List.contains s.seen a=X)<|.nx {s with i:=AA<|s.i+1,seen:=s.seen++[a]})<|.so (.exit 0) s
def SD (s:Lp) (j:Int):Bool:=nameB (gS s.l j)&&!(((s.l.take j.toNat).map id).contains<|gS s.l j)
def wX (s:Lp):Prop:=s.i=0/\s.seen=[]/\s.n=(M s.l:Int)/\s.n<=1000/\True
def bJ (s:Lp):Prop:=0<=s.i/\s.i<=s.n/\s.n=(M s.l:Int)/\s.n<=1000/\(True)/\s.seen=(s.l.take s.i.toNat).map id/\∀j:Nat,(j:Int)<s.i->SD s j=U
def zb (s:Lp):Nat:=(s.n-s.i).toNat
def wN (x:Ex) (s s':Lp):Prop:=(x=.exit 0/\∀j:Nat,(j:Int)<s'.n->SD s' j=U)\/(x=.ret/\s'.r=X/\∃j:Nat,(j:Int)<s'.n/\SD s' j=X)
def amG:∀s,wX s->bJ s:=by
 exact aLw
theorem ajB:Da bJ zb wN lZ:=by
 intro s hI;unfold lZ;obtain ⟨h0,h1,h2,h3,h4,h5,h6⟩:=hI;refine AH (λc1=>AH (λc2=>?_) λc2=>?_) λc1=>?_
 ·have c1:s.i<s.n:=AX
  refine .inr ⟨rfl,rfl,s.i.toNat,AZ,?_⟩;rw [CR h0]
  have hg:SD s s.i=false:=by
   unfold SD
   grind
  exact hg
 ·have c1:s.i<s.n:=AX
  have hg:SD s s.i=true:=by
   unfold SD
   grind
  rw [AI (x:=s.i+1)];refine ⟨⟨AZ,AZ,h2,h3,h4,?_,λj hj=>?_⟩,by simp only [zb];omega⟩
  ·simp only
   rw [(aGW h0 (show s.i<M s.l by omega)).2,h5]
   try rw [Jw]
   try rfl
  ·exact aMC
 ·exact aLY
def SG:AR Lp:=⟨0,61,[1,2,3,42,43,44],[],λs=>[.own 0 0,s.r,.om 1,s.l,s.n,s.i],λs=>[⟨[s.B9,s.BV,s.Bz,s.B5,s.C0],28,.cl,X⟩,⟨[],138,.st .str s.seen,X⟩],λv b=>⟨E4 v 1,B4 .str v 3,AK v 4,AK v 5,AF Ad b 0 0,AF .str b 0 1,AF Ah b 0 2,AF Ae b 0 3,AF Ai b 0 4,gSe .str<|CU b 1⟩,lZ,λs r=> {s with r:=r.r,i:=r.i,seen:=r.seen},λs=>s,λ_ s=>s,[.ret,.exit 0],wX,bJ,zb⟩
abbrev aOF:=SG.run
abbrev aRl:=SG.Aq
def aiS:Rq bJ lZ:=by
 intro s hI;refine ⟨λc1=>⟨?_,λ_=>trivial,λc2=>⟨?_,ak⟩⟩,λ_=>trivial⟩
 all_goals ((obtain ⟨h0,h1,h2,h3,h4,h5,h6⟩:=hI;first|(simp at c1;omega) |(simp only [GF] at c2;exact c2.2)))
def abN:List Bd:=[avD,auQ,av4]
def aac:SG.Ok:={}
def ab5:SG.Pf (wN):=⟨amG,λs h=>rfl,ajB,aiS⟩
def avd:SA 0 aHX SG:=s1 aac ab5 abN kN
def avy:Fi wX bJ wN aRl aOF:=AR.fin aac ab5
def aHD:List LV->T LV
 | .agg a::r=>s5 a λcs os ks gs bs=>(match r with
  | []=> .ok (BI cs os ks gs bs)
  |_=> .no)
 |_=> .no
def Oy:=vm (S:=aHD) func26 abN kN (L:=(λi=>if i=5 then SG.lp else Ag i)) (λb hb=>by
 rw [show BA _=[aHX] by kernel_rfl] at hb
 simp only [B8,Bu,Bt] at hb;subst hb;exact avd) (λargs lv h=>by
 unfold aHD at h;split at h
 case h_2=>cases h
 replace h:=HX h
 obtain ⟨cs,os,ks,gs,bs,rfl,h⟩:=h;split at h
 ·refine Ap (letI b:=LG cs os ks gs bs;letI e:=(M b:Int);letI f:=(M cs:Int);letI a:=(f<=1000/\(M os:Int)<=1000/\(M ks:Int)<=1000/\(M gs:Int)<=1000/\(M bs:Int)<=1000);.br ((an<|f<1) ||((an<|f>16) ||((an<|(M os:Int)>8) ||((an<|(M ks:Int)>32) ||((an<|(M gs:Int)>16) ||(an<|(M bs:Int)>24)))))) (.ok X)<|.req a<|.req (SG.q (⟨X,b,e,0,cs,os,ks,gs,bs,([]:List ByteArray)⟩:Lp))<|.br (Bj (aRl (⟨X,b,e,0,cs,os,ks,gs,bs,([]:List ByteArray)⟩:Lp))<|.ret) (.ok (aOF (⟨X,b,e,0,cs,os,ks,gs,bs,([]:List ByteArray)⟩:Lp)).r)<|.req a<|.ok<|Lz cs os ks gs bs) ?_
  obtain rfl:=h;refine ⟨λc=>B1 (λz=>LV.v<|.bool z) ?_,λc=>?_⟩
  ·rw [Sf,Hw]
   intro hx;unfold BI at hx;rw [AY,Ac] at hx;simp only [Cl,Ac] at c;omega
  have hd:1<=M cs/\M cs<=16/\M os<=8/\M ks<=32/\M gs<=16/\M bs<=24:=by
   simp only [GF,Cv] at c;omega
  have hs:BI cs os ks gs bs=(((LG cs os ks gs bs).all nameB&&once (LG cs os ks gs bs))&&Lz cs os ks gs bs):=by
   unfold BI
   grind
  have hl:(M (LG cs os ks gs bs):Int)<=1000:=by
   unfold LG;simp only [BD,Ft];omega
  rw [hs]
  have hr:(M cs:Int)<=1000/\(M os:Int)<=1000/\(M ks:Int)<=1000/\(M gs:Int)<=1000/\(M bs:Int)<=1000:=A0
  refine ⟨hr,?_⟩;generalize LG cs os ks gs bs=l at*;refine LY ⟨⟨rfl,rfl,rfl,hl,ak⟩,rfl,rfl⟩ λhE=>?_
  obtain ⟨s',_,hq⟩:=avy _ hE.1;rcases hq with ⟨q1,q2⟩ |⟨q1,q2,j,q3,q4⟩
  ·rw [q1]
   have hk:=(Vv (d:=emp) (p:=nameB) (k:=id)).1 q2
   rw [Uz] at hk;refine ⟨λh=>An,λ_=>⟨hr,?_⟩⟩
   rw [hk,E9];rfl
  ·rw [q1,q2]
   refine ⟨λ_=>B1 (λz=>LV.v<|.bool z) ?_,λh=>An⟩
   have hn:(l.all nameB&&once l)=false:=by
    rw [Hw];intro hx
    have:=(Vv (d:=emp) (p:=nameB) (k:=id)).2 (by rw [Uz];exact hx) j q3
    exact Bool.noConfusion<|this.symm.trans q4
   rw [hn];rfl
 ·cases h)
def aJL:List LV->T LV
 | .agg a::r=>s5 a λcs os ks gs bs=>(match r with
  | [.v (Y J c)]=> .ok (.fn 168 [xQ 1 [c],xQ 5 [cs,os,ks,gs,bs]])
  |_=> .no)
 |_=> .no
def QZ:List Bd:=[]
def abh:Ax:=kI QZ<|l0 QZ
def dv:=vo (S:=aJL) func124 QZ abh (λargs lv h=>by
 unfold aJL at h;split at h
 case h_2=>cases h
 replace h:=HX h
 obtain ⟨cs,os,ks,gs,bs,rfl,h⟩:=h;split at h
 ·rename_i c
  refine Ap (.ok<|.fn 168 [(xQ 1 [c]),(xQ 5 [cs,os,ks,gs,bs])]) ?_;exact h
 ·cases h)
def yo:Array Tmp×Code×Code:=((Ii<|f214.body.getD .skip)[0]?).getD (#[],.skip,.skip)
def ajx:Array Tmp:=yo.1
def ajU:Code:=yo.2.1
def ajM:Code:=yo.2.2
structure Mg where
 cs:List Cd
 os:List ByteArray
 ks:List Ko
 gs:List Ch
 bs:List Ba
 (c b0:Int)
 b1:Bool
 st:LS
def gB (s:Mg):T (Rd Mg):=
 .br (an<|s.c>=0) (.br (s.c==s.b0) (.so (.ret) {s with b1:=U,st:=.done<|.ret})<|.ix s.c (M s.cs)<|.nx {s with c:=(Al s.cs s.c).2.1}) (.so (.exit 0) s)
def aAu (s:Mg):Prop:=s.st=.ready/\Fq s.cs=U/\s.c<(M s.cs:Int)/\s.b1=X
def j8 (s:Mg):Prop:=s.st=.ready/\Fq s.cs=U/\s.c<(M s.cs:Int)
def tM (s:Mg):Nat:=(s.c+1).toNat
def acZ (x:Ex) (s s':Mg):Prop:=(x=.ret/\s'.b1=U/\HA s.cs s.b0 s.c=U)\/(x=.exit 0/\HA s.cs s.b0 s.c=X)
def ajY:∀s,aAu s->j8 s:=by
 rintro s ⟨h0,h1,h2,h3⟩
 exact ⟨h0,h1,h2⟩
theorem aO7:Da j8 tM acZ gB:=by
 intro s hI;obtain ⟨h0,h1,h2⟩:=hI
 have hp:=aPS (o:=s.b0) h1 h2
 refine AH (λc1=>AH (λc2=>?_) λc2=>?_) λc1=>?_
 ·have c1:0<=s.c:=A8
  exact .inl ⟨rfl,rfl,A8⟩
 ·have c1:0<=s.c:=A8
  have:=QW h1 c1 h2
  exact ⟨⟨h0,h1,A8⟩,by simp only [tM];omega⟩
 ·have c1:¬(0<=s.c):=A8
  exact .inr ⟨rfl,A8⟩
def Yu:AR Mg:=⟨3,18,[0,2,4],[],λs=>[.CO 2,xQ 5 [s.cs,s.os,s.ks,s.gs,s.bs],s.c],λs=>[⟨[s.b0],3,.cl,X⟩,⟨[s.b1],4,.cl,X⟩,⟨[.junk,.junk,.junk,.own 0 0,.own 1 0,.v<|.tuple #[],.junk,.v<|.tuple #[],.v<|.tuple #[],.v<|.tuple #[],.v<|.tuple #[]],0,.Cg ajx ajU ajM s.st,X⟩],λv b=>⟨Ao Ad<|BT (v.getD 1 .junk) 0,Ao .str<|BT (v.getD 1 .junk) 1,Ao Ah<|BT (v.getD 1 .junk) 2,Ao Ae<|BT (v.getD 1 .junk) 3,Ao Ai<|BT (v.getD 1 .junk) 4,AK v 2,Aj b 0 0,Kn b 1 0,.ready⟩,gB,λs r=> {r with cs:=s.cs,os:=s.os,ks:=s.ks,gs:=s.gs,bs:=s.bs,b0:=s.b0},λs=> {s with st:=.ready},λx s=> {s with st:=(match x with| .ret=>(.done<|.ret) | .exit 0=> .ready|_=> .ready)},[.ret,.exit 0],aAu,j8,tM⟩
abbrev pW:=Yu.run
abbrev qU:=Yu.Aq
def awQ:Rq j8 gB:=by
 intro s hI;refine ⟨λc1=>⟨λ_=>trivial,λc2=>⟨?_,ak⟩⟩,λ_=>trivial⟩
 ·(obtain ⟨h0,h1,h2⟩:=hI;simp at c1 h2;exact ⟨c1,h2⟩)
def rR:Yu.Ok:={}
def sC:Yu.Pf (acZ):=⟨ajY,λs h=>by
 obtain ⟨cs,os,ks,gs,bs,c,b0,b1,st⟩:=s
 have e:=h.1
 subst e;rfl,aO7,awQ⟩
def aq0:=s2 (b:=bN f168 0) rR sC QZ abh
theorem axU (s:Mg) (hE:aAu s):(qU s=.ret/\(pW s).b1=U/\HA s.cs s.b0 s.c=U)\/(qU s=.exit 0/\HA s.cs s.b0 s.c=X):=by
 have hk:=AR.KJ rR sC (λs=>HA s.cs s.b0 s.c) (λs hI=>by
  obtain ⟨h0,h1,h2⟩:=hI
  have hp:=aPS (o:=s.b0) h1 h2
  refine AH (λc1=>AH (λc2=>rfl) λc2=>?_) λc1=>rfl
  have c1:0<=s.c:=A8
  show HA _ _ _=HA _ _ _
  rw [hp,AD c1,c2,Cu]) s hE
 have hk:HA s.cs s.b0 (pW s).c=HA s.cs s.b0 s.c:=hk
 obtain ⟨s',hI,hf⟩:=AR.end_ rR sC s hE
 have hq:=cD (aO7 s' hI) hf
 have hc:=cD (Pn:=λ_=>True) (Ps:=λ_ r=>r.cs=s'.cs/\r.b0=s'.b0/\r.c=s'.c) (r:=(gB s').rd s') (by
   exact AH (λ_=>AH (λ_=>⟨rfl,rfl,rfl⟩) λ_=>trivial) λ_=>⟨rfl,rfl,rfl⟩) hf
 obtain ⟨hc1,hc3,hc2⟩:=hc
 have e1:s.cs=s'.cs:=hc1
 have e2:s.b0=s'.b0:=hc3
 rwa [<-hk,hc2,e1,e2]
def aSW:List LV->T LV
 | [.fn 168 [.xq 1 q0,.xq 5 q1],.v (Y J o)]=>(match ([q0 0]:List LV) with
  | [.v (Y J c)]=>(match ([q1 0,q1 1,q1 2,q1 3,q1 4]:List LV) with
  | [.xl (.pair .str (.pair (.int J) (.pair (.int J) (.pair (.int J) (.pair (.pair (.int J) (.int J)) (.pair (.int J) (.pair (.int J) (.pair (.int J) (.pair (.int J) (.int J)))))))))) cs,.xl (.str) os,.xl (.pair .str (.pair (.int J) (.pair (.int J) (.int J)))) ks,.xl (.pair .str (.pair (.int J) (.pair (.int J) (.pair (.int J) (.pair (.int J) (.pair (.int J) (.pair (.int J) (.int J)))))))) gs,.xl (.pair .str (.int J)) bs]=> .req (Fq cs=U/\c<(M cs:Int)) (.ok<|HA cs o c)
  |_=> .no)
  |_=> .no)
 |_=> .no
def abg:Ax:=kI QZ<|la 1 func168 aq0<|l0 QZ
def ayP (c:Int) (cs:List Cd) (os:List ByteArray) (ks:List Ko) (gs:List Ch) (bs:List Ba) (o:Int):Bk prog AV QZ abg Ag f214 [.fn 168 [xQ 1 [c],xQ 5 [cs,os,ks,gs,bs]],o]=.req (Yu.q (⟨cs,os,ks,gs,bs,c,o,X,.ready⟩:Mg)) (.br (Bj (qU (⟨cs,os,ks,gs,bs,c,o,X,.ready⟩:Mg))<|.ret) (.ok (pW (⟨cs,os,ks,gs,bs,c,o,X,.ready⟩:Mg)).b1)<|.ok X):=AT
def aiu:=vo (S:=aSW) func214 QZ abg (λargs lv h=>by
 refine ⟨?_⟩;unfold aSW at h;split at h
 ·split at h
  case h_2=>cases h
  rename_i heq0;split at h
  case h_2=>cases h
  rename_i heq1;simp only [canL,canX];rw [Dn (n:=1) heq0];rw [Dn (n:=5) heq1];simp only [canL,canX];rw [ayP];obtain ⟨⟨hu,hc⟩,rfl⟩:=h;refine LY ⟨⟨rfl,hu,hc,rfl⟩,rfl,rfl⟩ λhE=>?_
  rcases axU _ hE.1 with ⟨h1,h2,h3⟩ |⟨h1,h2⟩
  ·rw [h1,h2]
   exact ⟨λ_=>B1 (λz=>LV.v<|.bool z) h3.symm,λh=>An⟩
  ·rw [h1]
   exact ⟨λh=>An,λ_=>B1 (λz=>LV.v<|.bool z) h2.symm⟩
 ·cases h)
structure O6 where
 l:List Ch
 (n i:Int)
 Be:List Cd
 GI:List ByteArray
 GG:List Ko
 GK:List Ch
 GN:List Ba
 b1:Int
 out:List Int
def aHi:=bN f176 0
def lr (s:O6):T (Rd O6):=
 .br (an<|s.i<s.n) (.ix s.i (M s.l)<|.req (Fq s.Be=U/\(AG s.l s.i).2.1<(M s.Be:Int))<|.br (HA s.Be s.b1 (AG s.l s.i).2.1) (.rb (M s.out) (M<|[s.i]) 8<|.re (M s.out+M ([s.i])) (s.out++([s.i]))<|.nx {s with i:=AA<|s.i+1,out:=s.out++([s.i])})<|.rl s.out<|.nx {s with i:=AA<|s.i+1}) (.rl s.out<|.so (.exit 0) s)
def mf (s:O6):Prop:=s.i=0/\s.out=[]/\s.n=(M s.l:Int)/\s.n<=1000/\Fq s.Be=U/\atB s.Be s.l=U
def bE (s:O6):Prop:=(0<=s.i/\s.i<=s.n)/\s.out=Gw s.Be s.l s.b1 s.i.toNat/\s.n=(M s.l:Int)/\s.n<=1000/\Fq s.Be=U/\atB s.Be s.l=U
def gQ (s:O6):Nat:=(s.n-s.i).toNat
def wV (x:Ex) (s s':O6):Prop:=x=.exit 0/\s'.out=Gw s'.Be s'.l s'.b1 (M s'.l)
def amw:∀s,mf s->bE s:=by
 rintro s ⟨h0,h1,h2,h3,h4,h5⟩
 exact ⟨⟨A0,A0⟩,yi,h2,h3,h4,h5⟩
theorem amO:Da bE gQ wV lr:=by
 intro s hI;unfold lr;obtain ⟨⟨h0,h1⟩,h2,h3,h4,h5,h6⟩:=hI;refine AH (λc1=>?_) λc1=>?_
 ·have c1:s.i<s.n:=AX
  have hs:=afw (cs:=s.Be) (gs:=s.l) (o:=s.b1) (k:=s.i.toNat)
  rw [AI (x:=s.i+1)];refine AH (λc2=>?_) λc2=>?_
  ·refine ⟨⟨⟨AZ,AZ⟩,?_,h3,h4,h5,h6⟩,by simp only [gQ];omega⟩
   simp only
   grind
  ·refine ⟨⟨⟨A8,A8⟩,?_,h3,h4,h5,h6⟩,by simp only [gQ];omega⟩
   simp only
   grind
 ·have c1:s.n<=s.i:=AX
  exact ⟨rfl,A8⟩
def S7:AR O6:=⟨0,42,[6,7,26,27,28],[.nl 7 3 A7],λs=>[.fn 213 [.own 0 0,.own 1 0],.os 2 1 0<|M s.out,s.l,s.n,s.i],λs=>[⟨[s.Be,s.GI,s.GG,s.GK,s.GN],28,.cl,X⟩,⟨[s.b1],3,.cl,X⟩,bV 3 A7 s.out],λv b=>⟨B4 Ae v 2,AK v 3,AK v 4,AF Ad b 0 0,AF .str b 0 1,AF Ah b 0 2,AF Ae b 0 3,AF Ai b 0 4,Aj b 1 0,Ab A7 b 2⟩,lr,λs r=> {s with i:=r.i,out:=r.out},λs=>s,λ_ s=>s,[.exit 0],mf,bE,gQ⟩
abbrev pB:=S7.run
abbrev agN:=S7.Aq
def ajr:Rq bE lr:=by
 intro s hI;refine ⟨λc1=>⟨?_,?_,λc2=>⟨?_,?_,ak⟩,λc2=>⟨A9,ak⟩⟩,λc1=>⟨A9,ak⟩⟩
 all_goals ((obtain ⟨⟨h0,h1⟩,h2,h3,h4,h5,h6⟩:=hI;have hol:M s.out<=s.i.toNat:=(by rw [h2];exact pN);(try simp only [Ac] at c1);first|omega|exact ⟨h5,uh h6 h0 A0⟩ |(refine ⟨A0,?_,?_⟩<;>simp only [Bi,Bp]<;>omega) |exact ⟨rfl,AJ⟩ |exact ⟨rfl,rfl⟩))
def gO:List Bd:=[Oy,dv,aiu]
def abf:Ax:=kI gO<|l0 gO
def aam:S7.Ok:={}
def aaW:S7.Pf (wV):=⟨amw,λs h=>rfl,amO,ajr⟩
def avI:SA 0 aHi S7:=s1 aam aaW gO abf
def ahA:Fi mf bE wV agN pB:=AR.fin aam aaW
def aFf:List LV->T LV
 | .agg a::r=>s5 a λcs os ks gs bs=>(match r with
  | [.v (Y J o)]=> .ok (.AM [.xl A7<|Q3 cs os ks gs bs o,wK cs os ks gs bs o])
  |_=> .no)
 |_=> .no
def aof:=vm (S:=aFf) func176 gO abf (L:=(λi=>if i=6 then S7.lp else Ag i)) (λb hb=>by
 rw [show BA _=[aHi] by kernel_rfl] at hb
 simp only [B8,Bu,Bt] at hb;subst hb;exact avI) (λargs lv h=>by
 unfold aFf at h;split at h
 case h_2=>cases h
 replace h:=HX h
 obtain ⟨cs,os,ks,gs,bs,rfl,h⟩:=h;split at h
 ·rename_i o
  refine Ap (letI a:=(pB (⟨gs,(M gs:Int),0,cs,os,ks,gs,bs,o,([]:List Int)⟩:O6));.br ((!(BI cs os ks gs bs)) ||((an<|o<0) ||(an<|o>=(M cs:Int)))) (.ok<|.AM [.xl A7 ([]:List Int),(1:Int)])<|.r0 Int<|.req (S7.q (⟨gs,(M gs:Int),0,cs,os,ks,gs,bs,o,([]:List Int)⟩:O6))<|.rz a.out<|.ok<|.AM [.xl A7<|(a.out.drop 0).take<|M a.out,(0:Int)]) ?_;obtain rfl:=h;refine ⟨λc=>?_,λc=>?_⟩
  ·have hn:¬(BI cs os ks gs bs=U/\0<=o/\o<(M cs:Int)):=by
    rintro ⟨h1,h2,h3⟩
    rw [h1] at c
    simp at c
    omega
   show LV.AM _=_
   unfold Q3 wK
   grind
  ·simp only [GF,Hv,Cv] at c
   have hl:=(DD.1 c.1).1
   have hE:mf ⟨gs,(M gs:Int),0,cs,os,ks,gs,bs,o,([]:List Int)⟩:=⟨rfl,rfl,rfl,AZ,oz c.1,p7 c.1⟩
   obtain ⟨s',_,q1,q2⟩:=ahA _ hE
   have q2:(pB ⟨gs,(M gs:Int),0,cs,os,ks,gs,bs,o,([]:List Int)⟩).out=Gw cs gs o (M gs):=q2
   refine ⟨A9,⟨hE,rfl,rfl⟩,A0,?_⟩
   show LV.AM [LV.xl _ _,_]=_
   unfold Q3 wK
   grind
 ·cases h)
def aJ5:List LV->T LV
 | [.v (.agg ⟨[Y J am,Y J mo,Y J ga,Y J lo,Y J de]⟩)]=> .ok (IL (am,mo,ga,lo,de))
 |_=> .no
def R6:List Bd:=[]
def hnd20:Ax:=kI R6<|l0 R6
def auc:=vo (S:=aJ5) func169 R6 hnd20 (λargs lv h=>by
 unfold aJ5 at h;split at h
 ·rename_i am mo ga lo de
  refine Ap (.br ((am==0)&&((mo==0)&&((ga==0)&&((lo==0)&&(de==0))))) (.ok U)<|.br ((an<|am>=0)&&(an<|am<=200000)) (.br (an<|mo>am) (.br (an<|mo<=200000) (.br ((an<|ga>=0)&&(an<|ga<=1000)) (.br ((an<|lo>=0)&&(an<|lo<=1000)) (.ok<|.v<|.bool<|(an<|de>=1)&&(an<|de<=1000000))<|.ok X)<|.ok X)<|.ok X)<|.ok X)<|.ok X) ?_;obtain rfl:=h;unfold IL cbZ;refine ⟨λc=>by rw [c];rfl,λc=>?_⟩
  unfold inB;refine ⟨λc1=>⟨λc2=>⟨λc3=>⟨λc4=>⟨λc5=>?_,λc5=>?_⟩,λc4=>?_⟩,λc3=>?_⟩,λc2=>?_⟩,λc1=>?_⟩
  all_goals refine B1 (λz=>LV.v<|.bool z) ?_
  all_goals
   grind
 ·cases h)
def aH3:List LV->T LV
 | [.xq 6 q0]=>(match ([q0 0,q0 1,q0 2,q0 3,q0 4,q0 5]:List LV) with
  | [.v (Y J am),.v (Y J mo),.v (Y J ga),.v (Y J lo),.v (Y J de),.v (Y J now)]=> .ok (.v<|Y J (if de<lo then de else lo))
  |_=> .no)
 |_=> .no
def aqM (am mo ga lo de now:Int):Bk prog AV (R6) kN Ag f171 [xQ 6 [am,mo,ga,lo,de,now]]=.ok (.v<|Y J (if de<lo then de else lo)):=AT
def av2:=vo (S:=aH3) func171 R6 kN (λargs lv h=>by
 refine ⟨?_⟩;unfold aH3 at h;split at h
 ·split at h
  case h_2=>cases h
  rename_i heq0;simp only [canL,canX];rw [Dn (n:=6) heq0];simp only [canL,canX]
  rwa [aqM]
 ·cases h)
def aH2:List LV->T LV
 | [.xq 6 q0]=>(match ([q0 0,q0 1,q0 2,q0 3,q0 4,q0 5]:List LV) with
  | [.v (Y J am),.v (Y J mo),.v (Y J ga),.v (Y J lo),.v (Y J de),.v (Y J now)]=> .ok (cbZ (am,mo,ga,lo,de))
  |_=> .no)
 |_=> .no
def aqL (am mo ga lo de now:Int):Bk prog AV (R6) kN Ag f170 [xQ 6 [am,mo,ga,lo,de,now]]=.ok (.v<|.bool<|(am==0)&&((mo==0)&&((ga==0)&&((lo==0)&&(de==0))))):=AT
def av1:=vo (S:=aH2) func170 R6 kN (λargs lv h=>by
 refine ⟨?_⟩;unfold aH2 at h;split at h
 ·split at h
  case h_2=>cases h
  rename_i heq0;simp only [canL,canX];rw [Dn (n:=6) heq0];simp only [canL,canX]
  rwa [aqL]
 ·cases h)
structure OG where
 (low high afJ ati atm atj ahF ao1 b11 b12 b13 b14 ahE b3:Int)
def lq (s:OG):T (Rd OG):=letI a:=AA<|s.low+(AA<|(AA<|(AA<|s.high-s.low)+1).tdiv 2);.br (an<|s.low<s.high) (.req ((2:Int)≠0)<|.br (an<|(AA<|(AA<|s.b12*a)*a)<=s.b3) (.nx {s with low:=a})<|.nx {s with high:=AA<|a-1})<|.so (.exit 0) s
def wY (s:OG):Prop:=s.low=0/\s.high=1000/\(0<=s.b12/\s.b12<=1000)/\0<=s.b3
def bB (s:OG):Prop:=(0<=s.low/\s.low<=s.high/\s.high<=1000)/\s.b12*s.low*s.low<=s.b3/\(∀a:Int,s.high<a->a<=1000->¬s.b12*a*a<=s.b3)/\(0<=s.b12/\s.b12<=1000)/\0<=s.b3
def gP (s:OG):Nat:=(s.high-s.low).toNat
def wU (x:Ex) (s s':OG):Prop:=x=.exit 0/\s'.low=prm s'.b12 s'.b3
theorem aml:∀s,wY s->bB s:=by
 rintro s ⟨h0,h1,h2,h3⟩
 exact ⟨A0,A8,λa h h2=>A0,h2,h3⟩
theorem alU:Da bB gP wU lq:=by
 intro s hI;unfold lq;obtain ⟨⟨h0,h1,h2⟩,h3,h4,⟨h5,h6⟩,h7⟩:=hI
 have em:s.low<s.high->AA (s.low+AA ((AA<|AA (s.high-s.low)+1).tdiv 2))=s.low+(s.high-s.low+1) / 2:=λc=>by
  rw [AI (x:=s.high-s.low),AI (x:=s.high-s.low+1),Hy A0,AI (x:=(s.high-s.low+1) / 2),AI]
 refine AH (λc1=>?_) λc1=>?_
 ·have c1:s.low<s.high:=AX
  rw [em c1]
  have hm1:s.low<s.low+(s.high-s.low+1) / 2:=A0
  have hm2:s.low+(s.high-s.low+1) / 2<=s.high:=A0
  generalize s.low+(s.high-s.low+1) / 2=m at hm1 hm2|-;obtain ⟨⟨b1,b2⟩,b3,b4⟩:=aiZ h5 h6 (m:=m) A0 A0;rw [AI (x:=s.b12*m),AI (x:=s.b12*m*m),AI (x:=m-1)];refine AH (λc2=>?_) λc2=>?_
  ·have c2:s.b12*m*m<=s.b3:=EA
   exact ⟨⟨⟨AZ,AZ,h2⟩,c2,h4,⟨h5,h6⟩,h7⟩,by simp only [gP];omega⟩
  ·have c2:¬s.b12*m*m<=s.b3:=EA
   refine ⟨⟨⟨h0,AZ,AZ⟩,h3,λa ha hk=>?_,⟨h5,h6⟩,h7⟩,by simp only [gP];omega⟩
   have:=aor h5 (a:=m) (b:=a) A0 A8
   simp only;omega
 ·have c1:s.high<=s.low:=AX
  refine ⟨rfl,(aGw (k:=1000) h0 A0 (.inr h3) λa ha hk=>h4 a A0 A0).symm⟩
def bM:AR OG:=⟨4,25,[0,1,2],[],λs=>[s.low,s.high,.fn 173 [.own 2 0,.own 3 0]],λs=>[⟨[s.afJ,s.ati,s.atm,s.atj,s.ahF],71,.cl,X⟩,⟨[s.ao1,s.b11,s.b12,s.b13,s.b14,s.ahE],293,.cl,X⟩,⟨[.own 1 0],291,.cl,X⟩,⟨[s.b3],3,.cl,X⟩],λv b=>⟨AK v 0,AK v 1,Aj b 0 0,Aj b 0 1,Aj b 0 2,Aj b 0 3,Aj b 0 4,Aj b 1 0,Aj b 1 1,Aj b 1 2,Aj b 1 3,Aj b 1 4,Aj b 1 5,Aj b 3 0⟩,lq,λs r=> {s with low:=r.low,high:=r.high},λs=>s,λ_ s=>s,[.exit 0],wY,bB,gP⟩
abbrev aOG:=bM.run
abbrev agM:=bM.Aq
def U9:List Bd:=[auc,av1,av2]
def ak8:Ax:=kI U9<|l0 U9
def ajp:Rq bB lq:=by
 intro s hI;refine ⟨λc1=>⟨?_,λ_=>trivial,λ_=>trivial⟩,λ_=>trivial⟩
 ·omega
def aak:bM.Ok:={}
def aaU:bM.Pf (wU):=⟨aml,λs h=>rfl,alU,ajp⟩
def avG:=s2 (b:=bN f172 0) aak aaU U9 ak8
def azA:Fi wY bB wU agM aOG:=AR.fin aak aaU
def aJJ:List LV->T LV
 | [.v (.agg ⟨[Y J am,Y J mo,Y J ga,Y J lo,Y J de]⟩)]=> .tu #[Mz (am,mo,ga,lo,de),pmE (am,mo,ga,lo,de)]
 |_=> .no
def ak7:Ax:=kI U9<|la 1 func172 avG<|l0 U9
def avA:=vo (S:=aJJ) func127 U9 ak7 (λargs lv h=>by
 unfold aJJ at h;split at h
 ·rename_i am mo ga lo de
  refine Ap (letI a:=AA<|(if de<lo then de else lo)*(AA<|mo-am);.br (!(IL (am,mo,ga,lo,de))) (.tu #[(0:Int),(1:Int)])<|.br (cbZ (am,mo,ga,lo,de)) (.tu #[(1000:Int),(0:Int)])<|.req (bM.q (⟨0,1000,am,mo,ga,lo,de,am,mo,ga,lo,de,0,a⟩:OG))<|.tu #[(aOG (⟨0,1000,am,mo,ga,lo,de,am,mo,ga,lo,de,0,a⟩:OG)).low,(0:Int)]) ?_
  obtain rfl:=h;refine ⟨λc=>?_,λc=>⟨λc2=>?_,λc2=>?_⟩⟩
  ·have c:IL (am,mo,ga,lo,de)=false:=IT
   simp [T.all,Mz,pmE,c]
  ·have c:IL (am,mo,ga,lo,de)=true:=IT
   simp [T.all,Mz,pmE,c,c2]
  ·have c:IL (am,mo,ga,lo,de)=true:=IT
   obtain ⟨⟨h1,h2,h3⟩,⟨h4,h5⟩,⟨h6,h7⟩,h8,h9⟩:=ahq c c2;simp only at h1 h2 h3 h4 h5 h6 h7 h8 h9
   have hm:0<=(if de<lo then de else lo)/\(if de<lo then de else lo)<=1000:=by split<;>omega
   have e:Mz (am,mo,ga,lo,de)=prm ga ((if de<lo then de else lo)*(mo-am)):=by
    unfold Mz
    grind
   have e2:pmE (am,mo,ga,lo,de)=0:=by
    unfold pmE;rw [AD c]
   rw [e,e2,AI (x:=mo-am)];generalize (if de<lo then de else lo)=mn at hm|-
   have a1:0<=mn*(mo-am):=IS hm.1 A0
   have a2:mn*(mo-am)<=1000*(mo-am):=M0 hm.2 A0
   rw [AI (x:=mn*(mo-am))];refine LY ⟨⟨rfl,rfl,⟨h4,h5⟩,a1⟩,rfl,rfl⟩ λhE=>?_
   obtain ⟨s',_,q1,q2⟩:=azA _ hE.1;rw [q2];rfl
 ·cases h)
structure KP where
 first:Int
 l:List Int
 (n i:Int)
def aEp:=bN f128 0
def vP (s:KP):T (Rd KP):=
 .br (an<|s.i<s.n) (.ix s.i (M s.l)<|.nx {s with first:=(if (gi s.l s.i)<s.first then (gi s.l s.i) else s.first),i:=AA<|s.i+1}) (.so (.exit 0) s)
def iu (s:KP):Prop:=s.i=0/\s.n=(M s.l:Int)/\s.n<=1000
def Xx (s:KP):Prop:=0<=s.i/\s.i<=s.n/\s.n=(M s.l:Int)/\s.n<=1000
def sO (s:KP):Nat:=(s.n-s.i).toNat
def aAB (x:Ex) (s s':KP):Prop:=x=.exit 0/\s'.i=s'.n
def akc:∀s,iu s->Xx s:=by
 exact kc
theorem ayA:Da Xx sO aAB vP:=by
 intro s hI;obtain ⟨h0,h1,h2,h3⟩:=hI;refine AH (λc1=>?_) λc1=>?_
 ·have c1:s.i<s.n:=A8
  rw [AI (x:=s.i+1)];exact ⟨⟨A8,A8,h2,h3⟩,by simp only [sO];omega⟩
 ·exact Sb
def RH:AR KP:=⟨0,18,[0,7,8,9],[],λs=>[s.first,.xl A7 s.l,s.n,s.i],λ_=>[],λv b=>⟨AK v 0,B4 A7 v 1,AK v 2,AK v 3⟩,vP,λs r=> {r with l:=s.l,n:=s.n},λs=>s,λ_ s=>s,[.exit 0],iu,Xx,sO⟩
abbrev cV:=RH.run
abbrev atF:=RH.Aq
def awE:Rq Xx vP:=by
 intro s hI;refine ⟨λc1=>⟨?_,ak⟩,λ_=>trivial⟩
 ·(obtain ⟨h0,h1,h2,h3⟩:=hI;simp at c1;omega)
def gN:List Bd:=[]
def rk:RH.Ok:={}
def rK:RH.Pf (aAB):=⟨akc,λs h=>rfl,ayA,awE⟩
def apV:SA 0 aEp RH:=s1 rk rK gN kN
def arF:Fi iu Xx aAB atF cV:=AR.fin rk rK
theorem anT (s:KP) (hE:iu s):(λs:KP=>Jt s.first<|s.l.drop s.i.toNat) (cV s)=(λs:KP=>Jt s.first<|s.l.drop s.i.toNat) s:=by
 exact AR.KJ rk rK (λs:KP=>Jt s.first<|s.l.drop s.i.toNat) (λs hI=>by
  obtain ⟨h0,h1,h2,h3⟩:=hI;refine AH (λc1=>?_) λc1=>rfl
  have c1:s.i<s.n:=A8
  rw [AI (x:=s.i+1)];rw [(gi_step h0 (show s.i<M s.l by omega)).1]
  rfl) s hE
def aJX:List LV->T LV
 | [.v (Y J f),.xl (.int J) l]=> .req ((M l:Int)<=1000) (.ok<|Jt f l)
 |_=> .no
def auO:=vm (S:=aJX) func128 gN kN (L:=(λi=>if i=2 then RH.lp else Ag i)) (λb hb=>by
 rw [show BA _=[aEp] by kernel_rfl] at hb
 simp only [B8,Bu,Bt] at hb;subst hb;exact apV) (λargs lv h=>by
 unfold aJX at h;split at h
 ·rename_i f l
  refine Ap (.req (RH.q (⟨f,l,(M l:Int),0⟩:KP))<|.ok (cV (⟨f,l,(M l:Int),0⟩:KP)).first) ?_;obtain ⟨hl,rfl⟩:=h;refine LY ⟨⟨rfl,rfl,hl⟩,rfl,rfl⟩ λhE=>?_
  obtain ⟨s',_,q1,q2⟩:=arF _ hE.1
  have q3:=anT _ hE.1
  simp only at q3;rw [q2] at q3
  have e:(cV ⟨f,l,(M l:Int),0⟩).n=(M l:Int):=rfl
  have e2:(cV ⟨f,l,(M l:Int),0⟩).l=l:=rfl
  rw [e,e2,Ef A0] at q3;exact B1 (λz=>LV.v<|Y J z) q3
 ·cases h)
def aJT:List LV->T LV
 | [.v (.agg ⟨[.string nm,Y J Ks,Y J li,Y J ne,Y J ra,Y J he,Y J am,Y J mo,Y J ga,Y J lo,Y J de]⟩)]=> .ok (EN (nm,Ks,li,ne,(ra,he),am,mo,ga,lo,de))
 |_=> .no
def alo:List Bd:=[avA,auO]
def qo:=vo (S:=aJT) func88 alo kN (λargs lv h=>by
 unfold aJT at h;split at h
 ·rename_i nm Ks li ne ra he am mo ga lo de
  refine Ap (letI a:=(Mz (am,mo,ga,lo,de));.br ((pmE (am,mo,ga,lo,de)) !=0) (.br (ra==0) (.req ((M ([ne,(0:Int)]):Int)<=1000)<|.ok<|Jt li<|[ne,(0:Int)])<|.req ((M ([ne,(0:Int),ra]):Int)<=1000)<|.ok<|Jt li<|[ne,(0:Int),ra])<|.br (ra==0) (.req ((M ([ne,a]):Int)<=1000)<|.ok<|Jt li<|[ne,a])<|.req ((M ([ne,a,ra]):Int)<=1000)<|.ok<|Jt li<|[ne,a,ra]) ?_;obtain rfl:=h;unfold EN;simp only;refine ⟨λc=>?_,λc=>?_⟩
  ·have e:Mz (am,mo,ga,lo,de)=0:=by
    rw [aqt] at c
    have c:IL (am,mo,ga,lo,de)=false:=IT
    unfold Mz;rw [c];rfl
   rw [e];refine ⟨λc2=>⟨AJ,?_⟩,λc2=>⟨AJ,?_⟩⟩
   ·rw [AD EA];rfl
   ·rw [AE EA];rfl
  ·refine ⟨λc2=>⟨AJ,?_⟩,λc2=>⟨AJ,?_⟩⟩
   ·rw [AD A8];rfl
   ·rw [AE A8];rfl
 ·cases h)
def aJE:List LV->T LV
 | [.v (Y J k),.xq 5 q0,.xq 2 q1]=>(match ([q0 0,q0 1,q0 2,q0 3,q0 4]:List LV) with
  | [.xl (.pair .str (.pair (.int J) (.pair (.int J) (.pair (.int J) (.pair (.pair (.int J) (.int J)) (.pair (.int J) (.pair (.int J) (.pair (.int J) (.pair (.int J) (.int J)))))))))) cs,.xl (.str) os,.xl (.pair .str (.pair (.int J) (.pair (.int J) (.int J)))) ks,.xl (.pair .str (.pair (.int J) (.pair (.int J) (.pair (.int J) (.pair (.int J) (.pair (.int J) (.pair (.int J) (.int J)))))))) gs,.xl (.pair .str (.int J)) bs]=>(match ([q1 0,q1 1]:List LV) with
  | [.v (Y J c),.v (Y J p)]=> .req ((0<=k/\k<(M gs:Int))/\0<=p) (.ok<|usA (AG gs k).2.2.1 p)
  |_=> .no)
  |_=> .no)
 |_=> .no
def arb (k:Int) (cs:List Cd) (os:List ByteArray) (ks:List Ko) (gs:List Ch) (bs:List Ba) (c p:Int):Bk prog AV (gN) kN Ag f178 [k,xQ 5 [cs,os,ks,gs,bs],xQ 2 [c,p]]=.ix k (M gs) (.req (0<=p)<|.ok<|.v<|.bool<|(Bv J (AG gs k).2.2.1<|AA<|(1:Int)*2^(min p.toNat 64)) !=0):=AT
def aJh:=vo (S:=aJE) func178 gN kN (λargs lv h=>by
 refine ⟨?_⟩;unfold aJE at h;split at h
 ·split at h
  case h_2=>cases h
  rename_i heq0;split at h
  case h_2=>cases h
  rename_i heq1;simp only [canL,canX];rw [Dn (n:=5) heq0];rw [Dn (n:=2) heq1];simp only [canL,canX];rw [arb];obtain ⟨⟨h1,h2⟩,h3⟩:=h;exact ⟨h1,h2,h3⟩
 ·cases h)
structure JS where
 cs:List Cd
 os:List ByteArray
 ks:List Ko
 gs:List Ch
 bs:List Ba
 (c p:Int)
 l:List Int
 (n i:Int)
 out:List Int
def aFv:=bN f177 0
def zG (s:JS):T (Rd JS):=letI a:=gi s.l s.i;.br (an<|s.i<s.n) (.ix s.i (M s.l)<|.req ((0<=a/\a<(M s.gs:Int))/\0<=s.p)<|.br (usA (AG s.gs a).2.2.1 s.p) (.rb (M s.out) (M<|[a]) 8<|.re (M s.out+M ([a])) (s.out++([a]))<|.nx {s with i:=AA<|s.i+1,out:=s.out++([a])})<|.rl s.out<|.nx {s with i:=AA<|s.i+1})<|.rl s.out<|.so (.exit 0) s
def Yr (s:JS):Prop:=s.i=0/\s.out=[]/\s.n=(M s.l:Int)/\s.n<=1000/\0<=s.p/\∀k∈s.l,0<=k/\k<(M s.gs:Int)
def YE (s:JS):Prop:=(0<=s.i/\s.i<=s.n)/\(M s.out:Int)<=s.i/\s.n=(M s.l:Int)/\s.n<=1000/\0<=s.p/\∀k∈s.l,0<=k/\k<(M s.gs:Int)
def eW (s:JS):Nat:=(s.n-s.i).toNat
def aAO (x:Ex) (s s':JS):Prop:=x=.exit 0/\s'.i=s'.n
theorem al4:∀s,Yr s->YE s:=by
 rintro s ⟨h0,h1,h2,h3,h4,h5⟩
 exact ⟨A0,A8,h2,h3,h4,h5⟩
theorem aho:Da YE eW aAO zG:=by
 intro s hI;obtain ⟨⟨h0,h1⟩,h2,h3,h4,h5,h6⟩:=hI;refine AH (λc1=>?_) λc1=>?_
 ·have c1:s.i<s.n:=AX
  rw [AI (x:=s.i+1)];refine AH (λc2=>?_) λc2=>?_
  ·exact ⟨⟨⟨AZ,AZ⟩,A8,h3,h4,h5,h6⟩,by simp only [eW];omega⟩
  ·exact ⟨⟨⟨A8,A8⟩,AZ,h3,h4,h5,h6⟩,by simp only [eW];omega⟩
 ·have c1:s.n<=s.i:=AX
  exact V7
def Qv:AR JS:=⟨0,23,[1,5,8,9,10],[.nl 5 3 A7],λs=>[.fn 178 [xQ 5 [s.cs,s.os,s.ks,s.gs,s.bs],xQ 2 [s.c,s.p]],.os 0 1 0<|M s.out,.xl A7 s.l,s.n,s.i],λs=>[bV 3 A7 s.out],λv b=>⟨Ao Ad<|BT (gFn (v.getD 0 .junk) 0) 0,Ao .str<|BT (gFn (v.getD 0 .junk) 0) 1,Ao Ah<|BT (gFn (v.getD 0 .junk) 0) 2,Ao Ae<|BT (gFn (v.getD 0 .junk) 0) 3,Ao Ai<|BT (gFn (v.getD 0 .junk) 0) 4,gI<|BT (gFn (v.getD 0 .junk) 1) 0,gI<|BT (gFn (v.getD 0 .junk) 1) 1,B4 A7 v 2,AK v 3,AK v 4,Ab A7 b 0⟩,zG,λs r=> {s with i:=r.i,out:=r.out},λs=>s,λ_ s=>s,[.exit 0],Yr,YE,eW⟩
abbrev Vq:=Qv.run
abbrev asR:=Qv.Aq
def axH:Rq YE zG:=by
 intro s hI;refine ⟨λc1=>⟨?_,?_,λc2=>⟨?_,?_,ak⟩,λc2=>⟨A9,ak⟩⟩,λc1=>⟨A9,ak⟩⟩
 all_goals ((obtain ⟨⟨h0,h1⟩,h2,h3,h4,h5,h6⟩:=hI;(try simp only [Ac] at c1);first|omega|(refine ⟨h6 _ ?_,h5⟩;rw [Im A0];exact GD _) |(refine ⟨A0,?_,?_⟩<;>simp only [Bi,Bp]<;>omega) |exact ⟨rfl,AJ⟩ |exact ⟨rfl,rfl⟩))
def zo:List Bd:=[aJh]
def ru:Qv.Ok:={}
def rM:Qv.Pf (aAO):=⟨al4,λs h=>rfl,aho,axH⟩
def ap8:SA 0 aFv Qv:=s1 ru rM zo kN
def atZ:Fi Yr YE aAO asR Vq:=AR.fin ru rM
theorem ao4 (s:JS) (hE:Yr s):(λs:JS=>s.out++Dx s.gs s.p (s.l.drop s.i.toNat)) (Vq s)=(λs:JS=>s.out++Dx s.gs s.p (s.l.drop s.i.toNat)) s:=by
 exact AR.KJ ru rM (λs:JS=>s.out++Dx s.gs s.p (s.l.drop s.i.toNat)) (λs hI=>by
  obtain ⟨⟨h0,h1⟩,h2,h3,h4,h5,h6⟩:=hI;refine AH (λc1=>?_) λc1=>rfl
  have c1:s.i<s.n:=A8
  rw [AI (x:=s.i+1)];refine AH (λc2=>?_) λc2=>?_
  ·show _++Dx _ _ _=_++Dx _ _ _
   rw [(gi_step h0 (show s.i<M s.l by omega)).1]
   simp [Dx,OQ,c2]
  ·show _++Dx _ _ _=_++Dx _ _ _
   rw [(gi_step h0 (show s.i<M s.l by omega)).1]
   simp [Dx,OQ,c2]) s hE
def atY (s:JS) (hE:Yr s):(Vq s).out=Dx s.gs s.p s.l:=by
 obtain ⟨s',_,q1,q2⟩:=atZ s hE
 have q3:=ao4 s hE
 obtain ⟨h0,h1,h2,h3⟩:=hE;simp only at q3;rw [q2,show (Vq s).n=s.n from rfl,show (Vq s).l=s.l from rfl,Ef A0,h0,h1] at q3
 simpa [Dx] using q3
def aIb:List LV->T LV
 | [.xl (.int J) l,.fn 178 [.xq 5 q0,.xq 2 q1]]=>(match ([q0 0,q0 1,q0 2,q0 3,q0 4]:List LV) with
  | [.xl (.pair .str (.pair (.int J) (.pair (.int J) (.pair (.int J) (.pair (.pair (.int J) (.int J)) (.pair (.int J) (.pair (.int J) (.pair (.int J) (.pair (.int J) (.int J)))))))))) cs,.xl (.str) os,.xl (.pair .str (.pair (.int J) (.pair (.int J) (.int J)))) ks,.xl (.pair .str (.pair (.int J) (.pair (.int J) (.pair (.int J) (.pair (.int J) (.pair (.int J) (.pair (.int J) (.int J)))))))) gs,.xl (.pair .str (.int J)) bs]=>(match ([q1 0,q1 1]:List LV) with
  | [.v (Y J c),.v (Y J p)]=> .req (XS gs p l) (.ok<|.xl A7<|Dx gs p l)
  |_=> .no)
  |_=> .no)
 |_=> .no
def arp (l:List Int) (cs:List Cd) (os:List ByteArray) (ks:List Ko) (gs:List Ch) (bs:List Ba) (c p:Int):letI a:=(Vq (⟨cs,os,ks,gs,bs,c,p,l,(M l:Int),(0:Int),([]:List Int)⟩:JS));Bk prog AV (zo) kN (λi=>if i=3 then Qv.lp else Ag i) f177 [.xl A7 l,.fn 178 [xQ 5 [cs,os,ks,gs,bs],xQ 2 [c,p]]]=.r0 Int (.req (Qv.q (⟨cs,os,ks,gs,bs,c,p,l,(M l:Int),(0:Int),([]:List Int)⟩:JS))<|.rz a.out<|.ok<|.xl A7<|(a.out.drop 0).take<|M a.out):=AT
def aui:=vm (S:=aIb) func177 zo kN (L:=(λi=>if i=3 then Qv.lp else Ag i)) (λb hb=>by
 rw [show BA _=[aFv] by kernel_rfl] at hb
 simp only [B8,Bu,Bt] at hb;subst hb;exact ap8) (λargs lv h=>by
 refine ⟨?_⟩;unfold aIb at h;split at h
 ·split at h
  case h_2=>cases h
  rename_i heq0;split at h
  case h_2=>cases h
  rename_i heq1;simp only [canL,canX];rw [Dn (n:=5) heq0];simp only [canL,canX];rw [Dn (n:=2) heq1];simp only [canL,canX];rw [arp];obtain ⟨⟨hp,hl,hm⟩,rfl⟩:=h;refine ⟨A9,LY ⟨⟨rfl,rfl,rfl,AZ,hp,hm⟩,rfl,rfl⟩ λhE=>⟨A0,?_⟩⟩
  show LV.xl _ _=_
  rw [CP,E6,atY _ hE.1]
 ·cases h)
def yn:Array Tmp×Code×Code:=((Ii<|f135.body.getD .skip)[0]?).getD (#[],.skip,.skip)
def ajw:Array Tmp:=yn.1
def ajT:Code:=yn.2.1
def ak4:Code:=yn.2.2
structure O7 where
 (n c:Int)
 Ee:List Cd
 OT:List ByteArray
 OJ:List Ko
 DA:List Ch
 OY:List Ba
 below:List Int
 Jz:List Cd
 K5:List ByteArray
 K4:List Ko
 K3:List Ch
 KF:List Ba
 rows:List Rw
 st:LS
def lf (s:O7):T (Rd O7):=letI a:=Q3 s.Ee s.OT s.OJ s.DA s.OY s.c;letI b:=EN<|Al s.Ee s.c;letI d:=(b,Dx s.DA (0:Int) a);letI e:=(b,Dx s.DA (1:Int) a);letI f:=(b,Dx s.DA (2:Int) a);letI g:=(an<|(M (Dx s.DA (2:Int) a):Int)>0);letI h:=s.rows++([d]);letI i:=M s.rows+M ([d])+M ([e]);letI j:=AA<|s.c+1;letI k:=M s.rows+M ([d])+M ([e])+M ([f]);letI l:=M s.Ee;letI m:=M s.rows+M ([d]);letI o:=s.rows++([e]);letI p:=(XS s.DA (2:Int) a);letI q:=M s.rows+M ([d])+M ([f]);letI r:=M s.rows+M ([e])+M ([f]);letI t:=(an<|(M (Dx s.DA (1:Int) a):Int)>0);letI u:=h++([e]);letI v:=M s.rows+M ([e]);letI w:=M s.rows;.br (an<|s.c<s.n) (.req (XS s.DA (0:Int) a)<|.br (an<|(M (Dx s.DA (0:Int) a):Int)>0) (.ix s.c l<|.rb w (M<|[d]) 32<|.req (XS s.DA (1:Int) a)<|.br t (.ix s.c l<|.ra m (M h) i 32<|.req p<|.br g (.ix s.c l<|.ra i (M u) k 32<|.re k (u++([f]))<|.nx {s with c:=j,below:=a,rows:=(u++([f]))})<|.re i u<|.nx {s with c:=j,below:=a,rows:=u})<|.req p<|.br g (.ix s.c l<|.ra m (M h) q 32<|.re q (h++([f]))<|.nx {s with c:=j,below:=a,rows:=(h++([f]))})<|.re m h<|.nx {s with c:=j,below:=a,rows:=h})<|.req (XS s.DA (1:Int) a)<|.br t (.ix s.c l<|.rb w (M<|[e]) 32<|.req p<|.br g (.ix s.c l<|.ra v (M o) r 32<|.re r (o++([f]))<|.nx {s with c:=j,below:=a,rows:=(o++([f]))})<|.re v o<|.nx {s with c:=j,below:=a,rows:=o})<|.req p<|.br g (.ix s.c l<|.rb w (M<|[f]) 32<|.re (M s.rows+M ([f])) (s.rows++([f]))<|.nx {s with c:=j,below:=a,rows:=(s.rows++([f]))})<|.rl s.rows<|.nx {s with c:=j,below:=a})<|.rl s.rows<|.so (.exit 0) s
def mS (s:O7):Prop:=s.st=.ready/\s.c=0/\s.rows=[]/\BI s.Ee s.OT s.OJ s.DA s.OY=U/\s.n=(M s.Ee:Int)
def bK (s:O7):Prop:=s.st=.ready/\(0<=s.c/\s.c<=s.n)/\s.rows=DH s.Ee s.DA s.c.toNat/\BI s.Ee s.OT s.OJ s.DA s.OY=U/\s.n=(M s.Ee:Int)
def zc (s:O7):Nat:=(s.n-s.c).toNat
def wO (x:Ex) (s s':O7):Prop:=x=.exit 0/\s'.rows=DH s'.Ee s'.DA (M s'.Ee)
def amJ:∀s,mS s->bK s:=by
 rintro s ⟨h0,h1,h2,h3,h4⟩
 exact ⟨h0,A0,by rw [h1,h2];rfl,h3,h4⟩
theorem ail:Da bK zc wO lf:=by
 intro s hI;unfold lf;obtain ⟨h0,⟨h1,h2⟩,h3,h4,h5⟩:=hI;refine AH (λc1=>?_) λc1=>?_
 rotate_left
 ·have c1:s.n<=s.c:=AX
  exact ⟨rfl,A8⟩
 have c1:s.c<s.n:=AX
 have hl:=(DD.1 h4).1
 rw [AI (x:=s.c+1)]
 have eb:Q3 s.Ee s.OT s.OJ s.DA s.OY s.c=Gw s.Ee s.DA s.c (M s.DA):=by
  unfold Q3
  grind
 rw [eb]
 have fin:∀r:List Rw,r=DH s.Ee s.DA s.c.toNat++(rowP s.Ee s.DA s.c 0++rowP s.Ee s.DA s.c 1++rowP s.Ee s.DA s.c 2)->r=DH s.Ee s.DA (s.c+1).toNat:=λr hr=>by
  rw [hr,show (s.c+1).toNat=s.c.toNat+1 by omega,DH,CR h1]
  rfl
 refine AH (λc2=>?_) (λc2=>?_)<;>refine AH (λc3=>?_) (λc3=>?_)<;>refine AH (λc4=>?_) λc4=>?_
 all_goals
  refine ⟨⟨h0,⟨AZ,AZ⟩,?_,h4,h5⟩,by simp only [zc];omega⟩
  simp only [Ac,Cv] at c2 c3 c4;refine fin _ ?_;simp only [h3,rowP]
  first|rw [AD A0] |rw [AE A0]
  first|rw [AD A0] |rw [AE A0]
  first|rw [AD A0] |rw [AE A0]
  grind
def aU:AR O7:=⟨5,22,[0,7,8],[.nc 1 0 300 Ea,.pc 2 0 A7,.pk 0],λs=>[.CO 4,s.n,s.c],λs=>[⟨[s.Ee,s.OT,s.OJ,s.DA,s.OY],28,.cl,U⟩,⟨[.os 5 2 0<|M s.rows],259,.cl,X⟩,⟨[.xl A7 s.below],29,.cl,X⟩,⟨[s.Jz,s.K5,s.K4,s.K3,s.KF],28,.cl,X⟩,⟨[.junk,.own 0 0,.junk,.junk,.own 1 0,.own 2 0,.v<|.tuple #[],.v<|.tuple #[],.junk,.junk,.junk,.junk,.junk,.v<|.tuple #[],.v<|.tuple #[],.v<|.tuple #[],.v<|.tuple #[],.v<|.tuple #[],.v<|.tuple #[],.v<|.tuple #[],.v<|.tuple #[],.v<|.tuple #[],.v<|.tuple #[],.junk,.v<|.tuple #[],.v<|.tuple #[],.v<|.tuple #[],.v<|.tuple #[],.v<|.tuple #[],.v<|.tuple #[],.v<|.tuple #[],.v<|.tuple #[],.v<|.tuple #[],.v<|.tuple #[],.v<|.tuple #[],.v<|.tuple #[],.v<|.tuple #[],.v<|.tuple #[],.v<|.tuple #[],.v<|.tuple #[],.v<|.tuple #[],.v<|.tuple #[],.junk],0,.Cg ajw ajT ak4 s.st,X⟩,bV 300 Ea s.rows],λv b=>⟨AK v 1,AK v 2,AF Ad b 0 0,AF .str b 0 1,AF Ah b 0 2,AF Ae b 0 3,AF Ai b 0 4,AF A7 b 2 0,AF Ad b 3 0,AF .str b 3 1,AF Ah b 3 2,AF Ae b 3 3,AF Ai b 3 4,Ab Ea b 5,.ready⟩,lf,λs r=> {r with n:=s.n,Ee:=s.Ee,OT:=s.OT,OJ:=s.OJ,DA:=s.DA,OY:=s.OY,Jz:=s.Jz,K5:=s.K5,K4:=s.K4,K3:=s.K3,KF:=s.KF,st:=s.st},λs=> {s with st:=.ready},λx s=> {s with st:=(match x with| .exit 0=> .ready|_=> .ready)},[.exit 0],mS,bK,zc⟩
abbrev pA:=aU.run
abbrev agF:=aU.Aq
def U8:List Bd:=[Oy,qo,aof,aui,aJh]
def ak6:Ax:=kI U8<|l0 U8
def aiT:Rq bK lf:=by
 intro s hI;refine ⟨λc1=>⟨?_,λc2=>⟨?_,?_,?_,λc3=>⟨?_,?_,?_,λc4=>⟨?_,?_,?_,ak⟩,λc4=>⟨?_,ak⟩⟩,λc3=>⟨?_,λc5=>⟨?_,?_,?_,ak⟩,λc5=>⟨?_,ak⟩⟩⟩,λc2=>⟨?_,λc6=>⟨?_,?_,?_,λc7=>⟨?_,?_,?_,ak⟩,λc7=>⟨?_,ak⟩⟩,λc6=>⟨?_,λc8=>⟨?_,?_,?_,ak⟩,λc8=>⟨A9,ak⟩⟩⟩⟩,λc1=>⟨A9,ak⟩⟩
 all_goals ((obtain ⟨h0,⟨h1,h2⟩,h3,h4,h5⟩:=hI;have hl:=(DD.1 h4).1;(try simp only [Ac] at c1);have hr:M s.rows<=3*s.c.toNat:=(by rw [h3];exact o7);have eb:Q3 s.Ee s.OT s.OJ s.DA s.OY s.c=Gw s.Ee s.DA s.c (M s.DA):=(by unfold Q3;rw [AD ⟨h4,h1,A0⟩]);first|omega|((try simp only);rw [eb];refine ⟨Aa,HP pN A0,λk hk=>aFx hk⟩) |(refine ⟨A0,?_,?_⟩<;>simp only [BD,Bi,Bp]<;>omega) |(simp only [BD,Bi,Bp];omega) |exact ⟨rfl,AJ⟩ |exact ⟨rfl,rfl⟩))
def aad:aU.Ok:={}
def ab6:aU.Pf (wO):=⟨amJ,λs h=>by
 obtain ⟨n,c,Ee,OT,OJ,DA,OY,below,Jz,K5,K4,K3,KF,rows,st⟩:=s
 have e:=h.1
 subst e;rfl,ail,aiT⟩
def ave:=s2 (b:=bN f126 0) aad ab6 U8 ak6
def awn:Fi mS bK wO agF pA:=AR.fin aad ab6
def aJF:List LV->T LV
 | .agg a::r=>s5 a λcs os ks gs bs=>(match r with
  | []=> .ok (.AM [.xl Ea<|JQ cs os ks gs bs,OB cs os ks gs bs])
  |_=> .no)
 |_=> .no
def ak5:Ax:=kI U8<|la 1 func126 ave<|l0 U8
def WM:=vo (S:=aJF) func135 U8 ak5 (λargs lv h=>by
 unfold aJF at h;split at h
 case h_2=>cases h
 replace h:=HX h
 obtain ⟨cs,os,ks,gs,bs,rfl,h⟩:=h;split at h
 ·refine Ap (letI a:=(pA (⟨(M cs:Int),0,cs,os,ks,gs,bs,([]:List Int),cs,os,ks,gs,bs,([]:List Rw),.ready⟩:O7));.br (!(BI cs os ks gs bs)) (.ok<|.AM [.xl Ea ([]:List Rw),(1:Int)])<|.r0 Rw<|.req (aU.q (⟨(M cs:Int),0,cs,os,ks,gs,bs,([]:List Int),cs,os,ks,gs,bs,([]:List Rw),.ready⟩:O7))<|.rz a.rows<|.ok<|.AM [.xl Ea<|(a.rows.drop 0).take<|M a.rows,(0:Int)]) ?_
  obtain rfl:=h;refine ⟨λc=>?_,λc=>?_⟩
  ·have c:BI cs os ks gs bs=false:=A8
   unfold JQ OB;rw [c];rfl
  ·have c:BI cs os ks gs bs=true:=A8
   have hE:mS ⟨(M cs:Int),0,cs,os,ks,gs,bs,([]:List Int),cs,os,ks,gs,bs,([]:List<|Int×(List Int)),.ready⟩:=⟨rfl,rfl,rfl,c,rfl⟩
   obtain ⟨s',_,q1,q2⟩:=awn _ hE
   have q2:(pA ⟨(M cs:Int),0,cs,os,ks,gs,bs,([]:List Int),cs,os,ks,gs,bs,([]:List<|Int×(List Int)),.ready⟩).rows=DH cs gs (M cs):=q2
   refine ⟨A9,⟨hE,rfl,rfl⟩,A0,?_⟩
   show LV.AM [LV.xl _ _,_]=_
   unfold JQ OB
   grind
 ·cases h)
def aDz:List LV->T LV
 | [.v (Y J n),.v (Y J a),.v (Y J b)]=> .ok (inB n a b)
 |_=> .no
def KT:List Bd:=[]
def cJ:=vo (S:=aDz) func113 KT kN (λargs lv h=>by
 unfold aDz at h;split at h
 ·rename_i n a b
  refine Ap (.ok<|.v<|.bool<|(an<|n>=a)&&(an<|n<=b)) ?_;exact h
 ·cases h)
def aSo:List LV->T LV
 | [.v (.agg ⟨[.string nm,Y J at_,Y J ph,Y J mn,Y J mx,Y J st,Y J fb,Y J ow]⟩)]=> .ok (IK ph mn mx st fb)
 |_=> .no
def alm:List Bd:=[cJ]
def aTr:=vo (S:=aSo) func153 alm kN (λargs lv h=>by
 unfold aSo at h;split at h
 ·rename_i nm at_ ph mn mx st fb ow
  refine Ap (.ok<|.v<|.bool<|(inB ph (1:Int) (7:Int))&&((inB mn (1:Int) (80:Int))&&((inB mx (1:Int) (80:Int))&&((inB st (1:Int) (80:Int))&&((an<|mn<=mx)&&((fb==0) ||(inB fb mn mx))))))) ?_;exact h
 ·cases h)
def aFV:List LV->T LV
 | []=> .ok (.v<|.agg #[(0:Int),(0:Int),(0:Int),X])
 |_=> .no
def anY  :Bk prog AV KT kN Ag f30 []=.ok (.v<|.agg #[(0:Int),(0:Int),(0:Int),X]):=AT
def WD:=vo (S:=aFV) func30 KT kN (λargs lv h=>by
 refine ⟨?_⟩;unfold aFV at h;split at h
 ·simp only [canL]
  rwa [anY]
 ·cases h)
def aSx:List LV->T LV
 | [.v (.agg ⟨[.string nm,Y J at_,Y J ph,Y J mn,Y J mx,Y J st,Y J fb,Y J ow]⟩),.v (.agg ⟨[Y J 0,Y J 0,Y J 0,.bool X]⟩)]=> .ok (IK ph mn mx st fb)
 |_=> .no
def alj:List Bd:=[WD,cJ,aTr]
def aiy:=vo (S:=aSx) func100 alj kN (λargs lv h=>by
 unfold aSx at h;split at h
 ·rename_i nm at_ ph mn mx st fb ow
  refine Ap (.br (!(IK ph mn mx st fb)) (.ok X)<|.br (((0:Int)==0)&&(((0:Int)==0)&&(((0:Int)==0)&&(X==X)))) (.ok U)<|.ok<|.v<|.bool<|(inB (0:Int) (0:Int) (5:Int))&&((inB (0:Int) (0:Int) (1000000:Int))&&((inB (0:Int) (0:Int) mx)&&(if (0:Int) !=0 then (!X) ||((0:Int)==5) else ((0:Int)==0)&&((!X) ||((0:Int)==5)))))) ?_
  obtain rfl:=h;refine ⟨λhb=>?_,λhb=>⟨λ_=>?_,λhf=>absurd hf Aa⟩⟩
  ·show LV.v (.bool X)=_
   rw [show IK _ _ _ _ _=X by simpa using hb]
  ·show LV.v (.bool U)=_
   rw [show IK _ _ _ _ _=U by simpa using hb]
 ·cases h)
def aJG:List LV->T LV
 | [.v (.agg ⟨[.string nm,Y J at_,Y J ph,Y J mn,Y J mx,Y J st,Y J fb,Y J ow]⟩),.v (Y J am)]=> .req (chP mn mx st) (.ok<|EX mn mx st am)
 |_=> .no
def aJY:=vo (S:=aJG) func142 KT kN (λargs lv h=>by
 unfold aJG at h;split at h
 ·rename_i nm at_ ph mn mx st fb ow am
  refine Ap (.br (an<|am<mn) (.ok (0:Int))<|.req (st≠0)<|.ok<|AA<|(if mx<am then mx else am)-((AA<|(if mx<am then mx else am)-mn).tmod st)) ?_
  obtain ⟨hc,rfl⟩:=h;refine ⟨λhb=>?_,λhb=>⟨by unfold chP at hc;omega,?_⟩⟩
  ·exact B1 (λz=>LV.v<|Y J z)<|ahC A8
  ·exact B1 (λz=>LV.v<|Y J z)<|ahB hc A8
 ·cases h)
def aSu:List LV->T LV
 | [.v (.agg ⟨[.string nm,Y J at_,Y J ph,Y J mn,Y J mx,Y J st,Y J fb,Y J ow]⟩),.v (.agg ⟨[Y J a,Y J si]⟩)]=> .ok (IG ph mn mx st fb a si)
 |_=> .no
def ali:List Bd:=[WD,aiy,aJY]
def aTv:=vo (S:=aSu) func137 ali kN (λargs lv h=>by
 unfold aSu at h;split at h
 ·rename_i nm at_ ph mn mx st fb ow a si
  refine Ap (.br ((!(IK ph mn mx st fb)) ||((an<|si<0) ||((an<|si>1000000) ||(an<|a<0)))) (.ok X)<|.req (chP mn mx st)<|.ok<|.v<|.bool<|(EX mn mx st a)==a) ?_;obtain rfl:=h;refine ⟨λhb=>?_,λhb=>⟨?_,?_⟩⟩
  ·exact B1 (λz=>LV.v<|.bool z)<|am1 hb
  ·exact (aJx hb).1
  ·exact B1 (λz=>LV.v<|.bool z) (aJx hb).2
 ·cases h)
def aFa:List LV->T LV
 | [.v (.bool b)]=> .ok (.v<|Y J (if b then (1:Int) else 0))
 |_=> .no
def ap5:=vo (S:=aFa) func147 KT kN (λargs lv h=>by
 unfold aFa at h;split at h
 ·rename_i b
  refine Ap (.br b (.ok (1:Int))<|.ok (0:Int)) ?_;obtain rfl:=h;cases b
  ·exact ⟨λhb=>L4,λ_=>rfl⟩
  ·exact ⟨λ_=>rfl,λhb=>L4⟩
 ·cases h)
def aSJ:List LV->T LV
 | [.xq 8 q0]=>(match ([q0 0,q0 1,q0 2,q0 3,q0 4,q0 5,q0 6,q0 7]:List LV) with
  | [.v (.string nm),.v (Y J at_),.v (Y J ph),.v (Y J mn),.v (Y J mx),.v (Y J st),.v (Y J fb),.v (Y J ow)]=> .ok (.v<|.agg #[mn,(0:Int)])
  |_=> .no)
 |_=> .no
def ayE (nm:ByteArray) (at_ ph mn mx st fb ow:Int):Bk prog AV KT kN Ag f143 [xQ 8 [.v<|.string nm,at_,ph,mn,mx,st,fb,ow]]=.ok (.v<|.agg #[mn,(0:Int)]):=AT
def aip:=vo (S:=aSJ) func143 KT kN (λargs lv h=>by
 refine ⟨?_⟩;unfold aSJ at h;split at h
 ·split at h
  case h_2=>cases h
  rename_i heq0;simp only [canL,canX];rw [Dn (n:=8) heq0];simp only [canL,canX]
  rwa [ayE]
 ·cases h)
def aSI:List LV->T LV
 | [.xq 1 q0]=>(match ([q0 0]:List LV) with
  | [.v (Y J lo)]=> .ok (.v<|.agg #[(0:Int),lo])
  |_=> .no)
 |_=> .no
def ayD (lo:Int):Bk prog AV KT kN Ag f144 [xQ 1 [lo]]=.ok (.v<|.agg #[(0:Int),lo]):=AT
def aio:=vo (S:=aSI) func144 KT kN (λargs lv h=>by
 refine ⟨?_⟩;unfold aSI at h;split at h
 ·split at h
  case h_2=>cases h
  rename_i heq0;simp only [canL,canX];rw [Dn (n:=1) heq0];simp only [canL,canX]
  rwa [ayD]
 ·cases h)
def aSH:List LV->T LV
 | []=> .ok (.v<|.agg #[(0:Int),(0:Int)])
 |_=> .no
def ayC  :Bk prog AV KT kN Ag f145 []=.ok (.v<|.agg #[(0:Int),(0:Int)]):=AT
def ain:=vo (S:=aSH) func145 KT kN (λargs lv h=>by
 refine ⟨?_⟩;unfold aSH at h;split at h
 ·simp only [canL]
  rwa [ayC]
 ·cases h)
def aSG:List LV->T LV
 | [.xq 1 q0,.xq 2 q1,.xq 8 q2,.xq 1 q3]=>(match ([q0 0]:List LV) with
  | [.v (Y J lv)]=>(match ([q1 0,q1 1]:List LV) with
  | [.v (Y J a),.v (Y J si)]=>(match ([q2 0,q2 1,q2 2,q2 3,q2 4,q2 5,q2 6,q2 7]:List LV) with
  | [.v (.string nm),.v (Y J at_),.v (Y J ph),.v (Y J mn),.v (Y J mx),.v (Y J st),.v (Y J fb),.v (Y J ow)]=>(match ([q3 0]:List LV) with
  | [.v (Y J lo)]=> .ok (.v<|.agg #[Y J (if AA (a+st)<lv then AA (a+st) else lv),lo])
  |_=> .no)
  |_=> .no)
  |_=> .no)
  |_=> .no)
 |_=> .no
def az1 (lv a si:Int) (nm:ByteArray) (at_ ph mn mx st fb ow lo:Int):Bk prog AV KT kN Ag f146 [xQ 1 [lv],xQ 2 [a,si],xQ 8 [.v<|.string nm,at_,ph,mn,mx,st,fb,ow],xQ 1 [lo]]=.ok (.v<|.agg #[Y J (if (AA<|a+st)<lv then AA (a+st) else lv),lo]):=AT
def ai2:=vo (S:=aSG) func146 KT kN (λargs lv h=>by
 refine ⟨?_⟩;unfold aSG at h;split at h
 ·split at h
  case h_2=>cases h
  rename_i heq0;split at h
  case h_2=>cases h
  rename_i heq1;split at h
  case h_2=>cases h
  rename_i heq2;split at h
  case h_2=>cases h
  rename_i heq3;simp only [canL,canX];rw [Dn (n:=1) heq0];rw [Dn (n:=2) heq1];rw [Dn (n:=8) heq2];rw [Dn (n:=1) heq3];simp only [canL,canX]
  rwa [az1]
 ·cases h)
def az5 {a l si:Int}:UX ((if (a !=0) then (1:Int) else 0).toNat*4+((if (l !=0) then (1:Int) else 0).toNat*2+((if (an<|si>=5) then (1:Int) else 0).toNat*1+0)))=if a=0 then (if l=0 then 1 else if 5<=si then 0 else 1) else if l=0 then 2 else 3:=by
 by_cases c1:a=0<;>by_cases c2:l=0<;>by_cases c3:5<=si<;>simp [c1,c2,c3,UX]
def aJP:List LV->T LV
 | [.v (.agg ⟨[.string nm,Y J at_,Y J ph,Y J mn,Y J mx,Y J st,Y J fb,Y J ow]⟩),.v (.agg ⟨[Y J a,Y J si]⟩),.v (Y J want)]=> .tu #[.agg #[nA ph mn mx st fb a si want,nS ph mn mx st fb a si want],nE ph mn mx st fb a si want]
 |_=> .no
def alh:List Bd:=[aTv,aJY,aip,aio,ain,ai2,ap5]
def avE:=vo (S:=aJP) func94 alh kN (λargs lv h=>by
 unfold aJP at h;split at h
 ·rename_i nm at_ ph mn mx st fb ow a si want
  refine Ap (letI d:=EX mn mx st want;letI e:=an<|si>=5;letI c:=(UX<|(if (a !=0) then (1:Int) else 0).toNat*4+((if (d !=0) then (1:Int) else 0).toNat*2+((if e then (1:Int) else 0).toNat*1+0)));.br ((!(IG ph mn mx st fb a si)) ||((an<|want<0) ||(an<|want>80))) (.tu #[.agg #[(0:Int),(0:Int)],(1:Int)])<|.req (chP mn mx st)<|.req (0<=(if (a !=0) then (1:Int) else 0)/\(if (a !=0) then (1:Int) else 0)<(2:Int))<|.req (0<=(if (d !=0) then (1:Int) else 0)/\(if (d !=0) then (1:Int) else 0)<(2:Int))<|.req (0<=(if e then (1:Int) else 0)/\(if e then (1:Int) else 0)<(2:Int))<|.br (c==0) (.tu #[.agg #[mn,(0:Int)],(0:Int)])<|.br (c==1) (.tu #[.agg #[(0:Int),Y J (if (1000000:Int)<(AA<|si+1) then 1000000 else AA (si+1))],(0:Int)])<|.br (c==2) (.tu #[.agg #[(0:Int),(0:Int)],(0:Int)])<|.br (c==3) (.tu #[.agg #[Y J (if AA (a+st)<d then AA (a+st) else d),Y J (if (1000000:Int)<(AA<|si+1) then 1000000 else AA (si+1))],(0:Int)])<|.no) ?_
  obtain rfl:=h
  by_cases hk:okB ph mn mx st fb a si want=U
  ·obtain ⟨k1,k2,k3,k4,k5⟩:=aqP hk
   have w1:AA (si+1)=si+1:=AI
   have w2:AA (a+st)=a+st:=AI
   have i0:∀b:Bool,0<=(if b=U then (1:Int) else 0)/\(if b=U then (1:Int) else 0)<2:=λb=>by cases b<;>simp
   simp only [T.all,nA,nS,nE,k1,w1,w2,hk,aGh,Bm,az5,i0,Ei]
   grind
  ·have hn:=aqQ hk
   simp only [T.all,nA,nS,nE,hk,hn]
   simp
 ·cases h)
def aSw:List LV->T LV
 | [.v (Y J n),.v (Y J a),.v (Y J b)]=> .ok (inB n a b)
 |_=> .no
def ald:List Bd:=[]
end Go.Proofs.YtpfblnbippcdjaaGreatDoor
end
