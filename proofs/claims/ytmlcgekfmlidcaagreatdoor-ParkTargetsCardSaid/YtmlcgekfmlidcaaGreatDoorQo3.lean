/- Helpers for ParkTargets. Conditions: none. -/
import Derived.Test.YtmlcgekfmlidcaaGreatDoorQo2
set_option linter.defProp false
set_option linter.unusedVariables false
set_option linter.unusedSimpArgs false
noncomputable section
open List renaming length→M,length→aa,replicate→aq,range→au
open Bool renaming true→U,true→ae,false→X,false→af
open Go.Value renaming int→Y,int→ag
open Option renaming some→ah,none→aj
open Go.IntKind renaming i64→J,i64→ai,u8→aw,u32→ax
open True renaming intro→ak
open Decidable renaming decide→an
open ByteArray renaming mk→av
open Go.Region renaming ready→ay,wanted→az
open Go.Instr renaming findNow→aA
namespace Go.Proofs.YtmlcgekfmlidcaaGreatDoor
set_option maxRecDepth 100000
set_option maxHeartbeats 4000000
open Go.Proofs.Tryz
open Go.Sx
def IA {mi ma st:Int}:Dk mi ma st=U↔1<=mi/\mi<=ma/\ma<=80/\1<=st/\st<=80:=by simp [Dk]
def EM (mi ma st:Int):Int:=if Dk mi ma st then (ma-mi) / st+2 else 0
def Dx (mi st k:Int):Int:=if k=0 then 0 else mi+(k-1)*st
def amE (mi ma st k:Int):Int:=if k<0\/EM mi ma st<=k then 1 else 0
def amA (mi ma st k:Int):Int:=if k<0\/EM mi ma st<=k then 0 else Dx mi st k
def HB (mi ma st a:Int):Int:=if Dk mi ma st=X\/a<0 then -1 else if a<mi then 0 else min (EM mi ma st-1) ((a-mi) / st+1)
def oR {x st:Int}(h0:0<=x) (h1:1<=st):0<=x / st/\x / st<=x:=⟨SX h0 A0,V1 _ h0⟩
def aQY {mi ma st:Int}:0<=EM mi ma st/\EM mi ma st<=81:=by
 unfold EM;split
 ·rename_i h
  exact aLT
 ·omega
def qF {mi ma st:Int}(h:Dk mi ma st=U):2<=EM mi ma st:=by
 unfold EM;rw [AD h];exact aLT
def aEa {mi ma st:Int}(h:Dk mi ma st=X):EM mi ma st=0:=by simp [EM,h]
def ay5 {a b:Int}(a0:0<=a) (a1:a<=1000) (b0:0<=b) (b1:b<=80):0<=a*b/\a*b<=80000:=
 ⟨Ia a0 b0,IX (Pd b1 a0) A0⟩
theorem aGO (bs:ByteArray):∀(n i:Nat) (r:List UInt8),bs.size-i=n->ByteArray.toList.loop bs i r=r.reverse++bs.data.toList.drop i
 |0,i,r,h=>by
  rw [ByteArray.toList.loop,AE A0,En (by simp only [wY];show bs.size<=i;omega),GF]
 | n+1,i,r,h=>by
  have hi:i<M bs.data.toList:=by simp only [wY];show i<bs.size;omega
  rw [ByteArray.toList.loop,AD A0,aGO bs n (i+1) _ A0,List.reverse_cons,Cm,SK hi]
  have:bs.get! i=bs.data.toList[i]:=by
   show bs.data[i]! =_
   grind
  rw [this];rfl
def aGP (bs:ByteArray):bs.toList=bs.data.toList:=by
 rw [ByteArray.toList,aGO bs _ 0 [] rfl];rfl
def avr {a b:ByteArray}(h:a.toList=b.toList):a=b:=by
 rw [aGP,aGP] at h;cases a;cases b;simp at h;rw [h]
def uf {a b:ByteArray}:(a==b)=U↔a=b:=by
 show (a.data==b.data)=U↔_
 rw [DJ];exact ⟨λh=>by cases a;cases b;simp at h;rw [h],λh=>VS⟩
instance:LawfulBEq ByteArray where
 eq_of_beq h:=uf.1 h
 rfl:=uf.2 rfl
def Ww (a b:ByteArray):(a.toList==b.toList)=(a==b):=by
 rw [IY,DJ,uf];exact ⟨avr,λh=>VS⟩
def kinds:List ByteArray:=[av #[102,101,101,100,101,114],av #[99,97,98,108,101],av #[111,119,110,101,114],av #[99,111,110,116,114,97,99,116],av #[99,104,97,114,103,101,114],av #[98,97,121],av #[116,97,114,105,102,102]]
def iI:List ByteArray:=[av #[108,105,109,105,116],av #[110,101,117,116,114,97,108],av #[102,117,115,101],av #[116,104,101,114,109,97,108],av #[102,114,111,109],av #[97,116],av #[112,104,97,115,101,115],av #[97,109,112,115],av #[102,97,108,108,98,97,99,107],av #[111,119,110,101,114],av #[99,97,114,100],av #[114,97,110,107],av #[99,104,97,114,103,101,114]]
def oQ:List ByteArray:=[av #[115,116,97,114,116],av #[101,110,101,114,103,121],av #[116,105,109,101],av #[105,100,108,101],av #[99,97,112],av #[116,97,120]]
def words:List ByteArray:=[av #[111,110],av #[119,111,114,107],av #[115,97,116,117,114,100,97,121],av #[115,117,110,100,97,121],av #[98,101,116,119,101,101,110],av #[112,101,114],av #[102,114,101,101]]
def isIn (l:List ByteArray) (w:ByteArray):Bool:=l.any (w== ·)
def Ur:Int->List ByteArray->ByteArray->Int
 |_,[],_=>0
 |n,x::l,w=>if w==x then n else Ur (n+1) l w
theorem aFA:∀(n:Int) (l:List ByteArray) (w:ByteArray),0<n->(Ur n l w !=0)=isIn l w
 |_,[],_,_=>rfl
 | n,x::l,w,h=>by
  simp only [Ur,isIn,ZH];split
  ·grind
  ·rename_i c
   have:=aFA (n+1) l w A0
   simp only [isIn] at this;rw [this]
   simp [c]
def aBe (w:ByteArray):Bool:=isIn kinds w ||(isIn iI w ||(isIn oQ w ||isIn words w))
def chA (b:Int):Bool:=an (b>=97)&&an (b<=122)
def chB (b:Int):Bool:=chA b ||((an (b>=48)&&an (b<=57)) ||b==95)
def gwB (w:ByteArray):Bool:=an (1<=w.size/\w.size<=12)&&(chA (Jn w 0)&&(au w.size).all λi=>i==0 ||chB (Jn w i))
def nameB (w:ByteArray):Bool:=gwB w&&!aBe w
def Lg {p q:Prop}(h:p) (k:p->q):p/\q:=⟨h,k h⟩
def Di (n:Nat) (f:Int->Bool):Bool:=(au n).all λj=>f (j:Int)
theorem Dq {n:Nat}{f:Int->Bool}:Di n f=U↔∀j:Nat,(j:Int)<(n:Int)->f j=true:=by
 unfold Di
 grind
def QI {n:Nat}{f:Int->Bool}(j:Nat) (h:(j:Int)<(n:Int)) (hf:f j=X):Di n f=false:=by
 rw [I2];intro hx;rw [Dq.1 hx j h] at hf;cases hf
def cbZ (c:Cbl):Bool:=(c.1==0)&&((c.2.1==0)&&((c.2.2.1==0)&&((c.2.2.2.1==0)&&(c.2.2.2.2==0))))
def IU (c:Cbl):Bool:=cbZ c ||(an (0<=c.1)&&(an (c.1<c.2.1)&&(an (c.2.1<=200000)&&(inB c.2.2.1 0 1000&&(inB c.2.2.2.1 0 1000&&inB c.2.2.2.2 1 1000000)))))
def Hp (i:Int) (c:Cd):Bool:=(if i=0 then c.2.1==-1 else inB c.2.1 0 (i-1))&&(inB c.2.2.1 1 1000&&(inB c.2.2.2.1 1 1000&&(((c.2.2.2.2.1.1==0)&&(c.2.2.2.2.1.2==0) ||(inB c.2.2.2.2.1.1 1 1000&&inB c.2.2.2.2.1.2 0 1000000))&&IU c.2.2.2.2.2)))
def chW (c:Ch):Bool:=inB c.2.2.1 1 7&&(inB c.2.2.2.1 1 80&&(inB c.2.2.2.2.1 c.2.2.2.1 80&&(inB c.2.2.2.2.2.1 1 80&&(c.2.2.2.2.2.2.1==0 ||inB c.2.2.2.2.2.2.1 c.2.2.2.1 c.2.2.2.2.1))))
def Gl (nc no:Int) (c:Ch):Bool:=inB c.2.1 0 (nc-1)&&(inB c.2.2.2.2.2.2.2 0 (no-1)&&chW c)
def koV (no:Int) (c:Ko):Bool:=inB c.2.1 0 (no-1)&&(inB c.2.2.1 1 9&&inB c.2.2.2 1 1000000)
def once {α:Type} [BEq α] (l:List α):Bool:=(au<|M l).all λj=>match l[j]? with
 |some x=>!((l.take j).contains x)
 |none=>U
theorem oz {α:Type} [BEq α] [LawfulBEq α] {l:List α}:once l=U↔∀(j:Nat) (h:j<M l),¬l[j]∈l.take j:=by
 unfold once;rw [BH];refine ⟨λh j hj hm=>?_,λh j hj=>?_⟩
 ·have:=h j (IZ.2 hj)
  rw [DX hj] at this;simp only [DB] at this;rw [ZL.2 hm] at this;cases this
 ·have hj:=IZ.1 hj
  grind
def Lx (cs:List Cd) (os:List ByteArray) (ks:List Ko) (gs:List Ch) (bs:List Ba):Bool:=
 Di (M cs) (λj=>Hp j<|Ac cs j)&&(ks.all (koV<|M os)&&(once (ks.map (·.2.2.2))&&(gs.all (Gl (M cs)<|M os)&&bs.all (λb=>inB b.2 0<|(M gs:Int)-1))))
def LF (cs:List Cd) (os:List ByteArray) (ks:List Ko) (gs:List Ch) (bs:List Ba):List ByteArray:=cs.map (·.1)++os++ks.map (·.1)++gs.map (·.1)++bs.map (·.1)
def BA (cs:List Cd) (os:List ByteArray) (ks:List Ko) (gs:List Ch) (bs:List Ba):Bool:=
 an (1<=M cs/\M cs<=16/\M os<=8/\M ks<=32/\M gs<=16/\M bs<=24)&&((LF cs os ks gs bs).all nameB&&(once (LF cs os ks gs bs)&&Lx cs os ks gs bs))
theorem ahI {nm:ByteArray}{i up li ne ra he am mo ga lo de:Int}(hi:0<=i) {K:Bool->Prop}(h:K<|Hp i (nm,up,li,ne,(ra,he),am,mo,ga,lo,de)):
  ((if i==0 then (up !=(-1)) ||((an<|i>0)&&((an<|up<0) ||(an<|up>=i))) else (an<|i>0)&&((an<|up<0) ||(an<|up>=i)))=U->K X)/\
  ((if i==0 then (up !=(-1)) ||((an<|i>0)&&((an<|up<0) ||(an<|up>=i))) else (an<|i>0)&&((an<|up<0) ||(an<|up>=i)))=X->
   (((!(inB li (1:Int) (1000:Int))) ||(!(inB ne (1:Int) (1000:Int))))=U->K X)/\
   (((!(inB li (1:Int) (1000:Int))) ||(!(inB ne (1:Int) (1000:Int))))=X->
    (((!((ra==0)&&(he==0)))&&(!(inB ra (1:Int) (1000:Int)) ||(!(inB he (0:Int) (1000000:Int)))))=U->K X)/\
    (((!((ra==0)&&(he==0)))&&(!(inB ra (1:Int) (1000:Int)) ||(!(inB he (0:Int) (1000000:Int)))))=X->
     (((am==0)&&((mo==0)&&((ga==0)&&((lo==0)&&(de==0)))))=U->K U)/\
     (((am==0)&&((mo==0)&&((ga==0)&&((lo==0)&&(de==0)))))=X->K ((inB am (0:Int) (200000:Int))&&((inB mo (0:Int) (200000:Int))&&((inB ga (0:Int) (1000:Int))&&((inB lo (0:Int) (1000:Int))&&((inB de (1:Int) (1000000:Int))&&(an<|mo>am)))))))))):=by
 have e1:(if i==0 then (up !=(-1)) ||((an<|i>0)&&((an<|up<0) ||(an<|up>=i))) else (an<|i>0)&&((an<|up<0) ||(an<|up>=i)))=!(if i=0 then up==-1 else inB up 0 (i-1)):=by
  by_cases h0:i=0
  ·grind
  ·have:(i==0)=false:=by simpa using h0
   rw [this,AE h0,IY]
   simp [inB]
   omega
 rw [e1];unfold Hp at h;simp only at h;generalize (if i=0 then up==-1 else inB up 0 (i-1))=b1 at*
 refine ⟨λc=>?_,λc=>⟨λc2=>?_,λc2=>⟨λc3=>?_,λc3=>⟨λc4=>?_,λc4=>?_⟩⟩⟩⟩
 ·grind
 all_goals
  have c:b1=true:=Ic
  rw [c,EH] at h
 ·have:(inB li 1 1000&&inB ne 1 1000)=false:=A8
  grind
 all_goals
  have c2:inB li 1 1000=U/\inB ne 1 1000=true:=EI
  rw [c2.1,c2.2,EH,EH] at h
 ·have:((ra==0)&&(he==0) ||(inB ra 1 1000&&inB he 0 1000000))=false:=by
   grind
  grind
 all_goals
  have:((ra==0)&&(he==0) ||(inB ra 1 1000&&inB he 0 1000000))=true:=by
   grind
  rw [this,EH] at h
 ·unfold IU cbZ at h
  grind
 ·unfold IU cbZ at h
  rw [c4,D2] at h
  have:((inB am (0:Int) (200000:Int))&&((inB mo (0:Int) (200000:Int))&&((inB ga (0:Int) (1000:Int))&&((inB lo (0:Int) (1000:Int))&&((inB de (1:Int) (1000000:Int))&&(an<|mo>am))))))=(an (0<=am)&&(an (am<mo)&&(an (mo<=200000)&&(inB ga 0 1000&&(inB lo 0 1000&&inB de 1 1000000))))):=by
   rw [IY];simp only [AY,CM,Aa];omega
  rw [this];exact h
theorem Vu {α β:Type} [BEq β] [LawfulBEq β] {l:List α}{d:α}{p:α->Bool}{k:α->β}:(∀j:Nat,(j:Int)<(M l:Int)->(p (l.getD (j:Int).toNat d)&&!(((l.take (j:Int).toNat).map k).contains<|k<|l.getD (j:Int).toNat d))=U)↔(l.all p&&once (l.map k))=true:=by
 have hg:∀(j:Nat) (h:j<M l),l.getD (j:Int).toNat d=l[j]:=λj h=>O3 (n:=(j:Int)) h
 rw [AY,BH,oz]
 constructor
 ·intro h
  refine ⟨λx hx=>?_,λj hj hm=>?_⟩
  ·obtain ⟨j,hj,rfl⟩:=List.getElem_of_mem hx
   have:=h j A0
   rw [hg j hj,AY] at this;exact this.1
  ·have hj':j<M l:=A8
   have:=h j A0
   rw [hg j hj',AY,DB] at this
   have h2:=this.2
   rw [Bx,List.map_take,ZL.2 A8] at h2;cases h2
 ·intro ⟨h1,h2⟩ j hj
  have hj':j<M l:=A0
  rw [hg j hj',AY,DB];refine ⟨h1 _<|HS _,?_⟩;rw [I2,Bx,List.map_take]
  grind
theorem QB {α:Type}{l:List α}{d:α}{p:α->Bool}:(∀j:Nat,(j:Int)<(M l:Int)->p (l.getD (j:Int).toNat d)=U)↔l.all p=true:=by
 have hg:∀(j:Nat) (h:j<M l),l.getD (j:Int).toNat d=l[j]:=λj h=>O3 (n:=(j:Int)) h
 rw [BH]
 constructor
 ·intro h x hx
  obtain ⟨j,hj,rfl⟩:=List.getElem_of_mem hx
  have:=h j A0
  rw [hg j hj] at this;exact this
 ·intro h j hj
  grind
def IT (ph mn mx st fb:Int):Bool:=inB ph 1 7&&(inB mn 1 80&&(inB mx 1 80&&(inB st 1 80&&(an (mn<=mx)&&(fb==0 ||inB fb mn mx)))))
def aH7 {ph mn mx st fb:Int}:IT ph mn mx st fb=U↔1<=ph/\ph<=7/\1<=mn/\mn<=80/\1<=mx/\mx<=80/\1<=st/\st<=80/\mn<=mx/\(fb=0\/(mn<=fb/\fb<=mx)):=by
 simp [IT,inB];omega
def Bv (mn mx st a:Int):Int:=if a<mn then 0 else min a mx-(min a mx-mn) %st
def aBw {x s:Int}(hx:0<=x) (hs:1<=s):0<=x%s/\x%s<=x/\x%s<s:=by
 have h1:=kP x s
 have h2:0<=x / s:=SX hx A0
 have h3:0<=s*(x / s):=Ia A0 h2
 have h4:=Int.emod_nonneg x (b:=s) A0
 have h5:=Int.emod_lt_of_pos x (b:=s) A0
 omega
def bn {mn mx st a:Int}(h1:1<=mn) (h2:mn<=mx) (h3:mx<=80) (h4:1<=st):0<=Bv mn mx st a/\Bv mn mx st a<=80/\(a<mn->Bv mn mx st a=0)/\(mn<=a->mn<=Bv mn mx st a/\Bv mn mx st a<=a/\Bv mn mx st a<=mx):=by
 unfold Bv;split
 ·omega
 ·have e1:=aBw (x:=min a mx-mn) (s:=st) A0 h4
  omega
def Dz (mn mx st:Int):Prop:=1<=mn/\mn<=mx/\mx<=80/\1<=st/\st<=80
def aRT {ph mn mx st fb:Int}(h:IT ph mn mx st fb=U):Dz mn mx st:=by
 rw [aH7] at h;unfold Dz;omega
def Hy (ph mn mx st fb a s:Int):Bool:=IT ph mn mx st fb&&(an (0<=s)&&(an (s<=1000000)&&(an (0<=a)&&(Bv mn mx st a==a))))
def okB (ph mn mx st fb a s want:Int):Bool:=Hy ph mn mx st fb a s&&(an (0<=want)&&an (want<=80))
def nE (ph mn mx st fb a s want:Int):Int:=if okB ph mn mx st fb a s want then 0 else 1
def nA (ph mn mx st fb a s want:Int):Int:=
 if okB ph mn mx st fb a s want then (if a=0 then (if Bv mn mx st want≠0/\5<=s then mn else 0) else if Bv mn mx st want=0 then 0 else min (Bv mn mx st want) (a+st)) else 0
def nS (ph mn mx st fb a s want:Int):Int:=
 if okB ph mn mx st fb a s want then (if a=0 then (if Bv mn mx st want≠0/\5<=s then 0 else min (s+1) 1000000) else if Bv mn mx st want=0 then 0 else min (s+1) 1000000) else 0
def aHq (x y:Int):(if y<x then y else x)=min x y:=A0
def ahP {mn mx st am:Int}(h:am<mn):0=Bv mn mx st am:=by rw [Bv,AD h]
def ahO {mn mx st am:Int}(hc:Dz mn mx st) (h:mn<=am):AA ((if mx<am then mx else am)-(AA<|(if mx<am then mx else am)-mn).tmod st)=Bv mn mx st am:=by
 unfold Dz at hc;rw [aHq]
 have e1:=aBw (x:=min am mx-mn) (s:=st) A0 A0
 rw [AJ (x:=min am mx-mn),Int.tmod_eq_emod_of_nonneg A0,AJ,Bv,AE A0]
def amf {ph mn mx st fb a s:Int}(h:((!IT ph mn mx st fb) ||(an (s<0) ||(an (s>1000000) ||an (a<0))))=U):X=Hy ph mn mx st fb a s:=by
 cases hr:Hy ph mn mx st fb a s
 ·rfl
 ·simp [Hy] at hr h
  rw [hr.1] at h
  simp at h
  omega
def aK9 {ph mn mx st fb a s:Int}(h:((!IT ph mn mx st fb) ||(an (s<0) ||(an (s>1000000) ||an (a<0))))=X):Dz mn mx st/\(Bv mn mx st a==a)=Hy ph mn mx st fb a s:=by
 simp at h
 obtain ⟨h1,h2,h3,h4⟩:=h;exact ⟨aRT h1,by simp [Hy,h1,h2,h3,h4]⟩
def aGc {ph mn mx st fb a s want:Int}(h:okB ph mn mx st fb a s want=U):(!Hy ph mn mx st fb a s ||(an (want<0) ||an (want>80)))=X/\Dz mn mx st/\(0<=s/\s<=1000000)/\(0<=want/\want<=80)/\0<=a/\a<=80/\1<=st/\st<=80:=by
 simp only [okB,Hy,AY,Aa,DJ] at h;obtain ⟨⟨h1,h2,h3,h4,h5⟩,h6,h7⟩:=h
 have hc:=aRT h1
 have hc':=hc
 have:=bn (a:=a) hc'.1 hc'.2.1 hc'.2.2.1 hc'.2.2.2.1
 refine ⟨?_,hc,⟨h2,h3⟩,⟨h6,h7⟩,h4,A0,hc'.2.2.2.1,hc'.2.2.2.2⟩
 simp [Hy,h1,h2,h3,h4,h5];omega
def aqa {ph mn mx st fb a s want:Int}(h:¬okB ph mn mx st fb a s want=U):(!Hy ph mn mx st fb a s ||(an (want<0) ||an (want>80)))=true:=by
 cases hr:Hy ph mn mx st fb a s
 ·rfl
 ·simp [okB,hr] at h|-;omega
def FU (cs:List Cd):Bool:=Di (M cs) λj=>an<|(Ac cs j).2.1<j
theorem QL {cs:List Cd}(h:FU cs=U) {c:Int}(h0:0<=c) (h1:c<M cs):(Ac cs c).2.1<c:=by
 have:=Dq.1 h c.toNat A0
 grind
def GB:Nat->List Cd->Int->Int->Bool
 |0,_,_,_=>X
 |k+1,cs,o,c=>if c>=0 then (c==o ||GB k cs o (Ac cs c).2.1) else X
def FW (cs:List Cd) (o c:Int):Bool:=GB (c.toNat+2) cs o c
theorem aQE {cs:List Cd}{o:Int}(hu:FU cs=U):∀(k k':Nat) (c:Int),c<M cs->(c+1).toNat<k->(c+1).toNat<k'->GB k cs o c=GB k' cs o c
 |0,_,_,_,h,_=>A0
 |_+1,0,_,_,_,h=>A0
 | k+1,k'+1,c,hc,h,h'=>by
  simp only [GB]
  by_cases h0:c>=0
  ·rw [AD h0,AD h0]
   have:=QL hu h0 hc
   rw [aQE hu k k' (Ac cs c).2.1 A0 A0 A0]
  ·grind
theorem aQF {cs:List Cd}{o c:Int}(hu:FU cs=U) (hc:c<M cs):FW cs o c=if c>=0 then (c==o ||FW cs o (Ac cs c).2.1) else false:=by
 unfold FW;rw [GB]
 by_cases h0:c>=0
 ·rw [AD h0,AD h0]
  have:=QL hu h0 hc
  rw [aQE hu (c.toNat+1) ((Ac cs c).2.1.toNat+2) (Ac cs c).2.1 A0 A0 A0]
 ·grind
def atB (cs:List Cd) (gs:List Ch):Bool:=Di (M gs) λj=>an<|(AG gs j).2.1<(M cs:Int)
theorem fU {cs:List Cd}{gs:List Ch}(h:atB cs gs=U) {c:Int}(h0:0<=c) (h1:c<M gs):(AG gs c).2.1<(M cs:Int):=by
 have:=Dq.1 h c.toNat A0
 grind
def Co (cs:List Cd) (gs:List Ch) (o:Int) (k:Nat):List Int:=((au k).map λj:Nat=>(j:Int)).filter λj=>FW cs o (AG gs j).2.1
theorem aDr {cs:List Cd}{gs:List Ch}{o:Int}{k:Nat}:Co cs gs o (k+1)=Co cs gs o k++(if FW cs o (AG gs k).2.1=U then [(k:Int)] else []):=by
 unfold Co;rw [SW,Jv,ZQ]
 grind
theorem oM {cs:List Cd}{gs:List Ch}{o:Int}{k:Nat}:M (Co cs gs o k)<=k:=by
 unfold Co
 grind
theorem D5 {cs:List Cd}{os:List ByteArray}{ks:List Ko}{gs:List Ch}{bs:List Ba}:BA cs os ks gs bs=U↔(1<=M cs/\M cs<=16/\M os<=8/\M ks<=32/\M gs<=16/\M bs<=24)/\(LF cs os ks gs bs).all nameB=U/\once (LF cs os ks gs bs)=U/\Di (M cs) (λj=>Hp j<|Ac cs j)=U/\ks.all (koV<|M os)=U/\once (ks.map (·.2.2.2))=U/\gs.all (Gl (M cs)<|M os)=U/\bs.all (λb=>inB b.2 0<|(M gs:Int)-1)=true:=by
 unfold BA Lx
 grind
theorem pD {cs:List Cd}{os:List ByteArray}{ks:List Ko}{gs:List Ch}{bs:List Ba}(h:BA cs os ks gs bs=U) {c:Int}(h0:0<=c) (h1:c<M cs):Hp c (Ac cs c)=true:=by
 have:=Dq.1 (D5.1 h).2.2.2.1 c.toNat A0
 grind
def Q6 {cs:List Cd}{os:List ByteArray}{ks:List Ko}{gs:List Ch}{bs:List Ba}(h:BA cs os ks gs bs=U) {c:Int}(h0:0<=c) (h1:c<M gs):Gl (M cs) (M os) (AG gs c)=true:=by
 have:=BH.1 (D5.1 h).2.2.2.2.2.2.1 gs[c.toNat]<|HS _
 rwa [ah6 A0]
theorem nr {cs:List Cd}{os:List ByteArray}{ks:List Ko}{gs:List Ch}{bs:List Ba}(h:BA cs os ks gs bs=U):FU cs=true:=
 Dq.2 λj hj=>by
  have:=pD h (c:=j) A0 hj
  unfold Hp at this;rw [AY] at this
  have h1:=this.1
  rw [Aa];split at h1
  ·grind
  ·have:=CM.1 h1;omega
def nt {cs:List Cd}{os:List ByteArray}{ks:List Ko}{gs:List Ch}{bs:List Ba}(h:BA cs os ks gs bs=U):atB cs gs=true:=
 Dq.2 λj hj=>by
  have:=Q6 h (c:=j) A0 hj
  unfold Gl at this;rw [AY] at this
  have:=CM.1 this.1
  rw [Aa];omega
def wI (cs:List Cd) (os:List ByteArray) (ks:List Ko) (gs:List Ch) (bs:List Ba) (o:Int):Int:=if BA cs os ks gs bs=U/\0<=o/\o<M cs then 0 else 1
def Pv (cs:List Cd) (os:List ByteArray) (ks:List Ko) (gs:List Ch) (bs:List Ba) (o:Int):List Int:=if BA cs os ks gs bs=U/\0<=o/\o<M cs then Co cs gs o (M gs) else []
def aI (ga ro:Int):Nat->Int
 |0=>0
 |k+1=>if ga*(k+1)*(k+1)<=ro then (k:Int)+1 else aI ga ro k
def ais {ga m:Int}(h0:0<=ga) (h1:ga<=1000) (m0:0<=m) (m1:m<=1000):(0<=ga*m/\ga*m<=1000000)/\0<=ga*m*m/\ga*m*m<=1000000000:=by
 have a1:=SS h1 m0
 have a2:=Ia h0 m0
 have a3:ga*m*m<=1000000*m:=SS A0 m0
 exact ⟨⟨a2,A0⟩,Ia a2 m0,A0⟩
def aol {ga a b:Int}(h0:0<=ga) (a0:0<=a) (h:a<=b):ga*a*a<=ga*b*b:=by
 have h1:=Pd h h0
 exact IX (SS h1 a0)<|Pd h<|Ia h0 A0
def aGW {ga ro r:Int}:∀ {k:Nat},0<=r->r<=k->(r=0\/ga*r*r<=ro)->(∀a:Int,r<a->a<=k->¬ga*a*a<=ro)->aI ga ro k=r
 |0,h0,h1,_,_=>by simp only [aI];omega
 | k+1,h0,h1,h2,h3=>by
  simp only [aI]
  by_cases hr:r=(k:Int)+1
  ·subst hr
   omega
  ·rw [AE<|h3 ((k:Int)+1) A0 A0]
   exact aGW h0 A0 h2 λa ha hk=>h3 a ha A0
def prm (ga ro:Int):Int:=aI ga ro 1000
def pmE (c:Cbl):Int:=if IU c=U then 0 else 1
def My (c:Cbl):Int:=if IU c=U then (if cbZ c=U then 1000 else prm c.2.2.1 ((if c.2.2.2.2<c.2.2.2.1 then c.2.2.2.2 else c.2.2.2.1)*(c.2.1-c.1))) else 0
def ahJ {c:Cbl}(h:IU c=U) (hz:cbZ c=X):(0<=c.1/\c.1<c.2.1/\c.2.1<=200000)/\(0<=c.2.2.1/\c.2.2.1<=1000)/\(0<=c.2.2.2.1/\c.2.2.2.1<=1000)/\1<=c.2.2.2.2/\c.2.2.2.2<=1000000:=by
 unfold IU at h;rw [hz,D2] at h;simp only [AY,Aa,CM] at h;omega
def JH (f:Int) (l:List Int):Int:=l.foldl (λa n=>if n<a then n else a) f
def D6 (c:Cd):Int:=if c.2.2.2.2.1.1=0 then JH c.2.2.1 [c.2.2.2.1,My c.2.2.2.2.2] else JH c.2.2.1 [c.2.2.2.1,My c.2.2.2.2.2,c.2.2.2.2.1.1]
theorem aqT {c:Cbl}:(pmE c !=0)=!IU c:=by
 unfold pmE
 grind
abbrev Ei:Ty:=.pair A7<|.sl A7
abbrev Rw:=Int×List Int
def CX (l:List Rw) (n:Int):Rw:=l.getD n.toNat (0,[])
def oS {l:List Rw}{n:Int}(h:n.toNat<M l):CX l n=l[n.toNat]:=O3 h
def aoC {l:List Rw}{i:Int}(h0:0<=i) (h:i<M l):l.drop i.toNat=CX l i::l.drop (i+1).toNat/\l.take (i+1).toNat=l.take i.toNat++[CX l i]:=QD h0 h
def IF {l:List Int}{n:Int}(h:n.toNat<M l):gi l n=l[n.toNat]:=O3 h
def usA (ph p:Int):Bool:=Bf J ph (AA<|(1:Int)*2^(min p.toNat 64)) !=0
def Bs (gs:List Ch) (p:Int) (l:List Int):List Int:=l.filter λk=>usA (AG gs k).2.2.1 p
def XN (gs:List Ch) (p:Int) (l:List Int):Prop:=0<=p/\M l<=1000/\∀k∈l,0<=k/\k<(M gs:Int)
def aH6 {gs:List Ch}{p:Int}{l:List Int}:M (Bs gs p l)<=M l:=wq _ _
def cS {cs:List Cd}{gs:List Ch}{o:Int}{k:Nat}{x:Int}(h:x∈Co cs gs o k):0<=x/\x<(k:Int):=by
 have:=(DK.1 h).1
 obtain ⟨j,h1,rfl⟩:=Em.1 this
 have:=IZ.1 h1
 omega
def rowP (cs:List Cd) (gs:List Ch) (c p:Int):List Rw:=if M (Bs gs p<|Co cs gs c<|M gs)>0 then [(D6<|Ac cs c,Bs gs p<|Co cs gs c<|M gs)] else []
def aK (cs:List Cd) (gs:List Ch) (c:Int):List Rw:=rowP cs gs c 0++rowP cs gs c 1++rowP cs gs c 2
def Cs (cs:List Cd) (gs:List Ch):Nat->List Rw
 |0=>[]
 |k+1=>Cs cs gs k++aK cs gs k
theorem pH {cs:List Cd}{gs:List Ch}{c p:Int}:M (rowP cs gs c p)<=1:=by
 unfold rowP
 grind
def anM {cs:List Cd}{gs:List Ch}{c:Int}:M (aK cs gs c)<=3:=by
 unfold aK
 have h0:=pH (cs:=cs) (gs:=gs) (c:=c) (p:=0)
 have h1:=pH (cs:=cs) (gs:=gs) (c:=c) (p:=1)
 have h2:=pH (cs:=cs) (gs:=gs) (c:=c) (p:=2)
 simp only [BD];omega
def oG {cs:List Cd}{gs:List Ch}:∀ {k:Nat},M (Cs cs gs k)<=3*k
 |0=>by simp [Cs]
 |k+1=>by
  have:=oG (cs:=cs) (gs:=gs) (k:=k)
  have h2:=anM (cs:=cs) (gs:=gs) (c:=k)
  simp only [Cs,BD];omega
def OC (cs:List Cd) (os:List ByteArray) (ks:List Ko) (gs:List Ch) (bs:List Ba):Int:=if BA cs os ks gs bs=U then 0 else 1
def JW (cs:List Cd) (os:List ByteArray) (ks:List Ko) (gs:List Ch) (bs:List Ba):List Rw:=if BA cs os ks gs bs=U then Cs cs gs (M cs) else []
def Hh (a:Int):Bool:=an (a>=0)&&an (a<=80)
def Q1 {a:Int}:Hh a=U↔0<=a/\a<=80:=by simp [Hh]
def PR (n i:Int):Bool:=an (0<=i)&&an (i<n)
def oH {n i:Int}:PR n i=U↔0<=i/\i<n:=by simp [PR]
def GW (l:List Int) (n:Int):Bool:=an ((M l:Int)=n)&&(l.all (PR n)&&once l)
def smA (alive l:List Int):Int:=(l.map λm=>gi alive m).sum
def LZ (i:Int) (o:List<|List Int) (l:List Int):List (List Int):=l.foldl (λo m=>o.modify m.toNat (·++[i])) o
def HD (o:List<|List Int) (i:Int):List Rw->List (List Int)
 | []=>o
 |r::rs=>HD (LZ i o r.2) (i+1) rs
def HC (alive sm:List Int) (i:Int):List Rw->List Int
 | []=>sm
 |r::rs=>HC alive (sm.set i.toNat<|sm.getD i.toNat 0+smA alive r.2) (i+1) rs
def aEi {alive l:List Int}{m:Int}:smA alive (m::l)=gi alive m+smA alive l:=by simp [smA]
def nX {i m:Int}{o:List<|List Int}{l:List Int}:LZ i o (m::l)=LZ i (o.modify m.toNat (·++[i])) l:=rfl
def aC2 {i:Int}:∀ {l:List Int}{o:List<|List Int},M (LZ i o l)=M o
 | [],o=>rfl
 |m::l,o=>by rw [nX,aC2,kD]
theorem aGV {i:Int}:∀ {l:List Int}{o:List<|List Int}{b:Int},(∀x∈o,(M x:Int)<=b)->∀x∈LZ i o l,(M x:Int)<=b+M l
 | [],o,b,h,x,hx=>by have:=h x hx;simp only [Bn];omega
 | m::l,o,b,h,x,hx=>by
  rw [nX] at hx
  have:=aGV (b:=b+1) (λy hy=>by
   obtain ⟨k,hk,rfl⟩:=I7.1 hy;rw [kD] at hk
   have:=h o[k]<|HS _
   rw [List.getElem_modify];split
   ·grind
   ·omega) x hx
  simp only [Bc];omega
def anK {l:List Int}{i:Nat}(h:i<M l):l.set i (l.getD i 0+0)=l:=by
 simp_all
theorem aeT {l:List Int}{i:Nat}{a b:Int}(h:i<M l):letI c:=l.set i<|l.getD i 0+a;c.set i (c.getD i 0+b)=l.set i (l.getD i 0+(a+b)):=by
 have e:(l.set i<|l.getD i 0+a).getD i 0=l.getD i 0+a:=A8
 rw [e,List.set_set]
 congr 1
 omega
def mx (a b:Int):Int:=if a<b then b else a
def Cw (gs:List Ch) (i k:Int):Int:=Dx (AG gs i).2.2.2.1 (AG gs i).2.2.2.2.2.1 k
def FO (gs:List Ch) (i a:Int):Int:=HB (AG gs i).2.2.2.1 (AG gs i).2.2.2.2.1 (AG gs i).2.2.2.2.2.1 a
def Fy (gs:List Ch) (alive:List Int) (i k:Int):Int:=mx (gi alive i) (Cw gs i k)-mx (gi alive i) (Cw gs i<|k-1)
def KZ (rows:List Rw) (sm:List Int) (mo r:Int):Bool:=an<|sm.getD r.toNat 0+mo<=(CX rows r).1
def Kd (sm:List Int) (mo:Int) (l:List Int):List Int:=l.foldl (λsm r=>sm.set r.toNat<|sm.getD r.toNat 0+mo) sm
abbrev Tr:=List Int×List Int×Bool
def Fp (O:List<|List Int) (rows:List Rw) (gs:List Ch) (alive most:List Int) (level:Int) (t:Tr) (i:Int):Tr:=
 if t.2.1.getD i.toNat 0=level-1/\level<=FO gs i (gi most i) then
  (if ((O.getD i.toNat []).all<|KZ rows t.1<|Fy gs alive i level)=U then (Kd t.1 (Fy gs alive i level)<|O.getD i.toNat [],t.2.1.set i.toNat level,U) else t)
 else t
def swp (O:List<|List Int) (rows:List Rw) (gs:List Ch) (alive most:List Int) (level:Int) (t:Tr) (l:List Int):Tr:=l.foldl (Fp O rows gs alive most level) t
def shl (O:List<|List Int) (rows:List Rw) (gs:List Ch) (alive most order:List Int):Nat->Int->List Int->List Int->List Int
 |0,_,_,lv=>lv
 |f+1,level,sm,lv=>if (swp O rows gs alive most level (sm,lv,X) order).2.2=U then shl O rows gs alive most order f (level+1) (swp O rows gs alive most level (sm,lv,X) order).1 (swp O rows gs alive most level (sm,lv,X) order).2.1 else (swp O rows gs alive most level (sm,lv,X) order).2.1
def aCj {sm l:List Int}{mo r:Int}:Kd sm mo (r::l)=Kd (sm.set r.toNat<|sm.getD r.toNat 0+mo) mo l:=rfl
def nL {mo:Int}:∀ {l sm:List Int},M (Kd sm mo l)=M sm
 | [],_=>rfl
 |r::l,sm=>by rw [aCj,nL,Bz]
theorem T2 {sm:List Int}{i k:Nat}{v:Int}:(sm.set i v).getD k 0=if i=k/\k<M sm then v else sm.getD k 0:=by
 by_cases h:i=k
 ·subst h
  by_cases h2:i<M sm
  ·simp [h2]
  ·grind
 ·simp [h]
theorem aDB {mo:Int}:∀ {l sm:List Int}{k:Nat},(∀r∈l,r.toNat≠k)->(Kd sm mo l).getD k 0=sm.getD k 0
 | [],_,_,_=>rfl
 |r::l,sm,k,h=>by
  rw [aCj,aDB λx hx=>h x A8,T2,AE λe=>h r AI e.1]
theorem pL {mo:Int}:∀ {l sm:List Int}{k:Nat},l.Nodup->(∀r∈l,0<=r)->k<M sm->(Kd sm mo l).getD k 0=sm.getD k 0+(if (k:Int)∈l then mo else 0)
 | [],sm,k,_,_,_=>by simp [Kd]
 | r::l,sm,k,hn,h0,hk=>by
  rw [aCj];obtain ⟨n1,n2⟩:=M5.1 hn
  have hr:=h0 r AI
  by_cases e:r.toNat=k
  ·rw [aDB λx hx e2=>n1 (by
    have:=h0 x A8
    have:r=x:=A0
    rw [this];exact hx),T2,AD ⟨e,hk⟩,AD A8,e]
  ·rw [pL n2 (λx hx=>h0 x A8) A8,T2,AE λc=>e c.1]
   have:¬(k:Int)=r:=A0
   simp [this]
def uZ {mi ma st a:Int}:HB mi ma st a<=80:=by
 have:=aQY (mi:=mi) (ma:=ma) (st:=st)
 unfold HB;split
 ·omega
 ·split
  ·omega
  ·omega
structure OkT (O:List (List Int)) (rows:List Rw) (gs:List Ch) (alive most order:List Int):Prop where
 ol:M O=16
 ord:∀i∈order,(0<=i/\i<16)/\i<(M gs:Int)/\i<(M alive:Int)/\i<(M most:Int)
 al:∀a∈alive,0<=a/\a<=80
 mo:∀a∈most,0<=a/\a<=80
 has:∀i∈order,Dk (AG gs i).2.2.2.1 (AG gs i).2.2.2.2.1 (AG gs i).2.2.2.2.2.1=U
 row:∀o∈O,o.Nodup/\(M o:Int)<=1000/\∀r∈o,0<=r/\r<(M rows:Int)
 cap:∀r∈rows,r.1<=1000
structure OkS (rows:List Rw) (order sm lv:List Int):Prop where
 len:M sm=M rows
 bd:∀k:Nat,0<=sm.getD k 0/\sm.getD k 0<=2000
 Bv:∀i∈order,i<(M lv:Int)
 lvb:∀k:Nat,0<=lv.getD k 0/\lv.getD k 0<=80
def ahZ {mi st k:Int}(h:1<=mi/\mi<=80/\1<=st/\st<=80) (h0:0<=k) (h1:k<=81):0<=Dx mi st k/\Dx mi st k<=6480:=by
 unfold Dx;split
 ·omega
 ·have a1:0<=(k-1)*st:=Ia A0 A0
  have a2:(k-1)*st<=(k-1)*80:=Pd A0 A0
  omega
def aFX {mi st j k:Int}(h:1<=mi/\1<=st) (h0:0<=j) (h1:j<=k):Dx mi st j<=Dx mi st k:=by
 unfold Dx;split
 ·split
  ·omega
  ·have a1:0<=(k-1)*st:=Ia A0 A0
   omega
 ·rw [AE A0]
  have:(j-1)*st<=(k-1)*st:=SS A0 A0
  omega
def aQf {gs:List Ch}{alive:List Int}{i k:Int}(hh:Dk (AG gs i).2.2.2.1 (AG gs i).2.2.2.2.1 (AG gs i).2.2.2.2.2.1=U) (ha:0<=gi alive i/\gi alive i<=80) (h0:1<=k) (h1:k<=81):0<=Fy gs alive i k/\Fy gs alive i k<=10000:=by
 obtain ⟨g1,g2,g3,g4,g5⟩:=IA.1 hh
 have b1:=ahZ (mi:=(AG gs i).2.2.2.1) (st:=(AG gs i).2.2.2.2.2.1) (k:=k) ⟨g1,A0,g4,g5⟩ A0 h1
 have b3:=aFX (mi:=(AG gs i).2.2.2.1) (st:=(AG gs i).2.2.2.2.2.1) (j:=k-1) (k:=k) ⟨g1,g4⟩ A0 A0
 unfold Fy mx Cw;omega
def LH {l:List Int}{i:Int}(h0:0<=i) (h:i<(M l:Int)):gi l i∈l:=by
 rw [IF A0];exact HS _
theorem aP1 {O:List<|List Int}{rows:List Rw}{gs:List Ch}{alive most order:List Int}{level:Int}{t:Tr}{i:Int}(hT:OkT O rows gs alive most order) (hS:OkS rows order t.1 t.2.1) (hi:i∈order) (h0:1<=level) (h1:level<=81):letI b:=Fp O rows gs alive most level t i;OkS rows order b.1 b.2.1:=by
 unfold Fp;split
 ·split
  ·rename_i hc hf
   obtain ⟨⟨o0,o1⟩,o2,o3,o4⟩:=hT.ord i hi
   have hl80:=uZ (mi:=(AG gs i).2.2.2.1) (ma:=(AG gs i).2.2.2.2.1) (st:=(AG gs i).2.2.2.2.2.1) (a:=gi most i)
   have hl81:=hc.2
   unfold FO at hl81
   have hm:=aQf (gs:=gs) (alive:=alive) (k:=level) (hT.has i hi) (hT.al _<|LH o0 o3) h0 h1
   have ho:O.getD i.toNat []∈O:=by
    have hl:=hT.ol
    grind
   obtain ⟨r1,r2,r3⟩:=hT.row _ ho
   refine ⟨by simp only;rw [nL];exact hS.len,λk=>?_,λj hj=>by simp only [Bz];exact hS.Bv j hj,λk=>by
    have:=hS.lvb k
    rw [T2];split<;>omega⟩
   by_cases hk:k<M t.1
   ·rw [pL r1 (λr hr=>(r3 r hr).1) hk]
    have hb:=hS.bd k
    split
    ·rename_i hkm
     have hfit:=BH.1 hf _ hkm
     unfold KZ at hfit;rw [Aa,Bx] at hfit
     have hk2:=hS.len
     have:=hT.cap (CX rows (k:Int)) y7
     omega
    ·omega
   ·rw [DV,SL (by rw [nL];omega)]
    simp
  ·exact hS
 ·exact hS
theorem s7 {O:List<|List Int}{rows:List Rw}{gs:List Ch}{alive most order:List Int}{level:Int}(hT:OkT O rows gs alive most order) (h0:1<=level) (h1:level<=81):∀(l:List Int) (t:Tr),(∀i∈l,i∈order)->OkS rows order t.1 t.2.1->OkS rows order (swp O rows gs alive most level t l).1 (swp O rows gs alive most level t l).2.1
 | [],t,_,h=>h
 |i::l,t,hl,h=>s7 hT h0 h1 l _ (λj hj=>hl j A8)<|aP1 hT h (hl i AI) h0 h1
theorem nz {O:List<|List Int}{rows:List Rw}{gs:List Ch}{alive most:List Int}{level:Int}:∀(l:List Int) (t:Tr),(swp O rows gs alive most level t l).2.2=U->t.2.2=U\/level<=80
 | [],t,h=> .inl h
 | i::l,t,h=>by
  rcases nz l _ h with h2|h2
  ·unfold Fp at h2
   split at h2
   ·rename_i hc
    have:=uZ (mi:=(AG gs i).2.2.2.1) (ma:=(AG gs i).2.2.2.2.1) (st:=(AG gs i).2.2.2.2.2.1) (a:=gi most i)
    have h3:=hc.2
    unfold FO at h3;omega
   ·grind
  ·grind
theorem aeo {O:List<|List Int}{rows:List Rw}{gs:List Ch}{alive most:List Int}{level:Int}{t:Tr}{i:Int}:M (Fp O rows gs alive most level t i).2.1=M t.2.1:=by
 unfold Fp;split
 ·split
  ·grind
  ·rfl
 ·rfl
def aD7 {O:List<|List Int}{rows:List Rw}{gs:List Ch}{alive most:List Int}{level:Int}:∀(l:List Int) (t:Tr),M (swp O rows gs alive most level t l).2.1=M t.2.1
 | [],t=>rfl
 |i::l,t=>(aD7 l _).trans aeo
theorem aOQ {O:List<|List Int}{rows:List Rw}{gs:List Ch}{alive most order:List Int}(hT:OkT O rows gs alive most order):∀(f:Nat) (level:Int) (sm lv:List Int),1<=level->level<=81->OkS rows order sm lv->M (shl O rows gs alive most order f level sm lv)=M lv/\∀k:Nat,0<=(shl O rows gs alive most order f level sm lv).getD k 0/\(shl O rows gs alive most order f level sm lv).getD k 0<=80
 |0,_,_,lv,_,_,h=>⟨rfl,h.lvb⟩
 | f+1,level,sm,lv,h0,h1,h=>by
  have hk:=s7 hT h0 h1 order (sm,lv,X) (λ_ h=>h) h
  have hl:=aD7 (O:=O) (rows:=rows) (gs:=gs) (alive:=alive) (most:=most) (level:=level) order (sm,lv,X)
  have hs:=nz (O:=O) (rows:=rows) (gs:=gs) (alive:=alive) (most:=most) (level:=level) order (sm,lv,X)
  rw [shl];split
  ·rename_i hc
   have h80:level<=80:=by
    rcases hs hc with h|h
    ·cases h
    ·exact h
   obtain ⟨g1,g2⟩:=aOQ hT f (level+1) _ _ A0 A0 hk
   grind
  ·exact ⟨hl,hk.lvb⟩
def Jq (i:Int):List Rw->Int->List Int
 | [],_=>[]
 |r::rs,j=>(if r.2.contains j then [i] else [])++Jq (i+1) rs j
theorem aeP {o:List<|List Int}{f:List Int->List Int}{j k:Nat}(h:k<M o):(o.modify j f).getD k []=if j=k then f (o.getD k []) else o.getD k []:=by
 grind
theorem aER {i:Int}:∀ {l:List Int}{o:List<|List Int}{k:Nat},l.Nodup->(∀m∈l,0<=m)->k<M o->(LZ i o l).getD k []=o.getD k []++(if l.contains (k:Int) then [i] else [])
 | [],o,k,_,_,_=>by simp [LZ]
 | m::l,o,k,hn,h0,hk=>by
  obtain ⟨n1,n2⟩:=M5.1 hn
  have hm:=h0 m AI
  rw [nX,aER n2 (λx hx=>h0 x A8) A8,aeP hk]
  by_cases e:m.toNat=k
  ·have e2:(k:Int)=m:=A0
   grind
  ·rw [AE e]
   have:¬(k:Int)=m:=A0
   simp [this]
def zn (r:Rw):Prop:=r.2.Nodup/\∀m∈r.2,0<=m
def aD6:∀ {rs:List Rw}{o:List<|List Int}{i:Int},M (HD o i rs)=M o
 | [],_,_=>rfl
 |r::rs,o,i=>by rw [HD,aD6,aC2]
theorem aGN:∀ {rs:List Rw}{o:List<|List Int}{i:Int}{k:Nat},(∀r∈rs,zn r)->k<M o->(HD o i rs).getD k []=o.getD k []++Jq i rs k
 | [],o,i,k,_,_=>by simp [HD,Jq]
 |r::rs,o,i,k,h,hk=>by
  obtain ⟨h1,h2⟩:=h r AI;rw [HD,aGN (λx hx=>h x A8) (by rw [aC2];exact hk),aER h1 h2 hk,Jq,Cm]
theorem TD:∀ {rs:List Rw}{i j x:Int},x∈Jq i rs j↔i<=x/\x<i+M rs/\(CX rs<|x-i).2.contains j=U
 | [],i,j,x=>by simp [Jq];omega
 | r ::rs,i,j,x=>by
  rw [Jq,Be,TD]
  by_cases e:x=i
  ·subst e
   have g0:CX (r::rs) (x-x)=r:=by simp [CX]
   rw [g0]
   constructor
   ·rintro (h|h)
    ·split at h
     ·rename_i hc
      grind
     ·cases h
    ·omega
   ·rintro ⟨_,_,h⟩
    rw [AD h]
    simp
  ·have hn:¬x∈(if r.2.contains j then [i] else []):=by
    split
    ·grind
    ·simp
   simp only [Bc]
   constructor
   ·rintro (h|⟨h1,h2,h3⟩)
    ·grind
    ·refine ⟨A0,A0,?_⟩
     exact aLs
   ·rintro ⟨h1,h2,h3⟩
    refine .inr ⟨A0,A0,?_⟩;exact aLs
def nY:∀ {rs:List Rw}{i j:Int},(Jq i rs j).Nodup
 | [],_,_=>List.nodup_nil
 | r::rs,i,j=>by
  rw [Jq];split
  ·rw [wo,M5]
   refine ⟨λh=>?_,nY⟩
   have:=(TD.1 h).1
   omega
  ·rw [EF];exact nY
theorem aGd:∀ {rs:List Rw}{i j:Int},M (Jq i rs j)<=M rs
 | [],_,_=>Ax _
 |r::rs,i,j=>by
  have:=aGd (rs:=rs) (i:=i+1) (j:=j)
  rw [Jq]
  grind
def aD5 {alive:List Int}:∀ {rs:List Rw}{sm:List Int}{i:Int},M (HC alive sm i rs)=M sm
 | [],_,_=>rfl
 |r::rs,sm,i=>by rw [HC,aD5,Bz]
theorem aGM {alive:List Int}:∀ {rs:List Rw}{sm:List Int}{i:Int}{k:Nat},0<=i->k<M sm->(HC alive sm i rs).getD k 0=sm.getD k 0+(if i<=(k:Int)/\(k:Int)<i+M rs then smA alive (CX rs<|(k:Int)-i).2 else 0)
 | [],sm,i,k,_,_=>by
  rw [AE AI]
  simp [HC]
 | r ::rs,sm,i,k,hi,hk=>by
  rw [HC,aGM A0 A8,T2]
  by_cases e:i.toNat=k
  ·have e2:(k:Int)=i:=A0
   rw [AD ⟨e,hk⟩,AE A0,AD A8,e,e2]
   have:CX (r::rs) (i-i)=r:=by simp [CX]
   rw [this];omega
  ·rw [AE λc=>e c.1]
   by_cases c:i+1<=(k:Int)/\(k:Int)<i+1+M rs
   ·rw [AD c,AD A8]
    have:CX (r::rs) ((k:Int)-i)=CX rs ((k:Int)-(i+1)):=by
     unfold CX;rw [show ((k:Int)-i).toNat=((k:Int)-(i+1)).toNat+1 by omega]
     simp
    rw [this]
   ·grind
theorem aOO {alive:List Int}(ha:∀a∈alive,0<=a/\a<=80):∀ {l:List Int},(∀m∈l,0<=m/\m<(M alive:Int))->0<=smA alive l/\smA alive l<=80*M l
 | [],_=>by simp [smA]
 |m::l,h=>by
  have h1:=aOO ha (l:=l) λx hx=>h x A8
  have hm:=h m AI
  have:=ha (gi alive m)<|LH hm.1 hm.2
  rw [aEi];simp only [Bc];omega
def adW {α:Type}{l:List α}(p:α->Bool) (h:l.Nodup):(l.filter p).Nodup:=List.Pairwise.filter p h
def afI {cs:List Cd}{gs:List Ch}{o:Int}{k:Nat}:(Co cs gs o k).Nodup:=by
 refine adW _ ?_;exact xJ _ (λa b h=>A0) k8
def ato {gs:List Ch}{p k:Int}{l:List Int}:k∈Bs gs p l↔k∈l/\usA (AG gs k).2.2.1 p=true:=by simp [Bs,DK]
theorem ady {cs:List Cd}{gs:List Ch}{c p:Int}{r:Rw}(h:r∈rowP cs gs c p):r=(D6<|Ac cs c,Bs gs p<|Co cs gs c<|M gs)/\M (Bs gs p<|Co cs gs c<|M gs)>0:=by
 unfold rowP at h;exact lB
theorem pI {cs:List Cd}{gs:List Ch}{r:Rw}:∀ {k:Nat},r∈Cs cs gs k->∃c p:Int,(0<=c/\c<(k:Int))/\(p=0\/p=1\/p=2)/\r=(D6<|Ac cs c,Bs gs p<|Co cs gs c<|M gs)/\M r.2>0
 |0,h=>An
 | k+1,h=>by
  rw [Cs,Be] at h;rcases h with h|h
  ·obtain ⟨c,p,h1,h2,h3⟩:=pI h
   grind
  ·unfold aK at h
   rw [Be,Be] at h;rcases h with (h|h) |h
   ·exact xk
   ·exact xk
   ·exact xk
def row_mem {cs:List Cd}{gs:List Ch}{r:Rw}{k:Nat}(h:r∈Cs cs gs k):r.2.Nodup/\(∀m∈r.2,0<=m/\m<(M gs:Int))/\M r.2<=M gs/\M r.2>0:=by
 obtain ⟨c,p,h1,h2,h3,h4⟩:=pI h;subst h3;refine ⟨adW _ afI,λm hm=>cS (ato.1 hm).1,HU aH6 oM,h4⟩
def FJ (gs:List Ch) (lv:List Int):List Int:=(au<|M gs).map λk:Nat=>Cw gs (k:Int)<|lv.getD k 0
def OL (rows:List Rw):List (List Int):=HD (aq 16 []) 0 rows
def SM (alive:List Int) (rows:List Rw):List Int:=HC alive (aq (M rows) 0) 0 rows
def Fj (cs:List Cd) (os:List ByteArray) (ks:List Ko) (gs:List Ch) (bs:List Ba) (al mo od:List Int):Bool:=BA cs os ks gs bs&&(an (M al=M gs)&&(an (M mo=M gs)&&(al.all Hh&&(mo.all Hh&&GW od (M gs)))))
def shV (rows:List Rw) (gs:List Ch) (al mo od:List Int):List Int:=shl (OL rows) rows gs al mo od 81 1 (SM al rows)<|aq (M al) 0
def shE (cs:List Cd) (os:List ByteArray) (ks:List Ko) (gs:List Ch) (bs:List Ba) (al mo od:List Int):Int:=if Fj cs os ks gs bs al mo od=U then 0 else 1
def FN (cs:List Cd) (os:List ByteArray) (ks:List Ko) (gs:List Ch) (bs:List Ba) (al mo od:List Int):List Int:=if Fj cs os ks gs bs al mo od=U then FJ gs (shV (Cs cs gs<|M cs) gs al mo od) else []
def L6 {cs:List Cd}{os:List ByteArray}{ks:List Ko}{gs:List Ch}{bs:List Ba}{al mo od:List Int}:Fj cs os ks gs bs al mo od=U↔BA cs os ks gs bs=U/\M al=M gs/\M mo=M gs/\al.all Hh=U/\mo.all Hh=U/\GW od (M gs)=true:=by
 simp [Fj]
theorem aQa:∀ {l:List Int}{f:Int},JH f l<=f
 | [],f=>DU _
 |n::l,f=>by
  have:JH f (n::l)=JH (if n<f then n else f) l:=rfl
  have:=aQa (l:=l) (f:=if n<f then n else f)
  split at this<;>rename_i h
  ·grind
  ·grind
def arS {c:Cd}:D6 c<=c.2.2.1:=by
 unfold D6;split<;>exact aQa
def aDk {rows:List Rw}:M (OL rows)=16:=by rw [OL,aD6,Cf]
theorem ui {rows:List Rw}(h:∀r∈rows,zn r) {k:Nat}(hk:k<16):(OL rows).getD k []=Jq 0 rows k:=by
 rw [OL,aGN h A8]
 have:(aq 16 ([]:List Int)).getD k []=[]:=by
  grind
 grind
def aqy {cs:List Cd}{gs:List Ch}{k:Nat}:∀r∈Cs cs gs k,zn r:=λr hr=>⟨(row_mem hr).1,λm hm=>((row_mem hr).2.1 m hm).1⟩
def aCk {al:List Int}{rows:List Rw}:M (SM al rows)=M rows:=by rw [SM,aD5,Cf]
theorem aSb {al:List Int}{rows:List Rw}{k:Nat}(hk:k<M rows):(SM al rows).getD k 0=smA al (CX rows k).2:=by
 rw [SM,aGM (DU _) A8,AD A0,Pk]
 grind
def aCm {od:List Int}{n i:Int}(h:GW od n=U) (hi:i∈od):0<=i/\i<n:=by
 unfold GW at h;simp only [AY,BH] at h;exact oH.1<|h.2.1 i hi
theorem ajq {cs:List Cd}{os:List ByteArray}{ks:List Ko}{gs:List Ch}{bs:List Ba}{al mo od:List Int}(h:Fj cs os ks gs bs al mo od=U):letI b:=Cs cs gs<|M cs;OkT (OL b) b gs al mo od/\OkS b od (SM al b) (aq (M al) 0):=by
 obtain ⟨hv,h1,h2,h3,h4,h5⟩:=L6.1 h
 have hl:=(D5.1 hv).1
 have ha:∀a∈al,0<=a/\a<=80:=λa ha=>Q1.1<|BH.1 h3 a ha
 refine ⟨⟨aDk,λi hi=>?_,ha,λa ha=>Q1.1<|BH.1 h4 a ha,λi hi=>?_,λo ho=>?_,λr hr=>?_⟩,⟨aCk,λk=>?_,λi hi=>?_,λk=>?_⟩⟩
 ·have:=aCm h5 hi
  omega
 ·have hi:=aCm h5 hi
  have:=Q6 hv hi.1 hi.2
  exact aLq
 ·obtain ⟨k,hk,rfl⟩:=I7.1 ho
  rw [aDk] at hk
  have e:=ui (rows:=Cs cs gs<|M cs) aqy hk
  rw [DV,DX A8,kH] at e;rw [e]
  have hln:=aGd (rs:=Cs cs gs<|M cs) (i:=0) (j:=k)
  have hrn:=oG (cs:=cs) (gs:=gs) (k:=M cs)
  refine ⟨nY,A0,λr hr=>?_⟩
  have:=TD.1 hr
  omega
 ·obtain ⟨c,p,hc,hp,rfl,_⟩:=pI hr
  have hcv:=pD hv hc.1 hc.2
  unfold Hp at hcv;simp only [AY,CM] at hcv
  have:=arS (c:=Ac cs c)
  simp only;omega
 ·by_cases hk:k<M (Cs cs gs<|M cs)
  ·rw [aSb hk]
   have hr:CX (Cs cs gs<|M cs) (k:Int)∈Cs cs gs (M cs):=by rw [oS<|by simpa using hk];exact HS _
   obtain ⟨m1,m2,m3,_⟩:=row_mem hr
   have:=aOO ha (l:=(CX (Cs cs gs<|M cs) (k:Int)).2) λm hm=>A8
   omega
  ·rw [DV,SL (by rw [aCk];omega)]
   simp
 ·have:=aCm h5 hi
  rw [Cf];omega
 ·have:(aq (M al) (0:Int)).getD k 0=0:=by
   simp only [List.getD,ZB];split<;>rfl
  omega
theorem aGk {xs:List Int}{r:Nat}{v:Int}:(xs++aq (r+1) 0).set (M xs) v=xs++[v]++aq r 0:=by
 grind
def S6 (gs:List Ch) (lv:List Int) (n:Nat):List Int:=(au n).map λk:Nat=>Cw gs (k:Int)<|lv.getD k 0
def aft {gs:List Ch}{lv:List Int}{n:Nat}:S6 gs lv (n+1)=S6 gs lv n++[Cw gs (n:Int)<|lv.getD n 0]:=by
 simp [S6,SW]
def adD {gs:List Ch}{lv:List Int}{n:Nat}:M (S6 gs lv n)=n:=by simp [S6]
theorem ntW {b:Bool}(h:(!b)=U):b=false:=A8
theorem nfW {b:Bool}(h:(!b)=X):b=true:=A8
def wt (n:Int):Int:=(n*1000000+999799) / 999800
def wtA (n:Int):Int:=if inB n 0 1000000=U then wt n else 0
def wtE (n:Int):Int:=if inB n 0 1000000=U then 0 else 1
def aJl {m n:Int}:m*999800 / 1000000>=n↔wt n<=m:=by
 unfold wt;omega
def amH {a b:Int}(a0:0<=a) (a1:a<=3000000) (b0:0<=b) (b1:b<=1000000):0<=a*b/\a*b<=3000000000000:=
 ⟨Ia a0 b0,IX (Pd b1 a0) A0⟩
def aTw {n:Int}(h0:0<=n):0<=wt n/\wt n<=2*n+2:=by
 unfold wt;omega
abbrev AP:Ty:=.pair A7<|.pair A7<|.pair A7<|.pair A7 A7
abbrev Le:=Int×Int×Int×Int×Int
instance:Coe (List Le) LV:=⟨.xl AP⟩
def Al (l:List Le) (n:Int):Le:=l.getD n.toNat (0,0,0,0,0)
def DA (x:Le):Bool:=inB x.1 1 1000000&&(inB x.2.1 0 15&&(inB x.2.2.1 0 80&&(inB x.2.2.2.1 0 1000000&&inB x.2.2.2.2 1 1000)))
def Ji (b x:Le):Bool:=an (x.1>b.1)&&an (x.2.2.2.1>=b.2.2.2.1)
def Gk (l:List Le) (j:Int):Bool:=DA (Al l j)&&(an (j=0) ||Ji (Al l<|j-1) (Al l j))
def B1 (l:List Le):Bool:=an (M l<=64)&&Di (M l) (Gk l)
def NX {l:List Le}{n:Int}(h:n.toNat<M l):Al l n=l[n.toNat]:=O3 h
def W1 {l:List Le}{i:Int}(h0:0<=i) (h:i<M l):l.drop i.toNat=Al l i::l.drop (i+1).toNat/\l.take (i+1).toNat=l.take i.toNat++[Al l i]:=QD h0 h
theorem LA {l:List Le}{i:Int}(h0:0<=i) (h:i<M l):Al l i∈l:=by
 rw [NX A0]
 grind
def MR {x:Le}:DA x=U↔(1<=x.1/\x.1<=1000000)/\(0<=x.2.1/\x.2.1<=15)/\(0<=x.2.2.1/\x.2.2.1<=80)/\(0<=x.2.2.2.1/\x.2.2.2.1<=1000000)/\1<=x.2.2.2.2/\x.2.2.2.2<=1000:=by
 unfold DA;simp only [AY,CM]
theorem Gv {l:List Le}(h:B1 l=U):M l<=64/\∀x∈l,DA x=true:=by
 unfold B1 at h;rw [AY] at h;refine ⟨DY h.1,λx hx=>?_⟩
 obtain ⟨k,hk,rfl⟩:=I7.1 hx
 have:=Dq.1 h.2 k A0
 unfold Gk at this;rw [AY,NX A8] at this
 grind
def Mv (x:Le):Int:=x.2.2.2.1+10+wt x.2.2.2.2
def Lo (t:Int) (x:Le):Bool:=an<|Mv x>t
def LX (l:List Le) (t:Int):Bool:=B1 l&&inB t 0 1100000
def BX (l:List Le) (t:Int):List Le:=if LX l t=U then l.filter (Lo t) else []
def D9 (l:List Le) (t:Int):Int:=if LX l t=U then 0 else 1
def FL (l:List Le) (x:Le):Int:=if (B1 l&&DA x)=U then (if (an (M l>0)&&!Ji (Al l<|(M l:Int)-1) x)=U then 12 else if M l=64 then 10 else 0) else 1
def Hg (l:List Le) (x:Le):List Le:=if FL l x=0 then l++[x] else []
end Go.Proofs.YtmlcgekfmlidcaaGreatDoor
namespace Go.Sx
open Go.Proofs.YtmlcgekfmlidcaaGreatDoor
variable {P : Program} {G : B0} {Γ : Specs} {σ : Type}
structure CpD (σ:Type) where
 A:σ->List LV
 B:σ->List AB
 g:List LV->List AB->σ
 E:σ->Prop
 mu:σ->Nat
 r:σ->σ
namespace CpD
variable (D : CpD σ)
def m (n:Nat) (args:List LV) (H:List AB):T (LV×List AB):=(Ux H args).bind λa=>(aT H H).bind λb=>
 .req (D.E (D.g a b)/\D.mu (D.g a b)<n/\D.A (D.g a b)=a/\D.B (D.g a b)=b) (.ok (.v<|.tuple #[],D.B<|D.r<|D.g a b))
variable {D}
def fG {n:Nat}{args:List LV}{H:List AB}{q:LV×List AB}(h:(D.m n args H).all λz=>z=q):∃s,D.E s/\D.mu s<n/\D.A s=args/\D.B s=H/\q=(.v<|.tuple #[],D.B<|D.r s):=by
 unfold m at h;obtain ⟨a,h1,h2⟩:=T.B4 h;obtain ⟨b,h3,h4⟩:=T.B4 h2
 have e1:=cr h1
 have e2:=cz h3
 obtain ⟨⟨g1,g2,g3,g4⟩,g5⟩:=h4;exact ⟨_,g1,g2,g3.trans e1,g4.trans e2,g5.symm⟩
def one (c:FuncId) (m:List LV->List AB->T (LV×List AB)):Does:=λg=>if g=c then ah m else aj
def WL {c:FuncId}{m:List LV->List AB->T (LV×List AB)}(h:Df P G c m):∀g m',one c m g=ah m'->Df P G g m':=λg m' e=>by
 unfold one at e;split at e
 ·rename_i q
  subst q;cases e;exact h
 ·cases e
def sound {LL:DL}{c:FuncId}{d:Nat}(hΓ:∀g S,Γ g=ah S->Valid P G g S) (hLL:EL P G LL)
  (hstep:∀(n:Nat) (s:σ),D.E s->D.mu s<=n->SF (λq=>q=(.v<|.tuple #[],D.B<|D.r s)) ((Ec P G Γ LL<|Uv P G Γ LL (one c<|D.m n) d).k c (D.A s)<|D.B s)):∀n,Df P G c (D.m n)
 |0=>λw0 Z0 Z β H w args vals lv H' hW hr hok hq=>by
  obtain ⟨s,_,h,_⟩:=fG hq;exact absurd h (Nat.not_lt_zero _)
 |n+1=>Df.walk hΓ hLL (aCB hΓ hLL (WL<|sound hΓ hLL hstep n) d) λargs H lv H' hq=>by
  obtain ⟨s,h1,h2,h3,h4,h5⟩:=fG hq;rw [<-h3,<-h4,h5];exact (hstep n s h1<|Nat.le_of_lt_succ h2).out
end CpD
end Go.Sx
namespace Go.Sx
open Go Go.RowKit Go.Proofs.YtmlcgekfmlidcaaGreatDoor
variable {P : Program} {G : B0} {Γ : Specs} {σ τ : Type}
def QZ (ks:List Nat) (H:List AB):List AB:=ks.foldl (λH k=>H.set k ⟨[],0,.dead,X⟩) H
def aeE (ks:List Nat):∀(H:List AB),M (QZ ks H)=M H:=by
 induction ks with
 |nil=>intro H;rfl
 |cons k ks ih=>intro H;simp only [QZ,Jw] at ih|-;rw [ih];simp
def RW.kills {w0 w:World}{Z0:Gz}{Z:Nat->Prop}{β:Nat->Loc}(ks:List Nat):∀ {H:List AB},RW G w0 Z0 Z β H w->RW G w0 Z0 Z β (QZ ks H) w:=by
 induction ks with
 |nil=>intro H h;exact h
 |cons k ks ih=>intro H h;simp only [QZ,Jw] at ih|-;exact ih<|h.kill k 0
structure Cx (σ τ:Type) where
 A:σ->List LV
 B:σ->List AB
 g:List LV->List AB->σ
 E:σ->Prop
 kl:List Nat
 us:List Up
 V:τ->LV
 C:τ->List AB
 r:σ->τ
namespace Cx
variable {D : Cx σ τ}
def m (D:Cx σ τ) (args:List LV) (H:List AB):T (LV×List AB):=(Ux (QZ D.kl H) args).bind λa=>(aT (QZ D.kl H)<|QZ D.kl H).bind λb=>
 .req (D.E (D.g a b)/\D.A (D.g a b)=a/\D.B (D.g a b)=b) (.ok (D.V<|D.r<|D.g a b,D.C<|D.r<|D.g a b))
def fG {args:List LV}{H:List AB}{q:LV×List AB}(h:(D.m args H).all λz=>z=q):∃s,D.E s/\D.A s=args/\D.B s=QZ D.kl H/\q=(D.V<|D.r s,D.C<|D.r s):=by
 obtain ⟨a,h1,h2⟩:=T.B4 h;obtain ⟨b,h3,h4⟩:=T.B4 h2
 have e1:=cr h1
 have e2:=cz h3
 obtain ⟨⟨g1,g3,g4⟩,g5⟩:=h4;exact ⟨_,g1,g3.trans e1,g4.trans e2,g5.symm⟩
theorem sound {LL:DL}{K:Hand}{c:FuncId}{t:σ->T τ}(hΓ:∀g S,Γ g=ah S->Valid P G g S) (hLL:EL P G LL) (hK:FF P G K)
  (hnf:∀s,((Ec P G Γ LL K).k c (D.A s)<|D.B s).bind (λq=>G6 (M<|D.B s) [0] D.us .normal (q.1::D.A s) q.2)=(t s).mp (λs2=>⟨.normal,M (D.A s)+1,[D.V s2],D.C s2,U⟩))
  (ht:∀s,D.E s->SF (λs2=>s2=D.r s) (t s)):Df P G c D.m:=λw0 Z0 Z β H w args vals lv H' hW hr hok hq=>by
 obtain ⟨s,h1,h2,h3,h4⟩:=fG hq;simp only [Av] at h4;obtain ⟨rfl,rfl⟩:=h4
 have hall:((t s).mp λs2=>(⟨.normal,M (D.A s)+1,[D.V s2],D.C s2,U⟩:Vw)).all (λz=>z=⟨.normal,M (D.A s)+1,[D.V<|D.r s],D.C<|D.r s,U⟩):=T.Wp<|T.BT (λx hx=>by rw [hx]) (ht s h1).out
 rw [<-hnf s] at hall;obtain ⟨⟨lv1,H1⟩,q1,q2⟩:=T.B4 hall;simp only at q2
 have hWk:RW G w0 Z0 Z β (D.B s) w:=by rw [h3];exact hW.kills D.kl
 have hlen:M (D.B s)=M H:=by rw [h3,aeE]
 have hsz:vals.size=M args:=by have:=hr.length;simpa using this
 let a0:Act:={tmps:=vals,defers:=[]}
 have hF0:RF [] β Z w (M<|D.B s) args a0:=by
  refine ⟨hsz,λt x hx=>?_,rfl,λd hd=>VN⟩
  obtain ⟨y,e1,e2⟩:=RL.get t x hr hx
  have:vals.getD t undef=y:=by
   have e3:t<vals.size:=A8
   have e4:vals[t]? =ah y:=by simpa using e1
   rw [Pg e3] at e4
   simp [Array.getD,e3,E5 e4]
  refine ⟨?_,by rw [hlen];exact AR.get t x hok hx⟩
  show R β Z w x (vals.getD t undef)
  rw [this];exact e2
 rw [h2] at q1;refine ((nM hΓ hLL hK).k w0 _ Z β (D.B s) w c args vals lv1 H1 (hWk.hold hF0) hr (by rw [hlen];exact hok) q1).mono λe w' ⟨v,he,Z',β',r1,r2,r3⟩=>⟨v,he,?_⟩
 have hF1:=RW.held hF0 r1
 have hF2:RF [] β' Z' w' (M H1) (lv1::D.A s) {tmps:=#[v]++vals,defers:=[]}:=by
  refine ⟨by simp [h2,hsz];omega,λt x hx=>?_,rfl,λd hd=>VN⟩
  cases t with
  | zero=>
   simp only [List.getElem?_cons_zero,Ag] at hx;subst hx
   exact ⟨by
    have e:(#[v]++vals).getD 0 undef=v:=aNN
    rw [e];exact r2,r3⟩
  | succ t=>
   rw [h2] at hx
   have:=hF1.get t x hx
   have e:(#[v]++vals).getD (t+1) undef=vals.getD t undef:=by
    have ht:t<vals.size:=A8
    simp [Array.getD,ht,Array.getElem_append,show t+1<1+vals.size by omega]
   grind
 have hgh:AN (M<|D.B s) Z0:=λp hp=>by rw [hlen];exact (hW.gh p hp).2
 obtain ⟨_,_,Z2,β2,k1,k2⟩:=bu hgh r1.less hF2 q2 rfl;refine ⟨Z2,β2,k1,?_⟩
 have hx:(Ha (M (lv1::D.A s)) [0] [D.V<|D.r s])[0]? =ah (D.V<|D.r s):=by
  simp [Ha,QE,at_]
 have:=k2.get 0 _ hx
 have e:(#[v]++vals).getD 0 undef=v:=aNN
 refine ⟨?_,this.2⟩
 have h5:=this.1
 rwa [e] at h5
end Cx
def ER (n m:Nat):List Nat:=(au n).map (·+m)++au m
theorem aws {n m i:Nat}(h:i<n):(ER n m)[i]? =ah (i+m):=by
 unfold ER;rw [HQ A8]
 simp [h]
def awt {n m i:Nat}(h:i<m):(ER n m)[n+i]? =ah i:=by
 unfold ER
 simp [h]
def aGj {n m:Nat}:M (ER n m)=n+m:=by simp [ER]
theorem dU {n m k:Nat}:k∈ER n m↔k<n+m:=by
 unfold ER;simp only [Be,Em,IZ];refine ⟨λh=>?_,λh=>?_⟩
 ·omega
 ·by_cases h1:k<m
  ·grind
  ·exact .inl ⟨k-m,A0,A0⟩
theorem aE4:∀ {ks:List Nat},ks.Nodup->nodupB ks=U
 | [],_=>rfl
 |k::ks,h=>by
  obtain ⟨h1,h2⟩:=M5.1 h;simp only [nodupB,AY,DB];exact ⟨A8,aE4 h2⟩
theorem afk {n m:Nat}:nodupB (ER n m)=true:=by
 apply aE4
 unfold ER;rw [xH];refine ⟨?_,k8,λx hx y hy e=>?_⟩
 ·exact xJ _ (λa b (h:a≠b) e=>h A8)<|k8 (n:=n)
 ·obtain ⟨j,_,rfl⟩:=Em.1 hx
  have:=IZ.1 hy
  omega
theorem RW.join {w0 w w':World}{Z0:Gz}{Z Z':Nat->Prop}{β β':Nat->Loc}{H Hn:List AB}(hW:RW G w0 Z0 Z β H w) (hS:RW G w ⟨Z,[],[]⟩ Z' β' Hn w'):
  ∃β2,(∀k,k<M H->β2 k=β k)/\(∃β1,(∀k,k<M Hn->β1 k=β' k)/\Rn (ER (M H)<|M Hn) β1 β2)/\RW G w0 Z0 (λb=>Z b\/Z' b) β2 (H++Hn.map (IL<|ER (M H)<|M Hn)) w':=by
 generalize hn:M H=n;generalize hm:M Hn=m
 let β1:Nat->Loc:=λk=>if k<m then β' k else β (k-m)
 have hb1:∀k,k<m->β1 k=β' k:=λk hk=>by simp only [β1];rw [AD hk]
 have hb1':∀k,β1 (k+m)=β k:=λk=>A8
 have hD:RW G w ⟨Z,[],[]⟩ Z' β1 (Hn++aq n G3) w':=hS.abX λk hk=>hb1 k<|hm▸hk
 have hget:∀k,k<m->(Hn++aq n G3)[k]? =Hn[k]? :=λk hk=>HQ<|hm▸hk
 have hgetd:∀k,m<=k->k<n+m->(Hn++aq n G3)[k]? =ah G3:=λk h1 h2=>by
  grind
 have hcl:KC (Hn++aq n G3) (ER n m) []=true:=by
  unfold KC;simp only [AY,BH];refine ⟨λx hx=>by simp [ownsL] at hx,λk hk=>?_⟩
  have hk:=dU.1 hk
  by_cases h1:k<m
  ·rw [hget k h1]
   obtain ⟨b,hb⟩:∃b,Hn[k]? =ah b:=⟨_,DX<|hm▸h1⟩;rw [hb];simp only [BH];intro j hj
   have:=aEY (hS.blk k b hb).2 j hj
   rw [ZL,dU];omega
  ·rw [hgetd k A0 hk]
   simp [G3,AB.owns,ownsL]
 obtain ⟨β2,r1,r2⟩:=hD.ren (N:=0) (Z0:=⟨Z,[],[]⟩) (λp hp=>lh) hcl afk MB
 have hag:∀k,k<n->β2 k=β k:=λk hk=>by rw [r1 k (k+m)<|aws hk,hb1']
 have hnew:∀i,i<m->((ER n m).map λk=>IL (ER n m)<|(Hn++aq n G3).getD k Tz)[n+i]? =(Hn[i]?).map (IL<|ER n m):=λi hi=>by
  rw [Dc,awt hi];simp only [JQ,DV,hget i hi];rw [DX<|hm▸hi]
  simp
 refine ⟨β2,hag,⟨β1,hb1,r1⟩,?_⟩
 have hbw:Below w.heap.size w w':=hS.below
 have old:∀i b,(H++Hn.map (IL<|ER n m))[i]? =ah b->(i<n/\H[i]? =ah b/\β2 i=β i)\/(n<=i/\((ER n m).map λk=>IL (ER n m)<|(Hn++aq n G3).getD k Tz)[i]? =ah b):=λi b h=>by
  by_cases hi:i<n
  ·rw [HQ<|hn▸hi] at h
   exact .inl ⟨hi,h,hag i hi⟩
  ·have hlt:=(E6.1 h).1
   simp only [BD,Fz,hn,hm] at hlt;rw [GG A0,Dc,hn] at h;refine .inr ⟨A0,?_⟩
   have:=hnew (i-n) A0
   rw [show n+(i-n)=i by omega] at this
   rw [this];exact h
 have hlive:∀i b,i<n->β2 i=β i->(live β2 i b↔live β i b):=λi b _ e=>by unfold live;rw [e]
 have hlen:M (H++Hn.map (IL<|ER n m))=n+m:=by simp [hn,hm]
 have hlen2:M ((ER n m).map λk=>IL (ER n m)<|(Hn++aq n G3).getD k Tz)=n+m:=by simp [aGj]
 refine ⟨⟨hbw.os.trans hW.below.os,hbw.tape.trans hW.below.tape,hbw.output.trans hW.below.output,HU hW.below.size hbw.size,λk hk=>?_⟩,λb hz=>?_,λb hz=>?_,λi b hb hl hp=>?_,λi b hb hl hp=>?_,λi b hb hl=>?_,λi j bi bj hi hj li lj pi e=>?_,λi b hb=>?_,?_,λp hp=>?_,λD hD=>?_⟩
 ·rw [hbw.block k<|ZO hk hW.below.size];exact hW.below.block k hk
 ·rcases hz with h|h
  ·exact ZO (hW.BV b h) hbw.size
  ·exact hS.BV b h
 ·rcases hz with h|h
  ·exact hW.Ef b h
  ·rcases hS.Ef b h with h|h
   ·exact hW.Ef b h
   ·exact .inr<|HU hW.below.size h
 ·rcases old i b hb with ⟨h1,h2,h3⟩ |⟨h1,h2⟩
  ·have hl':=(hlive i b h1 h3).1 hl
   rw [h3];intro hz;rcases hz with h|h
   ·exact hW.Cg i b h2 hl' hp h
   ·rcases hS.Ef _ h with h|h
    ·exact hW.Cg i b h2 hl' hp h
    ·have:=hW.lt h2 hl'
     omega
  ·intro hz
   rcases hz with h|h
   ·have h4:=r2.low i b h2 hl
    have:=hW.BV _ h
    omega
   ·exact r2.Cg i b h2 hl hp h
 ·rcases old i b hb with ⟨h1,h2,h3⟩ |⟨h1,h2⟩
  ·rw [h3];exact .inl<|hW.G5 i b h2 ((hlive i b h1 h3).1 hl) hp
  ·exact .inr<|r2.G5 i b h2 hl hp
 ·rcases old i b hb with ⟨h1,h2,h3⟩ |⟨h1,h2⟩
  ·rw [h3];exact hW.low i b h2<|(hlive i b h1 h3).1 hl
  ·exact HU hW.below.size<|r2.low i b h2 hl
 ·rcases old i bi hi with ⟨h1,h2,h3⟩ |⟨h1,h2⟩<;>rcases old j bj hj with ⟨g1,g2,g3⟩ |⟨g1,g2⟩
  ·rw [h3,g3] at e
   exact hW.inj i j bi bj h2 g2 ((hlive i bi h1 h3).1 li) ((hlive j bj g1 g3).1 lj) pi e
  ·rw [h3] at e
   have:=hW.lt h2<|(hlive i bi h1 h3).1 li
   have:=r2.low j bj g2 lj
   omega
  ·rw [g3] at e
   have:=hW.lt g2<|(hlive j bj g1 g3).1 lj
   have:=r2.low i bi h2 li
   omega
  ·exact r2.inj i j bi bj h2 g2 li lj pi e
 ·rcases old i b hb with ⟨h1,h2,h3⟩ |⟨h1,h2⟩
  ·obtain ⟨q1,q2⟩:=hW.blk i b h2
   refine ⟨BU.keep (n:=M H) (λk hk=>hag k<|hn▸hk) (λ_ h=> .inl h) (λb hz=>hbw.block b<|hW.BV b hz) h3 (λhl=>hbw.block _<|hW.lt h2 hl) q2 q1,?_⟩
   rw [hlen]
   exact ⟨AR.mono A0 _ q2.1,by
    have:=q2.2
    cases hk:b.k with
    |mp kd ks vs=>rw [hk] at this;exact AR.mono A0 _ this
    |_=>trivial⟩
  ·obtain ⟨q1,q2⟩:=r2.blk i b h2
   refine ⟨BU.keep (n:=n+m) (λ_ _=>rfl) (λ_ h=> .inr h) (λ_ _=>rfl) rfl (λ_=>rfl) (by rw [hlen2] at q2;exact q2) q1,?_⟩
   rw [hlen];rw [hlen2] at q2;exact q2
 ·exact hW.CW.mono (λ_ h=> .inl h) λb hz=>hbw.block b<|hW.BV b hz
 ·obtain ⟨q1,q2⟩:=hW.gh p hp
  exact ⟨R.mono (n:=M H) (λk hk=>hag k<|hn▸hk) (λ_ h=> .inl h) (λb hz=>hbw.block b<|hW.BV b hz) _ _ q2 q1,okV.mono (by rw [hlen];omega) _ q2⟩
 ·obtain ⟨q1,q2⟩:=hW.Cj D hD
  exact ⟨.inl q1,by unfold Fe at*;rw [hbw.block D<|hW.BV D q1];exact q2⟩
def QO (S:List LV->T (LV×List AB)) (args:List LV) (H:List AB):T (LV×List AB):=
 if noOwnL args then (S args).bind λq=> .ok (renV (ER (M H)<|M q.2) q.1,H++q.2.map (IL<|ER (M H)<|M q.2)) else .no
theorem aFG {g:FuncId}{m:List LV->List AB->T (LV×List AB)}(h:Df P G g m):Df P G g (QO λargs=>m args []):=λw0 Z0 Z β H w args vals lv H' hW hr hok hq=>by
 unfold QO at hq;split at hq
 ·rename_i hno
  obtain ⟨⟨lv1,Hn⟩,h1,h2⟩:=T.B4 hq;obtain ⟨rfl,rfl⟩:=h2
  have hok0:=noOwnL_ok args hno hok
  have hW1:RW G w ⟨Z,[],[]⟩ Z β [] w:=⟨Below.refl _ _,hW.BV,λb hz=> .inl hz,λk b hb=>A8,λk b hb=>A8,λk b hb=>A8,λi j bi bj hb=>AI,λk b hb=>A8,hW.CW,λp hp=>lh,λD hD=>(by cases hD)⟩
  refine (h w ⟨Z,[],[]⟩ Z β [] w args vals lv1 Hn hW1 hr hok0 h1).mono λe w' ⟨v,he,Z',β',r1,r2,r3⟩=>⟨v,he,?_⟩
  obtain ⟨β2,a1,⟨β1,a2,a3⟩,a4⟩:=hW.join r1;refine ⟨_,β2,a4,?_,?_⟩
  ·have q:=R.mono (n:=M Hn) (Z':=λb=>Z b\/Z' b) (w':=w') a2 (λ_ h=> .inr h) (λ_ _=>rfl) _ _ r3 r2
   exact ren_R a3 _ _ (λk hk=>dU.2 aNn) r3 q
  ·have:=ren_ok (ks:=ER (M H)<|M Hn) _ (λk hk=>dU.2 aNn) r3
   rw [aGj] at this
   grind
 ·cases hq
end Go.Sx
namespace Go.Proofs.YtmlcgekfmlidcaaGreatDoor
set_option maxRecDepth 100000
set_option maxHeartbeats 4000000
open Go.Proofs.Tryz
open Go.Sx
def Ua:Nat->Int
 |0=>1
 |1=>1
 |2=>1
 |3=>0
 |4=>2
 |5=>2
 |_=>3
def Wc (j:Nat):Int:=[-1,-1,-1,-1,-1,-1,1,-1,-1,-1,-1,-1,-1,0,-1,-1,-1,-3,-1,2,-1,-1,-1,-1,-1,-1,-3,-1,-1,-1,-1,-1,-1,4,-1,-1,-1,-1,-1,-1,-3,-1,-2,-2,-2,-2,-2,-2,-2,-2,-2,-2,-2,-2,0,1,1,1,1,-3].getD j 0
def aBM:Nat->Int
 |0=>4
 |1=>1
 |2=>1
 |3=>4
 |_=>2
def AU:B0:=fun
 |2=>ah (8,λj=> Y J<|Ua j)
 |0=>ah (60,λj=> Y J<|Wc j)
 |1=>ah (5,λj=> Y J<|aBM j)
 |_=>aj
structure Bd where
  f:FuncId
  S:List LV->T LV
  v:Valid prog AU f S
def gm:List Bd->Specs
  | [],_=>aj
  |b::l,g=>if g=b.f then ah b.S else gm l g
def gk:∀(l:List Bd) g S,gm l g=ah S->Valid prog AU g S
  | [],_,_,h=>An
  | b::l,g,S,h=>by
    simp only [gm] at h;split at h
    · rename_i hg;simp only [Ag] at h;subst h hg;exact b.v
    · exact gk l g S h
structure LBx where
  L:DL
  h:EL prog AU L
structure Aw where
  K:Hand
  h:FF prog AU K
structure Db where
  g:FuncId
  m:List LV->List AB->T (LV×List AB)
  c:Df prog AU g m
instance {f:FuncId} {S:List LV->T LV}:CoeOut (Valid prog AU f S) Bd:=⟨λv=>⟨f,S,v⟩⟩
instance:Coe (List Bd) Specs:=⟨gm⟩
instance:Coe Aw Hand:=⟨Aw.K⟩
def kN:Aw:=⟨Fx,Q0⟩
def l0 (l:List Bd):LBx:=⟨Du prog AU (gm l) 20 2,Hb<|gk l⟩
def la (id:Nat) {g:FuncId}{N:Nat}{t:List LV->List AB->T (Ex×List LV×List AB)}{fn:Func}{bd:Code}(hfn:prog.funcs[g]? =ah fn) (ht:GV prog AU (AN N) (.loop bd) t) (h:LBx) (hc:fn.body=ah (fn.body.getD .skip):=by kernel_rfl) (hid:(BB<|fn.body.getD .skip).filter (λb=>GS b==id)=[bd]:=by kernel_rfl):LBx:=⟨CS g N id t h.L,DD hfn hc hid ht h.h⟩
def kI (l:List Bd) (h:LBx):Aw:=⟨inl prog AU (gm l) h.L 9,aCn (gk l) h.h 9⟩
def dm:List Db->Does
  | [],_=>aj
  |p::ps,g=>if g=p.g then ah p.m else dm ps g
def dk:∀(l:List Db) g m,dm l g=ah m->Df prog AU g m
  | [],_,_,e=>Sk
  | p::ps,g,m,e=>by
    simp only [dm] at e;split at e
    · rename_i hg;simp only [Ag] at e;subst e hg;exact p.c
    · exact dk ps g m e
def I1 (l:List Bd) (h:LBx) (C:List Db):Aw:=⟨Uv prog AU (gm l) h.L (dm C) 9,aCB (gk l) h.h (dk C) 9⟩
abbrev VV (f:FuncId) (S:List LV->T LV):=Valid prog AU f S
abbrev SA {σ:Type}(N:Nat) (b:Code) (D:AS σ):=GV prog AU (AN N) (.loop b) D.lp
abbrev uS (fn:Func) (S:List LV->T LV):=Jr prog fn.params.toList S
abbrev lN (c:Code) (k:Nat):Code:=((BB c)[k]?).getD .skip
abbrev bN (fn:Func) (k:Nat):Code:=lN (fn.body.getD .skip) k
def vo {f:FuncId}{fn:Func}{S:List LV->T LV}(hfn:prog.funcs[f]? =ah fn) (l:List Bd) (h:Aw) (hS:∀args lv,(S args).all (λx=>x=lv)->SF (λx=>x=lv) (Bg prog AU (gm l) h.K Ak fn<|canL args)) (hc:fn.body=ah (fn.body.getD .skip):=by kernel_rfl) (e:BB (fn.body.getD .skip)=[]:=by kernel_rfl):Valid prog AU f (Jr prog fn.params.toList S):=nk hfn hc (gk l) h.h (p7 e) λa v q=>(hS a v q).out
def vl {f:FuncId}{fn:Func}{S:List LV->T LV}{t:List LV->List AB->T (Ex×List LV×List AB)}{bd:Code}(hfn:prog.funcs[f]? =ah fn) (l:List Bd) (h:Aw) (k:Nat) (sn:Sound prog AU (.loop bd) t) (hS:∀args lv,(S args).all (λx=>x=lv)->SF (λx=>x=lv) (Bg prog AU (gm l) h.K (λi=>if i=k then t else Ak i) fn<|canL args)) (hc:fn.body=ah (fn.body.getD .skip):=by kernel_rfl) (e:BB (fn.body.getD .skip)=[bd]:=by kernel_rfl) (hk:GS bd=k:=by kernel_rfl):Valid prog AU f (Jr prog fn.params.toList S):=nk hfn hc (gk l) h.h (L:=λi=>if i=k then t else Ak i) (λb hb=>by
  rw [e,I6] at hb;subst hb
  show Sound _ _ _ (if GS b=k then t else Ak (GS b))
  rw [AD hk];exact sn) λa v q=>(hS a v q).out
def vm {f:FuncId}{fn:Func}{S:List LV->T LV}{L:LM}(hfn:prog.funcs[f]? =ah fn) (l:List Bd) (h:Aw) (hL:∀b∈BB (fn.body.getD .skip),Sound prog AU (.loop b)<|L<|GS b) (hS:∀args lv,(S args).all (λx=>x=lv)->SF (λx=>x=lv) (Bg prog AU (gm l) h.K L fn<|canL args)) (hc:fn.body=ah (fn.body.getD .skip):=by kernel_rfl):Valid prog AU f (Jr prog fn.params.toList S):=nk hfn hc (gk l) h.h hL λa v q=>(hS a v q).out
def Ap {t:T LV}(t':T LV) {K:LV->Prop}(h':t'.all K) (h:t=t':=by kernel_rfl):SF K t:=⟨aDx h h'⟩
def Da {σ:Type}(I:σ->Prop) (mu:σ->Nat) (Q:Ex->σ->σ->Prop) (t:σ->T (Rd σ)):Prop:=∀s,I s->DO (λs'=>I s'/\mu s'<mu s) (λx s'=>Q x s s') ((t s).rd s)
def Rq {σ:Type}(I:σ->Prop) (t:σ->T (Rd σ)):Prop:=∀s,I s->(t s).all (λ_=>True)
def Fi {σ:Type}(E I:σ->Prop) (Q:Ex->σ->σ->Prop) (x:σ->Ex) (r:σ->σ):Prop:=∀s,E s->∃s',I s'/\Q (x s) s' (r s)
def Rs {σ Y:Type}(E:σ->Prop) (x:σ->Ex) (r:σ->σ) (V:σ->Y) (K:Ex->σ->Y->Prop):Prop:=∀s,E s->K (x s) (r s) (V s)
variable {σ : Type} {D : AS σ} {Q : Ex -> σ -> σ -> Prop} {b : Code}
def DN (o:D.Ok) (p:D.Pf Q) {Y:Type}{V:σ->Y}{K:Ex->σ->Y->Prop}(hv:∀s,D.I s->DO (λs'=>V s'=V s) (λx s'=>K x s'<|V s) (D.f s)):Rs D.E D.At D.run V K:=λs hE=>AS.wC o p V K hv s hE
def s1 (o:D.Ok) (p:D.Pf Q) (l:List Bd) (h:Aw) (e:BB b=[]:=by kernel_rfl) (hn:∀s,iG D.N D.lv D.us (DE prog AU (gm l) h.K (Lp Ak) b (Ha D.n D.lv<|D.A<|D.rd s)<|D.B<|D.rd s)=(D.t<|D.rd s).mp (rdV D.n D.A D.B):=by intro s;kernel_rfl):GV prog AU (AN D.N) (.loop b) D.lp:=AS.snd o p (GM (gk l) h.h b (λb hb=>by rw [e] at hb;cases hb)) hn
def s2 (o:D.Ok) (p:D.Pf Q) (l:List Bd) (h:Aw) (hn:∀s,iG D.N D.lv D.us (DE prog AU (gm l) h.K (J0 prog AU (gm l) h.K 20 2) b (Ha D.n D.lv<|D.A<|D.rd s)<|D.B<|D.rd s)=(D.t<|D.rd s).mp (rdV D.n D.A D.B):=by intro s;kernel_rfl):GV prog AU (AN D.N) (.loop b) D.lp:=AS.snd o p (GM (gk l) h.h b λb _=>Sn (gk l) h.h 20 2 b) hn
end Go.Proofs.YtmlcgekfmlidcaaGreatDoor
namespace Go.Proofs.YtmlcgekfmlidcaaGreatDoor
set_option maxRecDepth 100000
set_option maxHeartbeats 4000000
open Go.Proofs.Tryz
open Go.Sx
abbrev B3:Ty:=.pair A7<|.pair A7<|.pair A7 .bool
abbrev St:=Int×Int×Int×Bool
instance:Coe (List St) LV:=⟨.xl B3⟩
def Bq (l:List St) (n:Int):St:=l.getD n.toNat (0,0,0,X)
def sV (c:Ch) (s:St):Bool:=IT c.2.2.1 c.2.2.2.1 c.2.2.2.2.1 c.2.2.2.2.2.1 c.2.2.2.2.2.2.1&&(inB s.1 0 5&&(inB s.2.2.1 0 1000000&&(inB s.2.1 0 c.2.2.2.2.1&&((s.2.2.1 !=0 ||s.2.1==0)&&(!s.2.2.2 ||s.1==5)))))
def aOC {c:Ch}{s:St}:sV c s=U↔IT c.2.2.1 c.2.2.2.1 c.2.2.2.2.1 c.2.2.2.2.2.1 c.2.2.2.2.2.2.1=U/\0<=s.1/\s.1<=5/\0<=s.2.2.1/\s.2.2.1<=1000000/\0<=s.2.1/\s.2.1<=c.2.2.2.2.1/\(s.2.2.1=0->s.2.1=0)/\(s.2.2.2=U->s.1=5):=by
 obtain ⟨p,a,l,w⟩:=s;unfold sV;cases w<;>simp [CM]<;>omega
def evV (mx k n m:Int):Bool:=if k=4 then inB n 0 1 else if k=6 then inB n 0 2 else if k=7 then inB m 1 1000000&&inB n 0 mx else U
def phF (p:Int) (w:Bool) (k n:Int):Int:=
 if k=1 then (if p=0 then 1 else -1)
 else if k=2 then (if p=5/\w=U then 5 else if p=1\/p=5 then 0 else -1)
 else if k=3 then (if p=1 then 2 else -1)
 else if k=4 then (if p=2 then (if n=1 then 3 else 5) else -1)
 else if k=5 then (if p=3 then 4 else -1)
 else if k=6 then (if p=4 then (if n=0 then 1 else 5) else -1)
 else if k=9 then (if p=0\/w=U then p else 1)
 else p
def tkF (l:Int):Int:=if 0<l-1 then l-1 else 0
def sL (l k m:Int):Int:=if k=7 then m else if k=8 then tkF l else if k=9 then 0 else l
def sA (a l k n:Int):Int:=if k=7 then n else if k=8 then (if tkF l=0 then 0 else a) else if k=9 then 0 else a
def sW (w:Bool) (k n:Int):Bool:=w ||(k==6&&n==1)
def sE (c:Ch) (s:St) (k n m:Int):Int:=
 if sV c s=U then (if inB k 1 9=U then (if evV c.2.2.2.2.1 k n m=U then (if phF s.1 s.2.2.2 k n<0 then 6 else 0) else 1) else 9) else 1
def sN (c:Ch) (s:St) (k n m:Int):St:=if sE c s k n m=0 then (phF s.1 s.2.2.2 k n,sA s.2.1 s.2.2.1 k n,sL s.2.2.1 k m,sW s.2.2.2 k n) else (0,0,0,X)
def Bk (c:Ch) (s:St):Int:=if sV c s=U then (if s.2.2.2=U then c.2.2.2.2.1 else if s.1≠4 then 0 else if s.2.2.1≠0 then s.2.1 else c.2.2.2.2.2.2.1) else 0
def mV (k p:Int):Int:=
 if k=1 then (if p=0 then 1 else -1)
 else if k=2 then (if p=1 then 0 else if p=5 then -3 else -1)
 else if k=3 then (if p=1 then 2 else -1)
 else if k=4 then (if p=2 then -3 else -1)
 else if k=5 then (if p=3 then 4 else -1)
 else if k=6 then (if p=4 then -3 else -1)
 else if k=7 then -2
 else if k=8 then -2
 else if p=0 then 0 else if p=5 then -3 else 1
theorem ah8 {k p:Int}(h1:1<=k) (h2:k<=9) (h3:0<=p) (h4:p<=5):Wc (k.toNat*6+(p.toNat*1+0))=mV k p:=by
 have key:∀e:Fin 10,∀s:Fin 6,1<=e.val->Wc (e.val*6+(s.val*1+0))=mV (e.val:Int) (s.val:Int):=Ae
 have:=key ⟨k.toNat,A0⟩ ⟨p.toNat,A0⟩ A8
 grind
def dcP (p:Int) (w:Bool) (k n:Int):Int:=if k=4 then (if n=1 then 3 else 5) else if k=6 then (if n=0 then 1 else 5) else if k=2 then (if w=U then p else 0) else if k=9 then (if w=U then p else 1) else p
def dcW (w:Bool) (k n:Int):Bool:=if k=6 then n==1 else w
def nine {k:Int}(h1:1<=k) (h2:k<=9):k=1\/k=2\/k=3\/k=4\/k=5\/k=6\/k=7\/k=8\/k=9:=A0
def amW {p:Int}(h1:0<=p) (h2:p<=5):p=0\/p=1\/p=2\/p=3\/p=4\/p=5:=A0
abbrev Ca:=Int×Int×Int×Int×Int
def BZ (l:List Ca) (n:Int):Ca:=l.getD n.toNat (0,0,0,0,0)
abbrev B6:Ty:=.pair (.sl A7)<|.pair A7 A7
abbrev Mi:=List Int×Int×Int
instance:Coe (List Mi) LV:=⟨.xl B6⟩
def Ck (l:List Mi) (n:Int):Mi:=l.getD n.toNat ([],0,0)
abbrev BO:Ty:=.pair A7<|.pair A7 .bool
abbrev Me:=Int×Int×Bool
instance:Coe (List Me) LV:=⟨.xl BO⟩
def gMe (l:List Me) (n:Int):Me:=l.getD n.toNat (0,0,X)
def GC (c:Ca):Bool:=inB c.1 0 4&&(inB c.2.1 1 7&&(inB c.2.2.1 1 80&&(inB c.2.2.2.1 0 1000000000&&(inB c.2.2.2.2 0 20&&(c.1 !=3 ||an (c.2.2.2.2>=1))))))
def WD {c:Ca}:GC c=U↔0<=c.1/\c.1<=4/\1<=c.2.1/\c.2.1<=7/\1<=c.2.2.1/\c.2.2.1<=80/\0<=c.2.2.2.1/\c.2.2.2.1<=1000000000/\0<=c.2.2.2.2/\c.2.2.2.2<=20/\(c.1=3->1<=c.2.2.2.2):=by
 simp [GC,inB];omega
def IQ (m:Mi):Bool:=an (M m.1<=21)&&(inB m.2.1 0 1000000&&(inB m.2.2 0 2000000000&&m.1.all (λp=>inB p 0 80)))
def dj {m:Mi}:IQ m=U↔M m.1<=21/\0<=m.2.1/\m.2.1<=1000000/\0<=m.2.2/\m.2.2<=2000000000/\∀p∈m.1,0<=p/\p<=80:=by
 simp [IQ,CM,and_assoc]
def cnt (n:Int):Int:=n%2+n / 2%2+n / 4%2
def ag9 {n:Int}:0<=cnt n/\cnt n<=3:=by unfold cnt;omega
def eight {n:Int}(h1:0<=n) (h2:n<=7):n=0\/n=1\/n=2\/n=3\/n=4\/n=5\/n=6\/n=7:=A0
def land (a b:Int):Int:=Bf J a b
def Kb (k ph p:Int):Int:=if k=2 then land (land ph p) (-land ph p) else land ph p
def aDM {a b:Int}(ha:0<=a/\a<=7) (hb:0<=b/\b<=7):0<=land a b/\land a b<=7/\0<=land (land a b) (-land a b)/\land (land a b) (-land a b)<=7/\(land a b≠0->land (land a b) (-land a b)≠0):=by
 have key:∀x y:Fin 8,0<=land x.val y.val/\land x.val y.val<=7/\0<=land (land x.val y.val) (-land x.val y.val)/\land (land x.val y.val) (-land x.val y.val)<=7/\(land x.val y.val≠0->land (land x.val y.val) (-land x.val y.val)≠0):=Ae
 have:=key ⟨a.toNat,A0⟩ ⟨b.toNat,A0⟩
 simp only [CL ha.1,CL hb.1] at this;exact this
def aU (dl:Int) (pil:List Int):Int:=if (M pil:Int)-dl>=0 then pil.getD ((M pil:Int)-dl).toNat 0 else 0
def Hf (c:Ca) (m:Mi) (al:Int):Int:=
 if c.1=1 then (if c.2.2.2.2=0 then al else min al (aU c.2.2.2.2 m.1))
 else if c.1=3 then (if (m.2.1.tdiv c.2.2.2.2).tmod 2=1 then 0 else al)
 else if c.1=4 then (if al=0 then 0 else c.2.2.1) else al
def FR (c:Ca) (m:Mi) (p al:Int):Int:=if Kb c.1 c.2.1 p=0\/m.2.2>=c.2.2.2.1 then 0 else min c.2.2.1 (Hf c m al)
def H8 (c:Ca) (m:Mi) (p al:Int):Int:=if FR c m p al=0 then 0 else Kb c.1 c.2.1 p
def dwP (pil:List Int) (al:Int):List Int:=(pil++[al]).drop<|M pil-20
def dwG (c:Ca) (m:Mi) (p al:Int):Int:=m.2.2+2300*FR c m p al*cnt (H8 c m p al)
def dwB (c:Ca) (m:Mi) (p al:Int):Bool:=GC c&&(IQ m&&(inB p 1 7&&(inB al 0 80&&m.2.1 !=1000000)))
def ql {c:Ca}{m:Mi}{p al:Int}:dwB c m p al=U↔GC c=U/\IQ m=U/\1<=p/\p<=7/\0<=al/\al<=80/\m.2.1≠1000000:=by
 simp [dwB,CM,and_assoc]
theorem aCT {k ph p:Int}(h1:1<=ph/\ph<=7) (h2:1<=p/\p<=7):0<=Kb k ph p/\Kb k ph p<=7:=by
 obtain ⟨a1,a2,a3,a4,_⟩:=aDM (a:=ph) (b:=p) ⟨A0,A0⟩ ⟨A0,A0⟩;unfold Kb;exact Zi
def afQ {dl:Int}{pil:List Int}(h:∀p∈pil,0<=p/\p<=80):0<=aU dl pil:=by
 unfold aU;split
 ·rw [DV]
  cases hg:pil[((M pil:Int)-dl).toNat]? with
  |none=>simp
  |some x=>simp;exact (h x<|Pb hg).1
 ·omega
def aec {c:Ca}{m:Mi}{al:Int}(hc:GC c=U) (hm:IQ m=U) (ha:0<=al):0<=Hf c m al:=by
 have hc:=WD.1 hc
 have hm:=dj.1 hm
 have:=afQ (dl:=c.2.2.2.2) hm.2.2.2.2.2
 unfold Hf
 repeat' split
 all_goals omega
def aDn {c:Ca}{m:Mi}{p al:Int}(hc:GC c=U) (hm:IQ m=U) (hp:1<=p/\p<=7) (ha:0<=al/\al<=80):
  0<=FR c m p al/\FR c m p al<=c.2.2.1/\0<=H8 c m p al/\H8 c m p al<=7:=by
 have hw:=aec hc hm ha.1
 have hc:=WD.1 hc
 have hs:=aCT (k:=c.1) (ph:=c.2.1) (p:=p) ⟨A0,A0⟩ hp
 have h1:0<=FR c m p al/\FR c m p al<=c.2.2.1:=by unfold FR;split<;>omega
 refine ⟨h1.1,h1.2,?_⟩;unfold H8;omega
def FP (c:Ca) (m:Mi) (p al:Int):Int:=if dwB c m p al=U then FR c m p al else 0
def Eh (c:Ca) (m:Mi) (p al:Int):Int:=if dwB c m p al=U then H8 c m p al else 0
def Kv (c:Ca) (m:Mi) (p al:Int):Mi:=if dwB c m p al=U then (dwP m.1 al,m.2.1+1,dwG c m p al) else ([],0,0)
def JJ (c:Ca) (m:Mi) (p al:Int):Int:=if dwB c m p al=U then 0 else 1
def meV (m:Me):Bool:=inB m.1 0 1000000&&(an (m.2.1>=-1000000000000000)&&an (m.2.1<=1000000000000000))
def mcR (m:Me) (a p:Int):Int:=if m.2.2=U then m.2.1-2300*a*p else m.2.1+2300*a*p
def mcB (m:Me) (a p:Int):Bool:=meV m&&(inB a 0 80&&inB p 0 3)
def Gs (m:Me) (a p:Int):Int:=if mcB m a p=U then (if meV (m.1,mcR m a p,m.2.2)=U then 0 else 3) else 1
def IS (m:Me) (a p:Int):Me:=if Gs m a p=0 then (m.1,mcR m a p,m.2.2) else (0,0,X)
def HJ (t d:Int):Int:=if (inB t 0 1000000&&inB d (-200) 200)=U then t*(1000000+d) / 1000000 else 0
def Km (t d:Int):Int:=if (inB t 0 1000000&&inB d (-200) 200)=U then 0 else 1
theorem aSZ {l:List Int}{f:Int->Bool}:l.all f=Di (M l) (λj=>f<|gi l j):=by
 rw [IY,BH,Dq];refine ⟨λh j hj=>h _<|LH A0 hj,λh x hx=>?_⟩
 obtain ⟨k,hk,rfl⟩:=I7.1 hx
 have:=h k A0
 rwa [IF A8] at this
section
variable {lt : Int -> Int -> Bool}
def Lb (lt:Int->Int->Bool):List Int->Int->List Int
 | [],x=>[x]
 |y::q,x=>if lt x y=U then y::Lb lt q x else x::y::q
theorem nZ {x:Int}:∀ {q:List Int},(Lb lt q x).Perm (x::q)
 | []=>List.Perm.refl _
 |y::q=>by
  unfold Lb;split
  ·exact (List.Perm.cons y nZ).trans<|List.Perm.swap x y q
  ·grind
def ao2 {q:List Int}{x:Int}:M (Lb lt q x)=M q+1:=by rw [nZ.length_eq];rfl
theorem aDE:∀ {l acc:List Int},(l.foldl (Lb lt) acc).Perm (acc++l)
 | [],acc=>AI
 |x::l,acc=>by
  rw [Jw];refine aDE.trans ?_;refine (wj l nZ).trans ?_
  grind
def sortB (lt:Int->Int->Bool) (l:List Int):List Int:=(l.foldl (Lb lt) []).reverse
def aem {l:List Int}:(sortB lt l).Perm l:=by
 exact (xK _).trans (by have:=aDE (lt:=lt) (l:=l) (acc:=[]);simpa using this)
def Ks (l:List Int) (j:Nat):List Int:=(l.set (j+1)<|l.getD j 0).set j<|l.getD (j+1) 0
def Kx (lt:Int->Int->Bool):Nat->List Int->List Int
 |0,l=>l
 |j+1,l=>if lt (l.getD (j+1) 0) (l.getD j 0)=U then Kx lt j (Ks l j) else l
def asq {p post:List Int}{x y:Int}:Ks (p++y::x::post) (M p)=p++x::y::post:=by
 unfold Ks
 simp
theorem qU {post:List Int}{x:Int}:∀ {q:List Int},Kx lt (M q) (q.reverse++x::post)=(Lb lt q x).reverse++post
 | []=>by simp [Kx,Lb]
 | y::q=>by
  have e1:((y::q).reverse++x::post)=q.reverse++y::x::post:=AI
  rw [e1,Bc,Kx]
  have g1:(q.reverse++y::x::post).getD (M q) 0=y:=AI
  have g2:(q.reverse++y::x::post).getD (M q+1) 0=x:=AI
  rw [g1,g2];unfold Lb;split
  ·have e2:Ks (q.reverse++y::x::post) (M q)=q.reverse++x::y::post:=by
    have:=asq (p:=q.reverse) (x:=x) (y:=y) (post:=post)
    grind
   rw [e2,qU]
   simp
  ·simp
theorem ao4:∀ {j:Nat}{l:List Int},j<M l->(Kx lt j l).Perm l:=λ{j l} h=>by
 have e:l=(l.take j).reverse.reverse++l[j]::l.drop (j+1):=AI
 have hj:M (l.take j).reverse=j:=A8
 have h2:=qU (lt:=lt) (q:=(l.take j).reverse) (x:=l[j]) (post:=l.drop<|j+1)
 rw [hj,<-e] at h2;rw [h2];refine (wj _<|(xK _).trans nZ).trans ?_;refine (List.perm_middle.symm.trans ?_);refine (wj _<|xK _).trans ?_
 grind
def MY (lt:Int->Int->Bool) (l:List Int) (i:Nat):List Int:=((l.drop i).foldl (Lb lt) (l.take i).reverse).reverse
theorem aeu {l:List Int}{i:Nat}(h:i<M l):MY lt (Kx lt i l) (i+1)=MY lt l i:=by
 have e:l=(l.take i).reverse.reverse++l[i]::l.drop (i+1):=AI
 have hi:M (l.take i).reverse=i:=A8
 have h2:=qU (lt:=lt) (q:=(l.take i).reverse) (x:=l[i]) (post:=l.drop<|i+1)
 have hl:M ((Lb lt (l.take i).reverse l[i]).reverse)=i+1:=by rw [List.length_reverse,ao2,hi]
 unfold MY
 grind
def afm {l:List Int}:MY lt l 1=sortB lt l:=by
 cases l with
 |nil=>rfl
 |cons x l=>simp [MY,sortB,Lb]
def afn {l:List Int}{i:Nat}(h:M l<=i):MY lt l i=l:=by
 unfold MY;rw [List.drop_of_length_le h,DZ h]
 simp
end
abbrev As:Ty:=.pair .bool<|.pair A7<|.pair A7 A7
abbrev Dm:=Bool×Int×Int×Int
instance:Coe (List Dm) LV:=⟨.xl As⟩
def Dw (l:List Dm) (n:Int):Dm:=l.getD n.toNat (X,0,0,0)
def slk (d:List Dm) (t i:Int):Int:=(Dw d i).2.2.1-t-(Dw d i).2.1
def cm (a b:Int):Int:=if a<b then -1 else if a>b then 1 else 0
def orI:List Int->Int
 | []=>0
 |x::l=>if (x !=0)=U then x else orI l
def cmD (d:List Dm) (t a b:Int):Int:=orI [cm (Dw d a).2.2.2 (Dw d b).2.2.2,cm (slk d t a)<|slk d t b,cm a b]
def ltD (d:List Dm) (t a b:Int):Bool:=an<|cmD d t a b<0
def IN (d:List Dm) (t:Int):Prop:=(∀x∈d,(-2000000000<=x.2.1/\x.2.1<=2000000000)/\-2000000000<=x.2.2.1/\x.2.2.1<=2000000000)/\-2000000000<=t/\t<=2000000000
theorem arE {d:List Dm}{i:Int}(h0:0<=i) (h1:i<(M d:Int)):Dw d i∈d:=by
 unfold Dw
 grind
def av9 {d:List Dm}{t i:Int}(h:IN d t) (h0:0<=i) (h1:i<(M d:Int)):(-2000000000<=(Dw d i).2.1/\(Dw d i).2.1<=2000000000)/\-2000000000<=(Dw d i).2.2.1/\(Dw d i).2.2.1<=2000000000:=h.1 _<|arE h0 h1
def Fk (n:Nat):List Int:=(au n).map λk:Nat=>(k:Int)
def H3 (d:List Dm) (t:Int):List Int:=sortB (ltD d t)<|Fk<|M d
def aDh {n:Nat}:Fk (n+1)=Fk n++[(n:Int)]:=by simp [Fk,SW]
def Ob {n:Nat}:M (Fk n)=n:=by simp [Fk]
theorem aEP {n:Nat}{x:Int}:x∈Fk n↔0<=x/\x<(n:Int):=by
 unfold Fk;rw [Em]
 constructor
 ·rintro ⟨k,hk,rfl⟩
  rw [IZ] at hk;omega
 ·exact λh=>⟨x.toNat,A8,A0⟩
def aes {n:Nat}:(Fk n).Nodup:=xJ _ (λa b h=>A0) k8
def aCd {d:List Dm}{t:Int}:(H3 d t).Perm (Fk<|M d):=aem
def aEW {d:List Dm}{t:Int}:M (H3 d t)=M d:=by rw [aCd.length_eq,Ob]
def anP {d:List Dm}{t x:Int}:x∈H3 d t↔0<=x/\x<(M d:Int):=aCd.mem_iff.trans aEP
def aei {d:List Dm}{t:Int}:(H3 d t).Nodup:=aCd.nodup_iff.2 aes
theorem qG {mi ma st a k:Int}(hh:Dk mi ma st=U) (ha:0<=a) (h0:0<=k) (h1:k<EM mi ma st):Dx mi st k<=a↔k<=HB mi ma st a:=by
 obtain ⟨g1,g2,g3,g4,g5⟩:=IA.1 hh
 have hn:¬(Dk mi ma st=X\/a<0):=A8
 unfold HB;rw [AE hn];unfold Dx
 by_cases e:k=0
 ·subst e
  simp only [Br];exact aLo
 ·rw [AE e]
  have hp:0<=(k-1)*st:=Ia A0 A0
  split
  ·omega
  ·have:=(Int.le_ediv_iff_mul_le (a:=k-1) (b:=a-mi) (c:=st) A0)
   omega
def aRJ {mi ma st a:Int}(hh:Dk mi ma st=U):HB mi ma st a<EM mi ma st:=by
 have:=qF hh
 unfold HB;split
 ·omega
 ·omega
theorem afF {mi ma st a:Int}(hh:Dk mi ma st=U) (ha:0<=a):0<=HB mi ma st a:=by
 have:=qF hh
 obtain ⟨g1,g2,g3,g4,g5⟩:=IA.1 hh
 have hn:¬(Dk mi ma st=X\/a<0):=A8
 unfold HB;rw [AE hn];exact aLo
theorem aek {l:List Int}:once l=U↔l.Nodup:=by
 rw [oz,List.nodup_iff_pairwise_ne,kK]
 constructor
 ·intro h i j hi hj hij e
  exact h j hj (by rw [<-e,I7];exact ⟨i,A8,AI⟩)
 ·intro h j hj hm
  obtain ⟨i,hi,e⟩:=I7.1 hm
  grind
theorem ad8:∀ {r l:List Int},r.Nodup->(∀x∈r,x∈l)->M r=M l->l.Nodup/\∀x∈l,x∈r
 | [],l,_,_,h=>by
  have:l=[]:=M3.1 h.symm
  subst this
  simp
 | x::r,l,hn,hs,h=>by
  obtain ⟨n1,n2⟩:=M5.1 hn
  have hx:=hs x AI
  have hp:=List.perm_cons_erase hx
  obtain ⟨i1,i2⟩:=ad8 (l:=l.erase x) n2 (λy hy=>by
   have hy2:=hs y A8
   have hne:y≠x:=λe=>n1<|e▸hy
   exact (List.mem_erase_of_ne hne).2 hy2) A8
  refine ⟨hp.nodup_iff.2<|M5.2 ⟨λhm=>n1<|i2 x hm,i1⟩,λy hy=>?_⟩
  by_cases e:y=x
  ·simp [e]
  ·grind
def aL (n:Nat):List Int:=(au n).map λk:Nat=>(k:Int)
def aEQ {n:Nat}{x:Int}:x∈aL n↔0<=x/\x<(n:Int):=by
 unfold aL;rw [Em]
 constructor
 ·rintro ⟨k,hk,rfl⟩
  have:=IZ.1 hk
  omega
 ·rintro ⟨h1,h2⟩
  exact ⟨x.toNat,IZ.2 A0,A0⟩
def aeO {n:Nat}:M (aL n)=n:=by simp [aL]
theorem aE9 {l:List Int}{n:Nat}:GW l n=U↔M l=n/\l.Nodup/\∀i∈l,0<=i/\i<(n:Int):=by
 unfold GW;simp only [AY,Aa,BH,oH,aek]
 constructor
 ·grind
 ·grind
def ag3 {l:List Int}{n:Nat}(h:GW l n=U) {i:Int}(h0:0<=i) (h1:i<(n:Int)):i∈l:=by
 obtain ⟨g1,g2,g3⟩:=aE9.1 h;exact (ad8 g2 (l:=aL n) (λx hx=>aEQ.2<|g3 x hx) (by rw [aeO];exact g1)).2 i<|aEQ.2 ⟨h0,h1⟩
def Hx (al am ms:List Int):Int:=(ms.map λm=>mx (gi al m)<|gi am m).sum
def rowB (al am:List Int) (r:Rw):Bool:=r.2.all (λm=>gi am m==0) ||an (Hx al am r.2<=r.1)
def P4 (rows:List Rw) (al am:List Int):Bool:=rows.all<|rowB al am
def Sz {al am ms:List Int}{m:Int}:Hx al am (m::ms)=mx (gi al m) (gi am m)+Hx al am ms:=by simp [Hx]
def aKZ (gs:List Ch) (i k:Int):Int:=amA (AG gs i).2.2.2.1 (AG gs i).2.2.2.2.1 (AG gs i).2.2.2.2.2.1 k
def aKY (gs:List Ch) (i k:Int):Int:=amE (AG gs i).2.2.2.1 (AG gs i).2.2.2.2.1 (AG gs i).2.2.2.2.2.1 k
structure wU (gs:List Ch) (out:List Int):Prop where
 len:M out=M gs
 bd:∀a∈out,0<=a/\a<=1000000
def wU.put {gs:List Ch}{out:List Int}(h:wU gs out) {k:Nat}{v:Int}(hv:0<=v/\v<=1000000):wU gs (out.set k v):=
 ⟨by rw [Bz];exact h.len,λa ha=>by
  rcases SJ ha with h2|h2
  ·exact h.bd a h2
  ·rw [h2];exact hv⟩
section
variable {P : List Int -> Bool} {tp : Int -> Int}
def Ht (P:List Int->Bool) (tp:Int->Int) (L:Int) (lv:List Int) (i:Int):List Int:=
 if gi lv i=L-1/\L<=tp i then (if P (lv.set i.toNat L)=U then lv.set i.toNat L else lv) else lv
def JL (P:List Int->Bool) (tp:Int->Int) (L:Int) (lv l:List Int):List Int:=l.foldl (Ht P tp L) lv
def FX (P:List Int->Bool) (tp:Int->Int) (od:List Int):Nat->Int->List Int->List Int
 |0,_,lv=>lv
 |f+1,L,lv=>FX P tp od f (L+1)<|JL P tp L lv od
def It {l:List Int}{i j v:Int}(h0:0<=i) (h1:i<(M l:Int)) (hj:0<=j):gi (l.set i.toNat v) j=if j=i then v else gi l j:=by
 unfold gi;rw [T2]
 by_cases e:j=i
 ·subst e
  omega
 ·omega
def Ru (n:Nat) (l:List Int):Prop:=∀i∈l,0<=i/\i<(n:Int)
theorem aEC {L i:Int}{lv:List Int}:M (Ht P tp L lv i)=M lv:=by
 unfold Ht;split
 ·split
  ·grind
  ·rfl
 ·rfl
theorem azA {L i j:Int}{lv:List Int}(h:0<=i/\i<(M lv:Int)) (hj:0<=j):gi lv j<=gi (Ht P tp L lv i) j:=by
 exact aMA
theorem azB {L i j:Int}{lv:List Int}(h:0<=i/\i<(M lv:Int)) (hj:0<=j):gi (Ht P tp L lv i) j<=gi lv j\/(gi (Ht P tp L lv i) j=L/\L<=tp j):=by
 exact aMA
theorem akS {L i:Int}{lv:List Int}(h:P lv=U):P (Ht P tp L lv i)=true:=by
 unfold Ht;split
 ·split
  ·grind
  ·exact h
 ·exact h
def cP {L i:Int}{lv l:List Int}:JL P tp L lv (i::l)=JL P tp L (Ht P tp L lv i) l:=rfl
def dq {L:Int}:∀ {l lv:List Int},M (JL P tp L lv l)=M lv
 | [],_=>rfl
 |i::l,lv=>by rw [cP,dq (l:=l),aEC]
theorem aRF {L j:Int}(hj:0<=j):∀ {l lv:List Int},Ru (M lv) l->gi lv j<=gi (JL P tp L lv l) j
 | [],_,_=>DU _
 |i::l,lv,h=>by
  rw [cP]
  have h1:=azA (P:=P) (tp:=tp) (L:=L) (h i AI) hj
  have h2:=aRF (L:=L) hj (l:=l) (lv:=Ht P tp L lv i) aNB
  omega
theorem uH {L j:Int}(hj:0<=j):∀ {l lv:List Int},Ru (M lv) l->gi (JL P tp L lv l) j<=gi lv j\/(gi (JL P tp L lv l) j<=L/\gi (JL P tp L lv l) j<=tp j)
 | [],_,_=> .inl (DU _)
 |i::l,lv,h=>by
  rw [cP]
  have h1:=azB (P:=P) (tp:=tp) (L:=L) (h i AI) hj
  have h2:=uH (L:=L) hj (l:=l) (lv:=Ht P tp L lv i) aNB
  omega
def abI {L:Int}:∀ {l lv:List Int},P lv=U->P (JL P tp L lv l)=U
 | [],_,h=>h
 |i::l,lv,h=>by rw [cP];exact abI (l:=l)<|akS h
def aHy {od:List Int}:∀ {f:Nat}{L:Int}{lv:List Int},M (FX P tp od f L lv)=M lv
 |0,_,_=>rfl
 |f+1,L,lv=>by rw [FX,aHy,dq]
def aRG {od:List Int}{j:Int}(hj:0<=j):∀ {f:Nat}{L:Int}{lv:List Int},Ru (M lv) od->gi lv j<=gi (FX P tp od f L lv) j
 |0,_,_,_=>DU _
 |f+1,L,lv,h=>by
  rw [FX]
  have h1:=aRF (P:=P) (tp:=tp) (L:=L) hj h
  have h2:=aRG (f:=f) (L:=L+1) (lv:=JL P tp L lv od) hj (by rw [dq];exact h)
  omega
def aRH {od:List Int}{j:Int}(hj:0<=j):∀ {f:Nat}{L:Int}{lv:List Int},Ru (M lv) od->gi (FX P tp od f L lv) j<=gi lv j\/(gi (FX P tp od f L lv) j<=L+f-1/\gi (FX P tp od f L lv) j<=tp j)
 |0,_,_,_=> .inl (DU _)
 |f+1,L,lv,h=>by
  rw [FX]
  have h1:=uH (P:=P) (tp:=tp) (L:=L) hj h
  have h2:=aRH (f:=f) (L:=L+1) (lv:=JL P tp L lv od) hj (by rw [dq];exact h)
  omega
def abJ {od:List Int}:∀ {f:Nat}{L:Int}{lv:List Int},P lv=U->P (FX P tp od f L lv)=U
 |0,_,_,h=>h
 |f+1,L,lv,h=>by rw [FX];exact abJ<|abI h
def aFB {od:List Int}:∀ {f:Nat}{L:Int}{lv:List Int},FX P tp od (f+1) L lv=JL P tp (L+f) (FX P tp od f L lv) od
 |0,L,lv=>by simp [FX]
 |f+1,L,lv=>by
  rw [FX,aFB (f:=f) (L:=L+1),FX,show L+1+(f:Int)=L+((f+1:Nat):Int) by omega]
theorem aCp {L:Int}:∀ {l lv:List Int},(∀i∈l,gi lv i≠L-1\/tp i<L)->JL P tp L lv l=lv
 | [],_,_=>rfl
 | i::l,lv,h=>by
  have e:Ht P tp L lv i=lv:=by
   unfold Ht
   grind
  rw [cP,e,aCp λj hj=>h j A8]
theorem aEA {od:List Int}:∀ {f:Nat}{L:Int}{lv:List Int},(∀i∈od,gi lv i<L-1)->FX P tp od f L lv=lv
 |0,_,_,_=>rfl
 |f+1,L,lv,h=>by
  rw [FX,aCp λi hi=> .inl A8,aEA λi hi=>A8]
end
structure H6 (rows:List Rw) (gs:List Ch) (al mo od:List Int):Prop where
 mem:∀r∈rows,r.2.Nodup/\∀m∈r.2,0<=m/\m<(M gs:Int)
 has:∀i:Int,0<=i->i<(M gs:Int)->Dk (AG gs i).2.2.2.1 (AG gs i).2.2.2.2.1 (AG gs i).2.2.2.2.2.1=U
 gl:M gs<=16
 all:M al=M gs
 mol:M mo=M gs
 al:∀a∈al,0<=a/\a<=80
 mo:∀a∈mo,0<=a/\a<=80
 nd:od.Nodup
 ord:Ru (M gs) od
 cov:∀i:Int,0<=i->i<(M gs:Int)->i∈od
def ym {cs:List Cd}{os:List ByteArray}{ks:List Ko}{gs:List Ch}{bs:List Ba}{al mo od:List Int}(h:Fj cs os ks gs bs al mo od=U):H6 (Cs cs gs<|M cs) gs al mo od:=by
 obtain ⟨hv,h1,h2,h3,h4,h5⟩:=L6.1 h
 have hl:=(D5.1 hv).1
 obtain ⟨o1,o2,o3⟩:=aE9.1 h5;refine ⟨λr hr=>⟨(row_mem hr).1,(row_mem hr).2.1⟩,λi h0 h1=>?_,A0,h1,h2,λa ha=>Q1.1<|BH.1 h3 a ha,λa ha=>Q1.1<|BH.1 h4 a ha,o2,o3,λi h0 h1=>ag3 h5 h0 h1⟩
 have:=Q6 hv h0 h1
 exact aLq
def PP (rows:List Rw) (gs:List Ch) (al lv:List Int):Bool:=P4 rows al<|FJ gs lv
def tpO (gs:List Ch) (mo:List Int) (i:Int):Int:=FO gs i<|gi mo i
def aFW {gs:List Ch}{lv:List Int}:M (FJ gs lv)=M gs:=by simp [FJ]
def TI {gs:List Ch}{lv:List Int}{i:Int}(h0:0<=i) (h1:i<(M gs:Int)):gi (FJ gs lv) i=Cw gs i (gi lv i):=by
 rw [IF (by rw [aFW];omega)]
 simp only [FJ,xM,kE];rfl
def abB {gs:List Ch}{i:Int}:Cw gs i 0=0:=by simp [Cw,Dx]
def aFY {gs:List Ch}{i a b:Int}(hh:Dk (AG gs i).2.2.2.1 (AG gs i).2.2.2.2.1 (AG gs i).2.2.2.2.2.1=U) (h0:0<=a) (h1:a<=b):Cw gs i a<=Cw gs i b:=by
 obtain ⟨g1,g2,g3,g4,g5⟩:=IA.1 hh;exact aFX ⟨g1,g4⟩ h0 h1
theorem aSX {gs:List Ch}{i a b:Int}(hh:Dk (AG gs i).2.2.2.1 (AG gs i).2.2.2.2.1 (AG gs i).2.2.2.2.2.1=U) (h0:0<=a) (h1:a<b):Cw gs i a<Cw gs i b:=by
 obtain ⟨g1,g2,g3,g4,g5⟩:=IA.1 hh
 have h2:=aFY hh (show 0<=a+1 by omega) (show a+1<=b by omega)
 have h3:Cw gs i a<Cw gs i (a+1):=by
  unfold Cw Dx;split
  ·grind
  ·have:(a+1-1)*(AG gs i).2.2.2.2.2.1=(a-1)*(AG gs i).2.2.2.2.2.1+(AG gs i).2.2.2.2.2.1:=by
    grind
   omega
 omega
def aSW {gs:List Ch}{i a:Int}(hh:Dk (AG gs i).2.2.2.1 (AG gs i).2.2.2.2.1 (AG gs i).2.2.2.2.2.1=U) (h0:0<=a):0<=Cw gs i a:=by
 have:=aFY hh (DU 0) h0
 exact this
def arG {a b c:Int}(h:b<=c):mx a b<=mx a c:=by
 unfold mx;omega
theorem aEh {al am bm:List Int}:∀ {ms:List Int},(∀m∈ms,gi am m<=gi bm m)->Hx al am ms<=Hx al bm ms
 | [],_=>DU _
 |m::ms,h=>by
  have h1:=aEh (al:=al) (ms:=ms) λx hx=>h x A8
  have h2:=arG (a:=gi al m)<|h m AI
  rw [Sz,Sz];omega
theorem np {al am bm:List Int}:∀ {ms:List Int},(∀m∈ms,gi am m=gi bm m)->Hx al am ms=Hx al bm ms
 | [],_=>rfl
 |m::ms,h=>by rw [Sz,Sz,np (ms:=ms) λx hx=>h x A8,h m AI]
theorem aGE {al am bm:List Int}{i:Int}:∀ {ms:List Int},ms.Nodup->i∈ms->(∀m∈ms,m≠i->gi am m=gi bm m)->Hx al bm ms=Hx al am ms+(mx (gi al i) (gi bm i)-mx (gi al i) (gi am i))
 | [],_,h,_=>An
 | m::ms,hn,hi,h=>by
  obtain ⟨n1,n2⟩:=M5.1 hn;rw [Sz,Sz]
  by_cases e:m=i
  ·subst e
   rw [np (am:=am) (bm:=bm) λx hx=>h x A8 λe=>n1<|e▸hx]
   omega
  ·have hi2:i∈ms:=by
    rcases B7.1 hi with h|h
    ·grind
    ·exact h
   rw [aGE n2 hi2 λx hx=>h x A8,h m AI e]
   omega
theorem aep {al am bm:List Int}{r:Rw}(h:∀m∈r.2,gi am m=gi bm m):rowB al am r=rowB al bm r:=by
 unfold rowB;rw [np h]
 congr 1
 rw [IY,BH,BH]
 constructor
 ·grind
 ·grind
structure Inv (rows:List Rw) (gs:List Ch) (al sm lv:List Int):Prop where
 sl:M sm=M rows
 sm:∀k:Nat,k<M rows->sm.getD k 0=Hx al (FJ gs lv) (CX rows k).2
 ll:M lv=M gs
 nn:∀j,0<=j->0<=gi lv j
 pp:PP rows gs al lv=U
def cy {rows:List Rw}{k:Int}(h0:0<=k) (h1:k<(M rows:Int)):CX rows k∈rows:=by
 rw [oS A0];exact HS _
def qZ {rows:List Rw}{gs:List Ch}{al mo od lv:List Int}(H:H6 rows gs al mo od) {i L:Int}(hl:M lv=M gs) (h0:0<=i) (h1:i<(M gs:Int)) {r:Rw}(hr:r∈rows):
  (∀m∈r.2,m≠i->gi (FJ gs lv) m=gi (FJ gs<|lv.set i.toNat L) m)/\gi (FJ gs<|lv.set i.toNat L) i=Cw gs i L:=by
 refine ⟨λm hm e=>?_,?_⟩
 ·obtain ⟨m0,m1⟩:=(H.mem r hr).2 m hm
  rw [TI m0 m1,TI m0 m1,It h0 A0 m0,AE e]
 ·rw [TI h0 h1,It h0 A0 h0,AD rfl]
def aOL {rows:List Rw}{gs:List Ch}{al mo od lv:List Int}(H:H6 rows gs al mo od) {i L:Int}(hl:M lv=M gs) (h0:0<=i) (h1:i<(M gs:Int)) {r:Rw}(hr:r∈rows) (hc:gi lv i=L-1):
  Hx al (FJ gs<|lv.set i.toNat L) r.2=Hx al (FJ gs lv) r.2+(if i∈r.2 then Fy gs al i L else 0):=by
 obtain ⟨p1,p2⟩:=qZ (L:=L) H hl h0 h1 hr;split
 ·rename_i hi
  rw [aGE (am:=FJ gs lv) (H.mem r hr).1 hi p1,p2,TI h0 h1,hc];rfl
 ·rename_i hi
  rw [<-np (am:=FJ gs lv) λm hm=>p1 m hm λe=>hi<|e▸hm]
  omega
theorem asz {rows:List Rw}{gs:List Ch}{al mo od sm lv:List Int}(H:H6 rows gs al mo od) (hI:Inv rows gs al sm lv) {i L:Int}(h0:0<=i) (h1:i<(M gs:Int)) (hL:1<=L) (hc:gi lv i=L-1):
  ((OL rows).getD i.toNat []).all (KZ rows sm<|Fy gs al i L)=PP rows gs al (lv.set i.toNat L):=by
 have hg:=H.gl
 rw [ui (λr hr=>⟨(H.mem r hr).1,λm hm=>((H.mem r hr).2 m hm).1⟩) A0,IY,BH]
 unfold PP P4;rw [BH]
 have hpp:=hI.pp
 unfold PP P4 at hpp;rw [BH] at hpp
 have hpos:1<=Cw gs i L:=by
  have:=aSX (H.has i h0 h1) (DU 0) (show 0<L by omega)
  rw [abB] at this;omega
 have hfit:∀k:Int,0<=k->k<(M rows:Int)->i∈(CX rows k).2->(KZ rows sm (Fy gs al i L) k=rowB al (FJ gs<|lv.set i.toNat L) (CX rows k)):=λk k0 k1 hk=>by
  have hr:=cy k0 k1
  have hs:=hI.sm k.toNat A0
  have hp:=aOL (L:=L) H hI.ll h0 h1 hr hc
  have hz:(CX rows k).2.all (λm=>gi (FJ gs<|lv.set i.toNat L) m==0)=false:=by
   rw [I2];intro hz
   have:=BH.1 hz i hk
   rw [(qZ (L:=L) H hI.ll h0 h1 hr).2,DJ] at this;omega
  unfold KZ rowB
  grind
 constructor
 ·intro h r hr
  obtain ⟨k,hk,rfl⟩:=I7.1 hr
  have ek:CX rows (k:Int)=rows[k]:=oS<|by simpa using hk
  by_cases hi:i∈rows[k].2
  ·have:=h (k:Int)<|TD.2 ⟨A0,A0,by
    rw [Pk,ek,CL h0]
    simpa using hi⟩
   rw [hfit k A0 A0 A8,ek] at this;exact this
  ·rw [<-aep (am:=FJ gs lv) λm hm=>(qZ (L:=L) H hI.ll h0 h1 hr).1 m hm λe=>hi<|e▸hm]
   exact hpp _ hr
 ·intro h x hx
  obtain ⟨x0,x1,x2⟩:=TD.1 hx;rw [hfit x x0 A0 A8];exact h _<|cy x0 A0
theorem aqx {rows:List Rw}{gs:List Ch}{al mo od sm lv:List Int}{b:Bool}(H:H6 rows gs al mo od) (hI:Inv rows gs al sm lv) {i L:Int}(h0:0<=i) (h1:i<(M gs:Int)) (hL:1<=L):
  (Fp (OL rows) rows gs al mo L (sm,lv,b) i).2.1=Ht (PP rows gs al) (tpO gs mo) L lv i/\Inv rows gs al (Fp (OL rows) rows gs al mo L (sm,lv,b) i).1 (Fp (OL rows) rows gs al mo L (sm,lv,b) i).2.1/\((Fp (OL rows) rows gs al mo L (sm,lv,b) i).2.2=X->b=X/\(Fp (OL rows) rows gs al mo L (sm,lv,b) i).2.1=lv):=by
 unfold Fp Ht
 by_cases hc:gi lv i=L-1/\L<=tpO gs mo i
 ·have hf:=asz H hI h0 h1 hL hc.1
  rw [AD (show lv.getD i.toNat 0=L-1/\L<=FO gs i (gi mo i) from hc),AD hc,hf]
  by_cases hp:PP rows gs al (lv.set i.toNat L)=U
  ·rw [AD hp,AD hp]
   have hg:=H.gl
   refine ⟨rfl,⟨by rw [nL];exact hI.sl,λk hk=>?_,by rw [Bz];exact hI.ll,λj hj=>?_,hp⟩,λh=>An⟩
   ·have hr:CX rows (k:Int)∈rows:=cy A0 A0
    rw [ui (λr hr=>⟨(H.mem r hr).1,λm hm=>((H.mem r hr).2 m hm).1⟩) A0,pL nY (λr hr=>(TD.1 hr).1) (by rw [hI.sl];exact hk),hI.sm k hk,aOL (L:=L) H hI.ll h0 h1 hr hc.1]
    have:(k:Int)∈Jq 0 rows (i.toNat:Int)↔i∈(CX rows (k:Int)).2:=by
     rw [TD,Pk,CL h0]
     constructor
     ·grind
     ·grind
    by_cases hm:i∈(CX rows (k:Int)).2
    ·grind
    ·grind
   ·simp only
    rw [It h0 (by rw [hI.ll];exact h1) hj]
    split
    ·omega
    ·exact hI.nn j hj
  ·rw [AE hp,AE hp]
   grind
 ·rw [AE (show ¬(lv.getD i.toNat 0=L-1/\L<=FO gs i (gi mo i)) from hc),AE hc]
  grind
theorem aGH {rows:List Rw}{gs:List Ch}{al mo od:List Int}(H:H6 rows gs al mo od) {L:Int}(hL:1<=L):∀ {l sm lv:List Int}{b:Bool},Ru (M gs) l->Inv rows gs al sm lv->
  (swp (OL rows) rows gs al mo L (sm,lv,b) l).2.1=JL (PP rows gs al) (tpO gs mo) L lv l/\Inv rows gs al (swp (OL rows) rows gs al mo L (sm,lv,b) l).1 (swp (OL rows) rows gs al mo L (sm,lv,b) l).2.1/\((swp (OL rows) rows gs al mo L (sm,lv,b) l).2.2=X->b=X/\(swp (OL rows) rows gs al mo L (sm,lv,b) l).2.1=lv)
 | [],sm,lv,b,_,hI=>⟨rfl,hI,λh=>⟨h,rfl⟩⟩
 |i::l,sm,lv,b,hr,hI=>by
  obtain ⟨i0,i1⟩:=hr i AI;obtain ⟨r1,r2,r3⟩:=aqx (b:=b) H hI i0 i1 hL;obtain ⟨s1,s2,s3⟩:=aGH H hL (l:=l) (b:=(Fp (OL rows) rows gs al mo L (sm,lv,b) i).2.2) (λx hx=>hr x A8) r2
  refine ⟨s1.trans (by rw [r1];rfl),s2,λh=>?_⟩
  obtain ⟨t1,t2⟩:=s3 h;obtain ⟨t3,t4⟩:=r3 t1;exact ⟨t3,t2.trans t4⟩
theorem aGG {rows:List Rw}{gs:List Ch}{al mo od:List Int}(H:H6 rows gs al mo od):∀ {f:Nat}{L:Int}{sm lv:List Int},1<=L->Inv rows gs al sm lv->(∀i∈od,gi lv i<=L-1)->shl (OL rows) rows gs al mo od f L sm lv=FX (PP rows gs al) (tpO gs mo) od f L lv
 |0,_,_,_,_,_,_=>rfl
 | f+1,L,sm,lv,hL,hI,hb=>by
  obtain ⟨s1,s2,s3⟩:=aGH (b:=X) H hL H.ord hI;rw [shl,FX];split
  ·rw [aGG H A0 s2 (λi hi=>by
    rw [s1]
    have h1:=uH (P:=PP rows gs al) (tp:=tpO gs mo) (L:=L) (H.ord i hi).1 (l:=od) (lv:=lv) (by rw [hI.ll];exact H.ord)
    have h2:=hb i hi
    omega),s1]
  ·rename_i hc
   have hc:(swp (OL rows) rows gs al mo L (sm,lv,X) od).2.2=false:=A8
   have e:=(s3 hc).2
   rw [<-s1,e,aEA λi hi=>A8]
theorem LG {n:Nat}{j:Int}:gi (aq n 0) j=0:=by
 unfold gi
 grind
theorem abm {rows:List Rw}{gs:List Ch}{al mo od:List Int}(H:H6 rows gs al mo od):Inv rows gs al (SM al rows) (aq (M gs) 0):=by
 have hz:∀r∈rows,∀m∈r.2,gi (FJ gs<|aq (M gs) 0) m=0:=λr hr m hm=>by
  obtain ⟨m0,m1⟩:=(H.mem r hr).2 m hm;rw [TI m0 m1,LG,abB]
 refine ⟨aCk,λk hk=>?_,Cf,λj _=>by rw [LG];omega,?_⟩
 ·rw [aSb hk]
  have hr:CX rows (k:Int)∈rows:=cy A0 A0
  unfold smA Hx
  congr 1
  refine JO λm hm=>?_
  obtain ⟨m0,m1⟩:=(H.mem _ hr).2 m hm;rw [hz _ hr m hm]
  have:=H.al _<|LH m0 (by rw [H.all];exact m1)
  unfold mx;omega
 ·unfold PP P4
  rw [BH];intro r hr;unfold rowB
  grind
def lvF (rows:List Rw) (gs:List Ch) (al mo od:List Int):List Int:=FX (PP rows gs al) (tpO gs mo) od 80 1<|aq (M gs) 0
def ru {rows:List Rw}{gs:List Ch}{al mo od:List Int}(H:H6 rows gs al mo od) {i:Int}(h0:0<=i) (h1:i<(M gs:Int)):0<=tpO gs mo i/\tpO gs mo i<=80/\tpO gs mo i<EM (AG gs i).2.2.2.1 (AG gs i).2.2.2.2.1 (AG gs i).2.2.2.2.2.1:=
 ⟨afF (H.has i h0 h1) (H.mo _<|LH h0 (by rw [H.mol];exact h1)).1,uZ,aRJ<|H.has i h0 h1⟩
def awr {rows:List Rw}{gs:List Ch}{al mo od:List Int}(H:H6 rows gs al mo od):shV rows gs al mo od=lvF rows gs al mo od:=by
 unfold shV lvF;rw [H.all,aGG H A0 (abm H) (λi _=>by rw [LG];omega),aFB,aCp λi hi=> .inr ?_]
 have:=ru H (H.ord i hi).1 (H.ord i hi).2
 omega
section
variable {rows : List Rw} {gs : List Ch} {al mo od : List Int}
def arN:M (lvF rows gs al mo od)=M gs:=by
 unfold lvF;rw [aHy,Cf]
def aGb (H:H6 rows gs al mo od):Ru (M<|aq (M gs) (0:Int)) od:=by rw [Cf];exact H.ord
def azc (H:H6 rows gs al mo od) {j:Int}(hj:0<=j):0<=gi (lvF rows gs al mo od) j:=by
 have:=aRG (P:=PP rows gs al) (tp:=tpO gs mo) (f:=80) (L:=1) hj<|aGb H
 rw [LG] at this;exact this
def aQZ (H:H6 rows gs al mo od) {j:Int}(h0:0<=j) (h1:j<(M gs:Int)):gi (lvF rows gs al mo od) j<=tpO gs mo j:=by
 have h2:=aRH (P:=PP rows gs al) (tp:=tpO gs mo) (f:=80) (L:=1) h0<|aGb H
 rw [LG] at h2
 have h3:=ru H h0 h1
 unfold lvF;omega
def ayB (H:H6 rows gs al mo od):PP rows gs al (lvF rows gs al mo od)=true:=abJ (abm H).pp
def arT {i k:Int}(hh:Dk (AG gs i).2.2.2.1 (AG gs i).2.2.2.2.1 (AG gs i).2.2.2.2.2.1=U) (h0:0<=k) (h1:k<EM (AG gs i).2.2.2.1 (AG gs i).2.2.2.2.1 (AG gs i).2.2.2.2.2.1):FO gs i (Cw gs i k)=k:=by
 have h2:=aSW hh h0
 have h3:=(qG hh h2 h0 h1).1<|DU _
 have h4:=aRJ (a:=Cw gs i k) hh
 have h5:=(qG hh h2 (k:=HB (AG gs i).2.2.2.1 (AG gs i).2.2.2.2.1 (AG gs i).2.2.2.2.2.1<|Cw gs i k) A0 h4).2<|DU _
 by_cases e:k<HB (AG gs i).2.2.2.1 (AG gs i).2.2.2.2.1 (AG gs i).2.2.2.2.2.1 (Cw gs i k)
 ·have:=aSX hh h0 e
  have h5:Cw gs i (HB (AG gs i).2.2.2.1 (AG gs i).2.2.2.2.1 (AG gs i).2.2.2.2.2.1<|Cw gs i k)<=Cw gs i k:=h5
  omega
 ·unfold FO
  omega
end
def ate {mi ma st k:Int}(hh:Dk mi ma st=U) (h0:0<=k) (h1:k<EM mi ma st):Dx mi st k<=ma:=by
 obtain ⟨g1,g2,g3,g4,g5⟩:=IA.1 hh;unfold Dx;split
 ·omega
 ·unfold EM at h1
  have h2:(k-1)<=(ma-mi) / st:=A0
  have:=(Int.le_ediv_iff_mul_le (a:=k-1) (b:=ma-mi) (c:=st) A0).1 h2
  omega
theorem aha {mi ma st k:Int}(h0:0<=k) (h1:k<EM mi ma st):amA mi ma st k=Dx mi st k/\amE mi ma st k=0:=by
 unfold amA amE
 grind
section
variable {rows : List Rw} {gs : List Ch} {al mo od lv : List Int}
def lvR (gs:List Ch) (lv:List Int):Prop:=M lv=M gs/\∀j,0<=j->j<(M gs:Int)->0<=gi lv j/\gi lv j<EM (AG gs j).2.2.2.1 (AG gs j).2.2.2.2.1 (AG gs j).2.2.2.2.2.1
def za (H:H6 rows gs al mo od):lvR gs (lvF rows gs al mo od):=⟨arN,λj h0 h1=>⟨azc H h0,by
 have:=aQZ H h0 h1
 have:=ru H h0 h1
 omega⟩⟩
def atf (H:H6 rows gs al mo od) {j k:Int}(h0:0<=j) (h1:j<(M gs:Int)) (k0:0<=k) (k1:k<EM (AG gs j).2.2.2.1 (AG gs j).2.2.2.2.1 (AG gs j).2.2.2.2.2.1):(0<=Cw gs j k/\Cw gs j k<=80)/\aKY gs j k=0/\aKZ gs j k=Cw gs j k/\FO gs j (Cw gs j k)=k:=by
 have hh:=H.has j h0 h1
 obtain ⟨g1,g2,g3,g4,g5⟩:=IA.1 hh
 have h2:=ate hh k0 k1
 obtain ⟨e1,e2⟩:=aha k0 k1;refine ⟨⟨aSW hh k0,?_⟩,e2,e1,arT hh k0 k1⟩;unfold Cw;omega
theorem ahY (H:H6 rows gs al mo od) (R:lvR gs lv) {j:Int}(h0:0<=j) (h1:j<(M gs:Int)):letI a:=FJ gs lv;FO gs j (gi a j)=gi lv j/\aKY gs j (gi lv j)=0/\aKZ gs j (gi lv j)=gi a j/\0<=gi a j/\gi a j<=80:=by
 obtain ⟨r0,r1⟩:=R.2 j h0 h1;obtain ⟨a1,a2,a3,a4⟩:=atf H h0 h1 r0 r1;rw [TI h0 h1]
 grind
def ajN (H:H6 rows gs al mo od) {j k:Int}(h0:0<=j) (h1:j<(M gs:Int)) (k0:0<=k) (k1:k<EM (AG gs j).2.2.2.1 (AG gs j).2.2.2.2.1 (AG gs j).2.2.2.2.2.1):Cw gs j k<=gi mo j↔k<=tpO gs mo j:=
 qG (H.has j h0 h1) (H.mo _<|LH h0 (by rw [H.mol];exact h1)).1 k0 k1
theorem ad9 {a b:List Int}(hl:M a=M b) (h:∀j:Int,0<=j->j<(M b:Int)->gi a j=gi b j):a=b:=ZI hl λk h1 h2=>by
 have:=h (k:Int) A0 A0
 rw [IF A8,IF A8] at this
 grind
def g4 (gs:List Ch) (mo b am:List Int) (j:Int):Prop:=(0<=gi b j/\gi b j<EM (AG gs j).2.2.2.1 (AG gs j).2.2.2.2.1 (AG gs j).2.2.2.2.2.1)/\gi am j=Cw gs j (gi b j)/\gi am j<=gi mo j
end
section
variable {cs : List Cd} {os : List ByteArray} {ks : List Ko} {gs : List Ch} {bs : List Ba} {al mo od : List Int}
def aOS (h:Fj cs os ks gs bs al mo od=U):FN cs os ks gs bs al mo od=FJ gs (lvF (Cs cs gs<|M cs) gs al mo od):=by
 unfold FN;rw [AD h,awr<|ym h]
def aaz (h:Fj cs os ks gs bs al mo od=U):shE cs os ks gs bs al mo od=0:=by unfold shE;rw [AD h]
end
abbrev Am:Ty:=.pair A7 A7
abbrev Ra:=Int×Int
instance:Coe (List Ra) LV:=⟨.xl Am⟩
def Bw (l:List Ra) (n:Int):Ra:=l.getD n.toNat (0,0)
def u9 {l:List Ra}{n:Int}(h:n.toNat<M l):Bw l n=l[n.toNat]:=O3 h
def aRI {l:List Int}{j:Int}(h:M l<=j.toNat):gi l j=0:=by
 unfold gi;rw [DV,SL h];rfl
theorem ay6 {l:List Int}{a:Int}(h:a∈l):∃j:Int,(0<=j/\j<(M l:Int))/\gi l j=a:=by
 obtain ⟨k,hk,e⟩:=I7.1 h;exact ⟨k,A0,by rw [IF A8];simpa using e⟩
def neN {a b:Nat}:((a:Int) !=(b:Int))=!an (a=b):=by
 by_cases h:a=b
 ·simp [h]
 ·have h':(a:Int)≠(b:Int):=A0
  simp [h,h']
def Gi (t:Int) (x:Le):Bool:=an (x.2.2.2.1<=t)&&an (Mv x>t)
def JE (o:List Int) (x:Le):List Int:=o.set x.2.1.toNat<|mx (gi o x.2.1) x.2.2.1
def Gg (n:Nat) (l:List Le) (t:Int):List Int:=(l.filter<|Gi t).foldl JE<|aq n 0
def below (n:Int) (l:List Le):Bool:=l.all λx=>an<|x.2.1<n
def Kc (l:List Le) (n t:Int):Bool:=(B1 l&&(inB n 0 16&&inB t 0 1100000))&&below n l
def Gx (l:List Le) (n t:Int):List Int:=if Kc l n t=U then Gg n.toNat l t else []
def Jl (l:List Le) (n t:Int):Int:=if Kc l n t=U then 0 else 1
def aED {o:List Int}{x:Le}:M (JE o x)=M o:=by simp [JE]
def aGU:∀ {l:List Le}{o:List Int},M (l.foldl JE o)=M o
 | [],_=>rfl
 |x::l,o=>by rw [Jw,aGU,aED]
def cV {n:Nat}{l:List Le}{t:Int}:M (Gg n l t)=n:=by rw [Gg,aGU,Cf]
theorem aE8 {l:List Le}(h:B1 l=U):l.Pairwise (λa b=>a.1<b.1/\a.2.2.2.1<=b.2.2.2.1):=by
 unfold B1 at h;rw [AY] at h
 have hs:∀k:Nat,(hk:k+1<M l)->l[k].1<l[k+1].1/\l[k].2.2.2.1<=l[k+1].2.2.2.1:=λk hk=>by
  have:=Dq.1 h.2 (k+1) A0
  unfold Gk Ji at this;rw [NX (n:=((k+1:Nat):Int)) A8,NX (n:=((k+1:Nat):Int)-1) A0] at this;simp only [AY,Cl,Aa] at this;obtain ⟨_,h1|h1⟩:=this
  ·omega
  ·have e:(((k+1:Nat):Int)-1).toNat=k:=A0
   simp only [e,Bx] at h1;omega
 rw [kK];intro i j hi hj hij
 induction j with
 |zero=>omega
 | succ j ih=>
  have h1:=hs j A0
  by_cases e:i=j
  ·grind
  ·have h2:=ih A0 A0
   omega
def Cp (c:Ch):Int:=c.2.2.2.2.2.2.1
def raC (c:Ch) (r:Ra):Bool:=Hy c.2.2.1 c.2.2.2.1 c.2.2.2.2.1 c.2.2.2.2.2.1 (Cp c) r.1 r.2
def HL (x:Dm):Bool:=inB x.2.1 0 1000000000&&(inB x.2.2.1 0 1000000&&inB x.2.2.2 1 9)
def JA (cs:List Cd) (os:List ByteArray) (ks:List Ko) (gs:List Ch) (bs:List Ba) (l:List Le) (rs:List Ra) (d:List Dm) (t n:Int):Bool:=
 (BA cs os ks gs bs&&B1 l)&&((an (M rs=M gs)&&(an (M d=M gs)&&(inB t 0 1000000&&inB n 1 999900)))&&(below (M gs) l&&Di (M gs) (λj=>raC (AG gs j) (Bw rs j)&&HL (Dw d j))))
def H5 (n:Nat) (f:Int->Int):List Int:=(au n).map λk:Nat=>f (k:Int)
def Ih {n:Nat}{f:Int->Int}:M (H5 n f)=n:=by simp [H5]
theorem OW {n:Nat}{f:Int->Int}{j:Int}(h0:0<=j) (h1:j<(n:Int)):gi (H5 n f) j=f j:=by
 rw [IF (by rw [Ih];omega)]
 simp only [H5,xM,kE]
 grind
theorem aCw {n:Nat}{f:Int->Int}{x:Int}(h:x∈H5 n f):∃j,(0<=j/\j<(n:Int))/\f j=x:=by
 obtain ⟨k,hk,e⟩:=Em.1 h
 grind
def Bp (gs:List Ch):List Int:=H5 (M gs) λk=>Cp<|AG gs k
def Iy (gs:List Ch) (d:List Dm):List Int:=H5 (M gs) (λk=>if (Dw d k).1=U then (AG gs k).2.2.2.2.1 else 0)
def DG (gs:List Ch) (l:List Le) (t:Int):List Int:=H5 (M gs) λk=>mx (Cp<|AG gs k)<|gi (Gg (M gs) l t) k
def tgL (cs:List Cd) (os:List ByteArray) (ks:List Ko) (gs:List Ch) (bs:List Ba) (d:List Dm) (t:Int):List Int:=FN cs os ks gs bs (Bp gs) (Iy gs d)<|H3 d t
def Ho (cs:List Cd) (os:List ByteArray) (ks:List Ko) (gs:List Ch) (bs:List Ba) (l:List Le) (d:List Dm) (t:Int):List Int:=FN cs os ks gs bs (DG gs l t) (tgL cs os ks gs bs d t)<|H3 d t
theorem afZ {l:List Ra}{i j:Int}{v:Ra}(h0:0<=i) (h1:i<(M l:Int)) (hj:0<=j):Bw (l.set i.toNat v) j=if j=i then v else Bw l j:=by
 unfold Bw;rw [DV,DV,I3]
 by_cases e:j=i
 ·subst e
  rw [AD rfl,AD rfl,AD A0];rfl
 ·grind
theorem arB {a b:List Ra}(hl:M a=M b) (h:∀j:Int,0<=j->j<(M b:Int)->Bw a j=Bw b j):a=b:=ZI hl λk h1 h2=>by
 have:=h (k:Int) A0 A0
 rw [u9 A8,u9 A8] at this
 grind
def ofO (cs:List Cd) (os:List ByteArray) (ks:List Ko) (gs:List Ch) (bs:List Ba) (l:List Le) (d:List Dm) (t:Int) (od:List Int):List Int:=FN cs os ks gs bs (DG gs l t) (FN cs os ks gs bs (Bp gs) (Iy gs d) od) od
def nwO (a t:Int):Option Le->Bool
 |none=>U
 |some x=>x.2.2.1 !=a ||an (x.2.2.2.1<=t-6)
def nwB (gs:List Ch) (l:List Le) (t i a:Int):Bool:=!an (a<=Cp (AG gs i))&&nwO a t (l.reverse.find? λx=>x.2.1==i)
def Kq (c:Ch) (r:Ra) (w:Int):Int:=nA c.2.2.1 c.2.2.2.1 c.2.2.2.2.1 c.2.2.2.2.2.1 (Cp c) r.1 r.2 w
def nxS (c:Ch) (r:Ra) (w:Int):Int:=nS c.2.2.1 c.2.2.2.1 c.2.2.2.2.1 c.2.2.2.2.2.1 (Cp c) r.1 r.2 w
def FT (gs:List Ch) (rs:List Ra) (w:List Int) (k:Nat):List Int:=H5 k λk=>Kq (AG gs k) (Bw rs k)<|gi w k
def dcR (gs:List Ch) (rs:List Ra) (w:List Int) (k:Nat):List Ra:=(au k).map λk:Nat=>(Kq (AG gs k) (Bw rs k)<|gi w k,nxS (AG gs k) (Bw rs k)<|gi w k)
def Gt (gs:List Ch) (l:List Le) (t n:Int) (am:List Int):Nat->List Le
 |0=>[]
 |k+1=>Gt gs l t n am k++(if nwB gs l t k (gi am k)=U then [(n+M (Gt gs l t n am k),(k:Int),gi am k,t,12)] else [])
def dN {gs:List Ch}{rs:List Ra}{w:List Int}{k:Nat}:M (dcR gs rs w k)=k:=by simp [dcR]
theorem agK {gs:List Ch}{rs:List Ra}{w:List Int}{k:Nat}{j:Int}(h0:0<=j) (h1:j<(k:Int)):Bw (dcR gs rs w k) j=(Kq (AG gs j) (Bw rs j)<|gi w j,nxS (AG gs j) (Bw rs j)<|gi w j):=by
 rw [u9 (by rw [dN];omega)]
 simp only [dcR,xM,kE]
 grind
def okC (c:Ch) (r:Ra) (w:Int):Bool:=okB c.2.2.1 c.2.2.2.1 c.2.2.2.2.1 c.2.2.2.2.2.1 (Cp c) r.1 r.2 w
def dcK (gs:List Ch) (rs:List Ra) (w:List Int):Prop:=∀j,0<=j->j<(M gs:Int)->okC (AG gs j) (Bw rs j) (gi w j)=U
theorem aCU {gs:List Ch}{l:List Le}{t n:Int}{am:List Int}:∀ {k:Nat},M (Gt gs l t n am k)<=k
 |0=>by simp [Gt]
 |k+1=>by
  have:=aCU (gs:=gs) (l:=l) (t:=t) (n:=n) (am:=am) (k:=k)
  rw [Gt,BD];exact Zi
section
variable (cs : List Cd) (os : List ByteArray) (ks : List Ko) (gs : List Ch) (bs : List Ba) (l : List Le) (rs : List Ra) (d : List Dm) (t n : Int)
def deA:List Int:=if JA cs os ks gs bs l rs d t n=U then FT gs rs (Ho cs os ks gs bs l d t) (M gs) else []
def deR:List Ra:=if JA cs os ks gs bs l rs d t n=U then dcR gs rs (Ho cs os ks gs bs l d t) (M gs) else []
def deL:List Le:=if JA cs os ks gs bs l rs d t n=U then Gt gs l t n (FT gs rs (Ho cs os ks gs bs l d t)<|M gs) (M gs) else []
def deE:Int:=if JA cs os ks gs bs l rs d t n=U then 0 else 1
end
section
variable {cs : List Cd} {os : List ByteArray} {ks : List Ko} {gs : List Ch} {bs : List Ba} {l : List Le} {rs : List Ra} {d : List Dm} {t n : Int}
structure Vd (cs:List Cd) (os:List ByteArray) (ks:List Ko) (gs:List Ch) (bs:List Ba) (l:List Le) (rs:List Ra) (d:List Dm) (t n:Int):Prop where
 site:BA cs os ks gs bs=U
 les:B1 l=U
 rl:M rs=M gs
 dl:M d=M gs
 gl:M gs<=16
 tb:0<=t/\t<=1000000
 nb:1<=n/\n<=999900
 co:below (M gs) l=U
 ra:∀j:Int,0<=j->j<(M gs:Int)->raC (AG gs j) (Bw rs j)=U
 dm:∀j:Int,0<=j->j<(M gs:Int)->HL (Dw d j)=U
 ch:∀j:Int,0<=j->j<(M gs:Int)->chW (AG gs j)=U
def aa1 (h:JA cs os ks gs bs l rs d t n=U):Vd cs os ks gs bs l rs d t n:=by
 unfold JA at h;simp only [AY,Aa,CM] at h;obtain ⟨⟨h1,h2⟩,⟨h3,h4,h5,h6⟩,h7,h8⟩:=h
 have hj:∀j:Int,0<=j->j<(M gs:Int)->raC (AG gs j) (Bw rs j)=U/\HL (Dw d j)=true:=λj h0 hj=>by
  have:=Dq.1 h8 j.toNat A0
  rw [CL h0,AY] at this;exact this
 exact ⟨h1,h2,h3,h4,(D5.1 h1).1.2.2.2.2.1,h5,h6,h7,λj h0 h1=>(hj j h0 h1).1,λj h0 h1=>(hj j h0 h1).2,λj h0 hj=>by
  have:=Q6 h1 h0 hj
  unfold Gl at this;simp only [AY] at this;exact this.2.2⟩
def dz {c:Ch}(h:chW c=U):(1<=c.2.2.1/\c.2.2.1<=7)/\(1<=c.2.2.2.1/\c.2.2.2.1<=c.2.2.2.2.1)/\c.2.2.2.2.1<=80/\(1<=c.2.2.2.2.2.1/\c.2.2.2.2.2.1<=80)/\0<=Cp c/\Cp c<=c.2.2.2.2.1:=by
 unfold chW at h;unfold Cp;simp only [AY,Cl,CM,DJ] at h;omega
theorem dS (hv:B1 l=U) {m:Nat}:∀a∈Gg m l t,0<=a/\a<=80:=by
 have key:∀(l:List Le) (o:List Int),(∀x∈l,DA x=U)->(∀a∈o,0<=a/\a<=80)->∀a∈l.foldl JE o,0<=a/\a<=80:=λl=>by
  induction l with
  |nil=>exact λo _ h=>h
  | cons x l ih=>
   intro o hl ho;refine ih _ (λy hy=>hl y A8) λa ha=>?_
   have hx:=MR.1<|hl x AI
   rcases SJ ha with ha|rfl
   ·grind
   ·have:0<=gi o x.2.1/\gi o x.2.1<=80:=by
     by_cases h:x.2.1.toNat<M o
     ·rw [IF h];exact ho _<|HS _
     ·rw [aRI A0];omega
    unfold mx;omega
 refine key _ _ (λx hx=>(Gv hv).2 x (DK.1 hx).1) λa ha=>?_
 rw [List.eq_of_mem_replicate ha];omega
def aHv (hd:M d=M gs):GW (H3 d t) (M gs)=true:=by
 unfold GW;rw [aEW,hd,Cq rfl,EH,AY,BH];refine ⟨λx hx=>oH.2 (by have:=anP.1 hx;rw [hd] at this;exact this),oz.2 λj hj hm=>?_⟩
 obtain ⟨k,hk,e⟩:=I7.1 hm;rw [M6] at hk;rw [List.getElem_take] at e
 have:=(kK.1<|aei (d:=d) (t:=t)) k j A0 hj A0
 exact this e
def XP {l:List Int}{a b:Int}(hz:a<=0/\0<=b) (h:∀x∈l,a<=x/\x<=b) {j:Int}:a<=gi l j/\gi l j<=b:=by
 by_cases hj:j.toNat<M l
 ·rw [IF hj];exact h _<|HS _
 ·rw [aRI A0];exact hz
structure Si (cs:List Cd) (os:List ByteArray) (ks:List Ko) (gs:List Ch) (bs:List Ba) (d:List Dm):Prop where
 site:BA cs os ks gs bs=U
 dl:M d=M gs
theorem Si.ch (h:Si cs os ks gs bs d) {j:Int}(h0:0<=j) (hj:j<(M gs:Int)):chW (AG gs j)=true:=by
 have:=Q6 h.site h0 hj
 unfold Gl at this
 grind
def Vd.si (h:Vd cs os ks gs bs l rs d t n):Si cs os ks gs bs d:=⟨h.site,h.dl⟩
def ahQ (h:Si cs os ks gs bs d):∀a∈Bp gs,0<=a/\a<=80:=λa ha=>by
 exact aMP
def av8 (h:Si cs os ks gs bs d):∀a∈Iy gs d,0<=a/\a<=80:=λa ha=>by
 exact aMP
def ahb (h:Vd cs os ks gs bs l rs d t n):∀a∈DG gs l t,0<=a/\a<=80:=λa ha=>by
 obtain ⟨j,⟨h0,h1⟩,rfl⟩:=aCw ha
 have:=dz<|h.ch j h0 h1
 have:=XP (j:=j) ⟨DU 0,Ae⟩<|dS h.les (m:=M gs) (t:=t)
 unfold mx;omega
theorem aOT {al mo od:List Int}(hk:Fj cs os ks gs bs al mo od=U):letI a:=FN cs os ks gs bs al mo od;M a=M gs/\∀j,0<=j->j<(M gs:Int)->(0<=gi a j/\gi a j<=80)/\gi a j<=gi mo j:=by
 have H:=ym hk
 rw [aOS hk];refine ⟨aFW,λj h0 h1=>?_⟩
 obtain ⟨_,_,_,e4,e5⟩:=ahY H (za H) h0 h1
 have h3:=(ajN H h0 h1 ((za H).2 j h0 h1).1 ((za H).2 j h0 h1).2).2<|aQZ H h0 h1
 rw [TI h0 h1] at e4 e5|-
 grind
theorem aGi {al mo od:List Int}(hk:Fj cs os ks gs bs al mo od=U):M (FN cs os ks gs bs al mo od)=M gs/\∀a∈FN cs os ks gs bs al mo od,0<=a/\a<=80:=by
 obtain ⟨h1,h2⟩:=aOT hk;refine ⟨h1,λa ha=>?_⟩
 obtain ⟨j,hj,rfl⟩:=ay6 ha
 grind
def aau (h:Si cs os ks gs bs d):Fj cs os ks gs bs (Bp gs) (Iy gs d) (H3 d t)=true:=
 L6.2 ⟨h.site,Ih,Ih,BH.2 λa ha=>Q1.2<|ahQ h a ha,BH.2 λa ha=>Q1.2<|av8 h a ha,aHv h.dl⟩
def aav (h:Si cs os ks gs bs d):M (tgL cs os ks gs bs d t)=M gs/\∀a∈tgL cs os ks gs bs d t,0<=a/\a<=80:=by
 exact aGi<|aau (t:=t) h
def gZ (h:Vd cs os ks gs bs l rs d t n):Fj cs os ks gs bs (DG gs l t) (tgL cs os ks gs bs d t) (H3 d t)=true:=
 L6.2 ⟨h.site,Ih,(aav h.si).1,BH.2 λa ha=>Q1.2<|ahb h a ha,BH.2 λa ha=>Q1.2<|(aav h.si).2 a ha,aHv h.dl⟩
def aaN (h:Vd cs os ks gs bs l rs d t n):M (Ho cs os ks gs bs l d t)=M gs/\∀a∈Ho cs os ks gs bs l d t,0<=a/\a<=80:=by
 exact aGi<|gZ h
def ajs (h:Vd cs os ks gs bs l rs d t n) {j:Int}:letI a:=Ho cs os ks gs bs l d t;0<=gi a j/\gi a j<=80:=XP ⟨DU 0,Ae⟩ (aaN h).2
def aRd (h:Vd cs os ks gs bs l rs d t n):dcK gs rs (Ho cs os ks gs bs l d t):=λj j0 j1=>by
 have hr:=h.ra j j0 j1
 have hb:=ajs h (j:=j)
 unfold raC at hr;unfold okC okB;rw [hr,Cq hb.1,Cq hb.2];rfl
def auH (h:Vd cs os ks gs bs l rs d t n):Kc l (M gs) t=true:=by
 have:=h.gl
 have:=h.tb
 unfold Kc;rw [h.les,CM.2 ⟨A0,A0⟩,CM.2 ⟨A0,A0⟩,h.co];rfl
end
section
variable {P : List Int -> Bool} {tp : Int -> Int}
end
def Kr (mn mx st a:Int):Bool:=a==0 ||(an (mn<=a)&&(an (a<=mx)&&((a-mn) %st==0)))
def W7 {mn mx st a:Int}:Kr mn mx st a=U↔a=0\/(mn<=a/\a<=mx/\(a-mn) %st=0):=by simp [Kr]
theorem ck {mn mx st a:Int}(hc:Dz mn mx st):Kr mn mx st (Bv mn mx st a)=true:=by
 unfold Dz at hc;rw [W7];unfold Bv;split
 ·grind
 ·right
  have e1:=aBw (x:=min a mx-mn) (s:=st) A0 A0
  refine ⟨A0,A0,?_⟩
  have h:=kP (min a mx-mn) st
  rw [show min a mx-(min a mx-mn) %st-mn=st*((min a mx-mn) / st) by omega]
  simp_all
def fH {mn mx st a:Int}(hc:Dz mn mx st) (ha:0<=a):Bv mn mx st a<=a:=by
 have hc':=hc
 have:=bn (a:=a) hc'.1 hc'.2.1 hc'.2.2.1 hc'.2.2.2.1
 by_cases h:a<mn
 ·omega
 ·omega
def arH {x y s:Int}(hs:1<=s) (hy:y%s=0) (h:y<=x):y<=x-x%s:=by
 have h1:=kP x s
 have h2:=kP y s
 have h3:=Int.emod_lt_of_pos x (b:=s) A0
 by_cases hq:y / s<=x / s
 ·have:=Pd hq (show 0<=s by omega)
  omega
 ·have:=Pd (show x / s+1<=y / s by omega) (show 0<=s by omega)
  rw [Int.mul_add,Int.mul_one] at this;omega
def nD {mn mx st a L:Int}(hc:Dz mn mx st) (hL:Kr mn mx st L=U) (h:L<=a):L<=Bv mn mx st a:=by
 have hc':=hc
 unfold Dz at hc';rw [W7] at hL;rcases hL with rfl|⟨h1,h2,h3⟩
 ·exact (bn (a:=a) hc'.1 hc'.2.1 hc'.2.2.1 hc'.2.2.2.1).1
 ·unfold Bv
  have:=arH (x:=min a mx-mn) (y:=L-mn) (s:=st) A0 h3 A0
  omega
def aEH {mn mx st a:Int}(hc:Dz mn mx st) (h:Kr mn mx st a=U) (ha:0<=a):Bv mn mx st a=a:=by
 have h1:=fH hc ha
 have h2:=nD hc h<|DU a
 omega
theorem aEZ {ph mn mx st fb a s want:Int}(h:okB ph mn mx st fb a s want=U):Dz mn mx st/\0<=s/\s<=1000000/\0<=want/\want<=80/\0<=a/\a<=80/\Kr mn mx st a=U/\a<=mx/\(a≠0->mn<=a):=by
 have h':=h
 simp only [okB,Hy,AY,Aa,DJ] at h';obtain ⟨⟨_,_,_,_,h5⟩,_⟩:=h';obtain ⟨_,h2,h3,h4,h6,h7,_⟩:=aGc h
 have hl:Kr mn mx st a=true:=by rw [<-h5];exact ck h2
 have hl':=W7.1 hl
 have h2':=h2
 unfold Dz at h2'
 grind
def akk {ph mn mx st fb a s want:Int}(h:okB ph mn mx st fb a s want=U):nE ph mn mx st fb a s want=0:=by rw [nE,AD h]
def aaP {ph mn mx st fb a s want:Int}(h:okB ph mn mx st fb a s want=U):nA ph mn mx st fb a s want=if a=0 then (if Bv mn mx st want≠0/\5<=s then mn else 0) else if Bv mn mx st want=0 then 0 else min (Bv mn mx st want) (a+st):=by rw [nA,AD h]
def akj {ph mn mx st fb a s want:Int}(h:okB ph mn mx st fb a s want=U):nS ph mn mx st fb a s want=if a=0 then (if Bv mn mx st want≠0/\5<=s then 0 else min (s+1) 1000000) else if Bv mn mx st want=0 then 0 else min (s+1) 1000000:=by rw [nS,AD h]
def aRR {mn mx st:Int}(hc:Dz mn mx st):Kr mn mx st mn=true:=by
 unfold Dz at hc;rw [W7];right;exact ⟨A0,A0,AI⟩
theorem ar9 {mn mx st a:Int}(ha:Kr mn mx st a=U) (h0:a≠0) (h1:a+st<=mx) (hs:1<=st):Kr mn mx st (a+st)=true:=by
 rw [W7] at ha|-;rcases ha with h|⟨h2,h3,h4⟩
 ·grind
 ·right
  exact ⟨A0,h1,by rw [show a+st-mn=(a-mn)+st by omega,Int.add_emod_right];exact h4⟩
def aEI {mn mx st a b:Int}(hc:Dz mn mx st) (h0:0<=a) (h:a<=b):Bv mn mx st a<=Bv mn mx st b:=by
 have h1:=fH hc h0
 exact nD hc (ck (a:=a) hc) A0
def afy {mn mx st a:Int}(hc:Dz mn mx st):Bv mn mx st a<=mx:=by
 have h:=W7.1<|ck (a:=a) hc
 unfold Dz at hc;omega
def ar1 {mn mx st a want:Int}(hc:Dz mn mx st) (ha:Kr mn mx st a=U) (h0:a≠0) (ha0:0<=a) (hw:0<=want):(if Bv mn mx st want=0 then 0 else min (Bv mn mx st want) (a+st))=Bv mn mx st (min want<|a+st):=by
 have hc':=hc
 unfold Dz at hc'
 by_cases h1:want<=a+st
 ·rw [show min want (a+st)=want by omega]
  have:=fH hc hw
  omega
 ·rw [show min want (a+st)=a+st by omega]
  by_cases h2:a+st<=mx
  ·have hl:=ar9 ha h0 h2 A0
   rw [aEH hc hl A0]
   have:=nD hc hl (show a+st<=want by omega)
   omega
  ·have m1:=afy (a:=want) hc
   have g1:=nD hc (ck (a:=want) hc) (show Bv mn mx st want<=a+st by omega)
   have g2:=aEI hc (show 0<=a+st by omega) (show a+st<=want by omega)
   omega
theorem ark {ph mn mx st fb a s want most:Int}(hk:okB ph mn mx st fb a s want=U) (hm:most=if a=0 then mn else a+st):
  Kr mn mx st (nA ph mn mx st fb a s want)=U/\nA ph mn mx st fb a s want<=want/\nA ph mn mx st fb a s want<=most/\(nA ph mn mx st fb a s want=Bv mn mx st (min want most)\/(a=0/\s<5/\nA ph mn mx st fb a s want=0))/\(a≠0\/5<=s\/nA ph mn mx st fb a s want=0):=by
 obtain ⟨hc,h1,h2,h3,h4,h5,h6,h7,h8,h9⟩:=aEZ hk
 have hc':=hc
 unfold Dz at hc';rw [aaP hk]
 by_cases h0:a=0
 ·rw [AD h0] at hm|-
  by_cases hh:Bv mn mx st want≠0/\5<=s
  ·rw [AD hh]
   have hw:mn<=want:=by
    apply Classical.byContradiction
    intro hn;exact hh.1<|by rw [Bv,AD A0]
   refine ⟨aRR hc,hw,A0,.inl ?_,.inr<|.inl hh.2⟩;rw [hm,show min want mn=mn by omega,aEH hc (aRR hc) A0]
  ·rw [AE hh]
   refine ⟨A8,h3,A0,?_,.inr<|.inr rfl⟩
   by_cases hs:s<5
   ·grind
   ·left
    have h10:Bv mn mx st want=0:=by
     apply Classical.byContradiction
     omega
    have:=aEI hc (show 0<=min want most by omega) (show min want most<=want by omega)
    have:=(bn (a:=min want most) hc'.1 hc'.2.1 hc'.2.2.1 hc'.2.2.2.1).1
    omega
 ·rw [AE h0] at hm|-
  rw [ar1 hc h7 h0 h5 h3]
  have:=fH hc (show 0<=min want (a+st) by omega)
  exact ⟨ck hc,A0,A0,.inl<|by rw [hm],.inl h0⟩
def aew {ph mn mx st fb a s want:Int}(hk:okB ph mn mx st fb a s want=U):
  0<=nA ph mn mx st fb a s want/\(0<=nS ph mn mx st fb a s want/\nS ph mn mx st fb a s want<=1000000/\nS ph mn mx st fb a s want<=s+1)/\(a=0->nA ph mn mx st fb a s want≠0->5<=s)/\(a≠0->nA ph mn mx st fb a s want=0->nS ph mn mx st fb a s want=0)/\
  (¬((nA ph mn mx st fb a s want=0)↔(a=0))->nS ph mn mx st fb a s want=0)/\(((nA ph mn mx st fb a s want=0)↔(a=0))->nS ph mn mx st fb a s want=min (s+1) 1000000):=by
 obtain ⟨hc,h1,h2,h3,h4,h5,h6,h7,h8,h9⟩:=aEZ hk
 have hc':=hc
 unfold Dz at hc'
 have hb:=(bn (a:=want) hc'.1 hc'.2.1 hc'.2.2.1 hc'.2.2.2.1).1
 rw [aaP hk,akj hk]
 by_cases h0:a=0
 ·simp only [AD h0]
  by_cases hh:Bv mn mx st want≠0/\5<=s
  ·omega
  ·omega
 ·simp only [AE h0]
  by_cases hh:Bv mn mx st want=0
  ·omega
  ·omega
def ar0 {al x y:List Int}{r:Rw}(hm:∀m∈r.2,0<=gi y m/\gi y m<=gi x m) (h:rowB al x r=U):rowB al y r=true:=by
 unfold rowB at h|-;rw [Cl] at h|-;rcases h with h|h
 ·left
  rw [BH] at h|-;intro m hmm
  have h1:=h m hmm
  have h2:=hm m hmm
  rw [DJ] at h1|-;omega
 ·right
  exact Cq<|IX (aEh λm hmm=>(hm m hmm).2)<|DY h
def anR {rows:List Rw}{al x y:List Int}(hm:∀r∈rows,∀m∈r.2,0<=gi y m/\gi y m<=gi x m) (h:P4 rows al x=U):P4 rows al y=true:=by
 unfold P4 at h|-;rw [BH] at h|-;exact λr hr=>ar0 (hm r hr)<|h r hr
section
variable {cs : List Cd} {os : List ByteArray} {ks : List Ko} {gs : List Ch} {bs : List Ba} {l : List Le} {rs : List Ra} {d : List Dm} {t n : Int}
def anJ {al mo od:List Int}(hk:Fj cs os ks gs bs al mo od=U):P4 (Cs cs gs<|M cs) al (FN cs os ks gs bs al mo od)=true:=by
 rw [aOS hk];exact ayB<|ym hk
def agL {w:List Int}{k:Nat}{j:Int}(h0:0<=j) (h1:j<(k:Int)):gi (FT gs rs w k) j=Kq (AG gs j) (Bw rs j) (gi w j):=OW h0 h1
def abY (V:Vd cs os ks gs bs l rs d t n) {j:Int}(j0:0<=j) (j1:j<(M gs:Int)):letI a:=Ho cs os ks gs bs l d t;0<=gi (FT gs rs a<|M gs) j/\gi (FT gs rs a<|M gs) j<=gi a j/\gi a j<=gi (tgL cs os ks gs bs d t) j:=by
 have hk:=aRd V j j0 j1
 rw [agL j0 j1];exact ⟨(aew hk).1,(ark hk rfl).2.1,((aOT<|gZ V).2 j j0 j1).2⟩
def aqz {r:Rw}{m:Int}(hr:r∈Cs cs gs (M cs)) (hm:m∈r.2):0<=m/\m<(M gs:Int):=(row_mem hr).2.1 m hm
def au4 (V:Vd cs os ks gs bs l rs d t n):P4 (Cs cs gs<|M cs) (DG gs l t) (FT gs rs (Ho cs os ks gs bs l d t)<|M gs)=true:=
 anR (λr hr m hm=>by
  have hm:=aqz hr hm
  have:=abY V hm.1 hm.2
  exact ⟨this.1,this.2.1⟩) (anJ<|gZ V)
def ayk {i a:Int}(h:nwB gs l t i a=U):Cp (AG gs i)<a:=by
 unfold nwB at h;rw [AY] at h
 have h1:=h.1
 simp only [DB,D3] at h1;omega
end
abbrev Ld:=Int×Ra
def Dn (l:List Ld) (i:Nat):Ld:=l.getD i<|Ty.dflt<|.pair A7 Am
def XA (l:List Ld) (i:Nat) (v:Int):List Ld:=l.set i ((AA<|(l.getD i<|Ty.dflt<|.pair A7 Am).1+v),(l.getD i<|Ty.dflt<|.pair A7 Am).2)
def Uc (l:List Ld) (i:Nat) (v:Int):List Ld:=letI a:=l.getD i<|Ty.dflt<|.pair A7 Am;l.set i (a.1,((AA<|a.2.1+v),a.2.2))
def Kl (l:List Ld) (i:Nat) (v:Int):List Ld:=letI a:=l.getD i<|Ty.dflt<|.pair A7 Am;l.set i (a.1,(a.2.1,(AA<|a.2.2+v)))
def aBl {l:List Ld}{i:Nat}{v:Int}:M (XA l i v)=M l:=by simp [XA]
def aBk {l:List Ld}{i:Nat}{v:Int}:M (Uc l i v)=M l:=by simp [Uc]
def aBj {l:List Ld}{i:Nat}{v:Int}:M (Kl l i v)=M l:=by simp [Kl]
def adE (ph v:Int) (e:Ld):Ld:=
 (if (Bf J ph 1 !=0)=U then AA (e.1+v) else e.1,
  (if (Bf J ph 2 !=0)=U then AA (e.2.1+v) else e.2.1,
   if (Bf J ph 4 !=0)=U then AA (e.2.2+v) else e.2.2))
def adP (ph v:Int) (l:List Ld) (i:Nat):List Ld:=l.set i<|adE ph v<|Dn l i
theorem aI1 {l:List Ld}{i j:Nat}{e:Ld}(h:i<M l):Dn (l.set i e) j=if i=j then e else Dn l j:=by
 unfold Dn;rw [DV,DV,I3]
 by_cases hij:i=j
 ·subst hij
  rw [AD rfl,AD rfl,AD h];rfl
 ·grind
def aoF {l:List Ld}{i:Nat}(h:i<M l):l.set i (Dn l i)=l:=by
 unfold Dn
 simp_all
def avp {l:List Ld}{i:Nat}{v:Int}:XA l i v=l.set i (AA<|(Dn l i).1+v,(Dn l i).2):=rfl
def avo {l:List Ld}{i:Nat}{v:Int}:Uc l i v=l.set i ((Dn l i).1,(AA<|(Dn l i).2.1+v,(Dn l i).2.2)):=rfl
def avn {l:List Ld}{i:Nat}{v:Int}:Kl l i v=l.set i ((Dn l i).1,((Dn l i).2.1,AA<|(Dn l i).2.2+v)):=rfl
def ah9 {ph v:Int}{l:List Ld}{i:Nat}(h:i<M l):adP ph v l i=
  (let a:=if (Bf J ph 1 !=0)=U then XA l i v else l
   let b:=if (Bf J ph 2 !=0)=U then Uc a i v else a
   if (Bf J ph 4 !=0)=U then Kl b i v else b):=by
 unfold adP adE
 by_cases h1:(Bf J ph 1 !=0)=U<;>by_cases h2:(Bf J ph 2 !=0)=U<;>by_cases h4:(Bf J ph 4 !=0)=U<;>
  simp only [h1,h2,h4,Br,I5,FA,avp,avo,avn,aI1 h,List.set_set]<;>exact aoF h
def auL {ph v:Int}{l:List Ld}{i:Nat}:M (adP ph v l i)=M l:=by simp [adP]
def ldW:Nat->List Cd->Int->Int->Int->List Ld->List Ld
 |0,_,_,_,_,l=>l
 |k+1,cs,ph,v,c,l=>if c>=0 then ldW k cs ph v (Ac cs c).2.1 (adP ph v l c.toNat) else l
def Gn (cs:List Cd) (ph v c:Int) (l:List Ld):List Ld:=ldW (c.toNat+2) cs ph v c l
theorem aRK {cs:List Cd}{ph v:Int}(hu:FU cs=U):∀(k k':Nat) (c:Int) (l:List Ld),c<M cs->(c+1).toNat<k->(c+1).toNat<k'->ldW k cs ph v c l=ldW k' cs ph v c l
 |0,_,_,_,_,h,_=>A0
 |_+1,0,_,_,_,_,h=>A0
 | k+1,k'+1,c,l,hc,h,h'=>by
  simp only [ldW]
  by_cases h0:c>=0
  ·rw [AD h0,AD h0]
   have:=QL hu h0 hc
   exact aRK hu k k' _ _ A0 A0 A0
  ·grind
theorem azm {cs:List Cd}{ph v c:Int}{l:List Ld}(hu:FU cs=U) (hc:c<M cs):Gn cs ph v c l=if c>=0 then Gn cs ph v (Ac cs c).2.1 (adP ph v l c.toNat) else l:=by
 unfold Gn;rw [ldW]
 by_cases h0:c>=0
 ·rw [AD h0,AD h0]
  have:=QL hu h0 hc
  rw [aRK hu (c.toNat+1) ((Ac cs c).2.1.toNat+2) (Ac cs c).2.1 _ A0 A0 A0]
 ·grind
def aP6 {cs:List Cd}{o:Int}(hu:FU cs=U):∀(k:Nat) (c:Int),c<M cs->GB k cs o c=U->o<=c
 |0,_,_,h=>by simp [GB] at h
 | k+1,c,hc,h=>by
  simp only [GB] at h;split at h
  ·rename_i h0
   rw [Cl] at h;rcases h with h|h
   ·have:=eq_of_beq h
    omega
   ·have h1:=QL hu h0 hc
    have:=aP6 hu k _ A0 h
    omega
  ·cases h
theorem aRL {cs:List Cd}{ph v:Int}(hu:FU cs=U) {o:Nat}:∀(k:Nat) (c:Int) (l:List Ld),c<M cs->M l=M cs->M (ldW k cs ph v c l)=M cs/\Dn (ldW k cs ph v c l) o=if GB k cs (o:Int) c=U then adE ph v (Dn l o) else Dn l o
 |0,c,l,hc,hl=>⟨hl,by simp [ldW,GB]⟩
 | k +1,c,l,hc,hl=>by
  simp only [ldW]
  by_cases h0:c>=0
  ·have e0:GB (k+1) cs (o:Int) c=(c==(o:Int) ||GB k cs (o:Int) (Ac cs c).2.1):=by
    show (if c>=0 then _ else _)=_
    grind
   rw [AD h0,e0]
   have h1:=QL hu h0 hc
   have hct:c.toNat<M l:=A0
   obtain ⟨q1,q2⟩:=aRL hu (o:=o) k (Ac cs c).2.1 (adP ph v l c.toNat) A0 (by rw [auL];exact hl)
   refine ⟨q1,?_⟩;rw [q2];unfold adP;rw [aI1 hct]
   by_cases hco:c.toNat=o
   ·have hb:(c==(o:Int))=true:=A8
    have hn:GB k cs (o:Int) (Ac cs c).2.1=false:=by
     cases hq:GB k cs (o:Int) (Ac cs c).2.1 with
     |false=>rfl
     |true=>
      have:=aP6 hu k _ A0 hq
      omega
    rw [hb,hn,AD hco,hco]
    simp
   ·have hb:(c==(o:Int))=false:=by
     cases hq:c==(o:Int) with
     |false=>rfl
     |true=>
      have:=eq_of_beq hq
      omega
    grind
  ·have e0:GB (k+1) cs (o:Int) c=false:=by
    show (if c>=0 then _ else _)=_
    grind
   grind
def ub {cs:List Cd}{ph v c:Int}{l:List Ld}(hu:FU cs=U) (hc:c<M cs) (hl:M l=M cs) (o:Nat):M (Gn cs ph v c l)=M cs/\Dn (Gn cs ph v c l) o=if FW cs (o:Int) c=U then adE ph v (Dn l o) else Dn l o:=
 aRL hu _ c l hc hl
def JD (cs:List Cd) (gs:List Ch) (am:List Int):Nat->List Ld
 |0=>aq (M cs) (Ty.dflt<|.pair A7 Am)
 |k+1=>Gn cs (AG gs k).2.2.1 (gi am k) (AG gs k).2.1<|JD cs gs am k
def EC (am:List Int):List Int->Int
 | []=>0
 |k::l=>gi am k+EC am l
def aGF {am:List Int}:∀ {l m:List Int},EC am (l++m)=EC am l+EC am m
 | [],m=>by simp [EC]
 |k::l,m=>by
  rw [Ju];simp only [EC];rw [aGF];omega
def aON {am:List Int}{b:Int}:∀ {l:List Int},(∀k∈l,0<=gi am k/\gi am k<=b)->0<=EC am l/\EC am l<=b*(M l:Int)
 | [],_=>by simp [EC]
 |k::l,h=>by
  have h1:=h k AI
  have h2:=aON (b:=b) λj hj=>h j<|N4 _ hj
  simp only [EC,Bc,Int.natCast_add,Int.mul_add];omega
def ajJ {ph:Int}:usA ph 0=(Bf J ph 1 !=0):=rfl
def ajI {ph:Int}:usA ph 1=(Bf J ph 2 !=0):=rfl
def ajH {ph:Int}:usA ph 2=(Bf J ph 4 !=0):=rfl
def atp {gs:List Ch}{p:Int}{l m:List Int}:Bs gs p (l++m)=Bs gs p l++Bs gs p m:=by simp [Bs]
def atn {gs:List Ch}{p k:Int}:Bs gs p [k]=if usA (AG gs k).2.2.1 p=U then [k] else []:=by
 unfold Bs;rw [N1];rfl
def ldO (cs:List Cd) (gs:List Ch) (am:List Int) (o:Int) (k:Nat):Ld:=letI a:=Co cs gs o k;(EC am<|Bs gs 0 a,(EC am<|Bs gs 1 a,EC am<|Bs gs 2 a))
def pg {cs:List Cd}{gs:List Ch}{am:List Int}{o:Int}{k:Nat}{p:Int}:EC am (Bs gs p<|Co cs gs o<|k+1)=EC am (Bs gs p<|Co cs gs o k)+(if FW cs o (AG gs k).2.1=U then (if usA (AG gs k).2.2.1 p=U then gi am k else 0) else 0):=by
 rw [aDr,atp,aGF]
 by_cases h:FW cs o (AG gs k).2.1=U
 ·rw [AD h,AD h,atn]
  split<;>simp [EC]
 ·rw [AE h,AE h]
  simp [Bs,EC]
def qI {cs:List Cd}{gs:List Ch}{am:List Int}(hu:FU cs=U) (ha:atB cs gs=U):∀k:Nat,k<=M gs->M (JD cs gs am k)=M cs
 |0,_=>by simp [JD]
 |k+1,hk=>(ub hu (fU ha A0 A0) (qI hu ha k A0) 0).1
theorem aRM {cs:List Cd}{gs:List Ch}{am:List Int}(hu:FU cs=U) (ha:atB cs gs=U) (hg:M gs<=1000) (hm:∀k:Nat,k<M gs->0<=gi am k/\gi am k<=80):
  ∀k:Nat,k<=M gs->M (JD cs gs am k)=M cs/\∀o:Nat,o<M cs->Dn (JD cs gs am k) o=ldO cs gs am o k
 |0,_=>⟨by simp [JD],λo ho=>by
  simp only [JD,ldO,Dn];rw [DV,ZB,AD ho];rfl⟩
 | k+1,hk=>by
  obtain ⟨q1,q2⟩:=aRM hu ha hg hm k A0
  have hc:(AG gs k).2.1<(M cs:Int):=fU ha A0 A0
  refine ⟨(ub hu hc q1 0).1,λo ho=>?_⟩
  show Dn (Gn _ _ _ _ _) o=_
  rw [(ub hu hc q1 o).2,q2 o ho]
  have bd:∀p:Int,0<=EC am (Bs gs p<|Co cs gs o k)/\EC am (Bs gs p<|Co cs gs o k)<=80000:=λp=>by
   have h1:=aON (am:=am) (b:=80) (l:=Bs gs p<|Co cs gs o k) (λj hj=>by
    have h2:=cS (DK.1 hj).1
    have:=hm j.toNat A0
    rwa [CL h2.1] at this)
   have h2:=aH6 (gs:=gs) (p:=p) (l:=Co cs gs o k)
   have h3:=oM (cs:=cs) (gs:=gs) (o:=o) (k:=k)
   omega
  have hv:=hm k A0
  have b0:=bd 0
  have b1:=bd 1
  have b2:=bd 2
  unfold ldO;rw [pg,pg,pg]
  by_cases h:FW cs o (AG gs k).2.1=U
  ·rw [AD h,AD h,AD h,AD h]
   unfold adE;rw [<-ajJ,<-ajI,<-ajH];dsimp only;rw [AJ,AJ,AJ]
   grind
  ·grind
abbrev BJ:Ty:=.pair A7 AP
abbrev Lk:=Int×Le
def Gc (l:List Lk) (n:Int):Lk:=l.getD n.toNat (0,0,0,0,0,0)
structure PK where
 cs:List Cd
 os:List ByteArray
 ks:List Ko
 gs:List Ch
 bs:List Ba
 tk:Int
 up:Bool
 ls:List Le
 se:Int
 fl:List Int
 ra:List Ra
 nx:Int
 st:List St
 ca:List Ca
 mi:List Mi
 me:List Me
 dm:List Dm
 lk:List Lk
 (dr tg:List Int)
def pB (p:PK):AB:=⟨[.xl Ad p.cs,.xl .str p.os,.xl Ah p.ks,.xl Af p.gs,.xl Ai p.bs,.v<|Y J p.tk,.v<|.bool p.up,.xl AP p.ls,.v<|Y J p.se,.xl (.int aw) p.fl,.xl Am p.ra,.v<|Y J p.nx,.xl B3 p.st,.xl AP p.ca,.xl B6 p.mi,.xl BO p.me,.xl As p.dm,.xl BJ p.lk,.xl A7 p.dr,.xl A7 p.tg],47,.cl,X⟩
instance:Coe PK LV:=⟨λp=> .agg [.xl Ad p.cs,.xl .str p.os,.xl Ah p.ks,.xl Af p.gs,.xl Ai p.bs,.v<|Y J p.tk,.v<|.bool p.up,.xl AP p.ls,.v<|Y J p.se,.xl (.int aw) p.fl,.xl Am p.ra,.v<|Y J p.nx,.xl B3 p.st,.xl AP p.ca,.xl B6 p.mi,.xl BO p.me,.xl As p.dm,.xl BJ p.lk,.xl A7 p.dr,.xl A7 p.tg]⟩
def rQ (b:List AB) (q:Nat):PK:=letI a:=CT b q;⟨Ao Ad<|B8 a 0,Ao .str<|B8 a 1,Ao Ah<|B8 a 2,Ao Af<|B8 a 3,Ao Ai<|B8 a 4,gI<|B8 a 5,gBo<|B8 a 6,Ao AP<|B8 a 7,gI<|B8 a 8,Ao (.int aw)<|B8 a 9,Ao Am<|B8 a 10,gI<|B8 a 11,Ao B3<|B8 a 12,Ao AP<|B8 a 13,Ao B6<|B8 a 14,Ao BO<|B8 a 15,Ao As<|B8 a 16,Ao BJ<|B8 a 17,Ao A7<|B8 a 18,Ao A7<|B8 a 19⟩
def rV (b:List AB) (q j k:Nat) (e:Ty):List e.D:=bif Nat.beq k 0 then Ao e (B8 (CT b q) j) else gVe e (CT b k)
def rB (b:List AB) (q acs als afl ara ast aca ami ame adm alk adr atg:Nat):PK:=letI a:=CT b q;⟨rV b q 0 acs Ad,Ao .str<|B8 a 1,Ao Ah<|B8 a 2,Ao Af<|B8 a 3,Ao Ai<|B8 a 4,gI<|B8 a 5,gBo<|B8 a 6,rV b q 7 als AP,gI<|B8 a 8,rV b q 9 afl<|.int aw,rV b q 10 ara Am,gI<|B8 a 11,rV b q 12 ast B3,rV b q 13 aca AP,rV b q 14 ami B6,rV b q 15 ame BO,rV b q 16 adm As,rV b q 17 alk BJ,rV b q 18 adr A7,rV b q 19 atg A7⟩
def rF (b:List AB):PK:=rB b 16 4 5 6 7 8 9 10 11 12 13 14 15
def rT (b:List AB):PK:=rB b 16 4 0 0 0 8 9 10 11 0 0 14 15
abbrev _root_.Go.Sx.T.pc {α:Type}(p:PK) (t:T α):T α:=.rl p.cs<|.rl p.ls<|.rl p.fl<|.rl p.ra<|.rl p.st<|.rl p.ca<|.rl p.mi<|.rl p.me<|.rl p.dm<|.rl p.lk<|.rl p.dr<|.rl p.tg t
abbrev _root_.Go.Sx.T.pd {α:Type}(p:PK) (t:T α):T α:=.rl p.cs<|.rl p.st<|.rl p.ca<|.rl p.mi<|.rl p.me<|.rl p.dr<|.rl p.tg t
abbrev _root_.Go.Sx.T.pb {α:Type}(p:PK) (t:T α):T α:=.rl p.st<|.rl p.ca<|.rl p.mi<|.rl p.me<|.rl p.dm<|.rl p.lk<|.rl p.dr<|.rl p.tg t
abbrev _root_.Go.Sx.T.pa {α:Type}(p:PK) (t:T α):T α:=.rl p.cs<|.rl p.ls<|.rl p.fl<|.rl p.ra t
instance:Coe (List Lk) LV:=⟨.xl BJ⟩
namespace PK
variable (p : PK)
def sV:Bool:=BA p.cs p.os p.ks p.gs p.bs
end PK
def G9 (c:Cd) (t:Int):Cd:=(c.1,c.2.1,t,c.2.2.2)
def Ds (cs:List Cd) (tg:List Int):Nat->List Cd
 |0=>cs
 |k+1=>(Ds cs tg k).set k<|G9 (Ac (Ds cs tg k) k)<|gi tg k
def Ct (gs:List Ch) (st:List St) (i k n m:Int):List St:=if sE (AG gs i) (Bq st i) k n m=0 then st.set i.toNat (sN (AG gs i) (Bq st i) k n m) else st
def PV (gs:List Ch) (lk:List Lk) (t:Int) (st:List St):Nat->List St
 |0=>st
 |k+1=>if (Gc lk k).1>t then PV gs lk t st k else Ct gs (PV gs lk t st k) (Gc lk k).2.2.1 7 (Gc lk k).2.2.2.1 (Gc lk k).2.2.2.2.2
def Rt (gs:List Ch) (st:List St) (i:Int):Nat->List St
 |0=>st
 |k+1=>Ct gs (Rt gs st i k) i 8 0 0
def S9 (gs:List Ch) (dr:List Int) (t:Int) (st:List St):Nat->List St
 |0=>st
 |k+1=>if Km t (gi dr k)=0/\Km (t+1) (gi dr k)=0 then Rt gs (S9 gs dr t st k) k (HJ (t+1) (gi dr k)-HJ t (gi dr k)).toNat else S9 gs dr t st k
structure DW where
 st:List St
 mi:List Mi
 me:List Me
 dw:List Int
def Ki (gs:List Ch) (ca:List Ca) (s:DW) (i:Int):DW:=
 if (BZ ca i).2.2.1=0 then s
 else if JJ (BZ ca i) (Ck s.mi i) (AG gs i).2.2.1 (Bk (AG gs i)<|Bq s.st i)=0 then
  let a:=FP (BZ ca i) (Ck s.mi i) (AG gs i).2.2.1<|Bk (AG gs i)<|Bq s.st i
  let o:=cnt<|Eh (BZ ca i) (Ck s.mi i) (AG gs i).2.2.1<|Bk (AG gs i)<|Bq s.st i
  ⟨if a>Bk (AG gs i) (Bq s.st i) then Ct gs s.st i 6 2 0 else s.st,s.mi.set i.toNat<|Kv (BZ ca i) (Ck s.mi i) (AG gs i).2.2.1<|Bk (AG gs i)<|Bq s.st i,
   if Gs (gMe s.me i) a o=0 then s.me.set i.toNat (IS (gMe s.me i) a o) else s.me,s.dw.set i.toNat a⟩
 else s
def Hv (gs:List Ch) (ca:List Ca) (s:DW):Nat->DW
 |0=>s
 |k+1=>Ki gs ca (Hv gs ca s k) k
theorem WB {cs:List Cd}{k:Nat}{x:Cd}{j:Nat}(hk:k<M cs):Ac (cs.set k x) (j:Int)=if j=k then x else Ac cs j:=by
 unfold Ac
 by_cases e:j=k
 ·grind
 ·grind
def QK {cs:List Cd}{k:Nat}(hk:k<M cs):Ac cs (k:Int)=cs[k]:=by
 unfold Ac
 simp [hk]
theorem bz {cs:List Cd}{os:List ByteArray}{ks:List Ko}{gs:List Ch}{bs:List Ba}(h:BA cs os ks gs bs=U) {k:Nat}(hk:k<M cs) {t:Int}(ht:1<=t/\t<=1000):
  BA (cs.set k<|G9 (Ac cs k) t) os ks gs bs=true:=by
 have hm:(cs.set k<|G9 (Ac cs k) t).map (·.1)=cs.map (·.1):=by
  rw [List.map_set]
  have:(G9 (Ac cs k) t).1=(cs.map (·.1))[k]' A8:=by
   rw [QK hk];simp [G9]
  rw [this,List.set_getElem_self]
 unfold BA LF Lx at h|-;rw [hm,Bz];simp only [AY] at h|-;obtain ⟨h1,h2,h3,h4,h5⟩:=h;refine ⟨h1,h2,h3,?_,h5⟩;rw [Dq] at h4|-;intro j hj
 have hc:=h4 j hj
 rw [WB hk];split
 ·rename_i e
  subst e;unfold Hp G9 at*;simp only [AY] at hc|-;exact ⟨hc.1,CM.2 ht,hc.2.2⟩
 ·exact hc
def BG (l:List Int):Prop:=∀x∈l,0<=x/\x<=255
def mP (x b:Int):Int:=IntKind.u32.wrap<|aJy ax x (IntKind.u32.wrap b)*16777619
def SB (x:Int) (l:List Int):Int:=l.foldl mP x
def Oz (ps:List<|List Int):Int:=ps.foldl SB 2166136261
def Cv (n:Int):List Int:=[IntKind.u8.wrap<|n.fdiv<|2^24,IntKind.u8.wrap<|n.fdiv<|2^16,IntKind.u8.wrap<|n.fdiv<|2^8,IntKind.u8.wrap n]
def nm4 (a b c d:Int):Int:=DQ ax (DQ ax (DQ ax (IntKind.u32.wrap<|IntKind.u32.wrap a*2^24)<|IntKind.u32.wrap<|IntKind.u32.wrap b*2^16)<|IntKind.u32.wrap<|IntKind.u32.wrap c*2^8)<|IntKind.u32.wrap d
def Gm (l:List Int):Int:=nm4 (gi l 0) (gi l 1) (gi l 2)<|gi l 3
def Js (d:List Int):List Int:=[IntKind.u8.wrap<|(M d:Int).fdiv<|2^8,IntKind.u8.wrap (M d:Int)]
def Bo (d:List Int):List Int:=80::(Js d++(Cv (Oz [Js d,d])++d))
def GU {n:Int}:IntKind.u8.wrap n=n%256:=aMo
def T4 {n:Int}:IntKind.u32.wrap n=n%4294967296:=aMo
def auG (x b:Int):0<=mP x b/\mP x b<4294967296:=by unfold mP;rw [T4];omega
def ati {x:Int}(h:0<=x/\x<4294967296) (l:List Int):0<=SB x l/\SB x l<4294967296:=by
 induction l generalizing x with
 |nil=>exact h
 |cons b l ih=>exact ih<|auG x b
def ath (ps:List<|List Int):0<=Oz ps/\Oz ps<4294967296:=by
 have:∀(ps:List<|List Int) (x:Int),0<=x/\x<4294967296->0<=ps.foldl SB x/\ps.foldl SB x<4294967296:=by
  intro ps
  induction ps with
  |nil=>intro x h;exact h
  |cons p ps ih=>intro x h;exact ih _<|ati h p
 exact this ps _ Ae
def fO {a b k:Nat}(h:b<2^k):a*2^k |||b=a*2^k+b:=by
 rw [Nat.mul_comm,<-Nat.two_pow_add_eq_or_of_lt h]
theorem qP {a b:Nat}(ha:a<4294967296) (hb:b<4294967296):DQ ax (a:Int) (b:Int)=((a |||b:Nat):Int):=by
 have h:=Nat.or_lt_two_pow (n:=32) ha hb
 unfold DQ;rw [T4]
 have e:∀n:Nat,n<4294967296->(BitVec.ofInt (IntKind.bits ax) (n:Int)).toNat=n:=λn hn=>by
  show (BitVec.ofInt 32 (n:Int)).toNat=n
  grind
 rw [BitVec.toNat_or,e a ha,e b hb];omega
def ayw {a b c d:Int}(ha:0<=a/\a<=255) (hb:0<=b/\b<=255) (hc:0<=c/\c<=255) (hd:0<=d/\d<=255):nm4 a b c d=a*16777216+b*65536+c*256+d:=by
 obtain ⟨a,rfl⟩:=Pj ha.1;obtain ⟨b,rfl⟩:=Pj hb.1;obtain ⟨c,rfl⟩:=Pj hc.1;obtain ⟨d,rfl⟩:=Pj hd.1;unfold nm4
 have e1:IntKind.u32.wrap (IntKind.u32.wrap (a:Int)*2^24)=((a*2^24:Nat):Int):=yM
 have e2:IntKind.u32.wrap (IntKind.u32.wrap (b:Int)*2^16)=((b*2^16:Nat):Int):=yM
 have e3:IntKind.u32.wrap (IntKind.u32.wrap (c:Int)*2^8)=((c*2^8:Nat):Int):=yM
 have e4:IntKind.u32.wrap (d:Int)=((d:Nat):Int):=by rw [T4];omega
 rw [e1,e2,e3,e4,qP A0 A0,fO A0,
  qP A0 A0,show a*2^24+b*2^16=(a*2^8+b)*2^16 by omega,fO A0,
  qP A0 A0,show (a*2^8+b)*2^16+c*2^8=(a*2^16+b*2^8+c)*2^8 by omega,fO A0]
 omega
def W2 (n:Int):BG (Cv n):=by
 intro x hx;simp only [Cv,B7,Bu,Bt] at hx;rcases hx with rfl|rfl|rfl|rfl<;>rw [GU]<;>omega
def aGe {n:Int}(h:0<=n/\n<4294967296):Gm (Cv n)=n:=by
 have e:Gm (Cv n)=nm4 (IntKind.u8.wrap<|n.fdiv<|2^24) (IntKind.u8.wrap<|n.fdiv<|2^16) (IntKind.u8.wrap<|n.fdiv<|2^8) (IntKind.u8.wrap n):=rfl
 rw [e,ayw Zx Zx Zx Zx,GU,GU,GU,GU,
  Pe _ Ae,Pe _ Ae,Pe _ Ae]
 omega
def Fv (b:List Int) (f:Nat):Nat:=(gi b<|(f:Int)+1).toNat*256+(gi b<|(f:Int)+2).toNat
def rcF (b:List Int) (f:Nat):Bool:=an (f+7<=M b)&&an (f+7+Fv b f<=M b)
def H7 (b:List Int) (f:Nat):List Int:=(b.drop<|f+7).take<|Fv b f
def rcG (b:List Int) (f:Nat):Bool:=rcF b f&&(Oz [(b.drop<|f+1).take 2,H7 b f]==Gm ((b.drop<|f+3).take 4))
def HA (b:List Int):Nat->Nat->List (List Int)×Nat×Bool
 |0,f=>([],f,U)
 |n+1,f=>if f<M b/\gi b (f:Int)=80 then (if rcG b f then (H7 b f::(HA b n<|f+7+Fv b f).1,(HA b n<|f+7+Fv b f).2) else ([],f,X)) else ([],f,U)
theorem X2 {pre l:List Int}{k:Nat}:gi (pre++l) ((M pre+k:Nat):Int)=l.getD k 0:=by
 unfold gi
 grind
def pN {pre l:List Int}{k:Nat}:(pre++l).drop (M pre+k)=l.drop k:=by
 simp_all
def MG (d:List Int):M (Bo d)=7+M d:=by simp [Bo,Js,Cv];omega
theorem ar2 {pre rest d:List Int}(hd:M d<=65535):let b:=pre++(Bo d++rest);gi b (M pre:Int)=80/\M pre<M b/\Fv b (M pre)=M d/\H7 b (M pre)=d/\rcG b (M pre)=true:=by
 intro b
 have hl:M b=M pre+(7+M d+M rest):=by simp [b,MG]
 have g0:gi b (M pre:Int)=80:=X2 (k:=0)
 have hn:Fv b (M pre)=M d:=by
  have e1:gi b ((M pre:Int)+1)=IntKind.u8.wrap ((M d:Int).fdiv<|2^8):=X2 (k:=1)
  have e2:gi b ((M pre:Int)+2)=IntKind.u8.wrap (M d:Int):=X2 (k:=2)
  unfold Fv;rw [e1,e2,GU,GU,Pe _ Ae];omega
 have d7:b.drop (M pre+7)=d++rest:=by
  rw [pN]
  simp [Bo,Js,Cv]
 have hD:H7 b (M pre)=d:=by
  unfold H7
  grind
 have d1:(b.drop<|M pre+1).take 2=Js d:=by
  rw [pN]
  simp [Bo,Js]
 have d3:(b.drop<|M pre+3).take 4=Cv (Oz [Js d,d]):=by
  rw [pN]
  simp [Bo,Js,Cv]
 refine ⟨g0,A0,hn,hD,?_⟩;unfold rcG rcF;rw [hn,hD,d1,d3,aGe<|ath _]
 simp;omega
def BN (ds:List<|List Int):List Int:=ds.flatMap Bo
theorem aEJ {rest:List Int}(hr:gi rest 0≠80):∀(ds:List<|List Int) (pre:List Int) (n:Nat),(∀d∈ds,M d<=65535)->M ds<n->
  HA (pre++(BN ds++rest)) n (M pre)=(ds,M pre+M (BN ds),U)
 | [],pre,n,_,hn=>by
  obtain ⟨n,rfl⟩:∃m,n=m+1:=⟨n-1,A0⟩;simp only [BN,List.flatMap_nil,EF,HA];rw [AE]
  ·simp
  ·rintro ⟨_,h⟩
   rw [show ((M pre:Nat):Int)=((M pre+0:Nat):Int) by simp,X2] at h
   exact hr h
 |d::ds,pre,n,hd,hn=>by
  obtain ⟨n,rfl⟩:∃m,n=m+1:=⟨n-1,A0⟩
  have e:pre++(BN (d::ds)++rest)=pre++(Bo d++(BN ds++rest)):=by simp [BN]
  rw [e];obtain ⟨h1,h2,h3,h4,h5⟩:=ar2 (pre:=pre) (rest:=BN ds++rest)<|hd d AI;simp only [HA];rw [AD ⟨h2,h1⟩,AD h5,h3,h4]
  have e2:pre++(Bo d++(BN ds++rest))=(pre++Bo d)++(BN ds++rest):=AI
  have e3:M pre+7+M d=M (pre++Bo d):=by simp [MG];omega
  rw [e2,e3,aEJ hr ds (pre++Bo d) n (λx hx=>hd x A8) A8]
  simp [BN,MG];omega
abbrev Bh:Ty:=.pair A7<|.sl<|.int aw
abbrev Fl:=Int×List Int
def G8 (l:List Fl) (n:Int):Fl:=l.getD n.toNat (0,[])
def HM (se:Int) (l:List Int):Bool:=letI a:=(M l:Int);decide (se>=1)&&(an (se<=512)&&(an (a>=se)&&(an (a<=4096)&&(a.tmod se==0))))
def NN {se:Int}{l:List Int}:HM se l=U↔1<=se/\se<=512/\se<=(M l:Int)/\M l<=4096/\(M l:Int).tmod se=0:=by
 simp [HM];omega
def FQ (se:Int) (l:List Int):Bool:=HM se l&&(((M l:Int).tdiv se).tmod 2==0&&an ((M l:Int)>=32))
def ML {se:Int}{l:List Int}:FQ se l=U↔HM se l=U/\((M l:Int).tdiv se).tmod 2=0/\32<=M l/\M l<=4096/\1<=se:=by
 unfold FQ;simp only [AY,DJ,Aa];refine ⟨λ⟨h1,h2,h3⟩=>⟨h1,h2,A0,(NN.1 h1).2.2.2.1,(NN.1 h1).1⟩,λ⟨h1,h2,h3,_,_⟩=>⟨h1,h2,A0⟩⟩
def Bi (l:List Int) (w:Int):List Int:=if w=0 then l.take (M l / 2) else (l.drop<|M l / 2).take (M l / 2)
theorem cF (l:List Int) (w:Int):M (Bi l w)=M l / 2:=by
 unfold Bi
 grind
def J7 (l:List Int) (w:Int):Int:=Gm<|((Bi l w).drop 1).take 4
def Aq (l:List Int):Int:=if gi (Bi l 0) 0=80 then (if gi (Bi l 1) 0=80 then (if J7 l 1>J7 l 0 then 1 else 0) else 0) else if gi (Bi l 1) 0=80 then 1 else 0
def Hl (l:List Int):Int:=if gi (Bi l 0) 0=80\/gi (Bi l 1) 0=80 then 0 else 4
def Dh (fl:List Int) (a:Int) (d:List Int):Nat->List Int
 |0=>fl
 |k+1=>(Dh fl a d k).set (a+k).toNat<|Bf aw (gi (Dh fl a d k)<|a+k)<|gi d k
def Dl (se:Int) (fl:List Int) (a:Int) (d:List Int):List Fl:=(au<|M d+1).map λk=>(se,Dh fl a d k)
def Ez (se:Int) (fl:List Int) (a:Int) (d:List Int):Int:=if (!HM se fl ||an (a<0))=U then 1 else if a>(M fl:Int)-M d then 3 else 0
def Ej (fl:List Int) (a:Int):Nat->List Int
 |0=>fl
 |k+1=>(Ej fl a k).set (a+k).toNat 255
def Ku (se:Int) (fl:List Int) (s:Int):List Fl:=(au<|se.toNat+1).map λk=>(se,Ej fl (s*se) k)
def Hu (se:Int) (fl:List Int) (s:Int):Int:=if (!HM se fl ||(an (s<0) ||an (s>=(M fl:Int).tdiv se)))=U then 1 else 0
def Ss (fl:List Int) (a:Int) (d:List Int) (k:Nat):M (Dh fl a d k)=M fl:=by
 induction k with
 |zero=>rfl
 |succ k ih=>simp [Dh,ih]
def cH (fl:List Int) (a:Int) (k:Nat):M (Ej fl a k)=M fl:=by
 induction k with
 |zero=>rfl
 |succ k ih=>simp [Ej,ih]
theorem KD {a b:List Int}:BG (a++b)↔BG a/\BG b:=by
 unfold BG
 grind
def Q2 {x:Int}{l:List Int}:BG (x::l)↔(0<=x/\x<=255)/\BG l:=by
 unfold BG
 simp
def dO (k:Nat):BG (aq k 255):=by
 intro x hx;rw [SQ] at hx;omega
theorem aH9 {l:List Int}(h:BG l) (i:Nat) {x:Int}(hx:0<=x/\x<=255):BG (l.set i x):=by
 intro y hy;rcases SJ hy with h1|h1
 ·exact h y h1
 ·grind
def atd (x y:Int):0<=Bf aw x y/\Bf aw x y<=255:=by
 unfold Bf;rw [GU];omega
def rD {fl:List Int}(h:BG fl) (a:Int) (d:List Int) (k:Nat):BG (Dh fl a d k):=by
 induction k with
 |zero=>exact h
 |succ k ih=>exact aH9 ih _<|atd _ _
def aRY {fl:List Int}(h:BG fl) (a:Int) (k:Nat):BG (Ej fl a k):=by
 induction k with
 |zero=>exact h
 |succ k ih=>exact aH9 ih _ Ae
def aoP {x:Int}(h:0<=x/\x<=255):Bf aw 255 x=x:=by
 unfold Bf;rw [GU];obtain ⟨n,rfl⟩:=Pj h.1
 have e:(BitVec.ofInt (IntKind.bits aw) 255&&&BitVec.ofInt (IntKind.bits aw) (n:Int)).toNat=n:=by
  show (BitVec.ofInt 8 255&&&BitVec.ofInt 8 (n:Int)).toNat=n
  rw [show BitVec.ofInt 8 255=BitVec.allOnes 8 from rfl,BitVec.allOnes_and,BitVec.toNat_ofInt];omega
 omega
theorem aOe {pre post d:List Int}(hd:BG d):∀k,k<=M d->Dh (pre++(aq (M d) 255++post)) (M pre:Int) d k=pre++(d.take k++(aq (M d-k) 255++post))
 |0,_=>by simp [Dh]
 | k+1,hk=>by
  simp only [Dh];rw [aOe hd k A0];obtain ⟨j,hj⟩:∃j,M d-k=j+1:=⟨M d-k-1,A0⟩
  have e1:(M pre:Int)+(k:Int)=((M pre+k:Nat):Int):=A0
  have ht:M (d.take k)=k:=D4
  have e2:gi (pre++(d.take k++(aq (M d-k) 255++post))) ((M pre:Int)+k)=255:=by
   rw [e1,X2,DV,GG A0,ht,ko,hj,ZN];rfl
  have e3:gi d (k:Int)=d[k]:=IF A0
  rw [e2,e3,aoP<|hd _<|HS _,e1,Bx,kQ _ _ A0,wg,kQ _ _ A0,ht,ko,hj,ZN];rw [show M d-(k+1)=j by omega,ZC<|Nat.lt_of_succ_le hk]
  grind
def df {pre post d:List Int}(hd:BG d):Dh (pre++(aq (M d) 255++post)) (M pre:Int) d (M d)=pre++(d++post):=by
 rw [aOe hd _<|Ax _];simp
def DS (g:Int) (ds:List<|List Int) (k:Nat):List Int:=(80::Cv g)++(BN ds++aq k 255)
def J1 (w:Int) (A O:List Int):List Int:=if w=0 then A++O else O++A
def aET (a b:List<|List Int):BN (a++b)=BN a++BN b:=by simp [BN]
def ou (ds:List<|List Int):M (BN ds)=(ds.map λd=>7+M d).sum:=by
 induction ds with
 |nil=>rfl
 |cons d ds ih=>simp only [BN,kG,BD,EG,List.sum_cons,MG] at*;rw [ih]
def aqW (ds:List<|List Int):7*M ds<=M (BN ds):=by
 induction ds with
 |nil=>simp [BN]
 |cons d ds ih=>simp only [BN,kG,BD,Bc,MG] at*;omega
def avS (d:List Int):BG (Js d):=by
 intro x hx;simp only [Js,B7,Bu,Bt] at hx;rcases hx with rfl|rfl<;>rw [GU]<;>omega
def aGZ {d:List Int}(h:BG d):BG (Bo d):=by
 unfold Bo;rw [Q2,KD,KD];exact ⟨Ae,avS d,W2 _,h⟩
theorem qN {ds:List<|List Int}(h:∀d∈ds,BG d):BG (BN ds):=by
 induction ds with
 |nil=>intro x hx;simp [BN] at hx
 |cons d ds ih=>
  have e:BN (d::ds)=Bo d++BN ds:=rfl
  rw [e,KD];exact ⟨aGZ<|h d AI,ih λx hx=>h x A8⟩
def agp (k:Nat) (rest:List Int) (h:gi rest 0≠80):gi (aq k 255++rest) 0≠80:=by
 cases k with
 |zero=>simpa using h
 |succ k=>simp [gi,ZN]
structure JI (fl:List Int) (w g:Int) (ds:List (List Int)) (k:Nat) (O:List Int):Prop where
 eq:fl=J1 w (DS g ds k) O
 la:M (DS g ds k)=1024
 lo:M O=1024
 bo:BG O
 hw:w=0\/w=1
 hg:0<=g/\g<4294967296
 old:gi O 0=80->Gm ((O.drop 1).take 4)<g
 bd:∀d∈ds,BG d/\M d<=65535
def Oe (g:Int) (ds:List<|List Int) (k:Nat):M (DS g ds k)=5+M (BN ds)+k:=by
 simp [DS,Cv];omega
def aHp {g:Int}(hg:0<=g/\g<4294967296) (ds:List<|List Int) (k:Nat):Gm (((DS g ds k).drop 1).take 4)=g:=by
 have:((DS g ds k).drop 1).take 4=Cv g:=by simp [DS,Cv]
 rw [this,aGe hg]
theorem aDu {w:Int}{A O:List Int}(hA:M A=1024) (hO:M O=1024) (hw:w=0\/w=1):Bi (J1 w A O) w=A/\Bi (J1 w A O) (1-w)=O:=by
 have hl:∀a b:List Int,M a=1024->M b=1024->Bi (a++b) 0=a/\Bi (a++b) 1=b:=by
  intro a b ha hb
  have e:M (a++b) / 2=1024:=A8
  unfold Bi
  grind
 rcases hw with rfl|rfl
 ·exact hl A O hA hO
 ·have:=hl O A hO hA
  exact ⟨this.2,this.1⟩
namespace JI
variable {fl : List Int} {w g : Int} {ds : List (List Int)} {k : Nat} {O : List Int}
def len (h:JI fl w g ds k O):M fl=2048:=by
 rw [h.eq];unfold J1;split<;>simp [h.la,h.lo]
def bja (h:JI fl w g ds k O):BG (DS g ds k):=by
 unfold DS;rw [KD,KD,Q2];exact ⟨⟨Ae,W2 _⟩,qN λd hd=>(h.bd d hd).1,dO _⟩
def F6 (h:JI fl w g ds k O):BG fl:=by
 rw [h.eq];unfold J1;split
 ·rw [KD];exact ⟨h.bja,h.bo⟩
 ·rw [KD];exact ⟨h.bo,h.bja⟩
def jv (h:JI fl w g ds k O):FQ 512 fl=true:=by
 rw [ML,NN,h.len]
 decide
def ar (h:JI fl w g ds k O):Bi fl w=DS g ds k:=by rw [h.eq];exact (aDu h.la h.lo h.hw).1
def ao (h:JI fl w g ds k O):Bi fl (1-w)=O:=by rw [h.eq];exact (aDu h.la h.lo h.hw).2
def gen (h:JI fl w g ds k O):J7 fl w=g:=by unfold J7;rw [h.ar,aHp h.hg]
theorem cur (h:JI fl w g ds k O):Aq fl=w/\Hl fl=0:=by
 have ha:=h.ar;have ho:=h.ao;have hgn:=h.gen
 have g80:gi (DS g ds k) 0=80:=rfl
 have hold:gi (Bi fl<|1-w) 0=80->J7 fl (1-w)<g:=by rw [ho];unfold J7;rw [ho];exact h.old
 unfold Aq Hl;rcases h.hw with rfl|rfl
 ·have e:(1:Int)-0=1:=rfl
  rw [e] at hold;rw [ha,hgn];refine ⟨?_,A8⟩;rw [AD g80];split
  ·omega
  ·rfl
 ·have e:(1:Int)-1=0:=rfl
  rw [e] at hold;rw [ha,hgn];refine ⟨?_,A8⟩;split
  ·omega
  ·rfl
end JI
def Ek (fl:List Int):List (List Int)×Nat×Bool:=HA (Bi fl<|Aq fl) (M<|Bi fl<|Aq fl) 5
def Bm (se:Int) (fl:List Int):Int:=if FQ se fl=X then 1 else if Hl fl≠0 then Hl fl else if (Ek fl).2.2=U then 0 else 11
def Ly (fl:List Int):Bool:=((Bi fl<|Aq fl).drop (Ek fl).2.1).all λb=>b==255
def M0 (se:Int) (fl d:List Int):Bool:=an (M d>65535) ||an (7+M d+(Ek fl).2.1>M fl / 2)
def GD (fl:List Int):Int:=Aq fl*((M fl / 2:Nat):Int)+(Ek fl).2.1
def apB (fl d:List Int):List Int:=Dh fl (GD fl+1) ((Bo d).drop 1)<|M<|(Bo d).drop 1
def HO (se:Int) (fl d:List Int):List Fl:=Dl se fl (GD fl+1) ((Bo d).drop 1)++(Dl se (apB fl d) (GD fl) [80]).drop 1
def Ay (x:Le):List Int:=Cv x.1++(IntKind.u8.wrap x.2.1::IntKind.u8.wrap x.2.2.1::(Cv x.2.2.2.1++[IntKind.u8.wrap<|x.2.2.2.2.fdiv<|2^8,IntKind.u8.wrap x.2.2.2.2]))
def b4 (d:List Int) (i:Int):Int:=gi d i*16777216+gi d (i+1)*65536+gi d (i+2)*256+gi d (i+3)
def G7 (d:List Int):Le:=(b4 d 0,gi d 4,gi d 5,b4 d 6,gi d 10*256+gi d 11)
def K9 (x:Le):M (Ay x)=12:=rfl
def gN (n:Int):0<=IntKind.u8.wrap n/\IntKind.u8.wrap n<=255:=Zx
def rH (x:Le):BG (Ay x):=by
 unfold Ay;rw [KD,Q2,Q2,KD,Q2,Q2];exact ⟨W2 _,gN _,gN _,W2 _,gN _,gN _,λx hx=>Pu⟩
def aI2 {n:Int}(h:0<=n/\n<4294967296):IntKind.u8.wrap (n.fdiv<|2^24)*16777216+IntKind.u8.wrap (n.fdiv<|2^16)*65536+IntKind.u8.wrap (n.fdiv<|2^8)*256+IntKind.u8.wrap n=n:=by
 rw [GU,GU,GU,GU,Pe _ Ae,Pe _ Ae,Pe _ Ae];omega
theorem ap1 {x:Le}(h:DA x=U):G7 (Ay x)=x:=by
 obtain ⟨nu,co,am,fr,tk⟩:=x;obtain ⟨h1,h2,h3,h4,h5⟩:=MR.1 h;simp only at h1 h2 h3 h4 h5
 have e1:b4 (Ay (nu,co,am,fr,tk)) 0=nu:=aI2 (n:=nu) A0
 have e2:b4 (Ay (nu,co,am,fr,tk)) 6=fr:=aI2 (n:=fr) A0
 have e3:gi (Ay (nu,co,am,fr,tk)) 4=co:=by show IntKind.u8.wrap co=co;rw [GU];omega
 have e4:gi (Ay (nu,co,am,fr,tk)) 5=am:=by show IntKind.u8.wrap am=am;rw [GU];omega
 have e5:gi (Ay (nu,co,am,fr,tk)) 10*256+gi (Ay (nu,co,am,fr,tk)) 11=tk:=by
  show IntKind.u8.wrap (tk.fdiv<|2^8)*256+IntKind.u8.wrap tk=tk
  rw [GU,GU,Pe _ Ae];omega
 unfold G7
 grind
def ldB (rs:List<|List Int):Bool:=rs.all λd=>M d==12
def CO (se:Int) (fl:List Int):Int:=if (!(se==512) || !((M fl:Int)==2048))=U then 1 else if Bm se fl≠0 then Bm se fl else if ldB (Ek fl).1=U then (if B1 ((Ek fl).1.map G7)=U then 0 else 9) else 9
def BI (se:Int) (fl:List Int):List Le:=if CO se fl=0 then (Ek fl).1.map G7 else []
namespace JI
variable {fl : List Int} {w g : Int} {ds : List (List Int)} {k : Nat} {O : List Int}
def lk (h:JI fl w g ds k O):Ek fl=(ds,5+M (BN ds),U):=by
 unfold Ek;rw [h.cur.1,h.ar,h.la]
 have hp:=aqW ds
 have hl:=h.la
 rw [Oe] at hl
 have:=aEJ (rest:=aq k 255) (by have:=agp k [] Ae;simpa using this) ds (80::Cv g) 1024 (λd hd=>(h.bd d hd).2) A0
 exact this
def Ue (h:JI fl w g ds k O):Bm 512 fl=0:=by
 unfold Bm;rw [h.jv,h.cur.2,h.lk];rfl
def cl (h:JI fl w g ds k O):Ly fl=true:=by
 unfold Ly;rw [h.lk,h.cur.1,h.ar,BH];intro x hx
 have e:(DS g ds k).drop (5+M (BN ds))=aq k 255:=by
  unfold DS;rw [<-Cm];exact List.drop_left' (by simp [Cv];omega)
 simp only [e,SQ] at hx
 simp [hx.2]
def half (h:JI fl w g ds k O):M fl / 2=1024:=by rw [h.len]
def full (h:JI fl w g ds k O) {d:List Int}(hd:M d<=65535) (hk:7+M d<=k):M0 512 fl d=false:=by
 unfold M0;rw [h.half,h.lk]
 have hl:=h.la
 rw [Oe] at hl
 simp;omega
def ag2 (g:Int) (ds:List<|List Int) {k:Nat}(n:Nat) (hk:n<=k):DS g ds k=((80::Cv g)++BN ds)++(aq n 255++aq (k-n) 255):=by
 unfold DS
 simp_all
def split (h:JI fl w g ds k O) (n:Nat) (hk:n<=k):∃pre post,fl=pre++(aq n 255++post)/\(M pre:Int)=GD fl/\
  ∀x:List Int,pre++(x++post)=J1 w (((80::Cv g)++BN ds)++(x++aq (k-n) 255)) O:=by
 have hP:GD fl=w*1024+((5+M (BN ds):Nat):Int):=by unfold GD;rw [h.half,h.cur.1,h.lk];rfl
 have h5:(M ((80::Cv g)++BN ds):Int)=((5+M (BN ds):Nat):Int):=by simp [Cv];omega
 have he:=h.eq
 rw [ag2 g ds n hk] at he;rcases h.hw with rfl|rfl
 ·refine ⟨(80::Cv g)++BN ds,aq (k-n) 255++O,?_,A0,λx=>?_⟩
  ·rw [he];unfold J1;rw [AD rfl];simp only [Cm]
  ·unfold J1;rw [AD rfl];simp only [Cm]
 ·refine ⟨O++((80::Cv g)++BN ds),aq (k-n) 255,?_,by rw [hP,BD];have:=h.lo;omega,λx=>?_⟩
  ·rw [he];unfold J1;rw [AE Ae];simp only [Cm]
  ·unfold J1;rw [AE Ae];simp only [Cm]
theorem app (h:JI fl w g ds k O) {d:List Int}(hb:BG d) (hd:M d<=65535) (hk:7+M d<=k):
  JI (Dh (apB fl d) (GD fl) [80] 1) w g (ds++[d]) (k-(7+M d)) O:=by
 obtain ⟨pre,post,e1,e2,e3⟩:=h.split (7+M d) hk
 have hp:Bo d=80::(Bo d).drop 1:=rfl
 have hl:=MG d
 have hby:BG ((Bo d).drop 1):=by have:=aGZ hb;rw [hp,Q2] at this;exact this.2
 have eA:apB fl d=pre++(aq 1 255++((Bo d).drop 1++post)):=by
  unfold apB
  have:=df (pre:=pre++[255]) (post:=post) (d:=(Bo d).drop 1) hby
  rw [<-e2]
  have e9:(M ((pre++[255]:List Int)):Int)=(M pre:Int)+1:=AI
  rw [e9] at this
  have e0:fl=pre++[255]++(aq (M<|(Bo d).drop 1) 255++post):=by
   grind
  rw [<-e0] at this;rw [this];simp
 have eB:Dh (apB fl d) (GD fl) [80] 1=pre++(Bo d++post):=by
  rw [eA,<-e2]
  have:=df (pre:=pre) (post:=(Bo d).drop 1++post) (d:=[80]) aNt
  grind
 have eJ:DS g (ds++[d]) (k-(7+M d))=((80::Cv g)++BN ds)++(Bo d++aq (k-(7+M d)) 255):=by
  unfold DS;rw [aET,show BN [d]=Bo d by simp [BN]]
  simp only [Cm]
 refine ⟨by rw [eB,e3,eJ],?_,h.lo,h.bo,h.hw,h.hg,h.old,?_⟩
 ·have:=h.la
  rw [Oe] at this;rw [Oe,aET,BD,show BN [d]=Bo d by simp [BN],hl];omega
 ·intro x hx
  rw [Be,I6] at hx;rcases hx with hx|rfl
  ·exact h.bd x hx
  ·exact ⟨hb,hd⟩
end JI
def aFV (se:Int) (fl d:List Int) (y:Fl):(HO se fl d).getLastD y=(se,Dh (apB fl d) (GD fl) [80] 1):=by
 unfold HO Dl;rw [show au (M ([80]:List Int)+1)=[0,1] from rfl]
 simp
def abf {fl:List Int}{w g:Int}{ls:List Le}{k:Nat}{O:List Int}(h:JI fl w g (ls.map Ay) k O) (hv:B1 ls=U):CO 512 fl=0/\BI 512 fl=ls:=by
 have h1:(ls.map Ay).map G7=ls:=by
  rw [Gu]
  have:=(Gv hv).2
  calc ls.map (G7∘Ay)=ls.map id:=JO (λx hx=>ap1<|this x hx)
   _=ls:=V2 _
 have h2:ldB (ls.map Ay)=true:=by
  unfold ldB;rw [BH];intro d hd;obtain ⟨x,_,rfl⟩:=Em.1 hd
  simp [K9]
 have h3:CO 512 fl=0:=by
  unfold CO;rw [h.Ue,h.lk,h.len];simp only [h2,h1,hv];rfl
 refine ⟨h3,?_⟩;unfold BI
 rwa [AD h3,h.lk]
section
variable {cs : List Cd} {os : List ByteArray} {ks : List Ko} {gs : List Ch} {bs : List Ba} {l : List Le} {rs : List Ra} {d : List Dm} {t n : Int}
structure NwL (gs:List Ch) (am:List Int) (t n:Int) (m:List Le):Prop where
 at_:∀k:Int,0<=k->k<(M m:Int)->Al m k=(n+k,(Al m k).2.1,gi am (Al m k).2.1,t,12)/\(0<=(Al m k).2.1/\(Al m k).2.1<(M gs:Int))/\Cp (AG gs (Al m k).2.1)<gi am (Al m k).2.1
 up:∀k:Int,1<=k->k<(M m:Int)->(Al m (k-1)).2.1<(Al m k).2.1
theorem W9 {m:List Le}{x:Le}{k:Int}(h0:0<=k):Al (m++[x]) k=if k<(M m:Int) then Al m k else if k=(M m:Int) then x else (0,0,0,0,0):=by
 unfold Al;rw [DV,DV];split
 ·grind
 ·rw [GG A0]
  split
  ·rw [show k.toNat-M m=0 by omega]
   rfl
  ·rw [SL A8]
   rfl
theorem ur {am:List Int}:∀ {K:Nat},K<=M gs->NwL gs am t n (Gt gs l t n am K)/\∀x∈Gt gs l t n am K,x.2.1<(K:Int)
 |0,_=>⟨⟨λk h0 h1=>aO7,λk h0 h1=>aO7⟩,λx hx=>Pu⟩
 | K +1,h=>by
  obtain ⟨⟨h1,h2⟩,h3⟩:=ur (am:=am) (K:=K) A0;rw [Gt];split
  ·rename_i hn
   have hf:=ayk hn
   refine ⟨⟨λk k0 k1=>?_,λk k0 k1=>?_⟩,λx hx=>?_⟩
   ·simp only [BD,Bc,Bn] at k1
    rw [W9 k0];split
    ·grind
    ·rename_i hk
     have e:k=(M (Gt gs l t n am K):Int):=A0
     rw [AD e,e]
     grind
   ·simp only [BD,Bc,Bn] at k1
    rw [W9 A0,W9 A0,AD (show k-1<(M (Gt gs l t n am K):Int) by omega)]
    split
    ·grind
    ·rename_i hk
     rw [AD (show k=(M (Gt gs l t n am K):Int) by omega)]
     exact h3 _<|LA A0 A0
   ·rw [Be,I6] at hx
    rcases hx with hx|rfl
    ·have:=h3 x hx;omega
    ·simp only;omega
  ·rw [GF]
   exact ⟨⟨h1,h2⟩,λx hx=>by have:=h3 x hx;omega⟩
theorem aEL:B1 l=U↔M l<=64/\∀k:Int,0<=k->k<(M l:Int)->DA (Al l k)=U/\(k=0\/Ji (Al l<|k-1) (Al l k)=U):=by
 unfold B1;rw [AY,Aa,Dq];refine and_congr_right λ_=>⟨λh k k0 k1=>?_,λh j hj=>?_⟩
 ·have:=h k.toNat A0
  rw [CL k0] at this;unfold Gk at this;rw [AY,Cl,Aa] at this;exact this
 ·obtain ⟨h1,h2⟩:=h j A0 hj
  unfold Gk
  grind
theorem aE7 {x:Le}(h:B1 l=U) (hx:DA x=U) (hl:M l<64) (hf:M l=0\/Ji (Al l<|(M l:Int)-1) x=U):B1 (l++[x])=true:=by
 rw [aEL] at h|-;refine ⟨A8,λk k0 k1=>?_⟩
 simp only [BD,Bc,Bn] at k1;rw [W9 k0];split
 ·rename_i hk
  obtain ⟨h1,h2⟩:=h.2 k k0 hk;refine ⟨h1,?_⟩;rcases h2 with h2|h2
  ·grind
  ·by_cases e:k=0
   ·exact .inl e
   ·rw [W9 A0,AD A0]
    grind
 ·rename_i hk
  have e:k=(M l:Int):=A0
  rw [AD e];refine ⟨hx,?_⟩;rcases hf with hf|hf
  ·omega
  ·by_cases e0:k=0
   ·grind
   ·rw [W9 A0,AD A0,e]
    grind
structure Fit (l:List Le) (n t:Int):Prop where
 les:B1 l=U
 last:M l=0\/((Al l ((M l:Int)-1)).1<n/\(Al l ((M l:Int)-1)).2.2.2.1<=t)
def Fit.mono {n' t':Int}(h:Fit l n t) (hn:n<=n') (ht:t<=t'):Fit l n' t':=⟨h.les,by
 rcases h.last with h1|h1
 ·exact .inl h1
 ·exact .inr A0⟩
theorem abh {b:Int}{j:Int}(hj:0<=j):∀(l:List Le) (o:List Int),(∀x∈l,0<=x.2.1/\x.2.1<(M o:Int))->gi o j<=b->(∀x∈l,x.2.1=j->x.2.2.1<=b)->gi (l.foldl JE o) j<=b
 | [],_,_,h,_=>h
 | x::l,o,hc,h,hx=>by
  have hx0:=hc x AI
  refine abh hj l _ (λy hy=>aNp) ?_ λy hy=>hx y A8
  unfold JE;rw [It hx0.1 hx0.2 hj];split
  ·rename_i e
   have:=hx x AI e.symm
   rw [<-e];unfold mx;omega
  ·exact h
theorem abj {j:Int}(hj:0<=j):∀(l:List Le) (o:List Int),(∀x∈l,0<=x.2.1/\x.2.1<(M o:Int))->gi o j<=gi (l.foldl JE o) j/\∀x∈l,x.2.1=j->x.2.2.1<=gi (l.foldl JE o) j
 | [],_,_=>⟨DU _,λx hx=>Pu⟩
 | x::l,o,hc=>by
  rw [Jw]
  have hx0:=hc x AI
  obtain ⟨h1,h2⟩:=abj hj l (JE o x) λy hy=>aNp
  have h3:gi o j<=gi (JE o x) j/\(x.2.1=j->x.2.2.1<=gi (JE o x) j):=by
   unfold JE;rw [It hx0.1 hx0.2 hj];split
   ·rename_i e
    rw [<-e];unfold mx;omega
   ·rename_i e
    omega
  refine ⟨A0,λy hy e=>?_⟩
  rcases B7.1 hy with rfl|hy
  ·have:=h3.2 e
   omega
  ·grind
def aSY (hv:B1 l=U) (hb:below (M gs) l=U):∀x∈l.filter (Gi t),0<=x.2.1/\x.2.1<(M (aq (M gs) (0:Int)):Int):=λx hx=>by
 have hx:=(DK.1 hx).1
 have h1:=MR.1<|(Gv hv).2 x hx
 have h2:=DY<|BH.1 hb x hx
 rw [Cf];omega
def aJK {b j:Int}(hv:B1 l=U) (hb:below (M gs) l=U) (hj:0<=j) (b0:0<=b) (h:∀x∈l,Gi t x=U->x.2.1=j->x.2.2.1<=b):gi (Gg (M gs) l t) j<=b:=
 abh hj _ _ (aSY hv hb) (by rw [LG];exact b0) (λx hx e=>h x (DK.1 hx).1 (DK.1 hx).2 e)
def aJL (hv:B1 l=U) (hb:below (M gs) l=U) {x:Le}(hx:x∈l) (ha:Gi t x=U):x.2.2.1<=gi (Gg (M gs) l t) x.2.1:=by
 have h1:=MR.1<|(Gv hv).2 x hx
 exact (abj h1.2.1.1 _ _<|aSY hv hb).2 x (DK.2 ⟨hx,ha⟩) rfl
end
abbrev an1 (a b:Le):Prop:=a.1<b.1/\a.2.2.2.1<=b.2.2.2.1
def qH {l:List Le}:B1 l=U↔M l<=64/\(∀x∈l,DA x=U)/\l.Pairwise an1:=by
 refine ⟨λh=>⟨(Gv h).1,(Gv h).2,aE8 h⟩,λ⟨h1,h2,h3⟩=>aEL.2 ⟨h1,λk k0 k1=>⟨h2 _<|LA k0 k1,?_⟩⟩⟩
 by_cases e:k=0
 ·exact .inl e
 ·right
  have:=kK.1 h3 (k-1).toNat k.toNat A0 A0 A0
  rw [<-NX,<-NX] at this;unfold Ji;rw [Cq (p:=(Al l k).1>_) this.1,Cq (p:=(Al l k).2.2.2.1>=_) this.2];rfl
theorem oA {l m:List Le}(h:B1 l=U) (hs:m.Sublist l):B1 m=true:=by
 rw [qH] at h|-
 grind
def grS (o:List Le) (x:Le):List Le:=if FL o x=0 then Hg o x else o
theorem uI {o:List Le}{x:Le}(h:B1 o=U):B1 (grS o x)=U/\(grS o x=o\/grS o x=o++[x]):=by
 unfold grS;split
 ·rename_i e
  have e2:Hg o x=o++[x]:=by unfold Hg;rw [AD e]
  rw [e2];refine ⟨?_,.inr rfl⟩;unfold FL at e;split at e
  ·rename_i c
   rw [AY] at c;split at e
   ·omega
   ·rename_i c2
    split at e
    ·omega
    ·rename_i c3
     have:=(Gv h).1
     refine aE7 h c.2 A0 ?_
     by_cases q:M o=0
     ·exact .inl q
     ·right
      grind
  ·omega
 ·grind
def ckO (m:Int) (e:Ld):Bool:=an (e.1<=m)&&(an (e.2.1<=m)&&an (e.2.2<=m))
def ckN (cs:List Cd) (L:List Ld) (k:Nat):Bool:=Di k λo=>ckO (D6<|Ac cs o)<|Dn L o.toNat
def gLi (l:List Ld) (i:Int):Ld:=gx (e:=.pair A7 Am) l i
def Lw (m:Int) (e:Ld) (t:Int):Bool:=(an (t>0) ||an (e.1<=m))&&((an (t>1) ||an (e.2.1<=m))&&(an (t>2) ||an (e.2.2<=m)))
def alF {m:Int}{e:Ld}:Lw m e 0=ckO m e:=by simp [Lw,ckO]
def E0 (cs:List Cd) (gs:List Ch) (m:List Int):Bool:=ckN cs (JD cs gs m<|M gs)<|M cs
section
variable {cs : List Cd} {os : List ByteArray} {ks : List Ko} {gs : List Ch} {bs : List Ba} {l : List Le} {rs : List Ra} {d : List Dm} {t n : Int}
theorem dp {m:List Int}(hs:BA cs os ks gs bs=U) (hm:∀k:Nat,k<M gs->0<=gi m k/\gi m k<=80):E0 cs gs m=U↔∀o:Nat,o<M cs->∀p:Int,(p=0\/p=1\/p=2)->EC m (Bs gs p<|Co cs gs o<|M gs)<=D6 (Ac cs o):=by
 have gl:=(D5.1 hs).1.2.2.2.2.1
 have hat:=(aRM (nr hs) (nt hs) A0 hm (M gs)<|Ax _).2
 unfold E0 ckN;rw [Dq]
 constructor
 ·intro h o ho p hp
  have h1:=h o A0
  rw [Bx,hat o ho] at h1;unfold ckO ldO at h1;simp only [AY,Aa] at h1;rcases hp with rfl|rfl|rfl
  ·exact h1.1
  ·exact h1.2.1
  ·exact h1.2.2
 ·intro h o ho
  rw [Bx,hat o A0];unfold ckO ldO
  grind
def sC {a b:List Int}:∀ {L:List Int},(∀k∈L,gi a k<=gi b k)->EC a L<=EC b L
 | [],_=>DU _
 |k::L,h=>by
  have h1:=h k AI
  have h2:=sC (a:=a) (b:=b) (L:=L) λj hj=>h j<|N4 _ hj
  simp only [EC];omega
def aOM {a al am:List Int}:∀ {L:List Int},(∀k∈L,gi a k<=mx (gi al k) (gi am k))->EC a L<=Hx al am L
 | [],_=>by simp [EC,Hx]
 |k::L,h=>by
  have h1:=h k AI
  have h2:=aOM (a:=a) (al:=al) (am:=am) (L:=L) λj hj=>h j<|N4 _ hj
  rw [Sz];simp only [EC];omega
theorem aEO {c:Nat}{p:Int}(hp:p=0\/p=1\/p=2) (hl:M (Bs gs p<|Co cs gs c<|M gs)>0):∀ {k:Nat},c<k->(D6<|Ac cs c,Bs gs p<|Co cs gs c<|M gs)∈Cs cs gs k
 |0,h=>A0
 | k+1,h=>by
  rw [Cs,Be]
  by_cases e:c=k
  ·right
   unfold aK
   have:(D6<|Ac cs c,Bs gs p<|Co cs gs c<|M gs)∈rowP cs gs c p:=by
    unfold rowP;rw [AD hl]
    simp
   rcases hp with rfl|rfl|rfl
   ·grind
   ·grind
   ·grind
  ·exact .inl<|aEO hp hl A0
def WG {j:Int}(j0:0<=j) (j1:j<(M gs:Int)):gi (DG gs l t) j=mx (Cp<|AG gs j) (gi (Gg (M gs) l t) j):=OW j0 j1
theorem Oa {l2:List Le}{t2:Int}(hs:BA cs os ks gs bs=U) (hv:B1 l2=U) {j:Int}(j0:0<=j) (j1:j<(M gs:Int)):0<=gi (DG gs l2 t2) j/\gi (DG gs l2 t2) j<=80:=by
 have hch:chW (AG gs j)=true:=by
  have:=Q6 hs j0 j1
  unfold Gl at this
  grind
 have hc:=dz hch
 have h:=XP (a:=0) (b:=80) (j:=j) Ae<|dS (t:=t2) (m:=M gs) hv
 rw [WG j0 j1];unfold mx;omega
end
def isW (se:Int) (fl:List Int) (s:Int):Bool:=!(((fl.drop (s*se).toNat).take se.toNat).all λb=>b==255)
def Fm (se:Int) (f0:List Int) (s:Int):Nat->List Fl×List Int->List Fl×List Int
 |0,a=>a
 |n+1,a=>Fm se f0 (s+1) n (if isW se f0 s=U then (a.1++(Ku se a.2 s).drop 1,Ej a.2 (s*se) se.toNat) else a)
def rwF (fl:List Int) (ds:List<|List Int):Bool:=an (5+(ds.map λd=>7+M d).sum<=M fl / 2)&&ds.all (λd=>an<|M d<=65535)
def Fu (se:Int) (fl:List Int) (ds:List<|List Int):Int:=if Bm se fl≠0 then Bm se fl else if (!rwF fl ds ||(J7 fl (Aq fl)==4294967295))=U then 10 else 0
def HK (se:Int) (fl:List Int):List Fl×List Int:=letI a:=((M fl / 2:Nat):Int);Fm se fl ((1-Aq fl)*a.tdiv se) (a.tdiv se).toNat ([(se,fl)],fl)
def Gq (fl:List Int):Int:=(1-Aq fl)*((M fl / 2:Nat):Int)
def ET (fl:List Int) (ds:List<|List Int):List Int:=Cv (J7 fl (Aq fl)+1)++BN ds
def Kp (se:Int) (fl:List Int) (ds:List<|List Int):List Int:=Dh (HK se fl).2 (Gq fl+1) (ET fl ds)<|M<|ET fl ds
def Ft (se:Int) (fl:List Int) (ds:List<|List Int):List Fl:=if Fu se fl ds=0 then (HK se fl).1++((Dl se (HK se fl).2 (Gq fl+1)<|ET fl ds).drop 1++(Dl se (Kp se fl ds) (Gq fl) [80]).drop 1) else []
def Ey (se:Int) (fl d:List Int):Int:=if Bm se fl≠0 then Bm se fl else if M0 se fl d=U then 10 else if Ly fl=U then 0 else Fu se fl ((Ek fl).1++[d])
def HN (se:Int) (fl d:List Int):List Fl:=if Bm se fl≠0 then [] else if M0 se fl d=U then [] else if Ly fl=U then HO se fl d else Ft se fl ((Ek fl).1++[d])
def I0 (l:List Le) (x:Le) (t:Int):List (List Int):=letI a:=(Al l<|(M l:Int)-1);((BX l t).map Ay)++((if M l>0/\(M (BX l t)=0\/(Al (BX l t)<|(M (BX l t):Int)-1).1≠a.1) then [Ay a] else [])++[Ay x])
def H9 (l:List Le) (x:Le):Bool:=letI a:=(Al l<|(M l:Int)-1);decide (M l>0)&&(an (x.1<=a.1) ||an (x.2.2.2.1<a.2.2.2.1))
def EN (se:Int) (fl:List Int) (x:Le) (t:Int):Int:=
 if CO se fl≠0 then CO se fl else if (!DA x || !inB t 0 1100000)=U then 1 else if H9 (BI se fl) x=U then 12 else
 if Ey se fl (Ay x)≠10 then Ey se fl (Ay x) else Fu se fl (I0 (BI se fl) x t)
def Ci (se:Int) (fl:List Int) (x:Le) (t:Int):List Fl:=
 if CO se fl≠0 then [] else if (!DA x || !inB t 0 1100000)=U then [] else if H9 (BI se fl) x=U then [] else
 if Ey se fl (Ay x)≠10 then HN se fl (Ay x) else Ft se fl (I0 (BI se fl) x t)
def Hz (se:Int) (fl:List Int):Int:=if CO se fl≠0 then CO se fl else if M (BI se fl)=0 then 0 else if (Al (BI se fl)<|(M (BI se fl):Int)-1).1=1000000 then 10 else 0
def JG (se:Int) (fl:List Int):Int:=letI a:=(Al (BI se fl)<|(M (BI se fl):Int)-1);if CO se fl≠0 then 0 else if M (BI se fl)=0 then 1 else if a.1=1000000 then 0 else a.1+1
structure SN where
 ls:List Le
 se:Int
 fl:List Int
 nx:Int
 lk:List Lk
def gU (t:Int) (x:Le):Lk:=(t+(7*t+3*x.2.1).tmod 5,x)
def Ff (t:Int) (s:SN) (x:Le):SN:=
 if FL s.ls x=0/\EN s.se s.fl x t=0 then
  ⟨Hg s.ls x,(G8 (Ci s.se s.fl x t)<|(M (Ci s.se s.fl x t):Int)-1).1,(G8 (Ci s.se s.fl x t)<|(M (Ci s.se s.fl x t):Int)-1).2,x.1+1,s.lk++[gU t x]⟩
 else s
def FK (t:Int) (xs:List Le) (s:SN):Nat->SN
 |0=>s
 |k+1=>Ff t (FK t xs s k)<|Al xs k
def EE (l:List Le) (t:Int):List Le:=if D9 l t=0 then BX l t else l
namespace PK
variable (p : PK)
def ES:List Cd:=Ds p.cs p.tg<|M p.tg
def dE:Int:=deE p.ES p.os p.ks p.gs p.bs (EE p.ls p.tk) p.ra p.dm p.tk p.nx
def dR:List Ra:=deR p.ES p.os p.ks p.gs p.bs (EE p.ls p.tk) p.ra p.dm p.tk p.nx
def dL:List Le:=deL p.ES p.os p.ks p.gs p.bs (EE p.ls p.tk) p.ra p.dm p.tk p.nx
def Hw:SN:=⟨EE p.ls p.tk,p.se,p.fl,p.nx,p.lk⟩
def sn1:SN:=FK p.tk p.dL p.Hw<|M p.dL
def AV:PK:=if p.up=X then p else if p.dE≠0 then {p with ls:=EE p.ls p.tk} else {p with ra:=p.dR,ls:=p.sn1.ls,se:=p.sn1.se,fl:=p.sn1.fl,nx:=p.sn1.nx,lk:=p.sn1.lk}
def Mx:PK:={p with st:=PV p.gs p.lk p.tk p.st<|M p.lk,lk:=p.lk.filter λl=>an<|l.1>p.tk}
def aS:PK:={p with st:=S9 p.gs p.dr p.tk p.st<|M p.dr}
def dw:DW:=Hv p.gs p.ca ⟨p.st,p.mi,p.me,aq (M p.gs) 0⟩<|M p.gs
def CN:PK:={p with st:=p.dw.st,mi:=p.dw.mi,me:=p.dw.me}
end PK
def D8 (gs:List Ch) (tg:List Int) (am:List Int) (cs:List Cd):Nat->List Cd
 |0=>cs
 |k+1=>if gi tg k>=(Ac (D8 gs tg am cs k) k).2.2.1 then D8 gs tg am cs k else
  if (an (M am=M gs)&&E0 ((D8 gs tg am cs k).set k<|G9 (Ac (D8 gs tg am cs k) k)<|gi tg k) gs am)=U then (D8 gs tg am cs k).set k (G9 (Ac (D8 gs tg am cs k) k)<|gi tg k) else D8 gs tg am cs k
namespace PK
variable (p : PK)
def rsA:List Int:=if Jl p.ls (M p.gs) (p.tk+1)=0 then DG p.gs p.ls (p.tk+1) else []
def Jj:PK:={p with cs:=if p.up=X then p.cs else D8 p.gs p.tg p.rsA p.cs (M p.tg)}
def endP:PK:={p with tk:=p.tk+1}
def BS:PK:=p.AV.Mx.aS
def CZ:PK:=p.BS.CN.Jj.endP
def KL:List Int:=p.BS.dw.dw
def Iz:Int:=if p.tk=1000000 then 15 else 0
end PK
namespace PK
variable (p : PK) (n m : Int) (c : Ca) (d : Dm)
def isC:Bool:=inB n 0<|(M p.gs:Int)-1
def H0:Int:=if p.isC n=X then 1 else if (!GC c || !HL d)=U then 1 else if ((BZ p.ca n).2.2.1 !=0 ||(Bq p.st n).1 !=0)=U then 6 else 0
def zK:List St:=Ct p.gs (Ct p.gs (Ct p.gs (Ct p.gs p.st n 1 0 0) n 3 0 0) n 4 1 0) n 5 0 0
def O1:PK:={p with ca:=p.ca.set n.toNat c,mi:=p.mi.set n.toNat ([],0,0),dm:=p.dm.set n.toNat d,st:=p.zK n}
def KI:Int:=if p.isC n=X then 1 else if (BZ p.ca n).2.2.1=0 then 4 else 0
def QY:PK:={p with ca:=p.ca.set n.toNat (0,0,0,0,0),mi:=p.mi.set n.toNat ([],0,0),dm:=p.dm.set n.toNat (X,0,0,9),st:=Ct p.gs (Ct p.gs p.st n 6 0 0) n 2 0 0}
def O2:Int:=if p.isC n=X then 1 else 0
def gT:PK:={p with lk:=p.lk.filter λl=>l.2.2.1 !=n}
def Mm:Int:=if p.up=X then 6 else 0
def P8:PK:={p with up:=X,ls:=[]}
def Er:Int:=if p.up=U then 6 else if CO p.se p.fl≠0 then CO p.se p.fl else if D9 (BI p.se p.fl) p.tk≠0 then D9 (BI p.se p.fl) p.tk else Hz p.se p.fl
def Qu:PK:={p with up:=U,ls:=BX (BI p.se p.fl) p.tk,nx:=JG p.se p.fl,ra:=aq (M p.gs) (0,0)}
def P1:Int:=if p.isC n=X then 1 else sE (AG p.gs n) (Bq p.st n) 6 1 0
def aTy:PK:={p with st:=Ct p.gs p.st n 6 1 0}
def Lc:PK:={p with tg:=p.tg.set n.toNat m}
def Hk:Int:=if (!inB n 0 ((M p.cs:Int)-1) || !inB m 1 (Ac p.cs n).2.2.1)=U then 1 else if E0 (p.Lc n m).ES p.gs (Bp p.gs)=X then 13 else 0
end PK
def EA (p:PK):Bool:=(BA p.cs p.os p.ks p.gs p.bs&&inB p.tk 0 1000000)&&((an (M p.st=M p.gs)&&(an (M p.ca=M p.gs)&&(an (M p.mi=M p.gs)&&(an (M p.me=M p.gs)&&(an (M p.dm=M p.gs)&&an (M p.dr=M p.gs))))))&&
 (an (M p.tg=M p.cs)&&(Di (M p.tg) (λk=>inB (gi p.tg k) 1 (Ac p.cs k).2.2.1)&&(p.dr.all (λx=>inB x (-200) 200)&&p.lk.all (λl=>inB l.2.2.1 0<|(M p.gs:Int)-1)))))
structure EV where
 (ek en em:Int)
 c:Ca
 d:Dm
def PK0:PK:=⟨[],[],[],[],[],0,X,[],0,[],[],0,[],[],[],[],[],[],[],[]⟩
def BP (p:PK) (e:EV):Int:=if EA p=X then 1 else if e.ek=1 then p.Iz else if e.ek=2 then p.H0 e.en e.c e.d else if e.ek=3 then p.KI e.en else if e.ek=4 then p.O2 e.en else if e.ek=5 then p.Mm else if e.ek=6 then p.Er else if e.ek=7 then p.P1 e.en else if e.ek=8 then p.Hk e.en e.em else 9
def BL (p:PK) (e:EV):PK:=if BP p e≠0 then PK0 else if e.ek=1 then p.CZ else if e.ek=2 then p.O1 e.en e.c e.d else if e.ek=3 then p.QY e.en else if e.ek=4 then p.gT e.en else if e.ek=5 then p.P8 else if e.ek=6 then p.Qu else if e.ek=7 then p.aTy e.en else p.Lc e.en e.em
def Ce (p:PK) (e:EV):List Int:=if BP p e≠0 then [] else if e.ek=1 then p.KL else []
def DF (cs:List Cd) (os:List ByteArray) (ks:List Ko) (gs:List Ch) (bs:List Ba) (dr:List Int):Int:=
 if BA cs os ks gs bs=X\/M dr≠M gs then 1 else if dr.all (λx=>inB x (-200) 200)=X then 1 else if E0 cs gs (Bp gs)=X then 13 else 0
def Ew:List Int:=DS 0 [] 1019++aq 1024 255
def newP (cs:List Cd) (os:List ByteArray) (ks:List Ko) (gs:List Ch) (bs:List Ba) (dr:List Int):PK:=if DF cs os ks gs bs dr≠0 then PK0 else
 ⟨cs,os,ks,gs,bs,0,U,[],512,Ew,aq (M gs) (0,0),1,aq (M gs) (0,0,0,X),aq (M gs) (0,0,0,0,0),aq (M gs) ([],0,0),(Fk<|M gs).map λk=>(k+1,0,X),aq (M gs) (X,0,0,9),[],dr,cs.map λc=>c.2.2.1⟩
structure VP (p:PK):Prop where
 site:BA p.cs p.os p.ks p.gs p.bs=U
 tk:0<=p.tk/\p.tk<=1000000
 st:M p.st=M p.gs
 ca:M p.ca=M p.gs
 mi:M p.mi=M p.gs
 me:M p.me=M p.gs
 dm:M p.dm=M p.gs
 dr:M p.dr=M p.gs
 Eu:M p.tg=M p.cs
 tg:∀k:Nat,k<M p.tg->1<=gi p.tg k/\gi p.tg k<=(Ac p.cs k).2.2.1
 dr8:p.dr.all (λx=>inB x (-200) 200)=U
 lk:∀l∈p.lk,0<=l.2.2.1/\l.2.2.1<(M p.gs:Int)
def Q3 {p:PK}:EA p=U↔VP p:=by
 unfold EA;simp only [AY,Aa,CM,Dq]
 constructor
 ·rintro ⟨⟨h1,h2⟩,⟨h3,h4,h5,h6,h7,h8⟩,h9,h10,h11,h12⟩
  exact ⟨h1,h2,h3,h4,h5,h6,h7,h8,h9,λk hk=>h10 k A0,h11,λl hl=>by have:=BH.1 h12 l hl;rw [CM] at this;omega⟩
 ·intro h
  refine ⟨⟨h.site,h.tk⟩,⟨h.st,h.ca,h.mi,h.me,h.dm,h.dr⟩,h.Eu,λk hk=>h.tg k A0,h.dr8,BH.2 λl hl=>CM.2 ?_⟩
  have:=h.lk l hl
  omega
theorem L9 {gs:List Ch}{st:List St}{i k n m:Int}:M (Ct gs st i k n m)=M st:=by
 unfold Ct
 grind
def pJ {gs:List Ch}{lk:List Lk}{t:Int}{st:List St}:∀k,M (PV gs lk t st k)=M st
 |0=>rfl
 |k+1=>by
  unfold PV;split
  ·exact pJ k
  ·rw [L9];exact pJ k
def aEc {gs:List Ch}{st:List St}{i:Int}:∀k,M (Rt gs st i k)=M st
 |0=>rfl
 |k+1=>by unfold Rt;rw [L9];exact aEc k
def pO {gs:List Ch}{dr:List Int}{t:Int}{st:List St}:∀k,M (S9 gs dr t st k)=M st
 |0=>rfl
 |k+1=>by
  unfold S9;split
  ·rw [aEc];exact pO k
  ·exact pO k
theorem asG {gs:List Ch}{ca:List Ca}{s:DW}{i:Int}:letI a:=Ki gs ca s i;M a.st=M s.st/\M a.mi=M s.mi/\M a.me=M s.me/\M a.dw=M s.dw:=by
 unfold Ki;split
 ·grind
 ·split
  ·refine ⟨?_,AI,?_,AI⟩
   ·simp only;split
    ·exact L9
    ·rfl
   ·grind
  ·grind
theorem qk {gs:List Ch}{ca:List Ca}{s:DW}:∀k,M (Hv gs ca s k).st=M s.st/\M (Hv gs ca s k).mi=M s.mi/\M (Hv gs ca s k).me=M s.me/\M (Hv gs ca s k).dw=M s.dw
 |0=>⟨rfl,rfl,rfl,rfl⟩
 |k+1=>by
  obtain ⟨h1,h2,h3,h4⟩:=qk (gs:=gs) (ca:=ca) (s:=s) k;obtain ⟨g1,g2,g3,g4⟩:=asG (gs:=gs) (ca:=ca) (s:=Hv gs ca s k) (i:=(k:Int));unfold Hv
  grind
theorem fQ {cs:List Cd}{os:List ByteArray}{ks:List Ko}{gs:List Ch}{bs:List Ba}(h:BA cs os ks gs bs=U) {k:Nat}(hk:k<M cs):1<=(Ac cs k).2.2.1/\(Ac cs k).2.2.1<=1000:=by
 have:=pD h (c:=(k:Int)) A0 A0
 unfold Hp at this;simp only [AY,CM] at this
 grind
def T0 {gs:List Ch}{tg am:List Int}{cs:List Cd}:∀n,M (D8 gs tg am cs n)=M cs
 |0=>rfl
 | n+1=>by
  unfold D8;split
  ·exact T0 n
  ·split
   ·rw [Bz];exact T0 n
   ·exact T0 n
theorem cv {gs:List Ch}{tg am:List Int}{cs:List Cd}:∀n,n<=M cs->∀j:Nat,(Ac (D8 gs tg am cs n) j=Ac cs j\/(j<n/\gi tg j<(Ac cs j).2.2.1/\Ac (D8 gs tg am cs n) j=G9 (Ac cs j) (gi tg j)))/\(n<=j->Ac (D8 gs tg am cs n) j=Ac cs j)
 |0,_,j=>⟨.inl rfl,λ_=>rfl⟩
 | n +1,hn,j=>by
  obtain ⟨h1,h2⟩:=cv (gs:=gs) (tg:=tg) (am:=am) (cs:=cs) n A0 j
  have hl:n<M (D8 gs tg am cs n):=by rw [T0];omega
  unfold D8;split
  ·grind
  ·rename_i hlt
   split
   ·rw [WB hl]
    by_cases e:j=n
    ·subst e
     grind
    ·rw [AE e]
     grind
   ·grind
def aCb {gs:List Ch}{tg am:List Int}{cs:List Cd}{os:List ByteArray}{ks:List Ko}{bs:List Ba}(h:BA cs os ks gs bs=U) (ht:∀k:Nat,k<M cs->1<=gi tg k/\gi tg k<=1000):∀n,n<=M cs->BA (D8 gs tg am cs n) os ks gs bs=U
 |0,_=>h
 | n+1,hn=>by
  have h1:=aCb (am:=am) h ht n A0
  unfold D8;split
  ·exact h1
  ·split
   ·exact bz h1 (by rw [T0];omega)<|ht n A0
   ·exact h1
def NG {cs:List Cd}{tg:List Int}:∀n,M (Ds cs tg n)=M cs
 |0=>rfl
 |n+1=>by unfold Ds;rw [Bz];exact NG n
def nj {tg:List Int}{cs:List Cd}{os:List ByteArray}{ks:List Ko}{gs:List Ch}{bs:List Ba}(h:BA cs os ks gs bs=U) (ht:∀k:Nat,k<M cs->1<=gi tg k/\gi tg k<=1000):∀n,n<=M cs->BA (Ds cs tg n) os ks gs bs=U
 |0,_=>h
 |n+1,hn=>by
  exact bz (nj h ht n A0) (by rw [NG];omega)<|ht n A0
theorem abb {p:PK}:∀x∈p.dL,0<=x.2.1/\x.2.1<(M p.gs:Int):=by
 intro x hx;unfold PK.dL deL at hx;split at hx
 ·obtain ⟨k,hk,rfl⟩:=I7.1 hx
  have:=(ur (gs:=p.gs) (l:=EE p.ls p.tk) (t:=p.tk) (n:=p.nx) (am:=FT p.gs p.ra (Ho p.ES p.os p.ks p.gs p.bs (EE p.ls p.tk) p.dm p.tk)<|M p.gs)<|Ax _).1.at_ (k:Int) A0 A0
  rw [NX A8] at this
  grind
 ·cases hx
theorem aqk {t:Int}{s:SN}{x:Le}:(Ff t s x).lk=s.lk\/(Ff t s x).lk=s.lk++[gU t x]:=by
 unfold Ff;exact Zi
theorem aGD {t:Int}{xs:List Le}{s:SN}:∀n,n<=M xs->(∀l∈(FK t xs s n).lk,l∈s.lk\/∃x∈xs,l=gU t x)/\M (FK t xs s n).lk<=M s.lk+n
 |0,_=>⟨λl hl=> .inl hl,Ax _⟩
 | n+1,hn=>by
  obtain ⟨h1,h2⟩:=aGD (t:=t) (xs:=xs) (s:=s) n A0;unfold FK;rcases aqk (t:=t) (s:=FK t xs s n) (x:=Al xs n) with e|e<;>rw [e]
  ·grind
  ·refine ⟨λl hl=>?_,A8⟩
   rw [Be,I6] at hl;rcases hl with hl|rfl
   ·grind
   ·exact .inr ⟨_,LA A0 A0,rfl⟩
def au3 {p:PK}(h:∀l∈p.lk,0<=l.2.2.1/\l.2.2.1<(M p.gs:Int)):∀l∈p.AV.lk,0<=l.2.2.1/\l.2.2.1<(M p.gs:Int):=by
 unfold PK.AV;split
 ·exact h
 ·split
  ·exact h
  ·intro l hl
   rcases (aGD (t:=p.tk) (xs:=p.dL) (s:=p.Hw) _<|Ax _).1 l hl with e|⟨x,hx,rfl⟩
   ·exact h l e
   ·exact abb x hx
theorem MF (p:PK):p.AV.cs=p.cs/\p.AV.os=p.os/\p.AV.ks=p.ks/\p.AV.gs=p.gs/\p.AV.bs=p.bs/\p.AV.tk=p.tk/\p.AV.up=p.up/\p.AV.st=p.st/\p.AV.ca=p.ca/\p.AV.mi=p.mi/\p.AV.me=p.me/\p.AV.dm=p.dm/\p.AV.dr=p.dr/\p.AV.tg=p.tg:=by
 unfold PK.AV;exact Zi
def VP.dec {p:PK}(h:VP p):VP p.AV:=by
 obtain ⟨e1,e2,e3,e4,e5,e6,e7,e8,e9,e10,e11,e12,e13,e14⟩:=MF p;refine ⟨?_,?_,?_,?_,?_,?_,?_,?_,?_,?_,?_,?_⟩
 ·rw [e1,e2,e3,e4,e5];exact h.site
 ·rw [e6];exact h.tk
 ·rw [e8,e4];exact h.st
 ·rw [e9,e4];exact h.ca
 ·rw [e10,e4];exact h.mi
 ·rw [e11,e4];exact h.me
 ·rw [e12,e4];exact h.dm
 ·rw [e13,e4];exact h.dr
 ·rw [e14,e1];exact h.Eu
 ·rw [e14,e1];exact h.tg
 ·rw [e13];exact h.dr8
 ·rw [e4];exact au3 h.lk
def VP.arr {p:PK}(h:VP p):VP p.Mx:={h with st:=(pJ _).trans h.st,lk:=λl hl=>h.lk l<|(DK.1 hl).1}
def VP.cnt {p:PK}(h:VP p):VP p.aS:={h with st:=(pO _).trans h.st}
def VP.drw {p:PK}(h:VP p):VP p.CN:=
 have hl:=qk (gs:=p.gs) (ca:=p.ca) (s:=⟨p.st,p.mi,p.me,aq (M p.gs) 0⟩)<|M p.gs
 {h with st:=hl.1.trans h.st,mi:=hl.2.1.trans h.mi,me:=hl.2.2.1.trans h.me}
def VP.tg1 {p:PK}(h:VP p):∀k:Nat,k<M p.cs->1<=gi p.tg k/\gi p.tg k<=1000:=λk hk=>by
 have:=h.tg k (by rw [h.Eu];omega)
 have:=fQ h.site hk
 omega
def VP.rst {p:PK}(h:VP p):VP p.Jj:=by
 have hs:BA p.Jj.cs p.os p.ks p.gs p.bs=true:=by
  unfold PK.Jj;split
  ·exact h.site
  ·rw [h.Eu];exact aCb h.site h.tg1 _<|Ax _
 have hl:M p.Jj.cs=M p.cs:=by
  unfold PK.Jj;split
  ·rfl
  ·exact T0 _
 refine {h with site:=hs,Eu:=h.Eu.trans hl.symm,tg:=λk hk=>?_}
 have ht:=h.tg k hk
 refine ⟨ht.1,?_⟩;unfold PK.Jj;split
 ·exact ht.2
 ·rcases (cv (gs:=p.gs) (tg:=p.tg) (am:=p.rsA) (cs:=p.cs) (M p.tg) (by rw [h.Eu];omega) k).1 with e|⟨_,_,e⟩<;>rw [e]
  ·exact ht.2
  ·exact DU _
def VP.tick {p:PK}(h:VP p) (ht:p.tk≠1000000):VP p.CZ:=by
 have h5:=h.dec.arr.cnt.drw.rst
 have et:p.BS.CN.Jj.tk=p.tk:=(MF p).2.2.2.2.2.1
 have:=h.tk
 exact {h5 with tk:=by show 0<=p.BS.CN.Jj.tk+1/\p.BS.CN.Jj.tk+1<=1000000;omega}
def afa {p:PK}{n:Int}:M (p.zK n)=M p.st:=by
 unfold PK.zK;rw [L9,L9,L9,L9]
def VP.step {p:PK}(h:VP p) {e:EV}(he:BP p e=0):VP (BL p e):=by
 unfold BL;rw [AE A0];unfold BP at he;rw [AE (by rw [Q3.2 h];decide)] at he
 split
 ·rename_i h1
  rw [AD h1] at he;unfold PK.Iz at he;exact h.tick (λhh=>by rw [AD hh] at he;omega)
 rename_i h1;rw [AE h1] at he;split
 ·exact {h with ca:=by simp only [PK.O1,Bz];exact h.ca,mi:=by simp only [PK.O1,Bz];exact h.mi,dm:=by simp only [PK.O1,Bz];exact h.dm,st:=afa.trans h.st}
 rename_i h2;rw [AE h2] at he;split
 ·exact {h with ca:=by simp only [PK.QY,Bz];exact h.ca,mi:=by simp only [PK.QY,Bz];exact h.mi,dm:=by simp only [PK.QY,Bz];exact h.dm,st:=by simp only [PK.QY,L9];exact h.st}
 rename_i h3;rw [AE h3] at he;split
 ·exact {h with lk:=λl hl=>h.lk l<|(DK.1 hl).1}
 rename_i h4;rw [AE h4] at he;split
 ·exact {h with}
 rename_i h5;rw [AE h5] at he;split
 ·exact {h with}
 rename_i h6;rw [AE h6] at he;split
 ·exact {h with st:=L9.trans h.st}
 rename_i h7;rw [AE h7] at he;split at he
 ·unfold PK.Hk at he
  split at he
  ·cases he
  ·rename_i hb
   simp only [Cl,DB,not_or,SH,CM] at hb;obtain ⟨⟨n0,n1⟩,m0,m1⟩:=hb;refine {h with Eu:=by simp only [PK.Lc,Bz];exact h.Eu,tg:=λk hk=>?_}
   have hk':k<M p.tg:=by simpa only [PK.Lc,Bz] using hk
   have ht:=h.tg k hk'
   show 1<=gi (p.tg.set e.en.toNat e.em) k/\gi (p.tg.set e.en.toNat e.em) k<=(Ac p.cs k).2.2.1
   unfold gi at ht|-;rw [DV,I3]
   by_cases ek:e.en.toNat=(k:Int).toNat
   ·rw [AD ek,AD (by rw [Bx] at ek;omega)]
    rw [Bx] at ek
    have:e.en=(k:Int):=A0
    rw [<-this];exact ⟨m0,m1⟩
   ·rw [AE ek,<-DV]
    exact ht
 ·cases he
structure Jt (C cs:List Cd):Prop where
 len:M cs=M C
 up:∀o:Nat,(Ac cs o).2.1=(Ac C o).2.1
 lim:∀o:Nat,D6 (Ac C o)<=D6 (Ac cs o)
def Jt.on {C cs:List Cd}(h:Jt C cs) {o:Int}:∀(k:Nat) (c:Int),GB k cs o c=GB k C o c
 |0,_=>rfl
 | k+1,c=>by
  simp only [GB];split
  ·rename_i c0
   have e:=h.up c.toNat
   rw [CL c0] at e;rw [e,h.on k]
  ·rfl
def Jt.bel {C cs:List Cd}(h:Jt C cs) {gs:List Ch}{o:Int}{k:Nat}:Co cs gs o k=Co C gs o k:=by
 unfold Co FW;simp only [h.on]
section
variable {cs C : List Cd} {os : List ByteArray} {ks : List Ko} {gs : List Ch} {bs : List Ba} {l : List Le} {rs : List Ra} {d : List Dm} {t n : Int}
def dn (hC:BA C os ks gs bs=U) (hs:BA cs os ks gs bs=U) (hL:Jt C cs) {a b:List Int}(hb:∀k:Nat,k<M gs->0<=gi b k/\gi b k<=80)
  (ha:∀k:Nat,k<M gs->0<=gi a k/\gi a k<=gi b k) (h:E0 C gs b=U):E0 cs gs a=true:=by
 rw [dp hC hb] at h;rw [dp hs λk hk=>⟨(ha k hk).1,IX (ha k hk).2 (hb k hk).2⟩]
 intro o ho p hp;rw [hL.bel];refine IX (sC λk hk=>?_)<|IX (h o aNX p hp)<|hL.lim o
 have hk:=cS (DK.1 hk).1
 have:=(ha k.toNat A0).2
 rwa [CL hk.1] at this
def aoQ {B N:List Le}(bv:B1 B=U) (bb:below (M gs) B=U) (nv:B1 N=U) (nb:below (M gs) N=U) {t t':Int}(h:∀x∈N,Gi t' x=U->x∈B/\Gi t x=U) {j:Int}(j0:0<=j):
  gi (Gg (M gs) N t') j<=gi (Gg (M gs) B t) j:=
 aJK nv nb j0 (XP (a:=0) (b:=80) Ae<|dS bv).1 λx hx ha e=>by
  obtain ⟨h1,h2⟩:=h x hx ha
  have:=aJL bv bb h1 h2
  rwa [e] at this
def pK {B N:List Le}(bv:B1 B=U) (bb:below (M gs) B=U) (nv:B1 N=U) (nb:below (M gs) N=U) {t t':Int}(h:∀x∈N,Gi t' x=U->x∈B/\Gi t x=U) {j:Int}(j0:0<=j) (j1:j<(M gs:Int)):
  gi (DG gs N t') j<=gi (DG gs B t) j:=by
 have:=aoQ bv bb nv nb h j0
 rw [WG j0 j1,WG j0 j1];unfold mx;split<;>split<;>omega
def aFZ {t t':Int}{x:Le}(ht:t<=t') (hx:x.2.2.2.1<=t) (h:Gi t' x=U):Gi t x=true:=by
 unfold Gi at h|-;simp only [AY,Aa] at h|-;omega
def anA (V:Vd C os ks gs bs l rs d t n) (hs:BA cs os ks gs bs=U) (hL:Jt C cs) {m:List Le}(M:NwL gs (FT gs rs (Ho C os ks gs bs l d t)<|aa gs) t n m) {B N:List Le}
  (bv:B1 B=U) (bb:below (aa gs) B=U) (nv:B1 N=U) (nb:below (aa gs) N=U) (hB:∀x∈B,x.2.2.2.1<=t/\(Mv x>t->x∈l)) (hN:∀x∈N,x∈B\/x∈m)
  (hk:E0 cs gs (DG gs B t)=U) {t':Int} (ht:t<=t'):E0 cs gs (DG gs N t')=true:=by
 rw [dp hs λk hk=>Oa hs nv A0 A0]
 rw [dp hs λk hk=>Oa hs bv A0 A0] at hk
 intro o ho p hp
 have h1:=hk o ho p hp
 rw [hL.bel] at h1|-
 have hin:∀k∈Bs gs p (Co C gs o<|aa gs),0<=k/\k<(aa gs:Int):=λk hk=>cS (DK.1 hk).1
 have hBl:∀j:Int,0<=j->j<(aa gs:Int)->gi (DG gs B t) j<=gi (DG gs l t) j:=λj j0 j1=>
  pK V.les V.co bv bb (λx hx ha=>⟨(hB x hx).2 (by unfold Gi at ha;simp only [AY,Aa] at ha;exact ha.2),ha⟩) j0 j1
 have hmx:∀k∈Bs gs p (Co C gs o<|aa gs),gi (DG gs N t') k<=mx (gi (DG gs B t) k) (gi (FT gs rs (Ho C os ks gs bs l d t)<|aa gs) k):=λk hk=>by
  obtain ⟨j0,j1⟩:=hin k hk
  have hj:=(abY V j0 j1).1
  have key:gi (Gg (aa gs) N t') k<=mx (gi (Gg (aa gs) B t) k) (gi (FT gs rs (Ho C os ks gs bs l d t)<|aa gs) k):=by
   have a0:0<=gi (Gg (aa gs) B t) k:=(XP (a:=0) (b:=80) Ae<|dS bv).1
   refine aJK nv nb j0 (by unfold mx;split<;>omega) λx hx ha e=>?_
   rcases hN x hx with h|h
   ·have:=aJL bv bb h (aFZ ht (hB x h).1 ha)
    rw [e] at this;unfold mx;split<;>omega
   ·obtain ⟨i,hi,rfl⟩:=I7.1 h
    have q:=(M.at_ i A0 A0).1
    rw [NX A0] at q;simp only [Bx] at q
    have:=Az (λz:Le=>z.2.2.1) q
    simp only [e] at this;unfold mx;split<;>omega
  rw [WG j0 j1,WG j0 j1];unfold mx at key|-;split<;>split<;>split at key<;>(try split)<;>omega
 by_cases hl:aa (Bs gs p<|Co C gs o<|aa gs)>0
 ·have hr:=BH.1 (au4 V) _ (aEO hp hl aNX)
  unfold rowB at hr;rw [Cl] at hr;rcases hr with hr|hr
  ·refine IX (sC λk hk=>?_) h1
   have h2:=hmx k hk
   have h3:gi (FT gs rs (Ho C os ks gs bs l d t)<|aa gs) k=0:=by simpa using BH.1 hr k hk
   have h4:=Oa (t2:=t) hs bv (hin k hk).1 (hin k hk).2
   rw [h3] at h2;unfold mx at h2;split at h2<;>omega
  ·refine IX (aOM λk hk=>IX (hmx k hk) ?_) (IX (DY hr)<|hL.lim o)
   have:=hBl k (hin k hk).1 (hin k hk).2
   unfold mx;split<;>split<;>omega
 ·have e:Bs gs p (Co C gs o<|aa gs)=[]:=x6 A0
  rw [e] at h1|-;exact h1
end
def aSo:List LV->T LV
 | [.v (Y J r),.v (Y J m)]=> .req ((0<=r/\r<=1000000)/\0<=m/\m<=3000000) (.ok<|.v<|Y J<|m*r / 1000000)
 |_=> .no
def abT:List Bd:=[]
def ajD:=vo (S:=aSo) func97 abT kN (λargs lv h=>by
 unfold aSo at h;split at h
 ·rename_i r m
  refine Ap (.req ((1000000:Int)≠0)<|.ok<|AA<|(AA<|m*r).tdiv 1000000) ?_;obtain ⟨⟨hr,hm⟩,rfl⟩:=h
  have h1:=amH (a:=m) (b:=r) hm.1 hm.2 hr.1 hr.2
  refine ⟨A0,Az (λz=>LV.v<|Y J z) ?_⟩
  rw [AJ (x:=m*r),I4 h1.1,AJ]
 ·cases h)
def aI4:List LV->T LV
 | [.v (Y J n)]=> .ok (inB n 0 1000000)
 |_=> .no
def aJt:=vo (S:=aI4) func96 abT kN (λargs lv h=>by
 unfold aI4 at h;split at h
 ·rename_i n
  refine Ap (.ok<|.v<|.bool<|(an<|n>=0)&&(an<|n<=1000000)) ?_;exact h
 ·cases h)
structure PM where
 (low high r n:Int)
def v8 (s:PM):T (Rd PM):=letI a:=AA<|s.low+(AA<|(AA<|s.high-s.low).tdiv 2);.br (an<|s.low<s.high) (.req ((2:Int)≠0)<|.req ((0<=s.r/\s.r<=1000000)/\0<=a/\a<=3000000)<|.br (an<|(a*s.r / 1000000)>=s.n) (.nx {s with high:=a})<|.nx {s with low:=AA<|a+1})<|.so (.exit 0) s
def ja (s:PM):Prop:=s.low=0/\s.high=2*s.n+2/\s.r=999800/\0<=s.n/\s.n<=1000000
def Xv (s:PM):Prop:=(0<=s.low/\s.low<=wt s.n)/\(wt s.n<=s.high/\s.high<=2*s.n+2)/\s.r=999800/\0<=s.n/\s.n<=1000000
def ej (s:PM):Nat:=(s.high-s.low).toNat
def aAX (x:Ex) (s s':PM):Prop:=x=.exit 0/\s'.low=wt s'.n
def akz:∀s,ja s->Xv s:=by
 rintro s ⟨h0,h1,h2,h3,h4⟩
 have:=aTw h3
 exact xZ
theorem azd:Da Xv ej aAX v8:=by
 intro s hI;obtain ⟨⟨h0,h1⟩,⟨h2,h3⟩,h4,h5,h6⟩:=hI;refine AH (λc1=>?_) λc1=>?_
 ·have c1:s.low<s.high:=AX
  have hd:(s.high-s.low).tdiv 2=(s.high-s.low) / 2:=I4 A0
  have hm:AA (s.low+AA ((AA<|s.high-s.low).tdiv 2))=s.low+(s.high-s.low) / 2:=by
   rw [AJ (x:=s.high-s.low),hd,AJ (x:=(s.high-s.low) / 2),AJ]
  rw [hm];refine AH (λc2=>?_) λc2=>?_
  ·rw [Aa,h4,aJl] at c2
   exact ⟨⟨⟨h0,h1⟩,⟨AZ,AZ⟩,h4,h5,h6⟩,by simp only [ej];omega⟩
  ·rw [D3,h4,aJl] at c2
   rw [AJ (x:=s.low+(s.high-s.low) / 2+1)];exact ⟨⟨⟨A8,AZ⟩,⟨h2,h3⟩,h4,h5,h6⟩,by simp only [ej];omega⟩
 ·have c1:s.high<=s.low:=AX
  exact V8
def Z5:AS PM:=⟨3,24,[0,1,2],[],λs=>[s.low,s.high,.fn 202 [.own 1 0,.own 0 0,.own 2 0]],λs=>[⟨[s.r],205,.cl,X⟩,⟨[.fn 97 []],288,.cl,X⟩,⟨[s.n],3,.cl,X⟩],λv b=>⟨AK v 0,AK v 1,Aj b 0 0,Aj b 2 0⟩,v8,λs r=> {r with r:=s.r,n:=s.n},λs=>s,λ_ s=>s,[.exit 0],ja,Xv,ej⟩
abbrev aGo:=Z5.run
abbrev atT:=Z5.At
def U5:List Bd:=[aJt,ajD]
def akb:Aw:=kI U5<|l0 U5
def axf:Rq Xv v8:=by
 intro s hI;refine ⟨λc1=>⟨?_,?_,λ_=>trivial,λ_=>trivial⟩,λ_=>trivial⟩
 all_goals ((obtain ⟨⟨h0,h1⟩,⟨h2,h3⟩,h4,h5,h6⟩:=hI;simp only [Aa] at c1;first|decide|(have hd:(s.high-s.low).tdiv 2=(s.high-s.low) / 2:=I4 A0;have hm:AA (s.low+AA ((AA<|s.high-s.low).tdiv 2))=s.low+(s.high-s.low) / 2:=(by rw [AJ (x:=s.high-s.low),hd,AJ (x:=(s.high-s.low) / 2),AJ]);rw [hm];omega)))
def aQ1:Z5.Ok:={}
def aPU:Z5.Pf (aAX):=⟨akz,λs h=>rfl,azd,axf⟩
def apj:=s2 (b:=bN f201 0) aQ1 aPU U5 akb
def arO:Fi ja Xv aAX atT aGo:=AS.fin aQ1 aPU
def aJO:List LV->T LV
 | [.v (Y J n)]=> .tu #[wtA n,wtE n]
 |_=> .no
def akZ:Aw:=kI U5<|la 1 func201 apj<|l0 U5
def aue:=vo (S:=aJO) func118 U5 akZ (λargs lv h=>by
 unfold aJO at h;split at h
 ·rename_i n
  refine Ap (.br (!(inB n 0 1000000)) (.tu #[(0:Int),(1:Int)])<|.req (Z5.q (⟨0,(AA<|(AA<|2*n)+2),999800,n⟩:PM))<|.tu #[(aGo (⟨0,(AA<|(AA<|2*n)+2),999800,n⟩:PM)).low,(0:Int)]) ?_;obtain rfl:=h;refine ⟨λc=>?_,λc=>?_⟩
  ·have c:=ntW c
   unfold wtA wtE;rw [c];rfl
  ·have c:=nfW c
   have hb:=CM.1 c
   have hE:ja ⟨0,AA<|AA (2*n)+2,999800,n⟩:=⟨rfl,by
    rw [AJ (x:=2*n),AJ],rfl,hb.1,hb.2⟩
   obtain ⟨_,_,_,q⟩:=arO _ hE;refine ⟨⟨hE,rfl,rfl⟩,?_⟩;rw [q];unfold wtA wtE;rw [AD c,AD c];exact rfl
 ·cases h)
def aSQ:List LV->T LV
 | [.v (Y J n),.v (Y J a),.v (Y J b)]=> .ok (inB n a b)
 |_=> .no
def abS:List Bd:=[]
def vj:=vo (S:=aSQ) func78 abS kN (λargs lv h=>by
 unfold aSQ at h;split at h
 ·rename_i n a b
  refine Ap (.ok<|.v<|.bool<|(an<|n>=a)&&(an<|n<=b)) ?_;exact h
 ·cases h)
def aJ7:List LV->T LV
 | [.v (.agg ⟨[Y J nu,Y J co,Y J am,Y J fr,Y J tk]⟩)]=> .ok (DA (nu,co,am,fr,tk))
 |_=> .no
def am1:List Bd:=[vj]
def aJr:=vo (S:=aJ7) func116 am1 kN (λargs lv h=>by
 unfold aJ7 at h;split at h
 ·rename_i nu co am fr tk
  refine Ap (.ok<|.v<|.bool<|(inB nu (1:Int) (1000000:Int))&&((inB co (0:Int) (15:Int))&&((inB am (0:Int) (80:Int))&&((inB fr (0:Int) (1000000:Int))&&(inB tk (1:Int) (1000:Int)))))) ?_;exact h
 ·cases h)
def aSR:List LV->T LV
 | [.v (.agg ⟨[Y J nu,Y J co,Y J am,Y J fr,Y J tk]⟩),.v (.agg ⟨[Y J nu2,Y J co2,Y J am2,Y J fr2,Y J tk2]⟩)]=> .ok (Ji (nu,co,am,fr,tk) (nu2,co2,am2,fr2,tk2))
 |_=> .no
def aaB:=vo (S:=aSR) func117 abS kN (λargs lv h=>by
 unfold aSR at h;split at h
 ·rename_i nu co am fr tk nu2 co2 am2 fr2 tk2
  refine Ap (.ok<|.v<|.bool<|(an<|nu2>nu)&&(an<|fr2>=fr)) ?_;exact h
 ·cases h)
def aJ8:List LV->T LV
 | [.v (.agg ⟨[Y J nu,Y J co,Y J am,Y J fr,Y J tk]⟩)]=> .req ((0<=fr/\fr<=1000000)/\0<=tk/\tk<=1000000) (.ok<|Mv (nu,co,am,fr,tk))
 |_=> .no
def am0:List Bd:=[aue]
def aJs:=vo (S:=aJ8) func79 am0 kN (λargs lv h=>by
 unfold aJ8 at h;split at h
 ·rename_i nu co am fr tk
  refine Ap (.br ((wtE tk) !=0) (.ok fr)<|.ok<|AA<|(AA<|fr+10)+(wtA tk)) ?_;obtain ⟨⟨hf,ht⟩,rfl⟩:=h
  have c:=CM.2 ht
  have hw:=aTw ht.1
  have ea:wtA tk=wt tk:=by unfold wtA;rw [AD c]
  have ee:wtE tk=0:=by unfold wtE;rw [AD c]
  rw [ea,ee,AJ (x:=fr+10),AJ];exact ⟨λh=>An,λ_=>rfl⟩
 ·cases h)
structure Nk where
 l:List Le
 r:Bool
 m:List Le
 (n i:Int)
def aFo:=bN f77 0
def fp (s:Nk):T (Rd Nk):=
 .br (an<|s.i<s.n) (.ix s.i (M s.m)<|.br (!(DA<|Al s.m s.i)) (.so (.ret) {s with r:=X})<|.br (an<|s.i>0) (.ix (AA<|s.i-1) (M s.l)<|.br (!(Ji (Al s.l<|AA<|s.i-1)<|Al s.m s.i)) (.so (.ret) {s with r:=X})<|.nx {s with i:=AA<|s.i+1})<|.nx {s with i:=AA<|s.i+1}) (.so (.exit 0) s)
def jZ (s:Nk):Prop:=s.i=0/\s.n=(M s.l:Int)/\s.n<=1000/\s.m=s.l
def Xu (s:Nk):Prop:=(0<=s.i/\s.i<=s.n)/\s.n=(M s.l:Int)/\s.n<=1000/\s.m=s.l/\∀j:Nat,(j:Int)<s.i->Gk s.l j=U
def eh (s:Nk):Nat:=(s.n-s.i).toNat
def aAW (x:Ex) (s s':Nk):Prop:=(x=.exit 0/\∀j:Nat,(j:Int)<s'.n->Gk s'.l j=U)\/(x=.ret/\s'.r=X/\∃j:Nat,(j:Int)<s'.n/\Gk s'.l j=X)
def aky:∀s,jZ s->Xu s:=by
 rintro s ⟨h0,h2,h3,h4⟩
 exact ⟨A0,h2,h3,h4,λj hj=>A0⟩
def ayA:Da Xu eh aAW fp:=by
 intro s hI;unfold fp;obtain ⟨⟨h0,h1⟩,h2,h3,h4,hA⟩:=hI;refine AH (λc1=>?_) λc1=>?_
 ·refine AH (λc2=>?_) (λc2=>?_)
  ·have c1:s.i<s.n:=AX
   rw [h4] at c2;refine .inr ⟨rfl,rfl,s.i.toNat,AZ,?_⟩;rw [CL h0];unfold Gk;rw [ntW c2];rfl
  ·refine AH (λc3=>?_) (λc3=>?_)
   ·refine AH (λc4=>?_) (λc4=>?_)
    ·have c1:s.i<s.n:=AX
     rw [h4] at c2
     have c3:0<s.i:=N9
     rw [AJ (x:=s.i-1),h4] at c4;refine .inr ⟨rfl,rfl,s.i.toNat,AZ,?_⟩;rw [CL h0];unfold Gk;rw [nfW c2,I9 A0,ntW c4];rfl
    ·have c1:s.i<s.n:=AX
     rw [h4] at c2
     have c3:0<s.i:=N9
     rw [AJ (x:=s.i-1),h4] at c4
     have hg:Gk s.l s.i=true:=by unfold Gk;rw [nfW c2,I9 A0,nfW c4];rfl
     rw [AJ (x:=s.i+1)]
     exact ⟨⟨⟨AZ,AZ⟩,h2,h3,h4,λj hj=>by
      by_cases e:(j:Int)<s.i
      ·exact hA j e
      ·have e:(j:Int)=s.i:=lX
       show Gk s.l j=U
       rw [e];exact hg⟩,by simp only [eh];omega⟩
   ·have c1:s.i<s.n:=AX
    rw [h4] at c2
    have hg:Gk s.l s.i=true:=by unfold Gk;rw [nfW c2,Cq lM];rfl
    rw [AJ (x:=s.i+1)]
    exact ⟨⟨⟨AZ,AZ⟩,h2,h3,h4,λj hj=>by
     by_cases e:(j:Int)<s.i
     ·exact hA j e
     ·have e:(j:Int)=s.i:=lX
      rw [e];exact hg⟩,by simp only [eh];omega⟩
 ·have c1:s.n<=s.i:=AX
  exact .inl ⟨rfl,λj hj=>hA j A0⟩
def RU:AS Nk:=⟨0,33,[0,2,8,9,10],[],λs=>[s.l,s.r,s.m,s.n,s.i],λ_=>[],λv b=>⟨B5 AP v 0,EO v 1,B5 AP v 2,AK v 3,AK v 4⟩,fp,λs r=> {s with r:=r.r,i:=r.i},λs=>s,λ_ s=>s,[.ret,.exit 0],jZ,Xu,eh⟩
abbrev aGn:=RU.run
abbrev aHU:=RU.At
def axe:Rq Xu fp:=by
 intro s hI;refine ⟨λc1=>⟨?_,λ_=>trivial,λc2=>⟨λc3=>⟨?_,λ_=>trivial,λ_=>trivial⟩,λ_=>trivial⟩⟩,λ_=>trivial⟩
 all_goals ((obtain ⟨⟨h0,h1⟩,h2,h3,h4,hA⟩:=hI;simp only [Aa] at c1;have hl:M s.m=M s.l:=Az M h4;first|omega|(simp only [Aa,gt_iff_lt] at c3;rw [AJ (x:=s.i-1)];omega)))
def abR:List Bd:=[aJr,aaB]
def aQ0:RU.Ok:={}
def aPT:RU.Pf (aAW):=⟨aky,λs h=>rfl,ayA,axe⟩
def apg:SA 0 aFo RU:=s1 aQ0 aPT abR kN
def arM:Fi jZ Xu aAW aHU aGn:=AS.fin aQ0 aPT
def aJ3:List LV->T LV
 | [.xl (.pair (.int J) (.pair (.int J) (.pair (.int J) (.pair (.int J) (.int J))))) l]=> .ok (B1 l)
 |_=> .no
def WS:=vm (S:=aJ3) func77 abR kN (L:=(λi=>if i=4 then RU.lp else Ak i)) (λb hb=>by
 rw [show BB _=[aFo] by kernel_rfl] at hb
 simp only [B7,Bu,Bt] at hb;subst hb;exact apg) (λargs lv h=>by
 unfold aJ3 at h;split at h
 ·rename_i l
  refine Ap (letI a:=(M l:Int);.br (an<|a>64) (.ok X)<|.req (RU.q (⟨l,X,l,a,0⟩:Nk))<|.br (Bj (aHU (⟨l,X,l,a,0⟩:Nk))<|.ret) (.ok (aGn (⟨l,X,l,a,0⟩:Nk)).r)<|.ok U) ?_;obtain rfl:=h;refine ⟨λc=>Az (λz=>LV.v<|.bool z) ?_,λc=>?_⟩
  ·have c:64<(M l:Int):=Ic
   unfold B1;rw [I9 A0];rfl
  ·have c:(M l:Int)<=64:=Ic
   have hE:jZ ⟨l,X,l,(M l:Int),0⟩:=⟨rfl,rfl,AZ,rfl⟩
   refine ⟨⟨hE,rfl,rfl⟩,?_⟩;obtain ⟨_,_,hq⟩:=arM _ hE;rcases hq with ⟨q1,q2⟩ |⟨q1,q2,j,q3,q4⟩<;>rw [q1]
   ·have e:Di (M l) (Gk l)=true:=Dq.2 (λj hj=>q2 j (by show (j:Int)<(M l:Int);omega))
    unfold B1;rw [Cq A0,e];exact ⟨λh=>An,λ_=>rfl⟩
   ·have e:Di (M l) (Gk l)=false:=QI j (by have q3:(j:Int)<(M l:Int):=q3;omega) q4
    rw [q2];unfold B1;rw [Cq A0,e];exact ⟨λ_=>rfl,λh=>An⟩
 ·cases h)
structure Ox where
 tick:Int
 l:List Le
 (n i:Int)
 out:List Le
def aFw:=bN f44 0
def yu (s:Ox):T (Rd Ox):=letI a:=Al s.l s.i;.br (an<|s.i<s.n) (.ix s.i (M s.l)<|.req ((0<=a.2.2.2.1/\a.2.2.2.1<=1000000)/\0<=a.2.2.2.2/\a.2.2.2.2<=1000000)<|.br (an<|(Mv a)>s.tick) (.rb (M s.out) (M<|[a]) 40<|.re (M s.out+M ([a])) (s.out++([a]))<|.nx {s with i:=AA<|s.i+1,out:=s.out++([a])})<|.rl s.out<|.nx {s with i:=AA<|s.i+1})<|.rl s.out<|.so (.exit 0) s
def jk (s:Ox):Prop:=s.i=0/\s.out=[]/\s.n=(M s.l:Int)/\s.n<=1000/\∀x∈s.l,DA x=U
def Y0 (s:Ox):Prop:=(0<=s.i/\s.i<=s.n)/\s.out=(s.l.take s.i.toNat).filter (Lo s.tick)/\s.n=(M s.l:Int)/\s.n<=1000/\∀x∈s.l,DA x=U
def tJ (s:Ox):Nat:=(s.n-s.i).toNat
def aAZ (x:Ex) (s s':Ox):Prop:=x=.exit 0/\s'.out=s'.l.filter (Lo s'.tick)
def amG:∀s,jk s->Y0 s:=by
 rintro s ⟨h0,h1,h2⟩
 exact ⟨A0,G1,h2⟩
theorem agN:Da Y0 tJ aAZ yu:=by
 intro s hI;obtain ⟨⟨h0,h1⟩,hA,h2,h3,h4⟩:=hI;refine AH (λc1=>?_) λc1=>?_
 ·have c1:s.i<s.n:=AX
  have e:=(W1 h0 (show s.i<M s.l by omega)).2
  rw [AJ (x:=s.i+1)];refine AH (λc2=>?_) λc2=>?_
  all_goals
   refine ⟨⟨⟨A8,AZ⟩,?_,h2,h3,h4⟩,by simp only [tJ];omega⟩
   simp only
   have c2:Lo s.tick (Al s.l s.i)=_:=c2
   rw [e,ZQ,hA,N1,c2]
   simp
 ·have c1:s.n<=s.i:=AX
  refine ⟨rfl,?_⟩;rw [hA,DZ A0]
def Rg:AS Ox:=⟨0,33,[1,6,17,18,19],[.nl 6 101 AP],λs=>[s.tick,.os 0 5 0<|M s.out,s.l,s.n,s.i],λs=>[bV 101 AP s.out],λv b=>⟨AK v 0,B5 AP v 2,AK v 3,AK v 4,Ab AP b 0⟩,yu,λs r=> {s with i:=r.i,out:=r.out},λs=>s,λ_ s=>s,[.exit 0],jk,Y0,tJ⟩
abbrev aCX:=Rg.run
abbrev asP:=Rg.At
theorem axp:Rq Y0 yu:=by
 intro s hI;refine ⟨λc1=>⟨?_,?_,λc2=>⟨?_,?_,ak⟩,λc2=>⟨A9,ak⟩⟩,λc1=>⟨A9,ak⟩⟩
 all_goals ((obtain ⟨⟨h0,h1⟩,hA,h2,h3,h4⟩:=hI;simp only [Aa] at c1;have hv:=MR.1<|h4 _<|LA h0 (show s.i<M s.l by omega);have hl:M s.out<=s.i.toNat:=A8;first|omega|(refine ⟨A0,?_,?_⟩<;>simp only [Bc,Bn]<;>omega) |exact ⟨rfl,AI⟩))
def abQ:List Bd:=[WS,vj,aJs]
def aQA:Rg.Ok:={}
def aPd:Rg.Pf (aAZ):=⟨amG,λs h=>rfl,agN,axp⟩
def aps:SA 0 aFw Rg:=s1 aQA aPd abQ kN
def at6:Fi jk Y0 aAZ asP aCX:=AS.fin aQA aPd
def aI9:List LV->T LV
 | [.xl (.pair (.int J) (.pair (.int J) (.pair (.int J) (.pair (.int J) (.int J))))) l,.v (Y J t)]=> .ok (.AM [BX l t,D9 l t])
 |_=> .no
def uh:=uS f44 aI9
theorem eQ:VV 44 uh:=vm func44 abQ kN (L:=(λi=>if i=5 then Rg.lp else Ak i)) (λb hb=>by
 rw [show BB _=[aFw] by kernel_rfl] at hb
 simp only [B7,Bu,Bt] at hb;subst hb;exact aps) (λargs lv h=>by
 unfold aI9 at h;split at h
 ·rename_i l t
  refine Ap (letI a:=(aCX (⟨t,l,(M l:Int),(0:Int),([]:List Le)⟩:Ox));.br ((!(B1 l)) ||(!(inB t (0:Int) (1100000:Int)))) (.ok<|.AM [.xl AP ([]:List Le),(1:Int)])<|.r0 Le<|.req (Rg.q (⟨t,l,(M l:Int),(0:Int),([]:List Le)⟩:Ox))<|.rz a.out<|.ok<|.AM [((a.out.drop 0).take<|M a.out),(0:Int)]) ?_;obtain rfl:=h;refine ⟨λc=>?_,λc=>?_⟩
  ·have c:LX l t=false:=aMr
   unfold BX D9;rw [c];rfl
  ·have c:LX l t=true:=aMr
   have hv:B1 l=true:=A8
   have hl:=Gv hv
   have hE:jk ⟨t,l,(M l:Int),0,[]⟩:=⟨rfl,rfl,rfl,AZ,hl.2⟩
   obtain ⟨_,_,q1,q2⟩:=at6 _ hE
   have q2:(aCX ⟨t,l,(M l:Int),0,[]⟩).out=l.filter (Lo t):=q2
   refine ⟨A9,⟨hE,rfl,rfl⟩,A0,?_⟩
   show LV.AM [LV.xl _ _,_]=_
   unfold BX D9
   grind
 ·cases h)
structure Nz where
 l:List Le
 (cR tick e:Int)
 m:List Le
 (k i:Int)
def aFT:=bN f72 0
def yk (s:Nz):T (Rd Nz):=
 .br (an<|s.i<s.k) (.ix s.i (M s.m)<|.br (an<|(Al s.m s.i).2.1>=s.cR) (.so (.ret) {s with e:=(1:Int)})<|.nx {s with i:=AA<|s.i+1}) (.so (.exit 0) s)
def jS (s:Nz):Prop:=s.i=0/\s.k=(M s.m:Int)/\s.k<=1000
def Xg (s:Nz):Prop:=(0<=s.i/\s.i<=s.k)/\s.k=(M s.m:Int)/\s.k<=1000/\∀x∈s.m.take s.i.toNat,x.2.1<s.cR
def uW (s:Nz):Nat:=(s.k-s.i).toNat
def aAF (x:Ex) (s s':Nz):Prop:=(x=.exit 0/\below s'.cR s'.m=U)\/(x=.ret/\s'.e=1/\below s'.cR s'.m=X)
def amj:∀s,jS s->Xg s:=by
 rintro s ⟨h0,h1,h2⟩
 exact ⟨A0,h1,h2,G1⟩
theorem ahe:Da Xg uW aAF yk:=by
 intro s hI;obtain ⟨⟨h0,h1⟩,h2,h3,h4⟩:=hI;refine AH (λc1=>?_) λc1=>?_
 ·have c1:s.i<s.k:=AX
  refine AH (λc2=>?_) λc2=>?_
  ·refine .inr ⟨rfl,rfl,?_⟩
   unfold below;rw [List.all_eq_false];exact ⟨Al s.m s.i,LA h0 A8,EI⟩
  ·rw [AJ (x:=s.i+1)]
   refine ⟨⟨⟨A8,A8⟩,h2,h3,λx hx=>?_⟩,by simp only [uW];omega⟩
   rw [(W1 h0 A8).2,Be,I6] at hx;rcases hx with hx|rfl
   ·exact h4 x hx
   ·simpa using c2
 ·have c1:s.k<=s.i:=AX
  refine .inl ⟨rfl,?_⟩;rw [DZ A0] at h4;unfold below
  grind
def R6:AS Nz:=⟨0,48,[0,1,2,6,7,26,27,28],[],λs=>[s.l,s.cR,s.tick,.v<|.slice aj 0 0,s.e,s.m,s.k,s.i],λ_=>[],λv b=>⟨B5 AP v 0,AK v 1,AK v 2,AK v 4,B5 AP v 5,AK v 6,AK v 7⟩,yk,λs r=> {s with e:=r.e,i:=r.i},λs=>s,λ_ s=>s,[.ret,.exit 0],jS,Xg,uW⟩
abbrev aGx:=R6.run
abbrev aHi:=R6.At
def axS:Rq Xg yk:=by
 exact aL9
def Qx:List Bd:=[WS,vj,aJs]
def abo:Aw:=kI Qx<|l0 Qx
def aQp:R6.Ok:={}
def aPP:R6.Pf (aAF):=⟨amj,λs h=>rfl,ahe,axS⟩
def aqi:SA 0 aFT R6:=s1 aQp aPP Qx abo
def auJ:Fi jS Xg aAF aHi aGx:=AS.fin aQp aPP
def zS:Array Tmp×Code×Code:=((Ik<|f72.body.getD .skip)[0]?).getD (#[],.skip,.skip)
def akA:Array Tmp:=zS.1
def ajf:Code:=zS.2.1
def akH:Code:=zS.2.2
structure Na where
 m:List Le
 (k i:Int)
 o:List Int
 q:List Le
 t:Int
 st:LS
def yj (s:Na):T (Rd Na):=letI b:=Al s.m s.i;letI c:=s.o.getD b.2.1.toNat<|Ty.dflt A7;letI a:=s.o.set b.2.1.toNat (if c<b.2.2.1 then b.2.2.1 else c);.br (an<|s.i<s.k) (.ix s.i (M s.m)<|.br (an<|b.2.2.2.1>s.t) (.rl s.o<|.so (.exit 0) s)<|.req ((0<=b.2.2.2.1/\b.2.2.2.1<=1000000)/\0<=b.2.2.2.2/\b.2.2.2.2<=1000000)<|.br (an<|(Mv b)<=s.t) (.rl s.o<|.nx {s with i:=AA<|s.i+1})<|.ik b.2.1 (M s.o)<|.ik b.2.1 (M s.o)<|.re (M s.o) a<|.nx {s with i:=AA<|s.i+1,o:=a})<|.rl s.o<|.so (.exit 0) s
def jR (s:Na):Prop:=s.st=.ready/\s.i=0/\s.k=(M s.m:Int)/\s.k<=1000/\(∀x∈s.m,DA x=U/\x.2.1<(M s.o:Int))/\s.m.Pairwise (λa b=>a.1<b.1/\a.2.2.2.1<=b.2.2.2.1)
def ir (s:Na):Prop:=s.st=.ready/\(0<=s.i/\s.i<=s.k)/\s.k=(M s.m:Int)/\s.k<=1000/\(∀x∈s.m,DA x=U/\x.2.1<(M s.o:Int))/\s.m.Pairwise (λa b=>a.1<b.1/\a.2.2.2.1<=b.2.2.2.1)
def fE (s:Na):Nat:=(s.k-s.i).toNat
def acM (x:Ex) (s s':Na):Prop:=x=.exit 0
def amh:∀s,jR s->ir s:=by
 rintro s ⟨h0,h1,h2⟩
 exact ⟨h0,A0,h2⟩
theorem ahd:Da ir fE acM yj:=by
 intro s hI;obtain ⟨hs,⟨h0,h1⟩,h2,h3,h4,h5⟩:=hI;refine AH (λc1=>?_) λc1=>rfl
 have c1:s.i<s.k:=AX
 rw [AJ (x:=s.i+1)];refine AH (λc2=>rfl) λc2=>AH (λc3=>?_) λc3=>?_
 ·exact ⟨⟨hs,⟨A8,AZ⟩,h2,h3,h4,h5⟩,by simp only [fE];omega⟩
 ·exact ⟨⟨hs,⟨A8,A8⟩,h2,h3,λx hx=>A8,h5⟩,by simp only [fE];omega⟩
def YV:AS Na:=⟨6,27,[0,2,6,7,8],[],λs=>[.CK 5,.own 4 0,s.m,s.k,s.i],λs=>[bV 3 A7 s.o,⟨[.os 0 1 0<|M s.o],29,.cl,X⟩,⟨[.fn 109 [.own 1 0]],147,.cl,X⟩,⟨[s.q],33,.cl,X⟩,⟨[s.t],3,.cl,X⟩,⟨[.junk,.junk,.junk,.junk,.junk,.junk,.junk,.junk,.junk,.junk,.junk,.own 2 0,.junk,.junk,.junk,.junk,.junk,.junk,.junk,.junk,.junk,.junk,.junk,.junk,.junk,.junk,.junk,.junk,.junk,.junk,.junk,.junk,.junk,.junk,.junk,.junk,.junk,.junk,.junk,.junk,.junk,.junk,.junk,.junk,.junk,.junk,.junk,.junk],0,.Cc akA ajf akH s.st,X⟩],λv b=>⟨B5 AP v 2,AK v 3,AK v 4,Ab A7 b 0,AF AP b 3 0,Aj b 4 0,.ready⟩,yj,λs r=> {r with m:=s.m,k:=s.k,q:=s.q,t:=s.t,st:=s.st},λs=> {s with st:=.ready},λx s=> {s with st:=(match x with| .exit 0=> .ready|_=> .ready)},[.exit 0],jR,ir,fE⟩
abbrev aCv:=YV.run
abbrev asn:=YV.At
def axR:Rq ir yj:=by
 intro s hI;refine ⟨λc1=>⟨?_,λc2=>⟨A9,ak⟩,λc2=>⟨?_,λc3=>⟨A9,ak⟩,λc3=>⟨?_,?_,?_,?_,?_,ak⟩⟩⟩,λc1=>⟨A9,ak⟩⟩
 all_goals ((obtain ⟨hs,⟨h0,h1⟩,h2,h3,h4,h5⟩:=hI;simp only [Aa] at c1;have hv:=(h4 _<|LA h0 (show s.i<M s.m by omega)).2;have hl:=MR.1 (h4 _<|LA h0 (show s.i<M s.m by omega)).1;first|omega|exact ⟨rfl,AI⟩))
def aQo:YV.Ok:={}
def aPO:YV.Pf (acM):=⟨amh,λs h=>by
 obtain ⟨m,k,i,o,q,t,st⟩:=s
 have e:=h.1
 subst e;rfl,ahd,axR⟩
def aqh:=s2 (b:=bN f154 0) aQo aPO Qx abo
theorem auI:Rs jR asn aCv (λs:Na=>((s.m.drop s.i.toNat).filter<|Gi s.t).foldl JE s.o) (λx s' (v:List Int)=>x=.exit 0/\s'.o=v):=DN aQo aPO (λs hI=>by
  obtain ⟨hs,⟨h0,h1⟩,h2,h3,h4,h5⟩:=hI;refine AH (λc1=>?_) λc1=>?_
  ·have c1:s.i<s.k:=AX
   have e:=(W1 h0 (show s.i<(M s.m:Int) by omega)).1
   rw [AJ (x:=s.i+1)];refine AH (λc2=>?_) λc2=>AH (λc3=>?_) λc3=>?_
   ·refine ⟨rfl,?_⟩
    have c2:(Al s.m s.i).2.2.2.1>s.t:=EI
    have hp:(s.m.drop s.i.toNat).Pairwise (λa b=>a.1<b.1/\a.2.2.2.1<=b.2.2.2.1):=List.Pairwise.sublist (List.drop_sublist _ _) h5
    rw [e,kC] at hp;rw [List.filter_eq_nil_iff.2]
    ·rfl
    ·rw [e]
     intro x hx;unfold Gi;rw [I9,PZ]
     ·decide
     ·rcases B7.1 hx with rfl|hx
      ·omega
      ·have:=(hp.1 x hx).2
       omega
   ·show List.foldl _ _ _=List.foldl _ _ _
    have c3:Mv (Al s.m s.i)<=s.t:=N9
    have hb:¬Gi s.t (Al s.m s.i)=true:=by
     unfold Gi;rw [I9 (p:=Mv _>_) A0,SY]
     decide
    simp only
    grind
   ·show List.foldl _ _ _=List.foldl _ _ _
    have c2:(Al s.m s.i).2.2.2.1<=s.t:=EI
    have c3:s.t<Mv (Al s.m s.i):=N9
    have hb:Gi s.t (Al s.m s.i)=true:=by
     unfold Gi;rw [Cq c2,Cq c3];rfl
    rw [e,N1,AD hb,Jw];rfl
  ·have c1:s.k<=s.i:=A8
   refine ⟨rfl,?_⟩;rw [En A0];rfl)
def aJj:List LV->T LV
 | [.xl (.pair (.int J) (.pair (.int J) (.pair (.int J) (.pair (.int J) (.int J))))) l,.v (Y J n),.v (Y J t)]=> .ok (.AM [.xl A7<|Gx l n t,Jl l n t])
 |_=> .no
def akY:Aw:=kI Qx<|la 1 func154 aqh<|l0 Qx
def WU:=vm (S:=aJj) func72 Qx akY (L:=(λi=>if i=4 then R6.lp else Ak i)) (λb hb=>by
 rw [show BB _=[aFT] by kernel_rfl] at hb
 simp only [B7,Bu,Bt] at hb;subst hb;exact aqi) (λargs lv h=>by
 unfold aJj at h;split at h
 ·rename_i l n t
  refine Ap (letI b:=(aq n.toNat (0:Int));letI d:=(M l:Int);letI a:=(aCv (⟨l,d,0,b,l,t,.ready⟩:Na));.br ((!(B1 l)) ||((!(inB n (0:Int) (16:Int))) ||(!(inB t (0:Int) (1100000:Int))))) (.ok<|.AM [.xl A7 ([]:List Int),(1:Int)])<|.req (R6.q (⟨l,n,t,0,l,d,0⟩:Nz))<|.br (Bj (aHi (⟨l,n,t,0,l,d,0⟩:Nz))<|.ret) (.ok<|.AM [.xl A7 ([]:List Int),(aGx (⟨l,n,t,0,l,d,0⟩:Nz)).e])<|.rm 8 n<|.re n.toNat b<|.req (YV.q (⟨l,d,0,b,l,t,.ready⟩:Na))<|.rz a.o<|.ok<|.AM [.xl A7<|(a.o.drop 0).take<|M a.o,(0:Int)]) ?_;obtain rfl:=h
  have bad:Kc l n t=X->LV.AM [.xl A7 ([]:List Int),.v<|Y J 1]=LV.AM [.xl A7<|Gx l n t,.v<|Y J<|Jl l n t]:=λc=>by
   unfold Gx Jl;rw [c];rfl
  refine ⟨λc=>bad ?_,λc=>?_⟩
  ·unfold Kc
   grind
  have c:(B1 l&&(inB n 0 16&&inB t 0 1100000))=true:=A8
  have c':=c
  rw [AY,AY,CM,CM] at c';obtain ⟨hv,hn,ht⟩:=c'
  have hl:=Gv hv
  have hE:jS ⟨l,n,t,0,l,(M l:Int),0⟩:=⟨rfl,rfl,AZ⟩
  refine ⟨⟨hE,rfl,rfl⟩,?_⟩;obtain ⟨_,_,hq⟩:=auJ _ hE;rcases hq with ⟨q1,q2⟩ |⟨q1,q2,q3⟩<;>rw [q1]
  ·refine ⟨λh=>An,λ_=>?_⟩
   have q2:below n l=true:=q2
   have hE2:jR ⟨l,(M l:Int),0,aq n.toNat 0,l,t,.ready⟩:=⟨rfl,rfl,rfl,AZ,λx hx=>⟨hl.2 x hx,by
    have:=DY<|BH.1 q2 x hx
    simp only [Cf];omega⟩,aE8 hv⟩
   obtain ⟨_,q4⟩:=auI _ hE2;refine ⟨A0,⟨rfl,AI⟩,⟨hE2,rfl,rfl⟩,A0,?_⟩;rw [CP,EY,q4];unfold Gx Jl Kc;rw [c,q2];rfl
  ·have q3:below n l=false:=q3
   rw [q2];exact ⟨λ_=>bad (by unfold Kc;rw [q3,SY]),λh=>An⟩
 ·cases h)
def aJ2:List LV->T LV
 | [.v (.agg ⟨[.string nm,Y J at_,Y J ph,Y J mi,Y J ma,Y J st,Y J fb,Y J ow]⟩)]=> .ok (EM mi ma st)
 |_=> .no
def mE:List Bd:=[]
def arv (nm:ByteArray) (at_ ph mi ma st fb ow:Int):Bg prog AU (mE) kN Ak f213 [.v<|.agg #[.string nm,at_,ph,mi,ma,st,fb,ow]]=.br ((an<|mi<1) ||((an<|mi>ma) ||((an<|ma>80) ||((an<|st<1) ||(an<|st>80))))) (.ok (0:Int)) (.req (st≠0)<|.ok<|AA<|(AA<|(AA<|ma-mi).tdiv st)+2):=AT
def auo:=vo (S:=aJ2) func213 mE kN (λargs lv h=>by
 refine ⟨?_⟩;unfold aJ2 at h;split at h
 ·simp only [canL,canX]
  rw [arv];rename_i mi ma st _ _;obtain rfl:=h;refine ⟨λc=>Az (λz=>LV.v<|Y J z) ?_,λc=>⟨?_,Az (λz=>LV.v<|Y J z) ?_⟩⟩
  ·have:Dk mi ma st=false:=by
    rw [I2];intro h;have:=IA.1 h;simp at c;omega
   rw [aEa this]
  ·grind
  ·have hh:=IA.2 VL
   obtain ⟨h1,h2,h3,h4,h5⟩:=IA.1 hh
   have:=oR (x:=ma-mi) (st:=st) A0 A0
   rw [AJ (x:=ma-mi),I4 A0,AJ (x:=(ma-mi) / st),AJ]
   simp [EM,hh]
 ·cases h)
def aJi:List LV->T LV
 | [.v (.agg ⟨[.string nm,Y J at_,Y J ph,Y J mi,Y J ma,Y J st,Y J fb,Y J ow]⟩),.v (Y J k)]=> .req ((1<=mi/\mi<=80/\1<=st/\st<=80)/\0<=k/\k<=1000) (.ok<|Dx mi st k)
 |_=> .no
def asB (nm:ByteArray) (at_ ph mi ma st fb ow k:Int):Bg prog AU (mE) kN Ak f183 [.v<|.agg #[.string nm,at_,ph,mi,ma,st,fb,ow],k]=.br (k==0) (.ok (0:Int)) (.ok<|AA<|mi+(AA<|(AA<|k-1)*st)):=AT
def Wv:=vo (S:=aJi) func183 mE kN (λargs lv h=>by
 refine ⟨?_⟩;unfold aJi at h;split at h
 ·simp only [canL,canX]
  rw [asB];rename_i mi _ st _ _ k;obtain ⟨⟨⟨h1,h2,h3,h4⟩,h5,h6⟩,rfl⟩:=h;refine ⟨λc=>Az (λz=>LV.v<|Y J z) ?_,λc=>Az (λz=>LV.v<|Y J z) ?_⟩
  ·have c:k=0:=A8
   simp [Dx,c]
  ·have c:k≠0:=A8
   have:=ay5 (a:=k-1) (b:=st) A0 A0 A0 A0
   rw [AJ (x:=k-1),AJ (x:=(k-1)*st),AJ]
   simp [Dx,c]
 ·cases h)
def aJ6:List LV->T LV
 | [.v (.agg ⟨[.string nm,Y J at_,Y J ph,Y J mi,Y J ma,Y J st,Y J fb,Y J ow]⟩),.v (Y J a)]=> .req (a<=9223372036854775807) (.ok<|HB mi ma st a)
 |_=> .no
def aKV:List Bd:=[auo]
def arw (nm:ByteArray) (at_ ph mi ma st fb ow a:Int):letI b:=(AA<|(AA<|a-mi).tdiv st)+1;letI c:=EM mi ma st;Bg prog AU (aKV) kN Ak f181 [.v<|.agg #[.string nm,at_,ph,mi,ma,st,fb,ow],a]=.br ((c==0) ||(an<|a<0)) (.ok<|.v<|Y J (-1)) (.br (an<|a<mi) (.ok (0:Int))<|.req (st≠0)<|.ok<|.v<|Y J (if (AA b)<(AA<|c-1) then AA b else AA (c-1))):=AT
def Wt:=vo (S:=aJ6) func181 aKV kN (λargs lv h=>by
 refine ⟨?_⟩;unfold aJ6 at h;split at h
 ·simp only [canL,canX]
  rw [arw];rename_i mi ma st _ _ a;obtain ⟨ha,rfl⟩:=h
  have hb:=aQY (mi:=mi) (ma:=ma) (st:=st)
  refine ⟨λc=>Az (λz=>LV.v<|Y J z) ?_,λc=>⟨λc2=>Az (λz=>LV.v<|Y J z) ?_,λc2=>?_⟩⟩
  ·have c:Dk mi ma st=X\/a<0:=by
    simp at c
    rcases c with c|c
    ·left
     cases e:Dk mi ma st with
     |false=>rfl
     |true=>have:=qF e;omega
    ·exact .inr c
   simp only [HB,AD c]
  all_goals
   simp at c c2
   have hh:Dk mi ma st=true:=by
    cases e:Dk mi ma st with
    |true=>rfl
    |false=>exact absurd (aEa e) c.1
   have hn:¬(Dk mi ma st=X\/a<0):=A8
   have:=IA.1 hh
  ·simp only [HB,AE hn,AD c2]
  ·have:=oR (x:=a-mi) (st:=st) A0 A0
   refine ⟨A0,Az (λz=>LV.v<|Y J z) ?_⟩
   rw [AJ (x:=a-mi),I4 A0,AJ (x:=(a-mi) / st),AJ (x:=(a-mi) / st+1),AJ (x:=EM mi ma st-1)];simp only [HB,AE hn,AE (show ¬a<mi by omega)]
   omega
 ·cases h)
def aDi:List LV->T LV
 | [.v (.string w)]=> .ok (isIn iI w)
 |_=> .no
def Uw:List Bd:=[]
def aEb:=vo (S:=aDi) func205 Uw kN (λargs lv h=>by
 unfold aDi at h;split at h
 ·rename_i w
  refine Ap (.br (w.toList==(av #[108,105,109,105,116]).toList) (.ok U)<|.br (w.toList==(av #[110,101,117,116,114,97,108]).toList) (.ok U)<|.br (w.toList==(av #[102,117,115,101]).toList) (.ok U)<|.br (w.toList==(av #[116,104,101,114,109,97,108]).toList) (.ok U)<|.br (w.toList==(av #[102,114,111,109]).toList) (.ok U)<|.br (w.toList==(av #[97,116]).toList) (.ok U)<|.br (w.toList==(av #[112,104,97,115,101,115]).toList) (.ok U)<|.br (w.toList==(av #[97,109,112,115]).toList) (.ok U)<|.br (w.toList==(av #[102,97,108,108,98,97,99,107]).toList) (.ok U)<|.br (w.toList==(av #[111,119,110,101,114]).toList) (.ok U)<|.br (w.toList==(av #[99,97,114,100]).toList) (.ok U)<|.br (w.toList==(av #[114,97,110,107]).toList) (.ok U)<|.br (w.toList==(av #[99,104,97,114,103,101,114]).toList) (.ok U)<|.ok X) ?_;obtain rfl:=h;simp only [Ww];unfold isIn iI;simp only [ZH,kg];refine ⟨λc0=>yC,λc0=>?_⟩
  rw [c0,D2];refine ⟨λc1=>yD,λc1=>?_⟩
  rw [c1,D2];refine ⟨λc2=>yE,λc2=>?_⟩
  rw [c2,D2];refine ⟨λc3=>yF,λc3=>?_⟩
  rw [c3,D2];refine ⟨λc4=>yG,λc4=>?_⟩
  rw [c4,D2];refine ⟨λc5=>yH,λc5=>?_⟩
  rw [c5,D2];refine ⟨λc6=>by simp [c6,T.all],λc6=>?_⟩
  rw [c6,D2];refine ⟨λc7=>by simp [c7,T.all],λc7=>?_⟩
  rw [c7,D2];refine ⟨λc8=>by simp [c8,T.all],λc8=>?_⟩
  rw [c8,D2];refine ⟨λc9=>by simp [c9,T.all],λc9=>?_⟩
  rw [c9,D2];refine ⟨λc10=>by simp [c10,T.all],λc10=>?_⟩
  rw [c10,D2];refine ⟨λc11=>by simp [c11,T.all],λc11=>?_⟩
  rw [c11,D2];refine ⟨λc12=>by simp [c12,T.all],λc12=>?_⟩
  rw [c12,D2];rfl
 ·cases h)
def aFh:List LV->T LV
 | [.v (.string w)]=> .ok (isIn oQ w)
 |_=> .no
def aGL:=vo (S:=aFh) func206 Uw kN (λargs lv h=>by
 unfold aFh at h;split at h
 ·rename_i w
  refine Ap (.br (w.toList==(av #[115,116,97,114,116]).toList) (.ok U)<|.br (w.toList==(av #[101,110,101,114,103,121]).toList) (.ok U)<|.br (w.toList==(av #[116,105,109,101]).toList) (.ok U)<|.br (w.toList==(av #[105,100,108,101]).toList) (.ok U)<|.br (w.toList==(av #[99,97,112]).toList) (.ok U)<|.br (w.toList==(av #[116,97,120]).toList) (.ok U)<|.ok X) ?_;obtain rfl:=h;simp only [Ww];unfold isIn oQ;simp only [ZH,kg];refine ⟨λc0=>yC,λc0=>?_⟩
  rw [c0,D2];refine ⟨λc1=>yD,λc1=>?_⟩
  rw [c1,D2];refine ⟨λc2=>yE,λc2=>?_⟩
  rw [c2,D2];refine ⟨λc3=>yF,λc3=>?_⟩
  rw [c3,D2];refine ⟨λc4=>yG,λc4=>?_⟩
  rw [c4,D2];refine ⟨λc5=>yH,λc5=>?_⟩
  rw [c5,D2];rfl
 ·cases h)
def aFf:List LV->T LV
 | [.v (.string w)]=> .ok (isIn words w)
 |_=> .no
def aGK:=vo (S:=aFf) func221 Uw kN (λargs lv h=>by
 unfold aFf at h;split at h
 ·rename_i w
  refine Ap (.br (w.toList==(av #[111,110]).toList) (.ok U)<|.br (w.toList==(av #[119,111,114,107]).toList) (.ok U)<|.br (w.toList==(av #[115,97,116,117,114,100,97,121]).toList) (.ok U)<|.br (w.toList==(av #[115,117,110,100,97,121]).toList) (.ok U)<|.br (w.toList==(av #[98,101,116,119,101,101,110]).toList) (.ok U)<|.br (w.toList==(av #[112,101,114]).toList) (.ok U)<|.br (w.toList==(av #[102,114,101,101]).toList) (.ok U)<|.ok X) ?_;obtain rfl:=h;simp only [Ww];unfold isIn words;simp only [ZH,kg];refine ⟨λc0=>yC,λc0=>?_⟩
  rw [c0,D2];refine ⟨λc1=>yD,λc1=>?_⟩
  rw [c1,D2];refine ⟨λc2=>yE,λc2=>?_⟩
  rw [c2,D2];refine ⟨λc3=>yF,λc3=>?_⟩
  rw [c3,D2];refine ⟨λc4=>yG,λc4=>?_⟩
  rw [c4,D2];refine ⟨λc5=>yH,λc5=>?_⟩
  rw [c5,D2];refine ⟨λc6=>by simp [c6,T.all],λc6=>?_⟩
  rw [c6,D2];rfl
 ·cases h)
def aI3:List LV->T LV
 | [.v (.string w)]=> .ok (Ur 1 kinds w)
 |_=> .no
def auq:=vo (S:=aI3) func220 Uw kN (λargs lv h=>by
 unfold aI3 at h;split at h
 ·rename_i w
  refine Ap (.br (w.toList==(av #[102,101,101,100,101,114]).toList) (.ok (1:Int))<|.br (w.toList==(av #[99,97,98,108,101]).toList) (.ok (2:Int))<|.br (w.toList==(av #[111,119,110,101,114]).toList) (.ok (3:Int))<|.br (w.toList==(av #[99,111,110,116,114,97,99,116]).toList) (.ok (4:Int))<|.br (w.toList==(av #[99,104,97,114,103,101,114]).toList) (.ok (5:Int))<|.br (w.toList==(av #[98,97,121]).toList) (.ok (6:Int))<|.br (w.toList==(av #[116,97,114,105,102,102]).toList) (.ok (7:Int))<|.ok (0:Int)) ?_;obtain rfl:=h;simp only [Ww];simp only [Ur,kinds];refine ⟨λc0=>by rw [AD c0];rfl,λc0=>?_⟩
  rw [AE<|by simp [c0]]
  refine ⟨λc1=>by rw [AD c1];rfl,λc1=>?_⟩
  rw [AE<|by simp [c1]]
  refine ⟨λc2=>by rw [AD c2];rfl,λc2=>?_⟩
  rw [AE<|by simp [c2]]
  refine ⟨λc3=>by rw [AD c3];rfl,λc3=>?_⟩
  rw [AE<|by simp [c3]]
  refine ⟨λc4=>by rw [AD c4];rfl,λc4=>?_⟩
  rw [AE<|by simp [c4]]
  refine ⟨λc5=>by rw [AD c5];rfl,λc5=>?_⟩
  rw [AE A8];refine ⟨λc6=>by rw [AD c6];rfl,λc6=>?_⟩
  rw [AE A8];rfl
 ·cases h)
def aFg:List LV->T LV
 | [.v (.string w)]=> .ok (aBe w)
 |_=> .no
def an0:List Bd:=[aEb,aGL,auq,aGK]
def aow:=vo (S:=aFg) func204 an0 kN (λargs lv h=>by
 unfold aFg at h;split at h
 ·rename_i w
  refine Ap (.ok<|.v<|.bool (((Ur 1 kinds w) !=0) ||((isIn iI w) ||((isIn oQ w) ||(isIn words w))))) ?_;obtain rfl:=h;rw [aFA 1 kinds _ Ae];rfl
 ·cases h)
structure Lt where
 text:ByteArray
 r:Bool
 i:Int
def aJF:=bN f203 0
def m9 (s:Lt):T (Rd Lt):=letI a:=Jn s.text s.i;.br (an<|s.i<(s.text.size:Int)) (.req (0<=s.i/\s.i<(s.text.size:Int))<|.br (if an (a>=97) then !(an<|a<=122)&&(if an (a>=48) then !(an<|a<=57)&&(!(a==95)) else !(a==95)) else if an (a>=48) then !(an<|a<=57)&&(!(a==95)) else !(a==95)) (.so (.ret) {s with r:=X})<|.nx {s with i:=AA<|s.i+1})<|.so (.exit 0) s
def O9 (s:Lt) (j:Int):Bool:=an (j<1) ||(chB<|Jn s.text j)
def mS (s:Lt):Prop:=s.i=1/\1<=(s.text.size:Int)/\(s.text.size:Int)<=1000/\True
def bH (s:Lt):Prop:=1<=s.i/\s.i<=(s.text.size:Int)/\(s.text.size:Int)<=1000/\(True)/\∀j:Nat,(j:Int)<s.i->O9 s j=U
def zl (s:Lt):Nat:=((s.text.size:Int)-s.i).toNat
def wR (x:Ex) (s s':Lt):Prop:=(x=.exit 0/\∀j:Nat,(j:Int)<(s'.text.size:Int)->O9 s' j=U)\/(x=.ret/\s'.r=X/\∃j:Nat,(j:Int)<(s'.text.size:Int)/\O9 s' j=X)
def amw:∀s,mS s->bH s:=by
 rintro s ⟨h0,h1,h2,h3⟩
 exact ⟨A0,A0,h2,h3,λj hj=>by unfold O9;rw [Cq A0];rfl⟩
theorem akR:Da bH zl wR m9:=by
 intro s hI;unfold m9;obtain ⟨h0,h1,h2,h3,h4⟩:=hI;refine AH (λc1=>AH (λc2=>?_) λc2=>?_) λc1=>?_
 ·have c1:s.i<(s.text.size:Int):=AX
  refine .inr ⟨rfl,rfl,s.i.toNat,AZ,?_⟩;rw [CL A0]
  have hg:O9 s s.i=false:=aMB
  exact hg
 ·have c1:s.i<(s.text.size:Int):=AX
  have hg:O9 s s.i=true:=aMB
  rw [AJ (x:=s.i+1)];refine ⟨⟨AZ,AZ,h2,h3,λj hj=>?_⟩,by simp only [zl];omega⟩
  by_cases hji:(j:Int)<s.i
  ·exact h4 j hji
  ·have:(j:Int)=s.i:=A8
   rw [this];exact hg
 ·have c1:(s.text.size:Int)<=s.i:=AX
  exact ZV
def SC:AS Lt:=⟨0,51,[0,2,3],[],λs=>[.v<|.string s.text,s.r,s.i],λ_=>[],λv b=>⟨gSr<|v.getD 0 .junk,EO v 1,AK v 2⟩,m9,λs r=> {r with text:=s.text},λs=>s,λ_ s=>s,[.ret,.exit 0],mS,bH,zl⟩
abbrev fJ:=SC.run
abbrev aRr:=SC.At
def ak3:Rq bH m9:=by
 exact SZ
def aaJ:SC.Ok:={}
def aae:SC.Pf (wR):=⟨amw,λs h=>rfl,akR,ak3⟩
def awh:SA 0 aJF SC:=s1 aaJ aae Uw kN
def az9:Fi mS bH wR aRr fJ:=AS.fin aaJ aae
def aFO:List LV->T LV
 | [.v (.string w)]=> .ok (gwB w)
 |_=> .no
def aoy:=vm (S:=aFO) func203 Uw kN (L:=(λi=>if i=4 then SC.lp else Ak i)) (λb hb=>by
 rw [show BB _=[aJF] by kernel_rfl] at hb
 simp only [B7,Bu,Bt] at hb;subst hb;exact awh) (λargs lv h=>by
 unfold aFO at h;split at h
 ·rename_i w
  refine Ap (letI a:=(w.size:Int);.br (an<|a<1) (.ok X)<|.br (an<|a>12) (.ok X)<|.req (0<=(0:Int)/\(0:Int)<a)<|.br (an<|(Jn w (0:Int))<97) (.ok X)<|.req (0<=(0:Int)/\(0:Int)<a)<|.br (an<|(Jn w (0:Int))>122) (.ok X)<|.req (SC.q (⟨w,X,1⟩:Lt))<|.br (Bj (aRr (⟨w,X,1⟩:Lt))<|.ret) (.ok (fJ (⟨w,X,1⟩:Lt)).r)<|.ok U) ?_;obtain rfl:=h
  have bad:¬(((1<=w.size/\w.size<=12)/\(97<=Jn w 0/\Jn w 0<=122)))->LV.v (.bool X)=LV.v (.bool<|gwB w):=λhn=>Az (λz=>LV.v<|.bool z) (by
   rw [Sd,I2];intro h;simp only [gwB,chA,AY,Aa] at h;exact hn ⟨h.1,A0,A0⟩)
  refine ⟨λc=>bad VL,λc=>⟨λc2=>bad A8,λc2=>⟨VL,λc3=>bad lM,λc3=>⟨VL,λc4=>bad yN,λc4=>?_⟩⟩⟩⟩
  simp only [D3] at c c2 c3 c4
  have hE:mS ⟨w,X,1⟩:=⟨rfl,AZ,AZ,ak⟩
  have key:gwB w=(au w.size).all λi=>i==0 ||chB (Jn w i):=by
   simp only [gwB,chA];rw [Cq A0,Cq A0,Cq A0];rfl
  obtain ⟨s',_,hq⟩:=az9 _ hE;refine ⟨⟨hE,rfl,rfl⟩,?_⟩;rw [key];rcases hq with ⟨h1,h2⟩ |⟨h1,h2,j,h3,h4⟩
  ·rw [h1]
   refine ⟨λh=>An,λ_=>Az (λz=>LV.v<|.bool z) ?_⟩
   rw [Sd,BH];intro i hi
   have:=h2 i (by show (i:Int)<(w.size:Int);have:=IZ.1 hi;omega)
   simp only [O9] at this;rw [show (fJ ⟨w,X,1⟩).text=w from rfl] at this;rw [Cl] at this;rcases this with h|h
   ·have:i=0:=by simp at h;omega
    simp [this]
   ·rw [h];simp
  ·rw [h1,h2]
   refine ⟨λ_=>Az (λz=>LV.v<|.bool z) ?_,λh=>An⟩
   rw [Sd,I2];intro hx;rw [BH] at hx
   have h3:(j:Int)<(w.size:Int):=h3
   have:=hx j<|IZ.2 A0
   simp only [O9] at h4;rw [show (fJ ⟨w,X,1⟩).text=w from rfl] at h4;rw [GH] at h4
   have h5:=h4.1
   simp at h5
   rw [h4.2] at this
   simp at this
   omega
 ·cases h)
def aFP:List LV->T LV
 | [.v (.string w)]=> .ok (nameB w)
 |_=> .no
def amz:List Bd:=[aoy,aow]
def aoz:=vo (S:=aFP) func164 amz kN (λargs lv h=>by
 unfold aFP at h;split at h
 ·rename_i w
  refine Ap (.ok<|.v<|.bool<|(gwB w)&&(!(aBe w))) ?_;exact h
 ·cases h)
def aI6:List LV->T LV
 | [.v (.string w)]=> .ok (nameB w)
 |_=> .no
def wF:List Bd:=[aoz,aEb,aGL,aGK]
def amv:Aw:=kI wF<|l0 wF
def aur:=vo (S:=aI6) func59 wF amv (λargs lv h=>by
 unfold aI6 at h;split at h
 ·rename_i w
  refine Ap (.br (((1:Int) !=1) ||((!(ByteArray.empty.toList==(av #[]).toList)) ||((0:Int) !=0))) (.ok X)<|.br (((2:Int) !=2) ||((an<|(3:Int)<1) ||((an<|(3:Int)>7) ||(!(nameB w))))) (.br (!X) (.ok X)<|.ok U)<|.br (!U) (.ok X)<|.ok U) ?_;obtain rfl:=h;refine ⟨λc=>?_,λ_=>?_⟩
  ·exfalso
   rw [Ww] at c
   revert c
   decide
  ·cases nameB w<;>simp [T.all]
 ·cases h)
def aFN:List LV->T LV
 | [.v (.agg ⟨[Y J a,Y J b]⟩),.v (Y J n)]=> .ok (inB n a b)
 |_=> .no
def wE:List Bd:=[]
def q9:=vo (S:=aFN) func82 wE kN (λargs lv h=>by
 unfold aFN at h;split at h
 ·rename_i a b n
  refine Ap (.ok<|.v<|.bool<|(an<|n>=a)&&(an<|n<=b)) ?_;exact h
 ·cases h)
def aI7:List LV->T LV
 | [.v (.agg ⟨[Y J am,Y J mo,Y J ga,Y J lo,Y J de]⟩)]=> .ok (an<|mo>am)
 |_=> .no
def aus:=vo (S:=aI7) func120 wE kN (λargs lv h=>by
 unfold aI7 at h;split at h
 ·rename_i am mo ga lo de
  refine Ap (.ok<|an<|mo>am) ?_;exact h
 ·cases h)
def aI8:List LV->T LV
 | [.v (.agg ⟨[.string nm,Y J at_,Y J ph,Y J mi,Y J ma,Y J st,Y J fb,Y J ow]⟩)]=> .ok (.v<|.bool<|an (mi<=ma)&&((fb==0) ||inB fb mi ma))
 |_=> .no
def aut:=vo (S:=aI8) func121 wE kN (λargs lv h=>by
 unfold aI8 at h;split at h
 ·rename_i nm at_ ph mi ma st fb ow
  refine Ap (.ok<|.v<|.bool<|(an<|mi<=ma)&&((fb==0) ||((an<|fb>=mi)&&(an<|fb<=ma)))) ?_;exact h
 ·cases h)
def aJQ:List LV->T LV
 | [.v (.agg ⟨[.string nm,Y J up_,Y J li,Y J ne,Y J ra,Y J he,Y J am,Y J mo,Y J ga,Y J lo,Y J de]⟩),.v (Y J i)]=> .req (0<=i) (.ok<|Hp i (nm,up_,li,ne,(ra,he),am,mo,ga,lo,de))
 |_=> .no
def amy:List Bd:=[q9,aus]
def aug:=vo (S:=aJQ) func81 amy kN (λargs lv h=>by
 unfold aJQ at h;split at h
 ·rename_i nm up_ li ne ra he am mo ga lo de i
  refine Ap (.br (if i==0 then (up_ !=(-1)) ||((an<|i>0)&&((an<|up_<0) ||(an<|up_>=i))) else (an<|i>0)&&((an<|up_<0) ||(an<|up_>=i))) (.ok X)<|.br ((!(inB li (1:Int) (1000:Int))) ||(!(inB ne (1:Int) (1000:Int)))) (.ok X)<|.br ((!((ra==0)&&(he==0)))&&(!(inB ra (1:Int) (1000:Int)) ||(!(inB he (0:Int) (1000000:Int))))) (.ok X)<|.br ((am==0)&&((mo==0)&&((ga==0)&&((lo==0)&&(de==0))))) (.ok U)<|.ok<|.v<|.bool<|(inB am (0:Int) (200000:Int))&&((inB mo (0:Int) (200000:Int))&&((inB ga (0:Int) (1000:Int))&&((inB lo (0:Int) (1000:Int))&&((inB de (1:Int) (1000000:Int))&&(an<|mo>am)))))) ?_
  obtain ⟨hi,h⟩:=h;exact ahI (K:=λz=>LV.v (.bool z)=lv) hi h
 ·cases h)
def aJR:List LV->T LV
 | .agg a::r=>s5 a λcs os ks gs bs=>(match r with
  | [.v (.agg ⟨[.string nm,Y J at_,Y J ph,Y J mi,Y J ma,Y J st,Y J fb,Y J ow]⟩)]=> .req ((M cs:Int)<=1000/\(M os:Int)<=1000) (.ok<|Gl (M cs) (M os) (nm,at_,ph,mi,ma,st,fb,ow))
  |_=> .no)
 |_=> .no
def am9:List Bd:=[q9,aut]
def auh:=vo (S:=aJR) func83 am9 kN (λargs lv h=>by
 unfold aJR at h;split at h
 case h_2=>cases h
 replace h:=IC h
 obtain ⟨cs,os,ks,gs,bs,rfl,h⟩:=h;split at h
 ·rename_i nm at_ ph mi ma st fb ow
  refine Ap (.ok<|.v<|.bool<|(inB at_ (0:Int)<|AA<|(M cs:Int)-1)&&((inB ow (0:Int)<|AA<|(M os:Int)-1)&&((inB ph (1:Int) (7:Int))&&((inB mi (1:Int) (80:Int))&&((inB ma (1:Int) (80:Int))&&((inB st (1:Int) (80:Int))&&((inB fb (0:Int) (80:Int))&&(an (mi<=ma)&&((fb==0) ||inB fb mi ma))))))))) ?_;obtain ⟨⟨h1,h2⟩,rfl⟩:=h;refine Az (λz=>LV.v<|.bool z) ?_
  rw [AJ (x:=(M cs:Int)-1),AJ (x:=(M os:Int)-1)];unfold Gl chW;rw [IY];simp only [AY,Cl,CM,Aa,DJ];omega
 ·cases h)
structure NL where
 l:List Cd
 (n i:Int)
 B9:List Cd
 BW:List ByteArray
 C0:List Ko
 BM:List Ch
 C1:List Ba
 out:List ByteArray
def aFl:=bN f58 0
def vb (s:NL):T (Rd NL):=letI a:=Ac s.l s.i;.br (an<|s.i<s.n) (.ix s.i (M s.l)<|.rb (M s.out) (M<|[a.1]) 16<|.re (M s.out+M ([a.1])) (s.out++([a.1]))<|.nx {s with i:=AA<|s.i+1,out:=s.out++([a.1])})<|.rl s.out<|.so (.exit 0) s
def Yt (s:NL):Prop:=s.i=0/\s.n=(M s.l:Int)/\s.n<=1000/\(M s.out:Int)<=10000
def Xr (s:NL):Prop:=0<=s.i/\s.i<=s.n/\s.n=(M s.l:Int)/\s.n<=1000/\(M s.out:Int)<=10000+s.i
def su (s:NL):Nat:=(s.n-s.i).toNat
def aAS (x:Ex) (s s':NL):Prop:=x=.exit 0/\s'.i=s'.n
def ajX:∀s,Yt s->Xr s:=by
 exact ZS
theorem ayu:Da Xr su aAS vb:=by
 intro s hI;obtain ⟨h0,h1,h2,h3,h4⟩:=hI;refine AH (λc1=>?_) λc1=>?_
 ·have c1:s.i<s.n:=A8
  rw [AJ (x:=s.i+1)];exact ⟨⟨A8,A8,h2,h3,A8⟩,by simp only [su];omega⟩
 ·exact Sc
def RR:AS NL:=⟨0,80,[1,3,15,16,17],[.nl 3 9 .str],λs=>[.own 0 0,.os 1 1 0<|M s.out,s.l,s.n,s.i],λs=>[⟨[s.B9,s.BW,s.C0,s.BM,s.C1],28,.cl,X⟩,bV 9 .str s.out],λv b=>⟨B5 Ad v 2,AK v 3,AK v 4,AF Ad b 0 0,AF .str b 0 1,AF Ah b 0 2,AF Af b 0 3,AF Ai b 0 4,Ab .str b 1⟩,vb,λs r=> {s with i:=r.i,out:=r.out},λs=>s,λ_ s=>s,[.exit 0],Yt,Xr,su⟩
abbrev VW:=RR.run
abbrev atQ:=RR.At
def awE:Rq Xr vb:=by
 exact Zc
def Tv:List Bd:=[]
def qx:RR.Ok:={}
def rS:RR.Pf (aAS):=⟨ajX,λs h=>rfl,ayu,awE⟩
def apd:SA 0 aFl RR:=s1 qx rS Tv kN
def ari:Fi Yt Xr aAS atQ VW:=AS.fin qx rS
theorem arh (s:NL) (hE:Yt s):(VW s).out=s.out++s.l.map (·.1):=by
 have hk:=AS.KJ qx rS (λs=>s.out++(s.l.drop s.i.toNat).map (·.1)) (λs hI=>by
  obtain ⟨h0,h1,h2,h3,h4⟩:=hI;refine AH (λc1=>?_) λc1=>?_
  ·have c1:s.i<s.n:=A8
   rw [AJ (x:=s.i+1)]
   show _++_=_++_
   rw [(aoH h0 (show s.i<M s.l by omega)).1]
   simp
  ·rfl) s hE
 obtain ⟨s',hI,q1,q2⟩:=ari s hE
 have q3:=q2
 have hn:(VW s).n=(M s.l:Int):=hE.2.1
 have hl:(VW s).l=s.l:=rfl
 exact Ze
structure NK where
 l:List ByteArray
 (n i:Int)
 B9:List Cd
 BW:List ByteArray
 C0:List Ko
 BM:List Ch
 C1:List Ba
 out:List ByteArray
def aFk:=bN f58 1
def va (s:NK):T (Rd NK):=letI a:=gS s.l s.i;.br (an<|s.i<s.n) (.ix s.i (M s.l)<|.rb (M s.out) (M<|[a]) 16<|.re (M s.out+M ([a])) (s.out++([a]))<|.nx {s with i:=AA<|s.i+1,out:=s.out++([a])})<|.rl s.out<|.so (.exit 2) s
def Ys (s:NK):Prop:=s.i=0/\s.n=(M s.l:Int)/\s.n<=1000/\(M s.out:Int)<=10000
def Xq (s:NK):Prop:=0<=s.i/\s.i<=s.n/\s.n=(M s.l:Int)/\s.n<=1000/\(M s.out:Int)<=10000+s.i
def ss (s:NK):Nat:=(s.n-s.i).toNat
def aAR (x:Ex) (s s':NK):Prop:=x=.exit 2/\s'.i=s'.n
def ajW:∀s,Ys s->Xq s:=by
 exact ZS
theorem ayt:Da Xq ss aAR va:=by
 intro s hI;obtain ⟨h0,h1,h2,h3,h4⟩:=hI;refine AH (λc1=>?_) λc1=>?_
 ·have c1:s.i<s.n:=A8
  rw [AJ (x:=s.i+1)];exact ⟨⟨A8,A8,h2,h3,A8⟩,by simp only [ss];omega⟩
 ·exact Sc
def RM:AS NK:=⟨0,80,[1,3,28,29,30],[],λs=>[.own 0 0,.os 1 1 0<|M s.out,s.l,s.n,s.i],λs=>[⟨[s.B9,s.BW,s.C0,s.BM,s.C1],28,.cl,X⟩,bV 9 .str s.out],λv b=>⟨B5 .str v 2,AK v 3,AK v 4,AF Ad b 0 0,AF .str b 0 1,AF Ah b 0 2,AF Af b 0 3,AF Ai b 0 4,Ab .str b 1⟩,va,λs r=> {s with i:=r.i,out:=r.out},λs=>s,λ_ s=>s,[.exit 2],Ys,Xq,ss⟩
abbrev VX:=RM.run
abbrev atP:=RM.At
def awD:Rq Xq va:=by
 exact Zc
def qv:RM.Ok:={}
def rR:RM.Pf (aAR):=⟨ajW,λs h=>rfl,ayt,awD⟩
def apc:SA 0 aFk RM:=s1 qv rR Tv kN
def arf:Fi Ys Xq aAR atP VX:=AS.fin qv rR
theorem ard (s:NK) (hE:Ys s):(VX s).out=s.out++s.l:=by
 have hk:=AS.KJ qv rR (λs=>s.out++(s.l.drop s.i.toNat)) (λs hI=>by
  obtain ⟨h0,h1,h2,h3,h4⟩:=hI;refine AH (λc1=>?_) λc1=>?_
  ·have c1:s.i<s.n:=A8
   rw [AJ (x:=s.i+1)]
   show _++_=_++_
   rw [(aI0 h0 (show s.i<M s.l by omega)).1]
   simp
  ·rfl) s hE
 obtain ⟨s',hI,q1,q2⟩:=arf s hE
 have q3:=q2
 have hn:(VX s).n=(M s.l:Int):=hE.2.1
 have hl:(VX s).l=s.l:=rfl
 exact Ze
structure NR where
 l:List Ko
 (n i:Int)
 B9:List Cd
 BW:List ByteArray
 C0:List Ko
 BM:List Ch
 C1:List Ba
 out:List ByteArray
def aFj:=bN f58 2
def vZ (s:NR):T (Rd NR):=letI a:=OA s.l s.i;.br (an<|s.i<s.n) (.ix s.i (M s.l)<|.rb (M s.out) (M<|[a.1]) 16<|.re (M s.out+M ([a.1])) (s.out++([a.1]))<|.nx {s with i:=AA<|s.i+1,out:=s.out++([a.1])})<|.rl s.out<|.so (.exit 4) s
def Yr (s:NR):Prop:=s.i=0/\s.n=(M s.l:Int)/\s.n<=1000/\(M s.out:Int)<=10000
def Xp (s:NR):Prop:=0<=s.i/\s.i<=s.n/\s.n=(M s.l:Int)/\s.n<=1000/\(M s.out:Int)<=10000+s.i
def sq (s:NR):Nat:=(s.n-s.i).toNat
def aAQ (x:Ex) (s s':NR):Prop:=x=.exit 4/\s'.i=s'.n
def ajV:∀s,Yr s->Xp s:=by
 exact ZS
theorem ays:Da Xp sq aAQ vZ:=by
 intro s hI;obtain ⟨h0,h1,h2,h3,h4⟩:=hI;refine AH (λc1=>?_) λc1=>?_
 ·have c1:s.i<s.n:=A8
  rw [AJ (x:=s.i+1)];exact ⟨⟨A8,A8,h2,h3,A8⟩,by simp only [sq];omega⟩
 ·exact Sc
def RK:AS NR:=⟨0,80,[1,3,41,42,43],[],λs=>[.own 0 0,.os 1 1 0<|M s.out,s.l,s.n,s.i],λs=>[⟨[s.B9,s.BW,s.C0,s.BM,s.C1],28,.cl,X⟩,bV 9 .str s.out],λv b=>⟨B5 Ah v 2,AK v 3,AK v 4,AF Ad b 0 0,AF .str b 0 1,AF Ah b 0 2,AF Af b 0 3,AF Ai b 0 4,Ab .str b 1⟩,vZ,λs r=> {s with i:=r.i,out:=r.out},λs=>s,λ_ s=>s,[.exit 4],Yr,Xp,sq⟩
abbrev Va:=RK.run
abbrev atO:=RK.At
def awC:Rq Xp vZ:=by
 exact Zc
def qu:RK.Ok:={}
def rP:RK.Pf (aAQ):=⟨ajV,λs h=>rfl,ays,awC⟩
def apb:SA 0 aFj RK:=s1 qu rP Tv kN
def arb:Fi Yr Xp aAQ atO Va:=AS.fin qu rP
theorem aqP (s:NR) (hE:Yr s):(Va s).out=s.out++s.l.map (·.1):=by
 have hk:=AS.KJ qu rP (λs=>s.out++(s.l.drop s.i.toNat).map (·.1)) (λs hI=>by
  obtain ⟨h0,h1,h2,h3,h4⟩:=hI;refine AH (λc1=>?_) λc1=>?_
  ·have c1:s.i<s.n:=A8
   rw [AJ (x:=s.i+1)]
   show _++_=_++_
   rw [(aFE h0 (show s.i<M s.l by omega)).1]
   simp
  ·rfl) s hE
 obtain ⟨s',hI,q1,q2⟩:=arb s hE
 have q3:=q2
 have hn:(Va s).n=(M s.l:Int):=hE.2.1
 have hl:(Va s).l=s.l:=rfl
 exact Ze
structure NS where
 l:List Ch
 (n i:Int)
 B9:List Cd
 BW:List ByteArray
 C0:List Ko
 BM:List Ch
 C1:List Ba
 out:List ByteArray
def aEs:=bN f58 3
def vY (s:NS):T (Rd NS):=letI a:=AG s.l s.i;.br (an<|s.i<s.n) (.ix s.i (M s.l)<|.rb (M s.out) (M<|[a.1]) 16<|.re (M s.out+M ([a.1])) (s.out++([a.1]))<|.nx {s with i:=AA<|s.i+1,out:=s.out++([a.1])})<|.rl s.out<|.so (.exit 6) s
def Yq (s:NS):Prop:=s.i=0/\s.n=(M s.l:Int)/\s.n<=1000/\(M s.out:Int)<=10000
def Xo (s:NS):Prop:=0<=s.i/\s.i<=s.n/\s.n=(M s.l:Int)/\s.n<=1000/\(M s.out:Int)<=10000+s.i
def sj (s:NS):Nat:=(s.n-s.i).toNat
def aAP (x:Ex) (s s':NS):Prop:=x=.exit 6/\s'.i=s'.n
def ajU:∀s,Yq s->Xo s:=by
 exact ZS
theorem ayr:Da Xo sj aAP vY:=by
 intro s hI;obtain ⟨h0,h1,h2,h3,h4⟩:=hI;refine AH (λc1=>?_) λc1=>?_
 ·have c1:s.i<s.n:=A8
  rw [AJ (x:=s.i+1)];exact ⟨⟨A8,A8,h2,h3,A8⟩,by simp only [sj];omega⟩
 ·exact Sc
def RJ:AS NS:=⟨0,80,[1,3,54,55,56],[],λs=>[.own 0 0,.os 1 1 0<|M s.out,s.l,s.n,s.i],λs=>[⟨[s.B9,s.BW,s.C0,s.BM,s.C1],28,.cl,X⟩,bV 9 .str s.out],λv b=>⟨B5 Af v 2,AK v 3,AK v 4,AF Ad b 0 0,AF .str b 0 1,AF Ah b 0 2,AF Af b 0 3,AF Ai b 0 4,Ab .str b 1⟩,vY,λs r=> {s with i:=r.i,out:=r.out},λs=>s,λ_ s=>s,[.exit 6],Yq,Xo,sj⟩
abbrev Vi:=RJ.run
abbrev atN:=RJ.At
def aw9:Rq Xo vY:=by
 exact Zc
def qt:RJ.Ok:={}
def rN:RJ.Pf (aAP):=⟨ajU,λs h=>rfl,ayr,aw9⟩
def apa:SA 0 aEs RJ:=s1 qt rN Tv kN
def aqO:Fi Yq Xo aAP atN Vi:=AS.fin qt rN
theorem aqN (s:NS) (hE:Yq s):(Vi s).out=s.out++s.l.map (·.1):=by
 have hk:=AS.KJ qt rN (λs=>s.out++(s.l.drop s.i.toNat).map (·.1)) (λs hI=>by
  obtain ⟨h0,h1,h2,h3,h4⟩:=hI;refine AH (λc1=>?_) λc1=>?_
  ·have c1:s.i<s.n:=A8
   rw [AJ (x:=s.i+1)]
   show _++_=_++_
   rw [(aoG h0 (show s.i<M s.l by omega)).1]
   simp
  ·rfl) s hE
 obtain ⟨s',hI,q1,q2⟩:=aqO s hE
 have q3:=q2
 have hn:(Vi s).n=(M s.l:Int):=hE.2.1
 have hl:(Vi s).l=s.l:=rfl
 exact Ze
structure NZ where
 l:List Ba
 (n i:Int)
 out:List ByteArray
def aEr:=bN f58 4
def vX (s:NZ):T (Rd NZ):=letI a:=OF s.l s.i;.br (an<|s.i<s.n) (.ix s.i (M s.l)<|.rb (M s.out) (M<|[a.1]) 16<|.re (M s.out+M ([a.1])) (s.out++([a.1]))<|.nx {s with i:=AA<|s.i+1,out:=s.out++([a.1])})<|.rl s.out<|.so (.exit 8) s
def Yp (s:NZ):Prop:=s.i=0/\s.n=(M s.l:Int)/\s.n<=1000/\(M s.out:Int)<=10000
def Xn (s:NZ):Prop:=0<=s.i/\s.i<=s.n/\s.n=(M s.l:Int)/\s.n<=1000/\(M s.out:Int)<=10000+s.i
def sh (s:NZ):Nat:=(s.n-s.i).toNat
def aAO (x:Ex) (s s':NZ):Prop:=x=.exit 8/\s'.i=s'.n
def ajT:∀s,Yp s->Xn s:=by
 exact ZS
theorem ayq:Da Xn sh aAO vX:=by
 intro s hI;obtain ⟨h0,h1,h2,h3,h4⟩:=hI;refine AH (λc1=>?_) λc1=>?_
 ·have c1:s.i<s.n:=A8
  rw [AJ (x:=s.i+1)];exact ⟨⟨A8,A8,h2,h3,A8⟩,by simp only [sh];omega⟩
 ·exact Sc
def RI:AS NZ:=⟨0,80,[3,67,68,69],[],λs=>[.os 0 1 0<|M s.out,s.l,s.n,s.i],λs=>[bV 9 .str s.out],λv b=>⟨B5 Ai v 1,AK v 2,AK v 3,Ab .str b 0⟩,vX,λs r=> {r with l:=s.l,n:=s.n},λs=>s,λ_ s=>s,[.exit 8],Yp,Xn,sh⟩
abbrev Vt:=RI.run
abbrev atM:=RI.At
def aw8:Rq Xn vX:=by
 exact Zc
def qq:RI.Ok:={}
def rM:RI.Pf (aAO):=⟨ajT,λs h=>rfl,ayq,aw8⟩
def apZ:SA 0 aEr RI:=s1 qq rM Tv kN
def aqM:Fi Yp Xn aAO atM Vt:=AS.fin qq rM
theorem aqL (s:NZ) (hE:Yp s):(Vt s).out=s.out++s.l.map (·.1):=by
 have hk:=AS.KJ qq rM (λs=>s.out++(s.l.drop s.i.toNat).map (·.1)) (λs hI=>by
  obtain ⟨h0,h1,h2,h3,h4⟩:=hI;refine AH (λc1=>?_) λc1=>?_
  ·have c1:s.i<s.n:=A8
   rw [AJ (x:=s.i+1)]
   show _++_=_++_
   rw [(aoI h0 (show s.i<M s.l by omega)).1]
   simp
  ·rfl) s hE
 obtain ⟨s',hI,q1,q2⟩:=aqM s hE
 have q3:=q2
 have hn:(Vt s).n=(M s.l:Int):=hE.2.1
 have hl:(Vt s).l=s.l:=rfl
 exact Ze
def aJ0:List LV->T LV
 | .agg a::r=>s5 a λcs os ks gs bs=>(match r with
  | []=> .req ((M cs:Int)<=1000/\(M os:Int)<=1000/\(M ks:Int)<=1000/\(M gs:Int)<=1000/\(M bs:Int)<=1000) (.ok<|.xl .str<|LF cs os ks gs bs)
  |_=> .no)
 |_=> .no
def aum:=vm (S:=aJ0) func58 Tv kN (L:=(λi=>if i=3 then RR.lp else if i=8 then RM.lp else if i=13 then RK.lp else if i=18 then RJ.lp else if i=23 then RI.lp else Ak i)) (λb hb=>by
 rw [show BB _=[aFl,aFk,aFj,aEs,aEr] by kernel_rfl] at hb
 simp only [B7,Bu,Bt] at hb;rcases hb with rfl|rfl|rfl|rfl|rfl
 ·exact apd
 ·exact apc
 ·exact apb
 ·exact apa
 ·exact apZ) (λargs lv h=>by
 unfold aJ0 at h;split at h
 case h_2=>cases h
 replace h:=IC h
 obtain ⟨cs,os,ks,gs,bs,rfl,h⟩:=h;split at h
 ·refine Ap (letI b:=(VW (⟨cs,(M cs:Int),0,cs,os,ks,gs,bs,([]:List ByteArray)⟩:NL));letI d:=(VX (⟨os,(M os:Int),0,cs,os,ks,gs,bs,b.out⟩:NK));letI a:=(Va (⟨ks,(M ks:Int),0,cs,os,ks,gs,bs,d.out⟩:NR));letI c:=(Vi (⟨gs,(M gs:Int),0,cs,os,ks,gs,bs,a.out⟩:NS));letI e:=(Vt (⟨bs,(M bs:Int),0,c.out⟩:NZ));.r0 ByteArray<|.req (RR.q (⟨cs,(M cs:Int),0,cs,os,ks,gs,bs,([]:List ByteArray)⟩:NL))<|.rl b.out<|.req (RM.q (⟨os,(M os:Int),0,cs,os,ks,gs,bs,b.out⟩:NK))<|.rl d.out<|.req (RK.q (⟨ks,(M ks:Int),0,cs,os,ks,gs,bs,d.out⟩:NR))<|.rl a.out<|.req (RJ.q (⟨gs,(M gs:Int),0,cs,os,ks,gs,bs,a.out⟩:NS))<|.rl c.out<|.req (RI.q (⟨bs,(M bs:Int),0,c.out⟩:NZ))<|.rz e.out<|.ok<|.xl .str<|(e.out.drop 0).take<|M e.out) ?_
  obtain ⟨⟨hc,ho,hk,hg,hb⟩,rfl⟩:=h
  have hE0:Yt ⟨cs,(M cs:Int),0,cs,os,ks,gs,bs,([]:List ByteArray)⟩:=⟨rfl,rfl,hc,by simp only;decide⟩
  have o0:=arh _ hE0
  refine ⟨A9,⟨hE0,rfl,rfl⟩,?_⟩;generalize (VW ⟨cs,(M cs:Int),0,cs,os,ks,gs,bs,([]:List ByteArray)⟩).out=r0 at*
  have o0:r0=([]:List ByteArray)++cs.map (·.1):=o0
  have l0:(M r0:Int)<=1000:=by rw [o0];simp only [BD,Fz,Bn];omega
  have hE1:Ys ⟨os,(M os:Int),0,cs,os,ks,gs,bs,r0⟩:=⟨rfl,rfl,ho,AZ⟩
  have o1:=ard _ hE1
  refine ⟨A9,⟨hE1,rfl,rfl⟩,?_⟩;generalize (VX ⟨os,(M os:Int),0,cs,os,ks,gs,bs,r0⟩).out=r1 at*
  have o1:r1=r0++os:=o1
  have l1:(M r1:Int)<=2000:=by rw [o1];simp only [BD,Fz,Bn];omega
  have hE2:Yr ⟨ks,(M ks:Int),0,cs,os,ks,gs,bs,r1⟩:=⟨rfl,rfl,hk,AZ⟩
  have o2:=aqP _ hE2
  refine ⟨A9,⟨hE2,rfl,rfl⟩,?_⟩;generalize (Va ⟨ks,(M ks:Int),0,cs,os,ks,gs,bs,r1⟩).out=r2 at*
  have o2:r2=r1++ks.map (·.1):=o2
  have l2:(M r2:Int)<=3000:=A8
  have hE3:Yq ⟨gs,(M gs:Int),0,cs,os,ks,gs,bs,r2⟩:=⟨rfl,rfl,hg,AZ⟩
  have o3:=aqN _ hE3
  refine ⟨A9,⟨hE3,rfl,rfl⟩,?_⟩;generalize (Vi ⟨gs,(M gs:Int),0,cs,os,ks,gs,bs,r2⟩).out=r3 at*
  have o3:r3=r2++gs.map (·.1):=o3
  have l3:(M r3:Int)<=4000:=A8
  have hE4:Yp ⟨bs,(M bs:Int),0,r3⟩:=⟨rfl,rfl,hb,AZ⟩
  have o4:=aqL _ hE4
  refine ⟨A9,⟨hE4,rfl,rfl⟩,?_⟩;generalize (Vt ⟨bs,(M bs:Int),0,r3⟩).out=r4 at*
  have o4:r4=r3++bs.map (·.1):=o4
  refine ⟨A0,?_⟩
  show LV.xl _ _=_
  rw [CP,DZ A0,o4,o3,o2,o1,o0,EF];rfl
 ·cases h)
structure MJ where
 r:Bool
 l:List Cd
 (n i:Int)
 B9:List Cd
 BW:List ByteArray
 C0:List Ko
 BM:List Ch
 C1:List Ba
def aEy:=bN f60 0
def vu (s:MJ):T (Rd MJ):=
 .br (an<|s.i<s.n) (.ix s.i (M s.l)<|.req (0<=s.i)<|.br (!(Hp s.i<|Ac s.l s.i)) (.so (.ret) {s with r:=X})<|.nx {s with i:=AA<|s.i+1}) (.so (.exit 0) s)
def Tb (s:MJ) (j:Int):Bool:=Hp j<|Ac s.l j
def aB2 (s:MJ):Prop:=s.i=0/\0<=s.n/\s.n<=1000/\s.n=(M s.l:Int)
def YK (s:MJ):Prop:=0<=s.i/\s.i<=s.n/\s.n<=1000/\(s.n=(M s.l:Int))/\∀j:Nat,(j:Int)<s.i->Tb s j=U
def tS (s:MJ):Nat:=(s.n-s.i).toNat
def aAk (x:Ex) (s s':MJ):Prop:=(x=.exit 0/\∀j:Nat,(j:Int)<s'.n->Tb s' j=U)\/(x=.ret/\s'.r=X/\∃j:Nat,(j:Int)<s'.n/\Tb s' j=X)
def aiN:∀s,aB2 s->YK s:=by
 exact Jx
theorem avF:Da YK tS aAk vu:=by
 intro s hI;obtain ⟨h0,h1,h2,h3,h4⟩:=hI;refine AH (λc1=>AH (λc2=>?_) λc2=>?_) λc1=>?_
 ·have c1:s.i<s.n:=AX
  refine .inr ⟨rfl,rfl,s.i.toNat,A8,?_⟩;rw [CL A0]
  have hg:Tb s s.i=false:=aMu
  exact hg
 ·have c1:s.i<s.n:=AX
  have hg:Tb s s.i=true:=aMu
  rw [AJ (x:=s.i+1)];refine ⟨⟨A8,A8,h2,h3,λj hj=>?_⟩,by simp only [tS];omega⟩
  exact L0
 ·exact Se
def Ro:AS MJ:=⟨0,95,[1,2,13,14,15],[],λs=>[.own 0 0,s.r,s.l,s.n,s.i],λs=>[⟨[s.B9,s.BW,s.C0,s.BM,s.C1],28,.cl,X⟩],λv b=>⟨EO v 1,B5 Ad v 2,AK v 3,AK v 4,AF Ad b 0 0,AF .str b 0 1,AF Ah b 0 2,AF Af b 0 3,AF Ai b 0 4⟩,vu,λs r=> {s with r:=r.r,i:=r.i},λs=>s,λ_ s=>s,[.ret,.exit 0],aB2,YK,tS⟩
abbrev ad6:=Ro.run
abbrev aHR:=Ro.At
def awG:Rq YK vu:=by
 exact xD
def XS:List Bd:=[aug,q9,auh]
def aQJ:Ro.Ok:={}
def aOm:Ro.Pf (aAk):=⟨aiN,λs h=>rfl,avF,awG⟩
def apz:SA 0 aEy Ro:=s1 aQJ aOm XS kN
def aos:Fi aB2 YK aAk aHR ad6:=AS.fin aQJ aOm
structure MS where
 r:Bool
 l:List Ko
 (n i:Int)
 B9:List Cd
 BW:List ByteArray
 C0:List Ko
 BM:List Ch
 C1:List Ba
 cards:List Int
def aEx:=bN f60 1
def gO (s:MS):T (Rd MS):=letI a:=OA s.l s.i;.br (an<|s.i<s.n) (.ix s.i (M s.l)<|.br ((!(inB a.2.1 (0:Int)<|AA<|(M s.BW:Int)-1)) ||((!(inB a.2.2.1 (1:Int) (9:Int))) ||((!(inB a.2.2.2 (1:Int) (1000000:Int))) ||(List.contains s.cards a.2.2.2)))) (.so (.ret) {s with r:=X})<|.req (List.contains s.cards a.2.2.2=X)<|.nx {s with i:=AA<|s.i+1,cards:=s.cards++[a.2.2.2]})<|.so (.exit 2) s
def Ta (s:MS) (j:Int):Bool:=koV (M s.BW) (OA s.l j)&&!(((s.l.take j.toNat).map (·.2.2.2)).contains (OA s.l j).2.2.2)
def aB1 (s:MS):Prop:=s.i=0/\s.cards=[]/\s.n=(M s.l:Int)/\s.n<=1000/\(M s.BW:Int)<=1000
def YJ (s:MS):Prop:=0<=s.i/\s.i<=s.n/\s.n=(M s.l:Int)/\s.n<=1000/\((M s.BW:Int)<=1000)/\s.cards=(s.l.take s.i.toNat).map (·.2.2.2)/\∀j:Nat,(j:Int)<s.i->Ta s j=U
def tR (s:MS):Nat:=(s.n-s.i).toNat
def aAj (x:Ex) (s s':MS):Prop:=(x=.exit 2/\∀j:Nat,(j:Int)<s'.n->Ta s' j=U)\/(x=.ret/\s'.r=X/\∃j:Nat,(j:Int)<s'.n/\Ta s' j=X)
def aiM:∀s,aB1 s->YJ s:=by
 exact aM7
def avE:Da YJ tR aAj gO:=by
 intro s hI;unfold gO;obtain ⟨h0,h1,h2,h3,h4,h5,h6⟩:=hI;refine AH (λc1=>AH (λc2=>?_) λc2=>?_) λc1=>?_
 ·have c1:s.i<s.n:=AX
  refine .inr ⟨rfl,rfl,s.i.toNat,AZ,?_⟩;rw [CL h0]
  have hg:Ta s s.i=false:=by
   exact aKk
  exact hg
 ·have c1:s.i<s.n:=AX
  have hg:Ta s s.i=true:=by
   exact aKk
  rw [AJ (x:=s.i+1)];refine ⟨⟨AZ,AZ,h2,h3,h4,?_,λj hj=>?_⟩,by simp only [tR];omega⟩
  ·simp only
   rw [(aFE h0 (show s.i<M s.l by omega)).2,h5]
   try rw [Jv]
   try rfl
  ·exact aMN
 ·exact aLh
def Rm:AS MS:=⟨0,95,[1,2,5,27,28,29],[],λs=>[.own 0 0,s.r,.om 1,s.l,s.n,s.i],λs=>[⟨[s.B9,s.BW,s.C0,s.BM,s.C1],28,.cl,X⟩,⟨[],177,.st A7 s.cards,X⟩],λv b=>⟨EO v 1,B5 Ah v 3,AK v 4,AK v 5,AF Ad b 0 0,AF .str b 0 1,AF Ah b 0 2,AF Af b 0 3,AF Ai b 0 4,gSe A7<|CT b 1⟩,gO,λs r=> {s with r:=r.r,i:=r.i,cards:=r.cards},λs=>s,λ_ s=>s,[.ret,.exit 2],aB1,YJ,tR⟩
abbrev ad7:=Rm.run
abbrev aHQ:=Rm.At
def ax3:Rq YJ gO:=by
 intro s hI;refine ⟨λc1=>⟨?_,λ_=>trivial,λc2=>⟨?_,ak⟩⟩,λ_=>trivial⟩
 all_goals ((obtain ⟨h0,h1,h2,h3,h4,h5,h6⟩:=hI;first|(simp at c1;omega) |(simp only [GH] at c2;exact c2.2.2.2)))
def aQI:Rm.Ok:={}
def aOl:Rm.Pf (aAj):=⟨aiM,λs h=>rfl,avE,ax3⟩
def apy:SA 0 aEx Rm:=s1 aQI aOl XS kN
def aor:Fi aB1 YJ aAj aHQ ad7:=AS.fin aQI aOl
structure MT where
 r:Bool
 l:List Ch
 (n i:Int)
 B9:List Cd
 BW:List ByteArray
 C0:List Ko
 BM:List Ch
 C1:List Ba
def aEw:=bN f60 2
def vt (s:MT):T (Rd MT):=
 .br (an<|s.i<s.n) (.ix s.i (M s.l)<|.req ((M s.B9:Int)<=1000/\(M s.BW:Int)<=1000)<|.br (!(Gl (M s.B9) (M s.BW)<|AG s.l s.i)) (.so (.ret) {s with r:=X})<|.nx {s with i:=AA<|s.i+1}) (.so (.exit 4) s)
def TZ (s:MT) (j:Int):Bool:=Gl (M s.B9) (M s.BW)<|AG s.l j
def aB0 (s:MT):Prop:=s.i=0/\0<=s.n/\s.n<=1000/\s.n=(M s.l:Int)/\(M s.B9:Int)<=1000/\(M s.BW:Int)<=1000
def YI (s:MT):Prop:=0<=s.i/\s.i<=s.n/\s.n<=1000/\(s.n=(M s.l:Int)/\(M s.B9:Int)<=1000/\(M s.BW:Int)<=1000)/\∀j:Nat,(j:Int)<s.i->TZ s j=U
def tQ (s:MT):Nat:=(s.n-s.i).toNat
def aAi (x:Ex) (s s':MT):Prop:=(x=.exit 4/\∀j:Nat,(j:Int)<s'.n->TZ s' j=U)\/(x=.ret/\s'.r=X/\∃j:Nat,(j:Int)<s'.n/\TZ s' j=X)
def aiL:∀s,aB0 s->YI s:=by
 exact Jx
theorem avD:Da YI tQ aAi vt:=by
 intro s hI;obtain ⟨h0,h1,h2,h3,h4⟩:=hI;refine AH (λc1=>AH (λc2=>?_) λc2=>?_) λc1=>?_
 ·have c1:s.i<s.n:=AX
  refine .inr ⟨rfl,rfl,s.i.toNat,AZ,?_⟩
  have hg:TZ s s.i=false:=aMD
  exact hg
 ·have c1:s.i<s.n:=AX
  have hg:TZ s s.i=true:=aMD
  rw [AJ (x:=s.i+1)];refine ⟨⟨A8,A8,h2,h3,λj hj=>?_⟩,by simp only [tQ];omega⟩
  exact L0
 ·exact Se
def Rl:AS MT:=⟨0,95,[1,2,67,68,69],[],λs=>[.own 0 0,s.r,s.l,s.n,s.i],λs=>[⟨[s.B9,s.BW,s.C0,s.BM,s.C1],28,.cl,X⟩],λv b=>⟨EO v 1,B5 Af v 2,AK v 3,AK v 4,AF Ad b 0 0,AF .str b 0 1,AF Ah b 0 2,AF Af b 0 3,AF Ai b 0 4⟩,vt,λs r=> {s with r:=r.r,i:=r.i},λs=>s,λ_ s=>s,[.ret,.exit 4],aB0,YI,tQ⟩
abbrev adQ:=Rl.run
abbrev aHP:=Rl.At
def ax2:Rq YI vt:=by
 intro s hI;refine ⟨λc1=>⟨?_,?_,λ_=>trivial,λ_=>trivial⟩,λ_=>trivial⟩
 all_goals ((obtain ⟨h0,h1,h2,h3,h4⟩:=hI;simp at c1;first|omega|exact h3.2))
def aQH:Rl.Ok:={}
def aOk:Rl.Pf (aAi):=⟨aiL,λs h=>rfl,avD,ax2⟩
def apx:SA 0 aEw Rl:=s1 aQH aOk XS kN
def aoq:Fi aB0 YI aAi aHP adQ:=AS.fin aQH aOk
structure Mb where
 r:Bool
 l:List Ba
 (n i:Int)
 B9:List Cd
 BW:List ByteArray
 C0:List Ko
 BM:List Ch
 C1:List Ba
def aEv:=bN f60 3
def vr (s:Mb):T (Rd Mb):=
 .br (an<|s.i<s.n) (.ix s.i (M s.l)<|.br (!(inB (OF s.l s.i).2 (0:Int)<|AA<|(M s.BM:Int)-1)) (.so (.ret) {s with r:=X})<|.nx {s with i:=AA<|s.i+1}) (.so (.exit 6) s)
def TY (s:Mb) (j:Int):Bool:=inB (OF s.l j).2 0<|AA<|(M s.BM:Int)-1
def aAz (s:Mb):Prop:=s.i=0/\0<=s.n/\s.n<=1000/\s.n=(M s.l:Int)
def YH (s:Mb):Prop:=0<=s.i/\s.i<=s.n/\s.n<=1000/\(s.n=(M s.l:Int))/\∀j:Nat,(j:Int)<s.i->TY s j=U
def tP (s:Mb):Nat:=(s.n-s.i).toNat
def aAh (x:Ex) (s s':Mb):Prop:=(x=.exit 6/\∀j:Nat,(j:Int)<s'.n->TY s' j=U)\/(x=.ret/\s'.r=X/\∃j:Nat,(j:Int)<s'.n/\TY s' j=X)
def aiK:∀s,aAz s->YH s:=by
 exact Jx
theorem avC:Da YH tP aAh vr:=by
 intro s hI;obtain ⟨h0,h1,h2,h3,h4⟩:=hI;refine AH (λc1=>AH (λc2=>?_) λc2=>?_) λc1=>?_
 ·have c1:s.i<s.n:=AX
  refine .inr ⟨rfl,rfl,s.i.toNat,A8,?_⟩
  have hg:TY s s.i=false:=aMC
  exact hg
 ·have c1:s.i<s.n:=AX
  have hg:TY s s.i=true:=aMC
  rw [AJ (x:=s.i+1)];refine ⟨⟨A8,A8,h2,h3,λj hj=>?_⟩,by simp only [tP];omega⟩
  exact L0
 ·exact Se
def Rk:AS Mb:=⟨0,95,[1,2,79,80,81],[],λs=>[.own 0 0,s.r,s.l,s.n,s.i],λs=>[⟨[s.B9,s.BW,s.C0,s.BM,s.C1],28,.cl,X⟩],λv b=>⟨EO v 1,B5 Ai v 2,AK v 3,AK v 4,AF Ad b 0 0,AF .str b 0 1,AF Ah b 0 2,AF Af b 0 3,AF Ai b 0 4⟩,vr,λs r=> {s with r:=r.r,i:=r.i},λs=>s,λ_ s=>s,[.ret,.exit 6],aAz,YH,tP⟩
abbrev aGm:=Rk.run
abbrev aHN:=Rk.At
def ax1:Rq YH vr:=by
 exact SZ
def aQG:Rk.Ok:={}
def aOj:Rk.Pf (aAh):=⟨aiK,λs h=>rfl,avC,ax1⟩
def aoo:SA 0 aEv Rk:=s1 aQG aOj XS kN
def aop:Fi aAz YH aAh aHN aGm:=AS.fin aQG aOj
def aJP:List LV->T LV
 | .agg a::r=>s5 a λcs os ks gs bs=>(match r with
  | []=> .req ((M cs:Int)<=1000/\(M os:Int)<=1000/\(M ks:Int)<=1000/\(M gs:Int)<=1000/\(M bs:Int)<=1000) (.ok<|Lx cs os ks gs bs)
  |_=> .no)
 |_=> .no
def auf:=vm (S:=aJP) func60 XS kN (L:=(λi=>if i=2 then Ro.lp else if i=9 then Rm.lp else if i=16 then Rl.lp else if i=22 then Rk.lp else Ak i)) (λb hb=>by
 rw [show BB _=[aEy,aEx,aEw,aEv] by kernel_rfl] at hb
 simp only [B7,Bu,Bt] at hb;rcases hb with rfl|rfl|rfl|rfl
 ·exact apz
 ·exact apy
 ·exact apx
 ·exact aoo) (λargs lv h=>by
 unfold aJP at h;split at h
 case h_2=>cases h
 replace h:=IC h
 obtain ⟨cs,os,ks,gs,bs,rfl,h⟩:=h;split at h
 ·refine Ap (letI g:=(M cs:Int);letI k:=(M ks:Int);letI l:=(M gs:Int);letI m:=(M bs:Int);letI c:=(ad6 (⟨X,cs,g,0,cs,os,ks,gs,bs⟩:MJ));letI a:=(ad7 (⟨c.r,ks,k,0,cs,os,ks,gs,bs,([]:List Int)⟩:MS));letI e:=(adQ (⟨a.r,gs,l,0,cs,os,ks,gs,bs⟩:MT));.req (Ro.q (⟨X,cs,g,0,cs,os,ks,gs,bs⟩:MJ))<|.br (Bj (aHR (⟨X,cs,g,0,cs,os,ks,gs,bs⟩:MJ))<|.ret) (.ok c.r)<|.req (Rm.q (⟨c.r,ks,k,0,cs,os,ks,gs,bs,([]:List Int)⟩:MS))<|.br (Bj (aHQ (⟨c.r,ks,k,0,cs,os,ks,gs,bs,([]:List Int)⟩:MS))<|.ret) (.ok a.r)<|.req (Rl.q (⟨a.r,gs,l,0,cs,os,ks,gs,bs⟩:MT))<|.br (Bj (aHP (⟨a.r,gs,l,0,cs,os,ks,gs,bs⟩:MT))<|.ret) (.ok e.r)<|.req (Rk.q (⟨e.r,bs,m,0,cs,os,ks,gs,bs⟩:Mb))<|.br (Bj (aHN (⟨e.r,bs,m,0,cs,os,ks,gs,bs⟩:Mb))<|.ret) (.ok (aGm (⟨e.r,bs,m,0,cs,os,ks,gs,bs⟩:Mb)).r)<|.ok U) ?_
  obtain ⟨⟨hc,ho,hk,hg,hb⟩,rfl⟩:=h;refine Lg ⟨⟨rfl,AZ,hc,rfl⟩,rfl,rfl⟩ λhE0=>?_
  obtain ⟨s',_,hq⟩:=aos _ hE0.1;rcases hq with ⟨q1,q2⟩ |⟨q1,q2,j,q3,q4⟩
  rotate_left
  ·rw [q1,q2]
   refine ⟨λ_=>Az (λz=>LV.v<|.bool z) ?_,λh=>An⟩
   unfold Lx;rw [QI (f:=λj=>Hp j<|Ac cs j) j q3 q4]
   rfl
  rw [q1];refine ⟨λh=>An,λ_=>?_⟩
  have g0:Di (M cs) (λj=>Hp j<|Ac cs j)=true:=Dq.2 q2
  refine Lg ⟨⟨rfl,rfl,rfl,hk,ho⟩,rfl,rfl⟩ λhE1=>?_
  obtain ⟨s',_,hq⟩:=aor _ hE1.1;rcases hq with ⟨q1,q2⟩ |⟨q1,q2,j,q3,q4⟩
  rotate_left
  ·rw [q1,q2]
   refine ⟨λ_=>Az (λz=>LV.v<|.bool z) ?_,λh=>An⟩
   unfold Lx
   have hn:(ks.all (koV<|M os)&&once (ks.map (·.2.2.2)))=false:=by
    rw [I2];intro hx
    have:=(Vu (d:=(emp,0,0,0))).2 hx j q3
    exact Bool.noConfusion<|this.symm.trans q4
   rw [g0,EH,<-V5,hn];rfl
  rw [q1];refine ⟨λh=>An,λ_=>?_⟩
  have g1:(ks.all (koV<|M os)&&once (ks.map (·.2.2.2)))=true:=(Vu (d:=(emp,0,0,0))).1 q2
  refine Lg ⟨⟨rfl,AZ,hg,rfl,hc,ho⟩,rfl,rfl⟩ λhE2=>?_
  obtain ⟨s',_,hq⟩:=aoq _ hE2.1;rcases hq with ⟨q1,q2⟩ |⟨q1,q2,j,q3,q4⟩
  rotate_left
  ·rw [q1,q2]
   refine ⟨λ_=>Az (λz=>LV.v<|.bool z) ?_,λh=>An⟩
   unfold Lx
   have hn:gs.all (Gl (M cs)<|M os)=false:=by
    rw [I2];intro hx
    have:=(QB (d:=(emp,0,0,0,0,0,0,0))).2 hx j q3
    exact Bool.noConfusion<|this.symm.trans q4
   rw [g0,EH,<-V5,g1,hn];rfl
  rw [q1];refine ⟨λh=>An,λ_=>?_⟩
  have g2:gs.all (Gl (M cs)<|M os)=true:=(QB (d:=(emp,0,0,0,0,0,0,0))).1 q2
  have hw:=AJ (x:=(M gs:Int)-1)
  refine Lg ⟨⟨rfl,AI,hb,rfl⟩,rfl,rfl⟩ λhE3=>?_
  obtain ⟨s',_,hq⟩:=aop _ hE3.1;rcases hq with ⟨q1,q2⟩ |⟨q1,q2,j,q3,q4⟩
  rotate_left
  ·rw [q1,q2]
   refine ⟨λ_=>Az (λz=>LV.v<|.bool z) ?_,λh=>An⟩
   unfold Lx
   have hn:bs.all (λb=>inB b.2 0<|(M gs:Int)-1)=false:=by
    rw [I2];intro hx
    have:=(QB (d:=(emp,0))).2 hx j q3
    have q4:inB (OF bs j).2 0 (AA<|(M gs:Int)-1)=false:=q4
    rw [hw] at q4;exact Bool.noConfusion<|this.symm.trans q4
   rw [g0,EH,<-V5,g1,g2,hn];rfl
  rw [q1];refine ⟨λh=>An,λ_=>?_⟩
  have g3:bs.all (λb=>inB b.2 0<|(M gs:Int)-1)=true:=(QB (d:=(emp,0))).1 (λj hj=>by
   have:inB (OF bs j).2 0 (AA<|(M gs:Int)-1)=true:=q2 j hj
   rw [hw] at this;exact this)
  refine Az (λz=>LV.v<|.bool z) ?_
  unfold Lx;rw [g0,EH,<-V5,g1,g2,g3];rfl
 ·cases h)
structure Ln where
 r:Bool
 l:List ByteArray
 (n i:Int)
 B9:List Cd
 BW:List ByteArray
 C0:List Ko
 BM:List Ch
 C1:List Ba
 seen:List ByteArray
def aJB:=bN f24 0
def m5 (s:Ln):T (Rd Ln):=letI a:=gS s.l s.i;.br (an<|s.i<s.n) (.ix s.i (M s.l)<|.br ((!(nameB a)) ||(List.contains s.seen a)) (.so (.ret) {s with r:=X})<|.req (List.contains s.seen a=X)<|.nx {s with i:=AA<|s.i+1,seen:=s.seen++[a]})<|.so (.exit 0) s
def S0 (s:Ln) (j:Int):Bool:=nameB (gS s.l j)&&!(((s.l.take j.toNat).map id).contains<|gS s.l j)
def wV (s:Ln):Prop:=s.i=0/\s.seen=[]/\s.n=(M s.l:Int)/\s.n<=1000/\True
def aY (s:Ln):Prop:=0<=s.i/\s.i<=s.n/\s.n=(M s.l:Int)/\s.n<=1000/\(True)/\s.seen=(s.l.take s.i.toNat).map id/\∀j:Nat,(j:Int)<s.i->S0 s j=U
def ze (s:Ln):Nat:=(s.n-s.i).toNat
def wL (x:Ex) (s s':Ln):Prop:=(x=.exit 0/\∀j:Nat,(j:Int)<s'.n->S0 s' j=U)\/(x=.ret/\s'.r=X/\∃j:Nat,(j:Int)<s'.n/\S0 s' j=X)
def amV:∀s,wV s->aY s:=by
 exact aM7
theorem aio:Da aY ze wL m5:=by
 intro s hI;unfold m5;obtain ⟨h0,h1,h2,h3,h4,h5,h6⟩:=hI;refine AH (λc1=>AH (λc2=>?_) λc2=>?_) λc1=>?_
 ·have c1:s.i<s.n:=AX
  refine .inr ⟨rfl,rfl,s.i.toNat,AZ,?_⟩;rw [CL h0]
  have hg:S0 s s.i=false:=by
   unfold S0
   grind
  exact hg
 ·have c1:s.i<s.n:=AX
  have hg:S0 s s.i=true:=by
   unfold S0
   grind
  rw [AJ (x:=s.i+1)];refine ⟨⟨AZ,AZ,h2,h3,h4,?_,λj hj=>?_⟩,by simp only [ze];omega⟩
  ·simp only
   rw [(aI0 h0 (show s.i<M s.l by omega)).2,h5]
   try rw [Jv]
   try rfl
  ·exact aMN
 ·exact aLh
def S3:AS Ln:=⟨0,61,[1,2,3,42,43,44],[],λs=>[.own 0 0,s.r,.om 1,s.l,s.n,s.i],λs=>[⟨[s.B9,s.BW,s.C0,s.BM,s.C1],28,.cl,X⟩,⟨[],135,.st .str s.seen,X⟩],λv b=>⟨EO v 1,B5 .str v 3,AK v 4,AK v 5,AF Ad b 0 0,AF .str b 0 1,AF Ah b 0 2,AF Af b 0 3,AF Ai b 0 4,gSe .str<|CT b 1⟩,m5,λs r=> {s with r:=r.r,i:=r.i,seen:=r.seen},λs=>s,λ_ s=>s,[.ret,.exit 0],wV,aY,ze⟩
abbrev aOH:=S3.run
abbrev aRo:=S3.At
def aij:Rq aY m5:=by
 intro s hI;refine ⟨λc1=>⟨?_,λ_=>trivial,λc2=>⟨?_,ak⟩⟩,λ_=>trivial⟩
 all_goals ((obtain ⟨h0,h1,h2,h3,h4,h5,h6⟩:=hI;first|(simp at c1;omega) |(simp only [GH] at c2;exact c2.2)))
def abW:List Bd:=[aum,aur,auf]
def aal:S3.Ok:={}
def aaU:S3.Pf (wL):=⟨amV,λs h=>rfl,aio,aij⟩
def avL:SA 0 aJB S3:=s1 aal aaU abW kN
def avT:Fi wV aY wL aRo aOH:=AS.fin aal aaU
def aJS:List LV->T LV
 | .agg a::r=>s5 a λcs os ks gs bs=>(match r with
  | []=> .ok (BA cs os ks gs bs)
  |_=> .no)
 |_=> .no
def Om:=vm (S:=aJS) func24 abW kN (L:=(λi=>if i=5 then S3.lp else Ak i)) (λb hb=>by
 rw [show BB _=[aJB] by kernel_rfl] at hb
 simp only [B7,Bu,Bt] at hb;subst hb;exact avL) (λargs lv h=>by
 unfold aJS at h;split at h
 case h_2=>cases h
 replace h:=IC h
 obtain ⟨cs,os,ks,gs,bs,rfl,h⟩:=h;split at h
 ·refine Ap (letI b:=LF cs os ks gs bs;letI e:=(M b:Int);letI f:=(M cs:Int);letI a:=(f<=1000/\(M os:Int)<=1000/\(M ks:Int)<=1000/\(M gs:Int)<=1000/\(M bs:Int)<=1000);.br ((an<|f<1) ||((an<|f>16) ||((an<|(M os:Int)>8) ||((an<|(M ks:Int)>32) ||((an<|(M gs:Int)>16) ||(an<|(M bs:Int)>24)))))) (.ok X)<|.req a<|.req (S3.q (⟨X,b,e,0,cs,os,ks,gs,bs,([]:List ByteArray)⟩:Ln))<|.br (Bj (aRo (⟨X,b,e,0,cs,os,ks,gs,bs,([]:List ByteArray)⟩:Ln))<|.ret) (.ok (aOH (⟨X,b,e,0,cs,os,ks,gs,bs,([]:List ByteArray)⟩:Ln)).r)<|.req a<|.ok<|Lx cs os ks gs bs) ?_
  obtain rfl:=h;refine ⟨λc=>Az (λz=>LV.v<|.bool z) ?_,λc=>?_⟩
  ·rw [Sd,I2]
   intro hx;unfold BA at hx;rw [AY,Aa] at hx;simp only [Cl,Aa] at c;omega
  have hd:1<=M cs/\M cs<=16/\M os<=8/\M ks<=32/\M gs<=16/\M bs<=24:=by
   simp only [GH,D3] at c;omega
  have hs:BA cs os ks gs bs=(((LF cs os ks gs bs).all nameB&&once (LF cs os ks gs bs))&&Lx cs os ks gs bs):=by
   unfold BA
   grind
  have hl:(M (LF cs os ks gs bs):Int)<=1000:=by
   unfold LF;simp only [BD,Fz];omega
  rw [hs]
  have hr:(M cs:Int)<=1000/\(M os:Int)<=1000/\(M ks:Int)<=1000/\(M gs:Int)<=1000/\(M bs:Int)<=1000:=A0
  refine ⟨hr,?_⟩;generalize LF cs os ks gs bs=l at*;refine Lg ⟨⟨rfl,rfl,rfl,hl,ak⟩,rfl,rfl⟩ λhE=>?_
  obtain ⟨s',_,hq⟩:=avT _ hE.1;rcases hq with ⟨q1,q2⟩ |⟨q1,q2,j,q3,q4⟩
  ·rw [q1]
   have hk:=(Vu (d:=emp) (p:=nameB) (k:=id)).1 q2
   rw [V2] at hk;refine ⟨λh=>An,λ_=>⟨hr,?_⟩⟩
   rw [hk,EH];rfl
  ·rw [q1,q2]
   refine ⟨λ_=>Az (λz=>LV.v<|.bool z) ?_,λh=>An⟩
   have hn:(l.all nameB&&once l)=false:=by
    rw [I2];intro hx
    have:=(Vu (d:=emp) (p:=nameB) (k:=id)).2 (by rw [V2];exact hx) j q3
    exact Bool.noConfusion<|this.symm.trans q4
   rw [hn];rfl
 ·cases h)
def aIq:List LV->T LV
 | .agg a::r=>s5 a λcs os ks gs bs=>(match r with
  | [.v (Y J c)]=> .ok (.fn 166 [xQ 1 [c],xQ 5 [cs,os,ks,gs,bs]])
  |_=> .no)
 |_=> .no
def Qd:List Bd:=[]
def abr:Aw:=kI Qd<|l0 Qd
def eK:=vo (S:=aIq) func122 Qd abr (λargs lv h=>by
 unfold aIq at h;split at h
 case h_2=>cases h
 replace h:=IC h
 obtain ⟨cs,os,ks,gs,bs,rfl,h⟩:=h;split at h
 ·rename_i c
  refine Ap (.ok<|.fn 166 [(xQ 1 [c]),(xQ 5 [cs,os,ks,gs,bs])]) ?_;exact h
 ·cases h)
def zU:Array Tmp×Code×Code:=((Ik<|f212.body.getD .skip)[0]?).getD (#[],.skip,.skip)
def akC:Array Tmp:=zU.1
def ajh:Code:=zU.2.1
def ajZ:Code:=zU.2.2
structure Mf where
 cs:List Cd
 os:List ByteArray
 ks:List Ko
 gs:List Ch
 bs:List Ba
 (c b0:Int)
 b1:Bool
 st:LS
def gR (s:Mf):T (Rd Mf):=
 .br (an<|s.c>=0) (.br (s.c==s.b0) (.so (.ret) {s with b1:=U,st:=.done<|.ret})<|.ix s.c (M s.cs)<|.nx {s with c:=(Ac s.cs s.c).2.1}) (.so (.exit 0) s)
def aB5 (s:Mf):Prop:=s.st=.ready/\FU s.cs=U/\s.c<(M s.cs:Int)/\s.b1=X
def iU (s:Mf):Prop:=s.st=.ready/\FU s.cs=U/\s.c<(M s.cs:Int)
def ti (s:Mf):Nat:=(s.c+1).toNat
def ac3 (x:Ex) (s s':Mf):Prop:=(x=.ret/\s'.b1=U/\FW s.cs s.b0 s.c=U)\/(x=.exit 0/\FW s.cs s.b0 s.c=X)
def ajl:∀s,aB5 s->iU s:=by
 rintro s ⟨h0,h1,h2,h3⟩
 exact ⟨h0,h1,h2⟩
theorem aP3:Da iU ti ac3 gR:=by
 intro s hI;obtain ⟨h0,h1,h2⟩:=hI
 have hp:=aQF (o:=s.b0) h1 h2
 refine AH (λc1=>AH (λc2=>?_) λc2=>?_) λc1=>?_
 ·have c1:0<=s.c:=A8
  exact .inl ⟨rfl,rfl,A8⟩
 ·have c1:0<=s.c:=A8
  have:=QL h1 c1 h2
  exact ⟨⟨h0,h1,A8⟩,by simp only [ti];omega⟩
 ·have c1:¬(0<=s.c):=A8
  exact .inr ⟨rfl,A8⟩
def Z3:AS Mf:=⟨3,18,[0,2,4],[],λs=>[.CK 2,xQ 5 [s.cs,s.os,s.ks,s.gs,s.bs],s.c],λs=>[⟨[s.b0],3,.cl,X⟩,⟨[s.b1],4,.cl,X⟩,⟨[.junk,.junk,.junk,.own 0 0,.own 1 0,.v<|.tuple #[],.junk,.v<|.tuple #[],.v<|.tuple #[],.v<|.tuple #[],.v<|.tuple #[]],0,.Cc akC ajh ajZ s.st,X⟩],λv b=>⟨Ao Ad<|BQ (v.getD 1 .junk) 0,Ao .str<|BQ (v.getD 1 .junk) 1,Ao Ah<|BQ (v.getD 1 .junk) 2,Ao Af<|BQ (v.getD 1 .junk) 3,Ao Ai<|BQ (v.getD 1 .junk) 4,AK v 2,Aj b 0 0,Kw b 1 0,.ready⟩,gR,λs r=> {r with cs:=s.cs,os:=s.os,ks:=s.ks,gs:=s.gs,bs:=s.bs,b0:=s.b0},λs=> {s with st:=.ready},λx s=> {s with st:=(match x with| .ret=>(.done<|.ret) | .exit 0=> .ready|_=> .ready)},[.ret,.exit 0],aB5,iU,ti⟩
abbrev pt:=Z3.run
abbrev qd:=Z3.At
def awW:Rq iU gR:=by
 intro s hI;refine ⟨λc1=>⟨λ_=>trivial,λc2=>⟨?_,ak⟩⟩,λ_=>trivial⟩
 ·(obtain ⟨h0,h1,h2⟩:=hI;simp at c1 h2;exact ⟨c1,h2⟩)
def rj:Z3.Ok:={}
def rJ:Z3.Pf (ac3):=⟨ajl,λs h=>by
 obtain ⟨cs,os,ks,gs,bs,c,b0,b1,st⟩:=s
 have e:=h.1
 subst e;rfl,aP3,awW⟩
def aqC:=s2 (b:=bN f166 0) rj rJ Qd abr
theorem ax5 (s:Mf) (hE:aB5 s):(qd s=.ret/\(pt s).b1=U/\FW s.cs s.b0 s.c=U)\/(qd s=.exit 0/\FW s.cs s.b0 s.c=X):=by
 have hk:=AS.KJ rj rJ (λs=>FW s.cs s.b0 s.c) (λs hI=>by
  obtain ⟨h0,h1,h2⟩:=hI
  have hp:=aQF (o:=s.b0) h1 h2
  refine AH (λc1=>AH (λc2=>rfl) λc2=>?_) λc1=>rfl
  have c1:0<=s.c:=A8
  show FW _ _ _=FW _ _ _
  rw [hp,AD c1,c2,D2]) s hE
 have hk:FW s.cs s.b0 (pt s).c=FW s.cs s.b0 s.c:=hk
 obtain ⟨s',hI,hf⟩:=AS.end_ rj rJ s hE
 have hq:=cG (aP3 s' hI) hf
 have hc:=cG (Pn:=λ_=>True) (Ps:=λ_ r=>r.cs=s'.cs/\r.b0=s'.b0/\r.c=s'.c) (r:=(gR s').rd s') (by
   exact AH (λ_=>AH (λ_=>⟨rfl,rfl,rfl⟩) λ_=>trivial) λ_=>⟨rfl,rfl,rfl⟩) hf
 obtain ⟨hc1,hc3,hc2⟩:=hc
 have e1:s.cs=s'.cs:=hc1
 have e2:s.b0=s'.b0:=hc3
 rwa [<-hk,hc2,e1,e2]
def aRy:List LV->T LV
 | [.fn 166 [.xq 1 q0,.xq 5 q1],.v (Y J o)]=>(match ([q0 0]:List LV) with
  | [.v (Y J c)]=>(match ([q1 0,q1 1,q1 2,q1 3,q1 4]:List LV) with
  | [.xl (.pair .str (.pair (.int J) (.pair (.int J) (.pair (.int J) (.pair (.pair (.int J) (.int J)) (.pair (.int J) (.pair (.int J) (.pair (.int J) (.pair (.int J) (.int J)))))))))) cs,.xl (.str) os,.xl (.pair .str (.pair (.int J) (.pair (.int J) (.int J)))) ks,.xl (.pair .str (.pair (.int J) (.pair (.int J) (.pair (.int J) (.pair (.int J) (.pair (.int J) (.pair (.int J) (.int J)))))))) gs,.xl (.pair .str (.int J)) bs]=> .req (FU cs=U/\c<(M cs:Int)) (.ok<|FW cs o c)
  |_=> .no)
  |_=> .no)
 |_=> .no
def abq:Aw:=kI Qd<|la 1 func166 aqC<|l0 Qd
def ayS (c:Int) (cs:List Cd) (os:List ByteArray) (ks:List Ko) (gs:List Ch) (bs:List Ba) (o:Int):Bg prog AU Qd abq Ak f212 [.fn 166 [xQ 1 [c],xQ 5 [cs,os,ks,gs,bs]],o]=.req (Z3.q (⟨cs,os,ks,gs,bs,c,o,X,.ready⟩:Mf)) (.br (Bj (qd (⟨cs,os,ks,gs,bs,c,o,X,.ready⟩:Mf))<|.ret) (.ok (pt (⟨cs,os,ks,gs,bs,c,o,X,.ready⟩:Mf)).b1)<|.ok X):=AT
def ajA:=vo (S:=aRy) func212 Qd abq (λargs lv h=>by
 refine ⟨?_⟩;unfold aRy at h;split at h
 ·split at h
  case h_2=>cases h
  rename_i heq0;split at h
  case h_2=>cases h
  rename_i heq1;simp only [canL,canX];rw [Dv (n:=1) heq0];rw [Dv (n:=5) heq1];simp only [canL,canX];rw [ayS];obtain ⟨⟨hu,hc⟩,rfl⟩:=h;refine Lg ⟨⟨rfl,hu,hc,rfl⟩,rfl,rfl⟩ λhE=>?_
  rcases ax5 _ hE.1 with ⟨h1,h2,h3⟩ |⟨h1,h2⟩
  ·rw [h1,h2]
   exact ⟨λ_=>Az (λz=>LV.v<|.bool z) h3.symm,λh=>An⟩
  ·rw [h1]
   exact ⟨λh=>An,λ_=>Az (λz=>LV.v<|.bool z) h2.symm⟩
 ·cases h)
structure O8 where
 l:List Ch
 (n i:Int)
 BY:List Cd
 GL:List ByteArray
 GJ:List Ko
 GN:List Ch
 GQ:List Ba
 b1:Int
 out:List Int
def aJH:=bN f174 0
def lu (s:O8):T (Rd O8):=
 .br (an<|s.i<s.n) (.ix s.i (M s.l)<|.req (FU s.BY=U/\(AG s.l s.i).2.1<(M s.BY:Int))<|.br (FW s.BY s.b1 (AG s.l s.i).2.1) (.rb (M s.out) (M<|[s.i]) 8<|.re (M s.out+M ([s.i])) (s.out++([s.i]))<|.nx {s with i:=AA<|s.i+1,out:=s.out++([s.i])})<|.rl s.out<|.nx {s with i:=AA<|s.i+1}) (.rl s.out<|.so (.exit 0) s)
def mU (s:O8):Prop:=s.i=0/\s.out=[]/\s.n=(M s.l:Int)/\s.n<=1000/\FU s.BY=U/\atB s.BY s.l=U
def bJ (s:O8):Prop:=(0<=s.i/\s.i<=s.n)/\s.out=Co s.BY s.l s.b1 s.i.toNat/\s.n=(M s.l:Int)/\s.n<=1000/\FU s.BY=U/\atB s.BY s.l=U
def gd (s:O8):Nat:=(s.n-s.i).toNat
def wT (x:Ex) (s s':O8):Prop:=x=.exit 0/\s'.out=Co s'.BY s'.l s'.b1 (M s'.l)
def an6:∀s,mU s->bJ s:=by
 rintro s ⟨h0,h1,h2,h3,h4,h5⟩
 exact ⟨⟨A0,A0⟩,yb,h2,h3,h4,h5⟩
theorem alL:Da bJ gd wT lu:=by
 intro s hI;unfold lu;obtain ⟨⟨h0,h1⟩,h2,h3,h4,h5,h6⟩:=hI;refine AH (λc1=>?_) λc1=>?_
 ·have c1:s.i<s.n:=AX
  have hs:=aDr (cs:=s.BY) (gs:=s.l) (o:=s.b1) (k:=s.i.toNat)
  rw [AJ (x:=s.i+1)];refine AH (λc2=>?_) λc2=>?_
  ·refine ⟨⟨⟨AZ,AZ⟩,?_,h3,h4,h5,h6⟩,by simp only [gd];omega⟩
   simp only
   grind
  ·refine ⟨⟨⟨A8,A8⟩,?_,h3,h4,h5,h6⟩,by simp only [gd];omega⟩
   simp only
   grind
 ·have c1:s.n<=s.i:=AX
  exact ⟨rfl,A8⟩
def SE:AS O8:=⟨0,42,[6,7,26,27,28],[.nl 7 3 A7],λs=>[.fn 211 [.own 0 0,.own 1 0],.os 2 1 0<|M s.out,s.l,s.n,s.i],λs=>[⟨[s.BY,s.GL,s.GJ,s.GN,s.GQ],28,.cl,X⟩,⟨[s.b1],3,.cl,X⟩,bV 3 A7 s.out],λv b=>⟨B5 Af v 2,AK v 3,AK v 4,AF Ad b 0 0,AF .str b 0 1,AF Ah b 0 2,AF Af b 0 3,AF Ai b 0 4,Aj b 1 0,Ab A7 b 2⟩,lu,λs r=> {s with i:=r.i,out:=r.out},λs=>s,λ_ s=>s,[.exit 0],mU,bJ,gd⟩
abbrev pF:=SE.run
abbrev agY:=SE.At
def ak6:Rq bJ lu:=by
 intro s hI;refine ⟨λc1=>⟨?_,?_,λc2=>⟨?_,?_,ak⟩,λc2=>⟨A9,ak⟩⟩,λc1=>⟨A9,ak⟩⟩
 all_goals ((obtain ⟨⟨h0,h1⟩,h2,h3,h4,h5,h6⟩:=hI;have hol:M s.out<=s.i.toNat:=(by rw [h2];exact oM);(try simp only [Aa] at c1);first|omega|exact ⟨h5,fU h6 h0 A0⟩ |(refine ⟨A0,?_,?_⟩<;>simp only [Bc,Bn]<;>omega) |exact ⟨rfl,AI⟩ |exact ⟨rfl,rfl⟩))
def iE:List Bd:=[Om,eK,ajA]
def abp:Aw:=kI iE<|l0 iE
def aaM:SE.Ok:={}
def aah:SE.Pf (wT):=⟨an6,λs h=>rfl,alL,ak6⟩
def awl:SA 0 aJH SE:=s1 aaM aah iE abp
def ahN:Fi mU bJ wT agY pF:=AS.fin aaM aah
def aFQ:List LV->T LV
 | .agg a::r=>s5 a λcs os ks gs bs=>(match r with
  | [.v (Y J o)]=> .ok (.AM [.xl A7<|Pv cs os ks gs bs o,wI cs os ks gs bs o])
  |_=> .no)
 |_=> .no
def ap0:=vm (S:=aFQ) func174 iE abp (L:=(λi=>if i=6 then SE.lp else Ak i)) (λb hb=>by
 rw [show BB _=[aJH] by kernel_rfl] at hb
 simp only [B7,Bu,Bt] at hb;subst hb;exact awl) (λargs lv h=>by
 unfold aFQ at h;split at h
 case h_2=>cases h
 replace h:=IC h
 obtain ⟨cs,os,ks,gs,bs,rfl,h⟩:=h;split at h
 ·rename_i o
  refine Ap (letI a:=(pF (⟨gs,(M gs:Int),0,cs,os,ks,gs,bs,o,([]:List Int)⟩:O8));.br ((!(BA cs os ks gs bs)) ||((an<|o<0) ||(an<|o>=(M cs:Int)))) (.ok<|.AM [.xl A7 ([]:List Int),(1:Int)])<|.r0 Int<|.req (SE.q (⟨gs,(M gs:Int),0,cs,os,ks,gs,bs,o,([]:List Int)⟩:O8))<|.rz a.out<|.ok<|.AM [.xl A7<|(a.out.drop 0).take<|M a.out,(0:Int)]) ?_;obtain rfl:=h;refine ⟨λc=>?_,λc=>?_⟩
  ·have hn:¬(BA cs os ks gs bs=U/\0<=o/\o<(M cs:Int)):=by
    rintro ⟨h1,h2,h3⟩
    rw [h1] at c
    simp at c
    omega
   show LV.AM _=_
   unfold Pv wI
   grind
  ·simp only [GH,I8,D3] at c
   have hl:=(D5.1 c.1).1
   have hE:mU ⟨gs,(M gs:Int),0,cs,os,ks,gs,bs,o,([]:List Int)⟩:=⟨rfl,rfl,rfl,AZ,nr c.1,nt c.1⟩
   obtain ⟨s',_,q1,q2⟩:=ahN _ hE
   have q2:(pF ⟨gs,(M gs:Int),0,cs,os,ks,gs,bs,o,([]:List Int)⟩).out=Co cs gs o (M gs):=q2
   refine ⟨A9,⟨hE,rfl,rfl⟩,A0,?_⟩
   show LV.AM [LV.xl _ _,_]=_
   unfold Pv wI
   grind
 ·cases h)
def aJZ:List LV->T LV
 | [.v (.agg ⟨[Y J am,Y J mo,Y J ga,Y J lo,Y J de]⟩)]=> .ok (IU (am,mo,ga,lo,de))
 |_=> .no
def Qy:List Bd:=[]
def hnd20:Aw:=kI Qy<|l0 Qy
def av5:=vo (S:=aJZ) func167 Qy hnd20 (λargs lv h=>by
 unfold aJZ at h;split at h
 ·rename_i am mo ga lo de
  refine Ap (.br ((am==0)&&((mo==0)&&((ga==0)&&((lo==0)&&(de==0))))) (.ok U)<|.br ((an<|am>=0)&&(an<|am<=200000)) (.br (an<|mo>am) (.br (an<|mo<=200000) (.br ((an<|ga>=0)&&(an<|ga<=1000)) (.br ((an<|lo>=0)&&(an<|lo<=1000)) (.ok<|.v<|.bool<|(an<|de>=1)&&(an<|de<=1000000))<|.ok X)<|.ok X)<|.ok X)<|.ok X)<|.ok X) ?_;obtain rfl:=h;unfold IU cbZ;refine ⟨λc=>by rw [c];rfl,λc=>?_⟩
  unfold inB;refine ⟨λc1=>⟨λc2=>⟨λc3=>⟨λc4=>⟨λc5=>?_,λc5=>?_⟩,λc4=>?_⟩,λc3=>?_⟩,λc2=>?_⟩,λc1=>?_⟩
  all_goals refine Az (λz=>LV.v<|.bool z) ?_
  all_goals
   grind
 ·cases h)
def aJN:List LV->T LV
 | [.xq 6 q0]=>(match ([q0 0,q0 1,q0 2,q0 3,q0 4,q0 5]:List LV) with
  | [.v (Y J am),.v (Y J mo),.v (Y J ga),.v (Y J lo),.v (Y J de),.v (Y J now)]=> .ok (.v<|Y J (if de<lo then de else lo))
  |_=> .no)
 |_=> .no
def arn (am mo ga lo de now:Int):Bg prog AU (Qy) kN Ak f169 [xQ 6 [am,mo,ga,lo,de,now]]=.ok (.v<|Y J (if de<lo then de else lo)):=AT
def aud:=vo (S:=aJN) func169 Qy kN (λargs lv h=>by
 refine ⟨?_⟩;unfold aJN at h;split at h
 ·split at h
  case h_2=>cases h
  rename_i heq0;simp only [canL,canX];rw [Dv (n:=6) heq0];simp only [canL,canX]
  rwa [arn]
 ·cases h)
def aJM:List LV->T LV
 | [.xq 6 q0]=>(match ([q0 0,q0 1,q0 2,q0 3,q0 4,q0 5]:List LV) with
  | [.v (Y J am),.v (Y J mo),.v (Y J ga),.v (Y J lo),.v (Y J de),.v (Y J now)]=> .ok (cbZ (am,mo,ga,lo,de))
  |_=> .no)
 |_=> .no
def arl (am mo ga lo de now:Int):Bg prog AU (Qy) kN Ak f168 [xQ 6 [am,mo,ga,lo,de,now]]=.ok (.v<|.bool<|(am==0)&&((mo==0)&&((ga==0)&&((lo==0)&&(de==0))))):=AT
def avI:=vo (S:=aJM) func168 Qy kN (λargs lv h=>by
 refine ⟨?_⟩;unfold aJM at h;split at h
 ·split at h
  case h_2=>cases h
  rename_i heq0;simp only [canL,canX];rw [Dv (n:=6) heq0];simp only [canL,canX]
  rwa [arl]
 ·cases h)
structure OE where
 (low high afM atX atZ atY ahS aoO b11 b12 b13 b14 ahR b3:Int)
def lr (s:OE):T (Rd OE):=letI a:=AA<|s.low+(AA<|(AA<|(AA<|s.high-s.low)+1).tdiv 2);.br (an<|s.low<s.high) (.req ((2:Int)≠0)<|.br (an<|(AA<|(AA<|s.b12*a)*a)<=s.b3) (.nx {s with low:=a})<|.nx {s with high:=AA<|a-1})<|.so (.exit 0) s
def wW (s:OE):Prop:=s.low=0/\s.high=1000/\(0<=s.b12/\s.b12<=1000)/\0<=s.b3
def bI (s:OE):Prop:=(0<=s.low/\s.low<=s.high/\s.high<=1000)/\s.b12*s.low*s.low<=s.b3/\(∀a:Int,s.high<a->a<=1000->¬s.b12*a*a<=s.b3)/\(0<=s.b12/\s.b12<=1000)/\0<=s.b3
def gb (s:OE):Nat:=(s.high-s.low).toNat
def wS (x:Ex) (s s':OE):Prop:=x=.exit 0/\s'.low=prm s'.b12 s'.b3
theorem amx:∀s,wW s->bI s:=by
 rintro s ⟨h0,h1,h2,h3⟩
 exact ⟨A0,A8,λa h h2=>A0,h2,h3⟩
theorem akT:Da bI gb wS lr:=by
 intro s hI;unfold lr;obtain ⟨⟨h0,h1,h2⟩,h3,h4,⟨h5,h6⟩,h7⟩:=hI
 have em:s.low<s.high->AA (s.low+AA ((AA<|AA (s.high-s.low)+1).tdiv 2))=s.low+(s.high-s.low+1) / 2:=λc=>by
  rw [AJ (x:=s.high-s.low),AJ (x:=s.high-s.low+1),I4 A0,AJ (x:=(s.high-s.low+1) / 2),AJ]
 refine AH (λc1=>?_) λc1=>?_
 ·have c1:s.low<s.high:=AX
  rw [em c1]
  have hm1:s.low<s.low+(s.high-s.low+1) / 2:=A0
  have hm2:s.low+(s.high-s.low+1) / 2<=s.high:=A0
  generalize s.low+(s.high-s.low+1) / 2=m at hm1 hm2|-;obtain ⟨⟨b1,b2⟩,b3,b4⟩:=ais h5 h6 (m:=m) A0 A0;rw [AJ (x:=s.b12*m),AJ (x:=s.b12*m*m),AJ (x:=m-1)];refine AH (λc2=>?_) λc2=>?_
  ·have c2:s.b12*m*m<=s.b3:=EI
   exact ⟨⟨⟨AZ,AZ,h2⟩,c2,h4,⟨h5,h6⟩,h7⟩,by simp only [gb];omega⟩
  ·have c2:¬s.b12*m*m<=s.b3:=EI
   refine ⟨⟨⟨h0,AZ,AZ⟩,h3,λa ha hk=>?_,⟨h5,h6⟩,h7⟩,by simp only [gb];omega⟩
   have:=aol h5 (a:=m) (b:=a) A0 A8
   simp only;omega
 ·have c1:s.high<=s.low:=AX
  refine ⟨rfl,(aGW (k:=1000) h0 A0 (.inr h3) λa ha hk=>h4 a A0 A0).symm⟩
def bP:AS OE:=⟨4,25,[0,1,2],[],λs=>[s.low,s.high,.fn 171 [.own 2 0,.own 3 0]],λs=>[⟨[s.afM,s.atX,s.atZ,s.atY,s.ahS],65,.cl,X⟩,⟨[s.aoO,s.b11,s.b12,s.b13,s.b14,s.ahR],291,.cl,X⟩,⟨[.own 1 0],289,.cl,X⟩,⟨[s.b3],3,.cl,X⟩],λv b=>⟨AK v 0,AK v 1,Aj b 0 0,Aj b 0 1,Aj b 0 2,Aj b 0 3,Aj b 0 4,Aj b 1 0,Aj b 1 1,Aj b 1 2,Aj b 1 3,Aj b 1 4,Aj b 1 5,Aj b 3 0⟩,lr,λs r=> {s with low:=r.low,high:=r.high},λs=>s,λ_ s=>s,[.exit 0],wW,bI,gb⟩
abbrev aOy:=bP.run
abbrev agX:=bP.At
def Tu:List Bd:=[av5,avI,aud]
def akN:Aw:=kI Tu<|l0 Tu
def ak4:Rq bI lr:=by
 intro s hI;refine ⟨λc1=>⟨?_,λ_=>trivial,λ_=>trivial⟩,λ_=>trivial⟩
 ·omega
def aaK:bP.Ok:={}
def aaf:bP.Pf (wS):=⟨amx,λs h=>rfl,akT,ak4⟩
def awi:=s2 (b:=bN f170 0) aaK aaf Tu akN
def agn:Fi wW bI wS agX aOy:=AS.fin aaK aaf
def aIm:List LV->T LV
 | [.v (.agg ⟨[Y J am,Y J mo,Y J ga,Y J lo,Y J de]⟩)]=> .tu #[My (am,mo,ga,lo,de),pmE (am,mo,ga,lo,de)]
 |_=> .no
def akL:Aw:=kI Tu<|la 1 func170 awi<|l0 Tu
def auk:=vo (S:=aIm) func125 Tu akL (λargs lv h=>by
 unfold aIm at h;split at h
 ·rename_i am mo ga lo de
  refine Ap (letI a:=AA<|(if de<lo then de else lo)*(AA<|mo-am);.br (!(IU (am,mo,ga,lo,de))) (.tu #[(0:Int),(1:Int)])<|.br (cbZ (am,mo,ga,lo,de)) (.tu #[(1000:Int),(0:Int)])<|.req (bP.q (⟨0,1000,am,mo,ga,lo,de,am,mo,ga,lo,de,0,a⟩:OE))<|.tu #[(aOy (⟨0,1000,am,mo,ga,lo,de,am,mo,ga,lo,de,0,a⟩:OE)).low,(0:Int)]) ?_
  obtain rfl:=h;refine ⟨λc=>?_,λc=>⟨λc2=>?_,λc2=>?_⟩⟩
  ·have c:IU (am,mo,ga,lo,de)=false:=Ic
   simp [T.all,My,pmE,c]
  ·have c:IU (am,mo,ga,lo,de)=true:=Ic
   simp [T.all,My,pmE,c,c2]
  ·have c:IU (am,mo,ga,lo,de)=true:=Ic
   obtain ⟨⟨h1,h2,h3⟩,⟨h4,h5⟩,⟨h6,h7⟩,h8,h9⟩:=ahJ c c2;simp only at h1 h2 h3 h4 h5 h6 h7 h8 h9
   have hm:0<=(if de<lo then de else lo)/\(if de<lo then de else lo)<=1000:=by split<;>omega
   have e:My (am,mo,ga,lo,de)=prm ga ((if de<lo then de else lo)*(mo-am)):=by
    unfold My
    grind
   have e2:pmE (am,mo,ga,lo,de)=0:=by
    unfold pmE;rw [AD c]
   rw [e,e2,AJ (x:=mo-am)];generalize (if de<lo then de else lo)=mn at hm|-
   have a1:0<=mn*(mo-am):=Ia hm.1 A0
   have a2:mn*(mo-am)<=1000*(mo-am):=SS hm.2 A0
   rw [AJ (x:=mn*(mo-am))];refine Lg ⟨⟨rfl,rfl,⟨h4,h5⟩,a1⟩,rfl,rfl⟩ λhE=>?_
   obtain ⟨s',_,q1,q2⟩:=agn _ hE.1;rw [q2];rfl
 ·cases h)
structure KQ where
 first:Int
 l:List Int
 (n i:Int)
def aFq:=bN f126 0
def v9 (s:KQ):T (Rd KQ):=
 .br (an<|s.i<s.n) (.ix s.i (M s.l)<|.nx {s with first:=(if (gi s.l s.i)<s.first then (gi s.l s.i) else s.first),i:=AA<|s.i+1}) (.so (.exit 0) s)
def jb (s:KQ):Prop:=s.i=0/\s.n=(M s.l:Int)/\s.n<=1000
def Xw (s:KQ):Prop:=0<=s.i/\s.i<=s.n/\s.n=(M s.l:Int)/\s.n<=1000
def tB (s:KQ):Nat:=(s.n-s.i).toNat
def aAY (x:Ex) (s s':KQ):Prop:=x=.exit 0/\s'.i=s'.n
def al0:∀s,jb s->Xw s:=by
 exact kz
theorem aze:Da Xw tB aAY v9:=by
 intro s hI;obtain ⟨h0,h1,h2,h3⟩:=hI;refine AH (λc1=>?_) λc1=>?_
 ·have c1:s.i<s.n:=A8
  rw [AJ (x:=s.i+1)];exact ⟨⟨A8,A8,h2,h3⟩,by simp only [tB];omega⟩
 ·exact Sc
def RX:AS KQ:=⟨0,18,[0,7,8,9],[],λs=>[s.first,.xl A7 s.l,s.n,s.i],λ_=>[],λv b=>⟨AK v 0,B5 A7 v 1,AK v 2,AK v 3⟩,v9,λs r=> {r with l:=s.l,n:=s.n},λs=>s,λ_ s=>s,[.exit 0],jb,Xw,tB⟩
abbrev cu:=RX.run
abbrev atU:=RX.At
def axg:Rq Xw v9:=by
 intro s hI;refine ⟨λc1=>⟨?_,ak⟩,λ_=>trivial⟩
 ·(obtain ⟨h0,h1,h2,h3⟩:=hI;simp at c1;omega)
def iD:List Bd:=[]
def qz:RX.Ok:={}
def rW:RX.Pf (aAY):=⟨al0,λs h=>rfl,aze,axg⟩
def apk:SA 0 aFq RX:=s1 qz rW iD kN
def arP:Fi jb Xw aAY atU cu:=AS.fin qz rW
theorem ana (s:KQ) (hE:jb s):(λs:KQ=>JH s.first<|s.l.drop s.i.toNat) (cu s)=(λs:KQ=>JH s.first<|s.l.drop s.i.toNat) s:=by
 exact AS.KJ qz rW (λs:KQ=>JH s.first<|s.l.drop s.i.toNat) (λs hI=>by
  obtain ⟨h0,h1,h2,h3⟩:=hI;refine AH (λc1=>?_) λc1=>rfl
  have c1:s.i<s.n:=A8
  rw [AJ (x:=s.i+1)];rw [(gi_step h0 (show s.i<M s.l by omega)).1]
  rfl) s hE
def aJ9:List LV->T LV
 | [.v (Y J f),.xl (.int J) l]=> .req ((M l:Int)<=1000) (.ok<|JH f l)
 |_=> .no
def aup:=vm (S:=aJ9) func126 iD kN (L:=(λi=>if i=2 then RX.lp else Ak i)) (λb hb=>by
 rw [show BB _=[aFq] by kernel_rfl] at hb
 simp only [B7,Bu,Bt] at hb;subst hb;exact apk) (λargs lv h=>by
 unfold aJ9 at h;split at h
 ·rename_i f l
  refine Ap (.req (RX.q (⟨f,l,(M l:Int),0⟩:KQ))<|.ok (cu (⟨f,l,(M l:Int),0⟩:KQ)).first) ?_;obtain ⟨hl,rfl⟩:=h;refine Lg ⟨⟨rfl,rfl,hl⟩,rfl,rfl⟩ λhE=>?_
  obtain ⟨s',_,q1,q2⟩:=arP _ hE.1
  have q3:=ana _ hE.1
  simp only at q3;rw [q2] at q3
  have e:(cu ⟨f,l,(M l:Int),0⟩).n=(M l:Int):=rfl
  have e2:(cu ⟨f,l,(M l:Int),0⟩).l=l:=rfl
  rw [e,e2,En A0] at q3;exact Az (λz=>LV.v<|Y J z) q3
 ·cases h)
def aJ5:List LV->T LV
 | [.v (.agg ⟨[.string nm,Y J up_,Y J li,Y J ne,Y J ra,Y J he,Y J am,Y J mo,Y J ga,Y J lo,Y J de]⟩)]=> .ok (D6 (nm,up_,li,ne,(ra,he),am,mo,ga,lo,de))
 |_=> .no
def am8:List Bd:=[auk,aup]
def qn:=vo (S:=aJ5) func86 am8 kN (λargs lv h=>by
 unfold aJ5 at h;split at h
 ·rename_i nm up_ li ne ra he am mo ga lo de
  refine Ap (letI a:=(My (am,mo,ga,lo,de));.br ((pmE (am,mo,ga,lo,de)) !=0) (.br (ra==0) (.req ((M ([ne,(0:Int)]):Int)<=1000)<|.ok<|JH li<|[ne,(0:Int)])<|.req ((M ([ne,(0:Int),ra]):Int)<=1000)<|.ok<|JH li<|[ne,(0:Int),ra])<|.br (ra==0) (.req ((M ([ne,a]):Int)<=1000)<|.ok<|JH li<|[ne,a])<|.req ((M ([ne,a,ra]):Int)<=1000)<|.ok<|JH li<|[ne,a,ra]) ?_;obtain rfl:=h;unfold D6;simp only;refine ⟨λc=>?_,λc=>?_⟩
  ·have e:My (am,mo,ga,lo,de)=0:=by
    rw [aqT] at c
    have c:IU (am,mo,ga,lo,de)=false:=Ic
    unfold My;rw [c];rfl
   rw [e];refine ⟨λc2=>⟨AI,?_⟩,λc2=>⟨AI,?_⟩⟩
   ·rw [AD EI];rfl
   ·rw [AE EI];rfl
  ·refine ⟨λc2=>⟨AI,?_⟩,λc2=>⟨AI,?_⟩⟩
   ·rw [AD A8];rfl
   ·rw [AE A8];rfl
 ·cases h)
def aIf:List LV->T LV
 | [.v (Y J k),.xq 5 q0,.xq 2 q1]=>(match ([q0 0,q0 1,q0 2,q0 3,q0 4]:List LV) with
  | [.xl (.pair .str (.pair (.int J) (.pair (.int J) (.pair (.int J) (.pair (.pair (.int J) (.int J)) (.pair (.int J) (.pair (.int J) (.pair (.int J) (.pair (.int J) (.int J)))))))))) cs,.xl (.str) os,.xl (.pair .str (.pair (.int J) (.pair (.int J) (.int J)))) ks,.xl (.pair .str (.pair (.int J) (.pair (.int J) (.pair (.int J) (.pair (.int J) (.pair (.int J) (.pair (.int J) (.int J)))))))) gs,.xl (.pair .str (.int J)) bs]=>(match ([q1 0,q1 1]:List LV) with
  | [.v (Y J c),.v (Y J p)]=> .req ((0<=k/\k<(M gs:Int))/\0<=p) (.ok<|usA (AG gs k).2.2.1 p)
  |_=> .no)
  |_=> .no)
 |_=> .no
def ars (k:Int) (cs:List Cd) (os:List ByteArray) (ks:List Ko) (gs:List Ch) (bs:List Ba) (c p:Int):Bg prog AU (iD) kN Ak f176 [k,xQ 5 [cs,os,ks,gs,bs],xQ 2 [c,p]]=.ix k (M gs) (.req (0<=p)<|.ok<|.v<|.bool<|(Bf J (AG gs k).2.2.1<|AA<|(1:Int)*2^(min p.toNat 64)) !=0):=AT
def aJo:=vo (S:=aIf) func176 iD kN (λargs lv h=>by
 refine ⟨?_⟩;unfold aIf at h;split at h
 ·split at h
  case h_2=>cases h
  rename_i heq0;split at h
  case h_2=>cases h
  rename_i heq1;simp only [canL,canX];rw [Dv (n:=5) heq0];rw [Dv (n:=2) heq1];simp only [canL,canX];rw [ars];obtain ⟨⟨h1,h2⟩,h3⟩:=h;exact ⟨h1,h2,h3⟩
 ·cases h)
structure JY where
 cs:List Cd
 os:List ByteArray
 ks:List Ko
 gs:List Ch
 bs:List Ba
 (c p:Int)
 l:List Int
 (n i:Int)
 out:List Int
def aFS:=bN f175 0
def zJ (s:JY):T (Rd JY):=letI a:=gi s.l s.i;.br (an<|s.i<s.n) (.ix s.i (M s.l)<|.req ((0<=a/\a<(M s.gs:Int))/\0<=s.p)<|.br (usA (AG s.gs a).2.2.1 s.p) (.rb (M s.out) (M<|[a]) 8<|.re (M s.out+M ([a])) (s.out++([a]))<|.nx {s with i:=AA<|s.i+1,out:=s.out++([a])})<|.rl s.out<|.nx {s with i:=AA<|s.i+1})<|.rl s.out<|.so (.exit 0) s
def Yx (s:JY):Prop:=s.i=0/\s.out=[]/\s.n=(M s.l:Int)/\s.n<=1000/\0<=s.p/\∀k∈s.l,0<=k/\k<(M s.gs:Int)
def Xf (s:JY):Prop:=(0<=s.i/\s.i<=s.n)/\(M s.out:Int)<=s.i/\s.n=(M s.l:Int)/\s.n<=1000/\0<=s.p/\∀k∈s.l,0<=k/\k<(M s.gs:Int)
def fD (s:JY):Nat:=(s.n-s.i).toNat
def aAE (x:Ex) (s s':JY):Prop:=x=.exit 0/\s'.i=s'.n
theorem alI:∀s,Yx s->Xf s:=by
 rintro s ⟨h0,h1,h2,h3,h4,h5⟩
 exact ⟨A0,A8,h2,h3,h4,h5⟩
theorem ahH:Da Xf fD aAE zJ:=by
 intro s hI;obtain ⟨⟨h0,h1⟩,h2,h3,h4,h5,h6⟩:=hI;refine AH (λc1=>?_) λc1=>?_
 ·have c1:s.i<s.n:=AX
  rw [AJ (x:=s.i+1)];refine AH (λc2=>?_) λc2=>?_
  ·exact ⟨⟨⟨AZ,AZ⟩,A8,h3,h4,h5,h6⟩,by simp only [fD];omega⟩
  ·exact ⟨⟨⟨A8,A8⟩,AZ,h3,h4,h5,h6⟩,by simp only [fD];omega⟩
 ·have c1:s.n<=s.i:=AX
  exact V8
def QX:AS JY:=⟨0,23,[1,5,8,9,10],[.nl 5 3 A7],λs=>[.fn 176 [xQ 5 [s.cs,s.os,s.ks,s.gs,s.bs],xQ 2 [s.c,s.p]],.os 0 1 0<|M s.out,.xl A7 s.l,s.n,s.i],λs=>[bV 3 A7 s.out],λv b=>⟨Ao Ad<|BQ (gFn (v.getD 0 .junk) 0) 0,Ao .str<|BQ (gFn (v.getD 0 .junk) 0) 1,Ao Ah<|BQ (gFn (v.getD 0 .junk) 0) 2,Ao Af<|BQ (gFn (v.getD 0 .junk) 0) 3,Ao Ai<|BQ (gFn (v.getD 0 .junk) 0) 4,gI<|BQ (gFn (v.getD 0 .junk) 1) 0,gI<|BQ (gFn (v.getD 0 .junk) 1) 1,B5 A7 v 2,AK v 3,AK v 4,Ab A7 b 0⟩,zJ,λs r=> {s with i:=r.i,out:=r.out},λs=>s,λ_ s=>s,[.exit 0],Yx,Xf,fD⟩
abbrev Vp:=QX.run
abbrev asi:=QX.At
def axN:Rq Xf zJ:=by
 intro s hI;refine ⟨λc1=>⟨?_,?_,λc2=>⟨?_,?_,ak⟩,λc2=>⟨A9,ak⟩⟩,λc1=>⟨A9,ak⟩⟩
 all_goals ((obtain ⟨⟨h0,h1⟩,h2,h3,h4,h5,h6⟩:=hI;(try simp only [Aa] at c1);first|omega|(refine ⟨h6 _ ?_,h5⟩;rw [IF A0];exact HS _) |(refine ⟨A0,?_,?_⟩<;>simp only [Bc,Bn]<;>omega) |exact ⟨rfl,AI⟩ |exact ⟨rfl,rfl⟩))
def zr:List Bd:=[aJo]
def rC:QX.Ok:={}
def rY:QX.Pf (aAE):=⟨alI,λs h=>rfl,ahH,axN⟩
def apT:SA 0 aFS QX:=s1 rC rY zr kN
def atr:Fi Yx Xf aAE asi Vp:=AS.fin rC rY
theorem aoB (s:JY) (hE:Yx s):(λs:JY=>s.out++Bs s.gs s.p (s.l.drop s.i.toNat)) (Vp s)=(λs:JY=>s.out++Bs s.gs s.p (s.l.drop s.i.toNat)) s:=by
 exact AS.KJ rC rY (λs:JY=>s.out++Bs s.gs s.p (s.l.drop s.i.toNat)) (λs hI=>by
  obtain ⟨⟨h0,h1⟩,h2,h3,h4,h5,h6⟩:=hI;refine AH (λc1=>?_) λc1=>rfl
  have c1:s.i<s.n:=A8
  rw [AJ (x:=s.i+1)];refine AH (λc2=>?_) λc2=>?_
  ·show _++Bs _ _ _=_++Bs _ _ _
   rw [(gi_step h0 (show s.i<M s.l by omega)).1]
   simp [Bs,N1,c2]
  ·show _++Bs _ _ _=_++Bs _ _ _
   rw [(gi_step h0 (show s.i<M s.l by omega)).1]
   simp [Bs,N1,c2]) s hE
def atq (s:JY) (hE:Yx s):(Vp s).out=Bs s.gs s.p s.l:=by
 obtain ⟨s',_,q1,q2⟩:=atr s hE
 have q3:=aoB s hE
 obtain ⟨h0,h1,h2,h3⟩:=hE;simp only at q3;rw [q2,show (Vp s).n=s.n from rfl,show (Vp s).l=s.l from rfl,En A0,h0,h1] at q3
 simpa [Bs] using q3
def aJf:List LV->T LV
 | [.xl (.int J) l,.fn 176 [.xq 5 q0,.xq 2 q1]]=>(match ([q0 0,q0 1,q0 2,q0 3,q0 4]:List LV) with
  | [.xl (.pair .str (.pair (.int J) (.pair (.int J) (.pair (.int J) (.pair (.pair (.int J) (.int J)) (.pair (.int J) (.pair (.int J) (.pair (.int J) (.pair (.int J) (.int J)))))))))) cs,.xl (.str) os,.xl (.pair .str (.pair (.int J) (.pair (.int J) (.int J)))) ks,.xl (.pair .str (.pair (.int J) (.pair (.int J) (.pair (.int J) (.pair (.int J) (.pair (.int J) (.pair (.int J) (.int J)))))))) gs,.xl (.pair .str (.int J)) bs]=>(match ([q1 0,q1 1]:List LV) with
  | [.v (Y J c),.v (Y J p)]=> .req (XN gs p l) (.ok<|.xl A7<|Bs gs p l)
  |_=> .no)
  |_=> .no)
 |_=> .no
def as9 (l:List Int) (cs:List Cd) (os:List ByteArray) (ks:List Ko) (gs:List Ch) (bs:List Ba) (c p:Int):letI a:=(Vp (⟨cs,os,ks,gs,bs,c,p,l,(M l:Int),(0:Int),([]:List Int)⟩:JY));Bg prog AU (zr) kN (λi=>if i=3 then QX.lp else Ak i) f175 [.xl A7 l,.fn 176 [xQ 5 [cs,os,ks,gs,bs],xQ 2 [c,p]]]=.r0 Int (.req (QX.q (⟨cs,os,ks,gs,bs,c,p,l,(M l:Int),(0:Int),([]:List Int)⟩:JY))<|.rz a.out<|.ok<|.xl A7<|(a.out.drop 0).take<|M a.out):=AT
def auY:=vm (S:=aJf) func175 zr kN (L:=(λi=>if i=3 then QX.lp else Ak i)) (λb hb=>by
 rw [show BB _=[aFS] by kernel_rfl] at hb
 simp only [B7,Bu,Bt] at hb;subst hb;exact apT) (λargs lv h=>by
 refine ⟨?_⟩;unfold aJf at h;split at h
 ·split at h
  case h_2=>cases h
  rename_i heq0;split at h
  case h_2=>cases h
  rename_i heq1;simp only [canL,canX];rw [Dv (n:=5) heq0];simp only [canL,canX];rw [Dv (n:=2) heq1];simp only [canL,canX];rw [as9];obtain ⟨⟨hp,hl,hm⟩,rfl⟩:=h;refine ⟨A9,Lg ⟨⟨rfl,rfl,rfl,AZ,hp,hm⟩,rfl,rfl⟩ λhE=>⟨A0,?_⟩⟩
  show LV.xl _ _=_
  rw [CP,EY,atq _ hE.1]
 ·cases h)
def zT:Array Tmp×Code×Code:=((Ik<|f133.body.getD .skip)[0]?).getD (#[],.skip,.skip)
def akB:Array Tmp:=zT.1
def ajg:Code:=zT.2.1
def akI:Code:=zT.2.2
structure O7 where
 (n c:Int)
 El:List Cd
 ON:List ByteArray
 OG:List Ko
 DI:List Ch
 OR:List Ba
 below:List Int
 K0:List Cd
 K6:List ByteArray
 K5:List Ko
 K4:List Ch
 KF:List Ba
 rows:List Rw
 st:LS
def m6 (s:O7):T (Rd O7):=letI a:=Pv s.El s.ON s.OG s.DI s.OR s.c;letI b:=D6<|Ac s.El s.c;letI d:=(b,Bs s.DI (0:Int) a);letI e:=(b,Bs s.DI (1:Int) a);letI f:=(b,Bs s.DI (2:Int) a);letI g:=(an<|(M (Bs s.DI (2:Int) a):Int)>0);letI h:=s.rows++([d]);letI i:=M s.rows+M ([d])+M ([e]);letI j:=AA<|s.c+1;letI k:=M s.rows+M ([d])+M ([e])+M ([f]);letI l:=M s.El;letI m:=M s.rows+M ([d]);letI o:=s.rows++([e]);letI p:=(XN s.DI (2:Int) a);letI q:=M s.rows+M ([d])+M ([f]);letI r:=M s.rows+M ([e])+M ([f]);letI t:=(an<|(M (Bs s.DI (1:Int) a):Int)>0);letI u:=h++([e]);letI v:=M s.rows+M ([e]);letI w:=M s.rows;.br (an<|s.c<s.n) (.req (XN s.DI (0:Int) a)<|.br (an<|(M (Bs s.DI (0:Int) a):Int)>0) (.ix s.c l<|.rb w (M<|[d]) 32<|.req (XN s.DI (1:Int) a)<|.br t (.ix s.c l<|.ra m (M h) i 32<|.req p<|.br g (.ix s.c l<|.ra i (M u) k 32<|.re k (u++([f]))<|.nx {s with c:=j,below:=a,rows:=(u++([f]))})<|.re i u<|.nx {s with c:=j,below:=a,rows:=u})<|.req p<|.br g (.ix s.c l<|.ra m (M h) q 32<|.re q (h++([f]))<|.nx {s with c:=j,below:=a,rows:=(h++([f]))})<|.re m h<|.nx {s with c:=j,below:=a,rows:=h})<|.req (XN s.DI (1:Int) a)<|.br t (.ix s.c l<|.rb w (M<|[e]) 32<|.req p<|.br g (.ix s.c l<|.ra v (M o) r 32<|.re r (o++([f]))<|.nx {s with c:=j,below:=a,rows:=(o++([f]))})<|.re v o<|.nx {s with c:=j,below:=a,rows:=o})<|.req p<|.br g (.ix s.c l<|.rb w (M<|[f]) 32<|.re (M s.rows+M ([f])) (s.rows++([f]))<|.nx {s with c:=j,below:=a,rows:=(s.rows++([f]))})<|.rl s.rows<|.nx {s with c:=j,below:=a})<|.rl s.rows<|.so (.exit 0) s
def mh (s:O7):Prop:=s.st=.ready/\s.c=0/\s.rows=[]/\BA s.El s.ON s.OG s.DI s.OR=U/\s.n=(M s.El:Int)
def aZ (s:O7):Prop:=s.st=.ready/\(0<=s.c/\s.c<=s.n)/\s.rows=Cs s.El s.DI s.c.toNat/\BA s.El s.ON s.OG s.DI s.OR=U/\s.n=(M s.El:Int)
def zf (s:O7):Nat:=(s.n-s.c).toNat
def wM (x:Ex) (s s':O7):Prop:=x=.exit 0/\s'.rows=Cs s'.El s'.DI (M s'.El)
def amX:∀s,mh s->aZ s:=by
 rintro s ⟨h0,h1,h2,h3,h4⟩
 exact ⟨h0,A0,by rw [h1,h2];rfl,h3,h4⟩
theorem aj0:Da aZ zf wM m6:=by
 intro s hI;unfold m6;obtain ⟨h0,⟨h1,h2⟩,h3,h4,h5⟩:=hI;refine AH (λc1=>?_) λc1=>?_
 rotate_left
 ·have c1:s.n<=s.c:=AX
  exact ⟨rfl,A8⟩
 have c1:s.c<s.n:=AX
 have hl:=(D5.1 h4).1
 rw [AJ (x:=s.c+1)]
 have eb:Pv s.El s.ON s.OG s.DI s.OR s.c=Co s.El s.DI s.c (M s.DI):=by
  unfold Pv
  grind
 rw [eb]
 have fin:∀r:List Rw,r=Cs s.El s.DI s.c.toNat++(rowP s.El s.DI s.c 0++rowP s.El s.DI s.c 1++rowP s.El s.DI s.c 2)->r=Cs s.El s.DI (s.c+1).toNat:=λr hr=>by
  rw [hr,show (s.c+1).toNat=s.c.toNat+1 by omega,Cs,CL h1]
  rfl
 refine AH (λc2=>?_) (λc2=>?_)<;>refine AH (λc3=>?_) (λc3=>?_)<;>refine AH (λc4=>?_) λc4=>?_
 all_goals
  refine ⟨⟨h0,⟨AZ,AZ⟩,?_,h4,h5⟩,by simp only [zf];omega⟩
  simp only [Aa,D3] at c2 c3 c4;refine fin _ ?_;simp only [h3,rowP]
  first|rw [AD A0] |rw [AE A0]
  first|rw [AD A0] |rw [AE A0]
  first|rw [AD A0] |rw [AE A0]
  grind
def aV:AS O7:=⟨5,22,[0,7,8],[.nc 1 0 298 Ei,.pc 2 0 A7,.pk 0],λs=>[.CK 4,s.n,s.c],λs=>[⟨[s.El,s.ON,s.OG,s.DI,s.OR],28,.cl,U⟩,⟨[.os 5 2 0<|M s.rows],257,.cl,X⟩,⟨[.xl A7 s.below],29,.cl,X⟩,⟨[s.K0,s.K6,s.K5,s.K4,s.KF],28,.cl,X⟩,⟨[.junk,.own 0 0,.junk,.junk,.own 1 0,.own 2 0,.v<|.tuple #[],.v<|.tuple #[],.junk,.junk,.junk,.junk,.junk,.v<|.tuple #[],.v<|.tuple #[],.v<|.tuple #[],.v<|.tuple #[],.v<|.tuple #[],.v<|.tuple #[],.v<|.tuple #[],.v<|.tuple #[],.v<|.tuple #[],.v<|.tuple #[],.junk,.v<|.tuple #[],.v<|.tuple #[],.v<|.tuple #[],.v<|.tuple #[],.v<|.tuple #[],.v<|.tuple #[],.v<|.tuple #[],.v<|.tuple #[],.v<|.tuple #[],.v<|.tuple #[],.v<|.tuple #[],.v<|.tuple #[],.v<|.tuple #[],.v<|.tuple #[],.v<|.tuple #[],.v<|.tuple #[],.v<|.tuple #[],.v<|.tuple #[],.junk],0,.Cc akB ajg akI s.st,X⟩,bV 298 Ei s.rows],λv b=>⟨AK v 1,AK v 2,AF Ad b 0 0,AF .str b 0 1,AF Ah b 0 2,AF Af b 0 3,AF Ai b 0 4,AF A7 b 2 0,AF Ad b 3 0,AF .str b 3 1,AF Ah b 3 2,AF Af b 3 3,AF Ai b 3 4,Ab Ei b 5,.ready⟩,m6,λs r=> {r with n:=s.n,El:=s.El,ON:=s.ON,OG:=s.OG,DI:=s.DI,OR:=s.OR,K0:=s.K0,K6:=s.K6,K5:=s.K5,K4:=s.K4,KF:=s.KF,st:=s.st},λs=> {s with st:=.ready},λx s=> {s with st:=(match x with| .exit 0=> .ready|_=> .ready)},[.exit 0],mh,aZ,zf⟩
abbrev pE:=aV.run
abbrev agQ:=aV.At
def Tt:List Bd:=[Om,qn,ap0,auY,aJo]
def akK:Aw:=kI Tt<|l0 Tt
def aik:Rq aZ m6:=by
 intro s hI;refine ⟨λc1=>⟨?_,λc2=>⟨?_,?_,?_,λc3=>⟨?_,?_,?_,λc4=>⟨?_,?_,?_,ak⟩,λc4=>⟨?_,ak⟩⟩,λc3=>⟨?_,λc5=>⟨?_,?_,?_,ak⟩,λc5=>⟨?_,ak⟩⟩⟩,λc2=>⟨?_,λc6=>⟨?_,?_,?_,λc7=>⟨?_,?_,?_,ak⟩,λc7=>⟨?_,ak⟩⟩,λc6=>⟨?_,λc8=>⟨?_,?_,?_,ak⟩,λc8=>⟨A9,ak⟩⟩⟩⟩,λc1=>⟨A9,ak⟩⟩
 all_goals ((obtain ⟨h0,⟨h1,h2⟩,h3,h4,h5⟩:=hI;have hl:=(D5.1 h4).1;(try simp only [Aa] at c1);have hr:M s.rows<=3*s.c.toNat:=(by rw [h3];exact oG);have eb:Pv s.El s.ON s.OG s.DI s.OR s.c=Co s.El s.DI s.c (M s.DI):=(by unfold Pv;rw [AD ⟨h4,h1,A0⟩]);first|omega|((try simp only);rw [eb];refine ⟨Ae,HU oM A0,λk hk=>cS hk⟩) |(refine ⟨A0,?_,?_⟩<;>simp only [BD,Bc,Bn]<;>omega) |(simp only [BD,Bc,Bn];omega) |exact ⟨rfl,AI⟩ |exact ⟨rfl,rfl⟩))
def aam:aV.Ok:={}
def aaV:aV.Pf (wM):=⟨amX,λs h=>by
 obtain ⟨n,c,El,ON,OG,DI,OR,below,K0,K6,K5,K4,KF,rows,st⟩:=s
 have e:=h.1
 subst e;rfl,aj0,aik⟩
def avM:=s2 (b:=bN f124 0) aam aaV Tt akK
def awv:Fi mh aZ wM agQ pE:=AS.fin aam aaV
def aIg:List LV->T LV
 | .agg a::r=>s5 a λcs os ks gs bs=>(match r with
  | []=> .ok (.AM [.xl Ei<|JW cs os ks gs bs,OC cs os ks gs bs])
  |_=> .no)
 |_=> .no
def akJ:Aw:=kI Tt<|la 1 func124 avM<|l0 Tt
def WQ:=vo (S:=aIg) func133 Tt akJ (λargs lv h=>by
 unfold aIg at h;split at h
 case h_2=>cases h
 replace h:=IC h
 obtain ⟨cs,os,ks,gs,bs,rfl,h⟩:=h;split at h
 ·refine Ap (letI a:=(pE (⟨(M cs:Int),0,cs,os,ks,gs,bs,([]:List Int),cs,os,ks,gs,bs,([]:List Rw),.ready⟩:O7));.br (!(BA cs os ks gs bs)) (.ok<|.AM [.xl Ei ([]:List Rw),(1:Int)])<|.r0 Rw<|.req (aV.q (⟨(M cs:Int),0,cs,os,ks,gs,bs,([]:List Int),cs,os,ks,gs,bs,([]:List Rw),.ready⟩:O7))<|.rz a.rows<|.ok<|.AM [.xl Ei<|(a.rows.drop 0).take<|M a.rows,(0:Int)]) ?_
  obtain rfl:=h;refine ⟨λc=>?_,λc=>?_⟩
  ·have c:BA cs os ks gs bs=false:=A8
   unfold JW OC;rw [c];rfl
  ·have c:BA cs os ks gs bs=true:=A8
   have hE:mh ⟨(M cs:Int),0,cs,os,ks,gs,bs,([]:List Int),cs,os,ks,gs,bs,([]:List<|Int×(List Int)),.ready⟩:=⟨rfl,rfl,rfl,c,rfl⟩
   obtain ⟨s',_,q1,q2⟩:=awv _ hE
   have q2:(pE ⟨(M cs:Int),0,cs,os,ks,gs,bs,([]:List Int),cs,os,ks,gs,bs,([]:List<|Int×(List Int)),.ready⟩).rows=Cs cs gs (M cs):=q2
   refine ⟨A9,⟨hE,rfl,rfl⟩,A0,?_⟩
   show LV.AM [LV.xl _ _,_]=_
   unfold JW OC
   grind
 ·cases h)
def aDj:List LV->T LV
 | [.v (Y J n),.v (Y J a),.v (Y J b)]=> .ok (inB n a b)
 |_=> .no
def KU:List Bd:=[]
def cQ:=vo (S:=aDj) func111 KU kN (λargs lv h=>by
 unfold aDj at h;split at h
 ·rename_i n a b
  refine Ap (.ok<|.v<|.bool<|(an<|n>=a)&&(an<|n<=b)) ?_;exact h
 ·cases h)
def aS4:List LV->T LV
 | [.v (.agg ⟨[.string nm,Y J at_,Y J ph,Y J mn,Y J mx,Y J st,Y J fb,Y J ow]⟩)]=> .ok (IT ph mn mx st fb)
 |_=> .no
def am6:List Bd:=[cQ]
def aa4:=vo (S:=aS4) func151 am6 kN (λargs lv h=>by
 unfold aS4 at h;split at h
 ·rename_i nm at_ ph mn mx st fb ow
  refine Ap (.ok<|.v<|.bool<|(inB ph (1:Int) (7:Int))&&((inB mn (1:Int) (80:Int))&&((inB mx (1:Int) (80:Int))&&((inB st (1:Int) (80:Int))&&((an<|mn<=mx)&&((fb==0) ||(inB fb mn mx))))))) ?_;exact h
 ·cases h)
def aFd:List LV->T LV
 | []=> .ok (.v<|.agg #[(0:Int),(0:Int),(0:Int),X])
 |_=> .no
def anp  :Bg prog AU KU kN Ak f28 []=.ok (.v<|.agg #[(0:Int),(0:Int),(0:Int),X]):=AT
def WI:=vo (S:=aFd) func28 KU kN (λargs lv h=>by
 refine ⟨?_⟩;unfold aFd at h;split at h
 ·simp only [canL]
  rwa [anp]
 ·cases h)
def aSw:List LV->T LV
 | [.v (.agg ⟨[.string nm,Y J at_,Y J ph,Y J mn,Y J mx,Y J st,Y J fb,Y J ow]⟩),.v (.agg ⟨[Y J 0,Y J 0,Y J 0,.bool X]⟩)]=> .ok (IT ph mn mx st fb)
 |_=> .no
def am5:List Bd:=[WI,cQ,aa4]
def ajE:=vo (S:=aSw) func98 am5 kN (λargs lv h=>by
 unfold aSw at h;split at h
 ·rename_i nm at_ ph mn mx st fb ow
  refine Ap (.br (!(IT ph mn mx st fb)) (.ok X)<|.br (((0:Int)==0)&&(((0:Int)==0)&&(((0:Int)==0)&&(X==X)))) (.ok U)<|.ok<|.v<|.bool<|(inB (0:Int) (0:Int) (5:Int))&&((inB (0:Int) (0:Int) (1000000:Int))&&((inB (0:Int) (0:Int) mx)&&(if (0:Int) !=0 then (!X) ||((0:Int)==5) else ((0:Int)==0)&&((!X) ||((0:Int)==5)))))) ?_
  obtain rfl:=h;refine ⟨λhb=>?_,λhb=>⟨λ_=>?_,λhf=>absurd hf Ae⟩⟩
  ·show LV.v (.bool X)=_
   rw [show IT _ _ _ _ _=X by simpa using hb]
  ·show LV.v (.bool U)=_
   rw [show IT _ _ _ _ _=U by simpa using hb]
 ·cases h)
def aIk:List LV->T LV
 | [.v (.agg ⟨[.string nm,Y J at_,Y J ph,Y J mn,Y J mx,Y J st,Y J fb,Y J ow]⟩),.v (Y J am)]=> .req (Dz mn mx st) (.ok<|Bv mn mx st am)
 |_=> .no
def aJq:=vo (S:=aIk) func140 KU kN (λargs lv h=>by
 unfold aIk at h;split at h
 ·rename_i nm at_ ph mn mx st fb ow am
  refine Ap (.br (an<|am<mn) (.ok (0:Int))<|.req (st≠0)<|.ok<|AA<|(if mx<am then mx else am)-((AA<|(if mx<am then mx else am)-mn).tmod st)) ?_
  obtain ⟨hc,rfl⟩:=h;refine ⟨λhb=>?_,λhb=>⟨by unfold Dz at hc;omega,?_⟩⟩
  ·exact Az (λz=>LV.v<|Y J z)<|ahP A8
  ·exact Az (λz=>LV.v<|Y J z)<|ahO hc A8
 ·cases h)
def aSA:List LV->T LV
 | [.v (.agg ⟨[.string nm,Y J at_,Y J ph,Y J mn,Y J mx,Y J st,Y J fb,Y J ow]⟩),.v (.agg ⟨[Y J a,Y J si]⟩)]=> .ok (Hy ph mn mx st fb a si)
 |_=> .no
def am4:List Bd:=[WI,ajE,aJq]
def aa9:=vo (S:=aSA) func135 am4 kN (λargs lv h=>by
 unfold aSA at h;split at h
 ·rename_i nm at_ ph mn mx st fb ow a si
  refine Ap (.br ((!(IT ph mn mx st fb)) ||((an<|si<0) ||((an<|si>1000000) ||(an<|a<0)))) (.ok X)<|.req (Dz mn mx st)<|.ok<|.v<|.bool<|(Bv mn mx st a)==a) ?_;obtain rfl:=h;refine ⟨λhb=>?_,λhb=>⟨?_,?_⟩⟩
  ·exact Az (λz=>LV.v<|.bool z)<|amf hb
  ·exact (aK9 hb).1
  ·exact Az (λz=>LV.v<|.bool z) (aK9 hb).2
 ·cases h)
def aFi:List LV->T LV
 | [.v (.bool b)]=> .ok (.v<|Y J (if b then (1:Int) else 0))
 |_=> .no
def aox:=vo (S:=aFi) func145 KU kN (λargs lv h=>by
 unfold aFi at h;split at h
 ·rename_i b
  refine Ap (.br b (.ok (1:Int))<|.ok (0:Int)) ?_;obtain rfl:=h;cases b
  ·exact ⟨λhb=>L1,λ_=>rfl⟩
  ·exact ⟨λ_=>rfl,λhb=>L1⟩
 ·cases h)
def aSK:List LV->T LV
 | [.xq 8 q0]=>(match ([q0 0,q0 1,q0 2,q0 3,q0 4,q0 5,q0 6,q0 7]:List LV) with
  | [.v (.string nm),.v (Y J at_),.v (Y J ph),.v (Y J mn),.v (Y J mx),.v (Y J st),.v (Y J fb),.v (Y J ow)]=> .ok (.v<|.agg #[mn,(0:Int)])
  |_=> .no)
 |_=> .no
def ayH (nm:ByteArray) (at_ ph mn mx st fb ow:Int):Bg prog AU KU kN Ak f141 [xQ 8 [.v<|.string nm,at_,ph,mn,mx,st,fb,ow]]=.ok (.v<|.agg #[mn,(0:Int)]):=AT
def aj3:=vo (S:=aSK) func141 KU kN (λargs lv h=>by
 refine ⟨?_⟩;unfold aSK at h;split at h
 ·split at h
  case h_2=>cases h
  rename_i heq0;simp only [canL,canX];rw [Dv (n:=8) heq0];simp only [canL,canX]
  rwa [ayH]
 ·cases h)
def aSJ:List LV->T LV
 | [.xq 1 q0]=>(match ([q0 0]:List LV) with
  | [.v (Y J lo)]=> .ok (.v<|.agg #[(0:Int),lo])
  |_=> .no)
 |_=> .no
def ayG (lo:Int):Bg prog AU KU kN Ak f142 [xQ 1 [lo]]=.ok (.v<|.agg #[(0:Int),lo]):=AT
def aj2:=vo (S:=aSJ) func142 KU kN (λargs lv h=>by
 refine ⟨?_⟩;unfold aSJ at h;split at h
 ·split at h
  case h_2=>cases h
  rename_i heq0;simp only [canL,canX];rw [Dv (n:=1) heq0];simp only [canL,canX]
  rwa [ayG]
 ·cases h)
def aSI:List LV->T LV
 | []=> .ok (.v<|.agg #[(0:Int),(0:Int)])
 |_=> .no
def ayF  :Bg prog AU KU kN Ak f143 []=.ok (.v<|.agg #[(0:Int),(0:Int)]):=AT
def aj1:=vo (S:=aSI) func143 KU kN (λargs lv h=>by
 refine ⟨?_⟩;unfold aSI at h;split at h
 ·simp only [canL]
  rwa [ayF]
 ·cases h)
def aSH:List LV->T LV
 | [.xq 1 q0,.xq 2 q1,.xq 8 q2,.xq 1 q3]=>(match ([q0 0]:List LV) with
  | [.v (Y J lv)]=>(match ([q1 0,q1 1]:List LV) with
  | [.v (Y J a),.v (Y J si)]=>(match ([q2 0,q2 1,q2 2,q2 3,q2 4,q2 5,q2 6,q2 7]:List LV) with
  | [.v (.string nm),.v (Y J at_),.v (Y J ph),.v (Y J mn),.v (Y J mx),.v (Y J st),.v (Y J fb),.v (Y J ow)]=>(match ([q3 0]:List LV) with
  | [.v (Y J lo)]=> .ok (.v<|.agg #[Y J (if AA (a+st)<lv then AA (a+st) else lv),lo])
  |_=> .no)
  |_=> .no)
  |_=> .no)
  |_=> .no)
 |_=> .no
def ayE (lv a si:Int) (nm:ByteArray) (at_ ph mn mx st fb ow lo:Int):Bg prog AU KU kN Ak f144 [xQ 1 [lv],xQ 2 [a,si],xQ 8 [.v<|.string nm,at_,ph,mn,mx,st,fb,ow],xQ 1 [lo]]=.ok (.v<|.agg #[Y J (if (AA<|a+st)<lv then AA (a+st) else lv),lo]):=AT
def aiE:=vo (S:=aSH) func144 KU kN (λargs lv h=>by
 refine ⟨?_⟩;unfold aSH at h;split at h
 ·split at h
  case h_2=>cases h
  rename_i heq0;split at h
  case h_2=>cases h
  rename_i heq1;split at h
  case h_2=>cases h
  rename_i heq2;split at h
  case h_2=>cases h
  rename_i heq3;simp only [canL,canX];rw [Dv (n:=1) heq0];rw [Dv (n:=2) heq1];rw [Dv (n:=8) heq2];rw [Dv (n:=1) heq3];simp only [canL,canX]
  rwa [ayE]
 ·cases h)
def az8 {a l si:Int}:Ua ((if (a !=0) then (1:Int) else 0).toNat*4+((if (l !=0) then (1:Int) else 0).toNat*2+((if (an<|si>=5) then (1:Int) else 0).toNat*1+0)))=if a=0 then (if l=0 then 1 else if 5<=si then 0 else 1) else if l=0 then 2 else 3:=by
 by_cases c1:a=0<;>by_cases c2:l=0<;>by_cases c3:5<=si<;>simp [c1,c2,c3,Ua]
def aJ1:List LV->T LV
 | [.v (.agg ⟨[.string nm,Y J at_,Y J ph,Y J mn,Y J mx,Y J st,Y J fb,Y J ow]⟩),.v (.agg ⟨[Y J a,Y J si]⟩),.v (Y J want)]=> .tu #[.agg #[nA ph mn mx st fb a si want,nS ph mn mx st fb a si want],nE ph mn mx st fb a si want]
 |_=> .no
def am3:List Bd:=[aa9,aJq,aj3,aj2,aj1,aiE,aox]
def aun:=vo (S:=aJ1) func92 am3 kN (λargs lv h=>by
 unfold aJ1 at h;split at h
 ·rename_i nm at_ ph mn mx st fb ow a si want
  refine Ap (letI d:=Bv mn mx st want;letI e:=an<|si>=5;letI c:=(Ua<|(if (a !=0) then (1:Int) else 0).toNat*4+((if (d !=0) then (1:Int) else 0).toNat*2+((if e then (1:Int) else 0).toNat*1+0)));.br ((!(Hy ph mn mx st fb a si)) ||((an<|want<0) ||(an<|want>80))) (.tu #[.agg #[(0:Int),(0:Int)],(1:Int)])<|.req (Dz mn mx st)<|.req (0<=(if (a !=0) then (1:Int) else 0)/\(if (a !=0) then (1:Int) else 0)<(2:Int))<|.req (0<=(if (d !=0) then (1:Int) else 0)/\(if (d !=0) then (1:Int) else 0)<(2:Int))<|.req (0<=(if e then (1:Int) else 0)/\(if e then (1:Int) else 0)<(2:Int))<|.br (c==0) (.tu #[.agg #[mn,(0:Int)],(0:Int)])<|.br (c==1) (.tu #[.agg #[(0:Int),Y J (if (1000000:Int)<(AA<|si+1) then 1000000 else AA (si+1))],(0:Int)])<|.br (c==2) (.tu #[.agg #[(0:Int),(0:Int)],(0:Int)])<|.br (c==3) (.tu #[.agg #[Y J (if AA (a+st)<d then AA (a+st) else d),Y J (if (1000000:Int)<(AA<|si+1) then 1000000 else AA (si+1))],(0:Int)])<|.no) ?_
  obtain rfl:=h
  by_cases hk:okB ph mn mx st fb a si want=U
  ·obtain ⟨k1,k2,k3,k4,k5⟩:=aGc hk
   have w1:AA (si+1)=si+1:=AJ
   have w2:AA (a+st)=a+st:=AJ
   have i0:∀b:Bool,0<=(if b=U then (1:Int) else 0)/\(if b=U then (1:Int) else 0)<2:=λb=>by cases b<;>simp
   simp only [T.all,nA,nS,nE,k1,w1,w2,hk,aHq,Br,az8,i0,FB]
   grind
  ·have hn:=aqa hk
   simp only [T.all,nA,nS,nE,hk,hn]
   simp
 ·cases h)
def aSv:List LV->T LV
 | [.v (Y J n),.v (Y J a),.v (Y J b)]=> .ok (inB n a b)
 |_=> .no
def aly:List Bd:=[]
def aTt:=vo (S:=aSv) func134 aly kN (λargs lv h=>by
 unfold aSv at h;split at h
 ·rename_i n a b
  refine Ap (.ok<|.v<|.bool<|(an<|n>=a)&&(an<|n<=b)) ?_;exact h
 ·cases h)
def aSl:List LV->T LV
 | [.v (.agg ⟨[.bool wa,Y J ow,Y J le,Y J ra]⟩)]=> .ok (HL (wa,ow,le,ra))
 |_=> .no
def alv:List Bd:=[aTt]
def aiB:=vo (S:=aSl) func136 alv kN (λargs lv h=>by
 unfold aSl at h;split at h
 ·rename_i wa ow le ra
  refine Ap (.ok<|.v<|.bool<|(inB ow (0:Int) (1000000000:Int))&&((inB le (0:Int) (1000000:Int))&&(inB ra (1:Int) (9:Int)))) ?_;exact h
 ·cases h)
structure MV where
 cs:List Cd
 os:List ByteArray
 ks:List Ko
 gs:List Ch
 bs:List Ba
 l:List Le
 d:List Dm
 t:Int
 od:List Int
 ajb:List Ra
 r:Bool
 n:Int
 m:List Le
 (k i:Int)
def aFy:=bN f90 0
def yx (s:MV):T (Rd MV):=
 .br (an<|s.i<s.k) (.ix s.i (M s.m)<|.br (an<|(Al s.m s.i).2.1>=s.n) (.so (.ret) {s with r:=X})<|.nx {s with i:=AA<|s.i+1}) (.so (.exit 0) s)
def Tg (s:MV) (j:Int):Bool:=an<|(Al s.m j).2.1<s.n
def jo (s:MV):Prop:=s.i=0/\0<=s.k/\s.k<=1000/\s.k=(M s.m:Int)
def Y4 (s:MV):Prop:=0<=s.i/\s.i<=s.k/\s.k<=1000/\(s.k=(M s.m:Int))/\∀j:Nat,(j:Int)<s.i->Tg s j=U
def sJ (s:MV):Nat:=(s.k-s.i).toNat
def aAf (x:Ex) (s s':MV):Prop:=(x=.exit 0/\∀j:Nat,(j:Int)<s'.k->Tg s' j=U)\/(x=.ret/\s'.r=X/\∃j:Nat,(j:Int)<s'.k/\Tg s' j=X)
def alW:∀s,jo s->Y4 s:=by
 exact Jx
theorem agh:Da Y4 sJ aAf yx:=by
 intro s hI;obtain ⟨h0,h1,h2,h3,h4⟩:=hI;refine AH (λc1=>AH (λc2=>?_) λc2=>?_) λc1=>?_
 ·have c1:s.i<s.k:=AX
  refine .inr ⟨rfl,rfl,s.i.toNat,A8,?_⟩
  have hg:Tg s s.i=false:=aNO
  exact hg
 ·have c1:s.i<s.k:=AX
  have hg:Tg s s.i=true:=aNO
  rw [AJ (x:=s.i+1)];refine ⟨⟨A8,A8,h2,h3,λj hj=>?_⟩,by simp only [sJ];omega⟩
  exact L0
 ·have c1:s.k<=s.i:=AX
  exact ZV
def Qn:AS MV:=⟨0,108,[0,1,6,9,67,68,69],[],λs=>[xQ 9 [s.cs,s.os,s.ks,s.gs,s.bs,s.l,s.d,s.t,.xl A7 s.od],s.ajb,s.r,s.n,s.m,s.k,s.i],λ_=>[],λv b=>⟨Ao Ad<|BQ (v.getD 0 .junk) 0,Ao .str<|BQ (v.getD 0 .junk) 1,Ao Ah<|BQ (v.getD 0 .junk) 2,Ao Af<|BQ (v.getD 0 .junk) 3,Ao Ai<|BQ (v.getD 0 .junk) 4,Ao AP<|BQ (v.getD 0 .junk) 5,Ao As<|BQ (v.getD 0 .junk) 6,gI<|BQ (v.getD 0 .junk) 7,Ao A7<|BQ (v.getD 0 .junk) 8,B5 Am v 1,EO v 2,AK v 3,B5 AP v 4,AK v 5,AK v 6⟩,yx,λs r=> {s with r:=r.r,i:=r.i},λs=>s,λ_ s=>s,[.ret,.exit 0],jo,Y4,sJ⟩
abbrev aC7:=Qn.run
abbrev aHe:=Qn.At
def axu:Rq Y4 yx:=by
 exact SZ
def iC:List Bd:=[WS,WQ,aTt,aa9,aiB]
def aPi:Qn.Ok:={}
def aP8:Qn.Pf (aAf):=⟨alW,λs h=>rfl,agh,axu⟩
def apv:SA 0 aFy Qn:=s1 aPi aP8 iC kN
def asI:Fi jo Y4 aAf aHe aC7:=AS.fin aPi aP8
structure Ma where
 cs:List Cd
 os:List ByteArray
 ks:List Ko
 gs:List Ch
 bs:List Ba
 l:List Le
 d:List Dm
 t:Int
 od:List Int
 rs:List Ra
 r:Bool
 m:List Ch
 (k i:Int)
def aFx:=bN f90 1
def yw (s:Ma):T (Rd Ma):=letI a:=AG s.m s.i;.br (an<|s.i<s.k) (.ix s.i (M s.m)<|.ix s.i (M s.rs)<|.br (!(Hy a.2.2.1 a.2.2.2.1 a.2.2.2.2.1 a.2.2.2.2.2.1 a.2.2.2.2.2.2.1 (Bw s.rs s.i).1 (Bw s.rs s.i).2)) (.so (.ret) {s with r:=X})<|.ix s.i (M s.d)<|.br (!(HL<|Dw s.d s.i)) (.so (.ret) {s with r:=X})<|.nx {s with i:=AA<|s.i+1})<|.so (.exit 2) s
end Go.Proofs.YtmlcgekfmlidcaaGreatDoor
end
