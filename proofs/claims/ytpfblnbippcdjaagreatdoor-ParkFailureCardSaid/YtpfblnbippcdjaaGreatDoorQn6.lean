/- ParkFailure returns true for all arguments. -/
import Derived.Test.YtpfblnbippcdjaaGreatDoorQn5
set_option linter.defProp false
set_option linter.unusedVariables false
set_option linter.unusedSimpArgs false
noncomputable section
open List renaming length→M,length→aa,replicate→aq,range→au
open Bool renaming true→U,true→ae,false→X,false→af
open Go.Value renaming int→Y,int→ag
open Option renaming some→ah,none→aj
open Go.IntKind renaming i64→J,i64→ai,u8→aw,u32→ax
open True renaming intro→ak
open Decidable renaming decide→an
open ByteArray renaming mk→av
open Go.Region renaming ready→ay,wanted→az
open Go.Instr renaming findNow→aA
namespace Go.Proofs.YtpfblnbippcdjaaGreatDoor
set_option maxRecDepth 100000
set_option maxHeartbeats 4000000
open Go.Proofs.Tryz
open Go.Sx
def aGS {p:PK}(hJ:JP p) {ev:EW}(he:BJ p ev.ev=0):(BO p ev.ev).tk=p.tk\/(ev.ek=1/\(BO p ev.ev).tk=p.tk+1):=by
 have hv:=QC.2 hJ.1.1
 by_cases c1:ev.ek=1
 ·obtain ⟨a,b⟩:=aBK hv c1
  rw [(b<|a.symm.trans he).1];exact .inr ⟨c1,aMw⟩
 left
 by_cases c2:ev.ek=2
 ·obtain ⟨a,b⟩:=aJu hv c2;rw [(b<|a.symm.trans he).1];rfl
 by_cases c3:ev.ek=3
 ·obtain ⟨a,b⟩:=aJt hv c3;rw [(b<|a.symm.trans he).1];rfl
 by_cases c4:ev.ek=4
 ·obtain ⟨a,b⟩:=aJs hv c4;rw [(b<|a.symm.trans he).1];rfl
 by_cases c5:ev.ek=5
 ·obtain ⟨a,b⟩:=aBI hv c5;rw [(b<|a.symm.trans he).1];rfl
 by_cases c6:ev.ek=6
 ·obtain ⟨a,b⟩:=aJr hv c6;rw [(b<|a.symm.trans he).1];rfl
 by_cases c7:ev.ek=7
 ·obtain ⟨a,b⟩:=aJq hv c7;rw [(b<|a.symm.trans he).1];rfl
 by_cases c8:ev.ek=8
 ·obtain ⟨a,b⟩:=aJp hv c8;rw [(b<|a.symm.trans he).1];rfl
 ·rw [aJo hv ⟨c1,c2,c3,c4,c5,c6,c7,c8⟩] at he
  cases he
def axE (x1 x3:Int):opT x1 x3<=12:=by
 unfold opT;split
 ·decide
 ·have h1:=Int.tmod_lt_of_pos (AA x3) (show (0:Int)<12 by decide)
  have h2:=Int.lt_tmod_of_pos (AA x3) (show (0:Int)<12 by decide)
  rw [AI];omega
def aGT {p:PK}(hJ:JP p) (ht:p.tk<1000000):BJ p BZ=0/\BO p BZ=p.F6/\Bc p BZ=p.Is/\M (Bc p BZ)=M (BO p BZ).ca/\p.F6.tk=p.tk+1:=by
 have hv:=hJ.1.1
 have he:BJ p BZ=0:=by
  unfold BJ;rw [AE (by rw [QC.2 hv];decide),AD (show BZ.ek=1 from rfl)]
  exact AE A0
 have e2:BO p BZ=p.F6:=aO4
 have e3:Bc p BZ=p.Is:=by unfold Bc;rw [he];rfl
 have hJ2:=hJ.step he
 refine ⟨he,e2,e3,?_,aMw⟩;rw [hJ2.1.1.ca,e2,e3];refine (cj _).2.2.2.trans ?_;exact Ce
def TmO (x:Int×Int×Int×Le×Dm):Prop:=x.1.tmod 14≠12/\x.2.2.2.1.1≠4
def TmE (e:EW):Prop:=e.ek≠7/\e.c1≠4
def ayc {p:PK}{x1 x2 x3 y1 y2 y3 y4 y5:Int}{z1:Bool}{z2 z3 z4:Int}(h1:x1.tmod 14≠12) (h2:y1≠4):TmE (opE p x1 x2 x3 y1 y2 y3 y4 y5 z1 z2 z3 z4):=by
 unfold opE TmE;rw [AE h1]
 repeat' split
 all_goals simp [h2]
def ayY {cs:List Cd}{os:List ByteArray}{ks:List Ko}{gs:List Ch}{bs:List Ba}{dr:List Int}(h:DI cs os ks gs bs dr=0):FI (newP cs os ks gs bs dr):=by
 have hp:newP cs os ks gs bs dr=_:=AE (by rw [h];decide)
 rw [hp];refine ⟨⟨Ce,λj j0 j1=>?_⟩,λl hl=>(by cases hl),λc hc=>by rw [List.eq_of_mem_replicate hc];decide⟩
 have e:BG (aq (M gs) ((0,0,0,X):St)) j=(0,0,0,X):=by
  unfold BG;rw [DQ,Uy];split<;>rfl
 simp only [e]
 have hc:=Og (by have:=(aQv h).1.site;rw [hp] at this;exact this) j0 j1
 unfold G3 chW at hc;simp only [AY,Cl,Cz,Bf] at hc;exact ⟨NT.2 ⟨cb.2 A0,Aa,(by decide:(0:Int)<=5),Aa,(by decide:(0:Int)<=1000000),Aa,by show (0:Int)<=(AG gs j).2.2.2.2.1;omega,λ_=>rfl,λe=>Q2⟩,rfl,(by decide:(0:Int)<=12)⟩
def FG.EH {T:Int}:∀(n:Nat) {p:PK}{l:Int},FG T p->JP p->p.tk+n<1000000->T+4<=1000000->
  (Bo n p l).2.2=U/\FG T (Bo n p l).1/\JP (Bo n p l).1/\(Bo n p l).1.tk=p.tk+n
 |0,p,l,h,hJ,ht,_=>⟨rfl,h,hJ,by show p.tk=p.tk+0;omega⟩
 |n+1,p,l,h,hJ,ht,hT=>by
  have hv:=hJ.1.1
  obtain ⟨he,e2,e3,hl,htk⟩:=aGT hJ A0
  have hJ2:=hJ.step he
  rw [Bo,AD ⟨he,hl⟩];rw [e2] at hJ2|-;obtain ⟨a1,a2,a3,a4⟩:=FG.EH n (l:=if M (Bc p BZ)>0 then gi (Bc p BZ) 0 else l) (h.tick hv A0 hT) hJ2 A0 hT
  exact ⟨a1,a2,a3,A0⟩
def ann {p:PK}(hJ:JP p) (hf:FI p) (hu:p.up=X) (ht:p.tk<=150) {n:Nat}(h1:24<=n) (h2:n<=100) {l:Int}:
  (Bo n p l).2.2=U/\JP (Bo n p l).1/\BJ (Bo n p l).1 BZ=0/\M (Bc (Bo n p l).1 BZ)=M (BP (Bo n p l).1.gs)/\
  (M (Bo n p l).1.gs<=16/\∀i:Nat,i<M (Bc (Bo n p l).1 BZ)->gi (Bc (Bo n p l).1 BZ) i<=gi (BP (Bo n p l).1.gs) i):=by
 have h0:=hJ.1.1.tk
 obtain ⟨a1,a2,a3,a4⟩:=(hf.fg hJ.1.1 hu).EH n (l:=l) hJ A0 A0
 have hv:=a3.1.1
 obtain ⟨he,_,e3,_⟩:=aGT a3 A0;obtain ⟨d1,d2⟩:=a2.draw hv A0 A0
 have hb:M (BP (Bo n p l).1.gs)=M (Bo n p l).1.gs:=by unfold BP;exact I2
 refine ⟨a1,a3,he,by rw [e3,d1,hb],(DD.1 hv.site).1.2.2.2.2.1,λi hi=>?_⟩
 rw [e3] at hi|-;rw [d1] at hi;rw [show gi (BP (Bo n p l).1.gs) i=CW (AG (Bo n p l).1.gs i) from Q5 A0 A0];exact d2 i hi
def aSE:List LV->T LV
 | [x_p,x_r,.xl (.int J) dw]=>(match Mr x_p with
  |some p=>(match Mr x_r with
  |some r=> .ok U
  |none=> .no)
  |none=> .no)
 |_=> .no
def aR5:List Bd:=[]
def az0 (p r:PK) (dw:List Int):Bk prog AV (aR5) kN Ag f8 [p,r,.xl A7 dw]=.ok true:=AT
def fY:=vo (S:=aSE) func8 aR5 kN (λargs lv h=>by
 refine ⟨?_⟩;unfold aSE at h;split at h
 ·split at h
  case h_2=>cases h
  rename_i p hp;obtain rfl:=WI hp;split at h
  case h_2=>cases h
  rename_i r hr;obtain rfl:=WI hr;simp only [canL,canX];rw [az0];obtain rfl:=h;rfl
 ·cases h)
structure Mh where
 b:Bool
 many:Int
 ops:List (Int×(Int×(Int×(Le×Dm))))
 (n i m k:Int)
 (r p:PK)
 ev:EW
def am9 (s:Mh):List LV:=[.fn 8 [],.own 0 0,s.b,.own 1 0,s.many,.own 2 0,.xl (.pair (.int aw)<|.pair (.int aw)<|.pair (.int .u16)<|.pair AP Ak) s.ops,s.n,s.i,s.m,s.k]
def amY (s:Mh):List AB:=[⟨[s.r.cs,s.r.os,s.r.ks,s.r.gs,s.r.bs,s.r.tk,s.r.up,s.r.ls,s.r.se,.xl (.int aw) s.r.fl,s.r.ra,s.r.nx,s.r.st,s.r.ca,s.r.mi,s.r.me,s.r.dm,s.r.lk,.xl A7 s.r.dr,.xl A7 s.r.tg],48,.cl,X⟩,⟨[s.p.cs,s.p.os,s.p.ks,s.p.gs,s.p.bs,s.p.tk,s.p.up,s.p.ls,s.p.se,.xl (.int aw) s.p.fl,s.p.ra,s.p.nx,s.p.st,s.p.ca,s.p.mi,s.p.me,s.p.dm,s.p.lk,.xl A7 s.p.dr,.xl A7 s.p.tg],48,.cl,X⟩,⟨[s.ev.ek,s.ev.en,s.ev.em,s.ev.c1,s.ev.c2,s.ev.c3,s.ev.c4,s.ev.c5,s.ev.d1,s.ev.d2,s.ev.d3,s.ev.d4],60,.cl,X⟩]
def aF8:=lN (bN f7 0) 0
def gD (s:Mh):T (Rd Mh):=letI a:=AA<|s.many+1;letI c:=EW.ev s.ev;.br (an<|s.k<s.m) (.br (s.ev.ek==1) (.br (an<|a>150) (.so (.exit 2) {s with many:=a})<|.req (JP s.p)<|.br ((BJ s.p c) !=0) (.br (s.ev.ek==1) (.so (.ret) {s with b:=X,many:=a,r:=s.p})<|.so (.exit 2) {s with many:=a})<|.br (!U) (.so (.ret) {s with b:=X,many:=a,r:=s.p})<|.nx {s with many:=a,k:=AA<|s.k+1,p:=BO s.p c})<|.req (JP s.p)<|.br ((BJ s.p c) !=0) (.br (s.ev.ek==1) (.so (.ret) {s with b:=X,r:=s.p})<|.so (.exit 2) s)<|.br (!U) (.so (.ret) {s with b:=X,r:=s.p})<|.nx {s with k:=AA<|s.k+1,p:=BO s.p c})<|.so (.exit 2) s
def Xl (s:Mh):Prop:=s.k=0/\s.many<=12*s.i/\JP s.p/\FI s.p/\(s.p.tk<=150/\s.p.tk<=s.many/\0<=s.many)/\s.m<=12/\(0<=s.i/\s.i<=1000)/\TmE s.ev
def YV (s:Mh):Prop:=(0<=s.k/\(s.k<=s.m\/s.k=0))/\s.many<=12*s.i+s.k/\JP s.p/\FI s.p/\(s.p.tk<=150/\s.p.tk<=s.many/\0<=s.many)/\s.m<=12/\(0<=s.i/\s.i<=1000)/\TmE s.ev
def fH (s:Mh):Nat:=(s.m-s.k).toNat
def iD (x:Ex) (s s':Mh):Prop:=x=.exit 2/\JP s'.p/\FI s'.p/\(s'.p.tk<=150/\s'.p.tk<=s'.many/\0<=s'.many)/\s'.many<=12*s'.i+12
def aja:∀s,Xl s->YV s:=by
 rintro s ⟨h0,h1,h2⟩
 exact ⟨A0,A0,h2⟩
def axa:Da YV fH iD gD:=by
 intro s hI;unfold gD;dsimp only [T.rd,T.rl,T.rv];obtain ⟨⟨h0,h0'⟩,h1,hJ,hm,⟨t1,t2,t3⟩,h3,h4,ht⟩:=hI
 have w:AA (s.many+1)=s.many+1:=AI
 have wk:AA (s.k+1)=s.k+1:=AI
 rw [w,wk];refine AH (λc1=>?_) λc1=>⟨rfl,hJ,hm,⟨t1,t2,t3⟩,by simp only [Cv] at c1;omega⟩
 simp only [Ac] at c1;refine AH (λc2=>?_) λc2=>?_
 ·have c2:s.ev.ek=1:=eq_of_beq c2
  refine AH (λc3=>⟨rfl,hJ,hm,⟨t1,AZ,AZ⟩,AZ⟩) λc3=>?_
  have c3:¬s.many+1>150:=JE c3
  refine AH (λc4=>absurd (aom hJ c2 A0)<|EL.1 c4) λc4=>?_
  have c4:BJ s.p s.ev.ev=0:=Dj c4
  refine AH (λc5=>by cases c5) λ_=>?_
  have hk:=aGS hJ c4
  exact ⟨⟨⟨AZ,AZ⟩,AZ,hJ.step c4,hm.step hJ.1.1 c4 ht.1 ht.2,⟨AZ,AZ,AZ⟩,h3,h4,ht⟩,by simp only [fH];omega⟩
 ·have c2:¬s.ev.ek=1:=CQ.1 c2
  refine AH (λc4=>AH (λc5=>absurd (eq_of_beq c5) c2) λ_=>⟨rfl,hJ,hm,⟨t1,t2,t3⟩,A0⟩) λc4=>?_
  have c4:BJ s.p s.ev.ev=0:=Dj c4
  refine AH (λc5=>by cases c5) λ_=>?_
  have hk:=aGS hJ c4
  exact ⟨⟨⟨AZ,AZ⟩,AZ,hJ.step c4,hm.step hJ.1.1 c4 ht.1 ht.2,⟨AZ,AZ,t3⟩,h3,h4,ht⟩,by simp only [fH];omega⟩
def Rr:AR Mh:=⟨0,75,[3,8,9,10,12,15,29,30,31,41,42],[],am9,amY,λv b=>⟨E4 v 2,AK v 4,Ao (.pair (.int aw)<|.pair (.int aw)<|.pair (.int .u16)<|.pair AP Ak)<|v.getD 6 .junk,AK v 7,AK v 8,AK v 9,AK v 10,rQ b 0,rQ b 1,rE b 0 2⟩,gD,λs r=> {s with b:=r.b,many:=r.many,k:=r.k,r:=r.r,p:=r.p},λs=>s,λ_ s=>s,[.exit 2,.ret],Xl,YV,fH⟩
abbrev mq:=Rr.run
abbrev qW:=Rr.Aq
def awS:Rq YV gD:=by
 intro s hI;refine ⟨λc1=>⟨λc2=>⟨λ_=>trivial,λc3=>⟨?_,λc4=>⟨λ_=>trivial,λ_=>trivial⟩,λc4=>⟨λ_=>trivial,λ_=>trivial⟩⟩⟩,λc2=>⟨?_,λc7=>⟨λ_=>trivial,λ_=>trivial⟩,λc7=>⟨λ_=>trivial,λ_=>trivial⟩⟩⟩,λ_=>trivial⟩
 all_goals ((exact hI.2.2.1))
def tw:List Bd:=[fY,WL,um,aa3]
def aQK:Rr.Ok:={}
def aOd:Rr.Pf (iD):=⟨aja,λs h=>rfl,axa,awS⟩
def aq2:SA 0 aF8 Rr:=s1 aQK aOd tw kN
def aqv:Fi Xl YV iD qW mq:=AR.fin aQK aOd
structure JX where
 b:Bool
 many:Int
 ops:List (Int×(Int×(Int×(Le×Dm))))
 (n i:Int)
 (r p:PK)
def am8 (s:JX):List LV:=[.fn 8 [],.own 0 0,s.b,.own 1 0,s.many,.xl (.pair (.int aw)<|.pair (.int aw)<|.pair (.int .u16)<|.pair AP Ak) s.ops,s.n,s.i]
def amX (s:JX):List AB:=[⟨[s.r.cs,s.r.os,s.r.ks,s.r.gs,s.r.bs,s.r.tk,s.r.up,s.r.ls,s.r.se,.xl (.int aw) s.r.fl,s.r.ra,s.r.nx,s.r.st,s.r.ca,s.r.mi,s.r.me,s.r.dm,s.r.lk,.xl A7 s.r.dr,.xl A7 s.r.tg],48,.cl,X⟩,⟨[s.p.cs,s.p.os,s.p.ks,s.p.gs,s.p.bs,s.p.tk,s.p.up,s.p.ls,s.p.se,.xl (.int aw) s.p.fl,s.p.ra,s.p.nx,s.p.st,s.p.ca,s.p.mi,s.p.me,s.p.dm,s.p.lk,.xl A7 s.p.dr,.xl A7 s.p.tg],48,.cl,X⟩]
def pK:=bN f7 0
def Oa (s:JX):Mh:=(⟨s.b,s.many,s.ops,s.n,s.i,opT (gx (e:=.pair (.int aw)<|.pair (.int aw)<|.pair (.int .u16)<|.pair AP Ak) s.ops s.i).1 (gx (e:=.pair (.int aw)<|.pair (.int aw)<|.pair (.int .u16)<|.pair AP Ak) s.ops s.i).2.2.1,0,s.r,s.p,opE s.p (gx (e:=.pair (.int aw)<|.pair (.int aw)<|.pair (.int .u16)<|.pair AP Ak) s.ops s.i).1 (gx (e:=.pair (.int aw)<|.pair (.int aw)<|.pair (.int .u16)<|.pair AP Ak) s.ops s.i).2.1 (gx (e:=.pair (.int aw)<|.pair (.int aw)<|.pair (.int .u16)<|.pair AP Ak) s.ops s.i).2.2.1 (gx (e:=.pair (.int aw)<|.pair (.int aw)<|.pair (.int .u16)<|.pair AP Ak) s.ops s.i).2.2.2.1.1 (gx (e:=.pair (.int aw)<|.pair (.int aw)<|.pair (.int .u16)<|.pair AP Ak) s.ops s.i).2.2.2.1.2.1 (gx (e:=.pair (.int aw)<|.pair (.int aw)<|.pair (.int .u16)<|.pair AP Ak) s.ops s.i).2.2.2.1.2.2.1 (gx (e:=.pair (.int aw)<|.pair (.int aw)<|.pair (.int .u16)<|.pair AP Ak) s.ops s.i).2.2.2.1.2.2.2.1 (gx (e:=.pair (.int aw)<|.pair (.int aw)<|.pair (.int .u16)<|.pair AP Ak) s.ops s.i).2.2.2.1.2.2.2.2 (gx (e:=.pair (.int aw)<|.pair (.int aw)<|.pair (.int .u16)<|.pair AP Ak) s.ops s.i).2.2.2.2.1 (gx (e:=.pair (.int aw)<|.pair (.int aw)<|.pair (.int .u16)<|.pair AP Ak) s.ops s.i).2.2.2.2.2.1 (gx (e:=.pair (.int aw)<|.pair (.int aw)<|.pair (.int .u16)<|.pair AP Ak) s.ops s.i).2.2.2.2.2.2.1 (gx (e:=.pair (.int aw)<|.pair (.int aw)<|.pair (.int .u16)<|.pair AP Ak) s.ops s.i).2.2.2.2.2.2.2⟩:Mh)
def gC (s:JX):T (Rd JX):=letI a:=mq<|Oa s;.br (an<|s.i<s.n) (.ix s.i (M s.ops)<|.req (Rr.q<|Oa s)<|.br (Bj (qW<|Oa s)<|.exit 2) (.nx {s with b:=a.b,many:=a.many,i:=AA<|s.i+1,r:=a.r,p:=a.p})<|.so (.ret) {s with b:=a.b,many:=a.many,r:=a.r,p:=a.p})<|.so (.exit 0) s
def Xk (s:JX):Prop:=s.i=0/\s.many=0/\JP s.p/\FI s.p/\(s.p.tk<=150/\s.p.tk<=s.many/\0<=s.many)/\(s.n=(M s.ops:Int)/\s.n<=1000)/\∀x∈s.ops,TmO x
def U0 (s:JX):Prop:=(0<=s.i/\s.i<=s.n)/\s.many<=12*s.i/\JP s.p/\FI s.p/\(s.p.tk<=150/\s.p.tk<=s.many/\0<=s.many)/\(s.n=(M s.ops:Int)/\s.n<=1000)/\∀x∈s.ops,TmO x
def tN (s:JX):Nat:=(s.n-s.i).toNat
def aAc (x:Ex) (s s':JX):Prop:=x=.exit 0/\JP s'.p/\FI s'.p/\s'.p.tk<=150
def ajZ:∀s,Xk s->U0 s:=by
 rintro s ⟨h0,h1,h2,h3,h4,h5,h6⟩
 exact ⟨A0,A0,h2,h3,h4,h5,h6⟩
def aOy {s:JX}(hI:U0 s) (c1:s.i<s.n):iD (qW<|Oa s) (Oa s) (mq<|Oa s)/\Xl (Oa s):=by
 obtain ⟨⟨h0,h1⟩,h2,hJ,hm,ht,h3,h4⟩:=id hI
 have h5:=h4 (gx (e:=(.pair (.int aw)<|.pair (.int aw)<|.pair (.int .u16)<|.pair AP Ak)) s.ops s.i) (by unfold gx;rw [LJ A0];exact GD _)
 have hE:Xl (Oa s):=⟨rfl,h2,hJ,hm,ht,axE _ _,⟨h0,by show s.i<=1000;omega⟩,ayc h5.1 h5.2⟩
 obtain ⟨_,_,q⟩:=aqv _ hE;exact ⟨q,hE⟩
def axX:Da U0 tN aAc gC:=by
 intro s hI;unfold gC;dsimp only [T.rd,T.rl,T.rv];obtain ⟨⟨h0,h1⟩,h2,hJ,hm,ht,h3,h4⟩:=id hI;refine AH (λc1=>?_) λc1=>⟨rfl,hJ,hm,ht.1⟩
 have c1:s.i<s.n:=AX
 obtain ⟨x1,x2,x3,x4,x5⟩:=(aOy hI c1).1;rw [AI (x:=s.i+1)];refine AH (λc2=>?_) λc2=>?_
 ·have x5:(mq<|Oa s).many<=12*s.i+12:=x5
  exact ⟨⟨⟨AZ,AZ⟩,AZ,x2,x3,x4,h3,h4⟩,by simp only [tN];omega⟩
 ·rw [x1] at c2
  cases c2
def Rp:AR JX:=⟨0,75,[3,8,9,10,12,29,30,31],[.ps 8 0 Ad,.ps 8 1 .str,.ps 8 2 Ah,.ps 8 3 Ae,.ps 8 4 Ai,.ps 8 7 AP,.ps 8 9<|.int aw,.ps 8 10 Am,.ps 8 12 B3,.ps 8 13 AP,.ps 8 14 B7,.ps 8 15 BS,.ps 8 16 Ak,.ps 8 17 BM,.ps 8 18 A7,.ps 8 19 A7],am8,amX,λv b=>⟨E4 v 2,AK v 4,Ao (.pair (.int aw)<|.pair (.int aw)<|.pair (.int .u16)<|.pair AP Ak)<|v.getD 5 .junk,AK v 6,AK v 7,rQ b 0,rQ b 1⟩,gC,λs r=> {r with ops:=s.ops,n:=s.n},λs=>s,λ_ s=>s,[.ret,.exit 0],Xk,U0,tN⟩
abbrev cZ:=Rp.run
abbrev qV:=Rp.Aq
def awR:Rq U0 gC:=by
 intro s hI;refine ⟨λc1=>⟨?_,?_,λ_=>trivial,λ_=>trivial⟩,λ_=>trivial⟩
 all_goals ((obtain ⟨⟨h0,h1⟩,h2,hJ,hm,ht,h3,h4⟩:=id hI;simp only [Ac] at c1;first|omega|exact ⟨(aOy hI c1).2,rfl,rfl⟩))
def aQJ:Rp.Ok:={}
def aOc:Rp.Pf (aAc):=⟨ajZ,λs h=>rfl,axX,awR⟩
def aq1:SA 0 pK Rp:=AR.snd aQJ aOc (nL (Γ:=tw) (K:=Ff) (L:=(λi=>if i=10 then Rr.lp else Ag i)) (gk tw) kN.h pK (λb hb=>by
 rw [show BA _=[aF8] by kernel_rfl] at hb
 simp only [B8,Bu,Bt] at hb;subst hb;exact aq2)) λs=>AT
def aGy:Fi Xk U0 aAc qV cZ:=AR.fin aQJ aOc
def plS (cs:List Cd) (os:List ByteArray) (ks:List Ko) (gs:List Ch) (bs:List Ba) (dr:List Int) (ops:List<|(Int×(Int×(Int×(Le×Dm))))):JX:=⟨X,0,ops,(M ops:Int),0,PK0,newP cs os ks gs bs dr⟩
def DZ (cs:List Cd) (os:List ByteArray) (ks:List Ko) (gs:List Ch) (bs:List Ba) (dr:List Int) (ops:List<|(Int×(Int×(Int×(Le×Dm))))):PK:=if DI cs os ks gs bs dr≠0 then newP cs os ks gs bs dr else (cZ<|plS cs os ks gs bs dr ops).p
def plE {cs:List Cd}{os:List ByteArray}{ks:List Ko}{gs:List Ch}{bs:List Ba}{dr:List Int}{ops:List<|(Int×(Int×(Int×(Le×Dm))))}(c:DI cs os ks gs bs dr=0) (h2:M ops<=1000) (h3:∀x∈ops,TmO x):Xk (plS cs os ks gs bs dr ops):=by
 have hp:newP cs os ks gs bs dr=_:=AE VH
 refine ⟨rfl,rfl,aQw c,ayY c,?_,⟨rfl,by show (M ops:Int)<=1000;omega⟩,h3⟩
 show (newP cs os ks gs bs dr).tk<=150/\(newP cs os ks gs bs dr).tk<=0/\(0:Int)<=0
 rw [hp];exact ⟨by show (0:Int)<=150;decide,Dg _,Dg _⟩
def axb {cs:List Cd}{os:List ByteArray}{ks:List Ko}{gs:List Ch}{bs:List Ba}{dr:List Int}{ops:List<|(Int×(Int×(Int×(Le×Dm))))}(c:DI cs os ks gs bs dr=0) (h2:M ops<=1000) (h3:∀x∈ops,TmO x):letI a:=DZ cs os ks gs bs dr ops;JP a/\FI a/\a.tk<=150:=by
 obtain ⟨_,_,_,q⟩:=aGy _<|plE c h2 h3;rw [show DZ cs os ks gs bs dr ops=_ from AE VH];exact q
def aSC:List LV->T LV
 | .agg a::r=>s5 a λcs os ks gs bs=>(match r with
  | [.xl (.int J) dr,.xl (.pair (.int aw) (.pair (.int aw) (.pair (.int .u16) (.pair (.pair (.int J) (.pair (.int J) (.pair (.int J) (.pair (.int J) (.int J))))) (.pair .bool (.pair (.int J) (.pair (.int J) (.int J)))))))) ops,.fn 8 []]=> .req ((M dr<=1000/\M ops<=1000)/\∀x∈ops,TmO x) (.ok<|.AM [DZ cs os ks gs bs dr ops,U])
  |_=> .no)
 |_=> .no
def aBg (cs:List Cd) (os:List ByteArray) (ks:List Ko) (gs:List Ch) (bs:List Ba) (dr:List Int) (ops:List<|Int×(Int×(Int×(Le×Dm)))):JX:=(⟨X,0,ops,(M ops:Int),0,⟨([]:List Cd),([]:List ByteArray),([]:List Ko),([]:List Ch),([]:List Ba),0,X,([]:List Le),0,([]:List Int),([]:List Ra),0,([]:List St),([]:List Le),([]:List Mi),([]:List Me),([]:List Dm),([]:List Lk),([]:List Int),([]:List Int)⟩,newP cs os ks gs bs dr⟩:JX)
def agf:List Bd:=[fY,WL,um,aa3]
def aTw:=vm (S:=aSC) func7 agf kN (L:=(λi=>if i=6 then Rp.lp else Ag i)) (λb hb=>by
 rw [show BA _=[pK] by kernel_rfl] at hb
 simp only [B8,Bu,Bt] at hb;subst hb;exact aq1) (λargs lv h=>by
 unfold aSC at h;split at h
 case h_2=>cases h
 replace h:=HX h
 obtain ⟨cs,os,ks,gs,bs,rfl,h⟩:=h;split at h
 ·rename_i dr ops
  refine Ap (letI a:=aBg cs os ks gs bs dr ops;.req (M dr<=1000)<|.br ((DI cs os ks gs bs dr) !=0) (.ok<|.AM [((newP cs os ks gs bs dr)),U])<|.req (Rp.q a)<|.br (Bj (qV a)<|.ret) (.ok<|.AM [((cZ a).r),(cZ a).b])<|.ok<|.AM [((cZ a).p),U]) ?_;obtain ⟨⟨⟨h1,h2⟩,h3⟩,rfl⟩:=h;refine ⟨h1,λc=>?_,λc=>?_⟩
  ·have c:=EL.1 c
   rw [show DZ cs os ks gs bs dr ops=newP cs os ks gs bs dr from AD c];rfl
  have c:=Dj c
  have hE:Xk (aBg cs os ks gs bs dr ops):=plE c h2 h3
  obtain ⟨_,_,q,_⟩:=aGy _ hE
  have q:qV (aBg cs os ks gs bs dr ops)=.exit 0:=q
  refine ⟨⟨hE,rfl,rfl⟩,λc2=>?_,λ_=>?_⟩
  ·rw [q] at c2
   cases c2
  ·rw [show DZ cs os ks gs bs dr ops=_ from AE VH]
   rfl
 ·cases h)
def Jm (x:(Int×(Int×(Int×(Le×Dm))))):Bool:=!(x.1.tmod 14==12 ||x.2.2.2.1.1==4)
def aoj {l:List<|(Int×(Int×(Int×(Le×Dm))))}:l.all Jm=U↔∀x∈l,TmO x:=by
 simp [BR,Jm,TmO]
structure Nw where
 b:Bool
 l:List (Int×(Int×(Int×(Le×Dm))))
 (m i:Int)
def aEz:=bN f6 0
def fw (s:Nw):T (Rd Nw):=
 .br (an<|s.i<s.m) (.ix s.i (M s.l)<|.req ((14:Int)≠0)<|.br ((((gx (e:=.pair (.int aw)<|.pair (.int aw)<|.pair (.int .u16)<|.pair AP Ak) s.l s.i).1.tmod 14)==12) ||((gx (e:=.pair (.int aw)<|.pair (.int aw)<|.pair (.int .u16)<|.pair AP Ak) s.l s.i).2.2.2.1.1==4)) (.so (.ret) {s with b:=X})<|.nx {s with i:=AA<|s.i+1}) (.so (.exit 0) s)
def TX (s:Nw) (j:Int):Bool:=Jm<|gx (e:=(.pair (.int aw)<|.pair (.int aw)<|.pair (.int .u16)<|.pair AP Ak)) s.l j
def jU (s:Nw):Prop:=s.i=0/\0<=s.m/\s.m<=1000/\s.m=(M s.l:Int)
def YK (s:Nw):Prop:=0<=s.i/\s.i<=s.m/\s.m<=1000/\(s.m=(M s.l:Int))/\∀j:Nat,(j:Int)<s.i->TX s j=U
def rA (s:Nw):Nat:=(s.m-s.i).toNat
def aAU (x:Ex) (s s':Nw):Prop:=(x=.exit 0/\∀j:Nat,(j:Int)<s'.m->TX s' j=U)\/(x=.ret/\s'.b=X/\∃j:Nat,(j:Int)<s'.m/\TX s' j=X)
def aj8:∀s,jU s->YK s:=by
 exact JH
def avj:Da YK rA aAU fw:=by
 intro s hI;unfold fw;dsimp only [T.rd,T.rl,T.rv];obtain ⟨h0,h1,h2,h3,h4⟩:=hI;refine AH (λc1=>AH (λc2=>?_) λc2=>?_) λc1=>?_
 ·have c1:s.i<s.m:=AX
  refine .inr ⟨rfl,rfl,s.i.toNat,AZ,?_⟩;rw [CR A0]
  have hg:TX s s.i=false:=aMs
  exact hg
 ·have c1:s.i<s.m:=AX
  have hg:TX s s.i=true:=aMs
  rw [AI (x:=s.i+1)];refine ⟨⟨AZ,AZ,h2,h3,λj hj=>?_⟩,by simp only [rA];omega⟩
  exact aMD
 ·exact Zh
def Rl:AR Nw:=⟨0,22,[2,5,6,7],[],λs=>[s.b,.xl (.pair (.int aw)<|.pair (.int aw)<|.pair (.int .u16)<|.pair AP Ak) s.l,s.m,s.i],λ_=>[],λv b=>⟨E4 v 0,Ao (.pair (.int aw)<|.pair (.int aw)<|.pair (.int .u16)<|.pair AP Ak)<|v.getD 1 .junk,AK v 2,AK v 3⟩,fw,λs r=> {r with l:=s.l,m:=s.m},λs=>s,λ_ s=>s,[.ret,.exit 0],jU,YK,rA⟩
abbrev pz:=Rl.run
abbrev dU:=Rl.Aq
def awz:Rq YK fw:=by
 exact kQ
def aR4:List Bd:=[]
def aPZ:Rl.Ok:={}
def aP8:Rl.Pf (aAU):=⟨aj8,λs h=>rfl,avj,awz⟩
def aoZ:SA 0 aEz Rl:=s1 aPZ aP8 aR4 kN
def aon:Fi jU YK aAU dU pz:=AR.fin aPZ aP8
def aHC:List LV->T LV
 | [.xl (.pair (.int aw) (.pair (.int aw) (.pair (.int .u16) (.pair (.pair (.int J) (.pair (.int J) (.pair (.int J) (.pair (.int J) (.int J))))) (.pair .bool (.pair (.int J) (.pair (.int J) (.int J)))))))) l]=> .req (M l<=1000) (.ok<|l.all Jm)
 |_=> .no
def T4 (l:List<|Int×(Int×(Int×(Le×Dm)))):Nw:=(⟨X,l,(M l:Int),0⟩:Nw)
def aJf:=vm (S:=aHC) func6 aR4 kN (L:=(λi=>if i=2 then Rl.lp else Ag i)) (λb hb=>by
 rw [show BA _=[aEz] by kernel_rfl] at hb
 simp only [B8,Bu,Bt] at hb;subst hb;exact aoZ) (λargs lv h=>by
 unfold aHC at h;split at h
 ·rename_i l
  refine Ap (.req (Rl.q<|T4 l)<|.br (Bj (dU<|T4 l)<|.ret) (.ok (pz<|T4 l).b)<|.ok U) ?_;obtain ⟨hk,rfl⟩:=h
  have E1:jU (T4 l):=⟨rfl,Po _,by show (M l:Int)<=1000;omega,rfl⟩
  have hl:D9 (M l) (λk=>Jm<|gx (e:=(.pair (.int aw)<|.pair (.int aw)<|.pair (.int .u16)<|.pair AP Ak)) l k)=l.all Jm:=oA (f:=Jm)
  rw [<-hl];refine ⟨⟨E1,rfl,rfl⟩,?_⟩;obtain ⟨_,_,q⟩:=aon _ E1
  have q:(dU (T4 l)=.exit 0/\_)\/(dU (T4 l)=.ret/\(pz<|T4 l).b=X/\∃j:Nat,(j:Int)<(M l:Int)/\Jm (gx (e:=(.pair (.int aw)<|.pair (.int aw)<|.pair (.int .u16)<|.pair AP Ak)) l j)=X):=q
  rcases q with ⟨q1,q2⟩ |⟨q1,q2,j,q3,q4⟩
  ·rw [q1,show D9 (M l) (λk=>Jm<|gx (e:=(.pair (.int aw)<|.pair (.int aw)<|.pair (.int .u16)<|.pair AP Ak)) l k)=U from Di.2 q2]
   exact ⟨λc=>FN,λ_=>rfl⟩
  ·rw [q1,q2,Oq j q3 q4]
   exact ⟨λ_=>rfl,λc=>FN⟩
 ·cases h)
def aSt:List LV->T LV
 | .agg a::r=>s5 a λcs os ks gs bs=>(match r with
  | []=> .ok (an<|M cs<=40/\M os<=40/\M ks<=40/\M gs<=40/\M bs<=40)
  |_=> .no)
 |_=> .no
def tv:List Bd:=[]
def aTu:=vo (S:=aSt) func14 tv kN (λargs lv h=>by
 unfold aSt at h;split at h
 case h_2=>cases h
 replace h:=HX h
 obtain ⟨cs,os,ks,gs,bs,rfl,h⟩:=h;split at h
 ·refine Ap (.ok<|.v<|.bool<|(an<|(M cs:Int)<=40)&&((an<|(M os:Int)<=40)&&((an<|(M ks:Int)<=40)&&((an<|(M gs:Int)<=40)&&(an<|(M bs:Int)<=40))))) ?_
  obtain rfl:=h;refine B1 (λz=>LV.v<|.bool z) ?_
  rw [IP];simp only [AY,Ac];omega
 ·cases h)
structure MV where
 i:Int
 B9:List Cd
 BV:List ByteArray
 Bz:List Ko
 B5:List Ch
 C0:List Ba
 out:List Int
def am7 (s:MV):List LV:=[.own 0 0,.os 1 1 0<|M s.out,s.i]
def amW (s:MV):List AB:=[⟨[s.B9,s.BV,s.Bz,s.B5,s.C0],28,.cl,X⟩,bV 3 A7 s.out]
def aF4:=bN f11 0
def gA (s:MV):T (Rd MV):=letI b:=AG s.B5 s.i;letI a:=s.out++([b.2.2.2.2.2.2.1]);.br (an<|s.i<(M s.B5:Int)) (.ix s.i (M s.B5)<|.rb (M s.out) (M<|[b.2.2.2.2.2.2.1]) 8<|.re (M s.out+M ([b.2.2.2.2.2.2.1])) a<|.nx {s with i:=AA<|s.i+1,out:=a})<|.rl s.out<|.so (.exit 0) s
def iU (s:MV):Prop:=s.i=0/\s.out=[]/\(M s.B5:Int)<=1000
def YR (s:MV):Prop:=(0<=s.i/\s.i<=(M s.B5:Int))/\s.out=FC s.i.toNat (λj=>CW<|AG s.B5 j)/\(M s.B5:Int)<=1000
def tI (s:MV):Nat:=((M s.B5:Int)-s.i).toNat
def aAY (x:Ex) (s s':MV):Prop:=x=.exit 0/\s'.out=BP s'.B5
def ajz:∀s,iU s->YR s:=by
 exact xS
def axN:Da YR tI aAY gA:=by
 intro s hI;unfold gA;dsimp only [T.rd,T.rl,T.rv];obtain ⟨⟨h0,h1⟩,hb,h2⟩:=hI;refine AH (λc1=>?_) λc1=>?_
 ·have c1:s.i<(M s.B5:Int):=AX
  rw [AI (x:=s.i+1)];refine ⟨⟨⟨AZ,AZ⟩,?_,h2⟩,by simp only [tI];omega⟩
  simp only;rw [show (s.i+1).toNat=s.i.toNat+1 by omega,afd,<-hb,CR h0]
  rfl
 ·have c1:(M s.B5:Int)<=s.i:=AX
  refine ⟨rfl,?_⟩;rw [hb,show s.i.toNat=M s.B5 by omega]
  rfl
def Ro:AR MV:=⟨0,22,[1,3,4],[.nl 3 3 A7],am7,amW,λv b=>⟨AK v 2,AF Ad b 0 0,AF .str b 0 1,AF Ah b 0 2,AF Ae b 0 3,AF Ai b 0 4,Ab A7 b 1⟩,gA,λs r=> {s with i:=r.i,out:=r.out},λs=>s,λ_ s=>s,[.exit 0],iU,YR,tI⟩
abbrev aC6:=Ro.run
abbrev asr:=Ro.Aq
def awM:Rq YR gA:=by
 intro s hI;refine ⟨λc1=>⟨?_,?_,?_,ak⟩,λc1=>⟨A9,ak⟩⟩
 all_goals ((obtain ⟨⟨h0,h1⟩,hb,h2⟩:=hI;have hbl:M s.out=s.i.toNat:=(by rw [hb,I2]);simp only [Ac] at c1;first|omega|(refine ⟨A0,?_,?_⟩<;>simp only [Bi,Bp]<;>omega) |exact ⟨rfl,AJ⟩))
def aPK:Ro.Ok:={}
def aOY:Ro.Pf (aAY):=⟨ajz,λs h=>rfl,axN,awM⟩
def apv:SA 0 aF4 Ro:=s1 aPK aOY tv kN
def aqo:Fi iU YR aAY asr aC6:=AR.fin aPK aOY
def aJH:List LV->T LV
 | .agg a::r=>s5 a λcs os ks gs bs=>(match r with
  | []=> .req ((M gs:Int)<=1000) (.ok<|.xl A7<|BP gs)
  |_=> .no)
 |_=> .no
def aJZ:=vm (S:=aJH) func11 tv kN (L:=(λi=>if i=3 then Ro.lp else Ag i)) (λb hb=>by
 rw [show BA _=[aF4] by kernel_rfl] at hb
 simp only [B8,Bu,Bt] at hb;subst hb;exact apv) (λargs lv h=>by
 unfold aJH at h;split at h
 case h_2=>cases h
 replace h:=HX h
 obtain ⟨cs,os,ks,gs,bs,rfl,h⟩:=h;split at h
 ·refine Ap (letI a:=(aC6 (⟨0,cs,os,ks,gs,bs,([]:List Int)⟩:MV));.r0 Int<|.req (Ro.q (⟨0,cs,os,ks,gs,bs,([]:List Int)⟩:MV))<|.rz a.out<|.ok<|.xl A7<|(a.out.drop 0).take<|M a.out) ?_
  obtain ⟨hn,rfl⟩:=h
  have hE:iU ⟨0,cs,os,ks,gs,bs,[]⟩:=⟨rfl,rfl,hn⟩
  obtain ⟨_,_,q1,q2⟩:=aqo _ hE
  have q2:(aC6 ⟨0,cs,os,ks,gs,bs,[]⟩).out=BP gs:=q2
  refine ⟨A9,⟨hE,rfl,rfl⟩,A0,?_⟩
  show LV.xl _ _=_
  rw [CP,E6,q2]
 ·cases h)
structure KO where
 (b Ks:Bool)
 (ba dw:List Int)
 (m i:Int)
def aF9:=bN f3 0
def gE (s:KO):T (Rd KO):=
 .br (an<|s.i<s.m) (.ix s.i (M s.dw)<|.ix s.i (M s.ba)<|.br (an<|(gi s.dw s.i)>(gi s.ba s.i)) (.so (.ret) {s with b:=X})<|.nx {s with i:=AA<|s.i+1}) (.so (.exit 0) s)
def Ta (s:KO) (j:Int):Bool:=an<|gi s.dw j<=gi s.ba j
def iY (s:KO):Prop:=s.i=0/\0<=s.m/\s.m<=1000/\s.m=(M s.dw:Int)/\M s.dw=M s.ba
def YW (s:KO):Prop:=0<=s.i/\s.i<=s.m/\s.m<=1000/\(s.m=(M s.dw:Int)/\M s.dw=M s.ba)/\∀j:Nat,(j:Int)<s.i->Ta s j=U
def tO (s:KO):Nat:=(s.m-s.i).toNat
def aAd (x:Ex) (s s':KO):Prop:=(x=.exit 0/\∀j:Nat,(j:Int)<s'.m->Ta s' j=U)\/(x=.ret/\s'.b=X/\∃j:Nat,(j:Int)<s'.m/\Ta s' j=X)
def ajb:∀s,iY s->YW s:=by
 exact JH
def ax4:Da YW tO aAd gE:=by
 intro s hI;unfold gE;dsimp only [T.rd,T.rl,T.rv];obtain ⟨h0,h1,h2,h3,h4⟩:=hI;refine AH (λc1=>AH (λc2=>?_) λc2=>?_) λc1=>?_
 ·have c1:s.i<s.m:=AX
  refine .inr ⟨rfl,rfl,s.i.toNat,AZ,?_⟩;rw [CR A0]
  have hg:Ta s s.i=false:=aNI
  exact hg
 ·have c1:s.i<s.m:=AX
  have hg:Ta s s.i=true:=aNI
  rw [AI (x:=s.i+1)];refine ⟨⟨AZ,AZ,h2,h3,λj hj=>?_⟩,by simp only [tO];omega⟩
  exact aMD
 ·exact Zh
def PX:AR KO:=⟨0,110,[8,9,20,95,96,97],[],λs=>[s.b,s.Ks,.xl A7 s.ba,.xl A7 s.dw,s.m,s.i],λ_=>[],λv b=>⟨E4 v 0,E4 v 1,B4 A7 v 2,B4 A7 v 3,AK v 4,AK v 5⟩,gE,λs r=> {s with b:=r.b,i:=r.i},λs=>s,λ_ s=>s,[.ret,.exit 0],iY,YW,tO⟩
abbrev pX:=PX.run
abbrev WA:=PX.Aq
def awT:Rq YW gE:=by
 exact kQ
def tt:List Bd:=[aJw,aJf,aTw,fY,WL,uw,aJZ,aTu]
def azC:Ax:=kI tt<|l0 tt
def aQL:PX.Ok:={}
def aOe:PX.Pf (aAd):=⟨ajb,λs h=>rfl,ax4,awT⟩
def aq3:SA 0 aF9 PX:=s1 aQL aOe tt azC
def aqx:Fi iY YW aAd WA pX:=AR.fin aQL aOe
def nMo (more:Int):Int:=AA<|24+((AA more).tmod 10)
def Cp (p:PK) (more:Int):PK×Int×Bool:=Bo (nMo more).toNat p 0
def tlS (p:PK) (more:Int):KO:=⟨X,U,BP (Cp p more).1.gs,Bc (Cp p more).1 BZ,(M (Bc (Cp p more).1 BZ):Int),0⟩
def aGe {p:PK}{more:Int}(hJ:JP p) (hf:FI p) (hu:p.up=X) (ht:p.tk<=150) (m0:0<=more) (m1:more<=255):(JP p/\nMo more<=1000)/\JP (Cp p more).1/\(M (Cp p more).1.gs:Int)<=1000/\
  ((!(Cp p more).2.2) ||(((BJ (Cp p more).1 BZ) !=0) ||((M (Bc (Cp p more).1 BZ):Int) !=(M (BP (Cp p more).1.gs):Int))))=X/\PX.q (tlS p more)/\Bj (WA<|tlS p more) .ret=false:=by
 have h1:0<=more.tmod 10/\more.tmod 10<=9:=by rw [x8 m0];omega
 have e:nMo more=24+more.tmod 10:=by
  unfold nMo;rw [AI (x:=more),AI]
 obtain ⟨a1,a2,a3,a4,a5,a6⟩:=ann hJ hf hu ht (n:=(nMo more).toNat) A0 A0 (l:=0)
 have a1:(Cp p more).2.2=true:=a1
 have a3:BJ (Cp p more).1 BZ=0:=a3
 have a4:M (Bc (Cp p more).1 BZ)=M (BP (Cp p more).1.gs):=a4
 have a5:M (Cp p more).1.gs<=16:=a5
 have hl:M (BP (Cp p more).1.gs)=M (Cp p more).1.gs:=I2
 have hE:iY (tlS p more):=⟨rfl,Po _,by show (M (Bc (Cp p more).1 BZ):Int)<=1000;omega,rfl,a4⟩
 refine ⟨⟨hJ,A0⟩,a2,A0,by rw [a1,a3,a4];simp,⟨hE,rfl,rfl⟩,?_⟩
 obtain ⟨_,_,q⟩:=aqx _ hE
 have q:(WA (tlS p more)=.exit 0/\_)\/(WA (tlS p more)=.ret/\_/\∃j:Nat,(j:Int)<(M (Bc (Cp p more).1 BZ):Int)/\an (gi (Bc (Cp p more).1 BZ) j<=gi (BP (Cp p more).1.gs) j)=X):=q
 rcases q with ⟨q1,_⟩ |⟨_,_,j,j1,j2⟩
 ·rw [q1];rfl
 ·exact absurd (a6 j (by show j<M (Bc (Cp p more).1 BZ);omega))<|JE j2
def aSO:List LV->T LV
 | .agg a::r=>s5 a λcs os ks gs bs=>(match r with
  | [.xl (.int J) dr,.xl (.pair (.int aw) (.pair (.int aw) (.pair (.int .u16) (.pair (.pair (.int J) (.pair (.int J) (.pair (.int J) (.pair (.int J) (.int J))))) (.pair .bool (.pair (.int J) (.pair (.int J) (.int J)))))))) ops,.v (Y aw more)]=> .req (0<=more/\more<=255) (.ok U)
  |_=> .no)
 |_=> .no
def acN:=uS f3 aSO
def oW (cs:List Cd) (os:List ByteArray) (ks:List Ko) (gs:List Ch) (bs:List Ba) (dr:List Int) (ops:List<|Int×(Int×(Int×(Le×Dm)))) (more:Int):KO:=letI a:=(Cp (BO (DZ cs os ks gs bs dr ops)<|EW.ev<|⟨5,0,0,0,0,0,0,0,X,0,0,0⟩) more);(⟨X,U,BP a.1.gs,Bc a.1 BZ,(M (Bc a.1 BZ):Int),0⟩:KO)
def oV (cs:List Cd) (os:List ByteArray) (ks:List Ko) (gs:List Ch) (bs:List Ba) (dr:List Int) (ops:List<|Int×(Int×(Int×(Le×Dm)))) (more:Int):KO:=letI a:=Cp (DZ cs os ks gs bs dr ops) more;(⟨X,U,BP a.1.gs,Bc a.1 BZ,(M (Bc a.1 BZ):Int),0⟩:KO)
def tq:List Bd:=[aJw,aJf,aTw,fY,WL,uw,aJZ,aTu]
def azw:Ax:=kI tq<|l0 tq
def air:VV 3 acN:=vm func3 tq azw (L:=(λi=>if i=20 then PX.lp else Ag i)) (λb hb=>by
 rw [show BA _=[aF9] by kernel_rfl] at hb
 simp only [B8,Bu,Bt] at hb;subst hb;exact aq3) (λargs lv h=>by
 unfold aSO at h;split at h
 case h_2=>cases h
 replace h:=HX h
 obtain ⟨cs,os,ks,gs,bs,rfl,h⟩:=h;split at h
 ·rename_i dr ops more
  refine Ap (letI a:=(EW.ev<|⟨5,0,0,0,0,0,0,0,X,0,0,0⟩);.br (!((an<|M cs<=40/\M os<=40/\M ks<=40/\M gs<=40/\M bs<=40)&&((an<|(M dr:Int)<=40)&&(an<|(M ops:Int)<=40)))) (.ok U)<|.req (M ops<=1000)<|.br (!(ops.all Jm)) (.ok U)<|.req ((M dr<=1000/\M ops<=1000)/\∀x∈ops,TmO x)<|.br (!U) (.ok X)<|.br ((M (DZ cs os ks gs bs dr ops).tg:Int)==0) (.ok U)<|.br (DZ cs os ks gs bs dr ops).up (.req (JP<|DZ cs os ks gs bs dr ops)<|.br ((BJ (DZ cs os ks gs bs dr ops) a) !=0) (.ok X)<|.req ((10:Int)≠0)<|.req (JP (BO (DZ cs os ks gs bs dr ops) a)/\(nMo more)<=1000)<|.req (JP (Cp (BO (DZ cs os ks gs bs dr ops) a) more).1)<|.req ((M (Cp (BO (DZ cs os ks gs bs dr ops) a) more).1.gs:Int)<=1000)<|.br ((!(Cp (BO (DZ cs os ks gs bs dr ops) a) more).2.2) ||(((BJ (Cp (BO (DZ cs os ks gs bs dr ops) a) more).1 BZ) !=0) ||((M (Bc (Cp (BO (DZ cs os ks gs bs dr ops) a) more).1 BZ):Int) !=(M (BP (Cp (BO (DZ cs os ks gs bs dr ops) a) more).1.gs):Int)))) (.ok X)<|.req (PX.q<|oW cs os ks gs bs dr ops more)<|.br (Bj (WA<|oW cs os ks gs bs dr ops more)<|.ret) (.ok (pX<|oW cs os ks gs bs dr ops more).b)<|.ok U)<|.req ((10:Int)≠0)<|.req (JP (DZ cs os ks gs bs dr ops)/\(nMo more)<=1000)<|.req (JP (Cp (DZ cs os ks gs bs dr ops) more).1)<|.req ((M (Cp (DZ cs os ks gs bs dr ops) more).1.gs:Int)<=1000)<|.br ((!(Cp (DZ cs os ks gs bs dr ops) more).2.2) ||(((BJ (Cp (DZ cs os ks gs bs dr ops) more).1 BZ) !=0) ||((M (Bc (Cp (DZ cs os ks gs bs dr ops) more).1 BZ):Int) !=(M (BP (Cp (DZ cs os ks gs bs dr ops) more).1.gs):Int)))) (.ok X)<|.req (PX.q<|oV cs os ks gs bs dr ops more)<|.br (Bj (WA<|oV cs os ks gs bs dr ops more)<|.ret) (.ok (pX<|oV cs os ks gs bs dr ops more).b)<|.ok U) ?_;obtain ⟨⟨m0,m1⟩,rfl⟩:=h;refine ⟨λ_=>rfl,λc1=>?_⟩
  simp only [Hv,AY,Ac] at c1;obtain ⟨_,k1,k2⟩:=c1;refine ⟨A0,λ_=>rfl,λc2=>?_⟩
  have hT:=aoj.1 (show ops.all Jm=U by cases e:ops.all Jm with
   |true=>rfl
   |false=>rw [e] at c2;cases c2)
  refine ⟨⟨⟨A0,A0⟩,hT⟩,λc=>FN,λ_=>⟨λ_=>rfl,λc3=>?_⟩⟩
  have hn:DI cs os ks gs bs dr=0:=ZG λhc=>by
   rw [show DZ cs os ks gs bs dr ops=newP cs os ks gs bs dr from AD hc,show newP cs os ks gs bs dr=PK0 from AD hc] at c3;cases c3
  obtain ⟨hJ,hf,ht⟩:=axb hn (ops:=ops) A0 hT;refine ⟨λc4=>⟨hJ,?_⟩,λc4=>?_⟩
  ·have he:BJ (DZ cs os ks gs bs dr ops) Kk=0:=((aBI (ev:=⟨5,0,0,0,0,0,0,0,X,0,0,0⟩) (QC.2 hJ.1.1) rfl).1).trans (AE (by rw [c4];decide))
   have eP:BO (DZ cs os ks gs bs dr ops) Kk=(DZ cs os ks gs bs dr ops).PF:=aO4
   have hJ2:=hJ.step he
   have hf2:=hf.step hJ.1.1 he Aa Aa
   obtain ⟨b1,b2,b3,b4,b5,b6⟩:=aGe hJ2 hf2 (by rw [eP];rfl) (by rw [eP];exact ht) m0 m1
   refine ⟨λc5=>absurd he<|EL.1 c5,λ_=>⟨Aa,b1,b2,b3,λc6=>?_,λ_=>⟨b5,λc7=>?_,λ_=>rfl⟩⟩⟩
   ·exact absurd (b4.symm.trans c6) Aa
   ·exact absurd (b6.symm.trans c7) Aa
  ·obtain ⟨b1,b2,b3,b4,b5,b6⟩:=aGe hJ hf c4 ht m0 m1
   refine ⟨Aa,b1,b2,b3,λc6=>?_,λ_=>⟨b5,λc7=>?_,λ_=>rfl⟩⟩
   ·exact absurd (b4.symm.trans c6) Aa
   ·exact absurd (b6.symm.trans c7) Aa
 ·cases h)
end Go.Proofs.YtpfblnbippcdjaaGreatDoor
namespace Go.Sx
open Go Go.RowKit Go.Proofs.YtpfblnbippcdjaaGreatDoor
def mb:Ty->Nat
 | .int k=>k.bits / 8
 | .bool=>1
 | .str=>16
 | .sl _=>24
 | .pair a b=>mb a+mb b
def Kr:(t:Ty)->t.D->Prop
 | .int k,n=>(Lit.int k n).wf=U
 | .bool,_=>True
 | .str,s=>s.size<=maxLen
 | .sl e,l=>(M l<=maxLen/\M l*mb e<=reachBytes)/\∀d,d∈l->Kr e d
 | .pair a b,d=>Kr a d.1/\Kr b d.2
def WV (P:Program):Nat->List Field->Bool
 |_,[]=>U
 |o,f::fs=>an (f.offset=o)&&WV P (o+P.cellsOf f.type) fs
def Lf (P:Program):Nat->TypeId->Bool
 |0,_=>X
 |m+1,t=>match P.underlying t with
  |some (.int _) |some .bool|some .string=>an (P.cellsOf t=1)
  |some (.struct fs)=>WV P 0 fs.toList&&an (P.cellsOf t=((fs.toList.map (·.type)).map P.cellsOf).sum)&&fs.toList.all (λf=>Lf P m f.type)
  |some (.array n e)=>an (P.cellsOf t=((aq n e).map P.cellsOf).sum)&&Lf P m e
  |some (.slice e)=>an (P.cellsOf t=1)&&an (1<=P.cellsOf e)&&(IA P m e).any (λty=>ty.n==P.cellsOf e&&an (mb ty<=P.bytesOf e))&&Lf P m e
  |_=>X
variable {H : Type} {enc : TypeId × Value -> H} {P : Program} {w : World} {base : Nat} {spare : Nat -> Bool} {held : Bool} {β : Nat -> Loc}
def Good (enc:TypeId×Value->H) (P:Program) (w:World) (base:Nat) (spare:Nat->Bool) (held:Bool) (t:TypeId) (cs:List Value):Prop:=∃n x,DataW.trod enc P w base spare held n t cs=ah x/\∀k,k∈x.1.weights P t->k<=reachBytes
theorem oa {e:TypeId}{d:DataW H}{k:Nat}(hk:k∈d.weights P e):∀ {l:List<|DataW H}{i:Nat},l[i]? =ah d->k∈DataW.weightsAll P e l
 | [],_,h=>An
 |x::l,0,h=>by
  simp only [DataW.weightsAll,By]
  grind
 |x::l,i+1,h=>by
  simp only [DataW.weightsAll,By];exact .inr<|oa hk h
theorem aDj {t:TypeId}{d:DataW H}{k:Nat}(hk:k∈d.weights P t):∀ {ts:List TypeId}{l:List<|DataW H}{i:Nat},ts[i]? =ah t->l[i]? =ah d->k∈DataW.weightsEach P ts l
 | [],_,_,h,_=>An
 |_::_,[],_,_,h=>An
 |u::ts,x::l,0,h1,h2=>by
  simp only [DataW.weightsEach,By]
  grind
 |u::ts,x::l,i+1,h1,h2=>by
  simp only [DataW.weightsEach,By];exact .inr<|aDj hk h1 h2
theorem aDk:∀ {ts us:List TypeId}{ds gs:List<|DataW H},M ds=M ts->∀k,k∈DataW.weightsEach P ts ds->k∈DataW.weightsEach P (ts++us) (ds++gs)
 | [],_,[],_,_,_,h=>by simp [DataW.weightsEach] at h
 | [],_,_::_,_,h,_,_=>An
 |_::_,_,[],_,h,_,_=>An
 |t::ts,us,d::ds,gs,h,k,hk=>by
  simp only [DataW.weightsEach,By,L2] at hk|-;rcases hk with hk|hk
  ·grind
  ·exact .inr<|aDk A8 k hk
def adU:∀ {ts:List TypeId}{vs:List Value}{ds:List<|DataW H}{ps:List MemPlace},DataW.TrodAll enc P w base spare held ts vs ds ps->M ds=M ts
 | [],[],[],_,_=>rfl
 | [],_::_,_,_,h=>An
 | [],[],_::_,_,h=>An
 |_::_,[],_,_,h=>An
 |_::_,_::_,[],_,h=>An
 |_::_,_::_,_::_,_,h=>by
  obtain ⟨_,_,_,h2,_⟩:=h
  simp [adU h2]
def RL.append' {Z:Nat->Prop}:∀ {l1 l2:List LV}{y1 y2:List Value},RL β Z w l1 y1->RL β Z w l2 y2->RL β Z w (l1++l2) (y1++y2)
 | [],l2,y1,y2,h1,h2=>by simp only [RL] at h1;subst h1;exact h2
 |x::xs,l2,y1,y2,h1,h2=>by
  obtain ⟨y,zs,rfl,h3,h4⟩:=h1;exact ⟨y,zs++y2,rfl,h3,RL.append' h4 h2⟩
theorem td {Z:Nat->Prop}:∀(t:Ty) (d:t.D) (cs:List Value) (b o:Nat),RL β Z w (Bq t d) cs->(∀(j:Nat) v,cs[j]? =ah v->w.cell? ⟨b,o+j,aj⟩=ah v)->RD Z w t d b o
 | .int k,d,cs,b,o,h,hc=>by
  exact xg
 | .bool,d,cs,b,o,h,hc=>by
  exact xg
 | .str,d,cs,b,o,h,hc=>by
  exact xg
 | .sl e,d,cs,b,o,h,hc=>by
  obtain ⟨y,zs,rfl,⟨a,cap,rfl,h2,h3⟩,_⟩:=h;simp only [RD];exact ⟨a,cap,hc 0 _ rfl,h2,h3⟩
 | .pair p q,d,cs,b,o,h,hc=>by
  simp only [Bq] at h
  have hl:=RL.length h
  have h1:=h.take_drop 0 p.n
  have h2:RL β Z w ((Bq p d.1++Bq q d.2).drop p.n) (cs.drop p.n):=by
   refine RL.CS (by simp [hl,K2]) λi z hz=>?_
   rw [Ew] at hz|-;exact RL.get _ _ h hz
  have t1:((Bq p d.1++Bq q d.2).drop 0).take p.n=Bq p d.1:=by
   rw [CP,List.take_append_of_le_length yU,DS yU]
  have t2:(Bq p d.1++Bq q d.2).drop p.n=Bq q d.2:=by
   rw [aKU yU,Ef A8,E7]
  rw [t1,CP] at h1;rw [t2] at h2;simp only [RD];refine ⟨td p d.1 _ b o h1 λj v hv=>?_,td q d.2 _ b (o+p.n) h2 λj v hv=>?_⟩
  ·exact aM3
  ·rw [Ew] at hv
   grind
theorem pH {Z:Nat->Prop}{r:TypeId->Option Ty}{sz:TypeId->Nat}{Gd:TypeId->List Value->Prop}:∀(ts:List TypeId) (ty:Ty) (cs:List Value),Un r ts=ah ty->
  (∀t∈ts,∀ty c,r t=ah ty->Gd t c->∃d:ty.D,RL β Z w (Bq ty d) c/\Kr ty d)->M cs=(ts.map sz).sum->(∀pre t post,ts=pre++t::post->Gd t ((cs.drop (pre.map sz).sum).take<|sz t))->∃d:ty.D,RL β Z w (Bq ty d) cs/\Kr ty d
 | [],ty,cs,h,_,_,_=>by simp [Un] at h
 | [t],ty,cs,h,ih,hl,hg=>by
  have:=ih t AJ ty _ h<|hg [] t [] rfl
  have e:(cs.drop (List.map sz []).sum).take (sz t)=cs:=by
   grind
  rw [e] at this;exact this
 | t::u::ts,ty,cs,h,ih,hl,hg=>by
  simp only [Un] at h;split at h
  ·rename_i a b ha hb
   simp only [Af] at h;subst h;obtain ⟨d1,a1,a2⟩:=ih t AJ a _ ha<|hg [] t (u::ts) rfl
   obtain ⟨d2,b1,b2⟩:=pH (sz:=sz) (Gd:=Gd) (u::ts) b (cs.drop<|sz t) hb (λt' ht=>ih t' A8) A8 (λpre t' post e=>by
    have:=hg (t::pre) t' post yb
    simpa using this)
   refine ⟨(d1,d2),?_,by simp only [Kr];exact ⟨a2,b2⟩⟩
   have:=RL.append' a1 b1
   simp only [Bq];exact Py
  ·cases h
theorem qM:∀(fs:List Field) (o:Nat),WV P o fs=U->∀pre f post,fs=pre++f::post->f.offset=o+((pre.map (·.type)).map P.cellsOf).sum
 | [],o,_,pre,f,post,e=>by cases pre<;>cases e
 |g::fs,o,h,[],f,post,e=>by
  simp only [WV,AY,Ac] at h
  grind
 |g::fs,o,h,p::pre,f,post,e=>by
  simp only [WV,AY,Ac] at h;simp only [L2,HN] at e
  have:=qM fs _ h.2 pre f post e.2
  grind
theorem dH {Z:Nat->Prop}(hZ:∀b,b<w.heap.size->Z b):∀(m:Nat) (t:TypeId) (ty:Ty),Lf P m t=U->IA P m t=ah ty->∀cs,Good enc P w base spare held t cs->∃d:ty.D,RL β Z w (Bq ty d) cs/\Kr ty d
 |0,t,_,h,_,_,_=>An
 | m + 1,t,ty,h,hty,cs,⟨n,x,hx,hwt⟩=>by
  simp only [Lf] at h;simp only [IA] at hty;split at h
  ·rename_i k hu
   obtain ⟨z,rfl,_,hw⟩:=DataW.trod_int hu hx;simp only [hu,Af] at hty;subst hty;exact ⟨z,ym,hw⟩
  ·rename_i hu
   obtain ⟨z,rfl,_⟩:=DataW.trod_bool hu hx;simp only [hu,Af] at hty;subst hty;exact ⟨z,ym,ak⟩
  ·rename_i hu
   obtain ⟨z,rfl,_,hs⟩:=DataW.trod_string hu hx;simp only [hu,Af] at hty;subst hty;exact ⟨z,ym,hs⟩
  ·rename_i fs hu
   simp only [AY,Ac,BR] at h;obtain ⟨⟨h1,h2⟩,h3⟩:=h;obtain ⟨xs,n',_,rfl,hl,hxl,hf⟩:=DataW.trod_struct hu hx;simp only [DataW.weights,hu] at hwt;simp only [hu] at hty;refine pH (Gd:=Good enc P w base spare held) (sz:=P.cellsOf) (fs.toList.map (·.type)) ty cs hty (λt' ht ty' c hty' hc=>?_) lS λpre t' post e=>?_
   ·obtain ⟨f,hf1,rfl⟩:=Eg.1 ht
    exact dH hZ m f.type ty' (h3 f hf1) hty' c hc
   ·obtain ⟨fpre,frest,e1,e2,e3⟩:=List.map_eq_append_iff.1 e
    obtain ⟨f,fpost,rfl,e4,e5⟩:=List.map_eq_cons_iff.1 e3
    have ho:=qM fs.toList 0 h1 fpre f fpost e1
    have hi:fs[M fpre]? =ah f:=by
     exact aMJ
    have hg:=hf _ f hi
    have hlt:M fpre<fs.size:=(HM.1 hi).1
    rw [ho,EK] at hg;refine ⟨n',xs[M fpre]' A0,?_,λk hk=>?_⟩
    ·rw [<-e2,<-e4,hg,DR]
    ·rw [<-e4] at hk
     exact hwt k<|aDj hk (i:=M fpre) (by rw [e1];simp) y7
  ·rename_i n0 e hu
   simp only [AY,Ac] at h;obtain ⟨h2,h3⟩:=h;obtain ⟨xs,n',_,rfl,hl,hxl,hf⟩:=DataW.trod_array hu hx;simp only [DataW.weights,hu] at hwt;simp only [hu] at hty;refine pH (Gd:=Good enc P w base spare held) (sz:=P.cellsOf) (aq n0 e) ty cs hty (λt' ht ty' c hty' hc=>?_) lS λpre t' post e'=>?_
   ·rw [(SR.1 ht).2] at hc hty'
    exact dH hZ m e ty' h3 hty' c hc
   ·obtain ⟨c1,c2,c3⟩:=aKV.1 e'
    have ht':t'=e:=by
     have:t'∈aq n0 e:=by rw [e'];simp
     exact (SR.1 this).2
    have hlen:M pre<n0:=by
     have:=B1 M e'
     simp at this;omega
    have hg:=hf (M pre) hlen
    refine ⟨n',xs[M pre]' A0,?_,λk hk=>?_⟩
    ·have hs:(pre.map P.cellsOf).sum=M pre*P.cellsOf e:=by rw [c2];simp
     rw [hs,ht',hg,DR]
    ·rw [ht'] at hk
     exact hwt k<|oa hk (i:=M pre) y7
  ·rename_i e hu
   simp only [AY,Ac] at h;obtain ⟨⟨⟨h1,h2⟩,h4⟩,h3⟩:=h;simp only [hu,Option.map_eq_some_iff] at hty;obtain ⟨te,hte,rfl⟩:=hty;rw [hte] at h4;simp only [Option.any_some,AY,Ac,Cz] at h4;obtain ⟨h4,h5⟩:=h4;rcases DataW.trod_slice hu hx with ⟨rfl,_⟩ |⟨a,len,cap,elems,rest,n',_,rfl,rfl,hb,hlc,hm,hlen,hel,_,_⟩
   ·refine ⟨([]:List te.D),?_,⟨N3 _,AJ⟩,λd hd=>VN⟩
    simp only [Bq,RL,R]
    grind
   ·simp only [DataW.weights,hu] at hwt
    have hroom:=hwt _<|List.mem_cons_self ..
    have each:∀i,∃d:te.D,i<len->∃c,w.cells? base (a.add<|i*P.cellsOf e) (P.cellsOf e)=ah c/\RL β Z w (Bq te d) c/\Kr te d:=λi=>by
     by_cases hi:i<len
     ·have he:=hel i hi
      rw [DR A0] at he;obtain ⟨c,hc,ht⟩:=Option.bind_eq_some_iff.1 he
      obtain ⟨d,l1,l2⟩:=dH hZ m e te h3 hte c ⟨n',_,ht,λk hk=>hwt k (by
       simp only [B8,By];exact .inr<|.inl<|oa hk (i:=i) y7)⟩
      exact ⟨d,λ_=>⟨c,hc,l1,l2⟩⟩
     ·exact ⟨te.dflt,λh=>absurd h hi⟩
    have ⟨g,hg⟩:=we each
    have hlg:M ((au len).map g)=len:=AJ
    refine ⟨(au len).map g,?_,⟨by rw [hlg];omega,by rw [hlg];exact HP (Nat.mul_le_mul D2 h5) hroom⟩,λd hd=>?_⟩
    ·simp only [Bq,RL,R]
     refine ⟨_,[],rfl,⟨ah a,cap,by rw [hlg],by rw [hlg];omega,λhn=>?_⟩,rfl⟩
     rw [hlg] at hn;obtain ⟨c0,hc0,hr0,_⟩:=hg 0 hn;obtain ⟨_,hcl0,hat0⟩:=World.cells?_some hc0
     have hcell0:∃z,w.cell? ((a.add<|0*P.cellsOf e).add 0)=ah z:=by
      grind
     obtain ⟨z0,hz0⟩:=hcell0;obtain ⟨b,off,spot⟩:=a
     have hsp:spot=none:=by
      cases spot with
      |none=>rfl
      |some q=>
       unfold World.cell? at hz0;split at hz0
       ·simp [Addr.add] at hz0
       ·cases hz0
     subst hsp
     have hbl:b<w.heap.size:=by
      simp only [addr_add] at hz0;unfold World.cell? at hz0;split at hz0
      ·rename_i hh;exact (HM.1 hh).1
      ·cases hz0
     refine ⟨b,off,rfl,hZ b hbl,λi d hd=>?_⟩
     have hi:i<len:=by
      have:=(Du.1 hd).1
      rwa [hlg] at this
     have hdd:d=g i:=by
      rw [DT,xE hi] at hd
      simpa using hd.symm
     subst hdd;obtain ⟨c,hc,hr,_⟩:=hg i hi;obtain ⟨_,hcl,hat⟩:=World.cells?_some hc;refine td te (g i) c b _ hr λj v hv=>?_
     have hj:j<P.cellsOf e:=by
      have:=(Du.1 hv).1
      omega
     have:=hat j hj
     rw [hv] at this;rw [h4]
     simpa [addr_add,HO] using this
    ·obtain ⟨i,hi,rfl⟩:=Eg.1 hd
     obtain ⟨_,_,_,hw⟩:=hg i<|by simpa using hi
     exact hw
  ·cases h
def Jl (P:Program) (m:Nat) (t:TypeId) (l:List LV):Prop:=∃(ty:Ty) (d:ty.D),IA P m t=ah ty/\l=Bq ty d/\Kr ty d
theorem eG {P:Program}{m:Nat}{t:TypeId}{l:List LV}{ty:Ty}(ht:IA P m t=ah ty) (h:Jl P m t l):∃d:ty.D,l=Bq ty d/\Kr ty d:=by
 obtain ⟨ty',d,h1,h2,h3⟩:=h
 grind
def anG {Z:Nat->Prop}(hZ:∀b,b<w.heap.size->Z b) (m:Nat) (t:TypeId) (hs:Lf P m t=U) (ht:(IA P m t).isSome=U) (cs:List Value) (hg:Good enc P w base spare held t cs):∃l,RL β Z w l cs/\AS 0 l/\Jl P m t l:=by
 obtain ⟨ty,hty⟩:=ZD.1 ht;obtain ⟨d,h1,h2⟩:=dH (β:=β) hZ m t ty hs hty cs hg;exact ⟨Bq ty d,h1,NK 0 ty d,ty,d,hty,rfl,h2⟩
end Go.Sx
namespace Go.Sx
open Go Go.RowKit Go.Proofs.YtpfblnbippcdjaaGreatDoor Go.ChangeShapes Go.WideShapes
variable {H : Type} {enc : TypeId × Value -> H} {P : Program} {β : Nat -> Loc} {Z : Nat -> Prop}
theorem ad6 (hl:laidOutB P=U) {W W':World}(hb:Below W.heap.size W W'):∀(ts:List TypeId) (vs:List Value) (ds:List<|DataW H) (ps:List MemPlace),ts.all (λt=>P.readableRec t&&an (t<P.types.size))=U->
  DataW.TrodAll enc P W 0 (λ_=>U) U ts vs ds ps->(∀x∈ps,x.block<W.heap.size)->DataW.TrodAll enc P W' 0 (λb=>an<|b<W.heap.size) U ts vs ds ps
 | [],vs,ds,ps,_,h,_=>by
  cases vs<;>cases ds<;>first|exact h|exact h.elim
 | t::ts,vs,ds,ps,hr,h,hlt=>by
  cases vs with
  |nil=>cases ds<;>exact h.elim
  | cons v vs=>
   cases ds with
   |nil=>exact h.elim
   |cons d ds=>
    obtain ⟨p,q,h1,h2,rfl⟩:=h;simp only [IN,AY,Ac] at hr;refine ⟨p,q,Below.trod hl hr.1.1 hr.1.2 h1 hb λx hx=>hlt x A8,?_,rfl⟩
    exact ad6 hl hb ts vs ds q A8 h2 λx hx=>hlt x A8
theorem anM {fn:Func}{s:ChangeSpec}{tb:TypeId}{apart:Bool}{W W':World}{args:Array Value}{ds gs:List<|DataW H}{before:List MemPlace}
  (hl:laidOutB P=U) (hr:fn.params.toList.all (λt=>P.readableRec t&&an (t<P.types.size))=U) (hres:fn.resultTypes=#[tb]) (hb:P.underlying tb=ah .bool) (hvars:s.vars=[])
  (hfn:(s.fn H ds).results=[.lit<|.bool U]/\(s.fn H ds).args=ds/\(s.fn H ds).vars=[])
  (hW:DataW.Whole enc P fn.params.toList s.vars apart W args.toList ds gs before) (hB:Below W.heap.size W W'):s.post enc P fn apart U X X W args (.bool U) W':=by
 have hW':=hW
 obtain ⟨p,q,hA,hV,rfl,hfz,hnd⟩:=hW
 have hg:gs=[]/\q=[]:=by
  rw [hvars] at hV;cases gs with
  |nil=>exact ⟨rfl,hV⟩
  |cons g r=>exact hV.elim
 obtain ⟨rfl,rfl⟩:=hg
 have hlt:∀x∈p,x.block<W.heap.size:=λx hx=>hW'.lt x A8
 refine ⟨ds,[],p++[],[],p,[],hW',?_,?_,?_,hB.frame _,λh=>An⟩
 ·rw [GB,hfn.1,hres]
  exact trodAll_mk1<|shut_bool hb U
 ·rw [GB,hfn.2.1]
  exact ad6 hl hB _ _ _ _ hr hA hlt
 ·rw [GB,hfn.2.2,hvars]
  rfl
def pLV (P:Program) (t:TypeId) (l:List LV):LV:=
 match P.underlying t with
 |some (.struct _)=>JV l
 |some (.array _ _)=> .junk
 |_=>match l with
  | [x]=>x
  |_=> .junk
theorem cell_of {w:World}{b0:Nat}{r:Reach}{m:Nat}{t:TypeId}(hs:Lf P m t=U) {v:Value}(hv:Value.okWide P w r b0 t v) (h1:∀fs,P.underlying t=ah (.struct fs)->False) (h2:∀n e,P.underlying t=ah (.array n e)->False):v.cells.toList=[v]:=by
 cases m with
 |zero=>cases hs
 | succ m=>
  simp only [Lf] at hs;split at hs
  ·rename_i k hu
   obtain ⟨n,rfl⟩:=okWide_int hu hv;rfl
  ·rename_i hu
   obtain ⟨n,rfl⟩:=okWide_bool hu hv;rfl
  ·rename_i hu
   obtain ⟨n,rfl⟩:=okWide_string hu hv;rfl
  ·rename_i fs hu
   grind
  ·rename_i n e hu
   grind
  ·rename_i e hu
   obtain ⟨a,l,c,rfl⟩:=okWide_slice hu hv;rfl
  ·cases hs
theorem aeZ {w:World}{base b0:Nat}{spare:Nat->Bool}{held:Bool}{r:Reach}(hZ:∀b,b<w.heap.size->Z b) {m:Nat}{t:TypeId}(hs:Lf P m t=U) (ht:(IA P m t).isSome=U) {v:Value}{d:DataW H}{p:List MemPlace}(hv:Value.okWide P w r b0 t v) (h:DataW.Trod enc P w base spare held t v d p) (hwt:∀k,k∈d.weights P t->k<=reachBytes):
  ∃l,okV 0 (pLV P t l)/\R β Z w (pLV P t l) v/\Jl P m t l:=by
 obtain ⟨fuel,hf⟩:=h;obtain ⟨l,h1,h2,h3⟩:=anG (β:=β) hZ m t hs ht v.cells.toList ⟨fuel,_,hf,hwt⟩;refine ⟨l,?_,?_,h3⟩
 ·unfold pLV
  split
  ·exact QH h2
  ·trivial
  ·split
   ·exact h2.1
   ·trivial
 ·unfold pLV
  split
  ·rename_i fs hu
   obtain ⟨cs,rfl,_⟩:=okWide_struct hu hv;exact Vr h1
  ·exact Dh
  ·split
   ·rename_i x
    obtain ⟨y,zs,e1,e2,rfl⟩:=h1
    have hc:=cell_of hs hv A8 A8
    grind
   ·exact Dh
def S0 (P:Program):List TypeId->List (List LV)->List LV
 |t::ts,l::ls=>pLV P t l::S0 P ts ls
 |_,_=>[]
def Wx (P:Program) (m:Nat):List TypeId->List (List LV)->Prop
 | [],ls=>ls=[]
 |t::ts,ls=>∃l r,ls=l::r/\Jl P m t l/\Wx P m ts r
theorem adX {w:World}{base b0:Nat}{spare:Nat->Bool}{held:Bool}{r:Reach}(hZ:∀b,b<w.heap.size->Z b) {m:Nat}:∀(ts:List TypeId) (vs:List Value) (ds:List<|DataW H) (ps:List MemPlace),ts.all (λt=>Lf P m t&&(IA P m t).isSome)=U->
  (∀(j:Nat) t v,ts[j]? =ah t->vs[j]? =ah v->Value.okWide P w r b0 t v)->DataW.TrodAll enc P w base spare held ts vs ds ps->(∀k,k∈DataW.weightsEach P ts ds->k<=reachBytes)->∃ls,AS 0 (S0 P ts ls)/\RL β Z w (S0 P ts ls) vs/\Wx P m ts ls
 | [],vs,ds,ps,_,_,h,_=>by
  cases vs with
  |nil=>exact ⟨[],ak,by simp [S0,RL],rfl⟩
  |cons _ _=>cases ds<;>exact h.elim
 | t::ts,vs,ds,ps,hs,hv,h,hwt=>by
  cases vs with
  |nil=>cases ds<;>exact h.elim
  | cons v vs=>
   cases ds with
   |nil=>exact h.elim
   |cons d ds=>
    obtain ⟨p,q,h1,h2,rfl⟩:=h;simp only [IN,AY] at hs;simp only [DataW.weightsEach,By] at hwt;obtain ⟨l,a1,a2,a3⟩:=aeZ (β:=β) hZ hs.1.1 hs.1.2 (hv 0 t v rfl rfl) h1 λk hk=>hwt k<|.inl hk
    obtain ⟨ls,b1,b2,b3⟩:=adX hZ ts vs ds q hs.2 (λj t' v' e1 e2=>hv (j+1) t' v' A8 A8) h2 λk hk=>hwt k<|.inr hk
    exact ⟨l::ls,⟨a1,b1⟩,⟨v,vs,rfl,a2,b2⟩,l,ls,rfl,a3,b3⟩
theorem ae3 {G:Az}{f:FuncId}{fn:Func}{S:List LV->T LV}{s:ChangeSpec}{tb:TypeId}{apart:Bool}{m:Nat}{W:World}{base:Nat}{args:Array Value}{ds gs:List<|DataW H}{before:List MemPlace}
  (hv:Valid P G f S) (hl:laidOutB P=U) (hr:fn.params.toList.all (λt=>P.readableRec t&&an (t<P.types.size))=U) (hres:fn.resultTypes=#[tb]) (hb:P.underlying tb=ah .bool) (hvars:s.vars=[])
  (hfn:(s.fn H ds).results=[.lit<|.bool U]/\(s.fn H ds).args=ds/\(s.fn H ds).vars=[]) (hs:fn.params.toList.all (λt=>Lf P m t&&(IA P m t).isSome)=U)
  (hS:∀ls,Wx P m fn.params.toList ls->(S<|S0 P fn.params.toList ls).all (λx=>x=.v (.bool U)))
  (hg:Pe G (λb=>b<W.heap.size) W)
  (hval:∀(j:Nat) t v,fn.params[j]? =ah t->args[j]? =ah v->Value.okWide P W .any base t v)
  (hW:DataW.Whole enc P fn.params.toList s.vars apart W args.toList ds gs before) {us:List TypeId} (hz:(DataW.weightsEach P (fn.params.toList++us)<|ds++gs).all (·<=reachBytes)=U):
  Calls P f args W λe W'=>∃v,e=.returned v/\s.post enc P fn apart U X X W args v W':=by
 have hA:∃p,DataW.TrodAll enc P W 0 (λ_=>U) U fn.params.toList args.toList ds p:=by
  obtain ⟨p,q,hA,_⟩:=hW
  grind
 obtain ⟨p,hA⟩:=hA;obtain ⟨ls,h1,h2,h3⟩:=adX (β:=β0) (Z:=λb=>b<W.heap.size) (λ_ h=>h) fn.params.toList args.toList ds p hs (λj t v e1 e2=>hval j t v A8 A8) hA λk hk=>DC<|BR.1 hz k<|aDk (adU hA) k hk
 refine (hv _ args W _ _ (λ_ h=>h) hg h1 h2<|hS ls h3).mono λe W' ⟨hB,v,he,_,hR⟩=>⟨v,he,?_⟩
 rw [hR];exact anM hl hr hres hb hvars hfn hW hB
end Go.Sx
namespace Go.Sx
open Go Go.RowKit Go.Proofs.YtpfblnbippcdjaaGreatDoor
variable {H : Type} {enc : TypeId × Value -> H} {P : Program} {w : World} {base : Nat} {spare : Nat -> Bool} {held : Bool}
def PE {H:Type}:Nat->DataW H->List Value
 |0,_=>[]
 |_+1,.lit (.int k n)=>[Y k n]
 |_+1,.lit (.bool b)=>[.bool b]
 |m+1,.agg l=>l.flatMap (PE m)
 |_,_=>[]
def WT (P:Program):Nat->TypeId->Bool
 |0,_=>X
 |m+1,t=>match P.underlying t with
  |some (.int _) |some .bool=>U
  |some (.struct fs)=>WV P 0 fs.toList&&an (P.cellsOf t=((fs.toList.map (·.type)).map P.cellsOf).sum)&&fs.toList.all (λf=>WT P m f.type)
  |some (.array n e)=>an (P.cellsOf t=((aq n e).map P.cellsOf).sum)&&WT P m e
  |_=>X
theorem pT {sz:TypeId->Nat}{g:DataW H->List Value}{Tr:TypeId->List Value->DataW H->Prop}:∀(ts:List TypeId) (cs:List Value) (ds:List<|DataW H),
  (∀t∈ts,∀c d,Tr t c d->g d=c)->M ds=M ts->M cs=(ts.map sz).sum->(∀pre t post,ts=pre++t::post->∃d,ds[M pre]? =ah d/\Tr t ((cs.drop (pre.map sz).sum).take<|sz t) d)->ds.flatMap g=cs
 | [],cs,ds,_,h0,hl,_=>by
  grind
 |t::ts,cs,[],_,h0,_,_=>A8
 | t::ts,cs,d::ds,ih,h0,hl,hg=>by
  obtain ⟨d',e1,e2⟩:=hg [] t ts rfl
  simp at e1
  subst e1
  have r:=pT (sz:=sz) (g:=g) (Tr:=Tr) ts (cs.drop<|sz t) ds (λt' ht=>ih t' A8) A8 A8 (λpre t' post e=>by
   obtain ⟨q,q1,q2⟩:=hg (t::pre) t' post A8;refine ⟨q,A8,?_⟩
   simpa using q2)
  rw [kD,r,ih t AJ _ _ e2]
  simp
theorem qS:∀(m:Nat) (t:TypeId),WT P m t=U->∀(n:Nat) (cs:List Value) (x:DataW H×List MemPlace),DataW.trod enc P w base spare held n t cs=ah x->PE m x.1=cs
 |0,t,h,_,_,_,_=>An
 | m +1,t,h,n,cs,x,hx=>by
  simp only [WT] at h;split at h
  ·rename_i k hu
   obtain ⟨z,rfl,rfl,hw⟩:=DataW.trod_int hu hx;rfl
  ·rename_i hu
   obtain ⟨z,rfl,rfl⟩:=DataW.trod_bool hu hx;rfl
  ·rename_i fs hu
   simp only [AY,Ac,BR] at h;obtain ⟨⟨h1,h2⟩,h3⟩:=h;obtain ⟨xs,n',_,rfl,hl,hxl,hf⟩:=DataW.trod_struct hu hx;simp only [PE];refine pT (sz:=P.cellsOf) (Tr:=λt c d=>∃y,DataW.trod enc P w base spare held n' t c=ah y/\y.1=d) (fs.toList.map (·.type)) cs _ (λt' ht c d hc=>?_) (by simp [hxl]) lS λpre t' post e=>?_
   ·obtain ⟨f,hf1,rfl⟩:=Eg.1 ht
    obtain ⟨y,hy,rfl⟩:=hc;exact qS m f.type (h3 f hf1) n' c y hy
   ·obtain ⟨fpre,frest,e1,e2,e3⟩:=List.map_eq_append_iff.1 e
    obtain ⟨f,fpost,rfl,e4,e5⟩:=List.map_eq_cons_iff.1 e3
    have ho:=qM fs.toList 0 h1 fpre f fpost e1
    have hi:fs[M fpre]? =ah f:=by
     exact aMJ
    have hg:=hf _ f hi
    have hlt:M fpre<fs.size:=(HM.1 hi).1
    refine ⟨(xs[M fpre]' A0).1,?_,xs[M fpre]' A0,?_,rfl⟩
    ·grind
    ·grind
  ·rename_i n0 e hu
   simp only [AY,Ac] at h;obtain ⟨h2,h3⟩:=h;obtain ⟨xs,n',_,rfl,hl,hxl,hf⟩:=DataW.trod_array hu hx;simp only [PE];refine pT (sz:=P.cellsOf) (Tr:=λt c d=>∃y,DataW.trod enc P w base spare held n' t c=ah y/\y.1=d) (aq n0 e) cs _ (λt' ht c d hc=>?_) (by simp [hxl]) lS λpre t' post e'=>?_
   ·rw [(SR.1 ht).2] at hc
    obtain ⟨y,hy,rfl⟩:=hc;exact qS m e h3 n' c y hy
   ·obtain ⟨c1,c2,c3⟩:=aKV.1 e'
    have ht':t'=e:=by
     grind
    have hlen:M pre<n0:=by
     have:=B1 M e'
     simp at this;omega
    have hs:(pre.map P.cellsOf).sum=M pre*P.cellsOf e:=by rw [c2];simp
    refine ⟨(xs[M pre]' A0).1,?_,xs[M pre]' A0,?_,rfl⟩
    ·grind
    ·grind
  ·cases h
theorem adt {W:World}{name:String}{d:DataW Unit}{rest:List<|String×DataW Unit}{g:Nat}{t:TypeId}{m:Nat}(hg:P.globalNamed name=ah g) (hty:(P.globals[g]?).map (·.type)=ah t) (hp:WT P m t=U)
  (h:laidMet P ((name,d)::rest) W):(∀i,W.cell? ⟨g,i,aj⟩=(PE m d)[i]?)/\((PE m d)≠ []->g<W.heap.size):=by
 obtain ⟨ps,⟨g',t',cs,fuel,p,q,hg',ht',hvar,hd,_,_⟩,_⟩:=h;obtain rfl:=Dt<|hg.symm.trans hg';obtain rfl:=Dt<|hty.symm.trans ht'
 have hf:=qS m t hp fuel _ _ hd
 have hcell:∀i,W.cell? ⟨g,i,aj⟩=(PE m d)[i]? :=λi=>by
  rw [World.var?_cell hg hvar i,hf];simp
 refine ⟨hcell,λhne=>?_⟩
 have h0:=hcell 0
 cases hh:(PE m d)[0]? with
 |none=>exact absurd (List.getElem?_eq_none_iff.1 hh) A8
 |some z=>
  rw [hh] at h0;unfold World.cell? at h0;split at h0
  ·grind
  ·cases h0
end Go.Sx
namespace Go.Proofs.YtpfblnbippcdjaaGreatDoor
set_option maxRecDepth 100000
set_option maxHeartbeats 4000000
open Go.Proofs.Tryz
open Go.Sx Go.ChangeShapes Go.WideShapes Go.ChangeAt Go.RowKit
def own:ownKnob prog.godebug=none:=AT
def laidOut:laidOutB prog=true:=AT
def aCU {P:Program}{x:String×DataW Unit}{r:List<|String×DataW Unit}{W:World}(h:laidMet P (x::r) W):laidMet P r W:=by
 obtain ⟨n,d⟩:=x;obtain ⟨ps,⟨g,t,cs,fuel,p,q,h1,h2,h3,h4,h5,rfl⟩,hn,hm⟩:=h;exact ⟨q,h5,(xI.1 hn).2.1,λb off hb=>hm b off<|List.mem_append_right _ hb⟩
def uZ {W:World}{name:String}{d:DataW Unit}{rest:List<|String×DataW Unit}{g:Nat}{t:TypeId}{n:Nat}{f:Nat->Value}(hg:prog.globalNamed name=ah g) (hty:(prog.globals[g]?).map (·.type)=ah t) (hp:WT prog 4 t=U) (h:laidMet prog ((name,d)::rest) W) (key:PE 4 d=(au<|n+1).map f):g<W.heap.size/\∀j,j<n+1->W.cell? ⟨g,j,aj⟩=ah (f j):=by
 obtain ⟨h1,h2⟩:=adt (m:=4) hg hty hp h;refine ⟨h2 (by rw [key];intro h0;exact absurd (B1 M h0) AJ),λj hj=>?_⟩
 rw [h1 j,key,DT,xE hj];rfl
def anq {W:World}(h:laidMetH prog [("chargepark/charger.afterwards",Rows.laid_chargepark_charger_afterwards),("chargepark/ramp.happens",Rows.laid_chargepark_ramp_happens),("chargepark/vault.widths",Rows.laid_chargepark_vault_widths)] W):Pe AV (λb=>b<W.heap.size) W:=by
 have h:laidMet prog [("chargepark/charger.afterwards",Rows.laid_chargepark_charger_afterwards),("chargepark/ramp.happens",Rows.laid_chargepark_ramp_happens),("chargepark/vault.widths",Rows.laid_chargepark_vault_widths)] W:=h
 have a1:=uZ (t:=231) (n:=59) (f:=λj=> Y J<|Wa j) (g:=0) AT AT AT h AT
 have a2:=uZ (t:=271) (n:=7) (f:=λj=> Y J<|UX j) (g:=2) AT AT AT (aCU h) AT
 have a3:=uZ (t:=240) (n:=4) (f:=λj=> Y J<|aBH j) (g:=1) AT AT AT (aCU<|aCU h) AT
 intro g n f hg;unfold AV at hg;split at hg
 ·cases hg;exact a2
 ·cases hg;exact a1
 ·cases hg;exact a3
 ·cases hg
def aDn {H:Type}{enc:TypeId×Value->H}{P:Program}{w:World}{base:Nat}{spare:Nat->Bool}{held:Bool}:∀ {ts:List TypeId}{vs:List Value}{ds:List<|DataW H}{ps:List MemPlace},DataW.TrodAll enc P w base spare held ts vs ds ps->M ds=M ts
 | [],[],[],_,_=>rfl
 | [],_::_,_,_,h=>An
 | [],[],_::_,_,h=>An
 |_::_,[],_,_,h=>An
 |_::_,_::_,[],_,h=>An
 |_::_,_::_,_::_,_,h=>by
  obtain ⟨_,_,_,h2,_⟩:=h
  simp [aDn h2]
def put (vs:Array Value):Obj->Obj
 | .cells _ t frozen=> .cells vs t frozen
 |o=>o
def laidWorld (os:Os):World:=
 {World.holding prog os ⟨#[],#[],[]⟩ with heap:=(((World.holding prog os ⟨#[],#[],[]⟩).heap.modify 2<|put ((au 8).map λj=> Y J<|UX j).toArray).modify 0<|put ((au 60).map λj=> Y J<|Wa j).toArray).modify 1<|put ((au 5).map λj=> Y J<|aBH j).toArray}
namespace ParkFailure
def wf_u8 {d:(Ty.int aw).D}(h:Kr (.int aw) d):(0:Int)<=d/\d<=(255:Int):=by
 simp only [Kr,Lit.wf,AY] at h;exact ⟨DC h.1,DC h.2⟩
def opened (ls:List<|List LV) (h:Wx prog 8 f3.params.toList ls):(acN<|S0 prog f3.params.toList ls).all (λx=>x=.v (.bool U)):=by
 rw [Tryz.params3] at h|-;simp only [Wx] at h;obtain ⟨l0,_,rfl,h0,l1,_,rfl,h1,l2,_,rfl,h2,l3,_,rfl,h3,rfl⟩:=h;obtain ⟨d0,rfl,w0⟩:=eG (ty:=(.pair (.sl Ad)<|.pair (.sl .str)<|.pair (.sl Ah)<|.pair (.sl Ae)<|.sl Ai)) AT h0;obtain ⟨d1,rfl,w1⟩:=eG (ty:=(.sl<|.int J)) AT h1;obtain ⟨d2,rfl,w2⟩:=eG (ty:=(.sl<|.pair (.int aw)<|.pair (.int aw)<|.pair (.int .u16)<|.pair AP Ak)) AT h2;obtain ⟨d3,rfl,w3⟩:=eG (ty:=(.int aw)) AT h3;simp only [S0,pLV,Tryz.underlying30,Tryz.underlying29,Tryz.underlying28,Tryz.underlying5];refine aDx (t':=T.req ((0:Int)<=d3/\d3<=(255:Int))<|T.ok<|LV.v<|Value.bool U) AT ?_;exact ⟨wf_u8 w3,rfl⟩
def contract (H:Type) (enc:TypeId×Value->H) (W:World) (base:Nat) (args:Array Value) (ds gs:List<|DataW H) (before:List MemPlace)
  (hval:∀(j:Nat) t v,f3.params[j]? =ah t->args[j]? =ah v->Value.okWide prog W .any base t v)
  (hW:DataW.Whole enc prog f3.params.toList Rows.parkFailureSpec.vars X W args.toList ds gs before) (hL:laidMetH prog Rows.parkFailureRow.laid W) {us:List TypeId} (hz:(DataW.weightsEach prog (f3.params.toList++us)<|ds++gs).all (·<=reachBytes)=U):
  Calls prog 3 args W λe W'=>∃v,e=.returned v/\Rows.parkFailureSpec.post enc prog f3 X U X X W args v W':=by
 refine ae3 (m:=8) (tb:=4) air laidOut AT AT Tryz.underlying4 rfl ?_ AT opened (anq hL) hval hW hz;obtain ⟨p,q,hA,_⟩:=hW
 have hl:=aDn hA
 rw [Tryz.params3] at hl
 match ds,hl with
 | [_,_,_,_],_=>exact ⟨rfl,rfl,rfl⟩
def laid_met (os:Os):laidMet prog Rows.parkFailureRow.laid ((laidWorld os).forCall (λ_ _=>0) ⟨#[],#[.agg #[.slice aj 0 0,.slice aj 0 0,.slice aj 0 0,.slice aj 0 0,.slice aj 0 0],.slice aj 0 0,.slice aj 0 0,Y aw 0],[]⟩).memory:=
 laidMet_of_run' 8 AT AT
def reads (os:Os) {H:Type}(enc:TypeId×Value->H):∃places,DataW.whole enc prog ((laidWorld os).forCall (λ_ _=>0) ⟨#[],#[.agg #[.slice aj 0 0,.slice aj 0 0,.slice aj 0 0,.slice aj 0 0,.slice aj 0 0],.slice aj 0 0,.slice aj 0 0,Y aw 0],[]⟩).memory f3.params.toList Rows.parkFailureSpec.vars X #[.agg #[.slice aj 0 0,.slice aj 0 0,.slice aj 0 0,.slice aj 0 0,.slice aj 0 0],.slice aj 0 0,.slice aj 0 0,Y aw 0].toList 8=ah ([.agg [.nil,.nil,.nil,.nil,.nil],.nil,.nil,.lit<|.int aw 0],[],places):=
 ⟨[],AT⟩
def lifted (os:Os) (started:os.Started) (H:Type) (enc:TypeId×Value->H) (F:Stop.Interp):
  ReturnsInHanded {} Tryz.checked os 3 .any ((OpenSpec.ofChange Rows.parkFailureSpec).preRow enc prog f3 Rows.parkFailureRow.domain X Rows.parkFailureRow.laid) (((OpenSpec.ofChange Rows.parkFailureSpec).at F).post enc prog f3 X U X X):=by
 obtain ⟨places,hx⟩:=reads os enc
 refine returnsInHanded_of_row (C:=Tryz.checked) (s:=OpenSpec.ofChange Rows.parkFailureSpec) own started AT func3
  (witness_row_at (enc:=enc) (C:=Tryz.checked) X (laidWorld os) #[.agg #[.slice aj 0 0,.slice aj 0 0,.slice aj 0 0,.slice aj 0 0,.slice aj 0 0],.slice aj 0 0,.slice aj 0 0,Y aw 0] rfl AT AT AT
   (OpenSpec.preRow_of_cond 8 hx AT (λk hk=>OX) AT<|laid_met os)) ?_
 intro W base args ds gs before hval hW _ _ hz hL _ _;exact contract H enc W base args ds gs before hval hW hL hz
def said:Rows.ParkFailureSaid:=
 OpenClaim.holds_of_cond 3 f3 rfl rfl rfl rfl rfl rfl rfl ⟨rfl,rfl,rfl,rfl,rfl⟩ rfl rfl rfl rfl rfl AT func3 AT
  (DC AT) (by unfold Func.isWrapper;first|(rw [AD<|by decide+kernel];kernel_rfl) |(rw [AE<|by decide+kernel];exact ⟨rfl,rfl⟩))
  (λos started H enc _ F=>by rw [OpenClaim.pre_eq_preRow];exact lifted os started H enc F)
def plain (f:FuncId) (fn:Func) (hf:Tryz.pinned.checked.prog.funcNamed "chargepark/chargeparklaw44.ParkFailure"=ah f) (hfn:Tryz.pinned.checked.prog.funcs[f]? =ah fn):
  U=Tryz.pinned.checked.prog.looks []/\∀(j:Nat) t,fn.params[j]? =ah t->Tryz.pinned.checked.prog.wantsStandIn t=false:=by
 obtain rfl:f=3:=Dt ((show prog.funcNamed "chargepark/chargeparklaw44.ParkFailure"=ah 3 by kernel_rfl).symm.trans hf) |>.symm
 obtain rfl:fn=f3:=(Dt<|func3.symm.trans hfn).symm;refine ⟨AT,λj t ht=>?_⟩
 have h:f3.params.toList.all (λt=>!prog.wantsStandIn t)=true:=AT
 have:=BR.1 h t<|by simpa using Array.mem_of_getElem? ht
 show prog.wantsStandIn t=X
 simpa using this
def card:Rows.ParkFailureCardSaid:=
 Claim7.holds_tied_plain_at .later [] _ _ _ _ said (λ_ h=>An) AT (λ_ h=>An) parkFailure_row_tie rfl ⟨rfl,rfl⟩ AT rfl plain AT
end ParkFailure
theorem parkFailure_card:Rows.ParkFailureCardSaid:=ParkFailure.card
end Go.Proofs.YtpfblnbippcdjaaGreatDoor
end
