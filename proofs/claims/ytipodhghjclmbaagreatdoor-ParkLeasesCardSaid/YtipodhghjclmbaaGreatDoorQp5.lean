/- Helpers for ParkLeases. Conditions: none. -/
import Derived.Test.YtipodhghjclmbaaGreatDoorQp4
set_option linter.defProp false
set_option linter.unusedVariables false
set_option linter.unusedSimpArgs false
noncomputable section
open List renaming length→M,length→aa,replicate→aq,range→au
open Bool renaming true→U,true→ae,false→X,false→af
open Go.Value renaming int→Y,int→ag
open Option renaming some→ah,none→aj
open Go.IntKind renaming i64→J,i64→ai,u8→aw,u32→ax
open True renaming intro→ak
open Decidable renaming decide→an
open ByteArray renaming mk→av
open Go.Region renaming ready→ay,wanted→az
open Go.Instr renaming findNow→aA
namespace Go.Proofs.YtipodhghjclmbaaGreatDoor
set_option maxRecDepth 100000
set_option maxHeartbeats 4000000
open Go.Proofs.Tryz
open Go.Sx
def aSq:DG:=CR 75 18 2 (KT.lp)<|CR 29 0 9 (Gg.lp)<|Dp prog AV (eI) 20 2
def ao7:EF prog AV aSq:=D6 func75 rfl AU KA<|D6 func29 rfl AU Cn<|Hg<|gk eI
def ayi (s:Nm):((ER prog AV eI aSq Fp).k 36 (US s)<|ZA s).bind (λq=>G8 (M<|ZA s) [0] [.pc 16 7 AQ,.kb 5,.pc 16 9<|.int aw,.kb 6,.pc 16 10 Am,.kb 7] .normal (q.1::US s) q.2)=(gE s).mp (λs2=>⟨.normal,M (US s)+1,[abk s2],aco s2,U⟩):=AU
theorem avv (s:Nm) (hE:aBB s):(gE s).all (λq=>q=R2 s):=by
 obtain ⟨h1,h2⟩:=hE;unfold gE;simp only [TI];refine ⟨λc=>?_,λc=>?_⟩
 ·have he:s.p.FY=6:=by unfold PK.FY;rw [AD c]
  repeat (refine ⟨AI,?_⟩)
  show _=_
  unfold R2;rw [JY MH];rw [he]
 have hu:¬s.p.up=true:=aF
 repeat (refine ⟨A0,?_⟩)
 refine ⟨λc1=>?_,λc1=>?_⟩
 ·have c1:CL s.p.se s.p.fl≠0:=Ek.1 c1
  have he:s.p.FY=CL s.p.se s.p.fl:=by unfold PK.FY;rw [AE hu,AD c1]
  repeat (refine ⟨AI,?_⟩)
  show _=_
  unfold R2;rw [JY yf];rw [he]
 have c1:¬CL s.p.se s.p.fl≠0:=λh=>aNq
 refine ⟨λc2=>?_,λc2=>?_⟩
 ·have c2:D9 (Af s.p.se s.p.fl) s.p.tk≠0:=Ek.1 c2
  have he:s.p.FY=D9 (Af s.p.se s.p.fl) s.p.tk:=by unfold PK.FY;rw [AE hu,AE c1,AD c2]
  repeat (refine ⟨AI,?_⟩)
  show _=_
  unfold R2;rw [JY yf];rw [he]
 have c2:¬D9 (Af s.p.se s.p.fl) s.p.tk≠0:=λh=>by rw [Ek.2 h] at c2;cases c2
 repeat (refine ⟨A0,?_⟩)
 refine ⟨λc3=>?_,λc3=>?_⟩
 ·have c3:IT s.p.se s.p.fl≠0:=Ek.1 c3
  have he:s.p.FY=IT s.p.se s.p.fl:=by unfold PK.FY;rw [AE hu,AE c1,AE c2]
  repeat (refine ⟨AI,?_⟩)
  show _=_
  unfold R2;rw [JY yf];rw [he]
 have c3:IT s.p.se s.p.fl=0:=jx λh=>by rw [Ek.2 h] at c3;cases c3
 have he:s.p.FY=0:=by unfold PK.FY;rw [AE hu,AE c1,AE c2,c3]
 rw [show (aq (M s.p.gs:Int).toNat ((0:Int),(0:Int))).drop 0=aq (M s.p.gs) (0,0) by rw [By];rfl,By,DR (by rw [Ce];exact Ar _)]
 repeat (refine ⟨A8,?_⟩)
 show _=_
 unfold R2;rw [LJ he];rw [he];rfl
def agR:DV prog AV 36 aAt.m:=Cr.sound (D:=aAt) (t:=gE) (gk eI) ao7 Q9 ayi λs hE=>⟨avv s hE⟩
def S5 (c:Ca):Int:=if GH c=U then 0 else 1
def aJ2:List LV->T LV
 | [.v (.agg ⟨[Y J x1,Y J x2,Y J x3,Y J x4,Y J x5]⟩)]=> .ok (.AO [.agg [.xl A7 ([]:List Int),(0:Int),(0:Int)],S5 (x1,x2,x3,x4,x5)])
 |_=> .no
def azL:List Bd:=[aTv]
def avA:=vo (S:=aJ2) func71 azL kN (λargs lv h=>by
 unfold aJ2 at h;split at h
 ·rename_i x1 x2 x3 x4 x5
  refine Aq (.br (!(GH (x1,x2,x3,x4,x5))) (.ok<|.AO [.agg [.xl A7 ([]:List Int),(0:Int),(0:Int)],(1:Int)])<|.ok<|.AO [.agg [.xl A7 ([]:List Int),(0:Int),(0:Int)],(0:Int)]) ?_;obtain rfl:=h;unfold S5;refine ⟨λc=>?_,λc=>?_⟩
  ·rw [AE A8]
   rfl
  ·rw [AD A8]
   rfl
 ·cases h)
structure KS where
 (i k0 k1 k2:Int)
 p:PK
 ev:EW
def Ub (s:KS):List LV:=[.own 16 0,s.i,.v<|.agg #[s.k0,s.k1,s.k2]]
def Yh (s:KS):List AB:=[AP,AP,zB,AP,bV 79 Ad s.p.cs,bV 90 AQ s.p.ls,bV 5 (.int aw) s.p.fl,bV 143 Am s.p.ra,bV 58 B3 s.p.st,bV 69 AQ s.p.ca,bV 148 B6 s.p.mi,bV 105 BQ s.p.me,bV 71 Au s.p.dm,bV 154 BM s.p.lk,bV 3 A7 s.p.dr,bV 3 A7 s.p.tg,⟨[.os 4 11 0<|M s.p.cs,.xl .str s.p.os,.xl Ai s.p.ks,.xl Ae s.p.gs,.xl Aj s.p.bs,.v<|Y J s.p.tk,.v<|.bool s.p.up,.os 5 5 0<|M s.p.ls,.v<|Y J s.p.se,.os 6 1 0<|M s.p.fl,.os 7 2 0<|M s.p.ra,.v<|Y J s.p.nx,.os 8 4 0<|M s.p.st,.os 9 5 0<|M s.p.ca,.os 10 3 0<|M s.p.mi,.os 11 3 0<|M s.p.me,.os 12 4 0<|M s.p.dm,.os 13 6 0<|M s.p.lk,.os 14 1 0<|M s.p.dr,.os 15 1 0<|M s.p.tg,.v<|Y J s.ev.ek,.v<|Y J s.ev.en,.v<|Y J s.ev.em,.v<|Y J s.ev.c1,.v<|Y J s.ev.c2,.v<|Y J s.ev.c3,.v<|Y J s.ev.c4,.v<|Y J s.ev.c5,.v<|.bool s.ev.d1,.v<|Y J s.ev.d2,.v<|Y J s.ev.d3,.v<|Y J s.ev.d4,.v<|.slice aj 0 0],116,.cl,X⟩,AP,AP]
structure YD where
 res:Int
 p:PK
 ev:EW
def abt (s:YD):LV:=.v<|Y J s.res
def acO (s:YD):List AB:=[AP,AP,zB,AP,bV 79 Ad s.p.cs,bV 90 AQ s.p.ls,bV 5 (.int aw) s.p.fl,bV 143 Am s.p.ra,bV 58 B3 s.p.st,bV 69 AQ s.p.ca,bV 148 B6 s.p.mi,bV 105 BQ s.p.me,bV 71 Au s.p.dm,bV 154 BM s.p.lk,bV 3 A7 s.p.dr,bV 3 A7 s.p.tg,⟨[.os 4 11 0<|M s.p.cs,.xl .str s.p.os,.xl Ai s.p.ks,.xl Ae s.p.gs,.xl Aj s.p.bs,.v<|Y J s.p.tk,.v<|.bool s.p.up,.os 5 5 0<|M s.p.ls,.v<|Y J s.p.se,.os 6 1 0<|M s.p.fl,.os 7 2 0<|M s.p.ra,.v<|Y J s.p.nx,.os 8 4 0<|M s.p.st,.os 9 5 0<|M s.p.ca,.os 10 3 0<|M s.p.mi,.os 11 3 0<|M s.p.me,.os 12 4 0<|M s.p.dm,.os 13 6 0<|M s.p.lk,.os 14 1 0<|M s.p.dr,.os 15 1 0<|M s.p.tg,.v<|Y J s.ev.ek,.v<|Y J s.ev.en,.v<|Y J s.ev.em,.v<|Y J s.ev.c1,.v<|Y J s.ev.c2,.v<|Y J s.ev.c3,.v<|Y J s.ev.c4,.v<|Y J s.ev.c5,.v<|.bool s.ev.d1,.v<|Y J s.ev.d2,.v<|Y J s.ev.d3,.v<|Y J s.ev.d4,.v<|.slice aj 0 0],116,.cl,X⟩,AP,AP]
def vW (s:KS):T YD:=letI c:=s.p.st.getD s.i.toNat<|Ty.dflt B3;letI d:=M s.p.st;letI a:=sE (AG s.p.gs s.i) c s.k0 s.k1 s.k2;letI b:=sN (AG s.p.gs s.i) c s.k0 s.k1 s.k2;.ix s.i (M s.p.gs)<|.ik s.i d<|.br (a==0) (.ik s.i d<|.pa s.p<|.re d (s.p.st.set s.i.toNat b)<|.rl s.p.ca<|.rl s.p.mi<|.rl s.p.me<|.rl s.p.dm<|.rl s.p.lk<|.rl s.p.dr<|.rl s.p.tg<|.ok<|⟨a,{s.p with st:=s.p.st.set s.i.toNat b},s.ev⟩)<|.pc s.p<|.ok<|⟨a,s.p,s.ev⟩
def aAp (s:KS):Prop:=0<=s.i/\s.i<(M s.p.gs:Int)/\M s.p.st=M s.p.gs
def gb (s:KS):YD:=⟨sE (AG s.p.gs s.i) (BJ s.p.st s.i) s.k0 s.k1 s.k2,{s.p with st:=CU s.p.gs s.p.st s.i s.k0 s.k1 s.k2},s.ev⟩
def aB0:Cr KS YD:=⟨Ub,Yh,λv b=>⟨AK v 1,gI<|E7 (v.getD 2 .junk) 0,gI<|E7 (v.getD 2 .junk) 1,gI<|E7 (v.getD 2 .junk) 2,rF b,rG b⟩,aAp,[0,1,3,17,18],[],abt,acO,gb⟩
abbrev fP (s:KS):Prop:=aAp s/\Ub s=Ub s/\Yh s=Yh s
def eG:List Bd:=[Qy]
def aSy:DG:=CR 75 18 2 (KT.lp)<|CR 29 0 9 (Gg.lp)<|Dp prog AV (eG) 20 2
def aoF:EF prog AV aSy:=D6 func75 rfl AU KA<|D6 func29 rfl AU Cn<|Hg<|gk eG
def ays (s:KS):((ER prog AV eG aSy Fp).k 74 (Ub s)<|Yh s).bind (λq=>G8 (M<|Yh s) [0] [] .normal (q.1::Ub s) q.2)=(vW s).mp (λs2=>⟨.normal,M (Ub s)+1,[abt s2],acO s2,U⟩):=AU
theorem aw3 (s:KS) (hE:aAp s):(vW s).all (λq=>q=gb s):=by
 obtain ⟨h0,h1,h2⟩:=hE;refine ⟨A0,A0,A0,λc=>?_,λc=>?_⟩
 ·have c:=eq_of_beq c
  have hg:CU s.p.gs s.p.st s.i s.k0 s.k1 s.k2=_:=AD c
  repeat (refine ⟨A8,?_⟩)
  unfold gb;rw [hg];rfl
 ·have c:=CN.1 c
  have hg:CU s.p.gs s.p.st s.i s.k0 s.k1 s.k2=s.p.st:=AE c
  repeat (refine ⟨AI,?_⟩)
  unfold gb;rw [hg];rfl
def agZ:DV prog AV 74 aB0.m:=Cr.sound (D:=aB0) (t:=vW) (gk eG) aoF Q9 ays λs hE=>⟨aw3 s hE⟩
structure Nn where
 p:PK
 ev:EW
def UT (s:Nn):List LV:=[.own 16 0]
def Ya (s:Nn):List AB:=[AP,AP,zB,AP,bV 79 Ad s.p.cs,bV 90 AQ s.p.ls,bV 5 (.int aw) s.p.fl,bV 143 Am s.p.ra,bV 58 B3 s.p.st,bV 69 AQ s.p.ca,bV 148 B6 s.p.mi,bV 105 BQ s.p.me,bV 71 Au s.p.dm,bV 154 BM s.p.lk,bV 3 A7 s.p.dr,bV 3 A7 s.p.tg,⟨[.os 4 11 0<|M s.p.cs,.xl .str s.p.os,.xl Ai s.p.ks,.xl Ae s.p.gs,.xl Aj s.p.bs,.v<|Y J s.p.tk,.v<|.bool s.p.up,.os 5 5 0<|M s.p.ls,.v<|Y J s.p.se,.os 6 1 0<|M s.p.fl,.os 7 2 0<|M s.p.ra,.v<|Y J s.p.nx,.os 8 4 0<|M s.p.st,.os 9 5 0<|M s.p.ca,.os 10 3 0<|M s.p.mi,.os 11 3 0<|M s.p.me,.os 12 4 0<|M s.p.dm,.os 13 6 0<|M s.p.lk,.os 14 1 0<|M s.p.dr,.os 15 1 0<|M s.p.tg,.v<|Y J s.ev.ek,.v<|Y J s.ev.en,.v<|Y J s.ev.em,.v<|Y J s.ev.c1,.v<|Y J s.ev.c2,.v<|Y J s.ev.c3,.v<|Y J s.ev.c4,.v<|Y J s.ev.c5,.v<|.bool s.ev.d1,.v<|Y J s.ev.d2,.v<|Y J s.ev.d3,.v<|Y J s.ev.d4,.v<|.slice aj 0 0],116,.cl,X⟩]
structure XZ where
 res:Int
 p:PK
 ev:EW
def abl (s:XZ):LV:=.v<|Y J s.res
def acp (s:XZ):List AB:=[AP,AP,zB,AP,bV 79 Ad s.p.cs,bV 90 AQ s.p.ls,bV 5 (.int aw) s.p.fl,bV 143 Am s.p.ra,bV 58 B3 s.p.st,bV 69 AQ s.p.ca,bV 148 B6 s.p.mi,bV 105 BQ s.p.me,bV 71 Au s.p.dm,bV 154 BM s.p.lk,bV 3 A7 s.p.dr,bV 3 A7 s.p.tg,⟨[.os 4 11 0<|M s.p.cs,.xl .str s.p.os,.xl Ai s.p.ks,.xl Ae s.p.gs,.xl Aj s.p.bs,.v<|Y J s.p.tk,.v<|.bool s.p.up,.os 5 5 0<|M s.p.ls,.v<|Y J s.p.se,.os 6 1 0<|M s.p.fl,.os 7 2 0<|M s.p.ra,.v<|Y J s.p.nx,.os 8 4 0<|M s.p.st,.os 9 5 0<|M s.p.ca,.os 10 3 0<|M s.p.mi,.os 11 3 0<|M s.p.me,.os 12 4 0<|M s.p.dm,.os 13 6 0<|M s.p.lk,.os 14 1 0<|M s.p.dr,.os 15 1 0<|M s.p.tg,.v<|Y J s.ev.ek,.v<|Y J s.ev.en,.v<|Y J s.ev.em,.v<|Y J s.ev.c1,.v<|Y J s.ev.c2,.v<|Y J s.ev.c3,.v<|Y J s.ev.c4,.v<|Y J s.ev.c5,.v<|.bool s.ev.d1,.v<|Y J s.ev.d2,.v<|Y J s.ev.d3,.v<|Y J s.ev.d4,.v<|.slice aj 0 0],116,.cl,X⟩]
def gF (s:Nn):T XZ:=letI c:=(s.p.mi.set s.ev.en.toNat (([]:List Int),((0:Int),(0:Int))));letI f:=(CU s.p.gs s.p.st s.ev.en (1:Int) (0:Int) (0:Int));letI g:=(s.ev.c1,(s.ev.c2,(s.ev.c3,(s.ev.c4,s.ev.c5))));letI i:=(s.ev.d1,(s.ev.d2,(s.ev.d3,s.ev.d4)));letI j:=M s.p.ca;letI a:=s.p.ca.set s.ev.en.toNat g;letI b:=s.p.dm.set s.ev.en.toNat i;letI d:=(CU s.p.gs f s.ev.en (3:Int) (0:Int) (0:Int));letI e:=(CU s.p.gs d s.ev.en (4:Int) (1:Int) (0:Int));letI h:=(CU s.p.gs e s.ev.en (5:Int) (0:Int) (0:Int));.br (!(inB s.ev.en (0:Int)<|AA<|(M s.p.gs:Int)-1)) (.pc s.p<|.ok<|⟨1,s.p,s.ev⟩)<|.br ((S5 (s.ev.c1,s.ev.c2,s.ev.c3,s.ev.c4,s.ev.c5)) !=0) (.pc s.p<|.ok<|⟨1,s.p,s.ev⟩)<|.br (!((inB s.ev.d2 (0:Int) (1000000000:Int))&&((inB s.ev.d3 (0:Int) (1000000:Int))&&(inB s.ev.d4 (1:Int) (9:Int))))) (.pc s.p<|.ok<|⟨1,s.p,s.ev⟩)<|.ik s.ev.en j<|.br ((s.p.ca.getD s.ev.en.toNat<|Ty.dflt AQ).2.2.1 !=0) (.pc s.p<|.ok<|⟨6,s.p,s.ev⟩)<|.ik s.ev.en (M s.p.st)<|.br ((s.p.st.getD s.ev.en.toNat<|Ty.dflt B3).1 !=0) (.pc s.p<|.ok<|⟨6,s.p,s.ev⟩)<|.ik s.ev.en j<|.ik s.ev.en (M s.p.mi)<|.ik s.ev.en (M s.p.dm)<|.pa s.p<|.rl s.p.st<|.re j a<|.re (M s.p.mi) c<|.rl s.p.me<|.re (M s.p.dm) b<|.rl s.p.lk<|.rl s.p.dr<|.rl s.p.tg<|.req (fP (⟨s.ev.en,1,0,0,{s.p with ca:=s.p.ca.set s.ev.en.toNat g,mi:=s.p.mi.set s.ev.en.toNat (([]:List Int),((0:Int),(0:Int))),dm:=s.p.dm.set s.ev.en.toNat i},s.ev⟩:KS))<|.pa s.p<|.rl f<|.rl a<|.rl c<|.rl s.p.me<|.rl b<|.rl s.p.lk<|.rl s.p.dr<|.rl s.p.tg<|.req (fP (⟨s.ev.en,3,0,0,{s.p with st:=f,ca:=a,mi:=c,dm:=b},s.ev⟩:KS))<|.pa s.p<|.rl d<|.rl a<|.rl c<|.rl s.p.me<|.rl b<|.rl s.p.lk<|.rl s.p.dr<|.rl s.p.tg<|.req (fP (⟨s.ev.en,4,1,0,{s.p with st:=d,ca:=a,mi:=c,dm:=b},s.ev⟩:KS))<|.pa s.p<|.rl e<|.rl a<|.rl c<|.rl s.p.me<|.rl b<|.rl s.p.lk<|.rl s.p.dr<|.rl s.p.tg<|.req (fP (⟨s.ev.en,5,0,0,{s.p with st:=e,ca:=a,mi:=c,dm:=b},s.ev⟩:KS))<|.pa s.p<|.rl h<|.rl a<|.rl c<|.rl s.p.me<|.rl b<|.rl s.p.lk<|.rl s.p.dr<|.rl s.p.tg<|.ok<|⟨0,{s.p with st:=h,ca:=a,mi:=c,dm:=b},s.ev⟩
theorem aOA {c:Ca}:S5 c=0↔GH c=true:=by
 unfold S5
 grind
def aBC (s:Nn):Prop:=M s.p.st=M s.p.gs/\M s.p.gs<=1000/\M s.p.ca=M s.p.gs/\M s.p.mi=M s.p.gs/\M s.p.dm=M s.p.gs
def Qa (s:Nn):XZ:=⟨PK.G4 s.p s.ev.en (EW.c s.ev)<|EW.d s.ev,JL (PK.G4 s.p s.ev.en (EW.c s.ev)<|EW.d s.ev) (PK.O1 s.p s.ev.en (EW.c s.ev)<|EW.d s.ev) s.p,s.ev⟩
def aAu:Cr Nn XZ:=⟨UT,Ya,λv b=>⟨rF b,rG b⟩,aBC,[0,1,3],[],abl,acp,Qa⟩
abbrev ahC (s:Nn):Prop:=aBC s/\UT s=UT s/\Ya s=Ya s
def Wi:List Bd:=[Ts,avA]
def aRM:Ay:=I2 Wi (la 2 func75 KA<|la 9 func29 Cn<|l0 Wi) [⟨74,aB0.m,agZ⟩]
def aSr:DG:=CR 75 18 2 (KT.lp)<|CR 29 0 9 (Gg.lp)<|Dp prog AV Wi 20 2
def ao8:EF prog AV aSr:=D6 func75 rfl AU KA<|D6 func29 rfl AU Cn<|Hg<|gk Wi
def ayj (s:Nn):((ER prog AV Wi aSr aRM).k 32 (UT s)<|Ya s).bind (λq=>G8 (M<|Ya s) [0] [] .normal (q.1::UT s) q.2)=(gF s).mp (λs2=>⟨.normal,M (UT s)+1,[abl s2],acp s2,U⟩):=AU
def avw (s:Nn) (hE:aBC s):(gF s).all (λq=>q=Qa s):=by
 obtain ⟨h1,h2,h3,h4,h5⟩:=hE;unfold gF;rw [dN h2];refine ⟨λc=>?_,λc=>?_⟩
 ·have c:s.p.isC s.ev.en=false:=Q0
  have he:s.p.G4 s.ev.en s.ev.c s.ev.d=1:=AD c
  repeat (refine ⟨MF,?_⟩)
  show _=_
  unfold Qa;rw [JY MH];rw [he]
 have c:s.p.isC s.ev.en=true:=Q0
 have ci:=BV.1 c
 have ci2:s.ev.en<(M s.p.gs:Int):=A0
 have hc:¬s.p.isC s.ev.en=false:=aF
 have bad:(!GH s.ev.c || !HR s.ev.d)=U->s.p.G4 s.ev.en s.ev.c s.ev.d=1:=λh=>by unfold PK.G4;rw [AE hc,AD h]
 refine ⟨λc1=>?_,λc1=>⟨λc2=>?_,λc2=>?_⟩⟩
 ·have c1:¬S5 s.ev.c=0:=Ek.1 c1
  have c1:GH s.ev.c=false:=by rw [aOA] at c1;simpa using c1
  have he:=bad (by rw [c1];rfl)
  repeat (refine ⟨MF,?_⟩)
  show _=_
  unfold Qa;rw [JY MH];rw [he]
 ·have c2:(!HR s.ev.d)=true:=c2
  have he:=bad<|by rw [c2,Sc]
  repeat (refine ⟨MF,?_⟩)
  show _=_
  unfold Qa;rw [JY MH];rw [he]
 have c1:GH s.ev.c=true:=aOA.1 (jx λh=>by rw [show (S5 (s.ev.c1,s.ev.c2,s.ev.c3,s.ev.c4,s.ev.c5) !=0)=U from Ek.2 h] at c1;cases c1)
 have c2:(!HR s.ev.d)=false:=c2
 have hb:¬(!GH s.ev.c || !HR s.ev.d)=true:=by rw [c1,c2];decide
 have six:((Bc s.p.ca s.ev.en).2.2.1 !=0 ||(BJ s.p.st s.ev.en).1 !=0)=U->s.p.G4 s.ev.en s.ev.c s.ev.d=6:=λh=>by unfold PK.G4;rw [AE hc,AE hb,AD h]
 repeat (refine ⟨MF,?_⟩)
 refine ⟨λc3=>?_,λc3=>?_⟩
 ·have c3:((Bc s.p.ca s.ev.en).2.2.1 !=0)=true:=c3
  have he:=six (by rw [c3];rfl)
  repeat (refine ⟨MF,?_⟩)
  show _=_
  unfold Qa;rw [JY MH];rw [he]
 repeat (refine ⟨MF,?_⟩)
 refine ⟨λc4=>?_,λc4=>?_⟩
 ·have c4:((BJ s.p.st s.ev.en).1 !=0)=true:=c4
  have he:=six<|by rw [c4,Sc]
  repeat (refine ⟨MF,?_⟩)
  show _=_
  unfold Qa;rw [JY MH];rw [he]
 have c3:((Bc s.p.ca s.ev.en).2.2.1 !=0)=false:=c3
 have c4:((BJ s.p.st s.ev.en).1 !=0)=false:=c4
 have he:s.p.G4 s.ev.en s.ev.c s.ev.d=0:=by unfold PK.G4;rw [AE hc,AE hb,c3,c4];rfl
 have hg:∀(l:List St) (k n m:Int),M l=M s.p.gs->M (CU s.p.gs l s.ev.en k n m)=M s.p.gs:=λl k n m h=>by rw [Ir];exact h
 repeat (refine ⟨MF,?_⟩)
 refine ⟨⟨⟨ci.1,ci2,h1⟩,rfl,rfl⟩,?_⟩
 repeat (refine ⟨MF,?_⟩)
 refine ⟨⟨⟨ci.1,ci2,hg _ _ _ _ h1⟩,rfl,rfl⟩,?_⟩
 repeat (refine ⟨MF,?_⟩)
 refine ⟨⟨⟨ci.1,ci2,hg _ _ _ _<|hg _ _ _ _ h1⟩,rfl,rfl⟩,?_⟩
 repeat (refine ⟨MF,?_⟩)
 refine ⟨⟨⟨ci.1,ci2,hg _ _ _ _<|hg _ _ _ _<|hg _ _ _ _ h1⟩,rfl,rfl⟩,?_⟩
 repeat (refine ⟨AI,?_⟩)
 show _=_
 unfold Qa;rw [LJ he];rw [he];rfl
def agS:DV prog AV 32 aAu.m:=Cr.sound (D:=aAu) (t:=gF) (gk Wi) ao8 aRM.h ayj λs hE=>⟨avw s hE⟩
structure PW where
 (n i:Int)
 p:PK
 ev:EW
 Bf:List ByteArray
 Bz:List Ko
 BN:List Ch
 C0:List Ba
 o:List Cd
def vD (s:PW):T (Rd PW):=letI b:=s.o.getD s.i.toNat<|Ty.dflt Ad;letI a:=(s.o.set s.i.toNat (b.1,(b.2.1,((s.p.tg.getD s.i.toNat<|Ty.dflt A7),b.2.2.2))));.br (an<|s.i<s.n) (.ik s.i (M s.p.tg)<|.ik s.i (M s.o)<|.rl s.p.tg<|.pc s.p<|.re (M s.o) a<|.nx {s with i:=AA<|s.i+1,o:=a})<|.rl s.p.tg<|.pc s.p<|.rl s.o<|.so (.exit 0) s
def jc (s:PW):Prop:=s.i=0/\s.n=(M s.p.tg:Int)/\M s.p.tg=M s.p.cs/\s.n<=1000/\s.o=ET s.p.cs s.p.tg s.i.toNat
def Y9 (s:PW):Prop:=(0<=s.i/\s.i<=s.n)/\s.n=(M s.p.tg:Int)/\M s.p.tg=M s.p.cs/\s.n<=1000/\s.o=ET s.p.cs s.p.tg s.i.toNat
def tE (s:PW):Nat:=(s.n-s.i).toNat
def aAH (x:Ex) (s s':PW):Prop:=x=.exit 0/\s'.o=ET s'.p.cs s'.p.tg (M s'.p.tg)
def alr:∀s,jc s->Y9 s:=by
 exact aLW
theorem agM:Da Y9 tE aAH vD:=by
 intro s hI;obtain ⟨⟨h0,h1⟩,h2,h3,h4,h5⟩:=hI
 have hl:M s.o=M s.p.cs:=lI
 refine AH (λc1=>?_) λc1=>?_
 ·have c1:s.i<s.n:=A8
  rw [AJ (x:=s.i+1)];refine ⟨⟨⟨A8,A8⟩,h2,h3,h4,?_⟩,by simp only [tE];omega⟩
  exact aKh
 ·have c1:s.n<=s.i:=A8
  refine ⟨rfl,?_⟩
  grind
def UM:AT PW:=⟨17,34,[2,3,19,20,21],[],λs=>[.own 17 0,.own 18 0,.os 15 1 0<|M s.p.tg,s.n,s.i],λs=>[AP,AP,zB,AP,bV 79 Ad s.p.cs,bV 90 AQ s.p.ls,bV 5 (.int aw) s.p.fl,bV 143 Am s.p.ra,bV 58 B3 s.p.st,bV 69 AQ s.p.ca,bV 148 B6 s.p.mi,bV 105 BQ s.p.me,bV 71 Au s.p.dm,bV 154 BM s.p.lk,bV 3 A7 s.p.dr,bV 3 A7 s.p.tg,⟨[.os 4 11 0<|M s.p.cs,.xl .str s.p.os,.xl Ai s.p.ks,.xl Ae s.p.gs,.xl Aj s.p.bs,.v<|Y J s.p.tk,.v<|.bool s.p.up,.os 5 5 0<|M s.p.ls,.v<|Y J s.p.se,.os 6 1 0<|M s.p.fl,.os 7 2 0<|M s.p.ra,.v<|Y J s.p.nx,.os 8 4 0<|M s.p.st,.os 9 5 0<|M s.p.ca,.os 10 3 0<|M s.p.mi,.os 11 3 0<|M s.p.me,.os 12 4 0<|M s.p.dm,.os 13 6 0<|M s.p.lk,.os 14 1 0<|M s.p.dr,.os 15 1 0<|M s.p.tg,.v<|Y J s.ev.ek,.v<|Y J s.ev.en,.v<|Y J s.ev.em,.v<|Y J s.ev.c1,.v<|Y J s.ev.c2,.v<|Y J s.ev.c3,.v<|Y J s.ev.c4,.v<|Y J s.ev.c5,.v<|.bool s.ev.d1,.v<|Y J s.ev.d2,.v<|Y J s.ev.d3,.v<|Y J s.ev.d4,.v<|.slice aj 0 0],116,.cl,X⟩,⟨[.v<|.slice aj 0 0,.v<|.slice aj 0 0,.v<|.slice aj 0 0,.v<|.slice aj 0 0,.v<|.slice aj 0 0],28,.cl,X⟩,⟨[.os 19 11 0<|M s.o,s.Bf,s.Bz,s.BN,s.C0],28,.cl,X⟩,bV 79 Ad s.o],λv b=>⟨AK v 3,AK v 4,rF b,rG b,AF .str b 18 1,AF Ai b 18 2,AF Ae b 18 3,AF Aj b 18 4,Ab Ad b 19⟩,vD,λs r=> {s with i:=r.i,o:=r.o},λs=>s,λ_ s=>s,[.exit 0],jc,Y9,tE⟩
abbrev cH:=UM.run
abbrev at7:=UM.Av
def P7:List Bd:=[dq,Ts]
def azg:Ay:=kI P7<|la 2 func75 KA<|la 9 func29 Cn<|l0 P7
def awK:Rq Y9 vD:=by
 intro s hI;refine ⟨λc1=>⟨?_,?_,?_,?_,A9,A9,A9,A9,A9,A9,A9,A9,A9,A9,A9,A9,A9,?_,ak⟩,λc1=>⟨A9,A9,A9,A9,A9,A9,A9,A9,A9,A9,A9,A9,A9,A9,ak⟩⟩
 all_goals ((obtain ⟨⟨h0,h1⟩,h2,h3,h4,h5⟩:=hI;have hl:M s.o=M s.p.cs:=lI;(try simp only [Ac] at c1);first|omega|exact ⟨rfl,rfl⟩ |exact ⟨rfl,AI⟩))
def aQ3:UM.Ok:={}
def aOa:UM.Pf (aAH):=⟨alr,λs h=>rfl,agM,awK⟩
def aGJ:=s2 (b:=bN f79 0) aQ3 aOa P7 azg
def ash:Fi jc Y9 aAH at7 cH:=AT.fin aQ3 aOa
structure Mu where
 p:PK
 ev:EW
def UY (s:Mu):List LV:=[.own 16 0]
def Ye (s:Mu):List AB:=[AP,AP,zB,AP,bV 79 Ad s.p.cs,bV 90 AQ s.p.ls,bV 5 (.int aw) s.p.fl,bV 143 Am s.p.ra,bV 58 B3 s.p.st,bV 69 AQ s.p.ca,bV 148 B6 s.p.mi,bV 105 BQ s.p.me,bV 71 Au s.p.dm,bV 154 BM s.p.lk,bV 3 A7 s.p.dr,bV 3 A7 s.p.tg,⟨[.os 4 11 0<|M s.p.cs,.xl .str s.p.os,.xl Ai s.p.ks,.xl Ae s.p.gs,.xl Aj s.p.bs,.v<|Y J s.p.tk,.v<|.bool s.p.up,.os 5 5 0<|M s.p.ls,.v<|Y J s.p.se,.os 6 1 0<|M s.p.fl,.os 7 2 0<|M s.p.ra,.v<|Y J s.p.nx,.os 8 4 0<|M s.p.st,.os 9 5 0<|M s.p.ca,.os 10 3 0<|M s.p.mi,.os 11 3 0<|M s.p.me,.os 12 4 0<|M s.p.dm,.os 13 6 0<|M s.p.lk,.os 14 1 0<|M s.p.dr,.os 15 1 0<|M s.p.tg,.v<|Y J s.ev.ek,.v<|Y J s.ev.en,.v<|Y J s.ev.em,.v<|Y J s.ev.c1,.v<|Y J s.ev.c2,.v<|Y J s.ev.c3,.v<|Y J s.ev.c4,.v<|Y J s.ev.c5,.v<|.bool s.ev.d1,.v<|Y J s.ev.d2,.v<|Y J s.ev.d3,.v<|Y J s.ev.d4,.v<|.slice aj 0 0],116,.cl,X⟩]
def Sv (s:Mu):PW:=(⟨((M s.p.tg:Nat):Int),0,{s.p with tg:=s.p.tg.set s.ev.en.toNat s.ev.em},s.ev,s.p.os,s.p.ks,s.p.gs,s.p.bs,BE ((s.p.cs.drop 0).take<|M s.p.cs)<|aq ((M s.p.cs:Nat):Int).toNat (ByteArray.empty,((0:Int),((0:Int),((0:Int),(((0:Int),(0:Int)),((0:Int),((0:Int),((0:Int),((0:Int),(0:Int))))))))))⟩:PW)
structure Xd where
 res:Int
 p:PK
 ev:EW
def abp (s:Xd):LV:=.v<|Y J s.res
def acL (s:Xd):List AB:=[AP,AP,zB,AP,bV 79 Ad s.p.cs,bV 90 AQ s.p.ls,bV 5 (.int aw) s.p.fl,bV 143 Am s.p.ra,bV 58 B3 s.p.st,bV 69 AQ s.p.ca,bV 148 B6 s.p.mi,bV 105 BQ s.p.me,bV 71 Au s.p.dm,bV 154 BM s.p.lk,bV 3 A7 s.p.dr,bV 3 A7 s.p.tg,⟨[.os 4 11 0<|M s.p.cs,.xl .str s.p.os,.xl Ai s.p.ks,.xl Ae s.p.gs,.xl Aj s.p.bs,.v<|Y J s.p.tk,.v<|.bool s.p.up,.os 5 5 0<|M s.p.ls,.v<|Y J s.p.se,.os 6 1 0<|M s.p.fl,.os 7 2 0<|M s.p.ra,.v<|Y J s.p.nx,.os 8 4 0<|M s.p.st,.os 9 5 0<|M s.p.ca,.os 10 3 0<|M s.p.mi,.os 11 3 0<|M s.p.me,.os 12 4 0<|M s.p.dm,.os 13 6 0<|M s.p.lk,.os 14 1 0<|M s.p.dr,.os 15 1 0<|M s.p.tg,.v<|Y J s.ev.ek,.v<|Y J s.ev.en,.v<|Y J s.ev.em,.v<|Y J s.ev.c1,.v<|Y J s.ev.c2,.v<|Y J s.ev.c3,.v<|Y J s.ev.c4,.v<|Y J s.ev.c5,.v<|.bool s.ev.d1,.v<|Y J s.ev.d2,.v<|Y J s.ev.d3,.v<|Y J s.ev.d4,.v<|.slice aj 0 0],116,.cl,X⟩]
def gJ (s:Mu):T Xd:=letI a:=s.p.tg.set s.ev.en.toNat s.ev.em;letI b:=(ByteArray.empty,((0:Int),((0:Int),((0:Int),(((0:Int),(0:Int)),((0:Int),((0:Int),((0:Int),((0:Int),(0:Int))))))))));letI c:=((M s.p.cs:Nat):Int);letI d:=((cH<|Sv s).o.drop 0).take<|M (cH<|Sv s).o;letI e:=(s.p.cs.drop 0).take<|M s.p.cs;letI f:=M s.p.tg;.br (!(inB s.ev.en (0:Int)<|AA<|c-1)) (.pc s.p<|.ok<|⟨1,s.p,s.ev⟩)<|.ik s.ev.en (M s.p.cs)<|.br (!(inB s.ev.em (1:Int) (s.p.cs.getD s.ev.en.toNat<|Ty.dflt Ad).2.2.1)) (.pc s.p<|.ok<|⟨1,s.p,s.ev⟩)<|.ik s.ev.en f<|.rm 96 c<|.rz s.p.cs<|.rc c b (M e)<|.re f a<|.pa s.p<|.rl s.p.st<|.rl s.p.ca<|.rl s.p.mi<|.rl s.p.me<|.rl s.p.dm<|.rl s.p.lk<|.rl s.p.dr<|.re f a<|.re c.toNat (BE e<|aq c.toNat b)<|.req (UM.q<|Sv s)<|.rz (cH<|Sv s).o<|.req (BL d s.p.os s.p.ks s.p.gs s.p.bs=U)<|.br (!HI d s.p.gs (Bv s.p.gs)) (.pa s.p<|.rl s.p.st<|.rl s.p.ca<|.rl s.p.mi<|.rl s.p.me<|.rl s.p.dm<|.rl s.p.lk<|.rl s.p.dr<|.rl a<|.ok<|⟨13,{s.p with tg:=a},s.ev⟩)<|.pa s.p<|.rl s.p.st<|.rl s.p.ca<|.rl s.p.mi<|.rl s.p.me<|.rl s.p.dm<|.rl s.p.lk<|.rl s.p.dr<|.rl a<|.ok<|⟨0,{s.p with tg:=a},s.ev⟩
def VP.der {p:PK}(h:VP p) {n m:Int}(hn:inB n 0 ((M p.cs:Int)-1)=U) (hm:inB m 1 (Ag p.cs n).2.2.1=U):BL (p.La n m).Fy p.os p.ks p.gs p.bs=U/\M (p.La n m).tg=M p.cs:=by
 have hn:=BV.1 hn
 have hm:=BV.1 hm
 have hl:M (p.La n m).tg=M p.cs:=by show M (p.tg.set n.toNat m)=_;rw [CH];exact h.Gs
 have hk:=uh h.site (k:=n.toNat) A0
 rw [CM hn.1] at hk;refine ⟨aDp h.site (λk hk2=>?_) _ A0,hl⟩
 show 1<=gi (p.tg.set n.toNat m) k/\gi (p.tg.set n.toNat m) k<=1000
 rw [JW hn.1 (by have:=h.Gs;omega) A0]
 split
 ·omega
 ·exact h.tg1 k hk2
def aAm (s:Mu):Prop:=VP s.p
def Tp (s:Mu):Xd:=⟨PK.Hs s.p s.ev.en s.ev.em,{s.p with tg:=if PK.Hs s.p s.ev.en s.ev.em=1 then s.p.tg else s.p.tg.set s.ev.en.toNat s.ev.em},s.ev⟩
def aAy:Cr Mu Xd:=⟨UY,Ye,λv b=>⟨rF b,rG b⟩,aAm,[0,1,3],[],abp,acL,Tp⟩
abbrev ahG (s:Mu):Prop:=aAm s/\UY s=UY s/\Ye s=Ye s
def aRL:Ay:=kI P7<|la 4 func79 aGJ<|la 2 func75 KA<|la 9 func29 Cn<|l0 P7
def aSv:DG:=CR 79 17 4 (UM.lp)<|CR 75 18 2 (KT.lp)<|CR 29 0 9 (Gg.lp)<|Dp prog AV P7 20 2
def aoC:EF prog AV aSv:=D6 func79 rfl AU aGJ<|D6 func75 rfl AU KA<|D6 func29 rfl AU Cn<|Hg<|gk P7
def ayn (s:Mu):((ER prog AV P7 aSv aRL).k 38 (UY s)<|Ye s).bind (λq=>G8 (M<|Ye s) [0] [] .normal (q.1::UY s) q.2)=(gJ s).mp (λs2=>⟨.normal,M (UY s)+1,[abp s2],acL s2,U⟩):=AU
theorem aw0 (s:Mu) (hE:aAm s):(gJ s).all (λq=>q=Tp s):=by
 have hs:=DF.1 hE.site
 have ht:=hE.Gs
 have hw:AA (((M s.p.cs:Nat):Int)-1)=(M s.p.cs:Int)-1:=AJ
 unfold gJ;rw [hw];simp only [TI,QM]
 have one:(!inB s.ev.en 0 ((M s.p.cs:Int)-1) || !inB s.ev.em 1 (Ag s.p.cs s.ev.en).2.2.1)=U->s.p.Hs s.ev.en s.ev.em=1:=λh=>AD h
 refine ⟨λc=>?_,λc=>?_⟩
 ·have he:=one (by rw [c];rfl)
  repeat (refine ⟨AI,?_⟩)
  show _=_
  unfold Tp;rw [AD he,he]
 have cn:inB s.ev.en 0 ((M s.p.cs:Int)-1)=true:=Ig
 have ci:=BV.1 cn
 have hcd:s.p.cs.getD s.ev.en.toNat (Ty.dflt Ad)=Ag s.p.cs s.ev.en:=by
  rw [Dd,DQ A0]
  have:=QR (cs:=s.p.cs) (k:=s.ev.en.toNat) A0
  rw [CM ci.1] at this;rw [this];rfl
 rw [hcd]
 repeat (refine ⟨by first|omega|exact ⟨rfl,rfl⟩ |exact ⟨rfl,AI⟩ |(refine ⟨?_,?_⟩<;>(simp;done)) |(rw [Ce];omega),?_⟩)
 refine ⟨λc2=>?_,λc2=>?_⟩
 ·have he:=one (by rw [c2,Sc])
  repeat (refine ⟨AI,?_⟩)
  show _=_
  unfold Tp;rw [AD he,he]
 have cm:inB s.ev.em 1 (Ag s.p.cs s.ev.en).2.2.1=true:=EC
 obtain ⟨k1,k2⟩:=hE.der cn cm
 have ho:(Sv s).o=s.p.cs:=by
  show BE ((s.p.cs.drop 0).take _) _=_
  rw [TI];exact QM
 have hV:jc (Sv s):=⟨rfl,by show (M s.p.tg:Int)=(M (s.p.tg.set s.ev.en.toNat s.ev.em):Int);rw [CH],k2,aN0,ho⟩
 obtain ⟨_,_,_,q2⟩:=ash _ hV
 have q2:(cH<|Sv s).o=(s.p.La s.ev.en s.ev.em).Fy:=q2
 have nb:¬(!inB s.ev.en 0 ((M s.p.cs:Int)-1) || !inB s.ev.em 1 (Ag s.p.cs s.ev.en).2.2.1)=true:=by rw [cn,cm];decide
 rw [q2]
 repeat (refine ⟨A8,?_⟩)
 refine ⟨⟨hV,rfl,rfl⟩,?_⟩
 repeat (refine ⟨A0,?_⟩)
 refine ⟨λc3=>?_,λc3=>?_⟩
 ·have c3:HI (s.p.La s.ev.en s.ev.em).Fy s.p.gs (Bv s.p.gs)=false:=ND
  have he:s.p.Hs s.ev.en s.ev.em=13:=by unfold PK.Hs;rw [AE nb,AD c3]
  repeat (refine ⟨AI,?_⟩)
  show _=_
  unfold Tp;rw [AE MH,he]
 ·have c3:¬HI (s.p.La s.ev.en s.ev.em).Fy s.p.gs (Bv s.p.gs)=false:=ND
  have he:s.p.Hs s.ev.en s.ev.em=0:=by unfold PK.Hs;rw [AE nb,AE c3]
  repeat (refine ⟨AI,?_⟩)
  show _=_
  unfold Tp;rw [AE MH,he]
def agX:DV prog AV 38 aAy.m:=Cr.sound (D:=aAy) (t:=gJ) (gk P7) aoC aRL.h ayn λs hE=>⟨aw0 s hE⟩
def aS7:List LV->T LV
 | [.xl (.pair (.int J) (.pair (.int J) (.pair (.int J) (.pair (.int J) (.int J))))) l,.v (.agg ⟨[Y J nu,Y J co,Y J am,Y J fr,Y J tk]⟩)]=> .ok (.AO [Gk l (nu,co,am,fr,tk),FN l (nu,co,am,fr,tk)])
 |_=> .no
def akq:List Bd:=[WU,aJi,aaS]
def aaU:=vo (S:=aS7) func122 akq kN (λargs lv h=>by
 unfold aS7 at h;split at h
 ·rename_i l nu co am fr tk
  refine Aq (letI a:=(aq (0:Int).toNat ((0:Int),((0:Int),((0:Int),((0:Int),(0:Int))))));letI b:=(nu,(co,(am,(fr,tk))));letI d:=(M l:Int);letI g:=AA<|d+1;letI i:=(a++l)++([b]);letI f:=((i.drop 0).take<|(0:Int).toNat+M l+M ([b]));.br ((!(BC l)) ||(!(D5 (nu,co,am,fr,tk)))) (.ok<|.AO [.xl AQ ([]:List Le),(1:Int)])<|.br (an<|d>0) (.ix (AA<|d-1) (M l)<|.br (!(Jh (An l<|AA<|d-1) (nu,co,am,fr,tk))) (.ok<|.AO [.xl AQ ([]:List Le),(12:Int)])<|.br (d==64) (.ok<|.AO [.xl AQ ([]:List Le),(10:Int)])<|.req (0<=(0:Int)/\(0:Int)<=g/\40*g<=2^48/\g<2^63)<|.ra (0:Int).toNat (M a) ((0:Int).toNat+M l) 40<|.ra ((0:Int).toNat+M l) (M<|a++l) ((0:Int).toNat+M l+M ([b])) 40<|.req (0+((0:Int).toNat+M l+M ([b]))<=M i)<|.ok<|.AO [f,(0:Int)])<|.br (d==64) (.ok<|.AO [.xl AQ ([]:List Le),(10:Int)])<|.req (0<=(0:Int)/\(0:Int)<=g/\40*g<=2^48/\g<2^63)<|.ra (0:Int).toNat (M a) ((0:Int).toNat+M l) 40<|.ra ((0:Int).toNat+M l) (M<|a++l) ((0:Int).toNat+M l+M ([b])) 40<|.req (0+((0:Int).toNat+M l+M ([b]))<=M i)<|.ok<|.AO [f,(0:Int)]) ?_;obtain rfl:=h
  have bad:∀e:Int,e≠0->FN l (nu,co,am,fr,tk)=e->LV.AO [.xl AQ ([]:List Le),.v<|Y J e]=LV.AO [.xl AQ<|Gk l (nu,co,am,fr,tk),.v<|Y J<|FN l (nu,co,am,fr,tk)]:=λe h0 h1=>by
   unfold Gk;rw [h1,AE h0]
  refine ⟨λc=>bad 1 Aa ?_,λc=>?_⟩
  ·unfold FN
   grind
  have hk:(BC l&&D5 (nu,co,am,fr,tk))=true:=by revert c;cases BC l<;>cases D5 (nu,co,am,fr,tk)<;>simp
  have hl:M l<=64:=by rw [AY] at hk;exact (GS hk.1).1
  have w1:AA ((M l:Int)+1)=(M l:Int)+1:=AJ
  have fin:(an (M l>0)&&!Jh (An l<|(M l:Int)-1) (nu,co,am,fr,tk))=X->M l≠64->LV.AO [.xl AQ<|(l++[(nu,co,am,fr,tk)]).take<|0+M l+1,.v<|Y J 0]=LV.AO [.xl AQ<|Gk l (nu,co,am,fr,tk),.v<|Y J<|FN l (nu,co,am,fr,tk)]:=λh1 h2=>by
   have e:FN l (nu,co,am,fr,tk)=0:=by unfold FN;rw [AD hk,AE (by rw [h1];simp),AE h2]
   unfold Gk;rw [e,AD rfl,DR AI]
  have rq:(0<=(0:Int)/\(0:Int)<=AA ((M l:Int)+1)/\40*AA ((M l:Int)+1)<=2^48/\AA ((M l:Int)+1)<2^63):=by rw [w1];omega
  refine ⟨λc2=>?_,λc2=>?_⟩
  ·have c2:0<M l:=by have:=Cx c2;omega
   have w2:AA ((M l:Int)-1)=(M l:Int)-1:=AJ
   rw [w2];refine ⟨A0,λc3=>bad 12 Aa ?_,λc3=>⟨λc4=>bad 10 Aa ?_,λc4=>⟨rq,⟨rfl,D2,D2⟩,⟨AI,D2,D2⟩,AI,?_⟩⟩⟩
   ·unfold FN
    rw [AD hk,AD (by rw [c3,Cm c2];rfl)]
   ·unfold FN
    rw [AD hk,AE (by rw [c3];simp),AD yU]
   ·exact fin (by rw [c3,SS]) yU
  ·have c2:¬(M l)>0:=by have:=Jw c2;omega
   refine ⟨λc4=>bad 10 Aa ?_,λc4=>⟨rq,⟨rfl,D2,D2⟩,⟨AI,D2,D2⟩,AI,?_⟩⟩
   ·simp at c4;omega
   ·exact fin (by rw [I8 c2,Pq]) A0
 ·cases h)
structure Nk where
 (l0 left l:List Le)
 (n i afw afp au7 au6 aoJ:Int)
 o:List (List Int)
def aFc:=bN f168 0
def vP (s:Nk):T (Rd Nk):=letI a:=An s.l s.i;.br (an<|s.i<s.n) (.ix s.i (M s.l)<|.rb (M s.o) (M<|[Az a]) 24<|.re (M s.o+M ([Az a])) (s.o++([Az a]))<|.nx {s with i:=AA<|s.i+1,o:=s.o++([Az a])})<|.rl s.o<|.so (.exit 0) s
def iu (s:Nk):Prop:=s.i=0/\s.n<=1000/\s.n=(M s.l:Int)/\(M s.o:Int)<=s.i
def j9 (s:Nk):Prop:=0<=s.i/\s.i<=s.n/\s.n<=1000/\s.n=(M s.l:Int)/\(M s.o:Int)<=s.i
def sT (s:Nk):Nat:=(s.n-s.i).toNat
def abe (x:Ex) (s s':Nk):Prop:=True
def ajz:∀s,iu s->j9 s:=by
 exact Zc
theorem ayb:Da j9 sT abe vP:=by
 intro s hI;obtain ⟨h0,h1,h2,h3,h4⟩:=hI;refine AH (λc1=>?_) λc1=>trivial
 have c1:s.i<s.n:=A8
 rw [AJ (x:=s.i+1)];exact ⟨⟨A8,A8,h2,h3,A8⟩,by simp only [sT];omega⟩
def RS:AT Nk:=⟨0,71,[0,4,8,10,11,25,26,27],[.ns 10 0 34<|.sl<|.int aw],λs=>[s.l0,.own 0 0,s.left,.own 1 0,.fn 199 [.own 1 0],s.l,s.n,s.i],λs=>[⟨[s.afw,s.afp,s.au7,s.au6,s.aoJ],90,.cl,X⟩,⟨[.os 2 1 0<|M s.o],86,.cl,X⟩,⟨[],34,.vec (.sl<|.int aw) s.o,X⟩],λv b=>⟨B5 AQ v 0,B5 AQ v 2,B5 AQ v 5,AK v 6,AK v 7,Ak b 0 0,Ak b 0 1,Ak b 0 2,Ak b 0 3,Ak b 0 4,Ab (.sl<|.int aw) b 2⟩,vP,λs r=> {s with i:=r.i,o:=r.o},λs=>s,λ_ s=>s,[.exit 0],iu,j9,sT⟩
abbrev mf:=RS.run
abbrev aI4:=RS.Av
def awX:Rq j9 vP:=by
 intro s hI;refine ⟨λc1=>⟨?_,?_,?_,ak⟩,λc1=>⟨A9,ak⟩⟩
 all_goals ((obtain ⟨h0,h1,h2,h3,h4⟩:=hI;simp only [Ac] at c1;(first|omega|(simp only [Bk,Bp];omega) |(simp only [BF,Bk,Bp,FA]))))
def fQ:List Bd:=[dx,aaN]
def aRQ:Ay:=kI fQ<|l0 fQ
def aQM:RS.Ok:={}
def aOo:RS.Pf (abe):=⟨ajz,λs h=>rfl,ayb,awX⟩
def aq7:SA 0 aFc RS:=s1 aQM aOo fQ aRQ
theorem as3:Rs iu aI4 mf (λs:Nk=>s.o++(s.l.drop s.i.toNat).map Az) (λx s' (v:List<|List Int)=>x=.exit 0/\s'.o=v):=DJ aQM aOo (λs hI=>by
  obtain ⟨h0,h1,h2,h3,h4⟩:=hI;refine AH (λc1=>?_) λc1=>?_
  ·have c1:s.i<s.n:=A8
   rw [AJ (x:=s.i+1)]
   show _++[_]++_=_++_
   rw [(W9 h0 A0).1]
   grind
  ·have c1:s.n<=s.i:=A8
   refine ⟨rfl,?_⟩;rw [El A0]
   simp)
def IP (l:List Le) (x:Le) (t:Int):List (List Int):=if D9 l t=0 then I1 l x t else []
def aRd:List LV->T LV
 | [.xl (.pair (.int J) (.pair (.int J) (.pair (.int J) (.pair (.int J) (.int J))))) l,.v (.agg ⟨[Y J x1,Y J x2,Y J x3,Y J x4,Y J x5]⟩),.v (Y J t)]=> .ok (.AO [.xl (.sl<|.int aw)<|IP l (x1,x2,x3,x4,x5) t,D9 l t])
 |_=> .no
def Va (l:List Le) (x1 x2 x3 x4 x5 t:Int):Nk:=(⟨l,BW l t,BW l t,(M (BW l t):Int),0,x1,x2,x3,x4,x5,([]:List<|List Int)⟩:Nk)
theorem aHw {l:List Le}{t:Int}(h:D9 l t=0):M l<=64/\M (BW l t)<=M l:=by
 unfold D9 at h;split at h
 ·rename_i c
  refine ⟨(GS (by unfold Ka at c;rw [AY] at c;exact c.1)).1,?_⟩
  unfold BW
  grind
 ·cases h
def ai3:=vm (S:=aRd) func168 fQ aRQ (L:=(λi=>if i=7 then RS.lp else Al i)) (λb hb=>by
 rw [show BD _=[aFc] by kernel_rfl] at hb
 simp only [B7,Bt,Bu] at hb;subst hb;exact aq7) (λargs lv h=>by
 unfold aRd at h;split at h
 ·rename_i l x1 x2 x3 x4 x5 t
  refine Aq (letI a:=mf<|Va l x1 x2 x3 x4 x5 t;letI e:=(x1,x2,x3,x4,x5);letI f:=M a.o+M ([Az e]);letI j:=(AA<|(M l:Int)-1);letI k:=(M (BW l t):Int);letI m:=M a.o;letI n:=a.o++([Az e]);letI d:=An l j;letI g:=(a.o++([Az d]))++([Az e]);letI p:=M a.o+M ([Az d]);letI r:=M<|a.o++([Az d]);letI b:=M a.o+M ([Az d])+M ([Az e]);.br ((D9 l t) !=0) (.ok<|.AO [.xl (.sl<|.int aw) ([]:List<|List Int),(D9 l t)])<|.r0 (List Int)<|.req (RS.q<|Va l x1 x2 x3 x4 x5 t)<|.br (an<|(M l:Int)>0) (.br (k==0) (.ix j (M l)<|.rb m (M<|[Az d]) 24<|.ra p r b 24<|.req (0+b<=M g)<|.ok<|.AO [.xl (.sl<|.int aw)<|(g.drop 0).take b,(0:Int)])<|.ix (AA<|k-1) (M<|BW l t)<|.ix j (M l)<|.br ((An (BW l t)<|AA<|k-1).1 !=d.1) (.ix j (M l)<|.rb m (M<|[Az d]) 24<|.ra p r b 24<|.req (0+b<=M g)<|.ok<|.AO [.xl (.sl<|.int aw)<|(g.drop 0).take b,(0:Int)])<|.rb m (M<|[Az e]) 24<|.req (0+f<=M n)<|.ok<|.AO [.xl (.sl<|.int aw)<|(n.drop 0).take f,(0:Int)])<|.rb m (M<|[Az e]) 24<|.req (0+f<=M n)<|.ok<|.AO [.xl (.sl<|.int aw)<|(n.drop 0).take f,(0:Int)]) ?_;obtain rfl:=h;refine ⟨λc=>?_,λc=>?_⟩
  ·have c:D9 l t≠0:=Ig
   unfold IP;rw [AE c];rfl
  have hE:D9 l t=0:=Ig
  obtain ⟨k1,k2⟩:=aHw hE
  have hV:iu (Va l x1 x2 x3 x4 x5 t):=⟨rfl,by show (M (BW l t):Int)<=1000;omega,rfl,yM⟩
  have q:aI4 (Va l x1 x2 x3 x4 x5 t)=.exit 0/\(mf<|Va l x1 x2 x3 x4 x5 t).o=(BW l t).map Az:=as3 _ hV
  have hR:IP l (x1,x2,x3,x4,x5) t=I1 l (x1,x2,x3,x4,x5) t:=AD hE
  have w1:=λ_:0<M l=>AJ (x:=(M l:Int)-1)
  have w2:=λ_:0<M (BW l t)=>AJ (x:=(M (BW l t):Int)-1)
  have hL:M (mf<|Va l x1 x2 x3 x4 x5 t).o=M (BW l t):=by rw [q.2,G0]
  rw [hE,hR];unfold I1;refine ⟨A9,⟨hV,rfl,rfl⟩,λc1=>⟨λc2=>?_,λc2=>?_⟩,λc1=>?_⟩
  ·have c1:0<M l:=AX
   have c2:M (BW l t)=0:=EC
   rw [w1 c1,AD ⟨c1,.inl c2⟩];refine ⟨A0,⟨EM _,?_,?_⟩,⟨?_,?_,?_⟩,?_,?_⟩
   all_goals first|(simp only [BF,Bk,Bp,hL];omega) |(rw [q.2,CP,DR l9];simp only [Cl,EB];rfl)
  ·have c1:0<M l:=AX
   have c2:0<M (BW l t):=by simp at c2;exact OT.2 c2
   rw [w1 c1,w2 c2];refine ⟨A0,A0,λc3=>?_,λc3=>?_⟩
   ·rw [AD ⟨c1,.inr ND⟩]
    refine ⟨A0,⟨EM _,?_,?_⟩,⟨?_,?_,?_⟩,?_,?_⟩
    all_goals first|(simp only [BF,Bk,Bp,hL];omega) |(rw [q.2,CP,DR l9];simp only [Cl,EB];rfl)
   ·rw [AE (by intro h;rcases h.2 with h|h;omega;simp at c3;exact h c3)]
    refine ⟨⟨EM _,?_,?_⟩,?_,?_⟩
    all_goals first|(simp only [BF,Bk,Bp,hL];omega) |(rw [q.2,CP,DR l9];simp only [Cl,EB];rfl)
  ·have c1:¬0<M l:=AX
   rw [AE λh=>c1 h.1]
   refine ⟨⟨EM _,?_,?_⟩,?_,?_⟩
   all_goals first|(simp only [BF,Bk,Bp,hL];omega) |(rw [q.2,CP,DR l9];simp only [Cl,EB];rfl)
 ·cases h)
def fT:List Bd:=[]
def ahP:List LV->T LV:=λl=>Bi prog AV (fT) kN Al f223<|canL l
def aaW:=vo (S:=ahP) func223 fT kN (λargs lv h=>by
 refine ⟨?_⟩
 assumption)
def ahQ:List LV->T LV:=λl=>Bi prog AV (fT) kN Al f228<|canL l
def aaX:=vo (S:=ahQ) func228 fT kN (λargs lv h=>by
 refine ⟨?_⟩
 assumption)
def o5 {l:List Int}{n:Nat}(h:M l=n):BE l (aq n (0:Int))=l:=by
 unfold BE
 simp_all
def nR {l:List Int}{n:Nat}(h:M l=n):((BE ((l.drop 0).take n)<|aq n (0:Int)).drop 0).take n=l:=by
 rw [CP,CP,DR (l:=l) A0,o5 h,DR A0]
theorem Wq {l:List Int}{n:Nat}(h:M l=n):(l.drop 0).take n=l:=by
 grind
def z7:Array Tmp×Code×Code:=((It<|f224.body.getD .skip)[0]?).getD (#[],.skip,.skip)
def aaB:Array Tmp:=z7.1
def aTg:Code:=z7.2.1
def aaF:Code:=z7.2.2
structure Lr where
 (n i He:Int)
 (Hc b1:List Int)
 nW:Int
 GU:List Int
 (b3 b4 Hb:Int)
 b9:List Fl
 b10:List Int
 st:LS
def Kj (s:Lr):List Int:=(s.b10.set (AA<|s.b3+s.i).toNat<|Bq aw (s.b10.getD (AA<|s.b3+s.i).toNat<|Ty.dflt<|.int aw)<|gi s.b1 s.i)
def lpC (s:Lr):List Int:=((BE (((Kj s).drop 0).take<|M s.b10)<|aq ((M s.b10:Nat):Int).toNat (0:Int)).drop 0)
def lf (s:Lr):T (Rd Lr):=letI a:=((M s.b10:Nat):Int);letI b:=(s.Hb,(lpC s).take a.toNat);letI c:=M s.b10;letI d:=((Kj s).drop 0).take c;.br (an<|s.i<s.n) (.ik (AA<|s.b3+s.i) c<|.ix s.i (M s.b1)<|.ik (AA<|s.b3+s.i) c<|.rm 1 a<|.req (0+c<=M (Kj s))<|.rc a (0:Int) (M d)<|.req (0+a.toNat<=M (BE d<|aq a.toNat (0:Int)))<|.rb (M s.b9) (M<|[b]) 32<|.re (M s.b9+M ([b])) (s.b9++([b]))<|.re c (Kj s)<|.nx {s with i:=AA<|s.i+1,b9:=s.b9++([b]),b10:=Kj s})<|.rl s.b9<|.rl s.b10<|.so (.exit 0) s
def mN (s:Lr):Prop:=s.st=.ready/\s.i=0/\(s.n=(M s.b1:Int)/\0<=s.n/\0<=s.b3/\s.b3+s.n<=(M s.GU:Int)/\M s.GU<=4096)/\s.b10=DZ s.GU s.b3 s.b1 0/\s.b9=[(s.Hb,DZ s.GU s.b3 s.b1 0)]
def bJ (s:Lr):Prop:=s.st=.ready/\(0<=s.i/\s.i<=s.n)/\(s.n=(M s.b1:Int)/\0<=s.n/\0<=s.b3/\s.b3+s.n<=(M s.GU:Int)/\M s.GU<=4096)/\s.b10=DZ s.GU s.b3 s.b1 s.i.toNat/\s.b9=(au<|s.i.toNat+1).map (λk:Nat=>(s.Hb,DZ s.GU s.b3 s.b1 k))
def zf (s:Lr):Nat:=(s.n-s.i).toNat
def wX (x:Ex) (s s':Lr):Prop:=x=.exit 0/\s'.b9=Dj s'.Hb s'.GU s'.b3 s'.b1
theorem amF:∀s,mN s->bJ s:=by
 exact aM2
def ajv:Da bJ zf wX lf:=by
 intro s hI;unfold lf;refine AH (λc1=>?_) λc1=>?_
 ·obtain ⟨ht,⟨h0,h1⟩,⟨hn,hn0,ha,hl,h4⟩,hb,ho⟩:=hI
  have hbl:M s.b10=M s.GU:=aNb
  have c1:s.i<s.n:=AX
  have wa:AA (s.b3+s.i)=s.b3+s.i:=AJ
  have hB:Kj s=DZ s.GU s.b3 s.b1 (s.i.toNat+1):=aMo
  have hBl:M (Kj s)=M s.GU:=aNc
  have hC:(lpC s).take ((M s.b10:Nat):Int).toNat=Kj s:=aNI
  rw [AJ (x:=s.i+1)]
  have et:(s.i+1).toNat=s.i.toNat+1:=A0
  refine ⟨⟨ht,⟨AZ,AZ⟩,⟨hn,hn0,ha,hl,h4⟩,?_,?_⟩,by simp only [zf];omega⟩
  ·simp only [et]
   exact hB
  ·simp only [et]
   rw [SX,Jx,<-ho,E9,L1,<-hB,<-hC]
 ·obtain ⟨ht,⟨h0,h1⟩,⟨hn,hn0,ha,hl,h4⟩,hb,ho⟩:=hI
  have c1:s.n<=s.i:=AX
  refine ⟨rfl,?_⟩;rw [ho]
  have e:s.i.toNat=M s.b1:=A0
  rw [e];rfl
def aX:AT Lr:=⟨8,41,[0,3,4,6,15,16],[],λs=>[.CK 7,.own 5 0,.own 3 0,.own 8 0,s.n,s.i],λs=>[⟨[s.He,.xl (.int aw) s.Hc],36,.cl,X⟩,⟨[.xl (.int aw) s.b1],34,.cl,X⟩,⟨[s.nW,.xl (.int aw) s.GU],36,.cl,X⟩,⟨[s.b3],3,.cl,X⟩,⟨[s.b4],3,.cl,X⟩,⟨[.fn 223 [.own 1 0]],330,.cl,X⟩,⟨[.os 9 2 0<|M s.b9],240,.cl,X⟩,⟨[.junk,.junk,.junk,.own 6 0,.v<|.tuple #[],.junk,.v<|.tuple #[],.v<|.tuple #[],.v<|.tuple #[],.v<|.tuple #[],.v<|.tuple #[],.junk],0,.Cc aaB aTg aaF s.st,X⟩,⟨[s.Hb,.os 10 1 0<|M s.b10],36,.cl,X⟩,bV 36 Bj s.b9,bV 5 (.int aw) s.b10],λv b=>⟨AK v 4,AK v 5,Ak b 0 0,AF (.int aw) b 0 1,AF (.int aw) b 1 0,Ak b 2 0,AF (.int aw) b 2 1,Ak b 3 0,Ak b 4 0,Ak b 8 0,Ab Bj b 9,Ab (.int aw) b 10,.ready⟩,lf,λs r=> {r with n:=s.n,He:=s.He,Hc:=s.Hc,b1:=s.b1,nW:=s.nW,GU:=s.GU,b3:=s.b3,b4:=s.b4,Hb:=s.Hb,st:=s.st},λs=> {s with st:=.ready},λx s=> {s with st:=(match x with| .exit 0=> .ready|_=> .ready)},[.exit 0],mN,bJ,zf⟩
abbrev di:=aX.run
abbrev agn:=aX.Av
def uK:List Bd:=[XK,aaW]
def azt:Ay:=kI uK<|l0 uK
theorem aiv:Rq bJ lf:=by
 intro s hI;refine ⟨λc1=>⟨?_,?_,?_,?_,?_,?_,?_,?_,?_,?_,?_,?_,ak⟩,λc1=>⟨A9,A9,ak⟩⟩
 all_goals ((obtain ⟨ht,⟨h0,h1⟩,⟨hn,hn0,ha,hl,h4⟩,hb,ho⟩:=hI;have hbl:M s.b10=M s.GU:=aNb;have c1:s.i<s.n:=A8;have wa:AA (s.b3+s.i)=s.b3+s.i:=AJ;have hB:Kj s=DZ s.GU s.b3 s.b1 (s.i.toNat+1):=aMo;have hBl:M (Kj s)=M s.GU:=aNc;have hC:(lpC s).take ((M s.b10:Nat):Int).toNat=Kj s:=aNI;(first|omega|exact ⟨rfl,AI⟩ |(rw [wa];omega) |(rw [hC];simp only [BF,Bk,Bp,ho,G0,SW,FA];omega) |(rw [hBl];omega) |(rw [By,Ce,Wq A0];omega) |(rw [By,Wq A0,o5 A0];omega))))
def abS:aX.Ok:={}
def abD:aX.Pf (wX):=⟨amF,λs h=>by
 obtain ⟨n,i,He,Hc,b1,nW,GU,b3,b4,Hb,b9,b10,st⟩:=s
 have e:=h.1
 subst e;rfl,ajv,aiv⟩
def ry:=s2 (b:=bN f230 0) abS abD uK azt
def ayS:Fi mN bJ wX agn di:=AT.fin abS abD
structure Ls where
 (n i He:Int)
 Hc:List Int
 Vx:Int
 FW:List Int
 (b2 b3 Hb:Int)
 b8:List Fl
 b9:List Int
 st:LS
def leB (s:Ls):List Int:=(s.b9.set (AA<|s.b2+s.i).toNat (255:Int))
def leC (s:Ls):List Int:=((BE (((leB s).drop 0).take<|M s.b9)<|aq ((M s.b9:Nat):Int).toNat (0:Int)).drop 0)
def lg (s:Ls):T (Rd Ls):=letI a:=((M s.b9:Nat):Int);letI b:=(s.Hb,(leC s).take a.toNat);letI c:=M s.b9;letI d:=((leB s).drop 0).take c;.br (an<|s.i<s.n) (.ik (AA<|s.b2+s.i) c<|.ik (AA<|s.b2+s.i) c<|.rm 1 a<|.req (0+c<=M (leB s))<|.rc a (0:Int) (M d)<|.req (0+a.toNat<=M (BE d<|aq a.toNat (0:Int)))<|.rb (M s.b8) (M<|[b]) 32<|.re (M s.b8+M ([b])) (s.b8++([b]))<|.re c (leB s)<|.nx {s with i:=AA<|s.i+1,b8:=s.b8++([b]),b9:=leB s})<|.rl s.b8<|.rl s.b9<|.so (.exit 0) s
def mP (s:Ls):Prop:=s.st=.ready/\s.i=0/\(s.n=s.n/\0<=s.n/\0<=s.b2/\s.b2+s.n<=(M s.FW:Int)/\M s.FW<=4096)/\s.b9=Eg s.FW s.b2 0/\s.b8=[(s.Hb,Eg s.FW s.b2 0)]
def bK (s:Ls):Prop:=s.st=.ready/\(0<=s.i/\s.i<=s.n)/\(s.n=s.n/\0<=s.n/\0<=s.b2/\s.b2+s.n<=(M s.FW:Int)/\M s.FW<=4096)/\s.b9=Eg s.FW s.b2 s.i.toNat/\s.b8=(au<|s.i.toNat+1).map (λk:Nat=>(s.Hb,Eg s.FW s.b2 k))
def zh (s:Ls):Nat:=(s.n-s.i).toNat
def wY (x:Ex) (s s':Ls):Prop:=x=.exit 0/\s'.b8=(au<|s'.n.toNat+1).map (λk:Nat=>(s'.Hb,Eg s'.FW s'.b2 k))
theorem amH:∀s,mP s->bK s:=by
 exact aM2
def ajx:Da bK zh wY lg:=by
 intro s hI;unfold lg;refine AH (λc1=>?_) λc1=>?_
 ·obtain ⟨ht,⟨h0,h1⟩,⟨hn,hn0,ha,hl,h4⟩,hb,ho⟩:=hI
  have hbl:M s.b9=M s.FW:=aNU
  have c1:s.i<s.n:=AX
  have wa:AA (s.b2+s.i)=s.b2+s.i:=AJ
  have hB:leB s=Eg s.FW s.b2 (s.i.toNat+1):=aMp
  have hBl:M (leB s)=M s.FW:=aNV
  have hC:(leC s).take ((M s.b9:Nat):Int).toNat=leB s:=aNJ
  rw [AJ (x:=s.i+1)]
  have et:(s.i+1).toNat=s.i.toNat+1:=A0
  refine ⟨⟨ht,⟨AZ,AZ⟩,⟨hn,hn0,ha,hl,h4⟩,?_,?_⟩,by simp only [zh];omega⟩
  ·simp only [et]
   exact hB
  ·simp only [et]
   rw [SX,Jx,<-ho,E9,L1,<-hB,<-hC]
 ·obtain ⟨ht,⟨h0,h1⟩,⟨hn,hn0,ha,hl,h4⟩,hb,ho⟩:=hI
  have c1:s.n<=s.i:=AX
  refine ⟨rfl,?_⟩;rw [ho]
  have e:s.i.toNat=s.n.toNat:=A0
  rw [e]
def aY:AT Ls:=⟨7,41,[0,3,4,6,15,16],[],λs=>[.CK 6,.own 4 0,.own 2 0,.own 7 0,s.n,s.i],λs=>[⟨[s.He,.xl (.int aw) s.Hc],36,.cl,X⟩,⟨[s.Vx,.xl (.int aw) s.FW],36,.cl,X⟩,⟨[s.b2],3,.cl,X⟩,⟨[s.b3],3,.cl,X⟩,⟨[.fn 228 []],330,.cl,X⟩,⟨[.os 8 2 0<|M s.b8],240,.cl,X⟩,⟨[.junk,.junk,.junk,.own 5 0,.v<|.tuple #[],.junk,.v<|.tuple #[],.v<|.tuple #[],.v<|.tuple #[],.v<|.tuple #[],.v<|.tuple #[],.junk],0,.Cc aaB aTg aaF s.st,X⟩,⟨[s.Hb,.os 9 1 0<|M s.b9],36,.cl,X⟩,bV 36 Bj s.b8,bV 5 (.int aw) s.b9],λv b=>⟨AK v 4,AK v 5,Ak b 0 0,AF (.int aw) b 0 1,Ak b 1 0,AF (.int aw) b 1 1,Ak b 2 0,Ak b 3 0,Ak b 7 0,Ab Bj b 8,Ab (.int aw) b 9,.ready⟩,lg,λs r=> {r with n:=s.n,He:=s.He,Hc:=s.Hc,Vx:=s.Vx,FW:=s.FW,b2:=s.b2,b3:=s.b3,Hb:=s.Hb,st:=s.st},λs=> {s with st:=.ready},λx s=> {s with st:=(match x with| .exit 0=> .ready|_=> .ready)},[.exit 0],mP,bK,zh⟩
abbrev WW:=aY.run
abbrev agp:=aY.Av
def uJ:List Bd:=[XK,aaX]
def azs:Ay:=kI uJ<|la 3 func230 ry<|l0 uJ
theorem aix:Rq bK lg:=by
 intro s hI;refine ⟨λc1=>⟨?_,?_,?_,?_,?_,?_,?_,?_,?_,?_,?_,ak⟩,λc1=>⟨A9,A9,ak⟩⟩
 all_goals ((obtain ⟨ht,⟨h0,h1⟩,⟨hn,hn0,ha,hl,h4⟩,hb,ho⟩:=hI;have hbl:M s.b9=M s.FW:=aNU;have c1:s.i<s.n:=A8;have wa:AA (s.b2+s.i)=s.b2+s.i:=AJ;have hB:leB s=Eg s.FW s.b2 (s.i.toNat+1):=aMp;have hBl:M (leB s)=M s.FW:=aNV;have hC:(leC s).take ((M s.b9:Nat):Int).toNat=leB s:=aNJ;(first|omega|exact ⟨rfl,AI⟩ |(rw [wa];omega) |(rw [hC];simp only [BF,Bk,Bp,ho,G0,SW,FA];omega) |(rw [hBl];omega) |(rw [By,Ce,Wq A0];omega) |(rw [By,Wq A0,o5 A0];omega))))
def abU:aY.Ok:={}
def abG:aY.Pf (wY):=⟨amH,λs h=>by
 obtain ⟨n,i,He,Hc,Vx,FW,b2,b3,Hb,b8,b9,st⟩:=s
 have e:=h.1
 subst e;rfl,ajx,aix⟩
def aOM:=s2 (b:=bN f230 0) abU abG uJ azs
def ayX:Fi mP bK wY agp WW:=AT.fin abU abG
def Uh (se:Int) (fl:List Int) (a:Int) (d:List Int):List Fl:=if Eu se fl a d=0 then Dj se fl a d else []
def Du (se:Int) (fl:List Int) (s:Int):List Fl:=if I3 se fl s=0 then Kx se fl s else []
def aSY:List LV->T LV
 | [.agg [.v (Y J se),.xl (.int aw) fl],.v (Y J at_),.xl (.int aw) d]=> .req (M d<=1000000) (.ok<|.AO [.xl Bj<|Uh se fl at_ d,Eu se fl at_ d])
 |_=> .no
def adJ (se:Int) (fl:List Int) (at_:Int) (d:List Int):Lr:=(⟨(M d:Int),0,se,fl,d,se,fl,at_,(M d:Int),se,[(se,((BE (((BE fl<|aq (M fl:Int).toNat (0:Int)).drop 0).take (M fl:Int).toNat)<|aq (((M fl:Int).toNat:Nat):Int).toNat (0:Int)).drop 0).take (((M fl:Int).toNat:Nat):Int).toNat)],BE fl<|aq (M fl:Int).toNat (0:Int),.ready⟩:Lr)
def uI:List Bd:=[XK,aaW]
def azr:Ay:=kI uI<|la 3 func230 aOM<|la 3 func230 ry<|l0 uI
def ai9:=vo (S:=aSY) func217 uI azr (λargs lv h=>by
 unfold aSY at h;split at h
 ·rename_i se fl at_ d
  refine Aq (letI b:=(M fl:Int);letI c:=(BE fl<|aq b.toNat (0:Int));letI e:=((b.toNat:Nat):Int);letI g:=adJ se fl at_ d;letI i:=(c.drop 0).take b.toNat;letI a:=(BE i<|aq e.toNat (0:Int));letI f:=(se,(a.drop 0).take e.toNat);.br ((!(HQ se fl)) ||(an<|at_<0)) (.ok<|.AO [.xl Bj ([]:List Fl),(1:Int)])<|.br (an<|at_>(AA<|b-(M d:Int))) (.ok<|.AO [.xl Bj ([]:List Fl),(3:Int)])<|.rm 1 b<|.rc b (0:Int) (M fl)<|.rm 1 e<|.req (0+b.toNat<=M c)<|.rc e (0:Int) (M i)<|.req (0+e.toNat<=M a)<|.req ((M ([f]):Int)*32<=2^47/\(M ([f]):Int)<2^62)<|.rl ([f])<|.re b.toNat c<|.req (aX.q g)<|.rz (di g).b9<|.ok<|.AO [.xl Bj<|((di g).b9.drop 0).take<|M (di g).b9,(0:Int)]) ?_;obtain ⟨hd,rfl⟩:=h;refine ⟨λc1=>?_,λc1=>⟨λc2=>?_,λc2=>?_⟩⟩
  ·have hE:Eu se fl at_ d=1:=by unfold Eu;rw [AD c1]
   unfold Uh;rw [hE];rfl
  all_goals have c1':HQ se fl=U/\0<=at_:=by simp at c1;omega
  all_goals have hv:=NS.1 c1'.1
  all_goals rw [AJ (x:=(M fl:Int)-(M d:Int))] at c2
  ·have hE:Eu se fl at_ d=3:=by unfold Eu;rw [AE aB,AD<|Cx c2]
   unfold Uh;rw [hE];rfl
  have c2:at_<=(M fl:Int)-(M d:Int):=EC
  have hE:Eu se fl at_ d=0:=by unfold Eu;rw [AE aB,AE A0]
  have z1:BE fl (aq (M fl:Int).toNat (0:Int))=fl:=aO2
  have z2:((BE (((BE fl<|aq (M fl:Int).toNat (0:Int)).drop 0).take (M fl:Int).toNat)<|aq (((M fl:Int).toNat:Nat):Int).toNat (0:Int)).drop 0).take (((M fl:Int).toNat:Nat):Int).toNat=fl:=by
   rw [z1,By,By];exact nR rfl
  have z5:BE (((BE fl<|aq (M fl:Int).toNat (0:Int)).drop 0).take (M fl:Int).toNat) (aq (((M fl:Int).toNat:Nat):Int).toNat (0:Int))=fl:=by
   grind
  have z6:((BE fl<|aq (M fl:Int).toNat (0:Int)).drop 0).take (M fl:Int).toNat=fl:=by
   rw [z1,By,Wq rfl]
  have hL:mN (adJ se fl at_ d):=⟨rfl,rfl,⟨rfl,by show (0:Int)<=(M d:Int);omega,c1'.2,by show at_+(M d:Int)<=(M fl:Int);omega,hv.2.2.2.1⟩,z1,aNC⟩
  obtain ⟨s',_,q1,q2⟩:=ayS _ hL;refine ⟨?_,?_,?_,?_,?_,?_,?_,A9,?_,⟨hL,rfl,rfl⟩,A0,?_⟩
  iterate 8 · (first|omega|(rw [z6,Ce];omega) |(rw [Ce];omega) |(rw [z5];omega) |(rw [z1];omega) |(simp only [Bk,Bp];decide))
  unfold Uh;rw [AD hE,hE,CP,DR<|Ar _,q2];rfl
 ·cases h)
def aSD:List LV->T LV
 | [.agg [.v (Y J se),.xl (.int aw) fl],.v (Y J sc)]=> .ok (.AO [.xl Bj<|Du se fl sc,I3 se fl sc])
 |_=> .no
def nH (se:Int) (fl:List Int) (sc:Int):Ls:=(⟨se,0,se,fl,se,fl,AA<|sc*se,se,se,[(se,((BE (((BE fl<|aq (M fl:Int).toNat (0:Int)).drop 0).take (M fl:Int).toNat)<|aq (((M fl:Int).toNat:Nat):Int).toNat (0:Int)).drop 0).take (((M fl:Int).toNat:Nat):Int).toNat)],BE fl<|aq (M fl:Int).toNat (0:Int),.ready⟩:Ls)
def uH:List Bd:=[XK,aaX]
def azq:Ay:=kI uH<|la 3 func230 aOM<|la 3 func230 ry<|l0 uH
def aac:=vo (S:=aSD) func221 uH azq (λargs lv h=>by
 unfold aSD at h;split at h
 ·rename_i se fl sc
  refine Aq (letI b:=(M fl:Int);letI c:=(BE fl<|aq b.toNat (0:Int));letI d:=((b.toNat:Nat):Int);letI f:=nH se fl sc;letI g:=(c.drop 0).take b.toNat;letI a:=(BE g<|aq d.toNat (0:Int));letI e:=(se,(a.drop 0).take d.toNat);.br (!(HQ se fl)) (.ok<|.AO [.xl Bj ([]:List Fl),(1:Int)])<|.br (an<|sc<0) (.ok<|.AO [.xl Bj ([]:List Fl),(1:Int)])<|.req (se≠0)<|.br (an<|sc>=(AA<|b.tdiv se)) (.ok<|.AO [.xl Bj ([]:List Fl),(1:Int)])<|.rm 1 b<|.rc b (0:Int) (M fl)<|.rm 1 d<|.req (0+b.toNat<=M c)<|.rc d (0:Int) (M g)<|.req (0+d.toNat<=M a)<|.req ((M ([e]):Int)*32<=2^47/\(M ([e]):Int)<2^62)<|.rl ([e])<|.re b.toNat c<|.req (aY.q f)<|.rz (WW f).b8<|.ok<|.AO [.xl Bj<|((WW f).b8.drop 0).take<|M (WW f).b8,(0:Int)]) ?_;obtain rfl:=h
  have bad:I3 se fl sc=1->LV.AO [.xl Bj ([]:List Fl),.v<|Y J 1]=LV.AO [.xl Bj<|Du se fl sc,.v<|Y J<|I3 se fl sc]:=λhE=>by unfold Du;rw [hE];rfl
  refine ⟨λc1=>bad ?_,λc1=>⟨λc2=>bad ?_,λc2=>⟨?_,λc3=>bad ?_,λc3=>?_⟩⟩⟩
  ·unfold I3;rw [AD (by rw [c1];rfl)]
  ·unfold I3;rw [AD<|by rw [c2,Bool.true_or,Sc]]
  all_goals have hv:=NS.1 AX
  ·omega
  all_goals have hd:0<=(M fl:Int).tdiv se/\(M fl:Int).tdiv se<=(M fl:Int):=(by rw [I9 A0];exact ⟨SY A0 A0,V5 _ A0⟩)
  all_goals (rw [AJ (x:=(M fl:Int).tdiv se)] at c3)
  ·unfold I3;rw [AD<|by rw [c3,Sc,Sc]]
  have hE:I3 se fl sc=0:=by unfold I3;rw [AE (by rw [c1,c2,c3];decide)]
  have c2:0<=sc:=EC
  have c3:sc<(M fl:Int).tdiv se:=ND
  have hm:sc*se+se<=(M fl:Int):=by
   have h1:(sc+1)*se<=(M fl:Int).tdiv se*se:=MD A0 A0
   have h2:(M fl:Int).tdiv se*se<=(M fl:Int):=by
    rw [I9 A0];exact Int.ediv_mul_le _ A0
   have h3:(sc+1)*se=sc*se+se:=by rw [kW,ZN]
   omega
  have hn:0<=sc*se:=Ib c2 A0
  have wm:AA (sc*se)=sc*se:=AJ
  have z1:BE fl (aq (M fl:Int).toNat (0:Int))=fl:=aO2
  have z2:((BE (((BE fl<|aq (M fl:Int).toNat (0:Int)).drop 0).take (M fl:Int).toNat)<|aq (((M fl:Int).toNat:Nat):Int).toNat (0:Int)).drop 0).take (((M fl:Int).toNat:Nat):Int).toNat=fl:=by
   rw [z1,By,By];exact nR rfl
  have z5:BE (((BE fl<|aq (M fl:Int).toNat (0:Int)).drop 0).take (M fl:Int).toNat) (aq (((M fl:Int).toNat:Nat):Int).toNat (0:Int))=fl:=by
   grind
  have z6:((BE fl<|aq (M fl:Int).toNat (0:Int)).drop 0).take (M fl:Int).toNat=fl:=by
   rw [z1,By,Wq rfl]
  have hL:mP (nH se fl sc):=⟨rfl,rfl,⟨rfl,by show (0:Int)<=se;omega,by show 0<=AA (sc*se);omega,by show AA (sc*se)+se<=(M fl:Int);omega,hv.2.2.2.1⟩,z1,aNC⟩
  obtain ⟨s',_,q1,q2⟩:=ayX _ hL
  have q2:(WW<|nH se fl sc).b8=(au<|se.toNat+1).map (λk:Nat=>(se,Eg fl (AA<|sc*se) k)):=q2
  rw [wm] at q2
  have q2:(WW<|nH se fl sc).b8=Kx se fl sc:=q2
  refine ⟨?_,?_,?_,?_,?_,?_,?_,A9,?_,⟨hL,rfl,rfl⟩,A0,?_⟩
  iterate 8 · (first|omega|(rw [z6,Ce];omega) |(rw [Ce];omega) |(rw [z5];omega) |(rw [z1];omega) |(simp only [Bk,Bp];decide))
  unfold Du;rw [AD hE,hE,CP,DR<|Ar _,q2];rfl
 ·cases h)
def atZ:List LV->T LV:=λ_=> .no
def cX:VV 1000240 atZ:=by
 exact xp
def BU (al:List Fl):Fl:=GB al<|(M al:Int)-1
def JC (al:List Fl) (er a:Int) (d:List Int):Int:=if Eu (BU al).1 (BU al).2 a d=0 then er else Eu (BU al).1 (BU al).2 a d
def Kq (al:List Fl) (a:Int) (d:List Int):List Fl:=if Eu (BU al).1 (BU al).2 a d=0 then al++(Dj (BU al).1 (BU al).2 a d).drop 1 else al
def aS0:V2:=λi=>if i=10 then ah ([9,10,11],[]) else if i=11 then ah ([9,10,11],[]) else aj
structure Gf where
 at_:Int
 d:List Int
 er:Int
 al:List Fl
def UP (s:Gf):List LV:=[.own 0 0,s.at_,.xl (.int aw) s.d]
def Z7 (s:Gf):List AB:=[⟨[.os 1 2 0<|M s.al,s.er],324,.cl,X⟩,bV 36 Bj s.al]
structure XV where
 er:Int
 al:List Fl
def acK (s:XV):LV:=.v<|.tuple #[]
def acj (s:XV):List AB:=[⟨[.os 2 2 0<|M s.al,s.er],324,.cl,X⟩,⟨[],36,.dead,X⟩,bV 36 Bj s.al]
def aBP (s:Gf):Int:=(AA<|((M s.al:Nat):Int)-1)
def Vk (s:Gf):Fl:=(s.al.getD (aBP s).toNat<|Ty.dflt Bj)
def ft (s:Gf):T XV:=letI c:=Eu (Vk s).1 (Vk s).2 s.at_ s.d;letI e:=Uh (Vk s).1 (Vk s).2 s.at_ s.d;letI b:=(M e:Int);letI a:=((e.drop (1:Int).toNat).take<|b.toNat-(1:Int).toNat);.ik (aBP s) (M s.al)<|.req (M s.d<=1000000)<|.br (!(c==(0:Int))) (.rl s.al<|.ok<|⟨c,s.al⟩)<|.req (0<=(1:Int)/\(1:Int)<=b/\b<=b)<|.rb (M s.al) (M a) 32<|.re (M s.al+M a) (s.al++a)<|.ok<|⟨s.er,s.al++a⟩
def aB6 (s:Gf):Prop:=s.al≠ []/\M s.al<=4000000/\M s.d<=5000
def yw (s:Gf):XV:=⟨JC s.al s.er s.at_ s.d,Kq s.al s.at_ s.d⟩
def UH:Cr Gf XV:=⟨UP,Z7,λv b=>⟨AK v 1,B5 (.int aw) v 2,Ak b 0 1,Ab Bj b 1⟩,aB6,[],[.ms 1 0],acK,acj,yw⟩
abbrev fO (s:Gf):Prop:=aB6 s/\UP s=UP s/\Z7 s=Z7 s
def Wl:List Bd:=[ai9,fm,cX]
def aRS:Ay:=kI Wl<|l0 Wl
def aTa:DG:=Dp prog AV Wl 20 2
def ao4:EF prog AV aTa:=Hg<|gk Wl
def axG (s:Gf):((ER prog AV Wl aTa aRS).k 197 (UP s)<|Z7 s).bind (λq=>G8 (M<|Z7 s) [0] [.ms 1 0] .normal (q.1::UP s) q.2)=(ft s).mp (λs2=>⟨.normal,M (UP s)+1,[acK s2],acj s2,U⟩):=AU
theorem avr (s:Gf) (hE:aB6 s):(ft s).all (λq=>q=yw s):=by
 obtain ⟨h0,h1,h2⟩:=hE
 have hp:=OT.2 h0
 have w:aBP s=(M s.al:Int)-1:=AJ
 have hY:Vk s=BU s.al:=by unfold Vk BU GB;rw [w];rfl
 unfold ft yw JC Kq;rw [w,hY];refine ⟨A0,A0,A0,λc1=>?_,λc1=>?_⟩
 ·have c1:¬Eu (BU s.al).1 (BU s.al).2 s.at_ s.d=0:=A8
  rw [AE c1,AE c1];exact ⟨A9,rfl⟩
 ·have c1:Eu (BU s.al).1 (BU s.al).2 s.at_ s.d=0:=A8
  have hR:Uh (BU s.al).1 (BU s.al).2 s.at_ s.d=Dj (BU s.al).1 (BU s.al).2 s.at_ s.d:=AD c1
  have hl:M (Dj (BU s.al).1 (BU s.al).2 s.at_ s.d)=M s.d+1:=by unfold Dj;simp
  rw [AD c1,AD c1,hR,hl];rw [DR A8];refine ⟨A0,A8,AI,rfl⟩
def fZ:DV prog AV 197 UH.m:=Cr.sound (D:=UH) (t:=ft) (gk Wl) ao4 aRS.h axG λs hE=>⟨avr s hE⟩
def JK:Int->List (List Int)->Bool
 |_,[]=>U
 |left,d::ds=>if (an ((M d:Int)>65535) ||an (7+(M d:Int)>left))=U then X else JK (left-(7+(M d:Int))) ds
theorem aQs:∀(ds:List<|List Int) (left:Int),0<=left->JK left ds=(an ((((ds.map λd=>7+M d).sum:Nat):Int)<=left)&&ds.all (λd=>an<|M d<=65535))
 | [],left,h=>by simp [JK,h]
 | d::ds,left,h=>by
  simp only [JK,E9,List.sum_cons,Ic];split
  ·rename_i hc
   rw [Eq.comm,I6];intro hh;simp only [Ck,AY,Ac] at hc hh;omega
  ·rename_i hc
   simp only [Ck,Ac,not_or] at hc;rw [aQs ds _ A0,Ia]
   grind
structure Lu where
 r:Bool
 left:Int
 l:List (List Int)
 (n i:Int)
def aHc:=bN f200 0
def aBF (s:Lu):T (Rd Lu):=
 .br (an<|s.i<s.n) (.ix s.i (M s.l)<|.br ((an<|(M (gx (e:=.sl<|.int aw) s.l s.i):Int)>65535) ||(an<|(AA<|7+(M (gx (e:=.sl<|.int aw) s.l s.i):Int))>s.left)) (.so (.ret) {s with r:=X})<|.nx {s with left:=AA<|s.left-(AA<|7+(M (gx (e:=.sl<|.int aw) s.l s.i):Int)),i:=AA<|s.i+1}) (.so (.exit 0) s)
def mY (s:Lu):Prop:=s.i=0/\s.n<=5000/\s.n=(M s.l:Int)/\Hv s.l/\0<=s.left/\s.left<=100000
def mI (s:Lu):Prop:=0<=s.i/\s.i<=s.n/\s.n<=5000/\s.n=(M s.l:Int)/\Hv s.l/\0<=s.left/\s.left<=100000
def zj (s:Lu):Nat:=(s.n-s.i).toNat
def aKH (x:Ex) (s s':Lu):Prop:=True
def am0:∀s,mY s->mI s:=by
 exact Zc
theorem akV:Da mI zj aKH aBF:=by
 intro s hI;obtain ⟨h0,h1,h2,h3,h4,h5,h6⟩:=hI;refine AH (λc1=>AH (λc2=>trivial) λc2=>?_) λc1=>trivial
 ·have c1:s.i<s.n:=A8
  have hk:=WQ h4 h0 A0
  have w:AA (7+(M (gx (e:=.sl<|.int aw) s.l s.i):Int))=7+(M (gx (e:=.sl<|.int aw) s.l s.i):Int):=AJ
  rw [w,AJ (x:=s.i+1),AJ (x:=s.left-(7+(M (gx (e:=.sl<|.int aw) s.l s.i):Int)))];exact ⟨⟨A8,A8,h2,h3,h4,A8,A8⟩,by simp only [zj];omega⟩
def S8:AT Lu:=⟨0,32,[4,5,10,11,12],[],λs=>[s.r,s.left,.xl (.sl<|.int aw) s.l,s.n,s.i],λ_=>[],λv b=>⟨Ec v 0,AK v 1,B5 (.sl<|.int aw) v 2,AK v 3,AK v 4⟩,aBF,λs r=> {r with l:=s.l,n:=s.n},λs=>s,λ_ s=>s,[.ret,.exit 0],mY,mI,zj⟩
abbrev aOI:=S8.run
abbrev aQz:=S8.Av
def aj6:Rq mI aBF:=by
 intro s hI;refine ⟨λc1=>⟨?_,λ_=>trivial,λ_=>trivial⟩,λ_=>trivial⟩
 ·exact aLV
def aRB:List Bd:=[cX]
def aaq:S8.Ok:={}
def abK:S8.Pf (aKH):=⟨am0,λs h=>rfl,akV,aj6⟩
def avU:SA 0 aHc S8:=s1 aaq abK aRB kN
theorem agd:Rs mY aQz aOI (λs:Lu=>JK s.left<|s.l.drop s.i.toNat) (λx s' (v:Bool)=>(x=.ret/\s'.r=X/\v=X)\/(x=.exit 0/\v=U)):=DJ aaq abK (λs hI=>by
  obtain ⟨h0,h1,h2,h3,h4,h5,h6⟩:=hI;refine AH (λc1=>AH (λc2=>?_) λc2=>?_) λc1=>?_
  ·have c1:s.i<s.n:=A8
   have hk:=WQ h4 h0 A0
   have w:AA (7+(M (gx (e:=.sl<|.int aw) s.l s.i):Int))=7+(M (gx (e:=.sl<|.int aw) s.l s.i):Int):=AJ
   rw [w] at c2;refine .inl ⟨rfl,rfl,?_⟩;rw [WG h0 A0,JK,AD c2]
  ·have c1:s.i<s.n:=A8
   have hk:=WQ h4 h0 A0
   have w:AA (7+(M (gx (e:=.sl<|.int aw) s.l s.i):Int))=7+(M (gx (e:=.sl<|.int aw) s.l s.i):Int):=AJ
   rw [w,AJ (x:=s.i+1),AJ (x:=s.left-(7+(M (gx (e:=.sl<|.int aw) s.l s.i):Int)))]
   show JK _ _=JK _ _
   rw [WG h0 A0,JK,AE A8]
  ·have c1:s.n<=s.i:=A8
   refine .inr ⟨rfl,?_⟩;rw [El A0];rfl)
def aS8:List LV->T LV
 | [.xl (.sl (.int aw)) ds,.v (Y J sz)]=> .req ((M ds<=5000/\Hv ds)/\5<=sz/\sz<=100000) (.ok<|JK (sz-5) ds)
 |_=> .no
def aaV:=vm (S:=aS8) func200 aRB kN (L:=(λi=>if i=3 then S8.lp else Al i)) (λb hb=>by
 rw [show BD _=[aHc] by kernel_rfl] at hb
 simp only [B7,Bt,Bu] at hb;subst hb;exact avU) (λargs lv h=>by
 unfold aS8 at h;split at h
 ·rename_i ds sz
  refine Aq (letI a:=(M ds:Int);.req (S8.q (⟨X,(AA<|sz-5),ds,a,0⟩:Lu))<|.br (Bs (aQz (⟨X,(AA<|sz-5),ds,a,0⟩:Lu))<|.ret) (.ok (aOI (⟨X,(AA<|sz-5),ds,a,0⟩:Lu)).r)<|.ok U) ?_;obtain ⟨⟨⟨h0,h1⟩,h2,h3⟩,rfl⟩:=h;rw [AJ (x:=sz-5)]
  have hE:mY ⟨X,sz-5,ds,(M ds:Int),0⟩:=⟨rfl,aNA,rfl,h1,by show 0<=sz-5;omega,by show sz-5<=100000;omega⟩
  have q:=agd _ hE
  refine ⟨⟨hE,rfl,rfl⟩,?_⟩
  have e:JK (sz-5) (ds.drop (0:Int).toNat)=JK (sz-5) ds:=rfl
  rw [<-e];rcases q with ⟨q1,q2,q3⟩ |⟨q1,q2⟩<;>rw [q1]
  ·refine ⟨λ_=>?_,λhc=>by cases hc⟩
   rw [q2];exact B0 (λz=>LV.v<|.bool z) q3.symm
  ·exact ⟨λhc=>(by cases hc),λ_=>B0 (λz=>LV.v<|.bool z) q2.symm⟩
 ·cases h)
structure Nr where
 n:Int
def Uc (s:Nr):List LV:=[.v<|Y ax s.n]
def Yi (s:Nr):List AB:=[]
structure YE where
 l:List Int
def abu (s:YE):LV:=.os 0 1 0<|M s.l
def acP (s:YE):List AB:=[bV 5 (.int aw) s.l]
def vX (s:Nr):T YE:=letI a:=IntKind.u8.wrap<|s.n.fdiv<|2^24;letI b:=IntKind.u8.wrap<|s.n.fdiv<|2^16;letI c:=IntKind.u8.wrap<|s.n.fdiv<|2^8;.re 4 [a,b,c,IntKind.u8.wrap s.n]<|.ok<|⟨[a,b,c,IntKind.u8.wrap s.n]⟩
def aAq (s:Nr):Prop:=True
def aTh (s:Nr):YE:=⟨Cp s.n⟩
def UK:Cr Nr YE:=⟨Uc,Yi,λv b=>⟨AK v 0⟩,aAq,[],[],abu,acP,aTh⟩
abbrev aiR (s:Nr):Prop:=aAq s/\Uc s=Uc s/\Yi s=Yi s
def fS:List Bd:=[aJg]
def aSz:DG:=Dp prog AV (fS) 20 2
def aoG:EF prog AV aSz:=Hg<|gk fS
def ayt (s:Nr):((ER prog AV fS aSz Fp).k 203 (Uc s)<|Yi s).bind (λq=>G8 (M<|Yi s) [0] [] .normal (q.1::Uc s) q.2)=(vX s).mp (λs2=>⟨.normal,M (Uc s)+1,[abu s2],acP s2,U⟩):=AU
def aw4 (s:Nr) (hE:aAq s):(vX s).all (λq=>q=aTh s):=by
 exact ⟨A9,rfl⟩
def asB:DV prog AV 203 UK.m:=Cr.sound (D:=UK) (t:=vX) (gk fS) aoG Q9 ayt λs hE=>⟨aw4 s hE⟩
def uf:DV prog AV 203 (QU λa=>UK.m a []):=aFD asB
def afB (m:List Fl) (z:Fl):BU (m++[z])=z:=by
 unfold BU GB
 simp
theorem pe {f:Nat->Fl}{n:Nat}(h:1<=n) (al:List Fl):BU (al++((au<|n+1).map f).drop 1)=f n:=by
 rw [SX,Jx,E9,L1,aKS A8,<-Cl];exact afB _ _
def qY {se:Int}{a b:List Int}(h:M a=M b):HQ se a=HQ se b:=by unfold HQ;rw [h]
theorem ajL {se:Int}{fl:List Int}(h:FR se fl=U) {i:Int}(h0:0<=i) (h1:i<(M fl:Int).tdiv se):0<=i*se/\(i+1)*se=i*se+se/\i*se+se<=(M fl:Int):=by
 obtain ⟨hf,h2,h3,h4,h5⟩:=MQ.1 h
 have hm:=(NS.1 hf).2.2.2.2
 have e:=xC (M fl:Int) se
 have h6:(i+1)*se=i*se+se:=A8
 have h7:(i+1)*se<=(M fl:Int).tdiv se*se:=MD A0 A0
 rw [Int.mul_comm] at e;exact ⟨Ib h0 A0,h6,A0⟩
structure O7 where
 r:Bool
 l:List Int
 (n i qT aBp:Int)
 afO:List (List Int)
 uj:Int
 pO:Bool
 (er se:Int)
 fl:List Int
 al:List Fl
def vv (s:O7):T (Rd O7):=
 .br (an<|s.i<s.n) (.ix s.i (M s.l)<|.br ((gi s.l s.i) !=255) (.rl s.al<|.so (.ret) {s with r:=U})<|.rl s.al<|.nx {s with i:=AA<|s.i+1}) (.rl s.al<|.so (.exit 0) s)
def jV (s:O7):Prop:=s.i=0/\s.n<=4096/\s.n=(M s.l:Int)
def j5 (s:O7):Prop:=0<=s.i/\s.i<=s.n/\s.n<=4096/\s.n=(M s.l:Int)
def tL (s:O7):Nat:=(s.n-s.i).toNat
def abW (x:Ex) (s s':O7):Prop:=True
def ajP:∀s,jV s->j5 s:=by
 exact kf
theorem avg:Da j5 tL abW vv:=by
 intro s hI;obtain ⟨h0,h1,h2,h3⟩:=hI;refine AH (λc1=>AH (λc2=>trivial) λc2=>?_) λc1=>trivial
 have c1:s.i<s.n:=A8
 rw [AJ (x:=s.i+1)];exact ⟨⟨A8,A8,h2,h3⟩,by simp only [tL];omega⟩
def Yv:AT O7:=⟨4,26,[3,17,18,19],[],λs=>[s.r,.xl (.int aw) s.l,s.n,s.i],λs=>[⟨[s.qT,.v<|Y ax s.aBp,.xl (.sl<|.int aw) s.afO,s.uj,s.pO],119,.cl,X⟩,⟨[.os 3 2 0<|M s.al,s.er],324,.cl,X⟩,⟨[s.se,.xl (.int aw) s.fl],36,.cl,X⟩,bV 36 Bj s.al],λv b=>⟨Ec v 0,B5 (.int aw) v 1,AK v 2,AK v 3,Ak b 0 0,Ak b 0 1,AF (.sl<|.int aw) b 0 2,Ak b 0 3,Kk b 0 4,Ak b 1 1,Ak b 2 0,AF (.int aw) b 2 1,Ab Bj b 3⟩,vv,λs r=> {s with r:=r.r,i:=r.i},λs=>s,λ_ s=>s,[.ret,.exit 0],jV,j5,tL⟩
abbrev pW:=Yv.run
abbrev dV:=Yv.Av
def Wk:List Bd:=[dv,uy,aaV,fm,aac,cX]
def azp:Ay:=I2 Wk (l0 Wk) [⟨197,UH.m,fZ⟩,⟨203,QU λa=>UK.m a [],uf⟩]
def awq:Rq j5 vv:=by
 exact aLK
def aPj:Yv.Ok:={}
def aPC:Yv.Pf (abW):=⟨ajP,λs h=>rfl,avg,awq⟩
def pt:=s2 (b:=bN f201 0) aPj aPC Wk azp
theorem apr:Rs jV dV pW (λs:O7=>(s.l.drop s.i.toNat).all λb=>b==255) (λx s' (v:Bool)=>(x=.ret/\s'.r=U/\v=X)\/(x=.exit 0/\v=U)):=DJ aPj aPC (λs hI=>by
  obtain ⟨h0,h1,h2,h3⟩:=hI;refine AH (λc1=>AH (λc2=>?_) λc2=>?_) λc1=>?_
  ·have c1:s.i<s.n:=A8
   refine .inl ⟨rfl,rfl,?_⟩
   have:(gi s.l s.i==255)=false:=A8
   rw [(gi_step h0 A0).1,Ic,this];rfl
  ·have c1:s.i<s.n:=A8
   have:(gi s.l s.i==255)=true:=A8
   rw [AJ (x:=s.i+1)]
   show List.all _ _=List.all _ _
   rw [(gi_step h0 A0).1,Ic,this,EA]
  ·have c1:s.n<=s.i:=A8
   refine .inr ⟨rfl,?_⟩;rw [El A0];rfl)
structure Gm where
 keep:List (List Int)
 (half other Df i Wd Vj:Int)
 nV:List (List Int)
 U3:Int
 Is:Bool
 (er se:Int)
 fl:List Int
 al:List Fl
def aHW:=bN f169 0
def Ik (s:Gm):O7:=(⟨X,(s.fl.drop (AA<|s.i*s.se).toNat).take<|(AA<|(AA<|s.i+1)*s.se).toNat-(AA<|s.i*s.se).toNat,(M ((s.fl.drop (AA<|s.i*s.se).toNat).take<|(AA<|(AA<|s.i+1)*s.se).toNat-(AA<|s.i*s.se).toNat):Int),0,s.Wd,s.Vj,s.nV,s.U3,s.Is,s.er,s.se,s.fl,s.al⟩:O7)
def GC (s:Gm):Int:=(AA<|(AA<|s.other+1)*s.Df)
def reI (s:Gm):Int:=(AA<|((M s.al:Nat):Int)-1)
def Bh (s:Gm):Fl:=(s.al.getD (reI s).toNat<|Ty.dflt Bj)
def Uw (s:Gm):T (Rd Gm):=
 .br (an<|s.i<(GC s)) (.req (0<=(AA<|s.i*s.se)/\(AA<|s.i*s.se)<=(AA<|(AA<|s.i+1)*s.se)/\(AA<|(AA<|s.i+1)*s.se)<=(M s.fl:Int))<|.rl s.al<|.req (Yv.q<|Ik s)<|.br (Bs (dV<|Ik s)<|.ret) (.br (pW<|Ik s).r (.ik (reI s) (M s.al)<|.br (!((I3 (Bh s).1 (Bh s).2 s.i)==(0:Int))) (.rl s.al<|.nx {s with i:=AA<|s.i+1,er:=I3 (Bh s).1 (Bh s).2 s.i})<|.req (0<=(1:Int)/\(1:Int)<=(M (Du (Bh s).1 (Bh s).2 s.i):Int)/\(M (Du (Bh s).1 (Bh s).2 s.i):Int)<=(M (Du (Bh s).1 (Bh s).2 s.i):Int))<|.rb (M s.al) (M<|((Du (Bh s).1 (Bh s).2 s.i).drop (1:Int).toNat).take<|(M (Du (Bh s).1 (Bh s).2 s.i):Int).toNat-(1:Int).toNat) 32<|.re (M s.al+M (((Du (Bh s).1 (Bh s).2 s.i).drop (1:Int).toNat).take<|(M (Du (Bh s).1 (Bh s).2 s.i):Int).toNat-(1:Int).toNat)) (s.al++(((Du (Bh s).1 (Bh s).2 s.i).drop (1:Int).toNat).take<|(M (Du (Bh s).1 (Bh s).2 s.i):Int).toNat-(1:Int).toNat))<|.nx {s with i:=AA<|s.i+1,al:=s.al++(((Du (Bh s).1 (Bh s).2 s.i).drop (1:Int).toNat).take<|(M (Du (Bh s).1 (Bh s).2 s.i):Int).toNat-(1:Int).toNat)})<|.rl s.al<|.nx {s with i:=AA<|s.i+1})<|.br X (.ik (reI s) (M s.al)<|.br (!((I3 (Bh s).1 (Bh s).2 s.i)==(0:Int))) (.rl s.al<|.nx {s with i:=AA<|s.i+1,er:=I3 (Bh s).1 (Bh s).2 s.i})<|.req (0<=(1:Int)/\(1:Int)<=(M (Du (Bh s).1 (Bh s).2 s.i):Int)/\(M (Du (Bh s).1 (Bh s).2 s.i):Int)<=(M (Du (Bh s).1 (Bh s).2 s.i):Int))<|.rb (M s.al) (M<|((Du (Bh s).1 (Bh s).2 s.i).drop (1:Int).toNat).take<|(M (Du (Bh s).1 (Bh s).2 s.i):Int).toNat-(1:Int).toNat) 32<|.re (M s.al+M (((Du (Bh s).1 (Bh s).2 s.i).drop (1:Int).toNat).take<|(M (Du (Bh s).1 (Bh s).2 s.i):Int).toNat-(1:Int).toNat)) (s.al++(((Du (Bh s).1 (Bh s).2 s.i).drop (1:Int).toNat).take<|(M (Du (Bh s).1 (Bh s).2 s.i):Int).toNat-(1:Int).toNat))<|.nx {s with i:=AA<|s.i+1,al:=s.al++(((Du (Bh s).1 (Bh s).2 s.i).drop (1:Int).toNat).take<|(M (Du (Bh s).1 (Bh s).2 s.i):Int).toNat-(1:Int).toNat)})<|.rl s.al<|.nx {s with i:=AA<|s.i+1}) (.rl s.al<|.so (.exit 0) s)
def KR (s:Gm):Prop:=FR s.se s.fl=U/\(s.other=0\/s.other=1)/\s.Df*2=(M s.fl:Int).tdiv s.se
def bR (s:Gm):Prop:=s.i=s.other*s.Df/\KR s/\s.er=0/\M s.al=1/\(BU s.al).1=s.se/\M (BU s.al).2=M s.fl
def N3 (s:Gm):Prop:=(s.other*s.Df<=s.i/\s.i<=(s.other+1)*s.Df)/\KR s/\s.er=0/\(s.al≠ []/\(M s.al:Int)<=1+600*s.i)/\(BU s.al).1=s.se/\M (BU s.al).2=M s.fl
def XI (s:Gm):Nat:=(GC s-s.i).toNat
def wW (x:Ex) (s s':Gm):Prop:=x=.exit 0/\s'.er=0/\(s'.al≠ []/\(M s'.al:Int)<=3000000)/\(BU s'.al).1=s'.se/\M (BU s'.al).2=M s'.fl
theorem am8:∀s,bR s->N3 s:=by
 rintro s ⟨h0,⟨h1,h2,h3⟩,h4,h5,h6,h7⟩
 have hj:=MQ.1 h1
 have hs0:0<=s.Df:=by have:0<=(M s.fl:Int).tdiv s.se:=(by rw [I9 A0];exact SY A0 A0);omega
 have hz0:(s.other+1)*s.Df=s.other*s.Df+s.Df:=A8
 have ho:0<=s.other*s.Df:=A8
 exact ⟨⟨A0,A0⟩,⟨h1,h2,h3⟩,h4,⟨A8,A0⟩,h6,h7⟩
theorem Un (s:Gm) (hI:N3 s) (c1:an (s.i<GC s)=U):reI s=(M s.al:Int)-1/\Bh s=BU s.al/\AA (s.i*s.se)=s.i*s.se/\AA (AA (s.i+1)*s.se)=s.i*s.se+s.se/\AA (s.i+1)=s.i+1/\
  I3 (BU s.al).1 (BU s.al).2 s.i=0/\Du (BU s.al).1 (BU s.al).2 s.i=Kx (BU s.al).1 (BU s.al).2 s.i/\M (Kx (BU s.al).1 (BU s.al).2 s.i)=s.se.toNat+1/\0<=s.i*s.se/\s.i*s.se+s.se<=(M s.fl:Int)/\1<=s.se/\s.se<=512/\s.i<GC s/\0<=s.i/\s.i<=4096/\M s.fl<=4096/\GC s=(s.other+1)*s.Df:=by
 obtain ⟨h0,⟨h1,h2,h3⟩,h4,h5,h6,h7⟩:=hI
 have hj:=MQ.1 h1
 have hf:=NS.1 hj.1
 have hq:(M s.fl:Int).tdiv s.se<=(M s.fl:Int):=aNF
 have hp:=OT.2 h5.1
 have hz0:(s.other+1)*s.Df=s.other*s.Df+s.Df:=by rw [kW,ZN]
 have ho:s.other*s.Df=0\/s.other*s.Df=s.Df:=by rcases h2 with e|e<;>rw [e]<;>simp
 have hz:GC s=s.other*s.Df+s.Df:=by unfold GC;rw [AJ (x:=s.other+1),hz0];exact AJ
 have c1:s.i<GC s:=Cx c1
 have hi:reI s=(M s.al:Int)-1:=AJ
 have hk:=ajL h1 (i:=s.i) A0 A0
 have hfl:HQ s.se (BU s.al).2=true:=by rw [qY h7];exact hj.1
 have hE:I3 (BU s.al).1 (BU s.al).2 s.i=0:=by unfold I3;rw [h6,hfl,h7,AE A8]
 refine ⟨hi,by unfold Bh BU GB;rw [hi];rfl,AJ,by rw [AJ (x:=s.i+1),hk.2.1];exact AJ,AJ,hE,AD hE,by unfold Kx;rw [h6];simp,A0,A0,A0,A0,c1,A0,A0,A0,A0⟩
def aaC (s:Gm) (hI:N3 s) (c1:an (s.i<GC s)=U):jV (Ik s):=by
 obtain ⟨hi,hy,w1,w2,wi,hE,hR,hl,n1,n2,n3,n4,n5,n6,n7,n8,n9⟩:=Un s hI c1;refine ⟨rfl,?_,rfl⟩
 show ((M (List.take _<|List.drop _ s.fl):Nat):Int)<=4096
 simp only [MC,F7];omega
theorem am7 (s:Gm) (hI:N3 s):(M s.al:Int)<=3000000:=by
 obtain ⟨h0,⟨h1,h2,h3⟩,h4,h5,h6,h7⟩:=hI
 have hj:=MQ.1 h1
 have hq:(M s.fl:Int).tdiv s.se<=(M s.fl:Int):=aNF
 have hz0:(s.other+1)*s.Df=s.other*s.Df+s.Df:=A8
 have ho:s.other*s.Df=0\/s.other*s.Df=s.Df:=A8
 omega
def aJm (s:Gm) (hI:N3 s) (c1:an (s.i<GC s)=U):BU (s.al++(Kx (BU s.al).1 (BU s.al).2 s.i).drop 1)=(s.se,Eg (BU s.al).2 (s.i*s.se) s.se.toNat):=by
 obtain ⟨hi,hy,w1,w2,wi,hE,hR,hl,n1,n2,n3,n4,n5,n6,n7,n8,n9⟩:=Un s hI c1;rw [hI.2.2.2.2.1];exact pe (f:=λk=>(s.se,Eg (BU s.al).2 (s.i*s.se) k)) (n:=s.se.toNat) A0 s.al
theorem aib:Da N3 XI wW Uw:=by
 intro s hI;unfold Uw;dsimp only [T.rd,T.rl,T.rv];refine AH (λc1=>?_) λc1=>⟨rfl,hI.2.2.1,⟨hI.2.2.2.1.1,am7 s hI⟩,hI.2.2.2.2.1,hI.2.2.2.2.2⟩
 have hL:=aJm s hI c1
 obtain ⟨hi,hy,w1,w2,wi,hE,hR,hl,n1,n2,n3,n4,n5,n6,n7,n8,n9⟩:=Un s hI c1;obtain ⟨h0,hK,h4,h5,h6,h7⟩:=hI
 have st:∀al:List Fl,al≠ []->(M al:Int)<=601+600*s.i->(BU al).1=s.se->M (BU al).2=M s.fl->N3 {s with i:=s.i+1,al:=al}/\XI {s with i:=s.i+1,al:=al}<XI s:=λal a1 a2 a3 a4=>
  ⟨⟨⟨AZ,AZ⟩,hK,h4,⟨a1,AZ⟩,a3,a4⟩,by simp only [XI];show (GC s-(s.i+1)).toNat<_;omega⟩
 rw [wi];refine AH (λc2=>AH (λc3=>AH (λc4=>?_) λc4=>?_) λc3=>?_) λc2=>?_
 ·grind
 ·rw [hy,hR,DR (by rw [F7,hl];omega)]
  refine st _ (by simp [h5.1]) A8 ?_ ?_
  ·grind
  ·show M (BU<|s.al++List.drop 1 _).2=_;rw [hL,cG];exact h7
 all_goals exact st s.al h5.1 A0 h6 h7
def Ph:AT Gm:=⟨0,97,[1,6,8,9,10,11,12,13],[],λs=>[.xl (.sl<|.int aw) s.keep,.own 0 0,s.half,.own 1 0,s.other,.fn 201 [.own 2 0],s.Df,s.i],λs=>[⟨[s.Wd,.v<|Y ax s.Vj,.xl (.sl<|.int aw) s.nV,s.U3,s.Is],119,.cl,X⟩,⟨[.os 3 2 0<|M s.al,s.er],324,.cl,X⟩,⟨[s.se,.xl (.int aw) s.fl],36,.cl,X⟩,bV 36 Bj s.al],λv b=>⟨B5 (.sl<|.int aw) v 0,AK v 2,AK v 4,AK v 6,AK v 7,Ak b 0 0,Ak b 0 1,AF (.sl<|.int aw) b 0 2,Ak b 0 3,Kk b 0 4,Ak b 1 1,Ak b 2 0,AF (.int aw) b 2 1,Ab Bj b 3⟩,Uw,λs r=> {r with keep:=s.keep,half:=s.half,other:=s.other,Df:=s.Df,Wd:=s.Wd,Vj:=s.Vj,nV:=s.nV,U3:=s.U3,Is:=s.Is,se:=s.se,fl:=s.fl},λs=>s,λ_ s=>s,[.exit 0],bR,N3,XI⟩
abbrev En:=Ph.run
abbrev aRH:=Ph.Av
def ait:Rq N3 Uw:=by
 intro s hI;refine ⟨λc1=>⟨?_,A9,?_,λc2=>⟨λc3=>⟨?_,?_,λc4=>⟨A9,ak⟩,λc4=>⟨?_,?_,?_,ak⟩⟩,λc3=>⟨A9,ak⟩⟩,λc2=>⟨λc5=>⟨?_,?_,λc6=>⟨A9,ak⟩,λc6=>⟨?_,?_,?_,ak⟩⟩,λc5=>⟨A9,ak⟩⟩⟩,λc1=>⟨A9,ak⟩⟩
 ·(have hI':=hI.2.2.2.1;have hp:=OT.2 hI'.1;obtain ⟨hi,hy,w1,w2,wi,hE,hR,hl,n1,n2,n3,n4,n5,n6,n7,n8,n9⟩:=Un s hI c1;(first|(rw [w1,w2];omega) |(rw [hi];omega) |(rw [hy,hR,hl];omega) |(rw [hy,hR,DR AI,F7,hl];omega) |(simp only [BF,FA])))
 ·exact ⟨aaC s hI c1,rfl,rfl⟩
 iterate 10 · (have hI':=hI.2.2.2.1;have hp:=OT.2 hI'.1;obtain ⟨hi,hy,w1,w2,wi,hE,hR,hl,n1,n2,n3,n4,n5,n6,n7,n8,n9⟩:=Un s hI c1;(first|(rw [w1,w2];omega) |(rw [hi];omega) |(rw [hy,hR,hl];omega) |(rw [hy,hR,DR AI,F7,hl];omega) |(simp only [BF,FA])))
def azo:Ay:=I2 Wk (la 2 func201 pt<|l0 Wk) [⟨197,UH.m,fZ⟩,⟨203,QU λa=>UK.m a [],uf⟩]
def zP:Ph.Ok:={}
def zM:Ph.Pf (wW):=⟨am8,λs h=>rfl,aib,ait⟩
def avO:SA 0 aHW Ph:=s1 zP zM Wk azo
def axu:Fi bR N3 wW aRH En:=AT.fin zP zM
theorem axt:Rs bR aRH En (λs:Gm=>Fe s.se s.fl s.i (GC s-s.i).toNat (s.al,(BU s.al).2)) (λx s' (v:List Fl×List Int)=>x=.exit 0/\(s'.al,(BU s'.al).2)=v):=DJ zP zM (λs hI=>by
  show DK _ _ ((Uw s).rd s)
  unfold Uw;dsimp only [T.rd,T.rl];refine AH (λc1=>?_) λc1=>?_
  ·have hL:=aJm s hI c1
   have q:(dV (Ik s)=.ret/\(pW<|Ik s).r=U/\(((Ik s)).l.drop ((Ik s)).i.toNat).all (λb=>b==255)=X)\/(dV (Ik s)=.exit 0/\(((Ik s)).l.drop ((Ik s)).i.toNat).all (λb=>b==255)=U):=apr _<|aaC s hI c1
   obtain ⟨hi,hy,w1,w2,wi,hE,hR,hl,n1,n2,n3,n4,n5,n6,n7,n8,n9⟩:=Un s hI c1
   have e:((Ik s)).l.drop ((Ik s)).i.toNat=(s.fl.drop (s.i*s.se).toNat).take s.se.toNat:=by
    show List.drop 0 (List.take _<|List.drop _ s.fl)=_
    grind
   have hw:isW s.se s.fl s.i=!((((Ik s)).l.drop ((Ik s)).i.toNat).all λb=>b==255):=by unfold isW;rw [e]
   have hn:(GC s-s.i).toNat=(GC s-(s.i+1)).toNat+1:=A0
   have h6:=hI.2.2.2.2.1
   rw [hn,wi];simp only [Fe];refine AH (λc2=>AH (λc3=>AH (λc4=>?_) λc4=>?_) λc3=>?_) λc2=>?_
   ·grind
   ·rcases q with ⟨_,_,q3⟩ |⟨q1,_⟩
    ·rw [hy,hR,DR AI,hw,q3]
     show Fe s.se s.fl (s.i+1) (GC s-(s.i+1)).toNat (s.al++List.drop 1 _,(BU<|s.al++List.drop 1 _).2)=_
     rw [hL,h6];rfl
    ·rw [WD c2] at q1;cases q1
   ·rcases q with ⟨_,q2,_⟩ |⟨q1,_⟩
    ·rw [q2] at c3;cases c3
    ·rw [WD c2] at q1;cases q1
   ·rcases q with ⟨q1,_,_⟩ |⟨_,q2⟩
    ·rw [q1] at c2;simp [Bs] at c2
    ·rw [hw,q2]
     rfl
  ·have c1:GC s<=s.i:=AX
   rw [show (GC s-s.i).toNat=0 by omega]
   exact ⟨rfl,rfl⟩)
structure N1 where
 (half other:Int)
 l:List (List Int)
 (n i er:Int)
 bytes:List Int
 al:List Fl
def aHX:=bN f169 1
def aBM (s:N1):T (Rd N1):=
 .br (an<|s.i<s.n) (.ix s.i (M s.l)<|.req (M (gx (e:=.sl<|.int aw) s.l s.i)<=70000)<|.rb (M s.bytes) (M<|Br<|gx (e:=.sl<|.int aw) s.l s.i) 1<|.re (M s.bytes+M (Br<|gx (e:=.sl<|.int aw) s.l s.i)) (s.bytes++(Br<|gx (e:=.sl<|.int aw) s.l s.i))<|.rl s.al<|.nx {s with i:=AA<|s.i+1,bytes:=s.bytes++(Br<|gx (e:=.sl<|.int aw) s.l s.i)}) (.rl s.bytes<|.rl s.al<|.so (.exit 2) s)
def mM (s:N1):Prop:=s.i=0/\s.n<=5000/\s.n=(M s.l:Int)/\Hv s.l/\(M s.bytes:Int)<=4+70100*s.i
def mS (s:N1):Prop:=0<=s.i/\s.i<=s.n/\s.n<=5000/\s.n=(M s.l:Int)/\Hv s.l/\(M s.bytes:Int)<=4+70100*s.i
def ze (s:N1):Nat:=(s.n-s.i).toNat
def aKM (x:Ex) (s s':N1):Prop:=True
def am9:∀s,mM s->mS s:=by
 exact Zc
theorem aik:Da mS ze aKM aBM:=by
 intro s hI;obtain ⟨h0,h1,h2,h3,h4,h5⟩:=hI;refine AH (λc1=>?_) λc1=>trivial
 ·have c1:s.i<s.n:=A8
  have hk:=WQ h4 h0 A0
  have hp:=MM<|gx (e:=.sl<|.int aw) s.l s.i
  rw [AJ (x:=s.i+1)];exact ⟨⟨A8,A8,h2,h3,h4,A8⟩,by simp only [ze];omega⟩
def Pj:AT N1:=⟨0,97,[8,9,10,14,69,70,71],[],λs=>[s.half,.own 0 0,s.other,.os 1 1 0<|M s.bytes,.xl (.sl<|.int aw) s.l,s.n,s.i],λs=>[⟨[.os 2 2 0<|M s.al,s.er],324,.cl,X⟩,bV 5 (.int aw) s.bytes,bV 36 Bj s.al],λv b=>⟨AK v 0,AK v 2,B5 (.sl<|.int aw) v 4,AK v 5,AK v 6,Ak b 0 1,Ab (.int aw) b 1,Ab Bj b 2⟩,aBM,λs r=> {s with i:=r.i,bytes:=r.bytes},λs=>s,λ_ s=>s,[.exit 2],mM,mS,ze⟩
abbrev Nc:=Pj.run
abbrev agj:=Pj.Av
theorem aiu:Rq mS aBM:=by
 intro s hI;refine ⟨λc1=>⟨?_,?_,?_,?_,A9,ak⟩,λc1=>⟨A9,A9,ak⟩⟩
 all_goals ((obtain ⟨h0,h1,h2,h3,h4,h5⟩:=hI;have c1:s.i<s.n:=A8;have hk:=WQ h4 h0 A0;have hp:=MM<|gx (e:=.sl<|.int aw) s.l s.i;(first|omega|(simp only [CP,BF];omega) |simp only [CP,BF,FA])))
def X8:List Bd:=[dv,uy,aaV,fm,aac,cX]
def uX:Ay:=I2 X8 (la 2 func201 pt<|l0 X8) [⟨197,UH.m,fZ⟩,⟨203,QU λa=>UK.m a [],uf⟩]
def abR:Pj.Ok:={}
def aTo:Pj.Pf (aKM):=⟨am9,λs h=>rfl,aik,aiu⟩
def avP:SA 0 aHX Pj:=s1 abR aTo X8 uX
theorem axv:Rs mM agj Nc (λs:N1=>s.bytes++BO (s.l.drop s.i.toNat)) (λx s' (v:List Int)=>x=.exit 2/\s'.bytes=v):=DJ abR aTo (λs hI=>by
  obtain ⟨h0,h1,h2,h3,h4,h5⟩:=hI;refine AH (λc1=>?_) λc1=>?_
  ·have c1:s.i<s.n:=A8
   rw [AJ (x:=s.i+1)]
   show _++_++_=_++_
   rw [WG h0 A0];simp only [BO,k9,Cl,CP]
  ·have c1:s.n<=s.i:=A8
   refine ⟨rfl,?_⟩;rw [El A0]
   simp [BO])
def aRy:V2:=λi=>if i=21 then ah ([8,9,10,14],[.pb 14<|.int aw]) else if i=22 then ah ([8,9,10],[]) else aj
def aSU:List LV->T LV
 | [.agg [.v (Y J se),.xl (.int aw) fl],.xl (.sl (.int aw)) ds]=> .req (BI fl/\M ds<=5000/\Hv ds) (.ok<|.AO [.xl Bj<|Ft se fl ds,Fu se fl ds])
 |_=> .no
theorem ajM {se:Int}{fl:List Int}(h:FR se fl=U):letI a:=((M fl / 2:Nat):Int);a.tdiv se*2=(M fl:Int).tdiv se/\0<=a.tdiv se/\a.tdiv se<=2048:=by
 obtain ⟨hf,h2,h3,h4,h5⟩:=MQ.1 h
 have e:=xC (M fl:Int) se
 rw [(NS.1 hf).2.2.2.2,Int.add_zero] at e
 have e2:=xC ((M fl:Int).tdiv se) 2
 have e3:((M fl / 2:Nat):Int)=se*((M fl:Int).tdiv se).tdiv 2:=by
  have:se*(M fl:Int).tdiv se=2*(se*((M fl:Int).tdiv se).tdiv 2):=A8
  omega
 have e4:((M fl / 2:Nat):Int).tdiv se=((M fl:Int).tdiv se).tdiv 2:=by rw [e3];exact Int.mul_tdiv_cancel_left _ A0
 have hq:0<=((M fl / 2:Nat):Int).tdiv se/\((M fl / 2:Nat):Int).tdiv se<=((M fl / 2:Nat):Int):=by
  rw [I9 A0];exact ⟨SY A0 A0,V5 _ A0⟩
 omega
def axk (l:List Int):0<=Gq l/\Gq l<4294967296:=by
 unfold Gq nm4 DM;rw [TA];omega
def aRx (fl:List Int):As fl=0\/As fl=1:=aN9
def FD (se:Int) (fl:List Int) (ds:List<|List Int):Gm:=(⟨ds,AA<|(M fl:Int).tdiv 2,AA<|1-(EU se fl),AA<|(AA<|(M fl:Int).tdiv 2).tdiv se,AA<|(AA<|1-(EU se fl))*(AA<|(AA<|(M fl:Int).tdiv 2).tdiv se),EU se fl,IK se fl,Ep se fl,H6 se fl,Kc se fl,0,se,fl,[(se,((([]:List Int)++fl).drop 0).take<|0+M fl)]⟩:Gm)
def MV (se:Int) (fl:List Int) (ds:List<|List Int):N1:=(⟨AA<|(M fl:Int).tdiv 2,AA<|1-(EU se fl),ds,(M ds:Int),0,(En<|FD se fl ds).er,Cp<|IntKind.u32.wrap<|(IK se fl)+1,(En<|FD se fl ds).al⟩:N1)
def amu (se:Int) (fl:List Int) (ds:List<|List Int):Gf:=(⟨AA<|(AA<|(AA<|1-(EU se fl))*(AA<|(M fl:Int).tdiv 2))+1,((Nc<|MV se fl ds).bytes.drop 0).take<|M (Nc<|MV se fl ds).bytes,(En<|FD se fl ds).er,(En<|FD se fl ds).al⟩:Gf)
def ams (se:Int) (fl:List Int) (ds:List<|List Int):Gf:=(⟨AA<|(AA<|1-(EU se fl))*(AA<|(M fl:Int).tdiv 2),[(80:Int)],JC (En<|FD se fl ds).al (En<|FD se fl ds).er (AA<|(AA<|(AA<|1-(EU se fl))*(AA<|(M fl:Int).tdiv 2))+1)<|((Nc<|MV se fl ds).bytes.drop 0).take<|M (Nc<|MV se fl ds).bytes,Kq (En<|FD se fl ds).al (AA<|(AA<|(AA<|1-(EU se fl))*(AA<|(M fl:Int).tdiv 2))+1)<|((Nc<|MV se fl ds).bytes.drop 0).take<|M (Nc<|MV se fl ds).bytes⟩:Gf)
def rwX (se:Int) (fl:List Int) (ds:List<|List Int):Int:=(AA<|(AA<|1-(EU se fl))*(AA<|(M fl:Int).tdiv 2))
def rwY (se:Int) (fl:List Int) (ds:List<|List Int):List Int:=(((Nc<|MV se fl ds).bytes.drop 0).take<|M (Nc<|MV se fl ds).bytes)
def N5 (se:Int) (fl:List Int) (ds:List<|List Int):List Fl:=(Kq (En<|FD se fl ds).al (AA<|(rwX se fl ds)+1)<|rwY se fl ds)
def rwW (se:Int) (fl:List Int) (ds:List<|List Int):Int:=(JC (En<|FD se fl ds).al (En<|FD se fl ds).er (AA<|(rwX se fl ds)+1)<|rwY se fl ds)
def rwA (se:Int) (fl:List Int) (ds:List<|List Int):List Fl:=(Kq (N5 se fl ds) (rwX se fl ds)<|[(80:Int)])
def axI (se:Int) (fl:List Int) (ds:List<|List Int):letI b:=(AA<|(M fl:Int).tdiv 2);letI c:=FD se fl ds;letI d:=IntKind.u32.wrap<|(IK se fl)+1;letI e:=rwA se fl ds;letI f:=N5 se fl ds;letI a:=(JC f (rwW se fl ds) (rwX se fl ds)<|[(80:Int)]);iA prog AV (X8) uX (λi=>if i=11 then Ph.lp else if i=17 then Pj.lp else Al i) aRy f169 [.agg [se,.xl (.int aw) fl],.xl (.sl<|.int aw) ds]=.req (BI fl) (.br ((Bo se fl) !=0) (.ok<|.AO [.xl Bj ([]:List Fl),Bo se fl])<|.req ((2:Int)≠0)<|.req ((M ds<=5000/\Hv ds)/\5<=b/\b<=100000)<|.br ((!(JK (b-5) ds)) ||((IK se fl)==4294967295)) (.ok<|.AO [.xl Bj ([]:List Fl),(10:Int)])<|.ra 0 (M ([]:List Int)) (0+M fl) 1<|.req (0+(0+M fl)<=M (([]:List Int)++fl))<|.rv (.v<|Y J<|EU se fl)<|.req (se≠0)<|.re 1 [(se,((([]:List Int)++fl).drop 0).take<|0+M fl)]<|.req (Ph.q c)<|.req (aiR (⟨d⟩:Nr))<|.rl (Cp d)<|.rl (En c).al<|.req (Pj.q<|MV se fl ds)<|.rz (Nc<|MV se fl ds).bytes<|.rl (En c).al<|.rl (En c).al<|.req (fO<|amu se fl ds)<|.rl f<|.rl f<|.req (fO<|ams se fl ds)<|.br (!(a==(0:Int))) (.ok<|.AO [.xl Bj ([]:List Fl),a])<|.rz e<|.ok<|.AO [.xl Bj<|(e.drop 0).take<|M e,(0:Int)]):=AU
theorem aaQ:VV 169 (uS f169 aSU):=aCs (cs:=aRy) func169 rfl (gk X8) uX.h (L:=(λi=>if i=11 then Ph.lp else if i=17 then Pj.lp else Al i)) (λb hb=>by
 rw [show BD _=[aHW,aHX] by kernel_rfl] at hb
 simp only [B7,Bt,Bu] at hb;rcases hb with rfl|rfl
 ·exact avO
 ·exact avP) (λargs lv h=>by
 unfold aSU at h;split at h
 ·simp only [canL,canX]
  rw [axI];rename_i se fl ds;obtain ⟨⟨hb,hn,hk⟩,rfl⟩:=h
  have bad:∀e:Int,e≠0->Fu se fl ds=e->LV.AO [.xl Bj ([]:List Fl),.v<|Y J e]=LV.AO [.xl Bj<|Ft se fl ds,.v<|Y J<|Fu se fl ds]:=λe h0 h1=>by unfold Ft;rw [h1,AE h0]
  refine ⟨hb,λc1=>?_,λc1=>?_⟩
  ·have c1:Bo se fl≠0:=AX
   exact bad _ c1 (by unfold Fu;rw [AD c1])
  have hE:Bo se fl=0:=AX
  have hj:FR se fl=true:=by
   cases e:FR se fl
   ·unfold Bo at hE;rw [AD e] at hE;cases hE
   ·rfl
  have hq:=MQ.1 hj
  have hh:AA ((M fl:Int).tdiv 2)=((M fl / 2:Nat):Int):=by
   exact aM3
  have hA:EU se fl=As fl:=aO3
  have hG:IK se fl=J6 fl (As fl):=by unfold IK;rw [AD hE]
  have hc:=aRx fl
  have w0:AA (1-As fl)=1-As fl:=AJ
  have hF:JK (((M fl / 2:Nat):Int)-5) ds=rwF fl ds:=by
   rw [aQs _ _ A0];unfold rwF
   congr 1
   rw [decide_eq_decide];omega
  refine ⟨Aa,⟨⟨hn,hk⟩,by rw [hh];omega,by rw [hh];omega⟩,λc2=>?_,λc2=>?_⟩<;>rw [hh,hF,hG] at c2
  ·exact bad 10 Aa (by unfold Fu;rw [AE yn,AD c2])
  have hR:Fu se fl ds=0:=by unfold Fu;rw [AE yn,AE aC]
  simp only [GJ,I5,CN,ne_eq] at c2
  have hsum:5+M (BO ds)<=M fl / 2:=by
   have:=c2.1
   unfold rwF at this;simp only [AY,Ac] at this;rw [pF];exact this.1
  obtain ⟨k1,k2,k3⟩:=ajM hj
  have hm:∀x:Int,0<=x->x<=2048->AA ((1-As fl)*x)=(1-As fl)*x/\0<=(1-As fl)*x/\(1-As fl)*x<=x:=λx x0 x1=>by
   have:(1-As fl)*x=0\/(1-As fl)*x=x:=aN5
   exact ⟨AJ,A0,A0⟩
  have hst:FD se fl ds=⟨ds,((M fl / 2:Nat):Int),1-As fl,((M fl / 2:Nat):Int).tdiv se,(1-As fl)*((M fl / 2:Nat):Int).tdiv se,As fl,IK se fl,Ep se fl,H6 se fl,Kc se fl,0,se,fl,[(se,fl)]⟩:=by
   unfold FD;rw [hh,hA,w0,AJ (x:=((M fl / 2:Nat):Int).tdiv se),(hm _ k2 k3).1,EB,CP,EM,EN]
  have hE0:bR (FD se fl ds):=by rw [hst];exact ⟨rfl,⟨hj,by show 1-As fl=0\/1-As fl=1;omega,k1⟩,rfl,rfl,rfl,rfl⟩
  obtain ⟨_,_,q1,q2,q3,q4,q5⟩:=axu _ hE0
  have q6:((En<|FD se fl ds).al,(BU (En<|FD se fl ds).al).2)=HP se fl:=by
   have:=(axt _ hE0).2
   rw [this,hst];unfold HP
   have hz:GC ⟨ds,((M fl / 2:Nat):Int),1-As fl,((M fl / 2:Nat):Int).tdiv se,(1-As fl)*((M fl / 2:Nat):Int).tdiv se,As fl,IK se fl,Ep se fl,H6 se fl,Kc se fl,0,se,fl,[(se,fl)]⟩=(1-As fl)*((M fl / 2:Nat):Int).tdiv se+((M fl / 2:Nat):Int).tdiv se:=by
    have:=hm _ k2 k3
    show AA (AA (1-As fl+1)*((M fl / 2:Nat):Int).tdiv se)=_
    rw [AJ (x:=1-As fl+1),kW,ZN];exact AJ
   show Fe se fl _ (GC _-(1-As fl)*((M fl / 2:Nat):Int).tdiv se).toNat _=_
   rw [hz]
   congr 1
   omega
  have r1:(En<|FD se fl ds).se=se/\(En<|FD se fl ds).fl=fl:=by rw [hst];exact ⟨rfl,rfl⟩
  rw [r1.1] at q4;rw [r1.2] at q5
  have q7:(BU (En<|FD se fl ds).al).2=(HP se fl).2:=B0 Prod.snd q6
  have hl:BU (En<|FD se fl ds).al=(se,(HP se fl).2):=Prod.ext q4 q7
  have ha:(En<|FD se fl ds).al=(HP se fl).1:=B0 Prod.fst q6
  have hEb:mM (MV se fl ds):=⟨rfl,aNA,rfl,hk,by show ((4:Nat):Int)<=4+70100*0;decide⟩
  have hY:rwY se fl ds=Ee fl ds:=by
   have q:=(axv _ hEb).2
   have hg:=axk<|((Bl fl<|As fl).drop 1).take 4
   have hw:IntKind.u32.wrap (IK se fl+1)=J6 fl (As fl)+1:=by
    have:=c2.2
    rw [hG,TA];unfold J6 at*;omega
   unfold rwY Ee;rw [CP,EN,q,<-hw];rfl
  have hX:rwX se fl ds=Gu fl:=by unfold rwX Gu;rw [hA,w0,hh];exact (hm _ A0 A0).1
  obtain ⟨_,o1,o2⟩:=hm ((M fl / 2:Nat):Int) A0 A0
  have oO:Gu fl=(1-As fl)*((M fl / 2:Nat):Int):=rfl
  have hX1:AA (rwX se fl ds+1)=Gu fl+1:=by rw [hX];exact AJ
  have hBl:M (Ee fl ds)=4+M (BO ds):=by unfold Ee;rw [BF];rfl
  rw [hl] at q5
  have q5:M (HP se fl).2=M fl:=q5
  have hv:∀b:List Int,M b=M fl->HQ se b=true:=λb e=>by rw [qY e];exact hq.1
  have p1:Eu se (HP se fl).2 (Gu fl+1) (Ee fl ds)=0:=by
   unfold Eu
   grind
  have hV:N5 se fl ds=(HP se fl).1++(Dj se (HP se fl).2 (Gu fl+1)<|Ee fl ds).drop 1:=by
   unfold N5 Kq;rw [hX1,hY,hl,AD p1,ha]
  have hW:rwW se fl ds=0:=by unfold rwW JC;rw [hX1,hY,hl,AD p1];exact q2
  have hlV:BU (N5 se fl ds)=(se,Ks se fl ds):=by
   rw [hV];unfold Dj;exact pe (f:=λk=>(se,DZ (HP se fl).2 (Gu fl+1) (Ee fl ds) k)) (n:=M<|Ee fl ds) A0 _
  have p2:Eu se (Ks se fl ds) (Gu fl) [80]=0:=by
   have:M (Ks se fl ds)=M fl:=by unfold Ks;rw [Sz];exact q5
   unfold Eu
   grind
  have hAA:rwA se fl ds=Ft se fl ds:=by
   unfold rwA Kq Ft;rw [hX,hlV,AD p2,AD hR,hV,Cl]
  have hz:JC (N5 se fl ds) (rwW se fl ds) (rwX se fl ds) [80]=0:=by unfold JC;rw [hX,hlV,AD p2];exact hW
  have hVl:M (N5 se fl ds)<=3100000:=by
   have:=q3.2
   rw [hV,<-ha,BF,F7];unfold Dj;rw [G0,SW,hBl];omega
  refine ⟨⟨Aa,A0,A0⟩,AI,rfl,A0,AI,⟨hE0,rfl,rfl⟩,⟨ak,rfl,rfl⟩,A9,A9,⟨hEb,rfl,rfl⟩,A0,A9,A9,⟨⟨q3.1,by show M (En<|FD se fl ds).al<=4000000;omega,by show M (rwY se fl ds)<=5000;rw [hY,hBl];omega⟩,rfl,rfl⟩,A9,A9,⟨⟨?_,by show M (N5 se fl ds)<=4000000;omega,by show 1<=5000;decide⟩,rfl,rfl⟩,λc=>?_,λ_=>⟨A0,?_⟩⟩
  ·show N5 se fl ds≠ []
   intro hn
   have:BU (N5 se fl ds)=BU []:=by rw [hn]
   rw [hlV] at this
   have:=B0 Prod.fst this
   have:se=0:=this
   omega
  ·rw [hz] at c;cases c
  ·rw [CP,EN,hAA,hR]
   rfl
 ·cases h)
def aSP:List LV->T LV
 | [.agg [.v (Y J se),.xl (.int aw) fl],.xl (.int aw) d]=> .req (BI fl/\M d<=70000/\(Bo se fl=0->M8 fl=U)) (.ok<|.AO [.xl Bj<|HT se fl d,Es se fl d])
 |_=> .no
def aO7 (se:Int) (fl:List Int) (a:Int) (d:List Int):[(se,fl)]++(Dj se fl a d).drop 1=Dj se fl a d:=by
 unfold Dj;rw [List.range_succ_eq_map];rfl
def ayW {fl:List Int}(h:10<=M fl):(Eh fl).2.1<=M fl / 2:=by
 have:=cD fl<|As fl
 have:=uO (b:=Bl fl<|As fl) (n:=M<|Bl fl<|As fl) (f:=5) A0
 unfold Eh;omega
def amr (se:Int) (fl d:List Int):Gf:=(⟨AA<|(AA<|(AA<|(EU se fl)*(AA<|(M fl:Int).tdiv 2))+(H6 se fl))+1,((Br d).drop (1:Int).toNat).take<|(M (Br d):Int).toNat-(1:Int).toNat,0,[(se,((([]:List Int)++fl).drop 0).take<|0+M fl)]⟩:Gf)
def amq (se:Int) (fl d:List Int):Gf:=letI a:=(AA<|(AA<|(EU se fl)*(AA<|(M fl:Int).tdiv 2))+(H6 se fl));letI b:=(((Br d).drop (1:Int).toNat).take<|(M (Br d):Int).toNat-(1:Int).toNat);letI c:=(se,((([]:List Int)++fl).drop 0).take<|0+M fl);(⟨a,((Br d).drop (0:Int).toNat).take<|(1:Int).toNat-(0:Int).toNat,JC ([c]) (0:Int) (AA<|a+1) b,Kq ([c]) (AA<|a+1) b⟩:Gf)
def axP (se:Int) (fl d:List Int):Int:=(AA<|(AA<|(EU se fl)*(AA<|(M fl:Int).tdiv 2))+(H6 se fl))
def axY (se:Int) (fl d:List Int):List Int:=(((Br d).drop (1:Int).toNat).take<|(M (Br d):Int).toNat-(1:Int).toNat)
def axZ (se:Int) (fl d:List Int):List Int:=(((Br d).drop (0:Int).toNat).take<|(1:Int).toNat-(0:Int).toNat)
def axQ (se:Int) (fl d:List Int):List Fl:=([(se,((([]:List Int)++fl).drop 0).take<|0+M fl)])
def M4 (se:Int) (fl d:List Int):List Fl:=(Kq (axQ se fl d) (AA<|(axP se fl d)+1)<|axY se fl d)
def axW (se:Int) (fl d:List Int):Int:=(JC (axQ se fl d) (0:Int) (AA<|(axP se fl d)+1)<|axY se fl d)
def axA (se:Int) (fl d:List Int):List Fl:=(Kq (M4 se fl d) (axP se fl d)<|axZ se fl d)
def fR:List Bd:=[dv,aaQ,uy,fm,cX]
def aRR:Ay:=I2 fR (la 2 func201 pt<|l0 fR) [⟨197,UH.m,fZ⟩]
def ayy (se:Int) (fl d:List Int):letI a:=(M (Br d):Int);letI b:=JC (M4 se fl d) (axW se fl d) (axP se fl d)<|axZ se fl d;letI c:=axA se fl d;iA prog AV (fR) aRR Al aS0 f166 [.agg [se,.xl (.int aw) fl],.xl (.int aw) d]=.req (BI fl) (.br ((Bo se fl) !=0) (.ok<|.AO [.xl Bj ([]:List Fl),Bo se fl])<|.req ((2:Int)≠0)<|.br ((an<|(M d:Int)>65535) ||(an<|(AA<|7+(M d:Int))>(AA<|(AA<|(M fl:Int).tdiv 2)-(H6 se fl)))) (.ok<|.AO [.xl Bj ([]:List Fl),(10:Int)])<|.br (!(Kc se fl)) (.no /-append to xl -/)<|.ra 0 (M ([]:List Int)) (0+M fl) 1<|.req (0+(0+M fl)<=M (([]:List Int)++fl))<|.rv (.v<|Y J<|EU se fl)<|.rv (.v<|Y J<|H6 se fl)<|.req (M d<=70000)<|.re 1 (axQ se fl d)<|.req (0<=(1:Int)/\(1:Int)<=a/\a<=a)<|.rl (axQ se fl d)<|.req (fO<|amr se fl d)<|.rl (M4 se fl d)<|.req (0<=(0:Int)/\(0:Int)<=(1:Int)/\(1:Int)<=a)<|.rl (M4 se fl d)<|.req (fO<|amq se fl d)<|.br (!(b==(0:Int))) (.ok<|.AO [.xl Bj ([]:List Fl),b])<|.rz c<|.ok<|.AO [.xl Bj<|(c.drop 0).take<|M c,(0:Int)]):=AU
theorem aiP:VV 166 (uS f166 aSP):=aCs (cs:=aS0) func166 rfl (gk fR) aRR.h (oh AU) (λargs lv h=>by
 unfold aSP at h;split at h
 ·simp only [canL,canX]
  rw [ayy];rename_i se fl d;obtain ⟨⟨hb,hd,hcl⟩,rfl⟩:=h;refine ⟨hb,λc1=>?_,λc1=>?_⟩
  ·have c1:Bo se fl≠0:=AX
   unfold HT Es;rw [AD c1,AD c1];rfl
  have hE:Bo se fl=0:=AX
  have hj:FR se fl=true:=by
   cases e:FR se fl
   ·unfold Bo at hE;rw [AD e] at hE;cases hE
   ·rfl
  have hq:=MQ.1 hj
  have hh:AA ((M fl:Int).tdiv 2)=((M fl / 2:Nat):Int):=by
   exact aM3
  have hA:EU se fl=As fl:=aO3
  have hN:H6 se fl=((Eh fl).2.1:Int):=by unfold H6;rw [AD hE]
  have hC:Kc se fl=true:=by unfold Kc;rw [AD hE];exact hcl hE
  have hl:=ayW (fl:=fl) A0
  have hc:=aRx fl
  have hF:((an<|(M d:Int)>65535) ||(an<|(AA<|7+(M d:Int))>(AA<|(AA<|(M fl:Int).tdiv 2)-(H6 se fl))))=M5 se fl d:=by
   rw [hh,hN,AJ (x:=7+(M d:Int)),AJ (x:=((M fl / 2:Nat):Int)-((Eh fl).2.1:Int))];unfold M5;rw [Ia];simp only [Ck,Ac];omega
  have e0:¬Bo se fl≠0:=yn
  refine ⟨Aa,λc2=>?_,λc2=>⟨λc3=>?_,λc3=>?_⟩⟩<;>rw [hF] at c2
  ·unfold HT Es
   rw [AE e0,AE e0,AD c2,AD c2];rfl
  ·rw [hC] at c3;cases c3
  have hR:HT se fl d=HS se fl d:=by unfold HT;rw [AE e0,AE aC,AD<|hcl hE]
  have hZ0:Es se fl d=0:=by unfold Es;rw [AE e0,AE aC,AD<|hcl hE]
  unfold M5 at c2;simp only [GJ,Cy] at c2
  have hm:As fl*((M fl / 2:Nat):Int)=0\/As fl*((M fl / 2:Nat):Int)=((M fl / 2:Nat):Int):=aN5
  have hP:axP se fl d=GI fl:=by
   unfold axP GI;rw [hh,hA,hN,AJ (x:=As fl*((M fl / 2:Nat):Int))];exact AJ
  have oP:GI fl=As fl*((M fl / 2:Nat):Int)+((Eh fl).2.1:Int):=rfl
  have hP1:AA (axP se fl d+1)=GI fl+1:=by rw [hP];exact AJ
  have hpl:=MM d
  have hY:axY se fl d=(Br d).drop 1:=by unfold axY;exact DR ym
  have hZ:axZ se fl d=[80]:=rfl
  have hQ:axQ se fl d=[(se,fl)]:=by unfold axQ;rw [EB,CP,EM,EN]
  have hYl:M ((Br d).drop 1)=6+M d:=ym
  have hL0:BU [(se,fl)]=(se,fl):=rfl
  have p1:Eu se fl (GI fl+1) ((Br d).drop 1)=0:=by
   unfold Eu
   grind
  have hV:M4 se fl d=Dj se fl (GI fl+1) ((Br d).drop 1):=by
   unfold M4 Kq;rw [hP1,hY,hQ,hL0,AD p1,aO7]
  have hW:axW se fl d=0:=by unfold axW JC;rw [hP1,hY,hQ,hL0,AD p1]
  have hlV:BU (M4 se fl d)=(se,apB fl d):=by
   rw [hV,<-aO7];exact pe (f:=λk=>(se,DZ fl (GI fl+1) ((Br d).drop 1) k)) (n:=M<|(Br d).drop 1) A0 _
  have hBl:M (apB fl d)=M fl:=Sz _ _ _ _
  have p2:Eu se (apB fl d) (GI fl) [80]=0:=by
   unfold Eu;rw [qY hBl,hq.1,AE (by simp only [Bool.not_true,Ct,Ac];omega),AE (by rw [hBl];show ¬GI fl>(M fl:Int)-((1:Nat):Int);omega)]
  have hAA:axA se fl d=HS se fl d:=by
   unfold axA Kq HS;rw [hP,hZ,hlV,AD p2,hV]
  have hz:JC (M4 se fl d) (axW se fl d) (axP se fl d) (axZ se fl d)=0:=by unfold JC;rw [hP,hZ,hlV,AD p2];exact hW
  have hVl:M (M4 se fl d)=7+M d:=by rw [hV];unfold Dj;rw [G0,SW,hYl];omega
  refine ⟨⟨Aa,A0,A0⟩,AI,rfl,rfl,hd,by rw [hQ];exact A9,⟨A0,A0,A0⟩,A9,⟨⟨by show axQ se fl d≠ [];rw [hQ];simp,by show M (axQ se fl d)<=4000000;rw [hQ];show 1<=4000000;decide,by show M (axY se fl d)<=5000;rw [hY,hYl];omega⟩,rfl,rfl⟩,A9,⟨A0,A0,A0⟩,A9,⟨⟨by show M4 se fl d≠ [];intro hn;rw [hn] at hVl;simp at hVl;omega,by show M (M4 se fl d)<=4000000;omega,by show 1<=5000;decide⟩,rfl,rfl⟩,λc=>?_,λ_=>⟨A0,?_⟩⟩
  ·rw [hz] at c;cases c
  ·rw [CP,EN,hAA,hR,hZ0]
   rfl
 ·cases h)
def aRY:List LV->T LV
 | [.agg [.v (Y J se),.xl (.int aw) fl],.v (.agg ⟨[Y J x1,Y J x2,Y J x3,Y J x4,Y J x5]⟩),.v (Y J t)]=> .req (BI fl/\(Bo se fl=0->M8 fl=U)) (.ok<|.AO [.xl Bj<|Cg se fl (x1,x2,x3,x4,x5) t,EI se fl (x1,x2,x3,x4,x5) t])
 |_=> .no
def azO:List Bd:=[XA,WU,aiP,aaN,ai3,aaQ]
theorem anM {x:Le}:BC [x]=D5 x:=by
 unfold BC;rw [Ia,AY,Dy];refine ⟨λh=>?_,λh=>⟨rfl,λk hk=>?_⟩⟩
 ·have:=h.2 0 AI
  unfold Gn at this;rw [AY] at this;exact this.1
 ·have:k=0:=A8
  subst this;unfold Gn;rw [AY];exact ⟨h,rfl⟩
theorem ab3 {l:List Le}{x:Le}{t:Int}(h:D9 l t=0):M (IP l x t)<=5000/\Hv (IP l x t):=by
 have hk:=aHw h
 unfold IP;rw [AD h];unfold I1;refine ⟨?_,λd hd=>?_⟩
 ·simp only [BF,G0,Bk,Bp]
  grind
 ·rcases Be.1 hd with hd|hd
  ·obtain ⟨y,_,rfl⟩:=Ej.1 hd;rw [KB];omega
  ·rcases Be.1 hd with hd|hd
   ·split at hd
    ·rw [HY.1 hd,KB];omega
    ·cases hd
   ·rw [HY.1 hd,KB];omega
def aaM:=vo (S:=aRY) func123 azO kN (λargs lv h=>by
 unfold aRY at h;split at h
 ·rename_i se fl x1 x2 x3 x4 x5 t
  refine Aq (letI d:=(Az (x1,x2,x3,x4,x5));letI g:=Af se fl;letI i:=BI fl/\M d<=70000/\(Bo se fl=0->M8 fl=U);letI k:=Es se fl d;letI b:=(IP g (x1,x2,x3,x4,x5) t);letI f:=(AA<|(M g:Int)-1);letI j:=BI fl/\M b<=5000/\Hv b;.req (BI fl)<|.br ((CL se fl) !=0) (.ok<|.AO [.xl Bj ([]:List Fl),(CL se fl)])<|.br (!(BC<|[(x1,(x2,(x3,(x4,x5))))])) (.ok<|.AO [.xl Bj ([]:List Fl),(1:Int)])<|.br (an<|t<0) (.ok<|.AO [.xl Bj ([]:List Fl),(1:Int)])<|.br (an<|t>1100000) (.ok<|.AO [.xl Bj ([]:List Fl),(1:Int)])<|.br (an<|(M g:Int)>0) (.ix f (M g)<|.br (an<|x1<=(An g f).1) (.ok<|.AO [.xl Bj ([]:List Fl),(12:Int)])<|.ix f (M g)<|.br (an<|x4<(An g f).2.2.2.1) (.ok<|.AO [.xl Bj ([]:List Fl),(12:Int)])<|.req i<|.br (k !=10) (.ok<|.AO [.xl Bj<|HT se fl d,k])<|.br ((D9 g t) !=0) (.ok<|.AO [.xl Bj ([]:List Fl),(D9 g t)])<|.req j<|.ok<|.AO [.xl Bj<|Ft se fl b,(Fu se fl b)])<|.req i<|.br (k !=10) (.ok<|.AO [.xl Bj<|HT se fl d,k])<|.br ((D9 g t) !=0) (.ok<|.AO [.xl Bj ([]:List Fl),(D9 g t)])<|.req j<|.ok<|.AO [.xl Bj<|Ft se fl b,(Fu se fl b)]) ?_;obtain ⟨⟨hb,hcl⟩,rfl⟩:=h
  have fin:∀ {a:List Fl} {e:Int},Cg se fl (x1,x2,x3,x4,x5) t=a/\EI se fl (x1,x2,x3,x4,x5) t=e->LV.AO [.xl Bj a,.v<|Y J e]=LV.AO [.xl Bj<|Cg se fl (x1,x2,x3,x4,x5) t,.v<|Y J<|EI se fl (x1,x2,x3,x4,x5) t]:=λh=>by rw [h.1,h.2]
  refine ⟨hb,λc1=>fin ?_,λc1=>?_⟩
  ·have c1:CL se fl≠0:=AX
   unfold Cg EI;rw [AD c1,AD c1];exact ⟨rfl,rfl⟩
  have c1:¬CL se fl≠0:=AX
  rw [anM]
  have bad:(!D5 (x1,x2,x3,x4,x5) || !inB t 0 1100000)=U->Cg se fl (x1,x2,x3,x4,x5) t=[]/\EI se fl (x1,x2,x3,x4,x5) t=1:=λh=>by
   unfold Cg EI;rw [AE c1,AE c1,AD h,AD h];exact ⟨rfl,rfl⟩
  refine ⟨λc2=>fin<|bad (by rw [c2];rfl),λc2=>⟨λc3=>fin<|bad ?_,λc3=>⟨λc4=>fin<|bad ?_,λc4=>?_⟩⟩⟩
  iterate 2
   ·rw [Ck]
    refine .inr ?_
    have e:inB t 0 1100000=false:=by
     cases e:inB t 0 1100000
     ·rfl
     ·have:=BV.1 e
      simp only [Ac,Cy] at c3
      try simp only [Ac] at c4
      omega
    rw [e];rfl
  have ht:inB t 0 1100000=true:=BV.2 (by simp only [Cy] at c3 c4;omega)
  have hx:D5 (x1,x2,x3,x4,x5)=true:=EC
  have hv:=zY<|ZS.1 c1
  have hE:D9 (Af se fl) t=0:=by unfold D9 Ka;rw [hv,ht];rfl
  have hb':¬((!D5 (x1,x2,x3,x4,x5) || !inB t 0 1100000)=U):=by rw [hx,ht];decide
  have hl:=(GS hv).1
  have w:=λc5:0<M (Af se fl)=>AJ (x:=(M (Af se fl):Int)-1)
  have hO:0<M (Af se fl)->HB (Af se fl) (x1,x2,x3,x4,x5)=(an (x1<=(An (Af se fl)<|(M (Af se fl):Int)-1).1) ||an (x4<(An (Af se fl)<|(M (Af se fl):Int)-1).2.2.2.1)):=λc5=>by
   unfold HB;rw [show an (M (Af se fl)>0)=U from Cm c5];rfl
  have old:HB (Af se fl) (x1,x2,x3,x4,x5)=U->Cg se fl (x1,x2,x3,x4,x5) t=[]/\EI se fl (x1,x2,x3,x4,x5) t=12:=λh=>by
   unfold Cg EI;rw [AE c1,AE c1,AE hb',AE hb',AD h,AD h];exact ⟨rfl,rfl⟩
  refine ⟨λc5=>?_,λc5=>?_⟩
  ·have c5:0<M (Af se fl):=by simpa using c5
   have hO:=hO c5
   rw [w c5];refine ⟨A0,λc6=>fin<|old (by rw [hO,c6];rfl),λc6=>⟨A0,λc7=>fin<|old<|by rw [hO,c7,Sc],λc7=>?_⟩⟩
   have hO:HB (Af se fl) (x1,x2,x3,x4,x5)=false:=by rw [hO,c6,c7];rfl
   have hk:IP (Af se fl) (x1,x2,x3,x4,x5) t=I1 (Af se fl) (x1,x2,x3,x4,x5) t:=AD hE
   have hk':=hk▸ab3 (x:=(x1,x2,x3,x4,x5)) hE
   rw [hk,hE]
   have hO:¬(HB (Af se fl) (x1,x2,x3,x4,x5)=U):=by rw [hO];decide
   refine ⟨⟨hb,by rw [KB];decide,hcl⟩,λc=>fin ?_,λc=>⟨λc'=>(by cases c'),λ_=>⟨⟨hb,hk'⟩,fin ?_⟩⟩⟩<;>unfold Cg EI<;>rw [AE c1,AE c1,AE hb',AE hb',AE hO,AE hO]
   ·have c:Es se fl (Az (x1,x2,x3,x4,x5))≠10:=Ig
    rw [AD c,AD c];exact ⟨rfl,rfl⟩
   ·have c:¬Es se fl (Az (x1,x2,x3,x4,x5))≠10:=Ig
    rw [AE c,AE c];exact ⟨rfl,rfl⟩
  ·have hO:HB (Af se fl) (x1,x2,x3,x4,x5)=false:=by unfold HB;rw [show an (M (Af se fl)>0)=X by simpa using c5];rfl
   have hk:IP (Af se fl) (x1,x2,x3,x4,x5) t=I1 (Af se fl) (x1,x2,x3,x4,x5) t:=AD hE
   have hk':=hk▸ab3 (x:=(x1,x2,x3,x4,x5)) hE
   rw [hk,hE]
   have hO:¬(HB (Af se fl) (x1,x2,x3,x4,x5)=U):=by rw [hO];decide
   refine ⟨⟨hb,by rw [KB];decide,hcl⟩,λc=>fin ?_,λc=>⟨λc'=>(by cases c'),λ_=>⟨⟨hb,hk'⟩,fin ?_⟩⟩⟩<;>unfold Cg EI<;>rw [AE c1,AE c1,AE hb',AE hb',AE hO,AE hO]
   ·have c:Es se fl (Az (x1,x2,x3,x4,x5))≠10:=Ig
    rw [AD c,AD c];exact ⟨rfl,rfl⟩
   ·have c:¬Es se fl (Az (x1,x2,x3,x4,x5))≠10:=Ig
    rw [AE c,AE c];exact ⟨rfl,rfl⟩
 ·cases h)
theorem aiU {fl:List Int}{g:Int}{vl:List Le}{k:Nat}{O:List Int}{x:Le}{t:Int}{w:Int}(h:JI fl w g (vl.map Az) k O) (hv:BC vl=U) (hx:FN vl x=0) (ht:inB t 0 1100000=U) (hk:19<=k):
  EI 512 fl x t=0/\(∃fl',GB (Cg 512 fl x t) ((M (Cg 512 fl x t):Int)-1)=(512,fl')/\JI fl' w g ((vl++[x]).map Az) (k-19) O)/\BC (vl++[x])=true:=by
 obtain ⟨h1,h2⟩:=aaz h hv
 have hl:=KB x
 have hx':=hx
 unfold FN at hx'
 have hlx:D5 x=true:=by
  cases e:D5 x
  ·grind
  ·rfl
 rw [hv,hlx] at hx'
 have ho:HB vl x=false:=by
  by_cases hg:M vl>0
  ·have hf:Jh (An vl<|(M vl:Int)-1) x=true:=by
    cases e:Jh (An vl<|(M vl:Int)-1) x
    ·grind
    ·rfl
   unfold Jh at hf;unfold HB
   grind
  ·unfold HB;simp;intro h;omega
 have hfull:=h.full (d:=Az x) A0 A0
 have hap:Es 512 fl (Az x)=0:=by
  unfold Es;rw [h.Ui,hfull,h.cl];rfl
 have har:HT 512 fl (Az x)=HS 512 fl (Az x):=by
  unfold HT;rw [h.Ui,hfull,h.cl];rfl
 have hE:EI 512 fl x t=0:=by
  unfold EI;rw [h1,h2,hap,hlx,ht,ho];rfl
 have hL:Cg 512 fl x t=HS 512 fl (Az x):=by
  unfold Cg;rw [h1,h2,hap,hlx,ht,ho,har];rfl
 refine ⟨hE,⟨DZ (apB fl<|Az x) (GI fl) [80] 1,?_,?_⟩,?_⟩
 ·rw [hL]
  have hne:HS 512 fl (Az x)≠ []:=by
   unfold HS Dj
   simp
  have:=aFL 512 fl (Az x) (0,[])
  unfold GB;exact this
 ·have:=h.app (sF x) A0 (by rw [hl];omega)
  rw [Jx];exact this
 ·have hg:=(tq (x:=x) hv).1
  unfold grS Gk at hg;rw [AD hx,AD hx] at hg;exact hg
structure QV where
 p:PK
 vl:List Le
 ok:Bool
def Ux (t:Int) (s:SN×List Le×Bool) (x:Le):SN×List Le×Bool:=
 if FN s.1.ls x=0 then (if FN s.2.1 x=0/\inB t 0 1100000=U/\19*(M s.2.1+1)<=1019 then (⟨Gk s.1.ls x,0,[],x.1+1,s.1.lk++[Ta t x]⟩,s.2.1++[x],s.2.2) else (s.1,s.2.1,X)) else s
def PD (t:Int) (xs:List Le) (s:SN×List Le×Bool):Nat->SN×List Le×Bool
 |0=>s
 |k+1=>Ux t (PD t xs s k)<|An xs k
def RV (se:Int) (fl:List Int) (vl:List Le):Prop:=se=512/\BC vl=U/\∃k O,JI fl 0 0 (vl.map Az) k O/\k+19*M vl=1019
def RN (s:SN) (q:SN×List Le×Bool):Prop:=q.1={s with se:=0,fl:=[]}/\RV s.se s.fl q.2.1
def apj {t:Int}{s:SN×List Le×Bool}{x:Le}(h:(Ux t s x).2.2=U):s.2.2=true:=by
 unfold Ux at h;split at h
 ·split at h
  ·exact h
  ·cases h
 ·exact h
theorem aon {t:Int}{s:SN}{q:SN×List Le×Bool}{x:Le}(h:RN s q) (hq:(Ux t q x).2.2=U):RN (FK t s x) (Ux t q x):=by
 obtain ⟨h1,h2,h3,k,O,h4,h5⟩:=h
 have hls:q.1.ls=s.ls:=by rw [h1]
 unfold Ux at hq|-;unfold FK;rw [hls] at hq|-
 by_cases hg:FN s.ls x=0
 ·rw [AD hg] at hq|-
  by_cases hc:FN q.2.1 x=0/\inB t 0 1100000=U/\19*(M q.2.1+1)<=1019
  ·rw [AD hc] at hq|-
   obtain ⟨c1,c2,c3⟩:=hc;obtain ⟨e1,⟨fl',e2,e3⟩,e4⟩:=aiU (t:=t) h4 h3 c1 c2 A0;rw [h2] at*;rw [AD ⟨hg,e1⟩,e2];refine ⟨A8,rfl,e4,k-19,O,e3,?_⟩;simp only [BF,Bk,Bp];omega
  ·rw [AE hc] at hq
   cases hq
 ·rw [AE hg,AE λhh=>hg hh.1]
  exact ⟨h1,h2,h3,k,O,h4,h5⟩
def aEY {t:Int}{xs:List Le}{s:SN}{q:SN×List Le×Bool}(h:RN s q):∀n,(PD t xs q n).2.2=U->RN (FM t xs s n) (PD t xs q n)
 |0,_=>h
 |n+1,hq=>aon (aEY h n<|apj hq) hq
namespace QV
variable (q : QV)
def sn:SN×List Le×Bool:=PD q.p.tk q.p.dL (q.p.Gt,q.vl,q.ok)<|M q.p.dL
def dec:QV:=if q.p.up=X then q else if q.p.dE≠0 then {q with p:={q.p with ls:=Dt q.p.ls q.p.tk}} else ⟨{q.p with ra:=q.p.dR,ls:=q.sn.1.ls,nx:=q.sn.1.nx,lk:=q.sn.1.lk},q.sn.2.1,q.sn.2.2⟩
def bef:QV:={q.dec with p:=q.dec.p.J8.Um}
def tick:QV:={q.bef with p:=q.bef.p.DY.Jj.endP}
def Mj:List Int:=q.bef.p.dw.dw
end QV
def RP (p:PK) (q:QV):Prop:=q.p={p with se:=0,fl:=[]}/\RV p.se p.fl q.vl
def asZ {p:PK}{q:QV}(h:RP p q) (hq:q.dec.ok=U):RP p.AM q.dec:=by
 obtain ⟨qp,vl,ok⟩:=q;obtain ⟨h1,h2⟩:=h;subst h1
 have eq:QV.dec ⟨{p with se:=0,fl:=[]},vl,ok⟩=if p.up=X then ⟨{p with se:=0,fl:=[]},vl,ok⟩ else if p.dE≠0 then ⟨{p with se:=0,fl:=[],ls:=Dt p.ls p.tk},vl,ok⟩ else
  ⟨{p with se:=0,fl:=[],ra:=p.dR,ls:=(PD p.tk p.dL ({p.Gt with se:=0,fl:=[]},vl,ok)<|M p.dL).1.ls,nx:=(PD p.tk p.dL ({p.Gt with se:=0,fl:=[]},vl,ok)<|M p.dL).1.nx,lk:=(PD p.tk p.dL ({p.Gt with se:=0,fl:=[]},vl,ok)<|M p.dL).1.lk},
   (PD p.tk p.dL ({p.Gt with se:=0,fl:=[]},vl,ok)<|M p.dL).2.1,(PD p.tk p.dL ({p.Gt with se:=0,fl:=[]},vl,ok)<|M p.dL).2.2⟩:=rfl
 rw [eq] at hq|-;unfold PK.AM
 by_cases hu:p.up=X
 ·rw [AD hu,AD hu]
  exact ⟨rfl,h2⟩
 ·rw [AE hu] at hq
  rw [AE hu,AE hu]
  by_cases hd:p.dE≠0
  ·rw [AD hd,AD hd]
   exact ⟨rfl,h2⟩
  ·rw [AE hd] at hq
   rw [AE hd,AE hd]
   have hs:RN p.Gt ({p.Gt with se:=0,fl:=[]},vl,ok):=⟨rfl,h2⟩
   obtain ⟨k1,k2⟩:=aEY hs (M p.dL) hq;refine ⟨?_,k2⟩;rw [k1];rfl
def afu {p:PK}{q:QV}(h:RP p q) (hq:q.tick.ok=U):RP p.CZ q.tick/\p.Mj=q.Mj:=by
 obtain ⟨h1,h2⟩:=asZ h hq;refine ⟨⟨?_,h2⟩,?_⟩
 ·show q.dec.p.J8.Um.DY.Jj.endP=_
  rw [h1];rfl
 ·show _=q.dec.p.J8.Um.dw.dw
  rw [h1];rfl
def aR5 {pre mid post:List Int}:∀k,k<=M mid->Eg (pre++(mid++post)) (M pre:Int) k=pre++(aq k 255++(mid.drop k++post))
 |0,_=>by simp [Eg]
 |k+1,hk=>by
  simp only [Eg];rw [aR5 k A0]
  have e1:(M pre:Int)+(k:Int)=((M pre+k:Nat):Int):=A0
  have hd:mid.drop k=mid[k]::mid.drop (k+1):=SZ A0
  rw [e1,By,kD _ _ A0,xO,kD _ _ AI,Ce,kV,hd];rw [kE,Cl];rfl
def atN {pre mid post:List Int}{n:Nat}(h:M mid=n):Eg (pre++(mid++post)) (M pre:Int) n=pre++(aq n 255++post):=by
 rw [aR5 n A0,List.drop_of_length_le A0];rfl
theorem ahp {l:List Int}{n:Nat}(hl:M l=n) (h:l.all (λb=>b==255)=U):l=aq n 255:=by
 rw [List.eq_replicate_iff]
 grind
theorem aR3 {pre mid post f0:List Int}{s:Int}{a:List Fl}{n:Nat}(hm:M mid=512) (hs:s*512=(M pre:Int)) (hf:(f0.drop<|M pre).take 512=mid):
  ∃a',Fe 512 f0 s (n+1) (a,pre++(mid++post))=Fe 512 f0 (s+1) n (a',pre++(aq 512 255++post)):=by
 have hw:isW 512 f0 s=!mid.all (λb=>b==255):=by
  unfold isW;rw [hs,By]
  show (!((f0.drop<|M pre).take 512).all _)=_
  rw [hf]
 have e:Fe 512 f0 s (n+1) (a,pre++(mid++post))=Fe 512 f0 (s+1) n (if isW 512 f0 s=U then (a++(Kx 512 (pre++(mid++post)) s).drop 1,Eg (pre++(mid++post)) (s*512) 512) else (a,pre++(mid++post))):=rfl
 rw [e];split
 ·rw [hs,atN hm]
  grind
 ·rename_i hn
  have:mid.all (λb=>b==255)=true:=A8
  have h2:=ahp hm this
  grind
theorem apC {O:List Int}(h:M O=1024):∃M1 M2,O=M1++M2/\M M1=512/\M M2=512:=⟨O.take 512,O.drop 512,(List.take_append_drop _ _).symm,A8,A8⟩
theorem aIK {pre post M1 M2 f0:List Int}{s:Int}{a:List Fl}(h1:M M1=512) (h2:M M2=512) (hs:s*512=(M pre:Int)) (hf:f0=pre++(M1++(M2++post))):
  (Fe 512 f0 s 2 (a,f0)).2=pre++(aq 1024 255++post):=by
 have f1:(f0.drop<|M pre).take 512=M1:=A8
 have f2:(f0.drop<|M<|pre++aq 512 255).take 512=M2:=by
  rw [hf,BF,Ce,<-Cl,List.drop_left' A8,List.take_left' h2]
 have e0:Fe 512 f0 s 2 (a,f0)=Fe 512 f0 s 2 (a,pre++(M1++(M2++post))):=A8
 rw [e0];obtain ⟨a1,e1⟩:=aR3 (a:=a) (n:=1) (post:=M2++post) h1 hs f1;rw [e1]
 have e2:pre++(aq 512 255++(M2++post))=(pre++aq 512 255)++(M2++post):=(Cl _ _ _).symm
 rw [e2];obtain ⟨a2,e3⟩:=aR3 (a:=a1) (n:=0) (s:=s+1) (post:=post) h2 A8 f2;rw [e3]
 show (pre++aq 512 255)++(aq 512 255++post)=_
 rw [Cl,<-Cl<|aq 512 255,wo]
def aBH (A O:List Int):J3 0 A O=A++O:=AD rfl
def aBG (A O:List Int):J3 1 A O=O++A:=AE Aa
def aht (A O:List Int):J3 (1-0) A O=O++A:=AE Aa
def ahs (A O:List Int):J3 (1-1) A O=A++O:=AD rfl
namespace JI
variable {fl : List Int} {w g : Int} {ds : List (List Int)} {k : Nat} {O : List Int}
theorem ers (h:JI fl w g ds k O):(HP 512 fl).2=J3 w (DO g ds k) (aq 1024 255):=by
 obtain ⟨M1,M2,e,h1,h2⟩:=apC h.lo;unfold HP;rw [h.half,h.cur.1]
 have e2:((((1024:Nat):Int).tdiv 512).toNat)=2:=Aa
 have e3:(((1024:Nat):Int).tdiv 512)=2:=Aa
 rw [e2,e3]
 have he:=h.eq
 rcases h.hw with rfl|rfl
 ·have:=aIK (pre:=DO g ds k) (post:=[]) (M1:=M1) (M2:=M2) (f0:=fl) (s:=(1-0)*2) (a:=[(512,fl)]) h1 h2 (by rw [h.la];rfl) (by rw [he,e,aBH];simp only [Cl,EB,GK,L0])
  rw [this,aBH]
  grind
 ·have:=aIK (pre:=[]) (post:=DO g ds k) (M1:=M1) (M2:=M2) (f0:=fl) (s:=(1-1)*2) (a:=[(512,fl)]) h1 h2 Aa (by rw [he,e,aBG];simp only [Cl,EB,GK,L0])
  rw [this,aBG]
  grind
theorem rew (h:JI fl w g ds k O) {ds':List<|List Int}(hg:g+1<4294967296) (hd:∀d∈ds',BI d/\M d<=65535) (hf:5+M (BO ds')<=1024):
  JI (DZ (Ks 512 fl ds') (Gu fl) [80] 1) (1-w) (g+1) ds' (1024-(5+M (BO ds'))) (DO g ds k):=by
 have hO:Gu fl=(1-w)*1024:=by unfold Gu;rw [h.half,h.cur.1];rfl
 have hB:Ee fl ds'=Cp (g+1)++BO ds':=by unfold Ee;rw [h.cur.1,h.gen]
 have hBl:M (Ee fl ds')=4+M (BO ds'):=by rw [hB,BF];rfl
 have hBb:BI (Ee fl ds'):=by rw [hB,KF];exact ⟨WA _,qK λd hd'=>(hd d hd').1⟩
 have hj:DO (g+1) ds' (1024-(5+M (BO ds')))=80::(Ee fl ds'++aq (1024-(5+M (BO ds'))) 255):=by rw [hB];unfold DO;simp
 have h255:aq 1024 (255:Int)=255::(aq (M<|Ee fl ds') 255++aq (1024-(5+M (BO ds'))) 255):=by
  rw [wo,<-ZC,hBl]
  congr 1
  omega
 have key:∀pre post:List Int,(M pre:Int)=(1-w)*1024->(HP 512 fl).2=pre++(aq 1024 255++post)->DZ (Ks 512 fl ds') (Gu fl) [80] 1=pre++(DO (g+1) ds' (1024-(5+M (BO ds')))++post):=by
  intro pre post hp he
  have e1:Ks 512 fl ds'=pre++(255::(Ee fl ds'++(aq (1024-(5+M (BO ds'))) 255++post))):=by
   unfold Ks;rw [he,hO,<-hp,h255]
   have:=dH (pre:=pre++[255]) (post:=aq (1024-(5+M (BO ds'))) 255++post) (d:=Ee fl ds') hBb
   have e9:(M ((pre++[255]:List Int)):Int)=(M pre:Int)+1:=AI
   rw [e9] at this
   have e0:pre++(255::(aq (M<|Ee fl ds') 255++aq (1024-(5+M (BO ds'))) 255)++post)=pre++[255]++(aq (M<|Ee fl ds') 255++(aq (1024-(5+M (BO ds'))) 255++post)):=by simp only [Cl,EB,GK,L0]
   rw [e0,this];simp only [Cl,EB,GK,L0]
  rw [e1,hO,<-hp]
  have:=dH (pre:=pre) (post:=Ee fl ds'++(aq (1024-(5+M (BO ds'))) 255++post)) (d:=[80]) aNo
  refine Eq.trans this ?_;rw [hj];simp only [Cl,EB,GK,L0]
 refine ⟨?_,by rw [Ov];omega,h.la,h.bja,by rcases h.hw with rfl|rfl<;>decide,by have:=h.hg;omega,λ_=>?_,hd⟩
 ·rcases h.hw with rfl|rfl
  ·refine (key (DO g ds k) [] (by rw [h.la];rfl) (by rw [h.ers,aBH];simp only [Cl,EB,GK,L0])).trans ?_
   rw [aht]
   grind
  ·refine (key [] (DO g ds k) Aa (by rw [h.ers,aBG];simp only [Cl,EB,GK,L0])).trans ?_
   rw [ahs]
   grind
 ·rw [aGl h.hg];omega
theorem amf (h:JI fl w g ds k O) {ds':List<|List Int}(hg:g+1<4294967296):Fu 512 fl ds'=if rwF fl ds'=U then 0 else 10:=by
 unfold Fu;rw [h.Ui,AE Aa,h.cur.1,h.gen]
 grind
end JI
def amm {se:Int}{fl:List Int}{ds:List<|List Int}(h:Fu se fl ds=0) (y:Fl):(Ft se fl ds).getLastD y=(se,DZ (Ks se fl ds) (Gu fl) [80] 1):=by
 unfold Ft;rw [AD h]
 have e:(Dj se (Ks se fl ds) (Gu fl) [80]).drop 1=[(se,DZ (Ks se fl ds) (Gu fl) [80] 1)]:=by
  rfl
 rw [e,jy]
 simp
def avi {se:Int}{fl:List Int}{ds:List<|List Int}(h:Fu se fl ds=0):Ft se fl ds≠ []:=by
 unfold Ft;rw [AD h];intro hh
 have:=B0 M hh
 simp [Dj] at this
def aFC {l:List Fl}{y:Fl}(h:l≠ []):GB l ((M l:Int)-1)=l.getLastD y:=by
 have hp:=OT.2 h
 unfold GB;rw [jy,List.getLast?_eq_getElem?,Dd,show ((M l:Int)-1).toNat=M l-1 by omega,DQ A0]
 rfl
structure VI (se:Int) (fl:List Int) (vl:List Le) (g:Int):Prop where
 se:se=512
 lv:BC vl=U
 ji:∃w k O,JI fl w g (vl.map Az) k O
 g:g<=(vl.map (·.1)).getLastD 0
def VI.ld {se:Int}{fl:List Int}{vl:List Le}{g:Int}(h:VI se fl vl g):CL se fl=0/\Af se fl=vl:=by
 obtain ⟨w,k,O,hj⟩:=h.ji
 have:=aaz hj h.lv
 rwa [h.se]
def anO {l:List Le}(h:M l>0):(l.map (·.1)).getLastD 0=(An l<|(M l:Int)-1).1:=by
 have e:((M l:Int)-1).toNat=M l-1:=A0
 unfold An;rw [jy,List.getLast?_map,List.getLast?_eq_getElem?,Dd,e,DQ A0];rfl
def Kt (l:List Le) (x:Le) (t:Int):List Le:=BW l t++((if M l>0/\(M (BW l t)=0\/(An (BW l t)<|(M (BW l t):Int)-1).1≠(An l<|(M l:Int)-1).1) then [An l<|(M l:Int)-1] else [])++[x])
theorem aQp {l:List Le}{x:Le}{t:Int}:I1 l x t=(Kt l x t).map Az:=by
 unfold I1 Kt
 grind
def auB {l:List Le}{x:Le}(h:HB l x=X) (hv:BC l=U):letI a:=(An l<|(M l:Int)-1);M l>0->a.1<x.1/\a.2.2.2.1<=x.2.2.2.1:=by
 unfold HB at h
 simp at h
 omega
def aCL {l:List Le}(h:M l>0):l=l.dropLast++[An l<|(M l:Int)-1]:=by
 have hne:=OT.1 h
 have:An l ((M l:Int)-1)=l.getLast hne:=by
  rw [Nf A0,List.getLast_eq_getElem]
  congr 1
  omega
 rw [this];exact (List.dropLast_concat_getLast hne).symm
def anY (m:List Le) (z:Le):An (m++[z]) ((M (m++[z]):Int)-1)=z:=by
 unfold An
 simp
def au0 {se:Int}{fl d:List Int}:HS se fl d≠ []:=by
 unfold HS Dj
 simp
theorem aE9 {l:List Le}{x:Le}{t:Int}:(Kt l x t).Sublist (l++[x]):=by
 unfold Kt;rw [<-Cl];refine List.Sublist.append ?_<|List.Sublist.refl _
 have hs:(BW l t).Sublist l:=by
  unfold BW;split
  ·simp_all
  ·grind
 split
 ·rename_i hc
  obtain ⟨h1,h2⟩:=hc
  have hl:=aCL h1
  generalize hz:An l ((M l:Int)-1)=z at*
  have he:(BW l t).Sublist l.dropLast:=by
   unfold BW at h2|-;split
   ·rename_i ho
    rw [AD ho] at h2;rw [hl,ZE] at h2
    have hf:l.filter (LZ t)=l.dropLast.filter (LZ t)++[z].filter (LZ t):=by
     grind
    rw [hf];cases hb:LZ t z
    ·simp only [OX,hb,List.filter_nil]
     simp
    ·exfalso
     have e1:[z].filter (LZ t)=[z]:=A8
     rw [e1] at h2;rcases h2 with h2|h2
     ·simp at h2
     ·apply h2
      rw [anY]
   ·grind
  conv=>rhs;rw [hl]
  grind
 ·grind
def qJ {vl:List Le}:M (BO<|vl.map Az)=19*M vl:=by
 induction vl with
 |nil=>rfl
 |cons x vl ih=>
  have e:BO ((x::vl).map Az)=Br (Az x)++BO (vl.map Az):=rfl
  rw [e,BF,MM,KB,ih,Bk];omega
def apM (ds:List<|List Int):(ds.map λd=>7+M d).sum=M (BO ds):=(pF ds).symm
def VI.len {se:Int}{fl:List Int}{vl:List Le}{g:Int}(h:VI se fl vl g):M vl<=53:=by
 obtain ⟨w,k,O,hj⟩:=h.ji
 have:=hj.la
 rw [Ov,qJ] at this;omega
def uv {se:Int}{fl:List Int}{vl:List Le}{g:Int}{x:Le}{t:Int}(h:VI se fl vl g) (hE:EI se fl x t=0):
  ∃vl' g',VI (GB (Cg se fl x t)<|(M (Cg se fl x t):Int)-1).1 (GB (Cg se fl x t)<|(M (Cg se fl x t):Int)-1).2 vl' g'/\(vl'=vl++[x]\/vl'=Kt vl x t)/\BC (vl++[x])=U/\(M vl>0->(An vl<|(M vl:Int)-1).1<x.1):=by
 obtain ⟨h1,h2⟩:=h.ld
 have hlen:=h.len
 obtain ⟨w,k,O,hj⟩:=h.ji
 have hse:=h.se
 subst hse
 have hla:=hj.la
 rw [Ov,qJ] at hla;unfold EI at hE
 have hL:Cg 512 fl x t=if CL 512 fl≠0 then [] else if (!D5 x || !inB t 0 1100000)=U then [] else if HB (Af 512 fl) x=U then [] else
  if Es 512 fl (Az x)≠10 then HT 512 fl (Az x) else Ft 512 fl (I1 (Af 512 fl) x t):=rfl
 rw [AE A0] at hE hL
 by_cases c1:(!D5 x || !inB t 0 1100000)=U
 ·rw [AD c1] at hE;cases hE
 rw [AE c1] at hE hL
 have hx:D5 x=true:=by
  simp only [Ck,Cs,not_or,Pv] at c1;exact c1.1
 by_cases c2:HB (Af 512 fl) x=U
 ·rw [AD c2] at hE;cases hE
 rw [AE c2] at hE hL;rw [h2] at c2 hE hL
 have ho:=auB EC h.lv
 have hsn:BC (vl++[x])=true:=aE2 h.lv hx A0 (by
  by_cases hz:M vl=0
  ·exact .inl hz
  ·right
   obtain ⟨o1,o2⟩:=ho A0;unfold Jh;rw [Cm (p:=x.1>_) o1,Cm (p:=x.2.2.2.1>=_) o2];rfl)
 have hg:g<x.1:=by
  by_cases hz:M vl>0
  ·have:=h.g
   rw [anO hz] at this
   have:=(ho hz).1
   omega
  ·have e:vl=[]:=MA.1 A0
   have:=h.g
   rw [e] at this
   have h0:g<=0:=this
   have:=(LD.1 hx).1.1
   omega
 have hlx:=(LD.1 hx).1.2
 by_cases c3:M5 512 fl (Az x)=U
 ·have hap:Es 512 fl (Az x)=10:=by
   unfold Es;rw [hj.Ui,c3];rfl
  rw [hap,AE Aa] at hE hL
  have hr:Fu 512 fl (I1 vl x t)=0:=hE
  rw [hL]
  have hf:rwF fl (I1 vl x t)=true:=by
   have:=hj.amf (ds':=I1 vl x t) A0
   rw [hr] at this
   by_cases hq:rwF fl (I1 vl x t)=U
   ·exact hq
   ·rw [AE hq] at this;cases this
  rw [aFC (y:=(0,[]))<|avi hr,amm hr];unfold rwF at hf;rw [AY,hj.half,apM] at hf
  have hfit:=Cx hf.1
  refine ⟨Kt vl x t,g+1,⟨rfl,oW hsn aE9,⟨1-w,1024-(5+M (BO<|I1 vl x t)),DO g (vl.map Az) k,?_⟩,?_⟩,.inr rfl,hsn,λhz=>(ho hz).1⟩
  ·rw [<-aQp]
   exact hj.rew A0 (λd hd=>by rw [aQp] at hd;obtain ⟨y,_,rfl⟩:=Ej.1 hd;exact ⟨sF y,by rw [KB];omega⟩) hfit
  ·have:((Kt vl x t).map (·.1)).getLastD 0=x.1:=by
    unfold Kt
    simp
   rw [this];omega
 ·have hap:Es 512 fl (Az x)=0:=by
   unfold Es;exact aLd
  have har:HT 512 fl (Az x)=HS 512 fl (Az x):=by
   unfold HT;exact aLd
  rw [hap,AD Aa,har] at hL;rw [hL,aFC (y:=(0,[])) au0,aFL]
  have hk:19<=k:=by
   unfold M5 at c3;rw [hj.half,hj.lk,KB,qJ] at c3
   simp at c3
   omega
  refine ⟨vl++[x],g,⟨rfl,hsn,⟨w,k-(7+M (Az x)),O,?_⟩,?_⟩,.inl rfl,hsn,λhz=>(ho hz).1⟩
  ·have:=hj.app (sF x) (by rw [KB];omega) (by rw [KB];exact hk)
   rw [Jx,E9,L1];simp only;exact this
  ·rw [Jx,jy]
   simp
   omega
def F6 (se:Int) (n:Nat) (y:Fl):Prop:=y.1=se/\M y.2=n/\BI y.2
def fD {se:Int}{fl:List Int}{a:Int}{d:List Int}{n:Nat}(h:F6 se n (se,fl)):∀y∈Dj se fl a d,F6 se n y:=by
 intro y hy;obtain ⟨k,_,rfl⟩:=Ej.1 hy;exact ⟨rfl,(Sz _ _ _ _).trans h.2.1,sC h.2.2 _ _ _⟩
def agw {se:Int}{fl:List Int}{s:Int}{n:Nat}(h:F6 se n (se,fl)):∀y∈Kx se fl s,F6 se n y:=by
 intro y hy;obtain ⟨k,_,rfl⟩:=Ej.1 hy;exact ⟨rfl,(cG _ _ _).trans h.2.1,aR4 h.2.2 _ _⟩
theorem qh {se:Int}{f0:List Int}{n:Nat}:∀(m:Nat) (s:Int) (a:List Fl×List Int),(∀y∈a.1,F6 se n y)->F6 se n (se,a.2)->(∀y∈(Fe se f0 s m a).1,F6 se n y)/\F6 se n (se,(Fe se f0 s m a).2)
 |0,_,_,h1,h2=>⟨h1,h2⟩
 | m+1,s,a,h1,h2=>by
  unfold Fe;split
  ·refine qh m (s+1) _ (λy hy=>?_) ⟨rfl,(cG _ _ _).trans h2.2.1,aR4 h2.2.2 _ _⟩
   rcases Be.1 hy with hy|hy
   ·grind
   ·exact agw h2 y<|Pu hy
  ·exact qh m (s+1) a h1 h2
def ahi {se:Int}{fl d:List Int}{n:Nat}(h:F6 se n (se,fl)):∀y∈HS se fl d,F6 se n y:=by
 intro y hy;rcases Be.1 hy with hy|hy
 ·exact fD h y hy
 ·exact fD ⟨rfl,(Sz _ _ _ _).trans h.2.1,sC h.2.2 _ _ _⟩ y<|Pu hy
theorem aOD {se:Int}{fl:List Int}{ds:List<|List Int}{n:Nat}(h:F6 se n (se,fl)):∀y∈Ft se fl ds,F6 se n y:=by
 intro y hy;unfold Ft at hy;split at hy
 ·obtain ⟨k1,k2⟩:=qh (se:=se) (f0:=fl) (n:=n) (((M fl / 2:Nat):Int).tdiv se).toNat ((1-As fl)*((M fl / 2:Nat):Int).tdiv se) ([(se,fl)],fl) (λy hy=>A8) h
  rcases Be.1 hy with hy|hy
  ·exact k1 y hy
  ·rcases Be.1 hy with hy|hy
   ·exact fD k2 y<|Pu hy
   ·exact fD ⟨rfl,(Sz _ _ _ _).trans k2.2.1,sC k2.2.2 _ _ _⟩ y<|Pu hy
 ·cases hy
def qf {se:Int}{f0:List Int}:∀(m:Nat) (s:Int) (a:List Fl×List Int),a.1≠ []->(Fe se f0 s m a).1≠ []
 |0,_,_,h=>h
 |m+1,s,a,h=>by
  unfold Fe;split
  ·exact qf m _ _ lT
  ·exact qf m _ _ h
def aOC {se:Int}{fl:List Int}{ds:List<|List Int}(h:Fu se fl ds=0):Ft se fl ds≠ []:=by
 unfold Ft;rw [AD h]
 have:=qf (se:=se) (f0:=fl) (((M fl / 2:Nat):Int).tdiv se).toNat ((1-As fl)*((M fl / 2:Nat):Int).tdiv se) ([(se,fl)],fl) AI
 intro hh;rw [List.append_eq_nil_iff] at hh;exact this hh.1
def ahh {se:Int}{fl d:List Int}:HS se fl d≠ []:=by
 unfold HS Dj
 simp
theorem aaK {se:Int}{fl:List Int}{x:Le}{t:Int}{n:Nat}(h:F6 se n (se,fl)):(∀y∈Cg se fl x t,F6 se n y)/\(EI se fl x t=0->Cg se fl x t≠ []):=by
 have ha:(∀y∈HT se fl (Az x),F6 se n y)/\(Es se fl (Az x)=0->HT se fl (Az x)≠ []):=by
  unfold HT Es
  by_cases h1:Bo se fl≠0
  ·grind
  ·rw [AE h1,AE h1]
   by_cases h2:M5 se fl (Az x)=U
   ·grind
   ·rw [AE h2,AE h2]
    by_cases h3:M8 fl=U
    ·rw [AD h3,AD h3];exact ⟨ahi h,λ_=>ahh⟩
    ·rw [AE h3,AE h3];exact ⟨aOD h,aOC⟩
 unfold Cg EI
 by_cases h1:CL se fl≠0
 ·grind
 ·rw [AE h1,AE h1]
  split
  ·grind
  ·split
   ·grind
   ·split
    ·exact ha
    ·exact ⟨aOD h,aOC⟩
structure SnI (s:SN) (n:Nat):Prop where
 fl:F6 512 2048 (s.se,s.fl)
 ls:M s.ls<=64
 lk:M s.lk<=n
def anj {l:List Le}{x:Le}(h:FN l x=0):M (Gk l x)<=64:=by
 unfold Gk;rw [AD h];unfold FN at h;split at h
 ·rename_i hv
  rw [AY] at hv
  have:=(GS hv.1).1
  split at h
  ·cases h
  ·split at h
   ·cases h
   ·simp;omega
 ·cases h
theorem avX {t:Int}{s:SN}{x:Le}{n:Nat}(h:SnI s n):SnI (FK t s x) (n+1):=by
 unfold FK;split
 ·rename_i hc
  have hs:F6 s.se 2048 (s.se,s.fl):=⟨rfl,h.fl.2.1,h.fl.2.2⟩
  obtain ⟨k1,k2⟩:=aaK (x:=x) (t:=t) hs
  have hne:=OT.2<|k2 hc.2
  have hm:GB (Cg s.se s.fl x t) ((M (Cg s.se s.fl x t):Int)-1)∈Cg s.se s.fl x t:=by
   unfold GB;rw [Mg A0]
   grind
  obtain ⟨m1,m2,m3⟩:=k1 _ hm;exact ⟨⟨m1.trans h.fl.1,m2,m3⟩,anj hc.1,by have:=h.lk;simp;omega⟩
 ·exact ⟨h.fl,h.ls,by have:=h.lk;omega⟩
def aOO {t:Int}{xs:List Le}{s:SN}{n:Nat}(h:SnI s n):∀k,SnI (FM t xs s k) (n+k)
 |0=>h
 |k+1=>avX<|aOO h k
structure RQ (p:PK):Prop where
 fl:F6 512 2048 (p.se,p.fl)
 ls:M p.ls<=64
 lk:(M p.lk:Int)<=16*p.tk
 ra:M p.ra<=16
 dm:∀x∈p.dm,HR x=U
 mi:∀m∈p.mi,M m.1<=21
theorem aFH {l:List Le}{t:Int}:M (BW l t)<=M l:=by
 unfold BW;split
 ·grind
 ·simp
def atH {l:List Le}{t:Int}:M (Dt l t)<=M l:=by
 unfold Dt;split
 ·exact aFH
 ·omega
def ue {p:PK}:M p.dL<=M p.gs:=by
 unfold PK.dL deL;split
 ·exact aCG
 ·simp
def agO {p:PK}:M p.dR<=M p.gs:=by
 unfold PK.dR deR;split
 ·exact k7 cy
 ·simp
theorem aRw {p:PK}(h:RQ p) (hg:M p.gs<=16):F6 512 2048 (p.AM.se,p.AM.fl)/\M p.AM.ls<=64/\(M p.AM.lk:Int)<=16*p.tk+16/\M p.AM.ra<=16:=by
 have hl:=h.lk
 have he:M (Dt p.ls p.tk)<=64:=HZ atH h.ls
 unfold PK.AM;split
 ·exact ⟨h.fl,h.ls,A0,h.ra⟩
 ·split
  ·exact ⟨h.fl,he,A8,h.ra⟩
  ·have hs:SnI p.Gt (M p.lk):=⟨h.fl,he,Ar _⟩
   have h1:=aOO (t:=p.tk) (xs:=p.dL) hs<|M p.dL
   have hd:=ue (p:=p)
   exact ⟨h1.fl,h1.ls,by have:=h1.lk;show (M (FM p.tk p.dL p.Gt<|M p.dL).lk:Int)<=_;omega,HZ agO hg⟩
def mem_set {α:Type}{l:List α}{i:Nat}{x y:α}(h:y∈l.set i x):y∈l\/y=x:=OQ h
theorem asU (c:Ca) (m:Mi) (p al:Int):M (Jp c m p al).1<=21\/M m.1>21:=by
 unfold Jp;split
 ·rename_i hB
  refine .inl ?_;simp only [dwP,F7,BF,Bk,Bp];omega
 ·grind
theorem aRu {gs:List Ch}{ca:List Ca}{s:DW}(h:∀m∈s.mi,M m.1<=21):∀k,∀m∈(Ez gs ca s k).mi,M m.1<=21
 |0=>h
 | k + 1=>by
  have ih:=aRu (gs:=gs) (ca:=ca) h k
  unfold Ez Gp;split
  ·exact ih
  ·split
   ·intro m hm
    rcases mem_set hm with hm|rfl
    ·grind
    ·rcases asU (Bc ca k) (Cj (Ez gs ca s k).mi k) (AG gs k).2.2.1 (BX (AG gs k)<|BJ (Ez gs ca s k).st k) with e|e
     ·exact e
     ·exfalso
      have:M (Cj (Ez gs ca s k).mi k).1<=21:=by
       unfold Cj;rw [Dd];cases hx:(Ez gs ca s k).mi[(k:Int).toNat]? with
       |none=>simp
       |some y=>exact ih y<|OS hx
      omega
   ·exact ih
theorem as2 {se:Int}{fl:List Int}:M (Af se fl)<=64:=by
 unfold Af;split
 ·rename_i h
  unfold CL at h;split at h
  ·cases h
  ·split at h
   ·grind
   ·split at h
    ·split at h
     ·rename_i h3;exact (GS h3).1
     ·cases h
    ·cases h
 ·simp
def RQ.tick {p:PK}(h:RQ p) (hv:VP p):RQ p.CZ:=by
 have hg:=(DF.1 hv.site).1.2.2.2.2.1
 obtain ⟨h1,h2,h3,h4⟩:=aRw h hg;obtain ⟨e1,e2,e3,e4,e5,e6,e7,e8,e9,e10,e11,e12,e13,e14⟩:=NL p;refine ⟨h1,h2,?_,h4,?_,?_⟩
 ·show (M (p.AM.lk.filter _):Int)<=16*(p.AM.tk+1)
  have:=xA (λl:Lk=>an<|l.1>p.AM.tk) p.AM.lk
  rw [e6] at this|-;omega
 ·show ∀x∈p.AM.dm,_
  rw [e12];exact h.dm
 ·refine aRu ?_ _
  show ∀m∈p.AM.mi,_
  rw [e10];exact h.mi
theorem RQ.step {p:PK}(h:RQ p) (hv:VP p) {e:EV}(he:BR p e=0):RQ (BS p e):=by
 have hg:=(DF.1 hv.site).1.2.2.2.2.1
 unfold BS;rw [AE A0];unfold BR at he;split
 ·exact h.tick hv
 rename_i h1;rw [AE h1] at he;split
 ·rename_i h2
  have hd:HR e.d=true:=by
   unfold PK.G4 at he;split at he
   ·cases he
   ·split at he
    ·cases he
    ·rename_i hb
     grind
  refine {h with dm:=λx hx=>?_,mi:=λm hm=>?_}
  ·rcases mem_set hx with hx|rfl
   ·exact h.dm x hx
   ·exact hd
  ·exact aMW
 rename_i h2;rw [AE h2] at he;split
 ·refine {h with dm:=λx hx=>?_,mi:=λm hm=>?_}
  ·rcases mem_set hx with hx|rfl
   ·exact h.dm x hx
   ·decide
  ·exact aMW
 rename_i h3;rw [AE h3] at he;split
 ·have:=xA (λl:Lk=>l.2.2.1 !=e.en) p.lk
  exact {h with lk:=by show (M (p.lk.filter _):Int)<=16*p.tk;have:=h.lk;omega}
 rename_i h4;rw [AE h4] at he;split
 ·exact {h with ls:=by simp [PK.PH]}
 rename_i h5;rw [AE h5] at he;split
 ·exact {h with ls:=HZ aFH as2,ra:=by simp [PK.Tm];omega}
 rename_i h6;rw [AE h6] at he;split
 ·exact {h with}
 ·exact {h with}
theorem aQt {cs:List Cd}{os:List ByteArray}{ks:List Ko}{gs:List Ch}{bs:List Ba}{dr:List Int}(h:DA cs os ks gs bs dr=0):VP (newP cs os ks gs bs dr)/\RQ (newP cs os ks gs bs dr):=by
 unfold newP;rw [AE A0];unfold DA at h;split at h
 ·cases h
 rename_i h1;simp only [not_or,Pv,ne_eq,ZS] at h1;split at h
 ·cases h
 rename_i h2;simp only [Pv] at h2
 have hb:BI Di:=by
  unfold Di DO;rw [KF,KF,KF,QI];exact ⟨⟨⟨Aa,WA _⟩,qK λd hd=>VX,cz _⟩,cz _⟩
 have hl:M Di=2048:=by unfold Di;rw [BF,Ov,Ce];rfl
 refine ⟨⟨h1.1,AI,AI,AI,AI,by simp [Fj],AI,h1.2,AI,λk hk=>?_,h2,λl hl=>by cases hl⟩,⟨⟨rfl,hl,hb⟩,AI,AI,by simp;exact (DF.1 h1.1).1.2.2.2.2.1,λx hx=>?_,λm hm=>?_⟩⟩
 ·simp only [G0] at hk
  have e:gi (cs.map λc=>c.2.2.1) (k:Int)=(Ag cs k).2.2.1:=by
   unfold gi Ag
   simp [hk]
  simp only [e];exact ⟨(uh h1.1 hk).1,De _⟩
 ·obtain ⟨_,rfl⟩:=SV.1 hx;decide
 ·grind
def aFI {se:Int}{f0:List Int}:∀(n:Nat) (s:Int) (a:List Fl×List Int),M (Fe se f0 s n a).1<=M a.1+n*se.toNat
 |0,s,a=>by simp [Fe]
 | n+1,s,a=>by
  unfold Fe
  have h:=aFI (se:=se) (f0:=f0) n (s+1) (if isW se f0 s=U then (a.1++(Kx se a.2 s).drop 1,Eg a.2 (s*se) se.toNat) else a)
  rw [Nat.succ_mul];split at h
  ·rename_i c
   rw [AD c]
   have e:M ((Kx se a.2 s).drop 1)=se.toNat:=by unfold Kx;rw [F7,G0,SW];omega
   simp only [BF] at h;omega
  ·rename_i c
   rw [AE c];omega
def qI (se:Int) (fl:List Int) (a:Int) (d:List Int):M ((Dj se fl a d).drop 1)=M d:=by
 unfold Dj;rw [F7,G0,SW];omega
theorem aG0 {fl:List Int}{ds:List<|List Int}(hl:M fl=2048) (hE:Fu 512 fl ds=0):M (Ft 512 fl ds)<=5000:=by
 have hF:rwF fl ds=true:=by
  unfold Fu at hE;split at hE
  ·grind
  ·split at hE
   ·cases hE
   ·rename_i h
    cases e:rwF fl ds
    ·grind
    ·rfl
 have hb:M (Ee fl ds)<=1100:=by
  unfold rwF at hF;rw [AY,Ac] at hF;unfold Ee;rw [BF,pF]
  have:M (Cp<|J6 fl (As fl)+1)=4:=rfl
  omega
 have he:M (HP 512 fl).1<=1025:=by
  refine HZ (aFI _ _ _) ?_;rw [hl]
  show 1+(((2048 / 2:Nat):Int).tdiv 512).toNat*(512:Int).toNat<=1025
  decide
 unfold Ft;rw [AD hE,BF,BF,qI,qI];simp only [Bk,Bp];omega
theorem aoK {se:Int}{fl:List Int}{x:Le}{t:Int}(h:F6 512 2048 (se,fl)) (hE:EI se fl x t=0):M (Cg se fl x t)<=5000:=by
 have hs:=h.1
 subst hs
 have hl:=h.2.1
 unfold EI at hE;unfold Cg;split at hE
 ·grind
 rename_i h1;rw [AE h1];split at hE
 ·cases hE
 rename_i h2;rw [AE h2];split at hE
 ·cases hE
 rename_i h3;rw [AE h3];split at hE
 ·rename_i h4
  rw [AD h4];unfold Es at hE;unfold HT;split at hE
  ·grind
  rename_i h5;rw [AE h5];split at hE
  ·cases hE
  rename_i h6;rw [AE h6];split at hE
  ·rename_i h7
   rw [AD h7];unfold HS;rw [BF,qI];unfold Dj;rw [G0,SW,F7,MM,KB]
   decide
  ·rename_i h7
   rw [AE h7];exact aG0 hl hE
 ·rename_i h4
  rw [AE h4];exact aG0 hl hE
def VK (se:Int) (fl:List Int):Prop:=F6 512 2048 (se,fl)/\∃vl g,VI se fl vl g
def VK.cl {se:Int}{fl:List Int}(h:VK se fl):M8 fl=true:=by
 obtain ⟨_,vl,g,hv⟩:=h;obtain ⟨w,k,O,hj⟩:=hv.ji;exact hj.cl
theorem VK.st {se:Int}{fl:List Int}{x:Le}{t:Int}(h:VK se fl) (hE:EI se fl x t=0):letI b:=Cg se fl x t;letI a:=(GB b<|(M b:Int)-1);0<M b/\VK a.1 a.2:=by
 obtain ⟨hf,vl,g,hv⟩:=h;obtain ⟨vl',g',h1,_⟩:=uv hv hE
 have hn:=(aaK (x:=x) (t:=t) (show F6 se 2048 (se,fl) from ⟨rfl,hf.2.1,hf.2.2⟩))
 have hp:=OT.2<|hn.2 hE
 refine ⟨hp,?_,vl',g',h1⟩
 have hm:GB (Cg se fl x t) ((M (Cg se fl x t):Int)-1)∈Cg se fl x t:=by
  unfold GB;rw [Dd,DQ A0]
  grind
 have hq:=hn.1 _ hm
 exact ⟨by rw [hq.1];exact hf.1,hq.2.1,hq.2.2⟩
def AR {α:Type}(l:List α):List α:=(l.drop 0).take<|M l
def FX {α:Type}(l:List α):AR l=l:=TI l
def cpC (l:List Cd):List Cd:=BE (AR l)<|aq (M l:Int).toNat (ByteArray.empty,((0:Int),((0:Int),((0:Int),(((0:Int),(0:Int)),((0:Int),((0:Int),((0:Int),((0:Int),(0:Int))))))))))
def X1 (l:List Cd):cpC l=l:=by
 unfold cpC;rw [FX];exact QM
structure PX where
 (n i:Int)
 p:PK
 ev:EW
 Bf:List ByteArray
 Bz:List Ko
 BN:List Ch
 C0:List Ba
 o:List Cd
def vF (s:PX):T (Rd PX):=letI b:=s.o.getD s.i.toNat<|Ty.dflt Ad;letI a:=(s.o.set s.i.toNat (b.1,(b.2.1,((s.p.tg.getD s.i.toNat<|Ty.dflt A7),b.2.2.2))));.br (an<|s.i<s.n) (.ik s.i (M s.p.tg)<|.ik s.i (M s.o)<|.rl s.p.tg<|.rl s.p.cs<|.rl s.p.fl<|.rl s.p.ra<|.pb s.p<|.re (M s.o) a<|.nx {s with i:=AA<|s.i+1,o:=a})<|.rl s.p.tg<|.rl s.p.cs<|.rl s.p.fl<|.rl s.p.ra<|.pb s.p<|.rl s.o<|.so (.exit 0) s
def jd (s:PX):Prop:=s.i=0/\s.n=(M s.p.tg:Int)/\M s.p.tg=M s.p.cs/\s.n<=1000/\s.o=ET s.p.cs s.p.tg s.i.toNat
def YA (s:PX):Prop:=(0<=s.i/\s.i<=s.n)/\s.n=(M s.p.tg:Int)/\M s.p.tg=M s.p.cs/\s.n<=1000/\s.o=ET s.p.cs s.p.tg s.i.toNat
def tF (s:PX):Nat:=(s.n-s.i).toNat
def aAI (x:Ex) (s s':PX):Prop:=x=.exit 0/\s'.o=ET s'.p.cs s'.p.tg (M s'.p.tg)
def alu:∀s,jd s->YA s:=by
 exact aLW
theorem agN:Da YA tF aAI vF:=by
 intro s hI;obtain ⟨⟨h0,h1⟩,h2,h3,h4,h5⟩:=hI
 have hl:M s.o=M s.p.cs:=lI
 refine AH (λc1=>?_) λc1=>?_
 ·have c1:s.i<s.n:=A8
  rw [AJ (x:=s.i+1)];refine ⟨⟨⟨A8,A8⟩,h2,h3,h4,?_⟩,by simp only [tF];omega⟩
  exact aKh
 ·have c1:s.n<=s.i:=A8
  refine ⟨rfl,?_⟩
  grind
def UN:AT PX:=⟨18,34,[2,3,19,20,21],[],λs=>[.own 18 0,.own 19 0,.os 15 1 0<|M s.p.tg,s.n,s.i],λs=>[AP,AP,zB,AP,bV 79 Ad s.p.cs,AP,bV 5 (.int aw) s.p.fl,bV 143 Am s.p.ra,bV 58 B3 s.p.st,bV 69 AQ s.p.ca,bV 148 B6 s.p.mi,bV 105 BQ s.p.me,bV 71 Au s.p.dm,bV 154 BM s.p.lk,bV 3 A7 s.p.dr,bV 3 A7 s.p.tg,⟨[.os 4 11 0<|M s.p.cs,.xl .str s.p.os,.xl Ai s.p.ks,.xl Ae s.p.gs,.xl Aj s.p.bs,.v<|Y J s.p.tk,.v<|.bool s.p.up,.xl AQ s.p.ls,.v<|Y J s.p.se,.os 6 1 0<|M s.p.fl,.os 7 2 0<|M s.p.ra,.v<|Y J s.p.nx,.os 8 4 0<|M s.p.st,.os 9 5 0<|M s.p.ca,.os 10 3 0<|M s.p.mi,.os 11 3 0<|M s.p.me,.os 12 4 0<|M s.p.dm,.os 13 6 0<|M s.p.lk,.os 14 1 0<|M s.p.dr,.os 15 1 0<|M s.p.tg,.v<|Y J s.ev.ek,.v<|Y J s.ev.en,.v<|Y J s.ev.em,.v<|Y J s.ev.c1,.v<|Y J s.ev.c2,.v<|Y J s.ev.c3,.v<|Y J s.ev.c4,.v<|Y J s.ev.c5,.v<|.bool s.ev.d1,.v<|Y J s.ev.d2,.v<|Y J s.ev.d3,.v<|Y J s.ev.d4,.v<|.slice aj 0 0],116,.cl,X⟩,AP,⟨[.v<|.slice aj 0 0,.v<|.slice aj 0 0,.v<|.slice aj 0 0,.v<|.slice aj 0 0,.v<|.slice aj 0 0],28,.cl,X⟩,⟨[.os 20 11 0<|M s.o,s.Bf,s.Bz,s.BN,s.C0],28,.cl,X⟩,bV 79 Ad s.o],λv b=>⟨AK v 3,AK v 4,rB b 16 4 0 6 7 8 9 10 11 12 13 14 15,rG b,AF .str b 19 1,AF Ai b 19 2,AF Ae b 19 3,AF Aj b 19 4,Ab Ad b 20⟩,vF,λs r=> {s with i:=r.i,o:=r.o},λs=>s,λ_ s=>s,[.exit 0],jd,YA,tF⟩
abbrev aGu:=UN.run
abbrev atA:=UN.Av
def P6:List Bd:=[]
def azf:Ay:=kI P6<|la 9 func29 Cn<|l0 P6
def awL:Rq YA vF:=by
 intro s hI;refine ⟨λc1=>⟨?_,?_,?_,?_,A9,A9,A9,A9,A9,A9,A9,A9,A9,A9,A9,A9,?_,ak⟩,λc1=>⟨A9,A9,A9,A9,A9,A9,A9,A9,A9,A9,A9,A9,A9,ak⟩⟩
 all_goals ((obtain ⟨⟨h0,h1⟩,h2,h3,h4,h5⟩:=hI;have hl:M s.o=M s.p.cs:=lI;(try simp only [Ac] at c1);first|omega|exact ⟨rfl,rfl⟩ |exact ⟨rfl,AI⟩))
def aQ4:UN.Ok:={}
def aOb:UN.Pf (aAI):=⟨alu,λs h=>rfl,agN,awL⟩
def aGL:=s2 (b:=bN f79 0) aQ4 aOb P6 azf
def asi:Fi jd YA aAI atA aGu:=AT.fin aQ4 aOb
structure LW where
 p:PK
 ev:EW
def UG (s:LW):List LV:=[.own 16 0]
def Yk (s:LW):List AB:=[AP,AP,zB,AP,bV 79 Ad s.p.cs,AP,bV 5 (.int aw) s.p.fl,bV 143 Am s.p.ra,bV 58 B3 s.p.st,bV 69 AQ s.p.ca,bV 148 B6 s.p.mi,bV 105 BQ s.p.me,bV 71 Au s.p.dm,bV 154 BM s.p.lk,bV 3 A7 s.p.dr,bV 3 A7 s.p.tg,⟨[.os 4 11 0<|M s.p.cs,.xl .str s.p.os,.xl Ai s.p.ks,.xl Ae s.p.gs,.xl Aj s.p.bs,.v<|Y J s.p.tk,.v<|.bool s.p.up,.xl AQ s.p.ls,.v<|Y J s.p.se,.os 6 1 0<|M s.p.fl,.os 7 2 0<|M s.p.ra,.v<|Y J s.p.nx,.os 8 4 0<|M s.p.st,.os 9 5 0<|M s.p.ca,.os 10 3 0<|M s.p.mi,.os 11 3 0<|M s.p.me,.os 12 4 0<|M s.p.dm,.os 13 6 0<|M s.p.lk,.os 14 1 0<|M s.p.dr,.os 15 1 0<|M s.p.tg,.v<|Y J s.ev.ek,.v<|Y J s.ev.en,.v<|Y J s.ev.em,.v<|Y J s.ev.c1,.v<|Y J s.ev.c2,.v<|Y J s.ev.c3,.v<|Y J s.ev.c4,.v<|Y J s.ev.c5,.v<|.bool s.ev.d1,.v<|Y J s.ev.d2,.v<|Y J s.ev.d3,.v<|Y J s.ev.d4,.v<|.slice aj 0 0],116,.cl,X⟩,AP]
def ou (s:LW):PX:=(⟨((M s.p.tg:Nat):Int),0,s.p,s.ev,s.p.os,s.p.ks,s.p.gs,s.p.bs,cpC s.p.cs⟩:PX)
structure YG where
 so:List ByteArray
 sk:List Ko
 sg:List Ch
 sb:List Ba
 p:PK
 ev:EW
 o:List Cd
def abw (s:YG):LV:=.agg [.os 18 11 0<|M s.o,s.so,s.sk,s.sg,s.sb]
def acR (s:YG):List AB:=[AP,AP,zB,AP,bV 79 Ad s.p.cs,AP,bV 5 (.int aw) s.p.fl,bV 143 Am s.p.ra,bV 58 B3 s.p.st,bV 69 AQ s.p.ca,bV 148 B6 s.p.mi,bV 105 BQ s.p.me,bV 71 Au s.p.dm,bV 154 BM s.p.lk,bV 3 A7 s.p.dr,bV 3 A7 s.p.tg,⟨[.os 4 11 0<|M s.p.cs,.xl .str s.p.os,.xl Ai s.p.ks,.xl Ae s.p.gs,.xl Aj s.p.bs,.v<|Y J s.p.tk,.v<|.bool s.p.up,.xl AQ s.p.ls,.v<|Y J s.p.se,.os 6 1 0<|M s.p.fl,.os 7 2 0<|M s.p.ra,.v<|Y J s.p.nx,.os 8 4 0<|M s.p.st,.os 9 5 0<|M s.p.ca,.os 10 3 0<|M s.p.mi,.os 11 3 0<|M s.p.me,.os 12 4 0<|M s.p.dm,.os 13 6 0<|M s.p.lk,.os 14 1 0<|M s.p.dr,.os 15 1 0<|M s.p.tg,.v<|Y J s.ev.ek,.v<|Y J s.ev.en,.v<|Y J s.ev.em,.v<|Y J s.ev.c1,.v<|Y J s.ev.c2,.v<|Y J s.ev.c3,.v<|Y J s.ev.c4,.v<|Y J s.ev.c5,.v<|.bool s.ev.d1,.v<|Y J s.ev.d2,.v<|Y J s.ev.d3,.v<|Y J s.ev.d4,.v<|.slice aj 0 0],116,.cl,X⟩,AP,bV 79 Ad s.o]
def fk (s:LW):T YG:=letI a:=((M s.p.cs:Nat):Int);.rm 96 a<|.rz s.p.cs<|.rc a (ByteArray.empty,((0:Int),((0:Int),((0:Int),(((0:Int),(0:Int)),((0:Int),((0:Int),((0:Int),((0:Int),(0:Int)))))))))) (M<|AR s.p.cs)<|.rl s.p.tg<|.rl s.p.cs<|.rl s.p.fl<|.rl s.p.ra<|.pb s.p<|.re a.toNat (cpC s.p.cs)<|.req (UN.q<|ou s)<|.rl s.p.cs<|.rl s.p.fl<|.rl s.p.ra<|.pb s.p<|.ok<|⟨s.p.os,s.p.ks,s.p.gs,s.p.bs,s.p,s.ev,(aGu<|ou s).o⟩
def jj (s:LW):Prop:=M s.p.tg=M s.p.cs/\M s.p.tg<=1000
def aTj (s:LW):YG:=⟨s.p.os,s.p.ks,s.p.gs,s.p.bs,s.p,s.ev,ET s.p.cs s.p.tg<|M s.p.tg⟩
def jq:Cr LW YG:=⟨UG,Yk,λv b=>⟨rB b 16 4 0 6 7 8 9 10 11 12 13 14 15,rG b⟩,jj,[0,1,3,5,17],[],abw,acR,aTj⟩
abbrev aiS (s:LW):Prop:=jj s/\UG s=UG s/\Yk s=Yk s
def aRK:Ay:=kI P6<|la 4 func79 aGL<|la 9 func29 Cn<|l0 P6
def aTe:DG:=CR 79 18 4 (UN.lp)<|CR 29 0 9 (Gg.lp)<|Dp prog AV P6 20 2
def aoI:EF prog AV aTe:=D6 func79 rfl AU aGL<|D6 func29 rfl AU Cn<|Hg<|gk P6
def ayx (s:LW):((ER prog AV P6 aTe aRK).k 79 (UG s)<|Yk s).bind (λq=>G8 (M<|Yk s) [0] [] .normal (q.1::UG s) q.2)=(fk s).mp (λs2=>⟨.normal,M (UG s)+1,[abw s2],acR s2,U⟩):=AU
theorem aw6 (s:LW) (hE:jj s):(fk s).all (λq=>q=aTj s):=by
 obtain ⟨ht,hn⟩:=hE
 have hA:jd (ou s):=⟨rfl,rfl,ht,aN0,X1 _⟩
 obtain ⟨_,_,_,q2⟩:=asi _ hA;unfold fk;simp only [FX,X1,q2]
 repeat (refine ⟨A8,?_⟩)
 refine ⟨⟨hA,rfl,rfl⟩,?_⟩
 repeat (refine ⟨AI,?_⟩)
 rfl
def aRz:DV prog AV 79 jq.m:=Cr.sound (D:=jq) (t:=fk) (gk P6) aoI aRK.h ayx λs hE=>⟨aw6 s hE⟩
structure Nt where
 xs:List Le
 (n i:Int)
 p:PK
 ev:EW
def ve (s:Nt):T (Rd Nt):=letI c:=An s.xs s.i;letI e:=AA<|s.i+1;letI a:=((AA<|s.p.tk+((AA<|(AA<|7*s.p.tk)+(AA<|3*c.2.1)).tmod 5)),c);letI b:=Cg s.p.se s.p.fl c s.p.tk;letI d:=(AA<|(M b:Int)-1);.br (an<|s.i<s.n) (.ix s.i (M s.xs)<|.br ((FN s.p.ls c) !=0) (.rl s.p.cs<|.rl s.p.st<|.rl s.p.ca<|.rl s.p.mi<|.rl s.p.me<|.rl s.p.lk<|.rl s.p.dr<|.rl s.p.tg<|.nx {s with i:=e})<|.req (BI s.p.fl/\(Bo s.p.se s.p.fl=0->M8 s.p.fl=U))<|.br ((EI s.p.se s.p.fl c s.p.tk) !=0) (.rl s.p.cs<|.rl s.p.st<|.rl s.p.ca<|.rl s.p.mi<|.rl s.p.me<|.rl s.p.lk<|.rl s.p.dr<|.rl s.p.tg<|.nx {s with i:=e})<|.ix d (M b)<|.req ((5:Int)≠0)<|.rb (M s.p.lk) (M<|[a]) 48<|.rl s.p.cs<|.rl s.p.st<|.rl s.p.ca<|.rl s.p.mi<|.rl s.p.me<|.re (M s.p.lk+M ([a])) (s.p.lk++([a]))<|.rl s.p.dr<|.rl s.p.tg<|.nx {s with i:=e,p.ls:=Gk s.p.ls c,p.se:=(GB b d).1,p.fl:=(GB b d).2,p.nx:=AA<|c.1+1,p.lk:=s.p.lk++([a])})<|.rl s.p.cs<|.rl s.p.st<|.rl s.p.ca<|.rl s.p.mi<|.rl s.p.me<|.rl s.p.lk<|.rl s.p.dr<|.rl s.p.tg<|.so (.exit 0) s
def Lg (p:PK) (xs:List Le):PK:=letI a:=(xs.foldl (FK p.tk) ⟨p.ls,p.se,p.fl,p.nx,p.lk⟩);{p with ls:=a.ls,se:=a.se,fl:=a.fl,nx:=a.nx,lk:=a.lk}
theorem Dg {a b:Int}(h:(a !=b)=X):a=b:=A8
def oK {p:PK}{x:Le}(h:VK p.se p.fl) (hE:EI p.se p.fl x p.tk=0):letI a:=Cg p.se p.fl x p.tk;AA ((M a:Int)-1)=(M a:Int)-1/\0<M a:=by
 have h1:=aoK h.1 hE
 have h2:=(h.st hE).1
 exact ⟨AJ,h2⟩
theorem aiT {se:Int}{fl:List Int}{x:Le}{t:Int}(h:EI se fl x t=0):0<=x.1/\x.1<=1000000:=by
 unfold EI at h;split at h
 ·grind
 ·split at h
  ·cases h
  ·rename_i h1
   have:D5 x=true:=by
    cases e:D5 x
    ·grind
    ·rfl
   have:=LD.1 this
   omega
def az6 {l:List Le}{i:Int}(h0:0<=i) (h:i<M l):An l i∈l:=MR h0 h
def ah7 {t c:Int}(ht:0<=t/\t<=1000000) (hc:0<=c/\c<=100):AA (t+(AA<|AA (7*t)+AA (3*c)).tmod 5)=t+(7*t+3*c).tmod 5:=by
 rw [AJ (x:=7*t),AJ (x:=3*c),AJ (x:=7*t+3*c)]
 have:=Int.tmod_nonneg 5 (show 0<=7*t+3*c by omega)
 have:=Int.tmod_lt_of_pos (7*t+3*c) (show (0:Int)<5 by decide)
 exact AJ
def iQ (s:Nt):Prop:=s.i=0/\s.n=(M s.xs:Int)/\s.n<=16/\(∀x∈s.xs,0<=x.2.1/\x.2.1<=100)/\(0<=s.p.tk/\s.p.tk<=1000000)/\VK s.p.se s.p.fl/\(M s.p.lk:Int)<=17000000+s.i
def jH (s:Nt):Prop:=(0<=s.i/\s.i<=s.n)/\s.n=(M s.xs:Int)/\s.n<=16/\(∀x∈s.xs,0<=x.2.1/\x.2.1<=100)/\(0<=s.p.tk/\s.p.tk<=1000000)/\VK s.p.se s.p.fl/\(M s.p.lk:Int)<=17000000+s.i
def eR (s:Nt):Nat:=(s.n-s.i).toNat
def acV (x:Ex) (s s':Nt):Prop:=True
def alh:∀s,iQ s->jH s:=by
 exact aMN
theorem ah2:Da jH eR acV ve:=by
 intro s hI;obtain ⟨⟨h0,h1⟩,h2,h3,h4,h5,h6,h7⟩:=hI;refine AH (λc1=>AH (λc2=>?_) λc2=>AH (λc3=>?_) λc3=>?_) λc1=>trivial
 all_goals have c1:s.i<s.n:=AX
 all_goals rw [AJ (x:=s.i+1)]
 iterate 2
  ·exact ⟨⟨⟨AZ,AZ⟩,h2,h3,h4,h5,h6,AZ⟩,by simp only [eR];omega⟩
 ·rw [(oK h6<|Dg c3).1]
  exact ⟨⟨⟨A8,AZ⟩,h2,h3,h4,h5,(h6.st<|Dg c3).2,A8⟩,by simp only [eR];omega⟩
def UL:AT Nt:=⟨18,85,[0,75,76,77],[.pc 16 7 AQ,.kb 5,.pc 16 9<|.int aw,.kb 6,.pc 16 10 Am,.kb 7,.pc 16 16 Au,.kb 12,.ms 0 17],λs=>[.own 16 0,s.xs,s.n,s.i],λs=>[AP,AP,zB,AP,bV 79 Ad s.p.cs,AP,AP,AP,bV 58 B3 s.p.st,bV 69 AQ s.p.ca,bV 148 B6 s.p.mi,bV 105 BQ s.p.me,AP,⟨[],154,.dead,X⟩,bV 3 A7 s.p.dr,bV 3 A7 s.p.tg,⟨[.os 4 11 0<|M s.p.cs,.xl .str s.p.os,.xl Ai s.p.ks,.xl Ae s.p.gs,.xl Aj s.p.bs,.v<|Y J s.p.tk,.v<|.bool s.p.up,.xl AQ s.p.ls,.v<|Y J s.p.se,.xl (.int aw) s.p.fl,.xl Am s.p.ra,.v<|Y J s.p.nx,.os 8 4 0<|M s.p.st,.os 9 5 0<|M s.p.ca,.os 10 3 0<|M s.p.mi,.os 11 3 0<|M s.p.me,.xl Au s.p.dm,.os 18 6 0<|M s.p.lk,.os 14 1 0<|M s.p.dr,.os 15 1 0<|M s.p.tg,.v<|Y J s.ev.ek,.v<|Y J s.ev.en,.v<|Y J s.ev.em,.v<|Y J s.ev.c1,.v<|Y J s.ev.c2,.v<|Y J s.ev.c3,.v<|Y J s.ev.c4,.v<|Y J s.ev.c5,.v<|.bool s.ev.d1,.v<|Y J s.ev.d2,.v<|Y J s.ev.d3,.v<|Y J s.ev.d4,.v<|.slice aj 0 0],116,.cl,X⟩,AP,bV 154 BM s.p.lk],λv b=>⟨B5 AQ v 1,AK v 2,AK v 3,rB b 16 4 0 0 0 8 9 10 11 0 18 14 15,rG b⟩,ve,λs r=> {s with i:=r.i,p.ls:=r.p.ls,p.se:=r.p.se,p.fl:=r.p.fl,p.nx:=r.p.nx,p.lk:=r.p.lk},λs=>s,λ_ s=>s,[.exit 0],iQ,jH,eR⟩
abbrev aBn:=UL.run
abbrev asv:=UL.Av
def uA:List Bd:=[dx,aJY,aaU,aaM]
def aze:Ay:=I2 uA (la 9 func29 Cn<|l0 uA) [⟨79,jq.m,aRz⟩]
def awD:Rq jH ve:=by
 intro s hI;refine ⟨λc1=>⟨?_,λc2=>⟨A9,A9,A9,A9,A9,A9,A9,A9,ak⟩,λc2=>⟨?_,λc3=>⟨A9,A9,A9,A9,A9,A9,A9,A9,ak⟩,λc3=>⟨?_,?_,?_,A9,A9,A9,A9,A9,?_,A9,A9,ak⟩⟩⟩,λc1=>⟨A9,A9,A9,A9,A9,A9,A9,A9,ak⟩⟩
 all_goals ((obtain ⟨⟨h0,h1⟩,h2,h3,h4,h5,h6,h7⟩:=hI;simp only [Ac] at c1;first|omega|exact ⟨rfl,rfl⟩ |exact ⟨h6.1.2.2,λ_=>h6.cl⟩ |(simp only [Bk,Bp,BF];omega) |(simp only [BF,Bk,Bp,FA];done) |(rw [(oK h6<|Dg c3).1];have:=(oK h6<|Dg c3).2;omega)))
def aQa:UL.Ok:={}
def aOU:UL.Pf (acV):=⟨alh,λs h=>rfl,ah2,awD⟩
def aGI:=s2 (b:=bN f64 0) aQa aOU uA aze
theorem asT:Rs iQ asv aBn (λs:Nt=>Lg s.p<|s.xs.drop s.i.toNat) (λx s' (v:PK)=>x=.exit 0/\s'.p=v):=DJ aQa aOU (λs hI=>by
  obtain ⟨⟨h0,h1⟩,h2,h3,h4,h5,h6,h7⟩:=hI;refine AH (λc1=>?_) λc1=>?_
  ·have c1:s.i<s.n:=A8
   have e:=(W9 h0 (show s.i<(M s.xs:Int) by omega)).1
   rw [AJ (x:=s.i+1),e];refine AH (λc2=>?_) λc2=>AH (λc3=>?_) λc3=>?_
   ·show Lg s.p _=Lg s.p _
    unfold Lg;rw [Jy,show FK s.p.tk ⟨s.p.ls,s.p.se,s.p.fl,s.p.nx,s.p.lk⟩ (An s.xs s.i)=⟨s.p.ls,s.p.se,s.p.fl,s.p.nx,s.p.lk⟩ from AE λh=>Ek.1 c2 h.1]
   ·show Lg s.p _=Lg s.p _
    unfold Lg;rw [Jy,show FK s.p.tk ⟨s.p.ls,s.p.se,s.p.fl,s.p.nx,s.p.lk⟩ (An s.xs s.i)=⟨s.p.ls,s.p.se,s.p.fl,s.p.nx,s.p.lk⟩ from AE λh=>Ek.1 c3 h.2]
   ·have hx:=h4 _ (az6 h0 (show s.i<(M s.xs:Int) by omega))
    have hn:=aiT<|Dg c3
    rw [(oK h6<|Dg c3).1,ah7 h5 hx,AJ (x:=(An s.xs s.i).1+1)]
    show Lg _ _=Lg s.p _
    conv=>rhs;unfold Lg
    rw [Jy,show FK s.p.tk ⟨s.p.ls,s.p.se,s.p.fl,s.p.nx,s.p.lk⟩ (An s.xs s.i)=_ from AD ⟨Dg c2,Dg c3⟩];rfl
  ·have c1:s.n<=s.i:=A8
   refine ⟨rfl,?_⟩;rw [El A0];rfl)
def aSB:List LV->T LV
 | [.xl (.pair (.int J) (.pair (.int J) (.pair (.int J) (.pair (.int J) (.int J))))) l,.v (Y J t)]=> .req (D9 l t=0) (.ok<|.AO [BW l t,.ki J 0])
 |_=> .no
def aby:=uS f77 aSB
theorem aiM:VV 77 aby:=λargs vals w Z lv h1 h2 h3 h4 h=>by
 have key:∃l t,lv=.AO [.xl AQ<|BW l t,.ki J 0]/\(ub args).all (λx=>x=.AO [.xl AQ<|BW l t,.v<|Y J 0]):=by
  unfold aby uS Ju aSB at h;split at h
  ·rename_i l t e
   obtain ⟨g1,g2⟩:=h;refine ⟨l,t,g2.symm,?_⟩;unfold ub uS Ju;rw [e]
   show LV.AO [.xl AQ _,.v<|Y J<|D9 _ _]=_
   rw [g1]
  ·cases h
 obtain ⟨l,t,rfl,hk⟩:=key;refine (dx args vals w Z _ h1 h2 h3 h4 hk).mono λe w' ⟨hb,v,he,ho,hr⟩=>⟨hb,v,he,?_,?_⟩
 ·simp only [okV,AS] at ho|-
  grind
 ·simp only [R,RL] at hr|-
  exact hr
structure LO where
 p:PK
 ev:EW
def UZ (s:LO):List LV:=[.own 16 0]
def Yf (s:LO):List AB:=[AP,AP,zB,AP,bV 79 Ad s.p.cs,bV 90 AQ s.p.ls,bV 5 (.int aw) s.p.fl,bV 143 Am s.p.ra,bV 58 B3 s.p.st,bV 69 AQ s.p.ca,bV 148 B6 s.p.mi,bV 105 BQ s.p.me,bV 71 Au s.p.dm,bV 154 BM s.p.lk,bV 3 A7 s.p.dr,bV 3 A7 s.p.tg,⟨[.os 4 11 0<|M s.p.cs,.xl .str s.p.os,.xl Ai s.p.ks,.xl Ae s.p.gs,.xl Aj s.p.bs,.v<|Y J s.p.tk,.v<|.bool s.p.up,.os 5 5 0<|M s.p.ls,.v<|Y J s.p.se,.os 6 1 0<|M s.p.fl,.os 7 2 0<|M s.p.ra,.v<|Y J s.p.nx,.os 8 4 0<|M s.p.st,.os 9 5 0<|M s.p.ca,.os 10 3 0<|M s.p.mi,.os 11 3 0<|M s.p.me,.os 12 4 0<|M s.p.dm,.os 13 6 0<|M s.p.lk,.os 14 1 0<|M s.p.dr,.os 15 1 0<|M s.p.tg,.v<|Y J s.ev.ek,.v<|Y J s.ev.en,.v<|Y J s.ev.em,.v<|Y J s.ev.c1,.v<|Y J s.ev.c2,.v<|Y J s.ev.c3,.v<|Y J s.ev.c4,.v<|Y J s.ev.c5,.v<|.bool s.ev.d1,.v<|Y J s.ev.d2,.v<|Y J s.ev.d3,.v<|Y J s.ev.d4,.v<|.slice aj 0 0],116,.cl,X⟩,AP]
def aEW (s:LO):LW:=(⟨{s.p with ls:=BW (AR s.p.ls) s.p.tk},s.ev⟩:LW)
def mm (s:LO):Nt:=letI b:=BW (AR s.p.ls) s.p.tk;letI c:=AR<|ET s.p.cs s.p.tg<|M s.p.tg;letI a:=deL c s.p.os s.p.ks s.p.gs s.p.bs b (AR s.p.ra) (AR s.p.dm) s.p.tk s.p.nx;(⟨a,(M a:Int),0,{s.p with ls:=b,fl:=AR s.p.fl,ra:=deR c s.p.os s.p.ks s.p.gs s.p.bs b (AR s.p.ra) (AR s.p.dm) s.p.tk s.p.nx,dm:=AR s.p.dm},s.ev⟩:Nt)
structure Xe where
 p:PK
 ev:EW
def abq (s:Xe):LV:=.v<|.tuple #[]
def acM (s:Xe):List AB:=[AP,AP,zB,AP,bV 79 Ad s.p.cs,AP,AP,AP,bV 58 B3 s.p.st,bV 69 AQ s.p.ca,bV 148 B6 s.p.mi,bV 105 BQ s.p.me,AP,AP,bV 3 A7 s.p.dr,bV 3 A7 s.p.tg,⟨[.os 4 11 0<|M s.p.cs,.xl .str s.p.os,.xl Ai s.p.ks,.xl Ae s.p.gs,.xl Aj s.p.bs,.v<|Y J s.p.tk,.v<|.bool s.p.up,.xl AQ s.p.ls,.v<|Y J s.p.se,.xl (.int aw) s.p.fl,.xl Am s.p.ra,.v<|Y J s.p.nx,.os 8 4 0<|M s.p.st,.os 9 5 0<|M s.p.ca,.os 10 3 0<|M s.p.mi,.os 11 3 0<|M s.p.me,.xl Au s.p.dm,.xl BM s.p.lk,.os 14 1 0<|M s.p.dr,.os 15 1 0<|M s.p.tg,.v<|Y J s.ev.ek,.v<|Y J s.ev.en,.v<|Y J s.ev.em,.v<|Y J s.ev.c1,.v<|Y J s.ev.c2,.v<|Y J s.ev.c3,.v<|Y J s.ev.c4,.v<|Y J s.ev.c5,.v<|.bool s.ev.d1,.v<|Y J s.ev.d2,.v<|Y J s.ev.d3,.v<|Y J s.ev.d4,.v<|.slice aj 0 0],116,.cl,X⟩,AP]
def ff (s:LO):T Xe:=letI a:=ET s.p.cs s.p.tg<|M s.p.tg;letI b:=BW (AR s.p.ls) s.p.tk;letI c:=aBn<|mm s;letI d:=AR s.p.dm;.br (!s.p.up) (.rz s.p.ls<|.rz s.p.fl<|.rz s.p.ra<|.rz s.p.dm<|.rz s.p.lk<|.pd s.p<|.ok<|⟨{s.p with ls:=AR s.p.ls,fl:=AR s.p.fl,ra:=AR s.p.ra,dm:=AR s.p.dm,lk:=AR s.p.lk},s.ev⟩)<|.rz s.p.ls<|.req (D9 (AR s.p.ls) s.p.tk=0)<|.rl s.p.cs<|.rl s.p.fl<|.rl s.p.ra<|.pb s.p<|.req (aiS<|aEW s)<|.rv (.xl AQ b)<|.rv (.os 7 2 0<|M s.p.ra)<|.rv (.os 12 4 0<|M s.p.dm)<|.rv (.v<|Y J s.p.tk)<|.rv (.v<|Y J s.p.nx)<|.rz a<|.rz s.p.ra<|.rz s.p.dm<|.req (IQ d s.p.tk/\M d<=19)<|.br ((deE (AR a) s.p.os s.p.ks s.p.gs s.p.bs b (AR s.p.ra) d s.p.tk s.p.nx) !=0) (.rz s.p.fl<|.rz s.p.ra<|.rz s.p.dm<|.rz s.p.lk<|.pd s.p<|.ok<|⟨{s.p with ls:=b,fl:=AR s.p.fl,ra:=AR s.p.ra,dm:=AR s.p.dm,lk:=AR s.p.lk},s.ev⟩)<|.rz s.p.fl<|.rz s.p.dm<|.rl s.p.cs<|.rl s.p.st<|.rl s.p.ca<|.rl s.p.mi<|.rl s.p.me<|.rl s.p.lk<|.rl s.p.dr<|.rl s.p.tg<|.req (UL.q<|mm s)<|.rz c.p.lk<|.pd s.p<|.ok<|⟨{s.p with ls:=c.p.ls,se:=c.p.se,fl:=c.p.fl,ra:=deR (AR a) s.p.os s.p.ks s.p.gs s.p.bs b (AR s.p.ra) d s.p.tk s.p.nx,nx:=c.p.nx,dm:=d,lk:=AR c.p.lk},s.ev⟩
def aDX {t:Int}{xs:List Le}{s:SN}:∀k,k<=M xs->FM t xs s k=(xs.take k).foldl (FK t) s
 |0,_=>rfl
 |k+1,h=>by
  rw [FM,aDX k A0,ZM A0,List.foldl_append];rw [show An xs (k:Int)=xs[k]' A0 from Nf A0];rfl
def amv {p:PK}:p.sn1=p.dL.foldl (FK p.tk) p.Gt:=by
 unfold PK.sn1;rw [aDX _<|Ar _,EN]
def anh {l:List Le}{t:Int}(h:BC l=U) (ht:0<=t/\t<=1000000):D9 l t=0:=by
 have e:Ka l t=true:=by unfold Ka;rw [h,BV.2 A0];rfl
 exact AD e
def RQ.wd {p:PK}(h:RQ p) (hv:VP p):IQ p.dm p.tk/\M p.dm<=19:=by
 have hg:=(DF.1 hv.site).1
 have ht:=hv.tk
 refine ⟨⟨λx hx=>?_,A0,A0⟩,by rw [hv.dm];omega⟩
 have:=h.dm x hx
 unfold HR at this;simp only [AY,BV] at this;omega
def aAn (s:LO):Prop:=(VP s.p/\RQ s.p)/\VK s.p.se s.p.fl/\BC s.p.ls=U
def XG (s:LO):Xe:=⟨PK.AM s.p,s.ev⟩
def PL:Cr LO Xe:=⟨UZ,Yf,λv b=>⟨rF b,rG b⟩,aAn,[0,1,3,17],[.pc 16 7 AQ,.kb 5,.pc 16 9<|.int aw,.kb 6,.pc 16 10 Am,.kb 7,.pc 16 16 Au,.kb 12,.pc 16 17 BM,.kb 13],abq,acM,XG⟩
abbrev ahH (s:LO):Prop:=aAn s/\UZ s=UZ s/\Yf s=Yf s
def Wh:List Bd:=[aiM,aJY,aaU,aaM]
def aQg:Ay:=I2 Wh (la 9 func64 aGI<|la 9 func29 Cn<|l0 Wh) [⟨79,jq.m,aRz⟩]
def aSw:DG:=CR 64 18 9 (UL.lp)<|CR 29 0 9 (Gg.lp)<|Dp prog AV Wh 20 2
def aoD:EF prog AV aSw:=D6 func64 rfl AU aGI<|D6 func29 rfl AU Cn<|Hg<|gk Wh
def ayo (s:LO):((ER prog AV Wh aSw aQg).k 64 (UZ s)<|Yf s).bind (λq=>G8 (M<|Yf s) [0] [.pc 16 7 AQ,.kb 5,.pc 16 9<|.int aw,.kb 6,.pc 16 10 Am,.kb 7,.pc 16 16 Au,.kb 12,.pc 16 17 BM,.kb 13] .normal (q.1::UZ s) q.2)=(ff s).mp (λs2=>⟨.normal,M (UZ s)+1,[abq s2],acM s2,U⟩):=AU
def aw1 (s:LO) (hE:aAn s):(ff s).all (λq=>q=XG s):=by
 obtain ⟨⟨hV,hR⟩,hK,hls⟩:=hE
 have hs:=DF.1 hV.site
 have ht:=hV.Gs
 have hwd:=hR.wd hV
 have htk:=hV.tk
 have hx:D9 s.p.ls s.p.tk=0:=anh hls htk
 have hxs:Dt s.p.ls s.p.tk=BW s.p.ls s.p.tk:=AD hx
 have hA:jj (aEW s):=⟨ht,by show M s.p.tg<=1000;omega⟩
 have q2:ET s.p.cs s.p.tg (M s.p.tg)=s.p.Fy:=rfl
 have e1:deE s.p.Fy s.p.os s.p.ks s.p.gs s.p.bs (BW s.p.ls s.p.tk) s.p.ra s.p.dm s.p.tk s.p.nx=s.p.dE:=by unfold PK.dE;rw [hxs]
 have e2:deR s.p.Fy s.p.os s.p.ks s.p.gs s.p.bs (BW s.p.ls s.p.tk) s.p.ra s.p.dm s.p.tk s.p.nx=s.p.dR:=by unfold PK.dR;rw [hxs]
 have e3:deL s.p.Fy s.p.os s.p.ks s.p.gs s.p.bs (BW s.p.ls s.p.tk) s.p.ra s.p.dm s.p.tk s.p.nx=s.p.dL:=by unfold PK.dL;rw [hxs]
 have hst:mm s=⟨s.p.dL,(M s.p.dL:Int),0,{s.p with ls:=BW s.p.ls s.p.tk,ra:=s.p.dR},s.ev⟩:=by
  unfold mm;simp only [FX,q2,e2,e3]
 have hB:iQ ⟨s.p.dL,(M s.p.dL:Int),0,{s.p with ls:=BW s.p.ls s.p.tk,ra:=s.p.dR},s.ev⟩:=by
  refine ⟨rfl,rfl,?_,λx hx=>?_,htk,hK,?_⟩
  ·have:=ue (p:=s.p);show (M s.p.dL:Int)<=16;omega
  ·have:=zz (p:=s.p) x hx;omega
  ·have:=hR.lk;show (M s.p.lk:Int)<=17000000+0;omega
 have q3:=(asT _ hB).2
 have q3:(aBn ⟨s.p.dL,(M s.p.dL:Int),0,{s.p with ls:=BW s.p.ls s.p.tk,ra:=s.p.dR},s.ev⟩).p=Lg {s.p with ls:=BW s.p.ls s.p.tk,ra:=s.p.dR} s.p.dL:=q3
 unfold ff;simp only [FX,X1,q2,e1,e2,hst,q3];refine ⟨λc=>?_,λc=>?_⟩
 ·have c:s.p.up=false:=Ig
  repeat (refine ⟨DT,?_⟩)
  show _=_
  unfold XG;rw [show PK.AM s.p=s.p from AD c]
 have hu:¬s.p.up=false:=by intro h;rw [h] at c;cases c
 refine ⟨A0,hx,?_⟩
 repeat (refine ⟨AI,?_⟩)
 refine ⟨⟨hA,rfl,rfl⟩,rfl,rfl,rfl,rfl,rfl,?_⟩
 repeat (refine ⟨DT,?_⟩)
 refine ⟨λc1=>?_,λc1=>?_⟩
 ·have c1:s.p.dE≠0:=Ek.1 c1
  repeat (refine ⟨AI,?_⟩)
  show _=_
  unfold XG;rw [show PK.AM s.p={s.p with ls:=Dt s.p.ls s.p.tk} by unfold PK.AM;rw [AE hu,AD c1],hxs]
 ·have c1:¬s.p.dE≠0:=λh=>aNq
  repeat (refine ⟨AI,?_⟩)
  refine ⟨⟨hB,rfl,rfl⟩,?_⟩
  repeat (refine ⟨AI,?_⟩)
  show _=_
  unfold XG;rw [show PK.AM s.p=_ by unfold PK.AM;rw [AE hu,AE c1],amv]
  unfold Lg PK.Gt;rw [hxs]
def TX:DV prog AV 64 PL.m:=Cr.sound (D:=PL) (t:=ff) (gk Wh) aoD aQg.h ayo λs hE=>⟨aw1 s hE⟩
def Et {α:Type}(f:Nat->α->α):Nat->α->Nat->α
 |_,s,0=>s
 |i,s,n+1=>Et f (i+1) (f i s) n
def aGo {α:Type}{f:Nat->α->α}:∀ {n i:Nat}{s:α},Et f i s (n+1)=f (i+n) (Et f i s n)
 |0,_,_=>rfl
 |n+1,i,s=>by
  rw [Et,aGo (n:=n) (i:=i+1),show i+1+n=i+(n+1) by omega]
  rfl
def Wv {α:Type}{f:Nat->α->α}{F:Nat->α}(h:∀k,F (k+1)=f k (F k)):∀n,Et f 0 (F 0) n=F n
 |0=>rfl
 |n+1=>by rw [aGo,Wv h n,h,EM]
def MN {α:Type}{f:Nat->α->α}{s:α}{i n:Int}(h0:0<=i) (h:i<n):Et f i.toNat s (n-i).toNat=Et f (i+1).toNat (f i.toNat s) (n-(i+1)).toNat:=by
 rw [show (n-i).toNat=(n-(i+1)).toNat+1 by omega,Et,show (i+1).toNat=i.toNat+1 by omega]
def nt {α:Type}{f:Nat->α->α}{s:α}{i n:Int}(h:n<=i):Et f i.toNat s (n-i).toNat=s:=by
 rw [show (n-i).toNat=0 by omega]
 rfl
def aGn {α:Type}{f:Nat->List α->List α}(h:∀k s,M (f k s)=M s):∀ {n i:Nat}{s:List α},M (Et f i s n)=M s
 |0,_,_=>rfl
 |n+1,i,s=>(aGn h (n:=n) (i:=i+1)).trans<|h i s
def tk1 (gs:List Ch) (i:Int) (_:Nat) (st:List St):List St:=CU gs st i 8 0 0
def auh {gs:List Ch}{st:List St}{i:Int}:∀n,Et (tk1 gs i) 0 st n=Lj gs st i n:=Wv (F:=Lj gs st i) λ_=>rfl
def cnt1 (gs:List Ch) (dr:List Int) (t:Int) (k:Nat) (st:List St):List St:=if HC t (gi dr k)=0/\HC (t+1) (gi dr k)=0 then Lj gs st k (BA (t+1) (gi dr k)-BA t (gi dr k)).toNat else st
def ag8 {gs:List Ch}{dr:List Int}{t:Int}{st:List St}:∀n,Et (cnt1 gs dr t) 0 st n=Lb gs dr t st n:=Wv (F:=Lb gs dr t st) λ_=>rfl
def alb {gs:List Ch}{ca:List Ca}{s:DW}:∀n,Et (λk d=>Gp gs ca d (k:Int)) 0 s n=Ez gs ca s n:=Wv (F:=Ez gs ca s) λ_=>rfl
def aL (gs:List Ch) (tg am:List Int) (k:Nat) (cs:List Cd):List Cd:=if gi tg k>=(Ag cs k).2.2.1 then cs else
  if (an (M am=M gs)&&HI (cs.set k<|IS (Ag cs k)<|gi tg k) gs am)=U then cs.set k (IS (Ag cs k)<|gi tg k) else cs
def amn {gs:List Ch}{tg am:List Int}{cs:List Cd}:∀n,Et (aL gs tg am) 0 cs n=EY gs tg am cs n:=Wv (F:=EY gs tg am cs) λ_=>rfl
def aRv {c:Ca}{m:Mi}{p al:Int}:0<=Eb c m p al/\Eb c m p al<=7:=by
 unfold Eb;split
 ·rename_i hB
  obtain ⟨hc,_,h1,h2,_⟩:=cx.1 hB
  have hc':=WH.1 hc
  unfold HA;split
  ·omega
  ·exact aCE ⟨A0,A0⟩ ⟨h1,h2⟩
 ·omega
def aaI {c:Ca}{m:Mi}{p al:Int}:IntKind.u64.wrap (Eb c m p al)=Eb c m p al:=by
 have:=aRv (c:=c) (m:=m) (p:=p) (al:=al)
 exact aMV
variable {gs : List Ch} {ca : List Ca} {st : List St} {mi : List Mi} {me : List Me} {dw : List Int} {i : Int}
def ald (h:(Bc ca i).2.2.1=0):Gp gs ca ⟨st,mi,me,dw⟩ i=⟨st,mi,me,dw⟩:=AD h
theorem alc (h:¬(Bc ca i).2.2.1=0) (h2:¬JD (Bc ca i) (Cj mi i) (AG gs i).2.2.1 (BX (AG gs i)<|BJ st i)=0):Gp gs ca ⟨st,mi,me,dw⟩ i=⟨st,mi,me,dw⟩:=by
 unfold Gp
 grind
theorem U1 (h:¬(Bc ca i).2.2.1=0) (h2:JD (Bc ca i) (Cj mi i) (AG gs i).2.2.1 (BX (AG gs i)<|BJ st i)=0):
  Gp gs ca ⟨st,mi,me,dw⟩ i=⟨if FQ (Bc ca i) (Cj mi i) (AG gs i).2.2.1 (BX (AG gs i)<|BJ st i)>BX (AG gs i) (BJ st i) then CU gs st i 6 2 0 else st,mi.set i.toNat<|Jp (Bc ca i) (Cj mi i) (AG gs i).2.2.1<|BX (AG gs i)<|BJ st i,
   if GF (gMe me i) (FQ (Bc ca i) (Cj mi i) (AG gs i).2.2.1<|BX (AG gs i)<|BJ st i) (cnt<|Eb (Bc ca i) (Cj mi i) (AG gs i).2.2.1<|BX (AG gs i)<|BJ st i)=0 then me.set i.toNat (I0 (gMe me i) (FQ (Bc ca i) (Cj mi i) (AG gs i).2.2.1<|BX (AG gs i)<|BJ st i)<|cnt<|Eb (Bc ca i) (Cj mi i) (AG gs i).2.2.1<|BX (AG gs i)<|BJ st i) else me,dw.set i.toNat<|FQ (Bc ca i) (Cj mi i) (AG gs i).2.2.1<|BX (AG gs i)<|BJ st i⟩:=by
 unfold Gp
 grind
def aa5 (t d:Int):0<=BA t d/\BA t d<=2000000:=by
 unfold BA;split
 ·rename_i h
  simp only [AY,BV] at h
  have h1:0<=t*(1000000+d):=Ib A0 A0
  have h2:t*(1000000+d)<=1000000*2000000:=Int.mul_le_mul A0 A0 A0 A0
  omega
 ·omega
end Go.Proofs.YtipodhghjclmbaaGreatDoor
namespace Go.Proofs.YtipodhghjclmbaaGreatDoor
set_option maxRecDepth 100000
set_option maxHeartbeats 4000000
open Go.Proofs.Tryz
open Go.Sx
def aIT:List LV->T LV
 | [.v (Y J r),.v (Y J m)]=> .req ((0<=r/\r<=2000000)/\0<=m/\m<=3000000) (.ok<|.v<|Y J<|m*r / 1000000)
 |_=> .no
def akh:List Bd:=[]
def auz:=vo (S:=aIT) func108 akh kN (λargs lv h=>by
 unfold aIT at h;split at h
 ·rename_i r m
  refine Aq (.req ((1000000:Int)≠0)<|.ok<|AA<|(AA<|m*r).tdiv 1000000) ?_;obtain ⟨⟨⟨h1,h2⟩,h3,h4⟩,rfl⟩:=h
  have hm:0<=m*r/\m*r<=6000000000000:=⟨Ib h3 h1,OR (V7 h2 h3) A0⟩
  refine ⟨A0,B0 (λz=>LV.v<|Y J z) ?_⟩
  rw [AJ (x:=m*r),I9 hm.1];exact AJ
 ·cases h)
def aST:List LV->T LV
 | [.v (Y J t),.v (Y J d)]=> .tu #[BA t d,HC t d]
 |_=> .no
def az5:List Bd:=[aJX,auz]
def XB:=vo (S:=aST) func97 az5 kN (λargs lv h=>by
 unfold aST at h;split at h
 ·rename_i t d
  refine Aq (letI a:=AA<|1000000+d;.br ((!(inB t 0 1000000)) ||((an<|d<(-200)) ||(an<|d>200))) (.tu #[(0:Int),(1:Int)])<|.req ((0<=a/\a<=2000000)/\0<=t/\t<=3000000)<|.tu #[Y J<|t*a / 1000000,(0:Int)]) ?_;obtain rfl:=h;unfold BA HC;refine ⟨λc=>?_,λc=>?_⟩
  ·have:(inB t 0 1000000&&inB d (-200) 200)=false:=by
    cases ht:inB t 0 1000000
    ·rfl
    ·simp [ht] at c;simp [inB];omega
   rw [this];rfl
  ·have hh:inB t 0 1000000=U/\-200<=d/\d<=200:=by
    cases ht:inB t 0 1000000
    ·grind
    ·grind
   have:(inB t 0 1000000&&inB d (-200) 200)=true:=by rw [hh.1];simp [inB];omega
   have ht:=BV.1 hh.1
   rw [this,AJ (x:=1000000+d)];exact ⟨⟨⟨A0,A0⟩,A0,A0⟩,rfl⟩
 ·cases h)
def aJI:List LV->T LV
 | [.v (Y .u64 n)]=> .req (0<=n/\n<=7) (.ok<|cnt n)
 |_=> .no
def anR:Bi prog AV (D7 []) (inl prog AV (D7 []) (Dp prog AV (D7 []) 20 2) 9) Al f100 [.v<|Y .u64 0]=.ok (cnt 0):=AU
def anQ:Bi prog AV (D7 []) (inl prog AV (D7 []) (Dp prog AV (D7 []) 20 2) 9) Al f100 [.v<|Y .u64 1]=.ok (cnt 1):=AU
def anD:Bi prog AV (D7 []) (inl prog AV (D7 []) (Dp prog AV (D7 []) 20 2) 9) Al f100 [.v<|Y .u64 2]=.ok (cnt 2):=AU
def anC:Bi prog AV (D7 []) (inl prog AV (D7 []) (Dp prog AV (D7 []) 20 2) 9) Al f100 [.v<|Y .u64 3]=.ok (cnt 3):=AU
def anB:Bi prog AV (D7 []) (inl prog AV (D7 []) (Dp prog AV (D7 []) 20 2) 9) Al f100 [.v<|Y .u64 4]=.ok (cnt 4):=AU
def anA:Bi prog AV (D7 []) (inl prog AV (D7 []) (Dp prog AV (D7 []) 20 2) 9) Al f100 [.v<|Y .u64 5]=.ok (cnt 5):=AU
def an9:Bi prog AV (D7 []) (inl prog AV (D7 []) (Dp prog AV (D7 []) 20 2) 9) Al f100 [.v<|Y .u64 6]=.ok (cnt 6):=AU
def an8:Bi prog AV (D7 []) (inl prog AV (D7 []) (Dp prog AV (D7 []) 20 2) 9) Al f100 [.v<|Y .u64 7]=.ok (cnt 7):=AU
def aqh {n:Int}(h1:0<=n) (h2:n<=7):Bi prog AV (D7 []) (inl prog AV (D7 []) (Dp prog AV (D7 []) 20 2) 9) Al f100 [.v<|Y .u64 n]=.ok (cnt n):=by
 rcases eight h1 h2 with e|e|e|e|e|e|e|e
 ·rw [e];exact anR
 ·rw [e];exact anQ
 ·rw [e];exact anD
 ·rw [e];exact anC
 ·rw [e];exact anB
 ·rw [e];exact anA
 ·rw [e];exact an9
 ·rw [e];exact an8
def WT:VV 100 (uS f100 aJI):=nX func100 rfl (nj (l:=[]) trivial) (aCT (nj (l:=[]) trivial) (Hg<|nj (l:=[]) trivial) 9) (oh AU) (λargs lv h=>by
 unfold aJI at h;split at h
 ·rename_i n
  simp only [canL,canX];rw [aqh h.1.1 h.1.2];exact h.2
 ·cases h)
def O3:List Bd:=[]
def atd:List LV->T LV:=λl=>Bi prog AV O3 kN Al f170<|canL l
def avE:=vo (S:=atd) func170 O3 kN (λargs lv h=>by
 refine ⟨?_⟩
 assumption)
def ate:List LV->T LV:=λl=>Bi prog AV O3 kN Al f206<|canL l
def auY:=vo (S:=ate) func206 O3 kN (λargs lv h=>by
 refine ⟨?_⟩
 assumption)
def ahU:List LV->T LV:=λl=>Bi prog AV O3 kN Al f204<|canL l
def aTr:=vo (S:=ahU) func204 O3 kN (λargs lv h=>by
 refine ⟨?_⟩
 assumption)
def aam:List Bd:=[auY]
def ahT:List LV->T LV:=λl=>Bi prog AV (aam) kN Al f205<|canL l
def aTq:=vo (S:=ahT) func205 aam kN (λargs lv h=>by
 refine ⟨?_⟩
 assumption)
def ahS:List LV->T LV:=λl=>Bi prog AV O3 kN Al f207<|canL l
def aTp:=vo (S:=ahS) func207 O3 kN (λargs lv h=>by
 refine ⟨?_⟩
 assumption)
def ahR:List LV->T LV:=λl=>Bi prog AV O3 kN Al f208<|canL l
def aae:=vo (S:=ahR) func208 O3 kN (λargs lv h=>by
 refine ⟨?_⟩
 assumption)
def aal:List Bd:=[aTr,aTq,aTp,aae]
def atc:List LV->T LV:=λl=>Bi prog AV (aal) kN Al f171<|canL l
def av7:=vo (S:=atc) func171 aal kN (λargs lv h=>by
 refine ⟨?_⟩
 assumption)
def aJ7:List LV->T LV
 | [.xq 8 q0,.v (Y J p2),.v (Y J al)]=>(match ([q0 0,q0 1,q0 2,q0 3,q0 4,q0 5,q0 6,q0 7]:List LV) with
  | [.v (Y J k),.v (Y J ph),.v (Y J mx),.v (Y J nd),.v (Y J dl),.xl (.int J) pil,.v (Y J tk),.v (Y J got)]=> .req (GH (k,ph,mx,nd,dl)=U/\Hz (pil,tk,got)=U/\1<=p2/\p2<=7/\0<=al) (.tu #[Er (k,ph,mx,nd,dl) (pil,tk,got) p2 al,HA (k,ph,mx,nd,dl) (pil,tk,got) p2 al])
  |_=> .no)
 |_=> .no
def aak:List Bd:=[avE,av7,aTr,aTq,aTp,aae]
def aqM (k ph mx nd dl:Int) (pil:List Int) (tk got p2 al:Int):letI a:=Bq J ph p2;letI c:=AA<|0-a;letI d:=(AA<|(M pil:Int)-dl);letI b:=gi pil d;Bi prog AV (aak) kN Al f126 [xQ 8 [k,ph,mx,nd,dl,.xl A7 pil,tk,got],p2,al]=.br (((if k==2 then Bq J a c else Bq J ph p2)==0) ||(an<|got>=nd)) (.tu #[(0:Int),(0:Int)]) (.br (k==(0:Int)) (.br ((if al<mx then al else mx)==0) (.tu #[(0:Int),(0:Int)])<|.tu #[Y J (if al<mx then al else mx),Y J (if k==2 then Bq J a c else Bq J ph p2)])<|.br (k==(2:Int)) (.br ((if al<mx then al else mx)==0) (.tu #[(0:Int),(0:Int)])<|.tu #[Y J (if al<mx then al else mx),Y J (if k==2 then Bq J a c else Bq J ph p2)])<|.br (k==(1:Int)) (.br (dl==0) (.br ((if al<mx then al else mx)==0) (.tu #[(0:Int),(0:Int)])<|.tu #[Y J (if al<mx then al else mx),Y J (if k==2 then Bq J a c else Bq J ph p2)])<|.br (an<|d>=0) (.ix d (M pil)<|.br ((if (if b<al then b else al)<mx then if b<al then b else al else mx)==0) (.tu #[(0:Int),(0:Int)])<|.tu #[Y J (if (if b<al then b else al)<mx then if b<al then b else al else mx),Y J (if k==2 then Bq J a c else Bq J ph p2)])<|.br ((if (if (0:Int)<al then 0 else al)<mx then if (0:Int)<al then 0 else al else mx)==0) (.tu #[(0:Int),(0:Int)])<|.tu #[Y J (if (if (0:Int)<al then 0 else al)<mx then if (0:Int)<al then 0 else al else mx),Y J (if k==2 then Bq J a c else Bq J ph p2)])<|.br (k==(3:Int)) (.req (dl≠0)<|.req ((2:Int)≠0)<|.br (((AA<|tk.tdiv dl).tmod 2)==1) (.br ((if (0:Int)<mx then 0 else mx)==0) (.tu #[(0:Int),(0:Int)])<|.tu #[Y J (if (0:Int)<mx then 0 else mx),Y J (if k==2 then Bq J a c else Bq J ph p2)])<|.br ((if al<mx then al else mx)==0) (.tu #[(0:Int),(0:Int)])<|.tu #[Y J (if al<mx then al else mx),Y J (if k==2 then Bq J a c else Bq J ph p2)])<|.br (k==(4:Int)) (.br (al==0) (.br ((if (0:Int)<mx then 0 else mx)==0) (.tu #[(0:Int),(0:Int)])<|.tu #[Y J (if (0:Int)<mx then 0 else mx),Y J (if k==2 then Bq J a c else Bq J ph p2)])<|.br ((if mx<mx then mx else mx)==0) (.tu #[(0:Int),(0:Int)])<|.tu #[Y J (if mx<mx then mx else mx),Y J (if k==2 then Bq J a c else Bq J ph p2)])<|.no /-call of v -/):=AU
def auX := vo (S:=aJ7) func126 aak kN (λargs lv h=>by
 refine ⟨?_⟩;unfold aJ7 at h;split at h
 ·split at h
  case h_2=>cases h
  rename_i heq0;simp only [canL,canX];rw [Dn (n:=8) heq0];simp only [canL,canX];rw [aqM];rename_i p2 al _ k ph mx nd dl pil tk got;obtain ⟨⟨hc,hm,hp1,hp2,hal⟩,rfl⟩:=h
  have hc:=WH.1 hc
  have hm:=ck.1 hm
  simp only at hc hm
  have hl:=aCz (a:=ph) (b:=p2) ⟨A0,A0⟩ ⟨A0,A0⟩
  have e0:(if (k==2)=U then Bq J (Bq J ph p2) (AA<|0-Bq J ph p2) else Bq J ph p2)=Kg k ph p2:=by
   have hw:AA (0-Bq J ph p2)=-land ph p2:=by
    have:Bq J ph p2=land ph p2:=rfl
    rw [this,AJ];omega
   rw [hw];unfold Kg land;simp only [Cz]
  have ew:AA ((M pil:Int)-dl)=(M pil:Int)-dl:=AJ
  have et:AA (tk.tdiv dl)=tk.tdiv dl:=by
   rw [I9 A0]
   have h1:0<=tk / dl:=SY A0 A0
   have h2:tk / dl<=tk:=V5 _ A0
   exact AJ
  have hz:(Kg k ph p2=0\/nd<=got)->Er (k,ph,mx,nd,dl) (pil,tk,got) p2 al=0:=λh=>by unfold Er;rw [AD h]
  have hn:¬(Kg k ph p2=0\/nd<=got)->Er (k,ph,mx,nd,dl) (pil,tk,got) p2 al=min mx (Gj (k,ph,mx,nd,dl) (pil,tk,got) al):=λh=>by unfold Er;rw [AE h]
  have w0:k≠1->k≠3->k≠4->Gj (k,ph,mx,nd,dl) (pil,tk,got) al=al:=λh1 h2 h3=>by simp [Gj,h1,h2,h3]
  have w1a:k=1->dl=0->Gj (k,ph,mx,nd,dl) (pil,tk,got) al=al:=λh1 h2=>aG
  have w1b:k=1->dl≠0->0<=(M pil:Int)-dl->Gj (k,ph,mx,nd,dl) (pil,tk,got) al=min al (gi pil<|(M pil:Int)-dl):=λh1 h2 h3=>by
   simp only [Gj,h1,h2,Bm,F9,aS,M9];rw [AD h3];rfl
  have w1c:k=1->dl≠0->(M pil:Int)-dl<0->Gj (k,ph,mx,nd,dl) (pil,tk,got) al=min al 0:=λh1 h2 h3=>by
   simp only [Gj,h1,h2,Bm,F9,aS,M9];rw [AE A0]
  have w3a:k=3->(tk.tdiv dl).tmod 2=1->Gj (k,ph,mx,nd,dl) (pil,tk,got) al=0:=λh1 h2=>aG
  have w3b:k=3->¬(tk.tdiv dl).tmod 2=1->Gj (k,ph,mx,nd,dl) (pil,tk,got) al=al:=λh1 h2=>aG
  have w4a:k=4->al=0->Gj (k,ph,mx,nd,dl) (pil,tk,got) al=0:=λh1 h2=>aG
  have w4b:k=4->al≠0->Gj (k,ph,mx,nd,dl) (pil,tk,got) al=mx:=λh1 h2=>aG
  have ho1:Er (k,ph,mx,nd,dl) (pil,tk,got) p2 al=0->HA (k,ph,mx,nd,dl) (pil,tk,got) p2 al=0:=λh=>by unfold HA;rw [AD h]
  have ho2:Er (k,ph,mx,nd,dl) (pil,tk,got) p2 al≠0->HA (k,ph,mx,nd,dl) (pil,tk,got) p2 al=Kg k ph p2:=λh=>by unfold HA;rw [AE h]
  have fin:∀a o:Int,a=Er (k,ph,mx,nd,dl) (pil,tk,got) p2 al->o=HA (k,ph,mx,nd,dl) (pil,tk,got) p2 al->LV.v (.tuple #[Y J a,Y J o])=LV.v (.tuple #[Y J<|Er (k,ph,mx,nd,dl) (pil,tk,got) p2 al,Y J<|HA (k,ph,mx,nd,dl) (pil,tk,got) p2 al]):=λa o h1 h2=>yv
  simp only [e0,ew,et]
  clear e0 ew hl et
  generalize Er (k,ph,mx,nd,dl) (pil,tk,got) p2 al=qA at*;generalize HA (k,ph,mx,nd,dl) (pil,tk,got) p2 al=qO at*;generalize Gj (k,ph,mx,nd,dl) (pil,tk,got) al=qw at*;generalize Kg k ph p2=qc at*;generalize gi pil ((M pil:Int)-dl)=qg at*;refine ⟨λc1=>?_,λc1=>?_⟩
  ·simp only [Cz,CN,ne_eq,Ck,GJ,Ac,Cy,M9,Pm] at*
   refine fin _ _ ?_ ?_<;>(clear fin w0 w1a w1b w1c w3a w3b w4a w4b;omega)
  ·refine ⟨λc2=>?_,λc2=>?_⟩
   ·refine ⟨λc3=>?_,λc3=>?_⟩
    ·exact ka
    ·exact ka
   ·refine ⟨λc3=>?_,λc3=>?_⟩
    ·refine ⟨λc4=>?_,λc4=>?_⟩
     ·exact ka
     ·exact ka
    ·refine ⟨λc4=>?_,λc4=>?_⟩
     ·refine ⟨λc5=>?_,λc5=>?_⟩
      ·refine ⟨λc6=>?_,λc6=>?_⟩
       ·exact kY
       ·exact kY
      ·refine ⟨λc6=>?_,λc6=>?_⟩
       ·refine ⟨?_,?_⟩
        ·simp only [Cz,CN,ne_eq,Ck,GJ,Ac,Cy,M9,Pm] at*
         (first|decide|(clear fin w0 w3a w3b w4a w4b;omega))
        ·exact aMX
       ·exact aMX
     ·refine ⟨λc5=>?_,λc5=>?_⟩
      ·refine ⟨?_,?_⟩
       ·exact aLB
       ·refine ⟨?_,?_⟩
        ·exact aLB
        ·refine ⟨λc6=>?_,λc6=>?_⟩
         ·exact aMY
         ·exact aMY
      ·refine ⟨λc6=>?_,λc6=>?_⟩
       ·refine ⟨λc7=>?_,λc7=>?_⟩
        ·exact aMZ
        ·exact aMZ
       ·exfalso
        simp only [Cz,CN,ne_eq,Ck,GJ,Ac,Cy,M9,Pm] at*
        clear fin hz hn ho1 ho2 w0 w1a w1b w1c w3a w3b w4a w4b
        omega
 ·cases h)
def aJ1:List LV->T LV
 | [.xq 8 q0,.v (Y J al),.v (Y J am),.v (Y J on)]=>(match ([q0 0,q0 1,q0 2,q0 3,q0 4,q0 5,q0 6,q0 7]:List LV) with
  | [.v (Y J k),.v (Y J ph),.v (Y J mx),.v (Y J nd),.v (Y J dl),.xl (.int J) pil,.v (Y J tk),.v (Y J got)]=> .req (Hz (pil,tk,got)=U/\0<=am/\am<=80/\0<=on/\on<=7) (.ok<|.agg [.xl A7<|dwP pil al,.v<|Y J<|tk+1,.v<|Y J<|got+2300*am*cnt on])
  |_=> .no)
 |_=> .no
def aaj:List Bd:=[WT]
def aqp (k ph mx nd dl:Int) (pil:List Int) (tk got al am on:Int):letI a:=(AA<|(((0:Int).toNat+M pil+M ([al]):Nat):Int)-21);letI b:=(aq (0:Int).toNat (0:Int));letI c:=IntKind.u64.wrap on;letI d:=(AA<|(M pil:Int)+1);letI e:=(b++pil)++([al]);letI f:=AA<|got+(AA<|(AA<|2300*am)*(cnt c));Bi prog AV (aaj) kN Al f127 [xQ 8 [k,ph,mx,nd,dl,.xl A7 pil,tk,got],al,am,on]=.req (0<=(0:Int)/\(0:Int)<=d/\8*d<=2^48/\d<2^63) (.ra (0:Int).toNat (M b) ((0:Int).toNat+M pil) 8<|.ra ((0:Int).toNat+M pil) (M<|b++pil) ((0:Int).toNat+M pil+M ([al])) 8<|.br (an<|(((0:Int).toNat+M pil+M ([al]):Nat):Int)>21) (.req (0<=a/\a<=(((0:Int).toNat+M pil+M ([al]):Nat):Int)/\(((0:Int).toNat+M pil+M ([al]):Nat):Int)<=(((0:Int).toNat+M pil+M ([al]):Nat):Int))<|.req (0<=c/\c<=7)<|.req ((0+a.toNat)+((((0:Int).toNat+M pil+M ([al]):Nat):Int).toNat-a.toNat)<=M e)<|.ok<|.agg [.xl A7<|(e.drop<|0+a.toNat).take<|(((0:Int).toNat+M pil+M ([al]):Nat):Int).toNat-a.toNat,AA<|tk+1,f])<|.req (0<=c/\c<=7)<|.req (0+((0:Int).toNat+M pil+M ([al]))<=M e)<|.ok<|.agg [.xl A7<|(e.drop 0).take<|(0:Int).toNat+M pil+M ([al]),AA<|tk+1,f]):=AU
def av9 :=vo (S:=aJ1) func127 aaj kN (λargs lv h=>by
 refine ⟨?_⟩;unfold aJ1 at h;split at h
 ·split at h
  case h_2=>cases h
  rename_i heq0;simp only [canL,canX];rw [Dn (n:=8) heq0];simp only [canL,canX];rw [aqp];rename_i al am on _ k ph mx nd dl pil tk got;obtain ⟨⟨hm,ha1,ha2,ho1,ho2⟩,rfl⟩:=h
  have hm:=ck.1 hm
  simp only at hm
  have hu:IntKind.u64.wrap on=on:=by simp [IntKind.wrap,IntKind.bits,IntKind.signed];omega
  have ht:AA (tk+1)=tk+1:=AJ
  have hcn:0<=cnt on/\cnt on<=3:=by unfold cnt;omega
  have hg:AA (got+AA (AA (2300*am)*cnt on))=got+2300*am*cnt on:=by
   rw [AJ (x:=2300*am)]
   have:cnt on=0\/cnt on=1\/cnt on=2\/cnt on=3:=A0
   rcases this with e|e|e|e<;>rw [e,AJ (x:=2300*am*_),AJ]
  have h0:(0:Int).toNat=0:=rfl
  have hw1:AA ((M pil:Int)+1)=(M pil:Int)+1:=AJ
  have hw2:AA (((M pil+1:Nat):Int)-21)=(M pil:Int)-20:=by rw [AJ];omega
  have fin:∀(p:List Int),p=dwP pil al->LV.agg [.xl A7 p,.v<|Y J<|tk+1,.v<|Y J<|got+2300*am*cnt on]=LV.agg [.xl A7<|dwP pil al,.v<|Y J<|tk+1,.v<|Y J<|got+2300*am*cnt on]:=λp h=>VZ
  simp only [h0,List.replicate_zero,EB,BF,Bk,Bp,EM,hu,ht,hg,hw1,hw2];refine ⟨?_,?_⟩
  ·(try simp only [Ac,Cy] at c1);first|omega|(simp;done) |(simp;omega)
  ·refine ⟨?_,?_⟩
   ·(try simp only [Ac,Cy] at c1);first|omega|(simp;done) |(simp;omega)
   ·refine ⟨?_,?_⟩
    ·(try simp only [Ac,Cy] at c1);first|omega|(simp;done) |(simp;omega)
    ·refine ⟨λc1=>?_,λc1=>?_⟩
     ·refine ⟨?_,?_⟩
      ·(try simp only [Ac,Cy] at c1);first|omega|(simp;done) |(simp;omega)
      ·refine ⟨?_,?_⟩
       ·(try simp only [Ac,Cy] at c1);first|omega|(simp;done) |(simp;omega)
       ·refine ⟨?_,?_⟩
        ·(try simp only [Ac,Cy] at c1);first|omega|(simp;done) |(simp;omega)
        ·refine fin _ ?_
         unfold dwP;simp only [Ac,Cy] at c1;rw [show ((M pil:Int)-20).toNat=M pil-20 by omega]
         exact DR (by rw [F7,BF];simp only [Bk,Bp];omega)
     ·refine ⟨?_,?_⟩
      ·omega
      ·refine ⟨?_,?_⟩
       ·omega
       ·refine fin _ ?_
        unfold dwP;simp only [Ac,Cy] at c1;rw [show M pil-20=0 by omega]
        grind
 ·cases h)
def aSF:List LV->T LV
 | [.v (.agg ⟨[Y J k,Y J ph,Y J mx,Y J nd,Y J dl]⟩),.agg [.xl (.int J) pil,.v (Y J tk),.v (Y J got)],.v (Y J p2),.v (Y J al)]=> .ok (.AO [FQ (k,ph,mx,nd,dl) (pil,tk,got) p2 al,Eb (k,ph,mx,nd,dl) (pil,tk,got) p2 al,.agg [.xl A7 (Jp (k,ph,mx,nd,dl) (pil,tk,got) p2 al).1,(Jp (k,ph,mx,nd,dl) (pil,tk,got) p2 al).2.1,(Jp (k,ph,mx,nd,dl) (pil,tk,got) p2 al).2.2],JD (k,ph,mx,nd,dl) (pil,tk,got) p2 al])
 |_=> .no
def aki:List Bd:=[aTv,ai2,aJa,auX,av9]
def XL:=vo (S:=aSF) func98 aki kN (λargs lv h=>by
 unfold aSF at h;split at h
 ·rename_i k ph mx nd dl pil tk got p2 al
  refine Aq (letI a:=(k,ph,mx,nd,dl);letI b:=(pil,tk,got);letI c:=Er a b p2 al;letI d:=HA a b p2 al;.br ((!(GH a)) ||((!(Hz b)) ||((!(inB p2 (1:Int) (7:Int))) ||((!(inB al (0:Int) (80:Int))) ||(tk==1000000))))) (.ok<|.AO [(0:Int),(0:Int),.agg [.xl A7 ([]:List Int),(0:Int),(0:Int)],(1:Int)])<|.req (GH a=U/\Hz b=U/\1<=p2/\p2<=7/\0<=al)<|.req (Hz b=U/\0<=c/\c<=80/\0<=d/\d<=7)<|.ok<|.AO [c,d,.agg [.xl A7<|dwP pil al,.v<|Y J<|tk+1,.v<|Y J<|got+2300*c*cnt d],(0:Int)]) ?_;obtain rfl:=h
  have e:((!(GH (k,ph,mx,nd,dl))) ||((!(Hz (pil,tk,got))) ||((!(inB p2 (1:Int) (7:Int))) ||((!(inB al (0:Int) (80:Int))) ||(tk==1000000)))))=!(Ky (k,ph,mx,nd,dl) (pil,tk,got) p2 al):=by simp [Ky,bne]
  rw [e];unfold FQ Eb Jp JD;refine ⟨λc1=>?_,λc1=>?_⟩
  ·have hB:Ky (k,ph,mx,nd,dl) (pil,tk,got) p2 al=false:=AX
   rw [hB];rfl
  ·have hB:Ky (k,ph,mx,nd,dl) (pil,tk,got) p2 al=true:=A8
   rw [hB];obtain ⟨hc,hm,h1,h2,h3,h4,h5⟩:=cx.1 hB;obtain ⟨b1,b2,b3,b4⟩:=aDk hc hm ⟨h1,h2⟩ ⟨h3,h4⟩;exact ⟨⟨hc,hm,h1,h2,h3⟩,⟨hm,b1,by have:=WH.1 hc;omega,b3,b4⟩,rfl⟩
 ·cases h)
structure Nx where
 xs:List Lk
 (n i:Int)
 p:PK
 ev:EW
 left:List Lk
def Tl (s:Nx):T (Rd Nx):=letI b:=Fb s.xs s.i;letI c:=s.left++([b]);letI d:=M s.left+M ([b]);letI e:=AA<|s.i+1;letI f:=M s.p.st;letI g:=s.p.st.getD b.2.2.1.toNat<|Ty.dflt B3;letI h:=M<|[b];letI j:=M s.left;letI a:=(s.p.st.set b.2.2.1.toNat<|sN (AG s.p.gs b.2.2.1) g (7:Int) b.2.2.2.1 b.2.2.2.2.2);.br (an<|s.i<s.n) (.ix s.i (M s.xs)<|.br (an<|b.1>s.p.tk) (.br U (.rb j h 48<|.re d c<|.pd s.p<|.nx {s with i:=e,left:=c})<|.rl s.left<|.pd s.p<|.nx {s with i:=e})<|.ix b.2.2.1 (M s.p.gs)<|.ik b.2.2.1 f<|.br ((sE (AG s.p.gs b.2.2.1) g (7:Int) b.2.2.2.1 b.2.2.2.2.2)==0) (.ik b.2.2.1 f<|.br X (.rb j h 48<|.re d c<|.rl s.p.cs<|.re f a<|.rl s.p.ca<|.rl s.p.mi<|.rl s.p.me<|.rl s.p.dr<|.rl s.p.tg<|.nx {s with i:=e,p.st:=a,left:=c})<|.rl s.left<|.rl s.p.cs<|.re f a<|.rl s.p.ca<|.rl s.p.mi<|.rl s.p.me<|.rl s.p.dr<|.rl s.p.tg<|.nx {s with i:=e,p.st:=a})<|.br X (.rb j h 48<|.re d c<|.pd s.p<|.nx {s with i:=e,left:=c})<|.rl s.left<|.pd s.p<|.nx {s with i:=e})<|.rl s.left<|.pd s.p<|.so (.exit 0) s
def arr1 (gs:List Ch) (t:Int) (st:List St) (l:Lk):List St:=if l.1>t then st else CU gs st l.2.2.1 7 l.2.2.2.1 l.2.2.2.2.2
def aRD {l:List Lk}{i:Int}(h0:0<=i) (h:i<M l):Fb l i∈l/\l.drop i.toNat=Fb l i::l.drop (i+1).toNat:=by
 have e:Fb l i=l[i.toNat]' A0:=by unfold Fb;rw [Dd,DQ A0];rfl
 rw [e];exact ⟨H0 _,by rw [SZ A0,show (i+1).toNat=i.toNat+1 by omega]⟩
def aDq {gs:List Ch}{lk:List Lk}{t:Int}{st:List St}:∀k,k<=M lk->Lw gs lk t st k=(lk.take k).foldl (arr1 gs t) st
 |0,_=>rfl
 |k+1,h=>by
  have e:Fb lk (k:Int)=lk[k]' A0:=by unfold Fb;rw [By,Dd,DQ A0];rfl
  rw [Lw,aDq k A0,ZM A0,List.foldl_append,<-e];rfl
def jk (s:Nx):Prop:=s.i=0/\s.n=(M s.xs:Int)/\s.n<=20000000/\(M s.left:Int)<=s.i/\(∀l∈s.xs,0<=l.2.2.1/\l.2.2.1<(M s.p.gs:Int))/\M s.p.st=M s.p.gs
def jO (s:Nx):Prop:=0<=s.i/\s.i<=s.n/\s.n=(M s.xs:Int)/\s.n<=20000000/\(M s.left:Int)<=s.i/\(∀l∈s.xs,0<=l.2.2.1/\l.2.2.1<(M s.p.gs:Int))/\M s.p.st=M s.p.gs
def oo (s:Nx):Nat:=(s.n-s.i).toNat
def acg (x:Ex) (s s':Nx):Prop:=True
def alU:∀s,jk s->jO s:=by
 rintro s ⟨h0,h2,h3,h4⟩
 exact xo
theorem ahf:Da jO oo acg Tl:=by
 intro s hI;unfold Tl;dsimp only [T.rd,T.rl,T.rv];obtain ⟨h0,h1,h2,h3,h4,h5,h6⟩:=hI;refine AH (λc1=>AH (λc2=>?_) λc2=>AH (λc3=>?_) λc3=>?_) λc1=>trivial
 all_goals have c1:s.i<s.n:=AX
 all_goals rw [AJ (x:=s.i+1)]
 ·exact AH (λ_=>⟨⟨AZ,AZ,h2,h3,A8,h5,h6⟩,yD⟩) λc=>FU
 ·exact AH (λc=>FU) λ_=>⟨⟨AZ,AZ,h2,h3,AZ,h5,A8⟩,yD⟩
 ·exact AH (λc=>FU) λ_=>⟨⟨A8,AZ,h2,h3,AZ,h5,h6⟩,yD⟩
def Ri:AT Nx:=⟨19,30,[0,1,4,11,12,13],[.nl 4 154 BM],λs=>[.own 16 0,.fn 96 [.own 18 0],.os 19 6 0<|M s.left,s.xs,s.n,s.i],λs=>[AP,AP,zB,AP,bV 79 Ad s.p.cs,AP,AP,AP,bV 58 B3 s.p.st,bV 69 AQ s.p.ca,bV 148 B6 s.p.mi,bV 105 BQ s.p.me,AP,AP,bV 3 A7 s.p.dr,bV 3 A7 s.p.tg,⟨[.os 4 11 0<|M s.p.cs,.xl .str s.p.os,.xl Ai s.p.ks,.xl Ae s.p.gs,.xl Aj s.p.bs,.v<|Y J s.p.tk,.v<|.bool s.p.up,.xl AQ s.p.ls,.v<|Y J s.p.se,.xl (.int aw) s.p.fl,.xl Am s.p.ra,.v<|Y J s.p.nx,.os 8 4 0<|M s.p.st,.os 9 5 0<|M s.p.ca,.os 10 3 0<|M s.p.mi,.os 11 3 0<|M s.p.me,.xl Au s.p.dm,.xl BM s.p.lk,.os 14 1 0<|M s.p.dr,.os 15 1 0<|M s.p.tg,.v<|Y J s.ev.ek,.v<|Y J s.ev.en,.v<|Y J s.ev.em,.v<|Y J s.ev.c1,.v<|Y J s.ev.c2,.v<|Y J s.ev.c3,.v<|Y J s.ev.c4,.v<|Y J s.ev.c5,.v<|.bool s.ev.d1,.v<|Y J s.ev.d2,.v<|Y J s.ev.d3,.v<|Y J s.ev.d4,.v<|.slice aj 0 0],116,.cl,X⟩,AP,⟨[.own 16 0],112,.cl,X⟩,bV 154 BM s.left],λv b=>⟨B5 BM v 3,AK v 4,AK v 5,rT b,rG b,Ab BM b 19⟩,Tl,λs r=> {s with i:=r.i,p.st:=r.p.st,left:=r.left},λs=>s,λ_ s=>s,[.exit 0],jk,jO,oo⟩
abbrev K9:=Ri.run
abbrev atF:=Ri.Av
def u9:List Bd:=[QW,Qz,WV,dt,XB,XL,XC,WT,Qy]
def azd:Ay:=I2 u9 (la 9 func29 Cn<|l0 u9) [⟨64,PL.m,TX⟩]
def axq:Rq jO Tl:=by
 intro s hI;refine ⟨λc1=>⟨?_,λc2=>⟨λc3=>⟨?_,?_,A9,A9,A9,A9,A9,A9,A9,ak⟩,λc3=>⟨A9,A9,A9,A9,A9,A9,A9,A9,ak⟩⟩,λc2=>⟨?_,?_,?_,λc4=>⟨?_,?_,λc5=>⟨?_,?_,A9,?_,A9,A9,A9,A9,A9,ak⟩,λc5=>⟨A9,A9,?_,A9,A9,A9,A9,A9,ak⟩⟩,λc4=>⟨λc6=>⟨?_,?_,A9,A9,A9,A9,A9,A9,A9,ak⟩,λc6=>⟨A9,A9,A9,A9,A9,A9,A9,A9,ak⟩⟩⟩⟩,λc1=>⟨A9,A9,A9,A9,A9,A9,A9,A9,ak⟩⟩
 all_goals ((obtain ⟨h0,h1,h2,h3,h4,h5,h6⟩:=hI;simp only [Ac] at c1;have hm:=h5 _ (aRD h0 (show s.i<(M s.xs:Int) by omega)).1;first|omega|exact ⟨rfl,AI⟩ |(simp only [Bk,Bp,BF];omega) |(simp only [BF,Bk,Bp,FA];done)))
def aQA:Ri.Ok:={}
def aPu:Ri.Pf (acg):=⟨alU,λs h=>rfl,ahf,axq⟩
def LA:=s2 (b:=bN f75 0) aQA aPu u9 azd
theorem atz:Rs jk atF K9 (λs:Nx=>((s.xs.drop s.i.toNat).foldl (arr1 s.p.gs s.p.tk) s.p.st,s.left++(s.xs.drop s.i.toNat).filter (λl=>an<|l.1>s.p.tk))) (λx s' (v:List St×List Lk)=>x=.exit 0/\(s'.p.st,s'.left)=v):=DJ aQA aPu (λs hI=>by
  show DK _ _ ((Tl s).rd s)
  unfold Tl;dsimp only [T.rd,T.rl];obtain ⟨h0,h1,h2,h3,h4,h5,h6⟩:=hI;refine AH (λc1=>?_) λc1=>?_
  ·have c1:s.i<s.n:=A8
   have e:=(aRD h0 (show s.i<(M s.xs:Int) by omega)).2
   rw [AJ (x:=s.i+1),e];refine AH (λc2=>?_) λc2=>AH (λc3=>?_) λc3=>?_
   ·refine AH (λ_=>?_) (λc=>FU)
    have c2':=Cx c2
    show (_,_)=(_,_)
    rw [Jy,OX,AD c2,show arr1 s.p.gs s.p.tk s.p.st (Fb s.xs s.i)=s.p.st from AD c2',Cl];rfl
   ·refine AH (λc=>FU) (λ_=>?_)
    have c2':=Jw c2
    rw [Jy,OX,AE A8,show arr1 s.p.gs s.p.tk s.p.st (Fb s.xs s.i)=_ from (AE c2').trans<|AD<|eq_of_beq c3];rfl
   ·refine AH (λc=>FU) (λ_=>?_)
    have c2':=Jw c2
    show (_,_)=(_,_)
    rw [Jy,OX,AE A8,show arr1 s.p.gs s.p.tk s.p.st (Fb s.xs s.i)=_ from (AE c2').trans<|AE<|CN.1 c3]
  ·have c1:s.n<=s.i:=A8
   refine ⟨rfl,?_⟩;rw [El A0]
   simp)
structure Nv where
 (i on oi m k:Int)
 p:PK
 ev:EW
def aFq:=lN (bN f66 0) 0
def zG (s:Nv):T (Rd Nv):=letI b:=s.p.st.getD s.i.toNat<|Ty.dflt B3;letI c:=M s.p.st;letI a:=(s.p.st.set s.i.toNat<|sN (AG s.p.gs s.i) b (8:Int) (0:Int) (0:Int));.br (an<|s.k<s.m) (.ix s.i (M s.p.gs)<|.ik s.i c<|.br ((sE (AG s.p.gs s.i) b (8:Int) (0:Int) (0:Int))==0) (.ik s.i c<|.rl s.p.dr<|.rl s.p.cs<|.re c a<|.rl s.p.ca<|.rl s.p.mi<|.rl s.p.me<|.rl s.p.dr<|.rl s.p.tg<|.nx {s with k:=AA<|s.k+1,p.st:=a})<|.rl s.p.dr<|.pd s.p<|.nx {s with k:=AA<|s.k+1})<|.rl s.p.dr<|.pd s.p<|.so (.exit 2) s
def Ys (s:Nv):Prop:=s.k=0/\(0<=s.i/\s.i<(M s.p.gs:Int))/\M s.p.st=M s.p.gs/\s.m<=4000000
def jL (s:Nv):Prop:=0<=s.k/\(0<=s.i/\s.i<(M s.p.gs:Int))/\M s.p.st=M s.p.gs/\s.m<=4000000
def eV (s:Nv):Nat:=(s.m-s.k).toNat
def acd (x:Ex) (s s':Nv):Prop:=True
def alJ:∀s,Ys s->jL s:=by
 rintro s ⟨h0,h2⟩
 exact ⟨A0,h2⟩
theorem agB:Da jL eV acd zG:=by
 intro s hI;obtain ⟨h0,h1,h2,h3⟩:=hI;refine AH (λc1=>AH (λc2=>?_) λc2=>?_) λc1=>trivial
 all_goals have c1:s.k<s.m:=A8
 all_goals rw [AJ (x:=s.k+1)]
 ·exact ⟨⟨A8,h1,A8,h3⟩,by simp only [eV];omega⟩
 ·exact ⟨⟨A8,h1,h2,h3⟩,by simp only [eV];omega⟩
def Rg:AT Nv:=⟨20,57,[0,2,12,13,14,48,49],[],λs=>[.own 16 0,s.i,.os 14 1 0<|M s.p.dr,s.on,s.oi,s.m,s.k],λs=>[AP,AP,zB,AP,bV 79 Ad s.p.cs,AP,AP,AP,bV 58 B3 s.p.st,bV 69 AQ s.p.ca,bV 148 B6 s.p.mi,bV 105 BQ s.p.me,AP,AP,bV 3 A7 s.p.dr,bV 3 A7 s.p.tg,⟨[.os 4 11 0<|M s.p.cs,.xl .str s.p.os,.xl Ai s.p.ks,.xl Ae s.p.gs,.xl Aj s.p.bs,.v<|Y J s.p.tk,.v<|.bool s.p.up,.xl AQ s.p.ls,.v<|Y J s.p.se,.xl (.int aw) s.p.fl,.xl Am s.p.ra,.v<|Y J s.p.nx,.os 8 4 0<|M s.p.st,.os 9 5 0<|M s.p.ca,.os 10 3 0<|M s.p.mi,.os 11 3 0<|M s.p.me,.xl Au s.p.dm,.xl BM s.p.lk,.os 14 1 0<|M s.p.dr,.os 15 1 0<|M s.p.tg,.v<|Y J s.ev.ek,.v<|Y J s.ev.en,.v<|Y J s.ev.em,.v<|Y J s.ev.c1,.v<|Y J s.ev.c2,.v<|Y J s.ev.c3,.v<|Y J s.ev.c4,.v<|Y J s.ev.c5,.v<|.bool s.ev.d1,.v<|Y J s.ev.d2,.v<|Y J s.ev.d3,.v<|Y J s.ev.d4,.v<|.slice aj 0 0],116,.cl,X⟩,AP,AP,AP],λv b=>⟨AK v 1,AK v 3,AK v 4,AK v 5,AK v 6,rT b,rG b⟩,zG,λs r=> {s with k:=r.k,p.st:=r.p.st},λs=>s,λ_ s=>s,[.exit 2],Ys,jL,eV⟩
abbrev WO:=Rg.run
abbrev atD:=Rg.Av
def X6:List Bd:=[QW,Qz,WV,dt,XB,XL,XC,WT,Qy]
def uV:Ay:=I2 X6 (la 2 func75 LA<|la 9 func29 Cn<|l0 X6) [⟨64,PL.m,TX⟩]
def axm:Rq jL zG:=by
 intro s hI;refine ⟨λc1=>⟨?_,?_,?_,λc2=>⟨?_,?_,A9,A9,?_,A9,A9,A9,A9,A9,ak⟩,λc2=>⟨A9,A9,A9,A9,A9,A9,A9,A9,ak⟩⟩,λc1=>⟨A9,A9,A9,A9,A9,A9,A9,A9,ak⟩⟩
 all_goals ((obtain ⟨h0,h1,h2,h3⟩:=hI;first|omega|exact ⟨rfl,AI⟩))
def aQ7:Rg.Ok:={}
def aPr:Rg.Pf (acd):=⟨alJ,λs h=>rfl,agB,axm⟩
def apc:SA 20 aFq Rg:=s2 aQ7 aPr X6 uV
theorem aHP:Rs Ys atD WO (λs:Nv=>Et (tk1 s.p.gs s.i) s.k.toNat s.p.st (s.m-s.k).toNat) (λx s' (v:List St)=>x=.exit 2/\s'.p.st=v):=DJ aQ7 aPr (λs hI=>by
  obtain ⟨h0,h1,h2,h3⟩:=hI;refine AH (λc1=>?_) λc1=>?_
  ·have c1:s.k<s.m:=A8
   rw [AJ (x:=s.k+1),MN h0 c1];refine AH (λc2=>?_) λc2=>?_
   ·rw [show tk1 s.p.gs s.i s.k.toNat s.p.st=_ from AD<|eq_of_beq c2]
    rfl
   ·rw [show tk1 s.p.gs s.i s.k.toNat s.p.st=_ from AE<|CN.1 c2]
    rfl
  ·have c1:s.m<=s.k:=A8
   exact ⟨rfl,(nt c1).symm⟩)
structure LU where
 (n i:Int)
 p:PK
 ev:EW
def aFp:=bN f66 0
def NN (s:LU):Nv:=letI a:=s.p.dr.getD s.i.toNat<|Ty.dflt A7;(⟨s.i,s.n,s.i,AA<|(BA (AA<|s.p.tk+1) a)-(BA s.p.tk a),0,s.p,s.ev⟩:Nv)
def zF (s:LU):T (Rd LU):=letI a:=s.p.dr.getD s.i.toNat<|Ty.dflt A7;.br (an<|s.i<s.n) (.ik s.i (M s.p.dr)<|.br (((HC s.p.tk a) !=0) ||((HC (AA<|s.p.tk+1) a) !=0)) (.rl s.p.dr<|.pd s.p<|.nx {s with i:=AA<|s.i+1})<|.rl s.p.dr<|.pd s.p<|.req (Rg.q<|NN s)<|.rl s.p.dr<|.rl s.p.cs<|.rl (WO<|NN s).p.st<|.rl s.p.ca<|.rl s.p.mi<|.rl s.p.me<|.rl s.p.dr<|.rl s.p.tg<|.nx {s with i:=AA<|s.i+1,p.st:=(WO<|NN s).p.st})<|.rl s.p.dr<|.pd s.p<|.so (.exit 0) s
def jf (s:LU):Prop:=s.i=0/\s.n=(M s.p.dr:Int)/\M s.p.dr=M s.p.gs/\s.n<=1000/\M s.p.st=M s.p.gs/\(0<=s.p.tk/\s.p.tk<=1000000)
def YB (s:LU):Prop:=0<=s.i/\s.i<=s.n/\s.n=(M s.p.dr:Int)/\M s.p.dr=M s.p.gs/\s.n<=1000/\M s.p.st=M s.p.gs/\(0<=s.p.tk/\s.p.tk<=1000000)
def eU (s:LU):Nat:=(s.n-s.i).toNat
def acZ (x:Ex) (s s':LU):Prop:=True
def alI:∀s,jf s->YB s:=by
 exact xv
theorem ug {s:LU}(hI:YB s) (c1:s.i<s.n):Ys (NN s)/\((HC s.p.tk (gi s.p.dr s.i.toNat)=0/\HC (s.p.tk+1) (gi s.p.dr s.i.toNat)=0)->(WO<|NN s).p.st=cnt1 s.p.gs s.p.dr s.p.tk s.i.toNat s.p.st):=by
 obtain ⟨h0,h1,h2,h3,h4,h6,h7⟩:=hI
 have hg:s.p.dr.getD s.i.toNat (Ty.dflt A7)=gi s.p.dr s.i:=rfl
 have b1:=aa5 s.p.tk<|gi s.p.dr s.i
 have b2:=aa5 (s.p.tk+1)<|gi s.p.dr s.i
 have hm:(NN s).m=BA (s.p.tk+1) (gi s.p.dr s.i)-BA s.p.tk (gi s.p.dr s.i):=by
  show AA (BA (AA<|s.p.tk+1) _-BA s.p.tk _)=_
  rw [hg,AJ (x:=s.p.tk+1),AJ (x:=BA (s.p.tk+1) _-BA s.p.tk _)]
 have hE:Ys (NN s):=⟨rfl,⟨h0,by show s.i<(M s.p.gs:Int);omega⟩,h6,A0⟩
 refine ⟨hE,λhc=>?_⟩
 have q:(WO<|NN s).p.st=Et (tk1 s.p.gs s.i) 0 s.p.st ((NN s).m-0).toNat:=(aHP _ hE).2
 rw [q,hm,Po,auh];unfold cnt1
 grind
theorem ag9:Da YB eU acZ zF:=by
 intro s hI;obtain ⟨h0,h1,h2,h3,h4,h6,h7⟩:=id hI;refine AH (λc1=>AH (λc2=>?_) λc2=>?_) λc1=>trivial
 all_goals have c1:s.i<s.n:=AX
 all_goals rw [AJ (x:=s.i+1)]
 ·exact ⟨⟨A8,A8,h2,h3,h4,h6,h7⟩,by simp only [eU];omega⟩
 ·have hl:M (WO<|NN s).p.st=M s.p.gs:=by
   rw [(aHP _ (ug hI c1).1).2];exact (aGn λ_ _=>Ir).trans h6
  exact ⟨⟨A8,A8,h2,h3,h4,hl,h7⟩,by simp only [eU];omega⟩
def Qw:AT LU:=⟨20,57,[0,12,13,14],[.pc 16 17 BM,.kb 18,.kb 19],λs=>[.own 16 0,.os 14 1 0<|M s.p.dr,s.n,s.i],λs=>[AP,AP,zB,AP,bV 79 Ad s.p.cs,AP,AP,AP,bV 58 B3 s.p.st,bV 69 AQ s.p.ca,bV 148 B6 s.p.mi,bV 105 BQ s.p.me,AP,AP,bV 3 A7 s.p.dr,bV 3 A7 s.p.tg,⟨[.os 4 11 0<|M s.p.cs,.xl .str s.p.os,.xl Ai s.p.ks,.xl Ae s.p.gs,.xl Aj s.p.bs,.v<|Y J s.p.tk,.v<|.bool s.p.up,.xl AQ s.p.ls,.v<|Y J s.p.se,.xl (.int aw) s.p.fl,.xl Am s.p.ra,.v<|Y J s.p.nx,.os 8 4 0<|M s.p.st,.os 9 5 0<|M s.p.ca,.os 10 3 0<|M s.p.mi,.os 11 3 0<|M s.p.me,.xl Au s.p.dm,.xl BM s.p.lk,.os 14 1 0<|M s.p.dr,.os 15 1 0<|M s.p.tg,.v<|Y J s.ev.ek,.v<|Y J s.ev.en,.v<|Y J s.ev.em,.v<|Y J s.ev.c1,.v<|Y J s.ev.c2,.v<|Y J s.ev.c3,.v<|Y J s.ev.c4,.v<|Y J s.ev.c5,.v<|.bool s.ev.d1,.v<|Y J s.ev.d2,.v<|Y J s.ev.d3,.v<|Y J s.ev.d4,.v<|.slice aj 0 0],116,.cl,X⟩,AP,AP,AP],λv b=>⟨AK v 2,AK v 3,rT b,rG b⟩,zF,λs r=> {s with i:=r.i,p.st:=r.p.st},λs=>s,λ_ s=>s,[.exit 0],jf,YB,eU⟩
abbrev dG:=Qw.run
abbrev atC:=Qw.Av
def axl:Rq YB zF:=by
 intro s hI;refine ⟨λc1=>⟨?_,?_,λc2=>⟨A9,A9,A9,A9,A9,A9,A9,A9,ak⟩,λc2=>⟨A9,A9,A9,A9,A9,A9,A9,A9,?_,A9,A9,A9,A9,A9,A9,A9,A9,ak⟩⟩,λc1=>⟨A9,A9,A9,A9,A9,A9,A9,A9,ak⟩⟩
 all_goals ((obtain ⟨h0,h1,h2,h3,h4,h6,h7⟩:=id hI;simp only [Ac] at c1;first|omega|exact ⟨(ug hI c1).1,rfl,rfl⟩))
def aQ6:Qw.Ok:={}
def aPq:Qw.Pf (acZ):=⟨alI,λs h=>rfl,ag9,axl⟩
def MW:SA 20 aFp Qw:=AT.snd aQ6 aPq (GP (Γ:=X6) (K:=uV) (L:=(Lv (λi=>if i=7 then Rg.lp else Al i))) (gk X6) uV.h aFp (λb hb=>by
 rw [show BD _=[aFq] by kernel_rfl] at hb
 simp only [B7,Bt,Bu] at hb;subst hb;exact apc)) λs=>AU
theorem asG:Rs jf atC dG (λs:LU=>Et (cnt1 s.p.gs s.p.dr s.p.tk) s.i.toNat s.p.st (s.n-s.i).toNat) (λx s' (v:List St)=>x=.exit 0/\s'.p.st=v):=DJ aQ6 aPq (λs hI=>by
  obtain ⟨h0,h1,h2,h3,h4,h6,h7⟩:=id hI;refine AH (λc1=>?_) λc1=>?_
  ·have c1:s.i<s.n:=A8
   have hg:s.p.dr.getD s.i.toNat (Ty.dflt A7)=gi s.p.dr s.i.toNat:=MI
   rw [AJ (x:=s.i+1),AJ (x:=s.p.tk+1),hg,MN h0 c1];refine AH (λc2=>?_) λc2=>?_
   ·rw [show cnt1 s.p.gs s.p.dr s.p.tk s.i.toNat s.p.st=s.p.st from AE λh=>A8]
    rfl
   ·have c2:HC s.p.tk (gi s.p.dr s.i.toNat)=0/\HC (s.p.tk+1) (gi s.p.dr s.i.toNat)=0:=A8
    rw [<-(ug hI c1).2 c2];rfl
  ·have c1:s.n<=s.i:=A8
   exact ⟨rfl,(nt c1).symm⟩)
structure LQ where
 gl:List Ch
 (n i:Int)
 p:PK
 ev:EW
 dw:List Int
def dz (s:LQ) (e:Int) (o:Int) (ce:Int) (a:Int) (al:Int) (se:Int) (sn:St) (m:Mi) (cn:Me):T (Rd LQ):=letI b:=s.p.mi.set s.i.toNat m;letI c:=s.dw.set s.i.toNat a;letI d:=s.p.me.set s.i.toNat cn;letI f:=M s.p.mi;letI g:=M s.p.st;letI h:=AA<|s.i+1;letI j:=s.p.st.set s.i.toNat sn;letI k:=M s.dw;letI l:=M s.p.me;.br (an<|s.i<s.n) (.ix s.i (M s.gl)<|.ik s.i (M s.p.ca)<|.br (!((s.p.ca.getD s.i.toNat<|Ty.dflt AQ).2.2.1 !=0)) (.pd s.p<|.rl s.dw<|.nx {s with i:=h})<|.ik s.i g<|.ik s.i (M s.p.ca)<|.ik s.i f<|.br (e !=0) (.pd s.p<|.rl s.dw<|.nx {s with i:=h})<|.ik s.i k<|.ik s.i f<|.ik s.i l<|.req (0<=(IntKind.u64.wrap o)/\(IntKind.u64.wrap o)<=7)<|.br (ce==0) (.ik s.i l<|.br (an<|a>al) (.ix s.i (M s.p.gs)<|.ik s.i g<|.br (se==0) (.ik s.i g<|.rl s.p.cs<|.re g j<|.rl s.p.ca<|.re f b<|.re l d<|.rl s.p.dr<|.rl s.p.tg<|.re k c<|.nx {s with i:=h,p.st:=j,p.mi:=b,p.me:=d,dw:=c})<|.rl s.p.cs<|.rl s.p.st<|.rl s.p.ca<|.re f b<|.re l d<|.rl s.p.dr<|.rl s.p.tg<|.re k c<|.nx {s with i:=h,p.mi:=b,p.me:=d,dw:=c})<|.rl s.p.cs<|.rl s.p.st<|.rl s.p.ca<|.re f b<|.re l d<|.rl s.p.dr<|.rl s.p.tg<|.re k c<|.nx {s with i:=h,p.mi:=b,p.me:=d,dw:=c})<|.br (an<|a>al) (.ix s.i (M s.p.gs)<|.ik s.i g<|.br (se==0) (.ik s.i g<|.rl s.p.cs<|.re g j<|.rl s.p.ca<|.re f b<|.rl s.p.me<|.rl s.p.dr<|.rl s.p.tg<|.re k c<|.nx {s with i:=h,p.st:=j,p.mi:=b,dw:=c})<|.rl s.p.cs<|.rl s.p.st<|.rl s.p.ca<|.re f b<|.rl s.p.me<|.rl s.p.dr<|.rl s.p.tg<|.re k c<|.nx {s with i:=h,p.mi:=b,dw:=c})<|.rl s.p.cs<|.rl s.p.st<|.rl s.p.ca<|.re f b<|.rl s.p.me<|.rl s.p.dr<|.rl s.p.tg<|.re k c<|.nx {s with i:=h,p.mi:=b,dw:=c})<|.pd s.p<|.rl s.dw<|.so (.exit 0) s
abbrev XM (s:LQ):=letI b:=s.p.ca.getD s.i.toNat<|Ty.dflt AQ;letI c:=s.p.mi.getD s.i.toNat<|Ty.dflt B6;letI d:=AG s.gl s.i;letI e:=s.p.st.getD s.i.toNat<|Ty.dflt B3;letI g:=s.p.me.getD s.i.toNat<|Ty.dflt BQ;letI a:=BX d e;letI f:=cnt<|IntKind.u64.wrap<|Eb b c d.2.2.1 a;letI h:=FQ b c d.2.2.1 a;dz s (JD b c d.2.2.1 a) (Eb b c d.2.2.1 a) (GF g h f) h a (sE (AG s.p.gs s.i) e (6:Int) (2:Int) (0:Int)) (sN (AG s.p.gs s.i) e (6:Int) (2:Int) (0:Int)) (Jp b c d.2.2.1 a)<|I0 g h f
def iL (s:LQ):Prop:=s.i=0/\s.n=(M s.p.gs:Int)/\s.n<=1000/\s.gl=s.p.gs/\(M s.p.st=M s.p.gs/\M s.p.ca=M s.p.gs/\M s.p.mi=M s.p.gs/\M s.p.me=M s.p.gs/\M s.dw=M s.p.gs)
def Tu (s:LQ):Prop:=0<=s.i/\s.i<=s.n/\s.n=(M s.p.gs:Int)/\s.n<=1000/\s.gl=s.p.gs/\(M s.p.st=M s.p.gs/\M s.p.ca=M s.p.gs/\M s.p.mi=M s.p.gs/\M s.p.me=M s.p.gs/\M s.dw=M s.p.gs)
def bc (s:LQ):Nat:=(s.n-s.i).toNat
def aAf (x:Ex) (s s':LQ):Prop:=True
def ala:∀s,iL s->Tu s:=by
 exact xv
def asM (s:LQ) (hI:Tu s) (e:Int) (o:Int) (ce:Int) (a:Int) (al:Int) (se:Int) (sn:St) (m:Mi) (cn:Me) (he:JD (s.p.ca.getD s.i.toNat<|Ty.dflt AQ) (s.p.mi.getD s.i.toNat<|Ty.dflt B6) (AG s.gl s.i).2.2.1 (BX (AG s.gl s.i)<|s.p.st.getD s.i.toNat<|Ty.dflt B3)=e) (ho:Eb (s.p.ca.getD s.i.toNat<|Ty.dflt AQ) (s.p.mi.getD s.i.toNat<|Ty.dflt B6) (AG s.gl s.i).2.2.1 (BX (AG s.gl s.i)<|s.p.st.getD s.i.toNat<|Ty.dflt B3)=o) (hce:GF (s.p.me.getD s.i.toNat<|Ty.dflt BQ) (FQ (s.p.ca.getD s.i.toNat<|Ty.dflt AQ) (s.p.mi.getD s.i.toNat<|Ty.dflt B6) (AG s.gl s.i).2.2.1<|BX (AG s.gl s.i)<|s.p.st.getD s.i.toNat<|Ty.dflt B3) (cnt<|IntKind.u64.wrap<|Eb (s.p.ca.getD s.i.toNat<|Ty.dflt AQ) (s.p.mi.getD s.i.toNat<|Ty.dflt B6) (AG s.gl s.i).2.2.1<|BX (AG s.gl s.i)<|s.p.st.getD s.i.toNat<|Ty.dflt B3)=ce) (ha:FQ (s.p.ca.getD s.i.toNat<|Ty.dflt AQ) (s.p.mi.getD s.i.toNat<|Ty.dflt B6) (AG s.gl s.i).2.2.1 (BX (AG s.gl s.i)<|s.p.st.getD s.i.toNat<|Ty.dflt B3)=a) (hal:BX (AG s.gl s.i) (s.p.st.getD s.i.toNat<|Ty.dflt B3)=al) (hse:sE (AG s.p.gs s.i) (s.p.st.getD s.i.toNat<|Ty.dflt B3) (6:Int) (2:Int) (0:Int)=se) (hsn:sN (AG s.p.gs s.i) (s.p.st.getD s.i.toNat<|Ty.dflt B3) (6:Int) (2:Int) (0:Int)=sn) (hm:Jp (s.p.ca.getD s.i.toNat<|Ty.dflt AQ) (s.p.mi.getD s.i.toNat<|Ty.dflt B6) (AG s.gl s.i).2.2.1 (BX (AG s.gl s.i)<|s.p.st.getD s.i.toNat<|Ty.dflt B3)=m) (hcn:I0 (s.p.me.getD s.i.toNat<|Ty.dflt BQ) (FQ (s.p.ca.getD s.i.toNat<|Ty.dflt AQ) (s.p.mi.getD s.i.toNat<|Ty.dflt B6) (AG s.gl s.i).2.2.1<|BX (AG s.gl s.i)<|s.p.st.getD s.i.toNat<|Ty.dflt B3) (cnt<|IntKind.u64.wrap<|Eb (s.p.ca.getD s.i.toNat<|Ty.dflt AQ) (s.p.mi.getD s.i.toNat<|Ty.dflt B6) (AG s.gl s.i).2.2.1<|BX (AG s.gl s.i)<|s.p.st.getD s.i.toNat<|Ty.dflt B3)=cn):DK (λs'=>Tu s'/\bc s'<bc s) (λx s'=>aAf x s s') ((dz s e o ce a al se sn m cn).rd s):=by
 unfold dz;dsimp only [T.rd,T.rl,T.rv];obtain ⟨h0,h1,h2,h3,hg,l1,l2,l3,l4,l5⟩:=hI;refine AH (λc1=>?_) λc1=>?_
 ·refine AH (λc2=>?_) (λc2=>?_)
  ·exact Zd
  ·refine AH (λc3=>?_) (λc3=>?_)
   ·exact Zd
   ·refine AH (λc4=>?_) (λc4=>?_)
    ·exact aKv
    ·exact aKv
 ·trivial
def agx:Da Tu bc aAf XM:=λs hI=>asM s hI _ _ _ _ _ _ _ _ _ rfl rfl rfl rfl rfl rfl rfl rfl rfl
def Rc:AT LQ:=⟨20,124,[0,27,28,29],[],λs=>[.own 16 0,s.gl,s.n,s.i],λs=>[AP,AP,zB,AP,bV 79 Ad s.p.cs,AP,AP,AP,bV 58 B3 s.p.st,bV 69 AQ s.p.ca,bV 148 B6 s.p.mi,bV 105 BQ s.p.me,AP,AP,bV 3 A7 s.p.dr,bV 3 A7 s.p.tg,⟨[.os 4 11 0<|M s.p.cs,.xl .str s.p.os,.xl Ai s.p.ks,.xl Ae s.p.gs,.xl Aj s.p.bs,.v<|Y J s.p.tk,.v<|.bool s.p.up,.xl AQ s.p.ls,.v<|Y J s.p.se,.xl (.int aw) s.p.fl,.xl Am s.p.ra,.v<|Y J s.p.nx,.os 8 4 0<|M s.p.st,.os 9 5 0<|M s.p.ca,.os 10 3 0<|M s.p.mi,.os 11 3 0<|M s.p.me,.xl Au s.p.dm,.xl BM s.p.lk,.os 14 1 0<|M s.p.dr,.os 15 1 0<|M s.p.tg,.v<|Y J s.ev.ek,.v<|Y J s.ev.en,.v<|Y J s.ev.em,.v<|Y J s.ev.c1,.v<|Y J s.ev.c2,.v<|Y J s.ev.c3,.v<|Y J s.ev.c4,.v<|Y J s.ev.c5,.v<|.bool s.ev.d1,.v<|Y J s.ev.d2,.v<|Y J s.ev.d3,.v<|Y J s.ev.d4,.os 20 1 0<|M s.dw],116,.cl,X⟩,AP,AP,AP,bV 3 A7 s.dw],λv b=>⟨B5 Ae v 1,AK v 2,AK v 3,rT b,rG b,Ab A7 b 20⟩,XM,λs r=> {s with i:=r.i,p.st:=r.p.st,p.mi:=r.p.mi,p.me:=r.p.me,dw:=r.dw},λs=>s,λ_ s=>s,[.exit 0],iL,Tu,bc⟩
abbrev JS:=Rc.run
abbrev aso:=Rc.Av
def u7:List Bd:=[QW,Qz,WV,dt,XB,XL,XC,WT,Qy]
def azc:Ay:=I2 u7 (la 1 func66 MW<|la 2 func75 LA<|la 9 func29 Cn<|l0 u7) [⟨64,PL.m,TX⟩]
def awj:Rq Tu XM:=by
 intro s hI;refine ⟨λc1=>⟨?_,?_,?_,λc2=>⟨A9,A9,A9,A9,A9,A9,A9,A9,ak⟩,λc2=>⟨?_,?_,?_,?_,?_,?_,λc3=>⟨A9,A9,A9,A9,A9,A9,A9,A9,ak⟩,λc3=>⟨?_,?_,?_,?_,?_,?_,?_,λc4=>⟨?_,?_,λc5=>⟨?_,?_,?_,λc6=>⟨?_,?_,A9,?_,A9,?_,?_,A9,A9,?_,ak⟩,λc6=>⟨A9,A9,A9,?_,?_,A9,A9,?_,ak⟩⟩,λc5=>⟨A9,A9,A9,?_,?_,A9,A9,?_,ak⟩⟩,λc4=>⟨λc7=>⟨?_,?_,?_,λc8=>⟨?_,?_,A9,?_,A9,?_,A9,A9,A9,?_,ak⟩,λc8=>⟨A9,A9,A9,?_,A9,A9,A9,?_,ak⟩⟩,λc7=>⟨A9,A9,A9,?_,A9,A9,A9,?_,ak⟩⟩⟩⟩⟩,λc1=>⟨A9,A9,A9,A9,A9,A9,A9,A9,ak⟩⟩
 all_goals ((obtain ⟨h0,h1,h2,h3,hg,l1,l2,l3,l4,l5⟩:=hI;simp only [Ac] at c1;first|(rw [hg];omega) |omega|exact ⟨rfl,AI⟩ |(rw [aaI];exact aRv)))
def aQW:Rc.Ok:={}
def aOy:Rc.Pf (aAf):=⟨ala,λs h=>rfl,agx,awj⟩
def NR:=s2 (b:=bN f67 0) aQW aOy u7 azc
def asL:Rs iL aso JS (λs:LQ=>Et (λk d=>Gp s.p.gs s.p.ca d (k:Int)) s.i.toNat ⟨s.p.st,s.p.mi,s.p.me,s.dw⟩ (s.n-s.i).toNat) (λx s' (v:DW)=>x=.exit 0/\(⟨s'.p.st,s'.p.mi,s'.p.me,s'.dw⟩:DW)=v):=DJ aQW aOy (λs hI=>by
  show DK _ _ ((XM s).rd s)
  unfold XM dz;dsimp only [T.rd,T.rl];obtain ⟨h0,h1,h2,h3,hg,l1,l2,l3,l4,l5⟩:=hI
  have hi:((s.i.toNat:Nat):Int)=s.i:=CM h0
  rw [hg];simp only [aaI];refine AH (λc1=>?_) λc1=>?_
  ·refine AH (λc2=>?_) (λc2=>?_)
   ·have c1:s.i<s.n:=AX
    rw [AJ (x:=s.i+1),MN h0 c1,hi]
    have c2:(Bc s.p.ca s.i).2.2.1=0:=Dg<|(Cs _).mp c2
    rw [ald c2];rfl
   ·refine AH (λc3=>?_) (λc3=>?_)
    ·have c1:s.i<s.n:=AX
     rw [AJ (x:=s.i+1),MN h0 c1,hi]
     have c2:¬(Bc s.p.ca s.i).2.2.1=0:=Ek.1<|(I5 _).mp c2
     have c3:=Ek.1 c3
     rw [alc c2 c3];rfl
    ·refine AH (λc4=>?_) (λc4=>?_)
     ·refine AH (λc5=>?_) (λc5=>?_)
      ·refine AH (λc6=>?_) (λc6=>?_)
       ·have c1:s.i<s.n:=AX
        rw [AJ (x:=s.i+1),MN h0 c1,hi]
        have c2:¬(Bc s.p.ca s.i).2.2.1=0:=Ek.1<|(I5 _).mp c2
        have c3:JD (Bc s.p.ca s.i) (Cj s.p.mi s.i) (AG s.p.gs s.i).2.2.1 (BX (AG s.p.gs s.i)<|BJ s.p.st s.i)=0:=Dg c3
        rw [U1 c2 c3];rw [AD (show GF (gMe s.p.me s.i) (FQ (Bc s.p.ca s.i) (Cj s.p.mi s.i) (AG s.p.gs s.i).2.2.1<|BX (AG s.p.gs s.i)<|BJ s.p.st s.i) (cnt<|Eb (Bc s.p.ca s.i) (Cj s.p.mi s.i) (AG s.p.gs s.i).2.2.1<|BX (AG s.p.gs s.i)<|BJ s.p.st s.i)=0 from eq_of_beq c4)];exact aKZ
       ·have c1:s.i<s.n:=AX
        rw [AJ (x:=s.i+1),MN h0 c1,hi]
        have c2:¬(Bc s.p.ca s.i).2.2.1=0:=Ek.1<|(I5 _).mp c2
        have c3:JD (Bc s.p.ca s.i) (Cj s.p.mi s.i) (AG s.p.gs s.i).2.2.1 (BX (AG s.p.gs s.i)<|BJ s.p.st s.i)=0:=Dg c3
        rw [U1 c2 c3];rw [AD (show GF (gMe s.p.me s.i) (FQ (Bc s.p.ca s.i) (Cj s.p.mi s.i) (AG s.p.gs s.i).2.2.1<|BX (AG s.p.gs s.i)<|BJ s.p.st s.i) (cnt<|Eb (Bc s.p.ca s.i) (Cj s.p.mi s.i) (AG s.p.gs s.i).2.2.1<|BX (AG s.p.gs s.i)<|BJ s.p.st s.i)=0 from eq_of_beq c4)];exact aKa
      ·have c1:s.i<s.n:=AX
       rw [AJ (x:=s.i+1),MN h0 c1,hi]
       have c2:¬(Bc s.p.ca s.i).2.2.1=0:=Ek.1<|(I5 _).mp c2
       have c3:JD (Bc s.p.ca s.i) (Cj s.p.mi s.i) (AG s.p.gs s.i).2.2.1 (BX (AG s.p.gs s.i)<|BJ s.p.st s.i)=0:=Dg c3
       rw [U1 c2 c3];rw [AD (show GF (gMe s.p.me s.i) (FQ (Bc s.p.ca s.i) (Cj s.p.mi s.i) (AG s.p.gs s.i).2.2.1<|BX (AG s.p.gs s.i)<|BJ s.p.st s.i) (cnt<|Eb (Bc s.p.ca s.i) (Cj s.p.mi s.i) (AG s.p.gs s.i).2.2.1<|BX (AG s.p.gs s.i)<|BJ s.p.st s.i)=0 from eq_of_beq c4)];exact aLN
     ·refine AH (λc5=>?_) (λc5=>?_)
      ·refine AH (λc6=>?_) (λc6=>?_)
       ·have c1:s.i<s.n:=AX
        rw [AJ (x:=s.i+1),MN h0 c1,hi]
        have c2:¬(Bc s.p.ca s.i).2.2.1=0:=Ek.1<|(I5 _).mp c2
        have c3:JD (Bc s.p.ca s.i) (Cj s.p.mi s.i) (AG s.p.gs s.i).2.2.1 (BX (AG s.p.gs s.i)<|BJ s.p.st s.i)=0:=Dg c3
        rw [U1 c2 c3];rw [AE (show ¬GF (gMe s.p.me s.i) (FQ (Bc s.p.ca s.i) (Cj s.p.mi s.i) (AG s.p.gs s.i).2.2.1<|BX (AG s.p.gs s.i)<|BJ s.p.st s.i) (cnt<|Eb (Bc s.p.ca s.i) (Cj s.p.mi s.i) (AG s.p.gs s.i).2.2.1<|BX (AG s.p.gs s.i)<|BJ s.p.st s.i)=0 from CN.1 c4)];exact aKZ
       ·have c1:s.i<s.n:=AX
        rw [AJ (x:=s.i+1),MN h0 c1,hi]
        have c2:¬(Bc s.p.ca s.i).2.2.1=0:=Ek.1<|(I5 _).mp c2
        have c3:JD (Bc s.p.ca s.i) (Cj s.p.mi s.i) (AG s.p.gs s.i).2.2.1 (BX (AG s.p.gs s.i)<|BJ s.p.st s.i)=0:=Dg c3
        rw [U1 c2 c3];rw [AE (show ¬GF (gMe s.p.me s.i) (FQ (Bc s.p.ca s.i) (Cj s.p.mi s.i) (AG s.p.gs s.i).2.2.1<|BX (AG s.p.gs s.i)<|BJ s.p.st s.i) (cnt<|Eb (Bc s.p.ca s.i) (Cj s.p.mi s.i) (AG s.p.gs s.i).2.2.1<|BX (AG s.p.gs s.i)<|BJ s.p.st s.i)=0 from CN.1 c4)];exact aKa
      ·have c1:s.i<s.n:=AX
       rw [AJ (x:=s.i+1),MN h0 c1,hi]
       have c2:¬(Bc s.p.ca s.i).2.2.1=0:=Ek.1<|(I5 _).mp c2
       have c3:=Dg c3
       rw [U1 c2 c3];rw [AE (show ¬GF (gMe s.p.me s.i) (FQ (Bc s.p.ca s.i) (Cj s.p.mi s.i) (AG s.p.gs s.i).2.2.1<|BX (AG s.p.gs s.i)<|BJ s.p.st s.i) (cnt<|Eb (Bc s.p.ca s.i) (Cj s.p.mi s.i) (AG s.p.gs s.i).2.2.1<|BX (AG s.p.gs s.i)<|BJ s.p.st s.i)=0 from CN.1 c4)];exact aLN
  ·have c1:s.n<=s.i:=AX
   exact ⟨rfl,(nt c1).symm⟩)
structure Mn where
 m:List Ch
 (k i:Int)
 p:PK
 ev:EW
 (dw out:List Int)
def amT (s:Mn):List LV:=[.os 21 1 0<|M s.out,s.m,s.k,s.i]
def alE (s:Mn):List AB:=[AP,AP,zB,AP,bV 79 Ad s.p.cs,AP,AP,AP,AP,AP,AP,AP,AP,AP,AP,bV 3 A7 s.p.tg,⟨[.os 4 11 0<|M s.p.cs,.xl .str s.p.os,.xl Ai s.p.ks,.xl Ae s.p.gs,.xl Aj s.p.bs,.v<|Y J s.p.tk,.v<|.bool s.p.up,.xl AQ s.p.ls,.v<|Y J s.p.se,.xl (.int aw) s.p.fl,.xl Am s.p.ra,.v<|Y J s.p.nx,.xl B3 s.p.st,.xl AQ s.p.ca,.xl B6 s.p.mi,.xl BQ s.p.me,.xl Au s.p.dm,.xl BM s.p.lk,.xl A7 s.p.dr,.os 15 1 0<|M s.p.tg,.v<|Y J s.ev.ek,.v<|Y J s.ev.en,.v<|Y J s.ev.em,.v<|Y J s.ev.c1,.v<|Y J s.ev.c2,.v<|Y J s.ev.c3,.v<|Y J s.ev.c4,.v<|Y J s.ev.c5,.v<|.bool s.ev.d1,.v<|Y J s.ev.d2,.v<|Y J s.ev.d3,.v<|Y J s.ev.d4,.os 20 1 0<|M s.dw],116,.cl,X⟩,AP,AP,AP,bV 3 A7 s.dw,bV 3 A7 s.out]
def anp:=bN f51 0
def vw (s:Mn):T (Rd Mn):=letI a:=s.out.set s.i.toNat (AG s.m s.i).2.2.2.2.2.2.1;.br (an<|s.i<s.k) (.ix s.i (M s.m)<|.ik s.i (M s.out)<|.re (M s.out) a<|.rl s.p.cs<|.rl s.p.tg<|.rl s.dw<|.nx {s with i:=AA<|s.i+1,out:=a})<|.rl s.out<|.rl s.p.cs<|.rl s.p.tg<|.rl s.dw<|.so (.exit 0) s
def jW (s:Mn):Prop:=s.i=0/\s.k=(M s.m:Int)/\s.k<=1000/\M s.out=M s.m/\(∀j,0<=j->j<s.k->gi s.out j=0)/\True
def YP (s:Mn):Prop:=(0<=s.i/\s.i<=s.k)/\s.k=(M s.m:Int)/\s.k<=1000/\M s.out=M s.m/\(∀j,0<=j->j<s.k->gi s.out j=if j<s.i then CO (AG s.m j) else 0)/\True
def tM (s:Mn):Nat:=(s.k-s.i).toNat
def aA4 (x:Ex) (s s':Mn):Prop:=x=.exit 0/\s'.out=H7 (M s'.m) (λj=>CO<|AG s'.m j)
theorem aim:∀s,jW s->YP s:=by
 exact Sk
theorem avl:Da YP tM aA4 vw:=by
 intro s hI;obtain ⟨⟨h0,h1⟩,h2,h3,h4,h5,h6⟩:=hI;refine AH (λc1=>?_) λc1=>?_
 ·have c1:s.i<s.k:=AX
  rw [AJ (x:=s.i+1)];refine ⟨⟨⟨A8,A8⟩,h2,h3,A8,λj j0 j1=>?_,h6⟩,by simp only [tM];omega⟩
  simp only;rw [JW h0 A0 j0];exact kZ
 ·exact Zh
def Ql:AT Mn:=⟨21,25,[3,11,12,13],[.pc 16 12 B3,.kb 8,.pc 16 13 AQ,.kb 9,.pc 16 14 B6,.kb 10,.pc 16 15 BQ,.kb 11,.pc 16 18 A7,.kb 14],amT,alE,λv b=>⟨B5 Ae v 1,AK v 2,AK v 3,rB b 16 4 0 0 0 0 0 0 0 0 0 0 15,rG b,Ab A7 b 20,Ab A7 b 21⟩,vw,λs r=> {s with i:=r.i,out:=r.out},λs=>s,λ_ s=>s,[.exit 0],jW,YP,tM⟩
abbrev oS:=Ql.run
abbrev ard:=Ql.Av
def P5:List Bd:=[QW,Qz,WV,XB,XL,XC,WT,Qy]
def azb:Ay:=I2 P5 (la 2 func67 NR<|la 1 func66 MW<|la 2 func75 LA<|la 9 func29 Cn<|l0 P5) [⟨64,PL.m,TX⟩]
def aws:Rq YP vw:=by
 intro s hI;refine ⟨λc1=>⟨?_,?_,?_,?_,A9,A9,A9,ak⟩,λc1=>⟨A9,A9,A9,A9,ak⟩⟩
 all_goals ((obtain ⟨⟨h0,h1⟩,h2,h3,h4,h5,h6⟩:=hI;(try simp only [Ac] at c1);first|omega|exact ⟨rfl,AI⟩ |(omega)))
def aPl:Ql.Ok:={}
def aPE:Ql.Pf (aA4):=⟨aim,λs h=>rfl,avl,aws⟩
def Ou:SA 21 anp Ql:=s2 aPl aPE P5 azb
def apw:Fi jW YP aA4 ard oS:=AT.fin aPl aPE
structure Mo where
 m:List Int
 (k i:Int)
 p:PK
 ev:EW
 (dw Cv:List Int)
def amU (s:Mo):List LV:=[.own 16 0,.os 21 1 0<|M s.Cv,.xl A7 s.m,s.k,s.i]
def alF (s:Mo):List AB:=[AP,AP,zB,AP,bV 79 Ad s.p.cs,AP,AP,AP,AP,AP,AP,AP,AP,AP,AP,bV 3 A7 s.p.tg,⟨[.os 4 11 0<|M s.p.cs,.xl .str s.p.os,.xl Ai s.p.ks,.xl Ae s.p.gs,.xl Aj s.p.bs,.v<|Y J s.p.tk,.v<|.bool s.p.up,.xl AQ s.p.ls,.v<|Y J s.p.se,.xl (.int aw) s.p.fl,.xl Am s.p.ra,.v<|Y J s.p.nx,.xl B3 s.p.st,.xl AQ s.p.ca,.xl B6 s.p.mi,.xl BQ s.p.me,.xl Au s.p.dm,.xl BM s.p.lk,.xl A7 s.p.dr,.os 15 1 0<|M s.p.tg,.v<|Y J s.ev.ek,.v<|Y J s.ev.en,.v<|Y J s.ev.em,.v<|Y J s.ev.c1,.v<|Y J s.ev.c2,.v<|Y J s.ev.c3,.v<|Y J s.ev.c4,.v<|Y J s.ev.c5,.v<|.bool s.ev.d1,.v<|Y J s.ev.d2,.v<|Y J s.ev.d3,.v<|Y J s.ev.d4,.os 20 1 0<|M s.dw],116,.cl,X⟩,AP,AP,AP,bV 3 A7 s.dw,bV 3 A7 s.Cv]
def anq:=bN f68 0
def vz (s:Mo):T (Rd Mo):=letI b:=s.Cv.getD s.i.toNat<|Ty.dflt A7;letI c:=M s.Cv;letI a:=s.Cv.set s.i.toNat (if b<(gi s.m s.i) then (gi s.m s.i) else b);.br (an<|s.i<s.k) (.ix s.i (M s.m)<|.ik s.i c<|.ik s.i c<|.re c a<|.rl s.p.cs<|.rl s.p.tg<|.rl s.dw<|.nx {s with i:=AA<|s.i+1,Cv:=a})<|.rl s.Cv<|.rl s.p.cs<|.rl s.p.tg<|.rl s.dw<|.so (.exit 0) s
def jY (s:Mo):Prop:=s.i=0/\s.k=(M s.m:Int)/\s.k<=1000/\M s.Cv=M s.m/\(∀j,0<=j->j<s.k->gi s.Cv j=CO (AG s.p.gs j))/\True
def YQ (s:Mo):Prop:=(0<=s.i/\s.i<=s.k)/\s.k=(M s.m:Int)/\s.k<=1000/\M s.Cv=M s.m/\(∀j,0<=j->j<s.k->gi s.Cv j=if j<s.i then mx (CO<|AG s.p.gs j) (gi s.m j) else CO (AG s.p.gs j))/\True
def tN (s:Mo):Nat:=(s.k-s.i).toNat
def aA6 (x:Ex) (s s':Mo):Prop:=x=.exit 0/\s'.Cv=H7 (M s'.m) (λj=>mx (CO<|AG s'.p.gs j)<|gi s'.m j)
theorem ain:∀s,jY s->YQ s:=by
 exact Sk
theorem avm:Da YQ tN aA6 vz:=by
 intro s hI;obtain ⟨⟨h0,h1⟩,h2,h3,h4,h5,h6⟩:=hI;refine AH (λc1=>?_) λc1=>?_
 ·have c1:s.i<s.k:=AX
  rw [AJ (x:=s.i+1)];refine ⟨⟨⟨A8,A8⟩,h2,h3,A8,λj j0 j1=>?_,h6⟩,by simp only [tN];omega⟩
  simp only
  have hi:=h5 s.i h0 c1
  rw [AE (show ¬s.i<s.i by omega)] at hi
  rw [JW h0 aE j0]
  by_cases e:j=s.i
  ·subst e
   rw [AD rfl,AD (show s.i<s.i+1 by omega)]
   show mx (gi s.Cv s.i) (gi s.m s.i)=_
   rw [hi]
  ·exact xu
 ·exact Zh
def Qm:AT Mo:=⟨21,125,[0,2,51,52,53],[],amU,alF,λv b=>⟨B5 A7 v 2,AK v 3,AK v 4,rB b 16 4 0 0 0 0 0 0 0 0 0 0 15,rG b,Ab A7 b 20,Ab A7 b 21⟩,vz,λs r=> {s with i:=r.i,Cv:=r.Cv},λs=>s,λ_ s=>s,[.exit 0],jY,YQ,tN⟩
abbrev oT:=Qm.run
abbrev arf:=Qm.Av
def aza:Ay:=I2 P5 (la 3 func51 Ou<|la 2 func67 NR<|la 1 func66 MW<|la 2 func75 LA<|la 9 func29 Cn<|l0 P5) [⟨64,PL.m,TX⟩]
def awt:Rq YQ vz:=by
 intro s hI;refine ⟨λc1=>⟨?_,?_,?_,?_,?_,?_,A9,A9,A9,ak⟩,λc1=>⟨A9,A9,A9,A9,ak⟩⟩
 all_goals ((obtain ⟨⟨h0,h1⟩,h2,h3,h4,h5,h6⟩:=hI;(try simp only [Ac] at c1);first|omega|exact ⟨rfl,AI⟩ |(omega)))
def aPm:Qm.Ok:={}
def aPF:Qm.Pf (aA6):=⟨ain,λs h=>rfl,avm,awt⟩
def QN:SA 21 anq Qm:=s2 aPm aPF P5 aza
def apx:Fi jY YQ aA6 arf oT:=AT.fin aPm aPF
theorem ay9 {gs:List Ch}{am:List Int}{b:Bool}:((JJ gs am==0)&&!(an (M am=M gs)&&!b))=(an (M am=M gs)&&b):=by
 unfold JJ
 grind
def cdS (cs:List Cd) (tg:List Int) (i:Int):List Cd:=letI a:=(cpC cs).getD i.toNat<|Ty.dflt Ad;(cpC cs).set i.toNat (a.1,(a.2.1,((tg.getD i.toNat<|Ty.dflt A7),a.2.2.2)))
def fL {cs:List Cd}{tg:List Int}{i:Int}(h0:0<=i) (h:i<(M cs:Int)):cdS cs tg i=cs.set i.toNat (IS (Ag cs i.toNat)<|gi tg i.toNat):=by
 have e1:cs.getD i.toNat (Ty.dflt Ad)=Ag cs (i.toNat:Int):=by
  rw [Dd,DQ A0];rw [show Ag cs (i.toNat:Int)=cs[i.toNat]' A0 from QR A0];rfl
 unfold cdS;rw [X1,e1,CM h0];rfl
structure Iz where
 am:List Int
 (n i:Int)
 p:PK
 ev:EW
 dw:List Int
def amS (s:Iz):List LV:=[.own 16 0,.xl A7 s.am,.os 15 1 0<|M s.p.tg,s.n,s.i]
def alD (s:Iz):List AB:=[AP,AP,zB,AP,⟨[],79,.dead,X⟩,AP,AP,AP,AP,AP,AP,AP,AP,AP,AP,bV 3 A7 s.p.tg,⟨[.os 21 11 0<|M s.p.cs,.xl .str s.p.os,.xl Ai s.p.ks,.xl Ae s.p.gs,.xl Aj s.p.bs,.v<|Y J s.p.tk,.v<|.bool s.p.up,.xl AQ s.p.ls,.v<|Y J s.p.se,.xl (.int aw) s.p.fl,.xl Am s.p.ra,.v<|Y J s.p.nx,.xl B3 s.p.st,.xl AQ s.p.ca,.xl B6 s.p.mi,.xl BQ s.p.me,.xl Au s.p.dm,.xl BM s.p.lk,.xl A7 s.p.dr,.os 15 1 0<|M s.p.tg,.v<|Y J s.ev.ek,.v<|Y J s.ev.en,.v<|Y J s.ev.em,.v<|Y J s.ev.c1,.v<|Y J s.ev.c2,.v<|Y J s.ev.c3,.v<|Y J s.ev.c4,.v<|Y J s.ev.c5,.v<|.bool s.ev.d1,.v<|Y J s.ev.d2,.v<|Y J s.ev.d3,.v<|Y J s.ev.d4,.os 20 1 0<|M s.dw],116,.cl,X⟩,AP,AP,AP,bV 3 A7 s.dw,bV 79 Ad s.p.cs]
def ann:=bN f68 1
def fu (s:Iz):T (Rd Iz):=letI a:=((M s.p.cs:Nat):Int);letI b:=cdS s.p.cs s.p.tg s.i;letI c:=(b.drop 0).take a.toNat;letI d:=AA<|s.i+1;.br (an<|s.i<s.n) (.ik s.i (M s.p.tg)<|.ik s.i (M s.p.cs)<|.br (an<|(s.p.tg.getD s.i.toNat<|Ty.dflt A7)>=(s.p.cs.getD s.i.toNat<|Ty.dflt Ad).2.2.1) (.rl s.p.tg<|.rl s.p.cs<|.rl s.p.tg<|.rl s.dw<|.nx {s with i:=d})<|.rm 96 a<|.rz s.p.cs<|.rc a (ByteArray.empty,((0:Int),((0:Int),((0:Int),(((0:Int),(0:Int)),((0:Int),((0:Int),((0:Int),((0:Int),(0:Int)))))))))) (M<|AR s.p.cs)<|.ix s.i a.toNat<|.req (s.i.toNat<M (cpC s.p.cs))<|.req (0+a.toNat<=M b)<|.req (BL c s.p.os s.p.ks s.p.gs s.p.bs=U/\(M s.am=M s.p.gs->∀k:Nat,k<M s.am->0<=gi s.am k/\gi s.am k<=80))<|.br (((JJ s.p.gs s.am)==0)&&(!(an (M s.am=M s.p.gs)&&!HI c s.p.gs s.am))) (.rl s.p.tg<|.re a.toNat b<|.rl s.p.tg<|.rl s.dw<|.nx {s with i:=d,p.cs:=b})<|.rl s.p.tg<|.rl s.p.cs<|.rl s.p.tg<|.rl s.dw<|.nx {s with i:=d})<|.rl s.p.tg<|.rl s.p.cs<|.rl s.p.tg<|.rl s.dw<|.so (.exit 2) s
def Xi (s:Iz):Prop:=s.i=0/\s.n=(M s.p.tg:Int)/\M s.p.tg=M s.p.cs/\BL s.p.cs s.p.os s.p.ks s.p.gs s.p.bs=U/\(∀k:Nat,k<M s.p.cs->1<=gi s.p.tg k/\gi s.p.tg k<=1000)/\(M s.am=M s.p.gs->∀k:Nat,k<M s.am->0<=gi s.am k/\gi s.am k<=80)
def YO (s:Iz):Prop:=0<=s.i/\s.i<=s.n/\s.n=(M s.p.tg:Int)/\M s.p.tg=M s.p.cs/\BL s.p.cs s.p.os s.p.ks s.p.gs s.p.bs=U/\(∀k:Nat,k<M s.p.cs->1<=gi s.p.tg k/\gi s.p.tg k<=1000)/\(M s.am=M s.p.gs->∀k:Nat,k<M s.am->0<=gi s.am k/\gi s.am k<=80)
def df (s:Iz):Nat:=(s.n-s.i).toNat
def abX (x:Ex) (s s':Iz):Prop:=True
def ail:∀s,Xi s->YO s:=by
 exact xv
def sB {s:Iz}(hI:YO s) (c1:s.i<s.n):letI a:=IS (Ag s.p.cs s.i.toNat)<|gi s.p.tg s.i.toNat;((cdS s.p.cs s.p.tg s.i).drop 0).take ((M s.p.cs:Nat):Int).toNat=s.p.cs.set s.i.toNat a/\BL (s.p.cs.set s.i.toNat a) s.p.os s.p.ks s.p.gs s.p.bs=true:=by
 obtain ⟨h0,h1,h2,h3,h4,h5,h6⟩:=hI;rw [fL h0 A0];exact ⟨by rw [CP];exact DR AI,nZ h4 A0<|h5 _ A0⟩
theorem avk:Da YO df abX fu:=by
 intro s hI;unfold fu;obtain ⟨h0,h1,h2,h3,h4,h5,h6⟩:=hI
 have hs:=DF.1 h4
 refine AH (λc1=>AH (λc2=>?_) λc2=>AH (λc3=>?_) λc3=>?_) λc1=>trivial
 all_goals have c1:s.i<s.n:=AX
 all_goals rw [AJ (x:=s.i+1)]
 ·exact aLz
 ·rw [fL h0 A0]
  exact ⟨⟨AZ,AZ,h2,A8,nZ h4 A0<|h5 _ A0,A8,h6⟩,by simp only [df];omega⟩
 ·exact aLz
def Pa:AT Iz:=⟨21,125,[0,2,72,73,74],[.pc 16 12 B3,.kb 8,.pc 16 13 AQ,.kb 9,.pc 16 14 B6,.kb 10,.pc 16 15 BQ,.kb 11,.pc 16 18 A7,.kb 14,.pb 2 A7,.ms 0 0],amS,alD,λv b=>⟨B5 A7 v 1,AK v 3,AK v 4,rB b 16 21 0 0 0 0 0 0 0 0 0 0 15,rG b,Ab A7 b 20⟩,fu,λs r=> {s with i:=r.i,p.cs:=r.p.cs},λs=>s,λ_ s=>s,[.exit 2],Xi,YO,df⟩
abbrev TD:=Pa.run
abbrev arb:=Pa.Av
def azZ:Ay:=I2 P5 (la 6 func68 QN<|la 3 func51 Ou<|la 2 func67 NR<|la 1 func66 MW<|la 2 func75 LA<|la 9 func29 Cn<|l0 P5) [⟨64,PL.m,TX⟩]
def awr:Rq YO fu:=by
 intro s hI;refine ⟨λc1=>⟨?_,?_,?_,?_,λc2=>⟨A9,A9,A9,A9,ak⟩,λc2=>⟨?_,?_,?_,?_,?_,?_,?_,λc3=>⟨A9,?_,A9,A9,ak⟩,λc3=>⟨A9,A9,A9,A9,ak⟩⟩⟩,λc1=>⟨A9,A9,A9,A9,ak⟩⟩
 all_goals ((obtain ⟨h0,h1,h2,h3,h4,h5,h6⟩:=id hI;have hs:=DF.1 h4;simp only [Ac] at c1;first|exact ⟨by rw [(sB hI c1).1];exact (sB hI c1).2,h6⟩ |((try rw [X1]);(try rw [FX]);(try rw [fL h0 A0]);first|omega|exact ⟨rfl,AI⟩ |(simp;done))))
def aPk:Pa.Ok:={}
def aPD:Pa.Pf (abX):=⟨ail,λs h=>rfl,avk,awr⟩
def TH:SA 21 ann Pa:=s2 aPk aPD P5 azZ
theorem afT:Rs Xi arb TD (λs:Iz=>Et (aL s.p.gs s.p.tg s.am) s.i.toNat s.p.cs (s.n-s.i).toNat) (λx s' (v:List Cd)=>x=.exit 2/\s'.p.cs=v):=DJ aPk aPD (λs hI=>by
  obtain ⟨h0,h1,h2,h3,h4,h5,h6⟩:=id hI
  have hs:=DF.1 h4
  refine AH (λc1=>?_) λc1=>?_
  ·have c1:s.i<s.n:=A8
   have hg:s.p.tg.getD s.i.toNat (Ty.dflt A7)=gi s.p.tg s.i.toNat:=MI
   have hc:(s.p.cs.getD s.i.toNat<|Ty.dflt Ad)=Ag s.p.cs s.i.toNat:=MI
   rw [AJ (x:=s.i+1),MN h0 c1,hg,hc,(sB hI c1).1,fL h0 A0,ay9];refine AH (λc2=>?_) λc2=>?_
   ·rw [show aL s.p.gs s.p.tg s.am s.i.toNat s.p.cs=s.p.cs from AD<|Cx c2]
    rfl
   refine AH (λc3=>?_) λc3=>?_
   ·rw [show aL s.p.gs s.p.tg s.am s.i.toNat s.p.cs=_ from (AE<|Jw c2).trans<|AD c3]
    rfl
   ·rw [show aL s.p.gs s.p.tg s.am s.i.toNat s.p.cs=_ from (AE<|Jw c2).trans<|AE A8]
    rfl
  ·have c1:s.n<=s.i:=A8
   exact ⟨rfl,(nt c1).symm⟩)
structure Hi where
 p:PK
 ev:EW
def UR (s:Hi):List LV:=[.own 16 0]
def Z9 (s:Hi):List AB:=[AP,AP,zB,AP,bV 79 Ad s.p.cs,bV 90 AQ s.p.ls,bV 5 (.int aw) s.p.fl,bV 143 Am s.p.ra,bV 58 B3 s.p.st,bV 69 AQ s.p.ca,bV 148 B6 s.p.mi,bV 105 BQ s.p.me,bV 71 Au s.p.dm,bV 154 BM s.p.lk,bV 3 A7 s.p.dr,bV 3 A7 s.p.tg,⟨[.os 4 11 0<|M s.p.cs,.xl .str s.p.os,.xl Ai s.p.ks,.xl Ae s.p.gs,.xl Aj s.p.bs,.v<|Y J s.p.tk,.v<|.bool s.p.up,.os 5 5 0<|M s.p.ls,.v<|Y J s.p.se,.os 6 1 0<|M s.p.fl,.os 7 2 0<|M s.p.ra,.v<|Y J s.p.nx,.os 8 4 0<|M s.p.st,.os 9 5 0<|M s.p.ca,.os 10 3 0<|M s.p.mi,.os 11 3 0<|M s.p.me,.os 12 4 0<|M s.p.dm,.os 13 6 0<|M s.p.lk,.os 14 1 0<|M s.p.dr,.os 15 1 0<|M s.p.tg,.v<|Y J s.ev.ek,.v<|Y J s.ev.en,.v<|Y J s.ev.em,.v<|Y J s.ev.c1,.v<|Y J s.ev.c2,.v<|Y J s.ev.c3,.v<|Y J s.ev.c4,.v<|Y J s.ev.c5,.v<|.bool s.ev.d1,.v<|Y J s.ev.d2,.v<|Y J s.ev.d3,.v<|Y J s.ev.d4,.v<|.slice aj 0 0],116,.cl,X⟩]
def JV (s:Hi):Nx:=(⟨(PK.AM s.p).lk,(M (PK.AM s.p).lk:Int),0,PK.AM s.p,s.ev,([]:List Lk)⟩:Nx)
def T3 (s:Hi):LU:=(⟨((M (PK.AM s.p).dr:Nat):Int),0,{(PK.AM s.p) with st:=(K9<|JV s).p.st,lk:=AR (K9<|JV s).left},s.ev⟩:LU)
def Ha (s:Hi):LQ:=letI a:=(M (PK.AM s.p).gs:Int);(⟨(PK.AM s.p).gs,a,0,{(PK.AM s.p) with st:=(dG<|T3 s).p.st,lk:=AR (K9<|JV s).left},s.ev,aq a.toNat (0:Int)⟩:LQ)
def cM (s:Hi):Mn:=letI a:=PK.AM s.p;letI b:=JS<|Ha s;(⟨a.gs,(M a.gs:Int),0,{a with st:=AR b.p.st,ca:=AR a.ca,mi:=AR b.p.mi,me:=AR b.p.me,lk:=AR (K9<|JV s).left,dr:=AR a.dr},s.ev,b.dw,aq (M a.gs:Int).toNat (0:Int)⟩:Mn)
def T2 (s:Hi):Mo:=letI b:=PK.AM s.p;letI c:=JS<|Ha s;letI a:=(Eo b.ls (M b.gs:Int)<|AA<|b.tk+1);(⟨a,(M a:Int),0,{b with st:=AR c.p.st,ca:=AR b.ca,mi:=AR c.p.mi,me:=AR c.p.me,lk:=AR (K9<|JV s).left,dr:=AR b.dr},s.ev,c.dw,(oS<|cM s).out⟩:Mo)
def T1 (s:Hi):Iz:=letI a:=PK.AM s.p;letI b:=JS<|Ha s;(⟨AR (oT<|T2 s).Cv,((M a.tg:Nat):Int),0,{a with st:=AR b.p.st,ca:=AR a.ca,mi:=AR b.p.mi,me:=AR b.p.me,lk:=AR (K9<|JV s).left,dr:=AR a.dr},s.ev,b.dw⟩:Iz)
def T0 (s:Hi):Iz:=letI a:=PK.AM s.p;letI b:=JS<|Ha s;(⟨([]:List Int),((M a.tg:Nat):Int),0,{a with st:=AR b.p.st,ca:=AR a.ca,mi:=AR b.p.mi,me:=AR b.p.me,lk:=AR (K9<|JV s).left,dr:=AR a.dr},s.ev,b.dw⟩:Iz)
structure XX where
 res:Int
 p:PK
 ev:EW
 dw:List Int
def abj (s:XX):LV:=.v<|Y J s.res
def acn (s:XX):List AB:=[AP,AP,zB,AP,AP,AP,AP,AP,AP,AP,AP,AP,AP,AP,AP,AP,⟨[.xl Ad s.p.cs,.xl .str s.p.os,.xl Ai s.p.ks,.xl Ae s.p.gs,.xl Aj s.p.bs,.v<|Y J s.p.tk,.v<|.bool s.p.up,.xl AQ s.p.ls,.v<|Y J s.p.se,.xl (.int aw) s.p.fl,.xl Am s.p.ra,.v<|Y J s.p.nx,.xl B3 s.p.st,.xl AQ s.p.ca,.xl B6 s.p.mi,.xl BQ s.p.me,.xl Au s.p.dm,.xl BM s.p.lk,.xl A7 s.p.dr,.xl A7 s.p.tg,.v<|Y J s.ev.ek,.v<|Y J s.ev.en,.v<|Y J s.ev.em,.v<|Y J s.ev.c1,.v<|Y J s.ev.c2,.v<|Y J s.ev.c3,.v<|Y J s.ev.c4,.v<|Y J s.ev.c5,.v<|.bool s.ev.d1,.v<|Y J s.ev.d2,.v<|Y J s.ev.d3,.v<|Y J s.ev.d4,.xl A7 s.dw],116,.cl,X⟩]
def gD (s:Hi):T XX:=letI a:=PK.AM s.p;letI b:=JS<|Ha s;letI c:=(M a.gs:Int);letI d:=AR (K9<|JV s).left;letI e:=AA<|a.tk+1;letI f:=(aq c.toNat (0:Int));.br (s.p.tk==1000000) (.rz s.p.cs<|.rz s.p.ls<|.rz s.p.fl<|.rz s.p.ra<|.rz s.p.st<|.rz s.p.ca<|.rz s.p.mi<|.rz s.p.me<|.rz s.p.dm<|.rz s.p.lk<|.rz s.p.dr<|.rz s.p.tg<|.ok<|⟨15,⟨AR s.p.cs,s.p.os,s.p.ks,s.p.gs,s.p.bs,s.p.tk,s.p.up,AR s.p.ls,s.p.se,AR s.p.fl,AR s.p.ra,s.p.nx,AR s.p.st,AR s.p.ca,AR s.p.mi,AR s.p.me,AR s.p.dm,AR s.p.lk,AR s.p.dr,AR s.p.tg⟩,s.ev,([]:List Int)⟩)<|.pc s.p<|.req (ahH (⟨s.p,s.ev⟩:LO))<|.r0 Lk<|.pd a<|.req (Ri.q<|JV s)<|.rz (K9<|JV s).left (.rl a.dr<|.rl a.cs<|.rl (K9<|JV s).p.st<|.rl a.ca<|.rl a.mi<|.rl a.me<|.rl a.dr<|.rl a.tg<|.req (Qw.q<|T3 s)<|.rm 8 c<|.rl a.cs<|.rl (dG<|T3 s).p.st<|.rl a.ca<|.rl a.mi<|.rl a.me<|.rl a.dr<|.rl a.tg<|.re c.toNat f<|.req (Rc.q<|Ha s)<|.br (! a.up) (.rz a.cs<|.rz b.p.st<|.rz a.ca<|.rz b.p.mi<|.rz b.p.me<|.rz a.dr<|.rz a.tg<|.rz b.dw<|.ok<|⟨0,{a with cs:=AR a.cs,tk:=e,st:=AR b.p.st,ca:=AR a.ca,mi:=AR b.p.mi,me:=AR b.p.me,lk:=d,dr:=AR a.dr,tg:=AR a.tg},s.ev,AR b.dw⟩)<|.br ((Hq a.ls c e)==0) (.rm 8 c<|.rz b.p.st<|.rz a.ca<|.rz b.p.mi<|.rz b.p.me<|.rz a.dr<|.re c.toNat f<|.rl a.cs<|.rl a.tg<|.rl b.dw<|.req (Ql.q<|cM s)<|.rl (oS<|cM s).out<|.rl a.cs<|.rl a.tg<|.rl b.dw<|.req (Qm.q<|T2 s)<|.rz (oT<|T2 s).Cv<|.rl a.tg<|.rl a.cs<|.rl a.tg<|.rl b.dw<|.req (Pa.q<|T1 s)<|.rz (TD<|T1 s).p.cs<|.rz a.tg<|.rz b.dw<|.ok<|⟨0,{a with cs:=AR (TD<|T1 s).p.cs,tk:=e,st:=AR b.p.st,ca:=AR a.ca,mi:=AR b.p.mi,me:=AR b.p.me,lk:=d,dr:=AR a.dr,tg:=AR a.tg},s.ev,AR b.dw⟩)<|.rz b.p.st<|.rz a.ca<|.rz b.p.mi<|.rz b.p.me<|.rz a.dr<|.rl a.tg<|.rl a.cs<|.rl a.tg<|.rl b.dw<|.req (Pa.q<|T0 s)<|.rz (TD<|T0 s).p.cs<|.rz a.tg<|.rz b.dw<|.ok<|⟨0,{a with cs:=AR (TD<|T0 s).p.cs,tk:=e,st:=AR b.p.st,ca:=AR a.ca,mi:=AR b.p.mi,me:=AR b.p.me,lk:=d,dr:=AR a.dr,tg:=AR a.tg},s.ev,AR b.dw⟩)
def aBA (s:Hi):Prop:=(VP s.p/\RQ s.p)/\VK s.p.se s.p.fl/\BC s.p.ls=U
def To (s:Hi):XX:=⟨PK.IH s.p,JL (PK.IH s.p) (PK.CZ s.p) s.p,s.ev,if PK.IH s.p=0 then PK.Mj s.p else []⟩
def aAs:Cr Hi XX:=⟨UR,Z9,λv b=>⟨rF b,rG b⟩,aBA,[0,1,3],[.pc 16 0 Ad,.kb 4,.pc 16 7 AQ,.kb 5,.pc 16 9<|.int aw,.kb 6,.pc 16 10 Am,.kb 7,.pc 16 12 B3,.kb 8,.pc 16 13 AQ,.kb 9,.pc 16 14 B6,.kb 10,.pc 16 15 BQ,.kb 11,.pc 16 16 Au,.kb 12,.pc 16 17 BM,.kb 13,.pc 16 18 A7,.kb 14,.pc 16 19 A7,.kb 15,.pc 16 32 A7],abj,acn,To⟩
abbrev ahA (s:Hi):Prop:=aBA s/\UR s=UR s/\Z9 s=Z9 s
def Wg:List Bd:=[QW,Qz,WV,XB,XL,XC,WT,Qy]
def aQf:Ay:=I2 Wg (la 11 func68 TH<|la 6 func68 QN<|la 3 func51 Ou<|la 2 func67 NR<|la 1 func66 MW<|la 2 func75 LA<|la 9 func29 Cn<|l0 Wg) [⟨64,PL.m,TX⟩]
def aTc:DG:=CR 68 21 11 (Pa.lp)<|CR 68 21 6 (Qm.lp)<|CR 51 21 3 (Ql.lp)<|CR 67 20 2 (Rc.lp)<|CR 66 20 1 (Qw.lp)<|CR 75 19 2 (Ri.lp)<|CR 29 0 9 (Gg.lp)<|Dp prog AV Wg 20 2
def ao6:EF prog AV aTc:=D6 func68 rfl AU TH<|D6 func68 rfl AU QN<|D6 func51 rfl AU Ou<|D6 func67 rfl AU NR<|D6 func66 rfl AU MW<|D6 func75 rfl AU LA<|D6 func29 rfl AU Cn<|Hg<|gk Wg
def ayh (s:Hi):((ER prog AV Wg aTc aQf).k 31 (UR s)<|Z9 s).bind (λq=>G8 (M<|Z9 s) [0] [.pc 16 0 Ad,.kb 4,.pc 16 7 AQ,.kb 5,.pc 16 9<|.int aw,.kb 6,.pc 16 10 Am,.kb 7,.pc 16 12 B3,.kb 8,.pc 16 13 AQ,.kb 9,.pc 16 14 B6,.kb 10,.pc 16 15 BQ,.kb 11,.pc 16 16 Au,.kb 12,.pc 16 17 BM,.kb 13,.pc 16 18 A7,.kb 14,.pc 16 19 A7,.kb 15,.pc 16 32 A7] .normal (q.1::UR s) q.2)=(gD s).mp (λs2=>⟨.normal,M (UR s)+1,[abj s2],acn s2,U⟩):=AU
def avt (s:Hi) (hE:aBA s):(gD s).all (λq=>q=To s):=by
 obtain ⟨⟨hV,hR⟩,hK,hls⟩:=id hE
 have hq:=hV.dec
 have hs:=DF.1 hq.site
 have hs0:=DF.1 hV.site
 have htk:s.p.AM.tk=s.p.tk:=(NL s.p).2.2.2.2.2.1
 have hd:=aRw hR A0
 have hp:=hV.tk
 have A1:jk (JV s):=⟨rfl,rfl,by show (M s.p.AM.lk:Int)<=20000000;omega,yM,hq.lk,hq.st⟩
 have q1:=(atz _ A1).2
 have r1:(K9<|JV s).p.st=s.p.AM.J8.st:=by
  refine (Prod.mk.inj q1).1.trans ?_
  show (s.p.AM.lk.drop 0).foldl _ _=Lw _ _ _ _ _
  rw [aDq _<|Ar _,EN];rfl
 have r2:(K9<|JV s).left=s.p.AM.J8.lk:=(Prod.mk.inj q1).2
 have h2:T3 s=⟨(M s.p.AM.dr:Int),0,s.p.AM.J8,s.ev⟩:=by
  unfold T3;rw [r1,FX,r2];rfl
 have A2:jf (T3 s):=by
  rw [h2];exact ⟨rfl,rfl,hq.dr,by show (M s.p.AM.dr:Int)<=1000;rw [hq.dr];omega,hq.arr.st,by show 0<=s.p.AM.tk/\s.p.AM.tk<=1000000;rw [htk];exact hp⟩
 have r3:(dG<|T3 s).p.st=s.p.B8.st:=by
  refine (asG _ A2).2.trans ?_;rw [h2]
  show Et (cnt1 s.p.AM.gs s.p.AM.dr s.p.AM.tk) 0 s.p.AM.J8.st ((M s.p.AM.dr:Int)-0).toNat=_
  rw [Po,By,ag8];rfl
 have h3:Ha s=⟨s.p.B8.gs,(M s.p.B8.gs:Int),0,s.p.B8,s.ev,aq (M s.p.B8.gs) 0⟩:=by
  unfold Ha;rw [r3,FX,r2,By];rfl
 have hb:VP s.p.B8:=hq.arr.cnt
 have A3:iL (Ha s):=by
  rw [h3];exact ⟨rfl,rfl,y9,rfl,hb.st,hb.ca,hb.mi,hb.me,Ce⟩
 have q4:=(asL _ A3).2
 have q4:(⟨(JS<|Ha s).p.st,(JS<|Ha s).p.mi,(JS<|Ha s).p.me,(JS<|Ha s).dw⟩:DW)=s.p.B8.dw:=by
  refine q4.trans ?_;rw [h3]
  show Et (λk d=>Gp s.p.B8.gs s.p.B8.ca d (k:Int)) 0 _ ((M s.p.B8.gs:Int)-0).toNat=_
  rw [Po,By,alb];rfl
 have r4:(JS<|Ha s).p.st=s.p.B8.dw.st:=B0 DW.st q4
 have r5:(JS<|Ha s).p.mi=s.p.B8.dw.mi:=B0 DW.mi q4
 have r6:(JS<|Ha s).p.me=s.p.B8.dw.me:=B0 DW.me q4
 have r7:(JS<|Ha s).dw=s.p.B8.dw.dw:=B0 DW.dw q4
 have hw:AA (s.p.AM.tk+1)=s.p.AM.tk+1:=AJ
 have hdr:VP s.p.B8.DY:=hb.drw
 unfold gD;simp only [FX,r2,r3,r4,r5,r6,r7,hw];refine ⟨λc=>?_,λc=>?_⟩
 ·have e:s.p.IH=15:=AD (eq_of_beq c)
  repeat (refine ⟨DT,?_⟩)
  show _=_
  unfold To;rw [e,JY Aa,AE Aa]
 have e:s.p.IH=0:=AE<|CN.1 c
 repeat (refine ⟨DT,?_⟩)
 refine ⟨⟨hE,rfl,rfl⟩,?_⟩
 repeat (refine ⟨DT,?_⟩)
 refine ⟨⟨A1,rfl,rfl⟩,?_⟩
 repeat (refine ⟨DT,?_⟩)
 refine ⟨⟨A2,rfl,rfl⟩,?_⟩
 repeat (refine ⟨DT,?_⟩)
 refine ⟨⟨A3,rfl,rfl⟩,λc2=>?_,λc2=>?_⟩
 ·have c2:s.p.B8.DY.up=false:=(Cs _).mp c2
  repeat (refine ⟨DT,?_⟩)
  show _=_
  unfold To;rw [e,LJ rfl,AD rfl];unfold PK.CZ PK.Jj;rw [AD c2];rfl
 have hu:¬s.p.B8.DY.up=false:=by intro h;rw [show s.p.AM.up=X from h] at c2;cases c2
 have R:∀ {am cs},s.p.B8.DY.rsA=am->EY s.p.B8.DY.gs s.p.B8.DY.tg am s.p.B8.DY.cs (M s.p.B8.DY.tg)=cs->s.p.CZ={s.p.AM with cs:=cs,tk:=s.p.AM.tk+1,st:=s.p.B8.dw.st,mi:=s.p.B8.dw.mi,me:=s.p.B8.dw.me,lk:=s.p.AM.J8.lk}:=λh1 h2=>by
  unfold PK.CZ PK.Jj;rw [AE hu,h1,h2];rfl
 refine ⟨λc3=>?_,λc3=>?_⟩
 ·have c3:Hq s.p.AM.ls (M s.p.AM.gs) (s.p.AM.tk+1)=0:=eq_of_beq c3
  have cO:Kd s.p.AM.ls (M s.p.AM.gs) (s.p.AM.tk+1)=true:=by
   unfold Hq at c3;split at c3
   ·assumption
   ·cases c3
  have cL:Eo s.p.AM.ls (M s.p.AM.gs) (s.p.AM.tk+1)=J9 (M s.p.AM.gs) s.p.AM.ls (s.p.AM.tk+1):=by
   unfold Eo;rw [AD cO,By]
  have hl:BC s.p.AM.ls=true:=by
   unfold Kd at cO;simp only [AY] at cO;exact cO.1.1
  have hsA:s.p.B8.DY.rsA=Hp s.p.AM.gs s.p.AM.ls (s.p.AM.tk+1):=AD c3
  have A4:jW (cM s):=⟨rfl,rfl,y9,by show M (aq (M s.p.AM.gs:Int).toNat (0:Int))=_;rw [Ce,By];rfl,λj _ _=>Nd,ak⟩
  obtain ⟨_,_,_,q5⟩:=apw _ A4
  have q5:(oS<|cM s).out=Bv s.p.AM.gs:=q5
  have hlen:M (J9 (M s.p.AM.gs) s.p.AM.ls<|s.p.AM.tk+1)=M s.p.AM.gs:=T9
  have h6:T2 s=⟨J9 (M s.p.AM.gs) s.p.AM.ls<|s.p.AM.tk+1,(M s.p.AM.gs:Int),0,s.p.B8.DY,s.ev,s.p.B8.dw.dw,Bv s.p.AM.gs⟩:=by
   unfold T2;simp only [FX,r2,r4,r5,r6,r7,hw,q5,cL,hlen];rfl
  have A5:jY (T2 s):=by
   rw [h6];refine ⟨rfl,by show (M s.p.AM.gs:Int)=_;rw [hlen],y9,by show M (Bv s.p.AM.gs)=_;rw [hlen];exact K0,λj j0 j1=>(show gi (Bv s.p.AM.gs) j=CO (AG s.p.AM.gs j) from Sq j0 j1),ak⟩
  obtain ⟨_,_,_,q6⟩:=apx _ A5
  have q6:(oT<|T2 s).Cv=Hp s.p.AM.gs s.p.AM.ls (s.p.AM.tk+1):=by
   refine q6.trans ?_;rw [h6]
   show H7 (M<|J9 (M s.p.AM.gs) s.p.AM.ls<|s.p.AM.tk+1) _=_
   rw [hlen];rfl
  have h7:T1 s=⟨Hp s.p.AM.gs s.p.AM.ls<|s.p.AM.tk+1,(M s.p.AM.tg:Int),0,s.p.B8.DY,s.ev,s.p.B8.dw.dw⟩:=by
   unfold T1;simp only [FX,r2,r4,r5,r6,r7,q6];rfl
  have A6:Xi (T1 s):=by
   rw [h7];exact ⟨rfl,rfl,hq.Gs,hq.site,hq.tg1,λ_ k hk=>anw hq.site hl A0 (by have:M (Hp s.p.AM.gs s.p.AM.ls<|s.p.AM.tk+1)=M s.p.AM.gs:=K0;have hk:k<M (Hp s.p.AM.gs s.p.AM.ls<|s.p.AM.tk+1):=hk;omega)⟩
  have q7:(TD<|T1 s).p.cs=EY s.p.AM.gs s.p.AM.tg (Hp s.p.AM.gs s.p.AM.ls<|s.p.AM.tk+1) s.p.AM.cs (M s.p.AM.tg):=by
   exact aKu
  repeat (refine ⟨DT,?_⟩)
  refine ⟨⟨A4,rfl,rfl⟩,?_⟩
  repeat (refine ⟨DT,?_⟩)
  refine ⟨⟨A5,rfl,rfl⟩,?_⟩
  repeat (refine ⟨DT,?_⟩)
  refine ⟨⟨A6,rfl,rfl⟩,?_⟩
  repeat (refine ⟨DT,?_⟩)
  show _=_
  unfold To;rw [e,LJ rfl,AD rfl,R hsA q7.symm];rfl
 ·have c3:¬Hq s.p.AM.ls (M s.p.AM.gs) (s.p.AM.tk+1)=0:=CN.1 c3
  have hsA:s.p.B8.DY.rsA=[]:=AE c3
  have h7:T0 s=⟨[],(M s.p.AM.tg:Int),0,s.p.B8.DY,s.ev,s.p.B8.dw.dw⟩:=by
   unfold T0;simp only [FX,r2,r4,r5,r6,r7];rfl
  have A6:Xi (T0 s):=by
   rw [h7];exact ⟨rfl,rfl,hq.Gs,hq.site,hq.tg1,λ_ k hk=>NF⟩
  have q7:(TD<|T0 s).p.cs=EY s.p.AM.gs s.p.AM.tg [] s.p.AM.cs (M s.p.AM.tg):=by
   exact aKu
  repeat (refine ⟨DT,?_⟩)
  refine ⟨⟨A6,rfl,rfl⟩,?_⟩
  repeat (refine ⟨DT,?_⟩)
  show _=_
  unfold To;rw [e,LJ rfl,AD rfl,R hsA q7.symm];rfl
def agQ:DV prog AV 31 aAs.m:=Cr.sound (D:=aAs) (t:=gD) (gk Wg) ao6 aQf.h ayh λs hE=>⟨avt s hE⟩
def JP (p:PK):Prop:=(VP p/\RQ p)/\VK p.se p.fl/\BC p.ls=U
variable {p : PK} {ev : EW}
def mg {e:EV}(h:BR p e≠0):BS p e=PK0/\D4 p e=[]:=⟨AD h,AD h⟩
theorem aBO (hv:E6 p=U) (h:ev.ek=1):BR p ev.ev=p.IH/\(p.IH=0->BS p ev.ev=p.CZ/\D4 p ev.ev=p.Mj):=by
 exact Px
theorem aJu (hv:E6 p=U) (h:ev.ek=2):BR p ev.ev=p.G4 ev.en ev.c ev.d/\(p.G4 ev.en ev.c ev.d=0->BS p ev.ev=p.O1 ev.en ev.c ev.d/\D4 p ev.ev=[]):=by
 exact Px
theorem aJt (hv:E6 p=U) (h:ev.ek=3):BR p ev.ev=p.Ix ev.en/\(p.Ix ev.en=0->BS p ev.ev=p.Qd ev.en/\D4 p ev.ev=[]):=by
 exact Px
theorem aJs (hv:E6 p=U) (h:ev.ek=4):BR p ev.ev=p.O2 ev.en/\(p.O2 ev.en=0->BS p ev.ev=p.gR ev.en/\D4 p ev.ev=[]):=by
 exact Px
theorem aJr (hv:E6 p=U) (h:ev.ek=5):BR p ev.ev=p.Mh/\(p.Mh=0->BS p ev.ev=p.PH/\D4 p ev.ev=[]):=by
 exact Px
theorem aJq (hv:E6 p=U) (h:ev.ek=6):BR p ev.ev=p.FY/\(p.FY=0->BS p ev.ev=p.Tm/\D4 p ev.ev=[]):=by
 exact Px
theorem aJp (hv:E6 p=U) (h:ev.ek=7):BR p ev.ev=p.O0 ev.en/\(p.O0 ev.en=0->BS p ev.ev=p.aaJ ev.en/\D4 p ev.ev=[]):=by
 exact Px
theorem aJo (hv:E6 p=U) (h:ev.ek=8):BR p ev.ev=p.Hs ev.en ev.em/\(p.Hs ev.en ev.em=0->BS p ev.ev=p.La ev.en ev.em/\D4 p ev.ev=[]):=by
 exact Px
def aJn (hv:E6 p=U) (h:ev.ek≠1/\ev.ek≠2/\ev.ek≠3/\ev.ek≠4/\ev.ek≠5/\ev.ek≠6/\ev.ek≠7/\ev.ek≠8):BR p ev.ev=9:=by
 obtain ⟨h1,h2,h3,h4,h5,h6,h7,h8⟩:=h
 simp [BR,hv,EW.ev,h1,h2,h3,h4,h5,h6,h7,h8]
def JP.lb (h:JP p):LB p:=by
 obtain ⟨⟨hV,hR⟩,hK,_⟩:=h
 have hs:=DF.1 hV.site
 have hf:=hR.fl.2.1
 have hl:=hR.ls
 have hk:=hR.lk
 have hr:=hR.ra
 have ht:=hV.tk
 have h1:=hV.st
 have h2:=hV.ca
 have h3:=hV.mi
 have h4:=hV.me
 have h5:=hV.dm
 have h6:=hV.dr
 have h7:=hV.Gs
 have hf:M p.fl=2048:=hf
 refine ⟨?_,?_,?_,?_,?_,?_,?_,?_,?_,?_,?_,?_,λm hm=>HZ (hR.mi m hm) Aa⟩<;>omega
end Go.Proofs.YtipodhghjclmbaaGreatDoor
namespace Go.Proofs.YtipodhghjclmbaaGreatDoor
set_option maxRecDepth 100000
set_option maxHeartbeats 4000000
open Go.Proofs.Tryz
open Go.Sx
def aHJ:List LV->T LV
 | [x_p,x_ev]=>(match Mz x_p with
  |some p=>(match mF x_ev with
  |some ev=> .req (JP p) (.ok<|.AO [BS p<|EW.ev ev,.xl A7<|D4 p<|EW.ev ev,BR p<|EW.ev ev])
  |none=> .no)
  |none=> .no)
 |_=> .no
def tkO (p:PK) (ev:EW):PK:=JL (PK.IH p) (PK.CZ p)<|p
def ad7 (p:PK) (ev:EW):PK:=JL (PK.G4 p ev.en (EW.c ev)<|EW.d ev) (PK.O1 p ev.en (EW.c ev)<|EW.d ev)<|p
def ad8 (p:PK) (ev:EW):PK:=JL (PK.Ix p ev.en) (PK.Qd p ev.en)<|p
def adD (p:PK) (ev:EW):PK:=JL (PK.O2 p ev.en) (PK.gR p ev.en)<|p
def adF (p:PK) (ev:EW):PK:=JL (PK.Mh p) (PK.PH p)<|p
def adM (p:PK) (ev:EW):PK:=JL (PK.FY p) (PK.Tm p)<|p
def Ki (e:Int):LV:=.AO [.agg [.xl Ad ([]:List Cd),.xl .str ([]:List ByteArray),.xl Ai ([]:List Ko),.xl Ae ([]:List Ch),.xl Aj ([]:List Ba),.v<|Y J 0,.v<|.bool X,.xl AQ ([]:List Le),.v<|Y J 0,.xl (.int aw) ([]:List Int),.xl Am ([]:List Ra),.v<|Y J 0,.xl B3 ([]:List St),.xl AQ ([]:List Le),.xl B6 ([]:List Mi),.xl BQ ([]:List Me),.xl Au ([]:List Dm),.xl BM ([]:List Lk),.xl A7 ([]:List Int),.xl A7 ([]:List Int)],.xl A7 ([]:List Int),.v<|Y J e]
def eE:List Bd:=[ai8]
def aQe:Ay:=I2 eE (la 11 func68 TH<|la 6 func68 QN<|la 3 func51 Ou<|la 2 func67 NR<|la 1 func66 MW<|la 2 func75 LA<|la 9 func29 Cn<|l0 eE) [⟨29,QU λa=>jo.m a [],aga⟩,⟨31,aAs.m,agQ⟩,⟨32,aAu.m,agS⟩,⟨33,aAw.m,agU⟩,⟨34,aAv.m,agT⟩,⟨35,aAx.m,agV⟩,⟨36,aAt.m,agR⟩,⟨37,aAr.m,agP⟩,⟨38,aAy.m,agX⟩]
def aqe (p:PK) (ev:EW):letI a:=ad7 p ev;letI b:=ad8 p ev;letI e:=adD p ev;letI f:=adF p ev;letI g:=adM p ev;letI h:=(azx (⟨p⟩:MX));letI i:=M p.me;letI j:=M p.dm;letI k:=M p.lk;letI l:=M p.dr;letI m:=M p.tg;letI n:=PK.G4 p ev.en (EW.c ev)<|EW.d ev;Bi prog AV (eE) aQe Al f14 [p,ev]=.req (M p.lk<=100000000) (.br (!(E6 p)) (.ok<|Ki 1)<|.br (ev.ek==(1:Int)) (.req h<|.rv (ev)<|.pa p<|.rl p.st<|.rl p.ca<|.rl p.mi<|.re i p.me<|.re j p.dm<|.re k p.lk<|.re l p.dr<|.re m p.tg<|.req (ahA (⟨p,ev⟩:Hi))<|.br ((PK.IH p) !=0) (.ok<|Ki<|PK.IH p)<|.ok<|.AO [tkO p ev,.xl A7 (if PK.IH (p)=0 then PK.Mj p else []),(0:Int)])<|.br (ev.ek==(2:Int)) (.req h<|.rv (ev)<|.pa p<|.rl p.st<|.rl p.ca<|.rl p.mi<|.re i p.me<|.re j p.dm<|.re k p.lk<|.re l p.dr<|.re m p.tg<|.req (ahC (⟨p,ev⟩:Nn))<|.br (n !=0) (.ok<|Ki n)<|.rz a.cs<|.rz a.ls<|.rz a.fl<|.rz a.ra<|.rz a.st<|.rz a.ca<|.rz a.mi<|.rz a.me<|.rz a.dm<|.rz a.lk<|.rz a.dr<|.rz a.tg<|.ok<|.AO [.agg [AR a.cs,a.os,a.ks,a.gs,a.bs,a.tk,a.up,AR a.ls,a.se,.xl (.int aw)<|AR a.fl,AR a.ra,a.nx,AR a.st,AR a.ca,AR a.mi,AR a.me,AR a.dm,AR a.lk,.xl A7<|AR a.dr,.xl A7<|AR a.tg],.xl A7 ([]:List Int),(0:Int)])<|.br (ev.ek==(3:Int)) (.req h<|.rv (ev)<|.pa p<|.rl p.st<|.rl p.ca<|.rl p.mi<|.re i p.me<|.re j p.dm<|.re k p.lk<|.re l p.dr<|.re m p.tg<|.req (ahE (⟨p,ev⟩:Np))<|.br ((PK.Ix p ev.en) !=0) (.ok<|Ki<|PK.Ix p ev.en)<|.rz b.cs<|.rz b.ls<|.rz b.fl<|.rz b.ra<|.rz b.st<|.rz b.ca<|.rz b.mi<|.rz b.me<|.rz b.dm<|.rz b.lk<|.rz b.dr<|.rz b.tg<|.ok<|.AO [.agg [AR b.cs,b.os,b.ks,b.gs,b.bs,b.tk,b.up,AR b.ls,b.se,.xl (.int aw)<|AR b.fl,AR b.ra,b.nx,AR b.st,AR b.ca,AR b.mi,AR b.me,AR b.dm,AR b.lk,.xl A7<|AR b.dr,.xl A7<|AR b.tg],.xl A7 ([]:List Int),(0:Int)])<|.br (ev.ek==(4:Int)) (.req h<|.rv (ev)<|.pa p<|.rl p.st<|.rl p.ca<|.rl p.mi<|.re i p.me<|.re j p.dm<|.re k p.lk<|.re l p.dr<|.re m p.tg<|.req (ahD (⟨p,ev⟩:No))<|.br ((PK.O2 p ev.en) !=0) (.ok<|Ki<|PK.O2 p ev.en)<|.rz e.cs<|.rz e.ls<|.rz e.fl<|.rz e.ra<|.rz e.st<|.rz e.ca<|.rz e.mi<|.rz e.me<|.rz e.dm<|.rz e.dr<|.rz e.tg<|.ok<|.AO [.agg [AR e.cs,e.os,e.ks,e.gs,e.bs,e.tk,e.up,AR e.ls,e.se,.xl (.int aw)<|AR e.fl,AR e.ra,e.nx,AR e.st,AR e.ca,AR e.mi,AR e.me,AR e.dm,e.lk,.xl A7<|AR e.dr,.xl A7<|AR e.tg],.xl A7 ([]:List Int),(0:Int)])<|.br (ev.ek==(5:Int)) (.req h<|.rv (ev)<|.pa p<|.rl p.st<|.rl p.ca<|.rl p.mi<|.re i p.me<|.re j p.dm<|.re k p.lk<|.re l p.dr<|.re m p.tg<|.req (ahF (⟨p,ev⟩:Nq))<|.br ((PK.Mh p) !=0) (.ok<|Ki<|PK.Mh p)<|.rz f.cs<|.rz f.fl<|.rz f.ra<|.rz f.st<|.rz f.ca<|.rz f.mi<|.rz f.me<|.rz f.dm<|.rz f.lk<|.rz f.dr<|.rz f.tg<|.ok<|.AO [.agg [AR f.cs,f.os,f.ks,f.gs,f.bs,f.tk,f.up,f.ls,f.se,.xl (.int aw)<|AR f.fl,AR f.ra,f.nx,AR f.st,AR f.ca,AR f.mi,AR f.me,AR f.dm,AR f.lk,.xl A7<|AR f.dr,.xl A7<|AR f.tg],.xl A7 ([]:List Int),(0:Int)])<|.br (ev.ek==(6:Int)) (.req h<|.rv (ev)<|.pa p<|.rl p.st<|.rl p.ca<|.rl p.mi<|.re i p.me<|.re j p.dm<|.re k p.lk<|.re l p.dr<|.re m p.tg<|.req (ahB (⟨p,ev⟩:Nm))<|.br ((PK.FY p) !=0) (.ok<|Ki<|PK.FY p)<|.rz g.cs<|.rz g.st<|.rz g.ca<|.rz g.mi<|.rz g.me<|.rz g.dm<|.rz g.lk<|.rz g.dr<|.rz g.tg<|.ok<|.AO [.agg [AR g.cs,g.os,g.ks,g.gs,g.bs,g.tk,g.up,g.ls,g.se,.xl (.int aw) g.fl,g.ra,g.nx,AR g.st,AR g.ca,AR g.mi,AR g.me,AR g.dm,AR g.lk,.xl A7<|AR g.dr,.xl A7<|AR g.tg],.xl A7 ([]:List Int),(0:Int)])<|.br (ev.ek==(7:Int)) (.req h<|.rv (ev)<|.pa p<|.rl p.st<|.rl p.ca<|.rl p.mi<|.re i p.me<|.re j p.dm<|.re k p.lk<|.re l p.dr<|.re m p.tg<|.req (ah9 (⟨p,ev⟩:Nl))<|.br ((PK.O0 p ev.en) !=0) (.ok<|Ki<|PK.O0 p ev.en)<|.rz p.cs<|.rz p.ls<|.rz p.fl<|.rz p.ra<|.rz (if PK.isC p ev.en=U then CU p.gs p.st ev.en 6 1 0 else p.st)<|.rz p.ca<|.rz p.mi<|.rz p.me<|.rz p.dm<|.rz p.lk<|.rz p.dr<|.rz p.tg<|.ok<|.AO [.agg [AR p.cs,p.os,p.ks,p.gs,p.bs,p.tk,p.up,AR p.ls,p.se,.xl (.int aw)<|AR p.fl,AR p.ra,p.nx,AR (if PK.isC p ev.en=U then CU p.gs p.st ev.en 6 1 0 else p.st),AR p.ca,AR p.mi,AR p.me,AR p.dm,AR p.lk,.xl A7<|AR p.dr,.xl A7<|AR p.tg],.xl A7 ([]:List Int),(0:Int)])<|.br (ev.ek==(8:Int)) (.req h<|.rv (ev)<|.pa p<|.rl p.st<|.rl p.ca<|.rl p.mi<|.re i p.me<|.re j p.dm<|.re k p.lk<|.re l p.dr<|.re m p.tg<|.req (ahG (⟨p,ev⟩:Mu))<|.br ((PK.Hs p ev.en ev.em) !=0) (.ok<|Ki<|PK.Hs p ev.en ev.em)<|.rz p.cs<|.rz p.ls<|.rz p.fl<|.rz p.ra<|.rz p.st<|.rz p.ca<|.rz p.mi<|.rz p.me<|.rz p.dm<|.rz p.lk<|.rz p.dr<|.rz (if PK.Hs p ev.en ev.em=1 then p.tg else p.tg.set ev.en.toNat ev.em)<|.ok<|.AO [.agg [AR p.cs,p.os,p.ks,p.gs,p.bs,p.tk,p.up,AR p.ls,p.se,.xl (.int aw)<|AR p.fl,AR p.ra,p.nx,AR p.st,AR p.ca,AR p.mi,AR p.me,AR p.dm,AR p.lk,.xl A7<|AR p.dr,.xl A7<|AR (if PK.Hs p ev.en ev.em=1 then p.tg else p.tg.set ev.en.toNat ev.em)],.xl A7 ([]:List Int),(0:Int)])<|.ok<|Ki 9):=AU
def dp:=vo (S:=aHJ) func14 eE aQe (λargs lv h=>by
 refine ⟨?_⟩;unfold aHJ at h;split at h
 ·split at h
  case h_2=>cases h
  rename_i p hp;obtain rfl:=WB hp;split at h
  case h_2=>cases h
  rename_i ev hev;obtain rfl:=atJ hev;simp only [canL,canX];rw [aqe];obtain ⟨hJ,rfl⟩:=h;obtain ⟨⟨hV,hR⟩,hK,hl⟩:=id hJ
  have hv:=Vp.2 hV
  have hs:=DF.1 hV.site
  have hlb:=hJ.lb
  have D:iO ⟨p⟩:=hlb
  have hlk:=hlb.lk
  refine ⟨A0,λc=>?_,λ_=>?_⟩
  ·rw [hv] at c
   cases c
  refine ⟨λc1=>?_,λc1=>?_⟩
  ·have c1:ev.ek=1:=eq_of_beq c1
   obtain ⟨s1,s2⟩:=aBO hv c1;refine ⟨⟨D,rfl,rfl⟩,rfl,?_⟩
   repeat (refine ⟨DT,?_⟩)
   refine ⟨⟨hJ,rfl,rfl⟩,λc=>?_,λc=>?_⟩
   ·exact Pw
   ·have c:=Dg c
    repeat (refine ⟨MI,?_⟩)
    show _=_
    rw [(s2 c).1,(s2 c).2,s1,c];simp only [FX];rw [show tkO p ev=_ from LJ c,AD trivial]
  refine ⟨λc1=>?_,λc2=>?_⟩
  ·have c1:ev.ek=2:=eq_of_beq c1
   obtain ⟨s1,s2⟩:=aJu hv c1;refine ⟨⟨D,rfl,rfl⟩,rfl,?_⟩
   repeat (refine ⟨DT,?_⟩)
   refine ⟨⟨⟨hV.st,Zy,hV.ca,hV.mi,hV.dm⟩,rfl,rfl⟩,λc=>?_,λc=>?_⟩
   ·exact Pw
   ·have c:=Dg c
    repeat (refine ⟨DT,?_⟩)
    show _=_
    rw [(s2 c).1,(s2 c).2,s1,c];simp only [FX];rw [show ad7 p ev=_ from LJ c]
  refine ⟨λc1=>?_,λc3=>?_⟩
  ·have c1:ev.ek=3:=eq_of_beq c1
   obtain ⟨s1,s2⟩:=aJt hv c1;refine ⟨⟨D,rfl,rfl⟩,rfl,?_⟩
   repeat (refine ⟨DT,?_⟩)
   refine ⟨⟨⟨hV.st,Zy,hV.ca,hV.mi,hV.dm⟩,rfl,rfl⟩,λc=>?_,λc=>?_⟩
   ·exact Pw
   ·have c:=Dg c
    repeat (refine ⟨DT,?_⟩)
    show _=_
    rw [(s2 c).1,(s2 c).2,s1,c];simp only [FX];rw [show ad8 p ev=_ from LJ c]
  refine ⟨λc1=>?_,λc4=>?_⟩
  ·have c1:ev.ek=4:=eq_of_beq c1
   obtain ⟨s1,s2⟩:=aJs hv c1;refine ⟨⟨D,rfl,rfl⟩,rfl,?_⟩
   repeat (refine ⟨DT,?_⟩)
   refine ⟨⟨⟨Zy,hlk⟩,rfl,rfl⟩,λc=>?_,λc=>?_⟩
   ·exact Pw
   ·have c:=Dg c
    repeat (refine ⟨DT,?_⟩)
    show _=_
    rw [(s2 c).1,(s2 c).2,s1,c];simp only [FX];rw [show adD p ev=_ from LJ c]
  refine ⟨λc1=>?_,λc5=>?_⟩
  ·have c1:ev.ek=5:=eq_of_beq c1
   obtain ⟨s1,s2⟩:=aJr hv c1;refine ⟨⟨D,rfl,rfl⟩,rfl,?_⟩
   repeat (refine ⟨DT,?_⟩)
   refine ⟨⟨ak,rfl,rfl⟩,λc=>?_,λc=>?_⟩
   ·exact Pw
   ·have c:=Dg c
    repeat (refine ⟨DT,?_⟩)
    show _=_
    rw [(s2 c).1,(s2 c).2,s1,c];simp only [FX];rw [show adF p ev=_ from LJ c]
  refine ⟨λc1=>?_,λc6=>?_⟩
  ·have c1:ev.ek=6:=eq_of_beq c1
   obtain ⟨s1,s2⟩:=aJq hv c1;refine ⟨⟨D,rfl,rfl⟩,rfl,?_⟩
   repeat (refine ⟨DT,?_⟩)
   refine ⟨⟨⟨hR.fl.2.2,Zy⟩,rfl,rfl⟩,λc=>?_,λc=>?_⟩
   ·exact Pw
   ·have c:=Dg c
    repeat (refine ⟨DT,?_⟩)
    show _=_
    rw [(s2 c).1,(s2 c).2,s1,c];simp only [FX];rw [show adM p ev=_ from LJ c]
  refine ⟨λc1=>?_,λc7=>?_⟩
  ·have c1:ev.ek=7:=eq_of_beq c1
   obtain ⟨s1,s2⟩:=aJp hv c1;refine ⟨⟨D,rfl,rfl⟩,rfl,?_⟩
   repeat (refine ⟨DT,?_⟩)
   refine ⟨⟨⟨hV.st,Zy⟩,rfl,rfl⟩,λc=>?_,λc=>?_⟩
   ·exact Pw
   ·have c:=Dg c
    have hc:p.isC ev.en=true:=by
     cases e:p.isC ev.en
     ·unfold PK.O0 at c
      rw [AD e] at c;cases c
     ·rfl
    repeat (refine ⟨DT,?_⟩)
    show _=_
    rw [(s2 c).1,(s2 c).2,s1,c];simp only [FX];rw [AD hc];rfl
  refine ⟨λc1=>?_,λc8=>?_⟩
  ·have c1:ev.ek=8:=eq_of_beq c1
   obtain ⟨s1,s2⟩:=aJo hv c1;refine ⟨⟨D,rfl,rfl⟩,rfl,?_⟩
   repeat (refine ⟨DT,?_⟩)
   refine ⟨⟨hV,rfl,rfl⟩,λc=>?_,λc=>?_⟩
   ·exact Pw
   ·have c:=Dg c
    repeat (refine ⟨DT,?_⟩)
    show _=_
    rw [(s2 c).1,(s2 c).2,s1,c];simp only [FX];rw [AE Aa];rfl
  have e:=aJn (ev:=ev) hv ⟨CN.1 c1,CN.1 c2,CN.1 c3,CN.1 c4,CN.1 c5,CN.1 c6,CN.1 c7,CN.1 c8⟩
  show Ki _=_
  rw [(mg (by rw [e];decide)).1,(mg (by rw [e];decide)).2,e]
  rfl
 ·cases h)
structure Ns where
 (k0 k i He:Int)
 Hc:Value
 Vx:Int
 FW:Value
 ang:Int
 o:List Int
def vY (s:Ns):T (Rd Ns):=letI a:=(s.o.set s.i.toNat (255:Int));.br (an<|s.i<s.k) (.ik s.i (M s.o)<|.re (M s.o) a<|.nx {s with i:=AA<|s.i+1,o:=a})<|.rl s.o<|.so (.exit 0) s
def j3 (s:Ns):Prop:=s.i=0/\s.k=(M s.o:Int)/\s.k<=4096
def jG (s:Ns):Prop:=0<=s.i/\s.i<=s.k/\s.o.take s.i.toNat=aq s.i.toNat 255/\s.k=(M s.o:Int)/\s.k<=4096
def sf (s:Ns):Nat:=(s.k-s.i).toNat
def acU (x:Ex) (s s':Ns):Prop:=True
def akT:∀s,j3 s->jG s:=by
 rintro s ⟨h0,h2,h3⟩
 exact ⟨A0,A0,G1,h2,h3⟩
theorem az8:Da jG sf acU vY:=by
 intro s hI;obtain ⟨h0,h1,hq,h2,h3⟩:=hI;refine AH (λc1=>?_) λc1=>trivial
 have c1:s.i<s.k:=A8
 rw [AJ (x:=s.i+1)];refine ⟨⟨A8,A8,?_,A8,h3⟩,by simp only [sf];omega⟩
 rw [show (s.i+1).toNat=s.i.toNat+1 by omega,ZM A8,List.take_set_of_le<|Ar _,hq,List.getElem_set_self,kE]
def Yz:AT Ns:=⟨1,43,[4,5,6,33,34],[],λs=>[.own 1 0,s.k0,.own 2 0,s.k,s.i],λs=>[⟨[s.He,.v<|s.Hc],36,.cl,X⟩,⟨[s.Vx,.v<|s.FW],36,.cl,X⟩,⟨[s.ang,.os 3 1 0<|M s.o],36,.cl,X⟩,bV 5 (.int aw) s.o],λv b=>⟨AK v 1,AK v 3,AK v 4,Ak b 0 0,Gw<|B9 (CS b 0) 1,Ak b 1 0,Gw<|B9 (CS b 1) 1,Ak b 2 0,Ab (.int aw) b 3⟩,vY,λs r=> {s with i:=r.i,o:=r.o},λs=>s,λ_ s=>s,[.exit 0],j3,jG,sf⟩
abbrev Og:=Yz.run
abbrev aI6:=Yz.Av
def Wj:List Bd:=[uo]
def azn:Ay:=kI Wj<|l0 Wj
def awf:Rq jG vY:=by
 intro s hI;refine ⟨λc1=>⟨?_,?_,?_,ak⟩,λc1=>⟨A9,ak⟩⟩
 all_goals ((obtain ⟨h0,h1,hq,h2,h3⟩:=hI;(try simp only [Ac] at c1);first|omega|exact ⟨rfl,AI⟩))
def aQS:Yz.Ok:={}
def aOu:Yz.Pf (acU):=⟨akT,λs h=>rfl,az8,awf⟩
def aqC:=s2 (b:=bN f93 0) aQS aOu Wj azn
theorem arS:Rs j3 aI6 Og (λs:Ns=>aq s.k.toNat 255) (λx s' (v:List Int)=>x=.exit 0/\s'.o=v):=DJ aQS aOu (λs hI=>by
  obtain ⟨h0,h1,hq,h2,h3⟩:=hI;refine AH (λc1=>rfl) λc1=>⟨rfl,?_⟩
  have c1:s.k<=s.i:=A8
  rw [show s.i.toNat=s.k.toNat by omega,DR A0] at hq
  exact hq)
def aS4:List LV->T LV
 | [.v (Y J a),.v (Y J b)]=> .req (a=512/\b=4) (.ok<|.AO [.agg [(512:Int),.xl (.int aw) Di],(0:Int)])
 |_=> .no
def JT (a b:Int):Ns:=(⟨0,(((AA<|a*b).toNat:Nat):Int),0,0,.slice aj 0 0,0,.slice aj 0 0,a,aq (AA<|a*b).toNat (0:Int)⟩:Ns)
def azm:Ay:=kI Wj<|la 5 func93 aqC<|l0 Wj
def as8:M Di=2048:=MI
def as9:BE [80,0,0,0,0] (aq (Int.toNat 2048) 255)=Di:=by
 have h4:Cp 0=[0,0,0,0]:=Aa
 have hp:BO []=[]:=rfl
 unfold BE Di DO;rw [h4,hp,List.drop_replicate,EB,Cl,wo]
 congr 1
def aiJ:=vo (S:=aS4) func52 Wj azm (λargs lv h=>by
 unfold aS4 at h;split at h
 ·rename_i a b
  refine Aq (letI d:=Og<|JT a b;letI e:=(FR (0:Int) ([]:List Int));letI f:=AA<|a*b;letI g:=(BE ([(80:Int),(0:Int),(0:Int),(0:Int),(0:Int)]) d.o);letI i:=M d.o;.br (an<|a<1) (.br (((1:Int) !=0) ||(! e)) (.ok<|.AO [.agg [(0:Int),.xl (.int aw) ([]:List Int)],(1:Int)])<|.no /-copy to v -/)<|.br (an<|a>512) (.br (((1:Int) !=0) ||(! e)) (.ok<|.AO [.agg [(0:Int),.xl (.int aw) ([]:List Int)],(1:Int)])<|.no /-copy to v -/)<|.br (an<|b<1) (.br (((1:Int) !=0) ||(! e)) (.ok<|.AO [.agg [(0:Int),.xl (.int aw) ([]:List Int)],(1:Int)])<|.no /-copy to v -/)<|.req (a≠0)<|.br (an<|b>(AA<|(4096:Int).tdiv a)) (.br (((1:Int) !=0) ||(! e)) (.ok<|.AO [.agg [(0:Int),.xl (.int aw) ([]:List Int)],(1:Int)])<|.no /-copy to v -/)<|.req (0<=f/\f<=f/\1*f<=2^48/\f<2^63)<|.req (0=0/\f.toNat=M (aq f.toNat (0:Int)))<|.req (Yz.q<|JT a b)<|.br ((0:Int) !=0) (.ok<|.AO [.agg [(0:Int),.xl (.int aw) ([]:List Int)],(1:Int)])<|.req (0+i<=M d.o)<|.br (!(FR a<|(d.o.drop 0).take i)) (.ok<|.AO [.agg [(0:Int),.xl (.int aw) ([]:List Int)],(1:Int)])<|.req (M d.o=M d.o/\M ([(80:Int),(0:Int),(0:Int),(0:Int),(0:Int)])<=M d.o)<|.req (0+i<=M g)<|.ok<|.AO [.agg [a,.xl (.int aw)<|(g.drop 0).take i],(0:Int)]) ?_;obtain ⟨⟨rfl,rfl⟩,rfl⟩:=h
  have hw:AA (512*4)=2048:=Aa
  have hk:(JT 512 4).k=2048:=MI
  have hl:M (JT 512 4).o=2048:=MI
  have hV:j3 (JT 512 4):=⟨rfl,by rw [hk,hl];rfl,by rw [hk];decide⟩
  have q:aI6 (JT 512 4)=.exit 0/\(Og<|JT 512 4).o=aq (JT 512 4).k.toNat 255:=arS _ hV
  rw [hk] at q
  have hL:M (Og<|JT 512 4).o=2048:=by rw [q.2,Ce];rfl
  have hT:(((Og<|JT 512 4).o).drop 0).take (M (Og<|JT 512 4).o)=(Og<|JT 512 4).o:=AI
  have hJ:FR 512 (Og<|JT 512 4).o=true:=MQ.2 ⟨NS.2 (by rw [hL];decide),by rw [hL];decide,A0,A0,Aa⟩
  have hC:BE [80,0,0,0,0] (Og<|JT 512 4).o=Di:=by rw [q.2];exact as9
  rw [hw,hT,hJ,hC,hL]
  have hj:=as8
  refine ⟨λc=>FU,λ_=>⟨λc=>FU,λ_=>⟨λc=>FU,λ_=>⟨Aa,λc=>FU,λ_=>⟨Aa,by rw [Ce];decide,⟨hV,rfl,rfl⟩,λc=>FU,λ_=>⟨Aa,λc=>FU,λ_=>⟨⟨rfl,Aa⟩,by rw [hj];decide,?_⟩⟩⟩⟩⟩⟩⟩
  rfl
 ·cases h)
def aRe:List LV->T LV
 | []=> .ok (.AO [.agg [(512:Int),.xl (.int aw) Di],(0:Int)])
 |_=> .no
def azN:List Bd:=[aiJ]
def uw:=vo (S:=aRe) func27 azN kN (λargs lv h=>by
 refine ⟨?_⟩;unfold aRe at h;split at h
 ·simp only [canL]
  obtain rfl:=h;exact ⟨A9,rfl⟩
 ·cases h)
structure PU where
 ah3:List Int
 e:Int
 l:List Int
 (m i:Int)
 BB:List Cd
 Bf:List ByteArray
 Bz:List Ko
 BN:List Ch
 C0:List Ba
def aF7:=bN f11 0
def wG (s:PU):T (Rd PU):=
 .br (an<|s.i<s.m) (.ix s.i (M s.l)<|.br (!(inB (gi s.l s.i) (-200) 200)) (.so (.ret) {s with e:=(1:Int)})<|.nx {s with i:=AA<|s.i+1}) (.so (.exit 0) s)
def ic (s:PU):Prop:=(s.i=0/\s.m=(M s.l:Int))/\s.m<=1000/\s.e=0
def Xm (s:PU):Prop:=(0<=s.i/\s.m=(M s.l:Int))/\s.m<=1000/\s.e=0/\∀j:Nat,(j:Int)<s.i->inB (gi s.l j) (-200) 200=U
def tZ (s:PU):Nat:=(s.m-s.i).toNat
def aAP (x:Ex) (s s':PU):Prop:=(x=.exit 0/\s'.e=0/\s'.l.all (λx=>inB x (-200) 200)=U)\/(x=.ret/\s'.e=1/\s'.l.all (λx=>inB x (-200) 200)=X)
def akN:∀s,ic s->Xm s:=by
 rintro s ⟨⟨h0,h1⟩,h2,h3⟩
 exact ⟨⟨A0,h1⟩,h2,h3,λj hj=>A0⟩
theorem axd:Da Xm tZ aAP wG:=by
 intro s hI;obtain ⟨⟨h0,h1⟩,h2,h3,h4⟩:=hI
 have key:s.l.all (λx=>inB x (-200) 200)=Dc (M s.l) (λk=>inB (gi s.l k) (-200) 200):=(pE (f:=λx=>inB x (-200) 200)).symm
 refine AH (λc1=>AH (λc2=>?_) λc2=>?_) λc1=>?_
 ·have c1:s.i<s.m:=AX
  refine .inr ⟨rfl,rfl,?_⟩;rw [key];exact QP s.i.toNat A0 A8
 ·have c1:s.i<s.m:=A8
  have c2:=(I5 _).mp c2
  rw [AJ (x:=s.i+1)];refine ⟨⟨⟨A8,h1⟩,h2,h3,λj hj=>?_⟩,by simp only [tZ];omega⟩
  by_cases e:(j:Int)<s.i
  ·exact h4 j e
  ·rw [show (j:Int)=s.i by grind]
   exact c2
 ·have c1:s.m<=s.i:=A8
  exact .inl ⟨rfl,h3,by rw [key];exact Dy.2 λj hj=>h4 j A0⟩
def RB:AT PU:=⟨0,105,[1,2,4,5,27,28,29],[],λs=>[.xl A7 s.ah3,.own 0 0,.own 1 0,s.e,.xl A7 s.l,s.m,s.i],λs=>[⟨[s.BB,s.Bf,s.Bz,s.BN,s.C0],28,.cl,X⟩,zB],λv b=>⟨B5 A7 v 0,AK v 3,B5 A7 v 4,AK v 5,AK v 6,AF Ad b 0 0,AF .str b 0 1,AF Ai b 0 2,AF Ae b 0 3,AF Aj b 0 4⟩,wG,λs r=> {s with e:=r.e,i:=r.i},λs=>s,λ_ s=>s,[.ret,.exit 0],ic,Xm,tZ⟩
abbrev WN:=RB.run
abbrev dZ:=RB.Av
def ax6:Rq Xm wG:=by
 exact aKy
def X5:List Bd:=[P1,fe,dq,uw,WK]
def uU:Ay:=kI X5<|la 11 func68 TH<|la 6 func68 QN<|la 3 func51 Ou<|la 2 func67 NR<|la 1 func66 MW<|la 2 func75 LA<|la 9 func29 Cn<|l0 X5
def aPU:RB.Ok:={}
def aOi:RB.Pf (aAP):=⟨akN,λs h=>rfl,axd,ax6⟩
def aoT:SA 0 aF7 RB:=s1 aPU aOi X5 uU
def ar0:Fi ic Xm aAP dZ WN:=AT.fin aPU aOi
structure PT where
 (e n i:Int)
 BB:List Cd
 Bf:List ByteArray
 Bz:List Ko
 BN:List Ch
 C0:List Ba
 rR:List Cd
 p1:List ByteArray
 p2:List Ko
 p3:List Ch
 p4:List Ba
 (p9 T6:List Int)
 ra:List Ra
 st:List St
 ca:List Le
 mi:List Mi
 me:List Me
 dm:List Dm
def aF6:=bN f11 1
def wF (s:PT):T (Rd PT):=letI a:=(X,((0:Int),((0:Int),(9:Int))));letI b:=((AA<|s.i+1),((0:Int),X));letI c:=(s.st++([((0:Int),((0:Int),((0:Int),X)))]));.br (an<|s.i<s.n) (.rb (M s.st) (M<|[((0:Int),((0:Int),((0:Int),X)))]) 32<|.rb (M s.me) (M<|[b]) 24<|.rb (M s.dm) (M<|[a]) 32<|.rl s.ra<|.re (M s.st+M ([((0:Int),((0:Int),((0:Int),X)))])) c<|.rl s.ca<|.rl s.mi<|.re (M s.me+M ([b])) (s.me++([b]))<|.re (M s.dm+M ([a])) (s.dm++([a]))<|.nx {s with i:=AA<|s.i+1,st:=c,me:=s.me++([b]),dm:=s.dm++([a])})<|.rl s.ra<|.rl s.st<|.rl s.ca<|.rl s.mi<|.rl s.me<|.rl s.dm<|.so (.exit 2) s
def ib (s:PT):Prop:=s.i=0/\(s.n<=1000/\0<=s.n)/\s.st=[]/\s.me=[]/\s.dm=[]
def YZ (s:PT):Prop:=(0<=s.i/\s.i<=s.n)/\(s.n<=1000/\0<=s.n)/\s.st=aq s.i.toNat (0,0,0,X)/\s.me=(Fj s.i.toNat).map (λk=>(k+1,0,X))/\s.dm=aq s.i.toNat (X,0,0,9)
def tY (s:PT):Nat:=(s.n-s.i).toNat
def aAO (x:Ex) (s s':PT):Prop:=x=.exit 2/\s'.st=aq s'.n.toNat (0,0,0,X)/\s'.me=(Fj s'.n.toNat).map (λk=>(k+1,0,X))/\s'.dm=aq s'.n.toNat (X,0,0,9)
def akM:∀s,ib s->YZ s:=by
 rintro s ⟨h0,h1,h2,h3,h4⟩
 refine ⟨A0,h1,?_,?_,?_⟩
 ·simp_all
 ·rw [h3,h0];rfl
 ·simp_all
theorem axc:Da YZ tY aAO wF:=by
 intro s hI;obtain ⟨⟨h0,h1⟩,h2,h3,h4,h5⟩:=hI;refine AH (λc1=>?_) λc1=>?_
 ·have c1:s.i<s.n:=A8
  rw [AJ (x:=s.i+1)]
  have e:(s.i+1).toNat=s.i.toNat+1:=A0
  refine ⟨⟨⟨A8,A8⟩,h2,?_,?_,?_⟩,by simp only [tY];omega⟩
  ·show s.st++[_]=aq (s.i+1).toNat _
   rw [e,h3,kE]
  ·show s.me++[_]=(Fj (s.i+1).toNat).map _
   rw [e,h4,aDc,Jx,CM h0];rfl
  ·show s.dm++[_]=aq (s.i+1).toNat _
   rw [e,h5,kE]
 ·have c1:s.n<=s.i:=A8
  have e:s.i=s.n:=A0
  rw [e] at h3 h4 h5;exact ⟨rfl,h3,h4,h5⟩
def S1:AT PT:=⟨0,105,[2,4,5,11,63,64],[.ns 11 12 58 B3,.ns 11 15 105 BQ,.ns 11 16 71 Au],λs=>[.own 0 0,.own 1 0,s.e,.own 2 0,s.n,s.i],λs=>[⟨[s.BB,s.Bf,s.Bz,s.BN,s.C0],28,.cl,X⟩,zB,⟨[s.rR,s.p1,s.p2,s.p3,s.p4,(0:Int),U,.v<|.slice aj 0 0,(512:Int),.xl (.int aw) s.p9,.os 3 2 0<|M s.ra,(1:Int),.os 4 4 0<|M s.st,.os 5 5 0<|M s.ca,.os 6 3 0<|M s.mi,.os 7 3 0<|M s.me,.os 8 4 0<|M s.dm,.v<|.slice aj 0 0,.xl A7 s.T6,.v<|.slice aj 0 0],47,.cl,X⟩,bV 143 Am s.ra,bV 58 B3 s.st,bV 69 AQ s.ca,bV 148 B6 s.mi,bV 105 BQ s.me,bV 71 Au s.dm],λv b=>⟨AK v 2,AK v 4,AK v 5,AF Ad b 0 0,AF .str b 0 1,AF Ai b 0 2,AF Ae b 0 3,AF Aj b 0 4,AF Ad b 2 0,AF .str b 2 1,AF Ai b 2 2,AF Ae b 2 3,AF Aj b 2 4,AF (.int aw) b 2 9,AF A7 b 2 18,Ab Am b 3,Ab B3 b 4,Ab AQ b 5,Ab B6 b 6,Ab BQ b 7,Ab Au b 8⟩,wF,λs r=> {s with i:=r.i,st:=r.st,me:=r.me,dm:=r.dm},λs=>s,λ_ s=>s,[.exit 2],ib,YZ,tY⟩
abbrev NG:=S1.run
abbrev arl:=S1.Av
theorem ax5:Rq YZ wF:=by
 intro s hI;refine ⟨λc1=>⟨?_,?_,?_,A9,?_,A9,A9,?_,?_,ak⟩,λc1=>⟨A9,A9,A9,A9,A9,A9,ak⟩⟩
 all_goals ((obtain ⟨⟨h0,h1⟩,h2,h3,h4,h5⟩:=hI;have l1:M s.st=s.i.toNat:=A8;have l2:M s.me=s.i.toNat:=(by rw [h4];simp [Om]);have l3:M s.dm=s.i.toNat:=A8;simp only [Ac] at c1;first|(simp only [Bk,Bp];omega) |(simp only [BF,Bk,Bp,FA];done) |exact ⟨rfl,AI⟩))
def aPT:S1.Ok:={}
def aOh:S1.Pf (aAO):=⟨akM,λs h=>rfl,axc,ax5⟩
def aoS:SA 0 aF6 S1:=s1 aPT aOh X5 uU
def aqz:Fi ib YZ aAO arl NG:=AT.fin aPT aOh
structure PS where
 e:Int
 l:List Cd
 (n i:Int)
 rR:List Cd
 p1:List ByteArray
 p2:List Ko
 p3:List Ch
 p4:List Ba
 (p9 T6:List Int)
 ra:List Ra
 st:List St
 ca:List Le
 mi:List Mi
 me:List Me
 dm:List Dm
 tg:List Int
def aF5:=bN f11 2
def wE (s:PS):T (Rd PS):=letI a:=Ag s.l s.i;.br (an<|s.i<s.n) (.ix s.i (M s.l)<|.rb (M s.tg) (M<|[a.2.2.1]) 8<|.rl s.ra<|.rl s.st<|.rl s.ca<|.rl s.mi<|.rl s.me<|.rl s.dm<|.re (M s.tg+M ([a.2.2.1])) (s.tg++([a.2.2.1]))<|.nx {s with i:=AA<|s.i+1,tg:=s.tg++([a.2.2.1])})<|.rl s.ra<|.rl s.st<|.rl s.ca<|.rl s.mi<|.rl s.me<|.rl s.dm<|.rl s.tg<|.so (.exit 4) s
def ia (s:PS):Prop:=s.i=0/\(s.n=(M s.l:Int)/\s.n<=1000)/\s.tg=[]
def YY (s:PS):Prop:=(0<=s.i/\s.i<=s.n)/\(s.n=(M s.l:Int)/\s.n<=1000)/\s.tg=(s.l.take s.i.toNat).map (λc=>c.2.2.1)
def tX (s:PS):Nat:=(s.n-s.i).toNat
def aAN (x:Ex) (s s':PS):Prop:=x=.exit 4/\s'.tg=s'.l.map (λc=>c.2.2.1)
def akL:∀s,ia s->YY s:=by
 rintro s ⟨h0,h1,h2⟩
 exact ⟨A0,h1,G1⟩
theorem axb:Da YY tX aAN wE:=by
 intro s hI;obtain ⟨⟨h0,h1⟩,⟨h2,h3⟩,h4⟩:=hI;refine AH (λc1=>?_) λc1=>?_
 ·have c1:s.i<s.n:=A8
  rw [AJ (x:=s.i+1)]
  have e:(s.i+1).toNat=s.i.toNat+1:=A0
  refine ⟨⟨⟨A8,A8⟩,⟨h2,h3⟩,?_⟩,by simp only [tX];omega⟩
  show s.tg++[_]=(s.l.take (s.i+1).toNat).map _
  have e2:Ag s.l s.i=s.l[s.i.toNat]' A0:=by
   have:=QR (cs:=s.l) (k:=s.i.toNat) A0
   exact this
  rw [e,h4,ZM A0,Jx,e2];rfl
 ·have c1:s.n<=s.i:=A8
  refine ⟨rfl,?_⟩;rw [h4,DR A0]
def S0:AT PS:=⟨0,105,[4,5,11,89,90,91],[.ns 11 19 3 A7],λs=>[.own 0 0,s.e,.own 1 0,s.l,s.n,s.i],λs=>[zB,⟨[s.rR,s.p1,s.p2,s.p3,s.p4,(0:Int),U,.v<|.slice aj 0 0,(512:Int),.xl (.int aw) s.p9,.os 2 2 0<|M s.ra,(1:Int),.os 3 4 0<|M s.st,.os 4 5 0<|M s.ca,.os 5 3 0<|M s.mi,.os 6 3 0<|M s.me,.os 7 4 0<|M s.dm,.v<|.slice aj 0 0,.xl A7 s.T6,.os 8 1 0<|M s.tg],47,.cl,X⟩,bV 143 Am s.ra,bV 58 B3 s.st,bV 69 AQ s.ca,bV 148 B6 s.mi,bV 105 BQ s.me,bV 71 Au s.dm,bV 3 A7 s.tg],λv b=>⟨AK v 1,B5 Ad v 3,AK v 4,AK v 5,AF Ad b 1 0,AF .str b 1 1,AF Ai b 1 2,AF Ae b 1 3,AF Aj b 1 4,AF (.int aw) b 1 9,AF A7 b 1 18,Ab Am b 2,Ab B3 b 3,Ab AQ b 4,Ab B6 b 5,Ab BQ b 6,Ab Au b 7,Ab A7 b 8⟩,wE,λs r=> {s with i:=r.i,tg:=r.tg},λs=>s,λ_ s=>s,[.exit 4],ia,YY,tX⟩
abbrev bU:=S0.run
abbrev ark:=S0.Av
theorem ax4:Rq YY wE:=by
 intro s hI;refine ⟨λc1=>⟨?_,?_,A9,A9,A9,A9,A9,A9,?_,ak⟩,λc1=>⟨A9,A9,A9,A9,A9,A9,A9,ak⟩⟩
 all_goals ((obtain ⟨⟨h0,h1⟩,⟨h2,h3⟩,h4⟩:=hI;have l1:M s.tg=s.i.toNat:=A8;simp only [Ac] at c1;first|omega|(simp only [Bk,Bp];omega) |(simp only [BF,Bk,Bp,FA];done)))
def aPS:S0.Ok:={}
def aOg:S0.Pf (aAN):=⟨akL,λs h=>rfl,axb,ax4⟩
def aoQ:SA 0 aF5 S0:=s1 aPS aOg X5 uU
def aqy:Fi ia YY aAN ark bU:=AT.fin aPS aOg
structure OB where
 (n i:Int)
 qS:List Cd
 b11:List ByteArray
 b12:List Ko
 b13:List Ch
 b14:List Ba
 (b19 aCP:List Int)
 b2:List Ra
 b3:List St
 b4:List Le
 b5:List Mi
 b6:List Me
 b7:List Dm
 b8:List Int
 p1:List ByteArray
 p2:List Ko
 p3:List Ch
 p4:List Ba
 T6:List Int
 Uy:List Cd
 mV:List Le
 mU:List Int
 mT:List Ra
 b15:List St
 b16:List Le
 o:List Mi
def wD (s:OB):T (Rd OB):=letI a:=s.o.getD s.i.toNat<|Ty.dflt B6;.br (an<|s.i<s.n) (.ik s.i (M s.o)<|.req (M a.1<=100000000)<|.ik s.i (M s.o)<|.rl s.b2<|.rl s.b3<|.rl s.b4<|.rl s.b5<|.rl s.b6<|.rl s.b7<|.rl s.b8<|.rl s.Uy<|.rl s.mV<|.rl s.mU<|.rl s.mT<|.rl s.b15<|.rl s.b16<|.re (M s.o) (s.o.set s.i.toNat a)<|.rl s.b6<|.rl s.b7<|.rl s.b8<|.nx {s with i:=AA<|s.i+1,o:=s.o.set s.i.toNat a})<|.rl s.b2<|.rl s.b3<|.rl s.b4<|.rl s.b5<|.rl s.b6<|.rl s.b7<|.rl s.b8<|.rl s.Uy<|.rl s.mV<|.rl s.mU<|.rl s.mT<|.rl s.b15<|.rl s.b16<|.rl s.o<|.rl s.b6<|.rl s.b7<|.rl s.b8<|.so (.exit 0) s
def iZ (s:OB):Prop:=s.i=0/\s.n=(M s.o:Int)/\s.n<=1000/\∀m∈s.o,M m.1<=1000
def j7 (s:OB):Prop:=0<=s.i/\s.i<=s.n/\s.n=(M s.o:Int)/\s.n<=1000/\∀m∈s.o,M m.1<=1000
def tW (s:OB):Nat:=(s.n-s.i).toNat
def abZ (x:Ex) (s s':OB):Prop:=True
def akK:∀s,iZ s->j7 s:=by
 exact aMH
theorem axa:Da j7 tW abZ wD:=by
 intro s hI;obtain ⟨h0,h1,h2,h3,h4⟩:=hI;refine AH (λc1=>?_) λc1=>trivial
 ·have c1:s.i<s.n:=A8
  have e:=set_self (l:=s.o) (i:=s.i.toNat) (d:=Ty.dflt B6) A0
  rw [AJ (x:=s.i+1),e];exact ⟨⟨A8,A8,h2,h3,h4⟩,by simp only [tW];omega⟩
def UI:AT OB:=⟨9,82,[1,2,44,45],[],λs=>[.own 9 0,.own 10 0,s.n,s.i],λs=>[zB,⟨[s.qS,s.b11,s.b12,s.b13,s.b14,(0:Int),U,.v<|.slice aj 0 0,(512:Int),.xl (.int aw) s.b19,.os 2 2 0<|M s.b2,(1:Int),.os 3 4 0<|M s.b3,.os 4 5 0<|M s.b4,.os 5 3 0<|M s.b5,.os 6 3 0<|M s.b6,.os 7 4 0<|M s.b7,.v<|.slice aj 0 0,.xl A7 s.aCP,.os 8 1 0<|M s.b8],47,.cl,X⟩,bV 143 Am s.b2,bV 58 B3 s.b3,bV 69 AQ s.b4,bV 148 B6 s.b5,bV 105 BQ s.b6,bV 71 Au s.b7,bV 3 A7 s.b8,⟨[.os 11 11 0<|M s.Uy,s.p1,s.p2,s.p3,s.p4,(0:Int),U,.os 12 5 0<|M s.mV,(512:Int),.os 13 1 0<|M s.mU,.os 14 2 0<|M s.mT,(1:Int),.os 15 4 0<|M s.b15,.os 16 5 0<|M s.b16,.os 17 3 0<|M s.o,.os 6 3 0<|M s.b6,.os 7 4 0<|M s.b7,.v<|.slice aj 0 0,.xl A7 s.T6,.os 8 1 0<|M s.b8],47,.cl,X⟩,zB,bV 79 Ad s.Uy,bV 90 AQ s.mV,bV 5 (.int aw) s.mU,bV 143 Am s.mT,bV 58 B3 s.b15,bV 69 AQ s.b16,bV 148 B6 s.o],λv b=>⟨AK v 2,AK v 3,AF Ad b 1 0,AF .str b 1 1,AF Ai b 1 2,AF Ae b 1 3,AF Aj b 1 4,AF (.int aw) b 1 9,AF A7 b 1 18,Ab Am b 2,Ab B3 b 3,Ab AQ b 4,Ab B6 b 5,Ab BQ b 6,Ab Au b 7,Ab A7 b 8,AF .str b 9 1,AF Ai b 9 2,AF Ae b 9 3,AF Aj b 9 4,AF A7 b 9 18,Ab Ad b 11,Ab AQ b 12,Ab (.int aw) b 13,Ab Am b 14,Ab B3 b 15,Ab AQ b 16,Ab B6 b 17⟩,wD,λs r=> {s with i:=r.i,o:=r.o},λs=>s,λ_ s=>s,[.exit 0],iZ,j7,tW⟩
abbrev oJ:=UI.run
abbrev arj:=UI.Av
def u6:List Bd:=[P1,fe,dq,uw,WK,aad]
def azY:Ay:=kI u6<|la 11 func68 TH<|la 6 func68 QN<|la 3 func51 Ou<|la 2 func67 NR<|la 1 func66 MW<|la 2 func75 LA<|la 9 func29 Cn<|l0 u6
def ax3:Rq j7 wD:=by
 intro s hI;refine ⟨λc1=>⟨?_,?_,?_,?_,?_,A9,A9,A9,A9,A9,A9,A9,A9,A9,A9,A9,A9,A9,?_,A9,A9,A9,ak⟩,λc1=>⟨A9,A9,A9,A9,A9,A9,A9,A9,A9,A9,A9,A9,A9,A9,A9,A9,A9,ak⟩⟩
 all_goals ((obtain ⟨h0,h1,h2,h3,h4⟩:=hI;(try simp only [Ac] at c1);first|omega|exact ⟨rfl,AI⟩ |exact ⟨rfl,rfl⟩ |exact HZ (h4 _<|getD_mem A0) Aa))
def aPR:UI.Ok:={}
def aOf:UI.Pf (abZ):=⟨akK,λs h=>rfl,axa,ax3⟩
def aGF:=s2 (b:=bN f29 0) aPR aOf u6 azY
theorem aqx:Rs iZ arj oJ (λs:OB=>s.o) (λx s' (v:List Mi)=>x=.exit 0/\s'.o=v):=DJ aPR aOf (λs hI=>by
  obtain ⟨h0,h1,h2,h3,h4⟩:=hI;refine AH (λc1=>?_) λc1=>⟨rfl,rfl⟩
  have c1:s.i<s.n:=A8
  have e:=set_self (l:=s.o) (i:=s.i.toNat) (d:=Ty.dflt B6) A0
  rw [e];exact rfl)
def aSi:List LV->T LV
 | .agg a::r=>s5 a λcs os ks gs bs=>(match r with
  | [.xl (.int J) dr]=> .req (M dr<=1000) (.ok<|.AO [newP cs os ks gs bs dr,DA cs os ks gs bs dr])
  |_=> .no)
 |_=> .no
def Fo {α:Type}(d:α) (l:List α):List α:=BE (AR l)<|aq (M l:Int).toNat d
def aS1 {α:Type}(d:α) (l:List α):Fo d l=l:=by
 unfold Fo;rw [FX];exact QM
def cpX {α:Type}(d:α) (l:List α):List α:=BE l<|aq (M l:Int).toNat d
def agb {α:Type}(d:α) (l:List α):cpX d l=l:=QM
def cpN {α:Type}(d:α):List α:=BE []<|aq (0:Int).toNat d
def agc {α:Type}(d:α):cpN d=[]:=rfl
def EE {α:Type}(gs:List Ch) (d:α):List α:=aq (M gs:Int).toNat d
theorem pA {α:Type}(gs:List Ch) (d:α):EE gs d=aq (M gs) d:=by
 unfold EE
 grind
def zNV (e:Int):LV:=.AO [.agg [.xl Ad ([]:List Cd),.xl .str ([]:List ByteArray),.xl Ai ([]:List Ko),.xl Ae ([]:List Ch),.xl Aj ([]:List Ba),.v<|Y J 0,.v<|.bool X,.xl AQ ([]:List Le),.v<|Y J 0,.xl (.int aw) ([]:List Int),.xl Am ([]:List Ra),.v<|Y J 0,.xl B3 ([]:List St),.xl AQ ([]:List Le),.xl B6 ([]:List Mi),.xl BQ ([]:List Me),.xl Au ([]:List Dm),.xl BM ([]:List Lk),.xl A7 ([]:List Int),.xl A7 ([]:List Int)],.v<|Y J e]
def mE:Cd:=(ByteArray.empty,((0:Int),((0:Int),((0:Int),(((0:Int),(0:Int)),((0:Int),((0:Int),((0:Int),((0:Int),(0:Int))))))))))
def JZ:Le:=((0:Int),((0:Int),((0:Int),((0:Int),(0:Int)))))
def Ng:Ra:=((0:Int),(0:Int))
def aTf:St:=((0:Int),((0:Int),((0:Int),X)))
def aKO:Me:=((0:Int),((0:Int),X))
def aKQ:Dm:=(X,((0:Int),((0:Int),(0:Int))))
def KM:Mi:=(([]:List Int),((0:Int),(0:Int)))
def Pe:Int:=(0:Int)
def aKP:Lk:=((0:Int),((0:Int),((0:Int),((0:Int),((0:Int),(0:Int))))))
def Q8 (cs:List Cd) (os:List ByteArray) (ks:List Ko) (gs:List Ch) (bs:List Ba) (dr:List Int):PU:=(⟨dr,0,dr,(M dr:Int),0,cs,os,ks,gs,bs⟩:PU)
def MJ (cs:List Cd) (os:List ByteArray) (ks:List Ko) (gs:List Ch) (bs:List Ba) (dr:List Int):PT:=(⟨(WN<|Q8 cs os ks gs bs dr).e,(M gs:Int),0,cs,os,ks,gs,bs,cs,os,ks,gs,bs,Di,dr,EE gs Ng,([]:List St),EE gs JZ,EE gs KM,([]:List Me),([]:List Dm)⟩:PT)
def Vb (cs:List Cd) (os:List ByteArray) (ks:List Ko) (gs:List Ch) (bs:List Ba) (dr:List Int):PS:=letI a:=NG<|MJ cs os ks gs bs dr;(⟨(WN<|Q8 cs os ks gs bs dr).e,cs,(M cs:Int),0,cs,os,ks,gs,bs,Di,dr,EE gs Ng,a.st,EE gs JZ,EE gs KM,a.me,a.dm,([]:List Int)⟩:PS)
def nF (cs:List Cd) (os:List ByteArray) (ks:List Ko) (gs:List Ch) (bs:List Ba) (dr:List Int):OB:=letI a:=NG<|MJ cs os ks gs bs dr;(⟨((((M (EE gs KM):Nat):Int).toNat:Nat):Int),0,cs,os,ks,gs,bs,Di,dr,EE gs Ng,a.st,EE gs JZ,EE gs KM,a.me,a.dm,(bU<|Vb cs os ks gs bs dr).tg,os,ks,gs,bs,dr,cpX mE cs,cpN JZ,cpX Pe Di,Fo Ng<|EE gs Ng,Fo aTf a.st,Fo JZ<|EE gs JZ,Fo KM<|EE gs KM⟩:OB)
def u0:List Bd:=[P1,fe,dq,uw,WK]
def azX:Ay:=kI u0<|la 9 func29 aGF<|la 11 func68 TH<|la 6 func68 QN<|la 3 func51 Ou<|la 2 func67 NR<|la 1 func66 MW<|la 2 func75 LA<|la 9 func29 Cn<|l0 u0
def v5:=vm (S:=aSi) func11 u0 azX (L:=(λi=>if i=4 then RB.lp else if i=17 then S1.lp else if i=24 then S0.lp else Al i)) (λb hb=>by
 rw [show BD _=[aF7,aF6,aF5] by kernel_rfl] at hb
 simp only [B7,Bt,Bu] at hb;rcases hb with rfl|rfl|rfl
 ·exact aoT
 ·exact aoS
 ·exact aoQ) (λargs lv h=>by
 unfold aSi at h;split at h
 case h_2=>cases h
 replace h:=IE h
 obtain ⟨cs,os,ks,gs,bs,rfl,h⟩:=h;split at h
 ·rename_i dr
  refine Aq (letI a:=NG<|MJ cs os ks gs bs dr;letI b:=bU<|Vb cs os ks gs bs dr;letI d:=EE gs Ng;letI f:=EE gs JZ;letI g:=(M gs:Int);letI j:=((M a.me:Nat):Int);letI l:=((M a.dm:Nat):Int);letI n:=((M b.tg:Nat):Int);letI p:=EE gs KM;letI r:=(M dr:Int);letI s:=((M a.st:Nat):Int);letI t:=((M d:Nat):Int);letI u:=((M f:Nat):Int);letI v:=((M p:Nat):Int);letI w:=Q8 cs os ks gs bs dr;letI y:=nF cs os ks gs bs dr;letI z:=(M cs:Int);letI A:=(M Di:Int);letI B:=(M ([]:List Le));letI C:=Fo aTf a.st;.br ((!(BL cs os ks gs bs)) ||(r !=g)) (.ok<|zNV 1)<|.req (RB.q w)<|.br (Bs (dZ w)<|.ret) (.ok<|.AO [.agg [.xl Ad ([]:List Cd),.xl .str ([]:List ByteArray),.xl Ai ([]:List Ko),.xl Ae ([]:List Ch),.xl Aj ([]:List Ba),(0:Int),X,.xl AQ ([]:List Le),(0:Int),.xl (.int aw) ([]:List Int),.xl Am ([]:List Ra),(0:Int),.xl B3 ([]:List St),.xl AQ ([]:List Le),.xl B6 ([]:List Mi),.xl BQ ([]:List Me),.xl Au ([]:List Dm),.xl BM ([]:List Lk),.xl A7 ([]:List Int),.xl A7 ([]:List Int)],(WN w).e])<|.req (BL cs os ks gs bs=U)<|.br (!HI cs gs (Bv gs)) (.ok<|zNV 13)<|.br ((0:Int) !=0) (.ok<|zNV 0)<|.rm 16 g<|.rm 40 g<|.rm 40 g<|.re g.toNat d<|.r0 St<|.re g.toNat f<|.re g.toNat p<|.r0 Me<|.r0 Dm<|.req (S1.q<|MJ cs os ks gs bs dr)<|.rl d<|.rl a.st<|.rl f<|.rl p<|.rl a.me<|.rl a.dm<|.r0 Int<|.req (S0.q<|Vb cs os ks gs bs dr)<|.rm 96 z<|.rc z (ByteArray.empty,((0:Int),((0:Int),((0:Int),(((0:Int),(0:Int)),((0:Int),((0:Int),((0:Int),((0:Int),(0:Int)))))))))) (M cs)<|.rm 40 (0:Int)<|.rc (0:Int) ((0:Int),((0:Int),((0:Int),((0:Int),(0:Int))))) B<|.rm 1 A<|.rc A (0:Int) (M Di)<|.rm 16 t<|.rz d<|.rc t ((0:Int),(0:Int)) (M<|AR d)<|.rm 32 s<|.rz a.st<|.rc s ((0:Int),((0:Int),((0:Int),X))) (M<|AR a.st)<|.rm 40 u<|.rz f<|.rc u ((0:Int),((0:Int),((0:Int),((0:Int),(0:Int))))) (M<|AR f)<|.rm 40 v<|.rz p<|.rc v (([]:List Int),((0:Int),(0:Int))) (M<|AR p)<|.rl d<|.rl a.st<|.rl f<|.rl p<|.rl a.me<|.rl a.dm<|.rl b.tg<|.re z.toNat (cpX mE cs)<|.re (0:Int).toNat (cpN JZ)<|.re A.toNat (cpX Pe Di)<|.re t.toNat (Fo Ng d)<|.re s.toNat C<|.re u.toNat (Fo JZ f)<|.re v.toNat (Fo KM p)<|.rl a.me<|.rl a.dm<|.rl b.tg<|.req (UI.q y)<|.rm 24 j<|.rz a.me<|.rc j ((0:Int),((0:Int),X)) (M<|AR a.me)<|.rm 32 l<|.rz a.dm<|.rc l (X,((0:Int),((0:Int),(0:Int)))) (M<|AR a.dm)<|.rm 48 (0:Int)<|.rc (0:Int) ((0:Int),((0:Int),((0:Int),((0:Int),((0:Int),(0:Int)))))) B<|.rm 8 r<|.rc r (0:Int) (M dr)<|.rm 8 n<|.rz b.tg<|.rc n (0:Int) (M<|AR b.tg)<|.rz (cpX mE cs)<|.rz (cpN JZ)<|.rz (cpX Pe Di)<|.rz (Fo Ng d)<|.rz C<|.rz (Fo JZ f)<|.rz (oJ y).o<|.req (0+j.toNat<=M (Fo aKO a.me))<|.req (0+l.toNat<=M (Fo aKQ a.dm))<|.req (0+(0:Int).toNat<=M (cpN aKP))<|.req (0+r.toNat<=M (cpX Pe dr))<|.req (0+n.toNat<=M (Fo Pe b.tg))<|.ok<|.AO [.agg [(AR<|cpX mE cs),os,ks,gs,bs,(0:Int),U,(AR<|cpN JZ),(512:Int),.xl (.int aw)<|AR<|cpX Pe Di,(AR<|Fo Ng d),(1:Int),(AR C),(AR<|Fo JZ f),(AR (oJ y).o),(((Fo aKO a.me).drop 0).take j.toNat),(((Fo aKQ a.dm).drop 0).take l.toNat),(((cpN aKP).drop 0).take (0:Int).toNat),.xl A7<|((cpX Pe dr).drop 0).take r.toNat,.xl A7<|((Fo Pe b.tg).drop 0).take n.toNat],(0:Int)]) ?_;obtain ⟨hn,rfl⟩:=h
  have A1:ic (Q8 cs os ks gs bs dr):=⟨⟨rfl,rfl⟩,by show (M dr:Int)<=1000;omega,rfl⟩
  obtain ⟨_,_,q1⟩:=ar0 _ A1
  have q1:(dZ (Q8 cs os ks gs bs dr)=.exit 0/\(WN<|Q8 cs os ks gs bs dr).e=0/\dr.all (λx=>inB x (-200) 200)=U)\/(dZ (Q8 cs os ks gs bs dr)=.ret/\(WN<|Q8 cs os ks gs bs dr).e=1/\dr.all (λx=>inB x (-200) 200)=X):=q1
  have bad:∀ {e:Int},DA cs os ks gs bs dr=e->e≠0->newP cs os ks gs bs dr=PK0:=λh1 h2=>AD (by rw [h1];exact h2)
  have hb:((!BL cs os ks gs bs) ||((M dr:Int) !=(M gs:Int)))=U↔(BL cs os ks gs bs=X\/M dr≠M gs):=by simp [Int.natCast_inj]
  refine ⟨λc=>?_,λc=>⟨⟨A1,rfl,rfl⟩,λc2=>?_,λc2=>?_⟩⟩
  ·have he:DA cs os ks gs bs dr=1:=AD (hb.1 c)
   show zNV 1=_
   exact y7
  all_goals have hc:¬(BL cs os ks gs bs=X\/M dr≠M gs):=λh=>(by rw [hb.2 h] at c;cases c)
  ·rcases q1 with ⟨x1,_⟩ |⟨x1,x2,x3⟩
   ·rw [x1] at c2
    cases c2
   ·have he:DA cs os ks gs bs dr=1:=(AE hc).trans (AD x3)
    rw [x2]
    show zNV 1=_
    exact y7
  rcases q1 with ⟨x1,x2,x3⟩ |⟨x1,x2,x3⟩
  rotate_left
  ·rw [x1] at c2
   cases c2
  have hs:BL cs os ks gs bs=true:=by
   cases e:BL cs os ks gs bs
   ·exact absurd (.inl e) hc
   ·rfl
  have hd:M dr=M gs:=jx λh=>hc<|.inr h
  have hg:=DF.1 hs
  refine ⟨hs,λc3=>?_,λc3=>⟨λc4=>(by cases c4),λ_=>?_⟩⟩
  ·have he:DA cs os ks gs bs dr=13:=(AE hc).trans ((AE (by rw [x3];decide)).trans<|AD<|(Cs _).mp c3)
   show zNV 13=_
   exact y7
  have he:DA cs os ks gs bs dr=0:=(AE hc).trans<|(AE (by rw [x3];decide)).trans<|AE (by rw [(I5 _).mp c3];decide)
  have hp:newP cs os ks gs bs dr=_:=AE MH
  have A2:ib (MJ cs os ks gs bs dr):=⟨rfl,⟨aN7,V6 _⟩,rfl,rfl,rfl⟩
  obtain ⟨_,_,_,y1,y2,y3⟩:=aqz _ A2
  have y1:(NG<|MJ cs os ks gs bs dr).st=aq (M gs) (0,0,0,X):=y1
  have y2:(NG<|MJ cs os ks gs bs dr).me=(Fj<|M gs).map (λk=>(k+1,0,X)):=y2
  have y3:(NG<|MJ cs os ks gs bs dr).dm=aq (M gs) (X,0,0,9):=y3
  have A3:ia (Vb cs os ks gs bs dr):=⟨rfl,⟨rfl,aN8⟩,rfl⟩
  obtain ⟨_,_,_,y4⟩:=aqy _ A3
  have y4:(bU<|Vb cs os ks gs bs dr).tg=cs.map (λc=>c.2.2.1):=y4
  have hj:M Di=2048:=rfl
  have l1:M (EE gs Ng)=M gs:=yt
  have l2:M (EE gs JZ)=M gs:=yt
  have l3:M (EE gs KM)=M gs:=yt
  have l4:M (NG<|MJ cs os ks gs bs dr).st=M gs:=by rw [y1,Ce]
  have l5:M (NG<|MJ cs os ks gs bs dr).me=M gs:=by rw [y2,G0,Om]
  have l6:M (NG<|MJ cs os ks gs bs dr).dm=M gs:=by rw [y3,Ce]
  have l7:M (bU<|Vb cs os ks gs bs dr).tg=M cs:=by rw [y4,G0]
  have ho:(nF cs os ks gs bs dr).o=EE gs KM:=aS1 _ _
  have A4:iZ (nF cs os ks gs bs dr):=⟨rfl,by rw [ho];show ((((M (EE gs KM):Nat):Int).toNat:Nat):Int)=_;rw [By],by show ((((M (EE gs KM):Nat):Int).toNat:Nat):Int)<=1000;rw [By,l3];omega,by
   rw [ho,pA];intro m hm;rw [(SV.1 hm).2]
   decide⟩
  have y5:(oJ<|nF cs os ks gs bs dr).o=EE gs KM:=(aqx _ A4).2.trans ho
  simp only [aS1,agb,agc,FX,y5,l1,l2,l3]
  repeat (refine ⟨kv,?_⟩)
  refine ⟨⟨A2,rfl,rfl⟩,?_⟩
  repeat (refine ⟨kv,?_⟩)
  refine ⟨⟨A3,rfl,rfl⟩,?_⟩
  repeat (refine ⟨kv,?_⟩)
  refine ⟨⟨A4,rfl,rfl⟩,?_⟩
  repeat (refine ⟨kv,?_⟩)
  show _=_
  rw [hp,he,y1,y2,y3,y4];simp only [pA,By,CP,EN];rfl
 ·cases h)
def Ef:EV:=⟨1,0,0,(0,0,0,0,0),(X,0,0,0)⟩
def Cw:Nat->PK->Int->PK×Int×Bool
 |0,p,l=>(p,l,U)
 |n+1,p,l=>if BR p Ef=0/\M (D4 p Ef)=M (BS p Ef).ca then Cw n (BS p Ef) (if M (D4 p Ef)>0 then gi (D4 p Ef) 0 else l) else (p,l,X)
def aBJ (a:QV×Int):Option (QV×Int):=
 if (E6 a.1.p&&(!(a.1.p.tk==1000000)&&(a.1.tick.ok&&(M a.1.Mj==M a.1.tick.p.ca&&an (M a.1.Mj>0)))))=U then ah (a.1.tick,gi a.1.Mj 0) else aj
def E8:Nat->QV×Int->Option (QV×Int)
 |0,a=>ah a
 |n+1,a=>(aBJ a).bind<|E8 n
def apH {m n:Nat}:∀ {a:QV×Int},E8 (m+n) a=(E8 m a).bind (E8 n):=by
 induction m with
 |zero=>intro a;rw [EM];rfl
 |succ m ih=>
  intro a;rw [Nat.succ_add];simp only [E8];cases aBJ a with
  |none=>rfl
  |some b=>exact ih
def MU {m n:Nat}{a b c:QV×Int}(h1:E8 m a=ah b) (h2:E8 n b=ah c):E8 (m+n) a=ah c:=by rw [apH,h1];exact h2
def pj {p:PK}{q:QV}(h:RP p q):E6 q.p=E6 p:=by rw [h.1];rfl
theorem oL {n:Nat}:∀ {p:PK}{q:QV}{l:Int}{b:QV×Int},RP p q->E8 n (q,l)=ah b->∃p',Cw n p l=(p',b.2,U)/\RP p' b.1:=by
 induction n with
 |zero=>
  intro p q l b h hq;simp only [E8,Ah] at hq;subst hq;exact ⟨p,rfl,h⟩
 | succ n ih=>
  intro p q l b h hq;simp only [E8] at hq;unfold aBJ at hq;split at hq
  ·rename_i hc
   simp only [AY,Cz,Cs,CN,Ac] at hc;obtain ⟨c1,c2,c3,c4,c5⟩:=hc;obtain ⟨h1,h2⟩:=afu h c3
   have ek:q.p.tk=p.tk:=by rw [h.1]
   have e1:BR p Ef=0:=by
    unfold BR;rw [<-pj h,c1,AE Aa,AD (show Ef.ek=1 from rfl)];unfold PK.IH;omega
   have e2:BS p Ef=p.CZ:=yK
   have e3:D4 p Ef=p.Mj:=aO4
   have e4:M q.tick.p.ca=M p.CZ.ca:=by rw [h1.1]
   obtain ⟨p',k1,k2⟩:=ih h1 hq;refine ⟨p',?_,k2⟩;simp only [Cw]
   grind
  ·cases hq
def bC (n:Int):List Cd:=[(av #[102],-1,n,32,(0,0),0,0,0,0,0)]
def bG:List Ch:=[(av #[112],0,1,6,32,1,6,0)]
def bO:List ByteArray:=[av #[111]]
def bA:Ca:=(0,1,20,1000000000,0)
def bD:Dm:=(U,0,500,1)
def bQ (tk:Int) (up:Bool) (ls:List Le) (ra:List Ra) (nx:Int) (st:List St) (ca:List Ca) (mi:List Mi) (me:List Me) (dm:List Dm) (lk:List Lk) (vl:List Le):QV:=
 ⟨⟨bC 32,bO,[],bG,[],tk,up,ls,0,[],ra,nx,st,ca,mi,me,dm,lk,[0],[32]⟩,vl,U⟩
def hqa:QV:=bQ 0 U [] [(0,0)] 1 [(0,0,0,X)] [(0,0,0,0,0)] [([],0,0)] [(1,0,X)] [(X,0,0,9)] [] []
def hqb:QV:=bQ 1 U [] [(0,1)] 1 [(0,0,0,X)] [(0,0,0,0,0)] [([],0,0)] [(1,0,X)] [(X,0,0,9)] [] []
def ahx:E8 1 (hqa,0)=ah (hqb,0):=AU
def hqc:QV:=bQ 1 U [] [(0,1)] 1 [(4,0,0,X)] [(0,1,20,1000000000,0)] [([],0,0)] [(1,0,X)] [(U,0,500,1)] [] []
def hqd:QV:=bQ 2 U [] [(0,2)] 1 [(4,0,0,X)] [(0,1,20,1000000000,0)] [([6],1,13800)] [(1,13800,X)] [(U,0,500,1)] [] []
def ahw:E8 1 (hqc,0)=ah (hqd,6):=AU
def aKD:QV:=bQ 8 U [(1,0,7,6,12),(2,0,8,7,12)] [(8,2)] 3 [(4,0,0,X)] [(0,1,20,1000000000,0)] [([6,6,6,6,6,6,6],7,96600)] [(1,96600,X)] [(U,0,500,1)] [(8,(1,0,7,6,12)),(11,(2,0,8,7,12))] [(1,0,7,6,12),(2,0,8,7,12)]
def auU:E8 6 (hqd,0)=ah (aKD,6):=AU
def aKC:QV:=bQ 14 U [(1,0,7,6,12),(2,0,8,7,12),(3,0,9,8,12),(4,0,10,9,12),(5,0,11,10,12),(6,0,12,11,12),(7,0,13,12,12),(8,0,14,13,12)] [(14,8)] 9 [(4,12,11,X)] [(0,1,20,1000000000,0)] [([6,6,6,6,6,6,6,7,9,11,8,10,12],13,227700)] [(1,227700,X)] [(U,0,500,1)] [(16,(7,0,13,12,12)),(14,(8,0,14,13,12))] [(1,0,7,6,12),(2,0,8,7,12),(3,0,9,8,12),(4,0,10,9,12),(5,0,11,10,12),(6,0,12,11,12),(7,0,13,12,12),(8,0,14,13,12)]
def auT:E8 6 (aKD,6)=ah (aKC,12):=AU
def aKB:QV:=bQ 20 U [(1,0,7,6,12),(2,0,8,7,12),(3,0,9,8,12),(4,0,10,9,12),(5,0,11,10,12),(6,0,12,11,12),(7,0,13,12,12),(8,0,14,13,12),(9,0,15,14,12),(10,0,16,15,12),(11,0,17,16,12),(12,0,18,17,12),(13,0,19,18,12),(14,0,20,19,12)] [(20,14)] 15 [(4,19,11,X)] [(0,1,20,1000000000,0)] [([6,6,6,6,6,6,6,7,9,11,8,10,12,14,16,13,15,17,19],19,443900)] [(1,443900,X)] [(U,0,500,1)] [(21,(12,0,18,17,12)),(22,(14,0,20,19,12))] [(1,0,7,6,12),(2,0,8,7,12),(3,0,9,8,12),(4,0,10,9,12),(5,0,11,10,12),(6,0,12,11,12),(7,0,13,12,12),(8,0,14,13,12),(9,0,15,14,12),(10,0,16,15,12),(11,0,17,16,12),(12,0,18,17,12),(13,0,19,18,12),(14,0,20,19,12)]
def auS:E8 6 (aKC,12)=ah (aKB,19):=AU
def aKA:QV:=bQ 26 U [(1,0,7,6,12),(2,0,8,7,12),(3,0,9,8,12),(4,0,10,9,12),(5,0,11,10,12),(6,0,12,11,12),(7,0,13,12,12),(8,0,14,13,12),(9,0,15,14,12),(10,0,16,15,12),(11,0,17,16,12),(12,0,18,17,12),(13,0,19,18,12),(14,0,20,19,12),(15,0,21,20,12),(16,0,22,21,12),(17,0,23,22,12),(18,0,24,23,12),(19,0,25,24,12),(20,0,26,25,12)] [(26,20)] 21 [(4,26,11,X)] [(0,1,20,1000000000,0)] [([6,6,6,7,9,11,8,10,12,14,16,13,15,17,19,21,18,20,22,24,26],25,715300)] [(1,715300,X)] [(U,0,500,1)] [(26,(17,0,23,22,12)),(27,(19,0,25,24,12))] [(1,0,7,6,12),(2,0,8,7,12),(3,0,9,8,12),(4,0,10,9,12),(5,0,11,10,12),(6,0,12,11,12),(7,0,13,12,12),(8,0,14,13,12),(9,0,15,14,12),(10,0,16,15,12),(11,0,17,16,12),(12,0,18,17,12),(13,0,19,18,12),(14,0,20,19,12),(15,0,21,20,12),(16,0,22,21,12),(17,0,23,22,12),(18,0,24,23,12),(19,0,25,24,12),(20,0,26,25,12)]
def auR:E8 6 (aKB,19)=ah (aKA,20):=AU
def aK9:QV:=bQ 32 U [(4,0,10,9,12),(5,0,11,10,12),(6,0,12,11,12),(7,0,13,12,12),(8,0,14,13,12),(9,0,15,14,12),(10,0,16,15,12),(11,0,17,16,12),(12,0,18,17,12),(13,0,19,18,12),(14,0,20,19,12),(15,0,21,20,12),(16,0,22,21,12),(17,0,23,22,12),(18,0,24,23,12),(19,0,25,24,12),(20,0,26,25,12),(21,0,27,26,12),(22,0,28,27,12),(23,0,29,28,12),(24,0,30,29,12),(25,0,31,30,12),(26,0,32,31,12)] [(32,26)] 27 [(4,28,11,X)] [(0,1,20,1000000000,0)] [([8,10,12,14,16,13,15,17,19,21,18,20,22,24,26,23,25,27,29,31,28],31,991300)] [(1,991300,X)] [(U,0,500,1)] [(32,(24,0,30,29,12)),(33,(26,0,32,31,12))] [(1,0,7,6,12),(2,0,8,7,12),(3,0,9,8,12),(4,0,10,9,12),(5,0,11,10,12),(6,0,12,11,12),(7,0,13,12,12),(8,0,14,13,12),(9,0,15,14,12),(10,0,16,15,12),(11,0,17,16,12),(12,0,18,17,12),(13,0,19,18,12),(14,0,20,19,12),(15,0,21,20,12),(16,0,22,21,12),(17,0,23,22,12),(18,0,24,23,12),(19,0,25,24,12),(20,0,26,25,12),(21,0,27,26,12),(22,0,28,27,12),(23,0,29,28,12),(24,0,30,29,12),(25,0,31,30,12),(26,0,32,31,12)]
def auQ:E8 6 (aKA,20)=ah (aK9,20):=AU
def aK8:QV:=bQ 38 U [(10,0,16,15,12),(11,0,17,16,12),(12,0,18,17,12),(13,0,19,18,12),(14,0,20,19,12),(15,0,21,20,12),(16,0,22,21,12),(17,0,23,22,12),(18,0,24,23,12),(19,0,25,24,12),(20,0,26,25,12),(21,0,27,26,12),(22,0,28,27,12),(23,0,29,28,12),(24,0,30,29,12),(25,0,31,30,12),(26,0,32,31,12),(27,0,32,37,12)] [(32,32)] 28 [(4,32,7,X)] [(0,1,20,1000000000,0)] [([15,17,19,21,18,20,22,24,26,23,25,27,29,31,28,30,32,32,32,32,32],37,1267300)] [(1,1267300,X)] [(U,0,500,1)] [(41,(27,0,32,37,12))] [(1,0,7,6,12),(2,0,8,7,12),(3,0,9,8,12),(4,0,10,9,12),(5,0,11,10,12),(6,0,12,11,12),(7,0,13,12,12),(8,0,14,13,12),(9,0,15,14,12),(10,0,16,15,12),(11,0,17,16,12),(12,0,18,17,12),(13,0,19,18,12),(14,0,20,19,12),(15,0,21,20,12),(16,0,22,21,12),(17,0,23,22,12),(18,0,24,23,12),(19,0,25,24,12),(20,0,26,25,12),(21,0,27,26,12),(22,0,28,27,12),(23,0,29,28,12),(24,0,30,29,12),(25,0,31,30,12),(26,0,32,31,12),(27,0,32,37,12)]
def auP:E8 6 (aK9,20)=ah (aK8,20):=AU
def aK7:QV:=bQ 44 U [(16,0,22,21,12),(17,0,23,22,12),(18,0,24,23,12),(19,0,25,24,12),(20,0,26,25,12),(21,0,27,26,12),(22,0,28,27,12),(23,0,29,28,12),(24,0,30,29,12),(25,0,31,30,12),(26,0,32,31,12),(27,0,32,37,12),(28,0,32,43,12)] [(32,38)] 29 [(4,32,9,X)] [(0,1,20,1000000000,0)] [([22,24,26,23,25,27,29,31,28,30,32,32,32,32,32,32,32,32,32,32,32],43,1543300)] [(1,1543300,X)] [(U,0,500,1)] [(44,(28,0,32,43,12))] [(1,0,7,6,12),(2,0,8,7,12),(3,0,9,8,12),(4,0,10,9,12),(5,0,11,10,12),(6,0,12,11,12),(7,0,13,12,12),(8,0,14,13,12),(9,0,15,14,12),(10,0,16,15,12),(11,0,17,16,12),(12,0,18,17,12),(13,0,19,18,12),(14,0,20,19,12),(15,0,21,20,12),(16,0,22,21,12),(17,0,23,22,12),(18,0,24,23,12),(19,0,25,24,12),(20,0,26,25,12),(21,0,27,26,12),(22,0,28,27,12),(23,0,29,28,12),(24,0,30,29,12),(25,0,31,30,12),(26,0,32,31,12),(27,0,32,37,12),(28,0,32,43,12)]
def auO:E8 6 (aK8,20)=ah (aK7,20):=AU
def aK6:QV:=bQ 50 U [(22,0,28,27,12),(23,0,29,28,12),(24,0,30,29,12),(25,0,31,30,12),(26,0,32,31,12),(27,0,32,37,12),(28,0,32,43,12),(29,0,32,49,12)] [(32,44)] 30 [(4,32,6,X)] [(0,1,20,1000000000,0)] [([29,31,28,30,32,32,32,32,32,32,32,32,32,32,32,32,32,32,32,32,32],49,1819300)] [(1,1819300,X)] [(U,0,500,1)] [(52,(29,0,32,49,12))] [(1,0,7,6,12),(2,0,8,7,12),(3,0,9,8,12),(4,0,10,9,12),(5,0,11,10,12),(6,0,12,11,12),(7,0,13,12,12),(8,0,14,13,12),(9,0,15,14,12),(10,0,16,15,12),(11,0,17,16,12),(12,0,18,17,12),(13,0,19,18,12),(14,0,20,19,12),(15,0,21,20,12),(16,0,22,21,12),(17,0,23,22,12),(18,0,24,23,12),(19,0,25,24,12),(20,0,26,25,12),(21,0,27,26,12),(22,0,28,27,12),(23,0,29,28,12),(24,0,30,29,12),(25,0,31,30,12),(26,0,32,31,12),(27,0,32,37,12),(28,0,32,43,12),(29,0,32,49,12)]
def auN:E8 6 (aK7,20)=ah (aK6,20):=AU
def aK5:QV:=bQ 56 U [(27,0,32,37,12),(28,0,32,43,12),(29,0,32,49,12),(30,0,32,55,12)] [(32,50)] 31 [(4,32,11,X)] [(0,1,20,1000000000,0)] [([32,32,32,32,32,32,32,32,32,32,32,32,32,32,32,32,32,32,32,32,32],55,2095300)] [(1,2095300,X)] [(U,0,500,1)] [] [(1,0,7,6,12),(2,0,8,7,12),(3,0,9,8,12),(4,0,10,9,12),(5,0,11,10,12),(6,0,12,11,12),(7,0,13,12,12),(8,0,14,13,12),(9,0,15,14,12),(10,0,16,15,12),(11,0,17,16,12),(12,0,18,17,12),(13,0,19,18,12),(14,0,20,19,12),(15,0,21,20,12),(16,0,22,21,12),(17,0,23,22,12),(18,0,24,23,12),(19,0,25,24,12),(20,0,26,25,12),(21,0,27,26,12),(22,0,28,27,12),(23,0,29,28,12),(24,0,30,29,12),(25,0,31,30,12),(26,0,32,31,12),(27,0,32,37,12),(28,0,32,43,12),(29,0,32,49,12),(30,0,32,55,12)]
def aum:E8 6 (aK6,20)=ah (aK5,20):=AU
def aBT:QV:=bQ 62 U [(28,0,32,43,12),(29,0,32,49,12),(30,0,32,55,12),(31,0,32,61,12)] [(32,56)] 32 [(4,32,5,X)] [(0,1,20,1000000000,0)] [([32,32,32,32,32,32,32,32,32,32,32,32,32,32,32,32,32,32,32,32,32],61,2371300)] [(1,2371300,X)] [(U,0,500,1)] [(63,(31,0,32,61,12))] [(1,0,7,6,12),(2,0,8,7,12),(3,0,9,8,12),(4,0,10,9,12),(5,0,11,10,12),(6,0,12,11,12),(7,0,13,12,12),(8,0,14,13,12),(9,0,15,14,12),(10,0,16,15,12),(11,0,17,16,12),(12,0,18,17,12),(13,0,19,18,12),(14,0,20,19,12),(15,0,21,20,12),(16,0,22,21,12),(17,0,23,22,12),(18,0,24,23,12),(19,0,25,24,12),(20,0,26,25,12),(21,0,27,26,12),(22,0,28,27,12),(23,0,29,28,12),(24,0,30,29,12),(25,0,31,30,12),(26,0,32,31,12),(27,0,32,37,12),(28,0,32,43,12),(29,0,32,49,12),(30,0,32,55,12),(31,0,32,61,12)]
def aul:E8 6 (aK5,20)=ah (aBT,20):=AU
def hqe:QV:=bQ 62 X [] [(32,56)] 32 [(4,32,5,X)] [(0,1,20,1000000000,0)] [([32,32,32,32,32,32,32,32,32,32,32,32,32,32,32,32,32,32,32,32,32],61,2371300)] [(1,2371300,X)] [(U,0,500,1)] [(63,(31,0,32,61,12))] [(1,0,7,6,12),(2,0,8,7,12),(3,0,9,8,12),(4,0,10,9,12),(5,0,11,10,12),(6,0,12,11,12),(7,0,13,12,12),(8,0,14,13,12),(9,0,15,14,12),(10,0,16,15,12),(11,0,17,16,12),(12,0,18,17,12),(13,0,19,18,12),(14,0,20,19,12),(15,0,21,20,12),(16,0,22,21,12),(17,0,23,22,12),(18,0,24,23,12),(19,0,25,24,12),(20,0,26,25,12),(21,0,27,26,12),(22,0,28,27,12),(23,0,29,28,12),(24,0,30,29,12),(25,0,31,30,12),(26,0,32,31,12),(27,0,32,37,12),(28,0,32,43,12),(29,0,32,49,12),(30,0,32,55,12),(31,0,32,61,12)]
def aJx:QV:=bQ 70 X [] [(32,56)] 32 [(4,32,5,X)] [(0,1,20,1000000000,0)] [([32,32,32,32,32,32,32,32,32,32,32,32,32,32,32,32,32,32,32,32,32],69,2739300)] [(1,2739300,X)] [(U,0,500,1)] [] [(1,0,7,6,12),(2,0,8,7,12),(3,0,9,8,12),(4,0,10,9,12),(5,0,11,10,12),(6,0,12,11,12),(7,0,13,12,12),(8,0,14,13,12),(9,0,15,14,12),(10,0,16,15,12),(11,0,17,16,12),(12,0,18,17,12),(13,0,19,18,12),(14,0,20,19,12),(15,0,21,20,12),(16,0,22,21,12),(17,0,23,22,12),(18,0,24,23,12),(19,0,25,24,12),(20,0,26,25,12),(21,0,27,26,12),(22,0,28,27,12),(23,0,29,28,12),(24,0,30,29,12),(25,0,31,30,12),(26,0,32,31,12),(27,0,32,37,12),(28,0,32,43,12),(29,0,32,49,12),(30,0,32,55,12),(31,0,32,61,12)]
def auk:E8 8 (hqe,0)=ah (aJx,20):=AU
def aJw:QV:=bQ 78 X [] [(32,56)] 32 [(4,0,0,X)] [(0,1,20,1000000000,0)] [([32,32,32,32,32,32,32,32,32,32,32,32,32,32,32,32,32,6,6,6,6],77,2978500)] [(1,2978500,X)] [(U,0,500,1)] [] [(1,0,7,6,12),(2,0,8,7,12),(3,0,9,8,12),(4,0,10,9,12),(5,0,11,10,12),(6,0,12,11,12),(7,0,13,12,12),(8,0,14,13,12),(9,0,15,14,12),(10,0,16,15,12),(11,0,17,16,12),(12,0,18,17,12),(13,0,19,18,12),(14,0,20,19,12),(15,0,21,20,12),(16,0,22,21,12),(17,0,23,22,12),(18,0,24,23,12),(19,0,25,24,12),(20,0,26,25,12),(21,0,27,26,12),(22,0,28,27,12),(23,0,29,28,12),(24,0,30,29,12),(25,0,31,30,12),(26,0,32,31,12),(27,0,32,37,12),(28,0,32,43,12),(29,0,32,49,12),(30,0,32,55,12),(31,0,32,61,12)]
def auj:E8 8 (aJx,20)=ah (aJw,6):=AU
def amK:QV:=bQ 86 X [] [(32,56)] 32 [(4,0,0,X)] [(0,1,20,1000000000,0)] [([32,32,32,32,32,32,32,32,32,6,6,6,6,6,6,6,6,6,6,6,6],85,3088900)] [(1,3088900,X)] [(U,0,500,1)] [] [(1,0,7,6,12),(2,0,8,7,12),(3,0,9,8,12),(4,0,10,9,12),(5,0,11,10,12),(6,0,12,11,12),(7,0,13,12,12),(8,0,14,13,12),(9,0,15,14,12),(10,0,16,15,12),(11,0,17,16,12),(12,0,18,17,12),(13,0,19,18,12),(14,0,20,19,12),(15,0,21,20,12),(16,0,22,21,12),(17,0,23,22,12),(18,0,24,23,12),(19,0,25,24,12),(20,0,26,25,12),(21,0,27,26,12),(22,0,28,27,12),(23,0,29,28,12),(24,0,30,29,12),(25,0,31,30,12),(26,0,32,31,12),(27,0,32,37,12),(28,0,32,43,12),(29,0,32,49,12),(30,0,32,55,12),(31,0,32,61,12)]
def aui:E8 8 (aJw,6)=ah (amK,6):=AU
def ep:JI Di 0 0 ([]:List<|List Int) 1019 (aq 1024 255) where
 eq:=rfl
 la:=by rw [Ov];rfl
 lo:=Ce
 bo:=cz _
 hw:=.inl rfl
 hg:=Aa
 old:=λh=>absurd h Aa
 bd:=λd hd=>VX
def ayE:RP (newP (bC 32) bO [] bG [] [0]) hqa:=by
 have e:DA (bC 32) bO [] bG [] [0]=0:=AU
 have e2:newP (bC 32) bO [] bG [] [0]={hqa.p with se:=512,fl:=Di}:=by
  unfold newP;rw [e]
  kernel_rfl
 rw [e2];exact ⟨rfl,rfl,rfl,1019,_,ep,rfl⟩
def Kw:EV:=⟨2,0,0,bA,bD⟩
def evF:EV:=⟨5,0,0,(0,0,0,0,0),(X,0,0,0)⟩
def apU {p:PK}{q:QV}(h:RP p q) (hv:E6 q.p=U) (he:q.p.G4 0 bA bD=0):BR p Kw=0/\D4 p Kw=[]/\RP (BS p Kw) {q with p:=q.p.O1 0 bA bD}:=by
 have e1:BR p Kw=0:=by
  have:q.p.G4 0 bA bD=p.G4 0 bA bD:=by rw [h.1];rfl
  unfold BR;rw [<-pj h,hv,AE Aa,AE Aa,AD (show Kw.ek=2 from rfl)];exact this.symm.trans he
 refine ⟨e1,aO4,?_⟩
 have e2:BS p Kw=p.O1 0 bA bD:=yK
 rw [e2];exact ⟨aNW,h.2⟩
def arV {p:PK}{q:QV}(h:RP p q) (hv:E6 q.p=U) (he:q.p.up=U):BR p evF=0/\RP (BS p evF) {q with p:=q.p.PH}:=by
 have e1:BR p evF=0:=by
  have:q.p.up=p.up:=by rw [h.1]
  unfold BR;rw [<-pj h,hv,AE Aa,AE Aa,AE Aa,AE Aa,AE Aa,AD (show evF.ek=5 from rfl)];unfold PK.Mh;rw [<-this,he];rfl
 refine ⟨e1,?_⟩
 have e2:BS p evF=p.PH:=yK
 rw [e2];exact ⟨aNW,h.2⟩
def akY:∃p1 p3 p4 p6,Cw 1 (newP (bC 32) bO [] bG [] [0]) 0=(p1,0,U)/\p1.tk=1/\BR p1 Kw=0/\D4 p1 Kw=[]/\Cw 1 (BS p1 Kw) 0=(p3,6,U)/\
  Cw 60 p3 0=(p4,20,U)/\BR p4 evF=0/\Cw 24 (BS p4 evF) 0=(p6,6,U):=by
 obtain ⟨p1,a1,a2⟩:=oL ayE ahx;obtain ⟨a3,a4,a5⟩:=apU a2 AU AU
 have hc:({hqb with p:=hqb.p.O1 0 bA bD}:QV)=hqc:=AU
 simp only [hc] at a5;obtain ⟨p3,b1,b2⟩:=oL a5 ahw
 have t60:=MU (MU (MU (MU (MU (MU (MU (MU (MU auU auT) auS) auR) auQ) auP) auO) auN) aum) aul
 obtain ⟨p4,c1,c2⟩:=oL b2 t60;obtain ⟨c3,c4⟩:=arV c2 AU AU
 have he:({aBT with p:=aBT.p.PH}:QV)=hqe:=AU
 simp only [he] at c4
 have t24:=MU (MU auk auj) aui
 obtain ⟨p6,d1,d2⟩:=oL c4 t24;exact ⟨p1,p3,p4,p6,a1,by have:=a2.1;have h:hqb.p.tk=1:=rfl;rw [this] at h;exact h,a3,a4,b1,c1,c3,d1⟩
def zm:DA (bC 32) bO [] bG [] [0]=0/\DA (bC 5) bO [] bG [] [0]=13:=⟨AU,AU⟩
def ti {l:List Le}{t:Int}(h:BC l=U):BC (BW l t)=true:=by
 unfold BW;split
 ·exact oW h List.filter_sublist
 ·rfl
def avW {t:Int}{s:SN}{x:Le}(h:VK s.se s.fl/\BC s.ls=U):VK (FK t s x).se (FK t s x).fl/\BC (FK t s x).ls=true:=by
 unfold FK;split
 ·rename_i hc
  refine ⟨(h.1.st hc.2).2,?_⟩
  have:=(tq (x:=x) h.2).1
  unfold grS at this;rw [AD hc.1] at this;exact this
 ·exact h
def aON {t:Int}{xs:List Le}{s:SN}(h:VK s.se s.fl/\BC s.ls=U):∀n,VK (FM t xs s n).se (FM t xs s n).fl/\BC (FM t xs s n).ls=U
 |0=>h
 |n+1=>avW<|aON h n
theorem alo {p:PK}(h:VK p.se p.fl/\BC p.ls=U):VK p.AM.se p.AM.fl/\BC p.AM.ls=true:=by
 have hx:BC (Dt p.ls p.tk)=true:=by
  unfold Dt;split
  ·exact ti h.2
  ·exact h.2
 unfold PK.AM;split
 ·exact h
 ·split
  ·grind
  ·exact aON (s:=p.Gt) ⟨h.1,hx⟩ _
def JP.step {p:PK}(h:JP p) {e:EV}(he:BR p e=0):JP (BS p e):=by
 obtain ⟨⟨hV,hR⟩,hk⟩:=h;refine ⟨⟨hV.step he,hR.step hV he⟩,?_⟩;unfold BS;rw [AE A0];unfold BR at he;rw [AE (by rw [Vp.2 hV];decide)] at he
 split
 ·exact alo hk
 rename_i h1;rw [AE h1] at he;split
 ·exact hk
 rename_i h2;rw [AE h2] at he;split
 ·exact hk
 rename_i h3;rw [AE h3] at he;split
 ·exact hk
 rename_i h4;rw [AE h4] at he;split
 ·exact ⟨hk.1,rfl⟩
 rename_i h5;rw [AE h5] at he;split
 ·rename_i h6
  rw [AD h6] at he;refine ⟨hk.1,?_⟩;unfold PK.FY at he;split at he
  ·cases he
  split at he
  ·rename_i g1 g2;exact absurd he g2
  ·rename_i g1 g2
   exact ti<|zY<|jx λg=>g2 g
 rename_i h6;rw [AE h6] at he;split
 ·exact hk
 ·exact hk
def JP.Ew {p:PK}(h:JP p):∀(n:Nat) (l:Int),JP (Cw n p l).1
 |0,_=>h
 | n+1,l=>by
  unfold Cw;split
  ·rename_i hc
   exact (h.step hc.1).Ew n _
  ·exact h
theorem qu {cs:List Cd}{os:List ByteArray}{ks:List Ko}{gs:List Ch}{bs:List Ba}{dr:List Int}(h:DA cs os ks gs bs dr=0):JP (newP cs os ks gs bs dr):=by
 have hn:=aQt h
 have hp:newP cs os ks gs bs dr=_:=AE A8
 refine ⟨hn,⟨hn.2.fl,?_⟩,?_⟩
 ·rw [hp]
  exact ⟨[],0,rfl,rfl,⟨0,1019,_,ep⟩,De _⟩
 ·rw [hp]
  rfl
def dC {tg:List Int}{cs:List Cd}:∀n,n<=M cs->∀j:Nat,Ag (ET cs tg n) j=if j<n then IS (Ag cs j) (gi tg j) else Ag cs j
 |0,_,j=>by rw [AE A0];rfl
 | n+1,hn,j=>by
  have h1:=dC (tg:=tg) (cs:=cs) n A0
  unfold ET;rw [qW (by rw [Oj];omega)]
  by_cases e:j=n
  ·subst e
   rw [AD rfl,AD A0,h1 j,AE A0]
  ·rw [AE e,h1 j]
   by_cases c:j<n
   ·rw [AD c,AD A0]
   ·rw [AE c,AE A0]
def aHR {a b:List Cd}(h:M a=M b) (hg:∀j:Nat,j<M a->Ag a j=Ag b j):a=b:=
 ZU h λi h1 h2=>by
  have:=hg i h1
  rwa [QR h1,QR h2] at this
def aV (cs X:List Cd):Prop:=M X=M cs/\∀j:Nat,∃u,Ag X j=IS (Ag cs j) u
def aV.ask {cs X:List Cd}(h:aV cs X) {tg:List Int}(ht:M tg=M cs):ET X tg (M tg)=ET cs tg (M tg):=
 aHR (by rw [Oj,Oj,h.1]) λj hj=>by
  rw [Oj,h.1] at hj;obtain ⟨u,e⟩:=h.2 j;rw [dC _ (by rw [h.1];omega),dC _ A0,AD A0,AD A0,e]
  rfl
def apu {gs:List Ch}{tg am:List Int}{cs:List Cd}{n:Nat}(hn:n<=M cs):aV cs (EY gs tg am cs n):=
 ⟨T5 n,λj=>by
  rcases (pZ (gs:=gs) (tg:=tg) (am:=am) n hn j).1 with e|⟨_,_,e⟩
  ·exact ⟨_,e⟩
  ·exact ⟨_,e⟩⟩
def aoa {p:PK}(hv:VP p) {e:EV}(he:BR p e=0):letI a:=BS p e;(p.tk<1000000/\BS p e=p.CZ)\/BS p e=p.PH\/(p.FY=0/\BS p e=p.Tm)\/(p.Hs e.en e.em=0/\BS p e=p.La e.en e.em)\/BS p e={p with st:=a.st,ca:=a.ca,mi:=a.mi,dm:=a.dm,lk:=a.lk}:=by
 have hw:=he
 unfold BR at he;rw [AE yH] at he;unfold BS;rw [AE A0];split
 ·rename_i h1
  rw [AD h1] at he
  have:=hv.tk
  unfold PK.IH at he;split at he
  ·cases he
  ·exact .inl ⟨A0,rfl⟩
 rename_i h1;rw [AE h1] at he;split
 ·exact kr
 rename_i h2;rw [AE h2] at he;split
 ·exact kr
 rename_i h3;rw [AE h3] at he;split
 ·exact kr
 rename_i h4;rw [AE h4] at he;split
 ·exact .inr<|.inl rfl
 rename_i h5;rw [AE h5] at he;split
 ·rename_i h6
  rw [AD h6] at he;exact .inr<|.inr<|.inl ⟨he,rfl⟩
 rename_i h6;rw [AE h6] at he;split
 ·exact kr
 rename_i h7;rw [AE h7] at he;split at he
 ·exact .inr<|.inr<|.inr<|.inl ⟨he,rfl⟩
 ·cases he
def TL (gl:Nat) (t:Int) (x:Le):Prop:=x.2.2.2.1<t/\x.2.2.2.2=12/\0<=x.2.1/\x.2.1<(gl:Int)
def TL.le {gl:Nat}{t t':Int}{x:Le}(h:TL gl t x) (ht:t<=t'):TL gl t' x:=⟨by have:=h.1;omega,h.2⟩
structure SG (T:Le->Prop) (b:Int) (s:SN):Prop where
 nx:1<=s.nx/\s.nx<=b
 ls:BC s.ls=U/\∀x∈s.ls,T x
 vl:∃vl g,VI s.se s.fl vl g/\∀x∈vl,x.1<s.nx/\T x
def SG.le {T T':Le->Prop}{b b':Int}{s:SN}(h:SG T b s) (hb:b<=b') (hT:∀x,T x->T' x):SG T' b' s:=by
 obtain ⟨vl,g,h1,h2⟩:=h.vl;exact ⟨⟨h.nx.1,by have:=h.nx.2;omega⟩,⟨h.ls.1,λx hx=>hT x<|h.ls.2 x hx⟩,vl,g,h1,λx hx=>⟨(h2 x hx).1,hT x (h2 x hx).2⟩⟩
def SG.snd {T:Le->Prop}{b t:Int}{s:SN}(h:SG T b s) {x:Le}(hx:T x) (hn:1<=x.1+1/\x.1+1<=b):SG T b (FK t s x):=by
 unfold FK;split
 ·rename_i hc
  obtain ⟨vl,g,h1,h2⟩:=h.vl;obtain ⟨vl',g',q1,q2,q3,q4⟩:=uv h1 hc.2
  have e:Gk s.ls x=s.ls++[x]:=aNi
  refine ⟨hn,?_,vl',g',q1,λy hy=>?_⟩
  ·have:=(tq (x:=x) h.ls.1).1
   unfold grS at this;rw [AD hc.1] at this;refine ⟨this,λy hy=>?_⟩
   simp only [e,Be,HY] at hy;rcases hy with hy|rfl
   ·exact h.ls.2 y hy
   ·exact hx
  ·have hy:y∈vl++[x]:=by
    exact aLo
   rw [Be,HY] at hy;rcases hy with hy|rfl
   ·have:=(List.pairwise_append.1 (qG.1 q3).2.2).2.2 y hy x AI
    exact ⟨by show y.1<x.1+1;have:=this.1;omega,(h2 y hy).2⟩
   ·exact ⟨by show y.1<y.1+1;omega,hx⟩
 ·exact h
def SG.FM {T:Le->Prop}{b t:Int}{s:SN}{xs:List Le}(h:SG T b s) (hx:∀k:Nat,k<M xs->T (An xs k)/\1<=(An xs k).1+1/\(An xs k).1+1<=b):∀n,n<=M xs->SG T b (FM t xs s n)
 |0,_=>h
 |n+1,hn=>by
  obtain ⟨h1,h2⟩:=hx n A0;exact (h.FM hx n A0).snd h1 h2
variable {p : PK}
def PK.snp (p:PK):SN:=⟨p.ls,p.se,p.fl,p.nx,p.lk⟩
structure TG (p:PK):Prop where
 kt:HI p.Fy p.gs (Bv p.gs)=U
 sg:SG (TL (M p.gs) p.tk) (16*p.tk+1) p.snp
def acF (h:p.dE=0):Vd p.Fy p.os p.ks p.gs p.bs (Dt p.ls p.tk) p.ra p.dm p.tk p.nx/\NwL p.gs (JE p.gs p.ra (M7 p.Fy p.os p.ks p.gs p.bs (Dt p.ls p.tk) p.dm p.tk)<|M p.gs) p.tk p.nx p.dL/\M p.dL<=M p.gs:=by
 unfold PK.dE deE at h;split at h
 ·rename_i hv
  have e:p.dL=Gx p.gs (Dt p.ls p.tk) p.tk p.nx (JE p.gs p.ra (M7 p.Fy p.os p.ks p.gs p.bs (Dt p.ls p.tk) p.dm p.tk)<|M p.gs) (M p.gs):=AD hv
  exact ⟨aaL hv,by rw [e];exact (fY<|Ar _).1,ue⟩
 ·cases h
def aR0 (hJ:JP p):Dt p.ls p.tk=p.ls.filter (LZ p.tk):=by
 have ht:=hJ.1.1.tk
 have h:Ka p.ls p.tk=true:=by unfold Ka;rw [hJ.2.2,BV.2 A0];rfl
 unfold Dt D9 BW;rw [AD h,AD rfl,AD h]
def TG.dec (h:TG p) (hJ:JP p):SG (TL (aa p.gs)<|p.tk+1) (16*(p.tk+1)+1) p.AM.snp:=by
 have h0:=h.sg.le (T':=TL (aa p.gs)<|p.tk+1) (b':=16*(p.tk+1)+1) A0 λx hx=>hx.le A0
 have hx:SG (TL (aa p.gs)<|p.tk+1) (16*(p.tk+1)+1) p.Gt:=by
  refine ⟨h0.nx,?_,h0.vl⟩
  show BC (Dt p.ls p.tk)=U/\∀x∈Dt p.ls p.tk,_
  rw [aR0 hJ];exact ⟨oW hJ.2.2 List.filter_sublist,λx hx=>h0.ls.2 x (DE.1 hx).1⟩
 unfold PK.AM;split
 ·exact h0
 split
 ·exact ⟨h0.nx,hx.ls,h0.vl⟩
 ·rename_i hd
  obtain ⟨V,M,hl⟩:=acF<|ZS.1 hd
  have hg:=V.gl
  have hn:=h.sg.nx
  refine (hx.FM (t:=p.tk) (xs:=p.dL) (λk hk=>?_) _<|Ar _)
  obtain ⟨q1,q2,_⟩:=M.at_ k A0 A0;rw [q1]
  have hn:1<=p.nx/\p.nx<=16*p.tk+1:=hn
  exact ⟨⟨by show p.tk<p.tk+1;omega,rfl,q2⟩,by show 1<=p.nx+k+1;omega,by show p.nx+(k:Int)+1<=_;omega⟩
def apJ (hv:VP p):aV p.cs p.CZ.cs:=by
 show aV p.cs (if p.B8.DY.up=X then p.B8.DY.cs else EY p.B8.DY.gs p.B8.DY.tg p.B8.DY.rsA p.B8.DY.cs (M p.B8.DY.tg))
 have e:p.B8.DY.cs=p.cs:=(NL p).1
 have e2:p.B8.DY.tg=p.tg:=(NL p).2.2.2.2.2.2.2.2.2.2.2.2.2
 rw [e,e2];split
 ·exact ⟨rfl,λj=>⟨_,rfl⟩⟩
 ·exact apu (by rw [hv.Gs];exact Ar _)
def TG.tick (h:TG p) (hJ:JP p):TG p.CZ:=by
 obtain ⟨e1,e2,e3,e4,e5,e6,e7,e8,e9,e10,e11,e12,e13,e14⟩:=NL p
 have hd:=h.dec hJ
 have eg:p.CZ.gs=p.gs:=e4
 have et:p.CZ.tk=p.tk+1:=B0 (·+1) e6
 have eT:p.CZ.tg=p.tg:=e14
 refine ⟨?_,?_⟩
 ·have:p.CZ.Fy=p.Fy:=by
   show ET p.CZ.cs p.CZ.tg (M p.CZ.tg)=_
   rw [eT];exact (apJ hJ.1.1).ask hJ.1.1.Gs
  rw [this,eg];exact h.kt
 ·rw [eg,et]
  exact ⟨hd.nx,hd.ls,hd.vl⟩
def TG.step (h:TG p) (hJ:JP p) {e:EV}(he:BR p e=0):TG (BS p e):=by
 have hv:=hJ.1.1
 rcases aoa hv he with ⟨_,c⟩ |c|⟨c0,c⟩ |⟨c0,c⟩ |c
 ·rw [c];exact h.tick hJ
 ·rw [c];exact ⟨h.kt,h.sg.nx,⟨rfl,λx hx=>Q2⟩,h.sg.vl⟩
 ·rw [c]
  obtain ⟨vl,g,h1,h2⟩:=h.sg.vl;obtain ⟨l1,l2⟩:=h1.ld
  have l1:CL p.se p.fl=0:=l1
  have l2:Af p.se p.fl=vl:=l2
  have hn:=h.sg.nx
  have hn:1<=p.nx/\p.nx<=16*p.tk+1:=hn
  have hnw:IT p.se p.fl=0:=by
   unfold PK.FY at c0;split at c0
   ·cases c0
   ·rw [l1,l2] at c0
    split at c0
    ·rename_i q;exact absurd rfl q
    split at c0
    ·rename_i q;exact absurd c0 q
    ·exact c0
  have hA:1<=JM p.se p.fl/\JM p.se p.fl<=p.nx/\∀x∈vl,x.1<JM p.se p.fl:=by
   unfold IT at hnw;unfold JM;rw [l1,l2] at hnw|-;simp only [ne_eq,not_true_eq_false,F9] at hnw|-;split
   ·rename_i q
    rw [aKR q];exact ⟨A0,hn.1,λx hx=>Q2⟩
   ·rename_i q
    rw [AE q] at hnw;split
    ·rename_i q2;rw [AD q2] at hnw;cases hnw
    ·have hm:An vl ((M vl:Int)-1)∈vl:=MR A0 A0
     have b1:=(LD.1<|(GS h1.lv).2 _ hm).1.1
     have b2:(An vl<|(M vl:Int)-1).1<p.nx:=(h2 _ hm).1
     refine ⟨A0,A0,λx hx=>?_⟩
     rw [aCL (l:=vl) A0,Be,HY] at hx;rcases hx with hx|rfl
     ·have:=h1.lv
      rw [aCL (l:=vl) A0] at this
      have:=(List.pairwise_append.1 (qG.1 this).2.2).2.2 x hx _<|HY.2 rfl
      have:=this.1
      omega
     ·omega
  refine ⟨h.kt,⟨hA.1,by show JM p.se p.fl<=16*p.tk+1;omega⟩,?_,vl,g,h1,λx hx=>⟨hA.2.2 x hx,(h2 x hx).2⟩⟩
  show BC (BW (Af p.se p.fl) p.tk)=U/\∀x∈BW (Af p.se p.fl) p.tk,_
  rw [l2];refine ⟨ti h1.lv,λx hx=>?_⟩
  unfold BW at hx;split at hx
  ·exact (h2 x (DE.1 hx).1).2
  ·cases hx
 ·rw [c]
  refine ⟨?_,h.sg⟩;unfold PK.Hs at c0;split at c0
  ·cases c0
  split at c0
  ·cases c0
  ·rename_i c1
   exact (Pv _).mp c1
 ·rw [c];exact ⟨h.kt,h.sg.nx,h.sg.ls,h.sg.vl⟩
def aQu {cs:List Cd}{os:List ByteArray}{ks:List Ko}{gs:List Ch}{bs:List Ba}{dr:List Int}(h:DA cs os ks gs bs dr=0):TG (newP cs os ks gs bs dr):=by
 have hJ:=qu h
 have hp:newP cs os ks gs bs dr=_:=AE (by rw [h];decide)
 rw [hp] at hJ|-;refine ⟨?_,⟨(by decide:(1:Int)<=1),(by decide:(1:Int)<=16*0+1)⟩,⟨rfl,λx hx=>Q2⟩,[],0,⟨rfl,rfl,⟨0,1019,_,ep⟩,De _⟩,λx hx=>Q2⟩
 have e:ET cs (cs.map λc=>c.2.2.1) (M<|cs.map λc=>c.2.2.1)=cs:=aHR (Oj _) λj hj=>by
  rw [Oj] at hj;rw [dC _ AI,AD lQ,QR hj]
  have:gi (cs.map λc=>c.2.2.1) (j:Int)=cs[j].2.2.1:=by rw [IF lQ];simp
  rw [this];rfl
 show HI (ET cs (cs.map λc=>c.2.2.1)<|M<|cs.map λc=>c.2.2.1) gs (Bv gs)=U
 rw [e];unfold DA at h;split at h
 ·cases h
 split at h
 ·cases h
 split at h
 ·cases h
 ·rename_i c
  exact (Pv _).mp c
end Go.Proofs.YtipodhghjclmbaaGreatDoor
namespace Go.Proofs.YtipodhghjclmbaaGreatDoor
set_option maxRecDepth 100000
set_option maxHeartbeats 4000000
open Go.Proofs.Tryz
open Go.Sx
def akf {c:Ch}{s:St}{k n m:Int}(h:sV c s=U) (hl:0<(EL c s k n m).2.2.1):
  (k=7/\(EL c s k n m).2.1=n/\(EL c s k n m).2.2.1=m)\/(0<s.2.2.1/\(EL c s k n m).2.1=s.2.1/\(EL c s k n m).2.2.1<=s.2.2.1-(if k=8 then 1 else 0)):=by
 have hv:=Nb.1 h
 by_cases he:sE c s k n m=0
 ·have e:EL c s k n m=(Hy s.1 s.2.2.2 k n,sA s.2.1 s.2.2.1 k n,sL s.2.2.1 k m,sW s.2.2.2 k n):=by unfold EL sN;rw [AD he,AD he]
  rw [e] at hl|-;simp only [sL,sA] at hl|-
  by_cases h7:k=7
  ·rw [AD h7,AD h7]
   exact .inl ⟨h7,rfl,rfl⟩
  ·right
   rw [AE h7] at hl;rw [AE h7,AE h7]
   by_cases h8:k=8
   ·rw [AD h8] at hl
    rw [AD h8,AD h8,AD h8]
    have ht:M3 s.2.2.1<=s.2.2.1-1:=by
     unfold M3 at hl|-;split
     ·exact De _
     ·rename_i q;rw [AE q] at hl;omega
    rw [AE A0];exact ⟨A0,rfl,ht⟩
   ·rw [AE h8] at hl
    rw [AE h8,AE h8,AE h8]
    by_cases h9:k=9
    ·rw [AD h9] at hl;omega
    ·rw [AE h9] at hl
     rw [AE h9,AE h9];exact ⟨hl,rfl,A0⟩
 ·have e:EL c s k n m=s:=AE he
  rw [e] at hl|-;refine .inr ⟨hl,rfl,?_⟩
  by_cases h8:k=8
  ·exfalso
   subst h8;refine he ?_;unfold sE;rw [AD h,AD Aa,AD<|by simp [evV]]
   have:Hy s.1 s.2.2.2 8 n=s.1:=by simp [Hy]
   rw [this,AE A0]
  ·rw [AE h8];omega
def F5 (gs:List Ch) (W:Int->Int->Int->Prop) (j:Int) (s:St):Prop:=sV (AG gs j) s=U/\(0<s.2.2.1->W j s.2.1 s.2.2.1)
def F5.gv {gs:List Ch}{W W':Int->Int->Int->Prop}{j k n m:Int}{s:St}(h:F5 gs W j s) (hw:∀a l l',W j a l->l'<=l-(if k=8 then 1 else 0)->W' j a l') (hm:k=7->W' j n m):F5 gs W' j (EL (AG gs j) s k n m):=by
 refine ⟨uY h.1,λhl=>?_⟩
 rcases akf h.1 hl with ⟨e,e1,e2⟩ |⟨e,e1,e2⟩
 ·rw [e1,e2];exact hm e
 ·rw [e1];exact hw _ _ _ (h.2 e) e2
def F5.le {gs:List Ch}{W W':Int->Int->Int->Prop}{j:Int}{s:St}(h:F5 gs W j s) (hw:∀a l,0<l->W j a l->W' j a l):F5 gs W' j s:=⟨h.1,λhl=>hw _ _ hl<|h.2 hl⟩
def WL (vl:List Le) (f:Int->Int->Int) (b:Int->Int) (j a l:Int):Prop:=∃x∈vl,x.2.1=j/\x.2.2.1=a/\l+b j<=12+f j (x.2.2.2.1+4)
def WL.le {vl:List Le}{f:Int->Int->Int}{b:Int->Int}{j a l l':Int}(h:WL vl f b j a l) (hl:l'<=l):WL vl f b j a l':=by
 obtain ⟨x,h1,h2,h3,h4⟩:=h;exact ⟨x,h1,h2,h3,A0⟩
def aa1 {gs:List Ch}{vl:List Le}{f:Int->Int->Int}{b:Int->Int}{st:List St}(h:CT gs (F5 gs<|WL vl f b) st) {i:Int}(h0:0<=i) (h1:i<(M gs:Int)):∀k:Nat,CT gs (F5 gs<|WL vl f (λj=>if j=i then b j+k else b j)) (Lj gs st i k)
 |0=>⟨h.1,λj j0 j1=>(h.2 j j0 j1).le λa l _ ⟨x,q1,q2,q3,q4⟩=>⟨x,q1,q2,q3,by (try simp only []);split<;>omega⟩⟩
 | k+1=>by
  have ih:=aa1 h h0 h1 k
  unfold Lj;refine ⟨Ir.trans ih.1,λj j0 j1=>?_⟩
  rw [uZ h0 (by rw [ih.1];exact h1) j0]
  have hj:=ih.2 j j0 j1
  split
  ·rename_i e
   subst e;refine hj.gv (λa l l' ⟨x,q1,q2,q3,q4⟩ hl=>⟨x,q1,q2,q3,?_⟩) λe=>Q3
   have q4:l+(if j=j then b j+(k:Int) else b j)<=_:=q4
   rw [AD rfl] at q4 hl
   show l'+(if j=j then b j+((k+1:Nat):Int) else b j)<=_
   rw [AD rfl];omega
  ·rename_i e
   refine hj.le λa l _ ⟨x,q1,q2,q3,q4⟩=>⟨x,q1,q2,q3,?_⟩
   have q4:l+(if j=i then b j+(k:Int) else b j)<=_:=q4
   rw [AE e] at q4
   show l+(if j=i then b j+((k+1:Nat):Int) else b j)<=_
   rw [AE e];exact q4
def acG {gs:List Ch}{vl:List Le}{f:Int->Int->Int}{st:List St}{dr:List Int}{t:Int}(h:CT gs (F5 gs<|WL vl f λj=>BA t<|gi dr j) st) (hd:∀j:Int,0<=j->j<(M dr:Int)->-200<=gi dr j/\gi dr j<=200) (hl:M dr=M gs) (ht:0<=t/\t<1000000):
  ∀n:Nat,n<=M dr->CT gs (F5 gs<|WL vl f (λj=>if j<n then BA (t+1) (gi dr j) else BA t (gi dr j))) (Lb gs dr t st n)
 | 0,_=>⟨h.1,λj j0 j1=>by
   refine (h.2 j j0 j1).le λa l _ ⟨x,q1,q2,q3,q4⟩=>⟨x,q1,q2,q3,?_⟩
   show l+(if j<((0:Nat):Int) then BA (t+1) (gi dr j) else BA t (gi dr j))<=_
   rw [AE A0];exact q4⟩
 | n+1,hn=>by
  have ih:=acG h hd hl ht n A0
  have hdn:=hd (n:Int) A0 A0
  have hs:HC t (gi dr n)=0/\HC (t+1) (gi dr n)=0:=by
   exact aM5
  have ho:=nh (t:=t) (t':=t+1) hdn ht.1 A0 A0
  unfold Lb;rw [AD hs]
  have:=aa1 ih (i:=(n:Int)) A0 A0 (BA (t+1) (gi dr n)-BA t (gi dr n)).toNat
  refine ⟨this.1,λj j0 j1=>(this.2 j j0 j1).le λa l _ ⟨x,q1,q2,q3,q4⟩=>⟨x,q1,q2,q3,?_⟩⟩
  have q4:l+(if j=(n:Int) then (if j<(n:Int) then BA (t+1) (gi dr j) else BA t (gi dr j))+(((BA (t+1) (gi dr n)-BA t (gi dr n)).toNat:Nat):Int) else (if j<(n:Int) then BA (t+1) (gi dr j) else BA t (gi dr j)))<=_:=q4
  show l+(if j<((n+1:Nat):Int) then BA (t+1) (gi dr j) else BA t (gi dr j))<=_
  by_cases ej:j=n
  ·subst ej
   rw [AD rfl,AE A0] at q4;rw [AD A0];omega
  ·rw [AE ej] at q4
   by_cases hj:j<(n:Int)
   ·rw [AD hj] at q4;rw [AD A0];exact q4
   ·rw [AE hj] at q4;rw [AE A0];exact q4
def ay8 {d t t':Int}(hd:-200<=d/\d<=200) (h0:0<=t) (h1:t+13<=t') (h2:t'<=1000000):BA t' d-BA t d>=12:=by
 unfold BA;rw [AD VN,AD VN]
 have:(t+13)*(1000000+d)<=t'*(1000000+d):=MD A0 A0
 have e:(t+13)*(1000000+d)=t*(1000000+d)+13*(1000000+d):=kW _ _ _
 omega
def aR6 {x:Le}(h:x.2.2.2.2=12):DB x=x.2.2.2.1+23:=by
 unfold DB;rw [h,show wt 12=13 by decide];omega
def WJ (vl:List Le) (dr:List Int) (t:Int):Int->Int->Int->Prop:=WL vl (λj u=>BA u<|gi dr j) λj=>BA t<|gi dr j
def aFx {vl:List Le}{dr:List Int}{t j a l:Int}(h:WJ vl dr t j a l) (hl:0<l) (hd:-200<=gi dr j/\gi dr j<=200) (ht:t<=1000000) (hv:∀x∈vl,0<=x.2.2.2.1):
  ∃x∈vl,x.2.1=j/\x.2.2.1=a/\l+BA t (gi dr j)<=12+BA (x.2.2.2.1+4) (gi dr j)/\t<=x.2.2.2.1+16:=by
 obtain ⟨x,h1,h2,h3,h4⟩:=h
 have h4:l+BA t (gi dr j)<=12+BA (x.2.2.2.1+4) (gi dr j):=h4
 refine ⟨x,h1,h2,h3,h4,xH.1 λc=>?_⟩
 have:=ay8 (t:=x.2.2.2.1+4) (t':=t) hd (by have:=hv x h1;omega) A0 ht
 omega
def F5.vl {gs:List Ch}{dr:List Int}{t j:Int}{vl vl':List Le}{s:St}(h:F5 gs (WJ vl dr t) j s) (hd:-200<=gi dr j/\gi dr j<=200) (ht:t<=1000) (hT:∀x∈vl,0<=x.2.2.2.1/\DB x=x.2.2.2.1+23) (hk:∀y∈vl,DB y>t->y∈vl'):F5 gs (WJ vl' dr t) j s:=
 h.le λa l hl hw=>by
  obtain ⟨x,h1,h2,h3,h4,h5⟩:=aFx hw hl hd A0 λx hx=>(hT x hx).1
  exact ⟨x,hk x h1 (by have:=(hT x h1).2;omega),h2,h3,h4⟩
def as4 {l:List Le}{x y:Le}{t:Int}(hv:BC l=U) (ht:0<=t/\t<=1000) (hy:y∈l) (he:DB y>t):y∈Kt l x t:=by
 unfold Kt BW;rw [AD (by unfold Ka;rw [hv,BV.2 A0];rfl)]
 exact Be.2<|.inl<|DE.2 ⟨hy,Cm he⟩
def as5 {l:List Le}{x:Le}{t:Int}:x∈Kt l x t:=by unfold Kt;simp
def SK (t:Int) (k0:List Lk) (v0 xs:List Le) (s:SN):Prop:=
 ∃vl g,VI s.se s.fl vl g/\((∀y∈v0,DB y>t->y∈vl)/\∀y∈vl,y∈v0\/y∈xs)/\(∀y∈vl,DB y>t->y∈s.ls)/\(∀y∈s.ls,DB y>t->y∈vl)/\∀l∈s.lk,l∈k0\/(l.2∈vl/\DB l.2>t/\t<=l.1/\l.1<=l.2.2.2.2.1+4)
def SK.snd {t:Int}{k0:List Lk}{v0 xs:List Le}{s:SN}(h:SK t k0 v0 xs s) (ht:0<=t/\t<=1000) {x:Le}(hm:x∈xs) (hf:x.2.2.2.1=t) (hx:x.2.2.2.2=12) (h0:0<=x.2.1):SK t k0 v0 xs (FK t s x):=by
 unfold FK;split
 ·rename_i hc
  obtain ⟨vl,g,h1,⟨h2,h6⟩,h3,h4,h5⟩:=h;obtain ⟨vl',g',q1,q2,q3,q4⟩:=uv h1 hc.2
  have e:Gk s.ls x=s.ls++[x]:=aNi
  have hex:DB x>t:=by rw [aR6 hx,hf];omega
  have old:∀y∈vl,DB y>t->y∈vl':=λy hy he=>by
   rcases q2 with e2|e2<;>rw [e2]
   ·exact Be.2<|.inl hy
   ·exact as4 h1.lv ht hy he
  have new:x∈vl':=by
   rcases q2 with e2|e2<;>rw [e2]
   ·simp
   ·exact as5
  have sub:∀y∈vl',y∈vl\/y=x:=λy hy=>by
   have:y∈vl++[x]:=by
    exact aLo
   simpa using this
  refine ⟨vl',g',q1,⟨λy hy he=>old y (h2 y hy he) he,λy hy=>?_⟩,λy hy he=>?_,λy hy he=>?_,λl hl=>?_⟩
  ·rcases sub y hy with c|rfl
   ·exact h6 y c
   ·exact .inr hm
  ·show y∈Gk s.ls x
   rw [e];rcases sub y hy with c|rfl
   ·exact Be.2<|.inl<|h3 y c he
   ·simp
  ·have hy:y∈Gk s.ls x:=hy
   rw [e] at hy;rcases Be.1 hy with c|c
   ·exact old y (h4 y c he) he
   ·rw [HY.1 c];exact new
  ·have hl:l∈s.lk++[Ta t x]:=hl
   rcases Be.1 hl with c|c
   ·rcases h5 l c with q|⟨a1,a2,a3,a4⟩
    ·exact .inl q
    ·exact .inr ⟨old _ a1 a2,a2,a3,a4⟩
   ·rw [HY.1 c]
    have hm:0<=(7*t+3*x.2.1).tmod 5/\(7*t+3*x.2.1).tmod 5<=4:=by rw [xL A0];omega
    exact .inr ⟨new,hex,by show t<=t+(7*t+3*x.2.1).tmod 5;omega,by show t+(7*t+3*x.2.1).tmod 5<=x.2.2.2.1+4;omega⟩
 ·exact h
def SK.FM {t:Int}{k0:List Lk}{v0:List Le}{s:SN}{xs:List Le}(h:SK t k0 v0 xs s) (ht:0<=t/\t<=1000) (hx:∀k:Nat,k<M xs->(An xs k).2.2.2.1=t/\(An xs k).2.2.2.2=12/\0<=(An xs k).2.1):∀n,n<=M xs->SK t k0 v0 xs (FM t xs s n)
 |0,_=>h
 |n+1,hn=>by
  obtain ⟨h1,h2,h3⟩:=hx n A0;exact (h.FM ht hx n A0).snd ht (MR A0 A0) h1 h2 h3
variable {p : PK}
def TG.vl (g:TG p):∃k,VI p.se p.fl (Af p.se p.fl) k/\∀x∈Af p.se p.fl,x.1<p.nx/\TL (M p.gs) p.tk x:=by
 obtain ⟨vl,k,h1,h2⟩:=g.sg.vl
 have e:Af p.se p.fl=vl:=h1.ld.2
 rw [e];exact ⟨k,h1,h2⟩
def TG.v23 (g:TG p):∀x∈Af p.se p.fl,0<=x.2.2.2.1/\DB x=x.2.2.2.1+23:=λx hx=>by
 obtain ⟨k,h1,h2⟩:=g.vl;exact ⟨(LD.1<|(GS h1.lv).2 x hx).2.2.2.1.1,aR6 (h2 x hx).2.2.1⟩
structure LX (p:PK):Prop where
 up:p.up=U->(∀y∈Af p.se p.fl,DB y>p.tk->y∈p.ls)/\∀y∈p.ls,DB y>p.tk->y∈Af p.se p.fl
 dn:p.up=X->p.ls=[]
 st:CT p.gs (F5 p.gs (WJ (Af p.se p.fl) p.dr p.tk)) p.st
 lk:∀l∈p.lk,l.2∈Af p.se p.fl/\p.tk<=l.1/\l.1<=l.2.2.2.2.1+4
end Go.Proofs.YtipodhghjclmbaaGreatDoor
end
