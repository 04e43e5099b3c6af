/- Helpers for ParkFailure. Conditions: none. -/
import Derived.Test.YtpfblnbippcdjaaGreatDoorQn4
set_option linter.defProp false
set_option linter.unusedVariables false
set_option linter.unusedSimpArgs false
noncomputable section
open List renaming length→M,length→aa,replicate→aq,range→au
open Bool renaming true→U,true→ae,false→X,false→af
open Go.Value renaming int→Y,int→ag
open Option renaming some→ah,none→aj
open Go.IntKind renaming i64→J,i64→ai,u8→aw,u32→ax
open True renaming intro→ak
open Decidable renaming decide→an
open ByteArray renaming mk→av
open Go.Region renaming ready→ay,wanted→az
open Go.Instr renaming findNow→aA
namespace Go.Proofs.YtpfblnbippcdjaaGreatDoor
set_option maxRecDepth 100000
set_option maxHeartbeats 4000000
open Go.Proofs.Tryz
open Go.Sx
def acE (s:Xh):List AB:=[AO,AO,zB,AO,bV 73 Ad s.p.cs,AO,AO,AO,bV 95 B3 s.p.st,bV 56 AP s.p.ca,bV 110 B7 s.p.mi,bV 98 BS s.p.me,bV 58 Ak s.p.dm,bV 106 BM s.p.lk,bV 3 A7 s.p.dr,bV 3 A7 s.p.tg,⟨[.os 4 11 0<|M s.p.cs,.xl .str s.p.os,.xl Ah s.p.ks,.xl Ae s.p.gs,.xl Ai s.p.bs,.v<|Y J s.p.tk,.v<|.bool s.p.up,.xl AP s.p.ls,.v<|Y J s.p.se,.xl (.int aw) s.p.fl,.xl Am s.p.ra,.v<|Y J s.p.nx,.os 8 4 0<|M s.p.st,.os 9 5 0<|M s.p.ca,.os 10 3 0<|M s.p.mi,.os 11 3 0<|M s.p.me,.os 12 4 0<|M s.p.dm,.os 13 6 0<|M s.p.lk,.os 14 1 0<|M s.p.dr,.os 15 1 0<|M s.p.tg,.v<|Y J s.ev.ek,.v<|Y J s.ev.en,.v<|Y J s.ev.em,.v<|Y J s.ev.c1,.v<|Y J s.ev.c2,.v<|Y J s.ev.c3,.v<|Y J s.ev.c4,.v<|Y J s.ev.c5,.v<|.bool s.ev.d1,.v<|Y J s.ev.d2,.v<|Y J s.ev.d3,.v<|Y J s.ev.d4,.v<|.slice aj 0 0],88,.cl,X⟩]
def fa (s:Nc):T Xh:=letI b:=(M s.p.gs:Int);letI c:=s.p.fl.drop 0;letI d:=M s.p.fl;letI e:=(aq b.toNat ((0:Int),(0:Int)));letI f:=s.p.ls.drop 0;letI g:=M s.p.ls;letI h:=s.p.ra.drop 0;letI i:=M s.p.ra;letI a:=c.take d;letI j:=DF (BQ s.p.se a) s.p.tk;.br s.p.up (.rz s.p.ls<|.rz s.p.fl<|.rz s.p.ra<|.rl s.p.cs<|.pb s.p<|.ok<|⟨6,{s.p with ls:=f.take g,fl:=c.take d,ra:=h.take i},s.ev⟩)<|.rz s.p.fl<|.req (BH a)<|.br ((CX s.p.se a) !=0) (.rz s.p.ls<|.rz s.p.fl<|.rz s.p.ra<|.rl s.p.cs<|.pb s.p<|.ok<|⟨CX s.p.se a,{s.p with ls:=f.take g,fl:=c.take d,ra:=h.take i},s.ev⟩)<|.br (j !=0) (.rz s.p.ls<|.rz s.p.fl<|.rz s.p.ra<|.rl s.p.cs<|.pb s.p<|.ok<|⟨j,{s.p with ls:=f.take g,fl:=c.take d,ra:=h.take i},s.ev⟩)<|.rz s.p.fl<|.req (BH a)<|.br ((Js s.p.se a) !=0) (.rz s.p.ls<|.rz s.p.fl<|.rz s.p.ra<|.rl s.p.cs<|.pb s.p<|.ok<|⟨Js s.p.se a,{s.p with ls:=f.take g,fl:=c.take d,ra:=h.take i},s.ev⟩)<|.rm 16 b<|.rz s.p.fl<|.req (0+b.toNat<=M e)<|.rl s.p.cs<|.pb s.p<|.ok<|⟨0,{s.p with up:=U,ls:=Br (BQ s.p.se a) s.p.tk,fl:=c.take d,ra:=(e.drop 0).take b.toNat,nx:=nwA s.p.se a},s.ev⟩
def aAy (s:Nc):Prop:=BH s.p.fl/\M s.p.gs<=1000
def Qy (s:Nc):Xh:=⟨PK.Gb s.p,JA (PK.Gb s.p) (PK.XK s.p) s.p,s.ev⟩
def aAk:Cs Nc Xh:=⟨UK,Z8,λv b=>⟨rF b,rG b⟩,aAy,[0,1,3],[.pc 16 7 AP,.kb 5,.pc 16 9<|.int aw,.kb 6,.pc 16 10 Am,.kb 7],abW,acE,Qy⟩
abbrev aiE (s:Nc):Prop:=aAy s/\UK s=UK s/\Z8 s=Z8 s
def fA:List Bd:=[uu,dy,ahu]
def aTF:DE:=CT 43 18 2 (KS.lp)<|CT 25 0 9 (GZ.lp)<|Dl prog AV (fA) 20 2
def aoI:ED prog AV aTF:=D5 func43 rfl AT K7<|D5 func25 rfl AT Cn<|HW<|gk fA
def ayH (s:Nc):((EP prog AV fA aTF Ff).k 22 (UK s)<|Z8 s).bind (λq=>G2 (M<|Z8 s) [0] [.pc 16 7 AP,.kb 5,.pc 16 9<|.int aw,.kb 6,.pc 16 10 Am,.kb 7] .normal (q.1::UK s) q.2)=(fa s).mp (λs2=>⟨.normal,M (UK s)+1,[abW s2],acE s2,U⟩):=AT
theorem avO (s:Nc) (hE:aAy s):(fa s).all (λq=>q=Qy s):=by
 obtain ⟨h1,h2⟩:=hE;unfold fa;simp only [TA];refine ⟨λc=>?_,λc=>?_⟩
 ·have he:s.p.Gb=6:=by unfold PK.Gb;rw [AD c]
  repeat (refine ⟨AJ,?_⟩)
  show _=_
  unfold Qy;rw [JR MB];rw [he]
 have hu:¬s.p.up=true:=VH
 repeat (refine ⟨A0,?_⟩)
 refine ⟨λc1=>?_,λc1=>?_⟩
 ·have c1:CX s.p.se s.p.fl≠0:=EL.1 c1
  have he:s.p.Gb=CX s.p.se s.p.fl:=by unfold PK.Gb;rw [AE hu,AD c1]
  repeat (refine ⟨AJ,?_⟩)
  show _=_
  unfold Qy;rw [JR yI];rw [he]
 have c1:¬CX s.p.se s.p.fl≠0:=λh=>aNO
 refine ⟨λc2=>?_,λc2=>?_⟩
 ·have c2:DF (BQ s.p.se s.p.fl) s.p.tk≠0:=EL.1 c2
  have he:s.p.Gb=DF (BQ s.p.se s.p.fl) s.p.tk:=by unfold PK.Gb;rw [AE hu,AE c1,AD c2]
  repeat (refine ⟨AJ,?_⟩)
  show _=_
  unfold Qy;rw [JR yI];rw [he]
 have c2:¬DF (BQ s.p.se s.p.fl) s.p.tk≠0:=λh=>by rw [EL.2 h] at c2;cases c2
 repeat (refine ⟨A0,?_⟩)
 refine ⟨λc3=>?_,λc3=>?_⟩
 ·have c3:Js s.p.se s.p.fl≠0:=EL.1 c3
  have he:s.p.Gb=Js s.p.se s.p.fl:=by unfold PK.Gb;rw [AE hu,AE c1,AE c2]
  repeat (refine ⟨AJ,?_⟩)
  show _=_
  unfold Qy;rw [JR yI];rw [he]
 have c3:Js s.p.se s.p.fl=0:=ZG λh=>by rw [EL.2 h] at c3;cases c3
 have he:s.p.Gb=0:=by unfold PK.Gb;rw [AE hu,AE c1,AE c2,c3]
 rw [show (aq (M s.p.gs:Int).toNat ((0:Int),(0:Int))).drop 0=aq (M s.p.gs) (0,0) by rw [C3];rfl,C3,DS (by rw [Ce];exact Av _)]
 repeat (refine ⟨A8,?_⟩)
 show _=_
 unfold Qy;rw [LH he];rw [he];rfl
def ahV:DX prog AV 22 aAk.m:=Cs.sound (D:=aAk) (t:=fa) (gk fA) aoI Q9 ayH λs hE=>⟨avO s hE⟩
def S3 (c:Ca):Int:=if GA c=U then 0 else 1
def aJ7:List LV->T LV
 | [.v (.agg ⟨[Y J x1,Y J x2,Y J x3,Y J x4,Y J x5]⟩)]=> .ok (.AM [.agg [.xl A7 ([]:List Int),(0:Int),(0:Int)],S3 (x1,x2,x3,x4,x5)])
 |_=> .no
def agh:List Bd:=[aTe]
def aue:=vo (S:=aJ7) func39 agh kN (λargs lv h=>by
 unfold aJ7 at h;split at h
 ·rename_i x1 x2 x3 x4 x5
  refine Ap (.br (!(GA (x1,x2,x3,x4,x5))) (.ok<|.AM [.agg [.xl A7 ([]:List Int),(0:Int),(0:Int)],(1:Int)])<|.ok<|.AM [.agg [.xl A7 ([]:List Int),(0:Int),(0:Int)],(0:Int)]) ?_;obtain rfl:=h;unfold S3;refine ⟨λc=>?_,λc=>?_⟩
  ·rw [AE A8]
   rfl
  ·rw [AD A8]
   rfl
 ·cases h)
structure KQ where
 (i k0 k1 k2:Int)
 p:PK
 ev:EW
def US (s:KQ):List LV:=[.own 16 0,s.i,.v<|.agg #[s.k0,s.k1,s.k2]]
def Yi (s:KQ):List AB:=[AO,AO,zB,AO,bV 73 Ad s.p.cs,bV 104 AP s.p.ls,bV 5 (.int aw) s.p.fl,bV 130 Am s.p.ra,bV 95 B3 s.p.st,bV 56 AP s.p.ca,bV 110 B7 s.p.mi,bV 98 BS s.p.me,bV 58 Ak s.p.dm,bV 106 BM s.p.lk,bV 3 A7 s.p.dr,bV 3 A7 s.p.tg,⟨[.os 4 11 0<|M s.p.cs,.xl .str s.p.os,.xl Ah s.p.ks,.xl Ae s.p.gs,.xl Ai s.p.bs,.v<|Y J s.p.tk,.v<|.bool s.p.up,.os 5 5 0<|M s.p.ls,.v<|Y J s.p.se,.os 6 1 0<|M s.p.fl,.os 7 2 0<|M s.p.ra,.v<|Y J s.p.nx,.os 8 4 0<|M s.p.st,.os 9 5 0<|M s.p.ca,.os 10 3 0<|M s.p.mi,.os 11 3 0<|M s.p.me,.os 12 4 0<|M s.p.dm,.os 13 6 0<|M s.p.lk,.os 14 1 0<|M s.p.dr,.os 15 1 0<|M s.p.tg,.v<|Y J s.ev.ek,.v<|Y J s.ev.en,.v<|Y J s.ev.em,.v<|Y J s.ev.c1,.v<|Y J s.ev.c2,.v<|Y J s.ev.c3,.v<|Y J s.ev.c4,.v<|Y J s.ev.c5,.v<|.bool s.ev.d1,.v<|Y J s.ev.d2,.v<|Y J s.ev.d3,.v<|Y J s.ev.d4,.v<|.slice aj 0 0],88,.cl,X⟩,AO,AO]
structure Xa where
 res:Int
 p:PK
 ev:EW
def abC (s:Xa):LV:=.v<|Y J s.res
def acM (s:Xa):List AB:=[AO,AO,zB,AO,bV 73 Ad s.p.cs,bV 104 AP s.p.ls,bV 5 (.int aw) s.p.fl,bV 130 Am s.p.ra,bV 95 B3 s.p.st,bV 56 AP s.p.ca,bV 110 B7 s.p.mi,bV 98 BS s.p.me,bV 58 Ak s.p.dm,bV 106 BM s.p.lk,bV 3 A7 s.p.dr,bV 3 A7 s.p.tg,⟨[.os 4 11 0<|M s.p.cs,.xl .str s.p.os,.xl Ah s.p.ks,.xl Ae s.p.gs,.xl Ai s.p.bs,.v<|Y J s.p.tk,.v<|.bool s.p.up,.os 5 5 0<|M s.p.ls,.v<|Y J s.p.se,.os 6 1 0<|M s.p.fl,.os 7 2 0<|M s.p.ra,.v<|Y J s.p.nx,.os 8 4 0<|M s.p.st,.os 9 5 0<|M s.p.ca,.os 10 3 0<|M s.p.mi,.os 11 3 0<|M s.p.me,.os 12 4 0<|M s.p.dm,.os 13 6 0<|M s.p.lk,.os 14 1 0<|M s.p.dr,.os 15 1 0<|M s.p.tg,.v<|Y J s.ev.ek,.v<|Y J s.ev.en,.v<|Y J s.ev.em,.v<|Y J s.ev.c1,.v<|Y J s.ev.c2,.v<|Y J s.ev.c3,.v<|Y J s.ev.c4,.v<|Y J s.ev.c5,.v<|.bool s.ev.d1,.v<|Y J s.ev.d2,.v<|Y J s.ev.d3,.v<|Y J s.ev.d4,.v<|.slice aj 0 0],88,.cl,X⟩,AO,AO]
def vY (s:KQ):T Xa:=letI c:=s.p.st.getD s.i.toNat<|Ty.dflt B3;letI d:=M s.p.st;letI a:=sE (AG s.p.gs s.i) c s.k0 s.k1 s.k2;letI b:=sN (AG s.p.gs s.i) c s.k0 s.k1 s.k2;.ix s.i (M s.p.gs)<|.ik s.i d<|.br (a==0) (.ik s.i d<|.pa s.p<|.re d (s.p.st.set s.i.toNat b)<|.rl s.p.ca<|.rl s.p.mi<|.rl s.p.me<|.rl s.p.dm<|.rl s.p.lk<|.rl s.p.dr<|.rl s.p.tg<|.ok<|⟨a,{s.p with st:=s.p.st.set s.i.toNat b},s.ev⟩)<|.pc s.p<|.ok<|⟨a,s.p,s.ev⟩
def aB6 (s:KQ):Prop:=0<=s.i/\s.i<(M s.p.gs:Int)/\M s.p.st=M s.p.gs
def gb (s:KQ):Xa:=⟨sE (AG s.p.gs s.i) (BG s.p.st s.i) s.k0 s.k1 s.k2,{s.p with st:=CV s.p.gs s.p.st s.i s.k0 s.k1 s.k2},s.ev⟩
def aBC:Cs KQ Xa:=⟨US,Yi,λv b=>⟨AK v 1,gI<|E0 (v.getD 2 .junk) 0,gI<|E0 (v.getD 2 .junk) 1,gI<|E0 (v.getD 2 .junk) 2,rF b,rG b⟩,aB6,[0,1,3,17,18],[],abC,acM,gb⟩
abbrev fQ (s:KQ):Prop:=aB6 s/\US s=US s/\Yi s=Yi s
def eu:List Bd:=[Qw]
def aTN:DE:=CT 43 18 2 (KS.lp)<|CT 25 0 9 (GZ.lp)<|Dl prog AV (eu) 20 2
def aoQ:ED prog AV aTN:=D5 func43 rfl AT K7<|D5 func25 rfl AT Cn<|HW<|gk eu
def ayR (s:KQ):((EP prog AV eu aTN Ff).k 42 (US s)<|Yi s).bind (λq=>G2 (M<|Yi s) [0] [] .normal (q.1::US s) q.2)=(vY s).mp (λs2=>⟨.normal,M (US s)+1,[abC s2],acM s2,U⟩):=AT
theorem avX (s:KQ) (hE:aB6 s):(vY s).all (λq=>q=gb s):=by
 obtain ⟨h0,h1,h2⟩:=hE;refine ⟨A0,A0,A0,λc=>?_,λc=>?_⟩
 ·have c:=eq_of_beq c
  have hg:CV s.p.gs s.p.st s.i s.k0 s.k1 s.k2=_:=AD c
  repeat (refine ⟨A8,?_⟩)
  unfold gb;rw [hg];rfl
 ·have c:=CQ.1 c
  have hg:CV s.p.gs s.p.st s.i s.k0 s.k1 s.k2=s.p.st:=AE c
  repeat (refine ⟨AJ,?_⟩)
  unfold gb;rw [hg];rfl
def ahc:DX prog AV 42 aBC.m:=Cs.sound (D:=aBC) (t:=vY) (gk eu) aoQ Q9 ayR λs hE=>⟨avX s hE⟩
structure Nd where
 p:PK
 ev:EW
def UL (s:Nd):List LV:=[.own 16 0]
def Z9 (s:Nd):List AB:=[AO,AO,zB,AO,bV 73 Ad s.p.cs,bV 104 AP s.p.ls,bV 5 (.int aw) s.p.fl,bV 130 Am s.p.ra,bV 95 B3 s.p.st,bV 56 AP s.p.ca,bV 110 B7 s.p.mi,bV 98 BS s.p.me,bV 58 Ak s.p.dm,bV 106 BM s.p.lk,bV 3 A7 s.p.dr,bV 3 A7 s.p.tg,⟨[.os 4 11 0<|M s.p.cs,.xl .str s.p.os,.xl Ah s.p.ks,.xl Ae s.p.gs,.xl Ai s.p.bs,.v<|Y J s.p.tk,.v<|.bool s.p.up,.os 5 5 0<|M s.p.ls,.v<|Y J s.p.se,.os 6 1 0<|M s.p.fl,.os 7 2 0<|M s.p.ra,.v<|Y J s.p.nx,.os 8 4 0<|M s.p.st,.os 9 5 0<|M s.p.ca,.os 10 3 0<|M s.p.mi,.os 11 3 0<|M s.p.me,.os 12 4 0<|M s.p.dm,.os 13 6 0<|M s.p.lk,.os 14 1 0<|M s.p.dr,.os 15 1 0<|M s.p.tg,.v<|Y J s.ev.ek,.v<|Y J s.ev.en,.v<|Y J s.ev.em,.v<|Y J s.ev.c1,.v<|Y J s.ev.c2,.v<|Y J s.ev.c3,.v<|Y J s.ev.c4,.v<|Y J s.ev.c5,.v<|.bool s.ev.d1,.v<|Y J s.ev.d2,.v<|Y J s.ev.d3,.v<|Y J s.ev.d4,.v<|.slice aj 0 0],88,.cl,X⟩]
structure Xi where
 res:Int
 p:PK
 ev:EW
def abX (s:Xi):LV:=.v<|Y J s.res
def acF (s:Xi):List AB:=[AO,AO,zB,AO,bV 73 Ad s.p.cs,bV 104 AP s.p.ls,bV 5 (.int aw) s.p.fl,bV 130 Am s.p.ra,bV 95 B3 s.p.st,bV 56 AP s.p.ca,bV 110 B7 s.p.mi,bV 98 BS s.p.me,bV 58 Ak s.p.dm,bV 106 BM s.p.lk,bV 3 A7 s.p.dr,bV 3 A7 s.p.tg,⟨[.os 4 11 0<|M s.p.cs,.xl .str s.p.os,.xl Ah s.p.ks,.xl Ae s.p.gs,.xl Ai s.p.bs,.v<|Y J s.p.tk,.v<|.bool s.p.up,.os 5 5 0<|M s.p.ls,.v<|Y J s.p.se,.os 6 1 0<|M s.p.fl,.os 7 2 0<|M s.p.ra,.v<|Y J s.p.nx,.os 8 4 0<|M s.p.st,.os 9 5 0<|M s.p.ca,.os 10 3 0<|M s.p.mi,.os 11 3 0<|M s.p.me,.os 12 4 0<|M s.p.dm,.os 13 6 0<|M s.p.lk,.os 14 1 0<|M s.p.dr,.os 15 1 0<|M s.p.tg,.v<|Y J s.ev.ek,.v<|Y J s.ev.en,.v<|Y J s.ev.em,.v<|Y J s.ev.c1,.v<|Y J s.ev.c2,.v<|Y J s.ev.c3,.v<|Y J s.ev.c4,.v<|Y J s.ev.c5,.v<|.bool s.ev.d1,.v<|Y J s.ev.d2,.v<|Y J s.ev.d3,.v<|Y J s.ev.d4,.v<|.slice aj 0 0],88,.cl,X⟩]
def fc (s:Nd):T Xi:=letI c:=(s.p.mi.set s.ev.en.toNat (([]:List Int),((0:Int),(0:Int))));letI f:=(CV s.p.gs s.p.st s.ev.en (1:Int) (0:Int) (0:Int));letI g:=(s.ev.c1,(s.ev.c2,(s.ev.c3,(s.ev.c4,s.ev.c5))));letI i:=(s.ev.d1,(s.ev.d2,(s.ev.d3,s.ev.d4)));letI j:=M s.p.ca;letI a:=s.p.ca.set s.ev.en.toNat g;letI b:=s.p.dm.set s.ev.en.toNat i;letI d:=(CV s.p.gs f s.ev.en (3:Int) (0:Int) (0:Int));letI e:=(CV s.p.gs d s.ev.en (4:Int) (1:Int) (0:Int));letI h:=(CV s.p.gs e s.ev.en (5:Int) (0:Int) (0:Int));.br (!(inB s.ev.en (0:Int)<|AA<|(M s.p.gs:Int)-1)) (.pc s.p<|.ok<|⟨1,s.p,s.ev⟩)<|.br ((S3 (s.ev.c1,s.ev.c2,s.ev.c3,s.ev.c4,s.ev.c5)) !=0) (.pc s.p<|.ok<|⟨1,s.p,s.ev⟩)<|.br (!((inB s.ev.d2 (0:Int) (1000000000:Int))&&((inB s.ev.d3 (0:Int) (1000000:Int))&&(inB s.ev.d4 (1:Int) (9:Int))))) (.pc s.p<|.ok<|⟨1,s.p,s.ev⟩)<|.ik s.ev.en j<|.br ((s.p.ca.getD s.ev.en.toNat<|Ty.dflt AP).2.2.1 !=0) (.pc s.p<|.ok<|⟨6,s.p,s.ev⟩)<|.ik s.ev.en (M s.p.st)<|.br ((s.p.st.getD s.ev.en.toNat<|Ty.dflt B3).1 !=0) (.pc s.p<|.ok<|⟨6,s.p,s.ev⟩)<|.ik s.ev.en j<|.ik s.ev.en (M s.p.mi)<|.ik s.ev.en (M s.p.dm)<|.pa s.p<|.rl s.p.st<|.re j a<|.re (M s.p.mi) c<|.rl s.p.me<|.re (M s.p.dm) b<|.rl s.p.lk<|.rl s.p.dr<|.rl s.p.tg<|.req (fQ (⟨s.ev.en,1,0,0,{s.p with ca:=s.p.ca.set s.ev.en.toNat g,mi:=s.p.mi.set s.ev.en.toNat (([]:List Int),((0:Int),(0:Int))),dm:=s.p.dm.set s.ev.en.toNat i},s.ev⟩:KQ))<|.pa s.p<|.rl f<|.rl a<|.rl c<|.rl s.p.me<|.rl b<|.rl s.p.lk<|.rl s.p.dr<|.rl s.p.tg<|.req (fQ (⟨s.ev.en,3,0,0,{s.p with st:=f,ca:=a,mi:=c,dm:=b},s.ev⟩:KQ))<|.pa s.p<|.rl d<|.rl a<|.rl c<|.rl s.p.me<|.rl b<|.rl s.p.lk<|.rl s.p.dr<|.rl s.p.tg<|.req (fQ (⟨s.ev.en,4,1,0,{s.p with st:=d,ca:=a,mi:=c,dm:=b},s.ev⟩:KQ))<|.pa s.p<|.rl e<|.rl a<|.rl c<|.rl s.p.me<|.rl b<|.rl s.p.lk<|.rl s.p.dr<|.rl s.p.tg<|.req (fQ (⟨s.ev.en,5,0,0,{s.p with st:=e,ca:=a,mi:=c,dm:=b},s.ev⟩:KQ))<|.pa s.p<|.rl h<|.rl a<|.rl c<|.rl s.p.me<|.rl b<|.rl s.p.lk<|.rl s.p.dr<|.rl s.p.tg<|.ok<|⟨0,{s.p with st:=h,ca:=a,mi:=c,dm:=b},s.ev⟩
theorem aOz {c:Ca}:S3 c=0↔GA c=true:=by
 unfold S3
 grind
def aAz (s:Nd):Prop:=M s.p.st=M s.p.gs/\M s.p.gs<=1000/\M s.p.ca=M s.p.gs/\M s.p.mi=M s.p.gs/\M s.p.dm=M s.p.gs
def Qa (s:Nd):Xi:=⟨PK.GS s.p s.ev.en (EW.c s.ev)<|EW.d s.ev,JA (PK.GS s.p s.ev.en (EW.c s.ev)<|EW.d s.ev) (PK.Nr s.p s.ev.en (EW.c s.ev)<|EW.d s.ev) s.p,s.ev⟩
def aAl:Cs Nd Xi:=⟨UL,Z9,λv b=>⟨rF b,rG b⟩,aAz,[0,1,3],[],abX,acF,Qa⟩
abbrev aiF (s:Nd):Prop:=aAz s/\UL s=UL s/\Z9 s=Z9 s
def We:List Bd:=[Tj,aue]
def aRI:Ax:=Ht We (la 2 func43 K7<|la 9 func25 Cn<|l0 We) [⟨42,aBC.m,ahc⟩]
def aTG:DE:=CT 43 18 2 (KS.lp)<|CT 25 0 9 (GZ.lp)<|Dl prog AV We 20 2
def aoJ:ED prog AV aTG:=D5 func43 rfl AT K7<|D5 func25 rfl AT Cn<|HW<|gk We
def ayI (s:Nd):((EP prog AV We aTG aRI).k 18 (UL s)<|Z9 s).bind (λq=>G2 (M<|Z9 s) [0] [] .normal (q.1::UL s) q.2)=(fc s).mp (λs2=>⟨.normal,M (UL s)+1,[abX s2],acF s2,U⟩):=AT
def avP (s:Nd) (hE:aAz s):(fc s).all (λq=>q=Qa s):=by
 obtain ⟨h1,h2,h3,h4,h5⟩:=hE;unfold fc;rw [dM h2];refine ⟨λc=>?_,λc=>?_⟩
 ·have c:s.p.isC s.ev.en=false:=Q1
  have he:s.p.GS s.ev.en s.ev.c s.ev.d=1:=AD c
  repeat (refine ⟨M9,?_⟩)
  show _=_
  unfold Qa;rw [JR MB];rw [he]
 have c:s.p.isC s.ev.en=true:=Q1
 have ci:=Bf.1 c
 have ci2:s.ev.en<(M s.p.gs:Int):=A0
 have hc:¬s.p.isC s.ev.en=false:=VH
 have bad:(!GA s.ev.c || !HI s.ev.d)=U->s.p.GS s.ev.en s.ev.c s.ev.d=1:=λh=>by unfold PK.GS;rw [AE hc,AD h]
 refine ⟨λc1=>?_,λc1=>⟨λc2=>?_,λc2=>?_⟩⟩
 ·have c1:¬S3 s.ev.c=0:=EL.1 c1
  have c1:GA s.ev.c=false:=by rw [aOz] at c1;simpa using c1
  have he:=bad (by rw [c1];rfl)
  repeat (refine ⟨M9,?_⟩)
  show _=_
  unfold Qa;rw [JR MB];rw [he]
 ·have c2:(!HI s.ev.d)=true:=c2
  have he:=bad<|by rw [c2,SX]
  repeat (refine ⟨M9,?_⟩)
  show _=_
  unfold Qa;rw [JR MB];rw [he]
 have c1:GA s.ev.c=true:=aOz.1 (ZG λh=>by rw [show (S3 (s.ev.c1,s.ev.c2,s.ev.c3,s.ev.c4,s.ev.c5) !=0)=U from EL.2 h] at c1;cases c1)
 have c2:(!HI s.ev.d)=false:=c2
 have hb:¬(!GA s.ev.c || !HI s.ev.d)=true:=by rw [c1,c2];decide
 have six:((Bb s.p.ca s.ev.en).2.2.1 !=0 ||(BG s.p.st s.ev.en).1 !=0)=U->s.p.GS s.ev.en s.ev.c s.ev.d=6:=λh=>by unfold PK.GS;rw [AE hc,AE hb,AD h]
 repeat (refine ⟨M9,?_⟩)
 refine ⟨λc3=>?_,λc3=>?_⟩
 ·have c3:((Bb s.p.ca s.ev.en).2.2.1 !=0)=true:=c3
  have he:=six (by rw [c3];rfl)
  repeat (refine ⟨M9,?_⟩)
  show _=_
  unfold Qa;rw [JR MB];rw [he]
 repeat (refine ⟨M9,?_⟩)
 refine ⟨λc4=>?_,λc4=>?_⟩
 ·have c4:((BG s.p.st s.ev.en).1 !=0)=true:=c4
  have he:=six<|by rw [c4,SX]
  repeat (refine ⟨M9,?_⟩)
  show _=_
  unfold Qa;rw [JR MB];rw [he]
 have c3:((Bb s.p.ca s.ev.en).2.2.1 !=0)=false:=c3
 have c4:((BG s.p.st s.ev.en).1 !=0)=false:=c4
 have he:s.p.GS s.ev.en s.ev.c s.ev.d=0:=by unfold PK.GS;rw [AE hc,AE hb,c3,c4];rfl
 have hg:∀(l:List St) (k n m:Int),M l=M s.p.gs->M (CV s.p.gs l s.ev.en k n m)=M s.p.gs:=λl k n m h=>by rw [JO];exact h
 repeat (refine ⟨M9,?_⟩)
 refine ⟨⟨⟨ci.1,ci2,h1⟩,rfl,rfl⟩,?_⟩
 repeat (refine ⟨M9,?_⟩)
 refine ⟨⟨⟨ci.1,ci2,hg _ _ _ _ h1⟩,rfl,rfl⟩,?_⟩
 repeat (refine ⟨M9,?_⟩)
 refine ⟨⟨⟨ci.1,ci2,hg _ _ _ _<|hg _ _ _ _ h1⟩,rfl,rfl⟩,?_⟩
 repeat (refine ⟨M9,?_⟩)
 refine ⟨⟨⟨ci.1,ci2,hg _ _ _ _<|hg _ _ _ _<|hg _ _ _ _ h1⟩,rfl,rfl⟩,?_⟩
 repeat (refine ⟨AJ,?_⟩)
 show _=_
 unfold Qa;rw [LH he];rw [he];rfl
def ahW:DX prog AV 18 aAl.m:=Cs.sound (D:=aAl) (t:=fc) (gk We) aoJ aRI.h ayI λs hE=>⟨avP s hE⟩
structure PS where
 (n i:Int)
 p:PK
 ev:EW
 BV:List ByteArray
 Bz:List Ko
 B5:List Ch
 C0:List Ba
 o:List Cd
def z9 (s:PS):T (Rd PS):=letI b:=s.o.getD s.i.toNat<|Ty.dflt Ad;letI a:=(s.o.set s.i.toNat (b.1,(b.2.1,((s.p.tg.getD s.i.toNat<|Ty.dflt A7),b.2.2.2))));.br (an<|s.i<s.n) (.ik s.i (M s.p.tg)<|.ik s.i (M s.o)<|.rl s.p.tg<|.pc s.p<|.re (M s.o) a<|.nx {s with i:=AA<|s.i+1,o:=a})<|.rl s.p.tg<|.pc s.p<|.rl s.o<|.so (.exit 0) s
def je (s:PS):Prop:=s.i=0/\s.n=(M s.p.tg:Int)/\M s.p.tg=M s.p.cs/\s.n<=1000/\s.o=Hb s.p.cs s.p.tg s.i.toNat
def YA (s:PS):Prop:=(0<=s.i/\s.i<=s.n)/\s.n=(M s.p.tg:Int)/\M s.p.tg=M s.p.cs/\s.n<=1000/\s.o=Hb s.p.cs s.p.tg s.i.toNat
def tA (s:PS):Nat:=(s.n-s.i).toNat
def aAM (x:Ex) (s s':PS):Prop:=x=.exit 0/\s'.o=Hb s'.p.cs s'.p.tg (M s'.p.tg)
def alQ:∀s,je s->YA s:=by
 exact aML
theorem ag7:Da YA tA aAM z9:=by
 intro s hI;obtain ⟨⟨h0,h1⟩,h2,h3,h4,h5⟩:=hI
 have hl:M s.o=M s.p.cs:=lH
 refine AH (λc1=>?_) λc1=>?_
 ·have c1:s.i<s.n:=A8
  rw [AI (x:=s.i+1)];refine ⟨⟨⟨A8,A8⟩,h2,h3,h4,?_⟩,by simp only [tA];omega⟩
  exact aL5
 ·have c1:s.n<=s.i:=A8
  refine ⟨rfl,?_⟩
  grind
def UE:AR PS:=⟨17,34,[2,3,19,20,21],[],λs=>[.own 17 0,.own 18 0,.os 15 1 0<|M s.p.tg,s.n,s.i],λs=>[AO,AO,zB,AO,bV 73 Ad s.p.cs,bV 104 AP s.p.ls,bV 5 (.int aw) s.p.fl,bV 130 Am s.p.ra,bV 95 B3 s.p.st,bV 56 AP s.p.ca,bV 110 B7 s.p.mi,bV 98 BS s.p.me,bV 58 Ak s.p.dm,bV 106 BM s.p.lk,bV 3 A7 s.p.dr,bV 3 A7 s.p.tg,⟨[.os 4 11 0<|M s.p.cs,.xl .str s.p.os,.xl Ah s.p.ks,.xl Ae s.p.gs,.xl Ai s.p.bs,.v<|Y J s.p.tk,.v<|.bool s.p.up,.os 5 5 0<|M s.p.ls,.v<|Y J s.p.se,.os 6 1 0<|M s.p.fl,.os 7 2 0<|M s.p.ra,.v<|Y J s.p.nx,.os 8 4 0<|M s.p.st,.os 9 5 0<|M s.p.ca,.os 10 3 0<|M s.p.mi,.os 11 3 0<|M s.p.me,.os 12 4 0<|M s.p.dm,.os 13 6 0<|M s.p.lk,.os 14 1 0<|M s.p.dr,.os 15 1 0<|M s.p.tg,.v<|Y J s.ev.ek,.v<|Y J s.ev.en,.v<|Y J s.ev.em,.v<|Y J s.ev.c1,.v<|Y J s.ev.c2,.v<|Y J s.ev.c3,.v<|Y J s.ev.c4,.v<|Y J s.ev.c5,.v<|.bool s.ev.d1,.v<|Y J s.ev.d2,.v<|Y J s.ev.d3,.v<|Y J s.ev.d4,.v<|.slice aj 0 0],88,.cl,X⟩,⟨[.v<|.slice aj 0 0,.v<|.slice aj 0 0,.v<|.slice aj 0 0,.v<|.slice aj 0 0,.v<|.slice aj 0 0],28,.cl,X⟩,⟨[.os 19 11 0<|M s.o,s.BV,s.Bz,s.B5,s.C0],28,.cl,X⟩,bV 73 Ad s.o],λv b=>⟨AK v 3,AK v 4,rF b,rG b,AF .str b 18 1,AF Ah b 18 2,AF Ae b 18 3,AF Ai b 18 4,Ab Ad b 19⟩,z9,λs r=> {s with i:=r.i,o:=r.o},λs=>s,λ_ s=>s,[.exit 0],je,YA,tA⟩
abbrev cF:=UE.run
abbrev asI:=UE.Aq
def P5:List Bd:=[dt,Tj]
def azM:Ax:=kI P5<|la 2 func43 K7<|la 9 func25 Cn<|l0 P5
def axx:Rq YA z9:=by
 intro s hI;refine ⟨λc1=>⟨?_,?_,?_,?_,A9,A9,A9,A9,A9,A9,A9,A9,A9,A9,A9,A9,A9,?_,ak⟩,λc1=>⟨A9,A9,A9,A9,A9,A9,A9,A9,A9,A9,A9,A9,A9,A9,ak⟩⟩
 all_goals ((obtain ⟨⟨h0,h1⟩,h2,h3,h4,h5⟩:=hI;have hl:M s.o=M s.p.cs:=lH;(try simp only [Ac] at c1);first|omega|exact ⟨rfl,rfl⟩ |exact ⟨rfl,AJ⟩))
def aQ8:UE.Ok:={}
def aPi:UE.Pf (aAM):=⟨alQ,λs h=>rfl,ag7,axx⟩
def aGK:=s2 (b:=bN f48 0) aQ8 aPi P5 azM
def atw:Fi je YA aAM asI cF:=AR.fin aQ8 aPi
structure Mm where
 p:PK
 ev:EW
def UP (s:Mm):List LV:=[.own 16 0]
def Yf (s:Mm):List AB:=[AO,AO,zB,AO,bV 73 Ad s.p.cs,bV 104 AP s.p.ls,bV 5 (.int aw) s.p.fl,bV 130 Am s.p.ra,bV 95 B3 s.p.st,bV 56 AP s.p.ca,bV 110 B7 s.p.mi,bV 98 BS s.p.me,bV 58 Ak s.p.dm,bV 106 BM s.p.lk,bV 3 A7 s.p.dr,bV 3 A7 s.p.tg,⟨[.os 4 11 0<|M s.p.cs,.xl .str s.p.os,.xl Ah s.p.ks,.xl Ae s.p.gs,.xl Ai s.p.bs,.v<|Y J s.p.tk,.v<|.bool s.p.up,.os 5 5 0<|M s.p.ls,.v<|Y J s.p.se,.os 6 1 0<|M s.p.fl,.os 7 2 0<|M s.p.ra,.v<|Y J s.p.nx,.os 8 4 0<|M s.p.st,.os 9 5 0<|M s.p.ca,.os 10 3 0<|M s.p.mi,.os 11 3 0<|M s.p.me,.os 12 4 0<|M s.p.dm,.os 13 6 0<|M s.p.lk,.os 14 1 0<|M s.p.dr,.os 15 1 0<|M s.p.tg,.v<|Y J s.ev.ek,.v<|Y J s.ev.en,.v<|Y J s.ev.em,.v<|Y J s.ev.c1,.v<|Y J s.ev.c2,.v<|Y J s.ev.c3,.v<|Y J s.ev.c4,.v<|Y J s.ev.c5,.v<|.bool s.ev.d1,.v<|Y J s.ev.d2,.v<|Y J s.ev.d3,.v<|Y J s.ev.d4,.v<|.slice aj 0 0],88,.cl,X⟩]
def Sp (s:Mm):PS:=(⟨((M s.p.tg:Nat):Int),0,{s.p with tg:=s.p.tg.set s.ev.en.toNat s.ev.em},s.ev,s.p.os,s.p.ks,s.p.gs,s.p.bs,BC ((s.p.cs.drop 0).take<|M s.p.cs)<|aq ((M s.p.cs:Nat):Int).toNat (ByteArray.empty,((0:Int),((0:Int),((0:Int),(((0:Int),(0:Int)),((0:Int),((0:Int),((0:Int),((0:Int),(0:Int))))))))))⟩:PS)
structure XX where
 res:Int
 p:PK
 ev:EW
def ab9 (s:XX):LV:=.v<|Y J s.res
def acJ (s:XX):List AB:=[AO,AO,zB,AO,bV 73 Ad s.p.cs,bV 104 AP s.p.ls,bV 5 (.int aw) s.p.fl,bV 130 Am s.p.ra,bV 95 B3 s.p.st,bV 56 AP s.p.ca,bV 110 B7 s.p.mi,bV 98 BS s.p.me,bV 58 Ak s.p.dm,bV 106 BM s.p.lk,bV 3 A7 s.p.dr,bV 3 A7 s.p.tg,⟨[.os 4 11 0<|M s.p.cs,.xl .str s.p.os,.xl Ah s.p.ks,.xl Ae s.p.gs,.xl Ai s.p.bs,.v<|Y J s.p.tk,.v<|.bool s.p.up,.os 5 5 0<|M s.p.ls,.v<|Y J s.p.se,.os 6 1 0<|M s.p.fl,.os 7 2 0<|M s.p.ra,.v<|Y J s.p.nx,.os 8 4 0<|M s.p.st,.os 9 5 0<|M s.p.ca,.os 10 3 0<|M s.p.mi,.os 11 3 0<|M s.p.me,.os 12 4 0<|M s.p.dm,.os 13 6 0<|M s.p.lk,.os 14 1 0<|M s.p.dr,.os 15 1 0<|M s.p.tg,.v<|Y J s.ev.ek,.v<|Y J s.ev.en,.v<|Y J s.ev.em,.v<|Y J s.ev.c1,.v<|Y J s.ev.c2,.v<|Y J s.ev.c3,.v<|Y J s.ev.c4,.v<|Y J s.ev.c5,.v<|.bool s.ev.d1,.v<|Y J s.ev.d2,.v<|Y J s.ev.d3,.v<|Y J s.ev.d4,.v<|.slice aj 0 0],88,.cl,X⟩]
def fh (s:Mm):T XX:=letI a:=s.p.tg.set s.ev.en.toNat s.ev.em;letI b:=(ByteArray.empty,((0:Int),((0:Int),((0:Int),(((0:Int),(0:Int)),((0:Int),((0:Int),((0:Int),((0:Int),(0:Int))))))))));letI c:=((M s.p.cs:Nat):Int);letI d:=((cF<|Sp s).o.drop 0).take<|M (cF<|Sp s).o;letI e:=(s.p.cs.drop 0).take<|M s.p.cs;letI f:=M s.p.tg;.br (!(inB s.ev.en (0:Int)<|AA<|c-1)) (.pc s.p<|.ok<|⟨1,s.p,s.ev⟩)<|.ik s.ev.en (M s.p.cs)<|.br (!(inB s.ev.em (1:Int) (s.p.cs.getD s.ev.en.toNat<|Ty.dflt Ad).2.2.1)) (.pc s.p<|.ok<|⟨1,s.p,s.ev⟩)<|.ik s.ev.en f<|.rm 96 c<|.rz s.p.cs<|.rc c b (M e)<|.re f a<|.pa s.p<|.rl s.p.st<|.rl s.p.ca<|.rl s.p.mi<|.rl s.p.me<|.rl s.p.dm<|.rl s.p.lk<|.rl s.p.dr<|.re f a<|.re c.toNat (BC e<|aq c.toNat b)<|.req (UE.q<|Sp s)<|.rz (cF<|Sp s).o<|.req (BI d s.p.os s.p.ks s.p.gs s.p.bs=U)<|.br (!II d s.p.gs (BP s.p.gs)) (.pa s.p<|.rl s.p.st<|.rl s.p.ca<|.rl s.p.mi<|.rl s.p.me<|.rl s.p.dm<|.rl s.p.lk<|.rl s.p.dr<|.rl a<|.ok<|⟨13,{s.p with tg:=a},s.ev⟩)<|.pa s.p<|.rl s.p.st<|.rl s.p.ca<|.rl s.p.mi<|.rl s.p.me<|.rl s.p.dm<|.rl s.p.lk<|.rl s.p.dr<|.rl a<|.ok<|⟨0,{s.p with tg:=a},s.ev⟩
def VP.der {p:PK}(h:VP p) {n m:Int}(hn:inB n 0 ((M p.cs:Int)-1)=U) (hm:inB m 1 (Al p.cs n).2.2.1=U):BI (p.Lt n m).JC p.os p.ks p.gs p.bs=U/\M (p.Lt n m).tg=M p.cs:=by
 have hn:=Bf.1 hn
 have hm:=Bf.1 hm
 have hl:M (p.Lt n m).tg=M p.cs:=by show M (p.tg.set n.toNat m)=_;rw [CL];exact h.Ho
 have hk:=ue h.site (k:=n.toNat) A0
 rw [CR hn.1] at hk;refine ⟨aDr h.site (λk hk2=>?_) _ A0,hl⟩
 show 1<=gi (p.tg.set n.toNat m) k/\gi (p.tg.set n.toNat m) k<=1000
 rw [KB hn.1 (by have:=h.Ho;omega) A0]
 split
 ·omega
 ·exact h.tg1 k hk2
def aB3 (s:Mm):Prop:=VP s.p
def Th (s:Mm):XX:=⟨PK.Iz s.p s.ev.en s.ev.em,{s.p with tg:=if PK.Iz s.p s.ev.en s.ev.em=1 then s.p.tg else s.p.tg.set s.ev.en.toNat s.ev.em},s.ev⟩
def aBA:Cs Mm XX:=⟨UP,Yf,λv b=>⟨rF b,rG b⟩,aB3,[0,1,3],[],ab9,acJ,Th⟩
abbrev aiJ (s:Mm):Prop:=aB3 s/\UP s=UP s/\Yf s=Yf s
def aRH:Ax:=kI P5<|la 4 func48 aGK<|la 2 func43 K7<|la 9 func25 Cn<|l0 P5
def aTK:DE:=CT 48 17 4 (UE.lp)<|CT 43 18 2 (KS.lp)<|CT 25 0 9 (GZ.lp)<|Dl prog AV P5 20 2
def aoN:ED prog AV aTK:=D5 func48 rfl AT aGK<|D5 func43 rfl AT K7<|D5 func25 rfl AT Cn<|HW<|gk P5
def ayM (s:Mm):((EP prog AV P5 aTK aRH).k 24 (UP s)<|Yf s).bind (λq=>G2 (M<|Yf s) [0] [] .normal (q.1::UP s) q.2)=(fh s).mp (λs2=>⟨.normal,M (UP s)+1,[ab9 s2],acJ s2,U⟩):=AT
theorem avU (s:Mm) (hE:aB3 s):(fh s).all (λq=>q=Th s):=by
 have hs:=DD.1 hE.site
 have ht:=hE.Ho
 have hw:AA (((M s.p.cs:Nat):Int)-1)=(M s.p.cs:Int)-1:=AI
 unfold fh;rw [hw];simp only [TA,QO]
 have one:(!inB s.ev.en 0 ((M s.p.cs:Int)-1) || !inB s.ev.em 1 (Al s.p.cs s.ev.en).2.2.1)=U->s.p.Iz s.ev.en s.ev.em=1:=λh=>AD h
 refine ⟨λc=>?_,λc=>?_⟩
 ·have he:=one (by rw [c];rfl)
  repeat (refine ⟨AJ,?_⟩)
  show _=_
  unfold Th;rw [AD he,he]
 have cn:inB s.ev.en 0 ((M s.p.cs:Int)-1)=true:=IT
 have ci:=Bf.1 cn
 have hcd:s.p.cs.getD s.ev.en.toNat (Ty.dflt Ad)=Al s.p.cs s.ev.en:=by
  rw [DQ,DR A0]
  have:=cv (cs:=s.p.cs) (k:=s.ev.en.toNat) A0
  rw [CR ci.1] at this;rw [this];rfl
 rw [hcd]
 repeat (refine ⟨by first|omega|exact ⟨rfl,rfl⟩ |exact ⟨rfl,AJ⟩ |(refine ⟨?_,?_⟩<;>(simp;done)) |(rw [Ce];omega),?_⟩)
 refine ⟨λc2=>?_,λc2=>?_⟩
 ·have he:=one (by rw [c2,SX])
  repeat (refine ⟨AJ,?_⟩)
  show _=_
  unfold Th;rw [AD he,he]
 have cm:inB s.ev.em 1 (Al s.p.cs s.ev.en).2.2.1=true:=EA
 obtain ⟨k1,k2⟩:=hE.der cn cm
 have ho:(Sp s).o=s.p.cs:=by
  show BC ((s.p.cs.drop 0).take _) _=_
  rw [TA];exact QO
 have hV:je (Sp s):=⟨rfl,by show (M s.p.tg:Int)=(M (s.p.tg.set s.ev.en.toNat s.ev.em):Int);rw [CL],k2,aN6,ho⟩
 obtain ⟨_,_,_,q2⟩:=atw _ hV
 have q2:(cF<|Sp s).o=(s.p.Lt s.ev.en s.ev.em).JC:=q2
 have nb:¬(!inB s.ev.en 0 ((M s.p.cs:Int)-1) || !inB s.ev.em 1 (Al s.p.cs s.ev.en).2.2.1)=true:=by rw [cn,cm];decide
 rw [q2]
 repeat (refine ⟨A8,?_⟩)
 refine ⟨⟨hV,rfl,rfl⟩,?_⟩
 repeat (refine ⟨A0,?_⟩)
 refine ⟨λc3=>?_,λc3=>?_⟩
 ·have c3:II (s.p.Lt s.ev.en s.ev.em).JC s.p.gs (BP s.p.gs)=false:=N7
  have he:s.p.Iz s.ev.en s.ev.em=13:=by unfold PK.Iz;rw [AE nb,AD c3]
  repeat (refine ⟨AJ,?_⟩)
  show _=_
  unfold Th;rw [AE MB,he]
 ·have c3:¬II (s.p.Lt s.ev.en s.ev.em).JC s.p.gs (BP s.p.gs)=false:=N7
  have he:s.p.Iz s.ev.en s.ev.em=0:=by unfold PK.Iz;rw [AE nb,AE c3]
  repeat (refine ⟨AJ,?_⟩)
  show _=_
  unfold Th;rw [AE MB,he]
def aha:DX prog AV 24 aBA.m:=Cs.sound (D:=aBA) (t:=fh) (gk P5) aoN aRH.h ayM λs hE=>⟨avU s hE⟩
def aSX:List LV->T LV
 | [.xl (.pair (.int J) (.pair (.int J) (.pair (.int J) (.pair (.int J) (.int J))))) l,.v (.agg ⟨[Y J nu,Y J co,Y J am,Y J fr,Y J tk]⟩)]=> .ok (.AM [Jc l (nu,co,am,fr,tk),FD l (nu,co,am,fr,tk)])
 |_=> .no
def ale:List Bd:=[WO,aJa,aTx]
def aTz:=vo (S:=aSX) func96 ale kN (λargs lv h=>by
 unfold aSX at h;split at h
 ·rename_i l nu co am fr tk
  refine Ap (letI a:=(aq (0:Int).toNat ((0:Int),((0:Int),((0:Int),((0:Int),(0:Int))))));letI b:=(nu,(co,(am,(fr,tk))));letI d:=(M l:Int);letI g:=AA<|d+1;letI i:=(a++l)++([b]);letI f:=((i.drop 0).take<|(0:Int).toNat+M l+M ([b]));.br ((!(BL l)) ||(!(D4 (nu,co,am,fr,tk)))) (.ok<|.AM [.xl AP ([]:List Le),(1:Int)])<|.br (an<|d>0) (.ix (AA<|d-1) (M l)<|.br (!(Jd (At l<|AA<|d-1) (nu,co,am,fr,tk))) (.ok<|.AM [.xl AP ([]:List Le),(12:Int)])<|.br (d==64) (.ok<|.AM [.xl AP ([]:List Le),(10:Int)])<|.req (0<=(0:Int)/\(0:Int)<=g/\40*g<=2^48/\g<2^63)<|.ra (0:Int).toNat (M a) ((0:Int).toNat+M l) 40<|.ra ((0:Int).toNat+M l) (M<|a++l) ((0:Int).toNat+M l+M ([b])) 40<|.req (0+((0:Int).toNat+M l+M ([b]))<=M i)<|.ok<|.AM [f,(0:Int)])<|.br (d==64) (.ok<|.AM [.xl AP ([]:List Le),(10:Int)])<|.req (0<=(0:Int)/\(0:Int)<=g/\40*g<=2^48/\g<2^63)<|.ra (0:Int).toNat (M a) ((0:Int).toNat+M l) 40<|.ra ((0:Int).toNat+M l) (M<|a++l) ((0:Int).toNat+M l+M ([b])) 40<|.req (0+((0:Int).toNat+M l+M ([b]))<=M i)<|.ok<|.AM [f,(0:Int)]) ?_;obtain rfl:=h
  have bad:∀e:Int,e≠0->FD l (nu,co,am,fr,tk)=e->LV.AM [.xl AP ([]:List Le),.v<|Y J e]=LV.AM [.xl AP<|Jc l (nu,co,am,fr,tk),.v<|Y J<|FD l (nu,co,am,fr,tk)]:=λe h0 h1=>by
   unfold Jc;rw [h1,AE h0]
  refine ⟨λc=>bad 1 Aa ?_,λc=>?_⟩
  ·unfold FD
   grind
  have hk:(BL l&&D4 (nu,co,am,fr,tk))=true:=by revert c;cases BL l<;>cases D4 (nu,co,am,fr,tk)<;>simp
  have hl:M l<=64:=by rw [AY] at hk;exact (Ij hk.1).1
  have w1:AA ((M l:Int)+1)=(M l:Int)+1:=AI
  have fin:(an (M l>0)&&!Jd (At l<|(M l:Int)-1) (nu,co,am,fr,tk))=X->M l≠64->LV.AM [.xl AP<|(l++[(nu,co,am,fr,tk)]).take<|0+M l+1,.v<|Y J 0]=LV.AM [.xl AP<|Jc l (nu,co,am,fr,tk),.v<|Y J<|FD l (nu,co,am,fr,tk)]:=λh1 h2=>by
   have e:FD l (nu,co,am,fr,tk)=0:=by unfold FD;rw [AD hk,AE (by rw [h1];simp),AE h2]
   unfold Jc;rw [e,AD rfl,DS AJ]
  have rq:(0<=(0:Int)/\(0:Int)<=AA ((M l:Int)+1)/\40*AA ((M l:Int)+1)<=2^48/\AA ((M l:Int)+1)<2^63):=by rw [w1];omega
  refine ⟨λc2=>?_,λc2=>?_⟩
  ·have c2:0<M l:=by have:=DC c2;omega
   have w2:AA ((M l:Int)-1)=(M l:Int)-1:=AI
   rw [w2];refine ⟨A0,λc3=>bad 12 Aa ?_,λc3=>⟨λc4=>bad 10 Aa ?_,λc4=>⟨rq,⟨rfl,D2,D2⟩,⟨AJ,D2,D2⟩,AJ,?_⟩⟩⟩
   ·unfold FD
    rw [AD hk,AD (by rw [c3,DB c2];rfl)]
   ·unfold FD
    rw [AD hk,AE (by rw [c3];simp),AD yO]
   ·exact fin (by rw [c3,Sa]) yO
  ·have c2:¬(M l)>0:=by have:=JE c2;omega
   refine ⟨λc4=>bad 10 Aa ?_,λc4=>⟨rq,⟨rfl,D2,D2⟩,⟨AJ,D2,D2⟩,AJ,?_⟩⟩
   ·simp at c4;omega
   ·exact fin (by rw [I1 c2,Pt]) A0
 ·cases h)
structure O4 where
 (l0 left l:List Le)
 (n i afk afg auo aun aov:Int)
 o:List (List Int)
def aEq:=bN f151 0
def vR (s:O4):T (Rd O4):=letI a:=At s.l s.i;.br (an<|s.i<s.n) (.ix s.i (M s.l)<|.rb (M s.o) (M<|[Ay a]) 24<|.re (M s.o+M ([Ay a])) (s.o++([Ay a]))<|.nx {s with i:=AA<|s.i+1,o:=s.o++([Ay a])})<|.rl s.o<|.so (.exit 0) s
def iw (s:O4):Prop:=s.i=0/\s.n<=1000/\s.n=(M s.l:Int)/\(M s.o:Int)<=s.i
def jF (s:O4):Prop:=0<=s.i/\s.i<=s.n/\s.n<=1000/\s.n=(M s.l:Int)/\(M s.o:Int)<=s.i
def sP (s:O4):Nat:=(s.n-s.i).toNat
def acg (x:Ex) (s s':O4):Prop:=True
def akp:∀s,iw s->jF s:=by
 exact Zi
theorem azm:Da jF sP acg vR:=by
 intro s hI;obtain ⟨h0,h1,h2,h3,h4⟩:=hI;refine AH (λc1=>?_) λc1=>trivial
 have c1:s.i<s.n:=A8
 rw [AI (x:=s.i+1)];exact ⟨⟨A8,A8,h2,h3,A8⟩,by simp only [sP];omega⟩
def RI:AR O4:=⟨0,71,[0,4,8,10,11,25,26,27],[.ns 10 0 35<|.sl<|.int aw],λs=>[s.l0,.own 0 0,s.left,.own 1 0,.fn 191 [.own 1 0],s.l,s.n,s.i],λs=>[⟨[s.afk,s.afg,s.auo,s.aun,s.aov],104,.cl,X⟩,⟨[.os 2 1 0<|M s.o],163,.cl,X⟩,⟨[],35,.vec (.sl<|.int aw) s.o,X⟩],λv b=>⟨B4 AP v 0,B4 AP v 2,B4 AP v 5,AK v 6,AK v 7,Aj b 0 0,Aj b 0 1,Aj b 0 2,Aj b 0 3,Aj b 0 4,Ab (.sl<|.int aw) b 2⟩,vR,λs r=> {s with i:=r.i,o:=r.o},λs=>s,λ_ s=>s,[.exit 0],iw,jF,sP⟩
abbrev mg:=RI.run
abbrev aHy:=RI.Aq
def axc:Rq jF vR:=by
 intro s hI;refine ⟨λc1=>⟨?_,?_,?_,ak⟩,λc1=>⟨A9,ak⟩⟩
 all_goals ((obtain ⟨h0,h1,h2,h3,h4⟩:=hI;simp only [Ac] at c1;(first|omega|(simp only [Bi,Bp];omega) |(simp only [BD,Bi,Bp,Ei]))))
def eI:List Bd:=[dy,aTq]
def aRM:Ax:=kI eI<|l0 eI
def aQX:RI.Ok:={}
def aOq:RI.Pf (acg):=⟨akp,λs h=>rfl,azm,axc⟩
def apW:SA 0 aEq RI:=s1 aQX aOq eI aRM
theorem arM:Rs iw aHy mg (λs:O4=>s.o++(s.l.drop s.i.toNat).map Ay) (λx s' (v:List<|List Int)=>x=.exit 0/\s'.o=v):=DJ aQX aOq (λs hI=>by
  obtain ⟨h0,h1,h2,h3,h4⟩:=hI;refine AH (λc1=>?_) λc1=>?_
  ·have c1:s.i<s.n:=A8
   rw [AI (x:=s.i+1)]
   show _++[_]++_=_++_
   rw [(W4 h0 A0).1]
   grind
  ·have c1:s.n<=s.i:=A8
   refine ⟨rfl,?_⟩;rw [Ef A0]
   simp)
def ID (l:List Le) (x:Le) (t:Int):List (List Int):=if DF l t=0 then Hs l x t else []
def aSk:List LV->T LV
 | [.xl (.pair (.int J) (.pair (.int J) (.pair (.int J) (.pair (.int J) (.int J))))) l,.v (.agg ⟨[Y J x1,Y J x2,Y J x3,Y J x4,Y J x5]⟩),.v (Y J t)]=> .ok (.AM [.xl (.sl<|.int aw)<|ID l (x1,x2,x3,x4,x5) t,DF l t])
 |_=> .no
def VT (l:List Le) (x1 x2 x3 x4 x5 t:Int):O4:=(⟨l,Br l t,Br l t,(M (Br l t):Int),0,x1,x2,x3,x4,x5,([]:List<|List Int)⟩:O4)
theorem aHp {l:List Le}{t:Int}(h:DF l t=0):M l<=64/\M (Br l t)<=M l:=by
 unfold DF at h;split at h
 ·rename_i c
  refine ⟨(Ij (by unfold O8 at c;rw [AY] at c;exact c.1)).1,?_⟩
  unfold Br
  grind
 ·cases h
def ahw:=vm (S:=aSk) func151 eI aRM (L:=(λi=>if i=7 then RI.lp else Ag i)) (λb hb=>by
 rw [show BA _=[aEq] by kernel_rfl] at hb
 simp only [B8,Bu,Bt] at hb;subst hb;exact apW) (λargs lv h=>by
 unfold aSk at h;split at h
 ·rename_i l x1 x2 x3 x4 x5 t
  refine Ap (letI a:=mg<|VT l x1 x2 x3 x4 x5 t;letI e:=(x1,x2,x3,x4,x5);letI f:=M a.o+M ([Ay e]);letI j:=(AA<|(M l:Int)-1);letI k:=(M (Br l t):Int);letI m:=M a.o;letI n:=a.o++([Ay e]);letI d:=At l j;letI g:=(a.o++([Ay d]))++([Ay e]);letI p:=M a.o+M ([Ay d]);letI r:=M<|a.o++([Ay d]);letI b:=M a.o+M ([Ay d])+M ([Ay e]);.br ((DF l t) !=0) (.ok<|.AM [.xl (.sl<|.int aw) ([]:List<|List Int),(DF l t)])<|.r0 (List Int)<|.req (RI.q<|VT l x1 x2 x3 x4 x5 t)<|.br (an<|(M l:Int)>0) (.br (k==0) (.ix j (M l)<|.rb m (M<|[Ay d]) 24<|.ra p r b 24<|.req (0+b<=M g)<|.ok<|.AM [.xl (.sl<|.int aw)<|(g.drop 0).take b,(0:Int)])<|.ix (AA<|k-1) (M<|Br l t)<|.ix j (M l)<|.br ((At (Br l t)<|AA<|k-1).1 !=d.1) (.ix j (M l)<|.rb m (M<|[Ay d]) 24<|.ra p r b 24<|.req (0+b<=M g)<|.ok<|.AM [.xl (.sl<|.int aw)<|(g.drop 0).take b,(0:Int)])<|.rb m (M<|[Ay e]) 24<|.req (0+f<=M n)<|.ok<|.AM [.xl (.sl<|.int aw)<|(n.drop 0).take f,(0:Int)])<|.rb m (M<|[Ay e]) 24<|.req (0+f<=M n)<|.ok<|.AM [.xl (.sl<|.int aw)<|(n.drop 0).take f,(0:Int)]) ?_;obtain rfl:=h;refine ⟨λc=>?_,λc=>?_⟩
  ·have c:DF l t≠0:=IT
   unfold ID;rw [AE c];rfl
  have hE:DF l t=0:=IT
  obtain ⟨k1,k2⟩:=aHp hE
  have hV:iw (VT l x1 x2 x3 x4 x5 t):=⟨rfl,by show (M (Br l t):Int)<=1000;omega,rfl,yC⟩
  have q:aHy (VT l x1 x2 x3 x4 x5 t)=.exit 0/\(mg<|VT l x1 x2 x3 x4 x5 t).o=(Br l t).map Ay:=arM _ hV
  have hR:ID l (x1,x2,x3,x4,x5) t=Hs l (x1,x2,x3,x4,x5) t:=AD hE
  have w1:=λ_:0<M l=>AI (x:=(M l:Int)-1)
  have w2:=λ_:0<M (Br l t)=>AI (x:=(M (Br l t):Int)-1)
  have hL:M (mg<|VT l x1 x2 x3 x4 x5 t).o=M (Br l t):=by rw [q.2,Ft]
  rw [hE,hR];unfold Hs;refine ⟨A9,⟨hV,rfl,rfl⟩,λc1=>⟨λc2=>?_,λc2=>?_⟩,λc1=>?_⟩
  ·have c1:0<M l:=AX
   have c2:M (Br l t)=0:=EA
   rw [w1 c1,AD ⟨c1,.inl c2⟩];refine ⟨A0,⟨EK _,?_,?_⟩,⟨?_,?_,?_⟩,?_,?_⟩
   all_goals first|(simp only [BD,Bi,Bp,hL];omega) |(rw [q.2,CP,DS lB];simp only [Cm,E7];rfl)
  ·have c1:0<M l:=AX
   have c2:0<M (Br l t):=by simp at c2;exact OM.2 c2
   rw [w1 c1,w2 c2];refine ⟨A0,A0,λc3=>?_,λc3=>?_⟩
   ·rw [AD ⟨c1,.inr N7⟩]
    refine ⟨A0,⟨EK _,?_,?_⟩,⟨?_,?_,?_⟩,?_,?_⟩
    all_goals first|(simp only [BD,Bi,Bp,hL];omega) |(rw [q.2,CP,DS lB];simp only [Cm,E7];rfl)
   ·rw [AE (by intro h;rcases h.2 with h|h;omega;simp at c3;exact h c3)]
    refine ⟨⟨EK _,?_,?_⟩,?_,?_⟩
    all_goals first|(simp only [BD,Bi,Bp,hL];omega) |(rw [q.2,CP,DS lB];simp only [Cm,E7];rfl)
  ·have c1:¬0<M l:=AX
   rw [AE λh=>c1 h.1]
   refine ⟨⟨EK _,?_,?_⟩,?_,?_⟩
   all_goals first|(simp only [BD,Bi,Bp,hL];omega) |(rw [q.2,CP,DS lB];simp only [Cm,E7];rfl)
 ·cases h)
def eQ:List Bd:=[]
def ah2:List LV->T LV:=λl=>Bk prog AV (eQ) kN Ag f225<|canL l
def aa1:=vo (S:=ah2) func225 eQ kN (λargs lv h=>by
 refine ⟨?_⟩
 assumption)
def ah3:List LV->T LV:=λl=>Bk prog AV (eQ) kN Ag f230<|canL l
def aa2:=vo (S:=ah3) func230 eQ kN (λargs lv h=>by
 refine ⟨?_⟩
 assumption)
def nq {l:List Int}{n:Nat}(h:M l=n):BC l (aq n (0:Int))=l:=by
 unfold BC
 simp_all
def nQ {l:List Int}{n:Nat}(h:M l=n):((BC ((l.drop 0).take n)<|aq n (0:Int)).drop 0).take n=l:=by
 rw [CP,CP,DS (l:=l) A0,nq h,DS A0]
theorem Wm {l:List Int}{n:Nat}(h:M l=n):(l.drop 0).take n=l:=by
 grind
def yt:Array Tmp×Code×Code:=((Ii<|f226.body.getD .skip)[0]?).getD (#[],.skip,.skip)
def aat:Array Tmp:=yt.1
def aay:Code:=yt.2.1
def aaw:Code:=yt.2.2
structure Lq where
 (n i HU:Int)
 (HS b1:List Int)
 nV:Int
 GM:List Int
 (b3 b4 HR:Int)
 b9:List Fl
 b10:List Int
 st:LS
def Kh (s:Lq):List Int:=(s.b10.set (AA<|s.b3+s.i).toNat<|Bv aw (s.b10.getD (AA<|s.b3+s.i).toNat<|Ty.dflt<|.int aw)<|gi s.b1 s.i)
def lpC (s:Lq):List Int:=((BC (((Kh s).drop 0).take<|M s.b10)<|aq ((M s.b10:Nat):Int).toNat (0:Int)).drop 0)
def lg (s:Lq):T (Rd Lq):=letI a:=((M s.b10:Nat):Int);letI b:=(s.HR,(lpC s).take a.toNat);letI c:=M s.b10;letI d:=((Kh s).drop 0).take c;.br (an<|s.i<s.n) (.ik (AA<|s.b3+s.i) c<|.ix s.i (M s.b1)<|.ik (AA<|s.b3+s.i) c<|.rm 1 a<|.req (0+c<=M (Kh s))<|.rc a (0:Int) (M d)<|.req (0+a.toNat<=M (BC d<|aq a.toNat (0:Int)))<|.rb (M s.b9) (M<|[b]) 32<|.re (M s.b9+M ([b])) (s.b9++([b]))<|.re c (Kh s)<|.nx {s with i:=AA<|s.i+1,b9:=s.b9++([b]),b10:=Kh s})<|.rl s.b9<|.rl s.b10<|.so (.exit 0) s
def mU (s:Lq):Prop:=s.st=.ready/\s.i=0/\(s.n=(M s.b1:Int)/\0<=s.n/\0<=s.b3/\s.b3+s.n<=(M s.GM:Int)/\M s.GM<=4096)/\s.b10=Dc s.GM s.b3 s.b1 0/\s.b9=[(s.HR,Dc s.GM s.b3 s.b1 0)]
def aX (s:Lq):Prop:=s.st=.ready/\(0<=s.i/\s.i<=s.n)/\(s.n=(M s.b1:Int)/\0<=s.n/\0<=s.b3/\s.b3+s.n<=(M s.GM:Int)/\M s.GM<=4096)/\s.b10=Dc s.GM s.b3 s.b1 s.i.toNat/\s.b9=(au<|s.i.toNat+1).map (λk:Nat=>(s.HR,Dc s.GM s.b3 s.b1 k))
def zf (s:Lq):Nat:=(s.n-s.i).toNat
def wR (x:Ex) (s s':Lq):Prop:=x=.exit 0/\s'.b9=Df s'.HR s'.GM s'.b3 s'.b1
theorem ama:∀s,mU s->aX s:=by
 exact aLS
def ake:Da aX zf wR lg:=by
 intro s hI;unfold lg;refine AH (λc1=>?_) λc1=>?_
 ·obtain ⟨ht,⟨h0,h1⟩,⟨hn,hn0,ha,hl,h4⟩,hb,ho⟩:=hI
  have hbl:M s.b10=M s.GM:=aNa
  have c1:s.i<s.n:=AX
  have wa:AA (s.b3+s.i)=s.b3+s.i:=AI
  have hB:Kh s=Dc s.GM s.b3 s.b1 (s.i.toNat+1):=aMd
  have hBl:M (Kh s)=M s.GM:=aNb
  have hC:(lpC s).take ((M s.b10:Nat):Int).toNat=Kh s:=aMx
  rw [AI (x:=s.i+1)]
  have et:(s.i+1).toNat=s.i.toNat+1:=A0
  refine ⟨⟨ht,⟨AZ,AZ⟩,⟨hn,hn0,ha,hl,h4⟩,?_,?_⟩,by simp only [zf];omega⟩
  ·simp only [et]
   exact hB
  ·simp only [et]
   rw [Pj,Jw,<-ho,E8,Kz,<-hB,<-hC]
 ·obtain ⟨ht,⟨h0,h1⟩,⟨hn,hn0,ha,hl,h4⟩,hb,ho⟩:=hI
  have c1:s.n<=s.i:=AX
  refine ⟨rfl,?_⟩;rw [ho]
  have e:s.i.toNat=M s.b1:=A0
  rw [e];rfl
def aV:AR Lq:=⟨8,41,[0,3,4,6,15,16],[],λs=>[.CO 7,.own 5 0,.own 3 0,.own 8 0,s.n,s.i],λs=>[⟨[s.HU,.xl (.int aw) s.HS],37,.cl,X⟩,⟨[.xl (.int aw) s.b1],35,.cl,X⟩,⟨[s.nV,.xl (.int aw) s.GM],37,.cl,X⟩,⟨[s.b3],3,.cl,X⟩,⟨[s.b4],3,.cl,X⟩,⟨[.fn 225 [.own 1 0]],332,.cl,X⟩,⟨[.os 9 2 0<|M s.b9],204,.cl,X⟩,⟨[.junk,.junk,.junk,.own 6 0,.v<|.tuple #[],.junk,.v<|.tuple #[],.v<|.tuple #[],.v<|.tuple #[],.v<|.tuple #[],.v<|.tuple #[],.junk],0,.Cg aat aay aaw s.st,X⟩,⟨[s.HR,.os 10 1 0<|M s.b10],37,.cl,X⟩,bV 37 Bl s.b9,bV 5 (.int aw) s.b10],λv b=>⟨AK v 4,AK v 5,Aj b 0 0,AF (.int aw) b 0 1,AF (.int aw) b 1 0,Aj b 2 0,AF (.int aw) b 2 1,Aj b 3 0,Aj b 4 0,Aj b 8 0,Ab Bl b 9,Ab (.int aw) b 10,.ready⟩,lg,λs r=> {r with n:=s.n,HU:=s.HU,HS:=s.HS,b1:=s.b1,nV:=s.nV,GM:=s.GM,b3:=s.b3,b4:=s.b4,HR:=s.HR,st:=s.st},λs=> {s with st:=.ready},λx s=> {s with st:=(match x with| .exit 0=> .ready|_=> .ready)},[.exit 0],mU,aX,zf⟩
abbrev dj:=aV.run
abbrev agI:=aV.Aq
def uK:List Bd:=[X7,aa1]
def azZ:Ax:=kI uK<|l0 uK
theorem ajk:Rq aX lg:=by
 intro s hI;refine ⟨λc1=>⟨?_,?_,?_,?_,?_,?_,?_,?_,?_,?_,?_,?_,ak⟩,λc1=>⟨A9,A9,ak⟩⟩
 all_goals ((obtain ⟨ht,⟨h0,h1⟩,⟨hn,hn0,ha,hl,h4⟩,hb,ho⟩:=hI;have hbl:M s.b10=M s.GM:=aNa;have c1:s.i<s.n:=A8;have wa:AA (s.b3+s.i)=s.b3+s.i:=AI;have hB:Kh s=Dc s.GM s.b3 s.b1 (s.i.toNat+1):=aMd;have hBl:M (Kh s)=M s.GM:=aNb;have hC:(lpC s).take ((M s.b10:Nat):Int).toNat=Kh s:=aMx;(first|omega|exact ⟨rfl,AJ⟩ |(rw [wa];omega) |(rw [hC];simp only [BD,Bi,Bp,ho,Ft,SS,Ei];omega) |(rw [hBl];omega) |(rw [C3,Ce,Wm A0];omega) |(rw [C3,Wm A0,nq A0];omega))))
def aaf:aV.Ok:={}
def aaP:aV.Pf (wR):=⟨ama,λs h=>by
 obtain ⟨n,i,HU,HS,b1,nV,GM,b3,b4,HR,b9,b10,st⟩:=s
 have e:=h.1
 subst e;rfl,ake,ajk⟩
def ql:=s2 (b:=bN f232 0) aaf aaP uK azZ
def azc:Fi mU aX wR agI dj:=AR.fin aaf aaP
structure Lr where
 (n i HU:Int)
 HS:List Int
 Vp:Int
 FP:List Int
 (b2 b3 HR:Int)
 b8:List Fl
 b9:List Int
 st:LS
def leB (s:Lr):List Int:=(s.b9.set (AA<|s.b2+s.i).toNat (255:Int))
def leC (s:Lr):List Int:=((BC (((leB s).drop 0).take<|M s.b9)<|aq ((M s.b9:Nat):Int).toNat (0:Int)).drop 0)
def lh (s:Lr):T (Rd Lr):=letI a:=((M s.b9:Nat):Int);letI b:=(s.HR,(leC s).take a.toNat);letI c:=M s.b9;letI d:=((leB s).drop 0).take c;.br (an<|s.i<s.n) (.ik (AA<|s.b2+s.i) c<|.ik (AA<|s.b2+s.i) c<|.rm 1 a<|.req (0+c<=M (leB s))<|.rc a (0:Int) (M d)<|.req (0+a.toNat<=M (BC d<|aq a.toNat (0:Int)))<|.rb (M s.b8) (M<|[b]) 32<|.re (M s.b8+M ([b])) (s.b8++([b]))<|.re c (leB s)<|.nx {s with i:=AA<|s.i+1,b8:=s.b8++([b]),b9:=leB s})<|.rl s.b8<|.rl s.b9<|.so (.exit 0) s
def mW (s:Lr):Prop:=s.st=.ready/\s.i=0/\(s.n=s.n/\0<=s.n/\0<=s.b2/\s.b2+s.n<=(M s.FP:Int)/\M s.FP<=4096)/\s.b9=Ec s.FP s.b2 0/\s.b8=[(s.HR,Ec s.FP s.b2 0)]
def aY (s:Lr):Prop:=s.st=.ready/\(0<=s.i/\s.i<=s.n)/\(s.n=s.n/\0<=s.n/\0<=s.b2/\s.b2+s.n<=(M s.FP:Int)/\M s.FP<=4096)/\s.b9=Ec s.FP s.b2 s.i.toNat/\s.b8=(au<|s.i.toNat+1).map (λk:Nat=>(s.HR,Ec s.FP s.b2 k))
def zT (s:Lr):Nat:=(s.n-s.i).toNat
def wS (x:Ex) (s s':Lr):Prop:=x=.exit 0/\s'.b8=(au<|s'.n.toNat+1).map (λk:Nat=>(s'.HR,Ec s'.FP s'.b2 k))
theorem amd:∀s,mW s->aY s:=by
 exact aLS
def akg:Da aY zT wS lh:=by
 intro s hI;unfold lh;refine AH (λc1=>?_) λc1=>?_
 ·obtain ⟨ht,⟨h0,h1⟩,⟨hn,hn0,ha,hl,h4⟩,hb,ho⟩:=hI
  have hbl:M s.b9=M s.FP:=aNv
  have c1:s.i<s.n:=AX
  have wa:AA (s.b2+s.i)=s.b2+s.i:=AI
  have hB:leB s=Ec s.FP s.b2 (s.i.toNat+1):=aN8
  have hBl:M (leB s)=M s.FP:=aNw
  have hC:(leC s).take ((M s.b9:Nat):Int).toNat=leB s:=aMy
  rw [AI (x:=s.i+1)]
  have et:(s.i+1).toNat=s.i.toNat+1:=A0
  refine ⟨⟨ht,⟨AZ,AZ⟩,⟨hn,hn0,ha,hl,h4⟩,?_,?_⟩,by simp only [zT];omega⟩
  ·simp only [et]
   exact hB
  ·simp only [et]
   rw [Pj,Jw,<-ho,E8,Kz,<-hB,<-hC]
 ·obtain ⟨ht,⟨h0,h1⟩,⟨hn,hn0,ha,hl,h4⟩,hb,ho⟩:=hI
  have c1:s.n<=s.i:=AX
  refine ⟨rfl,?_⟩;rw [ho]
  have e:s.i.toNat=s.n.toNat:=A0
  rw [e]
def aW:AR Lr:=⟨7,41,[0,3,4,6,15,16],[],λs=>[.CO 6,.own 4 0,.own 2 0,.own 7 0,s.n,s.i],λs=>[⟨[s.HU,.xl (.int aw) s.HS],37,.cl,X⟩,⟨[s.Vp,.xl (.int aw) s.FP],37,.cl,X⟩,⟨[s.b2],3,.cl,X⟩,⟨[s.b3],3,.cl,X⟩,⟨[.fn 230 []],332,.cl,X⟩,⟨[.os 8 2 0<|M s.b8],204,.cl,X⟩,⟨[.junk,.junk,.junk,.own 5 0,.v<|.tuple #[],.junk,.v<|.tuple #[],.v<|.tuple #[],.v<|.tuple #[],.v<|.tuple #[],.v<|.tuple #[],.junk],0,.Cg aat aay aaw s.st,X⟩,⟨[s.HR,.os 9 1 0<|M s.b9],37,.cl,X⟩,bV 37 Bl s.b8,bV 5 (.int aw) s.b9],λv b=>⟨AK v 4,AK v 5,Aj b 0 0,AF (.int aw) b 0 1,Aj b 1 0,AF (.int aw) b 1 1,Aj b 2 0,Aj b 3 0,Aj b 7 0,Ab Bl b 8,Ab (.int aw) b 9,.ready⟩,lh,λs r=> {r with n:=s.n,HU:=s.HU,HS:=s.HS,Vp:=s.Vp,FP:=s.FP,b2:=s.b2,b3:=s.b3,HR:=s.HR,st:=s.st},λs=> {s with st:=.ready},λx s=> {s with st:=(match x with| .exit 0=> .ready|_=> .ready)},[.exit 0],mW,aY,zT⟩
abbrev WS:=aW.run
abbrev agJ:=aW.Aq
def uJ:List Bd:=[X7,aa2]
def azY:Ax:=kI uJ<|la 3 func232 ql<|l0 uJ
theorem ajm:Rq aY lh:=by
 intro s hI;refine ⟨λc1=>⟨?_,?_,?_,?_,?_,?_,?_,?_,?_,?_,?_,ak⟩,λc1=>⟨A9,A9,ak⟩⟩
 all_goals ((obtain ⟨ht,⟨h0,h1⟩,⟨hn,hn0,ha,hl,h4⟩,hb,ho⟩:=hI;have hbl:M s.b9=M s.FP:=aNv;have c1:s.i<s.n:=A8;have wa:AA (s.b2+s.i)=s.b2+s.i:=AI;have hB:leB s=Ec s.FP s.b2 (s.i.toNat+1):=aN8;have hBl:M (leB s)=M s.FP:=aNw;have hC:(leC s).take ((M s.b9:Nat):Int).toNat=leB s:=aMy;(first|omega|exact ⟨rfl,AJ⟩ |(rw [wa];omega) |(rw [hC];simp only [BD,Bi,Bp,ho,Ft,SS,Ei];omega) |(rw [hBl];omega) |(rw [C3,Ce,Wm A0];omega) |(rw [C3,Wm A0,nq A0];omega))))
def aah:aW.Ok:={}
def aaR:aW.Pf (wS):=⟨amd,λs h=>by
 obtain ⟨n,i,HU,HS,Vp,FP,b2,b3,HR,b8,b9,st⟩:=s
 have e:=h.1
 subst e;rfl,akg,ajm⟩
def aOK:=s2 (b:=bN f232 0) aah aaR uJ azY
def azh:Fi mW aY wS agJ WS:=AR.fin aah aaR
def Ua (se:Int) (fl:List Int) (a:Int) (d:List Int):List Fl:=if Ep se fl a d=0 then Df se fl a d else []
def Ds (se:Int) (fl:List Int) (s:Int):List Fl:=if Hu se fl s=0 then Kl se fl s else []
def aSB:List LV->T LV
 | [.agg [.v (Y J se),.xl (.int aw) fl],.v (Y J at_),.xl (.int aw) d]=> .req (M d<=1000000) (.ok<|.AM [.xl Bl<|Ua se fl at_ d,Ep se fl at_ d])
 |_=> .no
def adG (se:Int) (fl:List Int) (at_:Int) (d:List Int):Lq:=(⟨(M d:Int),0,se,fl,d,se,fl,at_,(M d:Int),se,[(se,((BC (((BC fl<|aq (M fl:Int).toNat (0:Int)).drop 0).take (M fl:Int).toNat)<|aq (((M fl:Int).toNat:Nat):Int).toNat (0:Int)).drop 0).take (((M fl:Int).toNat:Nat):Int).toNat)],BC fl<|aq (M fl:Int).toNat (0:Int),.ready⟩:Lq)
def uI:List Bd:=[X7,aa1]
def azX:Ax:=kI uI<|la 3 func232 aOK<|la 3 func232 ql<|l0 uI
def ai1:=vo (S:=aSB) func217 uI azX (λargs lv h=>by
 unfold aSB at h;split at h
 ·rename_i se fl at_ d
  refine Ap (letI b:=(M fl:Int);letI c:=(BC fl<|aq b.toNat (0:Int));letI e:=((b.toNat:Nat):Int);letI g:=adG se fl at_ d;letI i:=(c.drop 0).take b.toNat;letI a:=(BC i<|aq e.toNat (0:Int));letI f:=(se,(a.drop 0).take e.toNat);.br ((!(HG se fl)) ||(an<|at_<0)) (.ok<|.AM [.xl Bl ([]:List Fl),(1:Int)])<|.br (an<|at_>(AA<|b-(M d:Int))) (.ok<|.AM [.xl Bl ([]:List Fl),(3:Int)])<|.rm 1 b<|.rc b (0:Int) (M fl)<|.rm 1 e<|.req (0+b.toNat<=M c)<|.rc e (0:Int) (M i)<|.req (0+e.toNat<=M a)<|.req ((M ([f]):Int)*32<=2^47/\(M ([f]):Int)<2^62)<|.rl ([f])<|.re b.toNat c<|.req (aV.q g)<|.rz (dj g).b9<|.ok<|.AM [.xl Bl<|((dj g).b9.drop 0).take<|M (dj g).b9,(0:Int)]) ?_;obtain ⟨hd,rfl⟩:=h;refine ⟨λc1=>?_,λc1=>⟨λc2=>?_,λc2=>?_⟩⟩
  ·have hE:Ep se fl at_ d=1:=by unfold Ep;rw [AD c1]
   unfold Ua;rw [hE];rfl
  all_goals have c1':HG se fl=U/\0<=at_:=by simp at c1;omega
  all_goals have hv:=NJ.1 c1'.1
  all_goals rw [AI (x:=(M fl:Int)-(M d:Int))] at c2
  ·have hE:Ep se fl at_ d=3:=by unfold Ep;rw [AE Zz,AD<|DC c2]
   unfold Ua;rw [hE];rfl
  have c2:at_<=(M fl:Int)-(M d:Int):=EA
  have hE:Ep se fl at_ d=0:=by unfold Ep;rw [AE Zz,AE A0]
  have z1:BC fl (aq (M fl:Int).toNat (0:Int))=fl:=aO1
  have z2:((BC (((BC fl<|aq (M fl:Int).toNat (0:Int)).drop 0).take (M fl:Int).toNat)<|aq (((M fl:Int).toNat:Nat):Int).toNat (0:Int)).drop 0).take (((M fl:Int).toNat:Nat):Int).toNat=fl:=by
   rw [z1,C3,C3];exact nQ rfl
  have z5:BC (((BC fl<|aq (M fl:Int).toNat (0:Int)).drop 0).take (M fl:Int).toNat) (aq (((M fl:Int).toNat:Nat):Int).toNat (0:Int))=fl:=by
   grind
  have z6:((BC fl<|aq (M fl:Int).toNat (0:Int)).drop 0).take (M fl:Int).toNat=fl:=by
   rw [z1,C3,Wm rfl]
  have hL:mU (adG se fl at_ d):=⟨rfl,rfl,⟨rfl,by show (0:Int)<=(M d:Int);omega,c1'.2,by show at_+(M d:Int)<=(M fl:Int);omega,hv.2.2.2.1⟩,z1,aNi⟩
  obtain ⟨s',_,q1,q2⟩:=azc _ hL;refine ⟨?_,?_,?_,?_,?_,?_,?_,A9,?_,⟨hL,rfl,rfl⟩,A0,?_⟩
  iterate 8 · (first|omega|(rw [z6,Ce];omega) |(rw [Ce];omega) |(rw [z5];omega) |(rw [z1];omega) |(simp only [Bi,Bp];decide))
  unfold Ua;rw [AD hE,hE,CP,DS<|Av _,q2];rfl
 ·cases h)
def aS3:List LV->T LV
 | [.agg [.v (Y J se),.xl (.int aw) fl],.v (Y J sc)]=> .ok (.AM [.xl Bl<|Ds se fl sc,Hu se fl sc])
 |_=> .no
def nJ (se:Int) (fl:List Int) (sc:Int):Lr:=(⟨se,0,se,fl,se,fl,AA<|sc*se,se,se,[(se,((BC (((BC fl<|aq (M fl:Int).toNat (0:Int)).drop 0).take (M fl:Int).toNat)<|aq (((M fl:Int).toNat:Nat):Int).toNat (0:Int)).drop 0).take (((M fl:Int).toNat:Nat):Int).toNat)],BC fl<|aq (M fl:Int).toNat (0:Int),.ready⟩:Lr)
def uH:List Bd:=[X7,aa2]
def azW:Ax:=kI uH<|la 3 func232 aOK<|la 3 func232 ql<|l0 uH
def aa4:=vo (S:=aS3) func221 uH azW (λargs lv h=>by
 unfold aS3 at h;split at h
 ·rename_i se fl sc
  refine Ap (letI b:=(M fl:Int);letI c:=(BC fl<|aq b.toNat (0:Int));letI d:=((b.toNat:Nat):Int);letI f:=nJ se fl sc;letI g:=(c.drop 0).take b.toNat;letI a:=(BC g<|aq d.toNat (0:Int));letI e:=(se,(a.drop 0).take d.toNat);.br (!(HG se fl)) (.ok<|.AM [.xl Bl ([]:List Fl),(1:Int)])<|.br (an<|sc<0) (.ok<|.AM [.xl Bl ([]:List Fl),(1:Int)])<|.req (se≠0)<|.br (an<|sc>=(AA<|b.tdiv se)) (.ok<|.AM [.xl Bl ([]:List Fl),(1:Int)])<|.rm 1 b<|.rc b (0:Int) (M fl)<|.rm 1 d<|.req (0+b.toNat<=M c)<|.rc d (0:Int) (M g)<|.req (0+d.toNat<=M a)<|.req ((M ([e]):Int)*32<=2^47/\(M ([e]):Int)<2^62)<|.rl ([e])<|.re b.toNat c<|.req (aW.q f)<|.rz (WS f).b8<|.ok<|.AM [.xl Bl<|((WS f).b8.drop 0).take<|M (WS f).b8,(0:Int)]) ?_;obtain rfl:=h
  have bad:Hu se fl sc=1->LV.AM [.xl Bl ([]:List Fl),.v<|Y J 1]=LV.AM [.xl Bl<|Ds se fl sc,.v<|Y J<|Hu se fl sc]:=λhE=>by unfold Ds;rw [hE];rfl
  refine ⟨λc1=>bad ?_,λc1=>⟨λc2=>bad ?_,λc2=>⟨?_,λc3=>bad ?_,λc3=>?_⟩⟩⟩
  ·unfold Hu;rw [AD (by rw [c1];rfl)]
  ·unfold Hu;rw [AD<|by rw [c2,Bool.true_or,SX]]
  all_goals have hv:=NJ.1 AX
  ·omega
  all_goals have hd:0<=(M fl:Int).tdiv se/\(M fl:Int).tdiv se<=(M fl:Int):=(by rw [Hy A0];exact ⟨SZ A0 A0,V2 _ A0⟩)
  all_goals (rw [AI (x:=(M fl:Int).tdiv se)] at c3)
  ·unfold Hu;rw [AD<|by rw [c3,SX,SX]]
  have hE:Hu se fl sc=0:=by unfold Hu;rw [AE (by rw [c1,c2,c3];decide)]
  have c2:0<=sc:=EA
  have c3:sc<(M fl:Int).tdiv se:=N7
  have hm:sc*se+se<=(M fl:Int):=by
   have h1:(sc+1)*se<=(M fl:Int).tdiv se*se:=M0 A0 A0
   have h2:(M fl:Int).tdiv se*se<=(M fl:Int):=by
    rw [Hy A0];exact Int.ediv_mul_le _ A0
   have h3:(sc+1)*se=sc*se+se:=by rw [ka,Zc]
   omega
  have hn:0<=sc*se:=IS c2 A0
  have wm:AA (sc*se)=sc*se:=AI
  have z1:BC fl (aq (M fl:Int).toNat (0:Int))=fl:=aO1
  have z2:((BC (((BC fl<|aq (M fl:Int).toNat (0:Int)).drop 0).take (M fl:Int).toNat)<|aq (((M fl:Int).toNat:Nat):Int).toNat (0:Int)).drop 0).take (((M fl:Int).toNat:Nat):Int).toNat=fl:=by
   rw [z1,C3,C3];exact nQ rfl
  have z5:BC (((BC fl<|aq (M fl:Int).toNat (0:Int)).drop 0).take (M fl:Int).toNat) (aq (((M fl:Int).toNat:Nat):Int).toNat (0:Int))=fl:=by
   grind
  have z6:((BC fl<|aq (M fl:Int).toNat (0:Int)).drop 0).take (M fl:Int).toNat=fl:=by
   rw [z1,C3,Wm rfl]
  have hL:mW (nJ se fl sc):=⟨rfl,rfl,⟨rfl,by show (0:Int)<=se;omega,by show 0<=AA (sc*se);omega,by show AA (sc*se)+se<=(M fl:Int);omega,hv.2.2.2.1⟩,z1,aNi⟩
  obtain ⟨s',_,q1,q2⟩:=azh _ hL
  have q2:(WS<|nJ se fl sc).b8=(au<|se.toNat+1).map (λk:Nat=>(se,Ec fl (AA<|sc*se) k)):=q2
  rw [wm] at q2
  have q2:(WS<|nJ se fl sc).b8=Kl se fl sc:=q2
  refine ⟨?_,?_,?_,?_,?_,?_,?_,A9,?_,⟨hL,rfl,rfl⟩,A0,?_⟩
  iterate 8 · (first|omega|(rw [z6,Ce];omega) |(rw [Ce];omega) |(rw [z5];omega) |(rw [z1];omega) |(simp only [Bi,Bp];decide))
  unfold Ds;rw [AD hE,hE,CP,DS<|Av _,q2];rfl
 ·cases h)
def auB:List LV->T LV:=λ_=> .no
def cW:VV 1000204 auB:=by
 exact xb
def BU (al:List Fl):Fl:=G5 al<|(M al:Int)-1
def J3 (al:List Fl) (er a:Int) (d:List Int):Int:=if Ep (BU al).1 (BU al).2 a d=0 then er else Ep (BU al).1 (BU al).2 a d
def Kv (al:List Fl) (a:Int) (d:List Int):List Fl:=if Ep (BU al).1 (BU al).2 a d=0 then al++(Df (BU al).1 (BU al).2 a d).drop 1 else al
def aRd:Uu:=λi=>if i=10 then ah ([9,10,11],[]) else if i=11 then ah ([9,10,11],[]) else aj
structure GY where
 at_:Int
 d:List Int
 er:Int
 al:List Fl
def UH (s:GY):List LV:=[.own 0 0,s.at_,.xl (.int aw) s.d]
def Z5 (s:GY):List AB:=[⟨[.os 1 2 0<|M s.al,s.er],325,.cl,X⟩,bV 37 Bl s.al]
structure Xe where
 er:Int
 al:List Fl
def abT (s:Xe):LV:=.v<|.tuple #[]
def acB (s:Xe):List AB:=[⟨[.os 2 2 0<|M s.al,s.er],325,.cl,X⟩,⟨[],37,.dead,X⟩,bV 37 Bl s.al]
def aBL (s:GY):Int:=(AA<|((M s.al:Nat):Int)-1)
def Vh (s:GY):Fl:=(s.al.getD (aBL s).toNat<|Ty.dflt Bl)
def fy (s:GY):T Xe:=letI c:=Ep (Vh s).1 (Vh s).2 s.at_ s.d;letI e:=Ua (Vh s).1 (Vh s).2 s.at_ s.d;letI b:=(M e:Int);letI a:=((e.drop (1:Int).toNat).take<|b.toNat-(1:Int).toNat);.ik (aBL s) (M s.al)<|.req (M s.d<=1000000)<|.br (!(c==(0:Int))) (.rl s.al<|.ok<|⟨c,s.al⟩)<|.req (0<=(1:Int)/\(1:Int)<=b/\b<=b)<|.rb (M s.al) (M a) 32<|.re (M s.al+M a) (s.al++a)<|.ok<|⟨s.er,s.al++a⟩
def aAt (s:GY):Prop:=s.al≠ []/\M s.al<=4000000/\M s.d<=5000
def yp (s:GY):Xe:=⟨J3 s.al s.er s.at_ s.d,Kv s.al s.at_ s.d⟩
def Tp:Cs GY Xe:=⟨UH,Z5,λv b=>⟨AK v 1,B4 (.int aw) v 2,Aj b 0 1,Ab Bl b 1⟩,aAt,[],[.ms 1 0],abT,acB,yp⟩
abbrev fP (s:GY):Prop:=aAt s/\UH s=UH s/\Z5 s=Z5 s
def Wh:List Bd:=[ai1,fq,cW]
def aRO:Ax:=kI Wh<|l0 Wh
def aTC:DE:=Dl prog AV Wh 20 2
def aoF:ED prog AV aTC:=HW<|gk Wh
def ayx (s:GY):((EP prog AV Wh aTC aRO).k 189 (UH s)<|Z5 s).bind (λq=>G2 (M<|Z5 s) [0] [.ms 1 0] .normal (q.1::UH s) q.2)=(fy s).mp (λs2=>⟨.normal,M (UH s)+1,[abT s2],acB s2,U⟩):=AT
theorem aw2 (s:GY) (hE:aAt s):(fy s).all (λq=>q=yp s):=by
 obtain ⟨h0,h1,h2⟩:=hE
 have hp:=OM.2 h0
 have w:aBL s=(M s.al:Int)-1:=AI
 have hY:Vh s=BU s.al:=by unfold Vh BU G5;rw [w];rfl
 unfold fy yp J3 Kv;rw [w,hY];refine ⟨A0,A0,A0,λc1=>?_,λc1=>?_⟩
 ·have c1:¬Ep (BU s.al).1 (BU s.al).2 s.at_ s.d=0:=A8
  rw [AE c1,AE c1];exact ⟨A9,rfl⟩
 ·have c1:Ep (BU s.al).1 (BU s.al).2 s.at_ s.d=0:=A8
  have hR:Ua (BU s.al).1 (BU s.al).2 s.at_ s.d=Df (BU s.al).1 (BU s.al).2 s.at_ s.d:=AD c1
  have hl:M (Df (BU s.al).1 (BU s.al).2 s.at_ s.d)=M s.d+1:=by unfold Df;simp
  rw [AD c1,AD c1,hR,hl];rw [DS A8];refine ⟨A0,A8,AJ,rfl⟩
def fS:DX prog AV 189 Tp.m:=Cs.sound (D:=Tp) (t:=fy) (gk Wh) aoF aRO.h ayx λs hE=>⟨aw2 s hE⟩
def J9:Int->List (List Int)->Bool
 |_,[]=>U
 |left,d::ds=>if (an ((M d:Int)>65535) ||an (7+(M d:Int)>left))=U then X else J9 (left-(7+(M d:Int))) ds
theorem aQi:∀(ds:List<|List Int) (left:Int),0<=left->J9 left ds=(an ((((ds.map λd=>7+M d).sum:Nat):Int)<=left)&&ds.all (λd=>an<|M d<=65535))
 | [],left,h=>by simp [J9,h]
 | d::ds,left,h=>by
  simp only [J9,E8,List.sum_cons,IN];split
  ·rename_i hc
   rw [Eq.comm,Hw];intro hh;simp only [Cl,AY,Ac] at hc hh;omega
  ·rename_i hc
   simp only [Cl,Ac,not_or] at hc;rw [aQi ds _ A0,IP]
   grind
structure Lj where
 r:Bool
 left:Int
 l:List (List Int)
 (n i:Int)
def aHg:=bN f192 0
def aBR (s:Lj):T (Rd Lj):=
 .br (an<|s.i<s.n) (.ix s.i (M s.l)<|.br ((an<|(M (gx (e:=.sl<|.int aw) s.l s.i):Int)>65535) ||(an<|(AA<|7+(M (gx (e:=.sl<|.int aw) s.l s.i):Int))>s.left)) (.so (.ret) {s with r:=X})<|.nx {s with left:=AA<|s.left-(AA<|7+(M (gx (e:=.sl<|.int aw) s.l s.i):Int)),i:=AA<|s.i+1}) (.so (.exit 0) s)
def mZ (s:Lj):Prop:=s.i=0/\s.n<=5000/\s.n=(M s.l:Int)/\Hj s.l/\0<=s.left/\s.left<=100000
def mO (s:Lj):Prop:=0<=s.i/\s.i<=s.n/\s.n<=5000/\s.n=(M s.l:Int)/\Hj s.l/\0<=s.left/\s.left<=100000
def zV (s:Lj):Nat:=(s.n-s.i).toNat
def aKT (x:Ex) (s s':Lj):Prop:=True
def amr:∀s,mZ s->mO s:=by
 exact Zi
theorem alu:Da mO zV aKT aBR:=by
 intro s hI;obtain ⟨h0,h1,h2,h3,h4,h5,h6⟩:=hI;refine AH (λc1=>AH (λc2=>trivial) λc2=>?_) λc1=>trivial
 ·have c1:s.i<s.n:=A8
  have hk:=WJ h4 h0 A0
  have w:AA (7+(M (gx (e:=.sl<|.int aw) s.l s.i):Int))=7+(M (gx (e:=.sl<|.int aw) s.l s.i):Int):=AI
  rw [w,AI (x:=s.i+1),AI (x:=s.left-(7+(M (gx (e:=.sl<|.int aw) s.l s.i):Int)))];exact ⟨⟨A8,A8,h2,h3,h4,A8,A8⟩,by simp only [zV];omega⟩
def S6:AR Lj:=⟨0,32,[4,5,10,11,12],[],λs=>[s.r,s.left,.xl (.sl<|.int aw) s.l,s.n,s.i],λ_=>[],λv b=>⟨E4 v 0,AK v 1,B4 (.sl<|.int aw) v 2,AK v 3,AK v 4⟩,aBR,λs r=> {r with l:=s.l,n:=s.n},λs=>s,λ_ s=>s,[.ret,.exit 0],mZ,mO,zV⟩
abbrev aOH:=S6.run
abbrev aRp:=S6.Aq
def ajq:Rq mO aBR:=by
 intro s hI;refine ⟨λc1=>⟨?_,λ_=>trivial,λ_=>trivial⟩,λ_=>trivial⟩
 ·exact aMK
def aR9:List Bd:=[cW]
def aal:S6.Ok:={}
def aaV:S6.Pf (aKT):=⟨amr,λs h=>rfl,alu,ajq⟩
def avH:SA 0 aHg S6:=s1 aal aaV aR9 kN
theorem agy:Rs mZ aRp aOH (λs:Lj=>J9 s.left<|s.l.drop s.i.toNat) (λx s' (v:Bool)=>(x=.ret/\s'.r=X/\v=X)\/(x=.exit 0/\v=U)):=DJ aal aaV (λs hI=>by
  obtain ⟨h0,h1,h2,h3,h4,h5,h6⟩:=hI;refine AH (λc1=>AH (λc2=>?_) λc2=>?_) λc1=>?_
  ·have c1:s.i<s.n:=A8
   have hk:=WJ h4 h0 A0
   have w:AA (7+(M (gx (e:=.sl<|.int aw) s.l s.i):Int))=7+(M (gx (e:=.sl<|.int aw) s.l s.i):Int):=AI
   rw [w] at c2;refine .inl ⟨rfl,rfl,?_⟩;rw [W9 h0 A0,J9,AD c2]
  ·have c1:s.i<s.n:=A8
   have hk:=WJ h4 h0 A0
   have w:AA (7+(M (gx (e:=.sl<|.int aw) s.l s.i):Int))=7+(M (gx (e:=.sl<|.int aw) s.l s.i):Int):=AI
   rw [w,AI (x:=s.i+1),AI (x:=s.left-(7+(M (gx (e:=.sl<|.int aw) s.l s.i):Int)))]
   show J9 _ _=J9 _ _
   rw [W9 h0 A0,J9,AE A8]
  ·have c1:s.n<=s.i:=A8
   refine .inr ⟨rfl,?_⟩;rw [Ef A0];rfl)
def aSY:List LV->T LV
 | [.xl (.sl (.int aw)) ds,.v (Y J sz)]=> .req ((M ds<=5000/\Hj ds)/\5<=sz/\sz<=100000) (.ok<|J9 (sz-5) ds)
 |_=> .no
def aa0:=vm (S:=aSY) func192 aR9 kN (L:=(λi=>if i=3 then S6.lp else Ag i)) (λb hb=>by
 rw [show BA _=[aHg] by kernel_rfl] at hb
 simp only [B8,Bu,Bt] at hb;subst hb;exact avH) (λargs lv h=>by
 unfold aSY at h;split at h
 ·rename_i ds sz
  refine Ap (letI a:=(M ds:Int);.req (S6.q (⟨X,(AA<|sz-5),ds,a,0⟩:Lj))<|.br (Bj (aRp (⟨X,(AA<|sz-5),ds,a,0⟩:Lj))<|.ret) (.ok (aOH (⟨X,(AA<|sz-5),ds,a,0⟩:Lj)).r)<|.ok U) ?_;obtain ⟨⟨⟨h0,h1⟩,h2,h3⟩,rfl⟩:=h;rw [AI (x:=sz-5)]
  have hE:mZ ⟨X,sz-5,ds,(M ds:Int),0⟩:=⟨rfl,aNh,rfl,h1,by show 0<=sz-5;omega,by show sz-5<=100000;omega⟩
  have q:=agy _ hE
  refine ⟨⟨hE,rfl,rfl⟩,?_⟩
  have e:J9 (sz-5) (ds.drop (0:Int).toNat)=J9 (sz-5) ds:=rfl
  rw [<-e];rcases q with ⟨q1,q2,q3⟩ |⟨q1,q2⟩<;>rw [q1]
  ·refine ⟨λ_=>?_,λhc=>by cases hc⟩
   rw [q2];exact B1 (λz=>LV.v<|.bool z) q3.symm
  ·exact ⟨λhc=>(by cases hc),λ_=>B1 (λz=>LV.v<|.bool z) q2.symm⟩
 ·cases h)
structure Ni where
 n:Int
def UT (s:Ni):List LV:=[.v<|Y ax s.n]
def Yj (s:Ni):List AB:=[]
structure Xb where
 l:List Int
def abD (s:Xb):LV:=.os 0 1 0<|M s.l
def abw (s:Xb):List AB:=[bV 5 (.int aw) s.l]
def vZ (s:Ni):T Xb:=letI a:=IntKind.u8.wrap<|s.n.fdiv<|2^24;letI b:=IntKind.u8.wrap<|s.n.fdiv<|2^16;letI c:=IntKind.u8.wrap<|s.n.fdiv<|2^8;.re 4 [a,b,c,IntKind.u8.wrap s.n]<|.ok<|⟨[a,b,c,IntKind.u8.wrap s.n]⟩
def aB7 (s:Ni):Prop:=True
def aaz (s:Ni):Xb:=⟨Cq s.n⟩
def UC:Cs Ni Xb:=⟨UT,Yj,λv b=>⟨AK v 0⟩,aB7,[],[],abD,abw,aaz⟩
abbrev aiL (s:Ni):Prop:=aB7 s/\UT s=UT s/\Yj s=Yj s
def eM:List Bd:=[aJi]
def aTa:DE:=Dl prog AV (eM) 20 2
def aoR:ED prog AV aTa:=HW<|gk eM
def ayS (s:Ni):((EP prog AV eM aTa Ff).k 195 (UT s)<|Yj s).bind (λq=>G2 (M<|Yj s) [0] [] .normal (q.1::UT s) q.2)=(vZ s).mp (λs2=>⟨.normal,M (UT s)+1,[abD s2],abw s2,U⟩):=AT
def avY (s:Ni) (hE:aB7 s):(vZ s).all (λq=>q=aaz s):=by
 exact ⟨A9,rfl⟩
def aty:DX prog AV 195 UC.m:=Cs.sound (D:=UC) (t:=vZ) (gk eM) aoR Q9 ayS λs hE=>⟨avY s hE⟩
def tn:DX prog AV 195 (QU λa=>UC.m a []):=aFJ aty
def af6 (m:List Fl) (z:Fl):BU (m++[z])=z:=by
 unfold BU G5
 simp
theorem pY {f:Nat->Fl}{n:Nat}(h:1<=n) (al:List Fl):BU (al++((au<|n+1).map f).drop 1)=f n:=by
 rw [Pj,Jw,E8,Kz,aKU A8,<-Cm];exact af6 _ _
def qT {se:Int}{a b:List Int}(h:M a=M b):HG se a=HG se b:=by unfold HG;rw [h]
theorem aie {se:Int}{fl:List Int}(h:FJ se fl=U) {i:Int}(h0:0<=i) (h1:i<(M fl:Int).tdiv se):0<=i*se/\(i+1)*se=i*se+se/\i*se+se<=(M fl:Int):=by
 obtain ⟨hf,h2,h3,h4,h5⟩:=ML.1 h
 have hm:=(NJ.1 hf).2.2.2.2
 have e:=wv (M fl:Int) se
 have h6:(i+1)*se=i*se+se:=A8
 have h7:(i+1)*se<=(M fl:Int).tdiv se*se:=M0 A0 A0
 rw [Int.mul_comm] at e;exact ⟨IS h0 A0,h6,A0⟩
structure Ny where
 r:Bool
 l:List Int
 (n i qP aBj:Int)
 afI:List (List Int)
 ug:Int
 pP:Bool
 (er se:Int)
 fl:List Int
 al:List Fl
def vr (s:Ny):T (Rd Ny):=
 .br (an<|s.i<s.n) (.ix s.i (M s.l)<|.br ((gi s.l s.i) !=255) (.rl s.al<|.so (.ret) {s with r:=U})<|.rl s.al<|.nx {s with i:=AA<|s.i+1}) (.rl s.al<|.so (.exit 0) s)
def iR (s:Ny):Prop:=s.i=0/\s.n<=4096/\s.n=(M s.l:Int)
def j7 (s:Ny):Prop:=0<=s.i/\s.i<=s.n/\s.n<=4096/\s.n=(M s.l:Int)
def tF (s:Ny):Nat:=(s.n-s.i).toNat
def acX (x:Ex) (s s':Ny):Prop:=True
def aik:∀s,iR s->j7 s:=by
 exact kc
theorem awm:Da j7 tF acX vr:=by
 intro s hI;obtain ⟨h0,h1,h2,h3⟩:=hI;refine AH (λc1=>AH (λc2=>trivial) λc2=>?_) λc1=>trivial
 have c1:s.i<s.n:=A8
 rw [AI (x:=s.i+1)];exact ⟨⟨A8,A8,h2,h3⟩,by simp only [tF];omega⟩
def Yt:AR Ny:=⟨4,26,[3,17,18,19],[],λs=>[s.r,.xl (.int aw) s.l,s.n,s.i],λs=>[⟨[s.qP,.v<|Y ax s.aBj,.xl (.sl<|.int aw) s.afI,s.ug,s.pP],237,.cl,X⟩,⟨[.os 3 2 0<|M s.al,s.er],325,.cl,X⟩,⟨[s.se,.xl (.int aw) s.fl],37,.cl,X⟩,bV 37 Bl s.al],λv b=>⟨E4 v 0,B4 (.int aw) v 1,AK v 2,AK v 3,Aj b 0 0,Aj b 0 1,AF (.sl<|.int aw) b 0 2,Aj b 0 3,Kn b 0 4,Aj b 1 1,Aj b 2 0,AF (.int aw) b 2 1,Ab Bl b 3⟩,vr,λs r=> {s with r:=r.r,i:=r.i},λs=>s,λ_ s=>s,[.ret,.exit 0],iR,j7,tF⟩
abbrev q9:=Yt.run
abbrev dV:=Yt.Aq
def Wg:List Bd:=[dx,uj,aa0,fq,aa4,cW]
def azV:Ax:=Ht Wg (l0 Wg) [⟨189,Tp.m,fS⟩,⟨195,QU λa=>UC.m a [],tn⟩]
def awI:Rq j7 vr:=by
 exact aKm
def aPG:Yt.Ok:={}
def aPC:Yt.Pf (acX):=⟨aik,λs h=>rfl,awm,awI⟩
def pn:=s2 (b:=bN f193 0) aPG aPC Wg azV
theorem aqf:Rs iR dV q9 (λs:Ny=>(s.l.drop s.i.toNat).all λb=>b==255) (λx s' (v:Bool)=>(x=.ret/\s'.r=U/\v=X)\/(x=.exit 0/\v=U)):=DJ aPG aPC (λs hI=>by
  obtain ⟨h0,h1,h2,h3⟩:=hI;refine AH (λc1=>AH (λc2=>?_) λc2=>?_) λc1=>?_
  ·have c1:s.i<s.n:=A8
   refine .inl ⟨rfl,rfl,?_⟩
   have:(gi s.l s.i==255)=false:=A8
   rw [(gi_step h0 A0).1,IN,this];rfl
  ·have c1:s.i<s.n:=A8
   have:(gi s.l s.i==255)=true:=A8
   rw [AI (x:=s.i+1)]
   show List.all _ _=List.all _ _
   rw [(gi_step h0 A0).1,IN,this,E9]
  ·have c1:s.n<=s.i:=A8
   refine .inr ⟨rfl,?_⟩;rw [Ef A0];rfl)
structure Gf where
 keep:List (List Int)
 (half other Dd i WZ Vf:Int)
 nU:List (List Int)
 Tv:Int
 Ig:Bool
 (er se:Int)
 fl:List Int
 al:List Fl
def aHY:=bN f152 0
def IY (s:Gf):Ny:=(⟨X,(s.fl.drop (AA<|s.i*s.se).toNat).take<|(AA<|(AA<|s.i+1)*s.se).toNat-(AA<|s.i*s.se).toNat,(M ((s.fl.drop (AA<|s.i*s.se).toNat).take<|(AA<|(AA<|s.i+1)*s.se).toNat-(AA<|s.i*s.se).toNat):Int),0,s.WZ,s.Vf,s.nU,s.Tv,s.Ig,s.er,s.se,s.fl,s.al⟩:Ny)
def G6 (s:Gf):Int:=(AA<|(AA<|s.other+1)*s.Dd)
def reI (s:Gf):Int:=(AA<|((M s.al:Nat):Int)-1)
def Bh (s:Gf):Fl:=(s.al.getD (reI s).toNat<|Ty.dflt Bl)
def Uo (s:Gf):T (Rd Gf):=
 .br (an<|s.i<(G6 s)) (.req (0<=(AA<|s.i*s.se)/\(AA<|s.i*s.se)<=(AA<|(AA<|s.i+1)*s.se)/\(AA<|(AA<|s.i+1)*s.se)<=(M s.fl:Int))<|.rl s.al<|.req (Yt.q<|IY s)<|.br (Bj (dV<|IY s)<|.ret) (.br (q9<|IY s).r (.ik (reI s) (M s.al)<|.br (!((Hu (Bh s).1 (Bh s).2 s.i)==(0:Int))) (.rl s.al<|.nx {s with i:=AA<|s.i+1,er:=Hu (Bh s).1 (Bh s).2 s.i})<|.req (0<=(1:Int)/\(1:Int)<=(M (Ds (Bh s).1 (Bh s).2 s.i):Int)/\(M (Ds (Bh s).1 (Bh s).2 s.i):Int)<=(M (Ds (Bh s).1 (Bh s).2 s.i):Int))<|.rb (M s.al) (M<|((Ds (Bh s).1 (Bh s).2 s.i).drop (1:Int).toNat).take<|(M (Ds (Bh s).1 (Bh s).2 s.i):Int).toNat-(1:Int).toNat) 32<|.re (M s.al+M (((Ds (Bh s).1 (Bh s).2 s.i).drop (1:Int).toNat).take<|(M (Ds (Bh s).1 (Bh s).2 s.i):Int).toNat-(1:Int).toNat)) (s.al++(((Ds (Bh s).1 (Bh s).2 s.i).drop (1:Int).toNat).take<|(M (Ds (Bh s).1 (Bh s).2 s.i):Int).toNat-(1:Int).toNat))<|.nx {s with i:=AA<|s.i+1,al:=s.al++(((Ds (Bh s).1 (Bh s).2 s.i).drop (1:Int).toNat).take<|(M (Ds (Bh s).1 (Bh s).2 s.i):Int).toNat-(1:Int).toNat)})<|.rl s.al<|.nx {s with i:=AA<|s.i+1})<|.br X (.ik (reI s) (M s.al)<|.br (!((Hu (Bh s).1 (Bh s).2 s.i)==(0:Int))) (.rl s.al<|.nx {s with i:=AA<|s.i+1,er:=Hu (Bh s).1 (Bh s).2 s.i})<|.req (0<=(1:Int)/\(1:Int)<=(M (Ds (Bh s).1 (Bh s).2 s.i):Int)/\(M (Ds (Bh s).1 (Bh s).2 s.i):Int)<=(M (Ds (Bh s).1 (Bh s).2 s.i):Int))<|.rb (M s.al) (M<|((Ds (Bh s).1 (Bh s).2 s.i).drop (1:Int).toNat).take<|(M (Ds (Bh s).1 (Bh s).2 s.i):Int).toNat-(1:Int).toNat) 32<|.re (M s.al+M (((Ds (Bh s).1 (Bh s).2 s.i).drop (1:Int).toNat).take<|(M (Ds (Bh s).1 (Bh s).2 s.i):Int).toNat-(1:Int).toNat)) (s.al++(((Ds (Bh s).1 (Bh s).2 s.i).drop (1:Int).toNat).take<|(M (Ds (Bh s).1 (Bh s).2 s.i):Int).toNat-(1:Int).toNat))<|.nx {s with i:=AA<|s.i+1,al:=s.al++(((Ds (Bh s).1 (Bh s).2 s.i).drop (1:Int).toNat).take<|(M (Ds (Bh s).1 (Bh s).2 s.i):Int).toNat-(1:Int).toNat)})<|.rl s.al<|.nx {s with i:=AA<|s.i+1}) (.rl s.al<|.so (.exit 0) s)
def KR (s:Gf):Prop:=FJ s.se s.fl=U/\(s.other=0\/s.other=1)/\s.Dd*2=(M s.fl:Int).tdiv s.se
def bF (s:Gf):Prop:=s.i=s.other*s.Dd/\KR s/\s.er=0/\M s.al=1/\(BU s.al).1=s.se/\M (BU s.al).2=M s.fl
def Mx (s:Gf):Prop:=(s.other*s.Dd<=s.i/\s.i<=(s.other+1)*s.Dd)/\KR s/\s.er=0/\(s.al≠ []/\(M s.al:Int)<=1+600*s.i)/\(BU s.al).1=s.se/\M (BU s.al).2=M s.fl
def XG (s:Gf):Nat:=(G6 s-s.i).toNat
def wQ (x:Ex) (s s':Gf):Prop:=x=.exit 0/\s'.er=0/\(s'.al≠ []/\(M s'.al:Int)<=3000000)/\(BU s'.al).1=s'.se/\M (BU s'.al).2=M s'.fl
theorem alz:∀s,bF s->Mx s:=by
 rintro s ⟨h0,⟨h1,h2,h3⟩,h4,h5,h6,h7⟩
 have hj:=ML.1 h1
 have hs0:0<=s.Dd:=by have:0<=(M s.fl:Int).tdiv s.se:=(by rw [Hy A0];exact SZ A0 A0);omega
 have hz0:(s.other+1)*s.Dd=s.other*s.Dd+s.Dd:=A8
 have ho:0<=s.other*s.Dd:=A8
 exact ⟨⟨A0,A0⟩,⟨h1,h2,h3⟩,h4,⟨A8,A0⟩,h6,h7⟩
theorem Ul (s:Gf) (hI:Mx s) (c1:an (s.i<G6 s)=U):reI s=(M s.al:Int)-1/\Bh s=BU s.al/\AA (s.i*s.se)=s.i*s.se/\AA (AA (s.i+1)*s.se)=s.i*s.se+s.se/\AA (s.i+1)=s.i+1/\
  Hu (BU s.al).1 (BU s.al).2 s.i=0/\Ds (BU s.al).1 (BU s.al).2 s.i=Kl (BU s.al).1 (BU s.al).2 s.i/\M (Kl (BU s.al).1 (BU s.al).2 s.i)=s.se.toNat+1/\0<=s.i*s.se/\s.i*s.se+s.se<=(M s.fl:Int)/\1<=s.se/\s.se<=512/\s.i<G6 s/\0<=s.i/\s.i<=4096/\M s.fl<=4096/\G6 s=(s.other+1)*s.Dd:=by
 obtain ⟨h0,⟨h1,h2,h3⟩,h4,h5,h6,h7⟩:=hI
 have hj:=ML.1 h1
 have hf:=NJ.1 hj.1
 have hq:(M s.fl:Int).tdiv s.se<=(M s.fl:Int):=aMt
 have hp:=OM.2 h5.1
 have hz0:(s.other+1)*s.Dd=s.other*s.Dd+s.Dd:=by rw [ka,Zc]
 have ho:s.other*s.Dd=0\/s.other*s.Dd=s.Dd:=by rcases h2 with e|e<;>rw [e]<;>simp
 have hz:G6 s=s.other*s.Dd+s.Dd:=by unfold G6;rw [AI (x:=s.other+1),hz0];exact AI
 have c1:s.i<G6 s:=DC c1
 have hi:reI s=(M s.al:Int)-1:=AI
 have hk:=aie h1 (i:=s.i) A0 A0
 have hfl:HG s.se (BU s.al).2=true:=by rw [qT h7];exact hj.1
 have hE:Hu (BU s.al).1 (BU s.al).2 s.i=0:=by unfold Hu;rw [h6,hfl,h7,AE A8]
 refine ⟨hi,by unfold Bh BU G5;rw [hi];rfl,AI,by rw [AI (x:=s.i+1),hk.2.1];exact AI,AI,hE,AD hE,by unfold Kl;rw [h6];simp,A0,A0,A0,A0,c1,A0,A0,A0,A0⟩
def aau (s:Gf) (hI:Mx s) (c1:an (s.i<G6 s)=U):iR (IY s):=by
 obtain ⟨hi,hy,w1,w2,wi,hE,hR,hl,n1,n2,n3,n4,n5,n6,n7,n8,n9⟩:=Ul s hI c1;refine ⟨rfl,?_,rfl⟩
 show ((M (List.take _<|List.drop _ s.fl):Nat):Int)<=4096
 simp only [M6,Eu];omega
theorem aly (s:Gf) (hI:Mx s):(M s.al:Int)<=3000000:=by
 obtain ⟨h0,⟨h1,h2,h3⟩,h4,h5,h6,h7⟩:=hI
 have hj:=ML.1 h1
 have hq:(M s.fl:Int).tdiv s.se<=(M s.fl:Int):=aMt
 have hz0:(s.other+1)*s.Dd=s.other*s.Dd+s.Dd:=A8
 have ho:s.other*s.Dd=0\/s.other*s.Dd=s.Dd:=A8
 omega
def aJz (s:Gf) (hI:Mx s) (c1:an (s.i<G6 s)=U):BU (s.al++(Kl (BU s.al).1 (BU s.al).2 s.i).drop 1)=(s.se,Ec (BU s.al).2 (s.i*s.se) s.se.toNat):=by
 obtain ⟨hi,hy,w1,w2,wi,hE,hR,hl,n1,n2,n3,n4,n5,n6,n7,n8,n9⟩:=Ul s hI c1;rw [hI.2.2.2.2.1];exact pY (f:=λk=>(s.se,Ec (BU s.al).2 (s.i*s.se) k)) (n:=s.se.toNat) A0 s.al
theorem ajy:Da Mx XG wQ Uo:=by
 intro s hI;unfold Uo;dsimp only [T.rd,T.rl,T.rv];refine AH (λc1=>?_) λc1=>⟨rfl,hI.2.2.1,⟨hI.2.2.2.1.1,aly s hI⟩,hI.2.2.2.2.1,hI.2.2.2.2.2⟩
 have hL:=aJz s hI c1
 obtain ⟨hi,hy,w1,w2,wi,hE,hR,hl,n1,n2,n3,n4,n5,n6,n7,n8,n9⟩:=Ul s hI c1;obtain ⟨h0,hK,h4,h5,h6,h7⟩:=hI
 have st:∀al:List Fl,al≠ []->(M al:Int)<=601+600*s.i->(BU al).1=s.se->M (BU al).2=M s.fl->Mx {s with i:=s.i+1,al:=al}/\XG {s with i:=s.i+1,al:=al}<XG s:=λal a1 a2 a3 a4=>
  ⟨⟨⟨AZ,AZ⟩,hK,h4,⟨a1,AZ⟩,a3,a4⟩,by simp only [XG];show (G6 s-(s.i+1)).toNat<_;omega⟩
 rw [wi];refine AH (λc2=>AH (λc3=>AH (λc4=>?_) λc4=>?_) λc3=>?_) λc2=>?_
 ·grind
 ·rw [hy,hR,DS (by rw [Eu,hl];omega)]
  refine st _ (by simp [h5.1]) A8 ?_ ?_
  ·grind
  ·show M (BU<|s.al++List.drop 1 _).2=_;rw [hL,cE];exact h7
 all_goals exact st s.al h5.1 A0 h6 h7
def Pg:AR Gf:=⟨0,97,[1,6,8,9,10,11,12,13],[],λs=>[.xl (.sl<|.int aw) s.keep,.own 0 0,s.half,.own 1 0,s.other,.fn 193 [.own 2 0],s.Dd,s.i],λs=>[⟨[s.WZ,.v<|Y ax s.Vf,.xl (.sl<|.int aw) s.nU,s.Tv,s.Ig],237,.cl,X⟩,⟨[.os 3 2 0<|M s.al,s.er],325,.cl,X⟩,⟨[s.se,.xl (.int aw) s.fl],37,.cl,X⟩,bV 37 Bl s.al],λv b=>⟨B4 (.sl<|.int aw) v 0,AK v 2,AK v 4,AK v 6,AK v 7,Aj b 0 0,Aj b 0 1,AF (.sl<|.int aw) b 0 2,Aj b 0 3,Kn b 0 4,Aj b 1 1,Aj b 2 0,AF (.int aw) b 2 1,Ab Bl b 3⟩,Uo,λs r=> {r with keep:=s.keep,half:=s.half,other:=s.other,Dd:=s.Dd,WZ:=s.WZ,Vf:=s.Vf,nU:=s.nU,Tv:=s.Tv,Ig:=s.Ig,se:=s.se,fl:=s.fl},λs=>s,λ_ s=>s,[.exit 0],bF,Mx,XG⟩
abbrev Ej:=Pg.run
abbrev aRm:=Pg.Aq
def aiV:Rq Mx Uo:=by
 intro s hI;refine ⟨λc1=>⟨?_,A9,?_,λc2=>⟨λc3=>⟨?_,?_,λc4=>⟨A9,ak⟩,λc4=>⟨?_,?_,?_,ak⟩⟩,λc3=>⟨A9,ak⟩⟩,λc2=>⟨λc5=>⟨?_,?_,λc6=>⟨A9,ak⟩,λc6=>⟨?_,?_,?_,ak⟩⟩,λc5=>⟨A9,ak⟩⟩⟩,λc1=>⟨A9,ak⟩⟩
 ·(have hI':=hI.2.2.2.1;have hp:=OM.2 hI'.1;obtain ⟨hi,hy,w1,w2,wi,hE,hR,hl,n1,n2,n3,n4,n5,n6,n7,n8,n9⟩:=Ul s hI c1;(first|(rw [w1,w2];omega) |(rw [hi];omega) |(rw [hy,hR,hl];omega) |(rw [hy,hR,DS AJ,Eu,hl];omega) |(simp only [BD,Ei])))
 ·exact ⟨aau s hI c1,rfl,rfl⟩
 iterate 10 · (have hI':=hI.2.2.2.1;have hp:=OM.2 hI'.1;obtain ⟨hi,hy,w1,w2,wi,hE,hR,hl,n1,n2,n3,n4,n5,n6,n7,n8,n9⟩:=Ul s hI c1;(first|(rw [w1,w2];omega) |(rw [hi];omega) |(rw [hy,hR,hl];omega) |(rw [hy,hR,DS AJ,Eu,hl];omega) |(simp only [BD,Ei])))
def azU:Ax:=Ht Wg (la 2 func193 pn<|l0 Wg) [⟨189,Tp.m,fS⟩,⟨195,QU λa=>UC.m a [],tn⟩]
def zN:Pg.Ok:={}
def zJ:Pg.Pf (wQ):=⟨alz,λs h=>rfl,ajy,aiV⟩
def avf:SA 0 aHY Pg:=s1 zN zJ Wg azU
def axM:Fi bF Mx wQ aRm Ej:=AR.fin zN zJ
theorem axL:Rs bF aRm Ej (λs:Gf=>Fa s.se s.fl s.i (G6 s-s.i).toNat (s.al,(BU s.al).2)) (λx s' (v:List Fl×List Int)=>x=.exit 0/\(s'.al,(BU s'.al).2)=v):=DJ zN zJ (λs hI=>by
  show DK _ _ ((Uo s).rd s)
  unfold Uo;dsimp only [T.rd,T.rl];refine AH (λc1=>?_) λc1=>?_
  ·have hL:=aJz s hI c1
   have q:(dV (IY s)=.ret/\(q9<|IY s).r=U/\(((IY s)).l.drop ((IY s)).i.toNat).all (λb=>b==255)=X)\/(dV (IY s)=.exit 0/\(((IY s)).l.drop ((IY s)).i.toNat).all (λb=>b==255)=U):=aqf _<|aau s hI c1
   obtain ⟨hi,hy,w1,w2,wi,hE,hR,hl,n1,n2,n3,n4,n5,n6,n7,n8,n9⟩:=Ul s hI c1
   have e:((IY s)).l.drop ((IY s)).i.toNat=(s.fl.drop (s.i*s.se).toNat).take s.se.toNat:=by
    show List.drop 0 (List.take _<|List.drop _ s.fl)=_
    grind
   have hw:isW s.se s.fl s.i=!((((IY s)).l.drop ((IY s)).i.toNat).all λb=>b==255):=by unfold isW;rw [e]
   have hn:(G6 s-s.i).toNat=(G6 s-(s.i+1)).toNat+1:=A0
   have h6:=hI.2.2.2.2.1
   rw [hn,wi];simp only [Fa];refine AH (λc2=>AH (λc3=>AH (λc4=>?_) λc4=>?_) λc3=>?_) λc2=>?_
   ·grind
   ·rcases q with ⟨_,_,q3⟩ |⟨q1,_⟩
    ·rw [hy,hR,DS AJ,hw,q3]
     show Fa s.se s.fl (s.i+1) (G6 s-(s.i+1)).toNat (s.al++List.drop 1 _,(BU<|s.al++List.drop 1 _).2)=_
     rw [hL,h6];rfl
    ·rw [W7 c2] at q1;cases q1
   ·rcases q with ⟨_,q2,_⟩ |⟨q1,_⟩
    ·rw [q2] at c3;cases c3
    ·rw [W7 c2] at q1;cases q1
   ·rcases q with ⟨q1,_,_⟩ |⟨_,q2⟩
    ·rw [q1] at c2;simp [Bj] at c2
    ·rw [hw,q2]
     rfl
  ·have c1:G6 s<=s.i:=AX
   rw [show (G6 s-s.i).toNat=0 by omega]
   exact ⟨rfl,rfl⟩)
structure Mv where
 (half other:Int)
 l:List (List Int)
 (n i er:Int)
 bytes:List Int
 al:List Fl
def aHZ:=bN f152 1
def aBP (s:Mv):T (Rd Mv):=
 .br (an<|s.i<s.n) (.ix s.i (M s.l)<|.req (M (gx (e:=.sl<|.int aw) s.l s.i)<=70000)<|.rb (M s.bytes) (M<|Bw<|gx (e:=.sl<|.int aw) s.l s.i) 1<|.re (M s.bytes+M (Bw<|gx (e:=.sl<|.int aw) s.l s.i)) (s.bytes++(Bw<|gx (e:=.sl<|.int aw) s.l s.i))<|.rl s.al<|.nx {s with i:=AA<|s.i+1,bytes:=s.bytes++(Bw<|gx (e:=.sl<|.int aw) s.l s.i)}) (.rl s.bytes<|.rl s.al<|.so (.exit 2) s)
def mT (s:Mv):Prop:=s.i=0/\s.n<=5000/\s.n=(M s.l:Int)/\Hj s.l/\(M s.bytes:Int)<=4+70100*s.i
def mL (s:Mv):Prop:=0<=s.i/\s.i<=s.n/\s.n<=5000/\s.n=(M s.l:Int)/\Hj s.l/\(M s.bytes:Int)<=4+70100*s.i
def ze (s:Mv):Nat:=(s.n-s.i).toNat
def aKQ (x:Ex) (s s':Mv):Prop:=True
def am0:∀s,mT s->mL s:=by
 exact Zi
theorem ajN:Da mL ze aKQ aBP:=by
 intro s hI;obtain ⟨h0,h1,h2,h3,h4,h5⟩:=hI;refine AH (λc1=>?_) λc1=>trivial
 ·have c1:s.i<s.n:=A8
  have hk:=WJ h4 h0 A0
  have hp:=MG<|gx (e:=.sl<|.int aw) s.l s.i
  rw [AI (x:=s.i+1)];exact ⟨⟨A8,A8,h2,h3,h4,A8⟩,by simp only [ze];omega⟩
def Ph:AR Mv:=⟨0,97,[8,9,10,14,69,70,71],[],λs=>[s.half,.own 0 0,s.other,.os 1 1 0<|M s.bytes,.xl (.sl<|.int aw) s.l,s.n,s.i],λs=>[⟨[.os 2 2 0<|M s.al,s.er],325,.cl,X⟩,bV 5 (.int aw) s.bytes,bV 37 Bl s.al],λv b=>⟨AK v 0,AK v 2,B4 (.sl<|.int aw) v 4,AK v 5,AK v 6,Aj b 0 1,Ab (.int aw) b 1,Ab Bl b 2⟩,aBP,λs r=> {s with i:=r.i,bytes:=r.bytes},λs=>s,λ_ s=>s,[.exit 2],mT,mL,ze⟩
abbrev NU:=Ph.run
abbrev agH:=Ph.Aq
theorem ajj:Rq mL aBP:=by
 intro s hI;refine ⟨λc1=>⟨?_,?_,?_,?_,A9,ak⟩,λc1=>⟨A9,A9,ak⟩⟩
 all_goals ((obtain ⟨h0,h1,h2,h3,h4,h5⟩:=hI;have c1:s.i<s.n:=A8;have hk:=WJ h4 h0 A0;have hp:=MG<|gx (e:=.sl<|.int aw) s.l s.i;(first|omega|(simp only [CP,BD];omega) |simp only [CP,BD,Ei])))
def X2:List Bd:=[dx,uj,aa0,fq,aa4,cW]
def uX:Ax:=Ht X2 (la 2 func193 pn<|l0 X2) [⟨189,Tp.m,fS⟩,⟨195,QU λa=>UC.m a [],tn⟩]
def aae:Ph.Ok:={}
def aaO:Ph.Pf (aKQ):=⟨am0,λs h=>rfl,ajN,ajj⟩
def avg:SA 0 aHZ Ph:=s1 aae aaO X2 uX
theorem axO:Rs mT agH NU (λs:Mv=>s.bytes++BN (s.l.drop s.i.toNat)) (λx s' (v:List Int)=>x=.exit 2/\s'.bytes=v):=DJ aae aaO (λs hI=>by
  obtain ⟨h0,h1,h2,h3,h4,h5⟩:=hI;refine AH (λc1=>?_) λc1=>?_
  ·have c1:s.i<s.n:=A8
   rw [AI (x:=s.i+1)]
   show _++_++_=_++_
   rw [W9 h0 A0];simp only [BN,kD,Cm,CP]
  ·have c1:s.n<=s.i:=A8
   refine ⟨rfl,?_⟩;rw [Ef A0]
   simp [BN])
def aRb:Uu:=λi=>if i=21 then ah ([8,9,10,14],[.pb 14<|.int aw]) else if i=22 then ah ([8,9,10],[]) else aj
def aSs:List LV->T LV
 | [.agg [.v (Y J se),.xl (.int aw) fl],.xl (.sl (.int aw)) ds]=> .req (BH fl/\M ds<=5000/\Hj ds) (.ok<|.AM [.xl Bl<|Fk se fl ds,Fm se fl ds])
 |_=> .no
theorem aif {se:Int}{fl:List Int}(h:FJ se fl=U):letI a:=((M fl / 2:Nat):Int);a.tdiv se*2=(M fl:Int).tdiv se/\0<=a.tdiv se/\a.tdiv se<=2048:=by
 obtain ⟨hf,h2,h3,h4,h5⟩:=ML.1 h
 have e:=wv (M fl:Int) se
 rw [(NJ.1 hf).2.2.2.2,Int.add_zero] at e
 have e2:=wv ((M fl:Int).tdiv se) 2
 have e3:((M fl / 2:Nat):Int)=se*((M fl:Int).tdiv se).tdiv 2:=by
  have:se*(M fl:Int).tdiv se=2*(se*((M fl:Int).tdiv se).tdiv 2):=A8
  omega
 have e4:((M fl / 2:Nat):Int).tdiv se=((M fl:Int).tdiv se).tdiv 2:=by rw [e3];exact Int.mul_tdiv_cancel_left _ A0
 have hq:0<=((M fl / 2:Nat):Int).tdiv se/\((M fl / 2:Nat):Int).tdiv se<=((M fl / 2:Nat):Int):=by
  rw [Hy A0];exact ⟨SZ A0 A0,V2 _ A0⟩
 omega
def ays (l:List Int):0<=Gi l/\Gi l<4294967296:=by
 unfold Gi nm4 DM;rw [T3];omega
def aRa (fl:List Int):Ar fl=0\/Ar fl=1:=aNg
def F4 (se:Int) (fl:List Int) (ds:List<|List Int):Gf:=(⟨ds,AA<|(M fl:Int).tdiv 2,AA<|1-(ES se fl),AA<|(AA<|(M fl:Int).tdiv 2).tdiv se,AA<|(AA<|1-(ES se fl))*(AA<|(AA<|(M fl:Int).tdiv 2).tdiv se),ES se fl,I9 se fl,Ek se fl,Gv se fl,Ka se fl,0,se,fl,[(se,((([]:List Int)++fl).drop 0).take<|0+M fl)]⟩:Gf)
def MO (se:Int) (fl:List Int) (ds:List<|List Int):Mv:=(⟨AA<|(M fl:Int).tdiv 2,AA<|1-(ES se fl),ds,(M ds:Int),0,(Ej<|F4 se fl ds).er,Cq<|IntKind.u32.wrap<|(I9 se fl)+1,(Ej<|F4 se fl ds).al⟩:Mv)
def an7 (se:Int) (fl:List Int) (ds:List<|List Int):GY:=(⟨AA<|(AA<|(AA<|1-(ES se fl))*(AA<|(M fl:Int).tdiv 2))+1,((NU<|MO se fl ds).bytes.drop 0).take<|M (NU<|MO se fl ds).bytes,(Ej<|F4 se fl ds).er,(Ej<|F4 se fl ds).al⟩:GY)
def an6 (se:Int) (fl:List Int) (ds:List<|List Int):GY:=(⟨AA<|(AA<|1-(ES se fl))*(AA<|(M fl:Int).tdiv 2),[(80:Int)],J3 (Ej<|F4 se fl ds).al (Ej<|F4 se fl ds).er (AA<|(AA<|(AA<|1-(ES se fl))*(AA<|(M fl:Int).tdiv 2))+1)<|((NU<|MO se fl ds).bytes.drop 0).take<|M (NU<|MO se fl ds).bytes,Kv (Ej<|F4 se fl ds).al (AA<|(AA<|(AA<|1-(ES se fl))*(AA<|(M fl:Int).tdiv 2))+1)<|((NU<|MO se fl ds).bytes.drop 0).take<|M (NU<|MO se fl ds).bytes⟩:GY)
def rwX (se:Int) (fl:List Int) (ds:List<|List Int):Int:=(AA<|(AA<|1-(ES se fl))*(AA<|(M fl:Int).tdiv 2))
def rwY (se:Int) (fl:List Int) (ds:List<|List Int):List Int:=(((NU<|MO se fl ds).bytes.drop 0).take<|M (NU<|MO se fl ds).bytes)
def My (se:Int) (fl:List Int) (ds:List<|List Int):List Fl:=(Kv (Ej<|F4 se fl ds).al (AA<|(rwX se fl ds)+1)<|rwY se fl ds)
def rwW (se:Int) (fl:List Int) (ds:List<|List Int):Int:=(J3 (Ej<|F4 se fl ds).al (Ej<|F4 se fl ds).er (AA<|(rwX se fl ds)+1)<|rwY se fl ds)
def rwA (se:Int) (fl:List Int) (ds:List<|List Int):List Fl:=(Kv (My se fl ds) (rwX se fl ds)<|[(80:Int)])
def ayy (se:Int) (fl:List Int) (ds:List<|List Int):letI b:=(AA<|(M fl:Int).tdiv 2);letI c:=F4 se fl ds;letI d:=IntKind.u32.wrap<|(I9 se fl)+1;letI e:=rwA se fl ds;letI f:=My se fl ds;letI a:=(J3 f (rwW se fl ds) (rwX se fl ds)<|[(80:Int)]);iA prog AV (X2) uX (λi=>if i=11 then Pg.lp else if i=17 then Ph.lp else Ag i) aRb f152 [.agg [se,.xl (.int aw) fl],.xl (.sl<|.int aw) ds]=.req (BH fl) (.br ((Bs se fl) !=0) (.ok<|.AM [.xl Bl ([]:List Fl),Bs se fl])<|.req ((2:Int)≠0)<|.req ((M ds<=5000/\Hj ds)/\5<=b/\b<=100000)<|.br ((!(J9 (b-5) ds)) ||((I9 se fl)==4294967295)) (.ok<|.AM [.xl Bl ([]:List Fl),(10:Int)])<|.ra 0 (M ([]:List Int)) (0+M fl) 1<|.req (0+(0+M fl)<=M (([]:List Int)++fl))<|.rv (.v<|Y J<|ES se fl)<|.req (se≠0)<|.re 1 [(se,((([]:List Int)++fl).drop 0).take<|0+M fl)]<|.req (Pg.q c)<|.req (aiL (⟨d⟩:Ni))<|.rl (Cq d)<|.rl (Ej c).al<|.req (Ph.q<|MO se fl ds)<|.rz (NU<|MO se fl ds).bytes<|.rl (Ej c).al<|.rl (Ej c).al<|.req (fP<|an7 se fl ds)<|.rl f<|.rl f<|.req (fP<|an6 se fl ds)<|.br (!(a==(0:Int))) (.ok<|.AM [.xl Bl ([]:List Fl),a])<|.rz e<|.ok<|.AM [.xl Bl<|(e.drop 0).take<|M e,(0:Int)]):=AT
theorem aTt:VV 152 (uS f152 aSs):=aCo (cs:=aRb) func152 rfl (gk X2) uX.h (L:=(λi=>if i=11 then Pg.lp else if i=17 then Ph.lp else Ag i)) (λb hb=>by
 rw [show BA _=[aHY,aHZ] by kernel_rfl] at hb
 simp only [B8,Bu,Bt] at hb;rcases hb with rfl|rfl
 ·exact avf
 ·exact avg) (λargs lv h=>by
 unfold aSs at h;split at h
 ·simp only [canL,canX]
  rw [ayy];rename_i se fl ds;obtain ⟨⟨hb,hn,hk⟩,rfl⟩:=h
  have bad:∀e:Int,e≠0->Fm se fl ds=e->LV.AM [.xl Bl ([]:List Fl),.v<|Y J e]=LV.AM [.xl Bl<|Fk se fl ds,.v<|Y J<|Fm se fl ds]:=λe h0 h1=>by unfold Fk;rw [h1,AE h0]
  refine ⟨hb,λc1=>?_,λc1=>?_⟩
  ·have c1:Bs se fl≠0:=AX
   exact bad _ c1 (by unfold Fm;rw [AD c1])
  have hE:Bs se fl=0:=AX
  have hj:FJ se fl=true:=by
   cases e:FJ se fl
   ·unfold Bs at hE;rw [AD e] at hE;cases hE
   ·rfl
  have hq:=ML.1 hj
  have hh:AA ((M fl:Int).tdiv 2)=((M fl / 2:Nat):Int):=by
   exact aLT
  have hA:ES se fl=Ar fl:=aO2
  have hG:I9 se fl=Iy fl (Ar fl):=by unfold I9;rw [AD hE]
  have hc:=aRa fl
  have w0:AA (1-Ar fl)=1-Ar fl:=AI
  have hF:J9 (((M fl / 2:Nat):Int)-5) ds=rwF fl ds:=by
   rw [aQi _ _ A0];unfold rwF
   congr 1
   rw [decide_eq_decide];omega
  refine ⟨Aa,⟨⟨hn,hk⟩,by rw [hh];omega,by rw [hh];omega⟩,λc2=>?_,λc2=>?_⟩<;>rw [hh,hF,hG] at c2
  ·exact bad 10 Aa (by unfold Fm;rw [AE yl,AD c2])
  have hR:Fm se fl ds=0:=by unfold Fm;rw [AE yl,AE aB]
  simp only [GF,Hv,CQ,ne_eq] at c2
  have hsum:5+M (BN ds)<=M fl / 2:=by
   have:=c2.1
   unfold rwF at this;simp only [AY,Ac] at this;rw [pF];exact this.1
  obtain ⟨k1,k2,k3⟩:=aif hj
  have hm:∀x:Int,0<=x->x<=2048->AA ((1-Ar fl)*x)=(1-Ar fl)*x/\0<=(1-Ar fl)*x/\(1-Ar fl)*x<=x:=λx x0 x1=>by
   have:(1-Ar fl)*x=0\/(1-Ar fl)*x=x:=aMq
   exact ⟨AI,A0,A0⟩
  have hst:F4 se fl ds=⟨ds,((M fl / 2:Nat):Int),1-Ar fl,((M fl / 2:Nat):Int).tdiv se,(1-Ar fl)*((M fl / 2:Nat):Int).tdiv se,Ar fl,I9 se fl,Ek se fl,Gv se fl,Ka se fl,0,se,fl,[(se,fl)]⟩:=by
   unfold F4;rw [hh,hA,w0,AI (x:=((M fl / 2:Nat):Int).tdiv se),(hm _ k2 k3).1,E7,CP,EK,E6]
  have hE0:bF (F4 se fl ds):=by rw [hst];exact ⟨rfl,⟨hj,by show 1-Ar fl=0\/1-Ar fl=1;omega,k1⟩,rfl,rfl,rfl,rfl⟩
  obtain ⟨_,_,q1,q2,q3,q4,q5⟩:=axM _ hE0
  have q6:((Ej<|F4 se fl ds).al,(BU (Ej<|F4 se fl ds).al).2)=HE se fl:=by
   have:=(axL _ hE0).2
   rw [this,hst];unfold HE
   have hz:G6 ⟨ds,((M fl / 2:Nat):Int),1-Ar fl,((M fl / 2:Nat):Int).tdiv se,(1-Ar fl)*((M fl / 2:Nat):Int).tdiv se,Ar fl,I9 se fl,Ek se fl,Gv se fl,Ka se fl,0,se,fl,[(se,fl)]⟩=(1-Ar fl)*((M fl / 2:Nat):Int).tdiv se+((M fl / 2:Nat):Int).tdiv se:=by
    have:=hm _ k2 k3
    show AA (AA (1-Ar fl+1)*((M fl / 2:Nat):Int).tdiv se)=_
    rw [AI (x:=1-Ar fl+1),ka,Zc];exact AI
   show Fa se fl _ (G6 _-(1-Ar fl)*((M fl / 2:Nat):Int).tdiv se).toNat _=_
   rw [hz]
   congr 1
   omega
  have r1:(Ej<|F4 se fl ds).se=se/\(Ej<|F4 se fl ds).fl=fl:=by rw [hst];exact ⟨rfl,rfl⟩
  rw [r1.1] at q4;rw [r1.2] at q5
  have q7:(BU (Ej<|F4 se fl ds).al).2=(HE se fl).2:=B1 Prod.snd q6
  have hl:BU (Ej<|F4 se fl ds).al=(se,(HE se fl).2):=Prod.ext q4 q7
  have ha:(Ej<|F4 se fl ds).al=(HE se fl).1:=B1 Prod.fst q6
  have hEb:mT (MO se fl ds):=⟨rfl,aNh,rfl,hk,by show ((4:Nat):Int)<=4+70100*0;decide⟩
  have hY:rwY se fl ds=Eb fl ds:=by
   have q:=(axO _ hEb).2
   have hg:=ays<|((Bn fl<|Ar fl).drop 1).take 4
   have hw:IntKind.u32.wrap (I9 se fl+1)=Iy fl (Ar fl)+1:=by
    have:=c2.2
    rw [hG,T3];unfold Iy at*;omega
   unfold rwY Eb;rw [CP,E6,q,<-hw];rfl
  have hX:rwX se fl ds=Gj fl:=by unfold rwX Gj;rw [hA,w0,hh];exact (hm _ A0 A0).1
  obtain ⟨_,o1,o2⟩:=hm ((M fl / 2:Nat):Int) A0 A0
  have oO:Gj fl=(1-Ar fl)*((M fl / 2:Nat):Int):=rfl
  have hX1:AA (rwX se fl ds+1)=Gj fl+1:=by rw [hX];exact AI
  have hBl:M (Eb fl ds)=4+M (BN ds):=by unfold Eb;rw [BD];rfl
  rw [hl] at q5
  have q5:M (HE se fl).2=M fl:=q5
  have hv:∀b:List Int,M b=M fl->HG se b=true:=λb e=>by rw [qT e];exact hq.1
  have p1:Ep se (HE se fl).2 (Gj fl+1) (Eb fl ds)=0:=by
   unfold Ep
   grind
  have hV:My se fl ds=(HE se fl).1++(Df se (HE se fl).2 (Gj fl+1)<|Eb fl ds).drop 1:=by
   unfold My Kv;rw [hX1,hY,hl,AD p1,ha]
  have hW:rwW se fl ds=0:=by unfold rwW J3;rw [hX1,hY,hl,AD p1];exact q2
  have hlV:BU (My se fl ds)=(se,Kx se fl ds):=by
   rw [hV];unfold Df;exact pY (f:=λk=>(se,Dc (HE se fl).2 (Gj fl+1) (Eb fl ds) k)) (n:=M<|Eb fl ds) A0 _
  have p2:Ep se (Kx se fl ds) (Gj fl) [80]=0:=by
   have:M (Kx se fl ds)=M fl:=by unfold Kx;rw [Su];exact q5
   unfold Ep
   grind
  have hAA:rwA se fl ds=Fk se fl ds:=by
   unfold rwA Kv Fk;rw [hX,hlV,AD p2,AD hR,hV,Cm]
  have hz:J3 (My se fl ds) (rwW se fl ds) (rwX se fl ds) [80]=0:=by unfold J3;rw [hX,hlV,AD p2];exact hW
  have hVl:M (My se fl ds)<=3100000:=by
   have:=q3.2
   rw [hV,<-ha,BD,Eu];unfold Df;rw [Ft,SS,hBl];omega
  refine ⟨⟨Aa,A0,A0⟩,AJ,rfl,A0,AJ,⟨hE0,rfl,rfl⟩,⟨ak,rfl,rfl⟩,A9,A9,⟨hEb,rfl,rfl⟩,A0,A9,A9,⟨⟨q3.1,by show M (Ej<|F4 se fl ds).al<=4000000;omega,by show M (rwY se fl ds)<=5000;rw [hY,hBl];omega⟩,rfl,rfl⟩,A9,A9,⟨⟨?_,by show M (My se fl ds)<=4000000;omega,by show 1<=5000;decide⟩,rfl,rfl⟩,λc=>?_,λ_=>⟨A0,?_⟩⟩
  ·show My se fl ds≠ []
   intro hn
   have:BU (My se fl ds)=BU []:=by rw [hn]
   rw [hlV] at this
   have:=B1 Prod.fst this
   have:se=0:=this
   omega
  ·rw [hz] at c;cases c
  ·rw [CP,E6,hAA,hR]
   rfl
 ·cases h)
def aTA:List LV->T LV
 | [.agg [.v (Y J se),.xl (.int aw) fl],.xl (.int aw) d]=> .req (BH fl/\M d<=70000/\(Bs se fl=0->Lw fl=U)) (.ok<|.AM [.xl Bl<|HJ se fl d,En se fl d])
 |_=> .no
def aOw (se:Int) (fl:List Int) (a:Int) (d:List Int):[(se,fl)]++(Df se fl a d).drop 1=Df se fl a d:=by
 unfold Df;rw [List.range_succ_eq_map];rfl
def azg {fl:List Int}(h:10<=M fl):(Ed fl).2.1<=M fl / 2:=by
 have:=cC fl<|Ar fl
 have:=uO (b:=Bn fl<|Ar fl) (n:=M<|Bn fl<|Ar fl) (f:=5) A0
 unfold Ed;omega
def an5 (se:Int) (fl d:List Int):GY:=(⟨AA<|(AA<|(AA<|(ES se fl)*(AA<|(M fl:Int).tdiv 2))+(Gv se fl))+1,((Bw d).drop (1:Int).toNat).take<|(M (Bw d):Int).toNat-(1:Int).toNat,0,[(se,((([]:List Int)++fl).drop 0).take<|0+M fl)]⟩:GY)
def an4 (se:Int) (fl d:List Int):GY:=letI a:=(AA<|(AA<|(ES se fl)*(AA<|(M fl:Int).tdiv 2))+(Gv se fl));letI b:=(((Bw d).drop (1:Int).toNat).take<|(M (Bw d):Int).toNat-(1:Int).toNat);letI c:=(se,((([]:List Int)++fl).drop 0).take<|0+M fl);(⟨a,((Bw d).drop (0:Int).toNat).take<|(1:Int).toNat-(0:Int).toNat,J3 ([c]) (0:Int) (AA<|a+1) b,Kv ([c]) (AA<|a+1) b⟩:GY)
def axP (se:Int) (fl d:List Int):Int:=(AA<|(AA<|(ES se fl)*(AA<|(M fl:Int).tdiv 2))+(Gv se fl))
def axY (se:Int) (fl d:List Int):List Int:=(((Bw d).drop (1:Int).toNat).take<|(M (Bw d):Int).toNat-(1:Int).toNat)
def axZ (se:Int) (fl d:List Int):List Int:=(((Bw d).drop (0:Int).toNat).take<|(1:Int).toNat-(0:Int).toNat)
def axQ (se:Int) (fl d:List Int):List Fl:=([(se,((([]:List Int)++fl).drop 0).take<|0+M fl)])
def Lx (se:Int) (fl d:List Int):List Fl:=(Kv (axQ se fl d) (AA<|(axP se fl d)+1)<|axY se fl d)
def axW (se:Int) (fl d:List Int):Int:=(J3 (axQ se fl d) (0:Int) (AA<|(axP se fl d)+1)<|axY se fl d)
def axA (se:Int) (fl d:List Int):List Fl:=(Kv (Lx se fl d) (axP se fl d)<|axZ se fl d)
def eK:List Bd:=[dx,aTt,uj,fq,cW]
def aRN:Ax:=Ht eK (la 2 func193 pn<|l0 eK) [⟨189,Tp.m,fS⟩]
def ayX (se:Int) (fl d:List Int):letI a:=(M (Bw d):Int);letI b:=J3 (Lx se fl d) (axW se fl d) (axP se fl d)<|axZ se fl d;letI c:=axA se fl d;iA prog AV (eK) aRN Ag aRd f149 [.agg [se,.xl (.int aw) fl],.xl (.int aw) d]=.req (BH fl) (.br ((Bs se fl) !=0) (.ok<|.AM [.xl Bl ([]:List Fl),Bs se fl])<|.req ((2:Int)≠0)<|.br ((an<|(M d:Int)>65535) ||(an<|(AA<|7+(M d:Int))>(AA<|(AA<|(M fl:Int).tdiv 2)-(Gv se fl)))) (.ok<|.AM [.xl Bl ([]:List Fl),(10:Int)])<|.br (!(Ka se fl)) (.no /-append to xl -/)<|.ra 0 (M ([]:List Int)) (0+M fl) 1<|.req (0+(0+M fl)<=M (([]:List Int)++fl))<|.rv (.v<|Y J<|ES se fl)<|.rv (.v<|Y J<|Gv se fl)<|.req (M d<=70000)<|.re 1 (axQ se fl d)<|.req (0<=(1:Int)/\(1:Int)<=a/\a<=a)<|.rl (axQ se fl d)<|.req (fP<|an5 se fl d)<|.rl (Lx se fl d)<|.req (0<=(0:Int)/\(0:Int)<=(1:Int)/\(1:Int)<=a)<|.rl (Lx se fl d)<|.req (fP<|an4 se fl d)<|.br (!(b==(0:Int))) (.ok<|.AM [.xl Bl ([]:List Fl),b])<|.rz c<|.ok<|.AM [.xl Bl<|(c.drop 0).take<|M c,(0:Int)]):=AT
theorem aiz:VV 149 (uS f149 aTA):=aCo (cs:=aRd) func149 rfl (gk eK) aRN.h (ou AT) (λargs lv h=>by
 unfold aTA at h;split at h
 ·simp only [canL,canX]
  rw [ayX];rename_i se fl d;obtain ⟨⟨hb,hd,hcl⟩,rfl⟩:=h;refine ⟨hb,λc1=>?_,λc1=>?_⟩
  ·have c1:Bs se fl≠0:=AX
   unfold HJ En;rw [AD c1,AD c1];rfl
  have hE:Bs se fl=0:=AX
  have hj:FJ se fl=true:=by
   cases e:FJ se fl
   ·unfold Bs at hE;rw [AD e] at hE;cases hE
   ·rfl
  have hq:=ML.1 hj
  have hh:AA ((M fl:Int).tdiv 2)=((M fl / 2:Nat):Int):=by
   exact aLT
  have hA:ES se fl=Ar fl:=aO2
  have hN:Gv se fl=((Ed fl).2.1:Int):=by unfold Gv;rw [AD hE]
  have hC:Ka se fl=true:=by unfold Ka;rw [AD hE];exact hcl hE
  have hl:=azg (fl:=fl) A0
  have hc:=aRa fl
  have hF:((an<|(M d:Int)>65535) ||(an<|(AA<|7+(M d:Int))>(AA<|(AA<|(M fl:Int).tdiv 2)-(Gv se fl))))=Ly se fl d:=by
   rw [hh,hN,AI (x:=7+(M d:Int)),AI (x:=((M fl / 2:Nat):Int)-((Ed fl).2.1:Int))];unfold Ly;rw [IP];simp only [Cl,Ac];omega
  have e0:¬Bs se fl≠0:=yl
  refine ⟨Aa,λc2=>?_,λc2=>⟨λc3=>?_,λc3=>?_⟩⟩<;>rw [hF] at c2
  ·unfold HJ En
   rw [AE e0,AE e0,AD c2,AD c2];rfl
  ·rw [hC] at c3;cases c3
  have hR:HJ se fl d=HK se fl d:=by unfold HJ;rw [AE e0,AE aB,AD<|hcl hE]
  have hZ0:En se fl d=0:=by unfold En;rw [AE e0,AE aB,AD<|hcl hE]
  unfold Ly at c2;simp only [GF,Cv] at c2
  have hm:Ar fl*((M fl / 2:Nat):Int)=0\/Ar fl*((M fl / 2:Nat):Int)=((M fl / 2:Nat):Int):=aMq
  have hP:axP se fl d=G9 fl:=by
   unfold axP G9;rw [hh,hA,hN,AI (x:=Ar fl*((M fl / 2:Nat):Int))];exact AI
  have oP:G9 fl=Ar fl*((M fl / 2:Nat):Int)+((Ed fl).2.1:Int):=rfl
  have hP1:AA (axP se fl d+1)=G9 fl+1:=by rw [hP];exact AI
  have hpl:=MG d
  have hY:axY se fl d=(Bw d).drop 1:=by unfold axY;exact DS yk
  have hZ:axZ se fl d=[80]:=rfl
  have hQ:axQ se fl d=[(se,fl)]:=by unfold axQ;rw [E7,CP,EK,E6]
  have hYl:M ((Bw d).drop 1)=6+M d:=yk
  have hL0:BU [(se,fl)]=(se,fl):=rfl
  have p1:Ep se fl (G9 fl+1) ((Bw d).drop 1)=0:=by
   unfold Ep
   grind
  have hV:Lx se fl d=Df se fl (G9 fl+1) ((Bw d).drop 1):=by
   unfold Lx Kv;rw [hP1,hY,hQ,hL0,AD p1,aOw]
  have hW:axW se fl d=0:=by unfold axW J3;rw [hP1,hY,hQ,hL0,AD p1]
  have hlV:BU (Lx se fl d)=(se,apB fl d):=by
   rw [hV,<-aOw];exact pY (f:=λk=>(se,Dc fl (G9 fl+1) ((Bw d).drop 1) k)) (n:=M<|(Bw d).drop 1) A0 _
  have hBl:M (apB fl d)=M fl:=Su _ _ _ _
  have p2:Ep se (apB fl d) (G9 fl) [80]=0:=by
   unfold Ep;rw [qT hBl,hq.1,AE (by simp only [Bool.not_true,Cu,Ac];omega),AE (by rw [hBl];show ¬G9 fl>(M fl:Int)-((1:Nat):Int);omega)]
  have hAA:axA se fl d=HK se fl d:=by
   unfold axA Kv HK;rw [hP,hZ,hlV,AD p2,hV]
  have hz:J3 (Lx se fl d) (axW se fl d) (axP se fl d) (axZ se fl d)=0:=by unfold J3;rw [hP,hZ,hlV,AD p2];exact hW
  have hVl:M (Lx se fl d)=7+M d:=by rw [hV];unfold Df;rw [Ft,SS,hYl];omega
  refine ⟨⟨Aa,A0,A0⟩,AJ,rfl,rfl,hd,by rw [hQ];exact A9,⟨A0,A0,A0⟩,A9,⟨⟨by show axQ se fl d≠ [];rw [hQ];simp,by show M (axQ se fl d)<=4000000;rw [hQ];show 1<=4000000;decide,by show M (axY se fl d)<=5000;rw [hY,hYl];omega⟩,rfl,rfl⟩,A9,⟨A0,A0,A0⟩,A9,⟨⟨by show Lx se fl d≠ [];intro hn;rw [hn] at hVl;simp at hVl;omega,by show M (Lx se fl d)<=4000000;omega,by show 1<=5000;decide⟩,rfl,rfl⟩,λc=>?_,λ_=>⟨A0,?_⟩⟩
  ·rw [hz] at c;cases c
  ·rw [CP,E6,hAA,hR,hZ0]
   rfl
 ·cases h)
def aSf:List LV->T LV
 | [.agg [.v (Y J se),.xl (.int aw) fl],.v (.agg ⟨[Y J x1,Y J x2,Y J x3,Y J x4,Y J x5]⟩),.v (Y J t)]=> .req (BH fl/\(Bs se fl=0->Lw fl=U)) (.ok<|.AM [.xl Bl<|Cj se fl (x1,x2,x3,x4,x5) t,EG se fl (x1,x2,x3,x4,x5) t])
 |_=> .no
def agk:List Bd:=[uu,WO,aiz,aTq,ahw,aTt]
theorem anX {x:Le}:BL [x]=D4 x:=by
 unfold BL;rw [IP,AY,Di];refine ⟨λh=>?_,λh=>⟨rfl,λk hk=>?_⟩⟩
 ·have:=h.2 0 AJ
  unfold Gg at this;rw [AY] at this;exact this.1
 ·have:k=0:=A8
  subst this;unfold Gg;rw [AY];exact ⟨h,rfl⟩
theorem abZ {l:List Le}{x:Le}{t:Int}(h:DF l t=0):M (ID l x t)<=5000/\Hj (ID l x t):=by
 have hk:=aHp h
 unfold ID;rw [AD h];unfold Hs;refine ⟨?_,λd hd=>?_⟩
 ·simp only [BD,Ft,Bi,Bp]
  grind
 ·rcases By.1 hd with hd|hd
  ·obtain ⟨y,_,rfl⟩:=Eg.1 hd;rw [K8];omega
  ·rcases By.1 hd with hd|hd
   ·split at hd
    ·rw [M7.1 hd,K8];omega
    ·cases hd
   ·rw [M7.1 hd,K8];omega
def aTp:=vo (S:=aSf) func97 agk kN (λargs lv h=>by
 unfold aSf at h;split at h
 ·rename_i se fl x1 x2 x3 x4 x5 t
  refine Ap (letI d:=(Ay (x1,x2,x3,x4,x5));letI g:=BQ se fl;letI i:=BH fl/\M d<=70000/\(Bs se fl=0->Lw fl=U);letI k:=En se fl d;letI b:=(ID g (x1,x2,x3,x4,x5) t);letI f:=(AA<|(M g:Int)-1);letI j:=BH fl/\M b<=5000/\Hj b;.req (BH fl)<|.br ((CX se fl) !=0) (.ok<|.AM [.xl Bl ([]:List Fl),(CX se fl)])<|.br (!(BL<|[(x1,(x2,(x3,(x4,x5))))])) (.ok<|.AM [.xl Bl ([]:List Fl),(1:Int)])<|.br (an<|t<0) (.ok<|.AM [.xl Bl ([]:List Fl),(1:Int)])<|.br (an<|t>1100000) (.ok<|.AM [.xl Bl ([]:List Fl),(1:Int)])<|.br (an<|(M g:Int)>0) (.ix f (M g)<|.br (an<|x1<=(At g f).1) (.ok<|.AM [.xl Bl ([]:List Fl),(12:Int)])<|.ix f (M g)<|.br (an<|x4<(At g f).2.2.2.1) (.ok<|.AM [.xl Bl ([]:List Fl),(12:Int)])<|.req i<|.br (k !=10) (.ok<|.AM [.xl Bl<|HJ se fl d,k])<|.br ((DF g t) !=0) (.ok<|.AM [.xl Bl ([]:List Fl),(DF g t)])<|.req j<|.ok<|.AM [.xl Bl<|Fk se fl b,(Fm se fl b)])<|.req i<|.br (k !=10) (.ok<|.AM [.xl Bl<|HJ se fl d,k])<|.br ((DF g t) !=0) (.ok<|.AM [.xl Bl ([]:List Fl),(DF g t)])<|.req j<|.ok<|.AM [.xl Bl<|Fk se fl b,(Fm se fl b)]) ?_;obtain ⟨⟨hb,hcl⟩,rfl⟩:=h
  have fin:∀ {a:List Fl} {e:Int},Cj se fl (x1,x2,x3,x4,x5) t=a/\EG se fl (x1,x2,x3,x4,x5) t=e->LV.AM [.xl Bl a,.v<|Y J e]=LV.AM [.xl Bl<|Cj se fl (x1,x2,x3,x4,x5) t,.v<|Y J<|EG se fl (x1,x2,x3,x4,x5) t]:=λh=>by rw [h.1,h.2]
  refine ⟨hb,λc1=>fin ?_,λc1=>?_⟩
  ·have c1:CX se fl≠0:=AX
   unfold Cj EG;rw [AD c1,AD c1];exact ⟨rfl,rfl⟩
  have c1:¬CX se fl≠0:=AX
  rw [anX]
  have bad:(!D4 (x1,x2,x3,x4,x5) || !inB t 0 1100000)=U->Cj se fl (x1,x2,x3,x4,x5) t=[]/\EG se fl (x1,x2,x3,x4,x5) t=1:=λh=>by
   unfold Cj EG;rw [AE c1,AE c1,AD h,AD h];exact ⟨rfl,rfl⟩
  refine ⟨λc2=>fin<|bad (by rw [c2];rfl),λc2=>⟨λc3=>fin<|bad ?_,λc3=>⟨λc4=>fin<|bad ?_,λc4=>?_⟩⟩⟩
  iterate 2
   ·rw [Cl]
    refine .inr ?_
    have e:inB t 0 1100000=false:=by
     cases e:inB t 0 1100000
     ·rfl
     ·have:=Bf.1 e
      simp only [Ac,Cv] at c3
      try simp only [Ac] at c4
      omega
    rw [e];rfl
  have ht:inB t 0 1100000=true:=Bf.2 (by simp only [Cv] at c3 c4;omega)
  have hx:D4 (x1,x2,x3,x4,x5)=true:=EA
  have hv:=zR<|Decidable.not_not.1 c1
  have hE:DF (BQ se fl) t=0:=by unfold DF O8;rw [hv,ht];rfl
  have hb':¬((!D4 (x1,x2,x3,x4,x5) || !inB t 0 1100000)=U):=by rw [hx,ht];decide
  have hl:=(Ij hv).1
  have w:=λc5:0<M (BQ se fl)=>AI (x:=(M (BQ se fl):Int)-1)
  have hO:0<M (BQ se fl)->H9 (BQ se fl) (x1,x2,x3,x4,x5)=(an (x1<=(At (BQ se fl)<|(M (BQ se fl):Int)-1).1) ||an (x4<(At (BQ se fl)<|(M (BQ se fl):Int)-1).2.2.2.1)):=λc5=>by
   unfold H9;rw [show an (M (BQ se fl)>0)=U from DB c5];rfl
  have old:H9 (BQ se fl) (x1,x2,x3,x4,x5)=U->Cj se fl (x1,x2,x3,x4,x5) t=[]/\EG se fl (x1,x2,x3,x4,x5) t=12:=λh=>by
   unfold Cj EG;rw [AE c1,AE c1,AE hb',AE hb',AD h,AD h];exact ⟨rfl,rfl⟩
  refine ⟨λc5=>?_,λc5=>?_⟩
  ·have c5:0<M (BQ se fl):=by simpa using c5
   have hO:=hO c5
   rw [w c5];refine ⟨A0,λc6=>fin<|old (by rw [hO,c6];rfl),λc6=>⟨A0,λc7=>fin<|old<|by rw [hO,c7,SX],λc7=>?_⟩⟩
   have hO:H9 (BQ se fl) (x1,x2,x3,x4,x5)=false:=by rw [hO,c6,c7];rfl
   have hk:ID (BQ se fl) (x1,x2,x3,x4,x5) t=Hs (BQ se fl) (x1,x2,x3,x4,x5) t:=AD hE
   have hk':=hk▸abZ (x:=(x1,x2,x3,x4,x5)) hE
   rw [hk,hE]
   have hO:¬(H9 (BQ se fl) (x1,x2,x3,x4,x5)=U):=by rw [hO];decide
   refine ⟨⟨hb,by rw [K8];decide,hcl⟩,λc=>fin ?_,λc=>⟨λc'=>(by cases c'),λ_=>⟨⟨hb,hk'⟩,fin ?_⟩⟩⟩<;>unfold Cj EG<;>rw [AE c1,AE c1,AE hb',AE hb',AE hO,AE hO]
   ·have c:En se fl (Ay (x1,x2,x3,x4,x5))≠10:=IT
    rw [AD c,AD c];exact ⟨rfl,rfl⟩
   ·have c:¬En se fl (Ay (x1,x2,x3,x4,x5))≠10:=IT
    rw [AE c,AE c];exact ⟨rfl,rfl⟩
  ·have hO:H9 (BQ se fl) (x1,x2,x3,x4,x5)=false:=by unfold H9;rw [show an (M (BQ se fl)>0)=X by simpa using c5];rfl
   have hk:ID (BQ se fl) (x1,x2,x3,x4,x5) t=Hs (BQ se fl) (x1,x2,x3,x4,x5) t:=AD hE
   have hk':=hk▸abZ (x:=(x1,x2,x3,x4,x5)) hE
   rw [hk,hE]
   have hO:¬(H9 (BQ se fl) (x1,x2,x3,x4,x5)=U):=by rw [hO];decide
   refine ⟨⟨hb,by rw [K8];decide,hcl⟩,λc=>fin ?_,λc=>⟨λc'=>(by cases c'),λ_=>⟨⟨hb,hk'⟩,fin ?_⟩⟩⟩<;>unfold Cj EG<;>rw [AE c1,AE c1,AE hb',AE hb',AE hO,AE hO]
   ·have c:En se fl (Ay (x1,x2,x3,x4,x5))≠10:=IT
    rw [AD c,AD c];exact ⟨rfl,rfl⟩
   ·have c:¬En se fl (Ay (x1,x2,x3,x4,x5))≠10:=IT
    rw [AE c,AE c];exact ⟨rfl,rfl⟩
 ·cases h)
theorem ai5 {fl:List Int}{g:Int}{vl:List Le}{k:Nat}{O:List Int}{x:Le}{t:Int}{w:Int}(h:JI fl w g (vl.map Ay) k O) (hv:BL vl=U) (hx:FD vl x=0) (ht:inB t 0 1100000=U) (hk:19<=k):
  EG 512 fl x t=0/\(∃fl',G5 (Cj 512 fl x t) ((M (Cj 512 fl x t):Int)-1)=(512,fl')/\JI fl' w g ((vl++[x]).map Ay) (k-19) O)/\BL (vl++[x])=true:=by
 obtain ⟨h1,h2⟩:=aaM h hv
 have hl:=K8 x
 have hx':=hx
 unfold FD at hx'
 have hlx:D4 x=true:=by
  cases e:D4 x
  ·grind
  ·rfl
 rw [hv,hlx] at hx'
 have ho:H9 vl x=false:=by
  by_cases hg:M vl>0
  ·have hf:Jd (At vl<|(M vl:Int)-1) x=true:=by
    cases e:Jd (At vl<|(M vl:Int)-1) x
    ·grind
    ·rfl
   unfold Jd at hf;unfold H9
   grind
  ·unfold H9;simp;intro h;omega
 have hfull:=h.full (d:=Ay x) A0 A0
 have hap:En 512 fl (Ay x)=0:=by
  unfold En;rw [h.Ub,hfull,h.cl];rfl
 have har:HJ 512 fl (Ay x)=HK 512 fl (Ay x):=by
  unfold HJ;rw [h.Ub,hfull,h.cl];rfl
 have hE:EG 512 fl x t=0:=by
  unfold EG;rw [h1,h2,hap,hlx,ht,ho];rfl
 have hL:Cj 512 fl x t=HK 512 fl (Ay x):=by
  unfold Cj;rw [h1,h2,hap,hlx,ht,ho,har];rfl
 refine ⟨hE,⟨Dc (apB fl<|Ay x) (G9 fl) [80] 1,?_,?_⟩,?_⟩
 ·rw [hL]
  have hne:HK 512 fl (Ay x)≠ []:=by
   unfold HK Df
   simp
  have:=aFz 512 fl (Ay x) (0,[])
  unfold G5;exact this
 ·have:=h.app (s9 x) A0 (by rw [hl];omega)
  rw [Jw];exact this
 ·have hg:=(aR2 (x:=x) hv).1
  unfold grS Jc at hg;rw [AD hx,AD hx] at hg;exact hg
structure QV where
 p:PK
 vl:List Le
 ok:Bool
def Uk (t:Int) (s:SN×List Le×Bool) (x:Le):SN×List Le×Bool:=
 if FD s.1.ls x=0 then (if FD s.2.1 x=0/\inB t 0 1100000=U/\19*(M s.2.1+1)<=1019 then (⟨Jc s.1.ls x,0,[],x.1+1,s.1.lk++[X6 t x]⟩,s.2.1++[x],s.2.2) else (s.1,s.2.1,X)) else s
def PB (t:Int) (xs:List Le) (s:SN×List Le×Bool):Nat->SN×List Le×Bool
 |0=>s
 |k+1=>Uk t (PB t xs s k)<|At xs k
def RV (se:Int) (fl:List Int) (vl:List Le):Prop:=se=512/\BL vl=U/\∃k O,JI fl 0 0 (vl.map Ay) k O/\k+19*M vl=1019
def RN (s:SN) (q:SN×List Le×Bool):Prop:=q.1={s with se:=0,fl:=[]}/\RV s.se s.fl q.2.1
def apC {t:Int}{s:SN×List Le×Bool}{x:Le}(h:(Uk t s x).2.2=U):s.2.2=true:=by
 unfold Uk at h;split at h
 ·split at h
  ·exact h
  ·cases h
 ·exact h
theorem aoc {t:Int}{s:SN}{q:SN×List Le×Bool}{x:Le}(h:RN s q) (hq:(Uk t q x).2.2=U):RN (Gu t s x) (Uk t q x):=by
 obtain ⟨h1,h2,h3,k,O,h4,h5⟩:=h
 have hls:q.1.ls=s.ls:=by rw [h1]
 unfold Uk at hq|-;unfold Gu;rw [hls] at hq|-
 by_cases hg:FD s.ls x=0
 ·rw [AD hg] at hq|-
  by_cases hc:FD q.2.1 x=0/\inB t 0 1100000=U/\19*(M q.2.1+1)<=1019
  ·rw [AD hc] at hq|-
   obtain ⟨c1,c2,c3⟩:=hc;obtain ⟨e1,⟨fl',e2,e3⟩,e4⟩:=ai5 (t:=t) h4 h3 c1 c2 A0;rw [h2] at*;rw [AD ⟨hg,e1⟩,e2];refine ⟨A8,rfl,e4,k-19,O,e3,?_⟩;simp only [BD,Bi,Bp];omega
  ·rw [AE hc] at hq
   cases hq
 ·rw [AE hg,AE λhh=>hg hh.1]
  exact ⟨h1,h2,h3,k,O,h4,h5⟩
def aEa {t:Int}{xs:List Le}{s:SN}{q:SN×List Le×Bool}(h:RN s q):∀n,(PB t xs q n).2.2=U->RN (Ja t xs s n) (PB t xs q n)
 |0,_=>h
 |n+1,hq=>aoc (aEa h n<|apC hq) hq
namespace QV
variable (q : QV)
def sn:SN×List Le×Bool:=PB q.p.tk q.p.dL (q.p.Hp,q.vl,q.ok)<|M q.p.dL
def dec:QV:=if q.p.up=X then q else if q.p.dE≠0 then {q with p:={q.p with ls:=Gm q.p.ls q.p.tk}} else ⟨{q.p with ra:=q.p.dR,ls:=q.sn.1.ls,nx:=q.sn.1.nx,lk:=q.sn.1.lk},q.sn.2.1,q.sn.2.2⟩
def bef:QV:={q.dec with p:=q.dec.p.Ji.SK}
def tick:QV:={q.bef with p:=q.bef.p.G1.Jf.endP}
def Is:List Int:=q.bef.p.dw.dw
end QV
def RP (p:PK) (q:QV):Prop:=q.p={p with se:=0,fl:=[]}/\RV p.se p.fl q.vl
def asB {p:PK}{q:QV}(h:RP p q) (hq:q.dec.ok=U):RP p.AU q.dec:=by
 obtain ⟨qp,vl,ok⟩:=q;obtain ⟨h1,h2⟩:=h;subst h1
 have eq:QV.dec ⟨{p with se:=0,fl:=[]},vl,ok⟩=if p.up=X then ⟨{p with se:=0,fl:=[]},vl,ok⟩ else if p.dE≠0 then ⟨{p with se:=0,fl:=[],ls:=Gm p.ls p.tk},vl,ok⟩ else
  ⟨{p with se:=0,fl:=[],ra:=p.dR,ls:=(PB p.tk p.dL ({p.Hp with se:=0,fl:=[]},vl,ok)<|M p.dL).1.ls,nx:=(PB p.tk p.dL ({p.Hp with se:=0,fl:=[]},vl,ok)<|M p.dL).1.nx,lk:=(PB p.tk p.dL ({p.Hp with se:=0,fl:=[]},vl,ok)<|M p.dL).1.lk},
   (PB p.tk p.dL ({p.Hp with se:=0,fl:=[]},vl,ok)<|M p.dL).2.1,(PB p.tk p.dL ({p.Hp with se:=0,fl:=[]},vl,ok)<|M p.dL).2.2⟩:=rfl
 rw [eq] at hq|-;unfold PK.AU
 by_cases hu:p.up=X
 ·rw [AD hu,AD hu]
  exact ⟨rfl,h2⟩
 ·rw [AE hu] at hq
  rw [AE hu,AE hu]
  by_cases hd:p.dE≠0
  ·rw [AD hd,AD hd]
   exact ⟨rfl,h2⟩
  ·rw [AE hd] at hq
   rw [AE hd,AE hd]
   have hs:RN p.Hp ({p.Hp with se:=0,fl:=[]},vl,ok):=⟨rfl,h2⟩
   obtain ⟨k1,k2⟩:=aEa hs (M p.dL) hq;refine ⟨?_,k2⟩;rw [k1];rfl
def ag2 {p:PK}{q:QV}(h:RP p q) (hq:q.tick.ok=U):RP p.F6 q.tick/\p.Is=q.Is:=by
 obtain ⟨h1,h2⟩:=asB h hq;refine ⟨⟨?_,h2⟩,?_⟩
 ·show q.dec.p.Ji.SK.G1.Jf.endP=_
  rw [h1];rfl
 ·show _=q.dec.p.Ji.SK.dw.dw
  rw [h1];rfl
def aRu {pre mid post:List Int}:∀k,k<=M mid->Ec (pre++(mid++post)) (M pre:Int) k=pre++(aq k 255++(mid.drop k++post))
 |0,_=>by simp [Ec]
 |k+1,hk=>by
  simp only [Ec];rw [aRu k A0]
  have e1:(M pre:Int)+(k:Int)=((M pre+k:Nat):Int):=A0
  have hd:mid.drop k=mid[k]::mid.drop (k+1):=SU A0
  rw [e1,C3,kK _ _ A0,wg,kK _ _ AJ,Ce,kZ,hd];rw [k6,Cm];rfl
def asc {pre mid post:List Int}{n:Nat}(h:M mid=n):Ec (pre++(mid++post)) (M pre:Int) n=pre++(aq n 255++post):=by
 rw [aRu n A0,List.drop_of_length_le A0];rfl
theorem ahO {l:List Int}{n:Nat}(hl:M l=n) (h:l.all (λb=>b==255)=U):l=aq n 255:=by
 rw [List.eq_replicate_iff]
 grind
theorem aRs {pre mid post f0:List Int}{s:Int}{a:List Fl}{n:Nat}(hm:M mid=512) (hs:s*512=(M pre:Int)) (hf:(f0.drop<|M pre).take 512=mid):
  ∃a',Fa 512 f0 s (n+1) (a,pre++(mid++post))=Fa 512 f0 (s+1) n (a',pre++(aq 512 255++post)):=by
 have hw:isW 512 f0 s=!mid.all (λb=>b==255):=by
  unfold isW;rw [hs,C3]
  show (!((f0.drop<|M pre).take 512).all _)=_
  rw [hf]
 have e:Fa 512 f0 s (n+1) (a,pre++(mid++post))=Fa 512 f0 (s+1) n (if isW 512 f0 s=U then (a++(Kl 512 (pre++(mid++post)) s).drop 1,Ec (pre++(mid++post)) (s*512) 512) else (a,pre++(mid++post))):=rfl
 rw [e];split
 ·rw [hs,asc hm]
  grind
 ·rename_i hn
  have:mid.all (λb=>b==255)=true:=A8
  have h2:=ahO hm this
  grind
theorem aoi {O:List Int}(h:M O=1024):∃M1 M2,O=M1++M2/\M M1=512/\M M2=512:=⟨O.take 512,O.drop 512,(List.take_append_drop _ _).symm,A8,A8⟩
theorem aIB {pre post M1 M2 f0:List Int}{s:Int}{a:List Fl}(h1:M M1=512) (h2:M M2=512) (hs:s*512=(M pre:Int)) (hf:f0=pre++(M1++(M2++post))):
  (Fa 512 f0 s 2 (a,f0)).2=pre++(aq 1024 255++post):=by
 have f1:(f0.drop<|M pre).take 512=M1:=A8
 have f2:(f0.drop<|M<|pre++aq 512 255).take 512=M2:=by
  rw [hf,BD,Ce,<-Cm,List.drop_left' A8,List.take_left' h2]
 have e0:Fa 512 f0 s 2 (a,f0)=Fa 512 f0 s 2 (a,pre++(M1++(M2++post))):=A8
 rw [e0];obtain ⟨a1,e1⟩:=aRs (a:=a) (n:=1) (post:=M2++post) h1 hs f1;rw [e1]
 have e2:pre++(aq 512 255++(M2++post))=(pre++aq 512 255)++(M2++post):=(Cm _ _ _).symm
 rw [e2];obtain ⟨a2,e3⟩:=aRs (a:=a1) (n:=0) (s:=s+1) (post:=post) h2 A8 f2;rw [e3]
 show (pre++aq 512 255)++(aq 512 255++post)=_
 rw [Cm,<-Cm<|aq 512 255,wz]
def aBE (A O:List Int):Iv 0 A O=A++O:=AD rfl
def aBD (A O:List Int):Iv 1 A O=O++A:=AE Aa
def aj3 (A O:List Int):Iv (1-0) A O=O++A:=AE Aa
def aj2 (A O:List Int):Iv (1-1) A O=A++O:=AD rfl
namespace JI
variable {fl : List Int} {w g : Int} {ds : List (List Int)} {k : Nat} {O : List Int}
theorem ers (h:JI fl w g ds k O):(HE 512 fl).2=Iv w (DO g ds k) (aq 1024 255):=by
 obtain ⟨M1,M2,e,h1,h2⟩:=aoi h.lo;unfold HE;rw [h.half,h.cur.1]
 have e2:((((1024:Nat):Int).tdiv 512).toNat)=2:=Aa
 have e3:(((1024:Nat):Int).tdiv 512)=2:=Aa
 rw [e2,e3]
 have he:=h.eq
 rcases h.hw with rfl|rfl
 ·have:=aIB (pre:=DO g ds k) (post:=[]) (M1:=M1) (M2:=M2) (f0:=fl) (s:=(1-0)*2) (a:=[(512,fl)]) h1 h2 (by rw [h.la];rfl) (by rw [he,e,aBE];simp only [Cm,E7,GB,L2])
  rw [this,aBE]
  grind
 ·have:=aIB (pre:=[]) (post:=DO g ds k) (M1:=M1) (M2:=M2) (f0:=fl) (s:=(1-1)*2) (a:=[(512,fl)]) h1 h2 Aa (by rw [he,e,aBD];simp only [Cm,E7,GB,L2])
  rw [this,aBD]
  grind
theorem rew (h:JI fl w g ds k O) {ds':List<|List Int}(hg:g+1<4294967296) (hd:∀d∈ds',BH d/\M d<=65535) (hf:5+M (BN ds')<=1024):
  JI (Dc (Kx 512 fl ds') (Gj fl) [80] 1) (1-w) (g+1) ds' (1024-(5+M (BN ds'))) (DO g ds k):=by
 have hO:Gj fl=(1-w)*1024:=by unfold Gj;rw [h.half,h.cur.1];rfl
 have hB:Eb fl ds'=Cq (g+1)++BN ds':=by unfold Eb;rw [h.cur.1,h.gen]
 have hBl:M (Eb fl ds')=4+M (BN ds'):=by rw [hB,BD];rfl
 have hBb:BH (Eb fl ds'):=by rw [hB,KD];exact ⟨W5 _,qJ λd hd'=>(hd d hd').1⟩
 have hj:DO (g+1) ds' (1024-(5+M (BN ds')))=80::(Eb fl ds'++aq (1024-(5+M (BN ds'))) 255):=by rw [hB];unfold DO;simp
 have h255:aq 1024 (255:Int)=255::(aq (M<|Eb fl ds') 255++aq (1024-(5+M (BN ds'))) 255):=by
  rw [wz,<-ZQ,hBl]
  congr 1
  omega
 have key:∀pre post:List Int,(M pre:Int)=(1-w)*1024->(HE 512 fl).2=pre++(aq 1024 255++post)->Dc (Kx 512 fl ds') (Gj fl) [80] 1=pre++(DO (g+1) ds' (1024-(5+M (BN ds')))++post):=by
  intro pre post hp he
  have e1:Kx 512 fl ds'=pre++(255::(Eb fl ds'++(aq (1024-(5+M (BN ds'))) 255++post))):=by
   unfold Kx;rw [he,hO,<-hp,h255]
   have:=dG (pre:=pre++[255]) (post:=aq (1024-(5+M (BN ds'))) 255++post) (d:=Eb fl ds') hBb
   have e9:(M ((pre++[255]:List Int)):Int)=(M pre:Int)+1:=AJ
   rw [e9] at this
   have e0:pre++(255::(aq (M<|Eb fl ds') 255++aq (1024-(5+M (BN ds'))) 255)++post)=pre++[255]++(aq (M<|Eb fl ds') 255++(aq (1024-(5+M (BN ds'))) 255++post)):=by simp only [Cm,E7,GB,L2]
   rw [e0,this];simp only [Cm,E7,GB,L2]
  rw [e1,hO,<-hp]
  have:=dG (pre:=pre) (post:=Eb fl ds'++(aq (1024-(5+M (BN ds'))) 255++post)) (d:=[80]) aNp
  refine Eq.trans this ?_;rw [hj];simp only [Cm,E7,GB,L2]
 refine ⟨?_,by rw [Ol];omega,h.la,h.bja,by rcases h.hw with rfl|rfl<;>decide,by have:=h.hg;omega,λ_=>?_,hd⟩
 ·rcases h.hw with rfl|rfl
  ·refine (key (DO g ds k) [] (by rw [h.la];rfl) (by rw [h.ers,aBE];simp only [Cm,E7,GB,L2])).trans ?_
   rw [aj3]
   grind
  ·refine (key [] (DO g ds k) Aa (by rw [h.ers,aBD];simp only [Cm,E7,GB,L2])).trans ?_
   rw [aj2]
   grind
 ·rw [aGg h.hg];omega
theorem amK (h:JI fl w g ds k O) {ds':List<|List Int}(hg:g+1<4294967296):Fm 512 fl ds'=if rwF fl ds'=U then 0 else 10:=by
 unfold Fm;rw [h.Ub,AE Aa,h.cur.1,h.gen]
 grind
end JI
def an2 {se:Int}{fl:List Int}{ds:List<|List Int}(h:Fm se fl ds=0) (y:Fl):(Fk se fl ds).getLastD y=(se,Dc (Kx se fl ds) (Gj fl) [80] 1):=by
 unfold Fk;rw [AD h]
 have e:(Df se (Kx se fl ds) (Gj fl) [80]).drop 1=[(se,Dc (Kx se fl ds) (Gj fl) [80] 1)]:=by
  rfl
 rw [e,kG]
 simp
def awo {se:Int}{fl:List Int}{ds:List<|List Int}(h:Fm se fl ds=0):Fk se fl ds≠ []:=by
 unfold Fk;rw [AD h];intro hh
 have:=B1 M hh
 simp [Df] at this
def aEI {l:List Fl}{y:Fl}(h:l≠ []):G5 l ((M l:Int)-1)=l.getLastD y:=by
 have hp:=OM.2 h
 unfold G5;rw [kG,List.getLast?_eq_getElem?,DQ,show ((M l:Int)-1).toNat=M l-1 by omega,DR A0]
 rfl
structure VI (se:Int) (fl:List Int) (vl:List Le) (g:Int):Prop where
 se:se=512
 lv:BL vl=U
 ji:∃w k O,JI fl w g (vl.map Ay) k O
 g:g<=(vl.map (·.1)).getLastD 0
def VI.ld {se:Int}{fl:List Int}{vl:List Le}{g:Int}(h:VI se fl vl g):CX se fl=0/\BQ se fl=vl:=by
 obtain ⟨w,k,O,hj⟩:=h.ji
 have:=aaM hj h.lv
 rwa [h.se]
def anN {l:List Le}(h:M l>0):(l.map (·.1)).getLastD 0=(At l<|(M l:Int)-1).1:=by
 have e:((M l:Int)-1).toNat=M l-1:=A0
 unfold At;rw [kG,List.getLast?_map,List.getLast?_eq_getElem?,DQ,e,DR A0];rfl
def kpV (l:List Le) (x:Le) (t:Int):List Le:=Br l t++((if M l>0/\(M (Br l t)=0\/(At (Br l t)<|(M (Br l t):Int)-1).1≠(At l<|(M l:Int)-1).1) then [At l<|(M l:Int)-1] else [])++[x])
theorem aQe {l:List Le}{x:Le}{t:Int}:Hs l x t=(kpV l x t).map Ay:=by
 unfold Hs kpV
 grind
def aus {l:List Le}{x:Le}(h:H9 l x=X) (hv:BL l=U):letI a:=(At l<|(M l:Int)-1);M l>0->a.1<x.1/\a.2.2.2.1<=x.2.2.2.1:=by
 unfold H9 at h
 simp at h
 omega
def afQ {l:List Le}(h:M l>0):l=l.dropLast++[At l<|(M l:Int)-1]:=by
 have hne:=OM.1 h
 have:At l ((M l:Int)-1)=l.getLast hne:=by
  rw [NW A0,List.getLast_eq_getElem]
  congr 1
  omega
 rw [this];exact (List.dropLast_concat_getLast hne).symm
def anu (m:List Le) (z:Le):At (m++[z]) ((M (m++[z]):Int)-1)=z:=by
 unfold At
 simp
def atp {se:Int}{fl d:List Int}:HK se fl d≠ []:=by
 unfold HK Df
 simp
theorem arN {l:List Le}{x:Le}{t:Int}:(kpV l x t).Sublist (l++[x]):=by
 unfold kpV;rw [<-Cm];refine List.Sublist.append ?_<|List.Sublist.refl _
 have hs:(Br l t).Sublist l:=by
  unfold Br;split
  ·simp_all
  ·grind
 split
 ·rename_i hc
  obtain ⟨h1,h2⟩:=hc
  have hl:=afQ h1
  generalize hz:At l ((M l:Int)-1)=z at*
  have he:(Br l t).Sublist l.dropLast:=by
   unfold Br at h2|-;split
   ·rename_i ho
    rw [AD ho] at h2;rw [hl,ZS] at h2
    have hf:l.filter (Ms t)=l.dropLast.filter (Ms t)++[z].filter (Ms t):=by
     grind
    rw [hf];cases hb:Ms t z
    ·simp only [OQ,hb,List.filter_nil]
     simp
    ·exfalso
     have e1:[z].filter (Ms t)=[z]:=A8
     rw [e1] at h2;rcases h2 with h2|h2
     ·simp at h2
     ·apply h2
      rw [anu]
   ·grind
  conv=>rhs;rw [hl]
  grind
 ·grind
def qI {vl:List Le}:M (BN<|vl.map Ay)=19*M vl:=by
 induction vl with
 |nil=>rfl
 |cons x vl ih=>
  have e:BN ((x::vl).map Ay)=Bw (Ay x)++BN (vl.map Ay):=rfl
  rw [e,BD,MG,K8,ih,Bi];omega
def aoo (ds:List<|List Int):(ds.map λd=>7+M d).sum=M (BN ds):=(pF ds).symm
def VI.len {se:Int}{fl:List Int}{vl:List Le}{g:Int}(h:VI se fl vl g):M vl<=53:=by
 obtain ⟨w,k,O,hj⟩:=h.ji
 have:=hj.la
 rw [Ol,qI] at this;omega
def ai3 {se:Int}{fl:List Int}{vl:List Le}{g:Int}{x:Le}{t:Int}(h:VI se fl vl g) (hE:EG se fl x t=0):
  ∃vl' g',VI (G5 (Cj se fl x t)<|(M (Cj se fl x t):Int)-1).1 (G5 (Cj se fl x t)<|(M (Cj se fl x t):Int)-1).2 vl' g'/\(vl'=vl++[x]\/vl'=kpV vl x t)/\BL (vl++[x])=U/\(M vl>0->(At vl<|(M vl:Int)-1).1<x.1):=by
 obtain ⟨h1,h2⟩:=h.ld
 have hlen:=h.len
 obtain ⟨w,k,O,hj⟩:=h.ji
 have hse:=h.se
 subst hse
 have hla:=hj.la
 rw [Ol,qI] at hla;unfold EG at hE
 have hL:Cj 512 fl x t=if CX 512 fl≠0 then [] else if (!D4 x || !inB t 0 1100000)=U then [] else if H9 (BQ 512 fl) x=U then [] else
  if En 512 fl (Ay x)≠10 then HJ 512 fl (Ay x) else Fk 512 fl (Hs (BQ 512 fl) x t):=rfl
 rw [AE A0] at hE hL
 by_cases c1:(!D4 x || !inB t 0 1100000)=U
 ·rw [AD c1] at hE;cases hE
 rw [AE c1] at hE hL
 have hx:D4 x=true:=by
  simp only [Cl,Ct,not_or,V3] at c1;exact c1.1
 by_cases c2:H9 (BQ 512 fl) x=U
 ·rw [AD c2] at hE;cases hE
 rw [AE c2] at hE hL;rw [h2] at c2 hE hL
 have ho:=aus EA h.lv
 have hsn:BL (vl++[x])=true:=aE1 h.lv hx A0 (by
  by_cases hz:M vl=0
  ·exact .inl hz
  ·right
   obtain ⟨o1,o2⟩:=ho A0;unfold Jd;rw [DB (p:=x.1>_) o1,DB (p:=x.2.2.2.1>=_) o2];rfl)
 have hg:g<x.1:=by
  by_cases hz:M vl>0
  ·have:=h.g
   rw [anN hz] at this
   have:=(ho hz).1
   omega
  ·have e:vl=[]:=M4.1 A0
   have:=h.g
   rw [e] at this
   have h0:g<=0:=this
   have:=(QL.1 hx).1.1
   omega
 have hlx:=(QL.1 hx).1.2
 by_cases c3:Ly 512 fl (Ay x)=U
 ·have hap:En 512 fl (Ay x)=10:=by
   unfold En;rw [hj.Ub,c3];rfl
  rw [hap,AE Aa] at hE hL
  have hr:Fm 512 fl (Hs vl x t)=0:=hE
  rw [hL]
  have hf:rwF fl (Hs vl x t)=true:=by
   have:=hj.amK (ds':=Hs vl x t) A0
   rw [hr] at this
   by_cases hq:rwF fl (Hs vl x t)=U
   ·exact hq
   ·rw [AE hq] at this;cases this
  rw [aEI (y:=(0,[]))<|awo hr,an2 hr];unfold rwF at hf;rw [AY,hj.half,aoo] at hf
  have hfit:=DC hf.1
  refine ⟨kpV vl x t,g+1,⟨rfl,aER hsn arN,⟨1-w,1024-(5+M (BN<|Hs vl x t)),DO g (vl.map Ay) k,?_⟩,?_⟩,.inr rfl,hsn,λhz=>(ho hz).1⟩
  ·rw [<-aQe]
   exact hj.rew A0 (λd hd=>by rw [aQe] at hd;obtain ⟨y,_,rfl⟩:=Eg.1 hd;exact ⟨s9 y,by rw [K8];omega⟩) hfit
  ·have:((kpV vl x t).map (·.1)).getLastD 0=x.1:=by
    unfold kpV
    simp
   rw [this];omega
 ·have hap:En 512 fl (Ay x)=0:=by
   unfold En;exact aLb
  have har:HJ 512 fl (Ay x)=HK 512 fl (Ay x):=by
   unfold HJ;exact aLb
  rw [hap,AD Aa,har] at hL;rw [hL,aEI (y:=(0,[])) atp,aFz]
  have hk:19<=k:=by
   unfold Ly at c3;rw [hj.half,hj.lk,K8,qI] at c3
   simp at c3
   omega
  refine ⟨vl++[x],g,⟨rfl,hsn,⟨w,k-(7+M (Ay x)),O,?_⟩,?_⟩,.inl rfl,hsn,λhz=>(ho hz).1⟩
  ·have:=hj.app (s9 x) (by rw [K8];omega) (by rw [K8];exact hk)
   rw [Jw,E8,Kz];simp only;exact this
  ·rw [Jw,kG]
   simp
   omega
def Es (se:Int) (n:Nat) (y:Fl):Prop:=y.1=se/\M y.2=n/\BH y.2
def fE {se:Int}{fl:List Int}{a:Int}{d:List Int}{n:Nat}(h:Es se n (se,fl)):∀y∈Df se fl a d,Es se n y:=by
 intro y hy;obtain ⟨k,_,rfl⟩:=Eg.1 hy;exact ⟨rfl,(Su _ _ _ _).trans h.2.1,s8 h.2.2 _ _ _⟩
def agQ {se:Int}{fl:List Int}{s:Int}{n:Nat}(h:Es se n (se,fl)):∀y∈Kl se fl s,Es se n y:=by
 intro y hy;obtain ⟨k,_,rfl⟩:=Eg.1 hy;exact ⟨rfl,(cE _ _ _).trans h.2.1,aRt h.2.2 _ _⟩
theorem qZ {se:Int}{f0:List Int}{n:Nat}:∀(m:Nat) (s:Int) (a:List Fl×List Int),(∀y∈a.1,Es se n y)->Es se n (se,a.2)->(∀y∈(Fa se f0 s m a).1,Es se n y)/\Es se n (se,(Fa se f0 s m a).2)
 |0,_,_,h1,h2=>⟨h1,h2⟩
 | m+1,s,a,h1,h2=>by
  unfold Fa;split
  ·refine qZ m (s+1) _ (λy hy=>?_) ⟨rfl,(cE _ _ _).trans h2.2.1,aRt h2.2.2 _ _⟩
   rcases By.1 hy with hy|hy
   ·grind
   ·exact agQ h2 y<|Pm hy
  ·exact qZ m (s+1) a h1 h2
def ahJ {se:Int}{fl d:List Int}{n:Nat}(h:Es se n (se,fl)):∀y∈HK se fl d,Es se n y:=by
 intro y hy;rcases By.1 hy with hy|hy
 ·exact fE h y hy
 ·exact fE ⟨rfl,(Su _ _ _ _).trans h.2.1,s8 h.2.2 _ _ _⟩ y<|Pm hy
theorem aOC {se:Int}{fl:List Int}{ds:List<|List Int}{n:Nat}(h:Es se n (se,fl)):∀y∈Fk se fl ds,Es se n y:=by
 intro y hy;unfold Fk at hy;split at hy
 ·obtain ⟨k1,k2⟩:=qZ (se:=se) (f0:=fl) (n:=n) (((M fl / 2:Nat):Int).tdiv se).toNat ((1-Ar fl)*((M fl / 2:Nat):Int).tdiv se) ([(se,fl)],fl) (λy hy=>A8) h
  rcases By.1 hy with hy|hy
  ·exact k1 y hy
  ·rcases By.1 hy with hy|hy
   ·exact fE k2 y<|Pm hy
   ·exact fE ⟨rfl,(Su _ _ _ _).trans k2.2.1,s8 k2.2.2 _ _ _⟩ y<|Pm hy
 ·cases hy
def qY {se:Int}{f0:List Int}:∀(m:Nat) (s:Int) (a:List Fl×List Int),a.1≠ []->(Fa se f0 s m a).1≠ []
 |0,_,_,h=>h
 |m+1,s,a,h=>by
  unfold Fa;split
  ·exact qY m _ _ lU
  ·exact qY m _ _ h
def aOB {se:Int}{fl:List Int}{ds:List<|List Int}(h:Fm se fl ds=0):Fk se fl ds≠ []:=by
 unfold Fk;rw [AD h]
 have:=qY (se:=se) (f0:=fl) (((M fl / 2:Nat):Int).tdiv se).toNat ((1-Ar fl)*((M fl / 2:Nat):Int).tdiv se) ([(se,fl)],fl) AJ
 intro hh;rw [List.append_eq_nil_iff] at hh;exact this hh.1
def ahI {se:Int}{fl d:List Int}:HK se fl d≠ []:=by
 unfold HK Df
 simp
theorem aTo {se:Int}{fl:List Int}{x:Le}{t:Int}{n:Nat}(h:Es se n (se,fl)):(∀y∈Cj se fl x t,Es se n y)/\(EG se fl x t=0->Cj se fl x t≠ []):=by
 have ha:(∀y∈HJ se fl (Ay x),Es se n y)/\(En se fl (Ay x)=0->HJ se fl (Ay x)≠ []):=by
  unfold HJ En
  by_cases h1:Bs se fl≠0
  ·grind
  ·rw [AE h1,AE h1]
   by_cases h2:Ly se fl (Ay x)=U
   ·grind
   ·rw [AE h2,AE h2]
    by_cases h3:Lw fl=U
    ·rw [AD h3,AD h3];exact ⟨ahJ h,λ_=>ahI⟩
    ·rw [AE h3,AE h3];exact ⟨aOC h,aOB⟩
 unfold Cj EG
 by_cases h1:CX se fl≠0
 ·grind
 ·rw [AE h1,AE h1]
  split
  ·grind
  ·split
   ·grind
   ·split
    ·exact ha
    ·exact ⟨aOC h,aOB⟩
structure SnI (s:SN) (n:Nat):Prop where
 fl:Es 512 2048 (s.se,s.fl)
 ls:M s.ls<=64
 lk:M s.lk<=n
def anp {l:List Le}{x:Le}(h:FD l x=0):M (Jc l x)<=64:=by
 unfold Jc;rw [AD h];unfold FD at h;split at h
 ·rename_i hv
  rw [AY] at hv
  have:=(Ij hv.1).1
  split at h
  ·cases h
  ·split at h
   ·cases h
   ·simp;omega
 ·cases h
theorem avK {t:Int}{s:SN}{x:Le}{n:Nat}(h:SnI s n):SnI (Gu t s x) (n+1):=by
 unfold Gu;split
 ·rename_i hc
  have hs:Es s.se 2048 (s.se,s.fl):=⟨rfl,h.fl.2.1,h.fl.2.2⟩
  obtain ⟨k1,k2⟩:=aTo (x:=x) (t:=t) hs
  have hne:=OM.2<|k2 hc.2
  have hm:G5 (Cj s.se s.fl x t) ((M (Cj s.se s.fl x t):Int)-1)∈Cj s.se s.fl x t:=by
   unfold G5;rw [LJ A0]
   grind
  obtain ⟨m1,m2,m3⟩:=k1 _ hm;exact ⟨⟨m1.trans h.fl.1,m2,m3⟩,anp hc.1,by have:=h.lk;simp;omega⟩
 ·exact ⟨h.fl,h.ls,by have:=h.lk;omega⟩
def aOM {t:Int}{xs:List Le}{s:SN}{n:Nat}(h:SnI s n):∀k,SnI (Ja t xs s k) (n+k)
 |0=>h
 |k+1=>avK<|aOM h k
structure RQ (p:PK):Prop where
 fl:Es 512 2048 (p.se,p.fl)
 ls:M p.ls<=64
 lk:(M p.lk:Int)<=16*p.tk
 ra:M p.ra<=16
 dm:∀x∈p.dm,HI x=U
 mi:∀m∈p.mi,M m.1<=21
theorem aFN {l:List Le}{t:Int}:M (Br l t)<=M l:=by
 unfold Br;split
 ·grind
 ·simp
def asW {l:List Le}{t:Int}:M (Gm l t)<=M l:=by
 unfold Gm;split
 ·exact aFN
 ·omega
def aRZ {p:PK}:M p.dL<=M p.gs:=by
 unfold PK.dL deL;split
 ·exact aCS
 ·simp
def ag9 {p:PK}:M p.dR<=M p.gs:=by
 unfold PK.dR deR;split
 ·exact kV cy
 ·simp
theorem aRY {p:PK}(h:RQ p) (hg:M p.gs<=16):Es 512 2048 (p.AU.se,p.AU.fl)/\M p.AU.ls<=64/\(M p.AU.lk:Int)<=16*p.tk+16/\M p.AU.ra<=16:=by
 have hl:=h.lk
 have he:M (Gm p.ls p.tk)<=64:=HP asW h.ls
 unfold PK.AU;split
 ·exact ⟨h.fl,h.ls,A0,h.ra⟩
 ·split
  ·exact ⟨h.fl,he,A8,h.ra⟩
  ·have hs:SnI p.Hp (M p.lk):=⟨h.fl,he,Av _⟩
   have h1:=aOM (t:=p.tk) (xs:=p.dL) hs<|M p.dL
   have hd:=aRZ (p:=p)
   exact ⟨h1.fl,h1.ls,by have:=h1.lk;show (M (Ja p.tk p.dL p.Hp<|M p.dL).lk:Int)<=_;omega,HP ag9 hg⟩
def mem_set {α:Type}{l:List α}{i:Nat}{x y:α}(h:y∈l.set i x):y∈l\/y=x:=OR h
theorem as6 (c:Ca) (m:Mi) (p al:Int):M (JB c m p al).1<=21\/M m.1>21:=by
 unfold JB;split
 ·rename_i hB
  refine .inl ?_;simp only [dwP,Eu,BD,Bi,Bp];omega
 ·grind
theorem aRw {gs:List Ch}{ca:List Ca}{s:DW}(h:∀m∈s.mi,M m.1<=21):∀k,∀m∈(Cy gs ca s k).mi,M m.1<=21
 |0=>h
 | k + 1=>by
  have ih:=aRw (gs:=gs) (ca:=ca) h k
  unfold Cy FK;split
  ·exact ih
  ·split
   ·intro m hm
    rcases mem_set hm with hm|rfl
    ·grind
    ·rcases as6 (Bb ca k) (CI (Cy gs ca s k).mi k) (AG gs k).2.2.1 (Bg (AG gs k)<|BG (Cy gs ca s k).st k) with e|e
     ·exact e
     ·exfalso
      have:M (CI (Cy gs ca s k).mi k).1<=21:=by
       unfold CI;rw [DQ];cases hx:(Cy gs ca s k).mi[(k:Int).toNat]? with
       |none=>simp
       |some y=>exact ih y<|OK hx
      omega
   ·exact ih
theorem arL {se:Int}{fl:List Int}:M (BQ se fl)<=64:=by
 unfold BQ;split
 ·rename_i h
  unfold CX at h;split at h
  ·cases h
  ·split at h
   ·grind
   ·split at h
    ·split at h
     ·rename_i h3;exact (Ij h3).1
     ·cases h
    ·cases h
 ·simp
def RQ.tick {p:PK}(h:RQ p) (hv:VP p):RQ p.F6:=by
 have hg:=(DD.1 hv.site).1.2.2.2.2.1
 obtain ⟨h1,h2,h3,h4⟩:=aRY h hg;obtain ⟨e1,e2,e3,e4,e5,e6,e7,e8,e9,e10,e11,e12,e13,e14⟩:=Vk p;refine ⟨h1,h2,?_,h4,?_,?_⟩
 ·show (M (p.AU.lk.filter _):Int)<=16*(p.AU.tk+1)
  have:=wq (λl:Lk=>an<|l.1>p.AU.tk) p.AU.lk
  rw [e6] at this|-;omega
 ·show ∀x∈p.AU.dm,_
  rw [e12];exact h.dm
 ·refine aRw ?_ _
  show ∀m∈p.AU.mi,_
  rw [e10];exact h.mi
theorem RQ.step {p:PK}(h:RQ p) (hv:VP p) {e:EV}(he:BJ p e=0):RQ (BO p e):=by
 have hg:=(DD.1 hv.site).1.2.2.2.2.1
 unfold BO;rw [AE A0];unfold BJ at he;split
 ·exact h.tick hv
 rename_i h1;rw [AE h1] at he;split
 ·rename_i h2
  have hd:HI e.d=true:=by
   unfold PK.GS at he;split at he
   ·cases he
   ·split at he
    ·cases he
    ·rename_i hb
     grind
  refine {h with dm:=λx hx=>?_,mi:=λm hm=>?_}
  ·rcases mem_set hx with hx|rfl
   ·exact h.dm x hx
   ·exact hd
  ·exact aM5
 rename_i h2;rw [AE h2] at he;split
 ·refine {h with dm:=λx hx=>?_,mi:=λm hm=>?_}
  ·rcases mem_set hx with hx|rfl
   ·exact h.dm x hx
   ·decide
  ·exact aM5
 rename_i h3;rw [AE h3] at he;split
 ·have:=wq (λl:Lk=>l.2.2.1 !=e.en) p.lk
  exact {h with lk:=by show (M (p.lk.filter _):Int)<=16*p.tk;have:=h.lk;omega}
 rename_i h4;rw [AE h4] at he;split
 ·exact {h with ls:=by simp [PK.PF]}
 rename_i h5;rw [AE h5] at he;split
 ·exact {h with ls:=HP aFN arL,ra:=by simp [PK.XK];omega}
 rename_i h6;rw [AE h6] at he;split
 ·exact {h with}
 ·exact {h with}
theorem aQv {cs:List Cd}{os:List ByteArray}{ks:List Ko}{gs:List Ch}{bs:List Ba}{dr:List Int}(h:DI cs os ks gs bs dr=0):VP (newP cs os ks gs bs dr)/\RQ (newP cs os ks gs bs dr):=by
 unfold newP;rw [AE A0];unfold DI at h;split at h
 ·cases h
 rename_i h1;simp only [not_or,V3,ne_eq,Decidable.not_not] at h1;split at h
 ·cases h
 rename_i h2;simp only [V3] at h2
 have hb:BH El:=by
  unfold El DO;rw [KD,KD,KD,QB];exact ⟨⟨⟨Aa,W5 _⟩,qJ λd hd=>VN,cz _⟩,cz _⟩
 have hl:M El=2048:=by unfold El;rw [BD,Ol,Ce];rfl
 refine ⟨⟨h1.1,AJ,AJ,AJ,AJ,by simp [FZ],AJ,h1.2,AJ,λk hk=>?_,h2,λl hl=>by cases hl⟩,⟨⟨rfl,hl,hb⟩,AJ,AJ,by simp;exact (DD.1 h1.1).1.2.2.2.2.1,λx hx=>?_,λm hm=>?_⟩⟩
 ·simp only [Ft] at hk
  have e:gi (cs.map λc=>c.2.2.1) (k:Int)=(Al cs k).2.2.1:=by
   unfold gi Al
   simp [hk]
  simp only [e];exact ⟨(ue h1.1 hk).1,Dg _⟩
 ·obtain ⟨_,rfl⟩:=SR.1 hx;decide
 ·grind
def aFO {se:Int}{f0:List Int}:∀(n:Nat) (s:Int) (a:List Fl×List Int),M (Fa se f0 s n a).1<=M a.1+n*se.toNat
 |0,s,a=>by simp [Fa]
 | n+1,s,a=>by
  unfold Fa
  have h:=aFO (se:=se) (f0:=f0) n (s+1) (if isW se f0 s=U then (a.1++(Kl se a.2 s).drop 1,Ec a.2 (s*se) se.toNat) else a)
  rw [Nat.succ_mul];split at h
  ·rename_i c
   rw [AD c]
   have e:M ((Kl se a.2 s).drop 1)=se.toNat:=by unfold Kl;rw [Eu,Ft,SS];omega
   simp only [BD] at h;omega
  ·rename_i c
   rw [AE c];omega
def qH (se:Int) (fl:List Int) (a:Int) (d:List Int):M ((Df se fl a d).drop 1)=M d:=by
 unfold Df;rw [Eu,Ft,SS];omega
theorem aG6 {fl:List Int}{ds:List<|List Int}(hl:M fl=2048) (hE:Fm 512 fl ds=0):M (Fk 512 fl ds)<=5000:=by
 have hF:rwF fl ds=true:=by
  unfold Fm at hE;split at hE
  ·grind
  ·split at hE
   ·cases hE
   ·rename_i h
    cases e:rwF fl ds
    ·grind
    ·rfl
 have hb:M (Eb fl ds)<=1100:=by
  unfold rwF at hF;rw [AY,Ac] at hF;unfold Eb;rw [BD,pF]
  have:M (Cq<|Iy fl (Ar fl)+1)=4:=rfl
  omega
 have he:M (HE 512 fl).1<=1025:=by
  refine HP (aFO _ _ _) ?_;rw [hl]
  show 1+(((2048 / 2:Nat):Int).tdiv 512).toNat*(512:Int).toNat<=1025
  decide
 unfold Fk;rw [AD hE,BD,BD,qH,qH];simp only [Bi,Bp];omega
theorem aow {se:Int}{fl:List Int}{x:Le}{t:Int}(h:Es 512 2048 (se,fl)) (hE:EG se fl x t=0):M (Cj se fl x t)<=5000:=by
 have hs:=h.1
 subst hs
 have hl:=h.2.1
 unfold EG at hE;unfold Cj;split at hE
 ·grind
 rename_i h1;rw [AE h1];split at hE
 ·cases hE
 rename_i h2;rw [AE h2];split at hE
 ·cases hE
 rename_i h3;rw [AE h3];split at hE
 ·rename_i h4
  rw [AD h4];unfold En at hE;unfold HJ;split at hE
  ·grind
  rename_i h5;rw [AE h5];split at hE
  ·cases hE
  rename_i h6;rw [AE h6];split at hE
  ·rename_i h7
   rw [AD h7];unfold HK;rw [BD,qH];unfold Df;rw [Ft,SS,Eu,MG,K8]
   decide
  ·rename_i h7
   rw [AE h7];exact aG6 hl hE
 ·rename_i h4
  rw [AE h4];exact aG6 hl hE
def VK (se:Int) (fl:List Int):Prop:=Es 512 2048 (se,fl)/\∃vl g,VI se fl vl g
def VK.cl {se:Int}{fl:List Int}(h:VK se fl):Lw fl=true:=by
 obtain ⟨_,vl,g,hv⟩:=h;obtain ⟨w,k,O,hj⟩:=hv.ji;exact hj.cl
theorem VK.st {se:Int}{fl:List Int}{x:Le}{t:Int}(h:VK se fl) (hE:EG se fl x t=0):letI b:=Cj se fl x t;letI a:=(G5 b<|(M b:Int)-1);0<M b/\VK a.1 a.2:=by
 obtain ⟨hf,vl,g,hv⟩:=h;obtain ⟨vl',g',h1,_⟩:=ai3 hv hE
 have hn:=(aTo (x:=x) (t:=t) (show Es se 2048 (se,fl) from ⟨rfl,hf.2.1,hf.2.2⟩))
 have hp:=OM.2<|hn.2 hE
 refine ⟨hp,?_,vl',g',h1⟩
 have hm:G5 (Cj se fl x t) ((M (Cj se fl x t):Int)-1)∈Cj se fl x t:=by
  unfold G5;rw [DQ,DR A0]
  grind
 have hq:=hn.1 _ hm
 exact ⟨by rw [hq.1];exact hf.1,hq.2.1,hq.2.2⟩
def AQ {α:Type}(l:List α):List α:=(l.drop 0).take<|M l
def FQ {α:Type}(l:List α):AQ l=l:=TA l
def cpC (l:List Cd):List Cd:=BC (AQ l)<|aq (M l:Int).toNat (ByteArray.empty,((0:Int),((0:Int),((0:Int),(((0:Int),(0:Int)),((0:Int),((0:Int),((0:Int),((0:Int),(0:Int))))))))))
def X4 (l:List Cd):cpC l=l:=by
 unfold cpC;rw [FQ];exact QO
structure PT where
 (n i:Int)
 p:PK
 ev:EW
 BV:List ByteArray
 Bz:List Ko
 B5:List Ch
 C0:List Ba
 o:List Cd
def zA (s:PT):T (Rd PT):=letI b:=s.o.getD s.i.toNat<|Ty.dflt Ad;letI a:=(s.o.set s.i.toNat (b.1,(b.2.1,((s.p.tg.getD s.i.toNat<|Ty.dflt A7),b.2.2.2))));.br (an<|s.i<s.n) (.ik s.i (M s.p.tg)<|.ik s.i (M s.o)<|.rl s.p.tg<|.rl s.p.cs<|.rl s.p.fl<|.rl s.p.ra<|.pb s.p<|.re (M s.o) a<|.nx {s with i:=AA<|s.i+1,o:=a})<|.rl s.p.tg<|.rl s.p.cs<|.rl s.p.fl<|.rl s.p.ra<|.pb s.p<|.rl s.o<|.so (.exit 0) s
def jf (s:PT):Prop:=s.i=0/\s.n=(M s.p.tg:Int)/\M s.p.tg=M s.p.cs/\s.n<=1000/\s.o=Hb s.p.cs s.p.tg s.i.toNat
def YB (s:PT):Prop:=(0<=s.i/\s.i<=s.n)/\s.n=(M s.p.tg:Int)/\M s.p.tg=M s.p.cs/\s.n<=1000/\s.o=Hb s.p.cs s.p.tg s.i.toNat
def tB (s:PT):Nat:=(s.n-s.i).toNat
def aAN (x:Ex) (s s':PT):Prop:=x=.exit 0/\s'.o=Hb s'.p.cs s'.p.tg (M s'.p.tg)
def alR:∀s,jf s->YB s:=by
 exact aML
theorem ag8:Da YB tB aAN zA:=by
 intro s hI;obtain ⟨⟨h0,h1⟩,h2,h3,h4,h5⟩:=hI
 have hl:M s.o=M s.p.cs:=lH
 refine AH (λc1=>?_) λc1=>?_
 ·have c1:s.i<s.n:=A8
  rw [AI (x:=s.i+1)];refine ⟨⟨⟨A8,A8⟩,h2,h3,h4,?_⟩,by simp only [tB];omega⟩
  exact aL5
 ·have c1:s.n<=s.i:=A8
  refine ⟨rfl,?_⟩
  grind
def UF:AR PT:=⟨18,34,[2,3,19,20,21],[],λs=>[.own 18 0,.own 19 0,.os 15 1 0<|M s.p.tg,s.n,s.i],λs=>[AO,AO,zB,AO,bV 73 Ad s.p.cs,AO,bV 5 (.int aw) s.p.fl,bV 130 Am s.p.ra,bV 95 B3 s.p.st,bV 56 AP s.p.ca,bV 110 B7 s.p.mi,bV 98 BS s.p.me,bV 58 Ak s.p.dm,bV 106 BM s.p.lk,bV 3 A7 s.p.dr,bV 3 A7 s.p.tg,⟨[.os 4 11 0<|M s.p.cs,.xl .str s.p.os,.xl Ah s.p.ks,.xl Ae s.p.gs,.xl Ai s.p.bs,.v<|Y J s.p.tk,.v<|.bool s.p.up,.xl AP s.p.ls,.v<|Y J s.p.se,.os 6 1 0<|M s.p.fl,.os 7 2 0<|M s.p.ra,.v<|Y J s.p.nx,.os 8 4 0<|M s.p.st,.os 9 5 0<|M s.p.ca,.os 10 3 0<|M s.p.mi,.os 11 3 0<|M s.p.me,.os 12 4 0<|M s.p.dm,.os 13 6 0<|M s.p.lk,.os 14 1 0<|M s.p.dr,.os 15 1 0<|M s.p.tg,.v<|Y J s.ev.ek,.v<|Y J s.ev.en,.v<|Y J s.ev.em,.v<|Y J s.ev.c1,.v<|Y J s.ev.c2,.v<|Y J s.ev.c3,.v<|Y J s.ev.c4,.v<|Y J s.ev.c5,.v<|.bool s.ev.d1,.v<|Y J s.ev.d2,.v<|Y J s.ev.d3,.v<|Y J s.ev.d4,.v<|.slice aj 0 0],88,.cl,X⟩,AO,⟨[.v<|.slice aj 0 0,.v<|.slice aj 0 0,.v<|.slice aj 0 0,.v<|.slice aj 0 0,.v<|.slice aj 0 0],28,.cl,X⟩,⟨[.os 20 11 0<|M s.o,s.BV,s.Bz,s.B5,s.C0],28,.cl,X⟩,bV 73 Ad s.o],λv b=>⟨AK v 3,AK v 4,rB b 16 4 0 6 7 8 9 10 11 12 13 14 15,rG b,AF .str b 19 1,AF Ah b 19 2,AF Ae b 19 3,AF Ai b 19 4,Ab Ad b 20⟩,zA,λs r=> {s with i:=r.i,o:=r.o},λs=>s,λ_ s=>s,[.exit 0],jf,YB,tB⟩
abbrev aGr:=UF.run
abbrev asL:=UF.Aq
def P4:List Bd:=[]
def azL:Ax:=kI P4<|la 9 func25 Cn<|l0 P4
def axy:Rq YB zA:=by
 intro s hI;refine ⟨λc1=>⟨?_,?_,?_,?_,A9,A9,A9,A9,A9,A9,A9,A9,A9,A9,A9,A9,?_,ak⟩,λc1=>⟨A9,A9,A9,A9,A9,A9,A9,A9,A9,A9,A9,A9,A9,ak⟩⟩
 all_goals ((obtain ⟨⟨h0,h1⟩,h2,h3,h4,h5⟩:=hI;have hl:M s.o=M s.p.cs:=lH;(try simp only [Ac] at c1);first|omega|exact ⟨rfl,rfl⟩ |exact ⟨rfl,AJ⟩))
def aQ9:UF.Ok:={}
def aPj:UF.Pf (aAN):=⟨alR,λs h=>rfl,ag8,axy⟩
def aGL:=s2 (b:=bN f48 0) aQ9 aPj P4 azL
def atx:Fi jf YB aAN asL aGr:=AR.fin aQ9 aPj
structure LU where
 p:PK
 ev:EW
def UW (s:LU):List LV:=[.own 16 0]
def Yl (s:LU):List AB:=[AO,AO,zB,AO,bV 73 Ad s.p.cs,AO,bV 5 (.int aw) s.p.fl,bV 130 Am s.p.ra,bV 95 B3 s.p.st,bV 56 AP s.p.ca,bV 110 B7 s.p.mi,bV 98 BS s.p.me,bV 58 Ak s.p.dm,bV 106 BM s.p.lk,bV 3 A7 s.p.dr,bV 3 A7 s.p.tg,⟨[.os 4 11 0<|M s.p.cs,.xl .str s.p.os,.xl Ah s.p.ks,.xl Ae s.p.gs,.xl Ai s.p.bs,.v<|Y J s.p.tk,.v<|.bool s.p.up,.xl AP s.p.ls,.v<|Y J s.p.se,.os 6 1 0<|M s.p.fl,.os 7 2 0<|M s.p.ra,.v<|Y J s.p.nx,.os 8 4 0<|M s.p.st,.os 9 5 0<|M s.p.ca,.os 10 3 0<|M s.p.mi,.os 11 3 0<|M s.p.me,.os 12 4 0<|M s.p.dm,.os 13 6 0<|M s.p.lk,.os 14 1 0<|M s.p.dr,.os 15 1 0<|M s.p.tg,.v<|Y J s.ev.ek,.v<|Y J s.ev.en,.v<|Y J s.ev.em,.v<|Y J s.ev.c1,.v<|Y J s.ev.c2,.v<|Y J s.ev.c3,.v<|Y J s.ev.c4,.v<|Y J s.ev.c5,.v<|.bool s.ev.d1,.v<|Y J s.ev.d2,.v<|Y J s.ev.d3,.v<|Y J s.ev.d4,.v<|.slice aj 0 0],88,.cl,X⟩,AO]
def oY (s:LU):PT:=(⟨((M s.p.tg:Nat):Int),0,s.p,s.ev,s.p.os,s.p.ks,s.p.gs,s.p.bs,cpC s.p.cs⟩:PT)
structure Xd where
 so:List ByteArray
 sk:List Ko
 sg:List Ch
 sb:List Ba
 p:PK
 ev:EW
 o:List Cd
def abG (s:Xd):LV:=.agg [.os 18 11 0<|M s.o,s.so,s.sk,s.sg,s.sb]
def aby (s:Xd):List AB:=[AO,AO,zB,AO,bV 73 Ad s.p.cs,AO,bV 5 (.int aw) s.p.fl,bV 130 Am s.p.ra,bV 95 B3 s.p.st,bV 56 AP s.p.ca,bV 110 B7 s.p.mi,bV 98 BS s.p.me,bV 58 Ak s.p.dm,bV 106 BM s.p.lk,bV 3 A7 s.p.dr,bV 3 A7 s.p.tg,⟨[.os 4 11 0<|M s.p.cs,.xl .str s.p.os,.xl Ah s.p.ks,.xl Ae s.p.gs,.xl Ai s.p.bs,.v<|Y J s.p.tk,.v<|.bool s.p.up,.xl AP s.p.ls,.v<|Y J s.p.se,.os 6 1 0<|M s.p.fl,.os 7 2 0<|M s.p.ra,.v<|Y J s.p.nx,.os 8 4 0<|M s.p.st,.os 9 5 0<|M s.p.ca,.os 10 3 0<|M s.p.mi,.os 11 3 0<|M s.p.me,.os 12 4 0<|M s.p.dm,.os 13 6 0<|M s.p.lk,.os 14 1 0<|M s.p.dr,.os 15 1 0<|M s.p.tg,.v<|Y J s.ev.ek,.v<|Y J s.ev.en,.v<|Y J s.ev.em,.v<|Y J s.ev.c1,.v<|Y J s.ev.c2,.v<|Y J s.ev.c3,.v<|Y J s.ev.c4,.v<|Y J s.ev.c5,.v<|.bool s.ev.d1,.v<|Y J s.ev.d2,.v<|Y J s.ev.d3,.v<|Y J s.ev.d4,.v<|.slice aj 0 0],88,.cl,X⟩,AO,bV 73 Ad s.o]
def fp (s:LU):T Xd:=letI a:=((M s.p.cs:Nat):Int);.rm 96 a<|.rz s.p.cs<|.rc a (ByteArray.empty,((0:Int),((0:Int),((0:Int),(((0:Int),(0:Int)),((0:Int),((0:Int),((0:Int),((0:Int),(0:Int)))))))))) (M<|AQ s.p.cs)<|.rl s.p.tg<|.rl s.p.cs<|.rl s.p.fl<|.rl s.p.ra<|.pb s.p<|.re a.toNat (cpC s.p.cs)<|.req (UF.q<|oY s)<|.rl s.p.cs<|.rl s.p.fl<|.rl s.p.ra<|.pb s.p<|.ok<|⟨s.p.os,s.p.ks,s.p.gs,s.p.bs,s.p,s.ev,(aGr<|oY s).o⟩
def jl (s:LU):Prop:=M s.p.tg=M s.p.cs/\M s.p.tg<=1000
def ab2 (s:LU):Xd:=⟨s.p.os,s.p.ks,s.p.gs,s.p.bs,s.p,s.ev,Hb s.p.cs s.p.tg<|M s.p.tg⟩
def jt:Cs LU Xd:=⟨UW,Yl,λv b=>⟨rB b 16 4 0 6 7 8 9 10 11 12 13 14 15,rG b⟩,jl,[0,1,3,5,17],[],abG,aby,ab2⟩
abbrev aiM (s:LU):Prop:=jl s/\UW s=UW s/\Yl s=Yl s
def aRG:Ax:=kI P4<|la 4 func48 aGL<|la 9 func25 Cn<|l0 P4
def aTc:DE:=CT 48 18 4 (UF.lp)<|CT 25 0 9 (GZ.lp)<|Dl prog AV P4 20 2
def aoT:ED prog AV aTc:=D5 func48 rfl AT aGL<|D5 func25 rfl AT Cn<|HW<|gk P4
def ayW (s:LU):((EP prog AV P4 aTc aRG).k 48 (UW s)<|Yl s).bind (λq=>G2 (M<|Yl s) [0] [] .normal (q.1::UW s) q.2)=(fp s).mp (λs2=>⟨.normal,M (UW s)+1,[abG s2],aby s2,U⟩):=AT
theorem ava (s:LU) (hE:jl s):(fp s).all (λq=>q=ab2 s):=by
 obtain ⟨ht,hn⟩:=hE
 have hA:jf (oY s):=⟨rfl,rfl,ht,aN6,X4 _⟩
 obtain ⟨_,_,_,q2⟩:=atx _ hA;unfold fp;simp only [FQ,X4,q2]
 repeat (refine ⟨A8,?_⟩)
 refine ⟨⟨hA,rfl,rfl⟩,?_⟩
 repeat (refine ⟨AJ,?_⟩)
 rfl
def aRc:DX prog AV 48 jt.m:=Cs.sound (D:=jt) (t:=fp) (gk P4) aoT aRG.h ayW λs hE=>⟨ava s hE⟩
structure Nk where
 xs:List Le
 (n i:Int)
 p:PK
 ev:EW
def v8 (s:Nk):T (Rd Nk):=letI c:=At s.xs s.i;letI e:=AA<|s.i+1;letI a:=((AA<|s.p.tk+((AA<|(AA<|7*s.p.tk)+(AA<|3*c.2.1)).tmod 5)),c);letI b:=Cj s.p.se s.p.fl c s.p.tk;letI d:=(AA<|(M b:Int)-1);.br (an<|s.i<s.n) (.ix s.i (M s.xs)<|.br ((FD s.p.ls c) !=0) (.rl s.p.cs<|.rl s.p.st<|.rl s.p.ca<|.rl s.p.mi<|.rl s.p.me<|.rl s.p.lk<|.rl s.p.dr<|.rl s.p.tg<|.nx {s with i:=e})<|.req (BH s.p.fl/\(Bs s.p.se s.p.fl=0->Lw s.p.fl=U))<|.br ((EG s.p.se s.p.fl c s.p.tk) !=0) (.rl s.p.cs<|.rl s.p.st<|.rl s.p.ca<|.rl s.p.mi<|.rl s.p.me<|.rl s.p.lk<|.rl s.p.dr<|.rl s.p.tg<|.nx {s with i:=e})<|.ix d (M b)<|.req ((5:Int)≠0)<|.rb (M s.p.lk) (M<|[a]) 48<|.rl s.p.cs<|.rl s.p.st<|.rl s.p.ca<|.rl s.p.mi<|.rl s.p.me<|.re (M s.p.lk+M ([a])) (s.p.lk++([a]))<|.rl s.p.dr<|.rl s.p.tg<|.nx {s with i:=e,p.ls:=Jc s.p.ls c,p.se:=(G5 b d).1,p.fl:=(G5 b d).2,p.nx:=AA<|c.1+1,p.lk:=s.p.lk++([a])})<|.rl s.p.cs<|.rl s.p.st<|.rl s.p.ca<|.rl s.p.mi<|.rl s.p.me<|.rl s.p.lk<|.rl s.p.dr<|.rl s.p.tg<|.so (.exit 0) s
def La (p:PK) (xs:List Le):PK:=letI a:=(xs.foldl (Gu p.tk) ⟨p.ls,p.se,p.fl,p.nx,p.lk⟩);{p with ls:=a.ls,se:=a.se,fl:=a.fl,nx:=a.nx,lk:=a.lk}
theorem Dj {a b:Int}(h:(a !=b)=X):a=b:=A8
def oK {p:PK}{x:Le}(h:VK p.se p.fl) (hE:EG p.se p.fl x p.tk=0):letI a:=Cj p.se p.fl x p.tk;AA ((M a:Int)-1)=(M a:Int)-1/\0<M a:=by
 have h1:=aow h.1 hE
 have h2:=(h.st hE).1
 exact ⟨AI,h2⟩
theorem ai4 {se:Int}{fl:List Int}{x:Le}{t:Int}(h:EG se fl x t=0):0<=x.1/\x.1<=1000000:=by
 unfold EG at h;split at h
 ·grind
 ·split at h
  ·cases h
  ·rename_i h1
   have:D4 x=true:=by
    cases e:D4 x
    ·grind
    ·rfl
   have:=QL.1 this
   omega
def agv {l:List Le}{i:Int}(h0:0<=i) (h:i<M l):At l i∈l:=On h0 h
def agb {t c:Int}(ht:0<=t/\t<=1000000) (hc:0<=c/\c<=100):AA (t+(AA<|AA (7*t)+AA (3*c)).tmod 5)=t+(7*t+3*c).tmod 5:=by
 rw [AI (x:=7*t),AI (x:=3*c),AI (x:=7*t+3*c)]
 have:=Int.tmod_nonneg 5 (show 0<=7*t+3*c by omega)
 have:=Int.tmod_lt_of_pos (7*t+3*c) (show (0:Int)<5 by decide)
 exact AI
def jY (s:Nk):Prop:=s.i=0/\s.n=(M s.xs:Int)/\s.n<=16/\(∀x∈s.xs,0<=x.2.1/\x.2.1<=100)/\(0<=s.p.tk/\s.p.tk<=1000000)/\VK s.p.se s.p.fl/\(M s.p.lk:Int)<=17000000+s.i
def jJ (s:Nk):Prop:=(0<=s.i/\s.i<=s.n)/\s.n=(M s.xs:Int)/\s.n<=16/\(∀x∈s.xs,0<=x.2.1/\x.2.1<=100)/\(0<=s.p.tk/\s.p.tk<=1000000)/\VK s.p.se s.p.fl/\(M s.p.lk:Int)<=17000000+s.i
def fM (s:Nk):Nat:=(s.n-s.i).toNat
def ac0 (x:Ex) (s s':Nk):Prop:=True
def alI:∀s,jY s->jJ s:=by
 exact aMX
theorem agW:Da jJ fM ac0 v8:=by
 intro s hI;obtain ⟨⟨h0,h1⟩,h2,h3,h4,h5,h6,h7⟩:=hI;refine AH (λc1=>AH (λc2=>?_) λc2=>AH (λc3=>?_) λc3=>?_) λc1=>trivial
 all_goals have c1:s.i<s.n:=AX
 all_goals rw [AI (x:=s.i+1)]
 iterate 2
  ·exact ⟨⟨⟨AZ,AZ⟩,h2,h3,h4,h5,h6,AZ⟩,by simp only [fM];omega⟩
 ·rw [(oK h6<|Dj c3).1]
  exact ⟨⟨⟨A8,AZ⟩,h2,h3,h4,h5,(h6.st<|Dj c3).2,A8⟩,by simp only [fM];omega⟩
def UD:AR Nk:=⟨18,85,[0,75,76,77],[.pc 16 7 AP,.kb 5,.pc 16 9<|.int aw,.kb 6,.pc 16 10 Am,.kb 7,.pc 16 16 Ak,.kb 12,.ms 0 17],λs=>[.own 16 0,s.xs,s.n,s.i],λs=>[AO,AO,zB,AO,bV 73 Ad s.p.cs,AO,AO,AO,bV 95 B3 s.p.st,bV 56 AP s.p.ca,bV 110 B7 s.p.mi,bV 98 BS s.p.me,AO,⟨[],106,.dead,X⟩,bV 3 A7 s.p.dr,bV 3 A7 s.p.tg,⟨[.os 4 11 0<|M s.p.cs,.xl .str s.p.os,.xl Ah s.p.ks,.xl Ae s.p.gs,.xl Ai s.p.bs,.v<|Y J s.p.tk,.v<|.bool s.p.up,.xl AP s.p.ls,.v<|Y J s.p.se,.xl (.int aw) s.p.fl,.xl Am s.p.ra,.v<|Y J s.p.nx,.os 8 4 0<|M s.p.st,.os 9 5 0<|M s.p.ca,.os 10 3 0<|M s.p.mi,.os 11 3 0<|M s.p.me,.xl Ak s.p.dm,.os 18 6 0<|M s.p.lk,.os 14 1 0<|M s.p.dr,.os 15 1 0<|M s.p.tg,.v<|Y J s.ev.ek,.v<|Y J s.ev.en,.v<|Y J s.ev.em,.v<|Y J s.ev.c1,.v<|Y J s.ev.c2,.v<|Y J s.ev.c3,.v<|Y J s.ev.c4,.v<|Y J s.ev.c5,.v<|.bool s.ev.d1,.v<|Y J s.ev.d2,.v<|Y J s.ev.d3,.v<|Y J s.ev.d4,.v<|.slice aj 0 0],88,.cl,X⟩,AO,bV 106 BM s.p.lk],λv b=>⟨B4 AP v 1,AK v 2,AK v 3,rB b 16 4 0 0 0 8 9 10 11 0 18 14 15,rG b⟩,v8,λs r=> {s with i:=r.i,p.ls:=r.p.ls,p.se:=r.p.se,p.fl:=r.p.fl,p.nx:=r.p.nx,p.lk:=r.p.lk},λs=>s,λ_ s=>s,[.exit 0],jY,jJ,fM⟩
abbrev aBh:=UD.run
abbrev asD:=UD.Aq
def uA:List Bd:=[dy,aJj,aTz,aTp]
def azK:Ax:=Ht uA (la 9 func25 Cn<|l0 uA) [⟨48,jt.m,aRc⟩]
def axq:Rq jJ v8:=by
 intro s hI;refine ⟨λc1=>⟨?_,λc2=>⟨A9,A9,A9,A9,A9,A9,A9,A9,ak⟩,λc2=>⟨?_,λc3=>⟨A9,A9,A9,A9,A9,A9,A9,A9,ak⟩,λc3=>⟨?_,?_,?_,A9,A9,A9,A9,A9,?_,A9,A9,ak⟩⟩⟩,λc1=>⟨A9,A9,A9,A9,A9,A9,A9,A9,ak⟩⟩
 all_goals ((obtain ⟨⟨h0,h1⟩,h2,h3,h4,h5,h6,h7⟩:=hI;simp only [Ac] at c1;first|omega|exact ⟨rfl,rfl⟩ |exact ⟨h6.1.2.2,λ_=>h6.cl⟩ |(simp only [Bi,Bp,BD];omega) |(simp only [BD,Bi,Bp,Ei];done) |(rw [(oK h6<|Dj c3).1];have:=(oK h6<|Dj c3).2;omega)))
def aQ2:UD.Ok:={}
def aOX:UD.Pf (ac0):=⟨alI,λs h=>rfl,agW,axq⟩
def aGJ:=s2 (b:=bN f32 0) aQ2 aOX uA azK
theorem as5:Rs jY asD aBh (λs:Nk=>La s.p<|s.xs.drop s.i.toNat) (λx s' (v:PK)=>x=.exit 0/\s'.p=v):=DJ aQ2 aOX (λs hI=>by
  obtain ⟨⟨h0,h1⟩,h2,h3,h4,h5,h6,h7⟩:=hI;refine AH (λc1=>?_) λc1=>?_
  ·have c1:s.i<s.n:=A8
   have e:=(W4 h0 (show s.i<(M s.xs:Int) by omega)).1
   rw [AI (x:=s.i+1),e];refine AH (λc2=>?_) λc2=>AH (λc3=>?_) λc3=>?_
   ·show La s.p _=La s.p _
    unfold La;rw [Ky,show Gu s.p.tk ⟨s.p.ls,s.p.se,s.p.fl,s.p.nx,s.p.lk⟩ (At s.xs s.i)=⟨s.p.ls,s.p.se,s.p.fl,s.p.nx,s.p.lk⟩ from AE λh=>EL.1 c2 h.1]
   ·show La s.p _=La s.p _
    unfold La;rw [Ky,show Gu s.p.tk ⟨s.p.ls,s.p.se,s.p.fl,s.p.nx,s.p.lk⟩ (At s.xs s.i)=⟨s.p.ls,s.p.se,s.p.fl,s.p.nx,s.p.lk⟩ from AE λh=>EL.1 c3 h.2]
   ·have hx:=h4 _ (agv h0 (show s.i<(M s.xs:Int) by omega))
    have hn:=ai4<|Dj c3
    rw [(oK h6<|Dj c3).1,agb h5 hx,AI (x:=(At s.xs s.i).1+1)]
    show La _ _=La s.p _
    conv=>rhs;unfold La
    rw [Ky,show Gu s.p.tk ⟨s.p.ls,s.p.se,s.p.fl,s.p.nx,s.p.lk⟩ (At s.xs s.i)=_ from AD ⟨Dj c2,Dj c3⟩];rfl
  ·have c1:s.n<=s.i:=A8
   refine ⟨rfl,?_⟩;rw [Ef A0];rfl)
def aS1:List LV->T LV
 | [.xl (.pair (.int J) (.pair (.int J) (.pair (.int J) (.pair (.int J) (.int J))))) l,.v (Y J t)]=> .req (DF l t=0) (.ok<|.AM [Br l t,.ki J 0])
 |_=> .no
def acO:=uS f46 aS1
theorem aiw:VV 46 acO:=λargs vals w Z lv h1 h2 h3 h4 h=>by
 have key:∃l t,lv=.AM [.xl AP<|Br l t,.ki J 0]/\(ua args).all (λx=>x=.AM [.xl AP<|Br l t,.v<|Y J 0]):=by
  unfold acO uS Ju aS1 at h;split at h
  ·rename_i l t e
   obtain ⟨g1,g2⟩:=h;refine ⟨l,t,g2.symm,?_⟩;unfold ua uS Ju;rw [e]
   show LV.AM [.xl AP _,.v<|Y J<|DF _ _]=_
   rw [g1]
  ·cases h
 obtain ⟨l,t,rfl,hk⟩:=key;refine (dy args vals w Z _ h1 h2 h3 h4 hk).mono λe w' ⟨hb,v,he,ho,hr⟩=>⟨hb,v,he,?_,?_⟩
 ·simp only [okV,AS] at ho|-
  grind
 ·simp only [R,RL] at hr|-
  exact hr
structure LN where
 p:PK
 ev:EW
def UQ (s:LN):List LV:=[.own 16 0]
def Yg (s:LN):List AB:=[AO,AO,zB,AO,bV 73 Ad s.p.cs,bV 104 AP s.p.ls,bV 5 (.int aw) s.p.fl,bV 130 Am s.p.ra,bV 95 B3 s.p.st,bV 56 AP s.p.ca,bV 110 B7 s.p.mi,bV 98 BS s.p.me,bV 58 Ak s.p.dm,bV 106 BM s.p.lk,bV 3 A7 s.p.dr,bV 3 A7 s.p.tg,⟨[.os 4 11 0<|M s.p.cs,.xl .str s.p.os,.xl Ah s.p.ks,.xl Ae s.p.gs,.xl Ai s.p.bs,.v<|Y J s.p.tk,.v<|.bool s.p.up,.os 5 5 0<|M s.p.ls,.v<|Y J s.p.se,.os 6 1 0<|M s.p.fl,.os 7 2 0<|M s.p.ra,.v<|Y J s.p.nx,.os 8 4 0<|M s.p.st,.os 9 5 0<|M s.p.ca,.os 10 3 0<|M s.p.mi,.os 11 3 0<|M s.p.me,.os 12 4 0<|M s.p.dm,.os 13 6 0<|M s.p.lk,.os 14 1 0<|M s.p.dr,.os 15 1 0<|M s.p.tg,.v<|Y J s.ev.ek,.v<|Y J s.ev.en,.v<|Y J s.ev.em,.v<|Y J s.ev.c1,.v<|Y J s.ev.c2,.v<|Y J s.ev.c3,.v<|Y J s.ev.c4,.v<|Y J s.ev.c5,.v<|.bool s.ev.d1,.v<|Y J s.ev.d2,.v<|Y J s.ev.d3,.v<|Y J s.ev.d4,.v<|.slice aj 0 0],88,.cl,X⟩,AO]
def aEY (s:LN):LU:=(⟨{s.p with ls:=Br (AQ s.p.ls) s.p.tk},s.ev⟩:LU)
def mm (s:LN):Nk:=letI b:=Br (AQ s.p.ls) s.p.tk;letI c:=AQ<|Hb s.p.cs s.p.tg<|M s.p.tg;letI a:=deL c s.p.os s.p.ks s.p.gs s.p.bs b (AQ s.p.ra) (AQ s.p.dm) s.p.tk s.p.nx;(⟨a,(M a:Int),0,{s.p with ls:=b,fl:=AQ s.p.fl,ra:=deR c s.p.os s.p.ks s.p.gs s.p.bs b (AQ s.p.ra) (AQ s.p.dm) s.p.tk s.p.nx,dm:=AQ s.p.dm},s.ev⟩:Nk)
structure XY where
 p:PK
 ev:EW
def abA (s:XY):LV:=.v<|.tuple #[]
def acK (s:XY):List AB:=[AO,AO,zB,AO,bV 73 Ad s.p.cs,AO,AO,AO,bV 95 B3 s.p.st,bV 56 AP s.p.ca,bV 110 B7 s.p.mi,bV 98 BS s.p.me,AO,AO,bV 3 A7 s.p.dr,bV 3 A7 s.p.tg,⟨[.os 4 11 0<|M s.p.cs,.xl .str s.p.os,.xl Ah s.p.ks,.xl Ae s.p.gs,.xl Ai s.p.bs,.v<|Y J s.p.tk,.v<|.bool s.p.up,.xl AP s.p.ls,.v<|Y J s.p.se,.xl (.int aw) s.p.fl,.xl Am s.p.ra,.v<|Y J s.p.nx,.os 8 4 0<|M s.p.st,.os 9 5 0<|M s.p.ca,.os 10 3 0<|M s.p.mi,.os 11 3 0<|M s.p.me,.xl Ak s.p.dm,.xl BM s.p.lk,.os 14 1 0<|M s.p.dr,.os 15 1 0<|M s.p.tg,.v<|Y J s.ev.ek,.v<|Y J s.ev.en,.v<|Y J s.ev.em,.v<|Y J s.ev.c1,.v<|Y J s.ev.c2,.v<|Y J s.ev.c3,.v<|Y J s.ev.c4,.v<|Y J s.ev.c5,.v<|.bool s.ev.d1,.v<|Y J s.ev.d2,.v<|Y J s.ev.d3,.v<|Y J s.ev.d4,.v<|.slice aj 0 0],88,.cl,X⟩,AO]
def fi (s:LN):T XY:=letI a:=Hb s.p.cs s.p.tg<|M s.p.tg;letI b:=Br (AQ s.p.ls) s.p.tk;letI c:=aBh<|mm s;letI d:=AQ s.p.dm;.br (!s.p.up) (.rz s.p.ls<|.rz s.p.fl<|.rz s.p.ra<|.rz s.p.dm<|.rz s.p.lk<|.pd s.p<|.ok<|⟨{s.p with ls:=AQ s.p.ls,fl:=AQ s.p.fl,ra:=AQ s.p.ra,dm:=AQ s.p.dm,lk:=AQ s.p.lk},s.ev⟩)<|.rz s.p.ls<|.req (DF (AQ s.p.ls) s.p.tk=0)<|.rl s.p.cs<|.rl s.p.fl<|.rl s.p.ra<|.pb s.p<|.req (aiM<|aEY s)<|.rv (.xl AP b)<|.rv (.os 7 2 0<|M s.p.ra)<|.rv (.os 12 4 0<|M s.p.dm)<|.rv (.v<|Y J s.p.tk)<|.rv (.v<|Y J s.p.nx)<|.rz a<|.rz s.p.ra<|.rz s.p.dm<|.req (IF d s.p.tk/\M d<=19)<|.br ((deE (AQ a) s.p.os s.p.ks s.p.gs s.p.bs b (AQ s.p.ra) d s.p.tk s.p.nx) !=0) (.rz s.p.fl<|.rz s.p.ra<|.rz s.p.dm<|.rz s.p.lk<|.pd s.p<|.ok<|⟨{s.p with ls:=b,fl:=AQ s.p.fl,ra:=AQ s.p.ra,dm:=AQ s.p.dm,lk:=AQ s.p.lk},s.ev⟩)<|.rz s.p.fl<|.rz s.p.dm<|.rl s.p.cs<|.rl s.p.st<|.rl s.p.ca<|.rl s.p.mi<|.rl s.p.me<|.rl s.p.lk<|.rl s.p.dr<|.rl s.p.tg<|.req (UD.q<|mm s)<|.rz c.p.lk<|.pd s.p<|.ok<|⟨{s.p with ls:=c.p.ls,se:=c.p.se,fl:=c.p.fl,ra:=deR (AQ a) s.p.os s.p.ks s.p.gs s.p.bs b (AQ s.p.ra) d s.p.tk s.p.nx,nx:=c.p.nx,dm:=d,lk:=AQ c.p.lk},s.ev⟩
def aDR {t:Int}{xs:List Le}{s:SN}:∀k,k<=M xs->Ja t xs s k=(xs.take k).foldl (Gu t) s
 |0,_=>rfl
 |k+1,h=>by
  rw [Ja,aDR k A0,ZE A0,List.foldl_append];rw [show At xs (k:Int)=xs[k]' A0 from NW A0];rfl
def an8 {p:PK}:p.sn1=p.dL.foldl (Gu p.tk) p.Hp:=by
 unfold PK.sn1;rw [aDR _<|Av _,E6]
def aoA {l:List Le}{t:Int}(h:BL l=U) (ht:0<=t/\t<=1000000):DF l t=0:=by
 have e:O8 l t=true:=by unfold O8;rw [h,Bf.2 A0];rfl
 exact AD e
def RQ.wd {p:PK}(h:RQ p) (hv:VP p):IF p.dm p.tk/\M p.dm<=19:=by
 have hg:=(DD.1 hv.site).1
 have ht:=hv.tk
 refine ⟨⟨λx hx=>?_,A0,A0⟩,by rw [hv.dm];omega⟩
 have:=h.dm x hx
 unfold HI at this;simp only [AY,Bf] at this;omega
def aB4 (s:LN):Prop:=(VP s.p/\RQ s.p)/\VK s.p.se s.p.fl/\BL s.p.ls=U
def XN (s:LN):XY:=⟨PK.AU s.p,s.ev⟩
def PH:Cs LN XY:=⟨UQ,Yg,λv b=>⟨rF b,rG b⟩,aB4,[0,1,3,17],[.pc 16 7 AP,.kb 5,.pc 16 9<|.int aw,.kb 6,.pc 16 10 Am,.kb 7,.pc 16 16 Ak,.kb 12,.pc 16 17 BM,.kb 13],abA,acK,XN⟩
abbrev aiK (s:LN):Prop:=aB4 s/\UQ s=UQ s/\Yg s=Yg s
def Wd:List Bd:=[aiw,aJj,aTz,aTp]
def aRF:Ax:=Ht Wd (la 9 func32 aGJ<|la 9 func25 Cn<|l0 Wd) [⟨48,jt.m,aRc⟩]
def aTL:DE:=CT 32 18 9 (UD.lp)<|CT 25 0 9 (GZ.lp)<|Dl prog AV Wd 20 2
def aoO:ED prog AV aTL:=D5 func32 rfl AT aGJ<|D5 func25 rfl AT Cn<|HW<|gk Wd
def ayN (s:LN):((EP prog AV Wd aTL aRF).k 32 (UQ s)<|Yg s).bind (λq=>G2 (M<|Yg s) [0] [.pc 16 7 AP,.kb 5,.pc 16 9<|.int aw,.kb 6,.pc 16 10 Am,.kb 7,.pc 16 16 Ak,.kb 12,.pc 16 17 BM,.kb 13] .normal (q.1::UQ s) q.2)=(fi s).mp (λs2=>⟨.normal,M (UQ s)+1,[abA s2],acK s2,U⟩):=AT
def avV (s:LN) (hE:aB4 s):(fi s).all (λq=>q=XN s):=by
 obtain ⟨⟨hV,hR⟩,hK,hls⟩:=hE
 have hs:=DD.1 hV.site
 have ht:=hV.Ho
 have hwd:=hR.wd hV
 have htk:=hV.tk
 have hx:DF s.p.ls s.p.tk=0:=aoA hls htk
 have hxs:Gm s.p.ls s.p.tk=Br s.p.ls s.p.tk:=AD hx
 have hA:jl (aEY s):=⟨ht,by show M s.p.tg<=1000;omega⟩
 have q2:Hb s.p.cs s.p.tg (M s.p.tg)=s.p.JC:=rfl
 have e1:deE s.p.JC s.p.os s.p.ks s.p.gs s.p.bs (Br s.p.ls s.p.tk) s.p.ra s.p.dm s.p.tk s.p.nx=s.p.dE:=by unfold PK.dE;rw [hxs]
 have e2:deR s.p.JC s.p.os s.p.ks s.p.gs s.p.bs (Br s.p.ls s.p.tk) s.p.ra s.p.dm s.p.tk s.p.nx=s.p.dR:=by unfold PK.dR;rw [hxs]
 have e3:deL s.p.JC s.p.os s.p.ks s.p.gs s.p.bs (Br s.p.ls s.p.tk) s.p.ra s.p.dm s.p.tk s.p.nx=s.p.dL:=by unfold PK.dL;rw [hxs]
 have hst:mm s=⟨s.p.dL,(M s.p.dL:Int),0,{s.p with ls:=Br s.p.ls s.p.tk,ra:=s.p.dR},s.ev⟩:=by
  unfold mm;simp only [FQ,q2,e2,e3]
 have hB:jY ⟨s.p.dL,(M s.p.dL:Int),0,{s.p with ls:=Br s.p.ls s.p.tk,ra:=s.p.dR},s.ev⟩:=by
  refine ⟨rfl,rfl,?_,λx hx=>?_,htk,hK,?_⟩
  ·have:=aRZ (p:=s.p);show (M s.p.dL:Int)<=16;omega
  ·have:=zw (p:=s.p) x hx;omega
  ·have:=hR.lk;show (M s.p.lk:Int)<=17000000+0;omega
 have q3:=(as5 _ hB).2
 have q3:(aBh ⟨s.p.dL,(M s.p.dL:Int),0,{s.p with ls:=Br s.p.ls s.p.tk,ra:=s.p.dR},s.ev⟩).p=La {s.p with ls:=Br s.p.ls s.p.tk,ra:=s.p.dR} s.p.dL:=q3
 unfold fi;simp only [FQ,X4,q2,e1,e2,hst,q3];refine ⟨λc=>?_,λc=>?_⟩
 ·have c:s.p.up=false:=IT
  repeat (refine ⟨DU,?_⟩)
  show _=_
  unfold XN;rw [show PK.AU s.p=s.p from AD c]
 have hu:¬s.p.up=false:=by intro h;rw [h] at c;cases c
 refine ⟨A0,hx,?_⟩
 repeat (refine ⟨AJ,?_⟩)
 refine ⟨⟨hA,rfl,rfl⟩,rfl,rfl,rfl,rfl,rfl,?_⟩
 repeat (refine ⟨DU,?_⟩)
 refine ⟨λc1=>?_,λc1=>?_⟩
 ·have c1:s.p.dE≠0:=EL.1 c1
  repeat (refine ⟨AJ,?_⟩)
  show _=_
  unfold XN;rw [show PK.AU s.p={s.p with ls:=Gm s.p.ls s.p.tk} by unfold PK.AU;rw [AE hu,AD c1],hxs]
 ·have c1:¬s.p.dE≠0:=λh=>aNO
  repeat (refine ⟨AJ,?_⟩)
  refine ⟨⟨hB,rfl,rfl⟩,?_⟩
  repeat (refine ⟨AJ,?_⟩)
  show _=_
  unfold XN;rw [show PK.AU s.p=_ by unfold PK.AU;rw [AE hu,AE c1],an8]
  unfold La PK.Hp;rw [hxs]
def TQ:DX prog AV 32 PH.m:=Cs.sound (D:=PH) (t:=fi) (gk Wd) aoO aRF.h ayN λs hE=>⟨avV s hE⟩
def Eo {α:Type}(f:Nat->α->α):Nat->α->Nat->α
 |_,s,0=>s
 |i,s,n+1=>Eo f (i+1) (f i s) n
def aGj {α:Type}{f:Nat->α->α}:∀ {n i:Nat}{s:α},Eo f i s (n+1)=f (i+n) (Eo f i s n)
 |0,_,_=>rfl
 |n+1,i,s=>by
  rw [Eo,aGj (n:=n) (i:=i+1),show i+1+n=i+(n+1) by omega]
  rfl
def Ww {α:Type}{f:Nat->α->α}{F:Nat->α}(h:∀k,F (k+1)=f k (F k)):∀n,Eo f 0 (F 0) n=F n
 |0=>rfl
 |n+1=>by rw [aGj,Ww h n,h,EK]
def MH {α:Type}{f:Nat->α->α}{s:α}{i n:Int}(h0:0<=i) (h:i<n):Eo f i.toNat s (n-i).toNat=Eo f (i+1).toNat (f i.toNat s) (n-(i+1)).toNat:=by
 rw [show (n-i).toNat=(n-(i+1)).toNat+1 by omega,Eo,show (i+1).toNat=i.toNat+1 by omega]
def nw {α:Type}{f:Nat->α->α}{s:α}{i n:Int}(h:n<=i):Eo f i.toNat s (n-i).toNat=s:=by
 rw [show (n-i).toNat=0 by omega]
 rfl
def aGi {α:Type}{f:Nat->List α->List α}(h:∀k s,M (f k s)=M s):∀ {n i:Nat}{s:List α},M (Eo f i s n)=M s
 |0,_,_=>rfl
 |n+1,i,s=>(aGi h (n:=n) (i:=i+1)).trans<|h i s
def tk1 (gs:List Ch) (i:Int) (_:Nat) (st:List St):List St:=CV gs st i 8 0 0
def auM {gs:List Ch}{st:List St}{i:Int}:∀n,Eo (tk1 gs i) 0 st n=OC gs st i n:=Ww (F:=OC gs st i) λ_=>rfl
def cnt1 (gs:List Ch) (dr:List Int) (t:Int) (k:Nat) (st:List St):List St:=if IE t (gi dr k)=0/\IE (t+1) (gi dr k)=0 then OC gs st k (Bx (t+1) (gi dr k)-Bx t (gi dr k)).toNat else st
def ahi {gs:List Ch}{dr:List Int}{t:Int}{st:List St}:∀n,Eo (cnt1 gs dr t) 0 st n=OH gs dr t st n:=Ww (F:=OH gs dr t st) λ_=>rfl
def alC {gs:List Ch}{ca:List Ca}{s:DW}:∀n,Eo (λk d=>FK gs ca d (k:Int)) 0 s n=Cy gs ca s n:=Ww (F:=Cy gs ca s) λ_=>rfl
def aL (gs:List Ch) (tg am:List Int) (k:Nat) (cs:List Cd):List Cd:=if gi tg k>=(Al cs k).2.2.1 then cs else
  if (an (M am=M gs)&&II (cs.set k<|Jn (Al cs k)<|gi tg k) gs am)=U then cs.set k (Jn (Al cs k)<|gi tg k) else cs
def an3 {gs:List Ch}{tg am:List Int}{cs:List Cd}:∀n,Eo (aL gs tg am) 0 cs n=FB gs tg am cs n:=Ww (F:=FB gs tg am cs) λ_=>rfl
def aS0 {c:Ca}{m:Mi}{p al:Int}:0<=EZ c m p al/\EZ c m p al<=7:=by
 unfold EZ;split
 ·rename_i hB
  obtain ⟨hc,_,h1,h2,_⟩:=cx.1 hB
  have hc':=WB.1 hc
  unfold Gy;split
  ·omega
  ·exact aCQ ⟨A0,A0⟩ ⟨h1,h2⟩
 ·omega
def aaH {c:Ca}{m:Mi}{p al:Int}:IntKind.u64.wrap (EZ c m p al)=EZ c m p al:=by
 have:=aS0 (c:=c) (m:=m) (p:=p) (al:=al)
 exact aM4
variable {gs : List Ch} {ca : List Ca} {st : List St} {mi : List Mi} {me : List Me} {dw : List Int} {i : Int}
def alE (h:(Bb ca i).2.2.1=0):FK gs ca ⟨st,mi,me,dw⟩ i=⟨st,mi,me,dw⟩:=AD h
theorem alD (h:¬(Bb ca i).2.2.1=0) (h2:¬J4 (Bb ca i) (CI mi i) (AG gs i).2.2.1 (Bg (AG gs i)<|BG st i)=0):FK gs ca ⟨st,mi,me,dw⟩ i=⟨st,mi,me,dw⟩:=by
 unfold FK
 grind
theorem Tt (h:¬(Bb ca i).2.2.1=0) (h2:J4 (Bb ca i) (CI mi i) (AG gs i).2.2.1 (Bg (AG gs i)<|BG st i)=0):
  FK gs ca ⟨st,mi,me,dw⟩ i=⟨if FH (Bb ca i) (CI mi i) (AG gs i).2.2.1 (Bg (AG gs i)<|BG st i)>Bg (AG gs i) (BG st i) then CV gs st i 6 2 0 else st,mi.set i.toNat<|JB (Bb ca i) (CI mi i) (AG gs i).2.2.1<|Bg (AG gs i)<|BG st i,
   if Fh (G7 me i) (FH (Bb ca i) (CI mi i) (AG gs i).2.2.1<|Bg (AG gs i)<|BG st i) (cnt<|EZ (Bb ca i) (CI mi i) (AG gs i).2.2.1<|Bg (AG gs i)<|BG st i)=0 then me.set i.toNat (HB (G7 me i) (FH (Bb ca i) (CI mi i) (AG gs i).2.2.1<|Bg (AG gs i)<|BG st i)<|cnt<|EZ (Bb ca i) (CI mi i) (AG gs i).2.2.1<|Bg (AG gs i)<|BG st i) else me,dw.set i.toNat<|FH (Bb ca i) (CI mi i) (AG gs i).2.2.1<|Bg (AG gs i)<|BG st i⟩:=by
 unfold FK
 grind
def aTl (t d:Int):0<=Bx t d/\Bx t d<=2000000:=by
 unfold Bx;split
 ·rename_i h
  simp only [AY,Bf] at h
  have h1:0<=t*(1000000+d):=IS A0 A0
  have h2:t*(1000000+d)<=1000000*2000000:=Int.mul_le_mul A0 A0 A0 A0
  omega
 ·omega
end Go.Proofs.YtpfblnbippcdjaaGreatDoor
namespace Go.Proofs.YtpfblnbippcdjaaGreatDoor
set_option maxRecDepth 100000
set_option maxHeartbeats 4000000
open Go.Proofs.Tryz
open Go.Sx
def aIv:List LV->T LV
 | [.v (Y J r),.v (Y J m)]=> .req ((0<=r/\r<=2000000)/\0<=m/\m<=3000000) (.ok<|.v<|Y J<|m*r / 1000000)
 |_=> .no
def alV:List Bd:=[]
def auT:=vo (S:=aIv) func99 alV kN (λargs lv h=>by
 unfold aIv at h;split at h
 ·rename_i r m
  refine Ap (.req ((1000000:Int)≠0)<|.ok<|AA<|(AA<|m*r).tdiv 1000000) ?_;obtain ⟨⟨⟨h1,h2⟩,h3,h4⟩,rfl⟩:=h
  have hm:0<=m*r/\m*r<=6000000000000:=⟨IS h3 h1,L0 (Ux h2 h3) A0⟩
  refine ⟨A0,B1 (λz=>LV.v<|Y J z) ?_⟩
  rw [AI (x:=m*r),Hy hm.1];exact AI
 ·cases h)
def aSr:List LV->T LV
 | [.v (Y J t),.v (Y J d)]=> .tu #[Bx t d,IE t d]
 |_=> .no
def agu:List Bd:=[aJc,auT]
def XB:=vo (S:=aSr) func69 agu kN (λargs lv h=>by
 unfold aSr at h;split at h
 ·rename_i t d
  refine Ap (letI a:=AA<|1000000+d;.br ((!(inB t 0 1000000)) ||((an<|d<(-200)) ||(an<|d>200))) (.tu #[(0:Int),(1:Int)])<|.req ((0<=a/\a<=2000000)/\0<=t/\t<=3000000)<|.tu #[Y J<|t*a / 1000000,(0:Int)]) ?_;obtain rfl:=h;unfold Bx IE;refine ⟨λc=>?_,λc=>?_⟩
  ·have:(inB t 0 1000000&&inB d (-200) 200)=false:=by
    cases ht:inB t 0 1000000
    ·rfl
    ·simp [ht] at c;simp [inB];omega
   rw [this];rfl
  ·have hh:inB t 0 1000000=U/\-200<=d/\d<=200:=by
    cases ht:inB t 0 1000000
    ·grind
    ·grind
   have:(inB t 0 1000000&&inB d (-200) 200)=true:=by rw [hh.1];simp [inB];omega
   have ht:=Bf.1 hh.1
   rw [this,AI (x:=1000000+d)];exact ⟨⟨⟨A0,A0⟩,A0,A0⟩,rfl⟩
 ·cases h)
def aJN:List LV->T LV
 | [.v (Y .u64 n)]=> .req (0<=n/\n<=7) (.ok<|cnt n)
 |_=> .no
def anh:Bk prog AV (D6 []) (inl prog AV (D6 []) (Dl prog AV (D6 []) 20 2) 9) Ag f73 [.v<|Y .u64 0]=.ok (cnt 0):=AT
def ang:Bk prog AV (D6 []) (inl prog AV (D6 []) (Dl prog AV (D6 []) 20 2) 9) Ag f73 [.v<|Y .u64 1]=.ok (cnt 1):=AT
def anf:Bk prog AV (D6 []) (inl prog AV (D6 []) (Dl prog AV (D6 []) 20 2) 9) Ag f73 [.v<|Y .u64 2]=.ok (cnt 2):=AT
def ane:Bk prog AV (D6 []) (inl prog AV (D6 []) (Dl prog AV (D6 []) 20 2) 9) Ag f73 [.v<|Y .u64 3]=.ok (cnt 3):=AT
def anc:Bk prog AV (D6 []) (inl prog AV (D6 []) (Dl prog AV (D6 []) 20 2) 9) Ag f73 [.v<|Y .u64 4]=.ok (cnt 4):=AT
def anb:Bk prog AV (D6 []) (inl prog AV (D6 []) (Dl prog AV (D6 []) 20 2) 9) Ag f73 [.v<|Y .u64 5]=.ok (cnt 5):=AT
def ana:Bk prog AV (D6 []) (inl prog AV (D6 []) (Dl prog AV (D6 []) 20 2) 9) Ag f73 [.v<|Y .u64 6]=.ok (cnt 6):=AT
def anZ:Bk prog AV (D6 []) (inl prog AV (D6 []) (Dl prog AV (D6 []) 20 2) 9) Ag f73 [.v<|Y .u64 7]=.ok (cnt 7):=AT
def ard {n:Int}(h1:0<=n) (h2:n<=7):Bk prog AV (D6 []) (inl prog AV (D6 []) (Dl prog AV (D6 []) 20 2) 9) Ag f73 [.v<|Y .u64 n]=.ok (cnt n):=by
 rcases eight h1 h2 with e|e|e|e|e|e|e|e
 ·rw [e];exact anh
 ·rw [e];exact ang
 ·rw [e];exact anf
 ·rw [e];exact ane
 ·rw [e];exact anc
 ·rw [e];exact anb
 ·rw [e];exact ana
 ·rw [e];exact anZ
def WN:VV 73 (uS f73 aJN):=nW func73 rfl (nj (l:=[]) trivial) (aCe (nj (l:=[]) trivial) (HW<|nj (l:=[]) trivial) 9) (ou AT) (λargs lv h=>by
 unfold aJN at h;split at h
 ·rename_i n
  simp only [canL,canX];rw [ard h.1.1 h.1.2];exact h.2
 ·cases h)
def Nt:List Bd:=[]
def auF:List LV->T LV:=λl=>Bk prog AV Nt kN Ag f154<|canL l
def auh:=vo (S:=auF) func154 Nt kN (λargs lv h=>by
 refine ⟨?_⟩
 assumption)
def auG:List LV->T LV:=λl=>Bk prog AV Nt kN Ag f198<|canL l
def auk:=vo (S:=auG) func198 Nt kN (λargs lv h=>by
 refine ⟨?_⟩
 assumption)
def ah7:List LV->T LV:=λl=>Bk prog AV Nt kN Ag f196<|canL l
def aaB:=vo (S:=ah7) func196 Nt kN (λargs lv h=>by
 refine ⟨?_⟩
 assumption)
def abu:List Bd:=[auk]
def ah6:List LV->T LV:=λl=>Bk prog AV (abu) kN Ag f197<|canL l
def aaA:=vo (S:=ah6) func197 abu kN (λargs lv h=>by
 refine ⟨?_⟩
 assumption)
def ah5:List LV->T LV:=λl=>Bk prog AV Nt kN Ag f199<|canL l
def aa9:=vo (S:=ah5) func199 Nt kN (λargs lv h=>by
 refine ⟨?_⟩
 assumption)
def ah4:List LV->T LV:=λl=>Bk prog AV Nt kN Ag f200<|canL l
def aa8:=vo (S:=ah4) func200 Nt kN (λargs lv h=>by
 refine ⟨?_⟩
 assumption)
def abt:List Bd:=[aaB,aaA,aa9,aa8]
def auE:List LV->T LV:=λl=>Bk prog AV (abt) kN Ag f155<|canL l
def aub:=vo (S:=auE) func155 abt kN (λargs lv h=>by
 refine ⟨?_⟩
 assumption)
def aIc:List LV->T LV
 | [.xq 8 q0,.v (Y J p2),.v (Y J al)]=>(match ([q0 0,q0 1,q0 2,q0 3,q0 4,q0 5,q0 6,q0 7]:List LV) with
  | [.v (Y J k),.v (Y J ph),.v (Y J mx),.v (Y J nd),.v (Y J dl),.xl (.int J) pil,.v (Y J tk),.v (Y J got)]=> .req (GA (k,ph,mx,nd,dl)=U/\Hr (pil,tk,got)=U/\1<=p2/\p2<=7/\0<=al) (.tu #[Em (k,ph,mx,nd,dl) (pil,tk,got) p2 al,Gy (k,ph,mx,nd,dl) (pil,tk,got) p2 al])
  |_=> .no)
 |_=> .no
def abr:List Bd:=[auh,aub,aaB,aaA,aa9,aa8]
def arq (k ph mx nd dl:Int) (pil:List Int) (tk got p2 al:Int):letI a:=Bv J ph p2;letI c:=AA<|0-a;letI d:=(AA<|(M pil:Int)-dl);letI b:=gi pil d;Bk prog AV (abr) kN Ag f103 [xQ 8 [k,ph,mx,nd,dl,.xl A7 pil,tk,got],p2,al]=.br (((if k==2 then Bv J a c else Bv J ph p2)==0) ||(an<|got>=nd)) (.tu #[(0:Int),(0:Int)]) (.br (k==(0:Int)) (.br ((if al<mx then al else mx)==0) (.tu #[(0:Int),(0:Int)])<|.tu #[Y J (if al<mx then al else mx),Y J (if k==2 then Bv J a c else Bv J ph p2)])<|.br (k==(2:Int)) (.br ((if al<mx then al else mx)==0) (.tu #[(0:Int),(0:Int)])<|.tu #[Y J (if al<mx then al else mx),Y J (if k==2 then Bv J a c else Bv J ph p2)])<|.br (k==(1:Int)) (.br (dl==0) (.br ((if al<mx then al else mx)==0) (.tu #[(0:Int),(0:Int)])<|.tu #[Y J (if al<mx then al else mx),Y J (if k==2 then Bv J a c else Bv J ph p2)])<|.br (an<|d>=0) (.ix d (M pil)<|.br ((if (if b<al then b else al)<mx then if b<al then b else al else mx)==0) (.tu #[(0:Int),(0:Int)])<|.tu #[Y J (if (if b<al then b else al)<mx then if b<al then b else al else mx),Y J (if k==2 then Bv J a c else Bv J ph p2)])<|.br ((if (if (0:Int)<al then 0 else al)<mx then if (0:Int)<al then 0 else al else mx)==0) (.tu #[(0:Int),(0:Int)])<|.tu #[Y J (if (if (0:Int)<al then 0 else al)<mx then if (0:Int)<al then 0 else al else mx),Y J (if k==2 then Bv J a c else Bv J ph p2)])<|.br (k==(3:Int)) (.req (dl≠0)<|.req ((2:Int)≠0)<|.br (((AA<|tk.tdiv dl).tmod 2)==1) (.br ((if (0:Int)<mx then 0 else mx)==0) (.tu #[(0:Int),(0:Int)])<|.tu #[Y J (if (0:Int)<mx then 0 else mx),Y J (if k==2 then Bv J a c else Bv J ph p2)])<|.br ((if al<mx then al else mx)==0) (.tu #[(0:Int),(0:Int)])<|.tu #[Y J (if al<mx then al else mx),Y J (if k==2 then Bv J a c else Bv J ph p2)])<|.br (k==(4:Int)) (.br (al==0) (.br ((if (0:Int)<mx then 0 else mx)==0) (.tu #[(0:Int),(0:Int)])<|.tu #[Y J (if (0:Int)<mx then 0 else mx),Y J (if k==2 then Bv J a c else Bv J ph p2)])<|.br ((if mx<mx then mx else mx)==0) (.tu #[(0:Int),(0:Int)])<|.tu #[Y J (if mx<mx then mx else mx),Y J (if k==2 then Bv J a c else Bv J ph p2)])<|.no /-call of v -/):=AT
def auj := vo (S:=aIc) func103 abr kN (λargs lv h=>by
 refine ⟨?_⟩;unfold aIc at h;split at h
 ·split at h
  case h_2=>cases h
  rename_i heq0;simp only [canL,canX];rw [Dn (n:=8) heq0];simp only [canL,canX];rw [arq];rename_i p2 al _ k ph mx nd dl pil tk got;obtain ⟨⟨hc,hm,hp1,hp2,hal⟩,rfl⟩:=h
  have hc:=WB.1 hc
  have hm:=ck.1 hm
  simp only at hc hm
  have hl:=aD7 (a:=ph) (b:=p2) ⟨A0,A0⟩ ⟨A0,A0⟩
  have e0:(if (k==2)=U then Bv J (Bv J ph p2) (AA<|0-Bv J ph p2) else Bv J ph p2)=Ke k ph p2:=by
   have hw:AA (0-Bv J ph p2)=-land ph p2:=by
    have:Bv J ph p2=land ph p2:=rfl
    rw [this,AI];omega
   rw [hw];unfold Ke land;simp only [Cz]
  have ew:AA ((M pil:Int)-dl)=(M pil:Int)-dl:=AI
  have et:AA (tk.tdiv dl)=tk.tdiv dl:=by
   rw [Hy A0]
   have h1:0<=tk / dl:=SZ A0 A0
   have h2:tk / dl<=tk:=V2 _ A0
   exact AI
  have hz:(Ke k ph p2=0\/nd<=got)->Em (k,ph,mx,nd,dl) (pil,tk,got) p2 al=0:=λh=>by unfold Em;rw [AD h]
  have hn:¬(Ke k ph p2=0\/nd<=got)->Em (k,ph,mx,nd,dl) (pil,tk,got) p2 al=min mx (Gc (k,ph,mx,nd,dl) (pil,tk,got) al):=λh=>by unfold Em;rw [AE h]
  have w0:k≠1->k≠3->k≠4->Gc (k,ph,mx,nd,dl) (pil,tk,got) al=al:=λh1 h2 h3=>by simp [Gc,h1,h2,h3]
  have w1a:k=1->dl=0->Gc (k,ph,mx,nd,dl) (pil,tk,got) al=al:=λh1 h2=>aC
  have w1b:k=1->dl≠0->0<=(M pil:Int)-dl->Gc (k,ph,mx,nd,dl) (pil,tk,got) al=min al (gi pil<|(M pil:Int)-dl):=λh1 h2 h3=>by
   simp only [Gc,h1,h2,Bm,FM,aT,M8];rw [AD h3];rfl
  have w1c:k=1->dl≠0->(M pil:Int)-dl<0->Gc (k,ph,mx,nd,dl) (pil,tk,got) al=min al 0:=λh1 h2 h3=>by
   simp only [Gc,h1,h2,Bm,FM,aT,M8];rw [AE A0]
  have w3a:k=3->(tk.tdiv dl).tmod 2=1->Gc (k,ph,mx,nd,dl) (pil,tk,got) al=0:=λh1 h2=>aC
  have w3b:k=3->¬(tk.tdiv dl).tmod 2=1->Gc (k,ph,mx,nd,dl) (pil,tk,got) al=al:=λh1 h2=>aC
  have w4a:k=4->al=0->Gc (k,ph,mx,nd,dl) (pil,tk,got) al=0:=λh1 h2=>aC
  have w4b:k=4->al≠0->Gc (k,ph,mx,nd,dl) (pil,tk,got) al=mx:=λh1 h2=>aC
  have ho1:Em (k,ph,mx,nd,dl) (pil,tk,got) p2 al=0->Gy (k,ph,mx,nd,dl) (pil,tk,got) p2 al=0:=λh=>by unfold Gy;rw [AD h]
  have ho2:Em (k,ph,mx,nd,dl) (pil,tk,got) p2 al≠0->Gy (k,ph,mx,nd,dl) (pil,tk,got) p2 al=Ke k ph p2:=λh=>by unfold Gy;rw [AE h]
  have fin:∀a o:Int,a=Em (k,ph,mx,nd,dl) (pil,tk,got) p2 al->o=Gy (k,ph,mx,nd,dl) (pil,tk,got) p2 al->LV.v (.tuple #[Y J a,Y J o])=LV.v (.tuple #[Y J<|Em (k,ph,mx,nd,dl) (pil,tk,got) p2 al,Y J<|Gy (k,ph,mx,nd,dl) (pil,tk,got) p2 al]):=λa o h1 h2=>yc
  simp only [e0,ew,et]
  clear e0 ew hl et
  generalize Em (k,ph,mx,nd,dl) (pil,tk,got) p2 al=qA at*;generalize Gy (k,ph,mx,nd,dl) (pil,tk,got) p2 al=qO at*;generalize Gc (k,ph,mx,nd,dl) (pil,tk,got) al=qw at*;generalize Ke k ph p2=qc at*;generalize gi pil ((M pil:Int)-dl)=qg at*;refine ⟨λc1=>?_,λc1=>?_⟩
  ·simp only [Cz,CQ,ne_eq,Cl,GF,Ac,Cv,M8,Pr] at*
   refine fin _ _ ?_ ?_<;>(clear fin w0 w1a w1b w1c w3a w3b w4a w4b;omega)
  ·refine ⟨λc2=>?_,λc2=>?_⟩
   ·refine ⟨λc3=>?_,λc3=>?_⟩
    ·exact kS
    ·exact kS
   ·refine ⟨λc3=>?_,λc3=>?_⟩
    ·refine ⟨λc4=>?_,λc4=>?_⟩
     ·exact kS
     ·exact kS
    ·refine ⟨λc4=>?_,λc4=>?_⟩
     ·refine ⟨λc5=>?_,λc5=>?_⟩
      ·refine ⟨λc6=>?_,λc6=>?_⟩
       ·exact kP
       ·exact kP
      ·refine ⟨λc6=>?_,λc6=>?_⟩
       ·refine ⟨?_,?_⟩
        ·simp only [Cz,CQ,ne_eq,Cl,GF,Ac,Cv,M8,Pr] at*
         (first|decide|(clear fin w0 w3a w3b w4a w4b;omega))
        ·exact aM6
       ·exact aM6
     ·refine ⟨λc5=>?_,λc5=>?_⟩
      ·refine ⟨?_,?_⟩
       ·exact aLl
       ·refine ⟨?_,?_⟩
        ·exact aLl
        ·refine ⟨λc6=>?_,λc6=>?_⟩
         ·exact aM7
         ·exact aM7
      ·refine ⟨λc6=>?_,λc6=>?_⟩
       ·refine ⟨λc7=>?_,λc7=>?_⟩
        ·exact aM8
        ·exact aM8
       ·exfalso
        simp only [Cz,CQ,ne_eq,Cl,GF,Ac,Cv,M8,Pr] at*
        clear fin hz hn ho1 ho2 w0 w1a w1b w1c w3a w3b w4a w4b
        omega
 ·cases h)
def aJ6:List LV->T LV
 | [.xq 8 q0,.v (Y J al),.v (Y J am),.v (Y J on)]=>(match ([q0 0,q0 1,q0 2,q0 3,q0 4,q0 5,q0 6,q0 7]:List LV) with
  | [.v (Y J k),.v (Y J ph),.v (Y J mx),.v (Y J nd),.v (Y J dl),.xl (.int J) pil,.v (Y J tk),.v (Y J got)]=> .req (Hr (pil,tk,got)=U/\0<=am/\am<=80/\0<=on/\on<=7) (.ok<|.agg [.xl A7<|dwP pil al,.v<|Y J<|tk+1,.v<|Y J<|got+2300*am*cnt on])
  |_=> .no)
 |_=> .no
def abq:List Bd:=[WN]
def aro (k ph mx nd dl:Int) (pil:List Int) (tk got al am on:Int):letI a:=(AA<|(((0:Int).toNat+M pil+M ([al]):Nat):Int)-21);letI b:=(aq (0:Int).toNat (0:Int));letI c:=IntKind.u64.wrap on;letI d:=(AA<|(M pil:Int)+1);letI e:=(b++pil)++([al]);letI f:=AA<|got+(AA<|(AA<|2300*am)*(cnt c));Bk prog AV (abq) kN Ag f104 [xQ 8 [k,ph,mx,nd,dl,.xl A7 pil,tk,got],al,am,on]=.req (0<=(0:Int)/\(0:Int)<=d/\8*d<=2^48/\d<2^63) (.ra (0:Int).toNat (M b) ((0:Int).toNat+M pil) 8<|.ra ((0:Int).toNat+M pil) (M<|b++pil) ((0:Int).toNat+M pil+M ([al])) 8<|.br (an<|(((0:Int).toNat+M pil+M ([al]):Nat):Int)>21) (.req (0<=a/\a<=(((0:Int).toNat+M pil+M ([al]):Nat):Int)/\(((0:Int).toNat+M pil+M ([al]):Nat):Int)<=(((0:Int).toNat+M pil+M ([al]):Nat):Int))<|.req (0<=c/\c<=7)<|.req ((0+a.toNat)+((((0:Int).toNat+M pil+M ([al]):Nat):Int).toNat-a.toNat)<=M e)<|.ok<|.agg [.xl A7<|(e.drop<|0+a.toNat).take<|(((0:Int).toNat+M pil+M ([al]):Nat):Int).toNat-a.toNat,AA<|tk+1,f])<|.req (0<=c/\c<=7)<|.req (0+((0:Int).toNat+M pil+M ([al]))<=M e)<|.ok<|.agg [.xl A7<|(e.drop 0).take<|(0:Int).toNat+M pil+M ([al]),AA<|tk+1,f]):=AT
def aud :=vo (S:=aJ6) func104 abq kN (λargs lv h=>by
 refine ⟨?_⟩;unfold aJ6 at h;split at h
 ·split at h
  case h_2=>cases h
  rename_i heq0;simp only [canL,canX];rw [Dn (n:=8) heq0];simp only [canL,canX];rw [aro];rename_i al am on _ k ph mx nd dl pil tk got;obtain ⟨⟨hm,ha1,ha2,ho1,ho2⟩,rfl⟩:=h
  have hm:=ck.1 hm
  simp only at hm
  have hu:IntKind.u64.wrap on=on:=by simp [IntKind.wrap,IntKind.bits,IntKind.signed];omega
  have ht:AA (tk+1)=tk+1:=AI
  have hcn:0<=cnt on/\cnt on<=3:=by unfold cnt;omega
  have hg:AA (got+AA (AA (2300*am)*cnt on))=got+2300*am*cnt on:=by
   rw [AI (x:=2300*am)]
   have:cnt on=0\/cnt on=1\/cnt on=2\/cnt on=3:=A0
   rcases this with e|e|e|e<;>rw [e,AI (x:=2300*am*_),AI]
  have h0:(0:Int).toNat=0:=rfl
  have hw1:AA ((M pil:Int)+1)=(M pil:Int)+1:=AI
  have hw2:AA (((M pil+1:Nat):Int)-21)=(M pil:Int)-20:=by rw [AI];omega
  have fin:∀(p:List Int),p=dwP pil al->LV.agg [.xl A7 p,.v<|Y J<|tk+1,.v<|Y J<|got+2300*am*cnt on]=LV.agg [.xl A7<|dwP pil al,.v<|Y J<|tk+1,.v<|Y J<|got+2300*am*cnt on]:=λp h=>VR
  simp only [h0,List.replicate_zero,E7,BD,Bi,Bp,EK,hu,ht,hg,hw1,hw2];refine ⟨?_,?_⟩
  ·(try simp only [Ac,Cv] at c1);first|omega|(simp;done) |(simp;omega)
  ·refine ⟨?_,?_⟩
   ·(try simp only [Ac,Cv] at c1);first|omega|(simp;done) |(simp;omega)
   ·refine ⟨?_,?_⟩
    ·(try simp only [Ac,Cv] at c1);first|omega|(simp;done) |(simp;omega)
    ·refine ⟨λc1=>?_,λc1=>?_⟩
     ·refine ⟨?_,?_⟩
      ·(try simp only [Ac,Cv] at c1);first|omega|(simp;done) |(simp;omega)
      ·refine ⟨?_,?_⟩
       ·(try simp only [Ac,Cv] at c1);first|omega|(simp;done) |(simp;omega)
       ·refine ⟨?_,?_⟩
        ·(try simp only [Ac,Cv] at c1);first|omega|(simp;done) |(simp;omega)
        ·refine fin _ ?_
         unfold dwP;simp only [Ac,Cv] at c1;rw [show ((M pil:Int)-20).toNat=M pil-20 by omega]
         exact DS (by rw [Eu,BD];simp only [Bi,Bp];omega)
     ·refine ⟨?_,?_⟩
      ·omega
      ·refine ⟨?_,?_⟩
       ·omega
       ·refine fin _ ?_
        unfold dwP;simp only [Ac,Cv] at c1;rw [show M pil-20=0 by omega]
        grind
 ·cases h)
def aS5:List LV->T LV
 | [.v (.agg ⟨[Y J k,Y J ph,Y J mx,Y J nd,Y J dl]⟩),.agg [.xl (.int J) pil,.v (Y J tk),.v (Y J got)],.v (Y J p2),.v (Y J al)]=> .ok (.AM [FH (k,ph,mx,nd,dl) (pil,tk,got) p2 al,EZ (k,ph,mx,nd,dl) (pil,tk,got) p2 al,.agg [.xl A7 (JB (k,ph,mx,nd,dl) (pil,tk,got) p2 al).1,(JB (k,ph,mx,nd,dl) (pil,tk,got) p2 al).2.1,(JB (k,ph,mx,nd,dl) (pil,tk,got) p2 al).2.2],J4 (k,ph,mx,nd,dl) (pil,tk,got) p2 al])
 |_=> .no
def alW:List Bd:=[aTe,ahv,aJl,auj,aud]
def X8:=vo (S:=aS5) func71 alW kN (λargs lv h=>by
 unfold aS5 at h;split at h
 ·rename_i k ph mx nd dl pil tk got p2 al
  refine Ap (letI a:=(k,ph,mx,nd,dl);letI b:=(pil,tk,got);letI c:=Em a b p2 al;letI d:=Gy a b p2 al;.br ((!(GA a)) ||((!(Hr b)) ||((!(inB p2 (1:Int) (7:Int))) ||((!(inB al (0:Int) (80:Int))) ||(tk==1000000))))) (.ok<|.AM [(0:Int),(0:Int),.agg [.xl A7 ([]:List Int),(0:Int),(0:Int)],(1:Int)])<|.req (GA a=U/\Hr b=U/\1<=p2/\p2<=7/\0<=al)<|.req (Hr b=U/\0<=c/\c<=80/\0<=d/\d<=7)<|.ok<|.AM [c,d,.agg [.xl A7<|dwP pil al,.v<|Y J<|tk+1,.v<|Y J<|got+2300*c*cnt d],(0:Int)]) ?_;obtain rfl:=h
  have e:((!(GA (k,ph,mx,nd,dl))) ||((!(Hr (pil,tk,got))) ||((!(inB p2 (1:Int) (7:Int))) ||((!(inB al (0:Int) (80:Int))) ||(tk==1000000)))))=!(Km (k,ph,mx,nd,dl) (pil,tk,got) p2 al):=by simp [Km,bne]
  rw [e];unfold FH EZ JB J4;refine ⟨λc1=>?_,λc1=>?_⟩
  ·have hB:Km (k,ph,mx,nd,dl) (pil,tk,got) p2 al=false:=AX
   rw [hB];rfl
  ·have hB:Km (k,ph,mx,nd,dl) (pil,tk,got) p2 al=true:=A8
   rw [hB];obtain ⟨hc,hm,h1,h2,h3,h4,h5⟩:=cx.1 hB;obtain ⟨b1,b2,b3,b4⟩:=aDm hc hm ⟨h1,h2⟩ ⟨h3,h4⟩;exact ⟨⟨hc,hm,h1,h2,h3⟩,⟨hm,b1,by have:=WB.1 hc;omega,b3,b4⟩,rfl⟩
 ·cases h)
structure No where
 xs:List Lk
 (n i:Int)
 p:PK
 ev:EW
 left:List Lk
def Tl (s:No):T (Rd No):=letI b:=FU s.xs s.i;letI c:=s.left++([b]);letI d:=M s.left+M ([b]);letI e:=AA<|s.i+1;letI f:=M s.p.st;letI g:=s.p.st.getD b.2.2.1.toNat<|Ty.dflt B3;letI h:=M<|[b];letI j:=M s.left;letI a:=(s.p.st.set b.2.2.1.toNat<|sN (AG s.p.gs b.2.2.1) g (7:Int) b.2.2.2.1 b.2.2.2.2.2);.br (an<|s.i<s.n) (.ix s.i (M s.xs)<|.br (an<|b.1>s.p.tk) (.br U (.rb j h 48<|.re d c<|.pd s.p<|.nx {s with i:=e,left:=c})<|.rl s.left<|.pd s.p<|.nx {s with i:=e})<|.ix b.2.2.1 (M s.p.gs)<|.ik b.2.2.1 f<|.br ((sE (AG s.p.gs b.2.2.1) g (7:Int) b.2.2.2.1 b.2.2.2.2.2)==0) (.ik b.2.2.1 f<|.br X (.rb j h 48<|.re d c<|.rl s.p.cs<|.re f a<|.rl s.p.ca<|.rl s.p.mi<|.rl s.p.me<|.rl s.p.dr<|.rl s.p.tg<|.nx {s with i:=e,p.st:=a,left:=c})<|.rl s.left<|.rl s.p.cs<|.re f a<|.rl s.p.ca<|.rl s.p.mi<|.rl s.p.me<|.rl s.p.dr<|.rl s.p.tg<|.nx {s with i:=e,p.st:=a})<|.br X (.rb j h 48<|.re d c<|.pd s.p<|.nx {s with i:=e,left:=c})<|.rl s.left<|.pd s.p<|.nx {s with i:=e})<|.rl s.left<|.pd s.p<|.so (.exit 0) s
def arr1 (gs:List Ch) (t:Int) (st:List St) (l:Lk):List St:=if l.1>t then st else CV gs st l.2.2.1 7 l.2.2.2.1 l.2.2.2.2.2
def aRB {l:List Lk}{i:Int}(h0:0<=i) (h:i<M l):FU l i∈l/\l.drop i.toNat=FU l i::l.drop (i+1).toNat:=by
 have e:FU l i=l[i.toNat]' A0:=by unfold FU;rw [DQ,DR A0];rfl
 rw [e];exact ⟨GD _,by rw [SU A0,show (i+1).toNat=i.toNat+1 by omega]⟩
def aDs {gs:List Ch}{lk:List Lk}{t:Int}{st:List St}:∀k,k<=M lk->Mu gs lk t st k=(lk.take k).foldl (arr1 gs t) st
 |0,_=>rfl
 |k+1,h=>by
  have e:FU lk (k:Int)=lk[k]' A0:=by unfold FU;rw [C3,DQ,DR A0];rfl
  rw [Mu,aDs k A0,ZE A0,List.foldl_append,<-e];rfl
def jm (s:No):Prop:=s.i=0/\s.n=(M s.xs:Int)/\s.n<=20000000/\(M s.left:Int)<=s.i/\(∀l∈s.xs,0<=l.2.2.1/\l.2.2.1<(M s.p.gs:Int))/\M s.p.st=M s.p.gs
def jQ (s:No):Prop:=0<=s.i/\s.i<=s.n/\s.n=(M s.xs:Int)/\s.n<=20000000/\(M s.left:Int)<=s.i/\(∀l∈s.xs,0<=l.2.2.1/\l.2.2.1<(M s.p.gs:Int))/\M s.p.st=M s.p.gs
def ov (s:No):Nat:=(s.n-s.i).toNat
def ac8 (x:Ex) (s s':No):Prop:=True
def amQ:∀s,jm s->jQ s:=by
 rintro s ⟨h0,h2,h3,h4⟩
 exact xa
theorem ahG:Da jQ ov ac8 Tl:=by
 intro s hI;unfold Tl;dsimp only [T.rd,T.rl,T.rv];obtain ⟨h0,h1,h2,h3,h4,h5,h6⟩:=hI;refine AH (λc1=>AH (λc2=>?_) λc2=>AH (λc3=>?_) λc3=>?_) λc1=>trivial
 all_goals have c1:s.i<s.n:=AX
 all_goals rw [AI (x:=s.i+1)]
 ·exact AH (λ_=>⟨⟨AZ,AZ,h2,h3,A8,h5,h6⟩,yR⟩) λc=>FN
 ·exact AH (λc=>FN) λ_=>⟨⟨AZ,AZ,h2,h3,AZ,h5,A8⟩,yR⟩
 ·exact AH (λc=>FN) λ_=>⟨⟨A8,AZ,h2,h3,AZ,h5,h6⟩,yR⟩
def Rc:AR No:=⟨19,30,[0,1,4,11,12,13],[.nl 4 106 BM],λs=>[.own 16 0,.fn 68 [.own 18 0],.os 19 6 0<|M s.left,s.xs,s.n,s.i],λs=>[AO,AO,zB,AO,bV 73 Ad s.p.cs,AO,AO,AO,bV 95 B3 s.p.st,bV 56 AP s.p.ca,bV 110 B7 s.p.mi,bV 98 BS s.p.me,AO,AO,bV 3 A7 s.p.dr,bV 3 A7 s.p.tg,⟨[.os 4 11 0<|M s.p.cs,.xl .str s.p.os,.xl Ah s.p.ks,.xl Ae s.p.gs,.xl Ai s.p.bs,.v<|Y J s.p.tk,.v<|.bool s.p.up,.xl AP s.p.ls,.v<|Y J s.p.se,.xl (.int aw) s.p.fl,.xl Am s.p.ra,.v<|Y J s.p.nx,.os 8 4 0<|M s.p.st,.os 9 5 0<|M s.p.ca,.os 10 3 0<|M s.p.mi,.os 11 3 0<|M s.p.me,.xl Ak s.p.dm,.xl BM s.p.lk,.os 14 1 0<|M s.p.dr,.os 15 1 0<|M s.p.tg,.v<|Y J s.ev.ek,.v<|Y J s.ev.en,.v<|Y J s.ev.em,.v<|Y J s.ev.c1,.v<|Y J s.ev.c2,.v<|Y J s.ev.c3,.v<|Y J s.ev.c4,.v<|Y J s.ev.c5,.v<|.bool s.ev.d1,.v<|Y J s.ev.d2,.v<|Y J s.ev.d3,.v<|Y J s.ev.d4,.v<|.slice aj 0 0],88,.cl,X⟩,AO,⟨[.own 16 0],83,.cl,X⟩,bV 106 BM s.left],λv b=>⟨B4 BM v 3,AK v 4,AK v 5,rT b,rG b,Ab BM b 19⟩,Tl,λs r=> {s with i:=r.i,p.st:=r.p.st,left:=r.left},λs=>s,λ_ s=>s,[.exit 0],jm,jQ,ov⟩
abbrev K6:=Rc.run
abbrev asU:=Rc.Aq
def u9:List Bd:=[WQ,du,XB,X9,X8,XC,WN,WR,Qw]
def azJ:Ax:=Ht u9 (la 9 func25 Cn<|l0 u9) [⟨32,PH.m,TQ⟩]
def axI:Rq jQ Tl:=by
 intro s hI;refine ⟨λc1=>⟨?_,λc2=>⟨λc3=>⟨?_,?_,A9,A9,A9,A9,A9,A9,A9,ak⟩,λc3=>⟨A9,A9,A9,A9,A9,A9,A9,A9,ak⟩⟩,λc2=>⟨?_,?_,?_,λc4=>⟨?_,?_,λc5=>⟨?_,?_,A9,?_,A9,A9,A9,A9,A9,ak⟩,λc5=>⟨A9,A9,?_,A9,A9,A9,A9,A9,ak⟩⟩,λc4=>⟨λc6=>⟨?_,?_,A9,A9,A9,A9,A9,A9,A9,ak⟩,λc6=>⟨A9,A9,A9,A9,A9,A9,A9,A9,ak⟩⟩⟩⟩,λc1=>⟨A9,A9,A9,A9,A9,A9,A9,A9,ak⟩⟩
 all_goals ((obtain ⟨h0,h1,h2,h3,h4,h5,h6⟩:=hI;simp only [Ac] at c1;have hm:=h5 _ (aRB h0 (show s.i<(M s.xs:Int) by omega)).1;first|omega|exact ⟨rfl,AJ⟩ |(simp only [Bi,Bp,BD];omega) |(simp only [BD,Bi,Bp,Ei];done)))
def aQF:Rc.Ok:={}
def aPp:Rc.Pf (ac8):=⟨amQ,λs h=>rfl,ahG,axI⟩
def LA:=s2 (b:=bN f43 0) aQF aPp u9 azJ
theorem ato:Rs jm asU K6 (λs:No=>((s.xs.drop s.i.toNat).foldl (arr1 s.p.gs s.p.tk) s.p.st,s.left++(s.xs.drop s.i.toNat).filter (λl=>an<|l.1>s.p.tk))) (λx s' (v:List St×List Lk)=>x=.exit 0/\(s'.p.st,s'.left)=v):=DJ aQF aPp (λs hI=>by
  show DK _ _ ((Tl s).rd s)
  unfold Tl;dsimp only [T.rd,T.rl];obtain ⟨h0,h1,h2,h3,h4,h5,h6⟩:=hI;refine AH (λc1=>?_) λc1=>?_
  ·have c1:s.i<s.n:=A8
   have e:=(aRB h0 (show s.i<(M s.xs:Int) by omega)).2
   rw [AI (x:=s.i+1),e];refine AH (λc2=>?_) λc2=>AH (λc3=>?_) λc3=>?_
   ·refine AH (λ_=>?_) (λc=>FN)
    have c2':=DC c2
    show (_,_)=(_,_)
    rw [Ky,OQ,AD c2,show arr1 s.p.gs s.p.tk s.p.st (FU s.xs s.i)=s.p.st from AD c2',Cm];rfl
   ·refine AH (λc=>FN) (λ_=>?_)
    have c2':=JE c2
    rw [Ky,OQ,AE A8,show arr1 s.p.gs s.p.tk s.p.st (FU s.xs s.i)=_ from (AE c2').trans<|AD<|eq_of_beq c3];rfl
   ·refine AH (λc=>FN) (λ_=>?_)
    have c2':=JE c2
    show (_,_)=(_,_)
    rw [Ky,OQ,AE A8,show arr1 s.p.gs s.p.tk s.p.st (FU s.xs s.i)=_ from (AE c2').trans<|AE<|CQ.1 c3]
  ·have c1:s.n<=s.i:=A8
   refine ⟨rfl,?_⟩;rw [Ef A0]
   simp)
structure Nm where
 (i on oi m k:Int)
 p:PK
 ev:EW
def aFs:=lN (bN f34 0) 0
def zE (s:Nm):T (Rd Nm):=letI b:=s.p.st.getD s.i.toNat<|Ty.dflt B3;letI c:=M s.p.st;letI a:=(s.p.st.set s.i.toNat<|sN (AG s.p.gs s.i) b (8:Int) (0:Int) (0:Int));.br (an<|s.k<s.m) (.ix s.i (M s.p.gs)<|.ik s.i c<|.br ((sE (AG s.p.gs s.i) b (8:Int) (0:Int) (0:Int))==0) (.ik s.i c<|.rl s.p.dr<|.rl s.p.cs<|.re c a<|.rl s.p.ca<|.rl s.p.mi<|.rl s.p.me<|.rl s.p.dr<|.rl s.p.tg<|.nx {s with k:=AA<|s.k+1,p.st:=a})<|.rl s.p.dr<|.pd s.p<|.nx {s with k:=AA<|s.k+1})<|.rl s.p.dr<|.pd s.p<|.so (.exit 2) s
def Yq (s:Nm):Prop:=s.k=0/\(0<=s.i/\s.i<(M s.p.gs:Int))/\M s.p.st=M s.p.gs/\s.m<=4000000
def jO (s:Nm):Prop:=0<=s.k/\(0<=s.i/\s.i<(M s.p.gs:Int))/\M s.p.st=M s.p.gs/\s.m<=4000000
def fO (s:Nm):Nat:=(s.m-s.k).toNat
def ac5 (x:Ex) (s s':Nm):Prop:=True
def al0:∀s,Yq s->jO s:=by
 rintro s ⟨h0,h2⟩
 exact ⟨A0,h2⟩
theorem ahk:Da jO fO ac5 zE:=by
 intro s hI;obtain ⟨h0,h1,h2,h3⟩:=hI;refine AH (λc1=>AH (λc2=>?_) λc2=>?_) λc1=>trivial
 all_goals have c1:s.k<s.m:=A8
 all_goals rw [AI (x:=s.k+1)]
 ·exact ⟨⟨A8,h1,A8,h3⟩,by simp only [fO];omega⟩
 ·exact ⟨⟨A8,h1,h2,h3⟩,by simp only [fO];omega⟩
def RZ:AR Nm:=⟨20,57,[0,2,12,13,14,48,49],[],λs=>[.own 16 0,s.i,.os 14 1 0<|M s.p.dr,s.on,s.oi,s.m,s.k],λs=>[AO,AO,zB,AO,bV 73 Ad s.p.cs,AO,AO,AO,bV 95 B3 s.p.st,bV 56 AP s.p.ca,bV 110 B7 s.p.mi,bV 98 BS s.p.me,AO,AO,bV 3 A7 s.p.dr,bV 3 A7 s.p.tg,⟨[.os 4 11 0<|M s.p.cs,.xl .str s.p.os,.xl Ah s.p.ks,.xl Ae s.p.gs,.xl Ai s.p.bs,.v<|Y J s.p.tk,.v<|.bool s.p.up,.xl AP s.p.ls,.v<|Y J s.p.se,.xl (.int aw) s.p.fl,.xl Am s.p.ra,.v<|Y J s.p.nx,.os 8 4 0<|M s.p.st,.os 9 5 0<|M s.p.ca,.os 10 3 0<|M s.p.mi,.os 11 3 0<|M s.p.me,.xl Ak s.p.dm,.xl BM s.p.lk,.os 14 1 0<|M s.p.dr,.os 15 1 0<|M s.p.tg,.v<|Y J s.ev.ek,.v<|Y J s.ev.en,.v<|Y J s.ev.em,.v<|Y J s.ev.c1,.v<|Y J s.ev.c2,.v<|Y J s.ev.c3,.v<|Y J s.ev.c4,.v<|Y J s.ev.c5,.v<|.bool s.ev.d1,.v<|Y J s.ev.d2,.v<|Y J s.ev.d3,.v<|Y J s.ev.d4,.v<|.slice aj 0 0],88,.cl,X⟩,AO,AO,AO],λv b=>⟨AK v 1,AK v 3,AK v 4,AK v 5,AK v 6,rT b,rG b⟩,zE,λs r=> {s with k:=r.k,p.st:=r.p.st},λs=>s,λ_ s=>s,[.exit 2],Yq,jO,fO⟩
abbrev WH:=RZ.run
abbrev asP:=RZ.Aq
def X0:List Bd:=[WQ,du,XB,X9,X8,XC,WN,WR,Qw]
def uV:Ax:=Ht X0 (la 2 func43 LA<|la 9 func25 Cn<|l0 X0) [⟨32,PH.m,TQ⟩]
def ay1:Rq jO zE:=by
 intro s hI;refine ⟨λc1=>⟨?_,?_,?_,λc2=>⟨?_,?_,A9,A9,?_,A9,A9,A9,A9,A9,ak⟩,λc2=>⟨A9,A9,A9,A9,A9,A9,A9,A9,ak⟩⟩,λc1=>⟨A9,A9,A9,A9,A9,A9,A9,A9,ak⟩⟩
 all_goals ((obtain ⟨h0,h1,h2,h3⟩:=hI;first|omega|exact ⟨rfl,AJ⟩))
def aQC:RZ.Ok:={}
def aPm:RZ.Pf (ac5):=⟨al0,λs h=>rfl,ahk,ay1⟩
def apr:SA 20 aFs RZ:=s2 aQC aPm X0 uV
theorem aHF:Rs Yq asP WH (λs:Nm=>Eo (tk1 s.p.gs s.i) s.k.toNat s.p.st (s.m-s.k).toNat) (λx s' (v:List St)=>x=.exit 2/\s'.p.st=v):=DJ aQC aPm (λs hI=>by
  obtain ⟨h0,h1,h2,h3⟩:=hI;refine AH (λc1=>?_) λc1=>?_
  ·have c1:s.k<s.m:=A8
   rw [AI (x:=s.k+1),MH h0 c1];refine AH (λc2=>?_) λc2=>?_
   ·rw [show tk1 s.p.gs s.i s.k.toNat s.p.st=_ from AD<|eq_of_beq c2]
    rfl
   ·rw [show tk1 s.p.gs s.i s.k.toNat s.p.st=_ from AE<|CQ.1 c2]
    rfl
  ·have c1:s.m<=s.k:=A8
   exact ⟨rfl,(nw c1).symm⟩)
structure LR where
 (n i:Int)
 p:PK
 ev:EW
def aFr:=bN f34 0
def NF (s:LR):Nm:=letI a:=s.p.dr.getD s.i.toNat<|Ty.dflt A7;(⟨s.i,s.n,s.i,AA<|(Bx (AA<|s.p.tk+1) a)-(Bx s.p.tk a),0,s.p,s.ev⟩:Nm)
def zD (s:LR):T (Rd LR):=letI a:=s.p.dr.getD s.i.toNat<|Ty.dflt A7;.br (an<|s.i<s.n) (.ik s.i (M s.p.dr)<|.br (((IE s.p.tk a) !=0) ||((IE (AA<|s.p.tk+1) a) !=0)) (.rl s.p.dr<|.pd s.p<|.nx {s with i:=AA<|s.i+1})<|.rl s.p.dr<|.pd s.p<|.req (RZ.q<|NF s)<|.rl s.p.dr<|.rl s.p.cs<|.rl (WH<|NF s).p.st<|.rl s.p.ca<|.rl s.p.mi<|.rl s.p.me<|.rl s.p.dr<|.rl s.p.tg<|.nx {s with i:=AA<|s.i+1,p.st:=(WH<|NF s).p.st})<|.rl s.p.dr<|.pd s.p<|.so (.exit 0) s
def jh (s:LR):Prop:=s.i=0/\s.n=(M s.p.dr:Int)/\M s.p.dr=M s.p.gs/\s.n<=1000/\M s.p.st=M s.p.gs/\(0<=s.p.tk/\s.p.tk<=1000000)
def YC (s:LR):Prop:=0<=s.i/\s.i<=s.n/\s.n=(M s.p.dr:Int)/\M s.p.dr=M s.p.gs/\s.n<=1000/\M s.p.st=M s.p.gs/\(0<=s.p.tk/\s.p.tk<=1000000)
def fN (s:LR):Nat:=(s.n-s.i).toNat
def ac4 (x:Ex) (s s':LR):Prop:=True
def akz:∀s,jh s->YC s:=by
 exact xk
theorem ud {s:LR}(hI:YC s) (c1:s.i<s.n):Yq (NF s)/\((IE s.p.tk (gi s.p.dr s.i.toNat)=0/\IE (s.p.tk+1) (gi s.p.dr s.i.toNat)=0)->(WH<|NF s).p.st=cnt1 s.p.gs s.p.dr s.p.tk s.i.toNat s.p.st):=by
 obtain ⟨h0,h1,h2,h3,h4,h6,h7⟩:=hI
 have hg:s.p.dr.getD s.i.toNat (Ty.dflt A7)=gi s.p.dr s.i:=rfl
 have b1:=aTl s.p.tk<|gi s.p.dr s.i
 have b2:=aTl (s.p.tk+1)<|gi s.p.dr s.i
 have hm:(NF s).m=Bx (s.p.tk+1) (gi s.p.dr s.i)-Bx s.p.tk (gi s.p.dr s.i):=by
  show AA (Bx (AA<|s.p.tk+1) _-Bx s.p.tk _)=_
  rw [hg,AI (x:=s.p.tk+1),AI (x:=Bx (s.p.tk+1) _-Bx s.p.tk _)]
 have hE:Yq (NF s):=⟨rfl,⟨h0,by show s.i<(M s.p.gs:Int);omega⟩,h6,A0⟩
 refine ⟨hE,λhc=>?_⟩
 have q:(WH<|NF s).p.st=Eo (tk1 s.p.gs s.i) 0 s.p.st ((NF s).m-0).toNat:=(aHF _ hE).2
 rw [q,hm,Pu,auM];unfold cnt1
 grind
theorem ahj:Da YC fN ac4 zD:=by
 intro s hI;obtain ⟨h0,h1,h2,h3,h4,h6,h7⟩:=id hI;refine AH (λc1=>AH (λc2=>?_) λc2=>?_) λc1=>trivial
 all_goals have c1:s.i<s.n:=AX
 all_goals rw [AI (x:=s.i+1)]
 ·exact ⟨⟨A8,A8,h2,h3,h4,h6,h7⟩,by simp only [fN];omega⟩
 ·have hl:M (WH<|NF s).p.st=M s.p.gs:=by
   rw [(aHF _ (ud hI c1).1).2];exact (aGi λ_ _=>JO).trans h6
  exact ⟨⟨A8,A8,h2,h3,h4,hl,h7⟩,by simp only [fN];omega⟩
def Qu:AR LR:=⟨20,57,[0,12,13,14],[.pc 16 17 BM,.kb 18,.kb 19],λs=>[.own 16 0,.os 14 1 0<|M s.p.dr,s.n,s.i],λs=>[AO,AO,zB,AO,bV 73 Ad s.p.cs,AO,AO,AO,bV 95 B3 s.p.st,bV 56 AP s.p.ca,bV 110 B7 s.p.mi,bV 98 BS s.p.me,AO,AO,bV 3 A7 s.p.dr,bV 3 A7 s.p.tg,⟨[.os 4 11 0<|M s.p.cs,.xl .str s.p.os,.xl Ah s.p.ks,.xl Ae s.p.gs,.xl Ai s.p.bs,.v<|Y J s.p.tk,.v<|.bool s.p.up,.xl AP s.p.ls,.v<|Y J s.p.se,.xl (.int aw) s.p.fl,.xl Am s.p.ra,.v<|Y J s.p.nx,.os 8 4 0<|M s.p.st,.os 9 5 0<|M s.p.ca,.os 10 3 0<|M s.p.mi,.os 11 3 0<|M s.p.me,.xl Ak s.p.dm,.xl BM s.p.lk,.os 14 1 0<|M s.p.dr,.os 15 1 0<|M s.p.tg,.v<|Y J s.ev.ek,.v<|Y J s.ev.en,.v<|Y J s.ev.em,.v<|Y J s.ev.c1,.v<|Y J s.ev.c2,.v<|Y J s.ev.c3,.v<|Y J s.ev.c4,.v<|Y J s.ev.c5,.v<|.bool s.ev.d1,.v<|Y J s.ev.d2,.v<|Y J s.ev.d3,.v<|Y J s.ev.d4,.v<|.slice aj 0 0],88,.cl,X⟩,AO,AO,AO],λv b=>⟨AK v 2,AK v 3,rT b,rG b⟩,zD,λs r=> {s with i:=r.i,p.st:=r.p.st},λs=>s,λ_ s=>s,[.exit 0],jh,YC,fN⟩
abbrev dF:=Qu.run
abbrev asO:=Qu.Aq
def ay0:Rq YC zD:=by
 intro s hI;refine ⟨λc1=>⟨?_,?_,λc2=>⟨A9,A9,A9,A9,A9,A9,A9,A9,ak⟩,λc2=>⟨A9,A9,A9,A9,A9,A9,A9,A9,?_,A9,A9,A9,A9,A9,A9,A9,A9,ak⟩⟩,λc1=>⟨A9,A9,A9,A9,A9,A9,A9,A9,ak⟩⟩
 all_goals ((obtain ⟨h0,h1,h2,h3,h4,h6,h7⟩:=id hI;simp only [Ac] at c1;first|omega|exact ⟨(ud hI c1).1,rfl,rfl⟩))
def aQB:Qu.Ok:={}
def aPl:Qu.Pf (ac4):=⟨akz,λs h=>rfl,ahj,ay0⟩
def MP:SA 20 aFr Qu:=AR.snd aQB aPl (GJ (Γ:=X0) (K:=uV) (L:=(Ll (λi=>if i=7 then RZ.lp else Ag i))) (gk X0) uV.h aFr (λb hb=>by
 rw [show BA _=[aFs] by kernel_rfl] at hb
 simp only [B8,Bu,Bt] at hb;subst hb;exact apr)) λs=>AT
theorem au2:Rs jh asO dF (λs:LR=>Eo (cnt1 s.p.gs s.p.dr s.p.tk) s.i.toNat s.p.st (s.n-s.i).toNat) (λx s' (v:List St)=>x=.exit 0/\s'.p.st=v):=DJ aQB aPl (λs hI=>by
  obtain ⟨h0,h1,h2,h3,h4,h6,h7⟩:=id hI;refine AH (λc1=>?_) λc1=>?_
  ·have c1:s.i<s.n:=A8
   have hg:s.p.dr.getD s.i.toNat (Ty.dflt A7)=gi s.p.dr s.i.toNat:=MC
   rw [AI (x:=s.i+1),AI (x:=s.p.tk+1),hg,MH h0 c1];refine AH (λc2=>?_) λc2=>?_
   ·rw [show cnt1 s.p.gs s.p.dr s.p.tk s.i.toNat s.p.st=s.p.st from AE λh=>A8]
    rfl
   ·have c2:IE s.p.tk (gi s.p.dr s.i.toNat)=0/\IE (s.p.tk+1) (gi s.p.dr s.i.toNat)=0:=A8
    rw [<-(ud hI c1).2 c2];rfl
  ·have c1:s.n<=s.i:=A8
   exact ⟨rfl,(nw c1).symm⟩)
structure LP where
 gl:List Ch
 (n i:Int)
 p:PK
 ev:EW
 dw:List Int
def eE (s:LP) (e:Int) (o:Int) (ce:Int) (a:Int) (al:Int) (se:Int) (sn:St) (m:Mi) (cn:Me):T (Rd LP):=letI b:=s.p.mi.set s.i.toNat m;letI c:=s.dw.set s.i.toNat a;letI d:=s.p.me.set s.i.toNat cn;letI f:=M s.p.mi;letI g:=M s.p.st;letI h:=AA<|s.i+1;letI j:=s.p.st.set s.i.toNat sn;letI k:=M s.dw;letI l:=M s.p.me;.br (an<|s.i<s.n) (.ix s.i (M s.gl)<|.ik s.i (M s.p.ca)<|.br (!((s.p.ca.getD s.i.toNat<|Ty.dflt AP).2.2.1 !=0)) (.pd s.p<|.rl s.dw<|.nx {s with i:=h})<|.ik s.i g<|.ik s.i (M s.p.ca)<|.ik s.i f<|.br (e !=0) (.pd s.p<|.rl s.dw<|.nx {s with i:=h})<|.ik s.i k<|.ik s.i f<|.ik s.i l<|.req (0<=(IntKind.u64.wrap o)/\(IntKind.u64.wrap o)<=7)<|.br (ce==0) (.ik s.i l<|.br (an<|a>al) (.ix s.i (M s.p.gs)<|.ik s.i g<|.br (se==0) (.ik s.i g<|.rl s.p.cs<|.re g j<|.rl s.p.ca<|.re f b<|.re l d<|.rl s.p.dr<|.rl s.p.tg<|.re k c<|.nx {s with i:=h,p.st:=j,p.mi:=b,p.me:=d,dw:=c})<|.rl s.p.cs<|.rl s.p.st<|.rl s.p.ca<|.re f b<|.re l d<|.rl s.p.dr<|.rl s.p.tg<|.re k c<|.nx {s with i:=h,p.mi:=b,p.me:=d,dw:=c})<|.rl s.p.cs<|.rl s.p.st<|.rl s.p.ca<|.re f b<|.re l d<|.rl s.p.dr<|.rl s.p.tg<|.re k c<|.nx {s with i:=h,p.mi:=b,p.me:=d,dw:=c})<|.br (an<|a>al) (.ix s.i (M s.p.gs)<|.ik s.i g<|.br (se==0) (.ik s.i g<|.rl s.p.cs<|.re g j<|.rl s.p.ca<|.re f b<|.rl s.p.me<|.rl s.p.dr<|.rl s.p.tg<|.re k c<|.nx {s with i:=h,p.st:=j,p.mi:=b,dw:=c})<|.rl s.p.cs<|.rl s.p.st<|.rl s.p.ca<|.re f b<|.rl s.p.me<|.rl s.p.dr<|.rl s.p.tg<|.re k c<|.nx {s with i:=h,p.mi:=b,dw:=c})<|.rl s.p.cs<|.rl s.p.st<|.rl s.p.ca<|.re f b<|.rl s.p.me<|.rl s.p.dr<|.rl s.p.tg<|.re k c<|.nx {s with i:=h,p.mi:=b,dw:=c})<|.pd s.p<|.rl s.dw<|.so (.exit 0) s
abbrev XJ (s:LP):=letI b:=s.p.ca.getD s.i.toNat<|Ty.dflt AP;letI c:=s.p.mi.getD s.i.toNat<|Ty.dflt B7;letI d:=AG s.gl s.i;letI e:=s.p.st.getD s.i.toNat<|Ty.dflt B3;letI g:=s.p.me.getD s.i.toNat<|Ty.dflt BS;letI a:=Bg d e;letI f:=cnt<|IntKind.u64.wrap<|EZ b c d.2.2.1 a;letI h:=FH b c d.2.2.1 a;eE s (J4 b c d.2.2.1 a) (EZ b c d.2.2.1 a) (Fh g h f) h a (sE (AG s.p.gs s.i) e (6:Int) (2:Int) (0:Int)) (sN (AG s.p.gs s.i) e (6:Int) (2:Int) (0:Int)) (JB b c d.2.2.1 a)<|HB g h f
def iL (s:LP):Prop:=s.i=0/\s.n=(M s.p.gs:Int)/\s.n<=1000/\s.gl=s.p.gs/\(M s.p.st=M s.p.gs/\M s.p.ca=M s.p.gs/\M s.p.mi=M s.p.gs/\M s.p.me=M s.p.gs/\M s.dw=M s.p.gs)
def U2 (s:LP):Prop:=0<=s.i/\s.i<=s.n/\s.n=(M s.p.gs:Int)/\s.n<=1000/\s.gl=s.p.gs/\(M s.p.st=M s.p.gs/\M s.p.ca=M s.p.gs/\M s.p.mi=M s.p.gs/\M s.p.me=M s.p.gs/\M s.dw=M s.p.gs)
def bf (s:LP):Nat:=(s.n-s.i).toNat
def aAF (x:Ex) (s s':LP):Prop:=True
def alB:∀s,iL s->U2 s:=by
 exact xk
def asi (s:LP) (hI:U2 s) (e:Int) (o:Int) (ce:Int) (a:Int) (al:Int) (se:Int) (sn:St) (m:Mi) (cn:Me) (he:J4 (s.p.ca.getD s.i.toNat<|Ty.dflt AP) (s.p.mi.getD s.i.toNat<|Ty.dflt B7) (AG s.gl s.i).2.2.1 (Bg (AG s.gl s.i)<|s.p.st.getD s.i.toNat<|Ty.dflt B3)=e) (ho:EZ (s.p.ca.getD s.i.toNat<|Ty.dflt AP) (s.p.mi.getD s.i.toNat<|Ty.dflt B7) (AG s.gl s.i).2.2.1 (Bg (AG s.gl s.i)<|s.p.st.getD s.i.toNat<|Ty.dflt B3)=o) (hce:Fh (s.p.me.getD s.i.toNat<|Ty.dflt BS) (FH (s.p.ca.getD s.i.toNat<|Ty.dflt AP) (s.p.mi.getD s.i.toNat<|Ty.dflt B7) (AG s.gl s.i).2.2.1<|Bg (AG s.gl s.i)<|s.p.st.getD s.i.toNat<|Ty.dflt B3) (cnt<|IntKind.u64.wrap<|EZ (s.p.ca.getD s.i.toNat<|Ty.dflt AP) (s.p.mi.getD s.i.toNat<|Ty.dflt B7) (AG s.gl s.i).2.2.1<|Bg (AG s.gl s.i)<|s.p.st.getD s.i.toNat<|Ty.dflt B3)=ce) (ha:FH (s.p.ca.getD s.i.toNat<|Ty.dflt AP) (s.p.mi.getD s.i.toNat<|Ty.dflt B7) (AG s.gl s.i).2.2.1 (Bg (AG s.gl s.i)<|s.p.st.getD s.i.toNat<|Ty.dflt B3)=a) (hal:Bg (AG s.gl s.i) (s.p.st.getD s.i.toNat<|Ty.dflt B3)=al) (hse:sE (AG s.p.gs s.i) (s.p.st.getD s.i.toNat<|Ty.dflt B3) (6:Int) (2:Int) (0:Int)=se) (hsn:sN (AG s.p.gs s.i) (s.p.st.getD s.i.toNat<|Ty.dflt B3) (6:Int) (2:Int) (0:Int)=sn) (hm:JB (s.p.ca.getD s.i.toNat<|Ty.dflt AP) (s.p.mi.getD s.i.toNat<|Ty.dflt B7) (AG s.gl s.i).2.2.1 (Bg (AG s.gl s.i)<|s.p.st.getD s.i.toNat<|Ty.dflt B3)=m) (hcn:HB (s.p.me.getD s.i.toNat<|Ty.dflt BS) (FH (s.p.ca.getD s.i.toNat<|Ty.dflt AP) (s.p.mi.getD s.i.toNat<|Ty.dflt B7) (AG s.gl s.i).2.2.1<|Bg (AG s.gl s.i)<|s.p.st.getD s.i.toNat<|Ty.dflt B3) (cnt<|IntKind.u64.wrap<|EZ (s.p.ca.getD s.i.toNat<|Ty.dflt AP) (s.p.mi.getD s.i.toNat<|Ty.dflt B7) (AG s.gl s.i).2.2.1<|Bg (AG s.gl s.i)<|s.p.st.getD s.i.toNat<|Ty.dflt B3)=cn):DK (λs'=>U2 s'/\bf s'<bf s) (λx s'=>aAF x s s') ((eE s e o ce a al se sn m cn).rd s):=by
 unfold eE;dsimp only [T.rd,T.rl,T.rv];obtain ⟨h0,h1,h2,h3,hg,l1,l2,l3,l4,l5⟩:=hI;refine AH (λc1=>?_) λc1=>?_
 ·refine AH (λc2=>?_) (λc2=>?_)
  ·exact Zd
  ·refine AH (λc3=>?_) (λc3=>?_)
   ·exact Zd
   ·refine AH (λc4=>?_) (λc4=>?_)
    ·exact aLu
    ·exact aLu
 ·trivial
def agR:Da U2 bf aAF XJ:=λs hI=>asi s hI _ _ _ _ _ _ _ _ _ rfl rfl rfl rfl rfl rfl rfl rfl rfl
def RU:AR LP:=⟨20,124,[0,27,28,29],[],λs=>[.own 16 0,s.gl,s.n,s.i],λs=>[AO,AO,zB,AO,bV 73 Ad s.p.cs,AO,AO,AO,bV 95 B3 s.p.st,bV 56 AP s.p.ca,bV 110 B7 s.p.mi,bV 98 BS s.p.me,AO,AO,bV 3 A7 s.p.dr,bV 3 A7 s.p.tg,⟨[.os 4 11 0<|M s.p.cs,.xl .str s.p.os,.xl Ah s.p.ks,.xl Ae s.p.gs,.xl Ai s.p.bs,.v<|Y J s.p.tk,.v<|.bool s.p.up,.xl AP s.p.ls,.v<|Y J s.p.se,.xl (.int aw) s.p.fl,.xl Am s.p.ra,.v<|Y J s.p.nx,.os 8 4 0<|M s.p.st,.os 9 5 0<|M s.p.ca,.os 10 3 0<|M s.p.mi,.os 11 3 0<|M s.p.me,.xl Ak s.p.dm,.xl BM s.p.lk,.os 14 1 0<|M s.p.dr,.os 15 1 0<|M s.p.tg,.v<|Y J s.ev.ek,.v<|Y J s.ev.en,.v<|Y J s.ev.em,.v<|Y J s.ev.c1,.v<|Y J s.ev.c2,.v<|Y J s.ev.c3,.v<|Y J s.ev.c4,.v<|Y J s.ev.c5,.v<|.bool s.ev.d1,.v<|Y J s.ev.d2,.v<|Y J s.ev.d3,.v<|Y J s.ev.d4,.os 20 1 0<|M s.dw],88,.cl,X⟩,AO,AO,AO,bV 3 A7 s.dw],λv b=>⟨B4 Ae v 1,AK v 2,AK v 3,rT b,rG b,Ab A7 b 20⟩,XJ,λs r=> {s with i:=r.i,p.st:=r.p.st,p.mi:=r.p.mi,p.me:=r.p.me,dw:=r.dw},λs=>s,λ_ s=>s,[.exit 0],iL,U2,bf⟩
abbrev JK:=RU.run
abbrev atM:=RU.Aq
def u7:List Bd:=[WQ,du,XB,X9,X8,XC,WN,WR,Qw]
def azI:Ax:=Ht u7 (la 1 func34 MP<|la 2 func43 LA<|la 9 func25 Cn<|l0 u7) [⟨32,PH.m,TQ⟩]
def axm:Rq U2 XJ:=by
 intro s hI;refine ⟨λc1=>⟨?_,?_,?_,λc2=>⟨A9,A9,A9,A9,A9,A9,A9,A9,ak⟩,λc2=>⟨?_,?_,?_,?_,?_,?_,λc3=>⟨A9,A9,A9,A9,A9,A9,A9,A9,ak⟩,λc3=>⟨?_,?_,?_,?_,?_,?_,?_,λc4=>⟨?_,?_,λc5=>⟨?_,?_,?_,λc6=>⟨?_,?_,A9,?_,A9,?_,?_,A9,A9,?_,ak⟩,λc6=>⟨A9,A9,A9,?_,?_,A9,A9,?_,ak⟩⟩,λc5=>⟨A9,A9,A9,?_,?_,A9,A9,?_,ak⟩⟩,λc4=>⟨λc7=>⟨?_,?_,?_,λc8=>⟨?_,?_,A9,?_,A9,?_,A9,A9,A9,?_,ak⟩,λc8=>⟨A9,A9,A9,?_,A9,A9,A9,?_,ak⟩⟩,λc7=>⟨A9,A9,A9,?_,A9,A9,A9,?_,ak⟩⟩⟩⟩⟩,λc1=>⟨A9,A9,A9,A9,A9,A9,A9,A9,ak⟩⟩
 all_goals ((obtain ⟨h0,h1,h2,h3,hg,l1,l2,l3,l4,l5⟩:=hI;simp only [Ac] at c1;first|(rw [hg];omega) |omega|exact ⟨rfl,AJ⟩ |(rw [aaH];exact aS0)))
def aPy:RU.Ok:={}
def aOT:RU.Pf (aAF):=⟨alB,λs h=>rfl,agR,axm⟩
def NN:=s2 (b:=bN f35 0) aPy aOT u7 azI
def ash:Rs iL atM JK (λs:LP=>Eo (λk d=>FK s.p.gs s.p.ca d (k:Int)) s.i.toNat ⟨s.p.st,s.p.mi,s.p.me,s.dw⟩ (s.n-s.i).toNat) (λx s' (v:DW)=>x=.exit 0/\(⟨s'.p.st,s'.p.mi,s'.p.me,s'.dw⟩:DW)=v):=DJ aPy aOT (λs hI=>by
  show DK _ _ ((XJ s).rd s)
  unfold XJ eE;dsimp only [T.rd,T.rl];obtain ⟨h0,h1,h2,h3,hg,l1,l2,l3,l4,l5⟩:=hI
  have hi:((s.i.toNat:Nat):Int)=s.i:=CR h0
  rw [hg];simp only [aaH];refine AH (λc1=>?_) λc1=>?_
  ·refine AH (λc2=>?_) (λc2=>?_)
   ·have c1:s.i<s.n:=AX
    rw [AI (x:=s.i+1),MH h0 c1,hi]
    have c2:(Bb s.p.ca s.i).2.2.1=0:=Dj<|(Ct _).mp c2
    rw [alE c2];rfl
   ·refine AH (λc3=>?_) (λc3=>?_)
    ·have c1:s.i<s.n:=AX
     rw [AI (x:=s.i+1),MH h0 c1,hi]
     have c2:¬(Bb s.p.ca s.i).2.2.1=0:=EL.1<|(Hv _).mp c2
     have c3:=EL.1 c3
     rw [alD c2 c3];rfl
    ·refine AH (λc4=>?_) (λc4=>?_)
     ·refine AH (λc5=>?_) (λc5=>?_)
      ·refine AH (λc6=>?_) (λc6=>?_)
       ·have c1:s.i<s.n:=AX
        rw [AI (x:=s.i+1),MH h0 c1,hi]
        have c2:¬(Bb s.p.ca s.i).2.2.1=0:=EL.1<|(Hv _).mp c2
        have c3:J4 (Bb s.p.ca s.i) (CI s.p.mi s.i) (AG s.p.gs s.i).2.2.1 (Bg (AG s.p.gs s.i)<|BG s.p.st s.i)=0:=Dj c3
        rw [Tt c2 c3];rw [AD (show Fh (G7 s.p.me s.i) (FH (Bb s.p.ca s.i) (CI s.p.mi s.i) (AG s.p.gs s.i).2.2.1<|Bg (AG s.p.gs s.i)<|BG s.p.st s.i) (cnt<|EZ (Bb s.p.ca s.i) (CI s.p.mi s.i) (AG s.p.gs s.i).2.2.1<|Bg (AG s.p.gs s.i)<|BG s.p.st s.i)=0 from eq_of_beq c4)];exact aLA
       ·have c1:s.i<s.n:=AX
        rw [AI (x:=s.i+1),MH h0 c1,hi]
        have c2:¬(Bb s.p.ca s.i).2.2.1=0:=EL.1<|(Hv _).mp c2
        have c3:J4 (Bb s.p.ca s.i) (CI s.p.mi s.i) (AG s.p.gs s.i).2.2.1 (Bg (AG s.p.gs s.i)<|BG s.p.st s.i)=0:=Dj c3
        rw [Tt c2 c3];rw [AD (show Fh (G7 s.p.me s.i) (FH (Bb s.p.ca s.i) (CI s.p.mi s.i) (AG s.p.gs s.i).2.2.1<|Bg (AG s.p.gs s.i)<|BG s.p.st s.i) (cnt<|EZ (Bb s.p.ca s.i) (CI s.p.mi s.i) (AG s.p.gs s.i).2.2.1<|Bg (AG s.p.gs s.i)<|BG s.p.st s.i)=0 from eq_of_beq c4)];exact aLB
      ·have c1:s.i<s.n:=AX
       rw [AI (x:=s.i+1),MH h0 c1,hi]
       have c2:¬(Bb s.p.ca s.i).2.2.1=0:=EL.1<|(Hv _).mp c2
       have c3:J4 (Bb s.p.ca s.i) (CI s.p.mi s.i) (AG s.p.gs s.i).2.2.1 (Bg (AG s.p.gs s.i)<|BG s.p.st s.i)=0:=Dj c3
       rw [Tt c2 c3];rw [AD (show Fh (G7 s.p.me s.i) (FH (Bb s.p.ca s.i) (CI s.p.mi s.i) (AG s.p.gs s.i).2.2.1<|Bg (AG s.p.gs s.i)<|BG s.p.st s.i) (cnt<|EZ (Bb s.p.ca s.i) (CI s.p.mi s.i) (AG s.p.gs s.i).2.2.1<|Bg (AG s.p.gs s.i)<|BG s.p.st s.i)=0 from eq_of_beq c4)];exact aKq
     ·refine AH (λc5=>?_) (λc5=>?_)
      ·refine AH (λc6=>?_) (λc6=>?_)
       ·have c1:s.i<s.n:=AX
        rw [AI (x:=s.i+1),MH h0 c1,hi]
        have c2:¬(Bb s.p.ca s.i).2.2.1=0:=EL.1<|(Hv _).mp c2
        have c3:J4 (Bb s.p.ca s.i) (CI s.p.mi s.i) (AG s.p.gs s.i).2.2.1 (Bg (AG s.p.gs s.i)<|BG s.p.st s.i)=0:=Dj c3
        rw [Tt c2 c3];rw [AE (show ¬Fh (G7 s.p.me s.i) (FH (Bb s.p.ca s.i) (CI s.p.mi s.i) (AG s.p.gs s.i).2.2.1<|Bg (AG s.p.gs s.i)<|BG s.p.st s.i) (cnt<|EZ (Bb s.p.ca s.i) (CI s.p.mi s.i) (AG s.p.gs s.i).2.2.1<|Bg (AG s.p.gs s.i)<|BG s.p.st s.i)=0 from CQ.1 c4)];exact aLA
       ·have c1:s.i<s.n:=AX
        rw [AI (x:=s.i+1),MH h0 c1,hi]
        have c2:¬(Bb s.p.ca s.i).2.2.1=0:=EL.1<|(Hv _).mp c2
        have c3:J4 (Bb s.p.ca s.i) (CI s.p.mi s.i) (AG s.p.gs s.i).2.2.1 (Bg (AG s.p.gs s.i)<|BG s.p.st s.i)=0:=Dj c3
        rw [Tt c2 c3];rw [AE (show ¬Fh (G7 s.p.me s.i) (FH (Bb s.p.ca s.i) (CI s.p.mi s.i) (AG s.p.gs s.i).2.2.1<|Bg (AG s.p.gs s.i)<|BG s.p.st s.i) (cnt<|EZ (Bb s.p.ca s.i) (CI s.p.mi s.i) (AG s.p.gs s.i).2.2.1<|Bg (AG s.p.gs s.i)<|BG s.p.st s.i)=0 from CQ.1 c4)];exact aLB
      ·have c1:s.i<s.n:=AX
       rw [AI (x:=s.i+1),MH h0 c1,hi]
       have c2:¬(Bb s.p.ca s.i).2.2.1=0:=EL.1<|(Hv _).mp c2
       have c3:=Dj c3
       rw [Tt c2 c3];rw [AE (show ¬Fh (G7 s.p.me s.i) (FH (Bb s.p.ca s.i) (CI s.p.mi s.i) (AG s.p.gs s.i).2.2.1<|Bg (AG s.p.gs s.i)<|BG s.p.st s.i) (cnt<|EZ (Bb s.p.ca s.i) (CI s.p.mi s.i) (AG s.p.gs s.i).2.2.1<|Bg (AG s.p.gs s.i)<|BG s.p.st s.i)=0 from CQ.1 c4)];exact aKq
  ·have c1:s.n<=s.i:=AX
   exact ⟨rfl,(nw c1).symm⟩)
structure Md where
 m:List Ch
 (k i:Int)
 p:PK
 ev:EW
 (dw out:List Int)
def am5 (s:Md):List LV:=[.os 21 1 0<|M s.out,s.m,s.k,s.i]
def amU (s:Md):List AB:=[AO,AO,zB,AO,bV 73 Ad s.p.cs,AO,AO,AO,AO,AO,AO,AO,AO,AO,AO,bV 3 A7 s.p.tg,⟨[.os 4 11 0<|M s.p.cs,.xl .str s.p.os,.xl Ah s.p.ks,.xl Ae s.p.gs,.xl Ai s.p.bs,.v<|Y J s.p.tk,.v<|.bool s.p.up,.xl AP s.p.ls,.v<|Y J s.p.se,.xl (.int aw) s.p.fl,.xl Am s.p.ra,.v<|Y J s.p.nx,.xl B3 s.p.st,.xl AP s.p.ca,.xl B7 s.p.mi,.xl BS s.p.me,.xl Ak s.p.dm,.xl BM s.p.lk,.xl A7 s.p.dr,.os 15 1 0<|M s.p.tg,.v<|Y J s.ev.ek,.v<|Y J s.ev.en,.v<|Y J s.ev.em,.v<|Y J s.ev.c1,.v<|Y J s.ev.c2,.v<|Y J s.ev.c3,.v<|Y J s.ev.c4,.v<|Y J s.ev.c5,.v<|.bool s.ev.d1,.v<|Y J s.ev.d2,.v<|Y J s.ev.d3,.v<|Y J s.ev.d4,.os 20 1 0<|M s.dw],88,.cl,X⟩,AO,AO,AO,bV 3 A7 s.dw,bV 3 A7 s.out]
def ao8:=bN f64 0
def vt (s:Md):T (Rd Md):=letI a:=s.out.set s.i.toNat (AG s.m s.i).2.2.2.2.2.2.1;.br (an<|s.i<s.k) (.ix s.i (M s.m)<|.ik s.i (M s.out)<|.re (M s.out) a<|.rl s.p.cs<|.rl s.p.tg<|.rl s.dw<|.nx {s with i:=AA<|s.i+1,out:=a})<|.rl s.out<|.rl s.p.cs<|.rl s.p.tg<|.rl s.dw<|.so (.exit 0) s
def iS (s:Md):Prop:=s.i=0/\s.k=(M s.m:Int)/\s.k<=1000/\M s.out=M s.m/\(∀j,0<=j->j<s.k->gi s.out j=0)/\True
def YP (s:Md):Prop:=(0<=s.i/\s.i<=s.k)/\s.k=(M s.m:Int)/\s.k<=1000/\M s.out=M s.m/\(∀j,0<=j->j<s.k->gi s.out j=if j<s.i then CW (AG s.m j) else 0)/\True
def tG (s:Md):Nat:=(s.k-s.i).toNat
def aAW (x:Ex) (s s':Md):Prop:=x=.exit 0/\s'.out=FC (M s'.m) (λj=>CW<|AG s'.m j)
theorem aiO:∀s,iS s->YP s:=by
 exact Sd
theorem awr:Da YP tG aAW vt:=by
 intro s hI;obtain ⟨⟨h0,h1⟩,h2,h3,h4,h5,h6⟩:=hI;refine AH (λc1=>?_) λc1=>?_
 ·have c1:s.i<s.k:=AX
  rw [AI (x:=s.i+1)];refine ⟨⟨⟨A8,A8⟩,h2,h3,A8,λj j0 j1=>?_,h6⟩,by simp only [tG];omega⟩
  simp only;rw [KB h0 A0 j0];exact kR
 ·exact Zf
def Qk:AR Md:=⟨21,25,[3,11,12,13],[.pc 16 12 B3,.kb 8,.pc 16 13 AP,.kb 9,.pc 16 14 B7,.kb 10,.pc 16 15 BS,.kb 11,.pc 16 18 A7,.kb 14],am5,amU,λv b=>⟨B4 Ae v 1,AK v 2,AK v 3,rB b 16 4 0 0 0 0 0 0 0 0 0 0 15,rG b,Ab A7 b 20,Ab A7 b 21⟩,vt,λs r=> {s with i:=r.i,out:=r.out},λs=>s,λ_ s=>s,[.exit 0],iS,YP,tG⟩
abbrev oS:=Qk.run
abbrev aso:=Qk.Aq
def P3:List Bd:=[WQ,XB,X9,X8,XC,WN,WR,Qw]
def azH:Ax:=Ht P3 (la 2 func35 NN<|la 1 func34 MP<|la 2 func43 LA<|la 9 func25 Cn<|l0 P3) [⟨32,PH.m,TQ⟩]
def awK:Rq YP vt:=by
 intro s hI;refine ⟨λc1=>⟨?_,?_,?_,?_,A9,A9,A9,ak⟩,λc1=>⟨A9,A9,A9,A9,ak⟩⟩
 all_goals ((obtain ⟨⟨h0,h1⟩,h2,h3,h4,h5,h6⟩:=hI;(try simp only [Ac] at c1);first|omega|exact ⟨rfl,AJ⟩ |(omega)))
def aPI:Qk.Ok:={}
def aPE:Qk.Pf (aAW):=⟨aiO,λs h=>rfl,awr,awK⟩
def Oj:SA 21 ao8 Qk:=s2 aPI aPE P3 azH
def aqj:Fi iS YP aAW aso oS:=AR.fin aPI aPE
structure Mf where
 m:List Int
 (k i:Int)
 p:PK
 ev:EW
 (dw Cx:List Int)
def am6 (s:Mf):List LV:=[.own 16 0,.os 21 1 0<|M s.Cx,.xl A7 s.m,s.k,s.i]
def amV (s:Mf):List AB:=[AO,AO,zB,AO,bV 73 Ad s.p.cs,AO,AO,AO,AO,AO,AO,AO,AO,AO,AO,bV 3 A7 s.p.tg,⟨[.os 4 11 0<|M s.p.cs,.xl .str s.p.os,.xl Ah s.p.ks,.xl Ae s.p.gs,.xl Ai s.p.bs,.v<|Y J s.p.tk,.v<|.bool s.p.up,.xl AP s.p.ls,.v<|Y J s.p.se,.xl (.int aw) s.p.fl,.xl Am s.p.ra,.v<|Y J s.p.nx,.xl B3 s.p.st,.xl AP s.p.ca,.xl B7 s.p.mi,.xl BS s.p.me,.xl Ak s.p.dm,.xl BM s.p.lk,.xl A7 s.p.dr,.os 15 1 0<|M s.p.tg,.v<|Y J s.ev.ek,.v<|Y J s.ev.en,.v<|Y J s.ev.em,.v<|Y J s.ev.c1,.v<|Y J s.ev.c2,.v<|Y J s.ev.c3,.v<|Y J s.ev.c4,.v<|Y J s.ev.c5,.v<|.bool s.ev.d1,.v<|Y J s.ev.d2,.v<|Y J s.ev.d3,.v<|Y J s.ev.d4,.os 20 1 0<|M s.dw],88,.cl,X⟩,AO,AO,AO,bV 3 A7 s.dw,bV 3 A7 s.Cx]
def ao9:=bN f36 0
def vu (s:Mf):T (Rd Mf):=letI b:=s.Cx.getD s.i.toNat<|Ty.dflt A7;letI c:=M s.Cx;letI a:=s.Cx.set s.i.toNat (if b<(gi s.m s.i) then (gi s.m s.i) else b);.br (an<|s.i<s.k) (.ix s.i (M s.m)<|.ik s.i c<|.ik s.i c<|.re c a<|.rl s.p.cs<|.rl s.p.tg<|.rl s.dw<|.nx {s with i:=AA<|s.i+1,Cx:=a})<|.rl s.Cx<|.rl s.p.cs<|.rl s.p.tg<|.rl s.dw<|.so (.exit 0) s
def iT (s:Mf):Prop:=s.i=0/\s.k=(M s.m:Int)/\s.k<=1000/\M s.Cx=M s.m/\(∀j,0<=j->j<s.k->gi s.Cx j=CW (AG s.p.gs j))/\True
def YQ (s:Mf):Prop:=(0<=s.i/\s.i<=s.k)/\s.k=(M s.m:Int)/\s.k<=1000/\M s.Cx=M s.m/\(∀j,0<=j->j<s.k->gi s.Cx j=if j<s.i then mx (CW<|AG s.p.gs j) (gi s.m j) else CW (AG s.p.gs j))/\True
def tH (s:Mf):Nat:=(s.k-s.i).toNat
def aAX (x:Ex) (s s':Mf):Prop:=x=.exit 0/\s'.Cx=FC (M s'.m) (λj=>mx (CW<|AG s'.p.gs j)<|gi s'.m j)
theorem aiP:∀s,iT s->YQ s:=by
 exact Sd
theorem aws:Da YQ tH aAX vu:=by
 intro s hI;obtain ⟨⟨h0,h1⟩,h2,h3,h4,h5,h6⟩:=hI;refine AH (λc1=>?_) λc1=>?_
 ·have c1:s.i<s.k:=AX
  rw [AI (x:=s.i+1)];refine ⟨⟨⟨A8,A8⟩,h2,h3,A8,λj j0 j1=>?_,h6⟩,by simp only [tH];omega⟩
  simp only
  have hi:=h5 s.i h0 c1
  rw [AE (show ¬s.i<s.i by omega)] at hi
  rw [KB h0 aH j0]
  by_cases e:j=s.i
  ·subst e
   rw [AD rfl,AD (show s.i<s.i+1 by omega)]
   show mx (gi s.Cx s.i) (gi s.m s.i)=_
   rw [hi]
  ·exact xj
 ·exact Zf
def Ql:AR Mf:=⟨21,125,[0,2,51,52,53],[],am6,amV,λv b=>⟨B4 A7 v 2,AK v 3,AK v 4,rB b 16 4 0 0 0 0 0 0 0 0 0 0 15,rG b,Ab A7 b 20,Ab A7 b 21⟩,vu,λs r=> {s with i:=r.i,Cx:=r.Cx},λs=>s,λ_ s=>s,[.exit 0],iT,YQ,tH⟩
abbrev oT:=Ql.run
abbrev asq:=Ql.Aq
def azG:Ax:=Ht P3 (la 3 func64 Oj<|la 2 func35 NN<|la 1 func34 MP<|la 2 func43 LA<|la 9 func25 Cn<|l0 P3) [⟨32,PH.m,TQ⟩]
def awL:Rq YQ vu:=by
 intro s hI;refine ⟨λc1=>⟨?_,?_,?_,?_,?_,?_,A9,A9,A9,ak⟩,λc1=>⟨A9,A9,A9,A9,ak⟩⟩
 all_goals ((obtain ⟨⟨h0,h1⟩,h2,h3,h4,h5,h6⟩:=hI;(try simp only [Ac] at c1);first|omega|exact ⟨rfl,AJ⟩ |(omega)))
def aPJ:Ql.Ok:={}
def aPF:Ql.Pf (aAX):=⟨aiP,λs h=>rfl,aws,awL⟩
def QP:SA 21 ao9 Ql:=s2 aPJ aPF P3 azG
def aqk:Fi iT YQ aAX asq oT:=AR.fin aPJ aPF
theorem axB {gs:List Ch}{am:List Int}{b:Bool}:((J8 gs am==0)&&!(an (M am=M gs)&&!b))=(an (M am=M gs)&&b):=by
 unfold J8
 grind
def cdS (cs:List Cd) (tg:List Int) (i:Int):List Cd:=letI a:=(cpC cs).getD i.toNat<|Ty.dflt Ad;(cpC cs).set i.toNat (a.1,(a.2.1,((tg.getD i.toNat<|Ty.dflt A7),a.2.2.2)))
def fT {cs:List Cd}{tg:List Int}{i:Int}(h0:0<=i) (h:i<(M cs:Int)):cdS cs tg i=cs.set i.toNat (Jn (Al cs i.toNat)<|gi tg i.toNat):=by
 have e1:cs.getD i.toNat (Ty.dflt Ad)=Al cs (i.toNat:Int):=by
  rw [DQ,DR A0];rw [show Al cs (i.toNat:Int)=cs[i.toNat]' A0 from cv A0];rfl
 unfold cdS;rw [X4,e1,CR h0];rfl
structure Ip where
 am:List Int
 (n i:Int)
 p:PK
 ev:EW
 dw:List Int
def am4 (s:Ip):List LV:=[.own 16 0,.xl A7 s.am,.os 15 1 0<|M s.p.tg,s.n,s.i]
def amT (s:Ip):List AB:=[AO,AO,zB,AO,⟨[],73,.dead,X⟩,AO,AO,AO,AO,AO,AO,AO,AO,AO,AO,bV 3 A7 s.p.tg,⟨[.os 21 11 0<|M s.p.cs,.xl .str s.p.os,.xl Ah s.p.ks,.xl Ae s.p.gs,.xl Ai s.p.bs,.v<|Y J s.p.tk,.v<|.bool s.p.up,.xl AP s.p.ls,.v<|Y J s.p.se,.xl (.int aw) s.p.fl,.xl Am s.p.ra,.v<|Y J s.p.nx,.xl B3 s.p.st,.xl AP s.p.ca,.xl B7 s.p.mi,.xl BS s.p.me,.xl Ak s.p.dm,.xl BM s.p.lk,.xl A7 s.p.dr,.os 15 1 0<|M s.p.tg,.v<|Y J s.ev.ek,.v<|Y J s.ev.en,.v<|Y J s.ev.em,.v<|Y J s.ev.c1,.v<|Y J s.ev.c2,.v<|Y J s.ev.c3,.v<|Y J s.ev.c4,.v<|Y J s.ev.c5,.v<|.bool s.ev.d1,.v<|Y J s.ev.d2,.v<|Y J s.ev.d3,.v<|Y J s.ev.d4,.os 20 1 0<|M s.dw],88,.cl,X⟩,AO,AO,AO,bV 3 A7 s.dw,bV 73 Ad s.p.cs]
def ao7:=bN f36 1
def fz (s:Ip):T (Rd Ip):=letI a:=((M s.p.cs:Nat):Int);letI b:=cdS s.p.cs s.p.tg s.i;letI c:=(b.drop 0).take a.toNat;letI d:=AA<|s.i+1;.br (an<|s.i<s.n) (.ik s.i (M s.p.tg)<|.ik s.i (M s.p.cs)<|.br (an<|(s.p.tg.getD s.i.toNat<|Ty.dflt A7)>=(s.p.cs.getD s.i.toNat<|Ty.dflt Ad).2.2.1) (.rl s.p.tg<|.rl s.p.cs<|.rl s.p.tg<|.rl s.dw<|.nx {s with i:=d})<|.rm 96 a<|.rz s.p.cs<|.rc a (ByteArray.empty,((0:Int),((0:Int),((0:Int),(((0:Int),(0:Int)),((0:Int),((0:Int),((0:Int),((0:Int),(0:Int)))))))))) (M<|AQ s.p.cs)<|.ix s.i a.toNat<|.req (s.i.toNat<M (cpC s.p.cs))<|.req (0+a.toNat<=M b)<|.req (BI c s.p.os s.p.ks s.p.gs s.p.bs=U/\(M s.am=M s.p.gs->∀k:Nat,k<M s.am->0<=gi s.am k/\gi s.am k<=80))<|.br (((J8 s.p.gs s.am)==0)&&(!(an (M s.am=M s.p.gs)&&!II c s.p.gs s.am))) (.rl s.p.tg<|.re a.toNat b<|.rl s.p.tg<|.rl s.dw<|.nx {s with i:=d,p.cs:=b})<|.rl s.p.tg<|.rl s.p.cs<|.rl s.p.tg<|.rl s.dw<|.nx {s with i:=d})<|.rl s.p.tg<|.rl s.p.cs<|.rl s.p.tg<|.rl s.dw<|.so (.exit 2) s
def Xj (s:Ip):Prop:=s.i=0/\s.n=(M s.p.tg:Int)/\M s.p.tg=M s.p.cs/\BI s.p.cs s.p.os s.p.ks s.p.gs s.p.bs=U/\(∀k:Nat,k<M s.p.cs->1<=gi s.p.tg k/\gi s.p.tg k<=1000)/\(M s.am=M s.p.gs->∀k:Nat,k<M s.am->0<=gi s.am k/\gi s.am k<=80)
def YO (s:Ip):Prop:=0<=s.i/\s.i<=s.n/\s.n=(M s.p.tg:Int)/\M s.p.tg=M s.p.cs/\BI s.p.cs s.p.os s.p.ks s.p.gs s.p.bs=U/\(∀k:Nat,k<M s.p.cs->1<=gi s.p.tg k/\gi s.p.tg k<=1000)/\(M s.am=M s.p.gs->∀k:Nat,k<M s.am->0<=gi s.am k/\gi s.am k<=80)
def dg (s:Ip):Nat:=(s.n-s.i).toNat
def acY (x:Ex) (s s':Ip):Prop:=True
def aiN:∀s,Xj s->YO s:=by
 exact xk
def s7 {s:Ip}(hI:YO s) (c1:s.i<s.n):letI a:=Jn (Al s.p.cs s.i.toNat)<|gi s.p.tg s.i.toNat;((cdS s.p.cs s.p.tg s.i).drop 0).take ((M s.p.cs:Nat):Int).toNat=s.p.cs.set s.i.toNat a/\BI (s.p.cs.set s.i.toNat a) s.p.os s.p.ks s.p.gs s.p.bs=true:=by
 obtain ⟨h0,h1,h2,h3,h4,h5,h6⟩:=hI;rw [fT h0 A0];exact ⟨by rw [CP];exact DS AJ,nY h4 A0<|h5 _ A0⟩
theorem awq:Da YO dg acY fz:=by
 intro s hI;unfold fz;obtain ⟨h0,h1,h2,h3,h4,h5,h6⟩:=hI
 have hs:=DD.1 h4
 refine AH (λc1=>AH (λc2=>?_) λc2=>AH (λc3=>?_) λc3=>?_) λc1=>trivial
 all_goals have c1:s.i<s.n:=AX
 all_goals rw [AI (x:=s.i+1)]
 ·exact aLP
 ·rw [fT h0 A0]
  exact ⟨⟨AZ,AZ,h2,A8,nY h4 A0<|h5 _ A0,A8,h6⟩,by simp only [dg];omega⟩
 ·exact aLP
def PW:AR Ip:=⟨21,125,[0,2,72,73,74],[.pc 16 12 B3,.kb 8,.pc 16 13 AP,.kb 9,.pc 16 14 B7,.kb 10,.pc 16 15 BS,.kb 11,.pc 16 18 A7,.kb 14,.pb 2 A7,.ms 0 0],am4,amT,λv b=>⟨B4 A7 v 1,AK v 3,AK v 4,rB b 16 21 0 0 0 0 0 0 0 0 0 0 15,rG b,Ab A7 b 20⟩,fz,λs r=> {s with i:=r.i,p.cs:=r.p.cs},λs=>s,λ_ s=>s,[.exit 2],Xj,YO,dg⟩
abbrev TB:=PW.run
abbrev asn:=PW.Aq
def azF:Ax:=Ht P3 (la 6 func36 QP<|la 3 func64 Oj<|la 2 func35 NN<|la 1 func34 MP<|la 2 func43 LA<|la 9 func25 Cn<|l0 P3) [⟨32,PH.m,TQ⟩]
def awJ:Rq YO fz:=by
 intro s hI;refine ⟨λc1=>⟨?_,?_,?_,?_,λc2=>⟨A9,A9,A9,A9,ak⟩,λc2=>⟨?_,?_,?_,?_,?_,?_,?_,λc3=>⟨A9,?_,A9,A9,ak⟩,λc3=>⟨A9,A9,A9,A9,ak⟩⟩⟩,λc1=>⟨A9,A9,A9,A9,ak⟩⟩
 all_goals ((obtain ⟨h0,h1,h2,h3,h4,h5,h6⟩:=id hI;have hs:=DD.1 h4;simp only [Ac] at c1;first|exact ⟨by rw [(s7 hI c1).1];exact (s7 hI c1).2,h6⟩ |((try rw [X4]);(try rw [FQ]);(try rw [fT h0 A0]);first|omega|exact ⟨rfl,AJ⟩ |(simp;done))))
def aPH:PW.Ok:={}
def aPD:PW.Pf (acY):=⟨aiN,λs h=>rfl,awq,awJ⟩
def T9:SA 21 ao7 PW:=s2 aPH aPD P3 azF
theorem afN:Rs Xj asn TB (λs:Ip=>Eo (aL s.p.gs s.p.tg s.am) s.i.toNat s.p.cs (s.n-s.i).toNat) (λx s' (v:List Cd)=>x=.exit 2/\s'.p.cs=v):=DJ aPH aPD (λs hI=>by
  obtain ⟨h0,h1,h2,h3,h4,h5,h6⟩:=id hI
  have hs:=DD.1 h4
  refine AH (λc1=>?_) λc1=>?_
  ·have c1:s.i<s.n:=A8
   have hg:s.p.tg.getD s.i.toNat (Ty.dflt A7)=gi s.p.tg s.i.toNat:=MC
   have hc:(s.p.cs.getD s.i.toNat<|Ty.dflt Ad)=Al s.p.cs s.i.toNat:=MC
   rw [AI (x:=s.i+1),MH h0 c1,hg,hc,(s7 hI c1).1,fT h0 A0,axB];refine AH (λc2=>?_) λc2=>?_
   ·rw [show aL s.p.gs s.p.tg s.am s.i.toNat s.p.cs=s.p.cs from AD<|DC c2]
    rfl
   refine AH (λc3=>?_) λc3=>?_
   ·rw [show aL s.p.gs s.p.tg s.am s.i.toNat s.p.cs=_ from (AE<|JE c2).trans<|AD c3]
    rfl
   ·rw [show aL s.p.gs s.p.tg s.am s.i.toNat s.p.cs=_ from (AE<|JE c2).trans<|AE A8]
    rfl
  ·have c1:s.n<=s.i:=A8
   exact ⟨rfl,(nw c1).symm⟩)
structure HY where
 p:PK
 ev:EW
def UJ (s:HY):List LV:=[.own 16 0]
def Z7 (s:HY):List AB:=[AO,AO,zB,AO,bV 73 Ad s.p.cs,bV 104 AP s.p.ls,bV 5 (.int aw) s.p.fl,bV 130 Am s.p.ra,bV 95 B3 s.p.st,bV 56 AP s.p.ca,bV 110 B7 s.p.mi,bV 98 BS s.p.me,bV 58 Ak s.p.dm,bV 106 BM s.p.lk,bV 3 A7 s.p.dr,bV 3 A7 s.p.tg,⟨[.os 4 11 0<|M s.p.cs,.xl .str s.p.os,.xl Ah s.p.ks,.xl Ae s.p.gs,.xl Ai s.p.bs,.v<|Y J s.p.tk,.v<|.bool s.p.up,.os 5 5 0<|M s.p.ls,.v<|Y J s.p.se,.os 6 1 0<|M s.p.fl,.os 7 2 0<|M s.p.ra,.v<|Y J s.p.nx,.os 8 4 0<|M s.p.st,.os 9 5 0<|M s.p.ca,.os 10 3 0<|M s.p.mi,.os 11 3 0<|M s.p.me,.os 12 4 0<|M s.p.dm,.os 13 6 0<|M s.p.lk,.os 14 1 0<|M s.p.dr,.os 15 1 0<|M s.p.tg,.v<|Y J s.ev.ek,.v<|Y J s.ev.en,.v<|Y J s.ev.em,.v<|Y J s.ev.c1,.v<|Y J s.ev.c2,.v<|Y J s.ev.c3,.v<|Y J s.ev.c4,.v<|Y J s.ev.c5,.v<|.bool s.ev.d1,.v<|Y J s.ev.d2,.v<|Y J s.ev.d3,.v<|Y J s.ev.d4,.v<|.slice aj 0 0],88,.cl,X⟩]
def JN (s:HY):No:=(⟨(PK.AU s.p).lk,(M (PK.AU s.p).lk:Int),0,PK.AU s.p,s.ev,([]:List Lk)⟩:No)
def Sy (s:HY):LR:=(⟨((M (PK.AU s.p).dr:Nat):Int),0,{(PK.AU s.p) with st:=(K6<|JN s).p.st,lk:=AQ (K6<|JN s).left},s.ev⟩:LR)
def HQ (s:HY):LP:=letI a:=(M (PK.AU s.p).gs:Int);(⟨(PK.AU s.p).gs,a,0,{(PK.AU s.p) with st:=(dF<|Sy s).p.st,lk:=AQ (K6<|JN s).left},s.ev,aq a.toNat (0:Int)⟩:LP)
def cK (s:HY):Md:=letI a:=PK.AU s.p;letI b:=JK<|HQ s;(⟨a.gs,(M a.gs:Int),0,{a with st:=AQ b.p.st,ca:=AQ a.ca,mi:=AQ b.p.mi,me:=AQ b.p.me,lk:=AQ (K6<|JN s).left,dr:=AQ a.dr},s.ev,b.dw,aq (M a.gs:Int).toNat (0:Int)⟩:Md)
def Sw (s:HY):Mf:=letI b:=PK.AU s.p;letI c:=JK<|HQ s;letI a:=(Gr b.ls (M b.gs:Int)<|AA<|b.tk+1);(⟨a,(M a:Int),0,{b with st:=AQ c.p.st,ca:=AQ b.ca,mi:=AQ c.p.mi,me:=AQ c.p.me,lk:=AQ (K6<|JN s).left,dr:=AQ b.dr},s.ev,c.dw,(oS<|cK s).out⟩:Mf)
def Sv (s:HY):Ip:=letI a:=PK.AU s.p;letI b:=JK<|HQ s;(⟨AQ (oT<|Sw s).Cx,((M a.tg:Nat):Int),0,{a with st:=AQ b.p.st,ca:=AQ a.ca,mi:=AQ b.p.mi,me:=AQ b.p.me,lk:=AQ (K6<|JN s).left,dr:=AQ a.dr},s.ev,b.dw⟩:Ip)
def T5 (s:HY):Ip:=letI a:=PK.AU s.p;letI b:=JK<|HQ s;(⟨([]:List Int),((M a.tg:Nat):Int),0,{a with st:=AQ b.p.st,ca:=AQ a.ca,mi:=AQ b.p.mi,me:=AQ b.p.me,lk:=AQ (K6<|JN s).left,dr:=AQ a.dr},s.ev,b.dw⟩:Ip)
structure Xg where
 res:Int
 p:PK
 ev:EW
 dw:List Int
def abV (s:Xg):LV:=.v<|Y J s.res
def acD (s:Xg):List AB:=[AO,AO,zB,AO,AO,AO,AO,AO,AO,AO,AO,AO,AO,AO,AO,AO,⟨[.xl Ad s.p.cs,.xl .str s.p.os,.xl Ah s.p.ks,.xl Ae s.p.gs,.xl Ai s.p.bs,.v<|Y J s.p.tk,.v<|.bool s.p.up,.xl AP s.p.ls,.v<|Y J s.p.se,.xl (.int aw) s.p.fl,.xl Am s.p.ra,.v<|Y J s.p.nx,.xl B3 s.p.st,.xl AP s.p.ca,.xl B7 s.p.mi,.xl BS s.p.me,.xl Ak s.p.dm,.xl BM s.p.lk,.xl A7 s.p.dr,.xl A7 s.p.tg,.v<|Y J s.ev.ek,.v<|Y J s.ev.en,.v<|Y J s.ev.em,.v<|Y J s.ev.c1,.v<|Y J s.ev.c2,.v<|Y J s.ev.c3,.v<|Y J s.ev.c4,.v<|Y J s.ev.c5,.v<|.bool s.ev.d1,.v<|Y J s.ev.d2,.v<|Y J s.ev.d3,.v<|Y J s.ev.d4,.xl A7 s.dw],88,.cl,X⟩]
def gJ (s:HY):T Xg:=letI a:=PK.AU s.p;letI b:=JK<|HQ s;letI c:=(M a.gs:Int);letI d:=AQ (K6<|JN s).left;letI e:=AA<|a.tk+1;letI f:=(aq c.toNat (0:Int));.br (s.p.tk==1000000) (.rz s.p.cs<|.rz s.p.ls<|.rz s.p.fl<|.rz s.p.ra<|.rz s.p.st<|.rz s.p.ca<|.rz s.p.mi<|.rz s.p.me<|.rz s.p.dm<|.rz s.p.lk<|.rz s.p.dr<|.rz s.p.tg<|.ok<|⟨15,⟨AQ s.p.cs,s.p.os,s.p.ks,s.p.gs,s.p.bs,s.p.tk,s.p.up,AQ s.p.ls,s.p.se,AQ s.p.fl,AQ s.p.ra,s.p.nx,AQ s.p.st,AQ s.p.ca,AQ s.p.mi,AQ s.p.me,AQ s.p.dm,AQ s.p.lk,AQ s.p.dr,AQ s.p.tg⟩,s.ev,([]:List Int)⟩)<|.pc s.p<|.req (aiK (⟨s.p,s.ev⟩:LN))<|.r0 Lk<|.pd a<|.req (Rc.q<|JN s)<|.rz (K6<|JN s).left (.rl a.dr<|.rl a.cs<|.rl (K6<|JN s).p.st<|.rl a.ca<|.rl a.mi<|.rl a.me<|.rl a.dr<|.rl a.tg<|.req (Qu.q<|Sy s)<|.rm 8 c<|.rl a.cs<|.rl (dF<|Sy s).p.st<|.rl a.ca<|.rl a.mi<|.rl a.me<|.rl a.dr<|.rl a.tg<|.re c.toNat f<|.req (RU.q<|HQ s)<|.br (! a.up) (.rz a.cs<|.rz b.p.st<|.rz a.ca<|.rz b.p.mi<|.rz b.p.me<|.rz a.dr<|.rz a.tg<|.rz b.dw<|.ok<|⟨0,{a with cs:=AQ a.cs,tk:=e,st:=AQ b.p.st,ca:=AQ a.ca,mi:=AQ b.p.mi,me:=AQ b.p.me,lk:=d,dr:=AQ a.dr,tg:=AQ a.tg},s.ev,AQ b.dw⟩)<|.br ((Kb a.ls c e)==0) (.rm 8 c<|.rz b.p.st<|.rz a.ca<|.rz b.p.mi<|.rz b.p.me<|.rz a.dr<|.re c.toNat f<|.rl a.cs<|.rl a.tg<|.rl b.dw<|.req (Qk.q<|cK s)<|.rl (oS<|cK s).out<|.rl a.cs<|.rl a.tg<|.rl b.dw<|.req (Ql.q<|Sw s)<|.rz (oT<|Sw s).Cx<|.rl a.tg<|.rl a.cs<|.rl a.tg<|.rl b.dw<|.req (PW.q<|Sv s)<|.rz (TB<|Sv s).p.cs<|.rz a.tg<|.rz b.dw<|.ok<|⟨0,{a with cs:=AQ (TB<|Sv s).p.cs,tk:=e,st:=AQ b.p.st,ca:=AQ a.ca,mi:=AQ b.p.mi,me:=AQ b.p.me,lk:=d,dr:=AQ a.dr,tg:=AQ a.tg},s.ev,AQ b.dw⟩)<|.rz b.p.st<|.rz a.ca<|.rz b.p.mi<|.rz b.p.me<|.rz a.dr<|.rl a.tg<|.rl a.cs<|.rl a.tg<|.rl b.dw<|.req (PW.q<|T5 s)<|.rz (TB<|T5 s).p.cs<|.rz a.tg<|.rz b.dw<|.ok<|⟨0,{a with cs:=AQ (TB<|T5 s).p.cs,tk:=e,st:=AQ b.p.st,ca:=AQ a.ca,mi:=AQ b.p.mi,me:=AQ b.p.me,lk:=d,dr:=AQ a.dr,tg:=AQ a.tg},s.ev,AQ b.dw⟩)
def aAx (s:HY):Prop:=(VP s.p/\RQ s.p)/\VK s.p.se s.p.fl/\BL s.p.ls=U
def Tg (s:HY):Xg:=⟨PK.Ir s.p,JA (PK.Ir s.p) (PK.F6 s.p) s.p,s.ev,if PK.Ir s.p=0 then PK.Is s.p else []⟩
def aAj:Cs HY Xg:=⟨UJ,Z7,λv b=>⟨rF b,rG b⟩,aAx,[0,1,3],[.pc 16 0 Ad,.kb 4,.pc 16 7 AP,.kb 5,.pc 16 9<|.int aw,.kb 6,.pc 16 10 Am,.kb 7,.pc 16 12 B3,.kb 8,.pc 16 13 AP,.kb 9,.pc 16 14 B7,.kb 10,.pc 16 15 BS,.kb 11,.pc 16 16 Ak,.kb 12,.pc 16 17 BM,.kb 13,.pc 16 18 A7,.kb 14,.pc 16 19 A7,.kb 15,.pc 16 32 A7],abV,acD,Tg⟩
abbrev aiD (s:HY):Prop:=aAx s/\UJ s=UJ s/\Z7 s=Z7 s
def Wc:List Bd:=[WQ,XB,X9,X8,XC,WN,WR,Qw]
def aRE:Ax:=Ht Wc (la 11 func36 T9<|la 6 func36 QP<|la 3 func64 Oj<|la 2 func35 NN<|la 1 func34 MP<|la 2 func43 LA<|la 9 func25 Cn<|l0 Wc) [⟨32,PH.m,TQ⟩]
def aTE:DE:=CT 36 21 11 (PW.lp)<|CT 36 21 6 (Ql.lp)<|CT 64 21 3 (Qk.lp)<|CT 35 20 2 (RU.lp)<|CT 34 20 1 (Qu.lp)<|CT 43 19 2 (Rc.lp)<|CT 25 0 9 (GZ.lp)<|Dl prog AV Wc 20 2
def aoH:ED prog AV aTE:=D5 func36 rfl AT T9<|D5 func36 rfl AT QP<|D5 func64 rfl AT Oj<|D5 func35 rfl AT NN<|D5 func34 rfl AT MP<|D5 func43 rfl AT LA<|D5 func25 rfl AT Cn<|HW<|gk Wc
def ayG (s:HY):((EP prog AV Wc aTE aRE).k 17 (UJ s)<|Z7 s).bind (λq=>G2 (M<|Z7 s) [0] [.pc 16 0 Ad,.kb 4,.pc 16 7 AP,.kb 5,.pc 16 9<|.int aw,.kb 6,.pc 16 10 Am,.kb 7,.pc 16 12 B3,.kb 8,.pc 16 13 AP,.kb 9,.pc 16 14 B7,.kb 10,.pc 16 15 BS,.kb 11,.pc 16 16 Ak,.kb 12,.pc 16 17 BM,.kb 13,.pc 16 18 A7,.kb 14,.pc 16 19 A7,.kb 15,.pc 16 32 A7] .normal (q.1::UJ s) q.2)=(gJ s).mp (λs2=>⟨.normal,M (UJ s)+1,[abV s2],acD s2,U⟩):=AT
def avN (s:HY) (hE:aAx s):(gJ s).all (λq=>q=Tg s):=by
 obtain ⟨⟨hV,hR⟩,hK,hls⟩:=id hE
 have hq:=hV.dec
 have hs:=DD.1 hq.site
 have hs0:=DD.1 hV.site
 have htk:s.p.AU.tk=s.p.tk:=(Vk s.p).2.2.2.2.2.1
 have hd:=aRY hR A0
 have hp:=hV.tk
 have A1:jm (JN s):=⟨rfl,rfl,by show (M s.p.AU.lk:Int)<=20000000;omega,yC,hq.lk,hq.st⟩
 have q1:=(ato _ A1).2
 have r1:(K6<|JN s).p.st=s.p.AU.Ji.st:=by
  refine (Prod.mk.inj q1).1.trans ?_
  show (s.p.AU.lk.drop 0).foldl _ _=Mu _ _ _ _ _
  rw [aDs _<|Av _,E6];rfl
 have r2:(K6<|JN s).left=s.p.AU.Ji.lk:=(Prod.mk.inj q1).2
 have h2:Sy s=⟨(M s.p.AU.dr:Int),0,s.p.AU.Ji,s.ev⟩:=by
  unfold Sy;rw [r1,FQ,r2];rfl
 have A2:jh (Sy s):=by
  rw [h2];exact ⟨rfl,rfl,hq.dr,by show (M s.p.AU.dr:Int)<=1000;rw [hq.dr];omega,hq.arr.st,by show 0<=s.p.AU.tk/\s.p.AU.tk<=1000000;rw [htk];exact hp⟩
 have r3:(dF<|Sy s).p.st=s.p.B6.st:=by
  refine (au2 _ A2).2.trans ?_;rw [h2]
  show Eo (cnt1 s.p.AU.gs s.p.AU.dr s.p.AU.tk) 0 s.p.AU.Ji.st ((M s.p.AU.dr:Int)-0).toNat=_
  rw [Pu,C3,ahi];rfl
 have h3:HQ s=⟨s.p.B6.gs,(M s.p.B6.gs:Int),0,s.p.B6,s.ev,aq (M s.p.B6.gs) 0⟩:=by
  unfold HQ;rw [r3,FQ,r2,C3];rfl
 have hb:VP s.p.B6:=hq.arr.cnt
 have A3:iL (HQ s):=by
  rw [h3];exact ⟨rfl,rfl,xy,rfl,hb.st,hb.ca,hb.mi,hb.me,Ce⟩
 have q4:=(ash _ A3).2
 have q4:(⟨(JK<|HQ s).p.st,(JK<|HQ s).p.mi,(JK<|HQ s).p.me,(JK<|HQ s).dw⟩:DW)=s.p.B6.dw:=by
  refine q4.trans ?_;rw [h3]
  show Eo (λk d=>FK s.p.B6.gs s.p.B6.ca d (k:Int)) 0 _ ((M s.p.B6.gs:Int)-0).toNat=_
  rw [Pu,C3,alC];rfl
 have r4:(JK<|HQ s).p.st=s.p.B6.dw.st:=B1 DW.st q4
 have r5:(JK<|HQ s).p.mi=s.p.B6.dw.mi:=B1 DW.mi q4
 have r6:(JK<|HQ s).p.me=s.p.B6.dw.me:=B1 DW.me q4
 have r7:(JK<|HQ s).dw=s.p.B6.dw.dw:=B1 DW.dw q4
 have hw:AA (s.p.AU.tk+1)=s.p.AU.tk+1:=AI
 have hdr:VP s.p.B6.G1:=hb.drw
 unfold gJ;simp only [FQ,r2,r3,r4,r5,r6,r7,hw];refine ⟨λc=>?_,λc=>?_⟩
 ·have e:s.p.Ir=15:=AD (eq_of_beq c)
  repeat (refine ⟨DU,?_⟩)
  show _=_
  unfold Tg;rw [e,JR Aa,AE Aa]
 have e:s.p.Ir=0:=AE<|CQ.1 c
 repeat (refine ⟨DU,?_⟩)
 refine ⟨⟨hE,rfl,rfl⟩,?_⟩
 repeat (refine ⟨DU,?_⟩)
 refine ⟨⟨A1,rfl,rfl⟩,?_⟩
 repeat (refine ⟨DU,?_⟩)
 refine ⟨⟨A2,rfl,rfl⟩,?_⟩
 repeat (refine ⟨DU,?_⟩)
 refine ⟨⟨A3,rfl,rfl⟩,λc2=>?_,λc2=>?_⟩
 ·have c2:s.p.B6.G1.up=false:=(Ct _).mp c2
  repeat (refine ⟨DU,?_⟩)
  show _=_
  unfold Tg;rw [e,LH rfl,AD rfl];unfold PK.F6 PK.Jf;rw [AD c2];rfl
 have hu:¬s.p.B6.G1.up=false:=by intro h;rw [show s.p.AU.up=X from h] at c2;cases c2
 have R:∀ {am cs},s.p.B6.G1.rsA=am->FB s.p.B6.G1.gs s.p.B6.G1.tg am s.p.B6.G1.cs (M s.p.B6.G1.tg)=cs->s.p.F6={s.p.AU with cs:=cs,tk:=s.p.AU.tk+1,st:=s.p.B6.dw.st,mi:=s.p.B6.dw.mi,me:=s.p.B6.dw.me,lk:=s.p.AU.Ji.lk}:=λh1 h2=>by
  unfold PK.F6 PK.Jf;rw [AE hu,h1,h2];rfl
 refine ⟨λc3=>?_,λc3=>?_⟩
 ·have c3:Kb s.p.AU.ls (M s.p.AU.gs) (s.p.AU.tk+1)=0:=eq_of_beq c3
  have cO:LZ s.p.AU.ls (M s.p.AU.gs) (s.p.AU.tk+1)=true:=by
   unfold Kb at c3;split at c3
   ·assumption
   ·cases c3
  have cL:Gr s.p.AU.ls (M s.p.AU.gs) (s.p.AU.tk+1)=Lm (M s.p.AU.gs) s.p.AU.ls (s.p.AU.tk+1):=by
   unfold Gr;rw [AD cO,C3]
  have hl:BL s.p.AU.ls=true:=by
   unfold LZ at cO;simp only [AY] at cO;exact cO.1.1
  have hsA:s.p.B6.G1.rsA=Hh s.p.AU.gs s.p.AU.ls (s.p.AU.tk+1):=AD c3
  have A4:iS (cK s):=⟨rfl,rfl,xy,by show M (aq (M s.p.AU.gs:Int).toNat (0:Int))=_;rw [Ce,C3];rfl,λj _ _=>NV,ak⟩
  obtain ⟨_,_,_,q5⟩:=aqj _ A4
  have q5:(oS<|cK s).out=BP s.p.AU.gs:=q5
  have hlen:M (Lm (M s.p.AU.gs) s.p.AU.ls<|s.p.AU.tk+1)=M s.p.AU.gs:=cN
  have h6:Sw s=⟨Lm (M s.p.AU.gs) s.p.AU.ls<|s.p.AU.tk+1,(M s.p.AU.gs:Int),0,s.p.B6.G1,s.ev,s.p.B6.dw.dw,BP s.p.AU.gs⟩:=by
   unfold Sw;simp only [FQ,r2,r4,r5,r6,r7,hw,q5,cL,hlen];rfl
  have A5:iT (Sw s):=by
   rw [h6];refine ⟨rfl,by show (M s.p.AU.gs:Int)=_;rw [hlen],xy,by show M (BP s.p.AU.gs)=_;rw [hlen];exact I2,λj j0 j1=>(show gi (BP s.p.AU.gs) j=CW (AG s.p.AU.gs j) from Q5 j0 j1),ak⟩
  obtain ⟨_,_,_,q6⟩:=aqk _ A5
  have q6:(oT<|Sw s).Cx=Hh s.p.AU.gs s.p.AU.ls (s.p.AU.tk+1):=by
   refine q6.trans ?_;rw [h6]
   show FC (M<|Lm (M s.p.AU.gs) s.p.AU.ls<|s.p.AU.tk+1) _=_
   rw [hlen];rfl
  have h7:Sv s=⟨Hh s.p.AU.gs s.p.AU.ls<|s.p.AU.tk+1,(M s.p.AU.tg:Int),0,s.p.B6.G1,s.ev,s.p.B6.dw.dw⟩:=by
   unfold Sv;simp only [FQ,r2,r4,r5,r6,r7,q6];rfl
  have A6:Xj (Sv s):=by
   rw [h7];exact ⟨rfl,rfl,hq.Ho,hq.site,hq.tg1,λ_ k hk=>aoC hq.site hl A0 (by have:M (Hh s.p.AU.gs s.p.AU.ls<|s.p.AU.tk+1)=M s.p.AU.gs:=I2;have hk:k<M (Hh s.p.AU.gs s.p.AU.ls<|s.p.AU.tk+1):=hk;omega)⟩
  have q7:(TB<|Sv s).p.cs=FB s.p.AU.gs s.p.AU.tg (Hh s.p.AU.gs s.p.AU.ls<|s.p.AU.tk+1) s.p.AU.cs (M s.p.AU.tg):=by
   exact aLt
  repeat (refine ⟨DU,?_⟩)
  refine ⟨⟨A4,rfl,rfl⟩,?_⟩
  repeat (refine ⟨DU,?_⟩)
  refine ⟨⟨A5,rfl,rfl⟩,?_⟩
  repeat (refine ⟨DU,?_⟩)
  refine ⟨⟨A6,rfl,rfl⟩,?_⟩
  repeat (refine ⟨DU,?_⟩)
  show _=_
  unfold Tg;rw [e,LH rfl,AD rfl,R hsA q7.symm];rfl
 ·have c3:¬Kb s.p.AU.ls (M s.p.AU.gs) (s.p.AU.tk+1)=0:=CQ.1 c3
  have hsA:s.p.B6.G1.rsA=[]:=AE c3
  have h7:T5 s=⟨[],(M s.p.AU.tg:Int),0,s.p.B6.G1,s.ev,s.p.B6.dw.dw⟩:=by
   unfold T5;simp only [FQ,r2,r4,r5,r6,r7];rfl
  have A6:Xj (T5 s):=by
   rw [h7];exact ⟨rfl,rfl,hq.Ho,hq.site,hq.tg1,λ_ k hk=>OX⟩
  have q7:(TB<|T5 s).p.cs=FB s.p.AU.gs s.p.AU.tg [] s.p.AU.cs (M s.p.AU.tg):=by
   exact aLt
  repeat (refine ⟨DU,?_⟩)
  refine ⟨⟨A6,rfl,rfl⟩,?_⟩
  repeat (refine ⟨DU,?_⟩)
  show _=_
  unfold Tg;rw [e,LH rfl,AD rfl,R hsA q7.symm];rfl
def ahU:DX prog AV 17 aAj.m:=Cs.sound (D:=aAj) (t:=gJ) (gk Wc) aoH aRE.h ayG λs hE=>⟨avN s hE⟩
def JP (p:PK):Prop:=(VP p/\RQ p)/\VK p.se p.fl/\BL p.ls=U
variable {p : PK} {ev : EW}
def mh {e:EV}(h:BJ p e≠0):BO p e=PK0/\Bc p e=[]:=⟨AD h,AD h⟩
theorem aBK (hv:Dz p=U) (h:ev.ek=1):BJ p ev.ev=p.Ir/\(p.Ir=0->BO p ev.ev=p.F6/\Bc p ev.ev=p.Is):=by
 exact Px
theorem aJu (hv:Dz p=U) (h:ev.ek=2):BJ p ev.ev=p.GS ev.en ev.c ev.d/\(p.GS ev.en ev.c ev.d=0->BO p ev.ev=p.Nr ev.en ev.c ev.d/\Bc p ev.ev=[]):=by
 exact Px
theorem aJt (hv:Dz p=U) (h:ev.ek=3):BJ p ev.ev=p.JW ev.en/\(p.JW ev.en=0->BO p ev.ev=p.Qd ev.en/\Bc p ev.ev=[]):=by
 exact Px
theorem aJs (hv:Dz p=U) (h:ev.ek=4):BJ p ev.ev=p.Ns ev.en/\(p.Ns ev.en=0->BO p ev.ev=p.gT ev.en/\Bc p ev.ev=[]):=by
 exact Px
theorem aBI (hv:Dz p=U) (h:ev.ek=5):BJ p ev.ev=p.MY/\(p.MY=0->BO p ev.ev=p.PF/\Bc p ev.ev=[]):=by
 exact Px
theorem aJr (hv:Dz p=U) (h:ev.ek=6):BJ p ev.ev=p.Gb/\(p.Gb=0->BO p ev.ev=p.XK/\Bc p ev.ev=[]):=by
 exact Px
theorem aJq (hv:Dz p=U) (h:ev.ek=7):BJ p ev.ev=p.PA ev.en/\(p.PA ev.en=0->BO p ev.ev=p.aTn ev.en/\Bc p ev.ev=[]):=by
 exact Px
theorem aJp (hv:Dz p=U) (h:ev.ek=8):BJ p ev.ev=p.Iz ev.en ev.em/\(p.Iz ev.en ev.em=0->BO p ev.ev=p.Lt ev.en ev.em/\Bc p ev.ev=[]):=by
 exact Px
def aJo (hv:Dz p=U) (h:ev.ek≠1/\ev.ek≠2/\ev.ek≠3/\ev.ek≠4/\ev.ek≠5/\ev.ek≠6/\ev.ek≠7/\ev.ek≠8):BJ p ev.ev=9:=by
 obtain ⟨h1,h2,h3,h4,h5,h6,h7,h8⟩:=h
 simp [BJ,hv,EW.ev,h1,h2,h3,h4,h5,h6,h7,h8]
def JP.lb (h:JP p):LB p:=by
 obtain ⟨⟨hV,hR⟩,hK,_⟩:=h
 have hs:=DD.1 hV.site
 have hf:=hR.fl.2.1
 have hl:=hR.ls
 have hk:=hR.lk
 have hr:=hR.ra
 have ht:=hV.tk
 have h1:=hV.st
 have h2:=hV.ca
 have h3:=hV.mi
 have h4:=hV.me
 have h5:=hV.dm
 have h6:=hV.dr
 have h7:=hV.Ho
 have hf:M p.fl=2048:=hf
 refine ⟨?_,?_,?_,?_,?_,?_,?_,?_,?_,?_,?_,?_,λm hm=>HP (hR.mi m hm) Aa⟩<;>omega
end Go.Proofs.YtpfblnbippcdjaaGreatDoor
namespace Go.Proofs.YtpfblnbippcdjaaGreatDoor
set_option maxRecDepth 100000
set_option maxHeartbeats 4000000
open Go.Proofs.Tryz
open Go.Sx
def aJB:List LV->T LV
 | [x_p,x_ev]=>(match Mr x_p with
  |some p=>(match mE x_ev with
  |some ev=> .req (JP p) (.ok<|.AM [BO p<|EW.ev ev,.xl A7<|Bc p<|EW.ev ev,BJ p<|EW.ev ev])
  |none=> .no)
  |none=> .no)
 |_=> .no
def tkO (p:PK) (ev:EW):PK:=JA (PK.Ir p) (PK.F6 p)<|p
def ad2 (p:PK) (ev:EW):PK:=JA (PK.GS p ev.en (EW.c ev)<|EW.d ev) (PK.Nr p ev.en (EW.c ev)<|EW.d ev)<|p
def ad5 (p:PK) (ev:EW):PK:=JA (PK.JW p ev.en) (PK.Qd p ev.en)<|p
def adA (p:PK) (ev:EW):PK:=JA (PK.Ns p ev.en) (PK.gT p ev.en)<|p
def adB (p:PK) (ev:EW):PK:=JA (PK.MY p) (PK.PF p)<|p
def adJ (p:PK) (ev:EW):PK:=JA (PK.Gb p) (PK.XK p)<|p
def Kg (e:Int):LV:=.AM [.agg [.xl Ad ([]:List Cd),.xl .str ([]:List ByteArray),.xl Ah ([]:List Ko),.xl Ae ([]:List Ch),.xl Ai ([]:List Ba),.v<|Y J 0,.v<|.bool X,.xl AP ([]:List Le),.v<|Y J 0,.xl (.int aw) ([]:List Int),.xl Am ([]:List Ra),.v<|Y J 0,.xl B3 ([]:List St),.xl AP ([]:List Le),.xl B7 ([]:List Mi),.xl BS ([]:List Me),.xl Ak ([]:List Dm),.xl BM ([]:List Lk),.xl A7 ([]:List Int),.xl A7 ([]:List Int)],.xl A7 ([]:List Int),.v<|Y J e]
def ep:List Bd:=[ahz]
def aRD:Ax:=Ht ep (la 11 func36 T9<|la 6 func36 QP<|la 3 func64 Oj<|la 2 func35 NN<|la 1 func34 MP<|la 2 func43 LA<|la 9 func25 Cn<|l0 ep) [⟨17,aAj.m,ahU⟩,⟨18,aAl.m,ahW⟩,⟨19,aB8.m,ahY⟩,⟨20,aAm.m,ahX⟩,⟨21,aB9.m,ahZ⟩,⟨22,aAk.m,ahV⟩,⟨23,aAi.m,agA⟩,⟨24,aBA.m,aha⟩,⟨25,QU λa=>jr.m a [],ahd⟩]
def arX (p:PK) (ev:EW):letI a:=ad2 p ev;letI b:=ad5 p ev;letI e:=adA p ev;letI f:=adB p ev;letI g:=adJ p ev;letI h:=(azx (⟨p⟩:MK));letI i:=M p.me;letI j:=M p.dm;letI k:=M p.lk;letI l:=M p.dr;letI m:=M p.tg;letI n:=PK.GS p ev.en (EW.c ev)<|EW.d ev;Bk prog AV (ep) aRD Ag f9 [p,ev]=.req (M p.lk<=100000000) (.br (!(Dz p)) (.ok<|Kg 1)<|.br (ev.ek==(1:Int)) (.req h<|.rv (ev)<|.pa p<|.rl p.st<|.rl p.ca<|.rl p.mi<|.re i p.me<|.re j p.dm<|.re k p.lk<|.re l p.dr<|.re m p.tg<|.req (aiD (⟨p,ev⟩:HY))<|.br ((PK.Ir p) !=0) (.ok<|Kg<|PK.Ir p)<|.ok<|.AM [tkO p ev,.xl A7 (if PK.Ir (p)=0 then PK.Is p else []),(0:Int)])<|.br (ev.ek==(2:Int)) (.req h<|.rv (ev)<|.pa p<|.rl p.st<|.rl p.ca<|.rl p.mi<|.re i p.me<|.re j p.dm<|.re k p.lk<|.re l p.dr<|.re m p.tg<|.req (aiF (⟨p,ev⟩:Nd))<|.br (n !=0) (.ok<|Kg n)<|.rz a.cs<|.rz a.ls<|.rz a.fl<|.rz a.ra<|.rz a.st<|.rz a.ca<|.rz a.mi<|.rz a.me<|.rz a.dm<|.rz a.lk<|.rz a.dr<|.rz a.tg<|.ok<|.AM [.agg [AQ a.cs,a.os,a.ks,a.gs,a.bs,a.tk,a.up,AQ a.ls,a.se,.xl (.int aw)<|AQ a.fl,AQ a.ra,a.nx,AQ a.st,AQ a.ca,AQ a.mi,AQ a.me,AQ a.dm,AQ a.lk,.xl A7<|AQ a.dr,.xl A7<|AQ a.tg],.xl A7 ([]:List Int),(0:Int)])<|.br (ev.ek==(3:Int)) (.req h<|.rv (ev)<|.pa p<|.rl p.st<|.rl p.ca<|.rl p.mi<|.re i p.me<|.re j p.dm<|.re k p.lk<|.re l p.dr<|.re m p.tg<|.req (aiH (⟨p,ev⟩:Ng))<|.br ((PK.JW p ev.en) !=0) (.ok<|Kg<|PK.JW p ev.en)<|.rz b.cs<|.rz b.ls<|.rz b.fl<|.rz b.ra<|.rz b.st<|.rz b.ca<|.rz b.mi<|.rz b.me<|.rz b.dm<|.rz b.lk<|.rz b.dr<|.rz b.tg<|.ok<|.AM [.agg [AQ b.cs,b.os,b.ks,b.gs,b.bs,b.tk,b.up,AQ b.ls,b.se,.xl (.int aw)<|AQ b.fl,AQ b.ra,b.nx,AQ b.st,AQ b.ca,AQ b.mi,AQ b.me,AQ b.dm,AQ b.lk,.xl A7<|AQ b.dr,.xl A7<|AQ b.tg],.xl A7 ([]:List Int),(0:Int)])<|.br (ev.ek==(4:Int)) (.req h<|.rv (ev)<|.pa p<|.rl p.st<|.rl p.ca<|.rl p.mi<|.re i p.me<|.re j p.dm<|.re k p.lk<|.re l p.dr<|.re m p.tg<|.req (aiG (⟨p,ev⟩:Nf))<|.br ((PK.Ns p ev.en) !=0) (.ok<|Kg<|PK.Ns p ev.en)<|.rz e.cs<|.rz e.ls<|.rz e.fl<|.rz e.ra<|.rz e.st<|.rz e.ca<|.rz e.mi<|.rz e.me<|.rz e.dm<|.rz e.dr<|.rz e.tg<|.ok<|.AM [.agg [AQ e.cs,e.os,e.ks,e.gs,e.bs,e.tk,e.up,AQ e.ls,e.se,.xl (.int aw)<|AQ e.fl,AQ e.ra,e.nx,AQ e.st,AQ e.ca,AQ e.mi,AQ e.me,AQ e.dm,e.lk,.xl A7<|AQ e.dr,.xl A7<|AQ e.tg],.xl A7 ([]:List Int),(0:Int)])<|.br (ev.ek==(5:Int)) (.req h<|.rv (ev)<|.pa p<|.rl p.st<|.rl p.ca<|.rl p.mi<|.re i p.me<|.re j p.dm<|.re k p.lk<|.re l p.dr<|.re m p.tg<|.req (aiI (⟨p,ev⟩:Nh))<|.br ((PK.MY p) !=0) (.ok<|Kg<|PK.MY p)<|.rz f.cs<|.rz f.fl<|.rz f.ra<|.rz f.st<|.rz f.ca<|.rz f.mi<|.rz f.me<|.rz f.dm<|.rz f.lk<|.rz f.dr<|.rz f.tg<|.ok<|.AM [.agg [AQ f.cs,f.os,f.ks,f.gs,f.bs,f.tk,f.up,f.ls,f.se,.xl (.int aw)<|AQ f.fl,AQ f.ra,f.nx,AQ f.st,AQ f.ca,AQ f.mi,AQ f.me,AQ f.dm,AQ f.lk,.xl A7<|AQ f.dr,.xl A7<|AQ f.tg],.xl A7 ([]:List Int),(0:Int)])<|.br (ev.ek==(6:Int)) (.req h<|.rv (ev)<|.pa p<|.rl p.st<|.rl p.ca<|.rl p.mi<|.re i p.me<|.re j p.dm<|.re k p.lk<|.re l p.dr<|.re m p.tg<|.req (aiE (⟨p,ev⟩:Nc))<|.br ((PK.Gb p) !=0) (.ok<|Kg<|PK.Gb p)<|.rz g.cs<|.rz g.st<|.rz g.ca<|.rz g.mi<|.rz g.me<|.rz g.dm<|.rz g.lk<|.rz g.dr<|.rz g.tg<|.ok<|.AM [.agg [AQ g.cs,g.os,g.ks,g.gs,g.bs,g.tk,g.up,g.ls,g.se,.xl (.int aw) g.fl,g.ra,g.nx,AQ g.st,AQ g.ca,AQ g.mi,AQ g.me,AQ g.dm,AQ g.lk,.xl A7<|AQ g.dr,.xl A7<|AQ g.tg],.xl A7 ([]:List Int),(0:Int)])<|.br (ev.ek==(7:Int)) (.req h<|.rv (ev)<|.pa p<|.rl p.st<|.rl p.ca<|.rl p.mi<|.re i p.me<|.re j p.dm<|.re k p.lk<|.re l p.dr<|.re m p.tg<|.req (aiC (⟨p,ev⟩:Nb))<|.br ((PK.PA p ev.en) !=0) (.ok<|Kg<|PK.PA p ev.en)<|.rz p.cs<|.rz p.ls<|.rz p.fl<|.rz p.ra<|.rz (if PK.isC p ev.en=U then CV p.gs p.st ev.en 6 1 0 else p.st)<|.rz p.ca<|.rz p.mi<|.rz p.me<|.rz p.dm<|.rz p.lk<|.rz p.dr<|.rz p.tg<|.ok<|.AM [.agg [AQ p.cs,p.os,p.ks,p.gs,p.bs,p.tk,p.up,AQ p.ls,p.se,.xl (.int aw)<|AQ p.fl,AQ p.ra,p.nx,AQ (if PK.isC p ev.en=U then CV p.gs p.st ev.en 6 1 0 else p.st),AQ p.ca,AQ p.mi,AQ p.me,AQ p.dm,AQ p.lk,.xl A7<|AQ p.dr,.xl A7<|AQ p.tg],.xl A7 ([]:List Int),(0:Int)])<|.br (ev.ek==(8:Int)) (.req h<|.rv (ev)<|.pa p<|.rl p.st<|.rl p.ca<|.rl p.mi<|.re i p.me<|.re j p.dm<|.re k p.lk<|.re l p.dr<|.re m p.tg<|.req (aiJ (⟨p,ev⟩:Mm))<|.br ((PK.Iz p ev.en ev.em) !=0) (.ok<|Kg<|PK.Iz p ev.en ev.em)<|.rz p.cs<|.rz p.ls<|.rz p.fl<|.rz p.ra<|.rz p.st<|.rz p.ca<|.rz p.mi<|.rz p.me<|.rz p.dm<|.rz p.lk<|.rz p.dr<|.rz (if PK.Iz p ev.en ev.em=1 then p.tg else p.tg.set ev.en.toNat ev.em)<|.ok<|.AM [.agg [AQ p.cs,p.os,p.ks,p.gs,p.bs,p.tk,p.up,AQ p.ls,p.se,.xl (.int aw)<|AQ p.fl,AQ p.ra,p.nx,AQ p.st,AQ p.ca,AQ p.mi,AQ p.me,AQ p.dm,AQ p.lk,.xl A7<|AQ p.dr,.xl A7<|AQ (if PK.Iz p ev.en ev.em=1 then p.tg else p.tg.set ev.en.toNat ev.em)],.xl A7 ([]:List Int),(0:Int)])<|.ok<|Kg 9):=AT
def WL:=vo (S:=aJB) func9 ep aRD (λargs lv h=>by
 refine ⟨?_⟩;unfold aJB at h;split at h
 ·split at h
  case h_2=>cases h
  rename_i p hp;obtain rfl:=WI hp;split at h
  case h_2=>cases h
  rename_i ev hev;obtain rfl:=asY hev;simp only [canL,canX];rw [arX];obtain ⟨hJ,rfl⟩:=h;obtain ⟨⟨hV,hR⟩,hK,hl⟩:=id hJ
  have hv:=QC.2 hV
  have hs:=DD.1 hV.site
  have hlb:=hJ.lb
  have D:iO ⟨p⟩:=hlb
  have hlk:=hlb.lk
  refine ⟨A0,λc=>?_,λ_=>?_⟩
  ·rw [hv] at c
   cases c
  refine ⟨λc1=>?_,λc1=>?_⟩
  ·have c1:ev.ek=1:=eq_of_beq c1
   obtain ⟨s1,s2⟩:=aBK hv c1;refine ⟨⟨D,rfl,rfl⟩,rfl,?_⟩
   repeat (refine ⟨DU,?_⟩)
   refine ⟨⟨hJ,rfl,rfl⟩,λc=>?_,λc=>?_⟩
   ·exact Pw
   ·have c:=Dj c
    repeat (refine ⟨MC,?_⟩)
    show _=_
    rw [(s2 c).1,(s2 c).2,s1,c];simp only [FQ];rw [show tkO p ev=_ from LH c,AD trivial]
  refine ⟨λc1=>?_,λc2=>?_⟩
  ·have c1:ev.ek=2:=eq_of_beq c1
   obtain ⟨s1,s2⟩:=aJu hv c1;refine ⟨⟨D,rfl,rfl⟩,rfl,?_⟩
   repeat (refine ⟨DU,?_⟩)
   refine ⟨⟨⟨hV.st,Zo,hV.ca,hV.mi,hV.dm⟩,rfl,rfl⟩,λc=>?_,λc=>?_⟩
   ·exact Pw
   ·have c:=Dj c
    repeat (refine ⟨DU,?_⟩)
    show _=_
    rw [(s2 c).1,(s2 c).2,s1,c];simp only [FQ];rw [show ad2 p ev=_ from LH c]
  refine ⟨λc1=>?_,λc3=>?_⟩
  ·have c1:ev.ek=3:=eq_of_beq c1
   obtain ⟨s1,s2⟩:=aJt hv c1;refine ⟨⟨D,rfl,rfl⟩,rfl,?_⟩
   repeat (refine ⟨DU,?_⟩)
   refine ⟨⟨⟨hV.st,Zo,hV.ca,hV.mi,hV.dm⟩,rfl,rfl⟩,λc=>?_,λc=>?_⟩
   ·exact Pw
   ·have c:=Dj c
    repeat (refine ⟨DU,?_⟩)
    show _=_
    rw [(s2 c).1,(s2 c).2,s1,c];simp only [FQ];rw [show ad5 p ev=_ from LH c]
  refine ⟨λc1=>?_,λc4=>?_⟩
  ·have c1:ev.ek=4:=eq_of_beq c1
   obtain ⟨s1,s2⟩:=aJs hv c1;refine ⟨⟨D,rfl,rfl⟩,rfl,?_⟩
   repeat (refine ⟨DU,?_⟩)
   refine ⟨⟨⟨Zo,hlk⟩,rfl,rfl⟩,λc=>?_,λc=>?_⟩
   ·exact Pw
   ·have c:=Dj c
    repeat (refine ⟨DU,?_⟩)
    show _=_
    rw [(s2 c).1,(s2 c).2,s1,c];simp only [FQ];rw [show adA p ev=_ from LH c]
  refine ⟨λc1=>?_,λc5=>?_⟩
  ·have c1:ev.ek=5:=eq_of_beq c1
   obtain ⟨s1,s2⟩:=aBI hv c1;refine ⟨⟨D,rfl,rfl⟩,rfl,?_⟩
   repeat (refine ⟨DU,?_⟩)
   refine ⟨⟨ak,rfl,rfl⟩,λc=>?_,λc=>?_⟩
   ·exact Pw
   ·have c:=Dj c
    repeat (refine ⟨DU,?_⟩)
    show _=_
    rw [(s2 c).1,(s2 c).2,s1,c];simp only [FQ];rw [show adB p ev=_ from LH c]
  refine ⟨λc1=>?_,λc6=>?_⟩
  ·have c1:ev.ek=6:=eq_of_beq c1
   obtain ⟨s1,s2⟩:=aJr hv c1;refine ⟨⟨D,rfl,rfl⟩,rfl,?_⟩
   repeat (refine ⟨DU,?_⟩)
   refine ⟨⟨⟨hR.fl.2.2,Zo⟩,rfl,rfl⟩,λc=>?_,λc=>?_⟩
   ·exact Pw
   ·have c:=Dj c
    repeat (refine ⟨DU,?_⟩)
    show _=_
    rw [(s2 c).1,(s2 c).2,s1,c];simp only [FQ];rw [show adJ p ev=_ from LH c]
  refine ⟨λc1=>?_,λc7=>?_⟩
  ·have c1:ev.ek=7:=eq_of_beq c1
   obtain ⟨s1,s2⟩:=aJq hv c1;refine ⟨⟨D,rfl,rfl⟩,rfl,?_⟩
   repeat (refine ⟨DU,?_⟩)
   refine ⟨⟨⟨hV.st,Zo⟩,rfl,rfl⟩,λc=>?_,λc=>?_⟩
   ·exact Pw
   ·have c:=Dj c
    have hc:p.isC ev.en=true:=by
     cases e:p.isC ev.en
     ·unfold PK.PA at c
      rw [AD e] at c;cases c
     ·rfl
    repeat (refine ⟨DU,?_⟩)
    show _=_
    rw [(s2 c).1,(s2 c).2,s1,c];simp only [FQ];rw [AD hc];rfl
  refine ⟨λc1=>?_,λc8=>?_⟩
  ·have c1:ev.ek=8:=eq_of_beq c1
   obtain ⟨s1,s2⟩:=aJp hv c1;refine ⟨⟨D,rfl,rfl⟩,rfl,?_⟩
   repeat (refine ⟨DU,?_⟩)
   refine ⟨⟨hV,rfl,rfl⟩,λc=>?_,λc=>?_⟩
   ·exact Pw
   ·have c:=Dj c
    repeat (refine ⟨DU,?_⟩)
    show _=_
    rw [(s2 c).1,(s2 c).2,s1,c];simp only [FQ];rw [AE Aa];rfl
  have e:=aJo (ev:=ev) hv ⟨CQ.1 c1,CQ.1 c2,CQ.1 c3,CQ.1 c4,CQ.1 c5,CQ.1 c6,CQ.1 c7,CQ.1 c8⟩
  show Kg _=_
  rw [(mh (by rw [e];decide)).1,(mh (by rw [e];decide)).2,e]
  rfl
 ·cases h)
structure Nj where
 (k0 k i HU:Int)
 HS:Value
 Vp:Int
 FP:Value
 ano:Int
 o:List Int
def ux (s:Nj):T (Rd Nj):=letI a:=(s.o.set s.i.toNat (255:Int));.br (an<|s.i<s.k) (.ik s.i (M s.o)<|.re (M s.o) a<|.nx {s with i:=AA<|s.i+1,o:=a})<|.rl s.o<|.so (.exit 0) s
def iI (s:Nj):Prop:=s.i=0/\s.k=(M s.o:Int)/\s.k<=4096
def jI (s:Nj):Prop:=0<=s.i/\s.i<=s.k/\s.o.take s.i.toNat=aq s.i.toNat 255/\s.k=(M s.o:Int)/\s.k<=4096
def sX (s:Nj):Nat:=(s.k-s.i).toNat
def abz (x:Ex) (s s':Nj):Prop:=True
def alq:∀s,iI s->jI s:=by
 rintro s ⟨h0,h2,h3⟩
 exact ⟨A0,A0,Fv,h2,h3⟩
theorem agx:Da jI sX abz ux:=by
 intro s hI;obtain ⟨h0,h1,hq,h2,h3⟩:=hI;refine AH (λc1=>?_) λc1=>trivial
 have c1:s.i<s.k:=A8
 rw [AI (x:=s.i+1)];refine ⟨⟨A8,A8,?_,A8,h3⟩,by simp only [sX];omega⟩
 rw [show (s.i+1).toNat=s.i.toNat+1 by omega,ZE A8,List.take_set_of_le<|Av _,hq,List.getElem_set_self,k6]
def Yx:AR Nj:=⟨1,43,[4,5,6,33,34],[],λs=>[.own 1 0,s.k0,.own 2 0,s.k,s.i],λs=>[⟨[s.HU,.v<|s.HS],37,.cl,X⟩,⟨[s.Vp,.v<|s.FP],37,.cl,X⟩,⟨[s.ano,.os 3 1 0<|M s.o],37,.cl,X⟩,bV 5 (.int aw) s.o],λv b=>⟨AK v 1,AK v 3,AK v 4,Aj b 0 0,Gl<|BB (CU b 0) 1,Aj b 1 0,Gl<|BB (CU b 1) 1,Aj b 2 0,Ab (.int aw) b 3⟩,ux,λs r=> {s with i:=r.i,o:=r.o},λs=>s,λ_ s=>s,[.exit 0],iI,jI,sX⟩
abbrev Ob:=Yx.run
abbrev aI3:=Yx.Aq
def Wf:List Bd:=[uq]
def azT:Ax:=kI Wf<|l0 Wf
def axi:Rq jI ux:=by
 intro s hI;refine ⟨λc1=>⟨?_,?_,?_,ak⟩,λc1=>⟨A9,ak⟩⟩
 all_goals ((obtain ⟨h0,h1,hq,h2,h3⟩:=hI;(try simp only [Ac] at c1);first|omega|exact ⟨rfl,AJ⟩))
def aQd:Yx.Ok:={}
def aOP:Yx.Pf (abz):=⟨alq,λs h=>rfl,agx,axi⟩
def apd:=s2 (b:=bN f89 0) aQd aOP Wf azT
theorem ar4:Rs iI aI3 Ob (λs:Nj=>aq s.k.toNat 255) (λx s' (v:List Int)=>x=.exit 0/\s'.o=v):=DJ aQd aOP (λs hI=>by
  obtain ⟨h0,h1,hq,h2,h3⟩:=hI;refine AH (λc1=>rfl) λc1=>⟨rfl,?_⟩
  have c1:s.k<=s.i:=A8
  rw [show s.i.toNat=s.k.toNat by omega,DS A0] at hq
  exact hq)
def aSU:List LV->T LV
 | [.v (Y J a),.v (Y J b)]=> .req (a=512/\b=4) (.ok<|.AM [.agg [(512:Int),.xl (.int aw) El],(0:Int)])
 |_=> .no
def JL (a b:Int):Nj:=(⟨0,(((AA<|a*b).toNat:Nat):Int),0,0,.slice aj 0 0,0,.slice aj 0 0,a,aq (AA<|a*b).toNat (0:Int)⟩:Nj)
def azS:Ax:=kI Wf<|la 5 func89 apd<|l0 Wf
def arR:M El=2048:=MC
def arS:BC [80,0,0,0,0] (aq (Int.toNat 2048) 255)=El:=by
 have h4:Cq 0=[0,0,0,0]:=Aa
 have hp:BN []=[]:=rfl
 unfold BC El DO;rw [h4,hp,List.drop_replicate,E7,Cm,wz]
 congr 1
def ait:=vo (S:=aSU) func65 Wf azS (λargs lv h=>by
 unfold aSU at h;split at h
 ·rename_i a b
  refine Ap (letI d:=Ob<|JL a b;letI e:=(FJ (0:Int) ([]:List Int));letI f:=AA<|a*b;letI g:=(BC ([(80:Int),(0:Int),(0:Int),(0:Int),(0:Int)]) d.o);letI i:=M d.o;.br (an<|a<1) (.br (((1:Int) !=0) ||(! e)) (.ok<|.AM [.agg [(0:Int),.xl (.int aw) ([]:List Int)],(1:Int)])<|.no /-copy to v -/)<|.br (an<|a>512) (.br (((1:Int) !=0) ||(! e)) (.ok<|.AM [.agg [(0:Int),.xl (.int aw) ([]:List Int)],(1:Int)])<|.no /-copy to v -/)<|.br (an<|b<1) (.br (((1:Int) !=0) ||(! e)) (.ok<|.AM [.agg [(0:Int),.xl (.int aw) ([]:List Int)],(1:Int)])<|.no /-copy to v -/)<|.req (a≠0)<|.br (an<|b>(AA<|(4096:Int).tdiv a)) (.br (((1:Int) !=0) ||(! e)) (.ok<|.AM [.agg [(0:Int),.xl (.int aw) ([]:List Int)],(1:Int)])<|.no /-copy to v -/)<|.req (0<=f/\f<=f/\1*f<=2^48/\f<2^63)<|.req (0=0/\f.toNat=M (aq f.toNat (0:Int)))<|.req (Yx.q<|JL a b)<|.br ((0:Int) !=0) (.ok<|.AM [.agg [(0:Int),.xl (.int aw) ([]:List Int)],(1:Int)])<|.req (0+i<=M d.o)<|.br (!(FJ a<|(d.o.drop 0).take i)) (.ok<|.AM [.agg [(0:Int),.xl (.int aw) ([]:List Int)],(1:Int)])<|.req (M d.o=M d.o/\M ([(80:Int),(0:Int),(0:Int),(0:Int),(0:Int)])<=M d.o)<|.req (0+i<=M g)<|.ok<|.AM [.agg [a,.xl (.int aw)<|(g.drop 0).take i],(0:Int)]) ?_;obtain ⟨⟨rfl,rfl⟩,rfl⟩:=h
  have hw:AA (512*4)=2048:=Aa
  have hk:(JL 512 4).k=2048:=MC
  have hl:M (JL 512 4).o=2048:=MC
  have hV:iI (JL 512 4):=⟨rfl,by rw [hk,hl];rfl,by rw [hk];decide⟩
  have q:aI3 (JL 512 4)=.exit 0/\(Ob<|JL 512 4).o=aq (JL 512 4).k.toNat 255:=ar4 _ hV
  rw [hk] at q
  have hL:M (Ob<|JL 512 4).o=2048:=by rw [q.2,Ce];rfl
  have hT:(((Ob<|JL 512 4).o).drop 0).take (M (Ob<|JL 512 4).o)=(Ob<|JL 512 4).o:=AJ
  have hJ:FJ 512 (Ob<|JL 512 4).o=true:=ML.2 ⟨NJ.2 (by rw [hL];decide),by rw [hL];decide,A0,A0,Aa⟩
  have hC:BC [80,0,0,0,0] (Ob<|JL 512 4).o=El:=by rw [q.2];exact arS
  rw [hw,hT,hJ,hC,hL]
  have hj:=arR
  refine ⟨λc=>FN,λ_=>⟨λc=>FN,λ_=>⟨λc=>FN,λ_=>⟨Aa,λc=>FN,λ_=>⟨Aa,by rw [Ce];decide,⟨hV,rfl,rfl⟩,λc=>FN,λ_=>⟨Aa,λc=>FN,λ_=>⟨⟨rfl,Aa⟩,by rw [hj];decide,?_⟩⟩⟩⟩⟩⟩⟩
  rfl
 ·cases h)
def aSl:List LV->T LV
 | []=> .ok (.AM [.agg [(512:Int),.xl (.int aw) El],(0:Int)])
 |_=> .no
def agj:List Bd:=[ait]
def uv:=vo (S:=aSl) func29 agj kN (λargs lv h=>by
 refine ⟨?_⟩;unfold aSl at h;split at h
 ·simp only [canL]
  obtain rfl:=h;exact ⟨A9,rfl⟩
 ·cases h)
structure PQ where
 agX:List Int
 e:Int
 l:List Int
 (m i:Int)
 B9:List Cd
 BV:List ByteArray
 Bz:List Ko
 B5:List Ch
 C0:List Ba
def aFE:=bN f12 0
def vC (s:PQ):T (Rd PQ):=
 .br (an<|s.i<s.m) (.ix s.i (M s.l)<|.br (!(inB (gi s.l s.i) (-200) 200)) (.so (.ret) {s with e:=(1:Int)})<|.nx {s with i:=AA<|s.i+1}) (.so (.exit 0) s)
def ij (s:PQ):Prop:=(s.i=0/\s.m=(M s.l:Int))/\s.m<=1000/\s.e=0
def Yb (s:PQ):Prop:=(0<=s.i/\s.m=(M s.l:Int))/\s.m<=1000/\s.e=0/\∀j:Nat,(j:Int)<s.i->inB (gi s.l j) (-200) 200=U
def tV (s:PQ):Nat:=(s.m-s.i).toNat
def aA0 (x:Ex) (s s':PQ):Prop:=(x=.exit 0/\s'.e=0/\s'.l.all (λx=>inB x (-200) 200)=U)\/(x=.ret/\s'.e=1/\s'.l.all (λx=>inB x (-200) 200)=X)
def ajD:∀s,ij s->Yb s:=by
 rintro s ⟨⟨h0,h1⟩,h2,h3⟩
 exact ⟨⟨A0,h1⟩,h2,h3,λj hj=>A0⟩
theorem ayl:Da Yb tV aA0 vC:=by
 intro s hI;obtain ⟨⟨h0,h1⟩,h2,h3,h4⟩:=hI
 have key:s.l.all (λx=>inB x (-200) 200)=D9 (M s.l) (λk=>inB (gi s.l k) (-200) 200):=(oA (f:=λx=>inB x (-200) 200)).symm
 refine AH (λc1=>AH (λc2=>?_) λc2=>?_) λc1=>?_
 ·have c1:s.i<s.m:=AX
  refine .inr ⟨rfl,rfl,?_⟩;rw [key];exact Oq s.i.toNat A0 A8
 ·have c1:s.i<s.m:=A8
  have c2:=(Hv _).mp c2
  rw [AI (x:=s.i+1)];refine ⟨⟨⟨A8,h1⟩,h2,h3,λj hj=>?_⟩,by simp only [tV];omega⟩
  by_cases e:(j:Int)<s.i
  ·exact h4 j e
  ·rw [show (j:Int)=s.i by grind]
   exact c2
 ·have c1:s.m<=s.i:=A8
  exact .inl ⟨rfl,h3,by rw [key];exact Di.2 λj hj=>h4 j A0⟩
def Ry:AR PQ:=⟨0,105,[1,2,4,5,27,28,29],[],λs=>[.xl A7 s.agX,.own 0 0,.own 1 0,s.e,.xl A7 s.l,s.m,s.i],λs=>[⟨[s.B9,s.BV,s.Bz,s.B5,s.C0],28,.cl,X⟩,zB],λv b=>⟨B4 A7 v 0,AK v 3,B4 A7 v 4,AK v 5,AK v 6,AF Ad b 0 0,AF .str b 0 1,AF Ah b 0 2,AF Ae b 0 3,AF Ai b 0 4⟩,vC,λs r=> {s with e:=r.e,i:=r.i},λs=>s,λ_ s=>s,[.ret,.exit 0],ij,Yb,tV⟩
abbrev WG:=Ry.run
abbrev dZ:=Ry.Aq
def awZ:Rq Yb vC:=by
 exact aL0
def Wz:List Bd:=[Oy,fZ,dt,uv,WD]
def uU:Ax:=kI Wz<|la 11 func36 T9<|la 6 func36 QP<|la 3 func64 Oj<|la 2 func35 NN<|la 1 func34 MP<|la 2 func43 LA<|la 9 func25 Cn<|l0 Wz
def aQR:Ry.Ok:={}
def aOk:Ry.Pf (aA0):=⟨ajD,λs h=>rfl,ayl,awZ⟩
def aq9:SA 0 aFE Ry:=s1 aQR aOk Wz uU
def aqV:Fi ij Yb aA0 dZ WG:=AR.fin aQR aOk
structure PO where
 (e n i:Int)
 B9:List Cd
 BV:List ByteArray
 Bz:List Ko
 B5:List Ch
 C0:List Ba
 rN:List Cd
 p1:List ByteArray
 p2:List Ko
 p3:List Ch
 p4:List Ba
 (p9 T0:List Int)
 ra:List Ra
 st:List St
 ca:List Le
 mi:List Mi
 me:List Me
 dm:List Dm
def aFD:=bN f12 1
def vB (s:PO):T (Rd PO):=letI a:=(X,((0:Int),((0:Int),(9:Int))));letI b:=((AA<|s.i+1),((0:Int),X));letI c:=(s.st++([((0:Int),((0:Int),((0:Int),X)))]));.br (an<|s.i<s.n) (.rb (M s.st) (M<|[((0:Int),((0:Int),((0:Int),X)))]) 32<|.rb (M s.me) (M<|[b]) 24<|.rb (M s.dm) (M<|[a]) 32<|.rl s.ra<|.re (M s.st+M ([((0:Int),((0:Int),((0:Int),X)))])) c<|.rl s.ca<|.rl s.mi<|.re (M s.me+M ([b])) (s.me++([b]))<|.re (M s.dm+M ([a])) (s.dm++([a]))<|.nx {s with i:=AA<|s.i+1,st:=c,me:=s.me++([b]),dm:=s.dm++([a])})<|.rl s.ra<|.rl s.st<|.rl s.ca<|.rl s.mi<|.rl s.me<|.rl s.dm<|.so (.exit 2) s
def ig (s:PO):Prop:=s.i=0/\(s.n<=1000/\0<=s.n)/\s.st=[]/\s.me=[]/\s.dm=[]
def Ya (s:PO):Prop:=(0<=s.i/\s.i<=s.n)/\(s.n<=1000/\0<=s.n)/\s.st=aq s.i.toNat (0,0,0,X)/\s.me=(FZ s.i.toNat).map (λk=>(k+1,0,X))/\s.dm=aq s.i.toNat (X,0,0,9)
def tU (s:PO):Nat:=(s.n-s.i).toNat
def aAh (x:Ex) (s s':PO):Prop:=x=.exit 2/\s'.st=aq s'.n.toNat (0,0,0,X)/\s'.me=(FZ s'.n.toNat).map (λk=>(k+1,0,X))/\s'.dm=aq s'.n.toNat (X,0,0,9)
def ajC:∀s,ig s->Ya s:=by
 rintro s ⟨h0,h1,h2,h3,h4⟩
 refine ⟨A0,h1,?_,?_,?_⟩
 ·simp_all
 ·rw [h3,h0];rfl
 ·simp_all
theorem ayk:Da Ya tU aAh vB:=by
 intro s hI;obtain ⟨⟨h0,h1⟩,h2,h3,h4,h5⟩:=hI;refine AH (λc1=>?_) λc1=>?_
 ·have c1:s.i<s.n:=A8
  rw [AI (x:=s.i+1)]
  have e:(s.i+1).toNat=s.i.toNat+1:=A0
  refine ⟨⟨⟨A8,A8⟩,h2,?_,?_,?_⟩,by simp only [tU];omega⟩
  ·show s.st++[_]=aq (s.i+1).toNat _
   rw [e,h3,k6]
  ·show s.me++[_]=(FZ (s.i+1).toNat).map _
   rw [e,h4,aDZ,Jw,CR h0];rfl
  ·show s.dm++[_]=aq (s.i+1).toNat _
   rw [e,h5,k6]
 ·have c1:s.n<=s.i:=A8
  have e:s.i=s.n:=A0
  rw [e] at h3 h4 h5;exact ⟨rfl,h3,h4,h5⟩
def Rx:AR PO:=⟨0,105,[2,4,5,11,63,64],[.ns 11 12 95 B3,.ns 11 15 98 BS,.ns 11 16 58 Ak],λs=>[.own 0 0,.own 1 0,s.e,.own 2 0,s.n,s.i],λs=>[⟨[s.B9,s.BV,s.Bz,s.B5,s.C0],28,.cl,X⟩,zB,⟨[s.rN,s.p1,s.p2,s.p3,s.p4,(0:Int),U,.v<|.slice aj 0 0,(512:Int),.xl (.int aw) s.p9,.os 3 2 0<|M s.ra,(1:Int),.os 4 4 0<|M s.st,.os 5 5 0<|M s.ca,.os 6 3 0<|M s.mi,.os 7 3 0<|M s.me,.os 8 4 0<|M s.dm,.v<|.slice aj 0 0,.xl A7 s.T0,.v<|.slice aj 0 0],48,.cl,X⟩,bV 130 Am s.ra,bV 95 B3 s.st,bV 56 AP s.ca,bV 110 B7 s.mi,bV 98 BS s.me,bV 58 Ak s.dm],λv b=>⟨AK v 2,AK v 4,AK v 5,AF Ad b 0 0,AF .str b 0 1,AF Ah b 0 2,AF Ae b 0 3,AF Ai b 0 4,AF Ad b 2 0,AF .str b 2 1,AF Ah b 2 2,AF Ae b 2 3,AF Ai b 2 4,AF (.int aw) b 2 9,AF A7 b 2 18,Ab Am b 3,Ab B3 b 4,Ab AP b 5,Ab B7 b 6,Ab BS b 7,Ab Ak b 8⟩,vB,λs r=> {s with i:=r.i,st:=r.st,me:=r.me,dm:=r.dm},λs=>s,λ_ s=>s,[.exit 2],ig,Ya,tU⟩
abbrev N8:=Rx.run
abbrev asy:=Rx.Aq
theorem awY:Rq Ya vB:=by
 intro s hI;refine ⟨λc1=>⟨?_,?_,?_,A9,?_,A9,A9,?_,?_,ak⟩,λc1=>⟨A9,A9,A9,A9,A9,A9,ak⟩⟩
 all_goals ((obtain ⟨⟨h0,h1⟩,h2,h3,h4,h5⟩:=hI;have l1:M s.st=s.i.toNat:=A8;have l2:M s.me=s.i.toNat:=(by rw [h4];simp [Oh]);have l3:M s.dm=s.i.toNat:=A8;simp only [Ac] at c1;first|(simp only [Bi,Bp];omega) |(simp only [BD,Bi,Bp,Ei];done) |exact ⟨rfl,AJ⟩))
def aQQ:Rx.Ok:={}
def aOj:Rx.Pf (aAh):=⟨ajC,λs h=>rfl,ayk,awY⟩
def aq7:SA 0 aFD Rx:=s1 aQQ aOj Wz uU
def aqU:Fi ig Ya aAh asy N8:=AR.fin aQQ aOj
structure PN where
 e:Int
 l:List Cd
 (n i:Int)
 rN:List Cd
 p1:List ByteArray
 p2:List Ko
 p3:List Ch
 p4:List Ba
 (p9 T0:List Int)
 ra:List Ra
 st:List St
 ca:List Le
 mi:List Mi
 me:List Me
 dm:List Dm
 tg:List Int
def aFC:=bN f12 2
def vA (s:PN):T (Rd PN):=letI a:=Al s.l s.i;.br (an<|s.i<s.n) (.ix s.i (M s.l)<|.rb (M s.tg) (M<|[a.2.2.1]) 8<|.rl s.ra<|.rl s.st<|.rl s.ca<|.rl s.mi<|.rl s.me<|.rl s.dm<|.re (M s.tg+M ([a.2.2.1])) (s.tg++([a.2.2.1]))<|.nx {s with i:=AA<|s.i+1,tg:=s.tg++([a.2.2.1])})<|.rl s.ra<|.rl s.st<|.rl s.ca<|.rl s.mi<|.rl s.me<|.rl s.dm<|.rl s.tg<|.so (.exit 4) s
def ic (s:PN):Prop:=s.i=0/\(s.n=(M s.l:Int)/\s.n<=1000)/\s.tg=[]
def YZ (s:PN):Prop:=(0<=s.i/\s.i<=s.n)/\(s.n=(M s.l:Int)/\s.n<=1000)/\s.tg=(s.l.take s.i.toNat).map (λc=>c.2.2.1)
def tS (s:PN):Nat:=(s.n-s.i).toNat
def aAg (x:Ex) (s s':PN):Prop:=x=.exit 4/\s'.tg=s'.l.map (λc=>c.2.2.1)
def aji:∀s,ic s->YZ s:=by
 rintro s ⟨h0,h1,h2⟩
 exact ⟨A0,h1,Fv⟩
theorem ayj:Da YZ tS aAg vA:=by
 intro s hI;obtain ⟨⟨h0,h1⟩,⟨h2,h3⟩,h4⟩:=hI;refine AH (λc1=>?_) λc1=>?_
 ·have c1:s.i<s.n:=A8
  rw [AI (x:=s.i+1)]
  have e:(s.i+1).toNat=s.i.toNat+1:=A0
  refine ⟨⟨⟨A8,A8⟩,⟨h2,h3⟩,?_⟩,by simp only [tS];omega⟩
  show s.tg++[_]=(s.l.take (s.i+1).toNat).map _
  have e2:Al s.l s.i=s.l[s.i.toNat]' A0:=by
   have:=cv (cs:=s.l) (k:=s.i.toNat) A0
   exact this
  rw [e,h4,ZE A0,Jw,e2];rfl
 ·have c1:s.n<=s.i:=A8
  refine ⟨rfl,?_⟩;rw [h4,DS A0]
def Rv:AR PN:=⟨0,105,[4,5,11,89,90,91],[.ns 11 19 3 A7],λs=>[.own 0 0,s.e,.own 1 0,s.l,s.n,s.i],λs=>[zB,⟨[s.rN,s.p1,s.p2,s.p3,s.p4,(0:Int),U,.v<|.slice aj 0 0,(512:Int),.xl (.int aw) s.p9,.os 2 2 0<|M s.ra,(1:Int),.os 3 4 0<|M s.st,.os 4 5 0<|M s.ca,.os 5 3 0<|M s.mi,.os 6 3 0<|M s.me,.os 7 4 0<|M s.dm,.v<|.slice aj 0 0,.xl A7 s.T0,.os 8 1 0<|M s.tg],48,.cl,X⟩,bV 130 Am s.ra,bV 95 B3 s.st,bV 56 AP s.ca,bV 110 B7 s.mi,bV 98 BS s.me,bV 58 Ak s.dm,bV 3 A7 s.tg],λv b=>⟨AK v 1,B4 Ad v 3,AK v 4,AK v 5,AF Ad b 1 0,AF .str b 1 1,AF Ah b 1 2,AF Ae b 1 3,AF Ai b 1 4,AF (.int aw) b 1 9,AF A7 b 1 18,Ab Am b 2,Ab B3 b 3,Ab AP b 4,Ab B7 b 5,Ab BS b 6,Ab Ak b 7,Ab A7 b 8⟩,vA,λs r=> {s with i:=r.i,tg:=r.tg},λs=>s,λ_ s=>s,[.exit 4],ic,YZ,tS⟩
abbrev bR:=Rv.run
abbrev asx:=Rv.Aq
theorem awX:Rq YZ vA:=by
 intro s hI;refine ⟨λc1=>⟨?_,?_,A9,A9,A9,A9,A9,A9,?_,ak⟩,λc1=>⟨A9,A9,A9,A9,A9,A9,A9,ak⟩⟩
 all_goals ((obtain ⟨⟨h0,h1⟩,⟨h2,h3⟩,h4⟩:=hI;have l1:M s.tg=s.i.toNat:=A8;simp only [Ac] at c1;first|omega|(simp only [Bi,Bp];omega) |(simp only [BD,Bi,Bp,Ei];done)))
def aQP:Rv.Ok:={}
def aOi:Rv.Pf (aAg):=⟨aji,λs h=>rfl,ayj,awX⟩
def aq6:SA 0 aFC Rv:=s1 aQP aOi Wz uU
def aqT:Fi ic YZ aAg asx bR:=AR.fin aQP aOi
structure O2 where
 (n i:Int)
 qe:List Cd
 b11:List ByteArray
 b12:List Ko
 b13:List Ch
 b14:List Ba
 (b19 aCa:List Int)
 b2:List Ra
 b3:List St
 b4:List Le
 b5:List Mi
 b6:List Me
 b7:List Dm
 b8:List Int
 p1:List ByteArray
 p2:List Ko
 p3:List Ch
 p4:List Ba
 T0:List Int
 Uq:List Cd
 mI:List Le
 mH:List Int
 mG:List Ra
 b15:List St
 b16:List Le
 o:List Mi
def w6 (s:O2):T (Rd O2):=letI a:=s.o.getD s.i.toNat<|Ty.dflt B7;.br (an<|s.i<s.n) (.ik s.i (M s.o)<|.req (M a.1<=100000000)<|.ik s.i (M s.o)<|.rl s.b2<|.rl s.b3<|.rl s.b4<|.rl s.b5<|.rl s.b6<|.rl s.b7<|.rl s.b8<|.rl s.Uq<|.rl s.mI<|.rl s.mH<|.rl s.mG<|.rl s.b15<|.rl s.b16<|.re (M s.o) (s.o.set s.i.toNat a)<|.rl s.b6<|.rl s.b7<|.rl s.b8<|.nx {s with i:=AA<|s.i+1,o:=s.o.set s.i.toNat a})<|.rl s.b2<|.rl s.b3<|.rl s.b4<|.rl s.b5<|.rl s.b6<|.rl s.b7<|.rl s.b8<|.rl s.Uq<|.rl s.mI<|.rl s.mH<|.rl s.mG<|.rl s.b15<|.rl s.b16<|.rl s.o<|.rl s.b6<|.rl s.b7<|.rl s.b8<|.so (.exit 0) s
def ib (s:O2):Prop:=s.i=0/\s.n=(M s.o:Int)/\s.n<=1000/\∀m∈s.o,M m.1<=1000
def j9 (s:O2):Prop:=0<=s.i/\s.i<=s.n/\s.n=(M s.o:Int)/\s.n<=1000/\∀m∈s.o,M m.1<=1000
def tR (s:O2):Nat:=(s.n-s.i).toNat
def acd (x:Ex) (s s':O2):Prop:=True
def ajh:∀s,ib s->j9 s:=by
 exact aMR
theorem ayi:Da j9 tR acd w6:=by
 intro s hI;obtain ⟨h0,h1,h2,h3,h4⟩:=hI;refine AH (λc1=>?_) λc1=>trivial
 ·have c1:s.i<s.n:=A8
  have e:=set_self (l:=s.o) (i:=s.i.toNat) (d:=Ty.dflt B7) A0
  rw [AI (x:=s.i+1),e];exact ⟨⟨A8,A8,h2,h3,h4⟩,by simp only [tR];omega⟩
def Tq:AR O2:=⟨9,82,[1,2,44,45],[],λs=>[.own 9 0,.own 10 0,s.n,s.i],λs=>[zB,⟨[s.qe,s.b11,s.b12,s.b13,s.b14,(0:Int),U,.v<|.slice aj 0 0,(512:Int),.xl (.int aw) s.b19,.os 2 2 0<|M s.b2,(1:Int),.os 3 4 0<|M s.b3,.os 4 5 0<|M s.b4,.os 5 3 0<|M s.b5,.os 6 3 0<|M s.b6,.os 7 4 0<|M s.b7,.v<|.slice aj 0 0,.xl A7 s.aCa,.os 8 1 0<|M s.b8],48,.cl,X⟩,bV 130 Am s.b2,bV 95 B3 s.b3,bV 56 AP s.b4,bV 110 B7 s.b5,bV 98 BS s.b6,bV 58 Ak s.b7,bV 3 A7 s.b8,⟨[.os 11 11 0<|M s.Uq,s.p1,s.p2,s.p3,s.p4,(0:Int),U,.os 12 5 0<|M s.mI,(512:Int),.os 13 1 0<|M s.mH,.os 14 2 0<|M s.mG,(1:Int),.os 15 4 0<|M s.b15,.os 16 5 0<|M s.b16,.os 17 3 0<|M s.o,.os 6 3 0<|M s.b6,.os 7 4 0<|M s.b7,.v<|.slice aj 0 0,.xl A7 s.T0,.os 8 1 0<|M s.b8],48,.cl,X⟩,zB,bV 73 Ad s.Uq,bV 104 AP s.mI,bV 5 (.int aw) s.mH,bV 130 Am s.mG,bV 95 B3 s.b15,bV 56 AP s.b16,bV 110 B7 s.o],λv b=>⟨AK v 2,AK v 3,AF Ad b 1 0,AF .str b 1 1,AF Ah b 1 2,AF Ae b 1 3,AF Ai b 1 4,AF (.int aw) b 1 9,AF A7 b 1 18,Ab Am b 2,Ab B3 b 3,Ab AP b 4,Ab B7 b 5,Ab BS b 6,Ab Ak b 7,Ab A7 b 8,AF .str b 9 1,AF Ah b 9 2,AF Ae b 9 3,AF Ai b 9 4,AF A7 b 9 18,Ab Ad b 11,Ab AP b 12,Ab (.int aw) b 13,Ab Am b 14,Ab B3 b 15,Ab AP b 16,Ab B7 b 17⟩,w6,λs r=> {s with i:=r.i,o:=r.o},λs=>s,λ_ s=>s,[.exit 0],ib,j9,tR⟩
abbrev oJ:=Tq.run
abbrev asw:=Tq.Aq
def u6:List Bd:=[Oy,fZ,dt,uv,WD,aa7]
def azE:Ax:=kI u6<|la 11 func36 T9<|la 6 func36 QP<|la 3 func64 Oj<|la 2 func35 NN<|la 1 func34 MP<|la 2 func43 LA<|la 9 func25 Cn<|l0 u6
def awW:Rq j9 w6:=by
 intro s hI;refine ⟨λc1=>⟨?_,?_,?_,?_,?_,A9,A9,A9,A9,A9,A9,A9,A9,A9,A9,A9,A9,A9,?_,A9,A9,A9,ak⟩,λc1=>⟨A9,A9,A9,A9,A9,A9,A9,A9,A9,A9,A9,A9,A9,A9,A9,A9,A9,ak⟩⟩
 all_goals ((obtain ⟨h0,h1,h2,h3,h4⟩:=hI;(try simp only [Ac] at c1);first|omega|exact ⟨rfl,AJ⟩ |exact ⟨rfl,rfl⟩ |exact HP (h4 _<|getD_mem A0) Aa))
def aQO:Tq.Ok:={}
def aOh:Tq.Pf (acd):=⟨ajh,λs h=>rfl,ayi,awW⟩
def aGH:=s2 (b:=bN f25 0) aQO aOh u6 azE
theorem aqS:Rs ib asw oJ (λs:O2=>s.o) (λx s' (v:List Mi)=>x=.exit 0/\s'.o=v):=DJ aQO aOh (λs hI=>by
  obtain ⟨h0,h1,h2,h3,h4⟩:=hI;refine AH (λc1=>?_) λc1=>⟨rfl,rfl⟩
  have c1:s.i<s.n:=A8
  have e:=set_self (l:=s.o) (i:=s.i.toNat) (d:=Ty.dflt B7) A0
  rw [e];exact rfl)
def aSL:List LV->T LV
 | .agg a::r=>s5 a λcs os ks gs bs=>(match r with
  | [.xl (.int J) dr]=> .req (M dr<=1000) (.ok<|.AM [newP cs os ks gs bs dr,DI cs os ks gs bs dr])
  |_=> .no)
 |_=> .no
def Fe {α:Type}(d:α) (l:List α):List α:=BC (AQ l)<|aq (M l:Int).toNat d
def aRe {α:Type}(d:α) (l:List α):Fe d l=l:=by
 unfold Fe;rw [FQ];exact QO
def cpX {α:Type}(d:α) (l:List α):List α:=BC l<|aq (M l:Int).toNat d
def ahf {α:Type}(d:α) (l:List α):cpX d l=l:=QO
def cpN {α:Type}(d:α):List α:=BC []<|aq (0:Int).toNat d
def ahg {α:Type}(d:α):cpN d=[]:=rfl
def EC {α:Type}(gs:List Ch) (d:α):List α:=aq (M gs:Int).toNat d
theorem pC {α:Type}(gs:List Ch) (d:α):EC gs d=aq (M gs) d:=by
 unfold EC
 grind
def zNV (e:Int):LV:=.AM [.agg [.xl Ad ([]:List Cd),.xl .str ([]:List ByteArray),.xl Ah ([]:List Ko),.xl Ae ([]:List Ch),.xl Ai ([]:List Ba),.v<|Y J 0,.v<|.bool X,.xl AP ([]:List Le),.v<|Y J 0,.xl (.int aw) ([]:List Int),.xl Am ([]:List Ra),.v<|Y J 0,.xl B3 ([]:List St),.xl AP ([]:List Le),.xl B7 ([]:List Mi),.xl BS ([]:List Me),.xl Ak ([]:List Dm),.xl BM ([]:List Lk),.xl A7 ([]:List Int),.xl A7 ([]:List Int)],.v<|Y J e]
def mJ:Cd:=(ByteArray.empty,((0:Int),((0:Int),((0:Int),(((0:Int),(0:Int)),((0:Int),((0:Int),((0:Int),((0:Int),(0:Int))))))))))
def JT:Le:=((0:Int),((0:Int),((0:Int),((0:Int),(0:Int)))))
def NX:Ra:=((0:Int),(0:Int))
def aTd:St:=((0:Int),((0:Int),((0:Int),X)))
def aKH:Me:=((0:Int),((0:Int),X))
def aKJ:Dm:=(X,((0:Int),((0:Int),(0:Int))))
def KK:Mi:=(([]:List Int),((0:Int),(0:Int)))
def Pd:Int:=(0:Int)
def aKI:Lk:=((0:Int),((0:Int),((0:Int),((0:Int),((0:Int),(0:Int))))))
def Q8 (cs:List Cd) (os:List ByteArray) (ks:List Ko) (gs:List Ch) (bs:List Ba) (dr:List Int):PQ:=(⟨dr,0,dr,(M dr:Int),0,cs,os,ks,gs,bs⟩:PQ)
def MD (cs:List Cd) (os:List ByteArray) (ks:List Ko) (gs:List Ch) (bs:List Ba) (dr:List Int):PO:=(⟨(WG<|Q8 cs os ks gs bs dr).e,(M gs:Int),0,cs,os,ks,gs,bs,cs,os,ks,gs,bs,El,dr,EC gs NX,([]:List St),EC gs JT,EC gs KK,([]:List Me),([]:List Dm)⟩:PO)
def VU (cs:List Cd) (os:List ByteArray) (ks:List Ko) (gs:List Ch) (bs:List Ba) (dr:List Int):PN:=letI a:=N8<|MD cs os ks gs bs dr;(⟨(WG<|Q8 cs os ks gs bs dr).e,cs,(M cs:Int),0,cs,os,ks,gs,bs,El,dr,EC gs NX,a.st,EC gs JT,EC gs KK,a.me,a.dm,([]:List Int)⟩:PN)
def nH (cs:List Cd) (os:List ByteArray) (ks:List Ko) (gs:List Ch) (bs:List Ba) (dr:List Int):O2:=letI a:=N8<|MD cs os ks gs bs dr;(⟨((((M (EC gs KK):Nat):Int).toNat:Nat):Int),0,cs,os,ks,gs,bs,El,dr,EC gs NX,a.st,EC gs JT,EC gs KK,a.me,a.dm,(bR<|VU cs os ks gs bs dr).tg,os,ks,gs,bs,dr,cpX mJ cs,cpN JT,cpX Pd El,Fe NX<|EC gs NX,Fe aTd a.st,Fe JT<|EC gs JT,Fe KK<|EC gs KK⟩:O2)
def u0:List Bd:=[Oy,fZ,dt,uv,WD]
def azD:Ax:=kI u0<|la 9 func25 aGH<|la 11 func36 T9<|la 6 func36 QP<|la 3 func64 Oj<|la 2 func35 NN<|la 1 func34 MP<|la 2 func43 LA<|la 9 func25 Cn<|l0 u0
def um:=vm (S:=aSL) func12 u0 azD (L:=(λi=>if i=4 then Ry.lp else if i=17 then Rx.lp else if i=24 then Rv.lp else Ag i)) (λb hb=>by
 rw [show BA _=[aFE,aFD,aFC] by kernel_rfl] at hb
 simp only [B8,Bu,Bt] at hb;rcases hb with rfl|rfl|rfl
 ·exact aq9
 ·exact aq7
 ·exact aq6) (λargs lv h=>by
 unfold aSL at h;split at h
 case h_2=>cases h
 replace h:=HX h
 obtain ⟨cs,os,ks,gs,bs,rfl,h⟩:=h;split at h
 ·rename_i dr
  refine Ap (letI a:=N8<|MD cs os ks gs bs dr;letI b:=bR<|VU cs os ks gs bs dr;letI d:=EC gs NX;letI f:=EC gs JT;letI g:=(M gs:Int);letI j:=((M a.me:Nat):Int);letI l:=((M a.dm:Nat):Int);letI n:=((M b.tg:Nat):Int);letI p:=EC gs KK;letI r:=(M dr:Int);letI s:=((M a.st:Nat):Int);letI t:=((M d:Nat):Int);letI u:=((M f:Nat):Int);letI v:=((M p:Nat):Int);letI w:=Q8 cs os ks gs bs dr;letI y:=nH cs os ks gs bs dr;letI z:=(M cs:Int);letI A:=(M El:Int);letI B:=(M ([]:List Le));letI C:=Fe aTd a.st;.br ((!(BI cs os ks gs bs)) ||(r !=g)) (.ok<|zNV 1)<|.req (Ry.q w)<|.br (Bj (dZ w)<|.ret) (.ok<|.AM [.agg [.xl Ad ([]:List Cd),.xl .str ([]:List ByteArray),.xl Ah ([]:List Ko),.xl Ae ([]:List Ch),.xl Ai ([]:List Ba),(0:Int),X,.xl AP ([]:List Le),(0:Int),.xl (.int aw) ([]:List Int),.xl Am ([]:List Ra),(0:Int),.xl B3 ([]:List St),.xl AP ([]:List Le),.xl B7 ([]:List Mi),.xl BS ([]:List Me),.xl Ak ([]:List Dm),.xl BM ([]:List Lk),.xl A7 ([]:List Int),.xl A7 ([]:List Int)],(WG w).e])<|.req (BI cs os ks gs bs=U)<|.br (!II cs gs (BP gs)) (.ok<|zNV 13)<|.br ((0:Int) !=0) (.ok<|zNV 0)<|.rm 16 g<|.rm 40 g<|.rm 40 g<|.re g.toNat d<|.r0 St<|.re g.toNat f<|.re g.toNat p<|.r0 Me<|.r0 Dm<|.req (Rx.q<|MD cs os ks gs bs dr)<|.rl d<|.rl a.st<|.rl f<|.rl p<|.rl a.me<|.rl a.dm<|.r0 Int<|.req (Rv.q<|VU cs os ks gs bs dr)<|.rm 96 z<|.rc z (ByteArray.empty,((0:Int),((0:Int),((0:Int),(((0:Int),(0:Int)),((0:Int),((0:Int),((0:Int),((0:Int),(0:Int)))))))))) (M cs)<|.rm 40 (0:Int)<|.rc (0:Int) ((0:Int),((0:Int),((0:Int),((0:Int),(0:Int))))) B<|.rm 1 A<|.rc A (0:Int) (M El)<|.rm 16 t<|.rz d<|.rc t ((0:Int),(0:Int)) (M<|AQ d)<|.rm 32 s<|.rz a.st<|.rc s ((0:Int),((0:Int),((0:Int),X))) (M<|AQ a.st)<|.rm 40 u<|.rz f<|.rc u ((0:Int),((0:Int),((0:Int),((0:Int),(0:Int))))) (M<|AQ f)<|.rm 40 v<|.rz p<|.rc v (([]:List Int),((0:Int),(0:Int))) (M<|AQ p)<|.rl d<|.rl a.st<|.rl f<|.rl p<|.rl a.me<|.rl a.dm<|.rl b.tg<|.re z.toNat (cpX mJ cs)<|.re (0:Int).toNat (cpN JT)<|.re A.toNat (cpX Pd El)<|.re t.toNat (Fe NX d)<|.re s.toNat C<|.re u.toNat (Fe JT f)<|.re v.toNat (Fe KK p)<|.rl a.me<|.rl a.dm<|.rl b.tg<|.req (Tq.q y)<|.rm 24 j<|.rz a.me<|.rc j ((0:Int),((0:Int),X)) (M<|AQ a.me)<|.rm 32 l<|.rz a.dm<|.rc l (X,((0:Int),((0:Int),(0:Int)))) (M<|AQ a.dm)<|.rm 48 (0:Int)<|.rc (0:Int) ((0:Int),((0:Int),((0:Int),((0:Int),((0:Int),(0:Int)))))) B<|.rm 8 r<|.rc r (0:Int) (M dr)<|.rm 8 n<|.rz b.tg<|.rc n (0:Int) (M<|AQ b.tg)<|.rz (cpX mJ cs)<|.rz (cpN JT)<|.rz (cpX Pd El)<|.rz (Fe NX d)<|.rz C<|.rz (Fe JT f)<|.rz (oJ y).o<|.req (0+j.toNat<=M (Fe aKH a.me))<|.req (0+l.toNat<=M (Fe aKJ a.dm))<|.req (0+(0:Int).toNat<=M (cpN aKI))<|.req (0+r.toNat<=M (cpX Pd dr))<|.req (0+n.toNat<=M (Fe Pd b.tg))<|.ok<|.AM [.agg [(AQ<|cpX mJ cs),os,ks,gs,bs,(0:Int),U,(AQ<|cpN JT),(512:Int),.xl (.int aw)<|AQ<|cpX Pd El,(AQ<|Fe NX d),(1:Int),(AQ C),(AQ<|Fe JT f),(AQ (oJ y).o),(((Fe aKH a.me).drop 0).take j.toNat),(((Fe aKJ a.dm).drop 0).take l.toNat),(((cpN aKI).drop 0).take (0:Int).toNat),.xl A7<|((cpX Pd dr).drop 0).take r.toNat,.xl A7<|((Fe Pd b.tg).drop 0).take n.toNat],(0:Int)]) ?_;obtain ⟨hn,rfl⟩:=h
  have A1:ij (Q8 cs os ks gs bs dr):=⟨⟨rfl,rfl⟩,by show (M dr:Int)<=1000;omega,rfl⟩
  obtain ⟨_,_,q1⟩:=aqV _ A1
  have q1:(dZ (Q8 cs os ks gs bs dr)=.exit 0/\(WG<|Q8 cs os ks gs bs dr).e=0/\dr.all (λx=>inB x (-200) 200)=U)\/(dZ (Q8 cs os ks gs bs dr)=.ret/\(WG<|Q8 cs os ks gs bs dr).e=1/\dr.all (λx=>inB x (-200) 200)=X):=q1
  have bad:∀ {e:Int},DI cs os ks gs bs dr=e->e≠0->newP cs os ks gs bs dr=PK0:=λh1 h2=>AD (by rw [h1];exact h2)
  have hb:((!BI cs os ks gs bs) ||((M dr:Int) !=(M gs:Int)))=U↔(BI cs os ks gs bs=X\/M dr≠M gs):=by simp [Int.natCast_inj]
  refine ⟨λc=>?_,λc=>⟨⟨A1,rfl,rfl⟩,λc2=>?_,λc2=>?_⟩⟩
  ·have he:DI cs os ks gs bs dr=1:=AD (hb.1 c)
   show zNV 1=_
   exact xo
  all_goals have hc:¬(BI cs os ks gs bs=X\/M dr≠M gs):=λh=>(by rw [hb.2 h] at c;cases c)
  ·rcases q1 with ⟨x1,_⟩ |⟨x1,x2,x3⟩
   ·rw [x1] at c2
    cases c2
   ·have he:DI cs os ks gs bs dr=1:=(AE hc).trans (AD x3)
    rw [x2]
    show zNV 1=_
    exact xo
  rcases q1 with ⟨x1,x2,x3⟩ |⟨x1,x2,x3⟩
  rotate_left
  ·rw [x1] at c2
   cases c2
  have hs:BI cs os ks gs bs=true:=by
   cases e:BI cs os ks gs bs
   ·exact absurd (.inl e) hc
   ·rfl
  have hd:M dr=M gs:=ZG λh=>hc<|.inr h
  have hg:=DD.1 hs
  refine ⟨hs,λc3=>?_,λc3=>⟨λc4=>(by cases c4),λ_=>?_⟩⟩
  ·have he:DI cs os ks gs bs dr=13:=(AE hc).trans ((AE (by rw [x3];decide)).trans<|AD<|(Ct _).mp c3)
   show zNV 13=_
   exact xo
  have he:DI cs os ks gs bs dr=0:=(AE hc).trans<|(AE (by rw [x3];decide)).trans<|AE (by rw [(Hv _).mp c3];decide)
  have hp:newP cs os ks gs bs dr=_:=AE MB
  have A2:ig (MD cs os ks gs bs dr):=⟨rfl,⟨aNe,Po _⟩,rfl,rfl,rfl⟩
  obtain ⟨_,_,_,y1,y2,y3⟩:=aqU _ A2
  have y1:(N8<|MD cs os ks gs bs dr).st=aq (M gs) (0,0,0,X):=y1
  have y2:(N8<|MD cs os ks gs bs dr).me=(FZ<|M gs).map (λk=>(k+1,0,X)):=y2
  have y3:(N8<|MD cs os ks gs bs dr).dm=aq (M gs) (X,0,0,9):=y3
  have A3:ic (VU cs os ks gs bs dr):=⟨rfl,⟨rfl,aNf⟩,rfl⟩
  obtain ⟨_,_,_,y4⟩:=aqT _ A3
  have y4:(bR<|VU cs os ks gs bs dr).tg=cs.map (λc=>c.2.2.1):=y4
  have hj:M El=2048:=rfl
  have l1:M (EC gs NX)=M gs:=yZ
  have l2:M (EC gs JT)=M gs:=yZ
  have l3:M (EC gs KK)=M gs:=yZ
  have l4:M (N8<|MD cs os ks gs bs dr).st=M gs:=by rw [y1,Ce]
  have l5:M (N8<|MD cs os ks gs bs dr).me=M gs:=by rw [y2,Ft,Oh]
  have l6:M (N8<|MD cs os ks gs bs dr).dm=M gs:=by rw [y3,Ce]
  have l7:M (bR<|VU cs os ks gs bs dr).tg=M cs:=by rw [y4,Ft]
  have ho:(nH cs os ks gs bs dr).o=EC gs KK:=aRe _ _
  have A4:ib (nH cs os ks gs bs dr):=⟨rfl,by rw [ho];show ((((M (EC gs KK):Nat):Int).toNat:Nat):Int)=_;rw [C3],by show ((((M (EC gs KK):Nat):Int).toNat:Nat):Int)<=1000;rw [C3,l3];omega,by
   rw [ho,pC];intro m hm;rw [(SR.1 hm).2]
   decide⟩
  have y5:(oJ<|nH cs os ks gs bs dr).o=EC gs KK:=(aqS _ A4).2.trans ho
  simp only [aRe,ahf,ahg,FQ,y5,l1,l2,l3]
  repeat (refine ⟨l8,?_⟩)
  refine ⟨⟨A2,rfl,rfl⟩,?_⟩
  repeat (refine ⟨l8,?_⟩)
  refine ⟨⟨A3,rfl,rfl⟩,?_⟩
  repeat (refine ⟨l8,?_⟩)
  refine ⟨⟨A4,rfl,rfl⟩,?_⟩
  repeat (refine ⟨l8,?_⟩)
  show _=_
  rw [hp,he,y1,y2,y3,y4];simp only [pC,C3,CP,E6];rfl
 ·cases h)
def BZ:EV:=⟨1,0,0,(0,0,0,0,0),(X,0,0,0)⟩
def Bo:Nat->PK->Int->PK×Int×Bool
 |0,p,l=>(p,l,U)
 |n+1,p,l=>if BJ p BZ=0/\M (Bc p BZ)=M (BO p BZ).ca then Bo n (BO p BZ) (if M (Bc p BZ)>0 then gi (Bc p BZ) 0 else l) else (p,l,X)
def aBG (a:QV×Int):Option (QV×Int):=
 if (Dz a.1.p&&(!(a.1.p.tk==1000000)&&(a.1.tick.ok&&(M a.1.Is==M a.1.tick.p.ca&&an (M a.1.Is>0)))))=U then ah (a.1.tick,gi a.1.Is 0) else aj
def E5:Nat->QV×Int->Option (QV×Int)
 |0,a=>ah a
 |n+1,a=>(aBG a).bind<|E5 n
def aol {m n:Nat}:∀ {a:QV×Int},E5 (m+n) a=(E5 m a).bind (E5 n):=by
 induction m with
 |zero=>intro a;rw [EK];rfl
 |succ m ih=>
  intro a;rw [Nat.succ_add];simp only [E5];cases aBG a with
  |none=>rfl
  |some b=>exact ih
def MN {m n:Nat}{a b c:QV×Int}(h1:E5 m a=ah b) (h2:E5 n b=ah c):E5 (m+n) a=ah c:=by rw [aol,h1];exact h2
def pe {p:PK}{q:QV}(h:RP p q):Dz q.p=Dz p:=by rw [h.1];rfl
theorem oL {n:Nat}:∀ {p:PK}{q:QV}{l:Int}{b:QV×Int},RP p q->E5 n (q,l)=ah b->∃p',Bo n p l=(p',b.2,U)/\RP p' b.1:=by
 induction n with
 |zero=>
  intro p q l b h hq;simp only [E5,Af] at hq;subst hq;exact ⟨p,rfl,h⟩
 | succ n ih=>
  intro p q l b h hq;simp only [E5] at hq;unfold aBG at hq;split at hq
  ·rename_i hc
   simp only [AY,Cz,Ct,CQ,Ac] at hc;obtain ⟨c1,c2,c3,c4,c5⟩:=hc;obtain ⟨h1,h2⟩:=ag2 h c3
   have ek:q.p.tk=p.tk:=by rw [h.1]
   have e1:BJ p BZ=0:=by
    unfold BJ;rw [<-pe h,c1,AE Aa,AD (show BZ.ek=1 from rfl)];unfold PK.Ir;omega
   have e2:BO p BZ=p.F6:=yQ
   have e3:Bc p BZ=p.Is:=aO3
   have e4:M q.tick.p.ca=M p.F6.ca:=by rw [h1.1]
   obtain ⟨p',k1,k2⟩:=ih h1 hq;refine ⟨p',?_,k2⟩;simp only [Bo]
   grind
  ·cases hq
def bC (n:Int):List Cd:=[(av #[102],-1,n,32,(0,0),0,0,0,0,0)]
def bG:List Ch:=[(av #[112],0,1,6,32,1,6,0)]
def bO:List ByteArray:=[av #[111]]
def bA:Ca:=(0,1,20,1000000000,0)
def bD:Dm:=(U,0,500,1)
def bQ (tk:Int) (up:Bool) (ls:List Le) (ra:List Ra) (nx:Int) (st:List St) (ca:List Ca) (mi:List Mi) (me:List Me) (dm:List Dm) (lk:List Lk) (vl:List Le):QV:=
 ⟨⟨bC 32,bO,[],bG,[],tk,up,ls,0,[],ra,nx,st,ca,mi,me,dm,lk,[0],[32]⟩,vl,U⟩
def hqa:QV:=bQ 0 U [] [(0,0)] 1 [(0,0,0,X)] [(0,0,0,0,0)] [([],0,0)] [(1,0,X)] [(X,0,0,9)] [] []
def hqb:QV:=bQ 1 U [] [(0,1)] 1 [(0,0,0,X)] [(0,0,0,0,0)] [([],0,0)] [(1,0,X)] [(X,0,0,9)] [] []
def ajA:E5 1 (hqa,0)=ah (hqb,0):=AT
def hqc:QV:=bQ 1 U [] [(0,1)] 1 [(4,0,0,X)] [(0,1,20,1000000000,0)] [([],0,0)] [(1,0,X)] [(U,0,500,1)] [] []
def hqd:QV:=bQ 2 U [] [(0,2)] 1 [(4,0,0,X)] [(0,1,20,1000000000,0)] [([6],1,13800)] [(1,13800,X)] [(U,0,500,1)] [] []
def aj9:E5 1 (hqc,0)=ah (hqd,6):=AT
def aKB:QV:=bQ 8 U [(1,0,7,6,12),(2,0,8,7,12)] [(8,2)] 3 [(4,0,0,X)] [(0,1,20,1000000000,0)] [([6,6,6,6,6,6,6],7,96600)] [(1,96600,X)] [(U,0,500,1)] [(8,(1,0,7,6,12)),(11,(2,0,8,7,12))] [(1,0,7,6,12),(2,0,8,7,12)]
def avw:E5 6 (hqd,0)=ah (aKB,6):=AT
def aKA:QV:=bQ 14 U [(1,0,7,6,12),(2,0,8,7,12),(3,0,9,8,12),(4,0,10,9,12),(5,0,11,10,12),(6,0,12,11,12),(7,0,13,12,12),(8,0,14,13,12)] [(14,8)] 9 [(4,12,11,X)] [(0,1,20,1000000000,0)] [([6,6,6,6,6,6,6,7,9,11,8,10,12],13,227700)] [(1,227700,X)] [(U,0,500,1)] [(16,(7,0,13,12,12)),(14,(8,0,14,13,12))] [(1,0,7,6,12),(2,0,8,7,12),(3,0,9,8,12),(4,0,10,9,12),(5,0,11,10,12),(6,0,12,11,12),(7,0,13,12,12),(8,0,14,13,12)]
def avv:E5 6 (aKB,6)=ah (aKA,12):=AT
def aK9:QV:=bQ 20 U [(1,0,7,6,12),(2,0,8,7,12),(3,0,9,8,12),(4,0,10,9,12),(5,0,11,10,12),(6,0,12,11,12),(7,0,13,12,12),(8,0,14,13,12),(9,0,15,14,12),(10,0,16,15,12),(11,0,17,16,12),(12,0,18,17,12),(13,0,19,18,12),(14,0,20,19,12)] [(20,14)] 15 [(4,19,11,X)] [(0,1,20,1000000000,0)] [([6,6,6,6,6,6,6,7,9,11,8,10,12,14,16,13,15,17,19],19,443900)] [(1,443900,X)] [(U,0,500,1)] [(21,(12,0,18,17,12)),(22,(14,0,20,19,12))] [(1,0,7,6,12),(2,0,8,7,12),(3,0,9,8,12),(4,0,10,9,12),(5,0,11,10,12),(6,0,12,11,12),(7,0,13,12,12),(8,0,14,13,12),(9,0,15,14,12),(10,0,16,15,12),(11,0,17,16,12),(12,0,18,17,12),(13,0,19,18,12),(14,0,20,19,12)]
def avu:E5 6 (aKA,12)=ah (aK9,19):=AT
def aK8:QV:=bQ 26 U [(1,0,7,6,12),(2,0,8,7,12),(3,0,9,8,12),(4,0,10,9,12),(5,0,11,10,12),(6,0,12,11,12),(7,0,13,12,12),(8,0,14,13,12),(9,0,15,14,12),(10,0,16,15,12),(11,0,17,16,12),(12,0,18,17,12),(13,0,19,18,12),(14,0,20,19,12),(15,0,21,20,12),(16,0,22,21,12),(17,0,23,22,12),(18,0,24,23,12),(19,0,25,24,12),(20,0,26,25,12)] [(26,20)] 21 [(4,26,11,X)] [(0,1,20,1000000000,0)] [([6,6,6,7,9,11,8,10,12,14,16,13,15,17,19,21,18,20,22,24,26],25,715300)] [(1,715300,X)] [(U,0,500,1)] [(26,(17,0,23,22,12)),(27,(19,0,25,24,12))] [(1,0,7,6,12),(2,0,8,7,12),(3,0,9,8,12),(4,0,10,9,12),(5,0,11,10,12),(6,0,12,11,12),(7,0,13,12,12),(8,0,14,13,12),(9,0,15,14,12),(10,0,16,15,12),(11,0,17,16,12),(12,0,18,17,12),(13,0,19,18,12),(14,0,20,19,12),(15,0,21,20,12),(16,0,22,21,12),(17,0,23,22,12),(18,0,24,23,12),(19,0,25,24,12),(20,0,26,25,12)]
def avt:E5 6 (aK9,19)=ah (aK8,20):=AT
def aK7:QV:=bQ 32 U [(4,0,10,9,12),(5,0,11,10,12),(6,0,12,11,12),(7,0,13,12,12),(8,0,14,13,12),(9,0,15,14,12),(10,0,16,15,12),(11,0,17,16,12),(12,0,18,17,12),(13,0,19,18,12),(14,0,20,19,12),(15,0,21,20,12),(16,0,22,21,12),(17,0,23,22,12),(18,0,24,23,12),(19,0,25,24,12),(20,0,26,25,12),(21,0,27,26,12),(22,0,28,27,12),(23,0,29,28,12),(24,0,30,29,12),(25,0,31,30,12),(26,0,32,31,12)] [(32,26)] 27 [(4,28,11,X)] [(0,1,20,1000000000,0)] [([8,10,12,14,16,13,15,17,19,21,18,20,22,24,26,23,25,27,29,31,28],31,991300)] [(1,991300,X)] [(U,0,500,1)] [(32,(24,0,30,29,12)),(33,(26,0,32,31,12))] [(1,0,7,6,12),(2,0,8,7,12),(3,0,9,8,12),(4,0,10,9,12),(5,0,11,10,12),(6,0,12,11,12),(7,0,13,12,12),(8,0,14,13,12),(9,0,15,14,12),(10,0,16,15,12),(11,0,17,16,12),(12,0,18,17,12),(13,0,19,18,12),(14,0,20,19,12),(15,0,21,20,12),(16,0,22,21,12),(17,0,23,22,12),(18,0,24,23,12),(19,0,25,24,12),(20,0,26,25,12),(21,0,27,26,12),(22,0,28,27,12),(23,0,29,28,12),(24,0,30,29,12),(25,0,31,30,12),(26,0,32,31,12)]
def avs:E5 6 (aK8,20)=ah (aK7,20):=AT
def aK6:QV:=bQ 38 U [(10,0,16,15,12),(11,0,17,16,12),(12,0,18,17,12),(13,0,19,18,12),(14,0,20,19,12),(15,0,21,20,12),(16,0,22,21,12),(17,0,23,22,12),(18,0,24,23,12),(19,0,25,24,12),(20,0,26,25,12),(21,0,27,26,12),(22,0,28,27,12),(23,0,29,28,12),(24,0,30,29,12),(25,0,31,30,12),(26,0,32,31,12),(27,0,32,37,12)] [(32,32)] 28 [(4,32,7,X)] [(0,1,20,1000000000,0)] [([15,17,19,21,18,20,22,24,26,23,25,27,29,31,28,30,32,32,32,32,32],37,1267300)] [(1,1267300,X)] [(U,0,500,1)] [(41,(27,0,32,37,12))] [(1,0,7,6,12),(2,0,8,7,12),(3,0,9,8,12),(4,0,10,9,12),(5,0,11,10,12),(6,0,12,11,12),(7,0,13,12,12),(8,0,14,13,12),(9,0,15,14,12),(10,0,16,15,12),(11,0,17,16,12),(12,0,18,17,12),(13,0,19,18,12),(14,0,20,19,12),(15,0,21,20,12),(16,0,22,21,12),(17,0,23,22,12),(18,0,24,23,12),(19,0,25,24,12),(20,0,26,25,12),(21,0,27,26,12),(22,0,28,27,12),(23,0,29,28,12),(24,0,30,29,12),(25,0,31,30,12),(26,0,32,31,12),(27,0,32,37,12)]
def avr:E5 6 (aK7,20)=ah (aK6,20):=AT
def aK5:QV:=bQ 44 U [(16,0,22,21,12),(17,0,23,22,12),(18,0,24,23,12),(19,0,25,24,12),(20,0,26,25,12),(21,0,27,26,12),(22,0,28,27,12),(23,0,29,28,12),(24,0,30,29,12),(25,0,31,30,12),(26,0,32,31,12),(27,0,32,37,12),(28,0,32,43,12)] [(32,38)] 29 [(4,32,9,X)] [(0,1,20,1000000000,0)] [([22,24,26,23,25,27,29,31,28,30,32,32,32,32,32,32,32,32,32,32,32],43,1543300)] [(1,1543300,X)] [(U,0,500,1)] [(44,(28,0,32,43,12))] [(1,0,7,6,12),(2,0,8,7,12),(3,0,9,8,12),(4,0,10,9,12),(5,0,11,10,12),(6,0,12,11,12),(7,0,13,12,12),(8,0,14,13,12),(9,0,15,14,12),(10,0,16,15,12),(11,0,17,16,12),(12,0,18,17,12),(13,0,19,18,12),(14,0,20,19,12),(15,0,21,20,12),(16,0,22,21,12),(17,0,23,22,12),(18,0,24,23,12),(19,0,25,24,12),(20,0,26,25,12),(21,0,27,26,12),(22,0,28,27,12),(23,0,29,28,12),(24,0,30,29,12),(25,0,31,30,12),(26,0,32,31,12),(27,0,32,37,12),(28,0,32,43,12)]
def avq:E5 6 (aK6,20)=ah (aK5,20):=AT
def aK4:QV:=bQ 50 U [(22,0,28,27,12),(23,0,29,28,12),(24,0,30,29,12),(25,0,31,30,12),(26,0,32,31,12),(27,0,32,37,12),(28,0,32,43,12),(29,0,32,49,12)] [(32,44)] 30 [(4,32,6,X)] [(0,1,20,1000000000,0)] [([29,31,28,30,32,32,32,32,32,32,32,32,32,32,32,32,32,32,32,32,32],49,1819300)] [(1,1819300,X)] [(U,0,500,1)] [(52,(29,0,32,49,12))] [(1,0,7,6,12),(2,0,8,7,12),(3,0,9,8,12),(4,0,10,9,12),(5,0,11,10,12),(6,0,12,11,12),(7,0,13,12,12),(8,0,14,13,12),(9,0,15,14,12),(10,0,16,15,12),(11,0,17,16,12),(12,0,18,17,12),(13,0,19,18,12),(14,0,20,19,12),(15,0,21,20,12),(16,0,22,21,12),(17,0,23,22,12),(18,0,24,23,12),(19,0,25,24,12),(20,0,26,25,12),(21,0,27,26,12),(22,0,28,27,12),(23,0,29,28,12),(24,0,30,29,12),(25,0,31,30,12),(26,0,32,31,12),(27,0,32,37,12),(28,0,32,43,12),(29,0,32,49,12)]
def avp:E5 6 (aK5,20)=ah (aK4,20):=AT
def aK3:QV:=bQ 56 U [(27,0,32,37,12),(28,0,32,43,12),(29,0,32,49,12),(30,0,32,55,12)] [(32,50)] 31 [(4,32,11,X)] [(0,1,20,1000000000,0)] [([32,32,32,32,32,32,32,32,32,32,32,32,32,32,32,32,32,32,32,32,32],55,2095300)] [(1,2095300,X)] [(U,0,500,1)] [] [(1,0,7,6,12),(2,0,8,7,12),(3,0,9,8,12),(4,0,10,9,12),(5,0,11,10,12),(6,0,12,11,12),(7,0,13,12,12),(8,0,14,13,12),(9,0,15,14,12),(10,0,16,15,12),(11,0,17,16,12),(12,0,18,17,12),(13,0,19,18,12),(14,0,20,19,12),(15,0,21,20,12),(16,0,22,21,12),(17,0,23,22,12),(18,0,24,23,12),(19,0,25,24,12),(20,0,26,25,12),(21,0,27,26,12),(22,0,28,27,12),(23,0,29,28,12),(24,0,30,29,12),(25,0,31,30,12),(26,0,32,31,12),(27,0,32,37,12),(28,0,32,43,12),(29,0,32,49,12),(30,0,32,55,12)]
def avo:E5 6 (aK4,20)=ah (aK3,20):=AT
def aBY:QV:=bQ 62 U [(28,0,32,43,12),(29,0,32,49,12),(30,0,32,55,12),(31,0,32,61,12)] [(32,56)] 32 [(4,32,5,X)] [(0,1,20,1000000000,0)] [([32,32,32,32,32,32,32,32,32,32,32,32,32,32,32,32,32,32,32,32,32],61,2371300)] [(1,2371300,X)] [(U,0,500,1)] [(63,(31,0,32,61,12))] [(1,0,7,6,12),(2,0,8,7,12),(3,0,9,8,12),(4,0,10,9,12),(5,0,11,10,12),(6,0,12,11,12),(7,0,13,12,12),(8,0,14,13,12),(9,0,15,14,12),(10,0,16,15,12),(11,0,17,16,12),(12,0,18,17,12),(13,0,19,18,12),(14,0,20,19,12),(15,0,21,20,12),(16,0,22,21,12),(17,0,23,22,12),(18,0,24,23,12),(19,0,25,24,12),(20,0,26,25,12),(21,0,27,26,12),(22,0,28,27,12),(23,0,29,28,12),(24,0,30,29,12),(25,0,31,30,12),(26,0,32,31,12),(27,0,32,37,12),(28,0,32,43,12),(29,0,32,49,12),(30,0,32,55,12),(31,0,32,61,12)]
def avn:E5 6 (aK3,20)=ah (aBY,20):=AT
def hqe:QV:=bQ 62 X [] [(32,56)] 32 [(4,32,5,X)] [(0,1,20,1000000000,0)] [([32,32,32,32,32,32,32,32,32,32,32,32,32,32,32,32,32,32,32,32,32],61,2371300)] [(1,2371300,X)] [(U,0,500,1)] [(63,(31,0,32,61,12))] [(1,0,7,6,12),(2,0,8,7,12),(3,0,9,8,12),(4,0,10,9,12),(5,0,11,10,12),(6,0,12,11,12),(7,0,13,12,12),(8,0,14,13,12),(9,0,15,14,12),(10,0,16,15,12),(11,0,17,16,12),(12,0,18,17,12),(13,0,19,18,12),(14,0,20,19,12),(15,0,21,20,12),(16,0,22,21,12),(17,0,23,22,12),(18,0,24,23,12),(19,0,25,24,12),(20,0,26,25,12),(21,0,27,26,12),(22,0,28,27,12),(23,0,29,28,12),(24,0,30,29,12),(25,0,31,30,12),(26,0,32,31,12),(27,0,32,37,12),(28,0,32,43,12),(29,0,32,49,12),(30,0,32,55,12),(31,0,32,61,12)]
def aK2:QV:=bQ 70 X [] [(32,56)] 32 [(4,32,5,X)] [(0,1,20,1000000000,0)] [([32,32,32,32,32,32,32,32,32,32,32,32,32,32,32,32,32,32,32,32,32],69,2739300)] [(1,2739300,X)] [(U,0,500,1)] [] [(1,0,7,6,12),(2,0,8,7,12),(3,0,9,8,12),(4,0,10,9,12),(5,0,11,10,12),(6,0,12,11,12),(7,0,13,12,12),(8,0,14,13,12),(9,0,15,14,12),(10,0,16,15,12),(11,0,17,16,12),(12,0,18,17,12),(13,0,19,18,12),(14,0,20,19,12),(15,0,21,20,12),(16,0,22,21,12),(17,0,23,22,12),(18,0,24,23,12),(19,0,25,24,12),(20,0,26,25,12),(21,0,27,26,12),(22,0,28,27,12),(23,0,29,28,12),(24,0,30,29,12),(25,0,31,30,12),(26,0,32,31,12),(27,0,32,37,12),(28,0,32,43,12),(29,0,32,49,12),(30,0,32,55,12),(31,0,32,61,12)]
def avm:E5 8 (hqe,0)=ah (aK2,20):=AT
def aK1:QV:=bQ 78 X [] [(32,56)] 32 [(4,0,0,X)] [(0,1,20,1000000000,0)] [([32,32,32,32,32,32,32,32,32,32,32,32,32,32,32,32,32,6,6,6,6],77,2978500)] [(1,2978500,X)] [(U,0,500,1)] [] [(1,0,7,6,12),(2,0,8,7,12),(3,0,9,8,12),(4,0,10,9,12),(5,0,11,10,12),(6,0,12,11,12),(7,0,13,12,12),(8,0,14,13,12),(9,0,15,14,12),(10,0,16,15,12),(11,0,17,16,12),(12,0,18,17,12),(13,0,19,18,12),(14,0,20,19,12),(15,0,21,20,12),(16,0,22,21,12),(17,0,23,22,12),(18,0,24,23,12),(19,0,25,24,12),(20,0,26,25,12),(21,0,27,26,12),(22,0,28,27,12),(23,0,29,28,12),(24,0,30,29,12),(25,0,31,30,12),(26,0,32,31,12),(27,0,32,37,12),(28,0,32,43,12),(29,0,32,49,12),(30,0,32,55,12),(31,0,32,61,12)]
def avl:E5 8 (aK2,20)=ah (aK1,6):=AT
def amh:QV:=bQ 86 X [] [(32,56)] 32 [(4,0,0,X)] [(0,1,20,1000000000,0)] [([32,32,32,32,32,32,32,32,32,6,6,6,6,6,6,6,6,6,6,6,6],85,3088900)] [(1,3088900,X)] [(U,0,500,1)] [] [(1,0,7,6,12),(2,0,8,7,12),(3,0,9,8,12),(4,0,10,9,12),(5,0,11,10,12),(6,0,12,11,12),(7,0,13,12,12),(8,0,14,13,12),(9,0,15,14,12),(10,0,16,15,12),(11,0,17,16,12),(12,0,18,17,12),(13,0,19,18,12),(14,0,20,19,12),(15,0,21,20,12),(16,0,22,21,12),(17,0,23,22,12),(18,0,24,23,12),(19,0,25,24,12),(20,0,26,25,12),(21,0,27,26,12),(22,0,28,27,12),(23,0,29,28,12),(24,0,30,29,12),(25,0,31,30,12),(26,0,32,31,12),(27,0,32,37,12),(28,0,32,43,12),(29,0,32,49,12),(30,0,32,55,12),(31,0,32,61,12)]
def avk:E5 8 (aK1,6)=ah (amh,6):=AT
def aQh:JI El 0 0 ([]:List<|List Int) 1019 (aq 1024 255) where
 eq:=rfl
 la:=by rw [Ol];rfl
 lo:=Ce
 bo:=cz _
 hw:=.inl rfl
 hg:=Aa
 old:=λh=>absurd h Aa
 bd:=λd hd=>VN
def azu:RP (newP (bC 32) bO [] bG [] [0]) hqa:=by
 have e:DI (bC 32) bO [] bG [] [0]=0:=AT
 have e2:newP (bC 32) bO [] bG [] [0]={hqa.p with se:=512,fl:=El}:=by
  unfold newP;rw [e]
  kernel_rfl
 rw [e2];exact ⟨rfl,rfl,rfl,1019,_,aQh,rfl⟩
def Kj:EV:=⟨2,0,0,bA,bD⟩
def Kk:EV:=⟨5,0,0,(0,0,0,0,0),(X,0,0,0)⟩
def aqu {p:PK}{q:QV}(h:RP p q) (hv:Dz q.p=U) (he:q.p.GS 0 bA bD=0):BJ p Kj=0/\Bc p Kj=[]/\RP (BO p Kj) {q with p:=q.p.Nr 0 bA bD}:=by
 have e1:BJ p Kj=0:=by
  have:q.p.GS 0 bA bD=p.GS 0 bA bD:=by rw [h.1];rfl
  unfold BJ;rw [<-pe h,hv,AE Aa,AE Aa,AD (show Kj.ek=2 from rfl)];exact this.symm.trans he
 refine ⟨e1,aO3,?_⟩
 have e2:BO p Kj=p.Nr 0 bA bD:=yQ
 rw [e2];exact ⟨aNx,h.2⟩
def ar8 {p:PK}{q:QV}(h:RP p q) (hv:Dz q.p=U) (he:q.p.up=U):BJ p Kk=0/\RP (BO p Kk) {q with p:=q.p.PF}:=by
 have e1:BJ p Kk=0:=by
  have:q.p.up=p.up:=by rw [h.1]
  unfold BJ;rw [<-pe h,hv,AE Aa,AE Aa,AE Aa,AE Aa,AE Aa,AD (show Kk.ek=5 from rfl)];unfold PK.MY;rw [<-this,he];rfl
 refine ⟨e1,?_⟩
 have e2:BO p Kk=p.PF:=yQ
 rw [e2];exact ⟨aNx,h.2⟩
def ak9:∃p1 p3 p4 p6,Bo 1 (newP (bC 32) bO [] bG [] [0]) 0=(p1,0,U)/\p1.tk=1/\BJ p1 Kj=0/\Bc p1 Kj=[]/\Bo 1 (BO p1 Kj) 0=(p3,6,U)/\
  Bo 60 p3 0=(p4,20,U)/\BJ p4 Kk=0/\Bo 24 (BO p4 Kk) 0=(p6,6,U):=by
 obtain ⟨p1,a1,a2⟩:=oL azu ajA;obtain ⟨a3,a4,a5⟩:=aqu a2 AT AT
 have hc:({hqb with p:=hqb.p.Nr 0 bA bD}:QV)=hqc:=AT
 simp only [hc] at a5;obtain ⟨p3,b1,b2⟩:=oL a5 aj9
 have t60:=MN (MN (MN (MN (MN (MN (MN (MN (MN avw avv) avu) avt) avs) avr) avq) avp) avo) avn
 obtain ⟨p4,c1,c2⟩:=oL b2 t60;obtain ⟨c3,c4⟩:=ar8 c2 AT AT
 have he:({aBY with p:=aBY.p.PF}:QV)=hqe:=AT
 simp only [he] at c4
 have t24:=MN (MN avm avl) avk
 obtain ⟨p6,d1,d2⟩:=oL c4 t24;exact ⟨p1,p3,p4,p6,a1,by have:=a2.1;have h:hqb.p.tk=1:=rfl;rw [this] at h;exact h,a3,a4,b1,c1,c3,d1⟩
def zu:DI (bC 32) bO [] bG [] [0]=0/\DI (bC 5) bO [] bG [] [0]=13:=⟨AT,AT⟩
def aRi {l:List Le}{t:Int}(h:BL l=U):BL (Br l t)=true:=by
 unfold Br;split
 ·exact aER h List.filter_sublist
 ·rfl
def avJ {t:Int}{s:SN}{x:Le}(h:VK s.se s.fl/\BL s.ls=U):VK (Gu t s x).se (Gu t s x).fl/\BL (Gu t s x).ls=true:=by
 unfold Gu;split
 ·rename_i hc
  refine ⟨(h.1.st hc.2).2,?_⟩
  have:=(aR2 (x:=x) h.2).1
  unfold grS at this;rw [AD hc.1] at this;exact this
 ·exact h
def aOL {t:Int}{xs:List Le}{s:SN}(h:VK s.se s.fl/\BL s.ls=U):∀n,VK (Ja t xs s n).se (Ja t xs s n).fl/\BL (Ja t xs s n).ls=U
 |0=>h
 |n+1=>avJ<|aOL h n
theorem alN {p:PK}(h:VK p.se p.fl/\BL p.ls=U):VK p.AU.se p.AU.fl/\BL p.AU.ls=true:=by
 have hx:BL (Gm p.ls p.tk)=true:=by
  unfold Gm;split
  ·exact aRi h.2
  ·exact h.2
 unfold PK.AU;split
 ·exact h
 ·split
  ·grind
  ·exact aOL (s:=p.Hp) ⟨h.1,hx⟩ _
def JP.step {p:PK}(h:JP p) {e:EV}(he:BJ p e=0):JP (BO p e):=by
 obtain ⟨⟨hV,hR⟩,hk⟩:=h;refine ⟨⟨hV.step he,hR.step hV he⟩,?_⟩;unfold BO;rw [AE A0];unfold BJ at he;rw [AE (by rw [QC.2 hV];decide)] at he
 split
 ·exact alN hk
 rename_i h1;rw [AE h1] at he;split
 ·exact hk
 rename_i h2;rw [AE h2] at he;split
 ·exact hk
 rename_i h3;rw [AE h3] at he;split
 ·exact hk
 rename_i h4;rw [AE h4] at he;split
 ·exact ⟨hk.1,rfl⟩
 rename_i h5;rw [AE h5] at he;split
 ·rename_i h6
  rw [AD h6] at he;refine ⟨hk.1,?_⟩;unfold PK.Gb at he;split at he
  ·cases he
  split at he
  ·rename_i g1 g2;exact absurd he g2
  ·rename_i g1 g2
   exact aRi<|zR<|ZG λg=>g2 g
 rename_i h6;rw [AE h6] at he;split
 ·exact hk
 ·exact hk
def JP.EH {p:PK}(h:JP p):∀(n:Nat) (l:Int),JP (Bo n p l).1
 |0,_=>h
 | n+1,l=>by
  unfold Bo;split
  ·rename_i hc
   exact (h.step hc.1).EH n _
  ·exact h
theorem aQw {cs:List Cd}{os:List ByteArray}{ks:List Ko}{gs:List Ch}{bs:List Ba}{dr:List Int}(h:DI cs os ks gs bs dr=0):JP (newP cs os ks gs bs dr):=by
 have hn:=aQv h
 have hp:newP cs os ks gs bs dr=_:=AE A8
 refine ⟨hn,⟨hn.2.fl,?_⟩,?_⟩
 ·rw [hp]
  exact ⟨[],0,rfl,rfl,⟨0,1019,_,aQh⟩,Dg _⟩
 ·rw [hp]
  rfl
structure Nv where
 e:Int
 b:Bool
 (last n i:Int)
 (p r:PK)
def aEy:=bN f10 0
def vh (s:Nv):T (Rd Nv):=letI a:=(M (Bc s.p BZ):Int);.br (an<|s.i<s.n) (.req (JP s.p)<|.br (((BJ s.p BZ) !=0) ||(a !=(M (BO s.p BZ).ca:Int))) (.so (.ret) {s with e:=s.last,b:=X,r:=s.p})<|.br (an<|a>0) (.req (0<=(0:Int)/\0<a)<|.nx {s with last:=gi (Bc s.p BZ) (0:Int),i:=AA<|s.i+1,p:=BO s.p BZ})<|.nx {s with i:=AA<|s.i+1,p:=BO s.p BZ})<|.so (.exit 0) s
def jT (s:Nv):Prop:=s.i=0/\s.n<=1000/\JP s.p
def j5 (s:Nv):Prop:=0<=s.i/\s.n<=1000/\JP s.p
def qz (s:Nv):Nat:=(s.n-s.i).toNat
def acS (x:Ex) (s s':Nv):Prop:=True
def aj7:∀s,jT s->j5 s:=by
 exact kz
theorem auK:Da j5 qz acS vh:=by
 intro s hI;obtain ⟨h0,h1,h2⟩:=hI;refine AH (λc1=>AH (λc2=>trivial) λc2=>AH (λc3=>?_) λc3=>?_) λc1=>trivial
 all_goals have c1:s.i<s.n:=A8
 all_goals rw [AI (x:=s.i+1)]
 all_goals exact ⟨⟨A8,h1,h2.step<|Dj (GF.1 c2).1⟩,by simp only [qz];omega⟩
def Qj:AR Nv:=⟨0,43,[2,4,5,6,7,11,12],[.ps 4 0 Ad,.ps 4 1 .str,.ps 4 2 Ah,.ps 4 3 Ae,.ps 4 4 Ai,.ps 4 7 AP,.ps 4 9<|.int aw,.ps 4 10 Am,.ps 4 12 B3,.ps 4 13 AP,.ps 4 14 B7,.ps 4 15 BS,.ps 4 16 Ak,.ps 4 17 BM,.ps 4 18 A7,.ps 4 19 A7],λs=>[.own 0 0,.own 1 0,s.e,s.b,s.last,s.n,s.i],λs=>[⟨[s.p.cs,s.p.os,s.p.ks,s.p.gs,s.p.bs,s.p.tk,s.p.up,s.p.ls,s.p.se,.xl (.int aw) s.p.fl,s.p.ra,s.p.nx,s.p.st,s.p.ca,s.p.mi,s.p.me,s.p.dm,s.p.lk,.xl A7 s.p.dr,.xl A7 s.p.tg],48,.cl,X⟩,⟨[s.r.cs,s.r.os,s.r.ks,s.r.gs,s.r.bs,s.r.tk,s.r.up,s.r.ls,s.r.se,.xl (.int aw) s.r.fl,s.r.ra,s.r.nx,s.r.st,s.r.ca,s.r.mi,s.r.me,s.r.dm,s.r.lk,.xl A7 s.r.dr,.xl A7 s.r.tg],48,.cl,X⟩],λv b=>⟨AK v 2,E4 v 3,AK v 4,AK v 5,AK v 6,rQ b 0,rQ b 1⟩,vh,λs r=> {r with n:=s.n},λs=>s,λ_ s=>s,[.ret,.exit 0],jT,j5,qz⟩
abbrev Sr:=Qj.run
abbrev dT:=Qj.Aq
def awy:Rq j5 vh:=by
 intro s hI;refine ⟨λc1=>⟨?_,λ_=>trivial,λc2=>⟨λc3=>⟨?_,ak⟩,λ_=>trivial⟩⟩,λ_=>trivial⟩
 all_goals ((obtain ⟨h0,h1,h2⟩:=hI;first|exact h2|(simp only [Ac] at c3;omega)))
def tz:List Bd:=[WL]
def aPY:Qj.Ok:={}
def aP7:Qj.Pf (acS):=⟨aj7,λs h=>rfl,auK,awy⟩
def aoY:SA 0 aEy Qj:=s1 aPY aP7 tz kN
theorem aok:Rs jT dT Sr (λs:Nv=>Bo (s.n-s.i).toNat s.p s.last) (λx s' (v:PK×Int×Bool)=>(x=.exit 0/\(s'.p,s'.last,U)=v)\/(x=.ret/\(s'.r,s'.e,s'.b)=v)):=DJ aPY aP7 (λs hI=>by
  obtain ⟨h0,h1,h2⟩:=hI;refine AH (λc1=>?_) λc1=>?_
  ·have c1:s.i<s.n:=A8
   have e:(s.n-s.i).toNat=(s.n-(s.i+1)).toNat+1:=A0
   rw [AI (x:=s.i+1),e,Bo];refine AH (λc2=>?_) λc2=>?_
   ·have hc:¬(BJ s.p BZ=0/\M (Bc s.p BZ)=M (BO s.p BZ).ca):=λh=>by
     rw [h.1,h.2] at c2
     simp at c2
    rw [AE hc];exact .inr ⟨rfl,rfl⟩
   ·have hc:BJ s.p BZ=0/\M (Bc s.p BZ)=M (BO s.p BZ).ca:=by
     grind
    rw [AD hc];refine AH (λc3=>?_) λc3=>?_
    ·have c3:M (Bc s.p BZ)>0:=A8
     rw [AD c3];rfl
    ·have c3:¬(M<|Bc s.p BZ)>0:=A8
     rw [AE c3];rfl
  ·have c1:s.n<=s.i:=A8
   rw [show (s.n-s.i).toNat=0 by omega]
   exact .inl ⟨rfl,rfl⟩)
def aSq:List LV->T LV
 | [x_p,.v (Y J many)]=>(match Mr x_p with
  |some p=> .req (JP p/\many<=1000) (.ok<|.AM [(Bo many.toNat p 0).1,(Bo many.toNat p 0).2.1,(Bo many.toNat p 0).2.2])
  |none=> .no)
 |_=> .no
def MF (p:PK) (many:Int):Nv:=(⟨0,X,0,many,0,p,⟨([]:List Cd),([]:List ByteArray),([]:List Ko),([]:List Ch),([]:List Ba),0,X,([]:List Le),0,([]:List Int),([]:List Ra),0,([]:List St),([]:List Le),([]:List Mi),([]:List Me),([]:List Dm),([]:List Lk),([]:List Int),([]:List Int)⟩⟩:Nv)
def ayw (p:PK) (many:Int):letI a:=Sr<|MF p many;Bk prog AV (tz) kN (λi=>if i=3 then Qj.lp else Ag i) f10 [p,many]=.req (Qj.q<|MF p many) (.br (Bj (dT<|MF p many)<|.ret) (.ok<|.AM [a.r,a.e,a.b])<|.ok<|.AM [a.p,a.last,U]):=AT
def uw:=vm (S:=aSq) func10 tz kN (L:=(λi=>if i=3 then Qj.lp else Ag i)) (λb hb=>by
 rw [show BA _=[aEy] by kernel_rfl] at hb
 simp only [B8,Bu,Bt] at hb;subst hb;exact aoY) (λargs lv h=>by
 refine ⟨?_⟩;unfold aSq at h;split at h
 ·split at h
  case h_2=>cases h
  rename_i p hp;obtain rfl:=WI hp;simp only [canL,canX];rw [ayw];rename_i many _;obtain ⟨⟨hJ,hm⟩,rfl⟩:=h
  have hE:jT (MF p many):=⟨rfl,hm,hJ⟩
  have e:(many-0).toNat=many.toNat:=AJ
  have q:(dT (MF p many)=.exit 0/\((Sr<|MF p many).p,(Sr<|MF p many).last,U)=Bo many.toNat p 0)\/(dT (MF p many)=.ret/\((Sr<|MF p many).r,(Sr<|MF p many).e,(Sr<|MF p many).b)=Bo many.toNat p 0):=by
   rw [<-e];exact aok _ hE
  refine ⟨⟨hE,rfl,rfl⟩,λc=>?_,λc=>?_⟩
  ·rcases q with ⟨x1,_⟩ |⟨_,x2⟩
   ·rw [x1] at c
    cases c
   ·rw [<-x2]
    rfl
  ·rcases q with ⟨_,x2⟩ |⟨x1,_⟩
   ·rw [<-x2]
    rfl
   ·rw [x1] at c
    cases c
 ·cases h)
def aSc:List LV->T LV:=λ_=> .no
def av9:VV 1000022 aSc:=by
 exact xb
structure HF where
 DI:List Cd->List ByteArray->List Ko->List Ch->List Ba->List Int->Int
 newP:List Cd->List ByteArray->List Ko->List Ch->List Ba->List Int->PK
 BJ:PK->EV->Int
 BO:PK->EV->PK
 Bc:PK->EV->List Int
 Bo:Nat->PK->Int->PK×Int×Bool
 JP:PK->Prop
def hdF:HF:=⟨DI,newP,BJ,BO,Bc,Bo,JP⟩
def aoE (F:HF):List LV->T LV
 | [x_p,x_ev]=>(match Mr x_p with
  |some p=>(match mE x_ev with
  |some ev=> .req (F.JP p) (.ok<|.AM [F.BO p<|EW.ev ev,.xl A7<|F.Bc p<|EW.ev ev,F.BJ p<|EW.ev ev])
  |none=> .no)
  |none=> .no)
 |_=> .no
def auA (F:HF):List LV->T LV:=Ju prog f9.params.toList<|aoE F
def auD (F:HF):List LV->T LV
 | [.agg [.xl (.pair .str (.pair (.int J) (.pair (.int J) (.pair (.int J) (.pair (.pair (.int J) (.int J)) (.pair (.int J) (.pair (.int J) (.pair (.int J) (.pair (.int J) (.int J)))))))))) cs,.xl (.str) os,.xl (.pair .str (.pair (.int J) (.pair (.int J) (.int J)))) ks,.xl (.pair .str (.pair (.int J) (.pair (.int J) (.pair (.int J) (.pair (.int J) (.pair (.int J) (.pair (.int J) (.int J)))))))) gs,.xl (.pair .str (.int J)) bs],.xl (.int J) dr]=> .req (M dr<=1000) (.ok<|.AM [F.newP cs os ks gs bs dr,F.DI cs os ks gs bs dr])
 |_=> .no
def ah1 (F:HF):List LV->T LV:=Ju prog f12.params.toList<|auD F
def auC (F:HF):List LV->T LV
 | [x_p,.v (Y J many)]=>(match Mr x_p with
  |some p=> .req (F.JP p/\many<=1000) (.ok<|.AM [(F.Bo many.toNat p 0).1,(F.Bo many.toNat p 0).2.1,(F.Bo many.toNat p 0).2.2])
  |none=> .no)
 |_=> .no
def ahT (F:HF):List LV->T LV:=Ju prog f10.params.toList<|auC F
def bS:List Cd:=letI a:=((bC 32).getD (0:Int).toNat<|Ty.dflt Ad);(bC 32).set (0:Int).toNat (a.1,(a.2.1,((5:Int),a.2.2.2)))
def hN (F:HF):PK:=F.newP (((bC 32).drop 0).take 1) bO ([]:List Ko) bG ([]:List Ba)<|[(0:Int)]
def hA (F:HF):PK×Int×Bool:=F.Bo (1:Int).toNat (hN F) 0
def hB (F:HF):PK:=F.BO (hA F).1<|EW.ev<|⟨2,0,0,0,1,20,1000000000,0,U,0,500,1⟩
def hC (F:HF):PK×Int×Bool:=F.Bo (1:Int).toNat (hB F) 0
def hD (F:HF):PK×Int×Bool:=F.Bo (60:Int).toNat (hC F).1 0
def hX (F:HF):PK:=F.BO (hD F).1<|EW.ev<|⟨5,0,0,0,0,0,0,0,X,0,0,0⟩
def hL (F:HF):PK×Int×Bool:=F.Bo (24:Int).toNat (hX F) 0
def abn (F:HF):hA F=F.Bo 1 (hN F) 0:=rfl
def abm (F:HF):hB F=F.BO (hA F).1 Kj:=rfl
def abl (F:HF):hC F=F.Bo 1 (hB F) 0:=rfl
def abk (F:HF):hD F=F.Bo 60 (hC F).1 0:=rfl
def abj (F:HF):hX F=F.BO (hD F).1 Kk:=rfl
def akA (F:HF):hL F=F.Bo 24 (hX F) 0:=rfl
def acQ:List LV->T LV
 | []=> .ok U
 |_=> .no
def Wy:List Bd:=[WL,uw,um,av9]
def uT:Ax:=kI Wy<|la 9 func25 aGH<|la 11 func36 T9<|la 6 func36 QP<|la 3 func64 Oj<|la 2 func35 NN<|la 1 func34 MP<|la 2 func43 LA<|la 9 func25 Cn<|l0 Wy
def mA (F:HF):Specs:=D6 [(9,auA F),(10,ahT F),(12,ah1 F),(1000022,aSc)]
def aKC (F:HF):Hand:=inl prog AV (mA F) (CT 25 9 9 (Tq.lp)<|CT 36 21 11 (PW.lp)<|CT 36 21 6 (Ql.lp)<|CT 64 21 3 (Qk.lp)<|CT 35 20 2 (RU.lp)<|CT 34 20 1 (Qu.lp)<|CT 43 19 2 (Rc.lp)<|CT 25 0 9 (GZ.lp)<|Dl prog AV (mA F) 20 2) 9
def ayO (F:HF):letI a:=(EW.ev<|⟨2,0,0,0,1,20,1000000000,0,U,0,500,1⟩);letI b:=(hA F);Bk prog AV (mA F) (aKC F) Ag f4 []=.req (0+1<=M (bC 32)) (.req (M ([(0:Int)])<=1000)<|.req (F.JP ((hN F))/\(1:Int)<=1000)<|.req (F.JP b.1)<|.req (F.JP ((hB F))/\(1:Int)<=1000)<|.req (F.JP ((hC F)).1/\(60:Int)<=1000)<|.req (F.JP ((hD F)).1)<|.req (F.JP ((hX F))/\(24:Int)<=1000)<|.req (0<=(0:Int)/\(0:Int)<((1:Nat):Int))<|.req ((0:Int).toNat<M (bC 32))<|.req (0+1<=M bS)<|.req (M ([(0:Int)])<=1000)<|.ok<|.v<|.bool<|(((F.DI (((bC 32).drop 0).take 1) bO ([]:List Ko) bG ([]:List Ba)<|[(0:Int)])==0)&&(((F.BJ b.1 a)==0)&&(((F.BJ ((hD F)).1<|EW.ev<|⟨5,0,0,0,0,0,0,0,X,0,0,0⟩)==0)&&(((F.DI ((bS.drop 0).take 1) bO ([]:List Ko) bG ([]:List Ba)<|[(0:Int)])==13)&&(b.2.2&&(((hC F)).2.2&&(((hD F)).2.2&&(((hL F)).2.2&&((M (F.Bc b.1 a):Int)==0)))))))))&&((b.2.1==0)&&((b.1.tk==1)&&((((hC F)).2.1==6)&&((((hD F)).2.1==20)&&(((hL F)).2.1==6)))))):=AT
def az3:Wy=mA hdF:=AT
def az2:uT=aKC hdF:=AT
def akU:letI a:=(EW.ev<|⟨2,0,0,0,1,20,1000000000,0,U,0,500,1⟩);letI b:=(hA hdF);letI c:=(hD hdF);Bk prog AV (Wy) uT Ag f4 []=.req (0+1<=M (bC 32)) (.req (M ([(0:Int)])<=1000)<|.req (hdF.JP ((hN hdF))/\(1:Int)<=1000)<|.req (hdF.JP b.1)<|.req (hdF.JP ((hB hdF))/\(1:Int)<=1000)<|.req (hdF.JP ((hC hdF)).1/\(60:Int)<=1000)<|.req (hdF.JP c.1)<|.req (hdF.JP ((hX hdF))/\(24:Int)<=1000)<|.req (0<=(0:Int)/\(0:Int)<((1:Nat):Int))<|.req ((0:Int).toNat<M (bC 32))<|.req (0+1<=M (bS))<|.req (M ([(0:Int)])<=1000)<|.ok<|.v<|.bool<|(((hdF.DI (((bC 32).drop 0).take 1) (bO) ([]:List Ko) (bG) ([]:List Ba)<|[(0:Int)])==0)&&(((hdF.BJ b.1 a)==0)&&(((hdF.BJ c.1<|EW.ev<|⟨5,0,0,0,0,0,0,0,X,0,0,0⟩)==0)&&(((hdF.DI (((bS).drop 0).take 1) (bO) ([]:List Ko) (bG) ([]:List Ba)<|[(0:Int)])==13)&&(b.2.2&&(((hC hdF)).2.2&&(c.2.2&&(((hL hdF)).2.2&&((M (hdF.Bc b.1 a):Int)==0)))))))))&&((b.2.1==0)&&((b.1.tk==1)&&((((hC hdF)).2.1==6)&&((c.2.1==20)&&(((hL hdF)).2.1==6)))))):=by
 rw [az3,az2];exact ayO hdF
def aJw:=vo (S:=acQ) func4 Wy uT (λargs lv h=>by
 refine ⟨?_⟩;unfold acQ at h;split at h
 ·simp only [canL]
  rw [akU];obtain rfl:=h;simp only [show hdF.DI=DI from rfl,show hdF.newP=newP from rfl,show hdF.BJ=BJ from rfl,show hdF.BO=BO from rfl,show hdF.Bc=Bc from rfl,show hdF.Bo=Bo from rfl,show hdF.JP=JP from rfl];obtain ⟨p1,p3,p4,p6,a1,a2,a3,a4,a5,a6,a7,a8⟩:=ak9
  have eN:(hN hdF)=newP (bC 32) bO [] bG [] [0]:=rfl
  have t1:hdF.Bo=Bo:=rfl
  have t2:hdF.BO=BO:=rfl
  have eA:hA hdF=(p1,0,U):=by rw [abn,t1,eN];exact a1
  have eB:hB hdF=BO p1 Kj:=by rw [abm,t2,eA]
  have eC:hC hdF=(p3,6,U):=by rw [abl,t1,eB];exact a5
  have eD:hD hdF=(p4,20,U):=by rw [abk,t1,eC];exact a6
  have eX:hX hdF=BO p4 Kk:=by rw [abj,t2,eD]
  have eL:hL hdF=(p6,6,U):=by rw [akA,t1,eX];exact a8
  have jN:JP (hN hdF):=by rw [eN];exact aQw zu.1
  have jA:JP (hA hdF).1:=by rw [abn,t1];exact jN.EH _ _
  have sA:BJ (hA hdF).1 Kj=0:=by rw [eA];exact a3
  have jB:JP (hB hdF):=by rw [abm,t2];exact jA.step sA
  have jC:JP (hC hdF).1:=by rw [abl,t1];exact jB.EH _ _
  have jD:JP (hD hdF).1:=by rw [abk,t1];exact jC.EH _ _
  have sD:BJ (hD hdF).1 Kk=0:=by rw [eD];exact a7
  have jX:JP (hX hdF):=by rw [abj,t2];exact jD.step sD
  have n1:DI (((bC 32).drop 0).take 1) bO [] bG [] [(0:Int)]=0:=zu.1
  have n2:DI ((bS.drop 0).take 1) bO [] bG [] [(0:Int)]=13:=zu.2
  have b3:BJ p1 (EW.ev ⟨2,0,0,0,1,20,1000000000,0,U,0,500,1⟩)=0:=a3
  have b4:Bc p1 (EW.ev ⟨2,0,0,0,1,20,1000000000,0,U,0,500,1⟩)=[]:=a4
  have b7:BJ p4 (EW.ev ⟨5,0,0,0,0,0,0,0,X,0,0,0⟩)=0:=a7
  refine ⟨Aa,Aa,⟨jN,Aa⟩,jA,⟨jB,Aa⟩,⟨jC,Aa⟩,jD,⟨jX,Aa⟩,Aa,Aa,Aa,Aa,?_⟩
  show LV.v (.bool _)=_
  simp only [n1,n2,eA,eC,eD,eL,a2,b3,b4,b7,Bp];rfl
 ·cases h)
def opN (k:Int) (l:Nat):Int:=if (l:Int)>0 then (AA k).tmod l else 0
def opE (p:PK) (x1 x2 x3 y1 y2 y3 y4 y5:Int) (z1:Bool) (z2 z3 z4:Int):EW:=
 if x1.tmod 14=6\/x1.tmod 14=7 then ⟨2,opN x2<|M p.ca,0,y1,y2,y3,y4,y5,z1,z2,z3,z4⟩
 else if x1.tmod 14=8 then ⟨3,opN x2<|M p.ca,0,0,0,0,0,0,X,0,0,0⟩
 else if x1.tmod 14=9 then ⟨4,opN x2<|M p.ca,0,0,0,0,0,0,X,0,0,0⟩
 else if x1.tmod 14=10 then ⟨5,0,0,0,0,0,0,0,X,0,0,0⟩
 else if x1.tmod 14=11 then ⟨6,0,0,0,0,0,0,0,X,0,0,0⟩
 else if x1.tmod 14=12 then ⟨7,opN x2<|M p.ca,0,0,0,0,0,0,X,0,0,0⟩
 else if x1.tmod 14=13 then ⟨8,opN x2<|M p.tg,(AA x3).tmod 100,0,0,0,0,0,X,0,0,0⟩
 else ⟨1,0,0,0,0,0,0,0,X,0,0,0⟩
def opT (x1 x3:Int):Int:=if 6<=x1.tmod 14/\x1.tmod 14<=13 then 1 else AA (1+(AA x3).tmod 12)
def aS2:List LV->T LV
 | [x_p,.v (.agg ⟨[Y aw x1,Y aw x2,Y .u16 x3,Y J y1,Y J y2,Y J y3,Y J y4,Y J y5,.bool z1,Y J z2,Y J z3,Y J z4]⟩)]=>(match Mr x_p with
  |some p=> .tu #[opE p x1 x2 x3 y1 y2 y3 y4 y5 z1 z2 z3 z4,opT x1 x3]
  |none=> .no)
 |_=> .no
def aR6:List Bd:=[]
def ayT (p:PK) (x1 x2 x3 y1 y2 y3 y4 y5:Int) (z1:Bool) (z2 z3 z4:Int):letI a:=x1.tmod 14;letI c:=(M p.tg:Int);letI d:=(AA x3).tmod 100;letI e:=(M p.ca:Int);letI f:=AA<|1+((AA x3).tmod 12);letI b:=(AA x2).tmod e;Bk prog AV (aR6) kN Ag f15 [p,.v<|.agg #[Y aw x1,Y aw x2,Y .u16 x3,y1,y2,y3,y4,y5,z1,z2,z3,z4]]=.br (an<|e>0) (.req (e≠0)<|.req ((14:Int)≠0)<|.br (a==6) (.tu #[.agg #[(2:Int),b,(0:Int),y1,y2,y3,y4,y5,z1,z2,z3,z4],(1:Int)])<|.br (a==7) (.tu #[.agg #[(2:Int),b,(0:Int),y1,y2,y3,y4,y5,z1,z2,z3,z4],(1:Int)])<|.br (a==8) (.tu #[.agg #[(3:Int),b,(0:Int),(0:Int),(0:Int),(0:Int),(0:Int),(0:Int),X,(0:Int),(0:Int),(0:Int)],(1:Int)])<|.br (a==9) (.tu #[.agg #[(4:Int),b,(0:Int),(0:Int),(0:Int),(0:Int),(0:Int),(0:Int),X,(0:Int),(0:Int),(0:Int)],(1:Int)])<|.br (a==10) (.tu #[.agg #[(5:Int),(0:Int),(0:Int),(0:Int),(0:Int),(0:Int),(0:Int),(0:Int),X,(0:Int),(0:Int),(0:Int)],(1:Int)])<|.br (a==11) (.tu #[.agg #[(6:Int),(0:Int),(0:Int),(0:Int),(0:Int),(0:Int),(0:Int),(0:Int),X,(0:Int),(0:Int),(0:Int)],(1:Int)])<|.br (a==12) (.tu #[.agg #[(7:Int),b,(0:Int),(0:Int),(0:Int),(0:Int),(0:Int),(0:Int),X,(0:Int),(0:Int),(0:Int)],(1:Int)])<|.br (a==13) (.br (an<|c>0) (.req (c≠0)<|.req ((100:Int)≠0)<|.tu #[.agg #[(8:Int),(AA x2).tmod c,d,(0:Int),(0:Int),(0:Int),(0:Int),(0:Int),X,(0:Int),(0:Int),(0:Int)],(1:Int)])<|.req ((100:Int)≠0)<|.tu #[.agg #[(8:Int),(0:Int),d,(0:Int),(0:Int),(0:Int),(0:Int),(0:Int),X,(0:Int),(0:Int),(0:Int)],(1:Int)])<|.req ((12:Int)≠0)<|.tu #[.agg #[(1:Int),(0:Int),(0:Int),(0:Int),(0:Int),(0:Int),(0:Int),(0:Int),X,(0:Int),(0:Int),(0:Int)],f]) (.req ((14:Int)≠0)<|.br (a==6) (.tu #[.agg #[(2:Int),(0:Int),(0:Int),y1,y2,y3,y4,y5,z1,z2,z3,z4],(1:Int)])<|.br (a==7) (.tu #[.agg #[(2:Int),(0:Int),(0:Int),y1,y2,y3,y4,y5,z1,z2,z3,z4],(1:Int)])<|.br (a==8) (.tu #[.agg #[(3:Int),(0:Int),(0:Int),(0:Int),(0:Int),(0:Int),(0:Int),(0:Int),X,(0:Int),(0:Int),(0:Int)],(1:Int)])<|.br (a==9) (.tu #[.agg #[(4:Int),(0:Int),(0:Int),(0:Int),(0:Int),(0:Int),(0:Int),(0:Int),X,(0:Int),(0:Int),(0:Int)],(1:Int)])<|.br (a==10) (.tu #[.agg #[(5:Int),(0:Int),(0:Int),(0:Int),(0:Int),(0:Int),(0:Int),(0:Int),X,(0:Int),(0:Int),(0:Int)],(1:Int)])<|.br (a==11) (.tu #[.agg #[(6:Int),(0:Int),(0:Int),(0:Int),(0:Int),(0:Int),(0:Int),(0:Int),X,(0:Int),(0:Int),(0:Int)],(1:Int)])<|.br (a==12) (.tu #[.agg #[(7:Int),(0:Int),(0:Int),(0:Int),(0:Int),(0:Int),(0:Int),(0:Int),X,(0:Int),(0:Int),(0:Int)],(1:Int)])<|.br (a==13) (.br (an<|c>0) (.req (c≠0)<|.req ((100:Int)≠0)<|.tu #[.agg #[(8:Int),(AA x2).tmod c,d,(0:Int),(0:Int),(0:Int),(0:Int),(0:Int),X,(0:Int),(0:Int),(0:Int)],(1:Int)])<|.req ((100:Int)≠0)<|.tu #[.agg #[(8:Int),(0:Int),d,(0:Int),(0:Int),(0:Int),(0:Int),(0:Int),X,(0:Int),(0:Int),(0:Int)],(1:Int)])<|.req ((12:Int)≠0)<|.tu #[.agg #[(1:Int),(0:Int),(0:Int),(0:Int),(0:Int),(0:Int),(0:Int),(0:Int),X,(0:Int),(0:Int),(0:Int)],f]):=AT
def aa3:=vo (S:=aS2) func15 aR6 kN (λargs lv h=>by
 refine ⟨?_⟩;unfold aS2 at h;split at h
 ·split at h
  case h_2=>cases h
  rename_i p hp;obtain rfl:=WI hp;simp only [canL,canX];rw [ayT];obtain rfl:=h
  repeat' (first|(refine And.intro (λc=>?_) λc=>?_) |(refine And.intro A8 ?_))
  all_goals simp_all [T.all,opE,opT,opN]
  all_goals omega
 ·cases h)
def aom {p:PK}(hJ:JP p) {ev:EW}(h1:ev.ek=1) (h2:p.tk<=1000):BJ p ev.ev=0:=by
 rw [(aBK (QC.2 hJ.1.1) h1).1];exact AE A0
end Go.Proofs.YtpfblnbippcdjaaGreatDoor
end
