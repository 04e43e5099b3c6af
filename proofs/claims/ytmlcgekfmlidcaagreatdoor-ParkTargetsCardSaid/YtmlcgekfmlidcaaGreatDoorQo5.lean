/- Helpers for ParkTargets. Conditions: none. -/
import Derived.Test.YtmlcgekfmlidcaaGreatDoorQo4
set_option linter.defProp false
set_option linter.unusedVariables false
set_option linter.unusedSimpArgs false
noncomputable section
open List renaming length→M,length→aa,replicate→aq,range→au
open Bool renaming true→U,true→ae,false→X,false→af
open Go.Value renaming int→Y,int→ag
open Option renaming some→ah,none→aj
open Go.IntKind renaming i64→J,i64→ai,u8→aw,u32→ax
open True renaming intro→ak
open Decidable renaming decide→an
open ByteArray renaming mk→av
open Go.Region renaming ready→ay,wanted→az
open Go.Instr renaming findNow→aA
namespace Go.Proofs.YtmlcgekfmlidcaaGreatDoor
set_option maxRecDepth 100000
set_option maxHeartbeats 4000000
open Go.Proofs.Tryz
open Go.Sx
theorem avb (s:Nn) (hE:aB9 s):(fv s).all (λq=>q=Qq s):=by
 obtain ⟨h1,h2⟩:=hE;unfold fv;simp only [TC];refine ⟨λc=>?_,λc=>?_⟩
 ·have he:s.p.Er=6:=by unfold PK.Er;rw [AD c]
  repeat (refine ⟨AI,?_⟩)
  show _=_
  unfold Qq;rw [JX M9];rw [he]
 have hu:¬s.p.up=true:=VM
 repeat (refine ⟨A0,?_⟩)
 refine ⟨λc1=>?_,λc1=>?_⟩
 ·have c1:CO s.p.se s.p.fl≠0:=EX.1 c1
  have he:s.p.Er=CO s.p.se s.p.fl:=by unfold PK.Er;rw [AE hu,AD c1]
  repeat (refine ⟨AI,?_⟩)
  show _=_
  unfold Qq;rw [JX yW];rw [he]
 have c1:¬CO s.p.se s.p.fl≠0:=λh=>aNv
 refine ⟨λc2=>?_,λc2=>?_⟩
 ·have c2:D9 (BI s.p.se s.p.fl) s.p.tk≠0:=EX.1 c2
  have he:s.p.Er=D9 (BI s.p.se s.p.fl) s.p.tk:=by unfold PK.Er;rw [AE hu,AE c1,AD c2]
  repeat (refine ⟨AI,?_⟩)
  show _=_
  unfold Qq;rw [JX yW];rw [he]
 have c2:¬D9 (BI s.p.se s.p.fl) s.p.tk≠0:=λh=>by rw [EX.2 h] at c2;cases c2
 repeat (refine ⟨A0,?_⟩)
 refine ⟨λc3=>?_,λc3=>?_⟩
 ·have c3:Hz s.p.se s.p.fl≠0:=EX.1 c3
  have he:s.p.Er=Hz s.p.se s.p.fl:=by unfold PK.Er;rw [AE hu,AE c1,AE c2]
  repeat (refine ⟨AI,?_⟩)
  show _=_
  unfold Qq;rw [JX yW];rw [he]
 have c3:Hz s.p.se s.p.fl=0:=ZE λh=>by rw [EX.2 h] at c3;cases c3
 have he:s.p.Er=0:=by unfold PK.Er;rw [AE hu,AE c1,AE c2,c3]
 rw [show (aq (M s.p.gs:Int).toNat ((0:Int),(0:Int))).drop 0=aq (M s.p.gs) (0,0) by rw [Bx];rfl,Bx,DZ (by rw [Cf];exact Ax _)]
 repeat (refine ⟨A8,?_⟩)
 show _=_
 unfold Qq;rw [LJ he];rw [he];rfl
def ahl:Df prog AU 20 aBE.m:=Cx.sound (D:=aBE) (t:=fv) (gk eY) aoV Q0 ayK λs hE=>⟨avb s hE⟩
def Rp (c:Ca):Int:=if GC c=U then 0 else 1
def aJb:List LV->T LV
 | [.v (.agg ⟨[Y J x1,Y J x2,Y J x3,Y J x4,Y J x5]⟩)]=> .ok (.AM [.agg [.xl A7 ([]:List Int),(0:Int),(0:Int)],Rp (x1,x2,x3,x4,x5)])
 |_=> .no
def ags:List Bd:=[aTu]
def auU:=vo (S:=aJb) func37 ags kN (λargs lv h=>by
 unfold aJb at h;split at h
 ·rename_i x1 x2 x3 x4 x5
  refine Ap (.br (!(GC (x1,x2,x3,x4,x5))) (.ok<|.AM [.agg [.xl A7 ([]:List Int),(0:Int),(0:Int)],(1:Int)])<|.ok<|.AM [.agg [.xl A7 ([]:List Int),(0:Int),(0:Int)],(0:Int)]) ?_;obtain rfl:=h;unfold Rp;refine ⟨λc=>?_,λc=>?_⟩
  ·rw [AE A8]
   rfl
  ·rw [AD A8]
   rfl
 ·cases h)
structure KS where
 (i k0 k1 k2:Int)
 p:PK
 ev:EW
def U9 (s:KS):List LV:=[.own 16 0,s.i,.v<|.agg #[s.k0,s.k1,s.k2]]
def Yh (s:KS):List AB:=[AO,AO,zB,AO,bV 67 Ad s.p.cs,bV 101 AP s.p.ls,bV 5 (.int aw) s.p.fl,bV 127 Am s.p.ra,bV 90 B3 s.p.st,bV 55 AP s.p.ca,bV 107 B6 s.p.mi,bV 93 BO s.p.me,bV 57 As s.p.dm,bV 103 BJ s.p.lk,bV 3 A7 s.p.dr,bV 3 A7 s.p.tg,⟨[.os 4 11 0<|M s.p.cs,.xl .str s.p.os,.xl Ah s.p.ks,.xl Af s.p.gs,.xl Ai s.p.bs,.v<|Y J s.p.tk,.v<|.bool s.p.up,.os 5 5 0<|M s.p.ls,.v<|Y J s.p.se,.os 6 1 0<|M s.p.fl,.os 7 2 0<|M s.p.ra,.v<|Y J s.p.nx,.os 8 4 0<|M s.p.st,.os 9 5 0<|M s.p.ca,.os 10 3 0<|M s.p.mi,.os 11 3 0<|M s.p.me,.os 12 4 0<|M s.p.dm,.os 13 6 0<|M s.p.lk,.os 14 1 0<|M s.p.dr,.os 15 1 0<|M s.p.tg,.v<|Y J s.ev.ek,.v<|Y J s.ev.en,.v<|Y J s.ev.em,.v<|Y J s.ev.c1,.v<|Y J s.ev.c2,.v<|Y J s.ev.c3,.v<|Y J s.ev.c4,.v<|Y J s.ev.c5,.v<|.bool s.ev.d1,.v<|Y J s.ev.d2,.v<|Y J s.ev.d3,.v<|Y J s.ev.d4,.v<|.slice aj 0 0],85,.cl,X⟩,AO,AO]
structure YD where
 res:Int
 p:PK
 ev:EW
def acX (s:YD):LV:=.v<|Y J s.res
def ad2 (s:YD):List AB:=[AO,AO,zB,AO,bV 67 Ad s.p.cs,bV 101 AP s.p.ls,bV 5 (.int aw) s.p.fl,bV 127 Am s.p.ra,bV 90 B3 s.p.st,bV 55 AP s.p.ca,bV 107 B6 s.p.mi,bV 93 BO s.p.me,bV 57 As s.p.dm,bV 103 BJ s.p.lk,bV 3 A7 s.p.dr,bV 3 A7 s.p.tg,⟨[.os 4 11 0<|M s.p.cs,.xl .str s.p.os,.xl Ah s.p.ks,.xl Af s.p.gs,.xl Ai s.p.bs,.v<|Y J s.p.tk,.v<|.bool s.p.up,.os 5 5 0<|M s.p.ls,.v<|Y J s.p.se,.os 6 1 0<|M s.p.fl,.os 7 2 0<|M s.p.ra,.v<|Y J s.p.nx,.os 8 4 0<|M s.p.st,.os 9 5 0<|M s.p.ca,.os 10 3 0<|M s.p.mi,.os 11 3 0<|M s.p.me,.os 12 4 0<|M s.p.dm,.os 13 6 0<|M s.p.lk,.os 14 1 0<|M s.p.dr,.os 15 1 0<|M s.p.tg,.v<|Y J s.ev.ek,.v<|Y J s.ev.en,.v<|Y J s.ev.em,.v<|Y J s.ev.c1,.v<|Y J s.ev.c2,.v<|Y J s.ev.c3,.v<|Y J s.ev.c4,.v<|Y J s.ev.c5,.v<|.bool s.ev.d1,.v<|Y J s.ev.d2,.v<|Y J s.ev.d3,.v<|Y J s.ev.d4,.v<|.slice aj 0 0],85,.cl,X⟩,AO,AO]
def yq (s:KS):T YD:=letI c:=s.p.st.getD s.i.toNat<|Ty.dflt B3;letI d:=M s.p.st;letI a:=sE (AG s.p.gs s.i) c s.k0 s.k1 s.k2;letI b:=sN (AG s.p.gs s.i) c s.k0 s.k1 s.k2;.ix s.i (M s.p.gs)<|.ik s.i d<|.br (a==0) (.ik s.i d<|.pa s.p<|.re d (s.p.st.set s.i.toNat b)<|.rl s.p.ca<|.rl s.p.mi<|.rl s.p.me<|.rl s.p.dm<|.rl s.p.lk<|.rl s.p.dr<|.rl s.p.tg<|.ok<|⟨a,{s.p with st:=s.p.st.set s.i.toNat b},s.ev⟩)<|.pc s.p<|.ok<|⟨a,s.p,s.ev⟩
def aAw (s:KS):Prop:=0<=s.i/\s.i<(M s.p.gs:Int)/\M s.p.st=M s.p.gs
def gr (s:KS):YD:=⟨sE (AG s.p.gs s.i) (Bq s.p.st s.i) s.k0 s.k1 s.k2,{s.p with st:=Ct s.p.gs s.p.st s.i s.k0 s.k1 s.k2},s.ev⟩
def aBL:Cx KS YD:=⟨U9,Yh,λv b=>⟨AK v 1,gI<|ED (v.getD 2 .junk) 0,gI<|ED (v.getD 2 .junk) 1,gI<|ED (v.getD 2 .junk) 2,rF b,rG b⟩,aAw,[0,1,3,17,18],[],acX,ad2,gr⟩
abbrev fW (s:KS):Prop:=aAw s/\U9 s=U9 s/\Yh s=Yh s
def eW:List Bd:=[Qt]
def aTj:DL:=CS 41 18 2 (KT.lp)<|CS 23 0 9 (Gb.lp)<|Du prog AU (eW) 20 2
def aod:EL prog AU aTj:=DD func41 rfl AT K8<|DD func23 rfl AT Cn<|Hb<|gk eW
def ayU (s:KS):((Ec prog AU eW aTj Fx).k 40 (U9 s)<|Yh s).bind (λq=>G6 (M<|Yh s) [0] [] .normal (q.1::U9 s) q.2)=(yq s).mp (λs2=>⟨.normal,M (U9 s)+1,[acX s2],ad2 s2,U⟩):=AT
theorem avj (s:KS) (hE:aAw s):(yq s).all (λq=>q=gr s):=by
 obtain ⟨h0,h1,h2⟩:=hE;refine ⟨A0,A0,A0,λc=>?_,λc=>?_⟩
 ·have c:=eq_of_beq c
  have hg:Ct s.p.gs s.p.st s.i s.k0 s.k1 s.k2=_:=AD c
  repeat (refine ⟨A8,?_⟩)
  unfold gr;rw [hg];rfl
 ·have c:=CU.1 c
  have hg:Ct s.p.gs s.p.st s.i s.k0 s.k1 s.k2=s.p.st:=AE c
  repeat (refine ⟨AI,?_⟩)
  unfold gr;rw [hg];rfl
def aht:Df prog AU 40 aBL.m:=Cx.sound (D:=aBL) (t:=yq) (gk eW) aod Q0 ayU λs hE=>⟨avj s hE⟩
structure No where
 p:PK
 ev:EW
def UW (s:No):List LV:=[.own 16 0]
def Ya (s:No):List AB:=[AO,AO,zB,AO,bV 67 Ad s.p.cs,bV 101 AP s.p.ls,bV 5 (.int aw) s.p.fl,bV 127 Am s.p.ra,bV 90 B3 s.p.st,bV 55 AP s.p.ca,bV 107 B6 s.p.mi,bV 93 BO s.p.me,bV 57 As s.p.dm,bV 103 BJ s.p.lk,bV 3 A7 s.p.dr,bV 3 A7 s.p.tg,⟨[.os 4 11 0<|M s.p.cs,.xl .str s.p.os,.xl Ah s.p.ks,.xl Af s.p.gs,.xl Ai s.p.bs,.v<|Y J s.p.tk,.v<|.bool s.p.up,.os 5 5 0<|M s.p.ls,.v<|Y J s.p.se,.os 6 1 0<|M s.p.fl,.os 7 2 0<|M s.p.ra,.v<|Y J s.p.nx,.os 8 4 0<|M s.p.st,.os 9 5 0<|M s.p.ca,.os 10 3 0<|M s.p.mi,.os 11 3 0<|M s.p.me,.os 12 4 0<|M s.p.dm,.os 13 6 0<|M s.p.lk,.os 14 1 0<|M s.p.dr,.os 15 1 0<|M s.p.tg,.v<|Y J s.ev.ek,.v<|Y J s.ev.en,.v<|Y J s.ev.em,.v<|Y J s.ev.c1,.v<|Y J s.ev.c2,.v<|Y J s.ev.c3,.v<|Y J s.ev.c4,.v<|Y J s.ev.c5,.v<|.bool s.ev.d1,.v<|Y J s.ev.d2,.v<|Y J s.ev.d3,.v<|Y J s.ev.d4,.v<|.slice aj 0 0],85,.cl,X⟩]
structure XY where
 res:Int
 p:PK
 ev:EW
def acQ (s:XY):LV:=.v<|Y J s.res
def acr (s:XY):List AB:=[AO,AO,zB,AO,bV 67 Ad s.p.cs,bV 101 AP s.p.ls,bV 5 (.int aw) s.p.fl,bV 127 Am s.p.ra,bV 90 B3 s.p.st,bV 55 AP s.p.ca,bV 107 B6 s.p.mi,bV 93 BO s.p.me,bV 57 As s.p.dm,bV 103 BJ s.p.lk,bV 3 A7 s.p.dr,bV 3 A7 s.p.tg,⟨[.os 4 11 0<|M s.p.cs,.xl .str s.p.os,.xl Ah s.p.ks,.xl Af s.p.gs,.xl Ai s.p.bs,.v<|Y J s.p.tk,.v<|.bool s.p.up,.os 5 5 0<|M s.p.ls,.v<|Y J s.p.se,.os 6 1 0<|M s.p.fl,.os 7 2 0<|M s.p.ra,.v<|Y J s.p.nx,.os 8 4 0<|M s.p.st,.os 9 5 0<|M s.p.ca,.os 10 3 0<|M s.p.mi,.os 11 3 0<|M s.p.me,.os 12 4 0<|M s.p.dm,.os 13 6 0<|M s.p.lk,.os 14 1 0<|M s.p.dr,.os 15 1 0<|M s.p.tg,.v<|Y J s.ev.ek,.v<|Y J s.ev.en,.v<|Y J s.ev.em,.v<|Y J s.ev.c1,.v<|Y J s.ev.c2,.v<|Y J s.ev.c3,.v<|Y J s.ev.c4,.v<|Y J s.ev.c5,.v<|.bool s.ev.d1,.v<|Y J s.ev.d2,.v<|Y J s.ev.d3,.v<|Y J s.ev.d4,.v<|.slice aj 0 0],85,.cl,X⟩]
def fw (s:No):T XY:=letI c:=(s.p.mi.set s.ev.en.toNat (([]:List Int),((0:Int),(0:Int))));letI f:=(Ct s.p.gs s.p.st s.ev.en (1:Int) (0:Int) (0:Int));letI g:=(s.ev.c1,(s.ev.c2,(s.ev.c3,(s.ev.c4,s.ev.c5))));letI i:=(s.ev.d1,(s.ev.d2,(s.ev.d3,s.ev.d4)));letI j:=M s.p.ca;letI a:=s.p.ca.set s.ev.en.toNat g;letI b:=s.p.dm.set s.ev.en.toNat i;letI d:=(Ct s.p.gs f s.ev.en (3:Int) (0:Int) (0:Int));letI e:=(Ct s.p.gs d s.ev.en (4:Int) (1:Int) (0:Int));letI h:=(Ct s.p.gs e s.ev.en (5:Int) (0:Int) (0:Int));.br (!(inB s.ev.en (0:Int)<|AA<|(M s.p.gs:Int)-1)) (.pc s.p<|.ok<|⟨1,s.p,s.ev⟩)<|.br ((Rp (s.ev.c1,s.ev.c2,s.ev.c3,s.ev.c4,s.ev.c5)) !=0) (.pc s.p<|.ok<|⟨1,s.p,s.ev⟩)<|.br (!((inB s.ev.d2 (0:Int) (1000000000:Int))&&((inB s.ev.d3 (0:Int) (1000000:Int))&&(inB s.ev.d4 (1:Int) (9:Int))))) (.pc s.p<|.ok<|⟨1,s.p,s.ev⟩)<|.ik s.ev.en j<|.br ((s.p.ca.getD s.ev.en.toNat<|Ty.dflt AP).2.2.1 !=0) (.pc s.p<|.ok<|⟨6,s.p,s.ev⟩)<|.ik s.ev.en (M s.p.st)<|.br ((s.p.st.getD s.ev.en.toNat<|Ty.dflt B3).1 !=0) (.pc s.p<|.ok<|⟨6,s.p,s.ev⟩)<|.ik s.ev.en j<|.ik s.ev.en (M s.p.mi)<|.ik s.ev.en (M s.p.dm)<|.pa s.p<|.rl s.p.st<|.re j a<|.re (M s.p.mi) c<|.rl s.p.me<|.re (M s.p.dm) b<|.rl s.p.lk<|.rl s.p.dr<|.rl s.p.tg<|.req (fW (⟨s.ev.en,1,0,0,{s.p with ca:=s.p.ca.set s.ev.en.toNat g,mi:=s.p.mi.set s.ev.en.toNat (([]:List Int),((0:Int),(0:Int))),dm:=s.p.dm.set s.ev.en.toNat i},s.ev⟩:KS))<|.pa s.p<|.rl f<|.rl a<|.rl c<|.rl s.p.me<|.rl b<|.rl s.p.lk<|.rl s.p.dr<|.rl s.p.tg<|.req (fW (⟨s.ev.en,3,0,0,{s.p with st:=f,ca:=a,mi:=c,dm:=b},s.ev⟩:KS))<|.pa s.p<|.rl d<|.rl a<|.rl c<|.rl s.p.me<|.rl b<|.rl s.p.lk<|.rl s.p.dr<|.rl s.p.tg<|.req (fW (⟨s.ev.en,4,1,0,{s.p with st:=d,ca:=a,mi:=c,dm:=b},s.ev⟩:KS))<|.pa s.p<|.rl e<|.rl a<|.rl c<|.rl s.p.me<|.rl b<|.rl s.p.lk<|.rl s.p.dr<|.rl s.p.tg<|.req (fW (⟨s.ev.en,5,0,0,{s.p with st:=e,ca:=a,mi:=c,dm:=b},s.ev⟩:KS))<|.pa s.p<|.rl h<|.rl a<|.rl c<|.rl s.p.me<|.rl b<|.rl s.p.lk<|.rl s.p.dr<|.rl s.p.tg<|.ok<|⟨0,{s.p with st:=h,ca:=a,mi:=c,dm:=b},s.ev⟩
theorem aOg {c:Ca}:Rp c=0↔GC c=true:=by
 unfold Rp
 grind
def aBA (s:No):Prop:=M s.p.st=M s.p.gs/\M s.p.gs<=1000/\M s.p.ca=M s.p.gs/\M s.p.mi=M s.p.gs/\M s.p.dm=M s.p.gs
def QR (s:No):XY:=⟨PK.H0 s.p s.ev.en (EW.c s.ev)<|EW.d s.ev,JF (PK.H0 s.p s.ev.en (EW.c s.ev)<|EW.d s.ev) (PK.O1 s.p s.ev.en (EW.c s.ev)<|EW.d s.ev) s.p,s.ev⟩
def aBF:Cx No XY:=⟨UW,Ya,λv b=>⟨rF b,rG b⟩,aBA,[0,1,3],[],acQ,acr,QR⟩
abbrev aiV (s:No):Prop:=aBA s/\UW s=UW s/\Ya s=Ya s
def Wj:List Bd:=[Tk,auU]
def aR7:Aw:=I1 Wj (la 2 func41 K8<|la 9 func23 Cn<|l0 Wj) [⟨40,aBL.m,aht⟩]
def aTc:DL:=CS 41 18 2 (KT.lp)<|CS 23 0 9 (Gb.lp)<|Du prog AU Wj 20 2
def aoW:EL prog AU aTc:=DD func41 rfl AT K8<|DD func23 rfl AT Cn<|Hb<|gk Wj
def ayL (s:No):((Ec prog AU Wj aTc aR7).k 16 (UW s)<|Ya s).bind (λq=>G6 (M<|Ya s) [0] [] .normal (q.1::UW s) q.2)=(fw s).mp (λs2=>⟨.normal,M (UW s)+1,[acQ s2],acr s2,U⟩):=AT
def avc (s:No) (hE:aBA s):(fw s).all (λq=>q=QR s):=by
 obtain ⟨h1,h2,h3,h4,h5⟩:=hE;unfold fw;rw [dt h2];refine ⟨λc=>?_,λc=>?_⟩
 ·have c:s.p.isC s.ev.en=false:=Pt
  have he:s.p.H0 s.ev.en s.ev.c s.ev.d=1:=AD c
  repeat (refine ⟨M8,?_⟩)
  show _=_
  unfold QR;rw [JX M9];rw [he]
 have c:s.p.isC s.ev.en=true:=Pt
 have ci:=CM.1 c
 have ci2:s.ev.en<(M s.p.gs:Int):=A0
 have hc:¬s.p.isC s.ev.en=false:=VM
 have bad:(!GC s.ev.c || !HL s.ev.d)=U->s.p.H0 s.ev.en s.ev.c s.ev.d=1:=λh=>by unfold PK.H0;rw [AE hc,AD h]
 refine ⟨λc1=>?_,λc1=>⟨λc2=>?_,λc2=>?_⟩⟩
 ·have c1:¬Rp s.ev.c=0:=EX.1 c1
  have c1:GC s.ev.c=false:=by rw [aOg] at c1;simpa using c1
  have he:=bad (by rw [c1];rfl)
  repeat (refine ⟨M8,?_⟩)
  show _=_
  unfold QR;rw [JX M9];rw [he]
 ·have c2:(!HL s.ev.d)=true:=c2
  have he:=bad<|by rw [c2,SU]
  repeat (refine ⟨M8,?_⟩)
  show _=_
  unfold QR;rw [JX M9];rw [he]
 have c1:GC s.ev.c=true:=aOg.1 (ZE λh=>by rw [show (Rp (s.ev.c1,s.ev.c2,s.ev.c3,s.ev.c4,s.ev.c5) !=0)=U from EX.2 h] at c1;cases c1)
 have c2:(!HL s.ev.d)=false:=c2
 have hb:¬(!GC s.ev.c || !HL s.ev.d)=true:=by rw [c1,c2];decide
 have six:((BZ s.p.ca s.ev.en).2.2.1 !=0 ||(Bq s.p.st s.ev.en).1 !=0)=U->s.p.H0 s.ev.en s.ev.c s.ev.d=6:=λh=>by unfold PK.H0;rw [AE hc,AE hb,AD h]
 repeat (refine ⟨M8,?_⟩)
 refine ⟨λc3=>?_,λc3=>?_⟩
 ·have c3:((BZ s.p.ca s.ev.en).2.2.1 !=0)=true:=c3
  have he:=six (by rw [c3];rfl)
  repeat (refine ⟨M8,?_⟩)
  show _=_
  unfold QR;rw [JX M9];rw [he]
 repeat (refine ⟨M8,?_⟩)
 refine ⟨λc4=>?_,λc4=>?_⟩
 ·have c4:((Bq s.p.st s.ev.en).1 !=0)=true:=c4
  have he:=six<|by rw [c4,SU]
  repeat (refine ⟨M8,?_⟩)
  show _=_
  unfold QR;rw [JX M9];rw [he]
 have c3:((BZ s.p.ca s.ev.en).2.2.1 !=0)=false:=c3
 have c4:((Bq s.p.st s.ev.en).1 !=0)=false:=c4
 have he:s.p.H0 s.ev.en s.ev.c s.ev.d=0:=by unfold PK.H0;rw [AE hc,AE hb,c3,c4];rfl
 have hg:∀(l:List St) (k n m:Int),M l=M s.p.gs->M (Ct s.p.gs l s.ev.en k n m)=M s.p.gs:=λl k n m h=>by rw [L9];exact h
 repeat (refine ⟨M8,?_⟩)
 refine ⟨⟨⟨ci.1,ci2,h1⟩,rfl,rfl⟩,?_⟩
 repeat (refine ⟨M8,?_⟩)
 refine ⟨⟨⟨ci.1,ci2,hg _ _ _ _ h1⟩,rfl,rfl⟩,?_⟩
 repeat (refine ⟨M8,?_⟩)
 refine ⟨⟨⟨ci.1,ci2,hg _ _ _ _<|hg _ _ _ _ h1⟩,rfl,rfl⟩,?_⟩
 repeat (refine ⟨M8,?_⟩)
 refine ⟨⟨⟨ci.1,ci2,hg _ _ _ _<|hg _ _ _ _<|hg _ _ _ _ h1⟩,rfl,rfl⟩,?_⟩
 repeat (refine ⟨AI,?_⟩)
 show _=_
 unfold QR;rw [LJ he];rw [he];rfl
def ahm:Df prog AU 16 aBF.m:=Cx.sound (D:=aBF) (t:=fw) (gk Wj) aoW aR7.h ayL λs hE=>⟨avc s hE⟩
structure PN where
 (n i:Int)
 p:PK
 ev:EW
 BW:List ByteArray
 C0:List Ko
 BM:List Ch
 C1:List Ba
 o:List Cd
def zD (s:PN):T (Rd PN):=letI b:=s.o.getD s.i.toNat<|Ty.dflt Ad;letI a:=(s.o.set s.i.toNat (b.1,(b.2.1,((s.p.tg.getD s.i.toNat<|Ty.dflt A7),b.2.2.2))));.br (an<|s.i<s.n) (.ik s.i (M s.p.tg)<|.ik s.i (M s.o)<|.rl s.p.tg<|.pc s.p<|.re (M s.o) a<|.nx {s with i:=AA<|s.i+1,o:=a})<|.rl s.p.tg<|.pc s.p<|.rl s.o<|.so (.exit 0) s
def k6 (s:PN):Prop:=s.i=0/\s.n=(M s.p.tg:Int)/\M s.p.tg=M s.p.cs/\s.n<=1000/\s.o=Ds s.p.cs s.p.tg s.i.toNat
def Xb (s:PN):Prop:=(0<=s.i/\s.i<=s.n)/\s.n=(M s.p.tg:Int)/\M s.p.tg=M s.p.cs/\s.n<=1000/\s.o=Ds s.p.cs s.p.tg s.i.toNat
def sR (s:PN):Nat:=(s.n-s.i).toNat
def aAC (x:Ex) (s s':PN):Prop:=x=.exit 0/\s'.o=Ds s'.p.cs s'.p.tg (M s'.p.tg)
def alg:∀s,k6 s->Xb s:=by
 exact aMT
theorem ahg:Da Xb sR aAC zD:=by
 intro s hI;obtain ⟨⟨h0,h1⟩,h2,h3,h4,h5⟩:=hI
 have hl:M s.o=M s.p.cs:=lP
 refine AH (λc1=>?_) λc1=>?_
 ·have c1:s.i<s.n:=A8
  rw [AJ (x:=s.i+1)];refine ⟨⟨⟨A8,A8⟩,h2,h3,h4,?_⟩,by simp only [sR];omega⟩
  exact aLF
 ·have c1:s.n<=s.i:=A8
  refine ⟨rfl,?_⟩
  grind
def UO:AS PN:=⟨17,34,[2,3,19,20,21],[],λs=>[.own 17 0,.own 18 0,.os 15 1 0<|M s.p.tg,s.n,s.i],λs=>[AO,AO,zB,AO,bV 67 Ad s.p.cs,bV 101 AP s.p.ls,bV 5 (.int aw) s.p.fl,bV 127 Am s.p.ra,bV 90 B3 s.p.st,bV 55 AP s.p.ca,bV 107 B6 s.p.mi,bV 93 BO s.p.me,bV 57 As s.p.dm,bV 103 BJ s.p.lk,bV 3 A7 s.p.dr,bV 3 A7 s.p.tg,⟨[.os 4 11 0<|M s.p.cs,.xl .str s.p.os,.xl Ah s.p.ks,.xl Af s.p.gs,.xl Ai s.p.bs,.v<|Y J s.p.tk,.v<|.bool s.p.up,.os 5 5 0<|M s.p.ls,.v<|Y J s.p.se,.os 6 1 0<|M s.p.fl,.os 7 2 0<|M s.p.ra,.v<|Y J s.p.nx,.os 8 4 0<|M s.p.st,.os 9 5 0<|M s.p.ca,.os 10 3 0<|M s.p.mi,.os 11 3 0<|M s.p.me,.os 12 4 0<|M s.p.dm,.os 13 6 0<|M s.p.lk,.os 14 1 0<|M s.p.dr,.os 15 1 0<|M s.p.tg,.v<|Y J s.ev.ek,.v<|Y J s.ev.en,.v<|Y J s.ev.em,.v<|Y J s.ev.c1,.v<|Y J s.ev.c2,.v<|Y J s.ev.c3,.v<|Y J s.ev.c4,.v<|Y J s.ev.c5,.v<|.bool s.ev.d1,.v<|Y J s.ev.d2,.v<|Y J s.ev.d3,.v<|Y J s.ev.d4,.v<|.slice aj 0 0],85,.cl,X⟩,⟨[.v<|.slice aj 0 0,.v<|.slice aj 0 0,.v<|.slice aj 0 0,.v<|.slice aj 0 0,.v<|.slice aj 0 0],28,.cl,X⟩,⟨[.os 19 11 0<|M s.o,s.BW,s.C0,s.BM,s.C1],28,.cl,X⟩,bV 67 Ad s.o],λv b=>⟨AK v 3,AK v 4,rF b,rG b,AF .str b 18 1,AF Ah b 18 2,AF Af b 18 3,AF Ai b 18 4,Ab Ad b 19⟩,zD,λs r=> {s with i:=r.i,o:=r.o},λs=>s,λ_ s=>s,[.exit 0],k6,Xb,sR⟩
abbrev cI:=UO.run
abbrev asb:=UO.At
def Ov:List Bd:=[eG,Tk]
def azP:Aw:=kI Ov<|la 2 func41 K8<|la 9 func23 Cn<|l0 Ov
def axG:Rq Xb zD:=by
 intro s hI;refine ⟨λc1=>⟨?_,?_,?_,?_,A9,A9,A9,A9,A9,A9,A9,A9,A9,A9,A9,A9,A9,?_,ak⟩,λc1=>⟨A9,A9,A9,A9,A9,A9,A9,A9,A9,A9,A9,A9,A9,A9,ak⟩⟩
 all_goals ((obtain ⟨⟨h0,h1⟩,h2,h3,h4,h5⟩:=hI;have hl:M s.o=M s.p.cs:=lP;(try simp only [Aa] at c1);first|omega|exact ⟨rfl,rfl⟩ |exact ⟨rfl,AI⟩))
def aQg:UO.Ok:={}
def aPG:UO.Pf (aAC):=⟨alg,λs h=>rfl,ahg,axG⟩
def aGB:=s2 (b:=bN f46 0) aQg aPG Ov azP
def au9:Fi k6 Xb aAC asb cI:=AS.fin aQg aPG
structure Ml where
 p:PK
 ev:EW
def U6 (s:Ml):List LV:=[.own 16 0]
def Ye (s:Ml):List AB:=[AO,AO,zB,AO,bV 67 Ad s.p.cs,bV 101 AP s.p.ls,bV 5 (.int aw) s.p.fl,bV 127 Am s.p.ra,bV 90 B3 s.p.st,bV 55 AP s.p.ca,bV 107 B6 s.p.mi,bV 93 BO s.p.me,bV 57 As s.p.dm,bV 103 BJ s.p.lk,bV 3 A7 s.p.dr,bV 3 A7 s.p.tg,⟨[.os 4 11 0<|M s.p.cs,.xl .str s.p.os,.xl Ah s.p.ks,.xl Af s.p.gs,.xl Ai s.p.bs,.v<|Y J s.p.tk,.v<|.bool s.p.up,.os 5 5 0<|M s.p.ls,.v<|Y J s.p.se,.os 6 1 0<|M s.p.fl,.os 7 2 0<|M s.p.ra,.v<|Y J s.p.nx,.os 8 4 0<|M s.p.st,.os 9 5 0<|M s.p.ca,.os 10 3 0<|M s.p.mi,.os 11 3 0<|M s.p.me,.os 12 4 0<|M s.p.dm,.os 13 6 0<|M s.p.lk,.os 14 1 0<|M s.p.dr,.os 15 1 0<|M s.p.tg,.v<|Y J s.ev.ek,.v<|Y J s.ev.en,.v<|Y J s.ev.em,.v<|Y J s.ev.c1,.v<|Y J s.ev.c2,.v<|Y J s.ev.c3,.v<|Y J s.ev.c4,.v<|Y J s.ev.c5,.v<|.bool s.ev.d1,.v<|Y J s.ev.d2,.v<|Y J s.ev.d3,.v<|Y J s.ev.d4,.v<|.slice aj 0 0],85,.cl,X⟩]
def So (s:Ml):PN:=(⟨((M s.p.tg:Nat):Int),0,{s.p with tg:=s.p.tg.set s.ev.en.toNat s.ev.em},s.ev,s.p.os,s.p.ks,s.p.gs,s.p.bs,BC ((s.p.cs.drop 0).take<|M s.p.cs)<|aq ((M s.p.cs:Nat):Int).toNat (ByteArray.empty,((0:Int),((0:Int),((0:Int),(((0:Int),(0:Int)),((0:Int),((0:Int),((0:Int),((0:Int),(0:Int))))))))))⟩:PN)
structure YA where
 res:Int
 p:PK
 ev:EW
def acU (s:YA):LV:=.v<|Y J s.res
def acy (s:YA):List AB:=[AO,AO,zB,AO,bV 67 Ad s.p.cs,bV 101 AP s.p.ls,bV 5 (.int aw) s.p.fl,bV 127 Am s.p.ra,bV 90 B3 s.p.st,bV 55 AP s.p.ca,bV 107 B6 s.p.mi,bV 93 BO s.p.me,bV 57 As s.p.dm,bV 103 BJ s.p.lk,bV 3 A7 s.p.dr,bV 3 A7 s.p.tg,⟨[.os 4 11 0<|M s.p.cs,.xl .str s.p.os,.xl Ah s.p.ks,.xl Af s.p.gs,.xl Ai s.p.bs,.v<|Y J s.p.tk,.v<|.bool s.p.up,.os 5 5 0<|M s.p.ls,.v<|Y J s.p.se,.os 6 1 0<|M s.p.fl,.os 7 2 0<|M s.p.ra,.v<|Y J s.p.nx,.os 8 4 0<|M s.p.st,.os 9 5 0<|M s.p.ca,.os 10 3 0<|M s.p.mi,.os 11 3 0<|M s.p.me,.os 12 4 0<|M s.p.dm,.os 13 6 0<|M s.p.lk,.os 14 1 0<|M s.p.dr,.os 15 1 0<|M s.p.tg,.v<|Y J s.ev.ek,.v<|Y J s.ev.en,.v<|Y J s.ev.em,.v<|Y J s.ev.c1,.v<|Y J s.ev.c2,.v<|Y J s.ev.c3,.v<|Y J s.ev.c4,.v<|Y J s.ev.c5,.v<|.bool s.ev.d1,.v<|Y J s.ev.d2,.v<|Y J s.ev.d3,.v<|Y J s.ev.d4,.v<|.slice aj 0 0],85,.cl,X⟩]
def gA (s:Ml):T YA:=letI a:=s.p.tg.set s.ev.en.toNat s.ev.em;letI b:=(ByteArray.empty,((0:Int),((0:Int),((0:Int),(((0:Int),(0:Int)),((0:Int),((0:Int),((0:Int),((0:Int),(0:Int))))))))));letI c:=((M s.p.cs:Nat):Int);letI d:=((cI<|So s).o.drop 0).take<|M (cI<|So s).o;letI e:=(s.p.cs.drop 0).take<|M s.p.cs;letI f:=M s.p.tg;.br (!(inB s.ev.en (0:Int)<|AA<|c-1)) (.pc s.p<|.ok<|⟨1,s.p,s.ev⟩)<|.ik s.ev.en (M s.p.cs)<|.br (!(inB s.ev.em (1:Int) (s.p.cs.getD s.ev.en.toNat<|Ty.dflt Ad).2.2.1)) (.pc s.p<|.ok<|⟨1,s.p,s.ev⟩)<|.ik s.ev.en f<|.rm 96 c<|.rz s.p.cs<|.rc c b (M e)<|.re f a<|.pa s.p<|.rl s.p.st<|.rl s.p.ca<|.rl s.p.mi<|.rl s.p.me<|.rl s.p.dm<|.rl s.p.lk<|.rl s.p.dr<|.re f a<|.re c.toNat (BC e<|aq c.toNat b)<|.req (UO.q<|So s)<|.rz (cI<|So s).o<|.req (BA d s.p.os s.p.ks s.p.gs s.p.bs=U)<|.br (!E0 d s.p.gs (Bp s.p.gs)) (.pa s.p<|.rl s.p.st<|.rl s.p.ca<|.rl s.p.mi<|.rl s.p.me<|.rl s.p.dm<|.rl s.p.lk<|.rl s.p.dr<|.rl a<|.ok<|⟨13,{s.p with tg:=a},s.ev⟩)<|.pa s.p<|.rl s.p.st<|.rl s.p.ca<|.rl s.p.mi<|.rl s.p.me<|.rl s.p.dm<|.rl s.p.lk<|.rl s.p.dr<|.rl a<|.ok<|⟨0,{s.p with tg:=a},s.ev⟩
def VP.der {p:PK}(h:VP p) {n m:Int}(hn:inB n 0 ((M p.cs:Int)-1)=U) (hm:inB m 1 (Ac p.cs n).2.2.1=U):BA (p.Lc n m).ES p.os p.ks p.gs p.bs=U/\M (p.Lc n m).tg=M p.cs:=by
 have hn:=CM.1 hn
 have hm:=CM.1 hm
 have hl:M (p.Lc n m).tg=M p.cs:=by show M (p.tg.set n.toNat m)=_;rw [Bz];exact h.Eu
 have hk:=fQ h.site (k:=n.toNat) A0
 rw [CL hn.1] at hk;refine ⟨nj h.site (λk hk2=>?_) _ A0,hl⟩
 show 1<=gi (p.tg.set n.toNat m) k/\gi (p.tg.set n.toNat m) k<=1000
 rw [It hn.1 (by have:=h.Eu;omega) A0]
 split
 ·omega
 ·exact h.tg1 k hk2
def aAs (s:Ml):Prop:=VP s.p
def Ti (s:Ml):YA:=⟨PK.Hk s.p s.ev.en s.ev.em,{s.p with tg:=if PK.Hk s.p s.ev.en s.ev.em=1 then s.p.tg else s.p.tg.set s.ev.en.toNat s.ev.em},s.ev⟩
def aBJ:Cx Ml YA:=⟨U6,Ye,λv b=>⟨rF b,rG b⟩,aAs,[0,1,3],[],acU,acy,Ti⟩
abbrev aiZ (s:Ml):Prop:=aAs s/\U6 s=U6 s/\Ye s=Ye s
def aR6:Aw:=kI Ov<|la 4 func46 aGB<|la 2 func41 K8<|la 9 func23 Cn<|l0 Ov
def aTg:DL:=CS 46 17 4 (UO.lp)<|CS 41 18 2 (KT.lp)<|CS 23 0 9 (Gb.lp)<|Du prog AU Ov 20 2
def aoa:EL prog AU aTg:=DD func46 rfl AT aGB<|DD func41 rfl AT K8<|DD func23 rfl AT Cn<|Hb<|gk Ov
def ayP (s:Ml):((Ec prog AU Ov aTg aR6).k 22 (U6 s)<|Ye s).bind (λq=>G6 (M<|Ye s) [0] [] .normal (q.1::U6 s) q.2)=(gA s).mp (λs2=>⟨.normal,M (U6 s)+1,[acU s2],acy s2,U⟩):=AT
theorem avg (s:Ml) (hE:aAs s):(gA s).all (λq=>q=Ti s):=by
 have hs:=D5.1 hE.site
 have ht:=hE.Eu
 have hw:AA (((M s.p.cs:Nat):Int)-1)=(M s.p.cs:Int)-1:=AJ
 unfold gA;rw [hw];simp only [TC,QF]
 have one:(!inB s.ev.en 0 ((M s.p.cs:Int)-1) || !inB s.ev.em 1 (Ac s.p.cs s.ev.en).2.2.1)=U->s.p.Hk s.ev.en s.ev.em=1:=λh=>AD h
 refine ⟨λc=>?_,λc=>?_⟩
 ·have he:=one (by rw [c];rfl)
  repeat (refine ⟨AI,?_⟩)
  show _=_
  unfold Ti;rw [AD he,he]
 have cn:inB s.ev.en 0 ((M s.p.cs:Int)-1)=true:=Ic
 have ci:=CM.1 cn
 have hcd:s.p.cs.getD s.ev.en.toNat (Ty.dflt Ad)=Ac s.p.cs s.ev.en:=by
  rw [DV,DX A0]
  have:=QK (cs:=s.p.cs) (k:=s.ev.en.toNat) A0
  rw [CL ci.1] at this;rw [this];rfl
 rw [hcd]
 repeat (refine ⟨by first|omega|exact ⟨rfl,rfl⟩ |exact ⟨rfl,AI⟩ |(refine ⟨?_,?_⟩<;>(simp;done)) |(rw [Cf];omega),?_⟩)
 refine ⟨λc2=>?_,λc2=>?_⟩
 ·have he:=one (by rw [c2,SU])
  repeat (refine ⟨AI,?_⟩)
  show _=_
  unfold Ti;rw [AD he,he]
 have cm:inB s.ev.em 1 (Ac s.p.cs s.ev.en).2.2.1=true:=EI
 obtain ⟨k1,k2⟩:=hE.der cn cm
 have ho:(So s).o=s.p.cs:=by
  show BC ((s.p.cs.drop 0).take _) _=_
  rw [TC];exact QF
 have hV:k6 (So s):=⟨rfl,by show (M s.p.tg:Int)=(M (s.p.tg.set s.ev.en.toNat s.ev.em):Int);rw [Bz],k2,aNC,ho⟩
 obtain ⟨_,_,_,q2⟩:=au9 _ hV
 have q2:(cI<|So s).o=(s.p.Lc s.ev.en s.ev.em).ES:=q2
 have nb:¬(!inB s.ev.en 0 ((M s.p.cs:Int)-1) || !inB s.ev.em 1 (Ac s.p.cs s.ev.en).2.2.1)=true:=by rw [cn,cm];decide
 rw [q2]
 repeat (refine ⟨A8,?_⟩)
 refine ⟨⟨hV,rfl,rfl⟩,?_⟩
 repeat (refine ⟨A0,?_⟩)
 refine ⟨λc3=>?_,λc3=>?_⟩
 ·have c3:E0 (s.p.Lc s.ev.en s.ev.em).ES s.p.gs (Bp s.p.gs)=false:=N9
  have he:s.p.Hk s.ev.en s.ev.em=13:=by unfold PK.Hk;rw [AE nb,AD c3]
  repeat (refine ⟨AI,?_⟩)
  show _=_
  unfold Ti;rw [AE M9,he]
 ·have c3:¬E0 (s.p.Lc s.ev.en s.ev.em).ES s.p.gs (Bp s.p.gs)=false:=N9
  have he:s.p.Hk s.ev.en s.ev.em=0:=by unfold PK.Hk;rw [AE nb,AE c3]
  repeat (refine ⟨AI,?_⟩)
  show _=_
  unfold Ti;rw [AE M9,he]
def ahr:Df prog AU 22 aBJ.m:=Cx.sound (D:=aBJ) (t:=gA) (gk Ov) aoa aR6.h ayP λs hE=>⟨avg s hE⟩
def aRz:List LV->T LV
 | [.xl (.pair (.int J) (.pair (.int J) (.pair (.int J) (.pair (.int J) (.int J))))) l,.v (.agg ⟨[Y J nu,Y J co,Y J am,Y J fr,Y J tk]⟩)]=> .ok (.AM [Hg l (nu,co,am,fr,tk),FL l (nu,co,am,fr,tk)])
 |_=> .no
def alz:List Bd:=[WS,aJr,aaB]
def aaD:=vo (S:=aRz) func94 alz kN (λargs lv h=>by
 unfold aRz at h;split at h
 ·rename_i l nu co am fr tk
  refine Ap (letI a:=(aq (0:Int).toNat ((0:Int),((0:Int),((0:Int),((0:Int),(0:Int))))));letI b:=(nu,(co,(am,(fr,tk))));letI d:=(M l:Int);letI g:=AA<|d+1;letI i:=(a++l)++([b]);letI f:=((i.drop 0).take<|(0:Int).toNat+M l+M ([b]));.br ((!(B1 l)) ||(!(DA (nu,co,am,fr,tk)))) (.ok<|.AM [.xl AP ([]:List Le),(1:Int)])<|.br (an<|d>0) (.ix (AA<|d-1) (M l)<|.br (!(Ji (Al l<|AA<|d-1) (nu,co,am,fr,tk))) (.ok<|.AM [.xl AP ([]:List Le),(12:Int)])<|.br (d==64) (.ok<|.AM [.xl AP ([]:List Le),(10:Int)])<|.req (0<=(0:Int)/\(0:Int)<=g/\40*g<=2^48/\g<2^63)<|.ra (0:Int).toNat (M a) ((0:Int).toNat+M l) 40<|.ra ((0:Int).toNat+M l) (M<|a++l) ((0:Int).toNat+M l+M ([b])) 40<|.req (0+((0:Int).toNat+M l+M ([b]))<=M i)<|.ok<|.AM [f,(0:Int)])<|.br (d==64) (.ok<|.AM [.xl AP ([]:List Le),(10:Int)])<|.req (0<=(0:Int)/\(0:Int)<=g/\40*g<=2^48/\g<2^63)<|.ra (0:Int).toNat (M a) ((0:Int).toNat+M l) 40<|.ra ((0:Int).toNat+M l) (M<|a++l) ((0:Int).toNat+M l+M ([b])) 40<|.req (0+((0:Int).toNat+M l+M ([b]))<=M i)<|.ok<|.AM [f,(0:Int)]) ?_;obtain rfl:=h
  have bad:∀e:Int,e≠0->FL l (nu,co,am,fr,tk)=e->LV.AM [.xl AP ([]:List Le),.v<|Y J e]=LV.AM [.xl AP<|Hg l (nu,co,am,fr,tk),.v<|Y J<|FL l (nu,co,am,fr,tk)]:=λe h0 h1=>by
   unfold Hg;rw [h1,AE h0]
  refine ⟨λc=>bad 1 Ae ?_,λc=>?_⟩
  ·unfold FL
   grind
  have hk:(B1 l&&DA (nu,co,am,fr,tk))=true:=by revert c;cases B1 l<;>cases DA (nu,co,am,fr,tk)<;>simp
  have hl:M l<=64:=by rw [AY] at hk;exact (Gv hk.1).1
  have w1:AA ((M l:Int)+1)=(M l:Int)+1:=AJ
  have fin:(an (M l>0)&&!Ji (Al l<|(M l:Int)-1) (nu,co,am,fr,tk))=X->M l≠64->LV.AM [.xl AP<|(l++[(nu,co,am,fr,tk)]).take<|0+M l+1,.v<|Y J 0]=LV.AM [.xl AP<|Hg l (nu,co,am,fr,tk),.v<|Y J<|FL l (nu,co,am,fr,tk)]:=λh1 h2=>by
   have e:FL l (nu,co,am,fr,tk)=0:=by unfold FL;rw [AD hk,AE (by rw [h1];simp),AE h2]
   unfold Hg;rw [e,AD rfl,DZ AI]
  have rq:(0<=(0:Int)/\(0:Int)<=AA ((M l:Int)+1)/\40*AA ((M l:Int)+1)<=2^48/\AA ((M l:Int)+1)<2^63):=by rw [w1];omega
  refine ⟨λc2=>?_,λc2=>?_⟩
  ·have c2:0<M l:=by have:=DY c2;omega
   have w2:AA ((M l:Int)-1)=(M l:Int)-1:=AJ
   rw [w2];refine ⟨A0,λc3=>bad 12 Ae ?_,λc3=>⟨λc4=>bad 10 Ae ?_,λc4=>⟨rq,⟨rfl,D4,D4⟩,⟨AI,D4,D4⟩,AI,?_⟩⟩⟩
   ·unfold FL
    rw [AD hk,AD (by rw [c3,Cq c2];rfl)]
   ·unfold FL
    rw [AD hk,AE (by rw [c3];simp),AD yN]
   ·exact fin (by rw [c3,SY]) yN
  ·have c2:¬(M l)>0:=by have:=JN c2;omega
   refine ⟨λc4=>bad 10 Ae ?_,λc4=>⟨rq,⟨rfl,D4,D4⟩,⟨AI,D4,D4⟩,AI,?_⟩⟩
   ·simp at c4;omega
   ·exact fin (by rw [I9 c2,PZ]) A0
 ·cases h)
structure Nl where
 (l0 left l:List Le)
 (n i afp afg av7 av6 ap9:Int)
 o:List (List Int)
def aFr:=bN f149 0
def vB (s:Nl):T (Rd Nl):=letI a:=Al s.l s.i;.br (an<|s.i<s.n) (.ix s.i (M s.l)<|.rb (M s.o) (M<|[Ay a]) 24<|.re (M s.o+M ([Ay a])) (s.o++([Ay a]))<|.nx {s with i:=AA<|s.i+1,o:=s.o++([Ay a])})<|.rl s.o<|.so (.exit 0) s
def jd (s:Nl):Prop:=s.i=0/\s.n<=1000/\s.n=(M s.l:Int)/\(M s.o:Int)<=s.i
def iX (s:Nl):Prop:=0<=s.i/\s.i<=s.n/\s.n<=1000/\s.n=(M s.l:Int)/\(M s.o:Int)<=s.i
def tC (s:Nl):Nat:=(s.n-s.i).toNat
def ac7 (x:Ex) (s s':Nl):Prop:=True
def al6:∀s,jd s->iX s:=by
 exact Zg
theorem azp:Da iX tC ac7 vB:=by
 intro s hI;obtain ⟨h0,h1,h2,h3,h4⟩:=hI;refine AH (λc1=>?_) λc1=>trivial
 have c1:s.i<s.n:=A8
 rw [AJ (x:=s.i+1)];exact ⟨⟨A8,A8,h2,h3,A8⟩,by simp only [tC];omega⟩
def RY:AS Nl:=⟨0,71,[0,4,8,10,11,25,26,27],[.ns 10 0 34<|.sl<|.int aw],λs=>[s.l0,.own 0 0,s.left,.own 1 0,.fn 189 [.own 1 0],s.l,s.n,s.i],λs=>[⟨[s.afp,s.afg,s.av7,s.av6,s.ap9],101,.cl,X⟩,⟨[.os 2 1 0<|M s.o],161,.cl,X⟩,⟨[],34,.vec (.sl<|.int aw) s.o,X⟩],λv b=>⟨B5 AP v 0,B5 AP v 2,B5 AP v 5,AK v 6,AK v 7,Aj b 0 0,Aj b 0 1,Aj b 0 2,Aj b 0 3,Aj b 0 4,Ab (.sl<|.int aw) b 2⟩,vB,λs r=> {s with i:=r.i,o:=r.o},λs=>s,λ_ s=>s,[.exit 0],jd,iX,tC⟩
abbrev mr:=RY.run
abbrev aHV:=RY.At
def axi:Rq iX vB:=by
 intro s hI;refine ⟨λc1=>⟨?_,?_,?_,ak⟩,λc1=>⟨A9,ak⟩⟩
 all_goals ((obtain ⟨h0,h1,h2,h3,h4⟩:=hI;simp only [Aa] at c1;(first|omega|(simp only [Bc,Bn];omega) |(simp only [BD,Bc,Bn,FB]))))
def fY:List Bd:=[eQ,aa3]
def aRB:Aw:=kI fY<|l0 fY
def aQ3:RY.Ok:={}
def aPW:RY.Pf (ac7):=⟨al6,λs h=>rfl,azp,axi⟩
def apl:SA 0 aFr RY:=s1 aQ3 aPW fY aRB
theorem arV:Rs jd aHV mr (λs:Nl=>s.o++(s.l.drop s.i.toNat).map Ay) (λx s' (v:List<|List Int)=>x=.exit 0/\s'.o=v):=DN aQ3 aPW (λs hI=>by
  obtain ⟨h0,h1,h2,h3,h4⟩:=hI;refine AH (λc1=>?_) λc1=>?_
  ·have c1:s.i<s.n:=A8
   rw [AJ (x:=s.i+1)]
   show _++[_]++_=_++_
   rw [(W1 h0 A0).1]
   grind
  ·have c1:s.n<=s.i:=A8
   refine ⟨rfl,?_⟩;rw [En A0]
   simp)
def IM (l:List Le) (x:Le) (t:Int):List (List Int):=if D9 l t=0 then I0 l x t else []
def aSi:List LV->T LV
 | [.xl (.pair (.int J) (.pair (.int J) (.pair (.int J) (.pair (.int J) (.int J))))) l,.v (.agg ⟨[Y J x1,Y J x2,Y J x3,Y J x4,Y J x5]⟩),.v (Y J t)]=> .ok (.AM [.xl (.sl<|.int aw)<|IM l (x1,x2,x3,x4,x5) t,D9 l t])
 |_=> .no
def VT (l:List Le) (x1 x2 x3 x4 x5 t:Int):Nl:=(⟨l,BX l t,BX l t,(M (BX l t):Int),0,x1,x2,x3,x4,x5,([]:List<|List Int)⟩:Nl)
theorem aHM {l:List Le}{t:Int}(h:D9 l t=0):M l<=64/\M (BX l t)<=M l:=by
 unfold D9 at h;split at h
 ·rename_i c
  refine ⟨(Gv (by unfold LX at c;rw [AY] at c;exact c.1)).1,?_⟩
  unfold BX
  grind
 ·cases h
def ai9:=vm (S:=aSi) func149 fY aRB (L:=(λi=>if i=7 then RY.lp else Ak i)) (λb hb=>by
 rw [show BB _=[aFr] by kernel_rfl] at hb
 simp only [B7,Bu,Bt] at hb;subst hb;exact apl) (λargs lv h=>by
 unfold aSi at h;split at h
 ·rename_i l x1 x2 x3 x4 x5 t
  refine Ap (letI a:=mr<|VT l x1 x2 x3 x4 x5 t;letI e:=(x1,x2,x3,x4,x5);letI f:=M a.o+M ([Ay e]);letI j:=(AA<|(M l:Int)-1);letI k:=(M (BX l t):Int);letI m:=M a.o;letI n:=a.o++([Ay e]);letI d:=Al l j;letI g:=(a.o++([Ay d]))++([Ay e]);letI p:=M a.o+M ([Ay d]);letI r:=M<|a.o++([Ay d]);letI b:=M a.o+M ([Ay d])+M ([Ay e]);.br ((D9 l t) !=0) (.ok<|.AM [.xl (.sl<|.int aw) ([]:List<|List Int),(D9 l t)])<|.r0 (List Int)<|.req (RY.q<|VT l x1 x2 x3 x4 x5 t)<|.br (an<|(M l:Int)>0) (.br (k==0) (.ix j (M l)<|.rb m (M<|[Ay d]) 24<|.ra p r b 24<|.req (0+b<=M g)<|.ok<|.AM [.xl (.sl<|.int aw)<|(g.drop 0).take b,(0:Int)])<|.ix (AA<|k-1) (M<|BX l t)<|.ix j (M l)<|.br ((Al (BX l t)<|AA<|k-1).1 !=d.1) (.ix j (M l)<|.rb m (M<|[Ay d]) 24<|.ra p r b 24<|.req (0+b<=M g)<|.ok<|.AM [.xl (.sl<|.int aw)<|(g.drop 0).take b,(0:Int)])<|.rb m (M<|[Ay e]) 24<|.req (0+f<=M n)<|.ok<|.AM [.xl (.sl<|.int aw)<|(n.drop 0).take f,(0:Int)])<|.rb m (M<|[Ay e]) 24<|.req (0+f<=M n)<|.ok<|.AM [.xl (.sl<|.int aw)<|(n.drop 0).take f,(0:Int)]) ?_;obtain rfl:=h;refine ⟨λc=>?_,λc=>?_⟩
  ·have c:D9 l t≠0:=Ic
   unfold IM;rw [AE c];rfl
  have hE:D9 l t=0:=Ic
  obtain ⟨k1,k2⟩:=aHM hE
  have hV:jd (VT l x1 x2 x3 x4 x5 t):=⟨rfl,by show (M (BX l t):Int)<=1000;omega,rfl,y9⟩
  have q:aHV (VT l x1 x2 x3 x4 x5 t)=.exit 0/\(mr<|VT l x1 x2 x3 x4 x5 t).o=(BX l t).map Ay:=arV _ hV
  have hR:IM l (x1,x2,x3,x4,x5) t=I0 l (x1,x2,x3,x4,x5) t:=AD hE
  have w1:=λ_:0<M l=>AJ (x:=(M l:Int)-1)
  have w2:=λ_:0<M (BX l t)=>AJ (x:=(M (BX l t):Int)-1)
  have hL:M (mr<|VT l x1 x2 x3 x4 x5 t).o=M (BX l t):=by rw [q.2,Fz]
  rw [hE,hR];unfold I0;refine ⟨A9,⟨hV,rfl,rfl⟩,λc1=>⟨λc2=>?_,λc2=>?_⟩,λc1=>?_⟩
  ·have c1:0<M l:=AX
   have c2:M (BX l t)=0:=EI
   rw [w1 c1,AD ⟨c1,.inl c2⟩];refine ⟨A0,⟨EZ _,?_,?_⟩,⟨?_,?_,?_⟩,?_,?_⟩
   all_goals first|(simp only [BD,Bc,Bn,hL];omega) |(rw [q.2,CP,DZ lH];simp only [Cm,EF];rfl)
  ·have c1:0<M l:=AX
   have c2:0<M (BX l t):=by simp at c2;exact OH.2 c2
   rw [w1 c1,w2 c2];refine ⟨A0,A0,λc3=>?_,λc3=>?_⟩
   ·rw [AD ⟨c1,.inr N9⟩]
    refine ⟨A0,⟨EZ _,?_,?_⟩,⟨?_,?_,?_⟩,?_,?_⟩
    all_goals first|(simp only [BD,Bc,Bn,hL];omega) |(rw [q.2,CP,DZ lH];simp only [Cm,EF];rfl)
   ·rw [AE (by intro h;rcases h.2 with h|h;omega;simp at c3;exact h c3)]
    refine ⟨⟨EZ _,?_,?_⟩,?_,?_⟩
    all_goals first|(simp only [BD,Bc,Bn,hL];omega) |(rw [q.2,CP,DZ lH];simp only [Cm,EF];rfl)
  ·have c1:¬0<M l:=AX
   rw [AE λh=>c1 h.1]
   refine ⟨⟨EZ _,?_,?_⟩,?_,?_⟩
   all_goals first|(simp only [BD,Bc,Bn,hL];omega) |(rw [q.2,CP,DZ lH];simp only [Cm,EF];rfl)
 ·cases h)
def fc:List Bd:=[]
def ahE:List LV->T LV:=λl=>Bg prog AU (fc) kN Ak f223<|canL l
def aaF:=vo (S:=ahE) func223 fc kN (λargs lv h=>by
 refine ⟨?_⟩
 assumption)
def ahF:List LV->T LV:=λl=>Bg prog AU (fc) kN Ak f228<|canL l
def aaG:=vo (S:=ahF) func228 fc kN (λargs lv h=>by
 refine ⟨?_⟩
 assumption)
def oJ {l:List Int}{n:Nat}(h:M l=n):BC l (aq n (0:Int))=l:=by
 unfold BC
 simp_all
def na {l:List Int}{n:Nat}(h:M l=n):((BC ((l.drop 0).take n)<|aq n (0:Int)).drop 0).take n=l:=by
 rw [CP,CP,DZ (l:=l) A0,oJ h,DZ A0]
theorem Wa {l:List Int}{n:Nat}(h:M l=n):(l.drop 0).take n=l:=by
 grind
def zP:Array Tmp×Code×Code:=((Ik<|f224.body.getD .skip)[0]?).getD (#[],.skip,.skip)
def ab2:Array Tmp:=zP.1
def ab7:Code:=zP.2.1
def ab5:Code:=zP.2.2
structure Lr where
 (n i HZ:Int)
 (HY b1:List Int)
 ni:Int
 GP:List Int
 (b3 b4 HW:Int)
 b9:List Fl
 b10:List Int
 st:LS
def Kj (s:Lr):List Int:=(s.b10.set (AA<|s.b3+s.i).toNat<|Bf aw (s.b10.getD (AA<|s.b3+s.i).toNat<|Ty.dflt<|.int aw)<|gi s.b1 s.i)
def lpC (s:Lr):List Int:=((BC (((Kj s).drop 0).take<|M s.b10)<|aq ((M s.b10:Nat):Int).toNat (0:Int)).drop 0)
def m7 (s:Lr):T (Rd Lr):=letI a:=((M s.b10:Nat):Int);letI b:=(s.HW,(lpC s).take a.toNat);letI c:=M s.b10;letI d:=((Kj s).drop 0).take c;.br (an<|s.i<s.n) (.ik (AA<|s.b3+s.i) c<|.ix s.i (M s.b1)<|.ik (AA<|s.b3+s.i) c<|.rm 1 a<|.req (0+c<=M (Kj s))<|.rc a (0:Int) (M d)<|.req (0+a.toNat<=M (BC d<|aq a.toNat (0:Int)))<|.rb (M s.b9) (M<|[b]) 32<|.re (M s.b9+M ([b])) (s.b9++([b]))<|.re c (Kj s)<|.nx {s with i:=AA<|s.i+1,b9:=s.b9++([b]),b10:=Kj s})<|.rl s.b9<|.rl s.b10<|.so (.exit 0) s
def ml (s:Lr):Prop:=s.st=.ready/\s.i=0/\(s.n=(M s.b1:Int)/\0<=s.n/\0<=s.b3/\s.b3+s.n<=(M s.GP:Int)/\M s.GP<=4096)/\s.b10=Dh s.GP s.b3 s.b1 0/\s.b9=[(s.HW,Dh s.GP s.b3 s.b1 0)]
def bE (s:Lr):Prop:=s.st=.ready/\(0<=s.i/\s.i<=s.n)/\(s.n=(M s.b1:Int)/\0<=s.n/\0<=s.b3/\s.b3+s.n<=(M s.GP:Int)/\M s.GP<=4096)/\s.b10=Dh s.GP s.b3 s.b1 s.i.toNat/\s.b9=(au<|s.i.toNat+1).map (λk:Nat=>(s.HW,Dh s.GP s.b3 s.b1 k))
def zi (s:Lr):Nat:=(s.n-s.i).toNat
def wP (x:Ex) (s s':Lr):Prop:=x=.exit 0/\s'.b9=Dl s'.HW s'.GP s'.b3 s'.b1
theorem amI:∀s,ml s->bE s:=by
 exact aLb
def al2:Da bE zi wP m7:=by
 intro s hI;unfold m7;refine AH (λc1=>?_) λc1=>?_
 ·obtain ⟨ht,⟨h0,h1⟩,⟨hn,hn0,ha,hl,h4⟩,hb,ho⟩:=hI
  have hbl:M s.b10=M s.GP:=aNe
  have c1:s.i<s.n:=AX
  have wa:AA (s.b3+s.i)=s.b3+s.i:=AJ
  have hB:Kj s=Dh s.GP s.b3 s.b1 (s.i.toNat+1):=aMl
  have hBl:M (Kj s)=M s.GP:=aNf
  have hC:(lpC s).take ((M s.b10:Nat):Int).toNat=Kj s:=aN3
  rw [AJ (x:=s.i+1)]
  have et:(s.i+1).toNat=s.i.toNat+1:=A0
  refine ⟨⟨ht,⟨AZ,AZ⟩,⟨hn,hn0,ha,hl,h4⟩,?_,?_⟩,by simp only [zi];omega⟩
  ·simp only [et]
   exact hB
  ·simp only [et]
   rw [SW,Jv,<-ho,EG,Ky,<-hB,<-hC]
 ·obtain ⟨ht,⟨h0,h1⟩,⟨hn,hn0,ha,hl,h4⟩,hb,ho⟩:=hI
  have c1:s.n<=s.i:=AX
  refine ⟨rfl,?_⟩;rw [ho]
  have e:s.i.toNat=M s.b1:=A0
  rw [e];rfl
def bL:AS Lr:=⟨8,41,[0,3,4,6,15,16],[],λs=>[.CK 7,.own 5 0,.own 3 0,.own 8 0,s.n,s.i],λs=>[⟨[s.HZ,.xl (.int aw) s.HY],36,.cl,X⟩,⟨[.xl (.int aw) s.b1],34,.cl,X⟩,⟨[s.ni,.xl (.int aw) s.GP],36,.cl,X⟩,⟨[s.b3],3,.cl,X⟩,⟨[s.b4],3,.cl,X⟩,⟨[.fn 223 [.own 1 0]],330,.cl,X⟩,⟨[.os 9 2 0<|M s.b9],202,.cl,X⟩,⟨[.junk,.junk,.junk,.own 6 0,.v<|.tuple #[],.junk,.v<|.tuple #[],.v<|.tuple #[],.v<|.tuple #[],.v<|.tuple #[],.v<|.tuple #[],.junk],0,.Cc ab2 ab7 ab5 s.st,X⟩,⟨[s.HW,.os 10 1 0<|M s.b10],36,.cl,X⟩,bV 36 Bh s.b9,bV 5 (.int aw) s.b10],λv b=>⟨AK v 4,AK v 5,Aj b 0 0,AF (.int aw) b 0 1,AF (.int aw) b 1 0,Aj b 2 0,AF (.int aw) b 2 1,Aj b 3 0,Aj b 4 0,Aj b 8 0,Ab Bh b 9,Ab (.int aw) b 10,.ready⟩,m7,λs r=> {r with n:=s.n,HZ:=s.HZ,HY:=s.HY,b1:=s.b1,ni:=s.ni,GP:=s.GP,b3:=s.b3,b4:=s.b4,HW:=s.HW,st:=s.st},λs=> {s with st:=.ready},λx s=> {s with st:=(match x with| .exit 0=> .ready|_=> .ready)},[.exit 0],ml,bE,zi⟩
abbrev eE:=bL.run
abbrev agT:=bL.At
def u0:List Bd:=[XH,aaF]
def az2:Aw:=kI u0<|l0 u0
theorem ajz:Rq bE m7:=by
 intro s hI;refine ⟨λc1=>⟨?_,?_,?_,?_,?_,?_,?_,?_,?_,?_,?_,?_,ak⟩,λc1=>⟨A9,A9,ak⟩⟩
 all_goals ((obtain ⟨ht,⟨h0,h1⟩,⟨hn,hn0,ha,hl,h4⟩,hb,ho⟩:=hI;have hbl:M s.b10=M s.GP:=aNe;have c1:s.i<s.n:=A8;have wa:AA (s.b3+s.i)=s.b3+s.i:=AJ;have hB:Kj s=Dh s.GP s.b3 s.b1 (s.i.toNat+1):=aMl;have hBl:M (Kj s)=M s.GP:=aNf;have hC:(lpC s).take ((M s.b10:Nat):Int).toNat=Kj s:=aN3;(first|omega|exact ⟨rfl,AI⟩ |(rw [wa];omega) |(rw [hC];simp only [BD,Bc,Bn,ho,Fz,SI,FB];omega) |(rw [hBl];omega) |(rw [Bx,Cf,Wa A0];omega) |(rw [Bx,Wa A0,oJ A0];omega))))
def aao:bL.Ok:={}
def aaX:bL.Pf (wP):=⟨amI,λs h=>by
 obtain ⟨n,i,HZ,HY,b1,ni,GP,b3,b4,HW,b9,b10,st⟩:=s
 have e:=h.1
 subst e;rfl,al2,ajz⟩
def s9:=s2 (b:=bN f230 0) aao aaX u0 az2
def azg:Fi ml bE wP agT eE:=AS.fin aao aaX
structure Ls where
 (n i HZ:Int)
 HY:List Int
 Vo:Int
 FZ:List Int
 (b2 b3 HW:Int)
 b8:List Fl
 b9:List Int
 st:LS
def leB (s:Ls):List Int:=(s.b9.set (AA<|s.b2+s.i).toNat (255:Int))
def leC (s:Ls):List Int:=((BC (((leB s).drop 0).take<|M s.b9)<|aq ((M s.b9:Nat):Int).toNat (0:Int)).drop 0)
def m8 (s:Ls):T (Rd Ls):=letI a:=((M s.b9:Nat):Int);letI b:=(s.HW,(leC s).take a.toNat);letI c:=M s.b9;letI d:=((leB s).drop 0).take c;.br (an<|s.i<s.n) (.ik (AA<|s.b2+s.i) c<|.ik (AA<|s.b2+s.i) c<|.rm 1 a<|.req (0+c<=M (leB s))<|.rc a (0:Int) (M d)<|.req (0+a.toNat<=M (BC d<|aq a.toNat (0:Int)))<|.rb (M s.b8) (M<|[b]) 32<|.re (M s.b8+M ([b])) (s.b8++([b]))<|.re c (leB s)<|.nx {s with i:=AA<|s.i+1,b8:=s.b8++([b]),b9:=leB s})<|.rl s.b8<|.rl s.b9<|.so (.exit 0) s
def mq (s:Ls):Prop:=s.st=.ready/\s.i=0/\(s.n=s.n/\0<=s.n/\0<=s.b2/\s.b2+s.n<=(M s.FZ:Int)/\M s.FZ<=4096)/\s.b9=Ej s.FZ s.b2 0/\s.b8=[(s.HW,Ej s.FZ s.b2 0)]
def bF (s:Ls):Prop:=s.st=.ready/\(0<=s.i/\s.i<=s.n)/\(s.n=s.n/\0<=s.n/\0<=s.b2/\s.b2+s.n<=(M s.FZ:Int)/\M s.FZ<=4096)/\s.b9=Ej s.FZ s.b2 s.i.toNat/\s.b8=(au<|s.i.toNat+1).map (λk:Nat=>(s.HW,Ej s.FZ s.b2 k))
def zk (s:Ls):Nat:=(s.n-s.i).toNat
def wQ (x:Ex) (s s':Ls):Prop:=x=.exit 0/\s'.b8=(au<|s'.n.toNat+1).map (λk:Nat=>(s'.HW,Ej s'.FZ s'.b2 k))
theorem amK:∀s,mq s->bF s:=by
 exact aLb
def al4:Da bF zk wQ m8:=by
 intro s hI;unfold m8;refine AH (λc1=>?_) λc1=>?_
 ·obtain ⟨ht,⟨h0,h1⟩,⟨hn,hn0,ha,hl,h4⟩,hb,ho⟩:=hI
  have hbl:M s.b9=M s.FZ:=aO2
  have c1:s.i<s.n:=AX
  have wa:AA (s.b2+s.i)=s.b2+s.i:=AJ
  have hB:leB s=Ej s.FZ s.b2 (s.i.toNat+1):=aMm
  have hBl:M (leB s)=M s.FZ:=aO3
  have hC:(leC s).take ((M s.b9:Nat):Int).toNat=leB s:=aN4
  rw [AJ (x:=s.i+1)]
  have et:(s.i+1).toNat=s.i.toNat+1:=A0
  refine ⟨⟨ht,⟨AZ,AZ⟩,⟨hn,hn0,ha,hl,h4⟩,?_,?_⟩,by simp only [zk];omega⟩
  ·simp only [et]
   exact hB
  ·simp only [et]
   rw [SW,Jv,<-ho,EG,Ky,<-hB,<-hC]
 ·obtain ⟨ht,⟨h0,h1⟩,⟨hn,hn0,ha,hl,h4⟩,hb,ho⟩:=hI
  have c1:s.n<=s.i:=AX
  refine ⟨rfl,?_⟩;rw [ho]
  have e:s.i.toNat=s.n.toNat:=A0
  rw [e]
def bM:AS Ls:=⟨7,41,[0,3,4,6,15,16],[],λs=>[.CK 6,.own 4 0,.own 2 0,.own 7 0,s.n,s.i],λs=>[⟨[s.HZ,.xl (.int aw) s.HY],36,.cl,X⟩,⟨[s.Vo,.xl (.int aw) s.FZ],36,.cl,X⟩,⟨[s.b2],3,.cl,X⟩,⟨[s.b3],3,.cl,X⟩,⟨[.fn 228 []],330,.cl,X⟩,⟨[.os 8 2 0<|M s.b8],202,.cl,X⟩,⟨[.junk,.junk,.junk,.own 5 0,.v<|.tuple #[],.junk,.v<|.tuple #[],.v<|.tuple #[],.v<|.tuple #[],.v<|.tuple #[],.v<|.tuple #[],.junk],0,.Cc ab2 ab7 ab5 s.st,X⟩,⟨[s.HW,.os 9 1 0<|M s.b9],36,.cl,X⟩,bV 36 Bh s.b8,bV 5 (.int aw) s.b9],λv b=>⟨AK v 4,AK v 5,Aj b 0 0,AF (.int aw) b 0 1,Aj b 1 0,AF (.int aw) b 1 1,Aj b 2 0,Aj b 3 0,Aj b 7 0,Ab Bh b 8,Ab (.int aw) b 9,.ready⟩,m8,λs r=> {r with n:=s.n,HZ:=s.HZ,HY:=s.HY,Vo:=s.Vo,FZ:=s.FZ,b2:=s.b2,b3:=s.b3,HW:=s.HW,st:=s.st},λs=> {s with st:=.ready},λx s=> {s with st:=(match x with| .exit 0=> .ready|_=> .ready)},[.exit 0],mq,bF,zk⟩
abbrev WV:=bM.run
abbrev agV:=bM.At
def tz:List Bd:=[XH,aaG]
def azb:Aw:=kI tz<|la 3 func230 s9<|l0 tz
theorem ak1:Rq bF m8:=by
 intro s hI;refine ⟨λc1=>⟨?_,?_,?_,?_,?_,?_,?_,?_,?_,?_,?_,ak⟩,λc1=>⟨A9,A9,ak⟩⟩
 all_goals ((obtain ⟨ht,⟨h0,h1⟩,⟨hn,hn0,ha,hl,h4⟩,hb,ho⟩:=hI;have hbl:M s.b9=M s.FZ:=aO2;have c1:s.i<s.n:=A8;have wa:AA (s.b2+s.i)=s.b2+s.i:=AJ;have hB:leB s=Ej s.FZ s.b2 (s.i.toNat+1):=aMm;have hBl:M (leB s)=M s.FZ:=aO3;have hC:(leC s).take ((M s.b9:Nat):Int).toNat=leB s:=aN4;(first|omega|exact ⟨rfl,AI⟩ |(rw [wa];omega) |(rw [hC];simp only [BD,Bc,Bn,ho,Fz,SI,FB];omega) |(rw [hBl];omega) |(rw [Bx,Cf,Wa A0];omega) |(rw [Bx,Wa A0,oJ A0];omega))))
def aaq:bM.Ok:={}
def aac:bM.Pf (wQ):=⟨amK,λs h=>by
 obtain ⟨n,i,HZ,HY,Vo,FZ,b2,b3,HW,b8,b9,st⟩:=s
 have e:=h.1
 subst e;rfl,al4,ak1⟩
def aOI:=s2 (b:=bN f230 0) aaq aac tz azb
def azl:Fi mq bF wQ agV WV:=AS.fin aaq aac
def Ud (se:Int) (fl:List Int) (a:Int) (d:List Int):List Fl:=if Ez se fl a d=0 then Dl se fl a d else []
def Dy (se:Int) (fl:List Int) (s:Int):List Fl:=if Hu se fl s=0 then Ku se fl s else []
def aSC:List LV->T LV
 | [.agg [.v (Y J se),.xl (.int aw) fl],.v (Y J at_),.xl (.int aw) d]=> .req (M d<=1000000) (.ok<|.AM [.xl Bh<|Ud se fl at_ d,Ez se fl at_ d])
 |_=> .no
def adV (se:Int) (fl:List Int) (at_:Int) (d:List Int):Lr:=(⟨(M d:Int),0,se,fl,d,se,fl,at_,(M d:Int),se,[(se,((BC (((BC fl<|aq (M fl:Int).toNat (0:Int)).drop 0).take (M fl:Int).toNat)<|aq (((M fl:Int).toNat:Nat):Int).toNat (0:Int)).drop 0).take (((M fl:Int).toNat:Nat):Int).toNat)],BC fl<|aq (M fl:Int).toNat (0:Int),.ready⟩:Lr)
def tw:List Bd:=[XH,aaF]
def aza:Aw:=kI tw<|la 3 func230 aOI<|la 3 func230 s9<|l0 tw
def aiD:=vo (S:=aSC) func215 tw aza (λargs lv h=>by
 unfold aSC at h;split at h
 ·rename_i se fl at_ d
  refine Ap (letI b:=(M fl:Int);letI c:=(BC fl<|aq b.toNat (0:Int));letI e:=((b.toNat:Nat):Int);letI g:=adV se fl at_ d;letI i:=(c.drop 0).take b.toNat;letI a:=(BC i<|aq e.toNat (0:Int));letI f:=(se,(a.drop 0).take e.toNat);.br ((!(HM se fl)) ||(an<|at_<0)) (.ok<|.AM [.xl Bh ([]:List Fl),(1:Int)])<|.br (an<|at_>(AA<|b-(M d:Int))) (.ok<|.AM [.xl Bh ([]:List Fl),(3:Int)])<|.rm 1 b<|.rc b (0:Int) (M fl)<|.rm 1 e<|.req (0+b.toNat<=M c)<|.rc e (0:Int) (M i)<|.req (0+e.toNat<=M a)<|.req ((M ([f]):Int)*32<=2^47/\(M ([f]):Int)<2^62)<|.rl ([f])<|.re b.toNat c<|.req (bL.q g)<|.rz (eE g).b9<|.ok<|.AM [.xl Bh<|((eE g).b9.drop 0).take<|M (eE g).b9,(0:Int)]) ?_;obtain ⟨hd,rfl⟩:=h;refine ⟨λc1=>?_,λc1=>⟨λc2=>?_,λc2=>?_⟩⟩
  ·have hE:Ez se fl at_ d=1:=by unfold Ez;rw [AD c1]
   unfold Ud;rw [hE];rfl
  all_goals have c1':HM se fl=U/\0<=at_:=by simp at c1;omega
  all_goals have hv:=NN.1 c1'.1
  all_goals rw [AJ (x:=(M fl:Int)-(M d:Int))] at c2
  ·have hE:Ez se fl at_ d=3:=by unfold Ez;rw [AE aD,AD<|DY c2]
   unfold Ud;rw [hE];rfl
  have c2:at_<=(M fl:Int)-(M d:Int):=EI
  have hE:Ez se fl at_ d=0:=by unfold Ez;rw [AE aD,AE A0]
  have z1:BC fl (aq (M fl:Int).toNat (0:Int))=fl:=aO8
  have z2:((BC (((BC fl<|aq (M fl:Int).toNat (0:Int)).drop 0).take (M fl:Int).toNat)<|aq (((M fl:Int).toNat:Nat):Int).toNat (0:Int)).drop 0).take (((M fl:Int).toNat:Nat):Int).toNat=fl:=by
   rw [z1,Bx,Bx];exact na rfl
  have z5:BC (((BC fl<|aq (M fl:Int).toNat (0:Int)).drop 0).take (M fl:Int).toNat) (aq (((M fl:Int).toNat:Nat):Int).toNat (0:Int))=fl:=by
   grind
  have z6:((BC fl<|aq (M fl:Int).toNat (0:Int)).drop 0).take (M fl:Int).toNat=fl:=by
   rw [z1,Bx,Wa rfl]
  have hL:ml (adV se fl at_ d):=⟨rfl,rfl,⟨rfl,by show (0:Int)<=(M d:Int);omega,c1'.2,by show at_+(M d:Int)<=(M fl:Int);omega,hv.2.2.2.1⟩,z1,aNl⟩
  obtain ⟨s',_,q1,q2⟩:=azg _ hL;refine ⟨?_,?_,?_,?_,?_,?_,?_,A9,?_,⟨hL,rfl,rfl⟩,A0,?_⟩
  iterate 8 · (first|omega|(rw [z6,Cf];omega) |(rw [Cf];omega) |(rw [z5];omega) |(rw [z1];omega) |(simp only [Bc,Bn];decide))
  unfold Ud;rw [AD hE,hE,CP,DZ<|Ax _,q2];rfl
 ·cases h)
def aSn:List LV->T LV
 | [.agg [.v (Y J se),.xl (.int aw) fl],.v (Y J sc)]=> .ok (.AM [.xl Bh<|Dy se fl sc,Hu se fl sc])
 |_=> .no
def nQ (se:Int) (fl:List Int) (sc:Int):Ls:=(⟨se,0,se,fl,se,fl,AA<|sc*se,se,se,[(se,((BC (((BC fl<|aq (M fl:Int).toNat (0:Int)).drop 0).take (M fl:Int).toNat)<|aq (((M fl:Int).toNat:Nat):Int).toNat (0:Int)).drop 0).take (((M fl:Int).toNat:Nat):Int).toNat)],BC fl<|aq (M fl:Int).toNat (0:Int),.ready⟩:Ls)
def tv:List Bd:=[XH,aaG]
def azZ:Aw:=kI tv<|la 3 func230 aOI<|la 3 func230 s9<|l0 tv
def aaI:=vo (S:=aSn) func219 tv azZ (λargs lv h=>by
 unfold aSn at h;split at h
 ·rename_i se fl sc
  refine Ap (letI b:=(M fl:Int);letI c:=(BC fl<|aq b.toNat (0:Int));letI d:=((b.toNat:Nat):Int);letI f:=nQ se fl sc;letI g:=(c.drop 0).take b.toNat;letI a:=(BC g<|aq d.toNat (0:Int));letI e:=(se,(a.drop 0).take d.toNat);.br (!(HM se fl)) (.ok<|.AM [.xl Bh ([]:List Fl),(1:Int)])<|.br (an<|sc<0) (.ok<|.AM [.xl Bh ([]:List Fl),(1:Int)])<|.req (se≠0)<|.br (an<|sc>=(AA<|b.tdiv se)) (.ok<|.AM [.xl Bh ([]:List Fl),(1:Int)])<|.rm 1 b<|.rc b (0:Int) (M fl)<|.rm 1 d<|.req (0+b.toNat<=M c)<|.rc d (0:Int) (M g)<|.req (0+d.toNat<=M a)<|.req ((M ([e]):Int)*32<=2^47/\(M ([e]):Int)<2^62)<|.rl ([e])<|.re b.toNat c<|.req (bM.q f)<|.rz (WV f).b8<|.ok<|.AM [.xl Bh<|((WV f).b8.drop 0).take<|M (WV f).b8,(0:Int)]) ?_;obtain rfl:=h
  have bad:Hu se fl sc=1->LV.AM [.xl Bh ([]:List Fl),.v<|Y J 1]=LV.AM [.xl Bh<|Dy se fl sc,.v<|Y J<|Hu se fl sc]:=λhE=>by unfold Dy;rw [hE];rfl
  refine ⟨λc1=>bad ?_,λc1=>⟨λc2=>bad ?_,λc2=>⟨?_,λc3=>bad ?_,λc3=>?_⟩⟩⟩
  ·unfold Hu;rw [AD (by rw [c1];rfl)]
  ·unfold Hu;rw [AD<|by rw [c2,Bool.true_or,SU]]
  all_goals have hv:=NN.1 AX
  ·omega
  all_goals have hd:0<=(M fl:Int).tdiv se/\(M fl:Int).tdiv se<=(M fl:Int):=(by rw [I4 A0];exact ⟨SX A0 A0,V1 _ A0⟩)
  all_goals (rw [AJ (x:=(M fl:Int).tdiv se)] at c3)
  ·unfold Hu;rw [AD<|by rw [c3,SU,SU]]
  have hE:Hu se fl sc=0:=by unfold Hu;rw [AE (by rw [c1,c2,c3];decide)]
  have c2:0<=sc:=EI
  have c3:sc<(M fl:Int).tdiv se:=N9
  have hm:sc*se+se<=(M fl:Int):=by
   have h1:(sc+1)*se<=(M fl:Int).tdiv se*se:=SS A0 A0
   have h2:(M fl:Int).tdiv se*se<=(M fl:Int):=by
    rw [I4 A0];exact Int.ediv_mul_le _ A0
   have h3:(sc+1)*se=sc*se+se:=by rw [Int.add_mul,Za]
   omega
  have hn:0<=sc*se:=Ia c2 A0
  have wm:AA (sc*se)=sc*se:=AJ
  have z1:BC fl (aq (M fl:Int).toNat (0:Int))=fl:=aO8
  have z2:((BC (((BC fl<|aq (M fl:Int).toNat (0:Int)).drop 0).take (M fl:Int).toNat)<|aq (((M fl:Int).toNat:Nat):Int).toNat (0:Int)).drop 0).take (((M fl:Int).toNat:Nat):Int).toNat=fl:=by
   rw [z1,Bx,Bx];exact na rfl
  have z5:BC (((BC fl<|aq (M fl:Int).toNat (0:Int)).drop 0).take (M fl:Int).toNat) (aq (((M fl:Int).toNat:Nat):Int).toNat (0:Int))=fl:=by
   grind
  have z6:((BC fl<|aq (M fl:Int).toNat (0:Int)).drop 0).take (M fl:Int).toNat=fl:=by
   rw [z1,Bx,Wa rfl]
  have hL:mq (nQ se fl sc):=⟨rfl,rfl,⟨rfl,by show (0:Int)<=se;omega,by show 0<=AA (sc*se);omega,by show AA (sc*se)+se<=(M fl:Int);omega,hv.2.2.2.1⟩,z1,aNl⟩
  obtain ⟨s',_,q1,q2⟩:=azl _ hL
  have q2:(WV<|nQ se fl sc).b8=(au<|se.toNat+1).map (λk:Nat=>(se,Ej fl (AA<|sc*se) k)):=q2
  rw [wm] at q2
  have q2:(WV<|nQ se fl sc).b8=Ku se fl sc:=q2
  refine ⟨?_,?_,?_,?_,?_,?_,?_,A9,?_,⟨hL,rfl,rfl⟩,A0,?_⟩
  iterate 8 · (first|omega|(rw [z6,Cf];omega) |(rw [Cf];omega) |(rw [z5];omega) |(rw [z1];omega) |(simp only [Bc,Bn];decide))
  unfold Dy;rw [AD hE,hE,CP,DZ<|Ax _,q2];rfl
 ·cases h)
def auN:List LV->T LV:=λ_=> .no
def cb:VV 1000202 auN:=by
 exact xa
def BR (al:List Fl):Fl:=G8 al<|(M al:Int)-1
def J9 (al:List Fl) (er a:Int) (d:List Int):Int:=if Ez (BR al).1 (BR al).2 a d=0 then er else Ez (BR al).1 (BR al).2 a d
def Kn (al:List Fl) (a:Int) (d:List Int):List Fl:=if Ez (BR al).1 (BR al).2 a d=0 then al++(Dl (BR al).1 (BR al).2 a d).drop 1 else al
def aRh:Uq:=λi=>if i=10 then ah ([9,10,11],[]) else if i=11 then ah ([9,10,11],[]) else aj
structure Ga where
 at_:Int
 d:List Int
 er:Int
 al:List Fl
def UR (s:Ga):List LV:=[.own 0 0,s.at_,.xl (.int aw) s.d]
def YW (s:Ga):List AB:=[⟨[.os 1 2 0<|M s.al,s.er],323,.cl,X⟩,bV 36 Bh s.al]
structure XU where
 er:Int
 al:List Fl
def abC (s:XU):LV:=.v<|.tuple #[]
def abv (s:XU):List AB:=[⟨[.os 2 2 0<|M s.al,s.er],323,.cl,X⟩,⟨[],36,.dead,X⟩,bV 36 Bh s.al]
def aBN (s:Ga):Int:=(AA<|((M s.al:Nat):Int)-1)
def Vh (s:Ga):Fl:=(s.al.getD (aBN s).toNat<|Ty.dflt Bh)
def gP (s:Ga):T XU:=letI c:=Ez (Vh s).1 (Vh s).2 s.at_ s.d;letI e:=Ud (Vh s).1 (Vh s).2 s.at_ s.d;letI b:=(M e:Int);letI a:=((e.drop (1:Int).toNat).take<|b.toNat-(1:Int).toNat);.ik (aBN s) (M s.al)<|.req (M s.d<=1000000)<|.br (!(c==(0:Int))) (.rl s.al<|.ok<|⟨c,s.al⟩)<|.req (0<=(1:Int)/\(1:Int)<=b/\b<=b)<|.rb (M s.al) (M a) 32<|.re (M s.al+M a) (s.al++a)<|.ok<|⟨s.er,s.al++a⟩
def aB4 (s:Ga):Prop:=s.al≠ []/\M s.al<=4000000/\M s.d<=5000
def zV (s:Ga):XU:=⟨J9 s.al s.er s.at_ s.d,Kn s.al s.at_ s.d⟩
def UJ:Cx Ga XU:=⟨UR,YW,λv b=>⟨AK v 1,B5 (.int aw) v 2,Aj b 0 1,Ab Bh b 1⟩,aB4,[],[.ms 1 0],abC,abv,zV⟩
abbrev fV (s:Ga):Prop:=aB4 s/\UR s=UR s/\YW s=YW s
def Wm:List Bd:=[aiD,gL,cb]
def aRD:Aw:=kI Wm<|l0 Wm
def aTD:DL:=Du prog AU Wm 20 2
def aoS:EL prog AU aTD:=Hb<|gk Wm
def az0 (s:Ga):((Ec prog AU Wm aTD aRD).k 187 (UR s)<|YW s).bind (λq=>G6 (M<|YW s) [0] [.ms 1 0] .normal (q.1::UR s) q.2)=(gP s).mp (λs2=>⟨.normal,M (UR s)+1,[abC s2],abv s2,U⟩):=AT
theorem avX (s:Ga) (hE:aB4 s):(gP s).all (λq=>q=zV s):=by
 obtain ⟨h0,h1,h2⟩:=hE
 have hp:=OH.2 h0
 have w:aBN s=(M s.al:Int)-1:=AJ
 have hY:Vh s=BR s.al:=by unfold Vh BR G8;rw [w];rfl
 unfold gP zV J9 Kn;rw [w,hY];refine ⟨A0,A0,A0,λc1=>?_,λc1=>?_⟩
 ·have c1:¬Ez (BR s.al).1 (BR s.al).2 s.at_ s.d=0:=A8
  rw [AE c1,AE c1];exact ⟨A9,rfl⟩
 ·have c1:Ez (BR s.al).1 (BR s.al).2 s.at_ s.d=0:=A8
  have hR:Ud (BR s.al).1 (BR s.al).2 s.at_ s.d=Dl (BR s.al).1 (BR s.al).2 s.at_ s.d:=AD c1
  have hl:M (Dl (BR s.al).1 (BR s.al).2 s.at_ s.d)=M s.d+1:=by unfold Dl;simp
  rw [AD c1,AD c1,hR,hl];rw [DZ A8];refine ⟨A0,A8,AI,rfl⟩
def fi:Df prog AU 187 UJ.m:=Cx.sound (D:=UJ) (t:=gP) (gk Wm) aoS aRD.h az0 λs hE=>⟨avX s hE⟩
def JK:Int->List (List Int)->Bool
 |_,[]=>U
 |left,d::ds=>if (an ((M d:Int)>65535) ||an (7+(M d:Int)>left))=U then X else JK (left-(7+(M d:Int))) ds
theorem aRQ:∀(ds:List<|List Int) (left:Int),0<=left->JK left ds=(an ((((ds.map λd=>7+M d).sum:Nat):Int)<=left)&&ds.all (λd=>an<|M d<=65535))
 | [],left,h=>by simp [JK,h]
 | d::ds,left,h=>by
  simp only [JK,EG,List.sum_cons,IW];split
  ·rename_i hc
   rw [Eq.comm,I2];intro hh;simp only [Cl,AY,Aa] at hc hh;omega
  ·rename_i hc
   simp only [Cl,Aa,not_or] at hc;rw [aRQ ds _ A0,IY]
   grind
structure Lu where
 r:Bool
 left:Int
 l:List (List Int)
 (n i:Int)
def aJG:=bN f190 0
def aBO (s:Lu):T (Rd Lu):=
 .br (an<|s.i<s.n) (.ix s.i (M s.l)<|.br ((an<|(M (gx (e:=.sl<|.int aw) s.l s.i):Int)>65535) ||(an<|(AA<|7+(M (gx (e:=.sl<|.int aw) s.l s.i):Int))>s.left)) (.so (.ret) {s with r:=X})<|.nx {s with left:=AA<|s.left-(AA<|7+(M (gx (e:=.sl<|.int aw) s.l s.i):Int)),i:=AA<|s.i+1}) (.so (.exit 0) s)
def mT (s:Lu):Prop:=s.i=0/\s.n<=5000/\s.n=(M s.l:Int)/\Hs s.l/\0<=s.left/\s.left<=100000
def mZ (s:Lu):Prop:=0<=s.i/\s.i<=s.n/\s.n<=5000/\s.n=(M s.l:Int)/\Hs s.l/\0<=s.left/\s.left<=100000
def zm (s:Lu):Nat:=(s.n-s.i).toNat
def aKe (x:Ex) (s s':Lu):Prop:=True
def an2:∀s,mT s->mZ s:=by
 exact Zg
theorem amF:Da mZ zm aKe aBO:=by
 intro s hI;obtain ⟨h0,h1,h2,h3,h4,h5,h6⟩:=hI;refine AH (λc1=>AH (λc2=>trivial) λc2=>?_) λc1=>trivial
 ·have c1:s.i<s.n:=A8
  have hk:=We h4 h0 A0
  have w:AA (7+(M (gx (e:=.sl<|.int aw) s.l s.i):Int))=7+(M (gx (e:=.sl<|.int aw) s.l s.i):Int):=AJ
  rw [w,AJ (x:=s.i+1),AJ (x:=s.left-(7+(M (gx (e:=.sl<|.int aw) s.l s.i):Int)))];exact ⟨⟨A8,A8,h2,h3,h4,A8,A8⟩,by simp only [zm];omega⟩
def SD:AS Lu:=⟨0,32,[4,5,10,11,12],[],λs=>[s.r,s.left,.xl (.sl<|.int aw) s.l,s.n,s.i],λ_=>[],λv b=>⟨EO v 0,AK v 1,B5 (.sl<|.int aw) v 2,AK v 3,AK v 4⟩,aBO,λs r=> {r with l:=s.l,n:=s.n},λs=>s,λ_ s=>s,[.ret,.exit 0],mT,mZ,zm⟩
abbrev aOz:=SD.run
abbrev aRs:=SD.At
def ak5:Rq mZ aBO:=by
 intro s hI;refine ⟨λc1=>⟨?_,λ_=>trivial,λ_=>trivial⟩,λ_=>trivial⟩
 ·exact aMS
def aR1:List Bd:=[cb]
def aaL:SD.Ok:={}
def aag:SD.Pf (aKe):=⟨an2,λs h=>rfl,amF,ak5⟩
def awk:SA 0 aJG SD:=s1 aaL aag aR1 kN
theorem agM:Rs mT aRs aOz (λs:Lu=>JK s.left<|s.l.drop s.i.toNat) (λx s' (v:Bool)=>(x=.ret/\s'.r=X/\v=X)\/(x=.exit 0/\v=U)):=DN aaL aag (λs hI=>by
  obtain ⟨h0,h1,h2,h3,h4,h5,h6⟩:=hI;refine AH (λc1=>AH (λc2=>?_) λc2=>?_) λc1=>?_
  ·have c1:s.i<s.n:=A8
   have hk:=We h4 h0 A0
   have w:AA (7+(M (gx (e:=.sl<|.int aw) s.l s.i):Int))=7+(M (gx (e:=.sl<|.int aw) s.l s.i):Int):=AJ
   rw [w] at c2;refine .inl ⟨rfl,rfl,?_⟩;rw [WA h0 A0,JK,AD c2]
  ·have c1:s.i<s.n:=A8
   have hk:=We h4 h0 A0
   have w:AA (7+(M (gx (e:=.sl<|.int aw) s.l s.i):Int))=7+(M (gx (e:=.sl<|.int aw) s.l s.i):Int):=AJ
   rw [w,AJ (x:=s.i+1),AJ (x:=s.left-(7+(M (gx (e:=.sl<|.int aw) s.l s.i):Int)))]
   show JK _ _=JK _ _
   rw [WA h0 A0,JK,AE A8]
  ·have c1:s.n<=s.i:=A8
   refine .inr ⟨rfl,?_⟩;rw [En A0];rfl)
def aS0:List LV->T LV
 | [.xl (.sl (.int aw)) ds,.v (Y J sz)]=> .req ((M ds<=5000/\Hs ds)/\5<=sz/\sz<=100000) (.ok<|JK (sz-5) ds)
 |_=> .no
def aaE:=vm (S:=aS0) func190 aR1 kN (L:=(λi=>if i=3 then SD.lp else Ak i)) (λb hb=>by
 rw [show BB _=[aJG] by kernel_rfl] at hb
 simp only [B7,Bu,Bt] at hb;subst hb;exact awk) (λargs lv h=>by
 unfold aS0 at h;split at h
 ·rename_i ds sz
  refine Ap (letI a:=(M ds:Int);.req (SD.q (⟨X,(AA<|sz-5),ds,a,0⟩:Lu))<|.br (Bj (aRs (⟨X,(AA<|sz-5),ds,a,0⟩:Lu))<|.ret) (.ok (aOz (⟨X,(AA<|sz-5),ds,a,0⟩:Lu)).r)<|.ok U) ?_;obtain ⟨⟨⟨h0,h1⟩,h2,h3⟩,rfl⟩:=h;rw [AJ (x:=sz-5)]
  have hE:mT ⟨X,sz-5,ds,(M ds:Int),0⟩:=⟨rfl,aN2,rfl,h1,by show 0<=sz-5;omega,by show sz-5<=100000;omega⟩
  have q:=agM _ hE
  refine ⟨⟨hE,rfl,rfl⟩,?_⟩
  have e:JK (sz-5) (ds.drop (0:Int).toNat)=JK (sz-5) ds:=rfl
  rw [<-e];rcases q with ⟨q1,q2,q3⟩ |⟨q1,q2⟩<;>rw [q1]
  ·refine ⟨λ_=>?_,λhc=>by cases hc⟩
   rw [q2];exact Az (λz=>LV.v<|.bool z) q3.symm
  ·exact ⟨λhc=>(by cases hc),λ_=>Az (λz=>LV.v<|.bool z) q2.symm⟩
 ·cases h)
structure Ns where
 n:Int
def UA (s:Ns):List LV:=[.v<|Y ax s.n]
def Yi (s:Ns):List AB:=[]
structure YE where
 l:List Int
def acY (s:YE):LV:=.os 0 1 0<|M s.l
def ad3 (s:YE):List AB:=[bV 5 (.int aw) s.l]
def yr (s:Ns):T YE:=letI a:=IntKind.u8.wrap<|s.n.fdiv<|2^24;letI b:=IntKind.u8.wrap<|s.n.fdiv<|2^16;letI c:=IntKind.u8.wrap<|s.n.fdiv<|2^8;.re 4 [a,b,c,IntKind.u8.wrap s.n]<|.ok<|⟨[a,b,c,IntKind.u8.wrap s.n]⟩
def aAx (s:Ns):Prop:=True
def ab8 (s:Ns):YE:=⟨Cv s.n⟩
def UM:Cx Ns YE:=⟨UA,Yi,λv b=>⟨AK v 0⟩,aAx,[],[],acY,ad3,ab8⟩
abbrev aiF (s:Ns):Prop:=aAx s/\UA s=UA s/\Yi s=Yi s
def fa:List Bd:=[aJp]
def aTk:DL:=Du prog AU (fa) 20 2
def aoe:EL prog AU aTk:=Hb<|gk fa
def ayV (s:Ns):((Ec prog AU fa aTk Fx).k 193 (UA s)<|Yi s).bind (λq=>G6 (M<|Yi s) [0] [] .normal (q.1::UA s) q.2)=(yr s).mp (λs2=>⟨.normal,M (UA s)+1,[acY s2],ad3 s2,U⟩):=AT
def avk (s:Ns) (hE:aAx s):(yr s).all (λq=>q=ab8 s):=by
 exact ⟨A9,rfl⟩
def auB:Df prog AU 193 UM.m:=Cx.sound (D:=UM) (t:=yr) (gk fa) aoe Q0 ayV λs hE=>⟨avk s hE⟩
def uv:Df prog AU 193 (QO λa=>UM.m a []):=aFG auB
def afH (m:List Fl) (z:Fl):BR (m++[z])=z:=by
 unfold BR G8
 simp
theorem qJ {f:Nat->Fl}{n:Nat}(h:1<=n) (al:List Fl):BR (al++((au<|n+1).map f).drop 1)=f n:=by
 rw [SW,Jv,EG,Ky,aKf A8,<-Cm];exact afH _ _
def qb {se:Int}{a b:List Int}(h:M a=M b):HM se a=HM se b:=by unfold HM;rw [h]
theorem aix {se:Int}{fl:List Int}(h:FQ se fl=U) {i:Int}(h0:0<=i) (h1:i<(M fl:Int).tdiv se):0<=i*se/\(i+1)*se=i*se+se/\i*se+se<=(M fl:Int):=by
 obtain ⟨hf,h2,h3,h4,h5⟩:=ML.1 h
 have hm:=(NN.1 hf).2.2.2.2
 have e:=wv (M fl:Int) se
 have h6:(i+1)*se=i*se+se:=A8
 have h7:(i+1)*se<=(M fl:Int).tdiv se*se:=SS A0 A0
 rw [Int.mul_comm] at e;exact ⟨Ia h0 A0,h6,A0⟩
structure Nf where
 r:Bool
 l:List Int
 (n i qX aBr:Int)
 afL:List (List Int)
 ug:Int
 pV:Bool
 (er se:Int)
 fl:List Int
 al:List Fl
def vJ (s:Nf):T (Rd Nf):=
 .br (an<|s.i<s.n) (.ix s.i (M s.l)<|.br ((gi s.l s.i) !=255) (.rl s.al<|.so (.ret) {s with r:=U})<|.rl s.al<|.nx {s with i:=AA<|s.i+1}) (.rl s.al<|.so (.exit 0) s)
def j3 (s:Nf):Prop:=s.i=0/\s.n<=4096/\s.n=(M s.l:Int)
def jI (s:Nf):Prop:=0<=s.i/\s.i<=s.n/\s.n<=4096/\s.n=(M s.l:Int)
def tY (s:Nf):Nat:=(s.n-s.i).toNat
def ac1 (x:Ex) (s s':Nf):Prop:=True
def aiz:∀s,j3 s->jI s:=by
 exact kz
theorem awu:Da jI tY ac1 vJ:=by
 intro s hI;obtain ⟨h0,h1,h2,h3⟩:=hI;refine AH (λc1=>AH (λc2=>trivial) λc2=>?_) λc1=>trivial
 have c1:s.i<s.n:=A8
 rw [AJ (x:=s.i+1)];exact ⟨⟨A8,A8,h2,h3⟩,by simp only [tY];omega⟩
def Yz:AS Nf:=⟨4,26,[3,17,18,19],[],λs=>[s.r,.xl (.int aw) s.l,s.n,s.i],λs=>[⟨[s.qX,.v<|Y ax s.aBr,.xl (.sl<|.int aw) s.afL,s.ug,s.pV],235,.cl,X⟩,⟨[.os 3 2 0<|M s.al,s.er],323,.cl,X⟩,⟨[s.se,.xl (.int aw) s.fl],36,.cl,X⟩,bV 36 Bh s.al],λv b=>⟨EO v 0,B5 (.int aw) v 1,AK v 2,AK v 3,Aj b 0 0,Aj b 0 1,AF (.sl<|.int aw) b 0 2,Aj b 0 3,Kw b 0 4,Aj b 1 1,Aj b 2 0,AF (.int aw) b 2 1,Ab Bh b 3⟩,vJ,λs r=> {s with r:=r.r,i:=r.i},λs=>s,λ_ s=>s,[.ret,.exit 0],j3,jI,tY⟩
abbrev po:=Yz.run
abbrev dC:=Yz.At
def Wl:List Bd:=[eM,vg,aaE,gL,aaI,cb]
def azY:Aw:=I1 Wl (l0 Wl) [⟨187,UJ.m,fi⟩,⟨193,QO λa=>UM.m a [],uv⟩]
def awP:Rq jI vJ:=by
 exact aKx
def aQP:Yz.Ok:={}
def aOs:Yz.Pf (ac1):=⟨aiz,λs h=>rfl,awu,awP⟩
def pZ:=s2 (b:=bN f191 0) aQP aOs Wl azY
theorem aqs:Rs j3 dC po (λs:Nf=>(s.l.drop s.i.toNat).all λb=>b==255) (λx s' (v:Bool)=>(x=.ret/\s'.r=U/\v=X)\/(x=.exit 0/\v=U)):=DN aQP aOs (λs hI=>by
  obtain ⟨h0,h1,h2,h3⟩:=hI;refine AH (λc1=>AH (λc2=>?_) λc2=>?_) λc1=>?_
  ·have c1:s.i<s.n:=A8
   refine .inl ⟨rfl,rfl,?_⟩
   have:(gi s.l s.i==255)=false:=A8
   rw [(gi_step h0 A0).1,IW,this];rfl
  ·have c1:s.i<s.n:=A8
   have:(gi s.l s.i==255)=true:=A8
   rw [AJ (x:=s.i+1)]
   show List.all _ _=List.all _ _
   rw [(gi_step h0 A0).1,IW,this,EH]
  ·have c1:s.n<=s.i:=A8
   refine .inr ⟨rfl,?_⟩;rw [En A0];rfl)
structure Gj where
 keep:List (List Int)
 (half other Dj i Wb Vf:Int)
 nh:List (List Int)
 U0:Int
 Ir:Bool
 (er se:Int)
 fl:List Int
 al:List Fl
def aJC:=bN f150 0
def Ij (s:Gj):Nf:=(⟨X,(s.fl.drop (AA<|s.i*s.se).toNat).take<|(AA<|(AA<|s.i+1)*s.se).toNat-(AA<|s.i*s.se).toNat,(M ((s.fl.drop (AA<|s.i*s.se).toNat).take<|(AA<|(AA<|s.i+1)*s.se).toNat-(AA<|s.i*s.se).toNat):Int),0,s.Wb,s.Vf,s.nh,s.U0,s.Ir,s.er,s.se,s.fl,s.al⟩:Nf)
def GA (s:Gj):Int:=(AA<|(AA<|s.other+1)*s.Dj)
def reI (s:Gj):Int:=(AA<|((M s.al:Nat):Int)-1)
def Bb (s:Gj):Fl:=(s.al.getD (reI s).toNat<|Ty.dflt Bh)
def Ui (s:Gj):T (Rd Gj):=
 .br (an<|s.i<(GA s)) (.req (0<=(AA<|s.i*s.se)/\(AA<|s.i*s.se)<=(AA<|(AA<|s.i+1)*s.se)/\(AA<|(AA<|s.i+1)*s.se)<=(M s.fl:Int))<|.rl s.al<|.req (Yz.q<|Ij s)<|.br (Bj (dC<|Ij s)<|.ret) (.br (po<|Ij s).r (.ik (reI s) (M s.al)<|.br (!((Hu (Bb s).1 (Bb s).2 s.i)==(0:Int))) (.rl s.al<|.nx {s with i:=AA<|s.i+1,er:=Hu (Bb s).1 (Bb s).2 s.i})<|.req (0<=(1:Int)/\(1:Int)<=(M (Dy (Bb s).1 (Bb s).2 s.i):Int)/\(M (Dy (Bb s).1 (Bb s).2 s.i):Int)<=(M (Dy (Bb s).1 (Bb s).2 s.i):Int))<|.rb (M s.al) (M<|((Dy (Bb s).1 (Bb s).2 s.i).drop (1:Int).toNat).take<|(M (Dy (Bb s).1 (Bb s).2 s.i):Int).toNat-(1:Int).toNat) 32<|.re (M s.al+M (((Dy (Bb s).1 (Bb s).2 s.i).drop (1:Int).toNat).take<|(M (Dy (Bb s).1 (Bb s).2 s.i):Int).toNat-(1:Int).toNat)) (s.al++(((Dy (Bb s).1 (Bb s).2 s.i).drop (1:Int).toNat).take<|(M (Dy (Bb s).1 (Bb s).2 s.i):Int).toNat-(1:Int).toNat))<|.nx {s with i:=AA<|s.i+1,al:=s.al++(((Dy (Bb s).1 (Bb s).2 s.i).drop (1:Int).toNat).take<|(M (Dy (Bb s).1 (Bb s).2 s.i):Int).toNat-(1:Int).toNat)})<|.rl s.al<|.nx {s with i:=AA<|s.i+1})<|.br X (.ik (reI s) (M s.al)<|.br (!((Hu (Bb s).1 (Bb s).2 s.i)==(0:Int))) (.rl s.al<|.nx {s with i:=AA<|s.i+1,er:=Hu (Bb s).1 (Bb s).2 s.i})<|.req (0<=(1:Int)/\(1:Int)<=(M (Dy (Bb s).1 (Bb s).2 s.i):Int)/\(M (Dy (Bb s).1 (Bb s).2 s.i):Int)<=(M (Dy (Bb s).1 (Bb s).2 s.i):Int))<|.rb (M s.al) (M<|((Dy (Bb s).1 (Bb s).2 s.i).drop (1:Int).toNat).take<|(M (Dy (Bb s).1 (Bb s).2 s.i):Int).toNat-(1:Int).toNat) 32<|.re (M s.al+M (((Dy (Bb s).1 (Bb s).2 s.i).drop (1:Int).toNat).take<|(M (Dy (Bb s).1 (Bb s).2 s.i):Int).toNat-(1:Int).toNat)) (s.al++(((Dy (Bb s).1 (Bb s).2 s.i).drop (1:Int).toNat).take<|(M (Dy (Bb s).1 (Bb s).2 s.i):Int).toNat-(1:Int).toNat))<|.nx {s with i:=AA<|s.i+1,al:=s.al++(((Dy (Bb s).1 (Bb s).2 s.i).drop (1:Int).toNat).take<|(M (Dy (Bb s).1 (Bb s).2 s.i):Int).toNat-(1:Int).toNat)})<|.rl s.al<|.nx {s with i:=AA<|s.i+1}) (.rl s.al<|.so (.exit 0) s)
def KR (s:Gj):Prop:=FQ s.se s.fl=U/\(s.other=0\/s.other=1)/\s.Dj*2=(M s.fl:Int).tdiv s.se
def bK (s:Gj):Prop:=s.i=s.other*s.Dj/\KR s/\s.er=0/\M s.al=1/\(BR s.al).1=s.se/\M (BR s.al).2=M s.fl
def Mt (s:Gj):Prop:=(s.other*s.Dj<=s.i/\s.i<=(s.other+1)*s.Dj)/\KR s/\s.er=0/\(s.al≠ []/\(M s.al:Int)<=1+600*s.i)/\(BR s.al).1=s.se/\M (BR s.al).2=M s.fl
def XG (s:Gj):Nat:=(GA s-s.i).toNat
def wO (x:Ex) (s s':Gj):Prop:=x=.exit 0/\s'.er=0/\(s'.al≠ []/\(M s'.al:Int)<=3000000)/\(BR s'.al).1=s'.se/\M (BR s'.al).2=M s'.fl
theorem amc:∀s,bK s->Mt s:=by
 rintro s ⟨h0,⟨h1,h2,h3⟩,h4,h5,h6,h7⟩
 have hj:=ML.1 h1
 have hs0:0<=s.Dj:=by have:0<=(M s.fl:Int).tdiv s.se:=(by rw [I4 A0];exact SX A0 A0);omega
 have hz0:(s.other+1)*s.Dj=s.other*s.Dj+s.Dj:=A8
 have ho:0<=s.other*s.Dj:=A8
 exact ⟨⟨A0,A0⟩,⟨h1,h2,h3⟩,h4,⟨A8,A0⟩,h6,h7⟩
theorem Uk (s:Gj) (hI:Mt s) (c1:an (s.i<GA s)=U):reI s=(M s.al:Int)-1/\Bb s=BR s.al/\AA (s.i*s.se)=s.i*s.se/\AA (AA (s.i+1)*s.se)=s.i*s.se+s.se/\AA (s.i+1)=s.i+1/\
  Hu (BR s.al).1 (BR s.al).2 s.i=0/\Dy (BR s.al).1 (BR s.al).2 s.i=Ku (BR s.al).1 (BR s.al).2 s.i/\M (Ku (BR s.al).1 (BR s.al).2 s.i)=s.se.toNat+1/\0<=s.i*s.se/\s.i*s.se+s.se<=(M s.fl:Int)/\1<=s.se/\s.se<=512/\s.i<GA s/\0<=s.i/\s.i<=4096/\M s.fl<=4096/\GA s=(s.other+1)*s.Dj:=by
 obtain ⟨h0,⟨h1,h2,h3⟩,h4,h5,h6,h7⟩:=hI
 have hj:=ML.1 h1
 have hf:=NN.1 hj.1
 have hq:(M s.fl:Int).tdiv s.se<=(M s.fl:Int):=aNQ
 have hp:=OH.2 h5.1
 have hz0:(s.other+1)*s.Dj=s.other*s.Dj+s.Dj:=by rw [Int.add_mul,Za]
 have ho:s.other*s.Dj=0\/s.other*s.Dj=s.Dj:=by rcases h2 with e|e<;>rw [e]<;>simp
 have hz:GA s=s.other*s.Dj+s.Dj:=by unfold GA;rw [AJ (x:=s.other+1),hz0];exact AJ
 have c1:s.i<GA s:=DY c1
 have hi:reI s=(M s.al:Int)-1:=AJ
 have hk:=aix h1 (i:=s.i) A0 A0
 have hfl:HM s.se (BR s.al).2=true:=by rw [qb h7];exact hj.1
 have hE:Hu (BR s.al).1 (BR s.al).2 s.i=0:=by unfold Hu;rw [h6,hfl,h7,AE A8]
 refine ⟨hi,by unfold Bb BR G8;rw [hi];rfl,AJ,by rw [AJ (x:=s.i+1),hk.2.1];exact AJ,AJ,hE,AD hE,by unfold Ku;rw [h6];simp,A0,A0,A0,A0,c1,A0,A0,A0,A0⟩
def ab3 (s:Gj) (hI:Mt s) (c1:an (s.i<GA s)=U):j3 (Ij s):=by
 obtain ⟨hi,hy,w1,w2,wi,hE,hR,hl,n1,n2,n3,n4,n5,n6,n7,n8,n9⟩:=Uk s hI c1;refine ⟨rfl,?_,rfl⟩
 show ((M (List.take _<|List.drop _ s.fl):Nat):Int)<=4096
 simp only [M6,F8];omega
theorem amb (s:Gj) (hI:Mt s):(M s.al:Int)<=3000000:=by
 obtain ⟨h0,⟨h1,h2,h3⟩,h4,h5,h6,h7⟩:=hI
 have hj:=ML.1 h1
 have hq:(M s.fl:Int).tdiv s.se<=(M s.fl:Int):=aNQ
 have hz0:(s.other+1)*s.Dj=s.other*s.Dj+s.Dj:=A8
 have ho:s.other*s.Dj=0\/s.other*s.Dj=s.Dj:=A8
 omega
def aKB (s:Gj) (hI:Mt s) (c1:an (s.i<GA s)=U):BR (s.al++(Ku (BR s.al).1 (BR s.al).2 s.i).drop 1)=(s.se,Ej (BR s.al).2 (s.i*s.se) s.se.toNat):=by
 obtain ⟨hi,hy,w1,w2,wi,hE,hR,hl,n1,n2,n3,n4,n5,n6,n7,n8,n9⟩:=Uk s hI c1;rw [hI.2.2.2.2.1];exact qJ (f:=λk=>(s.se,Ej (BR s.al).2 (s.i*s.se) k)) (n:=s.se.toNat) A0 s.al
theorem akD:Da Mt XG wO Ui:=by
 intro s hI;unfold Ui;dsimp only [T.rd,T.rl,T.rv];refine AH (λc1=>?_) λc1=>⟨rfl,hI.2.2.1,⟨hI.2.2.2.1.1,amb s hI⟩,hI.2.2.2.2.1,hI.2.2.2.2.2⟩
 have hL:=aKB s hI c1
 obtain ⟨hi,hy,w1,w2,wi,hE,hR,hl,n1,n2,n3,n4,n5,n6,n7,n8,n9⟩:=Uk s hI c1;obtain ⟨h0,hK,h4,h5,h6,h7⟩:=hI
 have st:∀al:List Fl,al≠ []->(M al:Int)<=601+600*s.i->(BR al).1=s.se->M (BR al).2=M s.fl->Mt {s with i:=s.i+1,al:=al}/\XG {s with i:=s.i+1,al:=al}<XG s:=λal a1 a2 a3 a4=>
  ⟨⟨⟨AZ,AZ⟩,hK,h4,⟨a1,AZ⟩,a3,a4⟩,by simp only [XG];show (GA s-(s.i+1)).toNat<_;omega⟩
 rw [wi];refine AH (λc2=>AH (λc3=>AH (λc4=>?_) λc4=>?_) λc3=>?_) λc2=>?_
 ·grind
 ·rw [hy,hR,DZ (by rw [F8,hl];omega)]
  refine st _ (by simp [h5.1]) A8 ?_ ?_
  ·grind
  ·show M (BR<|s.al++List.drop 1 _).2=_;rw [hL,cH];exact h7
 all_goals exact st s.al h5.1 A0 h6 h7
def PX:AS Gj:=⟨0,97,[1,6,8,9,10,11,12,13],[],λs=>[.xl (.sl<|.int aw) s.keep,.own 0 0,s.half,.own 1 0,s.other,.fn 191 [.own 2 0],s.Dj,s.i],λs=>[⟨[s.Wb,.v<|Y ax s.Vf,.xl (.sl<|.int aw) s.nh,s.U0,s.Ir],235,.cl,X⟩,⟨[.os 3 2 0<|M s.al,s.er],323,.cl,X⟩,⟨[s.se,.xl (.int aw) s.fl],36,.cl,X⟩,bV 36 Bh s.al],λv b=>⟨B5 (.sl<|.int aw) v 0,AK v 2,AK v 4,AK v 6,AK v 7,Aj b 0 0,Aj b 0 1,AF (.sl<|.int aw) b 0 2,Aj b 0 3,Kw b 0 4,Aj b 1 1,Aj b 2 0,AF (.int aw) b 2 1,Ab Bh b 3⟩,Ui,λs r=> {r with keep:=s.keep,half:=s.half,other:=s.other,Dj:=s.Dj,Wb:=s.Wb,Vf:=s.Vf,nh:=s.nh,U0:=s.U0,Ir:=s.Ir,se:=s.se,fl:=s.fl},λs=>s,λ_ s=>s,[.exit 0],bK,Mt,XG⟩
abbrev Ep:=PX.run
abbrev aRp:=PX.At
def ajx:Rq Mt Ui:=by
 intro s hI;refine ⟨λc1=>⟨?_,A9,?_,λc2=>⟨λc3=>⟨?_,?_,λc4=>⟨A9,ak⟩,λc4=>⟨?_,?_,?_,ak⟩⟩,λc3=>⟨A9,ak⟩⟩,λc2=>⟨λc5=>⟨?_,?_,λc6=>⟨A9,ak⟩,λc6=>⟨?_,?_,?_,ak⟩⟩,λc5=>⟨A9,ak⟩⟩⟩,λc1=>⟨A9,ak⟩⟩
 ·(have hI':=hI.2.2.2.1;have hp:=OH.2 hI'.1;obtain ⟨hi,hy,w1,w2,wi,hE,hR,hl,n1,n2,n3,n4,n5,n6,n7,n8,n9⟩:=Uk s hI c1;(first|(rw [w1,w2];omega) |(rw [hi];omega) |(rw [hy,hR,hl];omega) |(rw [hy,hR,DZ AI,F8,hl];omega) |(simp only [BD,FB])))
 ·exact ⟨ab3 s hI c1,rfl,rfl⟩
 iterate 10 · (have hI':=hI.2.2.2.1;have hp:=OH.2 hI'.1;obtain ⟨hi,hy,w1,w2,wi,hE,hR,hl,n1,n2,n3,n4,n5,n6,n7,n8,n9⟩:=Uk s hI c1;(first|(rw [w1,w2];omega) |(rw [hi];omega) |(rw [hy,hR,hl];omega) |(rw [hy,hR,DZ AI,F8,hl];omega) |(simp only [BD,FB])))
def azX:Aw:=I1 Wl (la 2 func191 pZ<|l0 Wl) [⟨187,UJ.m,fi⟩,⟨193,QO λa=>UM.m a [],uv⟩]
def zZ:PX.Ok:={}
def zM:PX.Pf (wO):=⟨amc,λs h=>rfl,akD,ajx⟩
def avN:SA 0 aJC PX:=s1 zZ zM Wl azX
def axU:Fi bK Mt wO aRp Ep:=AS.fin zZ zM
theorem axT:Rs bK aRp Ep (λs:Gj=>Fm s.se s.fl s.i (GA s-s.i).toNat (s.al,(BR s.al).2)) (λx s' (v:List Fl×List Int)=>x=.exit 0/\(s'.al,(BR s'.al).2)=v):=DN zZ zM (λs hI=>by
  show DO _ _ ((Ui s).rd s)
  unfold Ui;dsimp only [T.rd,T.rl];refine AH (λc1=>?_) λc1=>?_
  ·have hL:=aKB s hI c1
   have q:(dC (Ij s)=.ret/\(po<|Ij s).r=U/\(((Ij s)).l.drop ((Ij s)).i.toNat).all (λb=>b==255)=X)\/(dC (Ij s)=.exit 0/\(((Ij s)).l.drop ((Ij s)).i.toNat).all (λb=>b==255)=U):=aqs _<|ab3 s hI c1
   obtain ⟨hi,hy,w1,w2,wi,hE,hR,hl,n1,n2,n3,n4,n5,n6,n7,n8,n9⟩:=Uk s hI c1
   have e:((Ij s)).l.drop ((Ij s)).i.toNat=(s.fl.drop (s.i*s.se).toNat).take s.se.toNat:=by
    show List.drop 0 (List.take _<|List.drop _ s.fl)=_
    grind
   have hw:isW s.se s.fl s.i=!((((Ij s)).l.drop ((Ij s)).i.toNat).all λb=>b==255):=by unfold isW;rw [e]
   have hn:(GA s-s.i).toNat=(GA s-(s.i+1)).toNat+1:=A0
   have h6:=hI.2.2.2.2.1
   rw [hn,wi];simp only [Fm];refine AH (λc2=>AH (λc3=>AH (λc4=>?_) λc4=>?_) λc3=>?_) λc2=>?_
   ·grind
   ·rcases q with ⟨_,_,q3⟩ |⟨q1,_⟩
    ·rw [hy,hR,DZ AI,hw,q3]
     show Fm s.se s.fl (s.i+1) (GA s-(s.i+1)).toNat (s.al++List.drop 1 _,(BR<|s.al++List.drop 1 _).2)=_
     rw [hL,h6];rfl
    ·rw [W8 c2] at q1;cases q1
   ·rcases q with ⟨_,q2,_⟩ |⟨q1,_⟩
    ·rw [q2] at c3;cases c3
    ·rw [W8 c2] at q1;cases q1
   ·rcases q with ⟨q1,_,_⟩ |⟨_,q2⟩
    ·rw [q1] at c2;simp [Bj] at c2
    ·rw [hw,q2]
     rfl
  ·have c1:GA s<=s.i:=AX
   rw [show (GA s-s.i).toNat=0 by omega]
   exact ⟨rfl,rfl⟩)
structure Mr where
 (half other:Int)
 l:List (List Int)
 (n i er:Int)
 bytes:List Int
 al:List Fl
def aJD:=bN f150 1
def aBY (s:Mr):T (Rd Mr):=
 .br (an<|s.i<s.n) (.ix s.i (M s.l)<|.req (M (gx (e:=.sl<|.int aw) s.l s.i)<=70000)<|.rb (M s.bytes) (M<|Bo<|gx (e:=.sl<|.int aw) s.l s.i) 1<|.re (M s.bytes+M (Bo<|gx (e:=.sl<|.int aw) s.l s.i)) (s.bytes++(Bo<|gx (e:=.sl<|.int aw) s.l s.i))<|.rl s.al<|.nx {s with i:=AA<|s.i+1,bytes:=s.bytes++(Bo<|gx (e:=.sl<|.int aw) s.l s.i)}) (.rl s.bytes<|.rl s.al<|.so (.exit 2) s)
def mj (s:Mr):Prop:=s.i=0/\s.n<=5000/\s.n=(M s.l:Int)/\Hs s.l/\(M s.bytes:Int)<=4+70100*s.i
def mW (s:Mr):Prop:=0<=s.i/\s.i<=s.n/\s.n<=5000/\s.n=(M s.l:Int)/\Hs s.l/\(M s.bytes:Int)<=4+70100*s.i
def zh (s:Mr):Nat:=(s.n-s.i).toNat
def aKb (x:Ex) (s s':Mr):Prop:=True
def amd:∀s,mj s->mW s:=by
 exact Zg
theorem aja:Da mW zh aKb aBY:=by
 intro s hI;obtain ⟨h0,h1,h2,h3,h4,h5⟩:=hI;refine AH (λc1=>?_) λc1=>trivial
 ·have c1:s.i<s.n:=A8
  have hk:=We h4 h0 A0
  have hp:=MG<|gx (e:=.sl<|.int aw) s.l s.i
  rw [AJ (x:=s.i+1)];exact ⟨⟨A8,A8,h2,h3,h4,A8⟩,by simp only [zh];omega⟩
def PY:AS Mr:=⟨0,97,[8,9,10,14,69,70,71],[],λs=>[s.half,.own 0 0,s.other,.os 1 1 0<|M s.bytes,.xl (.sl<|.int aw) s.l,s.n,s.i],λs=>[⟨[.os 2 2 0<|M s.al,s.er],323,.cl,X⟩,bV 5 (.int aw) s.bytes,bV 36 Bh s.al],λv b=>⟨AK v 0,AK v 2,B5 (.sl<|.int aw) v 4,AK v 5,AK v 6,Aj b 0 1,Ab (.int aw) b 1,Ab Bh b 2⟩,aBY,λs r=> {s with i:=r.i,bytes:=r.bytes},λs=>s,λ_ s=>s,[.exit 2],mj,mW,zh⟩
abbrev NW:=PY.run
abbrev agS:=PY.At
theorem ajy:Rq mW aBY:=by
 intro s hI;refine ⟨λc1=>⟨?_,?_,?_,?_,A9,ak⟩,λc1=>⟨A9,A9,ak⟩⟩
 all_goals ((obtain ⟨h0,h1,h2,h3,h4,h5⟩:=hI;have c1:s.i<s.n:=A8;have hk:=We h4 h0 A0;have hp:=MG<|gx (e:=.sl<|.int aw) s.l s.i;(first|omega|(simp only [CP,BD];omega) |simp only [CP,BD,FB])))
def X7:List Bd:=[eM,vg,aaE,gL,aaI,cb]
def uG:Aw:=I1 X7 (la 2 func191 pZ<|l0 X7) [⟨187,UJ.m,fi⟩,⟨193,QO λa=>UM.m a [],uv⟩]
def aan:PY.Ok:={}
def aaW:PY.Pf (aKb):=⟨amd,λs h=>rfl,aja,ajy⟩
def avO:SA 0 aJD PY:=s1 aan aaW X7 uG
theorem axX:Rs mj agS NW (λs:Mr=>s.bytes++BN (s.l.drop s.i.toNat)) (λx s' (v:List Int)=>x=.exit 2/\s'.bytes=v):=DN aan aaW (λs hI=>by
  obtain ⟨h0,h1,h2,h3,h4,h5⟩:=hI;refine AH (λc1=>?_) λc1=>?_
  ·have c1:s.i<s.n:=A8
   rw [AJ (x:=s.i+1)]
   show _++_++_=_++_
   rw [WA h0 A0];simp only [BN,kG,Cm,CP]
  ·have c1:s.n<=s.i:=A8
   refine ⟨rfl,?_⟩;rw [En A0]
   simp [BN])
def aRf:Uq:=λi=>if i=21 then ah ([8,9,10,14],[.pb 14<|.int aw]) else if i=22 then ah ([8,9,10],[]) else aj
def aS8:List LV->T LV
 | [.agg [.v (Y J se),.xl (.int aw) fl],.xl (.sl (.int aw)) ds]=> .req (BG fl/\M ds<=5000/\Hs ds) (.ok<|.AM [.xl Bh<|Ft se fl ds,Fu se fl ds])
 |_=> .no
theorem aiy {se:Int}{fl:List Int}(h:FQ se fl=U):letI a:=((M fl / 2:Nat):Int);a.tdiv se*2=(M fl:Int).tdiv se/\0<=a.tdiv se/\a.tdiv se<=2048:=by
 obtain ⟨hf,h2,h3,h4,h5⟩:=ML.1 h
 have e:=wv (M fl:Int) se
 rw [(NN.1 hf).2.2.2.2,Int.add_zero] at e
 have e2:=wv ((M fl:Int).tdiv se) 2
 have e3:((M fl / 2:Nat):Int)=se*((M fl:Int).tdiv se).tdiv 2:=by
  have:se*(M fl:Int).tdiv se=2*(se*((M fl:Int).tdiv se).tdiv 2):=A8
  omega
 have e4:((M fl / 2:Nat):Int).tdiv se=((M fl:Int).tdiv se).tdiv 2:=by rw [e3];exact Int.mul_tdiv_cancel_left _ A0
 have hq:0<=((M fl / 2:Nat):Int).tdiv se/\((M fl / 2:Nat):Int).tdiv se<=((M fl / 2:Nat):Int):=by
  rw [I4 A0];exact ⟨SX A0 A0,V1 _ A0⟩
 omega
def ayv (l:List Int):0<=Gm l/\Gm l<4294967296:=by
 unfold Gm nm4 DQ;rw [T4];omega
def aRe (fl:List Int):Aq fl=0\/Aq fl=1:=aN1
def FD (se:Int) (fl:List Int) (ds:List<|List Int):Gj:=(⟨ds,AA<|(M fl:Int).tdiv 2,AA<|1-(Ee se fl),AA<|(AA<|(M fl:Int).tdiv 2).tdiv se,AA<|(AA<|1-(Ee se fl))*(AA<|(AA<|(M fl:Int).tdiv 2).tdiv se),Ee se fl,II se fl,Es se fl,H4 se fl,Kf se fl,0,se,fl,[(se,((([]:List Int)++fl).drop 0).take<|0+M fl)]⟩:Gj)
def MO (se:Int) (fl:List Int) (ds:List<|List Int):Mr:=(⟨AA<|(M fl:Int).tdiv 2,AA<|1-(Ee se fl),ds,(M ds:Int),0,(Ep<|FD se fl ds).er,Cv<|IntKind.u32.wrap<|(II se fl)+1,(Ep<|FD se fl ds).al⟩:Mr)
def anG (se:Int) (fl:List Int) (ds:List<|List Int):Ga:=(⟨AA<|(AA<|(AA<|1-(Ee se fl))*(AA<|(M fl:Int).tdiv 2))+1,((NW<|MO se fl ds).bytes.drop 0).take<|M (NW<|MO se fl ds).bytes,(Ep<|FD se fl ds).er,(Ep<|FD se fl ds).al⟩:Ga)
def anF (se:Int) (fl:List Int) (ds:List<|List Int):Ga:=(⟨AA<|(AA<|1-(Ee se fl))*(AA<|(M fl:Int).tdiv 2),[(80:Int)],J9 (Ep<|FD se fl ds).al (Ep<|FD se fl ds).er (AA<|(AA<|(AA<|1-(Ee se fl))*(AA<|(M fl:Int).tdiv 2))+1)<|((NW<|MO se fl ds).bytes.drop 0).take<|M (NW<|MO se fl ds).bytes,Kn (Ep<|FD se fl ds).al (AA<|(AA<|(AA<|1-(Ee se fl))*(AA<|(M fl:Int).tdiv 2))+1)<|((NW<|MO se fl ds).bytes.drop 0).take<|M (NW<|MO se fl ds).bytes⟩:Ga)
def rwX (se:Int) (fl:List Int) (ds:List<|List Int):Int:=(AA<|(AA<|1-(Ee se fl))*(AA<|(M fl:Int).tdiv 2))
def rwY (se:Int) (fl:List Int) (ds:List<|List Int):List Int:=(((NW<|MO se fl ds).bytes.drop 0).take<|M (NW<|MO se fl ds).bytes)
def Mz (se:Int) (fl:List Int) (ds:List<|List Int):List Fl:=(Kn (Ep<|FD se fl ds).al (AA<|(rwX se fl ds)+1)<|rwY se fl ds)
def rwW (se:Int) (fl:List Int) (ds:List<|List Int):Int:=(J9 (Ep<|FD se fl ds).al (Ep<|FD se fl ds).er (AA<|(rwX se fl ds)+1)<|rwY se fl ds)
def rwA (se:Int) (fl:List Int) (ds:List<|List Int):List Fl:=(Kn (Mz se fl ds) (rwX se fl ds)<|[(80:Int)])
def az1 (se:Int) (fl:List Int) (ds:List<|List Int):letI b:=(AA<|(M fl:Int).tdiv 2);letI c:=FD se fl ds;letI d:=IntKind.u32.wrap<|(II se fl)+1;letI e:=rwA se fl ds;letI f:=Mz se fl ds;letI a:=(J9 f (rwW se fl ds) (rwX se fl ds)<|[(80:Int)]);iF prog AU (X7) uG (λi=>if i=11 then PX.lp else if i=17 then PY.lp else Ak i) aRf f150 [.agg [se,.xl (.int aw) fl],.xl (.sl<|.int aw) ds]=.req (BG fl) (.br ((Bm se fl) !=0) (.ok<|.AM [.xl Bh ([]:List Fl),Bm se fl])<|.req ((2:Int)≠0)<|.req ((M ds<=5000/\Hs ds)/\5<=b/\b<=100000)<|.br ((!(JK (b-5) ds)) ||((II se fl)==4294967295)) (.ok<|.AM [.xl Bh ([]:List Fl),(10:Int)])<|.ra 0 (M ([]:List Int)) (0+M fl) 1<|.req (0+(0+M fl)<=M (([]:List Int)++fl))<|.rv (.v<|Y J<|Ee se fl)<|.req (se≠0)<|.re 1 [(se,((([]:List Int)++fl).drop 0).take<|0+M fl)]<|.req (PX.q c)<|.req (aiF (⟨d⟩:Ns))<|.rl (Cv d)<|.rl (Ep c).al<|.req (PY.q<|MO se fl ds)<|.rz (NW<|MO se fl ds).bytes<|.rl (Ep c).al<|.rl (Ep c).al<|.req (fV<|anG se fl ds)<|.rl f<|.rl f<|.req (fV<|anF se fl ds)<|.br (!(a==(0:Int))) (.ok<|.AM [.xl Bh ([]:List Fl),a])<|.rz e<|.ok<|.AM [.xl Bh<|(e.drop 0).take<|M e,(0:Int)]):=AT
theorem aa7:VV 150 (uS f150 aS8):=aCt (cs:=aRf) func150 rfl (gk X7) uG.h (L:=(λi=>if i=11 then PX.lp else if i=17 then PY.lp else Ak i)) (λb hb=>by
 rw [show BB _=[aJC,aJD] by kernel_rfl] at hb
 simp only [B7,Bu,Bt] at hb;rcases hb with rfl|rfl
 ·exact avN
 ·exact avO) (λargs lv h=>by
 unfold aS8 at h;split at h
 ·simp only [canL,canX]
  rw [az1];rename_i se fl ds;obtain ⟨⟨hb,hn,hk⟩,rfl⟩:=h
  have bad:∀e:Int,e≠0->Fu se fl ds=e->LV.AM [.xl Bh ([]:List Fl),.v<|Y J e]=LV.AM [.xl Bh<|Ft se fl ds,.v<|Y J<|Fu se fl ds]:=λe h0 h1=>by unfold Ft;rw [h1,AE h0]
  refine ⟨hb,λc1=>?_,λc1=>?_⟩
  ·have c1:Bm se fl≠0:=AX
   exact bad _ c1 (by unfold Fu;rw [AD c1])
  have hE:Bm se fl=0:=AX
  have hj:FQ se fl=true:=by
   cases e:FQ se fl
   ·unfold Bm at hE;rw [AD e] at hE;cases hE
   ·rfl
  have hq:=ML.1 hj
  have hh:AA ((M fl:Int).tdiv 2)=((M fl / 2:Nat):Int):=by
   exact aLc
  have hA:Ee se fl=Aq fl:=aO9
  have hG:II se fl=J7 fl (Aq fl):=by unfold II;rw [AD hE]
  have hc:=aRe fl
  have w0:AA (1-Aq fl)=1-Aq fl:=AJ
  have hF:JK (((M fl / 2:Nat):Int)-5) ds=rwF fl ds:=by
   rw [aRQ _ _ A0];unfold rwF
   congr 1
   rw [decide_eq_decide];omega
  refine ⟨Ae,⟨⟨hn,hk⟩,by rw [hh];omega,by rw [hh];omega⟩,λc2=>?_,λc2=>?_⟩<;>rw [hh,hF,hG] at c2
  ·exact bad 10 Ae (by unfold Fu;rw [AE yd,AD c2])
  have hR:Fu se fl ds=0:=by unfold Fu;rw [AE yd,AE aE]
  simp only [GH,I8,CU,ne_eq] at c2
  have hsum:5+M (BN ds)<=M fl / 2:=by
   have:=c2.1
   unfold rwF at this;simp only [AY,Aa] at this;rw [ou];exact this.1
  obtain ⟨k1,k2,k3⟩:=aiy hj
  have hm:∀x:Int,0<=x->x<=2048->AA ((1-Aq fl)*x)=(1-Aq fl)*x/\0<=(1-Aq fl)*x/\(1-Aq fl)*x<=x:=λx x0 x1=>by
   have:(1-Aq fl)*x=0\/(1-Aq fl)*x=x:=aNG
   exact ⟨AJ,A0,A0⟩
  have hst:FD se fl ds=⟨ds,((M fl / 2:Nat):Int),1-Aq fl,((M fl / 2:Nat):Int).tdiv se,(1-Aq fl)*((M fl / 2:Nat):Int).tdiv se,Aq fl,II se fl,Es se fl,H4 se fl,Kf se fl,0,se,fl,[(se,fl)]⟩:=by
   unfold FD;rw [hh,hA,w0,AJ (x:=((M fl / 2:Nat):Int).tdiv se),(hm _ k2 k3).1,EF,CP,EZ,EY]
  have hE0:bK (FD se fl ds):=by rw [hst];exact ⟨rfl,⟨hj,by show 1-Aq fl=0\/1-Aq fl=1;omega,k1⟩,rfl,rfl,rfl,rfl⟩
  obtain ⟨_,_,q1,q2,q3,q4,q5⟩:=axU _ hE0
  have q6:((Ep<|FD se fl ds).al,(BR (Ep<|FD se fl ds).al).2)=HK se fl:=by
   have:=(axT _ hE0).2
   rw [this,hst];unfold HK
   have hz:GA ⟨ds,((M fl / 2:Nat):Int),1-Aq fl,((M fl / 2:Nat):Int).tdiv se,(1-Aq fl)*((M fl / 2:Nat):Int).tdiv se,Aq fl,II se fl,Es se fl,H4 se fl,Kf se fl,0,se,fl,[(se,fl)]⟩=(1-Aq fl)*((M fl / 2:Nat):Int).tdiv se+((M fl / 2:Nat):Int).tdiv se:=by
    have:=hm _ k2 k3
    show AA (AA (1-Aq fl+1)*((M fl / 2:Nat):Int).tdiv se)=_
    rw [AJ (x:=1-Aq fl+1),Int.add_mul,Za];exact AJ
   show Fm se fl _ (GA _-(1-Aq fl)*((M fl / 2:Nat):Int).tdiv se).toNat _=_
   rw [hz]
   congr 1
   omega
  have r1:(Ep<|FD se fl ds).se=se/\(Ep<|FD se fl ds).fl=fl:=by rw [hst];exact ⟨rfl,rfl⟩
  rw [r1.1] at q4;rw [r1.2] at q5
  have q7:(BR (Ep<|FD se fl ds).al).2=(HK se fl).2:=Az Prod.snd q6
  have hl:BR (Ep<|FD se fl ds).al=(se,(HK se fl).2):=Prod.ext q4 q7
  have ha:(Ep<|FD se fl ds).al=(HK se fl).1:=Az Prod.fst q6
  have hEb:mj (MO se fl ds):=⟨rfl,aN2,rfl,hk,by show ((4:Nat):Int)<=4+70100*0;decide⟩
  have hY:rwY se fl ds=ET fl ds:=by
   have q:=(axX _ hEb).2
   have hg:=ayv<|((Bi fl<|Aq fl).drop 1).take 4
   have hw:IntKind.u32.wrap (II se fl+1)=J7 fl (Aq fl)+1:=by
    have:=c2.2
    rw [hG,T4];unfold J7 at*;omega
   unfold rwY ET;rw [CP,EY,q,<-hw];rfl
  have hX:rwX se fl ds=Gq fl:=by unfold rwX Gq;rw [hA,w0,hh];exact (hm _ A0 A0).1
  obtain ⟨_,o1,o2⟩:=hm ((M fl / 2:Nat):Int) A0 A0
  have oO:Gq fl=(1-Aq fl)*((M fl / 2:Nat):Int):=rfl
  have hX1:AA (rwX se fl ds+1)=Gq fl+1:=by rw [hX];exact AJ
  have hBl:M (ET fl ds)=4+M (BN ds):=by unfold ET;rw [BD];rfl
  rw [hl] at q5
  have q5:M (HK se fl).2=M fl:=q5
  have hv:∀b:List Int,M b=M fl->HM se b=true:=λb e=>by rw [qb e];exact hq.1
  have p1:Ez se (HK se fl).2 (Gq fl+1) (ET fl ds)=0:=by
   unfold Ez
   grind
  have hV:Mz se fl ds=(HK se fl).1++(Dl se (HK se fl).2 (Gq fl+1)<|ET fl ds).drop 1:=by
   unfold Mz Kn;rw [hX1,hY,hl,AD p1,ha]
  have hW:rwW se fl ds=0:=by unfold rwW J9;rw [hX1,hY,hl,AD p1];exact q2
  have hlV:BR (Mz se fl ds)=(se,Kp se fl ds):=by
   rw [hV];unfold Dl;exact qJ (f:=λk=>(se,Dh (HK se fl).2 (Gq fl+1) (ET fl ds) k)) (n:=M<|ET fl ds) A0 _
  have p2:Ez se (Kp se fl ds) (Gq fl) [80]=0:=by
   have:M (Kp se fl ds)=M fl:=by unfold Kp;rw [Ss];exact q5
   unfold Ez
   grind
  have hAA:rwA se fl ds=Ft se fl ds:=by
   unfold rwA Kn Ft;rw [hX,hlV,AD p2,AD hR,hV,Cm]
  have hz:J9 (Mz se fl ds) (rwW se fl ds) (rwX se fl ds) [80]=0:=by unfold J9;rw [hX,hlV,AD p2];exact hW
  have hVl:M (Mz se fl ds)<=3100000:=by
   have:=q3.2
   rw [hV,<-ha,BD,F8];unfold Dl;rw [Fz,SI,hBl];omega
  refine ⟨⟨Ae,A0,A0⟩,AI,rfl,A0,AI,⟨hE0,rfl,rfl⟩,⟨ak,rfl,rfl⟩,A9,A9,⟨hEb,rfl,rfl⟩,A0,A9,A9,⟨⟨q3.1,by show M (Ep<|FD se fl ds).al<=4000000;omega,by show M (rwY se fl ds)<=5000;rw [hY,hBl];omega⟩,rfl,rfl⟩,A9,A9,⟨⟨?_,by show M (Mz se fl ds)<=4000000;omega,by show 1<=5000;decide⟩,rfl,rfl⟩,λc=>?_,λ_=>⟨A0,?_⟩⟩
  ·show Mz se fl ds≠ []
   intro hn
   have:BR (Mz se fl ds)=BR []:=by rw [hn]
   rw [hlV] at this
   have:=Az Prod.fst this
   have:se=0:=this
   omega
  ·rw [hz] at c;cases c
  ·rw [CP,EY,hAA,hR]
   rfl
 ·cases h)
def aSz:List LV->T LV
 | [.agg [.v (Y J se),.xl (.int aw) fl],.xl (.int aw) d]=> .req (BG fl/\M d<=70000/\(Bm se fl=0->Ly fl=U)) (.ok<|.AM [.xl Bh<|HN se fl d,Ey se fl d])
 |_=> .no
def aOd (se:Int) (fl:List Int) (a:Int) (d:List Int):[(se,fl)]++(Dl se fl a d).drop 1=Dl se fl a d:=by
 unfold Dl;rw [List.range_succ_eq_map];rfl
def azk {fl:List Int}(h:10<=M fl):(Ek fl).2.1<=M fl / 2:=by
 have:=cF fl<|Aq fl
 have:=uY (b:=Bi fl<|Aq fl) (n:=M<|Bi fl<|Aq fl) (f:=5) A0
 unfold Ek;omega
def anE (se:Int) (fl d:List Int):Ga:=(⟨AA<|(AA<|(AA<|(Ee se fl)*(AA<|(M fl:Int).tdiv 2))+(H4 se fl))+1,((Bo d).drop (1:Int).toNat).take<|(M (Bo d):Int).toNat-(1:Int).toNat,0,[(se,((([]:List Int)++fl).drop 0).take<|0+M fl)]⟩:Ga)
def anD (se:Int) (fl d:List Int):Ga:=letI a:=(AA<|(AA<|(Ee se fl)*(AA<|(M fl:Int).tdiv 2))+(H4 se fl));letI b:=(((Bo d).drop (1:Int).toNat).take<|(M (Bo d):Int).toNat-(1:Int).toNat);letI c:=(se,((([]:List Int)++fl).drop 0).take<|0+M fl);(⟨a,((Bo d).drop (0:Int).toNat).take<|(1:Int).toNat-(0:Int).toNat,J9 ([c]) (0:Int) (AA<|a+1) b,Kn ([c]) (AA<|a+1) b⟩:Ga)
def axP (se:Int) (fl d:List Int):Int:=(AA<|(AA<|(Ee se fl)*(AA<|(M fl:Int).tdiv 2))+(H4 se fl))
def axY (se:Int) (fl d:List Int):List Int:=(((Bo d).drop (1:Int).toNat).take<|(M (Bo d):Int).toNat-(1:Int).toNat)
def axZ (se:Int) (fl d:List Int):List Int:=(((Bo d).drop (0:Int).toNat).take<|(1:Int).toNat-(0:Int).toNat)
def axQ (se:Int) (fl d:List Int):List Fl:=([(se,((([]:List Int)++fl).drop 0).take<|0+M fl)])
def Lz (se:Int) (fl d:List Int):List Fl:=(Kn (axQ se fl d) (AA<|(axP se fl d)+1)<|axY se fl d)
def axW (se:Int) (fl d:List Int):Int:=(J9 (axQ se fl d) (0:Int) (AA<|(axP se fl d)+1)<|axY se fl d)
def axA (se:Int) (fl d:List Int):List Fl:=(Kn (Lz se fl d) (axP se fl d)<|axZ se fl d)
def fZ:List Bd:=[eM,aa7,vg,gL,cb]
def aRC:Aw:=I1 fZ (la 2 func191 pZ<|l0 fZ) [⟨187,UJ.m,fi⟩]
def aya (se:Int) (fl d:List Int):letI a:=(M (Bo d):Int);letI b:=J9 (Lz se fl d) (axW se fl d) (axP se fl d)<|axZ se fl d;letI c:=axA se fl d;iF prog AU (fZ) aRC Ak aRh f147 [.agg [se,.xl (.int aw) fl],.xl (.int aw) d]=.req (BG fl) (.br ((Bm se fl) !=0) (.ok<|.AM [.xl Bh ([]:List Fl),Bm se fl])<|.req ((2:Int)≠0)<|.br ((an<|(M d:Int)>65535) ||(an<|(AA<|7+(M d:Int))>(AA<|(AA<|(M fl:Int).tdiv 2)-(H4 se fl)))) (.ok<|.AM [.xl Bh ([]:List Fl),(10:Int)])<|.br (!(Kf se fl)) (.no /-append to xl -/)<|.ra 0 (M ([]:List Int)) (0+M fl) 1<|.req (0+(0+M fl)<=M (([]:List Int)++fl))<|.rv (.v<|Y J<|Ee se fl)<|.rv (.v<|Y J<|H4 se fl)<|.req (M d<=70000)<|.re 1 (axQ se fl d)<|.req (0<=(1:Int)/\(1:Int)<=a/\a<=a)<|.rl (axQ se fl d)<|.req (fV<|anE se fl d)<|.rl (Lz se fl d)<|.req (0<=(0:Int)/\(0:Int)<=(1:Int)/\(1:Int)<=a)<|.rl (Lz se fl d)<|.req (fV<|anD se fl d)<|.br (!(b==(0:Int))) (.ok<|.AM [.xl Bh ([]:List Fl),b])<|.rz c<|.ok<|.AM [.xl Bh<|(c.drop 0).take<|M c,(0:Int)]):=AT
theorem ajF:VV 147 (uS f147 aSz):=aCt (cs:=aRh) func147 rfl (gk fZ) aRC.h (p7 AT) (λargs lv h=>by
 unfold aSz at h;split at h
 ·simp only [canL,canX]
  rw [aya];rename_i se fl d;obtain ⟨⟨hb,hd,hcl⟩,rfl⟩:=h;refine ⟨hb,λc1=>?_,λc1=>?_⟩
  ·have c1:Bm se fl≠0:=AX
   unfold HN Ey;rw [AD c1,AD c1];rfl
  have hE:Bm se fl=0:=AX
  have hj:FQ se fl=true:=by
   cases e:FQ se fl
   ·unfold Bm at hE;rw [AD e] at hE;cases hE
   ·rfl
  have hq:=ML.1 hj
  have hh:AA ((M fl:Int).tdiv 2)=((M fl / 2:Nat):Int):=by
   exact aLc
  have hA:Ee se fl=Aq fl:=aO9
  have hN:H4 se fl=((Ek fl).2.1:Int):=by unfold H4;rw [AD hE]
  have hC:Kf se fl=true:=by unfold Kf;rw [AD hE];exact hcl hE
  have hl:=azk (fl:=fl) A0
  have hc:=aRe fl
  have hF:((an<|(M d:Int)>65535) ||(an<|(AA<|7+(M d:Int))>(AA<|(AA<|(M fl:Int).tdiv 2)-(H4 se fl))))=M0 se fl d:=by
   rw [hh,hN,AJ (x:=7+(M d:Int)),AJ (x:=((M fl / 2:Nat):Int)-((Ek fl).2.1:Int))];unfold M0;rw [IY];simp only [Cl,Aa];omega
  have e0:¬Bm se fl≠0:=yd
  refine ⟨Ae,λc2=>?_,λc2=>⟨λc3=>?_,λc3=>?_⟩⟩<;>rw [hF] at c2
  ·unfold HN Ey
   rw [AE e0,AE e0,AD c2,AD c2];rfl
  ·rw [hC] at c3;cases c3
  have hR:HN se fl d=HO se fl d:=by unfold HN;rw [AE e0,AE aE,AD<|hcl hE]
  have hZ0:Ey se fl d=0:=by unfold Ey;rw [AE e0,AE aE,AD<|hcl hE]
  unfold M0 at c2;simp only [GH,D3] at c2
  have hm:Aq fl*((M fl / 2:Nat):Int)=0\/Aq fl*((M fl / 2:Nat):Int)=((M fl / 2:Nat):Int):=aNG
  have hP:axP se fl d=GD fl:=by
   unfold axP GD;rw [hh,hA,hN,AJ (x:=Aq fl*((M fl / 2:Nat):Int))];exact AJ
  have oP:GD fl=Aq fl*((M fl / 2:Nat):Int)+((Ek fl).2.1:Int):=rfl
  have hP1:AA (axP se fl d+1)=GD fl+1:=by rw [hP];exact AJ
  have hpl:=MG d
  have hY:axY se fl d=(Bo d).drop 1:=by unfold axY;exact DZ yc
  have hZ:axZ se fl d=[80]:=rfl
  have hQ:axQ se fl d=[(se,fl)]:=by unfold axQ;rw [EF,CP,EZ,EY]
  have hYl:M ((Bo d).drop 1)=6+M d:=yc
  have hL0:BR [(se,fl)]=(se,fl):=rfl
  have p1:Ez se fl (GD fl+1) ((Bo d).drop 1)=0:=by
   unfold Ez
   grind
  have hV:Lz se fl d=Dl se fl (GD fl+1) ((Bo d).drop 1):=by
   unfold Lz Kn;rw [hP1,hY,hQ,hL0,AD p1,aOd]
  have hW:axW se fl d=0:=by unfold axW J9;rw [hP1,hY,hQ,hL0,AD p1]
  have hlV:BR (Lz se fl d)=(se,apB fl d):=by
   rw [hV,<-aOd];exact qJ (f:=λk=>(se,Dh fl (GD fl+1) ((Bo d).drop 1) k)) (n:=M<|(Bo d).drop 1) A0 _
  have hBl:M (apB fl d)=M fl:=Ss _ _ _ _
  have p2:Ez se (apB fl d) (GD fl) [80]=0:=by
   unfold Ez;rw [qb hBl,hq.1,AE (by simp only [Bool.not_true,D2,Aa];omega),AE (by rw [hBl];show ¬GD fl>(M fl:Int)-((1:Nat):Int);omega)]
  have hAA:axA se fl d=HO se fl d:=by
   unfold axA Kn HO;rw [hP,hZ,hlV,AD p2,hV]
  have hz:J9 (Lz se fl d) (axW se fl d) (axP se fl d) (axZ se fl d)=0:=by unfold J9;rw [hP,hZ,hlV,AD p2];exact hW
  have hVl:M (Lz se fl d)=7+M d:=by rw [hV];unfold Dl;rw [Fz,SI,hYl];omega
  refine ⟨⟨Ae,A0,A0⟩,AI,rfl,rfl,hd,by rw [hQ];exact A9,⟨A0,A0,A0⟩,A9,⟨⟨by show axQ se fl d≠ [];rw [hQ];simp,by show M (axQ se fl d)<=4000000;rw [hQ];show 1<=4000000;decide,by show M (axY se fl d)<=5000;rw [hY,hYl];omega⟩,rfl,rfl⟩,A9,⟨A0,A0,A0⟩,A9,⟨⟨by show Lz se fl d≠ [];intro hn;rw [hn] at hVl;simp at hVl;omega,by show M (Lz se fl d)<=4000000;omega,by show 1<=5000;decide⟩,rfl,rfl⟩,λc=>?_,λ_=>⟨A0,?_⟩⟩
  ·rw [hz] at c;cases c
  ·rw [CP,EY,hAA,hR,hZ0]
   rfl
 ·cases h)
def aSd:List LV->T LV
 | [.agg [.v (Y J se),.xl (.int aw) fl],.v (.agg ⟨[Y J x1,Y J x2,Y J x3,Y J x4,Y J x5]⟩),.v (Y J t)]=> .req (BG fl/\(Bm se fl=0->Ly fl=U)) (.ok<|.AM [.xl Bh<|Ci se fl (x1,x2,x3,x4,x5) t,EN se fl (x1,x2,x3,x4,x5) t])
 |_=> .no
def agv:List Bd:=[uy,WS,ajF,aa3,ai9,aa7]
theorem anw {x:Le}:B1 [x]=DA x:=by
 unfold B1;rw [IY,AY,Dq];refine ⟨λh=>?_,λh=>⟨rfl,λk hk=>?_⟩⟩
 ·have:=h.2 0 AI
  unfold Gk at this;rw [AY] at this;exact this.1
 ·have:k=0:=A8
  subst this;unfold Gk;rw [AY];exact ⟨h,rfl⟩
theorem abk {l:List Le}{x:Le}{t:Int}(h:D9 l t=0):M (IM l x t)<=5000/\Hs (IM l x t):=by
 have hk:=aHM h
 unfold IM;rw [AD h];unfold I0;refine ⟨?_,λd hd=>?_⟩
 ·simp only [BD,Fz,Bc,Bn]
  grind
 ·rcases Be.1 hd with hd|hd
  ·obtain ⟨y,_,rfl⟩:=Em.1 hd;rw [K9];omega
  ·rcases Be.1 hd with hd|hd
   ·split at hd
    ·rw [I6.1 hd,K9];omega
    ·cases hd
   ·rw [I6.1 hd,K9];omega
def aa2:=vo (S:=aSd) func95 agv kN (λargs lv h=>by
 unfold aSd at h;split at h
 ·rename_i se fl x1 x2 x3 x4 x5 t
  refine Ap (letI d:=(Ay (x1,x2,x3,x4,x5));letI g:=BI se fl;letI i:=BG fl/\M d<=70000/\(Bm se fl=0->Ly fl=U);letI k:=Ey se fl d;letI b:=(IM g (x1,x2,x3,x4,x5) t);letI f:=(AA<|(M g:Int)-1);letI j:=BG fl/\M b<=5000/\Hs b;.req (BG fl)<|.br ((CO se fl) !=0) (.ok<|.AM [.xl Bh ([]:List Fl),(CO se fl)])<|.br (!(B1<|[(x1,(x2,(x3,(x4,x5))))])) (.ok<|.AM [.xl Bh ([]:List Fl),(1:Int)])<|.br (an<|t<0) (.ok<|.AM [.xl Bh ([]:List Fl),(1:Int)])<|.br (an<|t>1100000) (.ok<|.AM [.xl Bh ([]:List Fl),(1:Int)])<|.br (an<|(M g:Int)>0) (.ix f (M g)<|.br (an<|x1<=(Al g f).1) (.ok<|.AM [.xl Bh ([]:List Fl),(12:Int)])<|.ix f (M g)<|.br (an<|x4<(Al g f).2.2.2.1) (.ok<|.AM [.xl Bh ([]:List Fl),(12:Int)])<|.req i<|.br (k !=10) (.ok<|.AM [.xl Bh<|HN se fl d,k])<|.br ((D9 g t) !=0) (.ok<|.AM [.xl Bh ([]:List Fl),(D9 g t)])<|.req j<|.ok<|.AM [.xl Bh<|Ft se fl b,(Fu se fl b)])<|.req i<|.br (k !=10) (.ok<|.AM [.xl Bh<|HN se fl d,k])<|.br ((D9 g t) !=0) (.ok<|.AM [.xl Bh ([]:List Fl),(D9 g t)])<|.req j<|.ok<|.AM [.xl Bh<|Ft se fl b,(Fu se fl b)]) ?_;obtain ⟨⟨hb,hcl⟩,rfl⟩:=h
  have fin:∀ {a:List Fl} {e:Int},Ci se fl (x1,x2,x3,x4,x5) t=a/\EN se fl (x1,x2,x3,x4,x5) t=e->LV.AM [.xl Bh a,.v<|Y J e]=LV.AM [.xl Bh<|Ci se fl (x1,x2,x3,x4,x5) t,.v<|Y J<|EN se fl (x1,x2,x3,x4,x5) t]:=λh=>by rw [h.1,h.2]
  refine ⟨hb,λc1=>fin ?_,λc1=>?_⟩
  ·have c1:CO se fl≠0:=AX
   unfold Ci EN;rw [AD c1,AD c1];exact ⟨rfl,rfl⟩
  have c1:¬CO se fl≠0:=AX
  rw [anw]
  have bad:(!DA (x1,x2,x3,x4,x5) || !inB t 0 1100000)=U->Ci se fl (x1,x2,x3,x4,x5) t=[]/\EN se fl (x1,x2,x3,x4,x5) t=1:=λh=>by
   unfold Ci EN;rw [AE c1,AE c1,AD h,AD h];exact ⟨rfl,rfl⟩
  refine ⟨λc2=>fin<|bad (by rw [c2];rfl),λc2=>⟨λc3=>fin<|bad ?_,λc3=>⟨λc4=>fin<|bad ?_,λc4=>?_⟩⟩⟩
  iterate 2
   ·rw [Cl]
    refine .inr ?_
    have e:inB t 0 1100000=false:=by
     cases e:inB t 0 1100000
     ·rfl
     ·have:=CM.1 e
      simp only [Aa,D3] at c3
      try simp only [Aa] at c4
      omega
    rw [e];rfl
  have ht:inB t 0 1100000=true:=CM.2 (by simp only [D3] at c3 c4;omega)
  have hx:DA (x1,x2,x3,x4,x5)=true:=EI
  have hv:=aA0<|xL.1 c1
  have hE:D9 (BI se fl) t=0:=by unfold D9 LX;rw [hv,ht];rfl
  have hb':¬((!DA (x1,x2,x3,x4,x5) || !inB t 0 1100000)=U):=by rw [hx,ht];decide
  have hl:=(Gv hv).1
  have w:=λc5:0<M (BI se fl)=>AJ (x:=(M (BI se fl):Int)-1)
  have hO:0<M (BI se fl)->H9 (BI se fl) (x1,x2,x3,x4,x5)=(an (x1<=(Al (BI se fl)<|(M (BI se fl):Int)-1).1) ||an (x4<(Al (BI se fl)<|(M (BI se fl):Int)-1).2.2.2.1)):=λc5=>by
   unfold H9;rw [show an (M (BI se fl)>0)=U from Cq c5];rfl
  have old:H9 (BI se fl) (x1,x2,x3,x4,x5)=U->Ci se fl (x1,x2,x3,x4,x5) t=[]/\EN se fl (x1,x2,x3,x4,x5) t=12:=λh=>by
   unfold Ci EN;rw [AE c1,AE c1,AE hb',AE hb',AD h,AD h];exact ⟨rfl,rfl⟩
  refine ⟨λc5=>?_,λc5=>?_⟩
  ·have c5:0<M (BI se fl):=by simpa using c5
   have hO:=hO c5
   rw [w c5];refine ⟨A0,λc6=>fin<|old (by rw [hO,c6];rfl),λc6=>⟨A0,λc7=>fin<|old<|by rw [hO,c7,SU],λc7=>?_⟩⟩
   have hO:H9 (BI se fl) (x1,x2,x3,x4,x5)=false:=by rw [hO,c6,c7];rfl
   have hk:IM (BI se fl) (x1,x2,x3,x4,x5) t=I0 (BI se fl) (x1,x2,x3,x4,x5) t:=AD hE
   have hk':=hk▸abk (x:=(x1,x2,x3,x4,x5)) hE
   rw [hk,hE]
   have hO:¬(H9 (BI se fl) (x1,x2,x3,x4,x5)=U):=by rw [hO];decide
   refine ⟨⟨hb,by rw [K9];decide,hcl⟩,λc=>fin ?_,λc=>⟨λc'=>(by cases c'),λ_=>⟨⟨hb,hk'⟩,fin ?_⟩⟩⟩<;>unfold Ci EN<;>rw [AE c1,AE c1,AE hb',AE hb',AE hO,AE hO]
   ·have c:Ey se fl (Ay (x1,x2,x3,x4,x5))≠10:=Ic
    rw [AD c,AD c];exact ⟨rfl,rfl⟩
   ·have c:¬Ey se fl (Ay (x1,x2,x3,x4,x5))≠10:=Ic
    rw [AE c,AE c];exact ⟨rfl,rfl⟩
  ·have hO:H9 (BI se fl) (x1,x2,x3,x4,x5)=false:=by unfold H9;rw [show an (M (BI se fl)>0)=X by simpa using c5];rfl
   have hk:IM (BI se fl) (x1,x2,x3,x4,x5) t=I0 (BI se fl) (x1,x2,x3,x4,x5) t:=AD hE
   have hk':=hk▸abk (x:=(x1,x2,x3,x4,x5)) hE
   rw [hk,hE]
   have hO:¬(H9 (BI se fl) (x1,x2,x3,x4,x5)=U):=by rw [hO];decide
   refine ⟨⟨hb,by rw [K9];decide,hcl⟩,λc=>fin ?_,λc=>⟨λc'=>(by cases c'),λ_=>⟨⟨hb,hk'⟩,fin ?_⟩⟩⟩<;>unfold Ci EN<;>rw [AE c1,AE c1,AE hb',AE hb',AE hO,AE hO]
   ·have c:Ey se fl (Ay (x1,x2,x3,x4,x5))≠10:=Ic
    rw [AD c,AD c];exact ⟨rfl,rfl⟩
   ·have c:¬Ey se fl (Ay (x1,x2,x3,x4,x5))≠10:=Ic
    rw [AE c,AE c];exact ⟨rfl,rfl⟩
 ·cases h)
theorem aiJ {fl:List Int}{g:Int}{vl:List Le}{k:Nat}{O:List Int}{x:Le}{t:Int}{w:Int}(h:JI fl w g (vl.map Ay) k O) (hv:B1 vl=U) (hx:FL vl x=0) (ht:inB t 0 1100000=U) (hk:19<=k):
  EN 512 fl x t=0/\(∃fl',G8 (Ci 512 fl x t) ((M (Ci 512 fl x t):Int)-1)=(512,fl')/\JI fl' w g ((vl++[x]).map Ay) (k-19) O)/\B1 (vl++[x])=true:=by
 obtain ⟨h1,h2⟩:=abf h hv
 have hl:=K9 x
 have hx':=hx
 unfold FL at hx'
 have hlx:DA x=true:=by
  cases e:DA x
  ·grind
  ·rfl
 rw [hv,hlx] at hx'
 have ho:H9 vl x=false:=by
  by_cases hg:M vl>0
  ·have hf:Ji (Al vl<|(M vl:Int)-1) x=true:=by
    cases e:Ji (Al vl<|(M vl:Int)-1) x
    ·grind
    ·rfl
   unfold Ji at hf;unfold H9
   grind
  ·unfold H9;simp;intro h;omega
 have hfull:=h.full (d:=Ay x) A0 A0
 have hap:Ey 512 fl (Ay x)=0:=by
  unfold Ey;rw [h.Ue,hfull,h.cl];rfl
 have har:HN 512 fl (Ay x)=HO 512 fl (Ay x):=by
  unfold HN;rw [h.Ue,hfull,h.cl];rfl
 have hE:EN 512 fl x t=0:=by
  unfold EN;rw [h1,h2,hap,hlx,ht,ho];rfl
 have hL:Ci 512 fl x t=HO 512 fl (Ay x):=by
  unfold Ci;rw [h1,h2,hap,hlx,ht,ho,har];rfl
 refine ⟨hE,⟨Dh (apB fl<|Ay x) (GD fl) [80] 1,?_,?_⟩,?_⟩
 ·rw [hL]
  have hne:HO 512 fl (Ay x)≠ []:=by
   unfold HO Dl
   simp
  have:=aFV 512 fl (Ay x) (0,[])
  unfold G8;exact this
 ·have:=h.app (rH x) A0 (by rw [hl];omega)
  rw [Jv];exact this
 ·have hg:=(uI (x:=x) hv).1
  unfold grS Hg at hg;rw [AD hx,AD hx] at hg;exact hg
structure QV where
 p:PK
 vl:List Le
 ok:Bool
def Uj (t:Int) (s:SN×List Le×Bool) (x:Le):SN×List Le×Bool:=
 if FL s.1.ls x=0 then (if FL s.2.1 x=0/\inB t 0 1100000=U/\19*(M s.2.1+1)<=1019 then (⟨Hg s.1.ls x,0,[],x.1+1,s.1.lk++[gU t x]⟩,s.2.1++[x],s.2.2) else (s.1,s.2.1,X)) else s
def P2 (t:Int) (xs:List Le) (s:SN×List Le×Bool):Nat->SN×List Le×Bool
 |0=>s
 |k+1=>Uj t (P2 t xs s k)<|Al xs k
def RV (se:Int) (fl:List Int) (vl:List Le):Prop:=se=512/\B1 vl=U/\∃k O,JI fl 0 0 (vl.map Ay) k O/\k+19*M vl=1019
def RN (s:SN) (q:SN×List Le×Bool):Prop:=q.1={s with se:=0,fl:=[]}/\RV s.se s.fl q.2.1
def aqj {t:Int}{s:SN×List Le×Bool}{x:Le}(h:(Uj t s x).2.2=U):s.2.2=true:=by
 unfold Uj at h;split at h
 ·split at h
  ·exact h
  ·cases h
 ·exact h
theorem aq4 {t:Int}{s:SN}{q:SN×List Le×Bool}{x:Le}(h:RN s q) (hq:(Uj t q x).2.2=U):RN (Ff t s x) (Uj t q x):=by
 obtain ⟨h1,h2,h3,k,O,h4,h5⟩:=h
 have hls:q.1.ls=s.ls:=by rw [h1]
 unfold Uj at hq|-;unfold Ff;rw [hls] at hq|-
 by_cases hg:FL s.ls x=0
 ·rw [AD hg] at hq|-
  by_cases hc:FL q.2.1 x=0/\inB t 0 1100000=U/\19*(M q.2.1+1)<=1019
  ·rw [AD hc] at hq|-
   obtain ⟨c1,c2,c3⟩:=hc;obtain ⟨e1,⟨fl',e2,e3⟩,e4⟩:=aiJ (t:=t) h4 h3 c1 c2 A0;rw [h2] at*;rw [AD ⟨hg,e1⟩,e2];refine ⟨A8,rfl,e4,k-19,O,e3,?_⟩;simp only [BD,Bc,Bn];omega
  ·rw [AE hc] at hq
   cases hq
 ·rw [AE hg,AE λhh=>hg hh.1]
  exact ⟨h1,h2,h3,k,O,h4,h5⟩
def aEg {t:Int}{xs:List Le}{s:SN}{q:SN×List Le×Bool}(h:RN s q):∀n,(P2 t xs q n).2.2=U->RN (FK t xs s n) (P2 t xs q n)
 |0,_=>h
 |n+1,hq=>aq4 (aEg h n<|aqj hq) hq
namespace QV
variable (q : QV)
def sn:SN×List Le×Bool:=P2 q.p.tk q.p.dL (q.p.Hw,q.vl,q.ok)<|M q.p.dL
def dec:QV:=if q.p.up=X then q else if q.p.dE≠0 then {q with p:={q.p with ls:=EE q.p.ls q.p.tk}} else ⟨{q.p with ra:=q.p.dR,ls:=q.sn.1.ls,nx:=q.sn.1.nx,lk:=q.sn.1.lk},q.sn.2.1,q.sn.2.2⟩
def bef:QV:={q.dec with p:=q.dec.p.Mx.aS}
def tick:QV:={q.bef with p:=q.bef.p.CN.Jj.endP}
def KL:List Int:=q.bef.p.dw.dw
end QV
def RP (p:PK) (q:QV):Prop:=q.p={p with se:=0,fl:=[]}/\RV p.se p.fl q.vl
def au2 {p:PK}{q:QV}(h:RP p q) (hq:q.dec.ok=U):RP p.AV q.dec:=by
 obtain ⟨qp,vl,ok⟩:=q;obtain ⟨h1,h2⟩:=h;subst h1
 have eq:QV.dec ⟨{p with se:=0,fl:=[]},vl,ok⟩=if p.up=X then ⟨{p with se:=0,fl:=[]},vl,ok⟩ else if p.dE≠0 then ⟨{p with se:=0,fl:=[],ls:=EE p.ls p.tk},vl,ok⟩ else
  ⟨{p with se:=0,fl:=[],ra:=p.dR,ls:=(P2 p.tk p.dL ({p.Hw with se:=0,fl:=[]},vl,ok)<|M p.dL).1.ls,nx:=(P2 p.tk p.dL ({p.Hw with se:=0,fl:=[]},vl,ok)<|M p.dL).1.nx,lk:=(P2 p.tk p.dL ({p.Hw with se:=0,fl:=[]},vl,ok)<|M p.dL).1.lk},
   (P2 p.tk p.dL ({p.Hw with se:=0,fl:=[]},vl,ok)<|M p.dL).2.1,(P2 p.tk p.dL ({p.Hw with se:=0,fl:=[]},vl,ok)<|M p.dL).2.2⟩:=rfl
 rw [eq] at hq|-;unfold PK.AV
 by_cases hu:p.up=X
 ·rw [AD hu,AD hu]
  exact ⟨rfl,h2⟩
 ·rw [AE hu] at hq
  rw [AE hu,AE hu]
  by_cases hd:p.dE≠0
  ·rw [AD hd,AD hd]
   exact ⟨rfl,h2⟩
  ·rw [AE hd] at hq
   rw [AE hd,AE hd]
   have hs:RN p.Hw ({p.Hw with se:=0,fl:=[]},vl,ok):=⟨rfl,h2⟩
   obtain ⟨k1,k2⟩:=aEg hs (M p.dL) hq;refine ⟨?_,k2⟩;rw [k1];rfl
def agE {p:PK}{q:QV}(h:RP p q) (hq:q.tick.ok=U):RP p.CZ q.tick/\p.KL=q.KL:=by
 obtain ⟨h1,h2⟩:=au2 h hq;refine ⟨⟨?_,h2⟩,?_⟩
 ·show q.dec.p.Mx.aS.CN.Jj.endP=_
  rw [h1];rfl
 ·show _=q.dec.p.Mx.aS.dw.dw
  rw [h1];rfl
def aRZ {pre mid post:List Int}:∀k,k<=M mid->Ej (pre++(mid++post)) (M pre:Int) k=pre++(aq k 255++(mid.drop k++post))
 |0,_=>by simp [Ej]
 |k+1,hk=>by
  simp only [Ej];rw [aRZ k A0]
  have e1:(M pre:Int)+(k:Int)=((M pre+k:Nat):Int):=A0
  have hd:mid.drop k=mid[k]::mid.drop (k+1):=SK A0
  rw [e1,Bx,kQ _ _ A0,wg,kQ _ _ AI,Cf,ko,hd];rw [kR,Cm];rfl
def asw {pre mid post:List Int}{n:Nat}(h:M mid=n):Ej (pre++(mid++post)) (M pre:Int) n=pre++(aq n 255++post):=by
 rw [aRZ n A0,List.drop_of_length_le A0];rfl
theorem ahc {l:List Int}{n:Nat}(hl:M l=n) (h:l.all (λb=>b==255)=U):l=aq n 255:=by
 rw [List.eq_replicate_iff]
 grind
theorem aRX {pre mid post f0:List Int}{s:Int}{a:List Fl}{n:Nat}(hm:M mid=512) (hs:s*512=(M pre:Int)) (hf:(f0.drop<|M pre).take 512=mid):
  ∃a',Fm 512 f0 s (n+1) (a,pre++(mid++post))=Fm 512 f0 (s+1) n (a',pre++(aq 512 255++post)):=by
 have hw:isW 512 f0 s=!mid.all (λb=>b==255):=by
  unfold isW;rw [hs,Bx]
  show (!((f0.drop<|M pre).take 512).all _)=_
  rw [hf]
 have e:Fm 512 f0 s (n+1) (a,pre++(mid++post))=Fm 512 f0 (s+1) n (if isW 512 f0 s=U then (a++(Ku 512 (pre++(mid++post)) s).drop 1,Ej (pre++(mid++post)) (s*512) 512) else (a,pre++(mid++post))):=rfl
 rw [e];split
 ·rw [hs,asw hm]
  grind
 ·rename_i hn
  have:mid.all (λb=>b==255)=true:=A8
  have h2:=ahc hm this
  grind
theorem ap3 {O:List Int}(h:M O=1024):∃M1 M2,O=M1++M2/\M M1=512/\M M2=512:=⟨O.take 512,O.drop 512,(List.take_append_drop _ _).symm,A8,A8⟩
theorem aHk {pre post M1 M2 f0:List Int}{s:Int}{a:List Fl}(h1:M M1=512) (h2:M M2=512) (hs:s*512=(M pre:Int)) (hf:f0=pre++(M1++(M2++post))):
  (Fm 512 f0 s 2 (a,f0)).2=pre++(aq 1024 255++post):=by
 have f1:(f0.drop<|M pre).take 512=M1:=A8
 have f2:(f0.drop<|M<|pre++aq 512 255).take 512=M2:=by
  rw [hf,BD,Cf,<-Cm,List.drop_left' A8,List.take_left' h2]
 have e0:Fm 512 f0 s 2 (a,f0)=Fm 512 f0 s 2 (a,pre++(M1++(M2++post))):=A8
 rw [e0];obtain ⟨a1,e1⟩:=aRX (a:=a) (n:=1) (post:=M2++post) h1 hs f1;rw [e1]
 have e2:pre++(aq 512 255++(M2++post))=(pre++aq 512 255)++(M2++post):=(Cm _ _ _).symm
 rw [e2];obtain ⟨a2,e3⟩:=aRX (a:=a1) (n:=0) (s:=s+1) (post:=post) h2 A8 f2;rw [e3]
 show (pre++aq 512 255)++(aq 512 255++post)=_
 rw [Cm,<-Cm<|aq 512 255,wy]
def aBT (A O:List Int):J1 0 A O=A++O:=AD rfl
def aBR (A O:List Int):J1 1 A O=O++A:=AE Ae
def ajM (A O:List Int):J1 (1-0) A O=O++A:=AE Ae
def ajL (A O:List Int):J1 (1-1) A O=A++O:=AD rfl
namespace JI
variable {fl : List Int} {w g : Int} {ds : List (List Int)} {k : Nat} {O : List Int}
theorem ers (h:JI fl w g ds k O):(HK 512 fl).2=J1 w (DS g ds k) (aq 1024 255):=by
 obtain ⟨M1,M2,e,h1,h2⟩:=ap3 h.lo;unfold HK;rw [h.half,h.cur.1]
 have e2:((((1024:Nat):Int).tdiv 512).toNat)=2:=Ae
 have e3:(((1024:Nat):Int).tdiv 512)=2:=Ae
 rw [e2,e3]
 have he:=h.eq
 rcases h.hw with rfl|rfl
 ·have:=aHk (pre:=DS g ds k) (post:=[]) (M1:=M1) (M2:=M2) (f0:=fl) (s:=(1-0)*2) (a:=[(512,fl)]) h1 h2 (by rw [h.la];rfl) (by rw [he,e,aBT];simp only [Cm,EF,GF,Ju])
  rw [this,aBT]
  grind
 ·have:=aHk (pre:=[]) (post:=DS g ds k) (M1:=M1) (M2:=M2) (f0:=fl) (s:=(1-1)*2) (a:=[(512,fl)]) h1 h2 Ae (by rw [he,e,aBR];simp only [Cm,EF,GF,Ju])
  rw [this,aBR]
  grind
theorem rew (h:JI fl w g ds k O) {ds':List<|List Int}(hg:g+1<4294967296) (hd:∀d∈ds',BG d/\M d<=65535) (hf:5+M (BN ds')<=1024):
  JI (Dh (Kp 512 fl ds') (Gq fl) [80] 1) (1-w) (g+1) ds' (1024-(5+M (BN ds'))) (DS g ds k):=by
 have hO:Gq fl=(1-w)*1024:=by unfold Gq;rw [h.half,h.cur.1];rfl
 have hB:ET fl ds'=Cv (g+1)++BN ds':=by unfold ET;rw [h.cur.1,h.gen]
 have hBl:M (ET fl ds')=4+M (BN ds'):=by rw [hB,BD];rfl
 have hBb:BG (ET fl ds'):=by rw [hB,KD];exact ⟨W2 _,qN λd hd'=>(hd d hd').1⟩
 have hj:DS (g+1) ds' (1024-(5+M (BN ds')))=80::(ET fl ds'++aq (1024-(5+M (BN ds'))) 255):=by rw [hB];unfold DS;simp
 have h255:aq 1024 (255:Int)=255::(aq (M<|ET fl ds') 255++aq (1024-(5+M (BN ds'))) 255):=by
  rw [wy,<-ZN,hBl]
  congr 1
  omega
 have key:∀pre post:List Int,(M pre:Int)=(1-w)*1024->(HK 512 fl).2=pre++(aq 1024 255++post)->Dh (Kp 512 fl ds') (Gq fl) [80] 1=pre++(DS (g+1) ds' (1024-(5+M (BN ds')))++post):=by
  intro pre post hp he
  have e1:Kp 512 fl ds'=pre++(255::(ET fl ds'++(aq (1024-(5+M (BN ds'))) 255++post))):=by
   unfold Kp;rw [he,hO,<-hp,h255]
   have:=df (pre:=pre++[255]) (post:=aq (1024-(5+M (BN ds'))) 255++post) (d:=ET fl ds') hBb
   have e9:(M ((pre++[255]:List Int)):Int)=(M pre:Int)+1:=AI
   rw [e9] at this
   have e0:pre++(255::(aq (M<|ET fl ds') 255++aq (1024-(5+M (BN ds'))) 255)++post)=pre++[255]++(aq (M<|ET fl ds') 255++(aq (1024-(5+M (BN ds'))) 255++post)):=by simp only [Cm,EF,GF,Ju]
   rw [e0,this];simp only [Cm,EF,GF,Ju]
  rw [e1,hO,<-hp]
  have:=df (pre:=pre) (post:=ET fl ds'++(aq (1024-(5+M (BN ds'))) 255++post)) (d:=[80]) aNt
  refine Eq.trans this ?_;rw [hj];simp only [Cm,EF,GF,Ju]
 refine ⟨?_,by rw [Oe];omega,h.la,h.bja,by rcases h.hw with rfl|rfl<;>decide,by have:=h.hg;omega,λ_=>?_,hd⟩
 ·rcases h.hw with rfl|rfl
  ·refine (key (DS g ds k) [] (by rw [h.la];rfl) (by rw [h.ers,aBT];simp only [Cm,EF,GF,Ju])).trans ?_
   rw [ajM]
   grind
  ·refine (key [] (DS g ds k) Ae (by rw [h.ers,aBR];simp only [Cm,EF,GF,Ju])).trans ?_
   rw [ajL]
   grind
 ·rw [aHp h.hg];omega
theorem amY (h:JI fl w g ds k O) {ds':List<|List Int}(hg:g+1<4294967296):Fu 512 fl ds'=if rwF fl ds'=U then 0 else 10:=by
 unfold Fu;rw [h.Ue,AE Ae,h.cur.1,h.gen]
 grind
end JI
def anB {se:Int}{fl:List Int}{ds:List<|List Int}(h:Fu se fl ds=0) (y:Fl):(Ft se fl ds).getLastD y=(se,Dh (Kp se fl ds) (Gq fl) [80] 1):=by
 unfold Ft;rw [AD h]
 have e:(Dl se (Kp se fl ds) (Gq fl) [80]).drop 1=[(se,Dh (Kp se fl ds) (Gq fl) [80] 1)]:=by
  rfl
 rw [e,kL]
 simp
def aww {se:Int}{fl:List Int}{ds:List<|List Int}(h:Fu se fl ds=0):Ft se fl ds≠ []:=by
 unfold Ft;rw [AD h];intro hh
 have:=Az M hh
 simp [Dl] at this
def aFF {l:List Fl}{y:Fl}(h:l≠ []):G8 l ((M l:Int)-1)=l.getLastD y:=by
 have hp:=OH.2 h
 unfold G8;rw [kL,List.getLast?_eq_getElem?,DV,show ((M l:Int)-1).toNat=M l-1 by omega,DX A0]
 rfl
structure VI (se:Int) (fl:List Int) (vl:List Le) (g:Int):Prop where
 se:se=512
 lv:B1 vl=U
 ji:∃w k O,JI fl w g (vl.map Ay) k O
 g:g<=(vl.map (·.1)).getLastD 0
def VI.ld {se:Int}{fl:List Int}{vl:List Le}{g:Int}(h:VI se fl vl g):CO se fl=0/\BI se fl=vl:=by
 obtain ⟨w,k,O,hj⟩:=h.ji
 have:=abf hj h.lv
 rwa [h.se]
def anz {l:List Le}(h:M l>0):(l.map (·.1)).getLastD 0=(Al l<|(M l:Int)-1).1:=by
 have e:((M l:Int)-1).toNat=M l-1:=A0
 unfold Al;rw [kL,List.getLast?_map,List.getLast?_eq_getElem?,DV,e,DX A0];rfl
def kpV (l:List Le) (x:Le) (t:Int):List Le:=BX l t++((if M l>0/\(M (BX l t)=0\/(Al (BX l t)<|(M (BX l t):Int)-1).1≠(Al l<|(M l:Int)-1).1) then [Al l<|(M l:Int)-1] else [])++[x])
theorem aRN {l:List Le}{x:Le}{t:Int}:I0 l x t=(kpV l x t).map Ay:=by
 unfold I0 kpV
 grind
def avA {l:List Le}{x:Le}(h:H9 l x=X) (hv:B1 l=U):letI a:=(Al l<|(M l:Int)-1);M l>0->a.1<x.1/\a.2.2.2.1<=x.2.2.2.1:=by
 unfold H9 at h
 simp at h
 omega
def aCa {l:List Le}(h:M l>0):l=l.dropLast++[Al l<|(M l:Int)-1]:=by
 have hne:=OH.1 h
 have:Al l ((M l:Int)-1)=l.getLast hne:=by
  rw [NX A0,List.getLast_eq_getElem]
  congr 1
  omega
 rw [this];exact (List.dropLast_concat_getLast hne).symm
def aoE (m:List Le) (z:Le):Al (m++[z]) ((M (m++[z]):Int)-1)=z:=by
 unfold Al
 simp
def atc {se:Int}{fl d:List Int}:HO se fl d≠ []:=by
 unfold HO Dl
 simp
theorem aGT {l:List Le}{x:Le}{t:Int}:(kpV l x t).Sublist (l++[x]):=by
 unfold kpV;rw [<-Cm];refine List.Sublist.append ?_<|List.Sublist.refl _
 have hs:(BX l t).Sublist l:=by
  unfold BX;split
  ·simp_all
  ·grind
 split
 ·rename_i hc
  obtain ⟨h1,h2⟩:=hc
  have hl:=aCa h1
  generalize hz:Al l ((M l:Int)-1)=z at*
  have he:(BX l t).Sublist l.dropLast:=by
   unfold BX at h2|-;split
   ·rename_i ho
    rw [AD ho] at h2;rw [hl,ZQ] at h2
    have hf:l.filter (Lo t)=l.dropLast.filter (Lo t)++[z].filter (Lo t):=by
     grind
    rw [hf];cases hb:Lo t z
    ·simp only [N1,hb,List.filter_nil]
     simp
    ·exfalso
     have e1:[z].filter (Lo t)=[z]:=A8
     rw [e1] at h2;rcases h2 with h2|h2
     ·simp at h2
     ·apply h2
      rw [aoE]
   ·grind
  conv=>rhs;rw [hl]
  grind
 ·grind
def qM {vl:List Le}:M (BN<|vl.map Ay)=19*M vl:=by
 induction vl with
 |nil=>rfl
 |cons x vl ih=>
  have e:BN ((x::vl).map Ay)=Bo (Ay x)++BN (vl.map Ay):=rfl
  rw [e,BD,MG,K9,ih,Bc];omega
def aoh (ds:List<|List Int):(ds.map λd=>7+M d).sum=M (BN ds):=(ou ds).symm
def VI.len {se:Int}{fl:List Int}{vl:List Le}{g:Int}(h:VI se fl vl g):M vl<=53:=by
 obtain ⟨w,k,O,hj⟩:=h.ji
 have:=hj.la
 rw [Oe,qM] at this;omega
def aTz {se:Int}{fl:List Int}{vl:List Le}{g:Int}{x:Le}{t:Int}(h:VI se fl vl g) (hE:EN se fl x t=0):
  ∃vl' g',VI (G8 (Ci se fl x t)<|(M (Ci se fl x t):Int)-1).1 (G8 (Ci se fl x t)<|(M (Ci se fl x t):Int)-1).2 vl' g'/\(vl'=vl++[x]\/vl'=kpV vl x t)/\B1 (vl++[x])=U/\(M vl>0->(Al vl<|(M vl:Int)-1).1<x.1):=by
 obtain ⟨h1,h2⟩:=h.ld
 have hlen:=h.len
 obtain ⟨w,k,O,hj⟩:=h.ji
 have hse:=h.se
 subst hse
 have hla:=hj.la
 rw [Oe,qM] at hla;unfold EN at hE
 have hL:Ci 512 fl x t=if CO 512 fl≠0 then [] else if (!DA x || !inB t 0 1100000)=U then [] else if H9 (BI 512 fl) x=U then [] else
  if Ey 512 fl (Ay x)≠10 then HN 512 fl (Ay x) else Ft 512 fl (I0 (BI 512 fl) x t):=rfl
 rw [AE A0] at hE hL
 by_cases c1:(!DA x || !inB t 0 1100000)=U
 ·rw [AD c1] at hE;cases hE
 rw [AE c1] at hE hL
 have hx:DA x=true:=by
  simp only [Cl,DB,not_or,SH] at c1;exact c1.1
 by_cases c2:H9 (BI 512 fl) x=U
 ·rw [AD c2] at hE;cases hE
 rw [AE c2] at hE hL;rw [h2] at c2 hE hL
 have ho:=avA EI h.lv
 have hsn:B1 (vl++[x])=true:=aE7 h.lv hx A0 (by
  by_cases hz:M vl=0
  ·exact .inl hz
  ·right
   obtain ⟨o1,o2⟩:=ho A0;unfold Ji;rw [Cq (p:=x.1>_) o1,Cq (p:=x.2.2.2.1>=_) o2];rfl)
 have hg:g<x.1:=by
  by_cases hz:M vl>0
  ·have:=h.g
   rw [anz hz] at this
   have:=(ho hz).1
   omega
  ·have e:vl=[]:=M3.1 A0
   have:=h.g
   rw [e] at this
   have h0:g<=0:=this
   have:=(MR.1 hx).1.1
   omega
 have hlx:=(MR.1 hx).1.2
 by_cases c3:M0 512 fl (Ay x)=U
 ·have hap:Ey 512 fl (Ay x)=10:=by
   unfold Ey;rw [hj.Ue,c3];rfl
  rw [hap,AE Ae] at hE hL
  have hr:Fu 512 fl (I0 vl x t)=0:=hE
  rw [hL]
  have hf:rwF fl (I0 vl x t)=true:=by
   have:=hj.amY (ds':=I0 vl x t) A0
   rw [hr] at this
   by_cases hq:rwF fl (I0 vl x t)=U
   ·exact hq
   ·rw [AE hq] at this;cases this
  rw [aFF (y:=(0,[]))<|aww hr,anB hr];unfold rwF at hf;rw [AY,hj.half,aoh] at hf
  have hfit:=DY hf.1
  refine ⟨kpV vl x t,g+1,⟨rfl,oA hsn aGT,⟨1-w,1024-(5+M (BN<|I0 vl x t)),DS g (vl.map Ay) k,?_⟩,?_⟩,.inr rfl,hsn,λhz=>(ho hz).1⟩
  ·rw [<-aRN]
   exact hj.rew A0 (λd hd=>by rw [aRN] at hd;obtain ⟨y,_,rfl⟩:=Em.1 hd;exact ⟨rH y,by rw [K9];omega⟩) hfit
  ·have:((kpV vl x t).map (·.1)).getLastD 0=x.1:=by
    unfold kpV
    simp
   rw [this];omega
 ·have hap:Ey 512 fl (Ay x)=0:=by
   unfold Ey;exact aLk
  have har:HN 512 fl (Ay x)=HO 512 fl (Ay x):=by
   unfold HN;exact aLk
  rw [hap,AD Ae,har] at hL;rw [hL,aFF (y:=(0,[])) atc,aFV]
  have hk:19<=k:=by
   unfold M0 at c3;rw [hj.half,hj.lk,K9,qM] at c3
   simp at c3
   omega
  refine ⟨vl++[x],g,⟨rfl,hsn,⟨w,k-(7+M (Ay x)),O,?_⟩,?_⟩,.inl rfl,hsn,λhz=>(ho hz).1⟩
  ·have:=hj.app (rH x) (by rw [K9];omega) (by rw [K9];exact hk)
   rw [Jv,EG,Ky];simp only;exact this
  ·rw [Jv,kL]
   simp
   omega
def F7 (se:Int) (n:Nat) (y:Fl):Prop:=y.1=se/\M y.2=n/\BG y.2
def fM {se:Int}{fl:List Int}{a:Int}{d:List Int}{n:Nat}(h:F7 se n (se,fl)):∀y∈Dl se fl a d,F7 se n y:=by
 intro y hy;obtain ⟨k,_,rfl⟩:=Em.1 hy;exact ⟨rfl,(Ss _ _ _ _).trans h.2.1,rD h.2.2 _ _ _⟩
def agb {se:Int}{fl:List Int}{s:Int}{n:Nat}(h:F7 se n (se,fl)):∀y∈Ku se fl s,F7 se n y:=by
 intro y hy;obtain ⟨k,_,rfl⟩:=Em.1 hy;exact ⟨rfl,(cH _ _ _).trans h.2.1,aRY h.2.2 _ _⟩
theorem qj {se:Int}{f0:List Int}{n:Nat}:∀(m:Nat) (s:Int) (a:List Fl×List Int),(∀y∈a.1,F7 se n y)->F7 se n (se,a.2)->(∀y∈(Fm se f0 s m a).1,F7 se n y)/\F7 se n (se,(Fm se f0 s m a).2)
 |0,_,_,h1,h2=>⟨h1,h2⟩
 | m+1,s,a,h1,h2=>by
  unfold Fm;split
  ·refine qj m (s+1) _ (λy hy=>?_) ⟨rfl,(cH _ _ _).trans h2.2.1,aRY h2.2.2 _ _⟩
   rcases Be.1 hy with hy|hy
   ·grind
   ·exact agb h2 y<|Pc hy
  ·exact qj m (s+1) a h1 h2
def ahX {se:Int}{fl d:List Int}{n:Nat}(h:F7 se n (se,fl)):∀y∈HO se fl d,F7 se n y:=by
 intro y hy;rcases Be.1 hy with hy|hy
 ·exact fM h y hy
 ·exact fM ⟨rfl,(Ss _ _ _ _).trans h.2.1,rD h.2.2 _ _ _⟩ y<|Pc hy
theorem aOE {se:Int}{fl:List Int}{ds:List<|List Int}{n:Nat}(h:F7 se n (se,fl)):∀y∈Ft se fl ds,F7 se n y:=by
 intro y hy;unfold Ft at hy;split at hy
 ·obtain ⟨k1,k2⟩:=qj (se:=se) (f0:=fl) (n:=n) (((M fl / 2:Nat):Int).tdiv se).toNat ((1-Aq fl)*((M fl / 2:Nat):Int).tdiv se) ([(se,fl)],fl) (λy hy=>A8) h
  rcases Be.1 hy with hy|hy
  ·exact k1 y hy
  ·rcases Be.1 hy with hy|hy
   ·exact fM k2 y<|Pc hy
   ·exact fM ⟨rfl,(Ss _ _ _ _).trans k2.2.1,rD k2.2.2 _ _ _⟩ y<|Pc hy
 ·cases hy
def qi {se:Int}{f0:List Int}:∀(m:Nat) (s:Int) (a:List Fl×List Int),a.1≠ []->(Fm se f0 s m a).1≠ []
 |0,_,_,h=>h
 |m+1,s,a,h=>by
  unfold Fm;split
  ·exact qi m _ _ lf
  ·exact qi m _ _ h
def aOD {se:Int}{fl:List Int}{ds:List<|List Int}(h:Fu se fl ds=0):Ft se fl ds≠ []:=by
 unfold Ft;rw [AD h]
 have:=qi (se:=se) (f0:=fl) (((M fl / 2:Nat):Int).tdiv se).toNat ((1-Aq fl)*((M fl / 2:Nat):Int).tdiv se) ([(se,fl)],fl) AI
 intro hh;rw [List.append_eq_nil_iff] at hh;exact this hh.1
def ahW {se:Int}{fl d:List Int}:HO se fl d≠ []:=by
 unfold HO Dl
 simp
theorem aa0 {se:Int}{fl:List Int}{x:Le}{t:Int}{n:Nat}(h:F7 se n (se,fl)):(∀y∈Ci se fl x t,F7 se n y)/\(EN se fl x t=0->Ci se fl x t≠ []):=by
 have ha:(∀y∈HN se fl (Ay x),F7 se n y)/\(Ey se fl (Ay x)=0->HN se fl (Ay x)≠ []):=by
  unfold HN Ey
  by_cases h1:Bm se fl≠0
  ·grind
  ·rw [AE h1,AE h1]
   by_cases h2:M0 se fl (Ay x)=U
   ·grind
   ·rw [AE h2,AE h2]
    by_cases h3:Ly fl=U
    ·rw [AD h3,AD h3];exact ⟨ahX h,λ_=>ahW⟩
    ·rw [AE h3,AE h3];exact ⟨aOE h,aOD⟩
 unfold Ci EN
 by_cases h1:CO se fl≠0
 ·grind
 ·rw [AE h1,AE h1]
  split
  ·grind
  ·split
   ·grind
   ·split
    ·exact ha
    ·exact ⟨aOE h,aOD⟩
structure SnI (s:SN) (n:Nat):Prop where
 fl:F7 512 2048 (s.se,s.fl)
 ls:M s.ls<=64
 lk:M s.lk<=n
def anr {l:List Le}{x:Le}(h:FL l x=0):M (Hg l x)<=64:=by
 unfold Hg;rw [AD h];unfold FL at h;split at h
 ·rename_i hv
  rw [AY] at hv
  have:=(Gv hv.1).1
  split at h
  ·cases h
  ·split at h
   ·cases h
   ·simp;omega
 ·cases h
theorem awn {t:Int}{s:SN}{x:Le}{n:Nat}(h:SnI s n):SnI (Ff t s x) (n+1):=by
 unfold Ff;split
 ·rename_i hc
  have hs:F7 s.se 2048 (s.se,s.fl):=⟨rfl,h.fl.2.1,h.fl.2.2⟩
  obtain ⟨k1,k2⟩:=aa0 (x:=x) (t:=t) hs
  have hne:=OH.2<|k2 hc.2
  have hm:G8 (Ci s.se s.fl x t) ((M (Ci s.se s.fl x t):Int)-1)∈Ci s.se s.fl x t:=by
   unfold G8;rw [O3 A0]
   grind
  obtain ⟨m1,m2,m3⟩:=k1 _ hm;exact ⟨⟨m1.trans h.fl.1,m2,m3⟩,anr hc.1,by have:=h.lk;simp;omega⟩
 ·exact ⟨h.fl,h.ls,by have:=h.lk;omega⟩
def aOK {t:Int}{xs:List Le}{s:SN}{n:Nat}(h:SnI s n):∀k,SnI (FK t xs s k) (n+k)
 |0=>h
 |k+1=>awn<|aOK h k
structure RQ (p:PK):Prop where
 fl:F7 512 2048 (p.se,p.fl)
 ls:M p.ls<=64
 lk:(M p.lk:Int)<=16*p.tk
 ra:M p.ra<=16
 dm:∀x∈p.dm,HL x=U
 mi:∀m∈p.mi,M m.1<=21
theorem aFK {l:List Le}{t:Int}:M (BX l t)<=M l:=by
 unfold BX;split
 ·grind
 ·simp
def aso {l:List Le}{t:Int}:M (EE l t)<=M l:=by
 unfold EE;split
 ·exact aFK
 ·omega
def uu {p:PK}:M p.dL<=M p.gs:=by
 unfold PK.dL deL;split
 ·exact aCU
 ·simp
def ahi {p:PK}:M p.dR<=M p.gs:=by
 unfold PK.dR deR;split
 ·exact kc dN
 ·simp
theorem aRc {p:PK}(h:RQ p) (hg:M p.gs<=16):F7 512 2048 (p.AV.se,p.AV.fl)/\M p.AV.ls<=64/\(M p.AV.lk:Int)<=16*p.tk+16/\M p.AV.ra<=16:=by
 have hl:=h.lk
 have he:M (EE p.ls p.tk)<=64:=HU aso h.ls
 unfold PK.AV;split
 ·exact ⟨h.fl,h.ls,A0,h.ra⟩
 ·split
  ·exact ⟨h.fl,he,A8,h.ra⟩
  ·have hs:SnI p.Hw (M p.lk):=⟨h.fl,he,Ax _⟩
   have h1:=aOK (t:=p.tk) (xs:=p.dL) hs<|M p.dL
   have hd:=uu (p:=p)
   exact ⟨h1.fl,h1.ls,by have:=h1.lk;show (M (FK p.tk p.dL p.Hw<|M p.dL).lk:Int)<=_;omega,HU ahi hg⟩
def mem_set {α:Type}{l:List α}{i:Nat}{x y:α}(h:y∈l.set i x):y∈l\/y=x:=SJ h
theorem asL (c:Ca) (m:Mi) (p al:Int):M (Kv c m p al).1<=21\/M m.1>21:=by
 unfold Kv;split
 ·rename_i hB
  refine .inl ?_;simp only [dwP,F8,BD,Bc,Bn];omega
 ·grind
theorem aRa {gs:List Ch}{ca:List Ca}{s:DW}(h:∀m∈s.mi,M m.1<=21):∀k,∀m∈(Hv gs ca s k).mi,M m.1<=21
 |0=>h
 | k + 1=>by
  have ih:=aRa (gs:=gs) (ca:=ca) h k
  unfold Hv Ki;split
  ·exact ih
  ·split
   ·intro m hm
    rcases mem_set hm with hm|rfl
    ·grind
    ·rcases asL (BZ ca k) (Ck (Hv gs ca s k).mi k) (AG gs k).2.2.1 (Bk (AG gs k)<|Bq (Hv gs ca s k).st k) with e|e
     ·exact e
     ·exfalso
      have:M (Ck (Hv gs ca s k).mi k).1<=21:=by
       unfold Ck;rw [DV];cases hx:(Hv gs ca s k).mi[(k:Int).toNat]? with
       |none=>simp
       |some y=>exact ih y<|Pb hx
      omega
   ·exact ih
theorem arU {se:Int}{fl:List Int}:M (BI se fl)<=64:=by
 unfold BI;split
 ·rename_i h
  unfold CO at h;split at h
  ·cases h
  ·split at h
   ·grind
   ·split at h
    ·split at h
     ·rename_i h3;exact (Gv h3).1
     ·cases h
    ·cases h
 ·simp
def RQ.tick {p:PK}(h:RQ p) (hv:VP p):RQ p.CZ:=by
 have hg:=(D5.1 hv.site).1.2.2.2.2.1
 obtain ⟨h1,h2,h3,h4⟩:=aRc h hg;obtain ⟨e1,e2,e3,e4,e5,e6,e7,e8,e9,e10,e11,e12,e13,e14⟩:=MF p;refine ⟨h1,h2,?_,h4,?_,?_⟩
 ·show (M (p.AV.lk.filter _):Int)<=16*(p.AV.tk+1)
  have:=wq (λl:Lk=>an<|l.1>p.AV.tk) p.AV.lk
  rw [e6] at this|-;omega
 ·show ∀x∈p.AV.dm,_
  rw [e12];exact h.dm
 ·refine aRa ?_ _
  show ∀m∈p.AV.mi,_
  rw [e10];exact h.mi
theorem RQ.step {p:PK}(h:RQ p) (hv:VP p) {e:EV}(he:BP p e=0):RQ (BL p e):=by
 have hg:=(D5.1 hv.site).1.2.2.2.2.1
 unfold BL;rw [AE A0];unfold BP at he;split
 ·exact h.tick hv
 rename_i h1;rw [AE h1] at he;split
 ·rename_i h2
  have hd:HL e.d=true:=by
   unfold PK.H0 at he;split at he
   ·cases he
   ·split at he
    ·cases he
    ·rename_i hb
     grind
  refine {h with dm:=λx hx=>?_,mi:=λm hm=>?_}
  ·rcases mem_set hx with hx|rfl
   ·exact h.dm x hx
   ·exact hd
  ·exact aMG
 rename_i h2;rw [AE h2] at he;split
 ·refine {h with dm:=λx hx=>?_,mi:=λm hm=>?_}
  ·rcases mem_set hx with hx|rfl
   ·exact h.dm x hx
   ·decide
  ·exact aMG
 rename_i h3;rw [AE h3] at he;split
 ·have:=wq (λl:Lk=>l.2.2.1 !=e.en) p.lk
  exact {h with lk:=by show (M (p.lk.filter _):Int)<=16*p.tk;have:=h.lk;omega}
 rename_i h4;rw [AE h4] at he;split
 ·exact {h with ls:=by simp [PK.P8]}
 rename_i h5;rw [AE h5] at he;split
 ·exact {h with ls:=HU aFK arU,ra:=by simp [PK.Qu];omega}
 rename_i h6;rw [AE h6] at he;split
 ·exact {h with}
 ·exact {h with}
theorem ayb {cs:List Cd}{os:List ByteArray}{ks:List Ko}{gs:List Ch}{bs:List Ba}{dr:List Int}(h:DF cs os ks gs bs dr=0):VP (newP cs os ks gs bs dr)/\RQ (newP cs os ks gs bs dr):=by
 unfold newP;rw [AE A0];unfold DF at h;split at h
 ·cases h
 rename_i h1;simp only [not_or,SH,ne_eq,xL] at h1;split at h
 ·cases h
 rename_i h2;simp only [SH] at h2
 have hb:BG Ew:=by
  unfold Ew DS;rw [KD,KD,KD,Q2];exact ⟨⟨⟨Ae,W2 _⟩,qN λd hd=>VN,dO _⟩,dO _⟩
 have hl:M Ew=2048:=by unfold Ew;rw [BD,Oe,Cf];rfl
 refine ⟨⟨h1.1,AI,AI,AI,AI,by simp [Fk],AI,h1.2,AI,λk hk=>?_,h2,λl hl=>by cases hl⟩,⟨⟨rfl,hl,hb⟩,AI,AI,by simp;exact (D5.1 h1.1).1.2.2.2.2.1,λx hx=>?_,λm hm=>?_⟩⟩
 ·simp only [Fz] at hk
  have e:gi (cs.map λc=>c.2.2.1) (k:Int)=(Ac cs k).2.2.1:=by
   unfold gi Ac
   simp [hk]
  simp only [e];exact ⟨(fQ h1.1 hk).1,DU _⟩
 ·obtain ⟨_,rfl⟩:=SQ.1 hx;decide
 ·grind
def aFL {se:Int}{f0:List Int}:∀(n:Nat) (s:Int) (a:List Fl×List Int),M (Fm se f0 s n a).1<=M a.1+n*se.toNat
 |0,s,a=>by simp [Fm]
 | n+1,s,a=>by
  unfold Fm
  have h:=aFL (se:=se) (f0:=f0) n (s+1) (if isW se f0 s=U then (a.1++(Ku se a.2 s).drop 1,Ej a.2 (s*se) se.toNat) else a)
  rw [Nat.succ_mul];split at h
  ·rename_i c
   rw [AD c]
   have e:M ((Ku se a.2 s).drop 1)=se.toNat:=by unfold Ku;rw [F8,Fz,SI];omega
   simp only [BD] at h;omega
  ·rename_i c
   rw [AE c];omega
def qL (se:Int) (fl:List Int) (a:Int) (d:List Int):M ((Dl se fl a d).drop 1)=M d:=by
 unfold Dl;rw [F8,Fz,SI];omega
theorem aGl {fl:List Int}{ds:List<|List Int}(hl:M fl=2048) (hE:Fu 512 fl ds=0):M (Ft 512 fl ds)<=5000:=by
 have hF:rwF fl ds=true:=by
  unfold Fu at hE;split at hE
  ·grind
  ·split at hE
   ·cases hE
   ·rename_i h
    cases e:rwF fl ds
    ·grind
    ·rfl
 have hb:M (ET fl ds)<=1100:=by
  unfold rwF at hF;rw [AY,Aa] at hF;unfold ET;rw [BD,ou]
  have:M (Cv<|J7 fl (Aq fl)+1)=4:=rfl
  omega
 have he:M (HK 512 fl).1<=1025:=by
  refine HU (aFL _ _ _) ?_;rw [hl]
  show 1+(((2048 / 2:Nat):Int).tdiv 512).toNat*(512:Int).toNat<=1025
  decide
 unfold Ft;rw [AD hE,BD,BD,qL,qL];simp only [Bc,Bn];omega
theorem apA {se:Int}{fl:List Int}{x:Le}{t:Int}(h:F7 512 2048 (se,fl)) (hE:EN se fl x t=0):M (Ci se fl x t)<=5000:=by
 have hs:=h.1
 subst hs
 have hl:=h.2.1
 unfold EN at hE;unfold Ci;split at hE
 ·grind
 rename_i h1;rw [AE h1];split at hE
 ·cases hE
 rename_i h2;rw [AE h2];split at hE
 ·cases hE
 rename_i h3;rw [AE h3];split at hE
 ·rename_i h4
  rw [AD h4];unfold Ey at hE;unfold HN;split at hE
  ·grind
  rename_i h5;rw [AE h5];split at hE
  ·cases hE
  rename_i h6;rw [AE h6];split at hE
  ·rename_i h7
   rw [AD h7];unfold HO;rw [BD,qL];unfold Dl;rw [Fz,SI,F8,MG,K9]
   decide
  ·rename_i h7
   rw [AE h7];exact aGl hl hE
 ·rename_i h4
  rw [AE h4];exact aGl hl hE
def VK (se:Int) (fl:List Int):Prop:=F7 512 2048 (se,fl)/\∃vl g,VI se fl vl g
def VK.cl {se:Int}{fl:List Int}(h:VK se fl):Ly fl=true:=by
 obtain ⟨_,vl,g,hv⟩:=h;obtain ⟨w,k,O,hj⟩:=hv.ji;exact hj.cl
theorem VK.st {se:Int}{fl:List Int}{x:Le}{t:Int}(h:VK se fl) (hE:EN se fl x t=0):letI b:=Ci se fl x t;letI a:=(G8 b<|(M b:Int)-1);0<M b/\VK a.1 a.2:=by
 obtain ⟨hf,vl,g,hv⟩:=h;obtain ⟨vl',g',h1,_⟩:=aTz hv hE
 have hn:=(aa0 (x:=x) (t:=t) (show F7 se 2048 (se,fl) from ⟨rfl,hf.2.1,hf.2.2⟩))
 have hp:=OH.2<|hn.2 hE
 refine ⟨hp,?_,vl',g',h1⟩
 have hm:G8 (Ci se fl x t) ((M (Ci se fl x t):Int)-1)∈Ci se fl x t:=by
  unfold G8;rw [DV,DX A0]
  grind
 have hq:=hn.1 _ hm
 exact ⟨by rw [hq.1];exact hf.1,hq.2.1,hq.2.2⟩
def AQ {α:Type}(l:List α):List α:=(l.drop 0).take<|M l
def Fa {α:Type}(l:List α):AQ l=l:=TC l
def cpC (l:List Cd):List Cd:=BC (AQ l)<|aq (M l:Int).toNat (ByteArray.empty,((0:Int),((0:Int),((0:Int),(((0:Int),(0:Int)),((0:Int),((0:Int),((0:Int),((0:Int),(0:Int))))))))))
def Wz (l:List Cd):cpC l=l:=by
 unfold cpC;rw [Fa];exact QF
structure PO where
 (n i:Int)
 p:PK
 ev:EW
 BW:List ByteArray
 C0:List Ko
 BM:List Ch
 C1:List Ba
 o:List Cd
def zE (s:PO):T (Rd PO):=letI b:=s.o.getD s.i.toNat<|Ty.dflt Ad;letI a:=(s.o.set s.i.toNat (b.1,(b.2.1,((s.p.tg.getD s.i.toNat<|Ty.dflt A7),b.2.2.2))));.br (an<|s.i<s.n) (.ik s.i (M s.p.tg)<|.ik s.i (M s.o)<|.rl s.p.tg<|.rl s.p.cs<|.rl s.p.fl<|.rl s.p.ra<|.pb s.p<|.re (M s.o) a<|.nx {s with i:=AA<|s.i+1,o:=a})<|.rl s.p.tg<|.rl s.p.cs<|.rl s.p.fl<|.rl s.p.ra<|.pb s.p<|.rl s.o<|.so (.exit 0) s
def jJ (s:PO):Prop:=s.i=0/\s.n=(M s.p.tg:Int)/\M s.p.tg=M s.p.cs/\s.n<=1000/\s.o=Ds s.p.cs s.p.tg s.i.toNat
def Xc (s:PO):Prop:=(0<=s.i/\s.i<=s.n)/\s.n=(M s.p.tg:Int)/\M s.p.tg=M s.p.cs/\s.n<=1000/\s.o=Ds s.p.cs s.p.tg s.i.toNat
def sS (s:PO):Nat:=(s.n-s.i).toNat
def aAD (x:Ex) (s s':PO):Prop:=x=.exit 0/\s'.o=Ds s'.p.cs s'.p.tg (M s'.p.tg)
def alh:∀s,jJ s->Xc s:=by
 exact aMT
theorem ahh:Da Xc sS aAD zE:=by
 intro s hI;obtain ⟨⟨h0,h1⟩,h2,h3,h4,h5⟩:=hI
 have hl:M s.o=M s.p.cs:=lP
 refine AH (λc1=>?_) λc1=>?_
 ·have c1:s.i<s.n:=A8
  rw [AJ (x:=s.i+1)];refine ⟨⟨⟨A8,A8⟩,h2,h3,h4,?_⟩,by simp only [sS];omega⟩
  exact aLF
 ·have c1:s.n<=s.i:=A8
  refine ⟨rfl,?_⟩
  grind
def UP:AS PO:=⟨18,34,[2,3,19,20,21],[],λs=>[.own 18 0,.own 19 0,.os 15 1 0<|M s.p.tg,s.n,s.i],λs=>[AO,AO,zB,AO,bV 67 Ad s.p.cs,AO,bV 5 (.int aw) s.p.fl,bV 127 Am s.p.ra,bV 90 B3 s.p.st,bV 55 AP s.p.ca,bV 107 B6 s.p.mi,bV 93 BO s.p.me,bV 57 As s.p.dm,bV 103 BJ s.p.lk,bV 3 A7 s.p.dr,bV 3 A7 s.p.tg,⟨[.os 4 11 0<|M s.p.cs,.xl .str s.p.os,.xl Ah s.p.ks,.xl Af s.p.gs,.xl Ai s.p.bs,.v<|Y J s.p.tk,.v<|.bool s.p.up,.xl AP s.p.ls,.v<|Y J s.p.se,.os 6 1 0<|M s.p.fl,.os 7 2 0<|M s.p.ra,.v<|Y J s.p.nx,.os 8 4 0<|M s.p.st,.os 9 5 0<|M s.p.ca,.os 10 3 0<|M s.p.mi,.os 11 3 0<|M s.p.me,.os 12 4 0<|M s.p.dm,.os 13 6 0<|M s.p.lk,.os 14 1 0<|M s.p.dr,.os 15 1 0<|M s.p.tg,.v<|Y J s.ev.ek,.v<|Y J s.ev.en,.v<|Y J s.ev.em,.v<|Y J s.ev.c1,.v<|Y J s.ev.c2,.v<|Y J s.ev.c3,.v<|Y J s.ev.c4,.v<|Y J s.ev.c5,.v<|.bool s.ev.d1,.v<|Y J s.ev.d2,.v<|Y J s.ev.d3,.v<|Y J s.ev.d4,.v<|.slice aj 0 0],85,.cl,X⟩,AO,⟨[.v<|.slice aj 0 0,.v<|.slice aj 0 0,.v<|.slice aj 0 0,.v<|.slice aj 0 0,.v<|.slice aj 0 0],28,.cl,X⟩,⟨[.os 20 11 0<|M s.o,s.BW,s.C0,s.BM,s.C1],28,.cl,X⟩,bV 67 Ad s.o],λv b=>⟨AK v 3,AK v 4,rB b 16 4 0 6 7 8 9 10 11 12 13 14 15,rG b,AF .str b 19 1,AF Ah b 19 2,AF Af b 19 3,AF Ai b 19 4,Ab Ad b 20⟩,zE,λs r=> {s with i:=r.i,o:=r.o},λs=>s,λ_ s=>s,[.exit 0],jJ,Xc,sS⟩
abbrev aGv:=UP.run
abbrev asc:=UP.At
def Ou:List Bd:=[]
def azO:Aw:=kI Ou<|la 9 func23 Cn<|l0 Ou
def axH:Rq Xc zE:=by
 intro s hI;refine ⟨λc1=>⟨?_,?_,?_,?_,A9,A9,A9,A9,A9,A9,A9,A9,A9,A9,A9,A9,?_,ak⟩,λc1=>⟨A9,A9,A9,A9,A9,A9,A9,A9,A9,A9,A9,A9,A9,ak⟩⟩
 all_goals ((obtain ⟨⟨h0,h1⟩,h2,h3,h4,h5⟩:=hI;have hl:M s.o=M s.p.cs:=lP;(try simp only [Aa] at c1);first|omega|exact ⟨rfl,rfl⟩ |exact ⟨rfl,AI⟩))
def aQh:UP.Ok:={}
def aPH:UP.Pf (aAD):=⟨alh,λs h=>rfl,ahh,axH⟩
def aGC:=s2 (b:=bN f46 0) aQh aPH Ou azO
def auA:Fi jJ Xc aAD asc aGv:=AS.fin aQh aPH
structure LU where
 p:PK
 ev:EW
def UC (s:LU):List LV:=[.own 16 0]
def Yk (s:LU):List AB:=[AO,AO,zB,AO,bV 67 Ad s.p.cs,AO,bV 5 (.int aw) s.p.fl,bV 127 Am s.p.ra,bV 90 B3 s.p.st,bV 55 AP s.p.ca,bV 107 B6 s.p.mi,bV 93 BO s.p.me,bV 57 As s.p.dm,bV 103 BJ s.p.lk,bV 3 A7 s.p.dr,bV 3 A7 s.p.tg,⟨[.os 4 11 0<|M s.p.cs,.xl .str s.p.os,.xl Ah s.p.ks,.xl Af s.p.gs,.xl Ai s.p.bs,.v<|Y J s.p.tk,.v<|.bool s.p.up,.xl AP s.p.ls,.v<|Y J s.p.se,.os 6 1 0<|M s.p.fl,.os 7 2 0<|M s.p.ra,.v<|Y J s.p.nx,.os 8 4 0<|M s.p.st,.os 9 5 0<|M s.p.ca,.os 10 3 0<|M s.p.mi,.os 11 3 0<|M s.p.me,.os 12 4 0<|M s.p.dm,.os 13 6 0<|M s.p.lk,.os 14 1 0<|M s.p.dr,.os 15 1 0<|M s.p.tg,.v<|Y J s.ev.ek,.v<|Y J s.ev.en,.v<|Y J s.ev.em,.v<|Y J s.ev.c1,.v<|Y J s.ev.c2,.v<|Y J s.ev.c3,.v<|Y J s.ev.c4,.v<|Y J s.ev.c5,.v<|.bool s.ev.d1,.v<|Y J s.ev.d2,.v<|Y J s.ev.d3,.v<|Y J s.ev.d4,.v<|.slice aj 0 0],85,.cl,X⟩,AO]
def pA (s:LU):PO:=(⟨((M s.p.tg:Nat):Int),0,s.p,s.ev,s.p.os,s.p.ks,s.p.gs,s.p.bs,cpC s.p.cs⟩:PO)
structure YG where
 so:List ByteArray
 sk:List Ko
 sg:List Ch
 sb:List Ba
 p:PK
 ev:EW
 o:List Cd
def acd (s:YG):LV:=.agg [.os 18 11 0<|M s.o,s.so,s.sk,s.sg,s.sb]
def ad5 (s:YG):List AB:=[AO,AO,zB,AO,bV 67 Ad s.p.cs,AO,bV 5 (.int aw) s.p.fl,bV 127 Am s.p.ra,bV 90 B3 s.p.st,bV 55 AP s.p.ca,bV 107 B6 s.p.mi,bV 93 BO s.p.me,bV 57 As s.p.dm,bV 103 BJ s.p.lk,bV 3 A7 s.p.dr,bV 3 A7 s.p.tg,⟨[.os 4 11 0<|M s.p.cs,.xl .str s.p.os,.xl Ah s.p.ks,.xl Af s.p.gs,.xl Ai s.p.bs,.v<|Y J s.p.tk,.v<|.bool s.p.up,.xl AP s.p.ls,.v<|Y J s.p.se,.os 6 1 0<|M s.p.fl,.os 7 2 0<|M s.p.ra,.v<|Y J s.p.nx,.os 8 4 0<|M s.p.st,.os 9 5 0<|M s.p.ca,.os 10 3 0<|M s.p.mi,.os 11 3 0<|M s.p.me,.os 12 4 0<|M s.p.dm,.os 13 6 0<|M s.p.lk,.os 14 1 0<|M s.p.dr,.os 15 1 0<|M s.p.tg,.v<|Y J s.ev.ek,.v<|Y J s.ev.en,.v<|Y J s.ev.em,.v<|Y J s.ev.c1,.v<|Y J s.ev.c2,.v<|Y J s.ev.c3,.v<|Y J s.ev.c4,.v<|Y J s.ev.c5,.v<|.bool s.ev.d1,.v<|Y J s.ev.d2,.v<|Y J s.ev.d3,.v<|Y J s.ev.d4,.v<|.slice aj 0 0],85,.cl,X⟩,AO,bV 67 Ad s.o]
def gG (s:LU):T YG:=letI a:=((M s.p.cs:Nat):Int);.rm 96 a<|.rz s.p.cs<|.rc a (ByteArray.empty,((0:Int),((0:Int),((0:Int),(((0:Int),(0:Int)),((0:Int),((0:Int),((0:Int),((0:Int),(0:Int)))))))))) (M<|AQ s.p.cs)<|.rl s.p.tg<|.rl s.p.cs<|.rl s.p.fl<|.rl s.p.ra<|.pb s.p<|.re a.toNat (cpC s.p.cs)<|.req (UP.q<|pA s)<|.rl s.p.cs<|.rl s.p.fl<|.rl s.p.ra<|.pb s.p<|.ok<|⟨s.p.os,s.p.ks,s.p.gs,s.p.bs,s.p,s.ev,(aGv<|pA s).o⟩
def jP (s:LU):Prop:=M s.p.tg=M s.p.cs/\M s.p.tg<=1000
def aaR (s:LU):YG:=⟨s.p.os,s.p.ks,s.p.gs,s.p.bs,s.p,s.ev,Ds s.p.cs s.p.tg<|M s.p.tg⟩
def jV:Cx LU YG:=⟨UC,Yk,λv b=>⟨rB b 16 4 0 6 7 8 9 10 11 12 13 14 15,rG b⟩,jP,[0,1,3,5,17],[],acd,ad5,aaR⟩
abbrev aiG (s:LU):Prop:=jP s/\UC s=UC s/\Yk s=Yk s
def aR5:Aw:=kI Ou<|la 4 func46 aGC<|la 9 func23 Cn<|l0 Ou
def aTC:DL:=CS 46 18 4 (UP.lp)<|CS 23 0 9 (Gb.lp)<|Du prog AU Ou 20 2
def aog:EL prog AU aTC:=DD func46 rfl AT aGC<|DD func23 rfl AT Cn<|Hb<|gk Ou
def ayZ (s:LU):((Ec prog AU Ou aTC aR5).k 46 (UC s)<|Yk s).bind (λq=>G6 (M<|Yk s) [0] [] .normal (q.1::UC s) q.2)=(gG s).mp (λs2=>⟨.normal,M (UC s)+1,[acd s2],ad5 s2,U⟩):=AT
theorem avm (s:LU) (hE:jP s):(gG s).all (λq=>q=aaR s):=by
 obtain ⟨ht,hn⟩:=hE
 have hA:jJ (pA s):=⟨rfl,rfl,ht,aNC,Wz _⟩
 obtain ⟨_,_,_,q2⟩:=auA _ hA;unfold gG;simp only [Fa,Wz,q2]
 repeat (refine ⟨A8,?_⟩)
 refine ⟨⟨hA,rfl,rfl⟩,?_⟩
 repeat (refine ⟨AI,?_⟩)
 rfl
def aRg:Df prog AU 46 jV.m:=Cx.sound (D:=jV) (t:=gG) (gk Ou) aog aR5.h ayZ λs hE=>⟨avm s hE⟩
structure Nu where
 xs:List Le
 (n i:Int)
 p:PK
 ev:EW
def yy (s:Nu):T (Rd Nu):=letI c:=Al s.xs s.i;letI e:=AA<|s.i+1;letI a:=((AA<|s.p.tk+((AA<|(AA<|7*s.p.tk)+(AA<|3*c.2.1)).tmod 5)),c);letI b:=Ci s.p.se s.p.fl c s.p.tk;letI d:=(AA<|(M b:Int)-1);.br (an<|s.i<s.n) (.ix s.i (M s.xs)<|.br ((FL s.p.ls c) !=0) (.rl s.p.cs<|.rl s.p.st<|.rl s.p.ca<|.rl s.p.mi<|.rl s.p.me<|.rl s.p.lk<|.rl s.p.dr<|.rl s.p.tg<|.nx {s with i:=e})<|.req (BG s.p.fl/\(Bm s.p.se s.p.fl=0->Ly s.p.fl=U))<|.br ((EN s.p.se s.p.fl c s.p.tk) !=0) (.rl s.p.cs<|.rl s.p.st<|.rl s.p.ca<|.rl s.p.mi<|.rl s.p.me<|.rl s.p.lk<|.rl s.p.dr<|.rl s.p.tg<|.nx {s with i:=e})<|.ix d (M b)<|.req ((5:Int)≠0)<|.rb (M s.p.lk) (M<|[a]) 48<|.rl s.p.cs<|.rl s.p.st<|.rl s.p.ca<|.rl s.p.mi<|.rl s.p.me<|.re (M s.p.lk+M ([a])) (s.p.lk++([a]))<|.rl s.p.dr<|.rl s.p.tg<|.nx {s with i:=e,p.ls:=Hg s.p.ls c,p.se:=(G8 b d).1,p.fl:=(G8 b d).2,p.nx:=AA<|c.1+1,p.lk:=s.p.lk++([a])})<|.rl s.p.cs<|.rl s.p.st<|.rl s.p.ca<|.rl s.p.mi<|.rl s.p.me<|.rl s.p.lk<|.rl s.p.dr<|.rl s.p.tg<|.so (.exit 0) s
def LY (p:PK) (xs:List Le):PK:=letI a:=(xs.foldl (Ff p.tk) ⟨p.ls,p.se,p.fl,p.nx,p.lk⟩);{p with ls:=a.ls,se:=a.se,fl:=a.fl,nx:=a.nx,lk:=a.lk}
theorem Dr {a b:Int}(h:(a !=b)=X):a=b:=A8
def oW {p:PK}{x:Le}(h:VK p.se p.fl) (hE:EN p.se p.fl x p.tk=0):letI a:=Ci p.se p.fl x p.tk;AA ((M a:Int)-1)=(M a:Int)-1/\0<M a:=by
 have h1:=apA h.1 hE
 have h2:=(h.st hE).1
 exact ⟨AJ,h2⟩
theorem aiI {se:Int}{fl:List Int}{x:Le}{t:Int}(h:EN se fl x t=0):0<=x.1/\x.1<=1000000:=by
 unfold EN at h;split at h
 ·grind
 ·split at h
  ·cases h
  ·rename_i h1
   have:DA x=true:=by
    cases e:DA x
    ·grind
    ·rfl
   have:=MR.1 this
   omega
def ah5 {l:List Le}{i:Int}(h0:0<=i) (h:i<M l):Al l i∈l:=LA h0 h
def agG {t c:Int}(ht:0<=t/\t<=1000000) (hc:0<=c/\c<=100):AA (t+(AA<|AA (7*t)+AA (3*c)).tmod 5)=t+(7*t+3*c).tmod 5:=by
 rw [AJ (x:=7*t),AJ (x:=3*c),AJ (x:=7*t+3*c)]
 have:=Int.tmod_nonneg 5 (show 0<=7*t+3*c by omega)
 have:=Int.tmod_lt_of_pos (7*t+3*c) (show (0:Int)<5 by decide)
 exact AJ
def jt (s:Nu):Prop:=s.i=0/\s.n=(M s.xs:Int)/\s.n<=16/\(∀x∈s.xs,0<=x.2.1/\x.2.1<=100)/\(0<=s.p.tk/\s.p.tk<=1000000)/\VK s.p.se s.p.fl/\(M s.p.lk:Int)<=17000000+s.i
def ib (s:Nu):Prop:=(0<=s.i/\s.i<=s.n)/\s.n=(M s.xs:Int)/\s.n<=16/\(∀x∈s.xs,0<=x.2.1/\x.2.1<=100)/\(0<=s.p.tk/\s.p.tk<=1000000)/\VK s.p.se s.p.fl/\(M s.p.lk:Int)<=17000000+s.i
def fA (s:Nu):Nat:=(s.n-s.i).toNat
def acD (x:Ex) (s s':Nu):Prop:=True
def alY:∀s,jt s->ib s:=by
 exact aMe
theorem agj:Da ib fA acD yy:=by
 intro s hI;obtain ⟨⟨h0,h1⟩,h2,h3,h4,h5,h6,h7⟩:=hI;refine AH (λc1=>AH (λc2=>?_) λc2=>AH (λc3=>?_) λc3=>?_) λc1=>trivial
 all_goals have c1:s.i<s.n:=AX
 all_goals rw [AJ (x:=s.i+1)]
 iterate 2
  ·exact ⟨⟨⟨AZ,AZ⟩,h2,h3,h4,h5,h6,AZ⟩,by simp only [fA];omega⟩
 ·rw [(oW h6<|Dr c3).1]
  exact ⟨⟨⟨A8,AZ⟩,h2,h3,h4,h5,(h6.st<|Dr c3).2,A8⟩,by simp only [fA];omega⟩
def UN:AS Nu:=⟨18,85,[0,75,76,77],[.pc 16 7 AP,.kb 5,.pc 16 9<|.int aw,.kb 6,.pc 16 10 Am,.kb 7,.pc 16 16 As,.kb 12,.ms 0 17],λs=>[.own 16 0,s.xs,s.n,s.i],λs=>[AO,AO,zB,AO,bV 67 Ad s.p.cs,AO,AO,AO,bV 90 B3 s.p.st,bV 55 AP s.p.ca,bV 107 B6 s.p.mi,bV 93 BO s.p.me,AO,⟨[],103,.dead,X⟩,bV 3 A7 s.p.dr,bV 3 A7 s.p.tg,⟨[.os 4 11 0<|M s.p.cs,.xl .str s.p.os,.xl Ah s.p.ks,.xl Af s.p.gs,.xl Ai s.p.bs,.v<|Y J s.p.tk,.v<|.bool s.p.up,.xl AP s.p.ls,.v<|Y J s.p.se,.xl (.int aw) s.p.fl,.xl Am s.p.ra,.v<|Y J s.p.nx,.os 8 4 0<|M s.p.st,.os 9 5 0<|M s.p.ca,.os 10 3 0<|M s.p.mi,.os 11 3 0<|M s.p.me,.xl As s.p.dm,.os 18 6 0<|M s.p.lk,.os 14 1 0<|M s.p.dr,.os 15 1 0<|M s.p.tg,.v<|Y J s.ev.ek,.v<|Y J s.ev.en,.v<|Y J s.ev.em,.v<|Y J s.ev.c1,.v<|Y J s.ev.c2,.v<|Y J s.ev.c3,.v<|Y J s.ev.c4,.v<|Y J s.ev.c5,.v<|.bool s.ev.d1,.v<|Y J s.ev.d2,.v<|Y J s.ev.d3,.v<|Y J s.ev.d4,.v<|.slice aj 0 0],85,.cl,X⟩,AO,bV 103 BJ s.p.lk],λv b=>⟨B5 AP v 1,AK v 2,AK v 3,rB b 16 4 0 0 0 8 9 10 11 0 18 14 15,rG b⟩,yy,λs r=> {s with i:=r.i,p.ls:=r.p.ls,p.se:=r.p.se,p.fl:=r.p.fl,p.nx:=r.p.nx,p.lk:=r.p.lk},λs=>s,λ_ s=>s,[.exit 0],jt,ib,fA⟩
abbrev aBp:=UN.run
abbrev asT:=UN.At
def uT:List Bd:=[eQ,aJu,aaD,aa2]
def azN:Aw:=I1 uT (la 9 func23 Cn<|l0 uT) [⟨46,jV.m,aRg⟩]
def axw:Rq ib yy:=by
 intro s hI;refine ⟨λc1=>⟨?_,λc2=>⟨A9,A9,A9,A9,A9,A9,A9,A9,ak⟩,λc2=>⟨?_,λc3=>⟨A9,A9,A9,A9,A9,A9,A9,A9,ak⟩,λc3=>⟨?_,?_,?_,A9,A9,A9,A9,A9,?_,A9,A9,ak⟩⟩⟩,λc1=>⟨A9,A9,A9,A9,A9,A9,A9,A9,ak⟩⟩
 all_goals ((obtain ⟨⟨h0,h1⟩,h2,h3,h4,h5,h6,h7⟩:=hI;simp only [Aa] at c1;first|omega|exact ⟨rfl,rfl⟩ |exact ⟨h6.1.2.2,λ_=>h6.cl⟩ |(simp only [Bc,Bn,BD];omega) |(simp only [BD,Bc,Bn,FB];done) |(rw [(oW h6<|Dr c3).1];have:=(oW h6<|Dr c3).2;omega)))
def aPk:UN.Ok:={}
def aPA:UN.Pf (acD):=⟨alY,λs h=>rfl,agj,axw⟩
def aGA:=s2 (b:=bN f30 0) aPk aPA uT azN
theorem asK:Rs jt asT aBp (λs:Nu=>LY s.p<|s.xs.drop s.i.toNat) (λx s' (v:PK)=>x=.exit 0/\s'.p=v):=DN aPk aPA (λs hI=>by
  obtain ⟨⟨h0,h1⟩,h2,h3,h4,h5,h6,h7⟩:=hI;refine AH (λc1=>?_) λc1=>?_
  ·have c1:s.i<s.n:=A8
   have e:=(W1 h0 (show s.i<(M s.xs:Int) by omega)).1
   rw [AJ (x:=s.i+1),e];refine AH (λc2=>?_) λc2=>AH (λc3=>?_) λc3=>?_
   ·show LY s.p _=LY s.p _
    unfold LY;rw [Jw,show Ff s.p.tk ⟨s.p.ls,s.p.se,s.p.fl,s.p.nx,s.p.lk⟩ (Al s.xs s.i)=⟨s.p.ls,s.p.se,s.p.fl,s.p.nx,s.p.lk⟩ from AE λh=>EX.1 c2 h.1]
   ·show LY s.p _=LY s.p _
    unfold LY;rw [Jw,show Ff s.p.tk ⟨s.p.ls,s.p.se,s.p.fl,s.p.nx,s.p.lk⟩ (Al s.xs s.i)=⟨s.p.ls,s.p.se,s.p.fl,s.p.nx,s.p.lk⟩ from AE λh=>EX.1 c3 h.2]
   ·have hx:=h4 _ (ah5 h0 (show s.i<(M s.xs:Int) by omega))
    have hn:=aiI<|Dr c3
    rw [(oW h6<|Dr c3).1,agG h5 hx,AJ (x:=(Al s.xs s.i).1+1)]
    show LY _ _=LY s.p _
    conv=>rhs;unfold LY
    rw [Jw,show Ff s.p.tk ⟨s.p.ls,s.p.se,s.p.fl,s.p.nx,s.p.lk⟩ (Al s.xs s.i)=_ from AD ⟨Dr c2,Dr c3⟩];rfl
  ·have c1:s.n<=s.i:=A8
   refine ⟨rfl,?_⟩;rw [En A0];rfl)
def aS3:List LV->T LV
 | [.xl (.pair (.int J) (.pair (.int J) (.pair (.int J) (.pair (.int J) (.int J))))) l,.v (Y J t)]=> .req (D9 l t=0) (.ok<|.AM [BX l t,.ki J 0])
 |_=> .no
def acf:=uS f44 aS3
theorem ajC:VV 44 acf:=λargs vals w Z lv h1 h2 h3 h4 h=>by
 have key:∃l t,lv=.AM [.xl AP<|BX l t,.ki J 0]/\(uh args).all (λx=>x=.AM [.xl AP<|BX l t,.v<|Y J 0]):=by
  unfold acf uS Jr aS3 at h;split at h
  ·rename_i l t e
   obtain ⟨g1,g2⟩:=h;refine ⟨l,t,g2.symm,?_⟩;unfold uh uS Jr;rw [e]
   show LV.AM [.xl AP _,.v<|Y J<|D9 _ _]=_
   rw [g1]
  ·cases h
 obtain ⟨l,t,rfl,hk⟩:=key;refine (eQ args vals w Z _ h1 h2 h3 h4 hk).mono λe w' ⟨hb,v,he,ho,hr⟩=>⟨hb,v,he,?_,?_⟩
 ·simp only [okV,AR] at ho|-
  grind
 ·simp only [R,RL] at hr|-
  exact hr
structure LN where
 p:PK
 ev:EW
def U7 (s:LN):List LV:=[.own 16 0]
def Yf (s:LN):List AB:=[AO,AO,zB,AO,bV 67 Ad s.p.cs,bV 101 AP s.p.ls,bV 5 (.int aw) s.p.fl,bV 127 Am s.p.ra,bV 90 B3 s.p.st,bV 55 AP s.p.ca,bV 107 B6 s.p.mi,bV 93 BO s.p.me,bV 57 As s.p.dm,bV 103 BJ s.p.lk,bV 3 A7 s.p.dr,bV 3 A7 s.p.tg,⟨[.os 4 11 0<|M s.p.cs,.xl .str s.p.os,.xl Ah s.p.ks,.xl Af s.p.gs,.xl Ai s.p.bs,.v<|Y J s.p.tk,.v<|.bool s.p.up,.os 5 5 0<|M s.p.ls,.v<|Y J s.p.se,.os 6 1 0<|M s.p.fl,.os 7 2 0<|M s.p.ra,.v<|Y J s.p.nx,.os 8 4 0<|M s.p.st,.os 9 5 0<|M s.p.ca,.os 10 3 0<|M s.p.mi,.os 11 3 0<|M s.p.me,.os 12 4 0<|M s.p.dm,.os 13 6 0<|M s.p.lk,.os 14 1 0<|M s.p.dr,.os 15 1 0<|M s.p.tg,.v<|Y J s.ev.ek,.v<|Y J s.ev.en,.v<|Y J s.ev.em,.v<|Y J s.ev.c1,.v<|Y J s.ev.c2,.v<|Y J s.ev.c3,.v<|Y J s.ev.c4,.v<|Y J s.ev.c5,.v<|.bool s.ev.d1,.v<|Y J s.ev.d2,.v<|Y J s.ev.d3,.v<|Y J s.ev.d4,.v<|.slice aj 0 0],85,.cl,X⟩,AO]
def aEe (s:LN):LU:=(⟨{s.p with ls:=BX (AQ s.p.ls) s.p.tk},s.ev⟩:LU)
def mz (s:LN):Nu:=letI b:=BX (AQ s.p.ls) s.p.tk;letI c:=AQ<|Ds s.p.cs s.p.tg<|M s.p.tg;letI a:=deL c s.p.os s.p.ks s.p.gs s.p.bs b (AQ s.p.ra) (AQ s.p.dm) s.p.tk s.p.nx;(⟨a,(M a:Int),0,{s.p with ls:=b,fl:=AQ s.p.fl,ra:=deR c s.p.os s.p.ks s.p.gs s.p.bs b (AQ s.p.ra) (AQ s.p.dm) s.p.tk s.p.nx,dm:=AQ s.p.dm},s.ev⟩:Nu)
structure YB where
 p:PK
 ev:EW
def acV (s:YB):LV:=.v<|.tuple #[]
def acz (s:YB):List AB:=[AO,AO,zB,AO,bV 67 Ad s.p.cs,AO,AO,AO,bV 90 B3 s.p.st,bV 55 AP s.p.ca,bV 107 B6 s.p.mi,bV 93 BO s.p.me,AO,AO,bV 3 A7 s.p.dr,bV 3 A7 s.p.tg,⟨[.os 4 11 0<|M s.p.cs,.xl .str s.p.os,.xl Ah s.p.ks,.xl Af s.p.gs,.xl Ai s.p.bs,.v<|Y J s.p.tk,.v<|.bool s.p.up,.xl AP s.p.ls,.v<|Y J s.p.se,.xl (.int aw) s.p.fl,.xl Am s.p.ra,.v<|Y J s.p.nx,.os 8 4 0<|M s.p.st,.os 9 5 0<|M s.p.ca,.os 10 3 0<|M s.p.mi,.os 11 3 0<|M s.p.me,.xl As s.p.dm,.xl BJ s.p.lk,.os 14 1 0<|M s.p.dr,.os 15 1 0<|M s.p.tg,.v<|Y J s.ev.ek,.v<|Y J s.ev.en,.v<|Y J s.ev.em,.v<|Y J s.ev.c1,.v<|Y J s.ev.c2,.v<|Y J s.ev.c3,.v<|Y J s.ev.c4,.v<|Y J s.ev.c5,.v<|.bool s.ev.d1,.v<|Y J s.ev.d2,.v<|Y J s.ev.d3,.v<|Y J s.ev.d4,.v<|.slice aj 0 0],85,.cl,X⟩,AO]
def gB (s:LN):T YB:=letI a:=Ds s.p.cs s.p.tg<|M s.p.tg;letI b:=BX (AQ s.p.ls) s.p.tk;letI c:=aBp<|mz s;letI d:=AQ s.p.dm;.br (!s.p.up) (.rz s.p.ls<|.rz s.p.fl<|.rz s.p.ra<|.rz s.p.dm<|.rz s.p.lk<|.pd s.p<|.ok<|⟨{s.p with ls:=AQ s.p.ls,fl:=AQ s.p.fl,ra:=AQ s.p.ra,dm:=AQ s.p.dm,lk:=AQ s.p.lk},s.ev⟩)<|.rz s.p.ls<|.req (D9 (AQ s.p.ls) s.p.tk=0)<|.rl s.p.cs<|.rl s.p.fl<|.rl s.p.ra<|.pb s.p<|.req (aiG<|aEe s)<|.rv (.xl AP b)<|.rv (.os 7 2 0<|M s.p.ra)<|.rv (.os 12 4 0<|M s.p.dm)<|.rv (.v<|Y J s.p.tk)<|.rv (.v<|Y J s.p.nx)<|.rz a<|.rz s.p.ra<|.rz s.p.dm<|.req (IN d s.p.tk/\M d<=19)<|.br ((deE (AQ a) s.p.os s.p.ks s.p.gs s.p.bs b (AQ s.p.ra) d s.p.tk s.p.nx) !=0) (.rz s.p.fl<|.rz s.p.ra<|.rz s.p.dm<|.rz s.p.lk<|.pd s.p<|.ok<|⟨{s.p with ls:=b,fl:=AQ s.p.fl,ra:=AQ s.p.ra,dm:=AQ s.p.dm,lk:=AQ s.p.lk},s.ev⟩)<|.rz s.p.fl<|.rz s.p.dm<|.rl s.p.cs<|.rl s.p.st<|.rl s.p.ca<|.rl s.p.mi<|.rl s.p.me<|.rl s.p.lk<|.rl s.p.dr<|.rl s.p.tg<|.req (UN.q<|mz s)<|.rz c.p.lk<|.pd s.p<|.ok<|⟨{s.p with ls:=c.p.ls,se:=c.p.se,fl:=c.p.fl,ra:=deR (AQ a) s.p.os s.p.ks s.p.gs s.p.bs b (AQ s.p.ra) d s.p.tk s.p.nx,nx:=c.p.nx,dm:=d,lk:=AQ c.p.lk},s.ev⟩
def aDd {t:Int}{xs:List Le}{s:SN}:∀k,k<=M xs->FK t xs s k=(xs.take k).foldl (Ff t) s
 |0,_=>rfl
 |k+1,h=>by
  rw [FK,aDd k A0,ZC A0,List.foldl_append];rw [show Al xs (k:Int)=xs[k]' A0 from NX A0];rfl
def anH {p:PK}:p.sn1=p.dL.foldl (Ff p.tk) p.Hw:=by
 unfold PK.sn1;rw [aDd _<|Ax _,EY]
def aoL {l:List Le}{t:Int}(h:B1 l=U) (ht:0<=t/\t<=1000000):D9 l t=0:=by
 have e:LX l t=true:=by unfold LX;rw [h,CM.2 A0];rfl
 exact AD e
def RQ.wd {p:PK}(h:RQ p) (hv:VP p):IN p.dm p.tk/\M p.dm<=19:=by
 have hg:=(D5.1 hv.site).1
 have ht:=hv.tk
 refine ⟨⟨λx hx=>?_,A0,A0⟩,by rw [hv.dm];omega⟩
 have:=h.dm x hx
 unfold HL at this;simp only [AY,CM] at this;omega
def aAt (s:LN):Prop:=(VP s.p/\RQ s.p)/\VK s.p.se s.p.fl/\B1 s.p.ls=U
def XE (s:LN):YB:=⟨PK.AV s.p,s.ev⟩
def PD:Cx LN YB:=⟨U7,Yf,λv b=>⟨rF b,rG b⟩,aAt,[0,1,3,17],[.pc 16 7 AP,.kb 5,.pc 16 9<|.int aw,.kb 6,.pc 16 10 Am,.kb 7,.pc 16 16 As,.kb 12,.pc 16 17 BJ,.kb 13],acV,acz,XE⟩
abbrev aia (s:LN):Prop:=aAt s/\U7 s=U7 s/\Yf s=Yf s
def Wi:List Bd:=[ajC,aJu,aaD,aa2]
def aR4:Aw:=I1 Wi (la 9 func30 aGA<|la 9 func23 Cn<|l0 Wi) [⟨46,jV.m,aRg⟩]
def aTh:DL:=CS 30 18 9 (UN.lp)<|CS 23 0 9 (Gb.lp)<|Du prog AU Wi 20 2
def aob:EL prog AU aTh:=DD func30 rfl AT aGA<|DD func23 rfl AT Cn<|Hb<|gk Wi
def ayQ (s:LN):((Ec prog AU Wi aTh aR4).k 30 (U7 s)<|Yf s).bind (λq=>G6 (M<|Yf s) [0] [.pc 16 7 AP,.kb 5,.pc 16 9<|.int aw,.kb 6,.pc 16 10 Am,.kb 7,.pc 16 16 As,.kb 12,.pc 16 17 BJ,.kb 13] .normal (q.1::U7 s) q.2)=(gB s).mp (λs2=>⟨.normal,M (U7 s)+1,[acV s2],acz s2,U⟩):=AT
def avh (s:LN) (hE:aAt s):(gB s).all (λq=>q=XE s):=by
 obtain ⟨⟨hV,hR⟩,hK,hls⟩:=hE
 have hs:=D5.1 hV.site
 have ht:=hV.Eu
 have hwd:=hR.wd hV
 have htk:=hV.tk
 have hx:D9 s.p.ls s.p.tk=0:=aoL hls htk
 have hxs:EE s.p.ls s.p.tk=BX s.p.ls s.p.tk:=AD hx
 have hA:jP (aEe s):=⟨ht,by show M s.p.tg<=1000;omega⟩
 have q2:Ds s.p.cs s.p.tg (M s.p.tg)=s.p.ES:=rfl
 have e1:deE s.p.ES s.p.os s.p.ks s.p.gs s.p.bs (BX s.p.ls s.p.tk) s.p.ra s.p.dm s.p.tk s.p.nx=s.p.dE:=by unfold PK.dE;rw [hxs]
 have e2:deR s.p.ES s.p.os s.p.ks s.p.gs s.p.bs (BX s.p.ls s.p.tk) s.p.ra s.p.dm s.p.tk s.p.nx=s.p.dR:=by unfold PK.dR;rw [hxs]
 have e3:deL s.p.ES s.p.os s.p.ks s.p.gs s.p.bs (BX s.p.ls s.p.tk) s.p.ra s.p.dm s.p.tk s.p.nx=s.p.dL:=by unfold PK.dL;rw [hxs]
 have hst:mz s=⟨s.p.dL,(M s.p.dL:Int),0,{s.p with ls:=BX s.p.ls s.p.tk,ra:=s.p.dR},s.ev⟩:=by
  unfold mz;simp only [Fa,q2,e2,e3]
 have hB:jt ⟨s.p.dL,(M s.p.dL:Int),0,{s.p with ls:=BX s.p.ls s.p.tk,ra:=s.p.dR},s.ev⟩:=by
  refine ⟨rfl,rfl,?_,λx hx=>?_,htk,hK,?_⟩
  ·have:=uu (p:=s.p);show (M s.p.dL:Int)<=16;omega
  ·have:=abb (p:=s.p) x hx;omega
  ·have:=hR.lk;show (M s.p.lk:Int)<=17000000+0;omega
 have q3:=(asK _ hB).2
 have q3:(aBp ⟨s.p.dL,(M s.p.dL:Int),0,{s.p with ls:=BX s.p.ls s.p.tk,ra:=s.p.dR},s.ev⟩).p=LY {s.p with ls:=BX s.p.ls s.p.tk,ra:=s.p.dR} s.p.dL:=q3
 unfold gB;simp only [Fa,Wz,q2,e1,e2,hst,q3];refine ⟨λc=>?_,λc=>?_⟩
 ·have c:s.p.up=false:=Ic
  repeat (refine ⟨Dd,?_⟩)
  show _=_
  unfold XE;rw [show PK.AV s.p=s.p from AD c]
 have hu:¬s.p.up=false:=by intro h;rw [h] at c;cases c
 refine ⟨A0,hx,?_⟩
 repeat (refine ⟨AI,?_⟩)
 refine ⟨⟨hA,rfl,rfl⟩,rfl,rfl,rfl,rfl,rfl,?_⟩
 repeat (refine ⟨Dd,?_⟩)
 refine ⟨λc1=>?_,λc1=>?_⟩
 ·have c1:s.p.dE≠0:=EX.1 c1
  repeat (refine ⟨AI,?_⟩)
  show _=_
  unfold XE;rw [show PK.AV s.p={s.p with ls:=EE s.p.ls s.p.tk} by unfold PK.AV;rw [AE hu,AD c1],hxs]
 ·have c1:¬s.p.dE≠0:=λh=>aNv
  repeat (refine ⟨AI,?_⟩)
  refine ⟨⟨hB,rfl,rfl⟩,?_⟩
  repeat (refine ⟨AI,?_⟩)
  show _=_
  unfold XE;rw [show PK.AV s.p=_ by unfold PK.AV;rw [AE hu,AE c1],anH]
  unfold LY PK.Hw;rw [hxs]
def TT:Df prog AU 30 PD.m:=Cx.sound (D:=PD) (t:=gB) (gk Wi) aob aR4.h ayQ λs hE=>⟨avh s hE⟩
def F4 {α:Type}(f:Nat->α->α):Nat->α->Nat->α
 |_,s,0=>s
 |i,s,n+1=>F4 f (i+1) (f i s) n
def aHt {α:Type}{f:Nat->α->α}:∀ {n i:Nat}{s:α},F4 f i s (n+1)=f (i+n) (F4 f i s n)
 |0,_,_=>rfl
 |n+1,i,s=>by
  rw [F4,aHt (n:=n) (i:=i+1),show i+1+n=i+(n+1) by omega]
  rfl
def X1 {α:Type}{f:Nat->α->α}{F:Nat->α}(h:∀k,F (k+1)=f k (F k)):∀n,F4 f 0 (F 0) n=F n
 |0=>rfl
 |n+1=>by rw [aHt,X1 h n,h,EZ]
def MH {α:Type}{f:Nat->α->α}{s:α}{i n:Int}(h0:0<=i) (h:i<n):F4 f i.toNat s (n-i).toNat=F4 f (i+1).toNat (f i.toNat s) (n-(i+1)).toNat:=by
 rw [show (n-i).toNat=(n-(i+1)).toNat+1 by omega,F4,show (i+1).toNat=i.toNat+1 by omega]
def oD {α:Type}{f:Nat->α->α}{s:α}{i n:Int}(h:n<=i):F4 f i.toNat s (n-i).toNat=s:=by
 rw [show (n-i).toNat=0 by omega]
 rfl
def aHr {α:Type}{f:Nat->List α->List α}(h:∀k s,M (f k s)=M s):∀ {n i:Nat}{s:List α},M (F4 f i s n)=M s
 |0,_,_=>rfl
 |n+1,i,s=>(aHr h (n:=n) (i:=i+1)).trans<|h i s
def tk1 (gs:List Ch) (i:Int) (_:Nat) (st:List St):List St:=Ct gs st i 8 0 0
def avs {gs:List Ch}{st:List St}{i:Int}:∀n,F4 (tk1 gs i) 0 st n=Rt gs st i n:=X1 (F:=Rt gs st i) λ_=>rfl
def cnt1 (gs:List Ch) (dr:List Int) (t:Int) (k:Nat) (st:List St):List St:=if Km t (gi dr k)=0/\Km (t+1) (gi dr k)=0 then Rt gs st k (HJ (t+1) (gi dr k)-HJ t (gi dr k)).toNat else st
def ahy {gs:List Ch}{dr:List Int}{t:Int}{st:List St}:∀n,F4 (cnt1 gs dr t) 0 st n=S9 gs dr t st n:=X1 (F:=S9 gs dr t st) λ_=>rfl
def alR {gs:List Ch}{ca:List Ca}{s:DW}:∀n,F4 (λk d=>Ki gs ca d (k:Int)) 0 s n=Hv gs ca s n:=X1 (F:=Hv gs ca s) λ_=>rfl
def aJ (gs:List Ch) (tg am:List Int) (k:Nat) (cs:List Cd):List Cd:=if gi tg k>=(Ac cs k).2.2.1 then cs else
  if (an (M am=M gs)&&E0 (cs.set k<|G9 (Ac cs k)<|gi tg k) gs am)=U then cs.set k (G9 (Ac cs k)<|gi tg k) else cs
def anL {gs:List Ch}{tg am:List Int}{cs:List Cd}:∀n,F4 (aJ gs tg am) 0 cs n=D8 gs tg am cs n:=X1 (F:=D8 gs tg am cs) λ_=>rfl
def aRb {c:Ca}{m:Mi}{p al:Int}:0<=Eh c m p al/\Eh c m p al<=7:=by
 unfold Eh;split
 ·rename_i hB
  obtain ⟨hc,_,h1,h2,_⟩:=ql.1 hB
  have hc':=WD.1 hc
  unfold H8;split
  ·omega
  ·exact aCT ⟨A0,A0⟩ ⟨h1,h2⟩
 ·omega
def aTx {c:Ca}{m:Mi}{p al:Int}:IntKind.u64.wrap (Eh c m p al)=Eh c m p al:=by
 have:=aRb (c:=c) (m:=m) (p:=p) (al:=al)
 exact aMF
variable {gs : List Ch} {ca : List Ca} {st : List St} {mi : List Mi} {me : List Me} {dw : List Int} {i : Int}
def alU (h:(BZ ca i).2.2.1=0):Ki gs ca ⟨st,mi,me,dw⟩ i=⟨st,mi,me,dw⟩:=AD h
theorem alT (h:¬(BZ ca i).2.2.1=0) (h2:¬JJ (BZ ca i) (Ck mi i) (AG gs i).2.2.1 (Bk (AG gs i)<|Bq st i)=0):Ki gs ca ⟨st,mi,me,dw⟩ i=⟨st,mi,me,dw⟩:=by
 unfold Ki
 grind
theorem Tx (h:¬(BZ ca i).2.2.1=0) (h2:JJ (BZ ca i) (Ck mi i) (AG gs i).2.2.1 (Bk (AG gs i)<|Bq st i)=0):
  Ki gs ca ⟨st,mi,me,dw⟩ i=⟨if FP (BZ ca i) (Ck mi i) (AG gs i).2.2.1 (Bk (AG gs i)<|Bq st i)>Bk (AG gs i) (Bq st i) then Ct gs st i 6 2 0 else st,mi.set i.toNat<|Kv (BZ ca i) (Ck mi i) (AG gs i).2.2.1<|Bk (AG gs i)<|Bq st i,
   if Gs (gMe me i) (FP (BZ ca i) (Ck mi i) (AG gs i).2.2.1<|Bk (AG gs i)<|Bq st i) (cnt<|Eh (BZ ca i) (Ck mi i) (AG gs i).2.2.1<|Bk (AG gs i)<|Bq st i)=0 then me.set i.toNat (IS (gMe me i) (FP (BZ ca i) (Ck mi i) (AG gs i).2.2.1<|Bk (AG gs i)<|Bq st i)<|cnt<|Eh (BZ ca i) (Ck mi i) (AG gs i).2.2.1<|Bk (AG gs i)<|Bq st i) else me,dw.set i.toNat<|FP (BZ ca i) (Ck mi i) (AG gs i).2.2.1<|Bk (AG gs i)<|Bq st i⟩:=by
 unfold Ki
 grind
def aaw (t d:Int):0<=HJ t d/\HJ t d<=2000000:=by
 unfold HJ;split
 ·rename_i h
  simp only [AY,CM] at h
  have h1:0<=t*(1000000+d):=Ia A0 A0
  have h2:t*(1000000+d)<=1000000*2000000:=Int.mul_le_mul A0 A0 A0 A0
  omega
 ·omega
end Go.Proofs.YtmlcgekfmlidcaaGreatDoor
namespace Go.Proofs.YtmlcgekfmlidcaaGreatDoor
set_option maxRecDepth 100000
set_option maxHeartbeats 4000000
open Go.Proofs.Tryz
open Go.Sx
def aIa:List LV->T LV
 | [.v (Y J r),.v (Y J m)]=> .req ((0<=r/\r<=2000000)/\0<=m/\m<=3000000) (.ok<|.v<|Y J<|m*r / 1000000)
 |_=> .no
def alm:List Bd:=[]
def auu:=vo (S:=aIa) func97 alm kN (λargs lv h=>by
 unfold aIa at h;split at h
 ·rename_i r m
  refine Ap (.req ((1000000:Int)≠0)<|.ok<|AA<|(AA<|m*r).tdiv 1000000) ?_;obtain ⟨⟨⟨h1,h2⟩,h3,h4⟩,rfl⟩:=h
  have hm:0<=m*r/\m*r<=6000000000000:=⟨Ia h3 h1,IX (Pd h2 h3) A0⟩
  refine ⟨A0,Az (λz=>LV.v<|Y J z) ?_⟩
  rw [AJ (x:=m*r),I4 hm.1];exact AJ
 ·cases h)
def aS7:List LV->T LV
 | [.v (Y J t),.v (Y J d)]=> .tu #[HJ t d,Km t d]
 |_=> .no
def ah4:List Bd:=[aJt,auu]
def X8:=vo (S:=aS7) func67 ah4 kN (λargs lv h=>by
 unfold aS7 at h;split at h
 ·rename_i t d
  refine Ap (letI a:=AA<|1000000+d;.br ((!(inB t 0 1000000)) ||((an<|d<(-200)) ||(an<|d>200))) (.tu #[(0:Int),(1:Int)])<|.req ((0<=a/\a<=2000000)/\0<=t/\t<=3000000)<|.tu #[Y J<|t*a / 1000000,(0:Int)]) ?_;obtain rfl:=h;unfold HJ Km;refine ⟨λc=>?_,λc=>?_⟩
  ·have:(inB t 0 1000000&&inB d (-200) 200)=false:=by
    cases ht:inB t 0 1000000
    ·rfl
    ·simp [ht] at c;simp [inB];omega
   rw [this];rfl
  ·have hh:inB t 0 1000000=U/\-200<=d/\d<=200:=by
    cases ht:inB t 0 1000000
    ·grind
    ·grind
   have:(inB t 0 1000000&&inB d (-200) 200)=true:=by rw [hh.1];simp [inB];omega
   have ht:=CM.1 hh.1
   rw [this,AJ (x:=1000000+d)];exact ⟨⟨⟨A0,A0⟩,A0,A0⟩,rfl⟩
 ·cases h)
def aIw:List LV->T LV
 | [.v (Y .u64 n)]=> .req (0<=n/\n<=7) (.ok<|cnt n)
 |_=> .no
def anj:Bg prog AU (DC []) (inl prog AU (DC []) (Du prog AU (DC []) 20 2) 9) Ak f71 [.v<|Y .u64 0]=.ok (cnt 0):=AT
def ani:Bg prog AU (DC []) (inl prog AU (DC []) (Du prog AU (DC []) 20 2) 9) Ak f71 [.v<|Y .u64 1]=.ok (cnt 1):=AT
def anh:Bg prog AU (DC []) (inl prog AU (DC []) (Du prog AU (DC []) 20 2) 9) Ak f71 [.v<|Y .u64 2]=.ok (cnt 2):=AT
def ang:Bg prog AU (DC []) (inl prog AU (DC []) (Du prog AU (DC []) 20 2) 9) Ak f71 [.v<|Y .u64 3]=.ok (cnt 3):=AT
def anf:Bg prog AU (DC []) (inl prog AU (DC []) (Du prog AU (DC []) 20 2) 9) Ak f71 [.v<|Y .u64 4]=.ok (cnt 4):=AT
def ane:Bg prog AU (DC []) (inl prog AU (DC []) (Du prog AU (DC []) 20 2) 9) Ak f71 [.v<|Y .u64 5]=.ok (cnt 5):=AT
def anc:Bg prog AU (DC []) (inl prog AU (DC []) (Du prog AU (DC []) 20 2) 9) Ak f71 [.v<|Y .u64 6]=.ok (cnt 6):=AT
def anq:Bg prog AU (DC []) (inl prog AU (DC []) (Du prog AU (DC []) 20 2) 9) Ak f71 [.v<|Y .u64 7]=.ok (cnt 7):=AT
def aru {n:Int}(h1:0<=n) (h2:n<=7):Bg prog AU (DC []) (inl prog AU (DC []) (Du prog AU (DC []) 20 2) 9) Ak f71 [.v<|Y .u64 n]=.ok (cnt n):=by
 rcases eight h1 h2 with e|e|e|e|e|e|e|e
 ·rw [e];exact anj
 ·rw [e];exact ani
 ·rw [e];exact anh
 ·rw [e];exact ang
 ·rw [e];exact anf
 ·rw [e];exact ane
 ·rw [e];exact anc
 ·rw [e];exact anq
def WR:VV 71 (uS f71 aIw):=nk func71 rfl (o6 (l:=[]) trivial) (aCn (o6 (l:=[]) trivial) (Hb<|o6 (l:=[]) trivial) 9) (p7 AT) (λargs lv h=>by
 unfold aIw at h;split at h
 ·rename_i n
  simp only [canL,canX];rw [aru h.1.1 h.1.2];exact h.2
 ·cases h)
def O4:List Bd:=[]
def auR:List LV->T LV:=λl=>Bg prog AU O4 kN Ak f152<|canL l
def auX:=vo (S:=auR) func152 O4 kN (λargs lv h=>by
 refine ⟨?_⟩
 assumption)
def auS:List LV->T LV:=λl=>Bg prog AU O4 kN Ak f196<|canL l
def aua:=vo (S:=auS) func196 O4 kN (λargs lv h=>by
 refine ⟨?_⟩
 assumption)
def aiR:List LV->T LV:=λl=>Bg prog AU O4 kN Ak f194<|canL l
def aTq:=vo (S:=aiR) func194 O4 kN (λargs lv h=>by
 refine ⟨?_⟩
 assumption)
def abO:List Bd:=[aua]
def aiQ:List LV->T LV:=λl=>Bg prog AU (abO) kN Ak f195<|canL l
def aTp:=vo (S:=aiQ) func195 abO kN (λargs lv h=>by
 refine ⟨?_⟩
 assumption)
def aiP:List LV->T LV:=λl=>Bg prog AU O4 kN Ak f197<|canL l
def aTo:=vo (S:=aiP) func197 O4 kN (λargs lv h=>by
 refine ⟨?_⟩
 assumption)
def ahG:List LV->T LV:=λl=>Bg prog AU O4 kN Ak f198<|canL l
def aTn:=vo (S:=ahG) func198 O4 kN (λargs lv h=>by
 refine ⟨?_⟩
 assumption)
def abN:List Bd:=[aTq,aTp,aTo,aTn]
def auQ:List LV->T LV:=λl=>Bg prog AU (abN) kN Ak f153<|canL l
def av4:=vo (S:=auQ) func153 abN kN (λargs lv h=>by
 refine ⟨?_⟩
 assumption)
def aJg:List LV->T LV
 | [.xq 8 q0,.v (Y J p2),.v (Y J al)]=>(match ([q0 0,q0 1,q0 2,q0 3,q0 4,q0 5,q0 6,q0 7]:List LV) with
  | [.v (Y J k),.v (Y J ph),.v (Y J mx),.v (Y J nd),.v (Y J dl),.xl (.int J) pil,.v (Y J tk),.v (Y J got)]=> .req (GC (k,ph,mx,nd,dl)=U/\IQ (pil,tk,got)=U/\1<=p2/\p2<=7/\0<=al) (.tu #[FR (k,ph,mx,nd,dl) (pil,tk,got) p2 al,H8 (k,ph,mx,nd,dl) (pil,tk,got) p2 al])
  |_=> .no)
 |_=> .no
def abM:List Bd:=[auX,av4,aTq,aTp,aTo,aTn]
def asA (k ph mx nd dl:Int) (pil:List Int) (tk got p2 al:Int):letI a:=Bf J ph p2;letI c:=AA<|0-a;letI d:=(AA<|(M pil:Int)-dl);letI b:=gi pil d;Bg prog AU (abM) kN Ak f101 [xQ 8 [k,ph,mx,nd,dl,.xl A7 pil,tk,got],p2,al]=.br (((if k==2 then Bf J a c else Bf J ph p2)==0) ||(an<|got>=nd)) (.tu #[(0:Int),(0:Int)]) (.br (k==(0:Int)) (.br ((if al<mx then al else mx)==0) (.tu #[(0:Int),(0:Int)])<|.tu #[Y J (if al<mx then al else mx),Y J (if k==2 then Bf J a c else Bf J ph p2)])<|.br (k==(2:Int)) (.br ((if al<mx then al else mx)==0) (.tu #[(0:Int),(0:Int)])<|.tu #[Y J (if al<mx then al else mx),Y J (if k==2 then Bf J a c else Bf J ph p2)])<|.br (k==(1:Int)) (.br (dl==0) (.br ((if al<mx then al else mx)==0) (.tu #[(0:Int),(0:Int)])<|.tu #[Y J (if al<mx then al else mx),Y J (if k==2 then Bf J a c else Bf J ph p2)])<|.br (an<|d>=0) (.ix d (M pil)<|.br ((if (if b<al then b else al)<mx then if b<al then b else al else mx)==0) (.tu #[(0:Int),(0:Int)])<|.tu #[Y J (if (if b<al then b else al)<mx then if b<al then b else al else mx),Y J (if k==2 then Bf J a c else Bf J ph p2)])<|.br ((if (if (0:Int)<al then 0 else al)<mx then if (0:Int)<al then 0 else al else mx)==0) (.tu #[(0:Int),(0:Int)])<|.tu #[Y J (if (if (0:Int)<al then 0 else al)<mx then if (0:Int)<al then 0 else al else mx),Y J (if k==2 then Bf J a c else Bf J ph p2)])<|.br (k==(3:Int)) (.req (dl≠0)<|.req ((2:Int)≠0)<|.br (((AA<|tk.tdiv dl).tmod 2)==1) (.br ((if (0:Int)<mx then 0 else mx)==0) (.tu #[(0:Int),(0:Int)])<|.tu #[Y J (if (0:Int)<mx then 0 else mx),Y J (if k==2 then Bf J a c else Bf J ph p2)])<|.br ((if al<mx then al else mx)==0) (.tu #[(0:Int),(0:Int)])<|.tu #[Y J (if al<mx then al else mx),Y J (if k==2 then Bf J a c else Bf J ph p2)])<|.br (k==(4:Int)) (.br (al==0) (.br ((if (0:Int)<mx then 0 else mx)==0) (.tu #[(0:Int),(0:Int)])<|.tu #[Y J (if (0:Int)<mx then 0 else mx),Y J (if k==2 then Bf J a c else Bf J ph p2)])<|.br ((if mx<mx then mx else mx)==0) (.tu #[(0:Int),(0:Int)])<|.tu #[Y J (if mx<mx then mx else mx),Y J (if k==2 then Bf J a c else Bf J ph p2)])<|.no /-call of v -/):=AT
def auZ := vo (S:=aJg) func101 abM kN (λargs lv h=>by
 refine ⟨?_⟩;unfold aJg at h;split at h
 ·split at h
  case h_2=>cases h
  rename_i heq0;simp only [canL,canX];rw [Dv (n:=8) heq0];simp only [canL,canX];rw [asA];rename_i p2 al _ k ph mx nd dl pil tk got;obtain ⟨⟨hc,hm,hp1,hp2,hal⟩,rfl⟩:=h
  have hc:=WD.1 hc
  have hm:=dj.1 hm
  simp only at hc hm
  have hl:=aDM (a:=ph) (b:=p2) ⟨A0,A0⟩ ⟨A0,A0⟩
  have e0:(if (k==2)=U then Bf J (Bf J ph p2) (AA<|0-Bf J ph p2) else Bf J ph p2)=Kb k ph p2:=by
   have hw:AA (0-Bf J ph p2)=-land ph p2:=by
    have:Bf J ph p2=land ph p2:=rfl
    rw [this,AJ];omega
   rw [hw];unfold Kb land;simp only [DJ]
  have ew:AA ((M pil:Int)-dl)=(M pil:Int)-dl:=AJ
  have et:AA (tk.tdiv dl)=tk.tdiv dl:=by
   rw [I4 A0]
   have h1:0<=tk / dl:=SX A0 A0
   have h2:tk / dl<=tk:=V1 _ A0
   exact AJ
  have hz:(Kb k ph p2=0\/nd<=got)->FR (k,ph,mx,nd,dl) (pil,tk,got) p2 al=0:=λh=>by unfold FR;rw [AD h]
  have hn:¬(Kb k ph p2=0\/nd<=got)->FR (k,ph,mx,nd,dl) (pil,tk,got) p2 al=min mx (Hf (k,ph,mx,nd,dl) (pil,tk,got) al):=λh=>by unfold FR;rw [AE h]
  have w0:k≠1->k≠3->k≠4->Hf (k,ph,mx,nd,dl) (pil,tk,got) al=al:=λh1 h2 h3=>by simp [Hf,h1,h2,h3]
  have w1a:k=1->dl=0->Hf (k,ph,mx,nd,dl) (pil,tk,got) al=al:=λh1 h2=>Zz
  have w1b:k=1->dl≠0->0<=(M pil:Int)-dl->Hf (k,ph,mx,nd,dl) (pil,tk,got) al=min al (gi pil<|(M pil:Int)-dl):=λh1 h2 h3=>by
   simp only [Hf,h1,h2,Br,FA,aU,M7];rw [AD h3];rfl
  have w1c:k=1->dl≠0->(M pil:Int)-dl<0->Hf (k,ph,mx,nd,dl) (pil,tk,got) al=min al 0:=λh1 h2 h3=>by
   simp only [Hf,h1,h2,Br,FA,aU,M7];rw [AE A0]
  have w3a:k=3->(tk.tdiv dl).tmod 2=1->Hf (k,ph,mx,nd,dl) (pil,tk,got) al=0:=λh1 h2=>Zz
  have w3b:k=3->¬(tk.tdiv dl).tmod 2=1->Hf (k,ph,mx,nd,dl) (pil,tk,got) al=al:=λh1 h2=>Zz
  have w4a:k=4->al=0->Hf (k,ph,mx,nd,dl) (pil,tk,got) al=0:=λh1 h2=>Zz
  have w4b:k=4->al≠0->Hf (k,ph,mx,nd,dl) (pil,tk,got) al=mx:=λh1 h2=>Zz
  have ho1:FR (k,ph,mx,nd,dl) (pil,tk,got) p2 al=0->H8 (k,ph,mx,nd,dl) (pil,tk,got) p2 al=0:=λh=>by unfold H8;rw [AD h]
  have ho2:FR (k,ph,mx,nd,dl) (pil,tk,got) p2 al≠0->H8 (k,ph,mx,nd,dl) (pil,tk,got) p2 al=Kb k ph p2:=λh=>by unfold H8;rw [AE h]
  have fin:∀a o:Int,a=FR (k,ph,mx,nd,dl) (pil,tk,got) p2 al->o=H8 (k,ph,mx,nd,dl) (pil,tk,got) p2 al->LV.v (.tuple #[Y J a,Y J o])=LV.v (.tuple #[Y J<|FR (k,ph,mx,nd,dl) (pil,tk,got) p2 al,Y J<|H8 (k,ph,mx,nd,dl) (pil,tk,got) p2 al]):=λa o h1 h2=>yY
  simp only [e0,ew,et]
  clear e0 ew hl et
  generalize FR (k,ph,mx,nd,dl) (pil,tk,got) p2 al=qA at*;generalize H8 (k,ph,mx,nd,dl) (pil,tk,got) p2 al=qO at*;generalize Hf (k,ph,mx,nd,dl) (pil,tk,got) al=qw at*;generalize Kb k ph p2=qc at*;generalize gi pil ((M pil:Int)-dl)=qg at*;refine ⟨λc1=>?_,λc1=>?_⟩
  ·simp only [DJ,CU,ne_eq,Cl,GH,Aa,D3,M7,Ph] at*
   refine fin _ _ ?_ ?_<;>(clear fin w0 w1a w1b w1c w3a w3b w4a w4b;omega)
  ·refine ⟨λc2=>?_,λc2=>?_⟩
   ·refine ⟨λc3=>?_,λc3=>?_⟩
    ·exact kY
    ·exact kY
   ·refine ⟨λc3=>?_,λc3=>?_⟩
    ·refine ⟨λc4=>?_,λc4=>?_⟩
     ·exact kY
     ·exact kY
    ·refine ⟨λc4=>?_,λc4=>?_⟩
     ·refine ⟨λc5=>?_,λc5=>?_⟩
      ·refine ⟨λc6=>?_,λc6=>?_⟩
       ·exact kW
       ·exact kW
      ·refine ⟨λc6=>?_,λc6=>?_⟩
       ·refine ⟨?_,?_⟩
        ·simp only [DJ,CU,ne_eq,Cl,GH,Aa,D3,M7,Ph] at*
         (first|decide|(clear fin w0 w3a w3b w4a w4b;omega))
        ·exact aMH
       ·exact aMH
     ·refine ⟨λc5=>?_,λc5=>?_⟩
      ·refine ⟨?_,?_⟩
       ·exact aLw
       ·refine ⟨?_,?_⟩
        ·exact aLw
        ·refine ⟨λc6=>?_,λc6=>?_⟩
         ·exact aMI
         ·exact aMI
      ·refine ⟨λc6=>?_,λc6=>?_⟩
       ·refine ⟨λc7=>?_,λc7=>?_⟩
        ·exact aMJ
        ·exact aMJ
       ·exfalso
        simp only [DJ,CU,ne_eq,Cl,GH,Aa,D3,M7,Ph] at*
        clear fin hz hn ho1 ho2 w0 w1a w1b w1c w3a w3b w4a w4b
        omega
 ·cases h)
def aJa:List LV->T LV
 | [.xq 8 q0,.v (Y J al),.v (Y J am),.v (Y J on)]=>(match ([q0 0,q0 1,q0 2,q0 3,q0 4,q0 5,q0 6,q0 7]:List LV) with
  | [.v (Y J k),.v (Y J ph),.v (Y J mx),.v (Y J nd),.v (Y J dl),.xl (.int J) pil,.v (Y J tk),.v (Y J got)]=> .req (IQ (pil,tk,got)=U/\0<=am/\am<=80/\0<=on/\on<=7) (.ok<|.agg [.xl A7<|dwP pil al,.v<|Y J<|tk+1,.v<|Y J<|got+2300*am*cnt on])
  |_=> .no)
 |_=> .no
def abL:List Bd:=[WR]
def as8 (k ph mx nd dl:Int) (pil:List Int) (tk got al am on:Int):letI a:=(AA<|(((0:Int).toNat+M pil+M ([al]):Nat):Int)-21);letI b:=(aq (0:Int).toNat (0:Int));letI c:=IntKind.u64.wrap on;letI d:=(AA<|(M pil:Int)+1);letI e:=(b++pil)++([al]);letI f:=AA<|got+(AA<|(AA<|2300*am)*(cnt c));Bg prog AU (abL) kN Ak f102 [xQ 8 [k,ph,mx,nd,dl,.xl A7 pil,tk,got],al,am,on]=.req (0<=(0:Int)/\(0:Int)<=d/\8*d<=2^48/\d<2^63) (.ra (0:Int).toNat (M b) ((0:Int).toNat+M pil) 8<|.ra ((0:Int).toNat+M pil) (M<|b++pil) ((0:Int).toNat+M pil+M ([al])) 8<|.br (an<|(((0:Int).toNat+M pil+M ([al]):Nat):Int)>21) (.req (0<=a/\a<=(((0:Int).toNat+M pil+M ([al]):Nat):Int)/\(((0:Int).toNat+M pil+M ([al]):Nat):Int)<=(((0:Int).toNat+M pil+M ([al]):Nat):Int))<|.req (0<=c/\c<=7)<|.req ((0+a.toNat)+((((0:Int).toNat+M pil+M ([al]):Nat):Int).toNat-a.toNat)<=M e)<|.ok<|.agg [.xl A7<|(e.drop<|0+a.toNat).take<|(((0:Int).toNat+M pil+M ([al]):Nat):Int).toNat-a.toNat,AA<|tk+1,f])<|.req (0<=c/\c<=7)<|.req (0+((0:Int).toNat+M pil+M ([al]))<=M e)<|.ok<|.agg [.xl A7<|(e.drop 0).take<|(0:Int).toNat+M pil+M ([al]),AA<|tk+1,f]):=AT
def auT :=vo (S:=aJa) func102 abL kN (λargs lv h=>by
 refine ⟨?_⟩;unfold aJa at h;split at h
 ·split at h
  case h_2=>cases h
  rename_i heq0;simp only [canL,canX];rw [Dv (n:=8) heq0];simp only [canL,canX];rw [as8];rename_i al am on _ k ph mx nd dl pil tk got;obtain ⟨⟨hm,ha1,ha2,ho1,ho2⟩,rfl⟩:=h
  have hm:=dj.1 hm
  simp only at hm
  have hu:IntKind.u64.wrap on=on:=by simp [IntKind.wrap,IntKind.bits,IntKind.signed];omega
  have ht:AA (tk+1)=tk+1:=AJ
  have hcn:0<=cnt on/\cnt on<=3:=by unfold cnt;omega
  have hg:AA (got+AA (AA (2300*am)*cnt on))=got+2300*am*cnt on:=by
   rw [AJ (x:=2300*am)]
   have:cnt on=0\/cnt on=1\/cnt on=2\/cnt on=3:=A0
   rcases this with e|e|e|e<;>rw [e,AJ (x:=2300*am*_),AJ]
  have h0:(0:Int).toNat=0:=rfl
  have hw1:AA ((M pil:Int)+1)=(M pil:Int)+1:=AJ
  have hw2:AA (((M pil+1:Nat):Int)-21)=(M pil:Int)-20:=by rw [AJ];omega
  have fin:∀(p:List Int),p=dwP pil al->LV.agg [.xl A7 p,.v<|Y J<|tk+1,.v<|Y J<|got+2300*am*cnt on]=LV.agg [.xl A7<|dwP pil al,.v<|Y J<|tk+1,.v<|Y J<|got+2300*am*cnt on]:=λp h=>VS
  simp only [h0,List.replicate_zero,EF,BD,Bc,Bn,EZ,hu,ht,hg,hw1,hw2];refine ⟨?_,?_⟩
  ·(try simp only [Aa,D3] at c1);first|omega|(simp;done) |(simp;omega)
  ·refine ⟨?_,?_⟩
   ·(try simp only [Aa,D3] at c1);first|omega|(simp;done) |(simp;omega)
   ·refine ⟨?_,?_⟩
    ·(try simp only [Aa,D3] at c1);first|omega|(simp;done) |(simp;omega)
    ·refine ⟨λc1=>?_,λc1=>?_⟩
     ·refine ⟨?_,?_⟩
      ·(try simp only [Aa,D3] at c1);first|omega|(simp;done) |(simp;omega)
      ·refine ⟨?_,?_⟩
       ·(try simp only [Aa,D3] at c1);first|omega|(simp;done) |(simp;omega)
       ·refine ⟨?_,?_⟩
        ·(try simp only [Aa,D3] at c1);first|omega|(simp;done) |(simp;omega)
        ·refine fin _ ?_
         unfold dwP;simp only [Aa,D3] at c1;rw [show ((M pil:Int)-20).toNat=M pil-20 by omega]
         exact DZ (by rw [F8,BD];simp only [Bc,Bn];omega)
     ·refine ⟨?_,?_⟩
      ·omega
      ·refine ⟨?_,?_⟩
       ·omega
       ·refine fin _ ?_
        unfold dwP;simp only [Aa,D3] at c1;rw [show M pil-20=0 by omega]
        grind
 ·cases h)
def aSp:List LV->T LV
 | [.v (.agg ⟨[Y J k,Y J ph,Y J mx,Y J nd,Y J dl]⟩),.agg [.xl (.int J) pil,.v (Y J tk),.v (Y J got)],.v (Y J p2),.v (Y J al)]=> .ok (.AM [FP (k,ph,mx,nd,dl) (pil,tk,got) p2 al,Eh (k,ph,mx,nd,dl) (pil,tk,got) p2 al,.agg [.xl A7 (Kv (k,ph,mx,nd,dl) (pil,tk,got) p2 al).1,(Kv (k,ph,mx,nd,dl) (pil,tk,got) p2 al).2.1,(Kv (k,ph,mx,nd,dl) (pil,tk,got) p2 al).2.2],JJ (k,ph,mx,nd,dl) (pil,tk,got) p2 al])
 |_=> .no
def aln:List Bd:=[aTu,ai8,aJw,auZ,auT]
def XI:=vo (S:=aSp) func69 aln kN (λargs lv h=>by
 unfold aSp at h;split at h
 ·rename_i k ph mx nd dl pil tk got p2 al
  refine Ap (letI a:=(k,ph,mx,nd,dl);letI b:=(pil,tk,got);letI c:=FR a b p2 al;letI d:=H8 a b p2 al;.br ((!(GC a)) ||((!(IQ b)) ||((!(inB p2 (1:Int) (7:Int))) ||((!(inB al (0:Int) (80:Int))) ||(tk==1000000))))) (.ok<|.AM [(0:Int),(0:Int),.agg [.xl A7 ([]:List Int),(0:Int),(0:Int)],(1:Int)])<|.req (GC a=U/\IQ b=U/\1<=p2/\p2<=7/\0<=al)<|.req (IQ b=U/\0<=c/\c<=80/\0<=d/\d<=7)<|.ok<|.AM [c,d,.agg [.xl A7<|dwP pil al,.v<|Y J<|tk+1,.v<|Y J<|got+2300*c*cnt d],(0:Int)]) ?_;obtain rfl:=h
  have e:((!(GC (k,ph,mx,nd,dl))) ||((!(IQ (pil,tk,got))) ||((!(inB p2 (1:Int) (7:Int))) ||((!(inB al (0:Int) (80:Int))) ||(tk==1000000)))))=!(dwB (k,ph,mx,nd,dl) (pil,tk,got) p2 al):=by simp [dwB,bne]
  rw [e];unfold FP Eh Kv JJ;refine ⟨λc1=>?_,λc1=>?_⟩
  ·have hB:dwB (k,ph,mx,nd,dl) (pil,tk,got) p2 al=false:=AX
   rw [hB];rfl
  ·have hB:dwB (k,ph,mx,nd,dl) (pil,tk,got) p2 al=true:=A8
   rw [hB];obtain ⟨hc,hm,h1,h2,h3,h4,h5⟩:=ql.1 hB;obtain ⟨b1,b2,b3,b4⟩:=aDn hc hm ⟨h1,h2⟩ ⟨h3,h4⟩;exact ⟨⟨hc,hm,h1,h2,h3⟩,⟨hm,b1,by have:=WD.1 hc;omega,b3,b4⟩,rfl⟩
 ·cases h)
structure Ny where
 xs:List Lk
 (n i:Int)
 p:PK
 ev:EW
 left:List Lk
def Tm (s:Ny):T (Rd Ny):=letI b:=Gc s.xs s.i;letI c:=s.left++([b]);letI d:=M s.left+M ([b]);letI e:=AA<|s.i+1;letI f:=M s.p.st;letI g:=s.p.st.getD b.2.2.1.toNat<|Ty.dflt B3;letI h:=M<|[b];letI j:=M s.left;letI a:=(s.p.st.set b.2.2.1.toNat<|sN (AG s.p.gs b.2.2.1) g (7:Int) b.2.2.2.1 b.2.2.2.2.2);.br (an<|s.i<s.n) (.ix s.i (M s.xs)<|.br (an<|b.1>s.p.tk) (.br U (.rb j h 48<|.re d c<|.pd s.p<|.nx {s with i:=e,left:=c})<|.rl s.left<|.pd s.p<|.nx {s with i:=e})<|.ix b.2.2.1 (M s.p.gs)<|.ik b.2.2.1 f<|.br ((sE (AG s.p.gs b.2.2.1) g (7:Int) b.2.2.2.1 b.2.2.2.2.2)==0) (.ik b.2.2.1 f<|.br X (.rb j h 48<|.re d c<|.rl s.p.cs<|.re f a<|.rl s.p.ca<|.rl s.p.mi<|.rl s.p.me<|.rl s.p.dr<|.rl s.p.tg<|.nx {s with i:=e,p.st:=a,left:=c})<|.rl s.left<|.rl s.p.cs<|.re f a<|.rl s.p.ca<|.rl s.p.mi<|.rl s.p.me<|.rl s.p.dr<|.rl s.p.tg<|.nx {s with i:=e,p.st:=a})<|.br X (.rb j h 48<|.re d c<|.pd s.p<|.nx {s with i:=e,left:=c})<|.rl s.left<|.pd s.p<|.nx {s with i:=e})<|.rl s.left<|.pd s.p<|.so (.exit 0) s
def arr1 (gs:List Ch) (t:Int) (st:List St) (l:Lk):List St:=if l.1>t then st else Ct gs st l.2.2.1 7 l.2.2.2.1 l.2.2.2.2.2
def aRl {l:List Lk}{i:Int}(h0:0<=i) (h:i<M l):Gc l i∈l/\l.drop i.toNat=Gc l i::l.drop (i+1).toNat:=by
 have e:Gc l i=l[i.toNat]' A0:=by unfold Gc;rw [DV,DX A0];rfl
 rw [e];exact ⟨HS _,by rw [SK A0,show (i+1).toNat=i.toNat+1 by omega]⟩
def aDt {gs:List Ch}{lk:List Lk}{t:Int}{st:List St}:∀k,k<=M lk->PV gs lk t st k=(lk.take k).foldl (arr1 gs t) st
 |0,_=>rfl
 |k+1,h=>by
  have e:Gc lk (k:Int)=lk[k]' A0:=by unfold Gc;rw [Bx,DV,DX A0];rfl
  rw [PV,aDt k A0,ZC A0,List.foldl_append,<-e];rfl
def jQ (s:Ny):Prop:=s.i=0/\s.n=(M s.xs:Int)/\s.n<=20000000/\(M s.left:Int)<=s.i/\(∀l∈s.xs,0<=l.2.2.1/\l.2.2.1<(M s.p.gs:Int))/\M s.p.st=M s.p.gs
def iq (s:Ny):Prop:=0<=s.i/\s.i<=s.n/\s.n=(M s.xs:Int)/\s.n<=20000000/\(M s.left:Int)<=s.i/\(∀l∈s.xs,0<=l.2.2.1/\l.2.2.1<(M s.p.gs:Int))/\M s.p.st=M s.p.gs
def oh (s:Ny):Nat:=(s.n-s.i).toNat
def acL (x:Ex) (s s':Ny):Prop:=True
def amg:∀s,jQ s->iq s:=by
 rintro s ⟨h0,h2,h3,h4⟩
 exact xZ
theorem ahU:Da iq oh acL Tm:=by
 intro s hI;unfold Tm;dsimp only [T.rd,T.rl,T.rv];obtain ⟨h0,h1,h2,h3,h4,h5,h6⟩:=hI;refine AH (λc1=>AH (λc2=>?_) λc2=>AH (λc3=>?_) λc3=>?_) λc1=>trivial
 all_goals have c1:s.i<s.n:=AX
 all_goals rw [AJ (x:=s.i+1)]
 ·exact AH (λ_=>⟨⟨AZ,AZ,h2,h3,A8,h5,h6⟩,yR⟩) λc=>GI
 ·exact AH (λc=>GI) λ_=>⟨⟨AZ,AZ,h2,h3,AZ,h5,A8⟩,yR⟩
 ·exact AH (λc=>GI) λ_=>⟨⟨A8,AZ,h2,h3,AZ,h5,h6⟩,yR⟩
def R5:AS Ny:=⟨19,30,[0,1,4,11,12,13],[.nl 4 103 BJ],λs=>[.own 16 0,.fn 66 [.own 18 0],.os 19 6 0<|M s.left,s.xs,s.n,s.i],λs=>[AO,AO,zB,AO,bV 67 Ad s.p.cs,AO,AO,AO,bV 90 B3 s.p.st,bV 55 AP s.p.ca,bV 107 B6 s.p.mi,bV 93 BO s.p.me,AO,AO,bV 3 A7 s.p.dr,bV 3 A7 s.p.tg,⟨[.os 4 11 0<|M s.p.cs,.xl .str s.p.os,.xl Ah s.p.ks,.xl Af s.p.gs,.xl Ai s.p.bs,.v<|Y J s.p.tk,.v<|.bool s.p.up,.xl AP s.p.ls,.v<|Y J s.p.se,.xl (.int aw) s.p.fl,.xl Am s.p.ra,.v<|Y J s.p.nx,.os 8 4 0<|M s.p.st,.os 9 5 0<|M s.p.ca,.os 10 3 0<|M s.p.mi,.os 11 3 0<|M s.p.me,.xl As s.p.dm,.xl BJ s.p.lk,.os 14 1 0<|M s.p.dr,.os 15 1 0<|M s.p.tg,.v<|Y J s.ev.ek,.v<|Y J s.ev.en,.v<|Y J s.ev.em,.v<|Y J s.ev.c1,.v<|Y J s.ev.c2,.v<|Y J s.ev.c3,.v<|Y J s.ev.c4,.v<|Y J s.ev.c5,.v<|.bool s.ev.d1,.v<|Y J s.ev.d2,.v<|Y J s.ev.d3,.v<|Y J s.ev.d4,.v<|.slice aj 0 0],85,.cl,X⟩,AO,⟨[.own 16 0],80,.cl,X⟩,bV 103 BJ s.left],λv b=>⟨B5 BJ v 3,AK v 4,AK v 5,rT b,rG b,Ab BJ b 19⟩,Tm,λs r=> {s with i:=r.i,p.st:=r.p.st,left:=r.left},λs=>s,λ_ s=>s,[.exit 0],jQ,iq,oh⟩
abbrev K7:=R5.run
abbrev asj:=R5.At
def uR:List Bd:=[WT,eI,X8,XJ,XI,X9,WR,WU,Qt]
def azM:Aw:=I1 uR (la 9 func23 Cn<|l0 uR) [⟨30,PD.m,TT⟩]
def axO:Rq iq Tm:=by
 intro s hI;refine ⟨λc1=>⟨?_,λc2=>⟨λc3=>⟨?_,?_,A9,A9,A9,A9,A9,A9,A9,ak⟩,λc3=>⟨A9,A9,A9,A9,A9,A9,A9,A9,ak⟩⟩,λc2=>⟨?_,?_,?_,λc4=>⟨?_,?_,λc5=>⟨?_,?_,A9,?_,A9,A9,A9,A9,A9,ak⟩,λc5=>⟨A9,A9,?_,A9,A9,A9,A9,A9,ak⟩⟩,λc4=>⟨λc6=>⟨?_,?_,A9,A9,A9,A9,A9,A9,A9,ak⟩,λc6=>⟨A9,A9,A9,A9,A9,A9,A9,A9,ak⟩⟩⟩⟩,λc1=>⟨A9,A9,A9,A9,A9,A9,A9,A9,ak⟩⟩
 all_goals ((obtain ⟨h0,h1,h2,h3,h4,h5,h6⟩:=hI;simp only [Aa] at c1;have hm:=h5 _ (aRl h0 (show s.i<(M s.xs:Int) by omega)).1;first|omega|exact ⟨rfl,AI⟩ |(simp only [Bc,Bn,BD];omega) |(simp only [BD,Bc,Bn,FB];done)))
def aQn:R5.Ok:={}
def aPN:R5.Pf (acL):=⟨amg,λs h=>rfl,ahU,axO⟩
def L7:=s2 (b:=bN f41 0) aQn aPN uR azM
theorem atb:Rs jQ asj K7 (λs:Ny=>((s.xs.drop s.i.toNat).foldl (arr1 s.p.gs s.p.tk) s.p.st,s.left++(s.xs.drop s.i.toNat).filter (λl=>an<|l.1>s.p.tk))) (λx s' (v:List St×List Lk)=>x=.exit 0/\(s'.p.st,s'.left)=v):=DN aQn aPN (λs hI=>by
  show DO _ _ ((Tm s).rd s)
  unfold Tm;dsimp only [T.rd,T.rl];obtain ⟨h0,h1,h2,h3,h4,h5,h6⟩:=hI;refine AH (λc1=>?_) λc1=>?_
  ·have c1:s.i<s.n:=A8
   have e:=(aRl h0 (show s.i<(M s.xs:Int) by omega)).2
   rw [AJ (x:=s.i+1),e];refine AH (λc2=>?_) λc2=>AH (λc3=>?_) λc3=>?_
   ·refine AH (λ_=>?_) (λc=>GI)
    have c2':=DY c2
    show (_,_)=(_,_)
    rw [Jw,N1,AD c2,show arr1 s.p.gs s.p.tk s.p.st (Gc s.xs s.i)=s.p.st from AD c2',Cm];rfl
   ·refine AH (λc=>GI) (λ_=>?_)
    have c2':=JN c2
    rw [Jw,N1,AE A8,show arr1 s.p.gs s.p.tk s.p.st (Gc s.xs s.i)=_ from (AE c2').trans<|AD<|eq_of_beq c3];rfl
   ·refine AH (λc=>GI) (λ_=>?_)
    have c2':=JN c2
    show (_,_)=(_,_)
    rw [Jw,N1,AE A8,show arr1 s.p.gs s.p.tk s.p.st (Gc s.xs s.i)=_ from (AE c2').trans<|AE<|CU.1 c3]
  ·have c1:s.n<=s.i:=A8
   refine ⟨rfl,?_⟩;rw [En A0]
   simp)
structure Nw where
 (i on oi m k:Int)
 p:PK
 ev:EW
def aG6:=lN (bN f32 0) 0
def zH (s:Nw):T (Rd Nw):=letI b:=s.p.st.getD s.i.toNat<|Ty.dflt B3;letI c:=M s.p.st;letI a:=(s.p.st.set s.i.toNat<|sN (AG s.p.gs s.i) b (8:Int) (0:Int) (0:Int));.br (an<|s.k<s.m) (.ix s.i (M s.p.gs)<|.ik s.i c<|.br ((sE (AG s.p.gs s.i) b (8:Int) (0:Int) (0:Int))==0) (.ik s.i c<|.rl s.p.dr<|.rl s.p.cs<|.re c a<|.rl s.p.ca<|.rl s.p.mi<|.rl s.p.me<|.rl s.p.dr<|.rl s.p.tg<|.nx {s with k:=AA<|s.k+1,p.st:=a})<|.rl s.p.dr<|.pd s.p<|.nx {s with k:=AA<|s.k+1})<|.rl s.p.dr<|.pd s.p<|.so (.exit 2) s
def Yw (s:Nw):Prop:=s.k=0/\(0<=s.i/\s.i<(M s.p.gs:Int))/\M s.p.st=M s.p.gs/\s.m<=4000000
def il (s:Nw):Prop:=0<=s.k/\(0<=s.i/\s.i<(M s.p.gs:Int))/\M s.p.st=M s.p.gs/\s.m<=4000000
def fC (s:Nw):Nat:=(s.m-s.k).toNat
def acI (x:Ex) (s s':Nw):Prop:=True
def alE:∀s,Yw s->il s:=by
 rintro s ⟨h0,h2⟩
 exact ⟨A0,h2⟩
theorem ai0:Da il fC acI zH:=by
 intro s hI;obtain ⟨h0,h1,h2,h3⟩:=hI;refine AH (λc1=>AH (λc2=>?_) λc2=>?_) λc1=>trivial
 all_goals have c1:s.k<s.m:=A8
 all_goals rw [AJ (x:=s.k+1)]
 ·exact ⟨⟨A8,h1,A8,h3⟩,by simp only [fC];omega⟩
 ·exact ⟨⟨A8,h1,h2,h3⟩,by simp only [fC];omega⟩
def R3:AS Nw:=⟨20,57,[0,2,12,13,14,48,49],[],λs=>[.own 16 0,s.i,.os 14 1 0<|M s.p.dr,s.on,s.oi,s.m,s.k],λs=>[AO,AO,zB,AO,bV 67 Ad s.p.cs,AO,AO,AO,bV 90 B3 s.p.st,bV 55 AP s.p.ca,bV 107 B6 s.p.mi,bV 93 BO s.p.me,AO,AO,bV 3 A7 s.p.dr,bV 3 A7 s.p.tg,⟨[.os 4 11 0<|M s.p.cs,.xl .str s.p.os,.xl Ah s.p.ks,.xl Af s.p.gs,.xl Ai s.p.bs,.v<|Y J s.p.tk,.v<|.bool s.p.up,.xl AP s.p.ls,.v<|Y J s.p.se,.xl (.int aw) s.p.fl,.xl Am s.p.ra,.v<|Y J s.p.nx,.os 8 4 0<|M s.p.st,.os 9 5 0<|M s.p.ca,.os 10 3 0<|M s.p.mi,.os 11 3 0<|M s.p.me,.xl As s.p.dm,.xl BJ s.p.lk,.os 14 1 0<|M s.p.dr,.os 15 1 0<|M s.p.tg,.v<|Y J s.ev.ek,.v<|Y J s.ev.en,.v<|Y J s.ev.em,.v<|Y J s.ev.c1,.v<|Y J s.ev.c2,.v<|Y J s.ev.c3,.v<|Y J s.ev.c4,.v<|Y J s.ev.c5,.v<|.bool s.ev.d1,.v<|Y J s.ev.d2,.v<|Y J s.ev.d3,.v<|Y J s.ev.d4,.v<|.slice aj 0 0],85,.cl,X⟩,AO,AO,AO],λv b=>⟨AK v 1,AK v 3,AK v 4,AK v 5,AK v 6,rT b,rG b⟩,zH,λs r=> {s with k:=r.k,p.st:=r.p.st},λs=>s,λ_ s=>s,[.exit 2],Yw,il,fC⟩
abbrev W4:=R3.run
abbrev ash:=R3.At
def X5:List Bd:=[WT,eI,X8,XJ,XI,X9,WR,WU,Qt]
def uD:Aw:=I1 X5 (la 2 func41 L7<|la 9 func23 Cn<|l0 X5) [⟨30,PD.m,TT⟩]
def axK:Rq il zH:=by
 intro s hI;refine ⟨λc1=>⟨?_,?_,?_,λc2=>⟨?_,?_,A9,A9,?_,A9,A9,A9,A9,A9,ak⟩,λc2=>⟨A9,A9,A9,A9,A9,A9,A9,A9,ak⟩⟩,λc1=>⟨A9,A9,A9,A9,A9,A9,A9,A9,ak⟩⟩
 all_goals ((obtain ⟨h0,h1,h2,h3⟩:=hI;first|omega|exact ⟨rfl,AI⟩))
def aQk:R3.Ok:={}
def aPK:R3.Pf (acI):=⟨alE,λs h=>rfl,ai0,axK⟩
def apO:SA 20 aG6 R3:=s2 aQk aPK X5 uD
theorem aH2:Rs Yw ash W4 (λs:Nw=>F4 (tk1 s.p.gs s.i) s.k.toNat s.p.st (s.m-s.k).toNat) (λx s' (v:List St)=>x=.exit 2/\s'.p.st=v):=DN aQk aPK (λs hI=>by
  obtain ⟨h0,h1,h2,h3⟩:=hI;refine AH (λc1=>?_) λc1=>?_
  ·have c1:s.k<s.m:=A8
   rw [AJ (x:=s.k+1),MH h0 c1];refine AH (λc2=>?_) λc2=>?_
   ·rw [show tk1 s.p.gs s.i s.k.toNat s.p.st=_ from AD<|eq_of_beq c2]
    rfl
   ·rw [show tk1 s.p.gs s.i s.k.toNat s.p.st=_ from AE<|CU.1 c2]
    rfl
  ·have c1:s.m<=s.k:=A8
   exact ⟨rfl,(oD c1).symm⟩)
structure LR where
 (n i:Int)
 p:PK
 ev:EW
def aG4:=bN f32 0
def NI (s:LR):Nw:=letI a:=s.p.dr.getD s.i.toNat<|Ty.dflt A7;(⟨s.i,s.n,s.i,AA<|(HJ (AA<|s.p.tk+1) a)-(HJ s.p.tk a),0,s.p,s.ev⟩:Nw)
def zG (s:LR):T (Rd LR):=letI a:=s.p.dr.getD s.i.toNat<|Ty.dflt A7;.br (an<|s.i<s.n) (.ik s.i (M s.p.dr)<|.br (((Km s.p.tk a) !=0) ||((Km (AA<|s.p.tk+1) a) !=0)) (.rl s.p.dr<|.pd s.p<|.nx {s with i:=AA<|s.i+1})<|.rl s.p.dr<|.pd s.p<|.req (R3.q<|NI s)<|.rl s.p.dr<|.rl s.p.cs<|.rl (W4<|NI s).p.st<|.rl s.p.ca<|.rl s.p.mi<|.rl s.p.me<|.rl s.p.dr<|.rl s.p.tg<|.nx {s with i:=AA<|s.i+1,p.st:=(W4<|NI s).p.st})<|.rl s.p.dr<|.pd s.p<|.so (.exit 0) s
def jL (s:LR):Prop:=s.i=0/\s.n=(M s.p.dr:Int)/\M s.p.dr=M s.p.gs/\s.n<=1000/\M s.p.st=M s.p.gs/\(0<=s.p.tk/\s.p.tk<=1000000)
def Xd (s:LR):Prop:=0<=s.i/\s.i<=s.n/\s.n=(M s.p.dr:Int)/\M s.p.dr=M s.p.gs/\s.n<=1000/\M s.p.st=M s.p.gs/\(0<=s.p.tk/\s.p.tk<=1000000)
def fB (s:LR):Nat:=(s.n-s.i).toNat
def acH (x:Ex) (s s':LR):Prop:=True
def alj:∀s,jL s->Xd s:=by
 exact xh
theorem uw {s:LR}(hI:Xd s) (c1:s.i<s.n):Yw (NI s)/\((Km s.p.tk (gi s.p.dr s.i.toNat)=0/\Km (s.p.tk+1) (gi s.p.dr s.i.toNat)=0)->(W4<|NI s).p.st=cnt1 s.p.gs s.p.dr s.p.tk s.i.toNat s.p.st):=by
 obtain ⟨h0,h1,h2,h3,h4,h6,h7⟩:=hI
 have hg:s.p.dr.getD s.i.toNat (Ty.dflt A7)=gi s.p.dr s.i:=rfl
 have b1:=aaw s.p.tk<|gi s.p.dr s.i
 have b2:=aaw (s.p.tk+1)<|gi s.p.dr s.i
 have hm:(NI s).m=HJ (s.p.tk+1) (gi s.p.dr s.i)-HJ s.p.tk (gi s.p.dr s.i):=by
  show AA (HJ (AA<|s.p.tk+1) _-HJ s.p.tk _)=_
  rw [hg,AJ (x:=s.p.tk+1),AJ (x:=HJ (s.p.tk+1) _-HJ s.p.tk _)]
 have hE:Yw (NI s):=⟨rfl,⟨h0,by show s.i<(M s.p.gs:Int);omega⟩,h6,A0⟩
 refine ⟨hE,λhc=>?_⟩
 have q:(W4<|NI s).p.st=F4 (tk1 s.p.gs s.i) 0 s.p.st ((NI s).m-0).toNat:=(aH2 _ hE).2
 rw [q,hm,Pk,avs];unfold cnt1
 grind
theorem ahz:Da Xd fB acH zG:=by
 intro s hI;obtain ⟨h0,h1,h2,h3,h4,h6,h7⟩:=id hI;refine AH (λc1=>AH (λc2=>?_) λc2=>?_) λc1=>trivial
 all_goals have c1:s.i<s.n:=AX
 all_goals rw [AJ (x:=s.i+1)]
 ·exact ⟨⟨A8,A8,h2,h3,h4,h6,h7⟩,by simp only [fB];omega⟩
 ·have hl:M (W4<|NI s).p.st=M s.p.gs:=by
   rw [(aH2 _ (uw hI c1).1).2];exact (aHr λ_ _=>L9).trans h6
  exact ⟨⟨A8,A8,h2,h3,h4,hl,h7⟩,by simp only [fB];omega⟩
def QW:AS LR:=⟨20,57,[0,12,13,14],[.pc 16 17 BJ,.kb 18,.kb 19],λs=>[.own 16 0,.os 14 1 0<|M s.p.dr,s.n,s.i],λs=>[AO,AO,zB,AO,bV 67 Ad s.p.cs,AO,AO,AO,bV 90 B3 s.p.st,bV 55 AP s.p.ca,bV 107 B6 s.p.mi,bV 93 BO s.p.me,AO,AO,bV 3 A7 s.p.dr,bV 3 A7 s.p.tg,⟨[.os 4 11 0<|M s.p.cs,.xl .str s.p.os,.xl Ah s.p.ks,.xl Af s.p.gs,.xl Ai s.p.bs,.v<|Y J s.p.tk,.v<|.bool s.p.up,.xl AP s.p.ls,.v<|Y J s.p.se,.xl (.int aw) s.p.fl,.xl Am s.p.ra,.v<|Y J s.p.nx,.os 8 4 0<|M s.p.st,.os 9 5 0<|M s.p.ca,.os 10 3 0<|M s.p.mi,.os 11 3 0<|M s.p.me,.xl As s.p.dm,.xl BJ s.p.lk,.os 14 1 0<|M s.p.dr,.os 15 1 0<|M s.p.tg,.v<|Y J s.ev.ek,.v<|Y J s.ev.en,.v<|Y J s.ev.em,.v<|Y J s.ev.c1,.v<|Y J s.ev.c2,.v<|Y J s.ev.c3,.v<|Y J s.ev.c4,.v<|Y J s.ev.c5,.v<|.bool s.ev.d1,.v<|Y J s.ev.d2,.v<|Y J s.ev.d3,.v<|Y J s.ev.d4,.v<|.slice aj 0 0],85,.cl,X⟩,AO,AO,AO],λv b=>⟨AK v 2,AK v 3,rT b,rG b⟩,zG,λs r=> {s with i:=r.i,p.st:=r.p.st},λs=>s,λ_ s=>s,[.exit 0],jL,Xd,fB⟩
abbrev dd:=QW.run
abbrev asf:=QW.At
def axJ:Rq Xd zG:=by
 intro s hI;refine ⟨λc1=>⟨?_,?_,λc2=>⟨A9,A9,A9,A9,A9,A9,A9,A9,ak⟩,λc2=>⟨A9,A9,A9,A9,A9,A9,A9,A9,?_,A9,A9,A9,A9,A9,A9,A9,A9,ak⟩⟩,λc1=>⟨A9,A9,A9,A9,A9,A9,A9,A9,ak⟩⟩
 all_goals ((obtain ⟨h0,h1,h2,h3,h4,h6,h7⟩:=id hI;simp only [Aa] at c1;first|omega|exact ⟨(uw hI c1).1,rfl,rfl⟩))
def aQj:QW.Ok:={}
def aPJ:QW.Pf (acH):=⟨alj,λs h=>rfl,ahz,axJ⟩
def MP:SA 20 aG4 QW:=AS.snd aQj aPJ (GM (Γ:=X5) (K:=uD) (L:=(Lp (λi=>if i=7 then R3.lp else Ak i))) (gk X5) uD.h aG4 (λb hb=>by
 rw [show BB _=[aG6] by kernel_rfl] at hb
 simp only [B7,Bu,Bt] at hb;subst hb;exact apO)) λs=>AT
theorem auF:Rs jL asf dd (λs:LR=>F4 (cnt1 s.p.gs s.p.dr s.p.tk) s.i.toNat s.p.st (s.n-s.i).toNat) (λx s' (v:List St)=>x=.exit 0/\s'.p.st=v):=DN aQj aPJ (λs hI=>by
  obtain ⟨h0,h1,h2,h3,h4,h6,h7⟩:=id hI;refine AH (λc1=>?_) λc1=>?_
  ·have c1:s.i<s.n:=A8
   have hg:s.p.dr.getD s.i.toNat (Ty.dflt A7)=gi s.p.dr s.i.toNat:=MB
   rw [AJ (x:=s.i+1),AJ (x:=s.p.tk+1),hg,MH h0 c1];refine AH (λc2=>?_) λc2=>?_
   ·rw [show cnt1 s.p.gs s.p.dr s.p.tk s.i.toNat s.p.st=s.p.st from AE λh=>A8]
    rfl
   ·have c2:Km s.p.tk (gi s.p.dr s.i.toNat)=0/\Km (s.p.tk+1) (gi s.p.dr s.i.toNat)=0:=A8
    rw [<-(uw hI c1).2 c2];rfl
  ·have c1:s.n<=s.i:=A8
   exact ⟨rfl,(oD c1).symm⟩)
structure LP where
 gl:List Ch
 (n i:Int)
 p:PK
 ev:EW
 dw:List Int
def eU (s:LP) (e:Int) (o:Int) (ce:Int) (a:Int) (al:Int) (se:Int) (sn:St) (m:Mi) (cn:Me):T (Rd LP):=letI b:=s.p.mi.set s.i.toNat m;letI c:=s.dw.set s.i.toNat a;letI d:=s.p.me.set s.i.toNat cn;letI f:=M s.p.mi;letI g:=M s.p.st;letI h:=AA<|s.i+1;letI j:=s.p.st.set s.i.toNat sn;letI k:=M s.dw;letI l:=M s.p.me;.br (an<|s.i<s.n) (.ix s.i (M s.gl)<|.ik s.i (M s.p.ca)<|.br (!((s.p.ca.getD s.i.toNat<|Ty.dflt AP).2.2.1 !=0)) (.pd s.p<|.rl s.dw<|.nx {s with i:=h})<|.ik s.i g<|.ik s.i (M s.p.ca)<|.ik s.i f<|.br (e !=0) (.pd s.p<|.rl s.dw<|.nx {s with i:=h})<|.ik s.i k<|.ik s.i f<|.ik s.i l<|.req (0<=(IntKind.u64.wrap o)/\(IntKind.u64.wrap o)<=7)<|.br (ce==0) (.ik s.i l<|.br (an<|a>al) (.ix s.i (M s.p.gs)<|.ik s.i g<|.br (se==0) (.ik s.i g<|.rl s.p.cs<|.re g j<|.rl s.p.ca<|.re f b<|.re l d<|.rl s.p.dr<|.rl s.p.tg<|.re k c<|.nx {s with i:=h,p.st:=j,p.mi:=b,p.me:=d,dw:=c})<|.rl s.p.cs<|.rl s.p.st<|.rl s.p.ca<|.re f b<|.re l d<|.rl s.p.dr<|.rl s.p.tg<|.re k c<|.nx {s with i:=h,p.mi:=b,p.me:=d,dw:=c})<|.rl s.p.cs<|.rl s.p.st<|.rl s.p.ca<|.re f b<|.re l d<|.rl s.p.dr<|.rl s.p.tg<|.re k c<|.nx {s with i:=h,p.mi:=b,p.me:=d,dw:=c})<|.br (an<|a>al) (.ix s.i (M s.p.gs)<|.ik s.i g<|.br (se==0) (.ik s.i g<|.rl s.p.cs<|.re g j<|.rl s.p.ca<|.re f b<|.rl s.p.me<|.rl s.p.dr<|.rl s.p.tg<|.re k c<|.nx {s with i:=h,p.st:=j,p.mi:=b,dw:=c})<|.rl s.p.cs<|.rl s.p.st<|.rl s.p.ca<|.re f b<|.rl s.p.me<|.rl s.p.dr<|.rl s.p.tg<|.re k c<|.nx {s with i:=h,p.mi:=b,dw:=c})<|.rl s.p.cs<|.rl s.p.st<|.rl s.p.ca<|.re f b<|.rl s.p.me<|.rl s.p.dr<|.rl s.p.tg<|.re k c<|.nx {s with i:=h,p.mi:=b,dw:=c})<|.pd s.p<|.rl s.dw<|.so (.exit 0) s
abbrev XK (s:LP):=letI b:=s.p.ca.getD s.i.toNat<|Ty.dflt AP;letI c:=s.p.mi.getD s.i.toNat<|Ty.dflt B6;letI d:=AG s.gl s.i;letI e:=s.p.st.getD s.i.toNat<|Ty.dflt B3;letI g:=s.p.me.getD s.i.toNat<|Ty.dflt BO;letI a:=Bk d e;letI f:=cnt<|IntKind.u64.wrap<|Eh b c d.2.2.1 a;letI h:=FP b c d.2.2.1 a;eU s (JJ b c d.2.2.1 a) (Eh b c d.2.2.1 a) (Gs g h f) h a (sE (AG s.p.gs s.i) e (6:Int) (2:Int) (0:Int)) (sN (AG s.p.gs s.i) e (6:Int) (2:Int) (0:Int)) (Kv b c d.2.2.1 a)<|IS g h f
def jm (s:LP):Prop:=s.i=0/\s.n=(M s.p.gs:Int)/\s.n<=1000/\s.gl=s.p.gs/\(M s.p.st=M s.p.gs/\M s.p.ca=M s.p.gs/\M s.p.mi=M s.p.gs/\M s.p.me=M s.p.gs/\M s.dw=M s.p.gs)
def UE (s:LP):Prop:=0<=s.i/\s.i<=s.n/\s.n=(M s.p.gs:Int)/\s.n<=1000/\s.gl=s.p.gs/\(M s.p.st=M s.p.gs/\M s.p.ca=M s.p.gs/\M s.p.mi=M s.p.gs/\M s.p.me=M s.p.gs/\M s.dw=M s.p.gs)
def bf (s:LP):Nat:=(s.n-s.i).toNat
def aAd (x:Ex) (s s':LP):Prop:=True
def alQ:∀s,jm s->UE s:=by
 exact xh
def asF (s:LP) (hI:UE s) (e:Int) (o:Int) (ce:Int) (a:Int) (al:Int) (se:Int) (sn:St) (m:Mi) (cn:Me) (he:JJ (s.p.ca.getD s.i.toNat<|Ty.dflt AP) (s.p.mi.getD s.i.toNat<|Ty.dflt B6) (AG s.gl s.i).2.2.1 (Bk (AG s.gl s.i)<|s.p.st.getD s.i.toNat<|Ty.dflt B3)=e) (ho:Eh (s.p.ca.getD s.i.toNat<|Ty.dflt AP) (s.p.mi.getD s.i.toNat<|Ty.dflt B6) (AG s.gl s.i).2.2.1 (Bk (AG s.gl s.i)<|s.p.st.getD s.i.toNat<|Ty.dflt B3)=o) (hce:Gs (s.p.me.getD s.i.toNat<|Ty.dflt BO) (FP (s.p.ca.getD s.i.toNat<|Ty.dflt AP) (s.p.mi.getD s.i.toNat<|Ty.dflt B6) (AG s.gl s.i).2.2.1<|Bk (AG s.gl s.i)<|s.p.st.getD s.i.toNat<|Ty.dflt B3) (cnt<|IntKind.u64.wrap<|Eh (s.p.ca.getD s.i.toNat<|Ty.dflt AP) (s.p.mi.getD s.i.toNat<|Ty.dflt B6) (AG s.gl s.i).2.2.1<|Bk (AG s.gl s.i)<|s.p.st.getD s.i.toNat<|Ty.dflt B3)=ce) (ha:FP (s.p.ca.getD s.i.toNat<|Ty.dflt AP) (s.p.mi.getD s.i.toNat<|Ty.dflt B6) (AG s.gl s.i).2.2.1 (Bk (AG s.gl s.i)<|s.p.st.getD s.i.toNat<|Ty.dflt B3)=a) (hal:Bk (AG s.gl s.i) (s.p.st.getD s.i.toNat<|Ty.dflt B3)=al) (hse:sE (AG s.p.gs s.i) (s.p.st.getD s.i.toNat<|Ty.dflt B3) (6:Int) (2:Int) (0:Int)=se) (hsn:sN (AG s.p.gs s.i) (s.p.st.getD s.i.toNat<|Ty.dflt B3) (6:Int) (2:Int) (0:Int)=sn) (hm:Kv (s.p.ca.getD s.i.toNat<|Ty.dflt AP) (s.p.mi.getD s.i.toNat<|Ty.dflt B6) (AG s.gl s.i).2.2.1 (Bk (AG s.gl s.i)<|s.p.st.getD s.i.toNat<|Ty.dflt B3)=m) (hcn:IS (s.p.me.getD s.i.toNat<|Ty.dflt BO) (FP (s.p.ca.getD s.i.toNat<|Ty.dflt AP) (s.p.mi.getD s.i.toNat<|Ty.dflt B6) (AG s.gl s.i).2.2.1<|Bk (AG s.gl s.i)<|s.p.st.getD s.i.toNat<|Ty.dflt B3) (cnt<|IntKind.u64.wrap<|Eh (s.p.ca.getD s.i.toNat<|Ty.dflt AP) (s.p.mi.getD s.i.toNat<|Ty.dflt B6) (AG s.gl s.i).2.2.1<|Bk (AG s.gl s.i)<|s.p.st.getD s.i.toNat<|Ty.dflt B3)=cn):DO (λs'=>UE s'/\bf s'<bf s) (λx s'=>aAd x s s') ((eU s e o ce a al se sn m cn).rd s):=by
 unfold eU;dsimp only [T.rd,T.rl,T.rv];obtain ⟨h0,h1,h2,h3,hg,l1,l2,l3,l4,l5⟩:=hI;refine AH (λc1=>?_) λc1=>?_
 ·refine AH (λc2=>?_) (λc2=>?_)
  ·exact Zb
  ·refine AH (λc3=>?_) (λc3=>?_)
   ·exact Zb
   ·refine AH (λc4=>?_) (λc4=>?_)
    ·exact aM5
    ·exact aM5
 ·trivial
def agd:Da UE bf aAd XK:=λs hI=>asF s hI _ _ _ _ _ _ _ _ _ rfl rfl rfl rfl rfl rfl rfl rfl rfl
def Qz:AS LP:=⟨20,124,[0,27,28,29],[],λs=>[.own 16 0,s.gl,s.n,s.i],λs=>[AO,AO,zB,AO,bV 67 Ad s.p.cs,AO,AO,AO,bV 90 B3 s.p.st,bV 55 AP s.p.ca,bV 107 B6 s.p.mi,bV 93 BO s.p.me,AO,AO,bV 3 A7 s.p.dr,bV 3 A7 s.p.tg,⟨[.os 4 11 0<|M s.p.cs,.xl .str s.p.os,.xl Ah s.p.ks,.xl Af s.p.gs,.xl Ai s.p.bs,.v<|Y J s.p.tk,.v<|.bool s.p.up,.xl AP s.p.ls,.v<|Y J s.p.se,.xl (.int aw) s.p.fl,.xl Am s.p.ra,.v<|Y J s.p.nx,.os 8 4 0<|M s.p.st,.os 9 5 0<|M s.p.ca,.os 10 3 0<|M s.p.mi,.os 11 3 0<|M s.p.me,.xl As s.p.dm,.xl BJ s.p.lk,.os 14 1 0<|M s.p.dr,.os 15 1 0<|M s.p.tg,.v<|Y J s.ev.ek,.v<|Y J s.ev.en,.v<|Y J s.ev.em,.v<|Y J s.ev.c1,.v<|Y J s.ev.c2,.v<|Y J s.ev.c3,.v<|Y J s.ev.c4,.v<|Y J s.ev.c5,.v<|.bool s.ev.d1,.v<|Y J s.ev.d2,.v<|Y J s.ev.d3,.v<|Y J s.ev.d4,.os 20 1 0<|M s.dw],85,.cl,X⟩,AO,AO,AO,bV 3 A7 s.dw],λv b=>⟨B5 Af v 1,AK v 2,AK v 3,rT b,rG b,Ab A7 b 20⟩,XK,λs r=> {s with i:=r.i,p.st:=r.p.st,p.mi:=r.p.mi,p.me:=r.p.me,dw:=r.dw},λs=>s,λ_ s=>s,[.exit 0],jm,UE,bf⟩
abbrev JS:=Qz.run
abbrev asQ:=Qz.At
def uQ:List Bd:=[WT,eI,X8,XJ,XI,X9,WR,WU,Qt]
def azL:Aw:=I1 uQ (la 1 func32 MP<|la 2 func41 L7<|la 9 func23 Cn<|l0 uQ) [⟨30,PD.m,TT⟩]
def axs:Rq UE XK:=by
 intro s hI;refine ⟨λc1=>⟨?_,?_,?_,λc2=>⟨A9,A9,A9,A9,A9,A9,A9,A9,ak⟩,λc2=>⟨?_,?_,?_,?_,?_,?_,λc3=>⟨A9,A9,A9,A9,A9,A9,A9,A9,ak⟩,λc3=>⟨?_,?_,?_,?_,?_,?_,?_,λc4=>⟨?_,?_,λc5=>⟨?_,?_,?_,λc6=>⟨?_,?_,A9,?_,A9,?_,?_,A9,A9,?_,ak⟩,λc6=>⟨A9,A9,A9,?_,?_,A9,A9,?_,ak⟩⟩,λc5=>⟨A9,A9,A9,?_,?_,A9,A9,?_,ak⟩⟩,λc4=>⟨λc7=>⟨?_,?_,?_,λc8=>⟨?_,?_,A9,?_,A9,?_,A9,A9,A9,?_,ak⟩,λc8=>⟨A9,A9,A9,?_,A9,A9,A9,?_,ak⟩⟩,λc7=>⟨A9,A9,A9,?_,A9,A9,A9,?_,ak⟩⟩⟩⟩⟩,λc1=>⟨A9,A9,A9,A9,A9,A9,A9,A9,ak⟩⟩
 all_goals ((obtain ⟨h0,h1,h2,h3,hg,l1,l2,l3,l4,l5⟩:=hI;simp only [Aa] at c1;first|(rw [hg];omega) |omega|exact ⟨rfl,AI⟩ |(rw [aTx];exact aRb)))
def aQD:Qz.Ok:={}
def aPg:Qz.Pf (aAd):=⟨alQ,λs h=>rfl,agd,axs⟩
def NM:=s2 (b:=bN f33 0) aQD aPg uQ azL
def asE:Rs jm asQ JS (λs:LP=>F4 (λk d=>Ki s.p.gs s.p.ca d (k:Int)) s.i.toNat ⟨s.p.st,s.p.mi,s.p.me,s.dw⟩ (s.n-s.i).toNat) (λx s' (v:DW)=>x=.exit 0/\(⟨s'.p.st,s'.p.mi,s'.p.me,s'.dw⟩:DW)=v):=DN aQD aPg (λs hI=>by
  show DO _ _ ((XK s).rd s)
  unfold XK eU;dsimp only [T.rd,T.rl];obtain ⟨h0,h1,h2,h3,hg,l1,l2,l3,l4,l5⟩:=hI
  have hi:((s.i.toNat:Nat):Int)=s.i:=CL h0
  rw [hg];simp only [aTx];refine AH (λc1=>?_) λc1=>?_
  ·refine AH (λc2=>?_) (λc2=>?_)
   ·have c1:s.i<s.n:=AX
    rw [AJ (x:=s.i+1),MH h0 c1,hi]
    have c2:(BZ s.p.ca s.i).2.2.1=0:=Dr<|(DB _).mp c2
    rw [alU c2];rfl
   ·refine AH (λc3=>?_) (λc3=>?_)
    ·have c1:s.i<s.n:=AX
     rw [AJ (x:=s.i+1),MH h0 c1,hi]
     have c2:¬(BZ s.p.ca s.i).2.2.1=0:=EX.1<|(I8 _).mp c2
     have c3:=EX.1 c3
     rw [alT c2 c3];rfl
    ·refine AH (λc4=>?_) (λc4=>?_)
     ·refine AH (λc5=>?_) (λc5=>?_)
      ·refine AH (λc6=>?_) (λc6=>?_)
       ·have c1:s.i<s.n:=AX
        rw [AJ (x:=s.i+1),MH h0 c1,hi]
        have c2:¬(BZ s.p.ca s.i).2.2.1=0:=EX.1<|(I8 _).mp c2
        have c3:JJ (BZ s.p.ca s.i) (Ck s.p.mi s.i) (AG s.p.gs s.i).2.2.1 (Bk (AG s.p.gs s.i)<|Bq s.p.st s.i)=0:=Dr c3
        rw [Tx c2 c3];rw [AD (show Gs (gMe s.p.me s.i) (FP (BZ s.p.ca s.i) (Ck s.p.mi s.i) (AG s.p.gs s.i).2.2.1<|Bk (AG s.p.gs s.i)<|Bq s.p.st s.i) (cnt<|Eh (BZ s.p.ca s.i) (Ck s.p.mi s.i) (AG s.p.gs s.i).2.2.1<|Bk (AG s.p.gs s.i)<|Bq s.p.st s.i)=0 from eq_of_beq c4)];exact aLK
       ·have c1:s.i<s.n:=AX
        rw [AJ (x:=s.i+1),MH h0 c1,hi]
        have c2:¬(BZ s.p.ca s.i).2.2.1=0:=EX.1<|(I8 _).mp c2
        have c3:JJ (BZ s.p.ca s.i) (Ck s.p.mi s.i) (AG s.p.gs s.i).2.2.1 (Bk (AG s.p.gs s.i)<|Bq s.p.st s.i)=0:=Dr c3
        rw [Tx c2 c3];rw [AD (show Gs (gMe s.p.me s.i) (FP (BZ s.p.ca s.i) (Ck s.p.mi s.i) (AG s.p.gs s.i).2.2.1<|Bk (AG s.p.gs s.i)<|Bq s.p.st s.i) (cnt<|Eh (BZ s.p.ca s.i) (Ck s.p.mi s.i) (AG s.p.gs s.i).2.2.1<|Bk (AG s.p.gs s.i)<|Bq s.p.st s.i)=0 from eq_of_beq c4)];exact aLL
      ·have c1:s.i<s.n:=AX
       rw [AJ (x:=s.i+1),MH h0 c1,hi]
       have c2:¬(BZ s.p.ca s.i).2.2.1=0:=EX.1<|(I8 _).mp c2
       have c3:JJ (BZ s.p.ca s.i) (Ck s.p.mi s.i) (AG s.p.gs s.i).2.2.1 (Bk (AG s.p.gs s.i)<|Bq s.p.st s.i)=0:=Dr c3
       rw [Tx c2 c3];rw [AD (show Gs (gMe s.p.me s.i) (FP (BZ s.p.ca s.i) (Ck s.p.mi s.i) (AG s.p.gs s.i).2.2.1<|Bk (AG s.p.gs s.i)<|Bq s.p.st s.i) (cnt<|Eh (BZ s.p.ca s.i) (Ck s.p.mi s.i) (AG s.p.gs s.i).2.2.1<|Bk (AG s.p.gs s.i)<|Bq s.p.st s.i)=0 from eq_of_beq c4)];exact aL0
     ·refine AH (λc5=>?_) (λc5=>?_)
      ·refine AH (λc6=>?_) (λc6=>?_)
       ·have c1:s.i<s.n:=AX
        rw [AJ (x:=s.i+1),MH h0 c1,hi]
        have c2:¬(BZ s.p.ca s.i).2.2.1=0:=EX.1<|(I8 _).mp c2
        have c3:JJ (BZ s.p.ca s.i) (Ck s.p.mi s.i) (AG s.p.gs s.i).2.2.1 (Bk (AG s.p.gs s.i)<|Bq s.p.st s.i)=0:=Dr c3
        rw [Tx c2 c3];rw [AE (show ¬Gs (gMe s.p.me s.i) (FP (BZ s.p.ca s.i) (Ck s.p.mi s.i) (AG s.p.gs s.i).2.2.1<|Bk (AG s.p.gs s.i)<|Bq s.p.st s.i) (cnt<|Eh (BZ s.p.ca s.i) (Ck s.p.mi s.i) (AG s.p.gs s.i).2.2.1<|Bk (AG s.p.gs s.i)<|Bq s.p.st s.i)=0 from CU.1 c4)];exact aLK
       ·have c1:s.i<s.n:=AX
        rw [AJ (x:=s.i+1),MH h0 c1,hi]
        have c2:¬(BZ s.p.ca s.i).2.2.1=0:=EX.1<|(I8 _).mp c2
        have c3:JJ (BZ s.p.ca s.i) (Ck s.p.mi s.i) (AG s.p.gs s.i).2.2.1 (Bk (AG s.p.gs s.i)<|Bq s.p.st s.i)=0:=Dr c3
        rw [Tx c2 c3];rw [AE (show ¬Gs (gMe s.p.me s.i) (FP (BZ s.p.ca s.i) (Ck s.p.mi s.i) (AG s.p.gs s.i).2.2.1<|Bk (AG s.p.gs s.i)<|Bq s.p.st s.i) (cnt<|Eh (BZ s.p.ca s.i) (Ck s.p.mi s.i) (AG s.p.gs s.i).2.2.1<|Bk (AG s.p.gs s.i)<|Bq s.p.st s.i)=0 from CU.1 c4)];exact aLL
      ·have c1:s.i<s.n:=AX
       rw [AJ (x:=s.i+1),MH h0 c1,hi]
       have c2:¬(BZ s.p.ca s.i).2.2.1=0:=EX.1<|(I8 _).mp c2
       have c3:=Dr c3
       rw [Tx c2 c3];rw [AE (show ¬Gs (gMe s.p.me s.i) (FP (BZ s.p.ca s.i) (Ck s.p.mi s.i) (AG s.p.gs s.i).2.2.1<|Bk (AG s.p.gs s.i)<|Bq s.p.st s.i) (cnt<|Eh (BZ s.p.ca s.i) (Ck s.p.mi s.i) (AG s.p.gs s.i).2.2.1<|Bk (AG s.p.gs s.i)<|Bq s.p.st s.i)=0 from CU.1 c4)];exact aL0
  ·have c1:s.n<=s.i:=AX
   exact ⟨rfl,(oD c1).symm⟩)
structure Mc where
 m:List Ch
 (k i:Int)
 p:PK
 ev:EW
 (dw out:List Int)
def ams (s:Mc):List LV:=[.os 21 1 0<|M s.out,s.m,s.k,s.i]
def aml (s:Mc):List AB:=[AO,AO,zB,AO,bV 67 Ad s.p.cs,AO,AO,AO,AO,AO,AO,AO,AO,AO,AO,bV 3 A7 s.p.tg,⟨[.os 4 11 0<|M s.p.cs,.xl .str s.p.os,.xl Ah s.p.ks,.xl Af s.p.gs,.xl Ai s.p.bs,.v<|Y J s.p.tk,.v<|.bool s.p.up,.xl AP s.p.ls,.v<|Y J s.p.se,.xl (.int aw) s.p.fl,.xl Am s.p.ra,.v<|Y J s.p.nx,.xl B3 s.p.st,.xl AP s.p.ca,.xl B6 s.p.mi,.xl BO s.p.me,.xl As s.p.dm,.xl BJ s.p.lk,.xl A7 s.p.dr,.os 15 1 0<|M s.p.tg,.v<|Y J s.ev.ek,.v<|Y J s.ev.en,.v<|Y J s.ev.em,.v<|Y J s.ev.c1,.v<|Y J s.ev.c2,.v<|Y J s.ev.c3,.v<|Y J s.ev.c4,.v<|Y J s.ev.c5,.v<|.bool s.ev.d1,.v<|Y J s.ev.d2,.v<|Y J s.ev.d3,.v<|Y J s.ev.d4,.os 20 1 0<|M s.dw],85,.cl,X⟩,AO,AO,AO,bV 3 A7 s.dw,bV 3 A7 s.out]
def ao6:=bN f62 0
def vK (s:Mc):T (Rd Mc):=letI a:=s.out.set s.i.toNat (AG s.m s.i).2.2.2.2.2.2.1;.br (an<|s.i<s.k) (.ix s.i (M s.m)<|.ik s.i (M s.out)<|.re (M s.out) a<|.rl s.p.cs<|.rl s.p.tg<|.rl s.dw<|.nx {s with i:=AA<|s.i+1,out:=a})<|.rl s.out<|.rl s.p.cs<|.rl s.p.tg<|.rl s.dw<|.so (.exit 0) s
def j4 (s:Mc):Prop:=s.i=0/\s.k=(M s.m:Int)/\s.k<=1000/\M s.out=M s.m/\(∀j,0<=j->j<s.k->gi s.out j=0)/\True
def YP (s:Mc):Prop:=(0<=s.i/\s.i<=s.k)/\s.k=(M s.m:Int)/\s.k<=1000/\M s.out=M s.m/\(∀j,0<=j->j<s.k->gi s.out j=if j<s.i then Cp (AG s.m j) else 0)/\True
def tZ (s:Mc):Nat:=(s.k-s.i).toNat
def aAm (x:Ex) (s s':Mc):Prop:=x=.exit 0/\s'.out=H5 (M s'.m) (λj=>Cp<|AG s'.m j)
theorem aid:∀s,j4 s->YP s:=by
 exact Sa
theorem awz:Da YP tZ aAm vK:=by
 intro s hI;obtain ⟨⟨h0,h1⟩,h2,h3,h4,h5,h6⟩:=hI;refine AH (λc1=>?_) λc1=>?_
 ·have c1:s.i<s.k:=AX
  rw [AJ (x:=s.i+1)];refine ⟨⟨⟨A8,A8⟩,h2,h3,A8,λj j0 j1=>?_,h6⟩,by simp only [tZ];omega⟩
  simp only;rw [It h0 A0 j0];exact kX
 ·exact Zd
def Qh:AS Mc:=⟨21,25,[3,11,12,13],[.pc 16 12 B3,.kb 8,.pc 16 13 AP,.kb 9,.pc 16 14 B6,.kb 10,.pc 16 15 BO,.kb 11,.pc 16 18 A7,.kb 14],ams,aml,λv b=>⟨B5 Af v 1,AK v 2,AK v 3,rB b 16 4 0 0 0 0 0 0 0 0 0 0 15,rG b,Ab A7 b 20,Ab A7 b 21⟩,vK,λs r=> {s with i:=r.i,out:=r.out},λs=>s,λ_ s=>s,[.exit 0],j4,YP,tZ⟩
abbrev dV:=Qh.run
abbrev atE:=Qh.At
def Ot:List Bd:=[WT,X8,XJ,XI,X9,WR,WU,Qt]
def azK:Aw:=I1 Ot (la 2 func33 NM<|la 1 func32 MP<|la 2 func41 L7<|la 9 func23 Cn<|l0 Ot) [⟨30,PD.m,TT⟩]
def awR:Rq YP vK:=by
 intro s hI;refine ⟨λc1=>⟨?_,?_,?_,?_,A9,A9,A9,ak⟩,λc1=>⟨A9,A9,A9,A9,ak⟩⟩
 all_goals ((obtain ⟨⟨h0,h1⟩,h2,h3,h4,h5,h6⟩:=hI;(try simp only [Aa] at c1);first|omega|exact ⟨rfl,AI⟩ |(omega)))
def aQR:Qh.Ok:={}
def aOu:Qh.Pf (aAm):=⟨aid,λs h=>rfl,awz,awR⟩
def Od:SA 21 ao6 Qh:=s2 aQR aOu Ot azK
def aqv:Fi j4 YP aAm atE dV:=AS.fin aQR aOu
structure Md where
 m:List Int
 (k i:Int)
 p:PK
 ev:EW
 (dw Cz:List Int)
def amP (s:Md):List LV:=[.own 16 0,.os 21 1 0<|M s.Cz,.xl A7 s.m,s.k,s.i]
def amn (s:Md):List AB:=[AO,AO,zB,AO,bV 67 Ad s.p.cs,AO,AO,AO,AO,AO,AO,AO,AO,AO,AO,bV 3 A7 s.p.tg,⟨[.os 4 11 0<|M s.p.cs,.xl .str s.p.os,.xl Ah s.p.ks,.xl Af s.p.gs,.xl Ai s.p.bs,.v<|Y J s.p.tk,.v<|.bool s.p.up,.xl AP s.p.ls,.v<|Y J s.p.se,.xl (.int aw) s.p.fl,.xl Am s.p.ra,.v<|Y J s.p.nx,.xl B3 s.p.st,.xl AP s.p.ca,.xl B6 s.p.mi,.xl BO s.p.me,.xl As s.p.dm,.xl BJ s.p.lk,.xl A7 s.p.dr,.os 15 1 0<|M s.p.tg,.v<|Y J s.ev.ek,.v<|Y J s.ev.en,.v<|Y J s.ev.em,.v<|Y J s.ev.c1,.v<|Y J s.ev.c2,.v<|Y J s.ev.c3,.v<|Y J s.ev.c4,.v<|Y J s.ev.c5,.v<|.bool s.ev.d1,.v<|Y J s.ev.d2,.v<|Y J s.ev.d3,.v<|Y J s.ev.d4,.os 20 1 0<|M s.dw],85,.cl,X⟩,AO,AO,AO,bV 3 A7 s.dw,bV 3 A7 s.Cz]
def ao7:=bN f34 0
def vL (s:Md):T (Rd Md):=letI b:=s.Cz.getD s.i.toNat<|Ty.dflt A7;letI c:=M s.Cz;letI a:=s.Cz.set s.i.toNat (if b<(gi s.m s.i) then (gi s.m s.i) else b);.br (an<|s.i<s.k) (.ix s.i (M s.m)<|.ik s.i c<|.ik s.i c<|.re c a<|.rl s.p.cs<|.rl s.p.tg<|.rl s.dw<|.nx {s with i:=AA<|s.i+1,Cz:=a})<|.rl s.Cz<|.rl s.p.cs<|.rl s.p.tg<|.rl s.dw<|.so (.exit 0) s
def j5 (s:Md):Prop:=s.i=0/\s.k=(M s.m:Int)/\s.k<=1000/\M s.Cz=M s.m/\(∀j,0<=j->j<s.k->gi s.Cz j=Cp (AG s.p.gs j))/\True
def YQ (s:Md):Prop:=(0<=s.i/\s.i<=s.k)/\s.k=(M s.m:Int)/\s.k<=1000/\M s.Cz=M s.m/\(∀j,0<=j->j<s.k->gi s.Cz j=if j<s.i then mx (Cp<|AG s.p.gs j) (gi s.m j) else Cp (AG s.p.gs j))/\True
def ta (s:Md):Nat:=(s.k-s.i).toNat
def aAn (x:Ex) (s s':Md):Prop:=x=.exit 0/\s'.Cz=H5 (M s'.m) (λj=>mx (Cp<|AG s'.p.gs j)<|gi s'.m j)
theorem aie:∀s,j5 s->YQ s:=by
 exact Sa
theorem ax0:Da YQ ta aAn vL:=by
 intro s hI;obtain ⟨⟨h0,h1⟩,h2,h3,h4,h5,h6⟩:=hI;refine AH (λc1=>?_) λc1=>?_
 ·have c1:s.i<s.k:=AX
  rw [AJ (x:=s.i+1)];refine ⟨⟨⟨A8,A8⟩,h2,h3,A8,λj j0 j1=>?_,h6⟩,by simp only [ta];omega⟩
  simp only
  have hi:=h5 s.i h0 c1
  rw [AE (show ¬s.i<s.i by omega)] at hi
  rw [It h0 Zy j0]
  by_cases e:j=s.i
  ·subst e
   rw [AD rfl,AD (show s.i<s.i+1 by omega)]
   show mx (gi s.Cz s.i) (gi s.m s.i)=_
   rw [hi]
  ·exact xg
 ·exact Zd
def Qi:AS Md:=⟨21,125,[0,2,51,52,53],[],amP,amn,λv b=>⟨B5 A7 v 2,AK v 3,AK v 4,rB b 16 4 0 0 0 0 0 0 0 0 0 0 15,rG b,Ab A7 b 20,Ab A7 b 21⟩,vL,λs r=> {s with i:=r.i,Cz:=r.Cz},λs=>s,λ_ s=>s,[.exit 0],j5,YQ,ta⟩
abbrev dW:=Qi.run
abbrev atF:=Qi.At
def azJ:Aw:=I1 Ot (la 3 func62 Od<|la 2 func33 NM<|la 1 func32 MP<|la 2 func41 L7<|la 9 func23 Cn<|l0 Ot) [⟨30,PD.m,TT⟩]
def awS:Rq YQ vL:=by
 intro s hI;refine ⟨λc1=>⟨?_,?_,?_,?_,?_,?_,A9,A9,A9,ak⟩,λc1=>⟨A9,A9,A9,A9,ak⟩⟩
 all_goals ((obtain ⟨⟨h0,h1⟩,h2,h3,h4,h5,h6⟩:=hI;(try simp only [Aa] at c1);first|omega|exact ⟨rfl,AI⟩ |(omega)))
def aQS:Qi.Ok:={}
def aOv:Qi.Pf (aAn):=⟨aie,λs h=>rfl,ax0,awS⟩
def QG:SA 21 ao7 Qi:=s2 aQS aOv Ot azJ
def aqw:Fi j5 YQ aAn atF dW:=AS.fin aQS aOv
theorem ayc {gs:List Ch}{am:List Int}{b:Bool}:((JC gs am==0)&&!(an (M am=M gs)&&!b))=(an (M am=M gs)&&b):=by
 unfold JC
 grind
def cdS (cs:List Cd) (tg:List Int) (i:Int):List Cd:=letI a:=(cpC cs).getD i.toNat<|Ty.dflt Ad;(cpC cs).set i.toNat (a.1,(a.2.1,((tg.getD i.toNat<|Ty.dflt A7),a.2.2.2)))
def fR {cs:List Cd}{tg:List Int}{i:Int}(h0:0<=i) (h:i<(M cs:Int)):cdS cs tg i=cs.set i.toNat (G9 (Ac cs i.toNat)<|gi tg i.toNat):=by
 have e1:cs.getD i.toNat (Ty.dflt Ad)=Ac cs (i.toNat:Int):=by
  rw [DV,DX A0];rw [show Ac cs (i.toNat:Int)=cs[i.toNat]' A0 from QK A0];rfl
 unfold cdS;rw [Wz,e1,CL h0];rfl
structure Ix where
 am:List Int
 (n i:Int)
 p:PK
 ev:EW
 dw:List Int
def amr (s:Ix):List LV:=[.own 16 0,.xl A7 s.am,.os 15 1 0<|M s.p.tg,s.n,s.i]
def amk (s:Ix):List AB:=[AO,AO,zB,AO,⟨[],67,.dead,X⟩,AO,AO,AO,AO,AO,AO,AO,AO,AO,AO,bV 3 A7 s.p.tg,⟨[.os 21 11 0<|M s.p.cs,.xl .str s.p.os,.xl Ah s.p.ks,.xl Af s.p.gs,.xl Ai s.p.bs,.v<|Y J s.p.tk,.v<|.bool s.p.up,.xl AP s.p.ls,.v<|Y J s.p.se,.xl (.int aw) s.p.fl,.xl Am s.p.ra,.v<|Y J s.p.nx,.xl B3 s.p.st,.xl AP s.p.ca,.xl B6 s.p.mi,.xl BO s.p.me,.xl As s.p.dm,.xl BJ s.p.lk,.xl A7 s.p.dr,.os 15 1 0<|M s.p.tg,.v<|Y J s.ev.ek,.v<|Y J s.ev.en,.v<|Y J s.ev.em,.v<|Y J s.ev.c1,.v<|Y J s.ev.c2,.v<|Y J s.ev.c3,.v<|Y J s.ev.c4,.v<|Y J s.ev.c5,.v<|.bool s.ev.d1,.v<|Y J s.ev.d2,.v<|Y J s.ev.d3,.v<|Y J s.ev.d4,.os 20 1 0<|M s.dw],85,.cl,X⟩,AO,AO,AO,bV 3 A7 s.dw,bV 67 Ad s.p.cs]
def ao5:=bN f34 1
def gQ (s:Ix):T (Rd Ix):=letI a:=((M s.p.cs:Nat):Int);letI b:=cdS s.p.cs s.p.tg s.i;letI c:=(b.drop 0).take a.toNat;letI d:=AA<|s.i+1;.br (an<|s.i<s.n) (.ik s.i (M s.p.tg)<|.ik s.i (M s.p.cs)<|.br (an<|(s.p.tg.getD s.i.toNat<|Ty.dflt A7)>=(s.p.cs.getD s.i.toNat<|Ty.dflt Ad).2.2.1) (.rl s.p.tg<|.rl s.p.cs<|.rl s.p.tg<|.rl s.dw<|.nx {s with i:=d})<|.rm 96 a<|.rz s.p.cs<|.rc a (ByteArray.empty,((0:Int),((0:Int),((0:Int),(((0:Int),(0:Int)),((0:Int),((0:Int),((0:Int),((0:Int),(0:Int)))))))))) (M<|AQ s.p.cs)<|.ix s.i a.toNat<|.req (s.i.toNat<M (cpC s.p.cs))<|.req (0+a.toNat<=M b)<|.req (BA c s.p.os s.p.ks s.p.gs s.p.bs=U/\(M s.am=M s.p.gs->∀k:Nat,k<M s.am->0<=gi s.am k/\gi s.am k<=80))<|.br (((JC s.p.gs s.am)==0)&&(!(an (M s.am=M s.p.gs)&&!E0 c s.p.gs s.am))) (.rl s.p.tg<|.re a.toNat b<|.rl s.p.tg<|.rl s.dw<|.nx {s with i:=d,p.cs:=b})<|.rl s.p.tg<|.rl s.p.cs<|.rl s.p.tg<|.rl s.dw<|.nx {s with i:=d})<|.rl s.p.tg<|.rl s.p.cs<|.rl s.p.tg<|.rl s.dw<|.so (.exit 2) s
def Yl (s:Ix):Prop:=s.i=0/\s.n=(M s.p.tg:Int)/\M s.p.tg=M s.p.cs/\BA s.p.cs s.p.os s.p.ks s.p.gs s.p.bs=U/\(∀k:Nat,k<M s.p.cs->1<=gi s.p.tg k/\gi s.p.tg k<=1000)/\(M s.am=M s.p.gs->∀k:Nat,k<M s.am->0<=gi s.am k/\gi s.am k<=80)
def YO (s:Ix):Prop:=0<=s.i/\s.i<=s.n/\s.n=(M s.p.tg:Int)/\M s.p.tg=M s.p.cs/\BA s.p.cs s.p.os s.p.ks s.p.gs s.p.bs=U/\(∀k:Nat,k<M s.p.cs->1<=gi s.p.tg k/\gi s.p.tg k<=1000)/\(M s.am=M s.p.gs->∀k:Nat,k<M s.am->0<=gi s.am k/\gi s.am k<=80)
def dx (s:Ix):Nat:=(s.n-s.i).toNat
def ac2 (x:Ex) (s s':Ix):Prop:=True
def aic:∀s,Yl s->YO s:=by
 exact xh
def sI {s:Ix}(hI:YO s) (c1:s.i<s.n):letI a:=G9 (Ac s.p.cs s.i.toNat)<|gi s.p.tg s.i.toNat;((cdS s.p.cs s.p.tg s.i).drop 0).take ((M s.p.cs:Nat):Int).toNat=s.p.cs.set s.i.toNat a/\BA (s.p.cs.set s.i.toNat a) s.p.os s.p.ks s.p.gs s.p.bs=true:=by
 obtain ⟨h0,h1,h2,h3,h4,h5,h6⟩:=hI;rw [fR h0 A0];exact ⟨by rw [CP];exact DZ AI,bz h4 A0<|h5 _ A0⟩
theorem awy:Da YO dx ac2 gQ:=by
 intro s hI;unfold gQ;obtain ⟨h0,h1,h2,h3,h4,h5,h6⟩:=hI
 have hs:=D5.1 h4
 refine AH (λc1=>AH (λc2=>?_) λc2=>AH (λc3=>?_) λc3=>?_) λc1=>trivial
 all_goals have c1:s.i<s.n:=AX
 all_goals rw [AJ (x:=s.i+1)]
 ·exact aLY
 ·rw [fR h0 A0]
  exact ⟨⟨AZ,AZ,h2,A8,bz h4 A0<|h5 _ A0,A8,h6⟩,by simp only [dx];omega⟩
 ·exact aLY
def PA:AS Ix:=⟨21,125,[0,2,72,73,74],[.pc 16 12 B3,.kb 8,.pc 16 13 AP,.kb 9,.pc 16 14 B6,.kb 10,.pc 16 15 BO,.kb 11,.pc 16 18 A7,.kb 14,.pb 2 A7,.ms 0 0],amr,amk,λv b=>⟨B5 A7 v 1,AK v 3,AK v 4,rB b 16 21 0 0 0 0 0 0 0 0 0 0 15,rG b,Ab A7 b 20⟩,gQ,λs r=> {s with i:=r.i,p.cs:=r.p.cs},λs=>s,λ_ s=>s,[.exit 2],Yl,YO,dx⟩
abbrev T8:=PA.run
abbrev atD:=PA.At
def azI:Aw:=I1 Ot (la 6 func34 QG<|la 3 func62 Od<|la 2 func33 NM<|la 1 func32 MP<|la 2 func41 L7<|la 9 func23 Cn<|l0 Ot) [⟨30,PD.m,TT⟩]
def awQ:Rq YO gQ:=by
 intro s hI;refine ⟨λc1=>⟨?_,?_,?_,?_,λc2=>⟨A9,A9,A9,A9,ak⟩,λc2=>⟨?_,?_,?_,?_,?_,?_,?_,λc3=>⟨A9,?_,A9,A9,ak⟩,λc3=>⟨A9,A9,A9,A9,ak⟩⟩⟩,λc1=>⟨A9,A9,A9,A9,ak⟩⟩
 all_goals ((obtain ⟨h0,h1,h2,h3,h4,h5,h6⟩:=id hI;have hs:=D5.1 h4;simp only [Aa] at c1;first|exact ⟨by rw [(sI hI c1).1];exact (sI hI c1).2,h6⟩ |((try rw [Wz]);(try rw [Fa]);(try rw [fR h0 A0]);first|omega|exact ⟨rfl,AI⟩ |(simp;done))))
def aQQ:PA.Ok:={}
def aOt:PA.Pf (ac2):=⟨aic,λs h=>rfl,awy,awQ⟩
def TB:SA 21 ao5 PA:=s2 aQQ aOt Ot azI
theorem afX:Rs Yl atD T8 (λs:Ix=>F4 (aJ s.p.gs s.p.tg s.am) s.i.toNat s.p.cs (s.n-s.i).toNat) (λx s' (v:List Cd)=>x=.exit 2/\s'.p.cs=v):=DN aQQ aOt (λs hI=>by
  obtain ⟨h0,h1,h2,h3,h4,h5,h6⟩:=id hI
  have hs:=D5.1 h4
  refine AH (λc1=>?_) λc1=>?_
  ·have c1:s.i<s.n:=A8
   have hg:s.p.tg.getD s.i.toNat (Ty.dflt A7)=gi s.p.tg s.i.toNat:=MB
   have hc:(s.p.cs.getD s.i.toNat<|Ty.dflt Ad)=Ac s.p.cs s.i.toNat:=MB
   rw [AJ (x:=s.i+1),MH h0 c1,hg,hc,(sI hI c1).1,fR h0 A0,ayc];refine AH (λc2=>?_) λc2=>?_
   ·rw [show aJ s.p.gs s.p.tg s.am s.i.toNat s.p.cs=s.p.cs from AD<|DY c2]
    rfl
   refine AH (λc3=>?_) λc3=>?_
   ·rw [show aJ s.p.gs s.p.tg s.am s.i.toNat s.p.cs=_ from (AE<|JN c2).trans<|AD c3]
    rfl
   ·rw [show aJ s.p.gs s.p.tg s.am s.i.toNat s.p.cs=_ from (AE<|JN c2).trans<|AE A8]
    rfl
  ·have c1:s.n<=s.i:=A8
   exact ⟨rfl,(oD c1).symm⟩)
structure Hd where
 p:PK
 ev:EW
def UT (s:Hd):List LV:=[.own 16 0]
def YY (s:Hd):List AB:=[AO,AO,zB,AO,bV 67 Ad s.p.cs,bV 101 AP s.p.ls,bV 5 (.int aw) s.p.fl,bV 127 Am s.p.ra,bV 90 B3 s.p.st,bV 55 AP s.p.ca,bV 107 B6 s.p.mi,bV 93 BO s.p.me,bV 57 As s.p.dm,bV 103 BJ s.p.lk,bV 3 A7 s.p.dr,bV 3 A7 s.p.tg,⟨[.os 4 11 0<|M s.p.cs,.xl .str s.p.os,.xl Ah s.p.ks,.xl Af s.p.gs,.xl Ai s.p.bs,.v<|Y J s.p.tk,.v<|.bool s.p.up,.os 5 5 0<|M s.p.ls,.v<|Y J s.p.se,.os 6 1 0<|M s.p.fl,.os 7 2 0<|M s.p.ra,.v<|Y J s.p.nx,.os 8 4 0<|M s.p.st,.os 9 5 0<|M s.p.ca,.os 10 3 0<|M s.p.mi,.os 11 3 0<|M s.p.me,.os 12 4 0<|M s.p.dm,.os 13 6 0<|M s.p.lk,.os 14 1 0<|M s.p.dr,.os 15 1 0<|M s.p.tg,.v<|Y J s.ev.ek,.v<|Y J s.ev.en,.v<|Y J s.ev.em,.v<|Y J s.ev.c1,.v<|Y J s.ev.c2,.v<|Y J s.ev.c3,.v<|Y J s.ev.c4,.v<|Y J s.ev.c5,.v<|.bool s.ev.d1,.v<|Y J s.ev.d2,.v<|Y J s.ev.d3,.v<|Y J s.ev.d4,.v<|.slice aj 0 0],85,.cl,X⟩]
def JV (s:Hd):Ny:=(⟨(PK.AV s.p).lk,(M (PK.AV s.p).lk:Int),0,PK.AV s.p,s.ev,([]:List Lk)⟩:Ny)
def Sw (s:Hd):LR:=(⟨((M (PK.AV s.p).dr:Nat):Int),0,{(PK.AV s.p) with st:=(K7<|JV s).p.st,lk:=AQ (K7<|JV s).left},s.ev⟩:LR)
def HV (s:Hd):LP:=letI a:=(M (PK.AV s.p).gs:Int);(⟨(PK.AV s.p).gs,a,0,{(PK.AV s.p) with st:=(dd<|Sw s).p.st,lk:=AQ (K7<|JV s).left},s.ev,aq a.toNat (0:Int)⟩:LP)
def cJ (s:Hd):Mc:=letI a:=PK.AV s.p;letI b:=JS<|HV s;(⟨a.gs,(M a.gs:Int),0,{a with st:=AQ b.p.st,ca:=AQ a.ca,mi:=AQ b.p.mi,me:=AQ b.p.me,lk:=AQ (K7<|JV s).left,dr:=AQ a.dr},s.ev,b.dw,aq (M a.gs:Int).toNat (0:Int)⟩:Mc)
def Sv (s:Hd):Md:=letI b:=PK.AV s.p;letI c:=JS<|HV s;letI a:=(Gx b.ls (M b.gs:Int)<|AA<|b.tk+1);(⟨a,(M a:Int),0,{b with st:=AQ c.p.st,ca:=AQ b.ca,mi:=AQ c.p.mi,me:=AQ c.p.me,lk:=AQ (K7<|JV s).left,dr:=AQ b.dr},s.ev,c.dw,(dV<|cJ s).out⟩:Md)
def Su (s:Hd):Ix:=letI a:=PK.AV s.p;letI b:=JS<|HV s;(⟨AQ (dW<|Sv s).Cz,((M a.tg:Nat):Int),0,{a with st:=AQ b.p.st,ca:=AQ a.ca,mi:=AQ b.p.mi,me:=AQ b.p.me,lk:=AQ (K7<|JV s).left,dr:=AQ a.dr},s.ev,b.dw⟩:Ix)
def T5 (s:Hd):Ix:=letI a:=PK.AV s.p;letI b:=JS<|HV s;(⟨([]:List Int),((M a.tg:Nat):Int),0,{a with st:=AQ b.p.st,ca:=AQ a.ca,mi:=AQ b.p.mi,me:=AQ b.p.me,lk:=AQ (K7<|JV s).left,dr:=AQ a.dr},s.ev,b.dw⟩:Ix)
structure XW where
 res:Int
 p:PK
 ev:EW
 dw:List Int
def acO (s:XW):LV:=.v<|Y J s.res
def abz (s:XW):List AB:=[AO,AO,zB,AO,AO,AO,AO,AO,AO,AO,AO,AO,AO,AO,AO,AO,⟨[.xl Ad s.p.cs,.xl .str s.p.os,.xl Ah s.p.ks,.xl Af s.p.gs,.xl Ai s.p.bs,.v<|Y J s.p.tk,.v<|.bool s.p.up,.xl AP s.p.ls,.v<|Y J s.p.se,.xl (.int aw) s.p.fl,.xl Am s.p.ra,.v<|Y J s.p.nx,.xl B3 s.p.st,.xl AP s.p.ca,.xl B6 s.p.mi,.xl BO s.p.me,.xl As s.p.dm,.xl BJ s.p.lk,.xl A7 s.p.dr,.xl A7 s.p.tg,.v<|Y J s.ev.ek,.v<|Y J s.ev.en,.v<|Y J s.ev.em,.v<|Y J s.ev.c1,.v<|Y J s.ev.c2,.v<|Y J s.ev.c3,.v<|Y J s.ev.c4,.v<|Y J s.ev.c5,.v<|.bool s.ev.d1,.v<|Y J s.ev.d2,.v<|Y J s.ev.d3,.v<|Y J s.ev.d4,.xl A7 s.dw],85,.cl,X⟩]
def fu (s:Hd):T XW:=letI a:=PK.AV s.p;letI b:=JS<|HV s;letI c:=(M a.gs:Int);letI d:=AQ (K7<|JV s).left;letI e:=AA<|a.tk+1;letI f:=(aq c.toNat (0:Int));.br (s.p.tk==1000000) (.rz s.p.cs<|.rz s.p.ls<|.rz s.p.fl<|.rz s.p.ra<|.rz s.p.st<|.rz s.p.ca<|.rz s.p.mi<|.rz s.p.me<|.rz s.p.dm<|.rz s.p.lk<|.rz s.p.dr<|.rz s.p.tg<|.ok<|⟨15,⟨AQ s.p.cs,s.p.os,s.p.ks,s.p.gs,s.p.bs,s.p.tk,s.p.up,AQ s.p.ls,s.p.se,AQ s.p.fl,AQ s.p.ra,s.p.nx,AQ s.p.st,AQ s.p.ca,AQ s.p.mi,AQ s.p.me,AQ s.p.dm,AQ s.p.lk,AQ s.p.dr,AQ s.p.tg⟩,s.ev,([]:List Int)⟩)<|.pc s.p<|.req (aia (⟨s.p,s.ev⟩:LN))<|.r0 Lk<|.pd a<|.req (R5.q<|JV s)<|.rz (K7<|JV s).left (.rl a.dr<|.rl a.cs<|.rl (K7<|JV s).p.st<|.rl a.ca<|.rl a.mi<|.rl a.me<|.rl a.dr<|.rl a.tg<|.req (QW.q<|Sw s)<|.rm 8 c<|.rl a.cs<|.rl (dd<|Sw s).p.st<|.rl a.ca<|.rl a.mi<|.rl a.me<|.rl a.dr<|.rl a.tg<|.re c.toNat f<|.req (Qz.q<|HV s)<|.br (! a.up) (.rz a.cs<|.rz b.p.st<|.rz a.ca<|.rz b.p.mi<|.rz b.p.me<|.rz a.dr<|.rz a.tg<|.rz b.dw<|.ok<|⟨0,{a with cs:=AQ a.cs,tk:=e,st:=AQ b.p.st,ca:=AQ a.ca,mi:=AQ b.p.mi,me:=AQ b.p.me,lk:=d,dr:=AQ a.dr,tg:=AQ a.tg},s.ev,AQ b.dw⟩)<|.br ((Jl a.ls c e)==0) (.rm 8 c<|.rz b.p.st<|.rz a.ca<|.rz b.p.mi<|.rz b.p.me<|.rz a.dr<|.re c.toNat f<|.rl a.cs<|.rl a.tg<|.rl b.dw<|.req (Qh.q<|cJ s)<|.rl (dV<|cJ s).out<|.rl a.cs<|.rl a.tg<|.rl b.dw<|.req (Qi.q<|Sv s)<|.rz (dW<|Sv s).Cz<|.rl a.tg<|.rl a.cs<|.rl a.tg<|.rl b.dw<|.req (PA.q<|Su s)<|.rz (T8<|Su s).p.cs<|.rz a.tg<|.rz b.dw<|.ok<|⟨0,{a with cs:=AQ (T8<|Su s).p.cs,tk:=e,st:=AQ b.p.st,ca:=AQ a.ca,mi:=AQ b.p.mi,me:=AQ b.p.me,lk:=d,dr:=AQ a.dr,tg:=AQ a.tg},s.ev,AQ b.dw⟩)<|.rz b.p.st<|.rz a.ca<|.rz b.p.mi<|.rz b.p.me<|.rz a.dr<|.rl a.tg<|.rl a.cs<|.rl a.tg<|.rl b.dw<|.req (PA.q<|T5 s)<|.rz (T8<|T5 s).p.cs<|.rz a.tg<|.rz b.dw<|.ok<|⟨0,{a with cs:=AQ (T8<|T5 s).p.cs,tk:=e,st:=AQ b.p.st,ca:=AQ a.ca,mi:=AQ b.p.mi,me:=AQ b.p.me,lk:=d,dr:=AQ a.dr,tg:=AQ a.tg},s.ev,AQ b.dw⟩)
def aB8 (s:Hd):Prop:=(VP s.p/\RQ s.p)/\VK s.p.se s.p.fl/\B1 s.p.ls=U
def Th (s:Hd):XW:=⟨PK.Iz s.p,JF (PK.Iz s.p) (PK.CZ s.p) s.p,s.ev,if PK.Iz s.p=0 then PK.KL s.p else []⟩
def aBD:Cx Hd XW:=⟨UT,YY,λv b=>⟨rF b,rG b⟩,aB8,[0,1,3],[.pc 16 0 Ad,.kb 4,.pc 16 7 AP,.kb 5,.pc 16 9<|.int aw,.kb 6,.pc 16 10 Am,.kb 7,.pc 16 12 B3,.kb 8,.pc 16 13 AP,.kb 9,.pc 16 14 B6,.kb 10,.pc 16 15 BO,.kb 11,.pc 16 16 As,.kb 12,.pc 16 17 BJ,.kb 13,.pc 16 18 A7,.kb 14,.pc 16 19 A7,.kb 15,.pc 16 32 A7],acO,abz,Th⟩
abbrev aiT (s:Hd):Prop:=aB8 s/\UT s=UT s/\YY s=YY s
def Wh:List Bd:=[WT,X8,XJ,XI,X9,WR,WU,Qt]
def aR3:Aw:=I1 Wh (la 11 func34 TB<|la 6 func34 QG<|la 3 func62 Od<|la 2 func33 NM<|la 1 func32 MP<|la 2 func41 L7<|la 9 func23 Cn<|l0 Wh) [⟨30,PD.m,TT⟩]
def aTa:DL:=CS 34 21 11 (PA.lp)<|CS 34 21 6 (Qi.lp)<|CS 62 21 3 (Qh.lp)<|CS 33 20 2 (Qz.lp)<|CS 32 20 1 (QW.lp)<|CS 41 19 2 (R5.lp)<|CS 23 0 9 (Gb.lp)<|Du prog AU Wh 20 2
def aoU:EL prog AU aTa:=DD func34 rfl AT TB<|DD func34 rfl AT QG<|DD func62 rfl AT Od<|DD func33 rfl AT NM<|DD func32 rfl AT MP<|DD func41 rfl AT L7<|DD func23 rfl AT Cn<|Hb<|gk Wh
def ayJ (s:Hd):((Ec prog AU Wh aTa aR3).k 15 (UT s)<|YY s).bind (λq=>G6 (M<|YY s) [0] [.pc 16 0 Ad,.kb 4,.pc 16 7 AP,.kb 5,.pc 16 9<|.int aw,.kb 6,.pc 16 10 Am,.kb 7,.pc 16 12 B3,.kb 8,.pc 16 13 AP,.kb 9,.pc 16 14 B6,.kb 10,.pc 16 15 BO,.kb 11,.pc 16 16 As,.kb 12,.pc 16 17 BJ,.kb 13,.pc 16 18 A7,.kb 14,.pc 16 19 A7,.kb 15,.pc 16 32 A7] .normal (q.1::UT s) q.2)=(fu s).mp (λs2=>⟨.normal,M (UT s)+1,[acO s2],abz s2,U⟩):=AT
def avZ (s:Hd) (hE:aB8 s):(fu s).all (λq=>q=Th s):=by
 obtain ⟨⟨hV,hR⟩,hK,hls⟩:=id hE
 have hq:=hV.dec
 have hs:=D5.1 hq.site
 have hs0:=D5.1 hV.site
 have htk:s.p.AV.tk=s.p.tk:=(MF s.p).2.2.2.2.2.1
 have hd:=aRc hR A0
 have hp:=hV.tk
 have A1:jQ (JV s):=⟨rfl,rfl,by show (M s.p.AV.lk:Int)<=20000000;omega,y9,hq.lk,hq.st⟩
 have q1:=(atb _ A1).2
 have r1:(K7<|JV s).p.st=s.p.AV.Mx.st:=by
  refine (Prod.mk.inj q1).1.trans ?_
  show (s.p.AV.lk.drop 0).foldl _ _=PV _ _ _ _ _
  rw [aDt _<|Ax _,EY];rfl
 have r2:(K7<|JV s).left=s.p.AV.Mx.lk:=(Prod.mk.inj q1).2
 have h2:Sw s=⟨(M s.p.AV.dr:Int),0,s.p.AV.Mx,s.ev⟩:=by
  unfold Sw;rw [r1,Fa,r2];rfl
 have A2:jL (Sw s):=by
  rw [h2];exact ⟨rfl,rfl,hq.dr,by show (M s.p.AV.dr:Int)<=1000;rw [hq.dr];omega,hq.arr.st,by show 0<=s.p.AV.tk/\s.p.AV.tk<=1000000;rw [htk];exact hp⟩
 have r3:(dd<|Sw s).p.st=s.p.BS.st:=by
  refine (auF _ A2).2.trans ?_;rw [h2]
  show F4 (cnt1 s.p.AV.gs s.p.AV.dr s.p.AV.tk) 0 s.p.AV.Mx.st ((M s.p.AV.dr:Int)-0).toNat=_
  rw [Pk,Bx,ahy];rfl
 have h3:HV s=⟨s.p.BS.gs,(M s.p.BS.gs:Int),0,s.p.BS,s.ev,aq (M s.p.BS.gs) 0⟩:=by
  unfold HV;rw [r3,Fa,r2,Bx];rfl
 have hb:VP s.p.BS:=hq.arr.cnt
 have A3:jm (HV s):=by
  rw [h3];exact ⟨rfl,rfl,xv,rfl,hb.st,hb.ca,hb.mi,hb.me,Cf⟩
 have q4:=(asE _ A3).2
 have q4:(⟨(JS<|HV s).p.st,(JS<|HV s).p.mi,(JS<|HV s).p.me,(JS<|HV s).dw⟩:DW)=s.p.BS.dw:=by
  refine q4.trans ?_;rw [h3]
  show F4 (λk d=>Ki s.p.BS.gs s.p.BS.ca d (k:Int)) 0 _ ((M s.p.BS.gs:Int)-0).toNat=_
  rw [Pk,Bx,alR];rfl
 have r4:(JS<|HV s).p.st=s.p.BS.dw.st:=Az DW.st q4
 have r5:(JS<|HV s).p.mi=s.p.BS.dw.mi:=Az DW.mi q4
 have r6:(JS<|HV s).p.me=s.p.BS.dw.me:=Az DW.me q4
 have r7:(JS<|HV s).dw=s.p.BS.dw.dw:=Az DW.dw q4
 have hw:AA (s.p.AV.tk+1)=s.p.AV.tk+1:=AJ
 have hdr:VP s.p.BS.CN:=hb.drw
 unfold fu;simp only [Fa,r2,r3,r4,r5,r6,r7,hw];refine ⟨λc=>?_,λc=>?_⟩
 ·have e:s.p.Iz=15:=AD (eq_of_beq c)
  repeat (refine ⟨Dd,?_⟩)
  show _=_
  unfold Th;rw [e,JX Ae,AE Ae]
 have e:s.p.Iz=0:=AE<|CU.1 c
 repeat (refine ⟨Dd,?_⟩)
 refine ⟨⟨hE,rfl,rfl⟩,?_⟩
 repeat (refine ⟨Dd,?_⟩)
 refine ⟨⟨A1,rfl,rfl⟩,?_⟩
 repeat (refine ⟨Dd,?_⟩)
 refine ⟨⟨A2,rfl,rfl⟩,?_⟩
 repeat (refine ⟨Dd,?_⟩)
 refine ⟨⟨A3,rfl,rfl⟩,λc2=>?_,λc2=>?_⟩
 ·have c2:s.p.BS.CN.up=false:=(DB _).mp c2
  repeat (refine ⟨Dd,?_⟩)
  show _=_
  unfold Th;rw [e,LJ rfl,AD rfl];unfold PK.CZ PK.Jj;rw [AD c2];rfl
 have hu:¬s.p.BS.CN.up=false:=by intro h;rw [show s.p.AV.up=X from h] at c2;cases c2
 have R:∀ {am cs},s.p.BS.CN.rsA=am->D8 s.p.BS.CN.gs s.p.BS.CN.tg am s.p.BS.CN.cs (M s.p.BS.CN.tg)=cs->s.p.CZ={s.p.AV with cs:=cs,tk:=s.p.AV.tk+1,st:=s.p.BS.dw.st,mi:=s.p.BS.dw.mi,me:=s.p.BS.dw.me,lk:=s.p.AV.Mx.lk}:=λh1 h2=>by
  unfold PK.CZ PK.Jj;rw [AE hu,h1,h2];rfl
 refine ⟨λc3=>?_,λc3=>?_⟩
 ·have c3:Jl s.p.AV.ls (M s.p.AV.gs) (s.p.AV.tk+1)=0:=eq_of_beq c3
  have cO:Kc s.p.AV.ls (M s.p.AV.gs) (s.p.AV.tk+1)=true:=by
   unfold Jl at c3;split at c3
   ·assumption
   ·cases c3
  have cL:Gx s.p.AV.ls (M s.p.AV.gs) (s.p.AV.tk+1)=Gg (M s.p.AV.gs) s.p.AV.ls (s.p.AV.tk+1):=by
   unfold Gx;rw [AD cO,Bx]
  have hl:B1 s.p.AV.ls=true:=by
   unfold Kc at cO;simp only [AY] at cO;exact cO.1.1
  have hsA:s.p.BS.CN.rsA=DG s.p.AV.gs s.p.AV.ls (s.p.AV.tk+1):=AD c3
  have A4:j4 (cJ s):=⟨rfl,rfl,xv,by show M (aq (M s.p.AV.gs:Int).toNat (0:Int))=_;rw [Cf,Bx];rfl,λj _ _=>LG,ak⟩
  obtain ⟨_,_,_,q5⟩:=aqv _ A4
  have q5:(dV<|cJ s).out=Bp s.p.AV.gs:=q5
  have hlen:M (Gg (M s.p.AV.gs) s.p.AV.ls<|s.p.AV.tk+1)=M s.p.AV.gs:=cV
  have h6:Sv s=⟨Gg (M s.p.AV.gs) s.p.AV.ls<|s.p.AV.tk+1,(M s.p.AV.gs:Int),0,s.p.BS.CN,s.ev,s.p.BS.dw.dw,Bp s.p.AV.gs⟩:=by
   unfold Sv;simp only [Fa,r2,r4,r5,r6,r7,hw,q5,cL,hlen];rfl
  have A5:j5 (Sv s):=by
   rw [h6];refine ⟨rfl,by show (M s.p.AV.gs:Int)=_;rw [hlen],xv,by show M (Bp s.p.AV.gs)=_;rw [hlen];exact Ih,λj j0 j1=>(show gi (Bp s.p.AV.gs) j=Cp (AG s.p.AV.gs j) from OW j0 j1),ak⟩
  obtain ⟨_,_,_,q6⟩:=aqw _ A5
  have q6:(dW<|Sv s).Cz=DG s.p.AV.gs s.p.AV.ls (s.p.AV.tk+1):=by
   refine q6.trans ?_;rw [h6]
   show H5 (M<|Gg (M s.p.AV.gs) s.p.AV.ls<|s.p.AV.tk+1) _=_
   rw [hlen];rfl
  have h7:Su s=⟨DG s.p.AV.gs s.p.AV.ls<|s.p.AV.tk+1,(M s.p.AV.tg:Int),0,s.p.BS.CN,s.ev,s.p.BS.dw.dw⟩:=by
   unfold Su;simp only [Fa,r2,r4,r5,r6,r7,q6];rfl
  have A6:Yl (Su s):=by
   rw [h7];exact ⟨rfl,rfl,hq.Eu,hq.site,hq.tg1,λ_ k hk=>Oa hq.site hl A0 (by have:M (DG s.p.AV.gs s.p.AV.ls<|s.p.AV.tk+1)=M s.p.AV.gs:=Ih;have hk:k<M (DG s.p.AV.gs s.p.AV.ls<|s.p.AV.tk+1):=hk;omega)⟩
  have q7:(T8<|Su s).p.cs=D8 s.p.AV.gs s.p.AV.tg (DG s.p.AV.gs s.p.AV.ls<|s.p.AV.tk+1) s.p.AV.cs (M s.p.AV.tg):=by
   exact aM4
  repeat (refine ⟨Dd,?_⟩)
  refine ⟨⟨A4,rfl,rfl⟩,?_⟩
  repeat (refine ⟨Dd,?_⟩)
  refine ⟨⟨A5,rfl,rfl⟩,?_⟩
  repeat (refine ⟨Dd,?_⟩)
  refine ⟨⟨A6,rfl,rfl⟩,?_⟩
  repeat (refine ⟨Dd,?_⟩)
  show _=_
  unfold Th;rw [e,LJ rfl,AD rfl,R hsA q7.symm];rfl
 ·have c3:¬Jl s.p.AV.ls (M s.p.AV.gs) (s.p.AV.tk+1)=0:=CU.1 c3
  have hsA:s.p.BS.CN.rsA=[]:=AE c3
  have h7:T5 s=⟨[],(M s.p.AV.tg:Int),0,s.p.BS.CN,s.ev,s.p.BS.dw.dw⟩:=by
   unfold T5;simp only [Fa,r2,r4,r5,r6,r7];rfl
  have A6:Yl (T5 s):=by
   rw [h7];exact ⟨rfl,rfl,hq.Eu,hq.site,hq.tg1,λ_ k hk=>by cases hk⟩
  have q7:(T8<|T5 s).p.cs=D8 s.p.AV.gs s.p.AV.tg [] s.p.AV.cs (M s.p.AV.tg):=by
   exact aM4
  repeat (refine ⟨Dd,?_⟩)
  refine ⟨⟨A6,rfl,rfl⟩,?_⟩
  repeat (refine ⟨Dd,?_⟩)
  show _=_
  unfold Th;rw [e,LJ rfl,AD rfl,R hsA q7.symm];rfl
def ahk:Df prog AU 15 aBD.m:=Cx.sound (D:=aBD) (t:=fu) (gk Wh) aoU aR3.h ayJ λs hE=>⟨avZ s hE⟩
def JP (p:PK):Prop:=(VP p/\RQ p)/\VK p.se p.fl/\B1 p.ls=U
variable {p : PK} {ev : EW}
def mv {e:EV}(h:BP p e≠0):BL p e=PK0/\Ce p e=[]:=⟨AD h,AD h⟩
theorem aBQ (hv:EA p=U) (h:ev.ek=1):BP p ev.ev=p.Iz/\(p.Iz=0->BL p ev.ev=p.CZ/\Ce p ev.ev=p.KL):=by
 exact Po
theorem aK6 (hv:EA p=U) (h:ev.ek=2):BP p ev.ev=p.H0 ev.en ev.c ev.d/\(p.H0 ev.en ev.c ev.d=0->BL p ev.ev=p.O1 ev.en ev.c ev.d/\Ce p ev.ev=[]):=by
 exact Po
theorem aK5 (hv:EA p=U) (h:ev.ek=3):BP p ev.ev=p.KI ev.en/\(p.KI ev.en=0->BL p ev.ev=p.QY ev.en/\Ce p ev.ev=[]):=by
 exact Po
theorem aK4 (hv:EA p=U) (h:ev.ek=4):BP p ev.ev=p.O2 ev.en/\(p.O2 ev.en=0->BL p ev.ev=p.gT ev.en/\Ce p ev.ev=[]):=by
 exact Po
theorem aK3 (hv:EA p=U) (h:ev.ek=5):BP p ev.ev=p.Mm/\(p.Mm=0->BL p ev.ev=p.P8/\Ce p ev.ev=[]):=by
 exact Po
theorem aBP (hv:EA p=U) (h:ev.ek=6):BP p ev.ev=p.Er/\(p.Er=0->BL p ev.ev=p.Qu/\Ce p ev.ev=[]):=by
 exact Po
theorem aK2 (hv:EA p=U) (h:ev.ek=7):BP p ev.ev=p.P1 ev.en/\(p.P1 ev.en=0->BL p ev.ev=p.aTy ev.en/\Ce p ev.ev=[]):=by
 exact Po
theorem aK1 (hv:EA p=U) (h:ev.ek=8):BP p ev.ev=p.Hk ev.en ev.em/\(p.Hk ev.en ev.em=0->BL p ev.ev=p.Lc ev.en ev.em/\Ce p ev.ev=[]):=by
 exact Po
def aJz (hv:EA p=U) (h:ev.ek≠1/\ev.ek≠2/\ev.ek≠3/\ev.ek≠4/\ev.ek≠5/\ev.ek≠6/\ev.ek≠7/\ev.ek≠8):BP p ev.ev=9:=by
 obtain ⟨h1,h2,h3,h4,h5,h6,h7,h8⟩:=h
 simp [BP,hv,EW.ev,h1,h2,h3,h4,h5,h6,h7,h8]
def JP.lb (h:JP p):LB p:=by
 obtain ⟨⟨hV,hR⟩,hK,_⟩:=h
 have hs:=D5.1 hV.site
 have hf:=hR.fl.2.1
 have hl:=hR.ls
 have hk:=hR.lk
 have hr:=hR.ra
 have ht:=hV.tk
 have h1:=hV.st
 have h2:=hV.ca
 have h3:=hV.mi
 have h4:=hV.me
 have h5:=hV.dm
 have h6:=hV.dr
 have h7:=hV.Eu
 have hf:M p.fl=2048:=hf
 refine ⟨?_,?_,?_,?_,?_,?_,?_,?_,?_,?_,?_,?_,λm hm=>HU (hR.mi m hm) Ae⟩<;>omega
end Go.Proofs.YtmlcgekfmlidcaaGreatDoor
namespace Go.Proofs.YtmlcgekfmlidcaaGreatDoor
set_option maxRecDepth 100000
set_option maxHeartbeats 4000000
open Go.Proofs.Tryz
open Go.Sx
def aJT:List LV->T LV
 | [x_p,x_ev]=>(match Mu x_p with
  |some p=>(match mK x_ev with
  |some ev=> .req (JP p) (.ok<|.AM [BL p<|EW.ev ev,.xl A7<|Ce p<|EW.ev ev,BP p<|EW.ev ev])
  |none=> .no)
  |none=> .no)
 |_=> .no
def tkO (p:PK) (ev:EW):PK:=JF (PK.Iz p) (PK.CZ p)<|p
def adG (p:PK) (ev:EW):PK:=JF (PK.H0 p ev.en (EW.c ev)<|EW.d ev) (PK.O1 p ev.en (EW.c ev)<|EW.d ev)<|p
def adH (p:PK) (ev:EW):PK:=JF (PK.KI p ev.en) (PK.QY p ev.en)<|p
def adM (p:PK) (ev:EW):PK:=JF (PK.O2 p ev.en) (PK.gT p ev.en)<|p
def adN (p:PK) (ev:EW):PK:=JF (PK.Mm p) (PK.P8 p)<|p
def adR (p:PK) (ev:EW):PK:=JF (PK.Er p) (PK.Qu p)<|p
def Kh (e:Int):LV:=.AM [.agg [.xl Ad ([]:List Cd),.xl .str ([]:List ByteArray),.xl Ah ([]:List Ko),.xl Af ([]:List Ch),.xl Ai ([]:List Ba),.v<|Y J 0,.v<|.bool X,.xl AP ([]:List Le),.v<|Y J 0,.xl (.int aw) ([]:List Int),.xl Am ([]:List Ra),.v<|Y J 0,.xl B3 ([]:List St),.xl AP ([]:List Le),.xl B6 ([]:List Mi),.xl BO ([]:List Me),.xl As ([]:List Dm),.xl BJ ([]:List Lk),.xl A7 ([]:List Int),.xl A7 ([]:List Int)],.xl A7 ([]:List Int),.v<|Y J e]
def eV:List Bd:=[aiC]
def aR2:Aw:=I1 eV (la 11 func34 TB<|la 6 func34 QG<|la 3 func62 Od<|la 2 func33 NM<|la 1 func32 MP<|la 2 func41 L7<|la 9 func23 Cn<|l0 eV) [⟨15,aBD.m,ahk⟩,⟨16,aBF.m,ahm⟩,⟨17,aBH.m,ahp⟩,⟨18,aBG.m,aho⟩,⟨19,aBI.m,ahq⟩,⟨20,aBE.m,ahl⟩,⟨21,aBC.m,ahj⟩,⟨22,aBJ.m,ahr⟩,⟨23,QO λa=>jU.m a [],ahu⟩]
def arp (p:PK) (ev:EW):letI a:=adG p ev;letI b:=adH p ev;letI e:=adM p ev;letI f:=adN p ev;letI g:=adR p ev;letI h:=(azx (⟨p⟩:MK));letI i:=M p.me;letI j:=M p.dm;letI k:=M p.lk;letI l:=M p.dr;letI m:=M p.tg;letI n:=PK.H0 p ev.en (EW.c ev)<|EW.d ev;Bg prog AU (eV) aR2 Ak f8 [p,ev]=.req (M p.lk<=100000000) (.br (!(EA p)) (.ok<|Kh 1)<|.br (ev.ek==(1:Int)) (.req h<|.rv (ev)<|.pa p<|.rl p.st<|.rl p.ca<|.rl p.mi<|.re i p.me<|.re j p.dm<|.re k p.lk<|.re l p.dr<|.re m p.tg<|.req (aiT (⟨p,ev⟩:Hd))<|.br ((PK.Iz p) !=0) (.ok<|Kh<|PK.Iz p)<|.ok<|.AM [tkO p ev,.xl A7 (if PK.Iz (p)=0 then PK.KL p else []),(0:Int)])<|.br (ev.ek==(2:Int)) (.req h<|.rv (ev)<|.pa p<|.rl p.st<|.rl p.ca<|.rl p.mi<|.re i p.me<|.re j p.dm<|.re k p.lk<|.re l p.dr<|.re m p.tg<|.req (aiV (⟨p,ev⟩:No))<|.br (n !=0) (.ok<|Kh n)<|.rz a.cs<|.rz a.ls<|.rz a.fl<|.rz a.ra<|.rz a.st<|.rz a.ca<|.rz a.mi<|.rz a.me<|.rz a.dm<|.rz a.lk<|.rz a.dr<|.rz a.tg<|.ok<|.AM [.agg [AQ a.cs,a.os,a.ks,a.gs,a.bs,a.tk,a.up,AQ a.ls,a.se,.xl (.int aw)<|AQ a.fl,AQ a.ra,a.nx,AQ a.st,AQ a.ca,AQ a.mi,AQ a.me,AQ a.dm,AQ a.lk,.xl A7<|AQ a.dr,.xl A7<|AQ a.tg],.xl A7 ([]:List Int),(0:Int)])<|.br (ev.ek==(3:Int)) (.req h<|.rv (ev)<|.pa p<|.rl p.st<|.rl p.ca<|.rl p.mi<|.re i p.me<|.re j p.dm<|.re k p.lk<|.re l p.dr<|.re m p.tg<|.req (aiX (⟨p,ev⟩:Nq))<|.br ((PK.KI p ev.en) !=0) (.ok<|Kh<|PK.KI p ev.en)<|.rz b.cs<|.rz b.ls<|.rz b.fl<|.rz b.ra<|.rz b.st<|.rz b.ca<|.rz b.mi<|.rz b.me<|.rz b.dm<|.rz b.lk<|.rz b.dr<|.rz b.tg<|.ok<|.AM [.agg [AQ b.cs,b.os,b.ks,b.gs,b.bs,b.tk,b.up,AQ b.ls,b.se,.xl (.int aw)<|AQ b.fl,AQ b.ra,b.nx,AQ b.st,AQ b.ca,AQ b.mi,AQ b.me,AQ b.dm,AQ b.lk,.xl A7<|AQ b.dr,.xl A7<|AQ b.tg],.xl A7 ([]:List Int),(0:Int)])<|.br (ev.ek==(4:Int)) (.req h<|.rv (ev)<|.pa p<|.rl p.st<|.rl p.ca<|.rl p.mi<|.re i p.me<|.re j p.dm<|.re k p.lk<|.re l p.dr<|.re m p.tg<|.req (aiW (⟨p,ev⟩:Np))<|.br ((PK.O2 p ev.en) !=0) (.ok<|Kh<|PK.O2 p ev.en)<|.rz e.cs<|.rz e.ls<|.rz e.fl<|.rz e.ra<|.rz e.st<|.rz e.ca<|.rz e.mi<|.rz e.me<|.rz e.dm<|.rz e.dr<|.rz e.tg<|.ok<|.AM [.agg [AQ e.cs,e.os,e.ks,e.gs,e.bs,e.tk,e.up,AQ e.ls,e.se,.xl (.int aw)<|AQ e.fl,AQ e.ra,e.nx,AQ e.st,AQ e.ca,AQ e.mi,AQ e.me,AQ e.dm,e.lk,.xl A7<|AQ e.dr,.xl A7<|AQ e.tg],.xl A7 ([]:List Int),(0:Int)])<|.br (ev.ek==(5:Int)) (.req h<|.rv (ev)<|.pa p<|.rl p.st<|.rl p.ca<|.rl p.mi<|.re i p.me<|.re j p.dm<|.re k p.lk<|.re l p.dr<|.re m p.tg<|.req (aiY (⟨p,ev⟩:Nr))<|.br ((PK.Mm p) !=0) (.ok<|Kh<|PK.Mm p)<|.rz f.cs<|.rz f.fl<|.rz f.ra<|.rz f.st<|.rz f.ca<|.rz f.mi<|.rz f.me<|.rz f.dm<|.rz f.lk<|.rz f.dr<|.rz f.tg<|.ok<|.AM [.agg [AQ f.cs,f.os,f.ks,f.gs,f.bs,f.tk,f.up,f.ls,f.se,.xl (.int aw)<|AQ f.fl,AQ f.ra,f.nx,AQ f.st,AQ f.ca,AQ f.mi,AQ f.me,AQ f.dm,AQ f.lk,.xl A7<|AQ f.dr,.xl A7<|AQ f.tg],.xl A7 ([]:List Int),(0:Int)])<|.br (ev.ek==(6:Int)) (.req h<|.rv (ev)<|.pa p<|.rl p.st<|.rl p.ca<|.rl p.mi<|.re i p.me<|.re j p.dm<|.re k p.lk<|.re l p.dr<|.re m p.tg<|.req (aiU (⟨p,ev⟩:Nn))<|.br ((PK.Er p) !=0) (.ok<|Kh<|PK.Er p)<|.rz g.cs<|.rz g.st<|.rz g.ca<|.rz g.mi<|.rz g.me<|.rz g.dm<|.rz g.lk<|.rz g.dr<|.rz g.tg<|.ok<|.AM [.agg [AQ g.cs,g.os,g.ks,g.gs,g.bs,g.tk,g.up,g.ls,g.se,.xl (.int aw) g.fl,g.ra,g.nx,AQ g.st,AQ g.ca,AQ g.mi,AQ g.me,AQ g.dm,AQ g.lk,.xl A7<|AQ g.dr,.xl A7<|AQ g.tg],.xl A7 ([]:List Int),(0:Int)])<|.br (ev.ek==(7:Int)) (.req h<|.rv (ev)<|.pa p<|.rl p.st<|.rl p.ca<|.rl p.mi<|.re i p.me<|.re j p.dm<|.re k p.lk<|.re l p.dr<|.re m p.tg<|.req (aiS (⟨p,ev⟩:Nm))<|.br ((PK.P1 p ev.en) !=0) (.ok<|Kh<|PK.P1 p ev.en)<|.rz p.cs<|.rz p.ls<|.rz p.fl<|.rz p.ra<|.rz (if PK.isC p ev.en=U then Ct p.gs p.st ev.en 6 1 0 else p.st)<|.rz p.ca<|.rz p.mi<|.rz p.me<|.rz p.dm<|.rz p.lk<|.rz p.dr<|.rz p.tg<|.ok<|.AM [.agg [AQ p.cs,p.os,p.ks,p.gs,p.bs,p.tk,p.up,AQ p.ls,p.se,.xl (.int aw)<|AQ p.fl,AQ p.ra,p.nx,AQ (if PK.isC p ev.en=U then Ct p.gs p.st ev.en 6 1 0 else p.st),AQ p.ca,AQ p.mi,AQ p.me,AQ p.dm,AQ p.lk,.xl A7<|AQ p.dr,.xl A7<|AQ p.tg],.xl A7 ([]:List Int),(0:Int)])<|.br (ev.ek==(8:Int)) (.req h<|.rv (ev)<|.pa p<|.rl p.st<|.rl p.ca<|.rl p.mi<|.re i p.me<|.re j p.dm<|.re k p.lk<|.re l p.dr<|.re m p.tg<|.req (aiZ (⟨p,ev⟩:Ml))<|.br ((PK.Hk p ev.en ev.em) !=0) (.ok<|Kh<|PK.Hk p ev.en ev.em)<|.rz p.cs<|.rz p.ls<|.rz p.fl<|.rz p.ra<|.rz p.st<|.rz p.ca<|.rz p.mi<|.rz p.me<|.rz p.dm<|.rz p.lk<|.rz p.dr<|.rz (if PK.Hk p ev.en ev.em=1 then p.tg else p.tg.set ev.en.toNat ev.em)<|.ok<|.AM [.agg [AQ p.cs,p.os,p.ks,p.gs,p.bs,p.tk,p.up,AQ p.ls,p.se,.xl (.int aw)<|AQ p.fl,AQ p.ra,p.nx,AQ p.st,AQ p.ca,AQ p.mi,AQ p.me,AQ p.dm,AQ p.lk,.xl A7<|AQ p.dr,.xl A7<|AQ (if PK.Hk p ev.en ev.em=1 then p.tg else p.tg.set ev.en.toNat ev.em)],.xl A7 ([]:List Int),(0:Int)])<|.ok<|Kh 9):=AT
def WO:=vo (S:=aJT) func8 eV aR2 (λargs lv h=>by
 refine ⟨?_⟩;unfold aJT at h;split at h
 ·split at h
  case h_2=>cases h
  rename_i p hp;obtain rfl:=W5 hp;split at h
  case h_2=>cases h
  rename_i ev hev;obtain rfl:=asr hev;simp only [canL,canX];rw [arp];obtain ⟨hJ,rfl⟩:=h;obtain ⟨⟨hV,hR⟩,hK,hl⟩:=id hJ
  have hv:=Q3.2 hV
  have hs:=D5.1 hV.site
  have hlb:=hJ.lb
  have D:jq ⟨p⟩:=hlb
  have hlk:=hlb.lk
  refine ⟨A0,λc=>?_,λ_=>?_⟩
  ·rw [hv] at c
   cases c
  refine ⟨λc1=>?_,λc1=>?_⟩
  ·have c1:ev.ek=1:=eq_of_beq c1
   obtain ⟨s1,s2⟩:=aBQ hv c1;refine ⟨⟨D,rfl,rfl⟩,rfl,?_⟩
   repeat (refine ⟨Dd,?_⟩)
   refine ⟨⟨hJ,rfl,rfl⟩,λc=>?_,λc=>?_⟩
   ·exact Pm
   ·have c:=Dr c
    repeat (refine ⟨MB,?_⟩)
    show _=_
    rw [(s2 c).1,(s2 c).2,s1,c];simp only [Fa];rw [show tkO p ev=_ from LJ c,AD trivial]
  refine ⟨λc1=>?_,λc2=>?_⟩
  ·have c1:ev.ek=2:=eq_of_beq c1
   obtain ⟨s1,s2⟩:=aK6 hv c1;refine ⟨⟨D,rfl,rfl⟩,rfl,?_⟩
   repeat (refine ⟨Dd,?_⟩)
   refine ⟨⟨⟨hV.st,Zl,hV.ca,hV.mi,hV.dm⟩,rfl,rfl⟩,λc=>?_,λc=>?_⟩
   ·exact Pm
   ·have c:=Dr c
    repeat (refine ⟨Dd,?_⟩)
    show _=_
    rw [(s2 c).1,(s2 c).2,s1,c];simp only [Fa];rw [show adG p ev=_ from LJ c]
  refine ⟨λc1=>?_,λc3=>?_⟩
  ·have c1:ev.ek=3:=eq_of_beq c1
   obtain ⟨s1,s2⟩:=aK5 hv c1;refine ⟨⟨D,rfl,rfl⟩,rfl,?_⟩
   repeat (refine ⟨Dd,?_⟩)
   refine ⟨⟨⟨hV.st,Zl,hV.ca,hV.mi,hV.dm⟩,rfl,rfl⟩,λc=>?_,λc=>?_⟩
   ·exact Pm
   ·have c:=Dr c
    repeat (refine ⟨Dd,?_⟩)
    show _=_
    rw [(s2 c).1,(s2 c).2,s1,c];simp only [Fa];rw [show adH p ev=_ from LJ c]
  refine ⟨λc1=>?_,λc4=>?_⟩
  ·have c1:ev.ek=4:=eq_of_beq c1
   obtain ⟨s1,s2⟩:=aK4 hv c1;refine ⟨⟨D,rfl,rfl⟩,rfl,?_⟩
   repeat (refine ⟨Dd,?_⟩)
   refine ⟨⟨⟨Zl,hlk⟩,rfl,rfl⟩,λc=>?_,λc=>?_⟩
   ·exact Pm
   ·have c:=Dr c
    repeat (refine ⟨Dd,?_⟩)
    show _=_
    rw [(s2 c).1,(s2 c).2,s1,c];simp only [Fa];rw [show adM p ev=_ from LJ c]
  refine ⟨λc1=>?_,λc5=>?_⟩
  ·have c1:ev.ek=5:=eq_of_beq c1
   obtain ⟨s1,s2⟩:=aK3 hv c1;refine ⟨⟨D,rfl,rfl⟩,rfl,?_⟩
   repeat (refine ⟨Dd,?_⟩)
   refine ⟨⟨ak,rfl,rfl⟩,λc=>?_,λc=>?_⟩
   ·exact Pm
   ·have c:=Dr c
    repeat (refine ⟨Dd,?_⟩)
    show _=_
    rw [(s2 c).1,(s2 c).2,s1,c];simp only [Fa];rw [show adN p ev=_ from LJ c]
  refine ⟨λc1=>?_,λc6=>?_⟩
  ·have c1:ev.ek=6:=eq_of_beq c1
   obtain ⟨s1,s2⟩:=aBP hv c1;refine ⟨⟨D,rfl,rfl⟩,rfl,?_⟩
   repeat (refine ⟨Dd,?_⟩)
   refine ⟨⟨⟨hR.fl.2.2,Zl⟩,rfl,rfl⟩,λc=>?_,λc=>?_⟩
   ·exact Pm
   ·have c:=Dr c
    repeat (refine ⟨Dd,?_⟩)
    show _=_
    rw [(s2 c).1,(s2 c).2,s1,c];simp only [Fa];rw [show adR p ev=_ from LJ c]
  refine ⟨λc1=>?_,λc7=>?_⟩
  ·have c1:ev.ek=7:=eq_of_beq c1
   obtain ⟨s1,s2⟩:=aK2 hv c1;refine ⟨⟨D,rfl,rfl⟩,rfl,?_⟩
   repeat (refine ⟨Dd,?_⟩)
   refine ⟨⟨⟨hV.st,Zl⟩,rfl,rfl⟩,λc=>?_,λc=>?_⟩
   ·exact Pm
   ·have c:=Dr c
    have hc:p.isC ev.en=true:=by
     cases e:p.isC ev.en
     ·unfold PK.P1 at c
      rw [AD e] at c;cases c
     ·rfl
    repeat (refine ⟨Dd,?_⟩)
    show _=_
    rw [(s2 c).1,(s2 c).2,s1,c];simp only [Fa];rw [AD hc];rfl
  refine ⟨λc1=>?_,λc8=>?_⟩
  ·have c1:ev.ek=8:=eq_of_beq c1
   obtain ⟨s1,s2⟩:=aK1 hv c1;refine ⟨⟨D,rfl,rfl⟩,rfl,?_⟩
   repeat (refine ⟨Dd,?_⟩)
   refine ⟨⟨hV,rfl,rfl⟩,λc=>?_,λc=>?_⟩
   ·exact Pm
   ·have c:=Dr c
    repeat (refine ⟨Dd,?_⟩)
    show _=_
    rw [(s2 c).1,(s2 c).2,s1,c];simp only [Fa];rw [AE Ae];rfl
  have e:=aJz (ev:=ev) hv ⟨CU.1 c1,CU.1 c2,CU.1 c3,CU.1 c4,CU.1 c5,CU.1 c6,CU.1 c7,CU.1 c8⟩
  show Kh _=_
  rw [(mv (by rw [e];decide)).1,(mv (by rw [e];decide)).2,e]
  rfl
 ·cases h)
structure Nt where
 (k0 k i HZ:Int)
 HY:Value
 Vo:Int
 FZ:Value
 aoK:Int
 o:List Int
def yt (s:Nt):T (Rd Nt):=letI a:=(s.o.set s.i.toNat (255:Int));.br (an<|s.i<s.k) (.ik s.i (M s.o)<|.re (M s.o) a<|.nx {s with i:=AA<|s.i+1,o:=a})<|.rl s.o<|.so (.exit 0) s
def jj (s:Nt):Prop:=s.i=0/\s.k=(M s.o:Int)/\s.k<=4096
def ia (s:Nt):Prop:=0<=s.i/\s.i<=s.k/\s.o.take s.i.toNat=aq s.i.toNat 255/\s.k=(M s.o:Int)/\s.k<=4096
def tI (s:Nt):Nat:=(s.k-s.i).toNat
def acC (x:Ex) (s s':Nt):Prop:=True
def amB:∀s,jj s->ia s:=by
 rintro s ⟨h0,h2,h3⟩
 exact ⟨A0,A0,G1,h2,h3⟩
theorem ah7:Da ia tI acC yt:=by
 intro s hI;obtain ⟨h0,h1,hq,h2,h3⟩:=hI;refine AH (λc1=>?_) λc1=>trivial
 have c1:s.i<s.k:=A8
 rw [AJ (x:=s.i+1)];refine ⟨⟨A8,A8,?_,A8,h3⟩,by simp only [tI];omega⟩
 rw [show (s.i+1).toNat=s.i.toNat+1 by omega,ZC A8,List.take_set_of_le<|Ax _,hq,List.getElem_set_self,kR]
def Z6:AS Nt:=⟨1,43,[4,5,6,33,34],[],λs=>[.own 1 0,s.k0,.own 2 0,s.k,s.i],λs=>[⟨[s.HZ,.v<|s.HY],36,.cl,X⟩,⟨[s.Vo,.v<|s.FZ],36,.cl,X⟩,⟨[s.aoK,.os 3 1 0<|M s.o],36,.cl,X⟩,bV 5 (.int aw) s.o],λv b=>⟨AK v 1,AK v 3,AK v 4,Aj b 0 0,Gp<|B8 (CT b 0) 1,Aj b 1 0,Gp<|B8 (CT b 1) 1,Aj b 2 0,Ab (.int aw) b 3⟩,yt,λs r=> {s with i:=r.i,o:=r.o},λs=>s,λ_ s=>s,[.exit 0],jj,ia,tI⟩
abbrev OU:=Z6.run
abbrev aHX:=Z6.At
def Wk:List Bd:=[vk]
def azW:Aw:=kI Wk<|l0 Wk
def axo:Rq ia yt:=by
 intro s hI;refine ⟨λc1=>⟨?_,?_,?_,ak⟩,λc1=>⟨A9,ak⟩⟩
 all_goals ((obtain ⟨h0,h1,hq,h2,h3⟩:=hI;(try simp only [Aa] at c1);first|omega|exact ⟨rfl,AI⟩))
def aQ9:Z6.Ok:={}
def aPc:Z6.Pf (acC):=⟨amB,λs h=>rfl,ah7,axo⟩
def apr:=s2 (b:=bN f87 0) aQ9 aPc Wk azW
theorem arF:Rs jj aHX OU (λs:Nt=>aq s.k.toNat 255) (λx s' (v:List Int)=>x=.exit 0/\s'.o=v):=DN aQ9 aPc (λs hI=>by
  obtain ⟨h0,h1,hq,h2,h3⟩:=hI;refine AH (λc1=>rfl) λc1=>⟨rfl,?_⟩
  have c1:s.k<=s.i:=A8
  rw [show s.i.toNat=s.k.toNat by omega,DZ A0] at hq
  exact hq)
def aRw:List LV->T LV
 | [.v (Y J a),.v (Y J b)]=> .req (a=512/\b=4) (.ok<|.AM [.agg [(512:Int),.xl (.int aw) Ew],(0:Int)])
 |_=> .no
def JT (a b:Int):Nt:=(⟨0,(((AA<|a*b).toNat:Nat):Int),0,0,.slice aj 0 0,0,.slice aj 0 0,a,aq (AA<|a*b).toNat (0:Int)⟩:Nt)
def azV:Aw:=kI Wk<|la 5 func87 apr<|l0 Wk
def arY:M Ew=2048:=MB
def arZ:BC [80,0,0,0,0] (aq (Int.toNat 2048) 255)=Ew:=by
 have h4:Cv 0=[0,0,0,0]:=Ae
 have hp:BN []=[]:=rfl
 unfold BC Ew DS;rw [h4,hp,List.drop_replicate,EF,Cm,wy]
 congr 1
def aj9:=vo (S:=aRw) func63 Wk azV (λargs lv h=>by
 unfold aRw at h;split at h
 ·rename_i a b
  refine Ap (letI d:=OU<|JT a b;letI e:=(FQ (0:Int) ([]:List Int));letI f:=AA<|a*b;letI g:=(BC ([(80:Int),(0:Int),(0:Int),(0:Int),(0:Int)]) d.o);letI i:=M d.o;.br (an<|a<1) (.br (((1:Int) !=0) ||(! e)) (.ok<|.AM [.agg [(0:Int),.xl (.int aw) ([]:List Int)],(1:Int)])<|.no /-copy to v -/)<|.br (an<|a>512) (.br (((1:Int) !=0) ||(! e)) (.ok<|.AM [.agg [(0:Int),.xl (.int aw) ([]:List Int)],(1:Int)])<|.no /-copy to v -/)<|.br (an<|b<1) (.br (((1:Int) !=0) ||(! e)) (.ok<|.AM [.agg [(0:Int),.xl (.int aw) ([]:List Int)],(1:Int)])<|.no /-copy to v -/)<|.req (a≠0)<|.br (an<|b>(AA<|(4096:Int).tdiv a)) (.br (((1:Int) !=0) ||(! e)) (.ok<|.AM [.agg [(0:Int),.xl (.int aw) ([]:List Int)],(1:Int)])<|.no /-copy to v -/)<|.req (0<=f/\f<=f/\1*f<=2^48/\f<2^63)<|.req (0=0/\f.toNat=M (aq f.toNat (0:Int)))<|.req (Z6.q<|JT a b)<|.br ((0:Int) !=0) (.ok<|.AM [.agg [(0:Int),.xl (.int aw) ([]:List Int)],(1:Int)])<|.req (0+i<=M d.o)<|.br (!(FQ a<|(d.o.drop 0).take i)) (.ok<|.AM [.agg [(0:Int),.xl (.int aw) ([]:List Int)],(1:Int)])<|.req (M d.o=M d.o/\M ([(80:Int),(0:Int),(0:Int),(0:Int),(0:Int)])<=M d.o)<|.req (0+i<=M g)<|.ok<|.AM [.agg [a,.xl (.int aw)<|(g.drop 0).take i],(0:Int)]) ?_;obtain ⟨⟨rfl,rfl⟩,rfl⟩:=h
  have hw:AA (512*4)=2048:=Ae
  have hk:(JT 512 4).k=2048:=MB
  have hl:M (JT 512 4).o=2048:=MB
  have hV:jj (JT 512 4):=⟨rfl,by rw [hk,hl];rfl,by rw [hk];decide⟩
  have q:aHX (JT 512 4)=.exit 0/\(OU<|JT 512 4).o=aq (JT 512 4).k.toNat 255:=arF _ hV
  rw [hk] at q
  have hL:M (OU<|JT 512 4).o=2048:=by rw [q.2,Cf];rfl
  have hT:(((OU<|JT 512 4).o).drop 0).take (M (OU<|JT 512 4).o)=(OU<|JT 512 4).o:=AI
  have hJ:FQ 512 (OU<|JT 512 4).o=true:=ML.2 ⟨NN.2 (by rw [hL];decide),by rw [hL];decide,A0,A0,Ae⟩
  have hC:BC [80,0,0,0,0] (OU<|JT 512 4).o=Ew:=by rw [q.2];exact arZ
  rw [hw,hT,hJ,hC,hL]
  have hj:=arY
  refine ⟨λc=>GI,λ_=>⟨λc=>GI,λ_=>⟨λc=>GI,λ_=>⟨Ae,λc=>GI,λ_=>⟨Ae,by rw [Cf];decide,⟨hV,rfl,rfl⟩,λc=>GI,λ_=>⟨Ae,λc=>GI,λ_=>⟨⟨rfl,Ae⟩,by rw [hj];decide,?_⟩⟩⟩⟩⟩⟩⟩
  rfl
 ·cases h)
def aSj:List LV->T LV
 | []=> .ok (.AM [.agg [(512:Int),.xl (.int aw) Ew],(0:Int)])
 |_=> .no
def agu:List Bd:=[aj9]
def uz:=vo (S:=aSj) func27 agu kN (λargs lv h=>by
 refine ⟨?_⟩;unfold aSj at h;split at h
 ·simp only [canL]
  obtain rfl:=h;exact ⟨A9,rfl⟩
 ·cases h)
structure PL where
 agk:List Int
 e:Int
 l:List Int
 (m i:Int)
 B9:List Cd
 BW:List ByteArray
 C0:List Ko
 BM:List Ch
 C1:List Ba
def aEo:=bN f10 0
def vU (s:PL):T (Rd PL):=
 .br (an<|s.i<s.m) (.ix s.i (M s.l)<|.br (!(inB (gi s.l s.i) (-200) 200)) (.so (.ret) {s with e:=(1:Int)})<|.nx {s with i:=AA<|s.i+1}) (.so (.exit 0) s)
def iT (s:PL):Prop:=(s.i=0/\s.m=(M s.l:Int))/\s.m<=1000/\s.e=0
def Xm (s:PL):Prop:=(0<=s.i/\s.m=(M s.l:Int))/\s.m<=1000/\s.e=0/\∀j:Nat,(j:Int)<s.i->inB (gi s.l j) (-200) 200=U
def sf (s:PL):Nat:=(s.m-s.i).toNat
def aAN (x:Ex) (s s':PL):Prop:=(x=.exit 0/\s'.e=0/\s'.l.all (λx=>inB x (-200) 200)=U)\/(x=.ret/\s'.e=1/\s'.l.all (λx=>inB x (-200) 200)=X)
def ajP:∀s,iT s->Xm s:=by
 rintro s ⟨⟨h0,h1⟩,h2,h3⟩
 exact ⟨⟨A0,h1⟩,h2,h3,λj hj=>A0⟩
theorem ayo:Da Xm sf aAN vU:=by
 intro s hI;obtain ⟨⟨h0,h1⟩,h2,h3,h4⟩:=hI
 have key:s.l.all (λx=>inB x (-200) 200)=Di (M s.l) (λk=>inB (gi s.l k) (-200) 200):=(ot (f:=λx=>inB x (-200) 200)).symm
 refine AH (λc1=>AH (λc2=>?_) λc2=>?_) λc1=>?_
 ·have c1:s.i<s.m:=AX
  refine .inr ⟨rfl,rfl,?_⟩;rw [key];exact QI s.i.toNat A0 A8
 ·have c1:s.i<s.m:=A8
  have c2:=(I8 _).mp c2
  rw [AJ (x:=s.i+1)];refine ⟨⟨⟨A8,h1⟩,h2,h3,λj hj=>?_⟩,by simp only [sf];omega⟩
  by_cases e:(j:Int)<s.i
  ·exact h4 j e
  ·rw [show (j:Int)=s.i by grind]
   exact c2
 ·have c1:s.m<=s.i:=A8
  exact .inl ⟨rfl,h3,by rw [key];exact Dq.2 λj hj=>h4 j A0⟩
def RH:AS PL:=⟨0,105,[1,2,4,5,27,28,29],[],λs=>[.xl A7 s.agk,.own 0 0,.own 1 0,s.e,.xl A7 s.l,s.m,s.i],λs=>[⟨[s.B9,s.BW,s.C0,s.BM,s.C1],28,.cl,X⟩,zB],λv b=>⟨B5 A7 v 0,AK v 3,B5 A7 v 4,AK v 5,AK v 6,AF Ad b 0 0,AF .str b 0 1,AF Ah b 0 2,AF Af b 0 3,AF Ai b 0 4⟩,vU,λs r=> {s with e:=r.e,i:=r.i},λs=>s,λ_ s=>s,[.ret,.exit 0],iT,Xm,sf⟩
abbrev WK:=RH.run
abbrev dH:=RH.At
def aw5:Rq Xm vU:=by
 exact aL9
def X4:List Bd:=[Om,gK,eG,uz,WI]
def uC:Aw:=kI X4<|la 11 func34 TB<|la 6 func34 QG<|la 3 func62 Od<|la 2 func33 NM<|la 1 func32 MP<|la 2 func41 L7<|la 9 func23 Cn<|l0 X4
def aPx:RH.Ok:={}
def aPQ:RH.Pf (aAN):=⟨ajP,λs h=>rfl,ayo,aw5⟩
def apX:SA 0 aEo RH:=s1 aPx aPQ X4 uC
def aqf:Fi iT Xm aAN dH WK:=AS.fin aPx aPQ
structure PJ where
 (e n i:Int)
 B9:List Cd
 BW:List ByteArray
 C0:List Ko
 BM:List Ch
 C1:List Ba
 rZ:List Cd
 p1:List ByteArray
 p2:List Ko
 p3:List Ch
 p4:List Ba
 (p9 T1:List Int)
 ra:List Ra
 st:List St
 ca:List Le
 mi:List Mi
 me:List Me
 dm:List Dm
def aEn:=bN f10 1
def vT (s:PJ):T (Rd PJ):=letI a:=(X,((0:Int),((0:Int),(9:Int))));letI b:=((AA<|s.i+1),((0:Int),X));letI c:=(s.st++([((0:Int),((0:Int),((0:Int),X)))]));.br (an<|s.i<s.n) (.rb (M s.st) (M<|[((0:Int),((0:Int),((0:Int),X)))]) 32<|.rb (M s.me) (M<|[b]) 24<|.rb (M s.dm) (M<|[a]) 32<|.rl s.ra<|.re (M s.st+M ([((0:Int),((0:Int),((0:Int),X)))])) c<|.rl s.ca<|.rl s.mi<|.re (M s.me+M ([b])) (s.me++([b]))<|.re (M s.dm+M ([a])) (s.dm++([a]))<|.nx {s with i:=AA<|s.i+1,st:=c,me:=s.me++([b]),dm:=s.dm++([a])})<|.rl s.ra<|.rl s.st<|.rl s.ca<|.rl s.mi<|.rl s.me<|.rl s.dm<|.so (.exit 2) s
def iS (s:PJ):Prop:=s.i=0/\(s.n<=1000/\0<=s.n)/\s.st=[]/\s.me=[]/\s.dm=[]
def Xl (s:PJ):Prop:=(0<=s.i/\s.i<=s.n)/\(s.n<=1000/\0<=s.n)/\s.st=aq s.i.toNat (0,0,0,X)/\s.me=(Fk s.i.toNat).map (λk=>(k+1,0,X))/\s.dm=aq s.i.toNat (X,0,0,9)
def sd (s:PJ):Nat:=(s.n-s.i).toNat
def aAM (x:Ex) (s s':PJ):Prop:=x=.exit 2/\s'.st=aq s'.n.toNat (0,0,0,X)/\s'.me=(Fk s'.n.toNat).map (λk=>(k+1,0,X))/\s'.dm=aq s'.n.toNat (X,0,0,9)
def ajw:∀s,iS s->Xl s:=by
 rintro s ⟨h0,h1,h2,h3,h4⟩
 refine ⟨A0,h1,?_,?_,?_⟩
 ·simp_all
 ·rw [h3,h0];rfl
 ·simp_all
theorem ayn:Da Xl sd aAM vT:=by
 intro s hI;obtain ⟨⟨h0,h1⟩,h2,h3,h4,h5⟩:=hI;refine AH (λc1=>?_) λc1=>?_
 ·have c1:s.i<s.n:=A8
  rw [AJ (x:=s.i+1)]
  have e:(s.i+1).toNat=s.i.toNat+1:=A0
  refine ⟨⟨⟨A8,A8⟩,h2,?_,?_,?_⟩,by simp only [sd];omega⟩
  ·show s.st++[_]=aq (s.i+1).toNat _
   rw [e,h3,kR]
  ·show s.me++[_]=(Fk (s.i+1).toNat).map _
   rw [e,h4,aDh,Jv,CL h0];rfl
  ·show s.dm++[_]=aq (s.i+1).toNat _
   rw [e,h5,kR]
 ·have c1:s.n<=s.i:=A8
  have e:s.i=s.n:=A0
  rw [e] at h3 h4 h5;exact ⟨rfl,h3,h4,h5⟩
def RG:AS PJ:=⟨0,105,[2,4,5,11,63,64],[.ns 11 12 90 B3,.ns 11 15 93 BO,.ns 11 16 57 As],λs=>[.own 0 0,.own 1 0,s.e,.own 2 0,s.n,s.i],λs=>[⟨[s.B9,s.BW,s.C0,s.BM,s.C1],28,.cl,X⟩,zB,⟨[s.rZ,s.p1,s.p2,s.p3,s.p4,(0:Int),U,.v<|.slice aj 0 0,(512:Int),.xl (.int aw) s.p9,.os 3 2 0<|M s.ra,(1:Int),.os 4 4 0<|M s.st,.os 5 5 0<|M s.ca,.os 6 3 0<|M s.mi,.os 7 3 0<|M s.me,.os 8 4 0<|M s.dm,.v<|.slice aj 0 0,.xl A7 s.T1,.v<|.slice aj 0 0],47,.cl,X⟩,bV 127 Am s.ra,bV 90 B3 s.st,bV 55 AP s.ca,bV 107 B6 s.mi,bV 93 BO s.me,bV 57 As s.dm],λv b=>⟨AK v 2,AK v 4,AK v 5,AF Ad b 0 0,AF .str b 0 1,AF Ah b 0 2,AF Af b 0 3,AF Ai b 0 4,AF Ad b 2 0,AF .str b 2 1,AF Ah b 2 2,AF Af b 2 3,AF Ai b 2 4,AF (.int aw) b 2 9,AF A7 b 2 18,Ab Am b 3,Ab B3 b 4,Ab AP b 5,Ab B6 b 6,Ab BO b 7,Ab As b 8⟩,vT,λs r=> {s with i:=r.i,st:=r.st,me:=r.me,dm:=r.dm},λs=>s,λ_ s=>s,[.exit 2],iS,Xl,sd⟩
abbrev NA:=RG.run
abbrev atK:=RG.At
theorem aw4:Rq Xl vT:=by
 intro s hI;refine ⟨λc1=>⟨?_,?_,?_,A9,?_,A9,A9,?_,?_,ak⟩,λc1=>⟨A9,A9,A9,A9,A9,A9,ak⟩⟩
 all_goals ((obtain ⟨⟨h0,h1⟩,h2,h3,h4,h5⟩:=hI;have l1:M s.st=s.i.toNat:=A8;have l2:M s.me=s.i.toNat:=(by rw [h4];simp [Ob]);have l3:M s.dm=s.i.toNat:=A8;simp only [Aa] at c1;first|(simp only [Bc,Bn];omega) |(simp only [BD,Bc,Bn,FB];done) |exact ⟨rfl,AI⟩))
def aPw:RG.Ok:={}
def aOc:RG.Pf (aAM):=⟨ajw,λs h=>rfl,ayn,aw4⟩
def apW:SA 0 aEn RG:=s1 aPw aOc X4 uC
def aqe:Fi iS Xl aAM atK NA:=AS.fin aPw aOc
structure PI where
 e:Int
 l:List Cd
 (n i:Int)
 rZ:List Cd
 p1:List ByteArray
 p2:List Ko
 p3:List Ch
 p4:List Ba
 (p9 T1:List Int)
 ra:List Ra
 st:List St
 ca:List Le
 mi:List Mi
 me:List Me
 dm:List Dm
 tg:List Int
def aEm:=bN f10 2
def vS (s:PI):T (Rd PI):=letI a:=Ac s.l s.i;.br (an<|s.i<s.n) (.ix s.i (M s.l)<|.rb (M s.tg) (M<|[a.2.2.1]) 8<|.rl s.ra<|.rl s.st<|.rl s.ca<|.rl s.mi<|.rl s.me<|.rl s.dm<|.re (M s.tg+M ([a.2.2.1])) (s.tg++([a.2.2.1]))<|.nx {s with i:=AA<|s.i+1,tg:=s.tg++([a.2.2.1])})<|.rl s.ra<|.rl s.st<|.rl s.ca<|.rl s.mi<|.rl s.me<|.rl s.dm<|.rl s.tg<|.so (.exit 4) s
def iR (s:PI):Prop:=s.i=0/\(s.n=(M s.l:Int)/\s.n<=1000)/\s.tg=[]
def Xk (s:PI):Prop:=(0<=s.i/\s.i<=s.n)/\(s.n=(M s.l:Int)/\s.n<=1000)/\s.tg=(s.l.take s.i.toNat).map (λc=>c.2.2.1)
def sZ (s:PI):Nat:=(s.n-s.i).toNat
def aAL (x:Ex) (s s':PI):Prop:=x=.exit 4/\s'.tg=s'.l.map (λc=>c.2.2.1)
def ajv:∀s,iR s->Xk s:=by
 rintro s ⟨h0,h1,h2⟩
 exact ⟨A0,h1,G1⟩
theorem aym:Da Xk sZ aAL vS:=by
 intro s hI;obtain ⟨⟨h0,h1⟩,⟨h2,h3⟩,h4⟩:=hI;refine AH (λc1=>?_) λc1=>?_
 ·have c1:s.i<s.n:=A8
  rw [AJ (x:=s.i+1)]
  have e:(s.i+1).toNat=s.i.toNat+1:=A0
  refine ⟨⟨⟨A8,A8⟩,⟨h2,h3⟩,?_⟩,by simp only [sZ];omega⟩
  show s.tg++[_]=(s.l.take (s.i+1).toNat).map _
  have e2:Ac s.l s.i=s.l[s.i.toNat]' A0:=by
   have:=QK (cs:=s.l) (k:=s.i.toNat) A0
   exact this
  rw [e,h4,ZC A0,Jv,e2];rfl
 ·have c1:s.n<=s.i:=A8
  refine ⟨rfl,?_⟩;rw [h4,DZ A0]
def RE:AS PI:=⟨0,105,[4,5,11,89,90,91],[.ns 11 19 3 A7],λs=>[.own 0 0,s.e,.own 1 0,s.l,s.n,s.i],λs=>[zB,⟨[s.rZ,s.p1,s.p2,s.p3,s.p4,(0:Int),U,.v<|.slice aj 0 0,(512:Int),.xl (.int aw) s.p9,.os 2 2 0<|M s.ra,(1:Int),.os 3 4 0<|M s.st,.os 4 5 0<|M s.ca,.os 5 3 0<|M s.mi,.os 6 3 0<|M s.me,.os 7 4 0<|M s.dm,.v<|.slice aj 0 0,.xl A7 s.T1,.os 8 1 0<|M s.tg],47,.cl,X⟩,bV 127 Am s.ra,bV 90 B3 s.st,bV 55 AP s.ca,bV 107 B6 s.mi,bV 93 BO s.me,bV 57 As s.dm,bV 3 A7 s.tg],λv b=>⟨AK v 1,B5 Ad v 3,AK v 4,AK v 5,AF Ad b 1 0,AF .str b 1 1,AF Ah b 1 2,AF Af b 1 3,AF Ai b 1 4,AF (.int aw) b 1 9,AF A7 b 1 18,Ab Am b 2,Ab B3 b 3,Ab AP b 4,Ab B6 b 5,Ab BO b 6,Ab As b 7,Ab A7 b 8⟩,vS,λs r=> {s with i:=r.i,tg:=r.tg},λs=>s,λ_ s=>s,[.exit 4],iR,Xk,sZ⟩
abbrev bT:=RE.run
abbrev atJ:=RE.At
theorem awf:Rq Xk vS:=by
 intro s hI;refine ⟨λc1=>⟨?_,?_,A9,A9,A9,A9,A9,A9,?_,ak⟩,λc1=>⟨A9,A9,A9,A9,A9,A9,A9,ak⟩⟩
 all_goals ((obtain ⟨⟨h0,h1⟩,⟨h2,h3⟩,h4⟩:=hI;have l1:M s.tg=s.i.toNat:=A8;simp only [Aa] at c1;first|omega|(simp only [Bc,Bn];omega) |(simp only [BD,Bc,Bn,FB];done)))
def aPv:RE.Ok:={}
def aOb:RE.Pf (aAL):=⟨ajv,λs h=>rfl,aym,awf⟩
def apV:SA 0 aEm RE:=s1 aPv aOb X4 uC
def aqd:Fi iR Xk aAL atJ bT:=AS.fin aPv aOb
structure Nj where
 (n i:Int)
 qW:List Cd
 b11:List ByteArray
 b12:List Ko
 b13:List Ch
 b14:List Ba
 (b19 aCh:List Int)
 b2:List Ra
 b3:List St
 b4:List Le
 b5:List Mi
 b6:List Me
 b7:List Dm
 b8:List Int
 p1:List ByteArray
 p2:List Ko
 p3:List Ch
 p4:List Ba
 T1:List Int
 Uy:List Cd
 mN:List Le
 mM:List Int
 mL:List Ra
 b15:List St
 b16:List Le
 o:List Mi
def vR (s:Nj):T (Rd Nj):=letI a:=s.o.getD s.i.toNat<|Ty.dflt B6;.br (an<|s.i<s.n) (.ik s.i (M s.o)<|.req (M a.1<=100000000)<|.ik s.i (M s.o)<|.rl s.b2<|.rl s.b3<|.rl s.b4<|.rl s.b5<|.rl s.b6<|.rl s.b7<|.rl s.b8<|.rl s.Uy<|.rl s.mN<|.rl s.mM<|.rl s.mL<|.rl s.b15<|.rl s.b16<|.re (M s.o) (s.o.set s.i.toNat a)<|.rl s.b6<|.rl s.b7<|.rl s.b8<|.nx {s with i:=AA<|s.i+1,o:=s.o.set s.i.toNat a})<|.rl s.b2<|.rl s.b3<|.rl s.b4<|.rl s.b5<|.rl s.b6<|.rl s.b7<|.rl s.b8<|.rl s.Uy<|.rl s.mN<|.rl s.mM<|.rl s.mL<|.rl s.b15<|.rl s.b16<|.rl s.o<|.rl s.b6<|.rl s.b7<|.rl s.b8<|.so (.exit 0) s
def iQ (s:Nj):Prop:=s.i=0/\s.n=(M s.o:Int)/\s.n<=1000/\∀m∈s.o,M m.1<=1000
def iV (s:Nj):Prop:=0<=s.i/\s.i<=s.n/\s.n=(M s.o:Int)/\s.n<=1000/\∀m∈s.o,M m.1<=1000
def sY (s:Nj):Nat:=(s.n-s.i).toNat
def ac4 (x:Ex) (s s':Nj):Prop:=True
def aju:∀s,iQ s->iV s:=by
 exact aMY
theorem ayl:Da iV sY ac4 vR:=by
 intro s hI;obtain ⟨h0,h1,h2,h3,h4⟩:=hI;refine AH (λc1=>?_) λc1=>trivial
 ·have c1:s.i<s.n:=A8
  have e:=set_self (l:=s.o) (i:=s.i.toNat) (d:=Ty.dflt B6) A0
  rw [AJ (x:=s.i+1),e];exact ⟨⟨A8,A8,h2,h3,h4⟩,by simp only [sY];omega⟩
def UK:AS Nj:=⟨9,82,[1,2,44,45],[],λs=>[.own 9 0,.own 10 0,s.n,s.i],λs=>[zB,⟨[s.qW,s.b11,s.b12,s.b13,s.b14,(0:Int),U,.v<|.slice aj 0 0,(512:Int),.xl (.int aw) s.b19,.os 2 2 0<|M s.b2,(1:Int),.os 3 4 0<|M s.b3,.os 4 5 0<|M s.b4,.os 5 3 0<|M s.b5,.os 6 3 0<|M s.b6,.os 7 4 0<|M s.b7,.v<|.slice aj 0 0,.xl A7 s.aCh,.os 8 1 0<|M s.b8],47,.cl,X⟩,bV 127 Am s.b2,bV 90 B3 s.b3,bV 55 AP s.b4,bV 107 B6 s.b5,bV 93 BO s.b6,bV 57 As s.b7,bV 3 A7 s.b8,⟨[.os 11 11 0<|M s.Uy,s.p1,s.p2,s.p3,s.p4,(0:Int),U,.os 12 5 0<|M s.mN,(512:Int),.os 13 1 0<|M s.mM,.os 14 2 0<|M s.mL,(1:Int),.os 15 4 0<|M s.b15,.os 16 5 0<|M s.b16,.os 17 3 0<|M s.o,.os 6 3 0<|M s.b6,.os 7 4 0<|M s.b7,.v<|.slice aj 0 0,.xl A7 s.T1,.os 8 1 0<|M s.b8],47,.cl,X⟩,zB,bV 67 Ad s.Uy,bV 101 AP s.mN,bV 5 (.int aw) s.mM,bV 127 Am s.mL,bV 90 B3 s.b15,bV 55 AP s.b16,bV 107 B6 s.o],λv b=>⟨AK v 2,AK v 3,AF Ad b 1 0,AF .str b 1 1,AF Ah b 1 2,AF Af b 1 3,AF Ai b 1 4,AF (.int aw) b 1 9,AF A7 b 1 18,Ab Am b 2,Ab B3 b 3,Ab AP b 4,Ab B6 b 5,Ab BO b 6,Ab As b 7,Ab A7 b 8,AF .str b 9 1,AF Ah b 9 2,AF Af b 9 3,AF Ai b 9 4,AF A7 b 9 18,Ab Ad b 11,Ab AP b 12,Ab (.int aw) b 13,Ab Am b 14,Ab B3 b 15,Ab AP b 16,Ab B6 b 17⟩,vR,λs r=> {s with i:=r.i,o:=r.o},λs=>s,λ_ s=>s,[.exit 0],iQ,iV,sY⟩
abbrev dZ:=UK.run
abbrev atI:=UK.At
def uP:List Bd:=[Om,gK,eG,uz,WI,aTm]
def azH:Aw:=kI uP<|la 11 func34 TB<|la 6 func34 QG<|la 3 func62 Od<|la 2 func33 NM<|la 1 func32 MP<|la 2 func41 L7<|la 9 func23 Cn<|l0 uP
def awe:Rq iV vR:=by
 intro s hI;refine ⟨λc1=>⟨?_,?_,?_,?_,?_,A9,A9,A9,A9,A9,A9,A9,A9,A9,A9,A9,A9,A9,?_,A9,A9,A9,ak⟩,λc1=>⟨A9,A9,A9,A9,A9,A9,A9,A9,A9,A9,A9,A9,A9,A9,A9,A9,A9,ak⟩⟩
 all_goals ((obtain ⟨h0,h1,h2,h3,h4⟩:=hI;(try simp only [Aa] at c1);first|omega|exact ⟨rfl,AI⟩ |exact ⟨rfl,rfl⟩ |exact HU (h4 _<|getD_mem A0) Ae))
def aPu:UK.Ok:={}
def aOa:UK.Pf (ac4):=⟨aju,λs h=>rfl,ayl,awe⟩
def aG8:=s2 (b:=bN f23 0) aPu aOa uP azH
theorem aqc:Rs iQ atI dZ (λs:Nj=>s.o) (λx s' (v:List Mi)=>x=.exit 0/\s'.o=v):=DN aPu aOa (λs hI=>by
  obtain ⟨h0,h1,h2,h3,h4⟩:=hI;refine AH (λc1=>?_) λc1=>⟨rfl,rfl⟩
  have c1:s.i<s.n:=A8
  have e:=set_self (l:=s.o) (i:=s.i.toNat) (d:=Ty.dflt B6) A0
  rw [e];exact rfl)
def aSM:List LV->T LV
 | .agg a::r=>s5 a λcs os ks gs bs=>(match r with
  | [.xl (.int J) dr]=> .req (M dr<=1000) (.ok<|.AM [newP cs os ks gs bs dr,DF cs os ks gs bs dr])
  |_=> .no)
 |_=> .no
def Fw {α:Type}(d:α) (l:List α):List α:=BC (AQ l)<|aq (M l:Int).toNat d
def aRi {α:Type}(d:α) (l:List α):Fw d l=l:=by
 unfold Fw;rw [Fa];exact QF
def cpX {α:Type}(d:α) (l:List α):List α:=BC l<|aq (M l:Int).toNat d
def ahv {α:Type}(d:α) (l:List α):cpX d l=l:=QF
def cpN {α:Type}(d:α):List α:=BC []<|aq (0:Int).toNat d
def ahw {α:Type}(d:α):cpN d=[]:=rfl
def EK {α:Type}(gs:List Ch) (d:α):List α:=aq (M gs:Int).toNat d
theorem pG {α:Type}(gs:List Ch) (d:α):EK gs d=aq (M gs) d:=by
 unfold EK
 grind
def zNV (e:Int):LV:=.AM [.agg [.xl Ad ([]:List Cd),.xl .str ([]:List ByteArray),.xl Ah ([]:List Ko),.xl Af ([]:List Ch),.xl Ai ([]:List Ba),.v<|Y J 0,.v<|.bool X,.xl AP ([]:List Le),.v<|Y J 0,.xl (.int aw) ([]:List Int),.xl Am ([]:List Ra),.v<|Y J 0,.xl B3 ([]:List St),.xl AP ([]:List Le),.xl B6 ([]:List Mi),.xl BO ([]:List Me),.xl As ([]:List Dm),.xl BJ ([]:List Lk),.xl A7 ([]:List Int),.xl A7 ([]:List Int)],.v<|Y J e]
def mO:Cd:=(ByteArray.empty,((0:Int),((0:Int),((0:Int),(((0:Int),(0:Int)),((0:Int),((0:Int),((0:Int),((0:Int),(0:Int))))))))))
def JZ:Le:=((0:Int),((0:Int),((0:Int),((0:Int),(0:Int)))))
def NY:Ra:=((0:Int),(0:Int))
def aTl:St:=((0:Int),((0:Int),((0:Int),X)))
def aKS:Me:=((0:Int),((0:Int),X))
def aKU:Dm:=(X,((0:Int),((0:Int),(0:Int))))
def KK:Mi:=(([]:List Int),((0:Int),(0:Int)))
def PT:Int:=(0:Int)
def aKT:Lk:=((0:Int),((0:Int),((0:Int),((0:Int),((0:Int),(0:Int))))))
def Pz (cs:List Cd) (os:List ByteArray) (ks:List Ko) (gs:List Ch) (bs:List Ba) (dr:List Int):PL:=(⟨dr,0,dr,(M dr:Int),0,cs,os,ks,gs,bs⟩:PL)
def MC (cs:List Cd) (os:List ByteArray) (ks:List Ko) (gs:List Ch) (bs:List Ba) (dr:List Int):PJ:=(⟨(WK<|Pz cs os ks gs bs dr).e,(M gs:Int),0,cs,os,ks,gs,bs,cs,os,ks,gs,bs,Ew,dr,EK gs NY,([]:List St),EK gs JZ,EK gs KK,([]:List Me),([]:List Dm)⟩:PJ)
def VU (cs:List Cd) (os:List ByteArray) (ks:List Ko) (gs:List Ch) (bs:List Ba) (dr:List Int):PI:=letI a:=NA<|MC cs os ks gs bs dr;(⟨(WK<|Pz cs os ks gs bs dr).e,cs,(M cs:Int),0,cs,os,ks,gs,bs,Ew,dr,EK gs NY,a.st,EK gs JZ,EK gs KK,a.me,a.dm,([]:List Int)⟩:PI)
def nO (cs:List Cd) (os:List ByteArray) (ks:List Ko) (gs:List Ch) (bs:List Ba) (dr:List Int):Nj:=letI a:=NA<|MC cs os ks gs bs dr;(⟨((((M (EK gs KK):Nat):Int).toNat:Nat):Int),0,cs,os,ks,gs,bs,Ew,dr,EK gs NY,a.st,EK gs JZ,EK gs KK,a.me,a.dm,(bT<|VU cs os ks gs bs dr).tg,os,ks,gs,bs,dr,cpX mO cs,cpN JZ,cpX PT Ew,Fw NY<|EK gs NY,Fw aTl a.st,Fw JZ<|EK gs JZ,Fw KK<|EK gs KK⟩:Nj)
def uO:List Bd:=[Om,gK,eG,uz,WI]
def azG:Aw:=kI uO<|la 9 func23 aG8<|la 11 func34 TB<|la 6 func34 QG<|la 3 func62 Od<|la 2 func33 NM<|la 1 func32 MP<|la 2 func41 L7<|la 9 func23 Cn<|l0 uO
def vi:=vm (S:=aSM) func10 uO azG (L:=(λi=>if i=4 then RH.lp else if i=17 then RG.lp else if i=24 then RE.lp else Ak i)) (λb hb=>by
 rw [show BB _=[aEo,aEn,aEm] by kernel_rfl] at hb
 simp only [B7,Bu,Bt] at hb;rcases hb with rfl|rfl|rfl
 ·exact apX
 ·exact apW
 ·exact apV) (λargs lv h=>by
 unfold aSM at h;split at h
 case h_2=>cases h
 replace h:=IC h
 obtain ⟨cs,os,ks,gs,bs,rfl,h⟩:=h;split at h
 ·rename_i dr
  refine Ap (letI a:=NA<|MC cs os ks gs bs dr;letI b:=bT<|VU cs os ks gs bs dr;letI d:=EK gs NY;letI f:=EK gs JZ;letI g:=(M gs:Int);letI j:=((M a.me:Nat):Int);letI l:=((M a.dm:Nat):Int);letI n:=((M b.tg:Nat):Int);letI p:=EK gs KK;letI r:=(M dr:Int);letI s:=((M a.st:Nat):Int);letI t:=((M d:Nat):Int);letI u:=((M f:Nat):Int);letI v:=((M p:Nat):Int);letI w:=Pz cs os ks gs bs dr;letI y:=nO cs os ks gs bs dr;letI z:=(M cs:Int);letI A:=(M Ew:Int);letI B:=(M ([]:List Le));letI C:=Fw aTl a.st;.br ((!(BA cs os ks gs bs)) ||(r !=g)) (.ok<|zNV 1)<|.req (RH.q w)<|.br (Bj (dH w)<|.ret) (.ok<|.AM [.agg [.xl Ad ([]:List Cd),.xl .str ([]:List ByteArray),.xl Ah ([]:List Ko),.xl Af ([]:List Ch),.xl Ai ([]:List Ba),(0:Int),X,.xl AP ([]:List Le),(0:Int),.xl (.int aw) ([]:List Int),.xl Am ([]:List Ra),(0:Int),.xl B3 ([]:List St),.xl AP ([]:List Le),.xl B6 ([]:List Mi),.xl BO ([]:List Me),.xl As ([]:List Dm),.xl BJ ([]:List Lk),.xl A7 ([]:List Int),.xl A7 ([]:List Int)],(WK w).e])<|.req (BA cs os ks gs bs=U)<|.br (!E0 cs gs (Bp gs)) (.ok<|zNV 13)<|.br ((0:Int) !=0) (.ok<|zNV 0)<|.rm 16 g<|.rm 40 g<|.rm 40 g<|.re g.toNat d<|.r0 St<|.re g.toNat f<|.re g.toNat p<|.r0 Me<|.r0 Dm<|.req (RG.q<|MC cs os ks gs bs dr)<|.rl d<|.rl a.st<|.rl f<|.rl p<|.rl a.me<|.rl a.dm<|.r0 Int<|.req (RE.q<|VU cs os ks gs bs dr)<|.rm 96 z<|.rc z (ByteArray.empty,((0:Int),((0:Int),((0:Int),(((0:Int),(0:Int)),((0:Int),((0:Int),((0:Int),((0:Int),(0:Int)))))))))) (M cs)<|.rm 40 (0:Int)<|.rc (0:Int) ((0:Int),((0:Int),((0:Int),((0:Int),(0:Int))))) B<|.rm 1 A<|.rc A (0:Int) (M Ew)<|.rm 16 t<|.rz d<|.rc t ((0:Int),(0:Int)) (M<|AQ d)<|.rm 32 s<|.rz a.st<|.rc s ((0:Int),((0:Int),((0:Int),X))) (M<|AQ a.st)<|.rm 40 u<|.rz f<|.rc u ((0:Int),((0:Int),((0:Int),((0:Int),(0:Int))))) (M<|AQ f)<|.rm 40 v<|.rz p<|.rc v (([]:List Int),((0:Int),(0:Int))) (M<|AQ p)<|.rl d<|.rl a.st<|.rl f<|.rl p<|.rl a.me<|.rl a.dm<|.rl b.tg<|.re z.toNat (cpX mO cs)<|.re (0:Int).toNat (cpN JZ)<|.re A.toNat (cpX PT Ew)<|.re t.toNat (Fw NY d)<|.re s.toNat C<|.re u.toNat (Fw JZ f)<|.re v.toNat (Fw KK p)<|.rl a.me<|.rl a.dm<|.rl b.tg<|.req (UK.q y)<|.rm 24 j<|.rz a.me<|.rc j ((0:Int),((0:Int),X)) (M<|AQ a.me)<|.rm 32 l<|.rz a.dm<|.rc l (X,((0:Int),((0:Int),(0:Int)))) (M<|AQ a.dm)<|.rm 48 (0:Int)<|.rc (0:Int) ((0:Int),((0:Int),((0:Int),((0:Int),((0:Int),(0:Int)))))) B<|.rm 8 r<|.rc r (0:Int) (M dr)<|.rm 8 n<|.rz b.tg<|.rc n (0:Int) (M<|AQ b.tg)<|.rz (cpX mO cs)<|.rz (cpN JZ)<|.rz (cpX PT Ew)<|.rz (Fw NY d)<|.rz C<|.rz (Fw JZ f)<|.rz (dZ y).o<|.req (0+j.toNat<=M (Fw aKS a.me))<|.req (0+l.toNat<=M (Fw aKU a.dm))<|.req (0+(0:Int).toNat<=M (cpN aKT))<|.req (0+r.toNat<=M (cpX PT dr))<|.req (0+n.toNat<=M (Fw PT b.tg))<|.ok<|.AM [.agg [(AQ<|cpX mO cs),os,ks,gs,bs,(0:Int),U,(AQ<|cpN JZ),(512:Int),.xl (.int aw)<|AQ<|cpX PT Ew,(AQ<|Fw NY d),(1:Int),(AQ C),(AQ<|Fw JZ f),(AQ (dZ y).o),(((Fw aKS a.me).drop 0).take j.toNat),(((Fw aKU a.dm).drop 0).take l.toNat),(((cpN aKT).drop 0).take (0:Int).toNat),.xl A7<|((cpX PT dr).drop 0).take r.toNat,.xl A7<|((Fw PT b.tg).drop 0).take n.toNat],(0:Int)]) ?_;obtain ⟨hn,rfl⟩:=h
  have A1:iT (Pz cs os ks gs bs dr):=⟨⟨rfl,rfl⟩,by show (M dr:Int)<=1000;omega,rfl⟩
  obtain ⟨_,_,q1⟩:=aqf _ A1
  have q1:(dH (Pz cs os ks gs bs dr)=.exit 0/\(WK<|Pz cs os ks gs bs dr).e=0/\dr.all (λx=>inB x (-200) 200)=U)\/(dH (Pz cs os ks gs bs dr)=.ret/\(WK<|Pz cs os ks gs bs dr).e=1/\dr.all (λx=>inB x (-200) 200)=X):=q1
  have bad:∀ {e:Int},DF cs os ks gs bs dr=e->e≠0->newP cs os ks gs bs dr=PK0:=λh1 h2=>AD (by rw [h1];exact h2)
  have hb:((!BA cs os ks gs bs) ||((M dr:Int) !=(M gs:Int)))=U↔(BA cs os ks gs bs=X\/M dr≠M gs):=by simp [Int.natCast_inj]
  refine ⟨λc=>?_,λc=>⟨⟨A1,rfl,rfl⟩,λc2=>?_,λc2=>?_⟩⟩
  ·have he:DF cs os ks gs bs dr=1:=AD (hb.1 c)
   show zNV 1=_
   exact xm
  all_goals have hc:¬(BA cs os ks gs bs=X\/M dr≠M gs):=λh=>(by rw [hb.2 h] at c;cases c)
  ·rcases q1 with ⟨x1,_⟩ |⟨x1,x2,x3⟩
   ·rw [x1] at c2
    cases c2
   ·have he:DF cs os ks gs bs dr=1:=(AE hc).trans (AD x3)
    rw [x2]
    show zNV 1=_
    exact xm
  rcases q1 with ⟨x1,x2,x3⟩ |⟨x1,x2,x3⟩
  rotate_left
  ·rw [x1] at c2
   cases c2
  have hs:BA cs os ks gs bs=true:=by
   cases e:BA cs os ks gs bs
   ·exact absurd (.inl e) hc
   ·rfl
  have hd:M dr=M gs:=ZE λh=>hc<|.inr h
  have hg:=D5.1 hs
  refine ⟨hs,λc3=>?_,λc3=>⟨λc4=>(by cases c4),λ_=>?_⟩⟩
  ·have he:DF cs os ks gs bs dr=13:=(AE hc).trans ((AE (by rw [x3];decide)).trans<|AD<|(DB _).mp c3)
   show zNV 13=_
   exact xm
  have he:DF cs os ks gs bs dr=0:=(AE hc).trans<|(AE (by rw [x3];decide)).trans<|AE (by rw [(I8 _).mp c3];decide)
  have hp:newP cs os ks gs bs dr=_:=AE M9
  have A2:iS (MC cs os ks gs bs dr):=⟨rfl,⟨aMz,SR _⟩,rfl,rfl,rfl⟩
  obtain ⟨_,_,_,y1,y2,y3⟩:=aqe _ A2
  have y1:(NA<|MC cs os ks gs bs dr).st=aq (M gs) (0,0,0,X):=y1
  have y2:(NA<|MC cs os ks gs bs dr).me=(Fk<|M gs).map (λk=>(k+1,0,X)):=y2
  have y3:(NA<|MC cs os ks gs bs dr).dm=aq (M gs) (X,0,0,9):=y3
  have A3:iR (VU cs os ks gs bs dr):=⟨rfl,⟨rfl,aN0⟩,rfl⟩
  obtain ⟨_,_,_,y4⟩:=aqd _ A3
  have y4:(bT<|VU cs os ks gs bs dr).tg=cs.map (λc=>c.2.2.1):=y4
  have hj:M Ew=2048:=rfl
  have l1:M (EK gs NY)=M gs:=yi
  have l2:M (EK gs JZ)=M gs:=yi
  have l3:M (EK gs KK)=M gs:=yi
  have l4:M (NA<|MC cs os ks gs bs dr).st=M gs:=by rw [y1,Cf]
  have l5:M (NA<|MC cs os ks gs bs dr).me=M gs:=by rw [y2,Fz,Ob]
  have l6:M (NA<|MC cs os ks gs bs dr).dm=M gs:=by rw [y3,Cf]
  have l7:M (bT<|VU cs os ks gs bs dr).tg=M cs:=by rw [y4,Fz]
  have ho:(nO cs os ks gs bs dr).o=EK gs KK:=aRi _ _
  have A4:iQ (nO cs os ks gs bs dr):=⟨rfl,by rw [ho];show ((((M (EK gs KK):Nat):Int).toNat:Nat):Int)=_;rw [Bx],by show ((((M (EK gs KK):Nat):Int).toNat:Nat):Int)<=1000;rw [Bx,l3];omega,by
   rw [ho,pG];intro m hm;rw [(SQ.1 hm).2]
   decide⟩
  have y5:(dZ<|nO cs os ks gs bs dr).o=EK gs KK:=(aqc _ A4).2.trans ho
  simp only [aRi,ahv,ahw,Fa,y5,l1,l2,l3]
  repeat (refine ⟨lE,?_⟩)
  refine ⟨⟨A2,rfl,rfl⟩,?_⟩
  repeat (refine ⟨lE,?_⟩)
  refine ⟨⟨A3,rfl,rfl⟩,?_⟩
  repeat (refine ⟨lE,?_⟩)
  refine ⟨⟨A4,rfl,rfl⟩,?_⟩
  repeat (refine ⟨lE,?_⟩)
  show _=_
  rw [hp,he,y1,y2,y3,y4];simp only [pG,Bx,CP,EY];rfl
 ·cases h)
def Cu:EV:=⟨1,0,0,(0,0,0,0,0),(X,0,0,0)⟩
def CR:Nat->PK->Int->PK×Int×Bool
 |0,p,l=>(p,l,U)
 |n+1,p,l=>if BP p Cu=0/\M (Ce p Cu)=M (BL p Cu).ca then CR n (BL p Cu) (if M (Ce p Cu)>0 then gi (Ce p Cu) 0 else l) else (p,l,X)
def aBV (a:QV×Int):Option (QV×Int):=
 if (EA a.1.p&&(!(a.1.p.tk==1000000)&&(a.1.tick.ok&&(M a.1.KL==M a.1.tick.p.ca&&an (M a.1.KL>0)))))=U then ah (a.1.tick,gi a.1.KL 0) else aj
def EB:Nat->QV×Int->Option (QV×Int)
 |0,a=>ah a
 |n+1,a=>(aBV a).bind<|EB n
def ap6 {m n:Nat}:∀ {a:QV×Int},EB (m+n) a=(EB m a).bind (EB n):=by
 induction m with
 |zero=>intro a;rw [EZ];rfl
 |succ m ih=>
  intro a;rw [Nat.succ_add];simp only [EB];cases aBV a with
  |none=>rfl
  |some b=>exact ih
def MN {m n:Nat}{a b c:QV×Int}(h1:EB m a=ah b) (h2:EB n b=ah c):EB (m+n) a=ah c:=by rw [ap6,h1];exact h2
def pz {p:PK}{q:QV}(h:RP p q):EA q.p=EA p:=by rw [h.1];rfl
theorem oY {n:Nat}:∀ {p:PK}{q:QV}{l:Int}{b:QV×Int},RP p q->EB n (q,l)=ah b->∃p',CR n p l=(p',b.2,U)/\RP p' b.1:=by
 induction n with
 |zero=>
  intro p q l b h hq;simp only [EB,Ag] at hq;subst hq;exact ⟨p,rfl,h⟩
 | succ n ih=>
  intro p q l b h hq;simp only [EB] at hq;unfold aBV at hq;split at hq
  ·rename_i hc
   simp only [AY,DJ,DB,CU,Aa] at hc;obtain ⟨c1,c2,c3,c4,c5⟩:=hc;obtain ⟨h1,h2⟩:=agE h c3
   have ek:q.p.tk=p.tk:=by rw [h.1]
   have e1:BP p Cu=0:=by
    unfold BP;rw [<-pz h,c1,AE Ae,AD (show Cu.ek=1 from rfl)];unfold PK.Iz;omega
   have e2:BL p Cu=p.CZ:=xy
   have e3:Ce p Cu=p.KL:=aOA
   have e4:M q.tick.p.ca=M p.CZ.ca:=by rw [h1.1]
   obtain ⟨p',k1,k2⟩:=ih h1 hq;refine ⟨p',?_,k2⟩;simp only [CR]
   grind
  ·cases hq
def bC (n:Int):List Cd:=[(av #[102],-1,n,32,(0,0),0,0,0,0,0)]
def bG:List Ch:=[(av #[112],0,1,6,32,1,6,0)]
def bO:List ByteArray:=[av #[111]]
def bA:Ca:=(0,1,20,1000000000,0)
def bD:Dm:=(U,0,500,1)
def bQ (tk:Int) (up:Bool) (ls:List Le) (ra:List Ra) (nx:Int) (st:List St) (ca:List Ca) (mi:List Mi) (me:List Me) (dm:List Dm) (lk:List Lk) (vl:List Le):QV:=
 ⟨⟨bC 32,bO,[],bG,[],tk,up,ls,0,[],ra,nx,st,ca,mi,me,dm,lk,[0],[32]⟩,vl,U⟩
def hqa:QV:=bQ 0 U [] [(0,0)] 1 [(0,0,0,X)] [(0,0,0,0,0)] [([],0,0)] [(1,0,X)] [(X,0,0,9)] [] []
def hqb:QV:=bQ 1 U [] [(0,1)] 1 [(0,0,0,X)] [(0,0,0,0,0)] [([],0,0)] [(1,0,X)] [(X,0,0,9)] [] []
def ain:EB 1 (hqa,0)=ah (hqb,0):=AT
def hqc:QV:=bQ 1 U [] [(0,1)] 1 [(4,0,0,X)] [(0,1,20,1000000000,0)] [([],0,0)] [(1,0,X)] [(U,0,500,1)] [] []
def hqd:QV:=bQ 2 U [] [(0,2)] 1 [(4,0,0,X)] [(0,1,20,1000000000,0)] [([6],1,13800)] [(1,13800,X)] [(U,0,500,1)] [] []
def aim:EB 1 (hqc,0)=ah (hqd,6):=AT
def aKM:QV:=bQ 8 U [(1,0,7,6,12),(2,0,8,7,12)] [(8,2)] 3 [(4,0,0,X)] [(0,1,20,1000000000,0)] [([6,6,6,6,6,6,6],7,96600)] [(1,96600,X)] [(U,0,500,1)] [(8,(1,0,7,6,12)),(11,(2,0,8,7,12))] [(1,0,7,6,12),(2,0,8,7,12)]
def avR:EB 6 (hqd,0)=ah (aKM,6):=AT
def aKL:QV:=bQ 14 U [(1,0,7,6,12),(2,0,8,7,12),(3,0,9,8,12),(4,0,10,9,12),(5,0,11,10,12),(6,0,12,11,12),(7,0,13,12,12),(8,0,14,13,12)] [(14,8)] 9 [(4,12,11,X)] [(0,1,20,1000000000,0)] [([6,6,6,6,6,6,6,7,9,11,8,10,12],13,227700)] [(1,227700,X)] [(U,0,500,1)] [(16,(7,0,13,12,12)),(14,(8,0,14,13,12))] [(1,0,7,6,12),(2,0,8,7,12),(3,0,9,8,12),(4,0,10,9,12),(5,0,11,10,12),(6,0,12,11,12),(7,0,13,12,12),(8,0,14,13,12)]
def avQ:EB 6 (aKM,6)=ah (aKL,12):=AT
def aKK:QV:=bQ 20 U [(1,0,7,6,12),(2,0,8,7,12),(3,0,9,8,12),(4,0,10,9,12),(5,0,11,10,12),(6,0,12,11,12),(7,0,13,12,12),(8,0,14,13,12),(9,0,15,14,12),(10,0,16,15,12),(11,0,17,16,12),(12,0,18,17,12),(13,0,19,18,12),(14,0,20,19,12)] [(20,14)] 15 [(4,19,11,X)] [(0,1,20,1000000000,0)] [([6,6,6,6,6,6,6,7,9,11,8,10,12,14,16,13,15,17,19],19,443900)] [(1,443900,X)] [(U,0,500,1)] [(21,(12,0,18,17,12)),(22,(14,0,20,19,12))] [(1,0,7,6,12),(2,0,8,7,12),(3,0,9,8,12),(4,0,10,9,12),(5,0,11,10,12),(6,0,12,11,12),(7,0,13,12,12),(8,0,14,13,12),(9,0,15,14,12),(10,0,16,15,12),(11,0,17,16,12),(12,0,18,17,12),(13,0,19,18,12),(14,0,20,19,12)]
def aw3:EB 6 (aKL,12)=ah (aKK,19):=AT
def aKJ:QV:=bQ 26 U [(1,0,7,6,12),(2,0,8,7,12),(3,0,9,8,12),(4,0,10,9,12),(5,0,11,10,12),(6,0,12,11,12),(7,0,13,12,12),(8,0,14,13,12),(9,0,15,14,12),(10,0,16,15,12),(11,0,17,16,12),(12,0,18,17,12),(13,0,19,18,12),(14,0,20,19,12),(15,0,21,20,12),(16,0,22,21,12),(17,0,23,22,12),(18,0,24,23,12),(19,0,25,24,12),(20,0,26,25,12)] [(26,20)] 21 [(4,26,11,X)] [(0,1,20,1000000000,0)] [([6,6,6,7,9,11,8,10,12,14,16,13,15,17,19,21,18,20,22,24,26],25,715300)] [(1,715300,X)] [(U,0,500,1)] [(26,(17,0,23,22,12)),(27,(19,0,25,24,12))] [(1,0,7,6,12),(2,0,8,7,12),(3,0,9,8,12),(4,0,10,9,12),(5,0,11,10,12),(6,0,12,11,12),(7,0,13,12,12),(8,0,14,13,12),(9,0,15,14,12),(10,0,16,15,12),(11,0,17,16,12),(12,0,18,17,12),(13,0,19,18,12),(14,0,20,19,12),(15,0,21,20,12),(16,0,22,21,12),(17,0,23,22,12),(18,0,24,23,12),(19,0,25,24,12),(20,0,26,25,12)]
def aw2:EB 6 (aKK,19)=ah (aKJ,20):=AT
def aKI:QV:=bQ 32 U [(4,0,10,9,12),(5,0,11,10,12),(6,0,12,11,12),(7,0,13,12,12),(8,0,14,13,12),(9,0,15,14,12),(10,0,16,15,12),(11,0,17,16,12),(12,0,18,17,12),(13,0,19,18,12),(14,0,20,19,12),(15,0,21,20,12),(16,0,22,21,12),(17,0,23,22,12),(18,0,24,23,12),(19,0,25,24,12),(20,0,26,25,12),(21,0,27,26,12),(22,0,28,27,12),(23,0,29,28,12),(24,0,30,29,12),(25,0,31,30,12),(26,0,32,31,12)] [(32,26)] 27 [(4,28,11,X)] [(0,1,20,1000000000,0)] [([8,10,12,14,16,13,15,17,19,21,18,20,22,24,26,23,25,27,29,31,28],31,991300)] [(1,991300,X)] [(U,0,500,1)] [(32,(24,0,30,29,12)),(33,(26,0,32,31,12))] [(1,0,7,6,12),(2,0,8,7,12),(3,0,9,8,12),(4,0,10,9,12),(5,0,11,10,12),(6,0,12,11,12),(7,0,13,12,12),(8,0,14,13,12),(9,0,15,14,12),(10,0,16,15,12),(11,0,17,16,12),(12,0,18,17,12),(13,0,19,18,12),(14,0,20,19,12),(15,0,21,20,12),(16,0,22,21,12),(17,0,23,22,12),(18,0,24,23,12),(19,0,25,24,12),(20,0,26,25,12),(21,0,27,26,12),(22,0,28,27,12),(23,0,29,28,12),(24,0,30,29,12),(25,0,31,30,12),(26,0,32,31,12)]
def aw1:EB 6 (aKJ,20)=ah (aKI,20):=AT
def aKH:QV:=bQ 38 U [(10,0,16,15,12),(11,0,17,16,12),(12,0,18,17,12),(13,0,19,18,12),(14,0,20,19,12),(15,0,21,20,12),(16,0,22,21,12),(17,0,23,22,12),(18,0,24,23,12),(19,0,25,24,12),(20,0,26,25,12),(21,0,27,26,12),(22,0,28,27,12),(23,0,29,28,12),(24,0,30,29,12),(25,0,31,30,12),(26,0,32,31,12),(27,0,32,37,12)] [(32,32)] 28 [(4,32,7,X)] [(0,1,20,1000000000,0)] [([15,17,19,21,18,20,22,24,26,23,25,27,29,31,28,30,32,32,32,32,32],37,1267300)] [(1,1267300,X)] [(U,0,500,1)] [(41,(27,0,32,37,12))] [(1,0,7,6,12),(2,0,8,7,12),(3,0,9,8,12),(4,0,10,9,12),(5,0,11,10,12),(6,0,12,11,12),(7,0,13,12,12),(8,0,14,13,12),(9,0,15,14,12),(10,0,16,15,12),(11,0,17,16,12),(12,0,18,17,12),(13,0,19,18,12),(14,0,20,19,12),(15,0,21,20,12),(16,0,22,21,12),(17,0,23,22,12),(18,0,24,23,12),(19,0,25,24,12),(20,0,26,25,12),(21,0,27,26,12),(22,0,28,27,12),(23,0,29,28,12),(24,0,30,29,12),(25,0,31,30,12),(26,0,32,31,12),(27,0,32,37,12)]
def aw0:EB 6 (aKI,20)=ah (aKH,20):=AT
def aKG:QV:=bQ 44 U [(16,0,22,21,12),(17,0,23,22,12),(18,0,24,23,12),(19,0,25,24,12),(20,0,26,25,12),(21,0,27,26,12),(22,0,28,27,12),(23,0,29,28,12),(24,0,30,29,12),(25,0,31,30,12),(26,0,32,31,12),(27,0,32,37,12),(28,0,32,43,12)] [(32,38)] 29 [(4,32,9,X)] [(0,1,20,1000000000,0)] [([22,24,26,23,25,27,29,31,28,30,32,32,32,32,32,32,32,32,32,32,32],43,1543300)] [(1,1543300,X)] [(U,0,500,1)] [(44,(28,0,32,43,12))] [(1,0,7,6,12),(2,0,8,7,12),(3,0,9,8,12),(4,0,10,9,12),(5,0,11,10,12),(6,0,12,11,12),(7,0,13,12,12),(8,0,14,13,12),(9,0,15,14,12),(10,0,16,15,12),(11,0,17,16,12),(12,0,18,17,12),(13,0,19,18,12),(14,0,20,19,12),(15,0,21,20,12),(16,0,22,21,12),(17,0,23,22,12),(18,0,24,23,12),(19,0,25,24,12),(20,0,26,25,12),(21,0,27,26,12),(22,0,28,27,12),(23,0,29,28,12),(24,0,30,29,12),(25,0,31,30,12),(26,0,32,31,12),(27,0,32,37,12),(28,0,32,43,12)]
def avz:EB 6 (aKH,20)=ah (aKG,20):=AT
def aKF:QV:=bQ 50 U [(22,0,28,27,12),(23,0,29,28,12),(24,0,30,29,12),(25,0,31,30,12),(26,0,32,31,12),(27,0,32,37,12),(28,0,32,43,12),(29,0,32,49,12)] [(32,44)] 30 [(4,32,6,X)] [(0,1,20,1000000000,0)] [([29,31,28,30,32,32,32,32,32,32,32,32,32,32,32,32,32,32,32,32,32],49,1819300)] [(1,1819300,X)] [(U,0,500,1)] [(52,(29,0,32,49,12))] [(1,0,7,6,12),(2,0,8,7,12),(3,0,9,8,12),(4,0,10,9,12),(5,0,11,10,12),(6,0,12,11,12),(7,0,13,12,12),(8,0,14,13,12),(9,0,15,14,12),(10,0,16,15,12),(11,0,17,16,12),(12,0,18,17,12),(13,0,19,18,12),(14,0,20,19,12),(15,0,21,20,12),(16,0,22,21,12),(17,0,23,22,12),(18,0,24,23,12),(19,0,25,24,12),(20,0,26,25,12),(21,0,27,26,12),(22,0,28,27,12),(23,0,29,28,12),(24,0,30,29,12),(25,0,31,30,12),(26,0,32,31,12),(27,0,32,37,12),(28,0,32,43,12),(29,0,32,49,12)]
def avy:EB 6 (aKG,20)=ah (aKF,20):=AT
def aKE:QV:=bQ 56 U [(27,0,32,37,12),(28,0,32,43,12),(29,0,32,49,12),(30,0,32,55,12)] [(32,50)] 31 [(4,32,11,X)] [(0,1,20,1000000000,0)] [([32,32,32,32,32,32,32,32,32,32,32,32,32,32,32,32,32,32,32,32,32],55,2095300)] [(1,2095300,X)] [(U,0,500,1)] [] [(1,0,7,6,12),(2,0,8,7,12),(3,0,9,8,12),(4,0,10,9,12),(5,0,11,10,12),(6,0,12,11,12),(7,0,13,12,12),(8,0,14,13,12),(9,0,15,14,12),(10,0,16,15,12),(11,0,17,16,12),(12,0,18,17,12),(13,0,19,18,12),(14,0,20,19,12),(15,0,21,20,12),(16,0,22,21,12),(17,0,23,22,12),(18,0,24,23,12),(19,0,25,24,12),(20,0,26,25,12),(21,0,27,26,12),(22,0,28,27,12),(23,0,29,28,12),(24,0,30,29,12),(25,0,31,30,12),(26,0,32,31,12),(27,0,32,37,12),(28,0,32,43,12),(29,0,32,49,12),(30,0,32,55,12)]
def avx:EB 6 (aKF,20)=ah (aKE,20):=AT
def aBh:QV:=bQ 62 U [(28,0,32,43,12),(29,0,32,49,12),(30,0,32,55,12),(31,0,32,61,12)] [(32,56)] 32 [(4,32,5,X)] [(0,1,20,1000000000,0)] [([32,32,32,32,32,32,32,32,32,32,32,32,32,32,32,32,32,32,32,32,32],61,2371300)] [(1,2371300,X)] [(U,0,500,1)] [(63,(31,0,32,61,12))] [(1,0,7,6,12),(2,0,8,7,12),(3,0,9,8,12),(4,0,10,9,12),(5,0,11,10,12),(6,0,12,11,12),(7,0,13,12,12),(8,0,14,13,12),(9,0,15,14,12),(10,0,16,15,12),(11,0,17,16,12),(12,0,18,17,12),(13,0,19,18,12),(14,0,20,19,12),(15,0,21,20,12),(16,0,22,21,12),(17,0,23,22,12),(18,0,24,23,12),(19,0,25,24,12),(20,0,26,25,12),(21,0,27,26,12),(22,0,28,27,12),(23,0,29,28,12),(24,0,30,29,12),(25,0,31,30,12),(26,0,32,31,12),(27,0,32,37,12),(28,0,32,43,12),(29,0,32,49,12),(30,0,32,55,12),(31,0,32,61,12)]
def avw:EB 6 (aKE,20)=ah (aBh,20):=AT
def hqe:QV:=bQ 62 X [] [(32,56)] 32 [(4,32,5,X)] [(0,1,20,1000000000,0)] [([32,32,32,32,32,32,32,32,32,32,32,32,32,32,32,32,32,32,32,32,32],61,2371300)] [(1,2371300,X)] [(U,0,500,1)] [(63,(31,0,32,61,12))] [(1,0,7,6,12),(2,0,8,7,12),(3,0,9,8,12),(4,0,10,9,12),(5,0,11,10,12),(6,0,12,11,12),(7,0,13,12,12),(8,0,14,13,12),(9,0,15,14,12),(10,0,16,15,12),(11,0,17,16,12),(12,0,18,17,12),(13,0,19,18,12),(14,0,20,19,12),(15,0,21,20,12),(16,0,22,21,12),(17,0,23,22,12),(18,0,24,23,12),(19,0,25,24,12),(20,0,26,25,12),(21,0,27,26,12),(22,0,28,27,12),(23,0,29,28,12),(24,0,30,29,12),(25,0,31,30,12),(26,0,32,31,12),(27,0,32,37,12),(28,0,32,43,12),(29,0,32,49,12),(30,0,32,55,12),(31,0,32,61,12)]
def aKD:QV:=bQ 70 X [] [(32,56)] 32 [(4,32,5,X)] [(0,1,20,1000000000,0)] [([32,32,32,32,32,32,32,32,32,32,32,32,32,32,32,32,32,32,32,32,32],69,2739300)] [(1,2739300,X)] [(U,0,500,1)] [] [(1,0,7,6,12),(2,0,8,7,12),(3,0,9,8,12),(4,0,10,9,12),(5,0,11,10,12),(6,0,12,11,12),(7,0,13,12,12),(8,0,14,13,12),(9,0,15,14,12),(10,0,16,15,12),(11,0,17,16,12),(12,0,18,17,12),(13,0,19,18,12),(14,0,20,19,12),(15,0,21,20,12),(16,0,22,21,12),(17,0,23,22,12),(18,0,24,23,12),(19,0,25,24,12),(20,0,26,25,12),(21,0,27,26,12),(22,0,28,27,12),(23,0,29,28,12),(24,0,30,29,12),(25,0,31,30,12),(26,0,32,31,12),(27,0,32,37,12),(28,0,32,43,12),(29,0,32,49,12),(30,0,32,55,12),(31,0,32,61,12)]
def avv:EB 8 (hqe,0)=ah (aKD,20):=AT
def aKC:QV:=bQ 78 X [] [(32,56)] 32 [(4,0,0,X)] [(0,1,20,1000000000,0)] [([32,32,32,32,32,32,32,32,32,32,32,32,32,32,32,32,32,6,6,6,6],77,2978500)] [(1,2978500,X)] [(U,0,500,1)] [] [(1,0,7,6,12),(2,0,8,7,12),(3,0,9,8,12),(4,0,10,9,12),(5,0,11,10,12),(6,0,12,11,12),(7,0,13,12,12),(8,0,14,13,12),(9,0,15,14,12),(10,0,16,15,12),(11,0,17,16,12),(12,0,18,17,12),(13,0,19,18,12),(14,0,20,19,12),(15,0,21,20,12),(16,0,22,21,12),(17,0,23,22,12),(18,0,24,23,12),(19,0,25,24,12),(20,0,26,25,12),(21,0,27,26,12),(22,0,28,27,12),(23,0,29,28,12),(24,0,30,29,12),(25,0,31,30,12),(26,0,32,31,12),(27,0,32,37,12),(28,0,32,43,12),(29,0,32,49,12),(30,0,32,55,12),(31,0,32,61,12)]
def avu:EB 8 (aKD,20)=ah (aKC,6):=AT
def amu:QV:=bQ 86 X [] [(32,56)] 32 [(4,0,0,X)] [(0,1,20,1000000000,0)] [([32,32,32,32,32,32,32,32,32,6,6,6,6,6,6,6,6,6,6,6,6],85,3088900)] [(1,3088900,X)] [(U,0,500,1)] [] [(1,0,7,6,12),(2,0,8,7,12),(3,0,9,8,12),(4,0,10,9,12),(5,0,11,10,12),(6,0,12,11,12),(7,0,13,12,12),(8,0,14,13,12),(9,0,15,14,12),(10,0,16,15,12),(11,0,17,16,12),(12,0,18,17,12),(13,0,19,18,12),(14,0,20,19,12),(15,0,21,20,12),(16,0,22,21,12),(17,0,23,22,12),(18,0,24,23,12),(19,0,25,24,12),(20,0,26,25,12),(21,0,27,26,12),(22,0,28,27,12),(23,0,29,28,12),(24,0,30,29,12),(25,0,31,30,12),(26,0,32,31,12),(27,0,32,37,12),(28,0,32,43,12),(29,0,32,49,12),(30,0,32,55,12),(31,0,32,61,12)]
def avt:EB 8 (aKC,6)=ah (amu,6):=AT
def uc:JI Ew 0 0 ([]:List<|List Int) 1019 (aq 1024 255) where
 eq:=rfl
 la:=by rw [Oe];rfl
 lo:=Cf
 bo:=dO _
 hw:=.inl rfl
 hg:=Ae
 old:=λh=>absurd h Ae
 bd:=λd hd=>VN
def azC:RP (newP (bC 32) bO [] bG [] [0]) hqa:=by
 have e:DF (bC 32) bO [] bG [] [0]=0:=AT
 have e2:newP (bC 32) bO [] bG [] [0]={hqa.p with se:=512,fl:=Ew}:=by
  unfold newP;rw [e]
  kernel_rfl
 rw [e2];exact ⟨rfl,rfl,rfl,1019,_,uc,rfl⟩
def Kt:EV:=⟨2,0,0,bA,bD⟩
def evF:EV:=⟨5,0,0,(0,0,0,0,0),(X,0,0,0)⟩
def aqU {p:PK}{q:QV}(h:RP p q) (hv:EA q.p=U) (he:q.p.H0 0 bA bD=0):BP p Kt=0/\Ce p Kt=[]/\RP (BL p Kt) {q with p:=q.p.O1 0 bA bD}:=by
 have e1:BP p Kt=0:=by
  have:q.p.H0 0 bA bD=p.H0 0 bA bD:=by rw [h.1];rfl
  unfold BP;rw [<-pz h,hv,AE Ae,AE Ae,AD (show Kt.ek=2 from rfl)];exact this.symm.trans he
 refine ⟨e1,aOA,?_⟩
 have e2:BL p Kt=p.O1 0 bA bD:=xy
 rw [e2];exact ⟨aO4,h.2⟩
def at1 {p:PK}{q:QV}(h:RP p q) (hv:EA q.p=U) (he:q.p.up=U):BP p evF=0/\RP (BL p evF) {q with p:=q.p.P8}:=by
 have e1:BP p evF=0:=by
  have:q.p.up=p.up:=by rw [h.1]
  unfold BP;rw [<-pz h,hv,AE Ae,AE Ae,AE Ae,AE Ae,AE Ae,AD (show evF.ek=5 from rfl)];unfold PK.Mm;rw [<-this,he];rfl
 refine ⟨e1,?_⟩
 have e2:BL p evF=p.P8:=xy
 rw [e2];exact ⟨aO4,h.2⟩
def akO:∃p1 p3 p4 p6,CR 1 (newP (bC 32) bO [] bG [] [0]) 0=(p1,0,U)/\p1.tk=1/\BP p1 Kt=0/\Ce p1 Kt=[]/\CR 1 (BL p1 Kt) 0=(p3,6,U)/\
  CR 60 p3 0=(p4,20,U)/\BP p4 evF=0/\CR 24 (BL p4 evF) 0=(p6,6,U):=by
 obtain ⟨p1,a1,a2⟩:=oY azC ain;obtain ⟨a3,a4,a5⟩:=aqU a2 AT AT
 have hc:({hqb with p:=hqb.p.O1 0 bA bD}:QV)=hqc:=AT
 simp only [hc] at a5;obtain ⟨p3,b1,b2⟩:=oY a5 aim
 have t60:=MN (MN (MN (MN (MN (MN (MN (MN (MN avR avQ) aw3) aw2) aw1) aw0) avz) avy) avx) avw
 obtain ⟨p4,c1,c2⟩:=oY b2 t60;obtain ⟨c3,c4⟩:=at1 c2 AT AT
 have he:({aBh with p:=aBh.p.P8}:QV)=hqe:=AT
 simp only [he] at c4
 have t24:=MN (MN avv avu) avt
 obtain ⟨p6,d1,d2⟩:=oY c4 t24;exact ⟨p1,p3,p4,p6,a1,by have:=a2.1;have h:hqb.p.tk=1:=rfl;rw [this] at h;exact h,a3,a4,b1,c1,c3,d1⟩
def zu:DF (bC 32) bO [] bG [] [0]=0/\DF (bC 5) bO [] bG [] [0]=13:=⟨AT,AT⟩
structure D1 where
 c:Ca
 m:Mi
 e:Me
 (ph al:Int)
namespace D1
variable (d : D1)
def ok:Bool:=!(d.c.2.2.1==0)&&(JJ d.c d.m d.ph d.al==0)
def a:Int:=FP d.c d.m d.ph d.al
def o:Int:=cnt<|Eh d.c d.m d.ph d.al
end D1
def d1 (gs:List Ch) (ca:List Ca) (s:DW) (j:Int):D1:=⟨BZ ca j,Ck s.mi j,gMe s.me j,(AG gs j).2.2.1,Bk (AG gs j)<|Bq s.st j⟩
def auE {k ph p:Int}(h1:1<=ph/\ph<=7) (h2:1<=p/\p<=7) (h:Kb k ph p≠0):1<=cnt (Kb k ph p):=by
 have:=aCT (k:=k) h1 h2
 unfold cnt;omega
theorem D1.bd {d:D1}(h:d.ok=U):0<=d.a/\d.a<=80/\0<=d.o/\d.o<=3/\(d.a≠0->1<=d.o)/\(Kv d.c d.m d.ph d.al).2.2=d.m.2.2+2300*d.a*d.o:=by
 unfold D1.ok at h;simp only [AY,DB,CU,DJ] at h
 have hB:dwB d.c d.m d.ph d.al=true:=by
  have:=h.2
  unfold JJ at this;split at this
  ·assumption
  ·omega
 obtain ⟨hc,hm,h1,h2,h3,h4,_⟩:=ql.1 hB;obtain ⟨b1,b2,b3,b4⟩:=aDn hc hm ⟨h1,h2⟩ ⟨h3,h4⟩
 have hc':=WD.1 hc
 have hs:=ag9 (n:=Eh d.c d.m d.ph d.al)
 have ea:d.a=FR d.c d.m d.ph d.al:=by unfold D1.a FP;rw [AD hB]
 have eo:d.o=cnt (H8 d.c d.m d.ph d.al):=by unfold D1.o Eh;rw [AD hB]
 refine ⟨A0,A0,hs.1,hs.2,λhz=>?_,?_⟩
 ·rw [eo]
  rw [ea] at hz;unfold H8;rw [AE hz];refine auE ⟨A0,A0⟩ ⟨h1,h2⟩ λhq=>hz ?_
  unfold FR
  grind
 ·unfold Kv
  rw [AD hB,ea,eo];rfl
def uj {l:List Le}{t:Int}(h:B1 l=U):B1 (BX l t)=true:=by
 unfold BX;split
 ·exact oA h wb
 ·rfl
def awm {t:Int}{s:SN}{x:Le}(h:VK s.se s.fl/\B1 s.ls=U):VK (Ff t s x).se (Ff t s x).fl/\B1 (Ff t s x).ls=true:=by
 unfold Ff;split
 ·rename_i hc
  refine ⟨(h.1.st hc.2).2,?_⟩
  have:=(uI (x:=x) h.2).1
  unfold grS at this;rw [AD hc.1] at this;exact this
 ·exact h
def aOJ {t:Int}{xs:List Le}{s:SN}(h:VK s.se s.fl/\B1 s.ls=U):∀n,VK (FK t xs s n).se (FK t xs s n).fl/\B1 (FK t xs s n).ls=U
 |0=>h
 |n+1=>awm<|aOJ h n
theorem ald {p:PK}(h:VK p.se p.fl/\B1 p.ls=U):VK p.AV.se p.AV.fl/\B1 p.AV.ls=true:=by
 have hx:B1 (EE p.ls p.tk)=true:=by
  unfold EE;split
  ·exact uj h.2
  ·exact h.2
 unfold PK.AV;split
 ·exact h
 ·split
  ·grind
  ·exact aOJ (s:=p.Hw) ⟨h.1,hx⟩ _
def JP.step {p:PK}(h:JP p) {e:EV}(he:BP p e=0):JP (BL p e):=by
 obtain ⟨⟨hV,hR⟩,hk⟩:=h;refine ⟨⟨hV.step he,hR.step hV he⟩,?_⟩;unfold BL;rw [AE A0];unfold BP at he;rw [AE (by rw [Q3.2 hV];decide)] at he
 split
 ·exact ald hk
 rename_i h1;rw [AE h1] at he;split
 ·exact hk
 rename_i h2;rw [AE h2] at he;split
 ·exact hk
 rename_i h3;rw [AE h3] at he;split
 ·exact hk
 rename_i h4;rw [AE h4] at he;split
 ·exact ⟨hk.1,rfl⟩
 rename_i h5;rw [AE h5] at he;split
 ·rename_i h6
  rw [AD h6] at he;refine ⟨hk.1,?_⟩;unfold PK.Er at he;split at he
  ·cases he
  split at he
  ·rename_i g1 g2;exact absurd he g2
  ·rename_i g1 g2
   exact uj<|aA0<|ZE λg=>g2 g
 rename_i h6;rw [AE h6] at he;split
 ·exact hk
 ·exact hk
def JP.EP {p:PK}(h:JP p):∀(n:Nat) (l:Int),JP (CR n p l).1
 |0,_=>h
 | n+1,l=>by
  unfold CR;split
  ·rename_i hc
   exact (h.step hc.1).EP n _
  ·exact h
theorem tN {cs:List Cd}{os:List ByteArray}{ks:List Ko}{gs:List Ch}{bs:List Ba}{dr:List Int}(h:DF cs os ks gs bs dr=0):JP (newP cs os ks gs bs dr):=by
 have hn:=ayb h
 have hp:newP cs os ks gs bs dr=_:=AE A8
 refine ⟨hn,⟨hn.2.fl,?_⟩,?_⟩
 ·rw [hp]
  exact ⟨[],0,rfl,rfl,⟨0,1019,_,uc⟩,DU _⟩
 ·rw [hp]
  rfl
def WE {tg:List Int}{cs:List Cd}:∀n,n<=M cs->∀j:Nat,Ac (Ds cs tg n) j=if j<n then G9 (Ac cs j) (gi tg j) else Ac cs j
 |0,_,j=>by rw [AE A0];rfl
 | n+1,hn,j=>by
  have h1:=WE (tg:=tg) (cs:=cs) n A0
  unfold Ds;rw [WB (by rw [NG];omega)]
  by_cases e:j=n
  ·subst e
   rw [AD rfl,AD A0,h1 j,AE A0]
  ·rw [AE e,h1 j]
   by_cases c:j<n
   ·rw [AD c,AD A0]
   ·rw [AE c,AE A0]
def aH8 {a b:List Cd}(h:M a=M b) (hg:∀j:Nat,j<M a->Ac a j=Ac b j):a=b:=
 ZI h λi h1 h2=>by
  have:=hg i h1
  rwa [QK h1,QK h2] at this
def Um (cs X:List Cd):Prop:=M X=M cs/\∀j:Nat,∃u,Ac X j=G9 (Ac cs j) u
def Um.ask {cs X:List Cd}(h:Um cs X) {tg:List Int}(ht:M tg=M cs):Ds X tg (M tg)=Ds cs tg (M tg):=
 aH8 (by rw [NG,NG,h.1]) λj hj=>by
  rw [NG,h.1] at hj;obtain ⟨u,e⟩:=h.2 j;rw [WE _ (by rw [h.1];omega),WE _ A0,AD A0,AD A0,e]
  rfl
def aGy {gs:List Ch}{tg am:List Int}{cs:List Cd}{n:Nat}(hn:n<=M cs):Um cs (D8 gs tg am cs n):=
 ⟨T0 n,λj=>by
  rcases (cv (gs:=gs) (tg:=tg) (am:=am) n hn j).1 with e|⟨_,_,e⟩
  ·exact ⟨_,e⟩
  ·exact ⟨_,e⟩⟩
def ag1 {c:Cd}{u v:Int}(h:u<=v):D6 (G9 c u)<=D6 (G9 c v):=by
 unfold D6 G9 JH;simp only [List.foldl];split<;>(repeat' split)<;>omega
def ahT {tg:List Int}{cs X:List Cd}(h:Um cs X) (ht:M tg=M cs) (hl:∀j:Nat,j<M cs->gi tg j<=(Ac X j).2.2.1):Jt (Ds cs tg<|M tg) X where
 len:=by rw [NG,h.1]
 up:=λo=>by
  obtain ⟨u,e⟩:=h.2 o;rw [WE _ A0,e];split<;>rfl
 lim:=λo=>by
  obtain ⟨u,e⟩:=h.2 o;rw [WE _ A0];split
  ·rename_i c
   have:=hl o A0
   rw [e] at this|-;exact ag1 this
  ·rename_i c
   have e1:Ac X o=Ac cs o:=by
    unfold Ac;rw [DV,DV,SL (by rw [h.1];omega),SL A0]
   rw [e1];exact DU _
def aGz {gs:List Ch}{tg am:List Int}{cs:List Cd}{os:List ByteArray}{ks:List Ko}{bs:List Ba}(hs:BA cs os ks gs bs=U) (ht:∀k:Nat,k<M cs->1<=gi tg k/\gi tg k<=(Ac cs k).2.2.1) (hl:M tg=M cs) (hm:M am=M gs)
  (hb:∀k:Nat,k<M gs->0<=gi am k/\gi am k<=80) (hk:E0 (Ds cs tg<|M tg) gs am=U):∀n,n<=M cs->∀j:Nat,j<n->(Ac (D8 gs tg am cs n) j).2.2.1=gi tg j
 |0,_,j,h=>A0
 | n +1,hn,j,hj=>by
  have h1:=aGz hs ht hl hm hb hk n A0
  have t1:∀k:Nat,k<M cs->1<=gi tg k/\gi tg k<=1000:=λk hk=>by
   have a:=ht k hk
   have b:=fQ hs hk
   omega
  have ho:=aGy (gs:=gs) (tg:=tg) (am:=am) (cs:=cs) (n:=n) A0
  have hn3:=(cv (gs:=gs) (tg:=tg) (am:=am) (cs:=cs) n A0 n).2<|Ax _
  have hge:∀k:Nat,k<M cs->gi tg k<=(Ac (D8 gs tg am cs n) k).2.2.1:=λk hk=>by
   rcases (cv (gs:=gs) (tg:=tg) (am:=am) (cs:=cs) n A0 k).1 with e|⟨_,_,e⟩
   ·rw [e];exact (ht k hk).2
   ·rw [e];exact DU _
  have hx:n<M (D8 gs tg am cs n):=by rw [ho.1];omega
  unfold D8;split
  ·rename_i c
   by_cases e:j=n
   ·subst e
    have:=hge j A0
    omega
   ·exact h1 j A0
  ·have hq:E0 ((D8 gs tg am cs n).set n<|G9 (Ac (D8 gs tg am cs n) n)<|gi tg n) gs am=true:=by
    refine dn (nj hs t1 _ A0) (bz (aCb hs t1 n A0) hx<|t1 n A0) (ahT ⟨by rw [Bz,ho.1],λk=>?_⟩ hl λk hk=>?_) hb (λk hk=>⟨(hb k hk).1,DU _⟩) hk
    ·rw [WB hx]
     split
     ·rename_i e
      obtain ⟨u,e2⟩:=ho.2 n;subst e;exact ⟨gi tg k,by rw [e2];rfl⟩
     ·exact ho.2 k
    ·rw [WB hx]
     split
     ·rename_i e
      subst e;exact DU _
     ·exact hge k hk
   rw [AD (by rw [hq,Cq hm];rfl),WB hx]
   by_cases e:j=n
   ·rw [AD e,e];rfl
   ·rw [AE e]
    exact h1 j A0
def aGR {p:PK}(hJ:JP p) (ht:p.tk<1000000):BP p Cu=0/\BL p Cu=p.CZ/\Ce p Cu=p.KL/\M (Ce p Cu)=M (BL p Cu).ca/\p.CZ.tk=p.tk+1:=by
 have hv:=hJ.1.1
 have he:BP p Cu=0:=by
  unfold BP;rw [AE (by rw [Q3.2 hv];decide),AD (show Cu.ek=1 from rfl)]
  exact AE A0
 have e2:BL p Cu=p.CZ:=by unfold BL;rw [he];rfl
 have e3:Ce p Cu=p.KL:=by unfold Ce;rw [he];rfl
 have hJ2:=hJ.step he
 refine ⟨he,e2,e3,?_,aNT⟩;rw [hJ2.1.1.ca,e2,e3];refine (qk _).2.2.2.trans ?_;exact Cf
def aoj {p:PK}(hv:VP p) {e:EV}(he:BP p e=0):letI a:=BL p e;(p.tk<1000000/\BL p e=p.CZ)\/BL p e=p.P8\/(p.Er=0/\BL p e=p.Qu)\/(p.Hk e.en e.em=0/\BL p e=p.Lc e.en e.em)\/BL p e={p with st:=a.st,ca:=a.ca,mi:=a.mi,dm:=a.dm,lk:=a.lk}:=by
 have hw:=he
 unfold BP at he;rw [AE (by rw [Q3.2 hv];decide)] at he
 unfold BL;rw [AE A0];split
 ·rename_i h1
  rw [AD h1] at he
  have:=hv.tk
  unfold PK.Iz at he;split at he
  ·cases he
  ·exact .inl ⟨A0,rfl⟩
 rename_i h1;rw [AE h1] at he;split
 ·exact lC
 rename_i h2;rw [AE h2] at he;split
 ·exact lC
 rename_i h3;rw [AE h3] at he;split
 ·exact lC
 rename_i h4;rw [AE h4] at he;split
 ·exact .inr<|.inl rfl
 rename_i h5;rw [AE h5] at he;split
 ·rename_i h6
  rw [AD h6] at he;exact .inr<|.inr<|.inl ⟨he,rfl⟩
 rename_i h6;rw [AE h6] at he;split
 ·exact lC
 rename_i h7;rw [AE h7] at he;split at he
 ·exact .inr<|.inr<|.inr<|.inl ⟨he,rfl⟩
 ·cases he
def TL (gl:Nat) (t:Int) (x:Le):Prop:=x.2.2.2.1<t/\x.2.2.2.2=12/\0<=x.2.1/\x.2.1<(gl:Int)
def TL.le {gl:Nat}{t t':Int}{x:Le}(h:TL gl t x) (ht:t<=t'):TL gl t' x:=⟨by have:=h.1;omega,h.2⟩
structure SG (T:Le->Prop) (b:Int) (s:SN):Prop where
 nx:1<=s.nx/\s.nx<=b
 ls:B1 s.ls=U/\∀x∈s.ls,T x
 vl:∃vl g,VI s.se s.fl vl g/\∀x∈vl,x.1<s.nx/\T x
def SG.le {T T':Le->Prop}{b b':Int}{s:SN}(h:SG T b s) (hb:b<=b') (hT:∀x,T x->T' x):SG T' b' s:=by
 obtain ⟨vl,g,h1,h2⟩:=h.vl;exact ⟨⟨h.nx.1,by have:=h.nx.2;omega⟩,⟨h.ls.1,λx hx=>hT x<|h.ls.2 x hx⟩,vl,g,h1,λx hx=>⟨(h2 x hx).1,hT x (h2 x hx).2⟩⟩
def SG.snd {T:Le->Prop}{b t:Int}{s:SN}(h:SG T b s) {x:Le}(hx:T x) (hn:1<=x.1+1/\x.1+1<=b):SG T b (Ff t s x):=by
 unfold Ff;split
 ·rename_i hc
  obtain ⟨vl,g,h1,h2⟩:=h.vl;obtain ⟨vl',g',q1,q2,q3,q4⟩:=aTz h1 hc.2
  have e:Hg s.ls x=s.ls++[x]:=aNj
  refine ⟨hn,?_,vl',g',q1,λy hy=>?_⟩
  ·have:=(uI (x:=x) h.ls.1).1
   unfold grS at this;rw [AD hc.1] at this;refine ⟨this,λy hy=>?_⟩
   simp only [e,Be,I6] at hy;rcases hy with hy|rfl
   ·exact h.ls.2 y hy
   ·exact hx
  ·have hy:y∈vl++[x]:=by
    rcases q2 with e2|e2<;>rw [e2] at hy
    ·exact hy
    ·exact aGT.subset hy
   rw [Be,I6] at hy;rcases hy with hy|rfl
   ·have:=(List.pairwise_append.1 (qH.1 q3).2.2).2.2 y hy x AI
    exact ⟨by show y.1<x.1+1;have:=this.1;omega,(h2 y hy).2⟩
   ·exact ⟨by show y.1<y.1+1;omega,hx⟩
 ·exact h
def SG.FK {T:Le->Prop}{b t:Int}{s:SN}{xs:List Le}(h:SG T b s) (hx:∀k:Nat,k<M xs->T (Al xs k)/\1<=(Al xs k).1+1/\(Al xs k).1+1<=b):∀n,n<=M xs->SG T b (FK t xs s n)
 |0,_=>h
 |n+1,hn=>by
  obtain ⟨h1,h2⟩:=hx n A0;exact (h.FK hx n A0).snd h1 h2
def sB {t:Int}{xs:List Le}{s:SN}:∀n,n<=M xs->∀x∈(FK t xs s n).ls,x∈s.ls\/x∈xs
 |0,_,x,hx=> .inl hx
 | n+1,hn,x,hx=>by
  unfold FK Ff at hx;split at hx
  ·rename_i hc
   have e:Hg (FK t xs s n).ls (Al xs n)=(FK t xs s n).ls++[Al xs n]:=aNj
   simp only [e,Be,I6] at hx;rcases hx with hx|rfl
   ·exact sB n A0 x hx
   ·exact .inr<|LA A0 A0
  ·exact sB n A0 x hx
variable {p : PK}
def PK.snp (p:PK):SN:=⟨p.ls,p.se,p.fl,p.nx,p.lk⟩
structure TG (p:PK):Prop where
 kt:E0 p.ES p.gs (Bp p.gs)=U
 sg:SG (TL (M p.gs) p.tk) (16*p.tk+1) p.snp
def abZ (h:p.dE=0):Vd p.ES p.os p.ks p.gs p.bs (EE p.ls p.tk) p.ra p.dm p.tk p.nx/\NwL p.gs (FT p.gs p.ra (Ho p.ES p.os p.ks p.gs p.bs (EE p.ls p.tk) p.dm p.tk)<|M p.gs) p.tk p.nx p.dL/\M p.dL<=M p.gs:=by
 unfold PK.dE deE at h;split at h
 ·rename_i hv
  have e:p.dL=Gt p.gs (EE p.ls p.tk) p.tk p.nx (FT p.gs p.ra (Ho p.ES p.os p.ks p.gs p.bs (EE p.ls p.tk) p.dm p.tk)<|M p.gs) (M p.gs):=AD hv
  exact ⟨aa1 hv,by rw [e];exact (ur<|Ax _).1,uu⟩
 ·cases h
def aRt (hJ:JP p):EE p.ls p.tk=p.ls.filter (Lo p.tk):=by
 have ht:=hJ.1.1.tk
 have h:LX p.ls p.tk=true:=by unfold LX;rw [hJ.2.2,CM.2 A0];rfl
 unfold EE D9 BX;rw [AD h,AD rfl,AD h]
def TG.dec (h:TG p) (hJ:JP p):SG (TL (aa p.gs)<|p.tk+1) (16*(p.tk+1)+1) p.AV.snp:=by
 have h0:=h.sg.le (T':=TL (aa p.gs)<|p.tk+1) (b':=16*(p.tk+1)+1) A0 λx hx=>hx.le A0
 have hx:SG (TL (aa p.gs)<|p.tk+1) (16*(p.tk+1)+1) p.Hw:=by
  refine ⟨h0.nx,?_,h0.vl⟩
  show B1 (EE p.ls p.tk)=U/\∀x∈EE p.ls p.tk,_
  rw [aRt hJ];exact ⟨oA hJ.2.2 wb,λx hx=>h0.ls.2 x (DK.1 hx).1⟩
 unfold PK.AV;split
 ·exact h0
 split
 ·exact ⟨h0.nx,hx.ls,h0.vl⟩
 ·rename_i hd
  obtain ⟨V,M,hl⟩:=abZ<|xL.1 hd
  have hg:=V.gl
  have hn:=h.sg.nx
  refine (hx.FK (t:=p.tk) (xs:=p.dL) (λk hk=>?_) _<|Ax _)
  obtain ⟨q1,q2,_⟩:=M.at_ k A0 A0;rw [q1]
  have hn:1<=p.nx/\p.nx<=16*p.tk+1:=hn
  exact ⟨⟨by show p.tk<p.tk+1;omega,rfl,q2⟩,by show 1<=p.nx+k+1;omega,by show p.nx+(k:Int)+1<=_;omega⟩
def qB (hv:VP p):Um p.cs p.CZ.cs:=by
 show Um p.cs (if p.BS.CN.up=X then p.BS.CN.cs else D8 p.BS.CN.gs p.BS.CN.tg p.BS.CN.rsA p.BS.CN.cs (M p.BS.CN.tg))
 have e:p.BS.CN.cs=p.cs:=(MF p).1
 have e2:p.BS.CN.tg=p.tg:=(MF p).2.2.2.2.2.2.2.2.2.2.2.2.2
 rw [e,e2];split
 ·exact ⟨rfl,λj=>⟨_,rfl⟩⟩
 ·exact aGy xx
def TG.tick (h:TG p) (hJ:JP p):TG p.CZ:=by
 obtain ⟨e1,e2,e3,e4,e5,e6,e7,e8,e9,e10,e11,e12,e13,e14⟩:=MF p
 have hd:=h.dec hJ
 have eg:p.CZ.gs=p.gs:=e4
 have et:p.CZ.tk=p.tk+1:=Az (·+1) e6
 have eT:p.CZ.tg=p.tg:=e14
 refine ⟨?_,?_⟩
 ·have:p.CZ.ES=p.ES:=by
   show Ds p.CZ.cs p.CZ.tg (M p.CZ.tg)=_
   rw [eT];exact (qB hJ.1.1).ask hJ.1.1.Eu
  rw [this,eg];exact h.kt
 ·rw [eg,et]
  exact ⟨hd.nx,hd.ls,hd.vl⟩
def TG.step (h:TG p) (hJ:JP p) {e:EV}(he:BP p e=0):TG (BL p e):=by
 have hv:=hJ.1.1
 rcases aoj hv he with ⟨_,c⟩ |c|⟨c0,c⟩ |⟨c0,c⟩ |c
 ·rw [c];exact h.tick hJ
 ·rw [c];exact ⟨h.kt,h.sg.nx,⟨rfl,λx hx=>Pu⟩,h.sg.vl⟩
 ·rw [c]
  obtain ⟨vl,g,h1,h2⟩:=h.sg.vl;obtain ⟨l1,l2⟩:=h1.ld
  have l1:CO p.se p.fl=0:=l1
  have l2:BI p.se p.fl=vl:=l2
  have hn:=h.sg.nx
  have hn:1<=p.nx/\p.nx<=16*p.tk+1:=hn
  have hnw:Hz p.se p.fl=0:=by
   unfold PK.Er at c0;split at c0
   ·cases c0
   ·rw [l1,l2] at c0
    split at c0
    ·rename_i q;exact absurd rfl q
    split at c0
    ·rename_i q;exact absurd c0 q
    ·exact c0
  have hA:1<=JG p.se p.fl/\JG p.se p.fl<=p.nx/\∀x∈vl,x.1<JG p.se p.fl:=by
   unfold Hz at hnw;unfold JG;rw [l1,l2] at hnw|-;simp only [ne_eq,not_true_eq_false,FA] at hnw|-;split
   ·rename_i q
    rw [x6 q];exact ⟨A0,hn.1,λx hx=>Pu⟩
   ·rename_i q
    rw [AE q] at hnw;split
    ·rename_i q2;rw [AD q2] at hnw;cases hnw
    ·have hm:Al vl ((M vl:Int)-1)∈vl:=LA A0 A0
     have b1:=(MR.1<|(Gv h1.lv).2 _ hm).1.1
     have b2:(Al vl<|(M vl:Int)-1).1<p.nx:=(h2 _ hm).1
     refine ⟨A0,A0,λx hx=>?_⟩
     rw [aCa (l:=vl) A0,Be,I6] at hx;rcases hx with hx|rfl
     ·have:=h1.lv
      rw [aCa (l:=vl) A0] at this
      have:=(List.pairwise_append.1 (qH.1 this).2.2).2.2 x hx _<|I6.2 rfl
      have:=this.1
      omega
     ·omega
  refine ⟨h.kt,⟨hA.1,by show JG p.se p.fl<=16*p.tk+1;omega⟩,?_,vl,g,h1,λx hx=>⟨hA.2.2 x hx,(h2 x hx).2⟩⟩
  show B1 (BX (BI p.se p.fl) p.tk)=U/\∀x∈BX (BI p.se p.fl) p.tk,_
  rw [l2];refine ⟨uj h1.lv,λx hx=>?_⟩
  unfold BX at hx;split at hx
  ·exact (h2 x (DK.1 hx).1).2
  ·cases hx
 ·rw [c]
  refine ⟨?_,h.sg⟩;unfold PK.Hk at c0;split at c0
  ·cases c0
  split at c0
  ·cases c0
  ·rename_i c1
   exact (SH _).mp c1
 ·rw [c];exact ⟨h.kt,h.sg.nx,h.sg.ls,h.sg.vl⟩
def ay2 {cs:List Cd}{os:List ByteArray}{ks:List Ko}{gs:List Ch}{bs:List Ba}{dr:List Int}(h:DF cs os ks gs bs dr=0):TG (newP cs os ks gs bs dr):=by
 have hJ:=tN h
 have hp:newP cs os ks gs bs dr=_:=AE (by rw [h];decide)
 rw [hp] at hJ|-;refine ⟨?_,⟨(by decide:(1:Int)<=1),(by decide:(1:Int)<=16*0+1)⟩,⟨rfl,λx hx=>Pu⟩,[],0,⟨rfl,rfl,⟨0,1019,_,uc⟩,DU _⟩,λx hx=>Pu⟩
 have e:Ds cs (cs.map λc=>c.2.2.1) (M<|cs.map λc=>c.2.2.1)=cs:=aH8 (NG _) λj hj=>by
  rw [NG] at hj;rw [WE _ AI,AD lZ,QK hj]
  have:gi (cs.map λc=>c.2.2.1) (j:Int)=cs[j].2.2.1:=by rw [IF lZ];simp
  rw [this];rfl
 show E0 (Ds cs (cs.map λc=>c.2.2.1)<|M<|cs.map λc=>c.2.2.1) gs (Bp gs)=U
 rw [e];unfold DF at h;split at h
 ·cases h
 split at h
 ·cases h
 split at h
 ·cases h
 ·rename_i c
  exact (SH _).mp c
end Go.Proofs.YtmlcgekfmlidcaaGreatDoor
namespace Go.Proofs.YtmlcgekfmlidcaaGreatDoor
set_option maxRecDepth 100000
set_option maxHeartbeats 4000000
open Go.Proofs.Tryz
open Go.Sx
variable {p : PK}
def Jt.refl (C:List Cd):Jt C C:=⟨rfl,λ_=>rfl,λ_=>DU _⟩
def yl (hv:VP p):BA p.ES p.os p.ks p.gs p.bs=true:=nj hv.site hv.tg1 _ xx
def frm (T:Int) (l:List Le):List Le:=l.filter λx=>an<|T<=x.2.2.2.1
def TJ {T:Int}{l:List Le}{x:Le}:x∈frm T l↔x∈l/\T<=x.2.2.2.1:=by unfold frm;rw [DK,Aa]
def aA8 {T:Int}{l:List Le}(h:B1 l=U):B1 (frm T l)=true:=oA h wb
def ue {T:Int}{n:Nat}{t:Int}{l:List Le}(h:∀x∈l,TL n t x):below n l=U/\below n (frm T l)=true:=
 ⟨BH.2 λx hx=>Cq (h x hx).2.2.2,BH.2 λx hx=>Cq (h x (TJ.1 hx).1).2.2.2⟩
structure TU (T:Int) (p:PK):Prop where
 jp:JP p
 tg:TG p
 up:p.up=U
 tk:T<=p.tk
 kn:E0 p.ES p.gs (DG p.gs (frm T p.ls) p.tk)=U
def TG.tu (h:TG p) (hJ:JP p) (hu:p.up=U):TU p.tk p:=by
 refine ⟨hJ,h,hu,DU _,?_⟩
 have e:frm p.tk p.ls=[]:=List.filter_eq_nil_iff.2 λx hx=>by
  have:=(h.sg.ls.2 x hx).1
  rw [Aa];omega
 rw [e]
 have hs:=yl hJ.1.1
 have hl:M (Bp p.gs)=M p.gs:=Ih
 refine dn hs hs (Jt.refl _) (λk hk=>qV hs A0) (λk hk=>⟨(Oa hs rfl A0 A0).1,?_⟩) h.kt
 have h0:=qV hs (k:=k) A0
 have e1:gi (Bp p.gs) k=Cp (AG p.gs k):=OW A0 A0
 have e2:gi (Gg (M p.gs) [] p.tk) k=0:=LG
 rw [WG A0 A0,e1,e2];rw [e1] at h0;unfold mx;split<;>omega
def TU.dec {T:Int}(h:TU T p) {t':Int}(ht:p.tk<=t'):E0 p.ES p.gs (DG p.gs (frm T p.AV.ls) t')=true:=by
 have hd:=h.tg.dec h.jp
 have hs:=yl h.jp.1.1
 have b0:=ue (T:=T) h.tg.sg.ls.2
 have b1:=ue (T:=T) hd.ls.2
 have v0:=aA8 (T:=T) h.jp.2.2
 have v1:=aA8 (T:=T) hd.ls.1
 have hx:=aRt h.jp
 by_cases c:p.dE=0
 ·obtain ⟨V,M,_⟩:=abZ c
  refine anA V hs (Jt.refl _) M v0 b0.2 v1 b1.2 (λx hx'=>?_) (λx hx'=>?_) h.kn ht
  ·obtain ⟨q1,q2⟩:=TJ.1 hx'
   have:=(h.tg.sg.ls.2 x q1).1
   exact ⟨A0,λq=>by rw [hx];exact DK.2 ⟨q1,Cq q⟩⟩
  ·obtain ⟨q1,q2⟩:=TJ.1 hx'
   have q1:x∈p.AV.ls:=q1
   unfold PK.AV at q1;rw [AE yP,AE A0] at q1;rcases sB _ (Ax _) x q1 with q|q
   ·have q:x∈EE p.ls p.tk:=q
    rw [hx] at q;exact .inl<|TJ.2 ⟨(DK.1 q).1,q2⟩
   ·exact .inr q
 ·refine dn hs hs (Jt.refl _) (λk hk=>Oa hs v0 A0 A0) (λk hk=>⟨(Oa hs v1 A0 A0).1,pK v0 b0.2 v1 b1.2 (λx hx' ha=>?_) A0 A0⟩) h.kn
  obtain ⟨q1,q2⟩:=TJ.1 hx'
  have q1:x∈p.AV.ls:=q1
  unfold PK.AV at q1;rw [AE yP,AD c] at q1
  have q1:x∈EE p.ls p.tk:=q1
  rw [hx] at q1
  have q3:=(DK.1 q1).1
  have:=(h.tg.sg.ls.2 x q3).1
  exact ⟨TJ.2 ⟨q3,q2⟩,aFZ ht A0 ha⟩
def TU.tick {T:Int}(h:TU T p) (ht:p.tk<1000000):TU T p.CZ:=by
 obtain ⟨e1,e2,e3,e4,e5,e6,e7,e8,e9,e10,e11,e12,e13,e14⟩:=MF p;obtain ⟨he,eP,_,_,etk⟩:=aGR h.jp ht
 have hJ:=h.jp.step he
 rw [eP] at hJ
 have eg:p.CZ.gs=p.gs:=e4
 have eT:p.CZ.tg=p.tg:=e14
 have ea:p.CZ.ES=p.ES:=by
  show Ds p.CZ.cs p.CZ.tg (M p.CZ.tg)=_
  rw [eT];exact (qB h.jp.1.1).ask h.jp.1.1.Eu
 refine ⟨hJ,h.tg.tick h.jp,e7.trans h.up,by have:=h.tk;omega,?_⟩
 rw [ea,eg,etk];exact h.dec A0
def aiH:wt 12=13:=Ae
def TU.last {T:Int}(h:TU T p) (ht:p.tk<1000000) (hT:T+22<=p.tk):∀k:Nat,k<M p.cs->(Ac p.CZ.cs k).2.2.1=gi p.tg k:=by
 obtain ⟨e1,e2,e3,e4,e5,e6,e7,e8,e9,e10,e11,e12,e13,e14⟩:=MF p
 have hv:=h.jp.1.1
 have hd:=h.tg.dec h.jp
 have hs:=yl hv
 have b1:=ue (T:=T) hd.ls.2
 have v1:=aA8 (T:=T) hd.ls.1
 have gl:=(D5.1 hv.site).1.2.2.2.2.1
 have htk:=hv.tk
 have ec:p.CZ.cs=D8 p.gs p.tg (DG p.gs p.AV.ls<|p.tk+1) p.cs (M p.tg):=by
  have a1:p.BS.CN.cs=p.cs:=e1
  have a2:p.BS.CN.tg=p.tg:=e14
  have a3:p.BS.CN.gs=p.gs:=e4
  have a4:p.BS.CN.tk=p.tk:=e6
  have a5:p.BS.CN.up=p.up:=e7
  have a6:p.BS.CN.ls=p.AV.ls:=rfl
  show (if p.BS.CN.up=X then p.BS.CN.cs else D8 p.BS.CN.gs p.BS.CN.tg p.BS.CN.rsA p.BS.CN.cs (M p.BS.CN.tg))=_
  rw [a5,AE yP];unfold PK.rsA Jl
  rw [a1,a2,a3,a4,a6,AD (by
   rw [AD];unfold Kc;rw [show B1 p.AV.ls=U from hd.ls.1,CM.2 A0,CM.2 A0,show below (M p.gs) p.AV.ls=U from b1.1];rfl)]
 rw [ec]
 have hb:∀k:Nat,k<M p.gs->0<=gi (DG p.gs p.AV.ls<|p.tk+1) k/\gi (DG p.gs p.AV.ls<|p.tk+1) k<=80:=λk hk=>Oa hs hd.ls.1 A0 A0
 intro k hk;refine aGz hv.site (λk hk=>?_) hv.Eu Ih hb (dn hs hs (Jt.refl _) (λk hk=>Oa hs v1 A0 A0) (λk hk=>⟨(hb k hk).1,pK v1 b1.2 hd.ls.1 b1.1 (λx hx ha=>⟨TJ.2 ⟨hx,?_⟩,ha⟩) A0 A0⟩)<|h.dec (t':=p.tk+1) A0) _ xx k (by rw [hv.Eu];exact hk)
 ·exact hv.tg k (by rw [hv.Eu];exact hk)
 ·have q:=(hd.ls.2 x hx).2.1
  unfold Gi Mv at ha;rw [q,aiH] at ha;simp only [AY,Aa] at ha;omega
def TU.EP {T:Int}:∀(n:Nat) {p:PK}{l:Int},TU T p->p.tk+n<1000000->
  (CR n p l).2.2=U/\TU T (CR n p l).1/\(1<=n->T+23<=p.tk+n->∀k:Nat,k<M (CR n p l).1.cs->(Ac (CR n p l).1.cs k).2.2.1=gi (CR n p l).1.tg k)
 |0,p,l,h,_=>⟨rfl,h,λh=>A0⟩
 | n+1,p,l,h,ht=>by
  obtain ⟨he,e2,e3,hl,htk⟩:=aGR h.jp A0;rw [CR,AD ⟨he,hl⟩,e2]
  have h2:=h.tick A0
  obtain ⟨a1,a2,a3⟩:=TU.EP n (l:=if M (Ce p Cu)>0 then gi (Ce p Cu) 0 else l) h2 A0
  refine ⟨a1,a2,λ_ hT=>?_⟩
  by_cases c:n=0
  ·subst c
   show ∀k:Nat,k<M p.CZ.cs->(Ac p.CZ.cs k).2.2.1=gi p.CZ.tg k
   rw [show p.CZ.tg=p.tg from (MF p).2.2.2.2.2.2.2.2.2.2.2.2.2,(qB h.jp.1.1).1];exact h.last A0 A0
  ·exact a3 A0 A0
end Go.Proofs.YtmlcgekfmlidcaaGreatDoor
end
