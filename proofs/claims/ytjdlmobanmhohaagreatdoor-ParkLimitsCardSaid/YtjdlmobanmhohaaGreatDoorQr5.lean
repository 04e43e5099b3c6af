/- Helpers for ParkLimits. Conditions: none. -/
import Derived.Test.YtjdlmobanmhohaaGreatDoorQr4
set_option linter.defProp false
set_option linter.unusedVariables false
set_option linter.unusedSimpArgs false
noncomputable section
open List renaming length→M,length→aa,replicate→aq,range→au
open Bool renaming true→U,true→ae,false→X,false→af
open Go.Value renaming int→ag
open Option renaming some→ah,none→aj
open Go.IntKind renaming i64→J,i64→ai,u8→aw,u32→ax
open True renaming intro→ak
open Decidable renaming decide→an
open ByteArray renaming mk→av
open Go.Region renaming ready→ay,wanted→az
open Go.Instr renaming findNow→aA
namespace Go.Proofs.YtjdlmobanmhohaaGreatDoor
set_option maxRecDepth 100000
set_option maxHeartbeats 4000000
open Go.Proofs.Tryz
open Go.Sx
def awl (s:OP) (hE:aCQ s):(iU s).all (λq=>q=RZ s):=by
 obtain ⟨h1,h2⟩:=hE;unfold iU;simp only [Tk];refine ⟨λc=>?_,λc=>?_⟩
 ·have he:s.p.Fs=6:=by unfold PK.Fs;rw [AD c]
  repeat (refine ⟨AI,?_⟩)
  show _=_
  unfold RZ;rw [Js Ma];rw [he]
 have hu:¬s.p.up=true:=bK
 repeat (refine ⟨A0,?_⟩)
 refine ⟨λc1=>?_,λc1=>?_⟩
 ·have c1:Ce s.p.se s.p.fl≠0:=F5.1 c1
  have he:s.p.Fs=Ce s.p.se s.p.fl:=by unfold PK.Fs;rw [AE hu,AD c1]
  repeat (refine ⟨AI,?_⟩)
  show _=_
  unfold RZ;rw [Js zE];rw [he]
 have c1:¬Ce s.p.se s.p.fl≠0:=λh=>aPL
 refine ⟨λc2=>?_,λc2=>?_⟩
 ·have c2:DQ (Ai s.p.se s.p.fl) s.p.tk≠0:=F5.1 c2
  have he:s.p.Fs=DQ (Ai s.p.se s.p.fl) s.p.tk:=by unfold PK.Fs;rw [AE hu,AE c1,AD c2]
  repeat (refine ⟨AI,?_⟩)
  show _=_
  unfold RZ;rw [Js zE];rw [he]
 have c2:¬DQ (Ai s.p.se s.p.fl) s.p.tk≠0:=λh=>by rw [F5.2 h] at c2;cases c2
 repeat (refine ⟨A0,?_⟩)
 refine ⟨λc3=>?_,λc3=>?_⟩
 ·have c3:Io s.p.se s.p.fl≠0:=F5.1 c3
  have he:s.p.Fs=Io s.p.se s.p.fl:=by unfold PK.Fs;rw [AE hu,AE c1,AE c2]
  repeat (refine ⟨AI,?_⟩)
  show _=_
  unfold RZ;rw [Js zE];rw [he]
 have c3:Io s.p.se s.p.fl=0:=ln λh=>by rw [F5.2 h] at c3;cases c3
 have he:s.p.Fs=0:=by unfold PK.Fs;rw [AE hu,AE c1,AE c2,c3]
 rw [show (aq (M s.p.gs:Y).toNat ((0:Y),(0:Y))).drop 0=aq (M s.p.gs) (0,0) by rw [C0];rfl,C0,Di (by rw [Ci];exact Aq _)]
 repeat (refine ⟨A8,?_⟩)
 show _=_
 unfold RZ;rw [Lx he];rw [he];rfl
def aiY:Dp prog AV 33 aCn.m:=D8.sound (D:=aCn) (t:=iU) (gk gR) apY Qg azO λs hE=>⟨awl s hE⟩
def SW (c:Ca):Y:=if Gb c=U then 0 else 1
def aKy:aVy->T LV
 | [.v (.agg ⟨[ag J x1,ag J x2,ag J x3,ag J x4,ag J x5]⟩)]=> .ok (.AO [.agg [.xl A7 ([]:aVw),(0:Y),(0:Y)],SW (x1,x2,x3,x4,x5)])
 |_=> .no
def ahf:aVI:=[aaV]
def avd:=vo (S:=aKy) func65 ahf kN (λargs lv h=>by
 unfold aKy at h;split at h
 ·rename_i x1 x2 x3 x4 x5
  refine At (.br (!(Gb (x1,x2,x3,x4,x5))) (.ok<|.AO [.agg [.xl A7 ([]:aVw),(0:Y),(0:Y)],(1:Y)])<|.ok<|.AO [.agg [.xl A7 ([]:aVw),(0:Y),(0:Y)],(0:Y)]) ?_;obtain rfl:=h;unfold SW;refine ⟨λc=>?_,λc=>?_⟩
  ·rw [AE A8]
   rfl
  ·rw [AD A8]
   rfl
 ·cases h)
structure Kv where
 (i k0 k1 k2:Y)
 p:PK
 ev:EW
def V2 (s:Kv):aVy:=[.own 16 0,s.i,.v<|.agg #[s.k0,s.k1,s.k2]]
def ZI (s:Kv):aVB:=[AP,AP,zB,AP,bV 81 Af s.p.cs,bV 134 AQ s.p.ls,bV 5 (.int aw) s.p.fl,bV 138 Aj s.p.ra,bV 99 B7 s.p.st,bV 71 AQ s.p.ca,bV 143 BA s.p.mi,bV 102 BT s.p.me,bV 73 Ap s.p.dm,bV 149 BP s.p.lk,bV 3 A7 s.p.dr,bV 3 A7 s.p.tg,⟨[.os 4 11 0<|M s.p.cs,.xl .str s.p.os,.xl An s.p.ks,.xl Ag s.p.gs,.xl Am s.p.bs,.v<|ag J s.p.tk,.v<|.bool s.p.up,.os 5 5 0<|M s.p.ls,.v<|ag J s.p.se,.os 6 1 0<|M s.p.fl,.os 7 2 0<|M s.p.ra,.v<|ag J s.p.nx,.os 8 4 0<|M s.p.st,.os 9 5 0<|M s.p.ca,.os 10 3 0<|M s.p.mi,.os 11 3 0<|M s.p.me,.os 12 4 0<|M s.p.dm,.os 13 6 0<|M s.p.lk,.os 14 1 0<|M s.p.dr,.os 15 1 0<|M s.p.tg,.v<|ag J s.ev.ek,.v<|ag J s.ev.en,.v<|ag J s.ev.em,.v<|ag J s.ev.c1,.v<|ag J s.ev.c2,.v<|ag J s.ev.c3,.v<|ag J s.ev.c4,.v<|ag J s.ev.c5,.v<|.bool s.ev.d1,.v<|ag J s.ev.d2,.v<|ag J s.ev.d3,.v<|ag J s.ev.d4,.v<|.slice aj 0 0],115,.cl,X⟩,AP,AP]
structure Yi where
 res:Y
 p:PK
 ev:EW
def abg (s:Yi):LV:=.v<|ag J s.res
def aci (s:Yi):aVB:=[AP,AP,zB,AP,bV 81 Af s.p.cs,bV 134 AQ s.p.ls,bV 5 (.int aw) s.p.fl,bV 138 Aj s.p.ra,bV 99 B7 s.p.st,bV 71 AQ s.p.ca,bV 143 BA s.p.mi,bV 102 BT s.p.me,bV 73 Ap s.p.dm,bV 149 BP s.p.lk,bV 3 A7 s.p.dr,bV 3 A7 s.p.tg,⟨[.os 4 11 0<|M s.p.cs,.xl .str s.p.os,.xl An s.p.ks,.xl Ag s.p.gs,.xl Am s.p.bs,.v<|ag J s.p.tk,.v<|.bool s.p.up,.os 5 5 0<|M s.p.ls,.v<|ag J s.p.se,.os 6 1 0<|M s.p.fl,.os 7 2 0<|M s.p.ra,.v<|ag J s.p.nx,.os 8 4 0<|M s.p.st,.os 9 5 0<|M s.p.ca,.os 10 3 0<|M s.p.mi,.os 11 3 0<|M s.p.me,.os 12 4 0<|M s.p.dm,.os 13 6 0<|M s.p.lk,.os 14 1 0<|M s.p.dr,.os 15 1 0<|M s.p.tg,.v<|ag J s.ev.ek,.v<|ag J s.ev.en,.v<|ag J s.ev.em,.v<|ag J s.ev.c1,.v<|ag J s.ev.c2,.v<|ag J s.ev.c3,.v<|ag J s.ev.c4,.v<|ag J s.ev.c5,.v<|.bool s.ev.d1,.v<|ag J s.ev.d2,.v<|ag J s.ev.d3,.v<|ag J s.ev.d4,.v<|.slice aj 0 0],115,.cl,X⟩,AP,AP]
def aAR (s:Kv):T Yi:=letI c:=s.p.st.getD s.i.toNat<|Ty.dflt B7;letI d:=M s.p.st;letI a:=sE (AF s.p.gs s.i) c s.k0 s.k1 s.k2;letI b:=sN (AF s.p.gs s.i) c s.k0 s.k1 s.k2;.ix s.i (M s.p.gs)<|.ik s.i d<|.br (a==0) (.ik s.i d<|.pa s.p<|.re d (s.p.st.set s.i.toNat b)<|.rl s.p.ca<|.rl s.p.mi<|.rl s.p.me<|.rl s.p.dm<|.rl s.p.lk<|.rl s.p.dr<|.rl s.p.tg<|.ok<|⟨a,{s.p with st:=s.p.st.set s.i.toNat b},s.ev⟩)<|.pc s.p<|.ok<|⟨a,s.p,s.ev⟩
def aCi (s:Kv):Prop:=0<=s.i/\s.i<(M s.p.gs:Y)/\M s.p.st=M s.p.gs
def j4 (s:Kv):Yi:=⟨sE (AF s.p.gs s.i) (BF s.p.st s.i) s.k0 s.k1 s.k2,{s.p with st:=CW s.p.gs s.p.st s.i s.k0 s.k1 s.k2},s.ev⟩
def aCu:D8 Kv Yi:=⟨V2,ZI,λv b=>⟨AL v 1,gI<|EK (v.getD 2 .junk) 0,gI<|EK (v.getD 2 .junk) 1,gI<|EK (v.getD 2 .junk) 2,rF b,rG b⟩,aCi,[0,1,3,17,18],[],abg,aci,j4⟩
abbrev hU (s:Kv):Prop:=aCi s/\V2 s=V2 s/\ZI s=ZI s
def gQ:aVI:=[RS]
def aUm:DU:=Cb 69 18 2 (Kw.lp)<|Cb 26 0 9 (H3.lp)<|E5 prog AV (gQ) 20 2
def apg:EZ prog AV aUm:=DO func69 rfl AU Kb<|DO func26 rfl AU Co<|Hz<|gk gQ
def ayy (s:Kv):((El prog AV gQ aUm GB).k 68 (V2 s)<|ZI s).bind (λq=>GO (M<|ZI s) [0] [] .normal (q.1::V2 s) q.2)=(aAR s).mp (λs2=>⟨.normal,M (V2 s)+1,[abg s2],aci s2,U⟩):=AU
def awJ (s:Kv) (hE:aCi s):(aAR s).all (λq=>q=j4 s):=by
 obtain ⟨h0,h1,h2⟩:=hE;refine ⟨A0,A0,A0,λc=>?_,λc=>?_⟩
 ·have c:=eq_of_beq c
  have hg:CW s.p.gs s.p.st s.i s.k0 s.k1 s.k2=_:=AD c
  repeat (refine ⟨A8,?_⟩)
  unfold j4;rw [hg];rfl
 ·have c:=CT.1 c
  have hg:CW s.p.gs s.p.st s.i s.k0 s.k1 s.k2=s.p.st:=AE c
  repeat (refine ⟨AI,?_⟩)
  unfold j4;rw [hg];rfl
def ahv:Dp prog AV 68 aCu.m:=D8.sound (D:=aCu) (t:=aAR) (gk gQ) apg Qg ayy λs hE=>⟨awJ s hE⟩
structure OQ where
 p:PK
 ev:EW
def Uv (s:OQ):aVy:=[.own 16 0]
def ZB (s:OQ):aVB:=[AP,AP,zB,AP,bV 81 Af s.p.cs,bV 134 AQ s.p.ls,bV 5 (.int aw) s.p.fl,bV 138 Aj s.p.ra,bV 99 B7 s.p.st,bV 71 AQ s.p.ca,bV 143 BA s.p.mi,bV 102 BT s.p.me,bV 73 Ap s.p.dm,bV 149 BP s.p.lk,bV 3 A7 s.p.dr,bV 3 A7 s.p.tg,⟨[.os 4 11 0<|M s.p.cs,.xl .str s.p.os,.xl An s.p.ks,.xl Ag s.p.gs,.xl Am s.p.bs,.v<|ag J s.p.tk,.v<|.bool s.p.up,.os 5 5 0<|M s.p.ls,.v<|ag J s.p.se,.os 6 1 0<|M s.p.fl,.os 7 2 0<|M s.p.ra,.v<|ag J s.p.nx,.os 8 4 0<|M s.p.st,.os 9 5 0<|M s.p.ca,.os 10 3 0<|M s.p.mi,.os 11 3 0<|M s.p.me,.os 12 4 0<|M s.p.dm,.os 13 6 0<|M s.p.lk,.os 14 1 0<|M s.p.dr,.os 15 1 0<|M s.p.tg,.v<|ag J s.ev.ek,.v<|ag J s.ev.en,.v<|ag J s.ev.em,.v<|ag J s.ev.c1,.v<|ag J s.ev.c2,.v<|ag J s.ev.c3,.v<|ag J s.ev.c4,.v<|ag J s.ev.c5,.v<|.bool s.ev.d1,.v<|ag J s.ev.d2,.v<|ag J s.ev.d3,.v<|ag J s.ev.d4,.v<|.slice aj 0 0],115,.cl,X⟩]
structure Y2 where
 res:Y
 p:PK
 ev:EW
def acM (s:Y2):LV:=.v<|ag J s.res
def acY (s:Y2):aVB:=[AP,AP,zB,AP,bV 81 Af s.p.cs,bV 134 AQ s.p.ls,bV 5 (.int aw) s.p.fl,bV 138 Aj s.p.ra,bV 99 B7 s.p.st,bV 71 AQ s.p.ca,bV 143 BA s.p.mi,bV 102 BT s.p.me,bV 73 Ap s.p.dm,bV 149 BP s.p.lk,bV 3 A7 s.p.dr,bV 3 A7 s.p.tg,⟨[.os 4 11 0<|M s.p.cs,.xl .str s.p.os,.xl An s.p.ks,.xl Ag s.p.gs,.xl Am s.p.bs,.v<|ag J s.p.tk,.v<|.bool s.p.up,.os 5 5 0<|M s.p.ls,.v<|ag J s.p.se,.os 6 1 0<|M s.p.fl,.os 7 2 0<|M s.p.ra,.v<|ag J s.p.nx,.os 8 4 0<|M s.p.st,.os 9 5 0<|M s.p.ca,.os 10 3 0<|M s.p.mi,.os 11 3 0<|M s.p.me,.os 12 4 0<|M s.p.dm,.os 13 6 0<|M s.p.lk,.os 14 1 0<|M s.p.dr,.os 15 1 0<|M s.p.tg,.v<|ag J s.ev.ek,.v<|ag J s.ev.en,.v<|ag J s.ev.em,.v<|ag J s.ev.c1,.v<|ag J s.ev.c2,.v<|ag J s.ev.c3,.v<|ag J s.ev.c4,.v<|ag J s.ev.c5,.v<|.bool s.ev.d1,.v<|ag J s.ev.d2,.v<|ag J s.ev.d3,.v<|ag J s.ev.d4,.v<|.slice aj 0 0],115,.cl,X⟩]
def iV (s:OQ):T Y2:=letI c:=(s.p.mi.set s.ev.en.toNat (([]:aVw),((0:Y),(0:Y))));letI f:=(CW s.p.gs s.p.st s.ev.en (1:Y) (0:Y) (0:Y));letI g:=(s.ev.c1,(s.ev.c2,(s.ev.c3,(s.ev.c4,s.ev.c5))));letI i:=(s.ev.d1,(s.ev.d2,(s.ev.d3,s.ev.d4)));letI j:=M s.p.ca;letI a:=s.p.ca.set s.ev.en.toNat g;letI b:=s.p.dm.set s.ev.en.toNat i;letI d:=(CW s.p.gs f s.ev.en (3:Y) (0:Y) (0:Y));letI e:=(CW s.p.gs d s.ev.en (4:Y) (1:Y) (0:Y));letI h:=(CW s.p.gs e s.ev.en (5:Y) (0:Y) (0:Y));.br (!(inB s.ev.en (0:Y)<|AA<|(M s.p.gs:Y)-1)) (.pc s.p<|.ok<|⟨1,s.p,s.ev⟩)<|.br ((SW (s.ev.c1,s.ev.c2,s.ev.c3,s.ev.c4,s.ev.c5)) !=0) (.pc s.p<|.ok<|⟨1,s.p,s.ev⟩)<|.br (!((inB s.ev.d2 (0:Y) (1000000000:Y))&&((inB s.ev.d3 (0:Y) (1000000:Y))&&(inB s.ev.d4 (1:Y) (9:Y))))) (.pc s.p<|.ok<|⟨1,s.p,s.ev⟩)<|.ik s.ev.en j<|.br ((s.p.ca.getD s.ev.en.toNat<|Ty.dflt AQ).2.2.1 !=0) (.pc s.p<|.ok<|⟨6,s.p,s.ev⟩)<|.ik s.ev.en (M s.p.st)<|.br ((s.p.st.getD s.ev.en.toNat<|Ty.dflt B7).1 !=0) (.pc s.p<|.ok<|⟨6,s.p,s.ev⟩)<|.ik s.ev.en j<|.ik s.ev.en (M s.p.mi)<|.ik s.ev.en (M s.p.dm)<|.pa s.p<|.rl s.p.st<|.re j a<|.re (M s.p.mi) c<|.rl s.p.me<|.re (M s.p.dm) b<|.rl s.p.lk<|.rl s.p.dr<|.rl s.p.tg<|.req (hU (⟨s.ev.en,1,0,0,{s.p with ca:=s.p.ca.set s.ev.en.toNat g,mi:=s.p.mi.set s.ev.en.toNat (([]:aVw),((0:Y),(0:Y))),dm:=s.p.dm.set s.ev.en.toNat i},s.ev⟩:Kv))<|.pa s.p<|.rl f<|.rl a<|.rl c<|.rl s.p.me<|.rl b<|.rl s.p.lk<|.rl s.p.dr<|.rl s.p.tg<|.req (hU (⟨s.ev.en,3,0,0,{s.p with st:=f,ca:=a,mi:=c,dm:=b},s.ev⟩:Kv))<|.pa s.p<|.rl d<|.rl a<|.rl c<|.rl s.p.me<|.rl b<|.rl s.p.lk<|.rl s.p.dr<|.rl s.p.tg<|.req (hU (⟨s.ev.en,4,1,0,{s.p with st:=d,ca:=a,mi:=c,dm:=b},s.ev⟩:Kv))<|.pa s.p<|.rl e<|.rl a<|.rl c<|.rl s.p.me<|.rl b<|.rl s.p.lk<|.rl s.p.dr<|.rl s.p.tg<|.req (hU (⟨s.ev.en,5,0,0,{s.p with st:=e,ca:=a,mi:=c,dm:=b},s.ev⟩:Kv))<|.pa s.p<|.rl h<|.rl a<|.rl c<|.rl s.p.me<|.rl b<|.rl s.p.lk<|.rl s.p.dr<|.rl s.p.tg<|.ok<|⟨0,{s.p with st:=h,ca:=a,mi:=c,dm:=b},s.ev⟩
def aQD {c:Ca}:SW c=0↔Gb c=true:=by
 unfold SW
 grind
def aCR (s:OQ):Prop:=M s.p.st=M s.p.gs/\M s.p.gs<=1000/\M s.p.ca=M s.p.gs/\M s.p.mi=M s.p.gs/\M s.p.dm=M s.p.gs
def RR (s:OQ):Y2:=⟨PK.GL s.p s.ev.en (EW.c s.ev)<|EW.d s.ev,Jd (PK.GL s.p s.ev.en (EW.c s.ev)<|EW.d s.ev) (PK.O7 s.p s.ev.en (EW.c s.ev)<|EW.d s.ev) s.p,s.ev⟩
def aCo:D8 OQ Y2:=⟨Uv,ZB,λv b=>⟨rF b,rG b⟩,aCR,[0,1,3],[],acM,acY,RR⟩
abbrev aip (s:OQ):Prop:=aCR s/\Uv s=Uv s/\ZB s=ZB s
def X3:aVI:=[UJ,avd]
def aSf:Ay:=IJ X3 (la 2 func69 Kb<|la 9 func26 Co<|l0 X3) [⟨68,aCu.m,ahv⟩]
def aUu:DU:=Cb 69 18 2 (Kw.lp)<|Cb 26 0 9 (H3.lp)<|E5 prog AV X3 20 2
def apZ:EZ prog AV aUu:=DO func69 rfl AU Kb<|DO func26 rfl AU Co<|Hz<|gk X3
def azP (s:OQ):((El prog AV X3 aUu aSf).k 29 (Uv s)<|ZB s).bind (λq=>GO (M<|ZB s) [0] [] .normal (q.1::Uv s) q.2)=(iV s).mp (λs2=>⟨.normal,M (Uv s)+1,[acM s2],acY s2,U⟩):=AU
def awm (s:OQ) (hE:aCR s):(iV s).all (λq=>q=RR s):=by
 obtain ⟨h1,h2,h3,h4,h5⟩:=hE;unfold iV;rw [fM h2];refine ⟨λc=>?_,λc=>?_⟩
 ·have c:s.p.isC s.ev.en=false:=QX
  have he:s.p.GL s.ev.en s.ev.c s.ev.d=1:=AD c
  repeat (refine ⟨MY,?_⟩)
  show _=_
  unfold RR;rw [Js Ma];rw [he]
 have c:s.p.isC s.ev.en=true:=QX
 have ci:=BS.1 c
 have ci2:s.ev.en<(M s.p.gs:Y):=A0
 have hc:¬s.p.isC s.ev.en=false:=bK
 have bad:(!Gb s.ev.c || !Hi s.ev.d)=U->s.p.GL s.ev.en s.ev.c s.ev.d=1:=λh=>by unfold PK.GL;rw [AE hc,AD h]
 refine ⟨λc1=>?_,λc1=>⟨λc2=>?_,λc2=>?_⟩⟩
 ·have c1:¬SW s.ev.c=0:=F5.1 c1
  have c1:Gb s.ev.c=false:=by rw [aQD] at c1;simpa using c1
  have he:=bad (by rw [c1];rfl)
  repeat (refine ⟨MY,?_⟩)
  show _=_
  unfold RR;rw [Js Ma];rw [he]
 ·have c2:(!Hi s.ev.d)=true:=c2
  have he:=bad<|by rw [c2,Sr]
  repeat (refine ⟨MY,?_⟩)
  show _=_
  unfold RR;rw [Js Ma];rw [he]
 have c1:Gb s.ev.c=true:=aQD.1 (ln λh=>by rw [show (SW (s.ev.c1,s.ev.c2,s.ev.c3,s.ev.c4,s.ev.c5) !=0)=U from F5.2 h] at c1;cases c1)
 have c2:(!Hi s.ev.d)=false:=c2
 have hb:¬(!Gb s.ev.c || !Hi s.ev.d)=true:=by rw [c1,c2];decide
 have six:((Bg s.p.ca s.ev.en).2.2.1 !=0 ||(BF s.p.st s.ev.en).1 !=0)=U->s.p.GL s.ev.en s.ev.c s.ev.d=6:=λh=>by unfold PK.GL;rw [AE hc,AE hb,AD h]
 repeat (refine ⟨MY,?_⟩)
 refine ⟨λc3=>?_,λc3=>?_⟩
 ·have c3:((Bg s.p.ca s.ev.en).2.2.1 !=0)=true:=c3
  have he:=six (by rw [c3];rfl)
  repeat (refine ⟨MY,?_⟩)
  show _=_
  unfold RR;rw [Js Ma];rw [he]
 repeat (refine ⟨MY,?_⟩)
 refine ⟨λc4=>?_,λc4=>?_⟩
 ·have c4:((BF s.p.st s.ev.en).1 !=0)=true:=c4
  have he:=six<|by rw [c4,Sr]
  repeat (refine ⟨MY,?_⟩)
  show _=_
  unfold RR;rw [Js Ma];rw [he]
 have c3:((Bg s.p.ca s.ev.en).2.2.1 !=0)=false:=c3
 have c4:((BF s.p.st s.ev.en).1 !=0)=false:=c4
 have he:s.p.GL s.ev.en s.ev.c s.ev.d=0:=by unfold PK.GL;rw [AE hc,AE hb,c3,c4];rfl
 have hg:∀(l:aVW) (k n m:Y),M l=M s.p.gs->M (CW s.p.gs l s.ev.en k n m)=M s.p.gs:=λl k n m h=>by rw [JB];exact h
 repeat (refine ⟨MY,?_⟩)
 refine ⟨⟨⟨ci.1,ci2,h1⟩,rfl,rfl⟩,?_⟩
 repeat (refine ⟨MY,?_⟩)
 refine ⟨⟨⟨ci.1,ci2,hg _ _ _ _ h1⟩,rfl,rfl⟩,?_⟩
 repeat (refine ⟨MY,?_⟩)
 refine ⟨⟨⟨ci.1,ci2,hg _ _ _ _<|hg _ _ _ _ h1⟩,rfl,rfl⟩,?_⟩
 repeat (refine ⟨MY,?_⟩)
 refine ⟨⟨⟨ci.1,ci2,hg _ _ _ _<|hg _ _ _ _<|hg _ _ _ _ h1⟩,rfl,rfl⟩,?_⟩
 repeat (refine ⟨AI,?_⟩)
 show _=_
 unfold RR;rw [Lx he];rw [he];rfl
def aiZ:Dp prog AV 29 aCo.m:=D8.sound (D:=aCo) (t:=iV) (gk X3) apZ aSf.h azP λs hE=>⟨awm s hE⟩
structure Pq where
 (n i:Y)
 p:PK
 ev:EW
 Bh:aVz
 C5:aVK
 BQ:aVA
 C6:aVL
 o:aVF
def aAf (s:Pq):T (Rd Pq):=letI b:=s.o.getD s.i.toNat<|Ty.dflt Af;letI a:=(s.o.set s.i.toNat (b.1,(b.2.1,((s.p.tg.getD s.i.toNat<|Ty.dflt A7),b.2.2.2))));.br (an<|s.i<s.n) (.ik s.i (M s.p.tg)<|.ik s.i (M s.o)<|.rl s.p.tg<|.pc s.p<|.re (M s.o) a<|.nx {s with i:=AA<|s.i+1,o:=a})<|.rl s.p.tg<|.pc s.p<|.rl s.o<|.so (.exit 0) s
def lS (s:Pq):Prop:=s.i=0/\s.n=(M s.p.tg:Y)/\M s.p.tg=M s.p.cs/\s.n<=1000/\s.o=E0 s.p.cs s.p.tg s.i.toNat
def Y8 (s:Pq):Prop:=(0<=s.i/\s.i<=s.n)/\s.n=(M s.p.tg:Y)/\M s.p.tg=M s.p.cs/\s.n<=1000/\s.o=E0 s.p.cs s.p.tg s.i.toNat
def uF (s:Pq):aVx:=(s.n-s.i).toNat
def aCb (x:Ex) (s s':Pq):Prop:=x=.exit 0/\s'.o=E0 s'.p.cs s'.p.tg (M s'.p.tg)
def anI:∀s,lS s->Y8 s:=by
 exact aNJ
def aiT:Da Y8 uF aCb aAf:=by
 intro s hI;obtain ⟨⟨h0,h1⟩,h2,h3,h4,h5⟩:=hI
 have hl:M s.o=M s.p.cs:=nU
 refine AH (λc1=>?_) λc1=>?_
 ·have c1:s.i<s.n:=A8
  rw [AJ (x:=s.i+1)];refine ⟨⟨⟨A8,A8⟩,h2,h3,h4,?_⟩,by simp only [uF];omega⟩
  exact aM5
 ·have c1:s.n<=s.i:=A8
  refine ⟨rfl,?_⟩
  grind
def UQ:AS Pq:=⟨17,34,[2,3,19,20,21],[],λs=>[.own 17 0,.own 18 0,.os 15 1 0<|M s.p.tg,s.n,s.i],λs=>[AP,AP,zB,AP,bV 81 Af s.p.cs,bV 134 AQ s.p.ls,bV 5 (.int aw) s.p.fl,bV 138 Aj s.p.ra,bV 99 B7 s.p.st,bV 71 AQ s.p.ca,bV 143 BA s.p.mi,bV 102 BT s.p.me,bV 73 Ap s.p.dm,bV 149 BP s.p.lk,bV 3 A7 s.p.dr,bV 3 A7 s.p.tg,⟨[.os 4 11 0<|M s.p.cs,.xl .str s.p.os,.xl An s.p.ks,.xl Ag s.p.gs,.xl Am s.p.bs,.v<|ag J s.p.tk,.v<|.bool s.p.up,.os 5 5 0<|M s.p.ls,.v<|ag J s.p.se,.os 6 1 0<|M s.p.fl,.os 7 2 0<|M s.p.ra,.v<|ag J s.p.nx,.os 8 4 0<|M s.p.st,.os 9 5 0<|M s.p.ca,.os 10 3 0<|M s.p.mi,.os 11 3 0<|M s.p.me,.os 12 4 0<|M s.p.dm,.os 13 6 0<|M s.p.lk,.os 14 1 0<|M s.p.dr,.os 15 1 0<|M s.p.tg,.v<|ag J s.ev.ek,.v<|ag J s.ev.en,.v<|ag J s.ev.em,.v<|ag J s.ev.c1,.v<|ag J s.ev.c2,.v<|ag J s.ev.c3,.v<|ag J s.ev.c4,.v<|ag J s.ev.c5,.v<|.bool s.ev.d1,.v<|ag J s.ev.d2,.v<|ag J s.ev.d3,.v<|ag J s.ev.d4,.v<|.slice aj 0 0],115,.cl,X⟩,⟨[.v<|.slice aj 0 0,.v<|.slice aj 0 0,.v<|.slice aj 0 0,.v<|.slice aj 0 0,.v<|.slice aj 0 0],28,.cl,X⟩,⟨[.os 19 11 0<|M s.o,s.Bh,s.C5,s.BQ,s.C6],28,.cl,X⟩,bV 81 Af s.o],λv b=>⟨AL v 3,AL v 4,rF b,rG b,AG .str b 18 1,AG An b 18 2,AG Ag b 18 3,AG Am b 18 4,Ad Af b 19⟩,aAf,λs r=> {s with i:=r.i,o:=r.o},λs=>s,λ_ s=>s,[.exit 0],lS,Y8,uF⟩
abbrev dB:=UQ.run
abbrev atI:=UQ.Au
def PN:aVI:=[fw,UJ]
def agS:Ay:=kI PN<|la 2 func69 Kb<|la 9 func26 Co<|l0 PN
def ayN:Rq Y8 aAf:=by
 intro s hI;refine ⟨λc1=>⟨?_,?_,?_,?_,A9,A9,A9,A9,A9,A9,A9,A9,A9,A9,A9,A9,A9,?_,ak⟩,λc1=>⟨A9,A9,A9,A9,A9,A9,A9,A9,A9,A9,A9,A9,A9,A9,ak⟩⟩
 all_goals ((obtain ⟨⟨h0,h1⟩,h2,h3,h4,h5⟩:=hI;have hl:M s.o=M s.p.cs:=nU;(try simp only [Ab] at c1);first|omega|exact ⟨rfl,rfl⟩ |exact ⟨rfl,AI⟩))
def aRN:UQ.Ok:={}
def aQj:UQ.Pf (aCb):=⟨anI,λs h=>rfl,aiT,ayN⟩
def aHc:=s2 (b:=bN f74 0) aRN aQj PN agS
def auQ:Fi lS Y8 aCb atI dB:=AS.fin aRN aQj
structure N6 where
 p:PK
 ev:EW
def Uz (s:N6):aVy:=[.own 16 0]
def ZF (s:N6):aVB:=[AP,AP,zB,AP,bV 81 Af s.p.cs,bV 134 AQ s.p.ls,bV 5 (.int aw) s.p.fl,bV 138 Aj s.p.ra,bV 99 B7 s.p.st,bV 71 AQ s.p.ca,bV 143 BA s.p.mi,bV 102 BT s.p.me,bV 73 Ap s.p.dm,bV 149 BP s.p.lk,bV 3 A7 s.p.dr,bV 3 A7 s.p.tg,⟨[.os 4 11 0<|M s.p.cs,.xl .str s.p.os,.xl An s.p.ks,.xl Ag s.p.gs,.xl Am s.p.bs,.v<|ag J s.p.tk,.v<|.bool s.p.up,.os 5 5 0<|M s.p.ls,.v<|ag J s.p.se,.os 6 1 0<|M s.p.fl,.os 7 2 0<|M s.p.ra,.v<|ag J s.p.nx,.os 8 4 0<|M s.p.st,.os 9 5 0<|M s.p.ca,.os 10 3 0<|M s.p.mi,.os 11 3 0<|M s.p.me,.os 12 4 0<|M s.p.dm,.os 13 6 0<|M s.p.lk,.os 14 1 0<|M s.p.dr,.os 15 1 0<|M s.p.tg,.v<|ag J s.ev.ek,.v<|ag J s.ev.en,.v<|ag J s.ev.em,.v<|ag J s.ev.c1,.v<|ag J s.ev.c2,.v<|ag J s.ev.c3,.v<|ag J s.ev.c4,.v<|ag J s.ev.c5,.v<|.bool s.ev.d1,.v<|ag J s.ev.d2,.v<|ag J s.ev.d3,.v<|ag J s.ev.d4,.v<|.slice aj 0 0],115,.cl,X⟩]
def TH (s:N6):Pq:=(⟨((M s.p.tg:aVx):Y),0,{s.p with tg:=s.p.tg.set s.ev.en.toNat s.ev.em},s.ev,s.p.os,s.p.ks,s.p.gs,s.p.bs,BG ((s.p.cs.drop 0).take<|M s.p.cs)<|aq ((M s.p.cs:aVx):Y).toNat (ByteArray.empty,((0:Y),((0:Y),((0:Y),(((0:Y),(0:Y)),((0:Y),((0:Y),((0:Y),((0:Y),(0:Y))))))))))⟩:Pq)
structure Y6 where
 res:Y
 p:PK
 ev:EW
def acQ (s:Y6):LV:=.v<|ag J s.res
def acf (s:Y6):aVB:=[AP,AP,zB,AP,bV 81 Af s.p.cs,bV 134 AQ s.p.ls,bV 5 (.int aw) s.p.fl,bV 138 Aj s.p.ra,bV 99 B7 s.p.st,bV 71 AQ s.p.ca,bV 143 BA s.p.mi,bV 102 BT s.p.me,bV 73 Ap s.p.dm,bV 149 BP s.p.lk,bV 3 A7 s.p.dr,bV 3 A7 s.p.tg,⟨[.os 4 11 0<|M s.p.cs,.xl .str s.p.os,.xl An s.p.ks,.xl Ag s.p.gs,.xl Am s.p.bs,.v<|ag J s.p.tk,.v<|.bool s.p.up,.os 5 5 0<|M s.p.ls,.v<|ag J s.p.se,.os 6 1 0<|M s.p.fl,.os 7 2 0<|M s.p.ra,.v<|ag J s.p.nx,.os 8 4 0<|M s.p.st,.os 9 5 0<|M s.p.ca,.os 10 3 0<|M s.p.mi,.os 11 3 0<|M s.p.me,.os 12 4 0<|M s.p.dm,.os 13 6 0<|M s.p.lk,.os 14 1 0<|M s.p.dr,.os 15 1 0<|M s.p.tg,.v<|ag J s.ev.ek,.v<|ag J s.ev.en,.v<|ag J s.ev.em,.v<|ag J s.ev.c1,.v<|ag J s.ev.c2,.v<|ag J s.ev.c3,.v<|ag J s.ev.c4,.v<|ag J s.ev.c5,.v<|.bool s.ev.d1,.v<|ag J s.ev.d2,.v<|ag J s.ev.d3,.v<|ag J s.ev.d4,.v<|.slice aj 0 0],115,.cl,X⟩]
def iY (s:N6):T Y6:=letI a:=s.p.tg.set s.ev.en.toNat s.ev.em;letI b:=(ByteArray.empty,((0:Y),((0:Y),((0:Y),(((0:Y),(0:Y)),((0:Y),((0:Y),((0:Y),((0:Y),(0:Y))))))))));letI c:=((M s.p.cs:aVx):Y);letI d:=((dB<|TH s).o.drop 0).take<|M (dB<|TH s).o;letI e:=(s.p.cs.drop 0).take<|M s.p.cs;letI f:=M s.p.tg;.br (!(inB s.ev.en (0:Y)<|AA<|c-1)) (.pc s.p<|.ok<|⟨1,s.p,s.ev⟩)<|.ik s.ev.en (M s.p.cs)<|.br (!(inB s.ev.em (1:Y) (s.p.cs.getD s.ev.en.toNat<|Ty.dflt Af).2.2.1)) (.pc s.p<|.ok<|⟨1,s.p,s.ev⟩)<|.ik s.ev.en f<|.rm 96 c<|.rz s.p.cs<|.rc c b (M e)<|.re f a<|.pa s.p<|.rl s.p.st<|.rl s.p.ca<|.rl s.p.mi<|.rl s.p.me<|.rl s.p.dm<|.rl s.p.lk<|.rl s.p.dr<|.re f a<|.re c.toNat (BG e<|aq c.toNat b)<|.req (UQ.q<|TH s)<|.rz (dB<|TH s).o<|.req (B6 d s.p.os s.p.ks s.p.gs s.p.bs=U)<|.br (!DG d s.p.gs (Bt s.p.gs)) (.pa s.p<|.rl s.p.st<|.rl s.p.ca<|.rl s.p.mi<|.rl s.p.me<|.rl s.p.dm<|.rl s.p.lk<|.rl s.p.dr<|.rl a<|.ok<|⟨13,{s.p with tg:=a},s.ev⟩)<|.pa s.p<|.rl s.p.st<|.rl s.p.ca<|.rl s.p.mi<|.rl s.p.me<|.rl s.p.dm<|.rl s.p.lk<|.rl s.p.dr<|.rl a<|.ok<|⟨0,{s.p with tg:=a},s.ev⟩
def VP.der {p:PK}(h:VP p) {n m:Y}(hn:inB n 0 ((M p.cs:Y)-1)=U) (hm:inB m 1 (Ae p.cs n).2.2.1=U):B6 (p.LH n m).EL p.os p.ks p.gs p.bs=U/\M (p.LH n m).tg=M p.cs:=by
 have hn:=BS.1 hn
 have hm:=BS.1 hm
 have hl:M (p.LH n m).tg=M p.cs:=by show M (p.tg.set n.toNat m)=_;rw [C4];exact h.Ep
 have hk:=iD h.site (k:=n.toNat) A0
 rw [CO hn.1] at hk;refine ⟨pg h.site (λk hk2=>?_) _ A0,hl⟩
 show 1<=gi (p.tg.set n.toNat m) k/\gi (p.tg.set n.toNat m) k<=1000
 rw [JE hn.1 (by have:=h.Ep;omega) A0]
 split
 ·omega
 ·exact h.tg1 k hk2
def aCf (s:N6):Prop:=VP s.p
def UH (s:N6):Y6:=⟨PK.I7 s.p s.ev.en s.ev.em,{s.p with tg:=if PK.I7 s.p s.ev.en s.ev.em=1 then s.p.tg else s.p.tg.set s.ev.en.toNat s.ev.em},s.ev⟩
def aCs:D8 N6 Y6:=⟨Uz,ZF,λv b=>⟨rF b,rG b⟩,aCf,[0,1,3],[],acQ,acf,UH⟩
abbrev aiu (s:N6):Prop:=aCf s/\Uz s=Uz s/\ZF s=ZF s
def aSe:Ay:=kI PN<|la 4 func74 aHc<|la 2 func69 Kb<|la 9 func26 Co<|l0 PN
def aUj:DU:=Cb 74 17 4 (UQ.lp)<|Cb 69 18 2 (Kw.lp)<|Cb 26 0 9 (H3.lp)<|E5 prog AV PN 20 2
def apd:EZ prog AV aUj:=DO func74 rfl AU aHc<|DO func69 rfl AU Kb<|DO func26 rfl AU Co<|Hz<|gk PN
def azT (s:N6):((El prog AV PN aUj aSe).k 35 (Uz s)<|ZF s).bind (λq=>GO (M<|ZF s) [0] [] .normal (q.1::Uz s) q.2)=(iY s).mp (λs2=>⟨.normal,M (Uz s)+1,[acQ s2],acf s2,U⟩):=AU
def awG (s:N6) (hE:aCf s):(iY s).all (λq=>q=UH s):=by
 have hs:=DC.1 hE.site
 have ht:=hE.Ep
 have hw:AA (((M s.p.cs:aVx):Y)-1)=(M s.p.cs:Y)-1:=AJ
 unfold iY;rw [hw];simp only [Tk,Qt]
 have one:(!inB s.ev.en 0 ((M s.p.cs:Y)-1) || !inB s.ev.em 1 (Ae s.p.cs s.ev.en).2.2.1)=U->s.p.I7 s.ev.en s.ev.em=1:=λh=>AD h
 refine ⟨λc=>?_,λc=>?_⟩
 ·have he:=one (by rw [c];rfl)
  repeat (refine ⟨AI,?_⟩)
  show _=_
  unfold UH;rw [AD he,he]
 have cn:inB s.ev.en 0 ((M s.p.cs:Y)-1)=true:=Ix
 have ci:=BS.1 cn
 have hcd:s.p.cs.getD s.ev.en.toNat (Ty.dflt Af)=Ae s.p.cs s.ev.en:=by
  rw [DA,Dh A0]
  have:=Qw (cs:=s.p.cs) (k:=s.ev.en.toNat) A0
  rw [CO ci.1] at this;rw [this];rfl
 rw [hcd]
 repeat (refine ⟨by first|omega|exact ⟨rfl,rfl⟩ |exact ⟨rfl,AI⟩ |(refine ⟨?_,?_⟩<;>(simp;done)) |(rw [Ci];omega),?_⟩)
 refine ⟨λc2=>?_,λc2=>?_⟩
 ·have he:=one (by rw [c2,Sr])
  repeat (refine ⟨AI,?_⟩)
  show _=_
  unfold UH;rw [AD he,he]
 have cm:inB s.ev.em 1 (Ae s.p.cs s.ev.en).2.2.1=true:=EX
 obtain ⟨k1,k2⟩:=hE.der cn cm
 have ho:(TH s).o=s.p.cs:=by
  show BG ((s.p.cs.drop 0).take _) _=_
  rw [Tk];exact Qt
 have hV:lS (TH s):=⟨rfl,by show (M s.p.tg:Y)=(M (s.p.tg.set s.ev.en.toNat s.ev.em):Y);rw [C4],k2,aOt,ho⟩
 obtain ⟨_,_,_,q2⟩:=auQ _ hV
 have q2:(dB<|TH s).o=(s.p.LH s.ev.en s.ev.em).EL:=q2
 have nb:¬(!inB s.ev.en 0 ((M s.p.cs:Y)-1) || !inB s.ev.em 1 (Ae s.p.cs s.ev.en).2.2.1)=true:=by rw [cn,cm];decide
 rw [q2]
 repeat (refine ⟨A8,?_⟩)
 refine ⟨⟨hV,rfl,rfl⟩,?_⟩
 repeat (refine ⟨A0,?_⟩)
 refine ⟨λc3=>?_,λc3=>?_⟩
 ·have c3:DG (s.p.LH s.ev.en s.ev.em).EL s.p.gs (Bt s.p.gs)=false:=MZ
  have he:s.p.I7 s.ev.en s.ev.em=13:=by unfold PK.I7;rw [AE nb,AD c3]
  repeat (refine ⟨AI,?_⟩)
  show _=_
  unfold UH;rw [AE Ma,he]
 ·have c3:¬DG (s.p.LH s.ev.en s.ev.em).EL s.p.gs (Bt s.p.gs)=false:=MZ
  have he:s.p.I7 s.ev.en s.ev.em=0:=by unfold PK.I7;rw [AE nb,AE c3]
  repeat (refine ⟨AI,?_⟩)
  show _=_
  unfold UH;rw [AE Ma,he]
def aid:Dp prog AV 35 aCs.m:=D8.sound (D:=aCs) (t:=iY) (gk PN) apd aSe.h azT λs hE=>⟨awG s hE⟩
def aUM:aVy->T LV
 | [.xl (.pair (.int J) (.pair (.int J) (.pair (.int J) (.pair (.int J) (.int J))))) l,.v (.agg ⟨[ag J nu,ag J co,ag J am,ag J fr,ag J tk]⟩)]=> .ok (.AO [GM l (nu,co,am,fr,tk),FZ l (nu,co,am,fr,tk)])
 |_=> .no
def amB:aVI:=[X9,aPd,aVb]
def aVc:=vo (S:=aUM) func113 amB kN (λargs lv h=>by
 unfold aUM at h;split at h
 ·rename_i l nu co am fr tk
  refine At (letI a:=(aq (0:Y).toNat ((0:Y),((0:Y),((0:Y),((0:Y),(0:Y))))));letI b:=(nu,(co,(am,(fr,tk))));letI d:=(M l:Y);letI g:=AA<|d+1;letI i:=(a++l)++([b]);letI f:=((i.drop 0).take<|(0:Y).toNat+M l+M ([b]));.br ((!(B0 l)) ||(!(DM (nu,co,am,fr,tk)))) (.ok<|.AO [.xl AQ ([]:aVG),(1:Y)])<|.br (an<|d>0) (.ix (AA<|d-1) (M l)<|.br (!(K9 (Ao l<|AA<|d-1) (nu,co,am,fr,tk))) (.ok<|.AO [.xl AQ ([]:aVG),(12:Y)])<|.br (d==64) (.ok<|.AO [.xl AQ ([]:aVG),(10:Y)])<|.req (0<=(0:Y)/\(0:Y)<=g/\40*g<=2^48/\g<2^63)<|.ra (0:Y).toNat (M a) ((0:Y).toNat+M l) 40<|.ra ((0:Y).toNat+M l) (M<|a++l) ((0:Y).toNat+M l+M ([b])) 40<|.req (0+((0:Y).toNat+M l+M ([b]))<=M i)<|.ok<|.AO [f,(0:Y)])<|.br (d==64) (.ok<|.AO [.xl AQ ([]:aVG),(10:Y)])<|.req (0<=(0:Y)/\(0:Y)<=g/\40*g<=2^48/\g<2^63)<|.ra (0:Y).toNat (M a) ((0:Y).toNat+M l) 40<|.ra ((0:Y).toNat+M l) (M<|a++l) ((0:Y).toNat+M l+M ([b])) 40<|.req (0+((0:Y).toNat+M l+M ([b]))<=M i)<|.ok<|.AO [f,(0:Y)]) ?_;obtain rfl:=h
  have bad:∀e:Y,e≠0->FZ l (nu,co,am,fr,tk)=e->LV.AO [.xl AQ ([]:aVG),.v<|ag J e]=LV.AO [.xl AQ<|GM l (nu,co,am,fr,tk),.v<|ag J<|FZ l (nu,co,am,fr,tk)]:=λe h0 h1=>by
   unfold GM;rw [h1,AE h0]
  refine ⟨λc=>bad 1 Aa ?_,λc=>?_⟩
  ·unfold FZ
   grind
  have hk:(B0 l&&DM (nu,co,am,fr,tk))=true:=by revert c;cases B0 l<;>cases DM (nu,co,am,fr,tk)<;>simp
  have hl:M l<=64:=by rw [AX] at hk;exact (GK hk.1).1
  have w1:AA ((M l:Y)+1)=(M l:Y)+1:=AJ
  have fin:(an (M l>0)&&!K9 (Ao l<|(M l:Y)-1) (nu,co,am,fr,tk))=X->M l≠64->LV.AO [.xl AQ<|(l++[(nu,co,am,fr,tk)]).take<|0+M l+1,.v<|ag J 0]=LV.AO [.xl AQ<|GM l (nu,co,am,fr,tk),.v<|ag J<|FZ l (nu,co,am,fr,tk)]:=λh1 h2=>by
   have e:FZ l (nu,co,am,fr,tk)=0:=by unfold FZ;rw [AD hk,AE (by rw [h1];simp),AE h2]
   unfold GM;rw [e,AD rfl,Di AI]
  have rq:(0<=(0:Y)/\(0:Y)<=AA ((M l:Y)+1)/\40*AA ((M l:Y)+1)<=2^48/\AA ((M l:Y)+1)<2^63):=by rw [w1];omega
  refine ⟨λc2=>?_,λc2=>?_⟩
  ·have c2:0<M l:=by have:=DH c2;omega
   have w2:AA ((M l:Y)-1)=(M l:Y)-1:=AJ
   rw [w2];refine ⟨A0,λc3=>bad 12 Aa ?_,λc3=>⟨λc4=>bad 10 Aa ?_,λc4=>⟨rq,⟨rfl,DJ,DJ⟩,⟨AI,DJ,DJ⟩,AI,?_⟩⟩⟩
   ·unfold FZ
    rw [AD hk,AD (by rw [c3,CY c2];rfl)]
   ·unfold FZ
    rw [AD hk,AE (by rw [c3];simp),AD zK]
   ·exact fin (by rw [c3,Sv]) zK
  ·have c2:¬(M l)>0:=by have:=KJ c2;omega
   refine ⟨λc4=>bad 10 Aa ?_,λc4=>⟨rq,⟨rfl,DJ,DJ⟩,⟨AI,DJ,DJ⟩,AI,?_⟩⟩
   ·simp at c4;omega
   ·exact fin (by rw [IM c2,QR]) A0
 ·cases h)
structure ON where
 (l0 left l:aVG)
 (n i afe afS aw4 aw3 apr:Y)
 o:aVD
def aHK:=bN f161 0
def zc (s:ON):T (Rd ON):=letI a:=Ao s.l s.i;.br (an<|s.i<s.n) (.ix s.i (M s.l)<|.rb (M s.o) (M<|[B1 a]) 24<|.re (M s.o+M ([B1 a])) (s.o++([B1 a]))<|.nx {s with i:=AA<|s.i+1,o:=s.o++([B1 a])})<|.rl s.o<|.so (.exit 0) s
def l8 (s:ON):Prop:=s.i=0/\s.n<=1000/\s.n=(M s.l:Y)/\(M s.o:Y)<=s.i
def jo (s:ON):Prop:=0<=s.i/\s.i<=s.n/\s.n<=1000/\s.n=(M s.l:Y)/\(M s.o:Y)<=s.i
def uU (s:ON):aVx:=(s.n-s.i).toNat
def ac2 (x:Ex) (s s':ON):Prop:=True
def al7:∀s,l8 s->jo s:=by
 exact aE
def agu:Da jo uU ac2 zc:=by
 intro s hI;obtain ⟨h0,h1,h2,h3,h4⟩:=hI;refine AH (λc1=>?_) λc1=>trivial
 have c1:s.i<s.n:=A8
 rw [AJ (x:=s.i+1)];exact ⟨⟨A8,A8,h2,h3,A8⟩,by simp only [uU];omega⟩
def SR:AS ON:=⟨0,71,[0,4,8,10,11,25,26,27],[.ns 10 0 35<|.sl<|.int aw],λs=>[s.l0,.own 0 0,s.left,.own 1 0,.fn 198 [.own 1 0],s.l,s.n,s.i],λs=>[⟨[s.afe,s.afS,s.aw4,s.aw3,s.apr],134,.cl,X⟩,⟨[.os 2 1 0<|M s.o],202,.cl,X⟩,⟨[],35,.vec (.sl<|.int aw) s.o,X⟩],λv b=>⟨B9 AQ v 0,B9 AQ v 2,B9 AQ v 5,AL v 6,AL v 7,Ak b 0 0,Ak b 0 1,Ak b 0 2,Ak b 0 3,Ak b 0 4,Ad (.sl<|.int aw) b 2⟩,zc,λs r=> {s with i:=r.i,o:=r.o},λs=>s,λ_ s=>s,[.exit 0],l8,jo,uU⟩
abbrev oo:=SR.run
abbrev aIu:=SR.Au
def ayr:Rq jo zc:=by
 intro s hI;refine ⟨λc1=>⟨?_,?_,?_,ak⟩,λc1=>⟨A9,ak⟩⟩
 all_goals ((obtain ⟨h0,h1,h2,h3,h4⟩:=hI;simp only [Ab] at c1;(first|omega|(simp only [Bk,Bv];omega) |(simp only [BI,Bk,Bv,Ez]))))
def gX:aVI:=[gB,aUw]
def aSj:Ay:=kI gX<|l0 gX
def aRd:SR.Ok:={}
def aR4:SR.Pf (ac2):=⟨al7,λs h=>rfl,agu,ayr⟩
def aqA:SA 0 aHK SR:=s1 aRd aR4 gX aSj
def asa:Rs l8 aIu oo (λs:ON=>s.o++(s.l.drop s.i.toNat).map B1) (λx s' (v:aVD)=>x=.exit 0/\s'.o=v):=DZ aRd aR4 (λs hI=>by
  obtain ⟨h0,h1,h2,h3,h4⟩:=hI;refine AH (λc1=>?_) λc1=>?_
  ·have c1:s.i<s.n:=A8
   rw [AJ (x:=s.i+1)]
   show _++[_]++_=_++_
   rw [(WX h0 A0).1]
   grind
  ·have c1:s.n<=s.i:=A8
   refine ⟨rfl,?_⟩;rw [Ew A0]
   simp)
def Il (l:aVG) (x:Le) (t:Y):aVD:=if DQ l t=0 then II l x t else []
def aTj:aVy->T LV
 | [.xl (.pair (.int J) (.pair (.int J) (.pair (.int J) (.pair (.int J) (.int J))))) l,.v (.agg ⟨[ag J x1,ag J x2,ag J x3,ag J x4,ag J x5]⟩),.v (ag J t)]=> .ok (.AO [.xl (.sl<|.int aw)<|Il l (x1,x2,x3,x4,x5) t,DQ l t])
 |_=> .no
def W1 (l:aVG) (x1 x2 x3 x4 x5 t:Y):ON:=(⟨l,BW l t,BW l t,(M (BW l t):Y),0,x1,x2,x3,x4,x5,([]:aVD)⟩:ON)
def aJh {l:aVG}{t:Y}(h:DQ l t=0):M l<=64/\M (BW l t)<=M l:=by
 unfold DQ at h;split at h
 ·rename_i c
  refine ⟨(GK (by unfold Kz at c;rw [AX] at c;exact c.1)).1,?_⟩
  unfold BW
  grind
 ·cases h
def ajk:=vm (S:=aTj) func161 gX aSj (L:=(λi=>if i=7 then SR.lp else Al i)) (λb hb=>by
 rw [show BE _=[aHK] by kernel_rfl] at hb
 simp only [BB,Bx,By] at hb;subst hb;exact aqA) (λargs lv h=>by
 unfold aTj at h;split at h
 ·rename_i l x1 x2 x3 x4 x5 t
  refine At (letI a:=oo<|W1 l x1 x2 x3 x4 x5 t;letI e:=(x1,x2,x3,x4,x5);letI f:=M a.o+M ([B1 e]);letI j:=(AA<|(M l:Y)-1);letI k:=(M (BW l t):Y);letI m:=M a.o;letI n:=a.o++([B1 e]);letI d:=Ao l j;letI g:=(a.o++([B1 d]))++([B1 e]);letI p:=M a.o+M ([B1 d]);letI r:=M<|a.o++([B1 d]);letI b:=M a.o+M ([B1 d])+M ([B1 e]);.br ((DQ l t) !=0) (.ok<|.AO [.xl (.sl<|.int aw) ([]:aVD),(DQ l t)])<|.r0 (List Int)<|.req (SR.q<|W1 l x1 x2 x3 x4 x5 t)<|.br (an<|(M l:Y)>0) (.br (k==0) (.ix j (M l)<|.rb m (M<|[B1 d]) 24<|.ra p r b 24<|.req (0+b<=M g)<|.ok<|.AO [.xl (.sl<|.int aw)<|(g.drop 0).take b,(0:Y)])<|.ix (AA<|k-1) (M<|BW l t)<|.ix j (M l)<|.br ((Ao (BW l t)<|AA<|k-1).1 !=d.1) (.ix j (M l)<|.rb m (M<|[B1 d]) 24<|.ra p r b 24<|.req (0+b<=M g)<|.ok<|.AO [.xl (.sl<|.int aw)<|(g.drop 0).take b,(0:Y)])<|.rb m (M<|[B1 e]) 24<|.req (0+f<=M n)<|.ok<|.AO [.xl (.sl<|.int aw)<|(n.drop 0).take f,(0:Y)])<|.rb m (M<|[B1 e]) 24<|.req (0+f<=M n)<|.ok<|.AO [.xl (.sl<|.int aw)<|(n.drop 0).take f,(0:Y)]) ?_;obtain rfl:=h;refine ⟨λc=>?_,λc=>?_⟩
  ·have c:DQ l t≠0:=Ix
   unfold Il;rw [AE c];rfl
  have hE:DQ l t=0:=Ix
  obtain ⟨k1,k2⟩:=aJh hE
  have hV:l8 (W1 l x1 x2 x3 x4 x5 t):=⟨rfl,by show (M (BW l t):Y)<=1000;omega,rfl,yY⟩
  have q:aIu (W1 l x1 x2 x3 x4 x5 t)=.exit 0/\(oo<|W1 l x1 x2 x3 x4 x5 t).o=(BW l t).map B1:=asa _ hV
  have hR:Il l (x1,x2,x3,x4,x5) t=II l (x1,x2,x3,x4,x5) t:=AD hE
  have w1:=λ_:0<M l=>AJ (x:=(M l:Y)-1)
  have w2:=λ_:0<M (BW l t)=>AJ (x:=(M (BW l t):Y)-1)
  have hL:M (oo<|W1 l x1 x2 x3 x4 x5 t).o=M (BW l t):=by rw [q.2,GG]
  rw [hE,hR];unfold II;refine ⟨A9,⟨hV,rfl,rfl⟩,λc1=>⟨λc2=>?_,λc2=>?_⟩,λc1=>?_⟩
  ·have c1:0<M l:=AY
   have c2:M (BW l t)=0:=EX
   rw [w1 c1,AD ⟨c1,.inl c2⟩];refine ⟨A0,⟨Eh _,?_,?_⟩,⟨?_,?_,?_⟩,?_,?_⟩
   all_goals first|(simp only [BI,Bk,Bv,hL];omega) |(rw [q.2,CX,Di nK];simp only [Cx,ES];rfl)
  ·have c1:0<M l:=AY
   have c2:0<M (BW l t):=by simp at c2;exact Ol.2 c2
   rw [w1 c1,w2 c2];refine ⟨A0,A0,λc3=>?_,λc3=>?_⟩
   ·rw [AD ⟨c1,.inr MZ⟩]
    refine ⟨A0,⟨Eh _,?_,?_⟩,⟨?_,?_,?_⟩,?_,?_⟩
    all_goals first|(simp only [BI,Bk,Bv,hL];omega) |(rw [q.2,CX,Di nK];simp only [Cx,ES];rfl)
   ·rw [AE (by intro h;rcases h.2 with h|h;omega;simp at c3;exact h c3)]
    refine ⟨⟨Eh _,?_,?_⟩,?_,?_⟩
    all_goals first|(simp only [BI,Bk,Bv,hL];omega) |(rw [q.2,CX,Di nK];simp only [Cx,ES];rfl)
  ·have c1:¬0<M l:=AY
   rw [AE λh=>c1 h.1]
   refine ⟨⟨Eh _,?_,?_⟩,?_,?_⟩
   all_goals first|(simp only [BI,Bk,Bv,hL];omega) |(rw [q.2,CX,Di nK];simp only [Cx,ES];rfl)
 ·cases h)
def gE:aVI:=[]
def aj8:aVy->T LV:=λl=>Bm prog AV (gE) kN Al f226<|canL l
def aVe:=vo (S:=aj8) func226 gE kN (λargs lv h=>by
 refine ⟨?_⟩
 assumption)
def aj9:aVy->T LV:=λl=>Bm prog AV (gE) kN Al f231<|canL l
def aaK:=vo (S:=aj9) func231 gE kN (λargs lv h=>by
 refine ⟨?_⟩
 assumption)
def qB {l:aVw}{n:aVx}(h:M l=n):BG l (aq n (0:Y))=l:=by
 unfold BG
 simp_all
def pW {l:aVw}{n:aVx}(h:M l=n):((BG ((l.drop 0).take n)<|aq n (0:Y)).drop 0).take n=l:=by
 rw [CX,CX,Di (l:=l) A0,qB h,Di A0]
def XG {l:aVw}{n:aVx}(h:M l=n):(l.drop 0).take n=l:=by
 grind
def aAq:Array Tmp×Code×Code:=((J5<|f227.body.getD .skip)[0]?).getD (#[],.skip,.skip)
def aa3:aWt:=aAq.1
def aa8:aV7:=aAq.2.1
def aa6:aV7:=aAq.2.2
structure MI where
 (n i Hy:Y)
 (Hw b1:aVw)
 pe:Y
 Gn:aVw
 (b3 b4 Hv:Y)
 b9:aVV
 b10:aVw
 st:LS
def LK (s:MI):aVw:=(s.b10.set (AA<|s.b3+s.i).toNat<|Bl aw (s.b10.getD (AA<|s.b3+s.i).toNat<|Ty.dflt<|.int aw)<|gi s.b1 s.i)
def lpC (s:MI):aVw:=((BG (((LK s).drop 0).take<|M s.b10)<|aq ((M s.b10:aVx):Y).toNat (0:Y)).drop 0)
def ni (s:MI):T (Rd MI):=letI a:=((M s.b10:aVx):Y);letI b:=(s.Hv,(lpC s).take a.toNat);letI c:=M s.b10;letI d:=((LK s).drop 0).take c;.br (an<|s.i<s.n) (.ik (AA<|s.b3+s.i) c<|.ix s.i (M s.b1)<|.ik (AA<|s.b3+s.i) c<|.rm 1 a<|.req (0+c<=M (LK s))<|.rc a (0:Y) (M d)<|.req (0+a.toNat<=M (BG d<|aq a.toNat (0:Y)))<|.rb (M s.b9) (M<|[b]) 32<|.re (M s.b9+M ([b])) (s.b9++([b]))<|.re c (LK s)<|.nx {s with i:=AA<|s.i+1,b9:=s.b9++([b]),b10:=LK s})<|.rl s.b9<|.rl s.b10<|.so (.exit 0) s
def oV (s:MI):Prop:=s.st=.ready/\s.i=0/\(s.n=(M s.b1:Y)/\0<=s.n/\0<=s.b3/\s.b3+s.n<=(M s.Gn:Y)/\M s.Gn<=4096)/\s.b10=Ds s.Gn s.b3 s.b1 0/\s.b9=[(s.Hv,Ds s.Gn s.b3 s.b1 0)]
def cD (s:MI):Prop:=s.st=.ready/\(0<=s.i/\s.i<=s.n)/\(s.n=(M s.b1:Y)/\0<=s.n/\0<=s.b3/\s.b3+s.n<=(M s.Gn:Y)/\M s.Gn<=4096)/\s.b10=Ds s.Gn s.b3 s.b1 s.i.toNat/\s.b9=(au<|s.i.toNat+1).map (λk:aVx=>(s.Hv,Ds s.Gn s.b3 s.b1 k))
def aBA (s:MI):aVx:=(s.n-s.i).toNat
def xJ (x:Ex) (s s':MI):Prop:=x=.exit 0/\s'.b9=Dy s'.Hv s'.Gn s'.b3 s'.b1
def ao0:∀s,oV s->cD s:=by
 exact aMT
def al3:Da cD aBA xJ ni:=by
 intro s hI;unfold ni;refine AH (λc1=>?_) λc1=>?_
 ·obtain ⟨ht,⟨h0,h1⟩,⟨hn,hn0,ha,hl,h4⟩,hb,ho⟩:=hI
  have hbl:M s.b10=M s.Gn:=aP3
  have c1:s.i<s.n:=AY
  have wa:AA (s.b3+s.i)=s.b3+s.i:=AJ
  have hB:LK s=Ds s.Gn s.b3 s.b1 (s.i.toNat+1):=aOA
  have hBl:M (LK s)=M s.Gn:=aP4
  have hC:(lpC s).take ((M s.b10:aVx):Y).toNat=LK s:=aOi
  rw [AJ (x:=s.i+1)]
  have et:(s.i+1).toNat=s.i.toNat+1:=A0
  refine ⟨⟨ht,⟨Ac,Ac⟩,⟨hn,hn0,ha,hl,h4⟩,?_,?_⟩,by simp only [aBA];omega⟩
  ·simp only [et]
   exact hB
  ·simp only [et]
   rw [Ss,KH,<-ho,ET,Li,<-hB,<-hC]
 ·obtain ⟨ht,⟨h0,h1⟩,⟨hn,hn0,ha,hl,h4⟩,hb,ho⟩:=hI
  have c1:s.n<=s.i:=AY
  refine ⟨rfl,?_⟩;rw [ho]
  have e:s.i.toNat=M s.b1:=A0
  rw [e];rfl
def cJ:AS MI:=⟨8,41,[0,3,4,6,15,16],[],λs=>[.CS 7,.own 5 0,.own 3 0,.own 8 0,s.n,s.i],λs=>[⟨[s.Hy,.xl (.int aw) s.Hw],37,.cl,X⟩,⟨[.xl (.int aw) s.b1],35,.cl,X⟩,⟨[s.pe,.xl (.int aw) s.Gn],37,.cl,X⟩,⟨[s.b3],3,.cl,X⟩,⟨[s.b4],3,.cl,X⟩,⟨[.fn 226 [.own 1 0]],333,.cl,X⟩,⟨[.os 9 2 0<|M s.b9],222,.cl,X⟩,⟨[.junk,.junk,.junk,.own 6 0,.v<|.tuple #[],.junk,.v<|.tuple #[],.v<|.tuple #[],.v<|.tuple #[],.v<|.tuple #[],.v<|.tuple #[],.junk],0,.Cr aa3 aa8 aa6 s.st,X⟩,⟨[s.Hv,.os 10 1 0<|M s.b10],37,.cl,X⟩,bV 37 Bo s.b9,bV 5 (.int aw) s.b10],λv b=>⟨AL v 4,AL v 5,Ak b 0 0,AG (.int aw) b 0 1,AG (.int aw) b 1 0,Ak b 2 0,AG (.int aw) b 2 1,Ak b 3 0,Ak b 4 0,Ak b 8 0,Ad Bo b 9,Ad (.int aw) b 10,.ready⟩,ni,λs r=> {r with n:=s.n,Hy:=s.Hy,Hw:=s.Hw,b1:=s.b1,pe:=s.pe,Gn:=s.Gn,b3:=s.b3,b4:=s.b4,Hv:=s.Hv,st:=s.st},λs=> {s with st:=.ready},λx s=> {s with st:=(match x with| .exit 0=> .ready|_=> .ready)},[.exit 0],oV,cD,aBA⟩
abbrev fp:=cJ.run
abbrev ahI:=cJ.Au
def wE:aVI:=[Xd,aVe]
def ahO:Ay:=kI wE<|l0 wE
def akp:Rq cD ni:=by
 intro s hI;refine ⟨λc1=>⟨?_,?_,?_,?_,?_,?_,?_,?_,?_,?_,?_,?_,ak⟩,λc1=>⟨A9,A9,ak⟩⟩
 all_goals ((obtain ⟨ht,⟨h0,h1⟩,⟨hn,hn0,ha,hl,h4⟩,hb,ho⟩:=hI;have hbl:M s.b10=M s.Gn:=aP3;have c1:s.i<s.n:=A8;have wa:AA (s.b3+s.i)=s.b3+s.i:=AJ;have hB:LK s=Ds s.Gn s.b3 s.b1 (s.i.toNat+1):=aOA;have hBl:M (LK s)=M s.Gn:=aP4;have hC:(lpC s).take ((M s.b10:aVx):Y).toNat=LK s:=aOi;(first|omega|exact ⟨rfl,AI⟩ |(rw [wa];omega) |(rw [hC];simp only [BI,Bk,Bv,ho,GG,T2,Ez];omega) |(rw [hBl];omega) |(rw [C0,Ci,XG A0];omega) |(rw [C0,XG A0,qB A0];omega))))
def abC:cJ.Ok:={}
def aaH:cJ.Pf (xJ):=⟨ao0,λs h=>by
 obtain ⟨n,i,Hy,Hw,b1,pe,Gn,b3,b4,Hv,b9,b10,st⟩:=s
 have e:=h.1
 subst e;rfl,al3,akp⟩
def tw:=s2 (b:=bN f233 0) abC aaH wE ahO
def agl:Fi oV cD xJ ahI fp:=AS.fin abC aaH
structure MJ where
 (n i Hy:Y)
 Hw:aVw
 WN:Y
 Fp:aVw
 (b2 b3 Hv:Y)
 b8:aVV
 b9:aVw
 st:LS
def leB (s:MJ):aVw:=(s.b9.set (AA<|s.b2+s.i).toNat (255:Y))
def leC (s:MJ):aVw:=((BG (((leB s).drop 0).take<|M s.b9)<|aq ((M s.b9:aVx):Y).toNat (0:Y)).drop 0)
def nj (s:MJ):T (Rd MJ):=letI a:=((M s.b9:aVx):Y);letI b:=(s.Hv,(leC s).take a.toNat);letI c:=M s.b9;letI d:=((leB s).drop 0).take c;.br (an<|s.i<s.n) (.ik (AA<|s.b2+s.i) c<|.ik (AA<|s.b2+s.i) c<|.rm 1 a<|.req (0+c<=M (leB s))<|.rc a (0:Y) (M d)<|.req (0+a.toNat<=M (BG d<|aq a.toNat (0:Y)))<|.rb (M s.b8) (M<|[b]) 32<|.re (M s.b8+M ([b])) (s.b8++([b]))<|.re c (leB s)<|.nx {s with i:=AA<|s.i+1,b8:=s.b8++([b]),b9:=leB s})<|.rl s.b8<|.rl s.b9<|.so (.exit 0) s
def oY (s:MJ):Prop:=s.st=.ready/\s.i=0/\(s.n=s.n/\0<=s.n/\0<=s.b2/\s.b2+s.n<=(M s.Fp:Y)/\M s.Fp<=4096)/\s.b9=Es s.Fp s.b2 0/\s.b8=[(s.Hv,Es s.Fp s.b2 0)]
def cE (s:MJ):Prop:=s.st=.ready/\(0<=s.i/\s.i<=s.n)/\(s.n=s.n/\0<=s.n/\0<=s.b2/\s.b2+s.n<=(M s.Fp:Y)/\M s.Fp<=4096)/\s.b9=Es s.Fp s.b2 s.i.toNat/\s.b8=(au<|s.i.toNat+1).map (λk:aVx=>(s.Hv,Es s.Fp s.b2 k))
def aBC (s:MJ):aVx:=(s.n-s.i).toNat
def xK (x:Ex) (s s':MJ):Prop:=x=.exit 0/\s'.b8=(au<|s'.n.toNat+1).map (λk:aVx=>(s'.Hv,Es s'.Fp s'.b2 k))
def ao2:∀s,oY s->cE s:=by
 exact aMT
def al5:Da cE aBC xK nj:=by
 intro s hI;unfold nj;refine AH (λc1=>?_) λc1=>?_
 ·obtain ⟨ht,⟨h0,h1⟩,⟨hn,hn0,ha,hl,h4⟩,hb,ho⟩:=hI
  have hbl:M s.b9=M s.Fp:=aPG
  have c1:s.i<s.n:=AY
  have wa:AA (s.b2+s.i)=s.b2+s.i:=AJ
  have hB:leB s=Es s.Fp s.b2 (s.i.toNat+1):=aOB
  have hBl:M (leB s)=M s.Fp:=aOw
  have hC:(leC s).take ((M s.b9:aVx):Y).toNat=leB s:=aOj
  rw [AJ (x:=s.i+1)]
  have et:(s.i+1).toNat=s.i.toNat+1:=A0
  refine ⟨⟨ht,⟨Ac,Ac⟩,⟨hn,hn0,ha,hl,h4⟩,?_,?_⟩,by simp only [aBC];omega⟩
  ·simp only [et]
   exact hB
  ·simp only [et]
   rw [Ss,KH,<-ho,ET,Li,<-hB,<-hC]
 ·obtain ⟨ht,⟨h0,h1⟩,⟨hn,hn0,ha,hl,h4⟩,hb,ho⟩:=hI
  have c1:s.n<=s.i:=AY
  refine ⟨rfl,?_⟩;rw [ho]
  have e:s.i.toNat=s.n.toNat:=A0
  rw [e]
def cK:AS MJ:=⟨7,41,[0,3,4,6,15,16],[],λs=>[.CS 6,.own 4 0,.own 2 0,.own 7 0,s.n,s.i],λs=>[⟨[s.Hy,.xl (.int aw) s.Hw],37,.cl,X⟩,⟨[s.WN,.xl (.int aw) s.Fp],37,.cl,X⟩,⟨[s.b2],3,.cl,X⟩,⟨[s.b3],3,.cl,X⟩,⟨[.fn 231 []],333,.cl,X⟩,⟨[.os 8 2 0<|M s.b8],222,.cl,X⟩,⟨[.junk,.junk,.junk,.own 5 0,.v<|.tuple #[],.junk,.v<|.tuple #[],.v<|.tuple #[],.v<|.tuple #[],.v<|.tuple #[],.v<|.tuple #[],.junk],0,.Cr aa3 aa8 aa6 s.st,X⟩,⟨[s.Hv,.os 9 1 0<|M s.b9],37,.cl,X⟩,bV 37 Bo s.b8,bV 5 (.int aw) s.b9],λv b=>⟨AL v 4,AL v 5,Ak b 0 0,AG (.int aw) b 0 1,Ak b 1 0,AG (.int aw) b 1 1,Ak b 2 0,Ak b 3 0,Ak b 7 0,Ad Bo b 8,Ad (.int aw) b 9,.ready⟩,nj,λs r=> {r with n:=s.n,Hy:=s.Hy,Hw:=s.Hw,WN:=s.WN,Fp:=s.Fp,b2:=s.b2,b3:=s.b3,Hv:=s.Hv,st:=s.st},λs=> {s with st:=.ready},λx s=> {s with st:=(match x with| .exit 0=> .ready|_=> .ready)},[.exit 0],oY,cE,aBC⟩
abbrev XB:=cK.run
abbrev ahJ:=cK.Au
def wD:aVI:=[Xd,aaK]
def ag8:Ay:=kI wD<|la 3 func233 tw<|l0 wD
def akr:Rq cE nj:=by
 intro s hI;refine ⟨λc1=>⟨?_,?_,?_,?_,?_,?_,?_,?_,?_,?_,?_,ak⟩,λc1=>⟨A9,A9,ak⟩⟩
 all_goals ((obtain ⟨ht,⟨h0,h1⟩,⟨hn,hn0,ha,hl,h4⟩,hb,ho⟩:=hI;have hbl:M s.b9=M s.Fp:=aPG;have c1:s.i<s.n:=A8;have wa:AA (s.b2+s.i)=s.b2+s.i:=AJ;have hB:leB s=Es s.Fp s.b2 (s.i.toNat+1):=aOB;have hBl:M (leB s)=M s.Fp:=aOw;have hC:(leC s).take ((M s.b9:aVx):Y).toNat=leB s:=aOj;(first|omega|exact ⟨rfl,AI⟩ |(rw [wa];omega) |(rw [hC];simp only [BI,Bk,Bv,ho,GG,T2,Ez];omega) |(rw [hBl];omega) |(rw [C0,Ci,XG A0];omega) |(rw [C0,XG A0,qB A0];omega))))
def abE:cK.Ok:={}
def aaJ:cK.Pf (xK):=⟨ao2,λs h=>by
 obtain ⟨n,i,Hy,Hw,WN,Fp,b2,b3,Hv,b8,b9,st⟩:=s
 have e:=h.1
 subst e;rfl,al5,akr⟩
def aPo:=s2 (b:=bN f233 0) abE aaJ wD ag8
def agr:Fi oY cE xK ahJ XB:=AS.fin abE aaJ
def V9 (se:Y) (fl:aVw) (a:Y) (d:aVw):aVV:=if FF se fl a d=0 then Dy se fl a d else []
def EA (se:Y) (fl:aVw) (s:Y):aVV:=if IK se fl s=0 then La se fl s else []
def aTv:aVy->T LV
 | [.agg [.v (ag J se),.xl (.int aw) fl],.v (ag J at_),.xl (.int aw) d]=> .req (M d<=1000000) (.ok<|.AO [.xl Bo<|V9 se fl at_ d,FF se fl at_ d])
 |_=> .no
def adD (se:Y) (fl:aVw) (at_:Y) (d:aVw):MI:=(⟨(M d:Y),0,se,fl,d,se,fl,at_,(M d:Y),se,[(se,((BG (((BG fl<|aq (M fl:Y).toNat (0:Y)).drop 0).take (M fl:Y).toNat)<|aq (((M fl:Y).toNat:aVx):Y).toNat (0:Y)).drop 0).take (((M fl:Y).toNat:aVx):Y).toNat)],BG fl<|aq (M fl:Y).toNat (0:Y),.ready⟩:MI)
def wC:aVI:=[Xd,aVe]
def ag7:Ay:=kI wC<|la 3 func233 aPo<|la 3 func233 tw<|l0 wC
def ajq:=vo (S:=aTv) func220 wC ag7 (λargs lv h=>by
 unfold aTv at h;split at h
 ·rename_i se fl at_ d
  refine At (letI b:=(M fl:Y);letI c:=(BG fl<|aq b.toNat (0:Y));letI e:=((b.toNat:aVx):Y);letI g:=adD se fl at_ d;letI i:=(c.drop 0).take b.toNat;letI a:=(BG i<|aq e.toNat (0:Y));letI f:=(se,(a.drop 0).take e.toNat);.br ((!(Hh se fl)) ||(an<|at_<0)) (.ok<|.AO [.xl Bo ([]:aVV),(1:Y)])<|.br (an<|at_>(AA<|b-(M d:Y))) (.ok<|.AO [.xl Bo ([]:aVV),(3:Y)])<|.rm 1 b<|.rc b (0:Y) (M fl)<|.rm 1 e<|.req (0+b.toNat<=M c)<|.rc e (0:Y) (M i)<|.req (0+e.toNat<=M a)<|.req ((M ([f]):Y)*32<=2^47/\(M ([f]):Y)<2^62)<|.rl ([f])<|.re b.toNat c<|.req (cJ.q g)<|.rz (fp g).b9<|.ok<|.AO [.xl Bo<|((fp g).b9.drop 0).take<|M (fp g).b9,(0:Y)]) ?_;obtain ⟨hd,rfl⟩:=h;refine ⟨λc1=>?_,λc1=>⟨λc2=>?_,λc2=>?_⟩⟩
  ·have hE:FF se fl at_ d=1:=by unfold FF;rw [AD c1]
   unfold V9;rw [hE];rfl
  all_goals have c1':Hh se fl=U/\0<=at_:=by simp at c1;omega
  all_goals have hv:=Nn.1 c1'.1
  all_goals rw [AJ (x:=(M fl:Y)-(M d:Y))] at c2
  ·have hE:FF se fl at_ d=3:=by unfold FF;rw [AE bP,AD<|DH c2]
   unfold V9;rw [hE];rfl
  have c2:at_<=(M fl:Y)-(M d:Y):=EX
  have hE:FF se fl at_ d=0:=by unfold FF;rw [AE bP,AE A0]
  have z1:BG fl (aq (M fl:Y).toNat (0:Y))=fl:=aPV
  have z2:((BG (((BG fl<|aq (M fl:Y).toNat (0:Y)).drop 0).take (M fl:Y).toNat)<|aq (((M fl:Y).toNat:aVx):Y).toNat (0:Y)).drop 0).take (((M fl:Y).toNat:aVx):Y).toNat=fl:=by
   rw [z1,C0,C0];exact pW rfl
  have z5:BG (((BG fl<|aq (M fl:Y).toNat (0:Y)).drop 0).take (M fl:Y).toNat) (aq (((M fl:Y).toNat:aVx):Y).toNat (0:Y))=fl:=by
   grind
  have z6:((BG fl<|aq (M fl:Y).toNat (0:Y)).drop 0).take (M fl:Y).toNat=fl:=by
   rw [z1,C0,XG rfl]
  have hL:oV (adD se fl at_ d):=⟨rfl,rfl,⟨rfl,by show (0:Y)<=(M d:Y);omega,c1'.2,by show at_+(M d:Y)<=(M fl:Y);omega,hv.2.2.2.1⟩,z1,aOc⟩
  obtain ⟨s',_,q1,q2⟩:=agl _ hL;refine ⟨?_,?_,?_,?_,?_,?_,?_,A9,?_,⟨hL,rfl,rfl⟩,A0,?_⟩
  iterate 8 · (first|omega|(rw [z6,Ci];omega) |(rw [Ci];omega) |(rw [z5];omega) |(rw [z1];omega) |(simp only [Bk,Bv];decide))
  unfold V9;rw [AD hE,hE,CX,Di<|Aq _,q2];rfl
 ·cases h)
def aUS:aVy->T LV
 | [.agg [.v (ag J se),.xl (.int aw) fl],.v (ag J sc)]=> .ok (.AO [.xl Bo<|EA se fl sc,IK se fl sc])
 |_=> .no
def pL (se:Y) (fl:aVw) (sc:Y):MJ:=(⟨se,0,se,fl,se,fl,AA<|sc*se,se,se,[(se,((BG (((BG fl<|aq (M fl:Y).toNat (0:Y)).drop 0).take (M fl:Y).toNat)<|aq (((M fl:Y).toNat:aVx):Y).toNat (0:Y)).drop 0).take (((M fl:Y).toNat:aVx):Y).toNat)],BG fl<|aq (M fl:Y).toNat (0:Y),.ready⟩:MJ)
def wB:aVI:=[Xd,aaK]
def ag6:Ay:=kI wB<|la 3 func233 aPo<|la 3 func233 tw<|l0 wB
def aaM:=vo (S:=aUS) func224 wB ag6 (λargs lv h=>by
 unfold aUS at h;split at h
 ·rename_i se fl sc
  refine At (letI b:=(M fl:Y);letI c:=(BG fl<|aq b.toNat (0:Y));letI d:=((b.toNat:aVx):Y);letI f:=pL se fl sc;letI g:=(c.drop 0).take b.toNat;letI a:=(BG g<|aq d.toNat (0:Y));letI e:=(se,(a.drop 0).take d.toNat);.br (!(Hh se fl)) (.ok<|.AO [.xl Bo ([]:aVV),(1:Y)])<|.br (an<|sc<0) (.ok<|.AO [.xl Bo ([]:aVV),(1:Y)])<|.req (se≠0)<|.br (an<|sc>=(AA<|b.tdiv se)) (.ok<|.AO [.xl Bo ([]:aVV),(1:Y)])<|.rm 1 b<|.rc b (0:Y) (M fl)<|.rm 1 d<|.req (0+b.toNat<=M c)<|.rc d (0:Y) (M g)<|.req (0+d.toNat<=M a)<|.req ((M ([e]):Y)*32<=2^47/\(M ([e]):Y)<2^62)<|.rl ([e])<|.re b.toNat c<|.req (cK.q f)<|.rz (XB f).b8<|.ok<|.AO [.xl Bo<|((XB f).b8.drop 0).take<|M (XB f).b8,(0:Y)]) ?_;obtain rfl:=h
  have bad:IK se fl sc=1->LV.AO [.xl Bo ([]:aVV),.v<|ag J 1]=LV.AO [.xl Bo<|EA se fl sc,.v<|ag J<|IK se fl sc]:=λhE=>by unfold EA;rw [hE];rfl
  refine ⟨λc1=>bad ?_,λc1=>⟨λc2=>bad ?_,λc2=>⟨?_,λc3=>bad ?_,λc3=>?_⟩⟩⟩
  ·unfold IK;rw [AD (by rw [c1];rfl)]
  ·unfold IK;rw [AD<|by rw [c2,Bool.true_or,Sr]]
  all_goals have hv:=Nn.1 AY
  ·omega
  all_goals have hd:0<=(M fl:Y).tdiv se/\(M fl:Y).tdiv se<=(M fl:Y):=(by rw [IL A0];exact ⟨Su A0 A0,Vb _ A0⟩)
  all_goals (rw [AJ (x:=(M fl:Y).tdiv se)] at c3)
  ·unfold IK;rw [AD<|by rw [c3,Sr,Sr]]
  have hE:IK se fl sc=0:=by unfold IK;rw [AE (by rw [c1,c2,c3];decide)]
  have c2:0<=sc:=EX
  have c3:sc<(M fl:Y).tdiv se:=MZ
  have hm:sc*se+se<=(M fl:Y):=by
   have h1:(sc+1)*se<=(M fl:Y).tdiv se*se:=Lh A0 A0
   have h2:(M fl:Y).tdiv se*se<=(M fl:Y):=by
    rw [IL A0];exact Int.ediv_mul_le _ A0
   have h3:(sc+1)*se=sc*se+se:=by rw [Zy,Zz]
   omega
  have hn:0<=sc*se:=Iv c2 A0
  have wm:AA (sc*se)=sc*se:=AJ
  have z1:BG fl (aq (M fl:Y).toNat (0:Y))=fl:=aPV
  have z2:((BG (((BG fl<|aq (M fl:Y).toNat (0:Y)).drop 0).take (M fl:Y).toNat)<|aq (((M fl:Y).toNat:aVx):Y).toNat (0:Y)).drop 0).take (((M fl:Y).toNat:aVx):Y).toNat=fl:=by
   rw [z1,C0,C0];exact pW rfl
  have z5:BG (((BG fl<|aq (M fl:Y).toNat (0:Y)).drop 0).take (M fl:Y).toNat) (aq (((M fl:Y).toNat:aVx):Y).toNat (0:Y))=fl:=by
   grind
  have z6:((BG fl<|aq (M fl:Y).toNat (0:Y)).drop 0).take (M fl:Y).toNat=fl:=by
   rw [z1,C0,XG rfl]
  have hL:oY (pL se fl sc):=⟨rfl,rfl,⟨rfl,by show (0:Y)<=se;omega,by show 0<=AA (sc*se);omega,by show AA (sc*se)+se<=(M fl:Y);omega,hv.2.2.2.1⟩,z1,aOc⟩
  obtain ⟨s',_,q1,q2⟩:=agr _ hL
  have q2:(XB<|pL se fl sc).b8=(au<|se.toNat+1).map (λk:aVx=>(se,Es fl (AA<|sc*se) k)):=q2
  rw [wm] at q2
  have q2:(XB<|pL se fl sc).b8=La se fl sc:=q2
  refine ⟨?_,?_,?_,?_,?_,?_,?_,A9,?_,⟨hL,rfl,rfl⟩,A0,?_⟩
  iterate 8 · (first|omega|(rw [z6,Ci];omega) |(rw [Ci];omega) |(rw [z5];omega) |(rw [z1];omega) |(simp only [Bk,Bv];decide))
  unfold EA;rw [AD hE,hE,CX,Di<|Aq _,q2];rfl
 ·cases h)
def avT:aVy->T LV:=λ_=> .no
def dY:VV 1000222 avT:=by
 exact yU
def BV (al:aVV):Fl:=GU al<|(M al:Y)-1
def JX (al:aVV) (er a:Y) (d:aVw):Y:=if FF (BV al).1 (BV al).2 a d=0 then er else FF (BV al).1 (BV al).2 a d
def LP (al:aVV) (a:Y) (d:aVw):aVV:=if FF (BV al).1 (BV al).2 a d=0 then al++(Dy (BV al).1 (BV al).2 a d).drop 1 else al
def aTI:VL:=λi=>if i=10 then ah ([9,10,11],[]) else if i=11 then ah ([9,10,11],[]) else aj
structure H0 where
 at_:Y
 d:aVw
 er:Y
 al:aVV
def UT (s:H0):aVy:=[.own 0 0,s.at_,.xl (.int aw) s.d]
def Z7 (s:H0):aVB:=[⟨[.os 1 2 0<|M s.al,s.er],327,.cl,X⟩,bV 37 Bo s.al]
structure Y7 where
 er:Y
 al:aVV
def acI (s:Y7):LV:=.v<|.tuple #[]
def acU (s:Y7):aVB:=[⟨[.os 2 2 0<|M s.al,s.er],327,.cl,X⟩,⟨[],37,.dead,X⟩,bV 37 Bo s.al]
def aDA (s:H0):Y:=(AA<|((M s.al:aVx):Y)-1)
def WH (s:H0):Fl:=(s.al.getD (aDA s).toNat<|Ty.dflt Bo)
def iK (s:H0):T Y7:=letI c:=FF (WH s).1 (WH s).2 s.at_ s.d;letI e:=V9 (WH s).1 (WH s).2 s.at_ s.d;letI b:=(M e:Y);letI a:=((e.drop (1:Y).toNat).take<|b.toNat-(1:Y).toNat);.ik (aDA s) (M s.al)<|.req (M s.d<=1000000)<|.br (!(c==(0:Y))) (.rl s.al<|.ok<|⟨c,s.al⟩)<|.req (0<=(1:Y)/\(1:Y)<=b/\b<=b)<|.rb (M s.al) (M a) 32<|.re (M s.al+M a) (s.al++a)<|.ok<|⟨s.er,s.al++a⟩
def aCa (s:H0):Prop:=s.al≠ []/\M s.al<=4000000/\M s.d<=5000
def aAl (s:H0):Y7:=⟨JX s.al s.er s.at_ s.d,LP s.al s.at_ s.d⟩
def Uj:D8 H0 Y7:=⟨UT,Z7,λv b=>⟨AL v 1,B9 (.int aw) v 2,Ak b 0 1,Ad Bo b 1⟩,aCa,[],[.ms 1 0],acI,acU,aAl⟩
abbrev hM (s:H0):Prop:=aCa s/\UT s=UT s/\Z7 s=Z7 s
def Ws:aVI:=[ajq,ir,dY]
def aSl:Ay:=kI Ws<|l0 Ws
def aUq:DU:=E5 prog AV Ws 20 2
def apV:EZ prog AV aUq:=Hz<|gk Ws
def azE (s:H0):((El prog AV Ws aUq aSl).k 196 (UT s)<|Z7 s).bind (λq=>GO (M<|Z7 s) [0] [.ms 1 0] .normal (q.1::UT s) q.2)=(iK s).mp (λs2=>⟨.normal,M (UT s)+1,[acI s2],acU s2,U⟩):=AU
def awh (s:H0) (hE:aCa s):(iK s).all (λq=>q=aAl s):=by
 obtain ⟨h0,h1,h2⟩:=hE
 have hp:=Ol.2 h0
 have w:aDA s=(M s.al:Y)-1:=AJ
 have hY:WH s=BV s.al:=by unfold WH BV GU;rw [w];rfl
 unfold iK aAl JX LP;rw [w,hY];refine ⟨A0,A0,A0,λc1=>?_,λc1=>?_⟩
 ·have c1:¬FF (BV s.al).1 (BV s.al).2 s.at_ s.d=0:=A8
  rw [AE c1,AE c1];exact ⟨A9,rfl⟩
 ·have c1:FF (BV s.al).1 (BV s.al).2 s.at_ s.d=0:=A8
  have hR:V9 (BV s.al).1 (BV s.al).2 s.at_ s.d=Dy (BV s.al).1 (BV s.al).2 s.at_ s.d:=AD c1
  have hl:M (Dy (BV s.al).1 (BV s.al).2 s.at_ s.d)=M s.d+1:=by unfold Dy;simp
  rw [AD c1,AD c1,hR,hl];rw [Di A8];refine ⟨A0,A8,AI,rfl⟩
def iC:Dp prog AV 196 Uj.m:=D8.sound (D:=Uj) (t:=iK) (gk Ws) apV aSl.h azE λs hE=>⟨awh s hE⟩
def Jc:Y->aVD->Bool
 |_,[]=>U
 |left,d::ds=>if (an ((M d:Y)>65535) ||an (7+(M d:Y)>left))=U then X else Jc (left-(7+(M d:Y))) ds
def aSz:∀(ds:aVD) (left:Y),0<=left->Jc left ds=(an ((((ds.map λd=>7+M d).sum:aVx):Y)<=left)&&ds.all (λd=>an<|M d<=65535))
 | [],left,h=>by simp [Jc,h]
 | d::ds,left,h=>by
  simp only [Jc,ET,List.sum_cons,It];split
  ·rename_i hc
   rw [Eq.comm,IQ];intro hh;simp only [Cf,AX,Ab] at hc hh;omega
  ·rename_i hc
   simp only [Cf,Ab,not_or] at hc;rw [aSz ds _ A0,Iw]
   grind
structure ML where
 r:aVH
 left:Y
 l:aVD
 (n i:Y)
def aKQ:=bN f199 0
def aCw (s:ML):T (Rd ML):=
 .br (an<|s.i<s.n) (.ix s.i (M s.l)<|.br ((an<|(M (gx (e:=.sl<|.int aw) s.l s.i):Y)>65535) ||(an<|(AA<|7+(M (gx (e:=.sl<|.int aw) s.l s.i):Y))>s.left)) (.so (.ret) {s with r:=X})<|.nx {s with left:=AA<|s.left-(AA<|7+(M (gx (e:=.sl<|.int aw) s.l s.i):Y)),i:=AA<|s.i+1}) (.so (.exit 0) s)
def oe (s:ML):Prop:=s.i=0/\s.n<=5000/\s.n=(M s.l:Y)/\IA s.l/\0<=s.left/\s.left<=100000
def oQ (s:ML):Prop:=0<=s.i/\s.i<=s.n/\s.n<=5000/\s.n=(M s.l:Y)/\IA s.l/\0<=s.left/\s.left<=100000
def aBE (s:ML):aVx:=(s.n-s.i).toNat
def aLm (x:Ex) (s s':ML):Prop:=True
def ane:∀s,oe s->oQ s:=by
 exact aE
def amQ:Da oQ aBE aLm aCw:=by
 intro s hI;obtain ⟨h0,h1,h2,h3,h4,h5,h6⟩:=hI;refine AH (λc1=>AH (λc2=>trivial) λc2=>?_) λc1=>trivial
 ·have c1:s.i<s.n:=A8
  have hk:=Wy h4 h0 A0
  have w:AA (7+(M (gx (e:=.sl<|.int aw) s.l s.i):Y))=7+(M (gx (e:=.sl<|.int aw) s.l s.i):Y):=AJ
  rw [w,AJ (x:=s.i+1),AJ (x:=s.left-(7+(M (gx (e:=.sl<|.int aw) s.l s.i):Y)))];exact ⟨⟨A8,A8,h2,h3,h4,A8,A8⟩,by simp only [aBE];omega⟩
def Sn:AS ML:=⟨0,32,[4,5,10,11,12],[],λs=>[s.r,s.left,.xl (.sl<|.int aw) s.l,s.n,s.i],λ_=>[],λv b=>⟨EP v 0,AL v 1,B9 (.sl<|.int aw) v 2,AL v 3,AL v 4⟩,aCw,λs r=> {r with l:=s.l,n:=s.n},λs=>s,λ_ s=>s,[.ret,.exit 0],oe,oQ,aBE⟩
abbrev aQT:=Sn.run
abbrev aTU:=Sn.Au
def akv:Rq oQ aCw:=by
 intro s hI;refine ⟨λc1=>⟨?_,λ_=>trivial,λ_=>trivial⟩,λ_=>trivial⟩
 ·exact aNI
def aTL:aVI:=[dY]
def abJ:Sn.Ok:={}
def aVo:Sn.Pf (aLm):=⟨ane,λs h=>rfl,amQ,akv⟩
def axn:SA 0 aKQ Sn:=s1 abJ aVo aTL kN
def ahD:Rs oe aTU aQT (λs:ML=>Jc s.left<|s.l.drop s.i.toNat) (λx s' (v:aVH)=>(x=.ret/\s'.r=X/\v=X)\/(x=.exit 0/\v=U)):=DZ abJ aVo (λs hI=>by
  obtain ⟨h0,h1,h2,h3,h4,h5,h6⟩:=hI;refine AH (λc1=>AH (λc2=>?_) λc2=>?_) λc1=>?_
  ·have c1:s.i<s.n:=A8
   have hk:=Wy h4 h0 A0
   have w:AA (7+(M (gx (e:=.sl<|.int aw) s.l s.i):Y))=7+(M (gx (e:=.sl<|.int aw) s.l s.i):Y):=AJ
   rw [w] at c2;refine .inl ⟨rfl,rfl,?_⟩;rw [Wo h0 A0,Jc,AD c2]
  ·have c1:s.i<s.n:=A8
   have hk:=Wy h4 h0 A0
   have w:AA (7+(M (gx (e:=.sl<|.int aw) s.l s.i):Y))=7+(M (gx (e:=.sl<|.int aw) s.l s.i):Y):=AJ
   rw [w,AJ (x:=s.i+1),AJ (x:=s.left-(7+(M (gx (e:=.sl<|.int aw) s.l s.i):Y)))]
   show Jc _ _=Jc _ _
   rw [Wo h0 A0,Jc,AE A8]
  ·have c1:s.n<=s.i:=A8
   refine .inr ⟨rfl,?_⟩;rw [Ew A0];rfl)
def aUN:aVy->T LV
 | [.xl (.sl (.int aw)) ds,.v (ag J sz)]=> .req ((M ds<=5000/\IA ds)/\5<=sz/\sz<=100000) (.ok<|Jc (sz-5) ds)
 |_=> .no
def aVd:=vm (S:=aUN) func199 aTL kN (L:=(λi=>if i=3 then Sn.lp else Al i)) (λb hb=>by
 rw [show BE _=[aKQ] by kernel_rfl] at hb
 simp only [BB,Bx,By] at hb;subst hb;exact axn) (λargs lv h=>by
 unfold aUN at h;split at h
 ·rename_i ds sz
  refine At (letI a:=(M ds:Y);.req (Sn.q (⟨X,(AA<|sz-5),ds,a,0⟩:ML))<|.br (Bs (aTU (⟨X,(AA<|sz-5),ds,a,0⟩:ML))<|.ret) (.ok (aQT (⟨X,(AA<|sz-5),ds,a,0⟩:ML)).r)<|.ok U) ?_;obtain ⟨⟨⟨h0,h1⟩,h2,h3⟩,rfl⟩:=h;rw [AJ (x:=sz-5)]
  have hE:oe ⟨X,sz-5,ds,(M ds:Y),0⟩:=⟨rfl,aOa,rfl,h1,by show 0<=sz-5;omega,by show sz-5<=100000;omega⟩
  have q:=ahD _ hE
  refine ⟨⟨hE,rfl,rfl⟩,?_⟩
  have e:Jc (sz-5) (ds.drop (0:Y).toNat)=Jc (sz-5) ds:=rfl
  rw [<-e];rcases q with ⟨q1,q2,q3⟩ |⟨q1,q2⟩<;>rw [q1]
  ·refine ⟨λ_=>?_,λhc=>by cases hc⟩
   rw [q2];exact B2 (λz=>LV.v<|.bool z) q3.symm
  ·exact ⟨λhc=>(by cases hc),λ_=>B2 (λz=>LV.v<|.bool z) q2.symm⟩
 ·cases h)
structure OU where
 n:Y
def V3 (s:OU):aVy:=[.v<|ag ax s.n]
def ZJ (s:OU):aVB:=[]
structure Yj where
 l:aVw
def abh (s:Yj):LV:=.os 0 1 0<|M s.l
def acj (s:Yj):aVB:=[bV 5 (.int aw) s.l]
def aAS (s:OU):T Yj:=letI a:=IntKind.u8.wrap<|s.n.fdiv<|2^24;letI b:=IntKind.u8.wrap<|s.n.fdiv<|2^16;letI c:=IntKind.u8.wrap<|s.n.fdiv<|2^8;.re 4 [a,b,c,IntKind.u8.wrap s.n]<|.ok<|⟨[a,b,c,IntKind.u8.wrap s.n]⟩
def aCk (s:OU):Prop:=True
def aa9 (s:OU):Yj:=⟨D6 s.n⟩
def UO:D8 OU Yj:=⟨V3,ZJ,λv b=>⟨AL v 0⟩,aCk,[],[],abh,acj,aa9⟩
abbrev aiw (s:OU):Prop:=aCk s/\V3 s=V3 s/\ZJ s=ZJ s
def gD:aVI:=[aPb]
def aUn:DU:=E5 prog AV (gD) 20 2
def aph:EZ prog AV aUn:=Hz<|gk gD
def ayz (s:OU):((El prog AV gD aUn GB).k 202 (V3 s)<|ZJ s).bind (λq=>GO (M<|ZJ s) [0] [] .normal (q.1::V3 s) q.2)=(aAS s).mp (λs2=>⟨.normal,M (V3 s)+1,[abh s2],acj s2,U⟩):=AU
def awK (s:OU) (hE:aCk s):(aAS s).all (λq=>q=aa9 s):=by
 exact ⟨A9,rfl⟩
def auS:Dp prog AV 202 UO.m:=D8.sound (D:=UO) (t:=aAS) (gk gD) aph Qg ayz λs hE=>⟨awK s hE⟩
def wR:Dp prog AV 202 (R2 λa=>UO.m a []):=aGg auS
def aey (m:aVV) (z:Fl):BV (m++[z])=z:=by
 unfold BV GU
 simp
def s9 {f:aVx->Fl}{n:aVx}(h:1<=n) (al:aVV):BV (al++((au<|n+1).map f).drop 1)=f n:=by
 rw [Ss,KH,ET,Li,aLt A8,<-Cx];exact aey _ _
def sI {se:Y}{a b:aVw}(h:M a=M b):Hh se a=Hh se b:=by unfold Hh;rw [h]
def ajJ {se:Y}{fl:aVw}(h:FC se fl=U) {i:Y}(h0:0<=i) (h1:i<(M fl:Y).tdiv se):0<=i*se/\(i+1)*se=i*se+se/\i*se+se<=(M fl:Y):=by
 obtain ⟨hf,h2,h3,h4,h5⟩:=Ml.1 h
 have hm:=(Nn.1 hf).2.2.2.2
 have e:=xr (M fl:Y) se
 have h6:(i+1)*se=i*se+se:=A8
 have h7:(i+1)*se<=(M fl:Y).tdiv se*se:=Lh A0 A0
 rw [Int.mul_comm] at e;exact ⟨Iv h0 A0,h6,A0⟩
structure OG where
 r:aVH
 l:aVw
 (n i tB aDN:Y)
 af8:aVD
 w8:Y
 rA:aVH
 (er se:Y)
 fl:aVw
 al:aVV
def zn (s:OG):T (Rd OG):=
 .br (an<|s.i<s.n) (.ix s.i (M s.l)<|.br ((gi s.l s.i) !=255) (.rl s.al<|.so (.ret) {s with r:=U})<|.rl s.al<|.nx {s with i:=AA<|s.i+1}) (.rl s.al<|.so (.exit 0) s)
def kF (s:OG):Prop:=s.i=0/\s.n<=4096/\s.n=(M s.l:Y)
def kW (s:OG):Prop:=0<=s.i/\s.i<=s.n/\s.n<=4096/\s.n=(M s.l:Y)
def v5 (s:OG):aVx:=(s.n-s.i).toNat
def abw (x:Ex) (s s':OG):Prop:=True
def akb:∀s,kF s->kW s:=by
 exact mf
def axx:Da kW v5 abw zn:=by
 intro s hI;obtain ⟨h0,h1,h2,h3⟩:=hI;refine AH (λc1=>AH (λc2=>trivial) λc2=>?_) λc1=>trivial
 have c1:s.i<s.n:=A8
 rw [AJ (x:=s.i+1)];exact ⟨⟨A8,A8,h2,h3⟩,by simp only [v5];omega⟩
def ZY:AS OG:=⟨4,26,[3,17,18,19],[],λs=>[s.r,.xl (.int aw) s.l,s.n,s.i],λs=>[⟨[s.tB,.v<|ag ax s.aDN,.xl (.sl<|.int aw) s.af8,s.w8,s.rA],255,.cl,X⟩,⟨[.os 3 2 0<|M s.al,s.er],327,.cl,X⟩,⟨[s.se,.xl (.int aw) s.fl],37,.cl,X⟩,bV 37 Bo s.al],λv b=>⟨EP v 0,B9 (.int aw) v 1,AL v 2,AL v 3,Ak b 0 0,Ak b 0 1,AG (.sl<|.int aw) b 0 2,Ak b 0 3,Lc b 0 4,Ak b 1 1,Ak b 2 0,AG (.int aw) b 2 1,Ad Bo b 3⟩,zn,λs r=> {s with r:=r.r,i:=r.i},λs=>s,λ_ s=>s,[.ret,.exit 0],kF,kW,v5⟩
abbrev ry:=ZY.run
abbrev fU:=ZY.Au
def X5:aVI:=[gA,aA8,aVd,ir,aaM,dY]
def ag5:Ay:=IJ X5 (l0 X5) [⟨196,Uj.m,iC⟩,⟨202,R2 λa=>UO.m a [],wR⟩]
def axa:Rq kW zn:=by
 exact aLz
def aS1:ZY.Ok:={}
def aQQ:ZY.Pf (abw):=⟨akb,λs h=>rfl,axx,axa⟩
def rY:=s2 (b:=bN f200 0) aS1 aQQ X5 ag5
def as2:Rs kF fU ry (λs:OG=>(s.l.drop s.i.toNat).all λb=>b==255) (λx s' (v:aVH)=>(x=.ret/\s'.r=U/\v=X)\/(x=.exit 0/\v=U)):=DZ aS1 aQQ (λs hI=>by
  obtain ⟨h0,h1,h2,h3⟩:=hI;refine AH (λc1=>AH (λc2=>?_) λc2=>?_) λc1=>?_
  ·have c1:s.i<s.n:=A8
   refine .inl ⟨rfl,rfl,?_⟩
   have:(gi s.l s.i==255)=false:=A8
   rw [(gi_step h0 A0).1,It,this];rfl
  ·have c1:s.i<s.n:=A8
   have:(gi s.l s.i==255)=true:=A8
   rw [AJ (x:=s.i+1)]
   show List.all _ _=List.all _ _
   rw [(gi_step h0 A0).1,It,this,EU]
  ·have c1:s.n<=s.i:=A8
   refine .inr ⟨rfl,?_⟩;rw [Ew A0];rfl)
structure H7 where
 keep:aVD
 (half other Du i XH W7:Y)
 pZ:aVD
 UY:Y
 JC:aVH
 (er se:Y)
 fl:aVw
 al:aVV
def aKM:=bN f162 0
def J4 (s:H7):OG:=(⟨X,(s.fl.drop (AA<|s.i*s.se).toNat).take<|(AA<|(AA<|s.i+1)*s.se).toNat-(AA<|s.i*s.se).toNat,(M ((s.fl.drop (AA<|s.i*s.se).toNat).take<|(AA<|(AA<|s.i+1)*s.se).toNat-(AA<|s.i*s.se).toNat):Y),0,s.XH,s.W7,s.pZ,s.UY,s.JC,s.er,s.se,s.fl,s.al⟩:OG)
def GW (s:H7):Y:=(AA<|(AA<|s.other+1)*s.Du)
def reI (s:H7):Y:=(AA<|((M s.al:aVx):Y)-1)
def Bj (s:H7):Fl:=(s.al.getD (reI s).toNat<|Ty.dflt Bo)
def VD (s:H7):T (Rd H7):=
 .br (an<|s.i<(GW s)) (.req (0<=(AA<|s.i*s.se)/\(AA<|s.i*s.se)<=(AA<|(AA<|s.i+1)*s.se)/\(AA<|(AA<|s.i+1)*s.se)<=(M s.fl:Y))<|.rl s.al<|.req (ZY.q<|J4 s)<|.br (Bs (fU<|J4 s)<|.ret) (.br (ry<|J4 s).r (.ik (reI s) (M s.al)<|.br (!((IK (Bj s).1 (Bj s).2 s.i)==(0:Y))) (.rl s.al<|.nx {s with i:=AA<|s.i+1,er:=IK (Bj s).1 (Bj s).2 s.i})<|.req (0<=(1:Y)/\(1:Y)<=(M (EA (Bj s).1 (Bj s).2 s.i):Y)/\(M (EA (Bj s).1 (Bj s).2 s.i):Y)<=(M (EA (Bj s).1 (Bj s).2 s.i):Y))<|.rb (M s.al) (M<|((EA (Bj s).1 (Bj s).2 s.i).drop (1:Y).toNat).take<|(M (EA (Bj s).1 (Bj s).2 s.i):Y).toNat-(1:Y).toNat) 32<|.re (M s.al+M (((EA (Bj s).1 (Bj s).2 s.i).drop (1:Y).toNat).take<|(M (EA (Bj s).1 (Bj s).2 s.i):Y).toNat-(1:Y).toNat)) (s.al++(((EA (Bj s).1 (Bj s).2 s.i).drop (1:Y).toNat).take<|(M (EA (Bj s).1 (Bj s).2 s.i):Y).toNat-(1:Y).toNat))<|.nx {s with i:=AA<|s.i+1,al:=s.al++(((EA (Bj s).1 (Bj s).2 s.i).drop (1:Y).toNat).take<|(M (EA (Bj s).1 (Bj s).2 s.i):Y).toNat-(1:Y).toNat)})<|.rl s.al<|.nx {s with i:=AA<|s.i+1})<|.br X (.ik (reI s) (M s.al)<|.br (!((IK (Bj s).1 (Bj s).2 s.i)==(0:Y))) (.rl s.al<|.nx {s with i:=AA<|s.i+1,er:=IK (Bj s).1 (Bj s).2 s.i})<|.req (0<=(1:Y)/\(1:Y)<=(M (EA (Bj s).1 (Bj s).2 s.i):Y)/\(M (EA (Bj s).1 (Bj s).2 s.i):Y)<=(M (EA (Bj s).1 (Bj s).2 s.i):Y))<|.rb (M s.al) (M<|((EA (Bj s).1 (Bj s).2 s.i).drop (1:Y).toNat).take<|(M (EA (Bj s).1 (Bj s).2 s.i):Y).toNat-(1:Y).toNat) 32<|.re (M s.al+M (((EA (Bj s).1 (Bj s).2 s.i).drop (1:Y).toNat).take<|(M (EA (Bj s).1 (Bj s).2 s.i):Y).toNat-(1:Y).toNat)) (s.al++(((EA (Bj s).1 (Bj s).2 s.i).drop (1:Y).toNat).take<|(M (EA (Bj s).1 (Bj s).2 s.i):Y).toNat-(1:Y).toNat))<|.nx {s with i:=AA<|s.i+1,al:=s.al++(((EA (Bj s).1 (Bj s).2 s.i).drop (1:Y).toNat).take<|(M (EA (Bj s).1 (Bj s).2 s.i):Y).toNat-(1:Y).toNat)})<|.rl s.al<|.nx {s with i:=AA<|s.i+1}) (.rl s.al<|.so (.exit 0) s)
def KR (s:H7):Prop:=FC s.se s.fl=U/\(s.other=0\/s.other=1)/\s.Du*2=(M s.fl:Y).tdiv s.se
def bw (s:H7):Prop:=s.i=s.other*s.Du/\KR s/\s.er=0/\M s.al=1/\(BV s.al).1=s.se/\M (BV s.al).2=M s.fl
def NO (s:H7):Prop:=(s.other*s.Du<=s.i/\s.i<=(s.other+1)*s.Du)/\KR s/\s.er=0/\(s.al≠ []/\(M s.al:Y)<=1+600*s.i)/\(BV s.al).1=s.se/\M (BV s.al).2=M s.fl
def Xl (s:H7):aVx:=(GW s-s.i).toNat
def xI (x:Ex) (s s':H7):Prop:=x=.exit 0/\s'.er=0/\(s'.al≠ []/\(M s'.al:Y)<=3000000)/\(BV s'.al).1=s'.se/\M (BV s'.al).2=M s'.fl
def anv:∀s,bw s->NO s:=by
 rintro s ⟨h0,⟨h1,h2,h3⟩,h4,h5,h6,h7⟩
 have hj:=Ml.1 h1
 have hs0:0<=s.Du:=by have:0<=(M s.fl:Y).tdiv s.se:=(by rw [IL A0];exact Su A0 A0);omega
 have hz0:(s.other+1)*s.Du=s.other*s.Du+s.Du:=A8
 have ho:0<=s.other*s.Du:=A8
 exact ⟨⟨A0,A0⟩,⟨h1,h2,h3⟩,h4,⟨A8,A0⟩,h6,h7⟩
def VF (s:H7) (hI:NO s) (c1:an (s.i<GW s)=U):reI s=(M s.al:Y)-1/\Bj s=BV s.al/\AA (s.i*s.se)=s.i*s.se/\AA (AA (s.i+1)*s.se)=s.i*s.se+s.se/\AA (s.i+1)=s.i+1/\
  IK (BV s.al).1 (BV s.al).2 s.i=0/\EA (BV s.al).1 (BV s.al).2 s.i=La (BV s.al).1 (BV s.al).2 s.i/\M (La (BV s.al).1 (BV s.al).2 s.i)=s.se.toNat+1/\0<=s.i*s.se/\s.i*s.se+s.se<=(M s.fl:Y)/\1<=s.se/\s.se<=512/\s.i<GW s/\0<=s.i/\s.i<=4096/\M s.fl<=4096/\GW s=(s.other+1)*s.Du:=by
 obtain ⟨h0,⟨h1,h2,h3⟩,h4,h5,h6,h7⟩:=hI
 have hj:=Ml.1 h1
 have hf:=Nn.1 hj.1
 have hq:(M s.fl:Y).tdiv s.se<=(M s.fl:Y):=aO6
 have hp:=Ol.2 h5.1
 have hz0:(s.other+1)*s.Du=s.other*s.Du+s.Du:=by rw [Zy,Zz]
 have ho:s.other*s.Du=0\/s.other*s.Du=s.Du:=by rcases h2 with e|e<;>rw [e]<;>simp
 have hz:GW s=s.other*s.Du+s.Du:=by unfold GW;rw [AJ (x:=s.other+1),hz0];exact AJ
 have c1:s.i<GW s:=DH c1
 have hi:reI s=(M s.al:Y)-1:=AJ
 have hk:=ajJ h1 (i:=s.i) A0 A0
 have hfl:Hh s.se (BV s.al).2=true:=by rw [sI h7];exact hj.1
 have hE:IK (BV s.al).1 (BV s.al).2 s.i=0:=by unfold IK;rw [h6,hfl,h7,AE A8]
 refine ⟨hi,by unfold Bj BV GU;rw [hi];rfl,AJ,by rw [AJ (x:=s.i+1),hk.2.1];exact AJ,AJ,hE,AD hE,by unfold La;rw [h6];simp,A0,A0,A0,A0,c1,A0,A0,A0,A0⟩
def aa4 (s:H7) (hI:NO s) (c1:an (s.i<GW s)=U):kF (J4 s):=by
 obtain ⟨hi,hy,w1,w2,wi,hE,hR,hl,n1,n2,n3,n4,n5,n6,n7,n8,n9⟩:=VF s hI c1;refine ⟨rfl,?_,rfl⟩
 show ((M (List.take _<|List.drop _ s.fl):aVx):Y)<=4096
 simp only [MT,FN];omega
def anu (s:H7) (hI:NO s):(M s.al:Y)<=3000000:=by
 obtain ⟨h0,⟨h1,h2,h3⟩,h4,h5,h6,h7⟩:=hI
 have hj:=Ml.1 h1
 have hq:(M s.fl:Y).tdiv s.se<=(M s.fl:Y):=aO6
 have hz0:(s.other+1)*s.Du=s.other*s.Du+s.Du:=A8
 have ho:s.other*s.Du=0\/s.other*s.Du=s.Du:=A8
 omega
def aLL (s:H7) (hI:NO s) (c1:an (s.i<GW s)=U):BV (s.al++(La (BV s.al).1 (BV s.al).2 s.i).drop 1)=(s.se,Es (BV s.al).2 (s.i*s.se) s.se.toNat):=by
 obtain ⟨hi,hy,w1,w2,wi,hE,hR,hl,n1,n2,n3,n4,n5,n6,n7,n8,n9⟩:=VF s hI c1;rw [hI.2.2.2.2.1];exact s9 (f:=λk=>(s.se,Es (BV s.al).2 (s.i*s.se) k)) (n:=s.se.toNat) A0 s.al
def akJ:Da NO Xl xI VD:=by
 intro s hI;unfold VD;dsimp only [T.rd,T.rl,T.rv];refine AH (λc1=>?_) λc1=>⟨rfl,hI.2.2.1,⟨hI.2.2.2.1.1,anu s hI⟩,hI.2.2.2.2.1,hI.2.2.2.2.2⟩
 have hL:=aLL s hI c1
 obtain ⟨hi,hy,w1,w2,wi,hE,hR,hl,n1,n2,n3,n4,n5,n6,n7,n8,n9⟩:=VF s hI c1;obtain ⟨h0,hK,h4,h5,h6,h7⟩:=hI
 have st:∀al:aVV,al≠ []->(M al:Y)<=601+600*s.i->(BV al).1=s.se->M (BV al).2=M s.fl->NO {s with i:=s.i+1,al:=al}/\Xl {s with i:=s.i+1,al:=al}<Xl s:=λal a1 a2 a3 a4=>
  ⟨⟨⟨Ac,Ac⟩,hK,h4,⟨a1,Ac⟩,a3,a4⟩,by simp only [Xl];show (GW s-(s.i+1)).toNat<_;omega⟩
 rw [wi];refine AH (λc2=>AH (λc3=>AH (λc4=>?_) λc4=>?_) λc3=>?_) λc2=>?_
 ·grind
 ·rw [hy,hR,Di (by rw [FN,hl];omega)]
  refine st _ (by simp [h5.1]) A8 ?_ ?_
  ·grind
  ·show M (BV<|s.al++List.drop 1 _).2=_;rw [hL,dC];exact h7
 all_goals exact st s.al h5.1 A0 h6 h7
def QE:AS H7:=⟨0,97,[1,6,8,9,10,11,12,13],[],λs=>[.xl (.sl<|.int aw) s.keep,.own 0 0,s.half,.own 1 0,s.other,.fn 200 [.own 2 0],s.Du,s.i],λs=>[⟨[s.XH,.v<|ag ax s.W7,.xl (.sl<|.int aw) s.pZ,s.UY,s.JC],255,.cl,X⟩,⟨[.os 3 2 0<|M s.al,s.er],327,.cl,X⟩,⟨[s.se,.xl (.int aw) s.fl],37,.cl,X⟩,bV 37 Bo s.al],λv b=>⟨B9 (.sl<|.int aw) v 0,AL v 2,AL v 4,AL v 6,AL v 7,Ak b 0 0,Ak b 0 1,AG (.sl<|.int aw) b 0 2,Ak b 0 3,Lc b 0 4,Ak b 1 1,Ak b 2 0,AG (.int aw) b 2 1,Ad Bo b 3⟩,VD,λs r=> {r with keep:=s.keep,half:=s.half,other:=s.other,Du:=s.Du,XH:=s.XH,W7:=s.W7,pZ:=s.pZ,UY:=s.UY,JC:=s.JC,se:=s.se,fl:=s.fl},λs=>s,λ_ s=>s,[.exit 0],bw,NO,Xl⟩
abbrev F7:=QE.run
abbrev aTR:=QE.Au
def akn:Rq NO VD:=by
 intro s hI;refine ⟨λc1=>⟨?_,A9,?_,λc2=>⟨λc3=>⟨?_,?_,λc4=>⟨A9,ak⟩,λc4=>⟨?_,?_,?_,ak⟩⟩,λc3=>⟨A9,ak⟩⟩,λc2=>⟨λc5=>⟨?_,?_,λc6=>⟨A9,ak⟩,λc6=>⟨?_,?_,?_,ak⟩⟩,λc5=>⟨A9,ak⟩⟩⟩,λc1=>⟨A9,ak⟩⟩
 ·(have hI':=hI.2.2.2.1;have hp:=Ol.2 hI'.1;obtain ⟨hi,hy,w1,w2,wi,hE,hR,hl,n1,n2,n3,n4,n5,n6,n7,n8,n9⟩:=VF s hI c1;(first|(rw [w1,w2];omega) |(rw [hi];omega) |(rw [hy,hR,hl];omega) |(rw [hy,hR,Di AI,FN,hl];omega) |(simp only [BI,Ez])))
 ·exact ⟨aa4 s hI c1,rfl,rfl⟩
 iterate 10 · (have hI':=hI.2.2.2.1;have hp:=Ol.2 hI'.1;obtain ⟨hi,hy,w1,w2,wi,hE,hR,hl,n1,n2,n3,n4,n5,n6,n7,n8,n9⟩:=VF s hI c1;(first|(rw [w1,w2];omega) |(rw [hi];omega) |(rw [hy,hR,hl];omega) |(rw [hy,hR,Di AI,FN,hl];omega) |(simp only [BI,Ez])))
def ag4:Ay:=IJ X5 (la 2 func200 rY<|l0 X5) [⟨196,Uj.m,iC⟩,⟨202,R2 λa=>UO.m a [],wR⟩]
def aB1:QE.Ok:={}
def aAk:QE.Pf (xI):=⟨anv,λs h=>rfl,akJ,akn⟩
def axh:SA 0 aKM QE:=s1 aB1 aAk X5 ag4
def ay1:Fi bw NO xI aTR F7:=AS.fin aB1 aAk
def ay0:Rs bw aTR F7 (λs:H7=>Fx s.se s.fl s.i (GW s-s.i).toNat (s.al,(BV s.al).2)) (λx s' (v:List Fl×List Int)=>x=.exit 0/\(s'.al,(BV s'.al).2)=v):=DZ aB1 aAk (λs hI=>by
  show DV _ _ ((VD s).rd s)
  unfold VD;dsimp only [T.rd,T.rl];refine AH (λc1=>?_) λc1=>?_
  ·have hL:=aLL s hI c1
   have q:(fU (J4 s)=.ret/\(ry<|J4 s).r=U/\(((J4 s)).l.drop ((J4 s)).i.toNat).all (λb=>b==255)=X)\/(fU (J4 s)=.exit 0/\(((J4 s)).l.drop ((J4 s)).i.toNat).all (λb=>b==255)=U):=as2 _<|aa4 s hI c1
   obtain ⟨hi,hy,w1,w2,wi,hE,hR,hl,n1,n2,n3,n4,n5,n6,n7,n8,n9⟩:=VF s hI c1
   have e:((J4 s)).l.drop ((J4 s)).i.toNat=(s.fl.drop (s.i*s.se).toNat).take s.se.toNat:=by
    show List.drop 0 (List.take _<|List.drop _ s.fl)=_
    grind
   have hw:isW s.se s.fl s.i=!((((J4 s)).l.drop ((J4 s)).i.toNat).all λb=>b==255):=by unfold isW;rw [e]
   have hn:(GW s-s.i).toNat=(GW s-(s.i+1)).toNat+1:=A0
   have h6:=hI.2.2.2.2.1
   rw [hn,wi];simp only [Fx];refine AH (λc2=>AH (λc3=>AH (λc4=>?_) λc4=>?_) λc3=>?_) λc2=>?_
   ·grind
   ·rcases q with ⟨_,_,q3⟩ |⟨q1,_⟩
    ·rw [hy,hR,Di AI,hw,q3]
     show Fx s.se s.fl (s.i+1) (GW s-(s.i+1)).toNat (s.al++List.drop 1 _,(BV<|s.al++List.drop 1 _).2)=_
     rw [hL,h6];rfl
    ·rw [Wm c2] at q1;cases q1
   ·rcases q with ⟨_,q2,_⟩ |⟨q1,_⟩
    ·rw [q2] at c3;cases c3
    ·rw [Wm c2] at q1;cases q1
   ·rcases q with ⟨q1,_,_⟩ |⟨_,q2⟩
    ·rw [q1] at c2;simp [Bs] at c2
    ·rw [hw,q2]
     rfl
  ·have c1:GW s<=s.i:=AY
   rw [show (GW s-s.i).toNat=0 by omega]
   exact ⟨rfl,rfl⟩)
structure NM where
 (half other:Y)
 l:aVD
 (n i er:Y)
 bytes:aVw
 al:aVV
def aKN:=bN f162 1
def aD7 (s:NM):T (Rd NM):=
 .br (an<|s.i<s.n) (.ix s.i (M s.l)<|.req (M (gx (e:=.sl<|.int aw) s.l s.i)<=70000)<|.rb (M s.bytes) (M<|Bw<|gx (e:=.sl<|.int aw) s.l s.i) 1<|.re (M s.bytes+M (Bw<|gx (e:=.sl<|.int aw) s.l s.i)) (s.bytes++(Bw<|gx (e:=.sl<|.int aw) s.l s.i))<|.rl s.al<|.nx {s with i:=AA<|s.i+1,bytes:=s.bytes++(Bw<|gx (e:=.sl<|.int aw) s.l s.i)}) (.rl s.bytes<|.rl s.al<|.so (.exit 2) s)
def oU (s:NM):Prop:=s.i=0/\s.n<=5000/\s.n=(M s.l:Y)/\IA s.l/\(M s.bytes:Y)<=4+70100*s.i
def oL (s:NM):Prop:=0<=s.i/\s.i<=s.n/\s.n<=5000/\s.n=(M s.l:Y)/\IA s.l/\(M s.bytes:Y)<=4+70100*s.i
def aB9 (s:NM):aVx:=(s.n-s.i).toNat
def aLj (x:Ex) (s s':NM):Prop:=True
def anw:∀s,oU s->oL s:=by
 exact aE
def akQ:Da oL aB9 aLj aD7:=by
 intro s hI;obtain ⟨h0,h1,h2,h3,h4,h5⟩:=hI;refine AH (λc1=>?_) λc1=>trivial
 ·have c1:s.i<s.n:=A8
  have hk:=Wy h4 h0 A0
  have hp:=Mh<|gx (e:=.sl<|.int aw) s.l s.i
  rw [AJ (x:=s.i+1)];exact ⟨⟨A8,A8,h2,h3,h4,A8⟩,by simp only [aB9];omega⟩
def QF:AS NM:=⟨0,97,[8,9,10,14,69,70,71],[],λs=>[s.half,.own 0 0,s.other,.os 1 1 0<|M s.bytes,.xl (.sl<|.int aw) s.l,s.n,s.i],λs=>[⟨[.os 2 2 0<|M s.al,s.er],327,.cl,X⟩,bV 5 (.int aw) s.bytes,bV 37 Bo s.al],λv b=>⟨AL v 0,AL v 2,B9 (.sl<|.int aw) v 4,AL v 5,AL v 6,Ak b 0 1,Ad (.int aw) b 1,Ad Bo b 2⟩,aD7,λs r=> {s with i:=r.i,bytes:=r.bytes},λs=>s,λ_ s=>s,[.exit 2],oU,oL,aB9⟩
abbrev Nw:=QF.run
abbrev ahH:=QF.Au
def ako:Rq oL aD7:=by
 intro s hI;refine ⟨λc1=>⟨?_,?_,?_,?_,A9,ak⟩,λc1=>⟨A9,A9,ak⟩⟩
 all_goals ((obtain ⟨h0,h1,h2,h3,h4,h5⟩:=hI;have c1:s.i<s.n:=A8;have hk:=Wy h4 h0 A0;have hp:=Mh<|gx (e:=.sl<|.int aw) s.l s.i;(first|omega|(simp only [CX,BI];omega) |simp only [CX,BI,Ez])))
def XT:aVI:=[gA,aA8,aVd,ir,aaM,dY]
def vY:Ay:=IJ XT (la 2 func200 rY<|l0 XT) [⟨196,Uj.m,iC⟩,⟨202,R2 λa=>UO.m a [],wR⟩]
def abB:QF.Ok:={}
def aaG:QF.Pf (aLj):=⟨anw,λs h=>rfl,akQ,ako⟩
def axi:SA 0 aKN QF:=s1 abB aaG XT vY
def ay2:Rs oU ahH Nw (λs:NM=>s.bytes++BR (s.l.drop s.i.toNat)) (λx s' (v:aVw)=>x=.exit 2/\s'.bytes=v):=DZ abB aaG (λs hI=>by
  obtain ⟨h0,h1,h2,h3,h4,h5⟩:=hI;refine AH (λc1=>?_) λc1=>?_
  ·have c1:s.i<s.n:=A8
   rw [AJ (x:=s.i+1)]
   show _++_++_=_++_
   rw [Wo h0 A0];simp only [BR,mK,Cx,CX]
  ·have c1:s.n<=s.i:=A8
   refine ⟨rfl,?_⟩;rw [Ew A0]
   simp [BR])
def aTG:VL:=λi=>if i=21 then ah ([8,9,10,14],[.pb 14<|.int aw]) else if i=22 then ah ([8,9,10],[]) else aj
def aTr:aVy->T LV
 | [.agg [.v (ag J se),.xl (.int aw) fl],.xl (.sl (.int aw)) ds]=> .req (BN fl/\M ds<=5000/\IA ds) (.ok<|.AO [.xl Bo<|G7 se fl ds,G8 se fl ds])
 |_=> .no
def akX {se:Y}{fl:aVw}(h:FC se fl=U):letI a:=((M fl / 2:aVx):Y);a.tdiv se*2=(M fl:Y).tdiv se/\0<=a.tdiv se/\a.tdiv se<=2048:=by
 obtain ⟨hf,h2,h3,h4,h5⟩:=Ml.1 h
 have e:=xr (M fl:Y) se
 rw [(Nn.1 hf).2.2.2.2,Int.add_zero] at e
 have e2:=xr ((M fl:Y).tdiv se) 2
 have e3:((M fl / 2:aVx):Y)=se*((M fl:Y).tdiv se).tdiv 2:=by
  have:se*(M fl:Y).tdiv se=2*(se*((M fl:Y).tdiv se).tdiv 2):=A8
  omega
 have e4:((M fl / 2:aVx):Y).tdiv se=((M fl:Y).tdiv se).tdiv 2:=by rw [e3];exact Int.mul_tdiv_cancel_left _ A0
 have hq:0<=((M fl / 2:aVx):Y).tdiv se/\((M fl / 2:aVx):Y).tdiv se<=((M fl / 2:aVx):Y):=by
  rw [IL A0];exact ⟨Su A0 A0,Vb _ A0⟩
 omega
def az9 (l:aVw):0<=H8 l/\H8 l<4294967296:=by
 unfold H8 nm4 Dc;rw [TP];omega
def aTF (fl:aVw):Av fl=0\/Av fl=1:=aOZ
def FT (se:Y) (fl:aVw) (ds:aVD):H7:=(⟨ds,AA<|(M fl:Y).tdiv 2,AA<|1-(Em se fl),AA<|(AA<|(M fl:Y).tdiv 2).tdiv se,AA<|(AA<|1-(Em se fl))*(AA<|(AA<|(M fl:Y).tdiv 2).tdiv se),Em se fl,Ig se fl,F9 se fl,HO se fl,L1 se fl,0,se,fl,[(se,((([]:aVw)++fl).drop 0).take<|0+M fl)]⟩:H7)
def Mo (se:Y) (fl:aVw) (ds:aVD):NM:=(⟨AA<|(M fl:Y).tdiv 2,AA<|1-(Em se fl),ds,(M ds:Y),0,(F7<|FT se fl ds).er,D6<|IntKind.u32.wrap<|(Ig se fl)+1,(F7<|FT se fl ds).al⟩:NM)
def aoF (se:Y) (fl:aVw) (ds:aVD):H0:=(⟨AA<|(AA<|(AA<|1-(Em se fl))*(AA<|(M fl:Y).tdiv 2))+1,((Nw<|Mo se fl ds).bytes.drop 0).take<|M (Nw<|Mo se fl ds).bytes,(F7<|FT se fl ds).er,(F7<|FT se fl ds).al⟩:H0)
def aoE (se:Y) (fl:aVw) (ds:aVD):H0:=(⟨AA<|(AA<|1-(Em se fl))*(AA<|(M fl:Y).tdiv 2),[(80:Y)],JX (F7<|FT se fl ds).al (F7<|FT se fl ds).er (AA<|(AA<|(AA<|1-(Em se fl))*(AA<|(M fl:Y).tdiv 2))+1)<|((Nw<|Mo se fl ds).bytes.drop 0).take<|M (Nw<|Mo se fl ds).bytes,LP (F7<|FT se fl ds).al (AA<|(AA<|(AA<|1-(Em se fl))*(AA<|(M fl:Y).tdiv 2))+1)<|((Nw<|Mo se fl ds).bytes.drop 0).take<|M (Nw<|Mo se fl ds).bytes⟩:H0)
def rwX (se:Y) (fl:aVw) (ds:aVD):Y:=(AA<|(AA<|1-(Em se fl))*(AA<|(M fl:Y).tdiv 2))
def rwY (se:Y) (fl:aVw) (ds:aVD):aVw:=(((Nw<|Mo se fl ds).bytes.drop 0).take<|M (Nw<|Mo se fl ds).bytes)
def NP (se:Y) (fl:aVw) (ds:aVD):aVV:=(LP (F7<|FT se fl ds).al (AA<|(rwX se fl ds)+1)<|rwY se fl ds)
def rwW (se:Y) (fl:aVw) (ds:aVD):Y:=(JX (F7<|FT se fl ds).al (F7<|FT se fl ds).er (AA<|(rwX se fl ds)+1)<|rwY se fl ds)
def rwA (se:Y) (fl:aVw) (ds:aVD):aVV:=(LP (NP se fl ds) (rwX se fl ds)<|[(80:Y)])
def azF (se:Y) (fl:aVw) (ds:aVD):letI b:=(AA<|(M fl:Y).tdiv 2);letI c:=FT se fl ds;letI d:=IntKind.u32.wrap<|(Ig se fl)+1;letI e:=rwA se fl ds;letI f:=NP se fl ds;letI a:=(JX f (rwW se fl ds) (rwX se fl ds)<|[(80:Y)]);jY prog AV (XT) vY (λi=>if i=11 then QE.lp else if i=17 then QF.lp else Al i) aTG f162 [.agg [se,.xl (.int aw) fl],.xl (.sl<|.int aw) ds]=.req (BN fl) (.br ((Bu se fl) !=0) (.ok<|.AO [.xl Bo ([]:aVV),Bu se fl])<|.req ((2:Y)≠0)<|.req ((M ds<=5000/\IA ds)/\5<=b/\b<=100000)<|.br ((!(Jc (b-5) ds)) ||((Ig se fl)==4294967295)) (.ok<|.AO [.xl Bo ([]:aVV),(10:Y)])<|.ra 0 (M ([]:aVw)) (0+M fl) 1<|.req (0+(0+M fl)<=M (([]:aVw)++fl))<|.rv (.v<|ag J<|Em se fl)<|.req (se≠0)<|.re 1 [(se,((([]:aVw)++fl).drop 0).take<|0+M fl)]<|.req (QE.q c)<|.req (aiw (⟨d⟩:OU))<|.rl (D6 d)<|.rl (F7 c).al<|.req (QF.q<|Mo se fl ds)<|.rz (Nw<|Mo se fl ds).bytes<|.rl (F7 c).al<|.rl (F7 c).al<|.req (hM<|aoF se fl ds)<|.rl f<|.rl f<|.req (hM<|aoE se fl ds)<|.br (!(a==(0:Y))) (.ok<|.AO [.xl Bo ([]:aVV),a])<|.rz e<|.ok<|.AO [.xl Bo<|(e.drop 0).take<|M e,(0:Y)]):=AU
def aUz:VV 162 (uS f162 aTr):=aEO (cs:=aTG) func162 rfl (gk XT) vY.h (L:=(λi=>if i=11 then QE.lp else if i=17 then QF.lp else Al i)) (λb hb=>by
 rw [show BE _=[aKM,aKN] by kernel_rfl] at hb
 simp only [BB,Bx,By] at hb;rcases hb with rfl|rfl
 ·exact axh
 ·exact axi) (λargs lv h=>by
 unfold aTr at h;split at h
 ·simp only [canL,canX]
  rw [azF];rename_i se fl ds;obtain ⟨⟨hb,hn,hk⟩,rfl⟩:=h
  have bad:∀e:Y,e≠0->G8 se fl ds=e->LV.AO [.xl Bo ([]:aVV),.v<|ag J e]=LV.AO [.xl Bo<|G7 se fl ds,.v<|ag J<|G8 se fl ds]:=λe h0 h1=>by unfold G7;rw [h1,AE h0]
  refine ⟨hb,λc1=>?_,λc1=>?_⟩
  ·have c1:Bu se fl≠0:=AY
   exact bad _ c1 (by unfold G8;rw [AD c1])
  have hE:Bu se fl=0:=AY
  have hj:FC se fl=true:=by
   cases e:FC se fl
   ·unfold Bu at hE;rw [AD e] at hE;cases hE
   ·rfl
  have hq:=Ml.1 hj
  have hh:AA ((M fl:Y).tdiv 2)=((M fl / 2:aVx):Y):=by
   exact aNU
  have hA:Em se fl=Av fl:=aPW
  have hG:Ig se fl=JS fl (Av fl):=by unfold Ig;rw [AD hE]
  have hc:=aTF fl
  have w0:AA (1-Av fl)=1-Av fl:=AJ
  have hF:Jc (((M fl / 2:aVx):Y)-5) ds=rwF fl ds:=by
   rw [aSz _ _ A0];unfold rwF
   congr 1
   rw [decide_eq_decide];omega
  refine ⟨Aa,⟨⟨hn,hk⟩,by rw [hh];omega,by rw [hh];omega⟩,λc2=>?_,λc2=>?_⟩<;>rw [hh,hF,hG] at c2
  ·exact bad 10 Aa (by unfold G8;rw [AE zN,AD c2])
  have hR:G8 se fl ds=0:=by unfold G8;rw [AE zN,AE bR]
  simp only [Ge,IP,CT,ne_eq] at c2
  have hsum:5+M (BR ds)<=M fl / 2:=by
   have:=c2.1
   unfold rwF at this;simp only [AX,Ab] at this;rw [qm];exact this.1
  obtain ⟨k1,k2,k3⟩:=akX hj
  have hm:∀x:Y,0<=x->x<=2048->AA ((1-Av fl)*x)=(1-Av fl)*x/\0<=(1-Av fl)*x/\(1-Av fl)*x<=x:=λx x0 x1=>by
   have:(1-Av fl)*x=0\/(1-Av fl)*x=x:=aOU
   exact ⟨AJ,A0,A0⟩
  have hst:FT se fl ds=⟨ds,((M fl / 2:aVx):Y),1-Av fl,((M fl / 2:aVx):Y).tdiv se,(1-Av fl)*((M fl / 2:aVx):Y).tdiv se,Av fl,Ig se fl,F9 se fl,HO se fl,L1 se fl,0,se,fl,[(se,fl)]⟩:=by
   unfold FT;rw [hh,hA,w0,AJ (x:=((M fl / 2:aVx):Y).tdiv se),(hm _ k2 k3).1,ES,CX,Eh,Eg]
  have hE0:bw (FT se fl ds):=by rw [hst];exact ⟨rfl,⟨hj,by show 1-Av fl=0\/1-Av fl=1;omega,k1⟩,rfl,rfl,rfl,rfl⟩
  obtain ⟨_,_,q1,q2,q3,q4,q5⟩:=ay1 _ hE0
  have q6:((F7<|FT se fl ds).al,(BV (F7<|FT se fl ds).al).2)=Hg se fl:=by
   have:=(ay0 _ hE0).2
   rw [this,hst];unfold Hg
   have hz:GW ⟨ds,((M fl / 2:aVx):Y),1-Av fl,((M fl / 2:aVx):Y).tdiv se,(1-Av fl)*((M fl / 2:aVx):Y).tdiv se,Av fl,Ig se fl,F9 se fl,HO se fl,L1 se fl,0,se,fl,[(se,fl)]⟩=(1-Av fl)*((M fl / 2:aVx):Y).tdiv se+((M fl / 2:aVx):Y).tdiv se:=by
    have:=hm _ k2 k3
    show AA (AA (1-Av fl+1)*((M fl / 2:aVx):Y).tdiv se)=_
    rw [AJ (x:=1-Av fl+1),Zy,Zz];exact AJ
   show Fx se fl _ (GW _-(1-Av fl)*((M fl / 2:aVx):Y).tdiv se).toNat _=_
   rw [hz]
   congr 1
   omega
  have r1:(F7<|FT se fl ds).se=se/\(F7<|FT se fl ds).fl=fl:=by rw [hst];exact ⟨rfl,rfl⟩
  rw [r1.1] at q4;rw [r1.2] at q5
  have q7:(BV (F7<|FT se fl ds).al).2=(Hg se fl).2:=B2 Prod.snd q6
  have hl:BV (F7<|FT se fl ds).al=(se,(Hg se fl).2):=Prod.ext q4 q7
  have ha:(F7<|FT se fl ds).al=(Hg se fl).1:=B2 Prod.fst q6
  have hEb:oU (Mo se fl ds):=⟨rfl,aOa,rfl,hk,by show ((4:aVx):Y)<=4+70100*0;decide⟩
  have hY:rwY se fl ds=Ed fl ds:=by
   have q:=(ay2 _ hEb).2
   have hg:=az9<|((Bq fl<|Av fl).drop 1).take 4
   have hw:IntKind.u32.wrap (Ig se fl+1)=JS fl (Av fl)+1:=by
    have:=c2.2
    rw [hG,TP];unfold JS at*;omega
   unfold rwY Ed;rw [CX,Eg,q,<-hw];rfl
  have hX:rwX se fl ds=HA fl:=by unfold rwX HA;rw [hA,w0,hh];exact (hm _ A0 A0).1
  obtain ⟨_,o1,o2⟩:=hm ((M fl / 2:aVx):Y) A0 A0
  have oO:HA fl=(1-Av fl)*((M fl / 2:aVx):Y):=rfl
  have hX1:AA (rwX se fl ds+1)=HA fl+1:=by rw [hX];exact AJ
  have hBl:M (Ed fl ds)=4+M (BR ds):=by unfold Ed;rw [BI];rfl
  rw [hl] at q5
  have q5:M (Hg se fl).2=M fl:=q5
  have hv:∀b:aVw,M b=M fl->Hh se b=true:=λb e=>by rw [sI e];exact hq.1
  have p1:FF se (Hg se fl).2 (HA fl+1) (Ed fl ds)=0:=by
   unfold FF
   grind
  have hV:NP se fl ds=(Hg se fl).1++(Dy se (Hg se fl).2 (HA fl+1)<|Ed fl ds).drop 1:=by
   unfold NP LP;rw [hX1,hY,hl,AD p1,ha]
  have hW:rwW se fl ds=0:=by unfold rwW JX;rw [hX1,hY,hl,AD p1];exact q2
  have hlV:BV (NP se fl ds)=(se,LQ se fl ds):=by
   rw [hV];unfold Dy;exact s9 (f:=λk=>(se,Ds (Hg se fl).2 (HA fl+1) (Ed fl ds) k)) (n:=M<|Ed fl ds) A0 _
  have p2:FF se (LQ se fl ds) (HA fl) [80]=0:=by
   have:M (LQ se fl ds)=M fl:=by unfold LQ;rw [TY];exact q5
   unfold FF
   grind
  have hAA:rwA se fl ds=G7 se fl ds:=by
   unfold rwA LP G7;rw [hX,hlV,AD p2,AD hR,hV,Cx]
  have hz:JX (NP se fl ds) (rwW se fl ds) (rwX se fl ds) [80]=0:=by unfold JX;rw [hX,hlV,AD p2];exact hW
  have hVl:M (NP se fl ds)<=3100000:=by
   have:=q3.2
   rw [hV,<-ha,BI,FN];unfold Dy;rw [GG,T2,hBl];omega
  refine ⟨⟨Aa,A0,A0⟩,AI,rfl,A0,AI,⟨hE0,rfl,rfl⟩,⟨ak,rfl,rfl⟩,A9,A9,⟨hEb,rfl,rfl⟩,A0,A9,A9,⟨⟨q3.1,by show M (F7<|FT se fl ds).al<=4000000;omega,by show M (rwY se fl ds)<=5000;rw [hY,hBl];omega⟩,rfl,rfl⟩,A9,A9,⟨⟨?_,by show M (NP se fl ds)<=4000000;omega,by show 1<=5000;decide⟩,rfl,rfl⟩,λc=>?_,λ_=>⟨A0,?_⟩⟩
  ·show NP se fl ds≠ []
   intro hn
   have:BV (NP se fl ds)=BV []:=by rw [hn]
   rw [hlV] at this
   have:=B2 Prod.fst this
   have:se=0:=this
   omega
  ·rw [hz] at c;cases c
  ·rw [CX,Eg,hAA,hR]
   rfl
 ·cases h)
def aUe:aVy->T LV
 | [.agg [.v (ag J se),.xl (.int aw) fl],.xl (.int aw) d]=> .req (BN fl/\M d<=70000/\(Bu se fl=0->MP fl=U)) (.ok<|.AO [.xl Bo<|Hj se fl d,FB se fl d])
 |_=> .no
def aQA (se:Y) (fl:aVw) (a:Y) (d:aVw):[(se,fl)]++(Dy se fl a d).drop 1=Dy se fl a d:=by
 unfold Dy;rw [List.range_succ_eq_map];rfl
def agq {fl:aVw}(h:10<=M fl):(Et fl).2.1<=M fl / 2:=by
 have:=dA fl<|Av fl
 have:=vj (b:=Bq fl<|Av fl) (n:=M<|Bq fl<|Av fl) (f:=5) A0
 unfold Et;omega
def aoD (se:Y) (fl d:aVw):H0:=(⟨AA<|(AA<|(AA<|(Em se fl)*(AA<|(M fl:Y).tdiv 2))+(HO se fl))+1,((Bw d).drop (1:Y).toNat).take<|(M (Bw d):Y).toNat-(1:Y).toNat,0,[(se,((([]:aVw)++fl).drop 0).take<|0+M fl)]⟩:H0)
def aoC (se:Y) (fl d:aVw):H0:=letI a:=(AA<|(AA<|(Em se fl)*(AA<|(M fl:Y).tdiv 2))+(HO se fl));letI b:=(((Bw d).drop (1:Y).toNat).take<|(M (Bw d):Y).toNat-(1:Y).toNat);letI c:=(se,((([]:aVw)++fl).drop 0).take<|0+M fl);(⟨a,((Bw d).drop (0:Y).toNat).take<|(1:Y).toNat-(0:Y).toNat,JX ([c]) (0:Y) (AA<|a+1) b,LP ([c]) (AA<|a+1) b⟩:H0)
def axP (se:Y) (fl d:aVw):Y:=(AA<|(AA<|(Em se fl)*(AA<|(M fl:Y).tdiv 2))+(HO se fl))
def axY (se:Y) (fl d:aVw):aVw:=(((Bw d).drop (1:Y).toNat).take<|(M (Bw d):Y).toNat-(1:Y).toNat)
def axZ (se:Y) (fl d:aVw):aVw:=(((Bw d).drop (0:Y).toNat).take<|(1:Y).toNat-(0:Y).toNat)
def axQ (se:Y) (fl d:aVw):aVV:=([(se,((([]:aVw)++fl).drop 0).take<|0+M fl)])
def MR (se:Y) (fl d:aVw):aVV:=(LP (axQ se fl d) (AA<|(axP se fl d)+1)<|axY se fl d)
def axW (se:Y) (fl d:aVw):Y:=(JX (axQ se fl d) (0:Y) (AA<|(axP se fl d)+1)<|axY se fl d)
def axA (se:Y) (fl d:aVw):aVV:=(LP (MR se fl d) (axP se fl d)<|axZ se fl d)
def gY:aVI:=[gA,aUz,aA8,ir,dY]
def aSk:Ay:=IJ gY (la 2 func200 rY<|l0 gY) [⟨196,Uj.m,iC⟩]
def az4 (se:Y) (fl d:aVw):letI a:=(M (Bw d):Y);letI b:=JX (MR se fl d) (axW se fl d) (axP se fl d)<|axZ se fl d;letI c:=axA se fl d;jY prog AV (gY) aSk Al aTI f159 [.agg [se,.xl (.int aw) fl],.xl (.int aw) d]=.req (BN fl) (.br ((Bu se fl) !=0) (.ok<|.AO [.xl Bo ([]:aVV),Bu se fl])<|.req ((2:Y)≠0)<|.br ((an<|(M d:Y)>65535) ||(an<|(AA<|7+(M d:Y))>(AA<|(AA<|(M fl:Y).tdiv 2)-(HO se fl)))) (.ok<|.AO [.xl Bo ([]:aVV),(10:Y)])<|.br (!(L1 se fl)) (.no /-append to xl -/)<|.ra 0 (M ([]:aVw)) (0+M fl) 1<|.req (0+(0+M fl)<=M (([]:aVw)++fl))<|.rv (.v<|ag J<|Em se fl)<|.rv (.v<|ag J<|HO se fl)<|.req (M d<=70000)<|.re 1 (axQ se fl d)<|.req (0<=(1:Y)/\(1:Y)<=a/\a<=a)<|.rl (axQ se fl d)<|.req (hM<|aoD se fl d)<|.rl (MR se fl d)<|.req (0<=(0:Y)/\(0:Y)<=(1:Y)/\(1:Y)<=a)<|.rl (MR se fl d)<|.req (hM<|aoC se fl d)<|.br (!(b==(0:Y))) (.ok<|.AO [.xl Bo ([]:aVV),b])<|.rz c<|.ok<|.AO [.xl Bo<|(c.drop 0).take<|M c,(0:Y)]):=AU
def ajM:VV 159 (uS f159 aUe):=aEO (cs:=aTI) func159 rfl (gk gY) aSk.h (qx AU) (λargs lv h=>by
 unfold aUe at h;split at h
 ·simp only [canL,canX]
  rw [az4];rename_i se fl d;obtain ⟨⟨hb,hd,hcl⟩,rfl⟩:=h;refine ⟨hb,λc1=>?_,λc1=>?_⟩
  ·have c1:Bu se fl≠0:=AY
   unfold Hj FB;rw [AD c1,AD c1];rfl
  have hE:Bu se fl=0:=AY
  have hj:FC se fl=true:=by
   cases e:FC se fl
   ·unfold Bu at hE;rw [AD e] at hE;cases hE
   ·rfl
  have hq:=Ml.1 hj
  have hh:AA ((M fl:Y).tdiv 2)=((M fl / 2:aVx):Y):=by
   exact aNU
  have hA:Em se fl=Av fl:=aPW
  have hN:HO se fl=((Et fl).2.1:Y):=by unfold HO;rw [AD hE]
  have hC:L1 se fl=true:=by unfold L1;rw [AD hE];exact hcl hE
  have hl:=agq (fl:=fl) A0
  have hc:=aTF fl
  have hF:((an<|(M d:Y)>65535) ||(an<|(AA<|7+(M d:Y))>(AA<|(AA<|(M fl:Y).tdiv 2)-(HO se fl))))=MS se fl d:=by
   rw [hh,hN,AJ (x:=7+(M d:Y)),AJ (x:=((M fl / 2:aVx):Y)-((Et fl).2.1:Y))];unfold MS;rw [Iw];simp only [Cf,Ab];omega
  have e0:¬Bu se fl≠0:=zN
  refine ⟨Aa,λc2=>?_,λc2=>⟨λc3=>?_,λc3=>?_⟩⟩<;>rw [hF] at c2
  ·unfold Hj FB
   rw [AE e0,AE e0,AD c2,AD c2];rfl
  ·rw [hC] at c3;cases c3
  have hR:Hj se fl d=Hk se fl d:=by unfold Hj;rw [AE e0,AE bR,AD<|hcl hE]
  have hZ0:FB se fl d=0:=by unfold FB;rw [AE e0,AE bR,AD<|hcl hE]
  unfold MS at c2;simp only [Ge,DI] at c2
  have hm:Av fl*((M fl / 2:aVx):Y)=0\/Av fl*((M fl / 2:aVx):Y)=((M fl / 2:aVx):Y):=aOU
  have hP:axP se fl d=Ga fl:=by
   unfold axP Ga;rw [hh,hA,hN,AJ (x:=Av fl*((M fl / 2:aVx):Y))];exact AJ
  have oP:Ga fl=Av fl*((M fl / 2:aVx):Y)+((Et fl).2.1:Y):=rfl
  have hP1:AA (axP se fl d+1)=Ga fl+1:=by rw [hP];exact AJ
  have hpl:=Mh d
  have hY:axY se fl d=(Bw d).drop 1:=by unfold axY;exact Di zM
  have hZ:axZ se fl d=[80]:=rfl
  have hQ:axQ se fl d=[(se,fl)]:=by unfold axQ;rw [ES,CX,Eh,Eg]
  have hYl:M ((Bw d).drop 1)=6+M d:=zM
  have hL0:BV [(se,fl)]=(se,fl):=rfl
  have p1:FF se fl (Ga fl+1) ((Bw d).drop 1)=0:=by
   unfold FF
   grind
  have hV:MR se fl d=Dy se fl (Ga fl+1) ((Bw d).drop 1):=by
   unfold MR LP;rw [hP1,hY,hQ,hL0,AD p1,aQA]
  have hW:axW se fl d=0:=by unfold axW JX;rw [hP1,hY,hQ,hL0,AD p1]
  have hlV:BV (MR se fl d)=(se,apB fl d):=by
   rw [hV,<-aQA];exact s9 (f:=λk=>(se,Ds fl (Ga fl+1) ((Bw d).drop 1) k)) (n:=M<|(Bw d).drop 1) A0 _
  have hBl:M (apB fl d)=M fl:=TY _ _ _ _
  have p2:FF se (apB fl d) (Ga fl) [80]=0:=by
   unfold FF;rw [sI hBl,hq.1,AE (by simp only [Bool.not_true,D5,Ab];omega),AE (by rw [hBl];show ¬Ga fl>(M fl:Y)-((1:aVx):Y);omega)]
  have hAA:axA se fl d=Hk se fl d:=by
   unfold axA LP Hk;rw [hP,hZ,hlV,AD p2,hV]
  have hz:JX (MR se fl d) (axW se fl d) (axP se fl d) (axZ se fl d)=0:=by unfold JX;rw [hP,hZ,hlV,AD p2];exact hW
  have hVl:M (MR se fl d)=7+M d:=by rw [hV];unfold Dy;rw [GG,T2,hYl];omega
  refine ⟨⟨Aa,A0,A0⟩,AI,rfl,rfl,hd,by rw [hQ];exact A9,⟨A0,A0,A0⟩,A9,⟨⟨by show axQ se fl d≠ [];rw [hQ];simp,by show M (axQ se fl d)<=4000000;rw [hQ];show 1<=4000000;decide,by show M (axY se fl d)<=5000;rw [hY,hYl];omega⟩,rfl,rfl⟩,A9,⟨A0,A0,A0⟩,A9,⟨⟨by show MR se fl d≠ [];intro hn;rw [hn] at hVl;simp at hVl;omega,by show M (MR se fl d)<=4000000;omega,by show 1<=5000;decide⟩,rfl,rfl⟩,λc=>?_,λ_=>⟨A0,?_⟩⟩
  ·rw [hz] at c;cases c
  ·rw [CX,Eg,hAA,hR,hZ0]
   rfl
 ·cases h)
def aUI:aVy->T LV
 | [.agg [.v (ag J se),.xl (.int aw) fl],.v (.agg ⟨[ag J x1,ag J x2,ag J x3,ag J x4,ag J x5]⟩),.v (ag J t)]=> .req (BN fl/\(Bu se fl=0->MP fl=U)) (.ok<|.AO [.xl Bo<|Cu se fl (x1,x2,x3,x4,x5) t,EO se fl (x1,x2,x3,x4,x5) t])
 |_=> .no
def ahi:aVI:=[wU,X9,ajM,aUw,ajk,aUz]
def aos {x:Le}:B0 [x]=DM x:=by
 unfold B0;rw [Iw,AX,Dl];refine ⟨λh=>?_,λh=>⟨rfl,λk hk=>?_⟩⟩
 ·have:=h.2 0 AI
  unfold H5 at this;rw [AX] at this;exact this.1
 ·have:k=0:=A8
  subst this;unfold H5;rw [AX];exact ⟨h,rfl⟩
def aak {l:aVG}{x:Le}{t:Y}(h:DQ l t=0):M (Il l x t)<=5000/\IA (Il l x t):=by
 have hk:=aJh h
 unfold Il;rw [AD h];unfold II;refine ⟨?_,λd hd=>?_⟩
 ·simp only [BI,GG,Bk,Bv]
  grind
 ·rcases BZ.1 hd with hd|hd
  ·obtain ⟨y,_,rfl⟩:=F4.1 hd;rw [KV];omega
  ·rcases BZ.1 hd with hd|hd
   ·split at hd
    ·rw [HJ.1 hd,KV];omega
    ·cases hd
   ·rw [HJ.1 hd,KV];omega
def aVk:=vo (S:=aUI) func114 ahi kN (λargs lv h=>by
 unfold aUI at h;split at h
 ·rename_i se fl x1 x2 x3 x4 x5 t
  refine At (letI d:=(B1 (x1,x2,x3,x4,x5));letI g:=Ai se fl;letI i:=BN fl/\M d<=70000/\(Bu se fl=0->MP fl=U);letI k:=FB se fl d;letI b:=(Il g (x1,x2,x3,x4,x5) t);letI f:=(AA<|(M g:Y)-1);letI j:=BN fl/\M b<=5000/\IA b;.req (BN fl)<|.br ((Ce se fl) !=0) (.ok<|.AO [.xl Bo ([]:aVV),(Ce se fl)])<|.br (!(B0<|[(x1,(x2,(x3,(x4,x5))))])) (.ok<|.AO [.xl Bo ([]:aVV),(1:Y)])<|.br (an<|t<0) (.ok<|.AO [.xl Bo ([]:aVV),(1:Y)])<|.br (an<|t>1100000) (.ok<|.AO [.xl Bo ([]:aVV),(1:Y)])<|.br (an<|(M g:Y)>0) (.ix f (M g)<|.br (an<|x1<=(Ao g f).1) (.ok<|.AO [.xl Bo ([]:aVV),(12:Y)])<|.ix f (M g)<|.br (an<|x4<(Ao g f).2.2.2.1) (.ok<|.AO [.xl Bo ([]:aVV),(12:Y)])<|.req i<|.br (k !=10) (.ok<|.AO [.xl Bo<|Hj se fl d,k])<|.br ((DQ g t) !=0) (.ok<|.AO [.xl Bo ([]:aVV),(DQ g t)])<|.req j<|.ok<|.AO [.xl Bo<|G7 se fl b,(G8 se fl b)])<|.req i<|.br (k !=10) (.ok<|.AO [.xl Bo<|Hj se fl d,k])<|.br ((DQ g t) !=0) (.ok<|.AO [.xl Bo ([]:aVV),(DQ g t)])<|.req j<|.ok<|.AO [.xl Bo<|G7 se fl b,(G8 se fl b)]) ?_;obtain ⟨⟨hb,hcl⟩,rfl⟩:=h
  have fin:∀ {a:aVV} {e:Y},Cu se fl (x1,x2,x3,x4,x5) t=a/\EO se fl (x1,x2,x3,x4,x5) t=e->LV.AO [.xl Bo a,.v<|ag J e]=LV.AO [.xl Bo<|Cu se fl (x1,x2,x3,x4,x5) t,.v<|ag J<|EO se fl (x1,x2,x3,x4,x5) t]:=λh=>by rw [h.1,h.2]
  refine ⟨hb,λc1=>fin ?_,λc1=>?_⟩
  ·have c1:Ce se fl≠0:=AY
   unfold Cu EO;rw [AD c1,AD c1];exact ⟨rfl,rfl⟩
  have c1:¬Ce se fl≠0:=AY
  rw [aos]
  have bad:(!DM (x1,x2,x3,x4,x5) || !inB t 0 1100000)=U->Cu se fl (x1,x2,x3,x4,x5) t=[]/\EO se fl (x1,x2,x3,x4,x5) t=1:=λh=>by
   unfold Cu EO;rw [AE c1,AE c1,AD h,AD h];exact ⟨rfl,rfl⟩
  refine ⟨λc2=>fin<|bad (by rw [c2];rfl),λc2=>⟨λc3=>fin<|bad ?_,λc3=>⟨λc4=>fin<|bad ?_,λc4=>?_⟩⟩⟩
  iterate 2
   ·rw [Cf]
    refine .inr ?_
    have e:inB t 0 1100000=false:=by
     cases e:inB t 0 1100000
     ·rfl
     ·have:=BS.1 e
      simp only [Ab,DI] at c3
      try simp only [Ab] at c4
      omega
    rw [e];rfl
  have ht:inB t 0 1100000=true:=BS.2 (by simp only [DI] at c3 c4;omega)
  have hx:DM (x1,x2,x3,x4,x5)=true:=EX
  have hv:=aBW<|Zq.1 c1
  have hE:DQ (Ai se fl) t=0:=by unfold DQ Kz;rw [hv,ht];rfl
  have hb':¬((!DM (x1,x2,x3,x4,x5) || !inB t 0 1100000)=U):=by rw [hx,ht];decide
  have hl:=(GK hv).1
  have w:=λc5:0<M (Ai se fl)=>AJ (x:=(M (Ai se fl):Y)-1)
  have hO:0<M (Ai se fl)->Hb (Ai se fl) (x1,x2,x3,x4,x5)=(an (x1<=(Ao (Ai se fl)<|(M (Ai se fl):Y)-1).1) ||an (x4<(Ao (Ai se fl)<|(M (Ai se fl):Y)-1).2.2.2.1)):=λc5=>by
   unfold Hb;rw [show an (M (Ai se fl)>0)=U from CY c5];rfl
  have old:Hb (Ai se fl) (x1,x2,x3,x4,x5)=U->Cu se fl (x1,x2,x3,x4,x5) t=[]/\EO se fl (x1,x2,x3,x4,x5) t=12:=λh=>by
   unfold Cu EO;rw [AE c1,AE c1,AE hb',AE hb',AD h,AD h];exact ⟨rfl,rfl⟩
  refine ⟨λc5=>?_,λc5=>?_⟩
  ·have c5:0<M (Ai se fl):=by simpa using c5
   have hO:=hO c5
   rw [w c5];refine ⟨A0,λc6=>fin<|old (by rw [hO,c6];rfl),λc6=>⟨A0,λc7=>fin<|old<|by rw [hO,c7,Sr],λc7=>?_⟩⟩
   have hO:Hb (Ai se fl) (x1,x2,x3,x4,x5)=false:=by rw [hO,c6,c7];rfl
   have hk:Il (Ai se fl) (x1,x2,x3,x4,x5) t=II (Ai se fl) (x1,x2,x3,x4,x5) t:=AD hE
   have hk':=hk▸aak (x:=(x1,x2,x3,x4,x5)) hE
   rw [hk,hE]
   have hO:¬(Hb (Ai se fl) (x1,x2,x3,x4,x5)=U):=by rw [hO];decide
   refine ⟨⟨hb,by rw [KV];decide,hcl⟩,λc=>fin ?_,λc=>⟨λc'=>(by cases c'),λ_=>⟨⟨hb,hk'⟩,fin ?_⟩⟩⟩<;>unfold Cu EO<;>rw [AE c1,AE c1,AE hb',AE hb',AE hO,AE hO]
   ·have c:FB se fl (B1 (x1,x2,x3,x4,x5))≠10:=Ix
    rw [AD c,AD c];exact ⟨rfl,rfl⟩
   ·have c:¬FB se fl (B1 (x1,x2,x3,x4,x5))≠10:=Ix
    rw [AE c,AE c];exact ⟨rfl,rfl⟩
  ·have hO:Hb (Ai se fl) (x1,x2,x3,x4,x5)=false:=by unfold Hb;rw [show an (M (Ai se fl)>0)=X by simpa using c5];rfl
   have hk:Il (Ai se fl) (x1,x2,x3,x4,x5) t=II (Ai se fl) (x1,x2,x3,x4,x5) t:=AD hE
   have hk':=hk▸aak (x:=(x1,x2,x3,x4,x5)) hE
   rw [hk,hE]
   have hO:¬(Hb (Ai se fl) (x1,x2,x3,x4,x5)=U):=by rw [hO];decide
   refine ⟨⟨hb,by rw [KV];decide,hcl⟩,λc=>fin ?_,λc=>⟨λc'=>(by cases c'),λ_=>⟨⟨hb,hk'⟩,fin ?_⟩⟩⟩<;>unfold Cu EO<;>rw [AE c1,AE c1,AE hb',AE hb',AE hO,AE hO]
   ·have c:FB se fl (B1 (x1,x2,x3,x4,x5))≠10:=Ix
    rw [AD c,AD c];exact ⟨rfl,rfl⟩
   ·have c:¬FB se fl (B1 (x1,x2,x3,x4,x5))≠10:=Ix
    rw [AE c,AE c];exact ⟨rfl,rfl⟩
 ·cases h)
def aij {fl:aVw}{g:Y}{vl:aVG}{k:aVx}{O:aVw}{x:Le}{t:Y}{w:Y}(h:JI fl w g (vl.map B1) k O) (hv:B0 vl=U) (hx:FZ vl x=0) (ht:inB t 0 1100000=U) (hk:19<=k):
  EO 512 fl x t=0/\(∃fl',GU (Cu 512 fl x t) ((M (Cu 512 fl x t):Y)-1)=(512,fl')/\JI fl' w g ((vl++[x]).map B1) (k-19) O)/\B0 (vl++[x])=true:=by
 obtain ⟨h1,h2⟩:=abR h hv
 have hl:=KV x
 have hx':=hx
 unfold FZ at hx'
 have hlx:DM x=true:=by
  cases e:DM x
  ·grind
  ·rfl
 rw [hv,hlx] at hx'
 have ho:Hb vl x=false:=by
  by_cases hg:M vl>0
  ·have hf:K9 (Ao vl<|(M vl:Y)-1) x=true:=by
    cases e:K9 (Ao vl<|(M vl:Y)-1) x
    ·grind
    ·rfl
   unfold K9 at hf;unfold Hb
   grind
  ·unfold Hb;simp;intro h;omega
 have hfull:=h.full (d:=B1 x) A0 A0
 have hap:FB 512 fl (B1 x)=0:=by
  unfold FB;rw [h.VA,hfull,h.cl];rfl
 have har:Hj 512 fl (B1 x)=Hk 512 fl (B1 x):=by
  unfold Hj;rw [h.VA,hfull,h.cl];rfl
 have hE:EO 512 fl x t=0:=by
  unfold EO;rw [h1,h2,hap,hlx,ht,ho];rfl
 have hL:Cu 512 fl x t=Hk 512 fl (B1 x):=by
  unfold Cu;rw [h1,h2,hap,hlx,ht,ho,har];rfl
 refine ⟨hE,⟨Ds (apB fl<|B1 x) (Ga fl) [80] 1,?_,?_⟩,?_⟩
 ·rw [hL]
  have hne:Hk 512 fl (B1 x)≠ []:=by
   unfold Hk Dy
   simp
  have:=aGt 512 fl (B1 x) (0,[])
  unfold GU;exact this
 ·have:=h.app (tP x) A0 (by rw [hl];omega)
  rw [KH];exact this
 ·have hg:=(vd (x:=x) hv).1
  unfold grS GM at hg;rw [AD hx,AD hx] at hg;exact hg
structure QV where
 p:PK
 vl:aVG
 ok:aVH
def VE (t:Y) (s:SN×List Le×Bool) (x:Le):SN×List Le×Bool:=
 if FZ s.1.ls x=0 then (if FZ s.2.1 x=0/\inB t 0 1100000=U/\19*(M s.2.1+1)<=1019 then (⟨GM s.1.ls x,0,[],x.1+1,s.1.lk++[U1 t x]⟩,s.2.1++[x],s.2.2) else (s.1,s.2.1,X)) else s
def PX (t:Y) (xs:aVG) (s:SN×List Le×Bool):aVx->SN×List Le×Bool
 |0=>s
 |k+1=>VE t (PX t xs s k)<|Ao xs k
def RV (se:Y) (fl:aVw) (vl:aVG):Prop:=se=512/\B0 vl=U/\∃k O,JI fl 0 0 (vl.map B1) k O/\k+19*M vl=1019
def RN (s:SN) (q:SN×List Le×Bool):Prop:=q.1={s with se:=0,fl:=[]}/\RV s.se s.fl q.2.1
def ars {t:Y}{s:SN×List Le×Bool}{x:Le}(h:(VE t s x).2.2=U):s.2.2=true:=by
 unfold VE at h;split at h
 ·split at h
  ·exact h
  ·cases h
 ·exact h
def aqw {t:Y}{s:SN}{q:SN×List Le×Bool}{x:Le}(h:RN s q) (hq:(VE t q x).2.2=U):RN (F8 t s x) (VE t q x):=by
 obtain ⟨h1,h2,h3,k,O,h4,h5⟩:=h
 have hls:q.1.ls=s.ls:=by rw [h1]
 unfold VE at hq|-;unfold F8;rw [hls] at hq|-
 by_cases hg:FZ s.ls x=0
 ·rw [AD hg] at hq|-
  by_cases hc:FZ q.2.1 x=0/\inB t 0 1100000=U/\19*(M q.2.1+1)<=1019
  ·rw [AD hc] at hq|-
   obtain ⟨c1,c2,c3⟩:=hc;obtain ⟨e1,⟨fl',e2,e3⟩,e4⟩:=aij (t:=t) h4 h3 c1 c2 A0;rw [h2] at*;rw [AD ⟨hg,e1⟩,e2];refine ⟨A8,rfl,e4,k-19,O,e3,?_⟩;simp only [BI,Bk,Bv];omega
  ·rw [AE hc] at hq
   cases hq
 ·rw [AE hg,AE λhh=>hg hh.1]
  exact ⟨h1,h2,h3,k,O,h4,h5⟩
def aG5 {t:Y}{xs:aVG}{s:SN}{q:SN×List Le×Bool}(h:RN s q):∀n,(PX t xs q n).2.2=U->RN (EI t xs s n) (PX t xs q n)
 |0,_=>h
 |n+1,hq=>aqw (aG5 h n<|ars hq) hq
namespace QV
variable (q : QV)
def sn:SN×List Le×Bool:=PX q.p.tk q.p.dL (q.p.H9,q.vl,q.ok)<|M q.p.dL
def dec:QV:=if q.p.up=X then q else if q.p.dE≠0 then {q with p:={q.p with ls:=Dt q.p.ls q.p.tk}} else ⟨{q.p with ra:=q.p.dR,ls:=q.sn.1.ls,nx:=q.sn.1.nx,lk:=q.sn.1.lk},q.sn.2.1,q.sn.2.2⟩
def bef:QV:={q.dec with p:=q.dec.p.Ik.Sf}
def tick:QV:={q.bef with p:=q.bef.p.BY.K2.endP}
def Ek:aVw:=q.bef.p.dw.dw
end QV
def RP (p:PK) (q:QV):Prop:=q.p={p with se:=0,fl:=[]}/\RV p.se p.fl q.vl
def av8 {p:PK}{q:QV}(h:RP p q) (hq:q.dec.ok=U):RP p.AK q.dec:=by
 obtain ⟨qp,vl,ok⟩:=q;obtain ⟨h1,h2⟩:=h;subst h1
 have eq:QV.dec ⟨{p with se:=0,fl:=[]},vl,ok⟩=if p.up=X then ⟨{p with se:=0,fl:=[]},vl,ok⟩ else if p.dE≠0 then ⟨{p with se:=0,fl:=[],ls:=Dt p.ls p.tk},vl,ok⟩ else
  ⟨{p with se:=0,fl:=[],ra:=p.dR,ls:=(PX p.tk p.dL ({p.H9 with se:=0,fl:=[]},vl,ok)<|M p.dL).1.ls,nx:=(PX p.tk p.dL ({p.H9 with se:=0,fl:=[]},vl,ok)<|M p.dL).1.nx,lk:=(PX p.tk p.dL ({p.H9 with se:=0,fl:=[]},vl,ok)<|M p.dL).1.lk},
   (PX p.tk p.dL ({p.H9 with se:=0,fl:=[]},vl,ok)<|M p.dL).2.1,(PX p.tk p.dL ({p.H9 with se:=0,fl:=[]},vl,ok)<|M p.dL).2.2⟩:=rfl
 rw [eq] at hq|-;unfold PK.AK
 by_cases hu:p.up=X
 ·rw [AD hu,AD hu]
  exact ⟨rfl,h2⟩
 ·rw [AE hu] at hq
  rw [AE hu,AE hu]
  by_cases hd:p.dE≠0
  ·rw [AD hd,AD hd]
   exact ⟨rfl,h2⟩
  ·rw [AE hd] at hq
   rw [AE hd,AE hd]
   have hs:RN p.H9 ({p.H9 with se:=0,fl:=[]},vl,ok):=⟨rfl,h2⟩
   obtain ⟨k1,k2⟩:=aG5 hs (M p.dL) hq;refine ⟨?_,k2⟩;rw [k1];rfl
def ao9 {p:PK}{q:QV}(h:RP p q) (hq:q.tick.ok=U):RP p.BX q.tick/\p.Ek=q.Ek:=by
 obtain ⟨h1,h2⟩:=av8 h hq;refine ⟨⟨?_,h2⟩,?_⟩
 ·show q.dec.p.Ik.Sf.BY.K2.endP=_
  rw [h1];rfl
 ·show _=q.dec.p.Ik.Sf.dw.dw
  rw [h1];rfl
def aT7 {pre mid post:aVw}:∀k,k<=M mid->Es (pre++(mid++post)) (M pre:Y) k=pre++(aq k 255++(mid.drop k++post))
 |0,_=>by simp [Es]
 |k+1,hk=>by
  simp only [Es];rw [aT7 k A0]
  have e1:(M pre:Y)+(k:Y)=((M pre+k:aVx):Y):=A0
  have hd:mid.drop k=mid[k]::mid.drop (k+1):=Sq A0
  rw [e1,C0,m5 _ _ A0,xj,m5 _ _ AI,Ci,mH,hd];rw [m6,Cx];rfl
def aur {pre mid post:aVw}{n:aVx}(h:M mid=n):Es (pre++(mid++post)) (M pre:Y) n=pre++(aq n 255++post):=by
 rw [aT7 n A0,List.drop_of_length_le A0];rfl
def ahu {l:aVw}{n:aVx}(hl:M l=n) (h:l.all (λb=>b==255)=U):l=aq n 255:=by
 rw [List.eq_replicate_iff]
 grind
def aT5 {pre mid post f0:aVw}{s:Y}{a:aVV}{n:aVx}(hm:M mid=512) (hs:s*512=(M pre:Y)) (hf:(f0.drop<|M pre).take 512=mid):
  ∃a',Fx 512 f0 s (n+1) (a,pre++(mid++post))=Fx 512 f0 (s+1) n (a',pre++(aq 512 255++post)):=by
 have hw:isW 512 f0 s=!mid.all (λb=>b==255):=by
  unfold isW;rw [hs,C0]
  show (!((f0.drop<|M pre).take 512).all _)=_
  rw [hf]
 have e:Fx 512 f0 s (n+1) (a,pre++(mid++post))=Fx 512 f0 (s+1) n (if isW 512 f0 s=U then (a++(La 512 (pre++(mid++post)) s).drop 1,Es (pre++(mid++post)) (s*512) 512) else (a,pre++(mid++post))):=rfl
 rw [e];split
 ·rw [hs,aur hm]
  grind
 ·rename_i hn
  have:mid.all (λb=>b==255)=true:=A8
  have h2:=ahu hm this
  grind
def aq7 {O:aVw}(h:M O=1024):∃M1 M2,O=M1++M2/\M M1=512/\M M2=512:=⟨O.take 512,O.drop 512,(List.take_append_drop _ _).symm,A8,A8⟩
def aJL {pre post M1 M2 f0:aVw}{s:Y}{a:aVV}(h1:M M1=512) (h2:M M2=512) (hs:s*512=(M pre:Y)) (hf:f0=pre++(M1++(M2++post))):
  (Fx 512 f0 s 2 (a,f0)).2=pre++(aq 1024 255++post):=by
 have f1:(f0.drop<|M pre).take 512=M1:=A8
 have f2:(f0.drop<|M<|pre++aq 512 255).take 512=M2:=by
  rw [hf,BI,Ci,<-Cx,List.drop_left' A8,List.take_left' h2]
 have e0:Fx 512 f0 s 2 (a,f0)=Fx 512 f0 s 2 (a,pre++(M1++(M2++post))):=A8
 rw [e0];obtain ⟨a1,e1⟩:=aT5 (a:=a) (n:=1) (post:=M2++post) h1 hs f1;rw [e1]
 have e2:pre++(aq 512 255++(M2++post))=(pre++aq 512 255)++(M2++post):=(Cx _ _ _).symm
 rw [e2];obtain ⟨a2,e3⟩:=aT5 (a:=a1) (n:=0) (s:=s+1) (post:=post) h2 A8 f2;rw [e3]
 show (pre++aq 512 255)++(aq 512 255++post)=_
 rw [Cx,<-Cx<|aq 512 255,xP]
def aCy (A O:aVw):JN 0 A O=A++O:=AD rfl
def aCx (A O:aVw):JN 1 A O=O++A:=AE Aa
def ajT (A O:aVw):JN (1-0) A O=O++A:=AE Aa
def ajS (A O:aVw):JN (1-1) A O=A++O:=AD rfl
namespace JI
variable {fl : List Int} {w g : Int} {ds : List (List Int)} {k : Nat} {O : List Int}
def ers (h:JI fl w g ds k O):(Hg 512 fl).2=JN w (De g ds k) (aq 1024 255):=by
 obtain ⟨M1,M2,e,h1,h2⟩:=aq7 h.lo;unfold Hg;rw [h.half,h.cur.1]
 have e2:((((1024:aVx):Y).tdiv 512).toNat)=2:=Aa
 have e3:(((1024:aVx):Y).tdiv 512)=2:=Aa
 rw [e2,e3]
 have he:=h.eq
 rcases h.hw with rfl|rfl
 ·have:=aJL (pre:=De g ds k) (post:=[]) (M1:=M1) (M2:=M2) (f0:=fl) (s:=(1-0)*2) (a:=[(512,fl)]) h1 h2 (by rw [h.la];rfl) (by rw [he,e,aCy];simp only [Cx,ES,Gg,KG])
  rw [this,aCy]
  grind
 ·have:=aJL (pre:=[]) (post:=De g ds k) (M1:=M1) (M2:=M2) (f0:=fl) (s:=(1-1)*2) (a:=[(512,fl)]) h1 h2 Aa (by rw [he,e,aCx];simp only [Cx,ES,Gg,KG])
  rw [this,aCx]
  grind
def rew (h:JI fl w g ds k O) {ds':aVD}(hg:g+1<4294967296) (hd:∀d∈ds',BN d/\M d<=65535) (hf:5+M (BR ds')<=1024):
  JI (Ds (LQ 512 fl ds') (HA fl) [80] 1) (1-w) (g+1) ds' (1024-(5+M (BR ds'))) (De g ds k):=by
 have hO:HA fl=(1-w)*1024:=by unfold HA;rw [h.half,h.cur.1];rfl
 have hB:Ed fl ds'=D6 (g+1)++BR ds':=by unfold Ed;rw [h.cur.1,h.gen]
 have hBl:M (Ed fl ds')=4+M (BR ds'):=by rw [hB,BI];rfl
 have hBb:BN (Ed fl ds'):=by rw [hB,Ka];exact ⟨WY _,rU λd hd'=>(hd d hd').1⟩
 have hj:De (g+1) ds' (1024-(5+M (BR ds')))=80::(Ed fl ds'++aq (1024-(5+M (BR ds'))) 255):=by rw [hB];unfold De;simp
 have h255:aq 1024 (255:Y)=255::(aq (M<|Ed fl ds') 255++aq (1024-(5+M (BR ds'))) 255):=by
  rw [xP,<-Zn,hBl]
  congr 1
  omega
 have key:∀pre post:aVw,(M pre:Y)=(1-w)*1024->(Hg 512 fl).2=pre++(aq 1024 255++post)->Ds (LQ 512 fl ds') (HA fl) [80] 1=pre++(De (g+1) ds' (1024-(5+M (BR ds')))++post):=by
  intro pre post hp he
  have e1:LQ 512 fl ds'=pre++(255::(Ed fl ds'++(aq (1024-(5+M (BR ds'))) 255++post))):=by
   unfold LQ;rw [he,hO,<-hp,h255]
   have:=dz (pre:=pre++[255]) (post:=aq (1024-(5+M (BR ds'))) 255++post) (d:=Ed fl ds') hBb
   have e9:(M ((pre++[255]:aVw)):Y)=(M pre:Y)+1:=AI
   rw [e9] at this
   have e0:pre++(255::(aq (M<|Ed fl ds') 255++aq (1024-(5+M (BR ds'))) 255)++post)=pre++[255]++(aq (M<|Ed fl ds') 255++(aq (1024-(5+M (BR ds'))) 255++post)):=by simp only [Cx,ES,Gg,KG]
   rw [e0,this];simp only [Cx,ES,Gg,KG]
  rw [e1,hO,<-hp]
  have:=dz (pre:=pre) (post:=Ed fl ds'++(aq (1024-(5+M (BR ds'))) 255++post)) (d:=[80]) aPJ
  refine Eq.trans this ?_;rw [hj];simp only [Cx,ES,Gg,KG]
 refine ⟨?_,by rw [PF];omega,h.la,h.bja,by rcases h.hw with rfl|rfl<;>decide,by have:=h.hg;omega,λ_=>?_,hd⟩
 ·rcases h.hw with rfl|rfl
  ·refine (key (De g ds k) [] (by rw [h.la];rfl) (by rw [h.ers,aCy];simp only [Cx,ES,Gg,KG])).trans ?_
   rw [ajT]
   grind
  ·refine (key [] (De g ds k) Aa (by rw [h.ers,aCx];simp only [Cx,ES,Gg,KG])).trans ?_
   rw [ajS]
   grind
 ·rw [aHq h.hg];omega
def anq (h:JI fl w g ds k O) {ds':aVD}(hg:g+1<4294967296):G8 512 fl ds'=if rwF fl ds'=U then 0 else 10:=by
 unfold G8;rw [h.VA,AE Aa,h.cur.1,h.gen]
 grind
end JI
def aoB {se:Y}{fl:aVw}{ds:aVD}(h:G8 se fl ds=0) (y:Fl):(G7 se fl ds).getLastD y=(se,Ds (LQ se fl ds) (HA fl) [80] 1):=by
 unfold G7;rw [AD h]
 have e:(Dy se (LQ se fl ds) (HA fl) [80]).drop 1=[(se,Ds (LQ se fl ds) (HA fl) [80] 1)]:=by
  rfl
 rw [e,lq]
 simp
def axz {se:Y}{fl:aVw}{ds:aVD}(h:G8 se fl ds=0):G7 se fl ds≠ []:=by
 unfold G7;rw [AD h];intro hh
 have:=B2 M hh
 simp [Dy] at this
def aGf {l:aVV}{y:Fl}(h:l≠ []):GU l ((M l:Y)-1)=l.getLastD y:=by
 have hp:=Ol.2 h
 unfold GU;rw [lq,List.getLast?_eq_getElem?,DA,show ((M l:Y)-1).toNat=M l-1 by omega,Dh A0]
 rfl
structure VI (se:Y) (fl:aVw) (vl:aVG) (g:Y):Prop where
 se:se=512
 lv:B0 vl=U
 ji:∃w k O,JI fl w g (vl.map B1) k O
 g:g<=(vl.map (·.1)).getLastD 0
def VI.ld {se:Y}{fl:aVw}{vl:aVG}{g:Y}(h:VI se fl vl g):Ce se fl=0/\Ai se fl=vl:=by
 obtain ⟨w,k,O,hj⟩:=h.ji
 have:=abR hj h.lv
 rwa [h.se]
def aou {l:aVG}(h:M l>0):(l.map (·.1)).getLastD 0=(Ao l<|(M l:Y)-1).1:=by
 have e:((M l:Y)-1).toNat=M l-1:=A0
 unfold Ao;rw [lq,List.getLast?_map,List.getLast?_eq_getElem?,DA,e,Dh A0];rfl
def LU (l:aVG) (x:Le) (t:Y):aVG:=BW l t++((if M l>0/\(M (BW l t)=0\/(Ao (BW l t)<|(M (BW l t):Y)-1).1≠(Ao l<|(M l:Y)-1).1) then [Ao l<|(M l:Y)-1] else [])++[x])
def aSw {l:aVG}{x:Le}{t:Y}:II l x t=(LU l x t).map B1:=by
 unfold II LU
 grind
def aw8 {l:aVG}{x:Le}(h:Hb l x=X) (hv:B0 l=U):letI a:=(Ao l<|(M l:Y)-1);M l>0->a.1<x.1/\a.2.2.2.1<=x.2.2.2.1:=by
 unfold Hb at h
 simp at h
 omega
def aEB {l:aVG}(h:M l>0):l=l.dropLast++[Ao l<|(M l:Y)-1]:=by
 have hne:=Ol.1 h
 have:Ao l ((M l:Y)-1)=l.getLast hne:=by
  rw [Mw A0,List.getLast_eq_getElem]
  congr 1
  omega
 rw [this];exact (List.dropLast_concat_getLast hne).symm
def ap8 (m:aVG) (z:Le):Ao (m++[z]) ((M (m++[z]):Y)-1)=z:=by
 unfold Ao
 simp
def avJ {se:Y}{fl d:aVw}:Hk se fl d≠ []:=by
 unfold Hk Dy
 simp
def aFa {l:aVG}{x:Le}{t:Y}:(LU l x t).Sublist (l++[x]):=by
 unfold LU;rw [<-Cx];refine List.Sublist.append ?_<|List.Sublist.refl _
 have hs:(BW l t).Sublist l:=by
  unfold BW;split
  ·simp_all
  ·grind
 split
 ·rename_i hc
  obtain ⟨h1,h2⟩:=hc
  have hl:=aEB h1
  generalize hz:Ao l ((M l:Y)-1)=z at*
  have he:(BW l t).Sublist l.dropLast:=by
   unfold BW at h2|-;split
   ·rename_i ho
    rw [AD ho] at h2;rw [hl,Zp] at h2
    have hf:l.filter (LF t)=l.dropLast.filter (LF t)++[z].filter (LF t):=by
     grind
    rw [hf];cases hb:LF t z
    ·simp only [NW,hb,List.filter_nil]
     simp
    ·exfalso
     have e1:[z].filter (LF t)=[z]:=A8
     rw [e1] at h2;rcases h2 with h2|h2
     ·simp at h2
     ·apply h2
      rw [ap8]
   ·grind
  conv=>rhs;rw [hl]
  grind
 ·grind
def rS {vl:aVG}:M (BR<|vl.map B1)=19*M vl:=by
 induction vl with
 |nil=>rfl
 |cons x vl ih=>
  have e:BR ((x::vl).map B1)=Bw (B1 x)++BR (vl.map B1):=rfl
  rw [e,BI,Mh,KV,ih,Bk];omega
def aqf (ds:aVD):(ds.map λd=>7+M d).sum=M (BR ds):=(qm ds).symm
def VI.len {se:Y}{fl:aVw}{vl:aVG}{g:Y}(h:VI se fl vl g):M vl<=53:=by
 obtain ⟨w,k,O,hj⟩:=h.ji
 have:=hj.la
 rw [PF,rS] at this;omega
def wT {se:Y}{fl:aVw}{vl:aVG}{g:Y}{x:Le}{t:Y}(h:VI se fl vl g) (hE:EO se fl x t=0):
  ∃vl' g',VI (GU (Cu se fl x t)<|(M (Cu se fl x t):Y)-1).1 (GU (Cu se fl x t)<|(M (Cu se fl x t):Y)-1).2 vl' g'/\(vl'=vl++[x]\/vl'=LU vl x t)/\B0 (vl++[x])=U/\(M vl>0->(Ao vl<|(M vl:Y)-1).1<x.1):=by
 obtain ⟨h1,h2⟩:=h.ld
 have hlen:=h.len
 obtain ⟨w,k,O,hj⟩:=h.ji
 have hse:=h.se
 subst hse
 have hla:=hj.la
 rw [PF,rS] at hla;unfold EO at hE
 have hL:Cu 512 fl x t=if Ce 512 fl≠0 then [] else if (!DM x || !inB t 0 1100000)=U then [] else if Hb (Ai 512 fl) x=U then [] else
  if FB 512 fl (B1 x)≠10 then Hj 512 fl (B1 x) else G7 512 fl (II (Ai 512 fl) x t):=rfl
 rw [AE A0] at hE hL
 by_cases c1:(!DM x || !inB t 0 1100000)=U
 ·rw [AD c1] at hE;cases hE
 rw [AE c1] at hE hL
 have hx:DM x=true:=by
  simp only [Cf,DB,not_or,QQ] at c1;exact c1.1
 by_cases c2:Hb (Ai 512 fl) x=U
 ·rw [AD c2] at hE;cases hE
 rw [AE c2] at hE hL;rw [h2] at c2 hE hL
 have ho:=aw8 EX h.lv
 have hsn:B0 (vl++[x])=true:=aEt h.lv hx A0 (by
  by_cases hz:M vl=0
  ·exact .inl hz
  ·right
   obtain ⟨o1,o2⟩:=ho A0;unfold K9;rw [CY (p:=x.1>_) o1,CY (p:=x.2.2.2.1>=_) o2];rfl)
 have hg:g<x.1:=by
  by_cases hz:M vl>0
  ·have:=h.g
   rw [aou hz] at this
   have:=(ho hz).1
   omega
  ·have e:vl=[]:=MV.1 A0
   have:=h.g
   rw [e] at this
   have h0:g<=0:=this
   have:=(KY.1 hx).1.1
   omega
 have hlx:=(KY.1 hx).1.2
 by_cases c3:MS 512 fl (B1 x)=U
 ·have hap:FB 512 fl (B1 x)=10:=by
   unfold FB;rw [hj.VA,c3];rfl
  rw [hap,AE Aa] at hE hL
  have hr:G8 512 fl (II vl x t)=0:=hE
  rw [hL]
  have hf:rwF fl (II vl x t)=true:=by
   have:=hj.anq (ds':=II vl x t) A0
   rw [hr] at this
   by_cases hq:rwF fl (II vl x t)=U
   ·exact hq
   ·rw [AE hq] at this;cases this
  rw [aGf (y:=(0,[]))<|axz hr,aoB hr];unfold rwF at hf;rw [AX,hj.half,aqf] at hf
  have hfit:=DH hf.1
  refine ⟨LU vl x t,g+1,⟨rfl,qK hsn aFa,⟨1-w,1024-(5+M (BR<|II vl x t)),De g (vl.map B1) k,?_⟩,?_⟩,.inr rfl,hsn,λhz=>(ho hz).1⟩
  ·rw [<-aSw]
   exact hj.rew A0 (λd hd=>by rw [aSw] at hd;obtain ⟨y,_,rfl⟩:=F4.1 hd;exact ⟨tP y,by rw [KV];omega⟩) hfit
  ·have:((LU vl x t).map (·.1)).getLastD 0=x.1:=by
    unfold LU
    simp
   rw [this];omega
 ·have hap:FB 512 fl (B1 x)=0:=by
   unfold FB;exact aNd
  have har:Hj 512 fl (B1 x)=Hk 512 fl (B1 x):=by
   unfold Hj;exact aNd
  rw [hap,AD Aa,har] at hL;rw [hL,aGf (y:=(0,[])) avJ,aGt]
  have hk:19<=k:=by
   unfold MS at c3;rw [hj.half,hj.lk,KV,rS] at c3
   simp at c3
   omega
  refine ⟨vl++[x],g,⟨rfl,hsn,⟨w,k-(7+M (B1 x)),O,?_⟩,?_⟩,.inl rfl,hsn,λhz=>(ho hz).1⟩
  ·have:=hj.app (tP x) (by rw [KV];omega) (by rw [KV];exact hk)
   rw [KH,ET,Li];simp only;exact this
  ·rw [KH,lq]
   simp
   omega
def FM (se:Y) (n:aVx) (y:Fl):Prop:=y.1=se/\M y.2=n/\BN y.2
def fj {se:Y}{fl:aVw}{a:Y}{d:aVw}{n:aVx}(h:FM se n (se,fl)):∀y∈Dy se fl a d,FM se n y:=by
 intro y hy;obtain ⟨k,_,rfl⟩:=F4.1 hy;exact ⟨rfl,(TY _ _ _ _).trans h.2.1,uC h.2.2 _ _ _⟩
def agx {se:Y}{fl:aVw}{s:Y}{n:aVx}(h:FM se n (se,fl)):∀y∈La se fl s,FM se n y:=by
 intro y hy;obtain ⟨k,_,rfl⟩:=F4.1 hy;exact ⟨rfl,(dC _ _ _).trans h.2.1,aT6 h.2.2 _ _⟩
def sq {se:Y}{f0:aVw}{n:aVx}:∀(m:aVx) (s:Y) (a:List Fl×List Int),(∀y∈a.1,FM se n y)->FM se n (se,a.2)->(∀y∈(Fx se f0 s m a).1,FM se n y)/\FM se n (se,(Fx se f0 s m a).2)
 |0,_,_,h1,h2=>⟨h1,h2⟩
 | m+1,s,a,h1,h2=>by
  unfold Fx;split
  ·refine sq m (s+1) _ (λy hy=>?_) ⟨rfl,(dC _ _ _).trans h2.2.1,aT6 h2.2.2 _ _⟩
   rcases BZ.1 hy with hy|hy
   ·grind
   ·exact agx h2 y<|QP hy
  ·exact sq m (s+1) a h1 h2
def aho {se:Y}{fl d:aVw}{n:aVx}(h:FM se n (se,fl)):∀y∈Hk se fl d,FM se n y:=by
 intro y hy;rcases BZ.1 hy with hy|hy
 ·exact fj h y hy
 ·exact fj ⟨rfl,(TY _ _ _ _).trans h.2.1,uC h.2.2 _ _ _⟩ y<|QP hy
def aPl {se:Y}{fl:aVw}{ds:aVD}{n:aVx}(h:FM se n (se,fl)):∀y∈G7 se fl ds,FM se n y:=by
 intro y hy;unfold G7 at hy;split at hy
 ·obtain ⟨k1,k2⟩:=sq (se:=se) (f0:=fl) (n:=n) (((M fl / 2:aVx):Y).tdiv se).toNat ((1-Av fl)*((M fl / 2:aVx):Y).tdiv se) ([(se,fl)],fl) (λy hy=>A8) h
  rcases BZ.1 hy with hy|hy
  ·exact k1 y hy
  ·rcases BZ.1 hy with hy|hy
   ·exact fj k2 y<|QP hy
   ·exact fj ⟨rfl,(TY _ _ _ _).trans k2.2.1,uC k2.2.2 _ _ _⟩ y<|QP hy
 ·cases hy
def sj {se:Y}{f0:aVw}:∀(m:aVx) (s:Y) (a:List Fl×List Int),a.1≠ []->(Fx se f0 s m a).1≠ []
 |0,_,_,h=>h
 |m+1,s,a,h=>by
  unfold Fx;split
  ·exact sj m _ _ nY
  ·exact sj m _ _ h
def aPk {se:Y}{fl:aVw}{ds:aVD}(h:G8 se fl ds=0):G7 se fl ds≠ []:=by
 unfold G7;rw [AD h]
 have:=sj (se:=se) (f0:=fl) (((M fl / 2:aVx):Y).tdiv se).toNat ((1-Av fl)*((M fl / 2:aVx):Y).tdiv se) ([(se,fl)],fl) AI
 intro hh;rw [List.append_eq_nil_iff] at hh;exact this hh.1
def ahn {se:Y}{fl d:aVw}:Hk se fl d≠ []:=by
 unfold Hk Dy
 simp
def aVi {se:Y}{fl:aVw}{x:Le}{t:Y}{n:aVx}(h:FM se n (se,fl)):(∀y∈Cu se fl x t,FM se n y)/\(EO se fl x t=0->Cu se fl x t≠ []):=by
 have ha:(∀y∈Hj se fl (B1 x),FM se n y)/\(FB se fl (B1 x)=0->Hj se fl (B1 x)≠ []):=by
  unfold Hj FB
  by_cases h1:Bu se fl≠0
  ·grind
  ·rw [AE h1,AE h1]
   by_cases h2:MS se fl (B1 x)=U
   ·grind
   ·rw [AE h2,AE h2]
    by_cases h3:MP fl=U
    ·rw [AD h3,AD h3];exact ⟨aho h,λ_=>ahn⟩
    ·rw [AE h3,AE h3];exact ⟨aPl h,aPk⟩
 unfold Cu EO
 by_cases h1:Ce se fl≠0
 ·grind
 ·rw [AE h1,AE h1]
  split
  ·grind
  ·split
   ·grind
   ·split
    ·exact ha
    ·exact ⟨aPl h,aPk⟩
structure SnI (s:SN) (n:aVx):Prop where
 fl:FM 512 2048 (s.se,s.fl)
 ls:M s.ls<=64
 lk:M s.lk<=n
def aoo {l:aVG}{x:Le}(h:FZ l x=0):M (GM l x)<=64:=by
 unfold GM;rw [AD h];unfold FZ at h;split at h
 ·rename_i hv
  rw [AX] at hv
  have:=(GK hv.1).1
  split at h
  ·cases h
  ·split at h
   ·cases h
   ·simp;omega
 ·cases h
def axq {t:Y}{s:SN}{x:Le}{n:aVx}(h:SnI s n):SnI (F8 t s x) (n+1):=by
 unfold F8;split
 ·rename_i hc
  have hs:FM s.se 2048 (s.se,s.fl):=⟨rfl,h.fl.2.1,h.fl.2.2⟩
  obtain ⟨k1,k2⟩:=aVi (x:=x) (t:=t) hs
  have hne:=Ol.2<|k2 hc.2
  have hm:GU (Cu s.se s.fl x t) ((M (Cu s.se s.fl x t):Y)-1)∈Cu s.se s.fl x t:=by
   unfold GU;rw [Lz A0]
   grind
  obtain ⟨m1,m2,m3⟩:=k1 _ hm;exact ⟨⟨m1.trans h.fl.1,m2,m3⟩,aoo hc.1,by have:=h.lk;simp;omega⟩
 ·exact ⟨h.fl,h.ls,by have:=h.lk;omega⟩
def aPq {t:Y}{xs:aVG}{s:SN}{n:aVx}(h:SnI s n):∀k,SnI (EI t xs s k) (n+k)
 |0=>h
 |k+1=>axq<|aPq h k
structure RQ (p:PK):Prop where
 fl:FM 512 2048 (p.se,p.fl)
 ls:M p.ls<=64
 lk:(M p.lk:Y)<=16*p.tk
 ra:M p.ra<=16
 dm:∀x∈p.dm,Hi x=U
 mi:∀m∈p.mi,M m.1<=21
def aGk {l:aVG}{t:Y}:M (BW l t)<=M l:=by
 unfold BW;split
 ·grind
 ·simp
def atP {l:aVG}{t:Y}:M (Dt l t)<=M l:=by
 unfold Dt;split
 ·exact aGk
 ·omega
def wQ {p:PK}:M p.dL<=M p.gs:=by
 unfold PK.dL deL;split
 ·exact aDz
 ·simp
def aiV {p:PK}:M p.dR<=M p.gs:=by
 unfold PK.dR deR;split
 ·exact mD fA
 ·simp
def aTD {p:PK}(h:RQ p) (hg:M p.gs<=16):FM 512 2048 (p.AK.se,p.AK.fl)/\M p.AK.ls<=64/\(M p.AK.lk:Y)<=16*p.tk+16/\M p.AK.ra<=16:=by
 have hl:=h.lk
 have he:M (Dt p.ls p.tk)<=64:=Hr atP h.ls
 unfold PK.AK;split
 ·exact ⟨h.fl,h.ls,A0,h.ra⟩
 ·split
  ·exact ⟨h.fl,he,A8,h.ra⟩
  ·have hs:SnI p.H9 (M p.lk):=⟨h.fl,he,Aq _⟩
   have h1:=aPq (t:=p.tk) (xs:=p.dL) hs<|M p.dL
   have hd:=wQ (p:=p)
   exact ⟨h1.fl,h1.ls,by have:=h1.lk;show (M (EI p.tk p.dL p.H9<|M p.dL).lk:Y)<=_;omega,Hr aiV hg⟩
def mem_set {α:Type}{l:List α}{i:aVx}{x y:α}(h:y∈l.set i x):y∈l\/y=x:=Om h
def av3 (c:Ca) (m:Mi) (p al:Y):M (Jh c m p al).1<=21\/M m.1>21:=by
 unfold Jh;split
 ·rename_i hB
  refine .inl ?_;simp only [dwP,FN,BI,Bk,Bv];omega
 ·grind
def aT9 {gs:aVA}{ca:aWf}{s:DW}(h:∀m∈s.mi,M m.1<=21):∀k,∀m∈(D9 gs ca s k).mi,M m.1<=21
 |0=>h
 | k + 1=>by
  have ih:=aT9 (gs:=gs) (ca:=ca) h k
  unfold D9 FD;split
  ·exact ih
  ·split
   ·intro m hm
    rcases mem_set hm with hm|rfl
    ·grind
    ·rcases av3 (Bg ca k) (CD (D9 gs ca s k).mi k) (AF gs k).2.2.1 (Be (AF gs k)<|BF (D9 gs ca s k).st k) with e|e
     ·exact e
     ·exfalso
      have:M (CD (D9 gs ca s k).mi k).1<=21:=by
       unfold CD;rw [DA];cases hx:(D9 gs ca s k).mi[(k:Y).toNat]? with
       |none=>simp
       |some y=>exact ih y<|Oj hx
      omega
   ·exact ih
def asZ {se:Y}{fl:aVw}:M (Ai se fl)<=64:=by
 unfold Ai;split
 ·rename_i h
  unfold Ce at h;split at h
  ·cases h
  ·split at h
   ·grind
   ·split at h
    ·split at h
     ·rename_i h3;exact (GK h3).1
     ·cases h
    ·cases h
 ·simp
def RQ.tick {p:PK}(h:RQ p) (hv:VP p):RQ p.BX:=by
 have hg:=(DC.1 hv.site).1.2.2.2.2.1
 obtain ⟨h1,h2,h3,h4⟩:=aTD h hg;obtain ⟨e1,e2,e3,e4,e5,e6,e7,e8,e9,e10,e11,e12,e13,e14⟩:=J0 p;refine ⟨h1,h2,?_,h4,?_,?_⟩
 ·show (M (p.AK.lk.filter _):Y)<=16*(p.AK.tk+1)
  have:=xo (λl:Lk=>an<|l.1>p.AK.tk) p.AK.lk
  rw [e6] at this|-;omega
 ·show ∀x∈p.AK.dm,_
  rw [e12];exact h.dm
 ·refine aT9 ?_ _
  show ∀m∈p.AK.mi,_
  rw [e10];exact h.mi
def RQ.step {p:PK}(h:RQ p) (hv:VP p) {e:EV}(he:BO p e=0):RQ (BM p e):=by
 have hg:=(DC.1 hv.site).1.2.2.2.2.1
 unfold BM;rw [AE A0];unfold BO at he;split
 ·exact h.tick hv
 rename_i h1;rw [AE h1] at he;split
 ·rename_i h2
  have hd:Hi e.d=true:=by
   unfold PK.GL at he;split at he
   ·cases he
   ·split at he
    ·cases he
    ·rename_i hb
     grind
  refine {h with dm:=λx hx=>?_,mi:=λm hm=>?_}
  ·rcases mem_set hx with hx|rfl
   ·exact h.dm x hx
   ·exact hd
  ·exact aNv
 rename_i h2;rw [AE h2] at he;split
 ·refine {h with dm:=λx hx=>?_,mi:=λm hm=>?_}
  ·rcases mem_set hx with hx|rfl
   ·exact h.dm x hx
   ·decide
  ·exact aNv
 rename_i h3;rw [AE h3] at he;split
 ·have:=xo (λl:Lk=>l.2.2.1 !=e.en) p.lk
  exact {h with lk:=by show (M (p.lk.filter _):Y)<=16*p.tk;have:=h.lk;omega}
 rename_i h4;rw [AE h4] at he;split
 ·exact {h with ls:=by simp [PK.Pb]}
 rename_i h5;rw [AE h5] at he;split
 ·exact {h with ls:=Hr aGk asZ,ra:=by simp [PK.UM];omega}
 rename_i h6;rw [AE h6] at he;split
 ·exact {h with}
 ·exact {h with}
def uk {cs:aVF}{os:aVz}{ks:aVK}{gs:aVA}{bs:aVL}{dr:aVw}(h:DL cs os ks gs bs dr=0):VP (newP cs os ks gs bs dr)/\RQ (newP cs os ks gs bs dr):=by
 unfold newP;rw [AE A0];unfold DL at h;split at h
 ·cases h
 rename_i h1;simp only [not_or,QQ,ne_eq,Zq] at h1;split at h
 ·cases h
 rename_i h2;simp only [QQ] at h2
 have hb:BN Dx:=by
  unfold Dx De;rw [Ka,Ka,Ka,Qm];exact ⟨⟨⟨Aa,WY _⟩,rU λd hd=>Vz,fB _⟩,fB _⟩
 have hl:M Dx=2048:=by unfold Dx;rw [BI,PF,Ci];rfl
 refine ⟨⟨h1.1,AI,AI,AI,AI,by simp [G0],AI,h1.2,AI,λk hk=>?_,h2,λl hl=>by cases hl⟩,⟨⟨rfl,hl,hb⟩,AI,AI,by simp;exact (DC.1 h1.1).1.2.2.2.2.1,λx hx=>?_,λm hm=>?_⟩⟩
 ·simp only [GG] at hk
  have e:gi (cs.map λc=>c.2.2.1) (k:Y)=(Ae cs k).2.2.1:=by
   unfold gi Ae
   simp [hk]
  simp only [e];exact ⟨(iD h1.1 hk).1,Cj _⟩
 ·obtain ⟨_,rfl⟩:=T0.1 hx;decide
 ·grind
def aGl {se:Y}{f0:aVw}:∀(n:aVx) (s:Y) (a:List Fl×List Int),M (Fx se f0 s n a).1<=M a.1+n*se.toNat
 |0,s,a=>by simp [Fx]
 | n+1,s,a=>by
  unfold Fx
  have h:=aGl (se:=se) (f0:=f0) n (s+1) (if isW se f0 s=U then (a.1++(La se a.2 s).drop 1,Es a.2 (s*se) se.toNat) else a)
  rw [Nat.succ_mul];split at h
  ·rename_i c
   rw [AD c]
   have e:M ((La se a.2 s).drop 1)=se.toNat:=by unfold La;rw [FN,GG,T2];omega
   simp only [BI] at h;omega
  ·rename_i c
   rw [AE c];omega
def rR (se:Y) (fl:aVw) (a:Y) (d:aVw):M ((Dy se fl a d).drop 1)=M d:=by
 unfold Dy;rw [FN,GG,T2];omega
def aIQ {fl:aVw}{ds:aVD}(hl:M fl=2048) (hE:G8 512 fl ds=0):M (G7 512 fl ds)<=5000:=by
 have hF:rwF fl ds=true:=by
  unfold G8 at hE;split at hE
  ·grind
  ·split at hE
   ·cases hE
   ·rename_i h
    cases e:rwF fl ds
    ·grind
    ·rfl
 have hb:M (Ed fl ds)<=1100:=by
  unfold rwF at hF;rw [AX,Ab] at hF;unfold Ed;rw [BI,qm]
  have:M (D6<|JS fl (Av fl)+1)=4:=rfl
  omega
 have he:M (Hg 512 fl).1<=1025:=by
  refine Hr (aGl _ _ _) ?_;rw [hl]
  show 1+(((2048 / 2:aVx):Y).tdiv 512).toNat*(512:Y).toNat<=1025
  decide
 unfold G7;rw [AD hE,BI,BI,rR,rR];simp only [Bk,Bv];omega
def aps {se:Y}{fl:aVw}{x:Le}{t:Y}(h:FM 512 2048 (se,fl)) (hE:EO se fl x t=0):M (Cu se fl x t)<=5000:=by
 have hs:=h.1
 subst hs
 have hl:=h.2.1
 unfold EO at hE;unfold Cu;split at hE
 ·grind
 rename_i h1;rw [AE h1];split at hE
 ·cases hE
 rename_i h2;rw [AE h2];split at hE
 ·cases hE
 rename_i h3;rw [AE h3];split at hE
 ·rename_i h4
  rw [AD h4];unfold FB at hE;unfold Hj;split at hE
  ·grind
  rename_i h5;rw [AE h5];split at hE
  ·cases hE
  rename_i h6;rw [AE h6];split at hE
  ·rename_i h7
   rw [AD h7];unfold Hk;rw [BI,rR];unfold Dy;rw [GG,T2,FN,Mh,KV]
   decide
  ·rename_i h7
   rw [AE h7];exact aIQ hl hE
 ·rename_i h4
  rw [AE h4];exact aIQ hl hE
def VK (se:Y) (fl:aVw):Prop:=FM 512 2048 (se,fl)/\∃vl g,VI se fl vl g
def VK.cl {se:Y}{fl:aVw}(h:VK se fl):MP fl=true:=by
 obtain ⟨_,vl,g,hv⟩:=h;obtain ⟨w,k,O,hj⟩:=hv.ji;exact hj.cl
def VK.st {se:Y}{fl:aVw}{x:Le}{t:Y}(h:VK se fl) (hE:EO se fl x t=0):letI b:=Cu se fl x t;letI a:=(GU b<|(M b:Y)-1);0<M b/\VK a.1 a.2:=by
 obtain ⟨hf,vl,g,hv⟩:=h;obtain ⟨vl',g',h1,_⟩:=wT hv hE
 have hn:=(aVi (x:=x) (t:=t) (show FM se 2048 (se,fl) from ⟨rfl,hf.2.1,hf.2.2⟩))
 have hp:=Ol.2<|hn.2 hE
 refine ⟨hp,?_,vl',g',h1⟩
 have hm:GU (Cu se fl x t) ((M (Cu se fl x t):Y)-1)∈Cu se fl x t:=by
  unfold GU;rw [DA,Dh A0]
  grind
 have hq:=hn.1 _ hm
 exact ⟨by rw [hq.1];exact hf.1,hq.2.1,hq.2.2⟩
def AR {α:Type}(l:List α):List α:=(l.drop 0).take<|M l
def Fq {α:Type}(l:List α):AR l=l:=Tk l
def cpC (l:aVF):aVF:=BG (AR l)<|aq (M l:Y).toNat (ByteArray.empty,((0:Y),((0:Y),((0:Y),(((0:Y),(0:Y)),((0:Y),((0:Y),((0:Y),((0:Y),(0:Y))))))))))
def Xb (l:aVF):cpC l=l:=by
 unfold cpC;rw [Fq];exact Qt
structure Pr where
 (n i:Y)
 p:PK
 ev:EW
 Bh:aVz
 C5:aVK
 BQ:aVA
 C6:aVL
 o:aVF
def aAg (s:Pr):T (Rd Pr):=letI b:=s.o.getD s.i.toNat<|Ty.dflt Af;letI a:=(s.o.set s.i.toNat (b.1,(b.2.1,((s.p.tg.getD s.i.toNat<|Ty.dflt A7),b.2.2.2))));.br (an<|s.i<s.n) (.ik s.i (M s.p.tg)<|.ik s.i (M s.o)<|.rl s.p.tg<|.rl s.p.cs<|.rl s.p.fl<|.rl s.p.ra<|.pb s.p<|.re (M s.o) a<|.nx {s with i:=AA<|s.i+1,o:=a})<|.rl s.p.tg<|.rl s.p.cs<|.rl s.p.fl<|.rl s.p.ra<|.pb s.p<|.rl s.o<|.so (.exit 0) s
def lT (s:Pr):Prop:=s.i=0/\s.n=(M s.p.tg:Y)/\M s.p.tg=M s.p.cs/\s.n<=1000/\s.o=E0 s.p.cs s.p.tg s.i.toNat
def Y9 (s:Pr):Prop:=(0<=s.i/\s.i<=s.n)/\s.n=(M s.p.tg:Y)/\M s.p.tg=M s.p.cs/\s.n<=1000/\s.o=E0 s.p.cs s.p.tg s.i.toNat
def uG (s:Pr):aVx:=(s.n-s.i).toNat
def aCc (x:Ex) (s s':Pr):Prop:=x=.exit 0/\s'.o=E0 s'.p.cs s'.p.tg (M s'.p.tg)
def anJ:∀s,lT s->Y9 s:=by
 exact aNJ
def aiU:Da Y9 uG aCc aAg:=by
 intro s hI;obtain ⟨⟨h0,h1⟩,h2,h3,h4,h5⟩:=hI
 have hl:M s.o=M s.p.cs:=nU
 refine AH (λc1=>?_) λc1=>?_
 ·have c1:s.i<s.n:=A8
  rw [AJ (x:=s.i+1)];refine ⟨⟨⟨A8,A8⟩,h2,h3,h4,?_⟩,by simp only [uG];omega⟩
  exact aM5
 ·have c1:s.n<=s.i:=A8
  refine ⟨rfl,?_⟩
  grind
def UR:AS Pr:=⟨18,34,[2,3,19,20,21],[],λs=>[.own 18 0,.own 19 0,.os 15 1 0<|M s.p.tg,s.n,s.i],λs=>[AP,AP,zB,AP,bV 81 Af s.p.cs,AP,bV 5 (.int aw) s.p.fl,bV 138 Aj s.p.ra,bV 99 B7 s.p.st,bV 71 AQ s.p.ca,bV 143 BA s.p.mi,bV 102 BT s.p.me,bV 73 Ap s.p.dm,bV 149 BP s.p.lk,bV 3 A7 s.p.dr,bV 3 A7 s.p.tg,⟨[.os 4 11 0<|M s.p.cs,.xl .str s.p.os,.xl An s.p.ks,.xl Ag s.p.gs,.xl Am s.p.bs,.v<|ag J s.p.tk,.v<|.bool s.p.up,.xl AQ s.p.ls,.v<|ag J s.p.se,.os 6 1 0<|M s.p.fl,.os 7 2 0<|M s.p.ra,.v<|ag J s.p.nx,.os 8 4 0<|M s.p.st,.os 9 5 0<|M s.p.ca,.os 10 3 0<|M s.p.mi,.os 11 3 0<|M s.p.me,.os 12 4 0<|M s.p.dm,.os 13 6 0<|M s.p.lk,.os 14 1 0<|M s.p.dr,.os 15 1 0<|M s.p.tg,.v<|ag J s.ev.ek,.v<|ag J s.ev.en,.v<|ag J s.ev.em,.v<|ag J s.ev.c1,.v<|ag J s.ev.c2,.v<|ag J s.ev.c3,.v<|ag J s.ev.c4,.v<|ag J s.ev.c5,.v<|.bool s.ev.d1,.v<|ag J s.ev.d2,.v<|ag J s.ev.d3,.v<|ag J s.ev.d4,.v<|.slice aj 0 0],115,.cl,X⟩,AP,⟨[.v<|.slice aj 0 0,.v<|.slice aj 0 0,.v<|.slice aj 0 0,.v<|.slice aj 0 0,.v<|.slice aj 0 0],28,.cl,X⟩,⟨[.os 20 11 0<|M s.o,s.Bh,s.C5,s.BQ,s.C6],28,.cl,X⟩,bV 81 Af s.o],λv b=>⟨AL v 3,AL v 4,rB b 16 4 0 6 7 8 9 10 11 12 13 14 15,rG b,AG .str b 19 1,AG An b 19 2,AG Ag b 19 3,AG Am b 19 4,Ad Af b 20⟩,aAg,λs r=> {s with i:=r.i,o:=r.o},λs=>s,λ_ s=>s,[.exit 0],lT,Y9,uG⟩
abbrev aIb:=UR.run
abbrev atJ:=UR.Au
def PM:aVI:=[]
def agR:Ay:=kI PM<|la 9 func26 Co<|l0 PM
def ayO:Rq Y9 aAg:=by
 intro s hI;refine ⟨λc1=>⟨?_,?_,?_,?_,A9,A9,A9,A9,A9,A9,A9,A9,A9,A9,A9,A9,?_,ak⟩,λc1=>⟨A9,A9,A9,A9,A9,A9,A9,A9,A9,A9,A9,A9,A9,ak⟩⟩
 all_goals ((obtain ⟨⟨h0,h1⟩,h2,h3,h4,h5⟩:=hI;have hl:M s.o=M s.p.cs:=nU;(try simp only [Ab] at c1);first|omega|exact ⟨rfl,rfl⟩ |exact ⟨rfl,AI⟩))
def aSG:UR.Ok:={}
def aQk:UR.Pf (aCc):=⟨anJ,λs h=>rfl,aiU,ayO⟩
def aHd:=s2 (b:=bN f74 0) aSG aQk PM agR
def auR:Fi lT Y9 aCc atJ aIb:=AS.fin aSG aQk
structure M9 where
 p:PK
 ev:EW
def V5 (s:M9):aVy:=[.own 16 0]
def ZL (s:M9):aVB:=[AP,AP,zB,AP,bV 81 Af s.p.cs,AP,bV 5 (.int aw) s.p.fl,bV 138 Aj s.p.ra,bV 99 B7 s.p.st,bV 71 AQ s.p.ca,bV 143 BA s.p.mi,bV 102 BT s.p.me,bV 73 Ap s.p.dm,bV 149 BP s.p.lk,bV 3 A7 s.p.dr,bV 3 A7 s.p.tg,⟨[.os 4 11 0<|M s.p.cs,.xl .str s.p.os,.xl An s.p.ks,.xl Ag s.p.gs,.xl Am s.p.bs,.v<|ag J s.p.tk,.v<|.bool s.p.up,.xl AQ s.p.ls,.v<|ag J s.p.se,.os 6 1 0<|M s.p.fl,.os 7 2 0<|M s.p.ra,.v<|ag J s.p.nx,.os 8 4 0<|M s.p.st,.os 9 5 0<|M s.p.ca,.os 10 3 0<|M s.p.mi,.os 11 3 0<|M s.p.me,.os 12 4 0<|M s.p.dm,.os 13 6 0<|M s.p.lk,.os 14 1 0<|M s.p.dr,.os 15 1 0<|M s.p.tg,.v<|ag J s.ev.ek,.v<|ag J s.ev.en,.v<|ag J s.ev.em,.v<|ag J s.ev.c1,.v<|ag J s.ev.c2,.v<|ag J s.ev.c3,.v<|ag J s.ev.c4,.v<|ag J s.ev.c5,.v<|.bool s.ev.d1,.v<|ag J s.ev.d2,.v<|ag J s.ev.d3,.v<|ag J s.ev.d4,.v<|.slice aj 0 0],115,.cl,X⟩,AP]
def qe (s:M9):Pr:=(⟨((M s.p.tg:aVx):Y),0,s.p,s.ev,s.p.os,s.p.ks,s.p.gs,s.p.bs,cpC s.p.cs⟩:Pr)
structure Yl where
 so:aVz
 sk:aVK
 sg:aVA
 sb:aVL
 p:PK
 ev:EW
 o:aVF
def abk (s:Yl):LV:=.agg [.os 18 11 0<|M s.o,s.so,s.sk,s.sg,s.sb]
def acn (s:Yl):aVB:=[AP,AP,zB,AP,bV 81 Af s.p.cs,AP,bV 5 (.int aw) s.p.fl,bV 138 Aj s.p.ra,bV 99 B7 s.p.st,bV 71 AQ s.p.ca,bV 143 BA s.p.mi,bV 102 BT s.p.me,bV 73 Ap s.p.dm,bV 149 BP s.p.lk,bV 3 A7 s.p.dr,bV 3 A7 s.p.tg,⟨[.os 4 11 0<|M s.p.cs,.xl .str s.p.os,.xl An s.p.ks,.xl Ag s.p.gs,.xl Am s.p.bs,.v<|ag J s.p.tk,.v<|.bool s.p.up,.xl AQ s.p.ls,.v<|ag J s.p.se,.os 6 1 0<|M s.p.fl,.os 7 2 0<|M s.p.ra,.v<|ag J s.p.nx,.os 8 4 0<|M s.p.st,.os 9 5 0<|M s.p.ca,.os 10 3 0<|M s.p.mi,.os 11 3 0<|M s.p.me,.os 12 4 0<|M s.p.dm,.os 13 6 0<|M s.p.lk,.os 14 1 0<|M s.p.dr,.os 15 1 0<|M s.p.tg,.v<|ag J s.ev.ek,.v<|ag J s.ev.en,.v<|ag J s.ev.em,.v<|ag J s.ev.c1,.v<|ag J s.ev.c2,.v<|ag J s.ev.c3,.v<|ag J s.ev.c4,.v<|ag J s.ev.c5,.v<|.bool s.ev.d1,.v<|ag J s.ev.d2,.v<|ag J s.ev.d3,.v<|ag J s.ev.d4,.v<|.slice aj 0 0],115,.cl,X⟩,AP,bV 81 Af s.o]
def ij (s:M9):T Yl:=letI a:=((M s.p.cs:aVx):Y);.rm 96 a<|.rz s.p.cs<|.rc a (ByteArray.empty,((0:Y),((0:Y),((0:Y),(((0:Y),(0:Y)),((0:Y),((0:Y),((0:Y),((0:Y),(0:Y)))))))))) (M<|AR s.p.cs)<|.rl s.p.tg<|.rl s.p.cs<|.rl s.p.fl<|.rl s.p.ra<|.pb s.p<|.re a.toNat (cpC s.p.cs)<|.req (UR.q<|qe s)<|.rl s.p.cs<|.rl s.p.fl<|.rl s.p.ra<|.pb s.p<|.ok<|⟨s.p.os,s.p.ks,s.p.gs,s.p.bs,s.p,s.ev,(aIb<|qe s).o⟩
def kc (s:M9):Prop:=M s.p.tg=M s.p.cs/\M s.p.tg<=1000
def aaB (s:M9):Yl:=⟨s.p.os,s.p.ks,s.p.gs,s.p.bs,s.p,s.ev,E0 s.p.cs s.p.tg<|M s.p.tg⟩
def ku:D8 M9 Yl:=⟨V5,ZL,λv b=>⟨rB b 16 4 0 6 7 8 9 10 11 12 13 14 15,rG b⟩,kc,[0,1,3,5,17],[],abk,acn,aaB⟩
abbrev aix (s:M9):Prop:=kc s/\V5 s=V5 s/\ZL s=ZL s
def aSd:Ay:=kI PM<|la 4 func74 aHd<|la 9 func26 Co<|l0 PM
def aUp:DU:=Cb 74 18 4 (UR.lp)<|Cb 26 0 9 (H3.lp)<|E5 prog AV PM 20 2
def apk:EZ prog AV aUp:=DO func74 rfl AU aHd<|DO func26 rfl AU Co<|Hz<|gk PM
def az3 (s:M9):((El prog AV PM aUp aSd).k 74 (V5 s)<|ZL s).bind (λq=>GO (M<|ZL s) [0] [] .normal (q.1::V5 s) q.2)=(ij s).mp (λs2=>⟨.normal,M (V5 s)+1,[abk s2],acn s2,U⟩):=AU
def awM (s:M9) (hE:kc s):(ij s).all (λq=>q=aaB s):=by
 obtain ⟨ht,hn⟩:=hE
 have hA:lT (qe s):=⟨rfl,rfl,ht,aOt,Xb _⟩
 obtain ⟨_,_,_,q2⟩:=auR _ hA;unfold ij;simp only [Fq,Xb,q2]
 repeat (refine ⟨A8,?_⟩)
 refine ⟨⟨hA,rfl,rfl⟩,?_⟩
 repeat (refine ⟨AI,?_⟩)
 rfl
def aTH:Dp prog AV 74 ku.m:=D8.sound (D:=ku) (t:=ij) (gk PM) apk aSd.h az3 λs hE=>⟨awM s hE⟩
structure OW where
 xs:aVG
 (n i:Y)
 p:PK
 ev:EW
def aAY (s:OW):T (Rd OW):=letI c:=Ao s.xs s.i;letI e:=AA<|s.i+1;letI a:=((AA<|s.p.tk+((AA<|(AA<|7*s.p.tk)+(AA<|3*c.2.1)).tmod 5)),c);letI b:=Cu s.p.se s.p.fl c s.p.tk;letI d:=(AA<|(M b:Y)-1);.br (an<|s.i<s.n) (.ix s.i (M s.xs)<|.br ((FZ s.p.ls c) !=0) (.rl s.p.cs<|.rl s.p.st<|.rl s.p.ca<|.rl s.p.mi<|.rl s.p.me<|.rl s.p.lk<|.rl s.p.dr<|.rl s.p.tg<|.nx {s with i:=e})<|.req (BN s.p.fl/\(Bu s.p.se s.p.fl=0->MP s.p.fl=U))<|.br ((EO s.p.se s.p.fl c s.p.tk) !=0) (.rl s.p.cs<|.rl s.p.st<|.rl s.p.ca<|.rl s.p.mi<|.rl s.p.me<|.rl s.p.lk<|.rl s.p.dr<|.rl s.p.tg<|.nx {s with i:=e})<|.ix d (M b)<|.req ((5:Y)≠0)<|.rb (M s.p.lk) (M<|[a]) 48<|.rl s.p.cs<|.rl s.p.st<|.rl s.p.ca<|.rl s.p.mi<|.rl s.p.me<|.re (M s.p.lk+M ([a])) (s.p.lk++([a]))<|.rl s.p.dr<|.rl s.p.tg<|.nx {s with i:=e,p.ls:=GM s.p.ls c,p.se:=(GU b d).1,p.fl:=(GU b d).2,p.nx:=AA<|c.1+1,p.lk:=s.p.lk++([a])})<|.rl s.p.cs<|.rl s.p.st<|.rl s.p.ca<|.rl s.p.mi<|.rl s.p.me<|.rl s.p.lk<|.rl s.p.dr<|.rl s.p.tg<|.so (.exit 0) s
def L9 (p:PK) (xs:aVG):PK:=letI a:=(xs.foldl (F8 p.tk) ⟨p.ls,p.se,p.fl,p.nx,p.lk⟩);{p with ls:=a.ls,se:=a.se,fl:=a.fl,nx:=a.nx,lk:=a.lk}
def Dv {a b:Y}(h:(a !=b)=X):a=b:=A8
def eE {p:PK}{x:Le}(h:VK p.se p.fl) (hE:EO p.se p.fl x p.tk=0):letI a:=Cu p.se p.fl x p.tk;AA ((M a:Y)-1)=(M a:Y)-1/\0<M a:=by
 have h1:=aps h.1 hE
 have h2:=(h.st hE).1
 exact ⟨AJ,h2⟩
def aii {se:Y}{fl:aVw}{x:Le}{t:Y}(h:EO se fl x t=0):0<=x.1/\x.1<=1000000:=by
 unfold EO at h;split at h
 ·grind
 ·split at h
  ·cases h
  ·rename_i h1
   have:DM x=true:=by
    cases e:DM x
    ·grind
    ·rfl
   have:=KY.1 this
   omega
def ahA {l:aVG}{i:Y}(h0:0<=i) (h:i<M l):Ao l i∈l:=Lt h0 h
def aiM {t c:Y}(ht:0<=t/\t<=1000000) (hc:0<=c/\c<=100):AA (t+(AA<|AA (7*t)+AA (3*c)).tmod 5)=t+(7*t+3*c).tmod 5:=by
 rw [AJ (x:=7*t),AJ (x:=3*c),AJ (x:=7*t+3*c)]
 have:=Int.tmod_nonneg 5 (show 0<=7*t+3*c by omega)
 have:=Int.tmod_lt_of_pos (7*t+3*c) (show (0:Y)<5 by decide)
 exact AJ
def lL (s:OW):Prop:=s.i=0/\s.n=(M s.xs:Y)/\s.n<=16/\(∀x∈s.xs,0<=x.2.1/\x.2.1<=100)/\(0<=s.p.tk/\s.p.tk<=1000000)/\VK s.p.se s.p.fl/\(M s.p.lk:Y)<=17000000+s.i
def ju (s:OW):Prop:=(0<=s.i/\s.i<=s.n)/\s.n=(M s.xs:Y)/\s.n<=16/\(∀x∈s.xs,0<=x.2.1/\x.2.1<=100)/\(0<=s.p.tk/\s.p.tk<=1000000)/\VK s.p.se s.p.fl/\(M s.p.lk:Y)<=17000000+s.i
def gp (s:OW):aVx:=(s.n-s.i).toNat
def abU (x:Ex) (s s':OW):Prop:=True
def am0:∀s,lL s->ju s:=by
 exact aN3
def ah2:Da ju gp abU aAY:=by
 intro s hI;obtain ⟨⟨h0,h1⟩,h2,h3,h4,h5,h6,h7⟩:=hI;refine AH (λc1=>AH (λc2=>?_) λc2=>AH (λc3=>?_) λc3=>?_) λc1=>trivial
 all_goals have c1:s.i<s.n:=AY
 all_goals rw [AJ (x:=s.i+1)]
 iterate 2
  ·exact ⟨⟨⟨Ac,Ac⟩,h2,h3,h4,h5,h6,Ac⟩,by simp only [gp];omega⟩
 ·rw [(eE h6<|Dv c3).1]
  exact ⟨⟨⟨A8,Ac⟩,h2,h3,h4,h5,(h6.st<|Dv c3).2,A8⟩,by simp only [gp];omega⟩
def UP:AS OW:=⟨18,85,[0,75,76,77],[.pc 16 7 AQ,.kb 5,.pc 16 9<|.int aw,.kb 6,.pc 16 10 Aj,.kb 7,.pc 16 16 Ap,.kb 12,.ms 0 17],λs=>[.own 16 0,s.xs,s.n,s.i],λs=>[AP,AP,zB,AP,bV 81 Af s.p.cs,AP,AP,AP,bV 99 B7 s.p.st,bV 71 AQ s.p.ca,bV 143 BA s.p.mi,bV 102 BT s.p.me,AP,⟨[],149,.dead,X⟩,bV 3 A7 s.p.dr,bV 3 A7 s.p.tg,⟨[.os 4 11 0<|M s.p.cs,.xl .str s.p.os,.xl An s.p.ks,.xl Ag s.p.gs,.xl Am s.p.bs,.v<|ag J s.p.tk,.v<|.bool s.p.up,.xl AQ s.p.ls,.v<|ag J s.p.se,.xl (.int aw) s.p.fl,.xl Aj s.p.ra,.v<|ag J s.p.nx,.os 8 4 0<|M s.p.st,.os 9 5 0<|M s.p.ca,.os 10 3 0<|M s.p.mi,.os 11 3 0<|M s.p.me,.xl Ap s.p.dm,.os 18 6 0<|M s.p.lk,.os 14 1 0<|M s.p.dr,.os 15 1 0<|M s.p.tg,.v<|ag J s.ev.ek,.v<|ag J s.ev.en,.v<|ag J s.ev.em,.v<|ag J s.ev.c1,.v<|ag J s.ev.c2,.v<|ag J s.ev.c3,.v<|ag J s.ev.c4,.v<|ag J s.ev.c5,.v<|.bool s.ev.d1,.v<|ag J s.ev.d2,.v<|ag J s.ev.d3,.v<|ag J s.ev.d4,.v<|.slice aj 0 0],115,.cl,X⟩,AP,bV 149 BP s.p.lk],λv b=>⟨B9 AQ v 1,AL v 2,AL v 3,rB b 16 4 0 0 0 8 9 10 11 0 18 14 15,rG b⟩,aAY,λs r=> {s with i:=r.i,p.ls:=r.p.ls,p.se:=r.p.se,p.fl:=r.p.fl,p.nx:=r.p.nx,p.lk:=r.p.lk},λs=>s,λ_ s=>s,[.exit 0],lL,ju,gp⟩
abbrev aDL:=UP.run
abbrev ath:=UP.Au
def vQ:aVI:=[gB,aPg,aVc,aVk]
def agQ:Ay:=IJ vQ (la 9 func26 Co<|l0 vQ) [⟨74,ku.m,aTH⟩]
def ayG:Rq ju aAY:=by
 intro s hI;refine ⟨λc1=>⟨?_,λc2=>⟨A9,A9,A9,A9,A9,A9,A9,A9,ak⟩,λc2=>⟨?_,λc3=>⟨A9,A9,A9,A9,A9,A9,A9,A9,ak⟩,λc3=>⟨?_,?_,?_,A9,A9,A9,A9,A9,?_,A9,A9,ak⟩⟩⟩,λc1=>⟨A9,A9,A9,A9,A9,A9,A9,A9,ak⟩⟩
 all_goals ((obtain ⟨⟨h0,h1⟩,h2,h3,h4,h5,h6,h7⟩:=hI;simp only [Ab] at c1;first|omega|exact ⟨rfl,rfl⟩ |exact ⟨h6.1.2.2,λ_=>h6.cl⟩ |(simp only [Bk,Bv,BI];omega) |(simp only [BI,Bk,Bv,Ez];done) |(rw [(eE h6<|Dv c3).1];have:=(eE h6<|Dv c3).2;omega)))
def aRH:UP.Ok:={}
def aQd:UP.Pf (abU):=⟨am0,λs h=>rfl,ah2,ayG⟩
def aHb:=s2 (b:=bN f58 0) aRH aQd vQ agQ
def av2:Rs lL ath aDL (λs:OW=>L9 s.p<|s.xs.drop s.i.toNat) (λx s' (v:PK)=>x=.exit 0/\s'.p=v):=DZ aRH aQd (λs hI=>by
  obtain ⟨⟨h0,h1⟩,h2,h3,h4,h5,h6,h7⟩:=hI;refine AH (λc1=>?_) λc1=>?_
  ·have c1:s.i<s.n:=A8
   have e:=(WX h0 (show s.i<(M s.xs:Y) by omega)).1
   rw [AJ (x:=s.i+1),e];refine AH (λc2=>?_) λc2=>AH (λc3=>?_) λc3=>?_
   ·show L9 s.p _=L9 s.p _
    unfold L9;rw [KI,show F8 s.p.tk ⟨s.p.ls,s.p.se,s.p.fl,s.p.nx,s.p.lk⟩ (Ao s.xs s.i)=⟨s.p.ls,s.p.se,s.p.fl,s.p.nx,s.p.lk⟩ from AE λh=>F5.1 c2 h.1]
   ·show L9 s.p _=L9 s.p _
    unfold L9;rw [KI,show F8 s.p.tk ⟨s.p.ls,s.p.se,s.p.fl,s.p.nx,s.p.lk⟩ (Ao s.xs s.i)=⟨s.p.ls,s.p.se,s.p.fl,s.p.nx,s.p.lk⟩ from AE λh=>F5.1 c3 h.2]
   ·have hx:=h4 _ (ahA h0 (show s.i<(M s.xs:Y) by omega))
    have hn:=aii<|Dv c3
    rw [(eE h6<|Dv c3).1,aiM h5 hx,AJ (x:=(Ao s.xs s.i).1+1)]
    show L9 _ _=L9 s.p _
    conv=>rhs;unfold L9
    rw [KI,show F8 s.p.tk ⟨s.p.ls,s.p.se,s.p.fl,s.p.nx,s.p.lk⟩ (Ao s.xs s.i)=_ from AD ⟨Dv c2,Dv c3⟩];rfl
  ·have c1:s.n<=s.i:=A8
   refine ⟨rfl,?_⟩;rw [Ew A0];rfl)
def aUQ:aVy->T LV
 | [.xl (.pair (.int J) (.pair (.int J) (.pair (.int J) (.pair (.int J) (.int J))))) l,.v (ag J t)]=> .req (DQ l t=0) (.ok<|.AO [BW l t,.ki J 0])
 |_=> .no
def abm:=uS f72 aUQ
def ak2:VV 72 abm:=λargs vals w Z lv h1 h2 h3 h4 h=>by
 have key:∃l t,lv=.AO [.xl AQ<|BW l t,.ki J 0]/\(vt args).all (λx=>x=.AO [.xl AQ<|BW l t,.v<|ag J 0]):=by
  unfold abm uS KE aUQ at h;split at h
  ·rename_i l t e
   obtain ⟨g1,g2⟩:=h;refine ⟨l,t,g2.symm,?_⟩;unfold vt uS KE;rw [e]
   show LV.AO [.xl AQ _,.v<|ag J<|DQ _ _]=_
   rw [g1]
  ·cases h
 obtain ⟨l,t,rfl,hk⟩:=key;refine (gB args vals w Z _ h1 h2 h3 h4 hk).mono λe w' ⟨hb,v,he,ho,hr⟩=>⟨hb,v,he,?_,?_⟩
 ·simp only [okV,AT] at ho|-
  grind
 ·simp only [R,RL] at hr|-
  exact hr
structure M4 where
 p:PK
 ev:EW
def V0 (s:M4):aVy:=[.own 16 0]
def ZG (s:M4):aVB:=[AP,AP,zB,AP,bV 81 Af s.p.cs,bV 134 AQ s.p.ls,bV 5 (.int aw) s.p.fl,bV 138 Aj s.p.ra,bV 99 B7 s.p.st,bV 71 AQ s.p.ca,bV 143 BA s.p.mi,bV 102 BT s.p.me,bV 73 Ap s.p.dm,bV 149 BP s.p.lk,bV 3 A7 s.p.dr,bV 3 A7 s.p.tg,⟨[.os 4 11 0<|M s.p.cs,.xl .str s.p.os,.xl An s.p.ks,.xl Ag s.p.gs,.xl Am s.p.bs,.v<|ag J s.p.tk,.v<|.bool s.p.up,.os 5 5 0<|M s.p.ls,.v<|ag J s.p.se,.os 6 1 0<|M s.p.fl,.os 7 2 0<|M s.p.ra,.v<|ag J s.p.nx,.os 8 4 0<|M s.p.st,.os 9 5 0<|M s.p.ca,.os 10 3 0<|M s.p.mi,.os 11 3 0<|M s.p.me,.os 12 4 0<|M s.p.dm,.os 13 6 0<|M s.p.lk,.os 14 1 0<|M s.p.dr,.os 15 1 0<|M s.p.tg,.v<|ag J s.ev.ek,.v<|ag J s.ev.en,.v<|ag J s.ev.em,.v<|ag J s.ev.c1,.v<|ag J s.ev.c2,.v<|ag J s.ev.c3,.v<|ag J s.ev.c4,.v<|ag J s.ev.c5,.v<|.bool s.ev.d1,.v<|ag J s.ev.d2,.v<|ag J s.ev.d3,.v<|ag J s.ev.d4,.v<|.slice aj 0 0],115,.cl,X⟩,AP]
def aG3 (s:M4):M9:=(⟨{s.p with ls:=BW (AR s.p.ls) s.p.tk},s.ev⟩:M9)
def ou (s:M4):OW:=letI b:=BW (AR s.p.ls) s.p.tk;letI c:=AR<|E0 s.p.cs s.p.tg<|M s.p.tg;letI a:=deL c s.p.os s.p.ks s.p.gs s.p.bs b (AR s.p.ra) (AR s.p.dm) s.p.tk s.p.nx;(⟨a,(M a:Y),0,{s.p with ls:=b,fl:=AR s.p.fl,ra:=deR c s.p.os s.p.ks s.p.gs s.p.bs b (AR s.p.ra) (AR s.p.dm) s.p.tk s.p.nx,dm:=AR s.p.dm},s.ev⟩:OW)
structure Yg where
 p:PK
 ev:EW
def acR (s:Yg):LV:=.v<|.tuple #[]
def acg (s:Yg):aVB:=[AP,AP,zB,AP,bV 81 Af s.p.cs,AP,AP,AP,bV 99 B7 s.p.st,bV 71 AQ s.p.ca,bV 143 BA s.p.mi,bV 102 BT s.p.me,AP,AP,bV 3 A7 s.p.dr,bV 3 A7 s.p.tg,⟨[.os 4 11 0<|M s.p.cs,.xl .str s.p.os,.xl An s.p.ks,.xl Ag s.p.gs,.xl Am s.p.bs,.v<|ag J s.p.tk,.v<|.bool s.p.up,.xl AQ s.p.ls,.v<|ag J s.p.se,.xl (.int aw) s.p.fl,.xl Aj s.p.ra,.v<|ag J s.p.nx,.os 8 4 0<|M s.p.st,.os 9 5 0<|M s.p.ca,.os 10 3 0<|M s.p.mi,.os 11 3 0<|M s.p.me,.xl Ap s.p.dm,.xl BP s.p.lk,.os 14 1 0<|M s.p.dr,.os 15 1 0<|M s.p.tg,.v<|ag J s.ev.ek,.v<|ag J s.ev.en,.v<|ag J s.ev.em,.v<|ag J s.ev.c1,.v<|ag J s.ev.c2,.v<|ag J s.ev.c3,.v<|ag J s.ev.c4,.v<|ag J s.ev.c5,.v<|.bool s.ev.d1,.v<|ag J s.ev.d2,.v<|ag J s.ev.d3,.v<|ag J s.ev.d4,.v<|.slice aj 0 0],115,.cl,X⟩,AP]
def iZ (s:M4):T Yg:=letI a:=E0 s.p.cs s.p.tg<|M s.p.tg;letI b:=BW (AR s.p.ls) s.p.tk;letI c:=aDL<|ou s;letI d:=AR s.p.dm;.br (!s.p.up) (.rz s.p.ls<|.rz s.p.fl<|.rz s.p.ra<|.rz s.p.dm<|.rz s.p.lk<|.pd s.p<|.ok<|⟨{s.p with ls:=AR s.p.ls,fl:=AR s.p.fl,ra:=AR s.p.ra,dm:=AR s.p.dm,lk:=AR s.p.lk},s.ev⟩)<|.rz s.p.ls<|.req (DQ (AR s.p.ls) s.p.tk=0)<|.rl s.p.cs<|.rl s.p.fl<|.rl s.p.ra<|.pb s.p<|.req (aix<|aG3 s)<|.rv (.xl AQ b)<|.rv (.os 7 2 0<|M s.p.ra)<|.rv (.os 12 4 0<|M s.p.dm)<|.rv (.v<|ag J s.p.tk)<|.rv (.v<|ag J s.p.nx)<|.rz a<|.rz s.p.ra<|.rz s.p.dm<|.req (Im d s.p.tk/\M d<=19)<|.br ((deE (AR a) s.p.os s.p.ks s.p.gs s.p.bs b (AR s.p.ra) d s.p.tk s.p.nx) !=0) (.rz s.p.fl<|.rz s.p.ra<|.rz s.p.dm<|.rz s.p.lk<|.pd s.p<|.ok<|⟨{s.p with ls:=b,fl:=AR s.p.fl,ra:=AR s.p.ra,dm:=AR s.p.dm,lk:=AR s.p.lk},s.ev⟩)<|.rz s.p.fl<|.rz s.p.dm<|.rl s.p.cs<|.rl s.p.st<|.rl s.p.ca<|.rl s.p.mi<|.rl s.p.me<|.rl s.p.lk<|.rl s.p.dr<|.rl s.p.tg<|.req (UP.q<|ou s)<|.rz c.p.lk<|.pd s.p<|.ok<|⟨{s.p with ls:=c.p.ls,se:=c.p.se,fl:=c.p.fl,ra:=deR (AR a) s.p.os s.p.ks s.p.gs s.p.bs b (AR s.p.ra) d s.p.tk s.p.nx,nx:=c.p.nx,dm:=d,lk:=AR c.p.lk},s.ev⟩
def aFE {t:Y}{xs:aVG}{s:SN}:∀k,k<=M xs->EI t xs s k=(xs.take k).foldl (F8 t) s
 |0,_=>rfl
 |k+1,h=>by
  rw [EI,aFE k A0,Zh A0,List.foldl_append];rw [show Ao xs (k:Y)=xs[k]' A0 from Mw A0];rfl
def aoG {p:PK}:p.sn1=p.dL.foldl (F8 p.tk) p.H9:=by
 unfold PK.sn1;rw [aFE _<|Aq _,Eg]
def apJ {l:aVG}{t:Y}(h:B0 l=U) (ht:0<=t/\t<=1000000):DQ l t=0:=by
 have e:Kz l t=true:=by unfold Kz;rw [h,BS.2 A0];rfl
 exact AD e
def RQ.wd {p:PK}(h:RQ p) (hv:VP p):Im p.dm p.tk/\M p.dm<=19:=by
 have hg:=(DC.1 hv.site).1
 have ht:=hv.tk
 refine ⟨⟨λx hx=>?_,A0,A0⟩,by rw [hv.dm];omega⟩
 have:=h.dm x hx
 unfold Hi at this;simp only [AX,BS] at this;omega
def aCg (s:M4):Prop:=(VP s.p/\RQ s.p)/\VK s.p.se s.p.fl/\B0 s.p.ls=U
def Xq (s:M4):Yg:=⟨PK.AK s.p,s.ev⟩
def Px:D8 M4 Yg:=⟨V0,ZG,λv b=>⟨rF b,rG b⟩,aCg,[0,1,3,17],[.pc 16 7 AQ,.kb 5,.pc 16 9<|.int aw,.kb 6,.pc 16 10 Aj,.kb 7,.pc 16 16 Ap,.kb 12,.pc 16 17 BP,.kb 13],acR,acg,Xq⟩
abbrev aiv (s:M4):Prop:=aCg s/\V0 s=V0 s/\ZG s=ZG s
def X2:aVI:=[ak2,aPg,aVc,aVk]
def aSc:Ay:=IJ X2 (la 9 func58 aHb<|la 9 func26 Co<|l0 X2) [⟨74,ku.m,aTH⟩]
def aUk:DU:=Cb 58 18 9 (UP.lp)<|Cb 26 0 9 (H3.lp)<|E5 prog AV X2 20 2
def ape:EZ prog AV aUk:=DO func58 rfl AU aHb<|DO func26 rfl AU Co<|Hz<|gk X2
def azU (s:M4):((El prog AV X2 aUk aSc).k 58 (V0 s)<|ZG s).bind (λq=>GO (M<|ZG s) [0] [.pc 16 7 AQ,.kb 5,.pc 16 9<|.int aw,.kb 6,.pc 16 10 Aj,.kb 7,.pc 16 16 Ap,.kb 12,.pc 16 17 BP,.kb 13] .normal (q.1::V0 s) q.2)=(iZ s).mp (λs2=>⟨.normal,M (V0 s)+1,[acR s2],acg s2,U⟩):=AU
def awH (s:M4) (hE:aCg s):(iZ s).all (λq=>q=Xq s):=by
 obtain ⟨⟨hV,hR⟩,hK,hls⟩:=hE
 have hs:=DC.1 hV.site
 have ht:=hV.Ep
 have hwd:=hR.wd hV
 have htk:=hV.tk
 have hx:DQ s.p.ls s.p.tk=0:=apJ hls htk
 have hxs:Dt s.p.ls s.p.tk=BW s.p.ls s.p.tk:=AD hx
 have hA:kc (aG3 s):=⟨ht,by show M s.p.tg<=1000;omega⟩
 have q2:E0 s.p.cs s.p.tg (M s.p.tg)=s.p.EL:=rfl
 have e1:deE s.p.EL s.p.os s.p.ks s.p.gs s.p.bs (BW s.p.ls s.p.tk) s.p.ra s.p.dm s.p.tk s.p.nx=s.p.dE:=by unfold PK.dE;rw [hxs]
 have e2:deR s.p.EL s.p.os s.p.ks s.p.gs s.p.bs (BW s.p.ls s.p.tk) s.p.ra s.p.dm s.p.tk s.p.nx=s.p.dR:=by unfold PK.dR;rw [hxs]
 have e3:deL s.p.EL s.p.os s.p.ks s.p.gs s.p.bs (BW s.p.ls s.p.tk) s.p.ra s.p.dm s.p.tk s.p.nx=s.p.dL:=by unfold PK.dL;rw [hxs]
 have hst:ou s=⟨s.p.dL,(M s.p.dL:Y),0,{s.p with ls:=BW s.p.ls s.p.tk,ra:=s.p.dR},s.ev⟩:=by
  unfold ou;simp only [Fq,q2,e2,e3]
 have hB:lL ⟨s.p.dL,(M s.p.dL:Y),0,{s.p with ls:=BW s.p.ls s.p.tk,ra:=s.p.dR},s.ev⟩:=by
  refine ⟨rfl,rfl,?_,λx hx=>?_,htk,hK,?_⟩
  ·have:=wQ (p:=s.p);show (M s.p.dL:Y)<=16;omega
  ·have:=aBZ (p:=s.p) x hx;omega
  ·have:=hR.lk;show (M s.p.lk:Y)<=17000000+0;omega
 have q3:=(av2 _ hB).2
 have q3:(aDL ⟨s.p.dL,(M s.p.dL:Y),0,{s.p with ls:=BW s.p.ls s.p.tk,ra:=s.p.dR},s.ev⟩).p=L9 {s.p with ls:=BW s.p.ls s.p.tk,ra:=s.p.dR} s.p.dL:=q3
 unfold iZ;simp only [Fq,Xb,q2,e1,e2,hst,q3];refine ⟨λc=>?_,λc=>?_⟩
 ·have c:s.p.up=false:=Ix
  repeat (refine ⟨Dk,?_⟩)
  show _=_
  unfold Xq;rw [show PK.AK s.p=s.p from AD c]
 have hu:¬s.p.up=false:=by intro h;rw [h] at c;cases c
 refine ⟨A0,hx,?_⟩
 repeat (refine ⟨AI,?_⟩)
 refine ⟨⟨hA,rfl,rfl⟩,rfl,rfl,rfl,rfl,rfl,?_⟩
 repeat (refine ⟨Dk,?_⟩)
 refine ⟨λc1=>?_,λc1=>?_⟩
 ·have c1:s.p.dE≠0:=F5.1 c1
  repeat (refine ⟨AI,?_⟩)
  show _=_
  unfold Xq;rw [show PK.AK s.p={s.p with ls:=Dt s.p.ls s.p.tk} by unfold PK.AK;rw [AE hu,AD c1],hxs]
 ·have c1:¬s.p.dE≠0:=λh=>aPL
  repeat (refine ⟨AI,?_⟩)
  refine ⟨⟨hB,rfl,rfl⟩,?_⟩
  repeat (refine ⟨AI,?_⟩)
  show _=_
  unfold Xq;rw [show PK.AK s.p=_ by unfold PK.AK;rw [AE hu,AE c1],aoG]
  unfold L9 PK.H9;rw [hxs]
def Tq:Dp prog AV 58 Px.m:=D8.sound (D:=Px) (t:=iZ) (gk X2) ape aSc.h azU λs hE=>⟨awH s hE⟩
def FE {α:Type}(f:aVx->α->α):aVx->α->aVx->α
 |_,s,0=>s
 |i,s,n+1=>FE f (i+1) (f i s) n
def aHt {α:Type}{f:aVx->α->α}:∀ {n i:aVx}{s:α},FE f i s (n+1)=f (i+n) (FE f i s n)
 |0,_,_=>rfl
 |n+1,i,s=>by
  rw [FE,aHt (n:=n) (i:=i+1),show i+1+n=i+(n+1) by omega]
  rfl
def XX {α:Type}{f:aVx->α->α}{F:aVx->α}(h:∀k,F (k+1)=f k (F k)):∀n,FE f 0 (F 0) n=F n
 |0=>rfl
 |n+1=>by rw [aHt,XX h n,h,Eh]
def Mj {α:Type}{f:aVx->α->α}{s:α}{i n:Y}(h0:0<=i) (h:i<n):FE f i.toNat s (n-i).toNat=FE f (i+1).toNat (f i.toNat s) (n-(i+1)).toNat:=by
 rw [show (n-i).toNat=(n-(i+1)).toNat+1 by omega,FE,show (i+1).toNat=i.toNat+1 by omega]
def qM {α:Type}{f:aVx->α->α}{s:α}{i n:Y}(h:n<=i):FE f i.toNat s (n-i).toNat=s:=by
 rw [show (n-i).toNat=0 by omega]
 rfl
def aHs {α:Type}{f:aVx->List α->List α}(h:∀k s,M (f k s)=M s):∀ {n i:aVx}{s:List α},M (FE f i s n)=M s
 |0,_,_=>rfl
 |n+1,i,s=>(aHs h (n:=n) (i:=i+1)).trans<|h i s
def tk1 (gs:aVA) (i:Y) (_:aVx) (st:aVW):aVW:=CW gs st i 8 0 0
def ax0 {gs:aVA}{st:aVW}{i:Y}:∀n,FE (tk1 gs i) 0 st n=L8 gs st i n:=XX (F:=L8 gs st i) λ_=>rfl
def cnt1 (gs:aVA) (dr:aVw) (t:Y) (k:aVx) (st:aVW):aVW:=if HZ t (gi dr k)=0/\HZ (t+1) (gi dr k)=0 then L8 gs st k (B8 (t+1) (gi dr k)-B8 t (gi dr k)).toNat else st
def ai0 {gs:aVA}{dr:aVw}{t:Y}{st:aVW}:∀n,FE (cnt1 gs dr t) 0 st n=JL gs dr t st n:=XX (F:=JL gs dr t st) λ_=>rfl
def alp {gs:aVA}{ca:aWf}{s:DW}:∀n,FE (λk d=>FD gs ca d (k:Y)) 0 s n=D9 gs ca s n:=XX (F:=D9 gs ca s) λ_=>rfl
def ba (gs:aVA) (tg am:aVw) (k:aVx) (cs:aVF):aVF:=if gi tg k>=(Ae cs k).2.2.1 then cs else
  if (an (M am=M gs)&&DG (cs.set k<|GV (Ae cs k)<|gi tg k) gs am)=U then cs.set k (GV (Ae cs k)<|gi tg k) else cs
def aoJ {gs:aVA}{tg am:aVw}{cs:aVF}:∀n,FE (ba gs tg am) 0 cs n=Cp gs tg am cs n:=XX (F:=Cp gs tg am cs) λ_=>rfl
def aTC {c:Ca}{m:Mi}{p al:Y}:0<=Ee c m p al/\Ee c m p al<=7:=by
 unfold Ee;split
 ·rename_i hB
  obtain ⟨hc,_,h1,h2,_⟩:=ep.1 hB
  have hc':=Wr.1 hc
  unfold HT;split
  ·omega
  ·exact aDo ⟨A0,A0⟩ ⟨h1,h2⟩
 ·omega
def aVg {c:Ca}{m:Mi}{p al:Y}:IntKind.u64.wrap (Ee c m p al)=Ee c m p al:=by
 have:=aTC (c:=c) (m:=m) (p:=p) (al:=al)
 exact aNu
variable {gs : List Ch} {ca : List Ca} {st : List St} {mi : List Mi} {me : List Me} {dw : List Int} {i : Int}
def alr (h:(Bg ca i).2.2.1=0):FD gs ca ⟨st,mi,me,dw⟩ i=⟨st,mi,me,dw⟩:=AD h
def alq (h:¬(Bg ca i).2.2.1=0) (h2:¬JY (Bg ca i) (CD mi i) (AF gs i).2.2.1 (Be (AF gs i)<|BF st i)=0):FD gs ca ⟨st,mi,me,dw⟩ i=⟨st,mi,me,dw⟩:=by
 unfold FD
 grind
def Ut (h:¬(Bg ca i).2.2.1=0) (h2:JY (Bg ca i) (CD mi i) (AF gs i).2.2.1 (Be (AF gs i)<|BF st i)=0):
  FD gs ca ⟨st,mi,me,dw⟩ i=⟨if Ff (Bg ca i) (CD mi i) (AF gs i).2.2.1 (Be (AF gs i)<|BF st i)>Be (AF gs i) (BF st i) then CW gs st i 6 2 0 else st,mi.set i.toNat<|Jh (Bg ca i) (CD mi i) (AF gs i).2.2.1<|Be (AF gs i)<|BF st i,
   if G6 (GY me i) (Ff (Bg ca i) (CD mi i) (AF gs i).2.2.1<|Be (AF gs i)<|BF st i) (cnt<|Ee (Bg ca i) (CD mi i) (AF gs i).2.2.1<|Be (AF gs i)<|BF st i)=0 then me.set i.toNat (Hd (GY me i) (Ff (Bg ca i) (CD mi i) (AF gs i).2.2.1<|Be (AF gs i)<|BF st i)<|cnt<|Ee (Bg ca i) (CD mi i) (AF gs i).2.2.1<|Be (AF gs i)<|BF st i) else me,dw.set i.toNat<|Ff (Bg ca i) (CD mi i) (AF gs i).2.2.1<|Be (AF gs i)<|BF st i⟩:=by
 unfold FD
 grind
def aVu (t d:Y):0<=B8 t d/\B8 t d<=2000000:=by
 unfold B8;split
 ·rename_i h
  simp only [AX,BS] at h
  have h1:0<=t*(1000000+d):=Iv A0 A0
  have h2:t*(1000000+d)<=1000000*2000000:=Int.mul_le_mul A0 A0 A0 A0
  omega
 ·omega
end Go.Proofs.YtjdlmobanmhohaaGreatDoor
namespace Go.Proofs.YtjdlmobanmhohaaGreatDoor
set_option maxRecDepth 100000
set_option maxHeartbeats 4000000
open Go.Proofs.Tryz
open Go.Sx
def aJq:aVy->T LV
 | [.v (ag J r),.v (ag J m)]=> .req ((0<=r/\r<=2000000)/\0<=m/\m<=3000000) (.ok<|.v<|ag J<|m*r / 1000000)
 |_=> .no
def amv:aVI:=[]
def aw1:=vo (S:=aJq) func116 amv kN (λargs lv h=>by
 unfold aJq at h;split at h
 ·rename_i r m
  refine At (.req ((1000000:Y)≠0)<|.ok<|AA<|(AA<|m*r).tdiv 1000000) ?_;obtain ⟨⟨⟨h1,h2⟩,h3,h4⟩,rfl⟩:=h
  have hm:0<=m*r/\m*r<=6000000000000:=⟨Iv h3 h1,Fm (QI h2 h3) A0⟩
  refine ⟨A0,B2 (λz=>LV.v<|ag J z) ?_⟩
  rw [AJ (x:=m*r),IL hm.1];exact AJ
 ·cases h)
def aTq:aVy->T LV
 | [.v (ag J t),.v (ag J d)]=> .tu #[B8 t d,HZ t d]
 |_=> .no
def ah9:aVI:=[aPf,aw1]
def Xh:=vo (S:=aTq) func90 ah9 kN (λargs lv h=>by
 unfold aTq at h;split at h
 ·rename_i t d
  refine At (letI a:=AA<|1000000+d;.br ((!(inB t 0 1000000)) ||((an<|d<(-200)) ||(an<|d>200))) (.tu #[(0:Y),(1:Y)])<|.req ((0<=a/\a<=2000000)/\0<=t/\t<=3000000)<|.tu #[ag J<|t*a / 1000000,(0:Y)]) ?_;obtain rfl:=h;unfold B8 HZ;refine ⟨λc=>?_,λc=>?_⟩
  ·have:(inB t 0 1000000&&inB d (-200) 200)=false:=by
    cases ht:inB t 0 1000000
    ·rfl
    ·simp [ht] at c;simp [inB];omega
   rw [this];rfl
  ·have hh:inB t 0 1000000=U/\-200<=d/\d<=200:=by
    cases ht:inB t 0 1000000
    ·grind
    ·grind
   have:(inB t 0 1000000&&inB d (-200) 200)=true:=by rw [hh.1];simp [inB];omega
   have ht:=BS.1 hh.1
   rw [this,AJ (x:=1000000+d)];exact ⟨⟨⟨A0,A0⟩,A0,A0⟩,rfl⟩
 ·cases h)
def aK6:aVy->T LV
 | [.v (ag .u64 n)]=> .req (0<=n/\n<=7) (.ok<|cnt n)
 |_=> .no
def aod:Bm prog AV (DN []) (inl prog AV (DN []) (E5 prog AV (DN []) 20 2) 9) Al f94 [.v<|ag .u64 0]=.ok (cnt 0):=AU
def aoc:Bm prog AV (DN []) (inl prog AV (DN []) (E5 prog AV (DN []) 20 2) 9) Al f94 [.v<|ag .u64 1]=.ok (cnt 1):=AU
def aob:Bm prog AV (DN []) (inl prog AV (DN []) (E5 prog AV (DN []) 20 2) 9) Al f94 [.v<|ag .u64 2]=.ok (cnt 2):=AU
def aoa:Bm prog AV (DN []) (inl prog AV (DN []) (E5 prog AV (DN []) 20 2) 9) Al f94 [.v<|ag .u64 3]=.ok (cnt 3):=AU
def aoZ:Bm prog AV (DN []) (inl prog AV (DN []) (E5 prog AV (DN []) 20 2) 9) Al f94 [.v<|ag .u64 4]=.ok (cnt 4):=AU
def aon:Bm prog AV (DN []) (inl prog AV (DN []) (E5 prog AV (DN []) 20 2) 9) Al f94 [.v<|ag .u64 5]=.ok (cnt 5):=AU
def aom:Bm prog AV (DN []) (inl prog AV (DN []) (E5 prog AV (DN []) 20 2) 9) Al f94 [.v<|ag .u64 6]=.ok (cnt 6):=AU
def aol:Bm prog AV (DN []) (inl prog AV (DN []) (E5 prog AV (DN []) 20 2) 9) Al f94 [.v<|ag .u64 7]=.ok (cnt 7):=AU
def at6 {n:Y}(h1:0<=n) (h2:n<=7):Bm prog AV (DN []) (inl prog AV (DN []) (E5 prog AV (DN []) 20 2) 9) Al f94 [.v<|ag .u64 n]=.ok (cnt n):=by
 rcases eight h1 h2 with e|e|e|e|e|e|e|e
 ·rw [e];exact aod
 ·rw [e];exact aoc
 ·rw [e];exact aob
 ·rw [e];exact aoa
 ·rw [e];exact aoZ
 ·rw [e];exact aon
 ·rw [e];exact aom
 ·rw [e];exact aol
def X8:VV 94 (uS f94 aK6):=pP func94 rfl (pz (l:=[]) trivial) (aE6 (pz (l:=[]) trivial) (Hz<|pz (l:=[]) trivial) 9) (qx AU) (λargs lv h=>by
 unfold aK6 at h;split at h
 ·rename_i n
  simp only [canL,canX];rw [at6 h.1.1 h.1.2];exact h.2
 ·cases h)
def O9:aVI:=[]
def avD:aVy->T LV:=λl=>Bm prog AV O9 kN Al f164<|canL l
def awp:=vo (S:=avD) func164 O9 kN (λargs lv h=>by
 refine ⟨?_⟩
 assumption)
def avE:aVy->T LV:=λl=>Bm prog AV O9 kN Al f205<|canL l
def aws:=vo (S:=avE) func205 O9 kN (λargs lv h=>by
 refine ⟨?_⟩
 assumption)
def ajD:aVy->T LV:=λl=>Bm prog AV O9 kN Al f203<|canL l
def aaR:=vo (S:=ajD) func203 O9 kN (λargs lv h=>by
 refine ⟨?_⟩
 assumption)
def ab6:aVI:=[aws]
def ajC:aVy->T LV:=λl=>Bm prog AV (ab6) kN Al f204<|canL l
def aaQ:=vo (S:=ajC) func204 ab6 kN (λargs lv h=>by
 refine ⟨?_⟩
 assumption)
def ajB:aVy->T LV:=λl=>Bm prog AV O9 kN Al f206<|canL l
def aaP:=vo (S:=ajB) func206 O9 kN (λargs lv h=>by
 refine ⟨?_⟩
 assumption)
def ajA:aVy->T LV:=λl=>Bm prog AV O9 kN Al f207<|canL l
def aaO:=vo (S:=ajA) func207 O9 kN (λargs lv h=>by
 refine ⟨?_⟩
 assumption)
def ab5:aVI:=[aaR,aaQ,aaP,aaO]
def avC:aVy->T LV:=λl=>Bm prog AV (ab5) kN Al f165<|canL l
def ava:=vo (S:=avC) func165 ab5 kN (λargs lv h=>by
 refine ⟨?_⟩
 assumption)
def aL3:aVy->T LV
 | [.xq 8 q0,.v (ag J p2),.v (ag J al)]=>(match ([q0 0,q0 1,q0 2,q0 3,q0 4,q0 5,q0 6,q0 7]:aVy) with
  | [.v (ag J k),.v (ag J ph),.v (ag J mx),.v (ag J nd),.v (ag J dl),.xl (.int J) pil,.v (ag J tk),.v (ag J got)]=> .req (Gb (k,ph,mx,nd,dl)=U/\IH (pil,tk,got)=U/\1<=p2/\p2<=7/\0<=al) (.tu #[FA (k,ph,mx,nd,dl) (pil,tk,got) p2 al,HT (k,ph,mx,nd,dl) (pil,tk,got) p2 al])
  |_=> .no)
 |_=> .no
def ab4:aVI:=[awp,ava,aaR,aaQ,aaP,aaO]
def asH (k ph mx nd dl:Y) (pil:aVw) (tk got p2 al:Y):letI a:=Bl J ph p2;letI c:=AA<|0-a;letI d:=(AA<|(M pil:Y)-dl);letI b:=gi pil d;Bm prog AV (ab4) kN Al f120 [xQ 8 [k,ph,mx,nd,dl,.xl A7 pil,tk,got],p2,al]=.br (((if k==2 then Bl J a c else Bl J ph p2)==0) ||(an<|got>=nd)) (.tu #[(0:Y),(0:Y)]) (.br (k==(0:Y)) (.br ((if al<mx then al else mx)==0) (.tu #[(0:Y),(0:Y)])<|.tu #[ag J (if al<mx then al else mx),ag J (if k==2 then Bl J a c else Bl J ph p2)])<|.br (k==(2:Y)) (.br ((if al<mx then al else mx)==0) (.tu #[(0:Y),(0:Y)])<|.tu #[ag J (if al<mx then al else mx),ag J (if k==2 then Bl J a c else Bl J ph p2)])<|.br (k==(1:Y)) (.br (dl==0) (.br ((if al<mx then al else mx)==0) (.tu #[(0:Y),(0:Y)])<|.tu #[ag J (if al<mx then al else mx),ag J (if k==2 then Bl J a c else Bl J ph p2)])<|.br (an<|d>=0) (.ix d (M pil)<|.br ((if (if b<al then b else al)<mx then if b<al then b else al else mx)==0) (.tu #[(0:Y),(0:Y)])<|.tu #[ag J (if (if b<al then b else al)<mx then if b<al then b else al else mx),ag J (if k==2 then Bl J a c else Bl J ph p2)])<|.br ((if (if (0:Y)<al then 0 else al)<mx then if (0:Y)<al then 0 else al else mx)==0) (.tu #[(0:Y),(0:Y)])<|.tu #[ag J (if (if (0:Y)<al then 0 else al)<mx then if (0:Y)<al then 0 else al else mx),ag J (if k==2 then Bl J a c else Bl J ph p2)])<|.br (k==(3:Y)) (.req (dl≠0)<|.req ((2:Y)≠0)<|.br (((AA<|tk.tdiv dl).tmod 2)==1) (.br ((if (0:Y)<mx then 0 else mx)==0) (.tu #[(0:Y),(0:Y)])<|.tu #[ag J (if (0:Y)<mx then 0 else mx),ag J (if k==2 then Bl J a c else Bl J ph p2)])<|.br ((if al<mx then al else mx)==0) (.tu #[(0:Y),(0:Y)])<|.tu #[ag J (if al<mx then al else mx),ag J (if k==2 then Bl J a c else Bl J ph p2)])<|.br (k==(4:Y)) (.br (al==0) (.br ((if (0:Y)<mx then 0 else mx)==0) (.tu #[(0:Y),(0:Y)])<|.tu #[ag J (if (0:Y)<mx then 0 else mx),ag J (if k==2 then Bl J a c else Bl J ph p2)])<|.br ((if mx<mx then mx else mx)==0) (.tu #[(0:Y),(0:Y)])<|.tu #[ag J (if mx<mx then mx else mx),ag J (if k==2 then Bl J a c else Bl J ph p2)])<|.no /-call of v -/):=AU
def awr := vo (S:=aL3) func120 ab4 kN (λargs lv h=>by
 refine ⟨?_⟩;unfold aL3 at h;split at h
 ·split at h
  case h_2=>cases h
  rename_i heq0;simp only [canL,canX];rw [E6 (n:=8) heq0];simp only [canL,canX];rw [asH];rename_i p2 al _ k ph mx nd dl pil tk got;obtain ⟨⟨hc,hm,hp1,hp2,hal⟩,rfl⟩:=h
  have hc:=Wr.1 hc
  have hm:=dq.1 hm
  simp only at hc hm
  have hl:=aEW (a:=ph) (b:=p2) ⟨A0,A0⟩ ⟨A0,A0⟩
  have e0:(if (k==2)=U then Bl J (Bl J ph p2) (AA<|0-Bl J ph p2) else Bl J ph p2)=L2 k ph p2:=by
   have hw:AA (0-Bl J ph p2)=-land ph p2:=by
    have:Bl J ph p2=land ph p2:=rfl
    rw [this,AJ];omega
   rw [hw];unfold L2 land;simp only [Cz]
  have ew:AA ((M pil:Y)-dl)=(M pil:Y)-dl:=AJ
  have et:AA (tk.tdiv dl)=tk.tdiv dl:=by
   rw [IL A0]
   have h1:0<=tk / dl:=Su A0 A0
   have h2:tk / dl<=tk:=Vb _ A0
   exact AJ
  have hz:(L2 k ph p2=0\/nd<=got)->FA (k,ph,mx,nd,dl) (pil,tk,got) p2 al=0:=λh=>by unfold FA;rw [AD h]
  have hn:¬(L2 k ph p2=0\/nd<=got)->FA (k,ph,mx,nd,dl) (pil,tk,got) p2 al=min mx (H4 (k,ph,mx,nd,dl) (pil,tk,got) al):=λh=>by unfold FA;rw [AE h]
  have w0:k≠1->k≠3->k≠4->H4 (k,ph,mx,nd,dl) (pil,tk,got) al=al:=λh1 h2 h3=>by simp [H4,h1,h2,h3]
  have w1a:k=1->dl=0->H4 (k,ph,mx,nd,dl) (pil,tk,got) al=al:=λh1 h2=>bL
  have w1b:k=1->dl≠0->0<=(M pil:Y)-dl->H4 (k,ph,mx,nd,dl) (pil,tk,got) al=min al (gi pil<|(M pil:Y)-dl):=λh1 h2 h3=>by
   simp only [H4,h1,h2,Bp,FP,bu,MU];rw [AD h3];rfl
  have w1c:k=1->dl≠0->(M pil:Y)-dl<0->H4 (k,ph,mx,nd,dl) (pil,tk,got) al=min al 0:=λh1 h2 h3=>by
   simp only [H4,h1,h2,Bp,FP,bu,MU];rw [AE A0]
  have w3a:k=3->(tk.tdiv dl).tmod 2=1->H4 (k,ph,mx,nd,dl) (pil,tk,got) al=0:=λh1 h2=>bL
  have w3b:k=3->¬(tk.tdiv dl).tmod 2=1->H4 (k,ph,mx,nd,dl) (pil,tk,got) al=al:=λh1 h2=>bL
  have w4a:k=4->al=0->H4 (k,ph,mx,nd,dl) (pil,tk,got) al=0:=λh1 h2=>bL
  have w4b:k=4->al≠0->H4 (k,ph,mx,nd,dl) (pil,tk,got) al=mx:=λh1 h2=>bL
  have ho1:FA (k,ph,mx,nd,dl) (pil,tk,got) p2 al=0->HT (k,ph,mx,nd,dl) (pil,tk,got) p2 al=0:=λh=>by unfold HT;rw [AD h]
  have ho2:FA (k,ph,mx,nd,dl) (pil,tk,got) p2 al≠0->HT (k,ph,mx,nd,dl) (pil,tk,got) p2 al=L2 k ph p2:=λh=>by unfold HT;rw [AE h]
  have fin:∀a o:Y,a=FA (k,ph,mx,nd,dl) (pil,tk,got) p2 al->o=HT (k,ph,mx,nd,dl) (pil,tk,got) p2 al->LV.v (.tuple #[ag J a,ag J o])=LV.v (.tuple #[ag J<|FA (k,ph,mx,nd,dl) (pil,tk,got) p2 al,ag J<|HT (k,ph,mx,nd,dl) (pil,tk,got) p2 al]):=λa o h1 h2=>zV
  simp only [e0,ew,et]
  clear e0 ew hl et
  generalize FA (k,ph,mx,nd,dl) (pil,tk,got) p2 al=qA at*;generalize HT (k,ph,mx,nd,dl) (pil,tk,got) p2 al=qO at*;generalize H4 (k,ph,mx,nd,dl) (pil,tk,got) al=qw at*;generalize L2 k ph p2=qc at*;generalize gi pil ((M pil:Y)-dl)=qg at*;refine ⟨λc1=>?_,λc1=>?_⟩
  ·simp only [Cz,CT,ne_eq,Cf,Ge,Ab,DI,MU,QL] at*
   refine fin _ _ ?_ ?_<;>(clear fin w0 w1a w1b w1c w3a w3b w4a w4b;omega)
  ·refine ⟨λc2=>?_,λc2=>?_⟩
   ·refine ⟨λc3=>?_,λc3=>?_⟩
    ·exact mT
    ·exact mT
   ·refine ⟨λc3=>?_,λc3=>?_⟩
    ·refine ⟨λc4=>?_,λc4=>?_⟩
     ·exact mT
     ·exact mT
    ·refine ⟨λc4=>?_,λc4=>?_⟩
     ·refine ⟨λc5=>?_,λc5=>?_⟩
      ·refine ⟨λc6=>?_,λc6=>?_⟩
       ·exact mB
       ·exact mB
      ·refine ⟨λc6=>?_,λc6=>?_⟩
       ·refine ⟨?_,?_⟩
        ·simp only [Cz,CT,ne_eq,Cf,Ge,Ab,DI,MU,QL] at*
         (first|decide|(clear fin w0 w3a w3b w4a w4b;omega))
        ·exact aNw
       ·exact aNw
     ·refine ⟨λc5=>?_,λc5=>?_⟩
      ·refine ⟨?_,?_⟩
       ·exact aMa
       ·refine ⟨?_,?_⟩
        ·exact aMa
        ·refine ⟨λc6=>?_,λc6=>?_⟩
         ·exact aNx
         ·exact aNx
      ·refine ⟨λc6=>?_,λc6=>?_⟩
       ·refine ⟨λc7=>?_,λc7=>?_⟩
        ·exact aNy
        ·exact aNy
       ·exfalso
        simp only [Cz,CT,ne_eq,Cf,Ge,Ab,DI,MU,QL] at*
        clear fin hz hn ho1 ho2 w0 w1a w1b w1c w3a w3b w4a w4b
        omega
 ·cases h)
def aKx:aVy->T LV
 | [.xq 8 q0,.v (ag J al),.v (ag J am),.v (ag J on)]=>(match ([q0 0,q0 1,q0 2,q0 3,q0 4,q0 5,q0 6,q0 7]:aVy) with
  | [.v (ag J k),.v (ag J ph),.v (ag J mx),.v (ag J nd),.v (ag J dl),.xl (.int J) pil,.v (ag J tk),.v (ag J got)]=> .req (IH (pil,tk,got)=U/\0<=am/\am<=80/\0<=on/\on<=7) (.ok<|.agg [.xl A7<|dwP pil al,.v<|ag J<|tk+1,.v<|ag J<|got+2300*am*cnt on])
  |_=> .no)
 |_=> .no
def ab3:aVI:=[X8]
def asF (k ph mx nd dl:Y) (pil:aVw) (tk got al am on:Y):letI a:=(AA<|(((0:Y).toNat+M pil+M ([al]):aVx):Y)-21);letI b:=(aq (0:Y).toNat (0:Y));letI c:=IntKind.u64.wrap on;letI d:=(AA<|(M pil:Y)+1);letI e:=(b++pil)++([al]);letI f:=AA<|got+(AA<|(AA<|2300*am)*(cnt c));Bm prog AV (ab3) kN Al f121 [xQ 8 [k,ph,mx,nd,dl,.xl A7 pil,tk,got],al,am,on]=.req (0<=(0:Y)/\(0:Y)<=d/\8*d<=2^48/\d<2^63) (.ra (0:Y).toNat (M b) ((0:Y).toNat+M pil) 8<|.ra ((0:Y).toNat+M pil) (M<|b++pil) ((0:Y).toNat+M pil+M ([al])) 8<|.br (an<|(((0:Y).toNat+M pil+M ([al]):aVx):Y)>21) (.req (0<=a/\a<=(((0:Y).toNat+M pil+M ([al]):aVx):Y)/\(((0:Y).toNat+M pil+M ([al]):aVx):Y)<=(((0:Y).toNat+M pil+M ([al]):aVx):Y))<|.req (0<=c/\c<=7)<|.req ((0+a.toNat)+((((0:Y).toNat+M pil+M ([al]):aVx):Y).toNat-a.toNat)<=M e)<|.ok<|.agg [.xl A7<|(e.drop<|0+a.toNat).take<|(((0:Y).toNat+M pil+M ([al]):aVx):Y).toNat-a.toNat,AA<|tk+1,f])<|.req (0<=c/\c<=7)<|.req (0+((0:Y).toNat+M pil+M ([al]))<=M e)<|.ok<|.agg [.xl A7<|(e.drop 0).take<|(0:Y).toNat+M pil+M ([al]),AA<|tk+1,f]):=AU
def avc :=vo (S:=aKx) func121 ab3 kN (λargs lv h=>by
 refine ⟨?_⟩;unfold aKx at h;split at h
 ·split at h
  case h_2=>cases h
  rename_i heq0;simp only [canL,canX];rw [E6 (n:=8) heq0];simp only [canL,canX];rw [asF];rename_i al am on _ k ph mx nd dl pil tk got;obtain ⟨⟨hm,ha1,ha2,ho1,ho2⟩,rfl⟩:=h
  have hm:=dq.1 hm
  simp only at hm
  have hu:IntKind.u64.wrap on=on:=by simp [IntKind.wrap,IntKind.bits,IntKind.signed];omega
  have ht:AA (tk+1)=tk+1:=AJ
  have hcn:0<=cnt on/\cnt on<=3:=by unfold cnt;omega
  have hg:AA (got+AA (AA (2300*am)*cnt on))=got+2300*am*cnt on:=by
   rw [AJ (x:=2300*am)]
   have:cnt on=0\/cnt on=1\/cnt on=2\/cnt on=3:=A0
   rcases this with e|e|e|e<;>rw [e,AJ (x:=2300*am*_),AJ]
  have h0:(0:Y).toNat=0:=rfl
  have hw1:AA ((M pil:Y)+1)=(M pil:Y)+1:=AJ
  have hw2:AA (((M pil+1:aVx):Y)-21)=(M pil:Y)-20:=by rw [AJ];omega
  have fin:∀(p:aVw),p=dwP pil al->LV.agg [.xl A7 p,.v<|ag J<|tk+1,.v<|ag J<|got+2300*am*cnt on]=LV.agg [.xl A7<|dwP pil al,.v<|ag J<|tk+1,.v<|ag J<|got+2300*am*cnt on]:=λp h=>W0
  simp only [h0,List.replicate_zero,ES,BI,Bk,Bv,Eh,hu,ht,hg,hw1,hw2];refine ⟨?_,?_⟩
  ·(try simp only [Ab,DI] at c1);first|omega|(simp;done) |(simp;omega)
  ·refine ⟨?_,?_⟩
   ·(try simp only [Ab,DI] at c1);first|omega|(simp;done) |(simp;omega)
   ·refine ⟨?_,?_⟩
    ·(try simp only [Ab,DI] at c1);first|omega|(simp;done) |(simp;omega)
    ·refine ⟨λc1=>?_,λc1=>?_⟩
     ·refine ⟨?_,?_⟩
      ·(try simp only [Ab,DI] at c1);first|omega|(simp;done) |(simp;omega)
      ·refine ⟨?_,?_⟩
       ·(try simp only [Ab,DI] at c1);first|omega|(simp;done) |(simp;omega)
       ·refine ⟨?_,?_⟩
        ·(try simp only [Ab,DI] at c1);first|omega|(simp;done) |(simp;omega)
        ·refine fin _ ?_
         unfold dwP;simp only [Ab,DI] at c1;rw [show ((M pil:Y)-20).toNat=M pil-20 by omega]
         exact Di (by rw [FN,BI];simp only [Bk,Bv];omega)
     ·refine ⟨?_,?_⟩
      ·omega
      ·refine ⟨?_,?_⟩
       ·omega
       ·refine fin _ ?_
        unfold dwP;simp only [Ab,DI] at c1;rw [show M pil-20=0 by omega]
        grind
 ·cases h)
def aUU:aVy->T LV
 | [.v (.agg ⟨[ag J k,ag J ph,ag J mx,ag J nd,ag J dl]⟩),.agg [.xl (.int J) pil,.v (ag J tk),.v (ag J got)],.v (ag J p2),.v (ag J al)]=> .ok (.AO [Ff (k,ph,mx,nd,dl) (pil,tk,got) p2 al,Ee (k,ph,mx,nd,dl) (pil,tk,got) p2 al,.agg [.xl A7 (Jh (k,ph,mx,nd,dl) (pil,tk,got) p2 al).1,(Jh (k,ph,mx,nd,dl) (pil,tk,got) p2 al).2.1,(Jh (k,ph,mx,nd,dl) (pil,tk,got) p2 al).2.2],JY (k,ph,mx,nd,dl) (pil,tk,got) p2 al])
 |_=> .no
def amw:aVI:=[aaV,ajj,aPi,awr,avc]
def Xe:=vo (S:=aUU) func92 amw kN (λargs lv h=>by
 unfold aUU at h;split at h
 ·rename_i k ph mx nd dl pil tk got p2 al
  refine At (letI a:=(k,ph,mx,nd,dl);letI b:=(pil,tk,got);letI c:=FA a b p2 al;letI d:=HT a b p2 al;.br ((!(Gb a)) ||((!(IH b)) ||((!(inB p2 (1:Y) (7:Y))) ||((!(inB al (0:Y) (80:Y))) ||(tk==1000000))))) (.ok<|.AO [(0:Y),(0:Y),.agg [.xl A7 ([]:aVw),(0:Y),(0:Y)],(1:Y)])<|.req (Gb a=U/\IH b=U/\1<=p2/\p2<=7/\0<=al)<|.req (IH b=U/\0<=c/\c<=80/\0<=d/\d<=7)<|.ok<|.AO [c,d,.agg [.xl A7<|dwP pil al,.v<|ag J<|tk+1,.v<|ag J<|got+2300*c*cnt d],(0:Y)]) ?_;obtain rfl:=h
  have e:((!(Gb (k,ph,mx,nd,dl))) ||((!(IH (pil,tk,got))) ||((!(inB p2 (1:Y) (7:Y))) ||((!(inB al (0:Y) (80:Y))) ||(tk==1000000)))))=!(Lb (k,ph,mx,nd,dl) (pil,tk,got) p2 al):=by simp [Lb,bne]
  rw [e];unfold Ff Ee Jh JY;refine ⟨λc1=>?_,λc1=>?_⟩
  ·have hB:Lb (k,ph,mx,nd,dl) (pil,tk,got) p2 al=false:=AY
   rw [hB];rfl
  ·have hB:Lb (k,ph,mx,nd,dl) (pil,tk,got) p2 al=true:=A8
   rw [hB];obtain ⟨hc,hm,h1,h2,h3,h4,h5⟩:=ep.1 hB;obtain ⟨b1,b2,b3,b4⟩:=aFX hc hm ⟨h1,h2⟩ ⟨h3,h4⟩;exact ⟨⟨hc,hm,h1,h2,h3⟩,⟨hm,b1,by have:=Wr.1 hc;omega,b3,b4⟩,rfl⟩
 ·cases h)
structure OC where
 xs:aWa
 (n i:Y)
 p:PK
 ev:EW
 left:aWa
def UL (s:OC):T (Rd OC):=letI b:=Fu s.xs s.i;letI c:=s.left++([b]);letI d:=M s.left+M ([b]);letI e:=AA<|s.i+1;letI f:=M s.p.st;letI g:=s.p.st.getD b.2.2.1.toNat<|Ty.dflt B7;letI h:=M<|[b];letI j:=M s.left;letI a:=(s.p.st.set b.2.2.1.toNat<|sN (AF s.p.gs b.2.2.1) g (7:Y) b.2.2.2.1 b.2.2.2.2.2);.br (an<|s.i<s.n) (.ix s.i (M s.xs)<|.br (an<|b.1>s.p.tk) (.br U (.rb j h 48<|.re d c<|.pd s.p<|.nx {s with i:=e,left:=c})<|.rl s.left<|.pd s.p<|.nx {s with i:=e})<|.ix b.2.2.1 (M s.p.gs)<|.ik b.2.2.1 f<|.br ((sE (AF s.p.gs b.2.2.1) g (7:Y) b.2.2.2.1 b.2.2.2.2.2)==0) (.ik b.2.2.1 f<|.br X (.rb j h 48<|.re d c<|.rl s.p.cs<|.re f a<|.rl s.p.ca<|.rl s.p.mi<|.rl s.p.me<|.rl s.p.dr<|.rl s.p.tg<|.nx {s with i:=e,p.st:=a,left:=c})<|.rl s.left<|.rl s.p.cs<|.re f a<|.rl s.p.ca<|.rl s.p.mi<|.rl s.p.me<|.rl s.p.dr<|.rl s.p.tg<|.nx {s with i:=e,p.st:=a})<|.br X (.rb j h 48<|.re d c<|.pd s.p<|.nx {s with i:=e,left:=c})<|.rl s.left<|.pd s.p<|.nx {s with i:=e})<|.rl s.left<|.pd s.p<|.so (.exit 0) s
def arr1 (gs:aVA) (t:Y) (st:aVW) (l:Lk):aVW:=if l.1>t then st else CW gs st l.2.2.1 7 l.2.2.2.1 l.2.2.2.2.2
def aTN {l:aWa}{i:Y}(h0:0<=i) (h:i<M l):Fu l i∈l/\l.drop i.toNat=Fu l i::l.drop (i+1).toNat:=by
 have e:Fu l i=l[i.toNat]' A0:=by unfold Fu;rw [DA,Dh A0];rfl
 rw [e];exact ⟨Gf _,by rw [Sq A0,show (i+1).toNat=i.toNat+1 by omega]⟩
def aFI {gs:aVA}{lk:aWa}{t:Y}{st:aVW}:∀k,k<=M lk->L5 gs lk t st k=(lk.take k).foldl (arr1 gs t) st
 |0,_=>rfl
 |k+1,h=>by
  have e:Fu lk (k:Y)=lk[k]' A0:=by unfold Fu;rw [C0,DA,Dh A0];rfl
  rw [L5,aFI k A0,Zh A0,List.foldl_append,<-e];rfl
def ke (s:OC):Prop:=s.i=0/\s.n=(M s.xs:Y)/\s.n<=20000000/\(M s.left:Y)<=s.i/\(∀l∈s.xs,0<=l.2.2.1/\l.2.2.1<(M s.p.gs:Y))/\M s.p.st=M s.p.gs
def k7 (s:OC):Prop:=0<=s.i/\s.i<=s.n/\s.n=(M s.xs:Y)/\s.n<=20000000/\(M s.left:Y)<=s.i/\(∀l∈s.xs,0<=l.2.2.1/\l.2.2.1<(M s.p.gs:Y))/\M s.p.st=M s.p.gs
def qh (s:OC):aVx:=(s.n-s.i).toNat
def abe (x:Ex) (s s':OC):Prop:=True
def amz:∀s,ke s->k7 s:=by
 rintro s ⟨h0,h2,h3,h4⟩
 exact yT
def aiI:Da k7 qh abe UL:=by
 intro s hI;unfold UL;dsimp only [T.rd,T.rl,T.rv];obtain ⟨h0,h1,h2,h3,h4,h5,h6⟩:=hI;refine AH (λc1=>AH (λc2=>?_) λc2=>AH (λc3=>?_) λc3=>?_) λc1=>trivial
 all_goals have c1:s.i<s.n:=AY
 all_goals rw [AJ (x:=s.i+1)]
 ·exact AH (λ_=>⟨⟨Ac,Ac,h2,h3,A8,h5,h6⟩,yg⟩) λc=>F6
 ·exact AH (λc=>F6) λ_=>⟨⟨Ac,Ac,h2,h3,Ac,h5,A8⟩,yg⟩
 ·exact AH (λc=>F6) λ_=>⟨⟨A8,Ac,h2,h3,Ac,h5,h6⟩,yg⟩
def Ry:AS OC:=⟨19,30,[0,1,4,11,12,13],[.nl 4 149 BP],λs=>[.own 16 0,.fn 89 [.own 18 0],.os 19 6 0<|M s.left,s.xs,s.n,s.i],λs=>[AP,AP,zB,AP,bV 81 Af s.p.cs,AP,AP,AP,bV 99 B7 s.p.st,bV 71 AQ s.p.ca,bV 143 BA s.p.mi,bV 102 BT s.p.me,AP,AP,bV 3 A7 s.p.dr,bV 3 A7 s.p.tg,⟨[.os 4 11 0<|M s.p.cs,.xl .str s.p.os,.xl An s.p.ks,.xl Ag s.p.gs,.xl Am s.p.bs,.v<|ag J s.p.tk,.v<|.bool s.p.up,.xl AQ s.p.ls,.v<|ag J s.p.se,.xl (.int aw) s.p.fl,.xl Aj s.p.ra,.v<|ag J s.p.nx,.os 8 4 0<|M s.p.st,.os 9 5 0<|M s.p.ca,.os 10 3 0<|M s.p.mi,.os 11 3 0<|M s.p.me,.xl Ap s.p.dm,.xl BP s.p.lk,.os 14 1 0<|M s.p.dr,.os 15 1 0<|M s.p.tg,.v<|ag J s.ev.ek,.v<|ag J s.ev.en,.v<|ag J s.ev.em,.v<|ag J s.ev.c1,.v<|ag J s.ev.c2,.v<|ag J s.ev.c3,.v<|ag J s.ev.c4,.v<|ag J s.ev.c5,.v<|.bool s.ev.d1,.v<|ag J s.ev.d2,.v<|ag J s.ev.d3,.v<|ag J s.ev.d4,.v<|.slice aj 0 0],115,.cl,X⟩,AP,⟨[.own 16 0],111,.cl,X⟩,bV 149 BP s.left],λv b=>⟨B9 BP v 3,AL v 4,AL v 5,rT b,rG b,Ad BP b 19⟩,UL,λs r=> {s with i:=r.i,p.st:=r.p.st,left:=r.left},λs=>s,λ_ s=>s,[.exit 0],ke,k7,qh⟩
abbrev KU:=Ry.run
abbrev atN:=Ry.Au
def vP:aVI:=[Qx,fy,Xh,Xf,Xe,Xi,X8,XA,RS]
def agP:Ay:=IJ vP (la 9 func26 Co<|l0 vP) [⟨58,Px.m,Tq⟩]
def ayV:Rq k7 UL:=by
 intro s hI;refine ⟨λc1=>⟨?_,λc2=>⟨λc3=>⟨?_,?_,A9,A9,A9,A9,A9,A9,A9,ak⟩,λc3=>⟨A9,A9,A9,A9,A9,A9,A9,A9,ak⟩⟩,λc2=>⟨?_,?_,?_,λc4=>⟨?_,?_,λc5=>⟨?_,?_,A9,?_,A9,A9,A9,A9,A9,ak⟩,λc5=>⟨A9,A9,?_,A9,A9,A9,A9,A9,ak⟩⟩,λc4=>⟨λc6=>⟨?_,?_,A9,A9,A9,A9,A9,A9,A9,ak⟩,λc6=>⟨A9,A9,A9,A9,A9,A9,A9,A9,ak⟩⟩⟩⟩,λc1=>⟨A9,A9,A9,A9,A9,A9,A9,A9,ak⟩⟩
 all_goals ((obtain ⟨h0,h1,h2,h3,h4,h5,h6⟩:=hI;simp only [Ab] at c1;have hm:=h5 _ (aTN h0 (show s.i<(M s.xs:Y) by omega)).1;first|omega|exact ⟨rfl,AI⟩ |(simp only [Bk,Bv,BI];omega) |(simp only [BI,Bk,Bv,Ez];done)))
def aSM:Ry.Ok:={}
def aQq:Ry.Pf (abe):=⟨amz,λs h=>rfl,aiI,ayV⟩
def Jr:=s2 (b:=bN f69 0) aSM aQq vP agP
def avI:Rs ke atN KU (λs:OC=>((s.xs.drop s.i.toNat).foldl (arr1 s.p.gs s.p.tk) s.p.st,s.left++(s.xs.drop s.i.toNat).filter (λl=>an<|l.1>s.p.tk))) (λx s' (v:List St×List Lk)=>x=.exit 0/\(s'.p.st,s'.left)=v):=DZ aSM aQq (λs hI=>by
  show DV _ _ ((UL s).rd s)
  unfold UL;dsimp only [T.rd,T.rl];obtain ⟨h0,h1,h2,h3,h4,h5,h6⟩:=hI;refine AH (λc1=>?_) λc1=>?_
  ·have c1:s.i<s.n:=A8
   have e:=(aTN h0 (show s.i<(M s.xs:Y) by omega)).2
   rw [AJ (x:=s.i+1),e];refine AH (λc2=>?_) λc2=>AH (λc3=>?_) λc3=>?_
   ·refine AH (λ_=>?_) (λc=>F6)
    have c2':=DH c2
    show (_,_)=(_,_)
    rw [KI,NW,AD c2,show arr1 s.p.gs s.p.tk s.p.st (Fu s.xs s.i)=s.p.st from AD c2',Cx];rfl
   ·refine AH (λc=>F6) (λ_=>?_)
    have c2':=KJ c2
    rw [KI,NW,AE A8,show arr1 s.p.gs s.p.tk s.p.st (Fu s.xs s.i)=_ from (AE c2').trans<|AD<|eq_of_beq c3];rfl
   ·refine AH (λc=>F6) (λ_=>?_)
    have c2':=KJ c2
    show (_,_)=(_,_)
    rw [KI,NW,AE A8,show arr1 s.p.gs s.p.tk s.p.st (Fu s.xs s.i)=_ from (AE c2').trans<|AE<|CT.1 c3]
  ·have c1:s.n<=s.i:=A8
   refine ⟨rfl,?_⟩;rw [Ew A0]
   simp)
structure OA where
 (i on oi m k:Y)
 p:PK
 ev:EW
def aGn:=lN (bN f60 0) 0
def aAj (s:OA):T (Rd OA):=letI b:=s.p.st.getD s.i.toNat<|Ty.dflt B7;letI c:=M s.p.st;letI a:=(s.p.st.set s.i.toNat<|sN (AF s.p.gs s.i) b (8:Y) (0:Y) (0:Y));.br (an<|s.k<s.m) (.ix s.i (M s.p.gs)<|.ik s.i c<|.br ((sE (AF s.p.gs s.i) b (8:Y) (0:Y) (0:Y))==0) (.ik s.i c<|.rl s.p.dr<|.rl s.p.cs<|.re c a<|.rl s.p.ca<|.rl s.p.mi<|.rl s.p.me<|.rl s.p.dr<|.rl s.p.tg<|.nx {s with k:=AA<|s.k+1,p.st:=a})<|.rl s.p.dr<|.pd s.p<|.nx {s with k:=AA<|s.k+1})<|.rl s.p.dr<|.pd s.p<|.so (.exit 2) s
def ZV (s:OA):Prop:=s.k=0/\(0<=s.i/\s.i<(M s.p.gs:Y))/\M s.p.st=M s.p.gs/\s.m<=4000000
def jz (s:OA):Prop:=0<=s.k/\(0<=s.i/\s.i<(M s.p.gs:Y))/\M s.p.st=M s.p.gs/\s.m<=4000000
def gr (s:OA):aVx:=(s.m-s.k).toNat
def abZ (x:Ex) (s s':OA):Prop:=True
def anN:∀s,ZV s->jz s:=by
 rintro s ⟨h0,h2⟩
 exact ⟨A0,h2⟩
def ai2:Da jz gr abZ aAj:=by
 intro s hI;obtain ⟨h0,h1,h2,h3⟩:=hI;refine AH (λc1=>AH (λc2=>?_) λc2=>?_) λc1=>trivial
 all_goals have c1:s.k<s.m:=A8
 all_goals rw [AJ (x:=s.k+1)]
 ·exact ⟨⟨A8,h1,A8,h3⟩,by simp only [gr];omega⟩
 ·exact ⟨⟨A8,h1,h2,h3⟩,by simp only [gr];omega⟩
def Rv:AS OA:=⟨20,57,[0,2,12,13,14,48,49],[],λs=>[.own 16 0,s.i,.os 14 1 0<|M s.p.dr,s.on,s.oi,s.m,s.k],λs=>[AP,AP,zB,AP,bV 81 Af s.p.cs,AP,AP,AP,bV 99 B7 s.p.st,bV 71 AQ s.p.ca,bV 143 BA s.p.mi,bV 102 BT s.p.me,AP,AP,bV 3 A7 s.p.dr,bV 3 A7 s.p.tg,⟨[.os 4 11 0<|M s.p.cs,.xl .str s.p.os,.xl An s.p.ks,.xl Ag s.p.gs,.xl Am s.p.bs,.v<|ag J s.p.tk,.v<|.bool s.p.up,.xl AQ s.p.ls,.v<|ag J s.p.se,.xl (.int aw) s.p.fl,.xl Aj s.p.ra,.v<|ag J s.p.nx,.os 8 4 0<|M s.p.st,.os 9 5 0<|M s.p.ca,.os 10 3 0<|M s.p.mi,.os 11 3 0<|M s.p.me,.xl Ap s.p.dm,.xl BP s.p.lk,.os 14 1 0<|M s.p.dr,.os 15 1 0<|M s.p.tg,.v<|ag J s.ev.ek,.v<|ag J s.ev.en,.v<|ag J s.ev.em,.v<|ag J s.ev.c1,.v<|ag J s.ev.c2,.v<|ag J s.ev.c3,.v<|ag J s.ev.c4,.v<|ag J s.ev.c5,.v<|.bool s.ev.d1,.v<|ag J s.ev.d2,.v<|ag J s.ev.d3,.v<|ag J s.ev.d4,.v<|.slice aj 0 0],115,.cl,X⟩,AP,AP,AP],λv b=>⟨AL v 1,AL v 3,AL v 4,AL v 5,AL v 6,rT b,rG b⟩,aAj,λs r=> {s with k:=r.k,p.st:=r.p.st},λs=>s,λ_ s=>s,[.exit 2],ZV,jz,gr⟩
abbrev Wg:=Rv.run
abbrev atL:=Rv.Au
def XR:aVI:=[Qx,fy,Xh,Xf,Xe,Xi,X8,XA,RS]
def vW:Ay:=IJ XR (la 2 func69 Jr<|la 9 func26 Co<|l0 XR) [⟨58,Px.m,Tq⟩]
def ayR:Rq jz aAj:=by
 intro s hI;refine ⟨λc1=>⟨?_,?_,?_,λc2=>⟨?_,?_,A9,A9,?_,A9,A9,A9,A9,A9,ak⟩,λc2=>⟨A9,A9,A9,A9,A9,A9,A9,A9,ak⟩⟩,λc1=>⟨A9,A9,A9,A9,A9,A9,A9,A9,ak⟩⟩
 all_goals ((obtain ⟨h0,h1,h2,h3⟩:=hI;first|omega|exact ⟨rfl,AI⟩))
def aSJ:Rv.Ok:={}
def aQn:Rv.Pf (abZ):=⟨anN,λs h=>rfl,ai2,ayR⟩
def ark:SA 20 aGn Rv:=s2 aSJ aQn XR vW
def aIg:Rs ZV atL Wg (λs:OA=>FE (tk1 s.p.gs s.i) s.k.toNat s.p.st (s.m-s.k).toNat) (λx s' (v:aVW)=>x=.exit 2/\s'.p.st=v):=DZ aSJ aQn (λs hI=>by
  obtain ⟨h0,h1,h2,h3⟩:=hI;refine AH (λc1=>?_) λc1=>?_
  ·have c1:s.k<s.m:=A8
   rw [AJ (x:=s.k+1),Mj h0 c1];refine AH (λc2=>?_) λc2=>?_
   ·rw [show tk1 s.p.gs s.i s.k.toNat s.p.st=_ from AD<|eq_of_beq c2]
    rfl
   ·rw [show tk1 s.p.gs s.i s.k.toNat s.p.st=_ from AE<|CT.1 c2]
    rfl
  ·have c1:s.m<=s.k:=A8
   exact ⟨rfl,(qM c1).symm⟩)
structure M8 where
 (n i:Y)
 p:PK
 ev:EW
def aHX:=bN f60 0
def Nj (s:M8):OA:=letI a:=s.p.dr.getD s.i.toNat<|Ty.dflt A7;(⟨s.i,s.n,s.i,AA<|(B8 (AA<|s.p.tk+1) a)-(B8 s.p.tk a),0,s.p,s.ev⟩:OA)
def aAi (s:M8):T (Rd M8):=letI a:=s.p.dr.getD s.i.toNat<|Ty.dflt A7;.br (an<|s.i<s.n) (.ik s.i (M s.p.dr)<|.br (((HZ s.p.tk a) !=0) ||((HZ (AA<|s.p.tk+1) a) !=0)) (.rl s.p.dr<|.pd s.p<|.nx {s with i:=AA<|s.i+1})<|.rl s.p.dr<|.pd s.p<|.req (Rv.q<|Nj s)<|.rl s.p.dr<|.rl s.p.cs<|.rl (Wg<|Nj s).p.st<|.rl s.p.ca<|.rl s.p.mi<|.rl s.p.me<|.rl s.p.dr<|.rl s.p.tg<|.nx {s with i:=AA<|s.i+1,p.st:=(Wg<|Nj s).p.st})<|.rl s.p.dr<|.pd s.p<|.so (.exit 0) s
def lV (s:M8):Prop:=s.i=0/\s.n=(M s.p.dr:Y)/\M s.p.dr=M s.p.gs/\s.n<=1000/\M s.p.st=M s.p.gs/\(0<=s.p.tk/\s.p.tk<=1000000)
def YA (s:M8):Prop:=0<=s.i/\s.i<=s.n/\s.n=(M s.p.dr:Y)/\M s.p.dr=M s.p.gs/\s.n<=1000/\M s.p.st=M s.p.gs/\(0<=s.p.tk/\s.p.tk<=1000000)
def gq (s:M8):aVx:=(s.n-s.i).toNat
def abY (x:Ex) (s s':M8):Prop:=True
def anM:∀s,lV s->YA s:=by
 exact yI
def vw {s:M8}(hI:YA s) (c1:s.i<s.n):ZV (Nj s)/\((HZ s.p.tk (gi s.p.dr s.i.toNat)=0/\HZ (s.p.tk+1) (gi s.p.dr s.i.toNat)=0)->(Wg<|Nj s).p.st=cnt1 s.p.gs s.p.dr s.p.tk s.i.toNat s.p.st):=by
 obtain ⟨h0,h1,h2,h3,h4,h6,h7⟩:=hI
 have hg:s.p.dr.getD s.i.toNat (Ty.dflt A7)=gi s.p.dr s.i:=rfl
 have b1:=aVu s.p.tk<|gi s.p.dr s.i
 have b2:=aVu (s.p.tk+1)<|gi s.p.dr s.i
 have hm:(Nj s).m=B8 (s.p.tk+1) (gi s.p.dr s.i)-B8 s.p.tk (gi s.p.dr s.i):=by
  show AA (B8 (AA<|s.p.tk+1) _-B8 s.p.tk _)=_
  rw [hg,AJ (x:=s.p.tk+1),AJ (x:=B8 (s.p.tk+1) _-B8 s.p.tk _)]
 have hE:ZV (Nj s):=⟨rfl,⟨h0,by show s.i<(M s.p.gs:Y);omega⟩,h6,A0⟩
 refine ⟨hE,λhc=>?_⟩
 have q:(Wg<|Nj s).p.st=FE (tk1 s.p.gs s.i) 0 s.p.st ((Nj s).m-0).toNat:=(aIg _ hE).2
 rw [q,hm,QN,ax0];unfold cnt1
 grind
def ai1:Da YA gq abY aAi:=by
 intro s hI;obtain ⟨h0,h1,h2,h3,h4,h6,h7⟩:=id hI;refine AH (λc1=>AH (λc2=>?_) λc2=>?_) λc1=>trivial
 all_goals have c1:s.i<s.n:=AY
 all_goals rw [AJ (x:=s.i+1)]
 ·exact ⟨⟨A8,A8,h2,h3,h4,h6,h7⟩,by simp only [gq];omega⟩
 ·have hl:M (Wg<|Nj s).p.st=M s.p.gs:=by
   rw [(aIg _ (vw hI c1).1).2];exact (aHs λ_ _=>JB).trans h6
  exact ⟨⟨A8,A8,h2,h3,h4,hl,h7⟩,by simp only [gq];omega⟩
def Q7:AS M8:=⟨20,57,[0,12,13,14],[.pc 16 17 BP,.kb 18,.kb 19],λs=>[.own 16 0,.os 14 1 0<|M s.p.dr,s.n,s.i],λs=>[AP,AP,zB,AP,bV 81 Af s.p.cs,AP,AP,AP,bV 99 B7 s.p.st,bV 71 AQ s.p.ca,bV 143 BA s.p.mi,bV 102 BT s.p.me,AP,AP,bV 3 A7 s.p.dr,bV 3 A7 s.p.tg,⟨[.os 4 11 0<|M s.p.cs,.xl .str s.p.os,.xl An s.p.ks,.xl Ag s.p.gs,.xl Am s.p.bs,.v<|ag J s.p.tk,.v<|.bool s.p.up,.xl AQ s.p.ls,.v<|ag J s.p.se,.xl (.int aw) s.p.fl,.xl Aj s.p.ra,.v<|ag J s.p.nx,.os 8 4 0<|M s.p.st,.os 9 5 0<|M s.p.ca,.os 10 3 0<|M s.p.mi,.os 11 3 0<|M s.p.me,.xl Ap s.p.dm,.xl BP s.p.lk,.os 14 1 0<|M s.p.dr,.os 15 1 0<|M s.p.tg,.v<|ag J s.ev.ek,.v<|ag J s.ev.en,.v<|ag J s.ev.em,.v<|ag J s.ev.c1,.v<|ag J s.ev.c2,.v<|ag J s.ev.c3,.v<|ag J s.ev.c4,.v<|ag J s.ev.c5,.v<|.bool s.ev.d1,.v<|ag J s.ev.d2,.v<|ag J s.ev.d3,.v<|ag J s.ev.d4,.v<|.slice aj 0 0],115,.cl,X⟩,AP,AP,AP],λv b=>⟨AL v 2,AL v 3,rT b,rG b⟩,aAi,λs r=> {s with i:=r.i,p.st:=r.p.st},λs=>s,λ_ s=>s,[.exit 0],lV,YA,gq⟩
abbrev dy:=Q7.run
abbrev atK:=Q7.Au
def ayQ:Rq YA aAi:=by
 intro s hI;refine ⟨λc1=>⟨?_,?_,λc2=>⟨A9,A9,A9,A9,A9,A9,A9,A9,ak⟩,λc2=>⟨A9,A9,A9,A9,A9,A9,A9,A9,?_,A9,A9,A9,A9,A9,A9,A9,A9,ak⟩⟩,λc1=>⟨A9,A9,A9,A9,A9,A9,A9,A9,ak⟩⟩
 all_goals ((obtain ⟨h0,h1,h2,h3,h4,h6,h7⟩:=id hI;simp only [Ab] at c1;first|omega|exact ⟨(vw hI c1).1,rfl,rfl⟩))
def aSI:Q7.Ok:={}
def aQm:Q7.Pf (abY):=⟨anM,λs h=>rfl,ai1,ayQ⟩
def Kc:SA 20 aHX Q7:=AS.snd aSI aQm (Gl (Γ:=XR) (K:=vW) (L:=(MM (λi=>if i=7 then Rv.lp else Al i))) (gk XR) vW.h aHX (λb hb=>by
 rw [show BE _=[aGn] by kernel_rfl] at hb
 simp only [BB,Bx,By] at hb;subst hb;exact ark)) λs=>AU
def auW:Rs lV atK dy (λs:M8=>FE (cnt1 s.p.gs s.p.dr s.p.tk) s.i.toNat s.p.st (s.n-s.i).toNat) (λx s' (v:aVW)=>x=.exit 0/\s'.p.st=v):=DZ aSI aQm (λs hI=>by
  obtain ⟨h0,h1,h2,h3,h4,h6,h7⟩:=id hI;refine AH (λc1=>?_) λc1=>?_
  ·have c1:s.i<s.n:=A8
   have hg:s.p.dr.getD s.i.toNat (Ty.dflt A7)=gi s.p.dr s.i.toNat:=Mc
   rw [AJ (x:=s.i+1),AJ (x:=s.p.tk+1),hg,Mj h0 c1];refine AH (λc2=>?_) λc2=>?_
   ·rw [show cnt1 s.p.gs s.p.dr s.p.tk s.i.toNat s.p.st=s.p.st from AE λh=>A8]
    rfl
   ·have c2:HZ s.p.tk (gi s.p.dr s.i.toNat)=0/\HZ (s.p.tk+1) (gi s.p.dr s.i.toNat)=0:=A8
    rw [<-(vw hI c1).2 c2];rfl
  ·have c1:s.n<=s.i:=A8
   exact ⟨rfl,(qM c1).symm⟩)
structure M6 where
 gl:aVA
 (n i:Y)
 p:PK
 ev:EW
 dw:aVw
def fo (s:M6) (e:Y) (o:Y) (ce:Y) (a:Y) (al:Y) (se:Y) (sn:St) (m:Mi) (cn:Me):T (Rd M6):=letI b:=s.p.mi.set s.i.toNat m;letI c:=s.dw.set s.i.toNat a;letI d:=s.p.me.set s.i.toNat cn;letI f:=M s.p.mi;letI g:=M s.p.st;letI h:=AA<|s.i+1;letI j:=s.p.st.set s.i.toNat sn;letI k:=M s.dw;letI l:=M s.p.me;.br (an<|s.i<s.n) (.ix s.i (M s.gl)<|.ik s.i (M s.p.ca)<|.br (!((s.p.ca.getD s.i.toNat<|Ty.dflt AQ).2.2.1 !=0)) (.pd s.p<|.rl s.dw<|.nx {s with i:=h})<|.ik s.i g<|.ik s.i (M s.p.ca)<|.ik s.i f<|.br (e !=0) (.pd s.p<|.rl s.dw<|.nx {s with i:=h})<|.ik s.i k<|.ik s.i f<|.ik s.i l<|.req (0<=(IntKind.u64.wrap o)/\(IntKind.u64.wrap o)<=7)<|.br (ce==0) (.ik s.i l<|.br (an<|a>al) (.ix s.i (M s.p.gs)<|.ik s.i g<|.br (se==0) (.ik s.i g<|.rl s.p.cs<|.re g j<|.rl s.p.ca<|.re f b<|.re l d<|.rl s.p.dr<|.rl s.p.tg<|.re k c<|.nx {s with i:=h,p.st:=j,p.mi:=b,p.me:=d,dw:=c})<|.rl s.p.cs<|.rl s.p.st<|.rl s.p.ca<|.re f b<|.re l d<|.rl s.p.dr<|.rl s.p.tg<|.re k c<|.nx {s with i:=h,p.mi:=b,p.me:=d,dw:=c})<|.rl s.p.cs<|.rl s.p.st<|.rl s.p.ca<|.re f b<|.re l d<|.rl s.p.dr<|.rl s.p.tg<|.re k c<|.nx {s with i:=h,p.mi:=b,p.me:=d,dw:=c})<|.br (an<|a>al) (.ix s.i (M s.p.gs)<|.ik s.i g<|.br (se==0) (.ik s.i g<|.rl s.p.cs<|.re g j<|.rl s.p.ca<|.re f b<|.rl s.p.me<|.rl s.p.dr<|.rl s.p.tg<|.re k c<|.nx {s with i:=h,p.st:=j,p.mi:=b,dw:=c})<|.rl s.p.cs<|.rl s.p.st<|.rl s.p.ca<|.re f b<|.rl s.p.me<|.rl s.p.dr<|.rl s.p.tg<|.re k c<|.nx {s with i:=h,p.mi:=b,dw:=c})<|.rl s.p.cs<|.rl s.p.st<|.rl s.p.ca<|.re f b<|.rl s.p.me<|.rl s.p.dr<|.rl s.p.tg<|.re k c<|.nx {s with i:=h,p.mi:=b,dw:=c})<|.pd s.p<|.rl s.dw<|.so (.exit 0) s
abbrev Xn (s:M6):=letI b:=s.p.ca.getD s.i.toNat<|Ty.dflt AQ;letI c:=s.p.mi.getD s.i.toNat<|Ty.dflt BA;letI d:=AF s.gl s.i;letI e:=s.p.st.getD s.i.toNat<|Ty.dflt B7;letI g:=s.p.me.getD s.i.toNat<|Ty.dflt BT;letI a:=Be d e;letI f:=cnt<|IntKind.u64.wrap<|Ee b c d.2.2.1 a;letI h:=Ff b c d.2.2.1 a;fo s (JY b c d.2.2.1 a) (Ee b c d.2.2.1 a) (G6 g h f) h a (sE (AF s.p.gs s.i) e (6:Y) (2:Y) (0:Y)) (sN (AF s.p.gs s.i) e (6:Y) (2:Y) (0:Y)) (Jh b c d.2.2.1 a)<|Hd g h f
def lG (s:M6):Prop:=s.i=0/\s.n=(M s.p.gs:Y)/\s.n<=1000/\s.gl=s.p.gs/\(M s.p.st=M s.p.gs/\M s.p.ca=M s.p.gs/\M s.p.mi=M s.p.gs/\M s.p.me=M s.p.gs/\M s.dw=M s.p.gs)
def Ue (s:M6):Prop:=0<=s.i/\s.i<=s.n/\s.n=(M s.p.gs:Y)/\s.n<=1000/\s.gl=s.p.gs/\(M s.p.st=M s.p.gs/\M s.p.ca=M s.p.gs/\M s.p.mi=M s.p.gs/\M s.p.me=M s.p.gs/\M s.dw=M s.p.gs)
def cY (s:M6):aVx:=(s.n-s.i).toNat
def aBg (x:Ex) (s s':M6):Prop:=True
def amV:∀s,lG s->Ue s:=by
 exact yI
def auv (s:M6) (hI:Ue s) (e:Y) (o:Y) (ce:Y) (a:Y) (al:Y) (se:Y) (sn:St) (m:Mi) (cn:Me) (he:JY (s.p.ca.getD s.i.toNat<|Ty.dflt AQ) (s.p.mi.getD s.i.toNat<|Ty.dflt BA) (AF s.gl s.i).2.2.1 (Be (AF s.gl s.i)<|s.p.st.getD s.i.toNat<|Ty.dflt B7)=e) (ho:Ee (s.p.ca.getD s.i.toNat<|Ty.dflt AQ) (s.p.mi.getD s.i.toNat<|Ty.dflt BA) (AF s.gl s.i).2.2.1 (Be (AF s.gl s.i)<|s.p.st.getD s.i.toNat<|Ty.dflt B7)=o) (hce:G6 (s.p.me.getD s.i.toNat<|Ty.dflt BT) (Ff (s.p.ca.getD s.i.toNat<|Ty.dflt AQ) (s.p.mi.getD s.i.toNat<|Ty.dflt BA) (AF s.gl s.i).2.2.1<|Be (AF s.gl s.i)<|s.p.st.getD s.i.toNat<|Ty.dflt B7) (cnt<|IntKind.u64.wrap<|Ee (s.p.ca.getD s.i.toNat<|Ty.dflt AQ) (s.p.mi.getD s.i.toNat<|Ty.dflt BA) (AF s.gl s.i).2.2.1<|Be (AF s.gl s.i)<|s.p.st.getD s.i.toNat<|Ty.dflt B7)=ce) (ha:Ff (s.p.ca.getD s.i.toNat<|Ty.dflt AQ) (s.p.mi.getD s.i.toNat<|Ty.dflt BA) (AF s.gl s.i).2.2.1 (Be (AF s.gl s.i)<|s.p.st.getD s.i.toNat<|Ty.dflt B7)=a) (hal:Be (AF s.gl s.i) (s.p.st.getD s.i.toNat<|Ty.dflt B7)=al) (hse:sE (AF s.p.gs s.i) (s.p.st.getD s.i.toNat<|Ty.dflt B7) (6:Y) (2:Y) (0:Y)=se) (hsn:sN (AF s.p.gs s.i) (s.p.st.getD s.i.toNat<|Ty.dflt B7) (6:Y) (2:Y) (0:Y)=sn) (hm:Jh (s.p.ca.getD s.i.toNat<|Ty.dflt AQ) (s.p.mi.getD s.i.toNat<|Ty.dflt BA) (AF s.gl s.i).2.2.1 (Be (AF s.gl s.i)<|s.p.st.getD s.i.toNat<|Ty.dflt B7)=m) (hcn:Hd (s.p.me.getD s.i.toNat<|Ty.dflt BT) (Ff (s.p.ca.getD s.i.toNat<|Ty.dflt AQ) (s.p.mi.getD s.i.toNat<|Ty.dflt BA) (AF s.gl s.i).2.2.1<|Be (AF s.gl s.i)<|s.p.st.getD s.i.toNat<|Ty.dflt B7) (cnt<|IntKind.u64.wrap<|Ee (s.p.ca.getD s.i.toNat<|Ty.dflt AQ) (s.p.mi.getD s.i.toNat<|Ty.dflt BA) (AF s.gl s.i).2.2.1<|Be (AF s.gl s.i)<|s.p.st.getD s.i.toNat<|Ty.dflt B7)=cn):DV (λs'=>Ue s'/\cY s'<cY s) (λx s'=>aBg x s s') ((fo s e o ce a al se sn m cn).rd s):=by
 unfold fo;dsimp only [T.rd,T.rl,T.rv];obtain ⟨h0,h1,h2,h3,hg,l1,l2,l3,l4,l5⟩:=hI;refine AH (λc1=>?_) λc1=>?_
 ·refine AH (λc2=>?_) (λc2=>?_)
  ·exact aB
  ·refine AH (λc3=>?_) (λc3=>?_)
   ·exact aB
   ·refine AH (λc4=>?_) (λc4=>?_)
    ·exact aMj
    ·exact aMj
 ·trivial
def agy:Da Ue cY aBg Xn:=λs hI=>auv s hI _ _ _ _ _ _ _ _ _ rfl rfl rfl rfl rfl rfl rfl rfl rfl
def Rr:AS M6:=⟨20,124,[0,27,28,29],[],λs=>[.own 16 0,s.gl,s.n,s.i],λs=>[AP,AP,zB,AP,bV 81 Af s.p.cs,AP,AP,AP,bV 99 B7 s.p.st,bV 71 AQ s.p.ca,bV 143 BA s.p.mi,bV 102 BT s.p.me,AP,AP,bV 3 A7 s.p.dr,bV 3 A7 s.p.tg,⟨[.os 4 11 0<|M s.p.cs,.xl .str s.p.os,.xl An s.p.ks,.xl Ag s.p.gs,.xl Am s.p.bs,.v<|ag J s.p.tk,.v<|.bool s.p.up,.xl AQ s.p.ls,.v<|ag J s.p.se,.xl (.int aw) s.p.fl,.xl Aj s.p.ra,.v<|ag J s.p.nx,.os 8 4 0<|M s.p.st,.os 9 5 0<|M s.p.ca,.os 10 3 0<|M s.p.mi,.os 11 3 0<|M s.p.me,.xl Ap s.p.dm,.xl BP s.p.lk,.os 14 1 0<|M s.p.dr,.os 15 1 0<|M s.p.tg,.v<|ag J s.ev.ek,.v<|ag J s.ev.en,.v<|ag J s.ev.em,.v<|ag J s.ev.c1,.v<|ag J s.ev.c2,.v<|ag J s.ev.c3,.v<|ag J s.ev.c4,.v<|ag J s.ev.c5,.v<|.bool s.ev.d1,.v<|ag J s.ev.d2,.v<|ag J s.ev.d3,.v<|ag J s.ev.d4,.os 20 1 0<|M s.dw],115,.cl,X⟩,AP,AP,AP,bV 3 A7 s.dw],λv b=>⟨B9 Ag v 1,AL v 2,AL v 3,rT b,rG b,Ad A7 b 20⟩,Xn,λs r=> {s with i:=r.i,p.st:=r.p.st,p.mi:=r.p.mi,p.me:=r.p.me,dw:=r.dw},λs=>s,λ_ s=>s,[.exit 0],lG,Ue,cY⟩
abbrev Jn:=Rr.run
abbrev ate:=Rr.Au
def vO:aVI:=[Qx,fy,Xh,Xf,Xe,Xi,X8,XA,RS]
def agO:Ay:=IJ vO (la 1 func60 Kc<|la 2 func69 Jr<|la 9 func26 Co<|l0 vO) [⟨58,Px.m,Tq⟩]
def ayC:Rq Ue Xn:=by
 intro s hI;refine ⟨λc1=>⟨?_,?_,?_,λc2=>⟨A9,A9,A9,A9,A9,A9,A9,A9,ak⟩,λc2=>⟨?_,?_,?_,?_,?_,?_,λc3=>⟨A9,A9,A9,A9,A9,A9,A9,A9,ak⟩,λc3=>⟨?_,?_,?_,?_,?_,?_,?_,λc4=>⟨?_,?_,λc5=>⟨?_,?_,?_,λc6=>⟨?_,?_,A9,?_,A9,?_,?_,A9,A9,?_,ak⟩,λc6=>⟨A9,A9,A9,?_,?_,A9,A9,?_,ak⟩⟩,λc5=>⟨A9,A9,A9,?_,?_,A9,A9,?_,ak⟩⟩,λc4=>⟨λc7=>⟨?_,?_,?_,λc8=>⟨?_,?_,A9,?_,A9,?_,A9,A9,A9,?_,ak⟩,λc8=>⟨A9,A9,A9,?_,A9,A9,A9,?_,ak⟩⟩,λc7=>⟨A9,A9,A9,?_,A9,A9,A9,?_,ak⟩⟩⟩⟩⟩,λc1=>⟨A9,A9,A9,A9,A9,A9,A9,A9,ak⟩⟩
 all_goals ((obtain ⟨h0,h1,h2,h3,hg,l1,l2,l3,l4,l5⟩:=hI;simp only [Ab] at c1;first|(rw [hg];omega) |omega|exact ⟨rfl,AI⟩ |(rw [aVg];exact aTC)))
def aRn:Rr.Ok:={}
def aQZ:Rr.Pf (aBg):=⟨amV,λs h=>rfl,agy,ayC⟩
def Lr:=s2 (b:=bN f61 0) aRn aQZ vO agO
def auu:Rs lG ate Jn (λs:M6=>FE (λk d=>FD s.p.gs s.p.ca d (k:Y)) s.i.toNat ⟨s.p.st,s.p.mi,s.p.me,s.dw⟩ (s.n-s.i).toNat) (λx s' (v:DW)=>x=.exit 0/\(⟨s'.p.st,s'.p.mi,s'.p.me,s'.dw⟩:DW)=v):=DZ aRn aQZ (λs hI=>by
  show DV _ _ ((Xn s).rd s)
  unfold Xn fo;dsimp only [T.rd,T.rl];obtain ⟨h0,h1,h2,h3,hg,l1,l2,l3,l4,l5⟩:=hI
  have hi:((s.i.toNat:aVx):Y)=s.i:=CO h0
  rw [hg];simp only [aVg];refine AH (λc1=>?_) λc1=>?_
  ·refine AH (λc2=>?_) (λc2=>?_)
   ·have c1:s.i<s.n:=AY
    rw [AJ (x:=s.i+1),Mj h0 c1,hi]
    have c2:(Bg s.p.ca s.i).2.2.1=0:=Dv<|(DB _).mp c2
    rw [alr c2];rfl
   ·refine AH (λc3=>?_) (λc3=>?_)
    ·have c1:s.i<s.n:=AY
     rw [AJ (x:=s.i+1),Mj h0 c1,hi]
     have c2:¬(Bg s.p.ca s.i).2.2.1=0:=F5.1<|(IP _).mp c2
     have c3:=F5.1 c3
     rw [alq c2 c3];rfl
    ·refine AH (λc4=>?_) (λc4=>?_)
     ·refine AH (λc5=>?_) (λc5=>?_)
      ·refine AH (λc6=>?_) (λc6=>?_)
       ·have c1:s.i<s.n:=AY
        rw [AJ (x:=s.i+1),Mj h0 c1,hi]
        have c2:¬(Bg s.p.ca s.i).2.2.1=0:=F5.1<|(IP _).mp c2
        have c3:JY (Bg s.p.ca s.i) (CD s.p.mi s.i) (AF s.p.gs s.i).2.2.1 (Be (AF s.p.gs s.i)<|BF s.p.st s.i)=0:=Dv c3
        rw [Ut c2 c3];rw [AD (show G6 (GY s.p.me s.i) (Ff (Bg s.p.ca s.i) (CD s.p.mi s.i) (AF s.p.gs s.i).2.2.1<|Be (AF s.p.gs s.i)<|BF s.p.st s.i) (cnt<|Ee (Bg s.p.ca s.i) (CD s.p.mi s.i) (AF s.p.gs s.i).2.2.1<|Be (AF s.p.gs s.i)<|BF s.p.st s.i)=0 from eq_of_beq c4)];exact aMA
       ·have c1:s.i<s.n:=AY
        rw [AJ (x:=s.i+1),Mj h0 c1,hi]
        have c2:¬(Bg s.p.ca s.i).2.2.1=0:=F5.1<|(IP _).mp c2
        have c3:JY (Bg s.p.ca s.i) (CD s.p.mi s.i) (AF s.p.gs s.i).2.2.1 (Be (AF s.p.gs s.i)<|BF s.p.st s.i)=0:=Dv c3
        rw [Ut c2 c3];rw [AD (show G6 (GY s.p.me s.i) (Ff (Bg s.p.ca s.i) (CD s.p.mi s.i) (AF s.p.gs s.i).2.2.1<|Be (AF s.p.gs s.i)<|BF s.p.st s.i) (cnt<|Ee (Bg s.p.ca s.i) (CD s.p.mi s.i) (AF s.p.gs s.i).2.2.1<|Be (AF s.p.gs s.i)<|BF s.p.st s.i)=0 from eq_of_beq c4)];exact aMB
      ·have c1:s.i<s.n:=AY
       rw [AJ (x:=s.i+1),Mj h0 c1,hi]
       have c2:¬(Bg s.p.ca s.i).2.2.1=0:=F5.1<|(IP _).mp c2
       have c3:JY (Bg s.p.ca s.i) (CD s.p.mi s.i) (AF s.p.gs s.i).2.2.1 (Be (AF s.p.gs s.i)<|BF s.p.st s.i)=0:=Dv c3
       rw [Ut c2 c3];rw [AD (show G6 (GY s.p.me s.i) (Ff (Bg s.p.ca s.i) (CD s.p.mi s.i) (AF s.p.gs s.i).2.2.1<|Be (AF s.p.gs s.i)<|BF s.p.st s.i) (cnt<|Ee (Bg s.p.ca s.i) (CD s.p.mi s.i) (AF s.p.gs s.i).2.2.1<|Be (AF s.p.gs s.i)<|BF s.p.st s.i)=0 from eq_of_beq c4)];exact aM2
     ·refine AH (λc5=>?_) (λc5=>?_)
      ·refine AH (λc6=>?_) (λc6=>?_)
       ·have c1:s.i<s.n:=AY
        rw [AJ (x:=s.i+1),Mj h0 c1,hi]
        have c2:¬(Bg s.p.ca s.i).2.2.1=0:=F5.1<|(IP _).mp c2
        have c3:JY (Bg s.p.ca s.i) (CD s.p.mi s.i) (AF s.p.gs s.i).2.2.1 (Be (AF s.p.gs s.i)<|BF s.p.st s.i)=0:=Dv c3
        rw [Ut c2 c3];rw [AE (show ¬G6 (GY s.p.me s.i) (Ff (Bg s.p.ca s.i) (CD s.p.mi s.i) (AF s.p.gs s.i).2.2.1<|Be (AF s.p.gs s.i)<|BF s.p.st s.i) (cnt<|Ee (Bg s.p.ca s.i) (CD s.p.mi s.i) (AF s.p.gs s.i).2.2.1<|Be (AF s.p.gs s.i)<|BF s.p.st s.i)=0 from CT.1 c4)];exact aMA
       ·have c1:s.i<s.n:=AY
        rw [AJ (x:=s.i+1),Mj h0 c1,hi]
        have c2:¬(Bg s.p.ca s.i).2.2.1=0:=F5.1<|(IP _).mp c2
        have c3:JY (Bg s.p.ca s.i) (CD s.p.mi s.i) (AF s.p.gs s.i).2.2.1 (Be (AF s.p.gs s.i)<|BF s.p.st s.i)=0:=Dv c3
        rw [Ut c2 c3];rw [AE (show ¬G6 (GY s.p.me s.i) (Ff (Bg s.p.ca s.i) (CD s.p.mi s.i) (AF s.p.gs s.i).2.2.1<|Be (AF s.p.gs s.i)<|BF s.p.st s.i) (cnt<|Ee (Bg s.p.ca s.i) (CD s.p.mi s.i) (AF s.p.gs s.i).2.2.1<|Be (AF s.p.gs s.i)<|BF s.p.st s.i)=0 from CT.1 c4)];exact aMB
      ·have c1:s.i<s.n:=AY
       rw [AJ (x:=s.i+1),Mj h0 c1,hi]
       have c2:¬(Bg s.p.ca s.i).2.2.1=0:=F5.1<|(IP _).mp c2
       have c3:=Dv c3
       rw [Ut c2 c3];rw [AE (show ¬G6 (GY s.p.me s.i) (Ff (Bg s.p.ca s.i) (CD s.p.mi s.i) (AF s.p.gs s.i).2.2.1<|Be (AF s.p.gs s.i)<|BF s.p.st s.i) (cnt<|Ee (Bg s.p.ca s.i) (CD s.p.mi s.i) (AF s.p.gs s.i).2.2.1<|Be (AF s.p.gs s.i)<|BF s.p.st s.i)=0 from CT.1 c4)];exact aM2
  ·have c1:s.n<=s.i:=AY
   exact ⟨rfl,(qM c1).symm⟩)
structure ND where
 m:aVA
 (k i:Y)
 p:PK
 ev:EW
 (dw out:aVw)
def an9 (s:ND):aVy:=[.os 21 1 0<|M s.out,s.m,s.k,s.i]
def an4 (s:ND):aVB:=[AP,AP,zB,AP,bV 81 Af s.p.cs,AP,AP,AP,AP,AP,AP,AP,AP,AP,AP,bV 3 A7 s.p.tg,⟨[.os 4 11 0<|M s.p.cs,.xl .str s.p.os,.xl An s.p.ks,.xl Ag s.p.gs,.xl Am s.p.bs,.v<|ag J s.p.tk,.v<|.bool s.p.up,.xl AQ s.p.ls,.v<|ag J s.p.se,.xl (.int aw) s.p.fl,.xl Aj s.p.ra,.v<|ag J s.p.nx,.xl B7 s.p.st,.xl AQ s.p.ca,.xl BA s.p.mi,.xl BT s.p.me,.xl Ap s.p.dm,.xl BP s.p.lk,.xl A7 s.p.dr,.os 15 1 0<|M s.p.tg,.v<|ag J s.ev.ek,.v<|ag J s.ev.en,.v<|ag J s.ev.em,.v<|ag J s.ev.c1,.v<|ag J s.ev.c2,.v<|ag J s.ev.c3,.v<|ag J s.ev.c4,.v<|ag J s.ev.c5,.v<|.bool s.ev.d1,.v<|ag J s.ev.d2,.v<|ag J s.ev.d3,.v<|ag J s.ev.d4,.os 20 1 0<|M s.dw],115,.cl,X⟩,AP,AP,AP,bV 3 A7 s.dw,bV 3 A7 s.out]
def ap2:=bN f45 0
def zo (s:ND):T (Rd ND):=letI a:=s.out.set s.i.toNat (AF s.m s.i).2.2.2.2.2.2.1;.br (an<|s.i<s.k) (.ix s.i (M s.m)<|.ik s.i (M s.out)<|.re (M s.out) a<|.rl s.p.cs<|.rl s.p.tg<|.rl s.dw<|.nx {s with i:=AA<|s.i+1,out:=a})<|.rl s.out<|.rl s.p.cs<|.rl s.p.tg<|.rl s.dw<|.so (.exit 0) s
def kG (s:ND):Prop:=s.i=0/\s.k=(M s.m:Y)/\s.k<=1000/\M s.out=M s.m/\(∀j,0<=j->j<s.k->gi s.out j=0)/\True
def Yv (s:ND):Prop:=(0<=s.i/\s.i<=s.k)/\s.k=(M s.m:Y)/\s.k<=1000/\M s.out=M s.m/\(∀j,0<=j->j<s.k->gi s.out j=if j<s.i then CV (AF s.m j) else 0)/\True
def v7 (s:ND):aVx:=(s.k-s.i).toNat
def aBq (x:Ex) (s s':ND):Prop:=x=.exit 0/\s'.out=HP (M s'.m) (λj=>CV<|AF s'.m j)
def akg:∀s,kG s->Yv s:=by
 exact T7
def axF:Da Yv v7 aBq zo:=by
 intro s hI;obtain ⟨⟨h0,h1⟩,h2,h3,h4,h5,h6⟩:=hI;refine AH (λc1=>?_) λc1=>?_
 ·have c1:s.i<s.k:=AY
  rw [AJ (x:=s.i+1)];refine ⟨⟨⟨A8,A8⟩,h2,h3,A8,λj j0 j1=>?_,h6⟩,by simp only [v7];omega⟩
  simp only;rw [JE h0 A0 j0];exact mS
 ·exact aN
def R7:AS ND:=⟨21,25,[3,11,12,13],[.pc 16 12 B7,.kb 8,.pc 16 13 AQ,.kb 9,.pc 16 14 BA,.kb 10,.pc 16 15 BT,.kb 11,.pc 16 18 A7,.kb 14],an9,an4,λv b=>⟨B9 Ag v 1,AL v 2,AL v 3,rB b 16 4 0 0 0 0 0 0 0 0 0 0 15,rG b,Ad A7 b 20,Ad A7 b 21⟩,zo,λs r=> {s with i:=r.i,out:=r.out},λs=>s,λ_ s=>s,[.exit 0],kG,Yv,v7⟩
abbrev eV:=R7.run
abbrev au5:=R7.Au
def PL:aVI:=[Qx,Xh,Xf,Xe,Xi,X8,XA,RS]
def agN:Ay:=IJ PL (la 2 func61 Lr<|la 1 func60 Kc<|la 2 func69 Jr<|la 9 func26 Co<|l0 PL) [⟨58,Px.m,Tq⟩]
def ax2:Rq Yv zo:=by
 intro s hI;refine ⟨λc1=>⟨?_,?_,?_,?_,A9,A9,A9,ak⟩,λc1=>⟨A9,A9,A9,A9,ak⟩⟩
 all_goals ((obtain ⟨⟨h0,h1⟩,h2,h3,h4,h5,h6⟩:=hI;(try simp only [Ab] at c1);first|omega|exact ⟨rfl,AI⟩ |(omega)))
def aS3:R7.Ok:={}
def aQ1:R7.Pf (aBq):=⟨akg,λs h=>rfl,axF,ax2⟩
def Mp:SA 21 ap2 R7:=s2 aS3 aQ1 PL agN
def arC:Fi kG Yv aBq au5 eV:=AS.fin aS3 aQ1
structure NF where
 m:aVw
 (k i:Y)
 p:PK
 ev:EW
 (dw DE:aVw)
def anB (s:NF):aVy:=[.own 16 0,.os 21 1 0<|M s.DE,.xl A7 s.m,s.k,s.i]
def an5 (s:NF):aVB:=[AP,AP,zB,AP,bV 81 Af s.p.cs,AP,AP,AP,AP,AP,AP,AP,AP,AP,AP,bV 3 A7 s.p.tg,⟨[.os 4 11 0<|M s.p.cs,.xl .str s.p.os,.xl An s.p.ks,.xl Ag s.p.gs,.xl Am s.p.bs,.v<|ag J s.p.tk,.v<|.bool s.p.up,.xl AQ s.p.ls,.v<|ag J s.p.se,.xl (.int aw) s.p.fl,.xl Aj s.p.ra,.v<|ag J s.p.nx,.xl B7 s.p.st,.xl AQ s.p.ca,.xl BA s.p.mi,.xl BT s.p.me,.xl Ap s.p.dm,.xl BP s.p.lk,.xl A7 s.p.dr,.os 15 1 0<|M s.p.tg,.v<|ag J s.ev.ek,.v<|ag J s.ev.en,.v<|ag J s.ev.em,.v<|ag J s.ev.c1,.v<|ag J s.ev.c2,.v<|ag J s.ev.c3,.v<|ag J s.ev.c4,.v<|ag J s.ev.c5,.v<|.bool s.ev.d1,.v<|ag J s.ev.d2,.v<|ag J s.ev.d3,.v<|ag J s.ev.d4,.os 20 1 0<|M s.dw],115,.cl,X⟩,AP,AP,AP,bV 3 A7 s.dw,bV 3 A7 s.DE]
def ap3:=bN f62 0
def zp (s:NF):T (Rd NF):=letI b:=s.DE.getD s.i.toNat<|Ty.dflt A7;letI c:=M s.DE;letI a:=s.DE.set s.i.toNat (if b<(gi s.m s.i) then (gi s.m s.i) else b);.br (an<|s.i<s.k) (.ix s.i (M s.m)<|.ik s.i c<|.ik s.i c<|.re c a<|.rl s.p.cs<|.rl s.p.tg<|.rl s.dw<|.nx {s with i:=AA<|s.i+1,DE:=a})<|.rl s.DE<|.rl s.p.cs<|.rl s.p.tg<|.rl s.dw<|.so (.exit 0) s
def kH (s:NF):Prop:=s.i=0/\s.k=(M s.m:Y)/\s.k<=1000/\M s.DE=M s.m/\(∀j,0<=j->j<s.k->gi s.DE j=CV (AF s.p.gs j))/\True
def Yw (s:NF):Prop:=(0<=s.i/\s.i<=s.k)/\s.k=(M s.m:Y)/\s.k<=1000/\M s.DE=M s.m/\(∀j,0<=j->j<s.k->gi s.DE j=if j<s.i then mx (CV<|AF s.p.gs j) (gi s.m j) else CV (AF s.p.gs j))/\True
def v8 (s:NF):aVx:=(s.k-s.i).toNat
def aBr (x:Ex) (s s':NF):Prop:=x=.exit 0/\s'.DE=HP (M s'.m) (λj=>mx (CV<|AF s'.p.gs j)<|gi s'.m j)
def akh:∀s,kH s->Yw s:=by
 exact T7
def axG:Da Yw v8 aBr zp:=by
 intro s hI;obtain ⟨⟨h0,h1⟩,h2,h3,h4,h5,h6⟩:=hI;refine AH (λc1=>?_) λc1=>?_
 ·have c1:s.i<s.k:=AY
  rw [AJ (x:=s.i+1)];refine ⟨⟨⟨A8,A8⟩,h2,h3,A8,λj j0 j1=>?_,h6⟩,by simp only [v8];omega⟩
  simp only
  have hi:=h5 s.i h0 c1
  rw [AE (show ¬s.i<s.i by omega)] at hi
  rw [JE h0 bJ j0]
  by_cases e:j=s.i
  ·subst e
   rw [AD rfl,AD (show s.i<s.i+1 by omega)]
   show mx (gi s.DE s.i) (gi s.m s.i)=_
   rw [hi]
  ·exact yH
 ·exact aN
def R8:AS NF:=⟨21,125,[0,2,51,52,53],[],anB,an5,λv b=>⟨B9 A7 v 2,AL v 3,AL v 4,rB b 16 4 0 0 0 0 0 0 0 0 0 0 15,rG b,Ad A7 b 20,Ad A7 b 21⟩,zp,λs r=> {s with i:=r.i,DE:=r.DE},λs=>s,λ_ s=>s,[.exit 0],kH,Yw,v8⟩
abbrev eW:=R8.run
abbrev au6:=R8.Au
def agM:Ay:=IJ PL (la 3 func45 Mp<|la 2 func61 Lr<|la 1 func60 Kc<|la 2 func69 Jr<|la 9 func26 Co<|l0 PL) [⟨58,Px.m,Tq⟩]
def ax3:Rq Yw zp:=by
 intro s hI;refine ⟨λc1=>⟨?_,?_,?_,?_,?_,?_,A9,A9,A9,ak⟩,λc1=>⟨A9,A9,A9,A9,ak⟩⟩
 all_goals ((obtain ⟨⟨h0,h1⟩,h2,h3,h4,h5,h6⟩:=hI;(try simp only [Ab] at c1);first|omega|exact ⟨rfl,AI⟩ |(omega)))
def aS4:R8.Ok:={}
def aQ2:R8.Pf (aBr):=⟨akh,λs h=>rfl,axG,ax3⟩
def Nr:SA 21 ap3 R8:=s2 aS4 aQ2 PL agM
def arD:Fi kH Yw aBr au6 eW:=AS.fin aS4 aQ2
def azf {gs:aVA}{am:aVw}{b:aVH}:((Hf gs am==0)&&!(an (M am=M gs)&&!b))=(an (M am=M gs)&&b):=by
 unfold Hf
 grind
def cdS (cs:aVF) (tg:aVw) (i:Y):aVF:=letI a:=(cpC cs).getD i.toNat<|Ty.dflt Af;(cpC cs).set i.toNat (a.1,(a.2.1,((tg.getD i.toNat<|Ty.dflt A7),a.2.2.2)))
def iE {cs:aVF}{tg:aVw}{i:Y}(h0:0<=i) (h:i<(M cs:Y)):cdS cs tg i=cs.set i.toNat (GV (Ae cs i.toNat)<|gi tg i.toNat):=by
 have e1:cs.getD i.toNat (Ty.dflt Af)=Ae cs (i.toNat:Y):=by
  rw [DA,Dh A0];rw [show Ae cs (i.toNat:Y)=cs[i.toNat]' A0 from Qw A0];rfl
 unfold cdS;rw [Xb,e1,CO h0];rfl
structure JJ where
 am:aVw
 (n i:Y)
 p:PK
 ev:EW
 dw:aVw
def an8 (s:JJ):aVy:=[.own 16 0,.xl A7 s.am,.os 15 1 0<|M s.p.tg,s.n,s.i]
def an3 (s:JJ):aVB:=[AP,AP,zB,AP,⟨[],81,.dead,X⟩,AP,AP,AP,AP,AP,AP,AP,AP,AP,AP,bV 3 A7 s.p.tg,⟨[.os 21 11 0<|M s.p.cs,.xl .str s.p.os,.xl An s.p.ks,.xl Ag s.p.gs,.xl Am s.p.bs,.v<|ag J s.p.tk,.v<|.bool s.p.up,.xl AQ s.p.ls,.v<|ag J s.p.se,.xl (.int aw) s.p.fl,.xl Aj s.p.ra,.v<|ag J s.p.nx,.xl B7 s.p.st,.xl AQ s.p.ca,.xl BA s.p.mi,.xl BT s.p.me,.xl Ap s.p.dm,.xl BP s.p.lk,.xl A7 s.p.dr,.os 15 1 0<|M s.p.tg,.v<|ag J s.ev.ek,.v<|ag J s.ev.en,.v<|ag J s.ev.em,.v<|ag J s.ev.c1,.v<|ag J s.ev.c2,.v<|ag J s.ev.c3,.v<|ag J s.ev.c4,.v<|ag J s.ev.c5,.v<|.bool s.ev.d1,.v<|ag J s.ev.d2,.v<|ag J s.ev.d3,.v<|ag J s.ev.d4,.os 20 1 0<|M s.dw],115,.cl,X⟩,AP,AP,AP,bV 3 A7 s.dw,bV 81 Af s.p.cs]
def ap1:=bN f62 1
def iL (s:JJ):T (Rd JJ):=letI a:=((M s.p.cs:aVx):Y);letI b:=cdS s.p.cs s.p.tg s.i;letI c:=(b.drop 0).take a.toNat;letI d:=AA<|s.i+1;.br (an<|s.i<s.n) (.ik s.i (M s.p.tg)<|.ik s.i (M s.p.cs)<|.br (an<|(s.p.tg.getD s.i.toNat<|Ty.dflt A7)>=(s.p.cs.getD s.i.toNat<|Ty.dflt Af).2.2.1) (.rl s.p.tg<|.rl s.p.cs<|.rl s.p.tg<|.rl s.dw<|.nx {s with i:=d})<|.rm 96 a<|.rz s.p.cs<|.rc a (ByteArray.empty,((0:Y),((0:Y),((0:Y),(((0:Y),(0:Y)),((0:Y),((0:Y),((0:Y),((0:Y),(0:Y)))))))))) (M<|AR s.p.cs)<|.ix s.i a.toNat<|.req (s.i.toNat<M (cpC s.p.cs))<|.req (0+a.toNat<=M b)<|.req (B6 c s.p.os s.p.ks s.p.gs s.p.bs=U/\(M s.am=M s.p.gs->∀k:aVx,k<M s.am->0<=gi s.am k/\gi s.am k<=80))<|.br (((Hf s.p.gs s.am)==0)&&(!(an (M s.am=M s.p.gs)&&!DG c s.p.gs s.am))) (.rl s.p.tg<|.re a.toNat b<|.rl s.p.tg<|.rl s.dw<|.nx {s with i:=d,p.cs:=b})<|.rl s.p.tg<|.rl s.p.cs<|.rl s.p.tg<|.rl s.dw<|.nx {s with i:=d})<|.rl s.p.tg<|.rl s.p.cs<|.rl s.p.tg<|.rl s.dw<|.so (.exit 2) s
def YE (s:JJ):Prop:=s.i=0/\s.n=(M s.p.tg:Y)/\M s.p.tg=M s.p.cs/\B6 s.p.cs s.p.os s.p.ks s.p.gs s.p.bs=U/\(∀k:aVx,k<M s.p.cs->1<=gi s.p.tg k/\gi s.p.tg k<=1000)/\(M s.am=M s.p.gs->∀k:aVx,k<M s.am->0<=gi s.am k/\gi s.am k<=80)
def Yu (s:JJ):Prop:=0<=s.i/\s.i<=s.n/\s.n=(M s.p.tg:Y)/\M s.p.tg=M s.p.cs/\B6 s.p.cs s.p.os s.p.ks s.p.gs s.p.bs=U/\(∀k:aVx,k<M s.p.cs->1<=gi s.p.tg k/\gi s.p.tg k<=1000)/\(M s.am=M s.p.gs->∀k:aVx,k<M s.am->0<=gi s.am k/\gi s.am k<=80)
def fg (s:JJ):aVx:=(s.n-s.i).toNat
def abx (x:Ex) (s s':JJ):Prop:=True
def ake:∀s,YE s->Yu s:=by
 exact yI
def uB {s:JJ}(hI:Yu s) (c1:s.i<s.n):letI a:=GV (Ae s.p.cs s.i.toNat)<|gi s.p.tg s.i.toNat;((cdS s.p.cs s.p.tg s.i).drop 0).take ((M s.p.cs:aVx):Y).toNat=s.p.cs.set s.i.toNat a/\B6 (s.p.cs.set s.i.toNat a) s.p.os s.p.ks s.p.gs s.p.bs=true:=by
 obtain ⟨h0,h1,h2,h3,h4,h5,h6⟩:=hI;rw [iE h0 A0];exact ⟨by rw [CX];exact Di AI,cu h4 A0<|h5 _ A0⟩
def axE:Da Yu fg abx iL:=by
 intro s hI;unfold iL;obtain ⟨h0,h1,h2,h3,h4,h5,h6⟩:=hI
 have hs:=DC.1 h4
 refine AH (λc1=>AH (λc2=>?_) λc2=>AH (λc3=>?_) λc3=>?_) λc1=>trivial
 all_goals have c1:s.i<s.n:=AY
 all_goals rw [AJ (x:=s.i+1)]
 ·exact aMQ
 ·rw [iE h0 A0]
  exact ⟨⟨Ac,Ac,h2,A8,cu h4 A0<|h5 _ A0,A8,h6⟩,by simp only [fg];omega⟩
 ·exact aMQ
def Pv:AS JJ:=⟨21,125,[0,2,72,73,74],[.pc 16 12 B7,.kb 8,.pc 16 13 AQ,.kb 9,.pc 16 14 BA,.kb 10,.pc 16 15 BT,.kb 11,.pc 16 18 A7,.kb 14,.pb 2 A7,.ms 0 0],an8,an3,λv b=>⟨B9 A7 v 1,AL v 3,AL v 4,rB b 16 21 0 0 0 0 0 0 0 0 0 0 15,rG b,Ad A7 b 20⟩,iL,λs r=> {s with i:=r.i,p.cs:=r.p.cs},λs=>s,λ_ s=>s,[.exit 2],YE,Yu,fg⟩
abbrev Tm:=Pv.run
abbrev au4:=Pv.Au
def agL:Ay:=IJ PL (la 6 func62 Nr<|la 3 func45 Mp<|la 2 func61 Lr<|la 1 func60 Kc<|la 2 func69 Jr<|la 9 func26 Co<|l0 PL) [⟨58,Px.m,Tq⟩]
def axc:Rq Yu iL:=by
 intro s hI;refine ⟨λc1=>⟨?_,?_,?_,?_,λc2=>⟨A9,A9,A9,A9,ak⟩,λc2=>⟨?_,?_,?_,?_,?_,?_,?_,λc3=>⟨A9,?_,A9,A9,ak⟩,λc3=>⟨A9,A9,A9,A9,ak⟩⟩⟩,λc1=>⟨A9,A9,A9,A9,ak⟩⟩
 all_goals ((obtain ⟨h0,h1,h2,h3,h4,h5,h6⟩:=id hI;have hs:=DC.1 h4;simp only [Ab] at c1;first|exact ⟨by rw [(uB hI c1).1];exact (uB hI c1).2,h6⟩ |((try rw [Xb]);(try rw [Fq]);(try rw [iE h0 A0]);first|omega|exact ⟨rfl,AI⟩ |(simp;done))))
def aS2:Pv.Ok:={}
def aQ0:Pv.Pf (abx):=⟨ake,λs h=>rfl,axE,axc⟩
def PE:SA 21 ap1 Pv:=s2 aS2 aQ0 PL agL
def afH:Rs YE au4 Tm (λs:JJ=>FE (ba s.p.gs s.p.tg s.am) s.i.toNat s.p.cs (s.n-s.i).toNat) (λx s' (v:aVF)=>x=.exit 2/\s'.p.cs=v):=DZ aS2 aQ0 (λs hI=>by
  obtain ⟨h0,h1,h2,h3,h4,h5,h6⟩:=id hI
  have hs:=DC.1 h4
  refine AH (λc1=>?_) λc1=>?_
  ·have c1:s.i<s.n:=A8
   have hg:s.p.tg.getD s.i.toNat (Ty.dflt A7)=gi s.p.tg s.i.toNat:=Mc
   have hc:(s.p.cs.getD s.i.toNat<|Ty.dflt Af)=Ae s.p.cs s.i.toNat:=Mc
   rw [AJ (x:=s.i+1),Mj h0 c1,hg,hc,(uB hI c1).1,iE h0 A0,azf];refine AH (λc2=>?_) λc2=>?_
   ·rw [show ba s.p.gs s.p.tg s.am s.i.toNat s.p.cs=s.p.cs from AD<|DH c2]
    rfl
   refine AH (λc3=>?_) λc3=>?_
   ·rw [show ba s.p.gs s.p.tg s.am s.i.toNat s.p.cs=_ from (AE<|KJ c2).trans<|AD c3]
    rfl
   ·rw [show ba s.p.gs s.p.tg s.am s.i.toNat s.p.cs=_ from (AE<|KJ c2).trans<|AE A8]
    rfl
  ·have c1:s.n<=s.i:=A8
   exact ⟨rfl,(qM c1).symm⟩)
structure I2 where
 p:PK
 ev:EW
def UW (s:I2):aVy:=[.own 16 0]
def Z9 (s:I2):aVB:=[AP,AP,zB,AP,bV 81 Af s.p.cs,bV 134 AQ s.p.ls,bV 5 (.int aw) s.p.fl,bV 138 Aj s.p.ra,bV 99 B7 s.p.st,bV 71 AQ s.p.ca,bV 143 BA s.p.mi,bV 102 BT s.p.me,bV 73 Ap s.p.dm,bV 149 BP s.p.lk,bV 3 A7 s.p.dr,bV 3 A7 s.p.tg,⟨[.os 4 11 0<|M s.p.cs,.xl .str s.p.os,.xl An s.p.ks,.xl Ag s.p.gs,.xl Am s.p.bs,.v<|ag J s.p.tk,.v<|.bool s.p.up,.os 5 5 0<|M s.p.ls,.v<|ag J s.p.se,.os 6 1 0<|M s.p.fl,.os 7 2 0<|M s.p.ra,.v<|ag J s.p.nx,.os 8 4 0<|M s.p.st,.os 9 5 0<|M s.p.ca,.os 10 3 0<|M s.p.mi,.os 11 3 0<|M s.p.me,.os 12 4 0<|M s.p.dm,.os 13 6 0<|M s.p.lk,.os 14 1 0<|M s.p.dr,.os 15 1 0<|M s.p.tg,.v<|ag J s.ev.ek,.v<|ag J s.ev.en,.v<|ag J s.ev.em,.v<|ag J s.ev.c1,.v<|ag J s.ev.c2,.v<|ag J s.ev.c3,.v<|ag J s.ev.c4,.v<|ag J s.ev.c5,.v<|.bool s.ev.d1,.v<|ag J s.ev.d2,.v<|ag J s.ev.d3,.v<|ag J s.ev.d4,.v<|.slice aj 0 0],115,.cl,X⟩]
def Jq (s:I2):OC:=(⟨(PK.AK s.p).lk,(M (PK.AK s.p).lk:Y),0,PK.AK s.p,s.ev,([]:aWa)⟩:OC)
def TV (s:I2):M8:=(⟨((M (PK.AK s.p).dr:aVx):Y),0,{(PK.AK s.p) with st:=(KU<|Jq s).p.st,lk:=AR (KU<|Jq s).left},s.ev⟩:M8)
def Hu (s:I2):M6:=letI a:=(M (PK.AK s.p).gs:Y);(⟨(PK.AK s.p).gs,a,0,{(PK.AK s.p) with st:=(dy<|TV s).p.st,lk:=AR (KU<|Jq s).left},s.ev,aq a.toNat (0:Y)⟩:M6)
def dN (s:I2):ND:=letI a:=PK.AK s.p;letI b:=Jn<|Hu s;(⟨a.gs,(M a.gs:Y),0,{a with st:=AR b.p.st,ca:=AR a.ca,mi:=AR b.p.mi,me:=AR b.p.me,lk:=AR (KU<|Jq s).left,dr:=AR a.dr},s.ev,b.dw,aq (M a.gs:Y).toNat (0:Y)⟩:ND)
def TT (s:I2):NF:=letI b:=PK.AK s.p;letI c:=Jn<|Hu s;letI a:=(HL b.ls (M b.gs:Y)<|AA<|b.tk+1);(⟨a,(M a:Y),0,{b with st:=AR c.p.st,ca:=AR b.ca,mi:=AR c.p.mi,me:=AR c.p.me,lk:=AR (KU<|Jq s).left,dr:=AR b.dr},s.ev,c.dw,(eV<|dN s).out⟩:NF)
def TS (s:I2):JJ:=letI a:=PK.AK s.p;letI b:=Jn<|Hu s;(⟨AR (eW<|TT s).DE,((M a.tg:aVx):Y),0,{a with st:=AR b.p.st,ca:=AR a.ca,mi:=AR b.p.mi,me:=AR b.p.me,lk:=AR (KU<|Jq s).left,dr:=AR a.dr},s.ev,b.dw⟩:JJ)
def TR (s:I2):JJ:=letI a:=PK.AK s.p;letI b:=Jn<|Hu s;(⟨([]:aVw),((M a.tg:aVx):Y),0,{a with st:=AR b.p.st,ca:=AR a.ca,mi:=AR b.p.mi,me:=AR b.p.me,lk:=AR (KU<|Jq s).left,dr:=AR a.dr},s.ev,b.dw⟩:JJ)
structure Y0 where
 res:Y
 p:PK
 ev:EW
 dw:aVw
def acK (s:Y0):LV:=.v<|ag J s.res
def acW (s:Y0):aVB:=[AP,AP,zB,AP,AP,AP,AP,AP,AP,AP,AP,AP,AP,AP,AP,AP,⟨[.xl Af s.p.cs,.xl .str s.p.os,.xl An s.p.ks,.xl Ag s.p.gs,.xl Am s.p.bs,.v<|ag J s.p.tk,.v<|.bool s.p.up,.xl AQ s.p.ls,.v<|ag J s.p.se,.xl (.int aw) s.p.fl,.xl Aj s.p.ra,.v<|ag J s.p.nx,.xl B7 s.p.st,.xl AQ s.p.ca,.xl BA s.p.mi,.xl BT s.p.me,.xl Ap s.p.dm,.xl BP s.p.lk,.xl A7 s.p.dr,.xl A7 s.p.tg,.v<|ag J s.ev.ek,.v<|ag J s.ev.en,.v<|ag J s.ev.em,.v<|ag J s.ev.c1,.v<|ag J s.ev.c2,.v<|ag J s.ev.c3,.v<|ag J s.ev.c4,.v<|ag J s.ev.c5,.v<|.bool s.ev.d1,.v<|ag J s.ev.d2,.v<|ag J s.ev.d3,.v<|ag J s.ev.d4,.xl A7 s.dw],115,.cl,X⟩]
def iT (s:I2):T Y0:=letI a:=PK.AK s.p;letI b:=Jn<|Hu s;letI c:=(M a.gs:Y);letI d:=AR (KU<|Jq s).left;letI e:=AA<|a.tk+1;letI f:=(aq c.toNat (0:Y));.br (s.p.tk==1000000) (.rz s.p.cs<|.rz s.p.ls<|.rz s.p.fl<|.rz s.p.ra<|.rz s.p.st<|.rz s.p.ca<|.rz s.p.mi<|.rz s.p.me<|.rz s.p.dm<|.rz s.p.lk<|.rz s.p.dr<|.rz s.p.tg<|.ok<|⟨15,⟨AR s.p.cs,s.p.os,s.p.ks,s.p.gs,s.p.bs,s.p.tk,s.p.up,AR s.p.ls,s.p.se,AR s.p.fl,AR s.p.ra,s.p.nx,AR s.p.st,AR s.p.ca,AR s.p.mi,AR s.p.me,AR s.p.dm,AR s.p.lk,AR s.p.dr,AR s.p.tg⟩,s.ev,([]:aVw)⟩)<|.pc s.p<|.req (aiv (⟨s.p,s.ev⟩:M4))<|.r0 Lk<|.pd a<|.req (Ry.q<|Jq s)<|.rz (KU<|Jq s).left (.rl a.dr<|.rl a.cs<|.rl (KU<|Jq s).p.st<|.rl a.ca<|.rl a.mi<|.rl a.me<|.rl a.dr<|.rl a.tg<|.req (Q7.q<|TV s)<|.rm 8 c<|.rl a.cs<|.rl (dy<|TV s).p.st<|.rl a.ca<|.rl a.mi<|.rl a.me<|.rl a.dr<|.rl a.tg<|.re c.toNat f<|.req (Rr.q<|Hu s)<|.br (! a.up) (.rz a.cs<|.rz b.p.st<|.rz a.ca<|.rz b.p.mi<|.rz b.p.me<|.rz a.dr<|.rz a.tg<|.rz b.dw<|.ok<|⟨0,{a with cs:=AR a.cs,tk:=e,st:=AR b.p.st,ca:=AR a.ca,mi:=AR b.p.mi,me:=AR b.p.me,lk:=d,dr:=AR a.dr,tg:=AR a.tg},s.ev,AR b.dw⟩)<|.br ((JU a.ls c e)==0) (.rm 8 c<|.rz b.p.st<|.rz a.ca<|.rz b.p.mi<|.rz b.p.me<|.rz a.dr<|.re c.toNat f<|.rl a.cs<|.rl a.tg<|.rl b.dw<|.req (R7.q<|dN s)<|.rl (eV<|dN s).out<|.rl a.cs<|.rl a.tg<|.rl b.dw<|.req (R8.q<|TT s)<|.rz (eW<|TT s).DE<|.rl a.tg<|.rl a.cs<|.rl a.tg<|.rl b.dw<|.req (Pv.q<|TS s)<|.rz (Tm<|TS s).p.cs<|.rz a.tg<|.rz b.dw<|.ok<|⟨0,{a with cs:=AR (Tm<|TS s).p.cs,tk:=e,st:=AR b.p.st,ca:=AR a.ca,mi:=AR b.p.mi,me:=AR b.p.me,lk:=d,dr:=AR a.dr,tg:=AR a.tg},s.ev,AR b.dw⟩)<|.rz b.p.st<|.rz a.ca<|.rz b.p.mi<|.rz b.p.me<|.rz a.dr<|.rl a.tg<|.rl a.cs<|.rl a.tg<|.rl b.dw<|.req (Pv.q<|TR s)<|.rz (Tm<|TR s).p.cs<|.rz a.tg<|.rz b.dw<|.ok<|⟨0,{a with cs:=AR (Tm<|TR s).p.cs,tk:=e,st:=AR b.p.st,ca:=AR a.ca,mi:=AR b.p.mi,me:=AR b.p.me,lk:=d,dr:=AR a.dr,tg:=AR a.tg},s.ev,AR b.dw⟩)
def aCP (s:I2):Prop:=(VP s.p/\RQ s.p)/\VK s.p.se s.p.fl/\B0 s.p.ls=U
def UG (s:I2):Y0:=⟨PK.Ib s.p,Jd (PK.Ib s.p) (PK.BX s.p) s.p,s.ev,if PK.Ib s.p=0 then PK.Ek s.p else []⟩
def aCm:D8 I2 Y0:=⟨UW,Z9,λv b=>⟨rF b,rG b⟩,aCP,[0,1,3],[.pc 16 0 Af,.kb 4,.pc 16 7 AQ,.kb 5,.pc 16 9<|.int aw,.kb 6,.pc 16 10 Aj,.kb 7,.pc 16 12 B7,.kb 8,.pc 16 13 AQ,.kb 9,.pc 16 14 BA,.kb 10,.pc 16 15 BT,.kb 11,.pc 16 16 Ap,.kb 12,.pc 16 17 BP,.kb 13,.pc 16 18 A7,.kb 14,.pc 16 19 A7,.kb 15,.pc 16 32 A7],acK,acW,UG⟩
abbrev ain (s:I2):Prop:=aCP s/\UW s=UW s/\Z9 s=Z9 s
def X1:aVI:=[Qx,Xh,Xf,Xe,Xi,X8,XA,RS]
def aSb:Ay:=IJ X1 (la 11 func62 PE<|la 6 func62 Nr<|la 3 func45 Mp<|la 2 func61 Lr<|la 1 func60 Kc<|la 2 func69 Jr<|la 9 func26 Co<|l0 X1) [⟨58,Px.m,Tq⟩]
def aUs:DU:=Cb 62 21 11 (Pv.lp)<|Cb 62 21 6 (R8.lp)<|Cb 45 21 3 (R7.lp)<|Cb 61 20 2 (Rr.lp)<|Cb 60 20 1 (Q7.lp)<|Cb 69 19 2 (Ry.lp)<|Cb 26 0 9 (H3.lp)<|E5 prog AV X1 20 2
def apX:EZ prog AV aUs:=DO func62 rfl AU PE<|DO func62 rfl AU Nr<|DO func45 rfl AU Mp<|DO func61 rfl AU Lr<|DO func60 rfl AU Kc<|DO func69 rfl AU Jr<|DO func26 rfl AU Co<|Hz<|gk X1
def azN (s:I2):((El prog AV X1 aUs aSb).k 28 (UW s)<|Z9 s).bind (λq=>GO (M<|Z9 s) [0] [.pc 16 0 Af,.kb 4,.pc 16 7 AQ,.kb 5,.pc 16 9<|.int aw,.kb 6,.pc 16 10 Aj,.kb 7,.pc 16 12 B7,.kb 8,.pc 16 13 AQ,.kb 9,.pc 16 14 BA,.kb 10,.pc 16 15 BT,.kb 11,.pc 16 16 Ap,.kb 12,.pc 16 17 BP,.kb 13,.pc 16 18 A7,.kb 14,.pc 16 19 A7,.kb 15,.pc 16 32 A7] .normal (q.1::UW s) q.2)=(iT s).mp (λs2=>⟨.normal,M (UW s)+1,[acK s2],acW s2,U⟩):=AU
def awj (s:I2) (hE:aCP s):(iT s).all (λq=>q=UG s):=by
 obtain ⟨⟨hV,hR⟩,hK,hls⟩:=id hE
 have hq:=hV.dec
 have hs:=DC.1 hq.site
 have hs0:=DC.1 hV.site
 have htk:s.p.AK.tk=s.p.tk:=(J0 s.p).2.2.2.2.2.1
 have hd:=aTD hR A0
 have hp:=hV.tk
 have A1:ke (Jq s):=⟨rfl,rfl,by show (M s.p.AK.lk:Y)<=20000000;omega,yY,hq.lk,hq.st⟩
 have q1:=(avI _ A1).2
 have r1:(KU<|Jq s).p.st=s.p.AK.Ik.st:=by
  refine (Prod.mk.inj q1).1.trans ?_
  show (s.p.AK.lk.drop 0).foldl _ _=L5 _ _ _ _ _
  rw [aFI _<|Aq _,Eg];rfl
 have r2:(KU<|Jq s).left=s.p.AK.Ik.lk:=(Prod.mk.inj q1).2
 have h2:TV s=⟨(M s.p.AK.dr:Y),0,s.p.AK.Ik,s.ev⟩:=by
  unfold TV;rw [r1,Fq,r2];rfl
 have A2:lV (TV s):=by
  rw [h2];exact ⟨rfl,rfl,hq.dr,by show (M s.p.AK.dr:Y)<=1000;rw [hq.dr];omega,hq.arr.st,by show 0<=s.p.AK.tk/\s.p.AK.tk<=1000000;rw [htk];exact hp⟩
 have r3:(dy<|TV s).p.st=s.p.AZ.st:=by
  refine (auW _ A2).2.trans ?_;rw [h2]
  show FE (cnt1 s.p.AK.gs s.p.AK.dr s.p.AK.tk) 0 s.p.AK.Ik.st ((M s.p.AK.dr:Y)-0).toNat=_
  rw [QN,C0,ai0];rfl
 have h3:Hu s=⟨s.p.AZ.gs,(M s.p.AZ.gs:Y),0,s.p.AZ,s.ev,aq (M s.p.AZ.gs) 0⟩:=by
  unfold Hu;rw [r3,Fq,r2,C0];rfl
 have hb:VP s.p.AZ:=hq.arr.cnt
 have A3:lG (Hu s):=by
  rw [h3];exact ⟨rfl,rfl,ye,rfl,hb.st,hb.ca,hb.mi,hb.me,Ci⟩
 have q4:=(auu _ A3).2
 have q4:(⟨(Jn<|Hu s).p.st,(Jn<|Hu s).p.mi,(Jn<|Hu s).p.me,(Jn<|Hu s).dw⟩:DW)=s.p.AZ.dw:=by
  refine q4.trans ?_;rw [h3]
  show FE (λk d=>FD s.p.AZ.gs s.p.AZ.ca d (k:Y)) 0 _ ((M s.p.AZ.gs:Y)-0).toNat=_
  rw [QN,C0,alp];rfl
 have r4:(Jn<|Hu s).p.st=s.p.AZ.dw.st:=B2 DW.st q4
 have r5:(Jn<|Hu s).p.mi=s.p.AZ.dw.mi:=B2 DW.mi q4
 have r6:(Jn<|Hu s).p.me=s.p.AZ.dw.me:=B2 DW.me q4
 have r7:(Jn<|Hu s).dw=s.p.AZ.dw.dw:=B2 DW.dw q4
 have hw:AA (s.p.AK.tk+1)=s.p.AK.tk+1:=AJ
 have hdr:VP s.p.AZ.BY:=hb.drw
 unfold iT;simp only [Fq,r2,r3,r4,r5,r6,r7,hw];refine ⟨λc=>?_,λc=>?_⟩
 ·have e:s.p.Ib=15:=AD (eq_of_beq c)
  repeat (refine ⟨Dk,?_⟩)
  show _=_
  unfold UG;rw [e,Js Aa,AE Aa]
 have e:s.p.Ib=0:=AE<|CT.1 c
 repeat (refine ⟨Dk,?_⟩)
 refine ⟨⟨hE,rfl,rfl⟩,?_⟩
 repeat (refine ⟨Dk,?_⟩)
 refine ⟨⟨A1,rfl,rfl⟩,?_⟩
 repeat (refine ⟨Dk,?_⟩)
 refine ⟨⟨A2,rfl,rfl⟩,?_⟩
 repeat (refine ⟨Dk,?_⟩)
 refine ⟨⟨A3,rfl,rfl⟩,λc2=>?_,λc2=>?_⟩
 ·have c2:s.p.AZ.BY.up=false:=(DB _).mp c2
  repeat (refine ⟨Dk,?_⟩)
  show _=_
  unfold UG;rw [e,Lx rfl,AD rfl];unfold PK.BX PK.K2;rw [AD c2];rfl
 have hu:¬s.p.AZ.BY.up=false:=by intro h;rw [show s.p.AK.up=X from h] at c2;cases c2
 have R:∀ {am cs},s.p.AZ.BY.Jg=am->Cp s.p.AZ.BY.gs s.p.AZ.BY.tg am s.p.AZ.BY.cs (M s.p.AZ.BY.tg)=cs->s.p.BX={s.p.AK with cs:=cs,tk:=s.p.AK.tk+1,st:=s.p.AZ.dw.st,mi:=s.p.AZ.dw.mi,me:=s.p.AZ.dw.me,lk:=s.p.AK.Ik.lk}:=λh1 h2=>by
  unfold PK.BX PK.K2;rw [AE hu,h1,h2];rfl
 refine ⟨λc3=>?_,λc3=>?_⟩
 ·have c3:JU s.p.AK.ls (M s.p.AK.gs) (s.p.AK.tk+1)=0:=eq_of_beq c3
  have cO:K5 s.p.AK.ls (M s.p.AK.gs) (s.p.AK.tk+1)=true:=by
   unfold JU at c3;split at c3
   ·assumption
   ·cases c3
  have cL:HL s.p.AK.ls (M s.p.AK.gs) (s.p.AK.tk+1)=GP (M s.p.AK.gs) s.p.AK.ls (s.p.AK.tk+1):=by
   unfold HL;rw [AD cO,C0]
  have hl:B0 s.p.AK.ls=true:=by
   unfold K5 at cO;simp only [AX] at cO;exact cO.1.1
  have hsA:s.p.AZ.BY.Jg=D4 s.p.AK.gs s.p.AK.ls (s.p.AK.tk+1):=AD c3
  have A4:kG (dN s):=⟨rfl,rfl,ye,by show M (aq (M s.p.AK.gs:Y).toNat (0:Y))=_;rw [Ci,C0];rfl,λj _ _=>Kd,ak⟩
  obtain ⟨_,_,_,q5⟩:=arC _ A4
  have q5:(eV<|dN s).out=Bt s.p.AK.gs:=q5
  have hlen:M (GP (M s.p.AK.gs) s.p.AK.ls<|s.p.AK.tk+1)=M s.p.AK.gs:=dW
  have h6:TT s=⟨GP (M s.p.AK.gs) s.p.AK.ls<|s.p.AK.tk+1,(M s.p.AK.gs:Y),0,s.p.AZ.BY,s.ev,s.p.AZ.dw.dw,Bt s.p.AK.gs⟩:=by
   unfold TT;simp only [Fq,r2,r4,r5,r6,r7,hw,q5,cL,hlen];rfl
  have A5:kH (TT s):=by
   rw [h6];refine ⟨rfl,by show (M s.p.AK.gs:Y)=_;rw [hlen],ye,by show M (Bt s.p.AK.gs)=_;rw [hlen];exact IT,λj j0 j1=>(show gi (Bt s.p.AK.gs) j=CV (AF s.p.AK.gs j) from P4 j0 j1),ak⟩
  obtain ⟨_,_,_,q6⟩:=arD _ A5
  have q6:(eW<|TT s).DE=D4 s.p.AK.gs s.p.AK.ls (s.p.AK.tk+1):=by
   refine q6.trans ?_;rw [h6]
   show HP (M<|GP (M s.p.AK.gs) s.p.AK.ls<|s.p.AK.tk+1) _=_
   rw [hlen];rfl
  have h7:TS s=⟨D4 s.p.AK.gs s.p.AK.ls<|s.p.AK.tk+1,(M s.p.AK.tg:Y),0,s.p.AZ.BY,s.ev,s.p.AZ.dw.dw⟩:=by
   unfold TS;simp only [Fq,r2,r4,r5,r6,r7,q6];rfl
  have A6:YE (TS s):=by
   rw [h7];exact ⟨rfl,rfl,hq.Ep,hq.site,hq.tg1,λ_ k hk=>IV hq.site hl A0 (by have:M (D4 s.p.AK.gs s.p.AK.ls<|s.p.AK.tk+1)=M s.p.AK.gs:=IT;have hk:k<M (D4 s.p.AK.gs s.p.AK.ls<|s.p.AK.tk+1):=hk;omega)⟩
  have q7:(Tm<|TS s).p.cs=Cp s.p.AK.gs s.p.AK.tg (D4 s.p.AK.gs s.p.AK.ls<|s.p.AK.tk+1) s.p.AK.cs (M s.p.AK.tg):=by
   exact aMi
  repeat (refine ⟨Dk,?_⟩)
  refine ⟨⟨A4,rfl,rfl⟩,?_⟩
  repeat (refine ⟨Dk,?_⟩)
  refine ⟨⟨A5,rfl,rfl⟩,?_⟩
  repeat (refine ⟨Dk,?_⟩)
  refine ⟨⟨A6,rfl,rfl⟩,?_⟩
  repeat (refine ⟨Dk,?_⟩)
  show _=_
  unfold UG;rw [e,Lx rfl,AD rfl,R hsA q7.symm];rfl
 ·have c3:¬JU s.p.AK.ls (M s.p.AK.gs) (s.p.AK.tk+1)=0:=CT.1 c3
  have hsA:s.p.AZ.BY.Jg=[]:=AE c3
  have h7:TR s=⟨[],(M s.p.AK.tg:Y),0,s.p.AZ.BY,s.ev,s.p.AZ.dw.dw⟩:=by
   unfold TR;simp only [Fq,r2,r4,r5,r6,r7];rfl
  have A6:YE (TR s):=by
   rw [h7];exact ⟨rfl,rfl,hq.Ep,hq.site,hq.tg1,λ_ k hk=>Na⟩
  have q7:(Tm<|TR s).p.cs=Cp s.p.AK.gs s.p.AK.tg [] s.p.AK.cs (M s.p.AK.tg):=by
   exact aMi
  repeat (refine ⟨Dk,?_⟩)
  refine ⟨⟨A6,rfl,rfl⟩,?_⟩
  repeat (refine ⟨Dk,?_⟩)
  show _=_
  unfold UG;rw [e,Lx rfl,AD rfl,R hsA q7.symm];rfl
def aiX:Dp prog AV 28 aCm.m:=D8.sound (D:=aCm) (t:=iT) (gk X1) apX aSb.h azN λs hE=>⟨awj s hE⟩
def JP (p:PK):Prop:=(VP p/\RQ p)/\VK p.se p.fl/\B0 p.ls=U
variable {p : PK} {ev : EW}
def oq {e:EV}(h:BO p e≠0):BM p e=PK0/\CU p e=[]:=⟨AD h,AD h⟩
def aD9 (hv:EH p=U) (h:ev.ek=1):BO p ev.ev=p.Ib/\(p.Ib=0->BM p ev.ev=p.BX/\CU p ev.ev=p.Ek):=by
 exact QT
def aLD (hv:EH p=U) (h:ev.ek=2):BO p ev.ev=p.GL ev.en ev.c ev.d/\(p.GL ev.en ev.c ev.d=0->BM p ev.ev=p.O7 ev.en ev.c ev.d/\CU p ev.ev=[]):=by
 exact QT
def aLC (hv:EH p=U) (h:ev.ek=3):BO p ev.ev=p.JK ev.en/\(p.JK ev.en=0->BM p ev.ev=p.RB ev.en/\CU p ev.ev=[]):=by
 exact QT
def aLB (hv:EH p=U) (h:ev.ek=4):BO p ev.ev=p.O8 ev.en/\(p.O8 ev.en=0->BM p ev.ev=p.iz ev.en/\CU p ev.ev=[]):=by
 exact QT
def aLJ (hv:EH p=U) (h:ev.ek=5):BO p ev.ev=p.N1/\(p.N1=0->BM p ev.ev=p.Pb/\CU p ev.ev=[]):=by
 exact QT
def aLI (hv:EH p=U) (h:ev.ek=6):BO p ev.ev=p.Fs/\(p.Fs=0->BM p ev.ev=p.UM/\CU p ev.ev=[]):=by
 exact QT
def aLH (hv:EH p=U) (h:ev.ek=7):BO p ev.ev=p.O6 ev.en/\(p.O6 ev.en=0->BM p ev.ev=p.aVh ev.en/\CU p ev.ev=[]):=by
 exact QT
def aLG (hv:EH p=U) (h:ev.ek=8):BO p ev.ev=p.I7 ev.en ev.em/\(p.I7 ev.en ev.em=0->BM p ev.ev=p.LH ev.en ev.em/\CU p ev.ev=[]):=by
 exact QT
def aLF (hv:EH p=U) (h:ev.ek≠1/\ev.ek≠2/\ev.ek≠3/\ev.ek≠4/\ev.ek≠5/\ev.ek≠6/\ev.ek≠7/\ev.ek≠8):BO p ev.ev=9:=by
 obtain ⟨h1,h2,h3,h4,h5,h6,h7,h8⟩:=h
 simp [BO,hv,EW.ev,h1,h2,h3,h4,h5,h6,h7,h8]
def JP.lb (h:JP p):LB p:=by
 obtain ⟨⟨hV,hR⟩,hK,_⟩:=h
 have hs:=DC.1 hV.site
 have hf:=hR.fl.2.1
 have hl:=hR.ls
 have hk:=hR.lk
 have hr:=hR.ra
 have ht:=hV.tk
 have h1:=hV.st
 have h2:=hV.ca
 have h3:=hV.mi
 have h4:=hV.me
 have h5:=hV.dm
 have h6:=hV.dr
 have h7:=hV.Ep
 have hf:M p.fl=2048:=hf
 refine ⟨?_,?_,?_,?_,?_,?_,?_,?_,?_,?_,?_,?_,λm hm=>Hr (hR.mi m hm) Aa⟩<;>omega
end Go.Proofs.YtjdlmobanmhohaaGreatDoor
namespace Go.Proofs.YtjdlmobanmhohaaGreatDoor
set_option maxRecDepth 100000
set_option maxHeartbeats 4000000
open Go.Proofs.Tryz
open Go.Sx
def aKq:aVy->T LV
 | [x_p,x_ev]=>(match NK x_p with
  |some p=>(match oJ x_ev with
  |some ev=> .req (JP p) (.ok<|.AO [BM p<|EW.ev ev,.xl A7<|CU p<|EW.ev ev,BO p<|EW.ev ev])
  |none=> .no)
  |none=> .no)
 |_=> .no
def tkO (p:PK) (ev:EW):PK:=Jd (PK.Ib p) (PK.BX p)<|p
def ad2 (p:PK) (ev:EW):PK:=Jd (PK.GL p ev.en (EW.c ev)<|EW.d ev) (PK.O7 p ev.en (EW.c ev)<|EW.d ev)<|p
def ad3 (p:PK) (ev:EW):PK:=Jd (PK.JK p ev.en) (PK.RB p ev.en)<|p
def ad8 (p:PK) (ev:EW):PK:=Jd (PK.O8 p ev.en) (PK.iz p ev.en)<|p
def ad1 (p:PK) (ev:EW):PK:=Jd (PK.N1 p) (PK.Pb p)<|p
def adH (p:PK) (ev:EW):PK:=Jd (PK.Fs p) (PK.UM p)<|p
def LJ (e:Y):LV:=.AO [.agg [.xl Af ([]:aVF),.xl .str ([]:aVz),.xl An ([]:aVK),.xl Ag ([]:aVA),.xl Am ([]:aVL),.v<|ag J 0,.v<|.bool X,.xl AQ ([]:aVG),.v<|ag J 0,.xl (.int aw) ([]:aVw),.xl Aj ([]:aV3),.v<|ag J 0,.xl B7 ([]:aVW),.xl AQ ([]:aVG),.xl BA ([]:aWj),.xl BT ([]:aWm),.xl Ap ([]:aVU),.xl BP ([]:aWa),.xl A7 ([]:aVw),.xl A7 ([]:aVw)],.xl A7 ([]:aVw),.v<|ag J e]
def gP:aVI:=[ajp]
def aSa:Ay:=IJ gP (la 11 func62 PE<|la 6 func62 Nr<|la 3 func45 Mp<|la 2 func61 Lr<|la 1 func60 Kc<|la 2 func69 Jr<|la 9 func26 Co<|l0 gP) [⟨26,R2 λa=>kr.m a [],ahw⟩,⟨28,aCm.m,aiX⟩,⟨29,aCo.m,aiZ⟩,⟨30,aCq.m,aib⟩,⟨31,aCp.m,aia⟩,⟨32,aCr.m,aic⟩,⟨33,aCn.m,aiY⟩,⟨34,aCl.m,aiW⟩,⟨35,aCs.m,aid⟩]
def asy (p:PK) (ev:EW):letI a:=ad2 p ev;letI b:=ad3 p ev;letI e:=ad8 p ev;letI f:=ad1 p ev;letI g:=adH p ev;letI h:=(azy (⟨p⟩:Ms));letI i:=M p.me;letI j:=M p.dm;letI k:=M p.lk;letI l:=M p.dr;letI m:=M p.tg;letI n:=PK.GL p ev.en (EW.c ev)<|EW.d ev;Bm prog AV (gP) aSa Al f15 [p,ev]=.req (M p.lk<=100000000) (.br (!(EH p)) (.ok<|LJ 1)<|.br (ev.ek==(1:Y)) (.req h<|.rv (ev)<|.pa p<|.rl p.st<|.rl p.ca<|.rl p.mi<|.re i p.me<|.re j p.dm<|.re k p.lk<|.re l p.dr<|.re m p.tg<|.req (ain (⟨p,ev⟩:I2))<|.br ((PK.Ib p) !=0) (.ok<|LJ<|PK.Ib p)<|.ok<|.AO [tkO p ev,.xl A7 (if PK.Ib (p)=0 then PK.Ek p else []),(0:Y)])<|.br (ev.ek==(2:Y)) (.req h<|.rv (ev)<|.pa p<|.rl p.st<|.rl p.ca<|.rl p.mi<|.re i p.me<|.re j p.dm<|.re k p.lk<|.re l p.dr<|.re m p.tg<|.req (aip (⟨p,ev⟩:OQ))<|.br (n !=0) (.ok<|LJ n)<|.rz a.cs<|.rz a.ls<|.rz a.fl<|.rz a.ra<|.rz a.st<|.rz a.ca<|.rz a.mi<|.rz a.me<|.rz a.dm<|.rz a.lk<|.rz a.dr<|.rz a.tg<|.ok<|.AO [.agg [AR a.cs,a.os,a.ks,a.gs,a.bs,a.tk,a.up,AR a.ls,a.se,.xl (.int aw)<|AR a.fl,AR a.ra,a.nx,AR a.st,AR a.ca,AR a.mi,AR a.me,AR a.dm,AR a.lk,.xl A7<|AR a.dr,.xl A7<|AR a.tg],.xl A7 ([]:aVw),(0:Y)])<|.br (ev.ek==(3:Y)) (.req h<|.rv (ev)<|.pa p<|.rl p.st<|.rl p.ca<|.rl p.mi<|.re i p.me<|.re j p.dm<|.re k p.lk<|.re l p.dr<|.re m p.tg<|.req (air (⟨p,ev⟩:OS))<|.br ((PK.JK p ev.en) !=0) (.ok<|LJ<|PK.JK p ev.en)<|.rz b.cs<|.rz b.ls<|.rz b.fl<|.rz b.ra<|.rz b.st<|.rz b.ca<|.rz b.mi<|.rz b.me<|.rz b.dm<|.rz b.lk<|.rz b.dr<|.rz b.tg<|.ok<|.AO [.agg [AR b.cs,b.os,b.ks,b.gs,b.bs,b.tk,b.up,AR b.ls,b.se,.xl (.int aw)<|AR b.fl,AR b.ra,b.nx,AR b.st,AR b.ca,AR b.mi,AR b.me,AR b.dm,AR b.lk,.xl A7<|AR b.dr,.xl A7<|AR b.tg],.xl A7 ([]:aVw),(0:Y)])<|.br (ev.ek==(4:Y)) (.req h<|.rv (ev)<|.pa p<|.rl p.st<|.rl p.ca<|.rl p.mi<|.re i p.me<|.re j p.dm<|.re k p.lk<|.re l p.dr<|.re m p.tg<|.req (aiq (⟨p,ev⟩:OR))<|.br ((PK.O8 p ev.en) !=0) (.ok<|LJ<|PK.O8 p ev.en)<|.rz e.cs<|.rz e.ls<|.rz e.fl<|.rz e.ra<|.rz e.st<|.rz e.ca<|.rz e.mi<|.rz e.me<|.rz e.dm<|.rz e.dr<|.rz e.tg<|.ok<|.AO [.agg [AR e.cs,e.os,e.ks,e.gs,e.bs,e.tk,e.up,AR e.ls,e.se,.xl (.int aw)<|AR e.fl,AR e.ra,e.nx,AR e.st,AR e.ca,AR e.mi,AR e.me,AR e.dm,e.lk,.xl A7<|AR e.dr,.xl A7<|AR e.tg],.xl A7 ([]:aVw),(0:Y)])<|.br (ev.ek==(5:Y)) (.req h<|.rv (ev)<|.pa p<|.rl p.st<|.rl p.ca<|.rl p.mi<|.re i p.me<|.re j p.dm<|.re k p.lk<|.re l p.dr<|.re m p.tg<|.req (ais (⟨p,ev⟩:OT))<|.br ((PK.N1 p) !=0) (.ok<|LJ<|PK.N1 p)<|.rz f.cs<|.rz f.fl<|.rz f.ra<|.rz f.st<|.rz f.ca<|.rz f.mi<|.rz f.me<|.rz f.dm<|.rz f.lk<|.rz f.dr<|.rz f.tg<|.ok<|.AO [.agg [AR f.cs,f.os,f.ks,f.gs,f.bs,f.tk,f.up,f.ls,f.se,.xl (.int aw)<|AR f.fl,AR f.ra,f.nx,AR f.st,AR f.ca,AR f.mi,AR f.me,AR f.dm,AR f.lk,.xl A7<|AR f.dr,.xl A7<|AR f.tg],.xl A7 ([]:aVw),(0:Y)])<|.br (ev.ek==(6:Y)) (.req h<|.rv (ev)<|.pa p<|.rl p.st<|.rl p.ca<|.rl p.mi<|.re i p.me<|.re j p.dm<|.re k p.lk<|.re l p.dr<|.re m p.tg<|.req (aio (⟨p,ev⟩:OP))<|.br ((PK.Fs p) !=0) (.ok<|LJ<|PK.Fs p)<|.rz g.cs<|.rz g.st<|.rz g.ca<|.rz g.mi<|.rz g.me<|.rz g.dm<|.rz g.lk<|.rz g.dr<|.rz g.tg<|.ok<|.AO [.agg [AR g.cs,g.os,g.ks,g.gs,g.bs,g.tk,g.up,g.ls,g.se,.xl (.int aw) g.fl,g.ra,g.nx,AR g.st,AR g.ca,AR g.mi,AR g.me,AR g.dm,AR g.lk,.xl A7<|AR g.dr,.xl A7<|AR g.tg],.xl A7 ([]:aVw),(0:Y)])<|.br (ev.ek==(7:Y)) (.req h<|.rv (ev)<|.pa p<|.rl p.st<|.rl p.ca<|.rl p.mi<|.re i p.me<|.re j p.dm<|.re k p.lk<|.re l p.dr<|.re m p.tg<|.req (aim (⟨p,ev⟩:OO))<|.br ((PK.O6 p ev.en) !=0) (.ok<|LJ<|PK.O6 p ev.en)<|.rz p.cs<|.rz p.ls<|.rz p.fl<|.rz p.ra<|.rz (if PK.isC p ev.en=U then CW p.gs p.st ev.en 6 1 0 else p.st)<|.rz p.ca<|.rz p.mi<|.rz p.me<|.rz p.dm<|.rz p.lk<|.rz p.dr<|.rz p.tg<|.ok<|.AO [.agg [AR p.cs,p.os,p.ks,p.gs,p.bs,p.tk,p.up,AR p.ls,p.se,.xl (.int aw)<|AR p.fl,AR p.ra,p.nx,AR (if PK.isC p ev.en=U then CW p.gs p.st ev.en 6 1 0 else p.st),AR p.ca,AR p.mi,AR p.me,AR p.dm,AR p.lk,.xl A7<|AR p.dr,.xl A7<|AR p.tg],.xl A7 ([]:aVw),(0:Y)])<|.br (ev.ek==(8:Y)) (.req h<|.rv (ev)<|.pa p<|.rl p.st<|.rl p.ca<|.rl p.mi<|.re i p.me<|.re j p.dm<|.re k p.lk<|.re l p.dr<|.re m p.tg<|.req (aiu (⟨p,ev⟩:N6))<|.br ((PK.I7 p ev.en ev.em) !=0) (.ok<|LJ<|PK.I7 p ev.en ev.em)<|.rz p.cs<|.rz p.ls<|.rz p.fl<|.rz p.ra<|.rz p.st<|.rz p.ca<|.rz p.mi<|.rz p.me<|.rz p.dm<|.rz p.lk<|.rz p.dr<|.rz (if PK.I7 p ev.en ev.em=1 then p.tg else p.tg.set ev.en.toNat ev.em)<|.ok<|.AO [.agg [AR p.cs,p.os,p.ks,p.gs,p.bs,p.tk,p.up,AR p.ls,p.se,.xl (.int aw)<|AR p.fl,AR p.ra,p.nx,AR p.st,AR p.ca,AR p.mi,AR p.me,AR p.dm,AR p.lk,.xl A7<|AR p.dr,.xl A7<|AR (if PK.I7 p ev.en ev.em=1 then p.tg else p.tg.set ev.en.toNat ev.em)],.xl A7 ([]:aVw),(0:Y)])<|.ok<|LJ 9):=AU
def fv:=vo (S:=aKq) func15 gP aSa (λargs lv h=>by
 refine ⟨?_⟩;unfold aKq at h;split at h
 ·split at h
  case h_2=>cases h
  rename_i p hp;obtain rfl:=Wj hp;split at h
  case h_2=>cases h
  rename_i ev hev;obtain rfl:=auk hev;simp only [canL,canX];rw [asy];obtain ⟨hJ,rfl⟩:=h;obtain ⟨⟨hV,hR⟩,hK,hl⟩:=id hJ
  have hv:=W9.2 hV
  have hs:=DC.1 hV.site
  have hlb:=hJ.lb
  have D:lJ ⟨p⟩:=hlb
  have hlk:=hlb.lk
  refine ⟨A0,λc=>?_,λ_=>?_⟩
  ·rw [hv] at c
   cases c
  refine ⟨λc1=>?_,λc1=>?_⟩
  ·have c1:ev.ek=1:=eq_of_beq c1
   obtain ⟨s1,s2⟩:=aD9 hv c1;refine ⟨⟨D,rfl,rfl⟩,rfl,?_⟩
   repeat (refine ⟨Dk,?_⟩)
   refine ⟨⟨hJ,rfl,rfl⟩,λc=>?_,λc=>?_⟩
   ·exact QS
   ·have c:=Dv c
    repeat (refine ⟨Mc,?_⟩)
    show _=_
    rw [(s2 c).1,(s2 c).2,s1,c];simp only [Fq];rw [show tkO p ev=_ from Lx c,AD trivial]
  refine ⟨λc1=>?_,λc2=>?_⟩
  ·have c1:ev.ek=2:=eq_of_beq c1
   obtain ⟨s1,s2⟩:=aLD hv c1;refine ⟨⟨D,rfl,rfl⟩,rfl,?_⟩
   repeat (refine ⟨Dk,?_⟩)
   refine ⟨⟨⟨hV.st,bB,hV.ca,hV.mi,hV.dm⟩,rfl,rfl⟩,λc=>?_,λc=>?_⟩
   ·exact QS
   ·have c:=Dv c
    repeat (refine ⟨Dk,?_⟩)
    show _=_
    rw [(s2 c).1,(s2 c).2,s1,c];simp only [Fq];rw [show ad2 p ev=_ from Lx c]
  refine ⟨λc1=>?_,λc3=>?_⟩
  ·have c1:ev.ek=3:=eq_of_beq c1
   obtain ⟨s1,s2⟩:=aLC hv c1;refine ⟨⟨D,rfl,rfl⟩,rfl,?_⟩
   repeat (refine ⟨Dk,?_⟩)
   refine ⟨⟨⟨hV.st,bB,hV.ca,hV.mi,hV.dm⟩,rfl,rfl⟩,λc=>?_,λc=>?_⟩
   ·exact QS
   ·have c:=Dv c
    repeat (refine ⟨Dk,?_⟩)
    show _=_
    rw [(s2 c).1,(s2 c).2,s1,c];simp only [Fq];rw [show ad3 p ev=_ from Lx c]
  refine ⟨λc1=>?_,λc4=>?_⟩
  ·have c1:ev.ek=4:=eq_of_beq c1
   obtain ⟨s1,s2⟩:=aLB hv c1;refine ⟨⟨D,rfl,rfl⟩,rfl,?_⟩
   repeat (refine ⟨Dk,?_⟩)
   refine ⟨⟨⟨bB,hlk⟩,rfl,rfl⟩,λc=>?_,λc=>?_⟩
   ·exact QS
   ·have c:=Dv c
    repeat (refine ⟨Dk,?_⟩)
    show _=_
    rw [(s2 c).1,(s2 c).2,s1,c];simp only [Fq];rw [show ad8 p ev=_ from Lx c]
  refine ⟨λc1=>?_,λc5=>?_⟩
  ·have c1:ev.ek=5:=eq_of_beq c1
   obtain ⟨s1,s2⟩:=aLJ hv c1;refine ⟨⟨D,rfl,rfl⟩,rfl,?_⟩
   repeat (refine ⟨Dk,?_⟩)
   refine ⟨⟨ak,rfl,rfl⟩,λc=>?_,λc=>?_⟩
   ·exact QS
   ·have c:=Dv c
    repeat (refine ⟨Dk,?_⟩)
    show _=_
    rw [(s2 c).1,(s2 c).2,s1,c];simp only [Fq];rw [show ad1 p ev=_ from Lx c]
  refine ⟨λc1=>?_,λc6=>?_⟩
  ·have c1:ev.ek=6:=eq_of_beq c1
   obtain ⟨s1,s2⟩:=aLI hv c1;refine ⟨⟨D,rfl,rfl⟩,rfl,?_⟩
   repeat (refine ⟨Dk,?_⟩)
   refine ⟨⟨⟨hR.fl.2.2,bB⟩,rfl,rfl⟩,λc=>?_,λc=>?_⟩
   ·exact QS
   ·have c:=Dv c
    repeat (refine ⟨Dk,?_⟩)
    show _=_
    rw [(s2 c).1,(s2 c).2,s1,c];simp only [Fq];rw [show adH p ev=_ from Lx c]
  refine ⟨λc1=>?_,λc7=>?_⟩
  ·have c1:ev.ek=7:=eq_of_beq c1
   obtain ⟨s1,s2⟩:=aLH hv c1;refine ⟨⟨D,rfl,rfl⟩,rfl,?_⟩
   repeat (refine ⟨Dk,?_⟩)
   refine ⟨⟨⟨hV.st,bB⟩,rfl,rfl⟩,λc=>?_,λc=>?_⟩
   ·exact QS
   ·have c:=Dv c
    have hc:p.isC ev.en=true:=by
     cases e:p.isC ev.en
     ·unfold PK.O6 at c
      rw [AD e] at c;cases c
     ·rfl
    repeat (refine ⟨Dk,?_⟩)
    show _=_
    rw [(s2 c).1,(s2 c).2,s1,c];simp only [Fq];rw [AD hc];rfl
  refine ⟨λc1=>?_,λc8=>?_⟩
  ·have c1:ev.ek=8:=eq_of_beq c1
   obtain ⟨s1,s2⟩:=aLG hv c1;refine ⟨⟨D,rfl,rfl⟩,rfl,?_⟩
   repeat (refine ⟨Dk,?_⟩)
   refine ⟨⟨hV,rfl,rfl⟩,λc=>?_,λc=>?_⟩
   ·exact QS
   ·have c:=Dv c
    repeat (refine ⟨Dk,?_⟩)
    show _=_
    rw [(s2 c).1,(s2 c).2,s1,c];simp only [Fq];rw [AE Aa];rfl
  have e:=aLF (ev:=ev) hv ⟨CT.1 c1,CT.1 c2,CT.1 c3,CT.1 c4,CT.1 c5,CT.1 c6,CT.1 c7,CT.1 c8⟩
  show LJ _=_
  rw [(oq (by rw [e];decide)).1,(oq (by rw [e];decide)).2,e]
  rfl
 ·cases h)
structure OV where
 (k0 k i Hy:Y)
 Hw:aVQ
 WN:Y
 Fp:aVQ
 apI:Y
 o:aVw
def aAT (s:OV):T (Rd OV):=letI a:=(s.o.set s.i.toNat (255:Y));.br (an<|s.i<s.k) (.ik s.i (M s.o)<|.re (M s.o) a<|.nx {s with i:=AA<|s.i+1,o:=a})<|.rl s.o<|.so (.exit 0) s
def lD (s:OV):Prop:=s.i=0/\s.k=(M s.o:Y)/\s.k<=4096
def jt (s:OV):Prop:=0<=s.i/\s.i<=s.k/\s.o.take s.i.toNat=aq s.i.toNat 255/\s.k=(M s.o:Y)/\s.k<=4096
def ua (s:OV):aVx:=(s.k-s.i).toNat
def abT (x:Ex) (s s':OV):Prop:=True
def amO:∀s,lD s->jt s:=by
 rintro s ⟨h0,h2,h3⟩
 exact ⟨A0,A0,GH,h2,h3⟩
def ahC:Da jt ua abT aAT:=by
 intro s hI;obtain ⟨h0,h1,hq,h2,h3⟩:=hI;refine AH (λc1=>?_) λc1=>trivial
 have c1:s.i<s.k:=A8
 rw [AJ (x:=s.i+1)];refine ⟨⟨A8,A8,?_,A8,h3⟩,by simp only [ua];omega⟩
 rw [show (s.i+1).toNat=s.i.toNat+1 by omega,Zh A8,List.take_set_of_le<|Aq _,hq,List.getElem_set_self,m6]
def Zc:AS OV:=⟨1,43,[4,5,6,33,34],[],λs=>[.own 1 0,s.k0,.own 2 0,s.k,s.i],λs=>[⟨[s.Hy,.v<|s.Hw],37,.cl,X⟩,⟨[s.WN,.v<|s.Fp],37,.cl,X⟩,⟨[s.apI,.os 3 1 0<|M s.o],37,.cl,X⟩,bV 5 (.int aw) s.o],λv b=>⟨AL v 1,AL v 3,AL v 4,Ak b 0 0,HD<|BC (Cc b 0) 1,Ak b 1 0,HD<|BC (Cc b 1) 1,Ak b 2 0,Ad (.int aw) b 3⟩,aAT,λs r=> {s with i:=r.i,o:=r.o},λs=>s,λ_ s=>s,[.exit 0],lD,jt,ua⟩
abbrev P2:=Zc.run
abbrev aJA:=Zc.Au
def X4:aVI:=[aAC]
def ag3:Ay:=kI X4<|l0 X4
def ayx:Rq jt aAT:=by
 intro s hI;refine ⟨λc1=>⟨?_,?_,?_,ak⟩,λc1=>⟨A9,ak⟩⟩
 all_goals ((obtain ⟨h0,h1,hq,h2,h3⟩:=hI;(try simp only [Ab] at c1);first|omega|exact ⟨rfl,AI⟩))
def aRj:Zc.Ok:={}
def aRA:Zc.Pf (abT):=⟨amO,λs h=>rfl,ahC,ayx⟩
def aqG:=s2 (b:=bN f85 0) aRj aRA X4 ag3
def atv:Rs lD aJA P2 (λs:OV=>aq s.k.toNat 255) (λx s' (v:aVw)=>x=.exit 0/\s'.o=v):=DZ aRj aRA (λs hI=>by
  obtain ⟨h0,h1,hq,h2,h3⟩:=hI;refine AH (λc1=>rfl) λc1=>⟨rfl,?_⟩
  have c1:s.k<=s.i:=A8
  rw [show s.i.toNat=s.k.toNat by omega,Di A0] at hq
  exact hq)
def aTf:aVy->T LV
 | [.v (ag J a),.v (ag J b)]=> .req (a=512/\b=4) (.ok<|.AO [.agg [(512:Y),.xl (.int aw) Dx],(0:Y)])
 |_=> .no
def Jp (a b:Y):OV:=(⟨0,(((AA<|a*b).toNat:aVx):Y),0,0,.slice aj 0 0,0,.slice aj 0 0,a,aq (AA<|a*b).toNat (0:Y)⟩:OV)
def ag2:Ay:=kI X4<|la 5 func85 aqG<|l0 X4
def as7:M Dx=2048:=Mc
def as8:BG [80,0,0,0,0] (aq (Int.toNat 2048) 255)=Dx:=by
 have h4:D6 0=[0,0,0,0]:=Aa
 have hp:BR []=[]:=rfl
 unfold BG Dx De;rw [h4,hp,List.drop_replicate,ES,Cx,xP]
 congr 1
def ajz:=vo (S:=aTf) func46 X4 ag2 (λargs lv h=>by
 unfold aTf at h;split at h
 ·rename_i a b
  refine At (letI d:=P2<|Jp a b;letI e:=(FC (0:Y) ([]:aVw));letI f:=AA<|a*b;letI g:=(BG ([(80:Y),(0:Y),(0:Y),(0:Y),(0:Y)]) d.o);letI i:=M d.o;.br (an<|a<1) (.br (((1:Y) !=0) ||(! e)) (.ok<|.AO [.agg [(0:Y),.xl (.int aw) ([]:aVw)],(1:Y)])<|.no /-copy to v -/)<|.br (an<|a>512) (.br (((1:Y) !=0) ||(! e)) (.ok<|.AO [.agg [(0:Y),.xl (.int aw) ([]:aVw)],(1:Y)])<|.no /-copy to v -/)<|.br (an<|b<1) (.br (((1:Y) !=0) ||(! e)) (.ok<|.AO [.agg [(0:Y),.xl (.int aw) ([]:aVw)],(1:Y)])<|.no /-copy to v -/)<|.req (a≠0)<|.br (an<|b>(AA<|(4096:Y).tdiv a)) (.br (((1:Y) !=0) ||(! e)) (.ok<|.AO [.agg [(0:Y),.xl (.int aw) ([]:aVw)],(1:Y)])<|.no /-copy to v -/)<|.req (0<=f/\f<=f/\1*f<=2^48/\f<2^63)<|.req (0=0/\f.toNat=M (aq f.toNat (0:Y)))<|.req (Zc.q<|Jp a b)<|.br ((0:Y) !=0) (.ok<|.AO [.agg [(0:Y),.xl (.int aw) ([]:aVw)],(1:Y)])<|.req (0+i<=M d.o)<|.br (!(FC a<|(d.o.drop 0).take i)) (.ok<|.AO [.agg [(0:Y),.xl (.int aw) ([]:aVw)],(1:Y)])<|.req (M d.o=M d.o/\M ([(80:Y),(0:Y),(0:Y),(0:Y),(0:Y)])<=M d.o)<|.req (0+i<=M g)<|.ok<|.AO [.agg [a,.xl (.int aw)<|(g.drop 0).take i],(0:Y)]) ?_;obtain ⟨⟨rfl,rfl⟩,rfl⟩:=h
  have hw:AA (512*4)=2048:=Aa
  have hk:(Jp 512 4).k=2048:=Mc
  have hl:M (Jp 512 4).o=2048:=Mc
  have hV:lD (Jp 512 4):=⟨rfl,by rw [hk,hl];rfl,by rw [hk];decide⟩
  have q:aJA (Jp 512 4)=.exit 0/\(P2<|Jp 512 4).o=aq (Jp 512 4).k.toNat 255:=atv _ hV
  rw [hk] at q
  have hL:M (P2<|Jp 512 4).o=2048:=by rw [q.2,Ci];rfl
  have hT:(((P2<|Jp 512 4).o).drop 0).take (M (P2<|Jp 512 4).o)=(P2<|Jp 512 4).o:=AI
  have hJ:FC 512 (P2<|Jp 512 4).o=true:=Ml.2 ⟨Nn.2 (by rw [hL];decide),by rw [hL];decide,A0,A0,Aa⟩
  have hC:BG [80,0,0,0,0] (P2<|Jp 512 4).o=Dx:=by rw [q.2];exact as8
  rw [hw,hT,hJ,hC,hL]
  have hj:=as7
  refine ⟨λc=>F6,λ_=>⟨λc=>F6,λ_=>⟨λc=>F6,λ_=>⟨Aa,λc=>F6,λ_=>⟨Aa,by rw [Ci];decide,⟨hV,rfl,rfl⟩,λc=>F6,λ_=>⟨Aa,λc=>F6,λ_=>⟨⟨rfl,Aa⟩,by rw [hj];decide,?_⟩⟩⟩⟩⟩⟩⟩
  rfl
 ·cases h)
def aTk:aVy->T LV
 | []=> .ok (.AO [.agg [(512:Y),.xl (.int aw) Dx],(0:Y)])
 |_=> .no
def ahh:aVI:=[ajz]
def wV:=vo (S:=aTk) func24 ahh kN (λargs lv h=>by
 refine ⟨?_⟩;unfold aTk at h;split at h
 ·simp only [canL]
  obtain rfl:=h;exact ⟨A9,rfl⟩
 ·cases h)
structure Po where
 ah3:aVw
 e:Y
 l:aVw
 (m i:Y)
 BD:aVF
 Bh:aVz
 C5:aVK
 BQ:aVA
 C6:aVL
def aGO:=bN f12 0
def zz (s:Po):T (Rd Po):=
 .br (an<|s.i<s.m) (.ix s.i (M s.l)<|.br (!(inB (gi s.l s.i) (-200) 200)) (.so (.ret) {s with e:=(1:Y)})<|.nx {s with i:=AA<|s.i+1}) (.so (.exit 0) s)
def jj (s:Po):Prop:=(s.i=0/\s.m=(M s.l:Y))/\s.m<=1000/\s.e=0
def YJ (s:Po):Prop:=(0<=s.i/\s.m=(M s.l:Y))/\s.m<=1000/\s.e=0/\∀j:aVx,(j:Y)<s.i->inB (gi s.l j) (-200) 200=U
def uK (s:Po):aVx:=(s.m-s.i).toNat
def aC1 (x:Ex) (s s':Po):Prop:=(x=.exit 0/\s'.e=0/\s'.l.all (λx=>inB x (-200) 200)=U)\/(x=.ret/\s'.e=1/\s'.l.all (λx=>inB x (-200) 200)=X)
def alV:∀s,jj s->YJ s:=by
 rintro s ⟨⟨h0,h1⟩,h2,h3⟩
 exact ⟨⟨A0,h1⟩,h2,h3,λj hj=>A0⟩
def azs:Da YJ uK aC1 zz:=by
 intro s hI;obtain ⟨⟨h0,h1⟩,h2,h3,h4⟩:=hI
 have key:s.l.all (λx=>inB x (-200) 200)=DS (M s.l) (λk=>inB (gi s.l k) (-200) 200):=(qI (f:=λx=>inB x (-200) 200)).symm
 refine AH (λc1=>AH (λc2=>?_) λc2=>?_) λc1=>?_
 ·have c1:s.i<s.m:=AY
  refine .inr ⟨rfl,rfl,?_⟩;rw [key];exact PA s.i.toNat A0 A8
 ·have c1:s.i<s.m:=A8
  have c2:=(IP _).mp c2
  rw [AJ (x:=s.i+1)];refine ⟨⟨⟨A8,h1⟩,h2,h3,λj hj=>?_⟩,by simp only [uK];omega⟩
  by_cases e:(j:Y)<s.i
  ·exact h4 j e
  ·rw [show (j:Y)=s.i by grind]
   exact c2
 ·have c1:s.m<=s.i:=A8
  exact .inl ⟨rfl,h3,by rw [key];exact Dl.2 λj hj=>h4 j A0⟩
def SD:AS Po:=⟨0,105,[1,2,4,5,27,28,29],[],λs=>[.xl A7 s.ah3,.own 0 0,.own 1 0,s.e,.xl A7 s.l,s.m,s.i],λs=>[⟨[s.BD,s.Bh,s.C5,s.BQ,s.C6],28,.cl,X⟩,zB],λv b=>⟨B9 A7 v 0,AL v 3,B9 A7 v 4,AL v 5,AL v 6,AG Af b 0 0,AG .str b 0 1,AG An b 0 2,AG Ag b 0 3,AG Am b 0 4⟩,zz,λs r=> {s with e:=r.e,i:=r.i},λs=>s,λ_ s=>s,[.ret,.exit 0],jj,YJ,uK⟩
abbrev Wf:=SD.run
abbrev fY:=SD.Au
def ayc:Rq YJ zz:=by
 exact aMv
def XQ:aVI:=[Mu,iq,fw,wV,Wd]
def vV:Ay:=kI XQ<|la 11 func62 PE<|la 6 func62 Nr<|la 3 func45 Mp<|la 2 func61 Lr<|la 1 func60 Kc<|la 2 func69 Jr<|la 9 func26 Co<|l0 XQ
def aRX:SD.Ok:={}
def aQy:SD.Pf (aC1):=⟨alV,λs h=>rfl,azs,ayc⟩
def aqV:SA 0 aGO SD:=s1 aRX aQy XQ vV
def ar7:Fi jj YJ aC1 fY Wf:=AS.fin aRX aQy
structure Pm where
 (e n i:Y)
 BD:aVF
 Bh:aVz
 C5:aVK
 BQ:aVA
 C6:aVL
 ti:aVF
 p1:aVz
 p2:aVK
 p3:aVA
 p4:aVL
 (p9 TO:aVw)
 ra:aV3
 st:aVW
 ca:aVG
 mi:aWj
 me:aWm
 dm:aVU
def aGN:=bN f12 1
def zy (s:Pm):T (Rd Pm):=letI a:=(X,((0:Y),((0:Y),(9:Y))));letI b:=((AA<|s.i+1),((0:Y),X));letI c:=(s.st++([((0:Y),((0:Y),((0:Y),X)))]));.br (an<|s.i<s.n) (.rb (M s.st) (M<|[((0:Y),((0:Y),((0:Y),X)))]) 32<|.rb (M s.me) (M<|[b]) 24<|.rb (M s.dm) (M<|[a]) 32<|.rl s.ra<|.re (M s.st+M ([((0:Y),((0:Y),((0:Y),X)))])) c<|.rl s.ca<|.rl s.mi<|.re (M s.me+M ([b])) (s.me++([b]))<|.re (M s.dm+M ([a])) (s.dm++([a]))<|.nx {s with i:=AA<|s.i+1,st:=c,me:=s.me++([b]),dm:=s.dm++([a])})<|.rl s.ra<|.rl s.st<|.rl s.ca<|.rl s.mi<|.rl s.me<|.rl s.dm<|.so (.exit 2) s
def jh (s:Pm):Prop:=s.i=0/\(s.n<=1000/\0<=s.n)/\s.st=[]/\s.me=[]/\s.dm=[]
def YI (s:Pm):Prop:=(0<=s.i/\s.i<=s.n)/\(s.n<=1000/\0<=s.n)/\s.st=aq s.i.toNat (0,0,0,X)/\s.me=(G0 s.i.toNat).map (λk=>(k+1,0,X))/\s.dm=aq s.i.toNat (X,0,0,9)
def vK (s:Pm):aVx:=(s.n-s.i).toNat
def aC0 (x:Ex) (s s':Pm):Prop:=x=.exit 2/\s'.st=aq s'.n.toNat (0,0,0,X)/\s'.me=(G0 s'.n.toNat).map (λk=>(k+1,0,X))/\s'.dm=aq s'.n.toNat (X,0,0,9)
def alU:∀s,jh s->YI s:=by
 rintro s ⟨h0,h1,h2,h3,h4⟩
 refine ⟨A0,h1,?_,?_,?_⟩
 ·simp_all
 ·rw [h3,h0];rfl
 ·simp_all
def azr:Da YI vK aC0 zy:=by
 intro s hI;obtain ⟨⟨h0,h1⟩,h2,h3,h4,h5⟩:=hI;refine AH (λc1=>?_) λc1=>?_
 ·have c1:s.i<s.n:=A8
  rw [AJ (x:=s.i+1)]
  have e:(s.i+1).toNat=s.i.toNat+1:=A0
  refine ⟨⟨⟨A8,A8⟩,h2,?_,?_,?_⟩,by simp only [vK];omega⟩
  ·show s.st++[_]=aq (s.i+1).toNat _
   rw [e,h3,m6]
  ·show s.me++[_]=(G0 (s.i+1).toNat).map _
   rw [e,h4,aEx,KH,CO h0];rfl
  ·show s.dm++[_]=aq (s.i+1).toNat _
   rw [e,h5,m6]
 ·have c1:s.n<=s.i:=A8
  have e:s.i=s.n:=A0
  rw [e] at h3 h4 h5;exact ⟨rfl,h3,h4,h5⟩
def SC:AS Pm:=⟨0,105,[2,4,5,11,63,64],[.ns 11 12 99 B7,.ns 11 15 102 BT,.ns 11 16 73 Ap],λs=>[.own 0 0,.own 1 0,s.e,.own 2 0,s.n,s.i],λs=>[⟨[s.BD,s.Bh,s.C5,s.BQ,s.C6],28,.cl,X⟩,zB,⟨[s.ti,s.p1,s.p2,s.p3,s.p4,(0:Y),U,.v<|.slice aj 0 0,(512:Y),.xl (.int aw) s.p9,.os 3 2 0<|M s.ra,(1:Y),.os 4 4 0<|M s.st,.os 5 5 0<|M s.ca,.os 6 3 0<|M s.mi,.os 7 3 0<|M s.me,.os 8 4 0<|M s.dm,.v<|.slice aj 0 0,.xl A7 s.TO,.v<|.slice aj 0 0],48,.cl,X⟩,bV 138 Aj s.ra,bV 99 B7 s.st,bV 71 AQ s.ca,bV 143 BA s.mi,bV 102 BT s.me,bV 73 Ap s.dm],λv b=>⟨AL v 2,AL v 4,AL v 5,AG Af b 0 0,AG .str b 0 1,AG An b 0 2,AG Ag b 0 3,AG Am b 0 4,AG Af b 2 0,AG .str b 2 1,AG An b 2 2,AG Ag b 2 3,AG Am b 2 4,AG (.int aw) b 2 9,AG A7 b 2 18,Ad Aj b 3,Ad B7 b 4,Ad AQ b 5,Ad BA b 6,Ad BT b 7,Ad Ap b 8⟩,zy,λs r=> {s with i:=r.i,st:=r.st,me:=r.me,dm:=r.dm},λs=>s,λ_ s=>s,[.exit 2],jh,YI,vK⟩
abbrev Nb:=SC.run
abbrev auB:=SC.Au
def ayb:Rq YI zy:=by
 intro s hI;refine ⟨λc1=>⟨?_,?_,?_,A9,?_,A9,A9,?_,?_,ak⟩,λc1=>⟨A9,A9,A9,A9,A9,A9,ak⟩⟩
 all_goals ((obtain ⟨⟨h0,h1⟩,h2,h3,h4,h5⟩:=hI;have l1:M s.st=s.i.toNat:=A8;have l2:M s.me=s.i.toNat:=(by rw [h4];simp [P8]);have l3:M s.dm=s.i.toNat:=A8;simp only [Ab] at c1;first|(simp only [Bk,Bv];omega) |(simp only [BI,Bk,Bv,Ez];done) |exact ⟨rfl,AI⟩))
def aRW:SC.Ok:={}
def aQx:SC.Pf (aC0):=⟨alU,λs h=>rfl,azr,ayb⟩
def aqU:SA 0 aGN SC:=s1 aRW aQx XQ vV
def ar6:Fi jh YI aC0 auB Nb:=AS.fin aRW aQx
structure Pl where
 e:Y
 l:aVF
 (n i:Y)
 ti:aVF
 p1:aVz
 p2:aVK
 p3:aVA
 p4:aVL
 (p9 TO:aVw)
 ra:aV3
 st:aVW
 ca:aVG
 mi:aWj
 me:aWm
 dm:aVU
 tg:aVw
def aGM:=bN f12 2
def zx (s:Pl):T (Rd Pl):=letI a:=Ae s.l s.i;.br (an<|s.i<s.n) (.ix s.i (M s.l)<|.rb (M s.tg) (M<|[a.2.2.1]) 8<|.rl s.ra<|.rl s.st<|.rl s.ca<|.rl s.mi<|.rl s.me<|.rl s.dm<|.re (M s.tg+M ([a.2.2.1])) (s.tg++([a.2.2.1]))<|.nx {s with i:=AA<|s.i+1,tg:=s.tg++([a.2.2.1])})<|.rl s.ra<|.rl s.st<|.rl s.ca<|.rl s.mi<|.rl s.me<|.rl s.dm<|.rl s.tg<|.so (.exit 4) s
def jg (s:Pl):Prop:=s.i=0/\(s.n=(M s.l:Y)/\s.n<=1000)/\s.tg=[]
def YH (s:Pl):Prop:=(0<=s.i/\s.i<=s.n)/\(s.n=(M s.l:Y)/\s.n<=1000)/\s.tg=(s.l.take s.i.toNat).map (λc=>c.2.2.1)
def vJ (s:Pl):aVx:=(s.n-s.i).toNat
def aBz (x:Ex) (s s':Pl):Prop:=x=.exit 4/\s'.tg=s'.l.map (λc=>c.2.2.1)
def alT:∀s,jg s->YH s:=by
 rintro s ⟨h0,h1,h2⟩
 exact ⟨A0,h1,GH⟩
def azq:Da YH vJ aBz zx:=by
 intro s hI;obtain ⟨⟨h0,h1⟩,⟨h2,h3⟩,h4⟩:=hI;refine AH (λc1=>?_) λc1=>?_
 ·have c1:s.i<s.n:=A8
  rw [AJ (x:=s.i+1)]
  have e:(s.i+1).toNat=s.i.toNat+1:=A0
  refine ⟨⟨⟨A8,A8⟩,⟨h2,h3⟩,?_⟩,by simp only [vJ];omega⟩
  show s.tg++[_]=(s.l.take (s.i+1).toNat).map _
  have e2:Ae s.l s.i=s.l[s.i.toNat]' A0:=by
   have:=Qw (cs:=s.l) (k:=s.i.toNat) A0
   exact this
  rw [e,h4,Zh A0,KH,e2];rfl
 ·have c1:s.n<=s.i:=A8
  refine ⟨rfl,?_⟩;rw [h4,Di A0]
def SB:AS Pl:=⟨0,105,[4,5,11,89,90,91],[.ns 11 19 3 A7],λs=>[.own 0 0,s.e,.own 1 0,s.l,s.n,s.i],λs=>[zB,⟨[s.ti,s.p1,s.p2,s.p3,s.p4,(0:Y),U,.v<|.slice aj 0 0,(512:Y),.xl (.int aw) s.p9,.os 2 2 0<|M s.ra,(1:Y),.os 3 4 0<|M s.st,.os 4 5 0<|M s.ca,.os 5 3 0<|M s.mi,.os 6 3 0<|M s.me,.os 7 4 0<|M s.dm,.v<|.slice aj 0 0,.xl A7 s.TO,.os 8 1 0<|M s.tg],48,.cl,X⟩,bV 138 Aj s.ra,bV 99 B7 s.st,bV 71 AQ s.ca,bV 143 BA s.mi,bV 102 BT s.me,bV 73 Ap s.dm,bV 3 A7 s.tg],λv b=>⟨AL v 1,B9 Af v 3,AL v 4,AL v 5,AG Af b 1 0,AG .str b 1 1,AG An b 1 2,AG Ag b 1 3,AG Am b 1 4,AG (.int aw) b 1 9,AG A7 b 1 18,Ad Aj b 2,Ad B7 b 3,Ad AQ b 4,Ad BA b 5,Ad BT b 6,Ad Ap b 7,Ad A7 b 8⟩,zx,λs r=> {s with i:=r.i,tg:=r.tg},λs=>s,λ_ s=>s,[.exit 4],jg,YH,vJ⟩
abbrev cP:=SB.run
abbrev auA:=SB.Au
def aya:Rq YH zx:=by
 intro s hI;refine ⟨λc1=>⟨?_,?_,A9,A9,A9,A9,A9,A9,?_,ak⟩,λc1=>⟨A9,A9,A9,A9,A9,A9,A9,ak⟩⟩
 all_goals ((obtain ⟨⟨h0,h1⟩,⟨h2,h3⟩,h4⟩:=hI;have l1:M s.tg=s.i.toNat:=A8;simp only [Ab] at c1;first|omega|(simp only [Bk,Bv];omega) |(simp only [BI,Bk,Bv,Ez];done)))
def aRV:SB.Ok:={}
def aQw:SB.Pf (aBz):=⟨alT,λs h=>rfl,azq,aya⟩
def aqT:SA 0 aGM SB:=s1 aRV aQw XQ vV
def ar5:Fi jg YH aBz auA cP:=AS.fin aRV aQw
structure OK where
 (n i:Y)
 tA:aVF
 b11:aVz
 b12:aVK
 b13:aVA
 b14:aVL
 (b19 aEE:aVw)
 b2:aV3
 b3:aVW
 b4:aVG
 b5:aWj
 b6:aWm
 b7:aVU
 b8:aVw
 p1:aVz
 p2:aVK
 p3:aVA
 p4:aVL
 TO:aVw
 VU:aVF
 oF:aVG
 oE:aVw
 oD:aV3
 b15:aVW
 b16:aVG
 o:aWj
def zw (s:OK):T (Rd OK):=letI a:=s.o.getD s.i.toNat<|Ty.dflt BA;.br (an<|s.i<s.n) (.ik s.i (M s.o)<|.req (M a.1<=100000000)<|.ik s.i (M s.o)<|.rl s.b2<|.rl s.b3<|.rl s.b4<|.rl s.b5<|.rl s.b6<|.rl s.b7<|.rl s.b8<|.rl s.VU<|.rl s.oF<|.rl s.oE<|.rl s.oD<|.rl s.b15<|.rl s.b16<|.re (M s.o) (s.o.set s.i.toNat a)<|.rl s.b6<|.rl s.b7<|.rl s.b8<|.nx {s with i:=AA<|s.i+1,o:=s.o.set s.i.toNat a})<|.rl s.b2<|.rl s.b3<|.rl s.b4<|.rl s.b5<|.rl s.b6<|.rl s.b7<|.rl s.b8<|.rl s.VU<|.rl s.oF<|.rl s.oE<|.rl s.oD<|.rl s.b15<|.rl s.b16<|.rl s.o<|.rl s.b6<|.rl s.b7<|.rl s.b8<|.so (.exit 0) s
def jf (s:OK):Prop:=s.i=0/\s.n=(M s.o:Y)/\s.n<=1000/\∀m∈s.o,M m.1<=1000
def kY (s:OK):Prop:=0<=s.i/\s.i<=s.n/\s.n=(M s.o:Y)/\s.n<=1000/\∀m∈s.o,M m.1<=1000
def vI (s:OK):aVx:=(s.n-s.i).toNat
def abz (x:Ex) (s s':OK):Prop:=True
def alR:∀s,jf s->kY s:=by
 exact aNP
def azo:Da kY vI abz zw:=by
 intro s hI;obtain ⟨h0,h1,h2,h3,h4⟩:=hI;refine AH (λc1=>?_) λc1=>trivial
 ·have c1:s.i<s.n:=A8
  have e:=set_self (l:=s.o) (i:=s.i.toNat) (d:=Ty.dflt BA) A0
  rw [AJ (x:=s.i+1),e];exact ⟨⟨A8,A8,h2,h3,h4⟩,by simp only [vI];omega⟩
def Uk:AS OK:=⟨9,82,[1,2,44,45],[],λs=>[.own 9 0,.own 10 0,s.n,s.i],λs=>[zB,⟨[s.tA,s.b11,s.b12,s.b13,s.b14,(0:Y),U,.v<|.slice aj 0 0,(512:Y),.xl (.int aw) s.b19,.os 2 2 0<|M s.b2,(1:Y),.os 3 4 0<|M s.b3,.os 4 5 0<|M s.b4,.os 5 3 0<|M s.b5,.os 6 3 0<|M s.b6,.os 7 4 0<|M s.b7,.v<|.slice aj 0 0,.xl A7 s.aEE,.os 8 1 0<|M s.b8],48,.cl,X⟩,bV 138 Aj s.b2,bV 99 B7 s.b3,bV 71 AQ s.b4,bV 143 BA s.b5,bV 102 BT s.b6,bV 73 Ap s.b7,bV 3 A7 s.b8,⟨[.os 11 11 0<|M s.VU,s.p1,s.p2,s.p3,s.p4,(0:Y),U,.os 12 5 0<|M s.oF,(512:Y),.os 13 1 0<|M s.oE,.os 14 2 0<|M s.oD,(1:Y),.os 15 4 0<|M s.b15,.os 16 5 0<|M s.b16,.os 17 3 0<|M s.o,.os 6 3 0<|M s.b6,.os 7 4 0<|M s.b7,.v<|.slice aj 0 0,.xl A7 s.TO,.os 8 1 0<|M s.b8],48,.cl,X⟩,zB,bV 81 Af s.VU,bV 134 AQ s.oF,bV 5 (.int aw) s.oE,bV 138 Aj s.oD,bV 99 B7 s.b15,bV 71 AQ s.b16,bV 143 BA s.o],λv b=>⟨AL v 2,AL v 3,AG Af b 1 0,AG .str b 1 1,AG An b 1 2,AG Ag b 1 3,AG Am b 1 4,AG (.int aw) b 1 9,AG A7 b 1 18,Ad Aj b 2,Ad B7 b 3,Ad AQ b 4,Ad BA b 5,Ad BT b 6,Ad Ap b 7,Ad A7 b 8,AG .str b 9 1,AG An b 9 2,AG Ag b 9 3,AG Am b 9 4,AG A7 b 9 18,Ad Af b 11,Ad AQ b 12,Ad (.int aw) b 13,Ad Aj b 14,Ad B7 b 15,Ad AQ b 16,Ad BA b 17⟩,zw,λs r=> {s with i:=r.i,o:=r.o},λs=>s,λ_ s=>s,[.exit 0],jf,kY,vI⟩
abbrev eh:=Uk.run
abbrev au9:=Uk.Au
def vN:aVI:=[Mu,iq,fw,wV,Wd,aaN]
def agK:Ay:=kI vN<|la 11 func62 PE<|la 6 func62 Nr<|la 3 func45 Mp<|la 2 func61 Lr<|la 1 func60 Kc<|la 2 func69 Jr<|la 9 func26 Co<|l0 vN
def ayZ:Rq kY zw:=by
 intro s hI;refine ⟨λc1=>⟨?_,?_,?_,?_,?_,A9,A9,A9,A9,A9,A9,A9,A9,A9,A9,A9,A9,A9,?_,A9,A9,A9,ak⟩,λc1=>⟨A9,A9,A9,A9,A9,A9,A9,A9,A9,A9,A9,A9,A9,A9,A9,A9,A9,ak⟩⟩
 all_goals ((obtain ⟨h0,h1,h2,h3,h4⟩:=hI;(try simp only [Ab] at c1);first|omega|exact ⟨rfl,AI⟩ |exact ⟨rfl,rfl⟩ |exact Hr (h4 _<|getD_mem A0) Aa))
def aRU:Uk.Ok:={}
def aQv:Uk.Pf (abz):=⟨alR,λs h=>rfl,azo,ayZ⟩
def eQ:=s2 (b:=bN f26 0) aRU aQv vN agK
def ar4:Rs jf au9 eh (λs:OK=>s.o) (λx s' (v:aWj)=>x=.exit 0/\s'.o=v):=DZ aRU aQv (λs hI=>by
  obtain ⟨h0,h1,h2,h3,h4⟩:=hI;refine AH (λc1=>?_) λc1=>⟨rfl,rfl⟩
  have c1:s.i<s.n:=A8
  have e:=set_self (l:=s.o) (i:=s.i.toNat) (d:=Ty.dflt BA) A0
  rw [e];exact rfl)
def aU5:aVy->T LV
 | .agg a::r=>s5 a λcs os ks gs bs=>(match r with
  | [.xl (.int J) dr]=> .req (M dr<=1000) (.ok<|.AO [newP cs os ks gs bs dr,DL cs os ks gs bs dr])
  |_=> .no)
 |_=> .no
def G5 {α:Type}(d:α) (l:List α):List α:=BG (AR l)<|aq (M l:Y).toNat d
def aTJ {α:Type}(d:α) (l:List α):G5 d l=l:=by
 unfold G5;rw [Fq];exact Qt
def cpX {α:Type}(d:α) (l:List α):List α:=BG l<|aq (M l:Y).toNat d
def ahx {α:Type}(d:α) (l:List α):cpX d l=l:=Qt
def cpN {α:Type}(d:α):List α:=BG []<|aq (0:Y).toNat d
def ahy {α:Type}(d:α):cpN d=[]:=rfl
def Ea {α:Type}(gs:aVA) (d:α):List α:=aq (M gs:Y).toNat d
def qZ {α:Type}(gs:aVA) (d:α):Ea gs d=aq (M gs) d:=by
 unfold Ea
 grind
def zNV (e:Y):LV:=.AO [.agg [.xl Af ([]:aVF),.xl .str ([]:aVz),.xl An ([]:aVK),.xl Ag ([]:aVA),.xl Am ([]:aVL),.v<|ag J 0,.v<|.bool X,.xl AQ ([]:aVG),.v<|ag J 0,.xl (.int aw) ([]:aVw),.xl Aj ([]:aV3),.v<|ag J 0,.xl B7 ([]:aVW),.xl AQ ([]:aVG),.xl BA ([]:aWj),.xl BT ([]:aWm),.xl Ap ([]:aVU),.xl BP ([]:aWa),.xl A7 ([]:aVw),.xl A7 ([]:aVw)],.v<|ag J e]
def oG:Cd:=(ByteArray.empty,((0:Y),((0:Y),((0:Y),(((0:Y),(0:Y)),((0:Y),((0:Y),((0:Y),((0:Y),(0:Y))))))))))
def Ju:Le:=((0:Y),((0:Y),((0:Y),((0:Y),(0:Y)))))
def Nx:Ra:=((0:Y),(0:Y))
def aUv:St:=((0:Y),((0:Y),((0:Y),X)))
def aLn:Me:=((0:Y),((0:Y),X))
def aLp:Dm:=(X,((0:Y),((0:Y),(0:Y))))
def Kk:Mi:=(([]:aVw),((0:Y),(0:Y)))
def QC:Y:=(0:Y)
def aLo:Lk:=((0:Y),((0:Y),((0:Y),((0:Y),((0:Y),(0:Y))))))
def Qf (cs:aVF) (os:aVz) (ks:aVK) (gs:aVA) (bs:aVL) (dr:aVw):Po:=(⟨dr,0,dr,(M dr:Y),0,cs,os,ks,gs,bs⟩:Po)
def Mf (cs:aVF) (os:aVz) (ks:aVK) (gs:aVA) (bs:aVL) (dr:aVw):Pm:=(⟨(Wf<|Qf cs os ks gs bs dr).e,(M gs:Y),0,cs,os,ks,gs,bs,cs,os,ks,gs,bs,Dx,dr,Ea gs Nx,([]:aVW),Ea gs Ju,Ea gs Kk,([]:aWm),([]:aVU)⟩:Pm)
def W3 (cs:aVF) (os:aVz) (ks:aVK) (gs:aVA) (bs:aVL) (dr:aVw):Pl:=letI a:=Nb<|Mf cs os ks gs bs dr;(⟨(Wf<|Qf cs os ks gs bs dr).e,cs,(M cs:Y),0,cs,os,ks,gs,bs,Dx,dr,Ea gs Nx,a.st,Ea gs Ju,Ea gs Kk,a.me,a.dm,([]:aVw)⟩:Pl)
def pH (cs:aVF) (os:aVz) (ks:aVK) (gs:aVA) (bs:aVL) (dr:aVw):OK:=letI a:=Nb<|Mf cs os ks gs bs dr;(⟨((((M (Ea gs Kk):aVx):Y).toNat:aVx):Y),0,cs,os,ks,gs,bs,Dx,dr,Ea gs Nx,a.st,Ea gs Ju,Ea gs Kk,a.me,a.dm,(cP<|W3 cs os ks gs bs dr).tg,os,ks,gs,bs,dr,cpX oG cs,cpN Ju,cpX QC Dx,G5 Nx<|Ea gs Nx,G5 aUv a.st,G5 Ju<|Ea gs Ju,G5 Kk<|Ea gs Kk⟩:OK)
def vM:aVI:=[Mu,iq,fw,wV,Wd]
def agJ:Ay:=kI vM<|la 9 func26 eQ<|la 11 func62 PE<|la 6 func62 Nr<|la 3 func45 Mp<|la 2 func61 Lr<|la 1 func60 Kc<|la 2 func69 Jr<|la 9 func26 Co<|l0 vM
def aAA:=vm (S:=aU5) func12 vM agJ (L:=(λi=>if i=4 then SD.lp else if i=17 then SC.lp else if i=24 then SB.lp else Al i)) (λb hb=>by
 rw [show BE _=[aGO,aGN,aGM] by kernel_rfl] at hb
 simp only [BB,Bx,By] at hb;rcases hb with rfl|rfl|rfl
 ·exact aqV
 ·exact aqU
 ·exact aqT) (λargs lv h=>by
 unfold aU5 at h;split at h
 case h_2=>cases h
 replace h:=IX h
 obtain ⟨cs,os,ks,gs,bs,rfl,h⟩:=h;split at h
 ·rename_i dr
  refine At (letI a:=Nb<|Mf cs os ks gs bs dr;letI b:=cP<|W3 cs os ks gs bs dr;letI d:=Ea gs Nx;letI f:=Ea gs Ju;letI g:=(M gs:Y);letI j:=((M a.me:aVx):Y);letI l:=((M a.dm:aVx):Y);letI n:=((M b.tg:aVx):Y);letI p:=Ea gs Kk;letI r:=(M dr:Y);letI s:=((M a.st:aVx):Y);letI t:=((M d:aVx):Y);letI u:=((M f:aVx):Y);letI v:=((M p:aVx):Y);letI w:=Qf cs os ks gs bs dr;letI y:=pH cs os ks gs bs dr;letI z:=(M cs:Y);letI A:=(M Dx:Y);letI B:=(M ([]:aVG));letI C:=G5 aUv a.st;.br ((!(B6 cs os ks gs bs)) ||(r !=g)) (.ok<|zNV 1)<|.req (SD.q w)<|.br (Bs (fY w)<|.ret) (.ok<|.AO [.agg [.xl Af ([]:aVF),.xl .str ([]:aVz),.xl An ([]:aVK),.xl Ag ([]:aVA),.xl Am ([]:aVL),(0:Y),X,.xl AQ ([]:aVG),(0:Y),.xl (.int aw) ([]:aVw),.xl Aj ([]:aV3),(0:Y),.xl B7 ([]:aVW),.xl AQ ([]:aVG),.xl BA ([]:aWj),.xl BT ([]:aWm),.xl Ap ([]:aVU),.xl BP ([]:aWa),.xl A7 ([]:aVw),.xl A7 ([]:aVw)],(Wf w).e])<|.req (B6 cs os ks gs bs=U)<|.br (!DG cs gs (Bt gs)) (.ok<|zNV 13)<|.br ((0:Y) !=0) (.ok<|zNV 0)<|.rm 16 g<|.rm 40 g<|.rm 40 g<|.re g.toNat d<|.r0 St<|.re g.toNat f<|.re g.toNat p<|.r0 Me<|.r0 Dm<|.req (SC.q<|Mf cs os ks gs bs dr)<|.rl d<|.rl a.st<|.rl f<|.rl p<|.rl a.me<|.rl a.dm<|.r0 Int<|.req (SB.q<|W3 cs os ks gs bs dr)<|.rm 96 z<|.rc z (ByteArray.empty,((0:Y),((0:Y),((0:Y),(((0:Y),(0:Y)),((0:Y),((0:Y),((0:Y),((0:Y),(0:Y)))))))))) (M cs)<|.rm 40 (0:Y)<|.rc (0:Y) ((0:Y),((0:Y),((0:Y),((0:Y),(0:Y))))) B<|.rm 1 A<|.rc A (0:Y) (M Dx)<|.rm 16 t<|.rz d<|.rc t ((0:Y),(0:Y)) (M<|AR d)<|.rm 32 s<|.rz a.st<|.rc s ((0:Y),((0:Y),((0:Y),X))) (M<|AR a.st)<|.rm 40 u<|.rz f<|.rc u ((0:Y),((0:Y),((0:Y),((0:Y),(0:Y))))) (M<|AR f)<|.rm 40 v<|.rz p<|.rc v (([]:aVw),((0:Y),(0:Y))) (M<|AR p)<|.rl d<|.rl a.st<|.rl f<|.rl p<|.rl a.me<|.rl a.dm<|.rl b.tg<|.re z.toNat (cpX oG cs)<|.re (0:Y).toNat (cpN Ju)<|.re A.toNat (cpX QC Dx)<|.re t.toNat (G5 Nx d)<|.re s.toNat C<|.re u.toNat (G5 Ju f)<|.re v.toNat (G5 Kk p)<|.rl a.me<|.rl a.dm<|.rl b.tg<|.req (Uk.q y)<|.rm 24 j<|.rz a.me<|.rc j ((0:Y),((0:Y),X)) (M<|AR a.me)<|.rm 32 l<|.rz a.dm<|.rc l (X,((0:Y),((0:Y),(0:Y)))) (M<|AR a.dm)<|.rm 48 (0:Y)<|.rc (0:Y) ((0:Y),((0:Y),((0:Y),((0:Y),((0:Y),(0:Y)))))) B<|.rm 8 r<|.rc r (0:Y) (M dr)<|.rm 8 n<|.rz b.tg<|.rc n (0:Y) (M<|AR b.tg)<|.rz (cpX oG cs)<|.rz (cpN Ju)<|.rz (cpX QC Dx)<|.rz (G5 Nx d)<|.rz C<|.rz (G5 Ju f)<|.rz (eh y).o<|.req (0+j.toNat<=M (G5 aLn a.me))<|.req (0+l.toNat<=M (G5 aLp a.dm))<|.req (0+(0:Y).toNat<=M (cpN aLo))<|.req (0+r.toNat<=M (cpX QC dr))<|.req (0+n.toNat<=M (G5 QC b.tg))<|.ok<|.AO [.agg [(AR<|cpX oG cs),os,ks,gs,bs,(0:Y),U,(AR<|cpN Ju),(512:Y),.xl (.int aw)<|AR<|cpX QC Dx,(AR<|G5 Nx d),(1:Y),(AR C),(AR<|G5 Ju f),(AR (eh y).o),(((G5 aLn a.me).drop 0).take j.toNat),(((G5 aLp a.dm).drop 0).take l.toNat),(((cpN aLo).drop 0).take (0:Y).toNat),.xl A7<|((cpX QC dr).drop 0).take r.toNat,.xl A7<|((G5 QC b.tg).drop 0).take n.toNat],(0:Y)]) ?_;obtain ⟨hn,rfl⟩:=h
  have A1:jj (Qf cs os ks gs bs dr):=⟨⟨rfl,rfl⟩,by show (M dr:Y)<=1000;omega,rfl⟩
  obtain ⟨_,_,q1⟩:=ar7 _ A1
  have q1:(fY (Qf cs os ks gs bs dr)=.exit 0/\(Wf<|Qf cs os ks gs bs dr).e=0/\dr.all (λx=>inB x (-200) 200)=U)\/(fY (Qf cs os ks gs bs dr)=.ret/\(Wf<|Qf cs os ks gs bs dr).e=1/\dr.all (λx=>inB x (-200) 200)=X):=q1
  have bad:∀ {e:Y},DL cs os ks gs bs dr=e->e≠0->newP cs os ks gs bs dr=PK0:=λh1 h2=>AD (by rw [h1];exact h2)
  have hb:((!B6 cs os ks gs bs) ||((M dr:Y) !=(M gs:Y)))=U↔(B6 cs os ks gs bs=X\/M dr≠M gs):=by simp [Int.natCast_inj]
  refine ⟨λc=>?_,λc=>⟨⟨A1,rfl,rfl⟩,λc2=>?_,λc2=>?_⟩⟩
  ·have he:DL cs os ks gs bs dr=1:=AD (hb.1 c)
   show zNV 1=_
   exact yW
  all_goals have hc:¬(B6 cs os ks gs bs=X\/M dr≠M gs):=λh=>(by rw [hb.2 h] at c;cases c)
  ·rcases q1 with ⟨x1,_⟩ |⟨x1,x2,x3⟩
   ·rw [x1] at c2
    cases c2
   ·have he:DL cs os ks gs bs dr=1:=(AE hc).trans (AD x3)
    rw [x2]
    show zNV 1=_
    exact yW
  rcases q1 with ⟨x1,x2,x3⟩ |⟨x1,x2,x3⟩
  rotate_left
  ·rw [x1] at c2
   cases c2
  have hs:B6 cs os ks gs bs=true:=by
   cases e:B6 cs os ks gs bs
   ·exact absurd (.inl e) hc
   ·rfl
  have hd:M dr=M gs:=ln λh=>hc<|.inr h
  have hg:=DC.1 hs
  refine ⟨hs,λc3=>?_,λc3=>⟨λc4=>(by cases c4),λ_=>?_⟩⟩
  ·have he:DL cs os ks gs bs dr=13:=(AE hc).trans ((AE (by rw [x3];decide)).trans<|AD<|(DB _).mp c3)
   show zNV 13=_
   exact yW
  have he:DL cs os ks gs bs dr=0:=(AE hc).trans<|(AE (by rw [x3];decide)).trans<|AE (by rw [(IP _).mp c3];decide)
  have hp:newP cs os ks gs bs dr=_:=AE Ma
  have A2:jh (Mf cs os ks gs bs dr):=⟨rfl,⟨aOX,T1 _⟩,rfl,rfl,rfl⟩
  obtain ⟨_,_,_,y1,y2,y3⟩:=ar6 _ A2
  have y1:(Nb<|Mf cs os ks gs bs dr).st=aq (M gs) (0,0,0,X):=y1
  have y2:(Nb<|Mf cs os ks gs bs dr).me=(G0<|M gs).map (λk=>(k+1,0,X)):=y2
  have y3:(Nb<|Mf cs os ks gs bs dr).dm=aq (M gs) (X,0,0,9):=y3
  have A3:jg (W3 cs os ks gs bs dr):=⟨rfl,⟨rfl,aOY⟩,rfl⟩
  obtain ⟨_,_,_,y4⟩:=ar5 _ A3
  have y4:(cP<|W3 cs os ks gs bs dr).tg=cs.map (λc=>c.2.2.1):=y4
  have hj:M Dx=2048:=rfl
  have l1:M (Ea gs Nx)=M gs:=zS
  have l2:M (Ea gs Ju)=M gs:=zS
  have l3:M (Ea gs Kk)=M gs:=zS
  have l4:M (Nb<|Mf cs os ks gs bs dr).st=M gs:=by rw [y1,Ci]
  have l5:M (Nb<|Mf cs os ks gs bs dr).me=M gs:=by rw [y2,GG,P8]
  have l6:M (Nb<|Mf cs os ks gs bs dr).dm=M gs:=by rw [y3,Ci]
  have l7:M (cP<|W3 cs os ks gs bs dr).tg=M cs:=by rw [y4,GG]
  have ho:(pH cs os ks gs bs dr).o=Ea gs Kk:=aTJ _ _
  have A4:jf (pH cs os ks gs bs dr):=⟨rfl,by rw [ho];show ((((M (Ea gs Kk):aVx):Y).toNat:aVx):Y)=_;rw [C0],by show ((((M (Ea gs Kk):aVx):Y).toNat:aVx):Y)<=1000;rw [C0,l3];omega,by
   rw [ho,qZ];intro m hm;rw [(T0.1 hm).2]
   decide⟩
  have y5:(eh<|pH cs os ks gs bs dr).o=Ea gs Kk:=(ar4 _ A4).2.trans ho
  simp only [aTJ,ahx,ahy,Fq,y5,l1,l2,l3]
  repeat (refine ⟨my,?_⟩)
  refine ⟨⟨A2,rfl,rfl⟩,?_⟩
  repeat (refine ⟨my,?_⟩)
  refine ⟨⟨A3,rfl,rfl⟩,?_⟩
  repeat (refine ⟨my,?_⟩)
  refine ⟨⟨A4,rfl,rfl⟩,?_⟩
  repeat (refine ⟨my,?_⟩)
  show _=_
  rw [hp,he,y1,y2,y3,y4];simp only [qZ,C0,CX,Eg];rfl
 ·cases h)
def Cw:EV:=⟨1,0,0,(0,0,0,0,0),(X,0,0,0)⟩
def CR:aVx->PK->Y->PK×Int×Bool
 |0,p,l=>(p,l,U)
 |n+1,p,l=>if BO p Cw=0/\M (CU p Cw)=M (BM p Cw).ca then CR n (BM p Cw) (if M (CU p Cw)>0 then gi (CU p Cw) 0 else l) else (p,l,X)
def aD4 (a:QV×Int):Option (QV×Int):=
 if (EH a.1.p&&(!(a.1.p.tk==1000000)&&(a.1.tick.ok&&(M a.1.Ek==M a.1.tick.p.ca&&an (M a.1.Ek>0)))))=U then ah (a.1.tick,gi a.1.Ek 0) else aj
def EM:aVx->QV×Int->Option (QV×Int)
 |0,a=>ah a
 |n+1,a=>(aD4 a).bind<|EM n
def apn {m n:aVx}:∀ {a:QV×Int},EM (m+n) a=(EM m a).bind (EM n):=by
 induction m with
 |zero=>intro a;rw [Eh];rfl
 |succ m ih=>
  intro a;rw [Nat.succ_add];simp only [EM];cases aD4 a with
  |none=>rfl
  |some b=>exact ih
def Mn {m n:aVx}{a b c:QV×Int}(h1:EM m a=ah b) (h2:EM n b=ah c):EM (m+n) a=ah c:=by rw [apn,h1];exact h2
def sC {p:PK}{q:QV}(h:RP p q):EH q.p=EH p:=by rw [h.1];rfl
def eG {n:aVx}:∀ {p:PK}{q:QV}{l:Y}{b:QV×Int},RP p q->EM n (q,l)=ah b->∃p',CR n p l=(p',b.2,U)/\RP p' b.1:=by
 induction n with
 |zero=>
  intro p q l b h hq;simp only [EM,Ah] at hq;subst hq;exact ⟨p,rfl,h⟩
 | succ n ih=>
  intro p q l b h hq;simp only [EM] at hq;unfold aD4 at hq;split at hq
  ·rename_i hc
   simp only [AX,Cz,DB,CT,Ab] at hc;obtain ⟨c1,c2,c3,c4,c5⟩:=hc;obtain ⟨h1,h2⟩:=ao9 h c3
   have ek:q.p.tk=p.tk:=by rw [h.1]
   have e1:BO p Cw=0:=by
    unfold BO;rw [<-sC h,c1,AE Aa,AD (show Cw.ek=1 from rfl)];unfold PK.Ib;omega
   have e2:BM p Cw=p.BX:=yo
   have e3:CU p Cw=p.Ek:=aPX
   have e4:M q.tick.p.ca=M p.BX.ca:=by rw [h1.1]
   obtain ⟨p',k1,k2⟩:=ih h1 hq;refine ⟨p',?_,k2⟩;simp only [CR]
   grind
  ·cases hq
def bC (n:Y):aVF:=[(av #[102],-1,n,32,(0,0),0,0,0,0,0)]
def bG:aVA:=[(av #[112],0,1,6,32,1,6,0)]
def bO:aVz:=[av #[111]]
def bA:Ca:=(0,1,20,1000000000,0)
def bD:Dm:=(U,0,500,1)
def bQ (tk:Y) (up:aVH) (ls:aVG) (ra:aV3) (nx:Y) (st:aVW) (ca:aWf) (mi:aWj) (me:aWm) (dm:aVU) (lk:aWa) (vl:aVG):QV:=
 ⟨⟨bC 32,bO,[],bG,[],tk,up,ls,0,[],ra,nx,st,ca,mi,me,dm,lk,[0],[32]⟩,vl,U⟩
def hqa:QV:=bQ 0 U [] [(0,0)] 1 [(0,0,0,X)] [(0,0,0,0,0)] [([],0,0)] [(1,0,X)] [(X,0,0,9)] [] []
def hqb:QV:=bQ 1 U [] [(0,1)] 1 [(0,0,0,X)] [(0,0,0,0,0)] [([],0,0)] [(1,0,X)] [(X,0,0,9)] [] []
def ajY:EM 1 (hqa,0)=ah (hqb,0):=AU
def hqc:QV:=bQ 1 U [] [(0,1)] 1 [(4,0,0,X)] [(0,1,20,1000000000,0)] [([],0,0)] [(1,0,X)] [(U,0,500,1)] [] []
def hqd:QV:=bQ 2 U [] [(0,2)] 1 [(4,0,0,X)] [(0,1,20,1000000000,0)] [([6],1,13800)] [(1,13800,X)] [(U,0,500,1)] [] []
def ajX:EM 1 (hqc,0)=ah (hqd,6):=AU
def aLQ:QV:=bQ 8 U [(1,0,7,6,12),(2,0,8,7,12)] [(8,2)] 3 [(4,0,0,X)] [(0,1,20,1000000000,0)] [([6,6,6,6,6,6,6],7,96600)] [(1,96600,X)] [(U,0,500,1)] [(8,(1,0,7,6,12)),(11,(2,0,8,7,12))] [(1,0,7,6,12),(2,0,8,7,12)]
def awZ:EM 6 (hqd,0)=ah (aLQ,6):=AU
def aLP:QV:=bQ 14 U [(1,0,7,6,12),(2,0,8,7,12),(3,0,9,8,12),(4,0,10,9,12),(5,0,11,10,12),(6,0,12,11,12),(7,0,13,12,12),(8,0,14,13,12)] [(14,8)] 9 [(4,12,11,X)] [(0,1,20,1000000000,0)] [([6,6,6,6,6,6,6,7,9,11,8,10,12],13,227700)] [(1,227700,X)] [(U,0,500,1)] [(16,(7,0,13,12,12)),(14,(8,0,14,13,12))] [(1,0,7,6,12),(2,0,8,7,12),(3,0,9,8,12),(4,0,10,9,12),(5,0,11,10,12),(6,0,12,11,12),(7,0,13,12,12),(8,0,14,13,12)]
def awY:EM 6 (aLQ,6)=ah (aLP,12):=AU
def aLO:QV:=bQ 20 U [(1,0,7,6,12),(2,0,8,7,12),(3,0,9,8,12),(4,0,10,9,12),(5,0,11,10,12),(6,0,12,11,12),(7,0,13,12,12),(8,0,14,13,12),(9,0,15,14,12),(10,0,16,15,12),(11,0,17,16,12),(12,0,18,17,12),(13,0,19,18,12),(14,0,20,19,12)] [(20,14)] 15 [(4,19,11,X)] [(0,1,20,1000000000,0)] [([6,6,6,6,6,6,6,7,9,11,8,10,12,14,16,13,15,17,19],19,443900)] [(1,443900,X)] [(U,0,500,1)] [(21,(12,0,18,17,12)),(22,(14,0,20,19,12))] [(1,0,7,6,12),(2,0,8,7,12),(3,0,9,8,12),(4,0,10,9,12),(5,0,11,10,12),(6,0,12,11,12),(7,0,13,12,12),(8,0,14,13,12),(9,0,15,14,12),(10,0,16,15,12),(11,0,17,16,12),(12,0,18,17,12),(13,0,19,18,12),(14,0,20,19,12)]
def awX:EM 6 (aLP,12)=ah (aLO,19):=AU
def aLN:QV:=bQ 26 U [(1,0,7,6,12),(2,0,8,7,12),(3,0,9,8,12),(4,0,10,9,12),(5,0,11,10,12),(6,0,12,11,12),(7,0,13,12,12),(8,0,14,13,12),(9,0,15,14,12),(10,0,16,15,12),(11,0,17,16,12),(12,0,18,17,12),(13,0,19,18,12),(14,0,20,19,12),(15,0,21,20,12),(16,0,22,21,12),(17,0,23,22,12),(18,0,24,23,12),(19,0,25,24,12),(20,0,26,25,12)] [(26,20)] 21 [(4,26,11,X)] [(0,1,20,1000000000,0)] [([6,6,6,7,9,11,8,10,12,14,16,13,15,17,19,21,18,20,22,24,26],25,715300)] [(1,715300,X)] [(U,0,500,1)] [(26,(17,0,23,22,12)),(27,(19,0,25,24,12))] [(1,0,7,6,12),(2,0,8,7,12),(3,0,9,8,12),(4,0,10,9,12),(5,0,11,10,12),(6,0,12,11,12),(7,0,13,12,12),(8,0,14,13,12),(9,0,15,14,12),(10,0,16,15,12),(11,0,17,16,12),(12,0,18,17,12),(13,0,19,18,12),(14,0,20,19,12),(15,0,21,20,12),(16,0,22,21,12),(17,0,23,22,12),(18,0,24,23,12),(19,0,25,24,12),(20,0,26,25,12)]
def awW:EM 6 (aLO,19)=ah (aLN,20):=AU
def aLb:QV:=bQ 32 U [(4,0,10,9,12),(5,0,11,10,12),(6,0,12,11,12),(7,0,13,12,12),(8,0,14,13,12),(9,0,15,14,12),(10,0,16,15,12),(11,0,17,16,12),(12,0,18,17,12),(13,0,19,18,12),(14,0,20,19,12),(15,0,21,20,12),(16,0,22,21,12),(17,0,23,22,12),(18,0,24,23,12),(19,0,25,24,12),(20,0,26,25,12),(21,0,27,26,12),(22,0,28,27,12),(23,0,29,28,12),(24,0,30,29,12),(25,0,31,30,12),(26,0,32,31,12)] [(32,26)] 27 [(4,28,11,X)] [(0,1,20,1000000000,0)] [([8,10,12,14,16,13,15,17,19,21,18,20,22,24,26,23,25,27,29,31,28],31,991300)] [(1,991300,X)] [(U,0,500,1)] [(32,(24,0,30,29,12)),(33,(26,0,32,31,12))] [(1,0,7,6,12),(2,0,8,7,12),(3,0,9,8,12),(4,0,10,9,12),(5,0,11,10,12),(6,0,12,11,12),(7,0,13,12,12),(8,0,14,13,12),(9,0,15,14,12),(10,0,16,15,12),(11,0,17,16,12),(12,0,18,17,12),(13,0,19,18,12),(14,0,20,19,12),(15,0,21,20,12),(16,0,22,21,12),(17,0,23,22,12),(18,0,24,23,12),(19,0,25,24,12),(20,0,26,25,12),(21,0,27,26,12),(22,0,28,27,12),(23,0,29,28,12),(24,0,30,29,12),(25,0,31,30,12),(26,0,32,31,12)]
def awV:EM 6 (aLN,20)=ah (aLb,20):=AU
def aLa:QV:=bQ 38 U [(10,0,16,15,12),(11,0,17,16,12),(12,0,18,17,12),(13,0,19,18,12),(14,0,20,19,12),(15,0,21,20,12),(16,0,22,21,12),(17,0,23,22,12),(18,0,24,23,12),(19,0,25,24,12),(20,0,26,25,12),(21,0,27,26,12),(22,0,28,27,12),(23,0,29,28,12),(24,0,30,29,12),(25,0,31,30,12),(26,0,32,31,12),(27,0,32,37,12)] [(32,32)] 28 [(4,32,7,X)] [(0,1,20,1000000000,0)] [([15,17,19,21,18,20,22,24,26,23,25,27,29,31,28,30,32,32,32,32,32],37,1267300)] [(1,1267300,X)] [(U,0,500,1)] [(41,(27,0,32,37,12))] [(1,0,7,6,12),(2,0,8,7,12),(3,0,9,8,12),(4,0,10,9,12),(5,0,11,10,12),(6,0,12,11,12),(7,0,13,12,12),(8,0,14,13,12),(9,0,15,14,12),(10,0,16,15,12),(11,0,17,16,12),(12,0,18,17,12),(13,0,19,18,12),(14,0,20,19,12),(15,0,21,20,12),(16,0,22,21,12),(17,0,23,22,12),(18,0,24,23,12),(19,0,25,24,12),(20,0,26,25,12),(21,0,27,26,12),(22,0,28,27,12),(23,0,29,28,12),(24,0,30,29,12),(25,0,31,30,12),(26,0,32,31,12),(27,0,32,37,12)]
def awU:EM 6 (aLb,20)=ah (aLa,20):=AU
def aLZ:QV:=bQ 44 U [(16,0,22,21,12),(17,0,23,22,12),(18,0,24,23,12),(19,0,25,24,12),(20,0,26,25,12),(21,0,27,26,12),(22,0,28,27,12),(23,0,29,28,12),(24,0,30,29,12),(25,0,31,30,12),(26,0,32,31,12),(27,0,32,37,12),(28,0,32,43,12)] [(32,38)] 29 [(4,32,9,X)] [(0,1,20,1000000000,0)] [([22,24,26,23,25,27,29,31,28,30,32,32,32,32,32,32,32,32,32,32,32],43,1543300)] [(1,1543300,X)] [(U,0,500,1)] [(44,(28,0,32,43,12))] [(1,0,7,6,12),(2,0,8,7,12),(3,0,9,8,12),(4,0,10,9,12),(5,0,11,10,12),(6,0,12,11,12),(7,0,13,12,12),(8,0,14,13,12),(9,0,15,14,12),(10,0,16,15,12),(11,0,17,16,12),(12,0,18,17,12),(13,0,19,18,12),(14,0,20,19,12),(15,0,21,20,12),(16,0,22,21,12),(17,0,23,22,12),(18,0,24,23,12),(19,0,25,24,12),(20,0,26,25,12),(21,0,27,26,12),(22,0,28,27,12),(23,0,29,28,12),(24,0,30,29,12),(25,0,31,30,12),(26,0,32,31,12),(27,0,32,37,12),(28,0,32,43,12)]
def awT:EM 6 (aLa,20)=ah (aLZ,20):=AU
def aLY:QV:=bQ 50 U [(22,0,28,27,12),(23,0,29,28,12),(24,0,30,29,12),(25,0,31,30,12),(26,0,32,31,12),(27,0,32,37,12),(28,0,32,43,12),(29,0,32,49,12)] [(32,44)] 30 [(4,32,6,X)] [(0,1,20,1000000000,0)] [([29,31,28,30,32,32,32,32,32,32,32,32,32,32,32,32,32,32,32,32,32],49,1819300)] [(1,1819300,X)] [(U,0,500,1)] [(52,(29,0,32,49,12))] [(1,0,7,6,12),(2,0,8,7,12),(3,0,9,8,12),(4,0,10,9,12),(5,0,11,10,12),(6,0,12,11,12),(7,0,13,12,12),(8,0,14,13,12),(9,0,15,14,12),(10,0,16,15,12),(11,0,17,16,12),(12,0,18,17,12),(13,0,19,18,12),(14,0,20,19,12),(15,0,21,20,12),(16,0,22,21,12),(17,0,23,22,12),(18,0,24,23,12),(19,0,25,24,12),(20,0,26,25,12),(21,0,27,26,12),(22,0,28,27,12),(23,0,29,28,12),(24,0,30,29,12),(25,0,31,30,12),(26,0,32,31,12),(27,0,32,37,12),(28,0,32,43,12),(29,0,32,49,12)]
def awS:EM 6 (aLZ,20)=ah (aLY,20):=AU
def aLX:QV:=bQ 56 U [(27,0,32,37,12),(28,0,32,43,12),(29,0,32,49,12),(30,0,32,55,12)] [(32,50)] 31 [(4,32,11,X)] [(0,1,20,1000000000,0)] [([32,32,32,32,32,32,32,32,32,32,32,32,32,32,32,32,32,32,32,32,32],55,2095300)] [(1,2095300,X)] [(U,0,500,1)] [] [(1,0,7,6,12),(2,0,8,7,12),(3,0,9,8,12),(4,0,10,9,12),(5,0,11,10,12),(6,0,12,11,12),(7,0,13,12,12),(8,0,14,13,12),(9,0,15,14,12),(10,0,16,15,12),(11,0,17,16,12),(12,0,18,17,12),(13,0,19,18,12),(14,0,20,19,12),(15,0,21,20,12),(16,0,22,21,12),(17,0,23,22,12),(18,0,24,23,12),(19,0,25,24,12),(20,0,26,25,12),(21,0,27,26,12),(22,0,28,27,12),(23,0,29,28,12),(24,0,30,29,12),(25,0,31,30,12),(26,0,32,31,12),(27,0,32,37,12),(28,0,32,43,12),(29,0,32,49,12),(30,0,32,55,12)]
def awR:EM 6 (aLY,20)=ah (aLX,20):=AU
def wZ:QV:=bQ 62 U [(28,0,32,43,12),(29,0,32,49,12),(30,0,32,55,12),(31,0,32,61,12)] [(32,56)] 32 [(4,32,5,X)] [(0,1,20,1000000000,0)] [([32,32,32,32,32,32,32,32,32,32,32,32,32,32,32,32,32,32,32,32,32],61,2371300)] [(1,2371300,X)] [(U,0,500,1)] [(63,(31,0,32,61,12))] [(1,0,7,6,12),(2,0,8,7,12),(3,0,9,8,12),(4,0,10,9,12),(5,0,11,10,12),(6,0,12,11,12),(7,0,13,12,12),(8,0,14,13,12),(9,0,15,14,12),(10,0,16,15,12),(11,0,17,16,12),(12,0,18,17,12),(13,0,19,18,12),(14,0,20,19,12),(15,0,21,20,12),(16,0,22,21,12),(17,0,23,22,12),(18,0,24,23,12),(19,0,25,24,12),(20,0,26,25,12),(21,0,27,26,12),(22,0,28,27,12),(23,0,29,28,12),(24,0,30,29,12),(25,0,31,30,12),(26,0,32,31,12),(27,0,32,37,12),(28,0,32,43,12),(29,0,32,49,12),(30,0,32,55,12),(31,0,32,61,12)]
def awQ:EM 6 (aLX,20)=ah (wZ,20):=AU
def hqe:QV:=bQ 62 X [] [(32,56)] 32 [(4,32,5,X)] [(0,1,20,1000000000,0)] [([32,32,32,32,32,32,32,32,32,32,32,32,32,32,32,32,32,32,32,32,32],61,2371300)] [(1,2371300,X)] [(U,0,500,1)] [(63,(31,0,32,61,12))] [(1,0,7,6,12),(2,0,8,7,12),(3,0,9,8,12),(4,0,10,9,12),(5,0,11,10,12),(6,0,12,11,12),(7,0,13,12,12),(8,0,14,13,12),(9,0,15,14,12),(10,0,16,15,12),(11,0,17,16,12),(12,0,18,17,12),(13,0,19,18,12),(14,0,20,19,12),(15,0,21,20,12),(16,0,22,21,12),(17,0,23,22,12),(18,0,24,23,12),(19,0,25,24,12),(20,0,26,25,12),(21,0,27,26,12),(22,0,28,27,12),(23,0,29,28,12),(24,0,30,29,12),(25,0,31,30,12),(26,0,32,31,12),(27,0,32,37,12),(28,0,32,43,12),(29,0,32,49,12),(30,0,32,55,12),(31,0,32,61,12)]
def aLW:QV:=bQ 70 X [] [(32,56)] 32 [(4,32,5,X)] [(0,1,20,1000000000,0)] [([32,32,32,32,32,32,32,32,32,32,32,32,32,32,32,32,32,32,32,32,32],69,2739300)] [(1,2739300,X)] [(U,0,500,1)] [] [(1,0,7,6,12),(2,0,8,7,12),(3,0,9,8,12),(4,0,10,9,12),(5,0,11,10,12),(6,0,12,11,12),(7,0,13,12,12),(8,0,14,13,12),(9,0,15,14,12),(10,0,16,15,12),(11,0,17,16,12),(12,0,18,17,12),(13,0,19,18,12),(14,0,20,19,12),(15,0,21,20,12),(16,0,22,21,12),(17,0,23,22,12),(18,0,24,23,12),(19,0,25,24,12),(20,0,26,25,12),(21,0,27,26,12),(22,0,28,27,12),(23,0,29,28,12),(24,0,30,29,12),(25,0,31,30,12),(26,0,32,31,12),(27,0,32,37,12),(28,0,32,43,12),(29,0,32,49,12),(30,0,32,55,12),(31,0,32,61,12)]
def awP:EM 8 (hqe,0)=ah (aLW,20):=AU
def aLV:QV:=bQ 78 X [] [(32,56)] 32 [(4,0,0,X)] [(0,1,20,1000000000,0)] [([32,32,32,32,32,32,32,32,32,32,32,32,32,32,32,32,32,6,6,6,6],77,2978500)] [(1,2978500,X)] [(U,0,500,1)] [] [(1,0,7,6,12),(2,0,8,7,12),(3,0,9,8,12),(4,0,10,9,12),(5,0,11,10,12),(6,0,12,11,12),(7,0,13,12,12),(8,0,14,13,12),(9,0,15,14,12),(10,0,16,15,12),(11,0,17,16,12),(12,0,18,17,12),(13,0,19,18,12),(14,0,20,19,12),(15,0,21,20,12),(16,0,22,21,12),(17,0,23,22,12),(18,0,24,23,12),(19,0,25,24,12),(20,0,26,25,12),(21,0,27,26,12),(22,0,28,27,12),(23,0,29,28,12),(24,0,30,29,12),(25,0,31,30,12),(26,0,32,31,12),(27,0,32,37,12),(28,0,32,43,12),(29,0,32,49,12),(30,0,32,55,12),(31,0,32,61,12)]
def awO:EM 8 (aLW,20)=ah (aLV,6):=AU
def ao5:QV:=bQ 86 X [] [(32,56)] 32 [(4,0,0,X)] [(0,1,20,1000000000,0)] [([32,32,32,32,32,32,32,32,32,6,6,6,6,6,6,6,6,6,6,6,6],85,3088900)] [(1,3088900,X)] [(U,0,500,1)] [] [(1,0,7,6,12),(2,0,8,7,12),(3,0,9,8,12),(4,0,10,9,12),(5,0,11,10,12),(6,0,12,11,12),(7,0,13,12,12),(8,0,14,13,12),(9,0,15,14,12),(10,0,16,15,12),(11,0,17,16,12),(12,0,18,17,12),(13,0,19,18,12),(14,0,20,19,12),(15,0,21,20,12),(16,0,22,21,12),(17,0,23,22,12),(18,0,24,23,12),(19,0,25,24,12),(20,0,26,25,12),(21,0,27,26,12),(22,0,28,27,12),(23,0,29,28,12),(24,0,30,29,12),(25,0,31,30,12),(26,0,32,31,12),(27,0,32,37,12),(28,0,32,43,12),(29,0,32,49,12),(30,0,32,55,12),(31,0,32,61,12)]
def awN:EM 8 (aLV,6)=ah (ao5,6):=AU
def gM:JI Dx 0 0 ([]:aVD) 1019 (aq 1024 255) where
 eq:=rfl
 la:=by rw [PF];rfl
 lo:=Ci
 bo:=fB _
 hw:=.inl rfl
 hg:=Aa
 old:=λh=>absurd h Aa
 bd:=λd hd=>Vz
def agF:RP (newP (bC 32) bO [] bG [] [0]) hqa:=by
 have e:DL (bC 32) bO [] bG [] [0]=0:=AU
 have e2:newP (bC 32) bO [] bG [] [0]={hqa.p with se:=512,fl:=Dx}:=by
  unfold newP;rw [e]
  kernel_rfl
 rw [e2];exact ⟨rfl,rfl,rfl,1019,_,gM,rfl⟩
def LZ:EV:=⟨2,0,0,bA,bD⟩
def evF:EV:=⟨5,0,0,(0,0,0,0,0),(X,0,0,0)⟩
def arQ {p:PK}{q:QV}(h:RP p q) (hv:EH q.p=U) (he:q.p.GL 0 bA bD=0):BO p LZ=0/\CU p LZ=[]/\RP (BM p LZ) {q with p:=q.p.O7 0 bA bD}:=by
 have e1:BO p LZ=0:=by
  have:q.p.GL 0 bA bD=p.GL 0 bA bD:=by rw [h.1];rfl
  unfold BO;rw [<-sC h,hv,AE Aa,AE Aa,AD (show LZ.ek=2 from rfl)];exact this.symm.trans he
 refine ⟨e1,aPX,?_⟩
 have e2:BM p LZ=p.O7 0 bA bD:=yo
 rw [e2];exact ⟨aOx,h.2⟩
def atz {p:PK}{q:QV}(h:RP p q) (hv:EH q.p=U) (he:q.p.up=U):BO p evF=0/\RP (BM p evF) {q with p:=q.p.Pb}:=by
 have e1:BO p evF=0:=by
  have:q.p.up=p.up:=by rw [h.1]
  unfold BO;rw [<-sC h,hv,AE Aa,AE Aa,AE Aa,AE Aa,AE Aa,AD (show evF.ek=5 from rfl)];unfold PK.N1;rw [<-this,he];rfl
 refine ⟨e1,?_⟩
 have e2:BM p evF=p.Pb:=yo
 rw [e2];exact ⟨aOx,h.2⟩
def amk:∃p1 p3 p4 p6,CR 1 (newP (bC 32) bO [] bG [] [0]) 0=(p1,0,U)/\p1.tk=1/\BO p1 LZ=0/\CU p1 LZ=[]/\CR 1 (BM p1 LZ) 0=(p3,6,U)/\
  CR 60 p3 0=(p4,20,U)/\BO p4 evF=0/\CR 24 (BM p4 evF) 0=(p6,6,U):=by
 obtain ⟨p1,a1,a2⟩:=eG agF ajY;obtain ⟨a3,a4,a5⟩:=arQ a2 AU AU
 have hc:({hqb with p:=hqb.p.O7 0 bA bD}:QV)=hqc:=AU
 simp only [hc] at a5;obtain ⟨p3,b1,b2⟩:=eG a5 ajX
 have t60:=Mn (Mn (Mn (Mn (Mn (Mn (Mn (Mn (Mn awZ awY) awX) awW) awV) awU) awT) awS) awR) awQ
 obtain ⟨p4,c1,c2⟩:=eG b2 t60;obtain ⟨c3,c4⟩:=atz c2 AU AU
 have he:({wZ with p:=wZ.p.Pb}:QV)=hqe:=AU
 simp only [he] at c4
 have t24:=Mn (Mn awP awO) awN
 obtain ⟨p6,d1,d2⟩:=eG c4 t24;exact ⟨p1,p3,p4,p6,a1,by have:=a2.1;have h:hqb.p.tk=1:=rfl;rw [this] at h;exact h,a3,a4,b1,c1,c3,d1⟩
def aBU:DL (bC 32) bO [] bG [] [0]=0/\DL (bC 5) bO [] bG [] [0]=13:=⟨AU,AU⟩
def wI {l:aVG}{t:Y}(h:B0 l=U):B0 (BW l t)=true:=by
 unfold BW;split
 ·exact qK h xv
 ·rfl
def axp {t:Y}{s:SN}{x:Le}(h:VK s.se s.fl/\B0 s.ls=U):VK (F8 t s x).se (F8 t s x).fl/\B0 (F8 t s x).ls=true:=by
 unfold F8;split
 ·rename_i hc
  refine ⟨(h.1.st hc.2).2,?_⟩
  have:=(vd (x:=x) h.2).1
  unfold grS at this;rw [AD hc.1] at this;exact this
 ·exact h
def aPp {t:Y}{xs:aVG}{s:SN}(h:VK s.se s.fl/\B0 s.ls=U):∀n,VK (EI t xs s n).se (EI t xs s n).fl/\B0 (EI t xs s n).ls=U
 |0=>h
 |n+1=>axp<|aPp h n
def anF {p:PK}(h:VK p.se p.fl/\B0 p.ls=U):VK p.AK.se p.AK.fl/\B0 p.AK.ls=true:=by
 have hx:B0 (Dt p.ls p.tk)=true:=by
  unfold Dt;split
  ·exact wI h.2
  ·exact h.2
 unfold PK.AK;split
 ·exact h
 ·split
  ·grind
  ·exact aPp (s:=p.H9) ⟨h.1,hx⟩ _
def JP.step {p:PK}(h:JP p) {e:EV}(he:BO p e=0):JP (BM p e):=by
 obtain ⟨⟨hV,hR⟩,hk⟩:=h;refine ⟨⟨hV.step he,hR.step hV he⟩,?_⟩;unfold BM;rw [AE A0];unfold BO at he;rw [AE (by rw [W9.2 hV];decide)] at he
 split
 ·exact anF hk
 rename_i h1;rw [AE h1] at he;split
 ·exact hk
 rename_i h2;rw [AE h2] at he;split
 ·exact hk
 rename_i h3;rw [AE h3] at he;split
 ·exact hk
 rename_i h4;rw [AE h4] at he;split
 ·exact ⟨hk.1,rfl⟩
 rename_i h5;rw [AE h5] at he;split
 ·rename_i h6
  rw [AD h6] at he;refine ⟨hk.1,?_⟩;unfold PK.Fs at he;split at he
  ·cases he
  split at he
  ·rename_i g1 g2;exact absurd he g2
  ·rename_i g1 g2
   exact wI<|aBW<|ln λg=>g2 g
 rename_i h6;rw [AE h6] at he;split
 ·exact hk
 ·exact hk
def JP.Dr {p:PK}(h:JP p):∀(n:aVx) (l:Y),JP (CR n p l).1
 |0,_=>h
 | n+1,l=>by
  unfold CR;split
  ·rename_i hc
   exact (h.step hc.1).Dr n _
  ·exact h
def gZ {cs:aVF}{os:aVz}{ks:aVK}{gs:aVA}{bs:aVL}{dr:aVw}(h:DL cs os ks gs bs dr=0):JP (newP cs os ks gs bs dr):=by
 have hn:=uk h
 have hp:newP cs os ks gs bs dr=_:=AE A8
 refine ⟨hn,⟨hn.2.fl,?_⟩,?_⟩
 ·rw [hp]
  exact ⟨[],0,rfl,rfl,⟨0,1019,_,gM⟩,Cj _⟩
 ·rw [hp]
  rfl
def Wh {tg:aVw}{cs:aVF}:∀n,n<=M cs->∀j:aVx,Ae (E0 cs tg n) j=if j<n then GV (Ae cs j) (gi tg j) else Ae cs j
 |0,_,j=>by rw [AE A0];rfl
 | n+1,hn,j=>by
  have h1:=Wh (tg:=tg) (cs:=cs) n A0
  unfold E0;rw [Wp (by rw [Ng];omega)]
  by_cases e:j=n
  ·subst e
   rw [AD rfl,AD A0,h1 j,AE A0]
  ·rw [AE e,h1 j]
   by_cases c:j<n
   ·rw [AD c,AD A0]
   ·rw [AE c,AE A0]
def aIj {a b:aVF}(h:M a=M b) (hg:∀j:aVx,j<M a->Ae a j=Ae b j):a=b:=
 Zj h λi h1 h2=>by
  have:=hg i h1
  rwa [Qw h1,Qw h2] at this
def VX (cs X:aVF):Prop:=M X=M cs/\∀j:aVx,∃u,Ae X j=GV (Ae cs j) u
def VX.ask {cs X:aVF}(h:VX cs X) {tg:aVw}(ht:M tg=M cs):E0 X tg (M tg)=E0 cs tg (M tg):=
 aIj (by rw [Ng,Ng,h.1]) λj hj=>by
  rw [Ng,h.1] at hj;obtain ⟨u,e⟩:=h.2 j;rw [Wh _ (by rw [h.1];omega),Wh _ A0,AD A0,AD A0,e]
  rfl
def aIe {gs:aVA}{tg am:aVw}{cs:aVF}{n:aVx}(hn:n<=M cs):VX cs (Cp gs tg am cs n):=
 ⟨TN n,λj=>by
  rcases (dg (gs:=gs) (tg:=tg) (am:=am) n hn j).1 with e|⟨_,_,e⟩
  ·exact ⟨_,e⟩
  ·exact ⟨_,e⟩⟩
def afh {c:Cd}{u v:Y}(h:u<=v):Cs (GV c u)<=Cs (GV c v):=by
 unfold Cs GV Jf;simp only [List.foldl];split<;>(repeat' split)<;>omega
def aU7 {tg:aVw}{cs X:aVF}(h:VX cs X) (ht:M tg=M cs) (hl:∀j:aVx,j<M cs->gi tg j<=(Ae X j).2.2.1):Hl (E0 cs tg<|M tg) X where
 len:=by rw [Ng,h.1]
 up:=λo=>by
  obtain ⟨u,e⟩:=h.2 o;rw [Wh _ A0,e];split<;>rfl
 lim:=λo=>by
  obtain ⟨u,e⟩:=h.2 o;rw [Wh _ A0];split
  ·rename_i c
   have:=hl o A0
   rw [e] at this|-;exact afh this
  ·rename_i c
   have e1:Ae X o=Ae cs o:=by
    unfold Ae;rw [DA,DA,Sw (by rw [h.1];omega),Sw A0]
   rw [e1];exact Cj _
def aIf {gs:aVA}{tg am:aVw}{cs:aVF}{os:aVz}{ks:aVK}{bs:aVL}(hs:B6 cs os ks gs bs=U) (ht:∀k:aVx,k<M cs->1<=gi tg k/\gi tg k<=(Ae cs k).2.2.1) (hl:M tg=M cs) (hm:M am=M gs)
  (hb:∀k:aVx,k<M gs->0<=gi am k/\gi am k<=80) (hk:DG (E0 cs tg<|M tg) gs am=U):∀n,n<=M cs->∀j:aVx,j<n->(Ae (Cp gs tg am cs n) j).2.2.1=gi tg j
 |0,_,j,h=>A0
 | n +1,hn,j,hj=>by
  have h1:=aIf hs ht hl hm hb hk n A0
  have t1:∀k:aVx,k<M cs->1<=gi tg k/\gi tg k<=1000:=λk hk=>by
   have a:=ht k hk
   have b:=iD hs hk
   omega
  have ho:=aIe (gs:=gs) (tg:=tg) (am:=am) (cs:=cs) (n:=n) A0
  have hn3:=(dg (gs:=gs) (tg:=tg) (am:=am) (cs:=cs) n A0 n).2<|Aq _
  have hge:∀k:aVx,k<M cs->gi tg k<=(Ae (Cp gs tg am cs n) k).2.2.1:=λk hk=>by
   rcases (dg (gs:=gs) (tg:=tg) (am:=am) (cs:=cs) n A0 k).1 with e|⟨_,_,e⟩
   ·rw [e];exact (ht k hk).2
   ·rw [e];exact Cj _
  have hx:n<M (Cp gs tg am cs n):=by rw [ho.1];omega
  unfold Cp;split
  ·rename_i c
   by_cases e:j=n
   ·subst e
    have:=hge j A0
    omega
   ·exact h1 j A0
  ·have hq:DG ((Cp gs tg am cs n).set n<|GV (Ae (Cp gs tg am cs n) n)<|gi tg n) gs am=true:=by
    refine Qu (pg hs t1 _ A0) (cu (pS hs t1 n A0) hx<|t1 n A0) (aU7 ⟨by rw [C4,ho.1],λk=>?_⟩ hl λk hk=>?_) hb (λk hk=>⟨(hb k hk).1,Cj _⟩) hk
    ·rw [Wp hx]
     split
     ·rename_i e
      obtain ⟨u,e2⟩:=ho.2 n;subst e;exact ⟨gi tg k,by rw [e2];rfl⟩
     ·exact ho.2 k
    ·rw [Wp hx]
     split
     ·rename_i e
      subst e;exact Cj _
     ·exact hge k hk
   rw [AD (by rw [hq,CY hm];rfl),Wp hx]
   by_cases e:j=n
   ·rw [AD e,e];rfl
   ·rw [AE e]
    exact h1 j A0
def eI {p:PK}(hJ:JP p) (ht:p.tk<1000000):BO p Cw=0/\BM p Cw=p.BX/\CU p Cw=p.Ek/\M (CU p Cw)=M (BM p Cw).ca/\p.BX.tk=p.tk+1:=by
 have hv:=hJ.1.1
 have he:BO p Cw=0:=by
  unfold BO;rw [AE nR,AD (show Cw.ek=1 from rfl)];exact AE A0
 have e2:BM p Cw=p.BX:=by unfold BM;rw [he];rfl
 have e3:CU p Cw=p.Ek:=by unfold CU;rw [he];rfl
 have hJ2:=hJ.step he
 refine ⟨he,e2,e3,?_,aOh⟩;rw [hJ2.1.1.ca,e2,e3];refine (Wq _).2.2.2.trans ?_;exact Ci
def aHh {p:PK}(hv:VP p) {e:EV}(he:BO p e=0):letI a:=BM p e;(p.tk<1000000/\BM p e=p.BX)\/BM p e=p.Pb\/(p.Fs=0/\BM p e=p.UM)\/(p.I7 e.en e.em=0/\BM p e=p.LH e.en e.em)\/BM p e={p with st:=a.st,ca:=a.ca,mi:=a.mi,dm:=a.dm,lk:=a.lk}:=by
 have hw:=he
 unfold BO at he;rw [AE nR] at he;unfold BM;rw [AE A0];split
 ·rename_i h1
  rw [AD h1] at he
  have:=hv.tk
  unfold PK.Ib at he;split at he
  ·cases he
  ·exact .inl ⟨A0,rfl⟩
 rename_i h1;rw [AE h1] at he;split
 ·exact mX
 rename_i h2;rw [AE h2] at he;split
 ·exact mX
 rename_i h3;rw [AE h3] at he;split
 ·exact mX
 rename_i h4;rw [AE h4] at he;split
 ·exact .inr<|.inl rfl
 rename_i h5;rw [AE h5] at he;split
 ·rename_i h6
  rw [AD h6] at he;exact .inr<|.inr<|.inl ⟨he,rfl⟩
 rename_i h6;rw [AE h6] at he;split
 ·exact mX
 rename_i h7;rw [AE h7] at he;split at he
 ·exact .inr<|.inr<|.inr<|.inl ⟨he,rfl⟩
 ·cases he
def TL (gl:aVx) (t:Y) (x:Le):Prop:=x.2.2.2.1<t/\x.2.2.2.2=12/\0<=x.2.1/\x.2.1<(gl:Y)
def TL.le {gl:aVx}{t t':Y}{x:Le}(h:TL gl t x) (ht:t<=t'):TL gl t' x:=⟨by have:=h.1;omega,h.2⟩
structure SG (T:Le->Prop) (b:Y) (s:SN):Prop where
 nx:1<=s.nx/\s.nx<=b
 ls:B0 s.ls=U/\∀x∈s.ls,T x
 vl:∃vl g,VI s.se s.fl vl g/\∀x∈vl,x.1<s.nx/\T x
def SG.le {T T':Le->Prop}{b b':Y}{s:SN}(h:SG T b s) (hb:b<=b') (hT:∀x,T x->T' x):SG T' b' s:=by
 obtain ⟨vl,g,h1,h2⟩:=h.vl;exact ⟨⟨h.nx.1,by have:=h.nx.2;omega⟩,⟨h.ls.1,λx hx=>hT x<|h.ls.2 x hx⟩,vl,g,h1,λx hx=>⟨(h2 x hx).1,hT x (h2 x hx).2⟩⟩
def SG.snd {T:Le->Prop}{b t:Y}{s:SN}(h:SG T b s) {x:Le}(hx:T x) (hn:1<=x.1+1/\x.1+1<=b):SG T b (F8 t s x):=by
 unfold F8;split
 ·rename_i hc
  obtain ⟨vl,g,h1,h2⟩:=h.vl;obtain ⟨vl',g',q1,q2,q3,q4⟩:=wT h1 hc.2
  have e:GM s.ls x=s.ls++[x]:=yn
  refine ⟨hn,?_,vl',g',q1,λy hy=>?_⟩
  ·have:=(vd (x:=x) h.ls.1).1
   unfold grS at this;rw [AD hc.1] at this;refine ⟨this,λy hy=>?_⟩
   simp only [e,BZ,HJ] at hy;rcases hy with hy|rfl
   ·exact h.ls.2 y hy
   ·exact hx
  ·have hy:y∈vl++[x]:=by
    exact aNC
   rw [BZ,HJ] at hy;rcases hy with hy|rfl
   ·have:=(List.pairwise_append.1 (sO.1 q3).2.2).2.2 y hy x AI
    exact ⟨by show y.1<x.1+1;have:=this.1;omega,(h2 y hy).2⟩
   ·exact ⟨by show y.1<y.1+1;omega,hx⟩
 ·exact h
def SG.EI {T:Le->Prop}{b t:Y}{s:SN}{xs:aVG}(h:SG T b s) (hx:∀k:aVx,k<M xs->T (Ao xs k)/\1<=(Ao xs k).1+1/\(Ao xs k).1+1<=b):∀n,n<=M xs->SG T b (EI t xs s n)
 |0,_=>h
 |n+1,hn=>by
  obtain ⟨h1,h2⟩:=hx n A0;exact (h.EI hx n A0).snd h1 h2
def tz {t:Y}{xs:aVG}{s:SN}:∀n,n<=M xs->∀x∈(EI t xs s n).ls,x∈s.ls\/x∈xs
 |0,_,x,hx=> .inl hx
 | n+1,hn,x,hx=>by
  unfold EI F8 at hx;split at hx
  ·rename_i hc
   have e:GM (EI t xs s n).ls (Ao xs n)=(EI t xs s n).ls++[Ao xs n]:=yn
   simp only [e,BZ,HJ] at hx;rcases hx with hx|rfl
   ·exact tz n A0 x hx
   ·exact .inr<|Lt A0 A0
  ·exact tz n A0 x hx
variable {p : PK}
def PK.snp (p:PK):SN:=⟨p.ls,p.se,p.fl,p.nx,p.lk⟩
structure TG (p:PK):Prop where
 kt:DG p.EL p.gs (Bt p.gs)=U
 sg:SG (TL (M p.gs) p.tk) (16*p.tk+1) p.snp
def jP (h:p.dE=0):Vd p.EL p.os p.ks p.gs p.bs (Dt p.ls p.tk) p.ra p.dm p.tk p.nx/\NwL p.gs (FH p.gs p.ra (HS p.EL p.os p.ks p.gs p.bs (Dt p.ls p.tk) p.dm p.tk)<|M p.gs) p.tk p.nx p.dL/\M p.dL<=M p.gs:=by
 unfold PK.dE deE at h;split at h
 ·rename_i hv
  have e:p.dL=HG p.gs (Dt p.ls p.tk) p.tk p.nx (FH p.gs p.ra (HS p.EL p.os p.ks p.gs p.bs (Dt p.ls p.tk) p.dm p.tk)<|M p.gs) (M p.gs):=AD hv
  exact ⟨aVj hv,by rw [e];exact (iB<|Aq _).1,wQ⟩
 ·cases h
def iA (hJ:JP p):Dt p.ls p.tk=p.ls.filter (LF p.tk):=by
 have ht:=hJ.1.1.tk
 have h:Kz p.ls p.tk=true:=by unfold Kz;rw [hJ.2.2,BS.2 A0];rfl
 unfold Dt DQ BW;rw [AD h,AD rfl,AD h]
def TG.dec (h:TG p) (hJ:JP p):SG (TL (aa p.gs)<|p.tk+1) (16*(p.tk+1)+1) p.AK.snp:=by
 have h0:=h.sg.le (T':=TL (aa p.gs)<|p.tk+1) (b':=16*(p.tk+1)+1) A0 λx hx=>hx.le A0
 have hx:SG (TL (aa p.gs)<|p.tk+1) (16*(p.tk+1)+1) p.H9:=by
  refine ⟨h0.nx,?_,h0.vl⟩
  show B0 (Dt p.ls p.tk)=U/\∀x∈Dt p.ls p.tk,_
  rw [iA hJ];exact ⟨qK hJ.2.2 xv,λx hx=>h0.ls.2 x (Cg.1 hx).1⟩
 unfold PK.AK;split
 ·exact h0
 split
 ·exact ⟨h0.nx,hx.ls,h0.vl⟩
 ·rename_i hd
  obtain ⟨V,M,hl⟩:=jP<|Zq.1 hd
  have hg:=V.gl
  have hn:=h.sg.nx
  refine (hx.EI (t:=p.tk) (xs:=p.dL) (λk hk=>?_) _<|Aq _)
  obtain ⟨q1,q2,_⟩:=M.at_ k A0 A0;rw [q1]
  have hn:1<=p.nx/\p.nx<=16*p.tk+1:=hn
  exact ⟨⟨by show p.tk<p.tk+1;omega,rfl,q2⟩,by show 1<=p.nx+k+1;omega,by show p.nx+(k:Y)+1<=_;omega⟩
def rW (hv:VP p):VX p.cs p.BX.cs:=by
 show VX p.cs (if p.AZ.BY.up=X then p.AZ.BY.cs else Cp p.AZ.BY.gs p.AZ.BY.tg p.AZ.BY.Jg p.AZ.BY.cs (M p.AZ.BY.tg))
 have e:p.AZ.BY.cs=p.cs:=(J0 p).1
 have e2:p.AZ.BY.tg=p.tg:=(J0 p).2.2.2.2.2.2.2.2.2.2.2.2.2
 rw [e,e2];split
 ·exact ⟨rfl,λj=>⟨_,rfl⟩⟩
 ·exact aIe nI
def TG.tick (h:TG p) (hJ:JP p):TG p.BX:=by
 obtain ⟨e1,e2,e3,e4,e5,e6,e7,e8,e9,e10,e11,e12,e13,e14⟩:=J0 p
 have hd:=h.dec hJ
 have eg:p.BX.gs=p.gs:=e4
 have et:p.BX.tk=p.tk+1:=B2 (·+1) e6
 have eT:p.BX.tg=p.tg:=e14
 refine ⟨?_,?_⟩
 ·have:p.BX.EL=p.EL:=by
   show E0 p.BX.cs p.BX.tg (M p.BX.tg)=_
   rw [eT];exact (rW hJ.1.1).ask hJ.1.1.Ep
  rw [this,eg];exact h.kt
 ·rw [eg,et]
  exact ⟨hd.nx,hd.ls,hd.vl⟩
def TG.step (h:TG p) (hJ:JP p) {e:EV}(he:BO p e=0):TG (BM p e):=by
 have hv:=hJ.1.1
 rcases aHh hv he with ⟨_,c⟩ |c|⟨c0,c⟩ |⟨c0,c⟩ |c
 ·rw [c];exact h.tick hJ
 ·rw [c];exact ⟨h.kt,h.sg.nx,⟨rfl,λx hx=>Qa⟩,h.sg.vl⟩
 ·rw [c]
  obtain ⟨vl,g,h1,h2⟩:=h.sg.vl;obtain ⟨l1,l2⟩:=h1.ld
  have l1:Ce p.se p.fl=0:=l1
  have l2:Ai p.se p.fl=vl:=l2
  have hn:=h.sg.nx
  have hn:1<=p.nx/\p.nx<=16*p.tk+1:=hn
  have hnw:Io p.se p.fl=0:=by
   unfold PK.Fs at c0;split at c0
   ·cases c0
   ·rw [l1,l2] at c0
    split at c0
    ·rename_i q;exact absurd rfl q
    split at c0
    ·rename_i q;exact absurd c0 q
    ·exact c0
  have hA:1<=Je p.se p.fl/\Je p.se p.fl<=p.nx/\∀x∈vl,x.1<Je p.se p.fl:=by
   unfold Io at hnw;unfold Je;rw [l1,l2] at hnw|-;simp only [ne_eq,not_true_eq_false,FP] at hnw|-;split
   ·rename_i q
    rw [xR q];exact ⟨A0,hn.1,λx hx=>Qa⟩
   ·rename_i q
    rw [AE q] at hnw;split
    ·rename_i q2;rw [AD q2] at hnw;cases hnw
    ·have hm:Ao vl ((M vl:Y)-1)∈vl:=Lt A0 A0
     have b1:=(KY.1<|(GK h1.lv).2 _ hm).1.1
     have b2:(Ao vl<|(M vl:Y)-1).1<p.nx:=(h2 _ hm).1
     refine ⟨A0,A0,λx hx=>?_⟩
     rw [aEB (l:=vl) A0,BZ,HJ] at hx;rcases hx with hx|rfl
     ·have:=h1.lv
      rw [aEB (l:=vl) A0] at this
      have:=(List.pairwise_append.1 (sO.1 this).2.2).2.2 x hx _<|HJ.2 rfl
      have:=this.1
      omega
     ·omega
  refine ⟨h.kt,⟨hA.1,by show Je p.se p.fl<=16*p.tk+1;omega⟩,?_,vl,g,h1,λx hx=>⟨hA.2.2 x hx,(h2 x hx).2⟩⟩
  show B0 (BW (Ai p.se p.fl) p.tk)=U/\∀x∈BW (Ai p.se p.fl) p.tk,_
  rw [l2];refine ⟨wI h1.lv,λx hx=>?_⟩
  unfold BW at hx;split at hx
  ·exact (h2 x (Cg.1 hx).1).2
  ·cases hx
 ·rw [c]
  refine ⟨?_,h.sg⟩;unfold PK.I7 at c0;split at c0
  ·cases c0
  split at c0
  ·cases c0
  ·rename_i c1
   exact (QQ _).mp c1
 ·rw [c];exact ⟨h.kt,h.sg.nx,h.sg.ls,h.sg.vl⟩
def aSB {cs:aVF}{os:aVz}{ks:aVK}{gs:aVA}{bs:aVL}{dr:aVw}(h:DL cs os ks gs bs dr=0):TG (newP cs os ks gs bs dr):=by
 have hJ:=gZ h
 have hp:newP cs os ks gs bs dr=_:=AE nV
 rw [hp] at hJ|-;refine ⟨?_,⟨(by decide:(1:Y)<=1),(by decide:(1:Y)<=16*0+1)⟩,⟨rfl,λx hx=>Qa⟩,[],0,⟨rfl,rfl,⟨0,1019,_,gM⟩,Cj _⟩,λx hx=>Qa⟩
 have e:E0 cs (cs.map λc=>c.2.2.1) (M<|cs.map λc=>c.2.2.1)=cs:=aIj (Ng _) λj hj=>by
  rw [Ng] at hj;rw [Wh _ AI,AD nN,Qw hj]
  have:gi (cs.map λc=>c.2.2.1) (j:Y)=cs[j].2.2.1:=by rw [Ia nN];simp
  rw [this];rfl
 show DG (E0 cs (cs.map λc=>c.2.2.1)<|M<|cs.map λc=>c.2.2.1) gs (Bt gs)=U
 rw [e];unfold DL at h;split at h
 ·cases h
 split at h
 ·cases h
 split at h
 ·cases h
 ·rename_i c
  exact (QQ _).mp c
end Go.Proofs.YtjdlmobanmhohaaGreatDoor
namespace Go.Proofs.YtjdlmobanmhohaaGreatDoor
set_option maxRecDepth 100000
set_option maxHeartbeats 4000000
open Go.Proofs.Tryz
open Go.Sx
def amr {c:Ch}{s:St}{k n m:Y}(h:sV c s=U) (hl:0<(EJ c s k n m).2.2.1):
  (k=7/\(EJ c s k n m).2.1=n/\(EJ c s k n m).2.2.1=m)\/(0<s.2.2.1/\(EJ c s k n m).2.1=s.2.1/\(EJ c s k n m).2.2.1<=s.2.2.1-(if k=8 then 1 else 0)):=by
 have hv:=Kf.1 h
 by_cases he:sE c s k n m=0
 ·have e:EJ c s k n m=(IG s.1 s.2.2.2 k n,sA s.2.1 s.2.2.1 k n,sL s.2.2.1 k m,sW s.2.2.2 k n):=by unfold EJ sN;rw [AD he,AD he]
  rw [e] at hl|-;simp only [sL,sA] at hl|-
  by_cases h7:k=7
  ·rw [AD h7,AD h7]
   exact .inl ⟨h7,rfl,rfl⟩
  ·right
   rw [AE h7] at hl;rw [AE h7,AE h7]
   by_cases h8:k=8
   ·rw [AD h8] at hl
    rw [AD h8,AD h8,AD h8]
    have ht:tkF s.2.2.1<=s.2.2.1-1:=by
     unfold tkF at hl|-;split
     ·exact Cj _
     ·rename_i q;rw [AE q] at hl;omega
    rw [AE A0];exact ⟨A0,rfl,ht⟩
   ·rw [AE h8] at hl
    rw [AE h8,AE h8,AE h8]
    by_cases h9:k=9
    ·rw [AD h9] at hl;omega
    ·rw [AE h9] at hl
     rw [AE h9,AE h9];exact ⟨hl,rfl,A0⟩
 ·have e:EJ c s k n m=s:=AE he
  rw [e] at hl|-;refine .inr ⟨hl,rfl,?_⟩
  by_cases h8:k=8
  ·exfalso
   subst h8;refine he ?_;unfold sE;rw [AD h,AD Aa,AD<|by simp [evV]]
   have:IG s.1 s.2.2.2 8 n=s.1:=by simp [IG]
   rw [this,AE A0]
  ·rw [AE h8];omega
def FL (gs:aVA) (W:Y->Y->Y->Prop) (j:Y) (s:St):Prop:=sV (AF gs j) s=U/\(0<s.2.2.1->W j s.2.1 s.2.2.1)
def FL.gv {gs:aVA}{W W':Y->Y->Y->Prop}{j k n m:Y}{s:St}(h:FL gs W j s) (hw:∀a l l',W j a l->l'<=l-(if k=8 then 1 else 0)->W' j a l') (hm:k=7->W' j n m):FL gs W' j (EJ (AF gs j) s k n m):=by
 refine ⟨vZ h.1,λhl=>?_⟩
 rcases amr h.1 hl with ⟨e,e1,e2⟩ |⟨e,e1,e2⟩
 ·rw [e1,e2];exact hm e
 ·rw [e1];exact hw _ _ _ (h.2 e) e2
def FL.le {gs:aVA}{W W':Y->Y->Y->Prop}{j:Y}{s:St}(h:FL gs W j s) (hw:∀a l,0<l->W j a l->W' j a l):FL gs W' j s:=⟨h.1,λhl=>hw _ _ hl<|h.2 hl⟩
def WL (vl:aVG) (f:Y->Y->Y) (b:Y->Y) (j a l:Y):Prop:=∃x∈vl,x.2.1=j/\x.2.2.1=a/\l+b j<=12+f j (x.2.2.2.1+4)
def WL.le {vl:aVG}{f:Y->Y->Y}{b:Y->Y}{j a l l':Y}(h:WL vl f b j a l) (hl:l'<=l):WL vl f b j a l':=by
 obtain ⟨x,h1,h2,h3,h4⟩:=h;exact ⟨x,h1,h2,h3,A0⟩
def aaZ {gs:aVA}{vl:aVG}{f:Y->Y->Y}{b:Y->Y}{st:aVW}(h:Bn gs (FL gs<|WL vl f b) st) {i:Y}(h0:0<=i) (h1:i<(M gs:Y)):∀k:aVx,Bn gs (FL gs<|WL vl f (λj=>if j=i then b j+k else b j)) (L8 gs st i k)
 |0=>⟨h.1,λj j0 j1=>(h.2 j j0 j1).le λa l _ ⟨x,q1,q2,q3,q4⟩=>⟨x,q1,q2,q3,by (try simp only []);split<;>omega⟩⟩
 | k+1=>by
  have ih:=aaZ h h0 h1 k
  unfold L8;refine ⟨JB.trans ih.1,λj j0 j1=>?_⟩
  rw [va h0 (by rw [ih.1];exact h1) j0]
  have hj:=ih.2 j j0 j1
  split
  ·rename_i e
   subst e;refine hj.gv (λa l l' ⟨x,q1,q2,q3,q4⟩ hl=>⟨x,q1,q2,q3,?_⟩) λe=>Oy
   have q4:l+(if j=j then b j+(k:Y) else b j)<=_:=q4
   rw [AD rfl] at q4 hl
   show l'+(if j=j then b j+((k+1:aVx):Y) else b j)<=_
   rw [AD rfl];omega
  ·rename_i e
   refine hj.le λa l _ ⟨x,q1,q2,q3,q4⟩=>⟨x,q1,q2,q3,?_⟩
   have q4:l+(if j=i then b j+(k:Y) else b j)<=_:=q4
   rw [AE e] at q4
   show l+(if j=i then b j+((k+1:aVx):Y) else b j)<=_
   rw [AE e];exact q4
def acE {gs:aVA}{vl:aVG}{f:Y->Y->Y}{st:aVW}{dr:aVw}{t:Y}(h:Bn gs (FL gs<|WL vl f λj=>B8 t<|gi dr j) st) (hd:∀j:Y,0<=j->j<(M dr:Y)->-200<=gi dr j/\gi dr j<=200) (hl:M dr=M gs) (ht:0<=t/\t<1000000):
  ∀n:aVx,n<=M dr->Bn gs (FL gs<|WL vl f (λj=>if j<n then B8 (t+1) (gi dr j) else B8 t (gi dr j))) (JL gs dr t st n)
 | 0,_=>⟨h.1,λj j0 j1=>by
   refine (h.2 j j0 j1).le λa l _ ⟨x,q1,q2,q3,q4⟩=>⟨x,q1,q2,q3,?_⟩
   show l+(if j<((0:aVx):Y) then B8 (t+1) (gi dr j) else B8 t (gi dr j))<=_
   rw [AE A0];exact q4⟩
 | n+1,hn=>by
  have ih:=acE h hd hl ht n A0
  have hdn:=hd (n:Y) A0 A0
  have hs:HZ t (gi dr n)=0/\HZ (t+1) (gi dr n)=0:=by
   exact aNW
  have ho:=pt (t:=t) (t':=t+1) hdn ht.1 A0 A0
  unfold JL;rw [AD hs]
  have:=aaZ ih (i:=(n:Y)) A0 A0 (B8 (t+1) (gi dr n)-B8 t (gi dr n)).toNat
  refine ⟨this.1,λj j0 j1=>(this.2 j j0 j1).le λa l _ ⟨x,q1,q2,q3,q4⟩=>⟨x,q1,q2,q3,?_⟩⟩
  have q4:l+(if j=(n:Y) then (if j<(n:Y) then B8 (t+1) (gi dr j) else B8 t (gi dr j))+(((B8 (t+1) (gi dr n)-B8 t (gi dr n)).toNat:aVx):Y) else (if j<(n:Y) then B8 (t+1) (gi dr j) else B8 t (gi dr j)))<=_:=q4
  show l+(if j<((n+1:aVx):Y) then B8 (t+1) (gi dr j) else B8 t (gi dr j))<=_
  by_cases ej:j=n
  ·subst ej
   rw [AD rfl,AE A0] at q4;rw [AD A0];omega
  ·rw [AE ej] at q4
   by_cases hj:j<(n:Y)
   ·rw [AD hj] at q4;rw [AD A0];exact q4
   ·rw [AE hj] at q4;rw [AE A0];exact q4
def aze {d t t':Y}(hd:-200<=d/\d<=200) (h0:0<=t) (h1:t+13<=t') (h2:t'<=1000000):B8 t' d-B8 t d>=12:=by
 unfold B8;rw [AD QY,AD QY]
 have:(t+13)*(1000000+d)<=t'*(1000000+d):=Lh A0 A0
 have e:(t+13)*(1000000+d)=t*(1000000+d)+13*(1000000+d):=Zy _ _ _
 omega
def wJ {x:Le}(h:x.2.2.2.2=12):DF x=x.2.2.2.1+23:=by
 unfold DF;rw [h,show wt 12=13 by decide];omega
def WJ (vl:aVG) (dr:aVw) (t:Y):Y->Y->Y->Prop:=WL vl (λj u=>B8 u<|gi dr j) λj=>B8 t<|gi dr j
def aHi {vl:aVG}{dr:aVw}{t j a l:Y}(h:WJ vl dr t j a l) (hl:0<l) (hd:-200<=gi dr j/\gi dr j<=200) (ht:t<=1000000) (hv:∀x∈vl,0<=x.2.2.2.1):
  ∃x∈vl,x.2.1=j/\x.2.2.1=a/\l+B8 t (gi dr j)<=12+B8 (x.2.2.2.1+4) (gi dr j)/\t<=x.2.2.2.1+16:=by
 obtain ⟨x,h1,h2,h3,h4⟩:=h
 have h4:l+B8 t (gi dr j)<=12+B8 (x.2.2.2.1+4) (gi dr j):=h4
 refine ⟨x,h1,h2,h3,h4,xZ.1 λc=>?_⟩
 have:=aze (t:=x.2.2.2.1+4) (t':=t) hd (by have:=hv x h1;omega) A0 ht
 omega
def FL.vl {gs:aVA}{dr:aVw}{t j:Y}{vl vl':aVG}{s:St}(h:FL gs (WJ vl dr t) j s) (hd:-200<=gi dr j/\gi dr j<=200) (ht:t<=1000) (hT:∀x∈vl,0<=x.2.2.2.1/\DF x=x.2.2.2.1+23) (hk:∀y∈vl,DF y>t->y∈vl'):FL gs (WJ vl' dr t) j s:=
 h.le λa l hl hw=>by
  obtain ⟨x,h1,h2,h3,h4,h5⟩:=aHi hw hl hd A0 λx hx=>(hT x hx).1
  exact ⟨x,hk x h1 (by have:=(hT x h1).2;omega),h2,h3,h4⟩
def as3 {l:aVG}{x y:Le}{t:Y}(hv:B0 l=U) (ht:0<=t/\t<=1000) (hy:y∈l) (he:DF y>t):y∈LU l x t:=by
 unfold LU BW;rw [AD (by unfold Kz;rw [hv,BS.2 A0];rfl)]
 exact BZ.2<|.inl<|Cg.2 ⟨hy,CY he⟩
def as4 {l:aVG}{x:Le}{t:Y}:x∈LU l x t:=by unfold LU;simp
def SK (t:Y) (k0:aWa) (v0 xs:aVG) (s:SN):Prop:=
 ∃vl g,VI s.se s.fl vl g/\((∀y∈v0,DF y>t->y∈vl)/\∀y∈vl,y∈v0\/y∈xs)/\(∀y∈vl,DF y>t->y∈s.ls)/\(∀y∈s.ls,DF y>t->y∈vl)/\∀l∈s.lk,l∈k0\/(l.2∈vl/\DF l.2>t/\t<=l.1/\l.1<=l.2.2.2.2.1+4)
def SK.snd {t:Y}{k0:aWa}{v0 xs:aVG}{s:SN}(h:SK t k0 v0 xs s) (ht:0<=t/\t<=1000) {x:Le}(hm:x∈xs) (hf:x.2.2.2.1=t) (hx:x.2.2.2.2=12) (h0:0<=x.2.1):SK t k0 v0 xs (F8 t s x):=by
 unfold F8;split
 ·rename_i hc
  obtain ⟨vl,g,h1,⟨h2,h6⟩,h3,h4,h5⟩:=h;obtain ⟨vl',g',q1,q2,q3,q4⟩:=wT h1 hc.2
  have e:GM s.ls x=s.ls++[x]:=yn
  have hex:DF x>t:=by rw [wJ hx,hf];omega
  have old:∀y∈vl,DF y>t->y∈vl':=λy hy he=>by
   rcases q2 with e2|e2<;>rw [e2]
   ·exact BZ.2<|.inl hy
   ·exact as3 h1.lv ht hy he
  have new:x∈vl':=by
   rcases q2 with e2|e2<;>rw [e2]
   ·simp
   ·exact as4
  have sub:∀y∈vl',y∈vl\/y=x:=λy hy=>by
   have:y∈vl++[x]:=by
    exact aNC
   simpa using this
  refine ⟨vl',g',q1,⟨λy hy he=>old y (h2 y hy he) he,λy hy=>?_⟩,λy hy he=>?_,λy hy he=>?_,λl hl=>?_⟩
  ·rcases sub y hy with c|rfl
   ·exact h6 y c
   ·exact .inr hm
  ·show y∈GM s.ls x
   rw [e];rcases sub y hy with c|rfl
   ·exact BZ.2<|.inl<|h3 y c he
   ·simp
  ·have hy:y∈GM s.ls x:=hy
   rw [e] at hy;rcases BZ.1 hy with c|c
   ·exact old y (h4 y c he) he
   ·rw [HJ.1 c];exact new
  ·have hl:l∈s.lk++[U1 t x]:=hl
   rcases BZ.1 hl with c|c
   ·rcases h5 l c with q|⟨a1,a2,a3,a4⟩
    ·exact .inl q
    ·exact .inr ⟨old _ a1 a2,a2,a3,a4⟩
   ·rw [HJ.1 c]
    have hm:0<=(7*t+3*x.2.1).tmod 5/\(7*t+3*x.2.1).tmod 5<=4:=by rw [xU A0];omega
    exact .inr ⟨new,hex,by show t<=t+(7*t+3*x.2.1).tmod 5;omega,by show t+(7*t+3*x.2.1).tmod 5<=x.2.2.2.1+4;omega⟩
 ·exact h
def SK.EI {t:Y}{k0:aWa}{v0:aVG}{s:SN}{xs:aVG}(h:SK t k0 v0 xs s) (ht:0<=t/\t<=1000) (hx:∀k:aVx,k<M xs->(Ao xs k).2.2.2.1=t/\(Ao xs k).2.2.2.2=12/\0<=(Ao xs k).2.1):∀n,n<=M xs->SK t k0 v0 xs (EI t xs s n)
 |0,_=>h
 |n+1,hn=>by
  obtain ⟨h1,h2,h3⟩:=hx n A0;exact (h.EI ht hx n A0).snd ht (Lt A0 A0) h1 h2 h3
variable {p : PK}
def TG.vl (g:TG p):∃k,VI p.se p.fl (Ai p.se p.fl) k/\∀x∈Ai p.se p.fl,x.1<p.nx/\TL (M p.gs) p.tk x:=by
 obtain ⟨vl,k,h1,h2⟩:=g.sg.vl
 have e:Ai p.se p.fl=vl:=h1.ld.2
 rw [e];exact ⟨k,h1,h2⟩
def TG.v23 (g:TG p):∀x∈Ai p.se p.fl,0<=x.2.2.2.1/\DF x=x.2.2.2.1+23:=λx hx=>by
 obtain ⟨k,h1,h2⟩:=g.vl;exact ⟨(KY.1<|(GK h1.lv).2 x hx).2.2.2.1.1,wJ (h2 x hx).2.2.1⟩
structure LX (p:PK):Prop where
 up:p.up=U->(∀y∈Ai p.se p.fl,DF y>p.tk->y∈p.ls)/\∀y∈p.ls,DF y>p.tk->y∈Ai p.se p.fl
 dn:p.up=X->p.ls=[]
 st:Bn p.gs (FL p.gs (WJ (Ai p.se p.fl) p.dr p.tk)) p.st
 lk:∀l∈p.lk,l.2∈Ai p.se p.fl/\p.tk<=l.1/\l.1<=l.2.2.2.2.1+4
def LX.dec (h:LX p) (g:TG p) (hJ:JP p) (ht:p.tk<=1000):(p.up=U->(∀y∈Ai p.AK.se p.AK.fl,DF y>p.tk->y∈p.AK.ls)/\∀y∈p.AK.ls,DF y>p.tk->y∈Ai p.AK.se p.AK.fl)/\(p.up=X->p.AK.ls=[])/\
  ((∀y∈Ai p.se p.fl,DF y>p.tk->y∈Ai p.AK.se p.AK.fl)/\∀y∈Ai p.AK.se p.AK.fl,y∈Ai p.se p.fl\/(p.up=U/\p.dE=0/\y∈p.dL))/\∀l∈p.AK.lk,l.2∈Ai p.AK.se p.AK.fl/\p.tk<=l.1/\l.1<=l.2.2.2.2.1+4:=by
 have htk:=hJ.1.1.tk
 have hx:=iA hJ
 unfold PK.AK;split
 ·rename_i hu
  exact ⟨λc=>yh,h.dn,⟨λy hy _=>hy,λy hy=> .inl hy⟩,h.lk⟩
 rename_i hu
 have hu:p.up=true:=by simpa using hu
 obtain ⟨u1,u2⟩:=h.up hu
 have x1:∀y,DF y>p.tk->(y∈Dt p.ls p.tk↔y∈p.ls):=λy he=>by
  rw [hx,Cg];exact ⟨λc=>c.1,λc=>⟨c,CY he⟩⟩
 split
 ·exact ⟨λ_=>⟨λy hy he=>(x1 y he).2<|u1 y hy he,λy hy he=>u2 y ((x1 y he).1 hy) he⟩,λc=>yh,⟨λy hy _=>hy,λy hy=> .inl hy⟩,h.lk⟩
 ·rename_i hd
  obtain ⟨V,M,hl⟩:=jP<|Zq.1 hd;obtain ⟨k,v1,v2⟩:=g.vl
  have v3:=g.v23
  have s0:SK p.tk p.lk (Ai p.se p.fl) p.dL p.H9:=⟨_,k,v1,⟨λy hy _=>hy,λy hy=> .inl hy⟩,λy hy he=>(x1 y he).2<|u1 y hy he,λy hy he=>u2 y ((x1 y he).1 hy) he,λl hl=> .inl hl⟩
  obtain ⟨vl,k',w1,⟨w2,w6⟩,w3,w4,w5⟩:=s0.EI (xs:=p.dL) ⟨htk.1,ht⟩ (λi hi=>by
   have q:=M.at_ i A0 A0
   rw [q.1];exact ⟨rfl,rfl,q.2.1.1⟩) _<|Aq _
  have e:Ai p.sn1.se p.sn1.fl=vl:=w1.ld.2
  have w3:∀y∈vl,DF y>p.tk->y∈p.sn1.ls:=w3
  have w4:∀y∈p.sn1.ls,DF y>p.tk->y∈vl:=w4
  simp only [e];refine ⟨λ_=>⟨w3,w4⟩,λc=>yh,⟨w2,λy hy=>(w6 y hy).imp id λc=>⟨hu,Zq.1 hd,c⟩⟩,λl hl=>?_⟩
  rcases w5 l hl with q|⟨a1,a2,a3,a4⟩
  ·obtain ⟨b1,b2,b3⟩:=h.lk l q
   exact ⟨w2 _ b1 (by have:=(v3 _ b1).2;omega),b2,b3⟩
  ·exact ⟨a1,a3,a4⟩
end Go.Proofs.YtjdlmobanmhohaaGreatDoor
end
