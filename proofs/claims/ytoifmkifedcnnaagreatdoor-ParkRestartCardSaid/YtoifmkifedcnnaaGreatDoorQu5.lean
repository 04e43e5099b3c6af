/- Helpers for ParkRestart. Conditions: none. -/
import Derived.Test.YtoifmkifedcnnaaGreatDoorQu4
set_option linter.defProp false
set_option linter.unusedVariables false
set_option linter.unusedSimpArgs false
noncomputable section
open List renaming length→M,length→aa,replicate→aq,range→au
open Bool renaming true→U,true→ae,false→X,false→af
open Go.Value renaming int→ag
open Option renaming some→ah,none→aj
open Go.IntKind renaming i64→J,i64→ai,u8→aw,u32→ax
open True renaming intro→ak
open Decidable renaming decide→an
open ByteArray renaming mk→av
open Go.Region renaming ready→ay,wanted→az
open Go.Instr renaming findNow→aA
namespace Go.Proofs.YtoifmkifedcnnaaGreatDoor
set_option maxRecDepth 100000
set_option maxHeartbeats 4000000
open Go.Proofs.Tryz
open Go.Sx
def agF (s:Kq):((Ep prog AV fu aVA G9).k 52 (Ui s)<|Yo s).bind (λq=>GM (M<|Yo s) [0] [] .normal (q.1::Ui s) q.2)=(zu s).mp (λs2=>⟨.normal,M (Ui s)+1,[acN s2],ace s2,U⟩):=AU
def axf (s:Kq) (hE:aCg s):(zu s).all (λq=>q=ij s):=by
 obtain ⟨h0,h1,h2⟩:=hE;refine ⟨A0,A0,A0,λc=>?_,λc=>?_⟩
 ·have c:=eq_of_beq c
  have hg:CY s.p.gs s.p.st s.i s.k0 s.k1 s.k2=_:=AD c
  repeat (refine ⟨A8,?_⟩)
  unfold ij;rw [hg];rfl
 ·have c:=CQ.1 c
  have hg:CY s.p.gs s.p.st s.i s.k0 s.k1 s.k2=s.p.st:=AE c
  repeat (refine ⟨AI,?_⟩)
  unfold ij;rw [hg];rfl
def ajO:Dj prog AV 52 aCl.m:=D8.sound (D:=aCl) (t:=zu) (gk fu) aqK QR agF λs hE=>⟨axf s hE⟩
structure O5 where
 p:PK
 ev:EW
def Ub (s:O5):aWf:=[.own 16 0]
def ZD (s:O5):aWi:=[AP,AP,zB,AP,bV 79 Af s.p.cs,bV 65 AQ s.p.ls,bV 5 (.int aw) s.p.fl,bV 139 Ap s.p.ra,bV 107 B7 s.p.st,bV 57 AQ s.p.ca,bV 123 B9 s.p.mi,bV 110 BS s.p.me,bV 59 Aw s.p.dm,bV 68 BP s.p.lk,bV 3 A7 s.p.dr,bV 3 A7 s.p.tg,⟨[.os 4 11 0<|M s.p.cs,.xl .str s.p.os,.xl Al s.p.ks,.xl Ah s.p.gs,.xl Am s.p.bs,.v<|ag J s.p.tk,.v<|.bool s.p.up,.os 5 5 0<|M s.p.ls,.v<|ag J s.p.se,.os 6 1 0<|M s.p.fl,.os 7 2 0<|M s.p.ra,.v<|ag J s.p.nx,.os 8 4 0<|M s.p.st,.os 9 5 0<|M s.p.ca,.os 10 3 0<|M s.p.mi,.os 11 3 0<|M s.p.me,.os 12 4 0<|M s.p.dm,.os 13 6 0<|M s.p.lk,.os 14 1 0<|M s.p.dr,.os 15 1 0<|M s.p.tg,.v<|ag J s.ev.ek,.v<|ag J s.ev.en,.v<|ag J s.ev.em,.v<|ag J s.ev.c1,.v<|ag J s.ev.c2,.v<|ag J s.ev.c3,.v<|ag J s.ev.c4,.v<|ag J s.ev.c5,.v<|.bool s.ev.d1,.v<|ag J s.ev.d2,.v<|ag J s.ev.d3,.v<|ag J s.ev.d4,.v<|.slice aj 0 0],97,.cl,X⟩]
structure YT where
 res:Y
 p:PK
 ev:EW
def acF (s:YT):LV:=.v<|ag J s.res
def abZ (s:YT):aWi:=[AP,AP,zB,AP,bV 79 Af s.p.cs,bV 65 AQ s.p.ls,bV 5 (.int aw) s.p.fl,bV 139 Ap s.p.ra,bV 107 B7 s.p.st,bV 57 AQ s.p.ca,bV 123 B9 s.p.mi,bV 110 BS s.p.me,bV 59 Aw s.p.dm,bV 68 BP s.p.lk,bV 3 A7 s.p.dr,bV 3 A7 s.p.tg,⟨[.os 4 11 0<|M s.p.cs,.xl .str s.p.os,.xl Al s.p.ks,.xl Ah s.p.gs,.xl Am s.p.bs,.v<|ag J s.p.tk,.v<|.bool s.p.up,.os 5 5 0<|M s.p.ls,.v<|ag J s.p.se,.os 6 1 0<|M s.p.fl,.os 7 2 0<|M s.p.ra,.v<|ag J s.p.nx,.os 8 4 0<|M s.p.st,.os 9 5 0<|M s.p.ca,.os 10 3 0<|M s.p.mi,.os 11 3 0<|M s.p.me,.os 12 4 0<|M s.p.dm,.os 13 6 0<|M s.p.lk,.os 14 1 0<|M s.p.dr,.os 15 1 0<|M s.p.tg,.v<|ag J s.ev.ek,.v<|ag J s.ev.en,.v<|ag J s.ev.em,.v<|ag J s.ev.c1,.v<|ag J s.ev.c2,.v<|ag J s.ev.c3,.v<|ag J s.ev.c4,.v<|ag J s.ev.c5,.v<|.bool s.ev.d1,.v<|ag J s.ev.d2,.v<|ag J s.ev.d3,.v<|ag J s.ev.d4,.v<|.slice aj 0 0],97,.cl,X⟩]
def iI (s:O5):T YT:=letI c:=(s.p.mi.set s.ev.en.toNat (([]:aWd),((0:Y),(0:Y))));letI f:=(CY s.p.gs s.p.st s.ev.en (1:Y) (0:Y) (0:Y));letI g:=(s.ev.c1,(s.ev.c2,(s.ev.c3,(s.ev.c4,s.ev.c5))));letI i:=(s.ev.d1,(s.ev.d2,(s.ev.d3,s.ev.d4)));letI j:=M s.p.ca;letI a:=s.p.ca.set s.ev.en.toNat g;letI b:=s.p.dm.set s.ev.en.toNat i;letI d:=(CY s.p.gs f s.ev.en (3:Y) (0:Y) (0:Y));letI e:=(CY s.p.gs d s.ev.en (4:Y) (1:Y) (0:Y));letI h:=(CY s.p.gs e s.ev.en (5:Y) (0:Y) (0:Y));.br (!(inB s.ev.en (0:Y)<|AA<|(M s.p.gs:Y)-1)) (.pc s.p<|.ok<|⟨1,s.p,s.ev⟩)<|.br ((S7 (s.ev.c1,s.ev.c2,s.ev.c3,s.ev.c4,s.ev.c5)) !=0) (.pc s.p<|.ok<|⟨1,s.p,s.ev⟩)<|.br (!((inB s.ev.d2 (0:Y) (1000000000:Y))&&((inB s.ev.d3 (0:Y) (1000000:Y))&&(inB s.ev.d4 (1:Y) (9:Y))))) (.pc s.p<|.ok<|⟨1,s.p,s.ev⟩)<|.ik s.ev.en j<|.br ((s.p.ca.getD s.ev.en.toNat<|Ty.dflt AQ).2.2.1 !=0) (.pc s.p<|.ok<|⟨6,s.p,s.ev⟩)<|.ik s.ev.en (M s.p.st)<|.br ((s.p.st.getD s.ev.en.toNat<|Ty.dflt B7).1 !=0) (.pc s.p<|.ok<|⟨6,s.p,s.ev⟩)<|.ik s.ev.en j<|.ik s.ev.en (M s.p.mi)<|.ik s.ev.en (M s.p.dm)<|.pa s.p<|.rl s.p.st<|.re j a<|.re (M s.p.mi) c<|.rl s.p.me<|.re (M s.p.dm) b<|.rl s.p.lk<|.rl s.p.dr<|.rl s.p.tg<|.req (gZ (⟨s.ev.en,1,0,0,{s.p with ca:=s.p.ca.set s.ev.en.toNat g,mi:=s.p.mi.set s.ev.en.toNat (([]:aWd),((0:Y),(0:Y))),dm:=s.p.dm.set s.ev.en.toNat i},s.ev⟩:Kq))<|.pa s.p<|.rl f<|.rl a<|.rl c<|.rl s.p.me<|.rl b<|.rl s.p.lk<|.rl s.p.dr<|.rl s.p.tg<|.req (gZ (⟨s.ev.en,3,0,0,{s.p with st:=f,ca:=a,mi:=c,dm:=b},s.ev⟩:Kq))<|.pa s.p<|.rl d<|.rl a<|.rl c<|.rl s.p.me<|.rl b<|.rl s.p.lk<|.rl s.p.dr<|.rl s.p.tg<|.req (gZ (⟨s.ev.en,4,1,0,{s.p with st:=d,ca:=a,mi:=c,dm:=b},s.ev⟩:Kq))<|.pa s.p<|.rl e<|.rl a<|.rl c<|.rl s.p.me<|.rl b<|.rl s.p.lk<|.rl s.p.dr<|.rl s.p.tg<|.req (gZ (⟨s.ev.en,5,0,0,{s.p with st:=e,ca:=a,mi:=c,dm:=b},s.ev⟩:Kq))<|.pa s.p<|.rl h<|.rl a<|.rl c<|.rl s.p.me<|.rl b<|.rl s.p.lk<|.rl s.p.dr<|.rl s.p.tg<|.ok<|⟨0,{s.p with st:=h,ca:=a,mi:=c,dm:=b},s.ev⟩
def aQv {c:Ca}:S7 c=0↔GW c=true:=by
 unfold S7
 grind
def aCY (s:O5):Prop:=M s.p.st=M s.p.gs/\M s.p.gs<=1000/\M s.p.ca=M s.p.gs/\M s.p.mi=M s.p.gs/\M s.p.dm=M s.p.gs
def Qq (s:O5):YT:=⟨PK.GI s.p s.ev.en (EW.c s.ev)<|EW.d s.ev,JW (PK.GI s.p s.ev.en (EW.c s.ev)<|EW.d s.ev) (PK.Nm s.p s.ev.en (EW.c s.ev)<|EW.d s.ev) s.p,s.ev⟩
def aCJ:D8 O5 YT:=⟨Ub,ZD,λv b=>⟨rF b,rG b⟩,aCY,[0,1,3],[],acF,abZ,Qq⟩
abbrev ak1 (s:O5):Prop:=aCY s/\Ub s=Ub s/\ZD s=ZD s
def Wx:aWp:=[Tt,awt]
def aTN:B1:=IH Wx (la 2 func53 KV<|la 9 func30 Cu<|l0 Wx) [⟨52,aCl.m,ajO⟩]
def aV3:DS:=CV 53 18 2 (Kr.lp)<|CV 30 0 9 (Gu.lp)<|E5 prog AV Wx 20 2
def aqS:Eb prog AV aV3:=DM func53 rfl AU KV<|DM func30 rfl AU Cu<|Hv<|gk Wx
def ag6 (s:O5):((Ep prog AV Wx aV3 aTN).k 23 (Ub s)<|ZD s).bind (λq=>GM (M<|ZD s) [0] [] .normal (q.1::Ub s) q.2)=(iI s).mp (λs2=>⟨.normal,M (Ub s)+1,[acF s2],abZ s2,U⟩):=AU
def axU (s:O5) (hE:aCY s):(iI s).all (λq=>q=Qq s):=by
 obtain ⟨h1,h2,h3,h4,h5⟩:=hE;unfold iI;rw [fP h2];refine ⟨λc=>?_,λc=>?_⟩
 ·have c:s.p.isC s.ev.en=false:=QH
  have he:s.p.GI s.ev.en s.ev.c s.ev.d=1:=AD c
  repeat (refine ⟨MD,?_⟩)
  show _=_
  unfold Qq;rw [Jn MC];rw [he]
 have c:s.p.isC s.ev.en=true:=QH
 have ci:=BV.1 c
 have ci2:s.ev.en<(M s.p.gs:Y):=A0
 have hc:¬s.p.isC s.ev.en=false:=VY
 have bad:(!GW s.ev.c || !Hf s.ev.d)=U->s.p.GI s.ev.en s.ev.c s.ev.d=1:=λh=>by unfold PK.GI;rw [AE hc,AD h]
 refine ⟨λc1=>?_,λc1=>⟨λc2=>?_,λc2=>?_⟩⟩
 ·have c1:¬S7 s.ev.c=0:=Dv.1 c1
  have c1:GW s.ev.c=false:=by rw [aQv] at c1;simpa using c1
  have he:=bad (by rw [c1];rfl)
  repeat (refine ⟨MD,?_⟩)
  show _=_
  unfold Qq;rw [Jn MC];rw [he]
 ·have c2:(!Hf s.ev.d)=true:=c2
  have he:=bad<|by rw [c2,Sb]
  repeat (refine ⟨MD,?_⟩)
  show _=_
  unfold Qq;rw [Jn MC];rw [he]
 have c1:GW s.ev.c=true:=aQv.1 (Zf λh=>by rw [show (S7 (s.ev.c1,s.ev.c2,s.ev.c3,s.ev.c4,s.ev.c5) !=0)=U from Dv.2 h] at c1;cases c1)
 have c2:(!Hf s.ev.d)=false:=c2
 have hb:¬(!GW s.ev.c || !Hf s.ev.d)=true:=by rw [c1,c2];decide
 have six:((Be s.p.ca s.ev.en).2.2.1 !=0 ||(BW s.p.st s.ev.en).1 !=0)=U->s.p.GI s.ev.en s.ev.c s.ev.d=6:=λh=>by unfold PK.GI;rw [AE hc,AE hb,AD h]
 repeat (refine ⟨MD,?_⟩)
 refine ⟨λc3=>?_,λc3=>?_⟩
 ·have c3:((Be s.p.ca s.ev.en).2.2.1 !=0)=true:=c3
  have he:=six (by rw [c3];rfl)
  repeat (refine ⟨MD,?_⟩)
  show _=_
  unfold Qq;rw [Jn MC];rw [he]
 repeat (refine ⟨MD,?_⟩)
 refine ⟨λc4=>?_,λc4=>?_⟩
 ·have c4:((BW s.p.st s.ev.en).1 !=0)=true:=c4
  have he:=six<|by rw [c4,Sb]
  repeat (refine ⟨MD,?_⟩)
  show _=_
  unfold Qq;rw [Jn MC];rw [he]
 have c3:((Be s.p.ca s.ev.en).2.2.1 !=0)=false:=c3
 have c4:((BW s.p.st s.ev.en).1 !=0)=false:=c4
 have he:s.p.GI s.ev.en s.ev.c s.ev.d=0:=by unfold PK.GI;rw [AE hc,AE hb,c3,c4];rfl
 have hg:∀(l:aWE) (k n m:Y),M l=M s.p.gs->M (CY s.p.gs l s.ev.en k n m)=M s.p.gs:=λl k n m h=>by rw [J7];exact h
 repeat (refine ⟨MD,?_⟩)
 refine ⟨⟨⟨ci.1,ci2,h1⟩,rfl,rfl⟩,?_⟩
 repeat (refine ⟨MD,?_⟩)
 refine ⟨⟨⟨ci.1,ci2,hg _ _ _ _ h1⟩,rfl,rfl⟩,?_⟩
 repeat (refine ⟨MD,?_⟩)
 refine ⟨⟨⟨ci.1,ci2,hg _ _ _ _<|hg _ _ _ _ h1⟩,rfl,rfl⟩,?_⟩
 repeat (refine ⟨MD,?_⟩)
 refine ⟨⟨⟨ci.1,ci2,hg _ _ _ _<|hg _ _ _ _<|hg _ _ _ _ h1⟩,rfl,rfl⟩,?_⟩
 repeat (refine ⟨AI,?_⟩)
 show _=_
 unfold Qq;rw [LW he];rw [he];rfl
def ajI:Dj prog AV 23 aCJ.m:=D8.sound (D:=aCJ) (t:=iI) (gk Wx) aqS aTN.h ag6 λs hE=>⟨axU s hE⟩
structure PS where
 (n i:Y)
 p:PK
 ev:EW
 Bf:aWg
 C4:aWr
 BQ:aWh
 C5:aWs
 o:aWl
def aA8 (s:PS):T (Rd PS):=letI b:=s.o.getD s.i.toNat<|Ty.dflt Af;letI a:=(s.o.set s.i.toNat (b.1,(b.2.1,((s.p.tg.getD s.i.toNat<|Ty.dflt A7),b.2.2.2))));.br (an<|s.i<s.n) (.ik s.i (M s.p.tg)<|.ik s.i (M s.o)<|.rl s.p.tg<|.pc s.p<|.re (M s.o) a<|.nx {s with i:=AA<|s.i+1,o:=a})<|.rl s.p.tg<|.pc s.p<|.rl s.o<|.so (.exit 0) s
def kV (s:PS):Prop:=s.i=0/\s.n=(M s.p.tg:Y)/\M s.p.tg=M s.p.cs/\s.n<=1000/\s.o=E0 s.p.cs s.p.tg s.i.toNat
def ZK (s:PS):Prop:=(0<=s.i/\s.i<=s.n)/\s.n=(M s.p.tg:Y)/\M s.p.tg=M s.p.cs/\s.n<=1000/\s.o=E0 s.p.cs s.p.tg s.i.toNat
def vD (s:PS):aWe:=(s.n-s.i).toNat
def aBi (x:Ex) (s s':PS):Prop:=x=.exit 0/\s'.o=E0 s'.p.cs s'.p.tg (M s'.p.tg)
def anP:∀s,kV s->ZK s:=by
 exact aO0
def ajC:Da ZK vD aBi aA8:=by
 intro s hI;obtain ⟨⟨h0,h1⟩,h2,h3,h4,h5⟩:=hI
 have hl:M s.o=M s.p.cs:=mg
 refine AH (λc1=>?_) λc1=>?_
 ·have c1:s.i<s.n:=A8
  rw [AJ (x:=s.i+1)];refine ⟨⟨⟨A8,A8⟩,h2,h3,h4,?_⟩,by simp only [vD];omega⟩
  exact aMb
 ·have c1:s.n<=s.i:=A8
  refine ⟨rfl,?_⟩
  grind
def UT:AS PS:=⟨17,34,[2,3,19,20,21],[],λs=>[.own 17 0,.own 18 0,.os 15 1 0<|M s.p.tg,s.n,s.i],λs=>[AP,AP,zB,AP,bV 79 Af s.p.cs,bV 65 AQ s.p.ls,bV 5 (.int aw) s.p.fl,bV 139 Ap s.p.ra,bV 107 B7 s.p.st,bV 57 AQ s.p.ca,bV 123 B9 s.p.mi,bV 110 BS s.p.me,bV 59 Aw s.p.dm,bV 68 BP s.p.lk,bV 3 A7 s.p.dr,bV 3 A7 s.p.tg,⟨[.os 4 11 0<|M s.p.cs,.xl .str s.p.os,.xl Al s.p.ks,.xl Ah s.p.gs,.xl Am s.p.bs,.v<|ag J s.p.tk,.v<|.bool s.p.up,.os 5 5 0<|M s.p.ls,.v<|ag J s.p.se,.os 6 1 0<|M s.p.fl,.os 7 2 0<|M s.p.ra,.v<|ag J s.p.nx,.os 8 4 0<|M s.p.st,.os 9 5 0<|M s.p.ca,.os 10 3 0<|M s.p.mi,.os 11 3 0<|M s.p.me,.os 12 4 0<|M s.p.dm,.os 13 6 0<|M s.p.lk,.os 14 1 0<|M s.p.dr,.os 15 1 0<|M s.p.tg,.v<|ag J s.ev.ek,.v<|ag J s.ev.en,.v<|ag J s.ev.em,.v<|ag J s.ev.c1,.v<|ag J s.ev.c2,.v<|ag J s.ev.c3,.v<|ag J s.ev.c4,.v<|ag J s.ev.c5,.v<|.bool s.ev.d1,.v<|ag J s.ev.d2,.v<|ag J s.ev.d3,.v<|ag J s.ev.d4,.v<|.slice aj 0 0],97,.cl,X⟩,⟨[.v<|.slice aj 0 0,.v<|.slice aj 0 0,.v<|.slice aj 0 0,.v<|.slice aj 0 0,.v<|.slice aj 0 0],28,.cl,X⟩,⟨[.os 19 11 0<|M s.o,s.Bf,s.C4,s.BQ,s.C5],28,.cl,X⟩,bV 79 Af s.o],λv b=>⟨AK v 3,AK v 4,rF b,rG b,AF .str b 18 1,AF Al b 18 2,AF Ah b 18 3,AF Am b 18 4,Ac Af b 19⟩,aA8,λs r=> {s with i:=r.i,o:=r.o},λs=>s,λ_ s=>s,[.exit 0],kV,ZK,vD⟩
abbrev cx:=UT.run
abbrev aud:=UT.As
def P1:aWp:=[fg,Tt]
def ahC:B1:=kI P1<|la 2 func53 KV<|la 9 func30 Cu<|l0 P1
def azC:Rq ZK aA8:=by
 intro s hI;refine ⟨λc1=>⟨?_,?_,?_,?_,A9,A9,A9,A9,A9,A9,A9,A9,A9,A9,A9,A9,A9,?_,ak⟩,λc1=>⟨A9,A9,A9,A9,A9,A9,A9,A9,A9,A9,A9,A9,A9,A9,ak⟩⟩
 all_goals ((obtain ⟨⟨h0,h1⟩,h2,h3,h4,h5⟩:=hI;have hl:M s.o=M s.p.cs:=mg;(try simp only [Aa] at c1);first|omega|exact ⟨rfl,rfl⟩ |exact ⟨rfl,AI⟩))
def aS6:UT.Ok:={}
def aRg:UT.Pf (aBi):=⟨anP,λs h=>rfl,ajC,azC⟩
def aID:=s2 (b:=bN f56 0) aS6 aRg P1 ahC
def aw4:Fi kV ZK aBi aud cx:=AS.fin aS6 aRg
structure Mk where
 p:PK
 ev:EW
def Uf (s:Mk):aWf:=[.own 16 0]
def ZH (s:Mk):aWi:=[AP,AP,zB,AP,bV 79 Af s.p.cs,bV 65 AQ s.p.ls,bV 5 (.int aw) s.p.fl,bV 139 Ap s.p.ra,bV 107 B7 s.p.st,bV 57 AQ s.p.ca,bV 123 B9 s.p.mi,bV 110 BS s.p.me,bV 59 Aw s.p.dm,bV 68 BP s.p.lk,bV 3 A7 s.p.dr,bV 3 A7 s.p.tg,⟨[.os 4 11 0<|M s.p.cs,.xl .str s.p.os,.xl Al s.p.ks,.xl Ah s.p.gs,.xl Am s.p.bs,.v<|ag J s.p.tk,.v<|.bool s.p.up,.os 5 5 0<|M s.p.ls,.v<|ag J s.p.se,.os 6 1 0<|M s.p.fl,.os 7 2 0<|M s.p.ra,.v<|ag J s.p.nx,.os 8 4 0<|M s.p.st,.os 9 5 0<|M s.p.ca,.os 10 3 0<|M s.p.mi,.os 11 3 0<|M s.p.me,.os 12 4 0<|M s.p.dm,.os 13 6 0<|M s.p.lk,.os 14 1 0<|M s.p.dr,.os 15 1 0<|M s.p.tg,.v<|ag J s.ev.ek,.v<|ag J s.ev.en,.v<|ag J s.ev.em,.v<|ag J s.ev.c1,.v<|ag J s.ev.c2,.v<|ag J s.ev.c3,.v<|ag J s.ev.c4,.v<|ag J s.ev.c5,.v<|.bool s.ev.d1,.v<|ag J s.ev.d2,.v<|ag J s.ev.d3,.v<|ag J s.ev.d4,.v<|.slice aj 0 0],97,.cl,X⟩]
def Sv (s:Mk):PS:=(⟨((M s.p.tg:aWe):Y),0,{s.p with tg:=s.p.tg.set s.ev.en.toNat s.ev.em},s.ev,s.p.os,s.p.ks,s.p.gs,s.p.bs,BI ((s.p.cs.drop 0).take<|M s.p.cs)<|aq ((M s.p.cs:aWe):Y).toNat (ByteArray.empty,((0:Y),((0:Y),((0:Y),(((0:Y),(0:Y)),((0:Y),((0:Y),((0:Y),((0:Y),(0:Y))))))))))⟩:PS)
structure YX where
 res:Y
 p:PK
 ev:EW
def acJ (s:YX):LV:=.v<|ag J s.res
def abf (s:YX):aWi:=[AP,AP,zB,AP,bV 79 Af s.p.cs,bV 65 AQ s.p.ls,bV 5 (.int aw) s.p.fl,bV 139 Ap s.p.ra,bV 107 B7 s.p.st,bV 57 AQ s.p.ca,bV 123 B9 s.p.mi,bV 110 BS s.p.me,bV 59 Aw s.p.dm,bV 68 BP s.p.lk,bV 3 A7 s.p.dr,bV 3 A7 s.p.tg,⟨[.os 4 11 0<|M s.p.cs,.xl .str s.p.os,.xl Al s.p.ks,.xl Ah s.p.gs,.xl Am s.p.bs,.v<|ag J s.p.tk,.v<|.bool s.p.up,.os 5 5 0<|M s.p.ls,.v<|ag J s.p.se,.os 6 1 0<|M s.p.fl,.os 7 2 0<|M s.p.ra,.v<|ag J s.p.nx,.os 8 4 0<|M s.p.st,.os 9 5 0<|M s.p.ca,.os 10 3 0<|M s.p.mi,.os 11 3 0<|M s.p.me,.os 12 4 0<|M s.p.dm,.os 13 6 0<|M s.p.lk,.os 14 1 0<|M s.p.dr,.os 15 1 0<|M s.p.tg,.v<|ag J s.ev.ek,.v<|ag J s.ev.en,.v<|ag J s.ev.em,.v<|ag J s.ev.c1,.v<|ag J s.ev.c2,.v<|ag J s.ev.c3,.v<|ag J s.ev.c4,.v<|ag J s.ev.c5,.v<|.bool s.ev.d1,.v<|ag J s.ev.d2,.v<|ag J s.ev.d3,.v<|ag J s.ev.d4,.v<|.slice aj 0 0],97,.cl,X⟩]
def im (s:Mk):T YX:=letI a:=s.p.tg.set s.ev.en.toNat s.ev.em;letI b:=(ByteArray.empty,((0:Y),((0:Y),((0:Y),(((0:Y),(0:Y)),((0:Y),((0:Y),((0:Y),((0:Y),(0:Y))))))))));letI c:=((M s.p.cs:aWe):Y);letI d:=((cx<|Sv s).o.drop 0).take<|M (cx<|Sv s).o;letI e:=(s.p.cs.drop 0).take<|M s.p.cs;letI f:=M s.p.tg;.br (!(inB s.ev.en (0:Y)<|AA<|c-1)) (.pc s.p<|.ok<|⟨1,s.p,s.ev⟩)<|.ik s.ev.en (M s.p.cs)<|.br (!(inB s.ev.em (1:Y) (s.p.cs.getD s.ev.en.toNat<|Ty.dflt Af).2.2.1)) (.pc s.p<|.ok<|⟨1,s.p,s.ev⟩)<|.ik s.ev.en f<|.rm 96 c<|.rz s.p.cs<|.rc c b (M e)<|.re f a<|.pa s.p<|.rl s.p.st<|.rl s.p.ca<|.rl s.p.mi<|.rl s.p.me<|.rl s.p.dm<|.rl s.p.lk<|.rl s.p.dr<|.re f a<|.re c.toNat (BI e<|aq c.toNat b)<|.req (UT.q<|Sv s)<|.rz (cx<|Sv s).o<|.req (BH d s.p.os s.p.ks s.p.gs s.p.bs=U)<|.br (!E9 d s.p.gs (Bv s.p.gs)) (.pa s.p<|.rl s.p.st<|.rl s.p.ca<|.rl s.p.mi<|.rl s.p.me<|.rl s.p.dm<|.rl s.p.lk<|.rl s.p.dr<|.rl a<|.ok<|⟨13,{s.p with tg:=a},s.ev⟩)<|.pa s.p<|.rl s.p.st<|.rl s.p.ca<|.rl s.p.mi<|.rl s.p.me<|.rl s.p.dm<|.rl s.p.lk<|.rl s.p.dr<|.rl a<|.ok<|⟨0,{s.p with tg:=a},s.ev⟩
def VP.der {p:PK}(h:VP p) {n m:Y}(hn:inB n 0 ((M p.cs:Y)-1)=U) (hm:inB m 1 (Ae p.cs n).2.2.1=U):BH (p.L2 n m).EP p.os p.ks p.gs p.bs=U/\M (p.L2 n m).tg=M p.cs:=by
 have hn:=BV.1 hn
 have hm:=BV.1 hm
 have hl:M (p.L2 n m).tg=M p.cs:=by show M (p.tg.set n.toNat m)=_;rw [C3];exact h.FE
 have hk:=gR h.site (k:=n.toNat) A0
 rw [CP hn.1] at hk;refine ⟨pF h.site (λk hk2=>?_) _ A0,hl⟩
 show 1<=gi (p.tg.set n.toNat m) k/\gi (p.tg.set n.toNat m) k<=1000
 rw [J9 hn.1 (by have:=h.FE;omega) A0]
 split
 ·omega
 ·exact h.tg1 k hk2
def aCd (s:Mk):Prop:=VP s.p
def Tq (s:Mk):YX:=⟨PK.I4 s.p s.ev.en s.ev.em,{s.p with tg:=if PK.I4 s.p s.ev.en s.ev.em=1 then s.p.tg else s.p.tg.set s.ev.en.toNat s.ev.em},s.ev⟩
def aCj:D8 Mk YX:=⟨Uf,ZH,λv b=>⟨rF b,rG b⟩,aCd,[0,1,3],[],acJ,abf,Tq⟩
abbrev ak5 (s:Mk):Prop:=aCd s/\Uf s=Uf s/\ZH s=ZH s
def aTM:B1:=kI P1<|la 4 func56 aID<|la 2 func53 KV<|la 9 func30 Cu<|l0 P1
def aV7:DS:=CV 56 17 4 (UT.lp)<|CV 53 18 2 (Kr.lp)<|CV 30 0 9 (Gu.lp)<|E5 prog AV P1 20 2
def aqH:Eb prog AV aV7:=DM func56 rfl AU aID<|DM func53 rfl AU KV<|DM func30 rfl AU Cu<|Hv<|gk P1
def agA (s:Mk):((Ep prog AV P1 aV7 aTM).k 29 (Uf s)<|ZH s).bind (λq=>GM (M<|ZH s) [0] [] .normal (q.1::Uf s) q.2)=(im s).mp (λs2=>⟨.normal,M (Uf s)+1,[acJ s2],abf s2,U⟩):=AU
def axc (s:Mk) (hE:aCd s):(im s).all (λq=>q=Tq s):=by
 have hs:=DK.1 hE.site
 have ht:=hE.FE
 have hw:AA (((M s.p.cs:aWe):Y)-1)=(M s.p.cs:Y)-1:=AJ
 unfold im;rw [hw];simp only [TN,Qh]
 have one:(!inB s.ev.en 0 ((M s.p.cs:Y)-1) || !inB s.ev.em 1 (Ae s.p.cs s.ev.en).2.2.1)=U->s.p.I4 s.ev.en s.ev.em=1:=λh=>AD h
 refine ⟨λc=>?_,λc=>?_⟩
 ·have he:=one (by rw [c];rfl)
  repeat (refine ⟨AI,?_⟩)
  show _=_
  unfold Tq;rw [AD he,he]
 have cn:inB s.ev.en 0 ((M s.p.cs:Y)-1)=true:=Ir
 have ci:=BV.1 cn
 have hcd:s.p.cs.getD s.ev.en.toNat (Ty.dflt Af)=Ae s.p.cs s.ev.en:=by
  rw [DJ,Dg A0]
  have:=Qj (cs:=s.p.cs) (k:=s.ev.en.toNat) A0
  rw [CP ci.1] at this;rw [this];rfl
 rw [hcd]
 repeat (refine ⟨by first|omega|exact ⟨rfl,rfl⟩ |exact ⟨rfl,AI⟩ |(refine ⟨?_,?_⟩<;>(simp;done)) |(rw [Ci];omega),?_⟩)
 refine ⟨λc2=>?_,λc2=>?_⟩
 ·have he:=one (by rw [c2,Sb])
  repeat (refine ⟨AI,?_⟩)
  show _=_
  unfold Tq;rw [AD he,he]
 have cm:inB s.ev.em 1 (Ae s.p.cs s.ev.en).2.2.1=true:=EY
 obtain ⟨k1,k2⟩:=hE.der cn cm
 have ho:(Sv s).o=s.p.cs:=by
  show BI ((s.p.cs.drop 0).take _) _=_
  rw [TN];exact Qh
 have hV:kV (Sv s):=⟨rfl,by show (M s.p.tg:Y)=(M (s.p.tg.set s.ev.en.toNat s.ev.em):Y);rw [C3],k2,aOM,ho⟩
 obtain ⟨_,_,_,q2⟩:=aw4 _ hV
 have q2:(cx<|Sv s).o=(s.p.L2 s.ev.en s.ev.em).EP:=q2
 have nb:¬(!inB s.ev.en 0 ((M s.p.cs:Y)-1) || !inB s.ev.em 1 (Ae s.p.cs s.ev.en).2.2.1)=true:=by rw [cn,cm];decide
 rw [q2]
 repeat (refine ⟨A8,?_⟩)
 refine ⟨⟨hV,rfl,rfl⟩,?_⟩
 repeat (refine ⟨A0,?_⟩)
 refine ⟨λc3=>?_,λc3=>?_⟩
 ·have c3:E9 (s.p.L2 s.ev.en s.ev.em).EP s.p.gs (Bv s.p.gs)=false:=NF
  have he:s.p.I4 s.ev.en s.ev.em=13:=by unfold PK.I4;rw [AE nb,AD c3]
  repeat (refine ⟨AI,?_⟩)
  show _=_
  unfold Tq;rw [AE MC,he]
 ·have c3:¬E9 (s.p.L2 s.ev.en s.ev.em).EP s.p.gs (Bv s.p.gs)=false:=NF
  have he:s.p.I4 s.ev.en s.ev.em=0:=by unfold PK.I4;rw [AE nb,AE c3]
  repeat (refine ⟨AI,?_⟩)
  show _=_
  unfold Tq;rw [AE MC,he]
def ajM:Dj prog AV 29 aCj.m:=D8.sound (D:=aCj) (t:=im) (gk P1) aqH aTM.h agA λs hE=>⟨axc s hE⟩
def aUK:aWf->T LV
 | [.xl (.pair (.int J) (.pair (.int J) (.pair (.int J) (.pair (.int J) (.int J))))) l,.v (.agg ⟨[ag J nu,ag J co,ag J am,ag J fr,ag J tk]⟩)]=> .ok (.AO [GJ l (nu,co,am,fr,tk),Fb l (nu,co,am,fr,tk)])
 |_=> .no
def anf:aWp:=[Wf,aPp,aVF]
def aVH:=vo (S:=aUK) func109 anf kN (λargs lv h=>by
 unfold aUK at h;split at h
 ·rename_i l nu co am fr tk
  refine Aq (letI a:=(aq (0:Y).toNat ((0:Y),((0:Y),((0:Y),((0:Y),(0:Y))))));letI b:=(nu,(co,(am,(fr,tk))));letI d:=(M l:Y);letI g:=AA<|d+1;letI i:=(a++l)++([b]);letI f:=((i.drop 0).take<|(0:Y).toNat+M l+M ([b]));.br ((!(B4 l)) ||(!(DI (nu,co,am,fr,tk)))) (.ok<|.AO [.xl AQ ([]:aWn),(1:Y)])<|.br (an<|d>0) (.ix (AA<|d-1) (M l)<|.br (!(K4 (Ag l<|AA<|d-1) (nu,co,am,fr,tk))) (.ok<|.AO [.xl AQ ([]:aWn),(12:Y)])<|.br (d==64) (.ok<|.AO [.xl AQ ([]:aWn),(10:Y)])<|.req (0<=(0:Y)/\(0:Y)<=g/\40*g<=2^48/\g<2^63)<|.ra (0:Y).toNat (M a) ((0:Y).toNat+M l) 40<|.ra ((0:Y).toNat+M l) (M<|a++l) ((0:Y).toNat+M l+M ([b])) 40<|.req (0+((0:Y).toNat+M l+M ([b]))<=M i)<|.ok<|.AO [f,(0:Y)])<|.br (d==64) (.ok<|.AO [.xl AQ ([]:aWn),(10:Y)])<|.req (0<=(0:Y)/\(0:Y)<=g/\40*g<=2^48/\g<2^63)<|.ra (0:Y).toNat (M a) ((0:Y).toNat+M l) 40<|.ra ((0:Y).toNat+M l) (M<|a++l) ((0:Y).toNat+M l+M ([b])) 40<|.req (0+((0:Y).toNat+M l+M ([b]))<=M i)<|.ok<|.AO [f,(0:Y)]) ?_;obtain rfl:=h
  have bad:∀e:Y,e≠0->Fb l (nu,co,am,fr,tk)=e->LV.AO [.xl AQ ([]:aWn),.v<|ag J e]=LV.AO [.xl AQ<|GJ l (nu,co,am,fr,tk),.v<|ag J<|Fb l (nu,co,am,fr,tk)]:=λe h0 h1=>by
   unfold GJ;rw [h1,AE h0]
  refine ⟨λc=>bad 1 Ab ?_,λc=>?_⟩
  ·unfold Fb
   grind
  have hk:(B4 l&&DI (nu,co,am,fr,tk))=true:=by revert c;cases B4 l<;>cases DI (nu,co,am,fr,tk)<;>simp
  have hl:M l<=64:=by rw [AY] at hk;exact (GH hk.1).1
  have w1:AA ((M l:Y)+1)=(M l:Y)+1:=AJ
  have fin:(an (M l>0)&&!K4 (Ag l<|(M l:Y)-1) (nu,co,am,fr,tk))=X->M l≠64->LV.AO [.xl AQ<|(l++[(nu,co,am,fr,tk)]).take<|0+M l+1,.v<|ag J 0]=LV.AO [.xl AQ<|GJ l (nu,co,am,fr,tk),.v<|ag J<|Fb l (nu,co,am,fr,tk)]:=λh1 h2=>by
   have e:Fb l (nu,co,am,fr,tk)=0:=by unfold Fb;rw [AD hk,AE (by rw [h1];simp),AE h2]
   unfold GJ;rw [e,AD rfl,De AI]
  have rq:(0<=(0:Y)/\(0:Y)<=AA ((M l:Y)+1)/\40*AA ((M l:Y)+1)<=2^48/\AA ((M l:Y)+1)<2^63):=by rw [w1];omega
  refine ⟨λc2=>?_,λc2=>?_⟩
  ·have c2:0<M l:=by have:=D5 c2;omega
   have w2:AA ((M l:Y)-1)=(M l:Y)-1:=AJ
   rw [w2];refine ⟨A0,λc3=>bad 12 Ab ?_,λc3=>⟨λc4=>bad 10 Ab ?_,λc4=>⟨rq,⟨rfl,DD,DD⟩,⟨AI,DD,DD⟩,AI,?_⟩⟩⟩
   ·unfold Fb
    rw [AD hk,AD (by rw [c3,Cg c2];rfl)]
   ·unfold Fb
    rw [AD hk,AE (by rw [c3];simp),AD yx]
   ·exact fin (by rw [c3,Sg]) yx
  ·have c2:¬(M l)>0:=by have:=KF c2;omega
   refine ⟨λc4=>bad 10 Ab ?_,λc4=>⟨rq,⟨rfl,DD,DD⟩,⟨AI,DD,DD⟩,AI,?_⟩⟩
   ·simp at c4;omega
   ·exact fin (by rw [IP c2,QA]) A0
 ·cases h)
structure O2 where
 (l0 left l:aWn)
 (n i W8 Vz Wt Ws WM:Y)
 o:aWk
def aHS:=bN f160 0
def zm (s:O2):T (Rd O2):=letI a:=Ag s.l s.i;.br (an<|s.i<s.n) (.ix s.i (M s.l)<|.rb (M s.o) (M<|[B2 a]) 24<|.re (M s.o+M ([B2 a])) (s.o++([B2 a]))<|.nx {s with i:=AA<|s.i+1,o:=s.o++([B2 a])})<|.rl s.o<|.so (.exit 0) s
def kA (s:O2):Prop:=s.i=0/\s.n<=1000/\s.n=(M s.l:Y)/\(M s.o:Y)<=s.i
def jY (s:O2):Prop:=0<=s.i/\s.i<=s.n/\s.n<=1000/\s.n=(M s.l:Y)/\(M s.o:Y)<=s.i
def tX (s:O2):aWe:=(s.n-s.i).toNat
def abp (x:Ex) (s s':O2):Prop:=True
def amn:∀s,kA s->jY s:=by
 exact aI
def ahb:Da jY tX abp zm:=by
 intro s hI;obtain ⟨h0,h1,h2,h3,h4⟩:=hI;refine AH (λc1=>?_) λc1=>trivial
 have c1:s.i<s.n:=A8
 rw [AJ (x:=s.i+1)];exact ⟨⟨A8,A8,h2,h3,A8⟩,by simp only [tX];omega⟩
def RZ:AS O2:=⟨0,71,[0,4,8,10,11,25,26,27],[.ns 10 0 34<|.sl<|.int aw],λs=>[s.l0,.own 0 0,s.left,.own 1 0,.fn 195 [.own 1 0],s.l,s.n,s.i],λs=>[⟨[s.W8,s.Vz,s.Wt,s.Ws,s.WM],65,.cl,X⟩,⟨[.os 2 1 0<|M s.o],98,.cl,X⟩,⟨[],34,.vec (.sl<|.int aw) s.o,X⟩],λv b=>⟨Az AQ v 0,Az AQ v 2,Az AQ v 5,AK v 6,AK v 7,Aj b 0 0,Aj b 0 1,Aj b 0 2,Aj b 0 3,Aj b 0 4,Ac (.sl<|.int aw) b 2⟩,zm,λs r=> {s with i:=r.i,o:=r.o},λs=>s,λ_ s=>s,[.exit 0],kA,jY,tX⟩
abbrev oJ:=RZ.run
abbrev aJX:=RZ.As
def azf:Rq jY zm:=by
 intro s hI;refine ⟨λc1=>⟨?_,?_,?_,ak⟩,λc1=>⟨A9,ak⟩⟩
 all_goals ((obtain ⟨h0,h1,h2,h3,h4⟩:=hI;simp only [Aa] at c1;(first|omega|(simp only [Bj,Bt];omega) |(simp only [BL,Bj,Bt,FR]))))
def gg:aWp:=[fk,aVU]
def aTR:B1:=kI gg<|l0 gg
def aSY:RZ.Ok:={}
def aQq:RZ.Pf (abp):=⟨amn,λs h=>rfl,ahb,azf⟩
def arS:SA 0 aHS RZ:=s1 aSY aQq gg aTR
def ate:Rs kA aJX oJ (λs:O2=>s.o++(s.l.drop s.i.toNat).map B2) (λx s' (v:aWk)=>x=.exit 0/\s'.o=v):=DU aSY aQq (λs hI=>by
  obtain ⟨h0,h1,h2,h3,h4⟩:=hI;refine AH (λc1=>?_) λc1=>?_
  ·have c1:s.i<s.n:=A8
   rw [AJ (x:=s.i+1)]
   show _++[_]++_=_++_
   rw [(WC h0 A0).1]
   grind
  ·have c1:s.n<=s.i:=A8
   refine ⟨rfl,?_⟩;rw [F6 A0]
   simp)
def Ig (l:aWn) (x:Le) (t:Y):aWk:=if Cm l t=0 then IG l x t else []
def aUb:aWf->T LV
 | [.xl (.pair (.int J) (.pair (.int J) (.pair (.int J) (.pair (.int J) (.int J))))) l,.v (.agg ⟨[ag J x1,ag J x2,ag J x3,ag J x4,ag J x5]⟩),.v (ag J t)]=> .ok (.AO [.xl (.sl<|.int aw)<|Ig l (x1,x2,x3,x4,x5) t,Cm l t])
 |_=> .no
def Vi (l:aWn) (x1 x2 x3 x4 x5 t:Y):O2:=(⟨l,BB l t,BB l t,(M (BB l t):Y),0,x1,x2,x3,x4,x5,([]:aWk)⟩:O2)
def aIO {l:aWn}{t:Y}(h:Cm l t=0):M l<=64/\M (BB l t)<=M l:=by
 unfold Cm at h;split at h
 ·rename_i c
  refine ⟨(GH (by unfold JF at c;rw [AY] at c;exact c.1)).1,?_⟩
  unfold BB
  grind
 ·cases h
def ajd:=vm (S:=aUb) func160 gg aTR (L:=(λi=>if i=7 then RZ.lp else Ak i)) (λb hb=>by
 rw [show BD _=[aHS] by kernel_rfl] at hb
 simp only [BA,Bu,Bs] at hb;subst hb;exact arS) (λargs lv h=>by
 unfold aUb at h;split at h
 ·rename_i l x1 x2 x3 x4 x5 t
  refine Aq (letI a:=oJ<|Vi l x1 x2 x3 x4 x5 t;letI e:=(x1,x2,x3,x4,x5);letI f:=M a.o+M ([B2 e]);letI j:=(AA<|(M l:Y)-1);letI k:=(M (BB l t):Y);letI m:=M a.o;letI n:=a.o++([B2 e]);letI d:=Ag l j;letI g:=(a.o++([B2 d]))++([B2 e]);letI p:=M a.o+M ([B2 d]);letI r:=M<|a.o++([B2 d]);letI b:=M a.o+M ([B2 d])+M ([B2 e]);.br ((Cm l t) !=0) (.ok<|.AO [.xl (.sl<|.int aw) ([]:aWk),(Cm l t)])<|.r0 (List Int)<|.req (RZ.q<|Vi l x1 x2 x3 x4 x5 t)<|.br (an<|(M l:Y)>0) (.br (k==0) (.ix j (M l)<|.rb m (M<|[B2 d]) 24<|.ra p r b 24<|.req (0+b<=M g)<|.ok<|.AO [.xl (.sl<|.int aw)<|(g.drop 0).take b,(0:Y)])<|.ix (AA<|k-1) (M<|BB l t)<|.ix j (M l)<|.br ((Ag (BB l t)<|AA<|k-1).1 !=d.1) (.ix j (M l)<|.rb m (M<|[B2 d]) 24<|.ra p r b 24<|.req (0+b<=M g)<|.ok<|.AO [.xl (.sl<|.int aw)<|(g.drop 0).take b,(0:Y)])<|.rb m (M<|[B2 e]) 24<|.req (0+f<=M n)<|.ok<|.AO [.xl (.sl<|.int aw)<|(n.drop 0).take f,(0:Y)])<|.rb m (M<|[B2 e]) 24<|.req (0+f<=M n)<|.ok<|.AO [.xl (.sl<|.int aw)<|(n.drop 0).take f,(0:Y)]) ?_;obtain rfl:=h;refine ⟨λc=>?_,λc=>?_⟩
  ·have c:Cm l t≠0:=Ir
   unfold Ig;rw [AE c];rfl
  have hE:Cm l t=0:=Ir
  obtain ⟨k1,k2⟩:=aIO hE
  have hV:kA (Vi l x1 x2 x3 x4 x5 t):=⟨rfl,by show (M (BB l t):Y)<=1000;omega,rfl,yN⟩
  have q:aJX (Vi l x1 x2 x3 x4 x5 t)=.exit 0/\(oJ<|Vi l x1 x2 x3 x4 x5 t).o=(BB l t).map B2:=ate _ hV
  have hR:Ig l (x1,x2,x3,x4,x5) t=IG l (x1,x2,x3,x4,x5) t:=AD hE
  have w1:=λ_:0<M l=>AJ (x:=(M l:Y)-1)
  have w2:=λ_:0<M (BB l t)=>AJ (x:=(M (BB l t):Y)-1)
  have hL:M (oJ<|Vi l x1 x2 x3 x4 x5 t).o=M (BB l t):=by rw [q.2,GB]
  rw [hE,hR];unfold IG;refine ⟨A9,⟨hV,rfl,rfl⟩,λc1=>⟨λc2=>?_,λc2=>?_⟩,λc1=>?_⟩
  ·have c1:0<M l:=AX
   have c2:M (BB l t)=0:=EY
   rw [w1 c1,AD ⟨c1,.inl c2⟩];refine ⟨A0,⟨Ek _,?_,?_⟩,⟨?_,?_,?_⟩,?_,?_⟩
   all_goals first|(simp only [BL,Bj,Bt,hL];omega) |(rw [q.2,CT,De mT];simp only [Ct,EX];rfl)
  ·have c1:0<M l:=AX
   have c2:0<M (BB l t):=by simp at c2;exact OQ.2 c2
   rw [w1 c1,w2 c2];refine ⟨A0,A0,λc3=>?_,λc3=>?_⟩
   ·rw [AD ⟨c1,.inr NF⟩]
    refine ⟨A0,⟨Ek _,?_,?_⟩,⟨?_,?_,?_⟩,?_,?_⟩
    all_goals first|(simp only [BL,Bj,Bt,hL];omega) |(rw [q.2,CT,De mT];simp only [Ct,EX];rfl)
   ·rw [AE (by intro h;rcases h.2 with h|h;omega;simp at c3;exact h c3)]
    refine ⟨⟨Ek _,?_,?_⟩,?_,?_⟩
    all_goals first|(simp only [BL,Bj,Bt,hL];omega) |(rw [q.2,CT,De mT];simp only [Ct,EX];rfl)
  ·have c1:¬0<M l:=AX
   rw [AE λh=>c1 h.1]
   refine ⟨⟨Ek _,?_,?_⟩,?_,?_⟩
   all_goals first|(simp only [BL,Bj,Bt,hL];omega) |(rw [q.2,CT,De mT];simp only [Ct,EX];rfl)
 ·cases h)
def gp:aWp:=[]
def aic:aWf->T LV:=λl=>Bl prog AV (gp) kN Ak f225<|canL l
def aVJ:=vo (S:=aic) func225 gp kN (λargs lv h=>by
 refine ⟨?_⟩
 assumption)
def aid:aWf->T LV:=λl=>Bl prog AV (gp) kN Ak f230<|canL l
def aVK:=vo (S:=aid) func230 gp kN (λargs lv h=>by
 refine ⟨?_⟩
 assumption)
def pX {l:aWd}{n:aWe}(h:M l=n):BI l (aq n (0:Y))=l:=by
 unfold BI
 simp_all
def pJ {l:aWd}{n:aWe}(h:M l=n):((BI ((l.drop 0).take n)<|aq n (0:Y)).drop 0).take n=l:=by
 rw [CT,CT,De (l:=l) A0,pX h,De A0]
def X5 {l:aWd}{n:aWe}(h:M l=n):(l.drop 0).take n=l:=by
 grind
def aAd:Array Tmp×Code×Code:=((Iz<|f226.body.getD .skip)[0]?).getD (#[],.skip,.skip)
def aVe:aW8:=aAd.1
def aVj:aWO:=aAd.2.1
def aVh:aWO:=aAd.2.2
structure Lt where
 (n i Hu:Y)
 (Hs b1:aWd)
 pN:Y
 Gj:aWd
 (b3 b4 Hr:Y)
 b9:aWC
 b10:aWd
 st:LS
def LA (s:Lt):aWd:=(s.b10.set (AA<|s.b3+s.i).toNat<|Bk aw (s.b10.getD (AA<|s.b3+s.i).toNat<|Ty.dflt<|.int aw)<|gi s.b1 s.i)
def lpC (s:Lt):aWd:=((BI (((LA s).drop 0).take<|M s.b10)<|aq ((M s.b10:aWe):Y).toNat (0:Y)).drop 0)
def nM (s:Lt):T (Rd Lt):=letI a:=((M s.b10:aWe):Y);letI b:=(s.Hr,(lpC s).take a.toNat);letI c:=M s.b10;letI d:=((LA s).drop 0).take c;.br (an<|s.i<s.n) (.ik (AA<|s.b3+s.i) c<|.ix s.i (M s.b1)<|.ik (AA<|s.b3+s.i) c<|.rm 1 a<|.req (0+c<=M (LA s))<|.rc a (0:Y) (M d)<|.req (0+a.toNat<=M (BI d<|aq a.toNat (0:Y)))<|.rb (M s.b9) (M<|[b]) 32<|.re (M s.b9+M ([b])) (s.b9++([b]))<|.re c (LA s)<|.nx {s with i:=AA<|s.i+1,b9:=s.b9++([b]),b10:=LA s})<|.rl s.b9<|.rl s.b10<|.so (.exit 0) s
def nz (s:Lt):Prop:=s.st=.ready/\s.i=0/\(s.n=(M s.b1:Y)/\0<=s.n/\0<=s.b3/\s.b3+s.n<=(M s.Gj:Y)/\M s.Gj<=4096)/\s.b10=Dl s.Gj s.b3 s.b1 0/\s.b9=[(s.Hr,Dl s.Gj s.b3 s.b1 0)]
def cF (s:Lt):Prop:=s.st=.ready/\(0<=s.i/\s.i<=s.n)/\(s.n=(M s.b1:Y)/\0<=s.n/\0<=s.b3/\s.b3+s.n<=(M s.Gj:Y)/\M s.Gj<=4096)/\s.b10=Dl s.Gj s.b3 s.b1 s.i.toNat/\s.b9=(au<|s.i.toNat+1).map (λk:aWe=>(s.Hr,Dl s.Gj s.b3 s.b1 k))
def aB1 (s:Lt):aWe:=(s.n-s.i).toNat
def wj (x:Ex) (s s':Lt):Prop:=x=.exit 0/\s'.b9=Dt s'.Hr s'.Gj s'.b3 s'.b1
def aoR:∀s,nz s->cF s:=by
 exact aMz
def amb:Da cF aB1 wj nM:=by
 intro s hI;unfold nM;refine AH (λc1=>?_) λc1=>?_
 ·obtain ⟨ht,⟨h0,h1⟩,⟨hn,hn0,ha,hl,h4⟩,hb,ho⟩:=hI
  have hbl:M s.b10=M s.Gj:=aPb
  have c1:s.i<s.n:=AX
  have wa:AA (s.b3+s.i)=s.b3+s.i:=AJ
  have hB:LA s=Dl s.Gj s.b3 s.b1 (s.i.toNat+1):=aOe
  have hBl:M (LA s)=M s.Gj:=aPc
  have hC:(lpC s).take ((M s.b10:aWe):Y).toNat=LA s:=aOV
  rw [AJ (x:=s.i+1)]
  have et:(s.i+1).toNat=s.i.toNat+1:=A0
  refine ⟨⟨ht,⟨AZ,AZ⟩,⟨hn,hn0,ha,hl,h4⟩,?_,?_⟩,by simp only [aB1];omega⟩
  ·simp only [et]
   exact hB
  ·simp only [et]
   rw [Se,KD,<-ho,ET,LC,<-hB,<-hC]
 ·obtain ⟨ht,⟨h0,h1⟩,⟨hn,hn0,ha,hl,h4⟩,hb,ho⟩:=hI
  have c1:s.n<=s.i:=AX
  refine ⟨rfl,?_⟩;rw [ho]
  have e:s.i.toNat=M s.b1:=A0
  rw [e];rfl
def bp:AS Lt:=⟨8,41,[0,3,4,6,15,16],[],λs=>[.CO 7,.own 5 0,.own 3 0,.own 8 0,s.n,s.i],λs=>[⟨[s.Hu,.xl (.int aw) s.Hs],36,.cl,X⟩,⟨[.xl (.int aw) s.b1],34,.cl,X⟩,⟨[s.pN,.xl (.int aw) s.Gj],36,.cl,X⟩,⟨[s.b3],3,.cl,X⟩,⟨[s.b4],3,.cl,X⟩,⟨[.fn 225 [.own 1 0]],332,.cl,X⟩,⟨[.os 9 2 0<|M s.b9],225,.cl,X⟩,⟨[.junk,.junk,.junk,.own 6 0,.v<|.tuple #[],.junk,.v<|.tuple #[],.v<|.tuple #[],.v<|.tuple #[],.v<|.tuple #[],.v<|.tuple #[],.junk],0,.Cl aVe aVj aVh s.st,X⟩,⟨[s.Hr,.os 10 1 0<|M s.b10],36,.cl,X⟩,bV 36 Bm s.b9,bV 5 (.int aw) s.b10],λv b=>⟨AK v 4,AK v 5,Aj b 0 0,AF (.int aw) b 0 1,AF (.int aw) b 1 0,Aj b 2 0,AF (.int aw) b 2 1,Aj b 3 0,Aj b 4 0,Aj b 8 0,Ac Bm b 9,Ac (.int aw) b 10,.ready⟩,nM,λs r=> {r with n:=s.n,Hu:=s.Hu,Hs:=s.Hs,b1:=s.b1,pN:=s.pN,Gj:=s.Gj,b3:=s.b3,b4:=s.b4,Hr:=s.Hr,st:=s.st},λs=> {s with st:=.ready},λx s=> {s with st:=(match x with| .exit 0=> .ready|_=> .ready)},[.exit 0],nz,cF,aB1⟩
abbrev fe:=bp.run
abbrev ahu:=bp.As
def vO:aWp:=[Xc,aVJ]
def ahQ:B1:=kI vO<|l0 vO
def alW:Rq cF nM:=by
 intro s hI;refine ⟨λc1=>⟨?_,?_,?_,?_,?_,?_,?_,?_,?_,?_,?_,?_,ak⟩,λc1=>⟨A9,A9,ak⟩⟩
 all_goals ((obtain ⟨ht,⟨h0,h1⟩,⟨hn,hn0,ha,hl,h4⟩,hb,ho⟩:=hI;have hbl:M s.b10=M s.Gj:=aPb;have c1:s.i<s.n:=A8;have wa:AA (s.b3+s.i)=s.b3+s.i:=AJ;have hB:LA s=Dl s.Gj s.b3 s.b1 (s.i.toNat+1):=aOe;have hBl:M (LA s)=M s.Gj:=aPc;have hC:(lpC s).take ((M s.b10:aWe):Y).toNat=LA s:=aOV;(first|omega|exact ⟨rfl,AI⟩ |(rw [wa];omega) |(rw [hC];simp only [BL,Bj,Bt,ho,GB,Sd,FR];omega) |(rw [hBl];omega) |(rw [By,Ci,X5 A0];omega) |(rw [By,X5 A0,pX A0];omega))))
def abB:bp.Ok:={}
def aVs:bp.Pf (wj):=⟨aoR,λs h=>by
 obtain ⟨n,i,Hu,Hs,b1,pN,Gj,b3,b4,Hr,b9,b10,st⟩:=s
 have e:=h.1
 subst e;rfl,amb,alW⟩
def su:=s2 (b:=bN f232 0) abB aVs vO ahQ
def ahU:Fi nz cF wj ahu fe:=AS.fin abB aVs
structure Lu where
 (n i Hu:Y)
 Hs:aWd
 W3:Y
 Fq:aWd
 (b2 b3 Hr:Y)
 b8:aWC
 b9:aWd
 st:LS
def leB (s:Lu):aWd:=(s.b9.set (AA<|s.b2+s.i).toNat (255:Y))
def leC (s:Lu):aWd:=((BI (((leB s).drop 0).take<|M s.b9)<|aq ((M s.b9:aWe):Y).toNat (0:Y)).drop 0)
def nN (s:Lu):T (Rd Lu):=letI a:=((M s.b9:aWe):Y);letI b:=(s.Hr,(leC s).take a.toNat);letI c:=M s.b9;letI d:=((leB s).drop 0).take c;.br (an<|s.i<s.n) (.ik (AA<|s.b2+s.i) c<|.ik (AA<|s.b2+s.i) c<|.rm 1 a<|.req (0+c<=M (leB s))<|.rc a (0:Y) (M d)<|.req (0+a.toNat<=M (BI d<|aq a.toNat (0:Y)))<|.rb (M s.b8) (M<|[b]) 32<|.re (M s.b8+M ([b])) (s.b8++([b]))<|.re c (leB s)<|.nx {s with i:=AA<|s.i+1,b8:=s.b8++([b]),b9:=leB s})<|.rl s.b8<|.rl s.b9<|.so (.exit 0) s
def o6 (s:Lu):Prop:=s.st=.ready/\s.i=0/\(s.n=s.n/\0<=s.n/\0<=s.b2/\s.b2+s.n<=(M s.Fq:Y)/\M s.Fq<=4096)/\s.b9=Ey s.Fq s.b2 0/\s.b8=[(s.Hr,Ey s.Fq s.b2 0)]
def cG (s:Lu):Prop:=s.st=.ready/\(0<=s.i/\s.i<=s.n)/\(s.n=s.n/\0<=s.n/\0<=s.b2/\s.b2+s.n<=(M s.Fq:Y)/\M s.Fq<=4096)/\s.b9=Ey s.Fq s.b2 s.i.toNat/\s.b8=(au<|s.i.toNat+1).map (λk:aWe=>(s.Hr,Ey s.Fq s.b2 k))
def aB3 (s:Lu):aWe:=(s.n-s.i).toNat
def wo (x:Ex) (s s':Lu):Prop:=x=.exit 0/\s'.b8=(au<|s'.n.toNat+1).map (λk:aWe=>(s'.Hr,Ey s'.Fq s'.b2 k))
def aoT:∀s,o6 s->cG s:=by
 exact aMz
def amd:Da cG aB3 wo nN:=by
 intro s hI;unfold nN;refine AH (λc1=>?_) λc1=>?_
 ·obtain ⟨ht,⟨h0,h1⟩,⟨hn,hn0,ha,hl,h4⟩,hb,ho⟩:=hI
  have hbl:M s.b9=M s.Fq:=aPN
  have c1:s.i<s.n:=AX
  have wa:AA (s.b2+s.i)=s.b2+s.i:=AJ
  have hB:leB s=Ey s.Fq s.b2 (s.i.toNat+1):=aOf
  have hBl:M (leB s)=M s.Fq:=aPO
  have hC:(leC s).take ((M s.b9:aWe):Y).toNat=leB s:=aOW
  rw [AJ (x:=s.i+1)]
  have et:(s.i+1).toNat=s.i.toNat+1:=A0
  refine ⟨⟨ht,⟨AZ,AZ⟩,⟨hn,hn0,ha,hl,h4⟩,?_,?_⟩,by simp only [aB3];omega⟩
  ·simp only [et]
   exact hB
  ·simp only [et]
   rw [Se,KD,<-ho,ET,LC,<-hB,<-hC]
 ·obtain ⟨ht,⟨h0,h1⟩,⟨hn,hn0,ha,hl,h4⟩,hb,ho⟩:=hI
  have c1:s.n<=s.i:=AX
  refine ⟨rfl,?_⟩;rw [ho]
  have e:s.i.toNat=s.n.toNat:=A0
  rw [e]
def bq:AS Lu:=⟨7,41,[0,3,4,6,15,16],[],λs=>[.CO 6,.own 4 0,.own 2 0,.own 7 0,s.n,s.i],λs=>[⟨[s.Hu,.xl (.int aw) s.Hs],36,.cl,X⟩,⟨[s.W3,.xl (.int aw) s.Fq],36,.cl,X⟩,⟨[s.b2],3,.cl,X⟩,⟨[s.b3],3,.cl,X⟩,⟨[.fn 230 []],332,.cl,X⟩,⟨[.os 8 2 0<|M s.b8],225,.cl,X⟩,⟨[.junk,.junk,.junk,.own 5 0,.v<|.tuple #[],.junk,.v<|.tuple #[],.v<|.tuple #[],.v<|.tuple #[],.v<|.tuple #[],.v<|.tuple #[],.junk],0,.Cl aVe aVj aVh s.st,X⟩,⟨[s.Hr,.os 9 1 0<|M s.b9],36,.cl,X⟩,bV 36 Bm s.b8,bV 5 (.int aw) s.b9],λv b=>⟨AK v 4,AK v 5,Aj b 0 0,AF (.int aw) b 0 1,Aj b 1 0,AF (.int aw) b 1 1,Aj b 2 0,Aj b 3 0,Aj b 7 0,Ac Bm b 8,Ac (.int aw) b 9,.ready⟩,nN,λs r=> {r with n:=s.n,Hu:=s.Hu,Hs:=s.Hs,W3:=s.W3,Fq:=s.Fq,b2:=s.b2,b3:=s.b3,Hr:=s.Hr,st:=s.st},λs=> {s with st:=.ready},λx s=> {s with st:=(match x with| .exit 0=> .ready|_=> .ready)},[.exit 0],o6,cG,aB3⟩
abbrev Wi:=bq.run
abbrev ahv:=bq.As
def vN:aWp:=[Xc,aVK]
def ahO:B1:=kI vN<|la 3 func232 su<|l0 vN
def alY:Rq cG nN:=by
 intro s hI;refine ⟨λc1=>⟨?_,?_,?_,?_,?_,?_,?_,?_,?_,?_,?_,ak⟩,λc1=>⟨A9,A9,ak⟩⟩
 all_goals ((obtain ⟨ht,⟨h0,h1⟩,⟨hn,hn0,ha,hl,h4⟩,hb,ho⟩:=hI;have hbl:M s.b9=M s.Fq:=aPN;have c1:s.i<s.n:=A8;have wa:AA (s.b2+s.i)=s.b2+s.i:=AJ;have hB:leB s=Ey s.Fq s.b2 (s.i.toNat+1):=aOf;have hBl:M (leB s)=M s.Fq:=aPO;have hC:(leC s).take ((M s.b9:aWe):Y).toNat=leB s:=aOW;(first|omega|exact ⟨rfl,AI⟩ |(rw [wa];omega) |(rw [hC];simp only [BL,Bj,Bt,ho,GB,Sd,FR];omega) |(rw [hBl];omega) |(rw [By,Ci,X5 A0];omega) |(rw [By,X5 A0,pX A0];omega))))
def abD:bq.Ok:={}
def aVu:bq.Pf (wo):=⟨aoT,λs h=>by
 obtain ⟨n,i,Hu,Hs,W3,Fq,b2,b3,Hr,b8,b9,st⟩:=s
 have e:=h.1
 subst e;rfl,amd,alY⟩
def aQB:=s2 (b:=bN f232 0) abD aVu vN ahO
def ahY:Fi o6 cG wo ahv Wi:=AS.fin abD aVu
def Um (se:Y) (fl:aWd) (a:Y) (d:aWd):aWC:=if FH se fl a d=0 then Dt se fl a d else []
def EC (se:Y) (fl:aWd) (s:Y):aWC:=if II se fl s=0 then erL se fl s else []
def aUn:aWf->T LV
 | [.agg [.v (ag J se),.xl (.int aw) fl],.v (ag J at_),.xl (.int aw) d]=> .req (M d<=1000000) (.ok<|.AO [.xl Bm<|Um se fl at_ d,FH se fl at_ d])
 |_=> .no
def ad9 (se:Y) (fl:aWd) (at_:Y) (d:aWd):Lt:=(⟨(M d:Y),0,se,fl,d,se,fl,at_,(M d:Y),se,[(se,((BI (((BI fl<|aq (M fl:Y).toNat (0:Y)).drop 0).take (M fl:Y).toNat)<|aq (((M fl:Y).toNat:aWe):Y).toNat (0:Y)).drop 0).take (((M fl:Y).toNat:aWe):Y).toNat)],BI fl<|aq (M fl:Y).toNat (0:Y),.ready⟩:Lt)
def vM:aWp:=[Xc,aVJ]
def ahN:B1:=kI vM<|la 3 func232 aQB<|la 3 func232 su<|l0 vM
def aji:=vo (S:=aUn) func217 vM ahN (λargs lv h=>by
 unfold aUn at h;split at h
 ·rename_i se fl at_ d
  refine Aq (letI b:=(M fl:Y);letI c:=(BI fl<|aq b.toNat (0:Y));letI e:=((b.toNat:aWe):Y);letI g:=ad9 se fl at_ d;letI i:=(c.drop 0).take b.toNat;letI a:=(BI i<|aq e.toNat (0:Y));letI f:=(se,(a.drop 0).take e.toNat);.br ((!(Hg se fl)) ||(an<|at_<0)) (.ok<|.AO [.xl Bm ([]:aWC),(1:Y)])<|.br (an<|at_>(AA<|b-(M d:Y))) (.ok<|.AO [.xl Bm ([]:aWC),(3:Y)])<|.rm 1 b<|.rc b (0:Y) (M fl)<|.rm 1 e<|.req (0+b.toNat<=M c)<|.rc e (0:Y) (M i)<|.req (0+e.toNat<=M a)<|.req ((M ([f]):Y)*32<=2^47/\(M ([f]):Y)<2^62)<|.rl ([f])<|.re b.toNat c<|.req (bp.q g)<|.rz (fe g).b9<|.ok<|.AO [.xl Bm<|((fe g).b9.drop 0).take<|M (fe g).b9,(0:Y)]) ?_;obtain ⟨hd,rfl⟩:=h;refine ⟨λc1=>?_,λc1=>⟨λc2=>?_,λc2=>?_⟩⟩
  ·have hE:FH se fl at_ d=1:=by unfold FH;rw [AD c1]
   unfold Um;rw [hE];rfl
  all_goals have c1':Hg se fl=U/\0<=at_:=by simp at c1;omega
  all_goals have hv:=NU.1 c1'.1
  all_goals rw [AJ (x:=(M fl:Y)-(M d:Y))] at c2
  ·have hE:FH se fl at_ d=3:=by unfold FH;rw [AE bI,AD<|D5 c2]
   unfold Um;rw [hE];rfl
  have c2:at_<=(M fl:Y)-(M d:Y):=EY
  have hE:FH se fl at_ d=0:=by unfold FH;rw [AE bI,AE A0]
  have z1:BI fl (aq (M fl:Y).toNat (0:Y))=fl:=aPT
  have z2:((BI (((BI fl<|aq (M fl:Y).toNat (0:Y)).drop 0).take (M fl:Y).toNat)<|aq (((M fl:Y).toNat:aWe):Y).toNat (0:Y)).drop 0).take (((M fl:Y).toNat:aWe):Y).toNat=fl:=by
   rw [z1,By,By];exact pJ rfl
  have z5:BI (((BI fl<|aq (M fl:Y).toNat (0:Y)).drop 0).take (M fl:Y).toNat) (aq (((M fl:Y).toNat:aWe):Y).toNat (0:Y))=fl:=by
   grind
  have z6:((BI fl<|aq (M fl:Y).toNat (0:Y)).drop 0).take (M fl:Y).toNat=fl:=by
   rw [z1,By,X5 rfl]
  have hL:nz (ad9 se fl at_ d):=⟨rfl,rfl,⟨rfl,by show (0:Y)<=(M d:Y);omega,c1'.2,by show at_+(M d:Y)<=(M fl:Y);omega,hv.2.2.2.1⟩,z1,aOs⟩
  obtain ⟨s',_,q1,q2⟩:=ahU _ hL;refine ⟨?_,?_,?_,?_,?_,?_,?_,A9,?_,⟨hL,rfl,rfl⟩,A0,?_⟩
  iterate 8 · (first|omega|(rw [z6,Ci];omega) |(rw [Ci];omega) |(rw [z5];omega) |(rw [z1];omega) |(simp only [Bj,Bt];decide))
  unfold Um;rw [AD hE,hE,CT,De<|At _,q2];rfl
 ·cases h)
def aUQ:aWf->T LV
 | [.agg [.v (ag J se),.xl (.int aw) fl],.v (ag J sc)]=> .ok (.AO [.xl Bm<|EC se fl sc,II se fl sc])
 |_=> .no
def p0 (se:Y) (fl:aWd) (sc:Y):Lu:=(⟨se,0,se,fl,se,fl,AA<|sc*se,se,se,[(se,((BI (((BI fl<|aq (M fl:Y).toNat (0:Y)).drop 0).take (M fl:Y).toNat)<|aq (((M fl:Y).toNat:aWe):Y).toNat (0:Y)).drop 0).take (((M fl:Y).toNat:aWe):Y).toNat)],BI fl<|aq (M fl:Y).toNat (0:Y),.ready⟩:Lu)
def wB:aWp:=[Xc,aVK]
def ahM:B1:=kI wB<|la 3 func232 aQB<|la 3 func232 su<|l0 wB
def aVM:=vo (S:=aUQ) func221 wB ahM (λargs lv h=>by
 unfold aUQ at h;split at h
 ·rename_i se fl sc
  refine Aq (letI b:=(M fl:Y);letI c:=(BI fl<|aq b.toNat (0:Y));letI d:=((b.toNat:aWe):Y);letI f:=p0 se fl sc;letI g:=(c.drop 0).take b.toNat;letI a:=(BI g<|aq d.toNat (0:Y));letI e:=(se,(a.drop 0).take d.toNat);.br (!(Hg se fl)) (.ok<|.AO [.xl Bm ([]:aWC),(1:Y)])<|.br (an<|sc<0) (.ok<|.AO [.xl Bm ([]:aWC),(1:Y)])<|.req (se≠0)<|.br (an<|sc>=(AA<|b.tdiv se)) (.ok<|.AO [.xl Bm ([]:aWC),(1:Y)])<|.rm 1 b<|.rc b (0:Y) (M fl)<|.rm 1 d<|.req (0+b.toNat<=M c)<|.rc d (0:Y) (M g)<|.req (0+d.toNat<=M a)<|.req ((M ([e]):Y)*32<=2^47/\(M ([e]):Y)<2^62)<|.rl ([e])<|.re b.toNat c<|.req (bq.q f)<|.rz (Wi f).b8<|.ok<|.AO [.xl Bm<|((Wi f).b8.drop 0).take<|M (Wi f).b8,(0:Y)]) ?_;obtain rfl:=h
  have bad:II se fl sc=1->LV.AO [.xl Bm ([]:aWC),.v<|ag J 1]=LV.AO [.xl Bm<|EC se fl sc,.v<|ag J<|II se fl sc]:=λhE=>by unfold EC;rw [hE];rfl
  refine ⟨λc1=>bad ?_,λc1=>⟨λc2=>bad ?_,λc2=>⟨?_,λc3=>bad ?_,λc3=>?_⟩⟩⟩
  ·unfold II;rw [AD (by rw [c1];rfl)]
  ·unfold II;rw [AD<|by rw [c2,Bool.true_or,Sb]]
  all_goals have hv:=NU.1 AX
  ·omega
  all_goals have hd:0<=(M fl:Y).tdiv se/\(M fl:Y).tdiv se<=(M fl:Y):=(by rw [IL A0];exact ⟨Sf A0 A0,VF _ A0⟩)
  all_goals (rw [AJ (x:=(M fl:Y).tdiv se)] at c3)
  ·unfold II;rw [AD<|by rw [c3,Sb,Sb]]
  have hE:II se fl sc=0:=by unfold II;rw [AE (by rw [c1,c2,c3];decide)]
  have c2:0<=sc:=EY
  have c3:sc<(M fl:Y).tdiv se:=NF
  have hm:sc*se+se<=(M fl:Y):=by
   have h1:(sc+1)*se<=(M fl:Y).tdiv se*se:=M6 A0 A0
   have h2:(M fl:Y).tdiv se*se<=(M fl:Y):=by
    rw [IL A0];exact Int.ediv_mul_le _ A0
   have h3:(sc+1)*se=sc*se+se:=by rw [m7,aC]
   omega
  have hn:0<=sc*se:=Im c2 A0
  have wm:AA (sc*se)=sc*se:=AJ
  have z1:BI fl (aq (M fl:Y).toNat (0:Y))=fl:=aPT
  have z2:((BI (((BI fl<|aq (M fl:Y).toNat (0:Y)).drop 0).take (M fl:Y).toNat)<|aq (((M fl:Y).toNat:aWe):Y).toNat (0:Y)).drop 0).take (((M fl:Y).toNat:aWe):Y).toNat=fl:=by
   rw [z1,By,By];exact pJ rfl
  have z5:BI (((BI fl<|aq (M fl:Y).toNat (0:Y)).drop 0).take (M fl:Y).toNat) (aq (((M fl:Y).toNat:aWe):Y).toNat (0:Y))=fl:=by
   grind
  have z6:((BI fl<|aq (M fl:Y).toNat (0:Y)).drop 0).take (M fl:Y).toNat=fl:=by
   rw [z1,By,X5 rfl]
  have hL:o6 (p0 se fl sc):=⟨rfl,rfl,⟨rfl,by show (0:Y)<=se;omega,by show 0<=AA (sc*se);omega,by show AA (sc*se)+se<=(M fl:Y);omega,hv.2.2.2.1⟩,z1,aOs⟩
  obtain ⟨s',_,q1,q2⟩:=ahY _ hL
  have q2:(Wi<|p0 se fl sc).b8=(au<|se.toNat+1).map (λk:aWe=>(se,Ey fl (AA<|sc*se) k)):=q2
  rw [wm] at q2
  have q2:(Wi<|p0 se fl sc).b8=erL se fl sc:=q2
  refine ⟨?_,?_,?_,?_,?_,?_,?_,A9,?_,⟨hL,rfl,rfl⟩,A0,?_⟩
  iterate 8 · (first|omega|(rw [z6,Ci];omega) |(rw [Ci];omega) |(rw [z5];omega) |(rw [z1];omega) |(simp only [Bj,Bt];decide))
  unfold EC;rw [AD hE,hE,CT,De<|At _,q2];rfl
 ·cases h)
def awH:aWf->T LV:=λ_=> .no
def dQ:VV 1000225 awH:=by
 exact yF
def BU (al:aWC):Fl:=GP al<|(M al:Y)-1
def JT (al:aWC) (er a:Y) (d:aWd):Y:=if FH (BU al).1 (BU al).2 a d=0 then er else FH (BU al).1 (BU al).2 a d
def spA (al:aWC) (a:Y) (d:aWd):aWC:=if FH (BU al).1 (BU al).2 a d=0 then al++(Dt (BU al).1 (BU al).2 a d).drop 1 else al
def aU3:Ut:=λi=>if i=10 then ah ([9,10,11],[]) else if i=11 then ah ([9,10,11],[]) else aj
structure Gt where
 at_:Y
 d:aWd
 er:Y
 al:aWC
def UX (s:Gt):aWf:=[.own 0 0,s.at_,.xl (.int aw) s.d]
def Z9 (s:Gt):aWi:=[⟨[.os 1 2 0<|M s.al,s.er],325,.cl,X⟩,bV 36 Bm s.al]
structure YP where
 er:Y
 al:aWC
def acA (s:YP):LV:=.v<|.tuple #[]
def abV (s:YP):aWi:=[⟨[.os 2 2 0<|M s.al,s.er],325,.cl,X⟩,⟨[],36,.dead,X⟩,bV 36 Bm s.al]
def aCq (s:Gt):Y:=(AA<|((M s.al:aWe):Y)-1)
def Vy (s:Gt):Fl:=(s.al.getD (aCq s).toNat<|Ty.dflt Bm)
def iR (s:Gt):T YP:=letI c:=FH (Vy s).1 (Vy s).2 s.at_ s.d;letI e:=Um (Vy s).1 (Vy s).2 s.at_ s.d;letI b:=(M e:Y);letI a:=((e.drop (1:Y).toNat).take<|b.toNat-(1:Y).toNat);.ik (aCq s) (M s.al)<|.req (M s.d<=1000000)<|.br (!(c==(0:Y))) (.rl s.al<|.ok<|⟨c,s.al⟩)<|.req (0<=(1:Y)/\(1:Y)<=b/\b<=b)<|.rb (M s.al) (M a) 32<|.re (M s.al+M a) (s.al++a)<|.ok<|⟨s.er,s.al++a⟩
def aCR (s:Gt):Prop:=s.al≠ []/\M s.al<=4000000/\M s.d<=5000
def aAZ (s:Gt):YP:=⟨JT s.al s.er s.at_ s.d,spA s.al s.at_ s.d⟩
def UO:D8 Gt YP:=⟨UX,Z9,λv b=>⟨AK v 1,Az (.int aw) v 2,Aj b 0 1,Ac Bm b 1⟩,aCR,[],[.ms 1 0],acA,abV,aAZ⟩
abbrev gY (s:Gt):Prop:=aCR s/\UX s=UX s/\Z9 s=Z9 s
def X0:aWp:=[aji,iN,dQ]
def aTT:B1:=kI X0<|l0 X0
def aUy:DS:=E5 prog AV X0 20 2
def aqO:Eb prog AV aUy:=Hv<|gk X0
def agn (s:Gt):((Ep prog AV X0 aUy aTT).k 193 (UX s)<|Z9 s).bind (λq=>GM (M<|Z9 s) [0] [.ms 1 0] .normal (q.1::UX s) q.2)=(iR s).mp (λs2=>⟨.normal,M (UX s)+1,[acA s2],abV s2,U⟩):=AU
def axO (s:Gt) (hE:aCR s):(iR s).all (λq=>q=aAZ s):=by
 obtain ⟨h0,h1,h2⟩:=hE
 have hp:=OQ.2 h0
 have w:aCq s=(M s.al:Y)-1:=AJ
 have hY:Vy s=BU s.al:=by unfold Vy BU GP;rw [w];rfl
 unfold iR aAZ JT spA;rw [w,hY];refine ⟨A0,A0,A0,λc1=>?_,λc1=>?_⟩
 ·have c1:¬FH (BU s.al).1 (BU s.al).2 s.at_ s.d=0:=A8
  rw [AE c1,AE c1];exact ⟨A9,rfl⟩
 ·have c1:FH (BU s.al).1 (BU s.al).2 s.at_ s.d=0:=A8
  have hR:Um (BU s.al).1 (BU s.al).2 s.at_ s.d=Dt (BU s.al).1 (BU s.al).2 s.at_ s.d:=AD c1
  have hl:M (Dt (BU s.al).1 (BU s.al).2 s.at_ s.d)=M s.d+1:=by unfold Dt;simp
  rw [AD c1,AD c1,hR,hl];rw [De A8];refine ⟨A0,A8,AI,rfl⟩
def hM:Dj prog AV 193 UO.m:=D8.sound (D:=UO) (t:=iR) (gk X0) aqO aTT.h agn λs hE=>⟨axO s hE⟩
def Je:Y->aWk->Bool
 |_,[]=>U
 |left,d::ds=>if (an ((M d:Y)>65535) ||an (7+(M d:Y)>left))=U then X else Je (left-(7+(M d:Y))) ds
def aSl:∀(ds:aWk) (left:Y),0<=left->Je left ds=(an ((((ds.map λd=>7+M d).sum:aWe):Y)<=left)&&ds.all (λd=>an<|M d<=65535))
 | [],left,h=>by simp [Je,h]
 | d::ds,left,h=>by
  simp only [Je,ET,List.sum_cons,Io];split
  ·rename_i hc
   rw [Eq.comm,IM];intro hh;simp only [Cj,AY,Aa] at hc hh;omega
  ·rename_i hc
   simp only [Cj,Aa,not_or] at hc;rw [aSl ds _ A0,Ip]
   grind
structure Lw where
 r:aWo
 left:Y
 l:aWk
 (n i:Y)
def aJA:=bN f196 0
def aD1 (s:Lw):T (Rd Lw):=
 .br (an<|s.i<s.n) (.ix s.i (M s.l)<|.br ((an<|(M (gx (e:=.sl<|.int aw) s.l s.i):Y)>65535) ||(an<|(AA<|7+(M (gx (e:=.sl<|.int aw) s.l s.i):Y))>s.left)) (.so (.ret) {s with r:=X})<|.nx {s with left:=AA<|s.left-(AA<|7+(M (gx (e:=.sl<|.int aw) s.l s.i):Y)),i:=AA<|s.i+1}) (.so (.exit 0) s)
def oA (s:Lw):Prop:=s.i=0/\s.n<=5000/\s.n=(M s.l:Y)/\I8 s.l/\0<=s.left/\s.left<=100000
def oH (s:Lw):Prop:=0<=s.i/\s.i<=s.n/\s.n<=5000/\s.n=(M s.l:Y)/\I8 s.l/\0<=s.left/\s.left<=100000
def aAq (s:Lw):aWe:=(s.n-s.i).toNat
def aLr (x:Ex) (s s':Lw):Prop:=True
def aoe:∀s,oA s->oH s:=by
 exact aI
def an5:Da oH aAq aLr aD1:=by
 intro s hI;obtain ⟨h0,h1,h2,h3,h4,h5,h6⟩:=hI;refine AH (λc1=>AH (λc2=>trivial) λc2=>?_) λc1=>trivial
 ·have c1:s.i<s.n:=A8
  have hk:=Wo h4 h0 A0
  have w:AA (7+(M (gx (e:=.sl<|.int aw) s.l s.i):Y))=7+(M (gx (e:=.sl<|.int aw) s.l s.i):Y):=AJ
  rw [w,AJ (x:=s.i+1),AJ (x:=s.left-(7+(M (gx (e:=.sl<|.int aw) s.l s.i):Y)))];exact ⟨⟨A8,A8,h2,h3,h4,A8,A8⟩,by simp only [aAq];omega⟩
def SS:AS Lw:=⟨0,32,[4,5,10,11,12],[],λs=>[s.r,s.left,.xl (.sl<|.int aw) s.l,s.n,s.i],λ_=>[],λv b=>⟨DQ v 0,AK v 1,Az (.sl<|.int aw) v 2,AK v 3,AK v 4⟩,aD1,λs r=> {r with l:=s.l,n:=s.n},λs=>s,λ_ s=>s,[.ret,.exit 0],oA,oH,aAq⟩
abbrev aQ8:=SS.run
abbrev aT9:=SS.As
def alc:Rq oH aD1:=by
 intro s hI;refine ⟨λc1=>⟨?_,λ_=>trivial,λ_=>trivial⟩,λ_=>trivial⟩
 ·exact aNz
def aTF:aWp:=[dQ]
def abI:SS.Ok:={}
def aVy:SS.Pf (aLr):=⟨aoe,λs h=>rfl,an5,alc⟩
def ayf:SA 0 aJA SS:=s1 abI aVy aTF kN
def ahp:Rs oA aT9 aQ8 (λs:Lw=>Je s.left<|s.l.drop s.i.toNat) (λx s' (v:aWo)=>(x=.ret/\s'.r=X/\v=X)\/(x=.exit 0/\v=U)):=DU abI aVy (λs hI=>by
  obtain ⟨h0,h1,h2,h3,h4,h5,h6⟩:=hI;refine AH (λc1=>AH (λc2=>?_) λc2=>?_) λc1=>?_
  ·have c1:s.i<s.n:=A8
   have hk:=Wo h4 h0 A0
   have w:AA (7+(M (gx (e:=.sl<|.int aw) s.l s.i):Y))=7+(M (gx (e:=.sl<|.int aw) s.l s.i):Y):=AJ
   rw [w] at c2;refine .inl ⟨rfl,rfl,?_⟩;rw [Wa h0 A0,Je,AD c2]
  ·have c1:s.i<s.n:=A8
   have hk:=Wo h4 h0 A0
   have w:AA (7+(M (gx (e:=.sl<|.int aw) s.l s.i):Y))=7+(M (gx (e:=.sl<|.int aw) s.l s.i):Y):=AJ
   rw [w,AJ (x:=s.i+1),AJ (x:=s.left-(7+(M (gx (e:=.sl<|.int aw) s.l s.i):Y)))]
   show Je _ _=Je _ _
   rw [Wa h0 A0,Je,AE A8]
  ·have c1:s.n<=s.i:=A8
   refine .inr ⟨rfl,?_⟩;rw [F6 A0];rfl)
def aUL:aWf->T LV
 | [.xl (.sl (.int aw)) ds,.v (ag J sz)]=> .req ((M ds<=5000/\I8 ds)/\5<=sz/\sz<=100000) (.ok<|Je (sz-5) ds)
 |_=> .no
def aVI:=vm (S:=aUL) func196 aTF kN (L:=(λi=>if i=3 then SS.lp else Ak i)) (λb hb=>by
 rw [show BD _=[aJA] by kernel_rfl] at hb
 simp only [BA,Bu,Bs] at hb;subst hb;exact ayf) (λargs lv h=>by
 unfold aUL at h;split at h
 ·rename_i ds sz
  refine Aq (letI a:=(M ds:Y);.req (SS.q (⟨X,(AA<|sz-5),ds,a,0⟩:Lw))<|.br (Bb (aT9 (⟨X,(AA<|sz-5),ds,a,0⟩:Lw))<|.ret) (.ok (aQ8 (⟨X,(AA<|sz-5),ds,a,0⟩:Lw)).r)<|.ok U) ?_;obtain ⟨⟨⟨h0,h1⟩,h2,h3⟩,rfl⟩:=h;rw [AJ (x:=sz-5)]
  have hE:oA ⟨X,sz-5,ds,(M ds:Y),0⟩:=⟨rfl,aPH,rfl,h1,by show 0<=sz-5;omega,by show sz-5<=100000;omega⟩
  have q:=ahp _ hE
  refine ⟨⟨hE,rfl,rfl⟩,?_⟩
  have e:Je (sz-5) (ds.drop (0:Y).toNat)=Je (sz-5) ds:=rfl
  rw [<-e];rcases q with ⟨q1,q2,q3⟩ |⟨q1,q2⟩<;>rw [q1]
  ·refine ⟨λ_=>?_,λhc=>by cases hc⟩
   rw [q2];exact B3 (λz=>LV.v<|.bool z) q3.symm
  ·exact ⟨λhc=>(by cases hc),λ_=>B3 (λz=>LV.v<|.bool z) q2.symm⟩
 ·cases h)
structure O9 where
 n:Y
def UH (s:O9):aWf:=[.v<|ag ax s.n]
def Yp (s:O9):aWi:=[]
structure Yb where
 l:aWd
def acO (s:Yb):LV:=.os 0 1 0<|M s.l
def acf (s:Yb):aWi:=[bV 5 (.int aw) s.l]
def zv (s:O9):T Yb:=letI a:=IntKind.u8.wrap<|s.n.fdiv<|2^24;letI b:=IntKind.u8.wrap<|s.n.fdiv<|2^16;letI c:=IntKind.u8.wrap<|s.n.fdiv<|2^8;.re 4 [a,b,c,IntKind.u8.wrap s.n]<|.ok<|⟨[a,b,c,IntKind.u8.wrap s.n]⟩
def aCh (s:O9):Prop:=True
def aVk (s:O9):Yb:=⟨D6 s.n⟩
def UR:D8 O9 Yb:=⟨UH,Yp,λv b=>⟨AK v 0⟩,aCh,[],[],acO,acf,aVk⟩
abbrev ajk (s:O9):Prop:=aCh s/\UH s=UH s/\Yp s=Yp s
def gn:aWp:=[aPn]
def aVB:DS:=E5 prog AV (gn) 20 2
def aqL:Eb prog AV aVB:=Hv<|gk gn
def agG (s:O9):((Ep prog AV gn aVB G9).k 199 (UH s)<|Yp s).bind (λq=>GM (M<|Yp s) [0] [] .normal (q.1::UH s) q.2)=(zv s).mp (λs2=>⟨.normal,M (UH s)+1,[acO s2],acf s2,U⟩):=AU
def axg (s:O9) (hE:aCh s):(zv s).all (λq=>q=aVk s):=by
 exact ⟨A9,rfl⟩
def aw7:Dj prog AV 199 UR.m:=D8.sound (D:=UR) (t:=zv) (gk gn) aqL QR agG λs hE=>⟨axg s hE⟩
def vZ:Dj prog AV 199 (Qn λa=>UR.m a []):=aGW aw7
def aec (m:aWC) (z:Fl):BU (m++[z])=z:=by
 unfold BU GP
 simp
def rh {f:aWe->Fl}{n:aWe}(h:1<=n) (al:aWC):BU (al++((au<|n+1).map f).drop 1)=f n:=by
 rw [Se,KD,ET,LC,aM6 A8,<-Ct];exact aec _ _
def sM {se:Y}{a b:aWd}(h:M a=M b):Hg se a=Hg se b:=by unfold Hg;rw [h]
def akR {se:Y}{fl:aWd}(h:FD se fl=U) {i:Y}(h0:0<=i) (h1:i<(M fl:Y).tdiv se):0<=i*se/\(i+1)*se=i*se+se/\i*se+se<=(M fl:Y):=by
 obtain ⟨hf,h2,h3,h4,h5⟩:=MQ.1 h
 have hm:=(NU.1 hf).2.2.2.2
 have e:=xC (M fl:Y) se
 have h6:(i+1)*se=i*se+se:=A8
 have h7:(i+1)*se<=(M fl:Y).tdiv se*se:=M6 A0 A0
 rw [Int.mul_comm] at e;exact ⟨Im h0 A0,h6,A0⟩
structure Nw where
 r:aWo
 l:aWd
 (n i sH aDE:Y)
 af7:aWk
 wC:Y
 qn:aWo
 (er se:Y)
 fl:aWd
 al:aWC
def zQ (s:Nw):T (Rd Nw):=
 .br (an<|s.i<s.n) (.ix s.i (M s.l)<|.br ((gi s.l s.i) !=255) (.rl s.al<|.so (.ret) {s with r:=U})<|.rl s.al<|.nx {s with i:=AA<|s.i+1}) (.rl s.al<|.so (.exit 0) s)
def kz (s:Nw):Prop:=s.i=0/\s.n<=4096/\s.n=(M s.l:Y)
def jo (s:Nw):Prop:=0<=s.i/\s.i<=s.n/\s.n<=4096/\s.n=(M s.l:Y)
def tl (s:Nw):aWe:=(s.n-s.i).toNat
def abj (x:Ex) (s s':Nw):Prop:=True
def akW:∀s,kz s->jo s:=by
 exact mH
def ayp:Da jo tl abj zQ:=by
 intro s hI;obtain ⟨h0,h1,h2,h3⟩:=hI;refine AH (λc1=>AH (λc2=>trivial) λc2=>?_) λc1=>trivial
 have c1:s.i<s.n:=A8
 rw [AJ (x:=s.i+1)];exact ⟨⟨A8,A8,h2,h3⟩,by simp only [tl];omega⟩
def Yx:AS Nw:=⟨4,26,[3,17,18,19],[],λs=>[s.r,.xl (.int aw) s.l,s.n,s.i],λs=>[⟨[s.sH,.v<|ag ax s.aDE,.xl (.sl<|.int aw) s.af7,s.wC,s.qn],149,.cl,X⟩,⟨[.os 3 2 0<|M s.al,s.er],325,.cl,X⟩,⟨[s.se,.xl (.int aw) s.fl],36,.cl,X⟩,bV 36 Bm s.al],λv b=>⟨DQ v 0,Az (.int aw) v 1,AK v 2,AK v 3,Aj b 0 0,Aj b 0 1,AF (.sl<|.int aw) b 0 2,Aj b 0 3,cgB b 0 4,Aj b 1 1,Aj b 2 0,AF (.int aw) b 2 1,Ac Bm b 3⟩,zQ,λs r=> {s with r:=r.r,i:=r.i},λs=>s,λ_ s=>s,[.ret,.exit 0],kz,jo,tl⟩
abbrev qz:=Yx.run
abbrev fX:=Yx.As
def Wz:aWp:=[fj,zS,aVI,iN,aVM,dQ]
def ahL:B1:=IH Wz (l0 Wz) [⟨193,UO.m,hM⟩,⟨199,Qn λa=>UR.m a [],vZ⟩]
def ayJ:Rq jo zQ:=by
 exact aMM
def aRV:Yx.Ok:={}
def aR7:Yx.Pf (abj):=⟨akW,λs h=>rfl,ayp,ayJ⟩
def rL:=s2 (b:=bN f197 0) aRV aR7 Wz ahL
def asz:Rs kz fX qz (λs:Nw=>(s.l.drop s.i.toNat).all λb=>b==255) (λx s' (v:aWo)=>(x=.ret/\s'.r=U/\v=X)\/(x=.exit 0/\v=U)):=DU aRV aR7 (λs hI=>by
  obtain ⟨h0,h1,h2,h3⟩:=hI;refine AH (λc1=>AH (λc2=>?_) λc2=>?_) λc1=>?_
  ·have c1:s.i<s.n:=A8
   refine .inl ⟨rfl,rfl,?_⟩
   have:(gi s.l s.i==255)=false:=A8
   rw [(gi_step h0 A0).1,Io,this];rfl
  ·have c1:s.i<s.n:=A8
   have:(gi s.l s.i==255)=true:=A8
   rw [AJ (x:=s.i+1)]
   show List.all _ _=List.all _ _
   rw [(gi_step h0 A0).1,Io,this,EU]
  ·have c1:s.n<=s.i:=A8
   refine .inr ⟨rfl,?_⟩;rw [F6 A0];rfl)
structure H5 where
 keep:aWk
 (half other Dq i X6 Vo:Y)
 pM:aWk
 UA:Y
 J1:aWo
 (er se:Y)
 fl:aWd
 al:aWC
def aJ3:=bN f161 0
def Iy (s:H5):Nw:=(⟨X,(s.fl.drop (AA<|s.i*s.se).toNat).take<|(AA<|(AA<|s.i+1)*s.se).toNat-(AA<|s.i*s.se).toNat,(M ((s.fl.drop (AA<|s.i*s.se).toNat).take<|(AA<|(AA<|s.i+1)*s.se).toNat-(AA<|s.i*s.se).toNat):Y),0,s.X6,s.Vo,s.pM,s.UA,s.J1,s.er,s.se,s.fl,s.al⟩:Nw)
def GS (s:H5):Y:=(AA<|(AA<|s.other+1)*s.Dq)
def reI (s:H5):Y:=(AA<|((M s.al:aWe):Y)-1)
def Bi (s:H5):Fl:=(s.al.getD (reI s).toNat<|Ty.dflt Bm)
def V5 (s:H5):T (Rd H5):=
 .br (an<|s.i<(GS s)) (.req (0<=(AA<|s.i*s.se)/\(AA<|s.i*s.se)<=(AA<|(AA<|s.i+1)*s.se)/\(AA<|(AA<|s.i+1)*s.se)<=(M s.fl:Y))<|.rl s.al<|.req (Yx.q<|Iy s)<|.br (Bb (fX<|Iy s)<|.ret) (.br (qz<|Iy s).r (.ik (reI s) (M s.al)<|.br (!((II (Bi s).1 (Bi s).2 s.i)==(0:Y))) (.rl s.al<|.nx {s with i:=AA<|s.i+1,er:=II (Bi s).1 (Bi s).2 s.i})<|.req (0<=(1:Y)/\(1:Y)<=(M (EC (Bi s).1 (Bi s).2 s.i):Y)/\(M (EC (Bi s).1 (Bi s).2 s.i):Y)<=(M (EC (Bi s).1 (Bi s).2 s.i):Y))<|.rb (M s.al) (M<|((EC (Bi s).1 (Bi s).2 s.i).drop (1:Y).toNat).take<|(M (EC (Bi s).1 (Bi s).2 s.i):Y).toNat-(1:Y).toNat) 32<|.re (M s.al+M (((EC (Bi s).1 (Bi s).2 s.i).drop (1:Y).toNat).take<|(M (EC (Bi s).1 (Bi s).2 s.i):Y).toNat-(1:Y).toNat)) (s.al++(((EC (Bi s).1 (Bi s).2 s.i).drop (1:Y).toNat).take<|(M (EC (Bi s).1 (Bi s).2 s.i):Y).toNat-(1:Y).toNat))<|.nx {s with i:=AA<|s.i+1,al:=s.al++(((EC (Bi s).1 (Bi s).2 s.i).drop (1:Y).toNat).take<|(M (EC (Bi s).1 (Bi s).2 s.i):Y).toNat-(1:Y).toNat)})<|.rl s.al<|.nx {s with i:=AA<|s.i+1})<|.br X (.ik (reI s) (M s.al)<|.br (!((II (Bi s).1 (Bi s).2 s.i)==(0:Y))) (.rl s.al<|.nx {s with i:=AA<|s.i+1,er:=II (Bi s).1 (Bi s).2 s.i})<|.req (0<=(1:Y)/\(1:Y)<=(M (EC (Bi s).1 (Bi s).2 s.i):Y)/\(M (EC (Bi s).1 (Bi s).2 s.i):Y)<=(M (EC (Bi s).1 (Bi s).2 s.i):Y))<|.rb (M s.al) (M<|((EC (Bi s).1 (Bi s).2 s.i).drop (1:Y).toNat).take<|(M (EC (Bi s).1 (Bi s).2 s.i):Y).toNat-(1:Y).toNat) 32<|.re (M s.al+M (((EC (Bi s).1 (Bi s).2 s.i).drop (1:Y).toNat).take<|(M (EC (Bi s).1 (Bi s).2 s.i):Y).toNat-(1:Y).toNat)) (s.al++(((EC (Bi s).1 (Bi s).2 s.i).drop (1:Y).toNat).take<|(M (EC (Bi s).1 (Bi s).2 s.i):Y).toNat-(1:Y).toNat))<|.nx {s with i:=AA<|s.i+1,al:=s.al++(((EC (Bi s).1 (Bi s).2 s.i).drop (1:Y).toNat).take<|(M (EC (Bi s).1 (Bi s).2 s.i):Y).toNat-(1:Y).toNat)})<|.rl s.al<|.nx {s with i:=AA<|s.i+1}) (.rl s.al<|.so (.exit 0) s)
def KR (s:H5):Prop:=FD s.se s.fl=U/\(s.other=0\/s.other=1)/\s.Dq*2=(M s.fl:Y).tdiv s.se
def bz (s:H5):Prop:=s.i=s.other*s.Dq/\KR s/\s.er=0/\M s.al=1/\(BU s.al).1=s.se/\M (BU s.al).2=M s.fl
def N0 (s:H5):Prop:=(s.other*s.Dq<=s.i/\s.i<=(s.other+1)*s.Dq)/\KR s/\s.er=0/\(s.al≠ []/\(M s.al:Y)<=1+600*s.i)/\(BU s.al).1=s.se/\M (BU s.al).2=M s.fl
def Xa (s:H5):aWe:=(GS s-s.i).toNat
def wh (x:Ex) (s s':H5):Prop:=x=.exit 0/\s'.er=0/\(s'.al≠ []/\(M s'.al:Y)<=3000000)/\(BU s'.al).1=s'.se/\M (BU s'.al).2=M s'.fl
def ant:∀s,bz s->N0 s:=by
 rintro s ⟨h0,⟨h1,h2,h3⟩,h4,h5,h6,h7⟩
 have hj:=MQ.1 h1
 have hs0:0<=s.Dq:=by have:0<=(M s.fl:Y).tdiv s.se:=(by rw [IL A0];exact Sf A0 A0);omega
 have hz0:(s.other+1)*s.Dq=s.other*s.Dq+s.Dq:=A8
 have ho:0<=s.other*s.Dq:=A8
 exact ⟨⟨A0,A0⟩,⟨h1,h2,h3⟩,h4,⟨A8,A0⟩,h6,h7⟩
def V7 (s:H5) (hI:N0 s) (c1:an (s.i<GS s)=U):reI s=(M s.al:Y)-1/\Bi s=BU s.al/\AA (s.i*s.se)=s.i*s.se/\AA (AA (s.i+1)*s.se)=s.i*s.se+s.se/\AA (s.i+1)=s.i+1/\
  II (BU s.al).1 (BU s.al).2 s.i=0/\EC (BU s.al).1 (BU s.al).2 s.i=erL (BU s.al).1 (BU s.al).2 s.i/\M (erL (BU s.al).1 (BU s.al).2 s.i)=s.se.toNat+1/\0<=s.i*s.se/\s.i*s.se+s.se<=(M s.fl:Y)/\1<=s.se/\s.se<=512/\s.i<GS s/\0<=s.i/\s.i<=4096/\M s.fl<=4096/\GS s=(s.other+1)*s.Dq:=by
 obtain ⟨h0,⟨h1,h2,h3⟩,h4,h5,h6,h7⟩:=hI
 have hj:=MQ.1 h1
 have hf:=NU.1 hj.1
 have hq:(M s.fl:Y).tdiv s.se<=(M s.fl:Y):=aOR
 have hp:=OQ.2 h5.1
 have hz0:(s.other+1)*s.Dq=s.other*s.Dq+s.Dq:=by rw [m7,aC]
 have ho:s.other*s.Dq=0\/s.other*s.Dq=s.Dq:=by rcases h2 with e|e<;>rw [e]<;>simp
 have hz:GS s=s.other*s.Dq+s.Dq:=by unfold GS;rw [AJ (x:=s.other+1),hz0];exact AJ
 have c1:s.i<GS s:=D5 c1
 have hi:reI s=(M s.al:Y)-1:=AJ
 have hk:=akR h1 (i:=s.i) A0 A0
 have hfl:Hg s.se (BU s.al).2=true:=by rw [sM h7];exact hj.1
 have hE:II (BU s.al).1 (BU s.al).2 s.i=0:=by unfold II;rw [h6,hfl,h7,AE A8]
 refine ⟨hi,by unfold Bi BU GP;rw [hi];rfl,AJ,by rw [AJ (x:=s.i+1),hk.2.1];exact AJ,AJ,hE,AD hE,by unfold erL;rw [h6];simp,A0,A0,A0,A0,c1,A0,A0,A0,A0⟩
def aVf (s:H5) (hI:N0 s) (c1:an (s.i<GS s)=U):kz (Iy s):=by
 obtain ⟨hi,hy,w1,w2,wi,hE,hR,hl,n1,n2,n3,n4,n5,n6,n7,n8,n9⟩:=V7 s hI c1;refine ⟨rfl,?_,rfl⟩
 show ((M (List.take _<|List.drop _ s.fl):aWe):Y)<=4096
 simp only [MA,FO];omega
def anr (s:H5) (hI:N0 s):(M s.al:Y)<=3000000:=by
 obtain ⟨h0,⟨h1,h2,h3⟩,h4,h5,h6,h7⟩:=hI
 have hj:=MQ.1 h1
 have hq:(M s.fl:Y).tdiv s.se<=(M s.fl:Y):=aOR
 have hz0:(s.other+1)*s.Dq=s.other*s.Dq+s.Dq:=A8
 have ho:s.other*s.Dq=0\/s.other*s.Dq=s.Dq:=A8
 omega
def aLV (s:H5) (hI:N0 s) (c1:an (s.i<GS s)=U):BU (s.al++(erL (BU s.al).1 (BU s.al).2 s.i).drop 1)=(s.se,Ey (BU s.al).2 (s.i*s.se) s.se.toNat):=by
 obtain ⟨hi,hy,w1,w2,wi,hE,hR,hl,n1,n2,n3,n4,n5,n6,n7,n8,n9⟩:=V7 s hI c1;rw [hI.2.2.2.2.1];exact rh (f:=λk=>(s.se,Ey (BU s.al).2 (s.i*s.se) k)) (n:=s.se.toNat) A0 s.al
def alm:Da N0 Xa wh V5:=by
 intro s hI;unfold V5;dsimp only [T.rd,T.rl,T.rv];refine AH (λc1=>?_) λc1=>⟨rfl,hI.2.2.1,⟨hI.2.2.2.1.1,anr s hI⟩,hI.2.2.2.2.1,hI.2.2.2.2.2⟩
 have hL:=aLV s hI c1
 obtain ⟨hi,hy,w1,w2,wi,hE,hR,hl,n1,n2,n3,n4,n5,n6,n7,n8,n9⟩:=V7 s hI c1;obtain ⟨h0,hK,h4,h5,h6,h7⟩:=hI
 have st:∀al:aWC,al≠ []->(M al:Y)<=601+600*s.i->(BU al).1=s.se->M (BU al).2=M s.fl->N0 {s with i:=s.i+1,al:=al}/\Xa {s with i:=s.i+1,al:=al}<Xa s:=λal a1 a2 a3 a4=>
  ⟨⟨⟨AZ,AZ⟩,hK,h4,⟨a1,AZ⟩,a3,a4⟩,by simp only [Xa];show (GS s-(s.i+1)).toNat<_;omega⟩
 rw [wi];refine AH (λc2=>AH (λc3=>AH (λc4=>?_) λc4=>?_) λc3=>?_) λc2=>?_
 ·grind
 ·rw [hy,hR,De (by rw [FO,hl];omega)]
  refine st _ (by simp [h5.1]) A8 ?_ ?_
  ·grind
  ·show M (BU<|s.al++List.drop 1 _).2=_;rw [hL,cy];exact h7
 all_goals exact st s.al h5.1 A0 h6 h7
def Pz:AS H5:=⟨0,97,[1,6,8,9,10,11,12,13],[],λs=>[.xl (.sl<|.int aw) s.keep,.own 0 0,s.half,.own 1 0,s.other,.fn 197 [.own 2 0],s.Dq,s.i],λs=>[⟨[s.X6,.v<|ag ax s.Vo,.xl (.sl<|.int aw) s.pM,s.UA,s.J1],149,.cl,X⟩,⟨[.os 3 2 0<|M s.al,s.er],325,.cl,X⟩,⟨[s.se,.xl (.int aw) s.fl],36,.cl,X⟩,bV 36 Bm s.al],λv b=>⟨Az (.sl<|.int aw) v 0,AK v 2,AK v 4,AK v 6,AK v 7,Aj b 0 0,Aj b 0 1,AF (.sl<|.int aw) b 0 2,Aj b 0 3,cgB b 0 4,Aj b 1 1,Aj b 2 0,AF (.int aw) b 2 1,Ac Bm b 3⟩,V5,λs r=> {r with keep:=s.keep,half:=s.half,other:=s.other,Dq:=s.Dq,X6:=s.X6,Vo:=s.Vo,pM:=s.pM,UA:=s.UA,J1:=s.J1,se:=s.se,fl:=s.fl},λs=>s,λ_ s=>s,[.exit 0],bz,N0,Xa⟩
abbrev F8:=Pz.run
abbrev aT6:=Pz.As
def alU:Rq N0 V5:=by
 intro s hI;refine ⟨λc1=>⟨?_,A9,?_,λc2=>⟨λc3=>⟨?_,?_,λc4=>⟨A9,ak⟩,λc4=>⟨?_,?_,?_,ak⟩⟩,λc3=>⟨A9,ak⟩⟩,λc2=>⟨λc5=>⟨?_,?_,λc6=>⟨A9,ak⟩,λc6=>⟨?_,?_,?_,ak⟩⟩,λc5=>⟨A9,ak⟩⟩⟩,λc1=>⟨A9,ak⟩⟩
 ·(have hI':=hI.2.2.2.1;have hp:=OQ.2 hI'.1;obtain ⟨hi,hy,w1,w2,wi,hE,hR,hl,n1,n2,n3,n4,n5,n6,n7,n8,n9⟩:=V7 s hI c1;(first|(rw [w1,w2];omega) |(rw [hi];omega) |(rw [hy,hR,hl];omega) |(rw [hy,hR,De AI,FO,hl];omega) |(simp only [BL,FR])))
 ·exact ⟨aVf s hI c1,rfl,rfl⟩
 iterate 10 · (have hI':=hI.2.2.2.1;have hp:=OQ.2 hI'.1;obtain ⟨hi,hy,w1,w2,wi,hE,hR,hl,n1,n2,n3,n4,n5,n6,n7,n8,n9⟩:=V7 s hI c1;(first|(rw [w1,w2];omega) |(rw [hi];omega) |(rw [hy,hR,hl];omega) |(rw [hy,hR,De AI,FO,hl];omega) |(simp only [BL,FR])))
def ahK:B1:=IH Wz (la 2 func197 rL<|l0 Wz) [⟨193,UO.m,hM⟩,⟨199,Qn λa=>UR.m a [],vZ⟩]
def aAm:Pz.Ok:={}
def aAi:Pz.Pf (wh):=⟨ant,λs h=>rfl,alm,alU⟩
def axJ:SA 0 aJ3 Pz:=s1 aAm aAi Wz ahK
def azP:Fi bz N0 wh aT6 F8:=AS.fin aAm aAi
def azO:Rs bz aT6 F8 (λs:H5=>Fz s.se s.fl s.i (GS s-s.i).toNat (s.al,(BU s.al).2)) (λx s' (v:List Fl×List Int)=>x=.exit 0/\(s'.al,(BU s'.al).2)=v):=DU aAm aAi (λs hI=>by
  show DV _ _ ((V5 s).rd s)
  unfold V5;dsimp only [T.rd,T.rl];refine AH (λc1=>?_) λc1=>?_
  ·have hL:=aLV s hI c1
   have q:(fX (Iy s)=.ret/\(qz<|Iy s).r=U/\(((Iy s)).l.drop ((Iy s)).i.toNat).all (λb=>b==255)=X)\/(fX (Iy s)=.exit 0/\(((Iy s)).l.drop ((Iy s)).i.toNat).all (λb=>b==255)=U):=asz _<|aVf s hI c1
   obtain ⟨hi,hy,w1,w2,wi,hE,hR,hl,n1,n2,n3,n4,n5,n6,n7,n8,n9⟩:=V7 s hI c1
   have e:((Iy s)).l.drop ((Iy s)).i.toNat=(s.fl.drop (s.i*s.se).toNat).take s.se.toNat:=by
    show List.drop 0 (List.take _<|List.drop _ s.fl)=_
    grind
   have hw:isW s.se s.fl s.i=!((((Iy s)).l.drop ((Iy s)).i.toNat).all λb=>b==255):=by unfold isW;rw [e]
   have hn:(GS s-s.i).toNat=(GS s-(s.i+1)).toNat+1:=A0
   have h6:=hI.2.2.2.2.1
   rw [hn,wi];simp only [Fz];refine AH (λc2=>AH (λc3=>AH (λc4=>?_) λc4=>?_) λc3=>?_) λc2=>?_
   ·grind
   ·rcases q with ⟨_,_,q3⟩ |⟨q1,_⟩
    ·rw [hy,hR,De AI,hw,q3]
     show Fz s.se s.fl (s.i+1) (GS s-(s.i+1)).toNat (s.al++List.drop 1 _,(BU<|s.al++List.drop 1 _).2)=_
     rw [hL,h6];rfl
    ·rw [WY c2] at q1;cases q1
   ·rcases q with ⟨_,q2,_⟩ |⟨q1,_⟩
    ·rw [q2] at c3;cases c3
    ·rw [WY c2] at q1;cases q1
   ·rcases q with ⟨q1,_,_⟩ |⟨_,q2⟩
    ·rw [q1] at c2;simp [Bb] at c2
    ·rw [hw,q2]
     rfl
  ·have c1:GS s<=s.i:=AX
   rw [show (GS s-s.i).toNat=0 by omega]
   exact ⟨rfl,rfl⟩)
structure My where
 (half other:Y)
 l:aWk
 (n i er:Y)
 bytes:aWd
 al:aWC
def aJ4:=bN f161 1
def aCz (s:My):T (Rd My):=
 .br (an<|s.i<s.n) (.ix s.i (M s.l)<|.req (M (gx (e:=.sl<|.int aw) s.l s.i)<=70000)<|.rb (M s.bytes) (M<|Bw<|gx (e:=.sl<|.int aw) s.l s.i) 1<|.re (M s.bytes+M (Bw<|gx (e:=.sl<|.int aw) s.l s.i)) (s.bytes++(Bw<|gx (e:=.sl<|.int aw) s.l s.i))<|.rl s.al<|.nx {s with i:=AA<|s.i+1,bytes:=s.bytes++(Bw<|gx (e:=.sl<|.int aw) s.l s.i)}) (.rl s.bytes<|.rl s.al<|.so (.exit 2) s)
def nw (s:My):Prop:=s.i=0/\s.n<=5000/\s.n=(M s.l:Y)/\I8 s.l/\(M s.bytes:Y)<=4+70100*s.i
def oE (s:My):Prop:=0<=s.i/\s.i<=s.n/\s.n<=5000/\s.n=(M s.l:Y)/\I8 s.l/\(M s.bytes:Y)<=4+70100*s.i
def aB0 (s:My):aWe:=(s.n-s.i).toNat
def aLw (x:Ex) (s s':My):Prop:=True
def anu:∀s,nw s->oE s:=by
 exact aI
def al6:Da oE aB0 aLw aCz:=by
 intro s hI;obtain ⟨h0,h1,h2,h3,h4,h5⟩:=hI;refine AH (λc1=>?_) λc1=>trivial
 ·have c1:s.i<s.n:=A8
  have hk:=Wo h4 h0 A0
  have hp:=MJ<|gx (e:=.sl<|.int aw) s.l s.i
  rw [AJ (x:=s.i+1)];exact ⟨⟨A8,A8,h2,h3,h4,A8⟩,by simp only [aB0];omega⟩
def Q0:AS My:=⟨0,97,[8,9,10,14,69,70,71],[],λs=>[s.half,.own 0 0,s.other,.os 1 1 0<|M s.bytes,.xl (.sl<|.int aw) s.l,s.n,s.i],λs=>[⟨[.os 2 2 0<|M s.al,s.er],325,.cl,X⟩,bV 5 (.int aw) s.bytes,bV 36 Bm s.al],λv b=>⟨AK v 0,AK v 2,Az (.sl<|.int aw) v 4,AK v 5,AK v 6,Aj b 0 1,Ac (.int aw) b 1,Ac Bm b 2⟩,aCz,λs r=> {s with i:=r.i,bytes:=r.bytes},λs=>s,λ_ s=>s,[.exit 2],nw,oE,aB0⟩
abbrev Na:=Q0.run
abbrev aht:=Q0.As
def alV:Rq oE aCz:=by
 intro s hI;refine ⟨λc1=>⟨?_,?_,?_,?_,A9,ak⟩,λc1=>⟨A9,A9,ak⟩⟩
 all_goals ((obtain ⟨h0,h1,h2,h3,h4,h5⟩:=hI;have c1:s.i<s.n:=A8;have hk:=Wo h4 h0 A0;have hp:=MJ<|gx (e:=.sl<|.int aw) s.l s.i;(first|omega|(simp only [CT,BL];omega) |simp only [CT,BL,FR])))
def XQ:aWp:=[fj,zS,aVI,iN,aVM,dQ]
def vd:B1:=IH XQ (la 2 func197 rL<|l0 XQ) [⟨193,UO.m,hM⟩,⟨199,Qn λa=>UR.m a [],vZ⟩]
def abA:Q0.Ok:={}
def aVr:Q0.Pf (aLw):=⟨anu,λs h=>rfl,al6,alV⟩
def aya:SA 0 aJ4 Q0:=s1 abA aVr XQ vd
def azQ:Rs nw aht Na (λs:My=>s.bytes++BR (s.l.drop s.i.toNat)) (λx s' (v:aWd)=>x=.exit 2/\s'.bytes=v):=DU abA aVr (λs hI=>by
  obtain ⟨h0,h1,h2,h3,h4,h5⟩:=hI;refine AH (λc1=>?_) λc1=>?_
  ·have c1:s.i<s.n:=A8
   rw [AJ (x:=s.i+1)]
   show _++_++_=_++_
   rw [Wa h0 A0];simp only [BR,lO,Ct,CT]
  ·have c1:s.n<=s.i:=A8
   refine ⟨rfl,?_⟩;rw [F6 A0]
   simp [BR])
def aU1:Ut:=λi=>if i=21 then ah ([8,9,10,14],[.pb 14<|.int aw]) else if i=22 then ah ([8,9,10],[]) else aj
def aUj:aWf->T LV
 | [.agg [.v (ag J se),.xl (.int aw) fl],.xl (.sl (.int aw)) ds]=> .req (BJ fl/\M ds<=5000/\I8 ds) (.ok<|.AO [.xl Bm<|G4 se fl ds,G5 se fl ds])
 |_=> .no
def akT {se:Y}{fl:aWd}(h:FD se fl=U):letI a:=((M fl / 2:aWe):Y);a.tdiv se*2=(M fl:Y).tdiv se/\0<=a.tdiv se/\a.tdiv se<=2048:=by
 obtain ⟨hf,h2,h3,h4,h5⟩:=MQ.1 h
 have e:=xC (M fl:Y) se
 rw [(NU.1 hf).2.2.2.2,Int.add_zero] at e
 have e2:=xC ((M fl:Y).tdiv se) 2
 have e3:((M fl / 2:aWe):Y)=se*((M fl:Y).tdiv se).tdiv 2:=by
  have:se*(M fl:Y).tdiv se=2*(se*((M fl:Y).tdiv se).tdiv 2):=A8
  omega
 have e4:((M fl / 2:aWe):Y).tdiv se=((M fl:Y).tdiv se).tdiv 2:=by rw [e3];exact Int.mul_tdiv_cancel_left _ A0
 have hq:0<=((M fl / 2:aWe):Y).tdiv se/\((M fl / 2:aWe):Y).tdiv se<=((M fl / 2:aWe):Y):=by
  rw [IL A0];exact ⟨Sf A0 A0,VF _ A0⟩
 omega
def agi (l:aWd):0<=H7 l/\H7 l<4294967296:=by
 unfold H7 nm4 DY;rw [T1];omega
def aU0 (fl:aWd):Au fl=0\/Au fl=1:=aPG
def FV (se:Y) (fl:aWd) (ds:aWk):H5:=(⟨ds,AA<|(M fl:Y).tdiv 2,AA<|1-(Er se fl),AA<|(AA<|(M fl:Y).tdiv 2).tdiv se,AA<|(AA<|1-(Er se fl))*(AA<|(AA<|(M fl:Y).tdiv 2).tdiv se),Er se fl,Ia se fl,FB se fl,HP se fl,Kv se fl,0,se,fl,[(se,((([]:aWd)++fl).drop 0).take<|0+M fl)]⟩:H5)
def MN (se:Y) (fl:aWd) (ds:aWk):My:=(⟨AA<|(M fl:Y).tdiv 2,AA<|1-(Er se fl),ds,(M ds:Y),0,(F8<|FV se fl ds).er,D6<|IntKind.u32.wrap<|(Ia se fl)+1,(F8<|FV se fl ds).al⟩:My)
def ap1 (se:Y) (fl:aWd) (ds:aWk):Gt:=(⟨AA<|(AA<|(AA<|1-(Er se fl))*(AA<|(M fl:Y).tdiv 2))+1,((Na<|MN se fl ds).bytes.drop 0).take<|M (Na<|MN se fl ds).bytes,(F8<|FV se fl ds).er,(F8<|FV se fl ds).al⟩:Gt)
def ap0 (se:Y) (fl:aWd) (ds:aWk):Gt:=(⟨AA<|(AA<|1-(Er se fl))*(AA<|(M fl:Y).tdiv 2),[(80:Y)],JT (F8<|FV se fl ds).al (F8<|FV se fl ds).er (AA<|(AA<|(AA<|1-(Er se fl))*(AA<|(M fl:Y).tdiv 2))+1)<|((Na<|MN se fl ds).bytes.drop 0).take<|M (Na<|MN se fl ds).bytes,spA (F8<|FV se fl ds).al (AA<|(AA<|(AA<|1-(Er se fl))*(AA<|(M fl:Y).tdiv 2))+1)<|((Na<|MN se fl ds).bytes.drop 0).take<|M (Na<|MN se fl ds).bytes⟩:Gt)
def rwX (se:Y) (fl:aWd) (ds:aWk):Y:=(AA<|(AA<|1-(Er se fl))*(AA<|(M fl:Y).tdiv 2))
def rwY (se:Y) (fl:aWd) (ds:aWk):aWd:=(((Na<|MN se fl ds).bytes.drop 0).take<|M (Na<|MN se fl ds).bytes)
def N3 (se:Y) (fl:aWd) (ds:aWk):aWC:=(spA (F8<|FV se fl ds).al (AA<|(rwX se fl ds)+1)<|rwY se fl ds)
def rwW (se:Y) (fl:aWd) (ds:aWk):Y:=(JT (F8<|FV se fl ds).al (F8<|FV se fl ds).er (AA<|(rwX se fl ds)+1)<|rwY se fl ds)
def rwA (se:Y) (fl:aWd) (ds:aWk):aWC:=(spA (N3 se fl ds) (rwX se fl ds)<|[(80:Y)])
def agp (se:Y) (fl:aWd) (ds:aWk):letI b:=(AA<|(M fl:Y).tdiv 2);letI c:=FV se fl ds;letI d:=IntKind.u32.wrap<|(Ia se fl)+1;letI e:=rwA se fl ds;letI f:=N3 se fl ds;letI a:=(JT f (rwW se fl ds) (rwX se fl ds)<|[(80:Y)]);j4 prog AV (XQ) vd (λi=>if i=11 then Pz.lp else if i=17 then Q0.lp else Ak i) aU1 f161 [.agg [se,.xl (.int aw) fl],.xl (.sl<|.int aw) ds]=.req (BJ fl) (.br ((Br se fl) !=0) (.ok<|.AO [.xl Bm ([]:aWC),Br se fl])<|.req ((2:Y)≠0)<|.req ((M ds<=5000/\I8 ds)/\5<=b/\b<=100000)<|.br ((!(Je (b-5) ds)) ||((Ia se fl)==4294967295)) (.ok<|.AO [.xl Bm ([]:aWC),(10:Y)])<|.ra 0 (M ([]:aWd)) (0+M fl) 1<|.req (0+(0+M fl)<=M (([]:aWd)++fl))<|.rv (.v<|ag J<|Er se fl)<|.req (se≠0)<|.re 1 [(se,((([]:aWd)++fl).drop 0).take<|0+M fl)]<|.req (Pz.q c)<|.req (ajk (⟨d⟩:O9))<|.rl (D6 d)<|.rl (F8 c).al<|.req (Q0.q<|MN se fl ds)<|.rz (Na<|MN se fl ds).bytes<|.rl (F8 c).al<|.rl (F8 c).al<|.req (gY<|ap1 se fl ds)<|.rl f<|.rl f<|.req (gY<|ap0 se fl ds)<|.br (!(a==(0:Y))) (.ok<|.AO [.xl Bm ([]:aWC),a])<|.rz e<|.ok<|.AO [.xl Bm<|(e.drop 0).take<|M e,(0:Y)]):=AU
def aVX:VV 161 (uS f161 aUj):=aE7 (cs:=aU1) func161 rfl (gk XQ) vd.h (L:=(λi=>if i=11 then Pz.lp else if i=17 then Q0.lp else Ak i)) (λb hb=>by
 rw [show BD _=[aJ3,aJ4] by kernel_rfl] at hb
 simp only [BA,Bu,Bs] at hb;rcases hb with rfl|rfl
 ·exact axJ
 ·exact aya) (λargs lv h=>by
 unfold aUj at h;split at h
 ·simp only [canL,canX]
  rw [agp];rename_i se fl ds;obtain ⟨⟨hb,hn,hk⟩,rfl⟩:=h
  have bad:∀e:Y,e≠0->G5 se fl ds=e->LV.AO [.xl Bm ([]:aWC),.v<|ag J e]=LV.AO [.xl Bm<|G4 se fl ds,.v<|ag J<|G5 se fl ds]:=λe h0 h1=>by unfold G4;rw [h1,AE h0]
  refine ⟨hb,λc1=>?_,λc1=>?_⟩
  ·have c1:Br se fl≠0:=AX
   exact bad _ c1 (by unfold G5;rw [AD c1])
  have hE:Br se fl=0:=AX
  have hj:FD se fl=true:=by
   cases e:FD se fl
   ·unfold Br at hE;rw [AD e] at hE;cases hE
   ·rfl
  have hq:=MQ.1 hj
  have hh:AA ((M fl:Y).tdiv 2)=((M fl / 2:aWe):Y):=by
   exact aN0
  have hA:Er se fl=Au fl:=aPU
  have hG:Ia se fl=JM fl (Au fl):=by unfold Ia;rw [AD hE]
  have hc:=aU0 fl
  have w0:AA (1-Au fl)=1-Au fl:=AJ
  have hF:Je (((M fl / 2:aWe):Y)-5) ds=rwF fl ds:=by
   rw [aSl _ _ A0];unfold rwF
   congr 1
   rw [decide_eq_decide];omega
  refine ⟨Ab,⟨⟨hn,hk⟩,by rw [hh];omega,by rw [hh];omega⟩,λc2=>?_,λc2=>?_⟩<;>rw [hh,hF,hG] at c2
  ·exact bad 10 Ab (by unfold G5;rw [AE yt,AD c2])
  have hR:G5 se fl ds=0:=by unfold G5;rw [AE yt,AE bJ]
  simp only [Ga,IK,CQ,ne_eq] at c2
  have hsum:5+M (BR ds)<=M fl / 2:=by
   have:=c2.1
   unfold rwF at this;simp only [AY,Aa] at this;rw [qb];exact this.1
  obtain ⟨k1,k2,k3⟩:=akT hj
  have hm:∀x:Y,0<=x->x<=2048->AA ((1-Au fl)*x)=(1-Au fl)*x/\0<=(1-Au fl)*x/\(1-Au fl)*x<=x:=λx x0 x1=>by
   have:(1-Au fl)*x=0\/(1-Au fl)*x=x:=aPB
   exact ⟨AJ,A0,A0⟩
  have hst:FV se fl ds=⟨ds,((M fl / 2:aWe):Y),1-Au fl,((M fl / 2:aWe):Y).tdiv se,(1-Au fl)*((M fl / 2:aWe):Y).tdiv se,Au fl,Ia se fl,FB se fl,HP se fl,Kv se fl,0,se,fl,[(se,fl)]⟩:=by
   unfold FV;rw [hh,hA,w0,AJ (x:=((M fl / 2:aWe):Y).tdiv se),(hm _ k2 k3).1,EX,CT,Ek,El]
  have hE0:bz (FV se fl ds):=by rw [hst];exact ⟨rfl,⟨hj,by show 1-Au fl=0\/1-Au fl=1;omega,k1⟩,rfl,rfl,rfl,rfl⟩
  obtain ⟨_,_,q1,q2,q3,q4,q5⟩:=azP _ hE0
  have q6:((F8<|FV se fl ds).al,(BU (F8<|FV se fl ds).al).2)=HZ se fl:=by
   have:=(azO _ hE0).2
   rw [this,hst];unfold HZ
   have hz:GS ⟨ds,((M fl / 2:aWe):Y),1-Au fl,((M fl / 2:aWe):Y).tdiv se,(1-Au fl)*((M fl / 2:aWe):Y).tdiv se,Au fl,Ia se fl,FB se fl,HP se fl,Kv se fl,0,se,fl,[(se,fl)]⟩=(1-Au fl)*((M fl / 2:aWe):Y).tdiv se+((M fl / 2:aWe):Y).tdiv se:=by
    have:=hm _ k2 k3
    show AA (AA (1-Au fl+1)*((M fl / 2:aWe):Y).tdiv se)=_
    rw [AJ (x:=1-Au fl+1),m7,aC];exact AJ
   show Fz se fl _ (GS _-(1-Au fl)*((M fl / 2:aWe):Y).tdiv se).toNat _=_
   rw [hz]
   congr 1
   omega
  have r1:(F8<|FV se fl ds).se=se/\(F8<|FV se fl ds).fl=fl:=by rw [hst];exact ⟨rfl,rfl⟩
  rw [r1.1] at q4;rw [r1.2] at q5
  have q7:(BU (F8<|FV se fl ds).al).2=(HZ se fl).2:=B3 Prod.snd q6
  have hl:BU (F8<|FV se fl ds).al=(se,(HZ se fl).2):=Prod.ext q4 q7
  have ha:(F8<|FV se fl ds).al=(HZ se fl).1:=B3 Prod.fst q6
  have hEb:nw (MN se fl ds):=⟨rfl,aPH,rfl,hk,by show ((4:aWe):Y)<=4+70100*0;decide⟩
  have hY:rwY se fl ds=Eh fl ds:=by
   have q:=(azQ _ hEb).2
   have hg:=agi<|((Bn fl<|Au fl).drop 1).take 4
   have hw:IntKind.u32.wrap (Ia se fl+1)=JM fl (Au fl)+1:=by
    have:=c2.2
    rw [hG,T1];unfold JM at*;omega
   unfold rwY Eh;rw [CT,El,q,<-hw];rfl
  have hX:rwX se fl ds=HB fl:=by unfold rwX HB;rw [hA,w0,hh];exact (hm _ A0 A0).1
  obtain ⟨_,o1,o2⟩:=hm ((M fl / 2:aWe):Y) A0 A0
  have oO:HB fl=(1-Au fl)*((M fl / 2:aWe):Y):=rfl
  have hX1:AA (rwX se fl ds+1)=HB fl+1:=by rw [hX];exact AJ
  have hBl:M (Eh fl ds)=4+M (BR ds):=by unfold Eh;rw [BL];rfl
  rw [hl] at q5
  have q5:M (HZ se fl).2=M fl:=q5
  have hv:∀b:aWd,M b=M fl->Hg se b=true:=λb e=>by rw [sM e];exact hq.1
  have p1:FH se (HZ se fl).2 (HB fl+1) (Eh fl ds)=0:=by
   unfold FH
   grind
  have hV:N3 se fl ds=(HZ se fl).1++(Dt se (HZ se fl).2 (HB fl+1)<|Eh fl ds).drop 1:=by
   unfold N3 spA;rw [hX1,hY,hl,AD p1,ha]
  have hW:rwW se fl ds=0:=by unfold rwW JT;rw [hX1,hY,hl,AD p1];exact q2
  have hlV:BU (N3 se fl ds)=(se,rwP se fl ds):=by
   rw [hV];unfold Dt;exact rh (f:=λk=>(se,Dl (HZ se fl).2 (HB fl+1) (Eh fl ds) k)) (n:=M<|Eh fl ds) A0 _
  have p2:FH se (rwP se fl ds) (HB fl) [80]=0:=by
   have:M (rwP se fl ds)=M fl:=by unfold rwP;rw [TA];exact q5
   unfold FH
   grind
  have hAA:rwA se fl ds=G4 se fl ds:=by
   unfold rwA spA G4;rw [hX,hlV,AD p2,AD hR,hV,Ct]
  have hz:JT (N3 se fl ds) (rwW se fl ds) (rwX se fl ds) [80]=0:=by unfold JT;rw [hX,hlV,AD p2];exact hW
  have hVl:M (N3 se fl ds)<=3100000:=by
   have:=q3.2
   rw [hV,<-ha,BL,FO];unfold Dt;rw [GB,Sd,hBl];omega
  refine ⟨⟨Ab,A0,A0⟩,AI,rfl,A0,AI,⟨hE0,rfl,rfl⟩,⟨ak,rfl,rfl⟩,A9,A9,⟨hEb,rfl,rfl⟩,A0,A9,A9,⟨⟨q3.1,by show M (F8<|FV se fl ds).al<=4000000;omega,by show M (rwY se fl ds)<=5000;rw [hY,hBl];omega⟩,rfl,rfl⟩,A9,A9,⟨⟨?_,by show M (N3 se fl ds)<=4000000;omega,by show 1<=5000;decide⟩,rfl,rfl⟩,λc=>?_,λ_=>⟨A0,?_⟩⟩
  ·show N3 se fl ds≠ []
   intro hn
   have:BU (N3 se fl ds)=BU []:=by rw [hn]
   rw [hlV] at this
   have:=B3 Prod.fst this
   have:se=0:=this
   omega
  ·rw [hz] at c;cases c
  ·rw [CT,El,hAA,hR]
   rfl
 ·cases h)
def aU7:aWf->T LV
 | [.agg [.v (ag J se),.xl (.int aw) fl],.xl (.int aw) d]=> .req (BJ fl/\M d<=70000/\(Br se fl=0->lkC fl=U)) (.ok<|.AO [.xl Bm<|Hh se fl d,Ew se fl d])
 |_=> .no
def aQs (se:Y) (fl:aWd) (a:Y) (d:aWd):[(se,fl)]++(Dt se fl a d).drop 1=Dt se fl a d:=by
 unfold Dt;rw [List.range_succ_eq_map];rfl
def ahX {fl:aWd}(h:10<=M fl):(Ez fl).2.1<=M fl / 2:=by
 have:=cu fl<|Au fl
 have:=ur (b:=Bn fl<|Au fl) (n:=M<|Bn fl<|Au fl) (f:=5) A0
 unfold Ez;omega
def aoz (se:Y) (fl d:aWd):Gt:=(⟨AA<|(AA<|(AA<|(Er se fl)*(AA<|(M fl:Y).tdiv 2))+(HP se fl))+1,((Bw d).drop (1:Y).toNat).take<|(M (Bw d):Y).toNat-(1:Y).toNat,0,[(se,((([]:aWd)++fl).drop 0).take<|0+M fl)]⟩:Gt)
def aos (se:Y) (fl d:aWd):Gt:=letI a:=(AA<|(AA<|(Er se fl)*(AA<|(M fl:Y).tdiv 2))+(HP se fl));letI b:=(((Bw d).drop (1:Y).toNat).take<|(M (Bw d):Y).toNat-(1:Y).toNat);letI c:=(se,((([]:aWd)++fl).drop 0).take<|0+M fl);(⟨a,((Bw d).drop (0:Y).toNat).take<|(1:Y).toNat-(0:Y).toNat,JT ([c]) (0:Y) (AA<|a+1) b,spA ([c]) (AA<|a+1) b⟩:Gt)
def axP (se:Y) (fl d:aWd):Y:=(AA<|(AA<|(Er se fl)*(AA<|(M fl:Y).tdiv 2))+(HP se fl))
def axY (se:Y) (fl d:aWd):aWd:=(((Bw d).drop (1:Y).toNat).take<|(M (Bw d):Y).toNat-(1:Y).toNat)
def axZ (se:Y) (fl d:aWd):aWd:=(((Bw d).drop (0:Y).toNat).take<|(1:Y).toNat-(0:Y).toNat)
def axQ (se:Y) (fl d:aWd):aWC:=([(se,((([]:aWd)++fl).drop 0).take<|0+M fl)])
def axV (se:Y) (fl d:aWd):aWC:=(spA (axQ se fl d) (AA<|(axP se fl d)+1)<|axY se fl d)
def axW (se:Y) (fl d:aWd):Y:=(JT (axQ se fl d) (0:Y) (AA<|(axP se fl d)+1)<|axY se fl d)
def axA (se:Y) (fl d:aWd):aWC:=(spA (axV se fl d) (axP se fl d)<|axZ se fl d)
def gj:aWp:=[fj,aVX,zS,iN,dQ]
def aTS:B1:=IH gj (la 2 func197 rL<|l0 gj) [⟨193,UO.m,hM⟩]
def agL (se:Y) (fl d:aWd):letI a:=(M (Bw d):Y);letI c:=axV se fl d;letI e:=axA se fl d;letI b:=JT c (axW se fl d) (axP se fl d)<|axZ se fl d;j4 prog AV (gj) aTS Ak aU3 f158 [.agg [se,.xl (.int aw) fl],.xl (.int aw) d]=.req (BJ fl) (.br ((Br se fl) !=0) (.ok<|.AO [.xl Bm ([]:aWC),Br se fl])<|.req ((2:Y)≠0)<|.br ((an<|(M d:Y)>65535) ||(an<|(AA<|7+(M d:Y))>(AA<|(AA<|(M fl:Y).tdiv 2)-(HP se fl)))) (.ok<|.AO [.xl Bm ([]:aWC),(10:Y)])<|.br (!(Kv se fl)) (.no /-append to xl -/)<|.ra 0 (M ([]:aWd)) (0+M fl) 1<|.req (0+(0+M fl)<=M (([]:aWd)++fl))<|.rv (.v<|ag J<|Er se fl)<|.rv (.v<|ag J<|HP se fl)<|.req (M d<=70000)<|.re 1 (axQ se fl d)<|.req (0<=(1:Y)/\(1:Y)<=a/\a<=a)<|.rl (axQ se fl d)<|.req (gY<|aoz se fl d)<|.rl c<|.req (0<=(0:Y)/\(0:Y)<=(1:Y)/\(1:Y)<=a)<|.rl c<|.req (gY<|aos se fl d)<|.br (!(b==(0:Y))) (.ok<|.AO [.xl Bm ([]:aWC),b])<|.rz e<|.ok<|.AO [.xl Bm<|(e.drop 0).take<|M e,(0:Y)]):=AU
def akk:VV 158 (uS f158 aU7):=aE7 (cs:=aU3) func158 rfl (gk gj) aTS.h (qQ AU) (λargs lv h=>by
 unfold aU7 at h;split at h
 ·simp only [canL,canX]
  rw [agL];rename_i se fl d;obtain ⟨⟨hb,hd,hcl⟩,rfl⟩:=h;refine ⟨hb,λc1=>?_,λc1=>?_⟩
  ·have c1:Br se fl≠0:=AX
   unfold Hh Ew;rw [AD c1,AD c1];rfl
  have hE:Br se fl=0:=AX
  have hj:FD se fl=true:=by
   cases e:FD se fl
   ·unfold Br at hE;rw [AD e] at hE;cases hE
   ·rfl
  have hq:=MQ.1 hj
  have hh:AA ((M fl:Y).tdiv 2)=((M fl / 2:aWe):Y):=by
   exact aN0
  have hA:Er se fl=Au fl:=aPU
  have hN:HP se fl=((Ez fl).2.1:Y):=by unfold HP;rw [AD hE]
  have hC:Kv se fl=true:=by unfold Kv;rw [AD hE];exact hcl hE
  have hl:=ahX (fl:=fl) A0
  have hc:=aU0 fl
  have hF:((an<|(M d:Y)>65535) ||(an<|(AA<|7+(M d:Y))>(AA<|(AA<|(M fl:Y).tdiv 2)-(HP se fl))))=apF se fl d:=by
   rw [hh,hN,AJ (x:=7+(M d:Y)),AJ (x:=((M fl / 2:aWe):Y)-((Ez fl).2.1:Y))];unfold apF;rw [Ip];simp only [Cj,Aa];omega
  have e0:¬Br se fl≠0:=yt
  refine ⟨Ab,λc2=>?_,λc2=>⟨λc3=>?_,λc3=>?_⟩⟩<;>rw [hF] at c2
  ·unfold Hh Ew
   rw [AE e0,AE e0,AD c2,AD c2];rfl
  ·rw [hC] at c3;cases c3
  have hR:Hh se fl d=Hi se fl d:=by unfold Hh;rw [AE e0,AE bJ,AD<|hcl hE]
  have hZ0:Ew se fl d=0:=by unfold Ew;rw [AE e0,AE bJ,AD<|hcl hE]
  unfold apF at c2;simp only [Ga,DC] at c2
  have hm:Au fl*((M fl / 2:aWe):Y)=0\/Au fl*((M fl / 2:aWe):Y)=((M fl / 2:aWe):Y):=aPB
  have hP:axP se fl d=GV fl:=by
   unfold axP GV;rw [hh,hA,hN,AJ (x:=Au fl*((M fl / 2:aWe):Y))];exact AJ
  have oP:GV fl=Au fl*((M fl / 2:aWe):Y)+((Ez fl).2.1:Y):=rfl
  have hP1:AA (axP se fl d+1)=GV fl+1:=by rw [hP];exact AJ
  have hpl:=MJ d
  have hY:axY se fl d=(Bw d).drop 1:=by unfold axY;exact De yr
  have hZ:axZ se fl d=[80]:=rfl
  have hQ:axQ se fl d=[(se,fl)]:=by unfold axQ;rw [EX,CT,Ek,El]
  have hYl:M ((Bw d).drop 1)=6+M d:=yr
  have hL0:BU [(se,fl)]=(se,fl):=rfl
  have p1:FH se fl (GV fl+1) ((Bw d).drop 1)=0:=by
   unfold FH
   grind
  have hV:axV se fl d=Dt se fl (GV fl+1) ((Bw d).drop 1):=by
   unfold axV spA;rw [hP1,hY,hQ,hL0,AD p1,aQs]
  have hW:axW se fl d=0:=by unfold axW JT;rw [hP1,hY,hQ,hL0,AD p1]
  have hlV:BU (axV se fl d)=(se,apB fl d):=by
   rw [hV,<-aQs];exact rh (f:=λk=>(se,Dl fl (GV fl+1) ((Bw d).drop 1) k)) (n:=M<|(Bw d).drop 1) A0 _
  have hBl:M (apB fl d)=M fl:=TA _ _ _ _
  have p2:FH se (apB fl d) (GV fl) [80]=0:=by
   unfold FH;rw [sM hBl,hq.1,AE (by simp only [Bool.not_true,D4,Aa];omega),AE (by rw [hBl];show ¬GV fl>(M fl:Y)-((1:aWe):Y);omega)]
  have hAA:axA se fl d=Hi se fl d:=by
   unfold axA spA Hi;rw [hP,hZ,hlV,AD p2,hV]
  have hz:JT (axV se fl d) (axW se fl d) (axP se fl d) (axZ se fl d)=0:=by unfold JT;rw [hP,hZ,hlV,AD p2];exact hW
  have hVl:M (axV se fl d)=7+M d:=by rw [hV];unfold Dt;rw [GB,Sd,hYl];omega
  refine ⟨⟨Ab,A0,A0⟩,AI,rfl,rfl,hd,by rw [hQ];exact A9,⟨A0,A0,A0⟩,A9,⟨⟨by show axQ se fl d≠ [];rw [hQ];simp,by show M (axQ se fl d)<=4000000;rw [hQ];show 1<=4000000;decide,by show M (axY se fl d)<=5000;rw [hY,hYl];omega⟩,rfl,rfl⟩,A9,⟨A0,A0,A0⟩,A9,⟨⟨by show axV se fl d≠ [];intro hn;rw [hn] at hVl;simp at hVl;omega,by show M (axV se fl d)<=4000000;omega,by show 1<=5000;decide⟩,rfl,rfl⟩,λc=>?_,λ_=>⟨A0,?_⟩⟩
  ·rw [hz] at c;cases c
  ·rw [CT,El,hAA,hR,hZ0]
   rfl
 ·cases h)
def aTd:aWf->T LV
 | [.agg [.v (ag J se),.xl (.int aw) fl],.v (.agg ⟨[ag J x1,ag J x2,ag J x3,ag J x4,ag J x5]⟩),.v (ag J t)]=> .req (BJ fl/\(Br se fl=0->lkC fl=U)) (.ok<|.AO [.xl Bm<|Cq se fl (x1,x2,x3,x4,x5) t,ER se fl (x1,x2,x3,x4,x5) t])
 |_=> .no
def aiJ:aWp:=[XT,Wf,akk,aVU,ajd,aVX]
def apb {x:Le}:B4 [x]=DI x:=by
 unfold B4;rw [Ip,AY,Dx];refine ⟨λh=>?_,λh=>⟨rfl,λk hk=>?_⟩⟩
 ·have:=h.2 0 AI
  unfold Gy at this;rw [AY] at this;exact this.1
 ·have:k=0:=A8
  subst this;unfold Gy;rw [AY];exact ⟨h,rfl⟩
def abT {l:aWn}{x:Le}{t:Y}(h:Cm l t=0):M (Ig l x t)<=5000/\I8 (Ig l x t):=by
 have hk:=aIO h
 unfold Ig;rw [AD h];unfold IG;refine ⟨?_,λd hd=>?_⟩
 ·simp only [BL,GB,Bj,Bt]
  grind
 ·rcases BX.1 hd with hd|hd
  ·obtain ⟨y,_,rfl⟩:=F5.1 hd;rw [KW];omega
  ·rcases BX.1 hd with hd|hd
   ·split at hd
    ·rw [HI.1 hd,KW];omega
    ·cases hd
   ·rw [HI.1 hd,KW];omega
def aVT:=vo (S:=aTd) func110 aiJ kN (λargs lv h=>by
 unfold aTd at h;split at h
 ·rename_i se fl x1 x2 x3 x4 x5 t
  refine Aq (letI d:=(B2 (x1,x2,x3,x4,x5));letI g:=Ad se fl;letI i:=BJ fl/\M d<=70000/\(Br se fl=0->lkC fl=U);letI k:=Ew se fl d;letI b:=(Ig g (x1,x2,x3,x4,x5) t);letI f:=(AA<|(M g:Y)-1);letI j:=BJ fl/\M b<=5000/\I8 b;.req (BJ fl)<|.br ((C2 se fl) !=0) (.ok<|.AO [.xl Bm ([]:aWC),(C2 se fl)])<|.br (!(B4<|[(x1,(x2,(x3,(x4,x5))))])) (.ok<|.AO [.xl Bm ([]:aWC),(1:Y)])<|.br (an<|t<0) (.ok<|.AO [.xl Bm ([]:aWC),(1:Y)])<|.br (an<|t>1100000) (.ok<|.AO [.xl Bm ([]:aWC),(1:Y)])<|.br (an<|(M g:Y)>0) (.ix f (M g)<|.br (an<|x1<=(Ag g f).1) (.ok<|.AO [.xl Bm ([]:aWC),(12:Y)])<|.ix f (M g)<|.br (an<|x4<(Ag g f).2.2.2.1) (.ok<|.AO [.xl Bm ([]:aWC),(12:Y)])<|.req i<|.br (k !=10) (.ok<|.AO [.xl Bm<|Hh se fl d,k])<|.br ((Cm g t) !=0) (.ok<|.AO [.xl Bm ([]:aWC),(Cm g t)])<|.req j<|.ok<|.AO [.xl Bm<|G4 se fl b,(G5 se fl b)])<|.req i<|.br (k !=10) (.ok<|.AO [.xl Bm<|Hh se fl d,k])<|.br ((Cm g t) !=0) (.ok<|.AO [.xl Bm ([]:aWC),(Cm g t)])<|.req j<|.ok<|.AO [.xl Bm<|G4 se fl b,(G5 se fl b)]) ?_;obtain ⟨⟨hb,hcl⟩,rfl⟩:=h
  have fin:∀ {a:aWC} {e:Y},Cq se fl (x1,x2,x3,x4,x5) t=a/\ER se fl (x1,x2,x3,x4,x5) t=e->LV.AO [.xl Bm a,.v<|ag J e]=LV.AO [.xl Bm<|Cq se fl (x1,x2,x3,x4,x5) t,.v<|ag J<|ER se fl (x1,x2,x3,x4,x5) t]:=λh=>by rw [h.1,h.2]
  refine ⟨hb,λc1=>fin ?_,λc1=>?_⟩
  ·have c1:C2 se fl≠0:=AX
   unfold Cq ER;rw [AD c1,AD c1];exact ⟨rfl,rfl⟩
  have c1:¬C2 se fl≠0:=AX
  rw [apb]
  have bad:(!DI (x1,x2,x3,x4,x5) || !inB t 0 1100000)=U->Cq se fl (x1,x2,x3,x4,x5) t=[]/\ER se fl (x1,x2,x3,x4,x5) t=1:=λh=>by
   unfold Cq ER;rw [AE c1,AE c1,AD h,AD h];exact ⟨rfl,rfl⟩
  refine ⟨λc2=>fin<|bad (by rw [c2];rfl),λc2=>⟨λc3=>fin<|bad ?_,λc3=>⟨λc4=>fin<|bad ?_,λc4=>?_⟩⟩⟩
  iterate 2
   ·rw [Cj]
    refine .inr ?_
    have e:inB t 0 1100000=false:=by
     cases e:inB t 0 1100000
     ·rfl
     ·have:=BV.1 e
      simp only [Aa,DC] at c3
      try simp only [Aa] at c4
      omega
    rw [e];rfl
  have ht:inB t 0 1100000=true:=BV.2 (by simp only [DC] at c3 c4;omega)
  have hx:DI (x1,x2,x3,x4,x5)=true:=EY
  have hv:=aAu<|Zl.1 c1
  have hE:Cm (Ad se fl) t=0:=by unfold Cm JF;rw [hv,ht];rfl
  have hb':¬((!DI (x1,x2,x3,x4,x5) || !inB t 0 1100000)=U):=by rw [hx,ht];decide
  have hl:=(GH hv).1
  have w:=λc5:0<M (Ad se fl)=>AJ (x:=(M (Ad se fl):Y)-1)
  have hO:0<M (Ad se fl)->HV (Ad se fl) (x1,x2,x3,x4,x5)=(an (x1<=(Ag (Ad se fl)<|(M (Ad se fl):Y)-1).1) ||an (x4<(Ag (Ad se fl)<|(M (Ad se fl):Y)-1).2.2.2.1)):=λc5=>by
   unfold HV;rw [show an (M (Ad se fl)>0)=U from Cg c5];rfl
  have old:HV (Ad se fl) (x1,x2,x3,x4,x5)=U->Cq se fl (x1,x2,x3,x4,x5) t=[]/\ER se fl (x1,x2,x3,x4,x5) t=12:=λh=>by
   unfold Cq ER;rw [AE c1,AE c1,AE hb',AE hb',AD h,AD h];exact ⟨rfl,rfl⟩
  refine ⟨λc5=>?_,λc5=>?_⟩
  ·have c5:0<M (Ad se fl):=by simpa using c5
   have hO:=hO c5
   rw [w c5];refine ⟨A0,λc6=>fin<|old (by rw [hO,c6];rfl),λc6=>⟨A0,λc7=>fin<|old<|by rw [hO,c7,Sb],λc7=>?_⟩⟩
   have hO:HV (Ad se fl) (x1,x2,x3,x4,x5)=false:=by rw [hO,c6,c7];rfl
   have hk:Ig (Ad se fl) (x1,x2,x3,x4,x5) t=IG (Ad se fl) (x1,x2,x3,x4,x5) t:=AD hE
   have hk':=hk▸abT (x:=(x1,x2,x3,x4,x5)) hE
   rw [hk,hE]
   have hO:¬(HV (Ad se fl) (x1,x2,x3,x4,x5)=U):=by rw [hO];decide
   refine ⟨⟨hb,by rw [KW];decide,hcl⟩,λc=>fin ?_,λc=>⟨λc'=>(by cases c'),λ_=>⟨⟨hb,hk'⟩,fin ?_⟩⟩⟩<;>unfold Cq ER<;>rw [AE c1,AE c1,AE hb',AE hb',AE hO,AE hO]
   ·have c:Ew se fl (B2 (x1,x2,x3,x4,x5))≠10:=Ir
    rw [AD c,AD c];exact ⟨rfl,rfl⟩
   ·have c:¬Ew se fl (B2 (x1,x2,x3,x4,x5))≠10:=Ir
    rw [AE c,AE c];exact ⟨rfl,rfl⟩
  ·have hO:HV (Ad se fl) (x1,x2,x3,x4,x5)=false:=by unfold HV;rw [show an (M (Ad se fl)>0)=X by simpa using c5];rfl
   have hk:Ig (Ad se fl) (x1,x2,x3,x4,x5) t=IG (Ad se fl) (x1,x2,x3,x4,x5) t:=AD hE
   have hk':=hk▸abT (x:=(x1,x2,x3,x4,x5)) hE
   rw [hk,hE]
   have hO:¬(HV (Ad se fl) (x1,x2,x3,x4,x5)=U):=by rw [hO];decide
   refine ⟨⟨hb,by rw [KW];decide,hcl⟩,λc=>fin ?_,λc=>⟨λc'=>(by cases c'),λ_=>⟨⟨hb,hk'⟩,fin ?_⟩⟩⟩<;>unfold Cq ER<;>rw [AE c1,AE c1,AE hb',AE hb',AE hO,AE hO]
   ·have c:Ew se fl (B2 (x1,x2,x3,x4,x5))≠10:=Ir
    rw [AD c,AD c];exact ⟨rfl,rfl⟩
   ·have c:¬Ew se fl (B2 (x1,x2,x3,x4,x5))≠10:=Ir
    rw [AE c,AE c];exact ⟨rfl,rfl⟩
 ·cases h)
def ajo {fl:aWd}{g:Y}{vl:aWn}{k:aWe}{O:aWd}{x:Le}{t:Y}{w:Y}(h:JI fl w g (vl.map B2) k O) (hv:B4 vl=U) (hx:Fb vl x=0) (ht:inB t 0 1100000=U) (hk:19<=k):
  ER 512 fl x t=0/\(∃fl',GP (Cq 512 fl x t) ((M (Cq 512 fl x t):Y)-1)=(512,fl')/\JI fl' w g ((vl++[x]).map B2) (k-19) O)/\B4 (vl++[x])=true:=by
 obtain ⟨h1,h2⟩:=abP h hv
 have hl:=KW x
 have hx':=hx
 unfold Fb at hx'
 have hlx:DI x=true:=by
  cases e:DI x
  ·grind
  ·rfl
 rw [hv,hlx] at hx'
 have ho:HV vl x=false:=by
  by_cases hg:M vl>0
  ·have hf:K4 (Ag vl<|(M vl:Y)-1) x=true:=by
    cases e:K4 (Ag vl<|(M vl:Y)-1) x
    ·grind
    ·rfl
   unfold K4 at hf;unfold HV
   grind
  ·unfold HV;simp;intro h;omega
 have hfull:=h.full (d:=B2 x) A0 A0
 have hap:Ew 512 fl (B2 x)=0:=by
  unfold Ew;rw [h.Un,hfull,h.cl];rfl
 have har:Hh 512 fl (B2 x)=Hi 512 fl (B2 x):=by
  unfold Hh;rw [h.Un,hfull,h.cl];rfl
 have hE:ER 512 fl x t=0:=by
  unfold ER;rw [h1,h2,hap,hlx,ht,ho];rfl
 have hL:Cq 512 fl x t=Hi 512 fl (B2 x):=by
  unfold Cq;rw [h1,h2,hap,hlx,ht,ho,har];rfl
 refine ⟨hE,⟨Dl (apB fl<|B2 x) (GV fl) [80] 1,?_,?_⟩,?_⟩
 ·rw [hL]
  have hne:Hi 512 fl (B2 x)≠ []:=by
   unfold Hi Dt
   simp
  have:=aH1 512 fl (B2 x) (0,[])
  unfold GP;exact this
 ·have:=h.app (tG x) A0 (by rw [hl];omega)
  rw [KD];exact this
 ·have hg:=(vh (x:=x) hv).1
  unfold grS GJ at hg;rw [AD hx,AD hx] at hg;exact hg
structure QV where
 p:PK
 vl:aWn
 ok:aWo
def V6 (t:Y) (s:SN×List Le×Bool) (x:Le):SN×List Le×Bool:=
 if Fb s.1.ls x=0 then (if Fb s.2.1 x=0/\inB t 0 1100000=U/\19*(M s.2.1+1)<=1019 then (⟨GJ s.1.ls x,0,[],x.1+1,s.1.lk++[Te t x]⟩,s.2.1++[x],s.2.2) else (s.1,s.2.1,X)) else s
def PC (t:Y) (xs:aWn) (s:SN×List Le×Bool):aWe->SN×List Le×Bool
 |0=>s
 |k+1=>V6 t (PC t xs s k)<|Ag xs k
def RV (se:Y) (fl:aWd) (vl:aWn):Prop:=se=512/\B4 vl=U/\∃k O,JI fl 0 0 (vl.map B2) k O/\k+19*M vl=1019
def RN (s:SN) (q:SN×List Le×Bool):Prop:=q.1={s with se:=0,fl:=[]}/\RV s.se s.fl q.2.1
def arE {t:Y}{s:SN×List Le×Bool}{x:Le}(h:(V6 t s x).2.2=U):s.2.2=true:=by
 unfold V6 at h;split at h
 ·split at h
  ·exact h
  ·cases h
 ·exact h
def arq {t:Y}{s:SN}{q:SN×List Le×Bool}{x:Le}(h:RN s q) (hq:(V6 t q x).2.2=U):RN (FA t s x) (V6 t q x):=by
 obtain ⟨h1,h2,h3,k,O,h4,h5⟩:=h
 have hls:q.1.ls=s.ls:=by rw [h1]
 unfold V6 at hq|-;unfold FA;rw [hls] at hq|-
 by_cases hg:Fb s.ls x=0
 ·rw [AD hg] at hq|-
  by_cases hc:Fb q.2.1 x=0/\inB t 0 1100000=U/\19*(M q.2.1+1)<=1019
  ·rw [AD hc] at hq|-
   obtain ⟨c1,c2,c3⟩:=hc;obtain ⟨e1,⟨fl',e2,e3⟩,e4⟩:=ajo (t:=t) h4 h3 c1 c2 A0;rw [h2] at*;rw [AD ⟨hg,e1⟩,e2];refine ⟨A8,rfl,e4,k-19,O,e3,?_⟩;simp only [BL,Bj,Bt];omega
  ·rw [AE hc] at hq
   cases hq
 ·rw [AE hg,AE λhh=>hg hh.1]
  exact ⟨h1,h2,h3,k,O,h4,h5⟩
def aG5 {t:Y}{xs:aWn}{s:SN}{q:SN×List Le×Bool}(h:RN s q):∀n,(PC t xs q n).2.2=U->RN (EK t xs s n) (PC t xs q n)
 |0,_=>h
 |n+1,hq=>arq (aG5 h n<|arE hq) hq
namespace QV
variable (q : QV)
def sn:SN×List Le×Bool:=PC q.p.tk q.p.dL (q.p.HA,q.vl,q.ok)<|M q.p.dL
def dec:QV:=if q.p.up=X then q else if q.p.dE≠0 then {q with p:={q.p with ls:=Dn q.p.ls q.p.tk}} else ⟨{q.p with ra:=q.p.dR,ls:=q.sn.1.ls,nx:=q.sn.1.nx,lk:=q.sn.1.lk},q.sn.2.1,q.sn.2.2⟩
def bef:QV:={q.dec with p:=q.dec.p.JO.V1}
def tick:QV:={q.bef with p:=q.bef.p.CR.Jv.endP}
def Kp:aWd:=q.bef.p.dw.dw
end QV
def RP (p:PK) (q:QV):Prop:=q.p={p with se:=0,fl:=[]}/\RV p.se p.fl q.vl
def avx {p:PK}{q:QV}(h:RP p q) (hq:q.dec.ok=U):RP p.AM q.dec:=by
 obtain ⟨qp,vl,ok⟩:=q;obtain ⟨h1,h2⟩:=h;subst h1
 have eq:QV.dec ⟨{p with se:=0,fl:=[]},vl,ok⟩=if p.up=X then ⟨{p with se:=0,fl:=[]},vl,ok⟩ else if p.dE≠0 then ⟨{p with se:=0,fl:=[],ls:=Dn p.ls p.tk},vl,ok⟩ else
  ⟨{p with se:=0,fl:=[],ra:=p.dR,ls:=(PC p.tk p.dL ({p.HA with se:=0,fl:=[]},vl,ok)<|M p.dL).1.ls,nx:=(PC p.tk p.dL ({p.HA with se:=0,fl:=[]},vl,ok)<|M p.dL).1.nx,lk:=(PC p.tk p.dL ({p.HA with se:=0,fl:=[]},vl,ok)<|M p.dL).1.lk},
   (PC p.tk p.dL ({p.HA with se:=0,fl:=[]},vl,ok)<|M p.dL).2.1,(PC p.tk p.dL ({p.HA with se:=0,fl:=[]},vl,ok)<|M p.dL).2.2⟩:=rfl
 rw [eq] at hq|-;unfold PK.AM
 by_cases hu:p.up=X
 ·rw [AD hu,AD hu]
  exact ⟨rfl,h2⟩
 ·rw [AE hu] at hq
  rw [AE hu,AE hu]
  by_cases hd:p.dE≠0
  ·rw [AD hd,AD hd]
   exact ⟨rfl,h2⟩
  ·rw [AE hd] at hq
   rw [AE hd,AE hd]
   have hs:RN p.HA ({p.HA with se:=0,fl:=[]},vl,ok):=⟨rfl,h2⟩
   obtain ⟨k1,k2⟩:=aG5 hs (M p.dL) hq;refine ⟨?_,k2⟩;rw [k1];rfl
def aon {p:PK}{q:QV}(h:RP p q) (hq:q.tick.ok=U):RP p.Bh q.tick/\p.Kp=q.Kp:=by
 obtain ⟨h1,h2⟩:=avx h hq;refine ⟨⟨?_,h2⟩,?_⟩
 ·show q.dec.p.JO.V1.CR.Jv.endP=_
  rw [h1];rfl
 ·show _=q.dec.p.JO.V1.dw.dw
  rw [h1];rfl
def aTt {pre mid post:aWd}:∀k,k<=M mid->Ey (pre++(mid++post)) (M pre:Y) k=pre++(aq k 255++(mid.drop k++post))
 |0,_=>by simp [Ey]
 |k+1,hk=>by
  simp only [Ey];rw [aTt k A0]
  have e1:(M pre:Y)+(k:Y)=((M pre+k:aWe):Y):=A0
  have hd:mid.drop k=mid[k]::mid.drop (k+1):=SZ A0
  rw [e1,By,lS _ _ A0,xH,lS _ _ AI,Ci,m6,hd];rw [lT,Ct];rfl
def auu {pre mid post:aWd}{n:aWe}(h:M mid=n):Ey (pre++(mid++post)) (M pre:Y) n=pre++(aq n 255++post):=by
 rw [aTt n A0,List.drop_of_length_le A0];rfl
def aj8 {l:aWd}{n:aWe}(hl:M l=n) (h:l.all (λb=>b==255)=U):l=aq n 255:=by
 rw [List.eq_replicate_iff]
 grind
def aTr {pre mid post f0:aWd}{s:Y}{a:aWC}{n:aWe}(hm:M mid=512) (hs:s*512=(M pre:Y)) (hf:(f0.drop<|M pre).take 512=mid):
  ∃a',Fz 512 f0 s (n+1) (a,pre++(mid++post))=Fz 512 f0 (s+1) n (a',pre++(aq 512 255++post)):=by
 have hw:isW 512 f0 s=!mid.all (λb=>b==255):=by
  unfold isW;rw [hs,By]
  show (!((f0.drop<|M pre).take 512).all _)=_
  rw [hf]
 have e:Fz 512 f0 s (n+1) (a,pre++(mid++post))=Fz 512 f0 (s+1) n (if isW 512 f0 s=U then (a++(erL 512 (pre++(mid++post)) s).drop 1,Ey (pre++(mid++post)) (s*512) 512) else (a,pre++(mid++post))):=rfl
 rw [e];split
 ·rw [hs,auu hm]
  grind
 ·rename_i hn
  have:mid.all (λb=>b==255)=true:=A8
  have h2:=aj8 hm this
  grind
def aqk {O:aWd}(h:M O=1024):∃M1 M2,O=M1++M2/\M M1=512/\M M2=512:=⟨O.take 512,O.drop 512,(List.take_append_drop _ _).symm,A8,A8⟩
def aJn {pre post M1 M2 f0:aWd}{s:Y}{a:aWC}(h1:M M1=512) (h2:M M2=512) (hs:s*512=(M pre:Y)) (hf:f0=pre++(M1++(M2++post))):
  (Fz 512 f0 s 2 (a,f0)).2=pre++(aq 1024 255++post):=by
 have f1:(f0.drop<|M pre).take 512=M1:=A8
 have f2:(f0.drop<|M<|pre++aq 512 255).take 512=M2:=by
  rw [hf,BL,Ci,<-Ct,List.drop_left' A8,List.take_left' h2]
 have e0:Fz 512 f0 s 2 (a,f0)=Fz 512 f0 s 2 (a,pre++(M1++(M2++post))):=A8
 rw [e0];obtain ⟨a1,e1⟩:=aTr (a:=a) (n:=1) (post:=M2++post) h1 hs f1;rw [e1]
 have e2:pre++(aq 512 255++(M2++post))=(pre++aq 512 255)++(M2++post):=(Ct _ _ _).symm
 rw [e2];obtain ⟨a2,e3⟩:=aTr (a:=a1) (n:=0) (s:=s+1) (post:=post) h2 A8 f2;rw [e3]
 show (pre++aq 512 255)++(aq 512 255++post)=_
 rw [Ct,<-Ct<|aq 512 255,xK]
def aCs (A O:aWd):JH 0 A O=A++O:=AD rfl
def aCr (A O:aWd):JH 1 A O=O++A:=AE Ab
def akr (A O:aWd):JH (1-0) A O=O++A:=AE Ab
def akq (A O:aWd):JH (1-1) A O=A++O:=AD rfl
namespace JI
variable {fl : List Int} {w g : Int} {ds : List (List Int)} {k : Nat} {O : List Int}
def ers (h:JI fl w g ds k O):(HZ 512 fl).2=JH w (Dc g ds k) (aq 1024 255):=by
 obtain ⟨M1,M2,e,h1,h2⟩:=aqk h.lo;unfold HZ;rw [h.half,h.cur.1]
 have e2:((((1024:aWe):Y).tdiv 512).toNat)=2:=Ab
 have e3:(((1024:aWe):Y).tdiv 512)=2:=Ab
 rw [e2,e3]
 have he:=h.eq
 rcases h.hw with rfl|rfl
 ·have:=aJn (pre:=Dc g ds k) (post:=[]) (M1:=M1) (M2:=M2) (f0:=fl) (s:=(1-0)*2) (a:=[(512,fl)]) h1 h2 (by rw [h.la];rfl) (by rw [he,e,aCs];simp only [Ct,EX,Gb,KG])
  rw [this,aCs]
  grind
 ·have:=aJn (pre:=[]) (post:=Dc g ds k) (M1:=M1) (M2:=M2) (f0:=fl) (s:=(1-1)*2) (a:=[(512,fl)]) h1 h2 Ab (by rw [he,e,aCr];simp only [Ct,EX,Gb,KG])
  rw [this,aCr]
  grind
def rew (h:JI fl w g ds k O) {ds':aWk}(hg:g+1<4294967296) (hd:∀d∈ds',BJ d/\M d<=65535) (hf:5+M (BR ds')<=1024):
  JI (Dl (rwP 512 fl ds') (HB fl) [80] 1) (1-w) (g+1) ds' (1024-(5+M (BR ds'))) (Dc g ds k):=by
 have hO:HB fl=(1-w)*1024:=by unfold HB;rw [h.half,h.cur.1];rfl
 have hB:Eh fl ds'=D6 (g+1)++BR ds':=by unfold Eh;rw [h.cur.1,h.gen]
 have hBl:M (Eh fl ds')=4+M (BR ds'):=by rw [hB,BL];rfl
 have hBb:BJ (Eh fl ds'):=by rw [hB,KU];exact ⟨WD _,ru λd hd'=>(hd d hd').1⟩
 have hj:Dc (g+1) ds' (1024-(5+M (BR ds')))=80::(Eh fl ds'++aq (1024-(5+M (BR ds'))) 255):=by rw [hB];unfold Dc;simp
 have h255:aq 1024 (255:Y)=255::(aq (M<|Eh fl ds') 255++aq (1024-(5+M (BR ds'))) 255):=by
  rw [xK,<-Zs,hBl]
  congr 1
  omega
 have key:∀pre post:aWd,(M pre:Y)=(1-w)*1024->(HZ 512 fl).2=pre++(aq 1024 255++post)->Dl (rwP 512 fl ds') (HB fl) [80] 1=pre++(Dc (g+1) ds' (1024-(5+M (BR ds')))++post):=by
  intro pre post hp he
  have e1:rwP 512 fl ds'=pre++(255::(Eh fl ds'++(aq (1024-(5+M (BR ds'))) 255++post))):=by
   unfold rwP;rw [he,hO,<-hp,h255]
   have:=fI (pre:=pre++[255]) (post:=aq (1024-(5+M (BR ds'))) 255++post) (d:=Eh fl ds') hBb
   have e9:(M ((pre++[255]:aWd)):Y)=(M pre:Y)+1:=AI
   rw [e9] at this
   have e0:pre++(255::(aq (M<|Eh fl ds') 255++aq (1024-(5+M (BR ds'))) 255)++post)=pre++[255]++(aq (M<|Eh fl ds') 255++(aq (1024-(5+M (BR ds'))) 255++post)):=by simp only [Ct,EX,Gb,KG]
   rw [e0,this];simp only [Ct,EX,Gb,KG]
  rw [e1,hO,<-hp]
  have:=fI (pre:=pre) (post:=Eh fl ds'++(aq (1024-(5+M (BR ds'))) 255++post)) (d:=[80]) aP0
  refine Eq.trans this ?_;rw [hj];simp only [Ct,EX,Gb,KG]
 refine ⟨?_,by rw [Ou];omega,h.la,h.bja,by rcases h.hw with rfl|rfl<;>decide,by have:=h.hg;omega,λ_=>?_,hd⟩
 ·rcases h.hw with rfl|rfl
  ·refine (key (Dc g ds k) [] (by rw [h.la];rfl) (by rw [h.ers,aCs];simp only [Ct,EX,Gb,KG])).trans ?_
   rw [akr]
   grind
  ·refine (key [] (Dc g ds k) Ab (by rw [h.ers,aCr];simp only [Ct,EX,Gb,KG])).trans ?_
   rw [akq]
   grind
 ·rw [aIp h.hg];omega
def aoE (h:JI fl w g ds k O) {ds':aWk}(hg:g+1<4294967296):G5 512 fl ds'=if rwF fl ds'=U then 0 else 10:=by
 unfold G5;rw [h.Un,AE Ab,h.cur.1,h.gen]
 grind
end JI
def aox {se:Y}{fl:aWd}{ds:aWk}(h:G5 se fl ds=0) (y:Fl):(G4 se fl ds).getLastD y=(se,Dl (rwP se fl ds) (HB fl) [80] 1):=by
 unfold G4;rw [AD h]
 have e:(Dt se (rwP se fl ds) (HB fl) [80]).drop 1=[(se,Dl (rwP se fl ds) (HB fl) [80] 1)]:=by
  rfl
 rw [e,ln]
 simp
def ayr {se:Y}{fl:aWd}{ds:aWk}(h:G5 se fl ds=0):G4 se fl ds≠ []:=by
 unfold G4;rw [AD h];intro hh
 have:=B3 M hh
 simp [Dt] at this
def aGV {l:aWC}{y:Fl}(h:l≠ []):GP l ((M l:Y)-1)=l.getLastD y:=by
 have hp:=OQ.2 h
 unfold GP;rw [ln,List.getLast?_eq_getElem?,DJ,show ((M l:Y)-1).toNat=M l-1 by omega,Dg A0]
 rfl
structure VI (se:Y) (fl:aWd) (vl:aWn) (g:Y):Prop where
 se:se=512
 lv:B4 vl=U
 ji:∃w k O,JI fl w g (vl.map B2) k O
 g:g<=(vl.map (·.1)).getLastD 0
def VI.ld {se:Y}{fl:aWd}{vl:aWn}{g:Y}(h:VI se fl vl g):C2 se fl=0/\Ad se fl=vl:=by
 obtain ⟨w,k,O,hj⟩:=h.ji
 have:=abP hj h.lv
 rwa [h.se]
def apQ {l:aWn}(h:M l>0):(l.map (·.1)).getLastD 0=(Ag l<|(M l:Y)-1).1:=by
 have e:((M l:Y)-1).toNat=M l-1:=A0
 unfold Ag;rw [ln,List.getLast?_map,List.getLast?_eq_getElem?,DJ,e,Dg A0];rfl
def kpV (l:aWn) (x:Le) (t:Y):aWn:=BB l t++((if M l>0/\(M (BB l t)=0\/(Ag (BB l t)<|(M (BB l t):Y)-1).1≠(Ag l<|(M l:Y)-1).1) then [Ag l<|(M l:Y)-1] else [])++[x])
def aSi {l:aWn}{x:Le}{t:Y}:IG l x t=(kpV l x t).map B2:=by
 unfold IG kpV
 grind
def awz {l:aWn}{x:Le}(h:HV l x=X) (hv:B4 l=U):letI a:=(Ag l<|(M l:Y)-1);M l>0->a.1<x.1/\a.2.2.2.1<=x.2.2.2.1:=by
 unfold HV at h
 simp at h
 omega
def aDm {l:aWn}(h:M l>0):l=l.dropLast++[Ag l<|(M l:Y)-1]:=by
 have hne:=OQ.1 h
 have:Ag l ((M l:Y)-1)=l.getLast hne:=by
  rw [La A0,List.getLast_eq_getElem]
  congr 1
  omega
 rw [this];exact (List.dropLast_concat_getLast hne).symm
def apq (m:aWn) (z:Le):Ag (m++[z]) ((M (m++[z]):Y)-1)=z:=by
 unfold Ag
 simp
def avT {se:Y}{fl d:aWd}:Hi se fl d≠ []:=by
 unfold Hi Dt
 simp
def aFV {l:aWn}{x:Le}{t:Y}:(kpV l x t).Sublist (l++[x]):=by
 unfold kpV;rw [<-Ct];refine List.Sublist.append ?_<|List.Sublist.refl _
 have hs:(BB l t).Sublist l:=by
  unfold BB;split
  ·simp_all
  ·grind
 split
 ·rename_i hc
  obtain ⟨h1,h2⟩:=hc
  have hl:=aDm h1
  generalize hz:Ag l ((M l:Y)-1)=z at*
  have he:(BB l t).Sublist l.dropLast:=by
   unfold BB at h2|-;split
   ·rename_i ho
    rw [AD ho] at h2;rw [hl,Zu] at h2
    have hf:l.filter (L1 t)=l.dropLast.filter (L1 t)++[z].filter (L1 t):=by
     grind
    rw [hf];cases hb:L1 t z
    ·simp only [N8,hb,List.filter_nil]
     simp
    ·exfalso
     have e1:[z].filter (L1 t)=[z]:=A8
     rw [e1] at h2;rcases h2 with h2|h2
     ·simp at h2
     ·apply h2
      rw [apq]
   ·grind
  conv=>rhs;rw [hl]
  grind
 ·grind
def rp {vl:aWn}:M (BR<|vl.map B2)=19*M vl:=by
 induction vl with
 |nil=>rfl
 |cons x vl ih=>
  have e:BR ((x::vl).map B2)=Bw (B2 x)++BR (vl.map B2):=rfl
  rw [e,BL,MJ,KW,ih,Bj];omega
def aqo (ds:aWk):(ds.map λd=>7+M d).sum=M (BR ds):=(qb ds).symm
def VI.len {se:Y}{fl:aWd}{vl:aWn}{g:Y}(h:VI se fl vl g):M vl<=53:=by
 obtain ⟨w,k,O,hj⟩:=h.ji
 have:=hj.la
 rw [Ou,rp] at this;omega
def zc {se:Y}{fl:aWd}{vl:aWn}{g:Y}{x:Le}{t:Y}(h:VI se fl vl g) (hE:ER se fl x t=0):
  ∃vl' g',VI (GP (Cq se fl x t)<|(M (Cq se fl x t):Y)-1).1 (GP (Cq se fl x t)<|(M (Cq se fl x t):Y)-1).2 vl' g'/\(vl'=vl++[x]\/vl'=kpV vl x t)/\B4 (vl++[x])=U/\(M vl>0->(Ag vl<|(M vl:Y)-1).1<x.1):=by
 obtain ⟨h1,h2⟩:=h.ld
 have hlen:=h.len
 obtain ⟨w,k,O,hj⟩:=h.ji
 have hse:=h.se
 subst hse
 have hla:=hj.la
 rw [Ou,rp] at hla;unfold ER at hE
 have hL:Cq 512 fl x t=if C2 512 fl≠0 then [] else if (!DI x || !inB t 0 1100000)=U then [] else if HV (Ad 512 fl) x=U then [] else
  if Ew 512 fl (B2 x)≠10 then Hh 512 fl (B2 x) else G4 512 fl (IG (Ad 512 fl) x t):=rfl
 rw [AE A0] at hE hL
 by_cases c1:(!DI x || !inB t 0 1100000)=U
 ·rw [AD c1] at hE;cases hE
 rw [AE c1] at hE hL
 have hx:DI x=true:=by
  simp only [Cj,D2,not_or,Q5] at c1;exact c1.1
 by_cases c2:HV (Ad 512 fl) x=U
 ·rw [AD c2] at hE;cases hE
 rw [AE c2] at hE hL;rw [h2] at c2 hE hL
 have ho:=awz EY h.lv
 have hsn:B4 (vl++[x])=true:=aFP h.lv hx A0 (by
  by_cases hz:M vl=0
  ·exact .inl hz
  ·right
   obtain ⟨o1,o2⟩:=ho A0;unfold K4;rw [Cg (p:=x.1>_) o1,Cg (p:=x.2.2.2.1>=_) o2];rfl)
 have hg:g<x.1:=by
  by_cases hz:M vl>0
  ·have:=h.g
   rw [apQ hz] at this
   have:=(ho hz).1
   omega
  ·have e:vl=[]:=M8.1 A0
   have:=h.g
   rw [e] at this
   have h0:g<=0:=this
   have:=(LQ.1 hx).1.1
   omega
 have hlx:=(LQ.1 hx).1.2
 by_cases c3:apF 512 fl (B2 x)=U
 ·have hap:Ew 512 fl (B2 x)=10:=by
   unfold Ew;rw [hj.Un,c3];rfl
  rw [hap,AE Ab] at hE hL
  have hr:G5 512 fl (IG vl x t)=0:=hE
  rw [hL]
  have hf:rwF fl (IG vl x t)=true:=by
   have:=hj.aoE (ds':=IG vl x t) A0
   rw [hr] at this
   by_cases hq:rwF fl (IG vl x t)=U
   ·exact hq
   ·rw [AE hq] at this;cases this
  rw [aGV (y:=(0,[]))<|ayr hr,aox hr];unfold rwF at hf;rw [AY,hj.half,aqo] at hf
  have hfit:=D5 hf.1
  refine ⟨kpV vl x t,g+1,⟨rfl,pt hsn aFV,⟨1-w,1024-(5+M (BR<|IG vl x t)),Dc g (vl.map B2) k,?_⟩,?_⟩,.inr rfl,hsn,λhz=>(ho hz).1⟩
  ·rw [<-aSi]
   exact hj.rew A0 (λd hd=>by rw [aSi] at hd;obtain ⟨y,_,rfl⟩:=F5.1 hd;exact ⟨tG y,by rw [KW];omega⟩) hfit
  ·have:((kpV vl x t).map (·.1)).getLastD 0=x.1:=by
    unfold kpV
    simp
   rw [this];omega
 ·have hap:Ew 512 fl (B2 x)=0:=by
   unfold Ew;exact aMl
  have har:Hh 512 fl (B2 x)=Hi 512 fl (B2 x):=by
   unfold Hh;exact aMl
  rw [hap,AD Ab,har] at hL;rw [hL,aGV (y:=(0,[])) avT,aH1]
  have hk:19<=k:=by
   unfold apF at c3;rw [hj.half,hj.lk,KW,rp] at c3
   simp at c3
   omega
  refine ⟨vl++[x],g,⟨rfl,hsn,⟨w,k-(7+M (B2 x)),O,?_⟩,?_⟩,.inl rfl,hsn,λhz=>(ho hz).1⟩
  ·have:=hj.app (tG x) (by rw [KW];omega) (by rw [KW];exact hk)
   rw [KD,ET,LC];simp only;exact this
  ·rw [KD,ln]
   simp
   omega
def FN (se:Y) (n:aWe) (y:Fl):Prop:=y.1=se/\M y.2=n/\BJ y.2
def gN {se:Y}{fl:aWd}{a:Y}{d:aWd}{n:aWe}(h:FN se n (se,fl)):∀y∈Dt se fl a d,FN se n y:=by
 intro y hy;obtain ⟨k,_,rfl⟩:=F5.1 hy;exact ⟨rfl,(TA _ _ _ _).trans h.2.1,tF h.2.2 _ _ _⟩
def ai1 {se:Y}{fl:aWd}{s:Y}{n:aWe}(h:FN se n (se,fl)):∀y∈erL se fl s,FN se n y:=by
 intro y hy;obtain ⟨k,_,rfl⟩:=F5.1 hy;exact ⟨rfl,(cy _ _ _).trans h.2.1,aTs h.2.2 _ _⟩
def sT {se:Y}{f0:aWd}{n:aWe}:∀(m:aWe) (s:Y) (a:List Fl×List Int),(∀y∈a.1,FN se n y)->FN se n (se,a.2)->(∀y∈(Fz se f0 s m a).1,FN se n y)/\FN se n (se,(Fz se f0 s m a).2)
 |0,_,_,h1,h2=>⟨h1,h2⟩
 | m+1,s,a,h1,h2=>by
  unfold Fz;split
  ·refine sT m (s+1) _ (λy hy=>?_) ⟨rfl,(cy _ _ _).trans h2.2.1,aTs h2.2.2 _ _⟩
   rcases BX.1 hy with hy|hy
   ·grind
   ·exact ai1 h2 y<|Q4 hy
  ·exact sT m (s+1) a h1 h2
def aj1 {se:Y}{fl d:aWd}{n:aWe}(h:FN se n (se,fl)):∀y∈Hi se fl d,FN se n y:=by
 intro y hy;rcases BX.1 hy with hy|hy
 ·exact gN h y hy
 ·exact gN ⟨rfl,(TA _ _ _ _).trans h.2.1,tF h.2.2 _ _ _⟩ y<|Q4 hy
def aQ3 {se:Y}{fl:aWd}{ds:aWk}{n:aWe}(h:FN se n (se,fl)):∀y∈G4 se fl ds,FN se n y:=by
 intro y hy;unfold G4 at hy;split at hy
 ·obtain ⟨k1,k2⟩:=sT (se:=se) (f0:=fl) (n:=n) (((M fl / 2:aWe):Y).tdiv se).toNat ((1-Au fl)*((M fl / 2:aWe):Y).tdiv se) ([(se,fl)],fl) (λy hy=>A8) h
  rcases BX.1 hy with hy|hy
  ·exact k1 y hy
  ·rcases BX.1 hy with hy|hy
   ·exact gN k2 y<|Q4 hy
   ·exact gN ⟨rfl,(TA _ _ _ _).trans k2.2.1,tF k2.2.2 _ _ _⟩ y<|Q4 hy
 ·cases hy
def sS {se:Y}{f0:aWd}:∀(m:aWe) (s:Y) (a:List Fl×List Int),a.1≠ []->(Fz se f0 s m a).1≠ []
 |0,_,_,h=>h
 |m+1,s,a,h=>by
  unfold Fz;split
  ·exact sS m _ _ nD
  ·exact sS m _ _ h
def aQ2 {se:Y}{fl:aWd}{ds:aWk}(h:G5 se fl ds=0):G4 se fl ds≠ []:=by
 unfold G4;rw [AD h]
 have:=sS (se:=se) (f0:=fl) (((M fl / 2:aWe):Y).tdiv se).toNat ((1-Au fl)*((M fl / 2:aWe):Y).tdiv se) ([(se,fl)],fl) AI
 intro hh;rw [List.append_eq_nil_iff] at hh;exact this hh.1
def aj0 {se:Y}{fl d:aWd}:Hi se fl d≠ []:=by
 unfold Hi Dt
 simp
def aVR {se:Y}{fl:aWd}{x:Le}{t:Y}{n:aWe}(h:FN se n (se,fl)):(∀y∈Cq se fl x t,FN se n y)/\(ER se fl x t=0->Cq se fl x t≠ []):=by
 have ha:(∀y∈Hh se fl (B2 x),FN se n y)/\(Ew se fl (B2 x)=0->Hh se fl (B2 x)≠ []):=by
  unfold Hh Ew
  by_cases h1:Br se fl≠0
  ·grind
  ·rw [AE h1,AE h1]
   by_cases h2:apF se fl (B2 x)=U
   ·grind
   ·rw [AE h2,AE h2]
    by_cases h3:lkC fl=U
    ·rw [AD h3,AD h3];exact ⟨aj1 h,λ_=>aj0⟩
    ·rw [AE h3,AE h3];exact ⟨aQ3 h,aQ2⟩
 unfold Cq ER
 by_cases h1:C2 se fl≠0
 ·grind
 ·rw [AE h1,AE h1]
  split
  ·grind
  ·split
   ·grind
   ·split
    ·exact ha
    ·exact ⟨aQ3 h,aQ2⟩
structure SnI (s:SN) (n:aWe):Prop where
 fl:FN 512 2048 (s.se,s.fl)
 ls:M s.ls<=64
 lk:M s.lk<=n
def apy {l:aWn}{x:Le}(h:Fb l x=0):M (GJ l x)<=64:=by
 unfold GJ;rw [AD h];unfold Fb at h;split at h
 ·rename_i hv
  rw [AY] at hv
  have:=(GH hv.1).1
  split at h
  ·cases h
  ·split at h
   ·cases h
   ·simp;omega
 ·cases h
def ayi {t:Y}{s:SN}{x:Le}{n:aWe}(h:SnI s n):SnI (FA t s x) (n+1):=by
 unfold FA;split
 ·rename_i hc
  have hs:FN s.se 2048 (s.se,s.fl):=⟨rfl,h.fl.2.1,h.fl.2.2⟩
  obtain ⟨k1,k2⟩:=aVR (x:=x) (t:=t) hs
  have hne:=OQ.2<|k2 hc.2
  have hm:GP (Cq s.se s.fl x t) ((M (Cq s.se s.fl x t):Y)-1)∈Cq s.se s.fl x t:=by
   unfold GP;rw [Lc A0]
   grind
  obtain ⟨m1,m2,m3⟩:=k1 _ hm;exact ⟨⟨m1.trans h.fl.1,m2,m3⟩,apy hc.1,by have:=h.lk;simp;omega⟩
 ·exact ⟨h.fl,h.ls,by have:=h.lk;omega⟩
def aQD {t:Y}{xs:aWn}{s:SN}{n:aWe}(h:SnI s n):∀k,SnI (EK t xs s k) (n+k)
 |0=>h
 |k+1=>ayi<|aQD h k
structure RQ (p:PK):Prop where
 fl:FN 512 2048 (p.se,p.fl)
 ls:M p.ls<=64
 lk:(M p.lk:Y)<=16*p.tk
 ra:M p.ra<=16
 dm:∀x∈p.dm,Hf x=U
 mi:∀m∈p.mi,M m.1<=21
def pW {l:aWn}{t:Y}:M (BB l t)<=M l:=by
 unfold BB;split
 ·grind
 ·simp
def auk {l:aWn}{t:Y}:M (Dn l t)<=M l:=by
 unfold Dn;split
 ·exact pW
 ·omega
def vY {p:PK}:M p.dL<=M p.gs:=by
 unfold PK.dL deL;split
 ·exact aDh
 ·simp
def ajE {p:PK}:M p.dR<=M p.gs:=by
 unfold PK.dR deR;split
 ·exact mE ep
 ·simp
def aTy {p:PK}(h:RQ p) (hg:M p.gs<=16):FN 512 2048 (p.AM.se,p.AM.fl)/\M p.AM.ls<=64/\(M p.AM.lk:Y)<=16*p.tk+16/\M p.AM.ra<=16:=by
 have hl:=h.lk
 have he:M (Dn p.ls p.tk)<=64:=HJ auk h.ls
 unfold PK.AM;split
 ·exact ⟨h.fl,h.ls,A0,h.ra⟩
 ·split
  ·exact ⟨h.fl,he,A8,h.ra⟩
  ·have hs:SnI p.HA (M p.lk):=⟨h.fl,he,At _⟩
   have h1:=aQD (t:=p.tk) (xs:=p.dL) hs<|M p.dL
   have hd:=vY (p:=p)
   exact ⟨h1.fl,h1.ls,by have:=h1.lk;show (M (EK p.tk p.dL p.HA<|M p.dL).lk:Y)<=_;omega,HJ ajE hg⟩
def mem_set {α:Type}{l:List α}{i:aWe}{x y:α}(h:y∈l.set i x):y∈l\/y=x:=OU h
def avs (c:Ca) (m:Mi) (p al:Y):M (K8 c m p al).1<=21\/M m.1>21:=by
 unfold K8;split
 ·rename_i hB
  refine .inl ?_;simp only [dwP,FO,BL,Bj,Bt];omega
 ·grind
def aTw {gs:aWh}{ca:aW0}{s:DW}(h:∀m∈s.mi,M m.1<=21):∀k,∀m∈(FL gs ca s k).mi,M m.1<=21
 |0=>h
 | k + 1=>by
  have ih:=aTw (gs:=gs) (ca:=ca) h k
  unfold FL H6;split
  ·exact ih
  ·split
   ·intro m hm
    rcases mem_set hm with hm|rfl
    ·grind
    ·rcases avs (Be ca k) (Cs (FL gs ca s k).mi k) (AG gs k).2.2.1 (Bo (AG gs k)<|BW (FL gs ca s k).st k) with e|e
     ·exact e
     ·exfalso
      have:M (Cs (FL gs ca s k).mi k).1<=21:=by
       unfold Cs;rw [DJ];cases hx:(FL gs ca s k).mi[(k:Y).toNat]? with
       |none=>simp
       |some y=>exact ih y<|OP hx
      omega
   ·exact ih
def atd {se:Y}{fl:aWd}:M (Ad se fl)<=64:=by
 unfold Ad;split
 ·rename_i h
  unfold C2 at h;split at h
  ·cases h
  ·split at h
   ·grind
   ·split at h
    ·split at h
     ·rename_i h3;exact (GH h3).1
     ·cases h
    ·cases h
 ·simp
def RQ.tick {p:PK}(h:RQ p) (hv:VP p):RQ p.Bh:=by
 have hg:=(DK.1 hv.site).1.2.2.2.2.1
 obtain ⟨h1,h2,h3,h4⟩:=aTy h hg;obtain ⟨e1,e2,e3,e4,e5,e6,e7,e8,e9,e10,e11,e12,e13,e14⟩:=KO p;refine ⟨h1,h2,?_,h4,?_,?_⟩
 ·show (M (p.AM.lk.filter _):Y)<=16*(p.AM.tk+1)
  have:=xA (λl:Lk=>an<|l.1>p.AM.tk) p.AM.lk
  rw [e6] at this|-;omega
 ·show ∀x∈p.AM.dm,_
  rw [e12];exact h.dm
 ·refine aTw ?_ _
  show ∀m∈p.AM.mi,_
  rw [e10];exact h.mi
def RQ.step {p:PK}(h:RQ p) (hv:VP p) {e:EV}(he:BC p e=0):RQ (An p e):=by
 have hg:=(DK.1 hv.site).1.2.2.2.2.1
 unfold An;rw [AE A0];unfold BC at he;split
 ·exact h.tick hv
 rename_i h1;rw [AE h1] at he;split
 ·rename_i h2
  have hd:Hf e.d=true:=by
   unfold PK.GI at he;split at he
   ·cases he
   ·split at he
    ·cases he
    ·rename_i hb
     grind
  refine {h with dm:=λx hx=>?_,mi:=λm hm=>?_}
  ·rcases mem_set hx with hx|rfl
   ·exact h.dm x hx
   ·exact hd
  ·exact aNg
 rename_i h2;rw [AE h2] at he;split
 ·refine {h with dm:=λx hx=>?_,mi:=λm hm=>?_}
  ·rcases mem_set hx with hx|rfl
   ·exact h.dm x hx
   ·decide
  ·exact aNg
 rename_i h3;rw [AE h3] at he;split
 ·have:=xA (λl:Lk=>l.2.2.1 !=e.en) p.lk
  exact {h with lk:=by show (M (p.lk.filter _):Y)<=16*p.tk;have:=h.lk;omega}
 rename_i h4;rw [AE h4] at he;split
 ·exact {h with ls:=by simp [PK.Ni]}
 rename_i h5;rw [AE h5] at he;split
 ·exact {h with ls:=HJ pW atd,ra:=by simp [PK.Qz];omega}
 rename_i h6;rw [AE h6] at he;split
 ·exact {h with}
 ·exact {h with}
def aSy {cs:aWl}{os:aWg}{ks:aWr}{gs:aWh}{bs:aWs}{dr:aWd}(h:DB cs os ks gs bs dr=0):VP (newP cs os ks gs bs dr)/\RQ (newP cs os ks gs bs dr):=by
 unfold newP;rw [AE A0];unfold DB at h;split at h
 ·cases h
 rename_i h1;simp only [not_or,Q5,ne_eq,Zl] at h1;split at h
 ·cases h
 rename_i h2;simp only [Q5] at h2
 have hb:BJ Ds:=by
  unfold Ds Dc;rw [KU,KU,KU,QW];exact ⟨⟨⟨Ab,WD _⟩,ru λd hd=>Vh,fB _⟩,fB _⟩
 have hl:M Ds=2048:=by unfold Ds;rw [BL,Ou,Ci];rfl
 refine ⟨⟨h1.1,AI,AI,AI,AI,by simp [Fy],AI,h1.2,AI,λk hk=>?_,h2,λl hl=>by cases hl⟩,⟨⟨rfl,hl,hb⟩,AI,AI,by simp;exact (DK.1 h1.1).1.2.2.2.2.1,λx hx=>?_,λm hm=>?_⟩⟩
 ·simp only [GB] at hk
  have e:gi (cs.map λc=>c.2.2.1) (k:Y)=(Ae cs k).2.2.1:=by
   unfold gi Ae
   simp [hk]
  simp only [e];exact ⟨(gR h1.1 hk).1,Co _⟩
 ·obtain ⟨_,rfl⟩:=SX.1 hx;decide
 ·grind
def aGa {se:Y}{f0:aWd}:∀(n:aWe) (s:Y) (a:List Fl×List Int),M (Fz se f0 s n a).1<=M a.1+n*se.toNat
 |0,s,a=>by simp [Fz]
 | n+1,s,a=>by
  unfold Fz
  have h:=aGa (se:=se) (f0:=f0) n (s+1) (if isW se f0 s=U then (a.1++(erL se a.2 s).drop 1,Ey a.2 (s*se) se.toNat) else a)
  rw [Nat.succ_mul];split at h
  ·rename_i c
   rw [AD c]
   have e:M ((erL se a.2 s).drop 1)=se.toNat:=by unfold erL;rw [FO,GB,Sd];omega
   simp only [BL] at h;omega
  ·rename_i c
   rw [AE c];omega
def rk (se:Y) (fl:aWd) (a:Y) (d:aWd):M ((Dt se fl a d).drop 1)=M d:=by
 unfold Dt;rw [FO,GB,Sd];omega
def aIL {fl:aWd}{ds:aWk}(hl:M fl=2048) (hE:G5 512 fl ds=0):M (G4 512 fl ds)<=5000:=by
 have hF:rwF fl ds=true:=by
  unfold G5 at hE;split at hE
  ·grind
  ·split at hE
   ·cases hE
   ·rename_i h
    cases e:rwF fl ds
    ·grind
    ·rfl
 have hb:M (Eh fl ds)<=1100:=by
  unfold rwF at hF;rw [AY,Aa] at hF;unfold Eh;rw [BL,qb]
  have:M (D6<|JM fl (Au fl)+1)=4:=rfl
  omega
 have he:M (HZ 512 fl).1<=1025:=by
  refine HJ (aGa _ _ _) ?_;rw [hl]
  show 1+(((2048 / 2:aWe):Y).tdiv 512).toNat*(512:Y).toNat<=1025
  decide
 unfold G4;rw [AD hE,BL,BL,rk,rk];simp only [Bj,Bt];omega
def aqu {se:Y}{fl:aWd}{x:Le}{t:Y}(h:FN 512 2048 (se,fl)) (hE:ER se fl x t=0):M (Cq se fl x t)<=5000:=by
 have hs:=h.1
 subst hs
 have hl:=h.2.1
 unfold ER at hE;unfold Cq;split at hE
 ·grind
 rename_i h1;rw [AE h1];split at hE
 ·cases hE
 rename_i h2;rw [AE h2];split at hE
 ·cases hE
 rename_i h3;rw [AE h3];split at hE
 ·rename_i h4
  rw [AD h4];unfold Ew at hE;unfold Hh;split at hE
  ·grind
  rename_i h5;rw [AE h5];split at hE
  ·cases hE
  rename_i h6;rw [AE h6];split at hE
  ·rename_i h7
   rw [AD h7];unfold Hi;rw [BL,rk];unfold Dt;rw [GB,Sd,FO,MJ,KW]
   decide
  ·rename_i h7
   rw [AE h7];exact aIL hl hE
 ·rename_i h4
  rw [AE h4];exact aIL hl hE
def VK (se:Y) (fl:aWd):Prop:=FN 512 2048 (se,fl)/\∃vl g,VI se fl vl g
def VK.cl {se:Y}{fl:aWd}(h:VK se fl):lkC fl=true:=by
 obtain ⟨_,vl,g,hv⟩:=h;obtain ⟨w,k,O,hj⟩:=hv.ji;exact hj.cl
def VK.st {se:Y}{fl:aWd}{x:Le}{t:Y}(h:VK se fl) (hE:ER se fl x t=0):letI b:=Cq se fl x t;letI a:=(GP b<|(M b:Y)-1);0<M b/\VK a.1 a.2:=by
 obtain ⟨hf,vl,g,hv⟩:=h;obtain ⟨vl',g',h1,_⟩:=zc hv hE
 have hn:=(aVR (x:=x) (t:=t) (show FN se 2048 (se,fl) from ⟨rfl,hf.2.1,hf.2.2⟩))
 have hp:=OQ.2<|hn.2 hE
 refine ⟨hp,?_,vl',g',h1⟩
 have hm:GP (Cq se fl x t) ((M (Cq se fl x t):Y)-1)∈Cq se fl x t:=by
  unfold GP;rw [DJ,Dg A0]
  grind
 have hq:=hn.1 _ hm
 exact ⟨by rw [hq.1];exact hf.1,hq.2.1,hq.2.2⟩
def AR {α:Type}(l:List α):List α:=(l.drop 0).take<|M l
def Fs {α:Type}(l:List α):AR l=l:=TN l
def cpC (l:aWl):aWl:=BI (AR l)<|aq (M l:Y).toNat (ByteArray.empty,((0:Y),((0:Y),((0:Y),(((0:Y),(0:Y)),((0:Y),((0:Y),((0:Y),((0:Y),(0:Y))))))))))
def XS (l:aWl):cpC l=l:=by
 unfold cpC;rw [Fs];exact Qh
structure PT where
 (n i:Y)
 p:PK
 ev:EW
 Bf:aWg
 C4:aWr
 BQ:aWh
 C5:aWs
 o:aWl
def aA9 (s:PT):T (Rd PT):=letI b:=s.o.getD s.i.toNat<|Ty.dflt Af;letI a:=(s.o.set s.i.toNat (b.1,(b.2.1,((s.p.tg.getD s.i.toNat<|Ty.dflt A7),b.2.2.2))));.br (an<|s.i<s.n) (.ik s.i (M s.p.tg)<|.ik s.i (M s.o)<|.rl s.p.tg<|.rl s.p.cs<|.rl s.p.fl<|.rl s.p.ra<|.pb s.p<|.re (M s.o) a<|.nx {s with i:=AA<|s.i+1,o:=a})<|.rl s.p.tg<|.rl s.p.cs<|.rl s.p.fl<|.rl s.p.ra<|.pb s.p<|.rl s.o<|.so (.exit 0) s
def kW (s:PT):Prop:=s.i=0/\s.n=(M s.p.tg:Y)/\M s.p.tg=M s.p.cs/\s.n<=1000/\s.o=E0 s.p.cs s.p.tg s.i.toNat
def ZL (s:PT):Prop:=(0<=s.i/\s.i<=s.n)/\s.n=(M s.p.tg:Y)/\M s.p.tg=M s.p.cs/\s.n<=1000/\s.o=E0 s.p.cs s.p.tg s.i.toNat
def vF (s:PT):aWe:=(s.n-s.i).toNat
def aBj (x:Ex) (s s':PT):Prop:=x=.exit 0/\s'.o=E0 s'.p.cs s'.p.tg (M s'.p.tg)
def amv:∀s,kW s->ZL s:=by
 exact aO0
def ajD:Da ZL vF aBj aA9:=by
 intro s hI;obtain ⟨⟨h0,h1⟩,h2,h3,h4,h5⟩:=hI
 have hl:M s.o=M s.p.cs:=mg
 refine AH (λc1=>?_) λc1=>?_
 ·have c1:s.i<s.n:=A8
  rw [AJ (x:=s.i+1)];refine ⟨⟨⟨A8,A8⟩,h2,h3,h4,?_⟩,by simp only [vF];omega⟩
  exact aMb
 ·have c1:s.n<=s.i:=A8
  refine ⟨rfl,?_⟩
  grind
def UU:AS PT:=⟨18,34,[2,3,19,20,21],[],λs=>[.own 18 0,.own 19 0,.os 15 1 0<|M s.p.tg,s.n,s.i],λs=>[AP,AP,zB,AP,bV 79 Af s.p.cs,AP,bV 5 (.int aw) s.p.fl,bV 139 Ap s.p.ra,bV 107 B7 s.p.st,bV 57 AQ s.p.ca,bV 123 B9 s.p.mi,bV 110 BS s.p.me,bV 59 Aw s.p.dm,bV 68 BP s.p.lk,bV 3 A7 s.p.dr,bV 3 A7 s.p.tg,⟨[.os 4 11 0<|M s.p.cs,.xl .str s.p.os,.xl Al s.p.ks,.xl Ah s.p.gs,.xl Am s.p.bs,.v<|ag J s.p.tk,.v<|.bool s.p.up,.xl AQ s.p.ls,.v<|ag J s.p.se,.os 6 1 0<|M s.p.fl,.os 7 2 0<|M s.p.ra,.v<|ag J s.p.nx,.os 8 4 0<|M s.p.st,.os 9 5 0<|M s.p.ca,.os 10 3 0<|M s.p.mi,.os 11 3 0<|M s.p.me,.os 12 4 0<|M s.p.dm,.os 13 6 0<|M s.p.lk,.os 14 1 0<|M s.p.dr,.os 15 1 0<|M s.p.tg,.v<|ag J s.ev.ek,.v<|ag J s.ev.en,.v<|ag J s.ev.em,.v<|ag J s.ev.c1,.v<|ag J s.ev.c2,.v<|ag J s.ev.c3,.v<|ag J s.ev.c4,.v<|ag J s.ev.c5,.v<|.bool s.ev.d1,.v<|ag J s.ev.d2,.v<|ag J s.ev.d3,.v<|ag J s.ev.d4,.v<|.slice aj 0 0],97,.cl,X⟩,AP,⟨[.v<|.slice aj 0 0,.v<|.slice aj 0 0,.v<|.slice aj 0 0,.v<|.slice aj 0 0,.v<|.slice aj 0 0],28,.cl,X⟩,⟨[.os 20 11 0<|M s.o,s.Bf,s.C4,s.BQ,s.C5],28,.cl,X⟩,bV 79 Af s.o],λv b=>⟨AK v 3,AK v 4,rB b 16 4 0 6 7 8 9 10 11 12 13 14 15,rG b,AF .str b 19 1,AF Al b 19 2,AF Ah b 19 3,AF Am b 19 4,Ac Af b 20⟩,aA9,λs r=> {s with i:=r.i,o:=r.o},λs=>s,λ_ s=>s,[.exit 0],kW,ZL,vF⟩
abbrev aHy:=UU.run
abbrev aue:=UU.As
def P0:aWp:=[]
def ahB:B1:=kI P0<|la 9 func30 Cu<|l0 P0
def azD:Rq ZL aA9:=by
 intro s hI;refine ⟨λc1=>⟨?_,?_,?_,?_,A9,A9,A9,A9,A9,A9,A9,A9,A9,A9,A9,A9,?_,ak⟩,λc1=>⟨A9,A9,A9,A9,A9,A9,A9,A9,A9,A9,A9,A9,A9,ak⟩⟩
 all_goals ((obtain ⟨⟨h0,h1⟩,h2,h3,h4,h5⟩:=hI;have hl:M s.o=M s.p.cs:=mg;(try simp only [Aa] at c1);first|omega|exact ⟨rfl,rfl⟩ |exact ⟨rfl,AI⟩))
def aS7:UU.Ok:={}
def aRh:UU.Pf (aBj):=⟨amv,λs h=>rfl,ajD,azD⟩
def aIE:=s2 (b:=bN f56 0) aS7 aRh P0 ahB
def aw5:Fi kW ZL aBj aue aHy:=AS.fin aS7 aRh
structure Ln where
 p:PK
 ev:EW
def UJ (s:Ln):aWf:=[.own 16 0]
def Yr (s:Ln):aWi:=[AP,AP,zB,AP,bV 79 Af s.p.cs,AP,bV 5 (.int aw) s.p.fl,bV 139 Ap s.p.ra,bV 107 B7 s.p.st,bV 57 AQ s.p.ca,bV 123 B9 s.p.mi,bV 110 BS s.p.me,bV 59 Aw s.p.dm,bV 68 BP s.p.lk,bV 3 A7 s.p.dr,bV 3 A7 s.p.tg,⟨[.os 4 11 0<|M s.p.cs,.xl .str s.p.os,.xl Al s.p.ks,.xl Ah s.p.gs,.xl Am s.p.bs,.v<|ag J s.p.tk,.v<|.bool s.p.up,.xl AQ s.p.ls,.v<|ag J s.p.se,.os 6 1 0<|M s.p.fl,.os 7 2 0<|M s.p.ra,.v<|ag J s.p.nx,.os 8 4 0<|M s.p.st,.os 9 5 0<|M s.p.ca,.os 10 3 0<|M s.p.mi,.os 11 3 0<|M s.p.me,.os 12 4 0<|M s.p.dm,.os 13 6 0<|M s.p.lk,.os 14 1 0<|M s.p.dr,.os 15 1 0<|M s.p.tg,.v<|ag J s.ev.ek,.v<|ag J s.ev.en,.v<|ag J s.ev.em,.v<|ag J s.ev.c1,.v<|ag J s.ev.c2,.v<|ag J s.ev.c3,.v<|ag J s.ev.c4,.v<|ag J s.ev.c5,.v<|.bool s.ev.d1,.v<|ag J s.ev.d2,.v<|ag J s.ev.d3,.v<|ag J s.ev.d4,.v<|.slice aj 0 0],97,.cl,X⟩,AP]
def qG (s:Ln):PT:=(⟨((M s.p.tg:aWe):Y),0,s.p,s.ev,s.p.os,s.p.ks,s.p.gs,s.p.bs,cpC s.p.cs⟩:PT)
structure Yd where
 so:aWg
 sk:aWr
 sg:aWh
 sb:aWs
 p:PK
 ev:EW
 o:aWl
def acQ (s:Yd):LV:=.agg [.os 18 11 0<|M s.o,s.so,s.sk,s.sg,s.sb]
def ach (s:Yd):aWi:=[AP,AP,zB,AP,bV 79 Af s.p.cs,AP,bV 5 (.int aw) s.p.fl,bV 139 Ap s.p.ra,bV 107 B7 s.p.st,bV 57 AQ s.p.ca,bV 123 B9 s.p.mi,bV 110 BS s.p.me,bV 59 Aw s.p.dm,bV 68 BP s.p.lk,bV 3 A7 s.p.dr,bV 3 A7 s.p.tg,⟨[.os 4 11 0<|M s.p.cs,.xl .str s.p.os,.xl Al s.p.ks,.xl Ah s.p.gs,.xl Am s.p.bs,.v<|ag J s.p.tk,.v<|.bool s.p.up,.xl AQ s.p.ls,.v<|ag J s.p.se,.os 6 1 0<|M s.p.fl,.os 7 2 0<|M s.p.ra,.v<|ag J s.p.nx,.os 8 4 0<|M s.p.st,.os 9 5 0<|M s.p.ca,.os 10 3 0<|M s.p.mi,.os 11 3 0<|M s.p.me,.os 12 4 0<|M s.p.dm,.os 13 6 0<|M s.p.lk,.os 14 1 0<|M s.p.dr,.os 15 1 0<|M s.p.tg,.v<|ag J s.ev.ek,.v<|ag J s.ev.en,.v<|ag J s.ev.em,.v<|ag J s.ev.c1,.v<|ag J s.ev.c2,.v<|ag J s.ev.c3,.v<|ag J s.ev.c4,.v<|ag J s.ev.c5,.v<|.bool s.ev.d1,.v<|ag J s.ev.d2,.v<|ag J s.ev.d3,.v<|ag J s.ev.d4,.v<|.slice aj 0 0],97,.cl,X⟩,AP,bV 79 Af s.o]
def iz (s:Ln):T Yd:=letI a:=((M s.p.cs:aWe):Y);.rm 96 a<|.rz s.p.cs<|.rc a (ByteArray.empty,((0:Y),((0:Y),((0:Y),(((0:Y),(0:Y)),((0:Y),((0:Y),((0:Y),((0:Y),(0:Y)))))))))) (M<|AR s.p.cs)<|.rl s.p.tg<|.rl s.p.cs<|.rl s.p.fl<|.rl s.p.ra<|.pb s.p<|.re a.toNat (cpC s.p.cs)<|.req (UU.q<|qG s)<|.rl s.p.cs<|.rl s.p.fl<|.rl s.p.ra<|.pb s.p<|.ok<|⟨s.p.os,s.p.ks,s.p.gs,s.p.bs,s.p,s.ev,(aHy<|qG s).o⟩
def jt (s:Ln):Prop:=M s.p.tg=M s.p.cs/\M s.p.tg<=1000
def aVm (s:Ln):Yd:=⟨s.p.os,s.p.ks,s.p.gs,s.p.bs,s.p,s.ev,E0 s.p.cs s.p.tg<|M s.p.tg⟩
def k6:D8 Ln Yd:=⟨UJ,Yr,λv b=>⟨rB b 16 4 0 6 7 8 9 10 11 12 13 14 15,rG b⟩,jt,[0,1,3,5,17],[],acQ,ach,aVm⟩
abbrev ajl (s:Ln):Prop:=jt s/\UJ s=UJ s/\Yr s=Yr s
def aTL:B1:=kI P0<|la 4 func56 aIE<|la 9 func30 Cu<|l0 P0
def aVD:DS:=CV 56 18 4 (UU.lp)<|CV 30 0 9 (Gu.lp)<|E5 prog AV P0 20 2
def aqN:Eb prog AV aVD:=DM func56 rfl AU aIE<|DM func30 rfl AU Cu<|Hv<|gk P0
def agK (s:Ln):((Ep prog AV P0 aVD aTL).k 56 (UJ s)<|Yr s).bind (λq=>GM (M<|Yr s) [0] [] .normal (q.1::UJ s) q.2)=(iz s).mp (λs2=>⟨.normal,M (UJ s)+1,[acQ s2],ach s2,U⟩):=AU
def axi (s:Ln) (hE:jt s):(iz s).all (λq=>q=aVm s):=by
 obtain ⟨ht,hn⟩:=hE
 have hA:kW (qG s):=⟨rfl,rfl,ht,aOM,XS _⟩
 obtain ⟨_,_,_,q2⟩:=aw5 _ hA;unfold iz;simp only [Fs,XS,q2]
 repeat (refine ⟨A8,?_⟩)
 refine ⟨⟨hA,rfl,rfl⟩,?_⟩
 repeat (refine ⟨AI,?_⟩)
 rfl
def aU2:Dj prog AV 56 k6.m:=D8.sound (D:=k6) (t:=iz) (gk P0) aqN aTL.h agK λs hE=>⟨axi s hE⟩
structure OB where
 xs:aWn
 (n i:Y)
 p:PK
 ev:EW
def aA1 (s:OB):T (Rd OB):=letI c:=Ag s.xs s.i;letI e:=AA<|s.i+1;letI a:=((AA<|s.p.tk+((AA<|(AA<|7*s.p.tk)+(AA<|3*c.2.1)).tmod 5)),c);letI b:=Cq s.p.se s.p.fl c s.p.tk;letI d:=(AA<|(M b:Y)-1);.br (an<|s.i<s.n) (.ix s.i (M s.xs)<|.br ((Fb s.p.ls c) !=0) (.rl s.p.cs<|.rl s.p.st<|.rl s.p.ca<|.rl s.p.mi<|.rl s.p.me<|.rl s.p.lk<|.rl s.p.dr<|.rl s.p.tg<|.nx {s with i:=e})<|.req (BJ s.p.fl/\(Br s.p.se s.p.fl=0->lkC s.p.fl=U))<|.br ((ER s.p.se s.p.fl c s.p.tk) !=0) (.rl s.p.cs<|.rl s.p.st<|.rl s.p.ca<|.rl s.p.mi<|.rl s.p.me<|.rl s.p.lk<|.rl s.p.dr<|.rl s.p.tg<|.nx {s with i:=e})<|.ix d (M b)<|.req ((5:Y)≠0)<|.rb (M s.p.lk) (M<|[a]) 48<|.rl s.p.cs<|.rl s.p.st<|.rl s.p.ca<|.rl s.p.mi<|.rl s.p.me<|.re (M s.p.lk+M ([a])) (s.p.lk++([a]))<|.rl s.p.dr<|.rl s.p.tg<|.nx {s with i:=e,p.ls:=GJ s.p.ls c,p.se:=(GP b d).1,p.fl:=(GP b d).2,p.nx:=AA<|c.1+1,p.lk:=s.p.lk++([a])})<|.rl s.p.cs<|.rl s.p.st<|.rl s.p.ca<|.rl s.p.mi<|.rl s.p.me<|.rl s.p.lk<|.rl s.p.dr<|.rl s.p.tg<|.so (.exit 0) s
def L5 (p:PK) (xs:aWn):PK:=letI a:=(xs.foldl (FA p.tk) ⟨p.ls,p.se,p.fl,p.nx,p.lk⟩);{p with ls:=a.ls,se:=a.se,fl:=a.fl,nx:=a.nx,lk:=a.lk}
def Dz {a b:Y}(h:(a !=b)=X):a=b:=A8
def dy {p:PK}{x:Le}(h:VK p.se p.fl) (hE:ER p.se p.fl x p.tk=0):letI a:=Cq p.se p.fl x p.tk;AA ((M a:Y)-1)=(M a:Y)-1/\0<M a:=by
 have h1:=aqu h.1 hE
 have h2:=(h.st hE).1
 exact ⟨AJ,h2⟩
def ajn {se:Y}{fl:aWd}{x:Le}{t:Y}(h:ER se fl x t=0):0<=x.1/\x.1<=1000000:=by
 unfold ER at h;split at h
 ·grind
 ·split at h
  ·cases h
  ·rename_i h1
   have:DI x=true:=by
    cases e:DI x
    ·grind
    ·rfl
   have:=LQ.1 this
   omega
def aiT {l:aWn}{i:Y}(h0:0<=i) (h:i<M l):Ag l i∈l:=J8 h0 h
def ahj {t c:Y}(ht:0<=t/\t<=1000000) (hc:0<=c/\c<=100):AA (t+(AA<|AA (7*t)+AA (3*c)).tmod 5)=t+(7*t+3*c).tmod 5:=by
 rw [AJ (x:=7*t),AJ (x:=3*c),AJ (x:=7*t+3*c)]
 have:=Int.tmod_nonneg 5 (show 0<=7*t+3*c by omega)
 have:=Int.tmod_lt_of_pos (7*t+3*c) (show (0:Y)<5 by decide)
 exact AJ
def kP (s:OB):Prop:=s.i=0/\s.n=(M s.xs:Y)/\s.n<=16/\(∀x∈s.xs,0<=x.2.1/\x.2.1<=100)/\(0<=s.p.tk/\s.p.tk<=1000000)/\VK s.p.se s.p.fl/\(M s.p.lk:Y)<=17000000+s.i
def jc (s:OB):Prop:=(0<=s.i/\s.i<=s.n)/\s.n=(M s.xs:Y)/\s.n<=16/\(∀x∈s.xs,0<=x.2.1/\x.2.1<=100)/\(0<=s.p.tk/\s.p.tk<=1000000)/\VK s.p.se s.p.fl/\(M s.p.lk:Y)<=17000000+s.i
def gC (s:OB):aWe:=(s.n-s.i).toNat
def abw (x:Ex) (s s':OB):Prop:=True
def anH:∀s,kP s->jc s:=by
 exact aNX
def ai8:Da jc gC abw aA1:=by
 intro s hI;obtain ⟨⟨h0,h1⟩,h2,h3,h4,h5,h6,h7⟩:=hI;refine AH (λc1=>AH (λc2=>?_) λc2=>AH (λc3=>?_) λc3=>?_) λc1=>trivial
 all_goals have c1:s.i<s.n:=AX
 all_goals rw [AJ (x:=s.i+1)]
 iterate 2
  ·exact ⟨⟨⟨AZ,AZ⟩,h2,h3,h4,h5,h6,AZ⟩,by simp only [gC];omega⟩
 ·rw [(dy h6<|Dz c3).1]
  exact ⟨⟨⟨A8,AZ⟩,h2,h3,h4,h5,(h6.st<|Dz c3).2,A8⟩,by simp only [gC];omega⟩
def US:AS OB:=⟨18,85,[0,75,76,77],[.pc 16 7 AQ,.kb 5,.pc 16 9<|.int aw,.kb 6,.pc 16 10 Ap,.kb 7,.pc 16 16 Aw,.kb 12,.ms 0 17],λs=>[.own 16 0,s.xs,s.n,s.i],λs=>[AP,AP,zB,AP,bV 79 Af s.p.cs,AP,AP,AP,bV 107 B7 s.p.st,bV 57 AQ s.p.ca,bV 123 B9 s.p.mi,bV 110 BS s.p.me,AP,⟨[],68,.dead,X⟩,bV 3 A7 s.p.dr,bV 3 A7 s.p.tg,⟨[.os 4 11 0<|M s.p.cs,.xl .str s.p.os,.xl Al s.p.ks,.xl Ah s.p.gs,.xl Am s.p.bs,.v<|ag J s.p.tk,.v<|.bool s.p.up,.xl AQ s.p.ls,.v<|ag J s.p.se,.xl (.int aw) s.p.fl,.xl Ap s.p.ra,.v<|ag J s.p.nx,.os 8 4 0<|M s.p.st,.os 9 5 0<|M s.p.ca,.os 10 3 0<|M s.p.mi,.os 11 3 0<|M s.p.me,.xl Aw s.p.dm,.os 18 6 0<|M s.p.lk,.os 14 1 0<|M s.p.dr,.os 15 1 0<|M s.p.tg,.v<|ag J s.ev.ek,.v<|ag J s.ev.en,.v<|ag J s.ev.em,.v<|ag J s.ev.c1,.v<|ag J s.ev.c2,.v<|ag J s.ev.c3,.v<|ag J s.ev.c4,.v<|ag J s.ev.c5,.v<|.bool s.ev.d1,.v<|ag J s.ev.d2,.v<|ag J s.ev.d3,.v<|ag J s.ev.d4,.v<|.slice aj 0 0],97,.cl,X⟩,AP,bV 68 BP s.p.lk],λv b=>⟨Az AQ v 1,AK v 2,AK v 3,rB b 16 4 0 0 0 8 9 10 11 0 18 14 15,rG b⟩,aA1,λs r=> {s with i:=r.i,p.ls:=r.p.ls,p.se:=r.p.se,p.fl:=r.p.fl,p.nx:=r.p.nx,p.lk:=r.p.lk},λs=>s,λ_ s=>s,[.exit 0],kP,jc,gC⟩
abbrev aDA:=US.run
abbrev auY:=US.As
def vv:aWp:=[fk,aPs,aVH,aVT]
def ahA:B1:=IH vv (la 9 func30 Cu<|l0 vv) [⟨56,k6.m,aU2⟩]
def azt:Rq jc aA1:=by
 intro s hI;refine ⟨λc1=>⟨?_,λc2=>⟨A9,A9,A9,A9,A9,A9,A9,A9,ak⟩,λc2=>⟨?_,λc3=>⟨A9,A9,A9,A9,A9,A9,A9,A9,ak⟩,λc3=>⟨?_,?_,?_,A9,A9,A9,A9,A9,?_,A9,A9,ak⟩⟩⟩,λc1=>⟨A9,A9,A9,A9,A9,A9,A9,A9,ak⟩⟩
 all_goals ((obtain ⟨⟨h0,h1⟩,h2,h3,h4,h5,h6,h7⟩:=hI;simp only [Aa] at c1;first|omega|exact ⟨rfl,rfl⟩ |exact ⟨h6.1.2.2,λ_=>h6.cl⟩ |(simp only [Bj,Bt,BL];omega) |(simp only [BL,Bj,Bt,FR];done) |(rw [(dy h6<|Dz c3).1];have:=(dy h6<|Dz c3).2;omega)))
def aS0:US.Ok:={}
def aRa:US.Pf (abw):=⟨anH,λs h=>rfl,ai8,azt⟩
def aIC:=s2 (b:=bN f42 0) aS0 aRa vv ahA
def auT:Rs kP auY aDA (λs:OB=>L5 s.p<|s.xs.drop s.i.toNat) (λx s' (v:PK)=>x=.exit 0/\s'.p=v):=DU aS0 aRa (λs hI=>by
  obtain ⟨⟨h0,h1⟩,h2,h3,h4,h5,h6,h7⟩:=hI;refine AH (λc1=>?_) λc1=>?_
  ·have c1:s.i<s.n:=A8
   have e:=(WC h0 (show s.i<(M s.xs:Y) by omega)).1
   rw [AJ (x:=s.i+1),e];refine AH (λc2=>?_) λc2=>AH (λc3=>?_) λc3=>?_
   ·show L5 s.p _=L5 s.p _
    unfold L5;rw [KE,show FA s.p.tk ⟨s.p.ls,s.p.se,s.p.fl,s.p.nx,s.p.lk⟩ (Ag s.xs s.i)=⟨s.p.ls,s.p.se,s.p.fl,s.p.nx,s.p.lk⟩ from AE λh=>Dv.1 c2 h.1]
   ·show L5 s.p _=L5 s.p _
    unfold L5;rw [KE,show FA s.p.tk ⟨s.p.ls,s.p.se,s.p.fl,s.p.nx,s.p.lk⟩ (Ag s.xs s.i)=⟨s.p.ls,s.p.se,s.p.fl,s.p.nx,s.p.lk⟩ from AE λh=>Dv.1 c3 h.2]
   ·have hx:=h4 _ (aiT h0 (show s.i<(M s.xs:Y) by omega))
    have hn:=ajn<|Dz c3
    rw [(dy h6<|Dz c3).1,ahj h5 hx,AJ (x:=(Ag s.xs s.i).1+1)]
    show L5 _ _=L5 s.p _
    conv=>rhs;unfold L5
    rw [KE,show FA s.p.tk ⟨s.p.ls,s.p.se,s.p.fl,s.p.nx,s.p.lk⟩ (Ag s.xs s.i)=_ from AD ⟨Dz c2,Dz c3⟩];rfl
  ·have c1:s.n<=s.i:=A8
   refine ⟨rfl,?_⟩;rw [F6 A0];rfl)
def aUO:aWf->T LV
 | [.xl (.pair (.int J) (.pair (.int J) (.pair (.int J) (.pair (.int J) (.int J))))) l,.v (ag J t)]=> .req (Cm l t=0) (.ok<|.AO [BB l t,.ki J 0])
 |_=> .no
def acS:=uS f8 aUO
def zX:VV 8 acS:=λargs vals w Z lv h1 h2 h3 h4 h=>by
 have key:∃l t,lv=.AO [.xl AQ<|BB l t,.ki J 0]/\(wD args).all (λx=>x=.AO [.xl AQ<|BB l t,.v<|ag J 0]):=by
  unfold acS uS K9 aUO at h;split at h
  ·rename_i l t e
   obtain ⟨g1,g2⟩:=h;refine ⟨l,t,g2.symm,?_⟩;unfold wD uS K9;rw [e]
   show LV.AO [.xl AQ _,.v<|ag J<|Cm _ _]=_
   rw [g1]
  ·cases h
 obtain ⟨l,t,rfl,hk⟩:=key;refine (fk args vals w Z _ h1 h2 h3 h4 hk).mono λe w' ⟨hb,v,he,ho,hr⟩=>⟨hb,v,he,?_,?_⟩
 ·simp only [okV,AT] at ho|-
  grind
 ·simp only [R,RL] at hr|-
  exact hr
structure Lh where
 p:PK
 ev:EW
def Ug (s:Lh):aWf:=[.own 16 0]
def Ym (s:Lh):aWi:=[AP,AP,zB,AP,bV 79 Af s.p.cs,bV 65 AQ s.p.ls,bV 5 (.int aw) s.p.fl,bV 139 Ap s.p.ra,bV 107 B7 s.p.st,bV 57 AQ s.p.ca,bV 123 B9 s.p.mi,bV 110 BS s.p.me,bV 59 Aw s.p.dm,bV 68 BP s.p.lk,bV 3 A7 s.p.dr,bV 3 A7 s.p.tg,⟨[.os 4 11 0<|M s.p.cs,.xl .str s.p.os,.xl Al s.p.ks,.xl Ah s.p.gs,.xl Am s.p.bs,.v<|ag J s.p.tk,.v<|.bool s.p.up,.os 5 5 0<|M s.p.ls,.v<|ag J s.p.se,.os 6 1 0<|M s.p.fl,.os 7 2 0<|M s.p.ra,.v<|ag J s.p.nx,.os 8 4 0<|M s.p.st,.os 9 5 0<|M s.p.ca,.os 10 3 0<|M s.p.mi,.os 11 3 0<|M s.p.me,.os 12 4 0<|M s.p.dm,.os 13 6 0<|M s.p.lk,.os 14 1 0<|M s.p.dr,.os 15 1 0<|M s.p.tg,.v<|ag J s.ev.ek,.v<|ag J s.ev.en,.v<|ag J s.ev.em,.v<|ag J s.ev.c1,.v<|ag J s.ev.c2,.v<|ag J s.ev.c3,.v<|ag J s.ev.c4,.v<|ag J s.ev.c5,.v<|.bool s.ev.d1,.v<|ag J s.ev.d2,.v<|ag J s.ev.d3,.v<|ag J s.ev.d4,.v<|.slice aj 0 0],97,.cl,X⟩,AP]
def aG3 (s:Lh):Ln:=(⟨{s.p with ls:=BB (AR s.p.ls) s.p.tk},s.ev⟩:Ln)
def oM (s:Lh):OB:=letI b:=BB (AR s.p.ls) s.p.tk;letI c:=AR<|E0 s.p.cs s.p.tg<|M s.p.tg;letI a:=deL c s.p.os s.p.ks s.p.gs s.p.bs b (AR s.p.ra) (AR s.p.dm) s.p.tk s.p.nx;(⟨a,(M a:Y),0,{s.p with ls:=b,fl:=AR s.p.fl,ra:=deR c s.p.os s.p.ks s.p.gs s.p.bs b (AR s.p.ra) (AR s.p.dm) s.p.tk s.p.nx,dm:=AR s.p.dm},s.ev⟩:OB)
structure YY where
 p:PK
 ev:EW
def acK (s:YY):LV:=.v<|.tuple #[]
def acZ (s:YY):aWi:=[AP,AP,zB,AP,bV 79 Af s.p.cs,AP,AP,AP,bV 107 B7 s.p.st,bV 57 AQ s.p.ca,bV 123 B9 s.p.mi,bV 110 BS s.p.me,AP,AP,bV 3 A7 s.p.dr,bV 3 A7 s.p.tg,⟨[.os 4 11 0<|M s.p.cs,.xl .str s.p.os,.xl Al s.p.ks,.xl Ah s.p.gs,.xl Am s.p.bs,.v<|ag J s.p.tk,.v<|.bool s.p.up,.xl AQ s.p.ls,.v<|ag J s.p.se,.xl (.int aw) s.p.fl,.xl Ap s.p.ra,.v<|ag J s.p.nx,.os 8 4 0<|M s.p.st,.os 9 5 0<|M s.p.ca,.os 10 3 0<|M s.p.mi,.os 11 3 0<|M s.p.me,.xl Aw s.p.dm,.xl BP s.p.lk,.os 14 1 0<|M s.p.dr,.os 15 1 0<|M s.p.tg,.v<|ag J s.ev.ek,.v<|ag J s.ev.en,.v<|ag J s.ev.em,.v<|ag J s.ev.c1,.v<|ag J s.ev.c2,.v<|ag J s.ev.c3,.v<|ag J s.ev.c4,.v<|ag J s.ev.c5,.v<|.bool s.ev.d1,.v<|ag J s.ev.d2,.v<|ag J s.ev.d3,.v<|ag J s.ev.d4,.v<|.slice aj 0 0],97,.cl,X⟩,AP]
def iq (s:Lh):T YY:=letI a:=E0 s.p.cs s.p.tg<|M s.p.tg;letI b:=BB (AR s.p.ls) s.p.tk;letI c:=aDA<|oM s;letI d:=AR s.p.dm;.br (!s.p.up) (.rz s.p.ls<|.rz s.p.fl<|.rz s.p.ra<|.rz s.p.dm<|.rz s.p.lk<|.pd s.p<|.ok<|⟨{s.p with ls:=AR s.p.ls,fl:=AR s.p.fl,ra:=AR s.p.ra,dm:=AR s.p.dm,lk:=AR s.p.lk},s.ev⟩)<|.rz s.p.ls<|.req (Cm (AR s.p.ls) s.p.tk=0)<|.rl s.p.cs<|.rl s.p.fl<|.rl s.p.ra<|.pb s.p<|.req (ajl<|aG3 s)<|.rv (.xl AQ b)<|.rv (.os 7 2 0<|M s.p.ra)<|.rv (.os 12 4 0<|M s.p.dm)<|.rv (.v<|ag J s.p.tk)<|.rv (.v<|ag J s.p.nx)<|.rz a<|.rz s.p.ra<|.rz s.p.dm<|.req (Ih d s.p.tk/\M d<=19)<|.br ((deE (AR a) s.p.os s.p.ks s.p.gs s.p.bs b (AR s.p.ra) d s.p.tk s.p.nx) !=0) (.rz s.p.fl<|.rz s.p.ra<|.rz s.p.dm<|.rz s.p.lk<|.pd s.p<|.ok<|⟨{s.p with ls:=b,fl:=AR s.p.fl,ra:=AR s.p.ra,dm:=AR s.p.dm,lk:=AR s.p.lk},s.ev⟩)<|.rz s.p.fl<|.rz s.p.dm<|.rl s.p.cs<|.rl s.p.st<|.rl s.p.ca<|.rl s.p.mi<|.rl s.p.me<|.rl s.p.lk<|.rl s.p.dr<|.rl s.p.tg<|.req (US.q<|oM s)<|.rz c.p.lk<|.pd s.p<|.ok<|⟨{s.p with ls:=c.p.ls,se:=c.p.se,fl:=c.p.fl,ra:=deR (AR a) s.p.os s.p.ks s.p.gs s.p.bs b (AR s.p.ra) d s.p.tk s.p.nx,nx:=c.p.nx,dm:=d,lk:=AR c.p.lk},s.ev⟩
def aEy {t:Y}{xs:aWn}{s:SN}:∀k,k<=M xs->EK t xs s k=(xs.take k).foldl (FA t) s
 |0,_=>rfl
 |k+1,h=>by
  rw [EK,aEy k A0,Zi A0,List.foldl_append];rw [show Ag xs (k:Y)=xs[k]' A0 from La A0];rfl
def ap2 {p:PK}:p.sn1=p.dL.foldl (FA p.tk) p.HA:=by
 unfold PK.sn1;rw [aEy _<|At _,El]
def apm {l:aWn}{t:Y}(h:B4 l=U) (ht:0<=t/\t<=1000000):Cm l t=0:=by
 have e:JF l t=true:=aP6
 exact AD e
def RQ.wd {p:PK}(h:RQ p) (hv:VP p):Ih p.dm p.tk/\M p.dm<=19:=by
 have hg:=(DK.1 hv.site).1
 have ht:=hv.tk
 refine ⟨⟨λx hx=>?_,A0,A0⟩,by rw [hv.dm];omega⟩
 have:=h.dm x hx
 unfold Hf at this;simp only [AY,BV] at this;omega
def aCe (s:Lh):Prop:=(VP s.p/\RQ s.p)/\VK s.p.se s.p.fl/\B4 s.p.ls=U
def XY (s:Lh):YY:=⟨PK.AM s.p,s.ev⟩
def PY:D8 Lh YY:=⟨Ug,Ym,λv b=>⟨rF b,rG b⟩,aCe,[0,1,3,17],[.pc 16 7 AQ,.kb 5,.pc 16 9<|.int aw,.kb 6,.pc 16 10 Ap,.kb 7,.pc 16 16 Aw,.kb 12,.pc 16 17 BP,.kb 13],acK,acZ,XY⟩
abbrev ak6 (s:Lh):Prop:=aCe s/\Ug s=Ug s/\Ym s=Ym s
def Ww:aWp:=[zX,aPs,aVH,aVT]
def aTK:B1:=IH Ww (la 9 func42 aIC<|la 9 func30 Cu<|l0 Ww) [⟨56,k6.m,aU2⟩]
def aV8:DS:=CV 42 18 9 (US.lp)<|CV 30 0 9 (Gu.lp)<|E5 prog AV Ww 20 2
def aqI:Eb prog AV aV8:=DM func42 rfl AU aIC<|DM func30 rfl AU Cu<|Hv<|gk Ww
def agB (s:Lh):((Ep prog AV Ww aV8 aTK).k 42 (Ug s)<|Ym s).bind (λq=>GM (M<|Ym s) [0] [.pc 16 7 AQ,.kb 5,.pc 16 9<|.int aw,.kb 6,.pc 16 10 Ap,.kb 7,.pc 16 16 Aw,.kb 12,.pc 16 17 BP,.kb 13] .normal (q.1::Ug s) q.2)=(iq s).mp (λs2=>⟨.normal,M (Ug s)+1,[acK s2],acZ s2,U⟩):=AU
def axd (s:Lh) (hE:aCe s):(iq s).all (λq=>q=XY s):=by
 obtain ⟨⟨hV,hR⟩,hK,hls⟩:=hE
 have hs:=DK.1 hV.site
 have ht:=hV.FE
 have hwd:=hR.wd hV
 have htk:=hV.tk
 have hx:Cm s.p.ls s.p.tk=0:=apm hls htk
 have hxs:Dn s.p.ls s.p.tk=BB s.p.ls s.p.tk:=AD hx
 have hA:jt (aG3 s):=⟨ht,by show M s.p.tg<=1000;omega⟩
 have q2:E0 s.p.cs s.p.tg (M s.p.tg)=s.p.EP:=rfl
 have e1:deE s.p.EP s.p.os s.p.ks s.p.gs s.p.bs (BB s.p.ls s.p.tk) s.p.ra s.p.dm s.p.tk s.p.nx=s.p.dE:=by unfold PK.dE;rw [hxs]
 have e2:deR s.p.EP s.p.os s.p.ks s.p.gs s.p.bs (BB s.p.ls s.p.tk) s.p.ra s.p.dm s.p.tk s.p.nx=s.p.dR:=by unfold PK.dR;rw [hxs]
 have e3:deL s.p.EP s.p.os s.p.ks s.p.gs s.p.bs (BB s.p.ls s.p.tk) s.p.ra s.p.dm s.p.tk s.p.nx=s.p.dL:=by unfold PK.dL;rw [hxs]
 have hst:oM s=⟨s.p.dL,(M s.p.dL:Y),0,{s.p with ls:=BB s.p.ls s.p.tk,ra:=s.p.dR},s.ev⟩:=by
  unfold oM;simp only [Fs,q2,e2,e3]
 have hB:kP ⟨s.p.dL,(M s.p.dL:Y),0,{s.p with ls:=BB s.p.ls s.p.tk,ra:=s.p.dR},s.ev⟩:=by
  refine ⟨rfl,rfl,?_,λx hx=>?_,htk,hK,?_⟩
  ·have:=vY (p:=s.p);show (M s.p.dL:Y)<=16;omega
  ·have:=aBP (p:=s.p) x hx;omega
  ·have:=hR.lk;show (M s.p.lk:Y)<=17000000+0;omega
 have q3:=(auT _ hB).2
 have q3:(aDA ⟨s.p.dL,(M s.p.dL:Y),0,{s.p with ls:=BB s.p.ls s.p.tk,ra:=s.p.dR},s.ev⟩).p=L5 {s.p with ls:=BB s.p.ls s.p.tk,ra:=s.p.dR} s.p.dL:=q3
 unfold iq;simp only [Fs,XS,q2,e1,e2,hst,q3];refine ⟨λc=>?_,λc=>?_⟩
 ·have c:s.p.up=false:=Ir
  repeat (refine ⟨Dh,?_⟩)
  show _=_
  unfold XY;rw [show PK.AM s.p=s.p from AD c]
 have hu:¬s.p.up=false:=by intro h;rw [h] at c;cases c
 refine ⟨A0,hx,?_⟩
 repeat (refine ⟨AI,?_⟩)
 refine ⟨⟨hA,rfl,rfl⟩,rfl,rfl,rfl,rfl,rfl,?_⟩
 repeat (refine ⟨Dh,?_⟩)
 refine ⟨λc1=>?_,λc1=>?_⟩
 ·have c1:s.p.dE≠0:=Dv.1 c1
  repeat (refine ⟨AI,?_⟩)
  show _=_
  unfold XY;rw [show PK.AM s.p={s.p with ls:=Dn s.p.ls s.p.tk} by unfold PK.AM;rw [AE hu,AD c1],hxs]
 ·have c1:¬s.p.dE≠0:=λh=>aP2
  repeat (refine ⟨AI,?_⟩)
  refine ⟨⟨hB,rfl,rfl⟩,?_⟩
  repeat (refine ⟨AI,?_⟩)
  show _=_
  unfold XY;rw [show PK.AM s.p=_ by unfold PK.AM;rw [AE hu,AE c1],ap2]
  unfold L5 PK.HA;rw [hxs]
def TT:Dj prog AV 42 PY.m:=D8.sound (D:=PY) (t:=iq) (gk Ww) aqI aTK.h agB λs hE=>⟨axd s hE⟩
def FF {α:Type}(f:aWe->α->α):aWe->α->aWe->α
 |_,s,0=>s
 |i,s,n+1=>FF f (i+1) (f i s) n
def aIW {α:Type}{f:aWe->α->α}:∀ {n i:aWe}{s:α},FF f i s (n+1)=f (i+n) (FF f i s n)
 |0,_,_=>rfl
 |n+1,i,s=>by
  rw [FF,aIW (n:=n) (i:=i+1),show i+1+n=i+(n+1) by omega]
  rfl
def XH {α:Type}{f:aWe->α->α}{F:aWe->α}(h:∀k,F (k+1)=f k (F k)):∀n,FF f 0 (F 0) n=F n
 |0=>rfl
 |n+1=>by rw [aIW,XH h n,h,Ek]
def MK {α:Type}{f:aWe->α->α}{s:α}{i n:Y}(h0:0<=i) (h:i<n):FF f i.toNat s (n-i).toNat=FF f (i+1).toNat (f i.toNat s) (n-(i+1)).toNat:=by
 rw [show (n-i).toNat=(n-(i+1)).toNat+1 by omega,FF,show (i+1).toNat=i.toNat+1 by omega]
def pz {α:Type}{f:aWe->α->α}{s:α}{i n:Y}(h:n<=i):FF f i.toNat s (n-i).toNat=s:=by
 rw [show (n-i).toNat=0 by omega]
 rfl
def aIV {α:Type}{f:aWe->List α->List α}(h:∀k s,M (f k s)=M s):∀ {n i:aWe}{s:List α},M (FF f i s n)=M s
 |0,_,_=>rfl
 |n+1,i,s=>(aIV h (n:=n) (i:=i+1)).trans<|h i s
def tk1 (gs:aWh) (i:Y) (_:aWe) (st:aWE):aWE:=CY gs st i 8 0 0
def axl {gs:aWh}{st:aWE}{i:Y}:∀n,FF (tk1 gs i) 0 st n=Lo gs st i n:=XH (F:=Lo gs st i) λ_=>rfl
def cnt1 (gs:aWh) (dr:aWd) (t:Y) (k:aWe) (st:aWE):aWE:=if HW t (gi dr k)=0/\HW (t+1) (gi dr k)=0 then Lo gs st k (BE (t+1) (gi dr k)-BE t (gi dr k)).toNat else st
def ajU {gs:aWh}{dr:aWd}{t:Y}{st:aWE}:∀n,FF (cnt1 gs dr t) 0 st n=L3 gs dr t st n:=XH (F:=L3 gs dr t st) λ_=>rfl
def anB {gs:aWh}{ca:aW0}{s:DW}:∀n,FF (λk d=>H6 gs ca d (k:Y)) 0 s n=FL gs ca s n:=XH (F:=FL gs ca s) λ_=>rfl
def bU (gs:aWh) (tg am:aWd) (k:aWe) (cs:aWl):aWl:=if gi tg k>=(Ae cs k).2.2.1 then cs else
  if (an (M am=M gs)&&E9 (cs.set k<|GQ (Ae cs k)<|gi tg k) gs am)=U then cs.set k (GQ (Ae cs k)<|gi tg k) else cs
def aoy {gs:aWh}{tg am:aWd}{cs:aWl}:∀n,FF (bU gs tg am) 0 cs n=DG gs tg am cs n:=XH (F:=DG gs tg am cs) λ_=>rfl
def aTx {c:Ca}{m:Mi}{p al:Y}:0<=Ee c m p al/\Ee c m p al<=7:=by
 unfold Ee;split
 ·rename_i hB
  obtain ⟨hc,_,h1,h2,_⟩:=eh.1 hB
  have hc':=Wc.1 hc
  unfold HU;split
  ·omega
  ·exact aDX ⟨A0,A0⟩ ⟨h1,h2⟩
 ·omega
def aVP {c:Ca}{m:Mi}{p al:Y}:IntKind.u64.wrap (Ee c m p al)=Ee c m p al:=by
 have:=aTx (c:=c) (m:=m) (p:=p) (al:=al)
 exact aNf
variable {gs : List Ch} {ca : List Ca} {st : List St} {mi : List Mi} {me : List Me} {dw : List Int} {i : Int}
def anD (h:(Be ca i).2.2.1=0):H6 gs ca ⟨st,mi,me,dw⟩ i=⟨st,mi,me,dw⟩:=AD h
def anC (h:¬(Be ca i).2.2.1=0) (h2:¬JU (Be ca i) (Cs mi i) (AG gs i).2.2.1 (Bo (AG gs i)<|BW st i)=0):H6 gs ca ⟨st,mi,me,dw⟩ i=⟨st,mi,me,dw⟩:=by
 unfold H6
 grind
def U7 (h:¬(Be ca i).2.2.1=0) (h2:JU (Be ca i) (Cs mi i) (AG gs i).2.2.1 (Bo (AG gs i)<|BW st i)=0):
  H6 gs ca ⟨st,mi,me,dw⟩ i=⟨if Fg (Be ca i) (Cs mi i) (AG gs i).2.2.1 (Bo (AG gs i)<|BW st i)>Bo (AG gs i) (BW st i) then CY gs st i 6 2 0 else st,mi.set i.toNat<|K8 (Be ca i) (Cs mi i) (AG gs i).2.2.1<|Bo (AG gs i)<|BW st i,
   if GR (gMe me i) (Fg (Be ca i) (Cs mi i) (AG gs i).2.2.1<|Bo (AG gs i)<|BW st i) (cnt<|Ee (Be ca i) (Cs mi i) (AG gs i).2.2.1<|Bo (AG gs i)<|BW st i)=0 then me.set i.toNat (IF (gMe me i) (Fg (Be ca i) (Cs mi i) (AG gs i).2.2.1<|Bo (AG gs i)<|BW st i)<|cnt<|Ee (Be ca i) (Cs mi i) (AG gs i).2.2.1<|Bo (AG gs i)<|BW st i) else me,dw.set i.toNat<|Fg (Be ca i) (Cs mi i) (AG gs i).2.2.1<|Bo (AG gs i)<|BW st i⟩:=by
 unfold H6
 grind
def aaD (t d:Y):0<=BE t d/\BE t d<=2000000:=by
 unfold BE;split
 ·rename_i h
  simp only [AY,BV] at h
  have h1:0<=t*(1000000+d):=Im A0 A0
  have h2:t*(1000000+d)<=1000000*2000000:=Int.mul_le_mul A0 A0 A0 A0
  omega
 ·omega
end Go.Proofs.YtoifmkifedcnnaaGreatDoor
namespace Go.Proofs.YtoifmkifedcnnaaGreatDoor
set_option maxRecDepth 100000
set_option maxHeartbeats 4000000
open Go.Proofs.Tryz
open Go.Sx
def aLG:aWf->T LV
 | [.v (ag J r),.v (ag J m)]=> .req ((0<=r/\r<=2000000)/\0<=m/\m<=3000000) (.ok<|.v<|ag J<|m*r / 1000000)
 |_=> .no
def anV:aWp:=[]
def awj:=vo (S:=aLG) func77 anV kN (λargs lv h=>by
 unfold aLG at h;split at h
 ·rename_i r m
  refine Aq (.req ((1000000:Y)≠0)<|.ok<|AA<|(AA<|m*r).tdiv 1000000) ?_;obtain ⟨⟨⟨h1,h2⟩,h3,h4⟩,rfl⟩:=h
  have hm:0<=m*r/\m*r<=6000000000000:=⟨Im h3 h1,Hl (Q6 h2 h3) A0⟩
  refine ⟨A0,B3 (λz=>LV.v<|ag J z) ?_⟩
  rw [AJ (x:=m*r),IL hm.1];exact AJ
 ·cases h)
def aUi:aWf->T LV
 | [.v (ag J t),.v (ag J d)]=> .tu #[BE t d,HW t d]
 |_=> .no
def aiS:aWp:=[aPr,awj]
def XU:=vo (S:=aUi) func81 aiS kN (λargs lv h=>by
 unfold aUi at h;split at h
 ·rename_i t d
  refine Aq (letI a:=AA<|1000000+d;.br ((!(inB t 0 1000000)) ||((an<|d<(-200)) ||(an<|d>200))) (.tu #[(0:Y),(1:Y)])<|.req ((0<=a/\a<=2000000)/\0<=t/\t<=3000000)<|.tu #[ag J<|t*a / 1000000,(0:Y)]) ?_;obtain rfl:=h;unfold BE HW;refine ⟨λc=>?_,λc=>?_⟩
  ·have:(inB t 0 1000000&&inB d (-200) 200)=false:=by
    cases ht:inB t 0 1000000
    ·rfl
    ·simp [ht] at c;simp [inB];omega
   rw [this];rfl
  ·have hh:inB t 0 1000000=U/\-200<=d/\d<=200:=by
    cases ht:inB t 0 1000000
    ·grind
    ·grind
   have:(inB t 0 1000000&&inB d (-200) 200)=true:=by rw [hh.1];simp [inB];omega
   have ht:=BV.1 hh.1
   rw [this,AJ (x:=1000000+d)];exact ⟨⟨⟨A0,A0⟩,A0,A0⟩,rfl⟩
 ·cases h)
def aKx:aWf->T LV
 | [.v (ag .u64 n)]=> .req (0<=n/\n<=7) (.ok<|cnt n)
 |_=> .no
def apk:Bl prog AV (DL []) (inl prog AV (DL []) (E5 prog AV (DL []) 20 2) 9) Ak f85 [.v<|ag .u64 0]=.ok (cnt 0):=AU
def apj:Bl prog AV (DL []) (inl prog AV (DL []) (E5 prog AV (DL []) 20 2) 9) Ak f85 [.v<|ag .u64 1]=.ok (cnt 1):=AU
def aph:Bl prog AV (DL []) (inl prog AV (DL []) (E5 prog AV (DL []) 20 2) 9) Ak f85 [.v<|ag .u64 2]=.ok (cnt 2):=AU
def apg:Bl prog AV (DL []) (inl prog AV (DL []) (E5 prog AV (DL []) 20 2) 9) Ak f85 [.v<|ag .u64 3]=.ok (cnt 3):=AU
def apf:Bl prog AV (DL []) (inl prog AV (DL []) (E5 prog AV (DL []) 20 2) 9) Ak f85 [.v<|ag .u64 4]=.ok (cnt 4):=AU
def ape:Bl prog AV (DL []) (inl prog AV (DL []) (E5 prog AV (DL []) 20 2) 9) Ak f85 [.v<|ag .u64 5]=.ok (cnt 5):=AU
def apd:Bl prog AV (DL []) (inl prog AV (DL []) (E5 prog AV (DL []) 20 2) 9) Ak f85 [.v<|ag .u64 6]=.ok (cnt 6):=AU
def apc:Bl prog AV (DL []) (inl prog AV (DL []) (E5 prog AV (DL []) 20 2) 9) Ak f85 [.v<|ag .u64 7]=.ok (cnt 7):=AU
def asO {n:Y}(h1:0<=n) (h2:n<=7):Bl prog AV (DL []) (inl prog AV (DL []) (E5 prog AV (DL []) 20 2) 9) Ak f85 [.v<|ag .u64 n]=.ok (cnt n):=by
 rcases eight h1 h2 with e|e|e|e|e|e|e|e
 ·rw [e];exact apk
 ·rw [e];exact apj
 ·rw [e];exact aph
 ·rw [e];exact apg
 ·rw [e];exact apf
 ·rw [e];exact ape
 ·rw [e];exact apd
 ·rw [e];exact apc
def We:VV 85 (uS f85 aKx):=pC func85 rfl (pS (l:=[]) trivial) (aDi (pS (l:=[]) trivial) (Hv<|pS (l:=[]) trivial) 9) (qQ AU) (λargs lv h=>by
 unfold aKx at h;split at h
 ·rename_i n
  simp only [canL,canX];rw [asO h.1.1 h.1.2];exact h.2
 ·cases h)
def No:aWp:=[]
def awL:aWf->T LV:=λl=>Bl prog AV No kN Ak f163<|canL l
def awN:=vo (S:=awL) func163 No kN (λargs lv h=>by
 refine ⟨?_⟩
 assumption)
def awM:aWf->T LV:=λl=>Bl prog AV No kN Ak f202<|canL l
def awQ:=vo (S:=awM) func202 No kN (λargs lv h=>by
 refine ⟨?_⟩
 assumption)
def ajx:aWf->T LV:=λl=>Bl prog AV No kN Ak f200<|canL l
def aa1:=vo (S:=ajx) func200 No kN (λargs lv h=>by
 refine ⟨?_⟩
 assumption)
def ab1:aWp:=[awQ]
def ajw:aWf->T LV:=λl=>Bl prog AV (ab1) kN Ak f201<|canL l
def aa0:=vo (S:=ajw) func201 ab1 kN (λargs lv h=>by
 refine ⟨?_⟩
 assumption)
def ajv:aWf->T LV:=λl=>Bl prog AV No kN Ak f203<|canL l
def aWc:=vo (S:=ajv) func203 No kN (λargs lv h=>by
 refine ⟨?_⟩
 assumption)
def aie:aWf->T LV:=λl=>Bl prog AV No kN Ak f204<|canL l
def aWb:=vo (S:=aie) func204 No kN (λargs lv h=>by
 refine ⟨?_⟩
 assumption)
def aay:aWp:=[aa1,aa0,aWc,aWb]
def awK:aWf->T LV:=λl=>Bl prog AV (aay) kN Ak f164<|canL l
def awq:=vo (S:=awK) func164 aay kN (λargs lv h=>by
 refine ⟨?_⟩
 assumption)
def aKj:aWf->T LV
 | [.xq 8 q0,.v (ag J p2),.v (ag J al)]=>(match ([q0 0,q0 1,q0 2,q0 3,q0 4,q0 5,q0 6,q0 7]:aWf) with
  | [.v (ag J k),.v (ag J ph),.v (ag J mx),.v (ag J nd),.v (ag J dl),.xl (.int J) pil,.v (ag J tk),.v (ag J got)]=> .req (GW (k,ph,mx,nd,dl)=U/\IE (pil,tk,got)=U/\1<=p2/\p2<=7/\0<=al) (.tu #[FC (k,ph,mx,nd,dl) (pil,tk,got) p2 al,HU (k,ph,mx,nd,dl) (pil,tk,got) p2 al])
  |_=> .no)
 |_=> .no
def aax:aWp:=[awN,awq,aa1,aa0,aWc,aWb]
def au4 (k ph mx nd dl:Y) (pil:aWd) (tk got p2 al:Y):letI a:=Bk J ph p2;letI c:=AA<|0-a;letI d:=(AA<|(M pil:Y)-dl);letI b:=gi pil d;Bl prog AV (aax) kN Ak f114 [xQ 8 [k,ph,mx,nd,dl,.xl A7 pil,tk,got],p2,al]=.br (((if k==2 then Bk J a c else Bk J ph p2)==0) ||(an<|got>=nd)) (.tu #[(0:Y),(0:Y)]) (.br (k==(0:Y)) (.br ((if al<mx then al else mx)==0) (.tu #[(0:Y),(0:Y)])<|.tu #[ag J (if al<mx then al else mx),ag J (if k==2 then Bk J a c else Bk J ph p2)])<|.br (k==(2:Y)) (.br ((if al<mx then al else mx)==0) (.tu #[(0:Y),(0:Y)])<|.tu #[ag J (if al<mx then al else mx),ag J (if k==2 then Bk J a c else Bk J ph p2)])<|.br (k==(1:Y)) (.br (dl==0) (.br ((if al<mx then al else mx)==0) (.tu #[(0:Y),(0:Y)])<|.tu #[ag J (if al<mx then al else mx),ag J (if k==2 then Bk J a c else Bk J ph p2)])<|.br (an<|d>=0) (.ix d (M pil)<|.br ((if (if b<al then b else al)<mx then if b<al then b else al else mx)==0) (.tu #[(0:Y),(0:Y)])<|.tu #[ag J (if (if b<al then b else al)<mx then if b<al then b else al else mx),ag J (if k==2 then Bk J a c else Bk J ph p2)])<|.br ((if (if (0:Y)<al then 0 else al)<mx then if (0:Y)<al then 0 else al else mx)==0) (.tu #[(0:Y),(0:Y)])<|.tu #[ag J (if (if (0:Y)<al then 0 else al)<mx then if (0:Y)<al then 0 else al else mx),ag J (if k==2 then Bk J a c else Bk J ph p2)])<|.br (k==(3:Y)) (.req (dl≠0)<|.req ((2:Y)≠0)<|.br (((AA<|tk.tdiv dl).tmod 2)==1) (.br ((if (0:Y)<mx then 0 else mx)==0) (.tu #[(0:Y),(0:Y)])<|.tu #[ag J (if (0:Y)<mx then 0 else mx),ag J (if k==2 then Bk J a c else Bk J ph p2)])<|.br ((if al<mx then al else mx)==0) (.tu #[(0:Y),(0:Y)])<|.tu #[ag J (if al<mx then al else mx),ag J (if k==2 then Bk J a c else Bk J ph p2)])<|.br (k==(4:Y)) (.br (al==0) (.br ((if (0:Y)<mx then 0 else mx)==0) (.tu #[(0:Y),(0:Y)])<|.tu #[ag J (if (0:Y)<mx then 0 else mx),ag J (if k==2 then Bk J a c else Bk J ph p2)])<|.br ((if mx<mx then mx else mx)==0) (.tu #[(0:Y),(0:Y)])<|.tu #[ag J (if mx<mx then mx else mx),ag J (if k==2 then Bk J a c else Bk J ph p2)])<|.no /-call of v -/):=AU
def awP := vo (S:=aKj) func114 aax kN (λargs lv h=>by
 refine ⟨?_⟩;unfold aKj at h;split at h
 ·split at h
  case h_2=>cases h
  rename_i heq0;simp only [canL,canX];rw [E6 (n:=8) heq0];simp only [canL,canX];rw [au4];rename_i p2 al _ k ph mx nd dl pil tk got;obtain ⟨⟨hc,hm,hp1,hp2,hal⟩,rfl⟩:=h
  have hc:=Wc.1 hc
  have hm:=di.1 hm
  simp only at hc hm
  have hl:=aEZ (a:=ph) (b:=p2) ⟨A0,A0⟩ ⟨A0,A0⟩
  have e0:(if (k==2)=U then Bk J (Bk J ph p2) (AA<|0-Bk J ph p2) else Bk J ph p2)=Ky k ph p2:=by
   have hw:AA (0-Bk J ph p2)=-land ph p2:=by
    have:Bk J ph p2=land ph p2:=rfl
    rw [this,AJ];omega
   rw [hw];unfold Ky land;simp only [D3]
  have ew:AA ((M pil:Y)-dl)=(M pil:Y)-dl:=AJ
  have et:AA (tk.tdiv dl)=tk.tdiv dl:=by
   rw [IL A0]
   have h1:0<=tk / dl:=Sf A0 A0
   have h2:tk / dl<=tk:=VF _ A0
   exact AJ
  have hz:(Ky k ph p2=0\/nd<=got)->FC (k,ph,mx,nd,dl) (pil,tk,got) p2 al=0:=λh=>by unfold FC;rw [AD h]
  have hn:¬(Ky k ph p2=0\/nd<=got)->FC (k,ph,mx,nd,dl) (pil,tk,got) p2 al=min mx (Gx (k,ph,mx,nd,dl) (pil,tk,got) al):=λh=>by unfold FC;rw [AE h]
  have w0:k≠1->k≠3->k≠4->Gx (k,ph,mx,nd,dl) (pil,tk,got) al=al:=λh1 h2 h3=>by simp [Gx,h1,h2,h3]
  have w1a:k=1->dl=0->Gx (k,ph,mx,nd,dl) (pil,tk,got) al=al:=λh1 h2=>aY
  have w1b:k=1->dl≠0->0<=(M pil:Y)-dl->Gx (k,ph,mx,nd,dl) (pil,tk,got) al=min al (gi pil<|(M pil:Y)-dl):=λh1 h2 h3=>by
   simp only [Gx,h1,h2,Bp,FQ,bf,MB];rw [AD h3];rfl
  have w1c:k=1->dl≠0->(M pil:Y)-dl<0->Gx (k,ph,mx,nd,dl) (pil,tk,got) al=min al 0:=λh1 h2 h3=>by
   simp only [Gx,h1,h2,Bp,FQ,bf,MB];rw [AE A0]
  have w3a:k=3->(tk.tdiv dl).tmod 2=1->Gx (k,ph,mx,nd,dl) (pil,tk,got) al=0:=λh1 h2=>aY
  have w3b:k=3->¬(tk.tdiv dl).tmod 2=1->Gx (k,ph,mx,nd,dl) (pil,tk,got) al=al:=λh1 h2=>aY
  have w4a:k=4->al=0->Gx (k,ph,mx,nd,dl) (pil,tk,got) al=0:=λh1 h2=>aY
  have w4b:k=4->al≠0->Gx (k,ph,mx,nd,dl) (pil,tk,got) al=mx:=λh1 h2=>aY
  have ho1:FC (k,ph,mx,nd,dl) (pil,tk,got) p2 al=0->HU (k,ph,mx,nd,dl) (pil,tk,got) p2 al=0:=λh=>by unfold HU;rw [AD h]
  have ho2:FC (k,ph,mx,nd,dl) (pil,tk,got) p2 al≠0->HU (k,ph,mx,nd,dl) (pil,tk,got) p2 al=Ky k ph p2:=λh=>by unfold HU;rw [AE h]
  have fin:∀a o:Y,a=FC (k,ph,mx,nd,dl) (pil,tk,got) p2 al->o=HU (k,ph,mx,nd,dl) (pil,tk,got) p2 al->LV.v (.tuple #[ag J a,ag J o])=LV.v (.tuple #[ag J<|FC (k,ph,mx,nd,dl) (pil,tk,got) p2 al,ag J<|HU (k,ph,mx,nd,dl) (pil,tk,got) p2 al]):=λa o h1 h2=>zG
  simp only [e0,ew,et]
  clear e0 ew hl et
  generalize FC (k,ph,mx,nd,dl) (pil,tk,got) p2 al=qA at*;generalize HU (k,ph,mx,nd,dl) (pil,tk,got) p2 al=qO at*;generalize Gx (k,ph,mx,nd,dl) (pil,tk,got) al=qw at*;generalize Ky k ph p2=qc at*;generalize gi pil ((M pil:Y)-dl)=qg at*;refine ⟨λc1=>?_,λc1=>?_⟩
  ·simp only [D3,CQ,ne_eq,Cj,Ga,Aa,DC,MB,Q9] at*
   refine fin _ _ ?_ ?_<;>(clear fin w0 w1a w1b w1c w3a w3b w4a w4b;omega)
  ·refine ⟨λc2=>?_,λc2=>?_⟩
   ·refine ⟨λc3=>?_,λc3=>?_⟩
    ·exact mB
    ·exact mB
   ·refine ⟨λc3=>?_,λc3=>?_⟩
    ·refine ⟨λc4=>?_,λc4=>?_⟩
     ·exact mB
     ·exact mB
    ·refine ⟨λc4=>?_,λc4=>?_⟩
     ·refine ⟨λc5=>?_,λc5=>?_⟩
      ·refine ⟨λc6=>?_,λc6=>?_⟩
       ·exact m9
       ·exact m9
      ·refine ⟨λc6=>?_,λc6=>?_⟩
       ·refine ⟨?_,?_⟩
        ·simp only [D3,CQ,ne_eq,Cj,Ga,Aa,DC,MB,Q9] at*
         (first|decide|(clear fin w0 w3a w3b w4a w4b;omega))
        ·exact aNh
       ·exact aNh
     ·refine ⟨λc5=>?_,λc5=>?_⟩
      ·refine ⟨?_,?_⟩
       ·exact aNG
       ·refine ⟨?_,?_⟩
        ·exact aNG
        ·refine ⟨λc6=>?_,λc6=>?_⟩
         ·exact aNi
         ·exact aNi
      ·refine ⟨λc6=>?_,λc6=>?_⟩
       ·refine ⟨λc7=>?_,λc7=>?_⟩
        ·exact aNj
        ·exact aNj
       ·exfalso
        simp only [D3,CQ,ne_eq,Cj,Ga,Aa,DC,MB,Q9] at*
        clear fin hz hn ho1 ho2 w0 w1a w1b w1c w3a w3b w4a w4b
        omega
 ·cases h)
def aKc:aWf->T LV
 | [.xq 8 q0,.v (ag J al),.v (ag J am),.v (ag J on)]=>(match ([q0 0,q0 1,q0 2,q0 3,q0 4,q0 5,q0 6,q0 7]:aWf) with
  | [.v (ag J k),.v (ag J ph),.v (ag J mx),.v (ag J nd),.v (ag J dl),.xl (.int J) pil,.v (ag J tk),.v (ag J got)]=> .req (IE (pil,tk,got)=U/\0<=am/\am<=80/\0<=on/\on<=7) (.ok<|.agg [.xl A7<|dwP pil al,.v<|ag J<|tk+1,.v<|ag J<|got+2300*am*cnt on])
  |_=> .no)
 |_=> .no
def aaw:aWp:=[We]
def au2 (k ph mx nd dl:Y) (pil:aWd) (tk got al am on:Y):letI a:=(AA<|(((0:Y).toNat+M pil+M ([al]):aWe):Y)-21);letI b:=(aq (0:Y).toNat (0:Y));letI c:=IntKind.u64.wrap on;letI d:=(AA<|(M pil:Y)+1);letI e:=(b++pil)++([al]);letI f:=AA<|got+(AA<|(AA<|2300*am)*(cnt c));Bl prog AV (aaw) kN Ak f115 [xQ 8 [k,ph,mx,nd,dl,.xl A7 pil,tk,got],al,am,on]=.req (0<=(0:Y)/\(0:Y)<=d/\8*d<=2^48/\d<2^63) (.ra (0:Y).toNat (M b) ((0:Y).toNat+M pil) 8<|.ra ((0:Y).toNat+M pil) (M<|b++pil) ((0:Y).toNat+M pil+M ([al])) 8<|.br (an<|(((0:Y).toNat+M pil+M ([al]):aWe):Y)>21) (.req (0<=a/\a<=(((0:Y).toNat+M pil+M ([al]):aWe):Y)/\(((0:Y).toNat+M pil+M ([al]):aWe):Y)<=(((0:Y).toNat+M pil+M ([al]):aWe):Y))<|.req (0<=c/\c<=7)<|.req ((0+a.toNat)+((((0:Y).toNat+M pil+M ([al]):aWe):Y).toNat-a.toNat)<=M e)<|.ok<|.agg [.xl A7<|(e.drop<|0+a.toNat).take<|(((0:Y).toNat+M pil+M ([al]):aWe):Y).toNat-a.toNat,AA<|tk+1,f])<|.req (0<=c/\c<=7)<|.req (0+((0:Y).toNat+M pil+M ([al]))<=M e)<|.ok<|.agg [.xl A7<|(e.drop 0).take<|(0:Y).toNat+M pil+M ([al]),AA<|tk+1,f]):=AU
def aws :=vo (S:=aKc) func115 aaw kN (λargs lv h=>by
 refine ⟨?_⟩;unfold aKc at h;split at h
 ·split at h
  case h_2=>cases h
  rename_i heq0;simp only [canL,canX];rw [E6 (n:=8) heq0];simp only [canL,canX];rw [au2];rename_i al am on _ k ph mx nd dl pil tk got;obtain ⟨⟨hm,ha1,ha2,ho1,ho2⟩,rfl⟩:=h
  have hm:=di.1 hm
  simp only at hm
  have hu:IntKind.u64.wrap on=on:=by simp [IntKind.wrap,IntKind.bits,IntKind.signed];omega
  have ht:AA (tk+1)=tk+1:=AJ
  have hcn:0<=cnt on/\cnt on<=3:=by unfold cnt;omega
  have hg:AA (got+AA (AA (2300*am)*cnt on))=got+2300*am*cnt on:=by
   rw [AJ (x:=2300*am)]
   have:cnt on=0\/cnt on=1\/cnt on=2\/cnt on=3:=A0
   rcases this with e|e|e|e<;>rw [e,AJ (x:=2300*am*_),AJ]
  have h0:(0:Y).toNat=0:=rfl
  have hw1:AA ((M pil:Y)+1)=(M pil:Y)+1:=AJ
  have hw2:AA (((M pil+1:aWe):Y)-21)=(M pil:Y)-20:=by rw [AJ];omega
  have fin:∀(p:aWd),p=dwP pil al->LV.agg [.xl A7 p,.v<|ag J<|tk+1,.v<|ag J<|got+2300*am*cnt on]=LV.agg [.xl A7<|dwP pil al,.v<|ag J<|tk+1,.v<|ag J<|got+2300*am*cnt on]:=λp h=>Vf
  simp only [h0,List.replicate_zero,EX,BL,Bj,Bt,Ek,hu,ht,hg,hw1,hw2];refine ⟨?_,?_⟩
  ·(try simp only [Aa,DC] at c1);first|omega|(simp;done) |(simp;omega)
  ·refine ⟨?_,?_⟩
   ·(try simp only [Aa,DC] at c1);first|omega|(simp;done) |(simp;omega)
   ·refine ⟨?_,?_⟩
    ·(try simp only [Aa,DC] at c1);first|omega|(simp;done) |(simp;omega)
    ·refine ⟨λc1=>?_,λc1=>?_⟩
     ·refine ⟨?_,?_⟩
      ·(try simp only [Aa,DC] at c1);first|omega|(simp;done) |(simp;omega)
      ·refine ⟨?_,?_⟩
       ·(try simp only [Aa,DC] at c1);first|omega|(simp;done) |(simp;omega)
       ·refine ⟨?_,?_⟩
        ·(try simp only [Aa,DC] at c1);first|omega|(simp;done) |(simp;omega)
        ·refine fin _ ?_
         unfold dwP;simp only [Aa,DC] at c1;rw [show ((M pil:Y)-20).toNat=M pil-20 by omega]
         exact De (by rw [FO,BL];simp only [Bj,Bt];omega)
     ·refine ⟨?_,?_⟩
      ·omega
      ·refine ⟨?_,?_⟩
       ·omega
       ·refine fin _ ?_
        unfold dwP;simp only [Aa,DC] at c1;rw [show M pil-20=0 by omega]
        grind
 ·cases h)
def aUS:aWf->T LV
 | [.v (.agg ⟨[ag J k,ag J ph,ag J mx,ag J nd,ag J dl]⟩),.agg [.xl (.int J) pil,.v (ag J tk),.v (ag J got)],.v (ag J p2),.v (ag J al)]=> .ok (.AO [Fg (k,ph,mx,nd,dl) (pil,tk,got) p2 al,Ee (k,ph,mx,nd,dl) (pil,tk,got) p2 al,.agg [.xl A7 (K8 (k,ph,mx,nd,dl) (pil,tk,got) p2 al).1,(K8 (k,ph,mx,nd,dl) (pil,tk,got) p2 al).2.1,(K8 (k,ph,mx,nd,dl) (pil,tk,got) p2 al).2.2],JU (k,ph,mx,nd,dl) (pil,tk,got) p2 al])
 |_=> .no
def anW:aWp:=[aa5,ajc,aPv,awP,aws]
def Xd:=vo (S:=aUS) func83 anW kN (λargs lv h=>by
 unfold aUS at h;split at h
 ·rename_i k ph mx nd dl pil tk got p2 al
  refine Aq (letI a:=(k,ph,mx,nd,dl);letI b:=(pil,tk,got);letI c:=FC a b p2 al;letI d:=HU a b p2 al;.br ((!(GW a)) ||((!(IE b)) ||((!(inB p2 (1:Y) (7:Y))) ||((!(inB al (0:Y) (80:Y))) ||(tk==1000000))))) (.ok<|.AO [(0:Y),(0:Y),.agg [.xl A7 ([]:aWd),(0:Y),(0:Y)],(1:Y)])<|.req (GW a=U/\IE b=U/\1<=p2/\p2<=7/\0<=al)<|.req (IE b=U/\0<=c/\c<=80/\0<=d/\d<=7)<|.ok<|.AO [c,d,.agg [.xl A7<|dwP pil al,.v<|ag J<|tk+1,.v<|ag J<|got+2300*c*cnt d],(0:Y)]) ?_;obtain rfl:=h
  have e:((!(GW (k,ph,mx,nd,dl))) ||((!(IE (pil,tk,got))) ||((!(inB p2 (1:Y) (7:Y))) ||((!(inB al (0:Y) (80:Y))) ||(tk==1000000)))))=!(dwB (k,ph,mx,nd,dl) (pil,tk,got) p2 al):=by simp [dwB,bne]
  rw [e];unfold Fg Ee K8 JU;refine ⟨λc1=>?_,λc1=>?_⟩
  ·have hB:dwB (k,ph,mx,nd,dl) (pil,tk,got) p2 al=false:=AX
   rw [hB];rfl
  ·have hB:dwB (k,ph,mx,nd,dl) (pil,tk,got) p2 al=true:=A8
   rw [hB];obtain ⟨hc,hm,h1,h2,h3,h4,h5⟩:=eh.1 hB;obtain ⟨b1,b2,b3,b4⟩:=aFA hc hm ⟨h1,h2⟩ ⟨h3,h4⟩;exact ⟨⟨hc,hm,h1,h2,h3⟩,⟨hm,b1,by have:=Wc.1 hc;omega,b3,b4⟩,rfl⟩
 ·cases h)
structure Ns where
 xs:aWN
 (n i:Y)
 p:PK
 ev:EW
 left:aWN
def Tv (s:Ns):T (Rd Ns):=letI b:=Ea s.xs s.i;letI c:=s.left++([b]);letI d:=M s.left+M ([b]);letI e:=AA<|s.i+1;letI f:=M s.p.st;letI g:=s.p.st.getD b.2.2.1.toNat<|Ty.dflt B7;letI h:=M<|[b];letI j:=M s.left;letI a:=(s.p.st.set b.2.2.1.toNat<|sN (AG s.p.gs b.2.2.1) g (7:Y) b.2.2.2.1 b.2.2.2.2.2);.br (an<|s.i<s.n) (.ix s.i (M s.xs)<|.br (an<|b.1>s.p.tk) (.br U (.rb j h 48<|.re d c<|.pd s.p<|.nx {s with i:=e,left:=c})<|.rl s.left<|.pd s.p<|.nx {s with i:=e})<|.ix b.2.2.1 (M s.p.gs)<|.ik b.2.2.1 f<|.br ((sE (AG s.p.gs b.2.2.1) g (7:Y) b.2.2.2.1 b.2.2.2.2.2)==0) (.ik b.2.2.1 f<|.br X (.rb j h 48<|.re d c<|.rl s.p.cs<|.re f a<|.rl s.p.ca<|.rl s.p.mi<|.rl s.p.me<|.rl s.p.dr<|.rl s.p.tg<|.nx {s with i:=e,p.st:=a,left:=c})<|.rl s.left<|.rl s.p.cs<|.re f a<|.rl s.p.ca<|.rl s.p.mi<|.rl s.p.me<|.rl s.p.dr<|.rl s.p.tg<|.nx {s with i:=e,p.st:=a})<|.br X (.rb j h 48<|.re d c<|.pd s.p<|.nx {s with i:=e,left:=c})<|.rl s.left<|.pd s.p<|.nx {s with i:=e})<|.rl s.left<|.pd s.p<|.so (.exit 0) s
def arr1 (gs:aWh) (t:Y) (st:aWE) (l:Lk):aWE:=if l.1>t then st else CY gs st l.2.2.1 7 l.2.2.2.1 l.2.2.2.2.2
def aTH {l:aWN}{i:Y}(h0:0<=i) (h:i<M l):Ea l i∈l/\l.drop i.toNat=Ea l i::l.drop (i+1).toNat:=by
 have e:Ea l i=l[i.toNat]' A0:=by unfold Ea;rw [DJ,Dg A0];rfl
 rw [e];exact ⟨GZ _,by rw [SZ A0,show (i+1).toNat=i.toNat+1 by omega]⟩
def aFG {gs:aWh}{lk:aWN}{t:Y}{st:aWE}:∀k,k<=M lk->Ly gs lk t st k=(lk.take k).foldl (arr1 gs t) st
 |0,_=>rfl
 |k+1,h=>by
  have e:Ea lk (k:Y)=lk[k]' A0:=by unfold Ea;rw [By,DJ,Dg A0];rfl
  rw [Ly,aFG k A0,Zi A0,List.foldl_append,<-e];rfl
def ju (s:Ns):Prop:=s.i=0/\s.n=(M s.xs:Y)/\s.n<=20000000/\(M s.left:Y)<=s.i/\(∀l∈s.xs,0<=l.2.2.1/\l.2.2.1<(M s.p.gs:Y))/\M s.p.st=M s.p.gs
def ke (s:Ns):Prop:=0<=s.i/\s.i<=s.n/\s.n=(M s.xs:Y)/\s.n<=20000000/\(M s.left:Y)<=s.i/\(∀l∈s.xs,0<=l.2.2.1/\l.2.2.1<(M s.p.gs:Y))/\M s.p.st=M s.p.gs
def qR (s:Ns):aWe:=(s.n-s.i).toNat
def ac4 (x:Ex) (s s':Ns):Prop:=True
def aoN:∀s,ju s->ke s:=by
 rintro s ⟨h0,h2,h3,h4⟩
 exact yE
def aix:Da ke qR ac4 Tv:=by
 intro s hI;unfold Tv;dsimp only [T.rd,T.rl,T.rv];obtain ⟨h0,h1,h2,h3,h4,h5,h6⟩:=hI;refine AH (λc1=>AH (λc2=>?_) λc2=>AH (λc3=>?_) λc3=>?_) λc1=>trivial
 all_goals have c1:s.i<s.n:=AX
 all_goals rw [AJ (x:=s.i+1)]
 ·exact AH (λ_=>⟨⟨AZ,AZ,h2,h3,A8,h5,h6⟩,yW⟩) λc=>Em
 ·exact AH (λc=>Em) λ_=>⟨⟨AZ,AZ,h2,h3,AZ,h5,A8⟩,yW⟩
 ·exact AH (λc=>Em) λ_=>⟨⟨A8,AZ,h2,h3,AZ,h5,h6⟩,yW⟩
def RE:AS Ns:=⟨19,30,[0,1,4,11,12,13],[.nl 4 68 BP],λs=>[.own 16 0,.fn 80 [.own 18 0],.os 19 6 0<|M s.left,s.xs,s.n,s.i],λs=>[AP,AP,zB,AP,bV 79 Af s.p.cs,AP,AP,AP,bV 107 B7 s.p.st,bV 57 AQ s.p.ca,bV 123 B9 s.p.mi,bV 110 BS s.p.me,AP,AP,bV 3 A7 s.p.dr,bV 3 A7 s.p.tg,⟨[.os 4 11 0<|M s.p.cs,.xl .str s.p.os,.xl Al s.p.ks,.xl Ah s.p.gs,.xl Am s.p.bs,.v<|ag J s.p.tk,.v<|.bool s.p.up,.xl AQ s.p.ls,.v<|ag J s.p.se,.xl (.int aw) s.p.fl,.xl Ap s.p.ra,.v<|ag J s.p.nx,.os 8 4 0<|M s.p.st,.os 9 5 0<|M s.p.ca,.os 10 3 0<|M s.p.mi,.os 11 3 0<|M s.p.me,.xl Aw s.p.dm,.xl BP s.p.lk,.os 14 1 0<|M s.p.dr,.os 15 1 0<|M s.p.tg,.v<|ag J s.ev.ek,.v<|ag J s.ev.en,.v<|ag J s.ev.em,.v<|ag J s.ev.c1,.v<|ag J s.ev.c2,.v<|ag J s.ev.c3,.v<|ag J s.ev.c4,.v<|ag J s.ev.c5,.v<|.bool s.ev.d1,.v<|ag J s.ev.d2,.v<|ag J s.ev.d3,.v<|ag J s.ev.d4,.v<|.slice aj 0 0],97,.cl,X⟩,AP,⟨[.own 16 0],92,.cl,X⟩,bV 68 BP s.left],λv b=>⟨Az BP v 3,AK v 4,AK v 5,rT b,rG b,Ac BP b 19⟩,Tv,λs r=> {s with i:=r.i,p.st:=r.p.st,left:=r.left},λs=>s,λ_ s=>s,[.exit 0],ju,ke,qR⟩
abbrev KS:=RE.run
abbrev aui:=RE.As
def vu:aWp:=[Wg,fh,XU,Xe,Xd,Xb,We,Wh,R1]
def ah9:B1:=IH vu (la 9 func30 Cu<|l0 vu) [⟨42,PY.m,TT⟩]
def azL:Rq ke Tv:=by
 intro s hI;refine ⟨λc1=>⟨?_,λc2=>⟨λc3=>⟨?_,?_,A9,A9,A9,A9,A9,A9,A9,ak⟩,λc3=>⟨A9,A9,A9,A9,A9,A9,A9,A9,ak⟩⟩,λc2=>⟨?_,?_,?_,λc4=>⟨?_,?_,λc5=>⟨?_,?_,A9,?_,A9,A9,A9,A9,A9,ak⟩,λc5=>⟨A9,A9,?_,A9,A9,A9,A9,A9,ak⟩⟩,λc4=>⟨λc6=>⟨?_,?_,A9,A9,A9,A9,A9,A9,A9,ak⟩,λc6=>⟨A9,A9,A9,A9,A9,A9,A9,A9,ak⟩⟩⟩⟩,λc1=>⟨A9,A9,A9,A9,A9,A9,A9,A9,ak⟩⟩
 all_goals ((obtain ⟨h0,h1,h2,h3,h4,h5,h6⟩:=hI;simp only [Aa] at c1;have hm:=h5 _ (aTH h0 (show s.i<(M s.xs:Y) by omega)).1;first|omega|exact ⟨rfl,AI⟩ |(simp only [Bj,Bt,BL];omega) |(simp only [BL,Bj,Bt,FR];done)))
def aSE:RE.Ok:={}
def aRo:RE.Pf (ac4):=⟨aoN,λs h=>rfl,aix,azL⟩
def LO:=s2 (b:=bN f53 0) aSE aRo vu ah9
def avS:Rs ju aui KS (λs:Ns=>((s.xs.drop s.i.toNat).foldl (arr1 s.p.gs s.p.tk) s.p.st,s.left++(s.xs.drop s.i.toNat).filter (λl=>an<|l.1>s.p.tk))) (λx s' (v:List St×List Lk)=>x=.exit 0/\(s'.p.st,s'.left)=v):=DU aSE aRo (λs hI=>by
  show DV _ _ ((Tv s).rd s)
  unfold Tv;dsimp only [T.rd,T.rl];obtain ⟨h0,h1,h2,h3,h4,h5,h6⟩:=hI;refine AH (λc1=>?_) λc1=>?_
  ·have c1:s.i<s.n:=A8
   have e:=(aTH h0 (show s.i<(M s.xs:Y) by omega)).2
   rw [AJ (x:=s.i+1),e];refine AH (λc2=>?_) λc2=>AH (λc3=>?_) λc3=>?_
   ·refine AH (λ_=>?_) (λc=>Em)
    have c2':=D5 c2
    show (_,_)=(_,_)
    rw [KE,N8,AD c2,show arr1 s.p.gs s.p.tk s.p.st (Ea s.xs s.i)=s.p.st from AD c2',Ct];rfl
   ·refine AH (λc=>Em) (λ_=>?_)
    have c2':=KF c2
    rw [KE,N8,AE A8,show arr1 s.p.gs s.p.tk s.p.st (Ea s.xs s.i)=_ from (AE c2').trans<|AD<|eq_of_beq c3];rfl
   ·refine AH (λc=>Em) (λ_=>?_)
    have c2':=KF c2
    show (_,_)=(_,_)
    rw [KE,N8,AE A8,show arr1 s.p.gs s.p.tk s.p.st (Ea s.xs s.i)=_ from (AE c2').trans<|AE<|CQ.1 c3]
  ·have c1:s.n<=s.i:=A8
   refine ⟨rfl,?_⟩;rw [F6 A0]
   simp)
structure Nq where
 (i on oi m k:Y)
 p:PK
 ev:EW
def aGv:=lN (bN f44 0) 0
def zf (s:Nq):T (Rd Nq):=letI b:=s.p.st.getD s.i.toNat<|Ty.dflt B7;letI c:=M s.p.st;letI a:=(s.p.st.set s.i.toNat<|sN (AG s.p.gs s.i) b (8:Y) (0:Y) (0:Y));.br (an<|s.k<s.m) (.ix s.i (M s.p.gs)<|.ik s.i c<|.br ((sE (AG s.p.gs s.i) b (8:Y) (0:Y) (0:Y))==0) (.ik s.i c<|.rl s.p.dr<|.rl s.p.cs<|.re c a<|.rl s.p.ca<|.rl s.p.mi<|.rl s.p.me<|.rl s.p.dr<|.rl s.p.tg<|.nx {s with k:=AA<|s.k+1,p.st:=a})<|.rl s.p.dr<|.pd s.p<|.nx {s with k:=AA<|s.k+1})<|.rl s.p.dr<|.pd s.p<|.so (.exit 2) s
def Yu (s:Nq):Prop:=s.k=0/\(0<=s.i/\s.i<(M s.p.gs:Y))/\M s.p.st=M s.p.gs/\s.m<=4000000
def ka (s:Nq):Prop:=0<=s.k/\(0<=s.i/\s.i<(M s.p.gs:Y))/\M s.p.st=M s.p.gs/\s.m<=4000000
def gE (s:Nq):aWe:=(s.m-s.k).toNat
def ac1 (x:Ex) (s s':Nq):Prop:=True
def an0:∀s,Yu s->ka s:=by
 rintro s ⟨h0,h2⟩
 exact ⟨A0,h2⟩
def ajW:Da ka gE ac1 zf:=by
 intro s hI;obtain ⟨h0,h1,h2,h3⟩:=hI;refine AH (λc1=>AH (λc2=>?_) λc2=>?_) λc1=>trivial
 all_goals have c1:s.k<s.m:=A8
 all_goals rw [AJ (x:=s.k+1)]
 ·exact ⟨⟨A8,h1,A8,h3⟩,by simp only [gE];omega⟩
 ·exact ⟨⟨A8,h1,h2,h3⟩,by simp only [gE];omega⟩
def RB:AS Nq:=⟨20,57,[0,2,12,13,14,48,49],[],λs=>[.own 16 0,s.i,.os 14 1 0<|M s.p.dr,s.on,s.oi,s.m,s.k],λs=>[AP,AP,zB,AP,bV 79 Af s.p.cs,AP,AP,AP,bV 107 B7 s.p.st,bV 57 AQ s.p.ca,bV 123 B9 s.p.mi,bV 110 BS s.p.me,AP,AP,bV 3 A7 s.p.dr,bV 3 A7 s.p.tg,⟨[.os 4 11 0<|M s.p.cs,.xl .str s.p.os,.xl Al s.p.ks,.xl Ah s.p.gs,.xl Am s.p.bs,.v<|ag J s.p.tk,.v<|.bool s.p.up,.xl AQ s.p.ls,.v<|ag J s.p.se,.xl (.int aw) s.p.fl,.xl Ap s.p.ra,.v<|ag J s.p.nx,.os 8 4 0<|M s.p.st,.os 9 5 0<|M s.p.ca,.os 10 3 0<|M s.p.mi,.os 11 3 0<|M s.p.me,.xl Aw s.p.dm,.xl BP s.p.lk,.os 14 1 0<|M s.p.dr,.os 15 1 0<|M s.p.tg,.v<|ag J s.ev.ek,.v<|ag J s.ev.en,.v<|ag J s.ev.em,.v<|ag J s.ev.c1,.v<|ag J s.ev.c2,.v<|ag J s.ev.c3,.v<|ag J s.ev.c4,.v<|ag J s.ev.c5,.v<|.bool s.ev.d1,.v<|ag J s.ev.d2,.v<|ag J s.ev.d3,.v<|ag J s.ev.d4,.v<|.slice aj 0 0],97,.cl,X⟩,AP,AP,AP],λv b=>⟨AK v 1,AK v 3,AK v 4,AK v 5,AK v 6,rT b,rG b⟩,zf,λs r=> {s with k:=r.k,p.st:=r.p.st},λs=>s,λ_ s=>s,[.exit 2],Yu,ka,gE⟩
abbrev WU:=RB.run
abbrev aug:=RB.As
def XO:aWp:=[Wg,fh,XU,Xe,Xd,Xb,We,Wh,R1]
def uo:B1:=IH XO (la 2 func53 LO<|la 9 func30 Cu<|l0 XO) [⟨42,PY.m,TT⟩]
def azH:Rq ka zf:=by
 intro s hI;refine ⟨λc1=>⟨?_,?_,?_,λc2=>⟨?_,?_,A9,A9,?_,A9,A9,A9,A9,A9,ak⟩,λc2=>⟨A9,A9,A9,A9,A9,A9,A9,A9,ak⟩⟩,λc1=>⟨A9,A9,A9,A9,A9,A9,A9,A9,ak⟩⟩
 all_goals ((obtain ⟨h0,h1,h2,h3⟩:=hI;first|omega|exact ⟨rfl,AI⟩))
def aSB:RB.Ok:={}
def aRl:RB.Pf (ac1):=⟨an0,λs h=>rfl,ajW,azH⟩
def ar7:SA 20 aGv RB:=s2 aSB aRl XO uo
def aJr:Rs Yu aug WU (λs:Nq=>FF (tk1 s.p.gs s.i) s.k.toNat s.p.st (s.m-s.k).toNat) (λx s' (v:aWE)=>x=.exit 2/\s'.p.st=v):=DU aSB aRl (λs hI=>by
  obtain ⟨h0,h1,h2,h3⟩:=hI;refine AH (λc1=>?_) λc1=>?_
  ·have c1:s.k<s.m:=A8
   rw [AJ (x:=s.k+1),MK h0 c1];refine AH (λc2=>?_) λc2=>?_
   ·rw [show tk1 s.p.gs s.i s.k.toNat s.p.st=_ from AD<|eq_of_beq c2]
    rfl
   ·rw [show tk1 s.p.gs s.i s.k.toNat s.p.st=_ from AE<|CQ.1 c2]
    rfl
  ·have c1:s.m<=s.k:=A8
   exact ⟨rfl,(pz c1).symm⟩)
structure Lm where
 (n i:Y)
 p:PK
 ev:EW
def aGs:=bN f44 0
def NO (s:Lm):Nq:=letI a:=s.p.dr.getD s.i.toNat<|Ty.dflt A7;(⟨s.i,s.n,s.i,AA<|(BE (AA<|s.p.tk+1) a)-(BE s.p.tk a),0,s.p,s.ev⟩:Nq)
def ze (s:Lm):T (Rd Lm):=letI a:=s.p.dr.getD s.i.toNat<|Ty.dflt A7;.br (an<|s.i<s.n) (.ik s.i (M s.p.dr)<|.br (((HW s.p.tk a) !=0) ||((HW (AA<|s.p.tk+1) a) !=0)) (.rl s.p.dr<|.pd s.p<|.nx {s with i:=AA<|s.i+1})<|.rl s.p.dr<|.pd s.p<|.req (RB.q<|NO s)<|.rl s.p.dr<|.rl s.p.cs<|.rl (WU<|NO s).p.st<|.rl s.p.ca<|.rl s.p.mi<|.rl s.p.me<|.rl s.p.dr<|.rl s.p.tg<|.nx {s with i:=AA<|s.i+1,p.st:=(WU<|NO s).p.st})<|.rl s.p.dr<|.pd s.p<|.so (.exit 0) s
def kY (s:Lm):Prop:=s.i=0/\s.n=(M s.p.dr:Y)/\M s.p.dr=M s.p.gs/\s.n<=1000/\M s.p.st=M s.p.gs/\(0<=s.p.tk/\s.p.tk<=1000000)
def ZN (s:Lm):Prop:=0<=s.i/\s.i<=s.n/\s.n=(M s.p.dr:Y)/\M s.p.dr=M s.p.gs/\s.n<=1000/\M s.p.st=M s.p.gs/\(0<=s.p.tk/\s.p.tk<=1000000)
def gD (s:Lm):aWe:=(s.n-s.i).toNat
def ac0 (x:Ex) (s s':Lm):Prop:=True
def amz:∀s,kY s->ZN s:=by
 exact xv
def va {s:Lm}(hI:ZN s) (c1:s.i<s.n):Yu (NO s)/\((HW s.p.tk (gi s.p.dr s.i.toNat)=0/\HW (s.p.tk+1) (gi s.p.dr s.i.toNat)=0)->(WU<|NO s).p.st=cnt1 s.p.gs s.p.dr s.p.tk s.i.toNat s.p.st):=by
 obtain ⟨h0,h1,h2,h3,h4,h6,h7⟩:=hI
 have hg:s.p.dr.getD s.i.toNat (Ty.dflt A7)=gi s.p.dr s.i:=rfl
 have b1:=aaD s.p.tk<|gi s.p.dr s.i
 have b2:=aaD (s.p.tk+1)<|gi s.p.dr s.i
 have hm:(NO s).m=BE (s.p.tk+1) (gi s.p.dr s.i)-BE s.p.tk (gi s.p.dr s.i):=by
  show AA (BE (AA<|s.p.tk+1) _-BE s.p.tk _)=_
  rw [hg,AJ (x:=s.p.tk+1),AJ (x:=BE (s.p.tk+1) _-BE s.p.tk _)]
 have hE:Yu (NO s):=⟨rfl,⟨h0,by show s.i<(M s.p.gs:Y);omega⟩,h6,A0⟩
 refine ⟨hE,λhc=>?_⟩
 have q:(WU<|NO s).p.st=FF (tk1 s.p.gs s.i) 0 s.p.st ((NO s).m-0).toNat:=(aJr _ hE).2
 rw [q,hm,QB,axl];unfold cnt1
 grind
def ajV:Da ZN gD ac0 ze:=by
 intro s hI;obtain ⟨h0,h1,h2,h3,h4,h6,h7⟩:=id hI;refine AH (λc1=>AH (λc2=>?_) λc2=>?_) λc1=>trivial
 all_goals have c1:s.i<s.n:=AX
 all_goals rw [AJ (x:=s.i+1)]
 ·exact ⟨⟨A8,A8,h2,h3,h4,h6,h7⟩,by simp only [gD];omega⟩
 ·have hl:M (WU<|NO s).p.st=M s.p.gs:=by
   rw [(aJr _ (va hI c1).1).2];exact (aIV λ_ _=>J7).trans h6
  exact ⟨⟨A8,A8,h2,h3,h4,hl,h7⟩,by simp only [gD];omega⟩
def Pt:AS Lm:=⟨20,57,[0,12,13,14],[.pc 16 17 BP,.kb 18,.kb 19],λs=>[.own 16 0,.os 14 1 0<|M s.p.dr,s.n,s.i],λs=>[AP,AP,zB,AP,bV 79 Af s.p.cs,AP,AP,AP,bV 107 B7 s.p.st,bV 57 AQ s.p.ca,bV 123 B9 s.p.mi,bV 110 BS s.p.me,AP,AP,bV 3 A7 s.p.dr,bV 3 A7 s.p.tg,⟨[.os 4 11 0<|M s.p.cs,.xl .str s.p.os,.xl Al s.p.ks,.xl Ah s.p.gs,.xl Am s.p.bs,.v<|ag J s.p.tk,.v<|.bool s.p.up,.xl AQ s.p.ls,.v<|ag J s.p.se,.xl (.int aw) s.p.fl,.xl Ap s.p.ra,.v<|ag J s.p.nx,.os 8 4 0<|M s.p.st,.os 9 5 0<|M s.p.ca,.os 10 3 0<|M s.p.mi,.os 11 3 0<|M s.p.me,.xl Aw s.p.dm,.xl BP s.p.lk,.os 14 1 0<|M s.p.dr,.os 15 1 0<|M s.p.tg,.v<|ag J s.ev.ek,.v<|ag J s.ev.en,.v<|ag J s.ev.em,.v<|ag J s.ev.c1,.v<|ag J s.ev.c2,.v<|ag J s.ev.c3,.v<|ag J s.ev.c4,.v<|ag J s.ev.c5,.v<|.bool s.ev.d1,.v<|ag J s.ev.d2,.v<|ag J s.ev.d3,.v<|ag J s.ev.d4,.v<|.slice aj 0 0],97,.cl,X⟩,AP,AP,AP],λv b=>⟨AK v 2,AK v 3,rT b,rG b⟩,ze,λs r=> {s with i:=r.i,p.st:=r.p.st},λs=>s,λ_ s=>s,[.exit 0],kY,ZN,gD⟩
abbrev fH:=Pt.run
abbrev auf:=Pt.As
def azG:Rq ZN ze:=by
 intro s hI;refine ⟨λc1=>⟨?_,?_,λc2=>⟨A9,A9,A9,A9,A9,A9,A9,A9,ak⟩,λc2=>⟨A9,A9,A9,A9,A9,A9,A9,A9,?_,A9,A9,A9,A9,A9,A9,A9,A9,ak⟩⟩,λc1=>⟨A9,A9,A9,A9,A9,A9,A9,A9,ak⟩⟩
 all_goals ((obtain ⟨h0,h1,h2,h3,h4,h6,h7⟩:=id hI;simp only [Aa] at c1;first|omega|exact ⟨(va hI c1).1,rfl,rfl⟩))
def aSA:Pt.Ok:={}
def aRk:Pt.Pf (ac0):=⟨amz,λs h=>rfl,ajV,azG⟩
def MO:SA 20 aGs Pt:=AS.snd aSA aRk (Gg (Γ:=XO) (K:=uo) (L:=(Lx (λi=>if i=7 then RB.lp else Ak i))) (gk XO) uo.h aGs (λb hb=>by
 rw [show BD _=[aGv] by kernel_rfl] at hb
 simp only [BA,Bu,Bs] at hb;subst hb;exact ar7)) λs=>AU
def avb:Rs kY auf fH (λs:Lm=>FF (cnt1 s.p.gs s.p.dr s.p.tk) s.i.toNat s.p.st (s.n-s.i).toNat) (λx s' (v:aWE)=>x=.exit 0/\s'.p.st=v):=DU aSA aRk (λs hI=>by
  obtain ⟨h0,h1,h2,h3,h4,h6,h7⟩:=id hI;refine AH (λc1=>?_) λc1=>?_
  ·have c1:s.i<s.n:=A8
   have hg:s.p.dr.getD s.i.toNat (Ty.dflt A7)=gi s.p.dr s.i.toNat:=MF
   rw [AJ (x:=s.i+1),AJ (x:=s.p.tk+1),hg,MK h0 c1];refine AH (λc2=>?_) λc2=>?_
   ·rw [show cnt1 s.p.gs s.p.dr s.p.tk s.i.toNat s.p.st=s.p.st from AE λh=>A8]
    rfl
   ·have c2:HW s.p.tk (gi s.p.dr s.i.toNat)=0/\HW (s.p.tk+1) (gi s.p.dr s.i.toNat)=0:=A8
    rw [<-(va hI c1).2 c2];rfl
  ·have c1:s.n<=s.i:=A8
   exact ⟨rfl,(pz c1).symm⟩)
structure Lj where
 gl:aWh
 (n i:Y)
 p:PK
 ev:EW
 dw:aWd
def fo (s:Lj) (e:Y) (o:Y) (ce:Y) (a:Y) (al:Y) (se:Y) (sn:St) (m:Mi) (cn:Me):T (Rd Lj):=letI b:=s.p.mi.set s.i.toNat m;letI c:=s.dw.set s.i.toNat a;letI d:=s.p.me.set s.i.toNat cn;letI f:=M s.p.mi;letI g:=M s.p.st;letI h:=AA<|s.i+1;letI j:=s.p.st.set s.i.toNat sn;letI k:=M s.dw;letI l:=M s.p.me;.br (an<|s.i<s.n) (.ix s.i (M s.gl)<|.ik s.i (M s.p.ca)<|.br (!((s.p.ca.getD s.i.toNat<|Ty.dflt AQ).2.2.1 !=0)) (.pd s.p<|.rl s.dw<|.nx {s with i:=h})<|.ik s.i g<|.ik s.i (M s.p.ca)<|.ik s.i f<|.br (e !=0) (.pd s.p<|.rl s.dw<|.nx {s with i:=h})<|.ik s.i k<|.ik s.i f<|.ik s.i l<|.req (0<=(IntKind.u64.wrap o)/\(IntKind.u64.wrap o)<=7)<|.br (ce==0) (.ik s.i l<|.br (an<|a>al) (.ix s.i (M s.p.gs)<|.ik s.i g<|.br (se==0) (.ik s.i g<|.rl s.p.cs<|.re g j<|.rl s.p.ca<|.re f b<|.re l d<|.rl s.p.dr<|.rl s.p.tg<|.re k c<|.nx {s with i:=h,p.st:=j,p.mi:=b,p.me:=d,dw:=c})<|.rl s.p.cs<|.rl s.p.st<|.rl s.p.ca<|.re f b<|.re l d<|.rl s.p.dr<|.rl s.p.tg<|.re k c<|.nx {s with i:=h,p.mi:=b,p.me:=d,dw:=c})<|.rl s.p.cs<|.rl s.p.st<|.rl s.p.ca<|.re f b<|.re l d<|.rl s.p.dr<|.rl s.p.tg<|.re k c<|.nx {s with i:=h,p.mi:=b,p.me:=d,dw:=c})<|.br (an<|a>al) (.ix s.i (M s.p.gs)<|.ik s.i g<|.br (se==0) (.ik s.i g<|.rl s.p.cs<|.re g j<|.rl s.p.ca<|.re f b<|.rl s.p.me<|.rl s.p.dr<|.rl s.p.tg<|.re k c<|.nx {s with i:=h,p.st:=j,p.mi:=b,dw:=c})<|.rl s.p.cs<|.rl s.p.st<|.rl s.p.ca<|.re f b<|.rl s.p.me<|.rl s.p.dr<|.rl s.p.tg<|.re k c<|.nx {s with i:=h,p.mi:=b,dw:=c})<|.rl s.p.cs<|.rl s.p.st<|.rl s.p.ca<|.re f b<|.rl s.p.me<|.rl s.p.dr<|.rl s.p.tg<|.re k c<|.nx {s with i:=h,p.mi:=b,dw:=c})<|.pd s.p<|.rl s.dw<|.so (.exit 0) s
abbrev Xf (s:Lj):=letI b:=s.p.ca.getD s.i.toNat<|Ty.dflt AQ;letI c:=s.p.mi.getD s.i.toNat<|Ty.dflt B9;letI d:=AG s.gl s.i;letI e:=s.p.st.getD s.i.toNat<|Ty.dflt B7;letI g:=s.p.me.getD s.i.toNat<|Ty.dflt BS;letI a:=Bo d e;letI f:=cnt<|IntKind.u64.wrap<|Ee b c d.2.2.1 a;letI h:=Fg b c d.2.2.1 a;fo s (JU b c d.2.2.1 a) (Ee b c d.2.2.1 a) (GR g h f) h a (sE (AG s.p.gs s.i) e (6:Y) (2:Y) (0:Y)) (sN (AG s.p.gs s.i) e (6:Y) (2:Y) (0:Y)) (K8 b c d.2.2.1 a)<|IF g h f
def kJ (s:Lj):Prop:=s.i=0/\s.n=(M s.p.gs:Y)/\s.n<=1000/\s.gl=s.p.gs/\(M s.p.st=M s.p.gs/\M s.p.ca=M s.p.gs/\M s.p.mi=M s.p.gs/\M s.p.me=M s.p.gs/\M s.dw=M s.p.gs)
def U2 (s:Lj):Prop:=0<=s.i/\s.i<=s.n/\s.n=(M s.p.gs:Y)/\s.n<=1000/\s.gl=s.p.gs/\(M s.p.st=M s.p.gs/\M s.p.ca=M s.p.gs/\M s.p.mi=M s.p.gs/\M s.p.me=M s.p.gs/\M s.dw=M s.p.gs)
def cS (s:Lj):aWe:=(s.n-s.i).toNat
def aBZ (x:Ex) (s s':Lj):Prop:=True
def anA:∀s,kJ s->U2 s:=by
 exact xv
def auN (s:Lj) (hI:U2 s) (e:Y) (o:Y) (ce:Y) (a:Y) (al:Y) (se:Y) (sn:St) (m:Mi) (cn:Me) (he:JU (s.p.ca.getD s.i.toNat<|Ty.dflt AQ) (s.p.mi.getD s.i.toNat<|Ty.dflt B9) (AG s.gl s.i).2.2.1 (Bo (AG s.gl s.i)<|s.p.st.getD s.i.toNat<|Ty.dflt B7)=e) (ho:Ee (s.p.ca.getD s.i.toNat<|Ty.dflt AQ) (s.p.mi.getD s.i.toNat<|Ty.dflt B9) (AG s.gl s.i).2.2.1 (Bo (AG s.gl s.i)<|s.p.st.getD s.i.toNat<|Ty.dflt B7)=o) (hce:GR (s.p.me.getD s.i.toNat<|Ty.dflt BS) (Fg (s.p.ca.getD s.i.toNat<|Ty.dflt AQ) (s.p.mi.getD s.i.toNat<|Ty.dflt B9) (AG s.gl s.i).2.2.1<|Bo (AG s.gl s.i)<|s.p.st.getD s.i.toNat<|Ty.dflt B7) (cnt<|IntKind.u64.wrap<|Ee (s.p.ca.getD s.i.toNat<|Ty.dflt AQ) (s.p.mi.getD s.i.toNat<|Ty.dflt B9) (AG s.gl s.i).2.2.1<|Bo (AG s.gl s.i)<|s.p.st.getD s.i.toNat<|Ty.dflt B7)=ce) (ha:Fg (s.p.ca.getD s.i.toNat<|Ty.dflt AQ) (s.p.mi.getD s.i.toNat<|Ty.dflt B9) (AG s.gl s.i).2.2.1 (Bo (AG s.gl s.i)<|s.p.st.getD s.i.toNat<|Ty.dflt B7)=a) (hal:Bo (AG s.gl s.i) (s.p.st.getD s.i.toNat<|Ty.dflt B7)=al) (hse:sE (AG s.p.gs s.i) (s.p.st.getD s.i.toNat<|Ty.dflt B7) (6:Y) (2:Y) (0:Y)=se) (hsn:sN (AG s.p.gs s.i) (s.p.st.getD s.i.toNat<|Ty.dflt B7) (6:Y) (2:Y) (0:Y)=sn) (hm:K8 (s.p.ca.getD s.i.toNat<|Ty.dflt AQ) (s.p.mi.getD s.i.toNat<|Ty.dflt B9) (AG s.gl s.i).2.2.1 (Bo (AG s.gl s.i)<|s.p.st.getD s.i.toNat<|Ty.dflt B7)=m) (hcn:IF (s.p.me.getD s.i.toNat<|Ty.dflt BS) (Fg (s.p.ca.getD s.i.toNat<|Ty.dflt AQ) (s.p.mi.getD s.i.toNat<|Ty.dflt B9) (AG s.gl s.i).2.2.1<|Bo (AG s.gl s.i)<|s.p.st.getD s.i.toNat<|Ty.dflt B7) (cnt<|IntKind.u64.wrap<|Ee (s.p.ca.getD s.i.toNat<|Ty.dflt AQ) (s.p.mi.getD s.i.toNat<|Ty.dflt B9) (AG s.gl s.i).2.2.1<|Bo (AG s.gl s.i)<|s.p.st.getD s.i.toNat<|Ty.dflt B7)=cn):DV (λs'=>U2 s'/\cS s'<cS s) (λx s'=>aBZ x s s') ((fo s e o ce a al se sn m cn).rd s):=by
 unfold fo;dsimp only [T.rd,T.rl,T.rv];obtain ⟨h0,h1,h2,h3,hg,l1,l2,l3,l4,l5⟩:=hI;refine AH (λc1=>?_) λc1=>?_
 ·refine AH (λc2=>?_) (λc2=>?_)
  ·exact Zx
  ·refine AH (λc3=>?_) (λc3=>?_)
   ·exact Zx
   ·refine AH (λc4=>?_) (λc4=>?_)
    ·exact aMq
    ·exact aMq
 ·trivial
def ai2:Da U2 cS aBZ Xf:=λs hI=>auN s hI _ _ _ _ _ _ _ _ _ rfl rfl rfl rfl rfl rfl rfl rfl rfl
def Ri:AS Lj:=⟨20,124,[0,27,28,29],[],λs=>[.own 16 0,s.gl,s.n,s.i],λs=>[AP,AP,zB,AP,bV 79 Af s.p.cs,AP,AP,AP,bV 107 B7 s.p.st,bV 57 AQ s.p.ca,bV 123 B9 s.p.mi,bV 110 BS s.p.me,AP,AP,bV 3 A7 s.p.dr,bV 3 A7 s.p.tg,⟨[.os 4 11 0<|M s.p.cs,.xl .str s.p.os,.xl Al s.p.ks,.xl Ah s.p.gs,.xl Am s.p.bs,.v<|ag J s.p.tk,.v<|.bool s.p.up,.xl AQ s.p.ls,.v<|ag J s.p.se,.xl (.int aw) s.p.fl,.xl Ap s.p.ra,.v<|ag J s.p.nx,.os 8 4 0<|M s.p.st,.os 9 5 0<|M s.p.ca,.os 10 3 0<|M s.p.mi,.os 11 3 0<|M s.p.me,.xl Aw s.p.dm,.xl BP s.p.lk,.os 14 1 0<|M s.p.dr,.os 15 1 0<|M s.p.tg,.v<|ag J s.ev.ek,.v<|ag J s.ev.en,.v<|ag J s.ev.em,.v<|ag J s.ev.c1,.v<|ag J s.ev.c2,.v<|ag J s.ev.c3,.v<|ag J s.ev.c4,.v<|ag J s.ev.c5,.v<|.bool s.ev.d1,.v<|ag J s.ev.d2,.v<|ag J s.ev.d3,.v<|ag J s.ev.d4,.os 20 1 0<|M s.dw],97,.cl,X⟩,AP,AP,AP,bV 3 A7 s.dw],λv b=>⟨Az Ah v 1,AK v 2,AK v 3,rT b,rG b,Ac A7 b 20⟩,Xf,λs r=> {s with i:=r.i,p.st:=r.p.st,p.mi:=r.p.mi,p.me:=r.p.me,dw:=r.dw},λs=>s,λ_ s=>s,[.exit 0],kJ,U2,cS⟩
abbrev Jj:=Ri.run
abbrev auW:=Ri.As
def vt:aWp:=[Wg,fh,XU,Xe,Xd,Xb,We,Wh,R1]
def ah8:B1:=IH vt (la 1 func44 MO<|la 2 func53 LO<|la 9 func30 Cu<|l0 vt) [⟨42,PY.m,TT⟩]
def azp:Rq U2 Xf:=by
 intro s hI;refine ⟨λc1=>⟨?_,?_,?_,λc2=>⟨A9,A9,A9,A9,A9,A9,A9,A9,ak⟩,λc2=>⟨?_,?_,?_,?_,?_,?_,λc3=>⟨A9,A9,A9,A9,A9,A9,A9,A9,ak⟩,λc3=>⟨?_,?_,?_,?_,?_,?_,?_,λc4=>⟨?_,?_,λc5=>⟨?_,?_,?_,λc6=>⟨?_,?_,A9,?_,A9,?_,?_,A9,A9,?_,ak⟩,λc6=>⟨A9,A9,A9,?_,?_,A9,A9,?_,ak⟩⟩,λc5=>⟨A9,A9,A9,?_,?_,A9,A9,?_,ak⟩⟩,λc4=>⟨λc7=>⟨?_,?_,?_,λc8=>⟨?_,?_,A9,?_,A9,?_,A9,A9,A9,?_,ak⟩,λc8=>⟨A9,A9,A9,?_,A9,A9,A9,?_,ak⟩⟩,λc7=>⟨A9,A9,A9,?_,A9,A9,A9,?_,ak⟩⟩⟩⟩⟩,λc1=>⟨A9,A9,A9,A9,A9,A9,A9,A9,ak⟩⟩
 all_goals ((obtain ⟨h0,h1,h2,h3,hg,l1,l2,l3,l4,l5⟩:=hI;simp only [Aa] at c1;first|(rw [hg];omega) |omega|exact ⟨rfl,AI⟩ |(rw [aVP];exact aTx)))
def aRw:Ri.Ok:={}
def aRW:Ri.Pf (aBZ):=⟨anA,λs h=>rfl,ai2,azp⟩
def NT:=s2 (b:=bN f45 0) aRw aRW vt ah8
def auM:Rs kJ auW Jj (λs:Lj=>FF (λk d=>H6 s.p.gs s.p.ca d (k:Y)) s.i.toNat ⟨s.p.st,s.p.mi,s.p.me,s.dw⟩ (s.n-s.i).toNat) (λx s' (v:DW)=>x=.exit 0/\(⟨s'.p.st,s'.p.mi,s'.p.me,s'.dw⟩:DW)=v):=DU aRw aRW (λs hI=>by
  show DV _ _ ((Xf s).rd s)
  unfold Xf fo;dsimp only [T.rd,T.rl];obtain ⟨h0,h1,h2,h3,hg,l1,l2,l3,l4,l5⟩:=hI
  have hi:((s.i.toNat:aWe):Y)=s.i:=CP h0
  rw [hg];simp only [aVP];refine AH (λc1=>?_) λc1=>?_
  ·refine AH (λc2=>?_) (λc2=>?_)
   ·have c1:s.i<s.n:=AX
    rw [AJ (x:=s.i+1),MK h0 c1,hi]
    have c2:(Be s.p.ca s.i).2.2.1=0:=Dz<|(D2 _).mp c2
    rw [anD c2];rfl
   ·refine AH (λc3=>?_) (λc3=>?_)
    ·have c1:s.i<s.n:=AX
     rw [AJ (x:=s.i+1),MK h0 c1,hi]
     have c2:¬(Be s.p.ca s.i).2.2.1=0:=Dv.1<|(IK _).mp c2
     have c3:=Dv.1 c3
     rw [anC c2 c3];rfl
    ·refine AH (λc4=>?_) (λc4=>?_)
     ·refine AH (λc5=>?_) (λc5=>?_)
      ·refine AH (λc6=>?_) (λc6=>?_)
       ·have c1:s.i<s.n:=AX
        rw [AJ (x:=s.i+1),MK h0 c1,hi]
        have c2:¬(Be s.p.ca s.i).2.2.1=0:=Dv.1<|(IK _).mp c2
        have c3:JU (Be s.p.ca s.i) (Cs s.p.mi s.i) (AG s.p.gs s.i).2.2.1 (Bo (AG s.p.gs s.i)<|BW s.p.st s.i)=0:=Dz c3
        rw [U7 c2 c3];rw [AD (show GR (gMe s.p.me s.i) (Fg (Be s.p.ca s.i) (Cs s.p.mi s.i) (AG s.p.gs s.i).2.2.1<|Bo (AG s.p.gs s.i)<|BW s.p.st s.i) (cnt<|Ee (Be s.p.ca s.i) (Cs s.p.mi s.i) (AG s.p.gs s.i).2.2.1<|Bo (AG s.p.gs s.i)<|BW s.p.st s.i)=0 from eq_of_beq c4)];exact aMg
       ·have c1:s.i<s.n:=AX
        rw [AJ (x:=s.i+1),MK h0 c1,hi]
        have c2:¬(Be s.p.ca s.i).2.2.1=0:=Dv.1<|(IK _).mp c2
        have c3:JU (Be s.p.ca s.i) (Cs s.p.mi s.i) (AG s.p.gs s.i).2.2.1 (Bo (AG s.p.gs s.i)<|BW s.p.st s.i)=0:=Dz c3
        rw [U7 c2 c3];rw [AD (show GR (gMe s.p.me s.i) (Fg (Be s.p.ca s.i) (Cs s.p.mi s.i) (AG s.p.gs s.i).2.2.1<|Bo (AG s.p.gs s.i)<|BW s.p.st s.i) (cnt<|Ee (Be s.p.ca s.i) (Cs s.p.mi s.i) (AG s.p.gs s.i).2.2.1<|Bo (AG s.p.gs s.i)<|BW s.p.st s.i)=0 from eq_of_beq c4)];exact aMh
      ·have c1:s.i<s.n:=AX
       rw [AJ (x:=s.i+1),MK h0 c1,hi]
       have c2:¬(Be s.p.ca s.i).2.2.1=0:=Dv.1<|(IK _).mp c2
       have c3:JU (Be s.p.ca s.i) (Cs s.p.mi s.i) (AG s.p.gs s.i).2.2.1 (Bo (AG s.p.gs s.i)<|BW s.p.st s.i)=0:=Dz c3
       rw [U7 c2 c3];rw [AD (show GR (gMe s.p.me s.i) (Fg (Be s.p.ca s.i) (Cs s.p.mi s.i) (AG s.p.gs s.i).2.2.1<|Bo (AG s.p.gs s.i)<|BW s.p.st s.i) (cnt<|Ee (Be s.p.ca s.i) (Cs s.p.mi s.i) (AG s.p.gs s.i).2.2.1<|Bo (AG s.p.gs s.i)<|BW s.p.st s.i)=0 from eq_of_beq c4)];exact aMP
     ·refine AH (λc5=>?_) (λc5=>?_)
      ·refine AH (λc6=>?_) (λc6=>?_)
       ·have c1:s.i<s.n:=AX
        rw [AJ (x:=s.i+1),MK h0 c1,hi]
        have c2:¬(Be s.p.ca s.i).2.2.1=0:=Dv.1<|(IK _).mp c2
        have c3:JU (Be s.p.ca s.i) (Cs s.p.mi s.i) (AG s.p.gs s.i).2.2.1 (Bo (AG s.p.gs s.i)<|BW s.p.st s.i)=0:=Dz c3
        rw [U7 c2 c3];rw [AE (show ¬GR (gMe s.p.me s.i) (Fg (Be s.p.ca s.i) (Cs s.p.mi s.i) (AG s.p.gs s.i).2.2.1<|Bo (AG s.p.gs s.i)<|BW s.p.st s.i) (cnt<|Ee (Be s.p.ca s.i) (Cs s.p.mi s.i) (AG s.p.gs s.i).2.2.1<|Bo (AG s.p.gs s.i)<|BW s.p.st s.i)=0 from CQ.1 c4)];exact aMg
       ·have c1:s.i<s.n:=AX
        rw [AJ (x:=s.i+1),MK h0 c1,hi]
        have c2:¬(Be s.p.ca s.i).2.2.1=0:=Dv.1<|(IK _).mp c2
        have c3:JU (Be s.p.ca s.i) (Cs s.p.mi s.i) (AG s.p.gs s.i).2.2.1 (Bo (AG s.p.gs s.i)<|BW s.p.st s.i)=0:=Dz c3
        rw [U7 c2 c3];rw [AE (show ¬GR (gMe s.p.me s.i) (Fg (Be s.p.ca s.i) (Cs s.p.mi s.i) (AG s.p.gs s.i).2.2.1<|Bo (AG s.p.gs s.i)<|BW s.p.st s.i) (cnt<|Ee (Be s.p.ca s.i) (Cs s.p.mi s.i) (AG s.p.gs s.i).2.2.1<|Bo (AG s.p.gs s.i)<|BW s.p.st s.i)=0 from CQ.1 c4)];exact aMh
      ·have c1:s.i<s.n:=AX
       rw [AJ (x:=s.i+1),MK h0 c1,hi]
       have c2:¬(Be s.p.ca s.i).2.2.1=0:=Dv.1<|(IK _).mp c2
       have c3:=Dz c3
       rw [U7 c2 c3];rw [AE (show ¬GR (gMe s.p.me s.i) (Fg (Be s.p.ca s.i) (Cs s.p.mi s.i) (AG s.p.gs s.i).2.2.1<|Bo (AG s.p.gs s.i)<|BW s.p.st s.i) (cnt<|Ee (Be s.p.ca s.i) (Cs s.p.mi s.i) (AG s.p.gs s.i).2.2.1<|Bo (AG s.p.gs s.i)<|BW s.p.st s.i)=0 from CQ.1 c4)];exact aMP
  ·have c1:s.n<=s.i:=AX
   exact ⟨rfl,(pz c1).symm⟩)
structure Ms where
 m:aWh
 (k i:Y)
 p:PK
 ev:EW
 (dw out:aWd)
def ao4 (s:Ms):aWf:=[.os 21 1 0<|M s.out,s.m,s.k,s.i]
def anz (s:Ms):aWi:=[AP,AP,zB,AP,bV 79 Af s.p.cs,AP,AP,AP,AP,AP,AP,AP,AP,AP,AP,bV 3 A7 s.p.tg,⟨[.os 4 11 0<|M s.p.cs,.xl .str s.p.os,.xl Al s.p.ks,.xl Ah s.p.gs,.xl Am s.p.bs,.v<|ag J s.p.tk,.v<|.bool s.p.up,.xl AQ s.p.ls,.v<|ag J s.p.se,.xl (.int aw) s.p.fl,.xl Ap s.p.ra,.v<|ag J s.p.nx,.xl B7 s.p.st,.xl AQ s.p.ca,.xl B9 s.p.mi,.xl BS s.p.me,.xl Aw s.p.dm,.xl BP s.p.lk,.xl A7 s.p.dr,.os 15 1 0<|M s.p.tg,.v<|ag J s.ev.ek,.v<|ag J s.ev.en,.v<|ag J s.ev.em,.v<|ag J s.ev.c1,.v<|ag J s.ev.c2,.v<|ag J s.ev.c3,.v<|ag J s.ev.c4,.v<|ag J s.ev.c5,.v<|.bool s.ev.d1,.v<|ag J s.ev.d2,.v<|ag J s.ev.d3,.v<|ag J s.ev.d4,.os 20 1 0<|M s.dw],97,.cl,X⟩,AP,AP,AP,bV 3 A7 s.dw,bV 3 A7 s.out]
def aq7:=bN f73 0
def aAA (s:Ms):T (Rd Ms):=letI a:=s.out.set s.i.toNat (AG s.m s.i).2.2.2.2.2.2.1;.br (an<|s.i<s.k) (.ix s.i (M s.m)<|.ik s.i (M s.out)<|.re (M s.out) a<|.rl s.p.cs<|.rl s.p.tg<|.rl s.dw<|.nx {s with i:=AA<|s.i+1,out:=a})<|.rl s.out<|.rl s.p.cs<|.rl s.p.tg<|.rl s.dw<|.so (.exit 0) s
def l8 (s:Ms):Prop:=s.i=0/\s.k=(M s.m:Y)/\s.k<=1000/\M s.out=M s.m/\(∀j,0<=j->j<s.k->gi s.out j=0)/\True
def Y1 (s:Ms):Prop:=(0<=s.i/\s.i<=s.k)/\s.k=(M s.m:Y)/\s.k<=1000/\M s.out=M s.m/\(∀j,0<=j->j<s.k->gi s.out j=if j<s.i then Cw (AG s.m j) else 0)/\True
def tn (s:Ms):aWe:=(s.k-s.i).toNat
def aBr (x:Ex) (s s':Ms):Prop:=x=.exit 0/\s'.out=HQ (M s'.m) (λj=>Cw<|AG s'.m j)
def akA:∀s,l8 s->Y1 s:=by
 exact Sm
def ayv:Da Y1 tn aBr aAA:=by
 intro s hI;obtain ⟨⟨h0,h1⟩,h2,h3,h4,h5,h6⟩:=hI;refine AH (λc1=>?_) λc1=>?_
 ·have c1:s.i<s.k:=AX
  rw [AJ (x:=s.i+1)];refine ⟨⟨⟨A8,A8⟩,h2,h3,A8,λj j0 j1=>?_,h6⟩,by simp only [tn];omega⟩
  simp only;rw [J9 h0 A0 j0];exact mA
 ·exact aJ
def Pc:AS Ms:=⟨21,25,[3,11,12,13],[.pc 16 12 B7,.kb 8,.pc 16 13 AQ,.kb 9,.pc 16 14 B9,.kb 10,.pc 16 15 BS,.kb 11,.pc 16 18 A7,.kb 14],ao4,anz,λv b=>⟨Az Ah v 1,AK v 2,AK v 3,rB b 16 4 0 0 0 0 0 0 0 0 0 0 15,rG b,Ac A7 b 20,Ac A7 b 21⟩,aAA,λs r=> {s with i:=r.i,out:=r.out},λs=>s,λ_ s=>s,[.exit 0],l8,Y1,tn⟩
abbrev eM:=Pc.run
abbrev av3:=Pc.As
def Oz:aWp:=[Wg,XU,Xe,Xd,Xb,We,Wh,R1]
def ah7:B1:=IH Oz (la 2 func45 NT<|la 1 func44 MO<|la 2 func53 LO<|la 9 func30 Cu<|l0 Oz) [⟨42,PY.m,TT⟩]
def ayM:Rq Y1 aAA:=by
 intro s hI;refine ⟨λc1=>⟨?_,?_,?_,?_,A9,A9,A9,ak⟩,λc1=>⟨A9,A9,A9,A9,ak⟩⟩
 all_goals ((obtain ⟨⟨h0,h1⟩,h2,h3,h4,h5,h6⟩:=hI;(try simp only [Aa] at c1);first|omega|exact ⟨rfl,AI⟩ |(omega)))
def aRB:Pc.Ok:={}
def aQV:Pc.Pf (aBr):=⟨akA,λs h=>rfl,ayv,ayM⟩
def Ot:SA 21 aq7 Pc:=s2 aRB aQV Oz ah7
def atA:Fi l8 Y1 aBr av3 eM:=AS.fin aRB aQV
structure Mt where
 m:aWd
 (k i:Y)
 p:PK
 ev:EW
 (dw DA:aWd)
def ao5 (s:Mt):aWf:=[.own 16 0,.os 21 1 0<|M s.DA,.xl A7 s.m,s.k,s.i]
def ao0 (s:Mt):aWi:=[AP,AP,zB,AP,bV 79 Af s.p.cs,AP,AP,AP,AP,AP,AP,AP,AP,AP,AP,bV 3 A7 s.p.tg,⟨[.os 4 11 0<|M s.p.cs,.xl .str s.p.os,.xl Al s.p.ks,.xl Ah s.p.gs,.xl Am s.p.bs,.v<|ag J s.p.tk,.v<|.bool s.p.up,.xl AQ s.p.ls,.v<|ag J s.p.se,.xl (.int aw) s.p.fl,.xl Ap s.p.ra,.v<|ag J s.p.nx,.xl B7 s.p.st,.xl AQ s.p.ca,.xl B9 s.p.mi,.xl BS s.p.me,.xl Aw s.p.dm,.xl BP s.p.lk,.xl A7 s.p.dr,.os 15 1 0<|M s.p.tg,.v<|ag J s.ev.ek,.v<|ag J s.ev.en,.v<|ag J s.ev.em,.v<|ag J s.ev.c1,.v<|ag J s.ev.c2,.v<|ag J s.ev.c3,.v<|ag J s.ev.c4,.v<|ag J s.ev.c5,.v<|.bool s.ev.d1,.v<|ag J s.ev.d2,.v<|ag J s.ev.d3,.v<|ag J s.ev.d4,.os 20 1 0<|M s.dw],97,.cl,X⟩,AP,AP,AP,bV 3 A7 s.dw,bV 3 A7 s.DA]
def aq8:=bN f46 0
def aAB (s:Mt):T (Rd Mt):=letI b:=s.DA.getD s.i.toNat<|Ty.dflt A7;letI c:=M s.DA;letI a:=s.DA.set s.i.toNat (if b<(gi s.m s.i) then (gi s.m s.i) else b);.br (an<|s.i<s.k) (.ix s.i (M s.m)<|.ik s.i c<|.ik s.i c<|.re c a<|.rl s.p.cs<|.rl s.p.tg<|.rl s.dw<|.nx {s with i:=AA<|s.i+1,DA:=a})<|.rl s.DA<|.rl s.p.cs<|.rl s.p.tg<|.rl s.dw<|.so (.exit 0) s
def l9 (s:Mt):Prop:=s.i=0/\s.k=(M s.m:Y)/\s.k<=1000/\M s.DA=M s.m/\(∀j,0<=j->j<s.k->gi s.DA j=Cw (AG s.p.gs j))/\True
def Y2 (s:Mt):Prop:=(0<=s.i/\s.i<=s.k)/\s.k=(M s.m:Y)/\s.k<=1000/\M s.DA=M s.m/\(∀j,0<=j->j<s.k->gi s.DA j=if j<s.i then mx (Cw<|AG s.p.gs j) (gi s.m j) else Cw (AG s.p.gs j))/\True
def tq (s:Mt):aWe:=(s.k-s.i).toNat
def aBs (x:Ex) (s s':Mt):Prop:=x=.exit 0/\s'.DA=HQ (M s'.m) (λj=>mx (Cw<|AG s'.p.gs j)<|gi s'.m j)
def akB:∀s,l9 s->Y2 s:=by
 exact Sm
def ayw:Da Y2 tq aBs aAB:=by
 intro s hI;obtain ⟨⟨h0,h1⟩,h2,h3,h4,h5,h6⟩:=hI;refine AH (λc1=>?_) λc1=>?_
 ·have c1:s.i<s.k:=AX
  rw [AJ (x:=s.i+1)];refine ⟨⟨⟨A8,A8⟩,h2,h3,A8,λj j0 j1=>?_,h6⟩,by simp only [tq];omega⟩
  simp only
  have hi:=h5 s.i h0 c1
  rw [AE (show ¬s.i<s.i by omega)] at hi
  rw [J9 h0 bL j0]
  by_cases e:j=s.i
  ·subst e
   rw [AD rfl,AD (show s.i<s.i+1 by omega)]
   show mx (gi s.DA s.i) (gi s.m s.i)=_
   rw [hi]
  ·exact xu
 ·exact aJ
def Pd:AS Mt:=⟨21,125,[0,2,51,52,53],[],ao5,ao0,λv b=>⟨Az A7 v 2,AK v 3,AK v 4,rB b 16 4 0 0 0 0 0 0 0 0 0 0 15,rG b,Ac A7 b 20,Ac A7 b 21⟩,aAB,λs r=> {s with i:=r.i,DA:=r.DA},λs=>s,λ_ s=>s,[.exit 0],l9,Y2,tq⟩
abbrev dt:=Pd.run
abbrev av4:=Pd.As
def ah6:B1:=IH Oz (la 3 func73 Ot<|la 2 func45 NT<|la 1 func44 MO<|la 2 func53 LO<|la 9 func30 Cu<|l0 Oz) [⟨42,PY.m,TT⟩]
def ayN:Rq Y2 aAB:=by
 intro s hI;refine ⟨λc1=>⟨?_,?_,?_,?_,?_,?_,A9,A9,A9,ak⟩,λc1=>⟨A9,A9,A9,A9,ak⟩⟩
 all_goals ((obtain ⟨⟨h0,h1⟩,h2,h3,h4,h5,h6⟩:=hI;(try simp only [Aa] at c1);first|omega|exact ⟨rfl,AI⟩ |(omega)))
def aRC:Pd.Ok:={}
def aQW:Pd.Pf (aBs):=⟨akB,λs h=>rfl,ayw,ayN⟩
def Qd:SA 21 aq8 Pd:=s2 aRC aQW Oz ah6
def atC:Fi l9 Y2 aBs av4 dt:=AS.fin aRC aQW
def az8 {gs:aWh}{am:aWd}{b:aWo}:((Jb gs am==0)&&!(an (M am=M gs)&&!b))=(an (M am=M gs)&&b):=by
 unfold Jb
 grind
def cdS (cs:aWl) (tg:aWd) (i:Y):aWl:=letI a:=(cpC cs).getD i.toNat<|Ty.dflt Af;(cpC cs).set i.toNat (a.1,(a.2.1,((tg.getD i.toNat<|Ty.dflt A7),a.2.2.2)))
def gT {cs:aWl}{tg:aWd}{i:Y}(h0:0<=i) (h:i<(M cs:Y)):cdS cs tg i=cs.set i.toNat (GQ (Ae cs i.toNat)<|gi tg i.toNat):=by
 have e1:cs.getD i.toNat (Ty.dflt Af)=Ae cs (i.toNat:Y):=by
  rw [DJ,Dg A0];rw [show Ae cs (i.toNat:Y)=cs[i.toNat]' A0 from Qj A0];rfl
 unfold cdS;rw [XS,e1,CP h0];rfl
structure JE where
 am:aWd
 (n i:Y)
 p:PK
 ev:EW
 dw:aWd
def ao3 (s:JE):aWf:=[.own 16 0,.xl A7 s.am,.os 15 1 0<|M s.p.tg,s.n,s.i]
def anx (s:JE):aWi:=[AP,AP,zB,AP,⟨[],79,.dead,X⟩,AP,AP,AP,AP,AP,AP,AP,AP,AP,AP,bV 3 A7 s.p.tg,⟨[.os 21 11 0<|M s.p.cs,.xl .str s.p.os,.xl Al s.p.ks,.xl Ah s.p.gs,.xl Am s.p.bs,.v<|ag J s.p.tk,.v<|.bool s.p.up,.xl AQ s.p.ls,.v<|ag J s.p.se,.xl (.int aw) s.p.fl,.xl Ap s.p.ra,.v<|ag J s.p.nx,.xl B7 s.p.st,.xl AQ s.p.ca,.xl B9 s.p.mi,.xl BS s.p.me,.xl Aw s.p.dm,.xl BP s.p.lk,.xl A7 s.p.dr,.os 15 1 0<|M s.p.tg,.v<|ag J s.ev.ek,.v<|ag J s.ev.en,.v<|ag J s.ev.em,.v<|ag J s.ev.c1,.v<|ag J s.ev.c2,.v<|ag J s.ev.c3,.v<|ag J s.ev.c4,.v<|ag J s.ev.c5,.v<|.bool s.ev.d1,.v<|ag J s.ev.d2,.v<|ag J s.ev.d3,.v<|ag J s.ev.d4,.os 20 1 0<|M s.dw],97,.cl,X⟩,AP,AP,AP,bV 3 A7 s.dw,bV 79 Af s.p.cs]
def aq6:=bN f46 1
def iT (s:JE):T (Rd JE):=letI a:=((M s.p.cs:aWe):Y);letI b:=cdS s.p.cs s.p.tg s.i;letI c:=(b.drop 0).take a.toNat;letI d:=AA<|s.i+1;.br (an<|s.i<s.n) (.ik s.i (M s.p.tg)<|.ik s.i (M s.p.cs)<|.br (an<|(s.p.tg.getD s.i.toNat<|Ty.dflt A7)>=(s.p.cs.getD s.i.toNat<|Ty.dflt Af).2.2.1) (.rl s.p.tg<|.rl s.p.cs<|.rl s.p.tg<|.rl s.dw<|.nx {s with i:=d})<|.rm 96 a<|.rz s.p.cs<|.rc a (ByteArray.empty,((0:Y),((0:Y),((0:Y),(((0:Y),(0:Y)),((0:Y),((0:Y),((0:Y),((0:Y),(0:Y)))))))))) (M<|AR s.p.cs)<|.ix s.i a.toNat<|.req (s.i.toNat<M (cpC s.p.cs))<|.req (0+a.toNat<=M b)<|.req (BH c s.p.os s.p.ks s.p.gs s.p.bs=U/\(M s.am=M s.p.gs->∀k:aWe,k<M s.am->0<=gi s.am k/\gi s.am k<=80))<|.br (((Jb s.p.gs s.am)==0)&&(!(an (M s.am=M s.p.gs)&&!E9 c s.p.gs s.am))) (.rl s.p.tg<|.re a.toNat b<|.rl s.p.tg<|.rl s.dw<|.nx {s with i:=d,p.cs:=b})<|.rl s.p.tg<|.rl s.p.cs<|.rl s.p.tg<|.rl s.dw<|.nx {s with i:=d})<|.rl s.p.tg<|.rl s.p.cs<|.rl s.p.tg<|.rl s.dw<|.so (.exit 2) s
def ZS (s:JE):Prop:=s.i=0/\s.n=(M s.p.tg:Y)/\M s.p.tg=M s.p.cs/\BH s.p.cs s.p.os s.p.ks s.p.gs s.p.bs=U/\(∀k:aWe,k<M s.p.cs->1<=gi s.p.tg k/\gi s.p.tg k<=1000)/\(M s.am=M s.p.gs->∀k:aWe,k<M s.am->0<=gi s.am k/\gi s.am k<=80)
def Y0 (s:JE):Prop:=0<=s.i/\s.i<=s.n/\s.n=(M s.p.tg:Y)/\M s.p.tg=M s.p.cs/\BH s.p.cs s.p.os s.p.ks s.p.gs s.p.bs=U/\(∀k:aWe,k<M s.p.cs->1<=gi s.p.tg k/\gi s.p.tg k<=1000)/\(M s.am=M s.p.gs->∀k:aWe,k<M s.am->0<=gi s.am k/\gi s.am k<=80)
def fZ (s:JE):aWe:=(s.n-s.i).toNat
def abk (x:Ex) (s s':JE):Prop:=True
def ak9:∀s,ZS s->Y0 s:=by
 exact xv
def tE {s:JE}(hI:Y0 s) (c1:s.i<s.n):letI a:=GQ (Ae s.p.cs s.i.toNat)<|gi s.p.tg s.i.toNat;((cdS s.p.cs s.p.tg s.i).drop 0).take ((M s.p.cs:aWe):Y).toNat=s.p.cs.set s.i.toNat a/\BH (s.p.cs.set s.i.toNat a) s.p.os s.p.ks s.p.gs s.p.bs=true:=by
 obtain ⟨h0,h1,h2,h3,h4,h5,h6⟩:=hI;rw [gT h0 A0];exact ⟨by rw [CT];exact De AI,cw h4 A0<|h5 _ A0⟩
def ayu:Da Y0 fZ abk iT:=by
 intro s hI;unfold iT;obtain ⟨h0,h1,h2,h3,h4,h5,h6⟩:=hI
 have hs:=DK.1 h4
 refine AH (λc1=>AH (λc2=>?_) λc2=>AH (λc3=>?_) λc3=>?_) λc1=>trivial
 all_goals have c1:s.i<s.n:=AX
 all_goals rw [AJ (x:=s.i+1)]
 ·exact aMw
 ·rw [gT h0 A0]
  exact ⟨⟨AZ,AZ,h2,A8,cw h4 A0<|h5 _ A0,A8,h6⟩,by simp only [fZ];omega⟩
 ·exact aMw
def PW:AS JE:=⟨21,125,[0,2,72,73,74],[.pc 16 12 B7,.kb 8,.pc 16 13 AQ,.kb 9,.pc 16 14 B9,.kb 10,.pc 16 15 BS,.kb 11,.pc 16 18 A7,.kb 14,.pb 2 A7,.ms 0 0],ao3,anx,λv b=>⟨Az A7 v 1,AK v 3,AK v 4,rB b 16 21 0 0 0 0 0 0 0 0 0 0 15,rG b,Ac A7 b 20⟩,iT,λs r=> {s with i:=r.i,p.cs:=r.p.cs},λs=>s,λ_ s=>s,[.exit 2],ZS,Y0,fZ⟩
abbrev TQ:=PW.run
abbrev av2:=PW.As
def ah5:B1:=IH Oz (la 6 func46 Qd<|la 3 func73 Ot<|la 2 func45 NT<|la 1 func44 MO<|la 2 func53 LO<|la 9 func30 Cu<|l0 Oz) [⟨42,PY.m,TT⟩]
def ayL:Rq Y0 iT:=by
 intro s hI;refine ⟨λc1=>⟨?_,?_,?_,?_,λc2=>⟨A9,A9,A9,A9,ak⟩,λc2=>⟨?_,?_,?_,?_,?_,?_,?_,λc3=>⟨A9,?_,A9,A9,ak⟩,λc3=>⟨A9,A9,A9,A9,ak⟩⟩⟩,λc1=>⟨A9,A9,A9,A9,ak⟩⟩
 all_goals ((obtain ⟨h0,h1,h2,h3,h4,h5,h6⟩:=id hI;have hs:=DK.1 h4;simp only [Aa] at c1;first|exact ⟨by rw [(tE hI c1).1];exact (tE hI c1).2,h6⟩ |((try rw [XS]);(try rw [Fs]);(try rw [gT h0 A0]);first|omega|exact ⟨rfl,AI⟩ |(simp;done))))
def aRA:PW.Ok:={}
def aQU:PW.Pf (abk):=⟨ak9,λs h=>rfl,ayu,ayL⟩
def TP:SA 21 aq6 PW:=s2 aRA aQU Oz ah5
def afD:Rs ZS av2 TQ (λs:JE=>FF (bU s.p.gs s.p.tg s.am) s.i.toNat s.p.cs (s.n-s.i).toNat) (λx s' (v:aWl)=>x=.exit 2/\s'.p.cs=v):=DU aRA aQU (λs hI=>by
  obtain ⟨h0,h1,h2,h3,h4,h5,h6⟩:=id hI
  have hs:=DK.1 h4
  refine AH (λc1=>?_) λc1=>?_
  ·have c1:s.i<s.n:=A8
   have hg:s.p.tg.getD s.i.toNat (Ty.dflt A7)=gi s.p.tg s.i.toNat:=MF
   have hc:(s.p.cs.getD s.i.toNat<|Ty.dflt Af)=Ae s.p.cs s.i.toNat:=MF
   rw [AJ (x:=s.i+1),MK h0 c1,hg,hc,(tE hI c1).1,gT h0 A0,az8];refine AH (λc2=>?_) λc2=>?_
   ·rw [show bU s.p.gs s.p.tg s.am s.i.toNat s.p.cs=s.p.cs from AD<|D5 c2]
    rfl
   refine AH (λc3=>?_) λc3=>?_
   ·rw [show bU s.p.gs s.p.tg s.am s.i.toNat s.p.cs=_ from (AE<|KF c2).trans<|AD c3]
    rfl
   ·rw [show bU s.p.gs s.p.tg s.am s.i.toNat s.p.cs=_ from (AE<|KF c2).trans<|AE A8]
    rfl
  ·have c1:s.n<=s.i:=A8
   exact ⟨rfl,(pz c1).symm⟩)
structure Hy where
 p:PK
 ev:EW
def UZ (s:Hy):aWf:=[.own 16 0]
def ZB (s:Hy):aWi:=[AP,AP,zB,AP,bV 79 Af s.p.cs,bV 65 AQ s.p.ls,bV 5 (.int aw) s.p.fl,bV 139 Ap s.p.ra,bV 107 B7 s.p.st,bV 57 AQ s.p.ca,bV 123 B9 s.p.mi,bV 110 BS s.p.me,bV 59 Aw s.p.dm,bV 68 BP s.p.lk,bV 3 A7 s.p.dr,bV 3 A7 s.p.tg,⟨[.os 4 11 0<|M s.p.cs,.xl .str s.p.os,.xl Al s.p.ks,.xl Ah s.p.gs,.xl Am s.p.bs,.v<|ag J s.p.tk,.v<|.bool s.p.up,.os 5 5 0<|M s.p.ls,.v<|ag J s.p.se,.os 6 1 0<|M s.p.fl,.os 7 2 0<|M s.p.ra,.v<|ag J s.p.nx,.os 8 4 0<|M s.p.st,.os 9 5 0<|M s.p.ca,.os 10 3 0<|M s.p.mi,.os 11 3 0<|M s.p.me,.os 12 4 0<|M s.p.dm,.os 13 6 0<|M s.p.lk,.os 14 1 0<|M s.p.dr,.os 15 1 0<|M s.p.tg,.v<|ag J s.ev.ek,.v<|ag J s.ev.en,.v<|ag J s.ev.em,.v<|ag J s.ev.c1,.v<|ag J s.ev.c2,.v<|ag J s.ev.c3,.v<|ag J s.ev.c4,.v<|ag J s.ev.c5,.v<|.bool s.ev.d1,.v<|ag J s.ev.d2,.v<|ag J s.ev.d3,.v<|ag J s.ev.d4,.v<|.slice aj 0 0],97,.cl,X⟩]
def Jm (s:Hy):Ns:=(⟨(PK.AM s.p).lk,(M (PK.AM s.p).lk:Y),0,PK.AM s.p,s.ev,([]:aWN)⟩:Ns)
def T5 (s:Hy):Lm:=(⟨((M (PK.AM s.p).dr:aWe):Y),0,{(PK.AM s.p) with st:=(KS<|Jm s).p.st,lk:=AR (KS<|Jm s).left},s.ev⟩:Lm)
def Hq (s:Hy):Lj:=letI a:=(M (PK.AM s.p).gs:Y);(⟨(PK.AM s.p).gs,a,0,{(PK.AM s.p) with st:=(fH<|T5 s).p.st,lk:=AR (KS<|Jm s).left},s.ev,aq a.toNat (0:Y)⟩:Lj)
def dG (s:Hy):Ms:=letI a:=PK.AM s.p;letI b:=Jj<|Hq s;(⟨a.gs,(M a.gs:Y),0,{a with st:=AR b.p.st,ca:=AR a.ca,mi:=AR b.p.mi,me:=AR b.p.me,lk:=AR (KS<|Jm s).left,dr:=AR a.dr},s.ev,b.dw,aq (M a.gs:Y).toNat (0:Y)⟩:Ms)
def T4 (s:Hy):Mt:=letI b:=PK.AM s.p;letI c:=Jj<|Hq s;letI a:=(HM b.ls (M b.gs:Y)<|AA<|b.tk+1);(⟨a,(M a:Y),0,{b with st:=AR c.p.st,ca:=AR b.ca,mi:=AR c.p.mi,me:=AR c.p.me,lk:=AR (KS<|Jm s).left,dr:=AR b.dr},s.ev,c.dw,(eM<|dG s).out⟩:Mt)
def T3 (s:Hy):JE:=letI a:=PK.AM s.p;letI b:=Jj<|Hq s;(⟨AR (dt<|T4 s).DA,((M a.tg:aWe):Y),0,{a with st:=AR b.p.st,ca:=AR a.ca,mi:=AR b.p.mi,me:=AR b.p.me,lk:=AR (KS<|Jm s).left,dr:=AR a.dr},s.ev,b.dw⟩:JE)
def T2 (s:Hy):JE:=letI a:=PK.AM s.p;letI b:=Jj<|Hq s;(⟨([]:aWd),((M a.tg:aWe):Y),0,{a with st:=AR b.p.st,ca:=AR a.ca,mi:=AR b.p.mi,me:=AR b.p.me,lk:=AR (KS<|Jm s).left,dr:=AR a.dr},s.ev,b.dw⟩:JE)
structure YR where
 res:Y
 p:PK
 ev:EW
 dw:aWd
def acC (s:YR):LV:=.v<|ag J s.res
def abX (s:YR):aWi:=[AP,AP,zB,AP,AP,AP,AP,AP,AP,AP,AP,AP,AP,AP,AP,AP,⟨[.xl Af s.p.cs,.xl .str s.p.os,.xl Al s.p.ks,.xl Ah s.p.gs,.xl Am s.p.bs,.v<|ag J s.p.tk,.v<|.bool s.p.up,.xl AQ s.p.ls,.v<|ag J s.p.se,.xl (.int aw) s.p.fl,.xl Ap s.p.ra,.v<|ag J s.p.nx,.xl B7 s.p.st,.xl AQ s.p.ca,.xl B9 s.p.mi,.xl BS s.p.me,.xl Aw s.p.dm,.xl BP s.p.lk,.xl A7 s.p.dr,.xl A7 s.p.tg,.v<|ag J s.ev.ek,.v<|ag J s.ev.en,.v<|ag J s.ev.em,.v<|ag J s.ev.c1,.v<|ag J s.ev.c2,.v<|ag J s.ev.c3,.v<|ag J s.ev.c4,.v<|ag J s.ev.c5,.v<|.bool s.ev.d1,.v<|ag J s.ev.d2,.v<|ag J s.ev.d3,.v<|ag J s.ev.d4,.xl A7 s.dw],97,.cl,X⟩]
def iG (s:Hy):T YR:=letI a:=PK.AM s.p;letI b:=Jj<|Hq s;letI c:=(M a.gs:Y);letI d:=AR (KS<|Jm s).left;letI e:=AA<|a.tk+1;letI f:=(aq c.toNat (0:Y));.br (s.p.tk==1000000) (.rz s.p.cs<|.rz s.p.ls<|.rz s.p.fl<|.rz s.p.ra<|.rz s.p.st<|.rz s.p.ca<|.rz s.p.mi<|.rz s.p.me<|.rz s.p.dm<|.rz s.p.lk<|.rz s.p.dr<|.rz s.p.tg<|.ok<|⟨15,⟨AR s.p.cs,s.p.os,s.p.ks,s.p.gs,s.p.bs,s.p.tk,s.p.up,AR s.p.ls,s.p.se,AR s.p.fl,AR s.p.ra,s.p.nx,AR s.p.st,AR s.p.ca,AR s.p.mi,AR s.p.me,AR s.p.dm,AR s.p.lk,AR s.p.dr,AR s.p.tg⟩,s.ev,([]:aWd)⟩)<|.pc s.p<|.req (ak6 (⟨s.p,s.ev⟩:Lh))<|.r0 Lk<|.pd a<|.req (RE.q<|Jm s)<|.rz (KS<|Jm s).left (.rl a.dr<|.rl a.cs<|.rl (KS<|Jm s).p.st<|.rl a.ca<|.rl a.mi<|.rl a.me<|.rl a.dr<|.rl a.tg<|.req (Pt.q<|T5 s)<|.rm 8 c<|.rl a.cs<|.rl (fH<|T5 s).p.st<|.rl a.ca<|.rl a.mi<|.rl a.me<|.rl a.dr<|.rl a.tg<|.re c.toNat f<|.req (Ri.q<|Hq s)<|.br (! a.up) (.rz a.cs<|.rz b.p.st<|.rz a.ca<|.rz b.p.mi<|.rz b.p.me<|.rz a.dr<|.rz a.tg<|.rz b.dw<|.ok<|⟨0,{a with cs:=AR a.cs,tk:=e,st:=AR b.p.st,ca:=AR a.ca,mi:=AR b.p.mi,me:=AR b.p.me,lk:=d,dr:=AR a.dr,tg:=AR a.tg},s.ev,AR b.dw⟩)<|.br ((Jy a.ls c e)==0) (.rm 8 c<|.rz b.p.st<|.rz a.ca<|.rz b.p.mi<|.rz b.p.me<|.rz a.dr<|.re c.toNat f<|.rl a.cs<|.rl a.tg<|.rl b.dw<|.req (Pc.q<|dG s)<|.rl (eM<|dG s).out<|.rl a.cs<|.rl a.tg<|.rl b.dw<|.req (Pd.q<|T4 s)<|.rz (dt<|T4 s).DA<|.rl a.tg<|.rl a.cs<|.rl a.tg<|.rl b.dw<|.req (PW.q<|T3 s)<|.rz (TQ<|T3 s).p.cs<|.rz a.tg<|.rz b.dw<|.ok<|⟨0,{a with cs:=AR (TQ<|T3 s).p.cs,tk:=e,st:=AR b.p.st,ca:=AR a.ca,mi:=AR b.p.mi,me:=AR b.p.me,lk:=d,dr:=AR a.dr,tg:=AR a.tg},s.ev,AR b.dw⟩)<|.rz b.p.st<|.rz a.ca<|.rz b.p.mi<|.rz b.p.me<|.rz a.dr<|.rl a.tg<|.rl a.cs<|.rl a.tg<|.rl b.dw<|.req (PW.q<|T2 s)<|.rz (TQ<|T2 s).p.cs<|.rz a.tg<|.rz b.dw<|.ok<|⟨0,{a with cs:=AR (TQ<|T2 s).p.cs,tk:=e,st:=AR b.p.st,ca:=AR a.ca,mi:=AR b.p.mi,me:=AR b.p.me,lk:=d,dr:=AR a.dr,tg:=AR a.tg},s.ev,AR b.dw⟩)
def aCW (s:Hy):Prop:=(VP s.p/\RQ s.p)/\VK s.p.se s.p.fl/\B4 s.p.ls=U
def Tp (s:Hy):YR:=⟨PK.IX s.p,JW (PK.IX s.p) (PK.Bh s.p) s.p,s.ev,if PK.IX s.p=0 then PK.Kp s.p else []⟩
def aCH:D8 Hy YR:=⟨UZ,ZB,λv b=>⟨rF b,rG b⟩,aCW,[0,1,3],[.pc 16 0 Af,.kb 4,.pc 16 7 AQ,.kb 5,.pc 16 9<|.int aw,.kb 6,.pc 16 10 Ap,.kb 7,.pc 16 12 B7,.kb 8,.pc 16 13 AQ,.kb 9,.pc 16 14 B9,.kb 10,.pc 16 15 BS,.kb 11,.pc 16 16 Aw,.kb 12,.pc 16 17 BP,.kb 13,.pc 16 18 A7,.kb 14,.pc 16 19 A7,.kb 15,.pc 16 32 A7],acC,abX,Tp⟩
abbrev ajz (s:Hy):Prop:=aCW s/\UZ s=UZ s/\ZB s=ZB s
def Wv:aWp:=[Wg,XU,Xe,Xd,Xb,We,Wh,R1]
def aTJ:B1:=IH Wv (la 11 func46 TP<|la 6 func46 Qd<|la 3 func73 Ot<|la 2 func45 NT<|la 1 func44 MO<|la 2 func53 LO<|la 9 func30 Cu<|l0 Wv) [⟨42,PY.m,TT⟩]
def aV1:DS:=CV 46 21 11 (PW.lp)<|CV 46 21 6 (Pd.lp)<|CV 73 21 3 (Pc.lp)<|CV 45 20 2 (Ri.lp)<|CV 44 20 1 (Pt.lp)<|CV 53 19 2 (RE.lp)<|CV 30 0 9 (Gu.lp)<|E5 prog AV Wv 20 2
def aqQ:Eb prog AV aV1:=DM func46 rfl AU TP<|DM func46 rfl AU Qd<|DM func73 rfl AU Ot<|DM func45 rfl AU NT<|DM func44 rfl AU MO<|DM func53 rfl AU LO<|DM func30 rfl AU Cu<|Hv<|gk Wv
def ag4 (s:Hy):((Ep prog AV Wv aV1 aTJ).k 22 (UZ s)<|ZB s).bind (λq=>GM (M<|ZB s) [0] [.pc 16 0 Af,.kb 4,.pc 16 7 AQ,.kb 5,.pc 16 9<|.int aw,.kb 6,.pc 16 10 Ap,.kb 7,.pc 16 12 B7,.kb 8,.pc 16 13 AQ,.kb 9,.pc 16 14 B9,.kb 10,.pc 16 15 BS,.kb 11,.pc 16 16 Aw,.kb 12,.pc 16 17 BP,.kb 13,.pc 16 18 A7,.kb 14,.pc 16 19 A7,.kb 15,.pc 16 32 A7] .normal (q.1::UZ s) q.2)=(iG s).mp (λs2=>⟨.normal,M (UZ s)+1,[acC s2],abX s2,U⟩):=AU
def axS (s:Hy) (hE:aCW s):(iG s).all (λq=>q=Tp s):=by
 obtain ⟨⟨hV,hR⟩,hK,hls⟩:=id hE
 have hq:=hV.dec
 have hs:=DK.1 hq.site
 have hs0:=DK.1 hV.site
 have htk:s.p.AM.tk=s.p.tk:=(KO s.p).2.2.2.2.2.1
 have hd:=aTy hR A0
 have hp:=hV.tk
 have A1:ju (Jm s):=⟨rfl,rfl,by show (M s.p.AM.lk:Y)<=20000000;omega,yN,hq.lk,hq.st⟩
 have q1:=(avS _ A1).2
 have r1:(KS<|Jm s).p.st=s.p.AM.JO.st:=by
  refine (Prod.mk.inj q1).1.trans ?_
  show (s.p.AM.lk.drop 0).foldl _ _=Ly _ _ _ _ _
  rw [aFG _<|At _,El];rfl
 have r2:(KS<|Jm s).left=s.p.AM.JO.lk:=(Prod.mk.inj q1).2
 have h2:T5 s=⟨(M s.p.AM.dr:Y),0,s.p.AM.JO,s.ev⟩:=by
  unfold T5;rw [r1,Fs,r2];rfl
 have A2:kY (T5 s):=by
  rw [h2];exact ⟨rfl,rfl,hq.dr,by show (M s.p.AM.dr:Y)<=1000;rw [hq.dr];omega,hq.arr.st,by show 0<=s.p.AM.tk/\s.p.AM.tk<=1000000;rw [htk];exact hp⟩
 have r3:(fH<|T5 s).p.st=s.p.Ay.st:=by
  refine (avb _ A2).2.trans ?_;rw [h2]
  show FF (cnt1 s.p.AM.gs s.p.AM.dr s.p.AM.tk) 0 s.p.AM.JO.st ((M s.p.AM.dr:Y)-0).toNat=_
  rw [QB,By,ajU];rfl
 have h3:Hq s=⟨s.p.Ay.gs,(M s.p.Ay.gs:Y),0,s.p.Ay,s.ev,aq (M s.p.Ay.gs) 0⟩:=by
  unfold Hq;rw [r3,Fs,r2,By];rfl
 have hb:VP s.p.Ay:=hq.arr.cnt
 have A3:kJ (Hq s):=by
  rw [h3];exact ⟨rfl,rfl,yQ,rfl,hb.st,hb.ca,hb.mi,hb.me,Ci⟩
 have q4:=(auM _ A3).2
 have q4:(⟨(Jj<|Hq s).p.st,(Jj<|Hq s).p.mi,(Jj<|Hq s).p.me,(Jj<|Hq s).dw⟩:DW)=s.p.Ay.dw:=by
  refine q4.trans ?_;rw [h3]
  show FF (λk d=>H6 s.p.Ay.gs s.p.Ay.ca d (k:Y)) 0 _ ((M s.p.Ay.gs:Y)-0).toNat=_
  rw [QB,By,anB];rfl
 have r4:(Jj<|Hq s).p.st=s.p.Ay.dw.st:=B3 DW.st q4
 have r5:(Jj<|Hq s).p.mi=s.p.Ay.dw.mi:=B3 DW.mi q4
 have r6:(Jj<|Hq s).p.me=s.p.Ay.dw.me:=B3 DW.me q4
 have r7:(Jj<|Hq s).dw=s.p.Ay.dw.dw:=B3 DW.dw q4
 have hw:AA (s.p.AM.tk+1)=s.p.AM.tk+1:=AJ
 have hdr:VP s.p.Ay.CR:=hb.drw
 unfold iG;simp only [Fs,r2,r3,r4,r5,r6,r7,hw];refine ⟨λc=>?_,λc=>?_⟩
 ·have e:s.p.IX=15:=AD (eq_of_beq c)
  repeat (refine ⟨Dh,?_⟩)
  show _=_
  unfold Tp;rw [e,Jn Ab,AE Ab]
 have e:s.p.IX=0:=AE<|CQ.1 c
 repeat (refine ⟨Dh,?_⟩)
 refine ⟨⟨hE,rfl,rfl⟩,?_⟩
 repeat (refine ⟨Dh,?_⟩)
 refine ⟨⟨A1,rfl,rfl⟩,?_⟩
 repeat (refine ⟨Dh,?_⟩)
 refine ⟨⟨A2,rfl,rfl⟩,?_⟩
 repeat (refine ⟨Dh,?_⟩)
 refine ⟨⟨A3,rfl,rfl⟩,λc2=>?_,λc2=>?_⟩
 ·have c2:s.p.Ay.CR.up=false:=(D2 _).mp c2
  repeat (refine ⟨Dh,?_⟩)
  show _=_
  unfold Tp;rw [e,LW rfl,AD rfl];unfold PK.Bh PK.Jv;rw [AD c2];rfl
 have hu:¬s.p.Ay.CR.up=false:=by intro h;rw [show s.p.AM.up=X from h] at c2;cases c2
 have R:∀ {am cs},s.p.Ay.CR.rsA=am->DG s.p.Ay.CR.gs s.p.Ay.CR.tg am s.p.Ay.CR.cs (M s.p.Ay.CR.tg)=cs->s.p.Bh={s.p.AM with cs:=cs,tk:=s.p.AM.tk+1,st:=s.p.Ay.dw.st,mi:=s.p.Ay.dw.mi,me:=s.p.Ay.dw.me,lk:=s.p.AM.JO.lk}:=λh1 h2=>by
  unfold PK.Bh PK.Jv;rw [AE hu,h1,h2];rfl
 refine ⟨λc3=>?_,λc3=>?_⟩
 ·have c3:Jy s.p.AM.ls (M s.p.AM.gs) (s.p.AM.tk+1)=0:=eq_of_beq c3
  have cO:Kz s.p.AM.ls (M s.p.AM.gs) (s.p.AM.tk+1)=true:=by
   unfold Jy at c3;split at c3
   ·assumption
   ·cases c3
  have cL:HM s.p.AM.ls (M s.p.AM.gs) (s.p.AM.tk+1)=H3 (M s.p.AM.gs) s.p.AM.ls (s.p.AM.tk+1):=by
   unfold HM;rw [AD cO,By]
  have hl:B4 s.p.AM.ls=true:=by
   unfold Kz at cO;simp only [AY] at cO;exact cO.1.1
  have hsA:s.p.Ay.CR.rsA=DO s.p.AM.gs s.p.AM.ls (s.p.AM.tk+1):=AD c3
  have A4:l8 (dG s):=⟨rfl,rfl,yQ,by show M (aq (M s.p.AM.gs:Y).toNat (0:Y))=_;rw [Ci,By];rfl,λj _ _=>LY,ak⟩
  obtain ⟨_,_,_,q5⟩:=atA _ A4
  have q5:(eM<|dG s).out=Bv s.p.AM.gs:=q5
  have hlen:M (H3 (M s.p.AM.gs) s.p.AM.ls<|s.p.AM.tk+1)=M s.p.AM.gs:=dM
  have h6:T4 s=⟨H3 (M s.p.AM.gs) s.p.AM.ls<|s.p.AM.tk+1,(M s.p.AM.gs:Y),0,s.p.Ay.CR,s.ev,s.p.Ay.dw.dw,Bv s.p.AM.gs⟩:=by
   unfold T4;simp only [Fs,r2,r4,r5,r6,r7,hw,q5,cL,hlen];rfl
  have A5:l9 (T4 s):=by
   rw [h6];refine ⟨rfl,by show (M s.p.AM.gs:Y)=_;rw [hlen],yQ,by show M (Bv s.p.AM.gs)=_;rw [hlen];exact Iu,λj j0 j1=>(show gi (Bv s.p.AM.gs) j=Cw (AG s.p.AM.gs j) from Of j0 j1),ak⟩
  obtain ⟨_,_,_,q6⟩:=atC _ A5
  have q6:(dt<|T4 s).DA=DO s.p.AM.gs s.p.AM.ls (s.p.AM.tk+1):=by
   refine q6.trans ?_;rw [h6]
   show HQ (M<|H3 (M s.p.AM.gs) s.p.AM.ls<|s.p.AM.tk+1) _=_
   rw [hlen];rfl
  have h7:T3 s=⟨DO s.p.AM.gs s.p.AM.ls<|s.p.AM.tk+1,(M s.p.AM.tg:Y),0,s.p.Ay.CR,s.ev,s.p.Ay.dw.dw⟩:=by
   unfold T3;simp only [Fs,r2,r4,r5,r6,r7,q6];rfl
  have A6:ZS (T3 s):=by
   rw [h7];exact ⟨rfl,rfl,hq.FE,hq.site,hq.tg1,λ_ k hk=>Oj hq.site hl A0 (by have:M (DO s.p.AM.gs s.p.AM.ls<|s.p.AM.tk+1)=M s.p.AM.gs:=Iu;have hk:k<M (DO s.p.AM.gs s.p.AM.ls<|s.p.AM.tk+1):=hk;omega)⟩
  have q7:(TQ<|T3 s).p.cs=DG s.p.AM.gs s.p.AM.tg (DO s.p.AM.gs s.p.AM.ls<|s.p.AM.tk+1) s.p.AM.cs (M s.p.AM.tg):=by
   exact aMp
  repeat (refine ⟨Dh,?_⟩)
  refine ⟨⟨A4,rfl,rfl⟩,?_⟩
  repeat (refine ⟨Dh,?_⟩)
  refine ⟨⟨A5,rfl,rfl⟩,?_⟩
  repeat (refine ⟨Dh,?_⟩)
  refine ⟨⟨A6,rfl,rfl⟩,?_⟩
  repeat (refine ⟨Dh,?_⟩)
  show _=_
  unfold Tp;rw [e,LW rfl,AD rfl,R hsA q7.symm];rfl
 ·have c3:¬Jy s.p.AM.ls (M s.p.AM.gs) (s.p.AM.tk+1)=0:=CQ.1 c3
  have hsA:s.p.Ay.CR.rsA=[]:=AE c3
  have h7:T2 s=⟨[],(M s.p.AM.tg:Y),0,s.p.Ay.CR,s.ev,s.p.Ay.dw.dw⟩:=by
   unfold T2;simp only [Fs,r2,r4,r5,r6,r7];rfl
  have A6:ZS (T2 s):=by
   rw [h7];exact ⟨rfl,rfl,hq.FE,hq.site,hq.tg1,λ_ k hk=>NG⟩
  have q7:(TQ<|T2 s).p.cs=DG s.p.AM.gs s.p.AM.tg [] s.p.AM.cs (M s.p.AM.tg):=by
   exact aMp
  repeat (refine ⟨Dh,?_⟩)
  refine ⟨⟨A6,rfl,rfl⟩,?_⟩
  repeat (refine ⟨Dh,?_⟩)
  show _=_
  unfold Tp;rw [e,LW rfl,AD rfl,R hsA q7.symm];rfl
def ajG:Dj prog AV 22 aCH.m:=D8.sound (D:=aCH) (t:=iG) (gk Wv) aqQ aTJ.h ag4 λs hE=>⟨axS s hE⟩
def JP (p:PK):Prop:=(VP p/\RQ p)/\VK p.se p.fl/\B4 p.ls=U
variable {p : PK} {ev : EW}
def oK {e:EV}(h:BC p e≠0):An p e=PK0/\Cn p e=[]:=⟨AD h,AD h⟩
def aCp (hv:EJ p=U) (h:ev.ek=1):BC p ev.ev=p.IX/\(p.IX=0->An p ev.ev=p.Bh/\Cn p ev.ev=p.Kp):=by
 exact QE
def aLQ (hv:EJ p=U) (h:ev.ek=2):BC p ev.ev=p.GI ev.en ev.c ev.d/\(p.GI ev.en ev.c ev.d=0->An p ev.ev=p.Nm ev.en ev.c ev.d/\Cn p ev.ev=[]):=by
 exact QE
def aLP (hv:EJ p=U) (h:ev.ek=3):BC p ev.ev=p.JB ev.en/\(p.JB ev.en=0->An p ev.ev=p.Qt ev.en/\Cn p ev.ev=[]):=by
 exact QE
def aLO (hv:EJ p=U) (h:ev.ek=4):BC p ev.ev=p.Nn ev.en/\(p.Nn ev.en=0->An p ev.ev=p.jJ ev.en/\Cn p ev.ev=[]):=by
 exact QE
def aCo (hv:EJ p=U) (h:ev.ek=5):BC p ev.ev=p.Ma/\(p.Ma=0->An p ev.ev=p.Ni/\Cn p ev.ev=[]):=by
 exact QE
def aCn (hv:EJ p=U) (h:ev.ek=6):BC p ev.ev=p.F9/\(p.F9=0->An p ev.ev=p.Qz/\Cn p ev.ev=[]):=by
 exact QE
def aLN (hv:EJ p=U) (h:ev.ek=7):BC p ev.ev=p.Nl ev.en/\(p.Nl ev.en=0->An p ev.ev=p.aVQ ev.en/\Cn p ev.ev=[]):=by
 exact QE
def aLM (hv:EJ p=U) (h:ev.ek=8):BC p ev.ev=p.I4 ev.en ev.em/\(p.I4 ev.en ev.em=0->An p ev.ev=p.L2 ev.en ev.em/\Cn p ev.ev=[]):=by
 exact QE
def aLL (hv:EJ p=U) (h:ev.ek≠1/\ev.ek≠2/\ev.ek≠3/\ev.ek≠4/\ev.ek≠5/\ev.ek≠6/\ev.ek≠7/\ev.ek≠8):BC p ev.ev=9:=by
 obtain ⟨h1,h2,h3,h4,h5,h6,h7,h8⟩:=h
 simp [BC,hv,EW.ev,h1,h2,h3,h4,h5,h6,h7,h8]
def JP.lb (h:JP p):LB p:=by
 obtain ⟨⟨hV,hR⟩,hK,_⟩:=h
 have hs:=DK.1 hV.site
 have hf:=hR.fl.2.1
 have hl:=hR.ls
 have hk:=hR.lk
 have hr:=hR.ra
 have ht:=hV.tk
 have h1:=hV.st
 have h2:=hV.ca
 have h3:=hV.mi
 have h4:=hV.me
 have h5:=hV.dm
 have h6:=hV.dr
 have h7:=hV.FE
 have hf:M p.fl=2048:=hf
 refine ⟨?_,?_,?_,?_,?_,?_,?_,?_,?_,?_,?_,?_,λm hm=>HJ (hR.mi m hm) Ab⟩<;>omega
end Go.Proofs.YtoifmkifedcnnaaGreatDoor
namespace Go.Proofs.YtoifmkifedcnnaaGreatDoor
set_option maxRecDepth 100000
set_option maxHeartbeats 4000000
open Go.Proofs.Tryz
open Go.Sx
def aIs:aWf->T LV
 | [x_p,x_ev]=>(match N1 x_p with
  |some p=>(match ng x_ev with
  |some ev=> .req (JP p) (.ok<|.AO [An p<|EW.ev ev,.xl A7<|Cn p<|EW.ev ev,BC p<|EW.ev ev])
  |none=> .no)
  |none=> .no)
 |_=> .no
def tkO (p:PK) (ev:EW):PK:=JW (PK.IX p) (PK.Bh p)<|p
def acy (p:PK) (ev:EW):PK:=JW (PK.GI p ev.en (EW.c ev)<|EW.d ev) (PK.Nm p ev.en (EW.c ev)<|EW.d ev)<|p
def acz (p:PK) (ev:EW):PK:=JW (PK.JB p ev.en) (PK.Qt p ev.en)<|p
def ad5 (p:PK) (ev:EW):PK:=JW (PK.Nn p ev.en) (PK.jJ p ev.en)<|p
def acw (p:PK) (ev:EW):PK:=JW (PK.Ma p) (PK.Ni p)<|p
def adC (p:PK) (ev:EW):PK:=JW (PK.F9 p) (PK.Qz p)<|p
def L9 (e:Y):LV:=.AO [.agg [.xl Af ([]:aWl),.xl .str ([]:aWg),.xl Al ([]:aWr),.xl Ah ([]:aWh),.xl Am ([]:aWs),.v<|ag J 0,.v<|.bool X,.xl AQ ([]:aWn),.v<|ag J 0,.xl (.int aw) ([]:aWd),.xl Ap ([]:aWJ),.v<|ag J 0,.xl B7 ([]:aWE),.xl AQ ([]:aWn),.xl B9 ([]:aWY),.xl BS ([]:aW2),.xl Aw ([]:aWB),.xl BP ([]:aWN),.xl A7 ([]:aWd),.xl A7 ([]:aWd)],.xl A7 ([]:aWd),.v<|ag J e]
def ft:aWp:=[ajh]
def aTI:B1:=IH ft (la 11 func46 TP<|la 6 func46 Qd<|la 3 func73 Ot<|la 2 func45 NT<|la 1 func44 MO<|la 2 func53 LO<|la 9 func30 Cu<|l0 ft) [⟨22,aCH.m,ajG⟩,⟨23,aCJ.m,ajI⟩,⟨24,aCL.m,ajK⟩,⟨25,aCK.m,ajJ⟩,⟨26,aCi.m,ajL⟩,⟨27,aCI.m,ajH⟩,⟨28,aCG.m,ajF⟩,⟨29,aCj.m,ajM⟩,⟨30,Qn λa=>jz.m a [],ajP⟩]
def asL (p:PK) (ev:EW):letI a:=acy p ev;letI b:=acz p ev;letI e:=ad5 p ev;letI f:=acw p ev;letI g:=adC p ev;letI h:=(azy (⟨p⟩:MT));letI i:=M p.me;letI j:=M p.dm;letI k:=M p.lk;letI l:=M p.dr;letI m:=M p.tg;letI n:=PK.GI p ev.en (EW.c ev)<|EW.d ev;Bl prog AV (ft) aTI Ak f9 [p,ev]=.req (M p.lk<=100000000) (.br (!(EJ p)) (.ok<|L9 1)<|.br (ev.ek==(1:Y)) (.req h<|.rv (ev)<|.pa p<|.rl p.st<|.rl p.ca<|.rl p.mi<|.re i p.me<|.re j p.dm<|.re k p.lk<|.re l p.dr<|.re m p.tg<|.req (ajz (⟨p,ev⟩:Hy))<|.br ((PK.IX p) !=0) (.ok<|L9<|PK.IX p)<|.ok<|.AO [tkO p ev,.xl A7 (if PK.IX (p)=0 then PK.Kp p else []),(0:Y)])<|.br (ev.ek==(2:Y)) (.req h<|.rv (ev)<|.pa p<|.rl p.st<|.rl p.ca<|.rl p.mi<|.re i p.me<|.re j p.dm<|.re k p.lk<|.re l p.dr<|.re m p.tg<|.req (ak1 (⟨p,ev⟩:O5))<|.br (n !=0) (.ok<|L9 n)<|.rz a.cs<|.rz a.ls<|.rz a.fl<|.rz a.ra<|.rz a.st<|.rz a.ca<|.rz a.mi<|.rz a.me<|.rz a.dm<|.rz a.lk<|.rz a.dr<|.rz a.tg<|.ok<|.AO [.agg [AR a.cs,a.os,a.ks,a.gs,a.bs,a.tk,a.up,AR a.ls,a.se,.xl (.int aw)<|AR a.fl,AR a.ra,a.nx,AR a.st,AR a.ca,AR a.mi,AR a.me,AR a.dm,AR a.lk,.xl A7<|AR a.dr,.xl A7<|AR a.tg],.xl A7 ([]:aWd),(0:Y)])<|.br (ev.ek==(3:Y)) (.req h<|.rv (ev)<|.pa p<|.rl p.st<|.rl p.ca<|.rl p.mi<|.re i p.me<|.re j p.dm<|.re k p.lk<|.re l p.dr<|.re m p.tg<|.req (ak3 (⟨p,ev⟩:O7))<|.br ((PK.JB p ev.en) !=0) (.ok<|L9<|PK.JB p ev.en)<|.rz b.cs<|.rz b.ls<|.rz b.fl<|.rz b.ra<|.rz b.st<|.rz b.ca<|.rz b.mi<|.rz b.me<|.rz b.dm<|.rz b.lk<|.rz b.dr<|.rz b.tg<|.ok<|.AO [.agg [AR b.cs,b.os,b.ks,b.gs,b.bs,b.tk,b.up,AR b.ls,b.se,.xl (.int aw)<|AR b.fl,AR b.ra,b.nx,AR b.st,AR b.ca,AR b.mi,AR b.me,AR b.dm,AR b.lk,.xl A7<|AR b.dr,.xl A7<|AR b.tg],.xl A7 ([]:aWd),(0:Y)])<|.br (ev.ek==(4:Y)) (.req h<|.rv (ev)<|.pa p<|.rl p.st<|.rl p.ca<|.rl p.mi<|.re i p.me<|.re j p.dm<|.re k p.lk<|.re l p.dr<|.re m p.tg<|.req (ak2 (⟨p,ev⟩:O6))<|.br ((PK.Nn p ev.en) !=0) (.ok<|L9<|PK.Nn p ev.en)<|.rz e.cs<|.rz e.ls<|.rz e.fl<|.rz e.ra<|.rz e.st<|.rz e.ca<|.rz e.mi<|.rz e.me<|.rz e.dm<|.rz e.dr<|.rz e.tg<|.ok<|.AO [.agg [AR e.cs,e.os,e.ks,e.gs,e.bs,e.tk,e.up,AR e.ls,e.se,.xl (.int aw)<|AR e.fl,AR e.ra,e.nx,AR e.st,AR e.ca,AR e.mi,AR e.me,AR e.dm,e.lk,.xl A7<|AR e.dr,.xl A7<|AR e.tg],.xl A7 ([]:aWd),(0:Y)])<|.br (ev.ek==(5:Y)) (.req h<|.rv (ev)<|.pa p<|.rl p.st<|.rl p.ca<|.rl p.mi<|.re i p.me<|.re j p.dm<|.re k p.lk<|.re l p.dr<|.re m p.tg<|.req (ak4 (⟨p,ev⟩:O8))<|.br ((PK.Ma p) !=0) (.ok<|L9<|PK.Ma p)<|.rz f.cs<|.rz f.fl<|.rz f.ra<|.rz f.st<|.rz f.ca<|.rz f.mi<|.rz f.me<|.rz f.dm<|.rz f.lk<|.rz f.dr<|.rz f.tg<|.ok<|.AO [.agg [AR f.cs,f.os,f.ks,f.gs,f.bs,f.tk,f.up,f.ls,f.se,.xl (.int aw)<|AR f.fl,AR f.ra,f.nx,AR f.st,AR f.ca,AR f.mi,AR f.me,AR f.dm,AR f.lk,.xl A7<|AR f.dr,.xl A7<|AR f.tg],.xl A7 ([]:aWd),(0:Y)])<|.br (ev.ek==(6:Y)) (.req h<|.rv (ev)<|.pa p<|.rl p.st<|.rl p.ca<|.rl p.mi<|.re i p.me<|.re j p.dm<|.re k p.lk<|.re l p.dr<|.re m p.tg<|.req (ak0 (⟨p,ev⟩:O4))<|.br ((PK.F9 p) !=0) (.ok<|L9<|PK.F9 p)<|.rz g.cs<|.rz g.st<|.rz g.ca<|.rz g.mi<|.rz g.me<|.rz g.dm<|.rz g.lk<|.rz g.dr<|.rz g.tg<|.ok<|.AO [.agg [AR g.cs,g.os,g.ks,g.gs,g.bs,g.tk,g.up,g.ls,g.se,.xl (.int aw) g.fl,g.ra,g.nx,AR g.st,AR g.ca,AR g.mi,AR g.me,AR g.dm,AR g.lk,.xl A7<|AR g.dr,.xl A7<|AR g.tg],.xl A7 ([]:aWd),(0:Y)])<|.br (ev.ek==(7:Y)) (.req h<|.rv (ev)<|.pa p<|.rl p.st<|.rl p.ca<|.rl p.mi<|.re i p.me<|.re j p.dm<|.re k p.lk<|.re l p.dr<|.re m p.tg<|.req (ajy (⟨p,ev⟩:O3))<|.br ((PK.Nl p ev.en) !=0) (.ok<|L9<|PK.Nl p ev.en)<|.rz p.cs<|.rz p.ls<|.rz p.fl<|.rz p.ra<|.rz (if PK.isC p ev.en=U then CY p.gs p.st ev.en 6 1 0 else p.st)<|.rz p.ca<|.rz p.mi<|.rz p.me<|.rz p.dm<|.rz p.lk<|.rz p.dr<|.rz p.tg<|.ok<|.AO [.agg [AR p.cs,p.os,p.ks,p.gs,p.bs,p.tk,p.up,AR p.ls,p.se,.xl (.int aw)<|AR p.fl,AR p.ra,p.nx,AR (if PK.isC p ev.en=U then CY p.gs p.st ev.en 6 1 0 else p.st),AR p.ca,AR p.mi,AR p.me,AR p.dm,AR p.lk,.xl A7<|AR p.dr,.xl A7<|AR p.tg],.xl A7 ([]:aWd),(0:Y)])<|.br (ev.ek==(8:Y)) (.req h<|.rv (ev)<|.pa p<|.rl p.st<|.rl p.ca<|.rl p.mi<|.re i p.me<|.re j p.dm<|.re k p.lk<|.re l p.dr<|.re m p.tg<|.req (ak5 (⟨p,ev⟩:Mk))<|.br ((PK.I4 p ev.en ev.em) !=0) (.ok<|L9<|PK.I4 p ev.en ev.em)<|.rz p.cs<|.rz p.ls<|.rz p.fl<|.rz p.ra<|.rz p.st<|.rz p.ca<|.rz p.mi<|.rz p.me<|.rz p.dm<|.rz p.lk<|.rz p.dr<|.rz (if PK.I4 p ev.en ev.em=1 then p.tg else p.tg.set ev.en.toNat ev.em)<|.ok<|.AO [.agg [AR p.cs,p.os,p.ks,p.gs,p.bs,p.tk,p.up,AR p.ls,p.se,.xl (.int aw)<|AR p.fl,AR p.ra,p.nx,AR p.st,AR p.ca,AR p.mi,AR p.me,AR p.dm,AR p.lk,.xl A7<|AR p.dr,.xl A7<|AR (if PK.I4 p ev.en ev.em=1 then p.tg else p.tg.set ev.en.toNat ev.em)],.xl A7 ([]:aWd),(0:Y)])<|.ok<|L9 9):=AU
def Wu:=vo (S:=aIs) func9 ft aTI (λargs lv h=>by
 refine ⟨?_⟩;unfold aIs at h;split at h
 ·split at h
  case h_2=>cases h
  rename_i p hp;obtain rfl:=WV hp;split at h
  case h_2=>cases h
  rename_i ev hev;obtain rfl:=auo hev;simp only [canL,canX];rw [asL];obtain ⟨hJ,rfl⟩:=h;obtain ⟨⟨hV,hR⟩,hK,hl⟩:=id hJ
  have hv:=QP.2 hV
  have hs:=DK.1 hV.site
  have hlb:=hJ.lb
  have D:kM ⟨p⟩:=hlb
  have hlk:=hlb.lk
  refine ⟨A0,λc=>?_,λ_=>?_⟩
  ·rw [hv] at c
   cases c
  refine ⟨λc1=>?_,λc1=>?_⟩
  ·have c1:ev.ek=1:=eq_of_beq c1
   obtain ⟨s1,s2⟩:=aCp hv c1;refine ⟨⟨D,rfl,rfl⟩,rfl,?_⟩
   repeat (refine ⟨Dh,?_⟩)
   refine ⟨⟨hJ,rfl,rfl⟩,λc=>?_,λc=>?_⟩
   ·exact QD
   ·have c:=Dz c
    repeat (refine ⟨MF,?_⟩)
    show _=_
    rw [(s2 c).1,(s2 c).2,s1,c];simp only [Fs];rw [show tkO p ev=_ from LW c,AD trivial]
  refine ⟨λc1=>?_,λc2=>?_⟩
  ·have c1:ev.ek=2:=eq_of_beq c1
   obtain ⟨s1,s2⟩:=aLQ hv c1;refine ⟨⟨D,rfl,rfl⟩,rfl,?_⟩
   repeat (refine ⟨Dh,?_⟩)
   refine ⟨⟨⟨hV.st,aL,hV.ca,hV.mi,hV.dm⟩,rfl,rfl⟩,λc=>?_,λc=>?_⟩
   ·exact QD
   ·have c:=Dz c
    repeat (refine ⟨Dh,?_⟩)
    show _=_
    rw [(s2 c).1,(s2 c).2,s1,c];simp only [Fs];rw [show acy p ev=_ from LW c]
  refine ⟨λc1=>?_,λc3=>?_⟩
  ·have c1:ev.ek=3:=eq_of_beq c1
   obtain ⟨s1,s2⟩:=aLP hv c1;refine ⟨⟨D,rfl,rfl⟩,rfl,?_⟩
   repeat (refine ⟨Dh,?_⟩)
   refine ⟨⟨⟨hV.st,aL,hV.ca,hV.mi,hV.dm⟩,rfl,rfl⟩,λc=>?_,λc=>?_⟩
   ·exact QD
   ·have c:=Dz c
    repeat (refine ⟨Dh,?_⟩)
    show _=_
    rw [(s2 c).1,(s2 c).2,s1,c];simp only [Fs];rw [show acz p ev=_ from LW c]
  refine ⟨λc1=>?_,λc4=>?_⟩
  ·have c1:ev.ek=4:=eq_of_beq c1
   obtain ⟨s1,s2⟩:=aLO hv c1;refine ⟨⟨D,rfl,rfl⟩,rfl,?_⟩
   repeat (refine ⟨Dh,?_⟩)
   refine ⟨⟨⟨aL,hlk⟩,rfl,rfl⟩,λc=>?_,λc=>?_⟩
   ·exact QD
   ·have c:=Dz c
    repeat (refine ⟨Dh,?_⟩)
    show _=_
    rw [(s2 c).1,(s2 c).2,s1,c];simp only [Fs];rw [show ad5 p ev=_ from LW c]
  refine ⟨λc1=>?_,λc5=>?_⟩
  ·have c1:ev.ek=5:=eq_of_beq c1
   obtain ⟨s1,s2⟩:=aCo hv c1;refine ⟨⟨D,rfl,rfl⟩,rfl,?_⟩
   repeat (refine ⟨Dh,?_⟩)
   refine ⟨⟨ak,rfl,rfl⟩,λc=>?_,λc=>?_⟩
   ·exact QD
   ·have c:=Dz c
    repeat (refine ⟨Dh,?_⟩)
    show _=_
    rw [(s2 c).1,(s2 c).2,s1,c];simp only [Fs];rw [show acw p ev=_ from LW c]
  refine ⟨λc1=>?_,λc6=>?_⟩
  ·have c1:ev.ek=6:=eq_of_beq c1
   obtain ⟨s1,s2⟩:=aCn hv c1;refine ⟨⟨D,rfl,rfl⟩,rfl,?_⟩
   repeat (refine ⟨Dh,?_⟩)
   refine ⟨⟨⟨hR.fl.2.2,aL⟩,rfl,rfl⟩,λc=>?_,λc=>?_⟩
   ·exact QD
   ·have c:=Dz c
    repeat (refine ⟨Dh,?_⟩)
    show _=_
    rw [(s2 c).1,(s2 c).2,s1,c];simp only [Fs];rw [show adC p ev=_ from LW c]
  refine ⟨λc1=>?_,λc7=>?_⟩
  ·have c1:ev.ek=7:=eq_of_beq c1
   obtain ⟨s1,s2⟩:=aLN hv c1;refine ⟨⟨D,rfl,rfl⟩,rfl,?_⟩
   repeat (refine ⟨Dh,?_⟩)
   refine ⟨⟨⟨hV.st,aL⟩,rfl,rfl⟩,λc=>?_,λc=>?_⟩
   ·exact QD
   ·have c:=Dz c
    have hc:p.isC ev.en=true:=by
     cases e:p.isC ev.en
     ·unfold PK.Nl at c
      rw [AD e] at c;cases c
     ·rfl
    repeat (refine ⟨Dh,?_⟩)
    show _=_
    rw [(s2 c).1,(s2 c).2,s1,c];simp only [Fs];rw [AD hc];rfl
  refine ⟨λc1=>?_,λc8=>?_⟩
  ·have c1:ev.ek=8:=eq_of_beq c1
   obtain ⟨s1,s2⟩:=aLM hv c1;refine ⟨⟨D,rfl,rfl⟩,rfl,?_⟩
   repeat (refine ⟨Dh,?_⟩)
   refine ⟨⟨hV,rfl,rfl⟩,λc=>?_,λc=>?_⟩
   ·exact QD
   ·have c:=Dz c
    repeat (refine ⟨Dh,?_⟩)
    show _=_
    rw [(s2 c).1,(s2 c).2,s1,c];simp only [Fs];rw [AE Ab];rfl
  have e:=aLL (ev:=ev) hv ⟨CQ.1 c1,CQ.1 c2,CQ.1 c3,CQ.1 c4,CQ.1 c5,CQ.1 c6,CQ.1 c7,CQ.1 c8⟩
  show L9 _=_
  rw [(oK (by rw [e];decide)).1,(oK (by rw [e];decide)).2,e]
  rfl
 ·cases h)
structure OA where
 (k0 k i Hu:Y)
 Hs:aWx
 W3:Y
 Fq:aWx
 apl:Y
 o:aWd
def zw (s:OA):T (Rd OA):=letI a:=(s.o.set s.i.toNat (255:Y));.br (an<|s.i<s.k) (.ik s.i (M s.o)<|.re (M s.o) a<|.nx {s with i:=AA<|s.i+1,o:=a})<|.rl s.o<|.so (.exit 0) s
def kF (s:OA):Prop:=s.i=0/\s.k=(M s.o:Y)/\s.k<=4096
def jb (s:OA):Prop:=0<=s.i/\s.i<=s.k/\s.o.take s.i.toNat=aq s.i.toNat 255/\s.k=(M s.o:Y)/\s.k<=4096
def th (s:OA):aWe:=(s.k-s.i).toNat
def abv (x:Ex) (s s':OA):Prop:=True
def an3:∀s,kF s->jb s:=by
 rintro s ⟨h0,h2,h3⟩
 exact ⟨A0,A0,GD,h2,h3⟩
def aiV:Da jb th abv zw:=by
 intro s hI;obtain ⟨h0,h1,hq,h2,h3⟩:=hI;refine AH (λc1=>?_) λc1=>trivial
 have c1:s.i<s.k:=A8
 rw [AJ (x:=s.i+1)];refine ⟨⟨A8,A8,?_,A8,h3⟩,by simp only [th];omega⟩
 rw [show (s.i+1).toNat=s.i.toNat+1 by omega,Zi A8,List.take_set_of_le<|At _,hq,List.getElem_set_self,lT]
def Z4:AS OA:=⟨1,43,[4,5,6,33,34],[],λs=>[.own 1 0,s.k0,.own 2 0,s.k,s.i],λs=>[⟨[s.Hu,.v<|s.Hs],36,.cl,X⟩,⟨[s.W3,.v<|s.Fq],36,.cl,X⟩,⟨[s.apl,.os 3 1 0<|M s.o],36,.cl,X⟩,bV 5 (.int aw) s.o],λv b=>⟨AK v 1,AK v 3,AK v 4,Aj b 0 0,H8<|BF (CW b 0) 1,Aj b 1 0,H8<|BF (CW b 1) 1,Aj b 2 0,Ac (.int aw) b 3⟩,zw,λs r=> {s with i:=r.i,o:=r.o},λs=>s,λ_ s=>s,[.exit 0],kF,jb,th⟩
abbrev Od:=Z4.run
abbrev aJZ:=Z4.As
def Wy:aWp:=[zW]
def ahJ:B1:=kI Wy<|l0 Wy
def azl:Rq jb zw:=by
 intro s hI;refine ⟨λc1=>⟨?_,?_,?_,ak⟩,λc1=>⟨A9,ak⟩⟩
 all_goals ((obtain ⟨h0,h1,hq,h2,h3⟩:=hI;(try simp only [Aa] at c1);first|omega|exact ⟨rfl,AI⟩))
def aSe:Z4.Ok:={}
def aQQ:Z4.Pf (abv):=⟨an3,λs h=>rfl,aiV,azl⟩
def arX:=s2 (b:=bN f101 0) aSe aQQ Wy ahJ
def atW:Rs kF aJZ Od (λs:OA=>aq s.k.toNat 255) (λx s' (v:aWd)=>x=.exit 0/\s'.o=v):=DU aSe aQQ (λs hI=>by
  obtain ⟨h0,h1,hq,h2,h3⟩:=hI;refine AH (λc1=>rfl) λc1=>⟨rfl,?_⟩
  have c1:s.k<=s.i:=A8
  rw [show s.i.toNat=s.k.toNat by omega,De A0] at hq
  exact hq)
def aUH:aWf->T LV
 | [.v (ag J a),.v (ag J b)]=> .req (a=512/\b=4) (.ok<|.AO [.agg [(512:Y),.xl (.int aw) Ds],(0:Y)])
 |_=> .no
def Jl (a b:Y):OA:=(⟨0,(((AA<|a*b).toNat:aWe):Y),0,0,.slice aj 0 0,0,.slice aj 0 0,a,aq (AA<|a*b).toNat (0:Y)⟩:OA)
def ahI:B1:=kI Wy<|la 5 func101 arX<|l0 Wy
def atm:M Ds=2048:=MF
def atn:BI [80,0,0,0,0] (aq (Int.toNat 2048) 255)=Ds:=by
 have h4:D6 0=[0,0,0,0]:=Ab
 have hp:BR []=[]:=rfl
 unfold BI Ds Dc;rw [h4,hp,List.drop_replicate,EX,Ct,xK]
 congr 1
def akf:=vo (S:=aUH) func74 Wy ahI (λargs lv h=>by
 unfold aUH at h;split at h
 ·rename_i a b
  refine Aq (letI d:=Od<|Jl a b;letI e:=(FD (0:Y) ([]:aWd));letI f:=AA<|a*b;letI g:=(BI ([(80:Y),(0:Y),(0:Y),(0:Y),(0:Y)]) d.o);letI i:=M d.o;.br (an<|a<1) (.br (((1:Y) !=0) ||(! e)) (.ok<|.AO [.agg [(0:Y),.xl (.int aw) ([]:aWd)],(1:Y)])<|.no /-copy to v -/)<|.br (an<|a>512) (.br (((1:Y) !=0) ||(! e)) (.ok<|.AO [.agg [(0:Y),.xl (.int aw) ([]:aWd)],(1:Y)])<|.no /-copy to v -/)<|.br (an<|b<1) (.br (((1:Y) !=0) ||(! e)) (.ok<|.AO [.agg [(0:Y),.xl (.int aw) ([]:aWd)],(1:Y)])<|.no /-copy to v -/)<|.req (a≠0)<|.br (an<|b>(AA<|(4096:Y).tdiv a)) (.br (((1:Y) !=0) ||(! e)) (.ok<|.AO [.agg [(0:Y),.xl (.int aw) ([]:aWd)],(1:Y)])<|.no /-copy to v -/)<|.req (0<=f/\f<=f/\1*f<=2^48/\f<2^63)<|.req (0=0/\f.toNat=M (aq f.toNat (0:Y)))<|.req (Z4.q<|Jl a b)<|.br ((0:Y) !=0) (.ok<|.AO [.agg [(0:Y),.xl (.int aw) ([]:aWd)],(1:Y)])<|.req (0+i<=M d.o)<|.br (!(FD a<|(d.o.drop 0).take i)) (.ok<|.AO [.agg [(0:Y),.xl (.int aw) ([]:aWd)],(1:Y)])<|.req (M d.o=M d.o/\M ([(80:Y),(0:Y),(0:Y),(0:Y),(0:Y)])<=M d.o)<|.req (0+i<=M g)<|.ok<|.AO [.agg [a,.xl (.int aw)<|(g.drop 0).take i],(0:Y)]) ?_;obtain ⟨⟨rfl,rfl⟩,rfl⟩:=h
  have hw:AA (512*4)=2048:=Ab
  have hk:(Jl 512 4).k=2048:=MF
  have hl:M (Jl 512 4).o=2048:=MF
  have hV:kF (Jl 512 4):=⟨rfl,by rw [hk,hl];rfl,by rw [hk];decide⟩
  have q:aJZ (Jl 512 4)=.exit 0/\(Od<|Jl 512 4).o=aq (Jl 512 4).k.toNat 255:=atW _ hV
  rw [hk] at q
  have hL:M (Od<|Jl 512 4).o=2048:=by rw [q.2,Ci];rfl
  have hT:(((Od<|Jl 512 4).o).drop 0).take (M (Od<|Jl 512 4).o)=(Od<|Jl 512 4).o:=AI
  have hJ:FD 512 (Od<|Jl 512 4).o=true:=MQ.2 ⟨NU.2 (by rw [hL];decide),by rw [hL];decide,A0,A0,Ab⟩
  have hC:BI [80,0,0,0,0] (Od<|Jl 512 4).o=Ds:=by rw [q.2];exact atn
  rw [hw,hT,hJ,hC,hL]
  have hj:=atm
  refine ⟨λc=>Em,λ_=>⟨λc=>Em,λ_=>⟨λc=>Em,λ_=>⟨Ab,λc=>Em,λ_=>⟨Ab,by rw [Ci];decide,⟨hV,rfl,rfl⟩,λc=>Em,λ_=>⟨Ab,λc=>Em,λ_=>⟨⟨rfl,Ab⟩,by rw [hj];decide,?_⟩⟩⟩⟩⟩⟩⟩
  rfl
 ·cases h)
def aUc:aWf->T LV
 | []=> .ok (.AO [.agg [(512:Y),.xl (.int aw) Ds],(0:Y)])
 |_=> .no
def aiI:aWp:=[akf]
def zR:=vo (S:=aUc) func36 aiI kN (λargs lv h=>by
 refine ⟨?_⟩;unfold aUc at h;split at h
 ·simp only [canL]
  obtain rfl:=h;exact ⟨A9,rfl⟩
 ·cases h)
structure PQ where
 ai9:aWd
 e:Y
 l:aWd
 (m i:Y)
 BG:aWl
 Bf:aWg
 C4:aWr
 BQ:aWh
 C5:aWs
def aHG:=bN f13 0
def aAK (s:PQ):T (Rd PQ):=
 .br (an<|s.i<s.m) (.ix s.i (M s.l)<|.br (!(inB (gi s.l s.i) (-200) 200)) (.so (.ret) {s with e:=(1:Y)})<|.nx {s with i:=AA<|s.i+1}) (.so (.exit 0) s)
def lI (s:PQ):Prop:=(s.i=0/\s.m=(M s.l:Y))/\s.m<=1000/\s.e=0
def YE (s:PQ):Prop:=(0<=s.i/\s.m=(M s.l:Y))/\s.m<=1000/\s.e=0/\∀j:aWe,(j:Y)<s.i->inB (gi s.l j) (-200) 200=U
def uG (s:PQ):aWe:=(s.m-s.i).toNat
def aC5 (x:Ex) (s s':PQ):Prop:=(x=.exit 0/\s'.e=0/\s'.l.all (λx=>inB x (-200) 200)=U)\/(x=.ret/\s'.e=1/\s'.l.all (λx=>inB x (-200) 200)=X)
def akx:∀s,lI s->YE s:=by
 rintro s ⟨⟨h0,h1⟩,h2,h3⟩
 exact ⟨⟨A0,h1⟩,h2,h3,λj hj=>A0⟩
def agZ:Da YE uG aC5 aAK:=by
 intro s hI;obtain ⟨⟨h0,h1⟩,h2,h3,h4⟩:=hI
 have key:s.l.all (λx=>inB x (-200) 200)=Dp (M s.l) (λk=>inB (gi s.l k) (-200) 200):=(qa (f:=λx=>inB x (-200) 200)).symm
 refine AH (λc1=>AH (λc2=>?_) λc2=>?_) λc1=>?_
 ·have c1:s.i<s.m:=AX
  refine .inr ⟨rfl,rfl,?_⟩;rw [key];exact Qe s.i.toNat A0 A8
 ·have c1:s.i<s.m:=A8
  have c2:=(IK _).mp c2
  rw [AJ (x:=s.i+1)];refine ⟨⟨⟨A8,h1⟩,h2,h3,λj hj=>?_⟩,by simp only [uG];omega⟩
  by_cases e:(j:Y)<s.i
  ·exact h4 j e
  ·rw [show (j:Y)=s.i by grind]
   exact c2
 ·have c1:s.m<=s.i:=A8
  exact .inl ⟨rfl,h3,by rw [key];exact Dx.2 λj hj=>h4 j A0⟩
def RI:AS PQ:=⟨0,105,[1,2,4,5,27,28,29],[],λs=>[.xl A7 s.ai9,.own 0 0,.own 1 0,s.e,.xl A7 s.l,s.m,s.i],λs=>[⟨[s.BG,s.Bf,s.C4,s.BQ,s.C5],28,.cl,X⟩,zB],λv b=>⟨Az A7 v 0,AK v 3,Az A7 v 4,AK v 5,AK v 6,AF Af b 0 0,AF .str b 0 1,AF Al b 0 2,AF Ah b 0 3,AF Am b 0 4⟩,aAK,λs r=> {s with e:=r.e,i:=r.i},λs=>s,λ_ s=>s,[.ret,.exit 0],lI,YE,uG⟩
abbrev WQ:=RI.run
abbrev eU:=RI.As
def ay2:Rq YE aAK:=by
 exact aMB
def XN:aWp:=[P5,iM,fg,zR,WN]
def um:B1:=kI XN<|la 11 func46 TP<|la 6 func46 Qd<|la 3 func73 Ot<|la 2 func45 NT<|la 1 func44 MO<|la 2 func53 LO<|la 9 func30 Cu<|l0 XN
def aSS:RI.Ok:={}
def aQk:RI.Pf (aC5):=⟨akx,λs h=>rfl,agZ,ay2⟩
def asE:SA 0 aHG RI:=s1 aSS aQk XN um
def asZ:Fi lI YE aC5 eU WQ:=AS.fin aSS aQk
structure PO where
 (e n i:Y)
 BG:aWl
 Bf:aWg
 C4:aWr
 BQ:aWh
 C5:aWs
 ss:aWl
 p1:aWg
 p2:aWr
 p3:aWh
 p4:aWs
 (p9 T9:aWd)
 ra:aWJ
 st:aWE
 ca:aWn
 mi:aWY
 me:aW2
 dm:aWB
def aHF:=bN f13 1
def aAJ (s:PO):T (Rd PO):=letI a:=(X,((0:Y),((0:Y),(9:Y))));letI b:=((AA<|s.i+1),((0:Y),X));letI c:=(s.st++([((0:Y),((0:Y),((0:Y),X)))]));.br (an<|s.i<s.n) (.rb (M s.st) (M<|[((0:Y),((0:Y),((0:Y),X)))]) 32<|.rb (M s.me) (M<|[b]) 24<|.rb (M s.dm) (M<|[a]) 32<|.rl s.ra<|.re (M s.st+M ([((0:Y),((0:Y),((0:Y),X)))])) c<|.rl s.ca<|.rl s.mi<|.re (M s.me+M ([b])) (s.me++([b]))<|.re (M s.dm+M ([a])) (s.dm++([a]))<|.nx {s with i:=AA<|s.i+1,st:=c,me:=s.me++([b]),dm:=s.dm++([a])})<|.rl s.ra<|.rl s.st<|.rl s.ca<|.rl s.mi<|.rl s.me<|.rl s.dm<|.so (.exit 2) s
def lH (s:PO):Prop:=s.i=0/\(s.n<=1000/\0<=s.n)/\s.st=[]/\s.me=[]/\s.dm=[]
def YD (s:PO):Prop:=(0<=s.i/\s.i<=s.n)/\(s.n<=1000/\0<=s.n)/\s.st=aq s.i.toNat (0,0,0,X)/\s.me=(Fy s.i.toNat).map (λk=>(k+1,0,X))/\s.dm=aq s.i.toNat (X,0,0,9)
def uF (s:PO):aWe:=(s.n-s.i).toNat
def aC4 (x:Ex) (s s':PO):Prop:=x=.exit 2/\s'.st=aq s'.n.toNat (0,0,0,X)/\s'.me=(Fy s'.n.toNat).map (λk=>(k+1,0,X))/\s'.dm=aq s'.n.toNat (X,0,0,9)
def akw:∀s,lH s->YD s:=by
 rintro s ⟨h0,h1,h2,h3,h4⟩
 refine ⟨A0,h1,?_,?_,?_⟩
 ·simp_all
 ·rw [h3,h0];rfl
 ·simp_all
def agY:Da YD uF aC4 aAJ:=by
 intro s hI;obtain ⟨⟨h0,h1⟩,h2,h3,h4,h5⟩:=hI;refine AH (λc1=>?_) λc1=>?_
 ·have c1:s.i<s.n:=A8
  rw [AJ (x:=s.i+1)]
  have e:(s.i+1).toNat=s.i.toNat+1:=A0
  refine ⟨⟨⟨A8,A8⟩,h2,?_,?_,?_⟩,by simp only [uF];omega⟩
  ·show s.st++[_]=aq (s.i+1).toNat _
   rw [e,h3,lT]
  ·show s.me++[_]=(Fy (s.i+1).toNat).map _
   rw [e,h4,aF2,KD,CP h0];rfl
  ·show s.dm++[_]=aq (s.i+1).toNat _
   rw [e,h5,lT]
 ·have c1:s.n<=s.i:=A8
  have e:s.i=s.n:=A0
  rw [e] at h3 h4 h5;exact ⟨rfl,h3,h4,h5⟩
def RH:AS PO:=⟨0,105,[2,4,5,11,63,64],[.ns 11 12 107 B7,.ns 11 15 110 BS,.ns 11 16 59 Aw],λs=>[.own 0 0,.own 1 0,s.e,.own 2 0,s.n,s.i],λs=>[⟨[s.BG,s.Bf,s.C4,s.BQ,s.C5],28,.cl,X⟩,zB,⟨[s.ss,s.p1,s.p2,s.p3,s.p4,(0:Y),U,.v<|.slice aj 0 0,(512:Y),.xl (.int aw) s.p9,.os 3 2 0<|M s.ra,(1:Y),.os 4 4 0<|M s.st,.os 5 5 0<|M s.ca,.os 6 3 0<|M s.mi,.os 7 3 0<|M s.me,.os 8 4 0<|M s.dm,.v<|.slice aj 0 0,.xl A7 s.T9,.v<|.slice aj 0 0],47,.cl,X⟩,bV 139 Ap s.ra,bV 107 B7 s.st,bV 57 AQ s.ca,bV 123 B9 s.mi,bV 110 BS s.me,bV 59 Aw s.dm],λv b=>⟨AK v 2,AK v 4,AK v 5,AF Af b 0 0,AF .str b 0 1,AF Al b 0 2,AF Ah b 0 3,AF Am b 0 4,AF Af b 2 0,AF .str b 2 1,AF Al b 2 2,AF Ah b 2 3,AF Am b 2 4,AF (.int aw) b 2 9,AF A7 b 2 18,Ac Ap b 3,Ac B7 b 4,Ac AQ b 5,Ac B9 b 6,Ac BS b 7,Ac Aw b 8⟩,aAJ,λs r=> {s with i:=r.i,st:=r.st,me:=r.me,dm:=r.dm},λs=>s,λ_ s=>s,[.exit 2],lH,YD,uF⟩
abbrev NH:=RH.run
abbrev av9:=RH.As
def ay1:Rq YD aAJ:=by
 intro s hI;refine ⟨λc1=>⟨?_,?_,?_,A9,?_,A9,A9,?_,?_,ak⟩,λc1=>⟨A9,A9,A9,A9,A9,A9,ak⟩⟩
 all_goals ((obtain ⟨⟨h0,h1⟩,h2,h3,h4,h5⟩:=hI;have l1:M s.st=s.i.toNat:=A8;have l2:M s.me=s.i.toNat:=(by rw [h4];simp [Om]);have l3:M s.dm=s.i.toNat:=A8;simp only [Aa] at c1;first|(simp only [Bj,Bt];omega) |(simp only [BL,Bj,Bt,FR];done) |exact ⟨rfl,AI⟩))
def aSR:RH.Ok:={}
def aQj:RH.Pf (aC4):=⟨akw,λs h=>rfl,agY,ay1⟩
def asD:SA 0 aHF RH:=s1 aSR aQj XN um
def asY:Fi lH YD aC4 av9 NH:=AS.fin aSR aQj
structure PN where
 e:Y
 l:aWl
 (n i:Y)
 ss:aWl
 p1:aWg
 p2:aWr
 p3:aWh
 p4:aWs
 (p9 T9:aWd)
 ra:aWJ
 st:aWE
 ca:aWn
 mi:aWY
 me:aW2
 dm:aWB
 tg:aWd
def aHE:=bN f13 2
def aAI (s:PN):T (Rd PN):=letI a:=Ae s.l s.i;.br (an<|s.i<s.n) (.ix s.i (M s.l)<|.rb (M s.tg) (M<|[a.2.2.1]) 8<|.rl s.ra<|.rl s.st<|.rl s.ca<|.rl s.mi<|.rl s.me<|.rl s.dm<|.re (M s.tg+M ([a.2.2.1])) (s.tg++([a.2.2.1]))<|.nx {s with i:=AA<|s.i+1,tg:=s.tg++([a.2.2.1])})<|.rl s.ra<|.rl s.st<|.rl s.ca<|.rl s.mi<|.rl s.me<|.rl s.dm<|.rl s.tg<|.so (.exit 4) s
def lG (s:PN):Prop:=s.i=0/\(s.n=(M s.l:Y)/\s.n<=1000)/\s.tg=[]
def YC (s:PN):Prop:=(0<=s.i/\s.i<=s.n)/\(s.n=(M s.l:Y)/\s.n<=1000)/\s.tg=(s.l.take s.i.toNat).map (λc=>c.2.2.1)
def uD (s:PN):aWe:=(s.n-s.i).toNat
def aC3 (x:Ex) (s s':PN):Prop:=x=.exit 4/\s'.tg=s'.l.map (λc=>c.2.2.1)
def akv:∀s,lG s->YC s:=by
 rintro s ⟨h0,h1,h2⟩
 exact ⟨A0,h1,GD⟩
def agW:Da YC uD aC3 aAI:=by
 intro s hI;obtain ⟨⟨h0,h1⟩,⟨h2,h3⟩,h4⟩:=hI;refine AH (λc1=>?_) λc1=>?_
 ·have c1:s.i<s.n:=A8
  rw [AJ (x:=s.i+1)]
  have e:(s.i+1).toNat=s.i.toNat+1:=A0
  refine ⟨⟨⟨A8,A8⟩,⟨h2,h3⟩,?_⟩,by simp only [uD];omega⟩
  show s.tg++[_]=(s.l.take (s.i+1).toNat).map _
  have e2:Ae s.l s.i=s.l[s.i.toNat]' A0:=by
   have:=Qj (cs:=s.l) (k:=s.i.toNat) A0
   exact this
  rw [e,h4,Zi A0,KD,e2];rfl
 ·have c1:s.n<=s.i:=A8
  refine ⟨rfl,?_⟩;rw [h4,De A0]
def S3:AS PN:=⟨0,105,[4,5,11,89,90,91],[.ns 11 19 3 A7],λs=>[.own 0 0,s.e,.own 1 0,s.l,s.n,s.i],λs=>[zB,⟨[s.ss,s.p1,s.p2,s.p3,s.p4,(0:Y),U,.v<|.slice aj 0 0,(512:Y),.xl (.int aw) s.p9,.os 2 2 0<|M s.ra,(1:Y),.os 3 4 0<|M s.st,.os 4 5 0<|M s.ca,.os 5 3 0<|M s.mi,.os 6 3 0<|M s.me,.os 7 4 0<|M s.dm,.v<|.slice aj 0 0,.xl A7 s.T9,.os 8 1 0<|M s.tg],47,.cl,X⟩,bV 139 Ap s.ra,bV 107 B7 s.st,bV 57 AQ s.ca,bV 123 B9 s.mi,bV 110 BS s.me,bV 59 Aw s.dm,bV 3 A7 s.tg],λv b=>⟨AK v 1,Az Af v 3,AK v 4,AK v 5,AF Af b 1 0,AF .str b 1 1,AF Al b 1 2,AF Ah b 1 3,AF Am b 1 4,AF (.int aw) b 1 9,AF A7 b 1 18,Ac Ap b 2,Ac B7 b 3,Ac AQ b 4,Ac B9 b 5,Ac BS b 6,Ac Aw b 7,Ac A7 b 8⟩,aAI,λs r=> {s with i:=r.i,tg:=r.tg},λs=>s,λ_ s=>s,[.exit 4],lG,YC,uD⟩
abbrev cJ:=S3.run
abbrev av8:=S3.As
def ay0:Rq YC aAI:=by
 intro s hI;refine ⟨λc1=>⟨?_,?_,A9,A9,A9,A9,A9,A9,?_,ak⟩,λc1=>⟨A9,A9,A9,A9,A9,A9,A9,ak⟩⟩
 all_goals ((obtain ⟨⟨h0,h1⟩,⟨h2,h3⟩,h4⟩:=hI;have l1:M s.tg=s.i.toNat:=A8;simp only [Aa] at c1;first|omega|(simp only [Bj,Bt];omega) |(simp only [BL,Bj,Bt,FR];done)))
def aSQ:S3.Ok:={}
def aQi:S3.Pf (aC3):=⟨akv,λs h=>rfl,agW,ay0⟩
def asB:SA 0 aHE S3:=s1 aSQ aQi XN um
def asX:Fi lG YC aC3 av8 cJ:=AS.fin aSQ aQi
structure O0 where
 (n i:Y)
 sG:aWl
 b11:aWg
 b12:aWr
 b13:aWh
 b14:aWs
 (b19 aE0:aWd)
 b2:aWJ
 b3:aWE
 b4:aWn
 b5:aWY
 b6:aW2
 b7:aWB
 b8:aWd
 p1:aWg
 p2:aWr
 p3:aWh
 p4:aWs
 T9:aWd
 V2:aWl
 nk:aWn
 nj:aWd
 ni:aWJ
 b15:aWE
 b16:aWn
 o:aWY
def aAH (s:O0):T (Rd O0):=letI a:=s.o.getD s.i.toNat<|Ty.dflt B9;.br (an<|s.i<s.n) (.ik s.i (M s.o)<|.req (M a.1<=100000000)<|.ik s.i (M s.o)<|.rl s.b2<|.rl s.b3<|.rl s.b4<|.rl s.b5<|.rl s.b6<|.rl s.b7<|.rl s.b8<|.rl s.V2<|.rl s.nk<|.rl s.nj<|.rl s.ni<|.rl s.b15<|.rl s.b16<|.re (M s.o) (s.o.set s.i.toNat a)<|.rl s.b6<|.rl s.b7<|.rl s.b8<|.nx {s with i:=AA<|s.i+1,o:=s.o.set s.i.toNat a})<|.rl s.b2<|.rl s.b3<|.rl s.b4<|.rl s.b5<|.rl s.b6<|.rl s.b7<|.rl s.b8<|.rl s.V2<|.rl s.nk<|.rl s.nj<|.rl s.ni<|.rl s.b15<|.rl s.b16<|.rl s.o<|.rl s.b6<|.rl s.b7<|.rl s.b8<|.so (.exit 0) s
def lF (s:O0):Prop:=s.i=0/\s.n=(M s.o:Y)/\s.n<=1000/\∀m∈s.o,M m.1<=1000
def jV (s:O0):Prop:=0<=s.i/\s.i<=s.n/\s.n=(M s.o:Y)/\s.n<=1000/\∀m∈s.o,M m.1<=1000
def uC (s:O0):aWe:=(s.n-s.i).toNat
def abm (x:Ex) (s s':O0):Prop:=True
def alT:∀s,lF s->jV s:=by
 exact aNR
def agV:Da jV uC abm aAH:=by
 intro s hI;obtain ⟨h0,h1,h2,h3,h4⟩:=hI;refine AH (λc1=>?_) λc1=>trivial
 ·have c1:s.i<s.n:=A8
  have e:=set_self (l:=s.o) (i:=s.i.toNat) (d:=Ty.dflt B9) A0
  rw [AJ (x:=s.i+1),e];exact ⟨⟨A8,A8,h2,h3,h4⟩,by simp only [uC];omega⟩
def UP:AS O0:=⟨9,82,[1,2,44,45],[],λs=>[.own 9 0,.own 10 0,s.n,s.i],λs=>[zB,⟨[s.sG,s.b11,s.b12,s.b13,s.b14,(0:Y),U,.v<|.slice aj 0 0,(512:Y),.xl (.int aw) s.b19,.os 2 2 0<|M s.b2,(1:Y),.os 3 4 0<|M s.b3,.os 4 5 0<|M s.b4,.os 5 3 0<|M s.b5,.os 6 3 0<|M s.b6,.os 7 4 0<|M s.b7,.v<|.slice aj 0 0,.xl A7 s.aE0,.os 8 1 0<|M s.b8],47,.cl,X⟩,bV 139 Ap s.b2,bV 107 B7 s.b3,bV 57 AQ s.b4,bV 123 B9 s.b5,bV 110 BS s.b6,bV 59 Aw s.b7,bV 3 A7 s.b8,⟨[.os 11 11 0<|M s.V2,s.p1,s.p2,s.p3,s.p4,(0:Y),U,.os 12 5 0<|M s.nk,(512:Y),.os 13 1 0<|M s.nj,.os 14 2 0<|M s.ni,(1:Y),.os 15 4 0<|M s.b15,.os 16 5 0<|M s.b16,.os 17 3 0<|M s.o,.os 6 3 0<|M s.b6,.os 7 4 0<|M s.b7,.v<|.slice aj 0 0,.xl A7 s.T9,.os 8 1 0<|M s.b8],47,.cl,X⟩,zB,bV 79 Af s.V2,bV 65 AQ s.nk,bV 5 (.int aw) s.nj,bV 139 Ap s.ni,bV 107 B7 s.b15,bV 57 AQ s.b16,bV 123 B9 s.o],λv b=>⟨AK v 2,AK v 3,AF Af b 1 0,AF .str b 1 1,AF Al b 1 2,AF Ah b 1 3,AF Am b 1 4,AF (.int aw) b 1 9,AF A7 b 1 18,Ac Ap b 2,Ac B7 b 3,Ac AQ b 4,Ac B9 b 5,Ac BS b 6,Ac Aw b 7,Ac A7 b 8,AF .str b 9 1,AF Al b 9 2,AF Ah b 9 3,AF Am b 9 4,AF A7 b 9 18,Ac Af b 11,Ac AQ b 12,Ac (.int aw) b 13,Ac Ap b 14,Ac B7 b 15,Ac AQ b 16,Ac B9 b 17⟩,aAH,λs r=> {s with i:=r.i,o:=r.o},λs=>s,λ_ s=>s,[.exit 0],lF,jV,uC⟩
abbrev dx:=UP.run
abbrev av7:=UP.As
def vr:aWp:=[P5,iM,fg,zR,WN,aVN]
def ah4:B1:=kI vr<|la 11 func46 TP<|la 6 func46 Qd<|la 3 func73 Ot<|la 2 func45 NT<|la 1 func44 MO<|la 2 func53 LO<|la 9 func30 Cu<|l0 vr
def ayZ:Rq jV aAH:=by
 intro s hI;refine ⟨λc1=>⟨?_,?_,?_,?_,?_,A9,A9,A9,A9,A9,A9,A9,A9,A9,A9,A9,A9,A9,?_,A9,A9,A9,ak⟩,λc1=>⟨A9,A9,A9,A9,A9,A9,A9,A9,A9,A9,A9,A9,A9,A9,A9,A9,A9,ak⟩⟩
 all_goals ((obtain ⟨h0,h1,h2,h3,h4⟩:=hI;(try simp only [Aa] at c1);first|omega|exact ⟨rfl,AI⟩ |exact ⟨rfl,rfl⟩ |exact HJ (h4 _<|getD_mem A0) Ab))
def aSP:UP.Ok:={}
def aQh:UP.Pf (abm):=⟨alT,λs h=>rfl,agV,ayZ⟩
def aIA:=s2 (b:=bN f30 0) aSP aQh vr ah4
def asW:Rs lF av7 dx (λs:O0=>s.o) (λx s' (v:aWY)=>x=.exit 0/\s'.o=v):=DU aSP aQh (λs hI=>by
  obtain ⟨h0,h1,h2,h3,h4⟩:=hI;refine AH (λc1=>?_) λc1=>⟨rfl,rfl⟩
  have c1:s.i<s.n:=A8
  have e:=set_self (l:=s.o) (i:=s.i.toNat) (d:=Ty.dflt B9) A0
  rw [e];exact rfl)
def aUx:aWf->T LV
 | .agg a::r=>s5 a λcs os ks gs bs=>(match r with
  | [.xl (.int J) dr]=> .req (M dr<=1000) (.ok<|.AO [newP cs os ks gs bs dr,DB cs os ks gs bs dr])
  |_=> .no)
 |_=> .no
def G7 {α:Type}(d:α) (l:List α):List α:=BI (AR l)<|aq (M l:Y).toNat d
def aTg {α:Type}(d:α) (l:List α):G7 d l=l:=by
 unfold G7;rw [Fs];exact Qh
def cpX {α:Type}(d:α) (l:List α):List α:=BI l<|aq (M l:Y).toNat d
def ajQ {α:Type}(d:α) (l:List α):cpX d l=l:=Qh
def cpN {α:Type}(d:α):List α:=BI []<|aq (0:Y).toNat d
def ajR {α:Type}(d:α):cpN d=[]:=rfl
def Ec {α:Type}(gs:aWh) (d:α):List α:=aq (M gs:Y).toNat d
def qX {α:Type}(gs:aWh) (d:α):Ec gs d=aq (M gs) d:=by
 unfold Ec
 grind
def zNV (e:Y):LV:=.AO [.agg [.xl Af ([]:aWl),.xl .str ([]:aWg),.xl Al ([]:aWr),.xl Ah ([]:aWh),.xl Am ([]:aWs),.v<|ag J 0,.v<|.bool X,.xl AQ ([]:aWn),.v<|ag J 0,.xl (.int aw) ([]:aWd),.xl Ap ([]:aWJ),.v<|ag J 0,.xl B7 ([]:aWE),.xl AQ ([]:aWn),.xl B9 ([]:aWY),.xl BS ([]:aW2),.xl Aw ([]:aWB),.xl BP ([]:aWN),.xl A7 ([]:aWd),.xl A7 ([]:aWd)],.v<|ag J e]
def np:Cd:=(ByteArray.empty,((0:Y),((0:Y),((0:Y),(((0:Y),(0:Y)),((0:Y),((0:Y),((0:Y),((0:Y),(0:Y))))))))))
def Jq:Le:=((0:Y),((0:Y),((0:Y),((0:Y),(0:Y)))))
def Nd:Ra:=((0:Y),(0:Y))
def aVE:St:=((0:Y),((0:Y),((0:Y),X)))
def aLl:Me:=((0:Y),((0:Y),X))
def aLn:Dm:=(X,((0:Y),((0:Y),(0:Y))))
def Kf:Mi:=(([]:aWd),((0:Y),(0:Y)))
def Px:Y:=(0:Y)
def aLm:Lk:=((0:Y),((0:Y),((0:Y),((0:Y),((0:Y),(0:Y))))))
def QQ (cs:aWl) (os:aWg) (ks:aWr) (gs:aWh) (bs:aWs) (dr:aWd):PQ:=(⟨dr,0,dr,(M dr:Y),0,cs,os,ks,gs,bs⟩:PQ)
def MG (cs:aWl) (os:aWg) (ks:aWr) (gs:aWh) (bs:aWs) (dr:aWd):PO:=(⟨(WQ<|QQ cs os ks gs bs dr).e,(M gs:Y),0,cs,os,ks,gs,bs,cs,os,ks,gs,bs,Ds,dr,Ec gs Nd,([]:aWE),Ec gs Jq,Ec gs Kf,([]:aW2),([]:aWB)⟩:PO)
def Vk (cs:aWl) (os:aWg) (ks:aWr) (gs:aWh) (bs:aWs) (dr:aWd):PN:=letI a:=NH<|MG cs os ks gs bs dr;(⟨(WQ<|QQ cs os ks gs bs dr).e,cs,(M cs:Y),0,cs,os,ks,gs,bs,Ds,dr,Ec gs Nd,a.st,Ec gs Jq,Ec gs Kf,a.me,a.dm,([]:aWd)⟩:PN)
def ou (cs:aWl) (os:aWg) (ks:aWr) (gs:aWh) (bs:aWs) (dr:aWd):O0:=letI a:=NH<|MG cs os ks gs bs dr;(⟨((((M (Ec gs Kf):aWe):Y).toNat:aWe):Y),0,cs,os,ks,gs,bs,Ds,dr,Ec gs Nd,a.st,Ec gs Jq,Ec gs Kf,a.me,a.dm,(cJ<|Vk cs os ks gs bs dr).tg,os,ks,gs,bs,dr,cpX np cs,cpN Jq,cpX Px Ds,G7 Nd<|Ec gs Nd,G7 aVE a.st,G7 Jq<|Ec gs Jq,G7 Kf<|Ec gs Kf⟩:O0)
def vq:aWp:=[P5,iM,fg,zR,WN]
def ah3:B1:=kI vq<|la 9 func30 aIA<|la 11 func46 TP<|la 6 func46 Qd<|la 3 func73 Ot<|la 2 func45 NT<|la 1 func44 MO<|la 2 func53 LO<|la 9 func30 Cu<|l0 vq
def zU:=vm (S:=aUx) func13 vq ah3 (L:=(λi=>if i=4 then RI.lp else if i=17 then RH.lp else if i=24 then S3.lp else Ak i)) (λb hb=>by
 rw [show BD _=[aHG,aHF,aHE] by kernel_rfl] at hb
 simp only [BA,Bu,Bs] at hb;rcases hb with rfl|rfl|rfl
 ·exact asE
 ·exact asD
 ·exact asB) (λargs lv h=>by
 unfold aUx at h;split at h
 case h_2=>cases h
 replace h:=IT h
 obtain ⟨cs,os,ks,gs,bs,rfl,h⟩:=h;split at h
 ·rename_i dr
  refine Aq (letI a:=NH<|MG cs os ks gs bs dr;letI b:=cJ<|Vk cs os ks gs bs dr;letI d:=Ec gs Nd;letI f:=Ec gs Jq;letI g:=(M gs:Y);letI j:=((M a.me:aWe):Y);letI l:=((M a.dm:aWe):Y);letI n:=((M b.tg:aWe):Y);letI p:=Ec gs Kf;letI r:=(M dr:Y);letI s:=((M a.st:aWe):Y);letI t:=((M d:aWe):Y);letI u:=((M f:aWe):Y);letI v:=((M p:aWe):Y);letI w:=QQ cs os ks gs bs dr;letI y:=ou cs os ks gs bs dr;letI z:=(M cs:Y);letI A:=(M Ds:Y);letI B:=(M ([]:aWn));letI C:=G7 aVE a.st;.br ((!(BH cs os ks gs bs)) ||(r !=g)) (.ok<|zNV 1)<|.req (RI.q w)<|.br (Bb (eU w)<|.ret) (.ok<|.AO [.agg [.xl Af ([]:aWl),.xl .str ([]:aWg),.xl Al ([]:aWr),.xl Ah ([]:aWh),.xl Am ([]:aWs),(0:Y),X,.xl AQ ([]:aWn),(0:Y),.xl (.int aw) ([]:aWd),.xl Ap ([]:aWJ),(0:Y),.xl B7 ([]:aWE),.xl AQ ([]:aWn),.xl B9 ([]:aWY),.xl BS ([]:aW2),.xl Aw ([]:aWB),.xl BP ([]:aWN),.xl A7 ([]:aWd),.xl A7 ([]:aWd)],(WQ w).e])<|.req (BH cs os ks gs bs=U)<|.br (!E9 cs gs (Bv gs)) (.ok<|zNV 13)<|.br ((0:Y) !=0) (.ok<|zNV 0)<|.rm 16 g<|.rm 40 g<|.rm 40 g<|.re g.toNat d<|.r0 St<|.re g.toNat f<|.re g.toNat p<|.r0 Me<|.r0 Dm<|.req (RH.q<|MG cs os ks gs bs dr)<|.rl d<|.rl a.st<|.rl f<|.rl p<|.rl a.me<|.rl a.dm<|.r0 Int<|.req (S3.q<|Vk cs os ks gs bs dr)<|.rm 96 z<|.rc z (ByteArray.empty,((0:Y),((0:Y),((0:Y),(((0:Y),(0:Y)),((0:Y),((0:Y),((0:Y),((0:Y),(0:Y)))))))))) (M cs)<|.rm 40 (0:Y)<|.rc (0:Y) ((0:Y),((0:Y),((0:Y),((0:Y),(0:Y))))) B<|.rm 1 A<|.rc A (0:Y) (M Ds)<|.rm 16 t<|.rz d<|.rc t ((0:Y),(0:Y)) (M<|AR d)<|.rm 32 s<|.rz a.st<|.rc s ((0:Y),((0:Y),((0:Y),X))) (M<|AR a.st)<|.rm 40 u<|.rz f<|.rc u ((0:Y),((0:Y),((0:Y),((0:Y),(0:Y))))) (M<|AR f)<|.rm 40 v<|.rz p<|.rc v (([]:aWd),((0:Y),(0:Y))) (M<|AR p)<|.rl d<|.rl a.st<|.rl f<|.rl p<|.rl a.me<|.rl a.dm<|.rl b.tg<|.re z.toNat (cpX np cs)<|.re (0:Y).toNat (cpN Jq)<|.re A.toNat (cpX Px Ds)<|.re t.toNat (G7 Nd d)<|.re s.toNat C<|.re u.toNat (G7 Jq f)<|.re v.toNat (G7 Kf p)<|.rl a.me<|.rl a.dm<|.rl b.tg<|.req (UP.q y)<|.rm 24 j<|.rz a.me<|.rc j ((0:Y),((0:Y),X)) (M<|AR a.me)<|.rm 32 l<|.rz a.dm<|.rc l (X,((0:Y),((0:Y),(0:Y)))) (M<|AR a.dm)<|.rm 48 (0:Y)<|.rc (0:Y) ((0:Y),((0:Y),((0:Y),((0:Y),((0:Y),(0:Y)))))) B<|.rm 8 r<|.rc r (0:Y) (M dr)<|.rm 8 n<|.rz b.tg<|.rc n (0:Y) (M<|AR b.tg)<|.rz (cpX np cs)<|.rz (cpN Jq)<|.rz (cpX Px Ds)<|.rz (G7 Nd d)<|.rz C<|.rz (G7 Jq f)<|.rz (dx y).o<|.req (0+j.toNat<=M (G7 aLl a.me))<|.req (0+l.toNat<=M (G7 aLn a.dm))<|.req (0+(0:Y).toNat<=M (cpN aLm))<|.req (0+r.toNat<=M (cpX Px dr))<|.req (0+n.toNat<=M (G7 Px b.tg))<|.ok<|.AO [.agg [(AR<|cpX np cs),os,ks,gs,bs,(0:Y),U,(AR<|cpN Jq),(512:Y),.xl (.int aw)<|AR<|cpX Px Ds,(AR<|G7 Nd d),(1:Y),(AR C),(AR<|G7 Jq f),(AR (dx y).o),(((G7 aLl a.me).drop 0).take j.toNat),(((G7 aLn a.dm).drop 0).take l.toNat),(((cpN aLm).drop 0).take (0:Y).toNat),.xl A7<|((cpX Px dr).drop 0).take r.toNat,.xl A7<|((G7 Px b.tg).drop 0).take n.toNat],(0:Y)]) ?_;obtain ⟨hn,rfl⟩:=h
  have A1:lI (QQ cs os ks gs bs dr):=⟨⟨rfl,rfl⟩,by show (M dr:Y)<=1000;omega,rfl⟩
  obtain ⟨_,_,q1⟩:=asZ _ A1
  have q1:(eU (QQ cs os ks gs bs dr)=.exit 0/\(WQ<|QQ cs os ks gs bs dr).e=0/\dr.all (λx=>inB x (-200) 200)=U)\/(eU (QQ cs os ks gs bs dr)=.ret/\(WQ<|QQ cs os ks gs bs dr).e=1/\dr.all (λx=>inB x (-200) 200)=X):=q1
  have bad:∀ {e:Y},DB cs os ks gs bs dr=e->e≠0->newP cs os ks gs bs dr=PK0:=λh1 h2=>AD (by rw [h1];exact h2)
  have hb:((!BH cs os ks gs bs) ||((M dr:Y) !=(M gs:Y)))=U↔(BH cs os ks gs bs=X\/M dr≠M gs):=by simp [Int.natCast_inj]
  refine ⟨λc=>?_,λc=>⟨⟨A1,rfl,rfl⟩,λc2=>?_,λc2=>?_⟩⟩
  ·have he:DB cs os ks gs bs dr=1:=AD (hb.1 c)
   show zNV 1=_
   exact y9
  all_goals have hc:¬(BH cs os ks gs bs=X\/M dr≠M gs):=λh=>(by rw [hb.2 h] at c;cases c)
  ·rcases q1 with ⟨x1,_⟩ |⟨x1,x2,x3⟩
   ·rw [x1] at c2
    cases c2
   ·have he:DB cs os ks gs bs dr=1:=(AE hc).trans (AD x3)
    rw [x2]
    show zNV 1=_
    exact y9
  rcases q1 with ⟨x1,x2,x3⟩ |⟨x1,x2,x3⟩
  rotate_left
  ·rw [x1] at c2
   cases c2
  have hs:BH cs os ks gs bs=true:=by
   cases e:BH cs os ks gs bs
   ·exact absurd (.inl e) hc
   ·rfl
  have hd:M dr=M gs:=Zf λh=>hc<|.inr h
  have hg:=DK.1 hs
  refine ⟨hs,λc3=>?_,λc3=>⟨λc4=>(by cases c4),λ_=>?_⟩⟩
  ·have he:DB cs os ks gs bs dr=13:=(AE hc).trans ((AE (by rw [x3];decide)).trans<|AD<|(D2 _).mp c3)
   show zNV 13=_
   exact y9
  have he:DB cs os ks gs bs dr=0:=(AE hc).trans<|(AE (by rw [x3];decide)).trans<|AE (by rw [(IK _).mp c3];decide)
  have hp:newP cs os ks gs bs dr=_:=AE MC
  have A2:lH (MG cs os ks gs bs dr):=⟨rfl,⟨aPE,SY _⟩,rfl,rfl,rfl⟩
  obtain ⟨_,_,_,y1,y2,y3⟩:=asY _ A2
  have y1:(NH<|MG cs os ks gs bs dr).st=aq (M gs) (0,0,0,X):=y1
  have y2:(NH<|MG cs os ks gs bs dr).me=(Fy<|M gs).map (λk=>(k+1,0,X)):=y2
  have y3:(NH<|MG cs os ks gs bs dr).dm=aq (M gs) (X,0,0,9):=y3
  have A3:lG (Vk cs os ks gs bs dr):=⟨rfl,⟨rfl,aPF⟩,rfl⟩
  obtain ⟨_,_,_,y4⟩:=asX _ A3
  have y4:(cJ<|Vk cs os ks gs bs dr).tg=cs.map (λc=>c.2.2.1):=y4
  have hj:M Ds=2048:=rfl
  have l1:M (Ec gs Nd)=M gs:=yl
  have l2:M (Ec gs Jq)=M gs:=yl
  have l3:M (Ec gs Kf)=M gs:=yl
  have l4:M (NH<|MG cs os ks gs bs dr).st=M gs:=by rw [y1,Ci]
  have l5:M (NH<|MG cs os ks gs bs dr).me=M gs:=by rw [y2,GB,Om]
  have l6:M (NH<|MG cs os ks gs bs dr).dm=M gs:=by rw [y3,Ci]
  have l7:M (cJ<|Vk cs os ks gs bs dr).tg=M cs:=by rw [y4,GB]
  have ho:(ou cs os ks gs bs dr).o=Ec gs Kf:=aTg _ _
  have A4:lF (ou cs os ks gs bs dr):=⟨rfl,by rw [ho];show ((((M (Ec gs Kf):aWe):Y).toNat:aWe):Y)=_;rw [By],by show ((((M (Ec gs Kf):aWe):Y).toNat:aWe):Y)<=1000;rw [By,l3];omega,by
   rw [ho,qX];intro m hm;rw [(SX.1 hm).2]
   decide⟩
  have y5:(dx<|ou cs os ks gs bs dr).o=Ec gs Kf:=(asW _ A4).2.trans ho
  simp only [aTg,ajQ,ajR,Fs,y5,l1,l2,l3]
  repeat (refine ⟨mZ,?_⟩)
  refine ⟨⟨A2,rfl,rfl⟩,?_⟩
  repeat (refine ⟨mZ,?_⟩)
  refine ⟨⟨A3,rfl,rfl⟩,?_⟩
  repeat (refine ⟨mZ,?_⟩)
  refine ⟨⟨A4,rfl,rfl⟩,?_⟩
  repeat (refine ⟨mZ,?_⟩)
  show _=_
  rw [hp,he,y1,y2,y3,y4];simp only [qX,By,CT,El];rfl
 ·cases h)
def Cz:EV:=⟨1,0,0,(0,0,0,0,0),(X,0,0,0)⟩
def Cc:aWe->PK->Y->PK×Int×Bool
 |0,p,l=>(p,l,U)
 |n+1,p,l=>if BC p Cz=0/\M (Cn p Cz)=M (An p Cz).ca then Cc n (An p Cz) (if M (Cn p Cz)>0 then gi (Cn p Cz) 0 else l) else (p,l,X)
def aCv (a:QV×Int):Option (QV×Int):=
 if (EJ a.1.p&&(!(a.1.p.tk==1000000)&&(a.1.tick.ok&&(M a.1.Kp==M a.1.tick.p.ca&&an (M a.1.Kp>0)))))=U then ah (a.1.tick,gi a.1.Kp 0) else aj
def EM:aWe->QV×Int->Option (QV×Int)
 |0,a=>ah a
 |n+1,a=>(aCv a).bind<|EM n
def aqm {m n:aWe}:∀ {a:QV×Int},EM (m+n) a=(EM m a).bind (EM n):=by
 induction m with
 |zero=>intro a;rw [Ek];rfl
 |succ m ih=>
  intro a;rw [Nat.succ_add];simp only [EM];cases aCv a with
  |none=>rfl
  |some b=>exact ih
def MM {m n:aWe}{a b c:QV×Int}(h1:EM m a=ah b) (h2:EM n b=ah c):EM (m+n) a=ah c:=by rw [aqm,h1];exact h2
def rH {p:PK}{q:QV}(h:RP p q):EJ q.p=EJ p:=by rw [h.1];rfl
def dz {n:aWe}:∀ {p:PK}{q:QV}{l:Y}{b:QV×Int},RP p q->EM n (q,l)=ah b->∃p',Cc n p l=(p',b.2,U)/\RP p' b.1:=by
 induction n with
 |zero=>
  intro p q l b h hq;simp only [EM,Ai] at hq;subst hq;exact ⟨p,rfl,h⟩
 | succ n ih=>
  intro p q l b h hq;simp only [EM] at hq;unfold aCv at hq;split at hq
  ·rename_i hc
   simp only [AY,D3,D2,CQ,Aa] at hc;obtain ⟨c1,c2,c3,c4,c5⟩:=hc;obtain ⟨h1,h2⟩:=aon h c3
   have ek:q.p.tk=p.tk:=by rw [h.1]
   have e1:BC p Cz=0:=by
    unfold BC;rw [<-rH h,c1,AE Ab,AD (show Cz.ek=1 from rfl)];unfold PK.IX;omega
   have e2:An p Cz=p.Bh:=yh
   have e3:Cn p Cz=p.Kp:=aPV
   have e4:M q.tick.p.ca=M p.Bh.ca:=by rw [h1.1]
   obtain ⟨p',k1,k2⟩:=ih h1 hq;refine ⟨p',?_,k2⟩;simp only [Cc]
   grind
  ·cases hq
def bC (n:Y):aWl:=[(av #[102],-1,n,32,(0,0),0,0,0,0,0)]
def bG:aWh:=[(av #[112],0,1,6,32,1,6,0)]
def bO:aWg:=[av #[111]]
def bA:Ca:=(0,1,20,1000000000,0)
def bD:Dm:=(U,0,500,1)
def bQ (tk:Y) (up:aWo) (ls:aWn) (ra:aWJ) (nx:Y) (st:aWE) (ca:aW0) (mi:aWY) (me:aW2) (dm:aWB) (lk:aWN) (vl:aWn):QV:=
 ⟨⟨bC 32,bO,[],bG,[],tk,up,ls,0,[],ra,nx,st,ca,mi,me,dm,lk,[0],[32]⟩,vl,U⟩
def hqa:QV:=bQ 0 U [] [(0,0)] 1 [(0,0,0,X)] [(0,0,0,0,0)] [([],0,0)] [(1,0,X)] [(X,0,0,9)] [] []
def hqb:QV:=bQ 1 U [] [(0,1)] 1 [(0,0,0,X)] [(0,0,0,0,0)] [([],0,0)] [(1,0,X)] [(X,0,0,9)] [] []
def akH:EM 1 (hqa,0)=ah (hqb,0):=AU
def hqc:QV:=bQ 1 U [] [(0,1)] 1 [(4,0,0,X)] [(0,1,20,1000000000,0)] [([],0,0)] [(1,0,X)] [(U,0,500,1)] [] []
def hqd:QV:=bQ 2 U [] [(0,2)] 1 [(4,0,0,X)] [(0,1,20,1000000000,0)] [([6],1,13800)] [(1,13800,X)] [(U,0,500,1)] [] []
def aku:EM 1 (hqc,0)=ah (hqd,6):=AU
def aLg:QV:=bQ 8 U [(1,0,7,6,12),(2,0,8,7,12)] [(8,2)] 3 [(4,0,0,X)] [(0,1,20,1000000000,0)] [([6,6,6,6,6,6,6],7,96600)] [(1,96600,X)] [(U,0,500,1)] [(8,(1,0,7,6,12)),(11,(2,0,8,7,12))] [(1,0,7,6,12),(2,0,8,7,12)]
def axy:EM 6 (hqd,0)=ah (aLg,6):=AU
def aLf:QV:=bQ 14 U [(1,0,7,6,12),(2,0,8,7,12),(3,0,9,8,12),(4,0,10,9,12),(5,0,11,10,12),(6,0,12,11,12),(7,0,13,12,12),(8,0,14,13,12)] [(14,8)] 9 [(4,12,11,X)] [(0,1,20,1000000000,0)] [([6,6,6,6,6,6,6,7,9,11,8,10,12],13,227700)] [(1,227700,X)] [(U,0,500,1)] [(16,(7,0,13,12,12)),(14,(8,0,14,13,12))] [(1,0,7,6,12),(2,0,8,7,12),(3,0,9,8,12),(4,0,10,9,12),(5,0,11,10,12),(6,0,12,11,12),(7,0,13,12,12),(8,0,14,13,12)]
def axx:EM 6 (aLg,6)=ah (aLf,12):=AU
def aLe:QV:=bQ 20 U [(1,0,7,6,12),(2,0,8,7,12),(3,0,9,8,12),(4,0,10,9,12),(5,0,11,10,12),(6,0,12,11,12),(7,0,13,12,12),(8,0,14,13,12),(9,0,15,14,12),(10,0,16,15,12),(11,0,17,16,12),(12,0,18,17,12),(13,0,19,18,12),(14,0,20,19,12)] [(20,14)] 15 [(4,19,11,X)] [(0,1,20,1000000000,0)] [([6,6,6,6,6,6,6,7,9,11,8,10,12,14,16,13,15,17,19],19,443900)] [(1,443900,X)] [(U,0,500,1)] [(21,(12,0,18,17,12)),(22,(14,0,20,19,12))] [(1,0,7,6,12),(2,0,8,7,12),(3,0,9,8,12),(4,0,10,9,12),(5,0,11,10,12),(6,0,12,11,12),(7,0,13,12,12),(8,0,14,13,12),(9,0,15,14,12),(10,0,16,15,12),(11,0,17,16,12),(12,0,18,17,12),(13,0,19,18,12),(14,0,20,19,12)]
def axw:EM 6 (aLf,12)=ah (aLe,19):=AU
def aLd:QV:=bQ 26 U [(1,0,7,6,12),(2,0,8,7,12),(3,0,9,8,12),(4,0,10,9,12),(5,0,11,10,12),(6,0,12,11,12),(7,0,13,12,12),(8,0,14,13,12),(9,0,15,14,12),(10,0,16,15,12),(11,0,17,16,12),(12,0,18,17,12),(13,0,19,18,12),(14,0,20,19,12),(15,0,21,20,12),(16,0,22,21,12),(17,0,23,22,12),(18,0,24,23,12),(19,0,25,24,12),(20,0,26,25,12)] [(26,20)] 21 [(4,26,11,X)] [(0,1,20,1000000000,0)] [([6,6,6,7,9,11,8,10,12,14,16,13,15,17,19,21,18,20,22,24,26],25,715300)] [(1,715300,X)] [(U,0,500,1)] [(26,(17,0,23,22,12)),(27,(19,0,25,24,12))] [(1,0,7,6,12),(2,0,8,7,12),(3,0,9,8,12),(4,0,10,9,12),(5,0,11,10,12),(6,0,12,11,12),(7,0,13,12,12),(8,0,14,13,12),(9,0,15,14,12),(10,0,16,15,12),(11,0,17,16,12),(12,0,18,17,12),(13,0,19,18,12),(14,0,20,19,12),(15,0,21,20,12),(16,0,22,21,12),(17,0,23,22,12),(18,0,24,23,12),(19,0,25,24,12),(20,0,26,25,12)]
def axv:EM 6 (aLe,19)=ah (aLd,20):=AU
def aLc:QV:=bQ 32 U [(4,0,10,9,12),(5,0,11,10,12),(6,0,12,11,12),(7,0,13,12,12),(8,0,14,13,12),(9,0,15,14,12),(10,0,16,15,12),(11,0,17,16,12),(12,0,18,17,12),(13,0,19,18,12),(14,0,20,19,12),(15,0,21,20,12),(16,0,22,21,12),(17,0,23,22,12),(18,0,24,23,12),(19,0,25,24,12),(20,0,26,25,12),(21,0,27,26,12),(22,0,28,27,12),(23,0,29,28,12),(24,0,30,29,12),(25,0,31,30,12),(26,0,32,31,12)] [(32,26)] 27 [(4,28,11,X)] [(0,1,20,1000000000,0)] [([8,10,12,14,16,13,15,17,19,21,18,20,22,24,26,23,25,27,29,31,28],31,991300)] [(1,991300,X)] [(U,0,500,1)] [(32,(24,0,30,29,12)),(33,(26,0,32,31,12))] [(1,0,7,6,12),(2,0,8,7,12),(3,0,9,8,12),(4,0,10,9,12),(5,0,11,10,12),(6,0,12,11,12),(7,0,13,12,12),(8,0,14,13,12),(9,0,15,14,12),(10,0,16,15,12),(11,0,17,16,12),(12,0,18,17,12),(13,0,19,18,12),(14,0,20,19,12),(15,0,21,20,12),(16,0,22,21,12),(17,0,23,22,12),(18,0,24,23,12),(19,0,25,24,12),(20,0,26,25,12),(21,0,27,26,12),(22,0,28,27,12),(23,0,29,28,12),(24,0,30,29,12),(25,0,31,30,12),(26,0,32,31,12)]
def axu:EM 6 (aLd,20)=ah (aLc,20):=AU
def aLb:QV:=bQ 38 U [(10,0,16,15,12),(11,0,17,16,12),(12,0,18,17,12),(13,0,19,18,12),(14,0,20,19,12),(15,0,21,20,12),(16,0,22,21,12),(17,0,23,22,12),(18,0,24,23,12),(19,0,25,24,12),(20,0,26,25,12),(21,0,27,26,12),(22,0,28,27,12),(23,0,29,28,12),(24,0,30,29,12),(25,0,31,30,12),(26,0,32,31,12),(27,0,32,37,12)] [(32,32)] 28 [(4,32,7,X)] [(0,1,20,1000000000,0)] [([15,17,19,21,18,20,22,24,26,23,25,27,29,31,28,30,32,32,32,32,32],37,1267300)] [(1,1267300,X)] [(U,0,500,1)] [(41,(27,0,32,37,12))] [(1,0,7,6,12),(2,0,8,7,12),(3,0,9,8,12),(4,0,10,9,12),(5,0,11,10,12),(6,0,12,11,12),(7,0,13,12,12),(8,0,14,13,12),(9,0,15,14,12),(10,0,16,15,12),(11,0,17,16,12),(12,0,18,17,12),(13,0,19,18,12),(14,0,20,19,12),(15,0,21,20,12),(16,0,22,21,12),(17,0,23,22,12),(18,0,24,23,12),(19,0,25,24,12),(20,0,26,25,12),(21,0,27,26,12),(22,0,28,27,12),(23,0,29,28,12),(24,0,30,29,12),(25,0,31,30,12),(26,0,32,31,12),(27,0,32,37,12)]
def axt:EM 6 (aLc,20)=ah (aLb,20):=AU
def aLa:QV:=bQ 44 U [(16,0,22,21,12),(17,0,23,22,12),(18,0,24,23,12),(19,0,25,24,12),(20,0,26,25,12),(21,0,27,26,12),(22,0,28,27,12),(23,0,29,28,12),(24,0,30,29,12),(25,0,31,30,12),(26,0,32,31,12),(27,0,32,37,12),(28,0,32,43,12)] [(32,38)] 29 [(4,32,9,X)] [(0,1,20,1000000000,0)] [([22,24,26,23,25,27,29,31,28,30,32,32,32,32,32,32,32,32,32,32,32],43,1543300)] [(1,1543300,X)] [(U,0,500,1)] [(44,(28,0,32,43,12))] [(1,0,7,6,12),(2,0,8,7,12),(3,0,9,8,12),(4,0,10,9,12),(5,0,11,10,12),(6,0,12,11,12),(7,0,13,12,12),(8,0,14,13,12),(9,0,15,14,12),(10,0,16,15,12),(11,0,17,16,12),(12,0,18,17,12),(13,0,19,18,12),(14,0,20,19,12),(15,0,21,20,12),(16,0,22,21,12),(17,0,23,22,12),(18,0,24,23,12),(19,0,25,24,12),(20,0,26,25,12),(21,0,27,26,12),(22,0,28,27,12),(23,0,29,28,12),(24,0,30,29,12),(25,0,31,30,12),(26,0,32,31,12),(27,0,32,37,12),(28,0,32,43,12)]
def axs:EM 6 (aLb,20)=ah (aLa,20):=AU
def aLZ:QV:=bQ 50 U [(22,0,28,27,12),(23,0,29,28,12),(24,0,30,29,12),(25,0,31,30,12),(26,0,32,31,12),(27,0,32,37,12),(28,0,32,43,12),(29,0,32,49,12)] [(32,44)] 30 [(4,32,6,X)] [(0,1,20,1000000000,0)] [([29,31,28,30,32,32,32,32,32,32,32,32,32,32,32,32,32,32,32,32,32],49,1819300)] [(1,1819300,X)] [(U,0,500,1)] [(52,(29,0,32,49,12))] [(1,0,7,6,12),(2,0,8,7,12),(3,0,9,8,12),(4,0,10,9,12),(5,0,11,10,12),(6,0,12,11,12),(7,0,13,12,12),(8,0,14,13,12),(9,0,15,14,12),(10,0,16,15,12),(11,0,17,16,12),(12,0,18,17,12),(13,0,19,18,12),(14,0,20,19,12),(15,0,21,20,12),(16,0,22,21,12),(17,0,23,22,12),(18,0,24,23,12),(19,0,25,24,12),(20,0,26,25,12),(21,0,27,26,12),(22,0,28,27,12),(23,0,29,28,12),(24,0,30,29,12),(25,0,31,30,12),(26,0,32,31,12),(27,0,32,37,12),(28,0,32,43,12),(29,0,32,49,12)]
def axr:EM 6 (aLa,20)=ah (aLZ,20):=AU
def aLY:QV:=bQ 56 U [(27,0,32,37,12),(28,0,32,43,12),(29,0,32,49,12),(30,0,32,55,12)] [(32,50)] 31 [(4,32,11,X)] [(0,1,20,1000000000,0)] [([32,32,32,32,32,32,32,32,32,32,32,32,32,32,32,32,32,32,32,32,32],55,2095300)] [(1,2095300,X)] [(U,0,500,1)] [] [(1,0,7,6,12),(2,0,8,7,12),(3,0,9,8,12),(4,0,10,9,12),(5,0,11,10,12),(6,0,12,11,12),(7,0,13,12,12),(8,0,14,13,12),(9,0,15,14,12),(10,0,16,15,12),(11,0,17,16,12),(12,0,18,17,12),(13,0,19,18,12),(14,0,20,19,12),(15,0,21,20,12),(16,0,22,21,12),(17,0,23,22,12),(18,0,24,23,12),(19,0,25,24,12),(20,0,26,25,12),(21,0,27,26,12),(22,0,28,27,12),(23,0,29,28,12),(24,0,30,29,12),(25,0,31,30,12),(26,0,32,31,12),(27,0,32,37,12),(28,0,32,43,12),(29,0,32,49,12),(30,0,32,55,12)]
def axq:EM 6 (aLZ,20)=ah (aLY,20):=AU
def wL:QV:=bQ 62 U [(28,0,32,43,12),(29,0,32,49,12),(30,0,32,55,12),(31,0,32,61,12)] [(32,56)] 32 [(4,32,5,X)] [(0,1,20,1000000000,0)] [([32,32,32,32,32,32,32,32,32,32,32,32,32,32,32,32,32,32,32,32,32],61,2371300)] [(1,2371300,X)] [(U,0,500,1)] [(63,(31,0,32,61,12))] [(1,0,7,6,12),(2,0,8,7,12),(3,0,9,8,12),(4,0,10,9,12),(5,0,11,10,12),(6,0,12,11,12),(7,0,13,12,12),(8,0,14,13,12),(9,0,15,14,12),(10,0,16,15,12),(11,0,17,16,12),(12,0,18,17,12),(13,0,19,18,12),(14,0,20,19,12),(15,0,21,20,12),(16,0,22,21,12),(17,0,23,22,12),(18,0,24,23,12),(19,0,25,24,12),(20,0,26,25,12),(21,0,27,26,12),(22,0,28,27,12),(23,0,29,28,12),(24,0,30,29,12),(25,0,31,30,12),(26,0,32,31,12),(27,0,32,37,12),(28,0,32,43,12),(29,0,32,49,12),(30,0,32,55,12),(31,0,32,61,12)]
def axp:EM 6 (aLY,20)=ah (wL,20):=AU
def hqe:QV:=bQ 62 X [] [(32,56)] 32 [(4,32,5,X)] [(0,1,20,1000000000,0)] [([32,32,32,32,32,32,32,32,32,32,32,32,32,32,32,32,32,32,32,32,32],61,2371300)] [(1,2371300,X)] [(U,0,500,1)] [(63,(31,0,32,61,12))] [(1,0,7,6,12),(2,0,8,7,12),(3,0,9,8,12),(4,0,10,9,12),(5,0,11,10,12),(6,0,12,11,12),(7,0,13,12,12),(8,0,14,13,12),(9,0,15,14,12),(10,0,16,15,12),(11,0,17,16,12),(12,0,18,17,12),(13,0,19,18,12),(14,0,20,19,12),(15,0,21,20,12),(16,0,22,21,12),(17,0,23,22,12),(18,0,24,23,12),(19,0,25,24,12),(20,0,26,25,12),(21,0,27,26,12),(22,0,28,27,12),(23,0,29,28,12),(24,0,30,29,12),(25,0,31,30,12),(26,0,32,31,12),(27,0,32,37,12),(28,0,32,43,12),(29,0,32,49,12),(30,0,32,55,12),(31,0,32,61,12)]
def aLX:QV:=bQ 70 X [] [(32,56)] 32 [(4,32,5,X)] [(0,1,20,1000000000,0)] [([32,32,32,32,32,32,32,32,32,32,32,32,32,32,32,32,32,32,32,32,32],69,2739300)] [(1,2739300,X)] [(U,0,500,1)] [] [(1,0,7,6,12),(2,0,8,7,12),(3,0,9,8,12),(4,0,10,9,12),(5,0,11,10,12),(6,0,12,11,12),(7,0,13,12,12),(8,0,14,13,12),(9,0,15,14,12),(10,0,16,15,12),(11,0,17,16,12),(12,0,18,17,12),(13,0,19,18,12),(14,0,20,19,12),(15,0,21,20,12),(16,0,22,21,12),(17,0,23,22,12),(18,0,24,23,12),(19,0,25,24,12),(20,0,26,25,12),(21,0,27,26,12),(22,0,28,27,12),(23,0,29,28,12),(24,0,30,29,12),(25,0,31,30,12),(26,0,32,31,12),(27,0,32,37,12),(28,0,32,43,12),(29,0,32,49,12),(30,0,32,55,12),(31,0,32,61,12)]
def axo:EM 8 (hqe,0)=ah (aLX,20):=AU
def aLW:QV:=bQ 78 X [] [(32,56)] 32 [(4,0,0,X)] [(0,1,20,1000000000,0)] [([32,32,32,32,32,32,32,32,32,32,32,32,32,32,32,32,32,6,6,6,6],77,2978500)] [(1,2978500,X)] [(U,0,500,1)] [] [(1,0,7,6,12),(2,0,8,7,12),(3,0,9,8,12),(4,0,10,9,12),(5,0,11,10,12),(6,0,12,11,12),(7,0,13,12,12),(8,0,14,13,12),(9,0,15,14,12),(10,0,16,15,12),(11,0,17,16,12),(12,0,18,17,12),(13,0,19,18,12),(14,0,20,19,12),(15,0,21,20,12),(16,0,22,21,12),(17,0,23,22,12),(18,0,24,23,12),(19,0,25,24,12),(20,0,26,25,12),(21,0,27,26,12),(22,0,28,27,12),(23,0,29,28,12),(24,0,30,29,12),(25,0,31,30,12),(26,0,32,31,12),(27,0,32,37,12),(28,0,32,43,12),(29,0,32,49,12),(30,0,32,55,12),(31,0,32,61,12)]
def axn:EM 8 (aLX,20)=ah (aLW,6):=AU
def aoW:QV:=bQ 86 X [] [(32,56)] 32 [(4,0,0,X)] [(0,1,20,1000000000,0)] [([32,32,32,32,32,32,32,32,32,6,6,6,6,6,6,6,6,6,6,6,6],85,3088900)] [(1,3088900,X)] [(U,0,500,1)] [] [(1,0,7,6,12),(2,0,8,7,12),(3,0,9,8,12),(4,0,10,9,12),(5,0,11,10,12),(6,0,12,11,12),(7,0,13,12,12),(8,0,14,13,12),(9,0,15,14,12),(10,0,16,15,12),(11,0,17,16,12),(12,0,18,17,12),(13,0,19,18,12),(14,0,20,19,12),(15,0,21,20,12),(16,0,22,21,12),(17,0,23,22,12),(18,0,24,23,12),(19,0,25,24,12),(20,0,26,25,12),(21,0,27,26,12),(22,0,28,27,12),(23,0,29,28,12),(24,0,30,29,12),(25,0,31,30,12),(26,0,32,31,12),(27,0,32,37,12),(28,0,32,43,12),(29,0,32,49,12),(30,0,32,55,12),(31,0,32,61,12)]
def axm:EM 8 (aLW,6)=ah (aoW,6):=AU
def fp:JI Ds 0 0 ([]:aWk) 1019 (aq 1024 255) where
 eq:=rfl
 la:=by rw [Ou];rfl
 lo:=Ci
 bo:=fB _
 hw:=.inl rfl
 hg:=Ab
 old:=λh=>absurd h Ab
 bd:=λd hd=>Vh
def ahi:RP (newP (bC 32) bO [] bG [] [0]) hqa:=by
 have e:DB (bC 32) bO [] bG [] [0]=0:=AU
 have e2:newP (bC 32) bO [] bG [] [0]={hqa.p with se:=512,fl:=Ds}:=by
  unfold newP;rw [e]
  kernel_rfl
 rw [e2];exact ⟨rfl,rfl,rfl,1019,_,fp,rfl⟩
def evP:EV:=⟨2,0,0,bA,bD⟩
def E7:EV:=⟨5,0,0,(0,0,0,0,0),(X,0,0,0)⟩
def atP {p:PK}{q:QV}(h:RP p q) (hv:EJ q.p=U) (he:q.p.GI 0 bA bD=0):BC p evP=0/\Cn p evP=[]/\RP (An p evP) {q with p:=q.p.Nm 0 bA bD}:=by
 have e1:BC p evP=0:=by
  have:q.p.GI 0 bA bD=p.GI 0 bA bD:=by rw [h.1];rfl
  unfold BC;rw [<-rH h,hv,AE Ab,AE Ab,AD (show evP.ek=2 from rfl)];exact this.symm.trans he
 refine ⟨e1,aPV,?_⟩
 have e2:An p evP=p.Nm 0 bA bD:=yh
 rw [e2];exact ⟨aPP,h.2⟩
def atZ {p:PK}{q:QV}(h:RP p q) (hv:EJ q.p=U) (he:q.p.up=U):BC p E7=0/\RP (An p E7) {q with p:=q.p.Ni}:=by
 have e1:BC p E7=0:=by
  have:q.p.up=p.up:=by rw [h.1]
  unfold BC;rw [<-rH h,hv,AE Ab,AE Ab,AE Ab,AE Ab,AE Ab,AD (show E7.ek=5 from rfl)];unfold PK.Ma;rw [<-this,he];rfl
 refine ⟨e1,?_⟩
 have e2:An p E7=p.Ni:=yh
 rw [e2];exact ⟨aPP,h.2⟩
def am3:∃p1 p3 p4 p6,Cc 1 (newP (bC 32) bO [] bG [] [0]) 0=(p1,0,U)/\p1.tk=1/\BC p1 evP=0/\Cn p1 evP=[]/\Cc 1 (An p1 evP) 0=(p3,6,U)/\
  Cc 60 p3 0=(p4,20,U)/\BC p4 E7=0/\Cc 24 (An p4 E7) 0=(p6,6,U):=by
 obtain ⟨p1,a1,a2⟩:=dz ahi akH;obtain ⟨a3,a4,a5⟩:=atP a2 AU AU
 have hc:({hqb with p:=hqb.p.Nm 0 bA bD}:QV)=hqc:=AU
 simp only [hc] at a5;obtain ⟨p3,b1,b2⟩:=dz a5 aku
 have t60:=MM (MM (MM (MM (MM (MM (MM (MM (MM axy axx) axw) axv) axu) axt) axs) axr) axq) axp
 obtain ⟨p4,c1,c2⟩:=dz b2 t60;obtain ⟨c3,c4⟩:=atZ c2 AU AU
 have he:({wL with p:=wL.p.Ni}:QV)=hqe:=AU
 simp only [he] at c4
 have t24:=MM (MM axo axn) axm
 obtain ⟨p6,d1,d2⟩:=dz c4 t24;exact ⟨p1,p3,p4,p6,a1,by have:=a2.1;have h:hqb.p.tk=1:=rfl;rw [this] at h;exact h,a3,a4,b1,c1,c3,d1⟩
def aBJ:DB (bC 32) bO [] bG [] [0]=0/\DB (bC 5) bO [] bG [] [0]=13:=⟨AU,AU⟩
def vS {l:aWn}{t:Y}(h:B4 l=U):B4 (BB l t)=true:=by
 unfold BB;split
 ·exact pt h xX
 ·rfl
def ayh {t:Y}{s:SN}{x:Le}(h:VK s.se s.fl/\B4 s.ls=U):VK (FA t s x).se (FA t s x).fl/\B4 (FA t s x).ls=true:=by
 unfold FA;split
 ·rename_i hc
  refine ⟨(h.1.st hc.2).2,?_⟩
  have:=(vh (x:=x) h.2).1
  unfold grS at this;rw [AD hc.1] at this;exact this
 ·exact h
def aQC {t:Y}{xs:aWn}{s:SN}(h:VK s.se s.fl/\B4 s.ls=U):∀n,VK (EK t xs s n).se (EK t xs s n).fl/\B4 (EK t xs s n).ls=U
 |0=>h
 |n+1=>ayh<|aQC h n
def anM {p:PK}(h:VK p.se p.fl/\B4 p.ls=U):VK p.AM.se p.AM.fl/\B4 p.AM.ls=true:=by
 have hx:B4 (Dn p.ls p.tk)=true:=by
  unfold Dn;split
  ·exact vS h.2
  ·exact h.2
 unfold PK.AM;split
 ·exact h
 ·split
  ·grind
  ·exact aQC (s:=p.HA) ⟨h.1,hx⟩ _
def JP.step {p:PK}(h:JP p) {e:EV}(he:BC p e=0):JP (An p e):=by
 obtain ⟨⟨hV,hR⟩,hk⟩:=h;refine ⟨⟨hV.step he,hR.step hV he⟩,?_⟩;unfold An;rw [AE A0];unfold BC at he;rw [AE (by rw [QP.2 hV];decide)] at he
 split
 ·exact anM hk
 rename_i h1;rw [AE h1] at he;split
 ·exact hk
 rename_i h2;rw [AE h2] at he;split
 ·exact hk
 rename_i h3;rw [AE h3] at he;split
 ·exact hk
 rename_i h4;rw [AE h4] at he;split
 ·exact ⟨hk.1,rfl⟩
 rename_i h5;rw [AE h5] at he;split
 ·rename_i h6
  rw [AD h6] at he;refine ⟨hk.1,?_⟩;unfold PK.F9 at he;split at he
  ·cases he
  split at he
  ·rename_i g1 g2;exact absurd he g2
  ·rename_i g1 g2
   exact vS<|aAu<|Zf λg=>g2 g
 rename_i h6;rw [AE h6] at he;split
 ·exact hk
 ·exact hk
def JP.Ef {p:PK}(h:JP p):∀(n:aWe) (l:Y),JP (Cc n p l).1
 |0,_=>h
 | n+1,l=>by
  unfold Cc;split
  ·rename_i hc
   exact (h.step hc.1).Ef n _
  ·exact h
def ua {cs:aWl}{os:aWg}{ks:aWr}{gs:aWh}{bs:aWs}{dr:aWd}(h:DB cs os ks gs bs dr=0):JP (newP cs os ks gs bs dr):=by
 have hn:=aSy h
 have hp:newP cs os ks gs bs dr=_:=AE A8
 refine ⟨hn,⟨hn.2.fl,?_⟩,?_⟩
 ·rw [hp]
  exact ⟨[],0,rfl,rfl,⟨0,1019,_,fp⟩,Co _⟩
 ·rw [hp]
  rfl
def WR {tg:aWd}{cs:aWl}:∀n,n<=M cs->∀j:aWe,Ae (E0 cs tg n) j=if j<n then GQ (Ae cs j) (gi tg j) else Ae cs j
 |0,_,j=>by rw [AE A0];rfl
 | n+1,hn,j=>by
  have h1:=WR (tg:=tg) (cs:=cs) n A0
  unfold E0;rw [Wb (by rw [NM];omega)]
  by_cases e:j=n
  ·subst e
   rw [AD rfl,AD A0,h1 j,AE A0]
  ·rw [AE e,h1 j]
   by_cases c:j<n
   ·rw [AD c,AD A0]
   ·rw [AE c,AE A0]
def aJw {a b:aWl}(h:M a=M b) (hg:∀j:aWe,j<M a->Ae a j=Ae b j):a=b:=
 Zn h λi h1 h2=>by
  have:=hg i h1
  rwa [Qj h1,Qj h2] at this
def Uq (cs X:aWl):Prop:=M X=M cs/\∀j:aWe,∃u,Ae X j=GQ (Ae cs j) u
def Uq.ask {cs X:aWl}(h:Uq cs X) {tg:aWd}(ht:M tg=M cs):E0 X tg (M tg)=E0 cs tg (M tg):=
 aJw (by rw [NM,NM,h.1]) λj hj=>by
  rw [NM,h.1] at hj;obtain ⟨u,e⟩:=h.2 j;rw [WR _ (by rw [h.1];omega),WR _ A0,AD A0,AD A0,e]
  rfl
def aI2 {gs:aWh}{tg am:aWd}{cs:aWl}{n:aWe}(hn:n<=M cs):Uq cs (DG gs tg am cs n):=
 ⟨T8 n,λj=>by
  rcases (dP (gs:=gs) (tg:=tg) (am:=am) n hn j).1 with e|⟨_,_,e⟩
  ·exact ⟨_,e⟩
  ·exact ⟨_,e⟩⟩
def afK {c:Cd}{u v:Y}(h:u<=v):DE (GQ c u)<=DE (GQ c v):=by
 unfold DE GQ JZ;simp only [List.foldl];split<;>(repeat' split)<;>omega
def aiw {tg:aWd}{cs X:aWl}(h:Uq cs X) (ht:M tg=M cs) (hl:∀j:aWe,j<M cs->gi tg j<=(Ae X j).2.2.1):K7 (E0 cs tg<|M tg) X where
 len:=by rw [NM,h.1]
 up:=λo=>by
  obtain ⟨u,e⟩:=h.2 o;rw [WR _ A0,e];split<;>rfl
 lim:=λo=>by
  obtain ⟨u,e⟩:=h.2 o;rw [WR _ A0];split
  ·rename_i c
   have:=hl o A0
   rw [e] at this|-;exact afK this
  ·rename_i c
   have e1:Ae X o=Ae cs o:=by
    unfold Ae;rw [DJ,DJ,Sa (by rw [h.1];omega),Sa A0]
   rw [e1];exact Co _
def aI3 {gs:aWh}{tg am:aWd}{cs:aWl}{os:aWg}{ks:aWr}{bs:aWs}(hs:BH cs os ks gs bs=U) (ht:∀k:aWe,k<M cs->1<=gi tg k/\gi tg k<=(Ae cs k).2.2.1) (hl:M tg=M cs) (hm:M am=M gs)
  (hb:∀k:aWe,k<M gs->0<=gi am k/\gi am k<=80) (hk:E9 (E0 cs tg<|M tg) gs am=U):∀n,n<=M cs->∀j:aWe,j<n->(Ae (DG gs tg am cs n) j).2.2.1=gi tg j
 |0,_,j,h=>A0
 | n +1,hn,j,hj=>by
  have h1:=aI3 hs ht hl hm hb hk n A0
  have t1:∀k:aWe,k<M cs->1<=gi tg k/\gi tg k<=1000:=λk hk=>by
   have a:=ht k hk
   have b:=gR hs hk
   omega
  have ho:=aI2 (gs:=gs) (tg:=tg) (am:=am) (cs:=cs) (n:=n) A0
  have hn3:=(dP (gs:=gs) (tg:=tg) (am:=am) (cs:=cs) n A0 n).2<|At _
  have hge:∀k:aWe,k<M cs->gi tg k<=(Ae (DG gs tg am cs n) k).2.2.1:=λk hk=>by
   rcases (dP (gs:=gs) (tg:=tg) (am:=am) (cs:=cs) n A0 k).1 with e|⟨_,_,e⟩
   ·rw [e];exact (ht k hk).2
   ·rw [e];exact Co _
  have hx:n<M (DG gs tg am cs n):=by rw [ho.1];omega
  unfold DG;split
  ·rename_i c
   by_cases e:j=n
   ·subst e
    have:=hge j A0
    omega
   ·exact h1 j A0
  ·have hq:E9 ((DG gs tg am cs n).set n<|GQ (Ae (DG gs tg am cs n) n)<|gi tg n) gs am=true:=by
    refine fM (pF hs t1 _ A0) (cw (aDn hs t1 n A0) hx<|t1 n A0) (aiw ⟨by rw [C3,ho.1],λk=>?_⟩ hl λk hk=>?_) hb (λk hk=>⟨(hb k hk).1,Co _⟩) hk
    ·rw [Wb hx]
     split
     ·rename_i e
      obtain ⟨u,e2⟩:=ho.2 n;subst e;exact ⟨gi tg k,by rw [e2];rfl⟩
     ·exact ho.2 k
    ·rw [Wb hx]
     split
     ·rename_i e
      subst e;exact Co _
     ·exact hge k hk
   rw [AD (by rw [hq,Cg hm];rfl),Wb hx]
   by_cases e:j=n
   ·rw [AD e,e];rfl
   ·rw [AE e]
    exact h1 j A0
def aHg {p:PK}(hJ:JP p) (ht:p.tk<1000000):BC p Cz=0/\An p Cz=p.Bh/\Cn p Cz=p.Kp/\M (Cn p Cz)=M (An p Cz).ca/\p.Bh.tk=p.tk+1:=by
 have hv:=hJ.1.1
 have he:BC p Cz=0:=by
  unfold BC;rw [AE mm,AD (show Cz.ek=1 from rfl)];exact AE A0
 have e2:An p Cz=p.Bh:=aPW
 have e3:Cn p Cz=p.Kp:=by unfold Cn;rw [he];rfl
 have hJ2:=hJ.step he
 refine ⟨he,e2,e3,?_,aOU⟩;rw [hJ2.1.1.ca,e2,e3];refine (sU _).2.2.2.trans ?_;exact Ci
def aqr {p:PK}(hv:VP p) {e:EV}(he:BC p e=0):letI a:=An p e;(p.tk<1000000/\An p e=p.Bh)\/An p e=p.Ni\/(p.F9=0/\An p e=p.Qz)\/(p.I4 e.en e.em=0/\An p e=p.L2 e.en e.em)\/An p e={p with st:=a.st,ca:=a.ca,mi:=a.mi,dm:=a.dm,lk:=a.lk}:=by
 have hw:=he
 unfold BC at he;rw [AE mm] at he;unfold An;rw [AE A0];split
 ·rename_i h1
  rw [AD h1] at he
  have:=hv.tk
  unfold PK.IX at he;split at he
  ·cases he
  ·exact .inl ⟨A0,rfl⟩
 rename_i h1;rw [AE h1] at he;split
 ·exact mN
 rename_i h2;rw [AE h2] at he;split
 ·exact mN
 rename_i h3;rw [AE h3] at he;split
 ·exact mN
 rename_i h4;rw [AE h4] at he;split
 ·exact .inr<|.inl rfl
 rename_i h5;rw [AE h5] at he;split
 ·rename_i h6
  rw [AD h6] at he;exact .inr<|.inr<|.inl ⟨he,rfl⟩
 rename_i h6;rw [AE h6] at he;split
 ·exact mN
 rename_i h7;rw [AE h7] at he;split at he
 ·exact .inr<|.inr<|.inr<|.inl ⟨he,rfl⟩
 ·cases he
def TL (gl:aWe) (t:Y) (x:Le):Prop:=x.2.2.2.1<t/\x.2.2.2.2=12/\0<=x.2.1/\x.2.1<(gl:Y)
def TL.le {gl:aWe}{t t':Y}{x:Le}(h:TL gl t x) (ht:t<=t'):TL gl t' x:=⟨by have:=h.1;omega,h.2⟩
structure SG (T:Le->Prop) (b:Y) (s:SN):Prop where
 nx:1<=s.nx/\s.nx<=b
 ls:B4 s.ls=U/\∀x∈s.ls,T x
 vl:∃vl g,VI s.se s.fl vl g/\∀x∈vl,x.1<s.nx/\T x
def SG.le {T T':Le->Prop}{b b':Y}{s:SN}(h:SG T b s) (hb:b<=b') (hT:∀x,T x->T' x):SG T' b' s:=by
 obtain ⟨vl,g,h1,h2⟩:=h.vl;exact ⟨⟨h.nx.1,by have:=h.nx.2;omega⟩,⟨h.ls.1,λx hx=>hT x<|h.ls.2 x hx⟩,vl,g,h1,λx hx=>⟨(h2 x hx).1,hT x (h2 x hx).2⟩⟩
def SG.snd {T:Le->Prop}{b t:Y}{s:SN}(h:SG T b s) {x:Le}(hx:T x) (hn:1<=x.1+1/\x.1+1<=b):SG T b (FA t s x):=by
 unfold FA;split
 ·rename_i hc
  obtain ⟨vl,g,h1,h2⟩:=h.vl;obtain ⟨vl',g',q1,q2,q3,q4⟩:=zc h1 hc.2
  have e:GJ s.ls x=s.ls++[x]:=yf
  refine ⟨hn,?_,vl',g',q1,λy hy=>?_⟩
  ·have:=(vh (x:=x) h.ls.1).1
   unfold grS at this;rw [AD hc.1] at this;refine ⟨this,λy hy=>?_⟩
   simp only [e,BX,HI] at hy;rcases hy with hy|rfl
   ·exact h.ls.2 y hy
   ·exact hx
  ·have hy:y∈vl++[x]:=by
    exact aNt
   rw [BX,HI] at hy;rcases hy with hy|rfl
   ·have:=(List.pairwise_append.1 (rY.1 q3).2.2).2.2 y hy x AI
    exact ⟨by show y.1<x.1+1;have:=this.1;omega,(h2 y hy).2⟩
   ·exact ⟨by show y.1<y.1+1;omega,hx⟩
 ·exact h
def SG.EK {T:Le->Prop}{b t:Y}{s:SN}{xs:aWn}(h:SG T b s) (hx:∀k:aWe,k<M xs->T (Ag xs k)/\1<=(Ag xs k).1+1/\(Ag xs k).1+1<=b):∀n,n<=M xs->SG T b (EK t xs s n)
 |0,_=>h
 |n+1,hn=>by
  obtain ⟨h1,h2⟩:=hx n A0;exact (h.EK hx n A0).snd h1 h2
def sv {t:Y}{xs:aWn}{s:SN}:∀n,n<=M xs->∀x∈(EK t xs s n).ls,x∈s.ls\/x∈xs
 |0,_,x,hx=> .inl hx
 | n+1,hn,x,hx=>by
  unfold EK FA at hx;split at hx
  ·rename_i hc
   have e:GJ (EK t xs s n).ls (Ag xs n)=(EK t xs s n).ls++[Ag xs n]:=yf
   simp only [e,BX,HI] at hx;rcases hx with hx|rfl
   ·exact sv n A0 x hx
   ·exact .inr<|J8 A0 A0
  ·exact sv n A0 x hx
variable {p : PK}
def PK.snp (p:PK):SN:=⟨p.ls,p.se,p.fl,p.nx,p.lk⟩
structure TG (p:PK):Prop where
 kt:E9 p.EP p.gs (Bv p.gs)=U
 sg:SG (TL (M p.gs) p.tk) (16*p.tk+1) p.snp
def aBO (h:p.dE=0):Vd p.EP p.os p.ks p.gs p.bs (Dn p.ls p.tk) p.ra p.dm p.tk p.nx/\NwL p.gs (FJ p.gs p.ra (HT p.EP p.os p.ks p.gs p.bs (Dn p.ls p.tk) p.dm p.tk)<|M p.gs) p.tk p.nx p.dL/\M p.dL<=M p.gs:=by
 unfold PK.dE deE at h;split at h
 ·rename_i hv
  have e:p.dL=HE p.gs (Dn p.ls p.tk) p.tk p.nx (FJ p.gs p.ra (HT p.EP p.os p.ks p.gs p.bs (Dn p.ls p.tk) p.dm p.tk)<|M p.gs) (M p.gs):=AD hv
  exact ⟨aVS hv,by rw [e];exact (gz<|At _).1,vY⟩
 ·cases h
def vT (hJ:JP p):Dn p.ls p.tk=p.ls.filter (L1 p.tk):=by
 have ht:=hJ.1.1.tk
 have h:JF p.ls p.tk=true:=by unfold JF;rw [hJ.2.2,BV.2 A0];rfl
 unfold Dn Cm BB;rw [AD h,AD rfl,AD h]
def TG.dec (h:TG p) (hJ:JP p):SG (TL (aa p.gs)<|p.tk+1) (16*(p.tk+1)+1) p.AM.snp:=by
 have h0:=h.sg.le (T':=TL (aa p.gs)<|p.tk+1) (b':=16*(p.tk+1)+1) A0 λx hx=>hx.le A0
 have hx:SG (TL (aa p.gs)<|p.tk+1) (16*(p.tk+1)+1) p.HA:=by
  refine ⟨h0.nx,?_,h0.vl⟩
  show B4 (Dn p.ls p.tk)=U/\∀x∈Dn p.ls p.tk,_
  rw [vT hJ];exact ⟨pt hJ.2.2 xX,λx hx=>h0.ls.2 x (CS.1 hx).1⟩
 unfold PK.AM;split
 ·exact h0
 split
 ·exact ⟨h0.nx,hx.ls,h0.vl⟩
 ·rename_i hd
  obtain ⟨V,M,hl⟩:=aBO<|Zl.1 hd
  have hg:=V.gl
  have hn:=h.sg.nx
  refine (hx.EK (t:=p.tk) (xs:=p.dL) (λk hk=>?_) _<|At _)
  obtain ⟨q1,q2,_⟩:=M.at_ k A0 A0;rw [q1]
  have hn:1<=p.nx/\p.nx<=16*p.tk+1:=hn
  exact ⟨⟨by show p.tk<p.tk+1;omega,rfl,q2⟩,by show 1<=p.nx+k+1;omega,by show p.nx+(k:Y)+1<=_;omega⟩
def rJ (hv:VP p):Uq p.cs p.Bh.cs:=by
 show Uq p.cs (if p.Ay.CR.up=X then p.Ay.CR.cs else DG p.Ay.CR.gs p.Ay.CR.tg p.Ay.CR.rsA p.Ay.CR.cs (M p.Ay.CR.tg))
 have e:p.Ay.CR.cs=p.cs:=(KO p).1
 have e2:p.Ay.CR.tg=p.tg:=(KO p).2.2.2.2.2.2.2.2.2.2.2.2.2
 rw [e,e2];split
 ·exact ⟨rfl,λj=>⟨_,rfl⟩⟩
 ·exact aI2 yg
def TG.tick (h:TG p) (hJ:JP p):TG p.Bh:=by
 obtain ⟨e1,e2,e3,e4,e5,e6,e7,e8,e9,e10,e11,e12,e13,e14⟩:=KO p
 have hd:=h.dec hJ
 have eg:p.Bh.gs=p.gs:=e4
 have et:p.Bh.tk=p.tk+1:=B3 (·+1) e6
 have eT:p.Bh.tg=p.tg:=e14
 refine ⟨?_,?_⟩
 ·have:p.Bh.EP=p.EP:=by
   show E0 p.Bh.cs p.Bh.tg (M p.Bh.tg)=_
   rw [eT];exact (rJ hJ.1.1).ask hJ.1.1.FE
  rw [this,eg];exact h.kt
 ·rw [eg,et]
  exact ⟨hd.nx,hd.ls,hd.vl⟩
def TG.step (h:TG p) (hJ:JP p) {e:EV}(he:BC p e=0):TG (An p e):=by
 have hv:=hJ.1.1
 rcases aqr hv he with ⟨_,c⟩ |c|⟨c0,c⟩ |⟨c0,c⟩ |c
 ·rw [c];exact h.tick hJ
 ·rw [c];exact ⟨h.kt,h.sg.nx,⟨rfl,λx hx=>QK⟩,h.sg.vl⟩
 ·rw [c]
  obtain ⟨vl,g,h1,h2⟩:=h.sg.vl;obtain ⟨l1,l2⟩:=h1.ld
  have l1:C2 p.se p.fl=0:=l1
  have l2:Ad p.se p.fl=vl:=l2
  have hn:=h.sg.nx
  have hn:1<=p.nx/\p.nx<=16*p.tk+1:=hn
  have hnw:ID p.se p.fl=0:=by
   unfold PK.F9 at c0;split at c0
   ·cases c0
   ·rw [l1,l2] at c0
    split at c0
    ·rename_i q;exact absurd rfl q
    split at c0
    ·rename_i q;exact absurd c0 q
    ·exact c0
  have hA:1<=JY p.se p.fl/\JY p.se p.fl<=p.nx/\∀x∈vl,x.1<JY p.se p.fl:=by
   unfold ID at hnw;unfold JY;rw [l1,l2] at hnw|-;simp only [ne_eq,not_true_eq_false,FQ] at hnw|-;split
   ·rename_i q
    rw [xM q];exact ⟨A0,hn.1,λx hx=>QK⟩
   ·rename_i q
    rw [AE q] at hnw;split
    ·rename_i q2;rw [AD q2] at hnw;cases hnw
    ·have hm:Ag vl ((M vl:Y)-1)∈vl:=J8 A0 A0
     have b1:=(LQ.1<|(GH h1.lv).2 _ hm).1.1
     have b2:(Ag vl<|(M vl:Y)-1).1<p.nx:=(h2 _ hm).1
     refine ⟨A0,A0,λx hx=>?_⟩
     rw [aDm (l:=vl) A0,BX,HI] at hx;rcases hx with hx|rfl
     ·have:=h1.lv
      rw [aDm (l:=vl) A0] at this
      have:=(List.pairwise_append.1 (rY.1 this).2.2).2.2 x hx _<|HI.2 rfl
      have:=this.1
      omega
     ·omega
  refine ⟨h.kt,⟨hA.1,by show JY p.se p.fl<=16*p.tk+1;omega⟩,?_,vl,g,h1,λx hx=>⟨hA.2.2 x hx,(h2 x hx).2⟩⟩
  show B4 (BB (Ad p.se p.fl) p.tk)=U/\∀x∈BB (Ad p.se p.fl) p.tk,_
  rw [l2];refine ⟨vS h1.lv,λx hx=>?_⟩
  unfold BB at hx;split at hx
  ·exact (h2 x (CS.1 hx).1).2
  ·cases hx
 ·rw [c]
  refine ⟨?_,h.sg⟩;unfold PK.I4 at c0;split at c0
  ·cases c0
  split at c0
  ·cases c0
  ·rename_i c1
   exact (Q5 _).mp c1
 ·rw [c];exact ⟨h.kt,h.sg.nx,h.sg.ls,h.sg.vl⟩
def aSz {cs:aWl}{os:aWg}{ks:aWr}{gs:aWh}{bs:aWs}{dr:aWd}(h:DB cs os ks gs bs dr=0):TG (newP cs os ks gs bs dr):=by
 have hJ:=ua h
 have hp:newP cs os ks gs bs dr=_:=AE (by rw [h];decide)
 rw [hp] at hJ|-;refine ⟨?_,⟨(by decide:(1:Y)<=1),(by decide:(1:Y)<=16*0+1)⟩,⟨rfl,λx hx=>QK⟩,[],0,⟨rfl,rfl,⟨0,1019,_,fp⟩,Co _⟩,λx hx=>QK⟩
 have e:E0 cs (cs.map λc=>c.2.2.1) (M<|cs.map λc=>c.2.2.1)=cs:=aJw (NM _) λj hj=>by
  rw [NM] at hj;rw [WR _ AI,AD bH,Qj hj]
  have:gi (cs.map λc=>c.2.2.1) (j:Y)=cs[j].2.2.1:=by rw [IW bH];simp
  rw [this];rfl
 show E9 (E0 cs (cs.map λc=>c.2.2.1)<|M<|cs.map λc=>c.2.2.1) gs (Bv gs)=U
 rw [e];unfold DB at h;split at h
 ·cases h
 split at h
 ·cases h
 split at h
 ·cases h
 ·rename_i c
  exact (Q5 _).mp c
end Go.Proofs.YtoifmkifedcnnaaGreatDoor
namespace Go.Proofs.YtoifmkifedcnnaaGreatDoor
set_option maxRecDepth 100000
set_option maxHeartbeats 4000000
open Go.Proofs.Tryz
open Go.Sx
def anS {c:Ch}{s:St}{k n m:Y}(h:sV c s=U) (hl:0<(Ej c s k n m).2.2.1):
  (k=7/\(Ej c s k n m).2.1=n/\(Ej c s k n m).2.2.1=m)\/(0<s.2.2.1/\(Ej c s k n m).2.1=s.2.1/\(Ej c s k n m).2.2.1<=s.2.2.1-(if k=8 then 1 else 0)):=by
 have hv:=P6.1 h
 by_cases he:sE c s k n m=0
 ·have e:Ej c s k n m=(IC s.1 s.2.2.2 k n,sA s.2.1 s.2.2.1 k n,sL s.2.2.1 k m,sW s.2.2.2 k n):=by unfold Ej sN;rw [AD he,AD he]
  rw [e] at hl|-;simp only [sL,sA] at hl|-
  by_cases h7:k=7
  ·rw [AD h7,AD h7]
   exact .inl ⟨h7,rfl,rfl⟩
  ·right
   rw [AE h7] at hl;rw [AE h7,AE h7]
   by_cases h8:k=8
   ·rw [AD h8] at hl
    rw [AD h8,AD h8,AD h8]
    have ht:tkF s.2.2.1<=s.2.2.1-1:=by
     unfold tkF at hl|-;split
     ·exact Co _
     ·rename_i q;rw [AE q] at hl;omega
    rw [AE A0];exact ⟨A0,rfl,ht⟩
   ·rw [AE h8] at hl
    rw [AE h8,AE h8,AE h8]
    by_cases h9:k=9
    ·rw [AD h9] at hl;omega
    ·rw [AE h9] at hl
     rw [AE h9,AE h9];exact ⟨hl,rfl,A0⟩
 ·have e:Ej c s k n m=s:=AE he
  rw [e] at hl|-;refine .inr ⟨hl,rfl,?_⟩
  by_cases h8:k=8
  ·exfalso
   subst h8;refine he ?_;unfold sE;rw [AD h,AD Ab,AD<|by simp [evV]]
   have:IC s.1 s.2.2.2 8 n=s.1:=by simp [IC]
   rw [this,AE A0]
  ·rw [AE h8];omega
def Fo (gs:aWh) (W:Y->Y->Y->Prop) (j:Y) (s:St):Prop:=sV (AG gs j) s=U/\(0<s.2.2.1->W j s.2.1 s.2.2.1)
def Fo.gv {gs:aWh}{W W':Y->Y->Y->Prop}{j k n m:Y}{s:St}(h:Fo gs W j s) (hw:∀a l l',W j a l->l'<=l-(if k=8 then 1 else 0)->W' j a l') (hm:k=7->W' j n m):Fo gs W' j (Ej (AG gs j) s k n m):=by
 refine ⟨ve h.1,λhl=>?_⟩
 rcases anS h.1 hl with ⟨e,e1,e2⟩ |⟨e,e1,e2⟩
 ·rw [e1,e2];exact hm e
 ·rw [e1];exact hw _ _ _ (h.2 e) e2
def Fo.le {gs:aWh}{W W':Y->Y->Y->Prop}{j:Y}{s:St}(h:Fo gs W j s) (hw:∀a l,0<l->W j a l->W' j a l):Fo gs W' j s:=⟨h.1,λhl=>hw _ _ hl<|h.2 hl⟩
def WL (vl:aWn) (f:Y->Y->Y) (b:Y->Y) (j a l:Y):Prop:=∃x∈vl,x.2.1=j/\x.2.2.1=a/\l+b j<=12+f j (x.2.2.2.1+4)
def WL.le {vl:aWn}{f:Y->Y->Y}{b:Y->Y}{j a l l':Y}(h:WL vl f b j a l) (hl:l'<=l):WL vl f b j a l':=by
 obtain ⟨x,h1,h2,h3,h4⟩:=h;exact ⟨x,h1,h2,h3,A0⟩
def aa9 {gs:aWh}{vl:aWn}{f:Y->Y->Y}{b:Y->Y}{st:aWE}(h:CX gs (Fo gs<|WL vl f b) st) {i:Y}(h0:0<=i) (h1:i<(M gs:Y)):∀k:aWe,CX gs (Fo gs<|WL vl f (λj=>if j=i then b j+k else b j)) (Lo gs st i k)
 |0=>⟨h.1,λj j0 j1=>(h.2 j j0 j1).le λa l _ ⟨x,q1,q2,q3,q4⟩=>⟨x,q1,q2,q3,by (try simp only []);split<;>omega⟩⟩
 | k+1=>by
  have ih:=aa9 h h0 h1 k
  unfold Lo;refine ⟨J7.trans ih.1,λj j0 j1=>?_⟩
  rw [vf h0 (by rw [ih.1];exact h1) j0]
  have hj:=ih.2 j j0 j1
  split
  ·rename_i e
   subst e;refine hj.gv (λa l l' ⟨x,q1,q2,q3,q4⟩ hl=>⟨x,q1,q2,q3,?_⟩) λe=>QJ
   have q4:l+(if j=j then b j+(k:Y) else b j)<=_:=q4
   rw [AD rfl] at q4 hl
   show l'+(if j=j then b j+((k+1:aWe):Y) else b j)<=_
   rw [AD rfl];omega
  ·rename_i e
   refine hj.le λa l _ ⟨x,q1,q2,q3,q4⟩=>⟨x,q1,q2,q3,?_⟩
   have q4:l+(if j=i then b j+(k:Y) else b j)<=_:=q4
   rw [AE e] at q4
   show l+(if j=i then b j+((k+1:aWe):Y) else b j)<=_
   rw [AE e];exact q4
def aaL {gs:aWh}{vl:aWn}{f:Y->Y->Y}{st:aWE}{dr:aWd}{t:Y}(h:CX gs (Fo gs<|WL vl f λj=>BE t<|gi dr j) st) (hd:∀j:Y,0<=j->j<(M dr:Y)->-200<=gi dr j/\gi dr j<=200) (hl:M dr=M gs) (ht:0<=t/\t<1000000):
  ∀n:aWe,n<=M dr->CX gs (Fo gs<|WL vl f (λj=>if j<n then BE (t+1) (gi dr j) else BE t (gi dr j))) (L3 gs dr t st n)
 | 0,_=>⟨h.1,λj j0 j1=>by
   refine (h.2 j j0 j1).le λa l _ ⟨x,q1,q2,q3,q4⟩=>⟨x,q1,q2,q3,?_⟩
   show l+(if j<((0:aWe):Y) then BE (t+1) (gi dr j) else BE t (gi dr j))<=_
   rw [AE A0];exact q4⟩
 | n+1,hn=>by
  have ih:=aaL h hd hl ht n A0
  have hdn:=hd (n:Y) A0 A0
  have hs:HW t (gi dr n)=0/\HW (t+1) (gi dr n)=0:=by
   exact aN2
  have ho:=pQ (t:=t) (t':=t+1) hdn ht.1 A0 A0
  unfold L3;rw [AD hs]
  have:=aa9 ih (i:=(n:Y)) A0 A0 (BE (t+1) (gi dr n)-BE t (gi dr n)).toNat
  refine ⟨this.1,λj j0 j1=>(this.2 j j0 j1).le λa l _ ⟨x,q1,q2,q3,q4⟩=>⟨x,q1,q2,q3,?_⟩⟩
  have q4:l+(if j=(n:Y) then (if j<(n:Y) then BE (t+1) (gi dr j) else BE t (gi dr j))+(((BE (t+1) (gi dr n)-BE t (gi dr n)).toNat:aWe):Y) else (if j<(n:Y) then BE (t+1) (gi dr j) else BE t (gi dr j)))<=_:=q4
  show l+(if j<((n+1:aWe):Y) then BE (t+1) (gi dr j) else BE t (gi dr j))<=_
  by_cases ej:j=n
  ·subst ej
   rw [AD rfl,AE A0] at q4;rw [AD A0];omega
  ·rw [AE ej] at q4
   by_cases hj:j<(n:Y)
   ·rw [AD hj] at q4;rw [AD A0];exact q4
   ·rw [AE hj] at q4;rw [AE A0];exact q4
def az7 {d t t':Y}(hd:-200<=d/\d<=200) (h0:0<=t) (h1:t+13<=t') (h2:t'<=1000000):BE t' d-BE t d>=12:=by
 unfold BE;rw [AD VZ,AD VZ]
 have:(t+13)*(1000000+d)<=t'*(1000000+d):=M6 A0 A0
 have e:(t+13)*(1000000+d)=t*(1000000+d)+13*(1000000+d):=m7 _ _ _
 omega
def aTu {x:Le}(h:x.2.2.2.2=12):DH x=x.2.2.2.1+23:=by
 unfold DH;rw [h,show wt 12=13 by decide];omega
def WJ (vl:aWn) (dr:aWd) (t:Y):Y->Y->Y->Prop:=WL vl (λj u=>BE u<|gi dr j) λj=>BE t<|gi dr j
def aqt {vl:aWn}{dr:aWd}{t j a l:Y}(h:WJ vl dr t j a l) (hl:0<l) (hd:-200<=gi dr j/\gi dr j<=200) (ht:t<=1000000) (hv:∀x∈vl,0<=x.2.2.2.1):
  ∃x∈vl,x.2.1=j/\x.2.2.1=a/\l+BE t (gi dr j)<=12+BE (x.2.2.2.1+4) (gi dr j)/\t<=x.2.2.2.1+16:=by
 obtain ⟨x,h1,h2,h3,h4⟩:=h
 have h4:l+BE t (gi dr j)<=12+BE (x.2.2.2.1+4) (gi dr j):=h4
 refine ⟨x,h1,h2,h3,h4,aM2.1 λc=>?_⟩
 have:=az7 (t:=x.2.2.2.1+4) (t':=t) hd (by have:=hv x h1;omega) A0 ht
 omega
def Fo.vl {gs:aWh}{dr:aWd}{t j:Y}{vl vl':aWn}{s:St}(h:Fo gs (WJ vl dr t) j s) (hd:-200<=gi dr j/\gi dr j<=200) (ht:t<=1000) (hT:∀x∈vl,0<=x.2.2.2.1/\DH x=x.2.2.2.1+23) (hk:∀y∈vl,DH y>t->y∈vl'):Fo gs (WJ vl' dr t) j s:=
 h.le λa l hl hw=>by
  obtain ⟨x,h1,h2,h3,h4,h5⟩:=aqt hw hl hd A0 λx hx=>(hT x hx).1
  exact ⟨x,hk x h1 (by have:=(hT x h1).2;omega),h2,h3,h4⟩
def atf {l:aWn}{x y:Le}{t:Y}(hv:B4 l=U) (ht:0<=t/\t<=1000) (hy:y∈l) (he:DH y>t):y∈kpV l x t:=by
 unfold kpV BB;rw [AD (by unfold JF;rw [hv,BV.2 A0];rfl)]
 exact BX.2<|.inl<|CS.2 ⟨hy,Cg he⟩
def ath {l:aWn}{x:Le}{t:Y}:x∈kpV l x t:=by unfold kpV;simp
def SK (t:Y) (k0:aWN) (v0 xs:aWn) (s:SN):Prop:=
 ∃vl g,VI s.se s.fl vl g/\((∀y∈v0,DH y>t->y∈vl)/\∀y∈vl,y∈v0\/y∈xs)/\(∀y∈vl,DH y>t->y∈s.ls)/\(∀y∈s.ls,DH y>t->y∈vl)/\∀l∈s.lk,l∈k0\/(l.2∈vl/\DH l.2>t/\t<=l.1/\l.1<=l.2.2.2.2.1+4)
def SK.snd {t:Y}{k0:aWN}{v0 xs:aWn}{s:SN}(h:SK t k0 v0 xs s) (ht:0<=t/\t<=1000) {x:Le}(hm:x∈xs) (hf:x.2.2.2.1=t) (hx:x.2.2.2.2=12) (h0:0<=x.2.1):SK t k0 v0 xs (FA t s x):=by
 unfold FA;split
 ·rename_i hc
  obtain ⟨vl,g,h1,⟨h2,h6⟩,h3,h4,h5⟩:=h;obtain ⟨vl',g',q1,q2,q3,q4⟩:=zc h1 hc.2
  have e:GJ s.ls x=s.ls++[x]:=yf
  have hex:DH x>t:=by rw [aTu hx,hf];omega
  have old:∀y∈vl,DH y>t->y∈vl':=λy hy he=>by
   rcases q2 with e2|e2<;>rw [e2]
   ·exact BX.2<|.inl hy
   ·exact atf h1.lv ht hy he
  have new:x∈vl':=by
   rcases q2 with e2|e2<;>rw [e2]
   ·simp
   ·exact ath
  have sub:∀y∈vl',y∈vl\/y=x:=λy hy=>by
   have:y∈vl++[x]:=by
    exact aNt
   simpa using this
  refine ⟨vl',g',q1,⟨λy hy he=>old y (h2 y hy he) he,λy hy=>?_⟩,λy hy he=>?_,λy hy he=>?_,λl hl=>?_⟩
  ·rcases sub y hy with c|rfl
   ·exact h6 y c
   ·exact .inr hm
  ·show y∈GJ s.ls x
   rw [e];rcases sub y hy with c|rfl
   ·exact BX.2<|.inl<|h3 y c he
   ·simp
  ·have hy:y∈GJ s.ls x:=hy
   rw [e] at hy;rcases BX.1 hy with c|c
   ·exact old y (h4 y c he) he
   ·rw [HI.1 c];exact new
  ·have hl:l∈s.lk++[Te t x]:=hl
   rcases BX.1 hl with c|c
   ·rcases h5 l c with q|⟨a1,a2,a3,a4⟩
    ·exact .inl q
    ·exact .inr ⟨old _ a1 a2,a2,a3,a4⟩
   ·rw [HI.1 c]
    have hm:0<=(7*t+3*x.2.1).tmod 5/\(7*t+3*x.2.1).tmod 5<=4:=by rw [xE A0];omega
    exact .inr ⟨new,hex,by show t<=t+(7*t+3*x.2.1).tmod 5;omega,by show t+(7*t+3*x.2.1).tmod 5<=x.2.2.2.1+4;omega⟩
 ·exact h
def SK.EK {t:Y}{k0:aWN}{v0:aWn}{s:SN}{xs:aWn}(h:SK t k0 v0 xs s) (ht:0<=t/\t<=1000) (hx:∀k:aWe,k<M xs->(Ag xs k).2.2.2.1=t/\(Ag xs k).2.2.2.2=12/\0<=(Ag xs k).2.1):∀n,n<=M xs->SK t k0 v0 xs (EK t xs s n)
 |0,_=>h
 |n+1,hn=>by
  obtain ⟨h1,h2,h3⟩:=hx n A0;exact (h.EK ht hx n A0).snd ht (J8 A0 A0) h1 h2 h3
variable {p : PK}
def TG.vl (g:TG p):∃k,VI p.se p.fl (Ad p.se p.fl) k/\∀x∈Ad p.se p.fl,x.1<p.nx/\TL (M p.gs) p.tk x:=by
 obtain ⟨vl,k,h1,h2⟩:=g.sg.vl
 have e:Ad p.se p.fl=vl:=h1.ld.2
 rw [e];exact ⟨k,h1,h2⟩
def TG.v23 (g:TG p):∀x∈Ad p.se p.fl,0<=x.2.2.2.1/\DH x=x.2.2.2.1+23:=λx hx=>by
 obtain ⟨k,h1,h2⟩:=g.vl;exact ⟨(LQ.1<|(GH h1.lv).2 x hx).2.2.2.1.1,aTu (h2 x hx).2.2.1⟩
structure LX (p:PK):Prop where
 up:p.up=U->(∀y∈Ad p.se p.fl,DH y>p.tk->y∈p.ls)/\∀y∈p.ls,DH y>p.tk->y∈Ad p.se p.fl
 dn:p.up=X->p.ls=[]
 st:CX p.gs (Fo p.gs (WJ (Ad p.se p.fl) p.dr p.tk)) p.st
 lk:∀l∈p.lk,l.2∈Ad p.se p.fl/\p.tk<=l.1/\l.1<=l.2.2.2.2.1+4
def LX.dec (h:LX p) (g:TG p) (hJ:JP p) (ht:p.tk<=1000):(p.up=U->(∀y∈Ad p.AM.se p.AM.fl,DH y>p.tk->y∈p.AM.ls)/\∀y∈p.AM.ls,DH y>p.tk->y∈Ad p.AM.se p.AM.fl)/\(p.up=X->p.AM.ls=[])/\
  ((∀y∈Ad p.se p.fl,DH y>p.tk->y∈Ad p.AM.se p.AM.fl)/\∀y∈Ad p.AM.se p.AM.fl,y∈Ad p.se p.fl\/(p.up=U/\p.dE=0/\y∈p.dL))/\∀l∈p.AM.lk,l.2∈Ad p.AM.se p.AM.fl/\p.tk<=l.1/\l.1<=l.2.2.2.2.1+4:=by
 have htk:=hJ.1.1.tk
 have hx:=vT hJ
 unfold PK.AM;split
 ·rename_i hu
  exact ⟨λc=>yX,h.dn,⟨λy hy _=>hy,λy hy=> .inl hy⟩,h.lk⟩
 rename_i hu
 have hu:p.up=true:=by simpa using hu
 obtain ⟨u1,u2⟩:=h.up hu
 have x1:∀y,DH y>p.tk->(y∈Dn p.ls p.tk↔y∈p.ls):=λy he=>by
  rw [hx,CS];exact ⟨λc=>c.1,λc=>⟨c,Cg he⟩⟩
 split
 ·exact ⟨λ_=>⟨λy hy he=>(x1 y he).2<|u1 y hy he,λy hy he=>u2 y ((x1 y he).1 hy) he⟩,λc=>yX,⟨λy hy _=>hy,λy hy=> .inl hy⟩,h.lk⟩
 ·rename_i hd
  obtain ⟨V,M,hl⟩:=aBO<|Zl.1 hd;obtain ⟨k,v1,v2⟩:=g.vl
  have v3:=g.v23
  have s0:SK p.tk p.lk (Ad p.se p.fl) p.dL p.HA:=⟨_,k,v1,⟨λy hy _=>hy,λy hy=> .inl hy⟩,λy hy he=>(x1 y he).2<|u1 y hy he,λy hy he=>u2 y ((x1 y he).1 hy) he,λl hl=> .inl hl⟩
  obtain ⟨vl,k',w1,⟨w2,w6⟩,w3,w4,w5⟩:=s0.EK (xs:=p.dL) ⟨htk.1,ht⟩ (λi hi=>by
   have q:=M.at_ i A0 A0
   rw [q.1];exact ⟨rfl,rfl,q.2.1.1⟩) _<|At _
  have e:Ad p.sn1.se p.sn1.fl=vl:=w1.ld.2
  have w3:∀y∈vl,DH y>p.tk->y∈p.sn1.ls:=w3
  have w4:∀y∈p.sn1.ls,DH y>p.tk->y∈vl:=w4
  simp only [e];refine ⟨λ_=>⟨w3,w4⟩,λc=>yX,⟨w2,λy hy=>(w6 y hy).imp id λc=>⟨hu,Zl.1 hd,c⟩⟩,λl hl=>?_⟩
  rcases w5 l hl with q|⟨a1,a2,a3,a4⟩
  ·obtain ⟨b1,b2,b3⟩:=h.lk l q
   exact ⟨w2 _ b1 (by have:=(v3 _ b1).2;omega),b2,b3⟩
  ·exact ⟨a1,a3,a4⟩
def LX.tick (h:LX p) (g:TG p) (hJ:JP p) (ht:p.tk<=1000):LX p.Bh/\CX p.gs (Fo p.gs<|WJ (Ad p.AM.se p.AM.fl) p.dr<|p.tk+1) p.Ay.st:=by
 obtain ⟨e1,e2,e3,e4,e5,e6,e7,e8,e9,e10,e11,e12,e13,e14⟩:=KO p
 have hv:=hJ.1.1
 have htk:=hv.tk
 have hvd:=hv.dec
 obtain ⟨d1,d2,d3,d4⟩:=h.dec g hJ ht
 have hdr:∀j:Y,0<=j->j<(M p.gs:Y)->-200<=gi p.dr j/\gi p.dr j<=200:=λj j0 j1=>U8 hv j j0 ya
 have s0:CX p.gs (Fo p.gs<|WJ (Ad p.AM.se p.AM.fl) p.dr p.tk) p.st:=⟨h.st.1,λj j0 j1=>(h.st.2 j j0 j1).vl (hdr j j0 j1) ht g.v23 d3.1⟩
 have s1:CX p.gs (Fo p.gs<|WJ (Ad p.AM.se p.AM.fl) p.dr p.tk) p.AM.JO.st:=by
  show CX p.gs _ (Ly p.AM.gs p.AM.lk p.AM.tk p.AM.st<|M p.AM.lk)
  rw [e4,e6,e8];refine s0.arr (t:=p.tk) (λl hl'=>⟨by have:=hvd.lk l hl';rwa [e4] at this,λc s hs=>hs.gv (λa u u' hw hu=>WL.le hw aPI) λ_=>?_⟩) _<|At _
  obtain ⟨b1,b2,b3⟩:=d4 l hl'
  have c1:=hvd.lk l hl'
  rw [e4] at c1
  have ht12:l.2.2.2.2.2=12:=by
   have:=(g.dec hJ).vl
   obtain ⟨vl,k,w1,w2⟩:=this
   have e:Ad p.AM.se p.AM.fl=vl:=w1.ld.2
   rw [e] at b1;exact (w2 _ b1).2.2.1
  refine ⟨l.2,b1,rfl,rfl,?_⟩
  show l.2.2.2.2.2+BE p.tk (gi p.dr l.2.2.1)<=12+BE (l.2.2.2.2.1+4) (gi p.dr l.2.2.1)
  have:=pQ (t:=p.tk) (t':=l.2.2.2.2.1+4) (hdr _ c1.1 c1.2) htk.1 A0 (by
   have:=(g.dec hJ).vl
   obtain ⟨vl,k,w1,w2⟩:=this
   have e:Ad p.AM.se p.AM.fl=vl:=w1.ld.2
   rw [e] at b1
   have:=(w2 _ b1).2.1
   omega)
  omega
 have s2:CX p.gs (Fo p.gs<|WJ (Ad p.AM.se p.AM.fl) p.dr<|p.tk+1) p.Ay.st:=by
  have:=aaL (t:=p.tk) (dr:=p.dr) s1 (U8 hv) hv.dr A0 (M p.dr)<|At _
  show CX p.gs _ (L3 p.AM.gs p.AM.dr p.AM.tk p.AM.JO.st<|M p.AM.dr)
  rw [e4,e13,e6];refine ⟨this.1,λj j0 j1=>(this.2 j j0 j1).le λa l _ ⟨x,q1,q2,q3,q4⟩=>⟨x,q1,q2,q3,?_⟩⟩
  have q4:l+(if j<((M p.dr:aWe):Y) then BE (p.tk+1) (gi p.dr j) else BE p.tk (gi p.dr j))<=_:=q4
  rw [AD ya] at q4;exact q4
 have f4:p.Ay.gs=p.gs:=e4
 have s3:CX p.gs (Fo p.gs<|WJ (Ad p.AM.se p.AM.fl) p.dr<|p.tk+1) p.Ay.dw.st:=by
  have:=CX.dw (gs:=p.gs) (ca:=p.Ay.ca) (s:=⟨p.Ay.st,p.Ay.mi,p.Ay.me,aq (M p.Ay.gs) 0⟩) s2 (λj s hs=>hs.gv (λa u u' hw hu=>WL.le hw aPI) λhk=>NG) (M p.gs)<|At _
  show CX p.gs _ (FL p.Ay.gs p.Ay.ca _<|M p.Ay.gs).st
  rw [f4];rw [f4] at this;exact this
 have et:p.Bh.tk=p.tk+1:=B3 (·+1) e6
 have eg:p.Bh.gs=p.gs:=e4
 have ed:p.Bh.dr=p.dr:=e13
 have eu:p.Bh.up=p.up:=e7
 have es:p.Bh.se=p.AM.se:=rfl
 have ef:p.Bh.fl=p.AM.fl:=rfl
 have el:p.Bh.ls=p.AM.ls:=rfl
 have ek:p.Bh.st=p.Ay.dw.st:=rfl
 refine ⟨⟨?_,?_,?_,?_⟩,s2⟩
 ·rw [es,ef,el,et,eu]
  intro c;obtain ⟨c1,c2⟩:=d1 c;exact ⟨λy hy he=>c1 y hy<|Int.lt_trans (Int.lt_succ p.tk) he,λy hy he=>c2 y hy<|Int.lt_trans (Int.lt_succ p.tk) he⟩
 ·rw [eu,el]
  exact d2
 ·rw [eg,ed,et,es,ef,ek]
  exact s3
 rw [es,ef];intro l hl
 have hm:l∈p.AM.lk/\an (l.1>p.AM.tk)=true:=CS.1 hl
 have h4:=d4 l hm.1
 have h2:=D5 hm.2
 rw [e6] at h2;rw [et];exact ⟨h4.1,Int.add_one_le_iff.2 h2,h4.2.2⟩
def LX.step (h:LX p) (g:TG p) (hJ:JP p) (ht:p.tk<=1000) {e:EV}(he:BC p e=0):LX (An p e):=by
 have hv:=hJ.1.1
 unfold An;rw [AE A0];unfold BC at he;rw [AE mm] at he
 have cr:∀ {i:Y},p.isC i≠X->0<=i/\i<(M p.gs:Y):=λ{i} hh=>by
  exact aNb
 have gv:∀ {st:aWE} {i k n m:Y},CX p.gs (Fo p.gs<|WJ (Ad p.se p.fl) p.dr p.tk) st->(0<=i/\i<(M p.gs:Y))->k≠7/\k≠8->CX p.gs (Fo p.gs<|WJ (Ad p.se p.fl) p.dr p.tk) (CY p.gs st i k n m):=λ{st i k n m} hs hi hk=>
  hs.gv hi.1 hi.2 λhs=>hs.gv (λa u u' hw hu=>WL.le hw (by rw [AE hk.2] at hu;omega)) λc=>absurd c hk.1
 split
 ·exact (h.tick g hJ ht).1
 rename_i h1;rw [AE h1] at he;split
 ·rename_i h2
  rw [AD h2] at he;unfold PK.GI at he;split at he
  ·cases he
  rename_i hi
  have hi:=cr hi
  exact {h with st:=gv (gv (gv (gv h.st hi Ab) hi Ab) hi Ab) hi Ab}
 rename_i h2;rw [AE h2] at he;split
 ·rename_i h3
  rw [AD h3] at he;unfold PK.JB at he;split at he
  ·cases he
  rename_i hi
  have hi:=cr hi
  exact {h with st:=gv (gv h.st hi Ab) hi Ab}
 rename_i h3;rw [AE h3] at he;split
 ·exact {h with lk:=λl hl=>h.lk l (CS.1 hl).1}
 rename_i h4;rw [AE h4] at he;split
 ·exact ⟨λc=>Em,λ_=>rfl,h.st,h.lk⟩
 rename_i h5;rw [AE h5] at he;split
 ·refine ⟨λ_=>?_,λc=>Em,h.st,h.lk⟩
  obtain ⟨k,v1,v2⟩:=g.vl
  have htk:=hv.tk
  have e:BB (Ad p.se p.fl) p.tk=(Ad p.se p.fl).filter (L1 p.tk):=AD (by unfold JF;rw [v1.lv,BV.2 A0];rfl)
  show (∀y∈Ad p.se p.fl,DH y>p.tk->y∈BB (Ad p.se p.fl) p.tk)/\∀y∈BB (Ad p.se p.fl) p.tk,DH y>p.tk->y∈Ad p.se p.fl
  rw [e];exact ⟨λy hy he=>CS.2 ⟨hy,Cg he⟩,λy hy _=>(CS.1 hy).1⟩
 rename_i h6;rw [AE h6] at he;split
 ·rename_i h7
  rw [AD h7] at he;unfold PK.Nl at he;split at he
  ·cases he
  rename_i hi;exact {h with st:=gv h.st (cr hi) Ab}
 ·exact {h with}
def agM {cs:aWl}{os:aWg}{ks:aWr}{gs:aWh}{bs:aWs}{dr:aWd}(h:DB cs os ks gs bs dr=0):LX (newP cs os ks gs bs dr):=by
 have hp:newP cs os ks gs bs dr=_:=AE (by rw [h];decide)
 obtain ⟨vl,k,v1,v2⟩:=(aSz h).sg.vl
 have hs:=(aSy h).1.site
 rw [hp] at v1 hs|-
 have e:Ad (⟨512,Ds⟩:Int×List Int).1 Ds=[]:=(⟨rfl,rfl,⟨0,1019,_,fp⟩,Co _⟩:VI 512 Ds [] 0).ld.2
 refine ⟨λ_=>⟨λy hy _=>?_,λy hy=>(by cases hy)⟩,λc=>rfl,⟨Ci,λj j0 j1=>?_⟩,λl hl=>(by cases hl)⟩
 ·have hy:y∈Ad 512 Ds:=hy
  rw [show Ad 512 Ds=[] from e] at hy;exact hy
 ·have e0:BW (aq (M gs) ((0,0,0,X):St)) j=(0,0,0,X):=by
   unfold BW;rw [DJ,V9];split<;>rfl
  simp only [e0]
  have hc:=Ol hs j0 j1
  unfold GO chW at hc;simp only [AY,Cj,D3,BV] at hc;exact ⟨P6.2 ⟨fA.2 A0,Ab,(by decide:(0:Y)<=5),Ab,(by decide:(0:Y)<=1000000),Ab,by show (0:Y)<=(AG gs j).2.2.2.2.1;omega,λ_=>rfl,λc=>Em⟩,λc=>absurd c Ab⟩
structure LG (p:PK):Prop where
 tg:TG p
 lx:LX p
def LG.step (h:LG p) (hJ:JP p) (ht:p.tk<=1000) {e:EV}(he:BC p e=0):LG (An p e):=⟨h.tg.step hJ he,h.lx.step h.tg hJ ht he⟩
def agN {cs:aWl}{os:aWg}{ks:aWr}{gs:aWh}{bs:aWs}{dr:aWd}(h:DB cs os ks gs bs dr=0):LG (newP cs os ks gs bs dr):=⟨aSz h,agM h⟩
end Go.Proofs.YtoifmkifedcnnaaGreatDoor
namespace Go.Proofs.YtoifmkifedcnnaaGreatDoor
set_option maxRecDepth 100000
set_option maxHeartbeats 4000000
open Go.Proofs.Tryz
open Go.Sx
variable {p : PK}
def K7.refl (C:aWl):K7 C C:=⟨rfl,λ_=>rfl,λ_=>Co _⟩
def aAh (hv:VP p):BH p.EP p.os p.ks p.gs p.bs=true:=pF hv.site hv.tg1 _ yg
def frm (T:Y) (l:aWn):aWn:=l.filter λx=>an<|T<=x.2.2.2.1
def TM {T:Y}{l:aWn}{x:Le}:x∈frm T l↔x∈l/\T<=x.2.2.2.1:=by unfold frm;rw [CS,Aa]
def aBE {T:Y}{l:aWn}(h:B4 l=U):B4 (frm T l)=true:=pt h xX
end Go.Proofs.YtoifmkifedcnnaaGreatDoor
end
