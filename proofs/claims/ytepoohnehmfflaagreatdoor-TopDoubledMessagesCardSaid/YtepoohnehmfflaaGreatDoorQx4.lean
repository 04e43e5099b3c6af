/- Helpers for TopDoubledMessages:. Conditions: none. -/
import Derived.Test.YtepoohnehmfflaaGreatDoorQx3
set_option linter.defProp false
set_option linter.unusedVariables false
set_option linter.unusedSimpArgs false
noncomputable section
open List renaming length→M,length→aa,replicate→au,range→av
open Bool renaming true→U,true→ae,false→X,false→af
open Go.Value renaming int→ah
open Option renaming some→ai,none→ak
open Go.IntKind renaming i64→J,i64→aj,u8→ax,u32→ay
open True renaming intro→an
open Decidable renaming decide→aq
open ByteArray renaming mk→aw
open Go.Region renaming ready→az,wanted→aA
open Go.Instr renaming findNow→aB
namespace Go.Proofs.YtepoohnehmfflaaGreatDoor
set_option maxRecDepth 100000
set_option maxHeartbeats 4000000
open Go.Proofs.Tryz
open Go.Sx
def UG (s:EK):Prop:=s.ri=0/\(∀o∈Ft s,o=[])/\s.sums=au (M s.rows) 0/\s.rn=(M s.rows:Y)/\s.rn<=1000/\(∀r∈s.rows,(M r.2:Y)<=1000/\∀m∈r.2,0<=m/\m<16/\m<(M s.alive:Y))/\(∀a∈s.alive,0<=a/\a<=80)/\M s.sums=M s.rows
def My (s:EK):Prop:=(0<=s.ri/\s.ri<=s.rn)/\(∀o∈Ft s,(M o:Y)<=1000*s.ri)/\(∀k:aD,s.ri<=(k:Y)->s.sums.getD k 0=0)/\s.rn=(M s.rows:Y)/\s.rn<=1000/\(∀r∈s.rows,(M r.2:Y)<=1000/\∀m∈r.2,0<=m/\m<16/\m<(M s.alive:Y))/\(∀a∈s.alive,0<=a/\a<=80)/\M s.sums=M s.rows
def TZ (s:EK):aD:=(s.rn-s.ri).toNat
def l8 (x:Ex) (s s':EK):Prop:=x=.exit 0/\s'.ri=s'.rn
def alM:∀s,UG s->My s:=by
 rintro s ⟨h0,h1,h2,h3⟩
 refine ⟨A0,λo ho=>A8,λk _=>?_,h3⟩
 grind
def aSa (s:EK) (hI:My s) (c1:s.ri<s.rn):YC (MN s):=by
 obtain ⟨⟨h0,h1⟩,h2,h3,h4,h5,h6,h7,h8⟩:=hI
 have hr:=h6 (Cj s.rows s.ri) yi
 refine ⟨rfl,λo ho=>?_,?_,rfl,hr.1,hr.2,h7,h0,?_⟩
 ·have:=h2 o ho
  omega
 ·have:=h3 s.ri.toNat A0
  show 0<=s.sums.getD s.ri.toNat 0/\s.sums.getD s.ri.toNat 0<=1000
  omega
 ·show s.ri<(M s.sums:Y)
  omega
def aRc (s s':EK) (hI:My s) (c1:s.ri<s.rn) (hO:Ft s'=Gv (Gg<|MN s)) (hs:s'.sums=(Gg<|MN s).sums) (hk:s'.ri=AA (s.ri+1)) (hn:s'.rn=s.rn) (hl:s'.rows=s.rows) (ha:s'.alive=s.alive):
  (My s'/\TZ s'<TZ s)/\(λs:EK=>(HY (Ft s) s.ri<|s.rows.drop s.ri.toNat,HX s.alive s.sums s.ri<|s.rows.drop s.ri.toNat)) s'=(λs:EK=>(HY (Ft s) s.ri<|s.rows.drop s.ri.toNat,HX s.alive s.sums s.ri<|s.rows.drop s.ri.toNat)) s:=by
 obtain ⟨r1,r2⟩:=asY _<|aSa s hI c1;obtain ⟨⟨h0,h1⟩,h2,h3,h4,h5,h6,h7,h8⟩:=hI
 have hr:=h6 (Cj s.rows s.ri) yi
 rw [AJ (x:=s.ri+1)] at hk
 have r1:Gv (Gg<|MN s)=L9 s.ri (Ft s) (Cj s.rows s.ri).2:=r1
 have r2:(Gg<|MN s).sums=s.sums.set s.ri.toNat (s.sums.getD s.ri.toNat 0+smA s.alive (Cj s.rows s.ri).2):=r2
 refine ⟨⟨⟨⟨A0,A0⟩,λo ho=>?_,λk hk2=>?_,A8,A0,by rw [hl,ha];exact h6,by rw [ha];exact h7,A8⟩,by simp only [TZ];omega⟩,?_⟩
 ·rw [hO,r1] at ho
  have:=aJD h2 o ho
  have:=hr.1
  rw [hk];omega
 ·rw [hs,r2]
  have:=h3 k A0
  simp only [List.getD] at this|-;rw [Zh A0];exact this
 ·simp only
  rw [hO,hs,hl,ha,r1,r2,hk,(apv h0 (show s.ri<M s.rows by omega)).1]
  rfl
def asW (s s':EK) (hI:My s) (c1:s.ri<s.rn) (hO:Ft s'=Gv (Gg<|MN s)) (hs:s'.sums=(Gg<|MN s).sums) (hk:s'.ri=AA (s.ri+1)) (hn:s'.rn=s.rn) (hl:s'.rows=s.rows) (ha:s'.alive=s.alive):DH (λs'=>My s'/\TZ s'<TZ s) (λx s'=>l8 x s s') (.next s'):=(aRc s s' hI c1 hO hs hk hn hl ha).1
def asV (s s':EK) (hI:My s) (c1:s.ri<s.rn) (hO:Ft s'=Gv (Gg<|MN s)) (hs:s'.sums=(Gg<|MN s).sums) (hk:s'.ri=AA (s.ri+1)) (hn:s'.rn=s.rn) (hl:s'.rows=s.rows) (ha:s'.alive=s.alive):DH (λs'=>(λs:EK=>(HY (Ft s) s.ri<|s.rows.drop s.ri.toNat,HX s.alive s.sums s.ri<|s.rows.drop s.ri.toNat)) s'=(λs:EK=>(HY (Ft s) s.ri<|s.rows.drop s.ri.toNat,HX s.alive s.sums s.ri<|s.rows.drop s.ri.toNat)) s) (λ_ s'=>(λs:EK=>(HY (Ft s) s.ri<|s.rows.drop s.ri.toNat,HX s.alive s.sums s.ri<|s.rows.drop s.ri.toNat)) s'=(λs:EK=>(HY (Ft s) s.ri<|s.rows.drop s.ri.toNat,HX s.alive s.sums s.ri<|s.rows.drop s.ri.toNat)) s) (.next s'):=(aRc s s' hI c1 hO hs hk hn hl ha).2
def azV:Da My TZ l8 aAA:=by
 intro s hI;refine AH (λc1=>?_) λc1=>?_
 ·exact asW s _ hI A8 rfl rfl rfl rfl rfl rfl
 ·have c1:s.rn<=s.ri:=A8
  have h0:=hI.1
  exact VL
def PZ:AS EK:=⟨1,67,[2,7,23,24,25],[.ns 7 6 3 A7,.ns 7 7 3 A7,.ns 7 8 3 A7,.ns 7 9 3 A7,.ns 7 10 3 A7,.ns 7 11 3 A7,.ns 7 12 3 A7,.ns 7 13 3 A7,.ns 7 14 3 A7,.ns 7 15 3 A7,.ns 7 16 3 A7,.ns 7 17 3 A7,.ns 7 18 3 A7,.ns 7 19 3 A7,.ns 7 20 3 A7,.ns 7 21 3 A7],λs=>[.xl A7 s.alive,.own 1 0,.xl Eg s.rows,s.rn,s.ri],λs=>[⟨[s.KQ,s.KW,s.KU,s.KV,s.Kg],28,.cl,X⟩,⟨[s.Ha,s.HZ,s.Ef,s.B6,s.Hb,.xl Eg s.BI,.os 2 1 0<|M s.CM,.os 3 1 0<|M s.CL,.os 4 1 0<|M s.CK,.os 5 1 0<|M s.CJ,.os 6 1 0<|M s.CI,.os 7 1 0<|M s.CH,.os 8 1 0<|M s.CG,.os 9 1 0<|M s.CF,.os 10 1 0<|M s.CO,.os 11 1 0<|M s.CN,.os 12 1 0<|M s.CD,.os 13 1 0<|M s.CC,.os 14 1 0<|M s.CB,.os 15 1 0<|M s.CA,.os 16 1 0<|M s.C9,.os 17 1 0<|M s.C8,.os 18 1 0<|M s.sums,.xl A7 s.BJ,.os 19 1 0<|M s.levels],305,.cl,X⟩,bV 3 A7 s.CM,bV 3 A7 s.CL,bV 3 A7 s.CK,bV 3 A7 s.CJ,bV 3 A7 s.CI,bV 3 A7 s.CH,bV 3 A7 s.CG,bV 3 A7 s.CF,bV 3 A7 s.CO,bV 3 A7 s.CN,bV 3 A7 s.CD,bV 3 A7 s.CC,bV 3 A7 s.CB,bV 3 A7 s.CA,bV 3 A7 s.C9,bV 3 A7 s.C8,bV 3 A7 s.sums,bV 3 A7 s.levels],λv b=>⟨B3 A7 v 0,B3 Eg v 2,AL v 3,AL v 4,AF Ae b 0 0,AF .str b 0 1,AF Ak b 0 2,AF Af b 0 3,AF Al b 0 4,AF Ae b 1 0,AF .str b 1 1,AF Ak b 1 2,AF Af b 1 3,AF Al b 1 4,AF Eg b 1 5,AF A7 b 1 23,Ab A7 b 2,Ab A7 b 3,Ab A7 b 4,Ab A7 b 5,Ab A7 b 6,Ab A7 b 7,Ab A7 b 8,Ab A7 b 9,Ab A7 b 10,Ab A7 b 11,Ab A7 b 12,Ab A7 b 13,Ab A7 b 14,Ab A7 b 15,Ab A7 b 16,Ab A7 b 17,Ab A7 b 18,Ab A7 b 19⟩,aAA,λs r=> {s with ri:=r.ri,CM:=r.CM,CL:=r.CL,CK:=r.CK,CJ:=r.CJ,CI:=r.CI,CH:=r.CH,CG:=r.CG,CF:=r.CF,CO:=r.CO,CN:=r.CN,CD:=r.CD,CC:=r.CC,CB:=r.CB,CA:=r.CA,C9:=r.C9,C8:=r.C8,sums:=r.sums},λs=>s,λ_ s=>s,[.exit 0],UG,My,TZ⟩
abbrev Iz:=PZ.run
abbrev av8:=PZ.Av
def ayG:Rq My aAA:=by
 intro s hI;refine ⟨λc1=>⟨?_,A9,A9,A9,A9,A9,A9,A9,A9,A9,A9,A9,A9,A9,A9,A9,A9,A9,A9,?_,A9,A9,A9,A9,A9,A9,A9,A9,A9,A9,A9,A9,A9,A9,A9,A9,A9,A9,an⟩,λc1=>⟨A9,A9,A9,A9,A9,A9,A9,A9,A9,A9,A9,A9,A9,A9,A9,A9,A9,A9,an⟩⟩
 ·(obtain ⟨h0,h2,h3,h4,h5,h6,h7,h8⟩:=hI;simp only [Aa] at c1;omega)
 ·exact ⟨aSa s hI A8,rfl,rfl⟩
def uF:PZ.Ok:={}
def ub:PZ.Pf (l8):=⟨alM,λs h=>rfl,azV,ayG⟩
def fB:SA 1 aH7 PZ:=AS.snd uF ub (Gj (Γ:=Q4) (K:=aBo) (L:=(M0 (λi=>if i=6 then UK.lp else Ap i))) (gk Q4) aBo.h aH7 (λb hb=>by
 rw [show BD _=[aH8] by kernel_rfl] at hb
 simp only [B9,Bx,By] at hb;subst hb;exact arB)) λs=>AX
def asX:Fi UG My l8 av8 Iz:=AS.fin uF ub
def apI (s:EK) (hE:UG s):(λs:EK=>(HY (Ft s) s.ri<|s.rows.drop s.ri.toNat,HX s.alive s.sums s.ri<|s.rows.drop s.ri.toNat)) (Iz s)=(λs:EK=>(HY (Ft s) s.ri<|s.rows.drop s.ri.toNat,HX s.alive s.sums s.ri<|s.rows.drop s.ri.toNat)) s:=by
 exact AS.Kx uF ub (λs:EK=>(HY (Ft s) s.ri<|s.rows.drop s.ri.toNat,HX s.alive s.sums s.ri<|s.rows.drop s.ri.toNat)) (λs hI=>by
  refine AH (λc1=>?_) λc1=>?_
  ·exact asV s _ hI A8 rfl rfl rfl rfl rfl rfl
  ·rfl) s hE
def asU (s:EK) (hE:UG s):Ft (Iz s)=HY (Ft s) 0 s.rows/\(Iz s).sums=HX s.alive s.sums 0 s.rows:=by
 have q3:=apI s hE
 obtain ⟨s',hI,q1,q2⟩:=asX s hE;obtain ⟨h0,h1,h2,h3,h4,h5⟩:=hE
 have el:(Iz s).rows=s.rows:=rfl
 have en:(Iz s).rn=s.rn:=rfl
 have ea:(Iz s).alive=s.alive:=rfl
 simp only at q3;rw [q2,en,el,ea,Ei A0,h0] at q3;exact ⟨B0 Prod.fst q3,B0 Prod.snd q3⟩
structure Mt where
 r:aN
 l:aC
 (n i:Y)
 KQ:aL
 KW:aF
 KU:aR
 KV:aG
 Kg:aS
 Ha:aL
 HZ:aF
 Ef:aR
 B6:aG
 Hb:aS
 BI:aZ
 (CM CL CK CJ CI CH CG CF CO CN CD CC CB CA C9 C8 BJ sums levels:aC)
 ajP:bA
 (aoA aq9 anQ anR ajN aff avH more:Y)
def iz (s:Mt):T (Rd Mt):=letI a:=gi s.l s.i;.br (aq<|s.i<s.n) (.ix s.i (M s.l)<|.ik a (M s.sums)<|.ix a (M s.BI)<|.br (!(aq<|(AA<|(s.sums.getD a.toNat<|Ty.dflt A7)+s.more)<=(Cj s.BI a).1)) (.rl s.sums<|.rl s.levels<|.so (.ret) {s with r:=X})<|.rl s.sums<|.rl s.levels<|.nx {s with i:=AA<|s.i+1})<|.rl s.sums<|.rl s.levels<|.so (.exit 0) s
def Tp (s:Mt) (j:Y):aN:=L0 s.BI s.sums s.more<|gi s.l j
def YI (s:Mt):Prop:=s.i=0/\0<=s.n/\s.n<=1000/\s.n=(M s.l:Y)/\(∀r∈s.l,0<=r/\r<(M s.BI:Y))/\M s.sums=M s.BI/\(∀k:aD,0<=s.sums.getD k 0/\s.sums.getD k 0<=2000)/\(0<=s.more/\s.more<=10000)
def YW (s:Mt):Prop:=0<=s.i/\s.i<=s.n/\s.n<=1000/\(s.n=(M s.l:Y)/\(∀r∈s.l,0<=r/\r<(M s.BI:Y))/\M s.sums=M s.BI/\(∀k:aD,0<=s.sums.getD k 0/\s.sums.getD k 0<=2000)/\(0<=s.more/\s.more<=10000))/\∀j:aD,(j:Y)<s.i->Tp s j=U
def vD (s:Mt):aD:=(s.n-s.i).toNat
def aCG (x:Ex) (s s':Mt):Prop:=(x=.exit 0/\∀j:aD,(j:Y)<s'.n->Tp s' j=U)\/(x=.ret/\s'.r=X/\∃j:aD,(j:Y)<s'.n/\Tp s' j=X)
def amG:∀s,YI s->YW s:=by
 exact KN
def aif:Da YW vD aCG iz:=by
 intro s hI;unfold iz;obtain ⟨h0,h1,h2,h3,h4⟩:=hI;refine AH (λc1=>AH (λc2=>?_) λc2=>?_) λc1=>?_
 ·have c1:s.i<s.n:=AY
  refine .inr ⟨rfl,rfl,s.i.toNat,AZ,?_⟩
  have hg:Tp s s.i=false:=aOC
  exact hg
 ·have c1:s.i<s.n:=AY
  have hg:Tp s s.i=true:=aOC
  rw [AJ (x:=s.i+1)];refine ⟨⟨AZ,AZ,h2,h3,λj hj=>?_⟩,by simp only [vD];omega⟩
  exact LU
 ·exact Sn
def ZS:AS Mt:=⟨7,18,[1,4,7,8,9],[],λs=>[.fn 212 [.own 4 0,.own 6 0],s.r,.xl A7 s.l,s.n,s.i],λs=>[⟨[s.KQ,s.KW,s.KU,s.KV,s.Kg],28,.cl,X⟩,⟨[s.Ha,s.HZ,s.Ef,s.B6,s.Hb,.xl Eg s.BI,.xl A7 s.CM,.xl A7 s.CL,.xl A7 s.CK,.xl A7 s.CJ,.xl A7 s.CI,.xl A7 s.CH,.xl A7 s.CG,.xl A7 s.CF,.xl A7 s.CO,.xl A7 s.CN,.xl A7 s.CD,.xl A7 s.CC,.xl A7 s.CB,.xl A7 s.CA,.xl A7 s.C9,.xl A7 s.C8,.os 2 1 0<|M s.sums,.xl A7 s.BJ,.os 3 1 0<|M s.levels],305,.cl,X⟩,bV 3 A7 s.sums,bV 3 A7 s.levels,⟨[.own 1 0],301,.cl,X⟩,⟨[.v<|.string s.ajP,s.aoA,s.aq9,s.anQ,s.anR,s.ajN,s.aff,s.avH],85,.cl,X⟩,⟨[s.more],3,.cl,X⟩],λv b=>⟨Ds v 1,B3 A7 v 2,AL v 3,AL v 4,AF Ae b 0 0,AF .str b 0 1,AF Ak b 0 2,AF Af b 0 3,AF Al b 0 4,AF Ae b 1 0,AF .str b 1 1,AF Ak b 1 2,AF Af b 1 3,AF Al b 1 4,AF Eg b 1 5,AF A7 b 1 6,AF A7 b 1 7,AF A7 b 1 8,AF A7 b 1 9,AF A7 b 1 10,AF A7 b 1 11,AF A7 b 1 12,AF A7 b 1 13,AF A7 b 1 14,AF A7 b 1 15,AF A7 b 1 16,AF A7 b 1 17,AF A7 b 1 18,AF A7 b 1 19,AF A7 b 1 20,AF A7 b 1 21,AF A7 b 1 23,Ab A7 b 2,Ab A7 b 3,gSr<|BE (CX b 5) 0,Am b 5 1,Am b 5 2,Am b 5 3,Am b 5 4,Am b 5 5,Am b 5 6,Am b 5 7,Am b 6 0⟩,iz,λs r=> {s with r:=r.r,i:=r.i},λs=>s,λ_ s=>s,[.ret,.exit 0],YI,YW,vD⟩
abbrev fT:=ZS.run
abbrev fM:=ZS.Av
def U3:aO:=[Wl,XF,XE,XG]
def anB:Az:=kI U3<|la 3 func182 fB<|la 2 func180 WY<|l0 U3
def ay3:Rq YW iz:=by
 intro s hI;refine ⟨λc1=>⟨?_,?_,?_,?_,λc2=>⟨A9,A9,an⟩,λc2=>⟨A9,A9,an⟩⟩,λc1=>⟨A9,A9,an⟩⟩
 all_goals ((obtain ⟨h0,h1,h2,⟨e0,e1,e2,e3,e4⟩,h4⟩:=hI;simp only [Aa] at c1;have hm:=e1 (gi s.l s.i)<|Ki A0 A0;omega))
def aRh:ZS.Ok:={}
def aRK:ZS.Pf (aCG):=⟨amG,λs h=>rfl,aif,ay3⟩
def fw:=s2 (b:=bN f180 0) aRh aRK U3 anB
def auA:Fi YI YW aCG fM fT:=AS.fin aRh aRK
def dc (s:Mt) (hE:YI s):(fM s=.exit 0/\s.l.all (L0 s.BI s.sums s.more)=U)\/(fM s=.ret/\(fT s).r=X/\s.l.all (L0 s.BI s.sums s.more)=X):=by
 obtain ⟨s',hI,hq⟩:=auA s hE;obtain ⟨h0,h1,h2,h3,_⟩:=hE
 have en:(fT s).n=s.n:=rfl
 rcases hq with ⟨q1,q2⟩ |⟨q1,q2,j,q3,q4⟩
 ·exact .inl ⟨q1,(Ql (d:=(0:Y))).1 λj hj=>q2 j A0⟩
 ·exact aN8
structure K9 where
 (charger level:Y)
 l:aC
 (n i:Y)
 KQ:aL
 KW:aF
 KU:aR
 KV:aG
 Kg:aS
 Ha:aL
 HZ:aF
 Ef:aR
 B6:aG
 Hb:aS
 BI:aZ
 (CM CL CK CJ CI CH CG CF CO CN CD CC CB CA C9 C8 BJ sums levels:aC)
 more:Y
def aDE (s:K9):T (Rd K9):=letI b:=gi s.l s.i;letI c:=M s.sums;letI a:=s.sums.set b.toNat<|AA<|(s.sums.getD b.toNat<|Ty.dflt A7)+s.more;.br (aq<|s.i<s.n) (.ix s.i (M s.l)<|.ik b c<|.ik b c<|.re c a<|.rl s.levels<|.nx {s with i:=AA<|s.i+1,sums:=a})<|.rl s.sums<|.rl s.levels<|.so (.exit 0) s
def Vk (s:K9):Prop:=s.i=0/\(∀k:aD,0<=s.sums.getD k 0/\s.sums.getD k 0<=2000)/\s.n=(M s.l:Y)/\s.n<=1000/\(∀r∈s.l,0<=r/\r<(M s.sums:Y))/\(0<=s.more/\s.more<=10000)
def cq (s:K9):Prop:=(0<=s.i/\s.i<=s.n)/\(∀k:aD,0<=s.sums.getD k 0/\s.sums.getD k 0<=2000+10000*s.i)/\s.n=(M s.l:Y)/\s.n<=1000/\(∀r∈s.l,0<=r/\r<(M s.sums:Y))/\(0<=s.more/\s.more<=10000)
def aBM (s:K9):aD:=(s.n-s.i).toNat
def xL (x:Ex) (s s':K9):Prop:=x=.exit 0/\s'.i=s'.n
def aoL:∀s,Vk s->cq s:=by
 rintro s ⟨h0,h1,h2,h3⟩
 exact ⟨A0,λk=>A8,h2,h3⟩
def akY:Da cq aBM xL aDE:=by
 intro s hI;obtain ⟨⟨h0,h1⟩,h2,h3,h4,h5,h6⟩:=hI;refine AH (λc1=>?_) λc1=>?_
 ·have c1:s.i<s.n:=AY
  have hb:=h2 (gi s.l s.i).toNat
  rw [AJ (x:=s.i+1),AJ (x:=s.sums.getD (gi s.l s.i).toNat (Ty.dflt A7)+s.more) aO2 aNw];refine ⟨⟨⟨A8,A8⟩,λk=>?_,h3,h4,λr hr=>A8,h6⟩,by simp only [aBM];omega⟩
  simp only
  have hk:=h2 k
  rw [TC];split
  ·show 0<=s.sums.getD (gi s.l s.i).toNat 0+s.more/\s.sums.getD (gi s.l s.i).toNat 0+s.more<=_
   omega
  ·omega
 ·exact Sq
def Vl:AS K9:=⟨4,90,[1,2,6,7,66,67,68],[],λs=>[s.charger,.own 4 0,s.level,.own 5 0,.xl A7 s.l,s.n,s.i],λs=>[⟨[s.KQ,s.KW,s.KU,s.KV,s.Kg],28,.cl,X⟩,⟨[s.Ha,s.HZ,s.Ef,s.B6,s.Hb,.xl Eg s.BI,.xl A7 s.CM,.xl A7 s.CL,.xl A7 s.CK,.xl A7 s.CJ,.xl A7 s.CI,.xl A7 s.CH,.xl A7 s.CG,.xl A7 s.CF,.xl A7 s.CO,.xl A7 s.CN,.xl A7 s.CD,.xl A7 s.CC,.xl A7 s.CB,.xl A7 s.CA,.xl A7 s.C9,.xl A7 s.C8,.os 2 1 0<|M s.sums,.xl A7 s.BJ,.os 3 1 0<|M s.levels],305,.cl,X⟩,bV 3 A7 s.sums,bV 3 A7 s.levels,⟨[.own 1 0],301,.cl,X⟩,⟨[s.more],3,.cl,X⟩],λv b=>⟨AL v 0,AL v 2,B3 A7 v 4,AL v 5,AL v 6,AF Ae b 0 0,AF .str b 0 1,AF Ak b 0 2,AF Af b 0 3,AF Al b 0 4,AF Ae b 1 0,AF .str b 1 1,AF Ak b 1 2,AF Af b 1 3,AF Al b 1 4,AF Eg b 1 5,AF A7 b 1 6,AF A7 b 1 7,AF A7 b 1 8,AF A7 b 1 9,AF A7 b 1 10,AF A7 b 1 11,AF A7 b 1 12,AF A7 b 1 13,AF A7 b 1 14,AF A7 b 1 15,AF A7 b 1 16,AF A7 b 1 17,AF A7 b 1 18,AF A7 b 1 19,AF A7 b 1 20,AF A7 b 1 21,AF A7 b 1 23,Ab A7 b 2,Ab A7 b 3,Am b 5 0⟩,aDE,λs r=> {s with i:=r.i,sums:=r.sums},λs=>s,λ_ s=>s,[.exit 0],Vk,cq,aBM⟩
abbrev Ot:=Vl.run
abbrev aiX:=Vl.Av
def anA:Az:=kI U3<|la 2 func180 fw<|la 3 func182 fB<|la 2 func180 WY<|l0 U3
def aki:Rq cq aDE:=by
 intro s hI;refine ⟨λc1=>⟨?_,?_,?_,?_,?_,?_,A9,an⟩,λc1=>⟨A9,A9,an⟩⟩
 all_goals ((obtain ⟨⟨h0,h1⟩,h2,h3,h4,h5,h6⟩:=hI;(try simp only [Aa] at c1);first|(have hm:=h5 (gi s.l s.i)<|Ki A0 A0;omega) |exact ⟨rfl,AI⟩ |exact ⟨rfl,rfl⟩))
def aBJ:Vl.Ok:={}
def aB3:Vl.Pf (xL):=⟨aoL,λs h=>rfl,akY,aki⟩
def th:=s2 (b:=bN f184 0) aBJ aB3 U3 anA
def aya:Fi Vk cq xL aiX Ot:=AS.fin aBJ aB3
def asy (s:K9) (hE:Vk s):(λs:K9=>KC s.sums s.more<|s.l.drop s.i.toNat) (Ot s)=(λs:K9=>KC s.sums s.more<|s.l.drop s.i.toNat) s:=by
 exact AS.Kx aBJ aB3 (λs:K9=>KC s.sums s.more<|s.l.drop s.i.toNat) (λs hI=>by
  obtain ⟨⟨h0,h1⟩,h2,h3,h4,h5,h6⟩:=hI;refine AH (λc1=>?_) λc1=>rfl
  have c1:s.i<s.n:=A8
  have hb:=h2 (gi s.l s.i).toNat
  rw [AJ (x:=s.i+1),AJ (x:=s.sums.getD (gi s.l s.i).toNat (Ty.dflt A7)+s.more) aO2 aNw];rw [(gi_step h0 (show s.i<M s.l by omega)).1]
  rfl) s hE
def aPy (s:K9) (hE:Vk s):(Ot s).sums=KC s.sums s.more s.l:=by
 have q3:=asy s hE
 obtain ⟨s',hI,q1,q2⟩:=aya s hE;obtain ⟨h0,h1,h2,h3⟩:=hE;simp only at q3;rw [q2,show (Ot s).n=s.n from rfl,show (Ot s).l=s.l from rfl,show (Ot s).more=s.more from rfl,Ei A0,h0] at q3;exact q3
structure D8 where
 (most order:aC)
 (n level:Y)
 some:aN
 l:aC
 (m k:Y)
 BF:aL
 Bf:aF
 C6:aR
 BQ:aG
 C7:aS
 Ha:aL
 HZ:aF
 Ef:aR
 B6:aG
 Hb:aS
 BI:aZ
 (CM CL CK CJ CI CH CG CF CO CN CD CC CB CA C9 C8 BJ sums levels:aC)
def aGw:=lN (bN f144 0) 0
def TR (s:D8):Mt:=letI c:=gi s.l s.k;letI d:=gi s.BJ c;letI a:=AG s.B6 c;letI b:=AA<|(s.levels.getD c.toNat<|Ty.dflt A7)+1;(⟨X,([s.CM,s.CL,s.CK,s.CJ,s.CI,s.CH,s.CG,s.CF,s.CO,s.CN,s.CD,s.CC,s.CB,s.CA,s.C9,s.C8]:aJ).getD c.toNat [],(M (([s.CM,s.CL,s.CK,s.CJ,s.CI,s.CH,s.CG,s.CF,s.CO,s.CN,s.CD,s.CC,s.CB,s.CA,s.C9,s.C8]:aJ).getD c.toNat []):Y),0,s.BF,s.Bf,s.C6,s.BQ,s.C7,s.Ha,s.HZ,s.Ef,s.B6,s.Hb,s.BI,s.CM,s.CL,s.CK,s.CJ,s.CI,s.CH,s.CG,s.CF,s.CO,s.CN,s.CD,s.CC,s.CB,s.CA,s.C9,s.C8,s.BJ,s.sums,s.levels,a.1,a.2.1,a.2.2.1,a.2.2.2.1,a.2.2.2.2.1,a.2.2.2.2.2.1,a.2.2.2.2.2.2.1,a.2.2.2.2.2.2.2,AA<|(if d<(E6 a.2.2.2.1 a.2.2.2.2.2.1 b) then E6 a.2.2.2.1 a.2.2.2.2.2.1 b else d)-(if d<(E6 a.2.2.2.1 a.2.2.2.2.2.1<|AA<|b-1) then E6 a.2.2.2.1 a.2.2.2.2.2.1 (AA<|b-1) else d)⟩:Mt)
def T2 (s:D8):K9:=letI b:=gi s.l s.k;letI c:=AG s.B6 b;letI d:=gi s.BJ b;letI a:=AA<|(s.levels.getD b.toNat<|Ty.dflt A7)+1;(⟨b,a,([s.CM,s.CL,s.CK,s.CJ,s.CI,s.CH,s.CG,s.CF,s.CO,s.CN,s.CD,s.CC,s.CB,s.CA,s.C9,s.C8]:aJ).getD b.toNat [],(M (([s.CM,s.CL,s.CK,s.CJ,s.CI,s.CH,s.CG,s.CF,s.CO,s.CN,s.CD,s.CC,s.CB,s.CA,s.C9,s.C8]:aJ).getD b.toNat []):Y),0,s.BF,s.Bf,s.C6,s.BQ,s.C7,s.Ha,s.HZ,s.Ef,s.B6,s.Hb,s.BI,s.CM,s.CL,s.CK,s.CJ,s.CI,s.CH,s.CG,s.CF,s.CO,s.CN,s.CD,s.CC,s.CB,s.CA,s.C9,s.C8,s.BJ,s.sums,s.levels,AA<|(if d<(E6 c.2.2.2.1 c.2.2.2.2.2.1 a) then E6 c.2.2.2.1 c.2.2.2.2.2.1 a else d)-(if d<(E6 c.2.2.2.1 c.2.2.2.2.2.1<|AA<|a-1) then E6 c.2.2.2.1 c.2.2.2.2.2.1 (AA<|a-1) else d)⟩:K9)
def U5 (s:D8):T (Rd D8):=letI b:=gi s.l s.k;letI d:=M s.levels;letI e:=AA<|s.k+1;letI f:=AG s.B6 b;letI g:=Ot<|T2 s;letI h:=s.levels.getD b.toNat<|Ty.dflt A7;letI c:=AA<|h+1;letI a:=s.levels.set b.toNat c;.br (aq<|s.k<s.m) (.ix s.k (M s.l)<|.ik b d<|.br (h !=(AA<|s.level-1)) (.rl s.sums<|.rl s.levels<|.nx {s with k:=e})<|.ix b (M s.BQ)<|.ix b (M s.most)<|.req ((gi s.most b)<=9223372036854775807)<|.br (aq<|(Hf (AG s.BQ b).2.2.2.1 (AG s.BQ b).2.2.2.2.1 (AG s.BQ b).2.2.2.2.2.1<|gi s.most b)<s.level) (.rl s.sums<|.rl s.levels<|.nx {s with k:=e})<|.ix b (M s.B6)<|.ik b d<|.ix b (M s.BJ)<|.req ((1<=f.2.2.2.1/\f.2.2.2.1<=80/\1<=f.2.2.2.2.2.1/\f.2.2.2.2.2.1<=80)/\0<=c/\c<=1000)<|.ix b (M s.BJ)<|.req ((1<=f.2.2.2.1/\f.2.2.2.1<=80/\1<=f.2.2.2.2.2.1/\f.2.2.2.2.2.1<=80)/\0<=(AA<|c-1)/\(AA<|c-1)<=1000)<|.req (0<=b/\b<(16:Y))<|.rl s.sums<|.rl s.levels<|.req (ZS.q<|TR s)<|.br (Bt (fM<|TR s)<|.ret) (.br (!(fT<|TR s).r) (.br X (.rl s.sums<|.rl s.levels<|.nx {s with some:=U,k:=e})<|.rl s.sums<|.rl s.levels<|.nx {s with k:=e})<|.req (0<=b/\b<(16:Y))<|.rl s.sums<|.rl s.levels<|.req (Vl.q<|T2 s)<|.ik b d<|.br U (.rl g.sums<|.re d a<|.nx {s with some:=U,k:=e,sums:=g.sums,levels:=a})<|.rl g.sums<|.re d a<|.nx {s with k:=e,sums:=g.sums,levels:=a})<|.br (!U) (.br X (.rl s.sums<|.rl s.levels<|.nx {s with some:=U,k:=e})<|.rl s.sums<|.rl s.levels<|.nx {s with k:=e})<|.req (0<=b/\b<(16:Y))<|.rl s.sums<|.rl s.levels<|.req (Vl.q<|T2 s)<|.ik b d<|.br U (.rl g.sums<|.re d a<|.nx {s with some:=U,k:=e,sums:=g.sums,levels:=a})<|.rl g.sums<|.re d a<|.nx {s with k:=e,sums:=g.sums,levels:=a})<|.rl s.sums<|.rl s.levels<|.so (.exit 2) s
def DE (s:D8):aJ:=[s.CM,s.CL,s.CK,s.CJ,s.CI,s.CH,s.CG,s.CF,s.CO,s.CN,s.CD,s.CC,s.CB,s.CA,s.C9,s.C8]
def UF (s:D8):Prop:=s.k=0/\(s.m=(M s.l:Y)/\s.m<=1000/\1<=s.level/\s.level<=81)/\s.B6=s.BQ/\OkT (DE s) s.BI s.B6 s.BJ s.most s.l/\OkS s.BI s.l s.sums s.levels
def I3 (s:D8):Prop:=(0<=s.k/\s.k<=s.m)/\(s.m=(M s.l:Y)/\s.m<=1000/\1<=s.level/\s.level<=81)/\s.B6=s.BQ/\OkT (DE s) s.BI s.B6 s.BJ s.most s.l/\OkS s.BI s.l s.sums s.levels
def TY (s:D8):aD:=(s.m-s.k).toNat
def jz (x:Ex) (s s':D8):Prop:=x=.exit 2/\s'.k=s'.m
def al3:∀s,UF s->I3 s:=by
 exact yY
def Qu (s:D8) (hI:I3 s) (c1:s.k<s.m):letI a:=gi s.l s.k;gi s.l s.k∈s.l/\(0<=gi s.l s.k/\gi s.l s.k<16)/\gi s.l s.k<(M s.B6:Y)/\gi s.l s.k<(M s.BQ:Y)/\gi s.l s.k<(M s.BJ:Y)/\gi s.l s.k<(M s.most:Y)/\gi s.l s.k<(M s.levels:Y)/\(0<=gi s.most a/\gi s.most a<=80)/\(0<=gi s.BJ a/\gi s.BJ a<=80):=by
 obtain ⟨⟨h0,h1⟩,⟨h2,h3,h4,h5⟩,h6,hT,hS⟩:=hI
 have hm:gi s.l s.k∈s.l:=Ki h0 A0
 obtain ⟨o1,o2,o3,o4⟩:=hT.ord _ hm;exact ⟨hm,o1,o2,A8,o3,o4,hS.C1 _ hm,hT.mo _<|Ki o1.1 o4,hT.al _<|Ki o1.1 o3⟩
def Qs {s:D8}(hI:I3 s) (c2:((s.levels.getD (gi s.l s.k).toNat<|Ty.dflt A7) !=(AA<|s.level-1))=X):s.levels.getD (gi s.l s.k).toNat 0=s.level-1:=by
 obtain ⟨_,⟨h2,h3,h4,h5⟩,_⟩:=hI
 have c2:((s.levels.getD (gi s.l s.k).toNat 0) !=(AA<|s.level-1))=false:=c2
 rw [AJ (x:=s.level-1)] at c2
 grind
def ic {s:D8}(hI:I3 s) (c2:s.levels.getD (gi s.l s.k).toNat 0=s.level-1):letI a:=(s.levels.getD (gi s.l s.k).toNat<|Ty.dflt A7)+1;AA a=s.level/\AA ((AA a)-1)=s.level-1:=by
 obtain ⟨_,⟨h2,h3,h4,h5⟩,_⟩:=hI
 have e:AA ((s.levels.getD (gi s.l s.k).toNat<|Ty.dflt A7)+1)=s.level:=by
  have:(s.levels.getD (gi s.l s.k).toNat<|Ty.dflt A7)=s.level-1:=c2
  rw [this,AJ (x:=s.level-1+1)];omega
 refine ⟨e,?_⟩;rw [e,AJ]
def WO {s:D8}(hI:I3 s) (c1:s.k<s.m) (c2:s.levels.getD (gi s.l s.k).toNat 0=s.level-1):letI a:=gi s.l s.k;(TR s).more=G7 s.B6 s.BJ a s.level/\(T2 s).more=G7 s.B6 s.BJ a s.level/\0<=G7 s.B6 s.BJ a s.level/\G7 s.B6 s.BJ a s.level<=10000:=by
 have hx:=Qu s hI c1
 obtain ⟨w1,w2⟩:=ic hI c2;obtain ⟨_,⟨h2,h3,h4,h5⟩,h6,hT,hS⟩:=hI
 have hb:=aSU (gs:=s.B6) (alive:=s.BJ) (k:=s.level) (hT.has _ hx.1) hx.2.2.2.2.2.2.2.2 h4 h5
 have e:(TR s).more=G7 s.B6 s.BJ (gi s.l s.k) s.level:=by
  unfold TR;simp only [w2];simp only [w1]
  show AA (G7 s.B6 s.BJ (gi s.l s.k) s.level)=_
  rw [AJ]
 exact ⟨e,e,hb⟩
def abH {s:D8}(hI:I3 s) (c1:s.k<s.m):((DE s).getD (gi s.l s.k).toNat []).Nodup/\(M ((DE s).getD (gi s.l s.k).toNat []):Y)<=1000/\∀r∈(DE s).getD (gi s.l s.k).toNat [],0<=r/\r<(M s.BI:Y):=by
 have hx:=Qu s hI c1
 obtain ⟨_,_,_,hT,_⟩:=hI;refine hT.row _ ?_
 have hl:=hT.ol
 grind
def WS {s:D8}(hI:I3 s) (c1:s.k<s.m) (c2:s.levels.getD (gi s.l s.k).toNat 0=s.level-1):YI (TR s):=by
 obtain ⟨m1,m2,m3⟩:=WO hI c1 c2;obtain ⟨o1,o2,o3⟩:=abH hI c1;obtain ⟨_,_,_,hT,hS⟩:=hI;exact ⟨rfl,Sh _,o2,rfl,o3,hS.len,hS.bd,A8⟩
def sf {s:D8}(hI:I3 s) (c1:s.k<s.m) (c2:s.levels.getD (gi s.l s.k).toNat 0=s.level-1):Vk (T2 s):=by
 obtain ⟨m1,m2,m3⟩:=WO hI c1 c2;obtain ⟨o1,o2,o3⟩:=abH hI c1;obtain ⟨_,_,_,hT,hS⟩:=hI;refine ⟨rfl,hS.bd,rfl,o2,λr hr=>?_,A8⟩
 have:=o3 r hr
 have hl:=hS.len
 show 0<=r/\r<(M s.sums:Y)
 omega
def aQ9 (s s':D8) (hI:I3 s) (c1:s.k<s.m) (ht:(s'.sums,s'.levels,s'.some)=G3 (DE s) s.BI s.B6 s.BJ s.most s.level (s.sums,s.levels,s.some) (gi s.l s.k)) (hk:s'.k=AA (s.k+1))
  (h_m:s'.m=s.m) (h_l:s'.l=s.l) (h_v:s'.level=s.level) (h_g:s'.B6=s.B6) (h_c:s'.BQ=s.BQ) (h_r:s'.BI=s.BI) (h_a:s'.BJ=s.BJ) (h_w:s'.most=s.most) (h_O:DE s'=DE s):
  (I3 s'/\TY s'<TY s)/\(λs:D8=>swp (DE s) s.BI s.B6 s.BJ s.most s.level (s.sums,s.levels,s.some)<|s.l.drop s.k.toNat) s'=(λs:D8=>swp (DE s) s.BI s.B6 s.BJ s.most s.level (s.sums,s.levels,s.some)<|s.l.drop s.k.toNat) s:=by
 have hx:=Qu s hI c1
 obtain ⟨⟨h0,h1⟩,⟨h2,h3,h4,h5⟩,h6,hT,hS⟩:=hI;rw [AJ (x:=s.k+1)] at hk
 have e1:s'.sums=(G3 (DE s) s.BI s.B6 s.BJ s.most s.level (s.sums,s.levels,s.some)<|gi s.l s.k).1:=B0 (·.1) ht
 have e2:s'.levels=(G3 (DE s) s.BI s.B6 s.BJ s.most s.level (s.sums,s.levels,s.some)<|gi s.l s.k).2.1:=B0 (·.2.1) ht
 refine ⟨⟨⟨⟨A0,A0⟩,⟨A8,A0,A0,A0⟩,A8,A8,?_⟩,by simp only [TY];omega⟩,?_⟩
 ·rw [h_r,h_l,e1,e2]
  exact aPz hT hS hx.1 h4 h5
 ·simp only
  rw [h_O,h_r,h_g,h_a,h_w,h_v,h_l,ht,hk,(gi_step h0 (show s.k<M s.l by omega)).1]
  rfl
def qm (s s':D8) (hI:I3 s) (c1:s.k<s.m) (ht:(s'.sums,s'.levels,s'.some)=G3 (DE s) s.BI s.B6 s.BJ s.most s.level (s.sums,s.levels,s.some) (gi s.l s.k)) (hk:s'.k=AA (s.k+1))
  (h_m:s'.m=s.m) (h_l:s'.l=s.l) (h_v:s'.level=s.level) (h_g:s'.B6=s.B6) (h_c:s'.BQ=s.BQ) (h_r:s'.BI=s.BI) (h_a:s'.BJ=s.BJ) (h_w:s'.most=s.most) (h_O:DE s'=DE s):DH (λs'=>I3 s'/\TY s'<TY s) (λx s'=>jz x s s') (.next s'):=(aQ9 s s' hI c1 ht hk h_m h_l h_v h_g h_c h_r h_a h_w h_O).1
def ql (s s':D8) (hI:I3 s) (c1:s.k<s.m) (ht:(s'.sums,s'.levels,s'.some)=G3 (DE s) s.BI s.B6 s.BJ s.most s.level (s.sums,s.levels,s.some) (gi s.l s.k)) (hk:s'.k=AA (s.k+1))
  (h_m:s'.m=s.m) (h_l:s'.l=s.l) (h_v:s'.level=s.level) (h_g:s'.B6=s.B6) (h_c:s'.BQ=s.BQ) (h_r:s'.BI=s.BI) (h_a:s'.BJ=s.BJ) (h_w:s'.most=s.most) (h_O:DE s'=DE s):DH (λs'=>(λs:D8=>swp (DE s) s.BI s.B6 s.BJ s.most s.level (s.sums,s.levels,s.some)<|s.l.drop s.k.toNat) s'=(λs:D8=>swp (DE s) s.BI s.B6 s.BJ s.most s.level (s.sums,s.levels,s.some)<|s.l.drop s.k.toNat) s) (λ_ s'=>(λs:D8=>swp (DE s) s.BI s.B6 s.BJ s.most s.level (s.sums,s.levels,s.some)<|s.l.drop s.k.toNat) s'=(λs:D8=>swp (DE s) s.BI s.B6 s.BJ s.most s.level (s.sums,s.levels,s.some)<|s.l.drop s.k.toNat) s) (.next s'):=(aQ9 s s' hI c1 ht hk h_m h_l h_v h_g h_c h_r h_a h_w h_O).2
def axC:Da I3 TY jz U5:=by
 intro s hI;unfold U5;dsimp only [T.rd,T.rl,T.rv];refine AH (λc1=>?_) λc1=>?_
 ·refine AH (λc2=>?_) (λc2=>?_)
  ·have c1:s.k<s.m:=AY
   have hn:¬(s.levels.getD (gi s.l s.k).toNat 0=s.level-1/\s.level<=Fb s.B6 (gi s.l s.k) (gi s.most<|gi s.l s.k)):=λh=>by
    exact aMG
   exact aMo
  ·refine AH (λc3=>?_) (λc3=>?_)
   ·have c1:s.k<s.m:=AY
    have hn:¬(s.levels.getD (gi s.l s.k).toNat 0=s.level-1/\s.level<=Fb s.B6 (gi s.l s.k) (gi s.most<|gi s.l s.k)):=λh=>by
     exact aMb
    exact aMo
   ·refine AH (λc4=>?_) (λc4=>?_)
    ·refine AH (λc5=>?_) (λc5=>?_)
     ·refine AH (λc6=>?_) (λc6=>?_)
      ·cases c6
      ·have c1:s.k<s.m:=AY
       have c2:=Qs hI c2
       have hp:s.levels.getD (gi s.l s.k).toNat 0=s.level-1/\s.level<=Fb s.B6 (gi s.l s.k) (gi s.most<|gi s.l s.k):=by
        exact nH
       have hE:=WS hI c1 c2
       obtain ⟨m1,m2,_⟩:=WO hI c1 c2;rcases dc _ hE with ⟨q1,q2⟩ |⟨q1,q2,q3⟩
       ·rw [q1] at c4
        cases c4
       ·rw [m1] at q3
        have q3:((DE s).getD (gi s.l s.k).toNat []).all (L0 s.BI s.sums<|G7 s.B6 s.BJ (gi s.l s.k) s.level)=false:=q3
        exact qm s _ hI AY aOE rfl rfl rfl rfl rfl rfl rfl rfl rfl rfl
     ·exact aNI
    ·refine AH (λc5=>?_) (λc5=>?_)
     ·exact aO9
     ·refine AH (λc6=>?_) (λc6=>?_)
      ·have c1:s.k<s.m:=AY
       have c2:=Qs hI c2
       have hp:s.levels.getD (gi s.l s.k).toNat 0=s.level-1/\s.level<=Fb s.B6 (gi s.l s.k) (gi s.most<|gi s.l s.k):=by
        exact nH
       have hE:=WS hI c1 c2
       obtain ⟨m1,m2,_⟩:=WO hI c1 c2
       have hR:=sf hI c1 c2
       rcases dc _ hE with ⟨q1,q2⟩ |⟨q1,q2,q3⟩
       ·rw [m1] at q2
        have q2:((DE s).getD (gi s.l s.k).toNat []).all (L0 s.BI s.sums<|G7 s.B6 s.BJ (gi s.l s.k) s.level)=true:=q2
        have r1:=aPy _ hR
        rw [m2] at r1
        have r1:(Ot<|T2 s).sums=KC s.sums (G7 s.B6 s.BJ (gi s.l s.k) s.level) ((DE s).getD (gi s.l s.k).toNat []):=r1
        have w1:=(ic hI c2).1
        exact qm s _ hI AY aOz rfl rfl rfl rfl rfl rfl rfl rfl rfl rfl
       ·rw [q1] at c4
        cases c4
      ·cases c6
 ·have c1:s.m<=s.k:=AY
  have h0:=hI.1
  exact VL
def Rc:AS D8:=⟨0,129,[2,3,4,12,14,15,16,66,67,68],[],λs=>[.xl A7 s.most,.xl A7 s.order,.own 0 0,s.n,.own 1 0,s.level,s.some,.xl A7 s.l,s.m,s.k],λs=>[⟨[s.BF,s.Bf,s.C6,s.BQ,s.C7],28,.cl,X⟩,⟨[s.Ha,s.HZ,s.Ef,s.B6,s.Hb,.xl Eg s.BI,.xl A7 s.CM,.xl A7 s.CL,.xl A7 s.CK,.xl A7 s.CJ,.xl A7 s.CI,.xl A7 s.CH,.xl A7 s.CG,.xl A7 s.CF,.xl A7 s.CO,.xl A7 s.CN,.xl A7 s.CD,.xl A7 s.CC,.xl A7 s.CB,.xl A7 s.CA,.xl A7 s.C9,.xl A7 s.C8,.os 2 1 0<|M s.sums,.xl A7 s.BJ,.os 3 1 0<|M s.levels],305,.cl,X⟩,bV 3 A7 s.sums,bV 3 A7 s.levels],λv b=>⟨B3 A7 v 0,B3 A7 v 1,AL v 3,AL v 5,Ds v 6,B3 A7 v 7,AL v 8,AL v 9,AF Ae b 0 0,AF .str b 0 1,AF Ak b 0 2,AF Af b 0 3,AF Al b 0 4,AF Ae b 1 0,AF .str b 1 1,AF Ak b 1 2,AF Af b 1 3,AF Al b 1 4,AF Eg b 1 5,AF A7 b 1 6,AF A7 b 1 7,AF A7 b 1 8,AF A7 b 1 9,AF A7 b 1 10,AF A7 b 1 11,AF A7 b 1 12,AF A7 b 1 13,AF A7 b 1 14,AF A7 b 1 15,AF A7 b 1 16,AF A7 b 1 17,AF A7 b 1 18,AF A7 b 1 19,AF A7 b 1 20,AF A7 b 1 21,AF A7 b 1 23,Ab A7 b 2,Ab A7 b 3⟩,U5,λs r=> {s with some:=r.some,k:=r.k,sums:=r.sums,levels:=r.levels},λs=>s,λ_ s=>s,[.exit 2],UF,I3,TY⟩
abbrev Hw:=Rc.run
abbrev auy:=Rc.Av
def ayp:Rq I3 U5:=by
 intro s hI;refine ⟨λc1=>⟨?_,?_,?_,λc2=>⟨A9,A9,an⟩,λc2=>⟨?_,?_,?_,λc3=>⟨A9,A9,an⟩,λc3=>⟨?_,?_,?_,?_,?_,?_,?_,?_,A9,A9,?_,λc4=>⟨λc5=>⟨λc6=>⟨A9,A9,an⟩,λc6=>⟨A9,A9,an⟩⟩,λc5=>⟨?_,A9,A9,?_,?_,?_,λc7=>⟨A9,?_,an⟩,λc7=>⟨A9,?_,an⟩⟩⟩,λc4=>⟨λc8=>⟨λc9=>⟨A9,A9,an⟩,λc9=>⟨A9,A9,an⟩⟩,λc8=>⟨?_,A9,A9,?_,?_,?_,λc10=>⟨A9,?_,an⟩,λc10=>⟨A9,?_,an⟩⟩⟩⟩⟩⟩,λc1=>⟨A9,A9,an⟩⟩
 ·(have:=hI.1;have:=hI.2.1.1;simp only [Aa] at c1;omega)
 iterate 9 · (have hx:=Qu s hI AY;omega)
 ·exact aMx
 ·exact nJ
 ·exact aMx
 ·exact nJ
 ·exact ⟨WS hI AY<|Qs hI c2,rfl,rfl⟩
 ·exact nJ
 ·exact aNc
 iterate 2 · (have hx:=Qu s hI AY;omega)
 iterate 2 · exact ⟨rfl,AI⟩
 ·exact nJ
 ·exact aNc
 iterate 2 · (have hx:=Qu s hI A8;omega)
 iterate 2 · exact ⟨rfl,AI⟩
def aBj:aO:=[Wl,XF,XE,XG]
def an9:Az:=kI aBj<|la 8 func184 th<|la 2 func180 fw<|la 3 func182 fB<|la 2 func180 WY<|l0 aBj
def uC:Rc.Ok:={}
def uZ:Rc.Pf (jz):=⟨al3,λs h=>rfl,axC,ayp⟩
def ars:SA 0 aGw Rc:=s1 uC uZ aBj an9
def asr:Fi UF I3 jz auy Hw:=AS.fin uC uZ
def aox (s:D8) (hE:UF s):(λs:D8=>swp (DE s) s.BI s.B6 s.BJ s.most s.level (s.sums,s.levels,s.some)<|s.l.drop s.k.toNat) (Hw s)=(λs:D8=>swp (DE s) s.BI s.B6 s.BJ s.most s.level (s.sums,s.levels,s.some)<|s.l.drop s.k.toNat) s:=by
 exact AS.Kx uC uZ (λs:D8=>swp (DE s) s.BI s.B6 s.BJ s.most s.level (s.sums,s.levels,s.some)<|s.l.drop s.k.toNat) (λs hI=>by
  show DH _ _ ((U5 s).rd s)
  unfold U5;dsimp only [T.rd,T.rl];refine AH (λc1=>?_) λc1=>?_
  ·refine AH (λc2=>?_) (λc2=>?_)
   ·have c1:s.k<s.m:=AY
    have hn:¬(s.levels.getD (gi s.l s.k).toNat 0=s.level-1/\s.level<=Fb s.B6 (gi s.l s.k) (gi s.most<|gi s.l s.k)):=λh=>by
     exact aMG
    exact aMp
   ·refine AH (λc3=>?_) (λc3=>?_)
    ·have c1:s.k<s.m:=AY
     have hn:¬(s.levels.getD (gi s.l s.k).toNat 0=s.level-1/\s.level<=Fb s.B6 (gi s.l s.k) (gi s.most<|gi s.l s.k)):=λh=>by
      exact aMb
     exact aMp
    ·refine AH (λc4=>?_) (λc4=>?_)
     ·refine AH (λc5=>?_) (λc5=>?_)
      ·refine AH (λc6=>?_) (λc6=>?_)
       ·cases c6
       ·have c1:s.k<s.m:=AY
        have c2:=Qs hI c2
        have hp:s.levels.getD (gi s.l s.k).toNat 0=s.level-1/\s.level<=Fb s.B6 (gi s.l s.k) (gi s.most<|gi s.l s.k):=by
         exact nH
        have hE:=WS hI c1 c2
        obtain ⟨m1,m2,_⟩:=WO hI c1 c2;rcases dc _ hE with ⟨q1,q2⟩ |⟨q1,q2,q3⟩
        ·rw [q1] at c4
         cases c4
        ·rw [m1] at q3
         have q3:((DE s).getD (gi s.l s.k).toNat []).all (L0 s.BI s.sums<|G7 s.B6 s.BJ (gi s.l s.k) s.level)=false:=q3
         exact ql s _ hI AY aOE rfl rfl rfl rfl rfl rfl rfl rfl rfl rfl
      ·exact aNI
     ·refine AH (λc5=>?_) (λc5=>?_)
      ·exact aO9
      ·refine AH (λc6=>?_) (λc6=>?_)
       ·have c1:s.k<s.m:=AY
        have c2:=Qs hI c2
        have hp:s.levels.getD (gi s.l s.k).toNat 0=s.level-1/\s.level<=Fb s.B6 (gi s.l s.k) (gi s.most<|gi s.l s.k):=by
         exact nH
        have hE:=WS hI c1 c2
        obtain ⟨m1,m2,_⟩:=WO hI c1 c2
        have hR:=sf hI c1 c2
        rcases dc _ hE with ⟨q1,q2⟩ |⟨q1,q2,q3⟩
        ·rw [m1] at q2
         have q2:((DE s).getD (gi s.l s.k).toNat []).all (L0 s.BI s.sums<|G7 s.B6 s.BJ (gi s.l s.k) s.level)=true:=q2
         have r1:=aPy _ hR
         rw [m2] at r1
         have r1:(Ot<|T2 s).sums=KC s.sums (G7 s.B6 s.BJ (gi s.l s.k) s.level) ((DE s).getD (gi s.l s.k).toNat []):=r1
         have w1:=(ic hI c2).1
         exact ql s _ hI AY aOz rfl rfl rfl rfl rfl rfl rfl rfl rfl rfl
        ·rw [q1] at c4
         cases c4
       ·cases c6
  ·rfl) s hE
def asq (s:D8) (hE:UF s):((Hw s).sums,(Hw s).levels,(Hw s).some)=swp (DE s) s.BI s.B6 s.BJ s.most s.level (s.sums,s.levels,s.some) s.l:=by
 have q3:=aox s hE
 obtain ⟨s',hI,q1,q2⟩:=asr s hE;obtain ⟨h0,h1,_⟩:=hE;simp only at q3;rw [q2,show (Hw s).m=s.m from rfl,show (Hw s).l=s.l from rfl,Ei A0,h0] at q3;exact q3
structure JJ where
 (most order:aC)
 (n level:Y)
 BF:aL
 Bf:aF
 C6:aR
 BQ:aG
 C7:aS
 Ha:aL
 HZ:aF
 Ef:aR
 B6:aG
 Hb:aS
 BI:aZ
 (CM CL CK CJ CI CH CG CF CO CN CD CC CB CA C9 C8 BJ sums levels:aC)
def rh:=bN f144 0
def La (s:JJ):D8:=(⟨s.most,s.order,s.n,s.level,X,s.order,(M s.order:Y),0,s.BF,s.Bf,s.C6,s.BQ,s.C7,s.Ha,s.HZ,s.Ef,s.B6,s.Hb,s.BI,s.CM,s.CL,s.CK,s.CJ,s.CI,s.CH,s.CG,s.CF,s.CO,s.CN,s.CD,s.CC,s.CB,s.CA,s.C9,s.C8,s.BJ,s.sums,s.levels⟩:D8)
def aAf (s:JJ):T (Rd JJ):=letI a:=Hw<|La s;.rl s.sums<|.rl s.levels<|.req (Rc.q<|La s)<|.br (! a.some) (.rl a.sums<|.rl a.levels<|.so (.exit 0) {s with sums:=a.sums,levels:=a.levels})<|.rl a.sums<|.rl a.levels<|.nx {s with level:=AA<|s.level+1,sums:=a.sums,levels:=a.levels}
def Kt (s:JJ):aJ:=[s.CM,s.CL,s.CK,s.CJ,s.CI,s.CH,s.CG,s.CF,s.CO,s.CN,s.CD,s.CC,s.CB,s.CA,s.C9,s.C8]
def kJ (s:JJ):Prop:=s.level=1/\(M s.order:Y)<=1000/\s.B6=s.BQ/\OkT (Kt s) s.BI s.B6 s.BJ s.most s.order/\OkS s.BI s.order s.sums s.levels
def Uk (s:JJ):Prop:=(1<=s.level/\s.level<=81)/\(M s.order:Y)<=1000/\s.B6=s.BQ/\OkT (Kt s) s.BI s.B6 s.BJ s.most s.order/\OkS s.BI s.order s.sums s.levels
def tz (s:JJ):aD:=(82-s.level).toNat
def adL (x:Ex) (s s':JJ):Prop:=x=.exit 0
def al2:∀s,kJ s->Uk s:=by
 exact yY
def aQ7 (s:JJ) (hI:Uk s):UF (La s):=by
 obtain ⟨⟨h0,h1⟩,h2,h3,hT,hS⟩:=hI;exact ⟨rfl,⟨rfl,h2,h0,h1⟩,h3,hT,hS⟩
def abG (s:JJ) (hI:Uk s):((Hw<|La s).sums,(Hw<|La s).levels,(Hw<|La s).some)=swp (Kt s) s.BI s.B6 s.BJ s.most s.level (s.sums,s.levels,X) s.order:=asq _<|aQ7 s hI
def axB:Da Uk tz adL aAf:=by
 intro s hI
 have hr:=abG s hI
 obtain ⟨⟨h0,h1⟩,h2,h3,hT,hS⟩:=hI;refine AH (λc1=>rfl) λc1=>?_
 have c1:(Hw<|La s).some=true:=A8
 have hk:=td hT h0 h1 s.order (s.sums,s.levels,X) (λ_ h=>h) hS
 have hs:=qS (O:=Kt s) (rows:=s.BI) (gs:=s.B6) (alive:=s.BJ) (most:=s.most) (level:=s.level) s.order (s.sums,s.levels,X)
 rw [<-hr] at hk hs
 have h80:s.level<=80:=by
  rcases hs c1 with h|h
  ·cases h
  ·exact h
 rw [AJ (x:=s.level+1)];exact ⟨⟨⟨A8,A8⟩,h2,h3,hT,hk⟩,by simp only [tz];omega⟩
def PY:AS JJ:=⟨0,129,[2,3,4,12,14,15],[.ps 14 6 A7,.ps 14 7 A7,.ps 14 8 A7,.ps 14 9 A7,.ps 14 10 A7,.ps 14 11 A7,.ps 14 12 A7,.ps 14 13 A7,.ps 14 14 A7,.ps 14 15 A7,.ps 14 16 A7,.ps 14 17 A7,.ps 14 18 A7,.ps 14 19 A7,.ps 14 20 A7,.ps 14 21 A7],λs=>[.xl A7 s.most,.xl A7 s.order,.own 0 0,s.n,.own 1 0,s.level],λs=>[⟨[s.BF,s.Bf,s.C6,s.BQ,s.C7],28,.cl,X⟩,⟨[s.Ha,s.HZ,s.Ef,s.B6,s.Hb,.xl Eg s.BI,.xl A7 s.CM,.xl A7 s.CL,.xl A7 s.CK,.xl A7 s.CJ,.xl A7 s.CI,.xl A7 s.CH,.xl A7 s.CG,.xl A7 s.CF,.xl A7 s.CO,.xl A7 s.CN,.xl A7 s.CD,.xl A7 s.CC,.xl A7 s.CB,.xl A7 s.CA,.xl A7 s.C9,.xl A7 s.C8,.os 2 1 0<|M s.sums,.xl A7 s.BJ,.os 3 1 0<|M s.levels],305,.cl,X⟩,bV 3 A7 s.sums,bV 3 A7 s.levels],λv b=>⟨B3 A7 v 0,B3 A7 v 1,AL v 3,AL v 5,AF Ae b 0 0,AF .str b 0 1,AF Ak b 0 2,AF Af b 0 3,AF Al b 0 4,AF Ae b 1 0,AF .str b 1 1,AF Ak b 1 2,AF Af b 1 3,AF Al b 1 4,AF Eg b 1 5,AF A7 b 1 6,AF A7 b 1 7,AF A7 b 1 8,AF A7 b 1 9,AF A7 b 1 10,AF A7 b 1 11,AF A7 b 1 12,AF A7 b 1 13,AF A7 b 1 14,AF A7 b 1 15,AF A7 b 1 16,AF A7 b 1 17,AF A7 b 1 18,AF A7 b 1 19,AF A7 b 1 20,AF A7 b 1 21,AF A7 b 1 23,Ab A7 b 2,Ab A7 b 3⟩,aAf,λs r=> {s with level:=r.level,sums:=r.sums,levels:=r.levels},λs=>s,λ_ s=>s,[.exit 0],kJ,Uk,tz⟩
abbrev J2:=PY.run
def ayo:Rq Uk aAf:=by
 intro s hI;refine ⟨A9,A9,?_,λc1=>⟨A9,A9,an⟩,λc1=>⟨A9,A9,an⟩⟩
 ·exact ⟨aQ7 s hI,rfl,rfl⟩
def Xn:aO:=[Wl,XF,XE,XG]
def aBn:Az:=kI Xn<|la 8 func184 th<|la 2 func180 fw<|la 3 func182 fB<|la 2 func180 WY<|l0 Xn
def aQu:PY.Ok:={}
def aQW:PY.Pf (adL):=⟨al2,λs h=>rfl,axB,ayo⟩
def arq:SA 0 rh PY:=AS.snd aQu aQW (dY (Γ:=Xn) (K:=aBn) (L:=(λi=>if i=13 then Rc.lp else Ap i)) (gk Xn) aBn.h rh (λb hb=>by
 rw [show BD _=[aGw] by kernel_rfl] at hb
 simp only [B9,Bx,By] at hb;subst hb;exact ars)) λs=>AX
def aso (s:JJ) (hE:kJ s):(J2 s).levels=shl (Kt s) s.BI s.B6 s.BJ s.most s.order 81 1 s.sums s.levels:=by
 have hk:=AS.x7 aQu aQW (V:=λs:JJ=>shl (Kt s) s.BI s.B6 s.BJ s.most s.order (82-s.level).toNat s.level s.sums s.levels) (K:=λ_ s' v=>s'.levels=v) (λs hI=>by
  have hr:=abG s hI
  have hs:=qS (O:=Kt s) (rows:=s.BI) (gs:=s.B6) (alive:=s.BJ) (most:=s.most) (level:=s.level) s.order (s.sums,s.levels,X)
  obtain ⟨⟨h0,h1⟩,h2,h3,hT,hS⟩:=hI;rw [<-hr] at hs
  have hf:(82-s.level).toNat=(81-s.level).toNat+1:=A0
  refine AH (λc1=>?_) λc1=>?_
  ·have c1:(Hw<|La s).some=false:=A8
   show (Hw<|La s).levels=shl _ _ _ _ _ _ _ _ _ _
   rw [hf,shl,<-hr,AE A8]
  ·have c1:(Hw<|La s).some=true:=A8
   have h80:s.level<=80:=by
    rcases hs c1 with h|h
    ·cases h
    ·exact h
   rw [AJ (x:=s.level+1)]
   show shl (Kt s) s.BI s.B6 s.BJ s.most s.order (82-(s.level+1)).toNat (s.level+1) (Hw<|La s).sums (Hw<|La s).levels=shl (Kt s) s.BI s.B6 s.BJ s.most s.order (82-s.level).toNat s.level s.sums s.levels
   rw [hf,show 82-(s.level+1)=81-s.level by omega]
   conv=>rhs;rw [shl,<-hr]
   simp only [c1,Bo]) s hE
 rw [hk,hE.1];rfl
structure PO where
 l:aG
 (m k:Y)
 Ha:aL
 HZ:aF
 Ef:aR
 B6:aG
 Hb:aS
 BI:aZ
 (CM CL CK CJ CI CH CG CF CO CN CD CC CB CA C9 C8 BJ out sums levels:aC)
def aGv:=bN f144 1
def aAe (s:PO):T (Rd PO):=letI a:=s.levels.getD s.k.toNat<|Ty.dflt A7;letI c:=AG s.l s.k;letI b:=s.out.set s.k.toNat<|E6 c.2.2.2.1 c.2.2.2.2.2.1 a;.br (aq<|s.k<s.m) (.ix s.k (M s.l)<|.ik s.k (M s.levels)<|.req ((1<=c.2.2.2.1/\c.2.2.2.1<=80/\1<=c.2.2.2.2.2.1/\c.2.2.2.2.2.1<=80)/\0<=a/\a<=1000)<|.ik s.k (M s.out)<|.re (M s.out) b<|.rl s.sums<|.rl s.levels<|.nx {s with k:=AA<|s.k+1,out:=b})<|.rl s.out<|.rl s.sums<|.rl s.levels<|.so (.exit 4) s
def lY (s:PO):Prop:=s.k=0/\s.out=au (M s.l) 0/\(s.m=(M s.l:Y)/\s.m<=1000/\M s.levels=M s.l)/\(∀k:Y,0<=k->k<s.m->Dr (AG s.l k).2.2.2.1 (AG s.l k).2.2.2.2.1 (AG s.l k).2.2.2.2.2.1=U)/\(∀k:aD,0<=s.levels.getD k 0/\s.levels.getD k 0<=80)
def Yn (s:PO):Prop:=(0<=s.k/\s.k<=s.m)/\s.out=SI s.l s.levels s.k.toNat++au (M s.l-s.k.toNat) 0/\(s.m=(M s.l:Y)/\s.m<=1000/\M s.levels=M s.l)/\(∀k:Y,0<=k->k<s.m->Dr (AG s.l k).2.2.2.1 (AG s.l k).2.2.2.2.1 (AG s.l k).2.2.2.2.2.1=U)/\(∀k:aD,0<=s.levels.getD k 0/\s.levels.getD k 0<=80)
def tw (s:PO):aD:=(s.m-s.k).toNat
def aCU (x:Ex) (s s':PO):Prop:=x=.exit 4/\s'.out=FW s'.l s'.levels
def al1:∀s,lY s->Yn s:=by
 exact aNN
def ax9:Da Yn tw aCU aAe:=by
 intro s hI;obtain ⟨⟨h0,h1⟩,h2,⟨h3,h4,h5⟩,h6,h7⟩:=hI;refine AH (λc1=>?_) λc1=>?_
 ·have c1:s.k<s.m:=A8
  rw [AJ (x:=s.k+1)];refine ⟨⟨⟨A8,A8⟩,?_,⟨h3,h4,h5⟩,h6,h7⟩,by simp only [tw];omega⟩
  have e:M s.l-s.k.toNat=(M s.l-(s.k+1).toNat)+1:=A0
  have hs:=aIb (xs:=SI s.l s.levels s.k.toNat) (r:=M s.l-(s.k+1).toNat) (v:=D3 s.l s.k<|s.levels.getD s.k.toNat 0)
  rw [adY] at hs;rw [h2,e,show (s.k+1).toNat=s.k.toNat+1 by omega,aop,CS h0]
  rw [show (s.k+1).toNat=s.k.toNat+1 by omega] at hs
  exact hs
 ·have c1:s.m<=s.k:=A8
  refine ⟨rfl,?_⟩;rw [h2,show s.k.toNat=M s.l by omega,mh,List.replicate_zero,Ge]
  rfl
def OJ:AS PO:=⟨0,129,[14,19,108,109,110],[],λs=>[.own 0 0,.os 1 1 0<|M s.out,s.l,s.m,s.k],λs=>[⟨[s.Ha,s.HZ,s.Ef,s.B6,s.Hb,.xl Eg s.BI,.xl A7 s.CM,.xl A7 s.CL,.xl A7 s.CK,.xl A7 s.CJ,.xl A7 s.CI,.xl A7 s.CH,.xl A7 s.CG,.xl A7 s.CF,.xl A7 s.CO,.xl A7 s.CN,.xl A7 s.CD,.xl A7 s.CC,.xl A7 s.CB,.xl A7 s.CA,.xl A7 s.C9,.xl A7 s.C8,.os 2 1 0<|M s.sums,.xl A7 s.BJ,.os 3 1 0<|M s.levels],305,.cl,X⟩,bV 3 A7 s.out,bV 3 A7 s.sums,bV 3 A7 s.levels],λv b=>⟨B3 Af v 2,AL v 3,AL v 4,AF Ae b 0 0,AF .str b 0 1,AF Ak b 0 2,AF Af b 0 3,AF Al b 0 4,AF Eg b 0 5,AF A7 b 0 6,AF A7 b 0 7,AF A7 b 0 8,AF A7 b 0 9,AF A7 b 0 10,AF A7 b 0 11,AF A7 b 0 12,AF A7 b 0 13,AF A7 b 0 14,AF A7 b 0 15,AF A7 b 0 16,AF A7 b 0 17,AF A7 b 0 18,AF A7 b 0 19,AF A7 b 0 20,AF A7 b 0 21,AF A7 b 0 23,Ab A7 b 1,Ab A7 b 2,Ab A7 b 3⟩,aAe,λs r=> {s with k:=r.k,out:=r.out},λs=>s,λ_ s=>s,[.exit 4],lY,Yn,tw⟩
abbrev QZ:=OJ.run
abbrev auw:=OJ.Av
def ayn:Rq Yn aAe:=by
 intro s hI;refine ⟨λc1=>⟨?_,?_,?_,?_,?_,?_,?_,A9,A9,an⟩,λc1=>⟨A9,A9,A9,an⟩⟩
 iterate 3 · (obtain ⟨⟨h0,h1⟩,h2,⟨h3,h4,h5⟩,h6,h7⟩:=hI;(try simp only [Aa] at c1);have hl:M s.out=M s.l:=aPa;first|omega|exact ⟨rfl,AI⟩ |exact ⟨rfl,rfl⟩)
 ·(have hh:=IX.1<|hI.2.2.2.1 s.k hI.1.1 A8;have hb:=hI.2.2.2.2 s.k.toNat;refine ⟨A0,?_⟩;show 0<=s.levels.getD s.k.toNat 0/\s.levels.getD s.k.toNat 0<=1000;omega)
 iterate 3 · (obtain ⟨⟨h0,h1⟩,h2,⟨h3,h4,h5⟩,h6,h7⟩:=hI;(try simp only [Aa] at c1);have hl:M s.out=M s.l:=aPa;first|omega|exact ⟨rfl,AI⟩ |exact ⟨rfl,rfl⟩)
def aQt:OJ.Ok:={}
def aQV:OJ.Pf (aCU):=⟨al1,λs h=>rfl,ax9,ayn⟩
def arp:SA 0 aGv OJ:=s1 aQt aQV Xn aBn
def asn:Fi lY Yn aCU auw QZ:=AS.fin aQt aQV
def aLH:aE->T LV
 | .agg a::r=>s5 a λcs os ks gs bs=>(match r with
  | [.xl (.int J) al,.xl (.int J) mo,.xl (.int J) od]=> .ok (.AQ [.xl A7<|Fa cs os ks gs bs al mo od,shE cs os ks gs bs al mo od])
  |_=> .no)
 |_=> .no
def NH (cs:aL) (os:aF) (ks:aR) (gs:aG) (bs:aS) (al mo od:aC):EK:=letI a:=Jw cs os ks gs bs;(⟨al,a,(M a:Y),0,cs,os,ks,gs,bs,cs,os,ks,gs,bs,a,al,([]:aC),([]:aC),([]:aC),([]:aC),([]:aC),([]:aC),([]:aC),([]:aC),([]:aC),([]:aC),([]:aC),([]:aC),([]:aC),([]:aC),([]:aC),([]:aC),au (M a:Y).toNat (0:Y),au (M al:Y).toNat (0:Y)⟩:EK)
def LZ (cs:aL) (os:aF) (ks:aR) (gs:aG) (bs:aS) (al mo od:aC):JJ:=letI a:=Iz<|NH cs os ks gs bs al mo od;(⟨mo,od,(M gs:Y),1,cs,os,ks,gs,bs,cs,os,ks,gs,bs,Jw cs os ks gs bs,(a.CM.drop 0).take<|M a.CM,(a.CL.drop 0).take<|M a.CL,(a.CK.drop 0).take<|M a.CK,(a.CJ.drop 0).take<|M a.CJ,(a.CI.drop 0).take<|M a.CI,(a.CH.drop 0).take<|M a.CH,(a.CG.drop 0).take<|M a.CG,(a.CF.drop 0).take<|M a.CF,(a.CO.drop 0).take<|M a.CO,(a.CN.drop 0).take<|M a.CN,(a.CD.drop 0).take<|M a.CD,(a.CC.drop 0).take<|M a.CC,(a.CB.drop 0).take<|M a.CB,(a.CA.drop 0).take<|M a.CA,(a.C9.drop 0).take<|M a.C9,(a.C8.drop 0).take<|M a.C8,al,a.sums,au (M al:Y).toNat (0:Y)⟩:JJ)
def aDK (cs:aL) (os:aF) (ks:aR) (gs:aG) (bs:aS) (al mo od:aC):PO:=letI a:=Iz<|NH cs os ks gs bs al mo od;letI b:=J2<|LZ cs os ks gs bs al mo od;(⟨gs,(M gs:Y),0,cs,os,ks,gs,bs,Jw cs os ks gs bs,(a.CM.drop 0).take<|M a.CM,(a.CL.drop 0).take<|M a.CL,(a.CK.drop 0).take<|M a.CK,(a.CJ.drop 0).take<|M a.CJ,(a.CI.drop 0).take<|M a.CI,(a.CH.drop 0).take<|M a.CH,(a.CG.drop 0).take<|M a.CG,(a.CF.drop 0).take<|M a.CF,(a.CO.drop 0).take<|M a.CO,(a.CN.drop 0).take<|M a.CN,(a.CD.drop 0).take<|M a.CD,(a.CC.drop 0).take<|M a.CC,(a.CB.drop 0).take<|M a.CB,(a.CA.drop 0).take<|M a.CA,(a.C9.drop 0).take<|M a.C9,(a.C8.drop 0).take<|M a.C8,al,au (M gs:Y).toNat (0:Y),b.sums,b.levels⟩:PO)
def aBi:aO:=[Wl,XF,XE,XG]
def an8:Az:=kI aBi<|la 8 func184 th<|la 2 func180 fw<|la 3 func182 fB<|la 2 func180 WY<|l0 aBi
def aPm:=vm (S:=aLH) func144 aBi an8 (L:=(λi=>if i=11 then PY.lp else if i=21 then OJ.lp else Ap i)) (λb hb=>by
 rw [show BD _=[rh,aGv] by kernel_rfl] at hb
 simp only [B9,Bx,By] at hb;rcases hb with rfl|rfl
 ·exact arq
 ·exact arp) (λargs lv h=>by
 unfold aLH at h;split at h
 case h_2=>cases h
 replace h:=Ia h
 obtain ⟨cs,os,ks,gs,bs,rfl,h⟩:=h;split at h
 ·rename_i al mo od
  refine Au (letI b:=aDK cs os ks gs bs al mo od;letI d:=(M (Jw cs os ks gs bs):Y);letI g:=LZ cs os ks gs bs al mo od;letI j:=(M gs:Y);letI l:=(M al:Y);letI n:=((QZ b).out.drop 0).take<|M (QZ b).out;letI o:=NH cs os ks gs bs al mo od;letI s:=(au d.toNat (0:Y));letI t:=(au j.toNat (0:Y));letI u:=(M mo:Y);letI w:=(Bt (eR (⟨X,mo,u,0,cs,os,ks,gs,bs⟩:JF))<|.ret);letI x:=(Tt.q (⟨X,mo,u,0,cs,os,ks,gs,bs⟩:JF));letI y:=(eU (⟨X,mo,u,0,cs,os,ks,gs,bs⟩:JF));letI z:=j<=1000;letI a:=Iz o;letI f:=(au l.toNat (0:Y));.br ((OP cs os ks gs bs) !=0) (.ok<|.AQ [.xl A7 ([]:aC),(1:Y)])<|.br (l !=j) (.ok<|.AQ [.xl A7 ([]:aC),(1:Y)])<|.br (u !=j) (.ok<|.AQ [.xl A7 ([]:aC),(1:Y)])<|.req (Tt.q (⟨X,al,l,0,cs,os,ks,gs,bs⟩:JF))<|.br (Bt (eR (⟨X,al,l,0,cs,os,ks,gs,bs⟩:JF))<|.ret) (.br (!(eU (⟨X,al,l,0,cs,os,ks,gs,bs⟩:JF)).r) (.ok<|.AQ [.xl A7 ([]:aC),(1:Y)])<|.req x<|.br w (.br (! y.r) (.ok<|.AQ [.xl A7 ([]:aC),(1:Y)])<|.req z<|.br (!(Gt od j)) (.ok<|.AQ [.xl A7 ([]:aC),(1:Y)])<|.rm 8 d<|.rm 8 l<|.r0 Int<|.r0 Int<|.r0 Int<|.r0 Int<|.r0 Int<|.r0 Int<|.r0 Int<|.r0 Int<|.r0 Int<|.r0 Int<|.r0 Int<|.r0 Int<|.r0 Int<|.r0 Int<|.r0 Int<|.r0 Int<|.re d.toNat s<|.re l.toNat f<|.req (PZ.q o)<|.rz a.CM<|.rz a.CL<|.rz a.CK<|.rz a.CJ<|.rz a.CI<|.rz a.CH<|.rz a.CG<|.rz a.CF<|.rz a.CO<|.rz a.CN<|.rz a.CD<|.rz a.CC<|.rz a.CB<|.rz a.CA<|.rz a.C9<|.rz a.C8<|.rl a.sums<|.rl f<|.req (PY.q g)<|.rm 8 j<|.re j.toNat t<|.rl (J2 g).sums<|.rl (J2 g).levels<|.req (OJ.q b)<|.rz (QZ b).out<|.ok<|.AQ [.xl A7 n,(0:Y)])<|.br (!U) (.ok<|.AQ [.xl A7 ([]:aC),(1:Y)])<|.req z<|.br (!(Gt od j)) (.ok<|.AQ [.xl A7 ([]:aC),(1:Y)])<|.rm 8 d<|.rm 8 l<|.r0 Int<|.r0 Int<|.r0 Int<|.r0 Int<|.r0 Int<|.r0 Int<|.r0 Int<|.r0 Int<|.r0 Int<|.r0 Int<|.r0 Int<|.r0 Int<|.r0 Int<|.r0 Int<|.r0 Int<|.r0 Int<|.re d.toNat s<|.re l.toNat f<|.req (PZ.q o)<|.rz a.CM<|.rz a.CL<|.rz a.CK<|.rz a.CJ<|.rz a.CI<|.rz a.CH<|.rz a.CG<|.rz a.CF<|.rz a.CO<|.rz a.CN<|.rz a.CD<|.rz a.CC<|.rz a.CB<|.rz a.CA<|.rz a.C9<|.rz a.C8<|.rl a.sums<|.rl f<|.req (PY.q g)<|.rm 8 j<|.re j.toNat t<|.rl (J2 g).sums<|.rl (J2 g).levels<|.req (OJ.q b)<|.rz (QZ b).out<|.ok<|.AQ [.xl A7 n,(0:Y)])<|.br (!U) (.ok<|.AQ [.xl A7 ([]:aC),(1:Y)])<|.req x<|.br w (.br (! y.r) (.ok<|.AQ [.xl A7 ([]:aC),(1:Y)])<|.req z<|.br (!(Gt od j)) (.ok<|.AQ [.xl A7 ([]:aC),(1:Y)])<|.rm 8 d<|.rm 8 l<|.r0 Int<|.r0 Int<|.r0 Int<|.r0 Int<|.r0 Int<|.r0 Int<|.r0 Int<|.r0 Int<|.r0 Int<|.r0 Int<|.r0 Int<|.r0 Int<|.r0 Int<|.r0 Int<|.r0 Int<|.r0 Int<|.re d.toNat s<|.re l.toNat f<|.req (PZ.q o)<|.rz a.CM<|.rz a.CL<|.rz a.CK<|.rz a.CJ<|.rz a.CI<|.rz a.CH<|.rz a.CG<|.rz a.CF<|.rz a.CO<|.rz a.CN<|.rz a.CD<|.rz a.CC<|.rz a.CB<|.rz a.CA<|.rz a.C9<|.rz a.C8<|.rl a.sums<|.rl f<|.req (PY.q g)<|.rm 8 j<|.re j.toNat t<|.rl (J2 g).sums<|.rl (J2 g).levels<|.req (OJ.q b)<|.rz (QZ b).out<|.ok<|.AQ [.xl A7 n,(0:Y)])<|.br (!U) (.ok<|.AQ [.xl A7 ([]:aC),(1:Y)])<|.req z<|.br (!(Gt od j)) (.ok<|.AQ [.xl A7 ([]:aC),(1:Y)])<|.rm 8 d<|.rm 8 l<|.r0 Int<|.r0 Int<|.r0 Int<|.r0 Int<|.r0 Int<|.r0 Int<|.r0 Int<|.r0 Int<|.r0 Int<|.r0 Int<|.r0 Int<|.r0 Int<|.r0 Int<|.r0 Int<|.r0 Int<|.r0 Int<|.re d.toNat s<|.re l.toNat f<|.req (PZ.q o)<|.rz a.CM<|.rz a.CL<|.rz a.CK<|.rz a.CJ<|.rz a.CI<|.rz a.CH<|.rz a.CG<|.rz a.CF<|.rz a.CO<|.rz a.CN<|.rz a.CD<|.rz a.CC<|.rz a.CB<|.rz a.CA<|.rz a.C9<|.rz a.C8<|.rl a.sums<|.rl f<|.req (PY.q g)<|.rm 8 j<|.re j.toNat t<|.rl (J2 g).sums<|.rl (J2 g).levels<|.req (OJ.q b)<|.rz (QZ b).out<|.ok<|.AQ [.xl A7 n,(0:Y)]) ?_;obtain rfl:=h
  have err:Fy cs os ks gs bs al mo od=X->LV.AQ [.xl A7 ([]:aC),.v<|ah J 1]=LV.AQ [.xl A7<|Fa cs os ks gs bs al mo od,.v<|ah J<|shE cs os ks gs bs al mo od]:=λh=>by
   unfold Fa shE;rw [h];rfl
  have no_:∀ {p:Prop},¬p->(Fy cs os ks gs bs al mo od=U->p)->Fy cs os ks gs bs al mo od=false:=λh1 h2=>by
   rw [IS];exact λh=>h1<|h2 h
  refine ⟨λc=>err<|no_ (p:=BB cs os ks gs bs=U) (λh=>?_) λh=>(Lc.1 h).1,λc=>?_⟩
  ·unfold OP at c
   rw [h] at c
   simp at c
  have hv:BB cs os ks gs bs=true:=by
   cases e:BB cs os ks gs bs with
   |true=>rfl
   |false=>unfold OP at c;rw [e] at c;simp at c
  have hl:=(D7.1 hv).1
  refine ⟨λc2=>err<|no_ (p:=M al=M gs) (by simp at c2;omega) λh=>(Lc.1 h).2.1,λc2=>?_⟩
  refine ⟨λc3=>err<|no_ (p:=M mo=M gs) np λh=>(Lc.1 h).2.2.1,λc3=>?_⟩
  have c2:M al=M gs:=by simp at c2;omega
  have c3:M mo=M gs:=np
  refine LJ ⟨⟨rfl,AZ,AZ,rfl⟩,rfl,rfl⟩ λhE1=>?_
  rcases aJk _ hE1.1 with ⟨q1,q2⟩ |⟨q1,q2,q3⟩
  rotate_left
  ·rw [q1,q2]
   refine ⟨λ_=>⟨λ_=>err<|no_ (p:=al.all I5=U) (by have q3:al.all I5=false:=q3;rw [q3];simp) λh=>(Lc.1 h).2.2.2.1,λh=>As⟩,λh=>As⟩
  rw [q1];refine ⟨λh=>As,λ_=>⟨λh=>As,λ_=>?_⟩⟩
  have q2:al.all I5=true:=q2
  refine LJ ⟨⟨rfl,AZ,AZ,rfl⟩,rfl,rfl⟩ λhE2=>?_
  rcases aJk _ hE2.1 with ⟨p1,p2⟩ |⟨p1,p2,p3⟩
  rotate_left
  ·rw [p1,p2]
   refine ⟨λ_=>⟨λ_=>err<|no_ (p:=mo.all I5=U) (by have p3:mo.all I5=false:=p3;rw [p3];simp) λh=>(Lc.1 h).2.2.2.2.1,λh=>As⟩,λh=>As⟩
  rw [p1];refine ⟨λh=>As,λ_=>⟨λh=>As,λ_=>?_⟩⟩
  have p2:mo.all I5=true:=p2
  refine ⟨A0,λc4=>err<|no_ (p:=Gt od (M gs:Y)=U) (by simp at c4;rw [c4];simp) λh=>(Lc.1 h).2.2.2.2.2,λc4=>?_⟩
  have c4:Gt od (M gs:Y)=true:=yx
  have hok:Fy cs os ks gs bs al mo od=true:=Lc.2 ⟨hv,c2,c3,q2,p2,c4⟩
  obtain ⟨hT,hS⟩:=am5 hok
  have er:Jw cs os ks gs bs=Cw cs gs (M cs):=by unfold Jw;rw [AD hv]
  have hrl:=qH (cs:=cs) (gs:=gs) (k:=M cs)
  have hod:M od=M gs:=by
   unfold Gt at c4;simp only [AV,Aa] at c4;omega
  have hrn:(M (Jw cs os ks gs bs):Y)<=1000:=by rw [er];omega
  refine ⟨A0,A0,A9,A9,A9,A9,A9,A9,A9,A9,A9,A9,A9,A9,A9,A9,A9,A9,⟨rfl,AI⟩,⟨rfl,AI⟩,?_⟩
  have hN:UG (NH cs os ks gs bs al mo od):=by
   refine ⟨rfl,λo ho=>?_,rfl,rfl,hrn,λr hr=>?_,hT.al,by show M (au _ _)=M (Jw cs os ks gs bs);simp⟩
   ·simpa [Ft,NH] using ho
   ·have hr:r∈Cw cs gs (M cs):=by rw [<-er];exact hr
    obtain ⟨m1,m2,m3,m4⟩:=row_mem hr;refine ⟨A0,λm hm=>?_⟩
    have:=m2 m hm
    show 0<=m/\m<16/\m<(M al:Y)
    omega
  obtain ⟨nr1,nr2⟩:=asU _ hN
  have nr1:Ft (Iz<|NH cs os ks gs bs al mo od)=OL (Cw cs gs<|M cs):=by rw [nr1,<-er];rfl
  have nr2:(Iz<|NH cs os ks gs bs al mo od).sums=SM al (Cw cs gs<|M cs):=by rw [nr2,<-er];rfl
  refine ⟨⟨hN,rfl,rfl⟩,A0,A0,A0,A0,A0,A0,A0,A0,A0,A0,A0,A0,A0,A0,A0,A0,A9,A9,?_⟩
  have eO:Kt (LZ cs os ks gs bs al mo od)=Ft (Iz<|NH cs os ks gs bs al mo od):=by
   unfold Kt Ft LZ;simp only [CT,Ej]
  have hSh:kJ (LZ cs os ks gs bs al mo od):=by
   refine ⟨rfl,by show (M od:Y)<=1000;omega,rfl,?_,?_⟩
   ·show OkT (Kt<|LZ cs os ks gs bs al mo od) (Jw cs os ks gs bs) gs al mo od
    rw [eO,nr1,er];exact hT
   ·show OkS (Jw cs os ks gs bs) od (Iz<|NH cs os ks gs bs al mo od).sums _
    rw [nr2,er];exact hS
  have sr:=aso _ hSh
  have sr:(J2<|LZ cs os ks gs bs al mo od).levels=shV (Cw cs gs<|M cs) gs al mo od:=by
   rw [sr]
   show shl (Kt<|LZ cs os ks gs bs al mo od) (Jw cs os ks gs bs) gs al mo od 81 1 (Iz<|NH cs os ks gs bs al mo od).sums _=_
   rw [eO,nr1,nr2,er];rfl
  obtain ⟨sl,sb⟩:=aQ8 hT 81 1 _ _ A0 A0 hS;refine ⟨⟨hSh,rfl,rfl⟩,A0,⟨rfl,AI⟩,A9,A9,?_⟩
  have hX:lY (aDK cs os ks gs bs al mo od):=by
   refine ⟨rfl,rfl,⟨rfl,aOk,?_⟩,λk h0 h1=>?_,?_⟩
   ·show M (J2<|LZ cs os ks gs bs al mo od).levels=M gs
    rw [sr];exact sl.trans (by rw [Cf];exact c2)
   ·have:=NT hv h0 h1
    unfold G4 chW at this;simp only [AV,BO] at this
    show Dr (AG gs k).2.2.2.1 (AG gs k).2.2.2.2.1 (AG gs k).2.2.2.2.2.1=U
    exact IX.2 A0
   ·show ∀k:aD,0<=(J2<|LZ cs os ks gs bs al mo od).levels.getD k 0/\(J2<|LZ cs os ks gs bs al mo od).levels.getD k 0<=80
    rw [sr];exact sb
  refine ⟨⟨hX,rfl,rfl⟩,A0,?_⟩;obtain ⟨s',_,_,x2⟩:=asn _ hX
  have x2:(QZ<|aDK cs os ks gs bs al mo od).out=FW gs (J2<|LZ cs os ks gs bs al mo od).levels:=x2
  show LV.AQ [LV.xl _ _,_]=_
  rw [CT,Ej,x2,sr];unfold Fa shE;rw [AD hok,AD hok]
 ·cases h)
structure PJ where
 m:aG
 (k i:Y)
 out:aC
def aHk:=bN f143 0
def aAs (s:PJ):T (Rd PJ):=letI a:=s.out.set s.i.toNat (AG s.m s.i).2.2.2.2.2.2.1;.br (aq<|s.i<s.k) (.ix s.i (M s.m)<|.ik s.i (M s.out)<|.re (M s.out) a<|.nx {s with i:=AA<|s.i+1,out:=a})<|.rl s.out<|.so (.exit 0) s
def ln (s:PJ):Prop:=s.i=0/\s.k=(M s.m:Y)/\s.k<=1000/\M s.out=M s.m/\(∀j,0<=j->j<s.k->gi s.out j=0)/\True
def Yc (s:PJ):Prop:=(0<=s.i/\s.i<=s.k)/\s.k=(M s.m:Y)/\s.k<=1000/\M s.out=M s.m/\(∀j,0<=j->j<s.k->gi s.out j=if j<s.i then CY (AG s.m j) else 0)/\True
def uk (s:PJ):aD:=(s.k-s.i).toNat
def aCP (x:Ex) (s s':PJ):Prop:=x=.exit 0/\s'.out=HR (M s'.m) (λj=>CY<|AG s'.m j)
def ann:∀s,ln s->Yc s:=by
 exact So
def aiE:Da Yc uk aCP aAs:=by
 intro s hI;obtain ⟨⟨h0,h1⟩,h2,h3,h4,h5,h6⟩:=hI;refine AH (λc1=>?_) λc1=>?_
 ·have c1:s.i<s.k:=AY
  rw [AJ (x:=s.i+1)];refine ⟨⟨⟨A8,A8⟩,h2,h3,A8,λj j0 j1=>?_,h6⟩,by simp only [uk];omega⟩
  simp only;rw [J7 h0 A0 j0];exact nC
 ·exact bK
def Pv:AS PJ:=⟨0,31,[3,17,18,19],[],λs=>[.os 0 1 0<|M s.out,s.m,s.k,s.i],λs=>[bV 3 A7 s.out],λv b=>⟨B3 Af v 1,AL v 2,AL v 3,Ab A7 b 0⟩,aAs,λs r=> {r with m:=s.m,k:=s.k},λs=>s,λ_ s=>s,[.exit 0],ln,Yc,uk⟩
abbrev aDr:=Pv.run
abbrev auZ:=Pv.Av
def azh:Rq Yc aAs:=by
 exact yF
def aBh:aO:=[]
def aRu:Pv.Ok:={}
def aRX:Pv.Pf (aCP):=⟨ann,λs h=>rfl,aiE,azh⟩
def asZ:SA 0 aHk Pv:=s1 aRu aRX aBh kN
def avO:Fi ln Yc aCP auZ aDr:=AS.fin aRu aRX
def aL2:aE->T LV
 | [.xq 9 q0]=>(match ([q0 0,q0 1,q0 2,q0 3,q0 4,q0 5,q0 6,q0 7,q0 8]:aE) with
  | [.xl (.pair .str (.pair (.int J) (.pair (.int J) (.pair (.int J) (.pair (.pair (.int J) (.int J)) (.pair (.int J) (.pair (.int J) (.pair (.int J) (.pair (.int J) (.int J)))))))))) cs,.xl (.str) os,.xl (.pair .str (.pair (.int J) (.pair (.int J) (.int J)))) ks,.xl (.pair .str (.pair (.int J) (.pair (.int J) (.pair (.int J) (.pair (.int J) (.pair (.int J) (.pair (.int J) (.int J)))))))) gs,.xl (.pair .str (.int J)) bs,.xl (.pair (.int J) (.pair (.int J) (.pair (.int J) (.pair (.int J) (.int J))))) l,.xl (.pair .bool (.pair (.int J) (.pair (.int J) (.int J)))) d,.v (ah J t),.xl (.int J) od]=> .req ((M gs:Y)<=1000) (.ok<|.xl A7<|Bq gs)
  |_=> .no)
 |_=> .no
def atv (cs:aL) (os:aF) (ks:aR) (gs:aG) (bs:aS) (l:aM) (d:bc) (t:Y) (od:aC):letI c:=(M gs:Y);letI a:=(au c.toNat (0:Y));letI b:=(aDr (⟨gs,c,(0:Y),a⟩:PJ));Bu prog AU (aBh) kN (λi=>if i=3 then Pv.lp else Ap i) f143 [xQ 9 [cs,os,ks,gs,bs,l,d,t,.xl A7 od]]=.rm 8 c (.re c.toNat a<|.req (Pv.q (⟨gs,c,(0:Y),a⟩:PJ))<|.rz b.out<|.ok<|.xl A7<|(b.out.drop 0).take<|M b.out):=AX
def awh:=vm (S:=aL2) func143 aBh kN (L:=(λi=>if i=3 then Pv.lp else Ap i)) (λb hb=>by
 rw [show BD _=[aHk] by kernel_rfl] at hb
 simp only [B9,Bx,By] at hb;subst hb;exact asZ) (λargs lv h=>by
 refine ⟨?_⟩;unfold aL2 at h;split at h
 ·split at h
  case h_2=>cases h
  rename_i heq0;simp only [canL,canX];rw [E4 (n:=9) heq0];simp only [canL,canX];rw [atv];rename_i cs os ks gs bs l d t od;obtain ⟨hn,rfl⟩:=h
  have hE:ln ⟨gs,(M gs:Y),0,au (M gs:Y).toNat 0⟩:=⟨rfl,rfl,hn,AI,λj _ _=>Jv,an⟩
  obtain ⟨_,_,q1,q2⟩:=avO _ hE
  have q2:(aDr ⟨gs,(M gs:Y),0,au (M gs:Y).toNat 0⟩).out=Bq gs:=q2
  refine ⟨A0,⟨rfl,AI⟩,⟨hE,rfl,rfl⟩,A0,?_⟩
  show LV.xl _ _=_
  rw [CT,Ej,q2]
 ·cases h)
structure P5 where
 cs:aL
 os:aF
 ks:aR
 gs:aG
 bs:aS
 l:aM
 d:bc
 t:Y
 od:aC
 m:aG
 (k i:Y)
 wanted:aC
def aHg:=bN f142 0
def j4 (s:P5):T (Rd P5):=letI a:=s.wanted.set s.i.toNat (AG s.m s.i).2.2.2.2.1;.br (aq<|s.i<s.k) (.ix s.i (M s.m)<|.ix s.i (M s.d)<|.br (E5 s.d s.i).1 (.ik s.i (M s.wanted)<|.re (M s.wanted) a<|.nx {s with i:=AA<|s.i+1,wanted:=a})<|.rl s.wanted<|.nx {s with i:=AA<|s.i+1})<|.rl s.wanted<|.so (.exit 0) s
def kF (s:P5):Prop:=s.i=0/\s.k=(M s.m:Y)/\s.k<=1000/\M s.wanted=M s.m/\(∀j,0<=j->j<s.k->gi s.wanted j=0)/\M s.d=M s.m
def YZ (s:P5):Prop:=(0<=s.i/\s.i<=s.k)/\s.k=(M s.m:Y)/\s.k<=1000/\M s.wanted=M s.m/\(∀j,0<=j->j<s.k->gi s.wanted j=if j<s.i then if (E5 s.d j).1=U then (AG s.m j).2.2.2.2.1 else 0 else 0)/\M s.d=M s.m
def gT (s:P5):aD:=(s.k-s.i).toNat
def aCL (x:Ex) (s s':P5):Prop:=x=.exit 0/\s'.wanted=HR (M s'.m) (λj=>if (E5 s'.d j).1=U then (AG s'.m j).2.2.2.2.1 else 0)
def anb:∀s,kF s->YZ s:=by
 exact So
def aim:Da YZ gT aCL j4:=by
 intro s hI;unfold j4;obtain ⟨⟨h0,h1⟩,h2,h3,h4,h5,h6⟩:=hI;refine AH (λc1=>?_) λc1=>?_
 ·refine AH (λc2=>?_) (λc2=>?_)
  ·have c1:s.i<s.k:=AY
   rw [AJ (x:=s.i+1)];refine ⟨⟨⟨AZ,AZ⟩,h2,h3,A8,λj j0 j1=>?_,h6⟩,by simp only [gT];omega⟩
   simp only;rw [J7 h0 cF j0]
   by_cases e:j=s.i
   ·subst e
    grind
   ·exact yN
  ·have c1:s.i<s.k:=AY
   rw [AJ (x:=s.i+1)];refine ⟨⟨⟨AZ,AZ⟩,h2,h3,h4,λj j0 j1=>?_,h6⟩,by simp only [gT];omega⟩
   simp only;rw [h5 j j0 j1]
   by_cases e:j=s.i
   ·subst e
    grind
   ·by_cases q:j<s.i
    ·omega
    ·omega
 ·have c1:s.k<=s.i:=AY
  exact xd
def Pr:AS P5:=⟨0,53,[0,4,18,19,20],[],λs=>[xQ 9 [s.cs,s.os,s.ks,s.gs,s.bs,s.l,s.d,s.t,.xl A7 s.od],.os 0 1 0<|M s.wanted,s.m,s.k,s.i],λs=>[bV 3 A7 s.wanted],λv b=>⟨Ao Ae<|BT (v.getD 0 .junk) 0,Ao .str<|BT (v.getD 0 .junk) 1,Ao Ak<|BT (v.getD 0 .junk) 2,Ao Af<|BT (v.getD 0 .junk) 3,Ao Al<|BT (v.getD 0 .junk) 4,Ao AO<|BT (v.getD 0 .junk) 5,Ao Ai<|BT (v.getD 0 .junk) 6,gI<|BT (v.getD 0 .junk) 7,Ao A7<|BT (v.getD 0 .junk) 8,B3 Af v 2,AL v 3,AL v 4,Ab A7 b 0⟩,j4,λs r=> {s with i:=r.i,wanted:=r.wanted},λs=>s,λ_ s=>s,[.exit 0],kF,YZ,gT⟩
abbrev aDW:=Pr.run
abbrev auS:=Pr.Av
def ay7:Rq YZ j4:=by
 intro s hI;refine ⟨λc1=>⟨?_,?_,λc2=>⟨?_,?_,?_,an⟩,λc2=>⟨A9,an⟩⟩,λc1=>⟨A9,an⟩⟩
 all_goals ((obtain ⟨⟨h0,h1⟩,h2,h3,h4,h5,h6⟩:=hI;(try simp only [Aa] at c1);first|omega|exact ⟨rfl,AI⟩ |(omega)))
def aBg:aO:=[awh,aPm]
def aRl:Pr.Ok:={}
def aRO:Pr.Pf (aCL):=⟨anb,λs h=>rfl,aim,ay7⟩
def aqu:SA 0 aHg Pr:=s1 aRl aRO aBg kN
def avk:Fi kF YZ aCL auS aDW:=AS.fin aRl aRO
def aKx:aE->T LV
 | [.xq 9 q0]=>(match ([q0 0,q0 1,q0 2,q0 3,q0 4,q0 5,q0 6,q0 7,q0 8]:aE) with
  | [.xl (.pair .str (.pair (.int J) (.pair (.int J) (.pair (.int J) (.pair (.pair (.int J) (.int J)) (.pair (.int J) (.pair (.int J) (.pair (.int J) (.pair (.int J) (.int J)))))))))) cs,.xl (.str) os,.xl (.pair .str (.pair (.int J) (.pair (.int J) (.int J)))) ks,.xl (.pair .str (.pair (.int J) (.pair (.int J) (.pair (.int J) (.pair (.int J) (.pair (.int J) (.pair (.int J) (.int J)))))))) gs,.xl (.pair .str (.int J)) bs,.xl (.pair (.int J) (.pair (.int J) (.pair (.int J) (.pair (.int J) (.int J))))) l,.xl (.pair .bool (.pair (.int J) (.pair (.int J) (.int J)))) d,.v (ah J t),.xl (.int J) od]=> .req ((M gs:Y)<=1000/\M d=M gs) (.ok<|.AQ [.xl A7<|Fa cs os ks gs bs (Bq gs) (JH gs d) od,shE cs os ks gs bs (Bq gs) (JH gs d) od])
  |_=> .no)
 |_=> .no
def atr (cs:aL) (os:aF) (ks:aR) (gs:aG) (bs:aS) (l:aM) (d:bc) (t:Y) (od:aC):letI b:=(M gs:Y);letI c:=(au b.toNat (0:Y));letI a:=(aDW (⟨cs,os,ks,gs,bs,l,d,t,od,gs,b,(0:Y),c⟩:P5));letI e:=(a.wanted.drop 0).take<|M a.wanted;Bu prog AU (aBg) kN (λi=>if i=3 then Pr.lp else Ap i) f142 [xQ 9 [cs,os,ks,gs,bs,l,d,t,.xl A7 od]]=.rm 8 b (.re b.toNat c<|.req (Pr.q (⟨cs,os,ks,gs,bs,l,d,t,od,gs,b,(0:Y),c⟩:P5))<|.req (b<=1000)<|.rz a.wanted<|.ok<|.AQ [.xl A7<|Fa cs os ks gs bs (Bq gs) e od,shE cs os ks gs bs (Bq gs) e od]):=AX
def awd:=vm (S:=aKx) func142 aBg kN (L:=(λi=>if i=3 then Pr.lp else Ap i)) (λb hb=>by
 rw [show BD _=[aHg] by kernel_rfl] at hb
 simp only [B9,Bx,By] at hb;subst hb;exact aqu) (λargs lv h=>by
 refine ⟨?_⟩;unfold aKx at h;split at h
 ·split at h
  case h_2=>cases h
  rename_i heq0;simp only [canL,canX];rw [E4 (n:=9) heq0];simp only [canL,canX];rw [atr];rename_i cs os ks gs bs l d t od;obtain ⟨⟨hn,hd⟩,rfl⟩:=h
  have hE:kF ⟨cs,os,ks,gs,bs,l,d,t,od,gs,(M gs:Y),0,au (M gs:Y).toNat 0⟩:=⟨rfl,rfl,hn,AI,λj _ _=>Jv,hd⟩
  obtain ⟨_,_,q1,q2⟩:=avk _ hE
  have q2:(aDW ⟨cs,os,ks,gs,bs,l,d,t,od,gs,(M gs:Y),0,au (M gs:Y).toNat 0⟩).wanted=JH gs d:=q2
  refine ⟨A0,⟨rfl,AI⟩,⟨hE,rfl,rfl⟩,hn,A0,?_⟩
  show LV.AQ [LV.xl _ _,_]=_
  rw [CT,Ej,q2]
 ·cases h)
structure P3 where
 m:aG
 (k i:Y)
 out:aC
def aAq (s:P3):T (Rd P3):=letI a:=s.out.set s.i.toNat (AG s.m s.i).2.2.2.2.2.2.1;.br (aq<|s.i<s.k) (.ix s.i (M s.m)<|.ik s.i (M s.out)<|.re (M s.out) a<|.nx {s with i:=AA<|s.i+1,out:=a})<|.rl s.out<|.so (.exit 0) s
def lh (s:P3):Prop:=s.i=0/\s.k=(M s.m:Y)/\s.k<=1000/\M s.out=M s.m/\(∀j,0<=j->j<s.k->gi s.out j=0)/\True
def Yb (s:P3):Prop:=(0<=s.i/\s.i<=s.k)/\s.k=(M s.m:Y)/\s.k<=1000/\M s.out=M s.m/\(∀j,0<=j->j<s.k->gi s.out j=if j<s.i then CY (AG s.m j) else 0)/\True
def uj (s:P3):aD:=(s.k-s.i).toNat
def aCO (x:Ex) (s s':P3):Prop:=x=.exit 0/\s'.out=HR (M s'.m) (λj=>CY<|AG s'.m j)
def ank:∀s,lh s->Yb s:=by
 exact So
def ai9:Da Yb uj aCO aAq:=by
 intro s hI;obtain ⟨⟨h0,h1⟩,h2,h3,h4,h5,h6⟩:=hI;refine AH (λc1=>?_) λc1=>?_
 ·have c1:s.i<s.k:=AY
  rw [AJ (x:=s.i+1)];refine ⟨⟨⟨A8,A8⟩,h2,h3,A8,λj j0 j1=>?_,h6⟩,by simp only [uj];omega⟩
  simp only;rw [J7 h0 cF j0];exact nC
 ·exact bK
def ZU:AS P3:=⟨0,31,[3,17,18,19],[],λs=>[.os 0 1 0<|M s.out,s.m,s.k,s.i],λs=>[bV 3 A7 s.out],λv b=>⟨B3 Af v 1,AL v 2,AL v 3,Ab A7 b 0⟩,aAq,λs r=> {r with m:=s.m,k:=s.k},λs=>s,λ_ s=>s,[.exit 0],lh,Yb,uj⟩
abbrev dJ:=ZU.run
abbrev auX:=ZU.Av
def Q2:aO:=[Wo,awd,aPm]
def an2:Az:=kI Q2<|l0 Q2
def azf:Rq Yb aAq:=by
 exact yF
def aRt:ZU.Ok:={}
def aRW:ZU.Pf (aCO):=⟨ank,λs h=>rfl,ai9,azf⟩
def ar0:=s2 (b:=bN f143 0) aRt aRW Q2 an2
def avt:Fi lh Yb aCO auX dJ:=AS.fin aRt aRW
structure P6 where
 cs:aL
 os:aF
 ks:aR
 gs:aG
 bs:aS
 l:aM
 d:bc
 t:Y
 (od targets m:aC)
 (k i:Y)
 alive:aC
def aHh:=bN f102 0
def aAo (s:P6):T (Rd P6):=letI b:=s.alive.getD s.i.toNat<|Ty.dflt A7;letI c:=M s.alive;letI a:=s.alive.set s.i.toNat (if b<(gi s.m s.i) then (gi s.m s.i) else b);.br (aq<|s.i<s.k) (.ix s.i (M s.m)<|.ik s.i c<|.ik s.i c<|.re c a<|.nx {s with i:=AA<|s.i+1,alive:=a})<|.rl s.alive<|.so (.exit 0) s
def lZ (s:P6):Prop:=s.i=0/\s.k=(M s.m:Y)/\s.k<=1000/\M s.alive=M s.m/\(∀j,0<=j->j<s.k->gi s.alive j=CY (AG s.gs j))/\True
def Ya (s:P6):Prop:=(0<=s.i/\s.i<=s.k)/\s.k=(M s.m:Y)/\s.k<=1000/\M s.alive=M s.m/\(∀j,0<=j->j<s.k->gi s.alive j=if j<s.i then mx (CY<|AG s.gs j) (gi s.m j) else CY (AG s.gs j))/\True
def vI (s:P6):aD:=(s.k-s.i).toNat
def aCM (x:Ex) (s s':P6):Prop:=x=.exit 0/\s'.alive=HR (M s'.m) (λj=>mx (CY<|AG s'.gs j)<|gi s'.m j)
def anf:∀s,lZ s->Ya s:=by
 exact So
def aiq:Da Ya vI aCM aAo:=by
 intro s hI;obtain ⟨⟨h0,h1⟩,h2,h3,h4,h5,h6⟩:=hI;refine AH (λc1=>?_) λc1=>?_
 ·have c1:s.i<s.k:=AY
  rw [AJ (x:=s.i+1)];refine ⟨⟨⟨A8,A8⟩,h2,h3,A8,λj j0 j1=>?_,h6⟩,by simp only [vI];omega⟩
  simp only
  have hi:=h5 s.i h0 c1
  rw [AE (show ¬s.i<s.i by omega)] at hi
  rw [J7 h0 cF j0]
  by_cases e:j=s.i
  ·subst e
   rw [AD rfl,AD (show s.i<s.i+1 by omega)]
   show mx (gi s.alive s.i) (gi s.m s.i)=_
   rw [hi]
  ·exact yN
 ·have c1:s.k<=s.i:=AY
  exact xd
def Pt:AS P6:=⟨0,71,[0,4,7,41,42,43],[],λs=>[xQ 9 [s.cs,s.os,s.ks,s.gs,s.bs,s.l,s.d,s.t,.xl A7 s.od],.xl A7 s.targets,.os 0 1 0<|M s.alive,.xl A7 s.m,s.k,s.i],λs=>[bV 3 A7 s.alive],λv b=>⟨Ao Ae<|BT (v.getD 0 .junk) 0,Ao .str<|BT (v.getD 0 .junk) 1,Ao Ak<|BT (v.getD 0 .junk) 2,Ao Af<|BT (v.getD 0 .junk) 3,Ao Al<|BT (v.getD 0 .junk) 4,Ao AO<|BT (v.getD 0 .junk) 5,Ao Ai<|BT (v.getD 0 .junk) 6,gI<|BT (v.getD 0 .junk) 7,Ao A7<|BT (v.getD 0 .junk) 8,B3 A7 v 1,B3 A7 v 3,AL v 4,AL v 5,Ab A7 b 0⟩,aAo,λs r=> {s with i:=r.i,alive:=r.alive},λs=>s,λ_ s=>s,[.exit 0],lZ,Ya,vI⟩
abbrev aDX:=Pt.run
abbrev auV:=Pt.Av
def aza:Rq Ya aAo:=by
 intro s hI;refine ⟨λc1=>⟨?_,?_,?_,?_,?_,?_,an⟩,λc1=>⟨A9,an⟩⟩
 all_goals ((obtain ⟨⟨h0,h1⟩,h2,h3,h4,h5,h6⟩:=hI;(try simp only [Aa] at c1);first|omega|exact ⟨rfl,AI⟩ |(omega)))
def aBl:Az:=kI Q2<|la 3 func143 ar0<|l0 Q2
def aRo:Pt.Ok:={}
def aRR:Pt.Pf (aCM):=⟨anf,λs h=>rfl,aiq,aza⟩
def aqv:SA 0 aHh Pt:=s1 aRo aRR Q2 aBl
def avo:Fi lZ Ya aCM auV aDX:=AS.fin aRo aRR
def aKy:aE->T LV
 | [.xq 9 q0]=>(match ([q0 0,q0 1,q0 2,q0 3,q0 4,q0 5,q0 6,q0 7,q0 8]:aE) with
  | [.xl (.pair .str (.pair (.int J) (.pair (.int J) (.pair (.int J) (.pair (.pair (.int J) (.int J)) (.pair (.int J) (.pair (.int J) (.pair (.int J) (.pair (.int J) (.int J)))))))))) cs,.xl (.str) os,.xl (.pair .str (.pair (.int J) (.pair (.int J) (.int J)))) ks,.xl (.pair .str (.pair (.int J) (.pair (.int J) (.pair (.int J) (.pair (.int J) (.pair (.int J) (.pair (.int J) (.int J)))))))) gs,.xl (.pair .str (.int J)) bs,.xl (.pair (.int J) (.pair (.int J) (.pair (.int J) (.pair (.int J) (.int J))))) l,.xl (.pair .bool (.pair (.int J) (.pair (.int J) (.int J)))) d,.v (ah J t),.xl (.int J) od]=> .req (M d=M gs/\Fy cs os ks gs bs (Bq gs) (JH gs d) od=U/\KB l (M gs:Y) t=U/\Fy cs os ks gs bs (Cx gs l t) (Fa cs os ks gs bs (Bq gs) (JH gs d) od) od=U) (.ok<|.AQ [.xl A7<|ofO cs os ks gs bs l d t od,(0:Y)])
  |_=> .no)
 |_=> .no
def att (cs:aL) (os:aF) (ks:aR) (gs:aG) (bs:aS) (l:aM) (d:bc) (t:Y) (od:aC):letI b:=(M gs:Y);letI c:=(au b.toNat (0:Y));letI e:=Fa cs os ks gs bs (Bq gs) (JH gs d) od;letI f:=(dJ (⟨gs,b,(0:Y),c⟩:P3));letI h:=shE cs os ks gs bs (Bq gs) (JH gs d) od;letI j:=(M (HL l b t):Y);letI a:=(aDX (⟨cs,os,ks,gs,bs,l,d,t,od,e,HL l b t,j,(0:Y),f.out⟩:P6));letI g:=(a.alive.drop 0).take<|M a.alive;Bu prog AU (Q2) aBl (λi=>if i=9 then Pt.lp else Ap i) f102 [xQ 9 [cs,os,ks,gs,bs,l,d,t,.xl A7 od]]=.req (b<=1000/\M d=M gs) (.br (h !=0) (.ok<|.AQ [.xl A7 ([]:aC),h])<|.br ((JV l b t) !=0) (.ok<|.AQ [.xl A7 ([]:aC),JV l b t])<|.rm 8 b<|.re b.toNat c<|.req (ZU.q (⟨gs,b,(0:Y),c⟩:P3))<|.rl f.out<|.req (Pt.q (⟨cs,os,ks,gs,bs,l,d,t,od,e,HL l b t,j,(0:Y),f.out⟩:P6))<|.rz a.alive<|.ok<|.AQ [.xl A7<|Fa cs os ks gs bs g e od,shE cs os ks gs bs g e od]):=AX
def awe:=vm (S:=aKy) func102 Q2 aBl (L:=(λi=>if i=9 then Pt.lp else Ap i)) (λb hb=>by
 rw [show BD _=[aHh] by kernel_rfl] at hb
 simp only [B9,Bx,By] at hb;subst hb;exact aqv) (λargs lv h=>by
 refine ⟨?_⟩;unfold aKy at h;split at h
 ·split at h
  case h_2=>cases h
  rename_i heq0;simp only [canL,canX];rw [E4 (n:=9) heq0];simp only [canL,canX];rw [att];rename_i cs os ks gs bs l d t od;obtain ⟨⟨hd,hk,hv,hk2⟩,rfl⟩:=h
  have gl:=(D7.1 (Lc.1 hk).1).1.2.2.2.2.1
  have ea:HL l (M gs:Y) t=GQ (M gs) l t:=by unfold HL;rw [AD hv,C0]
  rw [abI hk,show JV l (M gs:Y) t=0 by unfold JV;rw [AD hv]]
  refine ⟨⟨A0,hd⟩,λc=>absurd c Ac,λ_=>⟨λc=>absurd c Ac,λ_=>?_⟩⟩
  have hE:lh ⟨gs,(M gs:Y),0,au (M gs:Y).toNat 0⟩:=⟨rfl,rfl,AZ,AI,λj _ _=>Jv,an⟩
  obtain ⟨_,_,q1,q2⟩:=avt _ hE
  have q2:(dJ ⟨gs,(M gs:Y),0,au (M gs:Y).toNat 0⟩).out=Bq gs:=q2
  have hE2:lZ ⟨cs,os,ks,gs,bs,l,d,t,od,Fa cs os ks gs bs (Bq gs) (JH gs d) od,HL l (M gs:Y) t,(M (HL l (M gs:Y) t):Y),0,(dJ ⟨gs,(M gs:Y),0,au (M gs:Y).toNat 0⟩).out⟩:=⟨rfl,rfl,by simp only;rw [ea,eW];omega,by simp only;rw [q2,ea,eW];exact IU,λj j0 j1=>by
   simp only at j1|-;rw [ea,eW] at j1;rw [q2];exact NO j0 j1,an⟩
  obtain ⟨_,_,q3,q4⟩:=avo _ hE2
  have q4:(aDX ⟨cs,os,ks,gs,bs,l,d,t,od,Fa cs os ks gs bs (Bq gs) (JH gs d) od,HL l (M gs:Y) t,(M (HL l (M gs:Y) t):Y),0,(dJ ⟨gs,(M gs:Y),0,au (M gs:Y).toNat 0⟩).out⟩).alive=Cx gs l t:=q4.trans (by
   show HR (M<|HL l (M gs:Y) t) (λj=>mx (CY<|AG gs j)<|gi (HL l (M gs:Y) t) j)=_
   rw [ea,eW];rfl)
  refine ⟨A0,⟨rfl,AI⟩,⟨hE,rfl,rfl⟩,A9,⟨hE2,rfl,rfl⟩,A0,?_⟩
  show LV.AQ [LV.xl _ _,_]=_
  rw [CT,Ej,q4,abI hk2];rfl
 ·cases h)
def aB9:Array Tmp×Code×Code:=((J5<|f104.body.getD .skip)[0]?).getD (#[],.skip,.skip)
def akv:aVF:=aB9.1
def alr:bC:=aB9.2.1
def alh:bC:=aB9.2.2
structure Mv where
 i:Y
 cs:aL
 os:aF
 ks:aR
 gs:aG
 bs:aS
 l:aM
 d:bc
 t:Y
 od:aC
 (c a:Y)
 r:aN
 m:aM
 st:LS
def aAp (s:Mv):T (Rd Mv):=
 .br (aq<|s.i>=0) (.ix s.i (M s.m)<|.br ((An s.m s.i).2.1==s.c) (.so (.ret) {s with r:=(((An s.m s.i).2.2.1 !=s.a) ||(aq<|(An s.m s.i).2.2.2.1<=(AA<|s.t-6))),st:=.done<|.ret})<|.nx {s with i:=AA<|s.i-1}) (.so (.exit 0) s)
def lf (s:Mv):Prop:=s.st=.ready/\s.i=(M s.m:Y)-1/\(M s.m:Y)<=1000/\0<=s.t/\s.t<=1000000
def lO (s:Mv):Prop:=s.st=.ready/\(-1<=s.i/\s.i<(M s.m:Y))/\(M s.m:Y)<=1000/\0<=s.t/\s.t<=1000000
def uh (s:Mv):aD:=(s.i+1).toNat
def ace (x:Ex) (s s':Mv):Prop:=True
def ang:∀s,lf s->lO s:=by
 rintro s ⟨h0,h1,h2⟩
 exact ⟨h0,A0,h2⟩
def air:Da lO uh ace aAp:=by
 intro s hI;obtain ⟨hs,⟨h0,h1⟩,h2⟩:=hI;refine AH (λc1=>AH (λc2=>trivial) λc2=>?_) λc1=>trivial
 have c1:0<=s.i:=A8
 rw [AJ (x:=s.i-1)];exact ⟨⟨hs,⟨A8,A8⟩,h2⟩,by simp only [uh];omega⟩
def ZT:AS Mv:=⟨6,19,[0,1,3],[],λs=>[.CQ 5,.own 4 0,s.i],λs=>[⟨[xQ 9 [s.cs,s.os,s.ks,s.gs,s.bs,s.l,s.d,s.t,.xl A7 s.od]],208,.cl,X⟩,⟨[s.c],3,.cl,X⟩,⟨[s.a],3,.cl,X⟩,⟨[s.r],4,.cl,X⟩,⟨[s.m],34,.cl,X⟩,⟨[.junk,.junk,.junk,.own 0 0,.own 1 0,.own 2 0,.own 3 0,.junk,.v<|.tuple #[],.junk,.junk,.junk,.junk,.junk,.junk,.junk,.junk,.junk,.junk,.junk,.junk,.junk,.junk,.junk,.junk,.junk,.v<|.tuple #[],.v<|.tuple #[],.v<|.tuple #[],.v<|.tuple #[],.v<|.tuple #[],.v<|.tuple #[],.v<|.tuple #[],.v<|.tuple #[],.v<|.tuple #[],.v<|.tuple #[],.v<|.tuple #[],.v<|.tuple #[],.v<|.tuple #[],.v<|.tuple #[],.v<|.tuple #[],.v<|.tuple #[],.v<|.tuple #[],.v<|.tuple #[],.v<|.tuple #[]],0,.Cn akv alr alh s.st,X⟩],λv b=>⟨AL v 2,Ao Ae<|BT (BE (CX b 0) 0) 0,Ao .str<|BT (BE (CX b 0) 0) 1,Ao Ak<|BT (BE (CX b 0) 0) 2,Ao Af<|BT (BE (CX b 0) 0) 3,Ao Al<|BT (BE (CX b 0) 0) 4,Ao AO<|BT (BE (CX b 0) 0) 5,Ao Ai<|BT (BE (CX b 0) 0) 6,gI<|BT (BE (CX b 0) 0) 7,Ao A7<|BT (BE (CX b 0) 0) 8,Am b 1 0,Am b 2 0,cgB b 3 0,AF AO b 4 0,.ready⟩,aAp,λs r=> {r with cs:=s.cs,os:=s.os,ks:=s.ks,gs:=s.gs,bs:=s.bs,l:=s.l,d:=s.d,t:=s.t,od:=s.od,c:=s.c,a:=s.a,m:=s.m},λs=> {s with st:=.ready},λx s=> {s with st:=(match x with| .ret=>(.done<|.ret) | .exit 0=> .ready|_=> .ready)},[.ret,.exit 0],lf,lO,uh⟩
abbrev aII:=ZT.run
abbrev aJh:=ZT.Av
def R7:aO:=[]
def an1:Az:=kI R7<|l0 R7
def azb:Rq lO aAp:=by
 intro s hI;refine ⟨λc1=>⟨?_,λ_=>trivial,λ_=>trivial⟩,λ_=>trivial⟩
 ·(obtain ⟨hs,⟨h0,h1⟩,h2⟩:=hI;simp only [Aa] at c1;omega)
def aRp:ZT.Ok:={}
def aRS:ZT.Pf (ace):=⟨ang,λs h=>by
 obtain ⟨i,cs,os,ks,gs,bs,l,d,t,od,c,a,r,m,st⟩:=s
 have e:=h.1
 subst e;rfl,air,azb⟩
def aqw:=s2 (b:=bN f186 0) aRp aRS R7 an1
def avp:Rs lf aJh aII (λs:Mv=>nwO s.a s.t<|(s.m.take (s.i+1).toNat).reverse.find? λx=>x.2.1==s.c) (λx s' (v:aN)=>(x=.ret/\s'.r=v)\/(x=.exit 0/\v=U)):=DY aRp aRS (λs hI=>by
  obtain ⟨hs,⟨h0,h1⟩,h2⟩:=hI;refine AH (λc1=>?_) λc1=>?_
  ·have c1:0<=s.i:=A8
   have e:=(TE c1 (show s.i<(M s.m:Y) by omega)).2
   refine AH (λc2=> .inl ⟨rfl,?_⟩) λc2=>?_
   ·rw [e,List.reverse_append]
    show _=nwO s.a s.t (List.find? _ (An s.m s.i::_))
    rw [List.find?_cons_of_pos<|by exact c2]
    simp only [nwO];rw [AJ (x:=s.t-6)]
   ·show nwO _ _ _=nwO _ _ _
    rw [AJ (x:=s.i-1),e,List.reverse_append]
    show _=nwO s.a s.t (List.find? _ (An s.m s.i::_))
    rw [List.find?_cons_of_neg A8,show (s.i-1+1).toNat=s.i.toNat by omega]
    rfl
  ·have c1:s.i<0:=A8
   refine .inr ⟨rfl,?_⟩;rw [show (s.i+1).toNat=0 by omega]
   rfl)
def aKz:aE->T LV
 | [.xq 9 q0,.v (ah J i),.v (ah J a)]=>(match ([q0 0,q0 1,q0 2,q0 3,q0 4,q0 5,q0 6,q0 7,q0 8]:aE) with
  | [.xl (.pair .str (.pair (.int J) (.pair (.int J) (.pair (.int J) (.pair (.pair (.int J) (.int J)) (.pair (.int J) (.pair (.int J) (.pair (.int J) (.pair (.int J) (.int J)))))))))) cs,.xl (.str) os,.xl (.pair .str (.pair (.int J) (.pair (.int J) (.int J)))) ks,.xl (.pair .str (.pair (.int J) (.pair (.int J) (.pair (.int J) (.pair (.int J) (.pair (.int J) (.pair (.int J) (.int J)))))))) gs,.xl (.pair .str (.int J)) bs,.xl (.pair (.int J) (.pair (.int J) (.pair (.int J) (.pair (.int J) (.int J))))) l,.xl (.pair .bool (.pair (.int J) (.pair (.int J) (.int J)))) d,.v (ah J t),.xl (.int J) od]=> .req ((0<=i/\i<(M gs:Y))/\(M l:Y)<=1000/\0<=t/\t<=1000000) (.ok<|nwB gs l t i a)
  |_=> .no)
 |_=> .no
def abS:Az:=kI R7<|la 1 func186 aqw<|l0 R7
def atu (cs:aL) (os:aF) (ks:aR) (gs:aG) (bs:aS) (l:aM) (d:bc) (t:Y) (od:aC) (i a:Y):letI b:=(AA<|(M l:Y)-1);Bu prog AU (R7) abS Ap f104 [xQ 9 [cs,os,ks,gs,bs,l,d,t,.xl A7 od],i,a]=.ix i (M gs) (.br (aq<|a<=(AG gs i).2.2.2.2.2.2.1) (.ok X)<|.req (ZT.q (⟨b,cs,os,ks,gs,bs,l,d,t,od,i,a,X,l,.ready⟩:Mv))<|.br (Bt (aJh (⟨b,cs,os,ks,gs,bs,l,d,t,od,i,a,X,l,.ready⟩:Mv))<|.ret) (.ok (aII (⟨b,cs,os,ks,gs,bs,l,d,t,od,i,a,X,l,.ready⟩:Mv)).r)<|.ok U):=AX
def awf:=vo (S:=aKz) func104 R7 abS (λargs lv h=>by
 refine ⟨?_⟩;unfold aKz at h;split at h
 ·split at h
  case h_2=>cases h
  rename_i heq0;simp only [canL,canX];rw [E4 (n:=9) heq0];simp only [canL,canX];rw [atu];rename_i i a _ cs os ks gs bs l d t od;obtain ⟨⟨hi,hl,ht⟩,rfl⟩:=h;refine ⟨hi,λc=>B0 (λz=>LV.v<|.bool z) ?_,λc=>?_⟩
  ·have c:a<=CY (AG gs i):=Ct c
   unfold nwB;rw [Cb c];rfl
  have c:¬a<=CY (AG gs i):=KM c
  have hE:lf ⟨AA<|(M l:Y)-1,cs,os,ks,gs,bs,l,d,t,od,i,a,X,l,.ready⟩:=⟨rfl,by show AA ((M l:Y)-1)=_;rw [AJ],hl,ht⟩
  have ev:nwB gs l t i a=nwO a t ((l.take (AA ((M l:Y)-1)+1).toNat).reverse.find? λx=>x.2.1==i):=by
   unfold nwB;rw [IP c,AJ (x:=(M l:Y)-1),show ((M l:Y)-1+1).toNat=M l by omega,Ej]
   rfl
  refine ⟨⟨hE,rfl,rfl⟩,?_⟩;rcases avp _ hE with ⟨q1,q2⟩ |⟨q1,q2⟩<;>rw [q1]
  ·exact ⟨λ_=>B0 (λz=>LV.v<|.bool z)<|q2.trans ev.symm,λh=>As⟩
  ·exact ⟨λh=>As,λ_=>B0 (λz=>LV.v<|.bool z)<|q2.symm.trans ev.symm⟩
 ·cases h)
def aHP:aE->T LV
 | [.v (ah J x)]=> .ok X
 |_=> .no
def Xe:aO:=[]
def aqg:=vo (S:=aHP) func175 Xe kN (λargs lv h=>by
 unfold aHP at h;split at h
 ·rename_i x
  refine Au (.ok<|.v<|.bool<|x !=x) ?_;obtain rfl:=h;exact B0 (λz=>LV.v<|.bool z) AI
 ·cases h)
def aKK:aE->T LV
 | [.v (ah J x),.v (ah J y)]=> .ok (cm x y)
 |_=> .no
def amh:aO:=[aqg]
def awm:=vo (S:=aKK) func137 amh kN (λargs lv h=>by
 unfold aKK at h;split at h
 ·rename_i x y
  refine Au (.br X (.br X (.ok (0:Y))<|.ok<|.v<|ah J (-1))<|.br X (.ok (1:Y))<|.br (aq<|x<y) (.ok<|.v<|ah J (-1))<|.br (aq<|x>y) (.ok (1:Y))<|.ok (0:Y)) ?_;obtain rfl:=h;unfold cm;refine ⟨λh=>As,λ_=>⟨λh=>As,λ_=>⟨λc=>?_,λc=>⟨λc2=>?_,λc2=>?_⟩⟩⟩⟩<;>refine B0 (λz=>LV.v<|ah J z) ?_
  ·grind
  ·grind
  ·grind
 ·cases h)
structure Mx where
 (r z:Y)
 l:aC
 (n i:Y)
def aHl:=bN f136 0
def aAv (s:Mx):T (Rd Mx):=
 .br (aq<|s.i<s.n) (.ix s.i (M s.l)<|.br ((gi s.l s.i) !=s.z) (.so (.ret) {s with r:=gi s.l s.i})<|.nx {s with i:=AA<|s.i+1}) (.so (.exit 0) s)
def lu (s:Mx):Prop:=s.i=0/\s.n=(M s.l:Y)/\s.n<=1000/\s.z=0
def lQ (s:Mx):Prop:=(0<=s.i/\s.i<=s.n)/\s.n=(M s.l:Y)/\s.n<=1000/\s.z=0
def uq (s:Mx):aD:=(s.n-s.i).toNat
def acg (x:Ex) (s s':Mx):Prop:=True
def anr:∀s,lu s->lQ s:=by
 exact aNC
def ai0:Da lQ uq acg aAv:=by
 intro s hI;obtain ⟨⟨h0,h1⟩,h2,h3,h4⟩:=hI;refine AH (λc1=>?_) λc1=>?_
 ·refine AH (λc2=>?_) (λc2=>?_)
  ·exact an
  ·have c1:s.i<s.n:=A8
   rw [AJ (x:=s.i+1)];exact ⟨⟨⟨A8,A8⟩,h2,h3,h4⟩,by simp only [uq];omega⟩
 ·exact an
def S3:AS Mx:=⟨0,18,[2,3,6,7,8],[],λs=>[s.r,s.z,.xl A7 s.l,s.n,s.i],λ_=>[],λv b=>⟨AL v 0,AL v 1,B3 A7 v 2,AL v 3,AL v 4⟩,aAv,λs r=> {s with r:=r.r,i:=r.i},λs=>s,λ_ s=>s,[.ret,.exit 0],lu,lQ,uq⟩
abbrev aIy:=S3.run
abbrev aJi:=S3.Av
def azk:Rq lQ aAv:=by
 intro s hI;refine ⟨λc1=>⟨?_,λ_=>trivial,λ_=>trivial⟩,λ_=>trivial⟩
 ·(obtain ⟨⟨h0,h1⟩,h2,h3⟩:=hI;simp only [Aa] at c1;omega)
def aRx:S3.Ok:={}
def aQy:S3.Pf (acg):=⟨anr,λs h=>rfl,ai0,azk⟩
def asa:SA 0 aHl S3:=s1 aRx aQy Xe kN
def avT:Rs lu aJi aIy (λs:Mx=>orI<|s.l.drop s.i.toNat) (λx s' (v:Y)=>(x=.ret/\s'.r=v)\/(x=.exit 0/\s'.z=v)):=DY aRx aQy (λs hI=>by
  obtain ⟨⟨h0,h1⟩,h2,h3,h4⟩:=hI;refine AH (λc1=>?_) λc1=>?_
  ·have c1:s.i<s.n:=A8
   have e:=(gi_step h0 (show s.i<(M s.l:Y) by omega)).1
   rw [AJ (x:=s.i+1)];refine AH (λc2=>?_) λc2=>?_
   ·refine .inl ⟨rfl,?_⟩
    rw [e,orI,AD A8]
   ·show orI _=orI _
    rw [e,orI,AE A8]
  ·have c1:s.n<=s.i:=A8
   refine .inr ⟨rfl,?_⟩;rw [Ei A0,h4];rfl)
def aKL:aE->T LV
 | [.xl (.int J) l]=> .req ((M l:Y)<=1000) (.ok<|orI l)
 |_=> .no
def awn:=vm (S:=aKL) func136 Xe kN (L:=(λi=>if i=3 then S3.lp else Ap i)) (λb hb=>by
 rw [show BD _=[aHl] by kernel_rfl] at hb
 simp only [B9,Bx,By] at hb;subst hb;exact asa) (λargs lv h=>by
 unfold aKL at h;split at h
 ·rename_i l
  refine Au (letI a:=(M l:Y);.req (S3.q (⟨0,0,l,a,0⟩:Mx))<|.br (Bt (aJi (⟨0,0,l,a,0⟩:Mx))<|.ret) (.ok (aIy (⟨0,0,l,a,0⟩:Mx)).r)<|.ok (0:Y)) ?_;obtain ⟨hl,rfl⟩:=h
  have hE:lu ⟨0,0,l,(M l:Y),0⟩:=⟨rfl,rfl,hl,rfl⟩
  refine ⟨⟨hE,rfl,rfl⟩,?_⟩;rcases avT _ hE with ⟨q1,q2⟩ |⟨q1,q2⟩<;>rw [q1]
  ·exact ⟨λ_=>B0 (λz=>LV.v<|ah J z) q2,λh=>As⟩
  ·exact ⟨λh=>As,λ_=>B0 (λz=>LV.v<|ah J z) q2⟩
 ·cases h)
def aLG:aE->T LV
 | [.v (ah J i),.xq 1 q0,.xq 1 q1]=>(match ([q0 0]:aE) with
  | [.xl (.pair .bool (.pair (.int J) (.pair (.int J) (.int J)))) d]=>(match ([q1 0]:aE) with
  | [.v (ah J t)]=> .req (Io d t/\0<=i/\i<(M d:Y)) (.ok<|slk d t i)
  |_=> .no)
  |_=> .no)
 |_=> .no
def atj (i:Y) (d:bc) (t:Y):Bu prog AU (Xe) kN Ap f133 [i,xQ 1 [d],xQ 1 [t]]=.ix i (M d) (.ix i (M d)<|.ok<|AA<|(AA<|(E5 d i).2.2.1-t)-(E5 d i).2.1):=AX
def tX:=vo (S:=aLG) func133 Xe kN (λargs lv h=>by
 refine ⟨?_⟩;unfold aLG at h;split at h
 ·split at h
  case h_2=>cases h
  rename_i heq0;split at h
  case h_2=>cases h
  rename_i heq1;simp only [canL,canX];rw [E4 (n:=1) heq0];rw [E4 (n:=1) heq1];simp only [canL,canX];rw [atj];rename_i i _ _ _ d _ t;obtain ⟨⟨hw,hi⟩,rfl⟩:=h
  have b:=awu hw hi.1 hi.2
  have ht:=hw.2
  refine ⟨hi,hi,B0 (λz=>LV.v<|ah J z) ?_⟩
  unfold slk;rw [AJ (x:=(E5 d i).2.2.1-t),AJ]
 ·cases h)
def aUm:aE->T LV
 | [.v (ah J a),.v (ah J b),.xq 1 q0,.xq 1 q1]=>(match ([q0 0]:aE) with
  | [.xl (.pair .bool (.pair (.int J) (.pair (.int J) (.int J)))) d]=>(match ([q1 0]:aE) with
  | [.fn 133 [.xq 1 q2,.xq 1 q3]]=>(match ([q2 0]:aE) with
  | [.xl (.pair .bool (.pair (.int J) (.pair (.int J) (.int J)))) e]=>(match ([q3 0]:aE) with
  | [.v (ah J t)]=> .req (d=e/\Io d t/\(0<=a/\a<(M d:Y))/\0<=b/\b<(M d:Y)) (.ok<|cmD d t a b)
  |_=> .no)
  |_=> .no)
  |_=> .no)
  |_=> .no)
 |_=> .no
def abn:aO:=[tX,awn,awm]
def ah0 (a b:Y) (d e:bc) (t:Y):letI c:=cm (E5 d a).2.2.2 (E5 d b).2.2.2;letI f:=cm (slk e t a)<|slk e t b;Bu prog AU (abn) kN Ap f135 [a,b,xQ 1 [d],xQ 1 [.fn 133 [xQ 1 [e],xQ 1 [t]]]]=.ix a (M d) (.ix b (M d)<|.req (Io e t/\0<=a/\a<(M e:Y))<|.req (Io e t/\0<=b/\b<(M e:Y))<|.req ((M ([c,f,cm a b]):Y)<=1000)<|.ok<|orI<|[c,f,cm a b]):=AX
def ab3:=vo (S:=aUm) func135 abn kN (λargs lv h=>by
 refine ⟨?_⟩;unfold aUm at h;split at h
 ·split at h
  case h_2=>cases h
  rename_i heq0;split at h
  case h_2=>cases h
  rename_i heq1;split at h
  case h_2=>cases h
  rename_i heq2;split at h
  case h_2=>cases h
  rename_i heq3;simp only [canL,canX];rw [E4 (n:=1) heq0];rw [E4 (n:=1) heq1];simp only [canL,canX];rw [E4 (n:=1) heq2];rw [E4 (n:=1) heq3];simp only [canL,canX];rw [ah0];rename_i a b _ d _ _ _ _ e _ t;obtain ⟨⟨rfl,hw,ha,hb⟩,rfl⟩:=h;exact ⟨ha,hb,⟨hw,ha⟩,⟨hw,hb⟩,AI,rfl⟩
 ·cases h)
structure PQ where
 (n i:Y)
 d:bc
 tick:Y
 out:aC
def aH3:=bN f100 0
def aA5 (s:PQ):T (Rd PQ):=letI a:=s.out.set s.i.toNat s.i;.br (aq<|s.i<s.n) (.ik s.i (M s.out)<|.re (M s.out) a<|.nx {s with i:=AA<|s.i+1,out:=a})<|.rl s.out<|.so (.exit 0) s
def kU (s:PQ):Prop:=s.i=0/\s.out=au (M s.d) 0/\s.n=(M s.d:Y)/\s.n<=1000/\M s.out=M s.d
def Yx (s:PQ):Prop:=(0<=s.i/\s.i<=s.n)/\s.out=Fz s.i.toNat++au (M s.d-s.i.toNat) 0/\s.n=(M s.d:Y)/\s.n<=1000/\M s.out=M s.d
def vT (s:PQ):aD:=(s.n-s.i).toNat
def aBy (x:Ex) (s s':PQ):Prop:=x=.exit 0/\s'.out=Fz (M s'.d)
def am6:∀s,kU s->Yx s:=by
 exact aNN
def azO:Da Yx vT aBy aA5:=by
 intro s hI;obtain ⟨⟨h0,h1⟩,h2,h3,h4,h5⟩:=hI;refine AH (λc1=>?_) λc1=>?_
 ·have c1:s.i<s.n:=AY
  rw [AJ (x:=s.i+1)]
  have e:M s.d-s.i.toNat=(M s.d-(s.i+1).toNat)+1:=A0
  refine ⟨⟨⟨A8,A8⟩,?_,h3,h4,A8⟩,by simp only [vT];omega⟩
  simp only
  have hs:=aIb (xs:=Fz s.i.toNat) (r:=M s.d-(s.i+1).toNat) (v:=s.i)
  rw [Ou] at hs;rw [h2,e,hs,show (s.i+1).toNat=s.i.toNat+1 by omega,aFe,CS h0]
 ·have c1:s.n<=s.i:=AY
  refine ⟨rfl,?_⟩;rw [h2,show s.i.toNat=M s.d by omega]
  simp
def RE:AS PQ:=⟨0,26,[2,3,5,12,13],[],λs=>[.own 0 0,.own 1 0,.os 2 1 0<|M s.out,s.n,s.i],λs=>[⟨[s.d],45,.cl,X⟩,⟨[s.tick],3,.cl,X⟩,bV 3 A7 s.out],λv b=>⟨AL v 3,AL v 4,AF Ai b 0 0,Am b 1 0,Ab A7 b 2⟩,aA5,λs r=> {s with i:=r.i,out:=r.out},λs=>s,λ_ s=>s,[.exit 0],kU,Yx,vT⟩
abbrev MS:=RE.run
abbrev av4:=RE.Av
def ayB:Rq Yx aA5:=by
 intro s hI;refine ⟨λc1=>⟨?_,?_,?_,an⟩,λc1=>⟨A9,an⟩⟩
 all_goals ((obtain ⟨⟨h0,h1⟩,h2,h3,h4,h5⟩:=hI;simp only [Aa] at c1;first|omega|exact ⟨rfl,AI⟩))
def PN:aO:=[tX,ab3]
def jT:Az:=kI PN<|l0 PN
def aSB:RE.Ok:={}
def aQh:RE.Pf (aBy):=⟨am6,λs h=>rfl,azO,ayB⟩
def ar6:SA 0 aH3 RE:=s1 aSB aQh PN jT
def asO:Fi kU Yx aBy av4 MS:=AS.fin aSB aQh
structure Nm where
 (a b i j:Y)
 b0:bc
 b1:Y
 data:aC
def aHb:=lN (bN f207 0) 0
def aAR (s:Nm):T (Rd Nm):=letI c:=s.data.getD s.j.toNat<|Ty.dflt A7;letI d:=AA<|s.j-1;letI e:=M s.data;letI b:=s.data.getD d.toNat<|Ty.dflt A7;letI f:=s.data.set s.j.toNat b;.br (aq<|s.j>s.a) (.ik s.j e<|.ik d e<|.req (s.b0=s.b0/\Io s.b0 s.b1/\(0<=c/\c<(M s.b0:Y))/\0<=b/\b<(M s.b0:Y))<|.br (aq<|(cmD s.b0 s.b1 c b)<0) (.ix d e<|.ix s.j e<|.req (d.toNat<M s.data)<|.req (s.j.toNat<M s.data)<|.ik s.j e<|.ix d e<|.req (d.toNat<M f)<|.re e (f.set d.toNat c)<|.nx {s with j:=d,data:=f.set d.toNat c})<|.rl s.data<|.so (.exit 2) s)<|.rl s.data<|.so (.exit 2) s
def kv (s:Nm):Prop:=s.a=0/\(0<=s.j/\s.j<(M s.data:Y))/\(M s.data=M s.b0/\(M s.data:Y)<=1000)/\(∀x∈s.data,0<=x/\x<(M s.b0:Y))/\Io s.b0 s.b1
def lJ (s:Nm):Prop:=s.a=0/\(0<=s.j/\s.j<(M s.data:Y))/\(M s.data=M s.b0/\(M s.data:Y)<=1000)/\(∀x∈s.data,0<=x/\x<(M s.b0:Y))/\Io s.b0 s.b1
def v8 (s:Nm):aD:=s.j.toNat
def acW (x:Ex) (s s':Nm):Prop:=x=.exit 2
def alI:∀s,kv s->lJ s:=by
 exact λs h=>h
def agC:Da lJ v8 acW aAR:=by
 intro s hI;obtain ⟨h0,⟨h1,h2⟩,⟨h3,h3'⟩,h4,h5⟩:=hI;refine AH (λc1=>?_) λc1=>rfl
 have c1:s.a<s.j:=AY
 rw [AJ (x:=s.j-1)];refine AH (λc2=>?_) λc2=>rfl
 have g0:=λ(k:aD) (hk:k<M s.data)=>h4 (s.data.getD k 0) GI
 have hm:∀x∈(s.data.set s.j.toNat<|s.data.getD (s.j-1).toNat 0).set (s.j-1).toNat (s.data.getD s.j.toNat 0),0<=x/\x<(M s.b0:Y):=λx hx=>by
  rcases OX hx with hx|e
  ·rcases OX hx with hx|e
   ·exact h4 x hx
   ·rw [e];exact g0 _ A0
  ·grind
 exact ⟨⟨h0,⟨AZ,A8⟩,⟨A8,A8⟩,hm,h5⟩,by simp only [v8];omega⟩
def Rx:AS Nm:=⟨4,53,[0,1,2,3,8,9],[],λs=>[.os 2 1 0<|M s.data,s.a,s.b,.fn 135 [.own 0 0,.own 3 0],s.i,s.j],λs=>[⟨[s.b0],45,.cl,X⟩,⟨[s.b1],3,.cl,X⟩,bV 3 A7 s.data,⟨[.fn 133 [.own 0 0,.own 1 0]],222,.cl,X⟩],λv b=>⟨AL v 1,AL v 2,AL v 4,AL v 5,AF Ai b 0 0,Am b 1 0,Ab A7 b 2⟩,aAR,λs r=> {s with j:=r.j,data:=r.data},λs=>s,λ_ s=>s,[.exit 2],kv,lJ,v8⟩
abbrev qk:=Rx.run
abbrev auO:=Rx.Av
def ayY:Rq lJ aAR:=by
 intro s hI;refine ⟨λc1=>⟨?_,?_,?_,?_,?_,λc2=>⟨?_,?_,?_,?_,?_,?_,?_,?_,?_,an⟩,λc2=>⟨A9,an⟩⟩,λc1=>⟨A9,an⟩⟩
 all_goals ((obtain ⟨h0,⟨h1,h2⟩,⟨h3,h3'⟩,h4,h5⟩:=hI;simp only [Aa,gt_iff_lt] at c1;(try rw [AJ (x:=s.j-1)]);have g0:∀k:aD,k<M s.data->0<=s.data.getD k (Ty.dflt A7)/\s.data.getD k (Ty.dflt A7)<(M s.b0:Y):=(λk hk=>h4 _ GI);first|omega|exact ⟨rfl,h5,g0 _ A0,g0 _ A0⟩ |(simp only [C5];omega) |exact ⟨rfl,AI⟩))
def aSP:Rx.Ok:={}
def aRF:Rx.Pf (acW):=⟨alI,λs h=>rfl,agC,ayY⟩
def arS:SA 4 aHb Rx:=s2 aSP aRF PN jT
def aIj:Rs kv auO qk (λs:Nm=>bub (ltD s.b0 s.b1) s.j.toNat s.data) (λx s' (v:aC)=>x=.exit 2/\s'.data=v):=DY aSP aRF (λs hI=>by
  obtain ⟨h0,⟨h1,h2⟩,⟨h3,h3'⟩,h4,h5⟩:=hI;refine AH (λc1=>?_) λc1=>?_
  ·have c1:s.a<s.j:=A8
   rw [AJ (x:=s.j-1)]
   have e:s.j.toNat=(s.j-1).toNat+1:=A0
   refine AH (λc2=>?_) λc2=>?_
   ·show bub _ _ _=bub _ _ _
    rw [e,bub,AD (by unfold ltD;rw [e] at c2;exact c2)]
    rfl
   ·refine ⟨rfl,?_⟩
    rw [e] at c2;rw [e,bub,AE λhh=>absurd ((show U=_ from hh.symm).trans c2) Ac]
  ·have c1:s.j<=s.a:=A8
   refine ⟨rfl,?_⟩;rw [show s.j.toNat=0 by omega]
   rfl)
structure Kl where
 (a b i:Y)
 b0:bc
 b1:Y
 data:aC
def aHc:=bN f207 0
def aAS (s:Kl):T (Rd Kl):=letI c:=(qk (⟨s.a,s.b,s.i,s.i,s.b0,s.b1,s.data⟩:Nm));.br (aq<|s.i<s.b) (.rl s.data<|.req (Rx.q (⟨s.a,s.b,s.i,s.i,s.b0,s.b1,s.data⟩:Nm))<|.rl c.data<|.nx {s with i:=AA<|s.i+1,data:=c.data})<|.rl s.data<|.so (.exit 0) s
def kz (s:Kl):Prop:=s.i=1/\(s.a=0/\s.b=(M s.data:Y))/\(M s.data=M s.b0/\(M s.data:Y)<=1000)/\(∀x∈s.data,0<=x/\x<(M s.b0:Y))/\Io s.b0 s.b1
def YT (s:Kl):Prop:=1<=s.i/\(s.a=0/\s.b=(M s.data:Y))/\(M s.data=M s.b0/\(M s.data:Y)<=1000)/\(∀x∈s.data,0<=x/\x<(M s.b0:Y))/\Io s.b0 s.b1
def v9 (s:Kl):aD:=(s.b-s.i).toNat
def acX (x:Ex) (s s':Kl):Prop:=x=.exit 0
def alJ:∀s,kz s->YT s:=by
 exact yY
def wO (s:Kl) (hI:YT s) (c1:s.i<s.b):kv ⟨s.a,s.b,s.i,s.i,s.b0,s.b1,s.data⟩:=by
 obtain ⟨h0,⟨h1,h2⟩,h3⟩:=hI;exact ⟨h1,⟨A8,A8⟩,h3⟩
def agD:Da YT v9 acX aAS:=by
 intro s hI
 have hin:=λc1=>wO s hI c1
 obtain ⟨h0,⟨h1,h2⟩,⟨h3,h3'⟩,h4,h5⟩:=hI;refine AH (λc1=>?_) λc1=>rfl
 have c1:s.i<s.b:=A8
 obtain ⟨q1,q2⟩:=aIj _<|hin c1
 have hp:=aqA (lt:=ltD s.b0 s.b1) (j:=s.i.toNat) (l:=s.data) A0
 rw [AJ (x:=s.i+1),q2];exact ⟨⟨A8,⟨h1,by simp only [hp.length_eq];exact h2⟩,⟨by simp only [hp.length_eq];exact h3,by simp only [hp.length_eq];exact h3'⟩,λx hx=>h4 x<|hp.subset hx,h5⟩,by simp only [v9];omega⟩
def Ry:AS Kl:=⟨4,53,[0,1,2,3,8],[],λs=>[.os 2 1 0<|M s.data,s.a,s.b,.fn 135 [.own 0 0,.own 3 0],s.i],λs=>[⟨[s.b0],45,.cl,X⟩,⟨[s.b1],3,.cl,X⟩,bV 3 A7 s.data,⟨[.fn 133 [.own 0 0,.own 1 0]],222,.cl,X⟩],λv b=>⟨AL v 1,AL v 2,AL v 4,AF Ai b 0 0,Am b 1 0,Ab A7 b 2⟩,aAS,λs r=> {s with i:=r.i,data:=r.data},λs=>s,λ_ s=>s,[.exit 0],kz,YT,v9⟩
abbrev W6:=Ry.run
abbrev auP:=Ry.Av
def ayZ:Rq YT aAS:=by
 intro s hI;refine ⟨λc1=>⟨A9,?_,A9,an⟩,λc1=>⟨A9,an⟩⟩
 ·exact ⟨wO s hI A8,rfl,rfl⟩
def aRd:Ry.Ok:={}
def aRG:Ry.Pf (acX):=⟨alJ,λs h=>rfl,agD,ayZ⟩
def sY:SA 4 aHc Ry:=AS.snd aRd aRG (Gj (Γ:=PN) (K:=jT) (L:=(M0 (λi=>if i=4 then Rx.lp else Ap i))) (gk PN) jT.h aHc (λb hb=>by
 rw [show BD _=[aHb] by kernel_rfl] at hb
 simp only [B9,Bx,By] at hb;subst hb;exact arS)) λs=>AX
def atK:Rs kz auP W6 (λs:Kl=>Mk (ltD s.b0 s.b1) s.data s.i.toNat) (λx s' (v:aC)=>x=.exit 0/\s'.data=v):=DY aRd aRG (λs hI=>by
  have hin:=λc1=>wO s hI c1
  obtain ⟨h0,⟨h1,h2⟩,⟨h3,h3'⟩,h4,h5⟩:=hI;refine AH (λc1=>?_) λc1=>?_
  ·have c1:s.i<s.b:=A8
   obtain ⟨q1,q2⟩:=aIj _<|hin c1
   have q2:(qk ⟨s.a,s.b,s.i,s.i,s.b0,s.b1,s.data⟩).data=bub (ltD s.b0 s.b1) s.i.toNat s.data:=q2
   rw [AJ (x:=s.i+1)]
   show Mk _ _ _=Mk _ _ _
   rw [q2,show (s.i+1).toNat=s.i.toNat+1 by omega,af9 A0]
  ·have c1:s.b<=s.i:=A8
   exact ⟨rfl,(afr A0).symm⟩)
structure Nz where
 (n FP a b:Y)
 b0:bc
 b1:Y
 data:aC
def aAd (s:Nz):T (Rd Nz):=letI c:=(W6 (⟨s.a,s.b,AA<|s.a+1,s.b0,s.b1,s.data⟩:Kl));.br (aq<|s.b<=s.n) (.rl s.data<|.req (Ry.q (⟨s.a,s.b,AA<|s.a+1,s.b0,s.b1,s.data⟩:Kl))<|.re (M s.data) c.data<|.nx {s with a:=s.b,b:=AA<|s.b+s.FP,data:=c.data})<|.rl s.data<|.so (.exit 0) s
def lX (s:Nz):Prop:=s.b=20/\s.n<20
def Ym (s:Nz):Prop:=s.b=20/\s.n<20
def aSi (s:Nz):aD:=0
def adK (x:Ex) (s s':Nz):Prop:=x=.exit 0
def akz:∀s,lX s->Ym s:=by
 exact λs h=>h
def axn:Da Ym aSi adK aAd:=by
 intro s hI;obtain ⟨h0,h1⟩:=hI;refine AH (λc1=>absurd (show s.b<=s.n by grind) A0) λc1=>rfl
def ZK:AS Nz:=⟨4,63,[0,1,2,6,7,8],[],λs=>[.os 2 1 0<|M s.data,s.n,.fn 135 [.own 0 0,.own 3 0],s.FP,s.a,s.b],λs=>[⟨[s.b0],45,.cl,X⟩,⟨[s.b1],3,.cl,X⟩,bV 3 A7 s.data,⟨[.fn 133 [.own 0 0,.own 1 0]],222,.cl,X⟩],λv b=>⟨AL v 1,AL v 3,AL v 4,AL v 5,AF Ai b 0 0,Am b 1 0,Ab A7 b 2⟩,aAd,λs r=> {s with a:=r.a,b:=r.b,data:=r.data},λs=>s,λ_ s=>s,[.exit 0],lX,Ym,aSi⟩
abbrev J8:=ZK.run
abbrev auv:=ZK.Av
def an7:Az:=kI PN<|la 1 func207 sY<|l0 PN
def aym:Rq Ym aAd:=by
 intro s hI;refine ⟨λc1=>⟨A9,?_,?_,an⟩,λc1=>⟨A9,an⟩⟩
 all_goals ((simp only [Aa] at c1;exact absurd c1 (by have:=hI;unfold Ym at this;omega)))
def aQs:ZK.Ok:={}
def aQU:ZK.Pf (adK):=⟨akz,λs h=>rfl,axn,aym⟩
def aIM:=s2 (b:=bN f174 0) aQs aQU PN an7
def arV:Rs lX auv J8 (λs:Nz=>(s.data,s.a)) (λx s' (v:List Int×Int)=>x=.exit 0/\(s'.data,s'.a)=v):=DY aQs aQU (λs hI=>by
  obtain ⟨h0,h1⟩:=hI;exact AH (λc1=>absurd (show s.b<=s.n by grind) A0) λc1=>⟨rfl,rfl⟩)
def ajB:aE->T LV:=λ_=> .req False<|.ok<|.v undef
def ax8:VV 208 ajB:=by
 intro _ _ _ _ _ _ _ _ _ h;exact h.1.elim
structure Pd where
 (n FP a b:Y)
 b0:bc
 b1:Y
 data:aC
def aGr:=lN (bN f174 1) 0
def aAb (s:Pd):T (Rd Pd):=
 .br (aq<|s.b<=s.n) (.rz s.data<|.req False<|.rl s.data<|.nx {s with a:=s.b,b:=AA<|s.b+(AA<|2*s.FP)}) (.rl s.data<|.so (.exit 4) s)
def acp (s:Pd):Prop:=False
def lC (s:Pd):Prop:=False
def aSg (s:Pd):aD:=0
def adI (x:Ex) (s s':Pd):Prop:=True
def akx:∀s,acp s->lC s:=by
 exact λs h=>h
def axl:Da lC aSg adI aAb:=by
 intro s hI;exact hI.elim
def UI:AS Pd:=⟨4,63,[0,1,2,6,7,8],[],λs=>[.os 2 1 0<|M s.data,s.n,.fn 135 [.own 0 0,.own 3 0],s.FP,s.a,s.b],λs=>[⟨[s.b0],45,.cl,X⟩,⟨[s.b1],3,.cl,X⟩,bV 3 A7 s.data,⟨[.fn 133 [.own 0 0,.own 1 0]],222,.cl,X⟩],λv b=>⟨AL v 1,AL v 3,AL v 4,AL v 5,AF Ai b 0 0,Am b 1 0,Ab A7 b 2⟩,aAb,λs r=> {s with a:=r.a,b:=r.b},λs=>s,λ_ s=>s,[.exit 4],acp,lC,aSg⟩
abbrev asx:=UI.run
def Q3:aO:=[tX,ab3,ax8]
def aBm:Az:=kI Q3<|la 2 func174 aIM<|la 1 func207 sY<|l0 Q3
def ayk:Rq lC aAb:=by
 intro s hI;refine ⟨λc1=>⟨?_,?_,A9,an⟩,λc1=>⟨A9,an⟩⟩
 all_goals (exact hI.elim)
def azM:UI.Ok:={}
def azC:UI.Pf (adI):=⟨akx,λs h=>rfl,axl,ayk⟩
def arl:SA 4 aGr UI:=s2 azM azC Q3 aBm
structure Pe where
 (n FP:Y)
 b0:bc
 b1:Y
 data:aC
def aGu:=bN f174 1
def aAc (s:Pe):T (Rd Pe):=
 .br (aq<|s.FP<s.n) (.rl s.data<|.req (UI.q (⟨s.n,s.FP,0,AA<|2*s.FP,s.b0,s.b1,s.data⟩:Pd))<|.br (aq<|(AA<|(asx (⟨s.n,s.FP,0,AA<|2*s.FP,s.b0,s.b1,s.data⟩:Pd)).a+s.FP)<s.n) (.rz s.data<|.req False<|.rl s.data<|.nx {s with FP:=AA<|s.FP*2})<|.rl s.data<|.nx {s with FP:=AA<|s.FP*2}) (.rl s.data<|.so (.exit 2) s)
def aCr (s:Pe):Prop:=s.FP=20/\s.n<20
def Yl (s:Pe):Prop:=s.FP=20/\s.n<20
def aSh (s:Pe):aD:=0
def adJ (x:Ex) (s s':Pe):Prop:=x=.exit 2
def aky:∀s,aCr s->Yl s:=by
 exact λs h=>h
def axm:Da Yl aSh adJ aAc:=by
 intro s hI;obtain ⟨h0,h1⟩:=hI;refine AH (λc1=>absurd (show s.FP<s.n by grind) A0) λc1=>rfl
def mB:AS Pe:=⟨4,63,[0,1,2,6],[],λs=>[.os 2 1 0<|M s.data,s.n,.fn 135 [.own 0 0,.own 3 0],s.FP],λs=>[⟨[s.b0],45,.cl,X⟩,⟨[s.b1],3,.cl,X⟩,bV 3 A7 s.data,⟨[.fn 133 [.own 0 0,.own 1 0]],222,.cl,X⟩],λv b=>⟨AL v 1,AL v 3,AF Ai b 0 0,Am b 1 0,Ab A7 b 2⟩,aAc,λs r=> {s with FP:=r.FP},λs=>s,λ_ s=>s,[.exit 2],aCr,Yl,aSh⟩
def ayl:Rq Yl aAc:=by
 intro s hI;refine ⟨λc1=>⟨A9,?_,λc2=>⟨?_,?_,A9,an⟩,λc2=>⟨A9,an⟩⟩,λc1=>⟨A9,an⟩⟩
 all_goals ((simp only [Aa] at c1;exact absurd c1 (by have:=hI;unfold Yl at this;omega)))
def azN:mB.Ok:={}
def azD:mB.Pf (adJ):=⟨aky,λs h=>rfl,axm,ayl⟩
def arn:SA 4 aGu mB:=AS.snd azN azD (Gj (Γ:=Q3) (K:=aBm) (L:=(M0 (λi=>if i=9 then UI.lp else Ap i))) (gk Q3) aBm.h aGu (λb hb=>by
 rw [show BD _=[aGr] by kernel_rfl] at hb
 simp only [B9,Bx,By] at hb;subst hb;exact arl)) λs=>AX
def aLP:aE->T LV
 | [.xl (.pair .bool (.pair (.int J) (.pair (.int J) (.int J)))) d,.v (ah J t)]=> .req (Io d t/\M d<=19) (.ok<|.xl A7<|HO d t)
 |_=> .no
def Lg (d:bc) (t:Y):PQ:=(⟨(((M d:Y).toNat:aD):Y),0,d,t,au (M d:Y).toNat (0:Y)⟩:PQ)
def IY (d:bc) (t:Y):Nz:=(⟨((M (MS<|Lg d t).out:aD):Y),20,0,20,d,t,(MS<|Lg d t).out⟩:Nz)
def WC (d:bc) (t:Y):Kl:=(⟨(J8<|IY d t).a,((M (MS<|Lg d t).out:aD):Y),AA<|(J8<|IY d t).a+1,d,t,(J8<|IY d t).data⟩:Kl)
def aFy (d:bc) (t:Y):Pe:=(⟨((M (MS<|Lg d t).out:aD):Y),20,d,t,(W6<|WC d t).data⟩:Pe)
def an6:Az:=kI Q3<|la 7 func174 arn<|la 2 func174 aIM<|la 1 func207 sY<|l0 Q3
def awQ:=vm (S:=aLP) func100 Q3 an6 (L:=(λi=>if i=3 then RE.lp else Ap i)) (λb hb=>by
 rw [show BD _=[aH3] by kernel_rfl] at hb
 simp only [B9,Bx,By] at hb;subst hb;exact ar6) (λargs lv h=>by
 unfold aLP at h;split at h
 ·rename_i d t
  refine Au (letI b:=M (MS<|Lg d t).out;letI c:=(M d:Y);letI e:=W6<|WC d t;.rm 8 c<|.re c.toNat (au c.toNat (0:Y))<|.req (RE.q<|Lg d t)<|.rl (MS<|Lg d t).out<|.req (ZK.q<|IY d t)<|.rl (J8<|IY d t).data<|.req (Ry.q<|WC d t)<|.re (M (J8<|IY d t).data) e.data<|.req (mB.q<|aFy d t)<|.req (0+b<=M e.data)<|.ok<|.xl A7<|(e.data.drop 0).take b) ?_;obtain ⟨⟨hw,hd⟩,rfl⟩:=h
  have hE:kU (Lg d t):=⟨rfl,LY,by show (((M d:Y).toNat:aD):Y)=(M d:Y);omega,by show (((M d:Y).toNat:aD):Y)<=1000;omega,by show M (au _ (0:Y))=M d;rw [Cf];omega⟩
  obtain ⟨_,_,_,q1⟩:=asO _ hE
  have q1:(MS<|Lg d t).out=Fz (M d):=q1
  have hl:M (MS<|Lg d t).out=M d:=by rw [q1,Ou]
  have hE2:lX (IY d t):=⟨rfl,aOZ⟩
  obtain ⟨_,q2⟩:=arV _ hE2
  have q2a:(J8<|IY d t).data=Fz (M d):=(B0 Prod.fst q2).trans q1
  have q2b:(J8<|IY d t).a=0:=B0 Prod.snd q2
  have hE3:kz (WC d t):=⟨by show AA ((J8<|IY d t).a+1)=1;rw [q2b];rfl,⟨q2b,by show ((M (MS<|Lg d t).out:aD):Y)=(M (J8<|IY d t).data:Y);rw [q2a,hl,Ou]⟩,⟨by show M (J8<|IY d t).data=M d;rw [q2a,Ou],by show (M (J8<|IY d t).data:Y)<=1000;rw [q2a,Ou];omega⟩,λx hx=>aGT.1 (by have hx:x∈(J8<|IY d t).data:=hx;rw [q2a] at hx;exact hx),hw⟩
  obtain ⟨_,q3⟩:=atK _ hE3
  have q3:(W6<|WC d t).data=HO d t:=q3.trans (by
   show Mk (ltD d t) (J8<|IY d t).data (AA<|(J8<|IY d t).a+1).toNat=_
   rw [q2b,q2a];exact afq)
  have hl3:M (W6<|WC d t).data=M d:=by rw [q3,aGb]
  have hE4:aCr (aFy d t):=⟨rfl,aOZ⟩
  refine ⟨⟨A0,A0,A0,A0⟩,⟨rfl,AI⟩,⟨hE,rfl,rfl⟩,A9,⟨hE2,rfl,rfl⟩,A9,⟨hE3,rfl,rfl⟩,⟨rfl,by rw [q2a,Ou,hl3]⟩,⟨hE4,rfl,rfl⟩,A0,?_⟩
  show LV.xl _ _=_
  rw [CT,hl,<-hl3,Ej,q3]
 ·cases h)
structure Lw where
 rs:bx
 (tick n t15:Y)
 offers:aC
 m:aG
 (k i:Y)
 ajO:aL
 c1:aF
 c2:aR
 c3:aG
 c4:aS
 NU:aM
 aol:bc
 Tf:Y
 (avG GJ:aC)
 next:bx
 Cu:aM
def aHj:=bN f74 0
def tc (s:Lw) (e:Y) (w:aN) (x:Y) (y:Y):T (Rd Lw):=letI a:=(s.n,(s.i,(x,(s.tick,(12:Y)))));letI b:=(s.next.set s.i.toNat (x,y));letI c:=s.GJ.set s.i.toNat x;letI d:=M s.next;letI f:=M s.GJ;.br (aq<|s.i<s.k) (.ix s.i (M s.m)<|.ix s.i (M s.rs)<|.ix s.i (M s.offers)<|.br (e !=0) (.rl s.GJ<|.rl s.next<|.rl s.Cu<|.so (.ret) {s with t15:=(1:Y)})<|.ik s.i f<|.ik s.i d<|.req ((0<=s.i/\s.i<(M s.c3:Y))/\(M s.NU:Y)<=1000/\0<=s.Tf/\s.Tf<=1000000)<|.br w (.rb (M s.Cu) (M<|[a]) 40<|.re f c<|.re d b<|.re (M s.Cu+M ([a])) (s.Cu++([a]))<|.nx {s with n:=AA<|s.n+1,i:=AA<|s.i+1,GJ:=c,next:=b,Cu:=s.Cu++([a])})<|.re f c<|.re d b<|.rl s.Cu<|.nx {s with i:=AA<|s.i+1,GJ:=c,next:=b})<|.rl s.GJ<|.rl s.next<|.rl s.Cu<|.so (.exit 0) s
abbrev aAr (s:Lw):=letI a:=AG s.m s.i;letI c:=C2 s.rs s.i;letI d:=gi s.offers s.i;letI b:=nA a.2.2.1 a.2.2.2.1 a.2.2.2.2.1 a.2.2.2.2.2.1 a.2.2.2.2.2.2.1 c.1 c.2 d;tc s (nE a.2.2.1 a.2.2.2.1 a.2.2.2.2.1 a.2.2.2.2.2.1 a.2.2.2.2.2.2.1 c.1 c.2 d) (nwB s.c3 s.NU s.Tf s.i b) b<|nS a.2.2.1 a.2.2.2.1 a.2.2.2.2.1 a.2.2.2.2.2.1 a.2.2.2.2.2.2.1 c.1 c.2 d
def ZH (s:Lw):Prop:=s.i=0/\s.Cu=[]/\(s.k=(M s.m:Y)/\s.k<=16)/\(s.c3=s.m/\s.Tf=s.tick)/\((M s.NU:Y)<=1000/\0<=s.tick/\s.tick<=1000000)/\(M s.rs=M s.m/\M s.offers=M s.m/\M s.GJ=M s.m/\M s.next=M s.m)/\dcK s.m s.rs s.offers/\1<=s.n-(M s.Cu:Y)/\s.n-(M s.Cu:Y)<=999900
def RR (s:Lw):Prop:=letI a:=(M s.Cu:Y);(0<=s.i/\s.i<=s.k)/\(∀j,0<=j->j<s.i->gi s.GJ j=nxA (AG s.m j) (C2 s.rs j) (gi s.offers j)/\C2 s.next j=(nxA (AG s.m j) (C2 s.rs j)<|gi s.offers j,nxS (AG s.m j) (C2 s.rs j)<|gi s.offers j))/\s.Cu=H7 s.m s.NU s.tick (s.n-a) (FD s.m s.rs s.offers<|M s.m) s.i.toNat/\(s.k=(M s.m:Y)/\s.k<=16)/\(s.c3=s.m/\s.Tf=s.tick)/\((M s.NU:Y)<=1000/\0<=s.tick/\s.tick<=1000000)/\(M s.rs=M s.m/\M s.offers=M s.m/\M s.GJ=M s.m/\M s.next=M s.m)/\dcK s.m s.rs s.offers/\1<=s.n-a/\s.n-a<=999900
def X2 (s:Lw):aD:=(s.k-s.i).toNat
def lA (x:Ex) (s s':Lw):Prop:=x=.exit 0/\s'.GJ=FD s'.m s'.rs s'.offers (M s'.m)/\s'.next=dcR s'.m s'.rs s'.offers (M s'.m)/\s'.Cu=H7 s'.m s'.NU s'.tick (s'.n-(M s'.Cu:Y)) (FD s'.m s'.rs s'.offers<|M s'.m) (M s'.m)
def anm:∀s,ZH s->RR s:=by
 rintro s ⟨h0,h1,h2⟩
 exact ⟨A0,λj j0 j1=>A0,nk,h2⟩
def avN (s:Lw) (hI:RR s) (e:Y) (w:aN) (x:Y) (y:Y) (he:nE (AG s.m s.i).2.2.1 (AG s.m s.i).2.2.2.1 (AG s.m s.i).2.2.2.2.1 (AG s.m s.i).2.2.2.2.2.1 (AG s.m s.i).2.2.2.2.2.2.1 (C2 s.rs s.i).1 (C2 s.rs s.i).2 (gi s.offers s.i)=e) (hw:nwB s.c3 s.NU s.Tf s.i (nA (AG s.m s.i).2.2.1 (AG s.m s.i).2.2.2.1 (AG s.m s.i).2.2.2.2.1 (AG s.m s.i).2.2.2.2.2.1 (AG s.m s.i).2.2.2.2.2.2.1 (C2 s.rs s.i).1 (C2 s.rs s.i).2<|gi s.offers s.i)=w) (hx:nA (AG s.m s.i).2.2.1 (AG s.m s.i).2.2.2.1 (AG s.m s.i).2.2.2.2.1 (AG s.m s.i).2.2.2.2.2.1 (AG s.m s.i).2.2.2.2.2.2.1 (C2 s.rs s.i).1 (C2 s.rs s.i).2 (gi s.offers s.i)=x) (hy:nS (AG s.m s.i).2.2.1 (AG s.m s.i).2.2.2.1 (AG s.m s.i).2.2.2.2.1 (AG s.m s.i).2.2.2.2.2.1 (AG s.m s.i).2.2.2.2.2.2.1 (C2 s.rs s.i).1 (C2 s.rs s.i).2 (gi s.offers s.i)=y):DH (λs'=>RR s'/\X2 s'<X2 s) (λx s'=>lA x s s') ((tc s e w x y).rd s):=by
 unfold tc;dsimp only [T.rd,T.rl,T.rv];obtain ⟨⟨h0,h1⟩,hA,hL,⟨h2,h3⟩,⟨h4,h5⟩,h6,⟨h7,h8,h9,h10⟩,hk,h11⟩:=hI
 have hll:M s.Cu<=s.i.toNat:=zX
 refine AH (λc1=>?_) λc1=>?_
 ·refine AH (λc2=>?_) (λc2=>?_)
  ·have c1:s.i<s.k:=AY
   have hm:s.i<(M s.m:Y):=A0
   exact absurd (he.symm.trans<|alW<|hk s.i h0 hm) ET
  ·refine AH (λc3=>?_) (λc3=>?_)
   ·have c1:s.i<s.k:=AY
    have hm:s.i<(M s.m:Y):=A0
    have hx':nxA (AG s.m s.i) (C2 s.rs s.i) (gi s.offers s.i)=x:=hx
    have hy':nxS (AG s.m s.i) (C2 s.rs s.i) (gi s.offers s.i)=y:=hy
    have hA':∀j,0<=j->j<s.i+1->gi (s.GJ.set s.i.toNat x) j=nxA (AG s.m j) (C2 s.rs j) (gi s.offers j)/\C2 (s.next.set s.i.toNat (x,y)) j=(nxA (AG s.m j) (C2 s.rs j)<|gi s.offers j,nxS (AG s.m j) (C2 s.rs j)<|gi s.offers j):=λj j0 j1=>by
     exact aMB
    have hs:s.i.toNat+1=(s.i+1).toNat:=A0
    have hg:gi (FD s.m s.rs s.offers<|M s.m) (s.i.toNat:aD)=x:=aOe
    have hw':nwB s.m s.NU s.tick (s.i.toNat:aD) x=w:=by rw [CS h0,<-hw,h4,h5];rw [<-hx]
    rw [AJ (x:=s.i+1),AJ (x:=s.n+1)]
    have hn:s.n+1-((M (s.Cu++[(s.n,s.i,x,s.tick,12)]):aD):Y)=s.n-(M s.Cu:Y):=by
     exact aOA
    refine ⟨⟨⟨AZ,AZ⟩,hA',?_,⟨h2,h3⟩,⟨h4,h5⟩,h6,⟨h7,h8,aPb,aPY⟩,hk,by simp only;rw [hn];exact h11⟩,by simp only [X2];omega⟩
    simp only;rw [hn,<-hs,H7,<-hL,hg,hw',c3,AD rfl,CS h0,show s.n-(M s.Cu:Y)+(M s.Cu:Y)=s.n by omega]
   ·have c1:s.i<s.k:=AY
    have hm:s.i<(M s.m:Y):=A0
    have hx':nxA (AG s.m s.i) (C2 s.rs s.i) (gi s.offers s.i)=x:=hx
    have hy':nxS (AG s.m s.i) (C2 s.rs s.i) (gi s.offers s.i)=y:=hy
    have hA':∀j,0<=j->j<s.i+1->gi (s.GJ.set s.i.toNat x) j=nxA (AG s.m j) (C2 s.rs j) (gi s.offers j)/\C2 (s.next.set s.i.toNat (x,y)) j=(nxA (AG s.m j) (C2 s.rs j)<|gi s.offers j,nxS (AG s.m j) (C2 s.rs j)<|gi s.offers j):=λj j0 j1=>by
     exact aMB
    have hs:s.i.toNat+1=(s.i+1).toNat:=A0
    have hg:gi (FD s.m s.rs s.offers<|M s.m) (s.i.toNat:aD)=x:=aOe
    have hw':nwB s.m s.NU s.tick (s.i.toNat:aD) x=w:=A8
    rw [AJ (x:=s.i+1)];refine ⟨⟨⟨AZ,AZ⟩,hA',?_,⟨h2,h3⟩,⟨h4,h5⟩,h6,⟨h7,h8,aPb,aPY⟩,hk,h11⟩,by simp only [X2];omega⟩
    simp only;rw [<-hs,H7,<-hL,hg,hw',c3,AE Ac,Ge]
 ·have c1:s.k<=s.i:=AY
  have hi:s.i.toNat=M s.m:=A0
  refine ⟨rfl,adW (by rw [h9];exact IU.symm) λj j0 j1=>?_,auk (by rw [h10,gF]) λj j0 j1=>?_,by have hL':=hL;rw [hi] at hL';exact hL'⟩
  ·rw [FD,IU] at j1
   rw [FD,NO j0 j1];exact (hA j j0 A0).1
  ·rw [gF] at j1
   rw [aiC j0 j1];exact (hA j j0 A0).2
def aiB:Da RR X2 lA aAr:=λs hI=>avN s hI _ _ _ _ rfl rfl rfl rfl
def S2:AS Lw:=⟨0,108,[2,4,5,12,13,14,15,16,17,19,20,21,57,58,59],[.nl 21 70 AO],λs=>[s.rs,s.tick,s.n,.v<|.slice ak 0 0,.v<|.slice ak 0 0,.v<|.slice ak 0 0,s.t15,.own 0 0,.xl A7 s.offers,.os 1 1 0<|M s.GJ,.os 2 2 0<|M s.next,.os 3 5 0<|M s.Cu,s.m,s.k,s.i],λs=>[⟨[s.ajO,s.c1,s.c2,s.c3,s.c4,s.NU,s.aol,s.Tf,.xl A7 s.avG],211,.cl,U⟩,bV 3 A7 s.GJ,bV 126 Aq s.next,bV 70 AO s.Cu],λv b=>⟨B3 Aq v 0,AL v 1,AL v 2,AL v 6,B3 A7 v 8,B3 Af v 12,AL v 13,AL v 14,AF Ae b 0 0,AF .str b 0 1,AF Ak b 0 2,AF Af b 0 3,AF Al b 0 4,AF AO b 0 5,AF Ai b 0 6,Am b 0 7,AF A7 b 0 8,Ab A7 b 1,Ab Aq b 2,Ab AO b 3⟩,aAr,λs r=> {s with n:=r.n,t15:=r.t15,i:=r.i,GJ:=r.GJ,next:=r.next,Cu:=r.Cu},λs=>s,λ_ s=>s,[.ret,.exit 0],ZH,RR,X2⟩
abbrev J9:=S2.run
abbrev tG:=S2.Av
def azg:Rq RR aAr:=by
 intro s hI;refine ⟨λc1=>⟨?_,?_,?_,λc2=>⟨A9,A9,A9,an⟩,λc2=>⟨?_,?_,?_,?_,?_,λc3=>⟨?_,?_,?_,?_,an⟩,λc3=>⟨?_,?_,A9,an⟩⟩⟩,λc1=>⟨A9,A9,A9,an⟩⟩
 all_goals ((obtain ⟨⟨h0,h1⟩,hA,hL,⟨h2,h3⟩,⟨h4,h5⟩,h6,⟨h7,h8,h9,h10⟩,hk,h11⟩:=hI;have hll:M s.Cu<=s.i.toNat:=zX;(try simp only [Aa] at c1);have hl3:M s.c3=M s.m:=B0 M h4;first|omega|exact ⟨rfl,AI⟩ |(refine ⟨A0,?_,?_⟩<;>simp only [BY,Bh]<;>omega)))
def abg:aO:=[awQ,awc,awe,awS,awf]
def uO:S2.Ok:={}
def u9:S2.Pf (lA):=⟨anm,λs h=>rfl,aiB,azg⟩
def ar1:SA 0 aHj S2:=s1 uO u9 abg kN
def avM:Fi ZH RR lA tG J9:=AS.fin uO u9
def avx:Rs ZH tG J9 (λs:Lw=>s.n-(M s.Cu:Y)) (λx s' (v:Y)=>s'.n-(M s'.Cu:Y)=v):=DY uO u9 (λs hI=>by
  obtain ⟨⟨h0,h1⟩,hA,hL,⟨h2,h3⟩,⟨h4,h5⟩,h6,⟨h7,h8,h9,h10⟩,hk,h11⟩:=hI
  have hll:M s.Cu<=s.i.toNat:=zX
  refine AH (λc1=>?_) λc1=>?_
  ·refine AH (λc2=>?_) (λc2=>?_)
   ·rfl
   ·refine AH (λc3=>?_) (λc3=>?_)
    ·have c1:s.i<s.k:=A8
     rw [AJ (x:=s.n+1)]
     show s.n+1-((M (s.Cu++[_]):aD):Y)=s.n-(M s.Cu:Y)
     exact aOA
    ·rfl
  ·rfl)
def aL0:aE->T LV
 | .agg a::r=>s5 a λcs os ks gs bs=>(match r with
  | [.xl (.pair (.int J) (.pair (.int J) (.pair (.int J) (.pair (.int J) (.int J))))) l,.xl (.pair (.int J) (.int J)) rs,.xl (.pair .bool (.pair (.int J) (.pair (.int J) (.int J)))) d,.v (ah J t),.v (ah J n)]=> .req (Io d t/\M d<=19) (.ok<|.AQ [.xl A7<|deA cs os ks gs bs l rs d t n,deR cs os ks gs bs l rs d t n,deL cs os ks gs bs l rs d t n,deE cs os ks gs bs l rs d t n])
  |_=> .no)
 |_=> .no
def dD (cs:aL) (os:aF) (ks:aR) (gs:aG) (bs:aS) (l:aM) (rs:bx) (d:bc) (t n:Y):Lw:=letI a:=ofO cs os ks gs bs l d t<|HO d t;(⟨rs,t,n,0,a,gs,(M gs:Y),0,cs,os,ks,gs,bs,l,d,t,HO d t,au (M a:Y).toNat (0:Y),au (M a:Y).toNat ((0:Y),(0:Y)),([]:aM)⟩:Lw)
def aPp:=vm (S:=aL0) func74 abg kN (L:=(λi=>if i=11 then S2.lp else Ap i)) (λb hb=>by
 rw [show BD _=[aHj] by kernel_rfl] at hb
 simp only [B9,Bx,By] at hb;subst hb;exact ar1) (λargs lv h=>by
 unfold aL0 at h;split at h
 case h_2=>cases h
 replace h:=Ia h
 obtain ⟨cs,os,ks,gs,bs,rfl,h⟩:=h;split at h
 ·rename_i l rs d t n
  refine Au (letI a:=dD cs os ks gs bs l rs d t n;letI b:=(M (ofO cs os ks gs bs l d t<|HO d t):Y);.req (Io d t/\M d<=19)<|.br (!(Ja cs os ks gs bs l rs d t n)) (.ok<|.AQ [.xl A7 ([]:aC),.xl Aq ([]:bx),.xl AO ([]:aM),(1:Y)])<|.req (M d=M gs/\Fy cs os ks gs bs (Bq gs) (JH gs d) (HO d t)=U/\KB l (M gs:Y) t=U/\Fy cs os ks gs bs (Cx gs l t) (Fa cs os ks gs bs (Bq gs) (JH gs d)<|HO d t) (HO d t)=U)<|.br ((0:Y) !=0) (.ok<|.AQ [.xl A7 ([]:aC),.xl Aq ([]:bx),.xl AO ([]:aM),(1:Y)])<|.rm 8 b<|.rm 16 b<|.re b.toNat (au b.toNat (0:Y))<|.re b.toNat (au b.toNat ((0:Y),(0:Y)))<|.r0 Le<|.req (S2.q a)<|.br (Bt (tG a)<|.ret) (.ok<|.AQ [.xl A7 ([]:aC),.xl Aq ([]:bx),.xl AO ([]:aM),(J9 a).t15])<|.rz (J9 a).GJ<|.rz (J9 a).next (.rz (J9 a).Cu<|.ok<|.AQ [.xl A7<|((J9 a).GJ.drop 0).take<|M (J9 a).GJ,(((J9 a).next.drop 0).take<|M (J9 a).next),(((J9 a).Cu.drop 0).take<|M (J9 a).Cu),(0:Y)])) ?_;obtain ⟨hw,rfl⟩:=h;refine ⟨hw,λc=>?_,λc=>?_⟩
  ·unfold deA deR deL deE
   rw [ntW c];rfl
  have c:=nfW c
  have V:=aa8 c
  have ol:M (ofO cs os ks gs bs l d t<|HO d t)=M gs:=(ac5 V).1
  have hE:ZH (dD cs os ks gs bs l rs d t n):=⟨rfl,rfl,⟨rfl,by have:=V.gl;show (M gs:Y)<=16;omega⟩,A9,⟨by have:=(GK V.les).1;show (M l:Y)<=1000;omega,V.tb⟩,⟨V.rl,ol,by show M (au _ (0:Y))=M gs;rw [Cf];omega,by show M (au _ ((0:Y),(0:Y)))=M gs;rw [Cf];omega⟩,aTN V,by have:=V.nb;show 1<=n-(0:Y);omega,by have:=V.nb;show n-(0:Y)<=999900;omega⟩
  obtain ⟨_,_,q1,q2,q3,q4⟩:=avM _ hE
  have hn:=avx _ hE
  have hn:=hn.trans<|QL n
  have q2:(J9<|dD cs os ks gs bs l rs d t n).GJ=deA cs os ks gs bs l rs d t n:=q2.trans (by unfold deA;rw [AD c];rfl)
  have q3:(J9<|dD cs os ks gs bs l rs d t n).next=deR cs os ks gs bs l rs d t n:=q3.trans (by unfold deR;rw [AD c];rfl)
  rw [hn] at q4
  have q4:(J9<|dD cs os ks gs bs l rs d t n).Cu=deL cs os ks gs bs l rs d t n:=q4.trans (by unfold deL;rw [AD c];rfl)
  have gl:=V.gl
  refine ⟨⟨V.dl,abB V.si,aw4 V,jW V⟩,λc2=>absurd c2 Ac,λ_=>?_⟩
  refine ⟨by rw [ol];omega,by rw [ol];omega,⟨rfl,AI⟩,⟨rfl,AI⟩,A9,⟨hE,rfl,rfl⟩,?_⟩
  rw [q1];refine ⟨λh=>As,λ_=>⟨A0,A0,A0,?_⟩⟩
  show LV.AQ [LV.xl _ _,LV.xl _ _,LV.xl _ _,_]=_
  rw [CT,Ej,CT,Ej,CT,Ej,q2,q3,q4];unfold deE;rw [AD c]
 ·cases h)
structure Nf where
 t5:Y
 t23:aC
 (t24 t25:Y)
 BF:aL
 Bf:aF
 C6:aR
 BQ:aG
 C7:aS
 D9:aC
def aGj:=bN f26 0
def aAJ (s:Nf):T (Rd Nf):=
 .br (aq<|s.t25<s.t24) (.ix s.t25 (M s.t23)<|.br ((aq<|(gi s.t23 s.t25)<0) ||(aq<|(gi s.t23 s.t25)>80)) (.so (.ret) {s with t5:=(1:Y)})<|.nx {s with t25:=AA<|s.t25+1}) (.so (.exit 0) s)
def ka (s:Nf):Prop:=s.t5=0/\s.t25=0/\s.t24=(M s.t23:Y)/\s.t24<=1000/\∀k:aD,k<M s.t23->0<=gi s.t23 k/\gi s.t23 k<=80
def YN (s:Nf):Prop:=s.t5=0/\(0<=s.t25/\s.t25<=s.t24)/\s.t24=(M s.t23:Y)/\s.t24<=1000/\∀k:aD,k<M s.t23->0<=gi s.t23 k/\gi s.t23 k<=80
def uw (s:Nf):aD:=(s.t24-s.t25).toNat
def aCA (x:Ex) (s s':Nf):Prop:=x=.exit 0/\s'.t5=0
def alZ:∀s,ka s->YN s:=by
 rintro s ⟨h9,h0,h1,h2,h3⟩
 exact ⟨h9,A0,h1,h2,h3⟩
def agO:Da YN uw aCA aAJ:=by
 intro s hI;obtain ⟨h9,⟨h0,h1⟩,h2,h3,h5⟩:=hI;refine AH (λc1=>AH (λc2=>?_) λc2=>?_) λc1=>?_
 ·exfalso
  have c1:s.t25<s.t24:=A8
  have:=h5 s.t25.toNat A0
  rw [CS h0] at this;simp only [Cc,Aa] at c2;omega
 ·have c1:s.t25<s.t24:=A8
  rw [AJ (x:=s.t25+1)];exact ⟨⟨h9,⟨A8,A8⟩,h2,h3,h5⟩,by simp only [uw];omega⟩
 ·exact ⟨rfl,h9⟩
def Rm:AS Nf:=⟨0,65,[2,3,4,5,23,24,25],[],λs=>[.own 0 0,.own 1 0,.v<|.slice ak 0 0,s.t5,.xl A7 s.t23,s.t24,s.t25],λs=>[⟨[s.BF,s.Bf,s.C6,s.BQ,s.C7],28,.cl,X⟩,⟨[.xl A7 s.D9],29,.cl,X⟩],λv b=>⟨AL v 3,B3 A7 v 4,AL v 5,AL v 6,AF Ae b 0 0,AF .str b 0 1,AF Ak b 0 2,AF Af b 0 3,AF Al b 0 4,AF A7 b 1 0⟩,aAJ,λs r=> {s with t5:=r.t5,t25:=r.t25},λs=>s,λ_ s=>s,[.ret,.exit 0],ka,YN,uw⟩
abbrev pO:=Rm.run
abbrev aKE:=Rm.Av
def ayP:Rq YN aAJ:=by
 intro s hI;refine ⟨λc1=>⟨?_,λ_=>trivial,λ_=>trivial⟩,λ_=>trivial⟩
 ·(simp only [Aa] at c1;obtain ⟨h9,⟨h0,h1⟩,h2,h3⟩:=hI;omega)
def iI:aO:=[P9,gq]
def aTF:Az:=kI iI<|l0 iI
def aSH:Rm.Ok:={}
def aQJ:Rm.Pf (aCA):=⟨alZ,λs h=>rfl,agO,ayP⟩
def arI:SA 0 aGj Rm:=s1 aSH aQJ iI aTF
def atQ:Fi ka YN aCA aKE pO:=AS.fin aSH aQJ
def aB6:Array Tmp×Code×Code:=((J5<|f26.body.getD .skip)[0]?).getD (#[],.skip,.skip)
def akt:aVF:=aB6.1
def alp:bC:=aB6.2.1
def akW:bC:=aB6.2.2
structure Jz where
 BF:aL
 Bf:aF
 C6:aR
 BQ:aG
 C7:aS
 c:Y
 Bi:aL
 Gi:aF
 Gf:aR
 Gk:aG
 Gm:aS
 b1:aC
 b3:aVH
 b4:Y
 gJ:bA
 (jl J1 ig ij gH pS qd:Y)
 st:LS
def aAH (s:Jz):T (Rd Jz):=letI b:=gi s.b1 s.b4;letI d:=s.c.toNat<M s.b3;letI e:=Ur s.b3 s.c.toNat b;letI g:=M s.b3;letI h:=M s.BF;letI i:=Ad s.BF s.c;letI k:=(Bm J s.J1 4) !=0;letI m:=s.c.toNat<M e;letI a:=Xc s.b3 s.c.toNat b;letI f:=Ur a s.c.toNat b;letI j:=s.c.toNat<M a;letI l:=s.c.toNat<M f;.br (aq<|s.c>=0) (.ix s.c g<|.ix s.b4 (M s.b1)<|.br ((Bm J s.J1 1) !=0) (.req d<|.req d<|.br ((Bm J s.J1 2) !=0) (.req j<|.req j<|.br k (.req l<|.req l<|.ix s.c h<|.re g (up3 f s.c.toNat b)<|.nx {s with c:=i.2.1,b3:=up3 f s.c.toNat b})<|.ix s.c h<|.re g f<|.nx {s with c:=i.2.1,b3:=f})<|.br k (.req j<|.req j<|.ix s.c h<|.re g (up3 a s.c.toNat b)<|.nx {s with c:=i.2.1,b3:=up3 a s.c.toNat b})<|.ix s.c h<|.re g a<|.nx {s with c:=i.2.1,b3:=a})<|.br ((Bm J s.J1 2) !=0) (.req d<|.req d<|.br k (.req m<|.req m<|.ix s.c h<|.re g (up3 e s.c.toNat b)<|.nx {s with c:=i.2.1,b3:=up3 e s.c.toNat b})<|.ix s.c h<|.re g e<|.nx {s with c:=i.2.1,b3:=e})<|.br k (.req d<|.req d<|.ix s.c h<|.re g (up3 s.b3 s.c.toNat b)<|.nx {s with c:=i.2.1,b3:=up3 s.b3 s.c.toNat b})<|.ix s.c h<|.rl s.b3<|.nx {s with c:=i.2.1})<|.rl s.b3<|.so (.exit 0) s
def UH (s:Jz):Prop:=s.st=.ready/\Ff s.BF=U/\s.c<(M s.BF:Y)/\M s.b3=M s.BF/\(0<=s.b4/\s.b4<(M s.b1:Y))
def YM (s:Jz):Prop:=s.st=.ready/\Ff s.BF=U/\s.c<(M s.BF:Y)/\M s.b3=M s.BF/\(0<=s.b4/\s.b4<(M s.b1:Y))
def aDU (s:Jz):aD:=(s.c+1).toNat
def aC8 (x:Ex) (s s':Jz):Prop:=x=.exit 0/\s'.c<0
def alX:∀s,UH s->YM s:=by
 exact λs h=>h
def agL:Da YM aDU aC8 aAH:=by
 intro s hI;obtain ⟨h0,h1,h2,h3,h4⟩:=hI;refine AH (λc1=>?_) λc1=>?_
 ·have c1:0<=s.c:=AY
  have:=R1 h1 c1 h2
  exact AH (λ_=>AH (λ_=>AH (λ_=>⟨⟨h0,h1,AZ,Ss,h4⟩,QU⟩) λ_=>⟨⟨h0,h1,AZ,Ss,h4⟩,QU⟩) λ_=>AH (λ_=>⟨⟨h0,h1,AZ,Ss,h4⟩,QU⟩) λ_=>⟨⟨h0,h1,AZ,Ss,h4⟩,QU⟩) λ_=>AH (λ_=>AH (λ_=>⟨⟨h0,h1,AZ,Ss,h4⟩,QU⟩) λ_=>⟨⟨h0,h1,AZ,Ss,h4⟩,QU⟩) λ_=>AH (λ_=>⟨⟨h0,h1,AZ,Ss,h4⟩,QU⟩) λ_=>⟨⟨h0,h1,AZ,A8,h4⟩,QU⟩
 ·have c1:¬(0<=s.c):=AY
  exact VL
def ZO:AS Jz:=⟨7,18,[0,2,4],[],λs=>[.CQ 6,xQ 5 [s.BF,s.Bf,s.C6,s.BQ,s.C7],s.c],λs=>[⟨[s.Bi,s.Gi,s.Gf,s.Gk,s.Gm],28,.cl,X⟩,⟨[.xl A7 s.b1],29,.cl,X⟩,⟨[.os 3 3 0<|M s.b3],104,.cl,X⟩,⟨[],112,.vec (.pair A7 Aq) s.b3,X⟩,⟨[s.b4],3,.cl,X⟩,⟨[.v<|.string s.gJ,s.jl,s.J1,s.ig,s.ij,s.gH,s.pS,s.qd],85,.cl,X⟩,⟨[.junk,.junk,.junk,.own 1 0,.junk,.junk,.junk,.junk,.own 2 0,.own 4 0,.own 5 0,.junk,.junk,.junk,.junk,.junk,.junk,.junk,.junk,.junk,.junk,.junk,.junk,.junk,.junk,.junk,.junk,.junk,.junk,.junk,.junk,.junk,.junk,.junk,.junk,.junk,.junk,.junk,.junk,.junk,.junk,.junk,.junk,.junk,.junk,.junk,.junk,.junk,.junk,.junk,.junk,.junk,.junk,.junk,.junk,.junk,.junk,.junk,.junk,.junk,.junk,.junk,.junk,.junk,.junk],0,.Cn akt alp akW s.st,X⟩],λv b=>⟨Ao Ae<|BT (v.getD 1 .junk) 0,Ao .str<|BT (v.getD 1 .junk) 1,Ao Ak<|BT (v.getD 1 .junk) 2,Ao Af<|BT (v.getD 1 .junk) 3,Ao Al<|BT (v.getD 1 .junk) 4,AL v 2,AF Ae b 0 0,AF .str b 0 1,AF Ak b 0 2,AF Af b 0 3,AF Al b 0 4,AF A7 b 1 0,Ab (.pair A7 Aq) b 3,Am b 4 0,gSr<|BE (CX b 5) 0,Am b 5 1,Am b 5 2,Am b 5 3,Am b 5 4,Am b 5 5,Am b 5 6,Am b 5 7,.ready⟩,aAH,λs r=> {r with BF:=s.BF,Bf:=s.Bf,C6:=s.C6,BQ:=s.BQ,C7:=s.C7,Bi:=s.Bi,Gi:=s.Gi,Gf:=s.Gf,Gk:=s.Gk,Gm:=s.Gm,b1:=s.b1,b4:=s.b4,gJ:=s.gJ,jl:=s.jl,J1:=s.J1,ig:=s.ig,ij:=s.ij,gH:=s.gH,pS:=s.pS,qd:=s.qd,st:=s.st},λs=> {s with st:=.ready},λx s=> {s with st:=(match x with| .exit 0=> .ready|_=> .ready)},[.exit 0],UH,YM,aDU⟩
abbrev TM:=ZO.run
abbrev aKD:=ZO.Av
def ayN:Rq YM aAH:=by
 intro s hI;refine ⟨λc1=>⟨?_,?_,λc2=>⟨?_,?_,λc3=>⟨?_,?_,λc4=>⟨?_,?_,?_,?_,an⟩,λc4=>⟨?_,?_,an⟩⟩,λc3=>⟨λc5=>⟨?_,?_,?_,?_,an⟩,λc5=>⟨?_,?_,an⟩⟩⟩,λc2=>⟨λc6=>⟨?_,?_,λc7=>⟨?_,?_,?_,?_,an⟩,λc7=>⟨?_,?_,an⟩⟩,λc6=>⟨λc8=>⟨?_,?_,?_,?_,an⟩,λc8=>⟨?_,A9,an⟩⟩⟩⟩,λc1=>⟨A9,an⟩⟩
 all_goals ((obtain ⟨h0,h1,h2,h3,h4⟩:=hI;simp only [Aa,MF] at c1;first|omega|(simp only [aDN,aDM,aDL];omega) |simp [aDN,aDM,aDL]))
def uM:ZO.Ok:={}
def u6:ZO.Pf (aC8):=⟨alX,λs h=>by
 obtain ⟨BF,Bf,C6,BQ,C7,c,Bi,Gi,Gf,Gk,Gm,b1,b3,b4,gJ,jl,J1,ig,ij,gH,pS,qd,st⟩:=s
 have e:=h.1
 subst e;rfl,agL,ayN⟩
def aIN:=s2 (b:=bN f90 0) uM u6 iI aTF
def au6:Fi UH YM aC8 aKD TM:=AS.fin uM u6
def apV (s:Jz) (hE:UH s):(λs:Jz=>HC s.BF s.J1 (gi s.b1 s.b4) s.c s.b3) (TM s)=(λs:Jz=>HC s.BF s.J1 (gi s.b1 s.b4) s.c s.b3) s:=by
 exact AS.Kx uM u6 (λs:Jz=>HC s.BF s.J1 (gi s.b1 s.b4) s.c s.b3) (λs hI=>by
  obtain ⟨h0,h1,h2,h3,h4⟩:=hI
  have hp:=aga (ph:=s.J1) (v:=gi s.b1 s.b4) (l:=s.b3) h1 h2
  refine AH (λc1=>?_) λc1=>rfl
  have c1:0<=s.c:=A8
  rw [AD c1,ajA A0] at hp
  refine AH (λd1=>AH (λd2=>AH (λd4=>?_) λd4=>?_) λd2=>AH (λd4=>?_) λd4=>?_) (λd1=>AH (λd2=>AH (λd4=>?_) λd4=>?_) λd2=>AH (λd4=>?_) λd4=>?_)<;>
   (show HC _ _ _ _ _=HC _ _ _ _ _;rw [hp];simp only [d1,d2,d4,Bo,Hs,FN])) s hE
def au5 (s:Jz) (hE:UH s):aKD s=.exit 0/\(TM s).b3=HC s.BF s.J1 (gi s.b1 s.b4) s.c s.b3:=by
 have q3:=apV s hE
 obtain ⟨s',hI,q1,q2⟩:=au6 s hE;refine ⟨q1,?_⟩
 have q3:HC s.BF s.J1 (gi s.b1 s.b4) (TM s).c (TM s).b3=HC s.BF s.J1 (gi s.b1 s.b4) s.c s.b3:=q3
 rw [<-q3];unfold HC;rw [ldW,AE A0]
structure Mh where
 t5:Y
 t41:aG
 (t42 t43:Y)
 BF:aL
 Bf:aF
 C6:aR
 BQ:aG
 C7:aS
 D9:aC
 b3:aVH
def aGi:=bN f26 1
def qT (s:Mh):Jz:=(⟨s.BF,s.Bf,s.C6,s.BQ,s.C7,(AG s.t41 s.t43).2.1,s.BF,s.Bf,s.C6,s.BQ,s.C7,s.D9,s.b3,s.t43,(AG s.t41 s.t43).1,(AG s.t41 s.t43).2.1,(AG s.t41 s.t43).2.2.1,(AG s.t41 s.t43).2.2.2.1,(AG s.t41 s.t43).2.2.2.2.1,(AG s.t41 s.t43).2.2.2.2.2.1,(AG s.t41 s.t43).2.2.2.2.2.2.1,(AG s.t41 s.t43).2.2.2.2.2.2.2,.ready⟩:Jz)
def aAI (s:Mh):T (Rd Mh):=
 .br (aq<|s.t43<s.t42) (.ix s.t43 (M s.t41)<|.rl s.b3<|.req (ZO.q<|qT s)<|.rl (TM<|qT s).b3<|.nx {s with t43:=AA<|s.t43+1,b3:=(TM<|qT s).b3}) (.rl s.b3<|.so (.exit 2) s)
def kZ (s:Mh):Prop:=s.t43=0/\(s.t42=(M s.t41:Y)/\s.t42<=1000/\Ff s.BF=U/\atB s.BF s.t41=U/\M s.D9=M s.t41)/\s.b3=au (M s.BF) (Ty.dflt<|.pair A7 Aq)
def Ul (s:Mh):Prop:=(0<=s.t43/\s.t43<=s.t42)/\(s.t42=(M s.t41:Y)/\s.t42<=1000/\Ff s.BF=U/\atB s.BF s.t41=U/\M s.D9=M s.t41)/\s.b3=Jg s.BF s.t41 s.D9 s.t43.toNat
def uv (s:Mh):aD:=(s.t42-s.t43).toNat
def aC9 (x:Ex) (s s':Mh):Prop:=x=.exit 2/\s'.b3=Jg s'.BF s'.t41 s'.D9 (M s'.t41)
def alY:∀s,kZ s->Ul s:=by
 rintro s ⟨h0,h1,h2⟩
 exact ⟨A0,h1,by rw [h2,h0];rfl⟩
def aSV (s:Mh) (hI:Ul s) (c1:s.t43<s.t42):UH (qT s):=by
 obtain ⟨⟨h0,h1⟩,⟨h2,h3,h4,h5,h6⟩,h7⟩:=hI;refine ⟨rfl,h4,il h5 h0 A0,?_,⟨h0,?_⟩⟩
 ·show M s.b3=_
  rw [h7];exact tO h4 h5 _ A0
 ·show s.t43<(M s.D9:Y)
  omega
def agN:Da Ul uv aC9 aAI:=by
 intro s hI
 have hin:=λc1=>aSV s hI c1
 obtain ⟨⟨h0,h1⟩,⟨h2,h3,h4,h5,h6⟩,h7⟩:=hI;refine AH (λc1=>?_) λc1=>?_
 ·have c1:s.t43<s.t42:=A8
  obtain ⟨_,q⟩:=au5 _<|hin c1;rw [AJ (x:=s.t43+1)];refine ⟨⟨⟨A8,A8⟩,⟨h2,h3,h4,h5,h6⟩,?_⟩,by simp only [uv];omega⟩
  rw [show (s.t43+1).toNat=s.t43.toNat+1 by omega,q]
  show HC s.BF (AG s.t41 s.t43).2.2.1 (gi s.D9 s.t43) (AG s.t41 s.t43).2.1 s.b3=HC s.BF (AG s.t41 (s.t43.toNat:Y)).2.2.1 (gi s.D9 (s.t43.toNat:Y)) (AG s.t41 (s.t43.toNat:Y)).2.1 (Jg s.BF s.t41 s.D9 s.t43.toNat)
  grind
 ·have c1:s.t42<=s.t43:=A8
  refine ⟨rfl,?_⟩
  grind
def Rl:AS Mh:=⟨0,65,[2,3,4,5,8,41,42,43],[],λs=>[.own 0 0,.own 1 0,.v<|.slice ak 0 0,s.t5,.own 2 0,s.t41,s.t42,s.t43],λs=>[⟨[s.BF,s.Bf,s.C6,s.BQ,s.C7],28,.cl,X⟩,⟨[.xl A7 s.D9],29,.cl,X⟩,⟨[.os 3 3 0<|M s.b3],104,.cl,X⟩,⟨[],112,.vec (.pair A7 Aq) s.b3,X⟩],λv b=>⟨AL v 3,B3 Af v 5,AL v 6,AL v 7,AF Ae b 0 0,AF .str b 0 1,AF Ak b 0 2,AF Af b 0 3,AF Al b 0 4,AF A7 b 1 0,Ab (.pair A7 Aq) b 3⟩,aAI,λs r=> {r with t5:=s.t5,t41:=s.t41,t42:=s.t42,BF:=s.BF,Bf:=s.Bf,C6:=s.C6,BQ:=s.BQ,C7:=s.C7,D9:=s.D9},λs=>s,λ_ s=>s,[.exit 2],kZ,Ul,uv⟩
abbrev aDu:=Rl.run
abbrev avF:=Rl.Av
def ayO:Rq Ul aAI:=by
 intro s hI;refine ⟨λc1=>⟨?_,A9,?_,A9,an⟩,λc1=>⟨A9,an⟩⟩
 ·(obtain ⟨⟨h0,h1⟩,⟨h2,h3⟩,h4⟩:=hI;simp only [Aa] at c1;omega)
 ·exact ⟨aSV s hI A8,rfl,rfl⟩
def vi:aO:=[P9,gq]
def ahk:Az:=kI vi<|la 1 func90 aIN<|l0 vi
def aSG:Rl.Ok:={}
def aQI:Rl.Pf (aC9):=⟨alY,λs h=>rfl,agN,ayO⟩
def arH:SA 0 aGi Rl:=s1 aSG aQI vi ahk
def atP:Fi kZ Ul aC9 avF aDu:=AS.fin aSG aQI
def JX (cs:aL) (gs:aG) (am:aC):bE:=if M am=M gs then Jg cs gs am (M gs) else []
def HB (gs:aG) (am:aC):Y:=if M am=M gs then 0 else 1
def aUH:aE->T LV
 | .agg a::r=>s5 a λcs os ks gs bs=>(match r with
  | [.xl (.int J) am]=> .req (BB cs os ks gs bs=U/\(M am=M gs->∀k:aD,k<M am->0<=gi am k/\gi am k<=80)) (.ok<|.AQ [.xl (.pair A7 Aq)<|JX cs gs am,HB gs am])
  |_=> .no)
 |_=> .no
def vh:aO:=[P9,gq]
def ahj:Az:=kI vh<|la 1 func90 aIN<|l0 vh
def aVn:=vm (S:=aUH) func26 vh ahj (L:=(λi=>if i=4 then Rm.lp else if i=11 then Rl.lp else Ap i)) (λb hb=>by
 rw [show BD _=[aGj,aGi] by kernel_rfl] at hb
 simp only [B9,Bx,By] at hb;rcases hb with rfl|rfl
 ·exact arI
 ·exact arH) (λargs lv h=>by
 unfold aUH at h;split at h
 case h_2=>cases h
 replace h:=Ia h
 obtain ⟨cs,os,ks,gs,bs,rfl,h⟩:=h;split at h
 ·rename_i am
  refine Au (letI e:=(M am:Y);letI f:=(M gs:Y);letI g:=(M cs:Y);letI b:=(pO (⟨0,am,e,0,cs,os,ks,gs,bs,am⟩:Nf));letI d:=(au g.toNat ((0:Y),((0:Y),(0:Y))));letI a:=(aDu (⟨b.t5,gs,f,0,cs,os,ks,gs,bs,am,d⟩:Mh));.br ((!(BB cs os ks gs bs)) ||(e !=f)) (.ok<|.AQ [.xl (.pair A7 Aq) ([]:aVH),(1:Y)])<|.req (Rm.q (⟨0,am,e,0,cs,os,ks,gs,bs,am⟩:Nf))<|.br (Bt (aKE (⟨0,am,e,0,cs,os,ks,gs,bs,am⟩:Nf))<|.ret) (.ok<|.AQ [.xl (.pair A7 Aq) ([]:aVH),b.t5])<|.rm 24 g<|.re g.toNat d<|.req (Rl.q (⟨b.t5,gs,f,0,cs,os,ks,gs,bs,am,d⟩:Mh))<|.rz a.b3<|.ok<|.AQ [.xl (.pair A7 Aq)<|(a.b3.drop 0).take<|M a.b3,(0:Y)]) ?_;obtain ⟨⟨hv,hr⟩,rfl⟩:=h
  by_cases hl:M am=M gs
  rotate_left
  ·refine ⟨λ_=>?_,λc=>?_⟩
   ·unfold JX HB
    rw [AE hl,AE hl];rfl
   ·rw [hv] at c;simp at c;omega
  have hr:=hr hl
  unfold JX HB;rw [AD hl,AD hl]
  have hb:=(D7.1 hv).1
  have hA:ka ⟨0,am,(M am:Y),0,cs,os,ks,gs,bs,am⟩:=⟨rfl,rfl,rfl,A8,hr⟩
  obtain ⟨_,_,q1,q5⟩:=atQ _ hA
  have hB:kZ ⟨(pO ⟨0,am,(M am:Y),0,cs,os,ks,gs,bs,am⟩).t5,gs,(M gs:Y),0,cs,os,ks,gs,bs,am,au (M cs:Y).toNat ((0:Y),((0:Y),(0:Y)))⟩:=⟨rfl,⟨rfl,A8,qW hv,qX hv,hl⟩,by
   rw [C0];rfl⟩
  obtain ⟨_,_,q6,q7⟩:=atP _ hB
  have q7:(aDu ⟨(pO ⟨0,am,(M am:Y),0,cs,os,ks,gs,bs,am⟩).t5,gs,(M gs:Y),0,cs,os,ks,gs,bs,am,au (M cs:Y).toNat ((0:Y),((0:Y),(0:Y)))⟩).b3=Jg cs gs am (M gs):=q7
  refine ⟨λc=>?_,λ_=>⟨⟨hA,rfl,rfl⟩,?_⟩⟩
  ·exfalso
   rw [hv,hl] at c
   simp at c
  ·rw [q1]
   refine ⟨λh=>As,λ_=>⟨A0,⟨rfl,AI⟩,⟨hB,rfl,rfl⟩,A0,?_⟩⟩
   show LV.AQ _=LV.AQ _
   rw [CT,Ej,q7]
 ·cases h)
def aB5:Array Tmp×Code×Code:=((J5<|f9.body.getD .skip)[0]?).getD (#[],.skip,.skip)
def aaQ:aVF:=aB5.1
def aaW:bC:=aB5.2.1
def aaU:bC:=aB5.2.2
structure OF where
 (c t7 t8 t11:Y)
 Bi:aL
 Gi:aF
 Gf:aR
 Gk:aG
 Gm:aS
 (J0 J6 JE:Y)
 b2:aN
 b3:Y
 b4:aVH
 NM:aL
 NQ:aF
 NN:aR
 NL:aG
 Na:aS
 st:LS
def aHo:=lN (bN f65 0) 0
def j7 (s:OF):T (Rd OF):=letI a:=DD<|Ad s.Bi s.c;letI b:=AA<|s.t11+1;letI d:=M s.Bi;.br (aq<|s.t11<3) (.ix s.c (M s.b4)<|.br (s.t11==0) (.ix s.c d<|.br (aq<|(gx (e:=.pair A7 Aq) s.b4 s.c).1>a) (.so (.ret) {s with J0:=s.c,J6:=s.t11,JE:=(gx (e:=.pair A7 Aq) s.b4 s.c).1,b2:=U,b3:=(0:Y),st:=.done<|.ret})<|.nx {s with t11:=b})<|.br (s.t11==1) (.ix s.c d<|.br (aq<|(gx (e:=.pair A7 Aq) s.b4 s.c).2.1>a) (.so (.ret) {s with J0:=s.c,J6:=s.t11,JE:=(gx (e:=.pair A7 Aq) s.b4 s.c).2.1,b2:=U,b3:=(0:Y),st:=.done<|.ret})<|.nx {s with t11:=b})<|.br (s.t11==2) (.ix s.c d<|.br (aq<|(gx (e:=.pair A7 Aq) s.b4 s.c).2.2>a) (.so (.ret) {s with J0:=s.c,J6:=s.t11,JE:=(gx (e:=.pair A7 Aq) s.b4 s.c).2.2,b2:=U,b3:=(0:Y),st:=.done<|.ret})<|.nx {s with t11:=b})<|.no /-  -/)<|.so (.exit 2) s
def m5 (s:OF):Prop:=s.st=.ready/\s.t11=0/\(0<=s.c/\s.c<(M s.b4:Y))/\s.c<(M s.Bi:Y)
def lS (s:OF):Prop:=s.st=.ready/\(0<=s.t11/\s.t11<=3)/\(0<=s.c/\s.c<(M s.b4:Y))/\s.c<(M s.Bi:Y)
def gE (s:OF):aD:=(3-s.t11).toNat
def acj (x:Ex) (s s':OF):Prop:=True
def anw:∀s,m5 s->lS s:=by
 rintro s ⟨h,h0,h1⟩
 exact ⟨h,A0,h1⟩
def ai5:Da lS gE acj j7:=by
 intro s hI;obtain ⟨ht,h0,h1,h2⟩:=hI;refine AH (λc1=>?_) λc1=>?_
 ·refine AH (λc2=>?_) (λc2=>?_)
  ·refine AH (λc3=>?_) (λc3=>?_)
   ·trivial
   ·exact aN2
  ·refine AH (λc3=>?_) (λc3=>?_)
   ·refine AH (λc4=>?_) (λc4=>?_)
    ·trivial
    ·exact aN2
   ·refine AH (λc4=>?_) (λc4=>?_)
    ·refine AH (λc5=>?_) (λc5=>?_)
     ·trivial
     ·have c1:s.t11<3:=AY
      rw [AJ (x:=s.t11+1)];exact ⟨⟨ht,⟨A8,A8⟩,h1,h2⟩,by simp only [gE];omega⟩
    ·exfalso
     simp only [Aa,CV,ne_eq] at*;omega
 ·trivial
def S6:AS OF:=⟨7,22,[0,3,7,8,11],[],λs=>[.CQ 6,s.c,s.t7,s.t8,s.t11],λs=>[⟨[s.Bi,s.Gi,s.Gf,s.Gk,s.Gm],28,.cl,X⟩,⟨[s.J0,s.J6,s.JE],66,.cl,X⟩,⟨[s.b2],4,.cl,X⟩,⟨[s.b3],49,.cl,X⟩,⟨[.xl (.pair A7 Aq) s.b4],104,.cl,X⟩,⟨[s.NM,s.NQ,s.NN,s.NL,s.Na],28,.cl,X⟩,⟨[.junk,.junk,.own 0 0,.junk,.own 1 0,.own 2 0,.own 3 0,.own 4 0,.junk,.v<|.tuple #[],.v<|.tuple #[],.junk,.junk,.junk,.junk,.junk,.junk,.junk,.junk,.junk,.junk,.junk,.v<|.tuple #[],.v<|.tuple #[],.v<|.tuple #[],.v<|.tuple #[],.v<|.tuple #[],.v<|.tuple #[],.v<|.tuple #[],.v<|.tuple #[],.v<|.tuple #[],.v<|.tuple #[],.v<|.tuple #[],.v<|.tuple #[],.v<|.tuple #[],.v<|.tuple #[],.v<|.tuple #[],.v<|.tuple #[],.v<|.tuple #[],.v<|.tuple #[],.v<|.tuple #[],.v<|.tuple #[],.v<|.tuple #[],.v<|.tuple #[],.v<|.tuple #[],.v<|.tuple #[],.junk],0,.Cn aaQ aaW aaU s.st,X⟩],λv b=>⟨AL v 1,AL v 2,AL v 3,AL v 4,AF Ae b 0 0,AF .str b 0 1,AF Ak b 0 2,AF Af b 0 3,AF Al b 0 4,Am b 1 0,Am b 1 1,Am b 1 2,cgB b 2 0,Am b 3 0,AF (.pair A7 Aq) b 4 0,AF Ae b 5 0,AF .str b 5 1,AF Ak b 5 2,AF Af b 5 3,AF Al b 5 4,.ready⟩,j7,λs r=> {r with c:=s.c,t7:=s.t7,t8:=s.t8,Bi:=s.Bi,Gi:=s.Gi,Gf:=s.Gf,Gk:=s.Gk,Gm:=s.Gm,b4:=s.b4,NM:=s.NM,NQ:=s.NQ,NN:=s.NN,NL:=s.NL,Na:=s.Na},λs=> {s with st:=.ready},λx s=> {s with st:=(match x with| .ret=>(.done<|.ret) | .exit 2=> .ready|_=> .ready)},[.ret,.exit 2],m5,lS,gE⟩
abbrev MV:=S6.run
abbrev fN:=S6.Av
def XN:aO:=[aVn,tY]
def vw:Az:=kI XN<|l0 XN
def azn:Rq lS j7:=by
 intro s hI;refine ⟨λc1=>⟨?_,λc2=>⟨?_,λ_=>trivial,λ_=>trivial⟩,λc2=>⟨λc4=>⟨?_,λ_=>trivial,λ_=>trivial⟩,λc4=>⟨λc6=>⟨?_,λ_=>trivial,λ_=>trivial⟩,λc6=>?_⟩⟩⟩,λ_=>trivial⟩
 iterate 4 · (obtain ⟨ht,h0,h1,h2⟩:=hI;omega)
 ·(exfalso;obtain ⟨ht,h0,h1,h2⟩:=hI;simp only [Aa,CV,ne_eq] at*;omega)
def aS0:S6.Ok:={}
def aR1:S6.Pf (acj):=⟨anw,λs h=>by
 obtain ⟨c,t7,t8,t11,Bi,Gi,Gf,Gk,Gm,J0,J6,JE,b2,b3,b4,NM,NQ,NN,NL,Na,st⟩:=s
 have e:=h.1
 subst e;rfl,ai5,azn⟩
def ase:SA 7 aHo S6:=s2 aS0 aR1 XN vw
def avZ:Rs m5 fN MV (λs:OF=>MD (DD<|Ad s.Bi s.c) (gLi s.b4 s.c) s.t11) (λx s' (v:aN)=>(x=.ret/\v=X/\s'.b2=U/\s'.b3=0)\/(x=.exit 2/\v=U)):=DY aS0 aR1 (λs hI=>by
  show DH _ _ ((j7 s).rd s)
  obtain ⟨ht,h0,h1,h2⟩:=hI;refine AH (λc1=>?_) λc1=>?_
  ·refine AH (λc2=>?_) (λc2=>?_)
   ·refine AH (λc3=>?_) (λc3=>?_)
    ·refine .inl ⟨rfl,?_,rfl,rfl⟩
     have c3:(gLi s.b4 s.c).1>DD (Ad s.Bi s.c):=Ct c3
     exact yQ
    ·have c1:s.t11<3:=AY
     rw [AJ (x:=s.t11+1)]
     have c3:¬(gLi s.b4 s.c).1>DD (Ad s.Bi s.c):=KM c3
     exact yE
   ·refine AH (λc3=>?_) (λc3=>?_)
    ·refine AH (λc4=>?_) (λc4=>?_)
     ·refine .inl ⟨rfl,?_,rfl,rfl⟩
      have c4:(gLi s.b4 s.c).2.1>DD (Ad s.Bi s.c):=Ct c4
      exact yQ
     ·have c1:s.t11<3:=AY
      rw [AJ (x:=s.t11+1)]
      have c4:¬(gLi s.b4 s.c).2.1>DD (Ad s.Bi s.c):=KM c4
      exact yE
    ·refine AH (λc4=>?_) (λc4=>?_)
     ·refine AH (λc5=>?_) (λc5=>?_)
      ·refine .inl ⟨rfl,?_,rfl,rfl⟩
       have c5:(gLi s.b4 s.c).2.2>DD (Ad s.Bi s.c):=Ct c5
       exact yQ
      ·have c1:s.t11<3:=AY
       rw [AJ (x:=s.t11+1)]
       have c5:¬(gLi s.b4 s.c).2.2>DD (Ad s.Bi s.c):=KM c5
       exact yE
     ·exfalso
      simp only [Aa,CV,ne_eq] at*;omega
  ·have c1:3<=s.t11:=AY
   refine .inr ⟨rfl,?_⟩;unfold MD;simp only [AV,Cc,Aa];omega)
structure Kk where
 (t7 t8:Y)
 Bi:aL
 Gi:aF
 Gf:aR
 Gk:aG
 Gm:aS
 (J0 J6 JE:Y)
 b2:aN
 b3:Y
 b4:aVH
 NM:aL
 NQ:aF
 NN:aR
 NL:aG
 Na:aS
 st:LS
def aHp:=bN f65 0
def J3 (s:Kk):OF:=(⟨s.t8,s.t7,s.t8,0,s.Bi,s.Gi,s.Gf,s.Gk,s.Gm,s.J0,s.J6,s.JE,s.b2,s.b3,s.b4,s.NM,s.NQ,s.NN,s.NL,s.Na,.ready⟩:OF)
def aAy (s:Kk):T (Rd Kk):=
 .br (aq<|s.t8<s.t7) (.req (S6.q<|J3 s)<|.br (Bt (fN<|J3 s)<|.ret) (.so (.ret) {s with J0:=(MV<|J3 s).J0,J6:=(MV<|J3 s).J6,JE:=(MV<|J3 s).JE,b2:=(MV<|J3 s).b2,b3:=(MV<|J3 s).b3,st:=.done<|.ret})<|.nx {s with t8:=AA<|s.t8+1,J0:=(MV<|J3 s).J0,J6:=(MV<|J3 s).J6,JE:=(MV<|J3 s).JE,b2:=(MV<|J3 s).b2,b3:=(MV<|J3 s).b3}) (.so (.exit 0) s)
def m6 (s:Kk):Prop:=s.st=.ready/\s.t8=0/\s.t7=(M s.Bi:Y)/\s.t7<=1000/\M s.b4=M s.Bi
def Yg (s:Kk):Prop:=s.st=.ready/\(0<=s.t8/\s.t8<=s.t7)/\s.t7=(M s.Bi:Y)/\s.t7<=1000/\M s.b4=M s.Bi
def ur (s:Kk):aD:=(s.t7-s.t8).toNat
def ack (x:Ex) (s s':Kk):Prop:=True
def anx:∀s,m6 s->Yg s:=by
 rintro s ⟨h,h0,h1⟩
 exact ⟨h,A0,h1⟩
def aTT (s:Kk) (hI:Yg s) (c1:s.t8<s.t7):m5 (J3 s):=by
 obtain ⟨ht,⟨h0,h1⟩,h2,h3,h4⟩:=hI;exact ⟨rfl,rfl,⟨h0,by show s.t8<(M s.b4:Y);omega⟩,by show s.t8<(M s.Bi:Y);omega⟩
def ajJ:Da Yg ur ack aAy:=by
 intro s hI;obtain ⟨ht,⟨h0,h1⟩,h2,h3,h4⟩:=hI;refine AH (λc1=>AH (λc2=>trivial) λc2=>?_) λc1=>trivial
 have c1:s.t8<s.t7:=A8
 rw [AJ (x:=s.t8+1)];exact ⟨⟨ht,⟨A8,A8⟩,h2,h3,h4⟩,by simp only [ur];omega⟩
def UQ:AS Kk:=⟨7,22,[0,7,8],[],λs=>[.CQ 6,s.t7,s.t8],λs=>[⟨[s.Bi,s.Gi,s.Gf,s.Gk,s.Gm],28,.cl,X⟩,⟨[s.J0,s.J6,s.JE],66,.cl,X⟩,⟨[s.b2],4,.cl,X⟩,⟨[s.b3],49,.cl,X⟩,⟨[.xl (.pair A7 Aq) s.b4],104,.cl,X⟩,⟨[s.NM,s.NQ,s.NN,s.NL,s.Na],28,.cl,X⟩,⟨[.junk,.junk,.own 0 0,.junk,.own 1 0,.own 2 0,.own 3 0,.own 4 0,.junk,.v<|.tuple #[],.v<|.tuple #[],.junk,.junk,.junk,.junk,.junk,.junk,.junk,.junk,.junk,.junk,.junk,.v<|.tuple #[],.v<|.tuple #[],.v<|.tuple #[],.v<|.tuple #[],.v<|.tuple #[],.v<|.tuple #[],.v<|.tuple #[],.v<|.tuple #[],.v<|.tuple #[],.v<|.tuple #[],.v<|.tuple #[],.v<|.tuple #[],.v<|.tuple #[],.v<|.tuple #[],.v<|.tuple #[],.v<|.tuple #[],.v<|.tuple #[],.v<|.tuple #[],.v<|.tuple #[],.v<|.tuple #[],.v<|.tuple #[],.v<|.tuple #[],.v<|.tuple #[],.v<|.tuple #[],.junk],0,.Cn aaQ aaW aaU s.st,X⟩],λv b=>⟨AL v 1,AL v 2,AF Ae b 0 0,AF .str b 0 1,AF Ak b 0 2,AF Af b 0 3,AF Al b 0 4,Am b 1 0,Am b 1 1,Am b 1 2,cgB b 2 0,Am b 3 0,AF (.pair A7 Aq) b 4 0,AF Ae b 5 0,AF .str b 5 1,AF Ak b 5 2,AF Af b 5 3,AF Al b 5 4,.ready⟩,aAy,λs r=> {r with t7:=s.t7,Bi:=s.Bi,Gi:=s.Gi,Gf:=s.Gf,Gk:=s.Gk,Gm:=s.Gm,b4:=s.b4,NM:=s.NM,NQ:=s.NQ,NN:=s.NN,NL:=s.NL,Na:=s.Na},λs=> {s with st:=.ready},λx s=> {s with st:=(match x with| .ret=>(.done<|.ret) | .exit 0=> .ready|_=> .ready)},[.ret,.exit 0],m6,Yg,ur⟩
abbrev dN:=UQ.run
abbrev fF:=UQ.Av
def azo:Rq Yg aAy:=by
 intro s hI;refine ⟨λc1=>⟨?_,λ_=>trivial,λ_=>trivial⟩,λ_=>trivial⟩
 ·exact ⟨aTT s hI A8,rfl,rfl⟩
def aS1:UQ.Ok:={}
def aR2:UQ.Pf (ack):=⟨anx,λs h=>by
 obtain ⟨t7,t8,Bi,Gi,Gf,Gk,Gm,J0,J6,JE,b2,b3,b4,NM,NQ,NN,NL,Na,st⟩:=s
 have e:=h.1
 subst e;rfl,ajJ,azo⟩
def asf:SA 7 aHp UQ:=AS.snd aS1 aR2 (Gj (Γ:=XN) (K:=vw) (L:=(M0 (λi=>if i=4 then S6.lp else Ap i))) (gk XN) vw.h aHp (λb hb=>by
 rw [show BD _=[aHo] by kernel_rfl] at hb
 simp only [B9,Bx,By] at hb;subst hb;exact ase)) λs=>AX
def avb:Rs m6 fF dN (λs:Kk=>((av<|M s.Bi).drop s.t8.toNat).all λo=>ckO (DD<|Ad s.Bi o)<|Du s.b4 o) (λx s' (v:aN)=>(x=.ret/\v=X/\s'.b2=U/\s'.b3=0)\/(x=.exit 0/\v=U)):=DY aS1 aR2 (λs hI=>by
  have hin:=λc1=>aTT s hI c1
  obtain ⟨ht,⟨h0,h1⟩,h2,h3,h4⟩:=hI;refine AH (λc1=>?_) λc1=>?_
  ·have c1:s.t8<s.t7:=AY
   have q:=avZ _<|hin c1
   have e:((av<|M s.Bi).drop s.t8.toNat).all (λo=>ckO (DD<|Ad s.Bi o)<|Du s.b4 o)=(MD (DD<|Ad s.Bi s.t8) (gLi s.b4 s.t8) 0&&((av<|M s.Bi).drop (s.t8+1).toNat).all (λo=>ckO (DD<|Ad s.Bi o)<|Du s.b4 o)):=by
    rw [SY DC,It,ml,show (s.t8+1).toNat=s.t8.toNat+1 by omega,CS h0,anv]
    rfl
   refine AH (λc2=>?_) λc2=>?_
   ·rcases q with ⟨q1,q2,q3,q4⟩ |⟨q1,q2⟩
    ·refine .inl ⟨rfl,?_,q3,q4⟩
     rw [e]
     have q2:MD (DD<|Ad s.Bi s.t8) (gLi s.b4 s.t8) 0=false:=q2
     grind
    ·rw [show fN (J3 s)=_ from q1] at c2
     cases c2
   ·rcases q with ⟨q1,q2,q3,q4⟩ |⟨q1,q2⟩
    ·rw [show fN (J3 s)=_ from q1] at c2
     cases c2
    ·show List.all _ _=List.all _ _
     rw [e]
     have q2:MD (DD<|Ad s.Bi s.t8) (gLi s.b4 s.t8) 0=true:=q2
     rw [q2,ES,AJ (x:=s.t8+1)]
  ·have c1:s.t7<=s.t8:=AY
   refine .inr ⟨rfl,?_⟩;rw [Ei DC];rfl)
def vk1 (cs:aL) (os:aF) (ks:aR) (gs:aG) (bs:aS) (am:aC):Y:=if (aq (M am=M gs)&&Bt (fF ⟨(M cs:Y),0,cs,os,ks,gs,bs,0,0,0,X,0,JX cs gs am,cs,os,ks,gs,bs,.ready⟩) (.ret))=U then (dN ⟨(M cs:Y),0,cs,os,ks,gs,bs,0,0,0,X,0,JX cs gs am,cs,os,ks,gs,bs,.ready⟩).J0 else 0
def vk2 (cs:aL) (os:aF) (ks:aR) (gs:aG) (bs:aS) (am:aC):Y:=if (aq (M am=M gs)&&Bt (fF ⟨(M cs:Y),0,cs,os,ks,gs,bs,0,0,0,X,0,JX cs gs am,cs,os,ks,gs,bs,.ready⟩) (.ret))=U then (dN ⟨(M cs:Y),0,cs,os,ks,gs,bs,0,0,0,X,0,JX cs gs am,cs,os,ks,gs,bs,.ready⟩).J6 else 0
def vk3 (cs:aL) (os:aF) (ks:aR) (gs:aG) (bs:aS) (am:aC):Y:=if (aq (M am=M gs)&&Bt (fF ⟨(M cs:Y),0,cs,os,ks,gs,bs,0,0,0,X,0,JX cs gs am,cs,os,ks,gs,bs,.ready⟩) (.ret))=U then (dN ⟨(M cs:Y),0,cs,os,ks,gs,bs,0,0,0,X,0,JX cs gs am,cs,os,ks,gs,bs,.ready⟩).JE else 0
def aKn:aE->T LV
 | [.agg [.xl (.pair .str (.pair (.int J) (.pair (.int J) (.pair (.int J) (.pair (.pair (.int J) (.int J)) (.pair (.int J) (.pair (.int J) (.pair (.int J) (.pair (.int J) (.int J)))))))))) cs,.xl (.str) os,.xl (.pair .str (.pair (.int J) (.pair (.int J) (.int J)))) ks,.xl (.pair .str (.pair (.int J) (.pair (.int J) (.pair (.int J) (.pair (.int J) (.pair (.int J) (.pair (.int J) (.int J)))))))) gs,.xl (.pair .str (.int J)) bs],.xl (.int J) am]=> .req (BB cs os ks gs bs=U/\(M am=M gs->∀k:aD,k<M am->0<=gi am k/\gi am k<=80)) (.tu #[.agg #[vk1 cs os ks gs bs am,vk2 cs os ks gs bs am,vk3 cs os ks gs bs am],.bool<|aq (M am=M gs)&&!DA cs gs am,HB gs am])
 |_=> .no
def vg:aO:=[aVn,tY]
def ahi:Az:=kI vg<|la 1 func65 asf<|l0 vg
def PA:=vo (S:=aKn) func9 vg ahi (λargs lv h=>by
 unfold aKn at h;split at h
 ·rename_i cs os ks gs bs am
  refine Au (letI b:=(M cs:Y);letI d:=JX cs gs am;letI a:=(dN (⟨b,0,cs,os,ks,gs,bs,0,0,0,X,0,d,cs,os,ks,gs,bs,.ready⟩:Kk));.req (BB cs os ks gs bs=U/\(M am=M gs->∀k:aD,k<M am->0<=gi am k/\gi am k<=80))<|.br ((HB gs am) !=0) (.tu #[.agg #[(0:Y),(0:Y),(0:Y)],X,(1:Y)])<|.req (UQ.q (⟨b,0,cs,os,ks,gs,bs,0,0,0,X,0,d,cs,os,ks,gs,bs,.ready⟩:Kk))<|.br (Bt (fF (⟨b,0,cs,os,ks,gs,bs,0,0,0,X,0,d,cs,os,ks,gs,bs,.ready⟩:Kk))<|.ret) (.tu #[.agg #[a.J0,a.J6,a.JE],a.b2,a.b3])<|.tu #[.agg #[(0:Y),(0:Y),(0:Y)],X,(0:Y)]) ?_;obtain ⟨hq,rfl⟩:=h
  have hv:=hq.1
  have hb:=(D7.1 hv).1
  refine ⟨hq,λc=>?_,λc=>?_⟩
  ·have hl:¬(M am)=M gs:=λh=>by unfold HB at c;rw [AD h] at c;cases c
   unfold vk1 vk2 vk3 HB;simp only [AE hl,IP hl,QO,Hs,FN];rfl
  have hl:M am=M gs:=by
   unfold HB at c;split at c
   ·assumption
   ·cases c
  have hX:JX cs gs am=Jg cs gs am (M gs):=AD hl
  have hY:HB gs am=0:=AD hl
  rw [hY,Cb hl,ES]
  have hE:m6 ⟨(M cs:Y),0,cs,os,ks,gs,bs,0,0,0,X,0,(JX cs gs am),cs,os,ks,gs,bs,.ready⟩:=⟨rfl,rfl,rfl,aOl,by show M (JX cs gs am)=M cs;rw [hX];exact tO (qW hv) (qX hv) _<|Ar _⟩
  refine ⟨⟨hE,rfl,rfl⟩,?_⟩
  have e:DA cs gs am=((av<|M cs).drop (0:Y).toNat).all (λo=>ckO (DD<|Ad cs o)<|Du (JX cs gs am) o):=by rw [hX];rfl
  rcases avb _ hE with ⟨q1,q2,q3,q4⟩ |⟨q1,q2⟩
  ·have q2:DA cs gs am=false:=e.trans q2
   unfold vk1 vk2 vk3;simp only [Cb hl,ES];rw [q1,q3,q4,q2];exact ⟨λ_=>rfl,λh=>As⟩
  ·have q2:DA cs gs am=true:=e.trans q2
   unfold vk1 vk2 vk3;simp only [Cb hl,ES];rw [q1,q2];exact ⟨λh=>As,λ_=>rfl⟩
 ·cases h)
def fH {cs:aL}{os:aF}{ks:aR}{gs:aG}{bs:aS}(hs:BB cs os ks gs bs=U) {k:aD}(hk:k<M (Bq gs)):0<=gi (Bq gs) k/\gi (Bq gs) k<=80:=by
 have hl:M (Bq gs)=M gs:=IU
 rw [show gi (Bq gs) (k:Y)=CY (AG gs k) from NO A0 A0]
 have:=NT hs (c:=(k:Y)) A0 A0
 unfold G4 at this;simp only [AV] at this
 have:=gL this.2.2
 omega
structure PH where
 m:aG
 (k i:Y)
 out:aC
def aH2:=bN f33 0
def aA3 (s:PH):T (Rd PH):=letI a:=s.out.set s.i.toNat (AG s.m s.i).2.2.2.2.2.2.1;.br (aq<|s.i<s.k) (.ix s.i (M s.m)<|.ik s.i (M s.out)<|.re (M s.out) a<|.nx {s with i:=AA<|s.i+1,out:=a})<|.rl s.out<|.so (.exit 0) s
def kT (s:PH):Prop:=s.i=0/\s.k=(M s.m:Y)/\s.k<=1000/\M s.out=M s.m/\(∀j,0<=j->j<s.k->gi s.out j=0)/\True
def Yw (s:PH):Prop:=(0<=s.i/\s.i<=s.k)/\s.k=(M s.m:Y)/\s.k<=1000/\M s.out=M s.m/\(∀j,0<=j->j<s.k->gi s.out j=if j<s.i then CY (AG s.m j) else 0)/\True
def vS (s:PH):aD:=(s.k-s.i).toNat
def aCc (x:Ex) (s s':PH):Prop:=x=.exit 0/\s'.out=HR (M s'.m) (λj=>CY<|AG s'.m j)
def am4:∀s,kT s->Yw s:=by
 exact So
def azE:Da Yw vS aCc aA3:=by
 intro s hI;obtain ⟨⟨h0,h1⟩,h2,h3,h4,h5,h6⟩:=hI;refine AH (λc1=>?_) λc1=>?_
 ·have c1:s.i<s.k:=AY
  rw [AJ (x:=s.i+1)];refine ⟨⟨⟨A8,A8⟩,h2,h3,A8,λj j0 j1=>?_,h6⟩,by simp only [vS];omega⟩
  simp only;rw [J7 h0 cF j0];exact nC
 ·exact bK
def Rh:AS PH:=⟨0,25,[3,11,12,13],[],λs=>[.os 0 1 0<|M s.out,s.m,s.k,s.i],λs=>[bV 3 A7 s.out],λv b=>⟨B3 Af v 1,AL v 2,AL v 3,Ab A7 b 0⟩,aA3,λs r=> {r with m:=s.m,k:=s.k},λs=>s,λ_ s=>s,[.exit 0],kT,Yw,vS⟩
abbrev aDt:=Rh.run
abbrev av3:=Rh.Av
def ayA:Rq Yw aA3:=by
 exact yF
def aSv:aO:=[]
def aSA:Rh.Ok:={}
def aQg:Rh.Pf (aCc):=⟨am4,λs h=>rfl,azE,ayA⟩
def ar5:SA 0 aH2 Rh:=s1 aSA aQg aSv kN
def asK:Fi kT Yw aCc av3 aDt:=AS.fin aSA aQg
def aLN:aE->T LV
 | .agg a::r=>s5 a λcs os ks gs bs=>(match r with
  | []=> .req ((M gs:Y)<=1000) (.ok<|.xl A7<|Bq gs)
  |_=> .no)
 |_=> .no
def gO:=vm (S:=aLN) func33 aSv kN (L:=(λi=>if i=3 then Rh.lp else Ap i)) (λb hb=>by
 rw [show BD _=[aH2] by kernel_rfl] at hb
 simp only [B9,Bx,By] at hb;subst hb;exact ar5) (λargs lv h=>by
 unfold aLN at h;split at h
 case h_2=>cases h
 replace h:=Ia h
 obtain ⟨cs,os,ks,gs,bs,rfl,h⟩:=h;split at h
 ·refine Au (letI c:=(M gs:Y);letI a:=(au c.toNat (0:Y));letI b:=(aDt (⟨gs,c,0,a⟩:PH));.rm 8 c<|.re c.toNat a<|.req (Rh.q (⟨gs,c,0,a⟩:PH))<|.rz b.out<|.ok<|.xl A7<|(b.out.drop 0).take<|M b.out) ?_
  obtain ⟨hn,rfl⟩:=h
  have hE:kT ⟨gs,(M gs:Y),0,au (M gs:Y).toNat 0⟩:=⟨rfl,rfl,hn,AI,λj _ _=>Jv,an⟩
  obtain ⟨_,_,q1,q2⟩:=asK _ hE
  have q2:(aDt ⟨gs,(M gs:Y),0,au (M gs:Y).toNat 0⟩).out=Bq gs:=q2
  refine ⟨A0,⟨rfl,AI⟩,⟨hE,rfl,rfl⟩,A0,?_⟩
  show LV.xl _ _=_
  rw [CT,Ej,q2]
 ·cases h)
def aLL:aE->T LV
 | .agg a::r=>s5 a λcs os ks gs bs=>(match r with
  | []=> .req (BB cs os ks gs bs=U) (.ok<|.v<|.bool<|!DA cs gs (Bq gs))
  |_=> .no)
 |_=> .no
def ahK:aO:=[PA,gO]
def gN:=vo (S:=aLL) func13 ahK kN (λargs lv h=>by
 unfold aLL at h;split at h
 case h_2=>cases h
 replace h:=Ia h
 obtain ⟨cs,os,ks,gs,bs,rfl,h⟩:=h;split at h
 ·refine Au (.req ((M gs:Y)<=1000)<|.req (BB cs os ks gs bs=U/\(M (Bq gs)=M gs->∀k:aD,k<M (Bq gs)->0<=gi (Bq gs) k/\gi (Bq gs) k<=80))<|.ok<|.v<|.bool<|((HB gs<|Bq gs)==0)&&(aq (M (Bq gs)=M gs)&&!DA cs gs (Bq gs))) ?_
  obtain ⟨hs,rfl⟩:=h
  have hg:=(D7.1 hs).1
  have hl:M (Bq gs)=M gs:=IU
  have hY:HB gs (Bq gs)=0:=AD hl
  refine ⟨A0,⟨hs,λ_ k hk=>fH hs hk⟩,?_⟩
  rw [hY,Cb hl];rfl
 ·cases h)
def aKM:aE->T LV
 | [.v (.agg ⟨[.string nm,ah J at_,ah J ph,ah J mn,ah J mx,ah J st,ah J fb,ah J ow]⟩),.v (.agg ⟨[ah J sp,ah J sa,ah J sl,.bool sw]⟩)]=> .ok (sV (nm,at_,ph,mn,mx,st,fb,ow) (sp,sa,sl,sw))
 |_=> .no
def amW:aO:=[WV,eI,aaL]
def aPq:=vo (S:=aKM) func109 amW kN (λargs lv h=>by
 unfold aKM at h;split at h
 ·rename_i nm at_ ph mn mx st fb ow sp sa sl sw
  refine Au (.br (!(Ir ph mn mx st fb)) (.ok X)<|.br ((sp==0)&&((sa==0)&&((sl==0)&&(sw==X)))) (.ok U)<|.ok<|.v<|.bool<|(inB sp (0:Y) (5:Y))&&((inB sl (0:Y) (1000000:Y))&&((inB sa (0:Y) mx)&&(if sl !=0 then (!sw) ||(sp==5) else (sa==0)&&((!sw) ||(sp==5)))))) ?_
  obtain rfl:=h;refine ⟨λh1=>?_,λh1=>⟨λh2=>?_,λh2=>?_⟩⟩
  all_goals refine B0 (λz=>LV.v<|.bool z) ?_
  ·simp at h1;simp [sV,h1]
  ·simp at h1 h2
   obtain ⟨rfl,rfl,rfl,rfl⟩:=h2
   have:=Wg.1 h1
   rw [Sl,Ma]
   simp [h1];omega
  ·simp at h1
   unfold sV;simp only;rw [h1]
   by_cases hl:sl=0
   ·simp [hl]
   ·have:(sl !=0)=true:=nq
    simp [this]
 ·cases h)
def aUd:aE->T LV
 | [.v (.agg ⟨[.string nm,ah J at_,ah J ph,ah J mn,ah J mx,ah J st,ah J fb,ah J ow]⟩),.v (.agg ⟨[ah J ek,ah J en,ah J em]⟩)]=> .req (ek≠0) (.ok<|evV mx ek en em)
 |_=> .no
def amV:aO:=[eI]
def ajz:=vo (S:=aUd) func123 amV kN (λargs lv h=>by
 unfold aUd at h;split at h
 ·rename_i nm at_ ph mn mx st fb ow ek en em
  refine Au (.br (ek==4) (.ok<|inB en (0:Y) (1:Y))<|.br (ek==6) (.ok<|inB en (0:Y) (2:Y))<|.br (ek==7) (.br (!(inB em (1:Y) (1000000:Y))) (.ok X)<|.ok<|inB en (0:Y) mx)<|.br (ek==0) (.ok<|inB en (0:Y) mx)<|.ok U) ?_;obtain ⟨h0,rfl⟩:=h;refine ⟨λh1=>?_,λh1=>⟨λh2=>?_,λh2=>⟨λh3=>⟨λh4=>?_,λh4=>?_⟩,λh3=>⟨λh4=>?_,λh4=>?_⟩⟩⟩⟩
  all_goals refine B0 (λz=>LV.v<|.bool z) ?_
  all_goals simp_all [evV]
 ·cases h)
def aL1:aE->T LV
 | [.v (.agg ⟨[ah J sp,ah J sa,ah J sl,.bool sw]⟩),.v (.agg ⟨[ah J ek,ah J en,ah J em]⟩)]=> .ok (.v<|.agg #[dcP sp sw ek en,sa,sl,dcW sw ek en])
 |_=> .no
def amT:aO:=[]
def awg:=vo (S:=aL1) func124 amT kN (λargs lv h=>by
 unfold aL1 at h;split at h
 ·rename_i sp sa sl sw ek en em
  refine Au (.br (ek==4) (.br (en==1) (.ok<|.v<|.agg #[(3:Y),sa,sl,sw])<|.ok<|.v<|.agg #[(5:Y),sa,sl,sw])<|.br (ek==6) (.br (en==0) (.ok<|.v<|.agg #[(1:Y),sa,sl,.bool<|en==1])<|.ok<|.v<|.agg #[(5:Y),sa,sl,.bool<|en==1])<|.br (ek==2) (.br (!sw) (.ok<|.v<|.agg #[(0:Y),sa,sl,sw])<|.ok<|.v<|.agg #[sp,sa,sl,sw])<|.br (ek==9) (.br (!sw) (.ok<|.v<|.agg #[(1:Y),sa,sl,sw])<|.ok<|.v<|.agg #[sp,sa,sl,sw])<|.ok<|.v<|.agg #[sp,sa,sl,sw]) ?_;obtain rfl:=h
  have fin:∀(p:Y) (q:aN),p=dcP sp sw ek en->q=dcW sw ek en->LV.v (.agg #[ah J p,ah J sa,ah J sl,.bool q])=LV.v (.agg #[ah J<|dcP sp sw ek en,ah J sa,ah J sl,.bool<|dcW sw ek en]):=λp q h1 h2=>A8
  refine ⟨λh1=>⟨λh2=>?_,λh2=>?_⟩,λh1=>⟨λh2=>⟨λh3=>?_,λh3=>?_⟩,λh2=>⟨λh3=>⟨λh4=>?_,λh4=>?_⟩,λh3=>⟨λh4=>⟨λh5=>?_,λh5=>?_⟩,λh4=>?_⟩⟩⟩⟩
  all_goals refine fin _ _ ?_ ?_
  all_goals simp_all [dcP,dcW]
 ·cases h)
def aUl:aE->T LV
 | [.v (.agg ⟨[.string nm,ah J at_,ah J ph,ah J mn,ah J mx,ah J st,ah J fb,ah J ow]⟩),.v (.agg ⟨[ah J sp,ah J sa,ah J sl,.bool sw]⟩),.v (.agg ⟨[ah J ek,ah J en,ah J em]⟩)]=> .tu #[.agg #[(sN (nm,at_,ph,mn,mx,st,fb,ow) (sp,sa,sl,sw) ek en em).1,(sN (nm,at_,ph,mn,mx,st,fb,ow) (sp,sa,sl,sw) ek en em).2.1,(sN (nm,at_,ph,mn,mx,st,fb,ow) (sp,sa,sl,sw) ek en em).2.2.1,(sN (nm,at_,ph,mn,mx,st,fb,ow) (sp,sa,sl,sw) ek en em).2.2.2],sE (nm,at_,ph,mn,mx,st,fb,ow) (sp,sa,sl,sw) ek en em]
 |_=> .no
def aBf:aO:=[aPq,eI,ajz,awg]
def an0:Az:=kI aBf<|l0 aBf
def R6:=vo (S:=aUl) func84 aBf an0 (λargs lv h=>by
 unfold aUl at h;split at h
 ·rename_i nm at_ ph mn mx st fb ow sp sa sl sw ek en em
  refine Au (letI a:=Wp<|ek.toNat*6+(sp.toNat*1+0);letI c:=AA<|sl-1;letI d:=dcP sp sw ek en;letI f:=dcW sw ek en;.br (!(sV (nm,at_,ph,mn,mx,st,fb,ow) (sp,sa,sl,sw))) (.tu #[.agg #[(0:Y),(0:Y),(0:Y),X],(1:Y)])<|.br (!(inB ek (1:Y) (9:Y))) (.tu #[.agg #[(0:Y),(0:Y),(0:Y),X],(9:Y)])<|.req (ek≠0)<|.br (!(evV mx ek en em)) (.tu #[.agg #[(0:Y),(0:Y),(0:Y),X],(1:Y)])<|.req (0<=ek/\ek<(10:Y))<|.req (0<=sp/\sp<(6:Y))<|.br (a==(-1)) (.tu #[.agg #[(0:Y),(0:Y),(0:Y),X],(6:Y)])<|.br (a==(-2)) (.br (ek==7) (.tu #[.agg #[sp,en,em,sw],(0:Y)])<|.br (ek==8) (.br ((if (0:Y)<c then AA (sl-1) else 0)==0) (.tu #[.agg #[sp,(0:Y),ah J (if (0:Y)<c then AA (sl-1) else 0),sw],(0:Y)])<|.tu #[.agg #[sp,sa,ah J (if (0:Y)<c then AA (sl-1) else 0),sw],(0:Y)])<|.br (ek==9) (.tu #[.agg #[sp,(0:Y),(0:Y),sw],(0:Y)])<|.tu #[.agg #[sp,sa,sl,sw],(0:Y)])<|.br (a==(-3)) (.br (ek==7) (.tu #[.agg #[d,en,em,f],(0:Y)])<|.br (ek==8) (.br ((if (0:Y)<c then AA (sl-1) else 0)==0) (.tu #[.agg #[d,(0:Y),ah J (if (0:Y)<c then AA (sl-1) else 0),f],(0:Y)])<|.tu #[.agg #[d,sa,ah J (if (0:Y)<c then AA (sl-1) else 0),f],(0:Y)])<|.br (ek==9) (.tu #[.agg #[d,(0:Y),(0:Y),f],(0:Y)])<|.tu #[.agg #[d,sa,sl,f],(0:Y)])<|.br (ek==7) (.tu #[.agg #[a,en,em,sw],(0:Y)])<|.br (ek==8) (.br ((if (0:Y)<c then AA (sl-1) else 0)==0) (.tu #[.agg #[a,(0:Y),ah J (if (0:Y)<c then AA (sl-1) else 0),sw],(0:Y)])<|.tu #[.agg #[a,sa,ah J (if (0:Y)<c then AA (sl-1) else 0),sw],(0:Y)])<|.br (ek==9) (.tu #[.agg #[a,(0:Y),(0:Y),sw],(0:Y)])<|.tu #[.agg #[a,sa,sl,sw],(0:Y)]) ?_
  obtain rfl:=h
  have bad:∀e,e≠0->(sE (nm,at_,ph,mn,mx,st,fb,ow) (sp,sa,sl,sw) ek en em)=e->LV.v (.tuple #[.agg #[ah J 0,ah J 0,ah J 0,.bool X],ah J e])=LV.v (.tuple #[.agg #[ah J (sN (nm,at_,ph,mn,mx,st,fb,ow) (sp,sa,sl,sw) ek en em).1,ah J (sN (nm,at_,ph,mn,mx,st,fb,ow) (sp,sa,sl,sw) ek en em).2.1,ah J (sN (nm,at_,ph,mn,mx,st,fb,ow) (sp,sa,sl,sw) ek en em).2.2.1,.bool (sN (nm,at_,ph,mn,mx,st,fb,ow) (sp,sa,sl,sw) ek en em).2.2.2],ah J<|sE (nm,at_,ph,mn,mx,st,fb,ow) (sp,sa,sl,sw) ek en em]):=λe h0 h1=>by
   unfold sN;rw [h1];simp only [AE h0]
  have good:∀(p q r:Y) (b:aN),(sE (nm,at_,ph,mn,mx,st,fb,ow) (sp,sa,sl,sw) ek en em)=0->p=II sp sw ek en->q=sA sa sl ek en->r=sL sl ek em->b=sW sw ek en->LV.v (.tuple #[.agg #[ah J p,ah J q,ah J r,.bool b],ah J 0])=LV.v (.tuple #[.agg #[ah J (sN (nm,at_,ph,mn,mx,st,fb,ow) (sp,sa,sl,sw) ek en em).1,ah J (sN (nm,at_,ph,mn,mx,st,fb,ow) (sp,sa,sl,sw) ek en em).2.1,ah J (sN (nm,at_,ph,mn,mx,st,fb,ow) (sp,sa,sl,sw) ek en em).2.2.1,.bool (sN (nm,at_,ph,mn,mx,st,fb,ow) (sp,sa,sl,sw) ek en em).2.2.2],ah J<|sE (nm,at_,ph,mn,mx,st,fb,ow) (sp,sa,sl,sw) ek en em]):=λp q r b h0 h1 h2 h3 h4=>by
   unfold sN;rw [h0,h1,h2,h3,h4];simp only [Bo]
  refine ⟨λh1=>bad 1 Ac (by simp at h1;simp [sE,h1]),λh1=>⟨λh2=>bad 9 Ac (by simp at h1 h2;simp [sE,h1,h2]),λh2=>?_⟩⟩
  simp only [IQ] at h1 h2
  have h2':=BO.1 h2
  refine ⟨A0,λh3=>bad 1 Ac (by simp at h3;simp [sE,h1,h2,h3]),λh3=>?_⟩
  simp only [IQ] at h3;obtain ⟨g1,g2,g3,g4,g5,g6,g7,g8,g9⟩:=Ma.1 h1;simp only at g2 g3 g4 g5 g6 g7 g8 g9
  have hw:AA (sl-1)=sl-1:=AJ
  have hn:(sE (nm,at_,ph,mn,mx,st,fb,ow) (sp,sa,sl,sw) ek en em)=if II sp sw ek en<0 then 6 else 0:=by simp [sE,h1,h2,h3]
  have htk:(if (0:Y)<sl-1 then sl-1 else 0)=tkF sl:=rfl
  rw [hw,htk];refine ⟨A0,A0,?_⟩
  have hz:sw=X\/(sw=U/\sp=5):=by cases sw<;>simp_all
  rw [aj9 A0 A0 A0 A0]
  clear h1 h2 h3 bad good g1 g4 g5 g6 g7 g9 hw htk
  rcases hz with rfl|⟨rfl,rfl⟩
  ·rcases nine h2'.1 h2'.2 with rfl|rfl|rfl|rfl|rfl|rfl|rfl|rfl|rfl<;>rcases aoH g2 g3 with rfl|rfl|rfl|rfl|rfl|rfl
   all_goals simp [T.all,pE,sN,hn,II,sA,sL,sW,dcP,dcW]
   all_goals (try omega)
   all_goals (by_cases h4:en=1<;>by_cases h5:en=0<;>simp_all)
  ·rcases nine h2'.1 h2'.2 with rfl|rfl|rfl|rfl|rfl|rfl|rfl|rfl|rfl
   all_goals simp [T.all,pE,sN,hn,II,sA,sL,sW,dcP,dcW]
   all_goals (try omega)
 ·cases h)
def aUt:aE->T LV
 | [.v (.agg ⟨[.string nm,ah J at_,ah J ph,ah J mn,ah J mx,ah J st,ah J fb,ah J ow]⟩),.v (.agg ⟨[ah J sp,ah J sa,ah J sl,.bool sw]⟩)]=> .ok (Bj (nm,at_,ph,mn,mx,st,fb,ow) (sp,sa,sl,sw))
 |_=> .no
def amS:aO:=[aPq]
def Xa:=vo (S:=aUt) func78 amS kN (λargs lv h=>by
 unfold aUt at h;split at h
 ·rename_i nm at_ ph mn mx st fb ow sp sa sl sw
  refine Au (.br (!(sV (nm,at_,ph,mn,mx,st,fb,ow) (sp,sa,sl,sw))) (.ok (0:Y))<|.br sw (.ok mx)<|.br (sp !=4) (.ok (0:Y))<|.br (sl !=0) (.ok sa)<|.ok fb) ?_;obtain rfl:=h;refine ⟨λh1=>?_,λh1=>⟨λh2=>?_,λh2=>⟨λh3=>?_,λh3=>⟨λh4=>?_,λh4=>?_⟩⟩⟩⟩
  all_goals refine B0 (λz=>LV.v<|ah J z) ?_
  all_goals simp_all [Bj]
 ·cases h)
structure M7 where
 most:Y
 r:aN
 l:aC
 (n i:Y)
def aJz:=bN f115 0
def oD (s:M7):T (Rd M7):=
 .br (aq<|s.i<s.n) (.ix s.i (M s.l)<|.br ((aq<|(gi s.l s.i)<0) ||(aq<|(gi s.l s.i)>s.most)) (.so (.ret) {s with r:=X})<|.nx {s with i:=AA<|s.i+1}) (.so (.exit 0) s)
def Uu (s:M7) (j:Y):aN:=inB (gi s.l j) 0 s.most
def ov (s:M7):Prop:=s.i=0/\0<=s.n/\s.n<=1000/\s.n=(M s.l:Y)
def cg (s:M7):Prop:=0<=s.i/\s.i<=s.n/\s.n<=1000/\(s.n=(M s.l:Y))/\∀j:aD,(j:Y)<s.i->Uu s j=U
def aBX (s:M7):aD:=(s.n-s.i).toNat
def xI (x:Ex) (s s':M7):Prop:=(x=.exit 0/\∀j:aD,(j:Y)<s'.n->Uu s' j=U)\/(x=.ret/\s'.r=X/\∃j:aD,(j:Y)<s'.n/\Uu s' j=X)
def aoF:∀s,ov s->cg s:=by
 exact KN
def ajh:Da cg aBX xI oD:=by
 intro s hI;unfold oD;obtain ⟨h0,h1,h2,h3,h4⟩:=hI;refine AH (λc1=>AH (λc2=>?_) λc2=>?_) λc1=>?_
 ·have c1:s.i<s.n:=AY
  refine .inr ⟨rfl,rfl,s.i.toNat,A8,?_⟩
  have hg:Uu s s.i=false:=aOO
  exact hg
 ·have c1:s.i<s.n:=AY
  have hg:Uu s s.i=true:=aOO
  rw [AJ (x:=s.i+1)];refine ⟨⟨A8,A8,h2,h3,λj hj=>?_⟩,by simp only [aBX];omega⟩
  exact LU
 ·exact Sn
def SR:AS M7:=⟨0,21,[0,4,7,8,9],[],λs=>[s.most,s.r,.xl A7 s.l,s.n,s.i],λ_=>[],λv b=>⟨AL v 0,Ds v 1,B3 A7 v 2,AL v 3,AL v 4⟩,oD,λs r=> {s with r:=r.r,i:=r.i},λs=>s,λ_ s=>s,[.ret,.exit 0],ov,cg,aBX⟩
abbrev aPu:=SR.run
abbrev aTX:=SR.Av
def akf:Rq cg oD:=by
 exact Sk
def aSy:aO:=[]
def abr:SR.Ok:={}
def aae:SR.Pf (xI):=⟨aoF,λs h=>rfl,ajh,akf⟩
def axO:SA 0 aJz SR:=s1 abr aae aSy kN
def awK:Fi ov cg xI aTX aPu:=AS.fin abr aae
def aUg:aE->T LV
 | [.v (ah J most),.xl (.int J) ns]=> .req (M ns<=1000) (.ok<|ns.all λp=>inB p 0 most)
 |_=> .no
def aaM:=vm (S:=aUg) func115 aSy kN (L:=(λi=>if i=2 then SR.lp else Ap i)) (λb hb=>by
 rw [show BD _=[aJz] by kernel_rfl] at hb
 simp only [B9,Bx,By] at hb;subst hb;exact axO) (λargs lv h=>by
 unfold aUg at h;split at h
 ·rename_i most ns
  refine Au (letI a:=(M ns:Y);.req (SR.q (⟨most,X,ns,a,0⟩:M7))<|.br (Bt (aTX (⟨most,X,ns,a,0⟩:M7))<|.ret) (.ok (aPu (⟨most,X,ns,a,0⟩:M7)).r)<|.ok U) ?_;obtain ⟨h0,rfl⟩:=h
  have hE:ov ⟨most,X,ns,(M ns:Y),0⟩:=⟨rfl,AZ,AZ,rfl⟩
  obtain ⟨s',hI,hq⟩:=awK _ hE;rw [aUS];refine ⟨⟨hE,rfl,rfl⟩,?_⟩;rcases hq with ⟨q1,q2⟩ |⟨q1,q2,j,q3,q4⟩<;>rw [q1]
  ·rw [show DQ (M ns) (λj=>inB (gi ns j) 0 most)=U from Dq.2 q2]
   exact ⟨λh=>As,λ_=>rfl⟩
  ·rw [q2,show DQ (M ns) (λj=>inB (gi ns j) 0 most)=X from P1 j q3 q4]
   exact ⟨λ_=>rfl,λh=>As⟩
 ·cases h)
def aUC:aE->T LV
 | [.v (.agg ⟨[ah J sr,ah J rg,.bool bk]⟩)]=> .ok (meV (sr,rg,bk))
 |_=> .no
def ahU:aO:=[aaM]
def ak9:=vo (S:=aUC) func114 ahU kN (λargs lv h=>by
 unfold aUC at h;split at h
 ·rename_i sr rg bk
  refine Au (.req (M ([sr])<=1000)<|.br (([sr]).all λp=>inB p 0 (1000000:Y)) (.br (aq<|rg>=(-1000000000000000)) (.ok<|aq<|rg<=1000000000000000)<|.ok X)<|.ok X) ?_
  obtain rfl:=h;refine ⟨AI,λc1=>⟨λc2=>?_,λc2=>?_⟩,λc1=>?_⟩
  all_goals refine B0 (λz=>LV.v<|.bool z) ?_
  all_goals simp only [It,List.all_nil,mX] at c1
  all_goals first|(simp_all [meV];done) |(simp_all [meV];omega)
 ·cases h)
def aUD:aE->T LV
 | [.v (.agg ⟨[ah J sr,ah J rg,.bool bk]⟩),.v (ah J a),.v (ah J p)]=> .tu #[.agg #[(He (sr,rg,bk) a p).1,(He (sr,rg,bk) a p).2.1,(He (sr,rg,bk) a p).2.2],G8 (sr,rg,bk) a p]
 |_=> .no
def wT:aO:=[ak9,aaM]
def ahu:Az:=kI wT<|l0 wT
def XX:=vo (S:=aUD) func80 wT ahu (λargs lv h=>by
 unfold aUD at h;split at h
 ·rename_i sr rg bk a p
  refine Au (letI b:=AA<|2300*a;.br (!(meV (sr,rg,bk))) (.tu #[.agg #[(0:Y),(0:Y),X],(1:Y)])<|.req (M ([a])<=1000)<|.br (!(([a]).all λp=>inB p 0 (80:Y))) (.tu #[.agg #[(0:Y),(0:Y),X],(1:Y)])<|.req (M ([p])<=1000)<|.br (!(([p]).all λp=>inB p 0 (3:Y))) (.tu #[.agg #[(0:Y),(0:Y),X],(1:Y)])<|.br bk (.br (!(meV (sr,(AA<|rg-(AA<|b*p)),bk))) (.tu #[.agg #[(0:Y),(0:Y),X],(3:Y)])<|.tu #[.agg #[sr,(AA<|rg-(AA<|b*p)),bk],(0:Y)])<|.br (!(meV (sr,(AA<|rg+(AA<|b*p)),bk))) (.tu #[.agg #[(0:Y),(0:Y),X],(3:Y)])<|.tu #[.agg #[sr,(AA<|rg+(AA<|b*p)),bk],(0:Y)]) ?_
  obtain rfl:=h
  have fin:∀(x1 x2:Y) (x3:aN) (e:Y),(x1,x2,x3)=He (sr,rg,bk) a p->e=G8 (sr,rg,bk) a p->LV.v (.tuple #[.agg #[ah J x1,ah J x2,.bool x3],ah J e])=LV.v (.tuple #[.agg #[ah J (He (sr,rg,bk) a p).1,ah J (He (sr,rg,bk) a p).2.1,.bool (He (sr,rg,bk) a p).2.2],ah J<|G8 (sr,rg,bk) a p]):=by
   intro x1 x2 x3 e h1 h2;rw [h2,<-h1]
  have hw:meV (sr,rg,bk)=U->inB a 0 80=U->inB p 0 3=U->AA (rg-AA (AA (2300*a)*p))=rg-2300*a*p/\AA (rg+AA (AA (2300*a)*p))=rg+2300*a*p:=by
   intro h1 h2 h3
   simp [meV,inB] at h1 h2 h3
   have hm:0<=2300*a*p/\2300*a*p<=552000:=⟨Iv A0 A0,HI (Int.mul_le_mul (by omega:2300*a<=184000) (by omega:p<=3) A0 A0) A0⟩
   rw [AJ (x:=2300*a),AJ (x:=2300*a*p)];exact ⟨AJ,AJ⟩
  simp only [It,List.all_nil,mX];refine ⟨λc1=>?_,λc1=>⟨AI,λc2=>?_,λc2=>⟨AI,λc3=>?_,λc3=>?_⟩⟩⟩
  ·refine fin _ _ _ _ ?_ ?_<;>simp at c1<;>simp [He,G8,mcB,c1]
  ·refine fin _ _ _ _ ?_ ?_<;>simp at c1 c2<;>simp [He,G8,mcB,c1,c2]
  ·refine fin _ _ _ _ ?_ ?_<;>simp at c1 c2 c3<;>simp [He,G8,mcB,c1,c2,c3]
  ·simp at c1 c2 c3
   obtain ⟨w1,w2⟩:=hw c1 c2 c3;rw [w1,w2];refine ⟨λc4=>⟨λc5=>?_,λc5=>?_⟩,λc4=>⟨λc5=>?_,λc5=>?_⟩⟩<;>subst c4<;>simp at c5<;>refine fin _ _ _ _ ?_ ?_<;>simp [He,G8,mcB,mcR,c1,c2,c3,c5]
 ·cases h)
def aU4:aE->T LV
 | [.v (ah J n),.v (ah J a),.v (ah J b)]=> .ok (inB n a b)
 |_=> .no
def ahT:aO:=[]
def U4:=vo (S:=aU4) func32 ahT kN (λargs lv h=>by
 unfold aU4 at h;split at h
 ·rename_i n a b
  refine Au (.ok<|.v<|.bool<|(aq<|n>=a)&&(aq<|n<=b)) ?_;exact h
 ·cases h)
def aUL:aE->T LV
 | [.v (ah J n)]=> .ok (inB n (-200) 200)
 |_=> .no
def ahS:aO:=[U4]
def iw:=vo (S:=aUL) func12 ahS kN (λargs lv h=>by
 unfold aUL at h;split at h
 ·rename_i n
  refine Au (.ok<|inB n (-200:Y) (200:Y)) ?_;exact h
 ·cases h)
def oX (e:Ty):LV->Option (List e.D)
 | .xl e' l=>match K8 e' e with
  |some ⟨h⟩=>ai (Kr h l)
  |none=>ak
 |_=>ak
def Ie {e:Ty}{x:LV}{l:List e.D}(h:oX e x=ai l):x=.xl e l:=by
 unfold oX at h;split at h
 ·split at h
  ·rename_i h2 _
   subst h2;cases h;rfl
  ·cases h
 ·cases h
def oI:LV->Option Int
 | .v (ah J n)=>ai n
 |_=>ak
def aBI {x:LV}{n:Y}(h:oI x=ai n):x=.v (ah J n):=by
 unfold oI at h;exact yW
def oB:LV->Option Bool
 | .v (.bool n)=>ai n
 |_=>ak
def am8 {x:LV}{n:aN}(h:oB x=ai n):x=.v (.bool n):=by
 unfold oB at h;exact yW
def cP:LV->Option PK
 | .agg [a0,a1,a2,a3,a4,a5,a6,a7,a8,a9,a10,a11,a12,a13,a14,a15,a16,a17,a18,a19]=>(oX Ae a0).bind λcs=>(oX .str a1).bind λos=>(oX Ak a2).bind λks=>(oX Af a3).bind λgs=>(oX Al a4).bind λbs=>(oI a5).bind λtk=>(oB a6).bind λup=>(oX AO a7).bind λls=>(oI a8).bind λse=>(oX (.int ax) a9).bind λfl=>(oX Aq a10).bind λra=>(oI a11).bind λnx=>(oX B7 a12).bind λst=>(oX AO a13).bind λca=>(oX BC a14).bind λmi=>(oX BU a15).bind λme=>(oX Ai a16).bind λdm=>(oX BP a17).bind λlk=>(oX A7 a18).bind λdr=>(oX A7 a19).bind λtg=>ai ⟨cs,os,ks,gs,bs,tk,up,ls,se,fl,ra,nx,st,ca,mi,me,dm,lk,dr,tg⟩
 |_=>ak
def sJ {x:LV}{p:PK}(h:cP x=ai p):x=(p):=by
 unfold cP at h;split at h
 ·simp only [Option.bind_eq_some_iff] at h
  obtain ⟨cs,h0,os,h1,ks,h2,gs,h3,bs,h4,tk,h5,up,h6,ls,h7,se,h8,fl,h9,ra,h10,nx,h11,st,h12,ca,h13,mi,h14,me,h15,dm,h16,lk,h17,dr,h18,tg,h19,h⟩:=h;cases h;rw [Ie h0,Ie h1,Ie h2,Ie h3,Ie h4,aBI h5,am8 h6,Ie h7,aBI h8,Ie h9,Ie h10,aBI h11,Ie h12,Ie h13,Ie h14,Ie h15,Ie h16,Ie h17,Ie h18,Ie h19]
 ·cases h
def WN:=bN f17 0
def PF:aO:=[P9,iw,U4]
def arw:Sound prog AU (.loop WN) (Fx prog AU PF EN 20 2 WN):=Oq (gk PF) kN.h 20 2 WN
structure O4 where
 r:aN
 n:Y
 l:aC
 (m i:Y)
 p:PK
def aH1:=bN f17 1
def aAl (s:O4):T (Rd O4):=
 .br (aq<|s.i<s.m) (.ix s.i (M s.l)<|.ix s.i (M s.p.cs)<|.br (!(inB (gi s.l s.i) (1:Y) (Ad s.p.cs s.i).2.2.1)) (.so (.ret) {s with r:=X})<|.nx {s with i:=AA<|s.i+1}) (.so (.exit 2) s)
def RT (s:O4) (j:Y):aN:=inB (gi s.l j) 1 (Ad s.p.cs j).2.2.1
def kS (s:O4):Prop:=s.i=0/\0<=s.m/\s.m<=1000/\s.m=(M s.l:Y)/\M s.l=M s.p.cs
def Yv (s:O4):Prop:=0<=s.i/\s.i<=s.m/\s.m<=1000/\(s.m=(M s.l:Y)/\M s.l=M s.p.cs)/\∀j:aD,(j:Y)<s.i->RT s j=U
def vQ (s:O4):aD:=(s.m-s.i).toNat
def aCb (x:Ex) (s s':O4):Prop:=(x=.exit 2/\∀j:aD,(j:Y)<s'.m->RT s' j=U)\/(x=.ret/\s'.r=X/\∃j:aD,(j:Y)<s'.m/\RT s' j=X)
def am1:∀s,kS s->Yv s:=by
 exact KN
def azA:Da Yv vQ aCb aAl:=by
 intro s hI;obtain ⟨h0,h1,h2,h3,h4⟩:=hI;refine AH (λc1=>AH (λc2=>?_) λc2=>?_) λc1=>?_
 ·have c1:s.i<s.m:=AY
  refine .inr ⟨rfl,rfl,s.i.toNat,AZ,?_⟩
  have hg:RT s s.i=false:=by unfold RT;simp_all
  exact hg
 ·have c1:s.i<s.m:=AY
  have hg:RT s s.i=true:=by unfold RT;simp_all
  rw [AJ (x:=s.i+1)];refine ⟨⟨A8,A8,h2,h3,λj hj=>?_⟩,by simp only [vQ];omega⟩
  exact LU
 ·exact nN
def Po:AS O4:=⟨0,105,[1,2,3,61,62,63],[],λs=>[.own 0 0,s.r,s.n,.xl A7 s.l,s.m,s.i],λs=>[⟨[s.p.cs,s.p.os,s.p.ks,s.p.gs,s.p.bs,s.p.tk,s.p.up,s.p.ls,s.p.se,.xl (.int ax) s.p.fl,s.p.ra,s.p.nx,s.p.st,s.p.ca,s.p.mi,s.p.me,s.p.dm,s.p.lk,.xl A7 s.p.dr,.xl A7 s.p.tg],48,.cl,X⟩],λv b=>⟨Ds v 1,AL v 2,B3 A7 v 3,AL v 4,AL v 5,rQ b 0⟩,aAl,λs r=> {s with r:=r.r,i:=r.i},λs=>s,λ_ s=>s,[.ret,.exit 2],kS,Yv,vQ⟩
abbrev fR:=Po.run
abbrev fK:=Po.Av
def ayy:Rq Yv aAl:=by
 exact yH
def aS9:Po.Ok:={}
def aQf:Po.Pf (aCb):=⟨am1,λs h=>rfl,azA,ayy⟩
def ar2:SA 0 aH1 Po:=s1 aS9 aQf PF kN
def asH:Fi kS Yv aCb fK fR:=AS.fin aS9 aQf
structure O3 where
 r:aN
 n:Y
 l:aC
 (m i:Y)
 p:PK
def aH0:=bN f17 2
def aAk (s:O3):T (Rd O3):=
 .br (aq<|s.i<s.m) (.ix s.i (M s.l)<|.br (!(inB (gi s.l s.i) (-200) 200)) (.so (.ret) {s with r:=X})<|.nx {s with i:=AA<|s.i+1}) (.so (.exit 4) s)
def RS (s:O3) (j:Y):aN:=inB (gi s.l j) (-200) 200
def kR (s:O3):Prop:=s.i=0/\0<=s.m/\s.m<=1000/\s.m=(M s.l:Y)
def Yu (s:O3):Prop:=0<=s.i/\s.i<=s.m/\s.m<=1000/\(s.m=(M s.l:Y))/\∀j:aD,(j:Y)<s.i->RS s j=U
def vP (s:O3):aD:=(s.m-s.i).toNat
def aCa (x:Ex) (s s':O3):Prop:=(x=.exit 4/\∀j:aD,(j:Y)<s'.m->RS s' j=U)\/(x=.ret/\s'.r=X/\∃j:aD,(j:Y)<s'.m/\RS s' j=X)
def am0:∀s,kR s->Yu s:=by
 exact KN
def azx:Da Yu vP aCa aAk:=by
 intro s hI;obtain ⟨h0,h1,h2,h3,h4⟩:=hI;refine AH (λc1=>AH (λc2=>?_) λc2=>?_) λc1=>?_
 ·have c1:s.i<s.m:=AY
  refine .inr ⟨rfl,rfl,s.i.toNat,A8,?_⟩
  have hg:RS s s.i=false:=by unfold RS;simp_all
  exact hg
 ·have c1:s.i<s.m:=AY
  have hg:RS s s.i=true:=by unfold RS;simp_all
  rw [AJ (x:=s.i+1)];refine ⟨⟨A8,A8,h2,h3,λj hj=>?_⟩,by simp only [vP];omega⟩
  exact LU
 ·exact nN
def Pm:AS O3:=⟨0,105,[1,2,3,80,81,82],[],λs=>[.own 0 0,s.r,s.n,.xl A7 s.l,s.m,s.i],λs=>[⟨[s.p.cs,s.p.os,s.p.ks,s.p.gs,s.p.bs,s.p.tk,s.p.up,s.p.ls,s.p.se,.xl (.int ax) s.p.fl,s.p.ra,s.p.nx,s.p.st,s.p.ca,s.p.mi,s.p.me,s.p.dm,s.p.lk,.xl A7 s.p.dr,.xl A7 s.p.tg],48,.cl,X⟩],λv b=>⟨Ds v 1,AL v 2,B3 A7 v 3,AL v 4,AL v 5,rQ b 0⟩,aAk,λs r=> {s with r:=r.r,i:=r.i},λs=>s,λ_ s=>s,[.ret,.exit 4],kR,Yu,vP⟩
abbrev gC:=Pm.run
abbrev fJ:=Pm.Av
def ayx:Rq Yu aAk:=by
 exact Sk
def aS8:Pm.Ok:={}
def aQe:Pm.Pf (aCa):=⟨am0,λs h=>rfl,azx,ayx⟩
def as1:SA 0 aH0 Pm:=s1 aS8 aQe PF kN
def asG:Fi kR Yu aCa fJ gC:=AS.fin aS8 aQe
structure O2 where
 r:aN
 n:Y
 l:bz
 (m i:Y)
def aGz:=bN f17 3
def aAj (s:O2):T (Rd O2):=
 .br (aq<|s.i<s.m) (.ix s.i (M s.l)<|.br (!(inB (Fu s.l s.i).2.2.1 (0:Y)<|AA<|s.n-1)) (.so (.ret) {s with r:=X})<|.nx {s with i:=AA<|s.i+1}) (.so (.exit 6) s)
def Tn (s:O2) (j:Y):aN:=inB (Fu s.l j).2.2.1 0<|s.n-1
def kQ (s:O2):Prop:=s.i=0/\0<=s.m/\s.m<=100000000/\s.m=(M s.l:Y)/\0<=s.n/\s.n<=16
def Yt (s:O2):Prop:=0<=s.i/\s.i<=s.m/\s.m<=100000000/\(s.m=(M s.l:Y)/\0<=s.n/\s.n<=16)/\∀j:aD,(j:Y)<s.i->Tn s j=U
def vO (s:O2):aD:=(s.m-s.i).toNat
def aCZ (x:Ex) (s s':O2):Prop:=(x=.exit 6/\∀j:aD,(j:Y)<s'.m->Tn s' j=U)\/(x=.ret/\s'.r=X/\∃j:aD,(j:Y)<s'.m/\Tn s' j=X)
def alz:∀s,kQ s->Yt s:=by
 exact KN
def azw:Da Yt vO aCZ aAj:=by
 intro s hI;obtain ⟨h0,h1,h2,h3,h4⟩:=hI;refine AH (λc1=>AH (λc2=>?_) λc2=>?_) λc1=>?_
 ·have c1:s.i<s.m:=AY
  refine .inr ⟨rfl,rfl,s.i.toNat,AZ,?_⟩
  have hg:Tn s s.i=false:=aOV
  exact hg
 ·have c1:s.i<s.m:=AY
  have hg:Tn s s.i=true:=aOV
  rw [AJ (x:=s.i+1)];refine ⟨⟨A8,A8,h2,h3,λj hj=>?_⟩,by simp only [vO];omega⟩
  exact LU
 ·exact nN
def Pl:AS O2:=⟨0,105,[2,3,91,92,93],[],λs=>[s.r,s.n,s.l,s.m,s.i],λ_=>[],λv b=>⟨Ds v 0,AL v 1,B3 BP v 2,AL v 3,AL v 4⟩,aAj,λs r=> {s with r:=r.r,i:=r.i},λs=>s,λ_ s=>s,[.ret,.exit 6],kQ,Yt,vO⟩
abbrev sq:=Pl.run
abbrev fq:=Pl.Av
def ayw:Rq Yt aAj:=by
 intro s hI;refine ⟨λc1=>⟨?_,λ_=>trivial,λ_=>trivial⟩,λ_=>trivial⟩
 ·(obtain ⟨h0,h1,h2,h3,h4⟩:=hI;obtain ⟨g0,g1,g2⟩:=h3;simp at c1;omega)
def aS7:Pl.Ok:={}
def aQd:Pl.Pf (aCZ):=⟨alz,λs h=>rfl,azw,ayw⟩
def arz:SA 0 aGz Pl:=s1 aS7 aQd PF kN
def asF:Fi kQ Yt aCZ fq sq:=AS.fin aS7 aQd
def qJ {α:Type}{l:List α}{d:α}{f:α->aN}:DQ (M l) (λk=>f<|l.getD k.toNat d)=l.all f:=by
 rw [Iw,Dq,BH]
 constructor
 ·intro h x hx
  obtain ⟨k,hk,rfl⟩:=Hr.1 hx
  grind
 ·intro h j hj
  grind
def aU2:aE->T LV
 | [x_p]=>(match cP x_p with
  |some p=> .req (M p.lk<=100000000) (.ok<|Er p)
  |none=> .no)
 |_=> .no
def Qe (p:PK):O4:=(⟨X,(M p.gs:Y),p.tg,(M p.tg:Y),0,p⟩:O4)
def Qd (p:PK):O3:=(⟨(fR<|Qe p).r,(M p.gs:Y),p.dr,(M p.dr:Y),0,p⟩:O3)
def T8 (p:PK):O2:=(⟨(gC<|Qd p).r,(M p.gs:Y),p.lk,(M p.lk:Y),0⟩:O2)
def az8 (p:PK):letI a:=(M p.gs:Y);Bu prog AU PF kN (λi=>if i=5 then (Fx prog AU PF EN 20 2 WN) else if i=13 then Po.lp else if i=19 then Pm.lp else if i=25 then Pl.lp else Ap i) f17 [p]=.br ((!(BB p.cs p.os p.ks p.gs p.bs)) ||(!(inB p.tk (0:Y) (1000000:Y)))) (.ok X) (.br ((M p.st:Y) !=a) (.ok X)<|.br ((M p.ca:Y) !=a) (.ok X)<|.br ((M p.mi:Y) !=a) (.ok X)<|.br ((M p.me:Y) !=a) (.ok X)<|.br ((M p.dm:Y) !=a) (.ok X)<|.br ((M p.dr:Y) !=a) (.ok X)<|.br ((M p.tg:Y) !=(M p.cs:Y)) (.ok X)<|.req (Po.q<|Qe p)<|.br (Bt (fK<|Qe p)<|.ret) (.ok (fR<|Qe p).r)<|.req (Pm.q<|Qd p)<|.br (Bt (fJ<|Qd p)<|.ret) (.ok (gC<|Qd p).r)<|.req (Pl.q<|T8 p)<|.br (Bt (fq<|T8 p)<|.ret) (.ok (sq<|T8 p).r)<|.ok U):=AX
def ak2:=vm (S:=aU2) func17 PF kN (L:=(λi=>if i=5 then (Fx prog AU PF EN 20 2 WN) else if i=13 then Po.lp else if i=19 then Pm.lp else if i=25 then Pl.lp else Ap i)) (λb hb=>by
 rw [show BD _=[WN,aH1,aH0,aGz] by kernel_rfl] at hb
 simp only [B9,Bx,By] at hb;rcases hb with rfl|rfl|rfl|rfl
 ·exact arw
 ·exact ar2
 ·exact as1
 ·exact arz) (λargs lv h=>by
 refine ⟨?_⟩;unfold aU2 at h;split at h
 ·split at h
  case h_2=>cases h
  rename_i p hp;obtain rfl:=sJ hp;simp only [canL,canX];rw [az8];obtain ⟨hk,rfl⟩:=h
  have op:Er p=U->_:=λhv=>by unfold Er at hv;simp only [AV,Aa] at hv;exact hv
  have no:(Er p=U->False)->LV.v (.bool X)=LV.v (.bool<|Er p):=λh=>by
   cases e:Er p
   ·rfl
   ·exact (h e).elim
  refine ⟨λc1=>no λhv=>?_,λc1=>⟨λc2=>no λhv=>?_,λc2=>⟨λc3=>no λhv=>?_,λc3=>⟨λc4=>no λhv=>?_,λc4=>⟨λc5=>no λhv=>?_,λc5=>⟨λc6=>no λhv=>?_,λc6=>⟨λc7=>no λhv=>?_,λc7=>⟨λc8=>no λhv=>?_,λc8=>?_⟩⟩⟩⟩⟩⟩⟩⟩
  iterate 8
   ·obtain ⟨⟨h1,h2⟩,⟨h3,h4,h5,h6,h7,h8⟩,h9,_⟩:=op hv
    simp_all
  simp only [bne_eq_false_iff_eq,Int.natCast_inj,HF,IQ] at c1 c2 c3 c4 c5 c6 c7 c8
  have hs:=D7.1 c1.1
  have hv:Er p=(DQ (M p.tg) (λk=>inB (gi p.tg k) 1 (Ad p.cs k).2.2.1)&&(p.dr.all (λx=>inB x (-200) 200)&&p.lk.all (λl=>inB l.2.2.1 0<|(M p.gs:Y)-1))):=by
   unfold Er
   grind
  have hr:DQ (M p.dr) (λk=>inB (gi p.dr k) (-200) 200)=p.dr.all (λx=>inB x (-200) 200):=qJ (f:=λx=>inB x (-200) 200)
  have hl:DQ (M p.lk) (λk=>inB (Fu p.lk k).2.2.1 0<|(M p.gs:Y)-1)=p.lk.all (λl=>inB l.2.2.1 0<|(M p.gs:Y)-1):=qJ (f:=λl:Lk=>inB l.2.2.1 0<|(M p.gs:Y)-1)
  rw [hv,<-hr,<-hl]
  have E1:kS (Qe p):=⟨rfl,Sh _,by show (M p.tg:Y)<=1000;omega,rfl,c8⟩
  have E2:kR (Qd p):=⟨rfl,Sh _,by show (M p.dr:Y)<=1000;omega,rfl⟩
  have E3:kQ (T8 p):=⟨rfl,Sh _,by show (M p.lk:Y)<=100000000;omega,rfl,Sh _,by show (M p.gs:Y)<=16;omega⟩
  refine ⟨⟨E1,rfl,rfl⟩,?_⟩;obtain ⟨_,_,q⟩:=asH _ E1
  have q:(fK (Qe p)=.exit 2/\_)\/(fK (Qe p)=.ret/\(fR<|Qe p).r=X/\∃j:aD,(j:Y)<(M p.tg:Y)/\inB (gi p.tg j) 1 (Ad p.cs j).2.2.1=X):=q
  rcases q with ⟨q1,q2⟩ |⟨q1,q2,j,q3,q4⟩
  rotate_left
  ·exact yL
  rw [q1,show DQ (M p.tg) (λk=>inB (gi p.tg k) 1 (Ad p.cs k).2.2.1)=U from Dq.2 q2]
  refine ⟨λc=>EU,λ_=>⟨⟨E2,rfl,rfl⟩,?_⟩⟩
  obtain ⟨_,_,q⟩:=asG _ E2
  have q:(fJ (Qd p)=.exit 4/\_)\/(fJ (Qd p)=.ret/\(gC<|Qd p).r=X/\∃j:aD,(j:Y)<(M p.dr:Y)/\inB (gi p.dr j) (-200) 200=X):=q
  rcases q with ⟨q1,q2⟩ |⟨q1,q2,j,q3,q4⟩
  rotate_left
  ·exact yL
  rw [q1,show DQ (M p.dr) (λk=>inB (gi p.dr k) (-200) 200)=U from Dq.2 q2]
  refine ⟨λc=>EU,λ_=>⟨⟨E3,rfl,rfl⟩,?_⟩⟩
  obtain ⟨_,_,q⟩:=asF _ E3
  have q:(fq (T8 p)=.exit 6/\_)\/(fq (T8 p)=.ret/\(sq<|T8 p).r=X/\∃j:aD,(j:Y)<(M p.lk:Y)/\inB (Fu p.lk j).2.2.1 0 ((M p.gs:Y)-1)=X):=q
  rcases q with ⟨q1,q2⟩ |⟨q1,q2,j,q3,q4⟩
  rotate_left
  ·exact yL
  rw [q1,show DQ (M p.lk) (λk=>inB (Fu p.lk k).2.2.1 0<|(M p.gs:Y)-1)=U from Dq.2 q2]
  exact ⟨λc=>EU,λ_=>rfl⟩
 ·cases h)
def aUj:aE->T LV
 | [.xl (.int J) l]=> .req (M l<=100000000) (.ok<|.xl A7 l)
 |_=> .no
def Tc:aO:=[]
def aJo {α:Type}{l:List α}{d:α}{n:Y}(h:n=(M l:Y)):BG l (au n.toNat d)=l:=by
 unfold BG
 simp_all
def getD_mem {α:Type}{l:List α}{i:aD}{d:α}(h:i<M l):l.getD i d∈l:=by
 grind
def set_self {α:Type}{l:List α}{i:aD}{d:α}(h:i<M l):l.set i (l.getD i d)=l:=by
 simp_all
def aap:=vo (S:=aUj) func42 Tc kN (λargs lv h=>by
 unfold aUj at h;split at h
 ·rename_i l
  refine Au (letI a:=(M l:Y);letI b:=(BG l<|au a.toNat (0:Y));.rm 8 a<|.rc a (0:Y) (M l)<|.req (0+a.toNat<=M b)<|.ok<|.xl A7<|(b.drop 0).take a.toNat) ?_;obtain ⟨hl,rfl⟩:=h;rw [aJo rfl];refine ⟨A0,⟨AI,AI⟩,AI,?_⟩;rw [C0,CT,Ej];rfl
 ·cases h)
structure OD where
 (n i:Y)
 p1:aF
 p2:aR
 p3:aG
 p4:aS
 azF:Y
 aeL:aN
 (p8 p11:Y)
 ap5:aVK
 afv:bc
 asL:bz
 (TB afu:aC)
 (tP b11 b12 b13 b14:aW)
 avI:Y
 aeH:aN
 b17:aW
 b18:Y
 (b19 b110:aW)
 Vh:Y
 (aom avJ aq4 aon afi aq5 aE2 afh:aW)
 b2:aL
 b3:aM
 b4:aC
 b5:bx
 b6:bg
 b7:aM
 o:aVC
def aAn (s:OD):T (Rd OD):=letI a:=s.o.getD s.i.toNat<|Ty.dflt BC;.br (aq<|s.i<s.n) (.ik s.i (M s.o)<|.req (M a.1<=100000000)<|.ik s.i (M s.o)<|.rl s.b2<|.rl s.b3<|.rl s.b4<|.rl s.b5<|.rl s.b6<|.rl s.b7<|.re (M s.o) (s.o.set s.i.toNat a)<|.nx {s with i:=AA<|s.i+1,o:=s.o.set s.i.toNat a})<|.rl s.b2<|.rl s.b3<|.rl s.b4<|.rl s.b5<|.rl s.b6<|.rl s.b7<|.rl s.o<|.so (.exit 0) s
def kH (s:OD):Prop:=s.i=0/\s.n=(M s.o:Y)/\s.n<=1000/\∀m∈s.o,M m.1<=1000
def lM (s:OD):Prop:=0<=s.i/\s.i<=s.n/\s.n=(M s.o:Y)/\s.n<=1000/\∀m∈s.o,M m.1<=1000
def vH (s:OD):aD:=(s.n-s.i).toNat
def acd (x:Ex) (s s':OD):Prop:=True
def ane:∀s,kH s->lM s:=by
 exact aNX
def aip:Da lM vH acd aAn:=by
 intro s hI;obtain ⟨h0,h1,h2,h3,h4⟩:=hI;refine AH (λc1=>?_) λc1=>trivial
 ·have c1:s.i<s.n:=A8
  have e:=set_self (l:=s.o) (i:=s.i.toNat) (d:=Ty.dflt BC) A0
  rw [AJ (x:=s.i+1),e];exact ⟨⟨A8,A8,h2,h3,h4⟩,by simp only [vH];omega⟩
def HN:AS OD:=⟨0,82,[1,2,44,45],[],λs=>[.own 0 0,.own 1 0,s.n,s.i],λs=>[⟨[.os 2 11 0<|M s.b2,s.p1,s.p2,s.p3,s.p4,s.azF,s.aeL,.os 3 5 0<|M s.b3,s.p8,.os 4 1 0<|M s.b4,.os 5 2 0<|M s.b5,s.p11,.os 6 4 0<|M s.b6,.os 7 5 0<|M s.b7,.os 8 3 0<|M s.o,s.ap5,s.afv,s.asL,.xl A7 s.TB,.xl A7 s.afu],48,.cl,X⟩,⟨[.v<|s.tP,.v<|s.b11,.v<|s.b12,.v<|s.b13,.v<|s.b14,s.avI,s.aeH,.v<|s.b17,s.b18,.v<|s.b19,.v<|s.b110,s.Vh,.v<|s.aom,.v<|s.avJ,.v<|s.aq4,.v<|s.aon,.v<|s.afi,.v<|s.aq5,.v<|s.aE2,.v<|s.afh],48,.cl,X⟩,bV 81 Ae s.b2,bV 70 AO s.b3,bV 5 (.int ax) s.b4,bV 126 Aq s.b5,bV 91 B7 s.b6,bV 54 AO s.b7,bV 131 BC s.o],λv b=>⟨AL v 2,AL v 3,AF .str b 0 1,AF Ak b 0 2,AF Af b 0 3,AF Al b 0 4,Am b 0 5,cgB b 0 6,Am b 0 8,Am b 0 11,AF BU b 0 15,AF Ai b 0 16,AF BP b 0 17,AF A7 b 0 18,AF A7 b 0 19,HD<|BE (CX b 1) 0,HD<|BE (CX b 1) 1,HD<|BE (CX b 1) 2,HD<|BE (CX b 1) 3,HD<|BE (CX b 1) 4,Am b 1 5,cgB b 1 6,HD<|BE (CX b 1) 7,Am b 1 8,HD<|BE (CX b 1) 9,HD<|BE (CX b 1) 10,Am b 1 11,HD<|BE (CX b 1) 12,HD<|BE (CX b 1) 13,HD<|BE (CX b 1) 14,HD<|BE (CX b 1) 15,HD<|BE (CX b 1) 16,HD<|BE (CX b 1) 17,HD<|BE (CX b 1) 18,HD<|BE (CX b 1) 19,Ab Ae b 2,Ab AO b 3,Ab (.int ax) b 4,Ab Aq b 5,Ab B7 b 6,Ab AO b 7,Ab BC b 8⟩,aAn,λs r=> {s with i:=r.i,o:=r.o},λs=>s,λ_ s=>s,[.exit 0],kH,lM,vH⟩
abbrev aID:=HN.run
abbrev auU:=HN.Av
def ay9:Rq lM aAn:=by
 intro s hI;refine ⟨λc1=>⟨?_,?_,?_,?_,?_,A9,A9,A9,A9,A9,A9,?_,an⟩,λc1=>⟨A9,A9,A9,A9,A9,A9,A9,an⟩⟩
 all_goals ((obtain ⟨h0,h1,h2,h3,h4⟩:=hI;(try simp only [Aa] at c1);first|omega|exact ⟨rfl,AI⟩ |exact ⟨rfl,rfl⟩ |exact Hq (h4 _<|getD_mem A0) Ac))
def vf:aO:=[aap]
def ahh:Az:=kI vf<|l0 vf
def aRn:HN.Ok:={}
def aRQ:HN.Pf (acd):=⟨ane,λs h=>rfl,aip,ay9⟩
def Cv:=s1 (b:=bN f16 0) aRn aRQ vf ahh
def avn:Rs kH auU aID (λs:OD=>s.o) (λx s' (v:aVC)=>x=.exit 0/\s'.o=v):=DY aRn aRQ (λs hI=>by
  obtain ⟨h0,h1,h2,h3,h4⟩:=hI;refine AH (λc1=>?_) λc1=>⟨rfl,rfl⟩
  have c1:s.i<s.n:=A8
  have e:=set_self (l:=s.o) (i:=s.i.toNat) (d:=Ty.dflt BC) A0
  rw [e];exact rfl)
structure MY where
 p:PK
def UD (s:MY):aE:=[s.p]
def ZF (s:MY):aH:=[]
def eM (s:MY):OD:=(⟨(((M s.p.mi:Y).toNat:aD):Y),0,s.p.os,s.p.ks,s.p.gs,s.p.bs,s.p.tk,s.p.up,s.p.se,s.p.nx,s.p.me,s.p.dm,s.p.lk,s.p.dr,s.p.tg,.slice ak 0 0,.slice ak 0 0,.slice ak 0 0,.slice ak 0 0,.slice ak 0 0,0,X,.slice ak 0 0,0,.slice ak 0 0,.slice ak 0 0,0,.slice ak 0 0,.slice ak 0 0,.slice ak 0 0,.slice ak 0 0,.slice ak 0 0,.slice ak 0 0,.slice ak 0 0,.slice ak 0 0,BG s.p.cs<|au (M s.p.cs:Y).toNat (ByteArray.empty,((0:Y),((0:Y),((0:Y),(((0:Y),(0:Y)),((0:Y),((0:Y),((0:Y),((0:Y),(0:Y)))))))))),BG s.p.ls<|au (M s.p.ls:Y).toNat ((0:Y),((0:Y),((0:Y),((0:Y),(0:Y))))),BG s.p.fl<|au (M s.p.fl:Y).toNat (0:Y),BG s.p.ra<|au (M s.p.ra:Y).toNat ((0:Y),(0:Y)),BG s.p.st<|au (M s.p.st:Y).toNat ((0:Y),((0:Y),((0:Y),X))),BG s.p.ca<|au (M s.p.ca:Y).toNat ((0:Y),((0:Y),((0:Y),((0:Y),(0:Y))))),BG s.p.mi<|au (M s.p.mi:Y).toNat (([]:aC),((0:Y),(0:Y)))⟩:OD)
structure Xy where
 p:PK
 (n7 n8 n9 n10 n11:aD)
def adB (s:Xy):LV:=.agg [.os 0 11 0<|M s.p.cs,s.p.os,s.p.ks,s.p.gs,s.p.bs,s.p.tk,s.p.up,.os 1 5 0<|M s.p.ls,s.p.se,.os 2 1 0<|M s.p.fl,.os 3 2 0<|M s.p.ra,s.p.nx,.os 4 4 0<|M s.p.st,.os 5 5 0<|M s.p.ca,.os 6 3 0<|M s.p.mi,.os 7 3 0 s.n7,.os 8 4 0 s.n8,.os 9 6 0 s.n9,.os 10 1 0 s.n10,.os 11 1 0 s.n11]
def adQ (s:Xy):aH:=[bV 81 Ae s.p.cs,bV 70 AO s.p.ls,bV 5 (.int ax) s.p.fl,bV 126 Aq s.p.ra,bV 91 B7 s.p.st,bV 54 AO s.p.ca,bV 131 BC s.p.mi,bV 94 BU s.p.me,bV 56 Ai s.p.dm,bV 74 BP s.p.lk,bV 3 A7 s.p.dr,bV 3 A7 s.p.tg]
def j3 (s:MY):T Xy:=letI a:=(ByteArray.empty,((0:Y),((0:Y),((0:Y),(((0:Y),(0:Y)),((0:Y),((0:Y),((0:Y),((0:Y),(0:Y))))))))));letI f:=(M s.p.cs:Y);letI g:=(M s.p.fl:Y);letI h:=(M s.p.ls:Y);letI i:=(M s.p.ra:Y);letI j:=(M s.p.st:Y);letI k:=(M s.p.ca:Y);letI l:=(M s.p.mi:Y);letI m:=(M s.p.me:Y);letI n:=(M s.p.dm:Y);letI r:=(M s.p.lk:Y);letI t:=(M s.p.dr:Y);letI u:=(M s.p.tg:Y);letI v:=(BG s.p.fl<|au g.toNat (0:Y));letI w:=BG s.p.cs<|au f.toNat a;letI x:=(X,((0:Y),((0:Y),(0:Y))));letI b:=(BG s.p.ls<|au h.toNat ((0:Y),((0:Y),((0:Y),((0:Y),(0:Y))))));letI c:=(BG s.p.ca<|au k.toNat ((0:Y),((0:Y),((0:Y),((0:Y),(0:Y))))));letI d:=(BG s.p.st<|au j.toNat ((0:Y),((0:Y),((0:Y),X))));letI e:=(BG s.p.ra<|au i.toNat ((0:Y),(0:Y)));.rm 96 f<|.rc f a (M s.p.cs)<|.rm 40 h<|.rc h ((0:Y),((0:Y),((0:Y),((0:Y),(0:Y))))) (M s.p.ls)<|.rm 1 g<|.rc g (0:Y) (M s.p.fl)<|.rm 16 i<|.rc i ((0:Y),(0:Y)) (M s.p.ra)<|.rm 32 j<|.rc j ((0:Y),((0:Y),((0:Y),X))) (M s.p.st)<|.rm 40 k<|.rc k ((0:Y),((0:Y),((0:Y),((0:Y),(0:Y))))) (M s.p.ca)<|.rm 40 l<|.rc l (([]:aC),((0:Y),(0:Y))) (M s.p.mi)<|.re f.toNat w<|.re h.toNat b<|.re g.toNat v<|.re i.toNat e<|.re j.toNat d<|.re k.toNat c<|.re l.toNat (BG s.p.mi<|au l.toNat (([]:aC),((0:Y),(0:Y))))<|.req (HN.q<|eM s)<|.rm 24 m<|.rc m ((0:Y),((0:Y),X)) (M s.p.me)<|.rm 32 n<|.rc n x (M s.p.dm)<|.rm 48 r<|.rc r ((0:Y),((0:Y),((0:Y),((0:Y),((0:Y),(0:Y)))))) (M s.p.lk)<|.rm 8 t<|.rc t (0:Y) (M s.p.dr)<|.rm 8 u<|.rc u (0:Y) (M s.p.tg)<|.ok<|⟨⟨w,s.p.os,s.p.ks,s.p.gs,s.p.bs,s.p.tk,s.p.up,b,s.p.se,v,e,s.p.nx,d,c,(aID<|eM s).o,BG s.p.me<|au m.toNat ((0:Y),((0:Y),X)),BG s.p.dm<|au n.toNat x,BG s.p.lk<|au r.toNat ((0:Y),((0:Y),((0:Y),((0:Y),((0:Y),(0:Y)))))),BG s.p.dr<|au t.toNat (0:Y),BG s.p.tg<|au u.toNat (0:Y)⟩,m.toNat,n.toNat,r.toNat,t.toNat,u.toNat⟩
def Qo {α:Type}{l:List α}{d:α}:BG l (au (M l:Y).toNat d)=l:=aJo rfl
structure LB (p:PK):Prop where
 cs:M p.cs<=20000000
 ls:M p.ls<=20000000
 fl:M p.fl<=20000000
 ra:M p.ra<=20000000
 st:M p.st<=20000000
 ca:M p.ca<=20000000
 mi:M p.mi<=1000
 me:M p.me<=20000000
 dm:M p.dm<=20000000
 lk:M p.lk<=20000000
 dr:M p.dr<=20000000
 tg:M p.tg<=20000000
 mis:∀m∈p.mi,M m.1<=1000
def kE (s:MY):Prop:=LB s.p
def aaZ (s:MY):Xy:=⟨s.p,M s.p.me,M s.p.dm,M s.p.lk,M s.p.dr,M s.p.tg⟩
def mC:D4 MY Xy:=⟨UD,ZF,λv b=>⟨⟨Ao Ae<|ED (v.getD 0 .junk) 0,Ao .str<|ED (v.getD 0 .junk) 1,Ao Ak<|ED (v.getD 0 .junk) 2,Ao Af<|ED (v.getD 0 .junk) 3,Ao Al<|ED (v.getD 0 .junk) 4,gI<|ED (v.getD 0 .junk) 5,gBo<|ED (v.getD 0 .junk) 6,Ao AO<|ED (v.getD 0 .junk) 7,gI<|ED (v.getD 0 .junk) 8,Ao (.int ax)<|ED (v.getD 0 .junk) 9,Ao Aq<|ED (v.getD 0 .junk) 10,gI<|ED (v.getD 0 .junk) 11,Ao B7<|ED (v.getD 0 .junk) 12,Ao AO<|ED (v.getD 0 .junk) 13,Ao BC<|ED (v.getD 0 .junk) 14,Ao BU<|ED (v.getD 0 .junk) 15,Ao Ai<|ED (v.getD 0 .junk) 16,Ao BP<|ED (v.getD 0 .junk) 17,Ao A7<|ED (v.getD 0 .junk) 18,Ao A7<|ED (v.getD 0 .junk) 19⟩⟩,kE,[],[],adB,adQ,aaZ⟩
abbrev azy (s:MY):Prop:=kE s/\UD s=UD s/\ZF s=ZF s
def aTE:Az:=kI Tc<|la 9 func16 Cv<|l0 Tc
def aUx:DV:=CR 16 0 9 (HN.lp)<|EM prog AU Tc 20 2
def aqU:EZ prog AU aUx:=DL func16 rfl AX Cv<|Hz<|gk Tc
def agz (s:MY):((Em prog AU Tc aUx aTE).k 16 (UD s)<|ZF s).bind (λq=>GP (M<|ZF s) [0] [] .normal (q.1::UD s) q.2)=(j3 s).mp (λs2=>⟨.normal,M (UD s)+1,[adB s2],adQ s2,U⟩):=AX
def axL (s:MY) (hE:kE s):(j3 s).all (λq=>q=aaZ s):=by
 have ho:(eM s).o=s.p.mi:=Qo
 have hn:(eM s).n=(M s.p.mi:Y):=LY
 have hV:kH (eM s):=⟨rfl,A8,by rw [hn];have:=hE.mi;omega,by rw [ho];exact hE.mis⟩
 have hm:=(avn _ hV).2.trans Qo
 unfold j3;simp only [Qo,hm];obtain ⟨h1,h2,h3,h4,h5,h6,h7,h8,h9,h10,h11,h12,_⟩:=hE
 repeat (refine ⟨by first|omega|exact ⟨AI,AI⟩ |exact ⟨rfl,AI⟩ |exact ⟨hV,rfl,rfl⟩,?_⟩)
 rfl
def avS:Dk prog AU 16 mC.m:=D4.sound (D:=mC) (t:=j3) (gk Tc) aqU aTE.h agz λs hE=>⟨axL s hE⟩
def ahx:Dk prog AU 16 (Qy λa=>mC.m a []):=aHD avS
structure EW where
 (ek en em c1 c2 c3 c4 c5:Y)
 d1:aN
 (d2 d3 d4:Y)
instance:Coe EW Value:=⟨λe=> .agg #[ah J e.ek,ah J e.en,ah J e.em,ah J e.c1,ah J e.c2,ah J e.c3,ah J e.c4,ah J e.c5,.bool e.d1,ah J e.d2,ah J e.d3,ah J e.d4]⟩
instance:Coe EW LV:=⟨λe=> .v<|.agg #[ah J e.ek,ah J e.en,ah J e.em,ah J e.c1,ah J e.c2,ah J e.c3,ah J e.c4,ah J e.c5,.bool e.d1,ah J e.d2,ah J e.d3,ah J e.d4]⟩
def EW.c (e:EW):Ca:=(e.c1,e.c2,e.c3,e.c4,e.c5)
def EW.d (e:EW):Dm:=(e.d1,e.d2,e.d3,e.d4)
def EW.ev (e:EW):EV:=⟨e.ek,e.en,e.em,e.c,e.d⟩
def xE:LV->Option EW
 | .v (.agg ⟨[ah J ek,ah J en,ah J em,ah J c1,ah J c2,ah J c3,ah J c4,ah J c5,.bool d1,ah J d2,ah J d3,ah J d4]⟩)=>ai ⟨ek,en,em,c1,c2,c3,c4,c5,d1,d2,d3,d4⟩
 |_=>ak
def auj {x:LV}{ev:EW}(h:xE x=ai ev):x=(ev):=by
 unfold xE at h;exact yW
def zB:AB:=⟨[.v<|.slice ak 0 0,.v<|.slice ak 0 0,.v<|.slice ak 0 0,.v<|.slice ak 0 0,.v<|.slice ak 0 0,.v<|ah J 0,.v<|.bool X,.v<|.slice ak 0 0,.v<|ah J 0,.v<|.slice ak 0 0,.v<|.slice ak 0 0,.v<|ah J 0,.v<|.slice ak 0 0,.v<|.slice ak 0 0,.v<|.slice ak 0 0,.v<|.slice ak 0 0,.v<|.slice ak 0 0,.v<|.slice ak 0 0,.v<|.slice ak 0 0,.v<|.slice ak 0 0],48,.cl,X⟩
def eB (e:EW):AB:=⟨[.v<|ah J e.ek,.v<|ah J e.en,.v<|ah J e.em,.v<|ah J e.c1,.v<|ah J e.c2,.v<|ah J e.c3,.v<|ah J e.c4,.v<|ah J e.c5,.v<|.bool e.d1,.v<|ah J e.d2,.v<|ah J e.d3,.v<|ah J e.d4],68,.cl,X⟩
def rE (b:aH) (i q:aD):EW:=letI a:=CX b q;⟨gI<|BE a<|i+0,gI<|BE a<|i+1,gI<|BE a<|i+2,gI<|BE a<|i+3,gI<|BE a<|i+4,gI<|BE a<|i+5,gI<|BE a<|i+6,gI<|BE a<|i+7,gBo<|BE a<|i+8,gI<|BE a<|i+9,gI<|BE a<|i+10,gI<|BE a<|i+11⟩
def rG (b:aH):EW:=rE b 20 16
structure Lt where
 (i k0 k1 k2:Y)
 p:PK
 ev:EW
def Ud (s:Lt):aE:=[.own 16 0,s.i,.v<|.agg #[s.k0,s.k1,s.k2]]
def ZC (s:Lt):aH:=[AP,AP,zB,AP,bV 81 Ae s.p.cs,bV 70 AO s.p.ls,bV 5 (.int ax) s.p.fl,bV 126 Aq s.p.ra,bV 91 B7 s.p.st,bV 54 AO s.p.ca,bV 131 BC s.p.mi,bV 94 BU s.p.me,bV 56 Ai s.p.dm,bV 74 BP s.p.lk,bV 3 A7 s.p.dr,bV 3 A7 s.p.tg,⟨[.os 4 11 0<|M s.p.cs,.xl .str s.p.os,.xl Ak s.p.ks,.xl Af s.p.gs,.xl Al s.p.bs,.v<|ah J s.p.tk,.v<|.bool s.p.up,.os 5 5 0<|M s.p.ls,.v<|ah J s.p.se,.os 6 1 0<|M s.p.fl,.os 7 2 0<|M s.p.ra,.v<|ah J s.p.nx,.os 8 4 0<|M s.p.st,.os 9 5 0<|M s.p.ca,.os 10 3 0<|M s.p.mi,.os 11 3 0<|M s.p.me,.os 12 4 0<|M s.p.dm,.os 13 6 0<|M s.p.lk,.os 14 1 0<|M s.p.dr,.os 15 1 0<|M s.p.tg,.v<|ah J s.ev.ek,.v<|ah J s.ev.en,.v<|ah J s.ev.em,.v<|ah J s.ev.c1,.v<|ah J s.ev.c2,.v<|ah J s.ev.c3,.v<|ah J s.ev.c4,.v<|ah J s.ev.c5,.v<|.bool s.ev.d1,.v<|ah J s.ev.d2,.v<|ah J s.ev.d3,.v<|ah J s.ev.d4,.v<|.slice ak 0 0],103,.cl,X⟩]
structure Xv where
 res:Y
 p:PK
 ev:EW
def ad8 (s:Xv):LV:=.v<|ah J s.res
def acM (s:Xv):aH:=[AP,AP,zB,AP,bV 81 Ae s.p.cs,bV 70 AO s.p.ls,bV 5 (.int ax) s.p.fl,bV 126 Aq s.p.ra,bV 91 B7 s.p.st,bV 54 AO s.p.ca,bV 131 BC s.p.mi,bV 94 BU s.p.me,bV 56 Ai s.p.dm,bV 74 BP s.p.lk,bV 3 A7 s.p.dr,bV 3 A7 s.p.tg,⟨[.os 4 11 0<|M s.p.cs,.xl .str s.p.os,.xl Ak s.p.ks,.xl Af s.p.gs,.xl Al s.p.bs,.v<|ah J s.p.tk,.v<|.bool s.p.up,.os 5 5 0<|M s.p.ls,.v<|ah J s.p.se,.os 6 1 0<|M s.p.fl,.os 7 2 0<|M s.p.ra,.v<|ah J s.p.nx,.os 8 4 0<|M s.p.st,.os 9 5 0<|M s.p.ca,.os 10 3 0<|M s.p.mi,.os 11 3 0<|M s.p.me,.os 12 4 0<|M s.p.dm,.os 13 6 0<|M s.p.lk,.os 14 1 0<|M s.p.dr,.os 15 1 0<|M s.p.tg,.v<|ah J s.ev.ek,.v<|ah J s.ev.en,.v<|ah J s.ev.em,.v<|ah J s.ev.c1,.v<|ah J s.ev.c2,.v<|ah J s.ev.c3,.v<|ah J s.ev.c4,.v<|ah J s.ev.c5,.v<|.bool s.ev.d1,.v<|ah J s.ev.d2,.v<|ah J s.ev.d3,.v<|ah J s.ev.d4,.v<|.slice ak 0 0],103,.cl,X⟩]
def zu (s:Lt):T Xv:=letI c:=s.p.st.getD s.i.toNat<|Ty.dflt B7;letI d:=M s.p.st;letI a:=sE (AG s.p.gs s.i) c s.k0 s.k1 s.k2;letI b:=sN (AG s.p.gs s.i) c s.k0 s.k1 s.k2;.ix s.i (M s.p.gs)<|.ik s.i d<|.br (a==0) (.ik s.i d<|.pa s.p<|.re d (s.p.st.set s.i.toNat b)<|.rl s.p.ca<|.rl s.p.mi<|.rl s.p.me<|.rl s.p.dm<|.rl s.p.lk<|.rl s.p.dr<|.rl s.p.tg<|.ok<|⟨a,{s.p with st:=s.p.st.set s.i.toNat b},s.ev⟩)<|.pc s.p<|.ok<|⟨a,s.p,s.ev⟩
def aCl (s:Lt):Prop:=0<=s.i/\s.i<(M s.p.gs:Y)/\M s.p.st=M s.p.gs
def je (s:Lt):Xv:=⟨sE (AG s.p.gs s.i) (BL s.p.st s.i) s.k0 s.k1 s.k2,{s.p with st:=CU s.p.gs s.p.st s.i s.k0 s.k1 s.k2},s.ev⟩
def aD5:D4 Lt Xv:=⟨Ud,ZC,λv b=>⟨AL v 1,gI<|ED (v.getD 2 .junk) 0,gI<|ED (v.getD 2 .junk) 1,gI<|ED (v.getD 2 .junk) 2,rF b,rG b⟩,aCl,[0,1,3],[],ad8,acM,je⟩
abbrev wS (s:Lt):Prop:=aCl s/\Ud s=Ud s/\ZC s=ZC s
def iH:aO:=[R6]
def aUu:DV:=CR 16 0 9 (HN.lp)<|EM prog AU (iH) 20 2
def aqR:EZ prog AU aUu:=DL func16 rfl AX Cv<|Hz<|gk iH
def agv (s:Lt):((Em prog AU iH aUu EN).k 56 (Ud s)<|ZC s).bind (λq=>GP (M<|ZC s) [0] [] .normal (q.1::Ud s) q.2)=(zu s).mp (λs2=>⟨.normal,M (Ud s)+1,[ad8 s2],acM s2,U⟩):=AX
def axy (s:Lt) (hE:aCl s):(zu s).all (λq=>q=je s):=by
 obtain ⟨h0,h1,h2⟩:=hE;refine ⟨A0,A0,A0,λc=>?_,λc=>?_⟩
 ·have c:=eq_of_beq c
  have hg:CU s.p.gs s.p.st s.i s.k0 s.k1 s.k2=_:=AD c
  repeat (refine ⟨A8,?_⟩)
  unfold je;rw [hg];rfl
 ·have c:=CV.1 c
  have hg:CU s.p.gs s.p.st s.i s.k0 s.k1 s.k2=s.p.st:=AE c
  repeat (refine ⟨AI,?_⟩)
  unfold je;rw [hg];rfl
def aiU:Dk prog AU 56 aD5.m:=D4.sound (D:=aD5) (t:=zu) (gk iH) aqR Qa agv λs hE=>⟨axy s hE⟩
structure Mj where
 (n i:Y)
 p:PK
 ev:EW
 left:bz
def aAM (s:Mj):T (Rd Mj):=letI a:=s.p.lk.getD s.i.toNat<|Ty.dflt BP;.br (aq<|s.i<s.n) (.ik s.i (M s.p.lk)<|.br (a.2.2.1 !=s.ev.en) (.rb (M s.left) (M<|[a]) 48<|.re (M s.left+M ([a])) (s.left++([a]))<|.rl s.p.lk<|.pc s.p<|.nx {s with i:=AA<|s.i+1,left:=s.left++([a])})<|.rl s.left<|.rl s.p.lk<|.pc s.p<|.nx {s with i:=AA<|s.i+1})<|.rl s.left<|.rl s.p.lk<|.pc s.p<|.so (.exit 0) s
def kg (s:Mj):Prop:=s.i=0/\s.n=(M s.p.lk:Y)/\s.n<=20000000/\(M s.left:Y)<=s.i
def lG (s:Mj):Prop:=0<=s.i/\s.i<=s.n/\s.n=(M s.p.lk:Y)/\s.n<=20000000/\(M s.left:Y)<=s.i
def gR (s:Mj):aD:=(s.n-s.i).toNat
def acR (x:Ex) (s s':Mj):Prop:=True
def ald:∀s,kg s->lG s:=by
 rintro s ⟨h0,h2,h3,h4⟩
 exact ya
def agU:Da lG gR acR aAM:=by
 intro s hI;obtain ⟨h0,h1,h2,h3,h4⟩:=hI;refine AH (λc1=>AH (λc2=>?_) λc2=>?_) λc1=>trivial
 all_goals have c1:s.i<s.n:=AY
 all_goals rw [AJ (x:=s.i+1)]
 ·exact ⟨⟨AZ,AZ,h2,h3,A8⟩,by simp only [gR];omega⟩
 ·exact ⟨⟨A8,A8,h2,h3,AZ⟩,by simp only [gR];omega⟩
def Kw:AS Mj:=⟨18,30,[0,1,4,11,12,13],[.nl 4 74 BP],λs=>[.own 16 0,.fn 58 [.own 17 0],.os 18 6 0<|M s.left,.os 13 6 0<|M s.p.lk,s.n,s.i],λs=>[AP,AP,zB,AP,bV 81 Ae s.p.cs,bV 70 AO s.p.ls,bV 5 (.int ax) s.p.fl,bV 126 Aq s.p.ra,bV 91 B7 s.p.st,bV 54 AO s.p.ca,bV 131 BC s.p.mi,bV 94 BU s.p.me,bV 56 Ai s.p.dm,bV 74 BP s.p.lk,bV 3 A7 s.p.dr,bV 3 A7 s.p.tg,⟨[.os 4 11 0<|M s.p.cs,.xl .str s.p.os,.xl Ak s.p.ks,.xl Af s.p.gs,.xl Al s.p.bs,.v<|ah J s.p.tk,.v<|.bool s.p.up,.os 5 5 0<|M s.p.ls,.v<|ah J s.p.se,.os 6 1 0<|M s.p.fl,.os 7 2 0<|M s.p.ra,.v<|ah J s.p.nx,.os 8 4 0<|M s.p.st,.os 9 5 0<|M s.p.ca,.os 10 3 0<|M s.p.mi,.os 11 3 0<|M s.p.me,.os 12 4 0<|M s.p.dm,.os 13 6 0<|M s.p.lk,.os 14 1 0<|M s.p.dr,.os 15 1 0<|M s.p.tg,.v<|ah J s.ev.ek,.v<|ah J s.ev.en,.v<|ah J s.ev.em,.v<|ah J s.ev.c1,.v<|ah J s.ev.c2,.v<|ah J s.ev.c3,.v<|ah J s.ev.c4,.v<|ah J s.ev.c5,.v<|.bool s.ev.d1,.v<|ah J s.ev.d2,.v<|ah J s.ev.d3,.v<|ah J s.ev.d4,.v<|.slice ak 0 0],103,.cl,X⟩,⟨[.own 16 0],99,.cl,X⟩,bV 74 BP s.left],λv b=>⟨AL v 4,AL v 5,rF b,rG b,Ab BP b 18⟩,aAM,λs r=> {s with i:=r.i,left:=r.left},λs=>s,λ_ s=>s,[.exit 0],kg,lG,gR⟩
abbrev aEM:=Kw.run
abbrev auL:=Kw.Av
def ve:aO:=[U4]
def ahf:Az:=kI ve<|la 9 func16 Cv<|l0 ve
def ayT:Rq lG aAM:=by
 intro s hI;refine ⟨λc1=>⟨?_,?_,λc2=>⟨?_,?_,A9,A9,A9,A9,A9,A9,A9,A9,A9,A9,A9,A9,A9,an⟩,λc2=>⟨A9,A9,A9,A9,A9,A9,A9,A9,A9,A9,A9,A9,A9,A9,an⟩⟩,λc1=>⟨A9,A9,A9,A9,A9,A9,A9,A9,A9,A9,A9,A9,A9,A9,an⟩⟩
 all_goals ((obtain ⟨h0,h1,h2,h3,h4⟩:=hI;(try simp only [Aa] at c1);first|omega|exact ⟨rfl,rfl⟩ |(simp only [BY,Bh,B8];omega) |(simp only [B8,BY,Bh,Dw];done)))
def aSK:Kw.Ok:={}
def aQM:Kw.Pf (acR):=⟨ald,λs h=>rfl,agU,ayT⟩
def KY:=s2 (b:=bN f57 0) aSK aQM ve ahf
def apl {l:bz}{i:Y}(h0:0<=i) (h:i<M l):l.drop i.toNat=l.getD i.toNat (Ty.dflt BP)::l.drop (i+1).toNat:=by
 rw [SY A0,DK,Dg A0,show (i+1).toNat=i.toNat+1 by omega]
 rfl
def atW:Rs kg auL aEM (λs:Mj=>s.left++(s.p.lk.drop s.i.toNat).filter (λl=>l.2.2.1 !=s.ev.en)) (λx s' (v:bz)=>x=.exit 0/\s'.left=v):=DY aSK aQM (λs hI=>by
  obtain ⟨h0,h1,h2,h3,h4⟩:=hI;refine AH (λc1=>?_) λc1=>?_
  ·have c1:s.i<s.n:=A8
   rw [AJ (x:=s.i+1),apl h0 A0];refine AH (λc2=>?_) λc2=>?_
   ·show _++[_]++_=_++_
    rw [LP,AD c2,Co];rfl
   ·show _++_=_++_
    grind
  ·have c1:s.n<=s.i:=A8
   refine ⟨rfl,?_⟩;rw [Ei A0]
   simp)
structure VP (p:PK):Prop where
 site:BB p.cs p.os p.ks p.gs p.bs=U
 tk:0<=p.tk/\p.tk<=1000000
 st:M p.st=M p.gs
 ca:M p.ca=M p.gs
 mi:M p.mi=M p.gs
 me:M p.me=M p.gs
 dm:M p.dm=M p.gs
 dr:M p.dr=M p.gs
 Es:M p.tg=M p.cs
 tg:∀k:aD,k<M p.tg->1<=gi p.tg k/\gi p.tg k<=(Ad p.cs k).2.2.1
 dr8:p.dr.all (λx=>inB x (-200) 200)=U
 lk:∀l∈p.lk,0<=l.2.2.1/\l.2.2.1<(M p.gs:Y)
def W2 {p:PK}:Er p=U↔VP p:=by
 unfold Er;simp only [AV,Aa,BO,Dq]
 constructor
 ·rintro ⟨⟨h1,h2⟩,⟨h3,h4,h5,h6,h7,h8⟩,h9,h10,h11,h12⟩
  exact ⟨h1,h2,h3,h4,h5,h6,h7,h8,h9,λk hk=>h10 k A0,h11,λl hl=>by have:=BH.1 h12 l hl;rw [BO] at this;omega⟩
 ·intro h
  refine ⟨⟨h.site,h.tk⟩,⟨h.st,h.ca,h.mi,h.me,h.dm,h.dr⟩,h.Es,λk hk=>h.tg k A0,h.dr8,BH.2 λl hl=>BO.2 ?_⟩
  have:=h.lk l hl
  omega
def JC {gs:aG}{st:bg}{i k n m:Y}:M (CU gs st i k n m)=M st:=by
 unfold CU
 grind
def s8 {gs:aG}{lk:bz}{t:Y}{st:bg}:∀k,M (LH gs lk t st k)=M st
 |0=>rfl
 |k+1=>by
  unfold LH;split
  ·exact s8 k
  ·rw [JC];exact s8 k
def aG7 {gs:aG}{st:bg}{i:Y}:∀k,M (L7 gs st i k)=M st
 |0=>rfl
 |k+1=>by unfold L7;rw [JC];exact aG7 k
def rP {gs:aG}{dr:aC}{t:Y}{st:bg}:∀k,M (JT gs dr t st k)=M st
 |0=>rfl
 |k+1=>by
  unfold JT;split
  ·rw [aG7];exact rP k
  ·exact rP k
def auH {gs:aG}{ca:aVx}{s:DW}{i:Y}:letI a:=Fe gs ca s i;M a.st=M s.st/\M a.mi=M s.mi/\M a.me=M s.me/\M a.dw=M s.dw:=by
 unfold Fe;split
 ·grind
 ·split
  ·refine ⟨?_,AI,?_,AI⟩
   ·simp only;split
    ·exact JC
    ·rfl
   ·grind
  ·grind
def fG {gs:aG}{ca:aVx}{s:DW}:∀k,M (DR gs ca s k).st=M s.st/\M (DR gs ca s k).mi=M s.mi/\M (DR gs ca s k).me=M s.me/\M (DR gs ca s k).dw=M s.dw
 |0=>⟨rfl,rfl,rfl,rfl⟩
 |k+1=>by
  obtain ⟨h1,h2,h3,h4⟩:=fG (gs:=gs) (ca:=ca) (s:=s) k;obtain ⟨g1,g2,g3,g4⟩:=auH (gs:=gs) (ca:=ca) (s:=DR gs ca s k) (i:=(k:Y));unfold DR
  grind
def iC {cs:aL}{os:aF}{ks:aR}{gs:aG}{bs:aS}(h:BB cs os ks gs bs=U) {k:aD}(hk:k<M cs):1<=(Ad cs k).2.2.1/\(Ad cs k).2.2.1<=1000:=by
 have:=qt h (c:=(k:Y)) A0 A0
 unfold IC at this;simp only [AV,BO] at this
 grind
def TA {gs:aG}{tg am:aC}{cs:aL}:∀n,M (Cl gs tg am cs n)=M cs
 |0=>rfl
 | n+1=>by
  unfold Cl;split
  ·exact TA n
  ·split
   ·rw [C5];exact TA n
   ·exact TA n
def fV {gs:aG}{tg am:aC}{cs:aL}:∀n,n<=M cs->∀j:aD,(Ad (Cl gs tg am cs n) j=Ad cs j\/(j<n/\gi tg j<(Ad cs j).2.2.1/\Ad (Cl gs tg am cs n) j=GW (Ad cs j) (gi tg j)))/\(n<=j->Ad (Cl gs tg am cs n) j=Ad cs j)
 |0,_,j=>⟨.inl rfl,λ_=>rfl⟩
 | n +1,hn,j=>by
  obtain ⟨h1,h2⟩:=fV (gs:=gs) (tg:=tg) (am:=am) (cs:=cs) n A0 j
  have hl:n<M (Cl gs tg am cs n):=by rw [TA];omega
  unfold Cl;split
  ·grind
  ·rename_i hlt
   split
   ·rw [WT hl]
    by_cases e:j=n
    ·subst e
     grind
    ·rw [AE e]
     grind
   ·grind
def pw {gs:aG}{tg am:aC}{cs:aL}{os:aF}{ks:aR}{bs:aS}(h:BB cs os ks gs bs=U) (ht:∀k:aD,k<M cs->1<=gi tg k/\gi tg k<=1000):∀n,n<=M cs->BB (Cl gs tg am cs n) os ks gs bs=U
 |0,_=>h
 | n+1,hn=>by
  have h1:=pw (am:=am) h ht n A0
  unfold Cl;split
  ·exact h1
  ·split
   ·exact dg h1 (by rw [TA];omega)<|ht n A0
   ·exact h1
def NP {cs:aL}{tg:aC}:∀n,M (Dz cs tg n)=M cs
 |0=>rfl
 |n+1=>by unfold Dz;rw [C5];exact NP n
def qG {tg:aC}{cs:aL}{os:aF}{ks:aR}{gs:aG}{bs:aS}(h:BB cs os ks gs bs=U) (ht:∀k:aD,k<M cs->1<=gi tg k/\gi tg k<=1000):∀n,n<=M cs->BB (Dz cs tg n) os ks gs bs=U
 |0,_=>h
 |n+1,hn=>by
  exact dg (qG h ht n A0) (by rw [NP];omega)<|ht n A0
def aBr {p:PK}:∀x∈p.dL,0<=x.2.1/\x.2.1<(M p.gs:Y):=by
 intro x hx;unfold PK.dL deL at hx;split at hx
 ·obtain ⟨k,hk,rfl⟩:=Hr.1 hx
  have:=(iA (gs:=p.gs) (l:=Dv p.ls p.tk) (t:=p.tk) (n:=p.nx) (am:=FD p.gs p.ra (HU p.EA p.os p.ks p.gs p.bs (Dv p.ls p.tk) p.dm p.tk)<|M p.gs)<|Ar _).1.at_ (k:Y) A0 A0
  rw [Md A8] at this
  grind
 ·cases hx
def asl {t:Y}{s:SN}{x:Le}:(F9 t s x).lk=s.lk\/(F9 t s x).lk=s.lk++[Th t x]:=by
 unfold F9;exact bL
def fy {t:Y}{xs:aM}{s:SN}:∀n,n<=M xs->(∀l∈(EL t xs s n).lk,l∈s.lk\/∃x∈xs,l=Th t x)/\M (EL t xs s n).lk<=M s.lk+n
 |0,_=>⟨λl hl=> .inl hl,Ar _⟩
 | n+1,hn=>by
  obtain ⟨h1,h2⟩:=fy (t:=t) (xs:=xs) (s:=s) n A0;unfold EL;rcases asl (t:=t) (s:=EL t xs s n) (x:=An xs n) with e|e<;>rw [e]
  ·grind
  ·refine ⟨λl hl=>?_,A8⟩
   rw [BZ,HJ] at hl;rcases hl with hl|rfl
   ·grind
   ·exact .inr ⟨_,Li A0 A0,rfl⟩
def avv {p:PK}(h:∀l∈p.lk,0<=l.2.2.1/\l.2.2.1<(M p.gs:Y)):∀l∈p.AK.lk,0<=l.2.2.1/\l.2.2.1<(M p.gs:Y):=by
 unfold PK.AK;split
 ·exact h
 ·split
  ·exact h
  ·intro l hl
   rcases (fy (t:=p.tk) (xs:=p.dL) (s:=p.GA) _<|Ar _).1 l hl with e|⟨x,hx,rfl⟩
   ·exact h l e
   ·exact aBr x hx
def IV (p:PK):p.AK.cs=p.cs/\p.AK.os=p.os/\p.AK.ks=p.ks/\p.AK.gs=p.gs/\p.AK.bs=p.bs/\p.AK.tk=p.tk/\p.AK.up=p.up/\p.AK.st=p.st/\p.AK.ca=p.ca/\p.AK.mi=p.mi/\p.AK.me=p.me/\p.AK.dm=p.dm/\p.AK.dr=p.dr/\p.AK.tg=p.tg:=by
 unfold PK.AK;exact bL
def VP.dec {p:PK}(h:VP p):VP p.AK:=by
 obtain ⟨e1,e2,e3,e4,e5,e6,e7,e8,e9,e10,e11,e12,e13,e14⟩:=IV p;refine ⟨?_,?_,?_,?_,?_,?_,?_,?_,?_,?_,?_,?_⟩
 ·rw [e1,e2,e3,e4,e5];exact h.site
 ·rw [e6];exact h.tk
 ·rw [e8,e4];exact h.st
 ·rw [e9,e4];exact h.ca
 ·rw [e10,e4];exact h.mi
 ·rw [e11,e4];exact h.me
 ·rw [e12,e4];exact h.dm
 ·rw [e13,e4];exact h.dr
 ·rw [e14,e1];exact h.Es
 ·rw [e14,e1];exact h.tg
 ·rw [e13];exact h.dr8
 ·rw [e4];exact avv h.lk
def VP.arr {p:PK}(h:VP p):VP p.L2:={h with st:=(s8 _).trans h.st,lk:=λl hl=>h.lk l<|(Ce.1 hl).1}
def VP.cnt {p:PK}(h:VP p):VP p.cZ:={h with st:=(rP _).trans h.st}
def VP.drw {p:PK}(h:VP p):VP p.BX:=
 have hl:=fG (gs:=p.gs) (ca:=p.ca) (s:=⟨p.st,p.mi,p.me,au (M p.gs) 0⟩)<|M p.gs
 {h with st:=hl.1.trans h.st,mi:=hl.2.1.trans h.mi,me:=hl.2.2.1.trans h.me}
def VP.tg1 {p:PK}(h:VP p):∀k:aD,k<M p.cs->1<=gi p.tg k/\gi p.tg k<=1000:=λk hk=>by
 have:=h.tg k (by rw [h.Es];omega)
 have:=iC h.site hk
 omega
def VP.rst {p:PK}(h:VP p):VP p.K5:=by
 have hs:BB p.K5.cs p.os p.ks p.gs p.bs=true:=by
  unfold PK.K5;split
  ·exact h.site
  ·rw [h.Es];exact pw h.site h.tg1 _<|Ar _
 have hl:M p.K5.cs=M p.cs:=by
  unfold PK.K5;split
  ·rfl
  ·exact TA _
 refine {h with site:=hs,Es:=h.Es.trans hl.symm,tg:=λk hk=>?_}
 have ht:=h.tg k hk
 refine ⟨ht.1,?_⟩;unfold PK.K5;split
 ·exact ht.2
 ·rcases (fV (gs:=p.gs) (tg:=p.tg) (am:=p.Jj) (cs:=p.cs) (M p.tg) (by rw [h.Es];omega) k).1 with e|⟨_,_,e⟩<;>rw [e]
  ·exact ht.2
  ·exact Cz _
def VP.tick {p:PK}(h:VP p) (ht:p.tk≠1000000):VP p.BM:=by
 have h5:=h.dec.arr.cnt.drw.rst
 have et:p.Ag.BX.K5.tk=p.tk:=(IV p).2.2.2.2.2.1
 have:=h.tk
 exact {h5 with tk:=by show 0<=p.Ag.BX.K5.tk+1/\p.Ag.BX.K5.tk+1<=1000000;omega}
def aft {p:PK}{n:Y}:M (p.aBG n)=M p.st:=by
 unfold PK.aBG;rw [JC,JC,JC,JC]
def VP.step {p:PK}(h:VP p) {e:EV}(he:Bk p e=0):VP (BA p e):=by
 unfold BA;rw [AE A0];unfold Bk at he;rw [AE (by rw [W2.2 h];decide)] at he
 split
 ·rename_i h1
  rw [AD h1] at he;unfold PK.Ic at he;exact h.tick λhh=>aPE
 rename_i h1;rw [AE h1] at he;split
 ·exact {h with ca:=by simp only [PK.Nt,C5];exact h.ca,mi:=by simp only [PK.Nt,C5];exact h.mi,dm:=by simp only [PK.Nt,C5];exact h.dm,st:=aft.trans h.st}
 rename_i h2;rw [AE h2] at he;split
 ·exact {h with ca:=by simp only [PK.Q0,C5];exact h.ca,mi:=by simp only [PK.Q0,C5];exact h.mi,dm:=by simp only [PK.Q0,C5];exact h.dm,st:=by simp only [PK.Q0,JC];exact h.st}
 rename_i h3;rw [AE h3] at he;split
 ·exact {h with lk:=λl hl=>h.lk l<|(Ce.1 hl).1}
 rename_i h4;rw [AE h4] at he;split
 ·exact {h with}
 rename_i h5;rw [AE h5] at he;split
 ·exact {h with}
 rename_i h6;rw [AE h6] at he;split
 ·exact {h with st:=JC.trans h.st}
 rename_i h7;rw [AE h7] at he;split at he
 ·unfold PK.I7 at he
  split at he
  ·cases he
  ·rename_i hb
   simp only [Cc,D6,not_or,Sd,BO] at hb;obtain ⟨⟨n0,n1⟩,m0,m1⟩:=hb;refine {h with Es:=by simp only [PK.LF,C5];exact h.Es,tg:=λk hk=>?_}
   have hk':k<M p.tg:=by simpa only [PK.LF,C5] using hk
   have ht:=h.tg k hk'
   show 1<=gi (p.tg.set e.en.toNat e.em) k/\gi (p.tg.set e.en.toNat e.em) k<=(Ad p.cs k).2.2.1
   unfold gi at ht|-;rw [DK,IT]
   by_cases ek:e.en.toNat=(k:Y).toNat
   ·rw [AD ek,AD (by rw [C0] at ek;omega)]
    rw [C0] at ek
    have:e.en=(k:Y):=A0
    rw [<-this];exact ⟨m0,m1⟩
   ·rw [AE ek,<-DK]
    exact ht
 ·cases he
def Jk (e:Y) (a b:PK):PK:=if e=0 then a else b
def Lm {e:Y}{a b:PK}(h:e=0):Jk e a b=a:=AD h
def Ju {e:Y}{a b:PK}(h:e≠0):Jk e a b=b:=AE h
def TT {α:Type}(l:List α):(l.drop 0).take (M l)=l:=AI
def ff {l:aG}(h:M l<=1000):AA ((M l:Y)-1)=(M l:Y)-1:=AJ
structure O9 where
 p:PK
 ev:EW
def Ua (s:O9):aE:=[.own 16 0]
def Z9 (s:O9):aH:=[AP,AP,zB,AP,bV 81 Ae s.p.cs,bV 70 AO s.p.ls,bV 5 (.int ax) s.p.fl,bV 126 Aq s.p.ra,bV 91 B7 s.p.st,bV 54 AO s.p.ca,bV 131 BC s.p.mi,bV 94 BU s.p.me,bV 56 Ai s.p.dm,bV 74 BP s.p.lk,bV 3 A7 s.p.dr,bV 3 A7 s.p.tg,⟨[.os 4 11 0<|M s.p.cs,.xl .str s.p.os,.xl Ak s.p.ks,.xl Af s.p.gs,.xl Al s.p.bs,.v<|ah J s.p.tk,.v<|.bool s.p.up,.os 5 5 0<|M s.p.ls,.v<|ah J s.p.se,.os 6 1 0<|M s.p.fl,.os 7 2 0<|M s.p.ra,.v<|ah J s.p.nx,.os 8 4 0<|M s.p.st,.os 9 5 0<|M s.p.ca,.os 10 3 0<|M s.p.mi,.os 11 3 0<|M s.p.me,.os 12 4 0<|M s.p.dm,.os 13 6 0<|M s.p.lk,.os 14 1 0<|M s.p.dr,.os 15 1 0<|M s.p.tg,.v<|ah J s.ev.ek,.v<|ah J s.ev.en,.v<|ah J s.ev.em,.v<|ah J s.ev.c1,.v<|ah J s.ev.c2,.v<|ah J s.ev.c3,.v<|ah J s.ev.c4,.v<|ah J s.ev.c5,.v<|.bool s.ev.d1,.v<|ah J s.ev.d2,.v<|ah J s.ev.d3,.v<|ah J s.ev.d4,.v<|.slice ak 0 0],103,.cl,X⟩]
structure YA where
 res:Y
 p:PK
 ev:EW
def ad5 (s:YA):LV:=.v<|ah J s.res
def acJ (s:YA):aH:=[AP,AP,zB,AP,bV 81 Ae s.p.cs,AP,bV 5 (.int ax) s.p.fl,bV 126 Aq s.p.ra,bV 91 B7 s.p.st,bV 54 AO s.p.ca,bV 131 BC s.p.mi,bV 94 BU s.p.me,bV 56 Ai s.p.dm,bV 74 BP s.p.lk,bV 3 A7 s.p.dr,bV 3 A7 s.p.tg,⟨[.os 4 11 0<|M s.p.cs,.xl .str s.p.os,.xl Ak s.p.ks,.xl Af s.p.gs,.xl Al s.p.bs,.v<|ah J s.p.tk,.v<|.bool s.p.up,.xl AO s.p.ls,.v<|ah J s.p.se,.os 6 1 0<|M s.p.fl,.os 7 2 0<|M s.p.ra,.v<|ah J s.p.nx,.os 8 4 0<|M s.p.st,.os 9 5 0<|M s.p.ca,.os 10 3 0<|M s.p.mi,.os 11 3 0<|M s.p.me,.os 12 4 0<|M s.p.dm,.os 13 6 0<|M s.p.lk,.os 14 1 0<|M s.p.dr,.os 15 1 0<|M s.p.tg,.v<|ah J s.ev.ek,.v<|ah J s.ev.en,.v<|ah J s.ev.em,.v<|ah J s.ev.c1,.v<|ah J s.ev.c2,.v<|ah J s.ev.c3,.v<|ah J s.ev.c4,.v<|ah J s.ev.c5,.v<|.bool s.ev.d1,.v<|ah J s.ev.d2,.v<|ah J s.ev.d3,.v<|ah J s.ev.d4,.v<|.slice ak 0 0],103,.cl,X⟩]
def aAT (s:O9):T YA:=
 .br (!s.p.up) (.rz s.p.ls<|.rl s.p.cs<|.rl s.p.fl<|.rl s.p.ra<|.pb s.p<|.ok<|⟨6,{s.p with ls:=(s.p.ls.drop 0).take<|M s.p.ls},s.ev⟩) (.rl s.p.cs<|.rl s.p.fl<|.rl s.p.ra<|.pb s.p<|.ok<|⟨0,{s.p with up:=X,ls:=([]:aM)},s.ev⟩)
def aCi (s:O9):Prop:=True
def jd (s:O9):YA:=⟨PK.Nx s.p,Jk (PK.Nx s.p) (PK.Tx s.p) s.p,s.ev⟩
def aD3:D4 O9 YA:=⟨Ua,Z9,λv b=>⟨rF b,rG b⟩,aCi,[0,1,3],[.pc 16 7 AO,.kb 5],ad5,acJ,jd⟩
abbrev aj2 (s:O9):Prop:=aCi s/\Ua s=Ua s/\Z9 s=Z9 s
def iG:aO:=[]
def aVg:DV:=CR 57 18 2 (Kw.lp)<|CR 16 0 9 (HN.lp)<|EM prog AU (iG) 20 2
def aqO:EZ prog AU aVg:=DL func57 rfl AX KY<|DL func16 rfl AX Cv<|Hz<|gk iG
def agr (s:O9):((Em prog AU iG aVg EN).k 22 (Ua s)<|Z9 s).bind (λq=>GP (M<|Z9 s) [0] [.pc 16 7 AO,.kb 5] .normal (q.1::Ua s) q.2)=(aAT s).mp (λs2=>⟨.normal,M (Ua s)+1,[ad5 s2],acJ s2,U⟩):=AX
def axv (s:O9) (hE:aCi s):(aAT s).all (λq=>q=jd s):=by
 refine ⟨λc=>⟨A0,?_⟩,λc=>?_⟩
 ·have c:s.p.up=false:=A8
  have he:s.p.Nx=6:=AD c
  rw [TT]
  repeat (refine ⟨AI,?_⟩)
  show _=_
  unfold jd;rw [Ju A8];rw [he]
 ·have c:s.p.up=true:=A8
  have he:s.p.Nx=0:=AE A8
  repeat (refine ⟨AI,?_⟩)
  unfold jd;rw [he];rfl
def aiS:Dk prog AU 22 aD3.m:=D4.sound (D:=aD3) (t:=aAT) (gk iG) aqO Qa agr λs hE=>⟨axv s hE⟩
structure No where
 p:PK
 ev:EW
def UT (s:No):aE:=[.own 16 0]
def ZX (s:No):aH:=[AP,AP,zB,AP,bV 81 Ae s.p.cs,bV 70 AO s.p.ls,bV 5 (.int ax) s.p.fl,bV 126 Aq s.p.ra,bV 91 B7 s.p.st,bV 54 AO s.p.ca,bV 131 BC s.p.mi,bV 94 BU s.p.me,bV 56 Ai s.p.dm,bV 74 BP s.p.lk,bV 3 A7 s.p.dr,bV 3 A7 s.p.tg,⟨[.os 4 11 0<|M s.p.cs,.xl .str s.p.os,.xl Ak s.p.ks,.xl Af s.p.gs,.xl Al s.p.bs,.v<|ah J s.p.tk,.v<|.bool s.p.up,.os 5 5 0<|M s.p.ls,.v<|ah J s.p.se,.os 6 1 0<|M s.p.fl,.os 7 2 0<|M s.p.ra,.v<|ah J s.p.nx,.os 8 4 0<|M s.p.st,.os 9 5 0<|M s.p.ca,.os 10 3 0<|M s.p.mi,.os 11 3 0<|M s.p.me,.os 12 4 0<|M s.p.dm,.os 13 6 0<|M s.p.lk,.os 14 1 0<|M s.p.dr,.os 15 1 0<|M s.p.tg,.v<|ah J s.ev.ek,.v<|ah J s.ev.en,.v<|ah J s.ev.em,.v<|ah J s.ev.c1,.v<|ah J s.ev.c2,.v<|ah J s.ev.c3,.v<|ah J s.ev.c4,.v<|ah J s.ev.c5,.v<|.bool s.ev.d1,.v<|ah J s.ev.d2,.v<|ah J s.ev.d3,.v<|ah J s.ev.d4,.v<|.slice ak 0 0],103,.cl,X⟩]
structure Y4 where
 res:Y
 p:PK
 ev:EW
def acy (s:Y4):LV:=.v<|ah J s.res
def acu (s:Y4):aH:=[AP,AP,zB,AP,bV 81 Ae s.p.cs,bV 70 AO s.p.ls,bV 5 (.int ax) s.p.fl,bV 126 Aq s.p.ra,bV 91 B7 s.p.st,bV 54 AO s.p.ca,bV 131 BC s.p.mi,bV 94 BU s.p.me,bV 56 Ai s.p.dm,bV 74 BP s.p.lk,bV 3 A7 s.p.dr,bV 3 A7 s.p.tg,⟨[.os 4 11 0<|M s.p.cs,.xl .str s.p.os,.xl Ak s.p.ks,.xl Af s.p.gs,.xl Al s.p.bs,.v<|ah J s.p.tk,.v<|.bool s.p.up,.os 5 5 0<|M s.p.ls,.v<|ah J s.p.se,.os 6 1 0<|M s.p.fl,.os 7 2 0<|M s.p.ra,.v<|ah J s.p.nx,.os 8 4 0<|M s.p.st,.os 9 5 0<|M s.p.ca,.os 10 3 0<|M s.p.mi,.os 11 3 0<|M s.p.me,.os 12 4 0<|M s.p.dm,.os 13 6 0<|M s.p.lk,.os 14 1 0<|M s.p.dr,.os 15 1 0<|M s.p.tg,.v<|ah J s.ev.ek,.v<|ah J s.ev.en,.v<|ah J s.ev.em,.v<|ah J s.ev.c1,.v<|ah J s.ev.c2,.v<|ah J s.ev.c3,.v<|ah J s.ev.c4,.v<|ah J s.ev.c5,.v<|.bool s.ev.d1,.v<|ah J s.ev.d2,.v<|ah J s.ev.d3,.v<|ah J s.ev.d4,.v<|.slice ak 0 0],103,.cl,X⟩]
def jL (s:No):T Y4:=letI a:=(CU s.p.gs s.p.st s.ev.en (6:Y) (1:Y) (0:Y));.br (!(inB s.ev.en (0:Y)<|AA<|(M s.p.gs:Y)-1)) (.pc s.p<|.ok<|⟨1,s.p,s.ev⟩)<|.pc s.p<|.req (wS (⟨s.ev.en,6,1,0,s.p,s.ev⟩:Lt))<|.pa s.p<|.rl a<|.rl s.p.ca<|.rl s.p.mi<|.rl s.p.me<|.rl s.p.dm<|.rl s.p.lk<|.rl s.p.dr<|.rl s.p.tg<|.ok<|⟨sE (AG s.p.gs s.ev.en) (BL s.p.st s.ev.en) (6:Y) (1:Y) (0:Y),{s.p with st:=a},s.ev⟩
def aCv (s:No):Prop:=M s.p.st=M s.p.gs/\M s.p.gs<=1000
def jb (s:No):Y4:=⟨PK.Nr s.p s.ev.en,{s.p with st:=if PK.isC s.p s.ev.en=U then CU s.p.gs s.p.st s.ev.en 6 1 0 else s.p.st},s.ev⟩
def aCx:D4 No Y4:=⟨UT,ZX,λv b=>⟨rF b,rG b⟩,aCv,[0,1,3],[],acy,acu,jb⟩
abbrev aiw (s:No):Prop:=aCv s/\UT s=UT s/\ZX s=ZX s
def IZ:aO:=[U4]
def iZ:Az:=IL IZ (la 2 func57 KY<|la 9 func16 Cv<|l0 IZ) [⟨56,aD5.m,aiU⟩]
def aVa:DV:=CR 57 18 2 (Kw.lp)<|CR 16 0 9 (HN.lp)<|EM prog AU IZ 20 2
def aqI:EZ prog AU aVa:=DL func57 rfl AX KY<|DL func16 rfl AX Cv<|Hz<|gk IZ
def agk (s:No):((Em prog AU IZ aVa iZ).k 24 (UT s)<|ZX s).bind (λq=>GP (M<|ZX s) [0] [] .normal (q.1::UT s) q.2)=(jL s).mp (λs2=>⟨.normal,M (UT s)+1,[acy s2],acu s2,U⟩):=AX
def axp (s:No) (hE:aCv s):(jL s).all (λq=>q=jb s):=by
 obtain ⟨h1,h2⟩:=hE;unfold jL;rw [ff h2];refine ⟨λc=>?_,λc=>?_⟩
 ·have c:s.p.isC s.ev.en=false:=QT
  repeat (refine ⟨AI,?_⟩)
  show _=_
  unfold jb PK.Nr
  simp_all
 ·have c:s.p.isC s.ev.en=true:=QT
  have ci:=BO.1 c
  have ci2:s.ev.en<(M s.p.gs:Y):=A0
  repeat (refine ⟨AI,?_⟩)
  refine ⟨⟨⟨ci.1,ci2,h1⟩,rfl,rfl⟩,?_⟩
  repeat (refine ⟨AI,?_⟩)
  show _=_
  unfold jb PK.Nr
  grind
def aiL:Dk prog AU 24 aCx.m:=D4.sound (D:=aCx) (t:=jL) (gk IZ) aqI iZ.h agk λs hE=>⟨axp s hE⟩
structure O8 where
 p:PK
 ev:EW
def UZ (s:O8):aE:=[.own 16 0]
def Z8 (s:O8):aH:=[AP,AP,zB,AP,bV 81 Ae s.p.cs,bV 70 AO s.p.ls,bV 5 (.int ax) s.p.fl,bV 126 Aq s.p.ra,bV 91 B7 s.p.st,bV 54 AO s.p.ca,bV 131 BC s.p.mi,bV 94 BU s.p.me,bV 56 Ai s.p.dm,bV 74 BP s.p.lk,bV 3 A7 s.p.dr,bV 3 A7 s.p.tg,⟨[.os 4 11 0<|M s.p.cs,.xl .str s.p.os,.xl Ak s.p.ks,.xl Af s.p.gs,.xl Al s.p.bs,.v<|ah J s.p.tk,.v<|.bool s.p.up,.os 5 5 0<|M s.p.ls,.v<|ah J s.p.se,.os 6 1 0<|M s.p.fl,.os 7 2 0<|M s.p.ra,.v<|ah J s.p.nx,.os 8 4 0<|M s.p.st,.os 9 5 0<|M s.p.ca,.os 10 3 0<|M s.p.mi,.os 11 3 0<|M s.p.me,.os 12 4 0<|M s.p.dm,.os 13 6 0<|M s.p.lk,.os 14 1 0<|M s.p.dr,.os 15 1 0<|M s.p.tg,.v<|ah J s.ev.ek,.v<|ah J s.ev.en,.v<|ah J s.ev.em,.v<|ah J s.ev.c1,.v<|ah J s.ev.c2,.v<|ah J s.ev.c3,.v<|ah J s.ev.c4,.v<|ah J s.ev.c5,.v<|.bool s.ev.d1,.v<|ah J s.ev.d2,.v<|ah J s.ev.d3,.v<|ah J s.ev.d4,.v<|.slice ak 0 0],103,.cl,X⟩]
structure Y9 where
 res:Y
 p:PK
 ev:EW
def ad4 (s:Y9):LV:=.v<|ah J s.res
def acI (s:Y9):aH:=[AP,AP,zB,AP,bV 81 Ae s.p.cs,bV 70 AO s.p.ls,bV 5 (.int ax) s.p.fl,bV 126 Aq s.p.ra,bV 91 B7 s.p.st,bV 54 AO s.p.ca,bV 131 BC s.p.mi,bV 94 BU s.p.me,bV 56 Ai s.p.dm,bV 74 BP s.p.lk,bV 3 A7 s.p.dr,bV 3 A7 s.p.tg,⟨[.os 4 11 0<|M s.p.cs,.xl .str s.p.os,.xl Ak s.p.ks,.xl Af s.p.gs,.xl Al s.p.bs,.v<|ah J s.p.tk,.v<|.bool s.p.up,.os 5 5 0<|M s.p.ls,.v<|ah J s.p.se,.os 6 1 0<|M s.p.fl,.os 7 2 0<|M s.p.ra,.v<|ah J s.p.nx,.os 8 4 0<|M s.p.st,.os 9 5 0<|M s.p.ca,.os 10 3 0<|M s.p.mi,.os 11 3 0<|M s.p.me,.os 12 4 0<|M s.p.dm,.os 13 6 0<|M s.p.lk,.os 14 1 0<|M s.p.dr,.os 15 1 0<|M s.p.tg,.v<|ah J s.ev.ek,.v<|ah J s.ev.en,.v<|ah J s.ev.em,.v<|ah J s.ev.c1,.v<|ah J s.ev.c2,.v<|ah J s.ev.c3,.v<|ah J s.ev.c4,.v<|ah J s.ev.c5,.v<|.bool s.ev.d1,.v<|ah J s.ev.d2,.v<|ah J s.ev.d3,.v<|ah J s.ev.d4,.v<|.slice ak 0 0],103,.cl,X⟩]
def jQ (s:O8):T Y9:=letI a:=(CU s.p.gs s.p.st s.ev.en (6:Y) (0:Y) (0:Y));letI b:=(CU s.p.gs a s.ev.en (2:Y) (0:Y) (0:Y));letI c:=(X,((0:Y),((0:Y),(9:Y))));letI d:=M s.p.ca;.br (!(inB s.ev.en (0:Y)<|AA<|(M s.p.gs:Y)-1)) (.pc s.p<|.ok<|⟨1,s.p,s.ev⟩)<|.ik s.ev.en d<|.br (!((s.p.ca.getD s.ev.en.toNat<|Ty.dflt AO).2.2.1 !=0)) (.pc s.p<|.ok<|⟨4,s.p,s.ev⟩)<|.pc s.p<|.req (wS (⟨s.ev.en,6,0,0,s.p,s.ev⟩:Lt))<|.pa s.p<|.rl a<|.rl s.p.ca<|.rl s.p.mi<|.rl s.p.me<|.rl s.p.dm<|.rl s.p.lk<|.rl s.p.dr<|.rl s.p.tg<|.req (wS (⟨s.ev.en,2,0,0,{s.p with st:=a},s.ev⟩:Lt))<|.ik s.ev.en d<|.ik s.ev.en (M s.p.mi)<|.ik s.ev.en (M s.p.dm)<|.pa s.p<|.rl b<|.re d (s.p.ca.set s.ev.en.toNat ((0:Y),((0:Y),((0:Y),((0:Y),(0:Y))))))<|.re (M s.p.mi) (s.p.mi.set s.ev.en.toNat (([]:aC),((0:Y),(0:Y))))<|.rl s.p.me<|.re (M s.p.dm) (s.p.dm.set s.ev.en.toNat c)<|.rl s.p.lk<|.rl s.p.dr<|.rl s.p.tg<|.ok<|⟨0,{s.p with st:=b,ca:=s.p.ca.set s.ev.en.toNat ((0:Y),((0:Y),((0:Y),((0:Y),(0:Y))))),mi:=s.p.mi.set s.ev.en.toNat (([]:aC),((0:Y),(0:Y))),dm:=s.p.dm.set s.ev.en.toNat c},s.ev⟩
def aCh (s:O8):Prop:=M s.p.st=M s.p.gs/\M s.p.gs<=1000/\M s.p.ca=M s.p.gs/\M s.p.mi=M s.p.gs/\M s.p.dm=M s.p.gs
def Xi (s:O8):Y9:=⟨PK.JG s.p s.ev.en,Jk (PK.JG s.p s.ev.en) (PK.Q0 s.p s.ev.en) s.p,s.ev⟩
def aD2:D4 O8 Y9:=⟨UZ,Z8,λv b=>⟨rF b,rG b⟩,aCh,[0,1,3],[],ad4,acI,Xi⟩
abbrev aj1 (s:O8):Prop:=aCh s/\UZ s=UZ s/\Z8 s=Z8 s
def aVf:DV:=CR 57 18 2 (Kw.lp)<|CR 16 0 9 (HN.lp)<|EM prog AU IZ 20 2
def aqN:EZ prog AU aVf:=DL func57 rfl AX KY<|DL func16 rfl AX Cv<|Hz<|gk IZ
def agq (s:O8):((Em prog AU IZ aVf iZ).k 20 (UZ s)<|Z8 s).bind (λq=>GP (M<|Z8 s) [0] [] .normal (q.1::UZ s) q.2)=(jQ s).mp (λs2=>⟨.normal,M (UZ s)+1,[ad4 s2],acI s2,U⟩):=AX
def axu (s:O8) (hE:aCh s):(jQ s).all (λq=>q=Xi s):=by
 obtain ⟨h1,h2,h3,h4,h5⟩:=hE;unfold jQ;rw [ff h2];refine ⟨λc=>?_,λc=>?_⟩
 ·have c:s.p.isC s.ev.en=false:=QT
  have he:s.p.JG s.ev.en=1:=AD c
  repeat (refine ⟨AI,?_⟩)
  show _=_
  unfold Xi;rw [Ju ML];rw [he]
 ·have c:s.p.isC s.ev.en=true:=QT
  have ci:=BO.1 c
  have ci2:s.ev.en<(M s.p.gs:Y):=A0
  have hc:¬s.p.isC s.ev.en=false:=zc
  refine ⟨A0,A0,λc2=>?_,λc2=>?_⟩
  ·have c2:(Be s.p.ca s.ev.en).2.2.1=0:=by simp only [D6,bne_eq_false_iff_eq] at c2;exact c2
   have he:s.p.JG s.ev.en=4:=by unfold PK.JG;rw [AE hc,AD c2]
   repeat (refine ⟨AI,?_⟩)
   show _=_
   unfold Xi;rw [Ju ML];rw [he]
  ·have c2:¬(Be s.p.ca s.ev.en).2.2.1=0:=by simp only [IQ,EH] at c2;exact c2
   have he:s.p.JG s.ev.en=0:=by unfold PK.JG;rw [AE hc,AE c2]
   have hg:M (CU s.p.gs s.p.st s.ev.en 6 0 0)=M s.p.gs:=by rw [JC];exact h1
   repeat (refine ⟨AI,?_⟩)
   refine ⟨⟨⟨ci.1,ci2,h1⟩,rfl,rfl⟩,?_⟩
   repeat (refine ⟨A0,?_⟩)
   refine ⟨⟨⟨ci.1,ci2,hg⟩,rfl,rfl⟩,?_⟩
   repeat (refine ⟨A8,?_⟩)
   show _=_
   unfold Xi;rw [Lm he];rw [he];rfl
def aiR:Dk prog AU 20 aD2.m:=D4.sound (D:=aD2) (t:=jQ) (gk IZ) aqN iZ.h agq λs hE=>⟨axu s hE⟩
structure O7 where
 p:PK
 ev:EW
def UY (s:O7):aE:=[.own 16 0]
def Zb (s:O7):aH:=[AP,AP,zB,AP,bV 81 Ae s.p.cs,bV 70 AO s.p.ls,bV 5 (.int ax) s.p.fl,bV 126 Aq s.p.ra,bV 91 B7 s.p.st,bV 54 AO s.p.ca,bV 131 BC s.p.mi,bV 94 BU s.p.me,bV 56 Ai s.p.dm,bV 74 BP s.p.lk,bV 3 A7 s.p.dr,bV 3 A7 s.p.tg,⟨[.os 4 11 0<|M s.p.cs,.xl .str s.p.os,.xl Ak s.p.ks,.xl Af s.p.gs,.xl Al s.p.bs,.v<|ah J s.p.tk,.v<|.bool s.p.up,.os 5 5 0<|M s.p.ls,.v<|ah J s.p.se,.os 6 1 0<|M s.p.fl,.os 7 2 0<|M s.p.ra,.v<|ah J s.p.nx,.os 8 4 0<|M s.p.st,.os 9 5 0<|M s.p.ca,.os 10 3 0<|M s.p.mi,.os 11 3 0<|M s.p.me,.os 12 4 0<|M s.p.dm,.os 13 6 0<|M s.p.lk,.os 14 1 0<|M s.p.dr,.os 15 1 0<|M s.p.tg,.v<|ah J s.ev.ek,.v<|ah J s.ev.en,.v<|ah J s.ev.em,.v<|ah J s.ev.c1,.v<|ah J s.ev.c2,.v<|ah J s.ev.c3,.v<|ah J s.ev.c4,.v<|ah J s.ev.c5,.v<|.bool s.ev.d1,.v<|ah J s.ev.d2,.v<|ah J s.ev.d3,.v<|ah J s.ev.d4,.v<|.slice ak 0 0],103,.cl,X⟩]
structure Y8 where
 res:Y
 p:PK
 ev:EW
def ad3 (s:Y8):LV:=.v<|ah J s.res
def acG (s:Y8):aH:=[AP,AP,zB,AP,bV 81 Ae s.p.cs,bV 70 AO s.p.ls,bV 5 (.int ax) s.p.fl,bV 126 Aq s.p.ra,bV 91 B7 s.p.st,bV 54 AO s.p.ca,bV 131 BC s.p.mi,bV 94 BU s.p.me,bV 56 Ai s.p.dm,AP,bV 3 A7 s.p.dr,bV 3 A7 s.p.tg,⟨[.os 4 11 0<|M s.p.cs,.xl .str s.p.os,.xl Ak s.p.ks,.xl Af s.p.gs,.xl Al s.p.bs,.v<|ah J s.p.tk,.v<|.bool s.p.up,.os 5 5 0<|M s.p.ls,.v<|ah J s.p.se,.os 6 1 0<|M s.p.fl,.os 7 2 0<|M s.p.ra,.v<|ah J s.p.nx,.os 8 4 0<|M s.p.st,.os 9 5 0<|M s.p.ca,.os 10 3 0<|M s.p.mi,.os 11 3 0<|M s.p.me,.os 12 4 0<|M s.p.dm,.xl BP s.p.lk,.os 14 1 0<|M s.p.dr,.os 15 1 0<|M s.p.tg,.v<|ah J s.ev.ek,.v<|ah J s.ev.en,.v<|ah J s.ev.em,.v<|ah J s.ev.c1,.v<|ah J s.ev.c2,.v<|ah J s.ev.c3,.v<|ah J s.ev.c4,.v<|ah J s.ev.c5,.v<|.bool s.ev.d1,.v<|ah J s.ev.d2,.v<|ah J s.ev.d3,.v<|ah J s.ev.d4,.v<|.slice ak 0 0],103,.cl,X⟩]
def jP (s:O7):T Y8:=letI b:=((M s.p.lk:aD):Y);letI a:=(aEM (⟨b,0,s.p,s.ev,([]:bz)⟩:Mj));.br (!(inB s.ev.en (0:Y)<|AA<|(M s.p.gs:Y)-1)) (.rz s.p.lk<|.pa s.p<|.rl s.p.st<|.rl s.p.ca<|.rl s.p.mi<|.rl s.p.me<|.rl s.p.dm<|.rl s.p.dr<|.rl s.p.tg<|.ok<|⟨1,{s.p with lk:=(s.p.lk.drop 0).take<|M s.p.lk},s.ev⟩)<|.r0 Lk<|.rl s.p.lk<|.pc s.p<|.req (Kw.q (⟨b,0,s.p,s.ev,([]:bz)⟩:Mj))<|.rz a.left<|.pa s.p<|.rl s.p.st<|.rl s.p.ca<|.rl s.p.mi<|.rl s.p.me<|.rl s.p.dm<|.rl s.p.dr<|.rl s.p.tg<|.ok<|⟨0,{s.p with lk:=(a.left.drop 0).take<|M a.left},s.ev⟩
def aCg (s:O7):Prop:=M s.p.gs<=1000/\M s.p.lk<=20000000
def jc (s:O7):Y8:=⟨PK.Nv s.p s.ev.en,Jk (PK.Nv s.p s.ev.en) (PK.ja s.p s.ev.en) s.p,s.ev⟩
def aD1:D4 O7 Y8:=⟨UY,Zb,λv b=>⟨rF b,rG b⟩,aCg,[0,1,3],[.pc 16 17 BP,.kb 13],ad3,acG,jc⟩
abbrev aj0 (s:O7):Prop:=aCg s/\UY s=UY s/\Zb s=Zb s
def aTD:Az:=kI IZ<|la 2 func57 KY<|la 9 func16 Cv<|l0 IZ
def aVe:DV:=CR 57 18 2 (Kw.lp)<|CR 16 0 9 (HN.lp)<|EM prog AU IZ 20 2
def aqM:EZ prog AU aVe:=DL func57 rfl AX KY<|DL func16 rfl AX Cv<|Hz<|gk IZ
def agp (s:O7):((Em prog AU IZ aVe aTD).k 21 (UY s)<|Zb s).bind (λq=>GP (M<|Zb s) [0] [.pc 16 17 BP,.kb 13] .normal (q.1::UY s) q.2)=(jP s).mp (λs2=>⟨.normal,M (UY s)+1,[ad3 s2],acG s2,U⟩):=AX
def axt (s:O7) (hE:aCg s):(jP s).all (λq=>q=jc s):=by
 obtain ⟨h1,h2⟩:=hE;unfold jP;rw [ff h1];refine ⟨λc=>⟨A0,?_⟩,λc=>?_⟩
 ·have c:s.p.isC s.ev.en=false:=QT
  have he:s.p.Nv s.ev.en=1:=AD c
  rw [TT]
  repeat (refine ⟨AI,?_⟩)
  show _=_
  unfold jc;rw [Ju A8];rw [he]
 ·have c:s.p.isC s.ev.en=true:=QT
  have he:s.p.Nv s.ev.en=0:=AE A8
  have hV:kg (⟨((M s.p.lk:aD):Y),(0:Y),s.p,s.ev,([]:bz)⟩:Mj):=⟨rfl,rfl,A8,A8⟩
  have q:=(atW _ hV).2
  rw [TT,q]
  repeat (refine ⟨AI,?_⟩)
  refine ⟨⟨hV,rfl,rfl⟩,?_⟩
  repeat (refine ⟨AI,?_⟩)
  unfold jc;rw [he];rfl
def aiQ:Dk prog AU 21 aD1.m:=D4.sound (D:=aD1) (t:=jP) (gk IZ) aqM aTD.h agp λs hE=>⟨axt s hE⟩
open Go.RowKit Go.Extern.Stop Go.Stop Go.Extern Go Go.Sx
def auD (v:aW) (w:aP):(Extern.ReflectliteType.typeOf #[.iface 49 v]).run prog w=.ok (.iface 342<|.agg #[.pointer<|ai ⟨3,49,ak⟩]) w:=AX
def aLl:aY->Sem Value:=Extern.ReflectliteType.method λt=>do Extern.Rtype.noPackHeld "Comparable" t;pure<|.bool (←typeInfo t).comparable
def aei (w:aP):(aLl #[.agg #[.pointer<|ai ⟨3,49,ak⟩]]).run prog w=.ok (.bool U) w:=AX
def auE (v:aW) (w:aP):(Go.method 483 342 v "Comparable").run prog w=.ok (248,v) w:=AX
def amH (v:aW) (xT:aT) (w:aP):(Instr.typeAssert (.iface 49 v) xT 344 U).run prog w=.ok (.tuple #[.nilIface,.bool X]) w:=xx Tryz.underlying344 AX AX v xT w
def aoh (v:aW) (xT:aT) (w:aP):(Instr.typeAssert (.iface 49 v) xT 347 U).run prog w=.ok (.tuple #[.nilIface,.bool X]) w:=xx Tryz.underlying347 AX AX v xT w
def afc (v:aW) (xT:aT) (w:aP):(Instr.typeAssert (.iface 49 v) xT 349 U).run prog w=.ok (.tuple #[.nilIface,.bool X]) w:=xx Tryz.underlying349 AX AX v xT w
def aog (n m:Y) (w:aP):Calls prog 216 #[.iface 49<|ah J n,.iface 49<|ah J m] w λe w'=>e=.returned (.bool<|n==m)/\w'=w:=by
 have hu:=Tryz.underlying335
 have h8:=@run_callFunc_extern prog 222 _ Extern.ReflectliteType.typeOf func222 AX AX AX AX
 have h32:=@run_callFunc_extern prog 248 _ aLl func248 AX AX AX AX
 have tT:=auD
 have cT:=aei
 have mR:=auE
 have nE:=amH
 have uE:=aoh
 have vE:=afc
 have heq:=Go.Lib.run_eql_iface_int (P:=prog) w (k:=J) n m hu (by kernel_rfl:(prog.info? 49).map (·.comparable)=ai U) (by kernel_rfl:prog.underlying 49=ai (.int J))
 by_cases e:n=m
 ·subst e
  simp only [Oa] at heq|-;exact aMh
 ·have e':(n==m)=false:=za
  simp only [e'] at heq|-;exact aMh
def adG:aE->T LV
 | [.v (.iface 49 (ah J n)),.v (.iface 49 (ah J m))]=> .ok (.v<|.bool<|n==m)
 |_=> .no
def jA:VV 216 adG:=λargs vals w Z lv hz hg hok hr h=>by
 unfold adG at h;split at h
 ·rename_i n m
  subst h;simp only [RL,R] at hr
  have e2:vals=#[.iface 49<|ah J n,.iface 49<|ah J m]:=by
   grind
  rw [e2];refine (aog n m w).mono λe w' ⟨he,hw⟩=>?_
  subst hw;exact ⟨Below.refl _ _,_,he,an,Jp⟩
 ·cases h
def aTs:aE->T LV
 | [.agg [.v (ah J se),.xl (.int ax) fl]]=> .ok (Hh se fl)
 |_=> .no
def iP:aO:=[]
def XY:=vo (S:=aTs) func99 iP kN (λargs lv h=>by
 unfold aTs at h;split at h
 ·rename_i se fl
  refine Au (letI a:=(M fl:Y);.br (aq<|se>=1) (.br (aq<|se<=512) (.br (aq<|a>=se) (.br (aq<|a<=4096) (.req (se≠0)<|.ok<|.v<|.bool<|(a.tmod se)==0)<|.ok X)<|.ok X)<|.ok X)<|.ok X) ?_;obtain rfl:=h;unfold Hh;refine ⟨λc1=>⟨λc2=>⟨λc3=>⟨λc4=>⟨?_,?_⟩,λc4=>?_⟩,λc3=>?_⟩,λc2=>?_⟩,λc1=>?_⟩
  ·grind
  all_goals refine B0 (λz=>LV.v<|.bool z) ?_
  all_goals first|(simp_all;done) |(simp_all;intros;omega) |(simp_all;omega)
 ·cases h)
def aUJ:aE->T LV
 | [.agg [.v (ah J se),.xl (.int ax) fl]]=> .ok (FB se fl)
 |_=> .no
def ahR:aO:=[XY]
def zm:=vo (S:=aUJ) func73 ahR kN (λargs lv h=>by
 unfold aUJ at h;split at h
 ·rename_i se fl
  refine Au (.br (Hh se fl) (.req (se≠0)<|.req ((2:Y)≠0)<|.ok<|.v<|.bool<|(((AA<|(M fl:Y).tdiv se).tmod 2)==0)&&(aq<|(M fl:Y)>=32))<|.ok X) ?_;obtain rfl:=h;unfold FB;refine ⟨λc1=>?_,λc1=>?_⟩
  ·have hv:=NY.1 c1
   refine ⟨A0,Ac,?_⟩;refine B0 (λz=>LV.v<|.bool z) ?_
   rw [c1,AJ (x:=(M fl:Y).tdiv se) (by rw [IN A0];exact HI Ac<|Sa A0 A0) (by rw [IN A0];exact HI (VD _ A0) A0)]
   rfl
  ·refine B0 (λz=>LV.v<|.bool z) ?_
   rw [c1];rfl
 ·cases h)
def aTr:aE->T LV
 | [.v (ah ay n)]=> .ok (.xl (.int ax)<|D2 n)
 |_=> .no
def akE:=vo (S:=aTr) func195 iP kN (λargs lv h=>by
 unfold aTr at h;split at h
 ·rename_i n
  refine Au (.ok<|.xl (.int ax)<|[(IntKind.u8.wrap<|n.fdiv<|2^24),(IntKind.u8.wrap<|n.fdiv<|2^16),(IntKind.u8.wrap<|n.fdiv<|2^8),(IntKind.u8.wrap n)]) ?_;exact h
 ·cases h)
def aUA:aE->T LV
 | [.xl (.int ax) b]=> .req (4<=M b) (.ok<|.v<|ah ay<|H6 b)
 |_=> .no
def zk:=vo (S:=aUA) func166 iP kN (λargs lv h=>by
 unfold aUA at h;split at h
 ·rename_i b
  refine Au (letI a:=(M b:Y);.req (0<=(0:Y)/\0<a)<|.req (0<=(1:Y)/\1<a)<|.req (0<=(2:Y)/\2<a)<|.req (0<=(3:Y)/\3<a)<|.ok<|.v<|ah ay<|Dc ay (Dc ay (Dc ay (IntKind.u32.wrap<|(IntKind.u32.wrap<|gi b (0:Y))*2^24)<|IntKind.u32.wrap<|(IntKind.u32.wrap<|gi b (1:Y))*2^16)<|IntKind.u32.wrap<|(IntKind.u32.wrap<|gi b (2:Y))*2^8)<|IntKind.u32.wrap<|gi b (3:Y)) ?_;obtain ⟨h0,rfl⟩:=h;exact ⟨⟨A0,A0⟩,⟨A0,A0⟩,⟨A0,A0⟩,⟨A0,A0⟩,rfl⟩
 ·cases h)
def aUr:aE->T LV
 | [.agg [.v (ah J se),.xl (.int ax) fl],.v (ah J w)]=> .req ((w=0\/w=1)/\M fl<=4096) (.ok<|.xl (.int ax)<|Bp fl w)
 |_=> .no
def aAW:=vo (S:=aUr) func165 iP kN (λargs lv h=>by
 unfold aUr at h;split at h
 ·rename_i se fl w
  refine Au (letI a:=(AA<|(M fl:Y).tdiv 2);letI b:=AA<|(AA<|w+1)*a;letI c:=AA<|w*a;.req ((2:Y)≠0)<|.req (0<=c/\c<=b/\b<=(M fl:Y)/\b=b)<|.ok<|.xl (.int ax)<|(fl.drop c.toNat).take<|b.toNat-c.toNat) ?_;obtain ⟨⟨h0,h1⟩,rfl⟩:=h
  have e1:(M fl:Y).tdiv 2=((M fl / 2:aD):Y):=AI
  have e2:AA ((M fl / 2:aD):Y)=((M fl / 2:aD):Y):=AJ
  rw [e1,e2];rcases h0 with rfl|rfl
  ·rw [Int.zero_mul,show (0:Y)+1=1 from rfl,show AA 0=0 from rfl,show AA 1=1 from rfl,Zt,e2]
   refine ⟨Ac,⟨A0,A0,A0,rfl⟩,?_⟩;refine B0 (LV.xl<|.int ax) ?_;rfl
  ·rw [Zt,show (1:Y)+1=2 from rfl,show AA 2=2 from rfl,e2,AJ (x:=2*((M fl / 2:aD):Y))]
   refine ⟨Ac,⟨A0,A0,A0,rfl⟩,?_⟩;refine B0 (LV.xl<|.int ax) ?_
   congr 1
   omega
 ·cases h)
def aUk:aE->T LV
 | [.agg [.v (ah J se),.xl (.int ax) fl]]=> .req (FB se fl=U) (.tu #[Aw fl,I8 fl])
 |_=> .no
def ahQ:aO:=[aAW,zk]
def ab2 := vo (S:=aUk) func164 ahQ kN (λargs lv h=>by
 unfold aUk at h;split at h
 ·rename_i se fl
  refine Au (letI d:=(Bp fl (0:Y));letI f:=(Bp fl (1:Y));letI b:=((f.drop (1:Y).toNat).take<|(5:Y).toNat-(1:Y).toNat);letI c:=((d.drop (1:Y).toNat).take<|(5:Y).toNat-(1:Y).toNat);.req (((0:Y)=0\/(0:Y)=1)/\M fl<=4096)<|.req (((1:Y)=0\/(1:Y)=1)/\M fl<=4096)<|.req (0<=(0:Y)/\0<(M d:Y))<|.req (0<=(0:Y)/\0<(M f:Y))<|.br (((gi d (0:Y))==80)&&((gi f (0:Y))==80)) (.req (0<=(1:Y)/\(1:Y)<=(5:Y)/\(5:Y)<=(M f:Y))<|.req (4<=M b)<|.req (0<=(1:Y)/\(1:Y)<=(5:Y)/\(5:Y)<=(M d:Y))<|.req (4<=M c)<|.br (aq<|(H6 b)>(H6 c)) (.tu #[(1:Y),(0:Y)])<|.tu #[(0:Y),(0:Y)])<|.br ((gi d (0:Y))==80) (.tu #[(0:Y),(0:Y)])<|.br ((gi f (0:Y))==80) (.tu #[(1:Y),(0:Y)])<|.tu #[(0:Y),(4:Y)]) ?_;obtain ⟨h0,rfl⟩:=h;obtain ⟨_,_,h32,hl,_⟩:=MW.1 h0
  have l0:=dd fl 0
  have l1:=dd fl 1
  have fin:∀a e:Y,a=Aw fl->e=I8 fl->LV.v (.tuple #[ah J a,ah J e])=LV.v (.tuple #[ah J<|Aw fl,ah J<|I8 fl]):=λa e h1 h2=>zh
  have ew:∀w,H6 (((Bp fl w).drop (1:Y).toNat).take<|(5:Y).toNat-(1:Y).toNat)=JS fl w:=λw=>rfl
  simp only [ew];refine ⟨?_,?_⟩
  ·first|exact ⟨Ac,hl⟩ |omega|decide|(refine ⟨?_,?_⟩<;>omega) |(simp only [ME,FL];omega) |(refine ⟨Ac,Ac,?_⟩;omega)
  ·refine ⟨?_,?_⟩
   ·grind
   ·refine ⟨?_,?_⟩
    ·omega
    ·refine ⟨?_,?_⟩
     ·omega
     ·refine ⟨λc1=>?_,λc1=>?_⟩
      ·refine ⟨?_,?_⟩
       ·omega
       ·refine ⟨?_,?_⟩
        ·grind
        ·refine ⟨?_,?_⟩
         ·omega
         ·refine ⟨?_,?_⟩
          ·grind
          ·refine ⟨λc2=>?_,λc2=>?_⟩
           ·refine fin _ _ ?_ ?_<;>simp_all [Aw,I8]
           ·refine fin _ _ ?_ ?_<;>simp_all [Aw,I8]
      ·refine ⟨λc2=>?_,λc2=>?_⟩
       ·refine fin _ _ ?_ ?_<;>simp_all [Aw,I8]
       ·refine ⟨λc3=>?_,λc3=>?_⟩
        ·refine fin _ _ ?_ ?_<;>simp_all [Aw,I8]
        ·refine fin _ _ ?_ ?_<;>simp_all [Aw,I8]
 ·cases h)
structure Mp where
 x:Y
 t8:aJ
 (t9 t10:Y)
 l:aC
 (n i:Y)
def aHZ:=lN (bN f202 0) 0
def aAO (s:Mp):T (Rd Mp):=
 .br (aq<|s.i<s.n) (.ix s.i (M s.l)<|.nx {s with x:=IntKind.u32.wrap<|(aLV ay s.x<|IntKind.u32.wrap<|gi s.l s.i)*16777619,i:=AA<|s.i+1}) (.so (.exit 2) s)
def kr (s:Mp):Prop:=s.i=0/\s.n<=70000/\s.n=(M s.l:Y)
def lI (s:Mp):Prop:=0<=s.i/\s.i<=s.n/\s.n<=70000/\s.n=(M s.l:Y)
def uz (s:Mp):aD:=(s.n-s.i).toNat
def acT (x:Ex) (s s':Mp):Prop:=True
def alF:∀s,kr s->lI s:=by
 exact nL
def agd:Da lI uz acT aAO:=by
 intro s hI;obtain ⟨h0,h1,h2,h3⟩:=hI;refine AH (λc1=>?_) λc1=>?_
 ·have c1:s.i<s.n:=A8
  rw [AJ (x:=s.i+1)];exact ⟨⟨A8,A8,h2,h3⟩,by simp only [uz];omega⟩
 ·trivial
def Rt:AS Mp:=⟨0,28,[3,8,9,10,14,15,16],[],λs=>[.v<|ah ay s.x,.xl (.sl<|.int ax) s.t8,s.t9,s.t10,.xl (.int ax) s.l,s.n,s.i],λ_=>[],λv b=>⟨AL v 0,B3 (.sl<|.int ax) v 1,AL v 2,AL v 3,B3 (.int ax) v 4,AL v 5,AL v 6⟩,aAO,λs r=> {s with x:=r.x,i:=r.i},λs=>s,λ_ s=>s,[.exit 2],kr,lI,uz⟩
abbrev aI1:=Rt.run
abbrev auM:=Rt.Av
def ayV:Rq lI aAO:=by
 intro s hI;refine ⟨λc1=>⟨?_,an⟩,λ_=>trivial⟩
 ·(obtain ⟨h0,h1,h2,h3⟩:=hI;simp only [Aa] at c1;omega)
def iO:aO:=[]
def aSM:Rt.Ok:={}
def aRC:Rt.Pf (acT):=⟨alF,λs h=>rfl,agd,ayV⟩
def arO:SA 0 aHZ Rt:=s1 aSM aRC iO kN
def atF:Rs kr auM aI1 (λs:Mp=>SX s.x<|s.l.drop s.i.toNat) (λx s' (v:Y)=>x=.exit 2/\s'.x=v):=DY aSM aRC (λs hI=>by
  obtain ⟨h0,h1,h2,h3⟩:=hI;refine AH (λc1=>?_) λc1=>?_
  ·have c1:s.i<s.n:=A8
   rw [AJ (x:=s.i+1)];rw [(gi_step h0 A0).1];rfl
  ·have c1:s.n<=s.i:=A8
   refine ⟨rfl,?_⟩;rw [Ei A0];rfl)
structure Mq where
 x:Y
 l:aJ
 (n i:Y)
def rj:=bN f202 0
def aAQ (s:Mq):T (Rd Mq):=
 .br (aq<|s.i<s.n) (.ix s.i (M s.l)<|.req (Rt.q (⟨s.x,s.l,s.n,s.i,gx (e:=.sl<|.int ax) s.l s.i,(M (gx (e:=.sl<|.int ax) s.l s.i):Y),0⟩:Mp))<|.nx {s with x:=(aI1 (⟨s.x,s.l,s.n,s.i,gx (e:=.sl<|.int ax) s.l s.i,(M (gx (e:=.sl<|.int ax) s.l s.i):Y),0⟩:Mp)).x,i:=AA<|s.i+1}) (.so (.exit 0) s)
def ID (l:aJ):Prop:=∀p∈l,M p<=70000
def X4 {l:aJ}(h:ID l) {i:Y}(h0:0<=i) (h1:i<(M l:Y)):M (gx (e:=.sl<|.int ax) l i)<=70000:=by
 have:gx (e:=.sl<|.int ax) l i=l[i.toNat]' A0:=K3 A0
 rw [this];exact h _<|Fk _
def ku (s:Mq):Prop:=s.i=0/\s.n<=1000/\s.n=(M s.l:Y)/\ID s.l
def YR (s:Mq):Prop:=0<=s.i/\s.i<=s.n/\s.n<=1000/\s.n=(M s.l:Y)/\ID s.l
def v5 (s:Mq):aD:=(s.n-s.i).toNat
def acV (x:Ex) (s s':Mq):Prop:=True
def alG:∀s,ku s->YR s:=by
 exact Zw
def aT1 (s:Mq) (hI:YR s) (c1:s.i<s.n):kr (⟨s.x,s.l,s.n,s.i,(gx (e:=.sl<|.int ax) s.l s.i),(M (gx (e:=.sl<|.int ax) s.l s.i):Y),(0:Y)⟩:Mp):=by
 obtain ⟨h0,h1,h2,h3,h4⟩:=hI
 have:=X4 h4 h0 A0
 refine ⟨rfl,?_,rfl⟩
 show (M (gx (e:=.sl<|.int ax) s.l s.i):Y)<=70000
 omega
def agf:Da YR v5 acV aAQ:=by
 intro s hI;obtain ⟨h0,h1,h2,h3,h4⟩:=hI;refine AH (λc1=>?_) λc1=>trivial
 have c1:s.i<s.n:=A8
 rw [AJ (x:=s.i+1)];exact ⟨⟨A8,A8,h2,h3,h4⟩,by simp only [v5];omega⟩
def Ru:AS Mq:=⟨0,28,[3,8,9,10],[],λs=>[.v<|ah ay s.x,.xl (.sl<|.int ax) s.l,s.n,s.i],λ_=>[],λv b=>⟨AL v 0,B3 (.sl<|.int ax) v 1,AL v 2,AL v 3⟩,aAQ,λs r=> {r with l:=s.l,n:=s.n},λs=>s,λ_ s=>s,[.exit 0],ku,YR,v5⟩
abbrev aIA:=Ru.run
abbrev auN:=Ru.Av
def ayW:Rq YR aAQ:=by
 intro s hI;refine ⟨λc1=>⟨?_,?_,an⟩,λ_=>trivial⟩
 ·exact aNR
 ·exact ⟨aT1 s hI A8,rfl,rfl⟩
def aSN:Ru.Ok:={}
def aRD:Ru.Pf (acV):=⟨alG,λs h=>rfl,agf,ayW⟩
def arP:SA 0 rj Ru:=AS.snd aSN aRD (dY (Γ:=iO) (K:=EN) (L:=(λi=>if i=6 then Rt.lp else Ap i)) (gk iO) kN.h rj (λb hb=>by
 rw [show BD _=[aHZ] by kernel_rfl] at hb
 simp only [B9,Bx,By] at hb;subst hb;exact arO)) λs=>AX
def Wf {l:aJ}{i:Y}(h0:0<=i) (h:i<(M l:Y)):l.drop i.toNat=gx (e:=.sl<|.int ax) l i::l.drop (i+1).toNat:=(Qr h0 h).1
def atG:Rs ku auN aIA (λs:Mq=>(s.l.drop s.i.toNat).foldl SX s.x) (λx s' (v:Y)=>x=.exit 0/\s'.x=v):=DY aSN aRD (λs hI=>by
  have hin:=λc1=>aT1 s hI c1
  obtain ⟨h0,h1,h2,h3,h4⟩:=hI;refine AH (λc1=>?_) λc1=>?_
  ·have c1:s.i<s.n:=A8
   rw [AJ (x:=s.i+1)]
   have hr:=(atF _<|hin c1).2
   rw [hr,Wf h0 A0];rfl
  ·have c1:s.n<=s.i:=A8
   refine ⟨rfl,?_⟩;rw [Ei A0];rfl)
def aUn:aE->T LV
 | [.xl (.sl (.int ax)) ps]=> .req (M ps<=1000/\ID ps) (.ok<|.v<|ah ay<|PG ps)
 |_=> .no
def aAU:=vm (S:=aUn) func202 iO kN (L:=(λi=>if i=3 then Ru.lp else Ap i)) (λb hb=>by
 rw [show BD _=[rj] by kernel_rfl] at hb
 simp only [B9,Bx,By] at hb;subst hb;exact arP) (λargs lv h=>by
 unfold aUn at h;split at h
 ·rename_i ps
  refine Au (.req (Ru.q (⟨2166136261,ps,(M ps:Y),0⟩:Mq))<|.ok<|.v<|ah ay (aIA (⟨2166136261,ps,(M ps:Y),0⟩:Mq)).x) ?_;obtain ⟨⟨h0,h1⟩,rfl⟩:=h
  have hE:ku ⟨2166136261,ps,(M ps:Y),0⟩:=⟨rfl,AZ,rfl,h1⟩
  obtain ⟨q1,q2⟩:=atG _ hE;refine ⟨⟨hE,rfl,rfl⟩,?_⟩;refine B0 (λz=>LV.v<|ah ay z) ?_
  exact q2
 ·cases h)
def ajC:aE->T LV:=λ_=> .no
def aPo:VV 1000035 ajC:=by
 intro _ _ _ _ _ _ _ _ _ h;exact h.elim
def aU5:aE->T LV
 | [.xl (.int ax) d]=> .req (M d<=70000) (.ok<|.xl (.int ax)<|Bw d)
 |_=> .no
def ahP:aO:=[akE,aAU,aPo]
def zj:=vo (S:=aU5) func188 ahP kN (λargs lv h=>by
 unfold aU5 at h;split at h
 ·rename_i d
  refine Au (letI a:=(IntKind.u8.wrap<|(M d:Y).fdiv<|2^8);letI b:=(IntKind.u8.wrap (M d:Y));letI c:=(D2<|PG<|[(([a,b]).drop 0).take 2,d]);.req (0+2<=M ([a,b]))<|.ra 1 (M<|[(80:Y)]) (1+M ((([a,b]).drop 0).take 2)) 1<|.req (0+2<=M ([a,b]))<|.req (M ([(([a,b]).drop 0).take 2,d])<=1000/\ID ([(([a,b]).drop 0).take 2,d]))<|.ra (1+M ((([a,b]).drop 0).take 2)) (M<|([(80:Y)])++((([a,b]).drop 0).take 2)) (1+M ((([a,b]).drop 0).take 2)+M c) 1<|.ra (1+M ((([a,b]).drop 0).take 2)+M c) (M<|(([(80:Y)])++((([a,b]).drop 0).take 2))++c) (1+M ((([a,b]).drop 0).take 2)+M c+M d) 1<|.req (0+(1+M ((([a,b]).drop 0).take 2)+M c+M d)<=M (((([(80:Y)])++((([a,b]).drop 0).take 2))++c)++d))<|.ok<|.xl (.int ax)<|((((([(80:Y)])++((([a,b]).drop 0).take 2))++c)++d).drop 0).take<|1+M ((([a,b]).drop 0).take 2)+M c+M d) ?_;obtain ⟨h0,rfl⟩:=h
  have e:(([(IntKind.u8.wrap<|(M d:Y).fdiv<|2^8),(IntKind.u8.wrap (M d:Y))].drop 0).take 2)=KH d:=rfl
  have e2:M (KH d)=2:=rfl
  have e4:∀n,M (D2 n)=4:=λ_=>rfl
  simp only [e]
  have hk:ID [KH d,d]:=by
   intro p hp;simp only [B9,Bx,By] at hp;rcases hp with rfl|rfl
   ·rw [e2];omega
   ·exact h0
  iterate 7 refine ⟨A8,?_⟩
  refine B0 (LV.xl<|.int ax) ?_;rw [DS A8];rfl
 ·cases h)
def aGN {b:aC}:∀ {n m f:aD},M b<=n+f->M b<=m+f->Hc b n f=Hc b m f
 |0,0,_,_,_=>rfl
 |0,m+1,f,h,_=>aOH
 |n+1,0,f,_,h=>aOH
 |n+1,m+1,f,h1,h2=>by
  simp only [Hc];rw [aGN (n:=n) (m:=m) (f:=f+7+GD b f) A0 A0]
def Jf (b:aC) (f:aD):List (List Int)×Nat×Bool:=Hc b (M b) f
def X3 (b:aC) (f:aD):Jf b f=if f<M b/\gi b (f:Y)=80 then (if rcG b f then (HT b f::(Jf b<|f+7+GD b f).1,(Jf b<|f+7+GD b f).2) else ([],f,X)) else ([],f,U):=by
 unfold Jf;rw [aGN (n:=M b) (m:=M b+1) (f:=f) A0 A0];rfl
def aB8:Array Tmp×Code×Code:=((J5<|f126.body.getD .skip)[0]?).getD (#[],.skip,.skip)
def aku:aVF:=aB8.1
def alq:bC:=aB8.2.1
def akX:bC:=aB8.2.2
structure G2 where
 (from_ Hx:Y)
 Hy:aC
 (P2 On PB:Y)
 Ov:aN
 (b2 fI dH EJ:Y)
 eG:aN
 b:aC
 rs:aJ
 st:LS
def lkS (s:G2):aC:=((s.b.drop (AA<|s.from_+1).toNat).take<|(AA<|s.from_+3).toNat-(AA<|s.from_+1).toNat)
def Ed (s:G2):Y:=(AA<|(AA<|(AA<|s.from_+7)+(AA<|(AA<|gi (lkS s) (0:Y))*2^8))+(AA<|gi (lkS s) (1:Y)))
def lkP (s:G2):aJ:=([(s.b.drop (AA<|s.from_+1).toNat).take<|(AA<|s.from_+3).toNat-(AA<|s.from_+1).toNat,(s.b.drop (AA<|s.from_+7).toNat).take<|(Ed s).toNat-(AA<|s.from_+7).toNat])
def lkH (s:G2):aC:=((s.b.drop (AA<|s.from_+3).toNat).take<|(AA<|s.from_+7).toNat-(AA<|s.from_+3).toNat)
def LK (s:G2):aC:=((s.b.drop (AA<|s.from_+7).toNat).take<|(Ed s).toNat-(AA<|s.from_+7).toNat)
def Q6 (s:G2):T (Rd G2):=letI a:=(s.rs++([((([]:aC)++([]:aC)).drop 0).take<|0+M ([]:aC)]));letI c:=(M s.rs+M ([((([]:aC)++([]:aC)).drop 0).take<|0+M ([]:aC)]));letI d:=(s.rs++([((([]:aC)++(LK s)).drop 0).take<|0+M (LK s)]));letI e:=(M s.b:Y);letI f:=(M<|[((([]:aC)++([]:aC)).drop 0).take<|0+M ([]:aC)]);letI g:=(M s.rs+M ([((([]:aC)++(LK s)).drop 0).take<|0+M (LK s)]));letI h:=AA<|s.from_+7;letI i:=(M ([]:aC));letI j:=AA<|s.from_+3;letI k:=(PG<|lkP s)==(H6<|lkH s);letI l:=(M (lkS s):Y);letI m:=M s.rs;.br (aq<|s.from_<e) (.ix s.from_ (M s.b)<|.br ((gi s.b s.from_)==80) (.br (aq<|h<=e) (.req (0<=(AA<|s.from_+1)/\(AA<|s.from_+1)<=j/\j<=e)<|.req (0<=(0:Y)/\0<l)<|.req (0<=(1:Y)/\1<l)<|.br (aq<|(Ed s)<=e) (.req (0<=h/\h<=(Ed s)/\(Ed s)<=e/\(Ed s)=(Ed s))<|.req (0<=j/\j<=h/\h<=e)<|.req (M (lkP s)<=1000/\ID (lkP s))<|.req (4<=M (lkH s))<|.br (! k) (.rl s.rs<|.so (.ret) {s with P2:=(0:Y),On:=(0:Y),PB:=(0:Y),Ov:=X,b2:=(11:Y),st:=.done<|.ret})<|.ra 0 i (0+M (LK s)) 1<|.req (0+(0+M (LK s))<=M (([]:aC)++(LK s)))<|.rb m (M<|[((([]:aC)++(LK s)).drop 0).take<|0+M (LK s)]) 24<|.br (! k) (.re g d<|.so (.ret) {s with EJ:=Ed s,rs:=d})<|.re g d<|.nx {s with from_:=Ed s,EJ:=Ed s,rs:=d})<|.br (!X) (.rl s.rs<|.so (.ret) {s with P2:=(0:Y),On:=(0:Y),PB:=(0:Y),Ov:=X,b2:=(11:Y),st:=.done<|.ret})<|.ra 0 i (0+M ([]:aC)) 1<|.req (0+(0+M ([]:aC))<=M (([]:aC)++([]:aC)))<|.rb m f 24<|.br (!X) (.re c a<|.so (.ret) {s with EJ:=e,rs:=a})<|.re c a<|.nx {s with from_:=e,EJ:=e,rs:=a})<|.br (!X) (.rl s.rs<|.so (.ret) {s with P2:=(0:Y),On:=(0:Y),PB:=(0:Y),Ov:=X,b2:=(11:Y),st:=.done<|.ret})<|.ra 0 i (0+M ([]:aC)) 1<|.req (0+(0+M ([]:aC))<=M (([]:aC)++([]:aC)))<|.rb m f 24<|.br (!X) (.re c a<|.so (.ret) {s with EJ:=e,rs:=a})<|.re c a<|.nx {s with from_:=e,EJ:=e,rs:=a})<|.rl s.rs<|.so (.exit 0) s)<|.rl s.rs<|.so (.exit 0) s
def aBd {b:aC}(h:BN b) (i:Y):0<=gi b i/\gi b i<=255:=by
 unfold gi;rw [DK];cases e:b[i.toNat]? with
 |none=>decide
 |some x=>exact h x<|OV e
def abZ {b:aC}{m n k:aD}(h:k<n):gi ((b.drop m).take n) (k:Y)=gi b ((m+k:aD):Y):=by
 unfold gi
 grind
def M3 (s:G2) (hb:BN s.b) (h0:0<=s.from_) (h7:s.from_+7<=(M s.b:Y)) (hl:M s.b<=4096):
  Ed s=s.from_+7+GD s.b s.from_.toNat/\M (lkS s)=2/\lkH s=(s.b.drop<|s.from_.toNat+3).take 4/\LK s=HT s.b s.from_.toNat/\lkP s=[(s.b.drop<|s.from_.toNat+1).take 2,HT s.b s.from_.toNat]:=by
 obtain ⟨f,hf⟩:=QF h0
 have w1:AA (s.from_+1)=s.from_+1:=AJ
 have w3:AA (s.from_+3)=s.from_+3:=AJ
 have w7:AA (s.from_+7)=s.from_+7:=AJ
 have t1:(s.from_+1).toNat=f+1:=A0
 have t3:(s.from_+3).toNat=f+3:=A0
 have t7:(s.from_+7).toNat=f+7:=A0
 have tf:s.from_.toNat=f:=A0
 have eS:lkS s=(s.b.drop<|f+1).take 2:=by
  unfold lkS;rw [w1,w3,t1,t3,show f+3-(f+1)=2 by omega]
 have b1:=aBd hb ((f+1:aD):Y)
 have b2:=aBd hb ((f+2:aD):Y)
 have g0:gi (lkS s) (0:Y)=gi s.b ((f+1:aD):Y):=by rw [eS];exact abZ (k:=0) Ac
 have g1:gi (lkS s) (1:Y)=gi s.b ((f+2:aD):Y):=by rw [eS];exact abZ (k:=1) Ac
 have hN:GD s.b f=(gi s.b ((f+1:aD):Y)).toNat*256+(gi s.b ((f+2:aD):Y)).toNat:=rfl
 have eT:Ed s=s.from_+7+GD s.b f:=by
  unfold Ed;rw [g0,g1,w7,AJ (x:=gi s.b ((f+1:aD):Y)),AJ (x:=gi s.b ((f+1:aD):Y)*2^8),AJ (x:=gi s.b ((f+2:aD):Y)),AJ (x:=s.from_+7+gi s.b ((f+1:aD):Y)*2^8),AJ];omega
 have eD:(s.b.drop (AA<|s.from_+7).toNat).take ((Ed s).toNat-(AA<|s.from_+7).toNat)=HT s.b f:=by
  unfold HT;rw [eT,w7,t7,show (s.from_+7+(GD s.b f:Y)).toNat-(f+7)=GD s.b f by omega]
 rw [tf];refine ⟨eT,by rw [eS];simp only [ME,FL];omega,?_,eD,?_⟩
 ·unfold lkH
  rw [w3,w7,t3,t7,show f+7-(f+3)=4 by omega]
 ·unfold lkP
  rw [eD,w1,w3,t1,t3,show f+3-(f+1)=2 by omega]
def aLi (s:G2) (hb:BN s.b) (h0:0<=s.from_) (h7:s.from_+7<=(M s.b:Y)) (hl:M s.b<=4096) (hT:Ed s<=(M s.b:Y)):rcG s.b s.from_.toNat=(PG (lkP s)==H6 (lkH s)):=by
 obtain ⟨e1,e2,e3,e4,e5⟩:=M3 s hb h0 h7 hl;unfold rcG rcF;rw [e3,e5,Cb (p:=s.from_.toNat+7<=M s.b) A0,Cb (p:=s.from_.toNat+7+GD s.b s.from_.toNat<=M s.b) A0];rfl
def aLj (s:G2) (h0:0<=s.from_) (hl:M s.b<=4096) (h:(M s.b:Y)<s.from_+7\/(M s.b:Y)<s.from_+7+GD s.b s.from_.toNat):rcG s.b s.from_.toNat=false:=by
 unfold rcG rcF
 by_cases h1:s.from_.toNat+7<=M s.b
 ·rw [IP (p:=s.from_.toNat+7+GD s.b s.from_.toNat<=M s.b) A0,Sb]
  rfl
 ·rw [IP (p:=s.from_.toNat+7<=M s.b) h1]
  rfl
def atX (fx:Ex->G2->G2) (hr:∀s',fx .ret s'={s' with st:=.done .ret}) (h0:∀s',fx (.exit 0) s'={s' with st:=.ready}) (s:G2) (h:s.st=.ready):DH (λ_=>True) (λx s'=>fx x s'=s') ((Q6 s).rd s):=by
 obtain ⟨from_,Hx,Hy,P2,On,PB,Ov,b2,fI,dH,EJ,eG,b,rs,st⟩:=s;subst h;unfold Q6;dsimp only [T.rd,T.rl,T.rv];refine AH (λc1=>?_) λc1=>?_
 ·refine AH (λc2=>?_) (λc2=>?_)
  ·refine AH (λc3=>?_) (λc3=>?_)
   ·refine AH (λc4=>?_) (λc4=>?_)
    ·refine AH (λc5=>?_) (λc5=>?_)
     ·exact hr _
     ·refine AH (λc6=>?_) (λc6=>?_)
      ·grind
      ·trivial
    ·refine AH (λc5=>?_) (λc5=>?_)
     ·exact hr _
     ·refine AH (λc6=>?_) (λc6=>?_)
      ·grind
      ·grind
   ·refine AH (λc4=>?_) (λc4=>?_)
    ·exact hr _
    ·refine AH (λc5=>?_) (λc5=>?_)
     ·grind
     ·grind
  ·exact h0 _
 ·exact h0 _
def p0 (s:G2):Prop:=s.st=.ready/\5<=s.from_/\s.from_<=(M s.b:Y)/\M s.b<=4096/\BN s.b/\s.EJ=s.from_/\(M s.rs:Y)<=s.from_
def oo (s:G2):Prop:=s.st=.ready/\5<=s.from_/\s.from_<=(M s.b:Y)/\M s.b<=4096/\BN s.b/\s.EJ=s.from_/\(M s.rs:Y)<=s.from_
def aBP (s:G2):aD:=((M s.b:Y)-s.from_).toNat
def aLs (x:Ex) (s s':G2):Prop:=True
def aoU:∀s,p0 s->oo s:=by
 exact λs h=>h
def alf:Da oo aBP aLs Q6:=by
 intro s hI;unfold Q6;dsimp only [T.rd,T.rl,T.rv];refine AH (λc1=>?_) λc1=>?_
 ·refine AH (λc2=>?_) (λc2=>?_)
  ·refine AH (λc3=>?_) (λc3=>?_)
   ·refine AH (λc4=>?_) (λc4=>?_)
    ·refine AH (λc5=>?_) (λc5=>?_)
     ·trivial
     ·refine AH (λc6=>?_) (λc6=>?_)
      ·grind
      ·obtain ⟨ht,h5,hl,h4,hb,he,hr⟩:=hI
       have w7:AA (s.from_+7)=s.from_+7:=AJ
       have c3:s.from_+7<=(M s.b:Y):=A8
       have c4:=Ct c4
       obtain ⟨e1,e2,e3,e4,e5⟩:=M3 s hb A0 c3 h4;refine ⟨⟨ht,A8,c4,h4,hb,rfl,?_⟩,?_⟩
       ·grind
       ·simp only [aBP];omega
    ·refine AH (λc5=>?_) (λc5=>?_)
     ·trivial
     ·refine AH (λc6=>?_) (λc6=>?_)
      ·grind
      ·grind
   ·refine AH (λc4=>?_) (λc4=>?_)
    ·trivial
    ·refine AH (λc5=>?_) (λc5=>?_)
     ·grind
     ·grind
  ·trivial
 ·trivial
def SU:AS G2:=⟨6,83,[0,1,3],[.nc 3 2 35<|.sl<|.int ax],λs=>[.CQ 5,.own 4 0,s.from_],λs=>[⟨[s.Hx,.xl (.int ax) s.Hy],37,.cl,X⟩,⟨[s.P2,.v<|ah ay s.On,.v<|.slice ak 0 0,s.PB,s.Ov],251,.cl,X⟩,⟨[s.b2],49,.cl,X⟩,⟨[s.fI,.v<|ah ay s.dH,.os 6 1 0<|M s.rs,s.EJ,s.eG],251,.cl,X⟩,⟨[.xl (.int ax) s.b],35,.cl,X⟩,⟨[.junk,.junk,.own 1 0,.own 2 0,.junk,.junk,.junk,.own 3 0,.v<|.tuple #[],.junk,.junk,.junk,.junk,.junk,.junk,.junk,.junk,.junk,.junk,.junk,.junk,.junk,.junk,.junk,.junk,.junk,.junk,.junk,.junk,.junk,.junk,.junk,.junk,.junk,.v<|.tuple #[],.v<|.tuple #[],.v<|.tuple #[],.v<|.tuple #[],.v<|.tuple #[],.v<|.tuple #[],.v<|.tuple #[],.v<|.tuple #[],.v<|.tuple #[],.v<|.tuple #[],.v<|.tuple #[],.v<|.tuple #[],.v<|.tuple #[],.v<|.tuple #[],.v<|.tuple #[],.v<|.tuple #[],.v<|.tuple #[],.junk,.junk,.junk,.junk,.junk,.junk,.junk,.junk,.junk,.junk,.junk,.junk,.junk,.junk,.junk,.junk,.junk,.junk],0,.Cn aku alq akX s.st,X⟩,⟨[],35,.vec (.sl<|.int ax) s.rs,X⟩],λv b=>⟨AL v 2,Am b 0 0,AF (.int ax) b 0 1,Am b 1 0,Am b 1 1,Am b 1 3,cgB b 1 4,Am b 2 0,Am b 3 0,Am b 3 1,Am b 3 3,cgB b 3 4,AF (.int ax) b 4 0,Ab (.sl<|.int ax) b 6,.ready⟩,Q6,λs r=> {r with Hx:=s.Hx,Hy:=s.Hy,fI:=s.fI,dH:=s.dH,eG:=s.eG,b:=s.b},λs=> {s with st:=.ready},λx s=> {s with st:=(match x with| .ret=>(.done<|.ret) | .exit 0=> .ready|_=> .ready)},[.ret,.exit 0],p0,oo,aBP⟩
abbrev Gl:=SU.run
abbrev aTa:=SU.Av
def vr:aO:=[zm,ab2,aAW,zk,aAU]
def aht:Az:=kI vr<|l0 vr
def akm:Rq oo Q6:=by
 intro s hI;refine ⟨λc1=>⟨?_,λc2=>⟨λc3=>⟨?_,?_,?_,λc4=>⟨?_,?_,?_,?_,λc5=>⟨A9,an⟩,λc5=>⟨?_,?_,?_,λc6=>⟨?_,an⟩,λc6=>⟨?_,an⟩⟩⟩,λc4=>⟨λc7=>⟨A9,an⟩,λc7=>⟨?_,?_,?_,λc8=>⟨?_,an⟩,λc8=>⟨?_,an⟩⟩⟩⟩,λc3=>⟨λc9=>⟨A9,an⟩,λc9=>⟨?_,?_,?_,λc10=>⟨?_,an⟩,λc10=>⟨?_,an⟩⟩⟩⟩,λc2=>⟨A9,an⟩⟩,λc1=>⟨A9,an⟩⟩
 ·(obtain ⟨ht,h5,hl,h4,hb,he,hr⟩:=hI;have w7:AA (s.from_+7)=s.from_+7:=AJ;have w1:AA (s.from_+1)=s.from_+1:=AJ;have w3:AA (s.from_+3)=s.from_+3:=AJ;simp only [Aa] at c1;omega)
 iterate 3 · (obtain ⟨ht,h5,hl,h4,hb,he,hr⟩:=hI;have w7:AA (s.from_+7)=s.from_+7:=AJ;have w1:AA (s.from_+1)=s.from_+1:=AJ;have w3:AA (s.from_+3)=s.from_+3:=AJ;have k3:s.from_+7<=(M s.b:Y):=Of;obtain ⟨e1,e2,e3,e4,e5⟩:=M3 s hb A0 k3 h4;(first|omega|(rw [w1,w3];omega) |(rw [w3,w7];omega)))
 iterate 2 · (obtain ⟨ht,h5,hl,h4,hb,he,hr⟩:=hI;have w7:AA (s.from_+7)=s.from_+7:=AJ;have w1:AA (s.from_+1)=s.from_+1:=AJ;have w3:AA (s.from_+3)=s.from_+3:=AJ;have k3:s.from_+7<=(M s.b:Y):=Of;obtain ⟨e1,e2,e3,e4,e5⟩:=M3 s hb A0 k3 h4;have k4:Ed s<=(M s.b:Y):=Ct c4;have hD:M (HT s.b s.from_.toNat)<=4096:=bZ;(first|omega|(rw [w1,w3];omega) |(rw [w3,w7];omega) |(rw [w7];exact ⟨A0,A0,k4,rfl⟩)))
 ·(obtain ⟨ht,h5,hl,h4,hb,he,hr⟩:=hI;have w7:AA (s.from_+7)=s.from_+7:=AJ;have w1:AA (s.from_+1)=s.from_+1:=AJ;have w3:AA (s.from_+3)=s.from_+3:=AJ;have k3:s.from_+7<=(M s.b:Y):=Of;obtain ⟨e1,e2,e3,e4,e5⟩:=M3 s hb A0 k3 h4;have k4:Ed s<=(M s.b:Y):=Ct c4;have hD:M (HT s.b s.from_.toNat)<=4096:=bZ;rw [e5];refine ⟨AI,λp hp=>?_⟩;simp only [B9,Bx,By] at hp;rcases hp with rfl|rfl;(first|(simp only [ME,FL];omega) |omega);omega)
 ·(obtain ⟨ht,h5,hl,h4,hb,he,hr⟩:=hI;have w7:AA (s.from_+7)=s.from_+7:=AJ;have w1:AA (s.from_+1)=s.from_+1:=AJ;have w3:AA (s.from_+3)=s.from_+3:=AJ;have k3:s.from_+7<=(M s.b:Y):=Of;obtain ⟨e1,e2,e3,e4,e5⟩:=M3 s hb A0 k3 h4;have k4:Ed s<=(M s.b:Y):=Ct c4;have hD:M (HT s.b s.from_.toNat)<=4096:=bZ;rw [e3];simp only [ME,FL];omega)
 ·(obtain ⟨ht,h5,hl,h4,hb,he,hr⟩:=hI;have w7:AA (s.from_+7)=s.from_+7:=AJ;have w1:AA (s.from_+1)=s.from_+1:=AJ;have w3:AA (s.from_+3)=s.from_+3:=AJ;have k3:s.from_+7<=(M s.b:Y):=Of;obtain ⟨e1,e2,e3,e4,e5⟩:=M3 s hb A0 k3 h4;have k4:Ed s<=(M s.b:Y):=Ct c4;have hD:M (HT s.b s.from_.toNat)<=4096:=bZ;rw [e4];simp only [B8,BY,Bh,Dw];try omega)
 ·grind
 iterate 3 · (obtain ⟨ht,h5,hl,h4,hb,he,hr⟩:=hI;have w7:AA (s.from_+7)=s.from_+7:=AJ;have w1:AA (s.from_+1)=s.from_+1:=AJ;have w3:AA (s.from_+3)=s.from_+3:=AJ;have k3:s.from_+7<=(M s.b:Y):=Of;obtain ⟨e1,e2,e3,e4,e5⟩:=M3 s hb A0 k3 h4;have k4:Ed s<=(M s.b:Y):=Ct c4;have hD:M (HT s.b s.from_.toNat)<=4096:=bZ;rw [e4];simp only [B8,BY,Bh,Dw];try omega)
 iterate 5 · exact absurd c7 Ac
 iterate 5 · exact absurd c9 Ac
def abx:SU.Ok:=⟨λs=>AX,λs _=>atX SU.fx (λ_=>rfl) (λ_=>rfl) (SU.rd s) rfl,λs=>rfl,λs t r=>rfl,λs=>rfl,λs=>AX⟩
def aaj:SU.Pf (aLs):=⟨aoU,λs h=>by
 obtain ⟨from_,Hx,Hy,P2,On,PB,Ov,b2,fI,dH,EJ,eG,b,rs,st⟩:=s
 have e:=h.1
 subst e;rfl,alf,akm⟩
def axX:=s2 (b:=bN f201 0) abx aaj vr aht
def agW:Rs p0 aTa Gl (λs:G2=>(s.rs++(Jf s.b s.from_.toNat).1,(Jf s.b s.from_.toNat).2.1,(Jf s.b s.from_.toNat).2.2)) (λx s' (v:List (List Int)×Nat×Bool)=>(x=.exit 0/\s'.rs=v.1/\s'.EJ=(v.2.1:Y)/\v.2.2=U)\/(x=.ret/\v.2.2=X/\s'.b2=11/\s'.P2=0/\s'.On=0/\s'.PB=0/\s'.Ov=X)):=DY abx aaj (λs hI=>by
  show DH _ _ ((Q6 s).rd s)
  unfold Q6;dsimp only [T.rd,T.rl];refine AH (λc1=>?_) λc1=>?_
  ·refine AH (λc2=>?_) (λc2=>?_)
   ·refine AH (λc3=>?_) (λc3=>?_)
    ·refine AH (λc4=>?_) (λc4=>?_)
     ·refine AH (λc5=>?_) (λc5=>?_)
      ·obtain ⟨ht,h5,hl,h4,hb,he,hr⟩:=hI
       have w7:AA (s.from_+7)=s.from_+7:=AJ
       have hq:=X3 s.b s.from_.toNat
       rw [CS A0] at hq;rw [AD ⟨nt,ET⟩] at hq
       have k3:s.from_+7<=(M s.b:Y):=Of
       obtain ⟨e1,e2,e3,e4,e5⟩:=M3 s hb A0 k3 h4
       have hg:=aLi s hb A0 k3 h4<|Ct c4
       have hg:rcG s.b s.from_.toNat=false:=aPK
       exact y9
      ·refine AH (λc6=>?_) (λc6=>?_)
       ·exact absurd (c5.symm.trans c6) Ac
       ·obtain ⟨ht,h5,hl,h4,hb,he,hr⟩:=hI
        have w7:AA (s.from_+7)=s.from_+7:=AJ
        have hq:=X3 s.b s.from_.toNat
        rw [CS A0] at hq;rw [AD ⟨nt,ET⟩] at hq
        have k3:s.from_+7<=(M s.b:Y):=Of
        obtain ⟨e1,e2,e3,e4,e5⟩:=M3 s hb A0 k3 h4
        have hg:=aLi s hb A0 k3 h4<|Ct c4
        have hg:rcG s.b s.from_.toNat=true:=aPK
        rw [AD hg] at hq
        have et:(Ed s).toNat=s.from_.toNat+7+GD s.b s.from_.toNat:=A0
        have ed:((([]:aC)++LK s).drop 0).take (0+M (LK s))=HT s.b s.from_.toNat:=by
         rw [e4,EG,CT,F5];exact DS<|Ar _
        show (s.rs++[_]++(Jf s.b (Ed s).toNat).1,(Jf s.b (Ed s).toNat).2.1,(Jf s.b (Ed s).toNat).2.2)=(s.rs++(Jf s.b s.from_.toNat).1,(Jf s.b s.from_.toNat).2.1,(Jf s.b s.from_.toNat).2.2)
        rw [ed,et,hq];simp only [Co,KJ,EG]
     ·refine AH (λc5=>?_) (λc5=>?_)
      ·obtain ⟨ht,h5,hl,h4,hb,he,hr⟩:=hI
       have w7:AA (s.from_+7)=s.from_+7:=AJ
       have hq:=X3 s.b s.from_.toNat
       rw [CS A0] at hq;rw [AD ⟨nt,ET⟩] at hq
       have k3:s.from_+7<=(M s.b:Y):=Of
       obtain ⟨e1,e2,e3,e4,e5⟩:=M3 s hb A0 k3 h4
       have hg:=aLj s A0 h4<|.inr (by have:=KM c4;omega)
       exact y9
      ·refine AH (λc6=>?_) (λc6=>?_)
       ·exact absurd c5 Ac
       ·exact absurd c5 Ac
    ·refine AH (λc4=>?_) (λc4=>?_)
     ·obtain ⟨ht,h5,hl,h4,hb,he,hr⟩:=hI
      have w7:AA (s.from_+7)=s.from_+7:=AJ
      have hq:=X3 s.b s.from_.toNat
      rw [CS A0] at hq;rw [AD ⟨nt,ET⟩] at hq
      have hg:=aLj s A0 h4<|.inl (by rw [w7] at c3;have:=KM c3;omega)
      exact y9
     ·refine AH (λc5=>?_) (λc5=>?_)
      ·exact absurd c4 Ac
      ·exact absurd c4 Ac
   ·obtain ⟨ht,h5,hl,h4,hb,he,hr⟩:=hI
    have hq:=X3 s.b s.from_.toNat
    rw [CS A0] at hq;rw [AE A8] at hq;rw [hq];exact .inl ⟨rfl,(Ge _).symm,AZ,rfl⟩
  ·obtain ⟨ht,h5,hl,h4,hb,he,hr⟩:=hI
   have hq:=X3 s.b s.from_.toNat
   rw [CS A0] at hq;rw [AE A8] at hq;rw [hq];exact .inl ⟨rfl,(Ge _).symm,AZ,rfl⟩)
structure N3 where
 l:aC
 (n i tQ aDT wP:Y)
 s7:aN
 (b1 Wy W0 Uh:Y)
 JD:aN
 rs:aJ
def aJW:=bN f126 0
def aDG (s:N3):T (Rd N3):=
 .br (aq<|s.i<s.n) (.ix s.i (M s.l)<|.br s.JD (.rl s.rs<|.nx {s with i:=AA<|s.i+1,JD:=((gi s.l s.i)==255)})<|.rl s.rs<|.nx {s with i:=AA<|s.i+1,JD:=X}) (.rl s.rs<|.so (.exit 2) s)
def pA (s:N3):Prop:=s.i=0/\s.n<=4096/\s.n=(M s.l:Y)
def oq (s:N3):Prop:=0<=s.i/\s.i<=s.n/\s.n<=4096/\s.n=(M s.l:Y)
def wh (s:N3):aD:=(s.n-s.i).toNat
def aLt (x:Ex) (s s':N3):Prop:=True
def aoX:∀s,pA s->oq s:=by
 exact nL
def alB:Da oq wh aLt aDG:=by
 intro s hI;obtain ⟨h0,h1,h2,h3⟩:=hI;refine AH (λc1=>?_) λc1=>?_
 ·refine AH (λc2=>?_) (λc2=>?_)
  ·exact aMi
  ·exact aMi
 ·trivial
def SV:AS N3:=⟨0,69,[2,3,7,54,55,56],[],λs=>[.own 0 0,.own 1 0,.own 2 0,.xl (.int ax) s.l,s.n,s.i],λs=>[⟨[s.tQ,.v<|ah ay s.aDT,.v<|.slice ak 0 0,s.wP,s.s7],251,.cl,X⟩,⟨[s.b1],49,.cl,X⟩,⟨[s.Wy,.v<|ah ay s.W0,.os 3 1 0<|M s.rs,s.Uh,s.JD],251,.cl,X⟩,⟨[],35,.vec (.sl<|.int ax) s.rs,X⟩],λv b=>⟨B3 (.int ax) v 3,AL v 4,AL v 5,Am b 0 0,Am b 0 1,Am b 0 3,cgB b 0 4,Am b 1 0,Am b 2 0,Am b 2 1,Am b 2 3,cgB b 2 4,Ab (.sl<|.int ax) b 3⟩,aDG,λs r=> {s with i:=r.i,JD:=r.JD},λs=>s,λ_ s=>s,[.exit 2],pA,oq,wh⟩
abbrev uU:=SV.run
abbrev aib:=SV.Av
def ako:Rq oq aDG:=by
 exact aM9
def iN:aO:=[zm,ab2,aAW,zk,aAU]
def aSn:Az:=kI iN<|la 1 func201 axX<|l0 iN
def abz:SV.Ok:={}
def aal:SV.Pf (aLt):=⟨aoX,λs h=>rfl,alB,ako⟩
def axa:SA 0 aJW SV:=s1 abz aal iN aSn
def agb:Rs pA aib uU (λs:N3=>s.JD&&(s.l.drop s.i.toNat).all (λb=>b==255)) (λx s' (v:aN)=>x=.exit 2/\s'.JD=v):=DY abz aal (λs hI=>by
  obtain ⟨h0,h1,h2,h3⟩:=hI;refine AH (λc1=>AH (λc2=>?_) λc2=>?_) λc1=>?_
  ·have c1:s.i<s.n:=A8
   rw [AJ (x:=s.i+1)]
   show (_&&_)=(_&&_)
   rw [(gi_step h0 A0).1,It,c2,ES]
  ·have c1:s.i<s.n:=A8
   rw [c2];rfl
  ·have c1:s.n<=s.i:=A8
   refine ⟨rfl,?_⟩;rw [Ei A0];exact (mX _).symm)
def wK {b:aC}:∀ {n f:aD},f<=M b->(Hc b n f).2.1<=M b
 |0,_,h=>h
 | n+1,f,h=>by
  simp only [Hc];split
  ·split
   ·rename_i hg
    unfold rcG rcF at hg;simp only [AV,Aa] at hg;exact wK (n:=n) hg.1.2
   ·exact h
  ·exact h
def Eo (se:Y) (fl:aC):Y:=if Bs se fl=0 then Aw fl else 0
def Ih (se:Y) (fl:aC):Y:=if Bs se fl=0 then JS fl (Aw fl) else 0
def FA (se:Y) (fl:aC):aJ:=if Bs se fl=0 then (Ey fl).1 else []
def HQ (se:Y) (fl:aC):Y:=if Bs se fl=0 then ((Ey fl).2.1:Y) else 0
def L5 (se:Y) (fl:aC):aN:=if Bs se fl=0 then lkC fl else X
def aKU:aE->T LV
 | [.agg [.v (ah J se),.xl (.int ax) fl]]=> .req (BN fl) (.ok<|.AQ [.agg [Eo se fl,.v<|ah ay<|Ih se fl,.xl (.sl<|.int ax)<|FA se fl,HQ se fl,L5 se fl],Bs se fl])
 |_=> .no
def Ek (se:Y) (fl:aC):G2:=(⟨5,se,fl,0,0,0,X,0,Aw fl,H6<|((Bp fl<|Aw fl).drop (1:Y).toNat).take<|(5:Y).toNat-(1:Y).toNat,5,U,Bp fl<|Aw fl,([]:aJ),.ready⟩:G2)
def fu (se:Y) (fl:aC):N3:=(⟨((Bp fl<|Aw fl).drop (Gl<|Ek se fl).EJ.toNat).take<|(M (Bp fl<|Aw fl):Y).toNat-(Gl<|Ek se fl).EJ.toNat,(M (((Bp fl<|Aw fl).drop (Gl<|Ek se fl).EJ.toNat).take<|(M (Bp fl<|Aw fl):Y).toNat-(Gl<|Ek se fl).EJ.toNat):Y),0,(Gl<|Ek se fl).P2,(Gl<|Ek se fl).On,(Gl<|Ek se fl).PB,(Gl<|Ek se fl).Ov,(Gl<|Ek se fl).b2,Aw fl,H6<|((Bp fl<|Aw fl).drop (1:Y).toNat).take<|(5:Y).toNat-(1:Y).toNat,(Gl<|Ek se fl).EJ,U,(Gl<|Ek se fl).rs⟩:N3)
def gr:=vm (S:=aKU) func126 iN aSn (L:=(λi=>if i=15 then SV.lp else Ap i)) (λb hb=>by
 rw [show BD _=[aJW] by kernel_rfl] at hb
 simp only [B9,Bx,By] at hb;subst hb;exact axa) (λargs lv h=>by
 unfold aKU at h;split at h
 ·rename_i se fl
  refine Au (letI d:=Gl<|Ek se fl;letI f:=(M (Bp fl<|Aw fl):Y);letI j:=(((Bp fl<|Aw fl).drop (1:Y).toNat).take<|(5:Y).toNat-(1:Y).toNat);letI k:=List Int;.br (!(FB se fl)) (.ok<|.AQ [.agg [(0:Y),.v<|ah ay 0,.xl (.sl<|.int ax) ([]:List k),(0:Y),X],(1:Y)])<|.req (FB se fl=U)<|.br ((I8 fl) !=0) (.ok<|.AQ [.agg [(0:Y),.v<|ah ay 0,.xl (.sl<|.int ax) ([]:List k),(0:Y),X],(I8 fl)])<|.req (((Aw fl)=0\/(Aw fl)=1)/\M fl<=4096)<|.req (0<=(1:Y)/\(1:Y)<=(5:Y)/\(5:Y)<=f)<|.req (4<=M j)<|.r0 k<|.req (SU.q<|Ek se fl)<|.br (Bt (aTa<|Ek se fl)<|.ret) (.ok<|.AQ [.agg [d.P2,.v<|ah ay d.On,.xl (.sl<|.int ax) ([]:List k),d.PB,d.Ov],d.b2])<|.req (0<=d.EJ/\d.EJ<=f/\f<=f)<|.rl d.rs<|.req (SV.q<|fu se fl)<|.rz d.rs<|.ok<|.AQ [.agg [(Aw fl),.v<|ah ay<|H6 j,.xl (.sl<|.int ax)<|(d.rs.drop 0).take<|M d.rs,d.EJ,(uU<|fu se fl).JD],(0:Y)]) ?_;obtain ⟨hb,rfl⟩:=h
  have fin:∀(a g:Y) (r:aJ) (n:Y) (c:aN) (e:Y),a=Eo se fl->g=Ih se fl->r=FA se fl->n=HQ se fl->c=L5 se fl->e=Bs se fl->
   LV.AQ [.agg [.v<|ah J a,.v<|ah ay g,.xl (.sl<|.int ax) r,.v<|ah J n,.v<|.bool c],.v<|ah J e]=LV.AQ [.agg [.v<|ah J<|Eo se fl,.v<|ah ay<|Ih se fl,.xl (.sl<|.int ax)<|FA se fl,.v<|ah J<|HQ se fl,.v<|.bool<|L5 se fl],.v<|ah J<|Bs se fl]:=λa g r n c e h1 h2 h3 h4 h5 h6=>by rw [h1,h2,h3,h4,h5,h6]
  refine ⟨λc1=>?_,λc1=>⟨AY,λc2=>?_,λc2=>?_⟩⟩
  ·have c1:FB se fl=false:=AY
   have hE:Bs se fl=1:=by unfold Bs;rw [AD c1]
   refine fin _ _ _ _ _ _ ?_ ?_ ?_ ?_ ?_ hE.symm<;>simp [Eo,Ih,FA,HQ,L5,hE]
  ·have c1:FB se fl=true:=AY
   have c2:I8 fl≠0:=ET
   have hE:Bs se fl=I8 fl:=by unfold Bs;rw [AE cI,AD c2]
   refine fin _ _ _ _ _ _ ?_ ?_ ?_ ?_ ?_ hE.symm<;>simp [Eo,Ih,FA,HQ,L5,hE,c2]
  have c1:FB se fl=true:=AY
  have c2:I8 fl=0:=ET
  have hj:=MW.1 c1
  have hw:Aw fl=0\/Aw fl=1:=aOm
  have hl:=dd fl<|Aw fl
  have hab:BN (Bp fl<|Aw fl):=by
   intro x hx;unfold Bp at hx;split at hx
   ·exact hb x<|VC hx
   ·exact hb x<|QN<|VC hx
  have hQ:Ey fl=Jf (Bp fl<|Aw fl) 5:=rfl
  have hE0:p0 (Ek se fl):=⟨rfl,by show (5:Y)<=5;decide,by show (5:Y)<=(M (Bp fl<|Aw fl):Y);omega,by show M (Bp fl<|Aw fl)<=4096;omega,hab,rfl,by show ((M ([]:aJ):aD):Y)<=5;decide⟩
  have hr:=agW _ hE0
  have hv:(Ek se fl).rs=[]:=rfl
  have hf:(Ek se fl).from_.toNat=5:=rfl
  have hB:(Ek se fl).b=Bp fl (Aw fl):=rfl
  simp only [hv,hf,hB,EG,<-hQ] at hr;refine ⟨⟨hw,hj.2.2.2.1⟩,⟨Ac,Ac,A0⟩,by simp only [ME,FL];omega,A9,⟨hE0,rfl,rfl⟩,λc3=>?_,λc3=>?_⟩
  ·have c3:=Wd c3
   rcases hr with ⟨q1,_⟩ |⟨q1,q2,q3,q4,q5,q6,q7⟩
   ·rw [c3] at q1;cases q1
   ·have hE:Bs se fl=11:=by unfold Bs;rw [AE cI,AE VS,AE (by rw [q2];decide)]
    rw [q3,q4,q5,q6,q7];refine fin _ _ _ _ _ _ ?_ ?_ ?_ ?_ ?_ hE.symm<;>simp [Eo,Ih,FA,HQ,L5,hE]
  ·rcases hr with ⟨q1,q2,q3,q4⟩ |⟨q1,_⟩
   ·have hE:Bs se fl=0:=by unfold Bs;rw [AE cI,AE VS,AD q4]
    have hn:(Ey fl).2.1<=M (Bp fl<|Aw fl):=wK A0
    have eL:((Bp fl<|Aw fl).drop (Gl<|Ek se fl).EJ.toNat).take ((M (Bp fl<|Aw fl):Y).toNat-(Gl<|Ek se fl).EJ.toNat)=(Bp fl<|Aw fl).drop (Ey fl).2.1:=by
     rw [q3,C0,C0];exact DS yy
    have hC:pA (fu se fl):=⟨rfl,by
     show (M (((Bp fl<|Aw fl).drop (Gl<|Ek se fl).EJ.toNat).take<|(M (Bp fl<|Aw fl):Y).toNat-(Gl<|Ek se fl).EJ.toNat):Y)<=4096
     rw [eL,FL];omega,rfl⟩
    have hr2:(uU<|fu se fl).JD=(U&&((((Bp fl<|Aw fl).drop (Gl<|Ek se fl).EJ.toNat).take<|(M (Bp fl<|Aw fl):Y).toNat-(Gl<|Ek se fl).EJ.toNat).drop 0).all (λb=>b==255)):=(agb _ hC).2
    rw [eL,CT,ES] at hr2;refine ⟨⟨by rw [q3];omega,by rw [q3];omega,Cz _⟩,A9,⟨hC,rfl,rfl⟩,A0,?_⟩
    refine fin _ _ _ _ _ _ ?_ ?_ ?_ ?_ ?_ hE.symm
    ·unfold Eo;rw [AD hE]
    ·unfold Ih JS;rw [AD hE];rfl
    ·unfold FA;rw [AD hE,CT,DS<|Ar _];exact q2
    ·unfold HQ;rw [AD hE];exact q3
    ·unfold L5;rw [AD hE];exact hr2
   ·exfalso;rw [q1] at c3;simp [Bt] at c3
 ·cases h)
end Go.Proofs.YtepoohnehmfflaaGreatDoor
namespace Go.Sx
open Go Go.RowKit Go.Proofs.YtepoohnehmfflaaGreatDoor
variable {P : Program} {G : B5} {Γ : Specs} {K : Hand} {L : Lr} {Z0 : Gz} {w0 : World}
abbrev Vm:=Nat->Option (List Nat×List Up)
def XI (P:aQ) (G:B5) (Γ:aVp) (K:aVG) (L:Pg) (cs:Vm):bC->aE->aH->T (Ex×List LV×List AB)
 | .seq a b,F,H=>(XI P G Γ K L cs a F H).bind λq=>match q.1 with
  | .normal=>match cs (Gs b) with
   |some (live,us)=>(GP 0 live us .normal q.2.1 q.2.2).bind λv=>if v.low then XI P G Γ K L cs b (I0 (M q.2.1) live v.vals) v.JU else .no
   |none=>XI P G Γ K L cs b q.2.1 q.2.2
  |x=> .ok (x,q.2)
 |c,F,H=>DN P G Γ K L c F H
def aen {L:Pg}{cs:Vm}(hΓ:∀g S,Γ g=ai S->Valid P G g S) (hK:FR P G K) (c:bC) (hl:∀b∈BD c,Gp P G (AN 0) (.loop b)<|L b):Gp P G (AN 0) c (XI P G Γ K L cs c):=by
 induction c with
 | seq c1 c2 ih1 ih2=>
  intro r w0 Z0 Z β F H a w ds Q x F' H' hA hr hD hW hF h hQ;obtain ⟨⟨y,F1,H1⟩,h1,h2⟩:=T.B4 h;obtain ⟨hr1,hr2⟩:=sP (show r=ak\/(I6 c1&&I6 c2)=U from hr);refine wpIn_seq<|ih1 (λb hb=>hl b Sv) r w0 Z0 Z β F H a w ds _ y F1 H1 hA hr1 hD hW hF h1 λds' Z' β' a' w' e0 e1 e2=>?_
  cases y with
  | normal=>
   simp only at h2;split at h2
   ·rename_i live us hcs
    obtain ⟨v,h3,h4⟩:=T.B4 h2;split at h4
    ·rename_i hlow
     obtain ⟨_,_,Z2,β2,e3,e4⟩:=dZ hA e1 e2 h3 hlow;exact ih2 (λb hb=>hl b Sv) r w0 Z0 Z2 β2 _ _ a' w' ds' Q x F' H' hA hr2 e0 e3 e4 h4 hQ
    ·cases h4
   ·exact ih2 (λb hb=>hl b Sv) r w0 Z0 Z' β' F1 H1 a' w' ds' Q x F' H' hA hr2 e0 e1 e2 h2 hQ
  |exit m=>
   obtain ⟨rfl,rfl,rfl⟩:=h2;exact hQ ds' Z' β' a' w' e0 e1 e2
  |ret=>
   obtain ⟨rfl,rfl,rfl⟩:=h2;exact hQ ds' Z' β' a' w' e0 e1 e2
 |_=>exact Gj hΓ hK _ hl
def jy (P:aQ) (G:B5) (Γ:aVp) (K:aVG) (L:Lr) (cs:Vm) (fn:aVw) (args:aE):T LV:=
 (match fn.body with
 |some c=>wz P fn (XI P G Γ K (M0 L) cs c) args
 |none=> .no).bind λx=> .ok<|canX<|upR P fn.resultTypes.toList x
def aEV {f:bh}{fn:aVw}{c:bC}{S:aE->T LV}{cs:Vm}(hfn:P.funcs[f]? =ai fn) (hc:fn.body=ai c) (hΓ:∀g S,Γ g=ai S->Valid P G g S) (hK:FR P G K)
  (hL:∀b∈BD c,Sound P G (.loop b)<|L<|Gs b) (hS:∀args lv,(S args).all (λx=>x=lv)->(jy P G Γ K L cs fn<|canL args).all (λx=>x=lv)):Valid P G f (upS P fn.params.toList S):=
 aG5 (aEW hfn hc<|aen (L:=M0 L) (cs:=cs) hΓ hK c hL) (λargs lv h=>by have:=hS args lv h;unfold jy at this;simpa only [hc] using this)
def T.aDJ {α:Type}:T α->T α
 | .br b t e=> .br b t.red e.red
 | .req p t=> .req p (T.aDJ t)
 |t=>t
def T.aHM {α:Type}{K:α->Prop}:∀ {t:T α},t.aDJ.all K->t.all K
 | .ok _,h=>h
 | .br _ _ _,h=>⟨λhb=>T.Wi<|h.1 hb,λhb=>T.Wi<|h.2 hb⟩
 | .req _ _,h=>⟨h.1,T.aHM h.2⟩
 | .no,h=>h
end Go.Sx
namespace Go.Proofs.YtepoohnehmfflaaGreatDoor
set_option maxRecDepth 100000
set_option maxHeartbeats 4000000
open Go.Proofs.Tryz
open Go.Sx
def aUX:aE->T LV
 | [.v (.agg ⟨[ah J x1,ah J x2,ah J x3,ah J x4,ah J x5]⟩)]=> .ok (.xl (.int ax)<|B2 (x1,x2,x3,x4,x5))
 |_=> .no
def WI:=bN f153 0
def Ln:aO:=[]
def arZ:Sound prog AU (.loop WI) (Fx prog AU Ln EN 20 2 WI):=Oq (gk Ln) kN.h 20 2 WI
def az4 (x1 x2 x3 x4 x5:Y):letI a:=(((((((((((((au (0:Y).toNat (0:Y))++([IntKind.u8.wrap<|x1.fdiv<|2^(24)]))++([IntKind.u8.wrap<|x1.fdiv<|2^(16)]))++([IntKind.u8.wrap<|x1.fdiv<|2^(8)]))++([IntKind.u8.wrap<|x1.fdiv<|2^(0)]))++([IntKind.u8.wrap<|x2.fdiv<|2^(0)]))++([IntKind.u8.wrap<|x3.fdiv<|2^(0)]))++([IntKind.u8.wrap<|x4.fdiv<|2^(24)]))++([IntKind.u8.wrap<|x4.fdiv<|2^(16)]))++([IntKind.u8.wrap<|x4.fdiv<|2^(8)]))++([IntKind.u8.wrap<|x4.fdiv<|2^(0)]))++([IntKind.u8.wrap<|x5.fdiv<|2^(8)]))++([IntKind.u8.wrap<|x5.fdiv<|2^(0)]));(Bu prog AU Ln kN (λi=>if i=4 then (Fx prog AU Ln EN 20 2 WI) else Ap i) f153 [.v<|.agg #[x1,x2,x3,x4,x5]]).red=.req (0<=(0:Y)/\(0:Y)<=(12:Y)/\1*(12:Y)<=2^48/\(12:Y)<2^63) (.req (0<=(24:Y))<|.ra 0 0 1 1<|.req (0<=(16:Y))<|.ra 1 1 2 1<|.req (0<=(8:Y))<|.ra 2 2 3 1<|.req (0<=(0:Y))<|.ra 3 3 4 1<|.req (0<=(0:Y))<|.ra 4 4 5 1<|.req (0<=(0:Y))<|.ra 5 5 6 1<|.req (0<=(24:Y))<|.ra 6 6 7 1<|.req (0<=(16:Y))<|.ra 7 7 8 1<|.req (0<=(8:Y))<|.ra 8 8 9 1<|.req (0<=(0:Y))<|.ra 9 9 10 1<|.req (0<=(8:Y))<|.ra 10 10 11 1<|.req (0<=(0:Y))<|.ra 11 11 12 1<|.req (0+12<=M a)<|.ok<|.xl (.int ax)<|(a.drop 0).take 12):=AX
def aaK:=vm (S:=aUX) func153 Ln kN (L:=(λi=>if i=4 then (Fx prog AU Ln EN 20 2 WI) else Ap i)) (λb hb=>by
 rw [show BD _=[WI] by kernel_rfl] at hb
 simp only [B9,Bx,By] at hb;subst hb;exact arZ) (λargs lv h=>by
 refine ⟨?_⟩;unfold aUX at h;split at h
 ·simp only [canL,canX]
  refine @T.Wi _ _ _ ?_;rw [az4];obtain rfl:=h
  iterate 25 refine ⟨Ac,?_⟩
  refine ⟨Ar _,?_⟩;simp only [T.all,Int.pow_zero,Int.fdiv_one];rfl
 ·cases h)
def upZ (d:aC):Le:=if M d=12 then GU d else (0,0,0,0,0)
def aUV:aE->T LV
 | [.xl (.int ax) d]=> .req (BN d) (.tu #[.agg #[(upZ d).1,(upZ d).2.1,(upZ d).2.2.1,(upZ d).2.2.2.1,(upZ d).2.2.2.2],aq<|M d=12])
 |_=> .no
def WH:=bN f86 0
def arY:Sound prog AU (.loop WH) (Fx prog AU Ln EN 20 2 WH):=Oq (gk Ln) kN.h 20 2 WH
def az3 (d:aC):letI a:=(M d:Y);letI b:=AA<|0*2^8;(Bu prog AU Ln kN (λi=>if i=6 then (Fx prog AU Ln EN 20 2 WH) else Ap i) f86 [.xl (.int ax) d]).aDJ=.br (a !=12) (.tu #[.agg #[(0:Y),(0:Y),(0:Y),(0:Y),(0:Y)],X]) (.req (0<=(0:Y)/\0<a)<|.req (0<=(1:Y)/\1<a)<|.req (0<=(2:Y)/\2<a)<|.req (0<=(3:Y)/\3<a)<|.req (0<=(4:Y)/\4<a)<|.req (0<=(5:Y)/\5<a)<|.req (0<=(6:Y)/\6<a)<|.req (0<=(7:Y)/\7<a)<|.req (0<=(8:Y)/\8<a)<|.req (0<=(9:Y)/\9<a)<|.req (0<=(10:Y)/\10<a)<|.req (0<=(11:Y)/\11<a)<|.tu #[.agg #[Dc J (AA<|(Dc J (AA<|(Dc J (AA<|(Dc J b<|AA<|gi d (0:Y))*2^8)<|AA<|gi d (1:Y))*2^8)<|AA<|gi d (2:Y))*2^8)<|AA<|gi d (3:Y),Dc J b<|AA<|gi d (4:Y),Dc J b<|AA<|gi d (5:Y),Dc J (AA<|(Dc J (AA<|(Dc J (AA<|(Dc J b<|AA<|gi d (6:Y))*2^8)<|AA<|gi d (7:Y))*2^8)<|AA<|gi d (8:Y))*2^8)<|AA<|gi d (9:Y),Dc J (AA<|(Dc J b<|AA<|gi d (10:Y))*2^8)<|AA<|gi d (11:Y)],U]):=AX
def o8 {a b:Y}(h0:0<=a) (h1:a<1099511627776) (hb:0<=b/\b<=255):Dc J (AA<|a*2^8) (AA b)=a*256+b:=by
 rw [AJ (x:=a*2^8),AJ (x:=b)];obtain ⟨a,rfl⟩:=QF h0;obtain ⟨b,rfl⟩:=QF hb.1
 have e:∀n:aD,n<4611686018427387904->(BitVec.ofInt (IntKind.bits J) (n:Y)).toNat=n:=λn hn=>by
  show (BitVec.ofInt 64 (n:Y)).toNat=n
  rw [BitVec.toNat_ofInt];omega
 unfold Dc;rw [show (a:Y)*2^8=((a*2^8:aD):Y) by omega,BitVec.toNat_or,e _ A0,e _ A0,gp A0]
 show AA _=_
 rw [AJ];omega
def aBp {w:Y}(hw:0<=w/\w<=255):Dc J (AA<|0*2^8) (AA w)=w:=by
 rw [o8 A0 A0 hw];omega
def abN {z w:Y}(hz:0<=z/\z<=255) (hw:0<=w/\w<=255):Dc J (AA<|Dc J (AA<|0*2^8) (AA z)*2^8) (AA w)=z*256+w:=by
 rw [aBp hz,o8 A0 A0 hw]
def abM {x y z w:Y}(hx:0<=x/\x<=255) (hy:0<=y/\y<=255) (hz:0<=z/\z<=255) (hw:0<=w/\w<=255):
  Dc J (AA<|Dc J (AA<|Dc J (AA<|Dc J (AA<|0*2^8) (AA x)*2^8) (AA y)*2^8) (AA z)*2^8) (AA w)=x*16777216+y*65536+z*256+w:=by
 rw [abN hx hy,o8 A0 A0 hz,o8 A0 A0 hw];omega
def ajv:=vm (S:=aUV) func86 Ln kN (L:=(λi=>if i=6 then (Fx prog AU Ln EN 20 2 WH) else Ap i)) (λb hb=>by
 rw [show BD _=[WH] by kernel_rfl] at hb
 simp only [B9,Bx,By] at hb;subst hb;exact arY) (λargs lv h=>by
 refine ⟨?_⟩;unfold aUV at h;split at h
 ·simp only [canL,canX]
  refine @T.aHM _ _ _ ?_;rw [az3];rename_i d;obtain ⟨hb,rfl⟩:=h;refine ⟨λc=>?_,λc=>?_⟩
  ·have hl:¬(M d)=12:=VU
   unfold upZ;rw [AE hl,IP hl];rfl
  have hl:M d=12:=VU
  iterate 12 refine ⟨⟨Ac,A0⟩,?_⟩
  have b:=λi=>aBd hb i
  unfold upZ;rw [AD hl,Cb hl,abM (b 0) (b 1) (b 2)<|b 3,aBp<|b 4,aBp<|b 5,abM (b 6) (b 7) (b 8)<|b 9,abN (b 10)<|b 11];rfl
 ·cases h)
def aUI:aE->T LV
 | [.agg [.v (ah J se),.xl (.int ax) fl]]=> .req (BN fl) (.ok<|.AQ [.xl (.sl<|.int ax)<|FA se fl,Bs se fl])
 |_=> .no
def ahO:aO:=[gr]
def akB:=vo (S:=aUI) func85 ahO kN (λargs lv h=>by
 unfold aUI at h;split at h
 ·rename_i se fl
  refine Au (.req (BN fl)<|.br ((Bs se fl) !=0) (.ok<|.AQ [.xl (.sl<|.int ax) ([]:aJ),(Bs se fl)])<|.ok<|.AQ [.xl (.sl<|.int ax)<|FA se fl,(0:Y)]) ?_;obtain ⟨h0,rfl⟩:=h;refine ⟨h0,λc=>?_,λc=>?_⟩
  ·have c:Bs se fl≠0:=A8
   unfold FA;rw [AE c];rfl
  ·have c:Bs se fl=0:=A8
   rw [c];rfl
 ·cases h)
def ac9 {b:aC}:∀(n f:aD),M (Hc b n f).1<=n
 |0,_=>Ar _
 | n+1,f=>by
  simp only [Hc];split
  ·split
   ·have:=ac9 (b:=b) n (f+7+GD b f)
    grind
   ·grind
  ·grind
def aSZ {b:aC}(h:BN b):∀(n f:aD),∀d∈(Hc b n f).1,BN d
 |0,_,d,hd=>Vf
 | n+1,f,d,hd=>by
  simp only [Hc] at hd;split at hd
  ·split at hd
   ·rcases B9.1 hd with rfl|hd
    ·exact λx hx=>h x<|QN<|VC hx
    ·exact aSZ h n _ d hd
   ·cases hd
  ·cases hd
def agX {se:Y}{fl:aC}(h:BN fl) (hl:M fl<=4096):M (FA se fl)<=4096/\∀d∈FA se fl,BN d:=by
 unfold FA;split
 ·have ha:=dd fl (Aw fl)
  refine ⟨?_,aSZ (λx hx=>?_) _ _⟩
  ·have:=ac9 (b:=Bp fl<|Aw fl) (M<|Bp fl<|Aw fl) 5
   unfold Ey;omega
  ·unfold Bp at hx
   split at hx
   ·exact h x<|VC hx
   ·exact h x<|QN<|VC hx
 ·grind
def anH {l:aJ}(h:∀d∈l,BN d) {i:Y}(h0:0<=i) (h1:i<(M l:Y)):BN (gx (e:=.sl<|.int ax) l i):=by
 grind
structure Ny where
 e:Y
 l:aJ
 (n i:Y)
 out:aM
def aGq:=bN f59 0
def aAa (s:Ny):T (Rd Ny):=
 .br (aq<|s.i<s.n) (.ix s.i (M s.l)<|.req (BN<|gx (e:=.sl<|.int ax) s.l s.i)<|.br (!(aq<|M (gx (e:=.sl<|.int ax) s.l s.i)=12)) (.rl s.out<|.so (.ret) {s with e:=(9:Y)})<|.rb (M s.out) (M<|[upZ<|gx (e:=.sl<|.int ax) s.l s.i]) 40<|.re (M s.out+M ([upZ<|gx (e:=.sl<|.int ax) s.l s.i])) (s.out++([upZ<|gx (e:=.sl<|.int ax) s.l s.i]))<|.nx {s with i:=AA<|s.i+1,out:=s.out++([upZ<|gx (e:=.sl<|.int ax) s.l s.i])}) (.rl s.out<|.so (.exit 0) s)
def lV (s:Ny):Prop:=s.i=0/\s.n<=5000/\s.n=(M s.l:Y)/\(∀d∈s.l,BN d)/\(M s.out:Y)<=s.i
def lB (s:Ny):Prop:=0<=s.i/\s.i<=s.n/\s.n<=5000/\s.n=(M s.l:Y)/\(∀d∈s.l,BN d)/\(M s.out:Y)<=s.i
def tv (s:Ny):aD:=(s.n-s.i).toNat
def adH (x:Ex) (s s':Ny):Prop:=True
def aju:∀s,lV s->lB s:=by
 exact Zw
def ax1:Da lB tv adH aAa:=by
 intro s hI;obtain ⟨h0,h1,h2,h3,h4,h5⟩:=hI;refine AH (λc1=>AH (λc2=>trivial) λc2=>?_) λc1=>trivial
 ·have c1:s.i<s.n:=A8
  rw [AJ (x:=s.i+1)];exact ⟨⟨A8,A8,h2,h3,h4,A8⟩,by simp only [tv];omega⟩
def Rb:AS Ny:=⟨0,50,[2,3,6,28,29,30],[.nl 6 70 AO],λs=>[.v<|.slice ak 0 0,s.e,.os 0 5 0<|M s.out,.xl (.sl<|.int ax) s.l,s.n,s.i],λs=>[bV 70 AO s.out],λv b=>⟨AL v 1,B3 (.sl<|.int ax) v 3,AL v 4,AL v 5,Ab AO b 0⟩,aAa,λs r=> {r with l:=s.l,n:=s.n},λs=>s,λ_ s=>s,[.ret,.exit 0],lV,lB,tv⟩
abbrev pL:=Rb.run
abbrev fm:=Rb.Av
def ayj:Rq lB aAa:=by
 intro s hI;refine ⟨λc1=>⟨?_,?_,λc2=>⟨A9,an⟩,λc2=>⟨?_,?_,an⟩⟩,λc1=>⟨A9,an⟩⟩
 all_goals ((obtain ⟨h0,h1,h2,h3,h4,h5⟩:=hI;have c1:s.i<s.n:=A8;have hb:=anH h4 h0 A0;(first|exact hb|omega|(simp only [BY,Bh];omega) |(simp only [B8,BY,Bh,Dw]))))
def aSw:aO:=[akB,ajv,Wn]
def aQr:Rb.Ok:={}
def aQT:Rb.Pf (adH):=⟨aju,λs h=>rfl,ax1,ayj⟩
def ari:SA 0 aGq Rb:=s1 aQr aQT aSw kN
def aqd:Rs lV fm pL (λs:Ny=>(s.out++(s.l.drop s.i.toNat).map GU,ldB<|s.l.drop s.i.toNat)) (λx s' (v:List Le×Bool)=>(x=.ret/\s'.e=9/\v.2=X)\/(x=.exit 0/\v=(s'.out,U))):=DY aQr aQT (λs hI=>by
  obtain ⟨h0,h1,h2,h3,h4,h5⟩:=hI;refine AH (λc1=>AH (λc2=>?_) λc2=>?_) λc1=>?_
  ·have c1:s.i<s.n:=A8
   refine .inl ⟨rfl,rfl,?_⟩;simp only [Wf h0 (show s.i<(M s.l:Y) by omega),ldB,It,xa,CV]
   grind
  ·have c1:s.i<s.n:=A8
   have c2:M (gx (e:=.sl<|.int ax) s.l s.i)=12:=A8
   have hz:upZ (gx (e:=.sl<|.int ax) s.l s.i)=GU (gx (e:=.sl<|.int ax) s.l s.i):=AD c2
   rw [AJ (x:=s.i+1),hz]
   show (_++[_]++_,_)=(_++_,_)
   rw [Wf h0 A0];simp only [ER,Co,KJ,EG,ldB,It,c2,Oa,ES]
  ·have c1:s.n<=s.i:=A8
   refine .inr ⟨rfl,?_⟩;rw [Ei A0]
   simp [ldB])
def aUa:aE->T LV
 | [.agg [.v (ah J se),.xl (.int ax) fl]]=> .req (BN fl) (.ok<|.AQ [Aj se fl,CZ se fl])
 |_=> .no
def QX (se:Y) (fl:aC):Ny:=(⟨0,FA se fl,(M (FA se fl):Y),0,([]:aM)⟩:Ny)
def zq:=vm (S:=aUa) func59 aSw kN (L:=(λi=>if i=8 then Rb.lp else Ap i)) (λb hb=>by
 rw [show BD _=[aGq] by kernel_rfl] at hb
 simp only [B9,Bx,By] at hb;subst hb;exact ari) (λargs lv h=>by
 unfold aUa at h;split at h
 ·rename_i se fl
  refine Au (letI a:=pL<|QX se fl;letI b:=(a.out.drop 0).take<|M a.out;.br ((se !=512) ||((M fl:Y) !=2048)) (.ok<|.AQ [.xl AO ([]:aM),(1:Y)])<|.req (BN fl)<|.br ((Bs se fl) !=0) (.ok<|.AQ [.xl AO ([]:aM),(Bs se fl)])<|.r0 Le<|.req (Rb.q<|QX se fl)<|.br (Bt (fm<|QX se fl)<|.ret) (.ok<|.AQ [.xl AO ([]:aM),a.e])<|.rz a.out<|.br (!(B1 b)) (.ok<|.AQ [.xl AO ([]:aM),(9:Y)])<|.rz a.out<|.ok<|.AQ [b,(0:Y)]) ?_;obtain ⟨hb,rfl⟩:=h
  have bad:∀e:Y,e≠0->CZ se fl=e->LV.AQ [.xl AO ([]:aM),.v<|ah J e]=LV.AQ [.xl AO<|Aj se fl,.v<|ah J<|CZ se fl]:=λe h0 h1=>by unfold Aj;rw [h1,AE h0]
  refine ⟨λc1=>bad 1 Ac (by unfold CZ;exact AD c1),λc1=>⟨hb,λc2=>?_,λc2=>?_⟩⟩
  all_goals have h0:¬((!(se==512) || !((M fl:Y)==2048))=U):=A8
  ·have c2:Bs se fl≠0:=ET
   exact bad _ c2 (by unfold CZ;rw [AE h0,AD c2])
  have hk:Bs se fl=0:=ET
  have hl:M fl=2048:=by simp at h0;omega
  have hR:FA se fl=(Ey fl).1:=AD hk
  obtain ⟨n1,n2⟩:=agX (se:=se) hb A0
  have hV:lV (QX se fl):=⟨rfl,by show (M (FA se fl):Y)<=5000;omega,rfl,n2,ye⟩
  have q:(fm (QX se fl)=.ret/\(pL<|QX se fl).e=9/\ldB (FA se fl)=X)\/(fm (QX se fl)=.exit 0/\((FA se fl).map GU,ldB<|FA se fl)=((pL<|QX se fl).out,U)):=aqd _ hV
  have hk':¬Bs se fl≠0:=λh=>h hk
  refine ⟨A9,⟨hV,rfl,rfl⟩,λc3=>?_,λc3=>?_⟩
  ·rcases q with ⟨_,q2,q3⟩ |⟨q1,_⟩
   ·rw [q2]
    exact bad 9 Ac (by unfold CZ;rw [AE h0,AE hk',<-hR,AE (by rw [q3];decide)])
   ·rw [Wd c3] at q1;cases q1
  rcases q with ⟨q1,_⟩ |⟨_,q2⟩
  ·rw [q1] at c3;simp [Bt] at c3
  simp only [Ay] at q2;rw [<-q2.1,CT,Ej];refine ⟨A0,λc4=>?_,λc4=>⟨A0,?_⟩⟩
  ·exact bad 9 Ac (by unfold CZ;rw [AE h0,AE hk',<-hR,AD q2.2,AE yx])
  ·have hE:CZ se fl=0:=by unfold CZ;rw [AE h0,AE hk',<-hR,AD q2.2,AD yx]
   unfold Aj;rw [hE,AD rfl,hR];rfl
 ·cases h)
def aBL {se:Y}{fl:aC}(h:CZ se fl=0):B1 (Aj se fl)=true:=by
 unfold Aj;rw [AD h];unfold CZ at h;split at h
 ·cases h
 ·split at h
  ·grind
  ·split at h
   ·split at h
    ·assumption
    ·cases h
   ·cases h
def aUY:aE->T LV
 | [.agg [.v (ah J se),.xl (.int ax) fl]]=> .req (BN fl) (.tu #[Jd se fl,Ip se fl])
 |_=> .no
def ahN:aO:=[zq]
def ajw:=vo (S:=aUY) func61 ahN kN (λargs lv h=>by
 unfold aUY at h;split at h
 ·rename_i se fl
  refine Au (letI b:=(M (Aj se fl):Y);letI c:=An (Aj se fl)<|AA<|b-1;.req (BN fl)<|.br ((CZ se fl) !=0) (.tu #[(0:Y),(CZ se fl)])<|.br (b==0) (.tu #[(1:Y),(0:Y)])<|.ix (AA<|b-1) (M<|Aj se fl)<|.br (c.1==1000000) (.tu #[(0:Y),(10:Y)])<|.tu #[(AA<|c.1+1),(0:Y)]) ?_;obtain ⟨hb,rfl⟩:=h
  have fin:∀a e:Y,a=Jd se fl->e=Ip se fl->LV.v (.tuple #[ah J a,ah J e])=LV.v (.tuple #[ah J<|Jd se fl,ah J<|Ip se fl]):=λa e h1 h2=>zh
  refine ⟨hb,λc1=>?_,λc1=>⟨λc2=>?_,λc2=>?_⟩⟩
  ·have c1:CZ se fl≠0:=AY
   refine fin _ _ ?_ ?_<;>simp [Jd,Ip,c1]
  all_goals have c1:CZ se fl=0:=AY
  ·have c2:M (Aj se fl)=0:=A8
   refine fin _ _ ?_ ?_<;>simp [Jd,Ip,c1,c2]
  ·have c2:¬(M<|Aj se fl)=0:=A8
   have hv:=GK<|aBL c1
   have hw:AA ((M (Aj se fl):Y)-1)=(M (Aj se fl):Y)-1:=AJ
   have hn:=Kc.1<|hv.2 _<|Li (l:=Aj se fl) (i:=(M (Aj se fl):Y)-1) A0 A0
   rw [hw];refine ⟨⟨A0,A0⟩,λc3=>?_,λc3=>?_⟩
   ·refine fin _ _ ?_ ?_<;>simp at c3<;>simp [Jd,Ip,c1,c2,c3]
   ·rw [AJ]
    refine fin _ _ ?_ ?_<;>simp at c3<;>simp [Jd,Ip,c1,c2,c3]
 ·cases h)
def aKP:aE->T LV
 | [.v (ah J n),.v (ah J a),.v (ah J b)]=> .ok (inB n a b)
 |_=> .no
def amR:aO:=[]
def aPr:=vo (S:=aKP) func111 amR kN (λargs lv h=>by
 unfold aKP at h;split at h
 ·rename_i n a b
  refine Au (.ok<|.v<|.bool<|(aq<|n>=a)&&(aq<|n<=b)) ?_;exact h
 ·cases h)
def aUq:aE->T LV
 | [.v (.agg ⟨[ah J k,ah J ph,ah J mx,ah J nd,ah J dl]⟩)]=> .ok (GF (k,ph,mx,nd,dl))
 |_=> .no
def aBe:aO:=[aPr]
def ab5:=vo (S:=aUq) func83 aBe kN (λargs lv h=>by
 unfold aUq at h;split at h
 ·rename_i k ph mx nd dl
  refine Au (.ok<|.v<|.bool<|(inB k (0:Y) (4:Y))&&((inB ph (1:Y) (7:Y))&&((inB mx (1:Y) (80:Y))&&((inB nd (0:Y) (1000000000:Y))&&((inB dl (0:Y) (20:Y))&&((k !=3) ||(aq<|dl>=1))))))) ?_;exact h
 ·cases h)
structure M6 where
 r:aN
 l:aC
 (n i:Y)
def aJy:=bN f110 0
def aDD (s:M6):T (Rd M6):=
 .br (aq<|s.i<s.n) (.ix s.i (M s.l)<|.br (!(inB (gi s.l s.i) (0:Y) (80:Y))) (.so (.ret) {s with r:=X})<|.nx {s with i:=AA<|s.i+1}) (.so (.exit 0) s)
def SO (s:M6) (j:Y):aN:=inB (gi s.l j) 0 80
def ou (s:M6):Prop:=s.i=0/\0<=s.n/\s.n<=1000/\s.n=(M s.l:Y)
def cf (s:M6):Prop:=0<=s.i/\s.i<=s.n/\s.n<=1000/\(s.n=(M s.l:Y))/\∀j:aD,(j:Y)<s.i->SO s j=U
def aBW (s:M6):aD:=(s.n-s.i).toNat
def xH (x:Ex) (s s':M6):Prop:=(x=.exit 0/\∀j:aD,(j:Y)<s'.n->SO s' j=U)\/(x=.ret/\s'.r=X/\∃j:aD,(j:Y)<s'.n/\SO s' j=X)
def aoE:∀s,ou s->cf s:=by
 exact KN
def ajt:Da cf aBW xH aDD:=by
 intro s hI;obtain ⟨h0,h1,h2,h3,h4⟩:=hI;refine AH (λc1=>AH (λc2=>?_) λc2=>?_) λc1=>?_
 ·have c1:s.i<s.n:=AY
  refine .inr ⟨rfl,rfl,s.i.toNat,A8,?_⟩
  have hg:SO s s.i=false:=by unfold SO;simp_all
  exact hg
 ·have c1:s.i<s.n:=AY
  have hg:SO s s.i=true:=by unfold SO;simp_all
  rw [AJ (x:=s.i+1)];refine ⟨⟨A8,A8,h2,h3,λj hj=>?_⟩,by simp only [aBW];omega⟩
  exact LU
 ·exact Sn
def SQ:AS M6:=⟨0,32,[2,22,23,24],[],λs=>[s.r,.xl A7 s.l,s.n,s.i],λ_=>[],λv b=>⟨Ds v 0,B3 A7 v 1,AL v 2,AL v 3⟩,aDD,λs r=> {r with l:=s.l,n:=s.n},λs=>s,λ_ s=>s,[.ret,.exit 0],ou,cf,aBW⟩
abbrev aPt:=SQ.run
abbrev aTW:=SQ.Av
def ake:Rq cf aDD:=by
 exact Sk
def aaP:SQ.Ok:={}
def aad:SQ.Pf (xH):=⟨aoE,λs h=>rfl,ajt,ake⟩
def axN:SA 0 aJy SQ:=s1 aaP aad aBe kN
def ax0:Fi ou cf xH aTW aPt:=AS.fin aaP aad
def aUZ:aE->T LV
 | [.agg [.xl (.int J) pil,.v (ah J tk),.v (ah J got)]]=> .ok (IJ (pil,tk,got))
 |_=> .no
def ajx:=vm (S:=aUZ) func110 aBe kN (L:=(λi=>if i=4 then SQ.lp else Ap i)) (λb hb=>by
 rw [show BD _=[aJy] by kernel_rfl] at hb
 simp only [B9,Bx,By] at hb;subst hb;exact axN) (λargs lv h=>by
 unfold aUZ at h;split at h
 ·rename_i pil tk got
  refine Au (letI a:=(M pil:Y);.br ((aq<|a>21) ||((!(inB tk (0:Y) (1000000:Y))) ||(!(inB got (0:Y) (2000000000:Y))))) (.ok X)<|.req (SQ.q (⟨X,pil,a,0⟩:M6))<|.br (Bt (aTW (⟨X,pil,a,0⟩:M6))<|.ret) (.ok (aPt (⟨X,pil,a,0⟩:M6)).r)<|.ok U) ?_;obtain rfl:=h;refine ⟨λc1=>B0 (λz=>LV.v<|.bool z) ?_,λc1=>?_⟩
  ·rw [Sl,IS]
   intro hm
   have:=eZ.1 hm
   simp [inB] at c1
   simp only at this;omega
  ·have hE:ou ⟨X,pil,(M pil:Y),0⟩:=by simp [inB] at c1;exact ⟨rfl,AI,A8,rfl⟩
   obtain ⟨s',hI,hq⟩:=ax0 _ hE
   have hm:IJ (pil,tk,got)=pil.all (λp=>inB p 0 80):=by
    simp [inB] at c1
    have h21:M pil<=21:=A0
    simp [IJ,inB,h21,c1]
   rw [hm,aUS];refine ⟨⟨hE,rfl,rfl⟩,?_⟩;rcases hq with ⟨q1,q2⟩ |⟨q1,q2,j,q3,q4⟩<;>rw [q1]
   ·rw [show DQ (M pil) (λj=>inB (gi pil j) 0 80)=U from Dq.2 q2]
    exact ⟨λh=>As,λ_=>rfl⟩
   ·rw [q2,show DQ (M pil) (λj=>inB (gi pil j) 0 80)=X from P1 j q3 q4]
    exact ⟨λ_=>rfl,λh=>As⟩
 ·cases h)
structure Np where
 p:PK
 ev:EW
def UW (s:Np):aE:=[.own 16 0]
def ZZ (s:Np):aH:=[AP,AP,zB,AP,bV 81 Ae s.p.cs,bV 70 AO s.p.ls,bV 5 (.int ax) s.p.fl,bV 126 Aq s.p.ra,bV 91 B7 s.p.st,bV 54 AO s.p.ca,bV 131 BC s.p.mi,bV 94 BU s.p.me,bV 56 Ai s.p.dm,bV 74 BP s.p.lk,bV 3 A7 s.p.dr,bV 3 A7 s.p.tg,⟨[.os 4 11 0<|M s.p.cs,.xl .str s.p.os,.xl Ak s.p.ks,.xl Af s.p.gs,.xl Al s.p.bs,.v<|ah J s.p.tk,.v<|.bool s.p.up,.os 5 5 0<|M s.p.ls,.v<|ah J s.p.se,.os 6 1 0<|M s.p.fl,.os 7 2 0<|M s.p.ra,.v<|ah J s.p.nx,.os 8 4 0<|M s.p.st,.os 9 5 0<|M s.p.ca,.os 10 3 0<|M s.p.mi,.os 11 3 0<|M s.p.me,.os 12 4 0<|M s.p.dm,.os 13 6 0<|M s.p.lk,.os 14 1 0<|M s.p.dr,.os 15 1 0<|M s.p.tg,.v<|ah J s.ev.ek,.v<|ah J s.ev.en,.v<|ah J s.ev.em,.v<|ah J s.ev.c1,.v<|ah J s.ev.c2,.v<|ah J s.ev.c3,.v<|ah J s.ev.c4,.v<|ah J s.ev.c5,.v<|.bool s.ev.d1,.v<|ah J s.ev.d2,.v<|ah J s.ev.d3,.v<|ah J s.ev.d4,.v<|.slice ak 0 0],103,.cl,X⟩]
structure Y6 where
 res:Y
 p:PK
 ev:EW
def ad1 (s:Y6):LV:=.v<|ah J s.res
def acE (s:Y6):aH:=[AP,AP,zB,AP,bV 81 Ae s.p.cs,AP,AP,AP,bV 91 B7 s.p.st,bV 54 AO s.p.ca,bV 131 BC s.p.mi,bV 94 BU s.p.me,bV 56 Ai s.p.dm,bV 74 BP s.p.lk,bV 3 A7 s.p.dr,bV 3 A7 s.p.tg,⟨[.os 4 11 0<|M s.p.cs,.xl .str s.p.os,.xl Ak s.p.ks,.xl Af s.p.gs,.xl Al s.p.bs,.v<|ah J s.p.tk,.v<|.bool s.p.up,.xl AO s.p.ls,.v<|ah J s.p.se,.xl (.int ax) s.p.fl,.xl Aq s.p.ra,.v<|ah J s.p.nx,.os 8 4 0<|M s.p.st,.os 9 5 0<|M s.p.ca,.os 10 3 0<|M s.p.mi,.os 11 3 0<|M s.p.me,.os 12 4 0<|M s.p.dm,.os 13 6 0<|M s.p.lk,.os 14 1 0<|M s.p.dr,.os 15 1 0<|M s.p.tg,.v<|ah J s.ev.ek,.v<|ah J s.ev.en,.v<|ah J s.ev.em,.v<|ah J s.ev.c1,.v<|ah J s.ev.c2,.v<|ah J s.ev.c3,.v<|ah J s.ev.c4,.v<|ah J s.ev.c5,.v<|.bool s.ev.d1,.v<|ah J s.ev.d2,.v<|ah J s.ev.d3,.v<|ah J s.ev.d4,.v<|.slice ak 0 0],103,.cl,X⟩]
def jN (s:Np):T Y6:=letI b:=(M s.p.gs:Y);letI c:=s.p.fl.drop 0;letI d:=M s.p.fl;letI e:=(au b.toNat ((0:Y),(0:Y)));letI f:=s.p.ls.drop 0;letI g:=M s.p.ls;letI h:=s.p.ra.drop 0;letI i:=M s.p.ra;letI a:=c.take d;letI j:=DO (Aj s.p.se a) s.p.tk;.br s.p.up (.rz s.p.ls<|.rz s.p.fl<|.rz s.p.ra<|.rl s.p.cs<|.pb s.p<|.ok<|⟨6,{s.p with ls:=f.take g,fl:=c.take d,ra:=h.take i},s.ev⟩)<|.rz s.p.fl<|.req (BN a)<|.br ((CZ s.p.se a) !=0) (.rz s.p.ls<|.rz s.p.fl<|.rz s.p.ra<|.rl s.p.cs<|.pb s.p<|.ok<|⟨CZ s.p.se a,{s.p with ls:=f.take g,fl:=c.take d,ra:=h.take i},s.ev⟩)<|.br (j !=0) (.rz s.p.ls<|.rz s.p.fl<|.rz s.p.ra<|.rl s.p.cs<|.pb s.p<|.ok<|⟨j,{s.p with ls:=f.take g,fl:=c.take d,ra:=h.take i},s.ev⟩)<|.rz s.p.fl<|.req (BN a)<|.br ((Ip s.p.se a) !=0) (.rz s.p.ls<|.rz s.p.fl<|.rz s.p.ra<|.rl s.p.cs<|.pb s.p<|.ok<|⟨Ip s.p.se a,{s.p with ls:=f.take g,fl:=c.take d,ra:=h.take i},s.ev⟩)<|.rm 16 b<|.rz s.p.fl<|.req (0+b.toNat<=M e)<|.rl s.p.cs<|.pb s.p<|.ok<|⟨0,{s.p with up:=U,ls:=BW (Aj s.p.se a) s.p.tk,fl:=c.take d,ra:=(e.drop 0).take b.toNat,nx:=Jd s.p.se a},s.ev⟩
def aCe (s:Np):Prop:=BN s.p.fl/\M s.p.gs<=1000
def R3 (s:Np):Y6:=⟨PK.Fq s.p,Jk (PK.Fq s.p) (PK.U8 s.p) s.p,s.ev⟩
def aCz:D4 Np Y6:=⟨UW,ZZ,λv b=>⟨rF b,rG b⟩,aCe,[0,1,3],[.pc 16 7 AO,.kb 5,.pc 16 9<|.int ax,.kb 6,.pc 16 10 Aq,.kb 7],ad1,acE,R3⟩
abbrev aiy (s:Np):Prop:=aCe s/\UW s=UW s/\ZZ s=ZZ s
def iF:aO:=[zq,gu,ajw]
def aVc:DV:=CR 57 18 2 (Kw.lp)<|CR 16 0 9 (HN.lp)<|EM prog AU (iF) 20 2
def aqK:EZ prog AU aVc:=DL func57 rfl AX KY<|DL func16 rfl AX Cv<|Hz<|gk iF
def agm (s:Np):((Em prog AU iF aVc EN).k 23 (UW s)<|ZZ s).bind (λq=>GP (M<|ZZ s) [0] [.pc 16 7 AO,.kb 5,.pc 16 9<|.int ax,.kb 6,.pc 16 10 Aq,.kb 7] .normal (q.1::UW s) q.2)=(jN s).mp (λs2=>⟨.normal,M (UW s)+1,[ad1 s2],acE s2,U⟩):=AX
def axr (s:Np) (hE:aCe s):(jN s).all (λq=>q=R3 s):=by
 obtain ⟨h1,h2⟩:=hE;unfold jN;simp only [TT];refine ⟨λc=>?_,λc=>?_⟩
 ·have he:s.p.Fq=6:=by unfold PK.Fq;rw [AD c]
  repeat (refine ⟨AI,?_⟩)
  show _=_
  unfold R3;rw [Ju ML];rw [he]
 have hu:¬s.p.up=true:=zc
 repeat (refine ⟨A0,?_⟩)
 refine ⟨λc1=>?_,λc1=>?_⟩
 ·have c1:CZ s.p.se s.p.fl≠0:=EH.1 c1
  have he:s.p.Fq=CZ s.p.se s.p.fl:=by unfold PK.Fq;rw [AE hu,AD c1]
  repeat (refine ⟨AI,?_⟩)
  show _=_
  unfold R3;rw [Ju yn];rw [he]
 have c1:¬CZ s.p.se s.p.fl≠0:=λh=>aOf
 refine ⟨λc2=>?_,λc2=>?_⟩
 ·have c2:DO (Aj s.p.se s.p.fl) s.p.tk≠0:=EH.1 c2
  have he:s.p.Fq=DO (Aj s.p.se s.p.fl) s.p.tk:=by unfold PK.Fq;rw [AE hu,AE c1,AD c2]
  repeat (refine ⟨AI,?_⟩)
  show _=_
  unfold R3;rw [Ju yn];rw [he]
 have c2:¬DO (Aj s.p.se s.p.fl) s.p.tk≠0:=λh=>by rw [EH.2 h] at c2;cases c2
 repeat (refine ⟨A0,?_⟩)
 refine ⟨λc3=>?_,λc3=>?_⟩
 ·have c3:Ip s.p.se s.p.fl≠0:=EH.1 c3
  have he:s.p.Fq=Ip s.p.se s.p.fl:=by unfold PK.Fq;rw [AE hu,AE c1,AE c2]
  repeat (refine ⟨AI,?_⟩)
  show _=_
  unfold R3;rw [Ju yn];rw [he]
 have c3:Ip s.p.se s.p.fl=0:=mK λh=>by rw [EH.2 h] at c3;cases c3
 have he:s.p.Fq=0:=by unfold PK.Fq;rw [AE hu,AE c1,AE c2,c3]
 rw [show (au (M s.p.gs:Y).toNat ((0:Y),(0:Y))).drop 0=au (M s.p.gs) (0,0) by rw [C0];rfl,C0,DS (by rw [Cf];exact Ar _)]
 repeat (refine ⟨A8,?_⟩)
 show _=_
 unfold R3;rw [Lm he];rw [he];rfl
def aiN:Dk prog AU 23 aCz.m:=D4.sound (D:=aCz) (t:=jN) (gk iF) aqK Qa agm λs hE=>⟨axr s hE⟩
def SB (c:Ca):Y:=if GF c=U then 0 else 1
def aL5:aE->T LV
 | [.v (.agg ⟨[ah J x1,ah J x2,ah J x3,ah J x4,ah J x5]⟩)]=> .ok (.AQ [.agg [.xl A7 ([]:aC),(0:Y),(0:Y)],SB (x1,x2,x3,x4,x5)])
 |_=> .no
def ahJ:aO:=[ab5]
def awl:=vo (S:=aL5) func53 ahJ kN (λargs lv h=>by
 unfold aL5 at h;split at h
 ·rename_i x1 x2 x3 x4 x5
  refine Au (.br (!(GF (x1,x2,x3,x4,x5))) (.ok<|.AQ [.agg [.xl A7 ([]:aC),(0:Y),(0:Y)],(1:Y)])<|.ok<|.AQ [.agg [.xl A7 ([]:aC),(0:Y),(0:Y)],(0:Y)]) ?_;obtain rfl:=h;unfold SB;refine ⟨λc=>?_,λc=>?_⟩
  ·rw [AE A8]
   rfl
  ·rw [AD A8]
   rfl
 ·cases h)
structure Kv where
 (i k0 k1 k2:Y)
 p:PK
 ev:EW
def Ue (s:Kv):aE:=[.own 16 0,s.i,.v<|.agg #[s.k0,s.k1,s.k2]]
def ZD (s:Kv):aH:=[AP,AP,zB,AP,bV 81 Ae s.p.cs,bV 70 AO s.p.ls,bV 5 (.int ax) s.p.fl,bV 126 Aq s.p.ra,bV 91 B7 s.p.st,bV 54 AO s.p.ca,bV 131 BC s.p.mi,bV 94 BU s.p.me,bV 56 Ai s.p.dm,bV 74 BP s.p.lk,bV 3 A7 s.p.dr,bV 3 A7 s.p.tg,⟨[.os 4 11 0<|M s.p.cs,.xl .str s.p.os,.xl Ak s.p.ks,.xl Af s.p.gs,.xl Al s.p.bs,.v<|ah J s.p.tk,.v<|.bool s.p.up,.os 5 5 0<|M s.p.ls,.v<|ah J s.p.se,.os 6 1 0<|M s.p.fl,.os 7 2 0<|M s.p.ra,.v<|ah J s.p.nx,.os 8 4 0<|M s.p.st,.os 9 5 0<|M s.p.ca,.os 10 3 0<|M s.p.mi,.os 11 3 0<|M s.p.me,.os 12 4 0<|M s.p.dm,.os 13 6 0<|M s.p.lk,.os 14 1 0<|M s.p.dr,.os 15 1 0<|M s.p.tg,.v<|ah J s.ev.ek,.v<|ah J s.ev.en,.v<|ah J s.ev.em,.v<|ah J s.ev.c1,.v<|ah J s.ev.c2,.v<|ah J s.ev.c3,.v<|ah J s.ev.c4,.v<|ah J s.ev.c5,.v<|.bool s.ev.d1,.v<|ah J s.ev.d2,.v<|ah J s.ev.d3,.v<|ah J s.ev.d4,.v<|.slice ak 0 0],103,.cl,X⟩,AP,AP]
structure Xw where
 res:Y
 p:PK
 ev:EW
def ad9 (s:Xw):LV:=.v<|ah J s.res
def acN (s:Xw):aH:=[AP,AP,zB,AP,bV 81 Ae s.p.cs,bV 70 AO s.p.ls,bV 5 (.int ax) s.p.fl,bV 126 Aq s.p.ra,bV 91 B7 s.p.st,bV 54 AO s.p.ca,bV 131 BC s.p.mi,bV 94 BU s.p.me,bV 56 Ai s.p.dm,bV 74 BP s.p.lk,bV 3 A7 s.p.dr,bV 3 A7 s.p.tg,⟨[.os 4 11 0<|M s.p.cs,.xl .str s.p.os,.xl Ak s.p.ks,.xl Af s.p.gs,.xl Al s.p.bs,.v<|ah J s.p.tk,.v<|.bool s.p.up,.os 5 5 0<|M s.p.ls,.v<|ah J s.p.se,.os 6 1 0<|M s.p.fl,.os 7 2 0<|M s.p.ra,.v<|ah J s.p.nx,.os 8 4 0<|M s.p.st,.os 9 5 0<|M s.p.ca,.os 10 3 0<|M s.p.mi,.os 11 3 0<|M s.p.me,.os 12 4 0<|M s.p.dm,.os 13 6 0<|M s.p.lk,.os 14 1 0<|M s.p.dr,.os 15 1 0<|M s.p.tg,.v<|ah J s.ev.ek,.v<|ah J s.ev.en,.v<|ah J s.ev.em,.v<|ah J s.ev.c1,.v<|ah J s.ev.c2,.v<|ah J s.ev.c3,.v<|ah J s.ev.c4,.v<|ah J s.ev.c5,.v<|.bool s.ev.d1,.v<|ah J s.ev.d2,.v<|ah J s.ev.d3,.v<|ah J s.ev.d4,.v<|.slice ak 0 0],103,.cl,X⟩,AP,AP]
def zv (s:Kv):T Xw:=letI c:=s.p.st.getD s.i.toNat<|Ty.dflt B7;letI d:=M s.p.st;letI a:=sE (AG s.p.gs s.i) c s.k0 s.k1 s.k2;letI b:=sN (AG s.p.gs s.i) c s.k0 s.k1 s.k2;.ix s.i (M s.p.gs)<|.ik s.i d<|.br (a==0) (.ik s.i d<|.pa s.p<|.re d (s.p.st.set s.i.toNat b)<|.rl s.p.ca<|.rl s.p.mi<|.rl s.p.me<|.rl s.p.dm<|.rl s.p.lk<|.rl s.p.dr<|.rl s.p.tg<|.ok<|⟨a,{s.p with st:=s.p.st.set s.i.toNat b},s.ev⟩)<|.pc s.p<|.ok<|⟨a,s.p,s.ev⟩
def aCm (s:Kv):Prop:=0<=s.i/\s.i<(M s.p.gs:Y)/\M s.p.st=M s.p.gs
def jf (s:Kv):Xw:=⟨sE (AG s.p.gs s.i) (BL s.p.st s.i) s.k0 s.k1 s.k2,{s.p with st:=CU s.p.gs s.p.st s.i s.k0 s.k1 s.k2},s.ev⟩
def aD6:D4 Kv Xw:=⟨Ue,ZD,λv b=>⟨AL v 1,gI<|ED (v.getD 2 .junk) 0,gI<|ED (v.getD 2 .junk) 1,gI<|ED (v.getD 2 .junk) 2,rF b,rG b⟩,aCm,[0,1,3,17,18],[],ad9,acN,jf⟩
abbrev iq (s:Kv):Prop:=aCm s/\Ue s=Ue s/\ZD s=ZD s
def iE:aO:=[R6]
def aUv:DV:=CR 57 18 2 (Kw.lp)<|CR 16 0 9 (HN.lp)<|EM prog AU (iE) 20 2
def aqS:EZ prog AU aUv:=DL func57 rfl AX KY<|DL func16 rfl AX Cv<|Hz<|gk iE
def agw (s:Kv):((Em prog AU iE aUv EN).k 56 (Ue s)<|ZD s).bind (λq=>GP (M<|ZD s) [0] [] .normal (q.1::Ue s) q.2)=(zv s).mp (λs2=>⟨.normal,M (Ue s)+1,[ad9 s2],acN s2,U⟩):=AX
def axz (s:Kv) (hE:aCm s):(zv s).all (λq=>q=jf s):=by
 obtain ⟨h0,h1,h2⟩:=hE;refine ⟨A0,A0,A0,λc=>?_,λc=>?_⟩
 ·have c:=eq_of_beq c
  have hg:CU s.p.gs s.p.st s.i s.k0 s.k1 s.k2=_:=AD c
  repeat (refine ⟨A8,?_⟩)
  unfold jf;rw [hg];rfl
 ·have c:=CV.1 c
  have hg:CU s.p.gs s.p.st s.i s.k0 s.k1 s.k2=s.p.st:=AE c
  repeat (refine ⟨AI,?_⟩)
  unfold jf;rw [hg];rfl
def aiV:Dk prog AU 56 aD6.m:=D4.sound (D:=aD6) (t:=zv) (gk iE) aqS Qa agw λs hE=>⟨axz s hE⟩
structure Nq where
 p:PK
 ev:EW
def UX (s:Nq):aE:=[.own 16 0]
def Za (s:Nq):aH:=[AP,AP,zB,AP,bV 81 Ae s.p.cs,bV 70 AO s.p.ls,bV 5 (.int ax) s.p.fl,bV 126 Aq s.p.ra,bV 91 B7 s.p.st,bV 54 AO s.p.ca,bV 131 BC s.p.mi,bV 94 BU s.p.me,bV 56 Ai s.p.dm,bV 74 BP s.p.lk,bV 3 A7 s.p.dr,bV 3 A7 s.p.tg,⟨[.os 4 11 0<|M s.p.cs,.xl .str s.p.os,.xl Ak s.p.ks,.xl Af s.p.gs,.xl Al s.p.bs,.v<|ah J s.p.tk,.v<|.bool s.p.up,.os 5 5 0<|M s.p.ls,.v<|ah J s.p.se,.os 6 1 0<|M s.p.fl,.os 7 2 0<|M s.p.ra,.v<|ah J s.p.nx,.os 8 4 0<|M s.p.st,.os 9 5 0<|M s.p.ca,.os 10 3 0<|M s.p.mi,.os 11 3 0<|M s.p.me,.os 12 4 0<|M s.p.dm,.os 13 6 0<|M s.p.lk,.os 14 1 0<|M s.p.dr,.os 15 1 0<|M s.p.tg,.v<|ah J s.ev.ek,.v<|ah J s.ev.en,.v<|ah J s.ev.em,.v<|ah J s.ev.c1,.v<|ah J s.ev.c2,.v<|ah J s.ev.c3,.v<|ah J s.ev.c4,.v<|ah J s.ev.c5,.v<|.bool s.ev.d1,.v<|ah J s.ev.d2,.v<|ah J s.ev.d3,.v<|ah J s.ev.d4,.v<|.slice ak 0 0],103,.cl,X⟩]
structure Y7 where
 res:Y
 p:PK
 ev:EW
def ad2 (s:Y7):LV:=.v<|ah J s.res
def acF (s:Y7):aH:=[AP,AP,zB,AP,bV 81 Ae s.p.cs,bV 70 AO s.p.ls,bV 5 (.int ax) s.p.fl,bV 126 Aq s.p.ra,bV 91 B7 s.p.st,bV 54 AO s.p.ca,bV 131 BC s.p.mi,bV 94 BU s.p.me,bV 56 Ai s.p.dm,bV 74 BP s.p.lk,bV 3 A7 s.p.dr,bV 3 A7 s.p.tg,⟨[.os 4 11 0<|M s.p.cs,.xl .str s.p.os,.xl Ak s.p.ks,.xl Af s.p.gs,.xl Al s.p.bs,.v<|ah J s.p.tk,.v<|.bool s.p.up,.os 5 5 0<|M s.p.ls,.v<|ah J s.p.se,.os 6 1 0<|M s.p.fl,.os 7 2 0<|M s.p.ra,.v<|ah J s.p.nx,.os 8 4 0<|M s.p.st,.os 9 5 0<|M s.p.ca,.os 10 3 0<|M s.p.mi,.os 11 3 0<|M s.p.me,.os 12 4 0<|M s.p.dm,.os 13 6 0<|M s.p.lk,.os 14 1 0<|M s.p.dr,.os 15 1 0<|M s.p.tg,.v<|ah J s.ev.ek,.v<|ah J s.ev.en,.v<|ah J s.ev.em,.v<|ah J s.ev.c1,.v<|ah J s.ev.c2,.v<|ah J s.ev.c3,.v<|ah J s.ev.c4,.v<|ah J s.ev.c5,.v<|.bool s.ev.d1,.v<|ah J s.ev.d2,.v<|ah J s.ev.d3,.v<|ah J s.ev.d4,.v<|.slice ak 0 0],103,.cl,X⟩]
def jO (s:Nq):T Y7:=letI c:=(s.p.mi.set s.ev.en.toNat (([]:aC),((0:Y),(0:Y))));letI f:=(CU s.p.gs s.p.st s.ev.en (1:Y) (0:Y) (0:Y));letI g:=(s.ev.c1,(s.ev.c2,(s.ev.c3,(s.ev.c4,s.ev.c5))));letI i:=(s.ev.d1,(s.ev.d2,(s.ev.d3,s.ev.d4)));letI j:=M s.p.ca;letI a:=s.p.ca.set s.ev.en.toNat g;letI b:=s.p.dm.set s.ev.en.toNat i;letI d:=(CU s.p.gs f s.ev.en (3:Y) (0:Y) (0:Y));letI e:=(CU s.p.gs d s.ev.en (4:Y) (1:Y) (0:Y));letI h:=(CU s.p.gs e s.ev.en (5:Y) (0:Y) (0:Y));.br (!(inB s.ev.en (0:Y)<|AA<|(M s.p.gs:Y)-1)) (.pc s.p<|.ok<|⟨1,s.p,s.ev⟩)<|.br ((SB (s.ev.c1,s.ev.c2,s.ev.c3,s.ev.c4,s.ev.c5)) !=0) (.pc s.p<|.ok<|⟨1,s.p,s.ev⟩)<|.br (!((inB s.ev.d2 (0:Y) (1000000000:Y))&&((inB s.ev.d3 (0:Y) (1000000:Y))&&(inB s.ev.d4 (1:Y) (9:Y))))) (.pc s.p<|.ok<|⟨1,s.p,s.ev⟩)<|.ik s.ev.en j<|.br ((s.p.ca.getD s.ev.en.toNat<|Ty.dflt AO).2.2.1 !=0) (.pc s.p<|.ok<|⟨6,s.p,s.ev⟩)<|.ik s.ev.en (M s.p.st)<|.br ((s.p.st.getD s.ev.en.toNat<|Ty.dflt B7).1 !=0) (.pc s.p<|.ok<|⟨6,s.p,s.ev⟩)<|.ik s.ev.en j<|.ik s.ev.en (M s.p.mi)<|.ik s.ev.en (M s.p.dm)<|.pa s.p<|.rl s.p.st<|.re j a<|.re (M s.p.mi) c<|.rl s.p.me<|.re (M s.p.dm) b<|.rl s.p.lk<|.rl s.p.dr<|.rl s.p.tg<|.req (iq (⟨s.ev.en,1,0,0,{s.p with ca:=s.p.ca.set s.ev.en.toNat g,mi:=s.p.mi.set s.ev.en.toNat (([]:aC),((0:Y),(0:Y))),dm:=s.p.dm.set s.ev.en.toNat i},s.ev⟩:Kv))<|.pa s.p<|.rl f<|.rl a<|.rl c<|.rl s.p.me<|.rl b<|.rl s.p.lk<|.rl s.p.dr<|.rl s.p.tg<|.req (iq (⟨s.ev.en,3,0,0,{s.p with st:=f,ca:=a,mi:=c,dm:=b},s.ev⟩:Kv))<|.pa s.p<|.rl d<|.rl a<|.rl c<|.rl s.p.me<|.rl b<|.rl s.p.lk<|.rl s.p.dr<|.rl s.p.tg<|.req (iq (⟨s.ev.en,4,1,0,{s.p with st:=d,ca:=a,mi:=c,dm:=b},s.ev⟩:Kv))<|.pa s.p<|.rl e<|.rl a<|.rl c<|.rl s.p.me<|.rl b<|.rl s.p.lk<|.rl s.p.dr<|.rl s.p.tg<|.req (iq (⟨s.ev.en,5,0,0,{s.p with st:=e,ca:=a,mi:=c,dm:=b},s.ev⟩:Kv))<|.pa s.p<|.rl h<|.rl a<|.rl c<|.rl s.p.me<|.rl b<|.rl s.p.lk<|.rl s.p.dr<|.rl s.p.tg<|.ok<|⟨0,{s.p with st:=h,ca:=a,mi:=c,dm:=b},s.ev⟩
def aQm {c:Ca}:SB c=0↔GF c=true:=by
 unfold SB
 grind
def aCf (s:Nq):Prop:=M s.p.st=M s.p.gs/\M s.p.gs<=1000/\M s.p.ca=M s.p.gs/\M s.p.mi=M s.p.gs/\M s.p.dm=M s.p.gs
def Px (s:Nq):Y7:=⟨PK.GM s.p s.ev.en (EW.c s.ev)<|EW.d s.ev,Jk (PK.GM s.p s.ev.en (EW.c s.ev)<|EW.d s.ev) (PK.Nt s.p s.ev.en (EW.c s.ev)<|EW.d s.ev) s.p,s.ev⟩
def aD0:D4 Nq Y7:=⟨UX,Za,λv b=>⟨rF b,rG b⟩,aCf,[0,1,3],[],ad2,acF,Px⟩
abbrev aiz (s:Nq):Prop:=aCf s/\UX s=UX s/\Za s=Za s
def X9:aO:=[U4,awl]
def aTC:Az:=IL X9 (la 2 func57 KY<|la 9 func16 Cv<|l0 X9) [⟨56,aD6.m,aiV⟩]
def aVd:DV:=CR 57 18 2 (Kw.lp)<|CR 16 0 9 (HN.lp)<|EM prog AU X9 20 2
def aqL:EZ prog AU aVd:=DL func57 rfl AX KY<|DL func16 rfl AX Cv<|Hz<|gk X9
def agn (s:Nq):((Em prog AU X9 aVd aTC).k 19 (UX s)<|Za s).bind (λq=>GP (M<|Za s) [0] [] .normal (q.1::UX s) q.2)=(jO s).mp (λs2=>⟨.normal,M (UX s)+1,[ad2 s2],acF s2,U⟩):=AX
def axs (s:Nq) (hE:aCf s):(jO s).all (λq=>q=Px s):=by
 obtain ⟨h1,h2,h3,h4,h5⟩:=hE;unfold jO;rw [ff h2];refine ⟨λc=>?_,λc=>?_⟩
 ·have c:s.p.isC s.ev.en=false:=QT
  have he:s.p.GM s.ev.en s.ev.c s.ev.d=1:=AD c
  repeat (refine ⟨MK,?_⟩)
  show _=_
  unfold Px;rw [Ju ML];rw [he]
 have c:s.p.isC s.ev.en=true:=QT
 have ci:=BO.1 c
 have ci2:s.ev.en<(M s.p.gs:Y):=A0
 have hc:¬s.p.isC s.ev.en=false:=zc
 have bad:(!GF s.ev.c || !HE s.ev.d)=U->s.p.GM s.ev.en s.ev.c s.ev.d=1:=λh=>by unfold PK.GM;rw [AE hc,AD h]
 refine ⟨λc1=>?_,λc1=>⟨λc2=>?_,λc2=>?_⟩⟩
 ·have c1:¬SB s.ev.c=0:=EH.1 c1
  have c1:GF s.ev.c=false:=by rw [aQm] at c1;simpa using c1
  have he:=bad (by rw [c1];rfl)
  repeat (refine ⟨MK,?_⟩)
  show _=_
  unfold Px;rw [Ju ML];rw [he]
 ·have c2:(!HE s.ev.d)=true:=c2
  have he:=bad<|by rw [c2,OY]
  repeat (refine ⟨MK,?_⟩)
  show _=_
  unfold Px;rw [Ju ML];rw [he]
 have c1:GF s.ev.c=true:=aQm.1 (mK λh=>by rw [show (SB (s.ev.c1,s.ev.c2,s.ev.c3,s.ev.c4,s.ev.c5) !=0)=U from EH.2 h] at c1;cases c1)
 have c2:(!HE s.ev.d)=false:=c2
 have hb:¬(!GF s.ev.c || !HE s.ev.d)=true:=by rw [c1,c2];decide
 have six:((Be s.p.ca s.ev.en).2.2.1 !=0 ||(BL s.p.st s.ev.en).1 !=0)=U->s.p.GM s.ev.en s.ev.c s.ev.d=6:=λh=>by unfold PK.GM;rw [AE hc,AE hb,AD h]
 repeat (refine ⟨MK,?_⟩)
 refine ⟨λc3=>?_,λc3=>?_⟩
 ·have c3:((Be s.p.ca s.ev.en).2.2.1 !=0)=true:=c3
  have he:=six (by rw [c3];rfl)
  repeat (refine ⟨MK,?_⟩)
  show _=_
  unfold Px;rw [Ju ML];rw [he]
 repeat (refine ⟨MK,?_⟩)
 refine ⟨λc4=>?_,λc4=>?_⟩
 ·have c4:((BL s.p.st s.ev.en).1 !=0)=true:=c4
  have he:=six<|by rw [c4,OY]
  repeat (refine ⟨MK,?_⟩)
  show _=_
  unfold Px;rw [Ju ML];rw [he]
 have c3:((Be s.p.ca s.ev.en).2.2.1 !=0)=false:=c3
 have c4:((BL s.p.st s.ev.en).1 !=0)=false:=c4
 have he:s.p.GM s.ev.en s.ev.c s.ev.d=0:=by unfold PK.GM;rw [AE hc,AE hb,c3,c4];rfl
 have hg:∀(l:bg) (k n m:Y),M l=M s.p.gs->M (CU s.p.gs l s.ev.en k n m)=M s.p.gs:=λl k n m h=>by rw [JC];exact h
 repeat (refine ⟨MK,?_⟩)
 refine ⟨⟨⟨ci.1,ci2,h1⟩,rfl,rfl⟩,?_⟩
 repeat (refine ⟨MK,?_⟩)
 refine ⟨⟨⟨ci.1,ci2,hg _ _ _ _ h1⟩,rfl,rfl⟩,?_⟩
 repeat (refine ⟨MK,?_⟩)
 refine ⟨⟨⟨ci.1,ci2,hg _ _ _ _<|hg _ _ _ _ h1⟩,rfl,rfl⟩,?_⟩
 repeat (refine ⟨MK,?_⟩)
 refine ⟨⟨⟨ci.1,ci2,hg _ _ _ _<|hg _ _ _ _<|hg _ _ _ _ h1⟩,rfl,rfl⟩,?_⟩
 repeat (refine ⟨AI,?_⟩)
 show _=_
 unfold Px;rw [Lm he];rw [he];rfl
def aiO:Dk prog AU 19 aD0.m:=D4.sound (D:=aD0) (t:=jO) (gk X9) aqL aTC.h agn λs hE=>⟨axs s hE⟩
structure PV where
 (n i:Y)
 p:PK
 ev:EW
 Bf:aF
 C6:aR
 BQ:aG
 C7:aS
 o:aL
def aAt (s:PV):T (Rd PV):=letI b:=s.o.getD s.i.toNat<|Ty.dflt Ae;letI a:=(s.o.set s.i.toNat (b.1,(b.2.1,((s.p.tg.getD s.i.toNat<|Ty.dflt A7),b.2.2.2))));.br (aq<|s.i<s.n) (.ik s.i (M s.p.tg)<|.ik s.i (M s.o)<|.rl s.p.tg<|.pc s.p<|.re (M s.o) a<|.nx {s with i:=AA<|s.i+1,o:=a})<|.rl s.p.tg<|.pc s.p<|.rl s.o<|.so (.exit 0) s
def lq (s:PV):Prop:=s.i=0/\s.n=(M s.p.tg:Y)/\M s.p.tg=M s.p.cs/\s.n<=1000/\s.o=Dz s.p.cs s.p.tg s.i.toNat
def Yd (s:PV):Prop:=(0<=s.i/\s.i<=s.n)/\s.n=(M s.p.tg:Y)/\M s.p.tg=M s.p.cs/\s.n<=1000/\s.o=Dz s.p.cs s.p.tg s.i.toNat
def um (s:PV):aD:=(s.n-s.i).toNat
def aBu (x:Ex) (s s':PV):Prop:=x=.exit 0/\s'.o=Dz s'.p.cs s'.p.tg (M s'.p.tg)
def ano:∀s,lq s->Yd s:=by
 exact aNS
def aiF:Da Yd um aBu aAt:=by
 intro s hI;obtain ⟨⟨h0,h1⟩,h2,h3,h4,h5⟩:=hI
 have hl:M s.o=M s.p.cs:=nz
 refine AH (λc1=>?_) λc1=>?_
 ·have c1:s.i<s.n:=A8
  rw [AJ (x:=s.i+1)];refine ⟨⟨⟨A8,A8⟩,h2,h3,h4,?_⟩,by simp only [um];omega⟩
  exact aMF
 ·have c1:s.n<=s.i:=A8
  refine ⟨rfl,?_⟩
  grind
def UO:AS PV:=⟨17,34,[2,3,19,20,21],[],λs=>[.own 17 0,.own 18 0,.os 15 1 0<|M s.p.tg,s.n,s.i],λs=>[AP,AP,zB,AP,bV 81 Ae s.p.cs,bV 70 AO s.p.ls,bV 5 (.int ax) s.p.fl,bV 126 Aq s.p.ra,bV 91 B7 s.p.st,bV 54 AO s.p.ca,bV 131 BC s.p.mi,bV 94 BU s.p.me,bV 56 Ai s.p.dm,bV 74 BP s.p.lk,bV 3 A7 s.p.dr,bV 3 A7 s.p.tg,⟨[.os 4 11 0<|M s.p.cs,.xl .str s.p.os,.xl Ak s.p.ks,.xl Af s.p.gs,.xl Al s.p.bs,.v<|ah J s.p.tk,.v<|.bool s.p.up,.os 5 5 0<|M s.p.ls,.v<|ah J s.p.se,.os 6 1 0<|M s.p.fl,.os 7 2 0<|M s.p.ra,.v<|ah J s.p.nx,.os 8 4 0<|M s.p.st,.os 9 5 0<|M s.p.ca,.os 10 3 0<|M s.p.mi,.os 11 3 0<|M s.p.me,.os 12 4 0<|M s.p.dm,.os 13 6 0<|M s.p.lk,.os 14 1 0<|M s.p.dr,.os 15 1 0<|M s.p.tg,.v<|ah J s.ev.ek,.v<|ah J s.ev.en,.v<|ah J s.ev.em,.v<|ah J s.ev.c1,.v<|ah J s.ev.c2,.v<|ah J s.ev.c3,.v<|ah J s.ev.c4,.v<|ah J s.ev.c5,.v<|.bool s.ev.d1,.v<|ah J s.ev.d2,.v<|ah J s.ev.d3,.v<|ah J s.ev.d4,.v<|.slice ak 0 0],103,.cl,X⟩,⟨[.v<|.slice ak 0 0,.v<|.slice ak 0 0,.v<|.slice ak 0 0,.v<|.slice ak 0 0,.v<|.slice ak 0 0],28,.cl,X⟩,⟨[.os 19 11 0<|M s.o,s.Bf,s.C6,s.BQ,s.C7],28,.cl,X⟩,bV 81 Ae s.o],λv b=>⟨AL v 3,AL v 4,rF b,rG b,AF .str b 18 1,AF Ak b 18 2,AF Af b 18 3,AF Al b 18 4,Ab Ae b 19⟩,aAt,λs r=> {s with i:=r.i,o:=r.o},λs=>s,λ_ s=>s,[.exit 0],lq,Yd,um⟩
abbrev dt:=UO.run
abbrev aua:=UO.Av
def PE:aO:=[gN,U4]
def ahe:Az:=kI PE<|la 2 func57 KY<|la 9 func16 Cv<|l0 PE
def azi:Rq Yd aAt:=by
 intro s hI;refine ⟨λc1=>⟨?_,?_,?_,?_,A9,A9,A9,A9,A9,A9,A9,A9,A9,A9,A9,A9,A9,?_,an⟩,λc1=>⟨A9,A9,A9,A9,A9,A9,A9,A9,A9,A9,A9,A9,A9,A9,an⟩⟩
 all_goals ((obtain ⟨⟨h0,h1⟩,h2,h3,h4,h5⟩:=hI;have hl:M s.o=M s.p.cs:=nz;(try simp only [Aa] at c1);first|omega|exact ⟨rfl,rfl⟩ |exact ⟨rfl,AI⟩))
def aRv:UO.Ok:={}
def aRY:UO.Pf (aBu):=⟨ano,λs h=>rfl,aiF,azi⟩
def aIR:=s2 (b:=bN f62 0) aRv aRY PE ahe
def avP:Fi lq Yd aBu aua dt:=AS.fin aRv aRY
structure Ms where
 p:PK
 ev:EW
def Ub (s:Ms):aE:=[.own 16 0]
def ZA (s:Ms):aH:=[AP,AP,zB,AP,bV 81 Ae s.p.cs,bV 70 AO s.p.ls,bV 5 (.int ax) s.p.fl,bV 126 Aq s.p.ra,bV 91 B7 s.p.st,bV 54 AO s.p.ca,bV 131 BC s.p.mi,bV 94 BU s.p.me,bV 56 Ai s.p.dm,bV 74 BP s.p.lk,bV 3 A7 s.p.dr,bV 3 A7 s.p.tg,⟨[.os 4 11 0<|M s.p.cs,.xl .str s.p.os,.xl Ak s.p.ks,.xl Af s.p.gs,.xl Al s.p.bs,.v<|ah J s.p.tk,.v<|.bool s.p.up,.os 5 5 0<|M s.p.ls,.v<|ah J s.p.se,.os 6 1 0<|M s.p.fl,.os 7 2 0<|M s.p.ra,.v<|ah J s.p.nx,.os 8 4 0<|M s.p.st,.os 9 5 0<|M s.p.ca,.os 10 3 0<|M s.p.mi,.os 11 3 0<|M s.p.me,.os 12 4 0<|M s.p.dm,.os 13 6 0<|M s.p.lk,.os 14 1 0<|M s.p.dr,.os 15 1 0<|M s.p.tg,.v<|ah J s.ev.ek,.v<|ah J s.ev.en,.v<|ah J s.ev.em,.v<|ah J s.ev.c1,.v<|ah J s.ev.c2,.v<|ah J s.ev.c3,.v<|ah J s.ev.c4,.v<|ah J s.ev.c5,.v<|.bool s.ev.d1,.v<|ah J s.ev.d2,.v<|ah J s.ev.d3,.v<|ah J s.ev.d4,.v<|.slice ak 0 0],103,.cl,X⟩]
def T1 (s:Ms):PV:=(⟨((M s.p.tg:aD):Y),0,{s.p with tg:=s.p.tg.set s.ev.en.toNat s.ev.em},s.ev,s.p.os,s.p.ks,s.p.gs,s.p.bs,BG ((s.p.cs.drop 0).take<|M s.p.cs)<|au ((M s.p.cs:aD):Y).toNat (ByteArray.empty,((0:Y),((0:Y),((0:Y),(((0:Y),(0:Y)),((0:Y),((0:Y),((0:Y),((0:Y),(0:Y))))))))))⟩:PV)
structure Xt where
 res:Y
 p:PK
 ev:EW
def ad6 (s:Xt):LV:=.v<|ah J s.res
def acK (s:Xt):aH:=[AP,AP,zB,AP,bV 81 Ae s.p.cs,bV 70 AO s.p.ls,bV 5 (.int ax) s.p.fl,bV 126 Aq s.p.ra,bV 91 B7 s.p.st,bV 54 AO s.p.ca,bV 131 BC s.p.mi,bV 94 BU s.p.me,bV 56 Ai s.p.dm,bV 74 BP s.p.lk,bV 3 A7 s.p.dr,bV 3 A7 s.p.tg,⟨[.os 4 11 0<|M s.p.cs,.xl .str s.p.os,.xl Ak s.p.ks,.xl Af s.p.gs,.xl Al s.p.bs,.v<|ah J s.p.tk,.v<|.bool s.p.up,.os 5 5 0<|M s.p.ls,.v<|ah J s.p.se,.os 6 1 0<|M s.p.fl,.os 7 2 0<|M s.p.ra,.v<|ah J s.p.nx,.os 8 4 0<|M s.p.st,.os 9 5 0<|M s.p.ca,.os 10 3 0<|M s.p.mi,.os 11 3 0<|M s.p.me,.os 12 4 0<|M s.p.dm,.os 13 6 0<|M s.p.lk,.os 14 1 0<|M s.p.dr,.os 15 1 0<|M s.p.tg,.v<|ah J s.ev.ek,.v<|ah J s.ev.en,.v<|ah J s.ev.em,.v<|ah J s.ev.c1,.v<|ah J s.ev.c2,.v<|ah J s.ev.c3,.v<|ah J s.ev.c4,.v<|ah J s.ev.c5,.v<|.bool s.ev.d1,.v<|ah J s.ev.d2,.v<|ah J s.ev.d3,.v<|ah J s.ev.d4,.v<|.slice ak 0 0],103,.cl,X⟩]
def jR (s:Ms):T Xt:=letI a:=s.p.tg.set s.ev.en.toNat s.ev.em;letI b:=(ByteArray.empty,((0:Y),((0:Y),((0:Y),(((0:Y),(0:Y)),((0:Y),((0:Y),((0:Y),((0:Y),(0:Y))))))))));letI c:=((M s.p.cs:aD):Y);letI d:=((dt<|T1 s).o.drop 0).take<|M (dt<|T1 s).o;letI e:=(s.p.cs.drop 0).take<|M s.p.cs;letI f:=M s.p.tg;.br (!(inB s.ev.en (0:Y)<|AA<|c-1)) (.pc s.p<|.ok<|⟨1,s.p,s.ev⟩)<|.ik s.ev.en (M s.p.cs)<|.br (!(inB s.ev.em (1:Y) (s.p.cs.getD s.ev.en.toNat<|Ty.dflt Ae).2.2.1)) (.pc s.p<|.ok<|⟨1,s.p,s.ev⟩)<|.ik s.ev.en f<|.rm 96 c<|.rz s.p.cs<|.rc c b (M e)<|.re f a<|.pa s.p<|.rl s.p.st<|.rl s.p.ca<|.rl s.p.mi<|.rl s.p.me<|.rl s.p.dm<|.rl s.p.lk<|.rl s.p.dr<|.re f a<|.re c.toNat (BG e<|au c.toNat b)<|.req (UO.q<|T1 s)<|.rz (dt<|T1 s).o<|.req (BB d s.p.os s.p.ks s.p.gs s.p.bs=U)<|.br (!DA d s.p.gs (Bq s.p.gs)) (.pa s.p<|.rl s.p.st<|.rl s.p.ca<|.rl s.p.mi<|.rl s.p.me<|.rl s.p.dm<|.rl s.p.lk<|.rl s.p.dr<|.rl a<|.ok<|⟨13,{s.p with tg:=a},s.ev⟩)<|.pa s.p<|.rl s.p.st<|.rl s.p.ca<|.rl s.p.mi<|.rl s.p.me<|.rl s.p.dm<|.rl s.p.lk<|.rl s.p.dr<|.rl a<|.ok<|⟨0,{s.p with tg:=a},s.ev⟩
def VP.der {p:PK}(h:VP p) {n m:Y}(hn:inB n 0 ((M p.cs:Y)-1)=U) (hm:inB m 1 (Ad p.cs n).2.2.1=U):BB (p.LF n m).EA p.os p.ks p.gs p.bs=U/\M (p.LF n m).tg=M p.cs:=by
 have hn:=BO.1 hn
 have hm:=BO.1 hm
 have hl:M (p.LF n m).tg=M p.cs:=by show M (p.tg.set n.toNat m)=_;rw [C5];exact h.Es
 have hk:=iC h.site (k:=n.toNat) A0
 rw [CS hn.1] at hk;refine ⟨qG h.site (λk hk2=>?_) _ A0,hl⟩
 show 1<=gi (p.tg.set n.toNat m) k/\gi (p.tg.set n.toNat m) k<=1000
 rw [J7 hn.1 (by have:=h.Es;omega) A0]
 split
 ·omega
 ·exact h.tg1 k hk2
def aCj (s:Ms):Prop:=VP s.p
def UB (s:Ms):Xt:=⟨PK.I7 s.p s.ev.en s.ev.em,{s.p with tg:=if PK.I7 s.p s.ev.en s.ev.em=1 then s.p.tg else s.p.tg.set s.ev.en.toNat s.ev.em},s.ev⟩
def aD4:D4 Ms Xt:=⟨Ub,ZA,λv b=>⟨rF b,rG b⟩,aCj,[0,1,3],[],ad6,acK,UB⟩
abbrev aj3 (s:Ms):Prop:=aCj s/\Ub s=Ub s/\ZA s=ZA s
def aTB:Az:=kI PE<|la 4 func62 aIR<|la 2 func57 KY<|la 9 func16 Cv<|l0 PE
def aVh:DV:=CR 62 17 4 (UO.lp)<|CR 57 18 2 (Kw.lp)<|CR 16 0 9 (HN.lp)<|EM prog AU PE 20 2
def aqP:EZ prog AU aVh:=DL func62 rfl AX aIR<|DL func57 rfl AX KY<|DL func16 rfl AX Cv<|Hz<|gk PE
def ags (s:Ms):((Em prog AU PE aVh aTB).k 25 (Ub s)<|ZA s).bind (λq=>GP (M<|ZA s) [0] [] .normal (q.1::Ub s) q.2)=(jR s).mp (λs2=>⟨.normal,M (Ub s)+1,[ad6 s2],acK s2,U⟩):=AX
end Go.Proofs.YtepoohnehmfflaaGreatDoor
end
