/- Helpers for ParkLimits. Conditions: none. -/
import Derived.Test.YtjdlmobanmhohaaGreatDoorQr3
set_option linter.defProp false
set_option linter.unusedVariables false
set_option linter.unusedSimpArgs false
noncomputable section
open List renaming length→M,length→aa,replicate→aq,range→au
open Bool renaming true→U,true→ae,false→X,false→af
open Go.Value renaming int→ag
open Option renaming some→ah,none→aj
open Go.IntKind renaming i64→J,i64→ai,u8→aw,u32→ax
open True renaming intro→ak
open Decidable renaming decide→an
open ByteArray renaming mk→av
open Go.Region renaming ready→ay,wanted→az
open Go.Instr renaming findNow→aA
namespace Go.Proofs.YtjdlmobanmhohaaGreatDoor
set_option maxRecDepth 100000
set_option maxHeartbeats 4000000
open Go.Proofs.Tryz
open Go.Sx
def aK8:aVy->T LV
 | [.v (.agg ⟨[.string nm,ag J at_,ag J ph,ag J mn,ag J mx,ag J st,ag J fb,ag J ow]⟩),.v (.agg ⟨[ag J a,ag J si]⟩),.v (ag J want)]=> .tu #[.agg #[nA ph mn mx st fb a si want,nS ph mn mx st fb a si want],nE ph mn mx st fb a si want]
 |_=> .no
def amG:aVI:=[aVa,aPc,ajv,aju,ajt,ajs,aq1]
def avu:=vo (S:=aK8) func111 amG kN (λargs lv h=>by
 unfold aK8 at h;split at h
 ·rename_i nm at_ ph mn mx st fb ow a si want
  refine At (letI d:=C1 mn mx st want;letI e:=an<|si>=5;letI c:=(V6<|(if (a !=0) then (1:Y) else 0).toNat*4+((if (d !=0) then (1:Y) else 0).toNat*2+((if e then (1:Y) else 0).toNat*1+0)));.br ((!(IF ph mn mx st fb a si)) ||((an<|want<0) ||(an<|want>80))) (.tu #[.agg #[(0:Y),(0:Y)],(1:Y)])<|.req (EB mn mx st)<|.req (0<=(if (a !=0) then (1:Y) else 0)/\(if (a !=0) then (1:Y) else 0)<(2:Y))<|.req (0<=(if (d !=0) then (1:Y) else 0)/\(if (d !=0) then (1:Y) else 0)<(2:Y))<|.req (0<=(if e then (1:Y) else 0)/\(if e then (1:Y) else 0)<(2:Y))<|.br (c==0) (.tu #[.agg #[mn,(0:Y)],(0:Y)])<|.br (c==1) (.tu #[.agg #[(0:Y),ag J (if (1000000:Y)<(AA<|si+1) then 1000000 else AA (si+1))],(0:Y)])<|.br (c==2) (.tu #[.agg #[(0:Y),(0:Y)],(0:Y)])<|.br (c==3) (.tu #[.agg #[ag J (if AA (a+st)<d then AA (a+st) else d),ag J (if (1000000:Y)<(AA<|si+1) then 1000000 else AA (si+1))],(0:Y)])<|.no) ?_
  obtain rfl:=h
  by_cases hk:okB ph mn mx st fb a si want=U
  ·obtain ⟨k1,k2,k3,k4,k5⟩:=aIC hk
   have w1:AA (si+1)=si+1:=AJ
   have w2:AA (a+st)=a+st:=AJ
   have i0:∀b:aVH,0<=(if b=U then (1:Y) else 0)/\(if b=U then (1:Y) else 0)<2:=λb=>by cases b<;>simp
   simp only [T.all,nA,nS,nE,k1,w1,w2,hk,aHr,Bp,ahV,i0,Ez]
   grind
  ·have hn:=ar1 hk
   simp only [T.all,nA,nS,nE,hk,hn]
   simp
 ·cases h)
def aUa:aVy->T LV
 | [.v (ag J n),.v (ag J a),.v (ag J b)]=> .ok (inB n a b)
 |_=> .no
def am9:aVI:=[]
def aaU:=vo (S:=aUa) func146 am9 kN (λargs lv h=>by
 unfold aUa at h;split at h
 ·rename_i n a b
  refine At (.ok<|.v<|.bool<|(an<|n>=a)&&(an<|n<=b)) ?_;exact h
 ·cases h)
def aTm:aVy->T LV
 | [.v (.agg ⟨[.bool wa,ag J ow,ag J le,ag J ra]⟩)]=> .ok (Hi (wa,ow,le,ra))
 |_=> .no
def am8:aVI:=[aaU]
def ajm:=vo (S:=aTm) func148 am8 kN (λargs lv h=>by
 unfold aTm at h;split at h
 ·rename_i wa ow le ra
  refine At (.ok<|.v<|.bool<|(inB ow (0:Y) (1000000000:Y))&&((inB le (0:Y) (1000000:Y))&&(inB ra (1:Y) (9:Y)))) ?_;exact h
 ·cases h)
structure My where
 cs:aVF
 os:aVz
 ks:aVK
 gs:aVA
 bs:aVL
 l:aVG
 d:aVU
 t:Y
 od:aVw
 akR:aV3
 r:aVH
 n:Y
 m:aVG
 (k i:Y)
def aHR:=bN f109 0
def aAX (s:My):T (Rd My):=
 .br (an<|s.i<s.k) (.ix s.i (M s.m)<|.br (an<|(Ao s.m s.i).2.1>=s.n) (.so (.ret) {s with r:=X})<|.nx {s with i:=AA<|s.i+1}) (.so (.exit 0) s)
def U6 (s:My) (j:Y):aVH:=an<|(Ao s.m j).2.1<s.n
def lI (s:My):Prop:=s.i=0/\0<=s.k/\s.k<=1000/\s.k=(M s.m:Y)
def Yb (s:My):Prop:=0<=s.i/\s.i<=s.k/\s.k<=1000/\(s.k=(M s.m:Y))/\∀j:aVx,(j:Y)<s.i->U6 s j=U
def uf (s:My):aVx:=(s.k-s.i).toNat
def aBj (x:Ex) (s s':My):Prop:=(x=.exit 0/\∀j:aVx,(j:Y)<s'.k->U6 s' j=U)\/(x=.ret/\s'.r=X/\∃j:aVx,(j:Y)<s'.k/\U6 s' j=X)
def alv:∀s,lI s->Yb s:=by
 exact KK
def ah0:Da Yb uf aBj aAX:=by
 intro s hI;obtain ⟨h0,h1,h2,h3,h4⟩:=hI;refine AH (λc1=>AH (λc2=>?_) λc2=>?_) λc1=>?_
 ·have c1:s.i<s.k:=AY
  refine .inr ⟨rfl,rfl,s.i.toNat,A8,?_⟩
  have hg:U6 s s.i=false:=aOK
  exact hg
 ·have c1:s.i<s.k:=AY
  have hg:U6 s s.i=true:=aOK
  rw [AJ (x:=s.i+1)];refine ⟨⟨A8,A8,h2,h3,λj hj=>?_⟩,by simp only [uf];omega⟩
  exact Lj
 ·have c1:s.k<=s.i:=AY
  exact aF
def Q3:AS My:=⟨0,108,[0,1,6,9,67,68,69],[],λs=>[xQ 9 [s.cs,s.os,s.ks,s.gs,s.bs,s.l,s.d,s.t,.xl A7 s.od],s.akR,s.r,s.n,s.m,s.k,s.i],λ_=>[],λv b=>⟨As Af<|BU (v.getD 0 .junk) 0,As .str<|BU (v.getD 0 .junk) 1,As An<|BU (v.getD 0 .junk) 2,As Ag<|BU (v.getD 0 .junk) 3,As Am<|BU (v.getD 0 .junk) 4,As AQ<|BU (v.getD 0 .junk) 5,As Ap<|BU (v.getD 0 .junk) 6,gI<|BU (v.getD 0 .junk) 7,As A7<|BU (v.getD 0 .junk) 8,B9 Aj v 1,EP v 2,AL v 3,B9 AQ v 4,AL v 5,AL v 6⟩,aAX,λs r=> {s with r:=r.r,i:=r.i},λs=>s,λ_ s=>s,[.ret,.exit 0],lI,Yb,uf⟩
abbrev aDm:=Q3.run
abbrev aJC:=Q3.Au
def ayE:Rq Yb aAX:=by
 exact T3
def jU:aVI:=[X9,X7,aaU,aVa,ajm]
def aRF:Q3.Ok:={}
def aQb:Q3.Pf (aBj):=⟨alv,λs h=>rfl,ah0,ayE⟩
def arX:SA 0 aHR Q3:=s1 aRF aQb jU kN
def auz:Fi lI Yb aBj aJC aDm:=AS.fin aRF aQb
structure N8 where
 cs:aVF
 os:aVz
 ks:aVK
 gs:aVA
 bs:aVL
 l:aVG
 d:aVU
 t:Y
 od:aVw
 rs:aV3
 r:aVH
 m:aVA
 (k i:Y)
def aHQ:=bN f109 1
def aAW (s:N8):T (Rd N8):=letI a:=AF s.m s.i;.br (an<|s.i<s.k) (.ix s.i (M s.m)<|.ix s.i (M s.rs)<|.br (!(IF a.2.2.1 a.2.2.2.1 a.2.2.2.2.1 a.2.2.2.2.2.1 a.2.2.2.2.2.2.1 (C2 s.rs s.i).1 (C2 s.rs s.i).2)) (.so (.ret) {s with r:=X})<|.ix s.i (M s.d)<|.br (!(Hi<|E7 s.d s.i)) (.so (.ret) {s with r:=X})<|.nx {s with i:=AA<|s.i+1})<|.so (.exit 2) s
def X6 (s:N8) (j:Y):aVH:=raC (AF s.m j) (C2 s.rs j)&&Hi (E7 s.d j)
def lH (s:N8):Prop:=s.i=0/\0<=s.k/\s.k<=1000/\s.k=(M s.m:Y)/\M s.rs=M s.m/\M s.d=M s.m
def Ya (s:N8):Prop:=0<=s.i/\s.i<=s.k/\s.k<=1000/\(s.k=(M s.m:Y)/\M s.rs=M s.m/\M s.d=M s.m)/\∀j:aVx,(j:Y)<s.i->X6 s j=U
def ue (s:N8):aVx:=(s.k-s.i).toNat
def aBh (x:Ex) (s s':N8):Prop:=(x=.exit 2/\∀j:aVx,(j:Y)<s'.k->X6 s' j=U)\/(x=.ret/\s'.r=X/\∃j:aVx,(j:Y)<s'.k/\X6 s' j=X)
def alu:∀s,lH s->Ya s:=by
 exact KK
def agz:Da Ya ue aBh aAW:=by
 intro s hI;obtain ⟨h0,h1,h2,h3,h4⟩:=hI;refine AH (λc1=>AH (λc2=>?_) λc2=>AH (λc3=>?_) λc3=>?_) λc1=>?_
 ·exact aMm
 ·exact aMm
 ·have c1:s.i<s.k:=AY
  have hg:X6 s s.i=true:=aOT
  rw [AJ (x:=s.i+1)];refine ⟨⟨Ac,Ac,h2,h3,λj hj=>?_⟩,by simp only [ue];omega⟩
  exact Lj
 ·have c1:s.k<=s.i:=AY
  exact aF
def Q2:AS N8:=⟨0,108,[0,1,6,82,83,84],[],λs=>[xQ 9 [s.cs,s.os,s.ks,s.gs,s.bs,s.l,s.d,s.t,.xl A7 s.od],s.rs,s.r,s.m,s.k,s.i],λ_=>[],λv b=>⟨As Af<|BU (v.getD 0 .junk) 0,As .str<|BU (v.getD 0 .junk) 1,As An<|BU (v.getD 0 .junk) 2,As Ag<|BU (v.getD 0 .junk) 3,As Am<|BU (v.getD 0 .junk) 4,As AQ<|BU (v.getD 0 .junk) 5,As Ap<|BU (v.getD 0 .junk) 6,gI<|BU (v.getD 0 .junk) 7,As A7<|BU (v.getD 0 .junk) 8,B9 Aj v 1,EP v 2,B9 Ag v 3,AL v 4,AL v 5⟩,aAW,λs r=> {s with r:=r.r,i:=r.i},λs=>s,λ_ s=>s,[.ret,.exit 2],lH,Ya,ue⟩
abbrev aIY:=Q2.run
abbrev aJB:=Q2.Au
def ayD:Rq Ya aAW:=by
 intro s hI;refine ⟨λc1=>⟨?_,?_,λ_=>trivial,λc2=>⟨?_,λ_=>trivial,λ_=>trivial⟩⟩,λ_=>trivial⟩
 all_goals ((obtain ⟨h0,h1,h2,h3,h4⟩:=hI;obtain ⟨h3,h5,h6⟩:=h3;simp at c1;omega))
def aRE:Q2.Ok:={}
def aQa:Q2.Pf (aBh):=⟨alu,λs h=>rfl,agz,ayD⟩
def arW:SA 0 aHQ Q2:=s1 aRE aQa jU kN
def auy:Fi lH Ya aBh aJB aIY:=AS.fin aRE aQa
def aJt:aVy->T LV
 | [.xq 9 q0,.xl (.pair (.int J) (.int J)) rs,.v (ag J n)]=>(match ([q0 0,q0 1,q0 2,q0 3,q0 4,q0 5,q0 6,q0 7,q0 8]:aVy) with
  | [.xl (.pair .str (.pair (.int J) (.pair (.int J) (.pair (.int J) (.pair (.pair (.int J) (.int J)) (.pair (.int J) (.pair (.int J) (.pair (.int J) (.pair (.int J) (.int J)))))))))) cs,.xl (.str) os,.xl (.pair .str (.pair (.int J) (.pair (.int J) (.int J)))) ks,.xl (.pair .str (.pair (.int J) (.pair (.int J) (.pair (.int J) (.pair (.int J) (.pair (.int J) (.pair (.int J) (.int J)))))))) gs,.xl (.pair .str (.int J)) bs,.xl (.pair (.int J) (.pair (.int J) (.pair (.int J) (.pair (.int J) (.int J))))) l,.xl (.pair .bool (.pair (.int J) (.pair (.int J) (.int J)))) d,.v (ag J t),.xl (.int J) od]=> .ok (JZ cs os ks gs bs l rs d t n)
  |_=> .no)
 |_=> .no
def atC (cs:aVF) (os:aVz) (ks:aVK) (gs:aVA) (bs:aVL) (l:aVG) (d:aVU) (t:Y) (od:aVw) (rs:aV3) (n:Y):letI b:=(M gs:Y);letI c:=(M l:Y);letI a:=(aDm (⟨cs,os,ks,gs,bs,l,d,t,od,rs,X,b,l,c,(0:Y)⟩:My));Bm prog AV (jU) kN (λi=>if i=8 then Q3.lp else if i=14 then Q2.lp else Al i) f109 [xQ 9 [cs,os,ks,gs,bs,l,d,t,.xl A7 od],rs,n]=.br (((Od cs os ks gs bs) !=0) ||(!(B0 l))) (.ok X) (.br (((M rs:Y) !=b) ||(((M d:Y) !=b) ||((!(inB t (0:Y) (1000000:Y))) ||(!(inB n (1:Y) (999900:Y)))))) (.ok X)<|.req (Q3.q (⟨cs,os,ks,gs,bs,l,d,t,od,rs,X,b,l,c,(0:Y)⟩:My))<|.br (Bs (aJC (⟨cs,os,ks,gs,bs,l,d,t,od,rs,X,b,l,c,(0:Y)⟩:My))<|.ret) (.ok a.r)<|.req (Q2.q (⟨cs,os,ks,gs,bs,l,d,t,od,rs,a.r,gs,b,(0:Y)⟩:N8))<|.br (Bs (aJB (⟨cs,os,ks,gs,bs,l,d,t,od,rs,a.r,gs,b,(0:Y)⟩:N8))<|.ret) (.ok (aIY (⟨cs,os,ks,gs,bs,l,d,t,od,rs,a.r,gs,b,(0:Y)⟩:N8)).r)<|.ok U):=AU
def aw2:=vm (S:=aJt) func109 jU kN (L:=(λi=>if i=8 then Q3.lp else if i=14 then Q2.lp else Al i)) (λb hb=>by
 rw [show BE _=[aHR,aHQ] by kernel_rfl] at hb
 simp only [BB,Bx,By] at hb;rcases hb with rfl|rfl
 ·exact arX
 ·exact arW) (λargs lv h=>by
 refine ⟨?_⟩;unfold aJt at h;split at h
 ·split at h
  case h_2=>cases h
  rename_i heq0;simp only [canL,canX];rw [E6 (n:=9) heq0];simp only [canL,canX];rw [atC];rename_i rs n _ cs os ks gs bs l d t od;obtain rfl:=h
  have e0:((Od cs os ks gs bs !=0) || !B0 l)=!(B6 cs os ks gs bs&&B0 l):=by
   unfold Od;cases B6 cs os ks gs bs<;>cases B0 l<;>rfl
  have e1:(((M rs:Y) !=(M gs:Y)) ||(((M d:Y) !=(M gs:Y)) ||(!inB t 0 1000000 || !inB n 1 999900)))=!(an (M rs=M gs)&&(an (M d=M gs)&&(inB t 0 1000000&&inB n 1 999900))):=by
   rw [neN,neN,Bool.not_and,Bool.not_and,Bool.not_and]
  rw [e0,e1]
  have bad:JZ cs os ks gs bs l rs d t n=X->LV.v (.bool X)=LV.v (.bool<|JZ cs os ks gs bs l rs d t n):=λh=>W0
  refine ⟨λc=>bad (by unfold JZ;rw [ntW c];rfl),λc=>⟨λc2=>bad (by unfold JZ;rw [ntW c2,QR,Sv]),λc2=>?_⟩⟩
  have c:=nfW c
  have c2:=nfW c2
  have c':=c
  have c2':=c2
  simp only [AX,Ab] at c' c2'
  have hl:=GK c'.2
  have hg:=(DC.1 c'.1).1.2.2.2.2.1
  have hE:lI ⟨cs,os,ks,gs,bs,l,d,t,od,rs,X,(M gs:Y),l,(M l:Y),0⟩:=⟨rfl,Ac,Ac,rfl⟩
  have ev:JZ cs os ks gs bs l rs d t n=(below (M gs) l&&DS (M gs) (λj=>raC (AF gs j) (C2 rs j)&&Hi (E7 d j))):=by
   unfold JZ;rw [c,c2,EU,EU]
  refine ⟨⟨hE,rfl,rfl⟩,?_⟩;obtain ⟨_,_,hq⟩:=auz _ hE
  have eb:below (M gs) l=DS (M l) (λj=>an<|(Ao l j).2.1<(M gs:Y)):=by
   rw [Iw,Dl];exact (Qp (d:=(0,0,0,0,0)) (p:=λx:Le=>an<|x.2.1<(M gs:Y))).symm
  rcases hq with ⟨q1,q2⟩ |⟨q1,q2,j,q3,q4⟩<;>rw [q1]
  rotate_left
  ·rw [q2]
   exact ⟨λ_=>bad (by rw [ev,eb,PA (f:=λj=>an<|(Ao l j).2.1<(M gs:Y)) j q3 q4];rfl),λh=>Ar⟩
  refine ⟨λh=>Ar,λ_=>?_⟩
  have g0:below (M gs) l=true:=by rw [eb];exact Dl.2 q2
  have hE2:lH ⟨cs,os,ks,gs,bs,l,d,t,od,rs,(aDm ⟨cs,os,ks,gs,bs,l,d,t,od,rs,X,(M gs:Y),l,(M l:Y),0⟩).r,gs,(M gs:Y),0⟩:=⟨rfl,Ac,Ac,rfl,c2'.1,c2'.2.1⟩
  refine ⟨⟨hE2,rfl,rfl⟩,?_⟩;obtain ⟨_,_,hq⟩:=auy _ hE2;rcases hq with ⟨q5,q6⟩ |⟨q5,q6,j,q7,q8⟩<;>rw [q5]
  ·exact ⟨λh=>Ar,λ_=>by rw [ev,g0,(Dl (f:=λj=>raC (AF gs j) (C2 rs j)&&Hi (E7 d j))).2 q6];rfl⟩
  ·rw [q6]
   exact ⟨λ_=>bad<|by rw [ev,PA (f:=λj=>raC (AF gs j) (C2 rs j)&&Hi (E7 d j)) j q7 q8,Sv],λh=>Ar⟩
 ·cases h)
structure N5 where
 n:Y
 r:aVH
 l:aVw
 (m k:Y)
 seen:aV1
def aHM:=bN f188 0
def iR (s:N5):T (Rd N5):=letI a:=gi s.l s.k;letI b:=M s.seen;letI c:=s.seen.set a.toNat U;.br (an<|s.k<s.m) (.ix s.k (M s.l)<|.br (an<|a<0) (.rl s.seen<|.so (.ret) {s with r:=X})<|.br (an<|a>=s.n) (.rl s.seen<|.so (.ret) {s with r:=X})<|.ik a b<|.br (s.seen.getD a.toNat<|Ty.dflt .bool) (.rl s.seen<|.so (.ret) {s with r:=X})<|.ik a b<|.re b c<|.nx {s with k:=AA<|s.k+1,seen:=c})<|.rl s.seen<|.so (.exit 0) s
def Pt (s:N5) (j:Y):aVH:=QB s.n (gi s.l j)&&!(((s.l.take j.toNat).map id).contains<|id<|gi s.l j)
def aCN (s:N5):Prop:=s.k=0/\s.seen=aq (M s.seen) X/\s.m=(M s.l:Y)/\s.m<=1000/\s.n=(M s.seen:Y)
def YV (s:N5):Prop:=(0<=s.k/\s.k<=s.m)/\(∀j:aVx,j<M s.seen->s.seen.getD j X=(s.l.take s.k.toNat).contains (j:Y))/\(∀j:aVx,(j:Y)<s.k->Pt s j=U)/\s.m=(M s.l:Y)/\s.m<=1000/\s.n=(M s.seen:Y)
def uX (s:N5):aVx:=(s.m-s.k).toNat
def kR (x:Ex) (s s':N5):Prop:=(x=.exit 0/\∀j:aVx,(j:Y)<s'.m->Pt s' j=U)\/(x=.ret/\s'.r=X/\∃j:aVx,(j:Y)<s'.m/\Pt s' j=X)
def alJ:∀s,aCN s->YV s:=by
 rintro s ⟨h0,h1,h2,h3,h4⟩
 refine ⟨A0,λj hj=>?_,λj hj=>A0,h2,h3,h4⟩
 rw [h1,h0]
 grind
def agB:Da YV uX kR iR:=by
 intro s hI;unfold iR;obtain ⟨⟨h0,h1⟩,h2,h3,h4,h5,h6⟩:=hI;refine AH (λc1=>?_) λc1=>?_
 rotate_left
 ·have c1:s.m<=s.k:=AY
  exact .inl ⟨rfl,λj hj=>h3 j A0⟩
 have c1:s.k<s.m:=AY
 have bad:Pt s s.k=X->kR .ret s {s with r:=X}:=λhg=> .inr ⟨rfl,rfl,s.k.toNat,Ac,by rw [CO h0];exact hg⟩
 refine AH (λc2=>bad ?_) λc2=>AH (λc3=>bad ?_) λc3=>AH (λc4=>bad ?_) λc4=>?_
 ·unfold Pt QB
  simp only [Ab] at c2;rw [IM A0];rfl
 ·unfold Pt QB
  simp only [Ab] at c3;rw [IM (p:=gi s.l s.k<s.n) A0,Sv];rfl
 all_goals
  have c2:0<=gi s.l s.k:=EX
  have c3:gi s.l s.k<s.n:=MZ
  have e:=h2 (gi s.l s.k).toNat A0
  rw [CO c2] at e
 ·have c4:s.seen.getD (gi s.l s.k).toNat X=true:=c4
  unfold Pt;rw [Vg,id,<-e,c4]
  simp
 ·have c4:s.seen.getD (gi s.l s.k).toNat X=false:=c4
  have hg:Pt s s.k=true:=by
   unfold Pt;rw [Vg,id,<-e,c4,pn.2 ⟨c2,c3⟩];rfl
  rw [AJ (x:=s.k+1)];refine ⟨⟨⟨Ac,Ac⟩,λj hj=>?_,λj hj=>?_,h4,h5,A8⟩,by simp only [uX];omega⟩
  ·simp only [C4] at hj
   simp only;rw [(gi_step h0 (show s.k<M s.l by omega)).2,List.contains_append,<-h2 j hj]
   by_cases hj2:(gi s.l s.k).toNat=j
   ·subst hj2
    rw [CO c2]
    simp [List.getD,hj]
   ·have:¬(j:Y)=gi s.l s.k:=A0
    grind
  ·by_cases hji:(j:Y)<s.k
   ·exact h3 j hji
   ·have:(j:Y)=s.k:=mz
    rw [this];exact hg
def Rl:AS N5:=⟨0,37,[1,4,5,14,15,16],[],λs=>[s.n,s.r,.os 0 1 0<|M s.seen,.xl A7 s.l,s.m,s.k],λs=>[bV 4 .bool s.seen],λv b=>⟨AL v 0,EP v 1,B9 A7 v 3,AL v 4,AL v 5,gVe .bool<|Cc b 0⟩,iR,λs r=> {r with n:=s.n,l:=s.l,m:=s.m},λs=>s,λ_ s=>s,[.ret,.exit 0],aCN,YV,uX⟩
abbrev aIX:=Rl.run
abbrev aIv:=Rl.Au
def ayu:Rq YV iR:=by
 intro s hI;refine ⟨λc1=>⟨?_,λc2=>⟨A9,ak⟩,λc2=>⟨λc3=>⟨A9,ak⟩,λc3=>⟨?_,?_,λc4=>⟨A9,ak⟩,λc4=>⟨?_,?_,?_,ak⟩⟩⟩⟩,λc1=>⟨A9,ak⟩⟩
 iterate 5 · (obtain ⟨⟨h0,h1⟩,h2,h3,h4,h5,h6⟩:=hI;simp only [Ab,DI] at*;omega)
 ·grind
def ac8:aVI:=[]
def aRg:Rl.Ok:={}
def aR7:Rl.Pf (kR):=⟨alJ,λs h=>rfl,agB,ayu⟩
def aqE:SA 0 aHM Rl:=s1 aRg aR7 ac8 kN
def as9:Fi aCN YV kR aIv aIX:=AS.fin aRg aR7
def aKK:aVy->T LV
 | [.xl (.int J) l,.v (ag J n)]=> .req (n<=1000) (.ok<|Gv l n)
 |_=> .no
def XM:=vm (S:=aKK) func188 ac8 kN (L:=(λi=>if i=5 then Rl.lp else Al i)) (λb hb=>by
 rw [show BE _=[aHM] by kernel_rfl] at hb
 simp only [BB,Bx,By] at hb;subst hb;exact aqE) (λargs lv h=>by
 unfold aKK at h;split at h
 ·rename_i l n
  refine At (letI a:=aq n.toNat X;letI b:=(M l:Y);.br (b !=n) (.ok X)<|.rm 1 n<|.re n.toNat a<|.req (Rl.q (⟨n,X,l,b,0,a⟩:N5))<|.br (Bs (aIv (⟨n,X,l,b,0,a⟩:N5))<|.ret) (.ok (aIX (⟨n,X,l,b,0,a⟩:N5)).r)<|.ok U) ?_;obtain ⟨hl,rfl⟩:=h;refine ⟨λc=>B2 (λz=>LV.v<|.bool z) ?_,λc=>?_⟩
  ·have c:¬(M l:Y)=n:=A8
   unfold Gv;rw [IM c];rfl
  ·have c:(M l:Y)=n:=A8
   unfold Gv;rw [CY c,EU];refine ⟨A0,⟨rfl,AI⟩,L7 ⟨⟨rfl,AI,rfl,A8,A8⟩,rfl,rfl⟩ λhE=>?_⟩
   obtain ⟨s',_,hq⟩:=as9 _ hE.1;rcases hq with ⟨q1,q2⟩ |⟨q1,q2,j,q3,q4⟩
   ·rw [q1]
    have hk:=(WW (d:=(0:Y)) (p:=QB n) (k:=id)).1 q2
    rw [Vg] at hk;rw [hk];exact ⟨λh=>Ar,λ_=>rfl⟩
   ·rw [q1,q2]
    refine ⟨λ_=>B2 (λz=>LV.v<|.bool z) ?_,λh=>Ar⟩
    rw [T4,IQ];intro hx
    have:=(WW (d:=(0:Y)) (p:=QB n) (k:=id)).2 GH j q3
    exact Bool.noConfusion<|this.symm.trans q4
 ·cases h)
structure JF where
 r:aVH
 l:aVw
 (n i:Y)
 Bi:aVF
 Gk:aVz
 Gi:aVK
 Gm:aVA
 Gq:aVL
def aAV (s:JF):T (Rd JF):=
 .br (an<|s.i<s.n) (.ix s.i (M s.l)<|.br (!((an<|(gi s.l s.i)>=0)&&(an<|(gi s.l s.i)<=80))) (.so (.ret) {s with r:=X})<|.nx {s with i:=AA<|s.i+1}) (.so (.exit 0) s)
def U4 (s:JF) (j:Y):aVH:=I4<|gi s.l j
def lF (s:JF):Prop:=s.i=0/\0<=s.n/\s.n<=1000/\s.n=(M s.l:Y)
def YY (s:JF):Prop:=0<=s.i/\s.i<=s.n/\s.n<=1000/\(s.n=(M s.l:Y))/\∀j:aVx,(j:Y)<s.i->U4 s j=U
def uc (s:JF):aVx:=(s.n-s.i).toNat
def aCG (x:Ex) (s s':JF):Prop:=(x=.exit 0/\∀j:aVx,(j:Y)<s'.n->U4 s' j=U)\/(x=.ret/\s'.r=X/\∃j:aVx,(j:Y)<s'.n/\U4 s' j=X)
def amS:∀s,lF s->YY s:=by
 exact KK
def agv:Da YY uc aCG aAV:=by
 intro s hI;obtain ⟨h0,h1,h2,h3,h4⟩:=hI;refine AH (λc1=>AH (λc2=>?_) λc2=>?_) λc1=>?_
 ·have c1:s.i<s.n:=AY
  refine .inr ⟨rfl,rfl,s.i.toNat,A8,?_⟩
  have hg:U4 s s.i=false:=aNt
  exact hg
 ·have c1:s.i<s.n:=AY
  have hg:U4 s s.i=true:=aNt
  rw [AJ (x:=s.i+1)];refine ⟨⟨A8,A8,h2,h3,λj hj=>?_⟩,by simp only [uc];omega⟩
  exact Lj
 ·exact T6
def UC:AS JF:=⟨1,18,[1,4,7,8,9],[],λs=>[.fn 186 [],s.r,.xl A7 s.l,s.n,s.i],λs=>[⟨[s.Bi,s.Gk,s.Gi,s.Gm,s.Gq],28,.cl,X⟩],λv b=>⟨EP v 1,B9 A7 v 2,AL v 3,AL v 4,AG Af b 0 0,AG .str b 0 1,AG An b 0 2,AG Ag b 0 3,AG Am b 0 4⟩,aAV,λs r=> {s with r:=r.r,i:=r.i},λs=>s,λ_ s=>s,[.ret,.exit 0],lF,YY,uc⟩
abbrev dS:=UC.run
abbrev dX:=UC.Au
def RH:aVI:=[X7,XM,XL,XN]
def amd:Ay:=kI RH<|l0 RH
def ayA:Rq YY aAV:=by
 exact T3
def aRl:UC.Ok:={}
def aRC:UC.Pf (aCG):=⟨amS,λs h=>rfl,agv,ayA⟩
def We:=s2 (b:=bN f187 0) aRl aRC RH amd
def aun:Fi lF YY aCG dX dS:=AS.fin aRl aRC
def aJJ (s:JF) (hE:lF s):(dX s=.exit 0/\s.l.all I4=U)\/(dX s=.ret/\(dS s).r=X/\s.l.all I4=X):=by
 obtain ⟨s',hI,hq⟩:=aun s hE;obtain ⟨h0,h1,h2,h3⟩:=hE
 have en:(dS s).n=s.n:=rfl
 rcases hq with ⟨q1,q2⟩ |⟨q1,q2,j,q3,q4⟩
 ·refine .inl ⟨q1,(Qp (d:=(0:Y))).1 λj hj=>?_⟩
  have:=q2 j A0
  exact this
 ·exact aMz
structure FX where
 alive:aVw
 i:Y
 rows:aVT
 (rn ri:Y)
 l:aVw
 (n k:Y)
 KO:aVF
 KT:aVz
 KS:aVK
 KQ:aVA
 Kg:aVL
 HX:aVF
 HW:aVz
 Dr:aVK
 B4:aVA
 HY:aVL
 BJ:aVT
 (BL CN CM CL CK CJ CI CH CG CF CE CA C9 C8 C7 CC CB sums levels:aVw)
def aHA:=lN (bN f189 0) 0
def Gy (s:FX):aVD:=[s.CN,s.CM,s.CL,s.CK,s.CJ,s.CI,s.CH,s.CG,s.CF,s.CE,s.CA,s.C9,s.C8,s.C7,s.CC,s.CB]
def nsO (s:FX) (l:aVD):FX:={s with CN:=l.getD 0 [],CM:=l.getD 1 [],CL:=l.getD 2 [],CK:=l.getD 3 [],CJ:=l.getD 4 [],CI:=l.getD 5 [],CH:=l.getD 6 [],CG:=l.getD 7 [],CF:=l.getD 8 [],CE:=l.getD 9 [],CA:=l.getD 10 [],C9:=l.getD 11 [],C8:=l.getD 12 [],C7:=l.getD 13 [],CC:=l.getD 14 [],CB:=l.getD 15 []}
def ns (s:FX) (j:aVx):FX:={nsO s ((Gy s).modify j (·++[s.i])) with k:=AA<|s.k+1,sums:=s.sums.set s.i.toNat<|AA<|s.sums.getD s.i.toNat 0+gi s.alive (j:Y)}
def rO {α:Type}(x:aVw):aVD->aVx->T α->T α
 | [],_,t=>t
 |o::l,0,t=> .re (M o+M x) (o++x) (rO x l 1000 t)
 |o::l,j+1,t=> .rl o<|rO x l j t
def Xr {σ:Type}{s:σ}{x:aVw}{t:T<|Rd σ}:∀l j,(rO x l j t).rd s=t.rd s
 | [],_=>rfl
 |_::l,0=>Xr l 1000
 |_::l,j+1=>Xr l j
def fu {α:Type}{K:α->Prop}{x:aVw}{t:T α}(h:t.all K):∀l j,(rO x l j t).all K
 | [],_=>h
 |_::l,0=>⟨⟨rfl,AI⟩,fu h l 1000⟩
 |_::l,j+1=>⟨⟨rfl,rfl⟩,fu h l j⟩
def aFD {α:Type}{K:α->Prop}{f:aVx->T α}{n:Y}:∀m j:aVx,(j:Y)<=n->n<j+m->(∀i:aVx,n=i->(f i).all K)->(splitN f n m j).all K
 |0,_,_,_,_=>A0
 |1,j,_,_,h=>h j A0
 |m+2,j,_,_,h=>⟨λc=>h j<|eq_of_beq c,λc=>aFD (m+1) (j+1) A8 A0 h⟩
def qV {σ:Type}{A:σ->Prop}{B:Ex->σ->Prop}{s:σ}{f:aVx->T (Rd σ)}{n:Y}:∀m j:aVx,(j:Y)<=n->n<j+m->(∀i:aVx,n=i->DV A B ((f i).rd s))->DV A B ((splitN f n m j).rd s)
 |0,_,_,_,_=>A0
 |1,j,_,_,h=>h j A0
 |m+2,j,_,_,h=>AH (λc=>h j<|eq_of_beq c) λc=>qV (m+1) (j+1) A8 A0 h
def alZ (s:FX) {l:aVD}(h:M l=16):Gy (nsO s l)=l:=by
 show (au 16).map (λi=>l.getD i [])=l
 refine Zj nY λi h1 h2=>?_
 grind
def aA1 (s:FX):T (Rd FX):=letI a:=M s.sums;.br (an<|s.k<s.n) (.ix s.k (M s.l)<|.req (0<=(gi s.l s.k)/\(gi s.l s.k)<(16:Y))<|splitN (λj=> .rb (M<|(Gy s).getD j []) (M<|[s.i]) 8<|.ix s.i a<|.ix (j:Y) (M s.alive)<|.req (s.i.toNat<M s.sums)<|.ik s.i a<|rO [s.i] (Gy s) j<|.re a (ns s j).sums<|.rl s.levels<|.nx<|ns s j) (gi s.l s.k) 16 0)<|rO [] (Gy s) 1000<|.rl s.sums<|.rl s.levels<|.so (.exit 2) s
def ZM (s:FX):Prop:=s.k=0/\(∀o∈Gy s,(M o:Y)<=1000000)/\(0<=gi s.sums s.i/\gi s.sums s.i<=1000)/\s.n=(M s.l:Y)/\s.n<=1000/\(∀m∈s.l,0<=m/\m<16/\m<(M s.alive:Y))/\(∀a∈s.alive,0<=a/\a<=80)/\(0<=s.i/\s.i<(M s.sums:Y))
def RM (s:FX):Prop:=(0<=s.k/\s.k<=s.n)/\(∀o∈Gy s,(M o:Y)<=1000000+s.k)/\(0<=gi s.sums s.i/\gi s.sums s.i<=1000+80*s.k)/\s.n=(M s.l:Y)/\s.n<=1000/\(∀m∈s.l,0<=m/\m<16/\m<(M s.alive:Y))/\(∀a∈s.alive,0<=a/\a<=80)/\(0<=s.i/\s.i<(M s.sums:Y))
def XZ (s:FX):aVx:=(s.n-s.k).toNat
def ac0 (x:Ex) (s s':FX):Prop:=x=.exit 2/\s'.k=s'.n
def alY:∀s,ZM s->RM s:=by
 rintro s ⟨h0,h1,h2,h3⟩
 exact ⟨A0,λo ho=>A8,A0,h3⟩
def fH (s:FX) (hI:RM s) (c1:s.k<s.n):0<=gi s.l s.k/\gi s.l s.k<16/\gi s.l s.k<(M s.alive:Y):=by
 obtain ⟨⟨h0,h1⟩,h2,h3,h4,h5,h6,h7,h8⟩:=hI;exact h6 _ aOf
abbrev jc (s:FX):=(LA s.i (Gy s)<|s.l.drop s.k.toNat,s.sums.set s.i.toNat<|s.sums.getD s.i.toNat 0+smA s.alive (s.l.drop s.k.toNat))
def aSS (s:FX) (j:aVx) (hI:RM s) (c1:s.k<s.n) (em:gi s.l s.k=(j:Y)):(RM (ns s j)/\XZ (ns s j)<XZ s)/\jc (ns s j)=jc s:=by
 generalize e:ns s j=s'
 have hO:Gy s'=(Gy s).modify j (·++[s.i]):=by rw [<-e];exact alZ s (by rw [lg];rfl)
 have hs:s'.sums=s.sums.set s.i.toNat (AA<|s.sums.getD s.i.toNat 0+gi s.alive (j:Y)):=Vv
 have hk:s'.k=AA (s.k+1):=Vv
 have hn:s'.n=s.n:=Vv
 have hl:s'.l=s.l:=Vv
 have ha:s'.alive=s.alive:=Vv
 have hi:s'.i=s.i:=Vv
 have hm:=fH s hI c1
 obtain ⟨⟨h0,h1⟩,h2,⟨h3,h3'⟩,h4,h5,h6,h7,h8⟩:=hI;rw [AJ (x:=s.k+1)] at hk
 have hav:=h7 (gi s.alive (j:Y)) aOf
 have hgi:gi s.sums s.i=s.sums.getD s.i.toNat 0:=rfl
 rw [AJ (x:=s.sums.getD s.i.toNat 0+gi s.alive (j:Y))] at hs
 have hs2:gi s'.sums s'.i=s.sums.getD s.i.toNat 0+gi s.alive (j:Y):=by
  rw [hi,hs]
  show List.getD _ _ _=_
  grind
 refine ⟨⟨⟨⟨A0,A0⟩,λo ho=>?_,⟨by rw [hs2];omega,by rw [hs2];omega⟩,by rw [hn,hl];exact h4,A0,by rw [hl,ha];exact h6,by rw [ha];exact h7,⟨by rw [hi];omega,by rw [hi,hs,C4];omega⟩⟩,by simp only [XZ];omega⟩,?_⟩
 ·rw [hO] at ho
  obtain ⟨k,hk2,rfl⟩:=Hs.1 ho;rw [lg] at hk2
  have:=h2 (Gy s)[k]<|Gf _
  rw [List.getElem_modify];split
  ·grind
  ·omega
 ·unfold jc
  rw [hO,hs,hl,ha,hi,hk,(gi_step h0 (show s.k<M s.l by omega)).1,pT,aG7,em,C0,aeE A0]
def aST:Da RM XZ ac0 aA1:=by
 intro s hI;refine AH (λc1=>?_) λc1=>?_
 ·have hm:=fH s hI A8
  refine qV 16 0 A0 A0 λi em=>?_
  show DV _ _ ((rO _ _ i _).rd s)
  rw [Xr];exact (aSS s i hI A8 em).1
 ·have c1:s.n<=s.k:=A8
  have h0:=hI.1
  exact Vi
def UN:AS FX:=⟨1,67,[2,7,8,23,24,25,31,32,33],[.ns 7 6 3 A7,.ns 7 7 3 A7,.ns 7 8 3 A7,.ns 7 9 3 A7,.ns 7 10 3 A7,.ns 7 11 3 A7,.ns 7 12 3 A7,.ns 7 13 3 A7,.ns 7 14 3 A7,.ns 7 15 3 A7,.ns 7 16 3 A7,.ns 7 17 3 A7,.ns 7 18 3 A7,.ns 7 19 3 A7,.ns 7 20 3 A7,.ns 7 21 3 A7],λs=>[.xl A7 s.alive,.own 1 0,s.i,.xl Ec s.rows,s.rn,s.ri,.xl A7 s.l,s.n,s.k],λs=>[⟨[s.KO,s.KT,s.KS,s.KQ,s.Kg],28,.cl,X⟩,⟨[s.HX,s.HW,s.Dr,s.B4,s.HY,.xl Ec s.BJ,.os 2 1 0<|M s.CN,.os 3 1 0<|M s.CM,.os 4 1 0<|M s.CL,.os 5 1 0<|M s.CK,.os 6 1 0<|M s.CJ,.os 7 1 0<|M s.CI,.os 8 1 0<|M s.CH,.os 9 1 0<|M s.CG,.os 10 1 0<|M s.CF,.os 11 1 0<|M s.CE,.os 12 1 0<|M s.CA,.os 13 1 0<|M s.C9,.os 14 1 0<|M s.C8,.os 15 1 0<|M s.C7,.os 16 1 0<|M s.CC,.os 17 1 0<|M s.CB,.os 18 1 0<|M s.sums,.xl A7 s.BL,.os 19 1 0<|M s.levels],309,.cl,X⟩,bV 3 A7 s.CN,bV 3 A7 s.CM,bV 3 A7 s.CL,bV 3 A7 s.CK,bV 3 A7 s.CJ,bV 3 A7 s.CI,bV 3 A7 s.CH,bV 3 A7 s.CG,bV 3 A7 s.CF,bV 3 A7 s.CE,bV 3 A7 s.CA,bV 3 A7 s.C9,bV 3 A7 s.C8,bV 3 A7 s.C7,bV 3 A7 s.CC,bV 3 A7 s.CB,bV 3 A7 s.sums,bV 3 A7 s.levels],λv b=>⟨B9 A7 v 0,AL v 2,B9 Ec v 3,AL v 4,AL v 5,B9 A7 v 6,AL v 7,AL v 8,AG Af b 0 0,AG .str b 0 1,AG An b 0 2,AG Ag b 0 3,AG Am b 0 4,AG Af b 1 0,AG .str b 1 1,AG An b 1 2,AG Ag b 1 3,AG Am b 1 4,AG Ec b 1 5,AG A7 b 1 23,Ad A7 b 2,Ad A7 b 3,Ad A7 b 4,Ad A7 b 5,Ad A7 b 6,Ad A7 b 7,Ad A7 b 8,Ad A7 b 9,Ad A7 b 10,Ad A7 b 11,Ad A7 b 12,Ad A7 b 13,Ad A7 b 14,Ad A7 b 15,Ad A7 b 16,Ad A7 b 17,Ad A7 b 18,Ad A7 b 19⟩,aA1,λs r=> {s with k:=r.k,CN:=r.CN,CM:=r.CM,CL:=r.CL,CK:=r.CK,CJ:=r.CJ,CI:=r.CI,CH:=r.CH,CG:=r.CG,CF:=r.CF,CE:=r.CE,CA:=r.CA,C9:=r.C9,C8:=r.C8,C7:=r.C7,CC:=r.CC,CB:=r.CB,sums:=r.sums},λs=>s,λ_ s=>s,[.exit 2],ZM,RM,XZ⟩
abbrev Gj:=UN.run
def aBT:Ay:=kI RH<|la 2 func187 We<|l0 RH
def aye:Rq RM aA1:=by
 intro s hI;refine ⟨λc1=>?_,λ_=>fu (by exact ⟨A9,A9,ak⟩) _ _⟩
 have hm:=fH s hI A8
 simp only [Ab] at c1;obtain ⟨⟨h0,h1⟩,h2,h3,h4,h5,h6,h7,h8,h9⟩:=id hI;refine ⟨⟨A0,A0⟩,⟨A0,A0⟩,aFD 16 0 A0 A0 λi em=>?_⟩
 refine ⟨⟨A0,?_⟩,⟨A0,A0⟩,⟨A0,A0⟩,A0,⟨A0,A0⟩,A0,fu ?_ _ _⟩
 ·grind
 ·exact ⟨⟨rfl,(C4 ..).symm⟩,A9,ak⟩
def tn:UN.Ok:={}
def tU:UN.Pf (ac0):=⟨alY,λs h=>rfl,aST,aye⟩
def aqW:SA 1 aHA UN:=s2 tn tU RH aBT
def aoj (s:FX) (hE:ZM s):(λs:FX=>(LA s.i (Gy s)<|s.l.drop s.k.toNat,s.sums.set s.i.toNat<|s.sums.getD s.i.toNat 0+smA s.alive (s.l.drop s.k.toNat))) (Gj s)=(λs:FX=>(LA s.i (Gy s)<|s.l.drop s.k.toNat,s.sums.set s.i.toNat<|s.sums.getD s.i.toNat 0+smA s.alive (s.l.drop s.k.toNat))) s:=by
 exact AS.Kn tn tU jc (λs hI=>by
  refine AH (λc1=>?_) λc1=>?_
  ·have hm:=fH s hI A8
   refine qV 16 0 A0 A0 λi em=>?_
   show DV _ _ ((rO _ _ i _).rd s)
   rw [Xr];exact (aSS s i hI A8 em).2
  ·rw [Xr]
   exact rfl) s hE
def ase (s:FX) (hE:ZM s):Gy (Gj s)=LA s.i (Gy s) s.l/\(Gj s).sums=s.sums.set s.i.toNat (s.sums.getD s.i.toNat 0+smA s.alive s.l):=by
 have q3:=aoj s hE
 obtain ⟨hI2,hf⟩:=AS.inv tn tU (λs=>AU) s hE
 have hI2:RM (Gj s):=hI2
 have hq:=ct (aST _ hI2) hf
 have q2:(Gj s).k=(Gj s).n:=hq.2
 obtain ⟨h0,h1,h2,h3,h4,h5,h6,h7⟩:=hE;obtain ⟨g0,g1,g2,g3,g4,g5,g6,g7⟩:=hI2
 have el:(Gj s).l=s.l:=rfl
 have en:(Gj s).n=s.n:=rfl
 have ei:(Gj s).i=s.i:=rfl
 have ea:(Gj s).alive=s.alive:=rfl
 simp only at q3;rw [q2,en,el,ei,ea,Ew A0,h0,show (0:Y).toNat=0 from rfl,CX] at q3
 have e1:=B2 Prod.fst q3
 have e2:=B2 Prod.snd q3
 simp only at e1 e2;refine ⟨e1,?_⟩;rw [<-e2];exact (aoA (by rw [ei] at g7;omega)).symm
structure EG where
 alive:aVw
 rows:aVT
 (rn ri:Y)
 KO:aVF
 KT:aVz
 KS:aVK
 KQ:aVA
 Kg:aVL
 HX:aVF
 HW:aVz
 Dr:aVK
 B4:aVA
 HY:aVL
 BJ:aVT
 (BL CN CM CL CK CJ CI CH CG CF CE CA C9 C8 C7 CC CB sums levels:aVw)
def aGP:=bN f189 0
def Md (s:EG):FX:=(⟨s.alive,s.ri,s.rows,s.rn,s.ri,(Cm s.rows s.ri).2,(M (Cm s.rows s.ri).2:Y),0,s.KO,s.KT,s.KS,s.KQ,s.Kg,s.HX,s.HW,s.Dr,s.B4,s.HY,s.BJ,s.BL,s.CN,s.CM,s.CL,s.CK,s.CJ,s.CI,s.CH,s.CG,s.CF,s.CE,s.CA,s.C9,s.C8,s.C7,s.CC,s.CB,s.sums,s.levels⟩:FX)
def aA0 (s:EG):T (Rd EG):=letI a:=Gj<|Md s;.br (an<|s.ri<s.rn) (.ix s.ri (M s.rows)<|.rl s.CN<|.rl s.CM<|.rl s.CL<|.rl s.CK<|.rl s.CJ<|.rl s.CI<|.rl s.CH<|.rl s.CG<|.rl s.CF<|.rl s.CE<|.rl s.CA<|.rl s.C9<|.rl s.C8<|.rl s.C7<|.rl s.CC<|.rl s.CB<|.rl s.sums<|.rl s.levels<|.req (UN.q<|Md s)<|.rl a.CN<|.rl a.CM<|.rl a.CL<|.rl a.CK<|.rl a.CJ<|.rl a.CI<|.rl a.CH<|.rl a.CG<|.rl a.CF<|.rl a.CE<|.rl a.CA<|.rl a.C9<|.rl a.C8<|.rl a.C7<|.rl a.CC<|.rl a.CB<|.rl a.sums<|.rl s.levels<|.nx {s with ri:=AA<|s.ri+1,CN:=a.CN,CM:=a.CM,CL:=a.CL,CK:=a.CK,CJ:=a.CJ,CI:=a.CI,CH:=a.CH,CG:=a.CG,CF:=a.CF,CE:=a.CE,CA:=a.CA,C9:=a.C9,C8:=a.C8,C7:=a.C7,CC:=a.CC,CB:=a.CB,sums:=a.sums})<|.rl s.CN<|.rl s.CM<|.rl s.CL<|.rl s.CK<|.rl s.CJ<|.rl s.CI<|.rl s.CH<|.rl s.CG<|.rl s.CF<|.rl s.CE<|.rl s.CA<|.rl s.C9<|.rl s.C8<|.rl s.C7<|.rl s.CC<|.rl s.CB<|.rl s.sums<|.rl s.levels<|.so (.exit 0) s
def Fv (s:EG):aVD:=[s.CN,s.CM,s.CL,s.CK,s.CJ,s.CI,s.CH,s.CG,s.CF,s.CE,s.CA,s.C9,s.C8,s.C7,s.CC,s.CB]
def Ug (s:EG):Prop:=s.ri=0/\(∀o∈Fv s,o=[])/\s.sums=aq (M s.rows) 0/\s.rn=(M s.rows:Y)/\s.rn<=1000/\(∀r∈s.rows,(M r.2:Y)<=1000/\∀m∈r.2,0<=m/\m<16/\m<(M s.alive:Y))/\(∀a∈s.alive,0<=a/\a<=80)/\M s.sums=M s.rows
def NB (s:EG):Prop:=(0<=s.ri/\s.ri<=s.rn)/\(∀o∈Fv s,(M o:Y)<=1000*s.ri)/\(∀k:aVx,s.ri<=(k:Y)->s.sums.getD k 0=0)/\s.rn=(M s.rows:Y)/\s.rn<=1000/\(∀r∈s.rows,(M r.2:Y)<=1000/\∀m∈r.2,0<=m/\m<16/\m<(M s.alive:Y))/\(∀a∈s.alive,0<=a/\a<=80)/\M s.sums=M s.rows
def Tv (s:EG):aVx:=(s.rn-s.ri).toNat
def kQ (x:Ex) (s s':EG):Prop:=x=.exit 0/\s'.ri=s'.rn
def alX:∀s,Ug s->NB s:=by
 rintro s ⟨h0,h1,h2,h3⟩
 refine ⟨A0,λo ho=>A8,λk _=>?_,h3⟩
 grind
def aSR (s:EG) (hI:NB s) (c1:s.ri<s.rn):ZM (Md s):=by
 obtain ⟨⟨h0,h1⟩,h2,h3,h4,h5,h6,h7,h8⟩:=hI
 have hr:=h6 (Cm s.rows s.ri) yc
 refine ⟨rfl,λo ho=>?_,?_,rfl,hr.1,hr.2,h7,h0,?_⟩
 ·have:=h2 o ho
  omega
 ·have:=h3 s.ri.toNat A0
  show 0<=s.sums.getD s.ri.toNat 0/\s.sums.getD s.ri.toNat 0<=1000
  omega
 ·show s.ri<(M s.sums:Y)
  omega
def aSQ (s s':EG) (hI:NB s) (c1:s.ri<s.rn) (hO:Fv s'=Gy (Gj<|Md s)) (hs:s'.sums=(Gj<|Md s).sums) (hk:s'.ri=AA (s.ri+1)) (hn:s'.rn=s.rn) (hl:s'.rows=s.rows) (ha:s'.alive=s.alive):
  (NB s'/\Tv s'<Tv s)/\(λs:EG=>(HV (Fv s) s.ri<|s.rows.drop s.ri.toNat,HU s.alive s.sums s.ri<|s.rows.drop s.ri.toNat)) s'=(λs:EG=>(HV (Fv s) s.ri<|s.rows.drop s.ri.toNat,HU s.alive s.sums s.ri<|s.rows.drop s.ri.toNat)) s:=by
 obtain ⟨r1,r2⟩:=ase _<|aSR s hI c1;obtain ⟨⟨h0,h1⟩,h2,h3,h4,h5,h6,h7,h8⟩:=hI
 have hr:=h6 (Cm s.rows s.ri) yc
 rw [AJ (x:=s.ri+1)] at hk
 have r1:Gy (Gj<|Md s)=LA s.ri (Fv s) (Cm s.rows s.ri).2:=r1
 have r2:(Gj<|Md s).sums=s.sums.set s.ri.toNat (s.sums.getD s.ri.toNat 0+smA s.alive (Cm s.rows s.ri).2):=r2
 refine ⟨⟨⟨⟨A0,A0⟩,λo ho=>?_,λk hk2=>?_,A8,A0,by rw [hl,ha];exact h6,by rw [ha];exact h7,A8⟩,by simp only [Tv];omega⟩,?_⟩
 ·rw [hO,r1] at ho
  have:=aHw h2 o ho
  have:=hr.1
  rw [hk];omega
 ·rw [hs,r2]
  have:=h3 k A0
  simp only [List.getD] at this|-;rw [Zm A0];exact this
 ·simp only
  rw [hO,hs,hl,ha,r1,r2,hk,(ap6 h0 (show s.ri<M s.rows by omega)).1]
  rfl
def asb (s s':EG) (hI:NB s) (c1:s.ri<s.rn) (hO:Fv s'=Gy (Gj<|Md s)) (hs:s'.sums=(Gj<|Md s).sums) (hk:s'.ri=AA (s.ri+1)) (hn:s'.rn=s.rn) (hl:s'.rows=s.rows) (ha:s'.alive=s.alive):DV (λs'=>NB s'/\Tv s'<Tv s) (λx s'=>kQ x s s') (.next s'):=(aSQ s s' hI c1 hO hs hk hn hl ha).1
def ar9 (s s':EG) (hI:NB s) (c1:s.ri<s.rn) (hO:Fv s'=Gy (Gj<|Md s)) (hs:s'.sums=(Gj<|Md s).sums) (hk:s'.ri=AA (s.ri+1)) (hn:s'.rn=s.rn) (hl:s'.rows=s.rows) (ha:s'.alive=s.alive):DV (λs'=>(λs:EG=>(HV (Fv s) s.ri<|s.rows.drop s.ri.toNat,HU s.alive s.sums s.ri<|s.rows.drop s.ri.toNat)) s'=(λs:EG=>(HV (Fv s) s.ri<|s.rows.drop s.ri.toNat,HU s.alive s.sums s.ri<|s.rows.drop s.ri.toNat)) s) (λ_ s'=>(λs:EG=>(HV (Fv s) s.ri<|s.rows.drop s.ri.toNat,HU s.alive s.sums s.ri<|s.rows.drop s.ri.toNat)) s'=(λs:EG=>(HV (Fv s) s.ri<|s.rows.drop s.ri.toNat,HU s.alive s.sums s.ri<|s.rows.drop s.ri.toNat)) s) (.next s'):=(aSQ s s' hI c1 hO hs hk hn hl ha).2
def azt:Da NB Tv kQ aA0:=by
 intro s hI;refine AH (λc1=>?_) λc1=>?_
 ·exact asb s _ hI A8 rfl rfl rfl rfl rfl rfl
 ·have c1:s.rn<=s.ri:=A8
  have h0:=hI.1
  exact Vi
def Pw:AS EG:=⟨1,67,[2,7,23,24,25],[.ns 7 6 3 A7,.ns 7 7 3 A7,.ns 7 8 3 A7,.ns 7 9 3 A7,.ns 7 10 3 A7,.ns 7 11 3 A7,.ns 7 12 3 A7,.ns 7 13 3 A7,.ns 7 14 3 A7,.ns 7 15 3 A7,.ns 7 16 3 A7,.ns 7 17 3 A7,.ns 7 18 3 A7,.ns 7 19 3 A7,.ns 7 20 3 A7,.ns 7 21 3 A7],λs=>[.xl A7 s.alive,.own 1 0,.xl Ec s.rows,s.rn,s.ri],λs=>[⟨[s.KO,s.KT,s.KS,s.KQ,s.Kg],28,.cl,X⟩,⟨[s.HX,s.HW,s.Dr,s.B4,s.HY,.xl Ec s.BJ,.os 2 1 0<|M s.CN,.os 3 1 0<|M s.CM,.os 4 1 0<|M s.CL,.os 5 1 0<|M s.CK,.os 6 1 0<|M s.CJ,.os 7 1 0<|M s.CI,.os 8 1 0<|M s.CH,.os 9 1 0<|M s.CG,.os 10 1 0<|M s.CF,.os 11 1 0<|M s.CE,.os 12 1 0<|M s.CA,.os 13 1 0<|M s.C9,.os 14 1 0<|M s.C8,.os 15 1 0<|M s.C7,.os 16 1 0<|M s.CC,.os 17 1 0<|M s.CB,.os 18 1 0<|M s.sums,.xl A7 s.BL,.os 19 1 0<|M s.levels],309,.cl,X⟩,bV 3 A7 s.CN,bV 3 A7 s.CM,bV 3 A7 s.CL,bV 3 A7 s.CK,bV 3 A7 s.CJ,bV 3 A7 s.CI,bV 3 A7 s.CH,bV 3 A7 s.CG,bV 3 A7 s.CF,bV 3 A7 s.CE,bV 3 A7 s.CA,bV 3 A7 s.C9,bV 3 A7 s.C8,bV 3 A7 s.C7,bV 3 A7 s.CC,bV 3 A7 s.CB,bV 3 A7 s.sums,bV 3 A7 s.levels],λv b=>⟨B9 A7 v 0,B9 Ec v 2,AL v 3,AL v 4,AG Af b 0 0,AG .str b 0 1,AG An b 0 2,AG Ag b 0 3,AG Am b 0 4,AG Af b 1 0,AG .str b 1 1,AG An b 1 2,AG Ag b 1 3,AG Am b 1 4,AG Ec b 1 5,AG A7 b 1 23,Ad A7 b 2,Ad A7 b 3,Ad A7 b 4,Ad A7 b 5,Ad A7 b 6,Ad A7 b 7,Ad A7 b 8,Ad A7 b 9,Ad A7 b 10,Ad A7 b 11,Ad A7 b 12,Ad A7 b 13,Ad A7 b 14,Ad A7 b 15,Ad A7 b 16,Ad A7 b 17,Ad A7 b 18,Ad A7 b 19⟩,aA0,λs r=> {s with ri:=r.ri,CN:=r.CN,CM:=r.CM,CL:=r.CL,CK:=r.CK,CJ:=r.CJ,CI:=r.CI,CH:=r.CH,CG:=r.CG,CF:=r.CF,CE:=r.CE,CA:=r.CA,C9:=r.C9,C8:=r.C8,C7:=r.C7,CC:=r.CC,CB:=r.CB,sums:=r.sums},λs=>s,λ_ s=>s,[.exit 0],Ug,NB,Tv⟩
abbrev Is:=Pw.run
abbrev auC:=Pw.Au
def ayd:Rq NB aA0:=by
 intro s hI;refine ⟨λc1=>⟨?_,A9,A9,A9,A9,A9,A9,A9,A9,A9,A9,A9,A9,A9,A9,A9,A9,A9,A9,?_,A9,A9,A9,A9,A9,A9,A9,A9,A9,A9,A9,A9,A9,A9,A9,A9,A9,A9,ak⟩,λc1=>⟨A9,A9,A9,A9,A9,A9,A9,A9,A9,A9,A9,A9,A9,A9,A9,A9,A9,A9,ak⟩⟩
 ·(obtain ⟨h0,h2,h3,h4,h5,h6,h7,h8⟩:=hI;simp only [Ab] at c1;omega)
 ·exact ⟨aSR s hI A8,rfl,rfl⟩
def tm:Pw.Ok:={}
def tS:Pw.Pf (kQ):=⟨alX,λs h=>rfl,azt,ayd⟩
def dc:SA 1 aGP Pw:=AS.snd tm tS (Gl (Γ:=RH) (K:=aBT) (L:=(MM (λi=>if i=6 then UN.lp else Al i))) (gk RH) aBT.h aGP (λb hb=>by
 rw [show BE _=[aHA] by kernel_rfl] at hb
 simp only [BB,Bx,By] at hb;subst hb;exact aqW)) λs=>AU
def asc:Fi Ug NB kQ auC Is:=AS.fin tm tS
def aoi (s:EG) (hE:Ug s):(λs:EG=>(HV (Fv s) s.ri<|s.rows.drop s.ri.toNat,HU s.alive s.sums s.ri<|s.rows.drop s.ri.toNat)) (Is s)=(λs:EG=>(HV (Fv s) s.ri<|s.rows.drop s.ri.toNat,HU s.alive s.sums s.ri<|s.rows.drop s.ri.toNat)) s:=by
 exact AS.Kn tm tS (λs:EG=>(HV (Fv s) s.ri<|s.rows.drop s.ri.toNat,HU s.alive s.sums s.ri<|s.rows.drop s.ri.toNat)) (λs hI=>by
  refine AH (λc1=>?_) λc1=>?_
  ·exact ar9 s _ hI A8 rfl rfl rfl rfl rfl rfl
  ·rfl) s hE
def ar8 (s:EG) (hE:Ug s):Fv (Is s)=HV (Fv s) 0 s.rows/\(Is s).sums=HU s.alive s.sums 0 s.rows:=by
 have q3:=aoi s hE
 obtain ⟨s',hI,q1,q2⟩:=asc s hE;obtain ⟨h0,h1,h2,h3,h4,h5⟩:=hE
 have el:(Is s).rows=s.rows:=rfl
 have en:(Is s).rn=s.rn:=rfl
 have ea:(Is s).alive=s.alive:=rfl
 simp only at q3;rw [q2,en,el,ea,Ew A0,h0] at q3;exact ⟨B2 Prod.fst q3,B2 Prod.snd q3⟩
structure N7 where
 r:aVH
 l:aVw
 (n i:Y)
 KO:aVF
 KT:aVz
 KS:aVK
 KQ:aVA
 Kg:aVL
 HX:aVF
 HW:aVz
 Dr:aVK
 B4:aVA
 HY:aVL
 BJ:aVT
 (CN CM CL CK CJ CI CH CG CF CE CA C9 C8 C7 CC CB BL sums levels:aVw)
 aiB:aV6
 (anh aoz anS anT ai9 af4 auH more:Y)
def ia (s:N7):T (Rd N7):=letI a:=gi s.l s.i;.br (an<|s.i<s.n) (.ix s.i (M s.l)<|.ik a (M s.sums)<|.ix a (M s.BJ)<|.br (!(an<|(AA<|(s.sums.getD a.toNat<|Ty.dflt A7)+s.more)<=(Cm s.BJ a).1)) (.rl s.sums<|.rl s.levels<|.so (.ret) {s with r:=X})<|.rl s.sums<|.rl s.levels<|.nx {s with i:=AA<|s.i+1})<|.rl s.sums<|.rl s.levels<|.so (.exit 0) s
def U5 (s:N7) (j:Y):aVH:=Ky s.BJ s.sums s.more<|gi s.l j
def ZT (s:N7):Prop:=s.i=0/\0<=s.n/\s.n<=1000/\s.n=(M s.l:Y)/\(∀r∈s.l,0<=r/\r<(M s.BJ:Y))/\M s.sums=M s.BJ/\(∀k:aVx,0<=s.sums.getD k 0/\s.sums.getD k 0<=2000)/\(0<=s.more/\s.more<=10000)
def YZ (s:N7):Prop:=0<=s.i/\s.i<=s.n/\s.n<=1000/\(s.n=(M s.l:Y)/\(∀r∈s.l,0<=r/\r<(M s.BJ:Y))/\M s.sums=M s.BJ/\(∀k:aVx,0<=s.sums.getD k 0/\s.sums.getD k 0<=2000)/\(0<=s.more/\s.more<=10000))/\∀j:aVx,(j:Y)<s.i->U5 s j=U
def ud (s:N7):aVx:=(s.n-s.i).toNat
def aBf (x:Ex) (s s':N7):Prop:=(x=.exit 0/\∀j:aVx,(j:Y)<s'.n->U5 s' j=U)\/(x=.ret/\s'.r=X/\∃j:aVx,(j:Y)<s'.n/\U5 s' j=X)
def amT:∀s,ZT s->YZ s:=by
 exact KK
def agw:Da YZ ud aBf ia:=by
 intro s hI;unfold ia;obtain ⟨h0,h1,h2,h3,h4⟩:=hI;refine AH (λc1=>AH (λc2=>?_) λc2=>?_) λc1=>?_
 ·have c1:s.i<s.n:=AY
  refine .inr ⟨rfl,rfl,s.i.toNat,Ac,?_⟩
  have hg:U5 s s.i=false:=aO3
  exact hg
 ·have c1:s.i<s.n:=AY
  have hg:U5 s s.i=true:=aO3
  rw [AJ (x:=s.i+1)];refine ⟨⟨Ac,Ac,h2,h3,λj hj=>?_⟩,by simp only [ud];omega⟩
  exact Lj
 ·exact T6
def Zd:AS N7:=⟨7,18,[1,4,7,8,9],[],λs=>[.fn 219 [.own 4 0,.own 6 0],s.r,.xl A7 s.l,s.n,s.i],λs=>[⟨[s.KO,s.KT,s.KS,s.KQ,s.Kg],28,.cl,X⟩,⟨[s.HX,s.HW,s.Dr,s.B4,s.HY,.xl Ec s.BJ,.xl A7 s.CN,.xl A7 s.CM,.xl A7 s.CL,.xl A7 s.CK,.xl A7 s.CJ,.xl A7 s.CI,.xl A7 s.CH,.xl A7 s.CG,.xl A7 s.CF,.xl A7 s.CE,.xl A7 s.CA,.xl A7 s.C9,.xl A7 s.C8,.xl A7 s.C7,.xl A7 s.CC,.xl A7 s.CB,.os 2 1 0<|M s.sums,.xl A7 s.BL,.os 3 1 0<|M s.levels],309,.cl,X⟩,bV 3 A7 s.sums,bV 3 A7 s.levels,⟨[.own 1 0],305,.cl,X⟩,⟨[.v<|.string s.aiB,s.anh,s.aoz,s.anS,s.anT,s.ai9,s.af4,s.auH],107,.cl,X⟩,⟨[s.more],3,.cl,X⟩],λv b=>⟨EP v 1,B9 A7 v 2,AL v 3,AL v 4,AG Af b 0 0,AG .str b 0 1,AG An b 0 2,AG Ag b 0 3,AG Am b 0 4,AG Af b 1 0,AG .str b 1 1,AG An b 1 2,AG Ag b 1 3,AG Am b 1 4,AG Ec b 1 5,AG A7 b 1 6,AG A7 b 1 7,AG A7 b 1 8,AG A7 b 1 9,AG A7 b 1 10,AG A7 b 1 11,AG A7 b 1 12,AG A7 b 1 13,AG A7 b 1 14,AG A7 b 1 15,AG A7 b 1 16,AG A7 b 1 17,AG A7 b 1 18,AG A7 b 1 19,AG A7 b 1 20,AG A7 b 1 21,AG A7 b 1 23,Ad A7 b 2,Ad A7 b 3,gSr<|BC (Cc b 5) 0,Ak b 5 1,Ak b 5 2,Ak b 5 3,Ak b 5 4,Ak b 5 5,Ak b 5 6,Ak b 5 7,Ak b 6 0⟩,ia,λs r=> {s with r:=r.r,i:=r.i},λs=>s,λ_ s=>s,[.ret,.exit 0],ZT,YZ,ud⟩
abbrev dx:=Zd.run
abbrev fZ:=Zd.Au
def Un:aVI:=[X7,XM,XL,XN]
def amc:Ay:=kI Un<|la 3 func189 dc<|la 2 func187 We<|l0 Un
def ayB:Rq YZ ia:=by
 intro s hI;refine ⟨λc1=>⟨?_,?_,?_,?_,λc2=>⟨A9,A9,ak⟩,λc2=>⟨A9,A9,ak⟩⟩,λc1=>⟨A9,A9,ak⟩⟩
 all_goals ((obtain ⟨h0,h1,h2,⟨e0,e1,e2,e3,e4⟩,h4⟩:=hI;simp only [Ab] at c1;have hm:=e1 (gi s.l s.i)<|Ki A0 A0;omega))
def aRm:Zd.Ok:={}
def aRD:Zd.Pf (aBf):=⟨amT,λs h=>rfl,agw,ayB⟩
def eR:=s2 (b:=bN f187 0) aRm aRD Un amc
def aup:Fi ZT YZ aBf fZ dx:=AS.fin aRm aRD
def cq (s:N7) (hE:ZT s):(fZ s=.exit 0/\s.l.all (Ky s.BJ s.sums s.more)=U)\/(fZ s=.ret/\(dx s).r=X/\s.l.all (Ky s.BJ s.sums s.more)=X):=by
 obtain ⟨s',hI,hq⟩:=aup s hE;obtain ⟨h0,h1,h2,h3,_⟩:=hE
 have en:(dx s).n=s.n:=rfl
 rcases hq with ⟨q1,q2⟩ |⟨q1,q2,j,q3,q4⟩
 ·exact .inl ⟨q1,(Qp (d:=(0:Y))).1 λj hj=>q2 j A0⟩
 ·exact aMz
structure K3 where
 (charger level:Y)
 l:aVw
 (n i:Y)
 KO:aVF
 KT:aVz
 KS:aVK
 KQ:aVA
 Kg:aVL
 HX:aVF
 HW:aVz
 Dr:aVK
 B4:aVA
 HY:aVL
 BJ:aVT
 (CN CM CL CK CJ CI CH CG CF CE CA C9 C8 C7 CC CB BL sums levels:aVw)
 more:Y
def aD6 (s:K3):T (Rd K3):=letI b:=gi s.l s.i;letI c:=M s.sums;letI a:=s.sums.set b.toNat<|AA<|(s.sums.getD b.toNat<|Ty.dflt A7)+s.more;.br (an<|s.i<s.n) (.ix s.i (M s.l)<|.ik b c<|.ik b c<|.re c a<|.rl s.levels<|.nx {s with i:=AA<|s.i+1,sums:=a})<|.rl s.sums<|.rl s.levels<|.so (.exit 0) s
def VH (s:K3):Prop:=s.i=0/\(∀k:aVx,0<=s.sums.getD k 0/\s.sums.getD k 0<=2000)/\s.n=(M s.l:Y)/\s.n<=1000/\(∀r∈s.l,0<=r/\r<(M s.sums:Y))/\(0<=s.more/\s.more<=10000)
def cC (s:K3):Prop:=(0<=s.i/\s.i<=s.n)/\(∀k:aVx,0<=s.sums.getD k 0/\s.sums.getD k 0<=2000+10000*s.i)/\s.n=(M s.l:Y)/\s.n<=1000/\(∀r∈s.l,0<=r/\r<(M s.sums:Y))/\(0<=s.more/\s.more<=10000)
def aB8 (s:K3):aVx:=(s.n-s.i).toNat
def xH (x:Ex) (s s':K3):Prop:=x=.exit 0/\s'.i=s'.n
def anr:∀s,VH s->cC s:=by
 rintro s ⟨h0,h1,h2,h3⟩
 exact ⟨A0,λk=>A8,h2,h3⟩
def akd:Da cC aB8 xH aD6:=by
 intro s hI;obtain ⟨⟨h0,h1⟩,h2,h3,h4,h5,h6⟩:=hI;refine AH (λc1=>?_) λc1=>?_
 ·have c1:s.i<s.n:=AY
  have hb:=h2 (gi s.l s.i).toNat
  rw [AJ (x:=s.i+1),AJ (x:=s.sums.getD (gi s.l s.i).toNat (Ty.dflt A7)+s.more) aNn aNo];refine ⟨⟨⟨A8,A8⟩,λk=>?_,h3,h4,λr hr=>A8,h6⟩,by simp only [aB8];omega⟩
  simp only
  have hk:=h2 k
  rw [TZ];split
  ·show 0<=s.sums.getD (gi s.l s.i).toNat 0+s.more/\s.sums.getD (gi s.l s.i).toNat 0+s.more<=_
   omega
  ·omega
 ·exact T9
def VJ:AS K3:=⟨4,90,[1,2,6,7,66,67,68],[],λs=>[s.charger,.own 4 0,s.level,.own 5 0,.xl A7 s.l,s.n,s.i],λs=>[⟨[s.KO,s.KT,s.KS,s.KQ,s.Kg],28,.cl,X⟩,⟨[s.HX,s.HW,s.Dr,s.B4,s.HY,.xl Ec s.BJ,.xl A7 s.CN,.xl A7 s.CM,.xl A7 s.CL,.xl A7 s.CK,.xl A7 s.CJ,.xl A7 s.CI,.xl A7 s.CH,.xl A7 s.CG,.xl A7 s.CF,.xl A7 s.CE,.xl A7 s.CA,.xl A7 s.C9,.xl A7 s.C8,.xl A7 s.C7,.xl A7 s.CC,.xl A7 s.CB,.os 2 1 0<|M s.sums,.xl A7 s.BL,.os 3 1 0<|M s.levels],309,.cl,X⟩,bV 3 A7 s.sums,bV 3 A7 s.levels,⟨[.own 1 0],305,.cl,X⟩,⟨[s.more],3,.cl,X⟩],λv b=>⟨AL v 0,AL v 2,B9 A7 v 4,AL v 5,AL v 6,AG Af b 0 0,AG .str b 0 1,AG An b 0 2,AG Ag b 0 3,AG Am b 0 4,AG Af b 1 0,AG .str b 1 1,AG An b 1 2,AG Ag b 1 3,AG Am b 1 4,AG Ec b 1 5,AG A7 b 1 6,AG A7 b 1 7,AG A7 b 1 8,AG A7 b 1 9,AG A7 b 1 10,AG A7 b 1 11,AG A7 b 1 12,AG A7 b 1 13,AG A7 b 1 14,AG A7 b 1 15,AG A7 b 1 16,AG A7 b 1 17,AG A7 b 1 18,AG A7 b 1 19,AG A7 b 1 20,AG A7 b 1 21,AG A7 b 1 23,Ad A7 b 2,Ad A7 b 3,Ak b 5 0⟩,aD6,λs r=> {s with i:=r.i,sums:=r.sums},λs=>s,λ_ s=>s,[.exit 0],VH,cC,aB8⟩
abbrev P6:=VJ.run
abbrev ahG:=VJ.Au
def amb:Ay:=kI Un<|la 2 func187 eR<|la 3 func189 dc<|la 2 func187 We<|l0 Un
def akm:Rq cC aD6:=by
 intro s hI;refine ⟨λc1=>⟨?_,?_,?_,?_,?_,?_,A9,ak⟩,λc1=>⟨A9,A9,ak⟩⟩
 all_goals ((obtain ⟨⟨h0,h1⟩,h2,h3,h4,h5,h6⟩:=hI;(try simp only [Ab] at c1);first|(have hm:=h5 (gi s.l s.i)<|Ki A0 A0;omega) |exact ⟨rfl,AI⟩ |exact ⟨rfl,rfl⟩))
def aB0:VJ.Ok:={}
def aAn:VJ.Pf (xH):=⟨anr,λs h=>rfl,akd,akm⟩
def tv:=s2 (b:=bN f191 0) aB0 aAn Un amb
def axD:Fi VH cC xH ahG P6:=AS.fin aB0 aAn
def arB (s:K3) (hE:VH s):(λs:K3=>L3 s.sums s.more<|s.l.drop s.i.toNat) (P6 s)=(λs:K3=>L3 s.sums s.more<|s.l.drop s.i.toNat) s:=by
 exact AS.Kn aB0 aAn (λs:K3=>L3 s.sums s.more<|s.l.drop s.i.toNat) (λs hI=>by
  obtain ⟨⟨h0,h1⟩,h2,h3,h4,h5,h6⟩:=hI;refine AH (λc1=>?_) λc1=>rfl
  have c1:s.i<s.n:=A8
  have hb:=h2 (gi s.l s.i).toNat
  rw [AJ (x:=s.i+1),AJ (x:=s.sums.getD (gi s.l s.i).toNat (Ty.dflt A7)+s.more) aNn aNo];rw [(gi_step h0 (show s.i<M s.l by omega)).1]
  rfl) s hE
def aQU (s:K3) (hE:VH s):(P6 s).sums=L3 s.sums s.more s.l:=by
 have q3:=arB s hE
 obtain ⟨s',hI,q1,q2⟩:=axD s hE;obtain ⟨h0,h1,h2,h3⟩:=hE;simp only at q3;rw [q2,show (P6 s).n=s.n from rfl,show (P6 s).l=s.l from rfl,show (P6 s).more=s.more from rfl,Ew A0,h0] at q3;exact q3
structure DD where
 (most order:aVw)
 (n level:Y)
 some:aVH
 l:aVw
 (m k:Y)
 BD:aVF
 Bh:aVz
 C5:aVK
 BQ:aVA
 C6:aVL
 HX:aVF
 HW:aVz
 Dr:aVK
 B4:aVA
 HY:aVL
 BJ:aVT
 (CN CM CL CK CJ CI CH CG CF CE CA C9 C8 C7 CC CB BL sums levels:aVw)
def aGb:=lN (bN f151 0) 0
def Tl (s:DD):N7:=letI c:=gi s.l s.k;letI d:=gi s.BL c;letI a:=AF s.B4 c;letI b:=AA<|(s.levels.getD c.toNat<|Ty.dflt A7)+1;(⟨X,([s.CN,s.CM,s.CL,s.CK,s.CJ,s.CI,s.CH,s.CG,s.CF,s.CE,s.CA,s.C9,s.C8,s.C7,s.CC,s.CB]:aVD).getD c.toNat [],(M (([s.CN,s.CM,s.CL,s.CK,s.CJ,s.CI,s.CH,s.CG,s.CF,s.CE,s.CA,s.C9,s.C8,s.C7,s.CC,s.CB]:aVD).getD c.toNat []):Y),0,s.BD,s.Bh,s.C5,s.BQ,s.C6,s.HX,s.HW,s.Dr,s.B4,s.HY,s.BJ,s.CN,s.CM,s.CL,s.CK,s.CJ,s.CI,s.CH,s.CG,s.CF,s.CE,s.CA,s.C9,s.C8,s.C7,s.CC,s.CB,s.BL,s.sums,s.levels,a.1,a.2.1,a.2.2.1,a.2.2.2.1,a.2.2.2.2.1,a.2.2.2.2.2.1,a.2.2.2.2.2.2.1,a.2.2.2.2.2.2.2,AA<|(if d<(E9 a.2.2.2.1 a.2.2.2.2.2.1 b) then E9 a.2.2.2.1 a.2.2.2.2.2.1 b else d)-(if d<(E9 a.2.2.2.1 a.2.2.2.2.2.1<|AA<|b-1) then E9 a.2.2.2.1 a.2.2.2.2.2.1 (AA<|b-1) else d)⟩:N7)
def TI (s:DD):K3:=letI b:=gi s.l s.k;letI c:=AF s.B4 b;letI d:=gi s.BL b;letI a:=AA<|(s.levels.getD b.toNat<|Ty.dflt A7)+1;(⟨b,a,([s.CN,s.CM,s.CL,s.CK,s.CJ,s.CI,s.CH,s.CG,s.CF,s.CE,s.CA,s.C9,s.C8,s.C7,s.CC,s.CB]:aVD).getD b.toNat [],(M (([s.CN,s.CM,s.CL,s.CK,s.CJ,s.CI,s.CH,s.CG,s.CF,s.CE,s.CA,s.C9,s.C8,s.C7,s.CC,s.CB]:aVD).getD b.toNat []):Y),0,s.BD,s.Bh,s.C5,s.BQ,s.C6,s.HX,s.HW,s.Dr,s.B4,s.HY,s.BJ,s.CN,s.CM,s.CL,s.CK,s.CJ,s.CI,s.CH,s.CG,s.CF,s.CE,s.CA,s.C9,s.C8,s.C7,s.CC,s.CB,s.BL,s.sums,s.levels,AA<|(if d<(E9 c.2.2.2.1 c.2.2.2.2.2.1 a) then E9 c.2.2.2.1 c.2.2.2.2.2.1 a else d)-(if d<(E9 c.2.2.2.1 c.2.2.2.2.2.1<|AA<|a-1) then E9 c.2.2.2.1 c.2.2.2.2.2.1 (AA<|a-1) else d)⟩:K3)
def UK (s:DD):T (Rd DD):=letI b:=gi s.l s.k;letI d:=M s.levels;letI e:=AA<|s.k+1;letI f:=AF s.B4 b;letI g:=P6<|TI s;letI h:=s.levels.getD b.toNat<|Ty.dflt A7;letI c:=AA<|h+1;letI a:=s.levels.set b.toNat c;.br (an<|s.k<s.m) (.ix s.k (M s.l)<|.ik b d<|.br (h !=(AA<|s.level-1)) (.rl s.sums<|.rl s.levels<|.nx {s with k:=e})<|.ix b (M s.BQ)<|.ix b (M s.most)<|.req ((gi s.most b)<=9223372036854775807)<|.br (an<|(He (AF s.BQ b).2.2.2.1 (AF s.BQ b).2.2.2.2.1 (AF s.BQ b).2.2.2.2.2.1<|gi s.most b)<s.level) (.rl s.sums<|.rl s.levels<|.nx {s with k:=e})<|.ix b (M s.B4)<|.ik b d<|.ix b (M s.BL)<|.req ((1<=f.2.2.2.1/\f.2.2.2.1<=80/\1<=f.2.2.2.2.2.1/\f.2.2.2.2.2.1<=80)/\0<=c/\c<=1000)<|.ix b (M s.BL)<|.req ((1<=f.2.2.2.1/\f.2.2.2.1<=80/\1<=f.2.2.2.2.2.1/\f.2.2.2.2.2.1<=80)/\0<=(AA<|c-1)/\(AA<|c-1)<=1000)<|.req (0<=b/\b<(16:Y))<|.rl s.sums<|.rl s.levels<|.req (Zd.q<|Tl s)<|.br (Bs (fZ<|Tl s)<|.ret) (.br (!(dx<|Tl s).r) (.br X (.rl s.sums<|.rl s.levels<|.nx {s with some:=U,k:=e})<|.rl s.sums<|.rl s.levels<|.nx {s with k:=e})<|.req (0<=b/\b<(16:Y))<|.rl s.sums<|.rl s.levels<|.req (VJ.q<|TI s)<|.ik b d<|.br U (.rl g.sums<|.re d a<|.nx {s with some:=U,k:=e,sums:=g.sums,levels:=a})<|.rl g.sums<|.re d a<|.nx {s with k:=e,sums:=g.sums,levels:=a})<|.br (!U) (.br X (.rl s.sums<|.rl s.levels<|.nx {s with some:=U,k:=e})<|.rl s.sums<|.rl s.levels<|.nx {s with k:=e})<|.req (0<=b/\b<(16:Y))<|.rl s.sums<|.rl s.levels<|.req (VJ.q<|TI s)<|.ik b d<|.br U (.rl g.sums<|.re d a<|.nx {s with some:=U,k:=e,sums:=g.sums,levels:=a})<|.rl g.sums<|.re d a<|.nx {s with k:=e,sums:=g.sums,levels:=a})<|.rl s.sums<|.rl s.levels<|.so (.exit 2) s
def DK (s:DD):aVD:=[s.CN,s.CM,s.CL,s.CK,s.CJ,s.CI,s.CH,s.CG,s.CF,s.CE,s.CA,s.C9,s.C8,s.C7,s.CC,s.CB]
def Uf (s:DD):Prop:=s.k=0/\(s.m=(M s.l:Y)/\s.m<=1000/\1<=s.level/\s.level<=81)/\s.B4=s.BQ/\OkT (DK s) s.BJ s.B4 s.BL s.most s.l/\OkS s.BJ s.l s.sums s.levels
def I3 (s:DD):Prop:=(0<=s.k/\s.k<=s.m)/\(s.m=(M s.l:Y)/\s.m<=1000/\1<=s.level/\s.level<=81)/\s.B4=s.BQ/\OkT (DK s) s.BJ s.B4 s.BL s.most s.l/\OkS s.BJ s.l s.sums s.levels
def Tu (s:DD):aVx:=(s.m-s.k).toNat
def kO (x:Ex) (s s':DD):Prop:=x=.exit 2/\s'.k=s'.m
def ajI:∀s,Uf s->I3 s:=by
 exact mY
def Qy (s:DD) (hI:I3 s) (c1:s.k<s.m):letI a:=gi s.l s.k;gi s.l s.k∈s.l/\(0<=gi s.l s.k/\gi s.l s.k<16)/\gi s.l s.k<(M s.B4:Y)/\gi s.l s.k<(M s.BQ:Y)/\gi s.l s.k<(M s.BL:Y)/\gi s.l s.k<(M s.most:Y)/\gi s.l s.k<(M s.levels:Y)/\(0<=gi s.most a/\gi s.most a<=80)/\(0<=gi s.BL a/\gi s.BL a<=80):=by
 obtain ⟨⟨h0,h1⟩,⟨h2,h3,h4,h5⟩,h6,hT,hS⟩:=hI
 have hm:gi s.l s.k∈s.l:=Ki h0 A0
 obtain ⟨o1,o2,o3,o4⟩:=hT.ord _ hm;exact ⟨hm,o1,o2,A8,o3,o4,hS.C1 _ hm,hT.mo _<|Ki o1.1 o4,hT.al _<|Ki o1.1 o3⟩
def Qv {s:DD}(hI:I3 s) (c2:((s.levels.getD (gi s.l s.k).toNat<|Ty.dflt A7) !=(AA<|s.level-1))=X):s.levels.getD (gi s.l s.k).toNat 0=s.level-1:=by
 obtain ⟨_,⟨h2,h3,h4,h5⟩,_⟩:=hI
 have c2:((s.levels.getD (gi s.l s.k).toNat 0) !=(AA<|s.level-1))=false:=c2
 rw [AJ (x:=s.level-1)] at c2
 grind
def iI {s:DD}(hI:I3 s) (c2:s.levels.getD (gi s.l s.k).toNat 0=s.level-1):letI a:=(s.levels.getD (gi s.l s.k).toNat<|Ty.dflt A7)+1;AA a=s.level/\AA ((AA a)-1)=s.level-1:=by
 obtain ⟨_,⟨h2,h3,h4,h5⟩,_⟩:=hI
 have e:AA ((s.levels.getD (gi s.l s.k).toNat<|Ty.dflt A7)+1)=s.level:=by
  have:(s.levels.getD (gi s.l s.k).toNat<|Ty.dflt A7)=s.level-1:=c2
  rw [this,AJ (x:=s.level-1+1)];omega
 refine ⟨e,?_⟩;rw [e,AJ]
def WU {s:DD}(hI:I3 s) (c1:s.k<s.m) (c2:s.levels.getD (gi s.l s.k).toNat 0=s.level-1):letI a:=gi s.l s.k;(Tl s).more=GC s.B4 s.BL a s.level/\(TI s).more=GC s.B4 s.BL a s.level/\0<=GC s.B4 s.BL a s.level/\GC s.B4 s.BL a s.level<=10000:=by
 have hx:=Qy s hI c1
 obtain ⟨w1,w2⟩:=iI hI c2;obtain ⟨_,⟨h2,h3,h4,h5⟩,h6,hT,hS⟩:=hI
 have hb:=aSF (gs:=s.B4) (alive:=s.BL) (k:=s.level) (hT.has _ hx.1) hx.2.2.2.2.2.2.2.2 h4 h5
 have e:(Tl s).more=GC s.B4 s.BL (gi s.l s.k) s.level:=by
  unfold Tl;simp only [w2];simp only [w1]
  show AA (GC s.B4 s.BL (gi s.l s.k) s.level)=_
  rw [AJ]
 exact ⟨e,e,hb⟩
def aa0 {s:DD}(hI:I3 s) (c1:s.k<s.m):((DK s).getD (gi s.l s.k).toNat []).Nodup/\(M ((DK s).getD (gi s.l s.k).toNat []):Y)<=1000/\∀r∈(DK s).getD (gi s.l s.k).toNat [],0<=r/\r<(M s.BJ:Y):=by
 have hx:=Qy s hI c1
 obtain ⟨_,_,_,hT,_⟩:=hI;refine hT.row _ ?_
 have hl:=hT.ol
 grind
def Wc {s:DD}(hI:I3 s) (c1:s.k<s.m) (c2:s.levels.getD (gi s.l s.k).toNat 0=s.level-1):ZT (Tl s):=by
 obtain ⟨m1,m2,m3⟩:=WU hI c1 c2;obtain ⟨o1,o2,o3⟩:=aa0 hI c1;obtain ⟨_,_,_,hT,hS⟩:=hI;exact ⟨rfl,T1 _,o2,rfl,o3,hS.len,hS.bd,A8⟩
def rp {s:DD}(hI:I3 s) (c1:s.k<s.m) (c2:s.levels.getD (gi s.l s.k).toNat 0=s.level-1):VH (TI s):=by
 obtain ⟨m1,m2,m3⟩:=WU hI c1 c2;obtain ⟨o1,o2,o3⟩:=aa0 hI c1;obtain ⟨_,_,_,hT,hS⟩:=hI;refine ⟨rfl,hS.bd,rfl,o2,λr hr=>?_,A8⟩
 have:=o3 r hr
 have hl:=hS.len
 show 0<=r/\r<(M s.sums:Y)
 omega
def aPx (s s':DD) (hI:I3 s) (c1:s.k<s.m) (ht:(s'.sums,s'.levels,s'.some)=G3 (DK s) s.BJ s.B4 s.BL s.most s.level (s.sums,s.levels,s.some) (gi s.l s.k)) (hk:s'.k=AA (s.k+1))
  (h_m:s'.m=s.m) (h_l:s'.l=s.l) (h_v:s'.level=s.level) (h_g:s'.B4=s.B4) (h_c:s'.BQ=s.BQ) (h_r:s'.BJ=s.BJ) (h_a:s'.BL=s.BL) (h_w:s'.most=s.most) (h_O:DK s'=DK s):
  (I3 s'/\Tu s'<Tu s)/\(λs:DD=>swp (DK s) s.BJ s.B4 s.BL s.most s.level (s.sums,s.levels,s.some)<|s.l.drop s.k.toNat) s'=(λs:DD=>swp (DK s) s.BJ s.B4 s.BL s.most s.level (s.sums,s.levels,s.some)<|s.l.drop s.k.toNat) s:=by
 have hx:=Qy s hI c1
 obtain ⟨⟨h0,h1⟩,⟨h2,h3,h4,h5⟩,h6,hT,hS⟩:=hI;rw [AJ (x:=s.k+1)] at hk
 have e1:s'.sums=(G3 (DK s) s.BJ s.B4 s.BL s.most s.level (s.sums,s.levels,s.some)<|gi s.l s.k).1:=B2 (·.1) ht
 have e2:s'.levels=(G3 (DK s) s.BJ s.B4 s.BL s.most s.level (s.sums,s.levels,s.some)<|gi s.l s.k).2.1:=B2 (·.2.1) ht
 refine ⟨⟨⟨⟨A0,A0⟩,⟨A8,A0,A0,A0⟩,A8,A8,?_⟩,by simp only [Tu];omega⟩,?_⟩
 ·rw [h_r,h_l,e1,e2]
  exact aQV hT hS hx.1 h4 h5
 ·simp only
  rw [h_O,h_r,h_g,h_a,h_w,h_v,h_l,ht,hk,(gi_step h0 (show s.k<M s.l by omega)).1]
  rfl
def qT (s s':DD) (hI:I3 s) (c1:s.k<s.m) (ht:(s'.sums,s'.levels,s'.some)=G3 (DK s) s.BJ s.B4 s.BL s.most s.level (s.sums,s.levels,s.some) (gi s.l s.k)) (hk:s'.k=AA (s.k+1))
  (h_m:s'.m=s.m) (h_l:s'.l=s.l) (h_v:s'.level=s.level) (h_g:s'.B4=s.B4) (h_c:s'.BQ=s.BQ) (h_r:s'.BJ=s.BJ) (h_a:s'.BL=s.BL) (h_w:s'.most=s.most) (h_O:DK s'=DK s):DV (λs'=>I3 s'/\Tu s'<Tu s) (λx s'=>kO x s s') (.next s'):=(aPx s s' hI c1 ht hk h_m h_l h_v h_g h_c h_r h_a h_w h_O).1
def qS (s s':DD) (hI:I3 s) (c1:s.k<s.m) (ht:(s'.sums,s'.levels,s'.some)=G3 (DK s) s.BJ s.B4 s.BL s.most s.level (s.sums,s.levels,s.some) (gi s.l s.k)) (hk:s'.k=AA (s.k+1))
  (h_m:s'.m=s.m) (h_l:s'.l=s.l) (h_v:s'.level=s.level) (h_g:s'.B4=s.B4) (h_c:s'.BQ=s.BQ) (h_r:s'.BJ=s.BJ) (h_a:s'.BL=s.BL) (h_w:s'.most=s.most) (h_O:DK s'=DK s):DV (λs'=>(λs:DD=>swp (DK s) s.BJ s.B4 s.BL s.most s.level (s.sums,s.levels,s.some)<|s.l.drop s.k.toNat) s'=(λs:DD=>swp (DK s) s.BJ s.B4 s.BL s.most s.level (s.sums,s.levels,s.some)<|s.l.drop s.k.toNat) s) (λ_ s'=>(λs:DD=>swp (DK s) s.BJ s.B4 s.BL s.most s.level (s.sums,s.levels,s.some)<|s.l.drop s.k.toNat) s'=(λs:DD=>swp (DK s) s.BJ s.B4 s.BL s.most s.level (s.sums,s.levels,s.some)<|s.l.drop s.k.toNat) s) (.next s'):=(aPx s s' hI c1 ht hk h_m h_l h_v h_g h_c h_r h_a h_w h_O).2
def axt:Da I3 Tu kO UK:=by
 intro s hI;unfold UK;dsimp only [T.rd,T.rl,T.rv];refine AH (λc1=>?_) λc1=>?_
 ·refine AH (λc2=>?_) (λc2=>?_)
  ·have c1:s.k<s.m:=AY
   have hn:¬(s.levels.getD (gi s.l s.k).toNat 0=s.level-1/\s.level<=Fe s.B4 (gi s.l s.k) (gi s.most<|gi s.l s.k)):=λh=>by
    exact aM6
   exact aMf
  ·refine AH (λc3=>?_) (λc3=>?_)
   ·have c1:s.k<s.m:=AY
    have hn:¬(s.levels.getD (gi s.l s.k).toNat 0=s.level-1/\s.level<=Fe s.B4 (gi s.l s.k) (gi s.most<|gi s.l s.k)):=λh=>by
     exact aMS
    exact aMf
   ·refine AH (λc4=>?_) (λc4=>?_)
    ·refine AH (λc5=>?_) (λc5=>?_)
     ·refine AH (λc6=>?_) (λc6=>?_)
      ·cases c6
      ·have c1:s.k<s.m:=AY
       have c2:=Qv hI c2
       have hp:s.levels.getD (gi s.l s.k).toNat 0=s.level-1/\s.level<=Fe s.B4 (gi s.l s.k) (gi s.most<|gi s.l s.k):=by
        exact mW
       have hE:=Wc hI c1 c2
       obtain ⟨m1,m2,_⟩:=WU hI c1 c2;rcases cq _ hE with ⟨q1,q2⟩ |⟨q1,q2,q3⟩
       ·rw [q1] at c4
        cases c4
       ·rw [m1] at q3
        have q3:((DK s).getD (gi s.l s.k).toNat []).all (Ky s.BJ s.sums<|GC s.B4 s.BL (gi s.l s.k) s.level)=false:=q3
        exact qT s _ hI AY aO5 rfl rfl rfl rfl rfl rfl rfl rfl rfl rfl
     ·exact aN9
    ·refine AH (λc5=>?_) (λc5=>?_)
     ·exact aO0
     ·refine AH (λc6=>?_) (λc6=>?_)
      ·have c1:s.k<s.m:=AY
       have c2:=Qv hI c2
       have hp:s.levels.getD (gi s.l s.k).toNat 0=s.level-1/\s.level<=Fe s.B4 (gi s.l s.k) (gi s.most<|gi s.l s.k):=by
        exact mW
       have hE:=Wc hI c1 c2
       obtain ⟨m1,m2,_⟩:=WU hI c1 c2
       have hR:=rp hI c1 c2
       rcases cq _ hE with ⟨q1,q2⟩ |⟨q1,q2,q3⟩
       ·rw [m1] at q2
        have q2:((DK s).getD (gi s.l s.k).toNat []).all (Ky s.BJ s.sums<|GC s.B4 s.BL (gi s.l s.k) s.level)=true:=q2
        have r1:=aQU _ hR
        rw [m2] at r1
        have r1:(P6<|TI s).sums=L3 s.sums (GC s.B4 s.BL (gi s.l s.k) s.level) ((DK s).getD (gi s.l s.k).toNat []):=r1
        have w1:=(iI hI c2).1
        exact qT s _ hI AY aOn rfl rfl rfl rfl rfl rfl rfl rfl rfl rfl
       ·rw [q1] at c4
        cases c4
      ·cases c6
 ·have c1:s.m<=s.k:=AY
  have h0:=hI.1
  exact Vi
def S5:AS DD:=⟨0,129,[2,3,4,12,14,15,16,66,67,68],[],λs=>[.xl A7 s.most,.xl A7 s.order,.own 0 0,s.n,.own 1 0,s.level,s.some,.xl A7 s.l,s.m,s.k],λs=>[⟨[s.BD,s.Bh,s.C5,s.BQ,s.C6],28,.cl,X⟩,⟨[s.HX,s.HW,s.Dr,s.B4,s.HY,.xl Ec s.BJ,.xl A7 s.CN,.xl A7 s.CM,.xl A7 s.CL,.xl A7 s.CK,.xl A7 s.CJ,.xl A7 s.CI,.xl A7 s.CH,.xl A7 s.CG,.xl A7 s.CF,.xl A7 s.CE,.xl A7 s.CA,.xl A7 s.C9,.xl A7 s.C8,.xl A7 s.C7,.xl A7 s.CC,.xl A7 s.CB,.os 2 1 0<|M s.sums,.xl A7 s.BL,.os 3 1 0<|M s.levels],309,.cl,X⟩,bV 3 A7 s.sums,bV 3 A7 s.levels],λv b=>⟨B9 A7 v 0,B9 A7 v 1,AL v 3,AL v 5,EP v 6,B9 A7 v 7,AL v 8,AL v 9,AG Af b 0 0,AG .str b 0 1,AG An b 0 2,AG Ag b 0 3,AG Am b 0 4,AG Af b 1 0,AG .str b 1 1,AG An b 1 2,AG Ag b 1 3,AG Am b 1 4,AG Ec b 1 5,AG A7 b 1 6,AG A7 b 1 7,AG A7 b 1 8,AG A7 b 1 9,AG A7 b 1 10,AG A7 b 1 11,AG A7 b 1 12,AG A7 b 1 13,AG A7 b 1 14,AG A7 b 1 15,AG A7 b 1 16,AG A7 b 1 17,AG A7 b 1 18,AG A7 b 1 19,AG A7 b 1 20,AG A7 b 1 21,AG A7 b 1 23,Ad A7 b 2,Ad A7 b 3⟩,UK,λs r=> {s with some:=r.some,k:=r.k,sums:=r.sums,levels:=r.levels},λs=>s,λ_ s=>s,[.exit 2],Uf,I3,Tu⟩
abbrev Hx:=S5.run
abbrev au3:=S5.Au
def axX:Rq I3 UK:=by
 intro s hI;refine ⟨λc1=>⟨?_,?_,?_,λc2=>⟨A9,A9,ak⟩,λc2=>⟨?_,?_,?_,λc3=>⟨A9,A9,ak⟩,λc3=>⟨?_,?_,?_,?_,?_,?_,?_,?_,A9,A9,?_,λc4=>⟨λc5=>⟨λc6=>⟨A9,A9,ak⟩,λc6=>⟨A9,A9,ak⟩⟩,λc5=>⟨?_,A9,A9,?_,?_,?_,λc7=>⟨A9,?_,ak⟩,λc7=>⟨A9,?_,ak⟩⟩⟩,λc4=>⟨λc8=>⟨λc9=>⟨A9,A9,ak⟩,λc9=>⟨A9,A9,ak⟩⟩,λc8=>⟨?_,A9,A9,?_,?_,?_,λc10=>⟨A9,?_,ak⟩,λc10=>⟨A9,?_,ak⟩⟩⟩⟩⟩⟩,λc1=>⟨A9,A9,ak⟩⟩
 ·(have:=hI.1;have:=hI.2.1.1;simp only [Ab] at c1;omega)
 iterate 9 · (have hx:=Qy s hI AY;omega)
 ·exact aMn
 ·exact mj
 ·exact aMn
 ·exact mj
 ·exact ⟨Wc hI AY<|Qv hI c2,rfl,rfl⟩
 ·exact mj
 ·exact aNT
 iterate 2 · (have hx:=Qy s hI AY;omega)
 iterate 2 · exact ⟨rfl,AI⟩
 ·exact mj
 ·exact aNT
 iterate 2 · (have hx:=Qy s hI A8;omega)
 iterate 2 · exact ⟨rfl,AI⟩
def aBO:aVI:=[X7,XM,XL,XN]
def ama:Ay:=kI aBO<|la 8 func191 tv<|la 2 func187 eR<|la 3 func189 dc<|la 2 func187 We<|l0 aBO
def tj:S5.Ok:={}
def tQ:S5.Pf (kO):=⟨ajI,λs h=>rfl,axt,axX⟩
def aqz:SA 0 aGb S5:=s1 tj tQ aBO ama
def arz:Fi Uf I3 kO au3 Hx:=AS.fin tj tQ
def aoH (s:DD) (hE:Uf s):(λs:DD=>swp (DK s) s.BJ s.B4 s.BL s.most s.level (s.sums,s.levels,s.some)<|s.l.drop s.k.toNat) (Hx s)=(λs:DD=>swp (DK s) s.BJ s.B4 s.BL s.most s.level (s.sums,s.levels,s.some)<|s.l.drop s.k.toNat) s:=by
 exact AS.Kn tj tQ (λs:DD=>swp (DK s) s.BJ s.B4 s.BL s.most s.level (s.sums,s.levels,s.some)<|s.l.drop s.k.toNat) (λs hI=>by
  show DV _ _ ((UK s).rd s)
  unfold UK;dsimp only [T.rd,T.rl];refine AH (λc1=>?_) λc1=>?_
  ·refine AH (λc2=>?_) (λc2=>?_)
   ·have c1:s.k<s.m:=AY
    have hn:¬(s.levels.getD (gi s.l s.k).toNat 0=s.level-1/\s.level<=Fe s.B4 (gi s.l s.k) (gi s.most<|gi s.l s.k)):=λh=>by
     exact aM6
    exact aMg
   ·refine AH (λc3=>?_) (λc3=>?_)
    ·have c1:s.k<s.m:=AY
     have hn:¬(s.levels.getD (gi s.l s.k).toNat 0=s.level-1/\s.level<=Fe s.B4 (gi s.l s.k) (gi s.most<|gi s.l s.k)):=λh=>by
      exact aMS
     exact aMg
    ·refine AH (λc4=>?_) (λc4=>?_)
     ·refine AH (λc5=>?_) (λc5=>?_)
      ·refine AH (λc6=>?_) (λc6=>?_)
       ·cases c6
       ·have c1:s.k<s.m:=AY
        have c2:=Qv hI c2
        have hp:s.levels.getD (gi s.l s.k).toNat 0=s.level-1/\s.level<=Fe s.B4 (gi s.l s.k) (gi s.most<|gi s.l s.k):=by
         exact mW
        have hE:=Wc hI c1 c2
        obtain ⟨m1,m2,_⟩:=WU hI c1 c2;rcases cq _ hE with ⟨q1,q2⟩ |⟨q1,q2,q3⟩
        ·rw [q1] at c4
         cases c4
        ·rw [m1] at q3
         have q3:((DK s).getD (gi s.l s.k).toNat []).all (Ky s.BJ s.sums<|GC s.B4 s.BL (gi s.l s.k) s.level)=false:=q3
         exact qS s _ hI AY aO5 rfl rfl rfl rfl rfl rfl rfl rfl rfl rfl
      ·exact aN9
     ·refine AH (λc5=>?_) (λc5=>?_)
      ·exact aO0
      ·refine AH (λc6=>?_) (λc6=>?_)
       ·have c1:s.k<s.m:=AY
        have c2:=Qv hI c2
        have hp:s.levels.getD (gi s.l s.k).toNat 0=s.level-1/\s.level<=Fe s.B4 (gi s.l s.k) (gi s.most<|gi s.l s.k):=by
         exact mW
        have hE:=Wc hI c1 c2
        obtain ⟨m1,m2,_⟩:=WU hI c1 c2
        have hR:=rp hI c1 c2
        rcases cq _ hE with ⟨q1,q2⟩ |⟨q1,q2,q3⟩
        ·rw [m1] at q2
         have q2:((DK s).getD (gi s.l s.k).toNat []).all (Ky s.BJ s.sums<|GC s.B4 s.BL (gi s.l s.k) s.level)=true:=q2
         have r1:=aQU _ hR
         rw [m2] at r1
         have r1:(P6<|TI s).sums=L3 s.sums (GC s.B4 s.BL (gi s.l s.k) s.level) ((DK s).getD (gi s.l s.k).toNat []):=r1
         have w1:=(iI hI c2).1
         exact qS s _ hI AY aOn rfl rfl rfl rfl rfl rfl rfl rfl rfl rfl
        ·rw [q1] at c4
         cases c4
       ·cases c6
  ·rfl) s hE
def arx (s:DD) (hE:Uf s):((Hx s).sums,(Hx s).levels,(Hx s).some)=swp (DK s) s.BJ s.B4 s.BL s.most s.level (s.sums,s.levels,s.some) s.l:=by
 have q3:=aoH s hE
 obtain ⟨s',hI,q1,q2⟩:=arz s hE;obtain ⟨h0,h1,_⟩:=hE;simp only at q3;rw [q2,show (Hx s).m=s.m from rfl,show (Hx s).l=s.l from rfl,Ew A0,h0] at q3;exact q3
structure JH where
 (most order:aVw)
 (n level:Y)
 BD:aVF
 Bh:aVz
 C5:aVK
 BQ:aVA
 C6:aVL
 HX:aVF
 HW:aVz
 Dr:aVK
 B4:aVA
 HY:aVL
 BJ:aVT
 (CN CM CL CK CJ CI CH CG CF CE CA C9 C8 C7 CC CB BL sums levels:aVw)
def rM:=bN f151 0
def Lm (s:JH):DD:=(⟨s.most,s.order,s.n,s.level,X,s.order,(M s.order:Y),0,s.BD,s.Bh,s.C5,s.BQ,s.C6,s.HX,s.HW,s.Dr,s.B4,s.HY,s.BJ,s.CN,s.CM,s.CL,s.CK,s.CJ,s.CI,s.CH,s.CG,s.CF,s.CE,s.CA,s.C9,s.C8,s.C7,s.CC,s.CB,s.BL,s.sums,s.levels⟩:DD)
def zm (s:JH):T (Rd JH):=letI a:=Hx<|Lm s;.rl s.sums<|.rl s.levels<|.req (S5.q<|Lm s)<|.br (! a.some) (.rl a.sums<|.rl a.levels<|.so (.exit 0) {s with sums:=a.sums,levels:=a.levels})<|.rl a.sums<|.rl a.levels<|.nx {s with level:=AA<|s.level+1,sums:=a.sums,levels:=a.levels}
def Kt (s:JH):aVD:=[s.CN,s.CM,s.CL,s.CK,s.CJ,s.CI,s.CH,s.CG,s.CF,s.CE,s.CA,s.C9,s.C8,s.C7,s.CC,s.CB]
def kE (s:JH):Prop:=s.level=1/\(M s.order:Y)<=1000/\s.B4=s.BQ/\OkT (Kt s) s.BJ s.B4 s.BL s.most s.order/\OkS s.BJ s.order s.sums s.levels
def Ub (s:JH):Prop:=(1<=s.level/\s.level<=81)/\(M s.order:Y)<=1000/\s.B4=s.BQ/\OkT (Kt s) s.BJ s.B4 s.BL s.most s.order/\OkS s.BJ s.order s.sums s.levels
def uz (s:JH):aVx:=(82-s.level).toNat
def abv (x:Ex) (s s':JH):Prop:=x=.exit 0
def ajH:∀s,kE s->Ub s:=by
 exact mY
def aPv (s:JH) (hI:Ub s):Uf (Lm s):=by
 obtain ⟨⟨h0,h1⟩,h2,h3,hT,hS⟩:=hI;exact ⟨rfl,⟨rfl,h2,h0,h1⟩,h3,hT,hS⟩
def aVv (s:JH) (hI:Ub s):((Hx<|Lm s).sums,(Hx<|Lm s).levels,(Hx<|Lm s).some)=swp (Kt s) s.BJ s.B4 s.BL s.most s.level (s.sums,s.levels,X) s.order:=arx _<|aPv s hI
def axs:Da Ub uz abv zm:=by
 intro s hI
 have hr:=aVv s hI
 obtain ⟨⟨h0,h1⟩,h2,h3,hT,hS⟩:=hI;refine AH (λc1=>rfl) λc1=>?_
 have c1:(Hx<|Lm s).some=true:=A8
 have hk:=tt hT h0 h1 s.order (s.sums,s.levels,X) (λ_ h=>h) hS
 have hs:=pq (O:=Kt s) (rows:=s.BJ) (gs:=s.B4) (alive:=s.BL) (most:=s.most) (level:=s.level) s.order (s.sums,s.levels,X)
 rw [<-hr] at hk hs
 have h80:s.level<=80:=by
  rcases hs c1 with h|h
  ·cases h
  ·exact h
 rw [AJ (x:=s.level+1)];exact ⟨⟨⟨A8,A8⟩,h2,h3,hT,hk⟩,by simp only [uz];omega⟩
def Pu:AS JH:=⟨0,129,[2,3,4,12,14,15],[.ps 14 6 A7,.ps 14 7 A7,.ps 14 8 A7,.ps 14 9 A7,.ps 14 10 A7,.ps 14 11 A7,.ps 14 12 A7,.ps 14 13 A7,.ps 14 14 A7,.ps 14 15 A7,.ps 14 16 A7,.ps 14 17 A7,.ps 14 18 A7,.ps 14 19 A7,.ps 14 20 A7,.ps 14 21 A7],λs=>[.xl A7 s.most,.xl A7 s.order,.own 0 0,s.n,.own 1 0,s.level],λs=>[⟨[s.BD,s.Bh,s.C5,s.BQ,s.C6],28,.cl,X⟩,⟨[s.HX,s.HW,s.Dr,s.B4,s.HY,.xl Ec s.BJ,.xl A7 s.CN,.xl A7 s.CM,.xl A7 s.CL,.xl A7 s.CK,.xl A7 s.CJ,.xl A7 s.CI,.xl A7 s.CH,.xl A7 s.CG,.xl A7 s.CF,.xl A7 s.CE,.xl A7 s.CA,.xl A7 s.C9,.xl A7 s.C8,.xl A7 s.C7,.xl A7 s.CC,.xl A7 s.CB,.os 2 1 0<|M s.sums,.xl A7 s.BL,.os 3 1 0<|M s.levels],309,.cl,X⟩,bV 3 A7 s.sums,bV 3 A7 s.levels],λv b=>⟨B9 A7 v 0,B9 A7 v 1,AL v 3,AL v 5,AG Af b 0 0,AG .str b 0 1,AG An b 0 2,AG Ag b 0 3,AG Am b 0 4,AG Af b 1 0,AG .str b 1 1,AG An b 1 2,AG Ag b 1 3,AG Am b 1 4,AG Ec b 1 5,AG A7 b 1 6,AG A7 b 1 7,AG A7 b 1 8,AG A7 b 1 9,AG A7 b 1 10,AG A7 b 1 11,AG A7 b 1 12,AG A7 b 1 13,AG A7 b 1 14,AG A7 b 1 15,AG A7 b 1 16,AG A7 b 1 17,AG A7 b 1 18,AG A7 b 1 19,AG A7 b 1 20,AG A7 b 1 21,AG A7 b 1 23,Ad A7 b 2,Ad A7 b 3⟩,zm,λs r=> {s with level:=r.level,sums:=r.sums,levels:=r.levels},λs=>s,λ_ s=>s,[.exit 0],kE,Ub,uz⟩
abbrev J2:=Pu.run
def axU:Rq Ub zm:=by
 intro s hI;refine ⟨A9,A9,?_,λc1=>⟨A9,A9,ak⟩,λc1=>⟨A9,A9,ak⟩⟩
 ·exact ⟨aPv s hI,rfl,rfl⟩
def Xv:aVI:=[X7,XM,XL,XN]
def aBS:Ay:=kI Xv<|la 8 func191 tv<|la 2 func187 eR<|la 3 func189 dc<|la 2 func187 We<|l0 Xv
def aS0:Pu.Ok:={}
def aQP:Pu.Pf (abv):=⟨ajH,λs h=>rfl,axs,axU⟩
def aqy:SA 0 rM Pu:=AS.snd aS0 aQP (pN (Γ:=Xv) (K:=aBS) (L:=(λi=>if i=13 then S5.lp else Al i)) (gk Xv) aBS.h rM (λb hb=>by
 rw [show BE _=[aGb] by kernel_rfl] at hb
 simp only [BB,Bx,By] at hb;subst hb;exact aqz)) λs=>AU
def arw (s:JH) (hE:kE s):(J2 s).levels=shl (Kt s) s.BJ s.B4 s.BL s.most s.order 81 1 s.sums s.levels:=by
 have hk:=AS.wq aS0 aQP (V:=λs:JH=>shl (Kt s) s.BJ s.B4 s.BL s.most s.order (82-s.level).toNat s.level s.sums s.levels) (K:=λ_ s' v=>s'.levels=v) (λs hI=>by
  have hr:=aVv s hI
  have hs:=pq (O:=Kt s) (rows:=s.BJ) (gs:=s.B4) (alive:=s.BL) (most:=s.most) (level:=s.level) s.order (s.sums,s.levels,X)
  obtain ⟨⟨h0,h1⟩,h2,h3,hT,hS⟩:=hI;rw [<-hr] at hs
  have hf:(82-s.level).toNat=(81-s.level).toNat+1:=A0
  refine AH (λc1=>?_) λc1=>?_
  ·have c1:(Hx<|Lm s).some=false:=A8
   show (Hx<|Lm s).levels=shl _ _ _ _ _ _ _ _ _ _
   rw [hf,shl,<-hr,AE A8]
  ·have c1:(Hx<|Lm s).some=true:=A8
   have h80:s.level<=80:=by
    rcases hs c1 with h|h
    ·cases h
    ·exact h
   rw [AJ (x:=s.level+1)]
   show shl (Kt s) s.BJ s.B4 s.BL s.most s.order (82-(s.level+1)).toNat (s.level+1) (Hx<|Lm s).sums (Hx<|Lm s).levels=shl (Kt s) s.BJ s.B4 s.BL s.most s.order (82-s.level).toNat s.level s.sums s.levels
   rw [hf,show 82-(s.level+1)=81-s.level by omega]
   conv=>rhs;rw [shl,<-hr]
   simp only [c1,Bp]) s hE
 rw [hk,hE.1];rfl
structure PZ where
 l:aVA
 (m k:Y)
 HX:aVF
 HW:aVz
 Dr:aVK
 B4:aVA
 HY:aVL
 BJ:aVT
 (CN CM CL CK CJ CI CH CG CF CE CA C9 C8 C7 CC CB BL out sums levels:aVw)
def aGZ:=bN f151 1
def zl (s:PZ):T (Rd PZ):=letI a:=s.levels.getD s.k.toNat<|Ty.dflt A7;letI c:=AF s.l s.k;letI b:=s.out.set s.k.toNat<|E9 c.2.2.2.1 c.2.2.2.2.2.1 a;.br (an<|s.k<s.m) (.ix s.k (M s.l)<|.ik s.k (M s.levels)<|.req ((1<=c.2.2.2.1/\c.2.2.2.1<=80/\1<=c.2.2.2.2.2.1/\c.2.2.2.2.2.1<=80)/\0<=a/\a<=1000)<|.ik s.k (M s.out)<|.re (M s.out) b<|.rl s.sums<|.rl s.levels<|.nx {s with k:=AA<|s.k+1,out:=b})<|.rl s.out<|.rl s.sums<|.rl s.levels<|.so (.exit 4) s
def kD (s:PZ):Prop:=s.k=0/\s.out=aq (M s.l) 0/\(s.m=(M s.l:Y)/\s.m<=1000/\M s.levels=M s.l)/\(∀k:Y,0<=k->k<s.m->Dw (AF s.l k).2.2.2.1 (AF s.l k).2.2.2.2.1 (AF s.l k).2.2.2.2.2.1=U)/\(∀k:aVx,0<=s.levels.getD k 0/\s.levels.getD k 0<=80)
def Yt (s:PZ):Prop:=(0<=s.k/\s.k<=s.m)/\s.out=Sh s.l s.levels s.k.toNat++aq (M s.l-s.k.toNat) 0/\(s.m=(M s.l:Y)/\s.m<=1000/\M s.levels=M s.l)/\(∀k:Y,0<=k->k<s.m->Dw (AF s.l k).2.2.2.1 (AF s.l k).2.2.2.2.1 (AF s.l k).2.2.2.2.2.1=U)/\(∀k:aVx,0<=s.levels.getD k 0/\s.levels.getD k 0<=80)
def uy (s:PZ):aVx:=(s.m-s.k).toNat
def aBp (x:Ex) (s s':PZ):Prop:=x=.exit 4/\s'.out=FY s'.l s'.levels
def ajG:∀s,kD s->Yt s:=by
 exact aNE
def axr:Da Yt uy aBp zl:=by
 intro s hI;obtain ⟨⟨h0,h1⟩,h2,⟨h3,h4,h5⟩,h6,h7⟩:=hI;refine AH (λc1=>?_) λc1=>?_
 ·have c1:s.k<s.m:=A8
  rw [AJ (x:=s.k+1)];refine ⟨⟨⟨A8,A8⟩,?_,⟨h3,h4,h5⟩,h6,h7⟩,by simp only [uy];omega⟩
  have e:M s.l-s.k.toNat=(M s.l-(s.k+1).toNat)+1:=A0
  have hs:=aIN (xs:=Sh s.l s.levels s.k.toNat) (r:=M s.l-(s.k+1).toNat) (v:=D7 s.l s.k<|s.levels.getD s.k.toNat 0)
  rw [acz] at hs;rw [h2,e,show (s.k+1).toNat=s.k.toNat+1 by omega,afx,CO h0]
  rw [show (s.k+1).toNat=s.k.toNat+1 by omega] at hs
  exact hs
 ·have c1:s.m<=s.k:=A8
  refine ⟨rfl,?_⟩;rw [h2,show s.k.toNat=M s.l by omega,mH,List.replicate_zero,Gg]
  rfl
def OE:AS PZ:=⟨0,129,[14,19,108,109,110],[],λs=>[.own 0 0,.os 1 1 0<|M s.out,s.l,s.m,s.k],λs=>[⟨[s.HX,s.HW,s.Dr,s.B4,s.HY,.xl Ec s.BJ,.xl A7 s.CN,.xl A7 s.CM,.xl A7 s.CL,.xl A7 s.CK,.xl A7 s.CJ,.xl A7 s.CI,.xl A7 s.CH,.xl A7 s.CG,.xl A7 s.CF,.xl A7 s.CE,.xl A7 s.CA,.xl A7 s.C9,.xl A7 s.C8,.xl A7 s.C7,.xl A7 s.CC,.xl A7 s.CB,.os 2 1 0<|M s.sums,.xl A7 s.BL,.os 3 1 0<|M s.levels],309,.cl,X⟩,bV 3 A7 s.out,bV 3 A7 s.sums,bV 3 A7 s.levels],λv b=>⟨B9 Ag v 2,AL v 3,AL v 4,AG Af b 0 0,AG .str b 0 1,AG An b 0 2,AG Ag b 0 3,AG Am b 0 4,AG Ec b 0 5,AG A7 b 0 6,AG A7 b 0 7,AG A7 b 0 8,AG A7 b 0 9,AG A7 b 0 10,AG A7 b 0 11,AG A7 b 0 12,AG A7 b 0 13,AG A7 b 0 14,AG A7 b 0 15,AG A7 b 0 16,AG A7 b 0 17,AG A7 b 0 18,AG A7 b 0 19,AG A7 b 0 20,AG A7 b 0 21,AG A7 b 0 23,Ad A7 b 1,Ad A7 b 2,Ad A7 b 3⟩,zl,λs r=> {s with k:=r.k,out:=r.out},λs=>s,λ_ s=>s,[.exit 4],kD,Yt,uy⟩
abbrev Qe:=OE.run
abbrev au2:=OE.Au
def axT:Rq Yt zl:=by
 intro s hI;refine ⟨λc1=>⟨?_,?_,?_,?_,?_,?_,?_,A9,A9,ak⟩,λc1=>⟨A9,A9,A9,ak⟩⟩
 iterate 3 · (obtain ⟨⟨h0,h1⟩,h2,⟨h3,h4,h5⟩,h6,h7⟩:=hI;(try simp only [Ab] at c1);have hl:M s.out=M s.l:=aP1;first|omega|exact ⟨rfl,AI⟩ |exact ⟨rfl,rfl⟩)
 ·(have hh:=IU.1<|hI.2.2.2.1 s.k hI.1.1 A8;have hb:=hI.2.2.2.2 s.k.toNat;refine ⟨A0,?_⟩;show 0<=s.levels.getD s.k.toNat 0/\s.levels.getD s.k.toNat 0<=1000;omega)
 iterate 3 · (obtain ⟨⟨h0,h1⟩,h2,⟨h3,h4,h5⟩,h6,h7⟩:=hI;(try simp only [Ab] at c1);have hl:M s.out=M s.l:=aP1;first|omega|exact ⟨rfl,AI⟩ |exact ⟨rfl,rfl⟩)
def aRz:OE.Ok:={}
def aQO:OE.Pf (aBp):=⟨ajG,λs h=>rfl,axr,axT⟩
def aqx:SA 0 aGZ OE:=s1 aRz aQO Xv aBS
def arv:Fi kD Yt aBp au2 Qe:=AS.fin aRz aQO
def aKs:aVy->T LV
 | .agg a::r=>s5 a λcs os ks gs bs=>(match r with
  | [.xl (.int J) al,.xl (.int J) mo,.xl (.int J) od]=> .ok (.AO [.xl A7<|Fc cs os ks gs bs al mo od,shE cs os ks gs bs al mo od])
  |_=> .no)
 |_=> .no
def NR (cs:aVF) (os:aVz) (ks:aVK) (gs:aVA) (bs:aVL) (al mo od:aVw):EG:=letI a:=Jt cs os ks gs bs;(⟨al,a,(M a:Y),0,cs,os,ks,gs,bs,cs,os,ks,gs,bs,a,al,([]:aVw),([]:aVw),([]:aVw),([]:aVw),([]:aVw),([]:aVw),([]:aVw),([]:aVw),([]:aVw),([]:aVw),([]:aVw),([]:aVw),([]:aVw),([]:aVw),([]:aVw),([]:aVw),aq (M a:Y).toNat (0:Y),aq (M al:Y).toNat (0:Y)⟩:EG)
def Ln (cs:aVF) (os:aVz) (ks:aVK) (gs:aVA) (bs:aVL) (al mo od:aVw):JH:=letI a:=Is<|NR cs os ks gs bs al mo od;(⟨mo,od,(M gs:Y),1,cs,os,ks,gs,bs,cs,os,ks,gs,bs,Jt cs os ks gs bs,(a.CN.drop 0).take<|M a.CN,(a.CM.drop 0).take<|M a.CM,(a.CL.drop 0).take<|M a.CL,(a.CK.drop 0).take<|M a.CK,(a.CJ.drop 0).take<|M a.CJ,(a.CI.drop 0).take<|M a.CI,(a.CH.drop 0).take<|M a.CH,(a.CG.drop 0).take<|M a.CG,(a.CF.drop 0).take<|M a.CF,(a.CE.drop 0).take<|M a.CE,(a.CA.drop 0).take<|M a.CA,(a.C9.drop 0).take<|M a.C9,(a.C8.drop 0).take<|M a.C8,(a.C7.drop 0).take<|M a.C7,(a.CC.drop 0).take<|M a.CC,(a.CB.drop 0).take<|M a.CB,al,a.sums,aq (M al:Y).toNat (0:Y)⟩:JH)
def aDD (cs:aVF) (os:aVz) (ks:aVK) (gs:aVA) (bs:aVL) (al mo od:aVw):PZ:=letI a:=Is<|NR cs os ks gs bs al mo od;letI b:=J2<|Ln cs os ks gs bs al mo od;(⟨gs,(M gs:Y),0,cs,os,ks,gs,bs,Jt cs os ks gs bs,(a.CN.drop 0).take<|M a.CN,(a.CM.drop 0).take<|M a.CM,(a.CL.drop 0).take<|M a.CL,(a.CK.drop 0).take<|M a.CK,(a.CJ.drop 0).take<|M a.CJ,(a.CI.drop 0).take<|M a.CI,(a.CH.drop 0).take<|M a.CH,(a.CG.drop 0).take<|M a.CG,(a.CF.drop 0).take<|M a.CF,(a.CE.drop 0).take<|M a.CE,(a.CA.drop 0).take<|M a.CA,(a.C9.drop 0).take<|M a.C9,(a.C8.drop 0).take<|M a.C8,(a.C7.drop 0).take<|M a.C7,(a.CC.drop 0).take<|M a.CC,(a.CB.drop 0).take<|M a.CB,al,aq (M gs:Y).toNat (0:Y),b.sums,b.levels⟩:PZ)
def aBN:aVI:=[X7,XM,XL,XN]
def amZ:Ay:=kI aBN<|la 8 func191 tv<|la 2 func187 eR<|la 3 func189 dc<|la 2 func187 We<|l0 aBN
def aPZ:=vm (S:=aKs) func151 aBN amZ (L:=(λi=>if i=11 then Pu.lp else if i=21 then OE.lp else Al i)) (λb hb=>by
 rw [show BE _=[rM,aGZ] by kernel_rfl] at hb
 simp only [BB,Bx,By] at hb;rcases hb with rfl|rfl
 ·exact aqy
 ·exact aqx) (λargs lv h=>by
 unfold aKs at h;split at h
 case h_2=>cases h
 replace h:=IX h
 obtain ⟨cs,os,ks,gs,bs,rfl,h⟩:=h;split at h
 ·rename_i al mo od
  refine At (letI b:=aDD cs os ks gs bs al mo od;letI d:=(M (Jt cs os ks gs bs):Y);letI g:=Ln cs os ks gs bs al mo od;letI j:=(M gs:Y);letI l:=(M al:Y);letI n:=((Qe b).out.drop 0).take<|M (Qe b).out;letI o:=NR cs os ks gs bs al mo od;letI s:=(aq d.toNat (0:Y));letI t:=(aq j.toNat (0:Y));letI u:=(M mo:Y);letI w:=(Bs (dX (⟨X,mo,u,0,cs,os,ks,gs,bs⟩:JF))<|.ret);letI x:=(UC.q (⟨X,mo,u,0,cs,os,ks,gs,bs⟩:JF));letI y:=(dS (⟨X,mo,u,0,cs,os,ks,gs,bs⟩:JF));letI z:=j<=1000;letI a:=Is o;letI f:=(aq l.toNat (0:Y));.br ((Od cs os ks gs bs) !=0) (.ok<|.AO [.xl A7 ([]:aVw),(1:Y)])<|.br (l !=j) (.ok<|.AO [.xl A7 ([]:aVw),(1:Y)])<|.br (u !=j) (.ok<|.AO [.xl A7 ([]:aVw),(1:Y)])<|.req (UC.q (⟨X,al,l,0,cs,os,ks,gs,bs⟩:JF))<|.br (Bs (dX (⟨X,al,l,0,cs,os,ks,gs,bs⟩:JF))<|.ret) (.br (!(dS (⟨X,al,l,0,cs,os,ks,gs,bs⟩:JF)).r) (.ok<|.AO [.xl A7 ([]:aVw),(1:Y)])<|.req x<|.br w (.br (! y.r) (.ok<|.AO [.xl A7 ([]:aVw),(1:Y)])<|.req z<|.br (!(Gv od j)) (.ok<|.AO [.xl A7 ([]:aVw),(1:Y)])<|.rm 8 d<|.rm 8 l<|.r0 Int<|.r0 Int<|.r0 Int<|.r0 Int<|.r0 Int<|.r0 Int<|.r0 Int<|.r0 Int<|.r0 Int<|.r0 Int<|.r0 Int<|.r0 Int<|.r0 Int<|.r0 Int<|.r0 Int<|.r0 Int<|.re d.toNat s<|.re l.toNat f<|.req (Pw.q o)<|.rz a.CN<|.rz a.CM<|.rz a.CL<|.rz a.CK<|.rz a.CJ<|.rz a.CI<|.rz a.CH<|.rz a.CG<|.rz a.CF<|.rz a.CE<|.rz a.CA<|.rz a.C9<|.rz a.C8<|.rz a.C7<|.rz a.CC<|.rz a.CB<|.rl a.sums<|.rl f<|.req (Pu.q g)<|.rm 8 j<|.re j.toNat t<|.rl (J2 g).sums<|.rl (J2 g).levels<|.req (OE.q b)<|.rz (Qe b).out<|.ok<|.AO [.xl A7 n,(0:Y)])<|.br (!U) (.ok<|.AO [.xl A7 ([]:aVw),(1:Y)])<|.req z<|.br (!(Gv od j)) (.ok<|.AO [.xl A7 ([]:aVw),(1:Y)])<|.rm 8 d<|.rm 8 l<|.r0 Int<|.r0 Int<|.r0 Int<|.r0 Int<|.r0 Int<|.r0 Int<|.r0 Int<|.r0 Int<|.r0 Int<|.r0 Int<|.r0 Int<|.r0 Int<|.r0 Int<|.r0 Int<|.r0 Int<|.r0 Int<|.re d.toNat s<|.re l.toNat f<|.req (Pw.q o)<|.rz a.CN<|.rz a.CM<|.rz a.CL<|.rz a.CK<|.rz a.CJ<|.rz a.CI<|.rz a.CH<|.rz a.CG<|.rz a.CF<|.rz a.CE<|.rz a.CA<|.rz a.C9<|.rz a.C8<|.rz a.C7<|.rz a.CC<|.rz a.CB<|.rl a.sums<|.rl f<|.req (Pu.q g)<|.rm 8 j<|.re j.toNat t<|.rl (J2 g).sums<|.rl (J2 g).levels<|.req (OE.q b)<|.rz (Qe b).out<|.ok<|.AO [.xl A7 n,(0:Y)])<|.br (!U) (.ok<|.AO [.xl A7 ([]:aVw),(1:Y)])<|.req x<|.br w (.br (! y.r) (.ok<|.AO [.xl A7 ([]:aVw),(1:Y)])<|.req z<|.br (!(Gv od j)) (.ok<|.AO [.xl A7 ([]:aVw),(1:Y)])<|.rm 8 d<|.rm 8 l<|.r0 Int<|.r0 Int<|.r0 Int<|.r0 Int<|.r0 Int<|.r0 Int<|.r0 Int<|.r0 Int<|.r0 Int<|.r0 Int<|.r0 Int<|.r0 Int<|.r0 Int<|.r0 Int<|.r0 Int<|.r0 Int<|.re d.toNat s<|.re l.toNat f<|.req (Pw.q o)<|.rz a.CN<|.rz a.CM<|.rz a.CL<|.rz a.CK<|.rz a.CJ<|.rz a.CI<|.rz a.CH<|.rz a.CG<|.rz a.CF<|.rz a.CE<|.rz a.CA<|.rz a.C9<|.rz a.C8<|.rz a.C7<|.rz a.CC<|.rz a.CB<|.rl a.sums<|.rl f<|.req (Pu.q g)<|.rm 8 j<|.re j.toNat t<|.rl (J2 g).sums<|.rl (J2 g).levels<|.req (OE.q b)<|.rz (Qe b).out<|.ok<|.AO [.xl A7 n,(0:Y)])<|.br (!U) (.ok<|.AO [.xl A7 ([]:aVw),(1:Y)])<|.req z<|.br (!(Gv od j)) (.ok<|.AO [.xl A7 ([]:aVw),(1:Y)])<|.rm 8 d<|.rm 8 l<|.r0 Int<|.r0 Int<|.r0 Int<|.r0 Int<|.r0 Int<|.r0 Int<|.r0 Int<|.r0 Int<|.r0 Int<|.r0 Int<|.r0 Int<|.r0 Int<|.r0 Int<|.r0 Int<|.r0 Int<|.r0 Int<|.re d.toNat s<|.re l.toNat f<|.req (Pw.q o)<|.rz a.CN<|.rz a.CM<|.rz a.CL<|.rz a.CK<|.rz a.CJ<|.rz a.CI<|.rz a.CH<|.rz a.CG<|.rz a.CF<|.rz a.CE<|.rz a.CA<|.rz a.C9<|.rz a.C8<|.rz a.C7<|.rz a.CC<|.rz a.CB<|.rl a.sums<|.rl f<|.req (Pu.q g)<|.rm 8 j<|.re j.toNat t<|.rl (J2 g).sums<|.rl (J2 g).levels<|.req (OE.q b)<|.rz (Qe b).out<|.ok<|.AO [.xl A7 n,(0:Y)]) ?_;obtain rfl:=h
  have err:Fz cs os ks gs bs al mo od=X->LV.AO [.xl A7 ([]:aVw),.v<|ag J 1]=LV.AO [.xl A7<|Fc cs os ks gs bs al mo od,.v<|ag J<|shE cs os ks gs bs al mo od]:=λh=>by
   unfold Fc shE;rw [h];rfl
  have no_:∀ {p:Prop},¬p->(Fz cs os ks gs bs al mo od=U->p)->Fz cs os ks gs bs al mo od=false:=λh1 h2=>by
   rw [IQ];exact λh=>h1<|h2 h
  refine ⟨λc=>err<|no_ (p:=B6 cs os ks gs bs=U) (λh=>?_) λh=>(Lp.1 h).1,λc=>?_⟩
  ·unfold Od at c
   rw [h] at c
   simp at c
  have hv:B6 cs os ks gs bs=true:=by
   cases e:B6 cs os ks gs bs with
   |true=>rfl
   |false=>unfold Od at c;rw [e] at c;simp at c
  have hl:=(DC.1 hv).1
  refine ⟨λc2=>err<|no_ (p:=M al=M gs) (by simp at c2;omega) λh=>(Lp.1 h).2.1,λc2=>?_⟩
  refine ⟨λc3=>err<|no_ (p:=M mo=M gs) nQ λh=>(Lp.1 h).2.2.1,λc3=>?_⟩
  have c2:M al=M gs:=by simp at c2;omega
  have c3:M mo=M gs:=nQ
  refine L7 ⟨⟨rfl,Ac,Ac,rfl⟩,rfl,rfl⟩ λhE1=>?_
  rcases aJJ _ hE1.1 with ⟨q1,q2⟩ |⟨q1,q2,q3⟩
  rotate_left
  ·rw [q1,q2]
   refine ⟨λ_=>⟨λ_=>err<|no_ (p:=al.all I4=U) (by have q3:al.all I4=false:=q3;rw [q3];simp) λh=>(Lp.1 h).2.2.2.1,λh=>Ar⟩,λh=>Ar⟩
  rw [q1];refine ⟨λh=>Ar,λ_=>⟨λh=>Ar,λ_=>?_⟩⟩
  have q2:al.all I4=true:=q2
  refine L7 ⟨⟨rfl,Ac,Ac,rfl⟩,rfl,rfl⟩ λhE2=>?_
  rcases aJJ _ hE2.1 with ⟨p1,p2⟩ |⟨p1,p2,p3⟩
  rotate_left
  ·rw [p1,p2]
   refine ⟨λ_=>⟨λ_=>err<|no_ (p:=mo.all I4=U) (by have p3:mo.all I4=false:=p3;rw [p3];simp) λh=>(Lp.1 h).2.2.2.2.1,λh=>Ar⟩,λh=>Ar⟩
  rw [p1];refine ⟨λh=>Ar,λ_=>⟨λh=>Ar,λ_=>?_⟩⟩
  have p2:mo.all I4=true:=p2
  refine ⟨A0,λc4=>err<|no_ (p:=Gv od (M gs:Y)=U) (by simp at c4;rw [c4];simp) λh=>(Lp.1 h).2.2.2.2.2,λc4=>?_⟩
  have c4:Gv od (M gs:Y)=true:=zL
  have hok:Fz cs os ks gs bs al mo od=true:=Lp.2 ⟨hv,c2,c3,q2,p2,c4⟩
  obtain ⟨hT,hS⟩:=alN hok
  have er:Jt cs os ks gs bs=D3 cs gs (M cs):=by unfold Jt;rw [AD hv]
  have hrl:=pj (cs:=cs) (gs:=gs) (k:=M cs)
  have hod:M od=M gs:=by
   unfold Gv at c4;simp only [AX,Ab] at c4;omega
  have hrn:(M (Jt cs os ks gs bs):Y)<=1000:=by rw [er];omega
  refine ⟨A0,A0,A9,A9,A9,A9,A9,A9,A9,A9,A9,A9,A9,A9,A9,A9,A9,A9,⟨rfl,AI⟩,⟨rfl,AI⟩,?_⟩
  have hN:Ug (NR cs os ks gs bs al mo od):=by
   refine ⟨rfl,λo ho=>?_,rfl,rfl,hrn,λr hr=>?_,hT.al,by show M (aq _ _)=M (Jt cs os ks gs bs);simp⟩
   ·simpa [Fv,NR] using ho
   ·have hr:r∈D3 cs gs (M cs):=by rw [<-er];exact hr
    obtain ⟨m1,m2,m3,m4⟩:=row_mem hr;refine ⟨A0,λm hm=>?_⟩
    have:=m2 m hm
    show 0<=m/\m<16/\m<(M al:Y)
    omega
  obtain ⟨nr1,nr2⟩:=ar8 _ hN
  have nr1:Fv (Is<|NR cs os ks gs bs al mo od)=OL (D3 cs gs<|M cs):=by rw [nr1,<-er];rfl
  have nr2:(Is<|NR cs os ks gs bs al mo od).sums=SM al (D3 cs gs<|M cs):=by rw [nr2,<-er];rfl
  refine ⟨⟨hN,rfl,rfl⟩,A0,A0,A0,A0,A0,A0,A0,A0,A0,A0,A0,A0,A0,A0,A0,A0,A9,A9,?_⟩
  have eO:Kt (Ln cs os ks gs bs al mo od)=Fv (Is<|NR cs os ks gs bs al mo od):=by
   unfold Kt Fv Ln;simp only [CX,Eg]
  have hSh:kE (Ln cs os ks gs bs al mo od):=by
   refine ⟨rfl,by show (M od:Y)<=1000;omega,rfl,?_,?_⟩
   ·show OkT (Kt<|Ln cs os ks gs bs al mo od) (Jt cs os ks gs bs) gs al mo od
    rw [eO,nr1,er];exact hT
   ·show OkS (Jt cs os ks gs bs) od (Is<|NR cs os ks gs bs al mo od).sums _
    rw [nr2,er];exact hS
  have sr:=arw _ hSh
  have sr:(J2<|Ln cs os ks gs bs al mo od).levels=shV (D3 cs gs<|M cs) gs al mo od:=by
   rw [sr]
   show shl (Kt<|Ln cs os ks gs bs al mo od) (Jt cs os ks gs bs) gs al mo od 81 1 (Is<|NR cs os ks gs bs al mo od).sums _=_
   rw [eO,nr1,nr2,er];rfl
  obtain ⟨sl,sb⟩:=aPw hT 81 1 _ _ A0 A0 hS;refine ⟨⟨hSh,rfl,rfl⟩,A0,⟨rfl,AI⟩,A9,A9,?_⟩
  have hX:kD (aDD cs os ks gs bs al mo od):=by
   refine ⟨rfl,rfl,⟨rfl,aOX,?_⟩,λk h0 h1=>?_,?_⟩
   ·show M (J2<|Ln cs os ks gs bs al mo od).levels=M gs
    rw [sr];exact sl.trans (by rw [Ci];exact c2)
   ·have:=Nk hv h0 h1
    unfold G4 MQ at this;simp only [AX,BS] at this
    show Dw (AF gs k).2.2.2.1 (AF gs k).2.2.2.2.1 (AF gs k).2.2.2.2.2.1=U
    exact IU.2 A0
   ·show ∀k:aVx,0<=(J2<|Ln cs os ks gs bs al mo od).levels.getD k 0/\(J2<|Ln cs os ks gs bs al mo od).levels.getD k 0<=80
    rw [sr];exact sb
  refine ⟨⟨hX,rfl,rfl⟩,A0,?_⟩;obtain ⟨s',_,_,x2⟩:=arv _ hX
  have x2:(Qe<|aDD cs os ks gs bs al mo od).out=FY gs (J2<|Ln cs os ks gs bs al mo od).levels:=x2
  show LV.AO [LV.xl _ _,_]=_
  rw [CX,Eg,x2,sr];unfold Fc shE;rw [AD hok,AD hok]
 ·cases h)
structure PW where
 m:aVA
 (k i:Y)
 out:aVw
def aHV:=bN f150 0
def aAe (s:PW):T (Rd PW):=letI a:=s.out.set s.i.toNat (AF s.m s.i).2.2.2.2.2.2.1;.br (an<|s.i<s.k) (.ix s.i (M s.m)<|.ik s.i (M s.out)<|.re (M s.out) a<|.nx {s with i:=AA<|s.i+1,out:=a})<|.rl s.out<|.so (.exit 0) s
def lR (s:PW):Prop:=s.i=0/\s.k=(M s.m:Y)/\s.k<=1000/\M s.out=M s.m/\(∀j,0<=j->j<s.k->gi s.out j=0)/\True
def Yf (s:PW):Prop:=(0<=s.i/\s.i<=s.k)/\s.k=(M s.m:Y)/\s.k<=1000/\M s.out=M s.m/\(∀j,0<=j->j<s.k->gi s.out j=if j<s.i then CV (AF s.m j) else 0)/\True
def uD (s:PW):aVx:=(s.k-s.i).toNat
def aBo (x:Ex) (s s':PW):Prop:=x=.exit 0/\s'.out=HP (M s'.m) (λj=>CV<|AF s'.m j)
def anH:∀s,lR s->Yf s:=by
 exact T7
def aiS:Da Yf uD aBo aAe:=by
 intro s hI;obtain ⟨⟨h0,h1⟩,h2,h3,h4,h5,h6⟩:=hI;refine AH (λc1=>?_) λc1=>?_
 ·have c1:s.i<s.k:=AY
  rw [AJ (x:=s.i+1)];refine ⟨⟨⟨A8,A8⟩,h2,h3,A8,λj j0 j1=>?_,h6⟩,by simp only [uD];omega⟩
  simp only;rw [JE h0 A0 j0];exact mS
 ·exact aN
def Q6:AS PW:=⟨0,31,[3,17,18,19],[],λs=>[.os 0 1 0<|M s.out,s.m,s.k,s.i],λs=>[bV 3 A7 s.out],λv b=>⟨B9 Ag v 1,AL v 2,AL v 3,Ad A7 b 0⟩,aAe,λs r=> {r with m:=s.m,k:=s.k},λs=>s,λ_ s=>s,[.exit 0],lR,Yf,uD⟩
abbrev aDx:=Q6.run
abbrev atH:=Q6.Au
def ayM:Rq Yf aAe:=by
 exact y9
def aBM:aVI:=[]
def aRM:Q6.Ok:={}
def aQi:Q6.Pf (aBo):=⟨anH,λs h=>rfl,aiS,ayM⟩
def ari:SA 0 aHV Q6:=s1 aRM aQi aBM kN
def auP:Fi lR Yf aBo atH aDx:=AS.fin aRM aQi
def aKv:aVy->T LV
 | [.xq 9 q0]=>(match ([q0 0,q0 1,q0 2,q0 3,q0 4,q0 5,q0 6,q0 7,q0 8]:aVy) with
  | [.xl (.pair .str (.pair (.int J) (.pair (.int J) (.pair (.int J) (.pair (.pair (.int J) (.int J)) (.pair (.int J) (.pair (.int J) (.pair (.int J) (.pair (.int J) (.int J)))))))))) cs,.xl (.str) os,.xl (.pair .str (.pair (.int J) (.pair (.int J) (.int J)))) ks,.xl (.pair .str (.pair (.int J) (.pair (.int J) (.pair (.int J) (.pair (.int J) (.pair (.int J) (.pair (.int J) (.int J)))))))) gs,.xl (.pair .str (.int J)) bs,.xl (.pair (.int J) (.pair (.int J) (.pair (.int J) (.pair (.int J) (.int J))))) l,.xl (.pair .bool (.pair (.int J) (.pair (.int J) (.int J)))) d,.v (ag J t),.xl (.int J) od]=> .req ((M gs:Y)<=1000) (.ok<|.xl A7<|Bt gs)
  |_=> .no)
 |_=> .no
def asE (cs:aVF) (os:aVz) (ks:aVK) (gs:aVA) (bs:aVL) (l:aVG) (d:aVU) (t:Y) (od:aVw):letI c:=(M gs:Y);letI a:=(aq c.toNat (0:Y));letI b:=(aDx (⟨gs,c,(0:Y),a⟩:PW));Bm prog AV (aBM) kN (λi=>if i=3 then Q6.lp else Al i) f150 [xQ 9 [cs,os,ks,gs,bs,l,d,t,.xl A7 od]]=.rm 8 c (.re c.toNat a<|.req (Q6.q (⟨gs,c,(0:Y),a⟩:PW))<|.rz b.out<|.ok<|.xl A7<|(b.out.drop 0).take<|M b.out):=AU
def avZ:=vm (S:=aKv) func150 aBM kN (L:=(λi=>if i=3 then Q6.lp else Al i)) (λb hb=>by
 rw [show BE _=[aHV] by kernel_rfl] at hb
 simp only [BB,Bx,By] at hb;subst hb;exact ari) (λargs lv h=>by
 refine ⟨?_⟩;unfold aKv at h;split at h
 ·split at h
  case h_2=>cases h
  rename_i heq0;simp only [canL,canX];rw [E6 (n:=9) heq0];simp only [canL,canX];rw [asE];rename_i cs os ks gs bs l d t od;obtain ⟨hn,rfl⟩:=h
  have hE:lR ⟨gs,(M gs:Y),0,aq (M gs:Y).toNat 0⟩:=⟨rfl,rfl,hn,AI,λj _ _=>Kd,ak⟩
  obtain ⟨_,_,q1,q2⟩:=auP _ hE
  have q2:(aDx ⟨gs,(M gs:Y),0,aq (M gs:Y).toNat 0⟩).out=Bt gs:=q2
  refine ⟨A0,⟨rfl,AI⟩,⟨hE,rfl,rfl⟩,A0,?_⟩
  show LV.xl _ _=_
  rw [CX,Eg,q2]
 ·cases h)
structure PQ where
 cs:aVF
 os:aVz
 ks:aVK
 gs:aVA
 bs:aVL
 l:aVG
 d:aVU
 t:Y
 od:aVw
 m:aVA
 (k i:Y)
 wanted:aVw
def aHS:=bN f149 0
def ic (s:PQ):T (Rd PQ):=letI a:=s.wanted.set s.i.toNat (AF s.m s.i).2.2.2.2.1;.br (an<|s.i<s.k) (.ix s.i (M s.m)<|.ix s.i (M s.d)<|.br (E7 s.d s.i).1 (.ik s.i (M s.wanted)<|.re (M s.wanted) a<|.nx {s with i:=AA<|s.i+1,wanted:=a})<|.rl s.wanted<|.nx {s with i:=AA<|s.i+1})<|.rl s.wanted<|.so (.exit 0) s
def lK (s:PQ):Prop:=s.i=0/\s.k=(M s.m:Y)/\s.k<=1000/\M s.wanted=M s.m/\(∀j,0<=j->j<s.k->gi s.wanted j=0)/\M s.d=M s.m
def Yc (s:PQ):Prop:=(0<=s.i/\s.i<=s.k)/\s.k=(M s.m:Y)/\s.k<=1000/\M s.wanted=M s.m/\(∀j,0<=j->j<s.k->gi s.wanted j=if j<s.i then if (E7 s.d j).1=U then (AF s.m j).2.2.2.2.1 else 0 else 0)/\M s.d=M s.m
def gn (s:PQ):aVx:=(s.k-s.i).toNat
def aBk (x:Ex) (s s':PQ):Prop:=x=.exit 0/\s'.wanted=HP (M s'.m) (λj=>if (E7 s'.d j).1=U then (AF s'.m j).2.2.2.2.1 else 0)
def aly:∀s,lK s->Yc s:=by
 exact T7
def ah1:Da Yc gn aBk ic:=by
 intro s hI;unfold ic;obtain ⟨⟨h0,h1⟩,h2,h3,h4,h5,h6⟩:=hI;refine AH (λc1=>?_) λc1=>?_
 ·refine AH (λc2=>?_) (λc2=>?_)
  ·have c1:s.i<s.k:=AY
   rw [AJ (x:=s.i+1)];refine ⟨⟨⟨Ac,Ac⟩,h2,h3,A8,λj j0 j1=>?_,h6⟩,by simp only [gn];omega⟩
   simp only;rw [JE h0 bJ j0]
   by_cases e:j=s.i
   ·subst e
    grind
   ·exact yH
  ·have c1:s.i<s.k:=AY
   rw [AJ (x:=s.i+1)];refine ⟨⟨⟨Ac,Ac⟩,h2,h3,h4,λj j0 j1=>?_,h6⟩,by simp only [gn];omega⟩
   simp only;rw [h5 j j0 j1]
   by_cases e:j=s.i
   ·subst e
    grind
   ·by_cases q:j<s.i
    ·omega
    ·omega
 ·have c1:s.k<=s.i:=AY
  exact xW
def Q4:AS PQ:=⟨0,53,[0,4,18,19,20],[],λs=>[xQ 9 [s.cs,s.os,s.ks,s.gs,s.bs,s.l,s.d,s.t,.xl A7 s.od],.os 0 1 0<|M s.wanted,s.m,s.k,s.i],λs=>[bV 3 A7 s.wanted],λv b=>⟨As Af<|BU (v.getD 0 .junk) 0,As .str<|BU (v.getD 0 .junk) 1,As An<|BU (v.getD 0 .junk) 2,As Ag<|BU (v.getD 0 .junk) 3,As Am<|BU (v.getD 0 .junk) 4,As AQ<|BU (v.getD 0 .junk) 5,As Ap<|BU (v.getD 0 .junk) 6,gI<|BU (v.getD 0 .junk) 7,As A7<|BU (v.getD 0 .junk) 8,B9 Ag v 2,AL v 3,AL v 4,Ad A7 b 0⟩,ic,λs r=> {s with i:=r.i,wanted:=r.wanted},λs=>s,λ_ s=>s,[.exit 0],lK,Yc,gn⟩
abbrev aDg:=Q4.run
abbrev atf:=Q4.Au
def ayF:Rq Yc ic:=by
 intro s hI;refine ⟨λc1=>⟨?_,?_,λc2=>⟨?_,?_,?_,ak⟩,λc2=>⟨A9,ak⟩⟩,λc1=>⟨A9,ak⟩⟩
 all_goals ((obtain ⟨⟨h0,h1⟩,h2,h3,h4,h5,h6⟩:=hI;(try simp only [Ab] at c1);first|omega|exact ⟨rfl,AI⟩ |(omega)))
def aBL:aVI:=[avZ,aPZ]
def aRG:Q4.Ok:={}
def aQc:Q4.Pf (aBk):=⟨aly,λs h=>rfl,ah1,ayF⟩
def arY:SA 0 aHS Q4:=s1 aRG aQc aBL kN
def av1:Fi lK Yc aBk atf aDg:=AS.fin aRG aQc
def aJu:aVy->T LV
 | [.xq 9 q0]=>(match ([q0 0,q0 1,q0 2,q0 3,q0 4,q0 5,q0 6,q0 7,q0 8]:aVy) with
  | [.xl (.pair .str (.pair (.int J) (.pair (.int J) (.pair (.int J) (.pair (.pair (.int J) (.int J)) (.pair (.int J) (.pair (.int J) (.pair (.int J) (.pair (.int J) (.int J)))))))))) cs,.xl (.str) os,.xl (.pair .str (.pair (.int J) (.pair (.int J) (.int J)))) ks,.xl (.pair .str (.pair (.int J) (.pair (.int J) (.pair (.int J) (.pair (.int J) (.pair (.int J) (.pair (.int J) (.int J)))))))) gs,.xl (.pair .str (.int J)) bs,.xl (.pair (.int J) (.pair (.int J) (.pair (.int J) (.pair (.int J) (.int J))))) l,.xl (.pair .bool (.pair (.int J) (.pair (.int J) (.int J)))) d,.v (ag J t),.xl (.int J) od]=> .req ((M gs:Y)<=1000/\M d=M gs) (.ok<|.AO [.xl A7<|Fc cs os ks gs bs (Bt gs) (JG gs d) od,shE cs os ks gs bs (Bt gs) (JG gs d) od])
  |_=> .no)
 |_=> .no
def atD (cs:aVF) (os:aVz) (ks:aVK) (gs:aVA) (bs:aVL) (l:aVG) (d:aVU) (t:Y) (od:aVw):letI b:=(M gs:Y);letI c:=(aq b.toNat (0:Y));letI a:=(aDg (⟨cs,os,ks,gs,bs,l,d,t,od,gs,b,(0:Y),c⟩:PQ));letI e:=(a.wanted.drop 0).take<|M a.wanted;Bm prog AV (aBL) kN (λi=>if i=3 then Q4.lp else Al i) f149 [xQ 9 [cs,os,ks,gs,bs,l,d,t,.xl A7 od]]=.rm 8 b (.re b.toNat c<|.req (Q4.q (⟨cs,os,ks,gs,bs,l,d,t,od,gs,b,(0:Y),c⟩:PQ))<|.req (b<=1000)<|.rz a.wanted<|.ok<|.AO [.xl A7<|Fc cs os ks gs bs (Bt gs) e od,shE cs os ks gs bs (Bt gs) e od]):=AU
def avV:=vm (S:=aJu) func149 aBL kN (L:=(λi=>if i=3 then Q4.lp else Al i)) (λb hb=>by
 rw [show BE _=[aHS] by kernel_rfl] at hb
 simp only [BB,Bx,By] at hb;subst hb;exact arY) (λargs lv h=>by
 refine ⟨?_⟩;unfold aJu at h;split at h
 ·split at h
  case h_2=>cases h
  rename_i heq0;simp only [canL,canX];rw [E6 (n:=9) heq0];simp only [canL,canX];rw [atD];rename_i cs os ks gs bs l d t od;obtain ⟨⟨hn,hd⟩,rfl⟩:=h
  have hE:lK ⟨cs,os,ks,gs,bs,l,d,t,od,gs,(M gs:Y),0,aq (M gs:Y).toNat 0⟩:=⟨rfl,rfl,hn,AI,λj _ _=>Kd,hd⟩
  obtain ⟨_,_,q1,q2⟩:=av1 _ hE
  have q2:(aDg ⟨cs,os,ks,gs,bs,l,d,t,od,gs,(M gs:Y),0,aq (M gs:Y).toNat 0⟩).wanted=JG gs d:=q2
  refine ⟨A0,⟨rfl,AI⟩,⟨hE,rfl,rfl⟩,hn,A0,?_⟩
  show LV.AO [LV.xl _ _,_]=_
  rw [CX,Eg,q2]
 ·cases h)
structure PG where
 m:aVA
 (k i:Y)
 out:aVw
def aAc (s:PG):T (Rd PG):=letI a:=s.out.set s.i.toNat (AF s.m s.i).2.2.2.2.2.2.1;.br (an<|s.i<s.k) (.ix s.i (M s.m)<|.ik s.i (M s.out)<|.re (M s.out) a<|.nx {s with i:=AA<|s.i+1,out:=a})<|.rl s.out<|.so (.exit 0) s
def lQ (s:PG):Prop:=s.i=0/\s.k=(M s.m:Y)/\s.k<=1000/\M s.out=M s.m/\(∀j,0<=j->j<s.k->gi s.out j=0)/\True
def Ye (s:PG):Prop:=(0<=s.i/\s.i<=s.k)/\s.k=(M s.m:Y)/\s.k<=1000/\M s.out=M s.m/\(∀j,0<=j->j<s.k->gi s.out j=if j<s.i then CV (AF s.m j) else 0)/\True
def uj (s:PG):aVx:=(s.k-s.i).toNat
def aBm (x:Ex) (s s':PG):Prop:=x=.exit 0/\s'.out=HP (M s'.m) (λj=>CV<|AF s'.m j)
def anE:∀s,lQ s->Ye s:=by
 exact T7
def aiN:Da Ye uj aBm aAc:=by
 intro s hI;obtain ⟨⟨h0,h1⟩,h2,h3,h4,h5,h6⟩:=hI;refine AH (λc1=>?_) λc1=>?_
 ·have c1:s.i<s.k:=AY
  rw [AJ (x:=s.i+1)];refine ⟨⟨⟨A8,A8⟩,h2,h3,A8,λj j0 j1=>?_,h6⟩,by simp only [uj];omega⟩
  simp only;rw [JE h0 bJ j0];exact mS
 ·exact aN
def Zf:AS PG:=⟨0,31,[3,17,18,19],[],λs=>[.os 0 1 0<|M s.out,s.m,s.k,s.i],λs=>[bV 3 A7 s.out],λv b=>⟨B9 Ag v 1,AL v 2,AL v 3,Ad A7 b 0⟩,aAc,λs r=> {r with m:=s.m,k:=s.k},λs=>s,λ_ s=>s,[.exit 0],lQ,Ye,uj⟩
abbrev cR:=Zf.run
abbrev atG:=Zf.Au
def RE:aVI:=[XA,avV,aPZ]
def aky:Ay:=kI RE<|l0 RE
def ayK:Rq Ye aAc:=by
 exact y9
def aRL:Zf.Ok:={}
def aQh:Zf.Pf (aBm):=⟨anE,λs h=>rfl,aiN,ayK⟩
def ard:=s2 (b:=bN f150 0) aRL aQh RE aky
def av7:Fi lQ Ye aBm atG cR:=AS.fin aRL aQh
structure PR where
 cs:aVF
 os:aVz
 ks:aVK
 gs:aVA
 bs:aVL
 l:aVG
 d:aVU
 t:Y
 (od targets m:aVw)
 (k i:Y)
 alive:aVw
def aHT:=bN f110 0
def aAa (s:PR):T (Rd PR):=letI b:=s.alive.getD s.i.toNat<|Ty.dflt A7;letI c:=M s.alive;letI a:=s.alive.set s.i.toNat (if b<(gi s.m s.i) then (gi s.m s.i) else b);.br (an<|s.i<s.k) (.ix s.i (M s.m)<|.ik s.i c<|.ik s.i c<|.re c a<|.nx {s with i:=AA<|s.i+1,alive:=a})<|.rl s.alive<|.so (.exit 0) s
def lO (s:PR):Prop:=s.i=0/\s.k=(M s.m:Y)/\s.k<=1000/\M s.alive=M s.m/\(∀j,0<=j->j<s.k->gi s.alive j=CV (AF s.gs j))/\True
def Yd (s:PR):Prop:=(0<=s.i/\s.i<=s.k)/\s.k=(M s.m:Y)/\s.k<=1000/\M s.alive=M s.m/\(∀j,0<=j->j<s.k->gi s.alive j=if j<s.i then mx (CV<|AF s.gs j) (gi s.m j) else CV (AF s.gs j))/\True
def uh (s:PR):aVx:=(s.k-s.i).toNat
def aBl (x:Ex) (s s':PR):Prop:=x=.exit 0/\s'.alive=HP (M s'.m) (λj=>mx (CV<|AF s'.gs j)<|gi s'.m j)
def am3:∀s,lO s->Yd s:=by
 exact T7
def aiK:Da Yd uh aBl aAa:=by
 intro s hI;obtain ⟨⟨h0,h1⟩,h2,h3,h4,h5,h6⟩:=hI;refine AH (λc1=>?_) λc1=>?_
 ·have c1:s.i<s.k:=AY
  rw [AJ (x:=s.i+1)];refine ⟨⟨⟨A8,A8⟩,h2,h3,A8,λj j0 j1=>?_,h6⟩,by simp only [uh];omega⟩
  simp only
  have hi:=h5 s.i h0 c1
  rw [AE (show ¬s.i<s.i by omega)] at hi
  rw [JE h0 bJ j0]
  by_cases e:j=s.i
  ·subst e
   rw [AD rfl,AD (show s.i<s.i+1 by omega)]
   show mx (gi s.alive s.i) (gi s.m s.i)=_
   rw [hi]
  ·exact yH
 ·have c1:s.k<=s.i:=AY
  exact xW
def Q5:AS PR:=⟨0,71,[0,4,7,41,42,43],[],λs=>[xQ 9 [s.cs,s.os,s.ks,s.gs,s.bs,s.l,s.d,s.t,.xl A7 s.od],.xl A7 s.targets,.os 0 1 0<|M s.alive,.xl A7 s.m,s.k,s.i],λs=>[bV 3 A7 s.alive],λv b=>⟨As Af<|BU (v.getD 0 .junk) 0,As .str<|BU (v.getD 0 .junk) 1,As An<|BU (v.getD 0 .junk) 2,As Ag<|BU (v.getD 0 .junk) 3,As Am<|BU (v.getD 0 .junk) 4,As AQ<|BU (v.getD 0 .junk) 5,As Ap<|BU (v.getD 0 .junk) 6,gI<|BU (v.getD 0 .junk) 7,As A7<|BU (v.getD 0 .junk) 8,B9 A7 v 1,B9 A7 v 3,AL v 4,AL v 5,Ad A7 b 0⟩,aAa,λs r=> {s with i:=r.i,alive:=r.alive},λs=>s,λ_ s=>s,[.exit 0],lO,Yd,uh⟩
abbrev aDO:=Q5.run
abbrev atj:=Q5.Au
def ayI:Rq Yd aAa:=by
 intro s hI;refine ⟨λc1=>⟨?_,?_,?_,?_,?_,?_,ak⟩,λc1=>⟨A9,ak⟩⟩
 all_goals ((obtain ⟨⟨h0,h1⟩,h2,h3,h4,h5,h6⟩:=hI;(try simp only [Ab] at c1);first|omega|exact ⟨rfl,AI⟩ |(omega)))
def aBQ:Ay:=kI RE<|la 3 func150 ard<|l0 RE
def aRJ:Q5.Ok:={}
def aQf:Q5.Pf (aBl):=⟨am3,λs h=>rfl,aiK,ayI⟩
def arZ:SA 0 aHT Q5:=s1 aRJ aQf RE aBQ
def av5:Fi lO Yd aBl atj aDO:=AS.fin aRJ aQf
def aJv:aVy->T LV
 | [.xq 9 q0]=>(match ([q0 0,q0 1,q0 2,q0 3,q0 4,q0 5,q0 6,q0 7,q0 8]:aVy) with
  | [.xl (.pair .str (.pair (.int J) (.pair (.int J) (.pair (.int J) (.pair (.pair (.int J) (.int J)) (.pair (.int J) (.pair (.int J) (.pair (.int J) (.pair (.int J) (.int J)))))))))) cs,.xl (.str) os,.xl (.pair .str (.pair (.int J) (.pair (.int J) (.int J)))) ks,.xl (.pair .str (.pair (.int J) (.pair (.int J) (.pair (.int J) (.pair (.int J) (.pair (.int J) (.pair (.int J) (.int J)))))))) gs,.xl (.pair .str (.int J)) bs,.xl (.pair (.int J) (.pair (.int J) (.pair (.int J) (.pair (.int J) (.int J))))) l,.xl (.pair .bool (.pair (.int J) (.pair (.int J) (.int J)))) d,.v (ag J t),.xl (.int J) od]=> .req (M d=M gs/\Fz cs os ks gs bs (Bt gs) (JG gs d) od=U/\K5 l (M gs:Y) t=U/\Fz cs os ks gs bs (D4 gs l t) (Fc cs os ks gs bs (Bt gs) (JG gs d) od) od=U) (.ok<|.AO [.xl A7<|ofO cs os ks gs bs l d t od,(0:Y)])
  |_=> .no)
 |_=> .no
def atE (cs:aVF) (os:aVz) (ks:aVK) (gs:aVA) (bs:aVL) (l:aVG) (d:aVU) (t:Y) (od:aVw):letI b:=(M gs:Y);letI c:=(aq b.toNat (0:Y));letI e:=Fc cs os ks gs bs (Bt gs) (JG gs d) od;letI f:=(cR (⟨gs,b,(0:Y),c⟩:PG));letI h:=shE cs os ks gs bs (Bt gs) (JG gs d) od;letI j:=(M (HL l b t):Y);letI a:=(aDO (⟨cs,os,ks,gs,bs,l,d,t,od,e,HL l b t,j,(0:Y),f.out⟩:PR));letI g:=(a.alive.drop 0).take<|M a.alive;Bm prog AV RE aBQ (λi=>if i=9 then Q5.lp else Al i) f110 [xQ 9 [cs,os,ks,gs,bs,l,d,t,.xl A7 od]]=.req (b<=1000/\M d=M gs) (.br (h !=0) (.ok<|.AO [.xl A7 ([]:aVw),h])<|.br ((JU l b t) !=0) (.ok<|.AO [.xl A7 ([]:aVw),JU l b t])<|.rm 8 b<|.re b.toNat c<|.req (Zf.q (⟨gs,b,(0:Y),c⟩:PG))<|.rl f.out<|.req (Q5.q (⟨cs,os,ks,gs,bs,l,d,t,od,e,HL l b t,j,(0:Y),f.out⟩:PR))<|.rz a.alive<|.ok<|.AO [.xl A7<|Fc cs os ks gs bs g e od,shE cs os ks gs bs g e od]):=AU
def avW:=vm (S:=aJv) func110 RE aBQ (L:=(λi=>if i=9 then Q5.lp else Al i)) (λb hb=>by
 rw [show BE _=[aHT] by kernel_rfl] at hb
 simp only [BB,Bx,By] at hb;subst hb;exact arZ) (λargs lv h=>by
 refine ⟨?_⟩;unfold aJv at h;split at h
 ·split at h
  case h_2=>cases h
  rename_i heq0;simp only [canL,canX];rw [E6 (n:=9) heq0];simp only [canL,canX];rw [atE];rename_i cs os ks gs bs l d t od;obtain ⟨⟨hd,hk,hv,hk2⟩,rfl⟩:=h
  have gl:=(DC.1 (Lp.1 hk).1).1.2.2.2.2.1
  have ea:HL l (M gs:Y) t=GP (M gs) l t:=by unfold HL;rw [AD hv,C0]
  rw [aa1 hk,show JU l (M gs:Y) t=0 by unfold JU;rw [AD hv]]
  refine ⟨⟨A0,hd⟩,λc=>absurd c Aa,λ_=>⟨λc=>absurd c Aa,λ_=>?_⟩⟩
  have hE:lQ ⟨gs,(M gs:Y),0,aq (M gs:Y).toNat 0⟩:=⟨rfl,rfl,Ac,AI,λj _ _=>Kd,ak⟩
  obtain ⟨_,_,q1,q2⟩:=av7 _ hE
  have q2:(cR ⟨gs,(M gs:Y),0,aq (M gs:Y).toNat 0⟩).out=Bt gs:=q2
  have hE2:lO ⟨cs,os,ks,gs,bs,l,d,t,od,Fc cs os ks gs bs (Bt gs) (JG gs d) od,HL l (M gs:Y) t,(M (HL l (M gs:Y) t):Y),0,(cR ⟨gs,(M gs:Y),0,aq (M gs:Y).toNat 0⟩).out⟩:=⟨rfl,rfl,by simp only;rw [ea,dW];omega,by simp only;rw [q2,ea,dW];exact IT,λj j0 j1=>by
   simp only at j1|-;rw [ea,dW] at j1;rw [q2];exact P4 j0 j1,ak⟩
  obtain ⟨_,_,q3,q4⟩:=av5 _ hE2
  have q4:(aDO ⟨cs,os,ks,gs,bs,l,d,t,od,Fc cs os ks gs bs (Bt gs) (JG gs d) od,HL l (M gs:Y) t,(M (HL l (M gs:Y) t):Y),0,(cR ⟨gs,(M gs:Y),0,aq (M gs:Y).toNat 0⟩).out⟩).alive=D4 gs l t:=q4.trans (by
   show HP (M<|HL l (M gs:Y) t) (λj=>mx (CV<|AF gs j)<|gi (HL l (M gs:Y) t) j)=_
   rw [ea,dW];rfl)
  refine ⟨A0,⟨rfl,AI⟩,⟨hE,rfl,rfl⟩,A9,⟨hE2,rfl,rfl⟩,A0,?_⟩
  show LV.AO [LV.xl _ _,_]=_
  rw [CX,Eg,q4,aa1 hk2];rfl
 ·cases h)
def aAt:Array Tmp×Code×Code:=((J5<|f112.body.getD .skip)[0]?).getD (#[],.skip,.skip)
def akF:aWt:=aAt.1
def akU:aV7:=aAt.2.1
def akM:aV7:=aAt.2.2
structure N9 where
 i:Y
 cs:aVF
 os:aVz
 ks:aVK
 gs:aVA
 bs:aVL
 l:aVG
 d:aVU
 t:Y
 od:aVw
 (c a:Y)
 r:aVH
 m:aVG
 st:LS
def aAb (s:N9):T (Rd N9):=
 .br (an<|s.i>=0) (.ix s.i (M s.m)<|.br ((Ao s.m s.i).2.1==s.c) (.so (.ret) {s with r:=(((Ao s.m s.i).2.2.1 !=s.a) ||(an<|(Ao s.m s.i).2.2.2.1<=(AA<|s.t-6))),st:=.done<|.ret})<|.nx {s with i:=AA<|s.i-1}) (.so (.exit 0) s)
def lP (s:N9):Prop:=s.st=.ready/\s.i=(M s.m:Y)-1/\(M s.m:Y)<=1000/\0<=s.t/\s.t<=1000000
def jx (s:N9):Prop:=s.st=.ready/\(-1<=s.i/\s.i<(M s.m:Y))/\(M s.m:Y)<=1000/\0<=s.t/\s.t<=1000000
def ui (s:N9):aVx:=(s.i+1).toNat
def abW (x:Ex) (s s':N9):Prop:=True
def am4:∀s,lP s->jx s:=by
 rintro s ⟨h0,h1,h2⟩
 exact ⟨h0,A0,h2⟩
def aiL:Da jx ui abW aAb:=by
 intro s hI;obtain ⟨hs,⟨h0,h1⟩,h2⟩:=hI;refine AH (λc1=>AH (λc2=>trivial) λc2=>?_) λc1=>trivial
 have c1:0<=s.i:=A8
 rw [AJ (x:=s.i-1)];exact ⟨⟨hs,⟨A8,A8⟩,h2⟩,by simp only [ui];omega⟩
def Ze:AS N9:=⟨6,19,[0,1,3],[],λs=>[.CS 5,.own 4 0,s.i],λs=>[⟨[xQ 9 [s.cs,s.os,s.ks,s.gs,s.bs,s.l,s.d,s.t,.xl A7 s.od]],212,.cl,X⟩,⟨[s.c],3,.cl,X⟩,⟨[s.a],3,.cl,X⟩,⟨[s.r],4,.cl,X⟩,⟨[s.m],34,.cl,X⟩,⟨[.junk,.junk,.junk,.own 0 0,.own 1 0,.own 2 0,.own 3 0,.junk,.v<|.tuple #[],.junk,.junk,.junk,.junk,.junk,.junk,.junk,.junk,.junk,.junk,.junk,.junk,.junk,.junk,.junk,.junk,.junk,.v<|.tuple #[],.v<|.tuple #[],.v<|.tuple #[],.v<|.tuple #[],.v<|.tuple #[],.v<|.tuple #[],.v<|.tuple #[],.v<|.tuple #[],.v<|.tuple #[],.v<|.tuple #[],.v<|.tuple #[],.v<|.tuple #[],.v<|.tuple #[],.v<|.tuple #[],.v<|.tuple #[],.v<|.tuple #[],.v<|.tuple #[],.v<|.tuple #[],.v<|.tuple #[]],0,.Cr akF akU akM s.st,X⟩],λv b=>⟨AL v 2,As Af<|BU (BC (Cc b 0) 0) 0,As .str<|BU (BC (Cc b 0) 0) 1,As An<|BU (BC (Cc b 0) 0) 2,As Ag<|BU (BC (Cc b 0) 0) 3,As Am<|BU (BC (Cc b 0) 0) 4,As AQ<|BU (BC (Cc b 0) 0) 5,As Ap<|BU (BC (Cc b 0) 0) 6,gI<|BU (BC (Cc b 0) 0) 7,As A7<|BU (BC (Cc b 0) 0) 8,Ak b 1 0,Ak b 2 0,Lc b 3 0,AG AQ b 4 0,.ready⟩,aAb,λs r=> {r with cs:=s.cs,os:=s.os,ks:=s.ks,gs:=s.gs,bs:=s.bs,l:=s.l,d:=s.d,t:=s.t,od:=s.od,c:=s.c,a:=s.a,m:=s.m},λs=> {s with st:=.ready},λx s=> {s with st:=(match x with| .ret=>(.done<|.ret) | .exit 0=> .ready|_=> .ready)},[.ret,.exit 0],lP,jx,ui⟩
abbrev aIa:=Ze.run
abbrev aJD:=Ze.Au
def RT:aVI:=[]
def akx:Ay:=kI RT<|l0 RT
def ayJ:Rq jx aAb:=by
 intro s hI;refine ⟨λc1=>⟨?_,λ_=>trivial,λ_=>trivial⟩,λ_=>trivial⟩
 ·(obtain ⟨hs,⟨h0,h1⟩,h2⟩:=hI;simp only [Ab] at c1;omega)
def aRK:Ze.Ok:={}
def aQg:Ze.Pf (abW):=⟨am4,λs h=>by
 obtain ⟨i,cs,os,ks,gs,bs,l,d,t,od,c,a,r,m,st⟩:=s
 have e:=h.1
 subst e;rfl,aiL,ayJ⟩
def arb:=s2 (b:=bN f193 0) aRK aQg RT akx
def av6:Rs lP aJD aIa (λs:N9=>nwO s.a s.t<|(s.m.take (s.i+1).toNat).reverse.find? λx=>x.2.1==s.c) (λx s' (v:aVH)=>(x=.ret/\s'.r=v)\/(x=.exit 0/\v=U)):=DZ aRK aQg (λs hI=>by
  obtain ⟨hs,⟨h0,h1⟩,h2⟩:=hI;refine AH (λc1=>?_) λc1=>?_
  ·have c1:0<=s.i:=A8
   have e:=(WX c1 (show s.i<(M s.m:Y) by omega)).2
   refine AH (λc2=> .inl ⟨rfl,?_⟩) λc2=>?_
   ·rw [e,List.reverse_append]
    show _=nwO s.a s.t (List.find? _ (Ao s.m s.i::_))
    rw [List.find?_cons_of_pos<|by exact c2]
    simp only [nwO];rw [AJ (x:=s.t-6)]
   ·show nwO _ _ _=nwO _ _ _
    rw [AJ (x:=s.i-1),e,List.reverse_append]
    show _=nwO s.a s.t (List.find? _ (Ao s.m s.i::_))
    rw [List.find?_cons_of_neg A8,show (s.i-1+1).toNat=s.i.toNat by omega]
    rfl
  ·have c1:s.i<0:=A8
   refine .inr ⟨rfl,?_⟩;rw [show (s.i+1).toNat=0 by omega]
   rfl)
def aJw:aVy->T LV
 | [.xq 9 q0,.v (ag J i),.v (ag J a)]=>(match ([q0 0,q0 1,q0 2,q0 3,q0 4,q0 5,q0 6,q0 7,q0 8]:aVy) with
  | [.xl (.pair .str (.pair (.int J) (.pair (.int J) (.pair (.int J) (.pair (.pair (.int J) (.int J)) (.pair (.int J) (.pair (.int J) (.pair (.int J) (.pair (.int J) (.int J)))))))))) cs,.xl (.str) os,.xl (.pair .str (.pair (.int J) (.pair (.int J) (.int J)))) ks,.xl (.pair .str (.pair (.int J) (.pair (.int J) (.pair (.int J) (.pair (.int J) (.pair (.int J) (.pair (.int J) (.int J)))))))) gs,.xl (.pair .str (.int J)) bs,.xl (.pair (.int J) (.pair (.int J) (.pair (.int J) (.pair (.int J) (.int J))))) l,.xl (.pair .bool (.pair (.int J) (.pair (.int J) (.int J)))) d,.v (ag J t),.xl (.int J) od]=> .req ((0<=i/\i<(M gs:Y))/\(M l:Y)<=1000/\0<=t/\t<=1000000) (.ok<|nwB gs l t i a)
  |_=> .no)
 |_=> .no
def aan:Ay:=kI RT<|la 1 func193 arb<|l0 RT
def atF (cs:aVF) (os:aVz) (ks:aVK) (gs:aVA) (bs:aVL) (l:aVG) (d:aVU) (t:Y) (od:aVw) (i a:Y):letI b:=(AA<|(M l:Y)-1);Bm prog AV (RT) aan Al f112 [xQ 9 [cs,os,ks,gs,bs,l,d,t,.xl A7 od],i,a]=.ix i (M gs) (.br (an<|a<=(AF gs i).2.2.2.2.2.2.1) (.ok X)<|.req (Ze.q (⟨b,cs,os,ks,gs,bs,l,d,t,od,i,a,X,l,.ready⟩:N9))<|.br (Bs (aJD (⟨b,cs,os,ks,gs,bs,l,d,t,od,i,a,X,l,.ready⟩:N9))<|.ret) (.ok (aIa (⟨b,cs,os,ks,gs,bs,l,d,t,od,i,a,X,l,.ready⟩:N9)).r)<|.ok U):=AU
def avX:=vo (S:=aJw) func112 RT aan (λargs lv h=>by
 refine ⟨?_⟩;unfold aJw at h;split at h
 ·split at h
  case h_2=>cases h
  rename_i heq0;simp only [canL,canX];rw [E6 (n:=9) heq0];simp only [canL,canX];rw [atF];rename_i i a _ cs os ks gs bs l d t od;obtain ⟨⟨hi,hl,ht⟩,rfl⟩:=h;refine ⟨hi,λc=>B2 (λz=>LV.v<|.bool z) ?_,λc=>?_⟩
  ·have c:a<=CV (AF gs i):=DH c
   unfold nwB;rw [CY c];rfl
  have c:¬a<=CV (AF gs i):=KJ c
  have hE:lP ⟨AA<|(M l:Y)-1,cs,os,ks,gs,bs,l,d,t,od,i,a,X,l,.ready⟩:=⟨rfl,by show AA ((M l:Y)-1)=_;rw [AJ],hl,ht⟩
  have ev:nwB gs l t i a=nwO a t ((l.take (AA ((M l:Y)-1)+1).toNat).reverse.find? λx=>x.2.1==i):=by
   unfold nwB;rw [IM c,AJ (x:=(M l:Y)-1),show ((M l:Y)-1+1).toNat=M l by omega,Eg]
   rfl
  refine ⟨⟨hE,rfl,rfl⟩,?_⟩;rcases av6 _ hE with ⟨q1,q2⟩ |⟨q1,q2⟩<;>rw [q1]
  ·exact ⟨λ_=>B2 (λz=>LV.v<|.bool z)<|q2.trans ev.symm,λh=>Ar⟩
  ·exact ⟨λh=>Ar,λ_=>B2 (λz=>LV.v<|.bool z)<|q2.symm.trans ev.symm⟩
 ·cases h)
def aH1:aVy->T LV
 | [.v (ag J x)]=> .ok X
 |_=> .no
def Xu:aVI:=[]
def apz:=vo (S:=aH1) func182 Xu kN (λargs lv h=>by
 unfold aH1 at h;split at h
 ·rename_i x
  refine At (.ok<|.v<|.bool<|x !=x) ?_;obtain rfl:=h;exact B2 (λz=>LV.v<|.bool z) AI
 ·cases h)
def aKz:aVy->T LV
 | [.v (ag J x),.v (ag J y)]=> .ok (cm x y)
 |_=> .no
def amK:aVI:=[apz]
def awn:=vo (S:=aKz) func144 amK kN (λargs lv h=>by
 unfold aKz at h;split at h
 ·rename_i x y
  refine At (.br X (.br X (.ok (0:Y))<|.ok<|.v<|ag J (-1))<|.br X (.ok (1:Y))<|.br (an<|x<y) (.ok<|.v<|ag J (-1))<|.br (an<|x>y) (.ok (1:Y))<|.ok (0:Y)) ?_;obtain rfl:=h;unfold cm;refine ⟨λh=>Ar,λ_=>⟨λh=>Ar,λ_=>⟨λc=>?_,λc=>⟨λc2=>?_,λc2=>?_⟩⟩⟩⟩<;>refine B2 (λz=>LV.v<|ag J z) ?_
  ·grind
  ·grind
  ·grind
 ·cases h)
structure NA where
 (r z:Y)
 l:aVw
 (n i:Y)
def aHW:=bN f143 0
def aAh (s:NA):T (Rd NA):=
 .br (an<|s.i<s.n) (.ix s.i (M s.l)<|.br ((gi s.l s.i) !=s.z) (.so (.ret) {s with r:=gi s.l s.i})<|.nx {s with i:=AA<|s.i+1}) (.so (.exit 0) s)
def lU (s:NA):Prop:=s.i=0/\s.n=(M s.l:Y)/\s.n<=1000/\s.z=0
def jy (s:NA):Prop:=(0<=s.i/\s.i<=s.n)/\s.n=(M s.l:Y)/\s.n<=1000/\s.z=0
def uH (s:NA):aVx:=(s.n-s.i).toNat
def abX (x:Ex) (s s':NA):Prop:=True
def anL:∀s,lU s->jy s:=by
 exact aN3
def ahz:Da jy uH abX aAh:=by
 intro s hI;obtain ⟨⟨h0,h1⟩,h2,h3,h4⟩:=hI;refine AH (λc1=>?_) λc1=>?_
 ·refine AH (λc2=>?_) (λc2=>?_)
  ·exact ak
  ·have c1:s.i<s.n:=A8
   rw [AJ (x:=s.i+1)];exact ⟨⟨⟨A8,A8⟩,h2,h3,h4⟩,by simp only [uH];omega⟩
 ·exact ak
def Ru:AS NA:=⟨0,18,[2,3,6,7,8],[],λs=>[s.r,s.z,.xl A7 s.l,s.n,s.i],λ_=>[],λv b=>⟨AL v 0,AL v 1,B9 A7 v 2,AL v 3,AL v 4⟩,aAh,λs r=> {s with r:=r.r,i:=r.i},λs=>s,λ_ s=>s,[.ret,.exit 0],lU,jy,uH⟩
abbrev aIc:=Ru.run
abbrev aJE:=Ru.Au
def ayP:Rq jy aAh:=by
 intro s hI;refine ⟨λc1=>⟨?_,λ_=>trivial,λ_=>trivial⟩,λ_=>trivial⟩
 ·(obtain ⟨⟨h0,h1⟩,h2,h3⟩:=hI;simp only [Ab] at c1;omega)
def aSH:Ru.Ok:={}
def aQl:Ru.Pf (abX):=⟨anL,λs h=>rfl,ahz,ayP⟩
def arj:SA 0 aHW Ru:=s1 aSH aQl Xu kN
def auU:Rs lU aJE aIc (λs:NA=>orI<|s.l.drop s.i.toNat) (λx s' (v:Y)=>(x=.ret/\s'.r=v)\/(x=.exit 0/\s'.z=v)):=DZ aSH aQl (λs hI=>by
  obtain ⟨⟨h0,h1⟩,h2,h3,h4⟩:=hI;refine AH (λc1=>?_) λc1=>?_
  ·have c1:s.i<s.n:=A8
   have e:=(gi_step h0 (show s.i<(M s.l:Y) by omega)).1
   rw [AJ (x:=s.i+1)];refine AH (λc2=>?_) λc2=>?_
   ·refine .inl ⟨rfl,?_⟩
    rw [e,orI,AD A8]
   ·show orI _=orI _
    rw [e,orI,AE A8]
  ·have c1:s.n<=s.i:=A8
   refine .inr ⟨rfl,?_⟩;rw [Ew A0,h4];rfl)
def aL0:aVy->T LV
 | [.xl (.int J) l]=> .req ((M l:Y)<=1000) (.ok<|orI l)
 |_=> .no
def awo:=vm (S:=aL0) func143 Xu kN (L:=(λi=>if i=3 then Ru.lp else Al i)) (λb hb=>by
 rw [show BE _=[aHW] by kernel_rfl] at hb
 simp only [BB,Bx,By] at hb;subst hb;exact arj) (λargs lv h=>by
 unfold aL0 at h;split at h
 ·rename_i l
  refine At (letI a:=(M l:Y);.req (Ru.q (⟨0,0,l,a,0⟩:NA))<|.br (Bs (aJE (⟨0,0,l,a,0⟩:NA))<|.ret) (.ok (aIc (⟨0,0,l,a,0⟩:NA)).r)<|.ok (0:Y)) ?_;obtain ⟨hl,rfl⟩:=h
  have hE:lU ⟨0,0,l,(M l:Y),0⟩:=⟨rfl,rfl,hl,rfl⟩
  refine ⟨⟨hE,rfl,rfl⟩,?_⟩;rcases auU _ hE with ⟨q1,q2⟩ |⟨q1,q2⟩<;>rw [q1]
  ·exact ⟨λ_=>B2 (λz=>LV.v<|ag J z) q2,λh=>Ar⟩
  ·exact ⟨λh=>Ar,λ_=>B2 (λz=>LV.v<|ag J z) q2⟩
 ·cases h)
def aKr:aVy->T LV
 | [.v (ag J i),.xq 1 q0,.xq 1 q1]=>(match ([q0 0]:aVy) with
  | [.xl (.pair .bool (.pair (.int J) (.pair (.int J) (.int J)))) d]=>(match ([q1 0]:aVy) with
  | [.v (ag J t)]=> .req (Im d t/\0<=i/\i<(M d:Y)) (.ok<|slk d t i)
  |_=> .no)
  |_=> .no)
 |_=> .no
def asz (i:Y) (d:aVU) (t:Y):Bm prog AV (Xu) kN Al f140 [i,xQ 1 [d],xQ 1 [t]]=.ix i (M d) (.ix i (M d)<|.ok<|AA<|(AA<|(E7 d i).2.2.1-t)-(E7 d i).2.1):=AU
def tD:=vo (S:=aKr) func140 Xu kN (λargs lv h=>by
 refine ⟨?_⟩;unfold aKr at h;split at h
 ·split at h
  case h_2=>cases h
  rename_i heq0;split at h
  case h_2=>cases h
  rename_i heq1;simp only [canL,canX];rw [E6 (n:=1) heq0];rw [E6 (n:=1) heq1];simp only [canL,canX];rw [asz];rename_i i _ _ _ d _ t;obtain ⟨⟨hw,hi⟩,rfl⟩:=h
  have b:=aw7 hw hi.1 hi.2
  have ht:=hw.2
  refine ⟨hi,hi,B2 (λz=>LV.v<|ag J z) ?_⟩
  unfold slk;rw [AJ (x:=(E7 d i).2.2.1-t),AJ]
 ·cases h)
def aUY:aVy->T LV
 | [.v (ag J a),.v (ag J b),.xq 1 q0,.xq 1 q1]=>(match ([q0 0]:aVy) with
  | [.xl (.pair .bool (.pair (.int J) (.pair (.int J) (.int J)))) d]=>(match ([q1 0]:aVy) with
  | [.fn 140 [.xq 1 q2,.xq 1 q3]]=>(match ([q2 0]:aVy) with
  | [.xl (.pair .bool (.pair (.int J) (.pair (.int J) (.int J)))) e]=>(match ([q3 0]:aVy) with
  | [.v (ag J t)]=> .req (d=e/\Im d t/\(0<=a/\a<(M d:Y))/\0<=b/\b<(M d:Y)) (.ok<|cmD d t a b)
  |_=> .no)
  |_=> .no)
  |_=> .no)
  |_=> .no)
 |_=> .no
def ac7:aVI:=[tD,awo,awn]
def az2 (a b:Y) (d e:aVU) (t:Y):letI c:=cm (E7 d a).2.2.2 (E7 d b).2.2.2;letI f:=cm (slk e t a)<|slk e t b;Bm prog AV (ac7) kN Al f142 [a,b,xQ 1 [d],xQ 1 [.fn 140 [xQ 1 [e],xQ 1 [t]]]]=.ix a (M d) (.ix b (M d)<|.req (Im e t/\0<=a/\a<(M e:Y))<|.req (Im e t/\0<=b/\b<(M e:Y))<|.req ((M ([c,f,cm a b]):Y)<=1000)<|.ok<|orI<|[c,f,cm a b]):=AU
def aaT:=vo (S:=aUY) func142 ac7 kN (λargs lv h=>by
 refine ⟨?_⟩;unfold aUY at h;split at h
 ·split at h
  case h_2=>cases h
  rename_i heq0;split at h
  case h_2=>cases h
  rename_i heq1;split at h
  case h_2=>cases h
  rename_i heq2;split at h
  case h_2=>cases h
  rename_i heq3;simp only [canL,canX];rw [E6 (n:=1) heq0];rw [E6 (n:=1) heq1];simp only [canL,canX];rw [E6 (n:=1) heq2];rw [E6 (n:=1) heq3];simp only [canL,canX];rw [az2];rename_i a b _ d _ _ _ _ e _ t;obtain ⟨⟨rfl,hw,ha,hb⟩,rfl⟩:=h;exact ⟨ha,hb,⟨hw,ha⟩,⟨hw,hb⟩,AI,rfl⟩
 ·cases h)
structure Pk where
 (n i:Y)
 d:aVU
 tick:Y
 out:aVw
def aGL:=bN f108 0
def zv (s:Pk):T (Rd Pk):=letI a:=s.out.set s.i.toNat s.i;.br (an<|s.i<s.n) (.ik s.i (M s.out)<|.re (M s.out) a<|.nx {s with i:=AA<|s.i+1,out:=a})<|.rl s.out<|.so (.exit 0) s
def je (s:Pk):Prop:=s.i=0/\s.out=aq (M s.d) 0/\s.n=(M s.d:Y)/\s.n<=1000/\M s.out=M s.d
def Z6 (s:Pk):Prop:=(0<=s.i/\s.i<=s.n)/\s.out=G0 s.i.toNat++aq (M s.d-s.i.toNat) 0/\s.n=(M s.d:Y)/\s.n<=1000/\M s.out=M s.d
def vH (s:Pk):aVx:=(s.n-s.i).toNat
def aBy (x:Ex) (s s':Pk):Prop:=x=.exit 0/\s'.out=G0 (M s'.d)
def alO:∀s,je s->Z6 s:=by
 exact aNE
def azm:Da Z6 vH aBy zv:=by
 intro s hI;obtain ⟨⟨h0,h1⟩,h2,h3,h4,h5⟩:=hI;refine AH (λc1=>?_) λc1=>?_
 ·have c1:s.i<s.n:=AY
  rw [AJ (x:=s.i+1)]
  have e:M s.d-s.i.toNat=(M s.d-(s.i+1).toNat)+1:=A0
  refine ⟨⟨⟨A8,A8⟩,?_,h3,h4,A8⟩,by simp only [vH];omega⟩
  simp only
  have hs:=aIN (xs:=G0 s.i.toNat) (r:=M s.d-(s.i+1).toNat) (v:=s.i)
  rw [P8] at hs;rw [h2,e,hs,show (s.i+1).toNat=s.i.toNat+1 by omega,aEx,CO h0]
 ·have c1:s.n<=s.i:=AY
  refine ⟨rfl,?_⟩;rw [h2,show s.i.toNat=M s.d by omega]
  simp
def S9:AS Pk:=⟨0,26,[2,3,5,12,13],[],λs=>[.own 0 0,.own 1 0,.os 2 1 0<|M s.out,s.n,s.i],λs=>[⟨[s.d],45,.cl,X⟩,⟨[s.tick],3,.cl,X⟩,bV 3 A7 s.out],λv b=>⟨AL v 3,AL v 4,AG Ap b 0 0,Ak b 1 0,Ad A7 b 2⟩,zv,λs r=> {s with i:=r.i,out:=r.out},λs=>s,λ_ s=>s,[.exit 0],je,Z6,vH⟩
abbrev Mk:=S9.run
abbrev au8:=S9.Au
def ayY:Rq Z6 zv:=by
 intro s hI;refine ⟨λc1=>⟨?_,?_,?_,ak⟩,λc1=>⟨A9,ak⟩⟩
 all_goals ((obtain ⟨⟨h0,h1⟩,h2,h3,h4,h5⟩:=hI;simp only [Ab] at c1;first|omega|exact ⟨rfl,AI⟩))
def Ph:aVI:=[tD,aaT]
def jR:Ay:=kI Ph<|l0 Ph
def aRT:S9.Ok:={}
def aQu:S9.Pf (aBy):=⟨alO,λs h=>rfl,azm,ayY⟩
def aqS:SA 0 aGL S9:=s1 aRT aQu Ph jR
def ar2:Fi je Z6 aBy au8 Mk:=AS.fin aRT aQu
structure O2 where
 (a b i j:Y)
 b0:aVU
 b1:Y
 data:aVw
def aHN:=lN (bN f214 0) 0
def zf (s:O2):T (Rd O2):=letI c:=s.data.getD s.j.toNat<|Ty.dflt A7;letI d:=AA<|s.j-1;letI e:=M s.data;letI b:=s.data.getD d.toNat<|Ty.dflt A7;letI f:=s.data.set s.j.toNat b;.br (an<|s.j>s.a) (.ik s.j e<|.ik d e<|.req (s.b0=s.b0/\Im s.b0 s.b1/\(0<=c/\c<(M s.b0:Y))/\0<=b/\b<(M s.b0:Y))<|.br (an<|(cmD s.b0 s.b1 c b)<0) (.ix d e<|.ix s.j e<|.req (d.toNat<M s.data)<|.req (s.j.toNat<M s.data)<|.ik s.j e<|.ix d e<|.req (d.toNat<M f)<|.re e (f.set d.toNat c)<|.nx {s with j:=d,data:=f.set d.toNat c})<|.rl s.data<|.so (.exit 2) s)<|.rl s.data<|.so (.exit 2) s
def lB (s:O2):Prop:=s.a=0/\(0<=s.j/\s.j<(M s.data:Y))/\(M s.data=M s.b0/\(M s.data:Y)<=1000)/\(∀x∈s.data,0<=x/\x<(M s.b0:Y))/\Im s.b0 s.b1
def jr (s:O2):Prop:=s.a=0/\(0<=s.j/\s.j<(M s.data:Y))/\(M s.data=M s.b0/\(M s.data:Y)<=1000)/\(∀x∈s.data,0<=x/\x<(M s.b0:Y))/\Im s.b0 s.b1
def uY (s:O2):aVx:=s.j.toNat
def ac5 (x:Ex) (s s':O2):Prop:=x=.exit 2
def alK:∀s,lB s->jr s:=by
 exact λs h=>h
def agC:Da jr uY ac5 zf:=by
 intro s hI;obtain ⟨h0,⟨h1,h2⟩,⟨h3,h3'⟩,h4,h5⟩:=hI;refine AH (λc1=>?_) λc1=>rfl
 have c1:s.a<s.j:=AY
 rw [AJ (x:=s.j-1)];refine AH (λc2=>?_) λc2=>rfl
 have g0:=λ(k:aVx) (hk:k<M s.data)=>h4 (s.data.getD k 0) GH
 have hm:∀x∈(s.data.set s.j.toNat<|s.data.getD (s.j-1).toNat 0).set (s.j-1).toNat (s.data.getD s.j.toNat 0),0<=x/\x<(M s.b0:Y):=λx hx=>by
  rcases Om hx with hx|e
  ·rcases Om hx with hx|e
   ·exact h4 x hx
   ·rw [e];exact g0 _ A0
  ·grind
 exact ⟨⟨h0,⟨Ac,A8⟩,⟨A8,A8⟩,hm,h5⟩,by simp only [uY];omega⟩
def Rm:AS O2:=⟨4,53,[0,1,2,3,8,9],[],λs=>[.os 2 1 0<|M s.data,s.a,s.b,.fn 142 [.own 0 0,.own 3 0],s.i,s.j],λs=>[⟨[s.b0],45,.cl,X⟩,⟨[s.b1],3,.cl,X⟩,bV 3 A7 s.data,⟨[.fn 140 [.own 0 0,.own 1 0]],226,.cl,X⟩],λv b=>⟨AL v 1,AL v 2,AL v 4,AL v 5,AG Ap b 0 0,Ak b 1 0,Ad A7 b 2⟩,zf,λs r=> {s with j:=r.j,data:=r.data},λs=>s,λ_ s=>s,[.exit 2],lB,jr,uY⟩
abbrev qU:=Rm.run
abbrev atb:=Rm.Au
def ayv:Rq jr zf:=by
 intro s hI;refine ⟨λc1=>⟨?_,?_,?_,?_,?_,λc2=>⟨?_,?_,?_,?_,?_,?_,?_,?_,?_,ak⟩,λc2=>⟨A9,ak⟩⟩,λc1=>⟨A9,ak⟩⟩
 all_goals ((obtain ⟨h0,⟨h1,h2⟩,⟨h3,h3'⟩,h4,h5⟩:=hI;simp only [Ab,gt_iff_lt] at c1;(try rw [AJ (x:=s.j-1)]);have g0:∀k:aVx,k<M s.data->0<=s.data.getD k (Ty.dflt A7)/\s.data.getD k (Ty.dflt A7)<(M s.b0:Y):=(λk hk=>h4 _ GH);first|omega|exact ⟨rfl,h5,g0 _ A0,g0 _ A0⟩ |(simp only [C4];omega) |exact ⟨rfl,AI⟩))
def aRh:Rm.Ok:={}
def aR8:Rm.Pf (ac5):=⟨alK,λs h=>rfl,agC,ayv⟩
def aqF:SA 4 aHN Rm:=s2 aRh aR8 Ph jR
def aHu:Rs lB atb qU (λs:O2=>Lf (ltD s.b0 s.b1) s.j.toNat s.data) (λx s' (v:aVw)=>x=.exit 2/\s'.data=v):=DZ aRh aR8 (λs hI=>by
  obtain ⟨h0,⟨h1,h2⟩,⟨h3,h3'⟩,h4,h5⟩:=hI;refine AH (λc1=>?_) λc1=>?_
  ·have c1:s.a<s.j:=A8
   rw [AJ (x:=s.j-1)]
   have e:s.j.toNat=(s.j-1).toNat+1:=A0
   refine AH (λc2=>?_) λc2=>?_
   ·show Lf _ _ _=Lf _ _ _
    rw [e,Lf,AD (by unfold ltD;rw [e] at c2;exact c2)]
    rfl
   ·refine ⟨rfl,?_⟩
    rw [e] at c2;rw [e,Lf,AE λhh=>absurd ((show U=_ from hh.symm).trans c2) Aa]
  ·have c1:s.j<=s.a:=A8
   refine ⟨rfl,?_⟩;rw [show s.j.toNat=0 by omega]
   rfl)
structure Kl where
 (a b i:Y)
 b0:aVU
 b1:Y
 data:aVw
def aHO:=bN f214 0
def aAO (s:Kl):T (Rd Kl):=letI c:=(qU (⟨s.a,s.b,s.i,s.i,s.b0,s.b1,s.data⟩:O2));.br (an<|s.i<s.b) (.rl s.data<|.req (Rm.q (⟨s.a,s.b,s.i,s.i,s.b0,s.b1,s.data⟩:O2))<|.rl c.data<|.nx {s with i:=AA<|s.i+1,data:=c.data})<|.rl s.data<|.so (.exit 0) s
def lC (s:Kl):Prop:=s.i=1/\(s.a=0/\s.b=(M s.data:Y))/\(M s.data=M s.b0/\(M s.data:Y)<=1000)/\(∀x∈s.data,0<=x/\x<(M s.b0:Y))/\Im s.b0 s.b1
def YW (s:Kl):Prop:=1<=s.i/\(s.a=0/\s.b=(M s.data:Y))/\(M s.data=M s.b0/\(M s.data:Y)<=1000)/\(∀x∈s.data,0<=x/\x<(M s.b0:Y))/\Im s.b0 s.b1
def uZ (s:Kl):aVx:=(s.b-s.i).toNat
def ac6 (x:Ex) (s s':Kl):Prop:=x=.exit 0
def alL:∀s,lC s->YW s:=by
 exact mY
def vr (s:Kl) (hI:YW s) (c1:s.i<s.b):lB ⟨s.a,s.b,s.i,s.i,s.b0,s.b1,s.data⟩:=by
 obtain ⟨h0,⟨h1,h2⟩,h3⟩:=hI;exact ⟨h1,⟨A8,A8⟩,h3⟩
def agD:Da YW uZ ac6 aAO:=by
 intro s hI
 have hin:=λc1=>vr s hI c1
 obtain ⟨h0,⟨h1,h2⟩,⟨h3,h3'⟩,h4,h5⟩:=hI;refine AH (λc1=>?_) λc1=>rfl
 have c1:s.i<s.b:=A8
 obtain ⟨q1,q2⟩:=aHu _<|hin c1
 have hp:=ap0 (lt:=ltD s.b0 s.b1) (j:=s.i.toNat) (l:=s.data) A0
 rw [AJ (x:=s.i+1),q2];exact ⟨⟨A8,⟨h1,by simp only [hp.length_eq];exact h2⟩,⟨by simp only [hp.length_eq];exact h3,by simp only [hp.length_eq];exact h3'⟩,λx hx=>h4 x<|hp.subset hx,h5⟩,by simp only [uZ];omega⟩
def Ro:AS Kl:=⟨4,53,[0,1,2,3,8],[],λs=>[.os 2 1 0<|M s.data,s.a,s.b,.fn 142 [.own 0 0,.own 3 0],s.i],λs=>[⟨[s.b0],45,.cl,X⟩,⟨[s.b1],3,.cl,X⟩,bV 3 A7 s.data,⟨[.fn 140 [.own 0 0,.own 1 0]],226,.cl,X⟩],λv b=>⟨AL v 1,AL v 2,AL v 4,AG Ap b 0 0,Ak b 1 0,Ad A7 b 2⟩,aAO,λs r=> {s with i:=r.i,data:=r.data},λs=>s,λ_ s=>s,[.exit 0],lC,YW,uZ⟩
abbrev WO:=Ro.run
abbrev atc:=Ro.Au
def ayw:Rq YW aAO:=by
 intro s hI;refine ⟨λc1=>⟨A9,?_,A9,ak⟩,λc1=>⟨A9,ak⟩⟩
 ·exact ⟨vr s hI A8,rfl,rfl⟩
def aRi:Ro.Ok:={}
def aR9:Ro.Pf (ac6):=⟨alL,λs h=>rfl,agD,ayw⟩
def rZ:SA 4 aHO Ro:=AS.snd aRi aR9 (Gl (Γ:=Ph) (K:=jR) (L:=(MM (λi=>if i=4 then Rm.lp else Al i))) (gk Ph) jR.h aHO (λb hb=>by
 rw [show BE _=[aHN] by kernel_rfl] at hb
 simp only [BB,Bx,By] at hb;subst hb;exact aqF)) λs=>AU
def asA:Rs lC atc WO (λs:Kl=>N2 (ltD s.b0 s.b1) s.data s.i.toNat) (λx s' (v:aVw)=>x=.exit 0/\s'.data=v):=DZ aRi aR9 (λs hI=>by
  have hin:=λc1=>vr s hI c1
  obtain ⟨h0,⟨h1,h2⟩,⟨h3,h3'⟩,h4,h5⟩:=hI;refine AH (λc1=>?_) λc1=>?_
  ·have c1:s.i<s.b:=A8
   obtain ⟨q1,q2⟩:=aHu _<|hin c1
   have q2:(qU ⟨s.a,s.b,s.i,s.i,s.b0,s.b1,s.data⟩).data=Lf (ltD s.b0 s.b1) s.i.toNat s.data:=q2
   rw [AJ (x:=s.i+1)]
   show N2 _ _ _=N2 _ _ _
   rw [q2,show (s.i+1).toNat=s.i.toNat+1 by omega,aec A0]
  ·have c1:s.b<=s.i:=A8
   exact ⟨rfl,(afX A0).symm⟩)
structure OF where
 (n FR a b:Y)
 b0:aVU
 b1:Y
 data:aVw
def zk (s:OF):T (Rd OF):=letI c:=(WO (⟨s.a,s.b,AA<|s.a+1,s.b0,s.b1,s.data⟩:Kl));.br (an<|s.b<=s.n) (.rl s.data<|.req (Ro.q (⟨s.a,s.b,AA<|s.a+1,s.b0,s.b1,s.data⟩:Kl))<|.re (M s.data) c.data<|.nx {s with a:=s.b,b:=AA<|s.b+s.FR,data:=c.data})<|.rl s.data<|.so (.exit 0) s
def kC (s:OF):Prop:=s.b=20/\s.n<20
def Ys (s:OF):Prop:=s.b=20/\s.n<20
def aSE (s:OF):aVx:=0
def abu (x:Ex) (s s':OF):Prop:=x=.exit 0
def ajc:∀s,kC s->Ys s:=by
 exact λs h=>h
def awg:Da Ys aSE abu zk:=by
 intro s hI;obtain ⟨h0,h1⟩:=hI;refine AH (λc1=>absurd (show s.b<=s.n by grind) A0) λc1=>rfl
def ZX:AS OF:=⟨4,63,[0,1,2,6,7,8],[],λs=>[.os 2 1 0<|M s.data,s.n,.fn 142 [.own 0 0,.own 3 0],s.FR,s.a,s.b],λs=>[⟨[s.b0],45,.cl,X⟩,⟨[s.b1],3,.cl,X⟩,bV 3 A7 s.data,⟨[.fn 140 [.own 0 0,.own 1 0]],226,.cl,X⟩],λv b=>⟨AL v 1,AL v 3,AL v 4,AL v 5,AG Ap b 0 0,Ak b 1 0,Ad A7 b 2⟩,zk,λs r=> {s with a:=r.a,b:=r.b,data:=r.data},λs=>s,λ_ s=>s,[.exit 0],kC,Ys,aSE⟩
abbrev J7:=ZX.run
abbrev au1:=ZX.Au
def amY:Ay:=kI Ph<|la 1 func214 rZ<|l0 Ph
def axS:Rq Ys zk:=by
 intro s hI;refine ⟨λc1=>⟨A9,?_,?_,ak⟩,λc1=>⟨A9,ak⟩⟩
 all_goals ((simp only [Ab] at c1;exact absurd c1 (by have:=hI;unfold Ys at this;omega)))
def aRy:ZX.Ok:={}
def aQN:ZX.Pf (abu):=⟨ajc,λs h=>rfl,awg,axS⟩
def aHZ:=s2 (b:=bN f181 0) aRy aQN Ph amY
def aqh:Rs kC au1 J7 (λs:OF=>(s.data,s.a)) (λx s' (v:List Int×Int)=>x=.exit 0/\(s'.data,s'.a)=v):=DZ aRy aQN (λs hI=>by
  obtain ⟨h0,h1⟩:=hI;exact AH (λc1=>absurd (show s.b<=s.n by grind) A0) λc1=>⟨rfl,rfl⟩)
def aj3:aVy->T LV:=λ_=> .req False<|.ok<|.v undef
def avp:VV 215 aj3:=by
 intro _ _ _ _ _ _ _ _ _ h;exact h.1.elim
structure Pd where
 (n FR a b:Y)
 b0:aVU
 b1:Y
 data:aVw
def aGX:=lN (bN f181 1) 0
def zi (s:Pd):T (Rd Pd):=
 .br (an<|s.b<=s.n) (.rz s.data<|.req False<|.rl s.data<|.nx {s with a:=s.b,b:=AA<|s.b+(AA<|2*s.FR)}) (.rl s.data<|.so (.exit 4) s)
def acT (s:Pd):Prop:=False
def kV (s:Pd):Prop:=False
def aSC (s:Pd):aVx:=0
def abr (x:Ex) (s s':Pd):Prop:=True
def aja:∀s,acT s->kV s:=by
 exact λs h=>h
def awe:Da kV aSC abr zi:=by
 intro s hI;exact hI.elim
def Ui:AS Pd:=⟨4,63,[0,1,2,6,7,8],[],λs=>[.os 2 1 0<|M s.data,s.n,.fn 142 [.own 0 0,.own 3 0],s.FR,s.a,s.b],λs=>[⟨[s.b0],45,.cl,X⟩,⟨[s.b1],3,.cl,X⟩,bV 3 A7 s.data,⟨[.fn 140 [.own 0 0,.own 1 0]],226,.cl,X⟩],λv b=>⟨AL v 1,AL v 3,AL v 4,AL v 5,AG Ap b 0 0,Ak b 1 0,Ad A7 b 2⟩,zi,λs r=> {s with a:=r.a,b:=r.b},λs=>s,λ_ s=>s,[.exit 4],acT,kV,aSC⟩
abbrev arA:=Ui.run
def RG:aVI:=[tD,aaT,avp]
def aBR:Ay:=kI RG<|la 2 func181 aHZ<|la 1 func214 rZ<|l0 RG
def axO:Rq kV zi:=by
 intro s hI;refine ⟨λc1=>⟨?_,?_,A9,ak⟩,λc1=>⟨A9,ak⟩⟩
 all_goals (exact hI.elim)
def azk:Ui.Ok:={}
def azZ:Ui.Pf (abr):=⟨aja,λs h=>rfl,awe,axO⟩
def aqu:SA 4 aGX Ui:=s2 azk azZ RG aBR
structure PY where
 (n FR:Y)
 b0:aVU
 b1:Y
 data:aVw
def aGY:=bN f181 1
def zj (s:PY):T (Rd PY):=
 .br (an<|s.FR<s.n) (.rl s.data<|.req (Ui.q (⟨s.n,s.FR,0,AA<|2*s.FR,s.b0,s.b1,s.data⟩:Pd))<|.br (an<|(AA<|(arA (⟨s.n,s.FR,0,AA<|2*s.FR,s.b0,s.b1,s.data⟩:Pd)).a+s.FR)<s.n) (.rz s.data<|.req False<|.rl s.data<|.nx {s with FR:=AA<|s.FR*2})<|.rl s.data<|.nx {s with FR:=AA<|s.FR*2}) (.rl s.data<|.so (.exit 2) s)
def aCZ (s:PY):Prop:=s.FR=20/\s.n<20
def Yr (s:PY):Prop:=s.FR=20/\s.n<20
def aSD (s:PY):aVx:=0
def abt (x:Ex) (s s':PY):Prop:=x=.exit 2
def ajb:∀s,aCZ s->Yr s:=by
 exact λs h=>h
def awf:Da Yr aSD abt zj:=by
 intro s hI;obtain ⟨h0,h1⟩:=hI;refine AH (λc1=>absurd (show s.FR<s.n by grind) A0) λc1=>rfl
def ko:AS PY:=⟨4,63,[0,1,2,6],[],λs=>[.os 2 1 0<|M s.data,s.n,.fn 142 [.own 0 0,.own 3 0],s.FR],λs=>[⟨[s.b0],45,.cl,X⟩,⟨[s.b1],3,.cl,X⟩,bV 3 A7 s.data,⟨[.fn 140 [.own 0 0,.own 1 0]],226,.cl,X⟩],λv b=>⟨AL v 1,AL v 3,AG Ap b 0 0,Ak b 1 0,Ad A7 b 2⟩,zj,λs r=> {s with FR:=r.FR},λs=>s,λ_ s=>s,[.exit 2],aCZ,Yr,aSD⟩
def axR:Rq Yr zj:=by
 intro s hI;refine ⟨λc1=>⟨A9,?_,λc2=>⟨?_,?_,A9,ak⟩,λc2=>⟨A9,ak⟩⟩,λc1=>⟨A9,ak⟩⟩
 all_goals ((simp only [Ab] at c1;exact absurd c1 (by have:=hI;unfold Yr at this;omega)))
def azl:ko.Ok:={}
def aza:ko.Pf (abt):=⟨ajb,λs h=>rfl,awf,axR⟩
def aqv:SA 4 aGY ko:=AS.snd azl aza (Gl (Γ:=RG) (K:=aBR) (L:=(MM (λi=>if i=9 then Ui.lp else Al i))) (gk RG) aBR.h aGY (λb hb=>by
 rw [show BE _=[aGX] by kernel_rfl] at hb
 simp only [BB,Bx,By] at hb;subst hb;exact aqu)) λs=>AU
def aK5:aVy->T LV
 | [.xl (.pair .bool (.pair (.int J) (.pair (.int J) (.int J)))) d,.v (ag J t)]=> .req (Im d t/\M d<=19) (.ok<|.xl A7<|HN d t)
 |_=> .no
def Lq (d:aVU) (t:Y):Pk:=(⟨(((M d:Y).toNat:aVx):Y),0,d,t,aq (M d:Y).toNat (0:Y)⟩:Pk)
def IW (d:aVU) (t:Y):OF:=(⟨((M (Mk<|Lq d t).out:aVx):Y),20,0,20,d,t,(Mk<|Lq d t).out⟩:OF)
def WQ (d:aVU) (t:Y):Kl:=(⟨(J7<|IW d t).a,((M (Mk<|Lq d t).out:aVx):Y),AA<|(J7<|IW d t).a+1,d,t,(J7<|IW d t).data⟩:Kl)
def aG4 (d:aVU) (t:Y):PY:=(⟨((M (Mk<|Lq d t).out:aVx):Y),20,d,t,(WO<|WQ d t).data⟩:PY)
def amX:Ay:=kI RG<|la 7 func181 aqv<|la 2 func181 aHZ<|la 1 func214 rZ<|l0 RG
def avs:=vm (S:=aK5) func108 RG amX (L:=(λi=>if i=3 then S9.lp else Al i)) (λb hb=>by
 rw [show BE _=[aGL] by kernel_rfl] at hb
 simp only [BB,Bx,By] at hb;subst hb;exact aqS) (λargs lv h=>by
 unfold aK5 at h;split at h
 ·rename_i d t
  refine At (letI b:=M (Mk<|Lq d t).out;letI c:=(M d:Y);letI e:=WO<|WQ d t;.rm 8 c<|.re c.toNat (aq c.toNat (0:Y))<|.req (S9.q<|Lq d t)<|.rl (Mk<|Lq d t).out<|.req (ZX.q<|IW d t)<|.rl (J7<|IW d t).data<|.req (Ro.q<|WQ d t)<|.re (M (J7<|IW d t).data) e.data<|.req (ko.q<|aG4 d t)<|.req (0+b<=M e.data)<|.ok<|.xl A7<|(e.data.drop 0).take b) ?_;obtain ⟨⟨hw,hd⟩,rfl⟩:=h
  have hE:je (Lq d t):=⟨rfl,Mc,by show (((M d:Y).toNat:aVx):Y)=(M d:Y);omega,by show (((M d:Y).toNat:aVx):Y)<=1000;omega,by show M (aq _ (0:Y))=M d;rw [Ci];omega⟩
  obtain ⟨_,_,_,q1⟩:=ar2 _ hE
  have q1:(Mk<|Lq d t).out=G0 (M d):=q1
  have hl:M (Mk<|Lq d t).out=M d:=by rw [q1,P8]
  have hE2:kC (IW d t):=⟨rfl,aO8⟩
  obtain ⟨_,q2⟩:=aqh _ hE2
  have q2a:(J7<|IW d t).data=G0 (M d):=(B2 Prod.fst q2).trans q1
  have q2b:(J7<|IW d t).a=0:=B2 Prod.snd q2
  have hE3:lC (WQ d t):=⟨by show AA ((J7<|IW d t).a+1)=1;rw [q2b];rfl,⟨q2b,by show ((M (Mk<|Lq d t).out:aVx):Y)=(M (J7<|IW d t).data:Y);rw [q2a,hl,P8]⟩,⟨by show M (J7<|IW d t).data=M d;rw [q2a,P8],by show (M (J7<|IW d t).data:Y)<=1000;rw [q2a,P8];omega⟩,λx hx=>aGD.1 (by have hx:x∈(J7<|IW d t).data:=hx;rw [q2a] at hx;exact hx),hw⟩
  obtain ⟨_,q3⟩:=asA _ hE3
  have q3:(WO<|WQ d t).data=HN d t:=q3.trans (by
   show N2 (ltD d t) (J7<|IW d t).data (AA<|(J7<|IW d t).a+1).toNat=_
   rw [q2b,q2a];exact afW)
  have hl3:M (WO<|WQ d t).data=M d:=by rw [q3,aFs]
  have hE4:aCZ (aG4 d t):=⟨rfl,aO8⟩
  refine ⟨⟨A0,A0,A0,A0⟩,⟨rfl,AI⟩,⟨hE,rfl,rfl⟩,A9,⟨hE2,rfl,rfl⟩,A9,⟨hE3,rfl,rfl⟩,⟨rfl,by rw [q2a,P8,hl3]⟩,⟨hE4,rfl,rfl⟩,A0,?_⟩
  show LV.xl _ _=_
  rw [CX,hl,<-hl3,Eg,q3]
 ·cases h)
structure M7 where
 rs:aV3
 (tick n t15:Y)
 offers:aVw
 m:aVA
 (k i:Y)
 aiA:aVF
 c1:aVz
 c2:aVK
 c3:aVA
 c4:aVL
 Nl:aVG
 aft:aVU
 Ts:Y
 (auG GI:aVw)
 next:aV3
 D2:aVG
def aHU:=bN f87 0
def tG (s:M7) (e:Y) (w:aVH) (x:Y) (y:Y):T (Rd M7):=letI a:=(s.n,(s.i,(x,(s.tick,(12:Y)))));letI b:=(s.next.set s.i.toNat (x,y));letI c:=s.GI.set s.i.toNat x;letI d:=M s.next;letI f:=M s.GI;.br (an<|s.i<s.k) (.ix s.i (M s.m)<|.ix s.i (M s.rs)<|.ix s.i (M s.offers)<|.br (e !=0) (.rl s.GI<|.rl s.next<|.rl s.D2<|.so (.ret) {s with t15:=(1:Y)})<|.ik s.i f<|.ik s.i d<|.req ((0<=s.i/\s.i<(M s.c3:Y))/\(M s.Nl:Y)<=1000/\0<=s.Ts/\s.Ts<=1000000)<|.br w (.rb (M s.D2) (M<|[a]) 40<|.re f c<|.re d b<|.re (M s.D2+M ([a])) (s.D2++([a]))<|.nx {s with n:=AA<|s.n+1,i:=AA<|s.i+1,GI:=c,next:=b,D2:=s.D2++([a])})<|.re f c<|.re d b<|.rl s.D2<|.nx {s with i:=AA<|s.i+1,GI:=c,next:=b})<|.rl s.GI<|.rl s.next<|.rl s.D2<|.so (.exit 0) s
abbrev aAd (s:M7):=letI a:=AF s.m s.i;letI c:=C2 s.rs s.i;letI d:=gi s.offers s.i;letI b:=nA a.2.2.1 a.2.2.2.1 a.2.2.2.2.1 a.2.2.2.2.2.1 a.2.2.2.2.2.2.1 c.1 c.2 d;tG s (nE a.2.2.1 a.2.2.2.1 a.2.2.2.2.1 a.2.2.2.2.2.1 a.2.2.2.2.2.2.1 c.1 c.2 d) (nwB s.c3 s.Nl s.Ts s.i b) b<|nS a.2.2.1 a.2.2.2.1 a.2.2.2.2.1 a.2.2.2.2.2.1 a.2.2.2.2.2.2.1 c.1 c.2 d
def ZU (s:M7):Prop:=s.i=0/\s.D2=[]/\(s.k=(M s.m:Y)/\s.k<=16)/\(s.c3=s.m/\s.Ts=s.tick)/\((M s.Nl:Y)<=1000/\0<=s.tick/\s.tick<=1000000)/\(M s.rs=M s.m/\M s.offers=M s.m/\M s.GI=M s.m/\M s.next=M s.m)/\dcK s.m s.rs s.offers/\1<=s.n-(M s.D2:Y)/\s.n-(M s.D2:Y)<=999900
def Rh (s:M7):Prop:=letI a:=(M s.D2:Y);(0<=s.i/\s.i<=s.k)/\(∀j,0<=j->j<s.i->gi s.GI j=LR (AF s.m j) (C2 s.rs j) (gi s.offers j)/\C2 s.next j=(LR (AF s.m j) (C2 s.rs j)<|gi s.offers j,nxS (AF s.m j) (C2 s.rs j)<|gi s.offers j))/\s.D2=HG s.m s.Nl s.tick (s.n-a) (FH s.m s.rs s.offers<|M s.m) s.i.toNat/\(s.k=(M s.m:Y)/\s.k<=16)/\(s.c3=s.m/\s.Ts=s.tick)/\((M s.Nl:Y)<=1000/\0<=s.tick/\s.tick<=1000000)/\(M s.rs=M s.m/\M s.offers=M s.m/\M s.GI=M s.m/\M s.next=M s.m)/\dcK s.m s.rs s.offers/\1<=s.n-a/\s.n-a<=999900
def Ww (s:M7):aVx:=(s.k-s.i).toNat
def kS (x:Ex) (s s':M7):Prop:=x=.exit 0/\s'.GI=FH s'.m s'.rs s'.offers (M s'.m)/\s'.next=dcR s'.m s'.rs s'.offers (M s'.m)/\s'.D2=HG s'.m s'.Nl s'.tick (s'.n-(M s'.D2:Y)) (FH s'.m s'.rs s'.offers<|M s'.m) (M s'.m)
def anG:∀s,ZU s->Rh s:=by
 rintro s ⟨h0,h1,h2⟩
 exact ⟨A0,λj j0 j1=>A0,yv,h2⟩
def auO (s:M7) (hI:Rh s) (e:Y) (w:aVH) (x:Y) (y:Y) (he:nE (AF s.m s.i).2.2.1 (AF s.m s.i).2.2.2.1 (AF s.m s.i).2.2.2.2.1 (AF s.m s.i).2.2.2.2.2.1 (AF s.m s.i).2.2.2.2.2.2.1 (C2 s.rs s.i).1 (C2 s.rs s.i).2 (gi s.offers s.i)=e) (hw:nwB s.c3 s.Nl s.Ts s.i (nA (AF s.m s.i).2.2.1 (AF s.m s.i).2.2.2.1 (AF s.m s.i).2.2.2.2.1 (AF s.m s.i).2.2.2.2.2.1 (AF s.m s.i).2.2.2.2.2.2.1 (C2 s.rs s.i).1 (C2 s.rs s.i).2<|gi s.offers s.i)=w) (hx:nA (AF s.m s.i).2.2.1 (AF s.m s.i).2.2.2.1 (AF s.m s.i).2.2.2.2.1 (AF s.m s.i).2.2.2.2.2.1 (AF s.m s.i).2.2.2.2.2.2.1 (C2 s.rs s.i).1 (C2 s.rs s.i).2 (gi s.offers s.i)=x) (hy:nS (AF s.m s.i).2.2.1 (AF s.m s.i).2.2.2.1 (AF s.m s.i).2.2.2.2.1 (AF s.m s.i).2.2.2.2.2.1 (AF s.m s.i).2.2.2.2.2.2.1 (C2 s.rs s.i).1 (C2 s.rs s.i).2 (gi s.offers s.i)=y):DV (λs'=>Rh s'/\Ww s'<Ww s) (λx s'=>kS x s s') ((tG s e w x y).rd s):=by
 unfold tG;dsimp only [T.rd,T.rl,T.rv];obtain ⟨⟨h0,h1⟩,hA,hL,⟨h2,h3⟩,⟨h4,h5⟩,h6,⟨h7,h8,h9,h10⟩,hk,h11⟩:=hI
 have hll:M s.D2<=s.i.toNat:=yw
 refine AH (λc1=>?_) λc1=>?_
 ·refine AH (λc2=>?_) (λc2=>?_)
  ·have c1:s.i<s.k:=AY
   have hm:s.i<(M s.m:Y):=A0
   exact absurd (he.symm.trans<|alh<|hk s.i h0 hm) EX
  ·refine AH (λc3=>?_) (λc3=>?_)
   ·have c1:s.i<s.k:=AY
    have hm:s.i<(M s.m:Y):=A0
    have hx':LR (AF s.m s.i) (C2 s.rs s.i) (gi s.offers s.i)=x:=hx
    have hy':nxS (AF s.m s.i) (C2 s.rs s.i) (gi s.offers s.i)=y:=hy
    have hA':∀j,0<=j->j<s.i+1->gi (s.GI.set s.i.toNat x) j=LR (AF s.m j) (C2 s.rs j) (gi s.offers j)/\C2 (s.next.set s.i.toNat (x,y)) j=(LR (AF s.m j) (C2 s.rs j)<|gi s.offers j,nxS (AF s.m j) (C2 s.rs j)<|gi s.offers j):=λj j0 j1=>by
     exact aM1
    have hs:s.i.toNat+1=(s.i+1).toNat:=A0
    have hg:gi (FH s.m s.rs s.offers<|M s.m) (s.i.toNat:aVx)=x:=aPK
    have hw':nwB s.m s.Nl s.tick (s.i.toNat:aVx) x=w:=by rw [CO h0,<-hw,h4,h5];rw [<-hx]
    rw [AJ (x:=s.i+1),AJ (x:=s.n+1)]
    have hn:s.n+1-((M (s.D2++[(s.n,s.i,x,s.tick,12)]):aVx):Y)=s.n-(M s.D2:Y):=by
     exact aO1
    refine ⟨⟨⟨Ac,Ac⟩,hA',?_,⟨h2,h3⟩,⟨h4,h5⟩,h6,⟨h7,h8,aP2,aPT⟩,hk,by simp only;rw [hn];exact h11⟩,by simp only [Ww];omega⟩
    simp only;rw [hn,<-hs,HG,<-hL,hg,hw',c3,AD rfl,CO h0,show s.n-(M s.D2:Y)+(M s.D2:Y)=s.n by omega]
   ·have c1:s.i<s.k:=AY
    have hm:s.i<(M s.m:Y):=A0
    have hx':LR (AF s.m s.i) (C2 s.rs s.i) (gi s.offers s.i)=x:=hx
    have hy':nxS (AF s.m s.i) (C2 s.rs s.i) (gi s.offers s.i)=y:=hy
    have hA':∀j,0<=j->j<s.i+1->gi (s.GI.set s.i.toNat x) j=LR (AF s.m j) (C2 s.rs j) (gi s.offers j)/\C2 (s.next.set s.i.toNat (x,y)) j=(LR (AF s.m j) (C2 s.rs j)<|gi s.offers j,nxS (AF s.m j) (C2 s.rs j)<|gi s.offers j):=λj j0 j1=>by
     exact aM1
    have hs:s.i.toNat+1=(s.i+1).toNat:=A0
    have hg:gi (FH s.m s.rs s.offers<|M s.m) (s.i.toNat:aVx)=x:=aPK
    have hw':nwB s.m s.Nl s.tick (s.i.toNat:aVx) x=w:=A8
    rw [AJ (x:=s.i+1)];refine ⟨⟨⟨Ac,Ac⟩,hA',?_,⟨h2,h3⟩,⟨h4,h5⟩,h6,⟨h7,h8,aP2,aPT⟩,hk,h11⟩,by simp only [Ww];omega⟩
    simp only;rw [<-hs,HG,<-hL,hg,hw',c3,AE Aa,Gg]
 ·have c1:s.k<=s.i:=AY
  have hi:s.i.toNat=M s.m:=A0
  refine ⟨rfl,acw (by rw [h9];exact IT.symm) λj j0 j1=>?_,atn (by rw [h10,fA]) λj j0 j1=>?_,by have hL':=hL;rw [hi] at hL';exact hL'⟩
  ·rw [FH,IT] at j1
   rw [FH,P4 j0 j1];exact (hA j j0 A0).1
  ·rw [fA] at j1
   rw [aiQ j0 j1];exact (hA j j0 A0).2
def aiP:Da Rh Ww kS aAd:=λs hI=>auO s hI _ _ _ _ rfl rfl rfl rfl
def Rt:AS M7:=⟨0,108,[2,4,5,12,13,14,15,16,17,19,20,21,57,58,59],[.nl 21 134 AQ],λs=>[s.rs,s.tick,s.n,.v<|.slice aj 0 0,.v<|.slice aj 0 0,.v<|.slice aj 0 0,s.t15,.own 0 0,.xl A7 s.offers,.os 1 1 0<|M s.GI,.os 2 2 0<|M s.next,.os 3 5 0<|M s.D2,s.m,s.k,s.i],λs=>[⟨[s.aiA,s.c1,s.c2,s.c3,s.c4,s.Nl,s.aft,s.Ts,.xl A7 s.auG],215,.cl,U⟩,bV 3 A7 s.GI,bV 138 Aj s.next,bV 134 AQ s.D2],λv b=>⟨B9 Aj v 0,AL v 1,AL v 2,AL v 6,B9 A7 v 8,B9 Ag v 12,AL v 13,AL v 14,AG Af b 0 0,AG .str b 0 1,AG An b 0 2,AG Ag b 0 3,AG Am b 0 4,AG AQ b 0 5,AG Ap b 0 6,Ak b 0 7,AG A7 b 0 8,Ad A7 b 1,Ad Aj b 2,Ad AQ b 3⟩,aAd,λs r=> {s with n:=r.n,t15:=r.t15,i:=r.i,GI:=r.GI,next:=r.next,D2:=r.D2},λs=>s,λ_ s=>s,[.ret,.exit 0],ZU,Rh,Ww⟩
abbrev J8:=Rt.run
abbrev sh:=Rt.Au
def ayL:Rq Rh aAd:=by
 intro s hI;refine ⟨λc1=>⟨?_,?_,?_,λc2=>⟨A9,A9,A9,ak⟩,λc2=>⟨?_,?_,?_,?_,?_,λc3=>⟨?_,?_,?_,?_,ak⟩,λc3=>⟨?_,?_,A9,ak⟩⟩⟩,λc1=>⟨A9,A9,A9,ak⟩⟩
 all_goals ((obtain ⟨⟨h0,h1⟩,hA,hL,⟨h2,h3⟩,⟨h4,h5⟩,h6,⟨h7,h8,h9,h10⟩,hk,h11⟩:=hI;have hll:M s.D2<=s.i.toNat:=yw;(try simp only [Ab] at c1);have hl3:M s.c3=M s.m:=B2 M h4;first|omega|exact ⟨rfl,AI⟩ |(refine ⟨A0,?_,?_⟩<;>simp only [Bk,Bv]<;>omega)))
def ab8:aVI:=[avs,aw2,avW,avu,avX]
def tN:Rt.Ok:={}
def td:Rt.Pf (kS):=⟨anG,λs h=>rfl,aiP,ayL⟩
def arf:SA 0 aHU Rt:=s1 tN td ab8 kN
def auN:Fi ZU Rh kS sh J8:=AS.fin tN td
def auM:Rs ZU sh J8 (λs:M7=>s.n-(M s.D2:Y)) (λx s' (v:Y)=>s'.n-(M s'.D2:Y)=v):=DZ tN td (λs hI=>by
  obtain ⟨⟨h0,h1⟩,hA,hL,⟨h2,h3⟩,⟨h4,h5⟩,h6,⟨h7,h8,h9,h10⟩,hk,h11⟩:=hI
  have hll:M s.D2<=s.i.toNat:=yw
  refine AH (λc1=>?_) λc1=>?_
  ·refine AH (λc2=>?_) (λc2=>?_)
   ·rfl
   ·refine AH (λc3=>?_) (λc3=>?_)
    ·have c1:s.i<s.k:=A8
     rw [AJ (x:=s.n+1)]
     show s.n+1-((M (s.D2++[_]):aVx):Y)=s.n-(M s.D2:Y)
     exact aO1
    ·rfl
  ·rfl)
def aJx:aVy->T LV
 | .agg a::r=>s5 a λcs os ks gs bs=>(match r with
  | [.xl (.pair (.int J) (.pair (.int J) (.pair (.int J) (.pair (.int J) (.int J))))) l,.xl (.pair (.int J) (.int J)) rs,.xl (.pair .bool (.pair (.int J) (.pair (.int J) (.int J)))) d,.v (ag J t),.v (ag J n)]=> .req (Im d t/\M d<=19) (.ok<|.AO [.xl A7<|deA cs os ks gs bs l rs d t n,deR cs os ks gs bs l rs d t n,deL cs os ks gs bs l rs d t n,deE cs os ks gs bs l rs d t n])
  |_=> .no)
 |_=> .no
def cN (cs:aVF) (os:aVz) (ks:aVK) (gs:aVA) (bs:aVL) (l:aVG) (rs:aV3) (d:aVU) (t n:Y):M7:=letI a:=ofO cs os ks gs bs l d t<|HN d t;(⟨rs,t,n,0,a,gs,(M gs:Y),0,cs,os,ks,gs,bs,l,d,t,HN d t,aq (M a:Y).toNat (0:Y),aq (M a:Y).toNat ((0:Y),(0:Y)),([]:aVG)⟩:M7)
def aPg:=vm (S:=aJx) func87 ab8 kN (L:=(λi=>if i=11 then Rt.lp else Al i)) (λb hb=>by
 rw [show BE _=[aHU] by kernel_rfl] at hb
 simp only [BB,Bx,By] at hb;subst hb;exact arf) (λargs lv h=>by
 unfold aJx at h;split at h
 case h_2=>cases h
 replace h:=IX h
 obtain ⟨cs,os,ks,gs,bs,rfl,h⟩:=h;split at h
 ·rename_i l rs d t n
  refine At (letI a:=cN cs os ks gs bs l rs d t n;letI b:=(M (ofO cs os ks gs bs l d t<|HN d t):Y);.req (Im d t/\M d<=19)<|.br (!(JZ cs os ks gs bs l rs d t n)) (.ok<|.AO [.xl A7 ([]:aVw),.xl Aj ([]:aV3),.xl AQ ([]:aVG),(1:Y)])<|.req (M d=M gs/\Fz cs os ks gs bs (Bt gs) (JG gs d) (HN d t)=U/\K5 l (M gs:Y) t=U/\Fz cs os ks gs bs (D4 gs l t) (Fc cs os ks gs bs (Bt gs) (JG gs d)<|HN d t) (HN d t)=U)<|.br ((0:Y) !=0) (.ok<|.AO [.xl A7 ([]:aVw),.xl Aj ([]:aV3),.xl AQ ([]:aVG),(1:Y)])<|.rm 8 b<|.rm 16 b<|.re b.toNat (aq b.toNat (0:Y))<|.re b.toNat (aq b.toNat ((0:Y),(0:Y)))<|.r0 Le<|.req (Rt.q a)<|.br (Bs (sh a)<|.ret) (.ok<|.AO [.xl A7 ([]:aVw),.xl Aj ([]:aV3),.xl AQ ([]:aVG),(J8 a).t15])<|.rz (J8 a).GI<|.rz (J8 a).next (.rz (J8 a).D2<|.ok<|.AO [.xl A7<|((J8 a).GI.drop 0).take<|M (J8 a).GI,(((J8 a).next.drop 0).take<|M (J8 a).next),(((J8 a).D2.drop 0).take<|M (J8 a).D2),(0:Y)])) ?_;obtain ⟨hw,rfl⟩:=h;refine ⟨hw,λc=>?_,λc=>?_⟩
  ·unfold deA deR deL deE
   rw [ntW c];rfl
  have c:=nfW c
  have V:=aVj c
  have ol:M (ofO cs os ks gs bs l d t<|HN d t)=M gs:=(abL V).1
  have hE:ZU (cN cs os ks gs bs l rs d t n):=⟨rfl,rfl,⟨rfl,by have:=V.gl;show (M gs:Y)<=16;omega⟩,A9,⟨by have:=(GK V.les).1;show (M l:Y)<=1000;omega,V.tb⟩,⟨V.rl,ol,by show M (aq _ (0:Y))=M gs;rw [Ci];omega,by show M (aq _ ((0:Y),(0:Y)))=M gs;rw [Ci];omega⟩,aTE V,by have:=V.nb;show 1<=n-(0:Y);omega,by have:=V.nb;show n-(0:Y)<=999900;omega⟩
  obtain ⟨_,_,q1,q2,q3,q4⟩:=auN _ hE
  have hn:=auM _ hE
  have hn:=hn.trans<|QN n
  have q2:(J8<|cN cs os ks gs bs l rs d t n).GI=deA cs os ks gs bs l rs d t n:=q2.trans (by unfold deA;rw [AD c];rfl)
  have q3:(J8<|cN cs os ks gs bs l rs d t n).next=deR cs os ks gs bs l rs d t n:=q3.trans (by unfold deR;rw [AD c];rfl)
  rw [hn] at q4
  have q4:(J8<|cN cs os ks gs bs l rs d t n).D2=deL cs os ks gs bs l rs d t n:=q4.trans (by unfold deL;rw [AD c];rfl)
  have gl:=V.gl
  refine ⟨⟨V.dl,aad V.si,avN V,j8 V⟩,λc2=>absurd c2 Aa,λ_=>?_⟩
  refine ⟨by rw [ol];omega,by rw [ol];omega,⟨rfl,AI⟩,⟨rfl,AI⟩,A9,⟨hE,rfl,rfl⟩,?_⟩
  rw [q1];refine ⟨λh=>Ar,λ_=>⟨A0,A0,A0,?_⟩⟩
  show LV.AO [LV.xl _ _,LV.xl _ _,LV.xl _ _,_]=_
  rw [CX,Eg,CX,Eg,CX,Eg,q2,q3,q4];unfold deE;rw [AD c]
 ·cases h)
structure Nv where
 t5:Y
 t23:aVw
 (t24 t25:Y)
 BD:aVF
 Bh:aVz
 C5:aVK
 BQ:aVA
 C6:aVL
 DE:aVw
def aHH:=bN f18 0
def zY (s:Nv):T (Rd Nv):=
 .br (an<|s.t25<s.t24) (.ix s.t25 (M s.t23)<|.br ((an<|(gi s.t23 s.t25)<0) ||(an<|(gi s.t23 s.t25)>80)) (.so (.ret) {s with t5:=(1:Y)})<|.nx {s with t25:=AA<|s.t25+1}) (.so (.exit 0) s)
def jl (s:Nv):Prop:=s.t5=0/\s.t25=0/\s.t24=(M s.t23:Y)/\s.t24<=1000/\∀k:aVx,k<M s.t23->0<=gi s.t23 k/\gi s.t23 k<=80
def YQ (s:Nv):Prop:=s.t5=0/\(0<=s.t25/\s.t25<=s.t24)/\s.t24=(M s.t23:Y)/\s.t24<=1000/\∀k:aVx,k<M s.t23->0<=gi s.t23 k/\gi s.t23 k<=80
def uR (s:Nv):aVx:=(s.t24-s.t25).toNat
def aCA (x:Ex) (s s':Nv):Prop:=x=.exit 0/\s'.t5=0
def alm:∀s,jl s->YQ s:=by
 rintro s ⟨h9,h0,h1,h2,h3⟩
 exact ⟨h9,A0,h1,h2,h3⟩
def agb:Da YQ uR aCA zY:=by
 intro s hI;obtain ⟨h9,⟨h0,h1⟩,h2,h3,h5⟩:=hI;refine AH (λc1=>AH (λc2=>?_) λc2=>?_) λc1=>?_
 ·exfalso
  have c1:s.t25<s.t24:=A8
  have:=h5 s.t25.toNat A0
  rw [CO h0] at this;simp only [Cf,Ab] at c2;omega
 ·have c1:s.t25<s.t24:=A8
  rw [AJ (x:=s.t25+1)];exact ⟨⟨h9,⟨A8,A8⟩,h2,h3,h5⟩,by simp only [uR];omega⟩
 ·exact ⟨rfl,h9⟩
def SO:AS Nv:=⟨0,65,[2,3,4,5,23,24,25],[],λs=>[.own 0 0,.own 1 0,.v<|.slice aj 0 0,s.t5,.xl A7 s.t23,s.t24,s.t25],λs=>[⟨[s.BD,s.Bh,s.C5,s.BQ,s.C6],28,.cl,X⟩,⟨[.xl A7 s.DE],29,.cl,X⟩],λv b=>⟨AL v 3,B9 A7 v 4,AL v 5,AL v 6,AG Af b 0 0,AG .str b 0 1,AG An b 0 2,AG Ag b 0 3,AG Am b 0 4,AG A7 b 1 0⟩,zY,λs r=> {s with t5:=r.t5,t25:=r.t25},λs=>s,λ_ s=>s,[.ret,.exit 0],jl,YQ,uR⟩
abbrev pE:=SO.run
abbrev aIs:=SO.Au
def aym:Rq YQ zY:=by
 intro s hI;refine ⟨λc1=>⟨?_,λ_=>trivial,λ_=>trivial⟩,λ_=>trivial⟩
 ·(simp only [Ab] at c1;obtain ⟨h9,⟨h0,h1⟩,h2,h3⟩:=hI;omega)
def gV:aVI:=[Mu,fz]
def aSi:Ay:=kI gV<|l0 gV
def aRZ:SO.Ok:={}
def aR0:SO.Pf (aCA):=⟨alm,λs h=>rfl,agb,aym⟩
def aqd:SA 0 aHH SO:=s1 aRZ aR0 gV aSi
def asO:Fi jl YQ aCA aIs pE:=AS.fin aRZ aR0
def aAp:Array Tmp×Code×Code:=((J5<|f18.body.getD .skip)[0]?).getD (#[],.skip,.skip)
def akD:aWt:=aAp.1
def akS:aV7:=aAp.2.1
def akK:aV7:=aAp.2.2
structure Jx where
 BD:aVF
 Bh:aVz
 C5:aVK
 BQ:aVA
 C6:aVL
 c:Y
 Bi:aVF
 Gk:aVz
 Gi:aVK
 Gm:aVA
 Gq:aVL
 b1:aVw
 b3:aWn
 b4:Y
 fD:aV6
 (ja J1 iF iG fC pC qG:Y)
 st:LS
def zW (s:Jx):T (Rd Jx):=letI b:=gi s.b1 s.b4;letI d:=s.c.toNat<M s.b3;letI e:=V8 s.b3 s.c.toNat b;letI g:=M s.b3;letI h:=M s.BD;letI i:=Ae s.BD s.c;letI k:=(Bl J s.J1 4) !=0;letI m:=s.c.toNat<M e;letI a:=Xg s.b3 s.c.toNat b;letI f:=V8 a s.c.toNat b;letI j:=s.c.toNat<M a;letI l:=s.c.toNat<M f;.br (an<|s.c>=0) (.ix s.c g<|.ix s.b4 (M s.b1)<|.br ((Bl J s.J1 1) !=0) (.req d<|.req d<|.br ((Bl J s.J1 2) !=0) (.req j<|.req j<|.br k (.req l<|.req l<|.ix s.c h<|.re g (LO f s.c.toNat b)<|.nx {s with c:=i.2.1,b3:=LO f s.c.toNat b})<|.ix s.c h<|.re g f<|.nx {s with c:=i.2.1,b3:=f})<|.br k (.req j<|.req j<|.ix s.c h<|.re g (LO a s.c.toNat b)<|.nx {s with c:=i.2.1,b3:=LO a s.c.toNat b})<|.ix s.c h<|.re g a<|.nx {s with c:=i.2.1,b3:=a})<|.br ((Bl J s.J1 2) !=0) (.req d<|.req d<|.br k (.req m<|.req m<|.ix s.c h<|.re g (LO e s.c.toNat b)<|.nx {s with c:=i.2.1,b3:=LO e s.c.toNat b})<|.ix s.c h<|.re g e<|.nx {s with c:=i.2.1,b3:=e})<|.br k (.req d<|.req d<|.ix s.c h<|.re g (LO s.b3 s.c.toNat b)<|.nx {s with c:=i.2.1,b3:=LO s.b3 s.c.toNat b})<|.ix s.c h<|.rl s.b3<|.nx {s with c:=i.2.1})<|.rl s.b3<|.so (.exit 0) s
def Uh (s:Jx):Prop:=s.st=.ready/\Fj s.BD=U/\s.c<(M s.BD:Y)/\M s.b3=M s.BD/\(0<=s.b4/\s.b4<(M s.b1:Y))
def YP (s:Jx):Prop:=s.st=.ready/\Fj s.BD=U/\s.c<(M s.BD:Y)/\M s.b3=M s.BD/\(0<=s.b4/\s.b4<(M s.b1:Y))
def aDK (s:Jx):aVx:=(s.c+1).toNat
def aC8 (x:Ex) (s s':Jx):Prop:=x=.exit 0/\s'.c<0
def ali:∀s,Uh s->YP s:=by
 exact λs h=>h
def agZ:Da YP aDK aC8 zW:=by
 intro s hI;obtain ⟨h0,h1,h2,h3,h4⟩:=hI;refine AH (λc1=>?_) λc1=>?_
 ·have c1:0<=s.c:=AY
  have:=R3 h1 c1 h2
  exact AH (λ_=>AH (λ_=>AH (λ_=>⟨⟨h0,h1,Ac,TB,h4⟩,QZ⟩) λ_=>⟨⟨h0,h1,Ac,TB,h4⟩,QZ⟩) λ_=>AH (λ_=>⟨⟨h0,h1,Ac,TB,h4⟩,QZ⟩) λ_=>⟨⟨h0,h1,Ac,TB,h4⟩,QZ⟩) λ_=>AH (λ_=>AH (λ_=>⟨⟨h0,h1,Ac,TB,h4⟩,QZ⟩) λ_=>⟨⟨h0,h1,Ac,TB,h4⟩,QZ⟩) λ_=>AH (λ_=>⟨⟨h0,h1,Ac,TB,h4⟩,QZ⟩) λ_=>⟨⟨h0,h1,Ac,A8,h4⟩,QZ⟩
 ·have c1:¬(0<=s.c):=AY
  exact Vi
def Za:AS Jx:=⟨7,18,[0,2,4],[],λs=>[.CS 6,xQ 5 [s.BD,s.Bh,s.C5,s.BQ,s.C6],s.c],λs=>[⟨[s.Bi,s.Gk,s.Gi,s.Gm,s.Gq],28,.cl,X⟩,⟨[.xl A7 s.b1],29,.cl,X⟩,⟨[.os 3 3 0<|M s.b3],56,.cl,X⟩,⟨[],59,.vec (.pair A7 Aj) s.b3,X⟩,⟨[s.b4],3,.cl,X⟩,⟨[.v<|.string s.fD,s.ja,s.J1,s.iF,s.iG,s.fC,s.pC,s.qG],107,.cl,X⟩,⟨[.junk,.junk,.junk,.own 1 0,.junk,.junk,.junk,.junk,.own 2 0,.own 4 0,.own 5 0,.junk,.junk,.junk,.junk,.junk,.junk,.junk,.junk,.junk,.junk,.junk,.junk,.junk,.junk,.junk,.junk,.junk,.junk,.junk,.junk,.junk,.junk,.junk,.junk,.junk,.junk,.junk,.junk,.junk,.junk,.junk,.junk,.junk,.junk,.junk,.junk,.junk,.junk,.junk,.junk,.junk,.junk,.junk,.junk,.junk,.junk,.junk,.junk,.junk,.junk,.junk,.junk,.junk,.junk],0,.Cr akD akS akK s.st,X⟩],λv b=>⟨As Af<|BU (v.getD 1 .junk) 0,As .str<|BU (v.getD 1 .junk) 1,As An<|BU (v.getD 1 .junk) 2,As Ag<|BU (v.getD 1 .junk) 3,As Am<|BU (v.getD 1 .junk) 4,AL v 2,AG Af b 0 0,AG .str b 0 1,AG An b 0 2,AG Ag b 0 3,AG Am b 0 4,AG A7 b 1 0,Ad (.pair A7 Aj) b 3,Ak b 4 0,gSr<|BC (Cc b 5) 0,Ak b 5 1,Ak b 5 2,Ak b 5 3,Ak b 5 4,Ak b 5 5,Ak b 5 6,Ak b 5 7,.ready⟩,zW,λs r=> {r with BD:=s.BD,Bh:=s.Bh,C5:=s.C5,BQ:=s.BQ,C6:=s.C6,Bi:=s.Bi,Gk:=s.Gk,Gi:=s.Gi,Gm:=s.Gm,Gq:=s.Gq,b1:=s.b1,b4:=s.b4,fD:=s.fD,ja:=s.ja,J1:=s.J1,iF:=s.iF,iG:=s.iG,fC:=s.fC,pC:=s.pC,qG:=s.qG,st:=s.st},λs=> {s with st:=.ready},λx s=> {s with st:=(match x with| .exit 0=> .ready|_=> .ready)},[.exit 0],Uh,YP,aDK⟩
abbrev Tn:=Za.run
abbrev aIq:=Za.Au
def ayk:Rq YP zW:=by
 intro s hI;refine ⟨λc1=>⟨?_,?_,λc2=>⟨?_,?_,λc3=>⟨?_,?_,λc4=>⟨?_,?_,?_,?_,ak⟩,λc4=>⟨?_,?_,ak⟩⟩,λc3=>⟨λc5=>⟨?_,?_,?_,?_,ak⟩,λc5=>⟨?_,?_,ak⟩⟩⟩,λc2=>⟨λc6=>⟨?_,?_,λc7=>⟨?_,?_,?_,?_,ak⟩,λc7=>⟨?_,?_,ak⟩⟩,λc6=>⟨λc8=>⟨?_,?_,?_,?_,ak⟩,λc8=>⟨?_,A9,ak⟩⟩⟩⟩,λc1=>⟨A9,ak⟩⟩
 all_goals ((obtain ⟨h0,h1,h2,h3,h4⟩:=hI;simp only [Ab,MU] at c1;first|omega|(simp only [aDH,aDG,aDF];omega) |simp [aDH,aDG,aDF]))
def tL:Za.Ok:={}
def ta:Za.Pf (aC8):=⟨ali,λs h=>by
 obtain ⟨BD,Bh,C5,BQ,C6,c,Bi,Gk,Gi,Gm,Gq,b1,b3,b4,fD,ja,J1,iF,iG,fC,pC,qG,st⟩:=s
 have e:=h.1
 subst e;rfl,agZ,ayk⟩
def aHa:=s2 (b:=bN f75 0) tL ta gV aSi
def asM:Fi Uh YP aC8 aIq Tn:=AS.fin tL ta
def aoh (s:Jx) (hE:Uh s):(λs:Jx=>HC s.BD s.J1 (gi s.b1 s.b4) s.c s.b3) (Tn s)=(λs:Jx=>HC s.BD s.J1 (gi s.b1 s.b4) s.c s.b3) s:=by
 exact AS.Kn tL ta (λs:Jx=>HC s.BD s.J1 (gi s.b1 s.b4) s.c s.b3) (λs hI=>by
  obtain ⟨h0,h1,h2,h3,h4⟩:=hI
  have hp:=ags (ph:=s.J1) (v:=gi s.b1 s.b4) (l:=s.b3) h1 h2
  refine AH (λc1=>?_) λc1=>rfl
  have c1:0<=s.c:=A8
  rw [AD c1,aj1 A0] at hp
  refine AH (λd1=>AH (λd2=>AH (λd4=>?_) λd4=>?_) λd2=>AH (λd4=>?_) λd4=>?_) (λd1=>AH (λd2=>AH (λd4=>?_) λd4=>?_) λd2=>AH (λd4=>?_) λd4=>?_)<;>
   (show HC _ _ _ _ _=HC _ _ _ _ _;rw [hp];simp only [d1,d2,d4,Bp,IN,FP])) s hE
def asL (s:Jx) (hE:Uh s):aIq s=.exit 0/\(Tn s).b3=HC s.BD s.J1 (gi s.b1 s.b4) s.c s.b3:=by
 have q3:=aoh s hE
 obtain ⟨s',hI,q1,q2⟩:=asM s hE;refine ⟨q1,?_⟩
 have q3:HC s.BD s.J1 (gi s.b1 s.b4) (Tn s).c (Tn s).b3=HC s.BD s.J1 (gi s.b1 s.b4) s.c s.b3:=q3
 rw [<-q3];unfold HC;rw [ldW,AE A0]
structure Mz where
 t5:Y
 t41:aVA
 (t42 t43:Y)
 BD:aVF
 Bh:aVz
 C5:aVK
 BQ:aVA
 C6:aVL
 DE:aVw
 b3:aWn
def aHG:=bN f18 1
def pw (s:Mz):Jx:=(⟨s.BD,s.Bh,s.C5,s.BQ,s.C6,(AF s.t41 s.t43).2.1,s.BD,s.Bh,s.C5,s.BQ,s.C6,s.DE,s.b3,s.t43,(AF s.t41 s.t43).1,(AF s.t41 s.t43).2.1,(AF s.t41 s.t43).2.2.1,(AF s.t41 s.t43).2.2.2.1,(AF s.t41 s.t43).2.2.2.2.1,(AF s.t41 s.t43).2.2.2.2.2.1,(AF s.t41 s.t43).2.2.2.2.2.2.1,(AF s.t41 s.t43).2.2.2.2.2.2.2,.ready⟩:Jx)
def zX (s:Mz):T (Rd Mz):=
 .br (an<|s.t43<s.t42) (.ix s.t43 (M s.t41)<|.rl s.b3<|.req (Za.q<|pw s)<|.rl (Tn<|pw s).b3<|.nx {s with t43:=AA<|s.t43+1,b3:=(Tn<|pw s).b3}) (.rl s.b3<|.so (.exit 2) s)
def jk (s:Mz):Prop:=s.t43=0/\(s.t42=(M s.t41:Y)/\s.t42<=1000/\Fj s.BD=U/\atB s.BD s.t41=U/\M s.DE=M s.t41)/\s.b3=aq (M s.BD) (Ty.dflt<|.pair A7 Aj)
def Ud (s:Mz):Prop:=(0<=s.t43/\s.t43<=s.t42)/\(s.t42=(M s.t41:Y)/\s.t42<=1000/\Fj s.BD=U/\atB s.BD s.t41=U/\M s.DE=M s.t41)/\s.b3=Hc s.BD s.t41 s.DE s.t43.toNat
def uQ (s:Mz):aVx:=(s.t42-s.t43).toNat
def aC9 (x:Ex) (s s':Mz):Prop:=x=.exit 2/\s'.b3=Hc s'.BD s'.t41 s'.DE (M s'.t41)
def alj:∀s,jk s->Ud s:=by
 rintro s ⟨h0,h1,h2⟩
 exact ⟨A0,h1,by rw [h2,h0];rfl⟩
def aS7 (s:Mz) (hI:Ud s) (c1:s.t43<s.t42):Uh (pw s):=by
 obtain ⟨⟨h0,h1⟩,⟨h2,h3,h4,h5,h6⟩,h7⟩:=hI;refine ⟨rfl,h4,iH h5 h0 A0,?_,⟨h0,?_⟩⟩
 ·show M s.b3=_
  rw [h7];exact fJ h4 h5 _ A0
 ·show s.t43<(M s.DE:Y)
  omega
def aga:Da Ud uQ aC9 zX:=by
 intro s hI
 have hin:=λc1=>aS7 s hI c1
 obtain ⟨⟨h0,h1⟩,⟨h2,h3,h4,h5,h6⟩,h7⟩:=hI;refine AH (λc1=>?_) λc1=>?_
 ·have c1:s.t43<s.t42:=A8
  obtain ⟨_,q⟩:=asL _<|hin c1;rw [AJ (x:=s.t43+1)];refine ⟨⟨⟨A8,A8⟩,⟨h2,h3,h4,h5,h6⟩,?_⟩,by simp only [uQ];omega⟩
  rw [show (s.t43+1).toNat=s.t43.toNat+1 by omega,q]
  show HC s.BD (AF s.t41 s.t43).2.2.1 (gi s.DE s.t43) (AF s.t41 s.t43).2.1 s.b3=HC s.BD (AF s.t41 (s.t43.toNat:Y)).2.2.1 (gi s.DE (s.t43.toNat:Y)) (AF s.t41 (s.t43.toNat:Y)).2.1 (Hc s.BD s.t41 s.DE s.t43.toNat)
  grind
 ·have c1:s.t42<=s.t43:=A8
  refine ⟨rfl,?_⟩
  grind
def SL:AS Mz:=⟨0,65,[2,3,4,5,8,41,42,43],[],λs=>[.own 0 0,.own 1 0,.v<|.slice aj 0 0,s.t5,.own 2 0,s.t41,s.t42,s.t43],λs=>[⟨[s.BD,s.Bh,s.C5,s.BQ,s.C6],28,.cl,X⟩,⟨[.xl A7 s.DE],29,.cl,X⟩,⟨[.os 3 3 0<|M s.b3],56,.cl,X⟩,⟨[],59,.vec (.pair A7 Aj) s.b3,X⟩],λv b=>⟨AL v 3,B9 Ag v 5,AL v 6,AL v 7,AG Af b 0 0,AG .str b 0 1,AG An b 0 2,AG Ag b 0 3,AG Am b 0 4,AG A7 b 1 0,Ad (.pair A7 Aj) b 3⟩,zX,λs r=> {r with t5:=s.t5,t41:=s.t41,t42:=s.t42,BD:=s.BD,Bh:=s.Bh,C5:=s.C5,BQ:=s.BQ,C6:=s.C6,DE:=s.DE},λs=>s,λ_ s=>s,[.exit 2],jk,Ud,uQ⟩
abbrev aDv:=SL.run
abbrev atV:=SL.Au
def ayl:Rq Ud zX:=by
 intro s hI;refine ⟨λc1=>⟨?_,A9,?_,A9,ak⟩,λc1=>⟨A9,ak⟩⟩
 ·(obtain ⟨⟨h0,h1⟩,⟨h2,h3⟩,h4⟩:=hI;simp only [Ab] at c1;omega)
 ·exact ⟨aS7 s hI A8,rfl,rfl⟩
def wA:aVI:=[Mu,fz]
def ag1:Ay:=kI wA<|la 1 func75 aHa<|l0 wA
def aRY:SL.Ok:={}
def aQz:SL.Pf (aC9):=⟨alj,λs h=>rfl,aga,ayl⟩
def aqc:SA 0 aHG SL:=s1 aRY aQz wA ag1
def asN:Fi jk Ud aC9 atV aDv:=AS.fin aRY aQz
def GR (cs:aVF) (gs:aVA) (am:aVw):aV8:=if M am=M gs then Hc cs gs am (M gs) else []
def Hf (gs:aVA) (am:aVw):Y:=if M am=M gs then 0 else 1
def aTc:aVy->T LV
 | .agg a::r=>s5 a λcs os ks gs bs=>(match r with
  | [.xl (.int J) am]=> .req (B6 cs os ks gs bs=U/\(M am=M gs->∀k:aVx,k<M am->0<=gi am k/\gi am k<=80)) (.ok<|.AO [.xl (.pair A7 Aj)<|GR cs gs am,Hf gs am])
  |_=> .no)
 |_=> .no
def w9:aVI:=[Mu,fz]
def ag0:Ay:=kI w9<|la 1 func75 aHa<|l0 w9
def im:=vm (S:=aTc) func18 w9 ag0 (L:=(λi=>if i=4 then SO.lp else if i=11 then SL.lp else Al i)) (λb hb=>by
 rw [show BE _=[aHH,aHG] by kernel_rfl] at hb
 simp only [BB,Bx,By] at hb;rcases hb with rfl|rfl
 ·exact aqd
 ·exact aqc) (λargs lv h=>by
 unfold aTc at h;split at h
 case h_2=>cases h
 replace h:=IX h
 obtain ⟨cs,os,ks,gs,bs,rfl,h⟩:=h;split at h
 ·rename_i am
  refine At (letI e:=(M am:Y);letI f:=(M gs:Y);letI g:=(M cs:Y);letI b:=(pE (⟨0,am,e,0,cs,os,ks,gs,bs,am⟩:Nv));letI d:=(aq g.toNat ((0:Y),((0:Y),(0:Y))));letI a:=(aDv (⟨b.t5,gs,f,0,cs,os,ks,gs,bs,am,d⟩:Mz));.br ((!(B6 cs os ks gs bs)) ||(e !=f)) (.ok<|.AO [.xl (.pair A7 Aj) ([]:aWn),(1:Y)])<|.req (SO.q (⟨0,am,e,0,cs,os,ks,gs,bs,am⟩:Nv))<|.br (Bs (aIs (⟨0,am,e,0,cs,os,ks,gs,bs,am⟩:Nv))<|.ret) (.ok<|.AO [.xl (.pair A7 Aj) ([]:aWn),b.t5])<|.rm 24 g<|.re g.toNat d<|.req (SL.q (⟨b.t5,gs,f,0,cs,os,ks,gs,bs,am,d⟩:Mz))<|.rz a.b3<|.ok<|.AO [.xl (.pair A7 Aj)<|(a.b3.drop 0).take<|M a.b3,(0:Y)]) ?_;obtain ⟨⟨hv,hr⟩,rfl⟩:=h
  by_cases hl:M am=M gs
  rotate_left
  ·refine ⟨λ_=>?_,λc=>?_⟩
   ·unfold GR Hf
    rw [AE hl,AE hl];rfl
   ·rw [hv] at c;simp at c;omega
  have hr:=hr hl
  unfold GR Hf;rw [AD hl,AD hl]
  have hb:=(DC.1 hv).1
  have hA:jl ⟨0,am,(M am:Y),0,cs,os,ks,gs,bs,am⟩:=⟨rfl,rfl,rfl,A8,hr⟩
  obtain ⟨_,_,q1,q5⟩:=asO _ hA
  have hB:jk ⟨(pE ⟨0,am,(M am:Y),0,cs,os,ks,gs,bs,am⟩).t5,gs,(M gs:Y),0,cs,os,ks,gs,bs,am,aq (M cs:Y).toNat ((0:Y),((0:Y),(0:Y)))⟩:=⟨rfl,⟨rfl,A8,dP hv,dQ hv,hl⟩,by
   rw [C0];rfl⟩
  obtain ⟨_,_,q6,q7⟩:=asN _ hB
  have q7:(aDv ⟨(pE ⟨0,am,(M am:Y),0,cs,os,ks,gs,bs,am⟩).t5,gs,(M gs:Y),0,cs,os,ks,gs,bs,am,aq (M cs:Y).toNat ((0:Y),((0:Y),(0:Y)))⟩).b3=Hc cs gs am (M gs):=q7
  refine ⟨λc=>?_,λ_=>⟨⟨hA,rfl,rfl⟩,?_⟩⟩
  ·exfalso
   rw [hv,hl] at c
   simp at c
  ·rw [q1]
   refine ⟨λh=>Ar,λ_=>⟨A0,⟨rfl,AI⟩,⟨hB,rfl,rfl⟩,A0,?_⟩⟩
   show LV.AO _=LV.AO _
   rw [CX,Eg,q7]
 ·cases h)
def aAo:Array Tmp×Code×Code:=((J5<|f9.body.getD .skip)[0]?).getD (#[],.skip,.skip)
def aa2:aWt:=aAo.1
def aa7:aV7:=aAo.2.1
def aa5:aV7:=aAo.2.2
structure OB where
 (c t7 t8 t11:Y)
 Bi:aVF
 Gk:aVz
 Gi:aVK
 Gm:aVA
 Gq:aVL
 (Iz J6 JD:Y)
 b2:aVH
 b3:Y
 b4:aWn
 Nf:aVF
 Ni:aVz
 Nd:aVK
 Nh:aVA
 Nt:aVL
 st:LS
def aGo:=lN (bN f38 0) 0
def ig (s:OB):T (Rd OB):=letI a:=Cs<|Ae s.Bi s.c;letI b:=AA<|s.t11+1;letI d:=M s.Bi;.br (an<|s.t11<3) (.ix s.c (M s.b4)<|.br (s.t11==0) (.ix s.c d<|.br (an<|(gx (e:=.pair A7 Aj) s.b4 s.c).1>a) (.so (.ret) {s with Iz:=s.c,J6:=s.t11,JD:=(gx (e:=.pair A7 Aj) s.b4 s.c).1,b2:=U,b3:=(0:Y),st:=.done<|.ret})<|.nx {s with t11:=b})<|.br (s.t11==1) (.ix s.c d<|.br (an<|(gx (e:=.pair A7 Aj) s.b4 s.c).2.1>a) (.so (.ret) {s with Iz:=s.c,J6:=s.t11,JD:=(gx (e:=.pair A7 Aj) s.b4 s.c).2.1,b2:=U,b3:=(0:Y),st:=.done<|.ret})<|.nx {s with t11:=b})<|.br (s.t11==2) (.ix s.c d<|.br (an<|(gx (e:=.pair A7 Aj) s.b4 s.c).2.2>a) (.so (.ret) {s with Iz:=s.c,J6:=s.t11,JD:=(gx (e:=.pair A7 Aj) s.b4 s.c).2.2,b2:=U,b3:=(0:Y),st:=.done<|.ret})<|.nx {s with t11:=b})<|.no /-  -/)<|.so (.exit 2) s
def lX (s:OB):Prop:=s.st=.ready/\s.t11=0/\(0<=s.c/\s.c<(M s.b4:Y))/\s.c<(M s.Bi:Y)
def k6 (s:OB):Prop:=s.st=.ready/\(0<=s.t11/\s.t11<=3)/\(0<=s.c/\s.c<(M s.b4:Y))/\s.c<(M s.Bi:Y)
def ff (s:OB):aVx:=(3-s.t11).toNat
def abb (x:Ex) (s s':OB):Prop:=True
def anP:∀s,lX s->k6 s:=by
 rintro s ⟨h,h0,h1⟩
 exact ⟨h,A0,h1⟩
def ai4:Da k6 ff abb ig:=by
 intro s hI;obtain ⟨ht,h0,h1,h2⟩:=hI;refine AH (λc1=>?_) λc1=>?_
 ·refine AH (λc2=>?_) (λc2=>?_)
  ·refine AH (λc3=>?_) (λc3=>?_)
   ·trivial
   ·exact aMs
  ·refine AH (λc3=>?_) (λc3=>?_)
   ·refine AH (λc4=>?_) (λc4=>?_)
    ·trivial
    ·exact aMs
   ·refine AH (λc4=>?_) (λc4=>?_)
    ·refine AH (λc5=>?_) (λc5=>?_)
     ·trivial
     ·have c1:s.t11<3:=AY
      rw [AJ (x:=s.t11+1)];exact ⟨⟨ht,⟨A8,A8⟩,h1,h2⟩,by simp only [ff];omega⟩
    ·exfalso
     simp only [Ab,CT,ne_eq] at*;omega
 ·trivial
def Rx:AS OB:=⟨7,22,[0,3,7,8,11],[],λs=>[.CS 6,s.c,s.t7,s.t8,s.t11],λs=>[⟨[s.Bi,s.Gk,s.Gi,s.Gm,s.Gq],28,.cl,X⟩,⟨[s.Iz,s.J6,s.JD],52,.cl,X⟩,⟨[s.b2],4,.cl,X⟩,⟨[s.b3],53,.cl,X⟩,⟨[.xl (.pair A7 Aj) s.b4],56,.cl,X⟩,⟨[s.Nf,s.Ni,s.Nd,s.Nh,s.Nt],28,.cl,X⟩,⟨[.junk,.junk,.own 0 0,.junk,.own 1 0,.own 2 0,.own 3 0,.own 4 0,.junk,.v<|.tuple #[],.v<|.tuple #[],.junk,.junk,.junk,.junk,.junk,.junk,.junk,.junk,.junk,.junk,.junk,.v<|.tuple #[],.v<|.tuple #[],.v<|.tuple #[],.v<|.tuple #[],.v<|.tuple #[],.v<|.tuple #[],.v<|.tuple #[],.v<|.tuple #[],.v<|.tuple #[],.v<|.tuple #[],.v<|.tuple #[],.v<|.tuple #[],.v<|.tuple #[],.v<|.tuple #[],.v<|.tuple #[],.v<|.tuple #[],.v<|.tuple #[],.v<|.tuple #[],.v<|.tuple #[],.v<|.tuple #[],.v<|.tuple #[],.v<|.tuple #[],.v<|.tuple #[],.v<|.tuple #[],.junk],0,.Cr aa2 aa7 aa5 s.st,X⟩],λv b=>⟨AL v 1,AL v 2,AL v 3,AL v 4,AG Af b 0 0,AG .str b 0 1,AG An b 0 2,AG Ag b 0 3,AG Am b 0 4,Ak b 1 0,Ak b 1 1,Ak b 1 2,Lc b 2 0,Ak b 3 0,AG (.pair A7 Aj) b 4 0,AG Af b 5 0,AG .str b 5 1,AG An b 5 2,AG Ag b 5 3,AG Am b 5 4,.ready⟩,ig,λs r=> {r with c:=s.c,t7:=s.t7,t8:=s.t8,Bi:=s.Bi,Gk:=s.Gk,Gi:=s.Gi,Gm:=s.Gm,Gq:=s.Gq,b4:=s.b4,Nf:=s.Nf,Ni:=s.Ni,Nd:=s.Nd,Nh:=s.Nh,Nt:=s.Nt},λs=> {s with st:=.ready},λx s=> {s with st:=(match x with| .ret=>(.done<|.ret) | .exit 2=> .ready|_=> .ready)},[.ret,.exit 2],lX,k6,ff⟩
abbrev Mq:=Rx.run
abbrev fa:=Rx.Au
def XS:aVI:=[im,XK]
def vX:Ay:=kI XS<|l0 XS
def ayS:Rq k6 ig:=by
 intro s hI;refine ⟨λc1=>⟨?_,λc2=>⟨?_,λ_=>trivial,λ_=>trivial⟩,λc2=>⟨λc4=>⟨?_,λ_=>trivial,λ_=>trivial⟩,λc4=>⟨λc6=>⟨?_,λ_=>trivial,λ_=>trivial⟩,λc6=>?_⟩⟩⟩,λ_=>trivial⟩
 iterate 4 · (obtain ⟨ht,h0,h1,h2⟩:=hI;omega)
 ·(exfalso;obtain ⟨ht,h0,h1,h2⟩:=hI;simp only [Ab,CT,ne_eq] at*;omega)
def aSK:Rx.Ok:={}
def aQo:Rx.Pf (abb):=⟨anP,λs h=>by
 obtain ⟨c,t7,t8,t11,Bi,Gk,Gi,Gm,Gq,Iz,J6,JD,b2,b3,b4,Nf,Ni,Nd,Nh,Nt,st⟩:=s
 have e:=h.1
 subst e;rfl,ai4,ayS⟩
def arl:SA 7 aGo Rx:=s2 aSK aQo XS vX
def aua:Rs lX fa Mq (λs:OB=>MN (Cs<|Ae s.Bi s.c) (gLi s.b4 s.c) s.t11) (λx s' (v:aVH)=>(x=.ret/\v=X/\s'.b2=U/\s'.b3=0)\/(x=.exit 2/\v=U)):=DZ aSK aQo (λs hI=>by
  show DV _ _ ((ig s).rd s)
  obtain ⟨ht,h0,h1,h2⟩:=hI;refine AH (λc1=>?_) λc1=>?_
  ·refine AH (λc2=>?_) (λc2=>?_)
   ·refine AH (λc3=>?_) (λc3=>?_)
    ·refine .inl ⟨rfl,?_,rfl,rfl⟩
     have c3:(gLi s.b4 s.c).1>Cs (Ae s.Bi s.c):=DH c3
     exact yK
    ·have c1:s.t11<3:=AY
     rw [AJ (x:=s.t11+1)]
     have c3:¬(gLi s.b4 s.c).1>Cs (Ae s.Bi s.c):=KJ c3
     exact y8
   ·refine AH (λc3=>?_) (λc3=>?_)
    ·refine AH (λc4=>?_) (λc4=>?_)
     ·refine .inl ⟨rfl,?_,rfl,rfl⟩
      have c4:(gLi s.b4 s.c).2.1>Cs (Ae s.Bi s.c):=DH c4
      exact yK
     ·have c1:s.t11<3:=AY
      rw [AJ (x:=s.t11+1)]
      have c4:¬(gLi s.b4 s.c).2.1>Cs (Ae s.Bi s.c):=KJ c4
      exact y8
    ·refine AH (λc4=>?_) (λc4=>?_)
     ·refine AH (λc5=>?_) (λc5=>?_)
      ·refine .inl ⟨rfl,?_,rfl,rfl⟩
       have c5:(gLi s.b4 s.c).2.2>Cs (Ae s.Bi s.c):=DH c5
       exact yK
      ·have c1:s.t11<3:=AY
       rw [AJ (x:=s.t11+1)]
       have c5:¬(gLi s.b4 s.c).2.2>Cs (Ae s.Bi s.c):=KJ c5
       exact y8
     ·exfalso
      simp only [Ab,CT,ne_eq] at*;omega
  ·have c1:3<=s.t11:=AY
   refine .inr ⟨rfl,?_⟩;unfold MN;simp only [AX,Cf,Ab];omega)
structure Kj where
 (t7 t8:Y)
 Bi:aVF
 Gk:aVz
 Gi:aVK
 Gm:aVA
 Gq:aVL
 (Iz J6 JD:Y)
 b2:aVH
 b3:Y
 b4:aWn
 Nf:aVF
 Ni:aVz
 Nd:aVK
 Nh:aVA
 Nt:aVL
 st:LS
def aGp:=bN f38 0
def J3 (s:Kj):OB:=(⟨s.t8,s.t7,s.t8,0,s.Bi,s.Gk,s.Gi,s.Gm,s.Gq,s.Iz,s.J6,s.JD,s.b2,s.b3,s.b4,s.Nf,s.Ni,s.Nd,s.Nh,s.Nt,.ready⟩:OB)
def aAJ (s:Kj):T (Rd Kj):=
 .br (an<|s.t8<s.t7) (.req (Rx.q<|J3 s)<|.br (Bs (fa<|J3 s)<|.ret) (.so (.ret) {s with Iz:=(Mq<|J3 s).Iz,J6:=(Mq<|J3 s).J6,JD:=(Mq<|J3 s).JD,b2:=(Mq<|J3 s).b2,b3:=(Mq<|J3 s).b3,st:=.done<|.ret})<|.nx {s with t8:=AA<|s.t8+1,Iz:=(Mq<|J3 s).Iz,J6:=(Mq<|J3 s).J6,JD:=(Mq<|J3 s).JD,b2:=(Mq<|J3 s).b2,b3:=(Mq<|J3 s).b3}) (.so (.exit 0) s)
def ka (s:Kj):Prop:=s.st=.ready/\s.t8=0/\s.t7=(M s.Bi:Y)/\s.t7<=1000/\M s.b4=M s.Bi
def YB (s:Kj):Prop:=s.st=.ready/\(0<=s.t8/\s.t8<=s.t7)/\s.t7=(M s.Bi:Y)/\s.t7<=1000/\M s.b4=M s.Bi
def uI (s:Kj):aVx:=(s.t7-s.t8).toNat
def abd (x:Ex) (s s':Kj):Prop:=True
def anQ:∀s,ka s->YB s:=by
 rintro s ⟨h,h0,h1⟩
 exact ⟨h,A0,h1⟩
def aT2 (s:Kj) (hI:YB s) (c1:s.t8<s.t7):lX (J3 s):=by
 obtain ⟨ht,⟨h0,h1⟩,h2,h3,h4⟩:=hI;exact ⟨rfl,rfl,⟨h0,by show s.t8<(M s.b4:Y);omega⟩,by show s.t8<(M s.Bi:Y);omega⟩
def ai5:Da YB uI abd aAJ:=by
 intro s hI;obtain ⟨ht,⟨h0,h1⟩,h2,h3,h4⟩:=hI;refine AH (λc1=>AH (λc2=>trivial) λc2=>?_) λc1=>trivial
 have c1:s.t8<s.t7:=A8
 rw [AJ (x:=s.t8+1)];exact ⟨⟨ht,⟨A8,A8⟩,h2,h3,h4⟩,by simp only [uI];omega⟩
def US:AS Kj:=⟨7,22,[0,7,8],[],λs=>[.CS 6,s.t7,s.t8],λs=>[⟨[s.Bi,s.Gk,s.Gi,s.Gm,s.Gq],28,.cl,X⟩,⟨[s.Iz,s.J6,s.JD],52,.cl,X⟩,⟨[s.b2],4,.cl,X⟩,⟨[s.b3],53,.cl,X⟩,⟨[.xl (.pair A7 Aj) s.b4],56,.cl,X⟩,⟨[s.Nf,s.Ni,s.Nd,s.Nh,s.Nt],28,.cl,X⟩,⟨[.junk,.junk,.own 0 0,.junk,.own 1 0,.own 2 0,.own 3 0,.own 4 0,.junk,.v<|.tuple #[],.v<|.tuple #[],.junk,.junk,.junk,.junk,.junk,.junk,.junk,.junk,.junk,.junk,.junk,.v<|.tuple #[],.v<|.tuple #[],.v<|.tuple #[],.v<|.tuple #[],.v<|.tuple #[],.v<|.tuple #[],.v<|.tuple #[],.v<|.tuple #[],.v<|.tuple #[],.v<|.tuple #[],.v<|.tuple #[],.v<|.tuple #[],.v<|.tuple #[],.v<|.tuple #[],.v<|.tuple #[],.v<|.tuple #[],.v<|.tuple #[],.v<|.tuple #[],.v<|.tuple #[],.v<|.tuple #[],.v<|.tuple #[],.v<|.tuple #[],.v<|.tuple #[],.v<|.tuple #[],.junk],0,.Cr aa2 aa7 aa5 s.st,X⟩],λv b=>⟨AL v 1,AL v 2,AG Af b 0 0,AG .str b 0 1,AG An b 0 2,AG Ag b 0 3,AG Am b 0 4,Ak b 1 0,Ak b 1 1,Ak b 1 2,Lc b 2 0,Ak b 3 0,AG (.pair A7 Aj) b 4 0,AG Af b 5 0,AG .str b 5 1,AG An b 5 2,AG Ag b 5 3,AG Am b 5 4,.ready⟩,aAJ,λs r=> {r with t7:=s.t7,Bi:=s.Bi,Gk:=s.Gk,Gi:=s.Gi,Gm:=s.Gm,Gq:=s.Gq,b4:=s.b4,Nf:=s.Nf,Ni:=s.Ni,Nd:=s.Nd,Nh:=s.Nh,Nt:=s.Nt},λs=> {s with st:=.ready},λx s=> {s with st:=(match x with| .ret=>(.done<|.ret) | .exit 0=> .ready|_=> .ready)},[.ret,.exit 0],ka,YB,uI⟩
abbrev cd:=US.run
abbrev dj:=US.Au
def ayT:Rq YB aAJ:=by
 intro s hI;refine ⟨λc1=>⟨?_,λ_=>trivial,λ_=>trivial⟩,λ_=>trivial⟩
 ·exact ⟨aT2 s hI A8,rfl,rfl⟩
def aSL:US.Ok:={}
def aQp:US.Pf (abd):=⟨anQ,λs h=>by
 obtain ⟨t7,t8,Bi,Gk,Gi,Gm,Gq,Iz,J6,JD,b2,b3,b4,Nf,Ni,Nd,Nh,Nt,st⟩:=s
 have e:=h.1
 subst e;rfl,ai5,ayT⟩
def arn:SA 7 aGp US:=AS.snd aSL aQp (Gl (Γ:=XS) (K:=vX) (L:=(MM (λi=>if i=4 then Rx.lp else Al i))) (gk XS) vX.h aGp (λb hb=>by
 rw [show BE _=[aGo] by kernel_rfl] at hb
 simp only [BB,Bx,By] at hb;subst hb;exact arl)) λs=>AU
def aub:Rs ka dj cd (λs:Kj=>((au<|M s.Bi).drop s.t8.toNat).all λo=>ckO (Cs<|Ae s.Bi o)<|Df s.b4 o) (λx s' (v:aVH)=>(x=.ret/\v=X/\s'.b2=U/\s'.b3=0)\/(x=.exit 0/\v=U)):=DZ aSL aQp (λs hI=>by
  have hin:=λc1=>aT2 s hI c1
  obtain ⟨ht,⟨h0,h1⟩,h2,h3,h4⟩:=hI;refine AH (λc1=>?_) λc1=>?_
  ·have c1:s.t8<s.t7:=AY
   have q:=aua _<|hin c1
   have e:((au<|M s.Bi).drop s.t8.toNat).all (λo=>ckO (Cs<|Ae s.Bi o)<|Df s.b4 o)=(MN (Cs<|Ae s.Bi s.t8) (gLi s.b4 s.t8) 0&&((au<|M s.Bi).drop (s.t8+1).toNat).all (λo=>ckO (Cs<|Ae s.Bi o)<|Df s.b4 o)):=by
    rw [Sq DJ,It,mI,show (s.t8+1).toNat=s.t8.toNat+1 by omega,CO h0,anO]
    rfl
   refine AH (λc2=>?_) λc2=>?_
   ·rcases q with ⟨q1,q2,q3,q4⟩ |⟨q1,q2⟩
    ·refine .inl ⟨rfl,?_,q3,q4⟩
     rw [e]
     have q2:MN (Cs<|Ae s.Bi s.t8) (gLi s.b4 s.t8) 0=false:=q2
     grind
    ·rw [show fa (J3 s)=_ from q1] at c2
     cases c2
   ·rcases q with ⟨q1,q2,q3,q4⟩ |⟨q1,q2⟩
    ·rw [show fa (J3 s)=_ from q1] at c2
     cases c2
    ·show List.all _ _=List.all _ _
     rw [e]
     have q2:MN (Cs<|Ae s.Bi s.t8) (gLi s.b4 s.t8) 0=true:=q2
     rw [q2,EU,AJ (x:=s.t8+1)]
  ·have c1:s.t7<=s.t8:=AY
   refine .inr ⟨rfl,?_⟩;rw [Ew DJ];rfl)
def vk1 (cs:aVF) (os:aVz) (ks:aVK) (gs:aVA) (bs:aVL) (am:aVw):Y:=if (an (M am=M gs)&&Bs (dj ⟨(M cs:Y),0,cs,os,ks,gs,bs,0,0,0,X,0,GR cs gs am,cs,os,ks,gs,bs,.ready⟩) (.ret))=U then (cd ⟨(M cs:Y),0,cs,os,ks,gs,bs,0,0,0,X,0,GR cs gs am,cs,os,ks,gs,bs,.ready⟩).Iz else 0
def vk2 (cs:aVF) (os:aVz) (ks:aVK) (gs:aVA) (bs:aVL) (am:aVw):Y:=if (an (M am=M gs)&&Bs (dj ⟨(M cs:Y),0,cs,os,ks,gs,bs,0,0,0,X,0,GR cs gs am,cs,os,ks,gs,bs,.ready⟩) (.ret))=U then (cd ⟨(M cs:Y),0,cs,os,ks,gs,bs,0,0,0,X,0,GR cs gs am,cs,os,ks,gs,bs,.ready⟩).J6 else 0
def vk3 (cs:aVF) (os:aVz) (ks:aVK) (gs:aVA) (bs:aVL) (am:aVw):Y:=if (an (M am=M gs)&&Bs (dj ⟨(M cs:Y),0,cs,os,ks,gs,bs,0,0,0,X,0,GR cs gs am,cs,os,ks,gs,bs,.ready⟩) (.ret))=U then (cd ⟨(M cs:Y),0,cs,os,ks,gs,bs,0,0,0,X,0,GR cs gs am,cs,os,ks,gs,bs,.ready⟩).JD else 0
def aKH:aVy->T LV
 | [.agg [.xl (.pair .str (.pair (.int J) (.pair (.int J) (.pair (.int J) (.pair (.pair (.int J) (.int J)) (.pair (.int J) (.pair (.int J) (.pair (.int J) (.pair (.int J) (.int J)))))))))) cs,.xl (.str) os,.xl (.pair .str (.pair (.int J) (.pair (.int J) (.int J)))) ks,.xl (.pair .str (.pair (.int J) (.pair (.int J) (.pair (.int J) (.pair (.int J) (.pair (.int J) (.pair (.int J) (.int J)))))))) gs,.xl (.pair .str (.int J)) bs],.xl (.int J) am]=> .req (B6 cs os ks gs bs=U/\(M am=M gs->∀k:aVx,k<M am->0<=gi am k/\gi am k<=80)) (.tu #[.agg #[vk1 cs os ks gs bs am,vk2 cs os ks gs bs am,vk3 cs os ks gs bs am],.bool<|an (M am=M gs)&&!DG cs gs am,Hf gs am])
 |_=> .no
def vT:aVI:=[im,XK]
def afz:Ay:=kI vT<|la 1 func38 arn<|l0 vT
def Qx:=vo (S:=aKH) func9 vT afz (λargs lv h=>by
 unfold aKH at h;split at h
 ·rename_i cs os ks gs bs am
  refine At (letI b:=(M cs:Y);letI d:=GR cs gs am;letI a:=(cd (⟨b,0,cs,os,ks,gs,bs,0,0,0,X,0,d,cs,os,ks,gs,bs,.ready⟩:Kj));.req (B6 cs os ks gs bs=U/\(M am=M gs->∀k:aVx,k<M am->0<=gi am k/\gi am k<=80))<|.br ((Hf gs am) !=0) (.tu #[.agg #[(0:Y),(0:Y),(0:Y)],X,(1:Y)])<|.req (US.q (⟨b,0,cs,os,ks,gs,bs,0,0,0,X,0,d,cs,os,ks,gs,bs,.ready⟩:Kj))<|.br (Bs (dj (⟨b,0,cs,os,ks,gs,bs,0,0,0,X,0,d,cs,os,ks,gs,bs,.ready⟩:Kj))<|.ret) (.tu #[.agg #[a.Iz,a.J6,a.JD],a.b2,a.b3])<|.tu #[.agg #[(0:Y),(0:Y),(0:Y)],X,(0:Y)]) ?_;obtain ⟨hq,rfl⟩:=h
  have hv:=hq.1
  have hb:=(DC.1 hv).1
  refine ⟨hq,λc=>?_,λc=>?_⟩
  ·have hl:¬(M am)=M gs:=λh=>by unfold Hf at c;rw [AD h] at c;cases c
   unfold vk1 vk2 vk3 Hf;simp only [AE hl,IM hl,QR,IN,FP];rfl
  have hl:M am=M gs:=by
   unfold Hf at c;split at c
   ·assumption
   ·cases c
  have hX:GR cs gs am=Hc cs gs am (M gs):=AD hl
  have hY:Hf gs am=0:=AD hl
  rw [hY,CY hl,EU]
  have hE:ka ⟨(M cs:Y),0,cs,os,ks,gs,bs,0,0,0,X,0,(GR cs gs am),cs,os,ks,gs,bs,.ready⟩:=⟨rfl,rfl,rfl,aOY,by show M (GR cs gs am)=M cs;rw [hX];exact fJ (dP hv) (dQ hv) _<|Aq _⟩
  refine ⟨⟨hE,rfl,rfl⟩,?_⟩
  have e:DG cs gs am=((au<|M cs).drop (0:Y).toNat).all (λo=>ckO (Cs<|Ae cs o)<|Df (GR cs gs am) o):=by rw [hX];rfl
  rcases aub _ hE with ⟨q1,q2,q3,q4⟩ |⟨q1,q2⟩
  ·have q2:DG cs gs am=false:=e.trans q2
   unfold vk1 vk2 vk3;simp only [CY hl,EU];rw [q1,q3,q4,q2];exact ⟨λ_=>rfl,λh=>Ar⟩
  ·have q2:DG cs gs am=true:=e.trans q2
   unfold vk1 vk2 vk3;simp only [CY hl,EU];rw [q1,q2];exact ⟨λh=>Ar,λ_=>rfl⟩
 ·cases h)
def qF {cs:aVF}{os:aVz}{ks:aVK}{gs:aVA}{bs:aVL}(hs:B6 cs os ks gs bs=U) {k:aVx}(hk:k<M (Bt gs)):0<=gi (Bt gs) k/\gi (Bt gs) k<=80:=by
 have hl:M (Bt gs)=M gs:=IT
 rw [show gi (Bt gs) (k:Y)=CV (AF gs k) from P4 A0 A0]
 have:=Nk hs (c:=(k:Y)) A0 A0
 unfold G4 at this;simp only [AX] at this
 have:=fh this.2.2
 omega
structure PU where
 m:aVA
 (k i:Y)
 out:aVw
def aGK:=bN f45 0
def zu (s:PU):T (Rd PU):=letI a:=s.out.set s.i.toNat (AF s.m s.i).2.2.2.2.2.2.1;.br (an<|s.i<s.k) (.ix s.i (M s.m)<|.ik s.i (M s.out)<|.re (M s.out) a<|.nx {s with i:=AA<|s.i+1,out:=a})<|.rl s.out<|.so (.exit 0) s
def jd (s:PU):Prop:=s.i=0/\s.k=(M s.m:Y)/\s.k<=1000/\M s.out=M s.m/\(∀j,0<=j->j<s.k->gi s.out j=0)/\True
def Z5 (s:PU):Prop:=(0<=s.i/\s.i<=s.k)/\s.k=(M s.m:Y)/\s.k<=1000/\M s.out=M s.m/\(∀j,0<=j->j<s.k->gi s.out j=if j<s.i then CV (AF s.m j) else 0)/\True
def vG (s:PU):aVx:=(s.k-s.i).toNat
def aBx (x:Ex) (s s':PU):Prop:=x=.exit 0/\s'.out=HP (M s'.m) (λj=>CV<|AF s'.m j)
def akB:∀s,jd s->Z5 s:=by
 exact T7
def azb:Da Z5 vG aBx zu:=by
 intro s hI;obtain ⟨⟨h0,h1⟩,h2,h3,h4,h5,h6⟩:=hI;refine AH (λc1=>?_) λc1=>?_
 ·have c1:s.i<s.k:=AY
  rw [AJ (x:=s.i+1)];refine ⟨⟨⟨A8,A8⟩,h2,h3,A8,λj j0 j1=>?_,h6⟩,by simp only [vG];omega⟩
  simp only;rw [JE h0 bJ j0];exact mS
 ·exact aN
def S8:AS PU:=⟨0,25,[3,11,12,13],[],λs=>[.os 0 1 0<|M s.out,s.m,s.k,s.i],λs=>[bV 3 A7 s.out],λv b=>⟨B9 Ag v 1,AL v 2,AL v 3,Ad A7 b 0⟩,zu,λs r=> {r with m:=s.m,k:=s.k},λs=>s,λ_ s=>s,[.exit 0],jd,Z5,vG⟩
abbrev aDu:=S8.run
abbrev au7:=S8.Au
def axC:Rq Z5 zu:=by
 exact y9
def aSY:aVI:=[]
def aRS:S8.Ok:={}
def aQt:S8.Pf (aBx):=⟨akB,λs h=>rfl,azb,axC⟩
def aqR:SA 0 aGK S8:=s1 aRS aQt aSY kN
def arU:Fi jd Z5 aBx au7 aDu:=AS.fin aRS aQt
def aK3:aVy->T LV
 | .agg a::r=>s5 a λcs os ks gs bs=>(match r with
  | []=> .req ((M gs:Y)<=1000) (.ok<|.xl A7<|Bt gs)
  |_=> .no)
 |_=> .no
def fy:=vm (S:=aK3) func45 aSY kN (L:=(λi=>if i=3 then S8.lp else Al i)) (λb hb=>by
 rw [show BE _=[aGK] by kernel_rfl] at hb
 simp only [BB,Bx,By] at hb;subst hb;exact aqR) (λargs lv h=>by
 unfold aK3 at h;split at h
 case h_2=>cases h
 replace h:=IX h
 obtain ⟨cs,os,ks,gs,bs,rfl,h⟩:=h;split at h
 ·refine At (letI c:=(M gs:Y);letI a:=(aq c.toNat (0:Y));letI b:=(aDu (⟨gs,c,0,a⟩:PU));.rm 8 c<|.re c.toNat a<|.req (S8.q (⟨gs,c,0,a⟩:PU))<|.rz b.out<|.ok<|.xl A7<|(b.out.drop 0).take<|M b.out) ?_
  obtain ⟨hn,rfl⟩:=h
  have hE:jd ⟨gs,(M gs:Y),0,aq (M gs:Y).toNat 0⟩:=⟨rfl,rfl,hn,AI,λj _ _=>Kd,ak⟩
  obtain ⟨_,_,q1,q2⟩:=arU _ hE
  have q2:(aDu ⟨gs,(M gs:Y),0,aq (M gs:Y).toNat 0⟩).out=Bt gs:=q2
  refine ⟨A0,⟨rfl,AI⟩,⟨hE,rfl,rfl⟩,A0,?_⟩
  show LV.xl _ _=_
  rw [CX,Eg,q2]
 ·cases h)
def aK1:aVy->T LV
 | .agg a::r=>s5 a λcs os ks gs bs=>(match r with
  | []=> .req (B6 cs os ks gs bs=U) (.ok<|.v<|.bool<|!DG cs gs (Bt gs))
  |_=> .no)
 |_=> .no
def ahg:aVI:=[Qx,fy]
def fw:=vo (S:=aK1) func23 ahg kN (λargs lv h=>by
 unfold aK1 at h;split at h
 case h_2=>cases h
 replace h:=IX h
 obtain ⟨cs,os,ks,gs,bs,rfl,h⟩:=h;split at h
 ·refine At (.req ((M gs:Y)<=1000)<|.req (B6 cs os ks gs bs=U/\(M (Bt gs)=M gs->∀k:aVx,k<M (Bt gs)->0<=gi (Bt gs) k/\gi (Bt gs) k<=80))<|.ok<|.v<|.bool<|((Hf gs<|Bt gs)==0)&&(an (M (Bt gs)=M gs)&&!DG cs gs (Bt gs))) ?_
  obtain ⟨hs,rfl⟩:=h
  have hg:=(DC.1 hs).1
  have hl:M (Bt gs)=M gs:=IT
  have hY:Hf gs (Bt gs)=0:=AD hl
  refine ⟨A0,⟨hs,λ_ k hk=>qF hs hk⟩,?_⟩
  rw [hY,CY hl];rfl
 ·cases h)
def aL1:aVy->T LV
 | [.v (.agg ⟨[.string nm,ag J at_,ag J ph,ag J mn,ag J mx,ag J st,ag J fb,ag J ow]⟩),.v (.agg ⟨[ag J sp,ag J sa,ag J sl,.bool sw]⟩)]=> .ok (sV (nm,at_,ph,mn,mx,st,fb,ow) (sp,sa,sl,sw))
 |_=> .no
def am7:aVI:=[Wd,dD,aUx]
def aPh:=vo (S:=aL1) func117 am7 kN (λargs lv h=>by
 unfold aL1 at h;split at h
 ·rename_i nm at_ ph mn mx st fb ow sp sa sl sw
  refine At (.br (!(Iq ph mn mx st fb)) (.ok X)<|.br ((sp==0)&&((sa==0)&&((sl==0)&&(sw==X)))) (.ok U)<|.ok<|.v<|.bool<|(inB sp (0:Y) (5:Y))&&((inB sl (0:Y) (1000000:Y))&&((inB sa (0:Y) mx)&&(if sl !=0 then (!sw) ||(sp==5) else (sa==0)&&((!sw) ||(sp==5)))))) ?_
  obtain rfl:=h;refine ⟨λh1=>?_,λh1=>⟨λh2=>?_,λh2=>?_⟩⟩
  all_goals refine B2 (λz=>LV.v<|.bool z) ?_
  ·simp at h1;simp [sV,h1]
  ·simp at h1 h2
   obtain ⟨rfl,rfl,rfl,rfl⟩:=h2
   have:=To.1 h1
   rw [T4,Kf]
   simp [h1];omega
  ·simp at h1
   unfold sV;simp only;rw [h1]
   by_cases hl:sl=0
   ·simp [hl]
   ·have:(sl !=0)=true:=nM
    simp [this]
 ·cases h)
def aTl:aVy->T LV
 | [.v (.agg ⟨[.string nm,ag J at_,ag J ph,ag J mn,ag J mx,ag J st,ag J fb,ag J ow]⟩),.v (.agg ⟨[ag J ek,ag J en,ag J em]⟩)]=> .req (ek≠0) (.ok<|evV mx ek en em)
 |_=> .no
def am6:aVI:=[dD]
def ajl:=vo (S:=aTl) func131 am6 kN (λargs lv h=>by
 unfold aTl at h;split at h
 ·rename_i nm at_ ph mn mx st fb ow ek en em
  refine At (.br (ek==4) (.ok<|inB en (0:Y) (1:Y))<|.br (ek==6) (.ok<|inB en (0:Y) (2:Y))<|.br (ek==7) (.br (!(inB em (1:Y) (1000000:Y))) (.ok X)<|.ok<|inB en (0:Y) mx)<|.br (ek==0) (.ok<|inB en (0:Y) mx)<|.ok U) ?_;obtain ⟨h0,rfl⟩:=h;refine ⟨λh1=>?_,λh1=>⟨λh2=>?_,λh2=>⟨λh3=>⟨λh4=>?_,λh4=>?_⟩,λh3=>⟨λh4=>?_,λh4=>?_⟩⟩⟩⟩
  all_goals refine B2 (λz=>LV.v<|.bool z) ?_
  all_goals simp_all [evV]
 ·cases h)
def aKu:aVy->T LV
 | [.v (.agg ⟨[ag J sp,ag J sa,ag J sl,.bool sw]⟩),.v (.agg ⟨[ag J ek,ag J en,ag J em]⟩)]=> .ok (.v<|.agg #[dcP sp sw ek en,sa,sl,dcW sw ek en])
 |_=> .no
def am5:aVI:=[]
def avY:=vo (S:=aKu) func132 am5 kN (λargs lv h=>by
 unfold aKu at h;split at h
 ·rename_i sp sa sl sw ek en em
  refine At (.br (ek==4) (.br (en==1) (.ok<|.v<|.agg #[(3:Y),sa,sl,sw])<|.ok<|.v<|.agg #[(5:Y),sa,sl,sw])<|.br (ek==6) (.br (en==0) (.ok<|.v<|.agg #[(1:Y),sa,sl,.bool<|en==1])<|.ok<|.v<|.agg #[(5:Y),sa,sl,.bool<|en==1])<|.br (ek==2) (.br (!sw) (.ok<|.v<|.agg #[(0:Y),sa,sl,sw])<|.ok<|.v<|.agg #[sp,sa,sl,sw])<|.br (ek==9) (.br (!sw) (.ok<|.v<|.agg #[(1:Y),sa,sl,sw])<|.ok<|.v<|.agg #[sp,sa,sl,sw])<|.ok<|.v<|.agg #[sp,sa,sl,sw]) ?_;obtain rfl:=h
  have fin:∀(p:Y) (q:aVH),p=dcP sp sw ek en->q=dcW sw ek en->LV.v (.agg #[ag J p,ag J sa,ag J sl,.bool q])=LV.v (.agg #[ag J<|dcP sp sw ek en,ag J sa,ag J sl,.bool<|dcW sw ek en]):=λp q h1 h2=>A8
  refine ⟨λh1=>⟨λh2=>?_,λh2=>?_⟩,λh1=>⟨λh2=>⟨λh3=>?_,λh3=>?_⟩,λh2=>⟨λh3=>⟨λh4=>?_,λh4=>?_⟩,λh3=>⟨λh4=>⟨λh5=>?_,λh5=>?_⟩,λh4=>?_⟩⟩⟩⟩
  all_goals refine fin _ _ ?_ ?_
  all_goals simp_all [dcP,dcW]
 ·cases h)
def aUX:aVy->T LV
 | [.v (.agg ⟨[.string nm,ag J at_,ag J ph,ag J mn,ag J mx,ag J st,ag J fb,ag J ow]⟩),.v (.agg ⟨[ag J sp,ag J sa,ag J sl,.bool sw]⟩),.v (.agg ⟨[ag J ek,ag J en,ag J em]⟩)]=> .tu #[.agg #[(sN (nm,at_,ph,mn,mx,st,fb,ow) (sp,sa,sl,sw) ek en em).1,(sN (nm,at_,ph,mn,mx,st,fb,ow) (sp,sa,sl,sw) ek en em).2.1,(sN (nm,at_,ph,mn,mx,st,fb,ow) (sp,sa,sl,sw) ek en em).2.2.1,(sN (nm,at_,ph,mn,mx,st,fb,ow) (sp,sa,sl,sw) ek en em).2.2.2],sE (nm,at_,ph,mn,mx,st,fb,ow) (sp,sa,sl,sw) ek en em]
 |_=> .no
def aBJ:aVI:=[aPh,dD,ajl,avY]
def akw:Ay:=kI aBJ<|l0 aBJ
def RS:=vo (S:=aUX) func97 aBJ akw (λargs lv h=>by
 unfold aUX at h;split at h
 ·rename_i nm at_ ph mn mx st fb ow sp sa sl sw ek en em
  refine At (letI a:=XI<|ek.toNat*6+(sp.toNat*1+0);letI c:=AA<|sl-1;letI d:=dcP sp sw ek en;letI f:=dcW sw ek en;.br (!(sV (nm,at_,ph,mn,mx,st,fb,ow) (sp,sa,sl,sw))) (.tu #[.agg #[(0:Y),(0:Y),(0:Y),X],(1:Y)])<|.br (!(inB ek (1:Y) (9:Y))) (.tu #[.agg #[(0:Y),(0:Y),(0:Y),X],(9:Y)])<|.req (ek≠0)<|.br (!(evV mx ek en em)) (.tu #[.agg #[(0:Y),(0:Y),(0:Y),X],(1:Y)])<|.req (0<=ek/\ek<(10:Y))<|.req (0<=sp/\sp<(6:Y))<|.br (a==(-1)) (.tu #[.agg #[(0:Y),(0:Y),(0:Y),X],(6:Y)])<|.br (a==(-2)) (.br (ek==7) (.tu #[.agg #[sp,en,em,sw],(0:Y)])<|.br (ek==8) (.br ((if (0:Y)<c then AA (sl-1) else 0)==0) (.tu #[.agg #[sp,(0:Y),ag J (if (0:Y)<c then AA (sl-1) else 0),sw],(0:Y)])<|.tu #[.agg #[sp,sa,ag J (if (0:Y)<c then AA (sl-1) else 0),sw],(0:Y)])<|.br (ek==9) (.tu #[.agg #[sp,(0:Y),(0:Y),sw],(0:Y)])<|.tu #[.agg #[sp,sa,sl,sw],(0:Y)])<|.br (a==(-3)) (.br (ek==7) (.tu #[.agg #[d,en,em,f],(0:Y)])<|.br (ek==8) (.br ((if (0:Y)<c then AA (sl-1) else 0)==0) (.tu #[.agg #[d,(0:Y),ag J (if (0:Y)<c then AA (sl-1) else 0),f],(0:Y)])<|.tu #[.agg #[d,sa,ag J (if (0:Y)<c then AA (sl-1) else 0),f],(0:Y)])<|.br (ek==9) (.tu #[.agg #[d,(0:Y),(0:Y),f],(0:Y)])<|.tu #[.agg #[d,sa,sl,f],(0:Y)])<|.br (ek==7) (.tu #[.agg #[a,en,em,sw],(0:Y)])<|.br (ek==8) (.br ((if (0:Y)<c then AA (sl-1) else 0)==0) (.tu #[.agg #[a,(0:Y),ag J (if (0:Y)<c then AA (sl-1) else 0),sw],(0:Y)])<|.tu #[.agg #[a,sa,ag J (if (0:Y)<c then AA (sl-1) else 0),sw],(0:Y)])<|.br (ek==9) (.tu #[.agg #[a,(0:Y),(0:Y),sw],(0:Y)])<|.tu #[.agg #[a,sa,sl,sw],(0:Y)]) ?_
  obtain rfl:=h
  have bad:∀e,e≠0->(sE (nm,at_,ph,mn,mx,st,fb,ow) (sp,sa,sl,sw) ek en em)=e->LV.v (.tuple #[.agg #[ag J 0,ag J 0,ag J 0,.bool X],ag J e])=LV.v (.tuple #[.agg #[ag J (sN (nm,at_,ph,mn,mx,st,fb,ow) (sp,sa,sl,sw) ek en em).1,ag J (sN (nm,at_,ph,mn,mx,st,fb,ow) (sp,sa,sl,sw) ek en em).2.1,ag J (sN (nm,at_,ph,mn,mx,st,fb,ow) (sp,sa,sl,sw) ek en em).2.2.1,.bool (sN (nm,at_,ph,mn,mx,st,fb,ow) (sp,sa,sl,sw) ek en em).2.2.2],ag J<|sE (nm,at_,ph,mn,mx,st,fb,ow) (sp,sa,sl,sw) ek en em]):=λe h0 h1=>by
   unfold sN;rw [h1];simp only [AE h0]
  have good:∀(p q r:Y) (b:aVH),(sE (nm,at_,ph,mn,mx,st,fb,ow) (sp,sa,sl,sw) ek en em)=0->p=IG sp sw ek en->q=sA sa sl ek en->r=sL sl ek em->b=sW sw ek en->LV.v (.tuple #[.agg #[ag J p,ag J q,ag J r,.bool b],ag J 0])=LV.v (.tuple #[.agg #[ag J (sN (nm,at_,ph,mn,mx,st,fb,ow) (sp,sa,sl,sw) ek en em).1,ag J (sN (nm,at_,ph,mn,mx,st,fb,ow) (sp,sa,sl,sw) ek en em).2.1,ag J (sN (nm,at_,ph,mn,mx,st,fb,ow) (sp,sa,sl,sw) ek en em).2.2.1,.bool (sN (nm,at_,ph,mn,mx,st,fb,ow) (sp,sa,sl,sw) ek en em).2.2.2],ag J<|sE (nm,at_,ph,mn,mx,st,fb,ow) (sp,sa,sl,sw) ek en em]):=λp q r b h0 h1 h2 h3 h4=>by
   unfold sN;rw [h0,h1,h2,h3,h4];simp only [Bp]
  refine ⟨λh1=>bad 1 Aa (by simp at h1;simp [sE,h1]),λh1=>⟨λh2=>bad 9 Aa (by simp at h1 h2;simp [sE,h1,h2]),λh2=>?_⟩⟩
  simp only [IP] at h1 h2
  have h2':=BS.1 h2
  refine ⟨A0,λh3=>bad 1 Aa (by simp at h3;simp [sE,h1,h2,h3]),λh3=>?_⟩
  simp only [IP] at h3;obtain ⟨g1,g2,g3,g4,g5,g6,g7,g8,g9⟩:=Kf.1 h1;simp only at g2 g3 g4 g5 g6 g7 g8 g9
  have hw:AA (sl-1)=sl-1:=AJ
  have hn:(sE (nm,at_,ph,mn,mx,st,fb,ow) (sp,sa,sl,sw) ek en em)=if IG sp sw ek en<0 then 6 else 0:=by simp [sE,h1,h2,h3]
  have htk:(if (0:Y)<sl-1 then sl-1 else 0)=tkF sl:=rfl
  rw [hw,htk];refine ⟨A0,A0,?_⟩
  have hz:sw=X\/(sw=U/\sp=5):=by cases sw<;>simp_all
  rw [aj0 A0 A0 A0 A0]
  clear h1 h2 h3 bad good g1 g4 g5 g6 g7 g9 hw htk
  rcases hz with rfl|⟨rfl,rfl⟩
  ·rcases nine h2'.1 h2'.2 with rfl|rfl|rfl|rfl|rfl|rfl|rfl|rfl|rfl<;>rcases ano g2 g3 with rfl|rfl|rfl|rfl|rfl|rfl
   all_goals simp [T.all,oh,sN,hn,IG,sA,sL,sW,dcP,dcW]
   all_goals (try omega)
   all_goals (by_cases h4:en=1<;>by_cases h5:en=0<;>simp_all)
  ·rcases nine h2'.1 h2'.2 with rfl|rfl|rfl|rfl|rfl|rfl|rfl|rfl|rfl
   all_goals simp [T.all,oh,sN,hn,IG,sA,sL,sW,dcP,dcW]
   all_goals (try omega)
 ·cases h)
def aUf:aVy->T LV
 | [.v (.agg ⟨[.string nm,ag J at_,ag J ph,ag J mn,ag J mx,ag J st,ag J fb,ag J ow]⟩),.v (.agg ⟨[ag J sp,ag J sa,ag J sl,.bool sw]⟩)]=> .ok (Be (nm,at_,ph,mn,mx,st,fb,ow) (sp,sa,sl,sw))
 |_=> .no
def amy:aVI:=[aPh]
def Xf:=vo (S:=aUf) func91 amy kN (λargs lv h=>by
 unfold aUf at h;split at h
 ·rename_i nm at_ ph mn mx st fb ow sp sa sl sw
  refine At (.br (!(sV (nm,at_,ph,mn,mx,st,fb,ow) (sp,sa,sl,sw))) (.ok (0:Y))<|.br sw (.ok mx)<|.br (sp !=4) (.ok (0:Y))<|.br (sl !=0) (.ok sa)<|.ok fb) ?_;obtain rfl:=h;refine ⟨λh1=>?_,λh1=>⟨λh2=>?_,λh2=>⟨λh3=>?_,λh3=>⟨λh4=>?_,λh4=>?_⟩⟩⟩⟩
  all_goals refine B2 (λz=>LV.v<|ag J z) ?_
  all_goals simp_all [Be]
 ·cases h)
structure MG where
 most:Y
 r:aVH
 l:aVw
 (n i:Y)
def aIm:=bN f123 0
def nf (s:MG):T (Rd MG):=
 .br (an<|s.i<s.n) (.ix s.i (M s.l)<|.br ((an<|(gi s.l s.i)<0) ||(an<|(gi s.l s.i)>s.most)) (.so (.ret) {s with r:=X})<|.nx {s with i:=AA<|s.i+1}) (.so (.exit 0) s)
def VB (s:MG) (j:Y):aVH:=inB (gi s.l j) 0 s.most
def oS (s:MG):Prop:=s.i=0/\0<=s.n/\s.n<=1000/\s.n=(M s.l:Y)
def bz (s:MG):Prop:=0<=s.i/\s.i<=s.n/\s.n<=1000/\(s.n=(M s.l:Y))/\∀j:aVx,(j:Y)<s.i->VB s j=U
def aB5 (s:MG):aVx:=(s.n-s.i).toNat
def xE (x:Ex) (s s':MG):Prop:=(x=.exit 0/\∀j:aVx,(j:Y)<s'.n->VB s' j=U)\/(x=.ret/\s'.r=X/\∃j:aVx,(j:Y)<s'.n/\VB s' j=X)
def anm:∀s,oS s->bz s:=by
 exact KK
def ajN:Da bz aB5 xE nf:=by
 intro s hI;unfold nf;obtain ⟨h0,h1,h2,h3,h4⟩:=hI;refine AH (λc1=>AH (λc2=>?_) λc2=>?_) λc1=>?_
 ·have c1:s.i<s.n:=AY
  refine .inr ⟨rfl,rfl,s.i.toNat,A8,?_⟩
  have hg:VB s s.i=false:=aOF
  exact hg
 ·have c1:s.i<s.n:=AY
  have hg:VB s s.i=true:=aOF
  rw [AJ (x:=s.i+1)];refine ⟨⟨A8,A8,h2,h3,λj hj=>?_⟩,by simp only [aB5];omega⟩
  exact Lj
 ·exact T6
def Se:AS MG:=⟨0,21,[0,4,7,8,9],[],λs=>[s.most,s.r,.xl A7 s.l,s.n,s.i],λ_=>[],λv b=>⟨AL v 0,EP v 1,B9 A7 v 2,AL v 3,AL v 4⟩,nf,λs r=> {s with r:=r.r,i:=r.i},λs=>s,λ_ s=>s,[.ret,.exit 0],oS,bz,aB5⟩
abbrev aPn:=Se.run
abbrev aTP:=Se.Au
def akj:Rq bz nf:=by
 exact T3
def aTM:aVI:=[]
def aVs:Se.Ok:={}
def aaD:Se.Pf (xE):=⟨anm,λs h=>rfl,ajN,akj⟩
def axe:SA 0 aIm Se:=s1 aVs aaD aTM kN
def awt:Fi oS bz xE aTP aPn:=AS.fin aVs aaD
def aTo:aVy->T LV
 | [.v (ag J most),.xl (.int J) ns]=> .req (M ns<=1000) (.ok<|ns.all λp=>inB p 0 most)
 |_=> .no
def aUy:=vm (S:=aTo) func123 aTM kN (L:=(λi=>if i=2 then Se.lp else Al i)) (λb hb=>by
 rw [show BE _=[aIm] by kernel_rfl] at hb
 simp only [BB,Bx,By] at hb;subst hb;exact axe) (λargs lv h=>by
 unfold aTo at h;split at h
 ·rename_i most ns
  refine At (letI a:=(M ns:Y);.req (Se.q (⟨most,X,ns,a,0⟩:MG))<|.br (Bs (aTP (⟨most,X,ns,a,0⟩:MG))<|.ret) (.ok (aPn (⟨most,X,ns,a,0⟩:MG)).r)<|.ok U) ?_;obtain ⟨h0,rfl⟩:=h
  have hE:oS ⟨most,X,ns,(M ns:Y),0⟩:=⟨rfl,Ac,Ac,rfl⟩
  obtain ⟨s',hI,hq⟩:=awt _ hE;rw [aUE];refine ⟨⟨hE,rfl,rfl⟩,?_⟩;rcases hq with ⟨q1,q2⟩ |⟨q1,q2,j,q3,q4⟩<;>rw [q1]
  ·rw [show DS (M ns) (λj=>inB (gi ns j) 0 most)=U from Dl.2 q2]
   exact ⟨λh=>Ar,λ_=>rfl⟩
  ·rw [q2,show DS (M ns) (λj=>inB (gi ns j) 0 most)=X from PA j q3 q4]
   exact ⟨λ_=>rfl,λh=>Ar⟩
 ·cases h)
def aTX:aVy->T LV
 | [.v (.agg ⟨[ag J sr,ag J rg,.bool bk]⟩)]=> .ok (meV (sr,rg,bk))
 |_=> .no
def ah8:aVI:=[aUy]
def ajw:=vo (S:=aTX) func122 ah8 kN (λargs lv h=>by
 unfold aTX at h;split at h
 ·rename_i sr rg bk
  refine At (.req (M ([sr])<=1000)<|.br (([sr]).all λp=>inB p 0 (1000000:Y)) (.br (an<|rg>=(-1000000000000000)) (.ok<|an<|rg<=1000000000000000)<|.ok X)<|.ok X) ?_
  obtain rfl:=h;refine ⟨AI,λc1=>⟨λc2=>?_,λc2=>?_⟩,λc1=>?_⟩
  all_goals refine B2 (λz=>LV.v<|.bool z) ?_
  all_goals simp only [It,List.all_nil,mC] at c1
  all_goals first|(simp_all [meV];done) |(simp_all [meV];omega)
 ·cases h)
def aTY:aVy->T LV
 | [.v (.agg ⟨[ag J sr,ag J rg,.bool bk]⟩),.v (ag J a),.v (ag J p)]=> .tu #[.agg #[(Hd (sr,rg,bk) a p).1,(Hd (sr,rg,bk) a p).2.1,(Hd (sr,rg,bk) a p).2.2],G6 (sr,rg,bk) a p]
 |_=> .no
def wG:aVI:=[ajw,aUy]
def ahS:Ay:=kI wG<|l0 wG
def Xi:=vo (S:=aTY) func93 wG ahS (λargs lv h=>by
 unfold aTY at h;split at h
 ·rename_i sr rg bk a p
  refine At (letI b:=AA<|2300*a;.br (!(meV (sr,rg,bk))) (.tu #[.agg #[(0:Y),(0:Y),X],(1:Y)])<|.req (M ([a])<=1000)<|.br (!(([a]).all λp=>inB p 0 (80:Y))) (.tu #[.agg #[(0:Y),(0:Y),X],(1:Y)])<|.req (M ([p])<=1000)<|.br (!(([p]).all λp=>inB p 0 (3:Y))) (.tu #[.agg #[(0:Y),(0:Y),X],(1:Y)])<|.br bk (.br (!(meV (sr,(AA<|rg-(AA<|b*p)),bk))) (.tu #[.agg #[(0:Y),(0:Y),X],(3:Y)])<|.tu #[.agg #[sr,(AA<|rg-(AA<|b*p)),bk],(0:Y)])<|.br (!(meV (sr,(AA<|rg+(AA<|b*p)),bk))) (.tu #[.agg #[(0:Y),(0:Y),X],(3:Y)])<|.tu #[.agg #[sr,(AA<|rg+(AA<|b*p)),bk],(0:Y)]) ?_
  obtain rfl:=h
  have fin:∀(x1 x2:Y) (x3:aVH) (e:Y),(x1,x2,x3)=Hd (sr,rg,bk) a p->e=G6 (sr,rg,bk) a p->LV.v (.tuple #[.agg #[ag J x1,ag J x2,.bool x3],ag J e])=LV.v (.tuple #[.agg #[ag J (Hd (sr,rg,bk) a p).1,ag J (Hd (sr,rg,bk) a p).2.1,.bool (Hd (sr,rg,bk) a p).2.2],ag J<|G6 (sr,rg,bk) a p]):=by
   intro x1 x2 x3 e h1 h2;rw [h2,<-h1]
  have hw:meV (sr,rg,bk)=U->inB a 0 80=U->inB p 0 3=U->AA (rg-AA (AA (2300*a)*p))=rg-2300*a*p/\AA (rg+AA (AA (2300*a)*p))=rg+2300*a*p:=by
   intro h1 h2 h3
   simp [meV,inB] at h1 h2 h3
   have hm:0<=2300*a*p/\2300*a*p<=552000:=⟨Iv A0 A0,Fm (Int.mul_le_mul (by omega:2300*a<=184000) (by omega:p<=3) A0 A0) A0⟩
   rw [AJ (x:=2300*a),AJ (x:=2300*a*p)];exact ⟨AJ,AJ⟩
  simp only [It,List.all_nil,mC];refine ⟨λc1=>?_,λc1=>⟨AI,λc2=>?_,λc2=>⟨AI,λc3=>?_,λc3=>?_⟩⟩⟩
  ·refine fin _ _ _ _ ?_ ?_<;>simp at c1<;>simp [Hd,G6,mcB,c1]
  ·refine fin _ _ _ _ ?_ ?_<;>simp at c1 c2<;>simp [Hd,G6,mcB,c1,c2]
  ·refine fin _ _ _ _ ?_ ?_<;>simp at c1 c2 c3<;>simp [Hd,G6,mcB,c1,c2,c3]
  ·simp at c1 c2 c3
   obtain ⟨w1,w2⟩:=hw c1 c2 c3;rw [w1,w2];refine ⟨λc4=>⟨λc5=>?_,λc5=>?_⟩,λc4=>⟨λc5=>?_,λc5=>?_⟩⟩<;>subst c4<;>simp at c5<;>refine fin _ _ _ _ ?_ ?_<;>simp [Hd,G6,mcB,mcR,c1,c2,c3,c5]
 ·cases h)
def aTx:aVy->T LV
 | [.v (ag J n),.v (ag J a),.v (ag J b)]=> .ok (inB n a b)
 |_=> .no
def ah7:aVI:=[]
def UJ:=vo (S:=aTx) func44 ah7 kN (λargs lv h=>by
 unfold aTx at h;split at h
 ·rename_i n a b
  refine At (.ok<|.v<|.bool<|(an<|n>=a)&&(an<|n<=b)) ?_;exact h
 ·cases h)
def aTg:aVy->T LV
 | [.v (ag J n)]=> .ok (inB n (-200) 200)
 |_=> .no
def ah6:aVI:=[UJ]
def iq:=vo (S:=aTg) func22 ah6 kN (λargs lv h=>by
 unfold aTg at h;split at h
 ·rename_i n
  refine At (.ok<|inB n (-200:Y) (200:Y)) ?_;exact h
 ·cases h)
def oX (e:Ty):LV->Option (List e.D)
 | .xl e' l=>match K0 e' e with
  |some ⟨h⟩=>ah (Ks h l)
  |none=>aj
 |_=>aj
def IZ {e:Ty}{x:LV}{l:List e.D}(h:oX e x=ah l):x=.xl e l:=by
 unfold oX at h;split at h
 ·split at h
  ·rename_i h2 _
   subst h2;cases h;rfl
  ·cases h
 ·cases h
def oI:LV->Option Int
 | .v (ag J n)=>ah n
 |_=>aj
def aBG {x:LV}{n:Y}(h:oI x=ah n):x=.v (ag J n):=by
 unfold oI at h;exact yP
def oB:LV->Option Bool
 | .v (.bool n)=>ah n
 |_=>aj
def alQ {x:LV}{n:aVH}(h:oB x=ah n):x=.v (.bool n):=by
 unfold oB at h;exact yP
def NK:LV->Option PK
 | .agg [a0,a1,a2,a3,a4,a5,a6,a7,a8,a9,a10,a11,a12,a13,a14,a15,a16,a17,a18,a19]=>(oX Af a0).bind λcs=>(oX .str a1).bind λos=>(oX An a2).bind λks=>(oX Ag a3).bind λgs=>(oX Am a4).bind λbs=>(oI a5).bind λtk=>(oB a6).bind λup=>(oX AQ a7).bind λls=>(oI a8).bind λse=>(oX (.int aw) a9).bind λfl=>(oX Aj a10).bind λra=>(oI a11).bind λnx=>(oX B7 a12).bind λst=>(oX AQ a13).bind λca=>(oX BA a14).bind λmi=>(oX BT a15).bind λme=>(oX Ap a16).bind λdm=>(oX BP a17).bind λlk=>(oX A7 a18).bind λdr=>(oX A7 a19).bind λtg=>ah ⟨cs,os,ks,gs,bs,tk,up,ls,se,fl,ra,nx,st,ca,mi,me,dm,lk,dr,tg⟩
 |_=>aj
def Wj {x:LV}{p:PK}(h:NK x=ah p):x=(p):=by
 unfold NK at h;split at h
 ·simp only [Option.bind_eq_some_iff] at h
  obtain ⟨cs,h0,os,h1,ks,h2,gs,h3,bs,h4,tk,h5,up,h6,ls,h7,se,h8,fl,h9,ra,h10,nx,h11,st,h12,ca,h13,mi,h14,me,h15,dm,h16,lk,h17,dr,h18,tg,h19,h⟩:=h;cases h;rw [IZ h0,IZ h1,IZ h2,IZ h3,IZ h4,aBG h5,alQ h6,IZ h7,aBG h8,IZ h9,IZ h10,aBG h11,IZ h12,IZ h13,IZ h14,IZ h15,IZ h16,IZ h17,IZ h18,IZ h19]
 ·cases h
def Wb:=bN f27 0
def PO:aVI:=[Mu,iq,UJ]
def aqI:Sound prog AV (.loop Wb) (JM prog AV PO GB 20 2 Wb):=TK (gk PO) kN.h 20 2 Wb
structure OJ where
 r:aVH
 n:Y
 l:aVw
 (m i:Y)
 p:PK
def aGG:=bN f27 1
def zt (s:OJ):T (Rd OJ):=
 .br (an<|s.i<s.m) (.ix s.i (M s.l)<|.ix s.i (M s.p.cs)<|.br (!(inB (gi s.l s.i) (1:Y) (Ae s.p.cs s.i).2.2.1)) (.so (.ret) {s with r:=X})<|.nx {s with i:=AA<|s.i+1}) (.so (.exit 2) s)
def Rf (s:OJ) (j:Y):aVH:=inB (gi s.l j) 1 (Ae s.p.cs j).2.2.1
def kL (s:OJ):Prop:=s.i=0/\0<=s.m/\s.m<=1000/\s.m=(M s.l:Y)/\M s.l=M s.p.cs
def Yz (s:OJ):Prop:=0<=s.i/\s.i<=s.m/\s.m<=1000/\(s.m=(M s.l:Y)/\M s.l=M s.p.cs)/\∀j:aVx,(j:Y)<s.i->Rf s j=U
def vB (s:OJ):aVx:=(s.m-s.i).toNat
def aBu (x:Ex) (s s':OJ):Prop:=(x=.exit 2/\∀j:aVx,(j:Y)<s'.m->Rf s' j=U)\/(x=.ret/\s'.r=X/\∃j:aVx,(j:Y)<s'.m/\Rf s' j=X)
def ak6:∀s,kL s->Yz s:=by
 exact KK
def ay5:Da Yz vB aBu zt:=by
 intro s hI;obtain ⟨h0,h1,h2,h3,h4⟩:=hI;refine AH (λc1=>AH (λc2=>?_) λc2=>?_) λc1=>?_
 ·have c1:s.i<s.m:=AY
  refine .inr ⟨rfl,rfl,s.i.toNat,Ac,?_⟩
  have hg:Rf s s.i=false:=by unfold Rf;simp_all
  exact hg
 ·have c1:s.i<s.m:=AY
  have hg:Rf s s.i=true:=by unfold Rf;simp_all
  rw [AJ (x:=s.i+1)];refine ⟨⟨A8,A8,h2,h3,λj hj=>?_⟩,by simp only [vB];omega⟩
  exact Lj
 ·exact mh
def Q0:AS OJ:=⟨0,105,[1,2,3,61,62,63],[],λs=>[.own 0 0,s.r,s.n,.xl A7 s.l,s.m,s.i],λs=>[⟨[s.p.cs,s.p.os,s.p.ks,s.p.gs,s.p.bs,s.p.tk,s.p.up,s.p.ls,s.p.se,.xl (.int aw) s.p.fl,s.p.ra,s.p.nx,s.p.st,s.p.ca,s.p.mi,s.p.me,s.p.dm,s.p.lk,.xl A7 s.p.dr,.xl A7 s.p.tg],48,.cl,X⟩],λv b=>⟨EP v 1,AL v 2,B9 A7 v 3,AL v 4,AL v 5,rQ b 0⟩,zt,λs r=> {s with r:=r.r,i:=r.i},λs=>s,λ_ s=>s,[.ret,.exit 2],kL,Yz,vB⟩
abbrev eZ:=Q0.run
abbrev fX:=Q0.Au
def ax6:Rq Yz zt:=by
 exact yB
def aRO:Q0.Ok:={}
def aQ5:Q0.Pf (aBu):=⟨ak6,λs h=>rfl,ay5,ax6⟩
def aqL:SA 0 aGG Q0:=s1 aRO aQ5 PO kN
def arN:Fi kL Yz aBu fX eZ:=AS.fin aRO aQ5
structure OI where
 r:aVH
 n:Y
 l:aVw
 (m i:Y)
 p:PK
def aGF:=bN f27 2
def zr (s:OI):T (Rd OI):=
 .br (an<|s.i<s.m) (.ix s.i (M s.l)<|.br (!(inB (gi s.l s.i) (-200) 200)) (.so (.ret) {s with r:=X})<|.nx {s with i:=AA<|s.i+1}) (.so (.exit 4) s)
def Re (s:OI) (j:Y):aVH:=inB (gi s.l j) (-200) 200
def kK (s:OI):Prop:=s.i=0/\0<=s.m/\s.m<=1000/\s.m=(M s.l:Y)
def Yy (s:OI):Prop:=0<=s.i/\s.i<=s.m/\s.m<=1000/\(s.m=(M s.l:Y))/\∀j:aVx,(j:Y)<s.i->Re s j=U
def vA (s:OI):aVx:=(s.m-s.i).toNat
def aBt (x:Ex) (s s':OI):Prop:=(x=.exit 4/\∀j:aVx,(j:Y)<s'.m->Re s' j=U)\/(x=.ret/\s'.r=X/\∃j:aVx,(j:Y)<s'.m/\Re s' j=X)
def ak5:∀s,kK s->Yy s:=by
 exact KK
def ay4:Da Yy vA aBt zr:=by
 intro s hI;obtain ⟨h0,h1,h2,h3,h4⟩:=hI;refine AH (λc1=>AH (λc2=>?_) λc2=>?_) λc1=>?_
 ·have c1:s.i<s.m:=AY
  refine .inr ⟨rfl,rfl,s.i.toNat,A8,?_⟩
  have hg:Re s s.i=false:=by unfold Re;simp_all
  exact hg
 ·have c1:s.i<s.m:=AY
  have hg:Re s s.i=true:=by unfold Re;simp_all
  rw [AJ (x:=s.i+1)];refine ⟨⟨A8,A8,h2,h3,λj hj=>?_⟩,by simp only [vA];omega⟩
  exact Lj
 ·exact mh
def Pz:AS OI:=⟨0,105,[1,2,3,80,81,82],[],λs=>[.own 0 0,s.r,s.n,.xl A7 s.l,s.m,s.i],λs=>[⟨[s.p.cs,s.p.os,s.p.ks,s.p.gs,s.p.bs,s.p.tk,s.p.up,s.p.ls,s.p.se,.xl (.int aw) s.p.fl,s.p.ra,s.p.nx,s.p.st,s.p.ca,s.p.mi,s.p.me,s.p.dm,s.p.lk,.xl A7 s.p.dr,.xl A7 s.p.tg],48,.cl,X⟩],λv b=>⟨EP v 1,AL v 2,B9 A7 v 3,AL v 4,AL v 5,rQ b 0⟩,zr,λs r=> {s with r:=r.r,i:=r.i},λs=>s,λ_ s=>s,[.ret,.exit 4],kK,Yy,vA⟩
abbrev eY:=Pz.run
abbrev fW:=Pz.Au
def ax5:Rq Yy zr:=by
 exact T3
def aS6:Pz.Ok:={}
def aQ4:Pz.Pf (aBt):=⟨ak5,λs h=>rfl,ay4,ax5⟩
def aqK:SA 0 aGF Pz:=s1 aS6 aQ4 PO kN
def arM:Fi kK Yy aBt fW eY:=AS.fin aS6 aQ4
structure OH where
 r:aVH
 n:Y
 l:aWa
 (m i:Y)
def aGc:=bN f27 3
def zq (s:OH):T (Rd OH):=
 .br (an<|s.i<s.m) (.ix s.i (M s.l)<|.br (!(inB (Fu s.l s.i).2.2.1 (0:Y)<|AA<|s.n-1)) (.so (.ret) {s with r:=X})<|.nx {s with i:=AA<|s.i+1}) (.so (.exit 6) s)
def U3 (s:OH) (j:Y):aVH:=inB (Fu s.l j).2.2.1 0<|s.n-1
def kJ (s:OH):Prop:=s.i=0/\0<=s.m/\s.m<=100000000/\s.m=(M s.l:Y)/\0<=s.n/\s.n<=16
def Yx (s:OH):Prop:=0<=s.i/\s.i<=s.m/\s.m<=100000000/\(s.m=(M s.l:Y)/\0<=s.n/\s.n<=16)/\∀j:aVx,(j:Y)<s.i->U3 s j=U
def v9 (s:OH):aVx:=(s.m-s.i).toNat
def aBs (x:Ex) (s s':OH):Prop:=(x=.exit 6/\∀j:aVx,(j:Y)<s'.m->U3 s' j=U)\/(x=.ret/\s'.r=X/\∃j:aVx,(j:Y)<s'.m/\U3 s' j=X)
def ak4:∀s,kJ s->Yx s:=by
 exact KK
def ay3:Da Yx v9 aBs zq:=by
 intro s hI;obtain ⟨h0,h1,h2,h3,h4⟩:=hI;refine AH (λc1=>AH (λc2=>?_) λc2=>?_) λc1=>?_
 ·have c1:s.i<s.m:=AY
  refine .inr ⟨rfl,rfl,s.i.toNat,Ac,?_⟩
  have hg:U3 s s.i=false:=aOM
  exact hg
 ·have c1:s.i<s.m:=AY
  have hg:U3 s s.i=true:=aOM
  rw [AJ (x:=s.i+1)];refine ⟨⟨A8,A8,h2,h3,λj hj=>?_⟩,by simp only [v9];omega⟩
  exact Lj
 ·exact mh
def Py:AS OH:=⟨0,105,[2,3,91,92,93],[],λs=>[s.r,s.n,s.l,s.m,s.i],λ_=>[],λv b=>⟨EP v 0,AL v 1,B9 BP v 2,AL v 3,AL v 4⟩,zq,λs r=> {s with r:=r.r,i:=r.i},λs=>s,λ_ s=>s,[.ret,.exit 6],kJ,Yx,v9⟩
abbrev s7:=Py.run
abbrev fV:=Py.Au
def ax4:Rq Yx zq:=by
 intro s hI;refine ⟨λc1=>⟨?_,λ_=>trivial,λ_=>trivial⟩,λ_=>trivial⟩
 ·(obtain ⟨h0,h1,h2,h3,h4⟩:=hI;obtain ⟨g0,g1,g2⟩:=h3;simp at c1;omega)
def aS5:Py.Ok:={}
def aQ3:Py.Pf (aBs):=⟨ak4,λs h=>rfl,ay3,ax4⟩
def aqJ:SA 0 aGc Py:=s1 aS5 aQ3 PO kN
def arL:Fi kJ Yx aBs fV s7:=AS.fin aS5 aQ3
def qI {α:Type}{l:List α}{d:α}{f:α->aVH}:DS (M l) (λk=>f<|l.getD k.toNat d)=l.all f:=by
 rw [Iw,Dl,BH]
 constructor
 ·intro h x hx
  obtain ⟨k,hk,rfl⟩:=Hs.1 hx
  grind
 ·intro h j hj
  grind
def aTu:aVy->T LV
 | [x_p]=>(match NK x_p with
  |some p=> .req (M p.lk<=100000000) (.ok<|EH p)
  |none=> .no)
 |_=> .no
def Qo (p:PK):OJ:=(⟨X,(M p.gs:Y),p.tg,(M p.tg:Y),0,p⟩:OJ)
def Qn (p:PK):OI:=(⟨(eZ<|Qo p).r,(M p.gs:Y),p.dr,(M p.dr:Y),0,p⟩:OI)
def TW (p:PK):OH:=(⟨(eY<|Qn p).r,(M p.gs:Y),p.lk,(M p.lk:Y),0⟩:OH)
def azG (p:PK):letI a:=(M p.gs:Y);Bm prog AV PO kN (λi=>if i=5 then (JM prog AV PO GB 20 2 Wb) else if i=13 then Q0.lp else if i=19 then Pz.lp else if i=25 then Py.lp else Al i) f27 [p]=.br ((!(B6 p.cs p.os p.ks p.gs p.bs)) ||(!(inB p.tk (0:Y) (1000000:Y)))) (.ok X) (.br ((M p.st:Y) !=a) (.ok X)<|.br ((M p.ca:Y) !=a) (.ok X)<|.br ((M p.mi:Y) !=a) (.ok X)<|.br ((M p.me:Y) !=a) (.ok X)<|.br ((M p.dm:Y) !=a) (.ok X)<|.br ((M p.dr:Y) !=a) (.ok X)<|.br ((M p.tg:Y) !=(M p.cs:Y)) (.ok X)<|.req (Q0.q<|Qo p)<|.br (Bs (fX<|Qo p)<|.ret) (.ok (eZ<|Qo p).r)<|.req (Pz.q<|Qn p)<|.br (Bs (fW<|Qn p)<|.ret) (.ok (eY<|Qn p).r)<|.req (Py.q<|TW p)<|.br (Bs (fV<|TW p)<|.ret) (.ok (s7<|TW p).r)<|.ok U):=AU
def ajp:=vm (S:=aTu) func27 PO kN (L:=(λi=>if i=5 then (JM prog AV PO GB 20 2 Wb) else if i=13 then Q0.lp else if i=19 then Pz.lp else if i=25 then Py.lp else Al i)) (λb hb=>by
 rw [show BE _=[Wb,aGG,aGF,aGc] by kernel_rfl] at hb
 simp only [BB,Bx,By] at hb;rcases hb with rfl|rfl|rfl|rfl
 ·exact aqI
 ·exact aqL
 ·exact aqK
 ·exact aqJ) (λargs lv h=>by
 refine ⟨?_⟩;unfold aTu at h;split at h
 ·split at h
  case h_2=>cases h
  rename_i p hp;obtain rfl:=Wj hp;simp only [canL,canX];rw [azG];obtain ⟨hk,rfl⟩:=h
  have op:EH p=U->_:=λhv=>by unfold EH at hv;simp only [AX,Ab] at hv;exact hv
  have no:(EH p=U->False)->LV.v (.bool X)=LV.v (.bool<|EH p):=λh=>by
   cases e:EH p
   ·rfl
   ·exact (h e).elim
  refine ⟨λc1=>no λhv=>?_,λc1=>⟨λc2=>no λhv=>?_,λc2=>⟨λc3=>no λhv=>?_,λc3=>⟨λc4=>no λhv=>?_,λc4=>⟨λc5=>no λhv=>?_,λc5=>⟨λc6=>no λhv=>?_,λc6=>⟨λc7=>no λhv=>?_,λc7=>⟨λc8=>no λhv=>?_,λc8=>?_⟩⟩⟩⟩⟩⟩⟩⟩
  iterate 8
   ·obtain ⟨⟨h1,h2⟩,⟨h3,h4,h5,h6,h7,h8⟩,h9,_⟩:=op hv
    simp_all
  simp only [bne_eq_false_iff_eq,Int.natCast_inj,Ge,IP] at c1 c2 c3 c4 c5 c6 c7 c8
  have hs:=DC.1 c1.1
  have hv:EH p=(DS (M p.tg) (λk=>inB (gi p.tg k) 1 (Ae p.cs k).2.2.1)&&(p.dr.all (λx=>inB x (-200) 200)&&p.lk.all (λl=>inB l.2.2.1 0<|(M p.gs:Y)-1))):=by
   unfold EH
   grind
  have hr:DS (M p.dr) (λk=>inB (gi p.dr k) (-200) 200)=p.dr.all (λx=>inB x (-200) 200):=qI (f:=λx=>inB x (-200) 200)
  have hl:DS (M p.lk) (λk=>inB (Fu p.lk k).2.2.1 0<|(M p.gs:Y)-1)=p.lk.all (λl=>inB l.2.2.1 0<|(M p.gs:Y)-1):=qI (f:=λl:Lk=>inB l.2.2.1 0<|(M p.gs:Y)-1)
  rw [hv,<-hr,<-hl]
  have E1:kL (Qo p):=⟨rfl,T1 _,by show (M p.tg:Y)<=1000;omega,rfl,c8⟩
  have E2:kK (Qn p):=⟨rfl,T1 _,by show (M p.dr:Y)<=1000;omega,rfl⟩
  have E3:kJ (TW p):=⟨rfl,T1 _,by show (M p.lk:Y)<=100000000;omega,rfl,T1 _,by show (M p.gs:Y)<=16;omega⟩
  refine ⟨⟨E1,rfl,rfl⟩,?_⟩;obtain ⟨_,_,q⟩:=arN _ E1
  have q:(fX (Qo p)=.exit 2/\_)\/(fX (Qo p)=.ret/\(eZ<|Qo p).r=X/\∃j:aVx,(j:Y)<(M p.tg:Y)/\inB (gi p.tg j) 1 (Ae p.cs j).2.2.1=X):=q
  rcases q with ⟨q1,q2⟩ |⟨q1,q2,j,q3,q4⟩
  rotate_left
  ·exact yF
  rw [q1,show DS (M p.tg) (λk=>inB (gi p.tg k) 1 (Ae p.cs k).2.2.1)=U from Dl.2 q2]
  refine ⟨λc=>F6,λ_=>⟨⟨E2,rfl,rfl⟩,?_⟩⟩
  obtain ⟨_,_,q⟩:=arM _ E2
  have q:(fW (Qn p)=.exit 4/\_)\/(fW (Qn p)=.ret/\(eY<|Qn p).r=X/\∃j:aVx,(j:Y)<(M p.dr:Y)/\inB (gi p.dr j) (-200) 200=X):=q
  rcases q with ⟨q1,q2⟩ |⟨q1,q2,j,q3,q4⟩
  rotate_left
  ·exact yF
  rw [q1,show DS (M p.dr) (λk=>inB (gi p.dr k) (-200) 200)=U from Dl.2 q2]
  refine ⟨λc=>F6,λ_=>⟨⟨E3,rfl,rfl⟩,?_⟩⟩
  obtain ⟨_,_,q⟩:=arL _ E3
  have q:(fV (TW p)=.exit 6/\_)\/(fV (TW p)=.ret/\(s7<|TW p).r=X/\∃j:aVx,(j:Y)<(M p.lk:Y)/\inB (Fu p.lk j).2.2.1 0 ((M p.gs:Y)-1)=X):=q
  rcases q with ⟨q1,q2⟩ |⟨q1,q2,j,q3,q4⟩
  rotate_left
  ·exact yF
  rw [q1,show DS (M p.lk) (λk=>inB (Fu p.lk k).2.2.1 0<|(M p.gs:Y)-1)=U from Dl.2 q2]
  exact ⟨λc=>F6,λ_=>rfl⟩
 ·cases h)
def aUV:aVy->T LV
 | [.xl (.int J) l]=> .req (M l<=100000000) (.ok<|.xl A7 l)
 |_=> .no
def Tz:aVI:=[]
def aJQ {α:Type}{l:List α}{d:α}{n:Y}(h:n=(M l:Y)):BG l (aq n.toNat d)=l:=by
 unfold BG
 simp_all
def getD_mem {α:Type}{l:List α}{i:aVx}{d:α}(h:i<M l):l.getD i d∈l:=by
 grind
def set_self {α:Type}{l:List α}{i:aVx}{d:α}(h:i<M l):l.set i (l.getD i d)=l:=by
 simp_all
def aaN:=vo (S:=aUV) func54 Tz kN (λargs lv h=>by
 unfold aUV at h;split at h
 ·rename_i l
  refine At (letI a:=(M l:Y);letI b:=(BG l<|aq a.toNat (0:Y));.rm 8 a<|.rc a (0:Y) (M l)<|.req (0+a.toNat<=M b)<|.ok<|.xl A7<|(b.drop 0).take a.toNat) ?_;obtain ⟨hl,rfl⟩:=h;rw [aJQ rfl];refine ⟨A0,⟨AI,AI⟩,AI,?_⟩;rw [C0,CX,Eg];rfl
 ·cases h)
structure OX where
 (n i:Y)
 p1:aVz
 p2:aVK
 p3:aVA
 p4:aVL
 azc:Y
 adt:aVH
 (p8 p11:Y)
 aoR:aWm
 afK:aVU
 arV:aWa
 (TO afa:aVw)
 (tA b11 b12 b13 b14:aVQ)
 auI:Y
 adq:aVH
 b17:aVQ
 b18:Y
 (b19 b110:aVQ)
 VU:Y
 (afu auJ apN afv af7 apO aEE af6:aVQ)
 b2:aVF
 b3:aVG
 b4:aVw
 b5:aV3
 b6:aVW
 b7:aVG
 o:aWj
def aAZ (s:OX):T (Rd OX):=letI a:=s.o.getD s.i.toNat<|Ty.dflt BA;.br (an<|s.i<s.n) (.ik s.i (M s.o)<|.req (M a.1<=100000000)<|.ik s.i (M s.o)<|.rl s.b2<|.rl s.b3<|.rl s.b4<|.rl s.b5<|.rl s.b6<|.rl s.b7<|.re (M s.o) (s.o.set s.i.toNat a)<|.nx {s with i:=AA<|s.i+1,o:=s.o.set s.i.toNat a})<|.rl s.b2<|.rl s.b3<|.rl s.b4<|.rl s.b5<|.rl s.b6<|.rl s.b7<|.rl s.o<|.so (.exit 0) s
def lM (s:OX):Prop:=s.i=0/\s.n=(M s.o:Y)/\s.n<=1000/\∀m∈s.o,M m.1<=1000
def jw (s:OX):Prop:=0<=s.i/\s.i<=s.n/\s.n=(M s.o:Y)/\s.n<=1000/\∀m∈s.o,M m.1<=1000
def ug (s:OX):aVx:=(s.n-s.i).toNat
def abV (x:Ex) (s s':OX):Prop:=True
def am1:∀s,lM s->jw s:=by
 exact aNP
def aiJ:Da jw ug abV aAZ:=by
 intro s hI;obtain ⟨h0,h1,h2,h3,h4⟩:=hI;refine AH (λc1=>?_) λc1=>trivial
 ·have c1:s.i<s.n:=A8
  have e:=set_self (l:=s.o) (i:=s.i.toNat) (d:=Ty.dflt BA) A0
  rw [AJ (x:=s.i+1),e];exact ⟨⟨A8,A8,h2,h3,h4⟩,by simp only [ug];omega⟩
def H3:AS OX:=⟨0,82,[1,2,44,45],[],λs=>[.own 0 0,.own 1 0,s.n,s.i],λs=>[⟨[.os 2 11 0<|M s.b2,s.p1,s.p2,s.p3,s.p4,s.azc,s.adt,.os 3 5 0<|M s.b3,s.p8,.os 4 1 0<|M s.b4,.os 5 2 0<|M s.b5,s.p11,.os 6 4 0<|M s.b6,.os 7 5 0<|M s.b7,.os 8 3 0<|M s.o,s.aoR,s.afK,s.arV,.xl A7 s.TO,.xl A7 s.afa],48,.cl,X⟩,⟨[.v<|s.tA,.v<|s.b11,.v<|s.b12,.v<|s.b13,.v<|s.b14,s.auI,s.adq,.v<|s.b17,s.b18,.v<|s.b19,.v<|s.b110,s.VU,.v<|s.afu,.v<|s.auJ,.v<|s.apN,.v<|s.afv,.v<|s.af7,.v<|s.apO,.v<|s.aEE,.v<|s.af6],48,.cl,X⟩,bV 81 Af s.b2,bV 134 AQ s.b3,bV 5 (.int aw) s.b4,bV 138 Aj s.b5,bV 99 B7 s.b6,bV 71 AQ s.b7,bV 143 BA s.o],λv b=>⟨AL v 2,AL v 3,AG .str b 0 1,AG An b 0 2,AG Ag b 0 3,AG Am b 0 4,Ak b 0 5,Lc b 0 6,Ak b 0 8,Ak b 0 11,AG BT b 0 15,AG Ap b 0 16,AG BP b 0 17,AG A7 b 0 18,AG A7 b 0 19,HD<|BC (Cc b 1) 0,HD<|BC (Cc b 1) 1,HD<|BC (Cc b 1) 2,HD<|BC (Cc b 1) 3,HD<|BC (Cc b 1) 4,Ak b 1 5,Lc b 1 6,HD<|BC (Cc b 1) 7,Ak b 1 8,HD<|BC (Cc b 1) 9,HD<|BC (Cc b 1) 10,Ak b 1 11,HD<|BC (Cc b 1) 12,HD<|BC (Cc b 1) 13,HD<|BC (Cc b 1) 14,HD<|BC (Cc b 1) 15,HD<|BC (Cc b 1) 16,HD<|BC (Cc b 1) 17,HD<|BC (Cc b 1) 18,HD<|BC (Cc b 1) 19,Ad Af b 2,Ad AQ b 3,Ad (.int aw) b 4,Ad Aj b 5,Ad B7 b 6,Ad AQ b 7,Ad BA b 8⟩,aAZ,λs r=> {s with i:=r.i,o:=r.o},λs=>s,λ_ s=>s,[.exit 0],lM,jw,ug⟩
abbrev aIZ:=H3.run
abbrev ati:=H3.Au
def ayH:Rq jw aAZ:=by
 intro s hI;refine ⟨λc1=>⟨?_,?_,?_,?_,?_,A9,A9,A9,A9,A9,A9,?_,ak⟩,λc1=>⟨A9,A9,A9,A9,A9,A9,A9,ak⟩⟩
 all_goals ((obtain ⟨h0,h1,h2,h3,h4⟩:=hI;(try simp only [Ab] at c1);first|omega|exact ⟨rfl,AI⟩ |exact ⟨rfl,rfl⟩ |exact Hr (h4 _<|getD_mem A0) Aa))
def vS:aVI:=[aaN]
def agU:Ay:=kI vS<|l0 vS
def aRI:H3.Ok:={}
def aQe:H3.Pf (abV):=⟨am1,λs h=>rfl,aiJ,ayH⟩
def Co:=s1 (b:=bN f26 0) aRI aQe vS agU
def av4:Rs lM ati aIZ (λs:OX=>s.o) (λx s' (v:aWj)=>x=.exit 0/\s'.o=v):=DZ aRI aQe (λs hI=>by
  obtain ⟨h0,h1,h2,h3,h4⟩:=hI;refine AH (λc1=>?_) λc1=>⟨rfl,rfl⟩
  have c1:s.i<s.n:=A8
  have e:=set_self (l:=s.o) (i:=s.i.toNat) (d:=Ty.dflt BA) A0
  rw [e];exact rfl)
structure Ms where
 p:PK
def V4 (s:Ms):aVy:=[s.p]
def ZK (s:Ms):aVB:=[]
def dO (s:Ms):OX:=(⟨(((M s.p.mi:Y).toNat:aVx):Y),0,s.p.os,s.p.ks,s.p.gs,s.p.bs,s.p.tk,s.p.up,s.p.se,s.p.nx,s.p.me,s.p.dm,s.p.lk,s.p.dr,s.p.tg,.slice aj 0 0,.slice aj 0 0,.slice aj 0 0,.slice aj 0 0,.slice aj 0 0,0,X,.slice aj 0 0,0,.slice aj 0 0,.slice aj 0 0,0,.slice aj 0 0,.slice aj 0 0,.slice aj 0 0,.slice aj 0 0,.slice aj 0 0,.slice aj 0 0,.slice aj 0 0,.slice aj 0 0,BG s.p.cs<|aq (M s.p.cs:Y).toNat (ByteArray.empty,((0:Y),((0:Y),((0:Y),(((0:Y),(0:Y)),((0:Y),((0:Y),((0:Y),((0:Y),(0:Y)))))))))),BG s.p.ls<|aq (M s.p.ls:Y).toNat ((0:Y),((0:Y),((0:Y),((0:Y),(0:Y))))),BG s.p.fl<|aq (M s.p.fl:Y).toNat (0:Y),BG s.p.ra<|aq (M s.p.ra:Y).toNat ((0:Y),(0:Y)),BG s.p.st<|aq (M s.p.st:Y).toNat ((0:Y),((0:Y),((0:Y),X))),BG s.p.ca<|aq (M s.p.ca:Y).toNat ((0:Y),((0:Y),((0:Y),((0:Y),(0:Y))))),BG s.p.mi<|aq (M s.p.mi:Y).toNat (([]:aVw),((0:Y),(0:Y)))⟩:OX)
structure Yk where
 p:PK
 (n7 n8 n9 n10 n11:aVx)
def abj (s:Yk):LV:=.agg [.os 0 11 0<|M s.p.cs,s.p.os,s.p.ks,s.p.gs,s.p.bs,s.p.tk,s.p.up,.os 1 5 0<|M s.p.ls,s.p.se,.os 2 1 0<|M s.p.fl,.os 3 2 0<|M s.p.ra,s.p.nx,.os 4 4 0<|M s.p.st,.os 5 5 0<|M s.p.ca,.os 6 3 0<|M s.p.mi,.os 7 3 0 s.n7,.os 8 4 0 s.n8,.os 9 6 0 s.n9,.os 10 1 0 s.n10,.os 11 1 0 s.n11]
def ack (s:Yk):aVB:=[bV 81 Af s.p.cs,bV 134 AQ s.p.ls,bV 5 (.int aw) s.p.fl,bV 138 Aj s.p.ra,bV 99 B7 s.p.st,bV 71 AQ s.p.ca,bV 143 BA s.p.mi,bV 102 BT s.p.me,bV 73 Ap s.p.dm,bV 149 BP s.p.lk,bV 3 A7 s.p.dr,bV 3 A7 s.p.tg]
def ib (s:Ms):T Yk:=letI a:=(ByteArray.empty,((0:Y),((0:Y),((0:Y),(((0:Y),(0:Y)),((0:Y),((0:Y),((0:Y),((0:Y),(0:Y))))))))));letI f:=(M s.p.cs:Y);letI g:=(M s.p.fl:Y);letI h:=(M s.p.ls:Y);letI i:=(M s.p.ra:Y);letI j:=(M s.p.st:Y);letI k:=(M s.p.ca:Y);letI l:=(M s.p.mi:Y);letI m:=(M s.p.me:Y);letI n:=(M s.p.dm:Y);letI r:=(M s.p.lk:Y);letI t:=(M s.p.dr:Y);letI u:=(M s.p.tg:Y);letI v:=(BG s.p.fl<|aq g.toNat (0:Y));letI w:=BG s.p.cs<|aq f.toNat a;letI x:=(X,((0:Y),((0:Y),(0:Y))));letI b:=(BG s.p.ls<|aq h.toNat ((0:Y),((0:Y),((0:Y),((0:Y),(0:Y))))));letI c:=(BG s.p.ca<|aq k.toNat ((0:Y),((0:Y),((0:Y),((0:Y),(0:Y))))));letI d:=(BG s.p.st<|aq j.toNat ((0:Y),((0:Y),((0:Y),X))));letI e:=(BG s.p.ra<|aq i.toNat ((0:Y),(0:Y)));.rm 96 f<|.rc f a (M s.p.cs)<|.rm 40 h<|.rc h ((0:Y),((0:Y),((0:Y),((0:Y),(0:Y))))) (M s.p.ls)<|.rm 1 g<|.rc g (0:Y) (M s.p.fl)<|.rm 16 i<|.rc i ((0:Y),(0:Y)) (M s.p.ra)<|.rm 32 j<|.rc j ((0:Y),((0:Y),((0:Y),X))) (M s.p.st)<|.rm 40 k<|.rc k ((0:Y),((0:Y),((0:Y),((0:Y),(0:Y))))) (M s.p.ca)<|.rm 40 l<|.rc l (([]:aVw),((0:Y),(0:Y))) (M s.p.mi)<|.re f.toNat w<|.re h.toNat b<|.re g.toNat v<|.re i.toNat e<|.re j.toNat d<|.re k.toNat c<|.re l.toNat (BG s.p.mi<|aq l.toNat (([]:aVw),((0:Y),(0:Y))))<|.req (H3.q<|dO s)<|.rm 24 m<|.rc m ((0:Y),((0:Y),X)) (M s.p.me)<|.rm 32 n<|.rc n x (M s.p.dm)<|.rm 48 r<|.rc r ((0:Y),((0:Y),((0:Y),((0:Y),((0:Y),(0:Y)))))) (M s.p.lk)<|.rm 8 t<|.rc t (0:Y) (M s.p.dr)<|.rm 8 u<|.rc u (0:Y) (M s.p.tg)<|.ok<|⟨⟨w,s.p.os,s.p.ks,s.p.gs,s.p.bs,s.p.tk,s.p.up,b,s.p.se,v,e,s.p.nx,d,c,(aIZ<|dO s).o,BG s.p.me<|aq m.toNat ((0:Y),((0:Y),X)),BG s.p.dm<|aq n.toNat x,BG s.p.lk<|aq r.toNat ((0:Y),((0:Y),((0:Y),((0:Y),((0:Y),(0:Y)))))),BG s.p.dr<|aq t.toNat (0:Y),BG s.p.tg<|aq u.toNat (0:Y)⟩,m.toNat,n.toNat,r.toNat,t.toNat,u.toNat⟩
def Qt {α:Type}{l:List α}{d:α}:BG l (aq (M l:Y).toNat d)=l:=aJQ rfl
structure LB (p:PK):Prop where
 cs:M p.cs<=20000000
 ls:M p.ls<=20000000
 fl:M p.fl<=20000000
 ra:M p.ra<=20000000
 st:M p.st<=20000000
 ca:M p.ca<=20000000
 mi:M p.mi<=1000
 me:M p.me<=20000000
 dm:M p.dm<=20000000
 lk:M p.lk<=20000000
 dr:M p.dr<=20000000
 tg:M p.tg<=20000000
 mis:∀m∈p.mi,M m.1<=1000
def lJ (s:Ms):Prop:=LB s.p
def aaA (s:Ms):Yk:=⟨s.p,M s.p.me,M s.p.dm,M s.p.lk,M s.p.dr,M s.p.tg⟩
def kr:D8 Ms Yk:=⟨V4,ZK,λv b=>⟨⟨As Af<|EK (v.getD 0 .junk) 0,As .str<|EK (v.getD 0 .junk) 1,As An<|EK (v.getD 0 .junk) 2,As Ag<|EK (v.getD 0 .junk) 3,As Am<|EK (v.getD 0 .junk) 4,gI<|EK (v.getD 0 .junk) 5,gBo<|EK (v.getD 0 .junk) 6,As AQ<|EK (v.getD 0 .junk) 7,gI<|EK (v.getD 0 .junk) 8,As (.int aw)<|EK (v.getD 0 .junk) 9,As Aj<|EK (v.getD 0 .junk) 10,gI<|EK (v.getD 0 .junk) 11,As B7<|EK (v.getD 0 .junk) 12,As AQ<|EK (v.getD 0 .junk) 13,As BA<|EK (v.getD 0 .junk) 14,As BT<|EK (v.getD 0 .junk) 15,As Ap<|EK (v.getD 0 .junk) 16,As BP<|EK (v.getD 0 .junk) 17,As A7<|EK (v.getD 0 .junk) 18,As A7<|EK (v.getD 0 .junk) 19⟩⟩,lJ,[],[],abj,ack,aaA⟩
abbrev azy (s:Ms):Prop:=lJ s/\V4 s=V4 s/\ZK s=ZK s
def aSh:Ay:=kI Tz<|la 9 func26 Co<|l0 Tz
def aUo:DU:=Cb 26 0 9 (H3.lp)<|E5 prog AV Tz 20 2
def apj:EZ prog AV aUo:=DO func26 rfl AU Co<|Hz<|gk Tz
def az1 (s:Ms):((El prog AV Tz aUo aSh).k 26 (V4 s)<|ZK s).bind (λq=>GO (M<|ZK s) [0] [] .normal (q.1::V4 s) q.2)=(ib s).mp (λs2=>⟨.normal,M (V4 s)+1,[abj s2],ack s2,U⟩):=AU
def awL (s:Ms) (hE:lJ s):(ib s).all (λq=>q=aaA s):=by
 have ho:(dO s).o=s.p.mi:=Qt
 have hn:(dO s).n=(M s.p.mi:Y):=Mc
 have hV:lM (dO s):=⟨rfl,A8,by rw [hn];have:=hE.mi;omega,by rw [ho];exact hE.mis⟩
 have hm:=(av4 _ hV).2.trans Qt
 unfold ib;simp only [Qt,hm];obtain ⟨h1,h2,h3,h4,h5,h6,h7,h8,h9,h10,h11,h12,_⟩:=hE
 repeat (refine ⟨by first|omega|exact ⟨AI,AI⟩ |exact ⟨rfl,AI⟩ |exact ⟨hV,rfl,rfl⟩,?_⟩)
 rfl
def auT:Dp prog AV 26 kr.m:=D8.sound (D:=kr) (t:=ib) (gk Tz) apj aSh.h az1 λs hE=>⟨awL s hE⟩
def ahw:Dp prog AV 26 (R2 λa=>kr.m a []):=aGg auT
structure EW where
 (ek en em c1 c2 c3 c4 c5:Y)
 d1:aVH
 (d2 d3 d4:Y)
instance:Coe EW Value:=⟨λe=> .agg #[ag J e.ek,ag J e.en,ag J e.em,ag J e.c1,ag J e.c2,ag J e.c3,ag J e.c4,ag J e.c5,.bool e.d1,ag J e.d2,ag J e.d3,ag J e.d4]⟩
instance:Coe EW LV:=⟨λe=> .v<|.agg #[ag J e.ek,ag J e.en,ag J e.em,ag J e.c1,ag J e.c2,ag J e.c3,ag J e.c4,ag J e.c5,.bool e.d1,ag J e.d2,ag J e.d3,ag J e.d4]⟩
def EW.c (e:EW):Ca:=(e.c1,e.c2,e.c3,e.c4,e.c5)
def EW.d (e:EW):Dm:=(e.d1,e.d2,e.d3,e.d4)
def EW.ev (e:EW):EV:=⟨e.ek,e.en,e.em,e.c,e.d⟩
def oJ:LV->Option EW
 | .v (.agg ⟨[ag J ek,ag J en,ag J em,ag J c1,ag J c2,ag J c3,ag J c4,ag J c5,.bool d1,ag J d2,ag J d3,ag J d4]⟩)=>ah ⟨ek,en,em,c1,c2,c3,c4,c5,d1,d2,d3,d4⟩
 |_=>aj
def auk {x:LV}{ev:EW}(h:oJ x=ah ev):x=(ev):=by
 unfold oJ at h;exact yP
def zB:AB:=⟨[.v<|.slice aj 0 0,.v<|.slice aj 0 0,.v<|.slice aj 0 0,.v<|.slice aj 0 0,.v<|.slice aj 0 0,.v<|ag J 0,.v<|.bool X,.v<|.slice aj 0 0,.v<|ag J 0,.v<|.slice aj 0 0,.v<|.slice aj 0 0,.v<|ag J 0,.v<|.slice aj 0 0,.v<|.slice aj 0 0,.v<|.slice aj 0 0,.v<|.slice aj 0 0,.v<|.slice aj 0 0,.v<|.slice aj 0 0,.v<|.slice aj 0 0,.v<|.slice aj 0 0],48,.cl,X⟩
def eB (e:EW):AB:=⟨[.v<|ag J e.ek,.v<|ag J e.en,.v<|ag J e.em,.v<|ag J e.c1,.v<|ag J e.c2,.v<|ag J e.c3,.v<|ag J e.c4,.v<|ag J e.c5,.v<|.bool e.d1,.v<|ag J e.d2,.v<|ag J e.d3,.v<|ag J e.d4],68,.cl,X⟩
def rE (b:aVB) (i q:aVx):EW:=letI a:=Cc b q;⟨gI<|BC a<|i+0,gI<|BC a<|i+1,gI<|BC a<|i+2,gI<|BC a<|i+3,gI<|BC a<|i+4,gI<|BC a<|i+5,gI<|BC a<|i+6,gI<|BC a<|i+7,gBo<|BC a<|i+8,gI<|BC a<|i+9,gI<|BC a<|i+10,gI<|BC a<|i+11⟩
def rG (b:aVB):EW:=rE b 20 16
structure M5 where
 (i k0 k1 k2:Y)
 p:PK
 ev:EW
def V1 (s:M5):aVy:=[.own 16 0,s.i,.v<|.agg #[s.k0,s.k1,s.k2]]
def ZH (s:M5):aVB:=[AP,AP,zB,AP,bV 81 Af s.p.cs,bV 134 AQ s.p.ls,bV 5 (.int aw) s.p.fl,bV 138 Aj s.p.ra,bV 99 B7 s.p.st,bV 71 AQ s.p.ca,bV 143 BA s.p.mi,bV 102 BT s.p.me,bV 73 Ap s.p.dm,bV 149 BP s.p.lk,bV 3 A7 s.p.dr,bV 3 A7 s.p.tg,⟨[.os 4 11 0<|M s.p.cs,.xl .str s.p.os,.xl An s.p.ks,.xl Ag s.p.gs,.xl Am s.p.bs,.v<|ag J s.p.tk,.v<|.bool s.p.up,.os 5 5 0<|M s.p.ls,.v<|ag J s.p.se,.os 6 1 0<|M s.p.fl,.os 7 2 0<|M s.p.ra,.v<|ag J s.p.nx,.os 8 4 0<|M s.p.st,.os 9 5 0<|M s.p.ca,.os 10 3 0<|M s.p.mi,.os 11 3 0<|M s.p.me,.os 12 4 0<|M s.p.dm,.os 13 6 0<|M s.p.lk,.os 14 1 0<|M s.p.dr,.os 15 1 0<|M s.p.tg,.v<|ag J s.ev.ek,.v<|ag J s.ev.en,.v<|ag J s.ev.em,.v<|ag J s.ev.c1,.v<|ag J s.ev.c2,.v<|ag J s.ev.c3,.v<|ag J s.ev.c4,.v<|ag J s.ev.c5,.v<|.bool s.ev.d1,.v<|ag J s.ev.d2,.v<|ag J s.ev.d3,.v<|ag J s.ev.d4,.v<|.slice aj 0 0],115,.cl,X⟩]
structure Yh where
 res:Y
 p:PK
 ev:EW
def abf (s:Yh):LV:=.v<|ag J s.res
def ach (s:Yh):aVB:=[AP,AP,zB,AP,bV 81 Af s.p.cs,bV 134 AQ s.p.ls,bV 5 (.int aw) s.p.fl,bV 138 Aj s.p.ra,bV 99 B7 s.p.st,bV 71 AQ s.p.ca,bV 143 BA s.p.mi,bV 102 BT s.p.me,bV 73 Ap s.p.dm,bV 149 BP s.p.lk,bV 3 A7 s.p.dr,bV 3 A7 s.p.tg,⟨[.os 4 11 0<|M s.p.cs,.xl .str s.p.os,.xl An s.p.ks,.xl Ag s.p.gs,.xl Am s.p.bs,.v<|ag J s.p.tk,.v<|.bool s.p.up,.os 5 5 0<|M s.p.ls,.v<|ag J s.p.se,.os 6 1 0<|M s.p.fl,.os 7 2 0<|M s.p.ra,.v<|ag J s.p.nx,.os 8 4 0<|M s.p.st,.os 9 5 0<|M s.p.ca,.os 10 3 0<|M s.p.mi,.os 11 3 0<|M s.p.me,.os 12 4 0<|M s.p.dm,.os 13 6 0<|M s.p.lk,.os 14 1 0<|M s.p.dr,.os 15 1 0<|M s.p.tg,.v<|ag J s.ev.ek,.v<|ag J s.ev.en,.v<|ag J s.ev.em,.v<|ag J s.ev.c1,.v<|ag J s.ev.c2,.v<|ag J s.ev.c3,.v<|ag J s.ev.c4,.v<|ag J s.ev.c5,.v<|.bool s.ev.d1,.v<|ag J s.ev.d2,.v<|ag J s.ev.d3,.v<|ag J s.ev.d4,.v<|.slice aj 0 0],115,.cl,X⟩]
def aAQ (s:M5):T Yh:=letI c:=s.p.st.getD s.i.toNat<|Ty.dflt B7;letI d:=M s.p.st;letI a:=sE (AF s.p.gs s.i) c s.k0 s.k1 s.k2;letI b:=sN (AF s.p.gs s.i) c s.k0 s.k1 s.k2;.ix s.i (M s.p.gs)<|.ik s.i d<|.br (a==0) (.ik s.i d<|.pa s.p<|.re d (s.p.st.set s.i.toNat b)<|.rl s.p.ca<|.rl s.p.mi<|.rl s.p.me<|.rl s.p.dm<|.rl s.p.lk<|.rl s.p.dr<|.rl s.p.tg<|.ok<|⟨a,{s.p with st:=s.p.st.set s.i.toNat b},s.ev⟩)<|.pc s.p<|.ok<|⟨a,s.p,s.ev⟩
def aCh (s:M5):Prop:=0<=s.i/\s.i<(M s.p.gs:Y)/\M s.p.st=M s.p.gs
def j3 (s:M5):Yh:=⟨sE (AF s.p.gs s.i) (BF s.p.st s.i) s.k0 s.k1 s.k2,{s.p with st:=CW s.p.gs s.p.st s.i s.k0 s.k1 s.k2},s.ev⟩
def aCt:D8 M5 Yh:=⟨V1,ZH,λv b=>⟨AL v 1,gI<|EK (v.getD 2 .junk) 0,gI<|EK (v.getD 2 .junk) 1,gI<|EK (v.getD 2 .junk) 2,rF b,rG b⟩,aCh,[0,1,3],[],abf,ach,j3⟩
abbrev vv (s:M5):Prop:=aCh s/\V1 s=V1 s/\ZH s=ZH s
def gU:aVI:=[RS]
def aUl:DU:=Cb 26 0 9 (H3.lp)<|E5 prog AV (gU) 20 2
def apf:EZ prog AV aUl:=DO func26 rfl AU Co<|Hz<|gk gU
def azX (s:M5):((El prog AV gU aUl GB).k 68 (V1 s)<|ZH s).bind (λq=>GO (M<|ZH s) [0] [] .normal (q.1::V1 s) q.2)=(aAQ s).mp (λs2=>⟨.normal,M (V1 s)+1,[abf s2],ach s2,U⟩):=AU
def awI (s:M5) (hE:aCh s):(aAQ s).all (λq=>q=j3 s):=by
 obtain ⟨h0,h1,h2⟩:=hE;refine ⟨A0,A0,A0,λc=>?_,λc=>?_⟩
 ·have c:=eq_of_beq c
  have hg:CW s.p.gs s.p.st s.i s.k0 s.k1 s.k2=_:=AD c
  repeat (refine ⟨A8,?_⟩)
  unfold j3;rw [hg];rfl
 ·have c:=CT.1 c
  have hg:CW s.p.gs s.p.st s.i s.k0 s.k1 s.k2=s.p.st:=AE c
  repeat (refine ⟨AI,?_⟩)
  unfold j3;rw [hg];rfl
def aie:Dp prog AV 68 aCt.m:=D8.sound (D:=aCt) (t:=aAQ) (gk gU) apf Qg azX λs hE=>⟨awI s hE⟩
structure N0 where
 (n i:Y)
 p:PK
 ev:EW
 left:aWa
def zb (s:N0):T (Rd N0):=letI a:=s.p.lk.getD s.i.toNat<|Ty.dflt BP;.br (an<|s.i<s.n) (.ik s.i (M s.p.lk)<|.br (a.2.2.1 !=s.ev.en) (.rb (M s.left) (M<|[a]) 48<|.re (M s.left+M ([a])) (s.left++([a]))<|.rl s.p.lk<|.pc s.p<|.nx {s with i:=AA<|s.i+1,left:=s.left++([a])})<|.rl s.left<|.rl s.p.lk<|.pc s.p<|.nx {s with i:=AA<|s.i+1})<|.rl s.left<|.rl s.p.lk<|.pc s.p<|.so (.exit 0) s
def kz (s:N0):Prop:=s.i=0/\s.n=(M s.p.lk:Y)/\s.n<=20000000/\(M s.left:Y)<=s.i
def kZ (s:N0):Prop:=0<=s.i/\s.i<=s.n/\s.n=(M s.p.lk:Y)/\s.n<=20000000/\(M s.left:Y)<=s.i
def gj (s:N0):aVx:=(s.n-s.i).toNat
def ac1 (x:Ex) (s s':N0):Prop:=True
def al2:∀s,kz s->kZ s:=by
 rintro s ⟨h0,h2,h3,h4⟩
 exact yT
def agj:Da kZ gj ac1 zb:=by
 intro s hI;obtain ⟨h0,h1,h2,h3,h4⟩:=hI;refine AH (λc1=>AH (λc2=>?_) λc2=>?_) λc1=>trivial
 all_goals have c1:s.i<s.n:=AY
 all_goals rw [AJ (x:=s.i+1)]
 ·exact ⟨⟨Ac,Ac,h2,h3,A8⟩,by simp only [gj];omega⟩
 ·exact ⟨⟨A8,A8,h2,h3,Ac⟩,by simp only [gj];omega⟩
def Kw:AS N0:=⟨18,30,[0,1,4,11,12,13],[.nl 4 149 BP],λs=>[.own 16 0,.fn 70 [.own 17 0],.os 18 6 0<|M s.left,.os 13 6 0<|M s.p.lk,s.n,s.i],λs=>[AP,AP,zB,AP,bV 81 Af s.p.cs,bV 134 AQ s.p.ls,bV 5 (.int aw) s.p.fl,bV 138 Aj s.p.ra,bV 99 B7 s.p.st,bV 71 AQ s.p.ca,bV 143 BA s.p.mi,bV 102 BT s.p.me,bV 73 Ap s.p.dm,bV 149 BP s.p.lk,bV 3 A7 s.p.dr,bV 3 A7 s.p.tg,⟨[.os 4 11 0<|M s.p.cs,.xl .str s.p.os,.xl An s.p.ks,.xl Ag s.p.gs,.xl Am s.p.bs,.v<|ag J s.p.tk,.v<|.bool s.p.up,.os 5 5 0<|M s.p.ls,.v<|ag J s.p.se,.os 6 1 0<|M s.p.fl,.os 7 2 0<|M s.p.ra,.v<|ag J s.p.nx,.os 8 4 0<|M s.p.st,.os 9 5 0<|M s.p.ca,.os 10 3 0<|M s.p.mi,.os 11 3 0<|M s.p.me,.os 12 4 0<|M s.p.dm,.os 13 6 0<|M s.p.lk,.os 14 1 0<|M s.p.dr,.os 15 1 0<|M s.p.tg,.v<|ag J s.ev.ek,.v<|ag J s.ev.en,.v<|ag J s.ev.em,.v<|ag J s.ev.c1,.v<|ag J s.ev.c2,.v<|ag J s.ev.c3,.v<|ag J s.ev.c4,.v<|ag J s.ev.c5,.v<|.bool s.ev.d1,.v<|ag J s.ev.d2,.v<|ag J s.ev.d3,.v<|ag J s.ev.d4,.v<|.slice aj 0 0],115,.cl,X⟩,⟨[.own 16 0],111,.cl,X⟩,bV 149 BP s.left],λv b=>⟨AL v 4,AL v 5,rF b,rG b,Ad BP b 18⟩,zb,λs r=> {s with i:=r.i,left:=r.left},λs=>s,λ_ s=>s,[.exit 0],kz,kZ,gj⟩
abbrev aEJ:=Kw.run
abbrev atY:=Kw.Au
def vR:aVI:=[UJ]
def agT:Ay:=kI vR<|la 9 func26 Co<|l0 vR
def ayq:Rq kZ zb:=by
 intro s hI;refine ⟨λc1=>⟨?_,?_,λc2=>⟨?_,?_,A9,A9,A9,A9,A9,A9,A9,A9,A9,A9,A9,A9,A9,ak⟩,λc2=>⟨A9,A9,A9,A9,A9,A9,A9,A9,A9,A9,A9,A9,A9,A9,ak⟩⟩,λc1=>⟨A9,A9,A9,A9,A9,A9,A9,A9,A9,A9,A9,A9,A9,A9,ak⟩⟩
 all_goals ((obtain ⟨h0,h1,h2,h3,h4⟩:=hI;(try simp only [Ab] at c1);first|omega|exact ⟨rfl,rfl⟩ |(simp only [Bk,Bv,BI];omega) |(simp only [BI,Bk,Bv,Ez];done)))
def aRc:Kw.Ok:={}
def aR3:Kw.Pf (ac1):=⟨al2,λs h=>rfl,agj,ayq⟩
def Kb:=s2 (b:=bN f69 0) aRc aR3 vR agT
def ap7 {l:aWa}{i:Y}(h0:0<=i) (h:i<M l):l.drop i.toNat=l.getD i.toNat (Ty.dflt BP)::l.drop (i+1).toNat:=by
 rw [Sq A0,DA,Dh A0,show (i+1).toNat=i.toNat+1 by omega]
 rfl
def asV:Rs kz atY aEJ (λs:N0=>s.left++(s.p.lk.drop s.i.toNat).filter (λl=>l.2.2.1 !=s.ev.en)) (λx s' (v:aWa)=>x=.exit 0/\s'.left=v):=DZ aRc aR3 (λs hI=>by
  obtain ⟨h0,h1,h2,h3,h4⟩:=hI;refine AH (λc1=>?_) λc1=>?_
  ·have c1:s.i<s.n:=A8
   rw [AJ (x:=s.i+1),ap7 h0 A0];refine AH (λc2=>?_) λc2=>?_
   ·show _++[_]++_=_++_
    rw [NW,AD c2,Cx];rfl
   ·show _++_=_++_
    grind
  ·have c1:s.n<=s.i:=A8
   refine ⟨rfl,?_⟩;rw [Ew A0]
   simp)
def Jd (e:Y) (a b:PK):PK:=if e=0 then a else b
def Lx {e:Y}{a b:PK}(h:e=0):Jd e a b=a:=AD h
def Js {e:Y}{a b:PK}(h:e≠0):Jd e a b=b:=AE h
def Tk {α:Type}(l:List α):(l.drop 0).take (M l)=l:=AI
def fM {l:aVA}(h:M l<=1000):AA ((M l:Y)-1)=(M l:Y)-1:=AJ
structure OT where
 p:PK
 ev:EW
def Uy (s:OT):aVy:=[.own 16 0]
def ZE (s:OT):aVB:=[AP,AP,zB,AP,bV 81 Af s.p.cs,bV 134 AQ s.p.ls,bV 5 (.int aw) s.p.fl,bV 138 Aj s.p.ra,bV 99 B7 s.p.st,bV 71 AQ s.p.ca,bV 143 BA s.p.mi,bV 102 BT s.p.me,bV 73 Ap s.p.dm,bV 149 BP s.p.lk,bV 3 A7 s.p.dr,bV 3 A7 s.p.tg,⟨[.os 4 11 0<|M s.p.cs,.xl .str s.p.os,.xl An s.p.ks,.xl Ag s.p.gs,.xl Am s.p.bs,.v<|ag J s.p.tk,.v<|.bool s.p.up,.os 5 5 0<|M s.p.ls,.v<|ag J s.p.se,.os 6 1 0<|M s.p.fl,.os 7 2 0<|M s.p.ra,.v<|ag J s.p.nx,.os 8 4 0<|M s.p.st,.os 9 5 0<|M s.p.ca,.os 10 3 0<|M s.p.mi,.os 11 3 0<|M s.p.me,.os 12 4 0<|M s.p.dm,.os 13 6 0<|M s.p.lk,.os 14 1 0<|M s.p.dr,.os 15 1 0<|M s.p.tg,.v<|ag J s.ev.ek,.v<|ag J s.ev.en,.v<|ag J s.ev.em,.v<|ag J s.ev.c1,.v<|ag J s.ev.c2,.v<|ag J s.ev.c3,.v<|ag J s.ev.c4,.v<|ag J s.ev.c5,.v<|.bool s.ev.d1,.v<|ag J s.ev.d2,.v<|ag J s.ev.d3,.v<|ag J s.ev.d4,.v<|.slice aj 0 0],115,.cl,X⟩]
structure Y5 where
 res:Y
 p:PK
 ev:EW
def acP (s:Y5):LV:=.v<|ag J s.res
def ace (s:Y5):aVB:=[AP,AP,zB,AP,bV 81 Af s.p.cs,AP,bV 5 (.int aw) s.p.fl,bV 138 Aj s.p.ra,bV 99 B7 s.p.st,bV 71 AQ s.p.ca,bV 143 BA s.p.mi,bV 102 BT s.p.me,bV 73 Ap s.p.dm,bV 149 BP s.p.lk,bV 3 A7 s.p.dr,bV 3 A7 s.p.tg,⟨[.os 4 11 0<|M s.p.cs,.xl .str s.p.os,.xl An s.p.ks,.xl Ag s.p.gs,.xl Am s.p.bs,.v<|ag J s.p.tk,.v<|.bool s.p.up,.xl AQ s.p.ls,.v<|ag J s.p.se,.os 6 1 0<|M s.p.fl,.os 7 2 0<|M s.p.ra,.v<|ag J s.p.nx,.os 8 4 0<|M s.p.st,.os 9 5 0<|M s.p.ca,.os 10 3 0<|M s.p.mi,.os 11 3 0<|M s.p.me,.os 12 4 0<|M s.p.dm,.os 13 6 0<|M s.p.lk,.os 14 1 0<|M s.p.dr,.os 15 1 0<|M s.p.tg,.v<|ag J s.ev.ek,.v<|ag J s.ev.en,.v<|ag J s.ev.em,.v<|ag J s.ev.c1,.v<|ag J s.ev.c2,.v<|ag J s.ev.c3,.v<|ag J s.ev.c4,.v<|ag J s.ev.c5,.v<|.bool s.ev.d1,.v<|ag J s.ev.d2,.v<|ag J s.ev.d3,.v<|ag J s.ev.d4,.v<|.slice aj 0 0],115,.cl,X⟩]
def aAP (s:OT):T Y5:=
 .br (!s.p.up) (.rz s.p.ls<|.rl s.p.cs<|.rl s.p.fl<|.rl s.p.ra<|.pb s.p<|.ok<|⟨6,{s.p with ls:=(s.p.ls.drop 0).take<|M s.p.ls},s.ev⟩) (.rl s.p.cs<|.rl s.p.fl<|.rl s.p.ra<|.pb s.p<|.ok<|⟨0,{s.p with up:=X,ls:=([]:aVG)},s.ev⟩)
def aCU (s:OT):Prop:=True
def jI (s:OT):Y5:=⟨PK.N1 s.p,Jd (PK.N1 s.p) (PK.Pb s.p) s.p,s.ev⟩
def aCr:D8 OT Y5:=⟨Uy,ZE,λv b=>⟨rF b,rG b⟩,aCU,[0,1,3],[.pc 16 7 AQ,.kb 5],acP,ace,jI⟩
abbrev ais (s:OT):Prop:=aCU s/\Uy s=Uy s/\ZE s=ZE s
def gT:aVI:=[]
def aUi:DU:=Cb 69 18 2 (Kw.lp)<|Cb 26 0 9 (H3.lp)<|E5 prog AV (gT) 20 2
def apc:EZ prog AV aUi:=DO func69 rfl AU Kb<|DO func26 rfl AU Co<|Hz<|gk gT
def azS (s:OT):((El prog AV gT aUi GB).k 32 (Uy s)<|ZE s).bind (λq=>GO (M<|ZE s) [0] [.pc 16 7 AQ,.kb 5] .normal (q.1::Uy s) q.2)=(aAP s).mp (λs2=>⟨.normal,M (Uy s)+1,[acP s2],ace s2,U⟩):=AU
def awF (s:OT) (hE:aCU s):(aAP s).all (λq=>q=jI s):=by
 refine ⟨λc=>⟨A0,?_⟩,λc=>?_⟩
 ·have c:s.p.up=false:=A8
  have he:s.p.N1=6:=AD c
  rw [Tk]
  repeat (refine ⟨AI,?_⟩)
  show _=_
  unfold jI;rw [Js A8];rw [he]
 ·have c:s.p.up=true:=A8
  have he:s.p.N1=0:=AE A8
  repeat (refine ⟨AI,?_⟩)
  unfold jI;rw [he];rfl
def aic:Dp prog AV 32 aCr.m:=D8.sound (D:=aCr) (t:=aAP) (gk gT) apc Qg azS λs hE=>⟨awF s hE⟩
structure OO where
 p:PK
 ev:EW
def UU (s:OO):aVy:=[.own 16 0]
def Z8 (s:OO):aVB:=[AP,AP,zB,AP,bV 81 Af s.p.cs,bV 134 AQ s.p.ls,bV 5 (.int aw) s.p.fl,bV 138 Aj s.p.ra,bV 99 B7 s.p.st,bV 71 AQ s.p.ca,bV 143 BA s.p.mi,bV 102 BT s.p.me,bV 73 Ap s.p.dm,bV 149 BP s.p.lk,bV 3 A7 s.p.dr,bV 3 A7 s.p.tg,⟨[.os 4 11 0<|M s.p.cs,.xl .str s.p.os,.xl An s.p.ks,.xl Ag s.p.gs,.xl Am s.p.bs,.v<|ag J s.p.tk,.v<|.bool s.p.up,.os 5 5 0<|M s.p.ls,.v<|ag J s.p.se,.os 6 1 0<|M s.p.fl,.os 7 2 0<|M s.p.ra,.v<|ag J s.p.nx,.os 8 4 0<|M s.p.st,.os 9 5 0<|M s.p.ca,.os 10 3 0<|M s.p.mi,.os 11 3 0<|M s.p.me,.os 12 4 0<|M s.p.dm,.os 13 6 0<|M s.p.lk,.os 14 1 0<|M s.p.dr,.os 15 1 0<|M s.p.tg,.v<|ag J s.ev.ek,.v<|ag J s.ev.en,.v<|ag J s.ev.em,.v<|ag J s.ev.c1,.v<|ag J s.ev.c2,.v<|ag J s.ev.c3,.v<|ag J s.ev.c4,.v<|ag J s.ev.c5,.v<|.bool s.ev.d1,.v<|ag J s.ev.d2,.v<|ag J s.ev.d3,.v<|ag J s.ev.d4,.v<|.slice aj 0 0],115,.cl,X⟩]
structure Xz where
 res:Y
 p:PK
 ev:EW
def acJ (s:Xz):LV:=.v<|ag J s.res
def acV (s:Xz):aVB:=[AP,AP,zB,AP,bV 81 Af s.p.cs,bV 134 AQ s.p.ls,bV 5 (.int aw) s.p.fl,bV 138 Aj s.p.ra,bV 99 B7 s.p.st,bV 71 AQ s.p.ca,bV 143 BA s.p.mi,bV 102 BT s.p.me,bV 73 Ap s.p.dm,bV 149 BP s.p.lk,bV 3 A7 s.p.dr,bV 3 A7 s.p.tg,⟨[.os 4 11 0<|M s.p.cs,.xl .str s.p.os,.xl An s.p.ks,.xl Ag s.p.gs,.xl Am s.p.bs,.v<|ag J s.p.tk,.v<|.bool s.p.up,.os 5 5 0<|M s.p.ls,.v<|ag J s.p.se,.os 6 1 0<|M s.p.fl,.os 7 2 0<|M s.p.ra,.v<|ag J s.p.nx,.os 8 4 0<|M s.p.st,.os 9 5 0<|M s.p.ca,.os 10 3 0<|M s.p.mi,.os 11 3 0<|M s.p.me,.os 12 4 0<|M s.p.dm,.os 13 6 0<|M s.p.lk,.os 14 1 0<|M s.p.dr,.os 15 1 0<|M s.p.tg,.v<|ag J s.ev.ek,.v<|ag J s.ev.en,.v<|ag J s.ev.em,.v<|ag J s.ev.c1,.v<|ag J s.ev.c2,.v<|ag J s.ev.c3,.v<|ag J s.ev.c4,.v<|ag J s.ev.c5,.v<|.bool s.ev.d1,.v<|ag J s.ev.d2,.v<|ag J s.ev.d3,.v<|ag J s.ev.d4,.v<|.slice aj 0 0],115,.cl,X⟩]
def iS (s:OO):T Xz:=letI a:=(CW s.p.gs s.p.st s.ev.en (6:Y) (1:Y) (0:Y));.br (!(inB s.ev.en (0:Y)<|AA<|(M s.p.gs:Y)-1)) (.pc s.p<|.ok<|⟨1,s.p,s.ev⟩)<|.pc s.p<|.req (vv (⟨s.ev.en,6,1,0,s.p,s.ev⟩:M5))<|.pa s.p<|.rl a<|.rl s.p.ca<|.rl s.p.mi<|.rl s.p.me<|.rl s.p.dm<|.rl s.p.lk<|.rl s.p.dr<|.rl s.p.tg<|.ok<|⟨sE (AF s.p.gs s.ev.en) (BF s.p.st s.ev.en) (6:Y) (1:Y) (0:Y),{s.p with st:=a},s.ev⟩
def aCO (s:OO):Prop:=M s.p.st=M s.p.gs/\M s.p.gs<=1000
def jG (s:OO):Xz:=⟨PK.O6 s.p s.ev.en,{s.p with st:=if PK.isC s.p s.ev.en=U then CW s.p.gs s.p.st s.ev.en 6 1 0 else s.p.st},s.ev⟩
def aCl:D8 OO Xz:=⟨UU,Z8,λv b=>⟨rF b,rG b⟩,aCO,[0,1,3],[],acJ,acV,jG⟩
abbrev aim (s:OO):Prop:=aCO s/\UU s=UU s/\Z8 s=Z8 s
def IY:aVI:=[UJ]
def gN:Ay:=IJ IY (la 2 func69 Kb<|la 9 func26 Co<|l0 IY) [⟨68,aCt.m,aie⟩]
def aUr:DU:=Cb 69 18 2 (Kw.lp)<|Cb 26 0 9 (H3.lp)<|E5 prog AV IY 20 2
def apW:EZ prog AV aUr:=DO func69 rfl AU Kb<|DO func26 rfl AU Co<|Hz<|gk IY
def azM (s:OO):((El prog AV IY aUr gN).k 34 (UU s)<|Z8 s).bind (λq=>GO (M<|Z8 s) [0] [] .normal (q.1::UU s) q.2)=(iS s).mp (λs2=>⟨.normal,M (UU s)+1,[acJ s2],acV s2,U⟩):=AU
def awi (s:OO) (hE:aCO s):(iS s).all (λq=>q=jG s):=by
 obtain ⟨h1,h2⟩:=hE;unfold iS;rw [fM h2];refine ⟨λc=>?_,λc=>?_⟩
 ·have c:s.p.isC s.ev.en=false:=QX
  repeat (refine ⟨AI,?_⟩)
  show _=_
  unfold jG PK.O6
  simp_all
 ·have c:s.p.isC s.ev.en=true:=QX
  have ci:=BS.1 c
  have ci2:s.ev.en<(M s.p.gs:Y):=A0
  repeat (refine ⟨AI,?_⟩)
  refine ⟨⟨⟨ci.1,ci2,h1⟩,rfl,rfl⟩,?_⟩
  repeat (refine ⟨AI,?_⟩)
  show _=_
  unfold jG PK.O6
  grind
def aiW:Dp prog AV 34 aCl.m:=D8.sound (D:=aCl) (t:=iS) (gk IY) apW gN.h azM λs hE=>⟨awi s hE⟩
structure OS where
 p:PK
 ev:EW
def Ux (s:OS):aVy:=[.own 16 0]
def ZD (s:OS):aVB:=[AP,AP,zB,AP,bV 81 Af s.p.cs,bV 134 AQ s.p.ls,bV 5 (.int aw) s.p.fl,bV 138 Aj s.p.ra,bV 99 B7 s.p.st,bV 71 AQ s.p.ca,bV 143 BA s.p.mi,bV 102 BT s.p.me,bV 73 Ap s.p.dm,bV 149 BP s.p.lk,bV 3 A7 s.p.dr,bV 3 A7 s.p.tg,⟨[.os 4 11 0<|M s.p.cs,.xl .str s.p.os,.xl An s.p.ks,.xl Ag s.p.gs,.xl Am s.p.bs,.v<|ag J s.p.tk,.v<|.bool s.p.up,.os 5 5 0<|M s.p.ls,.v<|ag J s.p.se,.os 6 1 0<|M s.p.fl,.os 7 2 0<|M s.p.ra,.v<|ag J s.p.nx,.os 8 4 0<|M s.p.st,.os 9 5 0<|M s.p.ca,.os 10 3 0<|M s.p.mi,.os 11 3 0<|M s.p.me,.os 12 4 0<|M s.p.dm,.os 13 6 0<|M s.p.lk,.os 14 1 0<|M s.p.dr,.os 15 1 0<|M s.p.tg,.v<|ag J s.ev.ek,.v<|ag J s.ev.en,.v<|ag J s.ev.em,.v<|ag J s.ev.c1,.v<|ag J s.ev.c2,.v<|ag J s.ev.c3,.v<|ag J s.ev.c4,.v<|ag J s.ev.c5,.v<|.bool s.ev.d1,.v<|ag J s.ev.d2,.v<|ag J s.ev.d3,.v<|ag J s.ev.d4,.v<|.slice aj 0 0],115,.cl,X⟩]
structure Y4 where
 res:Y
 p:PK
 ev:EW
def acO (s:Y4):LV:=.v<|ag J s.res
def acd (s:Y4):aVB:=[AP,AP,zB,AP,bV 81 Af s.p.cs,bV 134 AQ s.p.ls,bV 5 (.int aw) s.p.fl,bV 138 Aj s.p.ra,bV 99 B7 s.p.st,bV 71 AQ s.p.ca,bV 143 BA s.p.mi,bV 102 BT s.p.me,bV 73 Ap s.p.dm,bV 149 BP s.p.lk,bV 3 A7 s.p.dr,bV 3 A7 s.p.tg,⟨[.os 4 11 0<|M s.p.cs,.xl .str s.p.os,.xl An s.p.ks,.xl Ag s.p.gs,.xl Am s.p.bs,.v<|ag J s.p.tk,.v<|.bool s.p.up,.os 5 5 0<|M s.p.ls,.v<|ag J s.p.se,.os 6 1 0<|M s.p.fl,.os 7 2 0<|M s.p.ra,.v<|ag J s.p.nx,.os 8 4 0<|M s.p.st,.os 9 5 0<|M s.p.ca,.os 10 3 0<|M s.p.mi,.os 11 3 0<|M s.p.me,.os 12 4 0<|M s.p.dm,.os 13 6 0<|M s.p.lk,.os 14 1 0<|M s.p.dr,.os 15 1 0<|M s.p.tg,.v<|ag J s.ev.ek,.v<|ag J s.ev.en,.v<|ag J s.ev.em,.v<|ag J s.ev.c1,.v<|ag J s.ev.c2,.v<|ag J s.ev.c3,.v<|ag J s.ev.c4,.v<|ag J s.ev.c5,.v<|.bool s.ev.d1,.v<|ag J s.ev.d2,.v<|ag J s.ev.d3,.v<|ag J s.ev.d4,.v<|.slice aj 0 0],115,.cl,X⟩]
def iX (s:OS):T Y4:=letI a:=(CW s.p.gs s.p.st s.ev.en (6:Y) (0:Y) (0:Y));letI b:=(CW s.p.gs a s.ev.en (2:Y) (0:Y) (0:Y));letI c:=(X,((0:Y),((0:Y),(9:Y))));letI d:=M s.p.ca;.br (!(inB s.ev.en (0:Y)<|AA<|(M s.p.gs:Y)-1)) (.pc s.p<|.ok<|⟨1,s.p,s.ev⟩)<|.ik s.ev.en d<|.br (!((s.p.ca.getD s.ev.en.toNat<|Ty.dflt AQ).2.2.1 !=0)) (.pc s.p<|.ok<|⟨4,s.p,s.ev⟩)<|.pc s.p<|.req (vv (⟨s.ev.en,6,0,0,s.p,s.ev⟩:M5))<|.pa s.p<|.rl a<|.rl s.p.ca<|.rl s.p.mi<|.rl s.p.me<|.rl s.p.dm<|.rl s.p.lk<|.rl s.p.dr<|.rl s.p.tg<|.req (vv (⟨s.ev.en,2,0,0,{s.p with st:=a},s.ev⟩:M5))<|.ik s.ev.en d<|.ik s.ev.en (M s.p.mi)<|.ik s.ev.en (M s.p.dm)<|.pa s.p<|.rl b<|.re d (s.p.ca.set s.ev.en.toNat ((0:Y),((0:Y),((0:Y),((0:Y),(0:Y))))))<|.re (M s.p.mi) (s.p.mi.set s.ev.en.toNat (([]:aVw),((0:Y),(0:Y))))<|.rl s.p.me<|.re (M s.p.dm) (s.p.dm.set s.ev.en.toNat c)<|.rl s.p.lk<|.rl s.p.dr<|.rl s.p.tg<|.ok<|⟨0,{s.p with st:=b,ca:=s.p.ca.set s.ev.en.toNat ((0:Y),((0:Y),((0:Y),((0:Y),(0:Y))))),mi:=s.p.mi.set s.ev.en.toNat (([]:aVw),((0:Y),(0:Y))),dm:=s.p.dm.set s.ev.en.toNat c},s.ev⟩
def aCT (s:OS):Prop:=M s.p.st=M s.p.gs/\M s.p.gs<=1000/\M s.p.ca=M s.p.gs/\M s.p.mi=M s.p.gs/\M s.p.dm=M s.p.gs
def Xp (s:OS):Y4:=⟨PK.JK s.p s.ev.en,Jd (PK.JK s.p s.ev.en) (PK.RB s.p s.ev.en) s.p,s.ev⟩
def aCq:D8 OS Y4:=⟨Ux,ZD,λv b=>⟨rF b,rG b⟩,aCT,[0,1,3],[],acO,acd,Xp⟩
abbrev air (s:OS):Prop:=aCT s/\Ux s=Ux s/\ZD s=ZD s
def aUh:DU:=Cb 69 18 2 (Kw.lp)<|Cb 26 0 9 (H3.lp)<|E5 prog AV IY 20 2
def apb:EZ prog AV aUh:=DO func69 rfl AU Kb<|DO func26 rfl AU Co<|Hz<|gk IY
def azR (s:OS):((El prog AV IY aUh gN).k 30 (Ux s)<|ZD s).bind (λq=>GO (M<|ZD s) [0] [] .normal (q.1::Ux s) q.2)=(iX s).mp (λs2=>⟨.normal,M (Ux s)+1,[acO s2],acd s2,U⟩):=AU
def awE (s:OS) (hE:aCT s):(iX s).all (λq=>q=Xp s):=by
 obtain ⟨h1,h2,h3,h4,h5⟩:=hE;unfold iX;rw [fM h2];refine ⟨λc=>?_,λc=>?_⟩
 ·have c:s.p.isC s.ev.en=false:=QX
  have he:s.p.JK s.ev.en=1:=AD c
  repeat (refine ⟨AI,?_⟩)
  show _=_
  unfold Xp;rw [Js Ma];rw [he]
 ·have c:s.p.isC s.ev.en=true:=QX
  have ci:=BS.1 c
  have ci2:s.ev.en<(M s.p.gs:Y):=A0
  have hc:¬s.p.isC s.ev.en=false:=bK
  refine ⟨A0,A0,λc2=>?_,λc2=>?_⟩
  ·have c2:(Bg s.p.ca s.ev.en).2.2.1=0:=by simp only [DB,bne_eq_false_iff_eq] at c2;exact c2
   have he:s.p.JK s.ev.en=4:=by unfold PK.JK;rw [AE hc,AD c2]
   repeat (refine ⟨AI,?_⟩)
   show _=_
   unfold Xp;rw [Js Ma];rw [he]
  ·have c2:¬(Bg s.p.ca s.ev.en).2.2.1=0:=by simp only [IP,F5] at c2;exact c2
   have he:s.p.JK s.ev.en=0:=by unfold PK.JK;rw [AE hc,AE c2]
   have hg:M (CW s.p.gs s.p.st s.ev.en 6 0 0)=M s.p.gs:=by rw [JB];exact h1
   repeat (refine ⟨AI,?_⟩)
   refine ⟨⟨⟨ci.1,ci2,h1⟩,rfl,rfl⟩,?_⟩
   repeat (refine ⟨A0,?_⟩)
   refine ⟨⟨⟨ci.1,ci2,hg⟩,rfl,rfl⟩,?_⟩
   repeat (refine ⟨A8,?_⟩)
   show _=_
   unfold Xp;rw [Lx he];rw [he];rfl
def aib:Dp prog AV 30 aCq.m:=D8.sound (D:=aCq) (t:=iX) (gk IY) apb gN.h azR λs hE=>⟨awE s hE⟩
structure OR where
 p:PK
 ev:EW
def Uw (s:OR):aVy:=[.own 16 0]
def ZC (s:OR):aVB:=[AP,AP,zB,AP,bV 81 Af s.p.cs,bV 134 AQ s.p.ls,bV 5 (.int aw) s.p.fl,bV 138 Aj s.p.ra,bV 99 B7 s.p.st,bV 71 AQ s.p.ca,bV 143 BA s.p.mi,bV 102 BT s.p.me,bV 73 Ap s.p.dm,bV 149 BP s.p.lk,bV 3 A7 s.p.dr,bV 3 A7 s.p.tg,⟨[.os 4 11 0<|M s.p.cs,.xl .str s.p.os,.xl An s.p.ks,.xl Ag s.p.gs,.xl Am s.p.bs,.v<|ag J s.p.tk,.v<|.bool s.p.up,.os 5 5 0<|M s.p.ls,.v<|ag J s.p.se,.os 6 1 0<|M s.p.fl,.os 7 2 0<|M s.p.ra,.v<|ag J s.p.nx,.os 8 4 0<|M s.p.st,.os 9 5 0<|M s.p.ca,.os 10 3 0<|M s.p.mi,.os 11 3 0<|M s.p.me,.os 12 4 0<|M s.p.dm,.os 13 6 0<|M s.p.lk,.os 14 1 0<|M s.p.dr,.os 15 1 0<|M s.p.tg,.v<|ag J s.ev.ek,.v<|ag J s.ev.en,.v<|ag J s.ev.em,.v<|ag J s.ev.c1,.v<|ag J s.ev.c2,.v<|ag J s.ev.c3,.v<|ag J s.ev.c4,.v<|ag J s.ev.c5,.v<|.bool s.ev.d1,.v<|ag J s.ev.d2,.v<|ag J s.ev.d3,.v<|ag J s.ev.d4,.v<|.slice aj 0 0],115,.cl,X⟩]
structure Y3 where
 res:Y
 p:PK
 ev:EW
def acN (s:Y3):LV:=.v<|ag J s.res
def acZ (s:Y3):aVB:=[AP,AP,zB,AP,bV 81 Af s.p.cs,bV 134 AQ s.p.ls,bV 5 (.int aw) s.p.fl,bV 138 Aj s.p.ra,bV 99 B7 s.p.st,bV 71 AQ s.p.ca,bV 143 BA s.p.mi,bV 102 BT s.p.me,bV 73 Ap s.p.dm,AP,bV 3 A7 s.p.dr,bV 3 A7 s.p.tg,⟨[.os 4 11 0<|M s.p.cs,.xl .str s.p.os,.xl An s.p.ks,.xl Ag s.p.gs,.xl Am s.p.bs,.v<|ag J s.p.tk,.v<|.bool s.p.up,.os 5 5 0<|M s.p.ls,.v<|ag J s.p.se,.os 6 1 0<|M s.p.fl,.os 7 2 0<|M s.p.ra,.v<|ag J s.p.nx,.os 8 4 0<|M s.p.st,.os 9 5 0<|M s.p.ca,.os 10 3 0<|M s.p.mi,.os 11 3 0<|M s.p.me,.os 12 4 0<|M s.p.dm,.xl BP s.p.lk,.os 14 1 0<|M s.p.dr,.os 15 1 0<|M s.p.tg,.v<|ag J s.ev.ek,.v<|ag J s.ev.en,.v<|ag J s.ev.em,.v<|ag J s.ev.c1,.v<|ag J s.ev.c2,.v<|ag J s.ev.c3,.v<|ag J s.ev.c4,.v<|ag J s.ev.c5,.v<|.bool s.ev.d1,.v<|ag J s.ev.d2,.v<|ag J s.ev.d3,.v<|ag J s.ev.d4,.v<|.slice aj 0 0],115,.cl,X⟩]
def iW (s:OR):T Y3:=letI b:=((M s.p.lk:aVx):Y);letI a:=(aEJ (⟨b,0,s.p,s.ev,([]:aWa)⟩:N0));.br (!(inB s.ev.en (0:Y)<|AA<|(M s.p.gs:Y)-1)) (.rz s.p.lk<|.pa s.p<|.rl s.p.st<|.rl s.p.ca<|.rl s.p.mi<|.rl s.p.me<|.rl s.p.dm<|.rl s.p.dr<|.rl s.p.tg<|.ok<|⟨1,{s.p with lk:=(s.p.lk.drop 0).take<|M s.p.lk},s.ev⟩)<|.r0 Lk<|.rl s.p.lk<|.pc s.p<|.req (Kw.q (⟨b,0,s.p,s.ev,([]:aWa)⟩:N0))<|.rz a.left<|.pa s.p<|.rl s.p.st<|.rl s.p.ca<|.rl s.p.mi<|.rl s.p.me<|.rl s.p.dm<|.rl s.p.dr<|.rl s.p.tg<|.ok<|⟨0,{s.p with lk:=(a.left.drop 0).take<|M a.left},s.ev⟩
def aCS (s:OR):Prop:=M s.p.gs<=1000/\M s.p.lk<=20000000
def jH (s:OR):Y3:=⟨PK.O8 s.p s.ev.en,Jd (PK.O8 s.p s.ev.en) (PK.iz s.p s.ev.en) s.p,s.ev⟩
def aCp:D8 OR Y3:=⟨Uw,ZC,λv b=>⟨rF b,rG b⟩,aCS,[0,1,3],[.pc 16 17 BP,.kb 13],acN,acZ,jH⟩
abbrev aiq (s:OR):Prop:=aCS s/\Uw s=Uw s/\ZC s=ZC s
def aSg:Ay:=kI IY<|la 2 func69 Kb<|la 9 func26 Co<|l0 IY
def aUg:DU:=Cb 69 18 2 (Kw.lp)<|Cb 26 0 9 (H3.lp)<|E5 prog AV IY 20 2
def apa:EZ prog AV aUg:=DO func69 rfl AU Kb<|DO func26 rfl AU Co<|Hz<|gk IY
def azQ (s:OR):((El prog AV IY aUg aSg).k 31 (Uw s)<|ZC s).bind (λq=>GO (M<|ZC s) [0] [.pc 16 17 BP,.kb 13] .normal (q.1::Uw s) q.2)=(iW s).mp (λs2=>⟨.normal,M (Uw s)+1,[acN s2],acZ s2,U⟩):=AU
def awD (s:OR) (hE:aCS s):(iW s).all (λq=>q=jH s):=by
 obtain ⟨h1,h2⟩:=hE;unfold iW;rw [fM h1];refine ⟨λc=>⟨A0,?_⟩,λc=>?_⟩
 ·have c:s.p.isC s.ev.en=false:=QX
  have he:s.p.O8 s.ev.en=1:=AD c
  rw [Tk]
  repeat (refine ⟨AI,?_⟩)
  show _=_
  unfold jH;rw [Js A8];rw [he]
 ·have c:s.p.isC s.ev.en=true:=QX
  have he:s.p.O8 s.ev.en=0:=AE A8
  have hV:kz (⟨((M s.p.lk:aVx):Y),(0:Y),s.p,s.ev,([]:aWa)⟩:N0):=⟨rfl,rfl,A8,A8⟩
  have q:=(asV _ hV).2
  rw [Tk,q]
  repeat (refine ⟨AI,?_⟩)
  refine ⟨⟨hV,rfl,rfl⟩,?_⟩
  repeat (refine ⟨AI,?_⟩)
  unfold jH;rw [he];rfl
def aia:Dp prog AV 31 aCp.m:=D8.sound (D:=aCp) (t:=iW) (gk IY) apa aSg.h azQ λs hE=>⟨awD s hE⟩
open Go.RowKit Go.Extern.Stop Go.Stop Go.Extern Go Go.Sx
def aus (v:aVQ) (w:aVJ):(Extern.ReflectliteType.typeOf #[.iface 53 v]).run prog w=.ok (.iface 346<|.agg #[.pointer<|ah ⟨3,53,aj⟩]) w:=AU
def aLe:aVS->Sem Value:=Extern.ReflectliteType.method λt=>do Extern.Rtype.noPackHeld "Comparable" t;pure<|.bool (←typeInfo t).comparable
def aeJ (w:aVJ):(aLe #[.agg #[.pointer<|ah ⟨3,53,aj⟩]]).run prog w=.ok (.bool U) w:=AU
def aut (v:aVQ) (w:aVJ):(Go.method 487 346 v "Comparable").run prog w=.ok (255,v) w:=AU
def amU (v:aVQ) (xT:aVN) (w:aVJ):(Instr.typeAssert (.iface 53 v) xT 348 U).run prog w=.ok (.tuple #[.nilIface,.bool X]) w:=xp Tryz.underlying348 AU AU v xT w
def afp (v:aVQ) (xT:aVN) (w:aVJ):(Instr.typeAssert (.iface 53 v) xT 351 U).run prog w=.ok (.tuple #[.nilIface,.bool X]) w:=xp Tryz.underlying351 AU AU v xT w
def afG (v:aVQ) (xT:aVN) (w:aVJ):(Instr.typeAssert (.iface 53 v) xT 353 U).run prog w=.ok (.tuple #[.nilIface,.bool X]) w:=xp Tryz.underlying353 AU AU v xT w
def afo (n m:Y) (w:aVJ):Calls prog 223 #[.iface 53<|ag J n,.iface 53<|ag J m] w λe w'=>e=.returned (.bool<|n==m)/\w'=w:=by
 have hu:=Tryz.underlying339
 have h8:=@run_callFunc_extern prog 229 _ Extern.ReflectliteType.typeOf func229 AU AU AU AU
 have h32:=@run_callFunc_extern prog 255 _ aLe func255 AU AU AU AU
 have tT:=aus
 have cT:=aeJ
 have mR:=aut
 have nE:=amU
 have uE:=afp
 have vE:=afG
 have heq:=Go.Lib.run_eql_iface_int (P:=prog) w (k:=J) n m hu (by kernel_rfl:(prog.info? 53).map (·.comparable)=ah U) (by kernel_rfl:prog.underlying 53=ah (.int J))
 by_cases e:n=m
 ·subst e
  simp only [Oo] at heq|-;exact aMY
 ·have e':(n==m)=false:=zQ
  simp only [e'] at heq|-;exact aMY
def abn:aVy->T LV
 | [.v (.iface 53 (ag J n)),.v (.iface 53 (ag J m))]=> .ok (.v<|.bool<|n==m)
 |_=> .no
def ir:VV 223 abn:=λargs vals w Z lv hz hg hok hr h=>by
 unfold abn at h;split at h
 ·rename_i n m
  subst h;simp only [RL,R] at hr
  have e2:vals=#[.iface 53<|ag J n,.iface 53<|ag J m]:=by
   grind
  rw [e2];refine (afo n m w).mono λe w' ⟨he,hw⟩=>?_
  subst hw;exact ⟨Below.refl _ _,_,he,ak,Jm⟩
 ·cases h
def aUP:aVy->T LV
 | [.agg [.v (ag J se),.xl (.int aw) fl]]=> .ok (Hh se fl)
 |_=> .no
def gH:aVI:=[]
def Xd:=vo (S:=aUP) func107 gH kN (λargs lv h=>by
 unfold aUP at h;split at h
 ·rename_i se fl
  refine At (letI a:=(M fl:Y);.br (an<|se>=1) (.br (an<|se<=512) (.br (an<|a>=se) (.br (an<|a<=4096) (.req (se≠0)<|.ok<|.v<|.bool<|(a.tmod se)==0)<|.ok X)<|.ok X)<|.ok X)<|.ok X) ?_;obtain rfl:=h;unfold Hh;refine ⟨λc1=>⟨λc2=>⟨λc3=>⟨λc4=>⟨?_,?_⟩,λc4=>?_⟩,λc3=>?_⟩,λc2=>?_⟩,λc1=>?_⟩
  ·grind
  all_goals refine B2 (λz=>LV.v<|.bool z) ?_
  all_goals first|(simp_all;done) |(simp_all;intros;omega) |(simp_all;omega)
 ·cases h)
def aTe:aVy->T LV
 | [.agg [.v (ag J se),.xl (.int aw) fl]]=> .ok (FC se fl)
 |_=> .no
def ah5:aVI:=[Xd]
def aAC:=vo (S:=aTe) func86 ah5 kN (λargs lv h=>by
 unfold aTe at h;split at h
 ·rename_i se fl
  refine At (.br (Hh se fl) (.req (se≠0)<|.req ((2:Y)≠0)<|.ok<|.v<|.bool<|(((AA<|(M fl:Y).tdiv se).tmod 2)==0)&&(an<|(M fl:Y)>=32))<|.ok X) ?_;obtain rfl:=h;unfold FC;refine ⟨λc1=>?_,λc1=>?_⟩
  ·have hv:=Nn.1 c1
   refine ⟨A0,Aa,?_⟩;refine B2 (λz=>LV.v<|.bool z) ?_
   rw [c1,AJ (x:=(M fl:Y).tdiv se) (by rw [IL A0];exact Fm Aa<|Su A0 A0) (by rw [IL A0];exact Fm (Vb _ A0) A0)]
   rfl
  ·refine B2 (λz=>LV.v<|.bool z) ?_
   rw [c1];rfl
 ·cases h)
def aUO:aVy->T LV
 | [.v (ag ax n)]=> .ok (.xl (.int aw)<|D6 n)
 |_=> .no
def ak1:=vo (S:=aUO) func202 gH kN (λargs lv h=>by
 unfold aUO at h;split at h
 ·rename_i n
  refine At (.ok<|.xl (.int aw)<|[(IntKind.u8.wrap<|n.fdiv<|2^24),(IntKind.u8.wrap<|n.fdiv<|2^16),(IntKind.u8.wrap<|n.fdiv<|2^8),(IntKind.u8.wrap n)]) ?_;exact h
 ·cases h)
def aU4:aVy->T LV
 | [.xl (.int aw) b]=> .req (4<=M b) (.ok<|.v<|ag ax<|H8 b)
 |_=> .no
def aA9:=vo (S:=aU4) func173 gH kN (λargs lv h=>by
 unfold aU4 at h;split at h
 ·rename_i b
  refine At (letI a:=(M b:Y);.req (0<=(0:Y)/\0<a)<|.req (0<=(1:Y)/\1<a)<|.req (0<=(2:Y)/\2<a)<|.req (0<=(3:Y)/\3<a)<|.ok<|.v<|ag ax<|Dc ax (Dc ax (Dc ax (IntKind.u32.wrap<|(IntKind.u32.wrap<|gi b (0:Y))*2^24)<|IntKind.u32.wrap<|(IntKind.u32.wrap<|gi b (1:Y))*2^16)<|IntKind.u32.wrap<|(IntKind.u32.wrap<|gi b (2:Y))*2^8)<|IntKind.u32.wrap<|gi b (3:Y)) ?_;obtain ⟨h0,rfl⟩:=h;exact ⟨⟨A0,A0⟩,⟨A0,A0⟩,⟨A0,A0⟩,⟨A0,A0⟩,rfl⟩
 ·cases h)
def aUd:aVy->T LV
 | [.agg [.v (ag J se),.xl (.int aw) fl],.v (ag J w)]=> .req ((w=0\/w=1)/\M fl<=4096) (.ok<|.xl (.int aw)<|Bq fl w)
 |_=> .no
def aAE:=vo (S:=aUd) func172 gH kN (λargs lv h=>by
 unfold aUd at h;split at h
 ·rename_i se fl w
  refine At (letI a:=(AA<|(M fl:Y).tdiv 2);letI b:=AA<|(AA<|w+1)*a;letI c:=AA<|w*a;.req ((2:Y)≠0)<|.req (0<=c/\c<=b/\b<=(M fl:Y)/\b=b)<|.ok<|.xl (.int aw)<|(fl.drop c.toNat).take<|b.toNat-c.toNat) ?_;obtain ⟨⟨h0,h1⟩,rfl⟩:=h
  have e1:(M fl:Y).tdiv 2=((M fl / 2:aVx):Y):=AI
  have e2:AA ((M fl / 2:aVx):Y)=((M fl / 2:aVx):Y):=AJ
  rw [e1,e2];rcases h0 with rfl|rfl
  ·rw [Int.zero_mul,show (0:Y)+1=1 from rfl,show AA 0=0 from rfl,show AA 1=1 from rfl,Zz,e2]
   refine ⟨Aa,⟨A0,A0,A0,rfl⟩,?_⟩;refine B2 (LV.xl<|.int aw) ?_;rfl
  ·rw [Zz,show (1:Y)+1=2 from rfl,show AA 2=2 from rfl,e2,AJ (x:=2*((M fl / 2:aVx):Y))]
   refine ⟨Aa,⟨A0,A0,A0,rfl⟩,?_⟩;refine B2 (LV.xl<|.int aw) ?_
   congr 1
   omega
 ·cases h)
def aUW:aVy->T LV
 | [.agg [.v (ag J se),.xl (.int aw) fl]]=> .req (FC se fl=U) (.tu #[Av fl,I8 fl])
 |_=> .no
def ah4:aVI:=[aAE,aA9]
def aaS := vo (S:=aUW) func171 ah4 kN (λargs lv h=>by
 unfold aUW at h;split at h
 ·rename_i se fl
  refine At (letI d:=(Bq fl (0:Y));letI f:=(Bq fl (1:Y));letI b:=((f.drop (1:Y).toNat).take<|(5:Y).toNat-(1:Y).toNat);letI c:=((d.drop (1:Y).toNat).take<|(5:Y).toNat-(1:Y).toNat);.req (((0:Y)=0\/(0:Y)=1)/\M fl<=4096)<|.req (((1:Y)=0\/(1:Y)=1)/\M fl<=4096)<|.req (0<=(0:Y)/\0<(M d:Y))<|.req (0<=(0:Y)/\0<(M f:Y))<|.br (((gi d (0:Y))==80)&&((gi f (0:Y))==80)) (.req (0<=(1:Y)/\(1:Y)<=(5:Y)/\(5:Y)<=(M f:Y))<|.req (4<=M b)<|.req (0<=(1:Y)/\(1:Y)<=(5:Y)/\(5:Y)<=(M d:Y))<|.req (4<=M c)<|.br (an<|(H8 b)>(H8 c)) (.tu #[(1:Y),(0:Y)])<|.tu #[(0:Y),(0:Y)])<|.br ((gi d (0:Y))==80) (.tu #[(0:Y),(0:Y)])<|.br ((gi f (0:Y))==80) (.tu #[(1:Y),(0:Y)])<|.tu #[(0:Y),(4:Y)]) ?_;obtain ⟨h0,rfl⟩:=h;obtain ⟨_,_,h32,hl,_⟩:=Ml.1 h0
  have l0:=dA fl 0
  have l1:=dA fl 1
  have fin:∀a e:Y,a=Av fl->e=I8 fl->LV.v (.tuple #[ag J a,ag J e])=LV.v (.tuple #[ag J<|Av fl,ag J<|I8 fl]):=λa e h1 h2=>zV
  have ew:∀w,H8 (((Bq fl w).drop (1:Y).toNat).take<|(5:Y).toNat-(1:Y).toNat)=JS fl w:=λw=>rfl
  simp only [ew];refine ⟨?_,?_⟩
  ·first|exact ⟨Aa,hl⟩ |omega|decide|(refine ⟨?_,?_⟩<;>omega) |(simp only [MT,FN];omega) |(refine ⟨Aa,Aa,?_⟩;omega)
  ·refine ⟨?_,?_⟩
   ·grind
   ·refine ⟨?_,?_⟩
    ·omega
    ·refine ⟨?_,?_⟩
     ·omega
     ·refine ⟨λc1=>?_,λc1=>?_⟩
      ·refine ⟨?_,?_⟩
       ·omega
       ·refine ⟨?_,?_⟩
        ·grind
        ·refine ⟨?_,?_⟩
         ·omega
         ·refine ⟨?_,?_⟩
          ·grind
          ·refine ⟨λc2=>?_,λc2=>?_⟩
           ·refine fin _ _ ?_ ?_<;>simp_all [Av,I8]
           ·refine fin _ _ ?_ ?_<;>simp_all [Av,I8]
      ·refine ⟨λc2=>?_,λc2=>?_⟩
       ·refine fin _ _ ?_ ?_<;>simp_all [Av,I8]
       ·refine ⟨λc3=>?_,λc3=>?_⟩
        ·refine fin _ _ ?_ ?_<;>simp_all [Av,I8]
        ·refine fin _ _ ?_ ?_<;>simp_all [Av,I8]
 ·cases h)
structure N3 where
 x:Y
 t8:aVD
 (t9 t10:Y)
 l:aVw
 (n i:Y)
def aHL:=lN (bN f209 0) 0
def zd (s:N3):T (Rd N3):=
 .br (an<|s.i<s.n) (.ix s.i (M s.l)<|.nx {s with x:=IntKind.u32.wrap<|(aLA ax s.x<|IntKind.u32.wrap<|gi s.l s.i)*16777619,i:=AA<|s.i+1}) (.so (.exit 2) s)
def l9 (s:N3):Prop:=s.i=0/\s.n<=70000/\s.n=(M s.l:Y)
def jq (s:N3):Prop:=0<=s.i/\s.i<=s.n/\s.n<=70000/\s.n=(M s.l:Y)
def uV (s:N3):aVx:=(s.n-s.i).toNat
def ac3 (x:Ex) (s s':N3):Prop:=True
def alH:∀s,l9 s->jq s:=by
 exact mf
def ag9:Da jq uV ac3 zd:=by
 intro s hI;obtain ⟨h0,h1,h2,h3⟩:=hI;refine AH (λc1=>?_) λc1=>?_
 ·have c1:s.i<s.n:=A8
  rw [AJ (x:=s.i+1)];exact ⟨⟨A8,A8,h2,h3⟩,by simp only [uV];omega⟩
 ·trivial
def Rj:AS N3:=⟨0,28,[3,8,9,10,14,15,16],[],λs=>[.v<|ag ax s.x,.xl (.sl<|.int aw) s.t8,s.t9,s.t10,.xl (.int aw) s.l,s.n,s.i],λ_=>[],λv b=>⟨AL v 0,B9 (.sl<|.int aw) v 1,AL v 2,AL v 3,B9 (.int aw) v 4,AL v 5,AL v 6⟩,zd,λs r=> {s with x:=r.x,i:=r.i},λs=>s,λ_ s=>s,[.exit 2],l9,jq,uV⟩
abbrev aIV:=Rj.run
abbrev atZ:=Rj.Au
def ays:Rq jq zd:=by
 intro s hI;refine ⟨λc1=>⟨?_,ak⟩,λ_=>trivial⟩
 ·(obtain ⟨h0,h1,h2,h3⟩:=hI;simp only [Ab] at c1;omega)
def gG:aVI:=[]
def aRe:Rj.Ok:={}
def aR5:Rj.Pf (ac3):=⟨alH,λs h=>rfl,ag9,ays⟩
def aqC:SA 0 aHL Rj:=s1 aRe aR5 gG kN
def as5:Rs l9 atZ aIV (λs:N3=>Sg s.x<|s.l.drop s.i.toNat) (λx s' (v:Y)=>x=.exit 2/\s'.x=v):=DZ aRe aR5 (λs hI=>by
  obtain ⟨h0,h1,h2,h3⟩:=hI;refine AH (λc1=>?_) λc1=>?_
  ·have c1:s.i<s.n:=A8
   rw [AJ (x:=s.i+1)];rw [(gi_step h0 A0).1];rfl
  ·have c1:s.n<=s.i:=A8
   refine ⟨rfl,?_⟩;rw [Ew A0];rfl)
structure N4 where
 x:Y
 l:aVD
 (n i:Y)
def rP:=bN f209 0
def ze (s:N4):T (Rd N4):=
 .br (an<|s.i<s.n) (.ix s.i (M s.l)<|.req (Rj.q (⟨s.x,s.l,s.n,s.i,gx (e:=.sl<|.int aw) s.l s.i,(M (gx (e:=.sl<|.int aw) s.l s.i):Y),0⟩:N3))<|.nx {s with x:=(aIV (⟨s.x,s.l,s.n,s.i,gx (e:=.sl<|.int aw) s.l s.i,(M (gx (e:=.sl<|.int aw) s.l s.i):Y),0⟩:N3)).x,i:=AA<|s.i+1}) (.so (.exit 0) s)
def IA (l:aVD):Prop:=∀p∈l,M p<=70000
def Wy {l:aVD}(h:IA l) {i:Y}(h0:0<=i) (h1:i<(M l:Y)):M (gx (e:=.sl<|.int aw) l i)<=70000:=by
 have:gx (e:=.sl<|.int aw) l i=l[i.toNat]' A0:=Lz A0
 rw [this];exact h _<|Gf _
def lA (s:N4):Prop:=s.i=0/\s.n<=1000/\s.n=(M s.l:Y)/\IA s.l
def YU (s:N4):Prop:=0<=s.i/\s.i<=s.n/\s.n<=1000/\s.n=(M s.l:Y)/\IA s.l
def uW (s:N4):aVx:=(s.n-s.i).toNat
def ac4 (x:Ex) (s s':N4):Prop:=True
def alI:∀s,lA s->YU s:=by
 exact aE
def aSy (s:N4) (hI:YU s) (c1:s.i<s.n):l9 (⟨s.x,s.l,s.n,s.i,(gx (e:=.sl<|.int aw) s.l s.i),(M (gx (e:=.sl<|.int aw) s.l s.i):Y),(0:Y)⟩:N3):=by
 obtain ⟨h0,h1,h2,h3,h4⟩:=hI
 have:=Wy h4 h0 A0
 refine ⟨rfl,?_,rfl⟩
 show (M (gx (e:=.sl<|.int aw) s.l s.i):Y)<=70000
 omega
def agA:Da YU uW ac4 ze:=by
 intro s hI;obtain ⟨h0,h1,h2,h3,h4⟩:=hI;refine AH (λc1=>?_) λc1=>trivial
 have c1:s.i<s.n:=A8
 rw [AJ (x:=s.i+1)];exact ⟨⟨A8,A8,h2,h3,h4⟩,by simp only [uW];omega⟩
def Rk:AS N4:=⟨0,28,[3,8,9,10],[],λs=>[.v<|ag ax s.x,.xl (.sl<|.int aw) s.l,s.n,s.i],λ_=>[],λv b=>⟨AL v 0,B9 (.sl<|.int aw) v 1,AL v 2,AL v 3⟩,ze,λs r=> {r with l:=s.l,n:=s.n},λs=>s,λ_ s=>s,[.exit 0],lA,YU,uW⟩
abbrev aIW:=Rk.run
abbrev ata:=Rk.Au
def ayt:Rq YU ze:=by
 intro s hI;refine ⟨λc1=>⟨?_,?_,ak⟩,λ_=>trivial⟩
 ·exact aNI
 ·exact ⟨aSy s hI A8,rfl,rfl⟩
def aRf:Rk.Ok:={}
def aR6:Rk.Pf (ac4):=⟨alI,λs h=>rfl,agA,ayt⟩
def aqD:SA 0 rP Rk:=AS.snd aRf aR6 (pN (Γ:=gG) (K:=GB) (L:=(λi=>if i=6 then Rj.lp else Al i)) (gk gG) kN.h rP (λb hb=>by
 rw [show BE _=[aHL] by kernel_rfl] at hb
 simp only [BB,Bx,By] at hb;subst hb;exact aqC)) λs=>AU
def Wo {l:aVD}{i:Y}(h0:0<=i) (h:i<(M l:Y)):l.drop i.toNat=gx (e:=.sl<|.int aw) l i::l.drop (i+1).toNat:=(Qr h0 h).1
def as6:Rs lA ata aIW (λs:N4=>(s.l.drop s.i.toNat).foldl Sg s.x) (λx s' (v:Y)=>x=.exit 0/\s'.x=v):=DZ aRf aR6 (λs hI=>by
  have hin:=λc1=>aSy s hI c1
  obtain ⟨h0,h1,h2,h3,h4⟩:=hI;refine AH (λc1=>?_) λc1=>?_
  ·have c1:s.i<s.n:=A8
   rw [AJ (x:=s.i+1)]
   have hr:=(as5 _<|hin c1).2
   rw [hr,Wo h0 A0];rfl
  ·have c1:s.n<=s.i:=A8
   refine ⟨rfl,?_⟩;rw [Ew A0];rfl)
def aUZ:aVy->T LV
 | [.xl (.sl (.int aw)) ps]=> .req (M ps<=1000/\IA ps) (.ok<|.v<|ag ax<|PT ps)
 |_=> .no
def aAD:=vm (S:=aUZ) func209 gG kN (L:=(λi=>if i=3 then Rk.lp else Al i)) (λb hb=>by
 rw [show BE _=[rP] by kernel_rfl] at hb
 simp only [BB,Bx,By] at hb;subst hb;exact aqD) (λargs lv h=>by
 unfold aUZ at h;split at h
 ·rename_i ps
  refine At (.req (Rk.q (⟨2166136261,ps,(M ps:Y),0⟩:N4))<|.ok<|.v<|ag ax (aIW (⟨2166136261,ps,(M ps:Y),0⟩:N4)).x) ?_;obtain ⟨⟨h0,h1⟩,rfl⟩:=h
  have hE:lA ⟨2166136261,ps,(M ps:Y),0⟩:=⟨rfl,Ac,rfl,h1⟩
  obtain ⟨q1,q2⟩:=as6 _ hE;refine ⟨⟨hE,rfl,rfl⟩,?_⟩;refine B2 (λz=>LV.v<|ag ax z) ?_
  exact q2
 ·cases h)
def aj6:aVy->T LV:=λ_=> .no
def aPb:VV 1000035 aj6:=by
 exact yU
def aTz:aVy->T LV
 | [.xl (.int aw) d]=> .req (M d<=70000) (.ok<|.xl (.int aw)<|Bw d)
 |_=> .no
def ahl:aVI:=[ak1,aAD,aPb]
def aA8:=vo (S:=aTz) func195 ahl kN (λargs lv h=>by
 unfold aTz at h;split at h
 ·rename_i d
  refine At (letI a:=(IntKind.u8.wrap<|(M d:Y).fdiv<|2^8);letI b:=(IntKind.u8.wrap (M d:Y));letI c:=(D6<|PT<|[(([a,b]).drop 0).take 2,d]);.req (0+2<=M ([a,b]))<|.ra 1 (M<|[(80:Y)]) (1+M ((([a,b]).drop 0).take 2)) 1<|.req (0+2<=M ([a,b]))<|.req (M ([(([a,b]).drop 0).take 2,d])<=1000/\IA ([(([a,b]).drop 0).take 2,d]))<|.ra (1+M ((([a,b]).drop 0).take 2)) (M<|([(80:Y)])++((([a,b]).drop 0).take 2)) (1+M ((([a,b]).drop 0).take 2)+M c) 1<|.ra (1+M ((([a,b]).drop 0).take 2)+M c) (M<|(([(80:Y)])++((([a,b]).drop 0).take 2))++c) (1+M ((([a,b]).drop 0).take 2)+M c+M d) 1<|.req (0+(1+M ((([a,b]).drop 0).take 2)+M c+M d)<=M (((([(80:Y)])++((([a,b]).drop 0).take 2))++c)++d))<|.ok<|.xl (.int aw)<|((((([(80:Y)])++((([a,b]).drop 0).take 2))++c)++d).drop 0).take<|1+M ((([a,b]).drop 0).take 2)+M c+M d) ?_;obtain ⟨h0,rfl⟩:=h
  have e:(([(IntKind.u8.wrap<|(M d:Y).fdiv<|2^8),(IntKind.u8.wrap (M d:Y))].drop 0).take 2)=KF d:=rfl
  have e2:M (KF d)=2:=rfl
  have e4:∀n,M (D6 n)=4:=λ_=>rfl
  simp only [e]
  have hk:IA [KF d,d]:=by
   intro p hp;simp only [BB,Bx,By] at hp;rcases hp with rfl|rfl
   ·rw [e2];omega
   ·exact h0
  iterate 7 refine ⟨A8,?_⟩
  refine B2 (LV.xl<|.int aw) ?_;rw [Di A8];rfl
 ·cases h)
def aG0 {b:aVw}:∀ {n m f:aVx},M b<=n+f->M b<=m+f->Ha b n f=Ha b m f
 |0,0,_,_,_=>rfl
 |0,m+1,f,h,_=>aOg
 |n+1,0,f,_,h=>aOg
 |n+1,m+1,f,h1,h2=>by
  simp only [Ha];rw [aG0 (n:=n) (m:=m) (f:=f+7+G9 b f) A0 A0]
def Ja (b:aVw) (f:aVx):List (List Int)×Nat×Bool:=Ha b (M b) f
def Wx (b:aVw) (f:aVx):Ja b f=if f<M b/\gi b (f:Y)=80 then (if rcG b f then (HR b f::(Ja b<|f+7+G9 b f).1,(Ja b<|f+7+G9 b f).2) else ([],f,X)) else ([],f,U):=by
 unfold Ja;rw [aG0 (n:=M b) (m:=M b+1) (f:=f) A0 A0];rfl
def aAs:Array Tmp×Code×Code:=((J5<|f134.body.getD .skip)[0]?).getD (#[],.skip,.skip)
def akE:aWt:=aAs.1
def akT:aV7:=aAs.2.1
def akL:aV7:=aAs.2.2
structure G2 where
 (from_ Hy:Y)
 Hw:aVw
 (PC P0 PS:Y)
 P7:aVH
 (b2 dp cU EF:Y)
 dU:aVH
 b:aVw
 rs:aVD
 st:LS
def lkS (s:G2):aVw:=((s.b.drop (AA<|s.from_+1).toNat).take<|(AA<|s.from_+3).toNat-(AA<|s.from_+1).toNat)
def Ef (s:G2):Y:=(AA<|(AA<|(AA<|s.from_+7)+(AA<|(AA<|gi (lkS s) (0:Y))*2^8))+(AA<|gi (lkS s) (1:Y)))
def lkP (s:G2):aVD:=([(s.b.drop (AA<|s.from_+1).toNat).take<|(AA<|s.from_+3).toNat-(AA<|s.from_+1).toNat,(s.b.drop (AA<|s.from_+7).toNat).take<|(Ef s).toNat-(AA<|s.from_+7).toNat])
def lkH (s:G2):aVw:=((s.b.drop (AA<|s.from_+3).toNat).take<|(AA<|s.from_+7).toNat-(AA<|s.from_+3).toNat)
def LI (s:G2):aVw:=((s.b.drop (AA<|s.from_+7).toNat).take<|(Ef s).toNat-(AA<|s.from_+7).toNat)
def Q9 (s:G2):T (Rd G2):=letI a:=(s.rs++([((([]:aVw)++([]:aVw)).drop 0).take<|0+M ([]:aVw)]));letI c:=(M s.rs+M ([((([]:aVw)++([]:aVw)).drop 0).take<|0+M ([]:aVw)]));letI d:=(s.rs++([((([]:aVw)++(LI s)).drop 0).take<|0+M (LI s)]));letI e:=(M s.b:Y);letI f:=(M<|[((([]:aVw)++([]:aVw)).drop 0).take<|0+M ([]:aVw)]);letI g:=(M s.rs+M ([((([]:aVw)++(LI s)).drop 0).take<|0+M (LI s)]));letI h:=AA<|s.from_+7;letI i:=(M ([]:aVw));letI j:=AA<|s.from_+3;letI k:=(PT<|lkP s)==(H8<|lkH s);letI l:=(M (lkS s):Y);letI m:=M s.rs;.br (an<|s.from_<e) (.ix s.from_ (M s.b)<|.br ((gi s.b s.from_)==80) (.br (an<|h<=e) (.req (0<=(AA<|s.from_+1)/\(AA<|s.from_+1)<=j/\j<=e)<|.req (0<=(0:Y)/\0<l)<|.req (0<=(1:Y)/\1<l)<|.br (an<|(Ef s)<=e) (.req (0<=h/\h<=(Ef s)/\(Ef s)<=e/\(Ef s)=(Ef s))<|.req (0<=j/\j<=h/\h<=e)<|.req (M (lkP s)<=1000/\IA (lkP s))<|.req (4<=M (lkH s))<|.br (! k) (.rl s.rs<|.so (.ret) {s with PC:=(0:Y),P0:=(0:Y),PS:=(0:Y),P7:=X,b2:=(11:Y),st:=.done<|.ret})<|.ra 0 i (0+M (LI s)) 1<|.req (0+(0+M (LI s))<=M (([]:aVw)++(LI s)))<|.rb m (M<|[((([]:aVw)++(LI s)).drop 0).take<|0+M (LI s)]) 24<|.br (! k) (.re g d<|.so (.ret) {s with EF:=Ef s,rs:=d})<|.re g d<|.nx {s with from_:=Ef s,EF:=Ef s,rs:=d})<|.br (!X) (.rl s.rs<|.so (.ret) {s with PC:=(0:Y),P0:=(0:Y),PS:=(0:Y),P7:=X,b2:=(11:Y),st:=.done<|.ret})<|.ra 0 i (0+M ([]:aVw)) 1<|.req (0+(0+M ([]:aVw))<=M (([]:aVw)++([]:aVw)))<|.rb m f 24<|.br (!X) (.re c a<|.so (.ret) {s with EF:=e,rs:=a})<|.re c a<|.nx {s with from_:=e,EF:=e,rs:=a})<|.br (!X) (.rl s.rs<|.so (.ret) {s with PC:=(0:Y),P0:=(0:Y),PS:=(0:Y),P7:=X,b2:=(11:Y),st:=.done<|.ret})<|.ra 0 i (0+M ([]:aVw)) 1<|.req (0+(0+M ([]:aVw))<=M (([]:aVw)++([]:aVw)))<|.rb m f 24<|.br (!X) (.re c a<|.so (.ret) {s with EF:=e,rs:=a})<|.re c a<|.nx {s with from_:=e,EF:=e,rs:=a})<|.rl s.rs<|.so (.exit 0) s)<|.rl s.rs<|.so (.exit 0) s
def aBV {b:aVw}(h:BN b) (i:Y):0<=gi b i/\gi b i<=255:=by
 unfold gi;rw [DA];cases e:b[i.toNat]? with
 |none=>decide
 |some x=>exact h x<|Oj e
def ab2 {b:aVw}{m n k:aVx}(h:k<n):gi ((b.drop m).take n) (k:Y)=gi b ((m+k:aVx):Y):=by
 unfold gi
 grind
def MB (s:G2) (hb:BN s.b) (h0:0<=s.from_) (h7:s.from_+7<=(M s.b:Y)) (hl:M s.b<=4096):
  Ef s=s.from_+7+G9 s.b s.from_.toNat/\M (lkS s)=2/\lkH s=(s.b.drop<|s.from_.toNat+3).take 4/\LI s=HR s.b s.from_.toNat/\lkP s=[(s.b.drop<|s.from_.toNat+1).take 2,HR s.b s.from_.toNat]:=by
 obtain ⟨f,hf⟩:=QG h0
 have w1:AA (s.from_+1)=s.from_+1:=AJ
 have w3:AA (s.from_+3)=s.from_+3:=AJ
 have w7:AA (s.from_+7)=s.from_+7:=AJ
 have t1:(s.from_+1).toNat=f+1:=A0
 have t3:(s.from_+3).toNat=f+3:=A0
 have t7:(s.from_+7).toNat=f+7:=A0
 have tf:s.from_.toNat=f:=A0
 have eS:lkS s=(s.b.drop<|f+1).take 2:=by
  unfold lkS;rw [w1,w3,t1,t3,show f+3-(f+1)=2 by omega]
 have b1:=aBV hb ((f+1:aVx):Y)
 have b2:=aBV hb ((f+2:aVx):Y)
 have g0:gi (lkS s) (0:Y)=gi s.b ((f+1:aVx):Y):=by rw [eS];exact ab2 (k:=0) Aa
 have g1:gi (lkS s) (1:Y)=gi s.b ((f+2:aVx):Y):=by rw [eS];exact ab2 (k:=1) Aa
 have hN:G9 s.b f=(gi s.b ((f+1:aVx):Y)).toNat*256+(gi s.b ((f+2:aVx):Y)).toNat:=rfl
 have eT:Ef s=s.from_+7+G9 s.b f:=by
  unfold Ef;rw [g0,g1,w7,AJ (x:=gi s.b ((f+1:aVx):Y)),AJ (x:=gi s.b ((f+1:aVx):Y)*2^8),AJ (x:=gi s.b ((f+2:aVx):Y)),AJ (x:=s.from_+7+gi s.b ((f+1:aVx):Y)*2^8),AJ];omega
 have eD:(s.b.drop (AA<|s.from_+7).toNat).take ((Ef s).toNat-(AA<|s.from_+7).toNat)=HR s.b f:=by
  unfold HR;rw [eT,w7,t7,show (s.from_+7+(G9 s.b f:Y)).toNat-(f+7)=G9 s.b f by omega]
 rw [tf];refine ⟨eT,by rw [eS];simp only [MT,FN];omega,?_,eD,?_⟩
 ·unfold lkH
  rw [w3,w7,t3,t7,show f+7-(f+3)=4 by omega]
 ·unfold lkP
  rw [eD,w1,w3,t1,t3,show f+3-(f+1)=2 by omega]
def aLS (s:G2) (hb:BN s.b) (h0:0<=s.from_) (h7:s.from_+7<=(M s.b:Y)) (hl:M s.b<=4096) (hT:Ef s<=(M s.b:Y)):rcG s.b s.from_.toNat=(PT (lkP s)==H8 (lkH s)):=by
 obtain ⟨e1,e2,e3,e4,e5⟩:=MB s hb h0 h7 hl;unfold rcG rcF;rw [e3,e5,CY (p:=s.from_.toNat+7<=M s.b) A0,CY (p:=s.from_.toNat+7+G9 s.b s.from_.toNat<=M s.b) A0];rfl
def aLT (s:G2) (h0:0<=s.from_) (hl:M s.b<=4096) (h:(M s.b:Y)<s.from_+7\/(M s.b:Y)<s.from_+7+G9 s.b s.from_.toNat):rcG s.b s.from_.toNat=false:=by
 unfold rcG rcF
 by_cases h1:s.from_.toNat+7<=M s.b
 ·rw [IM (p:=s.from_.toNat+7+G9 s.b s.from_.toNat<=M s.b) A0,Sv]
  rfl
 ·rw [IM (p:=s.from_.toNat+7<=M s.b) h1]
  rfl
def asW (fx:Ex->G2->G2) (hr:∀s',fx .ret s'={s' with st:=.done .ret}) (h0:∀s',fx (.exit 0) s'={s' with st:=.ready}) (s:G2) (h:s.st=.ready):DV (λ_=>True) (λx s'=>fx x s'=s') ((Q9 s).rd s):=by
 obtain ⟨from_,Hy,Hw,PC,P0,PS,P7,b2,dp,cU,EF,dU,b,rs,st⟩:=s;subst h;unfold Q9;dsimp only [T.rd,T.rl,T.rv];refine AH (λc1=>?_) λc1=>?_
 ·refine AH (λc2=>?_) (λc2=>?_)
  ·refine AH (λc3=>?_) (λc3=>?_)
   ·refine AH (λc4=>?_) (λc4=>?_)
    ·refine AH (λc5=>?_) (λc5=>?_)
     ·exact hr _
     ·refine AH (λc6=>?_) (λc6=>?_)
      ·grind
      ·trivial
    ·refine AH (λc5=>?_) (λc5=>?_)
     ·exact hr _
     ·refine AH (λc6=>?_) (λc6=>?_)
      ·grind
      ·grind
   ·refine AH (λc4=>?_) (λc4=>?_)
    ·exact hr _
    ·refine AH (λc5=>?_) (λc5=>?_)
     ·grind
     ·grind
  ·exact h0 _
 ·exact h0 _
def oW (s:G2):Prop:=s.st=.ready/\5<=s.from_/\s.from_<=(M s.b:Y)/\M s.b<=4096/\BN s.b/\s.EF=s.from_/\(M s.rs:Y)<=s.from_
def oM (s:G2):Prop:=s.st=.ready/\5<=s.from_/\s.from_<=(M s.b:Y)/\M s.b<=4096/\BN s.b/\s.EF=s.from_/\(M s.rs:Y)<=s.from_
def aBB (s:G2):aVx:=((M s.b:Y)-s.from_).toNat
def aLk (x:Ex) (s s':G2):Prop:=True
def ao1:∀s,oW s->oM s:=by
 exact λs h=>h
def al4:Da oM aBB aLk Q9:=by
 intro s hI;unfold Q9;dsimp only [T.rd,T.rl,T.rv];refine AH (λc1=>?_) λc1=>?_
 ·refine AH (λc2=>?_) (λc2=>?_)
  ·refine AH (λc3=>?_) (λc3=>?_)
   ·refine AH (λc4=>?_) (λc4=>?_)
    ·refine AH (λc5=>?_) (λc5=>?_)
     ·trivial
     ·refine AH (λc6=>?_) (λc6=>?_)
      ·grind
      ·obtain ⟨ht,h5,hl,h4,hb,he,hr⟩:=hI
       have w7:AA (s.from_+7)=s.from_+7:=AJ
       have c3:s.from_+7<=(M s.b:Y):=A8
       have c4:=DH c4
       obtain ⟨e1,e2,e3,e4,e5⟩:=MB s hb A0 c3 h4;refine ⟨⟨ht,A8,c4,h4,hb,rfl,?_⟩,?_⟩
       ·grind
       ·simp only [aBB];omega
    ·refine AH (λc5=>?_) (λc5=>?_)
     ·trivial
     ·refine AH (λc6=>?_) (λc6=>?_)
      ·grind
      ·grind
   ·refine AH (λc4=>?_) (λc4=>?_)
    ·trivial
    ·refine AH (λc5=>?_) (λc5=>?_)
     ·grind
     ·grind
  ·trivial
 ·trivial
def Sk:AS G2:=⟨6,83,[0,1,3],[.nc 3 2 35<|.sl<|.int aw],λs=>[.CS 5,.own 4 0,s.from_],λs=>[⟨[s.Hy,.xl (.int aw) s.Hw],37,.cl,X⟩,⟨[s.PC,.v<|ag ax s.P0,.v<|.slice aj 0 0,s.PS,s.P7],255,.cl,X⟩,⟨[s.b2],53,.cl,X⟩,⟨[s.dp,.v<|ag ax s.cU,.os 6 1 0<|M s.rs,s.EF,s.dU],255,.cl,X⟩,⟨[.xl (.int aw) s.b],35,.cl,X⟩,⟨[.junk,.junk,.own 1 0,.own 2 0,.junk,.junk,.junk,.own 3 0,.v<|.tuple #[],.junk,.junk,.junk,.junk,.junk,.junk,.junk,.junk,.junk,.junk,.junk,.junk,.junk,.junk,.junk,.junk,.junk,.junk,.junk,.junk,.junk,.junk,.junk,.junk,.junk,.v<|.tuple #[],.v<|.tuple #[],.v<|.tuple #[],.v<|.tuple #[],.v<|.tuple #[],.v<|.tuple #[],.v<|.tuple #[],.v<|.tuple #[],.v<|.tuple #[],.v<|.tuple #[],.v<|.tuple #[],.v<|.tuple #[],.v<|.tuple #[],.v<|.tuple #[],.v<|.tuple #[],.v<|.tuple #[],.v<|.tuple #[],.junk,.junk,.junk,.junk,.junk,.junk,.junk,.junk,.junk,.junk,.junk,.junk,.junk,.junk,.junk,.junk,.junk,.junk],0,.Cr akE akT akL s.st,X⟩,⟨[],35,.vec (.sl<|.int aw) s.rs,X⟩],λv b=>⟨AL v 2,Ak b 0 0,AG (.int aw) b 0 1,Ak b 1 0,Ak b 1 1,Ak b 1 3,Lc b 1 4,Ak b 2 0,Ak b 3 0,Ak b 3 1,Ak b 3 3,Lc b 3 4,AG (.int aw) b 4 0,Ad (.sl<|.int aw) b 6,.ready⟩,Q9,λs r=> {r with Hy:=s.Hy,Hw:=s.Hw,dp:=s.dp,cU:=s.cU,dU:=s.dU,b:=s.b},λs=> {s with st:=.ready},λx s=> {s with st:=(match x with| .ret=>(.done<|.ret) | .exit 0=> .ready|_=> .ready)},[.ret,.exit 0],oW,oM,aBB⟩
abbrev Gp:=Sk.run
abbrev aTS:=Sk.Au
def wF:aVI:=[aAC,aaS,aAE,aA9,aAD]
def ahR:Ay:=kI wF<|l0 wF
def akq:Rq oM Q9:=by
 intro s hI;refine ⟨λc1=>⟨?_,λc2=>⟨λc3=>⟨?_,?_,?_,λc4=>⟨?_,?_,?_,?_,λc5=>⟨A9,ak⟩,λc5=>⟨?_,?_,?_,λc6=>⟨?_,ak⟩,λc6=>⟨?_,ak⟩⟩⟩,λc4=>⟨λc7=>⟨A9,ak⟩,λc7=>⟨?_,?_,?_,λc8=>⟨?_,ak⟩,λc8=>⟨?_,ak⟩⟩⟩⟩,λc3=>⟨λc9=>⟨A9,ak⟩,λc9=>⟨?_,?_,?_,λc10=>⟨?_,ak⟩,λc10=>⟨?_,ak⟩⟩⟩⟩,λc2=>⟨A9,ak⟩⟩,λc1=>⟨A9,ak⟩⟩
 ·(obtain ⟨ht,h5,hl,h4,hb,he,hr⟩:=hI;have w7:AA (s.from_+7)=s.from_+7:=AJ;have w1:AA (s.from_+1)=s.from_+1:=AJ;have w3:AA (s.from_+3)=s.from_+3:=AJ;simp only [Ab] at c1;omega)
 iterate 3 · (obtain ⟨ht,h5,hl,h4,hb,he,hr⟩:=hI;have w7:AA (s.from_+7)=s.from_+7:=AJ;have w1:AA (s.from_+1)=s.from_+1:=AJ;have w3:AA (s.from_+3)=s.from_+3:=AJ;have k3:s.from_+7<=(M s.b:Y):=Ox;obtain ⟨e1,e2,e3,e4,e5⟩:=MB s hb A0 k3 h4;(first|omega|(rw [w1,w3];omega) |(rw [w3,w7];omega)))
 iterate 2 · (obtain ⟨ht,h5,hl,h4,hb,he,hr⟩:=hI;have w7:AA (s.from_+7)=s.from_+7:=AJ;have w1:AA (s.from_+1)=s.from_+1:=AJ;have w3:AA (s.from_+3)=s.from_+3:=AJ;have k3:s.from_+7<=(M s.b:Y):=Ox;obtain ⟨e1,e2,e3,e4,e5⟩:=MB s hb A0 k3 h4;have k4:Ef s<=(M s.b:Y):=DH c4;have hD:M (HR s.b s.from_.toNat)<=4096:=aZ;(first|omega|(rw [w1,w3];omega) |(rw [w3,w7];omega) |(rw [w7];exact ⟨A0,A0,k4,rfl⟩)))
 ·(obtain ⟨ht,h5,hl,h4,hb,he,hr⟩:=hI;have w7:AA (s.from_+7)=s.from_+7:=AJ;have w1:AA (s.from_+1)=s.from_+1:=AJ;have w3:AA (s.from_+3)=s.from_+3:=AJ;have k3:s.from_+7<=(M s.b:Y):=Ox;obtain ⟨e1,e2,e3,e4,e5⟩:=MB s hb A0 k3 h4;have k4:Ef s<=(M s.b:Y):=DH c4;have hD:M (HR s.b s.from_.toNat)<=4096:=aZ;rw [e5];refine ⟨AI,λp hp=>?_⟩;simp only [BB,Bx,By] at hp;rcases hp with rfl|rfl;(first|(simp only [MT,FN];omega) |omega);omega)
 ·(obtain ⟨ht,h5,hl,h4,hb,he,hr⟩:=hI;have w7:AA (s.from_+7)=s.from_+7:=AJ;have w1:AA (s.from_+1)=s.from_+1:=AJ;have w3:AA (s.from_+3)=s.from_+3:=AJ;have k3:s.from_+7<=(M s.b:Y):=Ox;obtain ⟨e1,e2,e3,e4,e5⟩:=MB s hb A0 k3 h4;have k4:Ef s<=(M s.b:Y):=DH c4;have hD:M (HR s.b s.from_.toNat)<=4096:=aZ;rw [e3];simp only [MT,FN];omega)
 ·(obtain ⟨ht,h5,hl,h4,hb,he,hr⟩:=hI;have w7:AA (s.from_+7)=s.from_+7:=AJ;have w1:AA (s.from_+1)=s.from_+1:=AJ;have w3:AA (s.from_+3)=s.from_+3:=AJ;have k3:s.from_+7<=(M s.b:Y):=Ox;obtain ⟨e1,e2,e3,e4,e5⟩:=MB s hb A0 k3 h4;have k4:Ef s<=(M s.b:Y):=DH c4;have hD:M (HR s.b s.from_.toNat)<=4096:=aZ;rw [e4];simp only [BI,Bk,Bv,Ez];try omega)
 ·grind
 iterate 3 · (obtain ⟨ht,h5,hl,h4,hb,he,hr⟩:=hI;have w7:AA (s.from_+7)=s.from_+7:=AJ;have w1:AA (s.from_+1)=s.from_+1:=AJ;have w3:AA (s.from_+3)=s.from_+3:=AJ;have k3:s.from_+7<=(M s.b:Y):=Ox;obtain ⟨e1,e2,e3,e4,e5⟩:=MB s hb A0 k3 h4;have k4:Ef s<=(M s.b:Y):=DH c4;have hD:M (HR s.b s.from_.toNat)<=4096:=aZ;rw [e4];simp only [BI,Bk,Bv,Ez];try omega)
 iterate 5 · exact absurd c7 Aa
 iterate 5 · exact absurd c9 Aa
def abD:Sk.Ok:=⟨λs=>AU,λs _=>asW Sk.fx (λ_=>rfl) (λ_=>rfl) (Sk.rd s) rfl,λs=>rfl,λs t r=>rfl,λs=>rfl,λs=>AU⟩
def aaI:Sk.Pf (aLk):=⟨ao1,λs h=>by
 obtain ⟨from_,Hy,Hw,PC,P0,PS,P7,b2,dp,cU,EF,dU,b,rs,st⟩:=s
 have e:=h.1
 subst e;rfl,al4,akq⟩
def axj:=s2 (b:=bN f208 0) abD aaI wF ahR
def agn:Rs oW aTS Gp (λs:G2=>(s.rs++(Ja s.b s.from_.toNat).1,(Ja s.b s.from_.toNat).2.1,(Ja s.b s.from_.toNat).2.2)) (λx s' (v:List (List Int)×Nat×Bool)=>(x=.exit 0/\s'.rs=v.1/\s'.EF=(v.2.1:Y)/\v.2.2=U)\/(x=.ret/\v.2.2=X/\s'.b2=11/\s'.PC=0/\s'.P0=0/\s'.PS=0/\s'.P7=X)):=DZ abD aaI (λs hI=>by
  show DV _ _ ((Q9 s).rd s)
  unfold Q9;dsimp only [T.rd,T.rl];refine AH (λc1=>?_) λc1=>?_
  ·refine AH (λc2=>?_) (λc2=>?_)
   ·refine AH (λc3=>?_) (λc3=>?_)
    ·refine AH (λc4=>?_) (λc4=>?_)
     ·refine AH (λc5=>?_) (λc5=>?_)
      ·obtain ⟨ht,h5,hl,h4,hb,he,hr⟩:=hI
       have w7:AA (s.from_+7)=s.from_+7:=AJ
       have hq:=Wx s.b s.from_.toNat
       rw [CO A0] at hq;rw [AD ⟨nT,EX⟩] at hq
       have k3:s.from_+7<=(M s.b:Y):=Ox
       obtain ⟨e1,e2,e3,e4,e5⟩:=MB s hb A0 k3 h4
       have hg:=aLS s hb A0 k3 h4<|DH c4
       have hg:rcG s.b s.from_.toNat=false:=aPF
       exact xx
      ·refine AH (λc6=>?_) (λc6=>?_)
       ·exact absurd (c5.symm.trans c6) Aa
       ·obtain ⟨ht,h5,hl,h4,hb,he,hr⟩:=hI
        have w7:AA (s.from_+7)=s.from_+7:=AJ
        have hq:=Wx s.b s.from_.toNat
        rw [CO A0] at hq;rw [AD ⟨nT,EX⟩] at hq
        have k3:s.from_+7<=(M s.b:Y):=Ox
        obtain ⟨e1,e2,e3,e4,e5⟩:=MB s hb A0 k3 h4
        have hg:=aLS s hb A0 k3 h4<|DH c4
        have hg:rcG s.b s.from_.toNat=true:=aPF
        rw [AD hg] at hq
        have et:(Ef s).toNat=s.from_.toNat+7+G9 s.b s.from_.toNat:=A0
        have ed:((([]:aVw)++LI s).drop 0).take (0+M (LI s))=HR s.b s.from_.toNat:=by
         rw [e4,ES,CX,Eh];exact Di<|Aq _
        show (s.rs++[_]++(Ja s.b (Ef s).toNat).1,(Ja s.b (Ef s).toNat).2.1,(Ja s.b (Ef s).toNat).2.2)=(s.rs++(Ja s.b s.from_.toNat).1,(Ja s.b s.from_.toNat).2.1,(Ja s.b s.from_.toNat).2.2)
        rw [ed,et,hq];simp only [Cx,KG,ES]
     ·refine AH (λc5=>?_) (λc5=>?_)
      ·obtain ⟨ht,h5,hl,h4,hb,he,hr⟩:=hI
       have w7:AA (s.from_+7)=s.from_+7:=AJ
       have hq:=Wx s.b s.from_.toNat
       rw [CO A0] at hq;rw [AD ⟨nT,EX⟩] at hq
       have k3:s.from_+7<=(M s.b:Y):=Ox
       obtain ⟨e1,e2,e3,e4,e5⟩:=MB s hb A0 k3 h4
       have hg:=aLT s A0 h4<|.inr (by have:=KJ c4;omega)
       exact xx
      ·refine AH (λc6=>?_) (λc6=>?_)
       ·exact absurd c5 Aa
       ·exact absurd c5 Aa
    ·refine AH (λc4=>?_) (λc4=>?_)
     ·obtain ⟨ht,h5,hl,h4,hb,he,hr⟩:=hI
      have w7:AA (s.from_+7)=s.from_+7:=AJ
      have hq:=Wx s.b s.from_.toNat
      rw [CO A0] at hq;rw [AD ⟨nT,EX⟩] at hq
      have hg:=aLT s A0 h4<|.inl (by rw [w7] at c3;have:=KJ c3;omega)
      exact xx
     ·refine AH (λc5=>?_) (λc5=>?_)
      ·exact absurd c4 Aa
      ·exact absurd c4 Aa
   ·obtain ⟨ht,h5,hl,h4,hb,he,hr⟩:=hI
    have hq:=Wx s.b s.from_.toNat
    rw [CO A0] at hq;rw [AE A8] at hq;rw [hq];exact .inl ⟨rfl,(Gg _).symm,Ac,rfl⟩
  ·obtain ⟨ht,h5,hl,h4,hb,he,hr⟩:=hI
   have hq:=Wx s.b s.from_.toNat
   rw [CO A0] at hq;rw [AE A8] at hq;rw [hq];exact .inl ⟨rfl,(Gg _).symm,Ac,rfl⟩)
structure NN where
 l:aVw
 (n i tB aDN w8:Y)
 rA:aVH
 (b1 XH W7 UY:Y)
 JC:aVH
 rs:aVD
def aKO:=bN f134 0
def aD8 (s:NN):T (Rd NN):=
 .br (an<|s.i<s.n) (.ix s.i (M s.l)<|.br s.JC (.rl s.rs<|.nx {s with i:=AA<|s.i+1,JC:=((gi s.l s.i)==255)})<|.rl s.rs<|.nx {s with i:=AA<|s.i+1,JC:=X}) (.rl s.rs<|.so (.exit 2) s)
def oZ (s:NN):Prop:=s.i=0/\s.n<=4096/\s.n=(M s.l:Y)
def oN (s:NN):Prop:=0<=s.i/\s.i<=s.n/\s.n<=4096/\s.n=(M s.l:Y)
def wS (s:NN):aVx:=(s.n-s.i).toNat
def aLl (x:Ex) (s s':NN):Prop:=True
def ao4:∀s,oZ s->oN s:=by
 exact mf
def al6:Da oN wS aLl aD8:=by
 intro s hI;obtain ⟨h0,h1,h2,h3⟩:=hI;refine AH (λc1=>?_) λc1=>?_
 ·refine AH (λc2=>?_) (λc2=>?_)
  ·exact aMZ
  ·exact aMZ
 ·trivial
def Sl:AS NN:=⟨0,69,[2,3,7,54,55,56],[],λs=>[.own 0 0,.own 1 0,.own 2 0,.xl (.int aw) s.l,s.n,s.i],λs=>[⟨[s.tB,.v<|ag ax s.aDN,.v<|.slice aj 0 0,s.w8,s.rA],255,.cl,X⟩,⟨[s.b1],53,.cl,X⟩,⟨[s.XH,.v<|ag ax s.W7,.os 3 1 0<|M s.rs,s.UY,s.JC],255,.cl,X⟩,⟨[],35,.vec (.sl<|.int aw) s.rs,X⟩],λv b=>⟨B9 (.int aw) v 3,AL v 4,AL v 5,Ak b 0 0,Ak b 0 1,Ak b 0 3,Lc b 0 4,Ak b 1 0,Ak b 2 0,Ak b 2 1,Ak b 2 3,Lc b 2 4,Ad (.sl<|.int aw) b 3⟩,aD8,λs r=> {s with i:=r.i,JC:=r.JC},λs=>s,λ_ s=>s,[.exit 2],oZ,oN,wS⟩
abbrev u9:=Sl.run
abbrev ahK:=Sl.Au
def aks:Rq oN aD8:=by
 exact aLz
def gF:aVI:=[aAC,aaS,aAE,aA9,aAD]
def aSm:Ay:=kI gF<|la 1 func208 axj<|l0 gF
def abG:Sl.Ok:={}
def aVl:Sl.Pf (aLl):=⟨ao4,λs h=>rfl,al6,aks⟩
def axk:SA 0 aKO Sl:=s1 abG aVl gF aSm
def agt:Rs oZ ahK u9 (λs:NN=>s.JC&&(s.l.drop s.i.toNat).all (λb=>b==255)) (λx s' (v:aVH)=>x=.exit 2/\s'.JC=v):=DZ abG aVl (λs hI=>by
  obtain ⟨h0,h1,h2,h3⟩:=hI;refine AH (λc1=>AH (λc2=>?_) λc2=>?_) λc1=>?_
  ·have c1:s.i<s.n:=A8
   rw [AJ (x:=s.i+1)]
   show (_&&_)=(_&&_)
   rw [(gi_step h0 A0).1,It,c2,EU]
  ·have c1:s.i<s.n:=A8
   rw [c2];rfl
  ·have c1:s.n<=s.i:=A8
   refine ⟨rfl,?_⟩;rw [Ew A0];exact (mC _).symm)
def vj {b:aVw}:∀ {n f:aVx},f<=M b->(Ha b n f).2.1<=M b
 |0,_,h=>h
 | n+1,f,h=>by
  simp only [Ha];split
  ·split
   ·rename_i hg
    unfold rcG rcF at hg;simp only [AX,Ab] at hg;exact vj (n:=n) hg.1.2
   ·exact h
  ·exact h
def Em (se:Y) (fl:aVw):Y:=if Bu se fl=0 then Av fl else 0
def Ig (se:Y) (fl:aVw):Y:=if Bu se fl=0 then JS fl (Av fl) else 0
def F9 (se:Y) (fl:aVw):aVD:=if Bu se fl=0 then (Et fl).1 else []
def HO (se:Y) (fl:aVw):Y:=if Bu se fl=0 then ((Et fl).2.1:Y) else 0
def L1 (se:Y) (fl:aVw):aVH:=if Bu se fl=0 then MP fl else X
def aKB:aVy->T LV
 | [.agg [.v (ag J se),.xl (.int aw) fl]]=> .req (BN fl) (.ok<|.AO [.agg [Em se fl,.v<|ag ax<|Ig se fl,.xl (.sl<|.int aw)<|F9 se fl,HO se fl,L1 se fl],Bu se fl])
 |_=> .no
def Ei (se:Y) (fl:aVw):G2:=(⟨5,se,fl,0,0,0,X,0,Av fl,H8<|((Bq fl<|Av fl).drop (1:Y).toNat).take<|(5:Y).toNat-(1:Y).toNat,5,U,Bq fl<|Av fl,([]:aVD),.ready⟩:G2)
def eK (se:Y) (fl:aVw):NN:=(⟨((Bq fl<|Av fl).drop (Gp<|Ei se fl).EF.toNat).take<|(M (Bq fl<|Av fl):Y).toNat-(Gp<|Ei se fl).EF.toNat,(M (((Bq fl<|Av fl).drop (Gp<|Ei se fl).EF.toNat).take<|(M (Bq fl<|Av fl):Y).toNat-(Gp<|Ei se fl).EF.toNat):Y),0,(Gp<|Ei se fl).PC,(Gp<|Ei se fl).P0,(Gp<|Ei se fl).PS,(Gp<|Ei se fl).P7,(Gp<|Ei se fl).b2,Av fl,H8<|((Bq fl<|Av fl).drop (1:Y).toNat).take<|(5:Y).toNat-(1:Y).toNat,(Gp<|Ei se fl).EF,U,(Gp<|Ei se fl).rs⟩:NN)
def gA:=vm (S:=aKB) func134 gF aSm (L:=(λi=>if i=15 then Sl.lp else Al i)) (λb hb=>by
 rw [show BE _=[aKO] by kernel_rfl] at hb
 simp only [BB,Bx,By] at hb;subst hb;exact axk) (λargs lv h=>by
 unfold aKB at h;split at h
 ·rename_i se fl
  refine At (letI d:=Gp<|Ei se fl;letI f:=(M (Bq fl<|Av fl):Y);letI j:=(((Bq fl<|Av fl).drop (1:Y).toNat).take<|(5:Y).toNat-(1:Y).toNat);letI k:=List Int;.br (!(FC se fl)) (.ok<|.AO [.agg [(0:Y),.v<|ag ax 0,.xl (.sl<|.int aw) ([]:List k),(0:Y),X],(1:Y)])<|.req (FC se fl=U)<|.br ((I8 fl) !=0) (.ok<|.AO [.agg [(0:Y),.v<|ag ax 0,.xl (.sl<|.int aw) ([]:List k),(0:Y),X],(I8 fl)])<|.req (((Av fl)=0\/(Av fl)=1)/\M fl<=4096)<|.req (0<=(1:Y)/\(1:Y)<=(5:Y)/\(5:Y)<=f)<|.req (4<=M j)<|.r0 k<|.req (Sk.q<|Ei se fl)<|.br (Bs (aTS<|Ei se fl)<|.ret) (.ok<|.AO [.agg [d.PC,.v<|ag ax d.P0,.xl (.sl<|.int aw) ([]:List k),d.PS,d.P7],d.b2])<|.req (0<=d.EF/\d.EF<=f/\f<=f)<|.rl d.rs<|.req (Sl.q<|eK se fl)<|.rz d.rs<|.ok<|.AO [.agg [(Av fl),.v<|ag ax<|H8 j,.xl (.sl<|.int aw)<|(d.rs.drop 0).take<|M d.rs,d.EF,(u9<|eK se fl).JC],(0:Y)]) ?_;obtain ⟨hb,rfl⟩:=h
  have fin:∀(a g:Y) (r:aVD) (n:Y) (c:aVH) (e:Y),a=Em se fl->g=Ig se fl->r=F9 se fl->n=HO se fl->c=L1 se fl->e=Bu se fl->
   LV.AO [.agg [.v<|ag J a,.v<|ag ax g,.xl (.sl<|.int aw) r,.v<|ag J n,.v<|.bool c],.v<|ag J e]=LV.AO [.agg [.v<|ag J<|Em se fl,.v<|ag ax<|Ig se fl,.xl (.sl<|.int aw)<|F9 se fl,.v<|ag J<|HO se fl,.v<|.bool<|L1 se fl],.v<|ag J<|Bu se fl]:=λa g r n c e h1 h2 h3 h4 h5 h6=>by rw [h1,h2,h3,h4,h5,h6]
  refine ⟨λc1=>?_,λc1=>⟨AY,λc2=>?_,λc2=>?_⟩⟩
  ·have c1:FC se fl=false:=AY
   have hE:Bu se fl=1:=by unfold Bu;rw [AD c1]
   refine fin _ _ _ _ _ _ ?_ ?_ ?_ ?_ ?_ hE.symm<;>simp [Em,Ig,F9,HO,L1,hE]
  ·have c1:FC se fl=true:=AY
   have c2:I8 fl≠0:=EX
   have hE:Bu se fl=I8 fl:=by unfold Bu;rw [AE bP,AD c2]
   refine fin _ _ _ _ _ _ ?_ ?_ ?_ ?_ ?_ hE.symm<;>simp [Em,Ig,F9,HO,L1,hE,c2]
  have c1:FC se fl=true:=AY
  have c2:I8 fl=0:=EX
  have hj:=Ml.1 c1
  have hw:Av fl=0\/Av fl=1:=aOZ
  have hl:=dA fl<|Av fl
  have hab:BN (Bq fl<|Av fl):=by
   intro x hx;unfold Bq at hx;split at hx
   ·exact hb x<|Va hx
   ·exact hb x<|QP<|Va hx
  have hQ:Et fl=Ja (Bq fl<|Av fl) 5:=rfl
  have hE0:oW (Ei se fl):=⟨rfl,by show (5:Y)<=5;decide,by show (5:Y)<=(M (Bq fl<|Av fl):Y);omega,by show M (Bq fl<|Av fl)<=4096;omega,hab,rfl,by show ((M ([]:aVD):aVx):Y)<=5;decide⟩
  have hr:=agn _ hE0
  have hv:(Ei se fl).rs=[]:=rfl
  have hf:(Ei se fl).from_.toNat=5:=rfl
  have hB:(Ei se fl).b=Bq fl (Av fl):=rfl
  simp only [hv,hf,hB,ES,<-hQ] at hr;refine ⟨⟨hw,hj.2.2.2.1⟩,⟨Aa,Aa,A0⟩,by simp only [MT,FN];omega,A9,⟨hE0,rfl,rfl⟩,λc3=>?_,λc3=>?_⟩
  ·have c3:=Wm c3
   rcases hr with ⟨q1,_⟩ |⟨q1,q2,q3,q4,q5,q6,q7⟩
   ·rw [c3] at q1;cases q1
   ·have hE:Bu se fl=11:=by unfold Bu;rw [AE bP,AE bR,AE (by rw [q2];decide)]
    rw [q3,q4,q5,q6,q7];refine fin _ _ _ _ _ _ ?_ ?_ ?_ ?_ ?_ hE.symm<;>simp [Em,Ig,F9,HO,L1,hE]
  ·rcases hr with ⟨q1,q2,q3,q4⟩ |⟨q1,_⟩
   ·have hE:Bu se fl=0:=by unfold Bu;rw [AE bP,AE bR,AD q4]
    have hn:(Et fl).2.1<=M (Bq fl<|Av fl):=vj A0
    have eL:((Bq fl<|Av fl).drop (Gp<|Ei se fl).EF.toNat).take ((M (Bq fl<|Av fl):Y).toNat-(Gp<|Ei se fl).EF.toNat)=(Bq fl<|Av fl).drop (Et fl).2.1:=by
     rw [q3,C0,C0];exact Di zM
    have hC:oZ (eK se fl):=⟨rfl,by
     show (M (((Bq fl<|Av fl).drop (Gp<|Ei se fl).EF.toNat).take<|(M (Bq fl<|Av fl):Y).toNat-(Gp<|Ei se fl).EF.toNat):Y)<=4096
     rw [eL,FN];omega,rfl⟩
    have hr2:(u9<|eK se fl).JC=(U&&((((Bq fl<|Av fl).drop (Gp<|Ei se fl).EF.toNat).take<|(M (Bq fl<|Av fl):Y).toNat-(Gp<|Ei se fl).EF.toNat).drop 0).all (λb=>b==255)):=(agt _ hC).2
    rw [eL,CX,EU] at hr2;refine ⟨⟨by rw [q3];omega,by rw [q3];omega,Cj _⟩,A9,⟨hC,rfl,rfl⟩,A0,?_⟩
    refine fin _ _ _ _ _ _ ?_ ?_ ?_ ?_ ?_ hE.symm
    ·unfold Em;rw [AD hE]
    ·unfold Ig JS;rw [AD hE];rfl
    ·unfold F9;rw [AD hE,CX,Di<|Aq _];exact q2
    ·unfold HO;rw [AD hE];exact q3
    ·unfold L1;rw [AD hE];exact hr2
   ·exfalso;rw [q1] at c3;simp [Bs] at c3
 ·cases h)
end Go.Proofs.YtjdlmobanmhohaaGreatDoor
namespace Go.Sx
open Go Go.RowKit Go.Proofs.YtjdlmobanmhohaaGreatDoor
variable {P : Program} {G : B3} {Γ : Specs} {K : Hand} {L : M3} {Z0 : Gz} {w0 : World}
abbrev VL:=Nat->Option (List Nat×List Up)
def Xc (P:aVM) (G:B3) (Γ:aWb) (K:aWq) (L:RK) (cs:VL):aV7->aVy->aVB->T (Ex×List LV×List AB)
 | .seq a b,F,H=>(Xc P G Γ K L cs a F H).bind λq=>match q.1 with
  | .normal=>match cs (Gt b) with
   |some (live,us)=>(GO 0 live us .normal q.2.1 q.2.2).bind λv=>if v.low then Xc P G Γ K L cs b (I0 (M q.2.1) live v.vals) v.JT else .no
   |none=>Xc P G Γ K L cs b q.2.1 q.2.2
  |x=> .ok (x,q.2)
 |c,F,H=>DP P G Γ K L c F H
def aeG {L:RK}{cs:VL}(hΓ:∀g S,Γ g=ah S->Valid P G g S) (hK:FU P G K) (c:aV7) (hl:∀b∈BE c,Gr P G (AN 0) (.loop b)<|L b):Gr P G (AN 0) c (Xc P G Γ K L cs c):=by
 induction c with
 | seq c1 c2 ih1 ih2=>
  intro r w0 Z0 Z β F H a w ds Q x F' H' hA hr hD hW hF h hQ;obtain ⟨⟨y,F1,H1⟩,h1,h2⟩:=T.B5 h;obtain ⟨hr1,hr2⟩:=sS (show r=aj\/(I6 c1&&I6 c2)=U from hr);refine wpIn_seq<|ih1 (λb hb=>hl b TD) r w0 Z0 Z β F H a w ds _ y F1 H1 hA hr1 hD hW hF h1 λds' Z' β' a' w' e0 e1 e2=>?_
  cases y with
  | normal=>
   simp only at h2;split at h2
   ·rename_i live us hcs
    obtain ⟨v,h3,h4⟩:=T.B5 h2;split at h4
    ·rename_i hlow
     obtain ⟨_,_,Z2,β2,e3,e4⟩:=ck hA e1 e2 h3 hlow;exact ih2 (λb hb=>hl b TD) r w0 Z0 Z2 β2 _ _ a' w' ds' Q x F' H' hA hr2 e0 e3 e4 h4 hQ
    ·cases h4
   ·exact ih2 (λb hb=>hl b TD) r w0 Z0 Z' β' F1 H1 a' w' ds' Q x F' H' hA hr2 e0 e1 e2 h2 hQ
  |exit m=>
   obtain ⟨rfl,rfl,rfl⟩:=h2;exact hQ ds' Z' β' a' w' e0 e1 e2
  |ret=>
   obtain ⟨rfl,rfl,rfl⟩:=h2;exact hQ ds' Z' β' a' w' e0 e1 e2
 |_=>exact Gl hΓ hK _ hl
def jY (P:aVM) (G:B3) (Γ:aWb) (K:aWq) (L:M3) (cs:VL) (fn:aWi) (args:aVy):T LV:=
 (match fn.body with
 |some c=>wo P fn (Xc P G Γ K (MM L) cs c) args
 |none=> .no).bind λx=> .ok<|canX<|upR P fn.resultTypes.toList x
def aEO {f:aVY}{fn:aWi}{c:aV7}{S:aVy->T LV}{cs:VL}(hfn:P.funcs[f]? =ah fn) (hc:fn.body=ah c) (hΓ:∀g S,Γ g=ah S->Valid P G g S) (hK:FU P G K)
  (hL:∀b∈BE c,Sound P G (.loop b)<|L<|Gt b) (hS:∀args lv,(S args).all (λx=>x=lv)->(jY P G Γ K L cs fn<|canL args).all (λx=>x=lv)):Valid P G f (KE P fn.params.toList S):=
 aFj (aEP hfn hc<|aeG (L:=MM L) (cs:=cs) hΓ hK c hL) (λargs lv h=>by have:=hS args lv h;unfold jY at this;simpa only [hc] using this)
def T.aDB {α:Type}:T α->T α
 | .br b t e=> .br b t.red e.red
 | .req p t=> .req p (T.aDB t)
 |t=>t
def T.aGy {α:Type}{K:α->Prop}:∀ {t:T α},t.aDB.all K->t.all K
 | .ok _,h=>h
 | .br _ _ _,h=>⟨λhb=>T.Wi<|h.1 hb,λhb=>T.Wi<|h.2 hb⟩
 | .req _ _,h=>⟨h.1,T.aGy h.2⟩
 | .no,h=>h
end Go.Sx
namespace Go.Proofs.YtjdlmobanmhohaaGreatDoor
set_option maxRecDepth 100000
set_option maxHeartbeats 4000000
open Go.Proofs.Tryz
open Go.Sx
def aUJ:aVy->T LV
 | [.v (.agg ⟨[ag J x1,ag J x2,ag J x3,ag J x4,ag J x5]⟩)]=> .ok (.xl (.int aw)<|B1 (x1,x2,x3,x4,x5))
 |_=> .no
def Wa:=bN f160 0
def Ly:aVI:=[]
def aql:Sound prog AV (.loop Wa) (JM prog AV Ly GB 20 2 Wa):=TK (gk Ly) kN.h 20 2 Wa
def azC (x1 x2 x3 x4 x5:Y):letI a:=(((((((((((((aq (0:Y).toNat (0:Y))++([IntKind.u8.wrap<|x1.fdiv<|2^(24)]))++([IntKind.u8.wrap<|x1.fdiv<|2^(16)]))++([IntKind.u8.wrap<|x1.fdiv<|2^(8)]))++([IntKind.u8.wrap<|x1.fdiv<|2^(0)]))++([IntKind.u8.wrap<|x2.fdiv<|2^(0)]))++([IntKind.u8.wrap<|x3.fdiv<|2^(0)]))++([IntKind.u8.wrap<|x4.fdiv<|2^(24)]))++([IntKind.u8.wrap<|x4.fdiv<|2^(16)]))++([IntKind.u8.wrap<|x4.fdiv<|2^(8)]))++([IntKind.u8.wrap<|x4.fdiv<|2^(0)]))++([IntKind.u8.wrap<|x5.fdiv<|2^(8)]))++([IntKind.u8.wrap<|x5.fdiv<|2^(0)]));(Bm prog AV Ly kN (λi=>if i=4 then (JM prog AV Ly GB 20 2 Wa) else Al i) f160 [.v<|.agg #[x1,x2,x3,x4,x5]]).red=.req (0<=(0:Y)/\(0:Y)<=(12:Y)/\1*(12:Y)<=2^48/\(12:Y)<2^63) (.req (0<=(24:Y))<|.ra 0 0 1 1<|.req (0<=(16:Y))<|.ra 1 1 2 1<|.req (0<=(8:Y))<|.ra 2 2 3 1<|.req (0<=(0:Y))<|.ra 3 3 4 1<|.req (0<=(0:Y))<|.ra 4 4 5 1<|.req (0<=(0:Y))<|.ra 5 5 6 1<|.req (0<=(24:Y))<|.ra 6 6 7 1<|.req (0<=(16:Y))<|.ra 7 7 8 1<|.req (0<=(8:Y))<|.ra 8 8 9 1<|.req (0<=(0:Y))<|.ra 9 9 10 1<|.req (0<=(8:Y))<|.ra 10 10 11 1<|.req (0<=(0:Y))<|.ra 11 11 12 1<|.req (0+12<=M a)<|.ok<|.xl (.int aw)<|(a.drop 0).take 12):=AU
def aUw:=vm (S:=aUJ) func160 Ly kN (L:=(λi=>if i=4 then (JM prog AV Ly GB 20 2 Wa) else Al i)) (λb hb=>by
 rw [show BE _=[Wa] by kernel_rfl] at hb
 simp only [BB,Bx,By] at hb;subst hb;exact aql) (λargs lv h=>by
 refine ⟨?_⟩;unfold aUJ at h;split at h
 ·simp only [canL,canX]
  refine @T.Wi _ _ _ ?_;rw [azC];obtain rfl:=h
  iterate 25 refine ⟨Aa,?_⟩
  refine ⟨Aq _,?_⟩;simp only [T.all,Int.pow_zero,Int.fdiv_one];rfl
 ·cases h)
def LN (d:aVw):Le:=if M d=12 then GS d else (0,0,0,0,0)
def aUH:aVy->T LV
 | [.xl (.int aw) d]=> .req (BN d) (.tu #[.agg #[(LN d).1,(LN d).2.1,(LN d).2.2.1,(LN d).2.2.2.1,(LN d).2.2.2.2],an<|M d=12])
 |_=> .no
def WZ:=bN f99 0
def aqk:Sound prog AV (.loop WZ) (JM prog AV Ly GB 20 2 WZ):=TK (gk Ly) kN.h 20 2 WZ
def azB (d:aVw):letI a:=(M d:Y);letI b:=AA<|0*2^8;(Bm prog AV Ly kN (λi=>if i=6 then (JM prog AV Ly GB 20 2 WZ) else Al i) f99 [.xl (.int aw) d]).aDB=.br (a !=12) (.tu #[.agg #[(0:Y),(0:Y),(0:Y),(0:Y),(0:Y)],X]) (.req (0<=(0:Y)/\0<a)<|.req (0<=(1:Y)/\1<a)<|.req (0<=(2:Y)/\2<a)<|.req (0<=(3:Y)/\3<a)<|.req (0<=(4:Y)/\4<a)<|.req (0<=(5:Y)/\5<a)<|.req (0<=(6:Y)/\6<a)<|.req (0<=(7:Y)/\7<a)<|.req (0<=(8:Y)/\8<a)<|.req (0<=(9:Y)/\9<a)<|.req (0<=(10:Y)/\10<a)<|.req (0<=(11:Y)/\11<a)<|.tu #[.agg #[Dc J (AA<|(Dc J (AA<|(Dc J (AA<|(Dc J b<|AA<|gi d (0:Y))*2^8)<|AA<|gi d (1:Y))*2^8)<|AA<|gi d (2:Y))*2^8)<|AA<|gi d (3:Y),Dc J b<|AA<|gi d (4:Y),Dc J b<|AA<|gi d (5:Y),Dc J (AA<|(Dc J (AA<|(Dc J (AA<|(Dc J b<|AA<|gi d (6:Y))*2^8)<|AA<|gi d (7:Y))*2^8)<|AA<|gi d (8:Y))*2^8)<|AA<|gi d (9:Y),Dc J (AA<|(Dc J b<|AA<|gi d (10:Y))*2^8)<|AA<|gi d (11:Y)],U]):=AU
def o8 {a b:Y}(h0:0<=a) (h1:a<1099511627776) (hb:0<=b/\b<=255):Dc J (AA<|a*2^8) (AA b)=a*256+b:=by
 rw [AJ (x:=a*2^8),AJ (x:=b)];obtain ⟨a,rfl⟩:=QG h0;obtain ⟨b,rfl⟩:=QG hb.1
 have e:∀n:aVx,n<4611686018427387904->(BitVec.ofInt (IntKind.bits J) (n:Y)).toNat=n:=λn hn=>by
  show (BitVec.ofInt 64 (n:Y)).toNat=n
  rw [BitVec.toNat_ofInt];omega
 unfold Dc;rw [show (a:Y)*2^8=((a*2^8:aVx):Y) by omega,BitVec.toNat_or,e _ A0,e _ A0,fm A0]
 show AA _=_
 rw [AJ];omega
def aBe {w:Y}(hw:0<=w/\w<=255):Dc J (AA<|0*2^8) (AA w)=w:=by
 rw [o8 A0 A0 hw];omega
def acG {z w:Y}(hz:0<=z/\z<=255) (hw:0<=w/\w<=255):Dc J (AA<|Dc J (AA<|0*2^8) (AA z)*2^8) (AA w)=z*256+w:=by
 rw [aBe hz,o8 A0 A0 hw]
def acF {x y z w:Y}(hx:0<=x/\x<=255) (hy:0<=y/\y<=255) (hz:0<=z/\z<=255) (hw:0<=w/\w<=255):
  Dc J (AA<|Dc J (AA<|Dc J (AA<|Dc J (AA<|0*2^8) (AA x)*2^8) (AA y)*2^8) (AA z)*2^8) (AA w)=x*16777216+y*65536+z*256+w:=by
 rw [acG hx hy,o8 A0 A0 hz,o8 A0 A0 hw];omega
def ajh:=vm (S:=aUH) func99 Ly kN (L:=(λi=>if i=6 then (JM prog AV Ly GB 20 2 WZ) else Al i)) (λb hb=>by
 rw [show BE _=[WZ] by kernel_rfl] at hb
 simp only [BB,Bx,By] at hb;subst hb;exact aqk) (λargs lv h=>by
 refine ⟨?_⟩;unfold aUH at h;split at h
 ·simp only [canL,canX]
  refine @T.aGy _ _ _ ?_;rw [azB];rename_i d;obtain ⟨hb,rfl⟩:=h;refine ⟨λc=>?_,λc=>?_⟩
  ·have hl:¬(M d)=12:=Vp
   unfold LN;rw [AE hl,IM hl];rfl
  have hl:M d=12:=Vp
  iterate 12 refine ⟨⟨Aa,A0⟩,?_⟩
  have b:=λi=>aBV hb i
  unfold LN;rw [AD hl,CY hl,acF (b 0) (b 1) (b 2)<|b 3,aBe<|b 4,aBe<|b 5,acF (b 6) (b 7) (b 8)<|b 9,acG (b 10)<|b 11];rfl
 ·cases h)
def aTd:aVy->T LV
 | [.agg [.v (ag J se),.xl (.int aw) fl]]=> .req (BN fl) (.ok<|.AO [.xl (.sl<|.int aw)<|F9 se fl,Bu se fl])
 |_=> .no
def ahk:aVI:=[gA]
def ajy:=vo (S:=aTd) func98 ahk kN (λargs lv h=>by
 unfold aTd at h;split at h
 ·rename_i se fl
  refine At (.req (BN fl)<|.br ((Bu se fl) !=0) (.ok<|.AO [.xl (.sl<|.int aw) ([]:aVD),(Bu se fl)])<|.ok<|.AO [.xl (.sl<|.int aw)<|F9 se fl,(0:Y)]) ?_;obtain ⟨h0,rfl⟩:=h;refine ⟨h0,λc=>?_,λc=>?_⟩
  ·have c:Bu se fl≠0:=A8
   unfold F9;rw [AE c];rfl
  ·have c:Bu se fl=0:=A8
   rw [c];rfl
 ·cases h)
def abQ {b:aVw}:∀(n f:aVx),M (Ha b n f).1<=n
 |0,_=>Aq _
 | n+1,f=>by
  simp only [Ha];split
  ·split
   ·have:=abQ (b:=b) n (f+7+G9 b f)
    grind
   ·grind
  ·grind
def aSr {b:aVw}(h:BN b):∀(n f:aVx),∀d∈(Ha b n f).1,BN d
 |0,_,d,hd=>Vz
 | n+1,f,d,hd=>by
  simp only [Ha] at hd;split at hd
  ·split at hd
   ·rcases BB.1 hd with rfl|hd
    ·exact λx hx=>h x<|QP<|Va hx
    ·exact aSr h n _ d hd
   ·cases hd
  ·cases hd
def agp {se:Y}{fl:aVw}(h:BN fl) (hl:M fl<=4096):M (F9 se fl)<=4096/\∀d∈F9 se fl,BN d:=by
 unfold F9;split
 ·have ha:=dA fl (Av fl)
  refine ⟨?_,aSr (λx hx=>?_) _ _⟩
  ·have:=abQ (b:=Bq fl<|Av fl) (M<|Bq fl<|Av fl) 5
   unfold Et;omega
  ·unfold Bq at hx
   split at hx
   ·exact h x<|Va hx
   ·exact h x<|QP<|Va hx
 ·grind
def amm {l:aVD}(h:∀d∈l,BN d) {i:Y}(h0:0<=i) (h1:i<(M l:Y)):BN (gx (e:=.sl<|.int aw) l i):=by
 grind
structure O3 where
 e:Y
 l:aVD
 (n i:Y)
 out:aVG
def aGU:=bN f71 0
def zg (s:O3):T (Rd O3):=
 .br (an<|s.i<s.n) (.ix s.i (M s.l)<|.req (BN<|gx (e:=.sl<|.int aw) s.l s.i)<|.br (!(an<|M (gx (e:=.sl<|.int aw) s.l s.i)=12)) (.rl s.out<|.so (.ret) {s with e:=(9:Y)})<|.rb (M s.out) (M<|[LN<|gx (e:=.sl<|.int aw) s.l s.i]) 40<|.re (M s.out+M ([LN<|gx (e:=.sl<|.int aw) s.l s.i])) (s.out++([LN<|gx (e:=.sl<|.int aw) s.l s.i]))<|.nx {s with i:=AA<|s.i+1,out:=s.out++([LN<|gx (e:=.sl<|.int aw) s.l s.i])}) (.rl s.out<|.so (.exit 0) s)
def k9 (s:O3):Prop:=s.i=0/\s.n<=5000/\s.n=(M s.l:Y)/\(∀d∈s.l,BN d)/\(M s.out:Y)<=s.i
def kT (s:O3):Prop:=0<=s.i/\s.i<=s.n/\s.n<=5000/\s.n=(M s.l:Y)/\(∀d∈s.l,BN d)/\(M s.out:Y)<=s.i
def uv (s:O3):aVx:=(s.n-s.i).toNat
def abp (x:Ex) (s s':O3):Prop:=True
def ajg:∀s,k9 s->kT s:=by
 exact aE
def avh:Da kT uv abp zg:=by
 intro s hI;obtain ⟨h0,h1,h2,h3,h4,h5⟩:=hI;refine AH (λc1=>AH (λc2=>trivial) λc2=>?_) λc1=>trivial
 ·have c1:s.i<s.n:=A8
  rw [AJ (x:=s.i+1)];exact ⟨⟨A8,A8,h2,h3,h4,A8⟩,by simp only [uv];omega⟩
def S3:AS O3:=⟨0,50,[2,3,6,28,29,30],[.nl 6 134 AQ],λs=>[.v<|.slice aj 0 0,s.e,.os 0 5 0<|M s.out,.xl (.sl<|.int aw) s.l,s.n,s.i],λs=>[bV 134 AQ s.out],λv b=>⟨AL v 1,B9 (.sl<|.int aw) v 3,AL v 4,AL v 5,Ad AQ b 0⟩,zg,λs r=> {r with l:=s.l,n:=s.n},λs=>s,λ_ s=>s,[.ret,.exit 0],k9,kT,uv⟩
abbrev oy:=S3.run
abbrev fR:=S3.Au
def axL:Rq kT zg:=by
 intro s hI;refine ⟨λc1=>⟨?_,?_,λc2=>⟨A9,ak⟩,λc2=>⟨?_,?_,ak⟩⟩,λc1=>⟨A9,ak⟩⟩
 all_goals ((obtain ⟨h0,h1,h2,h3,h4,h5⟩:=hI;have c1:s.i<s.n:=A8;have hb:=amm h4 h0 A0;(first|exact hb|omega|(simp only [Bk,Bv];omega) |(simp only [BI,Bk,Bv,Ez]))))
def aTK:aVI:=[ajy,ajh,X9]
def aRv:S3.Ok:={}
def aQK:S3.Pf (abp):=⟨ajg,λs h=>rfl,avh,axL⟩
def aqr:SA 0 aGU S3:=s1 aRv aQK aTK kN
def apx:Rs k9 fR oy (λs:O3=>(s.out++(s.l.drop s.i.toNat).map GS,ldB<|s.l.drop s.i.toNat)) (λx s' (v:List Le×Bool)=>(x=.ret/\s'.e=9/\v.2=X)\/(x=.exit 0/\v=(s'.out,U))):=DZ aRv aQK (λs hI=>by
  obtain ⟨h0,h1,h2,h3,h4,h5⟩:=hI;refine AH (λc1=>AH (λc2=>?_) λc2=>?_) λc1=>?_
  ·have c1:s.i<s.n:=A8
   refine .inl ⟨rfl,rfl,?_⟩;simp only [Wo h0 (show s.i<(M s.l:Y) by omega),ldB,It,xV,CT]
   grind
  ·have c1:s.i<s.n:=A8
   have c2:M (gx (e:=.sl<|.int aw) s.l s.i)=12:=A8
   have hz:LN (gx (e:=.sl<|.int aw) s.l s.i)=GS (gx (e:=.sl<|.int aw) s.l s.i):=AD c2
   rw [AJ (x:=s.i+1),hz]
   show (_++[_]++_,_)=(_++_,_)
   rw [Wo h0 A0];simp only [ET,Cx,KG,ES,ldB,It,c2,Oo,EU]
  ·have c1:s.n<=s.i:=A8
   refine .inr ⟨rfl,?_⟩;rw [Ew A0]
   simp [ldB])
def aTi:aVy->T LV
 | [.agg [.v (ag J se),.xl (.int aw) fl]]=> .req (BN fl) (.ok<|.AO [Ai se fl,Ce se fl])
 |_=> .no
def Qc (se:Y) (fl:aVw):O3:=(⟨0,F9 se fl,(M (F9 se fl):Y),0,([]:aVG)⟩:O3)
def wU:=vm (S:=aTi) func71 aTK kN (L:=(λi=>if i=8 then S3.lp else Al i)) (λb hb=>by
 rw [show BE _=[aGU] by kernel_rfl] at hb
 simp only [BB,Bx,By] at hb;subst hb;exact aqr) (λargs lv h=>by
 unfold aTi at h;split at h
 ·rename_i se fl
  refine At (letI a:=oy<|Qc se fl;letI b:=(a.out.drop 0).take<|M a.out;.br ((se !=512) ||((M fl:Y) !=2048)) (.ok<|.AO [.xl AQ ([]:aVG),(1:Y)])<|.req (BN fl)<|.br ((Bu se fl) !=0) (.ok<|.AO [.xl AQ ([]:aVG),(Bu se fl)])<|.r0 Le<|.req (S3.q<|Qc se fl)<|.br (Bs (fR<|Qc se fl)<|.ret) (.ok<|.AO [.xl AQ ([]:aVG),a.e])<|.rz a.out<|.br (!(B0 b)) (.ok<|.AO [.xl AQ ([]:aVG),(9:Y)])<|.rz a.out<|.ok<|.AO [b,(0:Y)]) ?_;obtain ⟨hb,rfl⟩:=h
  have bad:∀e:Y,e≠0->Ce se fl=e->LV.AO [.xl AQ ([]:aVG),.v<|ag J e]=LV.AO [.xl AQ<|Ai se fl,.v<|ag J<|Ce se fl]:=λe h0 h1=>by unfold Ai;rw [h1,AE h0]
  refine ⟨λc1=>bad 1 Aa (by unfold Ce;exact AD c1),λc1=>⟨hb,λc2=>?_,λc2=>?_⟩⟩
  all_goals have h0:¬((!(se==512) || !((M fl:Y)==2048))=U):=A8
  ·have c2:Bu se fl≠0:=EX
   exact bad _ c2 (by unfold Ce;rw [AE h0,AD c2])
  have hk:Bu se fl=0:=EX
  have hl:M fl=2048:=by simp at h0;omega
  have hR:F9 se fl=(Et fl).1:=AD hk
  obtain ⟨n1,n2⟩:=agp (se:=se) hb A0
  have hV:k9 (Qc se fl):=⟨rfl,by show (M (F9 se fl):Y)<=5000;omega,rfl,n2,yY⟩
  have q:(fR (Qc se fl)=.ret/\(oy<|Qc se fl).e=9/\ldB (F9 se fl)=X)\/(fR (Qc se fl)=.exit 0/\((F9 se fl).map GS,ldB<|F9 se fl)=((oy<|Qc se fl).out,U)):=apx _ hV
  have hk':¬Bu se fl≠0:=λh=>h hk
  refine ⟨A9,⟨hV,rfl,rfl⟩,λc3=>?_,λc3=>?_⟩
  ·rcases q with ⟨_,q2,q3⟩ |⟨q1,_⟩
   ·rw [q2]
    exact bad 9 Aa (by unfold Ce;rw [AE h0,AE hk',<-hR,AE (by rw [q3];decide)])
   ·rw [Wm c3] at q1;cases q1
  rcases q with ⟨q1,_⟩ |⟨_,q2⟩
  ·rw [q1] at c3;simp [Bs] at c3
  simp only [Az] at q2;rw [<-q2.1,CX,Eg];refine ⟨A0,λc4=>?_,λc4=>⟨A0,?_⟩⟩
  ·exact bad 9 Aa (by unfold Ce;rw [AE h0,AE hk',<-hR,AD q2.2,AE zL])
  ·have hE:Ce se fl=0:=by unfold Ce;rw [AE h0,AE hk',<-hR,AD q2.2,AD zL]
   unfold Ai;rw [hE,AD rfl,hR];rfl
 ·cases h)
def aBW {se:Y}{fl:aVw}(h:Ce se fl=0):B0 (Ai se fl)=true:=by
 unfold Ai;rw [AD h];unfold Ce at h;split at h
 ·cases h
 ·split at h
  ·grind
  ·split at h
   ·split at h
    ·assumption
    ·cases h
   ·cases h
def aUK:aVy->T LV
 | [.agg [.v (ag J se),.xl (.int aw) fl]]=> .req (BN fl) (.tu #[Je se fl,Io se fl])
 |_=> .no
def ahj:aVI:=[wU]
def aji:=vo (S:=aUK) func73 ahj kN (λargs lv h=>by
 unfold aUK at h;split at h
 ·rename_i se fl
  refine At (letI b:=(M (Ai se fl):Y);letI c:=Ao (Ai se fl)<|AA<|b-1;.req (BN fl)<|.br ((Ce se fl) !=0) (.tu #[(0:Y),(Ce se fl)])<|.br (b==0) (.tu #[(1:Y),(0:Y)])<|.ix (AA<|b-1) (M<|Ai se fl)<|.br (c.1==1000000) (.tu #[(0:Y),(10:Y)])<|.tu #[(AA<|c.1+1),(0:Y)]) ?_;obtain ⟨hb,rfl⟩:=h
  have fin:∀a e:Y,a=Je se fl->e=Io se fl->LV.v (.tuple #[ag J a,ag J e])=LV.v (.tuple #[ag J<|Je se fl,ag J<|Io se fl]):=λa e h1 h2=>zV
  refine ⟨hb,λc1=>?_,λc1=>⟨λc2=>?_,λc2=>?_⟩⟩
  ·have c1:Ce se fl≠0:=AY
   refine fin _ _ ?_ ?_<;>simp [Je,Io,c1]
  all_goals have c1:Ce se fl=0:=AY
  ·have c2:M (Ai se fl)=0:=A8
   refine fin _ _ ?_ ?_<;>simp [Je,Io,c1,c2]
  ·have c2:¬(M<|Ai se fl)=0:=A8
   have hv:=GK<|aBW c1
   have hw:AA ((M (Ai se fl):Y)-1)=(M (Ai se fl):Y)-1:=AJ
   have hn:=KY.1<|hv.2 _<|Lt (l:=Ai se fl) (i:=(M (Ai se fl):Y)-1) A0 A0
   rw [hw];refine ⟨⟨A0,A0⟩,λc3=>?_,λc3=>?_⟩
   ·refine fin _ _ ?_ ?_<;>simp at c3<;>simp [Je,Io,c1,c2,c3]
   ·rw [AJ]
    refine fin _ _ ?_ ?_<;>simp at c3<;>simp [Je,Io,c1,c2,c3]
 ·cases h)
def aL4:aVy->T LV
 | [.v (ag J n),.v (ag J a),.v (ag J b)]=> .ok (inB n a b)
 |_=> .no
def amx:aVI:=[]
def aPi:=vo (S:=aL4) func119 amx kN (λargs lv h=>by
 unfold aL4 at h;split at h
 ·rename_i n a b
  refine At (.ok<|.v<|.bool<|(an<|n>=a)&&(an<|n<=b)) ?_;exact h
 ·cases h)
def aUc:aVy->T LV
 | [.v (.agg ⟨[ag J k,ag J ph,ag J mx,ag J nd,ag J dl]⟩)]=> .ok (Gb (k,ph,mx,nd,dl))
 |_=> .no
def aBI:aVI:=[aPi]
def aaV:=vo (S:=aUc) func96 aBI kN (λargs lv h=>by
 unfold aUc at h;split at h
 ·rename_i k ph mx nd dl
  refine At (.ok<|.v<|.bool<|(inB k (0:Y) (4:Y))&&((inB ph (1:Y) (7:Y))&&((inB mx (1:Y) (80:Y))&&((inB nd (0:Y) (1000000000:Y))&&((inB dl (0:Y) (20:Y))&&((k !=3) ||(an<|dl>=1))))))) ?_;exact h
 ·cases h)
structure MF where
 r:aVH
 l:aVw
 (n i:Y)
def aIl:=bN f118 0
def aD5 (s:MF):T (Rd MF):=
 .br (an<|s.i<s.n) (.ix s.i (M s.l)<|.br (!(inB (gi s.l s.i) (0:Y) (80:Y))) (.so (.ret) {s with r:=X})<|.nx {s with i:=AA<|s.i+1}) (.so (.exit 0) s)
def Sb (s:MF) (j:Y):aVH:=inB (gi s.l j) 0 80
def oR (s:MF):Prop:=s.i=0/\0<=s.n/\s.n<=1000/\s.n=(M s.l:Y)
def bx (s:MF):Prop:=0<=s.i/\s.i<=s.n/\s.n<=1000/\(s.n=(M s.l:Y))/\∀j:aVx,(j:Y)<s.i->Sb s j=U
def aB4 (s:MF):aVx:=(s.n-s.i).toNat
def xD (x:Ex) (s s':MF):Prop:=(x=.exit 0/\∀j:aVx,(j:Y)<s'.n->Sb s' j=U)\/(x=.ret/\s'.r=X/\∃j:aVx,(j:Y)<s'.n/\Sb s' j=X)
def ank:∀s,oR s->bx s:=by
 exact KK
def ajf:Da bx aB4 xD aD5:=by
 intro s hI;obtain ⟨h0,h1,h2,h3,h4⟩:=hI;refine AH (λc1=>AH (λc2=>?_) λc2=>?_) λc1=>?_
 ·have c1:s.i<s.n:=AY
  refine .inr ⟨rfl,rfl,s.i.toNat,A8,?_⟩
  have hg:Sb s s.i=false:=by unfold Sb;simp_all
  exact hg
 ·have c1:s.i<s.n:=AY
  have hg:Sb s s.i=true:=by unfold Sb;simp_all
  rw [AJ (x:=s.i+1)];refine ⟨⟨A8,A8,h2,h3,λj hj=>?_⟩,by simp only [aB4];omega⟩
  exact Lj
 ·exact T6
def Sd:AS MF:=⟨0,32,[2,22,23,24],[],λs=>[s.r,.xl A7 s.l,s.n,s.i],λ_=>[],λv b=>⟨EP v 0,B9 A7 v 1,AL v 2,AL v 3⟩,aD5,λs r=> {r with l:=s.l,n:=s.n},λs=>s,λ_ s=>s,[.ret,.exit 0],oR,bx,aB4⟩
abbrev aPm:=Sd.run
abbrev aTO:=Sd.Au
def aki:Rq bx aD5:=by
 exact T3
def aVr:Sd.Ok:={}
def aaC:Sd.Pf (xD):=⟨ank,λs h=>rfl,ajf,aki⟩
def axd:SA 0 aIl Sd:=s1 aVr aaC aBI kN
def avg:Fi oR bx xD aTO aPm:=AS.fin aVr aaC
def aTh:aVy->T LV
 | [.agg [.xl (.int J) pil,.v (ag J tk),.v (ag J got)]]=> .ok (IH (pil,tk,got))
 |_=> .no
def ajj:=vm (S:=aTh) func118 aBI kN (L:=(λi=>if i=4 then Sd.lp else Al i)) (λb hb=>by
 rw [show BE _=[aIl] by kernel_rfl] at hb
 simp only [BB,Bx,By] at hb;subst hb;exact axd) (λargs lv h=>by
 unfold aTh at h;split at h
 ·rename_i pil tk got
  refine At (letI a:=(M pil:Y);.br ((an<|a>21) ||((!(inB tk (0:Y) (1000000:Y))) ||(!(inB got (0:Y) (2000000000:Y))))) (.ok X)<|.req (Sd.q (⟨X,pil,a,0⟩:MF))<|.br (Bs (aTO (⟨X,pil,a,0⟩:MF))<|.ret) (.ok (aPm (⟨X,pil,a,0⟩:MF)).r)<|.ok U) ?_;obtain rfl:=h;refine ⟨λc1=>B2 (λz=>LV.v<|.bool z) ?_,λc1=>?_⟩
  ·rw [T4,IQ]
   intro hm
   have:=dq.1 hm
   simp [inB] at c1
   simp only at this;omega
  ·have hE:oR ⟨X,pil,(M pil:Y),0⟩:=by simp [inB] at c1;exact ⟨rfl,AI,A8,rfl⟩
   obtain ⟨s',hI,hq⟩:=avg _ hE
   have hm:IH (pil,tk,got)=pil.all (λp=>inB p 0 80):=by
    simp [inB] at c1
    have h21:M pil<=21:=A0
    simp [IH,inB,h21,c1]
   rw [hm,aUE];refine ⟨⟨hE,rfl,rfl⟩,?_⟩;rcases hq with ⟨q1,q2⟩ |⟨q1,q2,j,q3,q4⟩<;>rw [q1]
   ·rw [show DS (M pil) (λj=>inB (gi pil j) 0 80)=U from Dl.2 q2]
    exact ⟨λh=>Ar,λ_=>rfl⟩
   ·rw [q2,show DS (M pil) (λj=>inB (gi pil j) 0 80)=X from PA j q3 q4]
    exact ⟨λ_=>rfl,λh=>Ar⟩
 ·cases h)
structure OP where
 p:PK
 ev:EW
def UX (s:OP):aVy:=[.own 16 0]
def ZA (s:OP):aVB:=[AP,AP,zB,AP,bV 81 Af s.p.cs,bV 134 AQ s.p.ls,bV 5 (.int aw) s.p.fl,bV 138 Aj s.p.ra,bV 99 B7 s.p.st,bV 71 AQ s.p.ca,bV 143 BA s.p.mi,bV 102 BT s.p.me,bV 73 Ap s.p.dm,bV 149 BP s.p.lk,bV 3 A7 s.p.dr,bV 3 A7 s.p.tg,⟨[.os 4 11 0<|M s.p.cs,.xl .str s.p.os,.xl An s.p.ks,.xl Ag s.p.gs,.xl Am s.p.bs,.v<|ag J s.p.tk,.v<|.bool s.p.up,.os 5 5 0<|M s.p.ls,.v<|ag J s.p.se,.os 6 1 0<|M s.p.fl,.os 7 2 0<|M s.p.ra,.v<|ag J s.p.nx,.os 8 4 0<|M s.p.st,.os 9 5 0<|M s.p.ca,.os 10 3 0<|M s.p.mi,.os 11 3 0<|M s.p.me,.os 12 4 0<|M s.p.dm,.os 13 6 0<|M s.p.lk,.os 14 1 0<|M s.p.dr,.os 15 1 0<|M s.p.tg,.v<|ag J s.ev.ek,.v<|ag J s.ev.en,.v<|ag J s.ev.em,.v<|ag J s.ev.c1,.v<|ag J s.ev.c2,.v<|ag J s.ev.c3,.v<|ag J s.ev.c4,.v<|ag J s.ev.c5,.v<|.bool s.ev.d1,.v<|ag J s.ev.d2,.v<|ag J s.ev.d3,.v<|ag J s.ev.d4,.v<|.slice aj 0 0],115,.cl,X⟩]
structure Y1 where
 res:Y
 p:PK
 ev:EW
def acL (s:Y1):LV:=.v<|ag J s.res
def acX (s:Y1):aVB:=[AP,AP,zB,AP,bV 81 Af s.p.cs,AP,AP,AP,bV 99 B7 s.p.st,bV 71 AQ s.p.ca,bV 143 BA s.p.mi,bV 102 BT s.p.me,bV 73 Ap s.p.dm,bV 149 BP s.p.lk,bV 3 A7 s.p.dr,bV 3 A7 s.p.tg,⟨[.os 4 11 0<|M s.p.cs,.xl .str s.p.os,.xl An s.p.ks,.xl Ag s.p.gs,.xl Am s.p.bs,.v<|ag J s.p.tk,.v<|.bool s.p.up,.xl AQ s.p.ls,.v<|ag J s.p.se,.xl (.int aw) s.p.fl,.xl Aj s.p.ra,.v<|ag J s.p.nx,.os 8 4 0<|M s.p.st,.os 9 5 0<|M s.p.ca,.os 10 3 0<|M s.p.mi,.os 11 3 0<|M s.p.me,.os 12 4 0<|M s.p.dm,.os 13 6 0<|M s.p.lk,.os 14 1 0<|M s.p.dr,.os 15 1 0<|M s.p.tg,.v<|ag J s.ev.ek,.v<|ag J s.ev.en,.v<|ag J s.ev.em,.v<|ag J s.ev.c1,.v<|ag J s.ev.c2,.v<|ag J s.ev.c3,.v<|ag J s.ev.c4,.v<|ag J s.ev.c5,.v<|.bool s.ev.d1,.v<|ag J s.ev.d2,.v<|ag J s.ev.d3,.v<|ag J s.ev.d4,.v<|.slice aj 0 0],115,.cl,X⟩]
def iU (s:OP):T Y1:=letI b:=(M s.p.gs:Y);letI c:=s.p.fl.drop 0;letI d:=M s.p.fl;letI e:=(aq b.toNat ((0:Y),(0:Y)));letI f:=s.p.ls.drop 0;letI g:=M s.p.ls;letI h:=s.p.ra.drop 0;letI i:=M s.p.ra;letI a:=c.take d;letI j:=DQ (Ai s.p.se a) s.p.tk;.br s.p.up (.rz s.p.ls<|.rz s.p.fl<|.rz s.p.ra<|.rl s.p.cs<|.pb s.p<|.ok<|⟨6,{s.p with ls:=f.take g,fl:=c.take d,ra:=h.take i},s.ev⟩)<|.rz s.p.fl<|.req (BN a)<|.br ((Ce s.p.se a) !=0) (.rz s.p.ls<|.rz s.p.fl<|.rz s.p.ra<|.rl s.p.cs<|.pb s.p<|.ok<|⟨Ce s.p.se a,{s.p with ls:=f.take g,fl:=c.take d,ra:=h.take i},s.ev⟩)<|.br (j !=0) (.rz s.p.ls<|.rz s.p.fl<|.rz s.p.ra<|.rl s.p.cs<|.pb s.p<|.ok<|⟨j,{s.p with ls:=f.take g,fl:=c.take d,ra:=h.take i},s.ev⟩)<|.rz s.p.fl<|.req (BN a)<|.br ((Io s.p.se a) !=0) (.rz s.p.ls<|.rz s.p.fl<|.rz s.p.ra<|.rl s.p.cs<|.pb s.p<|.ok<|⟨Io s.p.se a,{s.p with ls:=f.take g,fl:=c.take d,ra:=h.take i},s.ev⟩)<|.rm 16 b<|.rz s.p.fl<|.req (0+b.toNat<=M e)<|.rl s.p.cs<|.pb s.p<|.ok<|⟨0,{s.p with up:=U,ls:=BW (Ai s.p.se a) s.p.tk,fl:=c.take d,ra:=(e.drop 0).take b.toNat,nx:=Je s.p.se a},s.ev⟩
def aCQ (s:OP):Prop:=BN s.p.fl/\M s.p.gs<=1000
def RZ (s:OP):Y1:=⟨PK.Fs s.p,Jd (PK.Fs s.p) (PK.UM s.p) s.p,s.ev⟩
def aCn:D8 OP Y1:=⟨UX,ZA,λv b=>⟨rF b,rG b⟩,aCQ,[0,1,3],[.pc 16 7 AQ,.kb 5,.pc 16 9<|.int aw,.kb 6,.pc 16 10 Aj,.kb 7],acL,acX,RZ⟩
abbrev aio (s:OP):Prop:=aCQ s/\UX s=UX s/\ZA s=ZA s
def gR:aVI:=[wU,gB,aji]
def aUt:DU:=Cb 69 18 2 (Kw.lp)<|Cb 26 0 9 (H3.lp)<|E5 prog AV (gR) 20 2
def apY:EZ prog AV aUt:=DO func69 rfl AU Kb<|DO func26 rfl AU Co<|Hz<|gk gR
def azO (s:OP):((El prog AV gR aUt GB).k 33 (UX s)<|ZA s).bind (λq=>GO (M<|ZA s) [0] [.pc 16 7 AQ,.kb 5,.pc 16 9<|.int aw,.kb 6,.pc 16 10 Aj,.kb 7] .normal (q.1::UX s) q.2)=(iU s).mp (λs2=>⟨.normal,M (UX s)+1,[acL s2],acX s2,U⟩):=AU
end Go.Proofs.YtjdlmobanmhohaaGreatDoor
end
