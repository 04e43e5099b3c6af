/- Helpers for TopDoubledMessages:. Conditions: none. -/
import Derived.Test.YtepoohnehmfflaaGreatDoorQx4
set_option linter.defProp false
set_option linter.unusedVariables false
set_option linter.unusedSimpArgs false
noncomputable section
open List renaming length→M,length→aa,replicate→au,range→av
open Bool renaming true→U,true→ae,false→X,false→af
open Go.Value renaming int→ah
open Option renaming some→ai,none→ak
open Go.IntKind renaming i64→J,i64→aj,u8→ax,u32→ay
open True renaming intro→an
open Decidable renaming decide→aq
open ByteArray renaming mk→aw
open Go.Region renaming ready→az,wanted→aA
open Go.Instr renaming findNow→aB
namespace Go.Proofs.YtepoohnehmfflaaGreatDoor
set_option maxRecDepth 100000
set_option maxHeartbeats 4000000
open Go.Proofs.Tryz
open Go.Sx
def axw (s:Ms) (hE:aCj s):(jR s).all (λq=>q=UB s):=by
 have hs:=D7.1 hE.site
 have ht:=hE.Es
 have hw:AA (((M s.p.cs:aD):Y)-1)=(M s.p.cs:Y)-1:=AJ
 unfold jR;rw [hw];simp only [TT,Qo]
 have one:(!inB s.ev.en 0 ((M s.p.cs:Y)-1) || !inB s.ev.em 1 (Ad s.p.cs s.ev.en).2.2.1)=U->s.p.I7 s.ev.en s.ev.em=1:=λh=>AD h
 refine ⟨λc=>?_,λc=>?_⟩
 ·have he:=one (by rw [c];rfl)
  repeat (refine ⟨AI,?_⟩)
  show _=_
  unfold UB;rw [AD he,he]
 have cn:inB s.ev.en 0 ((M s.p.cs:Y)-1)=true:=Ix
 have ci:=BO.1 cn
 have hcd:s.p.cs.getD s.ev.en.toNat (Ty.dflt Ae)=Ad s.p.cs s.ev.en:=by
  rw [DK,Dg A0]
  have:=Qv (cs:=s.p.cs) (k:=s.ev.en.toNat) A0
  rw [CS ci.1] at this;rw [this];rfl
 rw [hcd]
 repeat (refine ⟨by first|omega|exact ⟨rfl,rfl⟩ |exact ⟨rfl,AI⟩ |(refine ⟨?_,?_⟩<;>(simp;done)) |(rw [Cf];omega),?_⟩)
 refine ⟨λc2=>?_,λc2=>?_⟩
 ·have he:=one (by rw [c2,OY])
  repeat (refine ⟨AI,?_⟩)
  show _=_
  unfold UB;rw [AD he,he]
 have cm:inB s.ev.em 1 (Ad s.p.cs s.ev.en).2.2.1=true:=ET
 obtain ⟨k1,k2⟩:=hE.der cn cm
 have ho:(T1 s).o=s.p.cs:=by
  show BG ((s.p.cs.drop 0).take _) _=_
  rw [TT];exact Qo
 have hV:lq (T1 s):=⟨rfl,by show (M s.p.tg:Y)=(M (s.p.tg.set s.ev.en.toNat s.ev.em):Y);rw [C5],k2,aP4,ho⟩
 obtain ⟨_,_,_,q2⟩:=avP _ hV
 have q2:(dt<|T1 s).o=(s.p.LF s.ev.en s.ev.em).EA:=q2
 have nb:¬(!inB s.ev.en 0 ((M s.p.cs:Y)-1) || !inB s.ev.em 1 (Ad s.p.cs s.ev.en).2.2.1)=true:=by rw [cn,cm];decide
 rw [q2]
 repeat (refine ⟨A8,?_⟩)
 refine ⟨⟨hV,rfl,rfl⟩,?_⟩
 repeat (refine ⟨A0,?_⟩)
 refine ⟨λc3=>?_,λc3=>?_⟩
 ·have c3:DA (s.p.LF s.ev.en s.ev.em).EA s.p.gs (Bq s.p.gs)=false:=NF
  have he:s.p.I7 s.ev.en s.ev.em=13:=by unfold PK.I7;rw [AE nb,AD c3]
  repeat (refine ⟨AI,?_⟩)
  show _=_
  unfold UB;rw [AE ML,he]
 ·have c3:¬DA (s.p.LF s.ev.en s.ev.em).EA s.p.gs (Bq s.p.gs)=false:=NF
  have he:s.p.I7 s.ev.en s.ev.em=0:=by unfold PK.I7;rw [AE nb,AE c3]
  repeat (refine ⟨AI,?_⟩)
  show _=_
  unfold UB;rw [AE ML,he]
def aiT:Dk prog AU 25 aD4.m:=D4.sound (D:=aD4) (t:=jR) (gk PE) aqP aTB.h ags λs hE=>⟨axw s hE⟩
def aTp:aE->T LV
 | [.xl (.pair (.int J) (.pair (.int J) (.pair (.int J) (.pair (.int J) (.int J))))) l,.v (.agg ⟨[ah J nu,ah J co,ah J am,ah J fr,ah J tk]⟩)]=> .ok (.AQ [GO l (nu,co,am,fr,tk),FX l (nu,co,am,fr,tk)])
 |_=> .no
def amZ:aO:=[Wn,aPh,aVm]
def aVo:=vo (S:=aTp) func105 amZ kN (λargs lv h=>by
 unfold aTp at h;split at h
 ·rename_i l nu co am fr tk
  refine Au (letI a:=(au (0:Y).toNat ((0:Y),((0:Y),((0:Y),((0:Y),(0:Y))))));letI b:=(nu,(co,(am,(fr,tk))));letI d:=(M l:Y);letI g:=AA<|d+1;letI i:=(a++l)++([b]);letI f:=((i.drop 0).take<|(0:Y).toNat+M l+M ([b]));.br ((!(B1 l)) ||(!(DJ (nu,co,am,fr,tk)))) (.ok<|.AQ [.xl AO ([]:aM),(1:Y)])<|.br (aq<|d>0) (.ix (AA<|d-1) (M l)<|.br (!(K4 (An l<|AA<|d-1) (nu,co,am,fr,tk))) (.ok<|.AQ [.xl AO ([]:aM),(12:Y)])<|.br (d==64) (.ok<|.AQ [.xl AO ([]:aM),(10:Y)])<|.req (0<=(0:Y)/\(0:Y)<=g/\40*g<=2^48/\g<2^63)<|.ra (0:Y).toNat (M a) ((0:Y).toNat+M l) 40<|.ra ((0:Y).toNat+M l) (M<|a++l) ((0:Y).toNat+M l+M ([b])) 40<|.req (0+((0:Y).toNat+M l+M ([b]))<=M i)<|.ok<|.AQ [f,(0:Y)])<|.br (d==64) (.ok<|.AQ [.xl AO ([]:aM),(10:Y)])<|.req (0<=(0:Y)/\(0:Y)<=g/\40*g<=2^48/\g<2^63)<|.ra (0:Y).toNat (M a) ((0:Y).toNat+M l) 40<|.ra ((0:Y).toNat+M l) (M<|a++l) ((0:Y).toNat+M l+M ([b])) 40<|.req (0+((0:Y).toNat+M l+M ([b]))<=M i)<|.ok<|.AQ [f,(0:Y)]) ?_;obtain rfl:=h
  have bad:∀e:Y,e≠0->FX l (nu,co,am,fr,tk)=e->LV.AQ [.xl AO ([]:aM),.v<|ah J e]=LV.AQ [.xl AO<|GO l (nu,co,am,fr,tk),.v<|ah J<|FX l (nu,co,am,fr,tk)]:=λe h0 h1=>by
   unfold GO;rw [h1,AE h0]
  refine ⟨λc=>bad 1 Ac ?_,λc=>?_⟩
  ·unfold FX
   grind
  have hk:(B1 l&&DJ (nu,co,am,fr,tk))=true:=by revert c;cases B1 l<;>cases DJ (nu,co,am,fr,tk)<;>simp
  have hl:M l<=64:=by rw [AV] at hk;exact (GK hk.1).1
  have w1:AA ((M l:Y)+1)=(M l:Y)+1:=AJ
  have fin:(aq (M l>0)&&!K4 (An l<|(M l:Y)-1) (nu,co,am,fr,tk))=X->M l≠64->LV.AQ [.xl AO<|(l++[(nu,co,am,fr,tk)]).take<|0+M l+1,.v<|ah J 0]=LV.AQ [.xl AO<|GO l (nu,co,am,fr,tk),.v<|ah J<|FX l (nu,co,am,fr,tk)]:=λh1 h2=>by
   have e:FX l (nu,co,am,fr,tk)=0:=by unfold FX;rw [AD hk,AE (by rw [h1];simp),AE h2]
   unfold GO;rw [e,AD rfl,DS AI]
  have rq:(0<=(0:Y)/\(0:Y)<=AA ((M l:Y)+1)/\40*AA ((M l:Y)+1)<=2^48/\AA ((M l:Y)+1)<2^63):=by rw [w1];omega
  refine ⟨λc2=>?_,λc2=>?_⟩
  ·have c2:0<M l:=by have:=Ct c2;omega
   have w2:AA ((M l:Y)-1)=(M l:Y)-1:=AJ
   rw [w2];refine ⟨A0,λc3=>bad 12 Ac ?_,λc3=>⟨λc4=>bad 10 Ac ?_,λc4=>⟨rq,⟨rfl,DC,DC⟩,⟨AI,DC,DC⟩,AI,?_⟩⟩⟩
   ·unfold FX
    rw [AD hk,AD (by rw [c3,Cb c2];rfl)]
   ·unfold FX
    rw [AD hk,AE (by rw [c3];simp),AD zW]
   ·exact fin (by rw [c3,Sb]) zW
  ·have c2:¬(M l)>0:=by have:=KM c2;omega
   refine ⟨λc4=>bad 10 Ac ?_,λc4=>⟨rq,⟨rfl,DC,DC⟩,⟨AI,DC,DC⟩,AI,?_⟩⟩
   ·simp at c4;omega
   ·exact fin (by rw [IP c2,QO]) A0
 ·cases h)
structure Nn where
 (l0 left l:aM)
 (n i aoc ag7 awq awp aqX:Y)
 o:aJ
def aHY:=bN f154 0
def aAN (s:Nn):T (Rd Nn):=letI a:=An s.l s.i;.br (aq<|s.i<s.n) (.ix s.i (M s.l)<|.rb (M s.o) (M<|[B2 a]) 24<|.re (M s.o+M ([B2 a])) (s.o++([B2 a]))<|.nx {s with i:=AA<|s.i+1,o:=s.o++([B2 a])})<|.rl s.o<|.so (.exit 0) s
def ko (s:Nn):Prop:=s.i=0/\s.n<=1000/\s.n=(M s.l:Y)/\(M s.o:Y)<=s.i
def lH (s:Nn):Prop:=0<=s.i/\s.i<=s.n/\s.n<=1000/\s.n=(M s.l:Y)/\(M s.o:Y)<=s.i
def uy (s:Nn):aD:=(s.n-s.i).toNat
def acS (x:Ex) (s s':Nn):Prop:=True
def alC:∀s,ko s->lH s:=by
 exact Zw
def agc:Da lH uy acS aAN:=by
 intro s hI;obtain ⟨h0,h1,h2,h3,h4⟩:=hI;refine AH (λc1=>?_) λc1=>trivial
 have c1:s.i<s.n:=A8
 rw [AJ (x:=s.i+1)];exact ⟨⟨A8,A8,h2,h3,A8⟩,by simp only [uy];omega⟩
def Rr:AS Nn:=⟨0,71,[0,4,8,10,11,25,26,27],[.ns 10 0 35<|.sl<|.int ax],λs=>[s.l0,.own 0 0,s.left,.own 1 0,.fn 191 [.own 1 0],s.l,s.n,s.i],λs=>[⟨[s.aoc,s.ag7,s.awq,s.awp,s.aqX],70,.cl,X⟩,⟨[.os 2 1 0<|M s.o],192,.cl,X⟩,⟨[],35,.vec (.sl<|.int ax) s.o,X⟩],λv b=>⟨B3 AO v 0,B3 AO v 2,B3 AO v 5,AL v 6,AL v 7,Am b 0 0,Am b 0 1,Am b 0 2,Am b 0 3,Am b 0 4,Ab (.sl<|.int ax) b 2⟩,aAN,λs r=> {s with i:=r.i,o:=r.o},λs=>s,λ_ s=>s,[.exit 0],ko,lH,uy⟩
abbrev pF:=Rr.run
abbrev aKG:=Rr.Av
def ayU:Rq lH aAN:=by
 intro s hI;refine ⟨λc1=>⟨?_,?_,?_,an⟩,λc1=>⟨A9,an⟩⟩
 all_goals ((obtain ⟨h0,h1,h2,h3,h4⟩:=hI;simp only [Aa] at c1;(first|omega|(simp only [BY,Bh];omega) |(simp only [B8,BY,Bh,Dw]))))
def iJ:aO:=[gu,aaK]
def aSk:Az:=kI iJ<|l0 iJ
def aSL:Rr.Ok:={}
def aRB:Rr.Pf (acS):=⟨alC,λs h=>rfl,agc,ayU⟩
def arN:SA 0 aHY Rr:=s1 aSL aRB iJ aSk
def atb:Rs ko aKG pF (λs:Nn=>s.o++(s.l.drop s.i.toNat).map B2) (λx s' (v:aJ)=>x=.exit 0/\s'.o=v):=DY aSL aRB (λs hI=>by
  obtain ⟨h0,h1,h2,h3,h4⟩:=hI;refine AH (λc1=>?_) λc1=>?_
  ·have c1:s.i<s.n:=A8
   rw [AJ (x:=s.i+1)]
   show _++[_]++_=_++_
   rw [(TE h0 A0).1]
   grind
  ·have c1:s.n<=s.i:=A8
   refine ⟨rfl,?_⟩;rw [Ei A0]
   simp)
def Im (l:aM) (x:Le) (t:Y):aJ:=if DO l t=0 then IK l x t else []
def aUb:aE->T LV
 | [.xl (.pair (.int J) (.pair (.int J) (.pair (.int J) (.pair (.int J) (.int J))))) l,.v (.agg ⟨[ah J x1,ah J x2,ah J x3,ah J x4,ah J x5]⟩),.v (ah J t)]=> .ok (.AQ [.xl (.sl<|.int ax)<|Im l (x1,x2,x3,x4,x5) t,DO l t])
 |_=> .no
def Vn (l:aM) (x1 x2 x3 x4 x5 t:Y):Nn:=(⟨l,BW l t,BW l t,(M (BW l t):Y),0,x1,x2,x3,x4,x5,([]:aJ)⟩:Nn)
def aK8 {l:aM}{t:Y}(h:DO l t=0):M l<=64/\M (BW l t)<=M l:=by
 unfold DO at h;split at h
 ·rename_i c
  refine ⟨(GK (by unfold L1 at c;rw [AV] at c;exact c.1)).1,?_⟩
  unfold BW
  grind
 ·cases h
def ajy:=vm (S:=aUb) func154 iJ aSk (L:=(λi=>if i=7 then Rr.lp else Ap i)) (λb hb=>by
 rw [show BD _=[aHY] by kernel_rfl] at hb
 simp only [B9,Bx,By] at hb;subst hb;exact arN) (λargs lv h=>by
 unfold aUb at h;split at h
 ·rename_i l x1 x2 x3 x4 x5 t
  refine Au (letI a:=pF<|Vn l x1 x2 x3 x4 x5 t;letI e:=(x1,x2,x3,x4,x5);letI f:=M a.o+M ([B2 e]);letI j:=(AA<|(M l:Y)-1);letI k:=(M (BW l t):Y);letI m:=M a.o;letI n:=a.o++([B2 e]);letI d:=An l j;letI g:=(a.o++([B2 d]))++([B2 e]);letI p:=M a.o+M ([B2 d]);letI r:=M<|a.o++([B2 d]);letI b:=M a.o+M ([B2 d])+M ([B2 e]);.br ((DO l t) !=0) (.ok<|.AQ [.xl (.sl<|.int ax) ([]:aJ),(DO l t)])<|.r0 (List Int)<|.req (Rr.q<|Vn l x1 x2 x3 x4 x5 t)<|.br (aq<|(M l:Y)>0) (.br (k==0) (.ix j (M l)<|.rb m (M<|[B2 d]) 24<|.ra p r b 24<|.req (0+b<=M g)<|.ok<|.AQ [.xl (.sl<|.int ax)<|(g.drop 0).take b,(0:Y)])<|.ix (AA<|k-1) (M<|BW l t)<|.ix j (M l)<|.br ((An (BW l t)<|AA<|k-1).1 !=d.1) (.ix j (M l)<|.rb m (M<|[B2 d]) 24<|.ra p r b 24<|.req (0+b<=M g)<|.ok<|.AQ [.xl (.sl<|.int ax)<|(g.drop 0).take b,(0:Y)])<|.rb m (M<|[B2 e]) 24<|.req (0+f<=M n)<|.ok<|.AQ [.xl (.sl<|.int ax)<|(n.drop 0).take f,(0:Y)])<|.rb m (M<|[B2 e]) 24<|.req (0+f<=M n)<|.ok<|.AQ [.xl (.sl<|.int ax)<|(n.drop 0).take f,(0:Y)]) ?_;obtain rfl:=h;refine ⟨λc=>?_,λc=>?_⟩
  ·have c:DO l t≠0:=Ix
   unfold Im;rw [AE c];rfl
  have hE:DO l t=0:=Ix
  obtain ⟨k1,k2⟩:=aK8 hE
  have hV:ko (Vn l x1 x2 x3 x4 x5 t):=⟨rfl,by show (M (BW l t):Y)<=1000;omega,rfl,ye⟩
  have q:aKG (Vn l x1 x2 x3 x4 x5 t)=.exit 0/\(pF<|Vn l x1 x2 x3 x4 x5 t).o=(BW l t).map B2:=atb _ hV
  have hR:Im l (x1,x2,x3,x4,x5) t=IK l (x1,x2,x3,x4,x5) t:=AD hE
  have w1:=λ_:0<M l=>AJ (x:=(M l:Y)-1)
  have w2:=λ_:0<M (BW l t)=>AJ (x:=(M (BW l t):Y)-1)
  have hL:M (pF<|Vn l x1 x2 x3 x4 x5 t).o=M (BW l t):=by rw [q.2,GH]
  rw [hE,hR];unfold IK;refine ⟨A9,⟨hV,rfl,rfl⟩,λc1=>⟨λc2=>?_,λc2=>?_⟩,λc1=>?_⟩
  ·have c1:0<M l:=AY
   have c2:M (BW l t)=0:=ET
   rw [w1 c1,AD ⟨c1,.inl c2⟩];refine ⟨A0,⟨F5 _,?_,?_⟩,⟨?_,?_,?_⟩,?_,?_⟩
   all_goals first|(simp only [B8,BY,Bh,hL];omega) |(rw [q.2,CT,DS ni];simp only [Co,EG];rfl)
  ·have c1:0<M l:=AY
   have c2:0<M (BW l t):=by simp at c2;exact OW.2 c2
   rw [w1 c1,w2 c2];refine ⟨A0,A0,λc3=>?_,λc3=>?_⟩
   ·rw [AD ⟨c1,.inr NF⟩]
    refine ⟨A0,⟨F5 _,?_,?_⟩,⟨?_,?_,?_⟩,?_,?_⟩
    all_goals first|(simp only [B8,BY,Bh,hL];omega) |(rw [q.2,CT,DS ni];simp only [Co,EG];rfl)
   ·rw [AE (by intro h;rcases h.2 with h|h;omega;simp at c3;exact h c3)]
    refine ⟨⟨F5 _,?_,?_⟩,?_,?_⟩
    all_goals first|(simp only [B8,BY,Bh,hL];omega) |(rw [q.2,CT,DS ni];simp only [Co,EG];rfl)
  ·have c1:¬0<M l:=AY
   rw [AE λh=>c1 h.1]
   refine ⟨⟨F5 _,?_,?_⟩,?_,?_⟩
   all_goals first|(simp only [B8,BY,Bh,hL];omega) |(rw [q.2,CT,DS ni];simp only [Co,EG];rfl)
 ·cases h)
def iM:aO:=[]
def ajD:aE->T LV:=λl=>Bu prog AU (iM) kN Ap f219<|canL l
def aa1:=vo (S:=ajD) func219 iM kN (λargs lv h=>by
 refine ⟨?_⟩
 assumption)
def ajE:aE->T LV:=λl=>Bu prog AU (iM) kN Ap f224<|canL l
def aa2:=vo (S:=ajE) func224 iM kN (λargs lv h=>by
 refine ⟨?_⟩
 assumption)
def qY {l:aC}{n:aD}(h:M l=n):BG l (au n (0:Y))=l:=by
 unfold BG
 simp_all
def pn {l:aC}{n:aD}(h:M l=n):((BG ((l.drop 0).take n)<|au n (0:Y)).drop 0).take n=l:=by
 rw [CT,CT,DS (l:=l) A0,qY h,DS A0]
def Wx {l:aC}{n:aD}(h:M l=n):(l.drop 0).take n=l:=by
 grind
def aB7:Array Tmp×Code×Code:=((J5<|f220.body.getD .skip)[0]?).getD (#[],.skip,.skip)
def aaR:aVF:=aB7.1
def aaX:bC:=aB7.2.1
def aaV:bC:=aB7.2.2
structure M9 where
 (n i Hx:Y)
 (Hy b1:aC)
 qF:Y
 Gn:aC
 (b3 b4 Hu:Y)
 b9:ba
 b10:aC
 st:LS
def LO (s:M9):aC:=(s.b10.set (AA<|s.b3+s.i).toNat<|Bm ax (s.b10.getD (AA<|s.b3+s.i).toNat<|Ty.dflt<|.int ax)<|gi s.b1 s.i)
def lpC (s:M9):aC:=((BG (((LO s).drop 0).take<|M s.b10)<|au ((M s.b10:aD):Y).toNat (0:Y)).drop 0)
def oG (s:M9):T (Rd M9):=letI a:=((M s.b10:aD):Y);letI b:=(s.Hu,(lpC s).take a.toNat);letI c:=M s.b10;letI d:=((LO s).drop 0).take c;.br (aq<|s.i<s.n) (.ik (AA<|s.b3+s.i) c<|.ix s.i (M s.b1)<|.ik (AA<|s.b3+s.i) c<|.rm 1 a<|.req (0+c<=M (LO s))<|.rc a (0:Y) (M d)<|.req (0+a.toNat<=M (BG d<|au a.toNat (0:Y)))<|.rb (M s.b9) (M<|[b]) 32<|.re (M s.b9+M ([b])) (s.b9++([b]))<|.re c (LO s)<|.nx {s with i:=AA<|s.i+1,b9:=s.b9++([b]),b10:=LO s})<|.rl s.b9<|.rl s.b10<|.so (.exit 0) s
def oz (s:M9):Prop:=s.st=.ready/\s.i=0/\(s.n=(M s.b1:Y)/\0<=s.n/\0<=s.b3/\s.b3+s.n<=(M s.Gn:Y)/\M s.Gn<=4096)/\s.b10=Dn s.Gn s.b3 s.b1 0/\s.b9=[(s.Hu,Dn s.Gn s.b3 s.b1 0)]
def ct (s:M9):Prop:=s.st=.ready/\(0<=s.i/\s.i<=s.n)/\(s.n=(M s.b1:Y)/\0<=s.n/\0<=s.b3/\s.b3+s.n<=(M s.Gn:Y)/\M s.Gn<=4096)/\s.b10=Dn s.Gn s.b3 s.b1 s.i.toNat/\s.b9=(av<|s.i.toNat+1).map (λk:aD=>(s.Hu,Dn s.Gn s.b3 s.b1 k))
def aBO (s:M9):aD:=(s.n-s.i).toNat
def xN (x:Ex) (s s':M9):Prop:=x=.exit 0/\s'.b9=Dt s'.Hu s'.Gn s'.b3 s'.b1
def aoT:∀s,oz s->ct s:=by
 exact aMc
def ale:Da ct aBO xN oG:=by
 intro s hI;unfold oG;refine AH (λc1=>?_) λc1=>?_
 ·obtain ⟨ht,⟨h0,h1⟩,⟨hn,hn0,ha,hl,h4⟩,hb,ho⟩:=hI
  have hbl:M s.b10=M s.Gn:=aPc
  have c1:s.i<s.n:=AY
  have wa:AA (s.b3+s.i)=s.b3+s.i:=AJ
  have hB:LO s=Dn s.Gn s.b3 s.b1 (s.i.toNat+1):=aOJ
  have hBl:M (LO s)=M s.Gn:=aPd
  have hC:(lpC s).take ((M s.b10:aD):Y).toNat=LO s:=aOv
  rw [AJ (x:=s.i+1)]
  have et:(s.i+1).toNat=s.i.toNat+1:=A0
  refine ⟨⟨ht,⟨AZ,AZ⟩,⟨hn,hn0,ha,hl,h4⟩,?_,?_⟩,by simp only [aBO];omega⟩
  ·simp only [et]
   exact hB
  ·simp only [et]
   rw [SZ,KK,<-ho,ER,LR,<-hB,<-hC]
 ·obtain ⟨ht,⟨h0,h1⟩,⟨hn,hn0,ha,hl,h4⟩,hb,ho⟩:=hI
  have c1:s.n<=s.i:=AY
  refine ⟨rfl,?_⟩;rw [ho]
  have e:s.i.toNat=M s.b1:=A0
  rw [e];rfl
def dA:AS M9:=⟨8,41,[0,3,4,6,15,16],[],λs=>[.CQ 7,.own 5 0,.own 3 0,.own 8 0,s.n,s.i],λs=>[⟨[s.Hx,.xl (.int ax) s.Hy],37,.cl,X⟩,⟨[.xl (.int ax) s.b1],35,.cl,X⟩,⟨[s.qF,.xl (.int ax) s.Gn],37,.cl,X⟩,⟨[s.b3],3,.cl,X⟩,⟨[s.b4],3,.cl,X⟩,⟨[.fn 219 [.own 1 0]],329,.cl,X⟩,⟨[.os 9 2 0<|M s.b9],218,.cl,X⟩,⟨[.junk,.junk,.junk,.own 6 0,.v<|.tuple #[],.junk,.v<|.tuple #[],.v<|.tuple #[],.v<|.tuple #[],.v<|.tuple #[],.v<|.tuple #[],.junk],0,.Cn aaR aaX aaV s.st,X⟩,⟨[s.Hu,.os 10 1 0<|M s.b10],37,.cl,X⟩,bV 37 Bn s.b9,bV 5 (.int ax) s.b10],λv b=>⟨AL v 4,AL v 5,Am b 0 0,AF (.int ax) b 0 1,AF (.int ax) b 1 0,Am b 2 0,AF (.int ax) b 2 1,Am b 3 0,Am b 4 0,Am b 8 0,Ab Bn b 9,Ab (.int ax) b 10,.ready⟩,oG,λs r=> {r with n:=s.n,Hx:=s.Hx,Hy:=s.Hy,b1:=s.b1,qF:=s.qF,Gn:=s.Gn,b3:=s.b3,b4:=s.b4,Hu:=s.Hu,st:=s.st},λs=> {s with st:=.ready},λx s=> {s with st:=(match x with| .exit 0=> .ready|_=> .ready)},[.exit 0],oz,ct,aBO⟩
abbrev gZ:=dA.run
abbrev aiZ:=dA.Av
def vq:aO:=[XY,aa1]
def ahs:Az:=kI vq<|l0 vq
def akl:Rq ct oG:=by
 intro s hI;refine ⟨λc1=>⟨?_,?_,?_,?_,?_,?_,?_,?_,?_,?_,?_,?_,an⟩,λc1=>⟨A9,A9,an⟩⟩
 all_goals ((obtain ⟨ht,⟨h0,h1⟩,⟨hn,hn0,ha,hl,h4⟩,hb,ho⟩:=hI;have hbl:M s.b10=M s.Gn:=aPc;have c1:s.i<s.n:=A8;have wa:AA (s.b3+s.i)=s.b3+s.i:=AJ;have hB:LO s=Dn s.Gn s.b3 s.b1 (s.i.toNat+1):=aOJ;have hBl:M (LO s)=M s.Gn:=aPd;have hC:(lpC s).take ((M s.b10:aD):Y).toNat=LO s:=aOv;(first|omega|exact ⟨rfl,AI⟩ |(rw [wa];omega) |(rw [hC];simp only [B8,BY,Bh,ho,GH,Sj,Dw];omega) |(rw [hBl];omega) |(rw [C0,Cf,Wx A0];omega) |(rw [C0,Wx A0,qY A0];omega))))
def abw:dA.Ok:={}
def aai:dA.Pf (xN):=⟨aoT,λs h=>by
 obtain ⟨n,i,Hx,Hy,b1,qF,Gn,b3,b4,Hu,b9,b10,st⟩:=s
 have e:=h.1
 subst e;rfl,ale,akl⟩
def ti:=s2 (b:=bN f226 0) abw aai vq ahs
def agV:Fi oz ct xN aiZ gZ:=AS.fin abw aai
structure MA where
 (n i Hx:Y)
 Hy:aC
 WA:Y
 Fm:aC
 (b2 b3 Hu:Y)
 b8:ba
 b9:aC
 st:LS
def leB (s:MA):aC:=(s.b9.set (AA<|s.b2+s.i).toNat (255:Y))
def leC (s:MA):aC:=((BG (((leB s).drop 0).take<|M s.b9)<|au ((M s.b9:aD):Y).toNat (0:Y)).drop 0)
def oH (s:MA):T (Rd MA):=letI a:=((M s.b9:aD):Y);letI b:=(s.Hu,(leC s).take a.toNat);letI c:=M s.b9;letI d:=((leB s).drop 0).take c;.br (aq<|s.i<s.n) (.ik (AA<|s.b2+s.i) c<|.ik (AA<|s.b2+s.i) c<|.rm 1 a<|.req (0+c<=M (leB s))<|.rc a (0:Y) (M d)<|.req (0+a.toNat<=M (BG d<|au a.toNat (0:Y)))<|.rb (M s.b8) (M<|[b]) 32<|.re (M s.b8+M ([b])) (s.b8++([b]))<|.re c (leB s)<|.nx {s with i:=AA<|s.i+1,b8:=s.b8++([b]),b9:=leB s})<|.rl s.b8<|.rl s.b9<|.so (.exit 0) s
def p7 (s:MA):Prop:=s.st=.ready/\s.i=0/\(s.n=s.n/\0<=s.n/\0<=s.b2/\s.b2+s.n<=(M s.Fm:Y)/\M s.Fm<=4096)/\s.b9=Ew s.Fm s.b2 0/\s.b8=[(s.Hu,Ew s.Fm s.b2 0)]
def cu (s:MA):Prop:=s.st=.ready/\(0<=s.i/\s.i<=s.n)/\(s.n=s.n/\0<=s.n/\0<=s.b2/\s.b2+s.n<=(M s.Fm:Y)/\M s.Fm<=4096)/\s.b9=Ew s.Fm s.b2 s.i.toNat/\s.b8=(av<|s.i.toNat+1).map (λk:aD=>(s.Hu,Ew s.Fm s.b2 k))
def aBQ (s:MA):aD:=(s.n-s.i).toNat
def xO (x:Ex) (s s':MA):Prop:=x=.exit 0/\s'.b8=(av<|s'.n.toNat+1).map (λk:aD=>(s'.Hu,Ew s'.Fm s'.b2 k))
def aoV:∀s,p7 s->cu s:=by
 exact aMc
def alg:Da cu aBQ xO oH:=by
 intro s hI;unfold oH;refine AH (λc1=>?_) λc1=>?_
 ·obtain ⟨ht,⟨h0,h1⟩,⟨hn,hn0,ha,hl,h4⟩,hb,ho⟩:=hI
  have hbl:M s.b9=M s.Fm:=aPL
  have c1:s.i<s.n:=AY
  have wa:AA (s.b2+s.i)=s.b2+s.i:=AJ
  have hB:leB s=Ew s.Fm s.b2 (s.i.toNat+1):=aOK
  have hBl:M (leB s)=M s.Fm:=aPM
  have hC:(leC s).take ((M s.b9:aD):Y).toNat=leB s:=aOw
  rw [AJ (x:=s.i+1)]
  have et:(s.i+1).toNat=s.i.toNat+1:=A0
  refine ⟨⟨ht,⟨AZ,AZ⟩,⟨hn,hn0,ha,hl,h4⟩,?_,?_⟩,by simp only [aBQ];omega⟩
  ·simp only [et]
   exact hB
  ·simp only [et]
   rw [SZ,KK,<-ho,ER,LR,<-hB,<-hC]
 ·obtain ⟨ht,⟨h0,h1⟩,⟨hn,hn0,ha,hl,h4⟩,hb,ho⟩:=hI
  have c1:s.n<=s.i:=AY
  refine ⟨rfl,?_⟩;rw [ho]
  have e:s.i.toNat=s.n.toNat:=A0
  rw [e]
def dB:AS MA:=⟨7,41,[0,3,4,6,15,16],[],λs=>[.CQ 6,.own 4 0,.own 2 0,.own 7 0,s.n,s.i],λs=>[⟨[s.Hx,.xl (.int ax) s.Hy],37,.cl,X⟩,⟨[s.WA,.xl (.int ax) s.Fm],37,.cl,X⟩,⟨[s.b2],3,.cl,X⟩,⟨[s.b3],3,.cl,X⟩,⟨[.fn 224 []],329,.cl,X⟩,⟨[.os 8 2 0<|M s.b8],218,.cl,X⟩,⟨[.junk,.junk,.junk,.own 5 0,.v<|.tuple #[],.junk,.v<|.tuple #[],.v<|.tuple #[],.v<|.tuple #[],.v<|.tuple #[],.v<|.tuple #[],.junk],0,.Cn aaR aaX aaV s.st,X⟩,⟨[s.Hu,.os 9 1 0<|M s.b9],37,.cl,X⟩,bV 37 Bn s.b8,bV 5 (.int ax) s.b9],λv b=>⟨AL v 4,AL v 5,Am b 0 0,AF (.int ax) b 0 1,Am b 1 0,AF (.int ax) b 1 1,Am b 2 0,Am b 3 0,Am b 7 0,Ab Bn b 8,Ab (.int ax) b 9,.ready⟩,oH,λs r=> {r with n:=s.n,Hx:=s.Hx,Hy:=s.Hy,WA:=s.WA,Fm:=s.Fm,b2:=s.b2,b3:=s.b3,Hu:=s.Hu,st:=s.st},λs=> {s with st:=.ready},λx s=> {s with st:=(match x with| .exit 0=> .ready|_=> .ready)},[.exit 0],p7,cu,aBQ⟩
abbrev Wj:=dB.run
abbrev aia:=dB.Av
def vp:aO:=[XY,aa2]
def ahr:Az:=kI vp<|la 3 func226 ti<|l0 vp
def akn:Rq cu oH:=by
 intro s hI;refine ⟨λc1=>⟨?_,?_,?_,?_,?_,?_,?_,?_,?_,?_,?_,an⟩,λc1=>⟨A9,A9,an⟩⟩
 all_goals ((obtain ⟨ht,⟨h0,h1⟩,⟨hn,hn0,ha,hl,h4⟩,hb,ho⟩:=hI;have hbl:M s.b9=M s.Fm:=aPL;have c1:s.i<s.n:=A8;have wa:AA (s.b2+s.i)=s.b2+s.i:=AJ;have hB:leB s=Ew s.Fm s.b2 (s.i.toNat+1):=aOK;have hBl:M (leB s)=M s.Fm:=aPM;have hC:(leC s).take ((M s.b9:aD):Y).toNat=leB s:=aOw;(first|omega|exact ⟨rfl,AI⟩ |(rw [wa];omega) |(rw [hC];simp only [B8,BY,Bh,ho,GH,Sj,Dw];omega) |(rw [hBl];omega) |(rw [C0,Cf,Wx A0];omega) |(rw [C0,Wx A0,qY A0];omega))))
def aby:dB.Ok:={}
def aak:dB.Pf (xO):=⟨aoV,λs h=>by
 obtain ⟨n,i,Hx,Hy,WA,Fm,b2,b3,Hu,b8,b9,st⟩:=s
 have e:=h.1
 subst e;rfl,alg,akn⟩
def aQ0:=s2 (b:=bN f226 0) aby aak vp ahr
def agZ:Fi p7 cu xO aia Wj:=AS.fin aby aak
def Us (se:Y) (fl:aC) (a:Y) (d:aC):ba:=if FC se fl a d=0 then Dt se fl a d else []
def E8 (se:Y) (fl:aC) (s:Y):ba:=if IM se fl s=0 then erL se fl s else []
def aU3:aE->T LV
 | [.agg [.v (ah J se),.xl (.int ax) fl],.v (ah J at_),.xl (.int ax) d]=> .req (M d<=1000000) (.ok<|.AQ [.xl Bn<|Us se fl at_ d,FC se fl at_ d])
 |_=> .no
def adz (se:Y) (fl:aC) (at_:Y) (d:aC):M9:=(⟨(M d:Y),0,se,fl,d,se,fl,at_,(M d:Y),se,[(se,((BG (((BG fl<|au (M fl:Y).toNat (0:Y)).drop 0).take (M fl:Y).toNat)<|au (((M fl:Y).toNat:aD):Y).toNat (0:Y)).drop 0).take (((M fl:Y).toNat:aD):Y).toNat)],BG fl<|au (M fl:Y).toNat (0:Y),.ready⟩:M9)
def vk:aO:=[XY,aa1]
def ahq:Az:=kI vk<|la 3 func226 aQ0<|la 3 func226 ti<|l0 vk
def ak3:=vo (S:=aU3) func213 vk ahq (λargs lv h=>by
 unfold aU3 at h;split at h
 ·rename_i se fl at_ d
  refine Au (letI b:=(M fl:Y);letI c:=(BG fl<|au b.toNat (0:Y));letI e:=((b.toNat:aD):Y);letI g:=adz se fl at_ d;letI i:=(c.drop 0).take b.toNat;letI a:=(BG i<|au e.toNat (0:Y));letI f:=(se,(a.drop 0).take e.toNat);.br ((!(Hh se fl)) ||(aq<|at_<0)) (.ok<|.AQ [.xl Bn ([]:ba),(1:Y)])<|.br (aq<|at_>(AA<|b-(M d:Y))) (.ok<|.AQ [.xl Bn ([]:ba),(3:Y)])<|.rm 1 b<|.rc b (0:Y) (M fl)<|.rm 1 e<|.req (0+b.toNat<=M c)<|.rc e (0:Y) (M i)<|.req (0+e.toNat<=M a)<|.req ((M ([f]):Y)*32<=2^47/\(M ([f]):Y)<2^62)<|.rl ([f])<|.re b.toNat c<|.req (dA.q g)<|.rz (gZ g).b9<|.ok<|.AQ [.xl Bn<|((gZ g).b9.drop 0).take<|M (gZ g).b9,(0:Y)]) ?_;obtain ⟨hd,rfl⟩:=h;refine ⟨λc1=>?_,λc1=>⟨λc2=>?_,λc2=>?_⟩⟩
  ·have hE:FC se fl at_ d=1:=by unfold FC;rw [AD c1]
   unfold Us;rw [hE];rfl
  all_goals have c1':Hh se fl=U/\0<=at_:=by simp at c1;omega
  all_goals have hv:=NY.1 c1'.1
  all_goals rw [AJ (x:=(M fl:Y)-(M d:Y))] at c2
  ·have hE:FC se fl at_ d=3:=by unfold FC;rw [AE cI,AD<|Ct c2]
   unfold Us;rw [hE];rfl
  have c2:at_<=(M fl:Y)-(M d:Y):=ET
  have hE:FC se fl at_ d=0:=by unfold FC;rw [AE cI,AE A0]
  have z1:BG fl (au (M fl:Y).toNat (0:Y))=fl:=aP9
  have z2:((BG (((BG fl<|au (M fl:Y).toNat (0:Y)).drop 0).take (M fl:Y).toNat)<|au (((M fl:Y).toNat:aD):Y).toNat (0:Y)).drop 0).take (((M fl:Y).toNat:aD):Y).toNat=fl:=by
   rw [z1,C0,C0];exact pn rfl
  have z5:BG (((BG fl<|au (M fl:Y).toNat (0:Y)).drop 0).take (M fl:Y).toNat) (au (((M fl:Y).toNat:aD):Y).toNat (0:Y))=fl:=by
   grind
  have z6:((BG fl<|au (M fl:Y).toNat (0:Y)).drop 0).take (M fl:Y).toNat=fl:=by
   rw [z1,C0,Wx rfl]
  have hL:oz (adz se fl at_ d):=⟨rfl,rfl,⟨rfl,by show (0:Y)<=(M d:Y);omega,c1'.2,by show at_+(M d:Y)<=(M fl:Y);omega,hv.2.2.2.1⟩,z1,aOp⟩
  obtain ⟨s',_,q1,q2⟩:=agV _ hL;refine ⟨?_,?_,?_,?_,?_,?_,?_,A9,?_,⟨hL,rfl,rfl⟩,A0,?_⟩
  iterate 8 · (first|omega|(rw [z6,Cf];omega) |(rw [Cf];omega) |(rw [z5];omega) |(rw [z1];omega) |(simp only [BY,Bh];decide))
  unfold Us;rw [AD hE,hE,CT,DS<|Ar _,q2];rfl
 ·cases h)
def aTv:aE->T LV
 | [.agg [.v (ah J se),.xl (.int ax) fl],.v (ah J sc)]=> .ok (.AQ [.xl Bn<|E8 se fl sc,IM se fl sc])
 |_=> .no
def pe (se:Y) (fl:aC) (sc:Y):MA:=(⟨se,0,se,fl,se,fl,AA<|sc*se,se,se,[(se,((BG (((BG fl<|au (M fl:Y).toNat (0:Y)).drop 0).take (M fl:Y).toNat)<|au (((M fl:Y).toNat:aD):Y).toNat (0:Y)).drop 0).take (((M fl:Y).toNat:aD):Y).toNat)],BG fl<|au (M fl:Y).toNat (0:Y),.ready⟩:MA)
def vj:aO:=[XY,aa2]
def ahp:Az:=kI vj<|la 3 func226 aQ0<|la 3 func226 ti<|l0 vj
def aa3:=vo (S:=aTv) func217 vj ahp (λargs lv h=>by
 unfold aTv at h;split at h
 ·rename_i se fl sc
  refine Au (letI b:=(M fl:Y);letI c:=(BG fl<|au b.toNat (0:Y));letI d:=((b.toNat:aD):Y);letI f:=pe se fl sc;letI g:=(c.drop 0).take b.toNat;letI a:=(BG g<|au d.toNat (0:Y));letI e:=(se,(a.drop 0).take d.toNat);.br (!(Hh se fl)) (.ok<|.AQ [.xl Bn ([]:ba),(1:Y)])<|.br (aq<|sc<0) (.ok<|.AQ [.xl Bn ([]:ba),(1:Y)])<|.req (se≠0)<|.br (aq<|sc>=(AA<|b.tdiv se)) (.ok<|.AQ [.xl Bn ([]:ba),(1:Y)])<|.rm 1 b<|.rc b (0:Y) (M fl)<|.rm 1 d<|.req (0+b.toNat<=M c)<|.rc d (0:Y) (M g)<|.req (0+d.toNat<=M a)<|.req ((M ([e]):Y)*32<=2^47/\(M ([e]):Y)<2^62)<|.rl ([e])<|.re b.toNat c<|.req (dB.q f)<|.rz (Wj f).b8<|.ok<|.AQ [.xl Bn<|((Wj f).b8.drop 0).take<|M (Wj f).b8,(0:Y)]) ?_;obtain rfl:=h
  have bad:IM se fl sc=1->LV.AQ [.xl Bn ([]:ba),.v<|ah J 1]=LV.AQ [.xl Bn<|E8 se fl sc,.v<|ah J<|IM se fl sc]:=λhE=>by unfold E8;rw [hE];rfl
  refine ⟨λc1=>bad ?_,λc1=>⟨λc2=>bad ?_,λc2=>⟨?_,λc3=>bad ?_,λc3=>?_⟩⟩⟩
  ·unfold IM;rw [AD (by rw [c1];rfl)]
  ·unfold IM;rw [AD<|by rw [c2,Bool.true_or,OY]]
  all_goals have hv:=NY.1 AY
  ·omega
  all_goals have hd:0<=(M fl:Y).tdiv se/\(M fl:Y).tdiv se<=(M fl:Y):=(by rw [IN A0];exact ⟨Sa A0 A0,VD _ A0⟩)
  all_goals (rw [AJ (x:=(M fl:Y).tdiv se)] at c3)
  ·unfold IM;rw [AD<|by rw [c3,OY,OY]]
  have hE:IM se fl sc=0:=by unfold IM;rw [AE (by rw [c1,c2,c3];decide)]
  have c2:0<=sc:=ET
  have c3:sc<(M fl:Y).tdiv se:=NF
  have hm:sc*se+se<=(M fl:Y):=by
   have h1:(sc+1)*se<=(M fl:Y).tdiv se*se:=MG A0 A0
   have h2:(M fl:Y).tdiv se*se<=(M fl:Y):=by
    rw [IN A0];exact Int.ediv_mul_le _ A0
   have h3:(sc+1)*se=sc*se+se:=by rw [mj,Zt]
   omega
  have hn:0<=sc*se:=Iv c2 A0
  have wm:AA (sc*se)=sc*se:=AJ
  have z1:BG fl (au (M fl:Y).toNat (0:Y))=fl:=aP9
  have z2:((BG (((BG fl<|au (M fl:Y).toNat (0:Y)).drop 0).take (M fl:Y).toNat)<|au (((M fl:Y).toNat:aD):Y).toNat (0:Y)).drop 0).take (((M fl:Y).toNat:aD):Y).toNat=fl:=by
   rw [z1,C0,C0];exact pn rfl
  have z5:BG (((BG fl<|au (M fl:Y).toNat (0:Y)).drop 0).take (M fl:Y).toNat) (au (((M fl:Y).toNat:aD):Y).toNat (0:Y))=fl:=by
   grind
  have z6:((BG fl<|au (M fl:Y).toNat (0:Y)).drop 0).take (M fl:Y).toNat=fl:=by
   rw [z1,C0,Wx rfl]
  have hL:p7 (pe se fl sc):=⟨rfl,rfl,⟨rfl,by show (0:Y)<=se;omega,by show 0<=AA (sc*se);omega,by show AA (sc*se)+se<=(M fl:Y);omega,hv.2.2.2.1⟩,z1,aOp⟩
  obtain ⟨s',_,q1,q2⟩:=agZ _ hL
  have q2:(Wj<|pe se fl sc).b8=(av<|se.toNat+1).map (λk:aD=>(se,Ew fl (AA<|sc*se) k)):=q2
  rw [wm] at q2
  have q2:(Wj<|pe se fl sc).b8=erL se fl sc:=q2
  refine ⟨?_,?_,?_,?_,?_,?_,?_,A9,?_,⟨hL,rfl,rfl⟩,A0,?_⟩
  iterate 8 · (first|omega|(rw [z6,Cf];omega) |(rw [Cf];omega) |(rw [z5];omega) |(rw [z1];omega) |(simp only [BY,Bh];decide))
  unfold E8;rw [AD hE,hE,CT,DS<|Ar _,q2];rfl
 ·cases h)
def awD:aE->T LV:=λ_=> .no
def fA:VV 1000218 awD:=by
 intro _ _ _ _ _ _ _ _ _ h;exact h.elim
def BV (al:ba):Fl:=GV al<|(M al:Y)-1
def JY (al:ba) (er a:Y) (d:aC):Y:=if FC (BV al).1 (BV al).2 a d=0 then er else FC (BV al).1 (BV al).2 a d
def spA (al:ba) (a:Y) (d:aC):ba:=if FC (BV al).1 (BV al).2 a d=0 then al++(Dt (BV al).1 (BV al).2 a d).drop 1 else al
def aTR:Vm:=λi=>if i=10 then ai ([9,10,11],[]) else if i=11 then ai ([9,10,11],[]) else ak
structure Gw where
 at_:Y
 d:aC
 er:Y
 al:ba
def US (s:Gw):aE:=[.own 0 0,s.at_,.xl (.int ax) s.d]
def ZW (s:Gw):aH:=[⟨[.os 1 2 0<|M s.al,s.er],323,.cl,X⟩,bV 37 Bn s.al]
structure Y3 where
 er:Y
 al:ba
def acw (s:Y3):LV:=.v<|.tuple #[]
def acr (s:Y3):aH:=[⟨[.os 2 2 0<|M s.al,s.er],323,.cl,X⟩,⟨[],37,.dead,X⟩,bV 37 Bn s.al]
def aDA (s:Gw):Y:=(AA<|((M s.al:aD):Y)-1)
def W1 (s:Gw):Fl:=(s.al.getD (aDA s).toNat<|Ty.dflt Bn)
def jE (s:Gw):T Y3:=letI c:=FC (W1 s).1 (W1 s).2 s.at_ s.d;letI e:=Us (W1 s).1 (W1 s).2 s.at_ s.d;letI b:=(M e:Y);letI a:=((e.drop (1:Y).toNat).take<|b.toNat-(1:Y).toNat);.ik (aDA s) (M s.al)<|.req (M s.d<=1000000)<|.br (!(c==(0:Y))) (.rl s.al<|.ok<|⟨c,s.al⟩)<|.req (0<=(1:Y)/\(1:Y)<=b/\b<=b)<|.rb (M s.al) (M a) 32<|.re (M s.al+M a) (s.al++a)<|.ok<|⟨s.er,s.al++a⟩
def aCs (s:Gw):Prop:=s.al≠ []/\M s.al<=4000000/\M s.d<=5000
def aBE (s:Gw):Y3:=⟨JY s.al s.er s.at_ s.d,spA s.al s.at_ s.d⟩
def UJ:D4 Gw Y3:=⟨US,ZW,λv b=>⟨AL v 1,B3 (.int ax) v 2,Am b 0 1,Ab Bn b 1⟩,aCs,[],[.ms 1 0],acw,acr,aBE⟩
abbrev im (s:Gw):Prop:=aCs s/\US s=US s/\ZW s=ZW s
def Ws:aO:=[ak3,jA,fA]
def aSm:Az:=kI Ws<|l0 Ws
def aUz:DV:=EM prog AU Ws 20 2
def aqH:EZ prog AU aUz:=Hz<|gk Ws
def az5 (s:Gw):((Em prog AU Ws aUz aSm).k 189 (US s)<|ZW s).bind (λq=>GP (M<|ZW s) [0] [.ms 1 0] .normal (q.1::US s) q.2)=(jE s).mp (λs2=>⟨.normal,M (US s)+1,[acw s2],acr s2,U⟩):=AX
def axo (s:Gw) (hE:aCs s):(jE s).all (λq=>q=aBE s):=by
 obtain ⟨h0,h1,h2⟩:=hE
 have hp:=OW.2 h0
 have w:aDA s=(M s.al:Y)-1:=AJ
 have hY:W1 s=BV s.al:=by unfold W1 BV GV;rw [w];rfl
 unfold jE aBE JY spA;rw [w,hY];refine ⟨A0,A0,A0,λc1=>?_,λc1=>?_⟩
 ·have c1:¬FC (BV s.al).1 (BV s.al).2 s.at_ s.d=0:=A8
  rw [AE c1,AE c1];exact ⟨A9,rfl⟩
 ·have c1:FC (BV s.al).1 (BV s.al).2 s.at_ s.d=0:=A8
  have hR:Us (BV s.al).1 (BV s.al).2 s.at_ s.d=Dt (BV s.al).1 (BV s.al).2 s.at_ s.d:=AD c1
  have hl:M (Dt (BV s.al).1 (BV s.al).2 s.at_ s.d)=M s.d+1:=by unfold Dt;simp
  rw [AD c1,AD c1,hR,hl];rw [DS A8];refine ⟨A0,A8,AI,rfl⟩
def iB:Dk prog AU 189 UJ.m:=D4.sound (D:=UJ) (t:=jE) (gk Ws) aqH aSm.h az5 λs hE=>⟨axo s hE⟩
def Ji:Y->aJ->Bool
 |_,[]=>U
 |left,d::ds=>if (aq ((M d:Y)>65535) ||aq (7+(M d:Y)>left))=U then X else Ji (left-(7+(M d:Y))) ds
def aT2:∀(ds:aJ) (left:Y),0<=left->Ji left ds=(aq ((((ds.map λd=>7+M d).sum:aD):Y)<=left)&&ds.all (λd=>aq<|M d<=65535))
 | [],left,h=>by simp [Ji,h]
 | d::ds,left,h=>by
  simp only [Ji,ER,List.sum_cons,It];split
  ·rename_i hc
   rw [Eq.comm,IS];intro hh;simp only [Cc,AV,Aa] at hc hh;omega
  ·rename_i hc
   simp only [Cc,Aa,not_or] at hc;rw [aT2 ds _ A0,Iw]
   grind
structure MC where
 r:aN
 left:Y
 l:aJ
 (n i:Y)
def aJd:=bN f192 0
def aDH (s:MC):T (Rd MC):=
 .br (aq<|s.i<s.n) (.ix s.i (M s.l)<|.br ((aq<|(M (gx (e:=.sl<|.int ax) s.l s.i):Y)>65535) ||(aq<|(AA<|7+(M (gx (e:=.sl<|.int ax) s.l s.i):Y))>s.left)) (.so (.ret) {s with r:=X})<|.nx {s with left:=AA<|s.left-(AA<|7+(M (gx (e:=.sl<|.int ax) s.l s.i):Y)),i:=AA<|s.i+1}) (.so (.exit 0) s)
def pC (s:MC):Prop:=s.i=0/\s.n<=5000/\s.n=(M s.l:Y)/\ID s.l/\0<=s.left/\s.left<=100000
def ot (s:MC):Prop:=0<=s.i/\s.i<=s.n/\s.n<=5000/\s.n=(M s.l:Y)/\ID s.l/\0<=s.left/\s.left<=100000
def aBS (s:MC):aD:=(s.n-s.i).toNat
def aLu (x:Ex) (s s':MC):Prop:=True
def ao7:∀s,pC s->ot s:=by
 exact Zw
def amo:Da ot aBS aLu aDH:=by
 intro s hI;obtain ⟨h0,h1,h2,h3,h4,h5,h6⟩:=hI;refine AH (λc1=>AH (λc2=>trivial) λc2=>?_) λc1=>trivial
 ·have c1:s.i<s.n:=A8
  have hk:=X4 h4 h0 A0
  have w:AA (7+(M (gx (e:=.sl<|.int ax) s.l s.i):Y))=7+(M (gx (e:=.sl<|.int ax) s.l s.i):Y):=AJ
  rw [w,AJ (x:=s.i+1),AJ (x:=s.left-(7+(M (gx (e:=.sl<|.int ax) s.l s.i):Y)))];exact ⟨⟨A8,A8,h2,h3,h4,A8,A8⟩,by simp only [aBS];omega⟩
def SE:AS MC:=⟨0,32,[4,5,10,11,12],[],λs=>[s.r,s.left,.xl (.sl<|.int ax) s.l,s.n,s.i],λ_=>[],λv b=>⟨Ds v 0,AL v 1,B3 (.sl<|.int ax) v 2,AL v 3,AL v 4⟩,aDH,λs r=> {r with l:=s.l,n:=s.n},λs=>s,λ_ s=>s,[.ret,.exit 0],pC,ot,aBS⟩
abbrev aPx:=SE.run
abbrev aTc:=SE.Av
def akr:Rq ot aDH:=by
 intro s hI;refine ⟨λc1=>⟨?_,λ_=>trivial,λ_=>trivial⟩,λ_=>trivial⟩
 ·exact aNR
def aSx:aO:=[fA]
def ac3:SE.Ok:={}
def aao:SE.Pf (aLu):=⟨ao7,λs h=>rfl,amo,akr⟩
def axd:SA 0 aJd SE:=s1 ac3 aao aSx kN
def ahA:Rs pC aTc aPx (λs:MC=>Ji s.left<|s.l.drop s.i.toNat) (λx s' (v:aN)=>(x=.ret/\s'.r=X/\v=X)\/(x=.exit 0/\v=U)):=DY ac3 aao (λs hI=>by
  obtain ⟨h0,h1,h2,h3,h4,h5,h6⟩:=hI;refine AH (λc1=>AH (λc2=>?_) λc2=>?_) λc1=>?_
  ·have c1:s.i<s.n:=A8
   have hk:=X4 h4 h0 A0
   have w:AA (7+(M (gx (e:=.sl<|.int ax) s.l s.i):Y))=7+(M (gx (e:=.sl<|.int ax) s.l s.i):Y):=AJ
   rw [w] at c2;refine .inl ⟨rfl,rfl,?_⟩;rw [Wf h0 A0,Ji,AD c2]
  ·have c1:s.i<s.n:=A8
   have hk:=X4 h4 h0 A0
   have w:AA (7+(M (gx (e:=.sl<|.int ax) s.l s.i):Y))=7+(M (gx (e:=.sl<|.int ax) s.l s.i):Y):=AJ
   rw [w,AJ (x:=s.i+1),AJ (x:=s.left-(7+(M (gx (e:=.sl<|.int ax) s.l s.i):Y)))]
   show Ji _ _=Ji _ _
   rw [Wf h0 A0,Ji,AE A8]
  ·have c1:s.n<=s.i:=A8
   refine .inr ⟨rfl,?_⟩;rw [Ei A0];rfl)
def aTq:aE->T LV
 | [.xl (.sl (.int ax)) ds,.v (ah J sz)]=> .req ((M ds<=5000/\ID ds)/\5<=sz/\sz<=100000) (.ok<|Ji (sz-5) ds)
 |_=> .no
def aa0:=vm (S:=aTq) func192 aSx kN (L:=(λi=>if i=3 then SE.lp else Ap i)) (λb hb=>by
 rw [show BD _=[aJd] by kernel_rfl] at hb
 simp only [B9,Bx,By] at hb;subst hb;exact axd) (λargs lv h=>by
 unfold aTq at h;split at h
 ·rename_i ds sz
  refine Au (letI a:=(M ds:Y);.req (SE.q (⟨X,(AA<|sz-5),ds,a,0⟩:MC))<|.br (Bt (aTc (⟨X,(AA<|sz-5),ds,a,0⟩:MC))<|.ret) (.ok (aPx (⟨X,(AA<|sz-5),ds,a,0⟩:MC)).r)<|.ok U) ?_;obtain ⟨⟨⟨h0,h1⟩,h2,h3⟩,rfl⟩:=h;rw [AJ (x:=sz-5)]
  have hE:pC ⟨X,sz-5,ds,(M ds:Y),0⟩:=⟨rfl,aOn,rfl,h1,by show 0<=sz-5;omega,by show sz-5<=100000;omega⟩
  have q:=ahA _ hE
  refine ⟨⟨hE,rfl,rfl⟩,?_⟩
  have e:Ji (sz-5) (ds.drop (0:Y).toNat)=Ji (sz-5) ds:=rfl
  rw [<-e];rcases q with ⟨q1,q2,q3⟩ |⟨q1,q2⟩<;>rw [q1]
  ·refine ⟨λ_=>?_,λhc=>by cases hc⟩
   rw [q2];exact B0 (λz=>LV.v<|.bool z) q3.symm
  ·exact ⟨λhc=>(by cases hc),λ_=>B0 (λz=>LV.v<|.bool z) q2.symm⟩
 ·cases h)
structure OA where
 n:Y
def UC (s:OA):aE:=[.v<|ah ay s.n]
def ZE (s:OA):aH:=[]
structure Xx where
 l:aC
def adA (s:Xx):LV:=.os 0 1 0<|M s.l
def adO (s:Xx):aH:=[bV 5 (.int ax) s.l]
def zw (s:OA):T Xx:=letI a:=IntKind.u8.wrap<|s.n.fdiv<|2^24;letI b:=IntKind.u8.wrap<|s.n.fdiv<|2^16;letI c:=IntKind.u8.wrap<|s.n.fdiv<|2^8;.re 4 [a,b,c,IntKind.u8.wrap s.n]<|.ok<|⟨[a,b,c,IntKind.u8.wrap s.n]⟩
def aCw (s:OA):Prop:=True
def aaY (s:OA):Xx:=⟨D2 s.n⟩
def UL:D4 OA Xx:=⟨UC,ZE,λv b=>⟨AL v 0⟩,aCw,[],[],adA,adO,aaY⟩
abbrev akI (s:OA):Prop:=aCw s/\UC s=UC s/\ZE s=ZE s
def iL:aO:=[aPo]
def aUw:DV:=EM prog AU (iL) 20 2
def aqT:EZ prog AU aUw:=Hz<|gk iL
def agx (s:OA):((Em prog AU iL aUw EN).k 195 (UC s)<|ZE s).bind (λq=>GP (M<|ZE s) [0] [] .normal (q.1::UC s) q.2)=(zw s).mp (λs2=>⟨.normal,M (UC s)+1,[adA s2],adO s2,U⟩):=AX
def axK (s:OA) (hE:aCw s):(zw s).all (λq=>q=aaY s):=by
 exact ⟨A9,rfl⟩
def avR:Dk prog AU 195 UL.m:=D4.sound (D:=UL) (t:=zw) (gk iL) aqT Qa agx λs hE=>⟨axK s hE⟩
def wc:Dk prog AU 195 (Qy λa=>UL.m a []):=aHD avR
def afS (m:ba) (z:Fl):BV (m++[z])=z:=by
 unfold BV GV
 simp
def sD {f:aD->Fl}{n:aD}(h:1<=n) (al:ba):BV (al++((av<|n+1).map f).drop 1)=f n:=by
 rw [SZ,KK,ER,LR,aM2 A8,<-Co];exact afS _ _
def tB {se:Y}{a b:aC}(h:M a=M b):Hh se a=Hh se b:=by unfold Hh;rw [h]
def al4 {se:Y}{fl:aC}(h:FB se fl=U) {i:Y}(h0:0<=i) (h1:i<(M fl:Y).tdiv se):0<=i*se/\(i+1)*se=i*se+se/\i*se+se<=(M fl:Y):=by
 obtain ⟨hf,h2,h3,h4,h5⟩:=MW.1 h
 have hm:=(NY.1 hf).2.2.2.2
 have e:=xy (M fl:Y) se
 have h6:(i+1)*se=i*se+se:=A8
 have h7:(i+1)*se<=(M fl:Y).tdiv se*se:=MG A0 A0
 rw [Int.mul_comm] at e;exact ⟨Iv h0 A0,h6,A0⟩
structure O0 where
 r:aN
 l:aC
 (n i tQ aDT:Y)
 afU:aJ
 wP:Y
 s7:aN
 (er se:Y)
 fl:aC
 al:ba
def aAg (s:O0):T (Rd O0):=
 .br (aq<|s.i<s.n) (.ix s.i (M s.l)<|.br ((gi s.l s.i) !=255) (.rl s.al<|.so (.ret) {s with r:=U})<|.rl s.al<|.nx {s with i:=AA<|s.i+1}) (.rl s.al<|.so (.exit 0) s)
def kL (s:O0):Prop:=s.i=0/\s.n<=4096/\s.n=(M s.l:Y)
def lD (s:O0):Prop:=0<=s.i/\s.i<=s.n/\s.n<=4096/\s.n=(M s.l:Y)
def vK (s:O0):aD:=(s.n-s.i).toNat
def adM (x:Ex) (s s':O0):Prop:=True
def al9:∀s,kL s->lD s:=by
 exact nL
def axH:Da lD vK adM aAg:=by
 intro s hI;obtain ⟨h0,h1,h2,h3⟩:=hI;refine AH (λc1=>AH (λc2=>trivial) λc2=>?_) λc1=>trivial
 have c1:s.i<s.n:=A8
 rw [AJ (x:=s.i+1)];exact ⟨⟨A8,A8,h2,h3⟩,by simp only [vK];omega⟩
def ZL:AS O0:=⟨4,26,[3,17,18,19],[],λs=>[s.r,.xl (.int ax) s.l,s.n,s.i],λs=>[⟨[s.tQ,.v<|ah ay s.aDT,.xl (.sl<|.int ax) s.afU,s.wP,s.s7],251,.cl,X⟩,⟨[.os 3 2 0<|M s.al,s.er],323,.cl,X⟩,⟨[s.se,.xl (.int ax) s.fl],37,.cl,X⟩,bV 37 Bn s.al],λv b=>⟨Ds v 0,B3 (.int ax) v 1,AL v 2,AL v 3,Am b 0 0,Am b 0 1,AF (.sl<|.int ax) b 0 2,Am b 0 3,cgB b 0 4,Am b 1 1,Am b 2 0,AF (.int ax) b 2 1,Ab Bn b 3⟩,aAg,λs r=> {s with r:=r.r,i:=r.i},λs=>s,λ_ s=>s,[.ret,.exit 0],kL,lD,vK⟩
abbrev sh:=ZL.run
abbrev fo:=ZL.Av
def Wr:aO:=[gr,zj,aa0,jA,aa3,fA]
def aho:Az:=IL Wr (l0 Wr) [⟨189,UJ.m,iB⟩,⟨195,Qy λa=>UL.m a [],wc⟩]
def ayr:Rq lD aAg:=by
 exact aM9
def aQw:ZL.Ok:={}
def aQY:ZL.Pf (adM):=⟨al9,λs h=>rfl,axH,ayr⟩
def sX:=s2 (b:=bN f193 0) aQw aQY Wr aho
def asw:Rs kL fo sh (λs:O0=>(s.l.drop s.i.toNat).all λb=>b==255) (λx s' (v:aN)=>(x=.ret/\s'.r=U/\v=X)\/(x=.exit 0/\v=U)):=DY aQw aQY (λs hI=>by
  obtain ⟨h0,h1,h2,h3⟩:=hI;refine AH (λc1=>AH (λc2=>?_) λc2=>?_) λc1=>?_
  ·have c1:s.i<s.n:=A8
   refine .inl ⟨rfl,rfl,?_⟩
   have:(gi s.l s.i==255)=false:=A8
   rw [(gi_step h0 A0).1,It,this];rfl
  ·have c1:s.i<s.n:=A8
   have:(gi s.l s.i==255)=true:=A8
   rw [AJ (x:=s.i+1)]
   show List.all _ _=List.all _ _
   rw [(gi_step h0 A0).1,It,this,ES]
  ·have c1:s.n<=s.i:=A8
   refine .inr ⟨rfl,?_⟩;rw [Ei A0];rfl)
structure H4 where
 keep:aJ
 (half other Dp i Wy W0:Y)
 qE:aJ
 Uh:Y
 JD:aN
 (er se:Y)
 fl:aC
 al:ba
def aJQ:=bN f155 0
def J4 (s:H4):O0:=(⟨X,(s.fl.drop (AA<|s.i*s.se).toNat).take<|(AA<|(AA<|s.i+1)*s.se).toNat-(AA<|s.i*s.se).toNat,(M ((s.fl.drop (AA<|s.i*s.se).toNat).take<|(AA<|(AA<|s.i+1)*s.se).toNat-(AA<|s.i*s.se).toNat):Y),0,s.Wy,s.W0,s.qE,s.Uh,s.JD,s.er,s.se,s.fl,s.al⟩:O0)
def GY (s:H4):Y:=(AA<|(AA<|s.other+1)*s.Dp)
def reI (s:H4):Y:=(AA<|((M s.al:aD):Y)-1)
def Bl (s:H4):Fl:=(s.al.getD (reI s).toNat<|Ty.dflt Bn)
def V5 (s:H4):T (Rd H4):=
 .br (aq<|s.i<(GY s)) (.req (0<=(AA<|s.i*s.se)/\(AA<|s.i*s.se)<=(AA<|(AA<|s.i+1)*s.se)/\(AA<|(AA<|s.i+1)*s.se)<=(M s.fl:Y))<|.rl s.al<|.req (ZL.q<|J4 s)<|.br (Bt (fo<|J4 s)<|.ret) (.br (sh<|J4 s).r (.ik (reI s) (M s.al)<|.br (!((IM (Bl s).1 (Bl s).2 s.i)==(0:Y))) (.rl s.al<|.nx {s with i:=AA<|s.i+1,er:=IM (Bl s).1 (Bl s).2 s.i})<|.req (0<=(1:Y)/\(1:Y)<=(M (E8 (Bl s).1 (Bl s).2 s.i):Y)/\(M (E8 (Bl s).1 (Bl s).2 s.i):Y)<=(M (E8 (Bl s).1 (Bl s).2 s.i):Y))<|.rb (M s.al) (M<|((E8 (Bl s).1 (Bl s).2 s.i).drop (1:Y).toNat).take<|(M (E8 (Bl s).1 (Bl s).2 s.i):Y).toNat-(1:Y).toNat) 32<|.re (M s.al+M (((E8 (Bl s).1 (Bl s).2 s.i).drop (1:Y).toNat).take<|(M (E8 (Bl s).1 (Bl s).2 s.i):Y).toNat-(1:Y).toNat)) (s.al++(((E8 (Bl s).1 (Bl s).2 s.i).drop (1:Y).toNat).take<|(M (E8 (Bl s).1 (Bl s).2 s.i):Y).toNat-(1:Y).toNat))<|.nx {s with i:=AA<|s.i+1,al:=s.al++(((E8 (Bl s).1 (Bl s).2 s.i).drop (1:Y).toNat).take<|(M (E8 (Bl s).1 (Bl s).2 s.i):Y).toNat-(1:Y).toNat)})<|.rl s.al<|.nx {s with i:=AA<|s.i+1})<|.br X (.ik (reI s) (M s.al)<|.br (!((IM (Bl s).1 (Bl s).2 s.i)==(0:Y))) (.rl s.al<|.nx {s with i:=AA<|s.i+1,er:=IM (Bl s).1 (Bl s).2 s.i})<|.req (0<=(1:Y)/\(1:Y)<=(M (E8 (Bl s).1 (Bl s).2 s.i):Y)/\(M (E8 (Bl s).1 (Bl s).2 s.i):Y)<=(M (E8 (Bl s).1 (Bl s).2 s.i):Y))<|.rb (M s.al) (M<|((E8 (Bl s).1 (Bl s).2 s.i).drop (1:Y).toNat).take<|(M (E8 (Bl s).1 (Bl s).2 s.i):Y).toNat-(1:Y).toNat) 32<|.re (M s.al+M (((E8 (Bl s).1 (Bl s).2 s.i).drop (1:Y).toNat).take<|(M (E8 (Bl s).1 (Bl s).2 s.i):Y).toNat-(1:Y).toNat)) (s.al++(((E8 (Bl s).1 (Bl s).2 s.i).drop (1:Y).toNat).take<|(M (E8 (Bl s).1 (Bl s).2 s.i):Y).toNat-(1:Y).toNat))<|.nx {s with i:=AA<|s.i+1,al:=s.al++(((E8 (Bl s).1 (Bl s).2 s.i).drop (1:Y).toNat).take<|(M (E8 (Bl s).1 (Bl s).2 s.i):Y).toNat-(1:Y).toNat)})<|.rl s.al<|.nx {s with i:=AA<|s.i+1}) (.rl s.al<|.so (.exit 0) s)
def KR (s:H4):Prop:=FB s.se s.fl=U/\(s.other=0\/s.other=1)/\s.Dp*2=(M s.fl:Y).tdiv s.se
def cy (s:H4):Prop:=s.i=s.other*s.Dp/\KR s/\s.er=0/\M s.al=1/\(BV s.al).1=s.se/\M (BV s.al).2=M s.fl
def N0 (s:H4):Prop:=(s.other*s.Dp<=s.i/\s.i<=(s.other+1)*s.Dp)/\KR s/\s.er=0/\(s.al≠ []/\(M s.al:Y)<=1+600*s.i)/\(BV s.al).1=s.se/\M (BV s.al).2=M s.fl
def Xf (s:H4):aD:=(GY s-s.i).toNat
def xM (x:Ex) (s s':H4):Prop:=x=.exit 0/\s'.er=0/\(s'.al≠ []/\(M s'.al:Y)<=3000000)/\(BV s'.al).1=s'.se/\M (BV s'.al).2=M s'.fl
def aoP:∀s,cy s->N0 s:=by
 rintro s ⟨h0,⟨h1,h2,h3⟩,h4,h5,h6,h7⟩
 have hj:=MW.1 h1
 have hs0:0<=s.Dp:=by have:0<=(M s.fl:Y).tdiv s.se:=(by rw [IN A0];exact Sa A0 A0);omega
 have hz0:(s.other+1)*s.Dp=s.other*s.Dp+s.Dp:=A8
 have ho:0<=s.other*s.Dp:=A8
 exact ⟨⟨A0,A0⟩,⟨h1,h2,h3⟩,h4,⟨A8,A0⟩,h6,h7⟩
def V0 (s:H4) (hI:N0 s) (c1:aq (s.i<GY s)=U):reI s=(M s.al:Y)-1/\Bl s=BV s.al/\AA (s.i*s.se)=s.i*s.se/\AA (AA (s.i+1)*s.se)=s.i*s.se+s.se/\AA (s.i+1)=s.i+1/\
  IM (BV s.al).1 (BV s.al).2 s.i=0/\E8 (BV s.al).1 (BV s.al).2 s.i=erL (BV s.al).1 (BV s.al).2 s.i/\M (erL (BV s.al).1 (BV s.al).2 s.i)=s.se.toNat+1/\0<=s.i*s.se/\s.i*s.se+s.se<=(M s.fl:Y)/\1<=s.se/\s.se<=512/\s.i<GY s/\0<=s.i/\s.i<=4096/\M s.fl<=4096/\GY s=(s.other+1)*s.Dp:=by
 obtain ⟨h0,⟨h1,h2,h3⟩,h4,h5,h6,h7⟩:=hI
 have hj:=MW.1 h1
 have hf:=NY.1 hj.1
 have hq:(M s.fl:Y).tdiv s.se<=(M s.fl:Y):=aOF
 have hp:=OW.2 h5.1
 have hz0:(s.other+1)*s.Dp=s.other*s.Dp+s.Dp:=by rw [mj,Zt]
 have ho:s.other*s.Dp=0\/s.other*s.Dp=s.Dp:=by rcases h2 with e|e<;>rw [e]<;>simp
 have hz:GY s=s.other*s.Dp+s.Dp:=by unfold GY;rw [AJ (x:=s.other+1),hz0];exact AJ
 have c1:s.i<GY s:=Ct c1
 have hi:reI s=(M s.al:Y)-1:=AJ
 have hk:=al4 h1 (i:=s.i) A0 A0
 have hfl:Hh s.se (BV s.al).2=true:=by rw [tB h7];exact hj.1
 have hE:IM (BV s.al).1 (BV s.al).2 s.i=0:=by unfold IM;rw [h6,hfl,h7,AE A8]
 refine ⟨hi,by unfold Bl BV GV;rw [hi];rfl,AJ,by rw [AJ (x:=s.i+1),hk.2.1];exact AJ,AJ,hE,AD hE,by unfold erL;rw [h6];simp,A0,A0,A0,A0,c1,A0,A0,A0,A0⟩
def aaT (s:H4) (hI:N0 s) (c1:aq (s.i<GY s)=U):kL (J4 s):=by
 obtain ⟨hi,hy,w1,w2,wi,hE,hR,hl,n1,n2,n3,n4,n5,n6,n7,n8,n9⟩:=V0 s hI c1;refine ⟨rfl,?_,rfl⟩
 show ((M (List.take _<|List.drop _ s.fl):aD):Y)<=4096
 simp only [ME,FL];omega
def aoO (s:H4) (hI:N0 s):(M s.al:Y)<=3000000:=by
 obtain ⟨h0,⟨h1,h2,h3⟩,h4,h5,h6,h7⟩:=hI
 have hj:=MW.1 h1
 have hq:(M s.fl:Y).tdiv s.se<=(M s.fl:Y):=aOF
 have hz0:(s.other+1)*s.Dp=s.other*s.Dp+s.Dp:=A8
 have ho:s.other*s.Dp=0\/s.other*s.Dp=s.Dp:=A8
 omega
def aLX (s:H4) (hI:N0 s) (c1:aq (s.i<GY s)=U):BV (s.al++(erL (BV s.al).1 (BV s.al).2 s.i).drop 1)=(s.se,Ew (BV s.al).2 (s.i*s.se) s.se.toNat):=by
 obtain ⟨hi,hy,w1,w2,wi,hE,hR,hl,n1,n2,n3,n4,n5,n6,n7,n8,n9⟩:=V0 s hI c1;rw [hI.2.2.2.2.1];exact sD (f:=λk=>(s.se,Ew (BV s.al).2 (s.i*s.se) k)) (n:=s.se.toNat) A0 s.al
def akV:Da N0 Xf xM V5:=by
 intro s hI;unfold V5;dsimp only [T.rd,T.rl,T.rv];refine AH (λc1=>?_) λc1=>⟨rfl,hI.2.2.1,⟨hI.2.2.2.1.1,aoO s hI⟩,hI.2.2.2.2.1,hI.2.2.2.2.2⟩
 have hL:=aLX s hI c1
 obtain ⟨hi,hy,w1,w2,wi,hE,hR,hl,n1,n2,n3,n4,n5,n6,n7,n8,n9⟩:=V0 s hI c1;obtain ⟨h0,hK,h4,h5,h6,h7⟩:=hI
 have st:∀al:ba,al≠ []->(M al:Y)<=601+600*s.i->(BV al).1=s.se->M (BV al).2=M s.fl->N0 {s with i:=s.i+1,al:=al}/\Xf {s with i:=s.i+1,al:=al}<Xf s:=λal a1 a2 a3 a4=>
  ⟨⟨⟨AZ,AZ⟩,hK,h4,⟨a1,AZ⟩,a3,a4⟩,by simp only [Xf];show (GY s-(s.i+1)).toNat<_;omega⟩
 rw [wi];refine AH (λc2=>AH (λc3=>AH (λc4=>?_) λc4=>?_) λc3=>?_) λc2=>?_
 ·grind
 ·rw [hy,hR,DS (by rw [FL,hl];omega)]
  refine st _ (by simp [h5.1]) A8 ?_ ?_
  ·grind
  ·show M (BV<|s.al++List.drop 1 _).2=_;rw [hL,du];exact h7
 all_goals exact st s.al h5.1 A0 h6 h7
def QD:AS H4:=⟨0,97,[1,6,8,9,10,11,12,13],[],λs=>[.xl (.sl<|.int ax) s.keep,.own 0 0,s.half,.own 1 0,s.other,.fn 193 [.own 2 0],s.Dp,s.i],λs=>[⟨[s.Wy,.v<|ah ay s.W0,.xl (.sl<|.int ax) s.qE,s.Uh,s.JD],251,.cl,X⟩,⟨[.os 3 2 0<|M s.al,s.er],323,.cl,X⟩,⟨[s.se,.xl (.int ax) s.fl],37,.cl,X⟩,bV 37 Bn s.al],λv b=>⟨B3 (.sl<|.int ax) v 0,AL v 2,AL v 4,AL v 6,AL v 7,Am b 0 0,Am b 0 1,AF (.sl<|.int ax) b 0 2,Am b 0 3,cgB b 0 4,Am b 1 1,Am b 2 0,AF (.int ax) b 2 1,Ab Bn b 3⟩,V5,λs r=> {r with keep:=s.keep,half:=s.half,other:=s.other,Dp:=s.Dp,Wy:=s.Wy,W0:=s.W0,qE:=s.qE,Uh:=s.Uh,JD:=s.JD,se:=s.se,fl:=s.fl},λs=>s,λ_ s=>s,[.exit 0],cy,N0,Xf⟩
abbrev F8:=QD.run
abbrev aTZ:=QD.Av
def akj:Rq N0 V5:=by
 intro s hI;refine ⟨λc1=>⟨?_,A9,?_,λc2=>⟨λc3=>⟨?_,?_,λc4=>⟨A9,an⟩,λc4=>⟨?_,?_,?_,an⟩⟩,λc3=>⟨A9,an⟩⟩,λc2=>⟨λc5=>⟨?_,?_,λc6=>⟨A9,an⟩,λc6=>⟨?_,?_,?_,an⟩⟩,λc5=>⟨A9,an⟩⟩⟩,λc1=>⟨A9,an⟩⟩
 ·(have hI':=hI.2.2.2.1;have hp:=OW.2 hI'.1;obtain ⟨hi,hy,w1,w2,wi,hE,hR,hl,n1,n2,n3,n4,n5,n6,n7,n8,n9⟩:=V0 s hI c1;(first|(rw [w1,w2];omega) |(rw [hi];omega) |(rw [hy,hR,hl];omega) |(rw [hy,hR,DS AI,FL,hl];omega) |(simp only [B8,Dw])))
 ·exact ⟨aaT s hI c1,rfl,rfl⟩
 iterate 10 · (have hI':=hI.2.2.2.1;have hp:=OW.2 hI'.1;obtain ⟨hi,hy,w1,w2,wi,hE,hR,hl,n1,n2,n3,n4,n5,n6,n7,n8,n9⟩:=V0 s hI c1;(first|(rw [w1,w2];omega) |(rw [hi];omega) |(rw [hy,hR,hl];omega) |(rw [hy,hR,DS AI,FL,hl];omega) |(simp only [B8,Dw])))
def ahn:Az:=IL Wr (la 2 func193 sX<|l0 Wr) [⟨189,UJ.m,iB⟩,⟨195,Qy λa=>UL.m a [],wc⟩]
def aBK:QD.Ok:={}
def aB4:QD.Pf (xM):=⟨aoP,λs h=>rfl,akV,akj⟩
def axT:SA 0 aJQ QD:=s1 aBK aB4 Wr ahn
def azu:Fi cy N0 xM aTZ F8:=AS.fin aBK aB4
def azt:Rs cy aTZ F8 (λs:H4=>G0 s.se s.fl s.i (GY s-s.i).toNat (s.al,(BV s.al).2)) (λx s' (v:List Fl×List Int)=>x=.exit 0/\(s'.al,(BV s'.al).2)=v):=DY aBK aB4 (λs hI=>by
  show DH _ _ ((V5 s).rd s)
  unfold V5;dsimp only [T.rd,T.rl];refine AH (λc1=>?_) λc1=>?_
  ·have hL:=aLX s hI c1
   have q:(fo (J4 s)=.ret/\(sh<|J4 s).r=U/\(((J4 s)).l.drop ((J4 s)).i.toNat).all (λb=>b==255)=X)\/(fo (J4 s)=.exit 0/\(((J4 s)).l.drop ((J4 s)).i.toNat).all (λb=>b==255)=U):=asw _<|aaT s hI c1
   obtain ⟨hi,hy,w1,w2,wi,hE,hR,hl,n1,n2,n3,n4,n5,n6,n7,n8,n9⟩:=V0 s hI c1
   have e:((J4 s)).l.drop ((J4 s)).i.toNat=(s.fl.drop (s.i*s.se).toNat).take s.se.toNat:=by
    show List.drop 0 (List.take _<|List.drop _ s.fl)=_
    grind
   have hw:isW s.se s.fl s.i=!((((J4 s)).l.drop ((J4 s)).i.toNat).all λb=>b==255):=by unfold isW;rw [e]
   have hn:(GY s-s.i).toNat=(GY s-(s.i+1)).toNat+1:=A0
   have h6:=hI.2.2.2.2.1
   rw [hn,wi];simp only [G0];refine AH (λc2=>AH (λc3=>AH (λc4=>?_) λc4=>?_) λc3=>?_) λc2=>?_
   ·grind
   ·rcases q with ⟨_,_,q3⟩ |⟨q1,_⟩
    ·rw [hy,hR,DS AI,hw,q3]
     show G0 s.se s.fl (s.i+1) (GY s-(s.i+1)).toNat (s.al++List.drop 1 _,(BV<|s.al++List.drop 1 _).2)=_
     rw [hL,h6];rfl
    ·rw [Wd c2] at q1;cases q1
   ·rcases q with ⟨_,q2,_⟩ |⟨q1,_⟩
    ·rw [q2] at c3;cases c3
    ·rw [Wd c2] at q1;cases q1
   ·rcases q with ⟨q1,_,_⟩ |⟨_,q2⟩
    ·rw [q1] at c2;simp [Bt] at c2
    ·rw [hw,q2]
     rfl
  ·have c1:GY s<=s.i:=AY
   rw [show (GY s-s.i).toNat=0 by omega]
   exact ⟨rfl,rfl⟩)
structure N2 where
 (half other:Y)
 l:aJ
 (n i er:Y)
 bytes:aC
 al:ba
def aJR:=bN f155 1
def aDF (s:N2):T (Rd N2):=
 .br (aq<|s.i<s.n) (.ix s.i (M s.l)<|.req (M (gx (e:=.sl<|.int ax) s.l s.i)<=70000)<|.rb (M s.bytes) (M<|Bw<|gx (e:=.sl<|.int ax) s.l s.i) 1<|.re (M s.bytes+M (Bw<|gx (e:=.sl<|.int ax) s.l s.i)) (s.bytes++(Bw<|gx (e:=.sl<|.int ax) s.l s.i))<|.rl s.al<|.nx {s with i:=AA<|s.i+1,bytes:=s.bytes++(Bw<|gx (e:=.sl<|.int ax) s.l s.i)}) (.rl s.bytes<|.rl s.al<|.so (.exit 2) s)
def oy (s:N2):Prop:=s.i=0/\s.n<=5000/\s.n=(M s.l:Y)/\ID s.l/\(M s.bytes:Y)<=4+70100*s.i
def oh (s:N2):Prop:=0<=s.i/\s.i<=s.n/\s.n<=5000/\s.n=(M s.l:Y)/\ID s.l/\(M s.bytes:Y)<=4+70100*s.i
def aBN (s:N2):aD:=(s.n-s.i).toNat
def aLr (x:Ex) (s s':N2):Prop:=True
def aoQ:∀s,oy s->oh s:=by
 exact Zw
def aln:Da oh aBN aLr aDF:=by
 intro s hI;obtain ⟨h0,h1,h2,h3,h4,h5⟩:=hI;refine AH (λc1=>?_) λc1=>trivial
 ·have c1:s.i<s.n:=A8
  have hk:=X4 h4 h0 A0
  have hp:=MP<|gx (e:=.sl<|.int ax) s.l s.i
  rw [AJ (x:=s.i+1)];exact ⟨⟨A8,A8,h2,h3,h4,A8⟩,by simp only [aBN];omega⟩
def QE:AS N2:=⟨0,97,[8,9,10,14,69,70,71],[],λs=>[s.half,.own 0 0,s.other,.os 1 1 0<|M s.bytes,.xl (.sl<|.int ax) s.l,s.n,s.i],λs=>[⟨[.os 2 2 0<|M s.al,s.er],323,.cl,X⟩,bV 5 (.int ax) s.bytes,bV 37 Bn s.al],λv b=>⟨AL v 0,AL v 2,B3 (.sl<|.int ax) v 4,AL v 5,AL v 6,Am b 0 1,Ab (.int ax) b 1,Ab Bn b 2⟩,aDF,λs r=> {s with i:=r.i,bytes:=r.bytes},λs=>s,λ_ s=>s,[.exit 2],oy,oh,aBN⟩
abbrev Ng:=QE.run
abbrev aiY:=QE.Av
def akk:Rq oh aDF:=by
 intro s hI;refine ⟨λc1=>⟨?_,?_,?_,?_,A9,an⟩,λc1=>⟨A9,A9,an⟩⟩
 all_goals ((obtain ⟨h0,h1,h2,h3,h4,h5⟩:=hI;have c1:s.i<s.n:=A8;have hk:=X4 h4 h0 A0;have hp:=MP<|gx (e:=.sl<|.int ax) s.l s.i;(first|omega|(simp only [CT,B8];omega) |simp only [CT,B8,Dw])))
def XO:aO:=[gr,zj,aa0,jA,aa3,fA]
def vz:Az:=IL XO (la 2 func193 sX<|l0 XO) [⟨189,UJ.m,iB⟩,⟨195,Qy λa=>UL.m a [],wc⟩]
def abv:QE.Ok:={}
def aah:QE.Pf (aLr):=⟨aoQ,λs h=>rfl,aln,akk⟩
def axU:SA 0 aJR QE:=s1 abv aah XO vz
def azv:Rs oy aiY Ng (λs:N2=>s.bytes++BS (s.l.drop s.i.toNat)) (λx s' (v:aC)=>x=.exit 2/\s'.bytes=v):=DY abv aah (λs hI=>by
  obtain ⟨h0,h1,h2,h3,h4,h5⟩:=hI;refine AH (λc1=>?_) λc1=>?_
  ·have c1:s.i<s.n:=A8
   rw [AJ (x:=s.i+1)]
   show _++_++_=_++_
   rw [Wf h0 A0];simp only [BS,mq,Co,CT]
  ·have c1:s.n<=s.i:=A8
   refine ⟨rfl,?_⟩;rw [Ei A0]
   simp [BS])
def aTP:Vm:=λi=>if i=21 then ai ([8,9,10,14],[.pb 14<|.int ax]) else if i=22 then ai ([8,9,10],[]) else ak
def aTx:aE->T LV
 | [.agg [.v (ah J se),.xl (.int ax) fl],.xl (.sl (.int ax)) ds]=> .req (BN fl/\M ds<=5000/\ID ds) (.ok<|.AQ [.xl Bn<|GB se fl ds,GC se fl ds])
 |_=> .no
def al5 {se:Y}{fl:aC}(h:FB se fl=U):letI a:=((M fl / 2:aD):Y);a.tdiv se*2=(M fl:Y).tdiv se/\0<=a.tdiv se/\a.tdiv se<=2048:=by
 obtain ⟨hf,h2,h3,h4,h5⟩:=MW.1 h
 have e:=xy (M fl:Y) se
 rw [(NY.1 hf).2.2.2.2,Int.add_zero] at e
 have e2:=xy ((M fl:Y).tdiv se) 2
 have e3:((M fl / 2:aD):Y)=se*((M fl:Y).tdiv se).tdiv 2:=by
  have:se*(M fl:Y).tdiv se=2*(se*((M fl:Y).tdiv se).tdiv 2):=A8
  omega
 have e4:((M fl / 2:aD):Y).tdiv se=((M fl:Y).tdiv se).tdiv 2:=by rw [e3];exact Int.mul_tdiv_cancel_left _ A0
 have hq:0<=((M fl / 2:aD):Y).tdiv se/\((M fl / 2:aD):Y).tdiv se<=((M fl / 2:aD):Y):=by
  rw [IN A0];exact ⟨Sa A0 A0,VD _ A0⟩
 omega
def az1 (l:aC):0<=H6 l/\H6 l<4294967296:=by
 unfold H6 nm4 Dc;rw [TD];omega
def aTO (fl:aC):Aw fl=0\/Aw fl=1:=aOm
def FQ (se:Y) (fl:aC) (ds:aJ):H4:=(⟨ds,AA<|(M fl:Y).tdiv 2,AA<|1-(Eo se fl),AA<|(AA<|(M fl:Y).tdiv 2).tdiv se,AA<|(AA<|1-(Eo se fl))*(AA<|(AA<|(M fl:Y).tdiv 2).tdiv se),Eo se fl,Ih se fl,FA se fl,HQ se fl,L5 se fl,0,se,fl,[(se,((([]:aC)++fl).drop 0).take<|0+M fl)]⟩:H4)
def MT (se:Y) (fl:aC) (ds:aJ):N2:=(⟨AA<|(M fl:Y).tdiv 2,AA<|1-(Eo se fl),ds,(M ds:Y),0,(F8<|FQ se fl ds).er,D2<|IntKind.u32.wrap<|(Ih se fl)+1,(F8<|FQ se fl ds).al⟩:N2)
def aov (se:Y) (fl:aC) (ds:aJ):Gw:=(⟨AA<|(AA<|(AA<|1-(Eo se fl))*(AA<|(M fl:Y).tdiv 2))+1,((Ng<|MT se fl ds).bytes.drop 0).take<|M (Ng<|MT se fl ds).bytes,(F8<|FQ se fl ds).er,(F8<|FQ se fl ds).al⟩:Gw)
def aou (se:Y) (fl:aC) (ds:aJ):Gw:=(⟨AA<|(AA<|1-(Eo se fl))*(AA<|(M fl:Y).tdiv 2),[(80:Y)],JY (F8<|FQ se fl ds).al (F8<|FQ se fl ds).er (AA<|(AA<|(AA<|1-(Eo se fl))*(AA<|(M fl:Y).tdiv 2))+1)<|((Ng<|MT se fl ds).bytes.drop 0).take<|M (Ng<|MT se fl ds).bytes,spA (F8<|FQ se fl ds).al (AA<|(AA<|(AA<|1-(Eo se fl))*(AA<|(M fl:Y).tdiv 2))+1)<|((Ng<|MT se fl ds).bytes.drop 0).take<|M (Ng<|MT se fl ds).bytes⟩:Gw)
def rwX (se:Y) (fl:aC) (ds:aJ):Y:=(AA<|(AA<|1-(Eo se fl))*(AA<|(M fl:Y).tdiv 2))
def rwY (se:Y) (fl:aC) (ds:aJ):aC:=(((Ng<|MT se fl ds).bytes.drop 0).take<|M (Ng<|MT se fl ds).bytes)
def N4 (se:Y) (fl:aC) (ds:aJ):ba:=(spA (F8<|FQ se fl ds).al (AA<|(rwX se fl ds)+1)<|rwY se fl ds)
def rwW (se:Y) (fl:aC) (ds:aJ):Y:=(JY (F8<|FQ se fl ds).al (F8<|FQ se fl ds).er (AA<|(rwX se fl ds)+1)<|rwY se fl ds)
def rwA (se:Y) (fl:aC) (ds:aJ):ba:=(spA (N4 se fl ds) (rwX se fl ds)<|[(80:Y)])
def az6 (se:Y) (fl:aC) (ds:aJ):letI b:=(AA<|(M fl:Y).tdiv 2);letI c:=FQ se fl ds;letI d:=IntKind.u32.wrap<|(Ih se fl)+1;letI e:=rwA se fl ds;letI f:=N4 se fl ds;letI a:=(JY f (rwW se fl ds) (rwX se fl ds)<|[(80:Y)]);jy prog AU (XO) vz (λi=>if i=11 then QD.lp else if i=17 then QE.lp else Ap i) aTP f155 [.agg [se,.xl (.int ax) fl],.xl (.sl<|.int ax) ds]=.req (BN fl) (.br ((Bs se fl) !=0) (.ok<|.AQ [.xl Bn ([]:ba),Bs se fl])<|.req ((2:Y)≠0)<|.req ((M ds<=5000/\ID ds)/\5<=b/\b<=100000)<|.br ((!(Ji (b-5) ds)) ||((Ih se fl)==4294967295)) (.ok<|.AQ [.xl Bn ([]:ba),(10:Y)])<|.ra 0 (M ([]:aC)) (0+M fl) 1<|.req (0+(0+M fl)<=M (([]:aC)++fl))<|.rv (.v<|ah J<|Eo se fl)<|.req (se≠0)<|.re 1 [(se,((([]:aC)++fl).drop 0).take<|0+M fl)]<|.req (QD.q c)<|.req (akI (⟨d⟩:OA))<|.rl (D2 d)<|.rl (F8 c).al<|.req (QE.q<|MT se fl ds)<|.rz (Ng<|MT se fl ds).bytes<|.rl (F8 c).al<|.rl (F8 c).al<|.req (im<|aov se fl ds)<|.rl f<|.rl f<|.req (im<|aou se fl ds)<|.br (!(a==(0:Y))) (.ok<|.AQ [.xl Bn ([]:ba),a])<|.rz e<|.ok<|.AQ [.xl Bn<|(e.drop 0).take<|M e,(0:Y)]):=AX
def aVk:VV 155 (uS f155 aTx):=aEV (cs:=aTP) func155 rfl (gk XO) vz.h (L:=(λi=>if i=11 then QD.lp else if i=17 then QE.lp else Ap i)) (λb hb=>by
 rw [show BD _=[aJQ,aJR] by kernel_rfl] at hb
 simp only [B9,Bx,By] at hb;rcases hb with rfl|rfl
 ·exact axT
 ·exact axU) (λargs lv h=>by
 unfold aTx at h;split at h
 ·simp only [canL,canX]
  rw [az6];rename_i se fl ds;obtain ⟨⟨hb,hn,hk⟩,rfl⟩:=h
  have bad:∀e:Y,e≠0->GC se fl ds=e->LV.AQ [.xl Bn ([]:ba),.v<|ah J e]=LV.AQ [.xl Bn<|GB se fl ds,.v<|ah J<|GC se fl ds]:=λe h0 h1=>by unfold GB;rw [h1,AE h0]
  refine ⟨hb,λc1=>?_,λc1=>?_⟩
  ·have c1:Bs se fl≠0:=AY
   exact bad _ c1 (by unfold GC;rw [AD c1])
  have hE:Bs se fl=0:=AY
  have hj:FB se fl=true:=by
   cases e:FB se fl
   ·unfold Bs at hE;rw [AD e] at hE;cases hE
   ·rfl
  have hq:=MW.1 hj
  have hh:AA ((M fl:Y).tdiv 2)=((M fl / 2:aD):Y):=by
   exact aNd
  have hA:Eo se fl=Aw fl:=aPA
  have hG:Ih se fl=JS fl (Aw fl):=by unfold Ih;rw [AD hE]
  have hc:=aTO fl
  have w0:AA (1-Aw fl)=1-Aw fl:=AJ
  have hF:Ji (((M fl / 2:aD):Y)-5) ds=rwF fl ds:=by
   rw [aT2 _ _ A0];unfold rwF
   congr 1
   rw [decide_eq_decide];omega
  refine ⟨Ac,⟨⟨hn,hk⟩,by rw [hh];omega,by rw [hh];omega⟩,λc2=>?_,λc2=>?_⟩<;>rw [hh,hF,hG] at c2
  ·exact bad 10 Ac (by unfold GC;rw [AE yz,AD c2])
  have hR:GC se fl ds=0:=by unfold GC;rw [AE yz,AE VS]
  simp only [HF,IQ,CV,ne_eq] at c2
  have hsum:5+M (BS ds)<=M fl / 2:=by
   have:=c2.1
   unfold rwF at this;simp only [AV,Aa] at this;rw [rC];exact this.1
  obtain ⟨k1,k2,k3⟩:=al5 hj
  have hm:∀x:Y,0<=x->x<=2048->AA ((1-Aw fl)*x)=(1-Aw fl)*x/\0<=(1-Aw fl)*x/\(1-Aw fl)*x<=x:=λx x0 x1=>by
   have:(1-Aw fl)*x=0\/(1-Aw fl)*x=x:=aOg
   exact ⟨AJ,A0,A0⟩
  have hst:FQ se fl ds=⟨ds,((M fl / 2:aD):Y),1-Aw fl,((M fl / 2:aD):Y).tdiv se,(1-Aw fl)*((M fl / 2:aD):Y).tdiv se,Aw fl,Ih se fl,FA se fl,HQ se fl,L5 se fl,0,se,fl,[(se,fl)]⟩:=by
   unfold FQ;rw [hh,hA,w0,AJ (x:=((M fl / 2:aD):Y).tdiv se),(hm _ k2 k3).1,EG,CT,F5,Ej]
  have hE0:cy (FQ se fl ds):=by rw [hst];exact ⟨rfl,⟨hj,by show 1-Aw fl=0\/1-Aw fl=1;omega,k1⟩,rfl,rfl,rfl,rfl⟩
  obtain ⟨_,_,q1,q2,q3,q4,q5⟩:=azu _ hE0
  have q6:((F8<|FQ se fl ds).al,(BV (F8<|FQ se fl ds).al).2)=Hg se fl:=by
   have:=(azt _ hE0).2
   rw [this,hst];unfold Hg
   have hz:GY ⟨ds,((M fl / 2:aD):Y),1-Aw fl,((M fl / 2:aD):Y).tdiv se,(1-Aw fl)*((M fl / 2:aD):Y).tdiv se,Aw fl,Ih se fl,FA se fl,HQ se fl,L5 se fl,0,se,fl,[(se,fl)]⟩=(1-Aw fl)*((M fl / 2:aD):Y).tdiv se+((M fl / 2:aD):Y).tdiv se:=by
    have:=hm _ k2 k3
    show AA (AA (1-Aw fl+1)*((M fl / 2:aD):Y).tdiv se)=_
    rw [AJ (x:=1-Aw fl+1),mj,Zt];exact AJ
   show G0 se fl _ (GY _-(1-Aw fl)*((M fl / 2:aD):Y).tdiv se).toNat _=_
   rw [hz]
   congr 1
   omega
  have r1:(F8<|FQ se fl ds).se=se/\(F8<|FQ se fl ds).fl=fl:=by rw [hst];exact ⟨rfl,rfl⟩
  rw [r1.1] at q4;rw [r1.2] at q5
  have q7:(BV (F8<|FQ se fl ds).al).2=(Hg se fl).2:=B0 Prod.snd q6
  have hl:BV (F8<|FQ se fl ds).al=(se,(Hg se fl).2):=Prod.ext q4 q7
  have ha:(F8<|FQ se fl ds).al=(Hg se fl).1:=B0 Prod.fst q6
  have hEb:oy (MT se fl ds):=⟨rfl,aOn,rfl,hk,by show ((4:aD):Y)<=4+70100*0;decide⟩
  have hY:rwY se fl ds=Eh fl ds:=by
   have q:=(azv _ hEb).2
   have hg:=az1<|((Bp fl<|Aw fl).drop 1).take 4
   have hw:IntKind.u32.wrap (Ih se fl+1)=JS fl (Aw fl)+1:=by
    have:=c2.2
    rw [hG,TD];unfold JS at*;omega
   unfold rwY Eh;rw [CT,Ej,q,<-hw];rfl
  have hX:rwX se fl ds=H9 fl:=by unfold rwX H9;rw [hA,w0,hh];exact (hm _ A0 A0).1
  obtain ⟨_,o1,o2⟩:=hm ((M fl / 2:aD):Y) A0 A0
  have oO:H9 fl=(1-Aw fl)*((M fl / 2:aD):Y):=rfl
  have hX1:AA (rwX se fl ds+1)=H9 fl+1:=by rw [hX];exact AJ
  have hBl:M (Eh fl ds)=4+M (BS ds):=by unfold Eh;rw [B8];rfl
  rw [hl] at q5
  have q5:M (Hg se fl).2=M fl:=q5
  have hv:∀b:aC,M b=M fl->Hh se b=true:=λb e=>by rw [tB e];exact hq.1
  have p1:FC se (Hg se fl).2 (H9 fl+1) (Eh fl ds)=0:=by
   unfold FC
   grind
  have hV:N4 se fl ds=(Hg se fl).1++(Dt se (Hg se fl).2 (H9 fl+1)<|Eh fl ds).drop 1:=by
   unfold N4 spA;rw [hX1,hY,hl,AD p1,ha]
  have hW:rwW se fl ds=0:=by unfold rwW JY;rw [hX1,hY,hl,AD p1];exact q2
  have hlV:BV (N4 se fl ds)=(se,rwP se fl ds):=by
   rw [hV];unfold Dt;exact sD (f:=λk=>(se,Dn (Hg se fl).2 (H9 fl+1) (Eh fl ds) k)) (n:=M<|Eh fl ds) A0 _
  have p2:FC se (rwP se fl ds) (H9 fl) [80]=0:=by
   have:M (rwP se fl ds)=M fl:=by unfold rwP;rw [T3];exact q5
   unfold FC
   grind
  have hAA:rwA se fl ds=GB se fl ds:=by
   unfold rwA spA GB;rw [hX,hlV,AD p2,AD hR,hV,Co]
  have hz:JY (N4 se fl ds) (rwW se fl ds) (rwX se fl ds) [80]=0:=by unfold JY;rw [hX,hlV,AD p2];exact hW
  have hVl:M (N4 se fl ds)<=3100000:=by
   have:=q3.2
   rw [hV,<-ha,B8,FL];unfold Dt;rw [GH,Sj,hBl];omega
  refine ⟨⟨Ac,A0,A0⟩,AI,rfl,A0,AI,⟨hE0,rfl,rfl⟩,⟨an,rfl,rfl⟩,A9,A9,⟨hEb,rfl,rfl⟩,A0,A9,A9,⟨⟨q3.1,by show M (F8<|FQ se fl ds).al<=4000000;omega,by show M (rwY se fl ds)<=5000;rw [hY,hBl];omega⟩,rfl,rfl⟩,A9,A9,⟨⟨?_,by show M (N4 se fl ds)<=4000000;omega,by show 1<=5000;decide⟩,rfl,rfl⟩,λc=>?_,λ_=>⟨A0,?_⟩⟩
  ·show N4 se fl ds≠ []
   intro hn
   have:BV (N4 se fl ds)=BV []:=by rw [hn]
   rw [hlV] at this
   have:=B0 Prod.fst this
   have:se=0:=this
   omega
  ·rw [hz] at c;cases c
  ·rw [CT,Ej,hAA,hR]
   rfl
 ·cases h)
def aUs:aE->T LV
 | [.agg [.v (ah J se),.xl (.int ax) fl],.xl (.int ax) d]=> .req (BN fl/\M d<=70000/\(Bs se fl=0->lkC fl=U)) (.ok<|.AQ [.xl Bn<|Hj se fl d,Eu se fl d])
 |_=> .no
def aQk (se:Y) (fl:aC) (a:Y) (d:aC):[(se,fl)]++(Dt se fl a d).drop 1=Dt se fl a d:=by
 unfold Dt;rw [List.range_succ_eq_map];rfl
def agY {fl:aC}(h:10<=M fl):(Ey fl).2.1<=M fl / 2:=by
 have:=dd fl<|Aw fl
 have:=wK (b:=Bp fl<|Aw fl) (n:=M<|Bp fl<|Aw fl) (f:=5) A0
 unfold Ey;omega
def aot (se:Y) (fl d:aC):Gw:=(⟨AA<|(AA<|(AA<|(Eo se fl)*(AA<|(M fl:Y).tdiv 2))+(HQ se fl))+1,((Bw d).drop (1:Y).toNat).take<|(M (Bw d):Y).toNat-(1:Y).toNat,0,[(se,((([]:aC)++fl).drop 0).take<|0+M fl)]⟩:Gw)
def ap2 (se:Y) (fl d:aC):Gw:=letI a:=(AA<|(AA<|(Eo se fl)*(AA<|(M fl:Y).tdiv 2))+(HQ se fl));letI b:=(((Bw d).drop (1:Y).toNat).take<|(M (Bw d):Y).toNat-(1:Y).toNat);letI c:=(se,((([]:aC)++fl).drop 0).take<|0+M fl);(⟨a,((Bw d).drop (0:Y).toNat).take<|(1:Y).toNat-(0:Y).toNat,JY ([c]) (0:Y) (AA<|a+1) b,spA ([c]) (AA<|a+1) b⟩:Gw)
def axP (se:Y) (fl d:aC):Y:=(AA<|(AA<|(Eo se fl)*(AA<|(M fl:Y).tdiv 2))+(HQ se fl))
def axY (se:Y) (fl d:aC):aC:=(((Bw d).drop (1:Y).toNat).take<|(M (Bw d):Y).toNat-(1:Y).toNat)
def axZ (se:Y) (fl d:aC):aC:=(((Bw d).drop (0:Y).toNat).take<|(1:Y).toNat-(0:Y).toNat)
def axQ (se:Y) (fl d:aC):ba:=([(se,((([]:aC)++fl).drop 0).take<|0+M fl)])
def axV (se:Y) (fl d:aC):ba:=(spA (axQ se fl d) (AA<|(axP se fl d)+1)<|axY se fl d)
def axW (se:Y) (fl d:aC):Y:=(JY (axQ se fl d) (0:Y) (AA<|(axP se fl d)+1)<|axY se fl d)
def axA (se:Y) (fl d:aC):ba:=(spA (axV se fl d) (axP se fl d)<|axZ se fl d)
def iK:aO:=[gr,aVk,zj,jA,fA]
def aSl:Az:=IL iK (la 2 func193 sX<|l0 iK) [⟨189,UJ.m,iB⟩]
def ah2 (se:Y) (fl d:aC):letI a:=(M (Bw d):Y);letI c:=axV se fl d;letI e:=axA se fl d;letI b:=JY c (axW se fl d) (axP se fl d)<|axZ se fl d;jy prog AU (iK) aSl Ap aTR f152 [.agg [se,.xl (.int ax) fl],.xl (.int ax) d]=.req (BN fl) (.br ((Bs se fl) !=0) (.ok<|.AQ [.xl Bn ([]:ba),Bs se fl])<|.req ((2:Y)≠0)<|.br ((aq<|(M d:Y)>65535) ||(aq<|(AA<|7+(M d:Y))>(AA<|(AA<|(M fl:Y).tdiv 2)-(HQ se fl)))) (.ok<|.AQ [.xl Bn ([]:ba),(10:Y)])<|.br (!(L5 se fl)) (.no /-append to xl -/)<|.ra 0 (M ([]:aC)) (0+M fl) 1<|.req (0+(0+M fl)<=M (([]:aC)++fl))<|.rv (.v<|ah J<|Eo se fl)<|.rv (.v<|ah J<|HQ se fl)<|.req (M d<=70000)<|.re 1 (axQ se fl d)<|.req (0<=(1:Y)/\(1:Y)<=a/\a<=a)<|.rl (axQ se fl d)<|.req (im<|aot se fl d)<|.rl c<|.req (0<=(0:Y)/\(0:Y)<=(1:Y)/\(1:Y)<=a)<|.rl c<|.req (im<|ap2 se fl d)<|.br (!(b==(0:Y))) (.ok<|.AQ [.xl Bn ([]:ba),b])<|.rz e<|.ok<|.AQ [.xl Bn<|(e.drop 0).take<|M e,(0:Y)]):=AX
def ajg:VV 152 (uS f152 aUs):=aEV (cs:=aTR) func152 rfl (gk iK) aSl.h (qn AX) (λargs lv h=>by
 unfold aUs at h;split at h
 ·simp only [canL,canX]
  rw [ah2];rename_i se fl d;obtain ⟨⟨hb,hd,hcl⟩,rfl⟩:=h;refine ⟨hb,λc1=>?_,λc1=>?_⟩
  ·have c1:Bs se fl≠0:=AY
   unfold Hj Eu;rw [AD c1,AD c1];rfl
  have hE:Bs se fl=0:=AY
  have hj:FB se fl=true:=by
   cases e:FB se fl
   ·unfold Bs at hE;rw [AD e] at hE;cases hE
   ·rfl
  have hq:=MW.1 hj
  have hh:AA ((M fl:Y).tdiv 2)=((M fl / 2:aD):Y):=by
   exact aNd
  have hA:Eo se fl=Aw fl:=aPA
  have hN:HQ se fl=((Ey fl).2.1:Y):=by unfold HQ;rw [AD hE]
  have hC:L5 se fl=true:=by unfold L5;rw [AD hE];exact hcl hE
  have hl:=agY (fl:=fl) A0
  have hc:=aTO fl
  have hF:((aq<|(M d:Y)>65535) ||(aq<|(AA<|7+(M d:Y))>(AA<|(AA<|(M fl:Y).tdiv 2)-(HQ se fl))))=apF se fl d:=by
   rw [hh,hN,AJ (x:=7+(M d:Y)),AJ (x:=((M fl / 2:aD):Y)-((Ey fl).2.1:Y))];unfold apF;rw [Iw];simp only [Cc,Aa];omega
  have e0:¬Bs se fl≠0:=yz
  refine ⟨Ac,λc2=>?_,λc2=>⟨λc3=>?_,λc3=>?_⟩⟩<;>rw [hF] at c2
  ·unfold Hj Eu
   rw [AE e0,AE e0,AD c2,AD c2];rfl
  ·rw [hC] at c3;cases c3
  have hR:Hj se fl d=Hk se fl d:=by unfold Hj;rw [AE e0,AE VS,AD<|hcl hE]
  have hZ0:Eu se fl d=0:=by unfold Eu;rw [AE e0,AE VS,AD<|hcl hE]
  unfold apF at c2;simp only [HF,DB] at c2
  have hm:Aw fl*((M fl / 2:aD):Y)=0\/Aw fl*((M fl / 2:aD):Y)=((M fl / 2:aD):Y):=aOg
  have hP:axP se fl d=Gb fl:=by
   unfold axP Gb;rw [hh,hA,hN,AJ (x:=Aw fl*((M fl / 2:aD):Y))];exact AJ
  have oP:Gb fl=Aw fl*((M fl / 2:aD):Y)+((Ey fl).2.1:Y):=rfl
  have hP1:AA (axP se fl d+1)=Gb fl+1:=by rw [hP];exact AJ
  have hpl:=MP d
  have hY:axY se fl d=(Bw d).drop 1:=by unfold axY;exact DS yy
  have hZ:axZ se fl d=[80]:=rfl
  have hQ:axQ se fl d=[(se,fl)]:=by unfold axQ;rw [EG,CT,F5,Ej]
  have hYl:M ((Bw d).drop 1)=6+M d:=yy
  have hL0:BV [(se,fl)]=(se,fl):=rfl
  have p1:FC se fl (Gb fl+1) ((Bw d).drop 1)=0:=by
   unfold FC
   grind
  have hV:axV se fl d=Dt se fl (Gb fl+1) ((Bw d).drop 1):=by
   unfold axV spA;rw [hP1,hY,hQ,hL0,AD p1,aQk]
  have hW:axW se fl d=0:=by unfold axW JY;rw [hP1,hY,hQ,hL0,AD p1]
  have hlV:BV (axV se fl d)=(se,apB fl d):=by
   rw [hV,<-aQk];exact sD (f:=λk=>(se,Dn fl (Gb fl+1) ((Bw d).drop 1) k)) (n:=M<|(Bw d).drop 1) A0 _
  have hBl:M (apB fl d)=M fl:=T3 _ _ _ _
  have p2:FC se (apB fl d) (Gb fl) [80]=0:=by
   unfold FC;rw [tB hBl,hq.1,AE (by simp only [Bool.not_true,D5,Aa];omega),AE (by rw [hBl];show ¬Gb fl>(M fl:Y)-((1:aD):Y);omega)]
  have hAA:axA se fl d=Hk se fl d:=by
   unfold axA spA Hk;rw [hP,hZ,hlV,AD p2,hV]
  have hz:JY (axV se fl d) (axW se fl d) (axP se fl d) (axZ se fl d)=0:=by unfold JY;rw [hP,hZ,hlV,AD p2];exact hW
  have hVl:M (axV se fl d)=7+M d:=by rw [hV];unfold Dt;rw [GH,Sj,hYl];omega
  refine ⟨⟨Ac,A0,A0⟩,AI,rfl,rfl,hd,by rw [hQ];exact A9,⟨A0,A0,A0⟩,A9,⟨⟨by show axQ se fl d≠ [];rw [hQ];simp,by show M (axQ se fl d)<=4000000;rw [hQ];show 1<=4000000;decide,by show M (axY se fl d)<=5000;rw [hY,hYl];omega⟩,rfl,rfl⟩,A9,⟨A0,A0,A0⟩,A9,⟨⟨by show axV se fl d≠ [];intro hn;rw [hn] at hVl;simp at hVl;omega,by show M (axV se fl d)<=4000000;omega,by show 1<=5000;decide⟩,rfl,rfl⟩,λc=>?_,λ_=>⟨A0,?_⟩⟩
  ·rw [hz] at c;cases c
  ·rw [CT,Ej,hAA,hR,hZ0]
   rfl
 ·cases h)
def aUW:aE->T LV
 | [.agg [.v (ah J se),.xl (.int ax) fl],.v (.agg ⟨[ah J x1,ah J x2,ah J x3,ah J x4,ah J x5]⟩),.v (ah J t)]=> .req (BN fl/\(Bs se fl=0->lkC fl=U)) (.ok<|.AQ [.xl Bn<|Cq se fl (x1,x2,x3,x4,x5) t,EO se fl (x1,x2,x3,x4,x5) t])
 |_=> .no
def ahM:aO:=[zq,Wn,ajg,aaK,ajy,aVk]
def apM {x:Le}:B1 [x]=DJ x:=by
 unfold B1;rw [Iw,AV,Dq];refine ⟨λh=>?_,λh=>⟨rfl,λk hk=>?_⟩⟩
 ·have:=h.2 0 AI
  unfold H5 at this;rw [AV] at this;exact this.1
 ·have:k=0:=A8
  subst this;unfold H5;rw [AV];exact ⟨h,rfl⟩
def abP {l:aM}{x:Le}{t:Y}(h:DO l t=0):M (Im l x t)<=5000/\ID (Im l x t):=by
 have hk:=aK8 h
 unfold Im;rw [AD h];unfold IK;refine ⟨?_,λd hd=>?_⟩
 ·simp only [B8,GH,BY,Bh]
  grind
 ·rcases BZ.1 hd with hd|hd
  ·obtain ⟨y,_,rfl⟩:=F4.1 hd;rw [KZ];omega
  ·rcases BZ.1 hd with hd|hd
   ·split at hd
    ·rw [HJ.1 hd,KZ];omega
    ·cases hd
   ·rw [HJ.1 hd,KZ];omega
def aa9:=vo (S:=aUW) func106 ahM kN (λargs lv h=>by
 unfold aUW at h;split at h
 ·rename_i se fl x1 x2 x3 x4 x5 t
  refine Au (letI d:=(B2 (x1,x2,x3,x4,x5));letI g:=Aj se fl;letI i:=BN fl/\M d<=70000/\(Bs se fl=0->lkC fl=U);letI k:=Eu se fl d;letI b:=(Im g (x1,x2,x3,x4,x5) t);letI f:=(AA<|(M g:Y)-1);letI j:=BN fl/\M b<=5000/\ID b;.req (BN fl)<|.br ((CZ se fl) !=0) (.ok<|.AQ [.xl Bn ([]:ba),(CZ se fl)])<|.br (!(B1<|[(x1,(x2,(x3,(x4,x5))))])) (.ok<|.AQ [.xl Bn ([]:ba),(1:Y)])<|.br (aq<|t<0) (.ok<|.AQ [.xl Bn ([]:ba),(1:Y)])<|.br (aq<|t>1100000) (.ok<|.AQ [.xl Bn ([]:ba),(1:Y)])<|.br (aq<|(M g:Y)>0) (.ix f (M g)<|.br (aq<|x1<=(An g f).1) (.ok<|.AQ [.xl Bn ([]:ba),(12:Y)])<|.ix f (M g)<|.br (aq<|x4<(An g f).2.2.2.1) (.ok<|.AQ [.xl Bn ([]:ba),(12:Y)])<|.req i<|.br (k !=10) (.ok<|.AQ [.xl Bn<|Hj se fl d,k])<|.br ((DO g t) !=0) (.ok<|.AQ [.xl Bn ([]:ba),(DO g t)])<|.req j<|.ok<|.AQ [.xl Bn<|GB se fl b,(GC se fl b)])<|.req i<|.br (k !=10) (.ok<|.AQ [.xl Bn<|Hj se fl d,k])<|.br ((DO g t) !=0) (.ok<|.AQ [.xl Bn ([]:ba),(DO g t)])<|.req j<|.ok<|.AQ [.xl Bn<|GB se fl b,(GC se fl b)]) ?_;obtain ⟨⟨hb,hcl⟩,rfl⟩:=h
  have fin:∀ {a:ba} {e:Y},Cq se fl (x1,x2,x3,x4,x5) t=a/\EO se fl (x1,x2,x3,x4,x5) t=e->LV.AQ [.xl Bn a,.v<|ah J e]=LV.AQ [.xl Bn<|Cq se fl (x1,x2,x3,x4,x5) t,.v<|ah J<|EO se fl (x1,x2,x3,x4,x5) t]:=λh=>by rw [h.1,h.2]
  refine ⟨hb,λc1=>fin ?_,λc1=>?_⟩
  ·have c1:CZ se fl≠0:=AY
   unfold Cq EO;rw [AD c1,AD c1];exact ⟨rfl,rfl⟩
  have c1:¬CZ se fl≠0:=AY
  rw [apM]
  have bad:(!DJ (x1,x2,x3,x4,x5) || !inB t 0 1100000)=U->Cq se fl (x1,x2,x3,x4,x5) t=[]/\EO se fl (x1,x2,x3,x4,x5) t=1:=λh=>by
   unfold Cq EO;rw [AE c1,AE c1,AD h,AD h];exact ⟨rfl,rfl⟩
  refine ⟨λc2=>fin<|bad (by rw [c2];rfl),λc2=>⟨λc3=>fin<|bad ?_,λc3=>⟨λc4=>fin<|bad ?_,λc4=>?_⟩⟩⟩
  iterate 2
   ·rw [Cc]
    refine .inr ?_
    have e:inB t 0 1100000=false:=by
     cases e:inB t 0 1100000
     ·rfl
     ·have:=BO.1 e
      simp only [Aa,DB] at c3
      try simp only [Aa] at c4
      omega
    rw [e];rfl
  have ht:inB t 0 1100000=true:=BO.2 (by simp only [DB] at c3 c4;omega)
  have hx:DJ (x1,x2,x3,x4,x5)=true:=ET
  have hv:=aBL<|V7.1 c1
  have hE:DO (Aj se fl) t=0:=by unfold DO L1;rw [hv,ht];rfl
  have hb':¬((!DJ (x1,x2,x3,x4,x5) || !inB t 0 1100000)=U):=by rw [hx,ht];decide
  have hl:=(GK hv).1
  have w:=λc5:0<M (Aj se fl)=>AJ (x:=(M (Aj se fl):Y)-1)
  have hO:0<M (Aj se fl)->HW (Aj se fl) (x1,x2,x3,x4,x5)=(aq (x1<=(An (Aj se fl)<|(M (Aj se fl):Y)-1).1) ||aq (x4<(An (Aj se fl)<|(M (Aj se fl):Y)-1).2.2.2.1)):=λc5=>by
   unfold HW;rw [show aq (M (Aj se fl)>0)=U from Cb c5];rfl
  have old:HW (Aj se fl) (x1,x2,x3,x4,x5)=U->Cq se fl (x1,x2,x3,x4,x5) t=[]/\EO se fl (x1,x2,x3,x4,x5) t=12:=λh=>by
   unfold Cq EO;rw [AE c1,AE c1,AE hb',AE hb',AD h,AD h];exact ⟨rfl,rfl⟩
  refine ⟨λc5=>?_,λc5=>?_⟩
  ·have c5:0<M (Aj se fl):=by simpa using c5
   have hO:=hO c5
   rw [w c5];refine ⟨A0,λc6=>fin<|old (by rw [hO,c6];rfl),λc6=>⟨A0,λc7=>fin<|old<|by rw [hO,c7,OY],λc7=>?_⟩⟩
   have hO:HW (Aj se fl) (x1,x2,x3,x4,x5)=false:=by rw [hO,c6,c7];rfl
   have hk:Im (Aj se fl) (x1,x2,x3,x4,x5) t=IK (Aj se fl) (x1,x2,x3,x4,x5) t:=AD hE
   have hk':=hk▸abP (x:=(x1,x2,x3,x4,x5)) hE
   rw [hk,hE]
   have hO:¬(HW (Aj se fl) (x1,x2,x3,x4,x5)=U):=by rw [hO];decide
   refine ⟨⟨hb,by rw [KZ];decide,hcl⟩,λc=>fin ?_,λc=>⟨λc'=>(by cases c'),λ_=>⟨⟨hb,hk'⟩,fin ?_⟩⟩⟩<;>unfold Cq EO<;>rw [AE c1,AE c1,AE hb',AE hb',AE hO,AE hO]
   ·have c:Eu se fl (B2 (x1,x2,x3,x4,x5))≠10:=Ix
    rw [AD c,AD c];exact ⟨rfl,rfl⟩
   ·have c:¬Eu se fl (B2 (x1,x2,x3,x4,x5))≠10:=Ix
    rw [AE c,AE c];exact ⟨rfl,rfl⟩
  ·have hO:HW (Aj se fl) (x1,x2,x3,x4,x5)=false:=by unfold HW;rw [show aq (M (Aj se fl)>0)=X by simpa using c5];rfl
   have hk:Im (Aj se fl) (x1,x2,x3,x4,x5) t=IK (Aj se fl) (x1,x2,x3,x4,x5) t:=AD hE
   have hk':=hk▸abP (x:=(x1,x2,x3,x4,x5)) hE
   rw [hk,hE]
   have hO:¬(HW (Aj se fl) (x1,x2,x3,x4,x5)=U):=by rw [hO];decide
   refine ⟨⟨hb,by rw [KZ];decide,hcl⟩,λc=>fin ?_,λc=>⟨λc'=>(by cases c'),λ_=>⟨⟨hb,hk'⟩,fin ?_⟩⟩⟩<;>unfold Cq EO<;>rw [AE c1,AE c1,AE hb',AE hb',AE hO,AE hO]
   ·have c:Eu se fl (B2 (x1,x2,x3,x4,x5))≠10:=Ix
    rw [AD c,AD c];exact ⟨rfl,rfl⟩
   ·have c:¬Eu se fl (B2 (x1,x2,x3,x4,x5))≠10:=Ix
    rw [AE c,AE c];exact ⟨rfl,rfl⟩
 ·cases h)
def aTh {pre mid post:aC}:∀k,k<=M mid->Ew (pre++(mid++post)) (M pre:Y) k=pre++(au k 255++(mid.drop k++post))
 |0,_=>by simp [Ew]
 |k+1,hk=>by
  simp only [Ew];rw [aTh k A0]
  have e1:(M pre:Y)+(k:Y)=((M pre+k:aD):Y):=A0
  have hd:mid.drop k=mid[k]::mid.drop (k+1):=SY A0
  rw [e1,C0,mP _ _ A0,xt,mP _ _ AI,Cf,mh,hd];rw [mQ,Co];rfl
def auC {pre mid post:aC}{n:aD}(h:M mid=n):Ew (pre++(mid++post)) (M pre:Y) n=pre++(au n 255++post):=by
 rw [aTh n A0,List.drop_of_length_le A0];rfl
def ajf {l:aC}{n:aD}(hl:M l=n) (h:l.all (λb=>b==255)=U):l=au n 255:=by
 rw [List.eq_replicate_iff]
 grind
def aTf {pre mid post f0:aC}{s:Y}{a:ba}{n:aD}(hm:M mid=512) (hs:s*512=(M pre:Y)) (hf:(f0.drop<|M pre).take 512=mid):
  ∃a',G0 512 f0 s (n+1) (a,pre++(mid++post))=G0 512 f0 (s+1) n (a',pre++(au 512 255++post)):=by
 have hw:isW 512 f0 s=!mid.all (λb=>b==255):=by
  unfold isW;rw [hs,C0]
  show (!((f0.drop<|M pre).take 512).all _)=_
  rw [hf]
 have e:G0 512 f0 s (n+1) (a,pre++(mid++post))=G0 512 f0 (s+1) n (if isW 512 f0 s=U then (a++(erL 512 (pre++(mid++post)) s).drop 1,Ew (pre++(mid++post)) (s*512) 512) else (a,pre++(mid++post))):=rfl
 rw [e];split
 ·rw [hs,auC hm]
  grind
 ·rename_i hn
  have:mid.all (λb=>b==255)=true:=A8
  have h2:=ajf hm this
  grind
def aqo {O:aC}(h:M O=1024):∃M1 M2,O=M1++M2/\M M1=512/\M M2=512:=⟨O.take 512,O.drop 512,(List.take_append_drop _ _).symm,A8,A8⟩
def aJl {pre post M1 M2 f0:aC}{s:Y}{a:ba}(h1:M M1=512) (h2:M M2=512) (hs:s*512=(M pre:Y)) (hf:f0=pre++(M1++(M2++post))):
  (G0 512 f0 s 2 (a,f0)).2=pre++(au 1024 255++post):=by
 have f1:(f0.drop<|M pre).take 512=M1:=A8
 have f2:(f0.drop<|M<|pre++au 512 255).take 512=M2:=by
  rw [hf,B8,Cf,<-Co,List.drop_left' A8,List.take_left' h2]
 have e0:G0 512 f0 s 2 (a,f0)=G0 512 f0 s 2 (a,pre++(M1++(M2++post))):=A8
 rw [e0];obtain ⟨a1,e1⟩:=aTf (a:=a) (n:=1) (post:=M2++post) h1 hs f1;rw [e1]
 have e2:pre++(au 512 255++(M2++post))=(pre++au 512 255)++(M2++post):=(Co _ _ _).symm
 rw [e2];obtain ⟨a2,e3⟩:=aTf (a:=a1) (n:=0) (s:=s+1) (post:=post) h2 A8 f2;rw [e3]
 show (pre++au 512 255)++(au 512 255++post)=_
 rw [Co,<-Co<|au 512 255,xb]
def aDB (A O:aC):JO 0 A O=A++O:=AD rfl
def aD7 (A O:aC):JO 1 A O=O++A:=AE Ac
def ajo (A O:aC):JO (1-0) A O=O++A:=AE Ac
def ajn (A O:aC):JO (1-1) A O=A++O:=AD rfl
namespace JI
variable {fl : List Int} {w g : Int} {ds : List (List Int)} {k : Nat} {O : List Int}
def ers (h:JI fl w g ds k O):(Hg 512 fl).2=JO w (De g ds k) (au 1024 255):=by
 obtain ⟨M1,M2,e,h1,h2⟩:=aqo h.lo;unfold Hg;rw [h.half,h.cur.1]
 have e2:((((1024:aD):Y).tdiv 512).toNat)=2:=Ac
 have e3:(((1024:aD):Y).tdiv 512)=2:=Ac
 rw [e2,e3]
 have he:=h.eq
 rcases h.hw with rfl|rfl
 ·have:=aJl (pre:=De g ds k) (post:=[]) (M1:=M1) (M2:=M2) (f0:=fl) (s:=(1-0)*2) (a:=[(512,fl)]) h1 h2 (by rw [h.la];rfl) (by rw [he,e,aDB];simp only [Co,EG,Ge,KJ])
  rw [this,aDB]
  grind
 ·have:=aJl (pre:=[]) (post:=De g ds k) (M1:=M1) (M2:=M2) (f0:=fl) (s:=(1-1)*2) (a:=[(512,fl)]) h1 h2 Ac (by rw [he,e,aD7];simp only [Co,EG,Ge,KJ])
  rw [this,aD7]
  grind
def rew (h:JI fl w g ds k O) {ds':aJ}(hg:g+1<4294967296) (hd:∀d∈ds',BN d/\M d<=65535) (hf:5+M (BS ds')<=1024):
  JI (Dn (rwP 512 fl ds') (H9 fl) [80] 1) (1-w) (g+1) ds' (1024-(5+M (BS ds'))) (De g ds k):=by
 have hO:H9 fl=(1-w)*1024:=by unfold H9;rw [h.half,h.cur.1];rfl
 have hB:Eh fl ds'=D2 (g+1)++BS ds':=by unfold Eh;rw [h.cur.1,h.gen]
 have hBl:M (Eh fl ds')=4+M (BS ds'):=by rw [hB,B8];rfl
 have hBb:BN (Eh fl ds'):=by rw [hB,Ke];exact ⟨WG _,sI λd hd'=>(hd d hd').1⟩
 have hj:De (g+1) ds' (1024-(5+M (BS ds')))=80::(Eh fl ds'++au (1024-(5+M (BS ds'))) 255):=by rw [hB];unfold De;simp
 have h255:au 1024 (255:Y)=255::(au (M<|Eh fl ds') 255++au (1024-(5+M (BS ds'))) 255):=by
  rw [xb,<-Zi,hBl]
  congr 1
  omega
 have key:∀pre post:aC,(M pre:Y)=(1-w)*1024->(Hg 512 fl).2=pre++(au 1024 255++post)->Dn (rwP 512 fl ds') (H9 fl) [80] 1=pre++(De (g+1) ds' (1024-(5+M (BS ds')))++post):=by
  intro pre post hp he
  have e1:rwP 512 fl ds'=pre++(255::(Eh fl ds'++(au (1024-(5+M (BS ds'))) 255++post))):=by
   unfold rwP;rw [he,hO,<-hp,h255]
   have:=fW (pre:=pre++[255]) (post:=au (1024-(5+M (BS ds'))) 255++post) (d:=Eh fl ds') hBb
   have e9:(M ((pre++[255]:aC)):Y)=(M pre:Y)+1:=AI
   rw [e9] at this
   have e0:pre++(255::(au (M<|Eh fl ds') 255++au (1024-(5+M (BS ds'))) 255)++post)=pre++[255]++(au (M<|Eh fl ds') 255++(au (1024-(5+M (BS ds'))) 255++post)):=by simp only [Co,EG,Ge,KJ]
   rw [e0,this];simp only [Co,EG,Ge,KJ]
  rw [e1,hO,<-hp]
  have:=fW (pre:=pre) (post:=Eh fl ds'++(au (1024-(5+M (BS ds'))) 255++post)) (d:=[80]) aOd
  refine Eq.trans this ?_;rw [hj];simp only [Co,EG,Ge,KJ]
 refine ⟨?_,by rw [Ox];omega,h.la,h.bja,by rcases h.hw with rfl|rfl<;>decide,by have:=h.hg;omega,λ_=>?_,hd⟩
 ·rcases h.hw with rfl|rfl
  ·refine (key (De g ds k) [] (by rw [h.la];rfl) (by rw [h.ers,aDB];simp only [Co,EG,Ge,KJ])).trans ?_
   rw [ajo]
   grind
  ·refine (key [] (De g ds k) Ac (by rw [h.ers,aD7];simp only [Co,EG,Ge,KJ])).trans ?_
   rw [ajn]
   grind
 ·rw [aIs h.hg];omega
def aoJ (h:JI fl w g ds k O) {ds':aJ}(hg:g+1<4294967296):GC 512 fl ds'=if rwF fl ds'=U then 0 else 10:=by
 unfold GC;rw [h.Ut,AE Ac,h.cur.1,h.gen]
 grind
end JI
def ap0 {se:Y}{fl:aC}{ds:aJ}(h:GC se fl ds=0) (y:Fl):(GB se fl ds).getLastD y=(se,Dn (rwP se fl ds) (H9 fl) [80] 1):=by
 unfold GB;rw [AD h]
 have e:(Dt se (rwP se fl ds) (H9 fl) [80]).drop 1=[(se,Dn (rwP se fl ds) (H9 fl) [80] 1)]:=by
  rfl
 rw [e,mL]
 simp
def axJ {se:Y}{fl:aC}{ds:aJ}(h:GC se fl ds=0):GB se fl ds≠ []:=by
 unfold GB;rw [AD h];intro hh
 have:=B0 M hh
 simp [Dt] at this
def aHC {l:ba}{y:Fl}(h:l≠ []):GV l ((M l:Y)-1)=l.getLastD y:=by
 have hp:=OW.2 h
 unfold GV;rw [mL,List.getLast?_eq_getElem?,DK,show ((M l:Y)-1).toNat=M l-1 by omega,Dg A0]
 rfl
structure VI (se:Y) (fl:aC) (vl:aM) (g:Y):Prop where
 se:se=512
 lv:B1 vl=U
 ji:∃w k O,JI fl w g (vl.map B2) k O
 g:g<=(vl.map (·.1)).getLastD 0
def VI.ld {se:Y}{fl:aC}{vl:aM}{g:Y}(h:VI se fl vl g):CZ se fl=0/\Aj se fl=vl:=by
 obtain ⟨w,k,O,hj⟩:=h.ji
 have:=acA hj h.lv
 rwa [h.se]
def apQ {l:aM}(h:M l>0):(l.map (·.1)).getLastD 0=(An l<|(M l:Y)-1).1:=by
 have e:((M l:Y)-1).toNat=M l-1:=A0
 unfold An;rw [mL,List.getLast?_map,List.getLast?_eq_getElem?,DK,e,Dg A0];rfl
def kpV (l:aM) (x:Le) (t:Y):aM:=BW l t++((if M l>0/\(M (BW l t)=0\/(An (BW l t)<|(M (BW l t):Y)-1).1≠(An l<|(M l:Y)-1).1) then [An l<|(M l:Y)-1] else [])++[x])
def aSz {l:aM}{x:Le}{t:Y}:IK l x t=(kpV l x t).map B2:=by
 unfold IK kpV
 grind
def awv {l:aM}{x:Le}(h:HW l x=X) (hv:B1 l=U):letI a:=(An l<|(M l:Y)-1);M l>0->a.1<x.1/\a.2.2.2.1<=x.2.2.2.1:=by
 unfold HW at h
 simp at h
 omega
def aDv {l:aM}(h:M l>0):l=l.dropLast++[An l<|(M l:Y)-1]:=by
 have hne:=OW.1 h
 have:An l ((M l:Y)-1)=l.getLast hne:=by
  rw [Md A0,List.getLast_eq_getElem]
  congr 1
  omega
 rw [this];exact (List.dropLast_concat_getLast hne).symm
def apm (m:aM) (z:Le):An (m++[z]) ((M (m++[z]):Y)-1)=z:=by
 unfold An
 simp
def aw0 {se:Y}{fl d:aC}:Hk se fl d≠ []:=by
 unfold Hk Dt
 simp
def aFv {l:aM}{x:Le}{t:Y}:(kpV l x t).Sublist (l++[x]):=by
 unfold kpV;rw [<-Co];refine List.Sublist.append ?_<|List.Sublist.refl _
 have hs:(BW l t).Sublist l:=by
  unfold BW;split
  ·simp_all
  ·grind
 split
 ·rename_i hc
  obtain ⟨h1,h2⟩:=hc
  have hl:=aDv h1
  generalize hz:An l ((M l:Y)-1)=z at*
  have he:(BW l t).Sublist l.dropLast:=by
   unfold BW at h2|-;split
   ·rename_i ho
    rw [AD ho] at h2;rw [hl,Zk] at h2
    have hf:l.filter (LD t)=l.dropLast.filter (LD t)++[z].filter (LD t):=by
     grind
    rw [hf];cases hb:LD t z
    ·simp only [LP,hb,List.filter_nil]
     simp
    ·exfalso
     have e1:[z].filter (LD t)=[z]:=A8
     rw [e1] at h2;rcases h2 with h2|h2
     ·simp at h2
     ·apply h2
      rw [apm]
   ·grind
  conv=>rhs;rw [hl]
  grind
 ·grind
def sH {vl:aM}:M (BS<|vl.map B2)=19*M vl:=by
 induction vl with
 |nil=>rfl
 |cons x vl ih=>
  have e:BS ((x::vl).map B2)=Bw (B2 x)++BS (vl.map B2):=rfl
  rw [e,B8,MP,KZ,ih,BY];omega
def aqW (ds:aJ):(ds.map λd=>7+M d).sum=M (BS ds):=(rC ds).symm
def VI.len {se:Y}{fl:aC}{vl:aM}{g:Y}(h:VI se fl vl g):M vl<=53:=by
 obtain ⟨w,k,O,hj⟩:=h.ji
 have:=hj.la
 rw [Ox,sH] at this;omega
def zp {se:Y}{fl:aC}{vl:aM}{g:Y}{x:Le}{t:Y}(h:VI se fl vl g) (hE:EO se fl x t=0):
  ∃vl' g',VI (GV (Cq se fl x t)<|(M (Cq se fl x t):Y)-1).1 (GV (Cq se fl x t)<|(M (Cq se fl x t):Y)-1).2 vl' g'/\(vl'=vl++[x]\/vl'=kpV vl x t)/\B1 (vl++[x])=U/\(M vl>0->(An vl<|(M vl:Y)-1).1<x.1):=by
 obtain ⟨h1,h2⟩:=h.ld
 have hlen:=h.len
 obtain ⟨w,k,O,hj⟩:=h.ji
 have hse:=h.se
 subst hse
 have hla:=hj.la
 rw [Ox,sH] at hla;unfold EO at hE
 have hL:Cq 512 fl x t=if CZ 512 fl≠0 then [] else if (!DJ x || !inB t 0 1100000)=U then [] else if HW (Aj 512 fl) x=U then [] else
  if Eu 512 fl (B2 x)≠10 then Hj 512 fl (B2 x) else GB 512 fl (IK (Aj 512 fl) x t):=rfl
 rw [AE A0] at hE hL
 by_cases c1:(!DJ x || !inB t 0 1100000)=U
 ·rw [AD c1] at hE;cases hE
 rw [AE c1] at hE hL
 have hx:DJ x=true:=by
  simp only [Cc,D6,not_or,Sd] at c1;exact c1.1
 by_cases c2:HW (Aj 512 fl) x=U
 ·rw [AD c2] at hE;cases hE
 rw [AE c2] at hE hL;rw [h2] at c2 hE hL
 have ho:=awv ET h.lv
 have hsn:B1 (vl++[x])=true:=aFR h.lv hx A0 (by
  by_cases hz:M vl=0
  ·exact .inl hz
  ·right
   obtain ⟨o1,o2⟩:=ho A0;unfold K4;rw [Cb (p:=x.1>_) o1,Cb (p:=x.2.2.2.1>=_) o2];rfl)
 have hg:g<x.1:=by
  by_cases hz:M vl>0
  ·have:=h.g
   rw [apQ hz] at this
   have:=(ho hz).1
   omega
  ·have e:vl=[]:=MH.1 A0
   have:=h.g
   rw [e] at this
   have h0:g<=0:=this
   have:=(Kc.1 hx).1.1
   omega
 have hlx:=(Kc.1 hx).1.2
 by_cases c3:apF 512 fl (B2 x)=U
 ·have hap:Eu 512 fl (B2 x)=10:=by
   unfold Eu;rw [hj.Ut,c3];rfl
  rw [hap,AE Ac] at hE hL
  have hr:GC 512 fl (IK vl x t)=0:=hE
  rw [hL]
  have hf:rwF fl (IK vl x t)=true:=by
   have:=hj.aoJ (ds':=IK vl x t) A0
   rw [hr] at this
   by_cases hq:rwF fl (IK vl x t)=U
   ·exact hq
   ·rw [AE hq] at this;cases this
  rw [aHC (y:=(0,[]))<|axJ hr,ap0 hr];unfold rwF at hf;rw [AV,hj.half,aqW] at hf
  have hfit:=Ct hf.1
  refine ⟨kpV vl x t,g+1,⟨rfl,qL hsn aFv,⟨1-w,1024-(5+M (BS<|IK vl x t)),De g (vl.map B2) k,?_⟩,?_⟩,.inr rfl,hsn,λhz=>(ho hz).1⟩
  ·rw [<-aSz]
   exact hj.rew A0 (λd hd=>by rw [aSz] at hd;obtain ⟨y,_,rfl⟩:=F4.1 hd;exact ⟨uY y,by rw [KZ];omega⟩) hfit
  ·have:((kpV vl x t).map (·.1)).getLastD 0=x.1:=by
    unfold kpV
    simp
   rw [this];omega
 ·have hap:Eu 512 fl (B2 x)=0:=by
   unfold Eu;exact aNl
  have har:Hj 512 fl (B2 x)=Hk 512 fl (B2 x):=by
   unfold Hj;exact aNl
  rw [hap,AD Ac,har] at hL;rw [hL,aHC (y:=(0,[])) aw0,aHt]
  have hk:19<=k:=by
   unfold apF at c3;rw [hj.half,hj.lk,KZ,sH] at c3
   simp at c3
   omega
  refine ⟨vl++[x],g,⟨rfl,hsn,⟨w,k-(7+M (B2 x)),O,?_⟩,?_⟩,.inl rfl,hsn,λhz=>(ho hz).1⟩
  ·have:=hj.app (uY x) (by rw [KZ];omega) (by rw [KZ];exact hk)
   rw [KK,ER,LR];simp only;exact this
  ·rw [KK,mL]
   simp
   omega
def FK (se:Y) (n:aD) (y:Fl):Prop:=y.1=se/\M y.2=n/\BN y.2
def gj {se:Y}{fl:aC}{a:Y}{d:aC}{n:aD}(h:FK se n (se,fl)):∀y∈Dt se fl a d,FK se n y:=by
 intro y hy;obtain ⟨k,_,rfl⟩:=F4.1 hy;exact ⟨rfl,(T3 _ _ _ _).trans h.2.1,uX h.2.2 _ _ _⟩
def aii {se:Y}{fl:aC}{s:Y}{n:aD}(h:FK se n (se,fl)):∀y∈erL se fl s,FK se n y:=by
 intro y hy;obtain ⟨k,_,rfl⟩:=F4.1 hy;exact ⟨rfl,(du _ _ _).trans h.2.1,aTg h.2.2 _ _⟩
def ss {se:Y}{f0:aC}{n:aD}:∀(m:aD) (s:Y) (a:List Fl×List Int),(∀y∈a.1,FK se n y)->FK se n (se,a.2)->(∀y∈(G0 se f0 s m a).1,FK se n y)/\FK se n (se,(G0 se f0 s m a).2)
 |0,_,_,h1,h2=>⟨h1,h2⟩
 | m+1,s,a,h1,h2=>by
  unfold G0;split
  ·refine ss m (s+1) _ (λy hy=>?_) ⟨rfl,(du _ _ _).trans h2.2.1,aTg h2.2.2 _ _⟩
   rcases BZ.1 hy with hy|hy
   ·grind
   ·exact aii h2 y<|QN hy
  ·exact ss m (s+1) a h1 h2
def ajZ {se:Y}{fl d:aC}{n:aD}(h:FK se n (se,fl)):∀y∈Hk se fl d,FK se n y:=by
 intro y hy;rcases BZ.1 hy with hy|hy
 ·exact gj h y hy
 ·exact gj ⟨rfl,(T3 _ _ _ _).trans h.2.1,uX h.2.2 _ _ _⟩ y<|QN hy
def aQD {se:Y}{fl:aC}{ds:aJ}{n:aD}(h:FK se n (se,fl)):∀y∈GB se fl ds,FK se n y:=by
 intro y hy;unfold GB at hy;split at hy
 ·obtain ⟨k1,k2⟩:=ss (se:=se) (f0:=fl) (n:=n) (((M fl / 2:aD):Y).tdiv se).toNat ((1-Aw fl)*((M fl / 2:aD):Y).tdiv se) ([(se,fl)],fl) (λy hy=>A8) h
  rcases BZ.1 hy with hy|hy
  ·exact k1 y hy
  ·rcases BZ.1 hy with hy|hy
   ·exact gj k2 y<|QN hy
   ·exact gj ⟨rfl,(T3 _ _ _ _).trans k2.2.1,uX k2.2.2 _ _ _⟩ y<|QN hy
 ·cases hy
def tH {se:Y}{f0:aC}:∀(m:aD) (s:Y) (a:List Fl×List Int),a.1≠ []->(G0 se f0 s m a).1≠ []
 |0,_,_,h=>h
 |m+1,s,a,h=>by
  unfold G0;split
  ·exact tH m _ _ o9
  ·exact tH m _ _ h
def aQC {se:Y}{fl:aC}{ds:aJ}(h:GC se fl ds=0):GB se fl ds≠ []:=by
 unfold GB;rw [AD h]
 have:=tH (se:=se) (f0:=fl) (((M fl / 2:aD):Y).tdiv se).toNat ((1-Aw fl)*((M fl / 2:aD):Y).tdiv se) ([(se,fl)],fl) AI
 intro hh;rw [List.append_eq_nil_iff] at hh;exact this hh.1
def ajY {se:Y}{fl d:aC}:Hk se fl d≠ []:=by
 unfold Hk Dt
 simp
def aa7 {se:Y}{fl:aC}{x:Le}{t:Y}{n:aD}(h:FK se n (se,fl)):(∀y∈Cq se fl x t,FK se n y)/\(EO se fl x t=0->Cq se fl x t≠ []):=by
 have ha:(∀y∈Hj se fl (B2 x),FK se n y)/\(Eu se fl (B2 x)=0->Hj se fl (B2 x)≠ []):=by
  unfold Hj Eu
  by_cases h1:Bs se fl≠0
  ·grind
  ·rw [AE h1,AE h1]
   by_cases h2:apF se fl (B2 x)=U
   ·grind
   ·rw [AE h2,AE h2]
    by_cases h3:lkC fl=U
    ·rw [AD h3,AD h3];exact ⟨ajZ h,λ_=>ajY⟩
    ·rw [AE h3,AE h3];exact ⟨aQD h,aQC⟩
 unfold Cq EO
 by_cases h1:CZ se fl≠0
 ·grind
 ·rw [AE h1,AE h1]
  split
  ·grind
  ·split
   ·grind
   ·split
    ·exact ha
    ·exact ⟨aQD h,aQC⟩
structure SnI (s:SN) (n:aD):Prop where
 fl:FK 512 2048 (s.se,s.fl)
 ls:M s.ls<=64
 lk:M s.lk<=n
def apt {l:aM}{x:Le}(h:FX l x=0):M (GO l x)<=64:=by
 unfold GO;rw [AD h];unfold FX at h;split at h
 ·rename_i hv
  rw [AV] at hv
  have:=(GK hv.1).1
  split at h
  ·cases h
  ·split at h
   ·cases h
   ·simp;omega
 ·cases h
def axg {t:Y}{s:SN}{x:Le}{n:aD}(h:SnI s n):SnI (F9 t s x) (n+1):=by
 unfold F9;split
 ·rename_i hc
  have hs:FK s.se 2048 (s.se,s.fl):=⟨rfl,h.fl.2.1,h.fl.2.2⟩
  obtain ⟨k1,k2⟩:=aa7 (x:=x) (t:=t) hs
  have hne:=OW.2<|k2 hc.2
  have hm:GV (Cq s.se s.fl x t) ((M (Cq s.se s.fl x t):Y)-1)∈Cq s.se s.fl x t:=by
   unfold GV;rw [K3 A0]
   grind
  obtain ⟨m1,m2,m3⟩:=k1 _ hm;exact ⟨⟨m1.trans h.fl.1,m2,m3⟩,apt hc.1,by have:=h.lk;simp;omega⟩
 ·exact ⟨h.fl,h.ls,by have:=h.lk;omega⟩
def aQ2 {t:Y}{xs:aM}{s:SN}{n:aD}(h:SnI s n):∀k,SnI (EL t xs s k) (n+k)
 |0=>h
 |k+1=>axg<|aQ2 h k
structure RQ (p:PK):Prop where
 fl:FK 512 2048 (p.se,p.fl)
 ls:M p.ls<=64
 lk:(M p.lk:Y)<=16*p.tk+5000
 ra:M p.ra<=16
 dm:∀x∈p.dm,HE x=U
 mi:∀m∈p.mi,M m.1<=21
def aHH {l:aM}{t:Y}:M (BW l t)<=M l:=by
 unfold BW;split
 ·grind
 ·simp
def auh {l:aM}{t:Y}:M (Dv l t)<=M l:=by
 unfold Dv;split
 ·exact aHH
 ·omega
def wb {p:PK}:M p.dL<=M p.gs:=by
 unfold PK.dL deL;split
 ·exact aDx
 ·simp
def aiK {p:PK}:M p.dR<=M p.gs:=by
 unfold PK.dR deR;split
 ·exact mY gF
 ·simp
def aTM {p:PK}(h:RQ p) (hg:M p.gs<=16):FK 512 2048 (p.AK.se,p.AK.fl)/\M p.AK.ls<=64/\(M p.AK.lk:Y)<=16*p.tk+5016/\M p.AK.ra<=16:=by
 have hl:=h.lk
 have he:M (Dv p.ls p.tk)<=64:=Hq auh h.ls
 unfold PK.AK;split
 ·exact ⟨h.fl,h.ls,A0,h.ra⟩
 ·split
  ·exact ⟨h.fl,he,A8,h.ra⟩
  ·have hs:SnI p.GA (M p.lk):=⟨h.fl,he,Ar _⟩
   have h1:=aQ2 (t:=p.tk) (xs:=p.dL) hs<|M p.dL
   have hd:=wb (p:=p)
   exact ⟨h1.fl,h1.ls,by have:=h1.lk;show (M (EL p.tk p.dL p.GA<|M p.dL).lk:Y)<=_;omega,Hq aiK hg⟩
def mem_set {α:Type}{l:List α}{i:aD}{x y:α}(h:y∈l.set i x):y∈l\/y=x:=OX h
def avm (c:Ca) (m:Mi) (p al:Y):M (Jl c m p al).1<=21\/M m.1>21:=by
 unfold Jl;split
 ·rename_i hB
  refine .inl ?_;simp only [dwP,FL,B8,BY,Bh];omega
 ·grind
def aTi {gs:aG}{ca:aVx}{s:DW}(h:∀m∈s.mi,M m.1<=21):∀k,∀m∈(DR gs ca s k).mi,M m.1<=21
 |0=>h
 | k + 1=>by
  have ih:=aTi (gs:=gs) (ca:=ca) h k
  unfold DR Fe;split
  ·exact ih
  ·split
   ·intro m hm
    rcases mem_set hm with hm|rfl
    ·grind
    ·rcases avm (Be ca k) (CE (DR gs ca s k).mi k) (AG gs k).2.2.1 (Bj (AG gs k)<|BL (DR gs ca s k).st k) with e|e
     ·exact e
     ·exfalso
      have:M (CE (DR gs ca s k).mi k).1<=21:=by
       unfold CE;rw [DK];cases hx:(DR gs ca s k).mi[(k:Y).toNat]? with
       |none=>simp
       |some y=>exact ih y<|OV hx
      omega
   ·exact ih
def ata {se:Y}{fl:aC}:M (Aj se fl)<=64:=by
 unfold Aj;split
 ·rename_i h
  unfold CZ at h;split at h
  ·cases h
  ·split at h
   ·grind
   ·split at h
    ·split at h
     ·rename_i h3;exact (GK h3).1
     ·cases h
    ·cases h
 ·simp
def RQ.tick {p:PK}(h:RQ p) (hv:VP p):RQ p.BM:=by
 have hg:=(D7.1 hv.site).1.2.2.2.2.1
 obtain ⟨h1,h2,h3,h4⟩:=aTM h hg;obtain ⟨e1,e2,e3,e4,e5,e6,e7,e8,e9,e10,e11,e12,e13,e14⟩:=IV p;refine ⟨h1,h2,?_,h4,?_,?_⟩
 ·show (M (p.AK.lk.filter _):Y)<=16*(p.AK.tk+1)+5000
  have:=VA (λl:Lk=>aq<|l.1>p.AK.tk) p.AK.lk
  rw [e6] at this|-;omega
 ·show ∀x∈p.AK.dm,_
  rw [e12];exact h.dm
 ·refine aTi ?_ _
  show ∀m∈p.AK.mi,_
  rw [e10];exact h.mi
def RQ.step {p:PK}(h:RQ p) (hv:VP p) {e:EV}(he:Bk p e=0):RQ (BA p e):=by
 have hg:=(D7.1 hv.site).1.2.2.2.2.1
 unfold BA;rw [AE A0];unfold Bk at he;rw [AE nr] at he;split
 ·exact h.tick hv
 rename_i h1;rw [AE h1] at he;split
 ·rename_i h2
  rw [AD h2] at he
  have hd:HE e.d=true:=by
   unfold PK.GM at he;split at he
   ·cases he
   ·split at he
    ·cases he
    ·rename_i hb
     simpa using (by simpa using hb:GF e.c=U/\HE e.d=U).2
  refine {h with dm:=λx hx=>?_,mi:=λm hm=>?_}
  ·rcases mem_set hx with hx|rfl
   ·exact h.dm x hx
   ·exact hd
  ·exact aO4
 rename_i h2;rw [AE h2] at he;split
 ·refine {h with dm:=λx hx=>?_,mi:=λm hm=>?_}
  ·rcases mem_set hx with hx|rfl
   ·exact h.dm x hx
   ·decide
  ·exact aO4
 rename_i h3;rw [AE h3] at he;split
 ·have:=VA (λl:Lk=>l.2.2.1 !=e.en) p.lk
  exact {h with lk:=by show (M (p.lk.filter _):Y)<=16*p.tk+5000;have:=h.lk;omega}
 rename_i h4;rw [AE h4] at he;split
 ·exact {h with ls:=by simp [PK.Tx]}
 rename_i h5;rw [AE h5] at he;split
 ·exact {h with ls:=Hq aHH ata,ra:=by simp [PK.U8];omega}
 rename_i h6;rw [AE h6] at he;split
 ·exact {h with}
 ·exact {h with}
def tj {cs:aL}{os:aF}{ks:aR}{gs:aG}{bs:aS}{dr:aC}(h:H3 cs os ks gs bs dr=0):VP (newP cs os ks gs bs dr)/\RQ (newP cs os ks gs bs dr):=by
 unfold newP;rw [AE A0];unfold H3 at h;split at h
 ·cases h
 rename_i h1;simp only [not_or,Sd,ne_eq,V7] at h1;split at h
 ·cases h
 rename_i h2;simp only [Sd] at h2
 have hb:BN Eb:=by
  unfold Eb De;rw [Ke,Ke,Ke,Qk];exact ⟨⟨⟨Ac,WG _⟩,sI λd hd=>Vf,gG _⟩,gG _⟩
 have hl:M Eb=2048:=by unfold Eb;rw [B8,Ox,Cf];rfl
 refine ⟨⟨h1.1,AI,AI,AI,AI,by simp [Fz],AI,h1.2,AI,λk hk=>?_,h2,λl hl=>by cases hl⟩,⟨⟨rfl,hl,hb⟩,AI,AI,by simp;exact (D7.1 h1.1).1.2.2.2.2.1,λx hx=>?_,λm hm=>?_⟩⟩
 ·simp only [GH] at hk
  have e:gi (cs.map λc=>c.2.2.1) (k:Y)=(Ad cs k).2.2.1:=by
   unfold gi Ad
   simp [hk]
  simp only [e];exact ⟨(iC h1.1 hk).1,Cz _⟩
 ·obtain ⟨_,rfl⟩:=Sg.1 hx;decide
 ·grind
def aHI {se:Y}{f0:aC}:∀(n:aD) (s:Y) (a:List Fl×List Int),M (G0 se f0 s n a).1<=M a.1+n*se.toNat
 |0,s,a=>by simp [G0]
 | n+1,s,a=>by
  unfold G0
  have h:=aHI (se:=se) (f0:=f0) n (s+1) (if isW se f0 s=U then (a.1++(erL se a.2 s).drop 1,Ew a.2 (s*se) se.toNat) else a)
  rw [Nat.succ_mul];split at h
  ·rename_i c
   rw [AD c]
   have e:M ((erL se a.2 s).drop 1)=se.toNat:=by unfold erL;rw [FL,GH,Sj];omega
   simp only [B8] at h;omega
  ·rename_i c
   rw [AE c];omega
def sG (se:Y) (fl:aC) (a:Y) (d:aC):M ((Dt se fl a d).drop 1)=M d:=by
 unfold Dt;rw [FL,GH,Sj];omega
def aHw {fl:aC}{ds:aJ}(hl:M fl=2048) (hE:GC 512 fl ds=0):M (GB 512 fl ds)<=5000:=by
 have hF:rwF fl ds=true:=by
  unfold GC at hE;split at hE
  ·grind
  ·split at hE
   ·cases hE
   ·rename_i h
    cases e:rwF fl ds
    ·grind
    ·rfl
 have hb:M (Eh fl ds)<=1100:=by
  unfold rwF at hF;rw [AV,Aa] at hF;unfold Eh;rw [B8,rC]
  have:M (D2<|JS fl (Aw fl)+1)=4:=rfl
  omega
 have he:M (Hg 512 fl).1<=1025:=by
  refine Hq (aHI _ _ _) ?_;rw [hl]
  show 1+(((2048 / 2:aD):Y).tdiv 512).toNat*(512:Y).toNat<=1025
  decide
 unfold GB;rw [AD hE,B8,B8,sG,sG];simp only [BY,Bh];omega
def aqY {se:Y}{fl:aC}{x:Le}{t:Y}(h:FK 512 2048 (se,fl)) (hE:EO se fl x t=0):M (Cq se fl x t)<=5000:=by
 have hs:=h.1
 subst hs
 have hl:=h.2.1
 unfold EO at hE;unfold Cq;split at hE
 ·grind
 rename_i h1;rw [AE h1];split at hE
 ·cases hE
 rename_i h2;rw [AE h2];split at hE
 ·cases hE
 rename_i h3;rw [AE h3];split at hE
 ·rename_i h4
  rw [AD h4];unfold Eu at hE;unfold Hj;split at hE
  ·grind
  rename_i h5;rw [AE h5];split at hE
  ·cases hE
  rename_i h6;rw [AE h6];split at hE
  ·rename_i h7
   rw [AD h7];unfold Hk;rw [B8,sG];unfold Dt;rw [GH,Sj,FL,MP,KZ]
   decide
  ·rename_i h7
   rw [AE h7];exact aHw hl hE
 ·rename_i h4
  rw [AE h4];exact aHw hl hE
def VK (se:Y) (fl:aC):Prop:=FK 512 2048 (se,fl)/\∃vl g,VI se fl vl g
def VK.cl {se:Y}{fl:aC}(h:VK se fl):lkC fl=true:=by
 obtain ⟨_,vl,g,hv⟩:=h;obtain ⟨w,k,O,hj⟩:=hv.ji;exact hj.cl
def VK.st {se:Y}{fl:aC}{x:Le}{t:Y}(h:VK se fl) (hE:EO se fl x t=0):letI b:=Cq se fl x t;letI a:=(GV b<|(M b:Y)-1);0<M b/\VK a.1 a.2:=by
 obtain ⟨hf,vl,g,hv⟩:=h;obtain ⟨vl',g',h1,_⟩:=zp hv hE
 have hn:=(aa7 (x:=x) (t:=t) (show FK se 2048 (se,fl) from ⟨rfl,hf.2.1,hf.2.2⟩))
 have hp:=OW.2<|hn.2 hE
 refine ⟨hp,?_,vl',g',h1⟩
 have hm:GV (Cq se fl x t) ((M (Cq se fl x t):Y)-1)∈Cq se fl x t:=by
  unfold GV;rw [DK,Dg A0]
  grind
 have hq:=hn.1 _ hm
 exact ⟨by rw [hq.1];exact hf.1,hq.2.1,hq.2.2⟩
def AR {α:Type}(l:List α):List α:=(l.drop 0).take<|M l
def Fo {α:Type}(l:List α):AR l=l:=TT l
def cpC (l:aL):aL:=BG (AR l)<|au (M l:Y).toNat (ByteArray.empty,((0:Y),((0:Y),((0:Y),(((0:Y),(0:Y)),((0:Y),((0:Y),((0:Y),((0:Y),(0:Y))))))))))
def XR (l:aL):cpC l=l:=by
 unfold cpC;rw [Fo];exact Qo
structure PW where
 (n i:Y)
 p:PK
 ev:EW
 Bf:aF
 C6:aR
 BQ:aG
 C7:aS
 o:aL
def aAu (s:PW):T (Rd PW):=letI b:=s.o.getD s.i.toNat<|Ty.dflt Ae;letI a:=(s.o.set s.i.toNat (b.1,(b.2.1,((s.p.tg.getD s.i.toNat<|Ty.dflt A7),b.2.2.2))));.br (aq<|s.i<s.n) (.ik s.i (M s.p.tg)<|.ik s.i (M s.o)<|.rl s.p.tg<|.rl s.p.cs<|.rl s.p.fl<|.rl s.p.ra<|.pb s.p<|.re (M s.o) a<|.nx {s with i:=AA<|s.i+1,o:=a})<|.rl s.p.tg<|.rl s.p.cs<|.rl s.p.fl<|.rl s.p.ra<|.pb s.p<|.rl s.o<|.so (.exit 0) s
def lr (s:PW):Prop:=s.i=0/\s.n=(M s.p.tg:Y)/\M s.p.tg=M s.p.cs/\s.n<=1000/\s.o=Dz s.p.cs s.p.tg s.i.toNat
def Ye (s:PW):Prop:=(0<=s.i/\s.i<=s.n)/\s.n=(M s.p.tg:Y)/\M s.p.tg=M s.p.cs/\s.n<=1000/\s.o=Dz s.p.cs s.p.tg s.i.toNat
def uo (s:PW):aD:=(s.n-s.i).toNat
def aBv (x:Ex) (s s':PW):Prop:=x=.exit 0/\s'.o=Dz s'.p.cs s'.p.tg (M s'.p.tg)
def anp:∀s,lr s->Ye s:=by
 exact aNS
def aiH:Da Ye uo aBv aAu:=by
 intro s hI;obtain ⟨⟨h0,h1⟩,h2,h3,h4,h5⟩:=hI
 have hl:M s.o=M s.p.cs:=nz
 refine AH (λc1=>?_) λc1=>?_
 ·have c1:s.i<s.n:=A8
  rw [AJ (x:=s.i+1)];refine ⟨⟨⟨A8,A8⟩,h2,h3,h4,?_⟩,by simp only [uo];omega⟩
  exact aMF
 ·have c1:s.n<=s.i:=A8
  refine ⟨rfl,?_⟩
  grind
def UP:AS PW:=⟨18,34,[2,3,19,20,21],[],λs=>[.own 18 0,.own 19 0,.os 15 1 0<|M s.p.tg,s.n,s.i],λs=>[AP,AP,zB,AP,bV 81 Ae s.p.cs,AP,bV 5 (.int ax) s.p.fl,bV 126 Aq s.p.ra,bV 91 B7 s.p.st,bV 54 AO s.p.ca,bV 131 BC s.p.mi,bV 94 BU s.p.me,bV 56 Ai s.p.dm,bV 74 BP s.p.lk,bV 3 A7 s.p.dr,bV 3 A7 s.p.tg,⟨[.os 4 11 0<|M s.p.cs,.xl .str s.p.os,.xl Ak s.p.ks,.xl Af s.p.gs,.xl Al s.p.bs,.v<|ah J s.p.tk,.v<|.bool s.p.up,.xl AO s.p.ls,.v<|ah J s.p.se,.os 6 1 0<|M s.p.fl,.os 7 2 0<|M s.p.ra,.v<|ah J s.p.nx,.os 8 4 0<|M s.p.st,.os 9 5 0<|M s.p.ca,.os 10 3 0<|M s.p.mi,.os 11 3 0<|M s.p.me,.os 12 4 0<|M s.p.dm,.os 13 6 0<|M s.p.lk,.os 14 1 0<|M s.p.dr,.os 15 1 0<|M s.p.tg,.v<|ah J s.ev.ek,.v<|ah J s.ev.en,.v<|ah J s.ev.em,.v<|ah J s.ev.c1,.v<|ah J s.ev.c2,.v<|ah J s.ev.c3,.v<|ah J s.ev.c4,.v<|ah J s.ev.c5,.v<|.bool s.ev.d1,.v<|ah J s.ev.d2,.v<|ah J s.ev.d3,.v<|ah J s.ev.d4,.v<|.slice ak 0 0],103,.cl,X⟩,AP,⟨[.v<|.slice ak 0 0,.v<|.slice ak 0 0,.v<|.slice ak 0 0,.v<|.slice ak 0 0,.v<|.slice ak 0 0],28,.cl,X⟩,⟨[.os 20 11 0<|M s.o,s.Bf,s.C6,s.BQ,s.C7],28,.cl,X⟩,bV 81 Ae s.o],λv b=>⟨AL v 3,AL v 4,rB b 16 4 0 6 7 8 9 10 11 12 13 14 15,rG b,AF .str b 19 1,AF Ak b 19 2,AF Af b 19 3,AF Al b 19 4,Ab Ae b 20⟩,aAu,λs r=> {s with i:=r.i,o:=r.o},λs=>s,λ_ s=>s,[.exit 0],lr,Ye,uo⟩
abbrev aIx:=UP.run
abbrev aub:=UP.Av
def PD:aO:=[]
def ahd:Az:=kI PD<|la 9 func16 Cv<|l0 PD
def azj:Rq Ye aAu:=by
 intro s hI;refine ⟨λc1=>⟨?_,?_,?_,?_,A9,A9,A9,A9,A9,A9,A9,A9,A9,A9,A9,A9,?_,an⟩,λc1=>⟨A9,A9,A9,A9,A9,A9,A9,A9,A9,A9,A9,A9,A9,an⟩⟩
 all_goals ((obtain ⟨⟨h0,h1⟩,h2,h3,h4,h5⟩:=hI;have hl:M s.o=M s.p.cs:=nz;(try simp only [Aa] at c1);first|omega|exact ⟨rfl,rfl⟩ |exact ⟨rfl,AI⟩))
def aRw:UP.Ok:={}
def aQx:UP.Pf (aBv):=⟨anp,λs h=>rfl,aiH,azj⟩
def aIS:=s2 (b:=bN f62 0) aRw aQx PD ahd
def avQ:Fi lr Ye aBv aub aIx:=AS.fin aRw aQx
structure Lp where
 p:PK
 ev:EW
def UE (s:Lp):aE:=[.own 16 0]
def ZG (s:Lp):aH:=[AP,AP,zB,AP,bV 81 Ae s.p.cs,AP,bV 5 (.int ax) s.p.fl,bV 126 Aq s.p.ra,bV 91 B7 s.p.st,bV 54 AO s.p.ca,bV 131 BC s.p.mi,bV 94 BU s.p.me,bV 56 Ai s.p.dm,bV 74 BP s.p.lk,bV 3 A7 s.p.dr,bV 3 A7 s.p.tg,⟨[.os 4 11 0<|M s.p.cs,.xl .str s.p.os,.xl Ak s.p.ks,.xl Af s.p.gs,.xl Al s.p.bs,.v<|ah J s.p.tk,.v<|.bool s.p.up,.xl AO s.p.ls,.v<|ah J s.p.se,.os 6 1 0<|M s.p.fl,.os 7 2 0<|M s.p.ra,.v<|ah J s.p.nx,.os 8 4 0<|M s.p.st,.os 9 5 0<|M s.p.ca,.os 10 3 0<|M s.p.mi,.os 11 3 0<|M s.p.me,.os 12 4 0<|M s.p.dm,.os 13 6 0<|M s.p.lk,.os 14 1 0<|M s.p.dr,.os 15 1 0<|M s.p.tg,.v<|ah J s.ev.ek,.v<|ah J s.ev.en,.v<|ah J s.ev.em,.v<|ah J s.ev.c1,.v<|ah J s.ev.c2,.v<|ah J s.ev.c3,.v<|ah J s.ev.c4,.v<|ah J s.ev.c5,.v<|.bool s.ev.d1,.v<|ah J s.ev.d2,.v<|ah J s.ev.d3,.v<|ah J s.ev.d4,.v<|.slice ak 0 0],103,.cl,X⟩,AP]
def rM (s:Lp):PW:=(⟨((M s.p.tg:aD):Y),0,s.p,s.ev,s.p.os,s.p.ks,s.p.gs,s.p.bs,cpC s.p.cs⟩:PW)
structure Xz where
 so:aF
 sk:aR
 sg:aG
 sb:aS
 p:PK
 ev:EW
 o:aL
def adC (s:Xz):LV:=.agg [.os 18 11 0<|M s.o,s.so,s.sk,s.sg,s.sb]
def adR (s:Xz):aH:=[AP,AP,zB,AP,bV 81 Ae s.p.cs,AP,bV 5 (.int ax) s.p.fl,bV 126 Aq s.p.ra,bV 91 B7 s.p.st,bV 54 AO s.p.ca,bV 131 BC s.p.mi,bV 94 BU s.p.me,bV 56 Ai s.p.dm,bV 74 BP s.p.lk,bV 3 A7 s.p.dr,bV 3 A7 s.p.tg,⟨[.os 4 11 0<|M s.p.cs,.xl .str s.p.os,.xl Ak s.p.ks,.xl Af s.p.gs,.xl Al s.p.bs,.v<|ah J s.p.tk,.v<|.bool s.p.up,.xl AO s.p.ls,.v<|ah J s.p.se,.os 6 1 0<|M s.p.fl,.os 7 2 0<|M s.p.ra,.v<|ah J s.p.nx,.os 8 4 0<|M s.p.st,.os 9 5 0<|M s.p.ca,.os 10 3 0<|M s.p.mi,.os 11 3 0<|M s.p.me,.os 12 4 0<|M s.p.dm,.os 13 6 0<|M s.p.lk,.os 14 1 0<|M s.p.dr,.os 15 1 0<|M s.p.tg,.v<|ah J s.ev.ek,.v<|ah J s.ev.en,.v<|ah J s.ev.em,.v<|ah J s.ev.c1,.v<|ah J s.ev.c2,.v<|ah J s.ev.c3,.v<|ah J s.ev.c4,.v<|ah J s.ev.c5,.v<|.bool s.ev.d1,.v<|ah J s.ev.d2,.v<|ah J s.ev.d3,.v<|ah J s.ev.d4,.v<|.slice ak 0 0],103,.cl,X⟩,AP,bV 81 Ae s.o]
def j8 (s:Lp):T Xz:=letI a:=((M s.p.cs:aD):Y);.rm 96 a<|.rz s.p.cs<|.rc a (ByteArray.empty,((0:Y),((0:Y),((0:Y),(((0:Y),(0:Y)),((0:Y),((0:Y),((0:Y),((0:Y),(0:Y)))))))))) (M<|AR s.p.cs)<|.rl s.p.tg<|.rl s.p.cs<|.rl s.p.fl<|.rl s.p.ra<|.pb s.p<|.re a.toNat (cpC s.p.cs)<|.req (UP.q<|rM s)<|.rl s.p.cs<|.rl s.p.fl<|.rl s.p.ra<|.pb s.p<|.ok<|⟨s.p.os,s.p.ks,s.p.gs,s.p.bs,s.p,s.ev,(aIx<|rM s).o⟩
def m7 (s:Lp):Prop:=M s.p.tg=M s.p.cs/\M s.p.tg<=1000
def aac (s:Lp):Xz:=⟨s.p.os,s.p.ks,s.p.gs,s.p.bs,s.p,s.ev,Dz s.p.cs s.p.tg<|M s.p.tg⟩
def mD:D4 Lp Xz:=⟨UE,ZG,λv b=>⟨rB b 16 4 0 6 7 8 9 10 11 12 13 14 15,rG b⟩,m7,[0,1,3,5,17],[],adC,adR,aac⟩
abbrev akJ (s:Lp):Prop:=m7 s/\UE s=UE s/\ZG s=ZG s
def aTA:Az:=kI PD<|la 4 func62 aIS<|la 9 func16 Cv<|l0 PD
def aUy:DV:=CR 62 18 4 (UP.lp)<|CR 16 0 9 (HN.lp)<|EM prog AU PD 20 2
def aqV:EZ prog AU aUy:=DL func62 rfl AX aIS<|DL func16 rfl AX Cv<|Hz<|gk PD
def ah1 (s:Lp):((Em prog AU PD aUy aTA).k 62 (UE s)<|ZG s).bind (λq=>GP (M<|ZG s) [0] [] .normal (q.1::UE s) q.2)=(j8 s).mp (λs2=>⟨.normal,M (UE s)+1,[adC s2],adR s2,U⟩):=AX
def axM (s:Lp) (hE:m7 s):(j8 s).all (λq=>q=aac s):=by
 obtain ⟨ht,hn⟩:=hE
 have hA:lr (rM s):=⟨rfl,rfl,ht,aP4,XR _⟩
 obtain ⟨_,_,_,q2⟩:=avQ _ hA;unfold j8;simp only [Fo,XR,q2]
 repeat (refine ⟨A8,?_⟩)
 refine ⟨⟨hA,rfl,rfl⟩,?_⟩
 repeat (refine ⟨AI,?_⟩)
 rfl
def aTQ:Dk prog AU 62 mD.m:=D4.sound (D:=mD) (t:=j8) (gk PD) aqV aTA.h ah1 λs hE=>⟨axM s hE⟩
structure OC where
 xs:aM
 (n i:Y)
 p:PK
 ev:EW
def aA2 (s:OC):T (Rd OC):=letI c:=An s.xs s.i;letI e:=AA<|s.i+1;letI a:=((AA<|s.p.tk+((AA<|(AA<|7*s.p.tk)+(AA<|3*c.2.1)).tmod 5)),c);letI b:=Cq s.p.se s.p.fl c s.p.tk;letI d:=(AA<|(M b:Y)-1);.br (aq<|s.i<s.n) (.ix s.i (M s.xs)<|.br ((FX s.p.ls c) !=0) (.rl s.p.cs<|.rl s.p.st<|.rl s.p.ca<|.rl s.p.mi<|.rl s.p.me<|.rl s.p.lk<|.rl s.p.dr<|.rl s.p.tg<|.nx {s with i:=e})<|.req (BN s.p.fl/\(Bs s.p.se s.p.fl=0->lkC s.p.fl=U))<|.br ((EO s.p.se s.p.fl c s.p.tk) !=0) (.rl s.p.cs<|.rl s.p.st<|.rl s.p.ca<|.rl s.p.mi<|.rl s.p.me<|.rl s.p.lk<|.rl s.p.dr<|.rl s.p.tg<|.nx {s with i:=e})<|.ix d (M b)<|.req ((5:Y)≠0)<|.rb (M s.p.lk) (M<|[a]) 48<|.rl s.p.cs<|.rl s.p.st<|.rl s.p.ca<|.rl s.p.mi<|.rl s.p.me<|.re (M s.p.lk+M ([a])) (s.p.lk++([a]))<|.rl s.p.dr<|.rl s.p.tg<|.nx {s with i:=e,p.ls:=GO s.p.ls c,p.se:=(GV b d).1,p.fl:=(GV b d).2,p.nx:=AA<|c.1+1,p.lk:=s.p.lk++([a])})<|.rl s.p.cs<|.rl s.p.st<|.rl s.p.ca<|.rl s.p.mi<|.rl s.p.me<|.rl s.p.lk<|.rl s.p.dr<|.rl s.p.tg<|.so (.exit 0) s
def L8 (p:PK) (xs:aM):PK:=letI a:=(xs.foldl (F9 p.tk) ⟨p.ls,p.se,p.fl,p.nx,p.lk⟩);{p with ls:=a.ls,se:=a.se,fl:=a.fl,nx:=a.nx,lk:=a.lk}
def Dy {a b:Y}(h:(a !=b)=X):a=b:=A8
def ft {p:PK}{x:Le}(h:VK p.se p.fl) (hE:EO p.se p.fl x p.tk=0):letI a:=Cq p.se p.fl x p.tk;AA ((M a:Y)-1)=(M a:Y)-1/\0<M a:=by
 have h1:=aqY h.1 hE
 have h2:=(h.st hE).1
 exact ⟨AJ,h2⟩
def akO {se:Y}{fl:aC}{x:Le}{t:Y}(h:EO se fl x t=0):0<=x.1/\x.1<=1000000:=by
 unfold EO at h;split at h
 ·grind
 ·split at h
  ·cases h
  ·rename_i h1
   have:DJ x=true:=by
    cases e:DJ x
    ·grind
    ·rfl
   have:=Kc.1 this
   omega
def ahW {l:aM}{i:Y}(h0:0<=i) (h:i<M l):An l i∈l:=Li h0 h
def ai7 {t c:Y}(ht:0<=t/\t<=1000000) (hc:0<=c/\c<=100):AA (t+(AA<|AA (7*t)+AA (3*c)).tmod 5)=t+(7*t+3*c).tmod 5:=by
 rw [AJ (x:=7*t),AJ (x:=3*c),AJ (x:=7*t+3*c)]
 have:=Int.tmod_nonneg 5 (show 0<=7*t+3*c by omega)
 have:=Int.tmod_lt_of_pos (7*t+3*c) (show (0:Y)<5 by decide)
 exact AJ
def kG (s:OC):Prop:=s.i=0/\s.n=(M s.xs:Y)/\s.n<=16/\(∀x∈s.xs,0<=x.2.1/\x.2.1<=100)/\(0<=s.p.tk/\s.p.tk<=1000000)/\VK s.p.se s.p.fl/\(M s.p.lk:Y)<=17000000+s.i
def lL (s:OC):Prop:=(0<=s.i/\s.i<=s.n)/\s.n=(M s.xs:Y)/\s.n<=16/\(∀x∈s.xs,0<=x.2.1/\x.2.1<=100)/\(0<=s.p.tk/\s.p.tk<=1000000)/\VK s.p.se s.p.fl/\(M s.p.lk:Y)<=17000000+s.i
def gU (s:OC):aD:=(s.n-s.i).toNat
def acZ (x:Ex) (s s':OC):Prop:=True
def anc:∀s,kG s->lL s:=by
 exact aNC
def ain:Da lL gU acZ aA2:=by
 intro s hI;obtain ⟨⟨h0,h1⟩,h2,h3,h4,h5,h6,h7⟩:=hI;refine AH (λc1=>AH (λc2=>?_) λc2=>AH (λc3=>?_) λc3=>?_) λc1=>trivial
 all_goals have c1:s.i<s.n:=AY
 all_goals rw [AJ (x:=s.i+1)]
 iterate 2
  ·exact ⟨⟨⟨AZ,AZ⟩,h2,h3,h4,h5,h6,AZ⟩,by simp only [gU];omega⟩
 ·rw [(ft h6<|Dy c3).1]
  exact ⟨⟨⟨A8,AZ⟩,h2,h3,h4,h5,(h6.st<|Dy c3).2,A8⟩,by simp only [gU];omega⟩
def UN:AS OC:=⟨18,85,[0,75,76,77],[.pc 16 7 AO,.kb 5,.pc 16 9<|.int ax,.kb 6,.pc 16 10 Aq,.kb 7,.pc 16 16 Ai,.kb 12,.ms 0 17],λs=>[.own 16 0,s.xs,s.n,s.i],λs=>[AP,AP,zB,AP,bV 81 Ae s.p.cs,AP,AP,AP,bV 91 B7 s.p.st,bV 54 AO s.p.ca,bV 131 BC s.p.mi,bV 94 BU s.p.me,AP,⟨[],74,.dead,X⟩,bV 3 A7 s.p.dr,bV 3 A7 s.p.tg,⟨[.os 4 11 0<|M s.p.cs,.xl .str s.p.os,.xl Ak s.p.ks,.xl Af s.p.gs,.xl Al s.p.bs,.v<|ah J s.p.tk,.v<|.bool s.p.up,.xl AO s.p.ls,.v<|ah J s.p.se,.xl (.int ax) s.p.fl,.xl Aq s.p.ra,.v<|ah J s.p.nx,.os 8 4 0<|M s.p.st,.os 9 5 0<|M s.p.ca,.os 10 3 0<|M s.p.mi,.os 11 3 0<|M s.p.me,.xl Ai s.p.dm,.os 18 6 0<|M s.p.lk,.os 14 1 0<|M s.p.dr,.os 15 1 0<|M s.p.tg,.v<|ah J s.ev.ek,.v<|ah J s.ev.en,.v<|ah J s.ev.em,.v<|ah J s.ev.c1,.v<|ah J s.ev.c2,.v<|ah J s.ev.c3,.v<|ah J s.ev.c4,.v<|ah J s.ev.c5,.v<|.bool s.ev.d1,.v<|ah J s.ev.d2,.v<|ah J s.ev.d3,.v<|ah J s.ev.d4,.v<|.slice ak 0 0],103,.cl,X⟩,AP,bV 74 BP s.p.lk],λv b=>⟨B3 AO v 1,AL v 2,AL v 3,rB b 16 4 0 0 0 8 9 10 11 0 18 14 15,rG b⟩,aA2,λs r=> {s with i:=r.i,p.ls:=r.p.ls,p.se:=r.p.se,p.fl:=r.p.fl,p.nx:=r.p.nx,p.lk:=r.p.lk},λs=>s,λ_ s=>s,[.exit 0],kG,lL,gU⟩
abbrev aDP:=UN.run
abbrev auT:=UN.Av
def wI:aO:=[gu,aPp,aVo,aa9]
def ahc:Az:=IL wI (la 9 func16 Cv<|l0 wI) [⟨62,mD.m,aTQ⟩]
def ay8:Rq lL aA2:=by
 intro s hI;refine ⟨λc1=>⟨?_,λc2=>⟨A9,A9,A9,A9,A9,A9,A9,A9,an⟩,λc2=>⟨?_,λc3=>⟨A9,A9,A9,A9,A9,A9,A9,A9,an⟩,λc3=>⟨?_,?_,?_,A9,A9,A9,A9,A9,?_,A9,A9,an⟩⟩⟩,λc1=>⟨A9,A9,A9,A9,A9,A9,A9,A9,an⟩⟩
 all_goals ((obtain ⟨⟨h0,h1⟩,h2,h3,h4,h5,h6,h7⟩:=hI;simp only [Aa] at c1;first|omega|exact ⟨rfl,rfl⟩ |exact ⟨h6.1.2.2,λ_=>h6.cl⟩ |(simp only [BY,Bh,B8];omega) |(simp only [B8,BY,Bh,Dw];done) |(rw [(ft h6<|Dy c3).1];have:=(ft h6<|Dy c3).2;omega)))
def aRm:UN.Ok:={}
def aRP:UN.Pf (acZ):=⟨anc,λs h=>rfl,ain,ay8⟩
def aIQ:=s2 (b:=bN f46 0) aRm aRP wI ahc
def avl:Rs kG auT aDP (λs:OC=>L8 s.p<|s.xs.drop s.i.toNat) (λx s' (v:PK)=>x=.exit 0/\s'.p=v):=DY aRm aRP (λs hI=>by
  obtain ⟨⟨h0,h1⟩,h2,h3,h4,h5,h6,h7⟩:=hI;refine AH (λc1=>?_) λc1=>?_
  ·have c1:s.i<s.n:=A8
   have e:=(TE h0 (show s.i<(M s.xs:Y) by omega)).1
   rw [AJ (x:=s.i+1),e];refine AH (λc2=>?_) λc2=>AH (λc3=>?_) λc3=>?_
   ·show L8 s.p _=L8 s.p _
    unfold L8;rw [KL,show F9 s.p.tk ⟨s.p.ls,s.p.se,s.p.fl,s.p.nx,s.p.lk⟩ (An s.xs s.i)=⟨s.p.ls,s.p.se,s.p.fl,s.p.nx,s.p.lk⟩ from AE λh=>EH.1 c2 h.1]
   ·show L8 s.p _=L8 s.p _
    unfold L8;rw [KL,show F9 s.p.tk ⟨s.p.ls,s.p.se,s.p.fl,s.p.nx,s.p.lk⟩ (An s.xs s.i)=⟨s.p.ls,s.p.se,s.p.fl,s.p.nx,s.p.lk⟩ from AE λh=>EH.1 c3 h.2]
   ·have hx:=h4 _ (ahW h0 (show s.i<(M s.xs:Y) by omega))
    have hn:=akO<|Dy c3
    rw [(ft h6<|Dy c3).1,ai7 h5 hx,AJ (x:=(An s.xs s.i).1+1)]
    show L8 _ _=L8 s.p _
    conv=>rhs;unfold L8
    rw [KL,show F9 s.p.tk ⟨s.p.ls,s.p.se,s.p.fl,s.p.nx,s.p.lk⟩ (An s.xs s.i)=_ from AD ⟨Dy c2,Dy c3⟩];rfl
  ·have c1:s.n<=s.i:=A8
   refine ⟨rfl,?_⟩;rw [Ei A0];rfl)
def aTt:aE->T LV
 | [.xl (.pair (.int J) (.pair (.int J) (.pair (.int J) (.pair (.int J) (.int J))))) l,.v (ah J t)]=> .req (DO l t=0) (.ok<|.AQ [BW l t,.ki J 0])
 |_=> .no
def adF:=uS f60 aTt
def akF:VV 60 adF:=λargs vals w Z lv h1 h2 h3 h4 h=>by
 have key:∃l t,lv=.AQ [.xl AO<|BW l t,.ki J 0]/\(wQ args).all (λx=>x=.AQ [.xl AO<|BW l t,.v<|ah J 0]):=by
  unfold adF uS upS aTt at h;split at h
  ·rename_i l t e
   obtain ⟨g1,g2⟩:=h;refine ⟨l,t,g2.symm,?_⟩;unfold wQ uS upS;rw [e]
   show LV.AQ [.xl AO _,.v<|ah J<|DO _ _]=_
   rw [g1]
  ·cases h
 obtain ⟨l,t,rfl,hk⟩:=key;refine (gu args vals w Z _ h1 h2 h3 h4 hk).mono λe w' ⟨hb,v,he,ho,hr⟩=>⟨hb,v,he,?_,?_⟩
 ·simp only [okV,AT] at ho|-
  grind
 ·simp only [R,RL] at hr|-
  exact hr
structure Ls where
 p:PK
 ev:EW
def Uc (s:Ls):aE:=[.own 16 0]
def ZB (s:Ls):aH:=[AP,AP,zB,AP,bV 81 Ae s.p.cs,bV 70 AO s.p.ls,bV 5 (.int ax) s.p.fl,bV 126 Aq s.p.ra,bV 91 B7 s.p.st,bV 54 AO s.p.ca,bV 131 BC s.p.mi,bV 94 BU s.p.me,bV 56 Ai s.p.dm,bV 74 BP s.p.lk,bV 3 A7 s.p.dr,bV 3 A7 s.p.tg,⟨[.os 4 11 0<|M s.p.cs,.xl .str s.p.os,.xl Ak s.p.ks,.xl Af s.p.gs,.xl Al s.p.bs,.v<|ah J s.p.tk,.v<|.bool s.p.up,.os 5 5 0<|M s.p.ls,.v<|ah J s.p.se,.os 6 1 0<|M s.p.fl,.os 7 2 0<|M s.p.ra,.v<|ah J s.p.nx,.os 8 4 0<|M s.p.st,.os 9 5 0<|M s.p.ca,.os 10 3 0<|M s.p.mi,.os 11 3 0<|M s.p.me,.os 12 4 0<|M s.p.dm,.os 13 6 0<|M s.p.lk,.os 14 1 0<|M s.p.dr,.os 15 1 0<|M s.p.tg,.v<|ah J s.ev.ek,.v<|ah J s.ev.en,.v<|ah J s.ev.em,.v<|ah J s.ev.c1,.v<|ah J s.ev.c2,.v<|ah J s.ev.c3,.v<|ah J s.ev.c4,.v<|ah J s.ev.c5,.v<|.bool s.ev.d1,.v<|ah J s.ev.d2,.v<|ah J s.ev.d3,.v<|ah J s.ev.d4,.v<|.slice ak 0 0],103,.cl,X⟩,AP]
def aGB (s:Ls):Lp:=(⟨{s.p with ls:=BW (AR s.p.ls) s.p.tk},s.ev⟩:Lp)
def pK (s:Ls):OC:=letI b:=BW (AR s.p.ls) s.p.tk;letI c:=AR<|Dz s.p.cs s.p.tg<|M s.p.tg;letI a:=deL c s.p.os s.p.ks s.p.gs s.p.bs b (AR s.p.ra) (AR s.p.dm) s.p.tk s.p.nx;(⟨a,(M a:Y),0,{s.p with ls:=b,fl:=AR s.p.fl,ra:=deR c s.p.os s.p.ks s.p.gs s.p.bs b (AR s.p.ra) (AR s.p.dm) s.p.tk s.p.nx,dm:=AR s.p.dm},s.ev⟩:OC)
structure Xu where
 p:PK
 ev:EW
def ad7 (s:Xu):LV:=.v<|.tuple #[]
def acL (s:Xu):aH:=[AP,AP,zB,AP,bV 81 Ae s.p.cs,AP,AP,AP,bV 91 B7 s.p.st,bV 54 AO s.p.ca,bV 131 BC s.p.mi,bV 94 BU s.p.me,AP,AP,bV 3 A7 s.p.dr,bV 3 A7 s.p.tg,⟨[.os 4 11 0<|M s.p.cs,.xl .str s.p.os,.xl Ak s.p.ks,.xl Af s.p.gs,.xl Al s.p.bs,.v<|ah J s.p.tk,.v<|.bool s.p.up,.xl AO s.p.ls,.v<|ah J s.p.se,.xl (.int ax) s.p.fl,.xl Aq s.p.ra,.v<|ah J s.p.nx,.os 8 4 0<|M s.p.st,.os 9 5 0<|M s.p.ca,.os 10 3 0<|M s.p.mi,.os 11 3 0<|M s.p.me,.xl Ai s.p.dm,.xl BP s.p.lk,.os 14 1 0<|M s.p.dr,.os 15 1 0<|M s.p.tg,.v<|ah J s.ev.ek,.v<|ah J s.ev.en,.v<|ah J s.ev.em,.v<|ah J s.ev.c1,.v<|ah J s.ev.c2,.v<|ah J s.ev.c3,.v<|ah J s.ev.c4,.v<|ah J s.ev.c5,.v<|.bool s.ev.d1,.v<|ah J s.ev.d2,.v<|ah J s.ev.d3,.v<|ah J s.ev.d4,.v<|.slice ak 0 0],103,.cl,X⟩,AP]
def iy (s:Ls):T Xu:=letI a:=Dz s.p.cs s.p.tg<|M s.p.tg;letI b:=BW (AR s.p.ls) s.p.tk;letI c:=aDP<|pK s;letI d:=AR s.p.dm;.br (!s.p.up) (.rz s.p.ls<|.rz s.p.fl<|.rz s.p.ra<|.rz s.p.dm<|.rz s.p.lk<|.pd s.p<|.ok<|⟨{s.p with ls:=AR s.p.ls,fl:=AR s.p.fl,ra:=AR s.p.ra,dm:=AR s.p.dm,lk:=AR s.p.lk},s.ev⟩)<|.rz s.p.ls<|.req (DO (AR s.p.ls) s.p.tk=0)<|.rl s.p.cs<|.rl s.p.fl<|.rl s.p.ra<|.pb s.p<|.req (akJ<|aGB s)<|.rv (.xl AO b)<|.rv (.os 7 2 0<|M s.p.ra)<|.rv (.os 12 4 0<|M s.p.dm)<|.rv (.v<|ah J s.p.tk)<|.rv (.v<|ah J s.p.nx)<|.rz a<|.rz s.p.ra<|.rz s.p.dm<|.req (Io d s.p.tk/\M d<=19)<|.br ((deE (AR a) s.p.os s.p.ks s.p.gs s.p.bs b (AR s.p.ra) d s.p.tk s.p.nx) !=0) (.rz s.p.fl<|.rz s.p.ra<|.rz s.p.dm<|.rz s.p.lk<|.pd s.p<|.ok<|⟨{s.p with ls:=b,fl:=AR s.p.fl,ra:=AR s.p.ra,dm:=AR s.p.dm,lk:=AR s.p.lk},s.ev⟩)<|.rz s.p.fl<|.rz s.p.dm<|.rl s.p.cs<|.rl s.p.st<|.rl s.p.ca<|.rl s.p.mi<|.rl s.p.me<|.rl s.p.lk<|.rl s.p.dr<|.rl s.p.tg<|.req (UN.q<|pK s)<|.rz c.p.lk<|.pd s.p<|.ok<|⟨{s.p with ls:=c.p.ls,se:=c.p.se,fl:=c.p.fl,ra:=deR (AR a) s.p.os s.p.ks s.p.gs s.p.bs b (AR s.p.ra) d s.p.tk s.p.nx,nx:=c.p.nx,dm:=d,lk:=AR c.p.lk},s.ev⟩
def aFY {t:Y}{xs:aM}{s:SN}:∀k,k<=M xs->EL t xs s k=(xs.take k).foldl (F9 t) s
 |0,_=>rfl
 |k+1,h=>by
  rw [EL,aFY k A0,Zc A0,List.foldl_append];rw [show An xs (k:Y)=xs[k]' A0 from Md A0];rfl
def aow {p:PK}:p.sn1=p.dL.foldl (F9 p.tk) p.GA:=by
 unfold PK.sn1;rw [aFY _<|Ar _,Ej]
def aqC {l:aM}{t:Y}(h:B1 l=U) (ht:0<=t/\t<=1000000):DO l t=0:=by
 have e:L1 l t=true:=by unfold L1;rw [h,BO.2 A0];rfl
 exact AD e
def RQ.wd {p:PK}(h:RQ p) (hv:VP p):Io p.dm p.tk/\M p.dm<=19:=by
 have hg:=(D7.1 hv.site).1
 have ht:=hv.tk
 refine ⟨⟨λx hx=>?_,A0,A0⟩,by rw [hv.dm];omega⟩
 have:=h.dm x hx
 unfold HE at this;simp only [AV,BO] at this;omega
def aCk (s:Ls):Prop:=(VP s.p/\RQ s.p)/\VK s.p.se s.p.fl/\B1 s.p.ls=U
def Xj (s:Ls):Xu:=⟨PK.AK s.p,s.ev⟩
def Pa:D4 Ls Xu:=⟨Uc,ZB,λv b=>⟨rF b,rG b⟩,aCk,[0,1,3,17],[.pc 16 7 AO,.kb 5,.pc 16 9<|.int ax,.kb 6,.pc 16 10 Aq,.kb 7,.pc 16 16 Ai,.kb 12,.pc 16 17 BP,.kb 13],ad7,acL,Xj⟩
abbrev aj6 (s:Ls):Prop:=aCk s/\Uc s=Uc s/\ZB s=ZB s
def X8:aO:=[akF,aPp,aVo,aa9]
def aT9:Az:=IL X8 (la 9 func46 aIQ<|la 9 func16 Cv<|l0 X8) [⟨62,mD.m,aTQ⟩]
def aVi:DV:=CR 46 18 9 (UN.lp)<|CR 16 0 9 (HN.lp)<|EM prog AU X8 20 2
def aqQ:EZ prog AU aVi:=DL func46 rfl AX aIQ<|DL func16 rfl AX Cv<|Hz<|gk X8
def agt (s:Ls):((Em prog AU X8 aVi aT9).k 46 (Uc s)<|ZB s).bind (λq=>GP (M<|ZB s) [0] [.pc 16 7 AO,.kb 5,.pc 16 9<|.int ax,.kb 6,.pc 16 10 Aq,.kb 7,.pc 16 16 Ai,.kb 12,.pc 16 17 BP,.kb 13] .normal (q.1::Uc s) q.2)=(iy s).mp (λs2=>⟨.normal,M (Uc s)+1,[ad7 s2],acL s2,U⟩):=AX
def axx (s:Ls) (hE:aCk s):(iy s).all (λq=>q=Xj s):=by
 obtain ⟨⟨hV,hR⟩,hK,hls⟩:=hE
 have hs:=D7.1 hV.site
 have ht:=hV.Es
 have hwd:=hR.wd hV
 have htk:=hV.tk
 have hx:DO s.p.ls s.p.tk=0:=aqC hls htk
 have hxs:Dv s.p.ls s.p.tk=BW s.p.ls s.p.tk:=AD hx
 have hA:m7 (aGB s):=⟨ht,by show M s.p.tg<=1000;omega⟩
 have q2:Dz s.p.cs s.p.tg (M s.p.tg)=s.p.EA:=rfl
 have e1:deE s.p.EA s.p.os s.p.ks s.p.gs s.p.bs (BW s.p.ls s.p.tk) s.p.ra s.p.dm s.p.tk s.p.nx=s.p.dE:=by unfold PK.dE;rw [hxs]
 have e2:deR s.p.EA s.p.os s.p.ks s.p.gs s.p.bs (BW s.p.ls s.p.tk) s.p.ra s.p.dm s.p.tk s.p.nx=s.p.dR:=by unfold PK.dR;rw [hxs]
 have e3:deL s.p.EA s.p.os s.p.ks s.p.gs s.p.bs (BW s.p.ls s.p.tk) s.p.ra s.p.dm s.p.tk s.p.nx=s.p.dL:=by unfold PK.dL;rw [hxs]
 have hst:pK s=⟨s.p.dL,(M s.p.dL:Y),0,{s.p with ls:=BW s.p.ls s.p.tk,ra:=s.p.dR},s.ev⟩:=by
  unfold pK;simp only [Fo,q2,e2,e3]
 have hB:kG ⟨s.p.dL,(M s.p.dL:Y),0,{s.p with ls:=BW s.p.ls s.p.tk,ra:=s.p.dR},s.ev⟩:=by
  refine ⟨rfl,rfl,?_,λx hx=>?_,htk,hK,?_⟩
  ·have:=wb (p:=s.p);show (M s.p.dL:Y)<=16;omega
  ·have:=aBr (p:=s.p) x hx;omega
  ·have:=hR.lk;show (M s.p.lk:Y)<=17000000+0;omega
 have q3:=(avl _ hB).2
 have q3:(aDP ⟨s.p.dL,(M s.p.dL:Y),0,{s.p with ls:=BW s.p.ls s.p.tk,ra:=s.p.dR},s.ev⟩).p=L8 {s.p with ls:=BW s.p.ls s.p.tk,ra:=s.p.dR} s.p.dL:=q3
 unfold iy;simp only [Fo,XR,q2,e1,e2,hst,q3];refine ⟨λc=>?_,λc=>?_⟩
 ·have c:s.p.up=false:=Ix
  repeat (refine ⟨Di,?_⟩)
  show _=_
  unfold Xj;rw [show PK.AK s.p=s.p from AD c]
 have hu:¬s.p.up=false:=by intro h;rw [h] at c;cases c
 refine ⟨A0,hx,?_⟩
 repeat (refine ⟨AI,?_⟩)
 refine ⟨⟨hA,rfl,rfl⟩,rfl,rfl,rfl,rfl,rfl,?_⟩
 repeat (refine ⟨Di,?_⟩)
 refine ⟨λc1=>?_,λc1=>?_⟩
 ·have c1:s.p.dE≠0:=EH.1 c1
  repeat (refine ⟨AI,?_⟩)
  show _=_
  unfold Xj;rw [show PK.AK s.p={s.p with ls:=Dv s.p.ls s.p.tk} by unfold PK.AK;rw [AE hu,AD c1],hxs]
 ·have c1:¬s.p.dE≠0:=λh=>aOf
  repeat (refine ⟨AI,?_⟩)
  refine ⟨⟨hB,rfl,rfl⟩,?_⟩
  repeat (refine ⟨AI,?_⟩)
  show _=_
  unfold Xj;rw [show PK.AK s.p=_ by unfold PK.AK;rw [AE hu,AE c1],aow]
  unfold L8 PK.GA;rw [hxs]
def Te:Dk prog AU 46 Pa.m:=D4.sound (D:=Pa) (t:=iy) (gk X8) aqQ aT9.h agt λs hE=>⟨axx s hE⟩
def FE {α:Type}(f:aD->α->α):aD->α->aD->α
 |_,s,0=>s
 |i,s,n+1=>FE f (i+1) (f i s) n
def aIv {α:Type}{f:aD->α->α}:∀ {n i:aD}{s:α},FE f i s (n+1)=f (i+n) (FE f i s n)
 |0,_,_=>rfl
 |n+1,i,s=>by
  rw [FE,aIv (n:=n) (i:=i+1),show i+1+n=i+(n+1) by omega]
  rfl
def XU {α:Type}{f:aD->α->α}{F:aD->α}(h:∀k,F (k+1)=f k (F k)):∀n,FE f 0 (F 0) n=F n
 |0=>rfl
 |n+1=>by rw [aIv,XU h n,h,F5]
def MQ {α:Type}{f:aD->α->α}{s:α}{i n:Y}(h0:0<=i) (h:i<n):FE f i.toNat s (n-i).toNat=FE f (i+1).toNat (f i.toNat s) (n-(i+1)).toNat:=by
 rw [show (n-i).toNat=(n-(i+1)).toNat+1 by omega,FE,show (i+1).toNat=i.toNat+1 by omega]
def qN {α:Type}{f:aD->α->α}{s:α}{i n:Y}(h:n<=i):FE f i.toNat s (n-i).toNat=s:=by
 rw [show (n-i).toNat=0 by omega]
 rfl
def aIu {α:Type}{f:aD->List α->List α}(h:∀k s,M (f k s)=M s):∀ {n i:aD}{s:List α},M (FE f i s n)=M s
 |0,_,_=>rfl
 |n+1,i,s=>(aIu h (n:=n) (i:=i+1)).trans<|h i s
def tk1 (gs:aG) (i:Y) (_:aD) (st:bg):bg:=CU gs st i 8 0 0
def axi {gs:aG}{st:bg}{i:Y}:∀n,FE (tk1 gs i) 0 st n=L7 gs st i n:=XU (F:=L7 gs st i) λ_=>rfl
def cnt1 (gs:aG) (dr:aC) (t:Y) (k:aD) (st:bg):bg:=if H8 t (gi dr k)=0/\H8 (t+1) (gi dr k)=0 then L7 gs st k (Bg (t+1) (gi dr k)-Bg t (gi dr k)).toNat else st
def ai1 {gs:aG}{dr:aC}{t:Y}{st:bg}:∀n,FE (cnt1 gs dr t) 0 st n=JT gs dr t st n:=XU (F:=JT gs dr t st) λ_=>rfl
def amJ {gs:aG}{ca:aVx}{s:DW}:∀n,FE (λk d=>Fe gs ca d (k:Y)) 0 s n=DR gs ca s n:=XU (F:=DR gs ca s) λ_=>rfl
def cM (gs:aG) (tg am:aC) (k:aD) (cs:aL):aL:=if gi tg k>=(Ad cs k).2.2.1 then cs else
  if (aq (M am=M gs)&&DA (cs.set k<|GW (Ad cs k)<|gi tg k) gs am)=U then cs.set k (GW (Ad cs k)<|gi tg k) else cs
def aos {gs:aG}{tg am:aC}{cs:aL}:∀n,FE (cM gs tg am) 0 cs n=Cl gs tg am cs n:=XU (F:=Cl gs tg am cs) λ_=>rfl
def aTn {c:Ca}{m:Mi}{p al:Y}:0<=Ee c m p al/\Ee c m p al<=7:=by
 unfold Ee;split
 ·rename_i hB
  obtain ⟨hc,_,h1,h2,_⟩:=fQ.1 hB
  have hc':=WU.1 hc
  unfold HV;split
  ·omega
  ·exact aDo ⟨A0,A0⟩ ⟨h1,h2⟩
 ·omega
def aa5 {c:Ca}{m:Mi}{p al:Y}:IntKind.u64.wrap (Ee c m p al)=Ee c m p al:=by
 have:=aTn (c:=c) (m:=m) (p:=p) (al:=al)
 exact aO3
variable {gs : List Ch} {ca : List Ca} {st : List St} {mi : List Mi} {me : List Me} {dw : List Int} {i : Int}
def amM (h:(Be ca i).2.2.1=0):Fe gs ca ⟨st,mi,me,dw⟩ i=⟨st,mi,me,dw⟩:=AD h
def amK (h:¬(Be ca i).2.2.1=0) (h2:¬Jb (Be ca i) (CE mi i) (AG gs i).2.2.1 (Bj (AG gs i)<|BL st i)=0):Fe gs ca ⟨st,mi,me,dw⟩ i=⟨st,mi,me,dw⟩:=by
 unfold Fe
 grind
def Uf (h:¬(Be ca i).2.2.1=0) (h2:Jb (Be ca i) (CE mi i) (AG gs i).2.2.1 (Bj (AG gs i)<|BL st i)=0):
  Fe gs ca ⟨st,mi,me,dw⟩ i=⟨if Fc (Be ca i) (CE mi i) (AG gs i).2.2.1 (Bj (AG gs i)<|BL st i)>Bj (AG gs i) (BL st i) then CU gs st i 6 2 0 else st,mi.set i.toNat<|Jl (Be ca i) (CE mi i) (AG gs i).2.2.1<|Bj (AG gs i)<|BL st i,
   if G8 (Ga me i) (Fc (Be ca i) (CE mi i) (AG gs i).2.2.1<|Bj (AG gs i)<|BL st i) (cnt<|Ee (Be ca i) (CE mi i) (AG gs i).2.2.1<|Bj (AG gs i)<|BL st i)=0 then me.set i.toNat (He (Ga me i) (Fc (Be ca i) (CE mi i) (AG gs i).2.2.1<|Bj (AG gs i)<|BL st i)<|cnt<|Ee (Be ca i) (CE mi i) (AG gs i).2.2.1<|Bj (AG gs i)<|BL st i) else me,dw.set i.toNat<|Fc (Be ca i) (CE mi i) (AG gs i).2.2.1<|Bj (AG gs i)<|BL st i⟩:=by
 unfold Fe
 grind
def abD (t d:Y):0<=Bg t d/\Bg t d<=2000000:=by
 unfold Bg;split
 ·rename_i h
  simp only [AV,BO] at h
  have h1:0<=t*(1000000+d):=Iv A0 A0
  have h2:t*(1000000+d)<=1000000*2000000:=Int.mul_le_mul A0 A0 A0 A0
  omega
 ·omega
end Go.Proofs.YtepoohnehmfflaaGreatDoor
namespace Go.Proofs.YtepoohnehmfflaaGreatDoor
set_option maxRecDepth 100000
set_option maxHeartbeats 4000000
open Go.Proofs.Tryz
open Go.Sx
def aKv:aE->T LV
 | [.v (ah J r),.v (ah J m)]=> .req ((0<=r/\r<=2000000)/\0<=m/\m<=3000000) (.ok<|.v<|ah J<|m*r / 1000000)
 |_=> .no
def amP:aO:=[]
def awZ:=vo (S:=aKv) func108 amP kN (λargs lv h=>by
 unfold aKv at h;split at h
 ·rename_i r m
  refine Au (.req ((1000000:Y)≠0)<|.ok<|AA<|(AA<|m*r).tdiv 1000000) ?_;obtain ⟨⟨⟨h1,h2⟩,h3,h4⟩,rfl⟩:=h
  have hm:0<=m*r/\m*r<=6000000000000:=⟨Iv h3 h1,HI (QH h2 h3) A0⟩
  refine ⟨A0,B0 (λz=>LV.v<|ah J z) ?_⟩
  rw [AJ (x:=m*r),IN hm.1];exact AJ
 ·cases h)
def aUh:aE->T LV
 | [.v (ah J t),.v (ah J d)]=> .tu #[Bg t d,H8 t d]
 |_=> .no
def ahV:aO:=[aPj,awZ]
def XW:=vo (S:=aUh) func77 ahV kN (λargs lv h=>by
 unfold aUh at h;split at h
 ·rename_i t d
  refine Au (letI a:=AA<|1000000+d;.br ((!(inB t 0 1000000)) ||((aq<|d<(-200)) ||(aq<|d>200))) (.tu #[(0:Y),(1:Y)])<|.req ((0<=a/\a<=2000000)/\0<=t/\t<=3000000)<|.tu #[ah J<|t*a / 1000000,(0:Y)]) ?_;obtain rfl:=h;unfold Bg H8;refine ⟨λc=>?_,λc=>?_⟩
  ·have:(inB t 0 1000000&&inB d (-200) 200)=false:=by
    cases ht:inB t 0 1000000
    ·rfl
    ·simp [ht] at c;simp [inB];omega
   rw [this];rfl
  ·have hh:inB t 0 1000000=U/\-200<=d/\d<=200:=by
    cases ht:inB t 0 1000000
    ·grind
    ·grind
   have:(inB t 0 1000000&&inB d (-200) 200)=true:=by rw [hh.1];simp [inB];omega
   have ht:=BO.1 hh.1
   rw [this,AJ (x:=1000000+d)];exact ⟨⟨⟨A0,A0⟩,A0,A0⟩,rfl⟩
 ·cases h)
def aLQ:aE->T LV
 | [.v (ah .u64 n)]=> .req (0<=n/\n<=7) (.ok<|cnt n)
 |_=> .no
def apk:Bu prog AU (DU []) (inl prog AU (DU []) (EM prog AU (DU []) 20 2) 9) Ap f81 [.v<|ah .u64 0]=.ok (cnt 0):=AX
def apj:Bu prog AU (DU []) (inl prog AU (DU []) (EM prog AU (DU []) 20 2) 9) Ap f81 [.v<|ah .u64 1]=.ok (cnt 1):=AX
def aph:Bu prog AU (DU []) (inl prog AU (DU []) (EM prog AU (DU []) 20 2) 9) Ap f81 [.v<|ah .u64 2]=.ok (cnt 2):=AX
def apg:Bu prog AU (DU []) (inl prog AU (DU []) (EM prog AU (DU []) 20 2) 9) Ap f81 [.v<|ah .u64 3]=.ok (cnt 3):=AX
def apf:Bu prog AU (DU []) (inl prog AU (DU []) (EM prog AU (DU []) 20 2) 9) Ap f81 [.v<|ah .u64 4]=.ok (cnt 4):=AX
def ape:Bu prog AU (DU []) (inl prog AU (DU []) (EM prog AU (DU []) 20 2) 9) Ap f81 [.v<|ah .u64 5]=.ok (cnt 5):=AX
def apd:Bu prog AU (DU []) (inl prog AU (DU []) (EM prog AU (DU []) 20 2) 9) Ap f81 [.v<|ah .u64 6]=.ok (cnt 6):=AX
def apc:Bu prog AU (DU []) (inl prog AU (DU []) (EM prog AU (DU []) 20 2) 9) Ap f81 [.v<|ah .u64 7]=.ok (cnt 7):=AX
def atn {n:Y}(h1:0<=n) (h2:n<=7):Bu prog AU (DU []) (inl prog AU (DU []) (EM prog AU (DU []) 20 2) 9) Ap f81 [.v<|ah .u64 n]=.ok (cnt n):=by
 rcases eight h1 h2 with e|e|e|e|e|e|e|e
 ·rw [e];exact apk
 ·rw [e];exact apj
 ·rw [e];exact aph
 ·rw [e];exact apg
 ·rw [e];exact apf
 ·rw [e];exact ape
 ·rw [e];exact apd
 ·rw [e];exact apc
def Wm:VV 81 (uS f81 aLQ):=po func81 rfl (qU (l:=[]) trivial) (aE8 (qU (l:=[]) trivial) (Hz<|qU (l:=[]) trivial) 9) (qn AX) (λargs lv h=>by
 unfold aLQ at h;split at h
 ·rename_i n
  simp only [canL,canX];rw [atn h.1.1 h.1.2];exact h.2
 ·cases h)
def Nw:aO:=[]
def awF:aE->T LV:=λl=>Bu prog AU Nw kN Ap f157<|canL l
def awo:=vo (S:=awF) func157 Nw kN (λargs lv h=>by
 refine ⟨?_⟩
 assumption)
def awG:aE->T LV:=λl=>Bu prog AU Nw kN Ap f198<|canL l
def awJ:=vo (S:=awG) func198 Nw kN (λargs lv h=>by
 refine ⟨?_⟩
 assumption)
def ajI:aE->T LV:=λl=>Bu prog AU Nw kN Ap f196<|canL l
def ab1:=vo (S:=ajI) func196 Nw kN (λargs lv h=>by
 refine ⟨?_⟩
 assumption)
def abf:aO:=[awJ]
def ajH:aE->T LV:=λl=>Bu prog AU (abf) kN Ap f197<|canL l
def aas:=vo (S:=ajH) func197 abf kN (λargs lv h=>by
 refine ⟨?_⟩
 assumption)
def ajG:aE->T LV:=λl=>Bu prog AU Nw kN Ap f199<|canL l
def aar:=vo (S:=ajG) func199 Nw kN (λargs lv h=>by
 refine ⟨?_⟩
 assumption)
def ajF:aE->T LV:=λl=>Bu prog AU Nw kN Ap f200<|canL l
def aaq:=vo (S:=ajF) func200 Nw kN (λargs lv h=>by
 refine ⟨?_⟩
 assumption)
def abe:aO:=[ab1,aas,aar,aaq]
def awE:aE->T LV:=λl=>Bu prog AU (abe) kN Ap f158<|canL l
def awi:=vo (S:=awE) func158 abe kN (λargs lv h=>by
 refine ⟨?_⟩
 assumption)
def aKO:aE->T LV
 | [.xq 8 q0,.v (ah J p2),.v (ah J al)]=>(match ([q0 0,q0 1,q0 2,q0 3,q0 4,q0 5,q0 6,q0 7]:aE) with
  | [.v (ah J k),.v (ah J ph),.v (ah J mx),.v (ah J nd),.v (ah J dl),.xl (.int J) pil,.v (ah J tk),.v (ah J got)]=> .req (GF (k,ph,mx,nd,dl)=U/\IJ (pil,tk,got)=U/\1<=p2/\p2<=7/\0<=al) (.tu #[Et (k,ph,mx,nd,dl) (pil,tk,got) p2 al,HV (k,ph,mx,nd,dl) (pil,tk,got) p2 al])
  |_=> .no)
 |_=> .no
def abd:aO:=[awo,awi,ab1,aas,aar,aaq]
def atz (k ph mx nd dl:Y) (pil:aC) (tk got p2 al:Y):letI a:=Bm J ph p2;letI c:=AA<|0-a;letI d:=(AA<|(M pil:Y)-dl);letI b:=gi pil d;Bu prog AU (abd) kN Ap f112 [xQ 8 [k,ph,mx,nd,dl,.xl A7 pil,tk,got],p2,al]=.br (((if k==2 then Bm J a c else Bm J ph p2)==0) ||(aq<|got>=nd)) (.tu #[(0:Y),(0:Y)]) (.br (k==(0:Y)) (.br ((if al<mx then al else mx)==0) (.tu #[(0:Y),(0:Y)])<|.tu #[ah J (if al<mx then al else mx),ah J (if k==2 then Bm J a c else Bm J ph p2)])<|.br (k==(2:Y)) (.br ((if al<mx then al else mx)==0) (.tu #[(0:Y),(0:Y)])<|.tu #[ah J (if al<mx then al else mx),ah J (if k==2 then Bm J a c else Bm J ph p2)])<|.br (k==(1:Y)) (.br (dl==0) (.br ((if al<mx then al else mx)==0) (.tu #[(0:Y),(0:Y)])<|.tu #[ah J (if al<mx then al else mx),ah J (if k==2 then Bm J a c else Bm J ph p2)])<|.br (aq<|d>=0) (.ix d (M pil)<|.br ((if (if b<al then b else al)<mx then if b<al then b else al else mx)==0) (.tu #[(0:Y),(0:Y)])<|.tu #[ah J (if (if b<al then b else al)<mx then if b<al then b else al else mx),ah J (if k==2 then Bm J a c else Bm J ph p2)])<|.br ((if (if (0:Y)<al then 0 else al)<mx then if (0:Y)<al then 0 else al else mx)==0) (.tu #[(0:Y),(0:Y)])<|.tu #[ah J (if (if (0:Y)<al then 0 else al)<mx then if (0:Y)<al then 0 else al else mx),ah J (if k==2 then Bm J a c else Bm J ph p2)])<|.br (k==(3:Y)) (.req (dl≠0)<|.req ((2:Y)≠0)<|.br (((AA<|tk.tdiv dl).tmod 2)==1) (.br ((if (0:Y)<mx then 0 else mx)==0) (.tu #[(0:Y),(0:Y)])<|.tu #[ah J (if (0:Y)<mx then 0 else mx),ah J (if k==2 then Bm J a c else Bm J ph p2)])<|.br ((if al<mx then al else mx)==0) (.tu #[(0:Y),(0:Y)])<|.tu #[ah J (if al<mx then al else mx),ah J (if k==2 then Bm J a c else Bm J ph p2)])<|.br (k==(4:Y)) (.br (al==0) (.br ((if (0:Y)<mx then 0 else mx)==0) (.tu #[(0:Y),(0:Y)])<|.tu #[ah J (if (0:Y)<mx then 0 else mx),ah J (if k==2 then Bm J a c else Bm J ph p2)])<|.br ((if mx<mx then mx else mx)==0) (.tu #[(0:Y),(0:Y)])<|.tu #[ah J (if mx<mx then mx else mx),ah J (if k==2 then Bm J a c else Bm J ph p2)])<|.no /-call of v -/):=AX
def awI := vo (S:=aKO) func112 abd kN (λargs lv h=>by
 refine ⟨?_⟩;unfold aKO at h;split at h
 ·split at h
  case h_2=>cases h
  rename_i heq0;simp only [canL,canX];rw [E4 (n:=8) heq0];simp only [canL,canX];rw [atz];rename_i p2 al _ k ph mx nd dl pil tk got;obtain ⟨⟨hc,hm,hp1,hp2,hal⟩,rfl⟩:=h
  have hc:=WU.1 hc
  have hm:=eZ.1 hm
  simp only at hc hm
  have hl:=aEy (a:=ph) (b:=p2) ⟨A0,A0⟩ ⟨A0,A0⟩
  have e0:(if (k==2)=U then Bm J (Bm J ph p2) (AA<|0-Bm J ph p2) else Bm J ph p2)=L3 k ph p2:=by
   have hw:AA (0-Bm J ph p2)=-land ph p2:=by
    have:Bm J ph p2=land ph p2:=rfl
    rw [this,AJ];omega
   rw [hw];unfold L3 land;simp only [Cy]
  have ew:AA ((M pil:Y)-dl)=(M pil:Y)-dl:=AJ
  have et:AA (tk.tdiv dl)=tk.tdiv dl:=by
   rw [IN A0]
   have h1:0<=tk / dl:=Sa A0 A0
   have h2:tk / dl<=tk:=VD _ A0
   exact AJ
  have hz:(L3 k ph p2=0\/nd<=got)->Et (k,ph,mx,nd,dl) (pil,tk,got) p2 al=0:=λh=>by unfold Et;rw [AD h]
  have hn:¬(L3 k ph p2=0\/nd<=got)->Et (k,ph,mx,nd,dl) (pil,tk,got) p2 al=min mx (Gy (k,ph,mx,nd,dl) (pil,tk,got) al):=λh=>by unfold Et;rw [AE h]
  have w0:k≠1->k≠3->k≠4->Gy (k,ph,mx,nd,dl) (pil,tk,got) al=al:=λh1 h2 h3=>by simp [Gy,h1,h2,h3]
  have w1a:k=1->dl=0->Gy (k,ph,mx,nd,dl) (pil,tk,got) al=al:=λh1 h2=>cG
  have w1b:k=1->dl≠0->0<=(M pil:Y)-dl->Gy (k,ph,mx,nd,dl) (pil,tk,got) al=min al (gi pil<|(M pil:Y)-dl):=λh1 h2 h3=>by
   simp only [Gy,h1,h2,Bo,FN,cd,MF];rw [AD h3];rfl
  have w1c:k=1->dl≠0->(M pil:Y)-dl<0->Gy (k,ph,mx,nd,dl) (pil,tk,got) al=min al 0:=λh1 h2 h3=>by
   simp only [Gy,h1,h2,Bo,FN,cd,MF];rw [AE A0]
  have w3a:k=3->(tk.tdiv dl).tmod 2=1->Gy (k,ph,mx,nd,dl) (pil,tk,got) al=0:=λh1 h2=>cG
  have w3b:k=3->¬(tk.tdiv dl).tmod 2=1->Gy (k,ph,mx,nd,dl) (pil,tk,got) al=al:=λh1 h2=>cG
  have w4a:k=4->al=0->Gy (k,ph,mx,nd,dl) (pil,tk,got) al=0:=λh1 h2=>cG
  have w4b:k=4->al≠0->Gy (k,ph,mx,nd,dl) (pil,tk,got) al=mx:=λh1 h2=>cG
  have ho1:Et (k,ph,mx,nd,dl) (pil,tk,got) p2 al=0->HV (k,ph,mx,nd,dl) (pil,tk,got) p2 al=0:=λh=>by unfold HV;rw [AD h]
  have ho2:Et (k,ph,mx,nd,dl) (pil,tk,got) p2 al≠0->HV (k,ph,mx,nd,dl) (pil,tk,got) p2 al=L3 k ph p2:=λh=>by unfold HV;rw [AE h]
  have fin:∀a o:Y,a=Et (k,ph,mx,nd,dl) (pil,tk,got) p2 al->o=HV (k,ph,mx,nd,dl) (pil,tk,got) p2 al->LV.v (.tuple #[ah J a,ah J o])=LV.v (.tuple #[ah J<|Et (k,ph,mx,nd,dl) (pil,tk,got) p2 al,ah J<|HV (k,ph,mx,nd,dl) (pil,tk,got) p2 al]):=λa o h1 h2=>zh
  simp only [e0,ew,et]
  clear e0 ew hl et
  generalize Et (k,ph,mx,nd,dl) (pil,tk,got) p2 al=qA at*;generalize HV (k,ph,mx,nd,dl) (pil,tk,got) p2 al=qO at*;generalize Gy (k,ph,mx,nd,dl) (pil,tk,got) al=qw at*;generalize L3 k ph p2=qc at*;generalize gi pil ((M pil:Y)-dl)=qg at*;refine ⟨λc1=>?_,λc1=>?_⟩
  ·simp only [Cy,CV,ne_eq,Cc,HF,Aa,DB,MF,QK] at*
   refine fin _ _ ?_ ?_<;>(clear fin w0 w1a w1b w1c w3a w3b w4a w4b;omega)
  ·refine ⟨λc2=>?_,λc2=>?_⟩
   ·refine ⟨λc3=>?_,λc3=>?_⟩
    ·exact nD
    ·exact nD
   ·refine ⟨λc3=>?_,λc3=>?_⟩
    ·refine ⟨λc4=>?_,λc4=>?_⟩
     ·exact nD
     ·exact nD
    ·refine ⟨λc4=>?_,λc4=>?_⟩
     ·refine ⟨λc5=>?_,λc5=>?_⟩
      ·refine ⟨λc6=>?_,λc6=>?_⟩
       ·exact mW
       ·exact mW
      ·refine ⟨λc6=>?_,λc6=>?_⟩
       ·refine ⟨?_,?_⟩
        ·simp only [Cy,CV,ne_eq,Cc,HF,Aa,DB,MF,QK] at*
         (first|decide|(clear fin w0 w3a w3b w4a w4b;omega))
        ·exact aO5
       ·exact aO5
     ·refine ⟨λc5=>?_,λc5=>?_⟩
      ·refine ⟨?_,?_⟩
       ·exact aMj
       ·refine ⟨?_,?_⟩
        ·exact aMj
        ·refine ⟨λc6=>?_,λc6=>?_⟩
         ·exact aO6
         ·exact aO6
      ·refine ⟨λc6=>?_,λc6=>?_⟩
       ·refine ⟨λc7=>?_,λc7=>?_⟩
        ·exact aO7
        ·exact aO7
       ·exfalso
        simp only [Cy,CV,ne_eq,Cc,HF,Aa,DB,MF,QK] at*
        clear fin hz hn ho1 ho2 w0 w1a w1b w1c w3a w3b w4a w4b
        omega
 ·cases h)
def aL4:aE->T LV
 | [.xq 8 q0,.v (ah J al),.v (ah J am),.v (ah J on)]=>(match ([q0 0,q0 1,q0 2,q0 3,q0 4,q0 5,q0 6,q0 7]:aE) with
  | [.v (ah J k),.v (ah J ph),.v (ah J mx),.v (ah J nd),.v (ah J dl),.xl (.int J) pil,.v (ah J tk),.v (ah J got)]=> .req (IJ (pil,tk,got)=U/\0<=am/\am<=80/\0<=on/\on<=7) (.ok<|.agg [.xl A7<|dwP pil al,.v<|ah J<|tk+1,.v<|ah J<|got+2300*am*cnt on])
  |_=> .no)
 |_=> .no
def abb:aO:=[Wm]
def atx (k ph mx nd dl:Y) (pil:aC) (tk got al am on:Y):letI a:=(AA<|(((0:Y).toNat+M pil+M ([al]):aD):Y)-21);letI b:=(au (0:Y).toNat (0:Y));letI c:=IntKind.u64.wrap on;letI d:=(AA<|(M pil:Y)+1);letI e:=(b++pil)++([al]);letI f:=AA<|got+(AA<|(AA<|2300*am)*(cnt c));Bu prog AU (abb) kN Ap f113 [xQ 8 [k,ph,mx,nd,dl,.xl A7 pil,tk,got],al,am,on]=.req (0<=(0:Y)/\(0:Y)<=d/\8*d<=2^48/\d<2^63) (.ra (0:Y).toNat (M b) ((0:Y).toNat+M pil) 8<|.ra ((0:Y).toNat+M pil) (M<|b++pil) ((0:Y).toNat+M pil+M ([al])) 8<|.br (aq<|(((0:Y).toNat+M pil+M ([al]):aD):Y)>21) (.req (0<=a/\a<=(((0:Y).toNat+M pil+M ([al]):aD):Y)/\(((0:Y).toNat+M pil+M ([al]):aD):Y)<=(((0:Y).toNat+M pil+M ([al]):aD):Y))<|.req (0<=c/\c<=7)<|.req ((0+a.toNat)+((((0:Y).toNat+M pil+M ([al]):aD):Y).toNat-a.toNat)<=M e)<|.ok<|.agg [.xl A7<|(e.drop<|0+a.toNat).take<|(((0:Y).toNat+M pil+M ([al]):aD):Y).toNat-a.toNat,AA<|tk+1,f])<|.req (0<=c/\c<=7)<|.req (0+((0:Y).toNat+M pil+M ([al]))<=M e)<|.ok<|.agg [.xl A7<|(e.drop 0).take<|(0:Y).toNat+M pil+M ([al]),AA<|tk+1,f]):=AX
def awk :=vo (S:=aL4) func113 abb kN (λargs lv h=>by
 refine ⟨?_⟩;unfold aL4 at h;split at h
 ·split at h
  case h_2=>cases h
  rename_i heq0;simp only [canL,canX];rw [E4 (n:=8) heq0];simp only [canL,canX];rw [atx];rename_i al am on _ k ph mx nd dl pil tk got;obtain ⟨⟨hm,ha1,ha2,ho1,ho2⟩,rfl⟩:=h
  have hm:=eZ.1 hm
  simp only at hm
  have hu:IntKind.u64.wrap on=on:=by simp [IntKind.wrap,IntKind.bits,IntKind.signed];omega
  have ht:AA (tk+1)=tk+1:=AJ
  have hcn:0<=cnt on/\cnt on<=3:=by unfold cnt;omega
  have hg:AA (got+AA (AA (2300*am)*cnt on))=got+2300*am*cnt on:=by
   rw [AJ (x:=2300*am)]
   have:cnt on=0\/cnt on=1\/cnt on=2\/cnt on=3:=A0
   rcases this with e|e|e|e<;>rw [e,AJ (x:=2300*am*_),AJ]
  have h0:(0:Y).toNat=0:=rfl
  have hw1:AA ((M pil:Y)+1)=(M pil:Y)+1:=AJ
  have hw2:AA (((M pil+1:aD):Y)-21)=(M pil:Y)-20:=by rw [AJ];omega
  have fin:∀(p:aC),p=dwP pil al->LV.agg [.xl A7 p,.v<|ah J<|tk+1,.v<|ah J<|got+2300*am*cnt on]=LV.agg [.xl A7<|dwP pil al,.v<|ah J<|tk+1,.v<|ah J<|got+2300*am*cnt on]:=λp h=>Vg
  simp only [h0,List.replicate_zero,EG,B8,BY,Bh,F5,hu,ht,hg,hw1,hw2];refine ⟨?_,?_⟩
  ·(try simp only [Aa,DB] at c1);first|omega|(simp;done) |(simp;omega)
  ·refine ⟨?_,?_⟩
   ·(try simp only [Aa,DB] at c1);first|omega|(simp;done) |(simp;omega)
   ·refine ⟨?_,?_⟩
    ·(try simp only [Aa,DB] at c1);first|omega|(simp;done) |(simp;omega)
    ·refine ⟨λc1=>?_,λc1=>?_⟩
     ·refine ⟨?_,?_⟩
      ·(try simp only [Aa,DB] at c1);first|omega|(simp;done) |(simp;omega)
      ·refine ⟨?_,?_⟩
       ·(try simp only [Aa,DB] at c1);first|omega|(simp;done) |(simp;omega)
       ·refine ⟨?_,?_⟩
        ·(try simp only [Aa,DB] at c1);first|omega|(simp;done) |(simp;omega)
        ·refine fin _ ?_
         unfold dwP;simp only [Aa,DB] at c1;rw [show ((M pil:Y)-20).toNat=M pil-20 by omega]
         exact DS (by rw [FL,B8];simp only [BY,Bh];omega)
     ·refine ⟨?_,?_⟩
      ·omega
      ·refine ⟨?_,?_⟩
       ·omega
       ·refine fin _ ?_
        unfold dwP;simp only [Aa,DB] at c1;rw [show M pil-20=0 by omega]
        grind
 ·cases h)
def aUi:aE->T LV
 | [.v (.agg ⟨[ah J k,ah J ph,ah J mx,ah J nd,ah J dl]⟩),.agg [.xl (.int J) pil,.v (ah J tk),.v (ah J got)],.v (ah J p2),.v (ah J al)]=> .ok (.AQ [Fc (k,ph,mx,nd,dl) (pil,tk,got) p2 al,Ee (k,ph,mx,nd,dl) (pil,tk,got) p2 al,.agg [.xl A7 (Jl (k,ph,mx,nd,dl) (pil,tk,got) p2 al).1,(Jl (k,ph,mx,nd,dl) (pil,tk,got) p2 al).2.1,(Jl (k,ph,mx,nd,dl) (pil,tk,got) p2 al).2.2],Jb (k,ph,mx,nd,dl) (pil,tk,got) p2 al])
 |_=> .no
def amQ:aO:=[ab5,ajx,aPr,awI,awk]
def XZ:=vo (S:=aUi) func79 amQ kN (λargs lv h=>by
 unfold aUi at h;split at h
 ·rename_i k ph mx nd dl pil tk got p2 al
  refine Au (letI a:=(k,ph,mx,nd,dl);letI b:=(pil,tk,got);letI c:=Et a b p2 al;letI d:=HV a b p2 al;.br ((!(GF a)) ||((!(IJ b)) ||((!(inB p2 (1:Y) (7:Y))) ||((!(inB al (0:Y) (80:Y))) ||(tk==1000000))))) (.ok<|.AQ [(0:Y),(0:Y),.agg [.xl A7 ([]:aC),(0:Y),(0:Y)],(1:Y)])<|.req (GF a=U/\IJ b=U/\1<=p2/\p2<=7/\0<=al)<|.req (IJ b=U/\0<=c/\c<=80/\0<=d/\d<=7)<|.ok<|.AQ [c,d,.agg [.xl A7<|dwP pil al,.v<|ah J<|tk+1,.v<|ah J<|got+2300*c*cnt d],(0:Y)]) ?_;obtain rfl:=h
  have e:((!(GF (k,ph,mx,nd,dl))) ||((!(IJ (pil,tk,got))) ||((!(inB p2 (1:Y) (7:Y))) ||((!(inB al (0:Y) (80:Y))) ||(tk==1000000)))))=!(dwB (k,ph,mx,nd,dl) (pil,tk,got) p2 al):=by simp [dwB,bne]
  rw [e];unfold Fc Ee Jl Jb;refine ⟨λc1=>?_,λc1=>?_⟩
  ·have hB:dwB (k,ph,mx,nd,dl) (pil,tk,got) p2 al=false:=AY
   rw [hB];rfl
  ·have hB:dwB (k,ph,mx,nd,dl) (pil,tk,got) p2 al=true:=A8
   rw [hB];obtain ⟨hc,hm,h1,h2,h3,h4,h5⟩:=fQ.1 hB;obtain ⟨b1,b2,b3,b4⟩:=aFh hc hm ⟨h1,h2⟩ ⟨h3,h4⟩;exact ⟨⟨hc,hm,h1,h2,h3⟩,⟨hm,b1,by have:=WU.1 hc;omega,b3,b4⟩,rfl⟩
 ·cases h)
structure OG where
 xs:bz
 (n i:Y)
 p:PK
 ev:EW
 left:bz
def U7 (s:OG):T (Rd OG):=letI b:=Fu s.xs s.i;letI c:=s.left++([b]);letI d:=M s.left+M ([b]);letI e:=AA<|s.i+1;letI f:=M s.p.st;letI g:=s.p.st.getD b.2.2.1.toNat<|Ty.dflt B7;letI h:=M<|[b];letI j:=M s.left;letI a:=(s.p.st.set b.2.2.1.toNat<|sN (AG s.p.gs b.2.2.1) g (7:Y) b.2.2.2.1 b.2.2.2.2.2);.br (aq<|s.i<s.n) (.ix s.i (M s.xs)<|.br (aq<|b.1>s.p.tk) (.br U (.rb j h 48<|.re d c<|.pd s.p<|.nx {s with i:=e,left:=c})<|.rl s.left<|.pd s.p<|.nx {s with i:=e})<|.ix b.2.2.1 (M s.p.gs)<|.ik b.2.2.1 f<|.br ((sE (AG s.p.gs b.2.2.1) g (7:Y) b.2.2.2.1 b.2.2.2.2.2)==0) (.ik b.2.2.1 f<|.br X (.rb j h 48<|.re d c<|.rl s.p.cs<|.re f a<|.rl s.p.ca<|.rl s.p.mi<|.rl s.p.me<|.rl s.p.dr<|.rl s.p.tg<|.nx {s with i:=e,p.st:=a,left:=c})<|.rl s.left<|.rl s.p.cs<|.re f a<|.rl s.p.ca<|.rl s.p.mi<|.rl s.p.me<|.rl s.p.dr<|.rl s.p.tg<|.nx {s with i:=e,p.st:=a})<|.br X (.rb j h 48<|.re d c<|.pd s.p<|.nx {s with i:=e,left:=c})<|.rl s.left<|.pd s.p<|.nx {s with i:=e})<|.rl s.left<|.pd s.p<|.so (.exit 0) s
def arr1 (gs:aG) (t:Y) (st:bg) (l:Lk):bg:=if l.1>t then st else CU gs st l.2.2.1 7 l.2.2.2.1 l.2.2.2.2.2
def aSj {l:bz}{i:Y}(h0:0<=i) (h:i<M l):Fu l i∈l/\l.drop i.toNat=Fu l i::l.drop (i+1).toNat:=by
 have e:Fu l i=l[i.toNat]' A0:=by unfold Fu;rw [DK,Dg A0];rfl
 rw [e];exact ⟨Fk _,by rw [SY A0,show (i+1).toNat=i.toNat+1 by omega]⟩
def aFn {gs:aG}{lk:bz}{t:Y}{st:bg}:∀k,k<=M lk->LH gs lk t st k=(lk.take k).foldl (arr1 gs t) st
 |0,_=>rfl
 |k+1,h=>by
  have e:Fu lk (k:Y)=lk[k]' A0:=by unfold Fu;rw [C0,DK,Dg A0];rfl
  rw [LH,aFn k A0,Zc A0,List.foldl_append,<-e];rfl
def m8 (s:OG):Prop:=s.i=0/\s.n=(M s.xs:Y)/\s.n<=20000000/\(M s.left:Y)<=s.i/\(∀l∈s.xs,0<=l.2.2.1/\l.2.2.1<(M s.p.gs:Y))/\M s.p.st=M s.p.gs
def lT (s:OG):Prop:=0<=s.i/\s.i<=s.n/\s.n=(M s.xs:Y)/\s.n<=20000000/\(M s.left:Y)<=s.i/\(∀l∈s.xs,0<=l.2.2.1/\l.2.2.1<(M s.p.gs:Y))/\M s.p.st=M s.p.gs
def qo (s:OG):aD:=(s.n-s.i).toNat
def acn (x:Ex) (s s':OG):Prop:=True
def anU:∀s,m8 s->lT s:=by
 rintro s ⟨h0,h2,h3,h4⟩
 exact ya
def ajW:Da lT qo acn U7:=by
 intro s hI;unfold U7;dsimp only [T.rd,T.rl,T.rv];obtain ⟨h0,h1,h2,h3,h4,h5,h6⟩:=hI;refine AH (λc1=>AH (λc2=>?_) λc2=>AH (λc3=>?_) λc3=>?_) λc1=>trivial
 all_goals have c1:s.i<s.n:=AY
 all_goals rw [AJ (x:=s.i+1)]
 ·exact AH (λ_=>⟨⟨AZ,AZ,h2,h3,A8,h5,h6⟩,yo⟩) λc=>EU
 ·exact AH (λc=>EU) λ_=>⟨⟨AZ,AZ,h2,h3,AZ,h5,A8⟩,yo⟩
 ·exact AH (λc=>EU) λ_=>⟨⟨A8,AZ,h2,h3,AZ,h5,h6⟩,yo⟩
def UR:AS OG:=⟨19,30,[0,1,4,11,12,13],[.nl 4 74 BP],λs=>[.own 16 0,.fn 76 [.own 18 0],.os 19 6 0<|M s.left,s.xs,s.n,s.i],λs=>[AP,AP,zB,AP,bV 81 Ae s.p.cs,AP,AP,AP,bV 91 B7 s.p.st,bV 54 AO s.p.ca,bV 131 BC s.p.mi,bV 94 BU s.p.me,AP,AP,bV 3 A7 s.p.dr,bV 3 A7 s.p.tg,⟨[.os 4 11 0<|M s.p.cs,.xl .str s.p.os,.xl Ak s.p.ks,.xl Af s.p.gs,.xl Al s.p.bs,.v<|ah J s.p.tk,.v<|.bool s.p.up,.xl AO s.p.ls,.v<|ah J s.p.se,.xl (.int ax) s.p.fl,.xl Aq s.p.ra,.v<|ah J s.p.nx,.os 8 4 0<|M s.p.st,.os 9 5 0<|M s.p.ca,.os 10 3 0<|M s.p.mi,.os 11 3 0<|M s.p.me,.xl Ai s.p.dm,.xl BP s.p.lk,.os 14 1 0<|M s.p.dr,.os 15 1 0<|M s.p.tg,.v<|ah J s.ev.ek,.v<|ah J s.ev.en,.v<|ah J s.ev.em,.v<|ah J s.ev.c1,.v<|ah J s.ev.c2,.v<|ah J s.ev.c3,.v<|ah J s.ev.c4,.v<|ah J s.ev.c5,.v<|.bool s.ev.d1,.v<|ah J s.ev.d2,.v<|ah J s.ev.d3,.v<|ah J s.ev.d4,.v<|.slice ak 0 0],103,.cl,X⟩,AP,⟨[.own 16 0],99,.cl,X⟩,bV 74 BP s.left],λv b=>⟨B3 BP v 3,AL v 4,AL v 5,rT b,rG b,Ab BP b 19⟩,U7,λs r=> {s with i:=r.i,p.st:=r.p.st,left:=r.left},λs=>s,λ_ s=>s,[.exit 0],m8,lT,qo⟩
abbrev KX:=UR.run
abbrev auf:=UR.Av
def wH:aO:=[PA,gO,XW,Xa,XZ,XX,Wm,Wo,R6]
def ahb:Az:=IL wH (la 9 func16 Cv<|l0 wH) [⟨46,Pa.m,Te⟩]
def azq:Rq lT U7:=by
 intro s hI;refine ⟨λc1=>⟨?_,λc2=>⟨λc3=>⟨?_,?_,A9,A9,A9,A9,A9,A9,A9,an⟩,λc3=>⟨A9,A9,A9,A9,A9,A9,A9,A9,an⟩⟩,λc2=>⟨?_,?_,?_,λc4=>⟨?_,?_,λc5=>⟨?_,?_,A9,?_,A9,A9,A9,A9,A9,an⟩,λc5=>⟨A9,A9,?_,A9,A9,A9,A9,A9,an⟩⟩,λc4=>⟨λc6=>⟨?_,?_,A9,A9,A9,A9,A9,A9,A9,an⟩,λc6=>⟨A9,A9,A9,A9,A9,A9,A9,A9,an⟩⟩⟩⟩,λc1=>⟨A9,A9,A9,A9,A9,A9,A9,A9,an⟩⟩
 all_goals ((obtain ⟨h0,h1,h2,h3,h4,h5,h6⟩:=hI;simp only [Aa] at c1;have hm:=h5 _ (aSj h0 (show s.i<(M s.xs:Y) by omega)).1;first|omega|exact ⟨rfl,AI⟩ |(simp only [BY,Bh,B8];omega) |(simp only [B8,BY,Bh,Dw];done)))
def aS2:UR.Ok:={}
def aR3:UR.Pf (acn):=⟨anU,λs h=>rfl,ajW,azq⟩
def MU:=s2 (b:=bN f57 0) aS2 aR3 wH ahb
def avz:Rs m8 auf KX (λs:OG=>((s.xs.drop s.i.toNat).foldl (arr1 s.p.gs s.p.tk) s.p.st,s.left++(s.xs.drop s.i.toNat).filter (λl=>aq<|l.1>s.p.tk))) (λx s' (v:List St×List Lk)=>x=.exit 0/\(s'.p.st,s'.left)=v):=DY aS2 aR3 (λs hI=>by
  show DH _ _ ((U7 s).rd s)
  unfold U7;dsimp only [T.rd,T.rl];obtain ⟨h0,h1,h2,h3,h4,h5,h6⟩:=hI;refine AH (λc1=>?_) λc1=>?_
  ·have c1:s.i<s.n:=A8
   have e:=(aSj h0 (show s.i<(M s.xs:Y) by omega)).2
   rw [AJ (x:=s.i+1),e];refine AH (λc2=>?_) λc2=>AH (λc3=>?_) λc3=>?_
   ·refine AH (λ_=>?_) (λc=>EU)
    have c2':=Ct c2
    show (_,_)=(_,_)
    rw [KL,LP,AD c2,show arr1 s.p.gs s.p.tk s.p.st (Fu s.xs s.i)=s.p.st from AD c2',Co];rfl
   ·refine AH (λc=>EU) (λ_=>?_)
    have c2':=KM c2
    rw [KL,LP,AE A8,show arr1 s.p.gs s.p.tk s.p.st (Fu s.xs s.i)=_ from (AE c2').trans<|AD<|eq_of_beq c3];rfl
   ·refine AH (λc=>EU) (λ_=>?_)
    have c2':=KM c2
    show (_,_)=(_,_)
    rw [KL,LP,AE A8,show arr1 s.p.gs s.p.tk s.p.st (Fu s.xs s.i)=_ from (AE c2').trans<|AE<|CV.1 c3]
  ·have c1:s.n<=s.i:=A8
   refine ⟨rfl,?_⟩;rw [Ei A0]
   simp)
structure OE where
 (i on oi m k:Y)
 p:PK
 ev:EW
def aHn:=lN (bN f48 0) 0
def aAx (s:OE):T (Rd OE):=letI b:=s.p.st.getD s.i.toNat<|Ty.dflt B7;letI c:=M s.p.st;letI a:=(s.p.st.set s.i.toNat<|sN (AG s.p.gs s.i) b (8:Y) (0:Y) (0:Y));.br (aq<|s.k<s.m) (.ix s.i (M s.p.gs)<|.ik s.i c<|.br ((sE (AG s.p.gs s.i) b (8:Y) (0:Y) (0:Y))==0) (.ik s.i c<|.rl s.p.dr<|.rl s.p.cs<|.re c a<|.rl s.p.ca<|.rl s.p.mi<|.rl s.p.me<|.rl s.p.dr<|.rl s.p.tg<|.nx {s with k:=AA<|s.k+1,p.st:=a})<|.rl s.p.dr<|.pd s.p<|.nx {s with k:=AA<|s.k+1})<|.rl s.p.dr<|.pd s.p<|.so (.exit 2) s
def ZI (s:OE):Prop:=s.k=0/\(0<=s.i/\s.i<(M s.p.gs:Y))/\M s.p.st=M s.p.gs/\s.m<=4000000
def lR (s:OE):Prop:=0<=s.k/\(0<=s.i/\s.i<(M s.p.gs:Y))/\M s.p.st=M s.p.gs/\s.m<=4000000
def gY (s:OE):aD:=(s.m-s.k).toNat
def aci (x:Ex) (s s':OE):Prop:=True
def anu:∀s,ZI s->lR s:=by
 rintro s ⟨h0,h2⟩
 exact ⟨A0,h2⟩
def ai3:Da lR gY aci aAx:=by
 intro s hI;obtain ⟨h0,h1,h2,h3⟩:=hI;refine AH (λc1=>AH (λc2=>?_) λc2=>?_) λc1=>trivial
 all_goals have c1:s.k<s.m:=A8
 all_goals rw [AJ (x:=s.k+1)]
 ·exact ⟨⟨A8,h1,A8,h3⟩,by simp only [gY];omega⟩
 ·exact ⟨⟨A8,h1,h2,h3⟩,by simp only [gY];omega⟩
def S5:AS OE:=⟨20,57,[0,2,12,13,14,48,49],[],λs=>[.own 16 0,s.i,.os 14 1 0<|M s.p.dr,s.on,s.oi,s.m,s.k],λs=>[AP,AP,zB,AP,bV 81 Ae s.p.cs,AP,AP,AP,bV 91 B7 s.p.st,bV 54 AO s.p.ca,bV 131 BC s.p.mi,bV 94 BU s.p.me,AP,AP,bV 3 A7 s.p.dr,bV 3 A7 s.p.tg,⟨[.os 4 11 0<|M s.p.cs,.xl .str s.p.os,.xl Ak s.p.ks,.xl Af s.p.gs,.xl Al s.p.bs,.v<|ah J s.p.tk,.v<|.bool s.p.up,.xl AO s.p.ls,.v<|ah J s.p.se,.xl (.int ax) s.p.fl,.xl Aq s.p.ra,.v<|ah J s.p.nx,.os 8 4 0<|M s.p.st,.os 9 5 0<|M s.p.ca,.os 10 3 0<|M s.p.mi,.os 11 3 0<|M s.p.me,.xl Ai s.p.dm,.xl BP s.p.lk,.os 14 1 0<|M s.p.dr,.os 15 1 0<|M s.p.tg,.v<|ah J s.ev.ek,.v<|ah J s.ev.en,.v<|ah J s.ev.em,.v<|ah J s.ev.c1,.v<|ah J s.ev.c2,.v<|ah J s.ev.c3,.v<|ah J s.ev.c4,.v<|ah J s.ev.c5,.v<|.bool s.ev.d1,.v<|ah J s.ev.d2,.v<|ah J s.ev.d3,.v<|ah J s.ev.d4,.v<|.slice ak 0 0],103,.cl,X⟩,AP,AP,AP],λv b=>⟨AL v 1,AL v 3,AL v 4,AL v 5,AL v 6,rT b,rG b⟩,aAx,λs r=> {s with k:=r.k,p.st:=r.p.st},λs=>s,λ_ s=>s,[.exit 2],ZI,lR,gY⟩
abbrev Wa:=S5.run
abbrev aud:=S5.Av
def XM:aO:=[PA,gO,XW,Xa,XZ,XX,Wm,Wo,R6]
def vv:Az:=IL XM (la 2 func57 MU<|la 9 func16 Cv<|l0 XM) [⟨46,Pa.m,Te⟩]
def azm:Rq lR aAx:=by
 intro s hI;refine ⟨λc1=>⟨?_,?_,?_,λc2=>⟨?_,?_,A9,A9,?_,A9,A9,A9,A9,A9,an⟩,λc2=>⟨A9,A9,A9,A9,A9,A9,A9,A9,an⟩⟩,λc1=>⟨A9,A9,A9,A9,A9,A9,A9,A9,an⟩⟩
 all_goals ((obtain ⟨h0,h1,h2,h3⟩:=hI;first|omega|exact ⟨rfl,AI⟩))
def aRz:S5.Ok:={}
def aR0:S5.Pf (aci):=⟨anu,λs h=>rfl,ai3,azm⟩
def asc:SA 20 aHn S5:=s2 aRz aR0 XM vv
def aJr:Rs ZI aud Wa (λs:OE=>FE (tk1 s.p.gs s.i) s.k.toNat s.p.st (s.m-s.k).toNat) (λx s' (v:bg)=>x=.exit 2/\s'.p.st=v):=DY aRz aR0 (λs hI=>by
  obtain ⟨h0,h1,h2,h3⟩:=hI;refine AH (λc1=>?_) λc1=>?_
  ·have c1:s.k<s.m:=A8
   rw [AJ (x:=s.k+1),MQ h0 c1];refine AH (λc2=>?_) λc2=>?_
   ·rw [show tk1 s.p.gs s.i s.k.toNat s.p.st=_ from AD<|eq_of_beq c2]
    rfl
   ·rw [show tk1 s.p.gs s.i s.k.toNat s.p.st=_ from AE<|CV.1 c2]
    rfl
  ·have c1:s.m<=s.k:=A8
   exact ⟨rfl,(qN c1).symm⟩)
structure Lx where
 (n i:Y)
 p:PK
 ev:EW
def aHm:=bN f48 0
def NS (s:Lx):OE:=letI a:=s.p.dr.getD s.i.toNat<|Ty.dflt A7;(⟨s.i,s.n,s.i,AA<|(Bg (AA<|s.p.tk+1) a)-(Bg s.p.tk a),0,s.p,s.ev⟩:OE)
def aAw (s:Lx):T (Rd Lx):=letI a:=s.p.dr.getD s.i.toNat<|Ty.dflt A7;.br (aq<|s.i<s.n) (.ik s.i (M s.p.dr)<|.br (((H8 s.p.tk a) !=0) ||((H8 (AA<|s.p.tk+1) a) !=0)) (.rl s.p.dr<|.pd s.p<|.nx {s with i:=AA<|s.i+1})<|.rl s.p.dr<|.pd s.p<|.req (S5.q<|NS s)<|.rl s.p.dr<|.rl s.p.cs<|.rl (Wa<|NS s).p.st<|.rl s.p.ca<|.rl s.p.mi<|.rl s.p.me<|.rl s.p.dr<|.rl s.p.tg<|.nx {s with i:=AA<|s.i+1,p.st:=(Wa<|NS s).p.st})<|.rl s.p.dr<|.pd s.p<|.so (.exit 0) s
def lz (s:Lx):Prop:=s.i=0/\s.n=(M s.p.dr:Y)/\M s.p.dr=M s.p.gs/\s.n<=1000/\M s.p.st=M s.p.gs/\(0<=s.p.tk/\s.p.tk<=1000000)
def Yf (s:Lx):Prop:=0<=s.i/\s.i<=s.n/\s.n=(M s.p.dr:Y)/\M s.p.dr=M s.p.gs/\s.n<=1000/\M s.p.st=M s.p.gs/\(0<=s.p.tk/\s.p.tk<=1000000)
def gX (s:Lx):aD:=(s.n-s.i).toNat
def ach (x:Ex) (s s':Lx):Prop:=True
def ant:∀s,lz s->Yf s:=by
 exact yO
def we {s:Lx}(hI:Yf s) (c1:s.i<s.n):ZI (NS s)/\((H8 s.p.tk (gi s.p.dr s.i.toNat)=0/\H8 (s.p.tk+1) (gi s.p.dr s.i.toNat)=0)->(Wa<|NS s).p.st=cnt1 s.p.gs s.p.dr s.p.tk s.i.toNat s.p.st):=by
 obtain ⟨h0,h1,h2,h3,h4,h6,h7⟩:=hI
 have hg:s.p.dr.getD s.i.toNat (Ty.dflt A7)=gi s.p.dr s.i:=rfl
 have b1:=abD s.p.tk<|gi s.p.dr s.i
 have b2:=abD (s.p.tk+1)<|gi s.p.dr s.i
 have hm:(NS s).m=Bg (s.p.tk+1) (gi s.p.dr s.i)-Bg s.p.tk (gi s.p.dr s.i):=by
  show AA (Bg (AA<|s.p.tk+1) _-Bg s.p.tk _)=_
  rw [hg,AJ (x:=s.p.tk+1),AJ (x:=Bg (s.p.tk+1) _-Bg s.p.tk _)]
 have hE:ZI (NS s):=⟨rfl,⟨h0,by show s.i<(M s.p.gs:Y);omega⟩,h6,A0⟩
 refine ⟨hE,λhc=>?_⟩
 have q:(Wa<|NS s).p.st=FE (tk1 s.p.gs s.i) 0 s.p.st ((NS s).m-0).toNat:=(aJr _ hE).2
 rw [q,hm,QL,axi];unfold cnt1
 grind
def ai2:Da Yf gX ach aAw:=by
 intro s hI;obtain ⟨h0,h1,h2,h3,h4,h6,h7⟩:=id hI;refine AH (λc1=>AH (λc2=>?_) λc2=>?_) λc1=>trivial
 all_goals have c1:s.i<s.n:=AY
 all_goals rw [AJ (x:=s.i+1)]
 ·exact ⟨⟨A8,A8,h2,h3,h4,h6,h7⟩,by simp only [gX];omega⟩
 ·have hl:M (Wa<|NS s).p.st=M s.p.gs:=by
   rw [(aJr _ (we hI c1).1).2];exact (aIu λ_ _=>JC).trans h6
  exact ⟨⟨A8,A8,h2,h3,h4,hl,h7⟩,by simp only [gX];omega⟩
def S4:AS Lx:=⟨20,57,[0,12,13,14],[.pc 16 17 BP,.kb 18,.kb 19],λs=>[.own 16 0,.os 14 1 0<|M s.p.dr,s.n,s.i],λs=>[AP,AP,zB,AP,bV 81 Ae s.p.cs,AP,AP,AP,bV 91 B7 s.p.st,bV 54 AO s.p.ca,bV 131 BC s.p.mi,bV 94 BU s.p.me,AP,AP,bV 3 A7 s.p.dr,bV 3 A7 s.p.tg,⟨[.os 4 11 0<|M s.p.cs,.xl .str s.p.os,.xl Ak s.p.ks,.xl Af s.p.gs,.xl Al s.p.bs,.v<|ah J s.p.tk,.v<|.bool s.p.up,.xl AO s.p.ls,.v<|ah J s.p.se,.xl (.int ax) s.p.fl,.xl Aq s.p.ra,.v<|ah J s.p.nx,.os 8 4 0<|M s.p.st,.os 9 5 0<|M s.p.ca,.os 10 3 0<|M s.p.mi,.os 11 3 0<|M s.p.me,.xl Ai s.p.dm,.xl BP s.p.lk,.os 14 1 0<|M s.p.dr,.os 15 1 0<|M s.p.tg,.v<|ah J s.ev.ek,.v<|ah J s.ev.en,.v<|ah J s.ev.em,.v<|ah J s.ev.c1,.v<|ah J s.ev.c2,.v<|ah J s.ev.c3,.v<|ah J s.ev.c4,.v<|ah J s.ev.c5,.v<|.bool s.ev.d1,.v<|ah J s.ev.d2,.v<|ah J s.ev.d3,.v<|ah J s.ev.d4,.v<|.slice ak 0 0],103,.cl,X⟩,AP,AP,AP],λv b=>⟨AL v 2,AL v 3,rT b,rG b⟩,aAw,λs r=> {s with i:=r.i,p.st:=r.p.st},λs=>s,λ_ s=>s,[.exit 0],lz,Yf,gX⟩
abbrev fU:=S4.run
abbrev auc:=S4.Av
def azl:Rq Yf aAw:=by
 intro s hI;refine ⟨λc1=>⟨?_,?_,λc2=>⟨A9,A9,A9,A9,A9,A9,A9,A9,an⟩,λc2=>⟨A9,A9,A9,A9,A9,A9,A9,A9,?_,A9,A9,A9,A9,A9,A9,A9,A9,an⟩⟩,λc1=>⟨A9,A9,A9,A9,A9,A9,A9,A9,an⟩⟩
 all_goals ((obtain ⟨h0,h1,h2,h3,h4,h6,h7⟩:=id hI;simp only [Aa] at c1;first|omega|exact ⟨(we hI c1).1,rfl,rfl⟩))
def aRy:S4.Ok:={}
def aQz:S4.Pf (ach):=⟨ant,λs h=>rfl,ai2,azl⟩
def NX:SA 20 aHm S4:=AS.snd aRy aQz (Gj (Γ:=XM) (K:=vv) (L:=(M0 (λi=>if i=7 then S5.lp else Ap i))) (gk XM) vv.h aHm (λb hb=>by
 rw [show BD _=[aHn] by kernel_rfl] at hb
 simp only [B9,Bx,By] at hb;subst hb;exact asc)) λs=>AX
def avV:Rs lz auc fU (λs:Lx=>FE (cnt1 s.p.gs s.p.dr s.p.tk) s.i.toNat s.p.st (s.n-s.i).toNat) (λx s' (v:bg)=>x=.exit 0/\s'.p.st=v):=DY aRy aQz (λs hI=>by
  obtain ⟨h0,h1,h2,h3,h4,h6,h7⟩:=id hI;refine AH (λc1=>?_) λc1=>?_
  ·have c1:s.i<s.n:=A8
   have hg:s.p.dr.getD s.i.toNat (Ty.dflt A7)=gi s.p.dr s.i.toNat:=LY
   rw [AJ (x:=s.i+1),AJ (x:=s.p.tk+1),hg,MQ h0 c1];refine AH (λc2=>?_) λc2=>?_
   ·rw [show cnt1 s.p.gs s.p.dr s.p.tk s.i.toNat s.p.st=s.p.st from AE λh=>A8]
    rfl
   ·have c2:H8 s.p.tk (gi s.p.dr s.i.toNat)=0/\H8 (s.p.tk+1) (gi s.p.dr s.i.toNat)=0:=A8
    rw [<-(we hI c1).2 c2];rfl
  ·have c1:s.n<=s.i:=A8
   exact ⟨rfl,(qN c1).symm⟩)
structure Lu where
 gl:aG
 (n i:Y)
 p:PK
 ev:EW
 dw:aC
def hM (s:Lu) (e:Y) (o:Y) (ce:Y) (a:Y) (al:Y) (se:Y) (sn:St) (m:Mi) (cn:Me):T (Rd Lu):=letI b:=s.p.mi.set s.i.toNat m;letI c:=s.dw.set s.i.toNat a;letI d:=s.p.me.set s.i.toNat cn;letI f:=M s.p.mi;letI g:=M s.p.st;letI h:=AA<|s.i+1;letI j:=s.p.st.set s.i.toNat sn;letI k:=M s.dw;letI l:=M s.p.me;.br (aq<|s.i<s.n) (.ix s.i (M s.gl)<|.ik s.i (M s.p.ca)<|.br (!((s.p.ca.getD s.i.toNat<|Ty.dflt AO).2.2.1 !=0)) (.pd s.p<|.rl s.dw<|.nx {s with i:=h})<|.ik s.i g<|.ik s.i (M s.p.ca)<|.ik s.i f<|.br (e !=0) (.pd s.p<|.rl s.dw<|.nx {s with i:=h})<|.ik s.i k<|.ik s.i f<|.ik s.i l<|.req (0<=(IntKind.u64.wrap o)/\(IntKind.u64.wrap o)<=7)<|.br (ce==0) (.ik s.i l<|.br (aq<|a>al) (.ix s.i (M s.p.gs)<|.ik s.i g<|.br (se==0) (.ik s.i g<|.rl s.p.cs<|.re g j<|.rl s.p.ca<|.re f b<|.re l d<|.rl s.p.dr<|.rl s.p.tg<|.re k c<|.nx {s with i:=h,p.st:=j,p.mi:=b,p.me:=d,dw:=c})<|.rl s.p.cs<|.rl s.p.st<|.rl s.p.ca<|.re f b<|.re l d<|.rl s.p.dr<|.rl s.p.tg<|.re k c<|.nx {s with i:=h,p.mi:=b,p.me:=d,dw:=c})<|.rl s.p.cs<|.rl s.p.st<|.rl s.p.ca<|.re f b<|.re l d<|.rl s.p.dr<|.rl s.p.tg<|.re k c<|.nx {s with i:=h,p.mi:=b,p.me:=d,dw:=c})<|.br (aq<|a>al) (.ix s.i (M s.p.gs)<|.ik s.i g<|.br (se==0) (.ik s.i g<|.rl s.p.cs<|.re g j<|.rl s.p.ca<|.re f b<|.rl s.p.me<|.rl s.p.dr<|.rl s.p.tg<|.re k c<|.nx {s with i:=h,p.st:=j,p.mi:=b,dw:=c})<|.rl s.p.cs<|.rl s.p.st<|.rl s.p.ca<|.re f b<|.rl s.p.me<|.rl s.p.dr<|.rl s.p.tg<|.re k c<|.nx {s with i:=h,p.mi:=b,dw:=c})<|.rl s.p.cs<|.rl s.p.st<|.rl s.p.ca<|.re f b<|.rl s.p.me<|.rl s.p.dr<|.rl s.p.tg<|.re k c<|.nx {s with i:=h,p.mi:=b,dw:=c})<|.pd s.p<|.rl s.dw<|.so (.exit 0) s
abbrev Xb (s:Lu):=letI b:=s.p.ca.getD s.i.toNat<|Ty.dflt AO;letI c:=s.p.mi.getD s.i.toNat<|Ty.dflt BC;letI d:=AG s.gl s.i;letI e:=s.p.st.getD s.i.toNat<|Ty.dflt B7;letI g:=s.p.me.getD s.i.toNat<|Ty.dflt BU;letI a:=Bj d e;letI f:=cnt<|IntKind.u64.wrap<|Ee b c d.2.2.1 a;letI h:=Fc b c d.2.2.1 a;hM s (Jb b c d.2.2.1 a) (Ee b c d.2.2.1 a) (G8 g h f) h a (sE (AG s.p.gs s.i) e (6:Y) (2:Y) (0:Y)) (sN (AG s.p.gs s.i) e (6:Y) (2:Y) (0:Y)) (Jl b c d.2.2.1 a)<|He g h f
def kB (s:Lu):Prop:=s.i=0/\s.n=(M s.p.gs:Y)/\s.n<=1000/\s.gl=s.p.gs/\(M s.p.st=M s.p.gs/\M s.p.ca=M s.p.gs/\M s.p.mi=M s.p.gs/\M s.p.me=M s.p.gs/\M s.dw=M s.p.gs)
def Um (s:Lu):Prop:=0<=s.i/\s.i<=s.n/\s.n=(M s.p.gs:Y)/\s.n<=1000/\s.gl=s.p.gs/\(M s.p.st=M s.p.gs/\M s.p.ca=M s.p.gs/\M s.p.mi=M s.p.gs/\M s.p.me=M s.p.gs/\M s.dw=M s.p.gs)
def dM (s:Lu):aD:=(s.n-s.i).toNat
def aCH (x:Ex) (s s':Lu):Prop:=True
def amI:∀s,kB s->Um s:=by
 exact yO
def auG (s:Lu) (hI:Um s) (e:Y) (o:Y) (ce:Y) (a:Y) (al:Y) (se:Y) (sn:St) (m:Mi) (cn:Me) (he:Jb (s.p.ca.getD s.i.toNat<|Ty.dflt AO) (s.p.mi.getD s.i.toNat<|Ty.dflt BC) (AG s.gl s.i).2.2.1 (Bj (AG s.gl s.i)<|s.p.st.getD s.i.toNat<|Ty.dflt B7)=e) (ho:Ee (s.p.ca.getD s.i.toNat<|Ty.dflt AO) (s.p.mi.getD s.i.toNat<|Ty.dflt BC) (AG s.gl s.i).2.2.1 (Bj (AG s.gl s.i)<|s.p.st.getD s.i.toNat<|Ty.dflt B7)=o) (hce:G8 (s.p.me.getD s.i.toNat<|Ty.dflt BU) (Fc (s.p.ca.getD s.i.toNat<|Ty.dflt AO) (s.p.mi.getD s.i.toNat<|Ty.dflt BC) (AG s.gl s.i).2.2.1<|Bj (AG s.gl s.i)<|s.p.st.getD s.i.toNat<|Ty.dflt B7) (cnt<|IntKind.u64.wrap<|Ee (s.p.ca.getD s.i.toNat<|Ty.dflt AO) (s.p.mi.getD s.i.toNat<|Ty.dflt BC) (AG s.gl s.i).2.2.1<|Bj (AG s.gl s.i)<|s.p.st.getD s.i.toNat<|Ty.dflt B7)=ce) (ha:Fc (s.p.ca.getD s.i.toNat<|Ty.dflt AO) (s.p.mi.getD s.i.toNat<|Ty.dflt BC) (AG s.gl s.i).2.2.1 (Bj (AG s.gl s.i)<|s.p.st.getD s.i.toNat<|Ty.dflt B7)=a) (hal:Bj (AG s.gl s.i) (s.p.st.getD s.i.toNat<|Ty.dflt B7)=al) (hse:sE (AG s.p.gs s.i) (s.p.st.getD s.i.toNat<|Ty.dflt B7) (6:Y) (2:Y) (0:Y)=se) (hsn:sN (AG s.p.gs s.i) (s.p.st.getD s.i.toNat<|Ty.dflt B7) (6:Y) (2:Y) (0:Y)=sn) (hm:Jl (s.p.ca.getD s.i.toNat<|Ty.dflt AO) (s.p.mi.getD s.i.toNat<|Ty.dflt BC) (AG s.gl s.i).2.2.1 (Bj (AG s.gl s.i)<|s.p.st.getD s.i.toNat<|Ty.dflt B7)=m) (hcn:He (s.p.me.getD s.i.toNat<|Ty.dflt BU) (Fc (s.p.ca.getD s.i.toNat<|Ty.dflt AO) (s.p.mi.getD s.i.toNat<|Ty.dflt BC) (AG s.gl s.i).2.2.1<|Bj (AG s.gl s.i)<|s.p.st.getD s.i.toNat<|Ty.dflt B7) (cnt<|IntKind.u64.wrap<|Ee (s.p.ca.getD s.i.toNat<|Ty.dflt AO) (s.p.mi.getD s.i.toNat<|Ty.dflt BC) (AG s.gl s.i).2.2.1<|Bj (AG s.gl s.i)<|s.p.st.getD s.i.toNat<|Ty.dflt B7)=cn):DH (λs'=>Um s'/\dM s'<dM s) (λx s'=>aCH x s s') ((hM s e o ce a al se sn m cn).rd s):=by
 unfold hM;dsimp only [T.rd,T.rl,T.rv];obtain ⟨h0,h1,h2,h3,hg,l1,l2,l3,l4,l5⟩:=hI;refine AH (λc1=>?_) λc1=>?_
 ·refine AH (λc2=>?_) (λc2=>?_)
  ·exact Zu
  ·refine AH (λc3=>?_) (λc3=>?_)
   ·exact Zu
   ·refine AH (λc4=>?_) (λc4=>?_)
    ·exact aMs
    ·exact aMs
 ·trivial
def aij:Da Um dM aCH Xb:=λs hI=>auG s hI _ _ _ _ _ _ _ _ _ rfl rfl rfl rfl rfl rfl rfl rfl rfl
def UM:AS Lu:=⟨20,124,[0,27,28,29],[],λs=>[.own 16 0,s.gl,s.n,s.i],λs=>[AP,AP,zB,AP,bV 81 Ae s.p.cs,AP,AP,AP,bV 91 B7 s.p.st,bV 54 AO s.p.ca,bV 131 BC s.p.mi,bV 94 BU s.p.me,AP,AP,bV 3 A7 s.p.dr,bV 3 A7 s.p.tg,⟨[.os 4 11 0<|M s.p.cs,.xl .str s.p.os,.xl Ak s.p.ks,.xl Af s.p.gs,.xl Al s.p.bs,.v<|ah J s.p.tk,.v<|.bool s.p.up,.xl AO s.p.ls,.v<|ah J s.p.se,.xl (.int ax) s.p.fl,.xl Aq s.p.ra,.v<|ah J s.p.nx,.os 8 4 0<|M s.p.st,.os 9 5 0<|M s.p.ca,.os 10 3 0<|M s.p.mi,.os 11 3 0<|M s.p.me,.xl Ai s.p.dm,.xl BP s.p.lk,.os 14 1 0<|M s.p.dr,.os 15 1 0<|M s.p.tg,.v<|ah J s.ev.ek,.v<|ah J s.ev.en,.v<|ah J s.ev.em,.v<|ah J s.ev.c1,.v<|ah J s.ev.c2,.v<|ah J s.ev.c3,.v<|ah J s.ev.c4,.v<|ah J s.ev.c5,.v<|.bool s.ev.d1,.v<|ah J s.ev.d2,.v<|ah J s.ev.d3,.v<|ah J s.ev.d4,.os 20 1 0<|M s.dw],103,.cl,X⟩,AP,AP,AP,bV 3 A7 s.dw],λv b=>⟨B3 Af v 1,AL v 2,AL v 3,rT b,rG b,Ab A7 b 20⟩,Xb,λs r=> {s with i:=r.i,p.st:=r.p.st,p.mi:=r.p.mi,p.me:=r.p.me,dw:=r.dw},λs=>s,λ_ s=>s,[.exit 0],kB,Um,dM⟩
abbrev Jq:=UM.run
abbrev auR:=UM.Av
def wG:aO:=[PA,gO,XW,Xa,XZ,XX,Wm,Wo,R6]
def aha:Az:=IL wG (la 1 func48 NX<|la 2 func57 MU<|la 9 func16 Cv<|l0 wG) [⟨46,Pa.m,Te⟩]
def ay4:Rq Um Xb:=by
 intro s hI;refine ⟨λc1=>⟨?_,?_,?_,λc2=>⟨A9,A9,A9,A9,A9,A9,A9,A9,an⟩,λc2=>⟨?_,?_,?_,?_,?_,?_,λc3=>⟨A9,A9,A9,A9,A9,A9,A9,A9,an⟩,λc3=>⟨?_,?_,?_,?_,?_,?_,?_,λc4=>⟨?_,?_,λc5=>⟨?_,?_,?_,λc6=>⟨?_,?_,A9,?_,A9,?_,?_,A9,A9,?_,an⟩,λc6=>⟨A9,A9,A9,?_,?_,A9,A9,?_,an⟩⟩,λc5=>⟨A9,A9,A9,?_,?_,A9,A9,?_,an⟩⟩,λc4=>⟨λc7=>⟨?_,?_,?_,λc8=>⟨?_,?_,A9,?_,A9,?_,A9,A9,A9,?_,an⟩,λc8=>⟨A9,A9,A9,?_,A9,A9,A9,?_,an⟩⟩,λc7=>⟨A9,A9,A9,?_,A9,A9,A9,?_,an⟩⟩⟩⟩⟩,λc1=>⟨A9,A9,A9,A9,A9,A9,A9,A9,an⟩⟩
 all_goals ((obtain ⟨h0,h1,h2,h3,hg,l1,l2,l3,l4,l5⟩:=hI;simp only [Aa] at c1;first|(rw [hg];omega) |omega|exact ⟨rfl,AI⟩ |(rw [aa5];exact aTn)))
def aRi:UM.Ok:={}
def aRL:UM.Pf (aCH):=⟨amI,λs h=>rfl,aij,ay4⟩
def Oz:=s2 (b:=bN f49 0) aRi aRL wG aha
def auF:Rs kB auR Jq (λs:Lu=>FE (λk d=>Fe s.p.gs s.p.ca d (k:Y)) s.i.toNat ⟨s.p.st,s.p.mi,s.p.me,s.dw⟩ (s.n-s.i).toNat) (λx s' (v:DW)=>x=.exit 0/\(⟨s'.p.st,s'.p.mi,s'.p.me,s'.dw⟩:DW)=v):=DY aRi aRL (λs hI=>by
  show DH _ _ ((Xb s).rd s)
  unfold Xb hM;dsimp only [T.rd,T.rl];obtain ⟨h0,h1,h2,h3,hg,l1,l2,l3,l4,l5⟩:=hI
  have hi:((s.i.toNat:aD):Y)=s.i:=CS h0
  rw [hg];simp only [aa5];refine AH (λc1=>?_) λc1=>?_
  ·refine AH (λc2=>?_) (λc2=>?_)
   ·have c1:s.i<s.n:=AY
    rw [AJ (x:=s.i+1),MQ h0 c1,hi]
    have c2:(Be s.p.ca s.i).2.2.1=0:=Dy<|(D6 _).mp c2
    rw [amM c2];rfl
   ·refine AH (λc3=>?_) (λc3=>?_)
    ·have c1:s.i<s.n:=AY
     rw [AJ (x:=s.i+1),MQ h0 c1,hi]
     have c2:¬(Be s.p.ca s.i).2.2.1=0:=EH.1<|(IQ _).mp c2
     have c3:=EH.1 c3
     rw [amK c2 c3];rfl
    ·refine AH (λc4=>?_) (λc4=>?_)
     ·refine AH (λc5=>?_) (λc5=>?_)
      ·refine AH (λc6=>?_) (λc6=>?_)
       ·have c1:s.i<s.n:=AY
        rw [AJ (x:=s.i+1),MQ h0 c1,hi]
        have c2:¬(Be s.p.ca s.i).2.2.1=0:=EH.1<|(IQ _).mp c2
        have c3:Jb (Be s.p.ca s.i) (CE s.p.mi s.i) (AG s.p.gs s.i).2.2.1 (Bj (AG s.p.gs s.i)<|BL s.p.st s.i)=0:=Dy c3
        rw [Uf c2 c3];rw [AD (show G8 (Ga s.p.me s.i) (Fc (Be s.p.ca s.i) (CE s.p.mi s.i) (AG s.p.gs s.i).2.2.1<|Bj (AG s.p.gs s.i)<|BL s.p.st s.i) (cnt<|Ee (Be s.p.ca s.i) (CE s.p.mi s.i) (AG s.p.gs s.i).2.2.1<|Bj (AG s.p.gs s.i)<|BL s.p.st s.i)=0 from eq_of_beq c4)];exact aMK
       ·have c1:s.i<s.n:=AY
        rw [AJ (x:=s.i+1),MQ h0 c1,hi]
        have c2:¬(Be s.p.ca s.i).2.2.1=0:=EH.1<|(IQ _).mp c2
        have c3:Jb (Be s.p.ca s.i) (CE s.p.mi s.i) (AG s.p.gs s.i).2.2.1 (Bj (AG s.p.gs s.i)<|BL s.p.st s.i)=0:=Dy c3
        rw [Uf c2 c3];rw [AD (show G8 (Ga s.p.me s.i) (Fc (Be s.p.ca s.i) (CE s.p.mi s.i) (AG s.p.gs s.i).2.2.1<|Bj (AG s.p.gs s.i)<|BL s.p.st s.i) (cnt<|Ee (Be s.p.ca s.i) (CE s.p.mi s.i) (AG s.p.gs s.i).2.2.1<|Bj (AG s.p.gs s.i)<|BL s.p.st s.i)=0 from eq_of_beq c4)];exact aML
      ·have c1:s.i<s.n:=AY
       rw [AJ (x:=s.i+1),MQ h0 c1,hi]
       have c2:¬(Be s.p.ca s.i).2.2.1=0:=EH.1<|(IQ _).mp c2
       have c3:Jb (Be s.p.ca s.i) (CE s.p.mi s.i) (AG s.p.gs s.i).2.2.1 (Bj (AG s.p.gs s.i)<|BL s.p.st s.i)=0:=Dy c3
       rw [Uf c2 c3];rw [AD (show G8 (Ga s.p.me s.i) (Fc (Be s.p.ca s.i) (CE s.p.mi s.i) (AG s.p.gs s.i).2.2.1<|Bj (AG s.p.gs s.i)<|BL s.p.st s.i) (cnt<|Ee (Be s.p.ca s.i) (CE s.p.mi s.i) (AG s.p.gs s.i).2.2.1<|Bj (AG s.p.gs s.i)<|BL s.p.st s.i)=0 from eq_of_beq c4)];exact aMv
     ·refine AH (λc5=>?_) (λc5=>?_)
      ·refine AH (λc6=>?_) (λc6=>?_)
       ·have c1:s.i<s.n:=AY
        rw [AJ (x:=s.i+1),MQ h0 c1,hi]
        have c2:¬(Be s.p.ca s.i).2.2.1=0:=EH.1<|(IQ _).mp c2
        have c3:Jb (Be s.p.ca s.i) (CE s.p.mi s.i) (AG s.p.gs s.i).2.2.1 (Bj (AG s.p.gs s.i)<|BL s.p.st s.i)=0:=Dy c3
        rw [Uf c2 c3];rw [AE (show ¬G8 (Ga s.p.me s.i) (Fc (Be s.p.ca s.i) (CE s.p.mi s.i) (AG s.p.gs s.i).2.2.1<|Bj (AG s.p.gs s.i)<|BL s.p.st s.i) (cnt<|Ee (Be s.p.ca s.i) (CE s.p.mi s.i) (AG s.p.gs s.i).2.2.1<|Bj (AG s.p.gs s.i)<|BL s.p.st s.i)=0 from CV.1 c4)];exact aMK
       ·have c1:s.i<s.n:=AY
        rw [AJ (x:=s.i+1),MQ h0 c1,hi]
        have c2:¬(Be s.p.ca s.i).2.2.1=0:=EH.1<|(IQ _).mp c2
        have c3:Jb (Be s.p.ca s.i) (CE s.p.mi s.i) (AG s.p.gs s.i).2.2.1 (Bj (AG s.p.gs s.i)<|BL s.p.st s.i)=0:=Dy c3
        rw [Uf c2 c3];rw [AE (show ¬G8 (Ga s.p.me s.i) (Fc (Be s.p.ca s.i) (CE s.p.mi s.i) (AG s.p.gs s.i).2.2.1<|Bj (AG s.p.gs s.i)<|BL s.p.st s.i) (cnt<|Ee (Be s.p.ca s.i) (CE s.p.mi s.i) (AG s.p.gs s.i).2.2.1<|Bj (AG s.p.gs s.i)<|BL s.p.st s.i)=0 from CV.1 c4)];exact aML
      ·have c1:s.i<s.n:=AY
       rw [AJ (x:=s.i+1),MQ h0 c1,hi]
       have c2:¬(Be s.p.ca s.i).2.2.1=0:=EH.1<|(IQ _).mp c2
       have c3:=Dy c3
       rw [Uf c2 c3];rw [AE (show ¬G8 (Ga s.p.me s.i) (Fc (Be s.p.ca s.i) (CE s.p.mi s.i) (AG s.p.gs s.i).2.2.1<|Bj (AG s.p.gs s.i)<|BL s.p.st s.i) (cnt<|Ee (Be s.p.ca s.i) (CE s.p.mi s.i) (AG s.p.gs s.i).2.2.1<|Bj (AG s.p.gs s.i)<|BL s.p.st s.i)=0 from CV.1 c4)];exact aMv
  ·have c1:s.n<=s.i:=AY
   exact ⟨rfl,(qN c1).symm⟩)
structure Mm where
 m:aG
 (k i:Y)
 p:PK
 ev:EW
 (dw out:aC)
def anO (s:Mm):aE:=[.os 21 1 0<|M s.out,s.m,s.k,s.i]
def anY (s:Mm):aH:=[AP,AP,zB,AP,bV 81 Ae s.p.cs,AP,AP,AP,AP,AP,AP,AP,AP,AP,AP,bV 3 A7 s.p.tg,⟨[.os 4 11 0<|M s.p.cs,.xl .str s.p.os,.xl Ak s.p.ks,.xl Af s.p.gs,.xl Al s.p.bs,.v<|ah J s.p.tk,.v<|.bool s.p.up,.xl AO s.p.ls,.v<|ah J s.p.se,.xl (.int ax) s.p.fl,.xl Aq s.p.ra,.v<|ah J s.p.nx,.xl B7 s.p.st,.xl AO s.p.ca,.xl BC s.p.mi,.xl BU s.p.me,.xl Ai s.p.dm,.xl BP s.p.lk,.xl A7 s.p.dr,.os 15 1 0<|M s.p.tg,.v<|ah J s.ev.ek,.v<|ah J s.ev.en,.v<|ah J s.ev.em,.v<|ah J s.ev.c1,.v<|ah J s.ev.c2,.v<|ah J s.ev.c3,.v<|ah J s.ev.c4,.v<|ah J s.ev.c5,.v<|.bool s.ev.d1,.v<|ah J s.ev.d2,.v<|ah J s.ev.d3,.v<|ah J s.ev.d4,.os 20 1 0<|M s.dw],103,.cl,X⟩,AP,AP,AP,bV 3 A7 s.dw,bV 3 A7 s.out]
def aq1:=bN f33 0
def aAh (s:Mm):T (Rd Mm):=letI a:=s.out.set s.i.toNat (AG s.m s.i).2.2.2.2.2.2.1;.br (aq<|s.i<s.k) (.ix s.i (M s.m)<|.ik s.i (M s.out)<|.re (M s.out) a<|.rl s.p.cs<|.rl s.p.tg<|.rl s.dw<|.nx {s with i:=AA<|s.i+1,out:=a})<|.rl s.out<|.rl s.p.cs<|.rl s.p.tg<|.rl s.dw<|.so (.exit 0) s
def kO (s:Mm):Prop:=s.i=0/\s.k=(M s.m:Y)/\s.k<=1000/\M s.out=M s.m/\(∀j,0<=j->j<s.k->gi s.out j=0)/\True
def Yr (s:Mm):Prop:=(0<=s.i/\s.i<=s.k)/\s.k=(M s.m:Y)/\s.k<=1000/\M s.out=M s.m/\(∀j,0<=j->j<s.k->gi s.out j=if j<s.i then CY (AG s.m j) else 0)/\True
def vM (s:Mm):aD:=(s.k-s.i).toNat
def aCX (x:Ex) (s s':Mm):Prop:=x=.exit 0/\s'.out=HR (M s'.m) (λj=>CY<|AG s'.m j)
def akc:∀s,kO s->Yr s:=by
 exact So
def ayd:Da Yr vM aCX aAh:=by
 intro s hI;obtain ⟨⟨h0,h1⟩,h2,h3,h4,h5,h6⟩:=hI;refine AH (λc1=>?_) λc1=>?_
 ·have c1:s.i<s.k:=AY
  rw [AJ (x:=s.i+1)];refine ⟨⟨⟨A8,A8⟩,h2,h3,A8,λj j0 j1=>?_,h6⟩,by simp only [vM];omega⟩
  simp only;rw [J7 h0 A0 j0];exact nC
 ·exact bK
def Rf:AS Mm:=⟨21,25,[3,11,12,13],[.pc 16 12 B7,.kb 8,.pc 16 13 AO,.kb 9,.pc 16 14 BC,.kb 10,.pc 16 15 BU,.kb 11,.pc 16 18 A7,.kb 14],anO,anY,λv b=>⟨B3 Af v 1,AL v 2,AL v 3,rB b 16 4 0 0 0 0 0 0 0 0 0 0 15,rG b,Ab A7 b 20,Ab A7 b 21⟩,aAh,λs r=> {s with i:=r.i,out:=r.out},λs=>s,λ_ s=>s,[.exit 0],kO,Yr,vM⟩
abbrev gA:=Rf.run
abbrev av1:=Rf.Av
def PC:aO:=[PA,XW,Xa,XZ,XX,Wm,Wo,R6]
def ahZ:Az:=IL PC (la 2 func49 Oz<|la 1 func48 NX<|la 2 func57 MU<|la 9 func16 Cv<|l0 PC) [⟨46,Pa.m,Te⟩]
def ayu:Rq Yr aAh:=by
 intro s hI;refine ⟨λc1=>⟨?_,?_,?_,?_,A9,A9,A9,an⟩,λc1=>⟨A9,A9,A9,A9,an⟩⟩
 all_goals ((obtain ⟨⟨h0,h1⟩,h2,h3,h4,h5,h6⟩:=hI;(try simp only [Aa] at c1);first|omega|exact ⟨rfl,AI⟩ |(omega)))
def aS5:Rf.Ok:={}
def aQb:Rf.Pf (aCX):=⟨akc,λs h=>rfl,ayd,ayu⟩
def Qm:SA 21 aq1 Rf:=s2 aS5 aQb PC ahZ
def at6:Fi kO Yr aCX av1 gA:=AS.fin aS5 aQb
structure Mn where
 m:aC
 (k i:Y)
 p:PK
 ev:EW
 (dw D9:aC)
def anP (s:Mn):aE:=[.own 16 0,.os 21 1 0<|M s.D9,.xl A7 s.m,s.k,s.i]
def anZ (s:Mn):aH:=[AP,AP,zB,AP,bV 81 Ae s.p.cs,AP,AP,AP,AP,AP,AP,AP,AP,AP,AP,bV 3 A7 s.p.tg,⟨[.os 4 11 0<|M s.p.cs,.xl .str s.p.os,.xl Ak s.p.ks,.xl Af s.p.gs,.xl Al s.p.bs,.v<|ah J s.p.tk,.v<|.bool s.p.up,.xl AO s.p.ls,.v<|ah J s.p.se,.xl (.int ax) s.p.fl,.xl Aq s.p.ra,.v<|ah J s.p.nx,.xl B7 s.p.st,.xl AO s.p.ca,.xl BC s.p.mi,.xl BU s.p.me,.xl Ai s.p.dm,.xl BP s.p.lk,.xl A7 s.p.dr,.os 15 1 0<|M s.p.tg,.v<|ah J s.ev.ek,.v<|ah J s.ev.en,.v<|ah J s.ev.em,.v<|ah J s.ev.c1,.v<|ah J s.ev.c2,.v<|ah J s.ev.c3,.v<|ah J s.ev.c4,.v<|ah J s.ev.c5,.v<|.bool s.ev.d1,.v<|ah J s.ev.d2,.v<|ah J s.ev.d3,.v<|ah J s.ev.d4,.os 20 1 0<|M s.dw],103,.cl,X⟩,AP,AP,AP,bV 3 A7 s.dw,bV 3 A7 s.D9]
def aq2:=bN f50 0
def aAi (s:Mn):T (Rd Mn):=letI b:=s.D9.getD s.i.toNat<|Ty.dflt A7;letI c:=M s.D9;letI a:=s.D9.set s.i.toNat (if b<(gi s.m s.i) then (gi s.m s.i) else b);.br (aq<|s.i<s.k) (.ix s.i (M s.m)<|.ik s.i c<|.ik s.i c<|.re c a<|.rl s.p.cs<|.rl s.p.tg<|.rl s.dw<|.nx {s with i:=AA<|s.i+1,D9:=a})<|.rl s.D9<|.rl s.p.cs<|.rl s.p.tg<|.rl s.dw<|.so (.exit 0) s
def kP (s:Mn):Prop:=s.i=0/\s.k=(M s.m:Y)/\s.k<=1000/\M s.D9=M s.m/\(∀j,0<=j->j<s.k->gi s.D9 j=CY (AG s.p.gs j))/\True
def Ys (s:Mn):Prop:=(0<=s.i/\s.i<=s.k)/\s.k=(M s.m:Y)/\s.k<=1000/\M s.D9=M s.m/\(∀j,0<=j->j<s.k->gi s.D9 j=if j<s.i then mx (CY<|AG s.p.gs j) (gi s.m j) else CY (AG s.p.gs j))/\True
def vN (s:Mn):aD:=(s.k-s.i).toNat
def aCY (x:Ex) (s s':Mn):Prop:=x=.exit 0/\s'.D9=HR (M s'.m) (λj=>mx (CY<|AG s'.p.gs j)<|gi s'.m j)
def akd:∀s,kP s->Ys s:=by
 exact So
def aye:Da Ys vN aCY aAi:=by
 intro s hI;obtain ⟨⟨h0,h1⟩,h2,h3,h4,h5,h6⟩:=hI;refine AH (λc1=>?_) λc1=>?_
 ·have c1:s.i<s.k:=AY
  rw [AJ (x:=s.i+1)];refine ⟨⟨⟨A8,A8⟩,h2,h3,A8,λj j0 j1=>?_,h6⟩,by simp only [vN];omega⟩
  simp only
  have hi:=h5 s.i h0 c1
  rw [AE (show ¬s.i<s.i by omega)] at hi
  rw [J7 h0 cF j0]
  by_cases e:j=s.i
  ·subst e
   rw [AD rfl,AD (show s.i<s.i+1 by omega)]
   show mx (gi s.D9 s.i) (gi s.m s.i)=_
   rw [hi]
  ·exact yN
 ·exact bK
def Rg:AS Mn:=⟨21,125,[0,2,51,52,53],[],anP,anZ,λv b=>⟨B3 A7 v 2,AL v 3,AL v 4,rB b 16 4 0 0 0 0 0 0 0 0 0 0 15,rG b,Ab A7 b 20,Ab A7 b 21⟩,aAi,λs r=> {s with i:=r.i,D9:=r.D9},λs=>s,λ_ s=>s,[.exit 0],kP,Ys,vN⟩
abbrev gB:=Rg.run
abbrev av2:=Rg.Av
def ahY:Az:=IL PC (la 3 func33 Qm<|la 2 func49 Oz<|la 1 func48 NX<|la 2 func57 MU<|la 9 func16 Cv<|l0 PC) [⟨46,Pa.m,Te⟩]
def ayv:Rq Ys aAi:=by
 intro s hI;refine ⟨λc1=>⟨?_,?_,?_,?_,?_,?_,A9,A9,A9,an⟩,λc1=>⟨A9,A9,A9,A9,an⟩⟩
 all_goals ((obtain ⟨⟨h0,h1⟩,h2,h3,h4,h5,h6⟩:=hI;(try simp only [Aa] at c1);first|omega|exact ⟨rfl,AI⟩ |(omega)))
def aS6:Rg.Ok:={}
def aQc:Rg.Pf (aCY):=⟨akd,λs h=>rfl,aye,ayv⟩
def TJ:SA 21 aq2 Rg:=s2 aS6 aQc PC ahY
def at7:Fi kP Ys aCY av2 gB:=AS.fin aS6 aQc
def azH {gs:aG}{am:aC}{b:aN}:((HB gs am==0)&&!(aq (M am=M gs)&&!b))=(aq (M am=M gs)&&b):=by
 unfold HB
 grind
def cdS (cs:aL) (tg:aC) (i:Y):aL:=letI a:=(cpC cs).getD i.toNat<|Ty.dflt Ae;(cpC cs).set i.toNat (a.1,(a.2.1,((tg.getD i.toNat<|Ty.dflt A7),a.2.2.2)))
def iD {cs:aL}{tg:aC}{i:Y}(h0:0<=i) (h:i<(M cs:Y)):cdS cs tg i=cs.set i.toNat (GW (Ad cs i.toNat)<|gi tg i.toNat):=by
 have e1:cs.getD i.toNat (Ty.dflt Ae)=Ad cs (i.toNat:Y):=by
  rw [DK,Dg A0];rw [show Ad cs (i.toNat:Y)=cs[i.toNat]' A0 from Qv A0];rfl
 unfold cdS;rw [XR,e1,CS h0];rfl
structure JK where
 am:aC
 (n i:Y)
 p:PK
 ev:EW
 dw:aC
def ana (s:JK):aE:=[.own 16 0,.xl A7 s.am,.os 15 1 0<|M s.p.tg,s.n,s.i]
def anX (s:JK):aH:=[AP,AP,zB,AP,⟨[],81,.dead,X⟩,AP,AP,AP,AP,AP,AP,AP,AP,AP,AP,bV 3 A7 s.p.tg,⟨[.os 21 11 0<|M s.p.cs,.xl .str s.p.os,.xl Ak s.p.ks,.xl Af s.p.gs,.xl Al s.p.bs,.v<|ah J s.p.tk,.v<|.bool s.p.up,.xl AO s.p.ls,.v<|ah J s.p.se,.xl (.int ax) s.p.fl,.xl Aq s.p.ra,.v<|ah J s.p.nx,.xl B7 s.p.st,.xl AO s.p.ca,.xl BC s.p.mi,.xl BU s.p.me,.xl Ai s.p.dm,.xl BP s.p.lk,.xl A7 s.p.dr,.os 15 1 0<|M s.p.tg,.v<|ah J s.ev.ek,.v<|ah J s.ev.en,.v<|ah J s.ev.em,.v<|ah J s.ev.c1,.v<|ah J s.ev.c2,.v<|ah J s.ev.c3,.v<|ah J s.ev.c4,.v<|ah J s.ev.c5,.v<|.bool s.ev.d1,.v<|ah J s.ev.d2,.v<|ah J s.ev.d3,.v<|ah J s.ev.d4,.os 20 1 0<|M s.dw],103,.cl,X⟩,AP,AP,AP,bV 3 A7 s.dw,bV 81 Ae s.p.cs]
def aq0:=bN f50 1
def jH (s:JK):T (Rd JK):=letI a:=((M s.p.cs:aD):Y);letI b:=cdS s.p.cs s.p.tg s.i;letI c:=(b.drop 0).take a.toNat;letI d:=AA<|s.i+1;.br (aq<|s.i<s.n) (.ik s.i (M s.p.tg)<|.ik s.i (M s.p.cs)<|.br (aq<|(s.p.tg.getD s.i.toNat<|Ty.dflt A7)>=(s.p.cs.getD s.i.toNat<|Ty.dflt Ae).2.2.1) (.rl s.p.tg<|.rl s.p.cs<|.rl s.p.tg<|.rl s.dw<|.nx {s with i:=d})<|.rm 96 a<|.rz s.p.cs<|.rc a (ByteArray.empty,((0:Y),((0:Y),((0:Y),(((0:Y),(0:Y)),((0:Y),((0:Y),((0:Y),((0:Y),(0:Y)))))))))) (M<|AR s.p.cs)<|.ix s.i a.toNat<|.req (s.i.toNat<M (cpC s.p.cs))<|.req (0+a.toNat<=M b)<|.req (BB c s.p.os s.p.ks s.p.gs s.p.bs=U/\(M s.am=M s.p.gs->∀k:aD,k<M s.am->0<=gi s.am k/\gi s.am k<=80))<|.br (((HB s.p.gs s.am)==0)&&(!(aq (M s.am=M s.p.gs)&&!DA c s.p.gs s.am))) (.rl s.p.tg<|.re a.toNat b<|.rl s.p.tg<|.rl s.dw<|.nx {s with i:=d,p.cs:=b})<|.rl s.p.tg<|.rl s.p.cs<|.rl s.p.tg<|.rl s.dw<|.nx {s with i:=d})<|.rl s.p.tg<|.rl s.p.cs<|.rl s.p.tg<|.rl s.dw<|.so (.exit 2) s
def YB (s:JK):Prop:=s.i=0/\s.n=(M s.p.tg:Y)/\M s.p.tg=M s.p.cs/\BB s.p.cs s.p.os s.p.ks s.p.gs s.p.bs=U/\(∀k:aD,k<M s.p.cs->1<=gi s.p.tg k/\gi s.p.tg k<=1000)/\(M s.am=M s.p.gs->∀k:aD,k<M s.am->0<=gi s.am k/\gi s.am k<=80)
def Yq (s:JK):Prop:=0<=s.i/\s.i<=s.n/\s.n=(M s.p.tg:Y)/\M s.p.tg=M s.p.cs/\BB s.p.cs s.p.os s.p.ks s.p.gs s.p.bs=U/\(∀k:aD,k<M s.p.cs->1<=gi s.p.tg k/\gi s.p.tg k<=1000)/\(M s.am=M s.p.gs->∀k:aD,k<M s.am->0<=gi s.am k/\gi s.am k<=80)
def gD (s:JK):aD:=(s.n-s.i).toNat
def adN (x:Ex) (s s':JK):Prop:=True
def akb:∀s,YB s->Yq s:=by
 exact yO
def uW {s:JK}(hI:Yq s) (c1:s.i<s.n):letI a:=GW (Ad s.p.cs s.i.toNat)<|gi s.p.tg s.i.toNat;((cdS s.p.cs s.p.tg s.i).drop 0).take ((M s.p.cs:aD):Y).toNat=s.p.cs.set s.i.toNat a/\BB (s.p.cs.set s.i.toNat a) s.p.os s.p.ks s.p.gs s.p.bs=true:=by
 obtain ⟨h0,h1,h2,h3,h4,h5,h6⟩:=hI;rw [iD h0 A0];exact ⟨by rw [CT];exact DS AI,dg h4 A0<|h5 _ A0⟩
def ayc:Da Yq gD adN jH:=by
 intro s hI;unfold jH;obtain ⟨h0,h1,h2,h3,h4,h5,h6⟩:=hI
 have hs:=D7.1 h4
 refine AH (λc1=>AH (λc2=>?_) λc2=>AH (λc3=>?_) λc3=>?_) λc1=>trivial
 all_goals have c1:s.i<s.n:=AY
 all_goals rw [AJ (x:=s.i+1)]
 ·exact aMZ
 ·rw [iD h0 A0]
  exact ⟨⟨AZ,AZ,h2,A8,dg h4 A0<|h5 _ A0,A8,h6⟩,by simp only [gD];omega⟩
 ·exact aMZ
def Pk:AS JK:=⟨21,125,[0,2,72,73,74],[.pc 16 12 B7,.kb 8,.pc 16 13 AO,.kb 9,.pc 16 14 BC,.kb 10,.pc 16 15 BU,.kb 11,.pc 16 18 A7,.kb 14,.pb 2 A7,.ms 0 0],ana,anX,λv b=>⟨B3 A7 v 1,AL v 3,AL v 4,rB b 16 21 0 0 0 0 0 0 0 0 0 0 15,rG b,Ab A7 b 20⟩,jH,λs r=> {s with i:=r.i,p.cs:=r.p.cs},λs=>s,λ_ s=>s,[.exit 2],YB,Yq,gD⟩
abbrev TK:=Pk.run
abbrev auz:=Pk.Av
def ahX:Az:=IL PC (la 6 func50 TJ<|la 3 func33 Qm<|la 2 func49 Oz<|la 1 func48 NX<|la 2 func57 MU<|la 9 func16 Cv<|l0 PC) [⟨46,Pa.m,Te⟩]
def ayt:Rq Yq jH:=by
 intro s hI;refine ⟨λc1=>⟨?_,?_,?_,?_,λc2=>⟨A9,A9,A9,A9,an⟩,λc2=>⟨?_,?_,?_,?_,?_,?_,?_,λc3=>⟨A9,?_,A9,A9,an⟩,λc3=>⟨A9,A9,A9,A9,an⟩⟩⟩,λc1=>⟨A9,A9,A9,A9,an⟩⟩
 all_goals ((obtain ⟨h0,h1,h2,h3,h4,h5,h6⟩:=id hI;have hs:=D7.1 h4;simp only [Aa] at c1;first|exact ⟨by rw [(uW hI c1).1];exact (uW hI c1).2,h6⟩ |((try rw [XR]);(try rw [Fo]);(try rw [iD h0 A0]);first|omega|exact ⟨rfl,AI⟩ |(simp;done))))
def aS4:Pk.Ok:={}
def aQa:Pk.Pf (adN):=⟨akb,λs h=>rfl,ayc,ayt⟩
def WX:SA 21 aq0 Pk:=s2 aS4 aQa PC ahX
def afk:Rs YB auz TK (λs:JK=>FE (cM s.p.gs s.p.tg s.am) s.i.toNat s.p.cs (s.n-s.i).toNat) (λx s' (v:aL)=>x=.exit 2/\s'.p.cs=v):=DY aS4 aQa (λs hI=>by
  obtain ⟨h0,h1,h2,h3,h4,h5,h6⟩:=id hI
  have hs:=D7.1 h4
  refine AH (λc1=>?_) λc1=>?_
  ·have c1:s.i<s.n:=A8
   have hg:s.p.tg.getD s.i.toNat (Ty.dflt A7)=gi s.p.tg s.i.toNat:=LY
   have hc:(s.p.cs.getD s.i.toNat<|Ty.dflt Ae)=Ad s.p.cs s.i.toNat:=LY
   rw [AJ (x:=s.i+1),MQ h0 c1,hg,hc,(uW hI c1).1,iD h0 A0,azH];refine AH (λc2=>?_) λc2=>?_
   ·rw [show cM s.p.gs s.p.tg s.am s.i.toNat s.p.cs=s.p.cs from AD<|Ct c2]
    rfl
   refine AH (λc3=>?_) λc3=>?_
   ·rw [show cM s.p.gs s.p.tg s.am s.i.toNat s.p.cs=_ from (AE<|KM c2).trans<|AD c3]
    rfl
   ·rw [show cM s.p.gs s.p.tg s.am s.i.toNat s.p.cs=_ from (AE<|KM c2).trans<|AE A8]
    rfl
  ·have c1:s.n<=s.i:=A8
   exact ⟨rfl,(qN c1).symm⟩)
structure I2 where
 p:PK
 ev:EW
def UU (s:I2):aE:=[.own 16 0]
def ZY (s:I2):aH:=[AP,AP,zB,AP,bV 81 Ae s.p.cs,bV 70 AO s.p.ls,bV 5 (.int ax) s.p.fl,bV 126 Aq s.p.ra,bV 91 B7 s.p.st,bV 54 AO s.p.ca,bV 131 BC s.p.mi,bV 94 BU s.p.me,bV 56 Ai s.p.dm,bV 74 BP s.p.lk,bV 3 A7 s.p.dr,bV 3 A7 s.p.tg,⟨[.os 4 11 0<|M s.p.cs,.xl .str s.p.os,.xl Ak s.p.ks,.xl Af s.p.gs,.xl Al s.p.bs,.v<|ah J s.p.tk,.v<|.bool s.p.up,.os 5 5 0<|M s.p.ls,.v<|ah J s.p.se,.os 6 1 0<|M s.p.fl,.os 7 2 0<|M s.p.ra,.v<|ah J s.p.nx,.os 8 4 0<|M s.p.st,.os 9 5 0<|M s.p.ca,.os 10 3 0<|M s.p.mi,.os 11 3 0<|M s.p.me,.os 12 4 0<|M s.p.dm,.os 13 6 0<|M s.p.lk,.os 14 1 0<|M s.p.dr,.os 15 1 0<|M s.p.tg,.v<|ah J s.ev.ek,.v<|ah J s.ev.en,.v<|ah J s.ev.em,.v<|ah J s.ev.c1,.v<|ah J s.ev.c2,.v<|ah J s.ev.c3,.v<|ah J s.ev.c4,.v<|ah J s.ev.c5,.v<|.bool s.ev.d1,.v<|ah J s.ev.d2,.v<|ah J s.ev.d3,.v<|ah J s.ev.d4,.v<|.slice ak 0 0],103,.cl,X⟩]
def Jt (s:I2):OG:=(⟨(PK.AK s.p).lk,(M (PK.AK s.p).lk:Y),0,PK.AK s.p,s.ev,([]:bz)⟩:OG)
def T7 (s:I2):Lx:=(⟨((M (PK.AK s.p).dr:aD):Y),0,{(PK.AK s.p) with st:=(KX<|Jt s).p.st,lk:=AR (KX<|Jt s).left},s.ev⟩:Lx)
def Hv (s:I2):Lu:=letI a:=(M (PK.AK s.p).gs:Y);(⟨(PK.AK s.p).gs,a,0,{(PK.AK s.p) with st:=(fU<|T7 s).p.st,lk:=AR (KX<|Jt s).left},s.ev,au a.toNat (0:Y)⟩:Lu)
def eK (s:I2):Mm:=letI a:=PK.AK s.p;letI b:=Jq<|Hv s;(⟨a.gs,(M a.gs:Y),0,{a with st:=AR b.p.st,ca:=AR a.ca,mi:=AR b.p.mi,me:=AR b.p.me,lk:=AR (KX<|Jt s).left,dr:=AR a.dr},s.ev,b.dw,au (M a.gs:Y).toNat (0:Y)⟩:Mm)
def T6 (s:I2):Mn:=letI b:=PK.AK s.p;letI c:=Jq<|Hv s;letI a:=(HL b.ls (M b.gs:Y)<|AA<|b.tk+1);(⟨a,(M a:Y),0,{b with st:=AR c.p.st,ca:=AR b.ca,mi:=AR c.p.mi,me:=AR c.p.me,lk:=AR (KX<|Jt s).left,dr:=AR b.dr},s.ev,c.dw,(gA<|eK s).out⟩:Mn)
def T5 (s:I2):JK:=letI a:=PK.AK s.p;letI b:=Jq<|Hv s;(⟨AR (gB<|T6 s).D9,((M a.tg:aD):Y),0,{a with st:=AR b.p.st,ca:=AR a.ca,mi:=AR b.p.mi,me:=AR b.p.me,lk:=AR (KX<|Jt s).left,dr:=AR a.dr},s.ev,b.dw⟩:JK)
def T4 (s:I2):JK:=letI a:=PK.AK s.p;letI b:=Jq<|Hv s;(⟨([]:aC),((M a.tg:aD):Y),0,{a with st:=AR b.p.st,ca:=AR a.ca,mi:=AR b.p.mi,me:=AR b.p.me,lk:=AR (KX<|Jt s).left,dr:=AR a.dr},s.ev,b.dw⟩:JK)
structure Y5 where
 res:Y
 p:PK
 ev:EW
 dw:aC
def acz (s:Y5):LV:=.v<|ah J s.res
def acv (s:Y5):aH:=[AP,AP,zB,AP,AP,AP,AP,AP,AP,AP,AP,AP,AP,AP,AP,AP,⟨[.xl Ae s.p.cs,.xl .str s.p.os,.xl Ak s.p.ks,.xl Af s.p.gs,.xl Al s.p.bs,.v<|ah J s.p.tk,.v<|.bool s.p.up,.xl AO s.p.ls,.v<|ah J s.p.se,.xl (.int ax) s.p.fl,.xl Aq s.p.ra,.v<|ah J s.p.nx,.xl B7 s.p.st,.xl AO s.p.ca,.xl BC s.p.mi,.xl BU s.p.me,.xl Ai s.p.dm,.xl BP s.p.lk,.xl A7 s.p.dr,.xl A7 s.p.tg,.v<|ah J s.ev.ek,.v<|ah J s.ev.en,.v<|ah J s.ev.em,.v<|ah J s.ev.c1,.v<|ah J s.ev.c2,.v<|ah J s.ev.c3,.v<|ah J s.ev.c4,.v<|ah J s.ev.c5,.v<|.bool s.ev.d1,.v<|ah J s.ev.d2,.v<|ah J s.ev.d3,.v<|ah J s.ev.d4,.xl A7 s.dw],103,.cl,X⟩]
def jM (s:I2):T Y5:=letI a:=PK.AK s.p;letI b:=Jq<|Hv s;letI c:=(M a.gs:Y);letI d:=AR (KX<|Jt s).left;letI e:=AA<|a.tk+1;letI f:=(au c.toNat (0:Y));.br (s.p.tk==1000000) (.rz s.p.cs<|.rz s.p.ls<|.rz s.p.fl<|.rz s.p.ra<|.rz s.p.st<|.rz s.p.ca<|.rz s.p.mi<|.rz s.p.me<|.rz s.p.dm<|.rz s.p.lk<|.rz s.p.dr<|.rz s.p.tg<|.ok<|⟨15,⟨AR s.p.cs,s.p.os,s.p.ks,s.p.gs,s.p.bs,s.p.tk,s.p.up,AR s.p.ls,s.p.se,AR s.p.fl,AR s.p.ra,s.p.nx,AR s.p.st,AR s.p.ca,AR s.p.mi,AR s.p.me,AR s.p.dm,AR s.p.lk,AR s.p.dr,AR s.p.tg⟩,s.ev,([]:aC)⟩)<|.pc s.p<|.req (aj6 (⟨s.p,s.ev⟩:Ls))<|.r0 Lk<|.pd a<|.req (UR.q<|Jt s)<|.rz (KX<|Jt s).left (.rl a.dr<|.rl a.cs<|.rl (KX<|Jt s).p.st<|.rl a.ca<|.rl a.mi<|.rl a.me<|.rl a.dr<|.rl a.tg<|.req (S4.q<|T7 s)<|.rm 8 c<|.rl a.cs<|.rl (fU<|T7 s).p.st<|.rl a.ca<|.rl a.mi<|.rl a.me<|.rl a.dr<|.rl a.tg<|.re c.toNat f<|.req (UM.q<|Hv s)<|.br (! a.up) (.rz a.cs<|.rz b.p.st<|.rz a.ca<|.rz b.p.mi<|.rz b.p.me<|.rz a.dr<|.rz a.tg<|.rz b.dw<|.ok<|⟨0,{a with cs:=AR a.cs,tk:=e,st:=AR b.p.st,ca:=AR a.ca,mi:=AR b.p.mi,me:=AR b.p.me,lk:=d,dr:=AR a.dr,tg:=AR a.tg},s.ev,AR b.dw⟩)<|.br ((JV a.ls c e)==0) (.rm 8 c<|.rz b.p.st<|.rz a.ca<|.rz b.p.mi<|.rz b.p.me<|.rz a.dr<|.re c.toNat f<|.rl a.cs<|.rl a.tg<|.rl b.dw<|.req (Rf.q<|eK s)<|.rl (gA<|eK s).out<|.rl a.cs<|.rl a.tg<|.rl b.dw<|.req (Rg.q<|T6 s)<|.rz (gB<|T6 s).D9<|.rl a.tg<|.rl a.cs<|.rl a.tg<|.rl b.dw<|.req (Pk.q<|T5 s)<|.rz (TK<|T5 s).p.cs<|.rz a.tg<|.rz b.dw<|.ok<|⟨0,{a with cs:=AR (TK<|T5 s).p.cs,tk:=e,st:=AR b.p.st,ca:=AR a.ca,mi:=AR b.p.mi,me:=AR b.p.me,lk:=d,dr:=AR a.dr,tg:=AR a.tg},s.ev,AR b.dw⟩)<|.rz b.p.st<|.rz a.ca<|.rz b.p.mi<|.rz b.p.me<|.rz a.dr<|.rl a.tg<|.rl a.cs<|.rl a.tg<|.rl b.dw<|.req (Pk.q<|T4 s)<|.rz (TK<|T4 s).p.cs<|.rz a.tg<|.rz b.dw<|.ok<|⟨0,{a with cs:=AR (TK<|T4 s).p.cs,tk:=e,st:=AR b.p.st,ca:=AR a.ca,mi:=AR b.p.mi,me:=AR b.p.me,lk:=d,dr:=AR a.dr,tg:=AR a.tg},s.ev,AR b.dw⟩)
def aCd (s:I2):Prop:=(VP s.p/\RQ s.p)/\VK s.p.se s.p.fl/\B1 s.p.ls=U
def UA (s:I2):Y5:=⟨PK.Ic s.p,Jk (PK.Ic s.p) (PK.BM s.p) s.p,s.ev,if PK.Ic s.p=0 then PK.Fp s.p else []⟩
def aCy:D4 I2 Y5:=⟨UU,ZY,λv b=>⟨rF b,rG b⟩,aCd,[0,1,3],[.pc 16 0 Ae,.kb 4,.pc 16 7 AO,.kb 5,.pc 16 9<|.int ax,.kb 6,.pc 16 10 Aq,.kb 7,.pc 16 12 B7,.kb 8,.pc 16 13 AO,.kb 9,.pc 16 14 BC,.kb 10,.pc 16 15 BU,.kb 11,.pc 16 16 Ai,.kb 12,.pc 16 17 BP,.kb 13,.pc 16 18 A7,.kb 14,.pc 16 19 A7,.kb 15,.pc 16 32 A7],acz,acv,UA⟩
abbrev aix (s:I2):Prop:=aCd s/\UU s=UU s/\ZY s=ZY s
def X7:aO:=[PA,XW,Xa,XZ,XX,Wm,Wo,R6]
def aT8:Az:=IL X7 (la 11 func50 WX<|la 6 func50 TJ<|la 3 func33 Qm<|la 2 func49 Oz<|la 1 func48 NX<|la 2 func57 MU<|la 9 func16 Cv<|l0 X7) [⟨46,Pa.m,Te⟩]
def aVb:DV:=CR 50 21 11 (Pk.lp)<|CR 50 21 6 (Rg.lp)<|CR 33 21 3 (Rf.lp)<|CR 49 20 2 (UM.lp)<|CR 48 20 1 (S4.lp)<|CR 57 19 2 (UR.lp)<|CR 16 0 9 (HN.lp)<|EM prog AU X7 20 2
def aqJ:EZ prog AU aVb:=DL func50 rfl AX WX<|DL func50 rfl AX TJ<|DL func33 rfl AX Qm<|DL func49 rfl AX Oz<|DL func48 rfl AX NX<|DL func57 rfl AX MU<|DL func16 rfl AX Cv<|Hz<|gk X7
def agl (s:I2):((Em prog AU X7 aVb aT8).k 18 (UU s)<|ZY s).bind (λq=>GP (M<|ZY s) [0] [.pc 16 0 Ae,.kb 4,.pc 16 7 AO,.kb 5,.pc 16 9<|.int ax,.kb 6,.pc 16 10 Aq,.kb 7,.pc 16 12 B7,.kb 8,.pc 16 13 AO,.kb 9,.pc 16 14 BC,.kb 10,.pc 16 15 BU,.kb 11,.pc 16 16 Ai,.kb 12,.pc 16 17 BP,.kb 13,.pc 16 18 A7,.kb 14,.pc 16 19 A7,.kb 15,.pc 16 32 A7] .normal (q.1::UU s) q.2)=(jM s).mp (λs2=>⟨.normal,M (UU s)+1,[acz s2],acv s2,U⟩):=AX
def axq (s:I2) (hE:aCd s):(jM s).all (λq=>q=UA s):=by
 obtain ⟨⟨hV,hR⟩,hK,hls⟩:=id hE
 have hq:=hV.dec
 have hs:=D7.1 hq.site
 have hs0:=D7.1 hV.site
 have htk:s.p.AK.tk=s.p.tk:=(IV s.p).2.2.2.2.2.1
 have hd:=aTM hR A0
 have hp:=hV.tk
 have A1:m8 (Jt s):=⟨rfl,rfl,by show (M s.p.AK.lk:Y)<=20000000;omega,ye,hq.lk,hq.st⟩
 have q1:=(avz _ A1).2
 have r1:(KX<|Jt s).p.st=s.p.AK.L2.st:=by
  refine (Prod.mk.inj q1).1.trans ?_
  show (s.p.AK.lk.drop 0).foldl _ _=LH _ _ _ _ _
  rw [aFn _<|Ar _,Ej];rfl
 have r2:(KX<|Jt s).left=s.p.AK.L2.lk:=(Prod.mk.inj q1).2
 have h2:T7 s=⟨(M s.p.AK.dr:Y),0,s.p.AK.L2,s.ev⟩:=by
  unfold T7;rw [r1,Fo,r2];rfl
 have A2:lz (T7 s):=by
  rw [h2];exact ⟨rfl,rfl,hq.dr,by show (M s.p.AK.dr:Y)<=1000;rw [hq.dr];omega,hq.arr.st,by show 0<=s.p.AK.tk/\s.p.AK.tk<=1000000;rw [htk];exact hp⟩
 have r3:(fU<|T7 s).p.st=s.p.Ag.st:=by
  refine (avV _ A2).2.trans ?_;rw [h2]
  show FE (cnt1 s.p.AK.gs s.p.AK.dr s.p.AK.tk) 0 s.p.AK.L2.st ((M s.p.AK.dr:Y)-0).toNat=_
  rw [QL,C0,ai1];rfl
 have h3:Hv s=⟨s.p.Ag.gs,(M s.p.Ag.gs:Y),0,s.p.Ag,s.ev,au (M s.p.Ag.gs) 0⟩:=by
  unfold Hv;rw [r3,Fo,r2,C0];rfl
 have hb:VP s.p.Ag:=hq.arr.cnt
 have A3:kB (Hv s):=by
  rw [h3];exact ⟨rfl,rfl,yk,rfl,hb.st,hb.ca,hb.mi,hb.me,Cf⟩
 have q4:=(auF _ A3).2
 have q4:(⟨(Jq<|Hv s).p.st,(Jq<|Hv s).p.mi,(Jq<|Hv s).p.me,(Jq<|Hv s).dw⟩:DW)=s.p.Ag.dw:=by
  refine q4.trans ?_;rw [h3]
  show FE (λk d=>Fe s.p.Ag.gs s.p.Ag.ca d (k:Y)) 0 _ ((M s.p.Ag.gs:Y)-0).toNat=_
  rw [QL,C0,amJ];rfl
 have r4:(Jq<|Hv s).p.st=s.p.Ag.dw.st:=B0 DW.st q4
 have r5:(Jq<|Hv s).p.mi=s.p.Ag.dw.mi:=B0 DW.mi q4
 have r6:(Jq<|Hv s).p.me=s.p.Ag.dw.me:=B0 DW.me q4
 have r7:(Jq<|Hv s).dw=s.p.Ag.dw.dw:=B0 DW.dw q4
 have hw:AA (s.p.AK.tk+1)=s.p.AK.tk+1:=AJ
 have hdr:VP s.p.Ag.BX:=hb.drw
 unfold jM;simp only [Fo,r2,r3,r4,r5,r6,r7,hw];refine ⟨λc=>?_,λc=>?_⟩
 ·have e:s.p.Ic=15:=AD (eq_of_beq c)
  repeat (refine ⟨Di,?_⟩)
  show _=_
  unfold UA;rw [e,Ju Ac,AE Ac]
 have e:s.p.Ic=0:=AE<|CV.1 c
 repeat (refine ⟨Di,?_⟩)
 refine ⟨⟨hE,rfl,rfl⟩,?_⟩
 repeat (refine ⟨Di,?_⟩)
 refine ⟨⟨A1,rfl,rfl⟩,?_⟩
 repeat (refine ⟨Di,?_⟩)
 refine ⟨⟨A2,rfl,rfl⟩,?_⟩
 repeat (refine ⟨Di,?_⟩)
 refine ⟨⟨A3,rfl,rfl⟩,λc2=>?_,λc2=>?_⟩
 ·have c2:s.p.Ag.BX.up=false:=(D6 _).mp c2
  repeat (refine ⟨Di,?_⟩)
  show _=_
  unfold UA;rw [e,Lm rfl,AD rfl];unfold PK.BM PK.K5;rw [AD c2];rfl
 have hu:¬s.p.Ag.BX.up=false:=by intro h;rw [show s.p.AK.up=X from h] at c2;cases c2
 have R:∀ {am cs},s.p.Ag.BX.Jj=am->Cl s.p.Ag.BX.gs s.p.Ag.BX.tg am s.p.Ag.BX.cs (M s.p.Ag.BX.tg)=cs->s.p.BM={s.p.AK with cs:=cs,tk:=s.p.AK.tk+1,st:=s.p.Ag.dw.st,mi:=s.p.Ag.dw.mi,me:=s.p.Ag.dw.me,lk:=s.p.AK.L2.lk}:=λh1 h2=>by
  unfold PK.BM PK.K5;rw [AE hu,h1,h2];rfl
 refine ⟨λc3=>?_,λc3=>?_⟩
 ·have c3:JV s.p.AK.ls (M s.p.AK.gs) (s.p.AK.tk+1)=0:=eq_of_beq c3
  have cO:KB s.p.AK.ls (M s.p.AK.gs) (s.p.AK.tk+1)=true:=by
   unfold JV at c3;split at c3
   ·assumption
   ·cases c3
  have cL:HL s.p.AK.ls (M s.p.AK.gs) (s.p.AK.tk+1)=GQ (M s.p.AK.gs) s.p.AK.ls (s.p.AK.tk+1):=by
   unfold HL;rw [AD cO,C0]
  have hl:B1 s.p.AK.ls=true:=by
   unfold KB at cO;simp only [AV] at cO;exact cO.1.1
  have hsA:s.p.Ag.BX.Jj=Cx s.p.AK.gs s.p.AK.ls (s.p.AK.tk+1):=AD c3
  have A4:kO (eK s):=⟨rfl,rfl,yk,by show M (au (M s.p.AK.gs:Y).toNat (0:Y))=_;rw [Cf,C0];rfl,λj _ _=>Jv,an⟩
  obtain ⟨_,_,_,q5⟩:=at6 _ A4
  have q5:(gA<|eK s).out=Bq s.p.AK.gs:=q5
  have hlen:M (GQ (M s.p.AK.gs) s.p.AK.ls<|s.p.AK.tk+1)=M s.p.AK.gs:=eW
  have h6:T6 s=⟨GQ (M s.p.AK.gs) s.p.AK.ls<|s.p.AK.tk+1,(M s.p.AK.gs:Y),0,s.p.Ag.BX,s.ev,s.p.Ag.dw.dw,Bq s.p.AK.gs⟩:=by
   unfold T6;simp only [Fo,r2,r4,r5,r6,r7,hw,q5,cL,hlen];rfl
  have A5:kP (T6 s):=by
   rw [h6];refine ⟨rfl,by show (M s.p.AK.gs:Y)=_;rw [hlen],yk,by show M (Bq s.p.AK.gs)=_;rw [hlen];exact IU,λj j0 j1=>(show gi (Bq s.p.AK.gs) j=CY (AG s.p.AK.gs j) from NO j0 j1),an⟩
  obtain ⟨_,_,_,q6⟩:=at7 _ A5
  have q6:(gB<|T6 s).D9=Cx s.p.AK.gs s.p.AK.ls (s.p.AK.tk+1):=by
   refine q6.trans ?_;rw [h6]
   show HR (M<|GQ (M s.p.AK.gs) s.p.AK.ls<|s.p.AK.tk+1) _=_
   rw [hlen];rfl
  have h7:T5 s=⟨Cx s.p.AK.gs s.p.AK.ls<|s.p.AK.tk+1,(M s.p.AK.tg:Y),0,s.p.Ag.BX,s.ev,s.p.Ag.dw.dw⟩:=by
   unfold T5;simp only [Fo,r2,r4,r5,r6,r7,q6];rfl
  have A6:YB (T5 s):=by
   rw [h7];exact ⟨rfl,rfl,hq.Es,hq.site,hq.tg1,λ_ k hk=>IW hq.site hl A0 (by have:M (Cx s.p.AK.gs s.p.AK.ls<|s.p.AK.tk+1)=M s.p.AK.gs:=IU;have hk:k<M (Cx s.p.AK.gs s.p.AK.ls<|s.p.AK.tk+1):=hk;omega)⟩
  have q7:(TK<|T5 s).p.cs=Cl s.p.AK.gs s.p.AK.tg (Cx s.p.AK.gs s.p.AK.ls<|s.p.AK.tk+1) s.p.AK.cs (M s.p.AK.tg):=by
   exact aMr
  repeat (refine ⟨Di,?_⟩)
  refine ⟨⟨A4,rfl,rfl⟩,?_⟩
  repeat (refine ⟨Di,?_⟩)
  refine ⟨⟨A5,rfl,rfl⟩,?_⟩
  repeat (refine ⟨Di,?_⟩)
  refine ⟨⟨A6,rfl,rfl⟩,?_⟩
  repeat (refine ⟨Di,?_⟩)
  show _=_
  unfold UA;rw [e,Lm rfl,AD rfl,R hsA q7.symm];rfl
 ·have c3:¬JV s.p.AK.ls (M s.p.AK.gs) (s.p.AK.tk+1)=0:=CV.1 c3
  have hsA:s.p.Ag.BX.Jj=[]:=AE c3
  have h7:T4 s=⟨[],(M s.p.AK.tg:Y),0,s.p.Ag.BX,s.ev,s.p.Ag.dw.dw⟩:=by
   unfold T4;simp only [Fo,r2,r4,r5,r6,r7];rfl
  have A6:YB (T4 s):=by
   rw [h7];exact ⟨rfl,rfl,hq.Es,hq.site,hq.tg1,λ_ k hk=>NG⟩
  have q7:(TK<|T4 s).p.cs=Cl s.p.AK.gs s.p.AK.tg [] s.p.AK.cs (M s.p.AK.tg):=by
   exact aMr
  repeat (refine ⟨Di,?_⟩)
  refine ⟨⟨A6,rfl,rfl⟩,?_⟩
  repeat (refine ⟨Di,?_⟩)
  show _=_
  unfold UA;rw [e,Lm rfl,AD rfl,R hsA q7.symm];rfl
def aiM:Dk prog AU 18 aCy.m:=D4.sound (D:=aCy) (t:=jM) (gk X7) aqJ aT8.h agl λs hE=>⟨axq s hE⟩
def JP (p:PK):Prop:=(VP p/\RQ p)/\VK p.se p.fl/\B1 p.ls=U
variable {p : PK} {ev : EW}
def pH {e:EV}(h:Bk p e≠0):BA p e=PK0/\DI p e=[]:=⟨AD h,AD h⟩
def aD9 (hv:Er p=U) (h:ev.ek=1):Bk p ev.ev=p.Ic/\(p.Ic=0->BA p ev.ev=p.BM/\DI p ev.ev=p.Fp):=by
 exact QQ
def aLf (hv:Er p=U) (h:ev.ek=2):Bk p ev.ev=p.GM ev.en ev.c ev.d/\(p.GM ev.en ev.c ev.d=0->BA p ev.ev=p.Nt ev.en ev.c ev.d/\DI p ev.ev=[]):=by
 exact QQ
def aLe (hv:Er p=U) (h:ev.ek=3):Bk p ev.ev=p.JG ev.en/\(p.JG ev.en=0->BA p ev.ev=p.Q0 ev.en/\DI p ev.ev=[]):=by
 exact QQ
def aLd (hv:Er p=U) (h:ev.ek=4):Bk p ev.ev=p.Nv ev.en/\(p.Nv ev.en=0->BA p ev.ev=p.ja ev.en/\DI p ev.ev=[]):=by
 exact QQ
def aLc (hv:Er p=U) (h:ev.ek=5):Bk p ev.ev=p.Nx/\(p.Nx=0->BA p ev.ev=p.Tx/\DI p ev.ev=[]):=by
 exact QQ
def aLb (hv:Er p=U) (h:ev.ek=6):Bk p ev.ev=p.Fq/\(p.Fq=0->BA p ev.ev=p.U8/\DI p ev.ev=[]):=by
 exact QQ
def aLa (hv:Er p=U) (h:ev.ek=7):Bk p ev.ev=p.Nr ev.en/\(p.Nr ev.en=0->BA p ev.ev=p.aa6 ev.en/\DI p ev.ev=[]):=by
 exact QQ
def aLZ (hv:Er p=U) (h:ev.ek=8):Bk p ev.ev=p.I7 ev.en ev.em/\(p.I7 ev.en ev.em=0->BA p ev.ev=p.LF ev.en ev.em/\DI p ev.ev=[]):=by
 exact QQ
def aLY (hv:Er p=U) (h:ev.ek≠1/\ev.ek≠2/\ev.ek≠3/\ev.ek≠4/\ev.ek≠5/\ev.ek≠6/\ev.ek≠7/\ev.ek≠8):Bk p ev.ev=9:=by
 obtain ⟨h1,h2,h3,h4,h5,h6,h7,h8⟩:=h
 simp [Bk,hv,EW.ev,h1,h2,h3,h4,h5,h6,h7,h8]
def JP.lb (h:JP p):LB p:=by
 obtain ⟨⟨hV,hR⟩,hK,_⟩:=h
 have hs:=D7.1 hV.site
 have hf:=hR.fl.2.1
 have hl:=hR.ls
 have hk:=hR.lk
 have hr:=hR.ra
 have ht:=hV.tk
 have h1:=hV.st
 have h2:=hV.ca
 have h3:=hV.mi
 have h4:=hV.me
 have h5:=hV.dm
 have h6:=hV.dr
 have h7:=hV.Es
 have hf:M p.fl=2048:=hf
 refine ⟨?_,?_,?_,?_,?_,?_,?_,?_,?_,?_,?_,?_,λm hm=>Hq (hR.mi m hm) Ac⟩<;>omega
end Go.Proofs.YtepoohnehmfflaaGreatDoor
namespace Go.Proofs.YtepoohnehmfflaaGreatDoor
set_option maxRecDepth 100000
set_option maxHeartbeats 4000000
open Go.Proofs.Tryz
open Go.Sx
def aLF:aE->T LV
 | [x_p,x_ev]=>(match cP x_p with
  |some p=>(match xE x_ev with
  |some ev=> .req (JP p) (.ok<|.AQ [BA p<|EW.ev ev,.xl A7<|DI p<|EW.ev ev,Bk p<|EW.ev ev])
  |none=> .no)
  |none=> .no)
 |_=> .no
def tkO (p:PK) (ev:EW):PK:=Jk (PK.Ic p) (PK.BM p)<|p
def adl (p:PK) (ev:EW):PK:=Jk (PK.GM p ev.en (EW.c ev)<|EW.d ev) (PK.Nt p ev.en (EW.c ev)<|EW.d ev)<|p
def adn (p:PK) (ev:EW):PK:=Jk (PK.JG p ev.en) (PK.Q0 p ev.en)<|p
def adi (p:PK) (ev:EW):PK:=Jk (PK.Nv p ev.en) (PK.ja p ev.en)<|p
def adk (p:PK) (ev:EW):PK:=Jk (PK.Nx p) (PK.Tx p)<|p
def ado (p:PK) (ev:EW):PK:=Jk (PK.Fq p) (PK.U8 p)<|p
def LN (e:Y):LV:=.AQ [.agg [.xl Ae ([]:aL),.xl .str ([]:aF),.xl Ak ([]:aR),.xl Af ([]:aG),.xl Al ([]:aS),.v<|ah J 0,.v<|.bool X,.xl AO ([]:aM),.v<|ah J 0,.xl (.int ax) ([]:aC),.xl Aq ([]:bx),.v<|ah J 0,.xl B7 ([]:bg),.xl AO ([]:aM),.xl BC ([]:aVC),.xl BU ([]:aVK),.xl Ai ([]:bc),.xl BP ([]:bz),.xl A7 ([]:aC),.xl A7 ([]:aC)],.xl A7 ([]:aC),.v<|ah J e]
def ib:aO:=[ak2]
def aT7:Az:=IL ib (la 11 func50 WX<|la 6 func50 TJ<|la 3 func33 Qm<|la 2 func49 Oz<|la 1 func48 NX<|la 2 func57 MU<|la 9 func16 Cv<|l0 ib) [⟨16,Qy λa=>mC.m a [],ahx⟩,⟨18,aCy.m,aiM⟩,⟨19,aD0.m,aiO⟩,⟨20,aD2.m,aiR⟩,⟨21,aD1.m,aiQ⟩,⟨22,aD3.m,aiS⟩,⟨23,aCz.m,aiN⟩,⟨24,aCx.m,aiL⟩,⟨25,aD4.m,aiT⟩]
def ati (p:PK) (ev:EW):letI a:=adl p ev;letI b:=adn p ev;letI e:=adi p ev;letI f:=adk p ev;letI g:=ado p ev;letI h:=(azy (⟨p⟩:MY));letI i:=M p.me;letI j:=M p.dm;letI k:=M p.lk;letI l:=M p.dr;letI m:=M p.tg;letI n:=PK.GM p ev.en (EW.c ev)<|EW.d ev;Bu prog AU (ib) aT7 Ap f8 [p,ev]=.req (M p.lk<=100000000) (.br (!(Er p)) (.ok<|LN 1)<|.br (ev.ek==(1:Y)) (.req h<|.rv (ev)<|.pa p<|.rl p.st<|.rl p.ca<|.rl p.mi<|.re i p.me<|.re j p.dm<|.re k p.lk<|.re l p.dr<|.re m p.tg<|.req (aix (⟨p,ev⟩:I2))<|.br ((PK.Ic p) !=0) (.ok<|LN<|PK.Ic p)<|.ok<|.AQ [tkO p ev,.xl A7 (if PK.Ic (p)=0 then PK.Fp p else []),(0:Y)])<|.br (ev.ek==(2:Y)) (.req h<|.rv (ev)<|.pa p<|.rl p.st<|.rl p.ca<|.rl p.mi<|.re i p.me<|.re j p.dm<|.re k p.lk<|.re l p.dr<|.re m p.tg<|.req (aiz (⟨p,ev⟩:Nq))<|.br (n !=0) (.ok<|LN n)<|.rz a.cs<|.rz a.ls<|.rz a.fl<|.rz a.ra<|.rz a.st<|.rz a.ca<|.rz a.mi<|.rz a.me<|.rz a.dm<|.rz a.lk<|.rz a.dr<|.rz a.tg<|.ok<|.AQ [.agg [AR a.cs,a.os,a.ks,a.gs,a.bs,a.tk,a.up,AR a.ls,a.se,.xl (.int ax)<|AR a.fl,AR a.ra,a.nx,AR a.st,AR a.ca,AR a.mi,AR a.me,AR a.dm,AR a.lk,.xl A7<|AR a.dr,.xl A7<|AR a.tg],.xl A7 ([]:aC),(0:Y)])<|.br (ev.ek==(3:Y)) (.req h<|.rv (ev)<|.pa p<|.rl p.st<|.rl p.ca<|.rl p.mi<|.re i p.me<|.re j p.dm<|.re k p.lk<|.re l p.dr<|.re m p.tg<|.req (aj1 (⟨p,ev⟩:O8))<|.br ((PK.JG p ev.en) !=0) (.ok<|LN<|PK.JG p ev.en)<|.rz b.cs<|.rz b.ls<|.rz b.fl<|.rz b.ra<|.rz b.st<|.rz b.ca<|.rz b.mi<|.rz b.me<|.rz b.dm<|.rz b.lk<|.rz b.dr<|.rz b.tg<|.ok<|.AQ [.agg [AR b.cs,b.os,b.ks,b.gs,b.bs,b.tk,b.up,AR b.ls,b.se,.xl (.int ax)<|AR b.fl,AR b.ra,b.nx,AR b.st,AR b.ca,AR b.mi,AR b.me,AR b.dm,AR b.lk,.xl A7<|AR b.dr,.xl A7<|AR b.tg],.xl A7 ([]:aC),(0:Y)])<|.br (ev.ek==(4:Y)) (.req h<|.rv (ev)<|.pa p<|.rl p.st<|.rl p.ca<|.rl p.mi<|.re i p.me<|.re j p.dm<|.re k p.lk<|.re l p.dr<|.re m p.tg<|.req (aj0 (⟨p,ev⟩:O7))<|.br ((PK.Nv p ev.en) !=0) (.ok<|LN<|PK.Nv p ev.en)<|.rz e.cs<|.rz e.ls<|.rz e.fl<|.rz e.ra<|.rz e.st<|.rz e.ca<|.rz e.mi<|.rz e.me<|.rz e.dm<|.rz e.dr<|.rz e.tg<|.ok<|.AQ [.agg [AR e.cs,e.os,e.ks,e.gs,e.bs,e.tk,e.up,AR e.ls,e.se,.xl (.int ax)<|AR e.fl,AR e.ra,e.nx,AR e.st,AR e.ca,AR e.mi,AR e.me,AR e.dm,e.lk,.xl A7<|AR e.dr,.xl A7<|AR e.tg],.xl A7 ([]:aC),(0:Y)])<|.br (ev.ek==(5:Y)) (.req h<|.rv (ev)<|.pa p<|.rl p.st<|.rl p.ca<|.rl p.mi<|.re i p.me<|.re j p.dm<|.re k p.lk<|.re l p.dr<|.re m p.tg<|.req (aj2 (⟨p,ev⟩:O9))<|.br ((PK.Nx p) !=0) (.ok<|LN<|PK.Nx p)<|.rz f.cs<|.rz f.fl<|.rz f.ra<|.rz f.st<|.rz f.ca<|.rz f.mi<|.rz f.me<|.rz f.dm<|.rz f.lk<|.rz f.dr<|.rz f.tg<|.ok<|.AQ [.agg [AR f.cs,f.os,f.ks,f.gs,f.bs,f.tk,f.up,f.ls,f.se,.xl (.int ax)<|AR f.fl,AR f.ra,f.nx,AR f.st,AR f.ca,AR f.mi,AR f.me,AR f.dm,AR f.lk,.xl A7<|AR f.dr,.xl A7<|AR f.tg],.xl A7 ([]:aC),(0:Y)])<|.br (ev.ek==(6:Y)) (.req h<|.rv (ev)<|.pa p<|.rl p.st<|.rl p.ca<|.rl p.mi<|.re i p.me<|.re j p.dm<|.re k p.lk<|.re l p.dr<|.re m p.tg<|.req (aiy (⟨p,ev⟩:Np))<|.br ((PK.Fq p) !=0) (.ok<|LN<|PK.Fq p)<|.rz g.cs<|.rz g.st<|.rz g.ca<|.rz g.mi<|.rz g.me<|.rz g.dm<|.rz g.lk<|.rz g.dr<|.rz g.tg<|.ok<|.AQ [.agg [AR g.cs,g.os,g.ks,g.gs,g.bs,g.tk,g.up,g.ls,g.se,.xl (.int ax) g.fl,g.ra,g.nx,AR g.st,AR g.ca,AR g.mi,AR g.me,AR g.dm,AR g.lk,.xl A7<|AR g.dr,.xl A7<|AR g.tg],.xl A7 ([]:aC),(0:Y)])<|.br (ev.ek==(7:Y)) (.req h<|.rv (ev)<|.pa p<|.rl p.st<|.rl p.ca<|.rl p.mi<|.re i p.me<|.re j p.dm<|.re k p.lk<|.re l p.dr<|.re m p.tg<|.req (aiw (⟨p,ev⟩:No))<|.br ((PK.Nr p ev.en) !=0) (.ok<|LN<|PK.Nr p ev.en)<|.rz p.cs<|.rz p.ls<|.rz p.fl<|.rz p.ra<|.rz (if PK.isC p ev.en=U then CU p.gs p.st ev.en 6 1 0 else p.st)<|.rz p.ca<|.rz p.mi<|.rz p.me<|.rz p.dm<|.rz p.lk<|.rz p.dr<|.rz p.tg<|.ok<|.AQ [.agg [AR p.cs,p.os,p.ks,p.gs,p.bs,p.tk,p.up,AR p.ls,p.se,.xl (.int ax)<|AR p.fl,AR p.ra,p.nx,AR (if PK.isC p ev.en=U then CU p.gs p.st ev.en 6 1 0 else p.st),AR p.ca,AR p.mi,AR p.me,AR p.dm,AR p.lk,.xl A7<|AR p.dr,.xl A7<|AR p.tg],.xl A7 ([]:aC),(0:Y)])<|.br (ev.ek==(8:Y)) (.req h<|.rv (ev)<|.pa p<|.rl p.st<|.rl p.ca<|.rl p.mi<|.re i p.me<|.re j p.dm<|.re k p.lk<|.re l p.dr<|.re m p.tg<|.req (aj3 (⟨p,ev⟩:Ms))<|.br ((PK.I7 p ev.en ev.em) !=0) (.ok<|LN<|PK.I7 p ev.en ev.em)<|.rz p.cs<|.rz p.ls<|.rz p.fl<|.rz p.ra<|.rz p.st<|.rz p.ca<|.rz p.mi<|.rz p.me<|.rz p.dm<|.rz p.lk<|.rz p.dr<|.rz (if PK.I7 p ev.en ev.em=1 then p.tg else p.tg.set ev.en.toNat ev.em)<|.ok<|.AQ [.agg [AR p.cs,p.os,p.ks,p.gs,p.bs,p.tk,p.up,AR p.ls,p.se,.xl (.int ax)<|AR p.fl,AR p.ra,p.nx,AR p.st,AR p.ca,AR p.mi,AR p.me,AR p.dm,AR p.lk,.xl A7<|AR p.dr,.xl A7<|AR (if PK.I7 p ev.en ev.em=1 then p.tg else p.tg.set ev.en.toNat ev.em)],.xl A7 ([]:aC),(0:Y)])<|.ok<|LN 9):=AX
def gM:=vo (S:=aLF) func8 ib aT7 (λargs lv h=>by
 refine ⟨?_⟩;unfold aLF at h;split at h
 ·split at h
  case h_2=>cases h
  rename_i p hp;obtain rfl:=sJ hp;split at h
  case h_2=>cases h
  rename_i ev hev;obtain rfl:=auj hev;simp only [canL,canX];rw [ati];obtain ⟨hJ,rfl⟩:=h;obtain ⟨⟨hV,hR⟩,hK,hl⟩:=id hJ
  have hv:=W2.2 hV
  have hs:=D7.1 hV.site
  have hlb:=hJ.lb
  have D:kE ⟨p⟩:=hlb
  have hlk:=hlb.lk
  refine ⟨A0,λc=>?_,λ_=>?_⟩
  ·rw [hv] at c
   cases c
  refine ⟨λc1=>?_,λc1=>?_⟩
  ·have c1:ev.ek=1:=eq_of_beq c1
   obtain ⟨s1,s2⟩:=aD9 hv c1;refine ⟨⟨D,rfl,rfl⟩,rfl,?_⟩
   repeat (refine ⟨Di,?_⟩)
   refine ⟨⟨hJ,rfl,rfl⟩,λc=>?_,λc=>?_⟩
   ·exact QP
   ·have c:=Dy c
    repeat (refine ⟨LY,?_⟩)
    show _=_
    rw [(s2 c).1,(s2 c).2,s1,c];simp only [Fo];rw [show tkO p ev=_ from Lm c,AD trivial]
  refine ⟨λc1=>?_,λc2=>?_⟩
  ·have c1:ev.ek=2:=eq_of_beq c1
   obtain ⟨s1,s2⟩:=aLf hv c1;refine ⟨⟨D,rfl,rfl⟩,rfl,?_⟩
   repeat (refine ⟨Di,?_⟩)
   refine ⟨⟨⟨hV.st,cA,hV.ca,hV.mi,hV.dm⟩,rfl,rfl⟩,λc=>?_,λc=>?_⟩
   ·exact QP
   ·have c:=Dy c
    repeat (refine ⟨Di,?_⟩)
    show _=_
    rw [(s2 c).1,(s2 c).2,s1,c];simp only [Fo];rw [show adl p ev=_ from Lm c]
  refine ⟨λc1=>?_,λc3=>?_⟩
  ·have c1:ev.ek=3:=eq_of_beq c1
   obtain ⟨s1,s2⟩:=aLe hv c1;refine ⟨⟨D,rfl,rfl⟩,rfl,?_⟩
   repeat (refine ⟨Di,?_⟩)
   refine ⟨⟨⟨hV.st,cA,hV.ca,hV.mi,hV.dm⟩,rfl,rfl⟩,λc=>?_,λc=>?_⟩
   ·exact QP
   ·have c:=Dy c
    repeat (refine ⟨Di,?_⟩)
    show _=_
    rw [(s2 c).1,(s2 c).2,s1,c];simp only [Fo];rw [show adn p ev=_ from Lm c]
  refine ⟨λc1=>?_,λc4=>?_⟩
  ·have c1:ev.ek=4:=eq_of_beq c1
   obtain ⟨s1,s2⟩:=aLd hv c1;refine ⟨⟨D,rfl,rfl⟩,rfl,?_⟩
   repeat (refine ⟨Di,?_⟩)
   refine ⟨⟨⟨cA,hlk⟩,rfl,rfl⟩,λc=>?_,λc=>?_⟩
   ·exact QP
   ·have c:=Dy c
    repeat (refine ⟨Di,?_⟩)
    show _=_
    rw [(s2 c).1,(s2 c).2,s1,c];simp only [Fo];rw [show adi p ev=_ from Lm c]
  refine ⟨λc1=>?_,λc5=>?_⟩
  ·have c1:ev.ek=5:=eq_of_beq c1
   obtain ⟨s1,s2⟩:=aLc hv c1;refine ⟨⟨D,rfl,rfl⟩,rfl,?_⟩
   repeat (refine ⟨Di,?_⟩)
   refine ⟨⟨an,rfl,rfl⟩,λc=>?_,λc=>?_⟩
   ·exact QP
   ·have c:=Dy c
    repeat (refine ⟨Di,?_⟩)
    show _=_
    rw [(s2 c).1,(s2 c).2,s1,c];simp only [Fo];rw [show adk p ev=_ from Lm c]
  refine ⟨λc1=>?_,λc6=>?_⟩
  ·have c1:ev.ek=6:=eq_of_beq c1
   obtain ⟨s1,s2⟩:=aLb hv c1;refine ⟨⟨D,rfl,rfl⟩,rfl,?_⟩
   repeat (refine ⟨Di,?_⟩)
   refine ⟨⟨⟨hR.fl.2.2,cA⟩,rfl,rfl⟩,λc=>?_,λc=>?_⟩
   ·exact QP
   ·have c:=Dy c
    repeat (refine ⟨Di,?_⟩)
    show _=_
    rw [(s2 c).1,(s2 c).2,s1,c];simp only [Fo];rw [show ado p ev=_ from Lm c]
  refine ⟨λc1=>?_,λc7=>?_⟩
  ·have c1:ev.ek=7:=eq_of_beq c1
   obtain ⟨s1,s2⟩:=aLa hv c1;refine ⟨⟨D,rfl,rfl⟩,rfl,?_⟩
   repeat (refine ⟨Di,?_⟩)
   refine ⟨⟨⟨hV.st,cA⟩,rfl,rfl⟩,λc=>?_,λc=>?_⟩
   ·exact QP
   ·have c:=Dy c
    have hc:p.isC ev.en=true:=by
     cases e:p.isC ev.en
     ·unfold PK.Nr at c
      rw [AD e] at c;cases c
     ·rfl
    repeat (refine ⟨Di,?_⟩)
    show _=_
    rw [(s2 c).1,(s2 c).2,s1,c];simp only [Fo];rw [AD hc];rfl
  refine ⟨λc1=>?_,λc8=>?_⟩
  ·have c1:ev.ek=8:=eq_of_beq c1
   obtain ⟨s1,s2⟩:=aLZ hv c1;refine ⟨⟨D,rfl,rfl⟩,rfl,?_⟩
   repeat (refine ⟨Di,?_⟩)
   refine ⟨⟨hV,rfl,rfl⟩,λc=>?_,λc=>?_⟩
   ·exact QP
   ·have c:=Dy c
    repeat (refine ⟨Di,?_⟩)
    show _=_
    rw [(s2 c).1,(s2 c).2,s1,c];simp only [Fo];rw [AE Ac];rfl
  have e:=aLY (ev:=ev) hv ⟨CV.1 c1,CV.1 c2,CV.1 c3,CV.1 c4,CV.1 c5,CV.1 c6,CV.1 c7,CV.1 c8⟩
  show LN _=_
  rw [(pH (by rw [e];decide)).1,(pH (by rw [e];decide)).2,e]
  rfl
 ·cases h)
structure OB where
 (k0 k i Hx:Y)
 Hy:aW
 WA:Y
 Fm:aW
 aqB:Y
 o:aC
def zx (s:OB):T (Rd OB):=letI a:=(s.o.set s.i.toNat (255:Y));.br (aq<|s.i<s.k) (.ik s.i (M s.o)<|.re (M s.o) a<|.nx {s with i:=AA<|s.i+1,o:=a})<|.rl s.o<|.so (.exit 0) s
def k8 (s:OB):Prop:=s.i=0/\s.k=(M s.o:Y)/\s.k<=4096
def lK (s:OB):Prop:=0<=s.i/\s.i<=s.k/\s.o.take s.i.toNat=au s.i.toNat 255/\s.k=(M s.o:Y)/\s.k<=4096
def vA (s:OB):aD:=(s.k-s.i).toNat
def acY (x:Ex) (s s':OB):Prop:=True
def amm:∀s,k8 s->lK s:=by
 rintro s ⟨h0,h2,h3⟩
 exact ⟨A0,A0,GI,h2,h3⟩
def ah9:Da lK vA acY zx:=by
 intro s hI;obtain ⟨h0,h1,hq,h2,h3⟩:=hI;refine AH (λc1=>?_) λc1=>trivial
 have c1:s.i<s.k:=A8
 rw [AJ (x:=s.i+1)];refine ⟨⟨A8,A8,?_,A8,h3⟩,by simp only [vA];omega⟩
 rw [show (s.i+1).toNat=s.i.toNat+1 by omega,Zc A8,List.take_set_of_le<|Ar _,hq,List.getElem_set_self,mQ]
def ZR:AS OB:=⟨1,43,[4,5,6,33,34],[],λs=>[.own 1 0,s.k0,.own 2 0,s.k,s.i],λs=>[⟨[s.Hx,.v<|s.Hy],37,.cl,X⟩,⟨[s.WA,.v<|s.Fm],37,.cl,X⟩,⟨[s.aqB,.os 3 1 0<|M s.o],37,.cl,X⟩,bV 5 (.int ax) s.o],λv b=>⟨AL v 1,AL v 3,AL v 4,Am b 0 0,HD<|BE (CX b 0) 1,Am b 1 0,HD<|BE (CX b 1) 1,Am b 2 0,Ab (.int ax) b 3⟩,zx,λs r=> {s with i:=r.i,o:=r.o},λs=>s,λ_ s=>s,[.exit 0],k8,lK,vA⟩
abbrev Ol:=ZR.run
abbrev aKI:=ZR.Av
def Wq:aO:=[zm]
def ahm:Az:=kI Wq<|l0 Wq
def ay0:Rq lK zx:=by
 intro s hI;refine ⟨λc1=>⟨?_,?_,?_,an⟩,λc1=>⟨A9,an⟩⟩
 all_goals ((obtain ⟨h0,h1,hq,h2,h3⟩:=hI;(try simp only [Aa] at c1);first|omega|exact ⟨rfl,AI⟩))
def aRe:ZR.Ok:={}
def aRH:ZR.Pf (acY):=⟨amm,λs h=>rfl,ah9,ay0⟩
def arT:=s2 (b:=bN f72 0) aRe aRH Wq ahm
def auo:Rs k8 aKI Ol (λs:OB=>au s.k.toNat 255) (λx s' (v:aC)=>x=.exit 0/\s'.o=v):=DY aRe aRH (λs hI=>by
  obtain ⟨h0,h1,hq,h2,h3⟩:=hI;refine AH (λc1=>rfl) λc1=>⟨rfl,?_⟩
  have c1:s.k<=s.i:=A8
  rw [show s.i.toNat=s.k.toNat by omega,DS A0] at hq
  exact hq)
def aUK:aE->T LV
 | [.v (ah J a),.v (ah J b)]=> .req (a=512/\b=4) (.ok<|.AQ [.agg [(512:Y),.xl (.int ax) Eb],(0:Y)])
 |_=> .no
def Js (a b:Y):OB:=(⟨0,(((AA<|a*b).toNat:aD):Y),0,0,.slice ak 0 0,0,.slice ak 0 0,a,au (AA<|a*b).toNat (0:Y)⟩:OB)
def ahl:Az:=kI Wq<|la 5 func72 arT<|l0 Wq
def atH:M Eb=2048:=LY
def atI:BG [80,0,0,0,0] (au (Int.toNat 2048) 255)=Eb:=by
 have h4:D2 0=[0,0,0,0]:=Ac
 have hp:BS []=[]:=rfl
 unfold BG Eb De;rw [h4,hp,List.drop_replicate,EG,Co,xb]
 congr 1
def akC:=vo (S:=aUK) func34 Wq ahl (λargs lv h=>by
 unfold aUK at h;split at h
 ·rename_i a b
  refine Au (letI d:=Ol<|Js a b;letI e:=(FB (0:Y) ([]:aC));letI f:=AA<|a*b;letI g:=(BG ([(80:Y),(0:Y),(0:Y),(0:Y),(0:Y)]) d.o);letI i:=M d.o;.br (aq<|a<1) (.br (((1:Y) !=0) ||(! e)) (.ok<|.AQ [.agg [(0:Y),.xl (.int ax) ([]:aC)],(1:Y)])<|.no /-copy to v -/)<|.br (aq<|a>512) (.br (((1:Y) !=0) ||(! e)) (.ok<|.AQ [.agg [(0:Y),.xl (.int ax) ([]:aC)],(1:Y)])<|.no /-copy to v -/)<|.br (aq<|b<1) (.br (((1:Y) !=0) ||(! e)) (.ok<|.AQ [.agg [(0:Y),.xl (.int ax) ([]:aC)],(1:Y)])<|.no /-copy to v -/)<|.req (a≠0)<|.br (aq<|b>(AA<|(4096:Y).tdiv a)) (.br (((1:Y) !=0) ||(! e)) (.ok<|.AQ [.agg [(0:Y),.xl (.int ax) ([]:aC)],(1:Y)])<|.no /-copy to v -/)<|.req (0<=f/\f<=f/\1*f<=2^48/\f<2^63)<|.req (0=0/\f.toNat=M (au f.toNat (0:Y)))<|.req (ZR.q<|Js a b)<|.br ((0:Y) !=0) (.ok<|.AQ [.agg [(0:Y),.xl (.int ax) ([]:aC)],(1:Y)])<|.req (0+i<=M d.o)<|.br (!(FB a<|(d.o.drop 0).take i)) (.ok<|.AQ [.agg [(0:Y),.xl (.int ax) ([]:aC)],(1:Y)])<|.req (M d.o=M d.o/\M ([(80:Y),(0:Y),(0:Y),(0:Y),(0:Y)])<=M d.o)<|.req (0+i<=M g)<|.ok<|.AQ [.agg [a,.xl (.int ax)<|(g.drop 0).take i],(0:Y)]) ?_;obtain ⟨⟨rfl,rfl⟩,rfl⟩:=h
  have hw:AA (512*4)=2048:=Ac
  have hk:(Js 512 4).k=2048:=LY
  have hl:M (Js 512 4).o=2048:=LY
  have hV:k8 (Js 512 4):=⟨rfl,by rw [hk,hl];rfl,z7⟩
  have q:aKI (Js 512 4)=.exit 0/\(Ol<|Js 512 4).o=au (Js 512 4).k.toNat 255:=auo _ hV
  rw [hk] at q
  have hL:M (Ol<|Js 512 4).o=2048:=by rw [q.2,Cf];rfl
  have hT:(((Ol<|Js 512 4).o).drop 0).take (M (Ol<|Js 512 4).o)=(Ol<|Js 512 4).o:=AI
  have hJ:FB 512 (Ol<|Js 512 4).o=true:=MW.2 ⟨NY.2 (by rw [hL];decide),by rw [hL];decide,A0,A0,Ac⟩
  have hC:BG [80,0,0,0,0] (Ol<|Js 512 4).o=Eb:=by rw [q.2];exact atI
  rw [hw,hT,hJ,hC,hL]
  have hj:=atH
  refine ⟨λc=>EU,λ_=>⟨λc=>EU,λ_=>⟨λc=>EU,λ_=>⟨Ac,λc=>EU,λ_=>⟨Ac,by rw [Cf];decide,⟨hV,rfl,rfl⟩,λc=>EU,λ_=>⟨Ac,λc=>EU,λ_=>⟨⟨rfl,Ac⟩,by rw [hj];decide,?_⟩⟩⟩⟩⟩⟩⟩
  rfl
 ·cases h)
def aUc:aE->T LV
 | []=> .ok (.AQ [.agg [(512:Y),.xl (.int ax) Eb],(0:Y)])
 |_=> .no
def ahL:aO:=[akC]
def zr:=vo (S:=aUc) func14 ahL kN (λargs lv h=>by
 refine ⟨?_⟩;unfold aUc at h;split at h
 ·simp only [canL]
  obtain rfl:=h;exact ⟨A9,rfl⟩
 ·cases h)
structure PT where
 aio:aC
 e:Y
 l:aC
 (m i:Y)
 BF:aL
 Bf:aF
 C6:aR
 BQ:aG
 C7:aS
def aH6:=bN f6 0
def aA9 (s:PT):T (Rd PT):=
 .br (aq<|s.i<s.m) (.ix s.i (M s.l)<|.br (!(inB (gi s.l s.i) (-200) 200)) (.so (.ret) {s with e:=(1:Y)})<|.nx {s with i:=AA<|s.i+1}) (.so (.exit 0) s)
def kY (s:PT):Prop:=(s.i=0/\s.m=(M s.l:Y))/\s.m<=1000/\s.e=0
def Z3 (s:PT):Prop:=(0<=s.i/\s.m=(M s.l:Y))/\s.m<=1000/\s.e=0/\∀j:aD,(j:Y)<s.i->inB (gi s.l j) (-200) 200=U
def vX (s:PT):aD:=(s.m-s.i).toNat
def aC1 (x:Ex) (s s':PT):Prop:=(x=.exit 0/\s'.e=0/\s'.l.all (λx=>inB x (-200) 200)=U)\/(x=.ret/\s'.e=1/\s'.l.all (λx=>inB x (-200) 200)=X)
def alL:∀s,kY s->Z3 s:=by
 rintro s ⟨⟨h0,h1⟩,h2,h3⟩
 exact ⟨⟨A0,h1⟩,h2,h3,λj hj=>A0⟩
def azU:Da Z3 vX aC1 aA9:=by
 intro s hI;obtain ⟨⟨h0,h1⟩,h2,h3,h4⟩:=hI
 have key:s.l.all (λx=>inB x (-200) 200)=DQ (M s.l) (λk=>inB (gi s.l k) (-200) 200):=(qJ (f:=λx=>inB x (-200) 200)).symm
 refine AH (λc1=>AH (λc2=>?_) λc2=>?_) λc1=>?_
 ·have c1:s.i<s.m:=AY
  refine .inr ⟨rfl,rfl,?_⟩;rw [key];exact P1 s.i.toNat A0 A8
 ·have c1:s.i<s.m:=A8
  have c2:=(IQ _).mp c2
  rw [AJ (x:=s.i+1)];refine ⟨⟨⟨A8,h1⟩,h2,h3,λj hj=>?_⟩,by simp only [vX];omega⟩
  by_cases e:(j:Y)<s.i
  ·exact h4 j e
  ·rw [show (j:Y)=s.i by grind]
   exact c2
 ·have c1:s.m<=s.i:=A8
  exact .inl ⟨rfl,h3,by rw [key];exact Dq.2 λj hj=>h4 j A0⟩
def RI:AS PT:=⟨0,105,[1,2,4,5,27,28,29],[],λs=>[.xl A7 s.aio,.own 0 0,.own 1 0,s.e,.xl A7 s.l,s.m,s.i],λs=>[⟨[s.BF,s.Bf,s.C6,s.BQ,s.C7],28,.cl,X⟩,zB],λv b=>⟨B3 A7 v 0,AL v 3,B3 A7 v 4,AL v 5,AL v 6,AF Ae b 0 0,AF .str b 0 1,AF Ak b 0 2,AF Af b 0 3,AF Al b 0 4⟩,aA9,λs r=> {s with e:=r.e,i:=r.i},λs=>s,λ_ s=>s,[.ret,.exit 0],kY,Z3,vX⟩
abbrev WZ:=RI.run
abbrev fL:=RI.Av
def ayF:Rq Z3 aA9:=by
 exact aN4
def XL:aO:=[P9,iw,gN,zr,WV]
def vu:Az:=kI XL<|la 11 func50 WX<|la 6 func50 TJ<|la 3 func33 Qm<|la 2 func49 Oz<|la 1 func48 NX<|la 2 func57 MU<|la 9 func16 Cv<|l0 XL
def aSF:RI.Ok:={}
def aQH:RI.Pf (aC1):=⟨alL,λs h=>rfl,azU,ayF⟩
def arA:SA 0 aH6 RI:=s1 aSF aQH XL vu
def asT:Fi kY Z3 aC1 fL WZ:=AS.fin aSF aQH
structure PS where
 (e n i:Y)
 BF:aL
 Bf:aF
 C6:aR
 BQ:aG
 C7:aS
 uB:aL
 p1:aF
 p2:aR
 p3:aG
 p4:aS
 (p9 TB:aC)
 ra:bx
 st:bg
 ca:aM
 mi:aVC
 me:aVK
 dm:bc
def aH5:=bN f6 1
def aA8 (s:PS):T (Rd PS):=letI a:=(X,((0:Y),((0:Y),(9:Y))));letI b:=((AA<|s.i+1),((0:Y),X));letI c:=(s.st++([((0:Y),((0:Y),((0:Y),X)))]));.br (aq<|s.i<s.n) (.rb (M s.st) (M<|[((0:Y),((0:Y),((0:Y),X)))]) 32<|.rb (M s.me) (M<|[b]) 24<|.rb (M s.dm) (M<|[a]) 32<|.rl s.ra<|.re (M s.st+M ([((0:Y),((0:Y),((0:Y),X)))])) c<|.rl s.ca<|.rl s.mi<|.re (M s.me+M ([b])) (s.me++([b]))<|.re (M s.dm+M ([a])) (s.dm++([a]))<|.nx {s with i:=AA<|s.i+1,st:=c,me:=s.me++([b]),dm:=s.dm++([a])})<|.rl s.ra<|.rl s.st<|.rl s.ca<|.rl s.mi<|.rl s.me<|.rl s.dm<|.so (.exit 2) s
def kX (s:PS):Prop:=s.i=0/\(s.n<=1000/\0<=s.n)/\s.st=[]/\s.me=[]/\s.dm=[]
def Yz (s:PS):Prop:=(0<=s.i/\s.i<=s.n)/\(s.n<=1000/\0<=s.n)/\s.st=au s.i.toNat (0,0,0,X)/\s.me=(Fz s.i.toNat).map (λk=>(k+1,0,X))/\s.dm=au s.i.toNat (X,0,0,9)
def vW (s:PS):aD:=(s.n-s.i).toNat
def aC0 (x:Ex) (s s':PS):Prop:=x=.exit 2/\s'.st=au s'.n.toNat (0,0,0,X)/\s'.me=(Fz s'.n.toNat).map (λk=>(k+1,0,X))/\s'.dm=au s'.n.toNat (X,0,0,9)
def alK:∀s,kX s->Yz s:=by
 rintro s ⟨h0,h1,h2,h3,h4⟩
 refine ⟨A0,h1,?_,?_,?_⟩
 ·simp_all
 ·rw [h3,h0];rfl
 ·simp_all
def azT:Da Yz vW aC0 aA8:=by
 intro s hI;obtain ⟨⟨h0,h1⟩,h2,h3,h4,h5⟩:=hI;refine AH (λc1=>?_) λc1=>?_
 ·have c1:s.i<s.n:=A8
  rw [AJ (x:=s.i+1)]
  have e:(s.i+1).toNat=s.i.toNat+1:=A0
  refine ⟨⟨⟨A8,A8⟩,h2,?_,?_,?_⟩,by simp only [vW];omega⟩
  ·show s.st++[_]=au (s.i+1).toNat _
   rw [e,h3,mQ]
  ·show s.me++[_]=(Fz (s.i+1).toNat).map _
   rw [e,h4,aFe,KK,CS h0];rfl
  ·show s.dm++[_]=au (s.i+1).toNat _
   rw [e,h5,mQ]
 ·have c1:s.n<=s.i:=A8
  have e:s.i=s.n:=A0
  rw [e] at h3 h4 h5;exact ⟨rfl,h3,h4,h5⟩
def RH:AS PS:=⟨0,105,[2,4,5,11,63,64],[.ns 11 12 91 B7,.ns 11 15 94 BU,.ns 11 16 56 Ai],λs=>[.own 0 0,.own 1 0,s.e,.own 2 0,s.n,s.i],λs=>[⟨[s.BF,s.Bf,s.C6,s.BQ,s.C7],28,.cl,X⟩,zB,⟨[s.uB,s.p1,s.p2,s.p3,s.p4,(0:Y),U,.v<|.slice ak 0 0,(512:Y),.xl (.int ax) s.p9,.os 3 2 0<|M s.ra,(1:Y),.os 4 4 0<|M s.st,.os 5 5 0<|M s.ca,.os 6 3 0<|M s.mi,.os 7 3 0<|M s.me,.os 8 4 0<|M s.dm,.v<|.slice ak 0 0,.xl A7 s.TB,.v<|.slice ak 0 0],48,.cl,X⟩,bV 126 Aq s.ra,bV 91 B7 s.st,bV 54 AO s.ca,bV 131 BC s.mi,bV 94 BU s.me,bV 56 Ai s.dm],λv b=>⟨AL v 2,AL v 4,AL v 5,AF Ae b 0 0,AF .str b 0 1,AF Ak b 0 2,AF Af b 0 3,AF Al b 0 4,AF Ae b 2 0,AF .str b 2 1,AF Ak b 2 2,AF Af b 2 3,AF Al b 2 4,AF (.int ax) b 2 9,AF A7 b 2 18,Ab Aq b 3,Ab B7 b 4,Ab AO b 5,Ab BC b 6,Ab BU b 7,Ab Ai b 8⟩,aA8,λs r=> {s with i:=r.i,st:=r.st,me:=r.me,dm:=r.dm},λs=>s,λ_ s=>s,[.exit 2],kX,Yz,vW⟩
abbrev NI:=RH.run
abbrev av7:=RH.Av
def ayE:Rq Yz aA8:=by
 intro s hI;refine ⟨λc1=>⟨?_,?_,?_,A9,?_,A9,A9,?_,?_,an⟩,λc1=>⟨A9,A9,A9,A9,A9,A9,an⟩⟩
 all_goals ((obtain ⟨⟨h0,h1⟩,h2,h3,h4,h5⟩:=hI;have l1:M s.st=s.i.toNat:=A8;have l2:M s.me=s.i.toNat:=(by rw [h4];simp [Ou]);have l3:M s.dm=s.i.toNat:=A8;simp only [Aa] at c1;first|(simp only [BY,Bh];omega) |(simp only [B8,BY,Bh,Dw];done) |exact ⟨rfl,AI⟩))
def aSE:RH.Ok:={}
def aQG:RH.Pf (aC0):=⟨alK,λs h=>rfl,azT,ayE⟩
def ar9:SA 0 aH5 RH:=s1 aSE aQG XL vu
def asR:Fi kX Yz aC0 av7 NI:=AS.fin aSE aQG
structure PR where
 e:Y
 l:aL
 (n i:Y)
 uB:aL
 p1:aF
 p2:aR
 p3:aG
 p4:aS
 (p9 TB:aC)
 ra:bx
 st:bg
 ca:aM
 mi:aVC
 me:aVK
 dm:bc
 tg:aC
def aH4:=bN f6 2
def aA7 (s:PR):T (Rd PR):=letI a:=Ad s.l s.i;.br (aq<|s.i<s.n) (.ix s.i (M s.l)<|.rb (M s.tg) (M<|[a.2.2.1]) 8<|.rl s.ra<|.rl s.st<|.rl s.ca<|.rl s.mi<|.rl s.me<|.rl s.dm<|.re (M s.tg+M ([a.2.2.1])) (s.tg++([a.2.2.1]))<|.nx {s with i:=AA<|s.i+1,tg:=s.tg++([a.2.2.1])})<|.rl s.ra<|.rl s.st<|.rl s.ca<|.rl s.mi<|.rl s.me<|.rl s.dm<|.rl s.tg<|.so (.exit 4) s
def kW (s:PR):Prop:=s.i=0/\(s.n=(M s.l:Y)/\s.n<=1000)/\s.tg=[]
def Yy (s:PR):Prop:=(0<=s.i/\s.i<=s.n)/\(s.n=(M s.l:Y)/\s.n<=1000)/\s.tg=(s.l.take s.i.toNat).map (λc=>c.2.2.1)
def vV (s:PR):aD:=(s.n-s.i).toNat
def aBz (x:Ex) (s s':PR):Prop:=x=.exit 4/\s'.tg=s'.l.map (λc=>c.2.2.1)
def amD:∀s,kW s->Yy s:=by
 rintro s ⟨h0,h1,h2⟩
 exact ⟨A0,h1,GI⟩
def azS:Da Yy vV aBz aA7:=by
 intro s hI;obtain ⟨⟨h0,h1⟩,⟨h2,h3⟩,h4⟩:=hI;refine AH (λc1=>?_) λc1=>?_
 ·have c1:s.i<s.n:=A8
  rw [AJ (x:=s.i+1)]
  have e:(s.i+1).toNat=s.i.toNat+1:=A0
  refine ⟨⟨⟨A8,A8⟩,⟨h2,h3⟩,?_⟩,by simp only [vV];omega⟩
  show s.tg++[_]=(s.l.take (s.i+1).toNat).map _
  have e2:Ad s.l s.i=s.l[s.i.toNat]' A0:=by
   have:=Qv (cs:=s.l) (k:=s.i.toNat) A0
   exact this
  rw [e,h4,Zc A0,KK,e2];rfl
 ·have c1:s.n<=s.i:=A8
  refine ⟨rfl,?_⟩;rw [h4,DS A0]
def RG:AS PR:=⟨0,105,[4,5,11,89,90,91],[.ns 11 19 3 A7],λs=>[.own 0 0,s.e,.own 1 0,s.l,s.n,s.i],λs=>[zB,⟨[s.uB,s.p1,s.p2,s.p3,s.p4,(0:Y),U,.v<|.slice ak 0 0,(512:Y),.xl (.int ax) s.p9,.os 2 2 0<|M s.ra,(1:Y),.os 3 4 0<|M s.st,.os 4 5 0<|M s.ca,.os 5 3 0<|M s.mi,.os 6 3 0<|M s.me,.os 7 4 0<|M s.dm,.v<|.slice ak 0 0,.xl A7 s.TB,.os 8 1 0<|M s.tg],48,.cl,X⟩,bV 126 Aq s.ra,bV 91 B7 s.st,bV 54 AO s.ca,bV 131 BC s.mi,bV 94 BU s.me,bV 56 Ai s.dm,bV 3 A7 s.tg],λv b=>⟨AL v 1,B3 Ae v 3,AL v 4,AL v 5,AF Ae b 1 0,AF .str b 1 1,AF Ak b 1 2,AF Af b 1 3,AF Al b 1 4,AF (.int ax) b 1 9,AF A7 b 1 18,Ab Aq b 2,Ab B7 b 3,Ab AO b 4,Ab BC b 5,Ab BU b 6,Ab Ai b 7,Ab A7 b 8⟩,aA7,λs r=> {s with i:=r.i,tg:=r.tg},λs=>s,λ_ s=>s,[.exit 4],kW,Yy,vV⟩
abbrev dG:=RG.run
abbrev av6:=RG.Av
def ayD:Rq Yy aA7:=by
 intro s hI;refine ⟨λc1=>⟨?_,?_,A9,A9,A9,A9,A9,A9,?_,an⟩,λc1=>⟨A9,A9,A9,A9,A9,A9,A9,an⟩⟩
 all_goals ((obtain ⟨⟨h0,h1⟩,⟨h2,h3⟩,h4⟩:=hI;have l1:M s.tg=s.i.toNat:=A8;simp only [Aa] at c1;first|omega|(simp only [BY,Bh];omega) |(simp only [B8,BY,Bh,Dw];done)))
def aSD:RG.Ok:={}
def aQF:RG.Pf (aBz):=⟨amD,λs h=>rfl,azS,ayD⟩
def ar8:SA 0 aH4 RG:=s1 aSD aQF XL vu
def asQ:Fi kW Yy aBz av6 dG:=AS.fin aSD aQF
structure O5 where
 (n i:Y)
 tP:aL
 b11:aF
 b12:aR
 b13:aG
 b14:aS
 (b19 aE2:aC)
 b2:bx
 b3:bg
 b4:aM
 b5:aVC
 b6:aVK
 b7:bc
 b8:aC
 p1:aF
 p2:aR
 p3:aG
 p4:aS
 TB:aC
 Vh:aL
 oZ:aM
 oY:aC
 oW:bx
 b15:bg
 b16:aM
 o:aVC
def aA6 (s:O5):T (Rd O5):=letI a:=s.o.getD s.i.toNat<|Ty.dflt BC;.br (aq<|s.i<s.n) (.ik s.i (M s.o)<|.req (M a.1<=100000000)<|.ik s.i (M s.o)<|.rl s.b2<|.rl s.b3<|.rl s.b4<|.rl s.b5<|.rl s.b6<|.rl s.b7<|.rl s.b8<|.rl s.Vh<|.rl s.oZ<|.rl s.oY<|.rl s.oW<|.rl s.b15<|.rl s.b16<|.re (M s.o) (s.o.set s.i.toNat a)<|.rl s.b6<|.rl s.b7<|.rl s.b8<|.nx {s with i:=AA<|s.i+1,o:=s.o.set s.i.toNat a})<|.rl s.b2<|.rl s.b3<|.rl s.b4<|.rl s.b5<|.rl s.b6<|.rl s.b7<|.rl s.b8<|.rl s.Vh<|.rl s.oZ<|.rl s.oY<|.rl s.oW<|.rl s.b15<|.rl s.b16<|.rl s.o<|.rl s.b6<|.rl s.b7<|.rl s.b8<|.so (.exit 0) s
def kV (s:O5):Prop:=s.i=0/\s.n=(M s.o:Y)/\s.n<=1000/\∀m∈s.o,M m.1<=1000
def lF (s:O5):Prop:=0<=s.i/\s.i<=s.n/\s.n=(M s.o:Y)/\s.n<=1000/\∀m∈s.o,M m.1<=1000
def vU (s:O5):aD:=(s.n-s.i).toNat
def acP (x:Ex) (s s':O5):Prop:=True
def am9:∀s,kV s->lF s:=by
 exact aNX
def azR:Da lF vU acP aA6:=by
 intro s hI;obtain ⟨h0,h1,h2,h3,h4⟩:=hI;refine AH (λc1=>?_) λc1=>trivial
 ·have c1:s.i<s.n:=A8
  have e:=set_self (l:=s.o) (i:=s.i.toNat) (d:=Ty.dflt BC) A0
  rw [AJ (x:=s.i+1),e];exact ⟨⟨A8,A8,h2,h3,h4⟩,by simp only [vU];omega⟩
def ZN:AS O5:=⟨9,82,[1,2,44,45],[],λs=>[.own 9 0,.own 10 0,s.n,s.i],λs=>[zB,⟨[s.tP,s.b11,s.b12,s.b13,s.b14,(0:Y),U,.v<|.slice ak 0 0,(512:Y),.xl (.int ax) s.b19,.os 2 2 0<|M s.b2,(1:Y),.os 3 4 0<|M s.b3,.os 4 5 0<|M s.b4,.os 5 3 0<|M s.b5,.os 6 3 0<|M s.b6,.os 7 4 0<|M s.b7,.v<|.slice ak 0 0,.xl A7 s.aE2,.os 8 1 0<|M s.b8],48,.cl,X⟩,bV 126 Aq s.b2,bV 91 B7 s.b3,bV 54 AO s.b4,bV 131 BC s.b5,bV 94 BU s.b6,bV 56 Ai s.b7,bV 3 A7 s.b8,⟨[.os 11 11 0<|M s.Vh,s.p1,s.p2,s.p3,s.p4,(0:Y),U,.os 12 5 0<|M s.oZ,(512:Y),.os 13 1 0<|M s.oY,.os 14 2 0<|M s.oW,(1:Y),.os 15 4 0<|M s.b15,.os 16 5 0<|M s.b16,.os 17 3 0<|M s.o,.os 6 3 0<|M s.b6,.os 7 4 0<|M s.b7,.v<|.slice ak 0 0,.xl A7 s.TB,.os 8 1 0<|M s.b8],48,.cl,X⟩,zB,bV 81 Ae s.Vh,bV 70 AO s.oZ,bV 5 (.int ax) s.oY,bV 126 Aq s.oW,bV 91 B7 s.b15,bV 54 AO s.b16,bV 131 BC s.o],λv b=>⟨AL v 2,AL v 3,AF Ae b 1 0,AF .str b 1 1,AF Ak b 1 2,AF Af b 1 3,AF Al b 1 4,AF (.int ax) b 1 9,AF A7 b 1 18,Ab Aq b 2,Ab B7 b 3,Ab AO b 4,Ab BC b 5,Ab BU b 6,Ab Ai b 7,Ab A7 b 8,AF .str b 9 1,AF Ak b 9 2,AF Af b 9 3,AF Al b 9 4,AF A7 b 9 18,Ab Ae b 11,Ab AO b 12,Ab (.int ax) b 13,Ab Aq b 14,Ab B7 b 15,Ab AO b 16,Ab BC b 17⟩,aA6,λs r=> {s with i:=r.i,o:=r.o},λs=>s,λ_ s=>s,[.exit 0],kV,lF,vU⟩
abbrev fS:=ZN.run
abbrev av5:=ZN.Av
def wF:aO:=[P9,iw,gN,zr,WV,aap]
def agH:Az:=kI wF<|la 11 func50 WX<|la 6 func50 TJ<|la 3 func33 Qm<|la 2 func49 Oz<|la 1 func48 NX<|la 2 func57 MU<|la 9 func16 Cv<|l0 wF
def ayC:Rq lF aA6:=by
 intro s hI;refine ⟨λc1=>⟨?_,?_,?_,?_,?_,A9,A9,A9,A9,A9,A9,A9,A9,A9,A9,A9,A9,A9,?_,A9,A9,A9,an⟩,λc1=>⟨A9,A9,A9,A9,A9,A9,A9,A9,A9,A9,A9,A9,A9,A9,A9,A9,A9,an⟩⟩
 all_goals ((obtain ⟨h0,h1,h2,h3,h4⟩:=hI;(try simp only [Aa] at c1);first|omega|exact ⟨rfl,AI⟩ |exact ⟨rfl,rfl⟩ |exact Hq (h4 _<|getD_mem A0) Ac))
def aSC:ZN.Ok:={}
def aQE:ZN.Pf (acP):=⟨am9,λs h=>rfl,azR,ayC⟩
def ar7:=s2 (b:=bN f16 0) aSC aQE wF agH
def asP:Rs kV av5 fS (λs:O5=>s.o) (λx s' (v:aVC)=>x=.exit 0/\s'.o=v):=DY aSC aQE (λs hI=>by
  obtain ⟨h0,h1,h2,h3,h4⟩:=hI;refine AH (λc1=>?_) λc1=>⟨rfl,rfl⟩
  have c1:s.i<s.n:=A8
  have e:=set_self (l:=s.o) (i:=s.i.toNat) (d:=Ty.dflt BC) A0
  rw [e];exact rfl)
def aUB:aE->T LV
 | .agg a::r=>s5 a λcs os ks gs bs=>(match r with
  | [.xl (.int J) dr]=> .req (M dr<=1000) (.ok<|.AQ [newP cs os ks gs bs dr,H3 cs os ks gs bs dr])
  |_=> .no)
 |_=> .no
def G5 {α:Type}(d:α) (l:List α):List α:=BG (AR l)<|au (M l:Y).toNat d
def aTS {α:Type}(d:α) (l:List α):G5 d l=l:=by
 unfold G5;rw [Fo];exact Qo
def cpX {α:Type}(d:α) (l:List α):List α:=BG l<|au (M l:Y).toNat d
def ahy {α:Type}(d:α) (l:List α):cpX d l=l:=Qo
def cpN {α:Type}(d:α):List α:=BG []<|au (0:Y).toNat d
def ahz {α:Type}(d:α):cpN d=[]:=rfl
def EY {α:Type}(gs:aG) (d:α):List α:=au (M gs:Y).toNat d
def qy {α:Type}(gs:aG) (d:α):EY gs d=au (M gs) d:=by
 unfold EY
 grind
def zNV (e:Y):LV:=.AQ [.agg [.xl Ae ([]:aL),.xl .str ([]:aF),.xl Ak ([]:aR),.xl Af ([]:aG),.xl Al ([]:aS),.v<|ah J 0,.v<|.bool X,.xl AO ([]:aM),.v<|ah J 0,.xl (.int ax) ([]:aC),.xl Aq ([]:bx),.v<|ah J 0,.xl B7 ([]:bg),.xl AO ([]:aM),.xl BC ([]:aVC),.xl BU ([]:aVK),.xl Ai ([]:bc),.xl BP ([]:bz),.xl A7 ([]:aC),.xl A7 ([]:aC)],.v<|ah J e]
def oa:Cd:=(ByteArray.empty,((0:Y),((0:Y),((0:Y),(((0:Y),(0:Y)),((0:Y),((0:Y),((0:Y),((0:Y),(0:Y))))))))))
def Jx:Le:=((0:Y),((0:Y),((0:Y),((0:Y),(0:Y)))))
def Nj:Ra:=((0:Y),(0:Y))
def aVj:St:=((0:Y),((0:Y),((0:Y),X)))
def aLv:Me:=((0:Y),((0:Y),X))
def aLx:Dm:=(X,((0:Y),((0:Y),(0:Y))))
def Km:Mi:=(([]:aC),((0:Y),(0:Y)))
def QA:Y:=(0:Y)
def aLw:Lk:=((0:Y),((0:Y),((0:Y),((0:Y),((0:Y),(0:Y))))))
def Qc (cs:aL) (os:aF) (ks:aR) (gs:aG) (bs:aS) (dr:aC):PT:=(⟨dr,0,dr,(M dr:Y),0,cs,os,ks,gs,bs⟩:PT)
def MO (cs:aL) (os:aF) (ks:aR) (gs:aG) (bs:aS) (dr:aC):PS:=(⟨(WZ<|Qc cs os ks gs bs dr).e,(M gs:Y),0,cs,os,ks,gs,bs,cs,os,ks,gs,bs,Eb,dr,EY gs Nj,([]:bg),EY gs Jx,EY gs Km,([]:aVK),([]:bc)⟩:PS)
def Vp (cs:aL) (os:aF) (ks:aR) (gs:aG) (bs:aS) (dr:aC):PR:=letI a:=NI<|MO cs os ks gs bs dr;(⟨(WZ<|Qc cs os ks gs bs dr).e,cs,(M cs:Y),0,cs,os,ks,gs,bs,Eb,dr,EY gs Nj,a.st,EY gs Jx,EY gs Km,a.me,a.dm,([]:aC)⟩:PR)
def pV (cs:aL) (os:aF) (ks:aR) (gs:aG) (bs:aS) (dr:aC):O5:=letI a:=NI<|MO cs os ks gs bs dr;(⟨((((M (EY gs Km):aD):Y).toNat:aD):Y),0,cs,os,ks,gs,bs,Eb,dr,EY gs Nj,a.st,EY gs Jx,EY gs Km,a.me,a.dm,(dG<|Vp cs os ks gs bs dr).tg,os,ks,gs,bs,dr,cpX oa cs,cpN Jx,cpX QA Eb,G5 Nj<|EY gs Nj,G5 aVj a.st,G5 Jx<|EY gs Jx,G5 Km<|EY gs Km⟩:O5)
def wE:aO:=[P9,iw,gN,zr,WV]
def agG:Az:=kI wE<|la 9 func16 ar7<|la 11 func50 WX<|la 6 func50 TJ<|la 3 func33 Qm<|la 2 func49 Oz<|la 1 func48 NX<|la 2 func57 MU<|la 9 func16 Cv<|l0 wE
def iv:=vm (S:=aUB) func6 wE agG (L:=(λi=>if i=4 then RI.lp else if i=17 then RH.lp else if i=24 then RG.lp else Ap i)) (λb hb=>by
 rw [show BD _=[aH6,aH5,aH4] by kernel_rfl] at hb
 simp only [B9,Bx,By] at hb;rcases hb with rfl|rfl|rfl
 ·exact arA
 ·exact ar9
 ·exact ar8) (λargs lv h=>by
 unfold aUB at h;split at h
 case h_2=>cases h
 replace h:=Ia h
 obtain ⟨cs,os,ks,gs,bs,rfl,h⟩:=h;split at h
 ·rename_i dr
  refine Au (letI a:=NI<|MO cs os ks gs bs dr;letI b:=dG<|Vp cs os ks gs bs dr;letI d:=EY gs Nj;letI f:=EY gs Jx;letI g:=(M gs:Y);letI j:=((M a.me:aD):Y);letI l:=((M a.dm:aD):Y);letI n:=((M b.tg:aD):Y);letI p:=EY gs Km;letI r:=(M dr:Y);letI s:=((M a.st:aD):Y);letI t:=((M d:aD):Y);letI u:=((M f:aD):Y);letI v:=((M p:aD):Y);letI w:=Qc cs os ks gs bs dr;letI y:=pV cs os ks gs bs dr;letI z:=(M cs:Y);letI A:=(M Eb:Y);letI B:=(M ([]:aM));letI C:=G5 aVj a.st;.br ((!(BB cs os ks gs bs)) ||(r !=g)) (.ok<|zNV 1)<|.req (RI.q w)<|.br (Bt (fL w)<|.ret) (.ok<|.AQ [.agg [.xl Ae ([]:aL),.xl .str ([]:aF),.xl Ak ([]:aR),.xl Af ([]:aG),.xl Al ([]:aS),(0:Y),X,.xl AO ([]:aM),(0:Y),.xl (.int ax) ([]:aC),.xl Aq ([]:bx),(0:Y),.xl B7 ([]:bg),.xl AO ([]:aM),.xl BC ([]:aVC),.xl BU ([]:aVK),.xl Ai ([]:bc),.xl BP ([]:bz),.xl A7 ([]:aC),.xl A7 ([]:aC)],(WZ w).e])<|.req (BB cs os ks gs bs=U)<|.br (!DA cs gs (Bq gs)) (.ok<|zNV 13)<|.br ((0:Y) !=0) (.ok<|zNV 0)<|.rm 16 g<|.rm 40 g<|.rm 40 g<|.re g.toNat d<|.r0 St<|.re g.toNat f<|.re g.toNat p<|.r0 Me<|.r0 Dm<|.req (RH.q<|MO cs os ks gs bs dr)<|.rl d<|.rl a.st<|.rl f<|.rl p<|.rl a.me<|.rl a.dm<|.r0 Int<|.req (RG.q<|Vp cs os ks gs bs dr)<|.rm 96 z<|.rc z (ByteArray.empty,((0:Y),((0:Y),((0:Y),(((0:Y),(0:Y)),((0:Y),((0:Y),((0:Y),((0:Y),(0:Y)))))))))) (M cs)<|.rm 40 (0:Y)<|.rc (0:Y) ((0:Y),((0:Y),((0:Y),((0:Y),(0:Y))))) B<|.rm 1 A<|.rc A (0:Y) (M Eb)<|.rm 16 t<|.rz d<|.rc t ((0:Y),(0:Y)) (M<|AR d)<|.rm 32 s<|.rz a.st<|.rc s ((0:Y),((0:Y),((0:Y),X))) (M<|AR a.st)<|.rm 40 u<|.rz f<|.rc u ((0:Y),((0:Y),((0:Y),((0:Y),(0:Y))))) (M<|AR f)<|.rm 40 v<|.rz p<|.rc v (([]:aC),((0:Y),(0:Y))) (M<|AR p)<|.rl d<|.rl a.st<|.rl f<|.rl p<|.rl a.me<|.rl a.dm<|.rl b.tg<|.re z.toNat (cpX oa cs)<|.re (0:Y).toNat (cpN Jx)<|.re A.toNat (cpX QA Eb)<|.re t.toNat (G5 Nj d)<|.re s.toNat C<|.re u.toNat (G5 Jx f)<|.re v.toNat (G5 Km p)<|.rl a.me<|.rl a.dm<|.rl b.tg<|.req (ZN.q y)<|.rm 24 j<|.rz a.me<|.rc j ((0:Y),((0:Y),X)) (M<|AR a.me)<|.rm 32 l<|.rz a.dm<|.rc l (X,((0:Y),((0:Y),(0:Y)))) (M<|AR a.dm)<|.rm 48 (0:Y)<|.rc (0:Y) ((0:Y),((0:Y),((0:Y),((0:Y),((0:Y),(0:Y)))))) B<|.rm 8 r<|.rc r (0:Y) (M dr)<|.rm 8 n<|.rz b.tg<|.rc n (0:Y) (M<|AR b.tg)<|.rz (cpX oa cs)<|.rz (cpN Jx)<|.rz (cpX QA Eb)<|.rz (G5 Nj d)<|.rz C<|.rz (G5 Jx f)<|.rz (fS y).o<|.req (0+j.toNat<=M (G5 aLv a.me))<|.req (0+l.toNat<=M (G5 aLx a.dm))<|.req (0+(0:Y).toNat<=M (cpN aLw))<|.req (0+r.toNat<=M (cpX QA dr))<|.req (0+n.toNat<=M (G5 QA b.tg))<|.ok<|.AQ [.agg [(AR<|cpX oa cs),os,ks,gs,bs,(0:Y),U,(AR<|cpN Jx),(512:Y),.xl (.int ax)<|AR<|cpX QA Eb,(AR<|G5 Nj d),(1:Y),(AR C),(AR<|G5 Jx f),(AR (fS y).o),(((G5 aLv a.me).drop 0).take j.toNat),(((G5 aLx a.dm).drop 0).take l.toNat),(((cpN aLw).drop 0).take (0:Y).toNat),.xl A7<|((cpX QA dr).drop 0).take r.toNat,.xl A7<|((G5 QA b.tg).drop 0).take n.toNat],(0:Y)]) ?_;obtain ⟨hn,rfl⟩:=h
  have A1:kY (Qc cs os ks gs bs dr):=⟨⟨rfl,rfl⟩,by show (M dr:Y)<=1000;omega,rfl⟩
  obtain ⟨_,_,q1⟩:=asT _ A1
  have q1:(fL (Qc cs os ks gs bs dr)=.exit 0/\(WZ<|Qc cs os ks gs bs dr).e=0/\dr.all (λx=>inB x (-200) 200)=U)\/(fL (Qc cs os ks gs bs dr)=.ret/\(WZ<|Qc cs os ks gs bs dr).e=1/\dr.all (λx=>inB x (-200) 200)=X):=q1
  have bad:∀ {e:Y},H3 cs os ks gs bs dr=e->e≠0->newP cs os ks gs bs dr=PK0:=λh1 h2=>AD (by rw [h1];exact h2)
  have hb:((!BB cs os ks gs bs) ||((M dr:Y) !=(M gs:Y)))=U↔(BB cs os ks gs bs=X\/M dr≠M gs):=by simp [Int.natCast_inj]
  refine ⟨λc=>?_,λc=>⟨⟨A1,rfl,rfl⟩,λc2=>?_,λc2=>?_⟩⟩
  ·have he:H3 cs os ks gs bs dr=1:=AD (hb.1 c)
   show zNV 1=_
   exact yd
  all_goals have hc:¬(BB cs os ks gs bs=X\/M dr≠M gs):=λh=>(by rw [hb.2 h] at c;cases c)
  ·rcases q1 with ⟨x1,_⟩ |⟨x1,x2,x3⟩
   ·rw [x1] at c2
    cases c2
   ·have he:H3 cs os ks gs bs dr=1:=(AE hc).trans (AD x3)
    rw [x2]
    show zNV 1=_
    exact yd
  rcases q1 with ⟨x1,x2,x3⟩ |⟨x1,x2,x3⟩
  rotate_left
  ·rw [x1] at c2
   cases c2
  have hs:BB cs os ks gs bs=true:=by
   cases e:BB cs os ks gs bs
   ·exact absurd (.inl e) hc
   ·rfl
  have hd:M dr=M gs:=mK λh=>hc<|.inr h
  have hg:=D7.1 hs
  refine ⟨hs,λc3=>?_,λc3=>⟨λc4=>(by cases c4),λ_=>?_⟩⟩
  ·have he:H3 cs os ks gs bs dr=13:=(AE hc).trans ((AE (by rw [x3];decide)).trans<|AD<|(D6 _).mp c3)
   show zNV 13=_
   exact yd
  have he:H3 cs os ks gs bs dr=0:=(AE hc).trans<|(AE (by rw [x3];decide)).trans<|AE (by rw [(IQ _).mp c3];decide)
  have hp:newP cs os ks gs bs dr=_:=AE ML
  have A2:kX (MO cs os ks gs bs dr):=⟨rfl,⟨aOk,Sh _⟩,rfl,rfl,rfl⟩
  obtain ⟨_,_,_,y1,y2,y3⟩:=asR _ A2
  have y1:(NI<|MO cs os ks gs bs dr).st=au (M gs) (0,0,0,X):=y1
  have y2:(NI<|MO cs os ks gs bs dr).me=(Fz<|M gs).map (λk=>(k+1,0,X)):=y2
  have y3:(NI<|MO cs os ks gs bs dr).dm=au (M gs) (X,0,0,9):=y3
  have A3:kW (Vp cs os ks gs bs dr):=⟨rfl,⟨rfl,aOl⟩,rfl⟩
  obtain ⟨_,_,_,y4⟩:=asQ _ A3
  have y4:(dG<|Vp cs os ks gs bs dr).tg=cs.map (λc=>c.2.2.1):=y4
  have hj:M Eb=2048:=rfl
  have l1:M (EY gs Nj)=M gs:=zf
  have l2:M (EY gs Jx)=M gs:=zf
  have l3:M (EY gs Km)=M gs:=zf
  have l4:M (NI<|MO cs os ks gs bs dr).st=M gs:=by rw [y1,Cf]
  have l5:M (NI<|MO cs os ks gs bs dr).me=M gs:=by rw [y2,GH,Ou]
  have l6:M (NI<|MO cs os ks gs bs dr).dm=M gs:=by rw [y3,Cf]
  have l7:M (dG<|Vp cs os ks gs bs dr).tg=M cs:=by rw [y4,GH]
  have ho:(pV cs os ks gs bs dr).o=EY gs Km:=aTS _ _
  have A4:kV (pV cs os ks gs bs dr):=⟨rfl,by rw [ho];show ((((M (EY gs Km):aD):Y).toNat:aD):Y)=_;rw [C0],by show ((((M (EY gs Km):aD):Y).toNat:aD):Y)<=1000;rw [C0,l3];omega,by
   rw [ho,qy];intro m hm;rw [(Sg.1 hm).2]
   decide⟩
  have y5:(fS<|pV cs os ks gs bs dr).o=EY gs Km:=(asP _ A4).2.trans ho
  simp only [aTS,ahy,ahz,Fo,y5,l1,l2,l3]
  repeat (refine ⟨nU,?_⟩)
  refine ⟨⟨A2,rfl,rfl⟩,?_⟩
  repeat (refine ⟨nU,?_⟩)
  refine ⟨⟨A3,rfl,rfl⟩,?_⟩
  repeat (refine ⟨nU,?_⟩)
  refine ⟨⟨A4,rfl,rfl⟩,?_⟩
  repeat (refine ⟨nU,?_⟩)
  show _=_
  rw [hp,he,y1,y2,y3,y4];simp only [qy,C0,CT,Ej];rfl
 ·cases h)
def Oy {α:Type}{l:List α}{d x:α}{i j:aD}:(l.set i x).getD j d=if i=j/\i<M l then x else l.getD j d:=by
 by_cases e:i=j
 ·subst e
  by_cases h:i<M l
  ·grind
  ·grind
 ·grind
def ahC {gs:aG}{st:bg}{i j k n m:Y}(hi:0<=i) (hj:0<=j) (hij:i≠j):BL (CU gs st i k n m) j=BL st j:=by
 unfold CU;split
 ·unfold BL;rw [Oy,AE A0]
 ·rfl
structure D1 where
 c:Ca
 m:Mi
 e:Me
 (ph al:Y)
namespace D1
variable (d : D1)
def ok:aN:=!(d.c.2.2.1==0)&&(Jb d.c d.m d.ph d.al==0)
def a:Y:=Fc d.c d.m d.ph d.al
def o:Y:=cnt<|Ee d.c d.m d.ph d.al
end D1
def d1 (gs:aG) (ca:aVx) (s:DW) (j:Y):D1:=⟨Be ca j,CE s.mi j,Ga s.me j,(AG gs j).2.2.1,Bj (AG gs j)<|BL s.st j⟩
def aTl {gs:aG}{ca:aVx}{s:DW}{i:Y}(h:(d1 gs ca s i).ok=X):Fe gs ca s i=s:=by
 unfold D1.ok d1 at h;unfold Fe
 by_cases h1:(Be ca i).2.2.1=0
 ·grind
 ·grind
def aJm {gs:aG}{ca:aVx}{s:DW}{i:Y}(h:(d1 gs ca s i).ok=U):Fe gs ca s i=
  ⟨if (d1 gs ca s i).a>(d1 gs ca s i).al then CU gs s.st i 6 2 0 else s.st,s.mi.set i.toNat<|Jl (d1 gs ca s i).c (d1 gs ca s i).m (d1 gs ca s i).ph (d1 gs ca s i).al,
   if G8 (d1 gs ca s i).e (d1 gs ca s i).a (d1 gs ca s i).o=0 then s.me.set i.toNat (He (d1 gs ca s i).e (d1 gs ca s i).a (d1 gs ca s i).o) else s.me,s.dw.set i.toNat (d1 gs ca s i).a⟩:=by
 unfold D1.ok d1 at h;simp only [AV,D6,CV,Cy] at h;unfold Fe;rw [AE h.1,AD h.2];rfl
def aTm {gs:aG}{ca:aVx}{s:DW}{i j:aD}(h:i≠j):
  BL (Fe gs ca s i).st j=BL s.st j/\CE (Fe gs ca s i).mi j=CE s.mi j/\Ga (Fe gs ca s i).me j=Ga s.me j/\gi (Fe gs ca s i).dw j=gi s.dw j:=by
 cases hk:(d1 gs ca s i).ok
 ·rw [aTl hk];exact ⟨rfl,rfl,rfl,rfl⟩
 ·rw [aJm hk]
  refine ⟨?_,?_,?_,?_⟩
  ·simp only;split
   ·exact ahC A0 A0 A0
   ·rfl
  ·unfold CE;rw [Oy,AE A0]
  ·simp only;split
   ·unfold Ga;rw [Oy,AE A0]
   ·rfl
  ·unfold gi;rw [Oy,AE A0]
def aTj {gs:aG}{ca:aVx}{s:DW}:∀(k j:aD),k<=j->
  BL (DR gs ca s k).st j=BL s.st j/\CE (DR gs ca s k).mi j=CE s.mi j/\Ga (DR gs ca s k).me j=Ga s.me j/\gi (DR gs ca s k).dw j=gi s.dw j
 |0,_,_=>⟨rfl,rfl,rfl,rfl⟩
 |k+1,j,h=>by
  obtain ⟨h1,h2,h3,h4⟩:=aTj (gs:=gs) (ca:=ca) (s:=s) k j A0;obtain ⟨g1,g2,g3,g4⟩:=aTm (gs:=gs) (ca:=ca) (s:=DR gs ca s k) (i:=k) (j:=j) A0;unfold DR
  grind
def aTk {gs:aG}{ca:aVx}{s:DW}{n:aD}(hm:M s.mi=n) (he:M s.me=n) (hd:M s.dw=n) {j:aD}(hj:j<n):∀(k:aD),j<k->
  CE (DR gs ca s k).mi j=(if (d1 gs ca s j).ok=U then Jl (d1 gs ca s j).c (d1 gs ca s j).m (d1 gs ca s j).ph (d1 gs ca s j).al else CE s.mi j)/\
  Ga (DR gs ca s k).me j=(if (d1 gs ca s j).ok=U/\G8 (d1 gs ca s j).e (d1 gs ca s j).a (d1 gs ca s j).o=0 then He (d1 gs ca s j).e (d1 gs ca s j).a (d1 gs ca s j).o else Ga s.me j)/\
  gi (DR gs ca s k).dw j=(if (d1 gs ca s j).ok=U then (d1 gs ca s j).a else gi s.dw j)
 |0,h=>A0
 | k +1,h=>by
  by_cases e:j=k
  ·subst e
   obtain ⟨h1,h2,h3,h4⟩:=aTj (gs:=gs) (ca:=ca) (s:=s) j j<|Ar _;obtain ⟨l1,l2,l3,l4⟩:=fG (gs:=gs) (ca:=ca) (s:=s) j
   have ed:d1 gs ca (DR gs ca s j) j=d1 gs ca s j:=by unfold d1;rw [h1,h2,h3]
   unfold DR;cases hk:(d1 gs ca s j).ok
   ·rw [aTl A8]
    grind
   ·rw [aJm A8,ed]
    simp only [Bo,Dw];refine ⟨?_,?_,?_⟩
    ·unfold CE;rw [Oy,AD ⟨rfl,A0⟩]
    ·split
     ·unfold Ga;rw [Oy,AD ⟨rfl,A0⟩]
     ·exact h3
    ·unfold gi;rw [Oy,AD ⟨rfl,A0⟩]
  ·obtain ⟨g1,g2,g3,g4⟩:=aTm (gs:=gs) (ca:=ca) (s:=DR gs ca s k) (i:=k) (j:=j) A0
   obtain ⟨h1,h2,h3⟩:=aTk hm he hd hj k A0;exact ⟨g2.trans h1,g3.trans h2,g4.trans h3⟩
def avU {k ph p:Y}(h1:1<=ph/\ph<=7) (h2:1<=p/\p<=7) (h:L3 k ph p≠0):1<=cnt (L3 k ph p):=by
 have:=aDo (k:=k) h1 h2
 unfold cnt;omega
def D1.bd {d:D1}(h:d.ok=U):0<=d.a/\d.a<=80/\0<=d.o/\d.o<=3/\(d.a≠0->1<=d.o)/\(Jl d.c d.m d.ph d.al).2.2=d.m.2.2+2300*d.a*d.o:=by
 unfold D1.ok at h;simp only [AV,D6,CV,Cy] at h
 have hB:dwB d.c d.m d.ph d.al=true:=by
  exact aNY
 obtain ⟨hc,hm,h1,h2,h3,h4,_⟩:=fQ.1 hB;obtain ⟨b1,b2,b3,b4⟩:=aFh hc hm ⟨h1,h2⟩ ⟨h3,h4⟩
 have hc':=WU.1 hc
 have hs:=aok (n:=Ee d.c d.m d.ph d.al)
 have ea:d.a=Et d.c d.m d.ph d.al:=aPV
 have eo:d.o=cnt (HV d.c d.m d.ph d.al):=by unfold D1.o Ee;rw [AD hB]
 refine ⟨A0,A0,hs.1,hs.2,λhz=>?_,?_⟩
 ·rw [eo]
  rw [ea] at hz;unfold HV;rw [AE hz];refine avU ⟨A0,A0⟩ ⟨h1,h2⟩ λhq=>hz ?_
  unfold Et
  grind
 ·unfold Jl
  rw [AD hB,ea,eo];rfl
def wV {l:aM}{t:Y}(h:B1 l=U):B1 (BW l t)=true:=by
 unfold BW;split
 ·exact qL h y7
 ·rfl
def axf {t:Y}{s:SN}{x:Le}(h:VK s.se s.fl/\B1 s.ls=U):VK (F9 t s x).se (F9 t s x).fl/\B1 (F9 t s x).ls=true:=by
 unfold F9;split
 ·rename_i hc
  refine ⟨(h.1.st hc.2).2,?_⟩
  have:=(wB (x:=x) h.2).1
  unfold grS at this;rw [AD hc.1] at this;exact this
 ·exact h
def aQ1 {t:Y}{xs:aM}{s:SN}(h:VK s.se s.fl/\B1 s.ls=U):∀n,VK (EL t xs s n).se (EL t xs s n).fl/\B1 (EL t xs s n).ls=U
 |0=>h
 |n+1=>axf<|aQ1 h n
def anl {p:PK}(h:VK p.se p.fl/\B1 p.ls=U):VK p.AK.se p.AK.fl/\B1 p.AK.ls=true:=by
 have hx:B1 (Dv p.ls p.tk)=true:=by
  unfold Dv;split
  ·exact wV h.2
  ·exact h.2
 unfold PK.AK;split
 ·exact h
 ·split
  ·grind
  ·exact aQ1 (s:=p.GA) ⟨h.1,hx⟩ _
def JP.step {p:PK}(h:JP p) {e:EV}(he:Bk p e=0):JP (BA p e):=by
 obtain ⟨⟨hV,hR⟩,hk⟩:=h;refine ⟨⟨hV.step he,hR.step hV he⟩,?_⟩;unfold BA;rw [AE A0];unfold Bk at he;rw [AE (by rw [W2.2 hV];decide)] at he
 split
 ·exact anl hk
 rename_i h1;rw [AE h1] at he;split
 ·exact hk
 rename_i h2;rw [AE h2] at he;split
 ·exact hk
 rename_i h3;rw [AE h3] at he;split
 ·exact hk
 rename_i h4;rw [AE h4] at he;split
 ·exact ⟨hk.1,rfl⟩
 rename_i h5;rw [AE h5] at he;split
 ·rename_i h6
  rw [AD h6] at he;refine ⟨hk.1,?_⟩;unfold PK.Fq at he;split at he
  ·cases he
  split at he
  ·rename_i g1 g2;exact absurd he g2
  ·rename_i g1 g2
   exact wV<|aBL<|mK λg=>g2 g
 rename_i h6;rw [AE h6] at he;split
 ·exact hk
 ·exact hk
def JP.Ef {p:PK}(h:JP p):∀(n:aD) (l:Y),JP (OR n p l).1
 |0,_=>h
 | n+1,l=>by
  unfold OR;split
  ·rename_i hc
   exact (h.step hc.1).Ef n _
  ·exact h
def XA {cs:aL}{os:aF}{ks:aR}{gs:aG}{bs:aS}{dr:aC}(h:H3 cs os ks gs bs dr=0):JP (newP cs os ks gs bs dr):=by
 have hn:=tj h
 have hp:newP cs os ks gs bs dr=_:=AE A8
 refine ⟨hn,⟨hn.2.fl,?_⟩,?_⟩
 ·rw [hp]
  exact ⟨[],0,rfl,rfl,⟨0,1019,_,iY⟩,Cz _⟩
 ·rw [hp]
  rfl
def NW {p:PK}(hJ:JP p) (ht:p.tk<1000000):Bk p FG=0/\BA p FG=p.BM/\DI p FG=p.Fp/\M (DI p FG)=M (BA p FG).ca/\p.BM.tk=p.tk+1:=by
 have hv:=hJ.1.1
 have he:Bk p FG=0:=by
  unfold Bk;rw [AE nr,AD (show FG.ek=1 from rfl)];exact AE A0
 have e2:BA p FG=p.BM:=by unfold BA;rw [he];rfl
 have e3:DI p FG=p.Fp:=by unfold DI;rw [he];rfl
 have hJ2:=hJ.step he
 refine ⟨he,e2,e3,?_,aOu⟩;rw [hJ2.1.1.ca,e2,e3];refine (fG _).2.2.2.trans ?_;exact Cf
def goQ:aD->QV->QV
 |0,q=>q
 |n+1,q=>goQ n q.tick
def goP:aD->PK->PK
 |0,p=>p
 |n+1,p=>goP n p.BM
def aGF:∀(n:aD) {p:PK},goP (n+1) p=(goP n p).BM
 |0,_=>rfl
 |n+1,p=>aGF n (p:=p.BM)
def aGE:∀(n:aD) {q:QV},goQ (n+1) q=(goQ n q).tick
 |0,_=>rfl
 |n+1,q=>aGE n (q:=q.tick)
def aG9 {q:QV}(h:q.tick.ok=U):q.ok=true:=by
 have h:q.dec.ok=true:=h
 unfold QV.dec at h;split at h
 ·exact h
 split at h
 ·exact h
 ·exact aIU (s:=(q.p.GA,q.vl,q.ok)) _ h
def aSr:∀(n:aD) {q:QV},(goQ n q).ok=U->q.ok=U
 |0,_,h=>h
 |n+1,q,h=>aG9<|aSr n (q:=q.tick) h
def aK2:∀(n:aD) {p:PK}{q:QV},RP p q->(goQ n q).ok=U->RP (goP n p) (goQ n q)
 |0,_,_,h,_=>h
 |n+1,_,q,h,hk=>aK2 n (aG8 h<|aSr n hk).1 hk
def wC:∀(n:aD) {p:PK},JP p->p.tk+n<1000000->JP (goP n p)/\(goP n p).tk=p.tk+n
 |0,p,h,_=>⟨h,by show p.tk=p.tk+0;omega⟩
 |n+1,p,h,ht=>by
  obtain ⟨he,e2,_,_,etk⟩:=NW h A0
  have h2:=h.step he
  rw [e2] at h2;obtain ⟨a1,a2⟩:=wC n h2 A0;exact ⟨a1,by show (goP n p.BM).tk=_;omega⟩
def aGW {p:PK}{q:QV}{e:EV}(h:RP p q) (hk:e.ek=2) (hv:Er q.p=U) (he:q.p.GM e.en e.c e.d=0):Bk p e=0/\RP (BA p e) {q with p:=q.p.Nt e.en e.c e.d}:=by
 have e1:Bk p e=0:=by
  have:q.p.GM e.en e.c e.d=p.GM e.en e.c e.d:=by rw [h.1];rfl
  unfold Bk;rw [<-aqf h,hv,AE Ac,AE z7,AD hk];exact this.symm.trans he
 refine ⟨e1,?_⟩
 have e2:BA p e=p.Nt e.en e.c e.d:=by
  unfold BA;rw [e1,AE Ac,AE z7,AD hk]
 rw [e2];exact ⟨by simp only;rw [h.1];rfl,h.2⟩
def zC:aL:=[(aw #[102],-1,32,32,(32,100),0,0,0,0,0)]
def zG:aG:=letI a:=((aw #[112])++(Utf8.encode 97),((0:Y),((1:Y),((6:Y),((32:Y),((1:Y),((0:Y),(0:Y))))))));letI b:=((aw #[112])++(Utf8.encode 98),((0:Y),((1:Y),((6:Y),((32:Y),((1:Y),((0:Y),(0:Y))))))));(((([a])++([b])).drop 0).take<|M ([a])+M ([b]))
def zV (i:Y):EV:=⟨2,i,0,(0,1,32,1000000000,0),bD⟩
def zN:PK:=newP zC bO [] zG [] [100,-100]
def z0:QV:=⟨⟨zC,bO,[],zG,[],0,U,[],0,[],[(0,0),(0,0)],1,[(0,0,0,X),(0,0,0,X)],[(0,0,0,0,0),(0,0,0,0,0)],[([],0,0),([],0,0)],[(1,0,X),(2,0,X)],[(X,0,0,9),(X,0,0,9)],[],[100,-100],[32]⟩,[],U⟩
def z1 (q:QV) (i:Y):QV:={q with p:=q.p.Nt i (0,1,32,1000000000,0) bD}
def ir:H3 zC bO [] zG [] [100,-100]=0:=AX
def aoD:RP zN z0:=by
 have e2:zN={z0.p with se:=512,fl:=Eb}:=by
  unfold zN newP;rw [ir]
  kernel_rfl
 rw [e2];exact ⟨rfl,rfl,rfl,1019,_,iY,rfl⟩
def TW:Bk zN (zV 0)=0/\Bk (BA zN<|zV 0) (zV 1)=0/\RP (BA (BA zN<|zV 0)<|zV 1) (z1 (z1 z0 0) 1):=by
 obtain ⟨a1,a2⟩:=aGW (e:=zV 0) aoD rfl AX AX;obtain ⟨b1,b2⟩:=aGW (e:=zV 1) (q:=z1 z0 0) a2 rfl AX AX;exact ⟨a1,b1,b2⟩
def aLU:(goQ 60<|z1 (z1 z0 0) 1).ok=U/\(goQ 59<|z1 (z1 z0 0) 1).Fp=[16,16]:=⟨AX,AX⟩
def akK:(goP 59<|BA (BA zN<|zV 0)<|zV 1).Fp=[16,16]:=by
 have h:=aLU.1
 rw [aGE] at h;rw [(aG8 (aK2 59 TW.2.2<|aG9 h) h).2];exact aLU.2
def WM:=bN f4 0
def Mb:aO:=[iv,gM]
def ark:Sound prog AU (.loop WM) (Fx prog AU Mb EN 20 2 WM):=Oq (gk Mb) kN.h 20 2 WM
def WK:=bN f4 1
def arj:Sound prog AU (.loop WK) (Fx prog AU Mb EN 20 2 WK):=Oq (gk Mb) kN.h 20 2 WK
def zE:Y:=H3 zC bO [] zG [] [100,-100]
def zP:PK:=BA (BA zN<|zV 0)<|zV 1
def akL {p:PK}{q:QV}(h:RP p q) (h0:q.p.tk=0):p.tk=0:=by
 have:=B0 PK.tk h.1
 exact this.symm.trans h0
def XV:JP zP/\zP.tk=0:=by
 have h0:JP zN:=XA ir
 have h1:=(h0.step TW.1).step TW.2.1
 exact ⟨h1,(akL TW.2.2 rfl)⟩
structure Kf where
 b:aN
 l:aC
 i:Y
 p:PK
def aGx:=bN f4 2
def jF (s:Kf):T (Rd Kf):=
 .br (aq<|s.i<60) (.req (JP s.p)<|.br ((Bk s.p FG) !=0) (.so (.ret) {s with b:=X})<|.nx {s with l:=DI s.p FG,i:=AA<|s.i+1,p:=BA s.p FG}) (.so (.exit 4) s)
def kK (s:Kf):Prop:=s.i=0/\s.p=zP
def Yo (s:Kf):Prop:=(0<=s.i/\s.i<=60)/\s.p=goP s.i.toNat zP/\(s.i=60->s.l=[16,16])
def vJ (s:Kf):aD:=(60-s.i).toNat
def aCV (x:Ex) (s s':Kf):Prop:=x=.exit 4/\s'.l=[16,16]
def al6:∀s,kK s->Yo s:=by
 rintro s ⟨h0,h1⟩
 exact ⟨⟨A0,A0⟩,nk,λc=>A0⟩
def axG:Da Yo vJ aCV jF:=by
 intro s hI;unfold jF;dsimp only [T.rd,T.rl,T.rv];obtain ⟨⟨h0,h1⟩,h2,h3⟩:=hI;refine AH (λc1=>?_) λc1=>?_
 ·have c1:s.i<60:=AY
  rw [AJ (x:=s.i+1)];obtain ⟨hJ,ht⟩:=wC s.i.toNat XV.1 (by rw [XV.2];omega)
  rw [<-h2] at hJ ht;obtain ⟨he,eP,eD,_,_⟩:=NW hJ (by rw [ht,XV.2];omega)
  refine AH (λc2=>absurd he<|EH.1 c2) λc2=>⟨⟨⟨AZ,AZ⟩,?_,λc=>?_⟩,by simp only [vJ];omega⟩
  ·show BA s.p FG=goP (s.i+1).toNat zP
   rw [eP,h2,show (s.i+1).toNat=s.i.toNat+1 by omega,aGF]
  ·show DI s.p FG=_
   have c:s.i+1=60:=c
   rw [eD,h2,show s.i.toNat=59 by omega]
   exact akK
 ·have c1:(60:Y)<=s.i:=AY
  exact ⟨rfl,h3 A0⟩
def Pj:AS Kf:=⟨0,88,[0,3,9,59],[.pb 9 A7,.ps 3 0 Ae,.ps 3 1 .str,.ps 3 2 Ak,.ps 3 3 Af,.ps 3 4 Al,.ps 3 7 AO,.ps 3 9<|.int ax,.ps 3 10 Aq,.ps 3 12 B7,.ps 3 13 AO,.ps 3 14 BC,.ps 3 15 BU,.ps 3 16 Ai,.ps 3 17 BP,.ps 3 18 A7,.ps 3 19 A7],λs=>[s.b,.own 0 0,.xl A7 s.l,s.i],λs=>[⟨[s.p.cs,s.p.os,s.p.ks,s.p.gs,s.p.bs,s.p.tk,s.p.up,s.p.ls,s.p.se,.xl (.int ax) s.p.fl,s.p.ra,s.p.nx,s.p.st,s.p.ca,s.p.mi,s.p.me,s.p.dm,s.p.lk,.xl A7 s.p.dr,.xl A7 s.p.tg],48,.cl,X⟩],λv b=>⟨Ds v 0,B3 A7 v 2,AL v 3,rQ b 0⟩,jF,λs r=>r,λs=>s,λ_ s=>s,[.ret,.exit 4],kK,Yo,vJ⟩
abbrev aDR:=Pj.run
abbrev tC:=Pj.Av
def ayq:Rq Yo jF:=by
 intro s hI;refine ⟨λc1=>⟨?_,λ_=>trivial,λ_=>trivial⟩,λ_=>trivial⟩
 ·(obtain ⟨⟨h0,h1⟩,h2,h3⟩:=hI;first|(rw [h2];exact (wC s.i.toNat XV.1 (by rw [XV.2];omega)).1) |omega|exact ⟨rfl,AI⟩)
def aQv:Pj.Ok:={}
def aQX:Pj.Pf (aCV):=⟨al6,λs h=>rfl,axG,ayq⟩
def aru:SA 0 aGx Pj:=s1 aQv aQX Mb kN
def asv:Fi kK Yo aCV tC aDR:=AS.fin aQv aQX
def aU1:aE->T LV
 | []=> .ok U
 |_=> .no
def az7  :letI a:=((aw #[112])++(Utf8.encode 97),((0:Y),((1:Y),((6:Y),((32:Y),((1:Y),((0:Y),(0:Y))))))));letI c:=(aDR (⟨X,([]:aC),(0:Y),zP⟩:Kf));letI d:=((aw #[112])++(Utf8.encode 98),((0:Y),((1:Y),((6:Y),((32:Y),((1:Y),((0:Y),(0:Y))))))));letI e:=(M c.l:Y);Bu prog AU Mb kN (λi=>if i=3 then (Fx prog AU Mb EN 20 2 WM) else if i=11 then (Fx prog AU Mb EN 20 2 WK) else if i=20 then Pj.lp else Ap i) f4 []=.req ((M ([a]):Y)*72<=2^47/\(M ([a]):Y)<2^62) (.rb (M<|[a]) (M<|[d]) 72<|.req (0+(M ([a])+M ([d]))<=M (([a])++([d])))<|.req (M ([(100:Y),(-100:Y)])<=1000)<|.br (zE !=0) (.ok X)<|.req (JP zN)<|.br ((Bk zN<|zV 0) !=0) (.ok X)<|.req (JP<|BA zN<|zV 0)<|.br ((Bk (BA zN<|zV 0)<|zV 1) !=0) (.ok X)<|.req (Pj.q (⟨X,([]:aC),(0:Y),zP⟩:Kf))<|.br (Bt (tC (⟨X,([]:aC),(0:Y),zP⟩:Kf))<|.ret) (.ok c.b)<|.br (e==2) (.req (0<=(0:Y)/\0<e)<|.br ((gi c.l (0:Y))==16) (.req (0<=(1:Y)/\1<e)<|.ok<|.v<|.bool<|(gi c.l (1:Y))==16)<|.ok X)<|.ok X):=AX
def zi:=vm (S:=aU1) func4 Mb kN (L:=(λi=>if i=3 then (Fx prog AU Mb EN 20 2 WM) else if i=11 then (Fx prog AU Mb EN 20 2 WK) else if i=20 then Pj.lp else Ap i)) (λb hb=>by
 rw [show BD _=[WM,WK,aGx] by kernel_rfl] at hb
 simp only [B9,Bx,By] at hb;rcases hb with rfl|rfl|rfl
 ·exact ark
 ·exact arj
 ·exact aru) (λargs lv h=>by
 refine ⟨?_⟩;unfold aU1 at h;split at h
 ·simp only [canL]
  rw [az7];obtain rfl:=h
  have hJ:JP zN:=XA ir
  have hE:kK (⟨X,([]:aC),0,zP⟩:Kf):=⟨rfl,rfl⟩
  obtain ⟨_,_,q1,q2⟩:=asv _ hE
  have q1:tC (⟨X,([]:aC),0,zP⟩:Kf)=.exit 4:=q1
  have q2:(aDR (⟨X,([]:aC),0,zP⟩:Kf)).l=[16,16]:=q2
  refine ⟨AI,AI,AI,AI,λc=>absurd ir<|EH.1 c,λ_=>⟨hJ,λc=>absurd TW.1<|EH.1 c,λ_=>⟨hJ.step TW.1,λc=>absurd TW.2.1<|EH.1 c,λ_=>⟨⟨hE,rfl,rfl⟩,λc=>(by rw [q1] at c;cases c),λ_=>?_⟩⟩⟩⟩
  rw [q2];exact ⟨λ_=>⟨Ac,λ_=>⟨Ac,rfl⟩,λc=>EU⟩,λc=>EU⟩
 ·cases h)
def jV {c:Ch}{s:St}{k n m:Y}(h:s.2.2.2=X) (hk:k≠6\/n≠1):(EC c s k n m).2.2.2=false:=by
 unfold EC;split
 ·rename_i he
  unfold sN;rw [AD he];simp only [sW,h,D5,xa,CV];exact hk
 ·exact h
def anK {c:Ch}{s:St}{k n m:Y}(h:0<=s.2.2.1):(EC c s k n m).2.2.1<=s.2.2.1\/(k=7/\(EC c s k n m).2.2.1=m):=by
 unfold EC;split
 ·rename_i he
  unfold sN;rw [AD he];simp only [sL];split
  ·exact .inr ⟨by assumption,rfl⟩
  ·refine .inl ?_
   split
   ·unfold tkF;split<;>omega
   ·split<;>omega
 ·exact .inl<|Cz _
def anJ {c:Ch}{s:St}(h:sV c s=U):(EC c s 8 0 0).2.2.1=tkF s.2.2.1:=by
 have hv:=Ma.1 h
 have he:sE c s 8 0 0=0:=by
  unfold sE;rw [AD h,AD Ac,AD<|by simp [evV]]
  have:II s.1 s.2.2.2 8 0=s.1:=by simp [II]
  rw [this,AE A0]
 unfold EC sN;rw [AD he,AD he]
 simp [sL]
def w9 {gs:aG}{st:bg}{i k n m:Y}(h0:0<=i) (h1:i<(M st:Y)) {j:Y}(hj:0<=j):BL (CU gs st i k n m) j=if j=i then EC (AG gs i) (BL st i) k n m else BL st j:=by
 unfold CU EC
 by_cases e:j=i
 ·subst e
  rw [AD rfl];split
  ·unfold BL;rw [Oy,AD ⟨rfl,A0⟩]
  ·rfl
 ·rw [AE e]
  split
  ·unfold BL;rw [Oy,AE A0]
  ·rfl
def Bv (gs:aG) (Q:Y->St->Prop) (st:bg):Prop:=M st=M gs/\∀j:Y,0<=j->j<(M gs:Y)->Q j (BL st j)
def Bv.gv {gs:aG}{Q:Y->St->Prop}{st:bg}(h:Bv gs Q st) {i k n m:Y}(h0:0<=i) (h1:i<(M gs:Y)) (hq:Q i (BL st i)->Q i (EC (AG gs i) (BL st i) k n m)):Bv gs Q (CU gs st i k n m):=by
 refine ⟨JC.trans h.1,λj j0 j1=>?_⟩
 rw [w9 h0 (by rw [h.1];exact h1) j0]
 split
 ·rename_i e;subst e;exact hq<|h.2 j j0 j1
 ·exact h.2 j j0 j1
def Bv.arr {gs:aG}{Q:Y->St->Prop}{st:bg}{lk:bz}{t:Y}(h:Bv gs Q st) (hl:∀l∈lk,(0<=l.2.2.1/\l.2.2.1<(M gs:Y))/\(l.1<=t->∀s,Q l.2.2.1 s->Q l.2.2.1 (EC (AG gs l.2.2.1) s 7 l.2.2.2.1 l.2.2.2.2.2))):∀n,n<=M lk->Bv gs Q (LH gs lk t st n)
 |0,_=>h
 | n+1,hn=>by
  have ih:=Bv.arr h hl n A0
  have hm:Fu lk n∈lk:=by
   unfold Fu;rw [K3 (by rw [C0];omega)]
   exact Fk _
  obtain ⟨⟨c0,c1⟩,hq⟩:=hl _ hm;unfold LH;split
  ·exact ih
  ·exact ih.gv c0 c1<|hq A0 _
def Bv.dw {gs:aG}{ca:aVx}{Q:Y->St->Prop}{s:DW}(h:Bv gs Q s.st) (hq:∀j st,Q j st->Q j (EC (AG gs j) st 6 2 0)):∀n,n<=M gs->Bv gs Q (DR gs ca s n).st
 |0,_=>h
 | n+1,hn=>by
  have ih:=Bv.dw (ca:=ca) h hq n A0
  unfold DR Fe;split
  ·exact ih
  ·split
   ·simp only
    split
    ·exact ih.gv A0 A0<|hq _ _
    ·exact ih
   ·exact ih
def Iq (gs:aG) (b:Y->Y) (j:Y) (s:St):Prop:=sV (AG gs j) s=U/\s.2.2.2=X/\s.2.2.1<=b j
def Iq.le {gs:aG}{b b':Y->Y}{j:Y}{s:St}(h:Iq gs b j s) (hb:b j<=b' j):Iq gs b' j s:=⟨h.1,h.2.1,HI h.2.2 hb⟩
def Iq.gv {gs:aG}{b:Y->Y}{j k n m:Y}{s:St}(h:Iq gs b j s) (hk:k≠6\/n≠1) (hm:k=7->m<=b j):Iq gs b j (EC (AG gs j) s k n m):=by
 have hv:=Ma.1 h.1
 refine ⟨w8 h.1,jV h.2.1 hk,?_⟩;rcases anK (c:=AG gs j) (k:=k) (n:=n) (m:=m) hv.2.2.2.1 with e|⟨e1,e2⟩
 ·exact HI e h.2.2
 ·rw [e2];exact hm e1
def abA {gs:aG}{b:Y->Y}{st:bg}(h:Bv gs (Iq gs b) st) (hb:∀j,0<=b j) {i:Y}(h0:0<=i) (h1:i<(M gs:Y)):∀k:aD,Bv gs (Iq gs (λj=>if j=i then (if b j-k<0 then 0 else b j-k) else b j)) (L7 gs st i k)
 |0=>⟨h.1,λj j0 j1=>(h.2 j j0 j1).le aOY⟩
 | k+1=>by
  have ih:=abA h hb h0 h1 k
  unfold L7;refine ⟨JC.trans ih.1,λj j0 j1=>?_⟩
  rw [w9 h0 (by rw [ih.1];exact h1) j0]
  have hj:=ih.2 j j0 j1
  split
  ·rename_i e
   subst e
   have hv:=Ma.1 hj.1
   have h3:=hj.2.2
   have hbj:=hb j
   simp only [Bo] at h3;refine ⟨w8 hj.1,jV hj.2.1<|.inl Ac,?_⟩;rw [anJ hj.1];simp only [Bo];unfold tkF;split at h3<;>split<;>split<;>omega
  ·rename_i e
   refine hj.le ?_;rw [AE e,AE e];exact Cz _
def Q9 (dr:aC) (t:Y) (j:Y):Y:=Bg (t+1) (gi dr j)-Bg t (gi dr j)
def abL {gs:aG}{b:Y->Y}{st:bg}{dr:aC}{t:Y}(h:Bv gs (Iq gs b) st) (hb:∀j,0<=b j) (hd:∀j:Y,0<=j->j<(M dr:Y)->-200<=gi dr j/\gi dr j<=200) (hl:M dr=M gs) (ht:0<=t/\t<1000000):
  ∀n:aD,n<=M dr->Bv gs (Iq gs (λj=>if j<n then (if b j-Q9 dr t j<0 then 0 else b j-Q9 dr t j) else b j)) (JT gs dr t st n)
 | 0,_=>⟨h.1,λj j0 j1=>by
   have:=h.2 j j0 j1
   refine this.le ?_;rw [AE A0];exact Cz _⟩
 | n+1,hn=>by
  have ih:=abL h hb hd hl ht n A0
  have hdn:=hd (n:Y) A0 A0
  have hs:H8 t (gi dr n)=0/\H8 (t+1) (gi dr n)=0:=by
   unfold H8;rw [AD,AD]
   ·exact ⟨rfl,rfl⟩
   ·rw [AV,BO,BO];omega
   ·rw [AV,BO,BO];omega
  have ho:0<=Q9 dr t n:=by
   unfold Q9 Bg;rw [AD VY,AD VY]
   have:t*(1000000+gi dr n)<=(t+1)*(1000000+gi dr n):=MG A0 A0
   have:=xo (by decide:(0:Y)<1000000) this
   omega
  unfold JT;rw [AD hs]
  have:=abA ih (λj=>aOY) (i:=(n:Y)) A0 A0 (Bg (t+1) (gi dr n)-Bg t (gi dr n)).toNat
  refine ⟨this.1,λj j0 j1=>(this.2 j j0 j1).le ?_⟩
  have e:(((Bg (t+1) (gi dr n)-Bg t (gi dr n)).toNat:aD):Y)=Q9 dr t n:=by unfold Q9 at ho|-;omega
  simp only [e]
  have hbj:=hb j
  by_cases ej:j=n
  ·subst ej
   rw [AD rfl,AE (show ¬((n:Y)<(n:Y)) by omega),AD (show (n:Y)<((n+1:aD):Y) by omega)]
   exact Cz _
  ·rw [AE ej]
   by_cases hj:j<(n:Y)
   ·rw [AD hj,AD (show j<((n+1:aD):Y) by omega)];exact Cz _
   ·rw [AE hj,AE (show ¬j<((n+1:aD):Y) by omega)];exact Cz _
structure FI (p:PK):Prop where
 st:Bv p.gs (Iq p.gs (λ_=>12)) p.st
 lk:∀l∈p.lk,p.tk<=l.1/\l.1<=p.tk+10/\l.2.2.2.2.2=12
 ca:∀c∈p.ca,c.1≠4
def anq {p:PK}:∀x∈p.dL,x.2.2.2.2=12:=by
 intro x hx;unfold PK.dL deL at hx;split at hx
 ·obtain ⟨k,hk,rfl⟩:=Hr.1 hx
  have:=(iA (gs:=p.gs) (l:=Dv p.ls p.tk) (t:=p.tk) (n:=p.nx) (am:=FD p.gs p.ra (HU p.EA p.os p.ks p.gs p.bs (Dv p.ls p.tk) p.dm p.tk)<|M p.gs)<|Ar _).1.at_ (k:Y) A0 A0
  have:=this.1
  rw [Md zO] at this;simp only [C0] at this;rw [this]
 ·cases hx
def aiA {p:PK}(hv:VP p) (h:∀l∈p.lk,p.tk<=l.1/\l.1<=p.tk+10/\l.2.2.2.2.2=12):∀l∈p.AK.lk,p.tk<=l.1/\l.1<=p.tk+10/\l.2.2.2.2.2=12:=by
 unfold PK.AK;split
 ·exact λl hl=>by have:=h l hl;omega
 ·split
  ·exact λl hl=>by have:=h l hl;omega
  ·intro l hl
   rcases (fy (t:=p.tk) (xs:=p.dL) (s:=p.GA) _<|Ar _).1 l hl with e|⟨x,hx,rfl⟩
   ·have:=h l e;omega
   ·have h1:=(aBr x hx).1
    have h2:=hv.tk
    have h3:0<=(7*p.tk+3*x.2.1).tmod 5/\(7*p.tk+3*x.2.1).tmod 5<=4:=by
     rw [mS A0];omega
    exact ⟨aOh,aOh,anq x hx⟩
def Xq {p:PK}(hv:VP p):∀j:Y,0<=j->j<(M p.dr:Y)->-200<=gi p.dr j/\gi p.dr j<=200:=λj j0 j1=>by
 have:=BH.1 hv.dr8 (gi p.dr j)<|Ki j0 j1
 rwa [BO] at this
def FI.tick {p:PK}(h:FI p) (hv:VP p) (ht:p.tk≠1000000):FI p.BM:=by
 obtain ⟨e1,e2,e3,e4,e5,e6,e7,e8,e9,e10,e11,e12,e13,e14⟩:=IV p
 have htk:=hv.tk
 have hl:=aiA hv h.lk
 have hvd:=hv.dec
 have s0:Bv p.AK.gs (Iq p.AK.gs λ_=>12) p.AK.st:=by rw [e4,e8];exact h.st
 have s1:Bv p.AK.gs (Iq p.AK.gs λ_=>12) p.AK.L2.st:=s0.arr (t:=p.AK.tk) (λl hl'=>⟨hvd.lk l hl',λ_ s hs=>hs.gv (.inl Ac) (λ_=>by have:=(hl l hl').2.2;(try simp only []);omega)⟩) _<|Ar _
 have s2:Bv p.AK.gs (Iq p.AK.gs λ_=>12) p.Ag.st:=by
  have:=abL (t:=p.AK.tk) (dr:=p.AK.dr) s1 (λ_=>Ac) (Xq hvd) hvd.dr (by rw [e6];omega) (M p.AK.dr)<|Ar _
  refine ⟨this.1,λj j0 j1=>(this.2 j j0 j1).le ?_⟩
  rw [AD (by rw [hvd.dr];exact j1)]
  have ho:0<=Q9 p.AK.dr p.AK.tk j:=by
   have hd:=Xq hvd j j0 (by rw [hvd.dr];exact j1)
   unfold Q9 Bg;rw [AD aPF,AD aPF]
   have:p.AK.tk*(1000000+gi p.AK.dr j)<=(p.AK.tk+1)*(1000000+gi p.AK.dr j):=MG A0 A0
   have:=xo (by decide:(0:Y)<1000000) this
   omega
  split<;>omega
 have s3:Bv p.AK.gs (Iq p.AK.gs λ_=>12) p.Ag.dw.st:=Bv.dw s2 (λj s hs=>hs.gv (.inr Ac) λhk=>NG) _<|Ar _
 refine ⟨s3,λl hl'=>?_,?_⟩
 ·have hm:l∈p.AK.lk/\aq (l.1>p.AK.tk)=true:=Ce.1 hl'
  have:=hl l hm.1
  have h2:=Ct hm.2
  rw [e6] at h2
  have et:p.BM.tk=p.tk+1:=by show p.AK.tk+1=_;rw [e6]
  rw [et];omega
 ·show ∀c∈p.AK.ca,_
  rw [e9];exact h.ca
def FI.step {p:PK}(h:FI p) (hv:VP p) {e:EV}(he:Bk p e=0) (hw:e.ek≠7) (hc:e.c.1≠4):FI (BA p e):=by
 unfold BA;rw [AE A0];unfold Bk at he;rw [AE nr] at he;split
 ·rename_i h1
  rw [AD h1] at he;unfold PK.Ic at he;exact h.tick hv λhh=>aPE
 rename_i h1;rw [AE h1] at he
 have cr:∀ {i:Y},p.isC i≠X->0<=i/\i<(M p.gs:Y):=λ{i} hh=>by
  exact aNG
 split
 ·rename_i h2
  rw [AD h2] at he;unfold PK.GM at he;split at he
  ·cases he
  rename_i hi;obtain ⟨i0,i1⟩:=cr hi;refine {h with st:=?_,ca:=λc hc'=>?_}
  ·exact (((h.st.gv i0 i1 λhs=>hs.gv (.inl Ac) λhk=>NG).gv i0 i1 λhs=>hs.gv (.inl Ac) λhk=>NG).gv i0 i1 λhs=>hs.gv (.inl Ac) λhk=>NG).gv i0 i1 λhs=>hs.gv (.inl Ac) λhk=>NG
  ·rcases OX hc' with hx|rfl
   ·exact h.ca c hx
   ·exact hc
 rename_i h2;rw [AE h2] at he;split
 ·rename_i h3
  rw [AD h3] at he;unfold PK.JG at he;split at he
  ·cases he
  rename_i hi;obtain ⟨i0,i1⟩:=cr hi;refine {h with st:=?_,ca:=λc hc'=>?_}
  ·exact (h.st.gv i0 i1 λhs=>hs.gv (.inr Ac) λhk=>NG).gv i0 i1 λhs=>hs.gv (.inl Ac) λhk=>NG
  ·rcases OX hc' with hx|rfl
   ·exact h.ca c hx
   ·decide
 rename_i h3;rw [AE h3] at he;split
 ·exact {h with lk:=λl hl=>h.lk l (Ce.1 hl).1}
 rename_i h4;rw [AE h4] at he;split
 ·exact {h with}
 rename_i h5;rw [AE h5] at he;split
 ·exact {h with}
 rename_i h6;rw [AE h6] at he;exact {h with}
def ap1 {d t t':Y}(hd:-200<=d/\d<=200) (h0:0<=t) (h1:t<=t') (h2:t'<=1000000):Bg t d<=Bg t' d:=by
 unfold Bg;rw [AD VY,AD VY];exact xo (by decide:(0:Y)<1000000)<|MG h1 A0
def awr {c:Ca}{m:Mi}{al:Y}(hm:IJ m=U) (ha:0<=al) (h4:c.1≠4):Gy c m al<=al:=by
 have hm:=eZ.1 hm
 unfold Gy
 repeat' split
 all_goals omega
def D1.le {d:D1}(h:d.ok=U) (h4:d.c.1≠4):d.a<=d.al:=by
 unfold D1.ok at h;simp only [AV,D6,CV,Cy] at h
 have hB:dwB d.c d.m d.ph d.al=true:=by
  exact aNY
 obtain ⟨hc,hm,h1,h2,h3,h5,_⟩:=fQ.1 hB
 have ea:d.a=Et d.c d.m d.ph d.al:=aPV
 have:=awr (c:=d.c) hm h3 h4
 rw [ea];unfold Et;split<;>omega
def aml {ca:aVx}(h:∀c∈ca,c.1≠4) (i:Y):(Be ca i).1≠4:=by
 unfold Be;rw [DK];cases hx:ca[i.toNat]? with
 |none=>simp
 |some y=>exact h y<|OV hx
structure Hi (C cs:aL):Prop where
 len:M cs=M C
 up:∀o:aD,(Ad cs o).2.1=(Ad C o).2.1
 lim:∀o:aD,DD (Ad C o)<=DD (Ad cs o)
def Hi.on {C cs:aL}(h:Hi C cs) {o:Y}:∀(k:aD) (c:Y),GZ k cs o c=GZ k C o c
 |0,_=>rfl
 | k+1,c=>by
  simp only [GZ];split
  ·rename_i c0
   have e:=h.up c.toNat
   rw [CS c0] at e;rw [e,h.on k]
  ·rfl
def Hi.bel {C cs:aL}(h:Hi C cs) {gs:aG}{o:Y}{k:aD}:Cs cs gs o k=Cs C gs o k:=by
 unfold Cs Fh;simp only [h.on]
section
variable {cs C : List Cd} {os : List ByteArray} {ks : List Ko} {gs : List Ch} {bs : List Ba} {l : List Le} {rs : List Ra} {d : List Dm} {t n : Int}
def Qq (hC:BB C os ks gs bs=U) (hs:BB cs os ks gs bs=U) (hL:Hi C cs) {a b:aC}(hb:∀k:aD,k<M gs->0<=gi b k/\gi b k<=80)
  (ha:∀k:aD,k<M gs->0<=gi a k/\gi a k<=gi b k) (h:DA C gs b=U):DA cs gs a=true:=by
 rw [fc hC hb] at h;rw [fc hs λk hk=>⟨(ha k hk).1,HI (ha k hk).2 (hb k hk).2⟩]
 intro o ho p hp;rw [hL.bel];refine HI (uR λk hk=>?_)<|HI (h o aPN p hp)<|hL.lim o
 have hk:=eE (Ce.1 hk).1
 have:=(ha k.toNat A0).2
 grind
def aqF {B N:aM}(bv:B1 B=U) (bb:below (M gs) B=U) (nv:B1 N=U) (nb:below (M gs) N=U) {t t':Y}(h:∀x∈N,FZ t' x=U->x∈B/\FZ t x=U) {j:Y}(j0:0<=j):
  gi (GQ (M gs) N t') j<=gi (GQ (M gs) B t) j:=
 aL7 nv nb j0 (jt (a:=0) (b:=80) Ac<|tW bv).1 λx hx ha e=>by
  obtain ⟨h1,h2⟩:=h x hx ha
  have:=tV bv bb h1 h2
  grind
def eV {B N:aM}(bv:B1 B=U) (bb:below (M gs) B=U) (nv:B1 N=U) (nb:below (M gs) N=U) {t t':Y}(h:∀x∈N,FZ t' x=U->x∈B/\FZ t x=U) {j:Y}(j0:0<=j) (j1:j<(M gs:Y)):
  gi (Cx gs N t') j<=gi (Cx gs B t) j:=by
 have:=aqF bv bb nv nb h j0
 rw [Qp j0 j1,Qp j0 j1];unfold mx;omega
def s9 {t t':Y}{x:Le}(ht:t<=t') (hx:x.2.2.2.1<=t) (h:FZ t' x=U):FZ t x=true:=by
 unfold FZ at h|-;simp only [AV,Aa] at h|-;omega
def aGP (V:Vd C os ks gs bs l rs d t n) (hs:BB cs os ks gs bs=U) (hL:Hi C cs) {m:aM}(M:NwL gs (FD gs rs (HU C os ks gs bs l d t)<|aa gs) t n m) {B N:aM}
  (bv:B1 B=U) (bb:below (aa gs) B=U) (nv:B1 N=U) (nb:below (aa gs) N=U) (hB:∀x∈B,x.2.2.2.1<=t/\(DF x>t->x∈l)) (hN:∀x∈N,x∈B\/x∈m)
  (hk:DA cs gs (Cx gs B t)=U) {t':Y} (ht:t<=t'):DA cs gs (Cx gs N t')=true:=by
 rw [fc hs λk hk=>IW hs nv A0 A0]
 rw [fc hs λk hk=>IW hs bv A0 A0] at hk
 intro o ho p hp
 have h1:=hk o ho p hp
 rw [hL.bel] at h1|-
 have hin:∀k∈Bz gs p (Cs C gs o<|aa gs),0<=k/\k<(aa gs:Y):=λk hk=>eE (Ce.1 hk).1
 have hBl:∀j:Y,0<=j->j<(aa gs:Y)->gi (Cx gs B t) j<=gi (Cx gs l t) j:=λj j0 j1=>
  eV V.les V.co bv bb (λx hx ha=>⟨(hB x hx).2 (by unfold FZ at ha;simp only [AV,Aa] at ha;exact ha.2),ha⟩) j0 j1
 have hmx:∀k∈Bz gs p (Cs C gs o<|aa gs),gi (Cx gs N t') k<=mx (gi (Cx gs B t) k) (gi (FD gs rs (HU C os ks gs bs l d t)<|aa gs) k):=λk hk=>by
  obtain ⟨j0,j1⟩:=hin k hk
  have hj:=(abJ V j0 j1).1
  have key:gi (GQ (aa gs) N t') k<=mx (gi (GQ (aa gs) B t) k) (gi (FD gs rs (HU C os ks gs bs l d t)<|aa gs) k):=by
   refine aL7 nv nb j0 (by unfold mx;split<;>omega) λx hx ha e=>?_
   rcases hN x hx with h|h
   ·have:=tV bv bb h (s9 ht (hB x h).1 ha)
    rw [e] at this;unfold mx;split<;>omega
   ·obtain ⟨i,hi,rfl⟩:=Hr.1 h
    have q:=(M.at_ i A0 A0).1
    rw [Md A0] at q;simp only [C0] at q
    have:=B0 (λz:Le=>z.2.2.1) q
    simp only [e] at this;unfold mx;split<;>omega
  rw [Qp j0 j1,Qp j0 j1];unfold mx at key|-;omega
 by_cases hl:aa (Bz gs p<|Cs C gs o<|aa gs)>0
 ·have hr:=BH.1 (avw V) _ (aGS hp hl aPN)
  unfold rowB at hr;rw [Cc] at hr;rcases hr with hr|hr
  ·refine HI (uR λk hk=>?_) h1
   have h2:=hmx k hk
   have h3:gi (FD gs rs (HU C os ks gs bs l d t)<|aa gs) k=0:=A8
   have h4:=IW (t2:=t) hs bv (hin k hk).1 (hin k hk).2
   rw [h3] at h2;unfold mx at h2;split at h2<;>omega
  ·refine HI (aQ4 λk hk=>HI (hmx k hk) ?_) (HI (Ct hr)<|hL.lim o)
   have:=hBl k (hin k hk).1 (hin k hk).2
   exact ND
 ·have e:Bz gs p (Cs C gs o<|aa gs)=[]:=aM1 A0
  rw [e] at h1|-;exact h1
end
def Wh {tg:aC}{cs:aL}:∀n,n<=M cs->∀j:aD,Ad (Dz cs tg n) j=if j<n then GW (Ad cs j) (gi tg j) else Ad cs j
 |0,_,j=>LY
 | n+1,hn,j=>by
  have h1:=Wh (tg:=tg) (cs:=cs) n A0
  unfold Dz;rw [WT (by rw [NP];omega)]
  by_cases e:j=n
  ·subst e
   grind
  ·rw [AE e,h1 j]
   by_cases c:j<n
   ·grind
   ·grind
def aJw {a b:aL}(h:M a=M b) (hg:∀j:aD,j<M a->Ad a j=Ad b j):a=b:=
 Ze h λi h1 h2=>by
  have:=hg i h1
  rwa [Qv h1,Qv h2] at this
def Vj (cs X:aL):Prop:=M X=M cs/\∀j:aD,∃u,Ad X j=GW (Ad cs j) u
def Vj.ask {cs X:aL}(h:Vj cs X) {tg:aC}(ht:M tg=M cs):Dz X tg (M tg)=Dz cs tg (M tg):=
 aJw (by rw [NP,NP,h.1]) λj hj=>by
  rw [NP,h.1] at hj;obtain ⟨u,e⟩:=h.2 j;rw [Wh _ (by rw [h.1];omega),Wh _ A0,AD A0,AD A0,e]
  rfl
def aJB {gs:aG}{tg am:aC}{cs:aL}{n:aD}(hn:n<=M cs):Vj cs (Cl gs tg am cs n):=
 ⟨TA n,λj=>by
  rcases (fV (gs:=gs) (tg:=tg) (am:=am) n hn j).1 with e|⟨_,_,e⟩
  ·exact ⟨_,e⟩
  ·exact ⟨_,e⟩⟩
def ag4 {c:Cd}{u v:Y}(h:u<=v):DD (GW c u)<=DD (GW c v):=by
 unfold DD GW Je;simp only [List.foldl];omega
def aTH {tg:aC}{cs X:aL}(h:Vj cs X) (ht:M tg=M cs) (hl:∀j:aD,j<M cs->gi tg j<=(Ad X j).2.2.1):Hi (Dz cs tg<|M tg) X where
 len:=by rw [NP,h.1]
 up:=λo=>by
  obtain ⟨u,e⟩:=h.2 o;rw [Wh _ A0,e];split<;>rfl
 lim:=λo=>by
  obtain ⟨u,e⟩:=h.2 o;rw [Wh _ A0];split
  ·rename_i c
   have:=hl o A0
   rw [e] at this|-;exact ag4 this
  ·rename_i c
   have e1:Ad X o=Ad cs o:=by
    unfold Ad;rw [DK,DK,Sc (by rw [h.1];omega),Sc A0]
   rw [e1];omega
def aJC {gs:aG}{tg am:aC}{cs:aL}{os:aF}{ks:aR}{bs:aS}(hs:BB cs os ks gs bs=U) (ht:∀k:aD,k<M cs->1<=gi tg k/\gi tg k<=(Ad cs k).2.2.1) (hl:M tg=M cs) (hm:M am=M gs)
  (hb:∀k:aD,k<M gs->0<=gi am k/\gi am k<=80) (hk:DA (Dz cs tg<|M tg) gs am=U):∀n,n<=M cs->∀j:aD,j<n->(Ad (Cl gs tg am cs n) j).2.2.1=gi tg j
 |0,_,j,h=>A0
 | n +1,hn,j,hj=>by
  have h1:=aJC hs ht hl hm hb hk n A0
  have t1:∀k:aD,k<M cs->1<=gi tg k/\gi tg k<=1000:=λk hk=>by
   have a:=ht k hk
   have b:=iC hs hk
   omega
  have ho:=aJB (gs:=gs) (tg:=tg) (am:=am) (cs:=cs) (n:=n) A0
  have hge:∀k:aD,k<M cs->gi tg k<=(Ad (Cl gs tg am cs n) k).2.2.1:=λk hk=>by
   rcases (fV (gs:=gs) (tg:=tg) (am:=am) (cs:=cs) n A0 k).1 with e|⟨_,_,e⟩
   ·grind
   ·grind
  have hx:n<M (Cl gs tg am cs n):=by rw [ho.1];omega
  unfold Cl;split
  ·rename_i c
   by_cases e:j=n
   ·subst e
    have:=hge j A0
    omega
   ·exact h1 j A0
  ·have hq:DA ((Cl gs tg am cs n).set n<|GW (Ad (Cl gs tg am cs n) n)<|gi tg n) gs am=true:=by
    refine Qq (qG hs t1 _ A0) (dg (pw hs t1 n A0) hx<|t1 n A0) (aTH ⟨by rw [C5,ho.1],λk=>?_⟩ hl λk hk=>?_) hb (λk hk=>⟨(hb k hk).1,Cz _⟩) hk
    ·rw [WT hx]
     split
     ·rename_i e
      obtain ⟨u,e2⟩:=ho.2 n;subst e;exact ⟨gi tg k,by rw [e2];rfl⟩
     ·exact ho.2 k
    ·rw [WT hx]
     split
     ·rename_i e
      subst e;exact Cz _
     ·exact hge k hk
   rw [AD A8,WT hx]
   by_cases e:j=n
   ·rw [AD e,e];rfl
   ·rw [AE e]
    grind
def sT {p:PK}(hv:VP p) {e:EV}(he:Bk p e=0):letI a:=BA p e;(p.tk<1000000/\BA p e=p.BM)\/BA p e=p.Tx\/(p.Fq=0/\BA p e=p.U8)\/(p.I7 e.en e.em=0/\BA p e=p.LF e.en e.em)\/BA p e={p with st:=a.st,ca:=a.ca,mi:=a.mi,dm:=a.dm,lk:=a.lk}:=by
 have hw:=he
 unfold Bk at he;rw [AE A8] at he;unfold BA;rw [AE A0];split
 ·rename_i h1
  rw [AD h1] at he
  have:=hv.tk
  unfold PK.Ic at he;split at he
  ·cases he
  ·grind
 rename_i h1;rw [AE h1] at he;split
 ·exact nI
 rename_i h2;rw [AE h2] at he;split
 ·exact nI
 rename_i h3;rw [AE h3] at he;split
 ·exact nI
 rename_i h4;rw [AE h4] at he;split
 ·grind
 rename_i h5;rw [AE h5] at he;split
 ·rename_i h6
  grind
 rename_i h6;rw [AE h6] at he;split
 ·exact nI
 rename_i h7;rw [AE h7] at he;split at he
 ·grind
 ·cases he
def TL (gl:aD) (t:Y) (x:Le):Prop:=x.2.2.2.1<t/\x.2.2.2.2=12/\0<=x.2.1/\x.2.1<(gl:Y)
def TL.le {gl:aD}{t t':Y}{x:Le}(h:TL gl t x) (ht:t<=t'):TL gl t' x:=⟨by have:=h.1;omega,h.2⟩
structure SG (T:Le->Prop) (b:Y) (s:SN):Prop where
 nx:1<=s.nx/\s.nx<=b
 ls:B1 s.ls=U/\∀x∈s.ls,T x
 vl:∃vl g,VI s.se s.fl vl g/\∀x∈vl,x.1<s.nx/\T x
def SG.le {T T':Le->Prop}{b b':Y}{s:SN}(h:SG T b s) (hb:b<=b') (hT:∀x,T x->T' x):SG T' b' s:=by
 obtain ⟨vl,g,h1,h2⟩:=h.vl;exact ⟨⟨h.nx.1,by have:=h.nx.2;omega⟩,⟨h.ls.1,λx hx=>hT x<|h.ls.2 x hx⟩,vl,g,h1,λx hx=>⟨(h2 x hx).1,hT x (h2 x hx).2⟩⟩
def SG.snd {T:Le->Prop}{b t:Y}{s:SN}(h:SG T b s) {x:Le}(hx:T x) (hn:1<=x.1+1/\x.1+1<=b):SG T b (F9 t s x):=by
 unfold F9;split
 ·rename_i hc
  obtain ⟨vl,g,h1,h2⟩:=h.vl;obtain ⟨vl',g',q1,q2,q3,q4⟩:=zp h1 hc.2
  have e:GO s.ls x=s.ls++[x]:=yw
  refine ⟨hn,?_,vl',g',q1,λy hy=>?_⟩
  ·have:=(wB (x:=x) h.ls.1).1
   unfold grS at this;rw [AD hc.1] at this;refine ⟨this,λy hy=>?_⟩
   simp only [e,BZ,HJ] at hy;rcases hy with hy|rfl
   ·exact h.ls.2 y hy
   ·exact hx
  ·have hy:y∈vl++[x]:=by
    exact aNL
   rw [BZ,HJ] at hy;rcases hy with hy|rfl
   ·have:=(List.pairwise_append.1 (tN.1 q3).2.2).2.2 y hy x AI
    grind
   ·grind
 ·exact h
def SG.EL {T:Le->Prop}{b t:Y}{s:SN}{xs:aM}(h:SG T b s) (hx:∀k:aD,k<M xs->T (An xs k)/\1<=(An xs k).1+1/\(An xs k).1+1<=b):∀n,n<=M xs->SG T b (EL t xs s n)
 |0,_=>h
 |n+1,hn=>by
  obtain ⟨h1,h2⟩:=hx n A0;exact (h.EL hx n A0).snd h1 h2
def uQ {t:Y}{xs:aM}{s:SN}:∀n,n<=M xs->∀x∈(EL t xs s n).ls,x∈s.ls\/x∈xs
 |0,_,x,hx=> .inl hx
 | n+1,hn,x,hx=>by
  unfold EL F9 at hx;split at hx
  ·rename_i hc
   have e:GO (EL t xs s n).ls (An xs n)=(EL t xs s n).ls++[An xs n]:=yw
   simp only [e,BZ,HJ] at hx;rcases hx with hx|rfl
   ·exact uQ n A0 x hx
   ·exact .inr<|Li A0 A0
  ·exact uQ n A0 x hx
variable {p : PK}
def PK.snp (p:PK):SN:=⟨p.ls,p.se,p.fl,p.nx,p.lk⟩
structure TG (p:PK):Prop where
 kt:DA p.EA p.gs (Bq p.gs)=U
 sg:SG (TL (M p.gs) p.tk) (16*p.tk+1) p.snp
def Xr (h:p.dE=0):Vd p.EA p.os p.ks p.gs p.bs (Dv p.ls p.tk) p.ra p.dm p.tk p.nx/\NwL p.gs (FD p.gs p.ra (HU p.EA p.os p.ks p.gs p.bs (Dv p.ls p.tk) p.dm p.tk)<|M p.gs) p.tk p.nx p.dL/\M p.dL<=M p.gs:=by
 unfold PK.dE deE at h;split at h
 ·rename_i hv
  have e:p.dL=H7 p.gs (Dv p.ls p.tk) p.tk p.nx (FD p.gs p.ra (HU p.EA p.os p.ks p.gs p.bs (Dv p.ls p.tk) p.dm p.tk)<|M p.gs) (M p.gs):=AD hv
  exact ⟨aa8 hv,by rw [e];exact (iA<|Ar _).1,wb⟩
 ·cases h
def iR (hJ:JP p):Dv p.ls p.tk=p.ls.filter (LD p.tk):=by
 have ht:=hJ.1.1.tk
 have h:L1 p.ls p.tk=true:=by unfold L1;rw [hJ.2.2,BO.2 A0];rfl
 unfold Dv DO BW
 grind
def TG.dec (h:TG p) (hJ:JP p):SG (TL (aa p.gs)<|p.tk+1) (16*(p.tk+1)+1) p.AK.snp:=by
 have h0:=h.sg.le (T':=TL (aa p.gs)<|p.tk+1) (b':=16*(p.tk+1)+1) A0 λx hx=>hx.le A0
 have hx:SG (TL (aa p.gs)<|p.tk+1) (16*(p.tk+1)+1) p.GA:=by
  refine ⟨h0.nx,?_,h0.vl⟩
  show B1 (Dv p.ls p.tk)=U/\∀x∈Dv p.ls p.tk,_
  rw [iR hJ];exact ⟨qL hJ.2.2 y7,λx hx=>h0.ls.2 x (Ce.1 hx).1⟩
 unfold PK.AK;split
 ·exact h0
 split
 ·exact ⟨h0.nx,hx.ls,h0.vl⟩
 ·rename_i hd
  obtain ⟨V,M,hl⟩:=Xr<|V7.1 hd
  have hg:=V.gl
  have hn:=h.sg.nx
  refine (hx.EL (t:=p.tk) (xs:=p.dL) (λk hk=>?_) _<|Ar _)
  obtain ⟨q1,q2,_⟩:=M.at_ k A0 A0;rw [q1]
  have hn:1<=p.nx/\p.nx<=16*p.tk+1:=hn
  exact ⟨⟨A8,rfl,q2⟩,A0,A0⟩
def sR (hv:VP p):Vj p.cs p.BM.cs:=by
 show Vj p.cs (if p.Ag.BX.up=X then p.Ag.BX.cs else Cl p.Ag.BX.gs p.Ag.BX.tg p.Ag.BX.Jj p.Ag.BX.cs (M p.Ag.BX.tg))
 have e:p.Ag.BX.cs=p.cs:=(IV p).1
 have e2:p.Ag.BX.tg=p.tg:=(IV p).2.2.2.2.2.2.2.2.2.2.2.2.2
 rw [e,e2];split
 ·exact ⟨rfl,λj=>⟨_,rfl⟩⟩
 ·exact aJB ng
def TG.tick (h:TG p) (hJ:JP p):TG p.BM:=by
 obtain ⟨e1,e2,e3,e4,e5,e6,e7,e8,e9,e10,e11,e12,e13,e14⟩:=IV p
 have hd:=h.dec hJ
 have eg:p.BM.gs=p.gs:=e4
 have et:p.BM.tk=p.tk+1:=B0 (·+1) e6
 have eT:p.BM.tg=p.tg:=e14
 refine ⟨?_,?_⟩
 ·have:p.BM.EA=p.EA:=by
   show Dz p.BM.cs p.BM.tg (M p.BM.tg)=_
   rw [eT];exact (sR hJ.1.1).ask hJ.1.1.Es
  rw [this,eg];exact h.kt
 ·rw [eg,et]
  exact ⟨hd.nx,hd.ls,hd.vl⟩
def TG.step (h:TG p) (hJ:JP p) {e:EV}(he:Bk p e=0):TG (BA p e):=by
 have hv:=hJ.1.1
 rcases sT hv he with ⟨_,c⟩ |c|⟨c0,c⟩ |⟨c0,c⟩ |c
 ·rw [c];exact h.tick hJ
 ·rw [c];exact ⟨h.kt,h.sg.nx,⟨rfl,λx hx=>Sw⟩,h.sg.vl⟩
 ·rw [c]
  obtain ⟨vl,g,h1,h2⟩:=h.sg.vl;obtain ⟨l1,l2⟩:=h1.ld
  have l1:CZ p.se p.fl=0:=l1
  have l2:Aj p.se p.fl=vl:=l2
  have hn:=h.sg.nx
  have hn:1<=p.nx/\p.nx<=16*p.tk+1:=hn
  have hnw:Ip p.se p.fl=0:=by
   unfold PK.Fq at c0;split at c0
   ·cases c0
   ·rw [l1,l2] at c0
    split at c0
    ·grind
    split at c0
    ·grind
    ·exact c0
  have hA:1<=Jd p.se p.fl/\Jd p.se p.fl<=p.nx/\∀x∈vl,x.1<Jd p.se p.fl:=by
   unfold Ip at hnw;unfold Jd;rw [l1,l2] at hnw|-;split
   ·rename_i q
    grind
   ·rename_i q
    rw [AE q] at hnw;split
    ·grind
    ·have hm:An vl ((M vl:Y)-1)∈vl:=Li A0 A0
     have b1:=(Kc.1<|(GK h1.lv).2 _ hm).1.1
     have b2:(An vl<|(M vl:Y)-1).1<p.nx:=(h2 _ hm).1
     refine ⟨A0,A0,λx hx=>?_⟩
     rw [aDv (l:=vl) A0,BZ,HJ] at hx;rcases hx with hx|rfl
     ·have:=h1.lv
      rw [aDv (l:=vl) A0] at this
      have:=(List.pairwise_append.1 (tN.1 this).2.2).2.2 x hx _<|HJ.2 rfl
      have:=this.1
      omega
     ·omega
  refine ⟨h.kt,⟨hA.1,by show Jd p.se p.fl<=16*p.tk+1;omega⟩,?_,vl,g,h1,λx hx=>⟨hA.2.2 x hx,(h2 x hx).2⟩⟩
  show B1 (BW (Aj p.se p.fl) p.tk)=U/\∀x∈BW (Aj p.se p.fl) p.tk,_
  rw [l2];refine ⟨wV h1.lv,λx hx=>?_⟩
  unfold BW at hx;split at hx
  ·exact (h2 x (Ce.1 hx).1).2
  ·cases hx
 ·rw [c]
  refine ⟨?_,h.sg⟩;unfold PK.I7 at c0;split at c0
  ·cases c0
  split at c0
  ·cases c0
  ·rename_i c1
   exact (Sd _).mp c1
 ·rw [c];exact ⟨h.kt,h.sg.nx,h.sg.ls,h.sg.vl⟩
def aSf {cs:aL}{os:aF}{ks:aR}{gs:aG}{bs:aS}{dr:aC}(h:H3 cs os ks gs bs dr=0):TG (newP cs os ks gs bs dr):=by
 have hJ:=XA h
 have hp:newP cs os ks gs bs dr=_:=AE A8
 rw [hp] at hJ|-;refine ⟨?_,⟨(by decide:(1:Y)<=1),(by decide:(1:Y)<=16*0+1)⟩,⟨rfl,λx hx=>Sw⟩,[],0,⟨rfl,rfl,⟨0,1019,_,iY⟩,Cz _⟩,λx hx=>Sw⟩
 have e:Dz cs (cs.map λc=>c.2.2.1) (M<|cs.map λc=>c.2.2.1)=cs:=aJw (NP _) λj hj=>by
  rw [NP] at hj;rw [Wh _ AI,AD A8,Qv hj]
  have:gi (cs.map λc=>c.2.2.1) (j:Y)=cs[j].2.2.1:=by rw [Ig A8];simp
  rw [this];rfl
 show DA (Dz cs (cs.map λc=>c.2.2.1)<|M<|cs.map λc=>c.2.2.1) gs (Bq gs)=U
 unfold H3 at h;split at h
 ·cases h
 split at h
 ·cases h
 split at h
 ·cases h
 ·rename_i c
  grind
end Go.Proofs.YtepoohnehmfflaaGreatDoor
namespace Go.Proofs.YtepoohnehmfflaaGreatDoor
set_option maxRecDepth 100000
set_option maxHeartbeats 4000000
open Go.Proofs.Tryz
open Go.Sx
def anL {c:Ch}{s:St}{k n m:Y}(h:sV c s=U) (hl:0<(EC c s k n m).2.2.1):
  (k=7/\(EC c s k n m).2.1=n/\(EC c s k n m).2.2.1=m)\/(0<s.2.2.1/\(EC c s k n m).2.1=s.2.1/\(EC c s k n m).2.2.1<=s.2.2.1-(if k=8 then 1 else 0)):=by
 have hv:=Ma.1 h
 by_cases he:sE c s k n m=0
 ·have e:EC c s k n m=(II s.1 s.2.2.2 k n,sA s.2.1 s.2.2.1 k n,sL s.2.2.1 k m,sW s.2.2.2 k n):=by unfold EC sN;rw [AD he,AD he]
  rw [e] at hl|-;simp only [sL,sA] at hl|-
  by_cases h7:k=7
  ·rw [AD h7,AD h7]
   grind
  ·right
   by_cases h8:k=8
   ·rw [AD h8] at hl
    have ht:tkF s.2.2.1<=s.2.2.1-1:=by
     unfold tkF at hl|-;split
     ·omega
     ·omega
    omega
   ·rw [AE h8] at hl
    by_cases h9:k=9
    ·omega
    ·rw [AE h9] at hl
     omega
 ·have e:EC c s k n m=s:=AE he
  rw [e] at hl|-;refine .inr ⟨hl,rfl,?_⟩
  by_cases h8:k=8
  ·exfalso
   subst h8;refine he ?_;unfold sE;rw [AD h,AD Ac,AD<|by simp [evV]]
   have:II s.1 s.2.2.2 8 n=s.1:=by simp [II]
   omega
  ·omega
def FJ (gs:aG) (W:Y->Y->Y->Prop) (j:Y) (s:St):Prop:=sV (AG gs j) s=U/\(0<s.2.2.1->W j s.2.1 s.2.2.1)
def FJ.gv {gs:aG}{W W':Y->Y->Y->Prop}{j k n m:Y}{s:St}(h:FJ gs W j s) (hw:∀a l l',W j a l->l'<=l-(if k=8 then 1 else 0)->W' j a l') (hm:k=7->W' j n m):FJ gs W' j (EC (AG gs j) s k n m):=by
 refine ⟨w8 h.1,λhl=>?_⟩
 rcases anL h.1 hl with ⟨e,e1,e2⟩ |⟨e,e1,e2⟩
 ·grind
 ·rw [e1];exact hw _ _ _ (h.2 e) e2
def FJ.le {gs:aG}{W W':Y->Y->Y->Prop}{j:Y}{s:St}(h:FJ gs W j s) (hw:∀a l,0<l->W j a l->W' j a l):FJ gs W' j s:=⟨h.1,λhl=>hw _ _ hl<|h.2 hl⟩
def WL (vl:aM) (f:Y->Y->Y) (b:Y->Y) (j a l:Y):Prop:=∃x∈vl,x.2.1=j/\x.2.2.1=a/\l+b j<=12+f j (x.2.2.2.1+10)
def WL.le {vl:aM}{f:Y->Y->Y}{b:Y->Y}{j a l l':Y}(h:WL vl f b j a l) (hl:l'<=l):WL vl f b j a l':=by
 obtain ⟨x,h1,h2,h3,h4⟩:=h;exact ⟨x,h1,h2,h3,A0⟩
def ab9 {gs:aG}{vl:aM}{f:Y->Y->Y}{b:Y->Y}{st:bg}(h:Bv gs (FJ gs<|WL vl f b) st) {i:Y}(h0:0<=i) (h1:i<(M gs:Y)):∀k:aD,Bv gs (FJ gs<|WL vl f (λj=>if j=i then b j+k else b j)) (L7 gs st i k)
 |0=>⟨h.1,λj j0 j1=>(h.2 j j0 j1).le λa l _ ⟨x,q1,q2,q3,q4⟩=>⟨x,q1,q2,q3,A8⟩⟩
 | k+1=>by
  have ih:=ab9 h h0 h1 k
  unfold L7;refine ⟨JC.trans ih.1,λj j0 j1=>?_⟩
  rw [w9 h0 (by rw [ih.1];exact h1) j0]
  have hj:=ih.2 j j0 j1
  split
  ·rename_i e
   subst e;refine hj.gv (λa l l' ⟨x,q1,q2,q3,q4⟩ hl=>⟨x,q1,q2,q3,?_⟩) λe=>Og
   have q4:l+(if j=j then b j+(k:Y) else b j)<=_:=q4
   show l'+(if j=j then b j+((k+1:aD):Y) else b j)<=_
   omega
  ·rename_i e
   refine hj.le λa l _ ⟨x,q1,q2,q3,q4⟩=>⟨x,q1,q2,q3,?_⟩
   grind
def abK {gs:aG}{vl:aM}{f:Y->Y->Y}{st:bg}{dr:aC}{t:Y}(h:Bv gs (FJ gs<|WL vl f λj=>Bg t<|gi dr j) st) (hd:∀j:Y,0<=j->j<(M dr:Y)->-200<=gi dr j/\gi dr j<=200) (hl:M dr=M gs) (ht:0<=t/\t<1000000):
  ∀n:aD,n<=M dr->Bv gs (FJ gs<|WL vl f (λj=>if j<n then Bg (t+1) (gi dr j) else Bg t (gi dr j))) (JT gs dr t st n)
 | 0,_=>⟨h.1,λj j0 j1=>by
   refine (h.2 j j0 j1).le λa l _ ⟨x,q1,q2,q3,q4⟩=>⟨x,q1,q2,q3,?_⟩
   show l+(if j<((0:aD):Y) then Bg (t+1) (gi dr j) else Bg t (gi dr j))<=_
   rw [AE A0];exact q4⟩
 | n+1,hn=>by
  have ih:=abK h hd hl ht n A0
  have hdn:=hd (n:Y) A0 A0
  have hs:H8 t (gi dr n)=0/\H8 (t+1) (gi dr n)=0:=by
   unfold H8;rw [AD,AD]
   ·grind
   ·rw [AV,BO,BO];omega
   ·rw [AV,BO,BO];omega
  unfold JT;rw [AD hs]
  have:=ab9 ih (i:=(n:Y)) A0 A0 (Bg (t+1) (gi dr n)-Bg t (gi dr n)).toNat
  refine ⟨this.1,λj j0 j1=>(this.2 j j0 j1).le λa l _ ⟨x,q1,q2,q3,q4⟩=>⟨x,q1,q2,q3,?_⟩⟩
  have q4:l+(if j=(n:Y) then (if j<(n:Y) then Bg (t+1) (gi dr j) else Bg t (gi dr j))+(((Bg (t+1) (gi dr n)-Bg t (gi dr n)).toNat:aD):Y) else (if j<(n:Y) then Bg (t+1) (gi dr j) else Bg t (gi dr j)))<=_:=q4
  show l+(if j<((n+1:aD):Y) then Bg (t+1) (gi dr j) else Bg t (gi dr j))<=_
  by_cases ej:j=n
  ·subst ej
   omega
  ·rw [AE ej] at q4
   by_cases hj:j<(n:Y)
   ·omega
   ·omega
def azG {d t t':Y}(hd:-200<=d/\d<=200) (h0:0<=t) (h1:t+13<=t') (h2:t'<=1000000):Bg t' d-Bg t d>=12:=by
 unfold Bg;rw [AD VY,AD VY]
 have:(t+13)*(1000000+d)<=t'*(1000000+d):=MG A0 A0
 have e:(t+13)*(1000000+d)=t*(1000000+d)+13*(1000000+d):=mj _ _ _
 omega
def XQ {x:Le}(h:x.2.2.2.2=12):DF x=x.2.2.2.1+23:=by
 unfold DF;rw [h,show wt 12=13 by decide];omega
def WJ (vl:aM) (dr:aC) (t:Y):Y->Y->Y->Prop:=WL vl (λj u=>Bg u<|gi dr j) λj=>Bg t<|gi dr j
def aHv {vl:aM}{dr:aC}{t j a l:Y}(h:WJ vl dr t j a l) (hl:0<l) (hd:-200<=gi dr j/\gi dr j<=200) (ht:t<=1000000) (hv:∀x∈vl,0<=x.2.2.2.1):
  ∃x∈vl,x.2.1=j/\x.2.2.1=a/\l+Bg t (gi dr j)<=12+Bg (x.2.2.2.1+10) (gi dr j)/\t<=x.2.2.2.1+22:=by
 obtain ⟨x,h1,h2,h3,h4⟩:=h
 have h4:l+Bg t (gi dr j)<=12+Bg (x.2.2.2.1+10) (gi dr j):=h4
 refine ⟨x,h1,h2,h3,h4,aM0.1 λc=>?_⟩
 have:=azG (t:=x.2.2.2.1+10) (t':=t) hd A8 A0 ht
 omega
def FJ.vl {gs:aG}{dr:aC}{t j:Y}{vl vl':aM}{s:St}(h:FJ gs (WJ vl dr t) j s) (hd:-200<=gi dr j/\gi dr j<=200) (ht:t<=1000) (hT:∀x∈vl,0<=x.2.2.2.1/\DF x=x.2.2.2.1+23) (hk:∀y∈vl,DF y>t->y∈vl'):FJ gs (WJ vl' dr t) j s:=
 h.le λa l hl hw=>by
  obtain ⟨x,h1,h2,h3,h4,h5⟩:=aHv hw hl hd A0 λx hx=>(hT x hx).1
  exact ⟨x,hk x h1 A8,h2,h3,h4⟩
def atc {l:aM}{x y:Le}{t:Y}(hv:B1 l=U) (ht:0<=t/\t<=1000) (hy:y∈l) (he:DF y>t):y∈kpV l x t:=by
 unfold kpV BW;rw [AD (by unfold L1;rw [hv,BO.2 A0];rfl)]
 exact BZ.2<|.inl<|Ce.2 ⟨hy,Cb he⟩
def atd {l:aM}{x:Le}{t:Y}:x∈kpV l x t:=by unfold kpV;simp
def SK (t:Y) (k0:bz) (v0 xs:aM) (s:SN):Prop:=
 ∃vl g,VI s.se s.fl vl g/\((∀y∈v0,DF y>t->y∈vl)/\∀y∈vl,y∈v0\/y∈xs)/\(∀y∈vl,DF y>t->y∈s.ls)/\(∀y∈s.ls,DF y>t->y∈vl)/\∀l∈s.lk,l∈k0\/(l.2∈vl/\DF l.2>t/\t<=l.1/\l.1<=l.2.2.2.2.1+10)
def SK.snd {t:Y}{k0:bz}{v0 xs:aM}{s:SN}(h:SK t k0 v0 xs s) (ht:0<=t/\t<=1000) {x:Le}(hm:x∈xs) (hf:x.2.2.2.1=t) (hx:x.2.2.2.2=12) (h0:0<=x.2.1):SK t k0 v0 xs (F9 t s x):=by
 unfold F9;split
 ·rename_i hc
  obtain ⟨vl,g,h1,⟨h2,h6⟩,h3,h4,h5⟩:=h;obtain ⟨vl',g',q1,q2,q3,q4⟩:=zp h1 hc.2
  have e:GO s.ls x=s.ls++[x]:=yw
  have hex:DF x>t:=by rw [XQ hx,hf];omega
  have old:∀y∈vl,DF y>t->y∈vl':=λy hy he=>by
   rcases q2 with e2|e2<;>rw [e2]
   ·grind
   ·exact atc h1.lv ht hy he
  have new:x∈vl':=by
   rcases q2 with e2|e2<;>rw [e2]
   ·simp
   ·exact atd
  have sub:∀y∈vl',y∈vl\/y=x:=λy hy=>by
   have:y∈vl++[x]:=by
    exact aNL
   simpa using this
  refine ⟨vl',g',q1,⟨λy hy he=>old y (h2 y hy he) he,λy hy=>?_⟩,λy hy he=>?_,λy hy he=>?_,λl hl=>?_⟩
  ·rcases sub y hy with c|rfl
   ·exact h6 y c
   ·exact .inr hm
  ·show y∈GO s.ls x
   rw [e];rcases sub y hy with c|rfl
   ·grind
   ·simp
  ·have hy:y∈GO s.ls x:=hy
   rw [e] at hy;rcases BZ.1 hy with c|c
   ·exact old y (h4 y c he) he
   ·grind
  ·have hl:l∈s.lk++[Th t x]:=hl
   rcases BZ.1 hl with c|c
   ·rcases h5 l c with q|⟨a1,a2,a3,a4⟩
    ·exact .inl q
    ·grind
   ·rw [HJ.1 c]
    have hm:0<=(7*t+3*x.2.1).tmod 5/\(7*t+3*x.2.1).tmod 5<=4:=A8
    exact .inr ⟨new,hex,by show t<=t+(7*t+3*x.2.1).tmod 5;omega,by show t+(7*t+3*x.2.1).tmod 5<=x.2.2.2.1+10;omega⟩
 ·exact h
def SK.EL {t:Y}{k0:bz}{v0:aM}{s:SN}{xs:aM}(h:SK t k0 v0 xs s) (ht:0<=t/\t<=1000) (hx:∀k:aD,k<M xs->(An xs k).2.2.2.1=t/\(An xs k).2.2.2.2=12/\0<=(An xs k).2.1):∀n,n<=M xs->SK t k0 v0 xs (EL t xs s n)
 |0,_=>h
 |n+1,hn=>by
  obtain ⟨h1,h2,h3⟩:=hx n A0;exact (h.EL ht hx n A0).snd ht (Li A0 A0) h1 h2 h3
variable {p : PK}
def TG.vl (g:TG p):∃k,VI p.se p.fl (Aj p.se p.fl) k/\∀x∈Aj p.se p.fl,x.1<p.nx/\TL (M p.gs) p.tk x:=by
 obtain ⟨vl,k,h1,h2⟩:=g.sg.vl
 have e:Aj p.se p.fl=vl:=h1.ld.2
 rw [e];exact ⟨k,h1,h2⟩
def TG.v23 (g:TG p):∀x∈Aj p.se p.fl,0<=x.2.2.2.1/\DF x=x.2.2.2.1+23:=λx hx=>by
 obtain ⟨k,h1,h2⟩:=g.vl;exact ⟨(Kc.1<|(GK h1.lv).2 x hx).2.2.2.1.1,XQ (h2 x hx).2.2.1⟩
structure LX (p:PK):Prop where
 up:p.up=U->(∀y∈Aj p.se p.fl,DF y>p.tk->y∈p.ls)/\∀y∈p.ls,DF y>p.tk->y∈Aj p.se p.fl
 dn:p.up=X->p.ls=[]
 st:Bv p.gs (FJ p.gs (WJ (Aj p.se p.fl) p.dr p.tk)) p.st
 lk:∀l∈p.lk,l.2∈Aj p.se p.fl/\p.tk<=l.1/\l.1<=l.2.2.2.2.1+10
def LX.dec (h:LX p) (g:TG p) (hJ:JP p) (ht:p.tk<=1000):(p.up=U->(∀y∈Aj p.AK.se p.AK.fl,DF y>p.tk->y∈p.AK.ls)/\∀y∈p.AK.ls,DF y>p.tk->y∈Aj p.AK.se p.AK.fl)/\(p.up=X->p.AK.ls=[])/\
  ((∀y∈Aj p.se p.fl,DF y>p.tk->y∈Aj p.AK.se p.AK.fl)/\∀y∈Aj p.AK.se p.AK.fl,y∈Aj p.se p.fl\/(p.up=U/\p.dE=0/\y∈p.dL))/\∀l∈p.AK.lk,l.2∈Aj p.AK.se p.AK.fl/\p.tk<=l.1/\l.1<=l.2.2.2.2.1+10:=by
 have htk:=hJ.1.1.tk
 have hx:=iR hJ
 unfold PK.AK;split
 ·rename_i hu
  exact ⟨λc=>(by rw [hu] at c;cases c),h.dn,⟨λy hy _=>hy,λy hy=> .inl hy⟩,h.lk⟩
 rename_i hu
 have hu:p.up=true:=by simpa using hu
 obtain ⟨u1,u2⟩:=h.up hu
 have x1:∀y,DF y>p.tk->(y∈Dv p.ls p.tk↔y∈p.ls):=λy he=>by
  rw [hx,Ce];exact ⟨λc=>c.1,λc=>⟨c,Cb he⟩⟩
 split
 ·exact ⟨λ_=>⟨λy hy he=>(x1 y he).2<|u1 y hy he,λy hy he=>u2 y ((x1 y he).1 hy) he⟩,λc=>A8,⟨λy hy _=>hy,λy hy=> .inl hy⟩,h.lk⟩
 ·rename_i hd
  obtain ⟨V,M,hl⟩:=Xr<|V7.1 hd;obtain ⟨k,v1,v2⟩:=g.vl
  have v3:=g.v23
  have s0:SK p.tk p.lk (Aj p.se p.fl) p.dL p.GA:=⟨_,k,v1,⟨λy hy _=>hy,λy hy=> .inl hy⟩,λy hy he=>(x1 y he).2<|u1 y hy he,λy hy he=>u2 y ((x1 y he).1 hy) he,λl hl=> .inl hl⟩
  obtain ⟨vl,k',w1,⟨w2,w6⟩,w3,w4,w5⟩:=s0.EL (xs:=p.dL) ⟨htk.1,ht⟩ (λi hi=>by
   have q:=M.at_ i A0 A0
   rw [q.1];exact ⟨rfl,rfl,q.2.1.1⟩) _<|Ar _
  have e:Aj p.sn1.se p.sn1.fl=vl:=w1.ld.2
  simp only [e];refine ⟨λ_=>⟨w3,w4⟩,λc=>A8,⟨w2,λy hy=>(w6 y hy).imp id λc=>⟨hu,V7.1 hd,c⟩⟩,λl hl=>?_⟩
  rcases w5 l hl with q|⟨a1,a2,a3,a4⟩
  ·obtain ⟨b1,b2,b3⟩:=h.lk l q
   grind
  ·grind
def LX.tick (h:LX p) (g:TG p) (hJ:JP p) (ht:p.tk<=1000):LX p.BM/\Bv p.gs (FJ p.gs<|WJ (Aj p.AK.se p.AK.fl) p.dr<|p.tk+1) p.Ag.st:=by
 obtain ⟨e1,e2,e3,e4,e5,e6,e7,e8,e9,e10,e11,e12,e13,e14⟩:=IV p
 have hv:=hJ.1.1
 have htk:=hv.tk
 have hvd:=hv.dec
 obtain ⟨d1,d2,d3,d4⟩:=h.dec g hJ ht
 have hdr:∀j:Y,0<=j->j<(M p.gs:Y)->-200<=gi p.dr j/\gi p.dr j<=200:=λj j0 j1=>Xq hv j j0 (by rw [hv.dr];exact j1)
 have s0:Bv p.gs (FJ p.gs<|WJ (Aj p.AK.se p.AK.fl) p.dr p.tk) p.st:=⟨h.st.1,λj j0 j1=>(h.st.2 j j0 j1).vl (hdr j j0 j1) ht g.v23 d3.1⟩
 have s1:Bv p.gs (FJ p.gs<|WJ (Aj p.AK.se p.AK.fl) p.dr p.tk) p.AK.L2.st:=by
  show Bv p.gs _ (LH p.AK.gs p.AK.lk p.AK.tk p.AK.st<|M p.AK.lk)
  rw [e4,e6,e8];refine s0.arr (t:=p.tk) (λl hl'=>⟨by have:=hvd.lk l hl';rwa [e4] at this,λc s hs=>hs.gv (λa u u' hw hu=>WL.le hw aOo) λ_=>?_⟩) _<|Ar _
  obtain ⟨b1,b2,b3⟩:=d4 l hl'
  have c1:=hvd.lk l hl'
  rw [e4] at c1
  have ht12:l.2.2.2.2.2=12:=by
   have:=(g.dec hJ).vl
   obtain ⟨vl,k,w1,w2⟩:=this
   have e:Aj p.AK.se p.AK.fl=vl:=w1.ld.2
   rw [e] at b1;exact (w2 _ b1).2.2.1
  refine ⟨l.2,b1,rfl,rfl,?_⟩
  show l.2.2.2.2.2+Bg p.tk (gi p.dr l.2.2.1)<=12+Bg (l.2.2.2.2.1+10) (gi p.dr l.2.2.1)
  have:=ap1 (t:=p.tk) (t':=l.2.2.2.2.1+10) (hdr _ c1.1 c1.2) htk.1 A0 (by
   have:=(g.dec hJ).vl
   obtain ⟨vl,k,w1,w2⟩:=this
   have e:Aj p.AK.se p.AK.fl=vl:=w1.ld.2
   rw [e] at b1
   have:=(w2 _ b1).2.1
   omega)
  omega
 have s2:Bv p.gs (FJ p.gs<|WJ (Aj p.AK.se p.AK.fl) p.dr<|p.tk+1) p.Ag.st:=by
  have:=abK (t:=p.tk) (dr:=p.dr) s1 (Xq hv) hv.dr A0 (M p.dr)<|Ar _
  show Bv p.gs _ (JT p.AK.gs p.AK.dr p.AK.tk p.AK.L2.st<|M p.AK.dr)
  rw [e4,e13,e6];refine ⟨this.1,λj j0 j1=>(this.2 j j0 j1).le λa l _ ⟨x,q1,q2,q3,q4⟩=>⟨x,q1,q2,q3,?_⟩⟩
  have q4:l+(if j<((M p.dr:aD):Y) then Bg (p.tk+1) (gi p.dr j) else Bg p.tk (gi p.dr j))<=_:=q4
  rw [AD (by rw [hv.dr];exact j1)] at q4
  exact q4
 have f4:p.Ag.gs=p.gs:=e4
 have s3:Bv p.gs (FJ p.gs<|WJ (Aj p.AK.se p.AK.fl) p.dr<|p.tk+1) p.Ag.dw.st:=by
  have:=Bv.dw (gs:=p.gs) (ca:=p.Ag.ca) (s:=⟨p.Ag.st,p.Ag.mi,p.Ag.me,au (M p.Ag.gs) 0⟩) s2 (λj s hs=>hs.gv (λa u u' hw hu=>WL.le hw aOo) λhk=>NG) (M p.gs)<|Ar _
  show Bv p.gs _ (DR p.Ag.gs p.Ag.ca _<|M p.Ag.gs).st
  rw [f4];rw [f4] at this;exact this
 have et:p.BM.tk=p.tk+1:=B0 (·+1) e6
 have eg:p.BM.gs=p.gs:=e4
 have ed:p.BM.dr=p.dr:=e13
 have eu:p.BM.up=p.up:=e7
 have es:p.BM.se=p.AK.se:=rfl
 have ef:p.BM.fl=p.AK.fl:=rfl
 have el:p.BM.ls=p.AK.ls:=rfl
 have ek:p.BM.st=p.Ag.dw.st:=rfl
 refine ⟨⟨?_,?_,?_,?_⟩,s2⟩
 ·rw [es,ef,el,et,eu]
  intro c;obtain ⟨c1,c2⟩:=d1 c;exact ⟨λy hy he=>c1 y hy<|Int.lt_trans (Int.lt_succ p.tk) he,λy hy he=>c2 y hy<|Int.lt_trans (Int.lt_succ p.tk) he⟩
 ·rw [eu,el]
  exact d2
 ·rw [eg,ed,et,es,ef,ek]
  exact s3
 rw [es,ef];intro l hl
 have hm:l∈p.AK.lk/\aq (l.1>p.AK.tk)=true:=Ce.1 hl
 have h4:=d4 l hm.1
 have h2:=Ct hm.2
 rw [e6] at h2;rw [et];exact ⟨h4.1,Int.add_one_le_iff.2 h2,h4.2.2⟩
def LX.step (h:LX p) (g:TG p) (hJ:JP p) (ht:p.tk<=1000) {e:EV}(he:Bk p e=0):LX (BA p e):=by
 have hv:=hJ.1.1
 unfold BA;rw [AE A0];unfold Bk at he;rw [AE A8] at he
 have cr:∀ {i:Y},p.isC i≠X->0<=i/\i<(M p.gs:Y):=λ{i} hh=>by
  exact aNG
 have gv:∀ {st:bg} {i k n m:Y},Bv p.gs (FJ p.gs<|WJ (Aj p.se p.fl) p.dr p.tk) st->(0<=i/\i<(M p.gs:Y))->k≠7/\k≠8->Bv p.gs (FJ p.gs<|WJ (Aj p.se p.fl) p.dr p.tk) (CU p.gs st i k n m):=λ{st i k n m} hs hi hk=>
  hs.gv hi.1 hi.2 λhs=>hs.gv (λa u u' hw hu=>WL.le hw A0) λc=>absurd c hk.1
 split
 ·exact (h.tick g hJ ht).1
 rename_i h1;rw [AE h1] at he;split
 ·rename_i h2
  rw [AD h2] at he;unfold PK.GM at he;split at he
  ·cases he
  rename_i hi
  have hi:=cr hi
  exact {h with st:=gv (gv (gv (gv h.st hi Ac) hi Ac) hi Ac) hi Ac}
 rename_i h2;rw [AE h2] at he;split
 ·rename_i h3
  rw [AD h3] at he;unfold PK.JG at he;split at he
  ·cases he
  rename_i hi
  have hi:=cr hi
  exact {h with st:=gv (gv h.st hi Ac) hi Ac}
 rename_i h3;rw [AE h3] at he;split
 ·exact {h with lk:=λl hl=>h.lk l (Ce.1 hl).1}
 rename_i h4;rw [AE h4] at he;split
 ·exact ⟨λc=>EU,λ_=>rfl,h.st,h.lk⟩
 rename_i h5;rw [AE h5] at he;split
 ·refine ⟨λ_=>?_,λc=>EU,h.st,h.lk⟩
  obtain ⟨k,v1,v2⟩:=g.vl
  have htk:=hv.tk
  have e:BW (Aj p.se p.fl) p.tk=(Aj p.se p.fl).filter (LD p.tk):=AD (by unfold L1;rw [v1.lv,BO.2 A0];rfl)
  show (∀y∈Aj p.se p.fl,DF y>p.tk->y∈BW (Aj p.se p.fl) p.tk)/\∀y∈BW (Aj p.se p.fl) p.tk,DF y>p.tk->y∈Aj p.se p.fl
  rw [e];exact ⟨λy hy he=>Ce.2 ⟨hy,Cb he⟩,λy hy _=>(Ce.1 hy).1⟩
 rename_i h6;rw [AE h6] at he;split
 ·rename_i h7
  rw [AD h7] at he;unfold PK.Nr at he;split at he
  ·cases he
  rename_i hi;exact {h with st:=gv h.st (cr hi) Ac}
 ·exact {h with}
def ah3 {cs:aL}{os:aF}{ks:aR}{gs:aG}{bs:aS}{dr:aC}(h:H3 cs os ks gs bs dr=0):LX (newP cs os ks gs bs dr):=by
 have hp:newP cs os ks gs bs dr=_:=AE A8
 obtain ⟨vl,k,v1,v2⟩:=(aSf h).sg.vl
 have hs:=(tj h).1.site
 rw [hp] at v1 hs|-
 have e:=(⟨rfl,rfl,⟨0,1019,_,iY⟩,Cz _⟩:VI 512 Eb [] 0).ld.2
 refine ⟨λ_=>⟨λy hy _=>?_,λy hy=>(by cases hy)⟩,λc=>rfl,⟨Cf,λj j0 j1=>?_⟩,λl hl=>(by cases hl)⟩
 ·have hy:=hy
  rw [show Aj 512 Eb=[] from e] at hy;exact hy
 ·have e0:BL (au (M gs) ((0,0,0,X):St)) j=(0,0,0,X):=by
   unfold BL
   grind
  simp only [e0]
  have hc:=NT hs j0 j1
  unfold G4 chW at hc;simp only [AV,Cc,Cy,BO] at hc;exact ⟨Ma.2 ⟨Wg.2 A0,Ac,A8,Ac,A8,Ac,A8,λ_=>rfl,λc=>EU⟩,λc=>absurd c Ac⟩
def aje {gs:aG}{vl:aM}{dr:aC}{t u j:Y}{s:St}(h:FJ gs (WJ vl dr t) j s) (hw:s.2.2.2=X) (hd:-200<=gi dr j/\gi dr j<=200) (ht:t<=1000000) (hv:B1 vl=U) (hb:below (M gs) vl=U)
  (hT:∀x∈vl,0<=x.2.2.2.1/\DF x=x.2.2.2.1+23) (hu:∀x∈vl,x.2.2.2.1<=u) (ut:u<=t):Bj (AG gs j) s<=mx (CY<|AG gs j) (gi (GQ (M gs) vl u) j):=by
 obtain ⟨q1,q2⟩:=h
 have qv:=Ma.1 q1
 have hfb:0<=CY (AG gs j):=by
  have:=Wg.1 qv.1
  unfold CY;omega
 unfold Bj;rw [AD q1,AE A8];split
 ·unfold mx;split<;>omega
 split
 ·rename_i c
  obtain ⟨x,b1,b2,b3,b4,b5⟩:=aHv (q2 A0) A0 hd ht λx hx=>(hT x hx).1
  have ha:FZ u x=true:=by
   unfold FZ;rw [Cb<|hu x b1,Cb A8];rfl
  have:=tV (gs:=gs) hv hb b1 ha
  rw [b2,b3] at this;exact ND
 ·show CY _<=_
  exact ND
structure LG (p:PK):Prop where
 tg:TG p
 lx:LX p
def LG.step (h:LG p) (hJ:JP p) (ht:p.tk<=1000) {e:EV}(he:Bk p e=0):LG (BA p e):=⟨h.tg.step hJ he,h.lx.step h.tg hJ ht he⟩
end Go.Proofs.YtepoohnehmfflaaGreatDoor
namespace Go.Proofs.YtepoohnehmfflaaGreatDoor
set_option maxRecDepth 100000
set_option maxHeartbeats 4000000
open Go.Proofs.Tryz
open Go.Sx
variable {p : PK}
def Hi.refl (C:aL):Hi C C:=⟨rfl,λ_=>rfl,λ_=>Cz _⟩
def j9 (hv:VP p):BB p.EA p.os p.ks p.gs p.bs=true:=qG hv.site hv.tg1 _ ng
def frm (T:Y) (l:aM):aM:=l.filter λx=>aq<|T<=x.2.2.2.1
def TS {T:Y}{l:aM}{x:Le}:x∈frm T l↔x∈l/\T<=x.2.2.2.1:=by unfold frm;rw [Ce,Aa]
def aBb {T:Y}{l:aM}(h:B1 l=U):B1 (frm T l)=true:=qL h y7
def Qz {T:Y}{n:aD}{t:Y}{l:aM}(h:∀x∈l,TL n t x):below n l=U/\below n (frm T l)=true:=
 ⟨BH.2 λx hx=>Cb (h x hx).2.2.2,BH.2 λx hx=>Cb (h x (TS.1 hx).1).2.2.2⟩
structure TU (T:Y) (p:PK):Prop where
 jp:JP p
 tg:TG p
 up:p.up=U
 tk:T<=p.tk
 kn:DA p.EA p.gs (Cx p.gs (frm T p.ls) p.tk)=U
def TG.tu (h:TG p) (hJ:JP p) (hu:p.up=U):TU p.tk p:=by
 refine ⟨hJ,h,hu,Cz _,?_⟩
 have e:frm p.tk p.ls=[]:=List.filter_eq_nil_iff.2 λx hx=>by
  have:=(h.sg.ls.2 x hx).1
  rw [Aa];omega
 rw [e]
 have hs:=j9 hJ.1.1
 have hl:M (Bq p.gs)=M p.gs:=IU
 refine Qq hs hs (Hi.refl _) (λk hk=>fH hs A0) (λk hk=>⟨(IW hs rfl A0 A0).1,?_⟩) h.kt
 have h0:=fH hs (k:=k) A0
 have e1:gi (Bq p.gs) k=CY (AG p.gs k):=NO A0 A0
 have e2:gi (GQ (M p.gs) [] p.tk) k=0:=Jv
 rw [Qp A0 A0,e1,e2];exact ND
def TU.dec {T:Y}(h:TU T p) {t':Y}(ht:p.tk<=t'):DA p.EA p.gs (Cx p.gs (frm T p.AK.ls) t')=true:=by
 have hd:=h.tg.dec h.jp
 have hs:=j9 h.jp.1.1
 have b0:=Qz (T:=T) h.tg.sg.ls.2
 have b1:=Qz (T:=T) hd.ls.2
 have v0:=aBb (T:=T) h.jp.2.2
 have v1:=aBb (T:=T) hd.ls.1
 have hx:=iR h.jp
 by_cases c:p.dE=0
 ·obtain ⟨V,M,_⟩:=Xr c
  refine aGP V hs (Hi.refl _) M v0 b0.2 v1 b1.2 (λx hx'=>?_) (λx hx'=>?_) h.kn ht
  ·obtain ⟨q1,q2⟩:=TS.1 hx'
   have:=(h.tg.sg.ls.2 x q1).1
   exact ⟨A0,λq=>by rw [hx];exact Ce.2 ⟨q1,Cb q⟩⟩
  ·obtain ⟨q1,q2⟩:=TS.1 hx'
   unfold PK.AK at q1;rw [AE zY,AE A0] at q1;rcases uQ _ (Ar _) x q1 with q|q
   ·have q:x∈Dv p.ls p.tk:=q
    rw [hx] at q;exact .inl<|TS.2 ⟨(Ce.1 q).1,q2⟩
   ·exact .inr q
 ·refine Qq hs hs (Hi.refl _) (λk hk=>IW hs v0 A0 A0) (λk hk=>⟨(IW hs v1 A0 A0).1,eV v0 b0.2 v1 b1.2 (λx hx' ha=>?_) A0 A0⟩) h.kn
  obtain ⟨q1,q2⟩:=TS.1 hx';unfold PK.AK at q1;rw [AE zY,AD c] at q1;rw [hx] at q1
  have q3:=(Ce.1 q1).1
  have:=(h.tg.sg.ls.2 x q3).1
  exact ⟨TS.2 ⟨q3,q2⟩,s9 ht A0 ha⟩
def TU.tick {T:Y}(h:TU T p) (ht:p.tk<1000000):TU T p.BM:=by
 obtain ⟨e1,e2,e3,e4,e5,e6,e7,e8,e9,e10,e11,e12,e13,e14⟩:=IV p;obtain ⟨he,eP,_,_,etk⟩:=NW h.jp ht
 have hJ:=h.jp.step he
 rw [eP] at hJ
 have eg:p.BM.gs=p.gs:=e4
 have eT:p.BM.tg=p.tg:=e14
 have ea:p.BM.EA=p.EA:=by
  show Dz p.BM.cs p.BM.tg (M p.BM.tg)=_
  rw [eT];exact (sR h.jp.1.1).ask h.jp.1.1.Es
 refine ⟨hJ,h.tg.tick h.jp,e7.trans h.up,by have:=h.tk;omega,?_⟩
 rw [ea,eg,etk];exact h.dec A0
def akM:wt 12=13:=Ac
def TU.last {T:Y}(h:TU T p) (ht:p.tk<1000000) (hT:T+22<=p.tk):∀k:aD,k<M p.cs->(Ad p.BM.cs k).2.2.1=gi p.tg k:=by
 obtain ⟨e1,e2,e3,e4,e5,e6,e7,e8,e9,e10,e11,e12,e13,e14⟩:=IV p
 have hv:=h.jp.1.1
 have hd:=h.tg.dec h.jp
 have hs:=j9 hv
 have b1:=Qz (T:=T) hd.ls.2
 have v1:=aBb (T:=T) hd.ls.1
 have gl:=(D7.1 hv.site).1.2.2.2.2.1
 have htk:=hv.tk
 have ec:p.BM.cs=Cl p.gs p.tg (Cx p.gs p.AK.ls<|p.tk+1) p.cs (M p.tg):=by
  have a1:p.Ag.BX.cs=p.cs:=e1
  have a2:p.Ag.BX.tg=p.tg:=e14
  have a3:p.Ag.BX.gs=p.gs:=e4
  have a4:p.Ag.BX.tk=p.tk:=e6
  have a5:p.Ag.BX.up=p.up:=e7
  have a6:p.Ag.BX.ls=p.AK.ls:=rfl
  show (if p.Ag.BX.up=X then p.Ag.BX.cs else Cl p.Ag.BX.gs p.Ag.BX.tg p.Ag.BX.Jj p.Ag.BX.cs (M p.Ag.BX.tg))=_
  rw [a5,AE zY];unfold PK.Jj JV
  rw [a1,a2,a3,a4,a6,AD (by
   rw [AD];unfold KB;rw [show B1 p.AK.ls=U from hd.ls.1,BO.2 A0,BO.2 A0,show below (M p.gs) p.AK.ls=U from b1.1];rfl)]
 rw [ec]
 have hb:∀k:aD,k<M p.gs->0<=gi (Cx p.gs p.AK.ls<|p.tk+1) k/\gi (Cx p.gs p.AK.ls<|p.tk+1) k<=80:=λk hk=>IW hs hd.ls.1 A0 A0
 intro k hk;refine aJC hv.site (λk hk=>?_) hv.Es IU hb (Qq hs hs (Hi.refl _) (λk hk=>IW hs v1 A0 A0) (λk hk=>⟨(hb k hk).1,eV v1 b1.2 hd.ls.1 b1.1 (λx hx ha=>⟨TS.2 ⟨hx,?_⟩,ha⟩) A0 A0⟩)<|h.dec (t':=p.tk+1) A0) _ ng k (by rw [hv.Es];exact hk)
 ·exact hv.tg k (by rw [hv.Es];exact hk)
 ·have q:=(hd.ls.2 x hx).2.1
  unfold FZ DF at ha;rw [q,akM] at ha;simp only [AV,Aa] at ha;omega
def TU.Ef {T:Y}:∀(n:aD) {p:PK}{l:Y},TU T p->p.tk+n<1000000->
  (OR n p l).2.2=U/\TU T (OR n p l).1/\(1<=n->T+23<=p.tk+n->∀k:aD,k<M (OR n p l).1.cs->(Ad (OR n p l).1.cs k).2.2.1=gi (OR n p l).1.tg k)
 |0,p,l,h,_=>⟨rfl,h,λh=>A0⟩
 | n+1,p,l,h,ht=>by
  obtain ⟨he,e2,e3,hl,htk⟩:=NW h.jp A0;rw [OR,AD ⟨he,hl⟩,e2]
  have h2:=h.tick A0
  obtain ⟨a1,a2,a3⟩:=TU.Ef n (l:=if M (DI p FG)>0 then gi (DI p FG) 0 else l) h2 A0
  refine ⟨a1,a2,λ_ hT=>?_⟩
  by_cases c:n=0
  ·subst c
   show ∀k:aD,k<M p.BM.cs->(Ad p.BM.cs k).2.2.1=gi p.BM.tg k
   rw [show p.BM.tg=p.tg from (IV p).2.2.2.2.2.2.2.2.2.2.2.2.2,(sR h.jp.1.1).1];exact h.last A0 A0
  ·grind
end Go.Proofs.YtepoohnehmfflaaGreatDoor
namespace Go.Proofs.YtepoohnehmfflaaGreatDoor
set_option maxRecDepth 100000
set_option maxHeartbeats 4000000
open Go.Proofs.Tryz
open Go.Sx
def Bv.Ef {gs:aG}{Q:Y->St->Prop}{st:bg}(h:Bv gs Q st) (hq:∀j s,Q j s->Q j (EC (AG gs j) s 8 0 0)) {i:Y}(h0:0<=i) (h1:i<(M gs:Y)):∀k:aD,Bv gs Q (L7 gs st i k)
 |0=>h
 |k+1=>(Bv.Ef h hq h0 h1 k).gv h0 h1<|hq _ _
def Bv.cnt {gs:aG}{Q:Y->St->Prop}{dr:aC}{t:Y}{st:bg}(h:Bv gs Q st) (hq:∀j s,Q j s->Q j (EC (AG gs j) s 8 0 0)):∀n,n<=M gs->Bv gs Q (JT gs dr t st n)
 |0,_=>h
 |n+1,hn=>by
  unfold JT;split
  ·exact (Bv.cnt h hq n A0).Ef hq A0 A0 _
  ·exact Bv.cnt h hq n A0
def uV {gs:aG}{tg am:aC}{cs:aL}:∀n,Cl gs tg am cs n=cs\/DA (Cl gs tg am cs n) gs am=U
 |0=> .inl rfl
 | n+1=>by
  unfold Cl;split
  ·exact uV n
  ·split
   ·rename_i c
    grind
   ·exact uV n
variable {p : PK}
def aTI (hv:VP p):Hi p.EA p.cs:=aTH ⟨rfl,λj=>⟨(Ad p.cs j).2.2.1,rfl⟩⟩ hv.Es λj hj=>(hv.tg j (by rw [hv.Es];exact hj)).2
structure LM (p:PK):Prop where
 fi:FI p
 tg:TG p
 lx:LX p
 kp:DA p.cs p.gs (Cx p.gs (Aj p.se p.fl) p.tk)=U
def LM.dec (h:LM p) (hJ:JP p) (ht:p.tk<=1000) {t':Y}(h1:p.tk<=t'):DA p.cs p.gs (Cx p.gs (Aj p.AK.se p.AK.fl) t')=true:=by
 have hv:=hJ.1.1
 have hs:=hv.site
 obtain ⟨k,v1,v2⟩:=h.tg.vl;obtain ⟨vl',k',w1,w2⟩:=(h.tg.dec hJ).vl
 have e:Aj p.AK.se p.AK.fl=vl':=w1.ld.2
 obtain ⟨d1,d2,⟨d3,d5⟩,d4⟩:=h.lx.dec h.tg hJ ht;rw [e] at d5|-
 have b0:=(Qz (T:=0) λx hx=>(v2 x hx).2).1
 have b1:=(Qz (T:=0) λx hx=>(w2 x hx).2).1
 by_cases c:p.up=U/\p.dE=0
 ·obtain ⟨V,M,_⟩:=Xr c.2
  obtain ⟨u1,_⟩:=h.lx.up c.1;refine aGP V hs (aTI hv) M v1.lv b0 w1.lv b1 (λx hx=>⟨by have:=(v2 x hx).2.1;omega,λq=>?_⟩) (λx hx=>(d5 x hx).imp id λq=>q.2.2) h.kp h1
  rw [iR hJ];exact Ce.2 ⟨u1 x hx q,Cb q⟩
 ·refine Qq hs hs (Hi.refl _) (λk hk=>IW hs v1.lv A0 A0) (λk hk=>⟨(IW hs w1.lv A0 A0).1,eV v1.lv b0 w1.lv b1 (λx hx ha=>?_) A0 A0⟩) h.kp
  rcases d5 x hx with q|q
  ·exact ⟨q,s9 h1 (by have:=(v2 x q).2.1;omega) ha⟩
  ·grind
def LM.tick (h:LM p) (hJ:JP p) (ht:p.tk<=1000):LM p.BM:=by
 obtain ⟨e1,e2,e3,e4,e5,e6,e7,e8,e9,e10,e11,e12,e13,e14⟩:=IV p;obtain ⟨_,_,_,_,etk⟩:=NW hJ A0
 have hv:=hJ.1.1
 have htk:=hv.tk
 refine ⟨h.fi.tick hv A0,h.tg.tick hJ,(h.lx.tick h.tg hJ ht).1,?_⟩
 have eg:p.BM.gs=p.gs:=e4
 have es:p.BM.se=p.AK.se:=rfl
 have ef:p.BM.fl=p.AK.fl:=rfl
 have hk:=h.dec hJ ht (t':=p.tk+1) A0
 have a1:p.Ag.BX.cs=p.cs:=e1
 have a2:p.Ag.BX.tg=p.tg:=e14
 have a3:p.Ag.BX.gs=p.gs:=e4
 have a4:p.Ag.BX.tk=p.tk:=e6
 have a5:p.Ag.BX.up=p.up:=e7
 have a6:p.Ag.BX.ls=p.AK.ls:=rfl
 have ec:p.BM.cs=if p.up=X then p.cs else Cl p.gs p.tg p.Ag.BX.Jj p.cs (M p.tg):=by
  show (if p.Ag.BX.up=X then p.Ag.BX.cs else Cl p.Ag.BX.gs p.Ag.BX.tg p.Ag.BX.Jj p.Ag.BX.cs (M p.Ag.BX.tg))=_
  rw [a5,a1,a2,a3]
 rw [eg,es,ef,etk,ec]
 by_cases hu:p.up=X
 ·rw [AD hu];exact hk
 rw [AE hu]
 have hu:p.up=true:=by simpa using hu
 rcases uV (gs:=p.gs) (tg:=p.tg) (am:=p.Ag.BX.Jj) (cs:=p.cs) (M p.tg) with e|e
 ·rw [e];exact hk
 have hd:=h.tg.dec hJ
 obtain ⟨vl',k',w1,w2⟩:=hd.vl
 have el:Aj p.AK.se p.AK.fl=vl':=w1.ld.2
 obtain ⟨d1,_⟩:=h.lx.dec h.tg hJ ht;obtain ⟨u1,_⟩:=d1 hu;rw [el] at u1|-
 have b1:below (M p.gs) vl'=true:=(Qz (T:=0) λx hx=>(w2 x hx).2).1
 have b2:below (M p.gs) p.AK.ls=true:=(Qz (T:=0) hd.ls.2).1
 have gl:=(D7.1 hv.site).1.2.2.2.2.1
 have ea:p.Ag.BX.Jj=Cx p.gs p.AK.ls (p.tk+1):=by
  unfold PK.Jj JV
  rw [a3,a4,a6,AD (by
   rw [AD];unfold KB;rw [show B1 p.AK.ls=U from hd.ls.1,BO.2 A0,BO.2 A0,b2];rfl)]
 have hs2:BB (Cl p.gs p.tg p.Ag.BX.Jj p.cs<|M p.tg) p.os p.ks p.gs p.bs=true:=pw hv.site hv.tg1 _ ng
 rw [ea] at e hs2|-;refine Qq hs2 hs2 (Hi.refl _) (λk hk=>IW hv.site hd.ls.1 A0 A0) (λk hk=>⟨(IW hv.site w1.lv A0 A0).1,eV hd.ls.1 b2 w1.lv b1 (λx hx ha=>⟨u1 x hx ?_,ha⟩) A0 A0⟩) e
 unfold FZ at ha;simp only [AV,Aa] at ha;omega
def LM.step (h:LM p) (hJ:JP p) (ht:p.tk<=1000) {e:EV}(he:Bk p e=0) (hw:e.ek≠7) (hc:e.c.1≠4):LM (BA p e):=by
 have f:=h.fi.step hJ.1.1 he hw hc
 have g:=h.tg.step hJ he
 have x:=h.lx.step h.tg hJ ht he
 rcases sT hJ.1.1 he with ⟨_,c⟩ |c|⟨c0,c⟩ |⟨c0,c⟩ |c
 ·rw [c];exact h.tick hJ ht
 ·exact nK
 ·exact nK
 ·exact nK
 ·exact nK
def LM.draw (h:LM p) (hJ:JP p) (ht:p.tk<=1000):M p.Fp=M p.gs/\(∀k:aD,k<M p.gs->0<=gi p.Fp k/\gi p.Fp k<=80)/\DA p.cs p.gs p.Fp=true:=by
 obtain ⟨e1,e2,e3,e4,e5,e6,e7,e8,e9,e10,e11,e12,e13,e14⟩:=IV p
 have hv:=hJ.1.1
 have htk:=hv.tk
 have hvd:=hv.dec
 have hvb:VP p.Ag:=hvd.arr.cnt
 have f4:p.Ag.gs=p.gs:=e4
 have f9:p.Ag.ca=p.ca:=e9
 obtain ⟨vl',k',w1,w2⟩:=(h.tg.dec hJ).vl
 have el:Aj p.AK.se p.AK.fl=vl':=w1.ld.2
 have b1:=(Qz (T:=0) λx hx=>(w2 x hx).2).1
 have s2:=(h.lx.tick h.tg hJ ht).2
 have hk:=h.dec hJ ht (t':=p.tk)<|Cz _
 rw [el] at s2 hk
 have nw:Bv p.gs (λ_ s=>s.2.2.2=X) p.Ag.st:=by
  show Bv p.gs _ (JT p.AK.gs p.AK.dr p.AK.tk (LH p.AK.gs p.AK.lk p.AK.tk p.AK.st<|M p.AK.lk)<|M p.AK.dr)
  rw [e4,e8,hvd.dr,e4];refine Bv.cnt (Bv.arr (Q:=λ_ s=>s.2.2.2=X) ⟨h.fi.st.1,λj j0 j1=>(h.fi.st.2 j j0 j1).2.1⟩ (λl hl=>⟨by have:=hvd.lk l hl;rwa [e4] at this,λ_ s hs=>jV hs<|.inl Ac⟩) _<|Ar _) (λj s hs=>jV hs<|.inl Ac) _<|Ar _
 have hl:=fG (gs:=p.Ag.gs) (ca:=p.Ag.ca) (s:=⟨p.Ag.st,p.Ag.mi,p.Ag.me,au (M p.Ag.gs) 0⟩)<|M p.Ag.gs
 have key:∀i:aD,i<M p.gs->(0<=gi p.Fp i/\gi p.Fp i<=80)/\gi p.Fp i<=gi (Cx p.gs vl' p.tk) i:=λi hi=>by
  have:=(aTk (gs:=p.Ag.gs) (ca:=p.Ag.ca) (s:=⟨p.Ag.st,p.Ag.mi,p.Ag.me,au (M p.Ag.gs) 0⟩) (n:=M p.Ag.gs) hvb.mi hvb.me AI (j:=i) (by rw [f4];exact hi) (M p.Ag.gs) (by rw [f4];exact hi)).2.2
  have hb:=IW (t2:=p.tk) hv.site w1.lv (j:=(i:Y)) A0 A0
  have ed:gi p.Fp i=_:=this
  rw [ed];split
  ·rename_i ok
   have a1:=D1.bd ok
   have a2:=D1.le ok<|aml (by rw [f9];exact h.fi.ca) i
   refine ⟨⟨a1.1,a1.2.1⟩,HI a2 ?_⟩;rw [f4,Qp A0 A0];exact aje (s2.2 i A0 A0) (nw.2 i A0 A0) (Xq hv (i:Y) A0 (by rw [hv.dr];omega)) A0 w1.lv b1 (λx hx=>⟨(Kc.1<|(GK w1.lv).2 x hx).2.2.2.1.1,XQ (w2 x hx).2.2.1⟩) (λx hx=>by have:=(w2 x hx).2.1;omega) A0
  ·have e0:gi (au (M p.Ag.gs) 0) i=0:=Jv
   rw [e0]
   grind
 exact ⟨by refine hl.2.2.2.trans ?_;rw [Cf,f4],λk hk'=>(key k hk').1,Qq hv.site hv.site (Hi.refl _) (λk hk'=>IW hv.site w1.lv A0 A0) (λk hk'=>⟨(key k hk').1.1,(key k hk').2⟩) hk⟩
end Go.Proofs.YtepoohnehmfflaaGreatDoor
namespace Go.Proofs.YtepoohnehmfflaaGreatDoor
set_option maxRecDepth 100000
set_option maxHeartbeats 4000000
open Go.Proofs.Tryz
open Go.Sx
def opN (k:Y) (l:aD):Y:=if (l:Y)>0 then (AA k).tmod l else 0
end Go.Proofs.YtepoohnehmfflaaGreatDoor
end
