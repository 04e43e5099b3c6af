/- ParkTargets returns true for all arguments. -/
import Derived.Test.YtmlcgekfmlidcaaGreatDoorQo5
set_option linter.defProp false
set_option linter.unusedVariables false
set_option linter.unusedSimpArgs false
noncomputable section
open List renaming length→M,length→aa,replicate→aq,range→au
open Bool renaming true→U,true→ae,false→X,false→af
open Go.Value renaming int→Y,int→ag
open Option renaming some→ah,none→aj
open Go.IntKind renaming i64→J,i64→ai,u8→aw,u32→ax
open True renaming intro→ak
open Decidable renaming decide→an
open ByteArray renaming mk→av
open Go.Region renaming ready→ay,wanted→az
open Go.Instr renaming findNow→aA
namespace Go.Proofs.YtmlcgekfmlidcaaGreatDoor
set_option maxRecDepth 100000
set_option maxHeartbeats 4000000
open Go.Proofs.Tryz
open Go.Sx
variable {p : PK}
def anC {p:PK}(h:TG p) (hJ:JP p) (hu:p.up=X) (ht:p.tk<=1000):p.Er=0:=by
 obtain ⟨vl,g,h1,h2⟩:=h.sg.vl;obtain ⟨l1,l2⟩:=h1.ld
 have l1:CO p.se p.fl=0:=l1
 have l2:BI p.se p.fl=vl:=l2
 have hn:1<=p.nx/\p.nx<=16*p.tk+1:=h.sg.nx
 have htk:=hJ.1.1.tk
 have hx:D9 vl p.tk=0:=AD (by unfold LX;rw [h1.lv,CM.2 A0];rfl)
 unfold PK.Er Hz;rw [AE (by rw [hu];decide),l1,l2,hx,AE Ae,AE Ae,AE Ae]
 split
 ·rfl
 ·have hm:Al vl ((M vl:Int)-1)∈vl:=LA A0 A0
  have b2:(Al vl<|(M vl:Int)-1).1<p.nx:=(h2 _ hm).1
  exact AE A0
def ap8 {p:PK}(h:TG p) (hJ:JP p) (hu:p.up=U) (ht:p.tk<=150) {l:Int}:letI a:=CR 24 p l;a.2.2=U/\M a.1.tg=M a.1.cs/\M a.1.cs<=16/\∀k:Nat,k<M a.1.cs->(Ac a.1.cs k).2.2.1=gi a.1.tg k:=by
 obtain ⟨a1,a2,a3⟩:=(h.tu hJ hu).EP 24 (l:=l) A0;exact ⟨a1,a2.jp.1.1.Eu,(D5.1 a2.jp.1.1.site).1.2.1,a3 A0 A0⟩
end Go.Proofs.YtmlcgekfmlidcaaGreatDoor
namespace Go.Proofs.YtmlcgekfmlidcaaGreatDoor
set_option maxRecDepth 100000
set_option maxHeartbeats 4000000
open Go.Proofs.Tryz
open Go.Sx
structure Nc where
 e:Int
 b:Bool
 (last n i:Int)
 (p r:PK)
def aF0:=bN f9 0
def vw (s:Nc):T (Rd Nc):=letI a:=(M (Ce s.p Cu):Int);.br (an<|s.i<s.n) (.req (JP s.p)<|.br (((BP s.p Cu) !=0) ||(a !=(M (BL s.p Cu).ca:Int))) (.so (.ret) {s with e:=s.last,b:=X,r:=s.p})<|.br (an<|a>0) (.req (0<=(0:Int)/\0<a)<|.nx {s with last:=gi (Ce s.p Cu) (0:Int),i:=AA<|s.i+1,p:=BL s.p Cu})<|.nx {s with i:=AA<|s.i+1,p:=BL s.p Cu})<|.so (.exit 0) s
def iv (s:Nc):Prop:=s.i=0/\s.n<=1000/\JP s.p
def jG (s:Nc):Prop:=0<=s.i/\s.n<=1000/\JP s.p
def tV (s:Nc):Nat:=(s.n-s.i).toNat
def acj (x:Ex) (s s':Nc):Prop:=True
def ajO:∀s,iv s->jG s:=by
 exact kv
theorem avq:Da jG tV acj vw:=by
 intro s hI;obtain ⟨h0,h1,h2⟩:=hI;refine AH (λc1=>AH (λc2=>trivial) λc2=>AH (λc3=>?_) λc3=>?_) λc1=>trivial
 all_goals have c1:s.i<s.n:=A8
 all_goals rw [AJ (x:=s.i+1)]
 all_goals exact ⟨⟨A8,h1,h2.step<|Dr (GH.1 c2).1⟩,by simp only [tV];omega⟩
def Qg:AS Nc:=⟨0,43,[2,4,5,6,7,11,12],[.ps 4 0 Ad,.ps 4 1 .str,.ps 4 2 Ah,.ps 4 3 Af,.ps 4 4 Ai,.ps 4 7 AP,.ps 4 9<|.int aw,.ps 4 10 Am,.ps 4 12 B3,.ps 4 13 AP,.ps 4 14 B6,.ps 4 15 BO,.ps 4 16 As,.ps 4 17 BJ,.ps 4 18 A7,.ps 4 19 A7],λs=>[.own 0 0,.own 1 0,s.e,s.b,s.last,s.n,s.i],λs=>[pB s.p,pB s.r],λv b=>⟨AK v 2,EO v 3,AK v 4,AK v 5,AK v 6,rQ b 0,rQ b 1⟩,vw,λs r=> {r with n:=s.n},λs=>s,λ_ s=>s,[.ret,.exit 0],iv,jG,tV⟩
abbrev Sq:=Qg.run
abbrev dB:=Qg.At
def awI:Rq jG vw:=by
 intro s hI;refine ⟨λc1=>⟨?_,λ_=>trivial,λc2=>⟨λc3=>⟨?_,ak⟩,λ_=>trivial⟩⟩,λ_=>trivial⟩
 all_goals ((obtain ⟨h0,h1,h2⟩:=hI;first|exact h2|(simp only [Aa] at c3;omega)))
def uN:List Bd:=[WO]
def aQL:Qg.Ok:={}
def aOo:Qg.Pf (acj):=⟨ajO,λs h=>rfl,avq,awI⟩
def aq1:SA 0 aF0 Qg:=s1 aQL aOo uN kN
theorem ap5:Rs iv dB Sq (λs:Nc=>CR (s.n-s.i).toNat s.p s.last) (λx s' (v:PK×Int×Bool)=>(x=.exit 0/\(s'.p,s'.last,U)=v)\/(x=.ret/\(s'.r,s'.e,s'.b)=v)):=DN aQL aOo (λs hI=>by
  obtain ⟨h0,h1,h2⟩:=hI;refine AH (λc1=>?_) λc1=>?_
  ·have c1:s.i<s.n:=A8
   have e:(s.n-s.i).toNat=(s.n-(s.i+1)).toNat+1:=A0
   rw [AJ (x:=s.i+1),e,CR];refine AH (λc2=>?_) λc2=>?_
   ·have hc:¬(BP s.p Cu=0/\M (Ce s.p Cu)=M (BL s.p Cu).ca):=λh=>by
     rw [h.1,h.2] at c2
     simp at c2
    rw [AE hc];exact .inr ⟨rfl,rfl⟩
   ·have hc:BP s.p Cu=0/\M (Ce s.p Cu)=M (BL s.p Cu).ca:=by
     grind
    rw [AD hc];refine AH (λc3=>?_) λc3=>?_
    ·have c3:M (Ce s.p Cu)>0:=A8
     rw [AD c3];rfl
    ·have c3:¬(M<|Ce s.p Cu)>0:=A8
     rw [AE c3];rfl
  ·have c1:s.n<=s.i:=A8
   rw [show (s.n-s.i).toNat=0 by omega]
   exact .inl ⟨rfl,rfl⟩)
def aS6:List LV->T LV
 | [x_p,.v (Y J many)]=>(match Mu x_p with
  |some p=> .req (JP p/\many<=1000) (.ok<|.AM [(CR many.toNat p 0).1,(CR many.toNat p 0).2.1,(CR many.toNat p 0).2.2])
  |none=> .no)
 |_=> .no
def ME (p:PK) (many:Int):Nc:=(⟨0,X,0,many,0,p,⟨([]:List Cd),([]:List ByteArray),([]:List Ko),([]:List Ch),([]:List Ba),0,X,([]:List Le),0,([]:List Int),([]:List Ra),0,([]:List St),([]:List Le),([]:List Mi),([]:List Me),([]:List Dm),([]:List Lk),([]:List Int),([]:List Int)⟩⟩:Nc)
def ayz (p:PK) (many:Int):letI a:=Sq<|ME p many;Bg prog AU (uN) kN (λi=>if i=3 then Qg.lp else Ak i) f9 [p,many]=.req (Qg.q<|ME p many) (.br (Bj (dB<|ME p many)<|.ret) (.ok<|.AM [a.r,a.e,a.b])<|.ok<|.AM [a.p,a.last,U]):=AT
def v5:=vm (S:=aS6) func9 uN kN (L:=(λi=>if i=3 then Qg.lp else Ak i)) (λb hb=>by
 rw [show BB _=[aF0] by kernel_rfl] at hb
 simp only [B7,Bu,Bt] at hb;subst hb;exact aq1) (λargs lv h=>by
 refine ⟨?_⟩;unfold aS6 at h;split at h
 ·split at h
  case h_2=>cases h
  rename_i p hp;obtain rfl:=W5 hp;simp only [canL,canX];rw [ayz];rename_i many _;obtain ⟨⟨hJ,hm⟩,rfl⟩:=h
  have hE:iv (ME p many):=⟨rfl,hm,hJ⟩
  have e:(many-0).toNat=many.toNat:=AI
  have q:(dB (ME p many)=.exit 0/\((Sq<|ME p many).p,(Sq<|ME p many).last,U)=CR many.toNat p 0)\/(dB (ME p many)=.ret/\((Sq<|ME p many).r,(Sq<|ME p many).e,(Sq<|ME p many).b)=CR many.toNat p 0):=by
   rw [<-e];exact ap5 _ hE
  refine ⟨⟨hE,rfl,rfl⟩,λc=>?_,λc=>?_⟩
  ·rcases q with ⟨x1,_⟩ |⟨_,x2⟩
   ·rw [x1] at c
    cases c
   ·rw [<-x2]
    rfl
  ·rcases q with ⟨_,x2⟩ |⟨x1,_⟩
   ·rw [<-x2]
    rfl
   ·rw [x1] at c
    cases c
 ·cases h)
def aSa:List LV->T LV:=λ_=> .no
def auj:VV 1000022 aSa:=by
 exact xa
structure HF where
 DF:List Cd->List ByteArray->List Ko->List Ch->List Ba->List Int->Int
 newP:List Cd->List ByteArray->List Ko->List Ch->List Ba->List Int->PK
 BP:PK->EV->Int
 BL:PK->EV->PK
 Ce:PK->EV->List Int
 CR:Nat->PK->Int->PK×Int×Bool
 JP:PK->Prop
def hdF:HF:=⟨DF,newP,BP,BL,Ce,CR,JP⟩
def aoM (F:HF):List LV->T LV
 | [x_p,x_ev]=>(match Mu x_p with
  |some p=>(match mK x_ev with
  |some ev=> .req (F.JP p) (.ok<|.AM [F.BL p<|EW.ev ev,.xl A7<|F.Ce p<|EW.ev ev,F.BP p<|EW.ev ev])
  |none=> .no)
  |none=> .no)
 |_=> .no
def auM (F:HF):List LV->T LV:=Jr prog f8.params.toList<|aoM F
def auP (F:HF):List LV->T LV
 | [.agg [.xl (.pair .str (.pair (.int J) (.pair (.int J) (.pair (.int J) (.pair (.pair (.int J) (.int J)) (.pair (.int J) (.pair (.int J) (.pair (.int J) (.pair (.int J) (.int J)))))))))) cs,.xl (.str) os,.xl (.pair .str (.pair (.int J) (.pair (.int J) (.int J)))) ks,.xl (.pair .str (.pair (.int J) (.pair (.int J) (.pair (.int J) (.pair (.int J) (.pair (.int J) (.pair (.int J) (.int J)))))))) gs,.xl (.pair .str (.int J)) bs],.xl (.int J) dr]=> .req (M dr<=1000) (.ok<|.AM [F.newP cs os ks gs bs dr,F.DF cs os ks gs bs dr])
 |_=> .no
def ahD (F:HF):List LV->T LV:=Jr prog f10.params.toList<|auP F
def auO (F:HF):List LV->T LV
 | [x_p,.v (Y J many)]=>(match Mu x_p with
  |some p=> .req (F.JP p/\many<=1000) (.ok<|.AM [(F.CR many.toNat p 0).1,(F.CR many.toNat p 0).2.1,(F.CR many.toNat p 0).2.2])
  |none=> .no)
 |_=> .no
def ahA (F:HF):List LV->T LV:=Jr prog f9.params.toList<|auO F
def bS:List Cd:=letI a:=((bC 32).getD (0:Int).toNat<|Ty.dflt Ad);(bC 32).set (0:Int).toNat (a.1,(a.2.1,((5:Int),a.2.2.2)))
def hN (F:HF):PK:=F.newP (((bC 32).drop 0).take 1) bO ([]:List Ko) bG ([]:List Ba)<|[(0:Int)]
def hA (F:HF):PK×Int×Bool:=F.CR (1:Int).toNat (hN F) 0
def hB (F:HF):PK:=F.BL (hA F).1<|EW.ev<|⟨2,0,0,0,1,20,1000000000,0,U,0,500,1⟩
def hC (F:HF):PK×Int×Bool:=F.CR (1:Int).toNat (hB F) 0
def hD (F:HF):PK×Int×Bool:=F.CR (60:Int).toNat (hC F).1 0
def hX (F:HF):PK:=F.BL (hD F).1<|EW.ev<|⟨5,0,0,0,0,0,0,0,X,0,0,0⟩
def hL (F:HF):PK×Int×Bool:=F.CR (24:Int).toNat (hX F) 0
def abH (F:HF):hA F=F.CR 1 (hN F) 0:=rfl
def abG (F:HF):hB F=F.BL (hA F).1 Kt:=rfl
def abE (F:HF):hC F=F.CR 1 (hB F) 0:=rfl
def abu (F:HF):hD F=F.CR 60 (hC F).1 0:=rfl
def abt (F:HF):hX F=F.BL (hD F).1 evF:=rfl
def akP (F:HF):hL F=F.CR 24 (hX F) 0:=rfl
def ach:List LV->T LV
 | []=> .ok U
 |_=> .no
def X3:List Bd:=[WO,v5,vi,auj]
def uB:Aw:=kI X3<|la 9 func23 aG8<|la 11 func34 TB<|la 6 func34 QG<|la 3 func62 Od<|la 2 func33 NM<|la 1 func32 MP<|la 2 func41 L7<|la 9 func23 Cn<|l0 X3
def mD (F:HF):Specs:=DC [(8,auM F),(9,ahA F),(10,ahD F),(1000022,aSa)]
def aKN (F:HF):Hand:=inl prog AU (mD F) (CS 23 9 9 (UK.lp)<|CS 34 21 11 (PA.lp)<|CS 34 21 6 (Qi.lp)<|CS 62 21 3 (Qh.lp)<|CS 33 20 2 (Qz.lp)<|CS 32 20 1 (QW.lp)<|CS 41 19 2 (R5.lp)<|CS 23 0 9 (Gb.lp)<|Du prog AU (mD F) 20 2) 9
def ayR (F:HF):letI a:=(EW.ev<|⟨2,0,0,0,1,20,1000000000,0,U,0,500,1⟩);letI b:=(hA F);Bg prog AU (mD F) (aKN F) Ak f4 []=.req (0+1<=M (bC 32)) (.req (M ([(0:Int)])<=1000)<|.req (F.JP ((hN F))/\(1:Int)<=1000)<|.req (F.JP b.1)<|.req (F.JP ((hB F))/\(1:Int)<=1000)<|.req (F.JP ((hC F)).1/\(60:Int)<=1000)<|.req (F.JP ((hD F)).1)<|.req (F.JP ((hX F))/\(24:Int)<=1000)<|.req (0<=(0:Int)/\(0:Int)<((1:Nat):Int))<|.req ((0:Int).toNat<M (bC 32))<|.req (0+1<=M bS)<|.req (M ([(0:Int)])<=1000)<|.ok<|.v<|.bool<|(((F.DF (((bC 32).drop 0).take 1) bO ([]:List Ko) bG ([]:List Ba)<|[(0:Int)])==0)&&(((F.BP b.1 a)==0)&&(((F.BP ((hD F)).1<|EW.ev<|⟨5,0,0,0,0,0,0,0,X,0,0,0⟩)==0)&&(((F.DF ((bS.drop 0).take 1) bO ([]:List Ko) bG ([]:List Ba)<|[(0:Int)])==13)&&(b.2.2&&(((hC F)).2.2&&(((hD F)).2.2&&(((hL F)).2.2&&((M (F.Ce b.1 a):Int)==0)))))))))&&((b.2.1==0)&&((b.1.tk==1)&&((((hC F)).2.1==6)&&((((hD F)).2.1==20)&&(((hL F)).2.1==6)))))):=AT
def az6:X3=mD hdF:=AT
def az5:uB=aKN hdF:=AT
def ajY:letI a:=(EW.ev<|⟨2,0,0,0,1,20,1000000000,0,U,0,500,1⟩);letI b:=(hA hdF);letI c:=(hD hdF);Bg prog AU (X3) uB Ak f4 []=.req (0+1<=M (bC 32)) (.req (M ([(0:Int)])<=1000)<|.req (hdF.JP ((hN hdF))/\(1:Int)<=1000)<|.req (hdF.JP b.1)<|.req (hdF.JP ((hB hdF))/\(1:Int)<=1000)<|.req (hdF.JP ((hC hdF)).1/\(60:Int)<=1000)<|.req (hdF.JP c.1)<|.req (hdF.JP ((hX hdF))/\(24:Int)<=1000)<|.req (0<=(0:Int)/\(0:Int)<((1:Nat):Int))<|.req ((0:Int).toNat<M (bC 32))<|.req (0+1<=M (bS))<|.req (M ([(0:Int)])<=1000)<|.ok<|.v<|.bool<|(((hdF.DF (((bC 32).drop 0).take 1) (bO) ([]:List Ko) (bG) ([]:List Ba)<|[(0:Int)])==0)&&(((hdF.BP b.1 a)==0)&&(((hdF.BP c.1<|EW.ev<|⟨5,0,0,0,0,0,0,0,X,0,0,0⟩)==0)&&(((hdF.DF (((bS).drop 0).take 1) (bO) ([]:List Ko) (bG) ([]:List Ba)<|[(0:Int)])==13)&&(b.2.2&&(((hC hdF)).2.2&&(c.2.2&&(((hL hdF)).2.2&&((M (hdF.Ce b.1 a):Int)==0)))))))))&&((b.2.1==0)&&((b.1.tk==1)&&((((hC hdF)).2.1==6)&&((c.2.1==20)&&(((hL hdF)).2.1==6)))))):=by
 rw [az6,az5];exact ayR hdF
def aK8:=vo (S:=ach) func4 X3 uB (λargs lv h=>by
 refine ⟨?_⟩;unfold ach at h;split at h
 ·simp only [canL]
  rw [ajY];obtain rfl:=h;simp only [show hdF.DF=DF from rfl,show hdF.newP=newP from rfl,show hdF.BP=BP from rfl,show hdF.BL=BL from rfl,show hdF.Ce=Ce from rfl,show hdF.CR=CR from rfl,show hdF.JP=JP from rfl];obtain ⟨p1,p3,p4,p6,a1,a2,a3,a4,a5,a6,a7,a8⟩:=akO
  have eN:(hN hdF)=newP (bC 32) bO [] bG [] [0]:=rfl
  have t1:hdF.CR=CR:=rfl
  have t2:hdF.BL=BL:=rfl
  have eA:hA hdF=(p1,0,U):=by rw [abH,t1,eN];exact a1
  have eB:hB hdF=BL p1 Kt:=by rw [abG,t2,eA]
  have eC:hC hdF=(p3,6,U):=by rw [abE,t1,eB];exact a5
  have eD:hD hdF=(p4,20,U):=by rw [abu,t1,eC];exact a6
  have eX:hX hdF=BL p4 evF:=by rw [abt,t2,eD]
  have eL:hL hdF=(p6,6,U):=by rw [akP,t1,eX];exact a8
  have jN:JP (hN hdF):=by rw [eN];exact tN zu.1
  have jA:JP (hA hdF).1:=by rw [abH,t1];exact jN.EP _ _
  have sA:BP (hA hdF).1 Kt=0:=by rw [eA];exact a3
  have jB:JP (hB hdF):=by rw [abG,t2];exact jA.step sA
  have jC:JP (hC hdF).1:=by rw [abE,t1];exact jB.EP _ _
  have jD:JP (hD hdF).1:=by rw [abu,t1];exact jC.EP _ _
  have sD:BP (hD hdF).1 evF=0:=by rw [eD];exact a7
  have jX:JP (hX hdF):=by rw [abt,t2];exact jD.step sD
  have n1:DF (((bC 32).drop 0).take 1) bO [] bG [] [(0:Int)]=0:=zu.1
  have n2:DF ((bS.drop 0).take 1) bO [] bG [] [(0:Int)]=13:=zu.2
  have b3:BP p1 (EW.ev ⟨2,0,0,0,1,20,1000000000,0,U,0,500,1⟩)=0:=a3
  have b4:Ce p1 (EW.ev ⟨2,0,0,0,1,20,1000000000,0,U,0,500,1⟩)=[]:=a4
  have b7:BP p4 (EW.ev ⟨5,0,0,0,0,0,0,0,X,0,0,0⟩)=0:=a7
  refine ⟨Ae,Ae,⟨jN,Ae⟩,jA,⟨jB,Ae⟩,⟨jC,Ae⟩,jD,⟨jX,Ae⟩,Ae,Ae,Ae,Ae,?_⟩
  show LV.v (.bool _)=_
  simp only [n1,n2,eA,eC,eD,eL,a2,b3,b4,b7,Bn];rfl
 ·cases h)
def opN (k:Int) (l:Nat):Int:=if (l:Int)>0 then (AA k).tmod l else 0
def opE (p:PK) (x1 x2 x3 y1 y2 y3 y4 y5:Int) (z1:Bool) (z2 z3 z4:Int):EW:=
 if x1.tmod 14=6\/x1.tmod 14=7 then ⟨2,opN x2<|M p.ca,0,y1,y2,y3,y4,y5,z1,z2,z3,z4⟩
 else if x1.tmod 14=8 then ⟨3,opN x2<|M p.ca,0,0,0,0,0,0,X,0,0,0⟩
 else if x1.tmod 14=9 then ⟨4,opN x2<|M p.ca,0,0,0,0,0,0,X,0,0,0⟩
 else if x1.tmod 14=10 then ⟨5,0,0,0,0,0,0,0,X,0,0,0⟩
 else if x1.tmod 14=11 then ⟨6,0,0,0,0,0,0,0,X,0,0,0⟩
 else if x1.tmod 14=12 then ⟨7,opN x2<|M p.ca,0,0,0,0,0,0,X,0,0,0⟩
 else if x1.tmod 14=13 then ⟨8,opN x2<|M p.tg,(AA x3).tmod 100,0,0,0,0,0,X,0,0,0⟩
 else ⟨1,0,0,0,0,0,0,0,X,0,0,0⟩
def opT (x1 x3:Int):Int:=if 6<=x1.tmod 14/\x1.tmod 14<=13 then 1 else AA (1+(AA x3).tmod 12)
def aSm:List LV->T LV
 | [x_p,.v (.agg ⟨[Y aw x1,Y aw x2,Y .u16 x3,Y J y1,Y J y2,Y J y3,Y J y4,Y J y5,.bool z1,Y J z2,Y J z3,Y J z4]⟩)]=>(match Mu x_p with
  |some p=> .tu #[opE p x1 x2 x3 y1 y2 y3 y4 y5 z1 z2 z3 z4,opT x1 x3]
  |none=> .no)
 |_=> .no
def aQy:List Bd:=[]
def ayW (p:PK) (x1 x2 x3 y1 y2 y3 y4 y5:Int) (z1:Bool) (z2 z3 z4:Int):letI a:=x1.tmod 14;letI c:=(M p.tg:Int);letI d:=(AA x3).tmod 100;letI e:=(M p.ca:Int);letI f:=AA<|1+((AA x3).tmod 12);letI b:=(AA x2).tmod e;Bg prog AU (aQy) kN Ak f13 [p,.v<|.agg #[Y aw x1,Y aw x2,Y .u16 x3,y1,y2,y3,y4,y5,z1,z2,z3,z4]]=.br (an<|e>0) (.req (e≠0)<|.req ((14:Int)≠0)<|.br (a==6) (.tu #[.agg #[(2:Int),b,(0:Int),y1,y2,y3,y4,y5,z1,z2,z3,z4],(1:Int)])<|.br (a==7) (.tu #[.agg #[(2:Int),b,(0:Int),y1,y2,y3,y4,y5,z1,z2,z3,z4],(1:Int)])<|.br (a==8) (.tu #[.agg #[(3:Int),b,(0:Int),(0:Int),(0:Int),(0:Int),(0:Int),(0:Int),X,(0:Int),(0:Int),(0:Int)],(1:Int)])<|.br (a==9) (.tu #[.agg #[(4:Int),b,(0:Int),(0:Int),(0:Int),(0:Int),(0:Int),(0:Int),X,(0:Int),(0:Int),(0:Int)],(1:Int)])<|.br (a==10) (.tu #[.agg #[(5:Int),(0:Int),(0:Int),(0:Int),(0:Int),(0:Int),(0:Int),(0:Int),X,(0:Int),(0:Int),(0:Int)],(1:Int)])<|.br (a==11) (.tu #[.agg #[(6:Int),(0:Int),(0:Int),(0:Int),(0:Int),(0:Int),(0:Int),(0:Int),X,(0:Int),(0:Int),(0:Int)],(1:Int)])<|.br (a==12) (.tu #[.agg #[(7:Int),b,(0:Int),(0:Int),(0:Int),(0:Int),(0:Int),(0:Int),X,(0:Int),(0:Int),(0:Int)],(1:Int)])<|.br (a==13) (.br (an<|c>0) (.req (c≠0)<|.req ((100:Int)≠0)<|.tu #[.agg #[(8:Int),(AA x2).tmod c,d,(0:Int),(0:Int),(0:Int),(0:Int),(0:Int),X,(0:Int),(0:Int),(0:Int)],(1:Int)])<|.req ((100:Int)≠0)<|.tu #[.agg #[(8:Int),(0:Int),d,(0:Int),(0:Int),(0:Int),(0:Int),(0:Int),X,(0:Int),(0:Int),(0:Int)],(1:Int)])<|.req ((12:Int)≠0)<|.tu #[.agg #[(1:Int),(0:Int),(0:Int),(0:Int),(0:Int),(0:Int),(0:Int),(0:Int),X,(0:Int),(0:Int),(0:Int)],f]) (.req ((14:Int)≠0)<|.br (a==6) (.tu #[.agg #[(2:Int),(0:Int),(0:Int),y1,y2,y3,y4,y5,z1,z2,z3,z4],(1:Int)])<|.br (a==7) (.tu #[.agg #[(2:Int),(0:Int),(0:Int),y1,y2,y3,y4,y5,z1,z2,z3,z4],(1:Int)])<|.br (a==8) (.tu #[.agg #[(3:Int),(0:Int),(0:Int),(0:Int),(0:Int),(0:Int),(0:Int),(0:Int),X,(0:Int),(0:Int),(0:Int)],(1:Int)])<|.br (a==9) (.tu #[.agg #[(4:Int),(0:Int),(0:Int),(0:Int),(0:Int),(0:Int),(0:Int),(0:Int),X,(0:Int),(0:Int),(0:Int)],(1:Int)])<|.br (a==10) (.tu #[.agg #[(5:Int),(0:Int),(0:Int),(0:Int),(0:Int),(0:Int),(0:Int),(0:Int),X,(0:Int),(0:Int),(0:Int)],(1:Int)])<|.br (a==11) (.tu #[.agg #[(6:Int),(0:Int),(0:Int),(0:Int),(0:Int),(0:Int),(0:Int),(0:Int),X,(0:Int),(0:Int),(0:Int)],(1:Int)])<|.br (a==12) (.tu #[.agg #[(7:Int),(0:Int),(0:Int),(0:Int),(0:Int),(0:Int),(0:Int),(0:Int),X,(0:Int),(0:Int),(0:Int)],(1:Int)])<|.br (a==13) (.br (an<|c>0) (.req (c≠0)<|.req ((100:Int)≠0)<|.tu #[.agg #[(8:Int),(AA x2).tmod c,d,(0:Int),(0:Int),(0:Int),(0:Int),(0:Int),X,(0:Int),(0:Int),(0:Int)],(1:Int)])<|.req ((100:Int)≠0)<|.tu #[.agg #[(8:Int),(0:Int),d,(0:Int),(0:Int),(0:Int),(0:Int),(0:Int),X,(0:Int),(0:Int),(0:Int)],(1:Int)])<|.req ((12:Int)≠0)<|.tu #[.agg #[(1:Int),(0:Int),(0:Int),(0:Int),(0:Int),(0:Int),(0:Int),(0:Int),X,(0:Int),(0:Int),(0:Int)],f]):=AT
def aaH:=vo (S:=aSm) func13 aQy kN (λargs lv h=>by
 refine ⟨?_⟩;unfold aSm at h;split at h
 ·split at h
  case h_2=>cases h
  rename_i p hp;obtain rfl:=W5 hp;simp only [canL,canX];rw [ayW];obtain rfl:=h
  repeat' (first|(refine And.intro (λc=>?_) λc=>?_) |(refine And.intro A8 ?_))
  all_goals simp_all [T.all,opE,opT,opN]
  all_goals omega
 ·cases h)
def ap7 {p:PK}(hJ:JP p) {ev:EW}(h1:ev.ek=1) (h2:p.tk<=1000):BP p ev.ev=0:=by
 rw [(aBQ (Q3.2 hJ.1.1) h1).1];exact AE A0
def aGQ {p:PK}(hJ:JP p) {ev:EW}(he:BP p ev.ev=0):(BL p ev.ev).tk=p.tk\/(ev.ek=1/\(BL p ev.ev).tk=p.tk+1):=by
 have hv:=Q3.2 hJ.1.1
 by_cases c1:ev.ek=1
 ·obtain ⟨a,b⟩:=aBQ hv c1
  rw [(b<|a.symm.trans he).1];exact .inr ⟨c1,aNT⟩
 left
 by_cases c2:ev.ek=2
 ·obtain ⟨a,b⟩:=aK6 hv c2;rw [(b<|a.symm.trans he).1];rfl
 by_cases c3:ev.ek=3
 ·obtain ⟨a,b⟩:=aK5 hv c3;rw [(b<|a.symm.trans he).1];rfl
 by_cases c4:ev.ek=4
 ·obtain ⟨a,b⟩:=aK4 hv c4;rw [(b<|a.symm.trans he).1];rfl
 by_cases c5:ev.ek=5
 ·obtain ⟨a,b⟩:=aK3 hv c5;rw [(b<|a.symm.trans he).1];rfl
 by_cases c6:ev.ek=6
 ·obtain ⟨a,b⟩:=aBP hv c6;rw [(b<|a.symm.trans he).1];rfl
 by_cases c7:ev.ek=7
 ·obtain ⟨a,b⟩:=aK2 hv c7;rw [(b<|a.symm.trans he).1];rfl
 by_cases c8:ev.ek=8
 ·obtain ⟨a,b⟩:=aK1 hv c8;rw [(b<|a.symm.trans he).1];rfl
 ·rw [aJz hv ⟨c1,c2,c3,c4,c5,c6,c7,c8⟩] at he
  cases he
def ayf (x1 x3:Int):opT x1 x3<=12:=by
 unfold opT;split
 ·decide
 ·have h1:=Int.tmod_lt_of_pos (AA x3) (show (0:Int)<12 by decide)
  have h2:=Int.lt_tmod_of_pos (AA x3) (show (0:Int)<12 by decide)
  rw [AJ];omega
def aSF:List LV->T LV
 | [x_p,x_r,.xl (.int J) dw]=>(match Mu x_p with
  |some p=>(match Mu x_r with
  |some r=> .ok U
  |none=> .no)
  |none=> .no)
 |_=> .no
def aQx:List Bd:=[]
def ayD (p r:PK) (dw:List Int):Bg prog AU (aQx) kN Ak f7 [p,r,.xl A7 dw]=.ok true:=AT
def gJ:=vo (S:=aSF) func7 aQx kN (λargs lv h=>by
 refine ⟨?_⟩;unfold aSF at h;split at h
 ·split at h
  case h_2=>cases h
  rename_i p hp;obtain rfl:=W5 hp;split at h
  case h_2=>cases h
  rename_i r hr;obtain rfl:=W5 hr;simp only [canL,canX];rw [ayD];obtain rfl:=h;rfl
 ·cases h)
structure Mg where
 b:Bool
 many:Int
 ops:List (Int×(Int×(Int×(Le×Dm))))
 (n i m k:Int)
 (r p:PK)
 ev:EW
def amS (s:Mg):List LV:=[.fn 7 [],.own 0 0,s.b,.own 1 0,s.many,.own 2 0,.xl (.pair (.int aw)<|.pair (.int aw)<|.pair (.int .u16)<|.pair AP As) s.ops,s.n,s.i,s.m,s.k]
def amq (s:Mg):List AB:=[pB s.r,pB s.p,⟨[s.ev.ek,s.ev.en,s.ev.em,s.ev.c1,s.ev.c2,s.ev.c3,s.ev.c4,s.ev.c5,s.ev.d1,s.ev.d2,s.ev.d3,s.ev.d4],59,.cl,X⟩]
def aF9:=lN (bN f6 0) 0
def fo (s:Mg):T (Rd Mg):=letI a:=AA<|s.many+1;letI c:=EW.ev s.ev;.br (an<|s.k<s.m) (.br (s.ev.ek==1) (.br (an<|a>150) (.so (.exit 2) {s with many:=a})<|.req (JP s.p)<|.br ((BP s.p c) !=0) (.br (s.ev.ek==1) (.so (.ret) {s with b:=X,many:=a,r:=s.p})<|.so (.exit 2) {s with many:=a})<|.br (!U) (.so (.ret) {s with b:=X,many:=a,r:=s.p})<|.nx {s with many:=a,k:=AA<|s.k+1,p:=BL s.p c})<|.req (JP s.p)<|.br ((BP s.p c) !=0) (.br (s.ev.ek==1) (.so (.ret) {s with b:=X,r:=s.p})<|.so (.exit 2) s)<|.br (!U) (.so (.ret) {s with b:=X,r:=s.p})<|.nx {s with k:=AA<|s.k+1,p:=BL s.p c})<|.so (.exit 2) s
def Yn (s:Mg):Prop:=s.k=0/\s.many<=12*s.i/\JP s.p/\TG s.p/\(s.p.tk<=150/\s.p.tk<=s.many/\0<=s.many)/\s.m<=12/\(0<=s.i/\s.i<=1000)
def Xh (s:Mg):Prop:=(0<=s.k/\(s.k<=s.m\/s.k=0))/\s.many<=12*s.i+s.k/\JP s.p/\TG s.p/\(s.p.tk<=150/\s.p.tk<=s.many/\0<=s.many)/\s.m<=12/\(0<=s.i/\s.i<=1000)
def fP (s:Mg):Nat:=(s.m-s.k).toNat
def j7 (x:Ex) (s s':Mg):Prop:=x=.exit 2/\JP s'.p/\TG s'.p/\(s'.p.tk<=150/\s'.p.tk<=s'.many/\0<=s'.many)/\s'.many<=12*s'.i+12
def ajo:∀s,Yn s->Xh s:=by
 rintro s ⟨h0,h1,h2⟩
 exact ⟨A0,A0,h2⟩
def ax8:Da Xh fP j7 fo:=by
 intro s hI;unfold fo;dsimp only [T.rd,T.rl,T.rv];obtain ⟨⟨h0,h0'⟩,h1,hJ,hm,⟨t1,t2,t3⟩,h3,h4⟩:=hI
 have w:AA (s.many+1)=s.many+1:=AJ
 have wk:AA (s.k+1)=s.k+1:=AJ
 rw [w,wk];refine AH (λc1=>?_) λc1=>⟨rfl,hJ,hm,⟨t1,t2,t3⟩,by simp only [D3] at c1;omega⟩
 simp only [Aa] at c1;refine AH (λc2=>?_) λc2=>?_
 ·have c2:s.ev.ek=1:=eq_of_beq c2
  refine AH (λc3=>⟨rfl,hJ,hm,⟨t1,AZ,AZ⟩,AZ⟩) λc3=>?_
  have c3:¬s.many+1>150:=JN c3
  refine AH (λc4=>absurd (ap7 hJ c2 A0)<|EX.1 c4) λc4=>?_
  have c4:BP s.p s.ev.ev=0:=Dr c4
  refine AH (λc5=>by cases c5) λ_=>?_
  have hk:=aGQ hJ c4
  exact ⟨⟨⟨AZ,AZ⟩,AZ,hJ.step c4,hm.step hJ c4,⟨AZ,AZ,AZ⟩,h3,h4⟩,by simp only [fP];omega⟩
 ·have c2:¬s.ev.ek=1:=CU.1 c2
  refine AH (λc4=>AH (λc5=>absurd (eq_of_beq c5) c2) λ_=>⟨rfl,hJ,hm,⟨t1,t2,t3⟩,A0⟩) λc4=>?_
  have c4:BP s.p s.ev.ev=0:=Dr c4
  refine AH (λc5=>by cases c5) λ_=>?_
  have hk:=aGQ hJ c4
  exact ⟨⟨⟨AZ,AZ⟩,AZ,hJ.step c4,hm.step hJ c4,⟨AZ,AZ,t3⟩,h3,h4⟩,by simp only [fP];omega⟩
def RA:AS Mg:=⟨0,75,[3,8,9,10,12,15,29,30,31,41,42],[],amS,amq,λv b=>⟨EO v 2,AK v 4,Ao (.pair (.int aw)<|.pair (.int aw)<|.pair (.int .u16)<|.pair AP As)<|v.getD 6 .junk,AK v 7,AK v 8,AK v 9,AK v 10,rQ b 0,rQ b 1,rE b 0 2⟩,fo,λs r=> {s with b:=r.b,many:=r.many,k:=r.k,r:=r.r,p:=r.p},λs=>s,λ_ s=>s,[.exit 2,.ret],Yn,Xh,fP⟩
abbrev nB:=RA.run
abbrev qf:=RA.At
def awZ:Rq Xh fo:=by
 intro s hI;refine ⟨λc1=>⟨λc2=>⟨λ_=>trivial,λc3=>⟨?_,λc4=>⟨λ_=>trivial,λ_=>trivial⟩,λc4=>⟨λ_=>trivial,λ_=>trivial⟩⟩⟩,λc2=>⟨?_,λc7=>⟨λ_=>trivial,λ_=>trivial⟩,λc7=>⟨λ_=>trivial,λ_=>trivial⟩⟩⟩,λ_=>trivial⟩
 all_goals ((exact hI.2.2.1))
def uM:List Bd:=[gJ,WO,vi,aaH]
def aPr:RA.Ok:={}
def aOX:RA.Pf (j7):=⟨ajo,λs h=>rfl,ax8,awZ⟩
def aqF:SA 0 aF9 RA:=s1 aPr aOX uM kN
def aqV:Fi Yn Xh j7 qf nB:=AS.fin aPr aOX
structure Jc where
 b:Bool
 many:Int
 ops:List (Int×(Int×(Int×(Le×Dm))))
 (n i:Int)
 (r p:PK)
def amQ (s:Jc):List LV:=[.fn 7 [],.own 0 0,s.b,.own 1 0,s.many,.xl (.pair (.int aw)<|.pair (.int aw)<|.pair (.int .u16)<|.pair AP As) s.ops,s.n,s.i]
def amo (s:Jc):List AB:=[pB s.r,pB s.p]
def pR:=bN f6 0
def OT (s:Jc):Mg:=(⟨s.b,s.many,s.ops,s.n,s.i,opT (gx (e:=.pair (.int aw)<|.pair (.int aw)<|.pair (.int .u16)<|.pair AP As) s.ops s.i).1 (gx (e:=.pair (.int aw)<|.pair (.int aw)<|.pair (.int .u16)<|.pair AP As) s.ops s.i).2.2.1,0,s.r,s.p,opE s.p (gx (e:=.pair (.int aw)<|.pair (.int aw)<|.pair (.int .u16)<|.pair AP As) s.ops s.i).1 (gx (e:=.pair (.int aw)<|.pair (.int aw)<|.pair (.int .u16)<|.pair AP As) s.ops s.i).2.1 (gx (e:=.pair (.int aw)<|.pair (.int aw)<|.pair (.int .u16)<|.pair AP As) s.ops s.i).2.2.1 (gx (e:=.pair (.int aw)<|.pair (.int aw)<|.pair (.int .u16)<|.pair AP As) s.ops s.i).2.2.2.1.1 (gx (e:=.pair (.int aw)<|.pair (.int aw)<|.pair (.int .u16)<|.pair AP As) s.ops s.i).2.2.2.1.2.1 (gx (e:=.pair (.int aw)<|.pair (.int aw)<|.pair (.int .u16)<|.pair AP As) s.ops s.i).2.2.2.1.2.2.1 (gx (e:=.pair (.int aw)<|.pair (.int aw)<|.pair (.int .u16)<|.pair AP As) s.ops s.i).2.2.2.1.2.2.2.1 (gx (e:=.pair (.int aw)<|.pair (.int aw)<|.pair (.int .u16)<|.pair AP As) s.ops s.i).2.2.2.1.2.2.2.2 (gx (e:=.pair (.int aw)<|.pair (.int aw)<|.pair (.int .u16)<|.pair AP As) s.ops s.i).2.2.2.2.1 (gx (e:=.pair (.int aw)<|.pair (.int aw)<|.pair (.int .u16)<|.pair AP As) s.ops s.i).2.2.2.2.2.1 (gx (e:=.pair (.int aw)<|.pair (.int aw)<|.pair (.int .u16)<|.pair AP As) s.ops s.i).2.2.2.2.2.2.1 (gx (e:=.pair (.int aw)<|.pair (.int aw)<|.pair (.int .u16)<|.pair AP As) s.ops s.i).2.2.2.2.2.2.2⟩:Mg)
def fm (s:Jc):T (Rd Jc):=letI a:=nB<|OT s;.br (an<|s.i<s.n) (.ix s.i (M s.ops)<|.req (RA.q<|OT s)<|.br (Bj (qf<|OT s)<|.exit 2) (.nx {s with b:=a.b,many:=a.many,i:=AA<|s.i+1,r:=a.r,p:=a.p})<|.so (.ret) {s with b:=a.b,many:=a.many,r:=a.r,p:=a.p})<|.so (.exit 0) s
def Ym (s:Jc):Prop:=s.i=0/\s.many=0/\JP s.p/\TG s.p/\(s.p.tk<=150/\s.p.tk<=s.many/\0<=s.many)/\(s.n=(M s.ops:Int)/\s.n<=1000)
def Tq (s:Jc):Prop:=(0<=s.i/\s.i<=s.n)/\s.many<=12*s.i/\JP s.p/\TG s.p/\(s.p.tk<=150/\s.p.tk<=s.many/\0<=s.many)/\(s.n=(M s.ops:Int)/\s.n<=1000)
def tl (s:Jc):Nat:=(s.n-s.i).toNat
def aAI (x:Ex) (s s':Jc):Prop:=x=.exit 0/\JP s'.p/\TG s'.p/\s'.p.tk<=150
def ajn:∀s,Ym s->Tq s:=by
 rintro s ⟨h0,h1,h2,h3,h4,h5⟩
 exact ⟨A0,A0,h2,h3,h4,h5⟩
def aOf {s:Jc}(hI:Tq s) (c1:s.i<s.n):j7 (qf<|OT s) (OT s) (nB<|OT s)/\Yn (OT s):=by
 obtain ⟨⟨h0,h1⟩,h2,hJ,hm,ht,h3⟩:=id hI
 have hE:Yn (OT s):=⟨rfl,h2,hJ,hm,ht,ayf _ _,⟨h0,by show s.i<=1000;omega⟩⟩
 obtain ⟨_,_,q⟩:=aqV _ hE;exact ⟨q,hE⟩
def ax7:Da Tq tl aAI fm:=by
 intro s hI;unfold fm;dsimp only [T.rd,T.rl,T.rv];obtain ⟨⟨h0,h1⟩,h2,hJ,hm,ht,h3⟩:=id hI;refine AH (λc1=>?_) λc1=>⟨rfl,hJ,hm,ht.1⟩
 have c1:s.i<s.n:=AX
 obtain ⟨x1,x2,x3,x4,x5⟩:=(aOf hI c1).1;rw [AJ (x:=s.i+1)];refine AH (λc2=>?_) λc2=>?_
 ·have x5:(nB<|OT s).many<=12*s.i+12:=x5
  exact ⟨⟨⟨AZ,AZ⟩,AZ,x2,x3,x4,h3⟩,by simp only [tl];omega⟩
 ·rw [x1] at c2
  cases c2
def R9:AS Jc:=⟨0,75,[3,8,9,10,12,29,30,31],[.ps 8 0 Ad,.ps 8 1 .str,.ps 8 2 Ah,.ps 8 3 Af,.ps 8 4 Ai,.ps 8 7 AP,.ps 8 9<|.int aw,.ps 8 10 Am,.ps 8 12 B3,.ps 8 13 AP,.ps 8 14 B6,.ps 8 15 BO,.ps 8 16 As,.ps 8 17 BJ,.ps 8 18 A7,.ps 8 19 A7],amQ,amo,λv b=>⟨EO v 2,AK v 4,Ao (.pair (.int aw)<|.pair (.int aw)<|.pair (.int .u16)<|.pair AP As)<|v.getD 5 .junk,AK v 6,AK v 7,rQ b 0,rQ b 1⟩,fm,λs r=> {r with ops:=s.ops,n:=s.n},λs=>s,λ_ s=>s,[.ret,.exit 0],Ym,Tq,tl⟩
abbrev ct:=R9.run
abbrev qe:=R9.At
def awY:Rq Tq fm:=by
 intro s hI;refine ⟨λc1=>⟨?_,?_,λ_=>trivial,λ_=>trivial⟩,λ_=>trivial⟩
 all_goals ((obtain ⟨⟨h0,h1⟩,h2,hJ,hm,ht,h3⟩:=id hI;simp only [Aa] at c1;first|omega|exact ⟨(aOf hI c1).2,rfl,rfl⟩))
def aPq:R9.Ok:={}
def aOW:R9.Pf (aAI):=⟨ajn,λs h=>rfl,ax7,awY⟩
def aqE:SA 0 pR R9:=AS.snd aPq aOW (nU (Γ:=uM) (K:=Fx) (L:=(λi=>if i=10 then RA.lp else Ak i)) (gk uM) kN.h pR (λb hb=>by
 rw [show BB _=[aF9] by kernel_rfl] at hb
 simp only [B7,Bu,Bt] at hb;subst hb;exact aqF)) λs=>AT
def aGY:Fi Ym Tq aAI qe ct:=AS.fin aPq aOW
def plS (cs:List Cd) (os:List ByteArray) (ks:List Ko) (gs:List Ch) (bs:List Ba) (dr:List Int) (ops:List<|(Int×(Int×(Int×(Le×Dm))))):Jc:=⟨X,0,ops,(M ops:Int),0,PK0,newP cs os ks gs bs dr⟩
def LW (cs:List Cd) (os:List ByteArray) (ks:List Ko) (gs:List Ch) (bs:List Ba) (dr:List Int) (ops:List<|(Int×(Int×(Int×(Le×Dm))))):PK:=if DF cs os ks gs bs dr≠0 then newP cs os ks gs bs dr else (ct<|plS cs os ks gs bs dr ops).p
def plE {cs:List Cd}{os:List ByteArray}{ks:List Ko}{gs:List Ch}{bs:List Ba}{dr:List Int}{ops:List<|(Int×(Int×(Int×(Le×Dm))))}(c:DF cs os ks gs bs dr=0) (h2:M ops<=1000):Ym (plS cs os ks gs bs dr ops):=by
 have hp:newP cs os ks gs bs dr=_:=AE VM
 refine ⟨rfl,rfl,tN c,ay2 c,?_,⟨rfl,by show (M ops:Int)<=1000;omega⟩⟩
 show (newP cs os ks gs bs dr).tk<=150/\(newP cs os ks gs bs dr).tk<=0/\(0:Int)<=0
 rw [hp];exact ⟨by show (0:Int)<=150;decide,DU _,DU _⟩
def ax9 {cs:List Cd}{os:List ByteArray}{ks:List Ko}{gs:List Ch}{bs:List Ba}{dr:List Int}{ops:List<|(Int×(Int×(Int×(Le×Dm))))}(c:DF cs os ks gs bs dr=0) (h2:M ops<=1000):letI a:=LW cs os ks gs bs dr ops;JP a/\TG a/\a.tk<=150:=by
 obtain ⟨_,_,_,q⟩:=aGY _<|plE c h2;rw [show LW cs os ks gs bs dr ops=_ from AE VM];exact q
def aSD:List LV->T LV
 | .agg a::r=>s5 a λcs os ks gs bs=>(match r with
  | [.xl (.int J) dr,.xl (.pair (.int aw) (.pair (.int aw) (.pair (.int .u16) (.pair (.pair (.int J) (.pair (.int J) (.pair (.int J) (.pair (.int J) (.int J))))) (.pair .bool (.pair (.int J) (.pair (.int J) (.int J)))))))) ops,.fn 7 []]=> .req (M dr<=1000/\M ops<=1000) (.ok<|.AM [LW cs os ks gs bs dr ops,U])
  |_=> .no)
 |_=> .no
def aBo (cs:List Cd) (os:List ByteArray) (ks:List Ko) (gs:List Ch) (bs:List Ba) (dr:List Int) (ops:List<|Int×(Int×(Int×(Le×Dm)))):Jc:=(⟨X,0,ops,(M ops:Int),0,⟨([]:List Cd),([]:List ByteArray),([]:List Ko),([]:List Ch),([]:List Ba),0,X,([]:List Le),0,([]:List Int),([]:List Ra),0,([]:List St),([]:List Le),([]:List Mi),([]:List Me),([]:List Dm),([]:List Lk),([]:List Int),([]:List Int)⟩,newP cs os ks gs bs dr⟩:Jc)
def agr:List Bd:=[gJ,WO,vi,aaH]
def aaA:=vm (S:=aSD) func6 agr kN (L:=(λi=>if i=6 then R9.lp else Ak i)) (λb hb=>by
 rw [show BB _=[pR] by kernel_rfl] at hb
 simp only [B7,Bu,Bt] at hb;subst hb;exact aqE) (λargs lv h=>by
 unfold aSD at h;split at h
 case h_2=>cases h
 replace h:=IC h
 obtain ⟨cs,os,ks,gs,bs,rfl,h⟩:=h;split at h
 ·rename_i dr ops
  refine Ap (letI a:=aBo cs os ks gs bs dr ops;.req (M dr<=1000)<|.br ((DF cs os ks gs bs dr) !=0) (.ok<|.AM [((newP cs os ks gs bs dr)),U])<|.req (R9.q a)<|.br (Bj (qe a)<|.ret) (.ok<|.AM [((ct a).r),(ct a).b])<|.ok<|.AM [((ct a).p),U]) ?_;obtain ⟨⟨h1,h2⟩,rfl⟩:=h;refine ⟨h1,λc=>?_,λc=>?_⟩
  ·have c:=EX.1 c
   rw [show LW cs os ks gs bs dr ops=newP cs os ks gs bs dr from AD c];rfl
  have c:=Dr c
  have hE:Ym (aBo cs os ks gs bs dr ops):=plE c h2
  obtain ⟨_,_,q,_⟩:=aGY _ hE
  have q:qe (aBo cs os ks gs bs dr ops)=.exit 0:=q
  refine ⟨⟨hE,rfl,rfl⟩,λc2=>?_,λ_=>?_⟩
  ·rw [q] at c2
   cases c2
  ·rw [show LW cs os ks gs bs dr ops=_ from AE VM]
   rfl
 ·cases h)
def aS9:List LV->T LV
 | .agg a::r=>s5 a λcs os ks gs bs=>(match r with
  | []=> .ok (an<|M cs<=40/\M os<=40/\M ks<=40/\M gs<=40/\M bs<=40)
  |_=> .no)
 |_=> .no
def agq:List Bd:=[]
def aa8:=vo (S:=aS9) func12 agq kN (λargs lv h=>by
 unfold aS9 at h;split at h
 case h_2=>cases h
 replace h:=IC h
 obtain ⟨cs,os,ks,gs,bs,rfl,h⟩:=h;split at h
 ·refine Ap (.ok<|.v<|.bool<|(an<|(M cs:Int)<=40)&&((an<|(M os:Int)<=40)&&((an<|(M ks:Int)<=40)&&((an<|(M gs:Int)<=40)&&(an<|(M bs:Int)<=40))))) ?_
  obtain rfl:=h;refine Az (λz=>LV.v<|.bool z) ?_
  rw [IY];simp only [AY,Aa];omega
 ·cases h)
structure KP where
 (b b1:Bool)
 cs:List Cd
 (m i:Int)
 p:PK
def aF8:=bN f3 0
def fk (s:KP):T (Rd KP):=
 .br (an<|s.i<s.m) (.ix s.i (M s.cs)<|.ix s.i (M s.p.tg)<|.br ((Ac s.cs s.i).2.2.1 !=(gi s.p.tg s.i)) (.so (.ret) {s with b:=X})<|.nx {s with i:=AA<|s.i+1}) (.so (.exit 0) s)
def Td (s:KP) (j:Int):Bool:=an<|(Ac s.cs j).2.2.1=gi s.p.tg j
def iN (s:KP):Prop:=s.i=0/\0<=s.m/\s.m<=1000/\s.m=(M s.cs:Int)/\M s.cs=M s.p.tg
def YU (s:KP):Prop:=0<=s.i/\s.i<=s.m/\s.m<=1000/\(s.m=(M s.cs:Int)/\M s.cs=M s.p.tg)/\∀j:Nat,(j:Int)<s.i->Td s j=U
def tj (s:KP):Nat:=(s.m-s.i).toNat
def aAH (x:Ex) (s s':KP):Prop:=(x=.exit 0/\∀j:Nat,(j:Int)<s'.m->Td s' j=U)\/(x=.ret/\s'.b=X/\∃j:Nat,(j:Int)<s'.m/\Td s' j=X)
def ajm:∀s,iN s->YU s:=by
 exact Jx
def ax6:Da YU tj aAH fk:=by
 intro s hI;unfold fk;dsimp only [T.rd,T.rl,T.rv];obtain ⟨h0,h1,h2,h3,h4⟩:=hI;refine AH (λc1=>AH (λc2=>?_) λc2=>?_) λc1=>?_
 ·have c1:s.i<s.m:=AX
  refine .inr ⟨rfl,rfl,s.i.toNat,AZ,?_⟩;rw [CL A0]
  have hg:Td s s.i=false:=aO0
  exact hg
 ·have c1:s.i<s.m:=AX
  have hg:Td s s.i=true:=aO0
  rw [AJ (x:=s.i+1)];refine ⟨⟨AZ,AZ,h2,h3,λj hj=>?_⟩,by simp only [tj];omega⟩
  by_cases hji:(j:Int)<s.i
  ·exact h4 j hji
  ·exact aLr
 ·exact kr
def PB:AS KP:=⟨0,89,[6,7,8,72,73,74],[],λs=>[s.b,s.b1,.own 0 0,s.cs,s.m,s.i],λs=>[pB s.p],λv b=>⟨EO v 0,EO v 1,B5 Ad v 3,AK v 4,AK v 5,rQ b 0⟩,fk,λs r=> {s with b:=r.b,i:=r.i},λs=>s,λ_ s=>s,[.ret,.exit 0],iN,YU,tj⟩
abbrev pw:=PB.run
abbrev WC:=PB.At
def awX:Rq YU fk:=by
 exact xD
def uL:List Bd:=[aK8,aaA,gJ,WO,v5,aa8]
def azF:Aw:=kI uL<|l0 uL
def aQW:PB.Ok:={}
def aOV:PB.Pf (aAH):=⟨ajm,λs h=>rfl,ax6,awX⟩
def aqD:SA 0 aF8 PB:=s1 aQW aOV uL azF
def aqS:Fi iN YU aAH WC pw:=AS.fin aQW aOV
def Et (p:PK):PK×Int×Bool:=CR 24 p 0
def ttS (p:PK):KP:={b:=X,b1:=U,cs:=(Et p).1.cs,m:=(M (Et p).1.cs:Int),i:=0,p:=(Et p).1}
def evS:EV:=⟨6,0,0,(0,0,0,0,0),(X,0,0,0)⟩
def aGS {p:PK}(hJ:JP p) (h:TG p) (hu:p.up=U) (ht:p.tk<=150):(JP p/\(24:Int)<=1000)/\((!(Et p).2.2) ||((M (Et p).1.tg:Int) !=(M (Et p).1.cs:Int)))=X/\PB.q (ttS p)/\Bj (WC<|ttS p) .ret=false:=by
 obtain ⟨a1,a2,a3,a4⟩:=ap8 h hJ hu ht (l:=0)
 have a1:(Et p).2.2=true:=a1
 have a2:M (Et p).1.tg=M (Et p).1.cs:=a2
 have a3:M (Et p).1.cs<=16:=a3
 have a4:∀k:Nat,k<M (Et p).1.cs->(Ac (Et p).1.cs k).2.2.1=gi (Et p).1.tg k:=a4
 have hE:iN (ttS p):=⟨rfl,SR _,by show (M (Et p).1.cs:Int)<=1000;omega,rfl,a2.symm⟩
 refine ⟨⟨hJ,Ae⟩,by rw [a1,a2];simp,⟨hE,rfl,rfl⟩,?_⟩
 obtain ⟨_,_,q⟩:=aqS _ hE
 have q:(WC (ttS p)=.exit 0/\_)\/(WC (ttS p)=.ret/\_/\∃j:Nat,(j:Int)<(M (Et p).1.cs:Int)/\an ((Ac (Et p).1.cs j).2.2.1=gi (Et p).1.tg j)=X):=q
 rcases q with ⟨q1,_⟩ |⟨_,_,j,j1,j2⟩
 ·rw [q1];rfl
 ·exact absurd (a4 j A0)<|JN j2
def aSP:List LV->T LV
 | .agg a::r=>s5 a λcs os ks gs bs=>(match r with
  | [.xl (.int J) dr,.xl (.pair (.int aw) (.pair (.int aw) (.pair (.int .u16) (.pair (.pair (.int J) (.pair (.int J) (.pair (.int J) (.pair (.int J) (.int J))))) (.pair .bool (.pair (.int J) (.pair (.int J) (.int J)))))))) ops]=> .ok U
  |_=> .no)
 |_=> .no
def ace:=uS f3 aSP
def adx (cs:List Cd) (os:List ByteArray) (ks:List Ko) (gs:List Ch) (bs:List Ba) (dr:List Int) (ops:List<|Int×(Int×(Int×(Le×Dm)))):KP:=letI a:=Et<|BL (LW cs os ks gs bs dr ops) evS;(⟨X,U,a.1.cs,(M a.1.cs:Int),0,a.1⟩:KP)
def adw (cs:List Cd) (os:List ByteArray) (ks:List Ko) (gs:List Ch) (bs:List Ba) (dr:List Int) (ops:List<|Int×(Int×(Int×(Le×Dm)))):KP:=letI a:=Et<|LW cs os ks gs bs dr ops;(⟨X,U,a.1.cs,(M a.1.cs:Int),0,a.1⟩:KP)
def uK:List Bd:=[aK8,aaA,gJ,WO,v5,aa8]
def azE:Aw:=kI uK<|l0 uK
def aj7:VV 3 ace:=vm func3 uK azE (L:=(λi=>if i=18 then PB.lp else Ak i)) (λb hb=>by
 rw [show BB _=[aF8] by kernel_rfl] at hb
 simp only [B7,Bu,Bt] at hb;subst hb;exact aqD) (λargs lv h=>by
 unfold aSP at h;split at h
 case h_2=>cases h
 replace h:=IC h
 obtain ⟨cs,os,ks,gs,bs,rfl,h⟩:=h;split at h
 ·rename_i dr ops
  refine Ap (letI a:=LW cs os ks gs bs dr ops;letI d:=adx cs os ks gs bs dr ops;letI e:=adw cs os ks gs bs dr ops;letI f:=Et<|BL a evS;.br (!((an<|M cs<=40/\M os<=40/\M ks<=40/\M gs<=40/\M bs<=40)&&((an<|(M dr:Int)<=40)&&(an<|(M ops:Int)<=40)))) (.ok U)<|.req (M dr<=1000/\M ops<=1000)<|.br (!U) (.ok X)<|.br ((M a.tg:Int)==0) (.ok U)<|.br (! a.up) (.req (JP a)<|.br ((BP a evS) !=0) (.ok X)<|.req (JP (BL a evS)/\(24:Int)<=1000)<|.br ((! f.2.2) ||((M f.1.tg:Int) !=(M f.1.cs:Int))) (.ok X)<|.req (PB.q d)<|.br (Bj (WC d)<|.ret) (.ok (pw d).b)<|.ok U)<|.req (JP a/\(24:Int)<=1000)<|.br ((!(Et a).2.2) ||((M (Et a).1.tg:Int) !=(M (Et a).1.cs:Int))) (.ok X)<|.req (PB.q e)<|.br (Bj (WC e)<|.ret) (.ok (pw e).b)<|.ok U) ?_;obtain rfl:=h;refine ⟨λ_=>rfl,λc1=>?_⟩
  simp only [I8,AY,Aa] at c1;obtain ⟨_,k1,k2⟩:=c1;refine ⟨⟨A0,A0⟩,λc=>GI,λ_=>⟨λ_=>rfl,λc3=>?_⟩⟩
  have hn:DF cs os ks gs bs dr=0:=ZE λhc=>by
   rw [show LW cs os ks gs bs dr ops=newP cs os ks gs bs dr from AD hc,show newP cs os ks gs bs dr=PK0 from AD hc] at c3;cases c3
  obtain ⟨hJ,hf,ht⟩:=ax9 hn (ops:=ops) A0;refine ⟨λc4=>⟨hJ,?_⟩,λc4=>?_⟩
  ·have hs:=anC hf hJ aC A0
   obtain ⟨e6,e7⟩:=aBP (ev:=⟨6,0,0,0,0,0,0,0,X,0,0,0⟩) (Q3.2 hJ.1.1) rfl
   have he:BP (LW cs os ks gs bs dr ops) evS=0:=e6.trans hs
   have eP:BL (LW cs os ks gs bs dr ops) evS=(LW cs os ks gs bs dr ops).Qu:=(e7 hs).1
   obtain ⟨b1,b2,b3,b4⟩:=aGS (hJ.step he) (hf.step hJ he) (by rw [eP];rfl) (by rw [eP];exact ht)
   exact ⟨λc5=>absurd he<|EX.1 c5,λ_=>⟨b1,λc6=>absurd (b2.symm.trans c6) Ae,λ_=>⟨b3,λc7=>absurd (b4.symm.trans c7) Ae,λ_=>rfl⟩⟩⟩
  ·obtain ⟨b1,b2,b3,b4⟩:=aGS hJ hf aC ht
   exact ⟨b1,λc6=>absurd (b2.symm.trans c6) Ae,λ_=>⟨b3,λc7=>absurd (b4.symm.trans c7) Ae,λ_=>rfl⟩⟩
 ·cases h)
end Go.Proofs.YtmlcgekfmlidcaaGreatDoor
namespace Go.Sx
open Go Go.RowKit Go.Proofs.YtmlcgekfmlidcaaGreatDoor
def mb:Ty->Nat
 | .int k=>k.bits / 8
 | .bool=>1
 | .str=>16
 | .sl _=>24
 | .pair a b=>mb a+mb b
def wfD:(t:Ty)->t.D->Prop
 | .int k,n=>(Lit.int k n).wf=U
 | .bool,_=>True
 | .str,s=>s.size<=maxLen
 | .sl e,l=>(M l<=maxLen/\M l*mb e<=reachBytes)/\∀d,d∈l->wfD e d
 | .pair a b,d=>wfD a d.1/\wfD b d.2
def WM (P:Program):Nat->List Field->Bool
 |_,[]=>U
 |o,f::fs=>an (f.offset=o)&&WM P (o+P.cellsOf f.type) fs
def Lj (P:Program):Nat->TypeId->Bool
 |0,_=>X
 |m+1,t=>match P.underlying t with
  |some (.int _) |some .bool|some .string=>an (P.cellsOf t=1)
  |some (.struct fs)=>WM P 0 fs.toList&&an (P.cellsOf t=((fs.toList.map (·.type)).map P.cellsOf).sum)&&fs.toList.all (λf=>Lj P m f.type)
  |some (.array n e)=>an (P.cellsOf t=((aq n e).map P.cellsOf).sum)&&Lj P m e
  |some (.slice e)=>an (P.cellsOf t=1)&&an (1<=P.cellsOf e)&&(IJ P m e).any (λty=>ty.n==P.cellsOf e&&an (mb ty<=P.bytesOf e))&&Lj P m e
  |_=>X
variable {H : Type} {enc : TypeId × Value -> H} {P : Program} {w : World} {base : Nat} {spare : Nat -> Bool} {held : Bool} {β : Nat -> Loc}
def Good (enc:TypeId×Value->H) (P:Program) (w:World) (base:Nat) (spare:Nat->Bool) (held:Bool) (t:TypeId) (cs:List Value):Prop:=∃n x,DataW.trod enc P w base spare held n t cs=ah x/\∀k,k∈x.1.weights P t->k<=reachBytes
theorem oZ {e:TypeId}{d:DataW H}{k:Nat}(hk:k∈d.weights P e):∀ {l:List<|DataW H}{i:Nat},l[i]? =ah d->k∈DataW.weightsAll P e l
 | [],_,h=>An
 |x::l,0,h=>by
  simp only [DataW.weightsAll,Be]
  grind
 |x::l,i+1,h=>by
  simp only [DataW.weightsAll,Be];exact .inr<|oZ hk h
theorem aDX {t:TypeId}{d:DataW H}{k:Nat}(hk:k∈d.weights P t):∀ {ts:List TypeId}{l:List<|DataW H}{i:Nat},ts[i]? =ah t->l[i]? =ah d->k∈DataW.weightsEach P ts l
 | [],_,_,h,_=>An
 |_::_,[],_,_,h=>An
 |u::ts,x::l,0,h1,h2=>by
  simp only [DataW.weightsEach,Be]
  grind
 |u::ts,x::l,i+1,h1,h2=>by
  simp only [DataW.weightsEach,Be];exact .inr<|aDX hk h1 h2
theorem aDa:∀ {ts us:List TypeId}{ds gs:List<|DataW H},M ds=M ts->∀k,k∈DataW.weightsEach P ts ds->k∈DataW.weightsEach P (ts++us) (ds++gs)
 | [],_,[],_,_,_,h=>by simp [DataW.weightsEach] at h
 | [],_,_::_,_,h,_,_=>An
 |_::_,_,[],_,h,_,_=>An
 |t::ts,us,d::ds,gs,h,k,hk=>by
  simp only [DataW.weightsEach,Be,Ju] at hk|-;rcases hk with hk|hk
  ·grind
  ·exact .inr<|aDa A8 k hk
def adi:∀ {ts:List TypeId}{vs:List Value}{ds:List<|DataW H}{ps:List MemPlace},DataW.TrodAll enc P w base spare held ts vs ds ps->M ds=M ts
 | [],[],[],_,_=>rfl
 | [],_::_,_,_,h=>An
 | [],[],_::_,_,h=>An
 |_::_,[],_,_,h=>An
 |_::_,_::_,[],_,h=>An
 |_::_,_::_,_::_,_,h=>by
  obtain ⟨_,_,_,h2,_⟩:=h
  simp [adi h2]
def RL.append' {Z:Nat->Prop}:∀ {l1 l2:List LV}{y1 y2:List Value},RL β Z w l1 y1->RL β Z w l2 y2->RL β Z w (l1++l2) (y1++y2)
 | [],l2,y1,y2,h1,h2=>by simp only [RL] at h1;subst h1;exact h2
 |x::xs,l2,y1,y2,h1,h2=>by
  obtain ⟨y,zs,rfl,h3,h4⟩:=h1;exact ⟨y,zs++y2,rfl,h3,RL.append' h4 h2⟩
theorem uk {Z:Nat->Prop}:∀(t:Ty) (d:t.D) (cs:List Value) (b o:Nat),RL β Z w (Bl t d) cs->(∀(j:Nat) v,cs[j]? =ah v->w.cell? ⟨b,o+j,aj⟩=ah v)->RD Z w t d b o
 | .int k,d,cs,b,o,h,hc=>by
  exact xP
 | .bool,d,cs,b,o,h,hc=>by
  exact xP
 | .str,d,cs,b,o,h,hc=>by
  exact xP
 | .sl e,d,cs,b,o,h,hc=>by
  obtain ⟨y,zs,rfl,⟨a,cap,rfl,h2,h3⟩,_⟩:=h;simp only [RD];exact ⟨a,cap,hc 0 _ rfl,h2,h3⟩
 | .pair p q,d,cs,b,o,h,hc=>by
  simp only [Bl] at h
  have hl:=RL.length h
  have h1:=h.take_drop 0 p.n
  have h2:RL β Z w ((Bl p d.1++Bl q d.2).drop p.n) (cs.drop p.n):=by
   refine RL.CQ (by simp [hl,K3]) λi z hz=>?_
   rw [F9] at hz|-;exact RL.get _ _ h hz
  have t1:((Bl p d.1++Bl q d.2).drop 0).take p.n=Bl p d.1:=by
   rw [CP,List.take_append_of_le_length yU,DZ yU]
  have t2:(Bl p d.1++Bl q d.2).drop p.n=Bl q d.2:=by
   rw [aKf yU,En A8,EF]
  rw [t1,CP] at h1;rw [t2] at h2;simp only [RD];refine ⟨uk p d.1 _ b o h1 λj v hv=>?_,uk q d.2 _ b (o+p.n) h2 λj v hv=>?_⟩
  ·exact aME
  ·rw [F9] at hv
   grind
theorem ox {Z:Nat->Prop}{r:TypeId->Option Ty}{sz:TypeId->Nat}{Gd:TypeId->List Value->Prop}:∀(ts:List TypeId) (ty:Ty) (cs:List Value),Uh r ts=ah ty->
  (∀t∈ts,∀ty c,r t=ah ty->Gd t c->∃d:ty.D,RL β Z w (Bl ty d) c/\wfD ty d)->M cs=(ts.map sz).sum->(∀pre t post,ts=pre++t::post->Gd t ((cs.drop (pre.map sz).sum).take<|sz t))->∃d:ty.D,RL β Z w (Bl ty d) cs/\wfD ty d
 | [],ty,cs,h,_,_,_=>by simp [Uh] at h
 | [t],ty,cs,h,ih,hl,hg=>by
  have:=ih t AI ty _ h<|hg [] t [] rfl
  have e:(cs.drop (List.map sz []).sum).take (sz t)=cs:=by
   grind
  rw [e] at this;exact this
 | t::u::ts,ty,cs,h,ih,hl,hg=>by
  simp only [Uh] at h;split at h
  ·rename_i a b ha hb
   simp only [Ag] at h;subst h;obtain ⟨d1,a1,a2⟩:=ih t AI a _ ha<|hg [] t (u::ts) rfl
   obtain ⟨d2,b1,b2⟩:=ox (sz:=sz) (Gd:=Gd) (u::ts) b (cs.drop<|sz t) hb (λt' ht=>ih t' A8) A8 (λpre t' post e=>by
    have:=hg (t::pre) t' post (by rw [e];rfl)
    simpa using this)
   refine ⟨(d1,d2),?_,by simp only [wfD];exact ⟨a2,b2⟩⟩
   have:=RL.append' a1 b1
   simp only [Bl];exact Pp
  ·cases h
theorem qR:∀(fs:List Field) (o:Nat),WM P o fs=U->∀pre f post,fs=pre++f::post->f.offset=o+((pre.map (·.type)).map P.cellsOf).sum
 | [],o,_,pre,f,post,e=>by cases pre<;>cases e
 |g::fs,o,h,[],f,post,e=>by
  simp only [WM,AY,Aa] at h
  grind
 |g::fs,o,h,p::pre,f,post,e=>by
  simp only [WM,AY,Aa] at h;simp only [Ju,HP] at e
  have:=qR fs _ h.2 pre f post e.2
  grind
theorem dg {Z:Nat->Prop}(hZ:∀b,b<w.heap.size->Z b):∀(m:Nat) (t:TypeId) (ty:Ty),Lj P m t=U->IJ P m t=ah ty->∀cs,Good enc P w base spare held t cs->∃d:ty.D,RL β Z w (Bl ty d) cs/\wfD ty d
 |0,t,_,h,_,_,_=>An
 | m + 1,t,ty,h,hty,cs,⟨n,x,hx,hwt⟩=>by
  simp only [Lj] at h;simp only [IJ] at hty;split at h
  ·rename_i k hu
   obtain ⟨z,rfl,_,hw⟩:=DataW.trod_int hu hx;simp only [hu,Ag] at hty;subst hty;exact ⟨z,ye,hw⟩
  ·rename_i hu
   obtain ⟨z,rfl,_⟩:=DataW.trod_bool hu hx;simp only [hu,Ag] at hty;subst hty;exact ⟨z,ye,ak⟩
  ·rename_i hu
   obtain ⟨z,rfl,_,hs⟩:=DataW.trod_string hu hx;simp only [hu,Ag] at hty;subst hty;exact ⟨z,ye,hs⟩
  ·rename_i fs hu
   simp only [AY,Aa,BH] at h;obtain ⟨⟨h1,h2⟩,h3⟩:=h;obtain ⟨xs,n',_,rfl,hl,hxl,hf⟩:=DataW.trod_struct hu hx;simp only [DataW.weights,hu] at hwt;simp only [hu] at hty;refine ox (Gd:=Good enc P w base spare held) (sz:=P.cellsOf) (fs.toList.map (·.type)) ty cs hty (λt' ht ty' c hty' hc=>?_) ln λpre t' post e=>?_
   ·obtain ⟨f,hf1,rfl⟩:=Em.1 ht
    exact dg hZ m f.type ty' (h3 f hf1) hty' c hc
   ·obtain ⟨fpre,frest,e1,e2,e3⟩:=List.map_eq_append_iff.1 e
    obtain ⟨f,fpost,rfl,e4,e5⟩:=List.map_eq_cons_iff.1 e3
    have ho:=qR fs.toList 0 h1 fpre f fpost e1
    have hi:fs[M fpre]? =ah f:=by
     exact aMR
    have hg:=hf _ f hi
    have hlt:M fpre<fs.size:=(HR.1 hi).1
    rw [ho,EZ] at hg;refine ⟨n',xs[M fpre]' A0,?_,λk hk=>?_⟩
    ·rw [<-e2,<-e4,hg,DX]
    ·rw [<-e4] at hk
     exact hwt k<|aDX hk (i:=M fpre) (by rw [e1];simp) yB
  ·rename_i n0 e hu
   simp only [AY,Aa] at h;obtain ⟨h2,h3⟩:=h;obtain ⟨xs,n',_,rfl,hl,hxl,hf⟩:=DataW.trod_array hu hx;simp only [DataW.weights,hu] at hwt;simp only [hu] at hty;refine ox (Gd:=Good enc P w base spare held) (sz:=P.cellsOf) (aq n0 e) ty cs hty (λt' ht ty' c hty' hc=>?_) ln λpre t' post e'=>?_
   ·rw [(SQ.1 ht).2] at hc hty'
    exact dg hZ m e ty' h3 hty' c hc
   ·obtain ⟨c1,c2,c3⟩:=aKg.1 e'
    have ht':t'=e:=by
     have:t'∈aq n0 e:=by rw [e'];simp
     exact (SQ.1 this).2
    have hlen:M pre<n0:=by
     have:=Az M e'
     simp at this;omega
    have hg:=hf (M pre) hlen
    refine ⟨n',xs[M pre]' A0,?_,λk hk=>?_⟩
    ·have hs:(pre.map P.cellsOf).sum=M pre*P.cellsOf e:=by rw [c2];simp
     rw [hs,ht',hg,DX]
    ·rw [ht'] at hk
     exact hwt k<|oZ hk (i:=M pre) yB
  ·rename_i e hu
   simp only [AY,Aa] at h;obtain ⟨⟨⟨h1,h2⟩,h4⟩,h3⟩:=h;simp only [hu,Option.map_eq_some_iff] at hty;obtain ⟨te,hte,rfl⟩:=hty;rw [hte] at h4;simp only [Option.any_some,AY,Aa,DJ] at h4;obtain ⟨h4,h5⟩:=h4;rcases DataW.trod_slice hu hx with ⟨rfl,_⟩ |⟨a,len,cap,elems,rest,n',_,rfl,rfl,hb,hlc,hm,hlen,hel,_,_⟩
   ·refine ⟨([]:List te.D),?_,⟨N5 _,AI⟩,λd hd=>VN⟩
    simp only [Bl,RL,R]
    grind
   ·simp only [DataW.weights,hu] at hwt
    have hroom:=hwt _<|List.mem_cons_self ..
    have each:∀i,∃d:te.D,i<len->∃c,w.cells? base (a.add<|i*P.cellsOf e) (P.cellsOf e)=ah c/\RL β Z w (Bl te d) c/\wfD te d:=λi=>by
     by_cases hi:i<len
     ·have he:=hel i hi
      rw [DX A0] at he;obtain ⟨c,hc,ht⟩:=Option.bind_eq_some_iff.1 he
      obtain ⟨d,l1,l2⟩:=dg hZ m e te h3 hte c ⟨n',_,ht,λk hk=>hwt k (by
       simp only [B7,Be];exact .inr<|.inl<|oZ hk (i:=i) yB)⟩
      exact ⟨d,λ_=>⟨c,hc,l1,l2⟩⟩
     ·exact ⟨te.dflt,λh=>absurd h hi⟩
    have ⟨g,hg⟩:=we each
    have hlg:M ((au len).map g)=len:=AI
    refine ⟨(au len).map g,?_,⟨by rw [hlg];omega,by rw [hlg];exact HU (Nat.mul_le_mul D4 h5) hroom⟩,λd hd=>?_⟩
    ·simp only [Bl,RL,R]
     refine ⟨_,[],rfl,⟨ah a,cap,by rw [hlg],by rw [hlg];omega,λhn=>?_⟩,rfl⟩
     rw [hlg] at hn;obtain ⟨c0,hc0,hr0,_⟩:=hg 0 hn;obtain ⟨_,hcl0,hat0⟩:=World.cells?_some hc0
     have hcell0:∃z,w.cell? ((a.add<|0*P.cellsOf e).add 0)=ah z:=by
      grind
     obtain ⟨z0,hz0⟩:=hcell0;obtain ⟨b,off,spot⟩:=a
     have hsp:spot=none:=by
      cases spot with
      |none=>rfl
      |some q=>
       unfold World.cell? at hz0;split at hz0
       ·simp [Addr.add] at hz0
       ·cases hz0
     subst hsp
     have hbl:b<w.heap.size:=by
      simp only [addr_add] at hz0;unfold World.cell? at hz0;split at hz0
      ·rename_i hh;exact (HR.1 hh).1
      ·cases hz0
     refine ⟨b,off,rfl,hZ b hbl,λi d hd=>?_⟩
     have hi:i<len:=by
      have:=(E6.1 hd).1
      rwa [hlg] at this
     have hdd:d=g i:=by
      rw [Dc,wZ hi] at hd
      simpa using hd.symm
     subst hdd;obtain ⟨c,hc,hr,_⟩:=hg i hi;obtain ⟨_,hcl,hat⟩:=World.cells?_some hc;refine uk te (g i) c b _ hr λj v hv=>?_
     have hj:j<P.cellsOf e:=by
      have:=(E6.1 hv).1
      omega
     have:=hat j hj
     rw [hv] at this;rw [h4]
     simpa [addr_add,HT] using this
    ·obtain ⟨i,hi,rfl⟩:=Em.1 hd
     obtain ⟨_,_,_,hw⟩:=hg i<|by simpa using hi
     exact hw
  ·cases h
def Jo (P:Program) (m:Nat) (t:TypeId) (l:List LV):Prop:=∃(ty:Ty) (d:ty.D),IJ P m t=ah ty/\l=Bl ty d/\wfD ty d
theorem sG {P:Program}{m:Nat}{t:TypeId}{l:List LV}{ty:Ty}(ht:IJ P m t=ah ty) (h:Jo P m t l):∃d:ty.D,l=Bl ty d/\wfD ty d:=by
 obtain ⟨ty',d,h1,h2,h3⟩:=h
 grind
def anQ {Z:Nat->Prop}(hZ:∀b,b<w.heap.size->Z b) (m:Nat) (t:TypeId) (hs:Lj P m t=U) (ht:(IJ P m t).isSome=U) (cs:List Value) (hg:Good enc P w base spare held t cs):∃l,RL β Z w l cs/\AR 0 l/\Jo P m t l:=by
 obtain ⟨ty,hty⟩:=ZA.1 ht;obtain ⟨d,h1,h2⟩:=dg (β:=β) hZ m t ty hs hty cs hg;exact ⟨Bl ty d,h1,NO 0 ty d,ty,d,hty,rfl,h2⟩
end Go.Sx
namespace Go.Sx
open Go Go.RowKit Go.Proofs.YtmlcgekfmlidcaaGreatDoor Go.ChangeShapes Go.WideShapes
variable {H : Type} {enc : TypeId × Value -> H} {P : Program} {β : Nat -> Loc} {Z : Nat -> Prop}
theorem adI (hl:laidOutB P=U) {W W':World}(hb:Below W.heap.size W W'):∀(ts:List TypeId) (vs:List Value) (ds:List<|DataW H) (ps:List MemPlace),ts.all (λt=>P.readableRec t&&an (t<P.types.size))=U->
  DataW.TrodAll enc P W 0 (λ_=>U) U ts vs ds ps->(∀x∈ps,x.block<W.heap.size)->DataW.TrodAll enc P W' 0 (λb=>an<|b<W.heap.size) U ts vs ds ps
 | [],vs,ds,ps,_,h,_=>by
  cases vs<;>cases ds<;>first|exact h|exact h.elim
 | t::ts,vs,ds,ps,hr,h,hlt=>by
  cases vs with
  |nil=>cases ds<;>exact h.elim
  | cons v vs=>
   cases ds with
   |nil=>exact h.elim
   |cons d ds=>
    obtain ⟨p,q,h1,h2,rfl⟩:=h;simp only [IW,AY,Aa] at hr;refine ⟨p,q,Below.trod hl hr.1.1 hr.1.2 h1 hb λx hx=>hlt x A8,?_,rfl⟩
    exact adI hl hb ts vs ds q A8 h2 λx hx=>hlt x A8
theorem anx {fn:Func}{s:ChangeSpec}{tb:TypeId}{apart:Bool}{W W':World}{args:Array Value}{ds gs:List<|DataW H}{before:List MemPlace}
  (hl:laidOutB P=U) (hr:fn.params.toList.all (λt=>P.readableRec t&&an (t<P.types.size))=U) (hres:fn.resultTypes=#[tb]) (hb:P.underlying tb=ah .bool) (hvars:s.vars=[])
  (hfn:(s.fn H ds).results=[.lit<|.bool U]/\(s.fn H ds).args=ds/\(s.fn H ds).vars=[])
  (hW:DataW.Whole enc P fn.params.toList s.vars apart W args.toList ds gs before) (hB:Below W.heap.size W W'):s.post enc P fn apart U X X W args (.bool U) W':=by
 have hW':=hW
 obtain ⟨p,q,hA,hV,rfl,hfz,hnd⟩:=hW
 have hg:gs=[]/\q=[]:=by
  rw [hvars] at hV;cases gs with
  |nil=>exact ⟨rfl,hV⟩
  |cons g r=>exact hV.elim
 obtain ⟨rfl,rfl⟩:=hg
 have hlt:∀x∈p,x.block<W.heap.size:=λx hx=>hW'.lt x A8
 refine ⟨ds,[],p++[],[],p,[],hW',?_,?_,?_,hB.frame _,λh=>An⟩
 ·rw [GF,hfn.1,hres]
  exact trodAll_mk1<|shut_bool hb U
 ·rw [GF,hfn.2.1]
  exact adI hl hB _ _ _ _ hr hA hlt
 ·rw [GF,hfn.2.2,hvars]
  rfl
def pLV (P:Program) (t:TypeId) (l:List LV):LV:=
 match P.underlying t with
 |some (.struct _)=>Jb l
 |some (.array _ _)=> .junk
 |_=>match l with
  | [x]=>x
  |_=> .junk
theorem cell_of {w:World}{b0:Nat}{r:Reach}{m:Nat}{t:TypeId}(hs:Lj P m t=U) {v:Value}(hv:Value.okWide P w r b0 t v) (h1:∀fs,P.underlying t=ah (.struct fs)->False) (h2:∀n e,P.underlying t=ah (.array n e)->False):v.cells.toList=[v]:=by
 cases m with
 |zero=>cases hs
 | succ m=>
  simp only [Lj] at hs;split at hs
  ·rename_i k hu
   obtain ⟨n,rfl⟩:=okWide_int hu hv;rfl
  ·rename_i hu
   obtain ⟨n,rfl⟩:=okWide_bool hu hv;rfl
  ·rename_i hu
   obtain ⟨n,rfl⟩:=okWide_string hu hv;rfl
  ·rename_i fs hu
   grind
  ·rename_i n e hu
   grind
  ·rename_i e hu
   obtain ⟨a,l,c,rfl⟩:=okWide_slice hu hv;rfl
  ·cases hs
theorem aej {w:World}{base b0:Nat}{spare:Nat->Bool}{held:Bool}{r:Reach}(hZ:∀b,b<w.heap.size->Z b) {m:Nat}{t:TypeId}(hs:Lj P m t=U) (ht:(IJ P m t).isSome=U) {v:Value}{d:DataW H}{p:List MemPlace}(hv:Value.okWide P w r b0 t v) (h:DataW.Trod enc P w base spare held t v d p) (hwt:∀k,k∈d.weights P t->k<=reachBytes):
  ∃l,okV 0 (pLV P t l)/\R β Z w (pLV P t l) v/\Jo P m t l:=by
 obtain ⟨fuel,hf⟩:=h;obtain ⟨l,h1,h2,h3⟩:=anQ (β:=β) hZ m t hs ht v.cells.toList ⟨fuel,_,hf,hwt⟩;refine ⟨l,?_,?_,h3⟩
 ·unfold pLV
  split
  ·exact Q9 h2
  ·trivial
  ·split
   ·exact h2.1
   ·trivial
 ·unfold pLV
  split
  ·rename_i fs hu
   obtain ⟨cs,rfl,_⟩:=okWide_struct hu hv;exact Vq h1
  ·exact Dp
  ·split
   ·rename_i x
    obtain ⟨y,zs,e1,e2,rfl⟩:=h1
    have hc:=cell_of hs hv A8 A8
    grind
   ·exact Dp
def Rr (P:Program):List TypeId->List (List LV)->List LV
 |t::ts,l::ls=>pLV P t l::Rr P ts ls
 |_,_=>[]
def Wx (P:Program) (m:Nat):List TypeId->List (List LV)->Prop
 | [],ls=>ls=[]
 |t::ts,ls=>∃l r,ls=l::r/\Jo P m t l/\Wx P m ts r
theorem adg {w:World}{base b0:Nat}{spare:Nat->Bool}{held:Bool}{r:Reach}(hZ:∀b,b<w.heap.size->Z b) {m:Nat}:∀(ts:List TypeId) (vs:List Value) (ds:List<|DataW H) (ps:List MemPlace),ts.all (λt=>Lj P m t&&(IJ P m t).isSome)=U->
  (∀(j:Nat) t v,ts[j]? =ah t->vs[j]? =ah v->Value.okWide P w r b0 t v)->DataW.TrodAll enc P w base spare held ts vs ds ps->(∀k,k∈DataW.weightsEach P ts ds->k<=reachBytes)->∃ls,AR 0 (Rr P ts ls)/\RL β Z w (Rr P ts ls) vs/\Wx P m ts ls
 | [],vs,ds,ps,_,_,h,_=>by
  cases vs with
  |nil=>exact ⟨[],ak,by simp [Rr,RL],rfl⟩
  |cons _ _=>cases ds<;>exact h.elim
 | t::ts,vs,ds,ps,hs,hv,h,hwt=>by
  cases vs with
  |nil=>cases ds<;>exact h.elim
  | cons v vs=>
   cases ds with
   |nil=>exact h.elim
   |cons d ds=>
    obtain ⟨p,q,h1,h2,rfl⟩:=h;simp only [IW,AY] at hs;simp only [DataW.weightsEach,Be] at hwt;obtain ⟨l,a1,a2,a3⟩:=aej (β:=β) hZ hs.1.1 hs.1.2 (hv 0 t v rfl rfl) h1 λk hk=>hwt k<|.inl hk
    obtain ⟨ls,b1,b2,b3⟩:=adg hZ ts vs ds q hs.2 (λj t' v' e1 e2=>hv (j+1) t' v' A8 A8) h2 λk hk=>hwt k<|.inr hk
    exact ⟨l::ls,⟨a1,b1⟩,⟨v,vs,rfl,a2,b2⟩,l,ls,rfl,a3,b3⟩
theorem aeD {G:B0}{f:FuncId}{fn:Func}{S:List LV->T LV}{s:ChangeSpec}{tb:TypeId}{apart:Bool}{m:Nat}{W:World}{base:Nat}{args:Array Value}{ds gs:List<|DataW H}{before:List MemPlace}
  (hv:Valid P G f S) (hl:laidOutB P=U) (hr:fn.params.toList.all (λt=>P.readableRec t&&an (t<P.types.size))=U) (hres:fn.resultTypes=#[tb]) (hb:P.underlying tb=ah .bool) (hvars:s.vars=[])
  (hfn:(s.fn H ds).results=[.lit<|.bool U]/\(s.fn H ds).args=ds/\(s.fn H ds).vars=[]) (hs:fn.params.toList.all (λt=>Lj P m t&&(IJ P m t).isSome)=U)
  (hS:∀ls,Wx P m fn.params.toList ls->(S<|Rr P fn.params.toList ls).all (λx=>x=.v (.bool U)))
  (hg:PW G (λb=>b<W.heap.size) W)
  (hval:∀(j:Nat) t v,fn.params[j]? =ah t->args[j]? =ah v->Value.okWide P W .any base t v)
  (hW:DataW.Whole enc P fn.params.toList s.vars apart W args.toList ds gs before) {us:List TypeId} (hz:(DataW.weightsEach P (fn.params.toList++us)<|ds++gs).all (·<=reachBytes)=U):
  Calls P f args W λe W'=>∃v,e=.returned v/\s.post enc P fn apart U X X W args v W':=by
 have hA:∃p,DataW.TrodAll enc P W 0 (λ_=>U) U fn.params.toList args.toList ds p:=by
  obtain ⟨p,q,hA,_⟩:=hW
  grind
 obtain ⟨p,hA⟩:=hA;obtain ⟨ls,h1,h2,h3⟩:=adg (β:=β0) (Z:=λb=>b<W.heap.size) (λ_ h=>h) fn.params.toList args.toList ds p hs (λj t v e1 e2=>hval j t v A8 A8) hA λk hk=>DY<|BH.1 hz k<|aDa (adi hA) k hk
 refine (hv _ args W _ _ (λ_ h=>h) hg h1 h2<|hS ls h3).mono λe W' ⟨hB,v,he,_,hR⟩=>⟨v,he,?_⟩
 rw [hR];exact anx hl hr hres hb hvars hfn hW hB
end Go.Sx
namespace Go.Sx
open Go Go.RowKit Go.Proofs.YtmlcgekfmlidcaaGreatDoor
variable {H : Type} {enc : TypeId × Value -> H} {P : Program} {w : World} {base : Nat} {spare : Nat -> Bool} {held : Bool}
def P7 {H:Type}:Nat->DataW H->List Value
 |0,_=>[]
 |_+1,.lit (.int k n)=>[Y k n]
 |_+1,.lit (.bool b)=>[.bool b]
 |m+1,.agg l=>l.flatMap (P7 m)
 |_,_=>[]
def WW (P:Program):Nat->TypeId->Bool
 |0,_=>X
 |m+1,t=>match P.underlying t with
  |some (.int _) |some .bool=>U
  |some (.struct fs)=>WM P 0 fs.toList&&an (P.cellsOf t=((fs.toList.map (·.type)).map P.cellsOf).sum)&&fs.toList.all (λf=>WW P m f.type)
  |some (.array n e)=>an (P.cellsOf t=((aq n e).map P.cellsOf).sum)&&WW P m e
  |_=>X
theorem pM {sz:TypeId->Nat}{g:DataW H->List Value}{Tr:TypeId->List Value->DataW H->Prop}:∀(ts:List TypeId) (cs:List Value) (ds:List<|DataW H),
  (∀t∈ts,∀c d,Tr t c d->g d=c)->M ds=M ts->M cs=(ts.map sz).sum->(∀pre t post,ts=pre++t::post->∃d,ds[M pre]? =ah d/\Tr t ((cs.drop (pre.map sz).sum).take<|sz t) d)->ds.flatMap g=cs
 | [],cs,ds,_,h0,hl,_=>by
  grind
 |t::ts,cs,[],_,h0,_,_=>A8
 | t::ts,cs,d::ds,ih,h0,hl,hg=>by
  obtain ⟨d',e1,e2⟩:=hg [] t ts rfl
  simp at e1
  subst e1
  have r:=pM (sz:=sz) (g:=g) (Tr:=Tr) ts (cs.drop<|sz t) ds (λt' ht=>ih t' A8) A8 A8 (λpre t' post e=>by
   obtain ⟨q,q1,q2⟩:=hg (t::pre) t' post A8;refine ⟨q,A8,?_⟩
   simpa using q2)
  rw [kG,r,ih t AI _ _ e2]
  simp
theorem qa:∀(m:Nat) (t:TypeId),WW P m t=U->∀(n:Nat) (cs:List Value) (x:DataW H×List MemPlace),DataW.trod enc P w base spare held n t cs=ah x->P7 m x.1=cs
 |0,t,h,_,_,_,_=>An
 | m +1,t,h,n,cs,x,hx=>by
  simp only [WW] at h;split at h
  ·rename_i k hu
   obtain ⟨z,rfl,rfl,hw⟩:=DataW.trod_int hu hx;rfl
  ·rename_i hu
   obtain ⟨z,rfl,rfl⟩:=DataW.trod_bool hu hx;rfl
  ·rename_i fs hu
   simp only [AY,Aa,BH] at h;obtain ⟨⟨h1,h2⟩,h3⟩:=h;obtain ⟨xs,n',_,rfl,hl,hxl,hf⟩:=DataW.trod_struct hu hx;simp only [P7];refine pM (sz:=P.cellsOf) (Tr:=λt c d=>∃y,DataW.trod enc P w base spare held n' t c=ah y/\y.1=d) (fs.toList.map (·.type)) cs _ (λt' ht c d hc=>?_) (by simp [hxl]) ln λpre t' post e=>?_
   ·obtain ⟨f,hf1,rfl⟩:=Em.1 ht
    obtain ⟨y,hy,rfl⟩:=hc;exact qa m f.type (h3 f hf1) n' c y hy
   ·obtain ⟨fpre,frest,e1,e2,e3⟩:=List.map_eq_append_iff.1 e
    obtain ⟨f,fpost,rfl,e4,e5⟩:=List.map_eq_cons_iff.1 e3
    have ho:=qR fs.toList 0 h1 fpre f fpost e1
    have hi:fs[M fpre]? =ah f:=by
     exact aMR
    have hg:=hf _ f hi
    have hlt:M fpre<fs.size:=(HR.1 hi).1
    refine ⟨(xs[M fpre]' A0).1,?_,xs[M fpre]' A0,?_,rfl⟩
    ·grind
    ·grind
  ·rename_i n0 e hu
   simp only [AY,Aa] at h;obtain ⟨h2,h3⟩:=h;obtain ⟨xs,n',_,rfl,hl,hxl,hf⟩:=DataW.trod_array hu hx;simp only [P7];refine pM (sz:=P.cellsOf) (Tr:=λt c d=>∃y,DataW.trod enc P w base spare held n' t c=ah y/\y.1=d) (aq n0 e) cs _ (λt' ht c d hc=>?_) (by simp [hxl]) ln λpre t' post e'=>?_
   ·rw [(SQ.1 ht).2] at hc
    obtain ⟨y,hy,rfl⟩:=hc;exact qa m e h3 n' c y hy
   ·obtain ⟨c1,c2,c3⟩:=aKg.1 e'
    have ht':t'=e:=by
     grind
    have hlen:M pre<n0:=by
     have:=Az M e'
     simp at this;omega
    have hs:(pre.map P.cellsOf).sum=M pre*P.cellsOf e:=by rw [c2];simp
    refine ⟨(xs[M pre]' A0).1,?_,xs[M pre]' A0,?_,rfl⟩
    ·grind
    ·grind
  ·cases h
theorem ae4 {W:World}{name:String}{d:DataW Unit}{rest:List<|String×DataW Unit}{g:Nat}{t:TypeId}{m:Nat}(hg:P.globalNamed name=ah g) (hty:(P.globals[g]?).map (·.type)=ah t) (hp:WW P m t=U)
  (h:laidMet P ((name,d)::rest) W):(∀i,W.cell? ⟨g,i,aj⟩=(P7 m d)[i]?)/\((P7 m d)≠ []->g<W.heap.size):=by
 obtain ⟨ps,⟨g',t',cs,fuel,p,q,hg',ht',hvar,hd,_,_⟩,_⟩:=h;obtain rfl:=E5<|hg.symm.trans hg';obtain rfl:=E5<|hty.symm.trans ht'
 have hf:=qa m t hp fuel _ _ hd
 have hcell:∀i,W.cell? ⟨g,i,aj⟩=(P7 m d)[i]? :=λi=>by
  rw [World.var?_cell hg hvar i,hf];simp
 refine ⟨hcell,λhne=>?_⟩
 have h0:=hcell 0
 cases hh:(P7 m d)[0]? with
 |none=>exact absurd (List.getElem?_eq_none_iff.1 hh) A8
 |some z=>
  rw [hh] at h0;unfold World.cell? at h0;split at h0
  ·grind
  ·cases h0
end Go.Sx
namespace Go.Proofs.YtmlcgekfmlidcaaGreatDoor
set_option maxRecDepth 100000
set_option maxHeartbeats 4000000
open Go.Proofs.Tryz
open Go.Sx Go.ChangeShapes Go.WideShapes Go.ChangeAt Go.RowKit
def own:ownKnob prog.godebug=none:=AT
def laidOut:laidOutB prog=true:=AT
def aCl {P:Program}{x:String×DataW Unit}{r:List<|String×DataW Unit}{W:World}(h:laidMet P (x::r) W):laidMet P r W:=by
 obtain ⟨n,d⟩:=x;obtain ⟨ps,⟨g,t,cs,fuel,p,q,h1,h2,h3,h4,h5,rfl⟩,hn,hm⟩:=h;exact ⟨q,h5,(xH.1 hn).2.1,λb off hb=>hm b off<|List.mem_append_right _ hb⟩
def uJ {W:World}{name:String}{d:DataW Unit}{rest:List<|String×DataW Unit}{g:Nat}{t:TypeId}{n:Nat}{f:Nat->Value}(hg:prog.globalNamed name=ah g) (hty:(prog.globals[g]?).map (·.type)=ah t) (hp:WW prog 4 t=U) (h:laidMet prog ((name,d)::rest) W) (key:P7 4 d=(au<|n+1).map f):g<W.heap.size/\∀j,j<n+1->W.cell? ⟨g,j,aj⟩=ah (f j):=by
 obtain ⟨h1,h2⟩:=ae4 (m:=4) hg hty hp h;refine ⟨h2 (by rw [key];intro h0;exact absurd (Az M h0) AI),λj hj=>?_⟩
 rw [h1 j,key,Dc,wZ hj];rfl
def ant {W:World}(h:laidMetH prog [("chargepark/charger.afterwards",Rows.laid_chargepark_charger_afterwards),("chargepark/ramp.happens",Rows.laid_chargepark_ramp_happens),("chargepark/vault.widths",Rows.laid_chargepark_vault_widths)] W):PW AU (λb=>b<W.heap.size) W:=by
 have h:laidMet prog [("chargepark/charger.afterwards",Rows.laid_chargepark_charger_afterwards),("chargepark/ramp.happens",Rows.laid_chargepark_ramp_happens),("chargepark/vault.widths",Rows.laid_chargepark_vault_widths)] W:=h
 have a1:=uJ (t:=229) (n:=59) (f:=λj=> Y J<|Wc j) (g:=0) AT AT AT h AT
 have a2:=uJ (t:=269) (n:=7) (f:=λj=> Y J<|Ua j) (g:=2) AT AT AT (aCl h) AT
 have a3:=uJ (t:=238) (n:=4) (f:=λj=> Y J<|aBM j) (g:=1) AT AT AT (aCl<|aCl h) AT
 intro g n f hg;unfold AU at hg;split at hg
 ·cases hg;exact a2
 ·cases hg;exact a1
 ·cases hg;exact a3
 ·cases hg
def aDo {H:Type}{enc:TypeId×Value->H}{P:Program}{w:World}{base:Nat}{spare:Nat->Bool}{held:Bool}:∀ {ts:List TypeId}{vs:List Value}{ds:List<|DataW H}{ps:List MemPlace},DataW.TrodAll enc P w base spare held ts vs ds ps->M ds=M ts
 | [],[],[],_,_=>rfl
 | [],_::_,_,_,h=>An
 | [],[],_::_,_,h=>An
 |_::_,[],_,_,h=>An
 |_::_,_::_,[],_,h=>An
 |_::_,_::_,_::_,_,h=>by
  obtain ⟨_,_,_,h2,_⟩:=h
  simp [aDo h2]
def put (vs:Array Value):Obj->Obj
 | .cells _ t frozen=> .cells vs t frozen
 |o=>o
def laidWorld (os:Os):World:=
 {World.holding prog os ⟨#[],#[],[]⟩ with heap:=(((World.holding prog os ⟨#[],#[],[]⟩).heap.modify 2<|put ((au 8).map λj=> Y J<|Ua j).toArray).modify 0<|put ((au 60).map λj=> Y J<|Wc j).toArray).modify 1<|put ((au 5).map λj=> Y J<|aBM j).toArray}
namespace ParkTargets
def opened (ls:List<|List LV) (h:Wx prog 8 f3.params.toList ls):(ace<|Rr prog f3.params.toList ls).all (λx=>x=.v (.bool U)):=by
 rw [Tryz.params3] at h|-;simp only [Wx] at h;obtain ⟨l0,_,rfl,h0,l1,_,rfl,h1,l2,_,rfl,h2,rfl⟩:=h;obtain ⟨d0,rfl,w0⟩:=sG (ty:=(.pair (.sl Ad)<|.pair (.sl .str)<|.pair (.sl Ah)<|.pair (.sl Af)<|.sl Ai)) AT h0;obtain ⟨d1,rfl,w1⟩:=sG (ty:=(.sl<|.int J)) AT h1;obtain ⟨d2,rfl,w2⟩:=sG (ty:=(.sl<|.pair (.int aw)<|.pair (.int aw)<|.pair (.int .u16)<|.pair AP As)) AT h2;simp only [Rr,pLV,Tryz.underlying30,Tryz.underlying29,Tryz.underlying28];refine aDx (t':=T.ok<|LV.v<|Value.bool U) AT ?_;exact rfl
def contract (H:Type) (enc:TypeId×Value->H) (W:World) (base:Nat) (args:Array Value) (ds gs:List<|DataW H) (before:List MemPlace)
  (hval:∀(j:Nat) t v,f3.params[j]? =ah t->args[j]? =ah v->Value.okWide prog W .any base t v)
  (hW:DataW.Whole enc prog f3.params.toList Rows.parkTargetsSpec.vars X W args.toList ds gs before) (hL:laidMetH prog Rows.parkTargetsRow.laid W) {us:List TypeId} (hz:(DataW.weightsEach prog (f3.params.toList++us)<|ds++gs).all (·<=reachBytes)=U):
  Calls prog 3 args W λe W'=>∃v,e=.returned v/\Rows.parkTargetsSpec.post enc prog f3 X U X X W args v W':=by
 refine aeD (m:=8) (tb:=4) aj7 laidOut AT AT Tryz.underlying4 rfl ?_ AT opened (ant hL) hval hW hz;obtain ⟨p,q,hA,_⟩:=hW
 have hl:=aDo hA
 rw [Tryz.params3] at hl
 match ds,hl with
 | [_,_,_],_=>exact ⟨rfl,rfl,rfl⟩
def laid_met (os:Os):laidMet prog Rows.parkTargetsRow.laid ((laidWorld os).forCall (λ_ _=>0) ⟨#[],#[.agg #[.slice aj 0 0,.slice aj 0 0,.slice aj 0 0,.slice aj 0 0,.slice aj 0 0],.slice aj 0 0,.slice aj 0 0],[]⟩).memory:=
 laidMet_of_run' 8 AT AT
def reads (os:Os) {H:Type}(enc:TypeId×Value->H):∃places,DataW.whole enc prog ((laidWorld os).forCall (λ_ _=>0) ⟨#[],#[.agg #[.slice aj 0 0,.slice aj 0 0,.slice aj 0 0,.slice aj 0 0,.slice aj 0 0],.slice aj 0 0,.slice aj 0 0],[]⟩).memory f3.params.toList Rows.parkTargetsSpec.vars X #[.agg #[.slice aj 0 0,.slice aj 0 0,.slice aj 0 0,.slice aj 0 0,.slice aj 0 0],.slice aj 0 0,.slice aj 0 0].toList 8=ah ([.agg [.nil,.nil,.nil,.nil,.nil],.nil,.nil],[],places):=
 ⟨[],AT⟩
def lifted (os:Os) (started:os.Started) (H:Type) (enc:TypeId×Value->H) (F:Stop.Interp):
  ReturnsInHanded {} Tryz.checked os 3 .any ((OpenSpec.ofChange Rows.parkTargetsSpec).preRow enc prog f3 Rows.parkTargetsRow.domain X Rows.parkTargetsRow.laid) (((OpenSpec.ofChange Rows.parkTargetsSpec).at F).post enc prog f3 X U X X):=by
 obtain ⟨places,hx⟩:=reads os enc
 refine returnsInHanded_of_row (C:=Tryz.checked) (s:=OpenSpec.ofChange Rows.parkTargetsSpec) own started AT func3
  (witness_row_at (enc:=enc) (C:=Tryz.checked) X (laidWorld os) #[.agg #[.slice aj 0 0,.slice aj 0 0,.slice aj 0 0,.slice aj 0 0,.slice aj 0 0],.slice aj 0 0,.slice aj 0 0] rfl AT AT AT
   (OpenSpec.preRow_of_cond 8 hx AT (λk hk=>by cases hk) AT<|laid_met os)) ?_
 intro W base args ds gs before hval hW _ _ hz hL _ _;exact contract H enc W base args ds gs before hval hW hL hz
def said:Rows.ParkTargetsSaid:=
 OpenClaim.holds_of_cond 3 f3 rfl rfl rfl rfl rfl rfl rfl ⟨rfl,rfl,rfl,rfl,rfl⟩ rfl rfl rfl rfl rfl AT func3 AT
  (DY AT) (by unfold Func.isWrapper;first|(rw [AD<|by decide+kernel];kernel_rfl) |(rw [AE<|by decide+kernel];exact ⟨rfl,rfl⟩))
  (λos started H enc _ F=>by rw [OpenClaim.pre_eq_preRow];exact lifted os started H enc F)
def plain (f:FuncId) (fn:Func) (hf:Tryz.pinned.checked.prog.funcNamed "chargepark/chargeparklaw44.ParkTargets"=ah f) (hfn:Tryz.pinned.checked.prog.funcs[f]? =ah fn):
  U=Tryz.pinned.checked.prog.looks []/\∀(j:Nat) t,fn.params[j]? =ah t->Tryz.pinned.checked.prog.wantsStandIn t=false:=by
 obtain rfl:f=3:=E5 ((show prog.funcNamed "chargepark/chargeparklaw44.ParkTargets"=ah 3 by kernel_rfl).symm.trans hf) |>.symm
 obtain rfl:fn=f3:=(E5<|func3.symm.trans hfn).symm;refine ⟨AT,λj t ht=>?_⟩
 have h:f3.params.toList.all (λt=>!prog.wantsStandIn t)=true:=AT
 have:=BH.1 h t<|by simpa using Array.mem_of_getElem? ht
 show prog.wantsStandIn t=X
 simpa using this
def card:Rows.ParkTargetsCardSaid:=
 Claim7.holds_tied_plain_at .later [] _ _ _ _ said (λ_ h=>An) AT (λ_ h=>An) parkTargets_row_tie rfl ⟨rfl,rfl⟩ AT rfl plain AT
end ParkTargets
theorem parkTargets_card:Rows.ParkTargetsCardSaid:=ParkTargets.card
end Go.Proofs.YtmlcgekfmlidcaaGreatDoor
end
