/- TopDoubledMessages: messages with leases that are lost, doubled, delayed and put in any order exceed no limit. -/
import Derived.Test.YtepoohnehmfflaaGreatDoorQx5
set_option linter.defProp false
set_option linter.unusedVariables false
set_option linter.unusedSimpArgs false
noncomputable section
open List renaming length→M,length→aa,replicate→au,range→av
open Bool renaming true→U,true→ae,false→X,false→af
open Go.Value renaming int→ah
open Option renaming some→ai,none→ak
open Go.IntKind renaming i64→J,i64→aj,u8→ax,u32→ay
open True renaming intro→an
open Decidable renaming decide→aq
open ByteArray renaming mk→aw
open Go.Region renaming ready→az,wanted→aA
open Go.Instr renaming findNow→aB
namespace Go.Proofs.YtepoohnehmfflaaGreatDoor
set_option maxRecDepth 100000
set_option maxHeartbeats 4000000
open Go.Proofs.Tryz
open Go.Sx
def opE (p:PK) (x1 x2 x3 y1 y2 y3 y4 y5:Y) (z1:aN) (z2 z3 z4:Y):EW:=
 if x1.tmod 14=6\/x1.tmod 14=7 then ⟨2,opN x2<|M p.ca,0,y1,y2,y3,y4,y5,z1,z2,z3,z4⟩
 else if x1.tmod 14=8 then ⟨3,opN x2<|M p.ca,0,0,0,0,0,0,X,0,0,0⟩
 else if x1.tmod 14=9 then ⟨4,opN x2<|M p.ca,0,0,0,0,0,0,X,0,0,0⟩
 else if x1.tmod 14=10 then ⟨5,0,0,0,0,0,0,0,X,0,0,0⟩
 else if x1.tmod 14=11 then ⟨6,0,0,0,0,0,0,0,X,0,0,0⟩
 else if x1.tmod 14=12 then ⟨7,opN x2<|M p.ca,0,0,0,0,0,0,X,0,0,0⟩
 else if x1.tmod 14=13 then ⟨8,opN x2<|M p.tg,(AA x3).tmod 100,0,0,0,0,0,X,0,0,0⟩
 else ⟨1,0,0,0,0,0,0,0,X,0,0,0⟩
def opT (x1 x3:Y):Y:=if 6<=x1.tmod 14/\x1.tmod 14<=13 then 1 else AA (1+(AA x3).tmod 12)
def aTu:aE->T LV
 | [x_p,.v (.agg ⟨[ah ax x1,ah ax x2,ah .u16 x3,ah J y1,ah J y2,ah J y3,ah J y4,ah J y5,.bool z1,ah J z2,ah J z3,ah J z4]⟩)]=>(match cP x_p with
  |some p=> .tu #[opE p x1 x2 x3 y1 y2 y3 y4 y5 z1 z2 z3 z4,opT x1 x3]
  |none=> .no)
 |_=> .no
def aSu:aO:=[]
def agy (p:PK) (x1 x2 x3 y1 y2 y3 y4 y5:Y) (z1:aN) (z2 z3 z4:Y):letI a:=x1.tmod 14;letI c:=(M p.tg:Y);letI d:=(AA x3).tmod 100;letI e:=(M p.ca:Y);letI f:=AA<|1+((AA x3).tmod 12);letI b:=(AA x2).tmod e;Bu prog AU (aSu) kN Ap f7 [p,.v<|.agg #[ah ax x1,ah ax x2,ah .u16 x3,y1,y2,y3,y4,y5,z1,z2,z3,z4]]=.br (aq<|e>0) (.req (e≠0)<|.req ((14:Y)≠0)<|.br (a==6) (.tu #[.agg #[(2:Y),b,(0:Y),y1,y2,y3,y4,y5,z1,z2,z3,z4],(1:Y)])<|.br (a==7) (.tu #[.agg #[(2:Y),b,(0:Y),y1,y2,y3,y4,y5,z1,z2,z3,z4],(1:Y)])<|.br (a==8) (.tu #[.agg #[(3:Y),b,(0:Y),(0:Y),(0:Y),(0:Y),(0:Y),(0:Y),X,(0:Y),(0:Y),(0:Y)],(1:Y)])<|.br (a==9) (.tu #[.agg #[(4:Y),b,(0:Y),(0:Y),(0:Y),(0:Y),(0:Y),(0:Y),X,(0:Y),(0:Y),(0:Y)],(1:Y)])<|.br (a==10) (.tu #[.agg #[(5:Y),(0:Y),(0:Y),(0:Y),(0:Y),(0:Y),(0:Y),(0:Y),X,(0:Y),(0:Y),(0:Y)],(1:Y)])<|.br (a==11) (.tu #[.agg #[(6:Y),(0:Y),(0:Y),(0:Y),(0:Y),(0:Y),(0:Y),(0:Y),X,(0:Y),(0:Y),(0:Y)],(1:Y)])<|.br (a==12) (.tu #[.agg #[(7:Y),b,(0:Y),(0:Y),(0:Y),(0:Y),(0:Y),(0:Y),X,(0:Y),(0:Y),(0:Y)],(1:Y)])<|.br (a==13) (.br (aq<|c>0) (.req (c≠0)<|.req ((100:Y)≠0)<|.tu #[.agg #[(8:Y),(AA x2).tmod c,d,(0:Y),(0:Y),(0:Y),(0:Y),(0:Y),X,(0:Y),(0:Y),(0:Y)],(1:Y)])<|.req ((100:Y)≠0)<|.tu #[.agg #[(8:Y),(0:Y),d,(0:Y),(0:Y),(0:Y),(0:Y),(0:Y),X,(0:Y),(0:Y),(0:Y)],(1:Y)])<|.req ((12:Y)≠0)<|.tu #[.agg #[(1:Y),(0:Y),(0:Y),(0:Y),(0:Y),(0:Y),(0:Y),(0:Y),X,(0:Y),(0:Y),(0:Y)],f]) (.req ((14:Y)≠0)<|.br (a==6) (.tu #[.agg #[(2:Y),(0:Y),(0:Y),y1,y2,y3,y4,y5,z1,z2,z3,z4],(1:Y)])<|.br (a==7) (.tu #[.agg #[(2:Y),(0:Y),(0:Y),y1,y2,y3,y4,y5,z1,z2,z3,z4],(1:Y)])<|.br (a==8) (.tu #[.agg #[(3:Y),(0:Y),(0:Y),(0:Y),(0:Y),(0:Y),(0:Y),(0:Y),X,(0:Y),(0:Y),(0:Y)],(1:Y)])<|.br (a==9) (.tu #[.agg #[(4:Y),(0:Y),(0:Y),(0:Y),(0:Y),(0:Y),(0:Y),(0:Y),X,(0:Y),(0:Y),(0:Y)],(1:Y)])<|.br (a==10) (.tu #[.agg #[(5:Y),(0:Y),(0:Y),(0:Y),(0:Y),(0:Y),(0:Y),(0:Y),X,(0:Y),(0:Y),(0:Y)],(1:Y)])<|.br (a==11) (.tu #[.agg #[(6:Y),(0:Y),(0:Y),(0:Y),(0:Y),(0:Y),(0:Y),(0:Y),X,(0:Y),(0:Y),(0:Y)],(1:Y)])<|.br (a==12) (.tu #[.agg #[(7:Y),(0:Y),(0:Y),(0:Y),(0:Y),(0:Y),(0:Y),(0:Y),X,(0:Y),(0:Y),(0:Y)],(1:Y)])<|.br (a==13) (.br (aq<|c>0) (.req (c≠0)<|.req ((100:Y)≠0)<|.tu #[.agg #[(8:Y),(AA x2).tmod c,d,(0:Y),(0:Y),(0:Y),(0:Y),(0:Y),X,(0:Y),(0:Y),(0:Y)],(1:Y)])<|.req ((100:Y)≠0)<|.tu #[.agg #[(8:Y),(0:Y),d,(0:Y),(0:Y),(0:Y),(0:Y),(0:Y),X,(0:Y),(0:Y),(0:Y)],(1:Y)])<|.req ((12:Y)≠0)<|.tu #[.agg #[(1:Y),(0:Y),(0:Y),(0:Y),(0:Y),(0:Y),(0:Y),(0:Y),X,(0:Y),(0:Y),(0:Y)],f]):=AX
def zn:=vo (S:=aTu) func7 aSu kN (λargs lv h=>by
 refine ⟨?_⟩;unfold aTu at h;split at h
 ·split at h
  case h_2=>cases h
  rename_i p hp;obtain rfl:=sJ hp;simp only [canL,canX];rw [agy];obtain rfl:=h
  repeat' (first|(refine And.intro (λc=>?_) λc=>?_) |(refine And.intro A8 ?_))
  all_goals simp_all [T.all,opE,opT,opN]
  all_goals omega
 ·cases h)
def aqr {p:PK}(hJ:JP p) {ev:EW}(h1:ev.ek=1) (h2:p.tk<=1000):Bk p ev.ev=0:=by
 rw [(aD9 (W2.2 hJ.1.1) h1).1];exact AE A0
def aIi {p:PK}(hJ:JP p) {ev:EW}(he:Bk p ev.ev=0):(BA p ev.ev).tk=p.tk\/(ev.ek=1/\(BA p ev.ev).tk=p.tk+1):=by
 have hv:=W2.2 hJ.1.1
 by_cases c1:ev.ek=1
 ·obtain ⟨a,b⟩:=aD9 hv c1
  rw [(b<|a.symm.trans he).1];exact .inr ⟨c1,aOu⟩
 left
 by_cases c2:ev.ek=2
 ·obtain ⟨a,b⟩:=aLf hv c2;rw [(b<|a.symm.trans he).1];rfl
 by_cases c3:ev.ek=3
 ·obtain ⟨a,b⟩:=aLe hv c3;rw [(b<|a.symm.trans he).1];rfl
 by_cases c4:ev.ek=4
 ·obtain ⟨a,b⟩:=aLd hv c4;rw [(b<|a.symm.trans he).1];rfl
 by_cases c5:ev.ek=5
 ·obtain ⟨a,b⟩:=aLc hv c5;rw [(b<|a.symm.trans he).1];rfl
 by_cases c6:ev.ek=6
 ·obtain ⟨a,b⟩:=aLb hv c6;rw [(b<|a.symm.trans he).1];rfl
 by_cases c7:ev.ek=7
 ·obtain ⟨a,b⟩:=aLa hv c7;rw [(b<|a.symm.trans he).1];rfl
 by_cases c8:ev.ek=8
 ·obtain ⟨a,b⟩:=aLZ hv c8;rw [(b<|a.symm.trans he).1];rfl
 ·rw [aLY hv ⟨c1,c2,c3,c4,c5,c6,c7,c8⟩] at he
  cases he
def azK (x1 x3:Y):opT x1 x3<=12:=by
 unfold opT;split
 ·decide
 ·have h1:=Int.tmod_lt_of_pos (AA x3) (show (0:Y)<12 by decide)
  have h2:=Int.lt_tmod_of_pos (AA x3) (show (0:Y)<12 by decide)
  rw [AJ];omega
def TmO (x:Int×Int×Int×Le×Dm):Prop:=x.1.tmod 14≠12/\x.2.2.2.1.1≠4
def TmE (e:EW):Prop:=e.ek≠7/\e.c1≠4
def azL {p:PK}{x1 x2 x3 y1 y2 y3 y4 y5:Y}{z1:aN}{z2 z3 z4:Y}(h1:x1.tmod 14≠12) (h2:y1≠4):TmE (opE p x1 x2 x3 y1 y2 y3 y4 y5 z1 z2 z3 z4):=by
 unfold opE TmE;rw [AE h1]
 repeat' split
 all_goals simp [h2]
def ah5 {cs:aL}{os:aF}{ks:aR}{gs:aG}{bs:aS}{dr:aC}(h:H3 cs os ks gs bs dr=0):FI (newP cs os ks gs bs dr):=by
 have hp:newP cs os ks gs bs dr=_:=AE zd
 rw [hp];refine ⟨⟨Cf,λj j0 j1=>?_⟩,λl hl=>(by cases hl),λc hc=>by rw [List.eq_of_mem_replicate hc];decide⟩
 have e:BL (au (M gs) ((0,0,0,X):St)) j=(0,0,0,X):=by
  unfold BL;rw [DK,V9];split<;>rfl
 simp only [e]
 have hc:=NT (by have:=(tj h).1.site;rw [hp] at this;exact this) j0 j1
 unfold G4 chW at hc;simp only [AV,Cc,Cy,BO] at hc;exact ⟨Ma.2 ⟨Wg.2 A0,Ac,(by decide:(0:Y)<=5),Ac,(by decide:(0:Y)<=1000000),Ac,by show (0:Y)<=(AG gs j).2.2.2.2.1;omega,λ_=>rfl,λe=>Og⟩,rfl,(by decide:(0:Y)<=12)⟩
def ah4 {cs:aL}{os:aF}{ks:aR}{gs:aG}{bs:aS}{dr:aC}(h:H3 cs os ks gs bs dr=0):LM (newP cs os ks gs bs dr):=by
 have hJ:=XA h
 have hg:=aSf h
 have hf:=ah5 h
 have hx:=ah3 h
 have htk:(newP cs os ks gs bs dr).tk=0:=by
  have hp:newP cs os ks gs bs dr=_:=AE zd
  rw [hp]
 generalize newP cs os ks gs bs dr=p at*
 have hv:=hJ.1.1
 obtain ⟨k,v1,v2⟩:=hg.vl
 have e:Aj p.se p.fl=[]:=mT.2 λx hx'=>by
  have a1:=(v2 x hx').2.1
  have a2:=(hg.v23 x hx').1
  omega
 refine ⟨hf,hg,hx,?_⟩
 have hs:=j9 hv
 have hl:M (Bq p.gs)=M p.gs:=IU
 rw [e];refine Qq hs hv.site (aTI hv) (λk hk=>fH hs A0) (λk hk=>⟨(IW hs rfl A0 A0).1,?_⟩) hg.kt
 have h0:=fH hs (k:=k) A0
 have e1:gi (Bq p.gs) k=CY (AG p.gs k):=NO A0 A0
 have e2:gi (GQ (M p.gs) [] p.tk) k=0:=Jv
 rw [Qp A0 A0,e1,e2];rw [e1] at h0;unfold mx;split<;>omega
variable {p : PK} {sent : List Le}
def PK.CR (p:PK) (a:Y) (y:Le):PK:={p with lk:=p.lk++[(a,y)]}
structure DM (p:PK) (sent:aM):Prop where
 lm:LM p
 se:∀y∈sent,(TL (M p.gs) p.tk y/\0<=y.2.2.2.1)/\(DF y>p.tk->y∈Aj p.se p.fl)
def DM.add (h:DM p sent) (hJ:JP p) {y:Le}(hy:y∈sent) {a:Y}(h1:p.tk<=a) (h2:a<=y.2.2.2.1+10) (hn:(M p.lk:Y)+1<=16*p.tk+5000):JP (p.CR a y)/\DM (p.CR a y) sent:=by
 obtain ⟨⟨t1,t0⟩,t2⟩:=h.se y hy
 have e:=XQ t1.2.1
 have hv:y∈Aj p.se p.fl:=t2 A0
 have mem:∀ {P:Lk->Prop},(∀l∈p.lk,P l)->P (a,y)->∀l∈(p.CR a y).lk,P l:=λh1 h2 l hl=>by
  rcases BZ.1 hl with c|c
  ·exact h1 l c
  ·rw [HJ.1 c];exact h2
 refine ⟨⟨⟨{hJ.1.1 with lk:=mem hJ.1.1.lk t1.2.2},{hJ.1.2 with lk:=?_}⟩,hJ.2⟩,⟨{h.lm.fi with lk:=mem h.lm.fi.lk ⟨h1,?_,t1.2.1⟩},⟨h.lm.tg.kt,⟨h.lm.tg.sg.nx,h.lm.tg.sg.ls,h.lm.tg.sg.vl⟩⟩,{h.lm.lx with lk:=mem h.lm.lx.lk ⟨hv,h1,h2⟩},h.lm.kp⟩,h.se⟩
 ·show ((M (p.lk++[(a,y)]):aD):Y)<=16*p.tk+5000
  rw [B8]
  show ((M p.lk+1:aD):Y)<=_
  omega
 ·have:=t1.1
  show a<=p.tk+10
  omega
def DM.step (h:DM p sent) (hJ:JP p) (ht:p.tk<=1000) {e:EV}(he:Bk p e=0) (hw:e.ek≠7) (hc:e.c.1≠4) (hk:e.ek≠1):DM (BA p e) sent:=by
 refine ⟨h.lm.step hJ ht he hw hc,?_⟩
 have hv:=hJ.1.1
 unfold BA;rw [AE A0,AE hk]
 repeat' split
 all_goals exact h.se
def newL (p:PK):aM:=p.BM.ls.filter λy=>y.2.2.2.1==p.tk
def DM.tick (h:DM p sent) (hJ:JP p) (ht:p.tk<=1000):DM p.BM (sent++newL p):=by
 obtain ⟨e1,e2,e3,e4,e5,e6,e7,e8,e9,e10,e11,e12,e13,e14⟩:=IV p;obtain ⟨_,_,_,_,etk⟩:=NW hJ A0
 have hg:=h.lm.tg.dec hJ
 obtain ⟨d1,d2,⟨d3,_⟩,_⟩:=h.lm.lx.dec h.lm.tg hJ ht
 have eg:p.BM.gs=p.gs:=e4
 have es:p.BM.se=p.AK.se:=rfl
 have ef:p.BM.fl=p.AK.fl:=rfl
 refine ⟨h.lm.tick hJ ht,λy hy=>?_⟩
 rw [eg,es,ef,etk];rcases BZ.1 hy with c|c
 ·obtain ⟨⟨t1,t0⟩,t2⟩:=h.se y c
  exact ⟨⟨t1.le A0,t0⟩,λq=>d3 y (t2 A0) A0⟩
 ·obtain ⟨c1,c2⟩:=Ce.1 c
  have c1:y∈p.AK.ls:=c1
  have c2:y.2.2.2.1=p.tk:=eq_of_beq c2
  have t:=hg.ls.2 y c1
  refine ⟨⟨t,by have:=hJ.1.1.tk;omega⟩,λ_=>?_⟩
  cases hu:p.up
  ·rw [d2 hu] at c1;cases c1
  ·exact (d1 hu).2 y c1 (by rw [XQ t.2.1];omega)
def sS (hJ:JP p) {e:EV}(he:Bk p e=0):(M (BA p e).lk:Y)<=M p.lk+16*((BA p e).tk-p.tk):=by
 have hv:=hJ.1.1
 rcases sT hv he with ⟨ht,c⟩ |c|⟨_,c⟩ |⟨_,c⟩ |c
 ·obtain ⟨_,_,_,_,etk⟩:=NW hJ ht
  have gl:=(D7.1 hv.site).1.2.2.2.2.1
  rw [c,etk]
  have h1:M p.AK.lk<=M p.lk+16:=by
   unfold PK.AK;split
   ·omega
   ·split
    ·show M p.lk<=_
     omega
    ·rename_i hd
     have h2:=(fy (t:=p.tk) (xs:=p.dL) (s:=p.GA) _<|Ar _).2
     have h3:=(Xr<|V7.1 hd).2.2
     have h4:M p.sn1.lk<=M p.lk+M p.dL:=h2
     show M p.sn1.lk<=_
     omega
  have h5:M p.BM.lk<=M p.AK.lk:=VA _ _
  omega
 ·exact yR
 ·exact yR
 ·exact yR
 ·have h1:(BA p e).tk=p.tk:=by rw [c]
  have h2:M (BA p e).lk<=M p.lk:=by
   unfold BA;rw [AE A0];split
   ·rename_i h
    exfalso
    have hq:p.tk≠1000000:=λq=>by
     unfold Bk at he;rw [AE nr,AD h] at he;unfold PK.Ic at he;rw [AD q] at he;cases he
    have:=(NW hJ (by have:=hv.tk;omega)).2.2.2.2
    have h3:(BA p e).tk=p.tk+1:=by
     unfold BA;rw [AE A0,AD h];exact this
    omega
   repeat' split
   all_goals first|exact Ar _|exact VA _ _
  rw [h1];omega
def JM (t:Y) (a:Int×Int):Y:=AA<|t+(AA a.2).tmod 11
def ixM (n:aD) (a:Int×Int):Y:=(AA a.1).tmod (n:Y)
def IA (sent:aM) (a:Int×Int):Le:=sent.getD (ixM (M sent) a).toNat<|Ty.dflt AO
def aT3 {n:aD}{a:Int×Int}(h:0<=a.1/\a.1<=255) (hn:0<n):0<=ixM n a/\ixM n a<(n:Y):=by
 unfold ixM;rw [AJ (x:=a.1),mS h.1];exact ⟨Int.emod_nonneg _ A0,xg _ A0⟩
def ai6 (hJ:JP p) (h:DM p sent) {a:Int×Int}(ha:(0<=a.1/\a.1<=255)/\0<=a.2/\a.2<=255) (hn:0<M sent) (ht:p.tk<=1000) {c:Y}(hl:(M p.lk:Y)<=16*p.tk+c) (hc:c<=4999) (hat:JM p.tk a<=AA ((IA sent a).2.2.2.1+10)):
  JP (p.CR (JM p.tk a)<|IA sent a)/\DM (p.CR (JM p.tk a)<|IA sent a) sent/\((M (p.CR (JM p.tk a)<|IA sent a).lk:aD):Y)<=16*p.tk+(c+1):=by
 have htk:=hJ.1.1.tk
 obtain ⟨i0,i1⟩:=aT3 (n:=M sent) ha.1 hn
 have hm:IA sent a∈sent:=by
  unfold IA;rw [K3 A0];exact Fk _
 obtain ⟨⟨t1,t0⟩,_⟩:=h.se _ hm
 have t3:=t1.1
 have ea:JM p.tk a=p.tk+a.2.tmod 11:=by
  unfold JM;rw [AJ (x:=a.2)]
  have:0<=a.2.tmod 11/\a.2.tmod 11<=10:=aPB
  exact AJ
 have eb:0<=a.2.tmod 11:=aPB
 rw [AJ (x:=(IA sent a).2.2.2.1+10)] at hat;obtain ⟨b1,b2⟩:=h.add hJ hm (a:=JM p.tk a) A0 hat A0;refine ⟨b1,b2,?_⟩
 show ((M (p.lk++[(JM p.tk a,IA sent a)]):aD):Y)<=_
 rw [B8]
 show ((M p.lk+1:aD):Y)<=_
 omega
structure DG (p:PK) (sent:aM) (c:Y):Prop where
 jp:JP p
 dm:DM p sent
 lk:(M p.lk:Y)<=16*p.tk+c
 se:(M sent:Y)<=64*p.tk
def DG.le {c c':Y}(h:DG p sent c) (hc:c<=c'):DG p sent c':=⟨h.jp,h.dm,by have:=h.lk;omega,h.se⟩
def DG.step {c:Y}(h:DG p sent c) (ht:p.tk<=1000) {e:EV}(he:Bk p e=0) (hw:e.ek≠7) (hc:e.c.1≠4) (hk:e.ek≠1) (hq:(BA p e).tk=p.tk):DG (BA p e) sent c:=by
 have h1:=sS h.jp he
 have h2:=h.lk
 rw [hq] at h1;exact ⟨h.jp.step he,h.dm.step h.jp ht he hw hc hk,by rw [hq];omega,by rw [hq];exact h.se⟩
def DG.tick {c:Y}(h:DG p sent c) (ht:p.tk<=1000):DG p.BM (sent++newL p) c:=by
 obtain ⟨he,eP,_,_,etk⟩:=NW h.jp A0
 have hJ:=h.jp.step he
 have h1:=sS h.jp he
 have h2:=h.lk
 have h3:=h.se
 rw [eP] at hJ h1
 have h4:M (newL p)<=M p.BM.ls:=VA _ _
 have h5:=hJ.1.2.ls
 refine ⟨hJ,h.dm.tick h.jp ht,A0,?_⟩;rw [B8];omega
def DG.add {c:Y}(h:DG p sent c) (ht:p.tk<=1000) {a:Int×Int}(ha:(0<=a.1/\a.1<=255)/\0<=a.2/\a.2<=255) (hn:0<M sent) (hc:c<=4999) (hat:JM p.tk a<=AA ((IA sent a).2.2.2.1+10)):DG (p.CR (JM p.tk a)<|IA sent a) sent (c+1):=by
 obtain ⟨b1,b2,b3⟩:=ai6 h.jp h.dm ha hn ht h.lk hc hat;exact ⟨b1,b2,b3,h.se⟩
end Go.Proofs.YtepoohnehmfflaaGreatDoor
namespace Go.Proofs.YtepoohnehmfflaaGreatDoor
set_option maxRecDepth 100000
set_option maxHeartbeats 4000000
open Go.Proofs.Tryz
open Go.Sx
def aTz:aE->T LV
 | .agg a::r=>s5 a λcs os ks gs bs=>(match r with
  | []=> .ok (aq<|M cs<=40/\M os<=40/\M ks<=40/\M gs<=40/\M bs<=40)
  |_=> .no)
 |_=> .no
def ahI:aO:=[]
def zt:=vo (S:=aTz) func10 ahI kN (λargs lv h=>by
 unfold aTz at h;split at h
 case h_2=>cases h
 replace h:=Ia h
 obtain ⟨cs,os,ks,gs,bs,rfl,h⟩:=h;split at h
 ·refine Au (.ok<|.v<|.bool<|(aq<|(M cs:Y)<=40)&&((aq<|(M os:Y)<=40)&&((aq<|(M ks:Y)<=40)&&((aq<|(M gs:Y)<=40)&&(aq<|(M bs:Y)<=40))))) ?_
  obtain rfl:=h;refine B0 (λz=>LV.v<|.bool z) ?_
  rw [Iw];simp only [AV,Aa];omega
 ·cases h)
def tmB (x:(Int×(Int×(Int×(Le×Dm))))):aN:=!(x.1.tmod 14==12 ||x.2.2.2.1.1==4)
def aqp {l:List<|(Int×(Int×(Int×(Le×Dm))))}:l.all tmB=U↔∀x∈l,TmO x:=by
 simp [BH,tmB,TmO]
structure Lv where
 ag:aVt
 (b b1:aN)
 (many nx:Y)
 l:List (Int×(Int×(Int×(Le×Dm))))
 (n i m k:Y)
 ls:aM
 (n2 j:Y)
 p:PK
 sent:aM
 ev:EW
 r:PK
def aHi:=((BD<|lN (bN f3 0) 0)[0]?).getD .skip
def U6 (s:Lv):T (Rd Lv):=letI a:=An s.ls s.j;.br (aq<|s.j<s.n2) (.ix s.j (M s.ls)<|.br (a.2.2.2.1==s.p.tk) (.rb (M s.sent) (M<|[a]) 40<|.re (M s.sent+M ([a])) (s.sent++([a]))<|.nx {s with j:=AA<|s.j+1,sent:=s.sent++([a])})<|.rl s.sent<|.nx {s with j:=AA<|s.j+1})<|.rl s.sent<|.so (.exit 4) s
def YJ (s:Lv):Prop:=s.j=0/\s.n2=(M s.ls:Y)/\s.n2<=1000/\(M s.sent:Y)<=1000000+s.j
def lP (s:Lv):Prop:=(0<=s.j/\s.j<=s.n2)/\s.n2=(M s.ls:Y)/\s.n2<=1000/\(M s.sent:Y)<=1000000+s.j
def gV (s:Lv):aD:=(s.n2-s.j).toNat
def acf (x:Ex) (s s':Lv):Prop:=True
def anh:∀s,YJ s->lP s:=by
 rintro s ⟨h0,h2⟩
 have:=h2.1
 exact ⟨⟨A0,A0⟩,h2⟩
def ais:Da lP gV acf U6:=by
 intro s hI;unfold U6;dsimp only [T.rd,T.rl,T.rv];obtain ⟨⟨h0,h1⟩,h2,h3,h4⟩:=hI;refine AH (λc1=>AH (λc2=>?_) λc2=>?_) λc1=>trivial
 all_goals have c1:s.j<s.n2:=AY
 all_goals rw [AJ (x:=s.j+1)]
 ·exact ⟨⟨⟨AZ,AZ⟩,h2,h3,by simp only [B8,BY,Bh];omega⟩,by simp only [gV];omega⟩
 ·exact ⟨⟨⟨AZ,AZ⟩,h2,h3,AZ⟩,by simp only [gV];omega⟩
def Pu:AS Lv:=⟨0,165,[3,8,9,10,12,13,14,17,19,45,46,47,57,58,97,98,99],[],λs=>[.xl (.pair (.int ax)<|.int ax) s.ag,s.b,s.b1,.own 0 0,.os 1 5 0<|M s.sent,s.many,s.nx,.own 2 0,.own 3 0,.xl (.pair (.int ax)<|.pair (.int ax)<|.pair (.int .u16)<|.pair AO Ai) s.l,s.n,s.i,s.m,s.k,s.ls,s.n2,s.j],λs=>[⟨[s.p.cs,s.p.os,s.p.ks,s.p.gs,s.p.bs,s.p.tk,s.p.up,s.p.ls,s.p.se,.xl (.int ax) s.p.fl,s.p.ra,s.p.nx,s.p.st,s.p.ca,s.p.mi,s.p.me,s.p.dm,s.p.lk,.xl A7 s.p.dr,.xl A7 s.p.tg],48,.cl,X⟩,bV 70 AO s.sent,⟨[s.ev.ek,s.ev.en,s.ev.em,s.ev.c1,s.ev.c2,s.ev.c3,s.ev.c4,s.ev.c5,s.ev.d1,s.ev.d2,s.ev.d3,s.ev.d4],60,.cl,X⟩,⟨[s.r.cs,s.r.os,s.r.ks,s.r.gs,s.r.bs,s.r.tk,s.r.up,s.r.ls,s.r.se,.xl (.int ax) s.r.fl,s.r.ra,s.r.nx,s.r.st,s.r.ca,s.r.mi,s.r.me,s.r.dm,s.r.lk,.xl A7 s.r.dr,.xl A7 s.r.tg],48,.cl,X⟩],λv b=>⟨B3 (.pair (.int ax)<|.int ax) v 0,Ds v 1,Ds v 2,AL v 5,AL v 6,Ao (.pair (.int ax)<|.pair (.int ax)<|.pair (.int .u16)<|.pair AO Ai)<|v.getD 9 .junk,AL v 10,AL v 11,AL v 12,AL v 13,B3 AO v 14,AL v 15,AL v 16,rQ b 0,Ab AO b 1,rE b 0 2,rQ b 3⟩,U6,λs r=> {s with j:=r.j,sent:=r.sent},λs=>s,λ_ s=>s,[.exit 4],YJ,lP,gV⟩
abbrev pG:=Pu.run
abbrev auW:=Pu.Av
def azc:Rq lP U6:=by
 intro s hI;refine ⟨λc1=>⟨?_,λc2=>⟨?_,?_,an⟩,λc2=>⟨A9,an⟩⟩,λc1=>⟨A9,an⟩⟩
 all_goals ((obtain ⟨⟨h0,h1⟩,h2,h3,h4⟩:=hI;(try simp only [Aa] at c1);first|omega|exact ⟨rfl,rfl⟩ |(simp only [BY,Bh,B8];omega) |(simp only [B8,BY,Bh,Dw];done)))
def XK:aO:=[zi,iv,zn,gM,PA,zt]
def vt:Az:=kI XK<|l0 XK
def aRq:Pu.Ok:={}
def aRT:Pu.Pf (acf):=⟨anh,λs h=>rfl,ais,azc⟩
def aqx:SA 0 aHi Pu:=s1 aRq aRT XK vt
def avq:Rs YJ auW pG (λs:Lv=>s.sent++(s.ls.drop s.j.toNat).filter (λy=>y.2.2.2.1==s.p.tk)) (λx s' (v:aM)=>x=.exit 4/\s'.sent=v):=DY aRq aRT (λs hI=>by
  show DH _ _ ((U6 s).rd s)
  unfold U6;dsimp only [T.rd,T.rl];obtain ⟨⟨h0,h1⟩,h2,h3,h4⟩:=hI;refine AH (λc1=>?_) λc1=>?_
  ·have c1:s.j<s.n2:=AY
   rw [AJ (x:=s.j+1),(TE h0 A0).1];refine AH (λc2=>?_) λc2=>?_
   ·show _++[_]++_=_++_
    rw [LP,AD c2,Co];rfl
   ·show _++_=_++_
    rw [LP,AE VS]
  ·have c1:s.n2<=s.j:=AY
   refine ⟨rfl,?_⟩;rw [Ei A0]
   simp)
def PK.QB (p:PK) (a:Y) (y:Le):PK:={p with lk:=(((([]:bz)++p.lk)++([(a,y)])).drop 0).take<|0+M p.lk+M ([(a,y)])}
def aw8 {p:PK}{a:Y}{y:Le}:p.QB a y=p.CR a y:=by
 unfold PK.QB PK.CR;rw [EG,CT,DS (by rw [B8];omega)]
def I1 (l:aVt) (i:Y):Int×Int:=gx (e:=.pair (.int ax)<|.int ax) l i
structure JL where
 ag:aVt
 (b b1:aN)
 (many nx:Y)
 l:List (Int×(Int×(Int×(Le×Dm))))
 (n i m k:Y)
 p:PK
 sent:aM
 ev:EW
def rp:=lN (bN f3 0) 0
def Vo (s:JL):Lv:=letI a:=BA s.p<|EW.ev s.ev;(⟨s.ag,s.b,s.b1,AA<|s.many+1,s.nx,s.l,s.n,s.i,s.m,s.k,a.ls,(M a.ls:Y),0,s.p,s.sent,s.ev,a⟩:Lv)
def adS (s:JL):Lv:=letI a:=BA s.p<|EW.ev s.ev;(⟨s.ag,s.b,s.b1,s.many,s.nx,s.l,s.n,s.i,s.m,s.k,a.ls,(M a.ls:Y),0,s.p,s.sent,s.ev,a⟩:Lv)
def j6 (s:JL):T (Rd JL):=letI c:=I1 s.ag s.nx;letI f:=AA<|s.many+1;letI g:=pG<|Vo s;letI h:=pG<|adS s;letI i:=AA<|s.k+1;letI j:=IA s.sent c;letI n:=(aq<|s.nx<(M s.ag:Y));letI o:=AA<|s.nx+1;letI r:=M s.ag;letI t:=(M ([]:bz));letI u:=((M s.sent:aD):Y);letI w:=IA g.sent c;letI x:=IA h.sent c;letI y:=s.ev.ek==1;letI z:=M s.sent;letI B:=EW.ev s.ev;letI C:=((M g.sent:aD):Y);letI D:=((M h.sent:aD):Y);letI a:=BA s.p B;letI d:=DI s.p B;letI e:=JM a.tk c;letI l:=(M<|([]:bz)++a.lk);letI v:=aq (M d=M s.p.gs)&&!DA s.p.cs s.p.gs d;letI A:=aq<|e<=(AA<|j.2.2.2.1+10);.br (aq<|s.k<s.m) (.br y (.br (aq<|f>150) (.rl s.sent<|.so (.exit 2) {s with many:=f})<|.req (JP s.p)<|.br ((Bk s.p B) !=0) (.br y (.rl s.sent<|.so (.ret) {s with b:=X,many:=f})<|.rl s.sent<|.so (.exit 2) {s with many:=f})<|.br y (.req (BB s.p.cs s.p.os s.p.ks s.p.gs s.p.bs=U/\(M d=M s.p.gs->∀k:aD,k<M d->0<=gi d k/\gi d k<=80))<|.br (((HB s.p.gs d) !=0) ||v) (.rl s.sent<|.so (.ret) {s with b:=X,many:=f})<|.rl s.sent<|.req (Pu.q<|Vo s)<|.br (n&&(aq<|C>0)) (.ix s.nx r<|.req (C≠0)<|.ik (ixM (M g.sent) c) (M g.sent)<|.ix s.nx r<|.req ((11:Y)≠0)<|.br (aq<|e<=(AA<|w.2.2.2.1+10)) (.ra 0 t (0+M a.lk) 48<|.ra (0+M a.lk) l (0+M a.lk+M ([(e,w)])) 48<|.req (0+(0+M a.lk+M ([(e,w)]))<=M ((([]:bz)++a.lk)++([(e,w)])))<|.rl g.sent<|.nx {s with many:=f,nx:=o,k:=i,p:=a.QB e w,sent:=g.sent})<|.rl g.sent<|.nx {s with many:=f,nx:=o,k:=i,p:=a,sent:=g.sent})<|.rl g.sent<|.nx {s with many:=f,k:=i,p:=a,sent:=g.sent})<|.br (n&&(aq<|u>0)) (.ix s.nx r<|.req (u≠0)<|.ik (ixM z c) z<|.ix s.nx r<|.req ((11:Y)≠0)<|.br A (.ra 0 t (0+M a.lk) 48<|.ra (0+M a.lk) l (0+M a.lk+M ([(e,j)])) 48<|.req (0+(0+M a.lk+M ([(e,j)]))<=M ((([]:bz)++a.lk)++([(e,j)])))<|.rl s.sent<|.nx {s with many:=f,nx:=o,k:=i,p:=a.QB e j})<|.rl s.sent<|.nx {s with many:=f,nx:=o,k:=i,p:=a})<|.rl s.sent<|.nx {s with many:=f,k:=i,p:=a})<|.req (JP s.p)<|.br ((Bk s.p B) !=0) (.br y (.rl s.sent<|.so (.ret) {s with b:=X})<|.rl s.sent<|.so (.exit 2) s)<|.br y (.req (BB s.p.cs s.p.os s.p.ks s.p.gs s.p.bs=U/\(M d=M s.p.gs->∀k:aD,k<M d->0<=gi d k/\gi d k<=80))<|.br (((HB s.p.gs d) !=0) ||v) (.rl s.sent<|.so (.ret) {s with b:=X})<|.rl s.sent<|.req (Pu.q<|adS s)<|.br (n&&(aq<|D>0)) (.ix s.nx r<|.req (D≠0)<|.ik (ixM (M h.sent) c) (M h.sent)<|.ix s.nx r<|.req ((11:Y)≠0)<|.br (aq<|e<=(AA<|x.2.2.2.1+10)) (.ra 0 t (0+M a.lk) 48<|.ra (0+M a.lk) l (0+M a.lk+M ([(e,x)])) 48<|.req (0+(0+M a.lk+M ([(e,x)]))<=M ((([]:bz)++a.lk)++([(e,x)])))<|.rl h.sent<|.nx {s with nx:=o,k:=i,p:=a.QB e x,sent:=h.sent})<|.rl h.sent<|.nx {s with nx:=o,k:=i,p:=a,sent:=h.sent})<|.rl h.sent<|.nx {s with k:=i,p:=a,sent:=h.sent})<|.br (n&&(aq<|u>0)) (.ix s.nx r<|.req (u≠0)<|.ik (ixM z c) z<|.ix s.nx r<|.req ((11:Y)≠0)<|.br A (.ra 0 t (0+M a.lk) 48<|.ra (0+M a.lk) l (0+M a.lk+M ([(e,j)])) 48<|.req (0+(0+M a.lk+M ([(e,j)]))<=M ((([]:bz)++a.lk)++([(e,j)])))<|.rl s.sent<|.nx {s with nx:=o,k:=i,p:=a.QB e j})<|.rl s.sent<|.nx {s with nx:=o,k:=i,p:=a})<|.rl s.sent<|.nx {s with k:=i,p:=a})<|.rl s.sent<|.so (.exit 2) s
def agB (l:aVt):Prop:=∀x∈l,(0<=x.1/\x.1<=255)/\0<=x.2/\x.2<=255
def aUT {l:aVt}(h:agB l) {i:Y}(h0:0<=i) (h1:i<(M l:Y)):(0<=(I1 l i).1/\(I1 l i).1<=255)/\0<=(I1 l i).2/\(I1 l i).2<=255:=by
 unfold I1 gx;rw [K3 A0];exact h _<|Fk _
def ai8 {p:PK}{sent:aM}{l:aVt}{c:Y}(h:DG p sent c) (ht:p.tk<=1000) (hl:agB l) (h0:0<=c) (h1:c<(M l:Y)) (hc:c<=4999) (hn:0<M sent) (hat:JM p.tk (I1 l c)<=AA ((IA sent<|I1 l c).2.2.2.1+10)):DG (p.QB (JM p.tk<|I1 l c)<|IA sent<|I1 l c) sent (c+1):=by
 rw [aw8];exact h.add ht (aUT hl h0 h1) hn hc hat
def YK (s:JL):Prop:=s.k=0/\(s.many<=12*s.i/\s.nx<=12*s.i)/\DG s.p s.sent s.nx/\(s.p.tk<=150/\s.p.tk<=s.many/\0<=s.many)/\0<=s.nx/\s.m<=12/\(0<=s.i/\s.i<=100)/\TmE s.ev/\agB s.ag
def OI (s:JL):Prop:=(0<=s.k/\(s.k<=s.m\/s.k=0))/\(s.many<=12*s.i+s.k/\s.nx<=12*s.i+s.k)/\DG s.p s.sent s.nx/\(s.p.tk<=150/\s.p.tk<=s.many/\0<=s.many)/\0<=s.nx/\s.m<=12/\(0<=s.i/\s.i<=100)/\TmE s.ev/\agB s.ag
def eX (s:JL):aD:=(s.m-s.k).toNat
def Y2 (x:Ex) (s s':JL):Prop:=x=.exit 2/\(s'.many<=12*s'.i+12/\s'.nx<=12*s'.i+12)/\DG s'.p s'.sent s'.nx/\(s'.p.tk<=150/\s'.p.tk<=s'.many/\0<=s'.many)/\0<=s'.nx
def anj:∀s,YK s->OI s:=by
 rintro s ⟨h0,⟨h1,h1b⟩,h2⟩
 exact ⟨A0,A0,h2⟩
def ajq {p:PK}{e:EV}(he:Bk p e=0) (hk:e.ek=1):BA p e=p.BM/\DI p e=p.Fp:=by
 unfold BA DI;rw [AE A0,AD hk,AE A0,AD hk];exact ⟨rfl,rfl⟩
def aTJ {s:JL}(hI:OI s) (c2:s.ev.ek=1):Bk s.p s.ev.ev=0/\BA s.p s.ev.ev=s.p.BM/\(BB s.p.cs s.p.os s.p.ks s.p.gs s.p.bs=U/\(M (DI s.p s.ev.ev)=M s.p.gs->∀k:aD,k<M (DI s.p s.ev.ev)->0<=gi (DI s.p s.ev.ev) k/\gi (DI s.p s.ev.ev) k<=80))/\
  (((HB s.p.gs<|DI s.p s.ev.ev) !=0) ||(aq (M (DI s.p s.ev.ev)=M s.p.gs)&&!DA s.p.cs s.p.gs (DI s.p s.ev.ev)))=X/\YJ (Vo s)/\(pG<|Vo s).sent=s.sent++newL s.p/\DG s.p.BM (s.sent++newL s.p) s.nx/\s.p.BM.tk=s.p.tk+1:=by
 obtain ⟨⟨k0,k1⟩,⟨n1,n2⟩,hD,⟨t1,t2,t3⟩,n0,m0,⟨i0,i1⟩,ht,ha⟩:=id hI
 have hJ:=hD.jp
 have he:=aqr hJ c2 A0
 obtain ⟨eP,eD⟩:=ajq he c2;obtain ⟨d1,d2,d3⟩:=hD.dm.lm.draw hJ A0
 have hT:=hD.tick A0
 have etk:=(NW hJ A0).2.2.2.2
 have hE:YJ (Vo s):=⟨rfl,rfl,by
  show (M (BA s.p s.ev.ev).ls:Y)<=1000
  rw [eP]
  have:=hT.jp.1.2.ls
  omega,by
  show (M s.sent:Y)<=1000000+0
  have:=hD.se
  omega⟩
 refine ⟨he,eP,?_,?_,hE,?_,hT,etk⟩
 ·rw [eD]
  exact ⟨hJ.1.1.site,λ_ k hk=>d2 k A0⟩
 ·rw [eD,show HB s.p.gs s.p.Fp=0 from AD d1,d3]
  simp
 ·have h:_=_:=(avq (Vo s) hE).2
  rw [h]
  show s.sent++((BA s.p s.ev.ev).ls.drop 0).filter (λy=>y.2.2.2.1==s.p.tk)=_
  rw [eP];rfl
def aiu {s:JL}(hI:OI s) (c2:¬s.ev.ek=1) (c4:Bk s.p s.ev.ev=0):DG (BA s.p s.ev.ev) s.sent s.nx/\(BA s.p s.ev.ev).tk=s.p.tk:=by
 obtain ⟨⟨k0,k1⟩,⟨n1,n2⟩,hD,⟨t1,t2,t3⟩,n0,m0,⟨i0,i1⟩,ht,ha⟩:=id hI
 have e:(BA s.p s.ev.ev).tk=s.p.tk:=(aIi hD.jp c4).resolve_right λh=>c2 h.1
 exact ⟨hD.step A0 c4 ht.1 ht.2 c2 e,e⟩
def aTK {s:JL}(hI:OI s) (c4:Bk s.p s.ev.ev=0):M (BA s.p s.ev.ev).lk<=100000:=by
 obtain ⟨⟨k0,k1⟩,⟨n1,n2⟩,hD,⟨t1,t2,t3⟩,n0,m0,⟨i0,i1⟩,ht,ha⟩:=id hI
 have h1:=sS hD.jp c4
 have h2:=aIi hD.jp c4
 have h3:=hD.lk
 omega
def aBq {ag:aVt}{nx:Y}{sent:aM}(h0:0<=nx) (ha:agB ag) (c:((aq<|nx<(M ag:Y))&&(aq<|((M sent:aD):Y)>0))=U):letI d:=M sent;(0<=nx/\nx<(M ag:Y))/\((M sent:aD):Y)≠0/\(0<=ixM d (I1 ag nx)/\ixM d (I1 ag nx)<((M sent:aD):Y))/\(ixM d<|I1 ag nx).toNat<M sent:=by
 simp only [AV,Aa] at c;obtain ⟨a,b⟩:=aT3 (n:=M sent) (aUT ha h0 c.1).1 A0;exact ⟨⟨h0,c.1⟩,A0,⟨a,b⟩,A0⟩
def aTL {s:JL}(hI:OI s) (c1:s.k<s.m) {p:PK}{sent:aM}{mn:Y}(hD':DG p sent s.nx) (q1:p.tk<=150) (q2:p.tk<=mn) (q3:0<=mn) (q4:mn<=12*s.i+s.k+1):DH (λs'=>OI s'/\eX s'<eX s) (λx s'=>Y2 x s s')
  (if ((aq<|s.nx<(M s.ag:Y))&&(aq<|((M sent:aD):Y)>0))=U then (if aq (JM p.tk (I1 s.ag s.nx)<=AA ((IA sent<|I1 s.ag s.nx).2.2.2.1+10))=U then .next {s with many:=mn,nx:=s.nx+1,k:=s.k+1,p:=p.QB (JM p.tk<|I1 s.ag s.nx)<|IA sent<|I1 s.ag s.nx,sent:=sent} else .next {s with many:=mn,nx:=s.nx+1,k:=s.k+1,p:=p,sent:=sent}) else .next {s with many:=mn,k:=s.k+1,p:=p,sent:=sent}):=by
 obtain ⟨⟨k0,k1⟩,⟨n1,n2⟩,hD,⟨t1,t2,t3⟩,n0,m0,⟨i0,i1⟩,ht,ha⟩:=id hI;refine AH (λc8=>AH (λc9=>?_) λc9=>?_) λc8=>?_
 ·obtain ⟨⟨_,r1⟩,r2,_⟩:=aBq n0 ha c8
  have h:=ai8 hD' A0 ha n0 r1 A0 A0<|Ct c9
  exact ⟨⟨⟨AZ,AZ⟩,⟨AZ,AZ⟩,h,⟨q1,q2,q3⟩,AZ,m0,⟨i0,i1⟩,ht,ha⟩,yp⟩
 ·exact ⟨⟨⟨AZ,AZ⟩,⟨AZ,AZ⟩,hD'.le AZ,⟨q1,q2,q3⟩,AZ,m0,⟨i0,i1⟩,ht,ha⟩,yp⟩
 ·exact ⟨⟨⟨AZ,AZ⟩,⟨AZ,AZ⟩,hD',⟨q1,q2,q3⟩,n0,m0,⟨i0,i1⟩,ht,ha⟩,yp⟩
def aiv:Da OI eX Y2 j6:=by
 intro s hI;unfold j6;dsimp only [T.rd,T.rl,T.rv];obtain ⟨⟨k0,k1⟩,⟨n1,n2⟩,hD,⟨t1,t2,t3⟩,n0,m0,⟨i0,i1⟩,ht,ha⟩:=id hI;rw [AJ (x:=s.many+1),AJ (x:=s.k+1),AJ (x:=s.nx+1)];refine AH (λc1=>?_) λc1=>⟨rfl,⟨aPQ,aPQ⟩,hD,⟨t1,t2,t3⟩,n0⟩
 have c1:s.k<s.m:=Ct c1
 refine AH (λc2=>?_) λc2=>?_
 ·obtain ⟨e4,eP,_,e7,_,eS,hD2,e8⟩:=aTJ hI (eq_of_beq c2)
  refine AH (λc3=>⟨rfl,⟨AZ,AZ⟩,hD,⟨t1,AZ,AZ⟩,n0⟩) λc3=>?_
  have c3:¬s.many+1>150:=KM c3
  refine AH (λc4=>absurd e4<|EH.1 c4) λ_=>?_
  refine AH (λ_=>?_) λc5=>absurd (c5.symm.trans c2) Ac
  refine AH (λc6=>absurd (c6.symm.trans e7) Ac) λ_=>?_
  rw [eS,show BA s.p (EW.ev s.ev)=_ from eP];exact aTL hI c1 hD2 A0 A0 A0 A0
 ·refine AH (λc4=>?_) (λc4=>?_)
  ·refine AH (λc5=>absurd (c2.symm.trans c5) Ac) λ_=>⟨rfl,⟨A0,A0⟩,hD,⟨t1,t2,t3⟩,n0⟩
  refine AH (λc5=>absurd (c2.symm.trans c5) Ac) λ_=>?_
  obtain ⟨hD2,e8⟩:=aiu hI (CV.1 c2)<|Dy c4;exact aTL hI c1 hD2 (by rw [e8];omega) (by rw [e8];omega) t3 A0
def S1:AS JL:=⟨0,165,[3,8,9,10,12,13,14,17,45,46,47,57,58],[.ps 10 17 BP],λs=>[.xl (.pair (.int ax)<|.int ax) s.ag,s.b,s.b1,.own 0 0,.os 1 5 0<|M s.sent,s.many,s.nx,.own 2 0,.xl (.pair (.int ax)<|.pair (.int ax)<|.pair (.int .u16)<|.pair AO Ai) s.l,s.n,s.i,s.m,s.k],λs=>[⟨[s.p.cs,s.p.os,s.p.ks,s.p.gs,s.p.bs,s.p.tk,s.p.up,s.p.ls,s.p.se,.xl (.int ax) s.p.fl,s.p.ra,s.p.nx,s.p.st,s.p.ca,s.p.mi,s.p.me,s.p.dm,s.p.lk,.xl A7 s.p.dr,.xl A7 s.p.tg],48,.cl,X⟩,bV 70 AO s.sent,⟨[s.ev.ek,s.ev.en,s.ev.em,s.ev.c1,s.ev.c2,s.ev.c3,s.ev.c4,s.ev.c5,s.ev.d1,s.ev.d2,s.ev.d3,s.ev.d4],60,.cl,X⟩],λv b=>⟨B3 (.pair (.int ax)<|.int ax) v 0,Ds v 1,Ds v 2,AL v 5,AL v 6,Ao (.pair (.int ax)<|.pair (.int ax)<|.pair (.int .u16)<|.pair AO Ai)<|v.getD 8 .junk,AL v 9,AL v 10,AL v 11,AL v 12,rQ b 0,Ab AO b 1,rE b 0 2⟩,j6,λs r=> {s with b:=r.b,many:=r.many,nx:=r.nx,k:=r.k,p:=r.p,sent:=r.sent},λs=>s,λ_ s=>s,[.exit 2,.ret],YK,OI,eX⟩
abbrev dF:=S1.run
abbrev tF:=S1.Av
def aze:Rq OI j6:=by
 intro s hI;refine ⟨λc1=>⟨λc2=>⟨λc3=>⟨A9,an⟩,λc3=>⟨?_,λc4=>⟨λc5=>⟨A9,an⟩,λc5=>⟨A9,an⟩⟩,λc4=>⟨λc6=>⟨?_,λc7=>⟨A9,an⟩,λc7=>⟨A9,?_,λc8=>⟨?_,?_,?_,?_,?_,?_,λc9=>⟨?_,?_,?_,A9,an⟩,λc9=>⟨A9,an⟩⟩,λc8=>⟨A9,an⟩⟩⟩,λc6=>⟨λc10=>⟨?_,?_,?_,?_,?_,?_,λc11=>⟨?_,?_,?_,A9,an⟩,λc11=>⟨A9,an⟩⟩,λc10=>⟨A9,an⟩⟩⟩⟩⟩,λc2=>⟨?_,λc12=>⟨λc13=>⟨A9,an⟩,λc13=>⟨A9,an⟩⟩,λc12=>⟨λc14=>⟨?_,λc15=>⟨A9,an⟩,λc15=>⟨A9,?_,λc16=>⟨?_,?_,?_,?_,?_,?_,λc17=>⟨?_,?_,?_,A9,an⟩,λc17=>⟨A9,an⟩⟩,λc16=>⟨A9,an⟩⟩⟩,λc14=>⟨λc18=>⟨?_,?_,?_,?_,?_,?_,λc19=>⟨?_,?_,?_,A9,an⟩,λc19=>⟨A9,an⟩⟩,λc18=>⟨A9,an⟩⟩⟩⟩⟩,λc1=>⟨A9,an⟩⟩
 ·(exact hI.2.2.1.jp)
 iterate 2 · (obtain ⟨_,_,q1,_,q2,_⟩:=aTJ hI<|eq_of_beq c2;first|exact q1|exact ⟨q2,rfl,rfl⟩)
 iterate 5 · (obtain ⟨r1,r2,r3,r4⟩:=aBq hI.2.2.2.2.1 hI.2.2.2.2.2.2.2.2 c8;first|exact r1|exact r2|exact r3|exact r4)
 ·decide
 iterate 3 · (have h:=aTK hI<|Dy c4;simp only [B8,Bh,BY,Dw];omega)
 iterate 9 · (exact absurd (c6.symm.trans c2) Ac)
 ·(exact hI.2.2.1.jp)
 iterate 11 · (exact absurd (c2.symm.trans c14) Ac)
 iterate 5 · (obtain ⟨r1,r2,r3,r4⟩:=aBq hI.2.2.2.2.1 hI.2.2.2.2.2.2.2.2 c18;first|exact r1|exact r2|exact r3|exact r4)
 ·decide
 iterate 3 · (have h:=aTK hI<|Dy c12;simp only [B8,Bh,BY,Dw];omega)
def aRs:S1.Ok:={}
def aRV:S1.Pf (Y2):=⟨anj,λs h=>rfl,aiv,aze⟩
def aqz:SA 0 rp S1:=AS.snd aRs aRV (dY (Γ:=XK) (K:=vt) (L:=(λi=>if i=27 then Pu.lp else Ap i)) (gk XK) vt.h rp (λb hb=>by
 rw [show BD _=[aHi] by kernel_rfl] at hb
 simp only [B9,Bx,By] at hb;subst hb;exact aqx)) λs=>AX
def avs:Fi YK OI Y2 tF dF:=AS.fin aRs aRV
structure Mw where
 ag:aVt
 (b b1:aN)
 (many nx:Y)
 l:List (Int×(Int×(Int×(Le×Dm))))
 (n i:Y)
 p:PK
 sent:aM
def rk:=bN f3 0
def NK (s:Mw):JL:=(⟨s.ag,s.b,s.b1,s.many,s.nx,s.l,s.n,s.i,opT (gx (e:=.pair (.int ax)<|.pair (.int ax)<|.pair (.int .u16)<|.pair AO Ai) s.l s.i).1 (gx (e:=.pair (.int ax)<|.pair (.int ax)<|.pair (.int .u16)<|.pair AO Ai) s.l s.i).2.2.1,0,s.p,s.sent,opE s.p (gx (e:=.pair (.int ax)<|.pair (.int ax)<|.pair (.int .u16)<|.pair AO Ai) s.l s.i).1 (gx (e:=.pair (.int ax)<|.pair (.int ax)<|.pair (.int .u16)<|.pair AO Ai) s.l s.i).2.1 (gx (e:=.pair (.int ax)<|.pair (.int ax)<|.pair (.int .u16)<|.pair AO Ai) s.l s.i).2.2.1 (gx (e:=.pair (.int ax)<|.pair (.int ax)<|.pair (.int .u16)<|.pair AO Ai) s.l s.i).2.2.2.1.1 (gx (e:=.pair (.int ax)<|.pair (.int ax)<|.pair (.int .u16)<|.pair AO Ai) s.l s.i).2.2.2.1.2.1 (gx (e:=.pair (.int ax)<|.pair (.int ax)<|.pair (.int .u16)<|.pair AO Ai) s.l s.i).2.2.2.1.2.2.1 (gx (e:=.pair (.int ax)<|.pair (.int ax)<|.pair (.int .u16)<|.pair AO Ai) s.l s.i).2.2.2.1.2.2.2.1 (gx (e:=.pair (.int ax)<|.pair (.int ax)<|.pair (.int .u16)<|.pair AO Ai) s.l s.i).2.2.2.1.2.2.2.2 (gx (e:=.pair (.int ax)<|.pair (.int ax)<|.pair (.int .u16)<|.pair AO Ai) s.l s.i).2.2.2.2.1 (gx (e:=.pair (.int ax)<|.pair (.int ax)<|.pair (.int .u16)<|.pair AO Ai) s.l s.i).2.2.2.2.2.1 (gx (e:=.pair (.int ax)<|.pair (.int ax)<|.pair (.int .u16)<|.pair AO Ai) s.l s.i).2.2.2.2.2.2.1 (gx (e:=.pair (.int ax)<|.pair (.int ax)<|.pair (.int .u16)<|.pair AO Ai) s.l s.i).2.2.2.2.2.2.2⟩:JL)
def j5 (s:Mw):T (Rd Mw):=letI a:=dF<|NK s;.br (aq<|s.i<s.n) (.ix s.i (M s.l)<|.rl s.sent<|.req (S1.q<|NK s)<|.br (Bt (tF<|NK s)<|.exit 2) (.rl a.sent<|.nx {s with b:=a.b,many:=a.many,nx:=a.nx,i:=AA<|s.i+1,p:=a.p,sent:=a.sent})<|.rl a.sent<|.so (.ret) {s with b:=a.b,many:=a.many,nx:=a.nx,p:=a.p,sent:=a.sent})<|.rl s.sent<|.so (.exit 0) s
def lg (s:Mw):Prop:=s.i=0/\(s.many=0/\s.nx=0)/\DG s.p s.sent s.nx/\(s.p.tk<=150/\s.p.tk<=s.many/\0<=s.many)/\0<=s.nx/\(s.n=(M s.l:Y)/\s.n<=100)/\(∀x∈s.l,TmO x)/\agB s.ag
def Un (s:Mw):Prop:=(0<=s.i/\s.i<=s.n)/\(s.many<=12*s.i/\s.nx<=12*s.i)/\DG s.p s.sent s.nx/\(s.p.tk<=150/\s.p.tk<=s.many/\0<=s.many)/\0<=s.nx/\(s.n=(M s.l:Y)/\s.n<=100)/\(∀x∈s.l,TmO x)/\agB s.ag
def ui (s:Mw):aD:=(s.n-s.i).toNat
def aCN (x:Ex) (s s':Mw):Prop:=x=.exit 0
def ani:∀s,lg s->Un s:=by
 rintro s ⟨h0,⟨h1,h2⟩,h3,h4,h5,h6,h7⟩
 exact ⟨A0,A0,h3,h4,h5,h6,h7⟩
def aTo {s:Mw}(hI:Un s) (c1:s.i<s.n):Y2 (tF<|NK s) (NK s) (dF<|NK s)/\YK (NK s):=by
 obtain ⟨⟨h0,h1⟩,h2,hD,ht,n0,h3,h4,ha⟩:=id hI
 have h5:=h4 (gx (e:=(.pair (.int ax)<|.pair (.int ax)<|.pair (.int .u16)<|.pair AO Ai)) s.l s.i) (by unfold gx;rw [K3 A0];exact Fk _)
 have hE:YK (NK s):=⟨rfl,h2,hD,ht,n0,azK _ _,⟨h0,by show s.i<=100;omega⟩,azL h5.1 h5.2,ha⟩
 obtain ⟨_,_,q⟩:=avs _ hE;exact ⟨q,hE⟩
def ait:Da Un ui aCN j5:=by
 intro s hI;unfold j5;dsimp only [T.rd,T.rl,T.rv];obtain ⟨⟨h0,h1⟩,h2,hD,ht,n0,h3,h4,ha⟩:=id hI;refine AH (λc1=>?_) λc1=>rfl
 have c1:s.i<s.n:=AY
 obtain ⟨x1,⟨x2,x3⟩,x4,x5,x6⟩:=(aTo hI c1).1;rw [AJ (x:=s.i+1)];refine AH (λc2=>?_) λc2=>?_
 ·have x2:(dF<|NK s).many<=12*s.i+12:=x2
  have x3:(dF<|NK s).nx<=12*s.i+12:=x3
  exact ⟨⟨⟨AZ,AZ⟩,⟨AZ,AZ⟩,x4,x5,x6,h3,h4,ha⟩,by simp only [ui];omega⟩
 ·rw [x1] at c2
  cases c2
def S0:AS Mw:=⟨0,165,[3,8,9,10,12,13,14,45,46,47],[.nl 12 70 AO,.ps 10 0 Ae,.ps 10 1 .str,.ps 10 2 Ak,.ps 10 3 Af,.ps 10 4 Al,.ps 10 7 AO,.ps 10 9<|.int ax,.ps 10 10 Aq,.ps 10 12 B7,.ps 10 13 AO,.ps 10 14 BC,.ps 10 15 BU,.ps 10 16 Ai,.ps 10 17 BP,.ps 10 18 A7,.ps 10 19 A7],λs=>[.xl (.pair (.int ax)<|.int ax) s.ag,s.b,s.b1,.own 0 0,.os 1 5 0<|M s.sent,s.many,s.nx,.xl (.pair (.int ax)<|.pair (.int ax)<|.pair (.int .u16)<|.pair AO Ai) s.l,s.n,s.i],λs=>[⟨[s.p.cs,s.p.os,s.p.ks,s.p.gs,s.p.bs,s.p.tk,s.p.up,s.p.ls,s.p.se,.xl (.int ax) s.p.fl,s.p.ra,s.p.nx,s.p.st,s.p.ca,s.p.mi,s.p.me,s.p.dm,s.p.lk,.xl A7 s.p.dr,.xl A7 s.p.tg],48,.cl,X⟩,bV 70 AO s.sent],λv b=>⟨B3 (.pair (.int ax)<|.int ax) v 0,Ds v 1,Ds v 2,AL v 5,AL v 6,Ao (.pair (.int ax)<|.pair (.int ax)<|.pair (.int .u16)<|.pair AO Ai)<|v.getD 7 .junk,AL v 8,AL v 9,rQ b 0,Ab AO b 1⟩,j5,λs r=> {r with ag:=s.ag,b1:=s.b1,l:=s.l,n:=s.n},λs=>s,λ_ s=>s,[.ret,.exit 0],lg,Un,ui⟩
abbrev aIw:=S0.run
abbrev tE:=S0.Av
def azd:Rq Un j5:=by
 intro s hI;refine ⟨λc1=>⟨?_,A9,?_,λc2=>⟨A9,an⟩,λc2=>⟨A9,an⟩⟩,λc1=>⟨A9,an⟩⟩
 all_goals ((obtain ⟨⟨h0,h1⟩,h2,hD,ht,n0,h3,h4⟩:=id hI;simp only [Aa] at c1;first|omega|exact ⟨(aTo hI c1).2,rfl,rfl⟩))
def ia:aO:=[zi,iv,zn,gM,PA,zt]
def aT6:Az:=kI ia<|l0 ia
def aRr:S0.Ok:={}
def aRU:S0.Pf (aCN):=⟨ani,λs h=>rfl,ait,azd⟩
def aqy:SA 0 rk S0:=AS.snd aRr aRU (dY (Γ:=ia) (K:=aT6) (L:=(λi=>if i=14 then S1.lp else Ap i)) (gk ia) aT6.h rk (λb hb=>by
 rw [show BD _=[rp] by kernel_rfl] at hb
 simp only [B9,Bx,By] at hb;subst hb;exact aqz)) λs=>AX
def avr:Fi lg Un aCN tE aIw:=AS.fin aRr aRU
structure O1 where
 dr:aC
 l:List (Int×(Int×(Int×(Le×Dm))))
 b:aN
 x:List (Int×(Int×(Int×(Le×Dm))))
 (m i:Y)
 cs:aL
 os:aF
 ks:aR
 gs:aG
 bs:aS
def aGy:=bN f5 0
def jG (s:O1):T (Rd O1):=
 .br (aq<|s.i<s.m) (.ix s.i (M s.x)<|.req ((14:Y)≠0)<|.br ((((gx (e:=.pair (.int ax)<|.pair (.int ax)<|.pair (.int .u16)<|.pair AO Ai) s.x s.i).1.tmod 14)==12) ||((gx (e:=.pair (.int ax)<|.pair (.int ax)<|.pair (.int .u16)<|.pair AO Ai) s.x s.i).2.2.2.1.1==4)) (.so (.ret) {s with b:=X})<|.nx {s with i:=AA<|s.i+1}) (.so (.exit 0) s)
def Tm (s:O1) (j:Y):aN:=tmB<|gx (e:=(.pair (.int ax)<|.pair (.int ax)<|.pair (.int .u16)<|.pair AO Ai)) s.x j
def kM (s:O1):Prop:=s.i=0/\0<=s.m/\s.m<=17592186044416/\s.m=(M s.x:Y)
def Yp (s:O1):Prop:=0<=s.i/\s.i<=s.m/\s.m<=17592186044416/\(s.m=(M s.x:Y))/\∀j:aD,(j:Y)<s.i->Tm s j=U
def vL (s:O1):aD:=(s.m-s.i).toNat
def aCW (x:Ex) (s s':O1):Prop:=(x=.exit 0/\∀j:aD,(j:Y)<s'.m->Tm s' j=U)\/(x=.ret/\s'.b=X/\∃j:aD,(j:Y)<s'.m/\Tm s' j=X)
def akZ:∀s,kM s->Yp s:=by
 exact KN
def ayb:Da Yp vL aCW jG:=by
 intro s hI;unfold jG;dsimp only [T.rd,T.rl,T.rv];obtain ⟨h0,h1,h2,h3,h4⟩:=hI;refine AH (λc1=>AH (λc2=>?_) λc2=>?_) λc1=>?_
 ·have c1:s.i<s.m:=AY
  refine .inr ⟨rfl,rfl,s.i.toNat,AZ,?_⟩;rw [CS A0]
  have hg:Tm s s.i=false:=aOi
  exact hg
 ·have c1:s.i<s.m:=AY
  have hg:Tm s s.i=true:=aOi
  rw [AJ (x:=s.i+1)];refine ⟨⟨AZ,AZ,h2,h3,λj hj=>?_⟩,by simp only [vL];omega⟩
  by_cases hji:(j:Y)<s.i
  ·exact h4 j hji
  ·exact aMe
 ·exact nN
def Re:AS O1:=⟨0,38,[1,2,3,6,9,10,11],[],λs=>[.xl A7 s.dr,.xl (.pair (.int ax)<|.pair (.int ax)<|.pair (.int .u16)<|.pair AO Ai) s.l,.own 0 0,s.b,.xl (.pair (.int ax)<|.pair (.int ax)<|.pair (.int .u16)<|.pair AO Ai) s.x,s.m,s.i],λs=>[⟨[s.cs,s.os,s.ks,s.gs,s.bs],28,.cl,X⟩],λv b=>⟨B3 A7 v 0,Ao (.pair (.int ax)<|.pair (.int ax)<|.pair (.int .u16)<|.pair AO Ai)<|v.getD 1 .junk,Ds v 3,Ao (.pair (.int ax)<|.pair (.int ax)<|.pair (.int .u16)<|.pair AO Ai)<|v.getD 4 .junk,AL v 5,AL v 6,AF Ae b 0 0,AF .str b 0 1,AF Ak b 0 2,AF Af b 0 3,AF Al b 0 4⟩,jG,λs r=> {s with b:=r.b,i:=r.i},λs=>s,λ_ s=>s,[.ret,.exit 0],kM,Yp,vL⟩
abbrev sj:=Re.run
abbrev fp:=Re.Av
def ays:Rq Yp jG:=by
 exact yH
def aSt:aO:=[zt]
def aS3:Re.Ok:={}
def aQZ:Re.Pf (aCW):=⟨akZ,λs h=>rfl,ayb,ays⟩
def arv:SA 0 aGy Re:=s1 aS3 aQZ aSt kN
def at1:Fi kM Yp aCW fp sj:=AS.fin aS3 aQZ
def aTy:aE->T LV
 | .agg a::r=>s5 a λcs os ks gs bs=>(match r with
  | [.xl (.int J) dr,.xl (.pair (.int ax) (.pair (.int ax) (.pair (.int .u16) (.pair (.pair (.int J) (.pair (.int J) (.pair (.int J) (.pair (.int J) (.int J))))) (.pair .bool (.pair (.int J) (.pair (.int J) (.int J)))))))) l]=> .req (M l<=17592186044416) (.ok<|.v<|.bool<|l.all tmB&&(aq (M cs<=40/\M os<=40/\M ks<=40/\M gs<=40/\M bs<=40)&&(aq ((M dr:Y)<=40)&&aq ((M l:Y)<=40))))
  |_=> .no)
 |_=> .no
def dS (cs:aL) (os:aF) (ks:aR) (gs:aG) (bs:aS) (dr:aC) (l:List<|Int×(Int×(Int×(Le×Dm)))):O1:=(⟨dr,l,X,l,(M l:Y),0,cs,os,ks,gs,bs⟩:O1)
def ak1:=vm (S:=aTy) func5 aSt kN (L:=(λi=>if i=2 then Re.lp else Ap i)) (λb hb=>by
 rw [show BD _=[aGy] by kernel_rfl] at hb
 simp only [B9,Bx,By] at hb;subst hb;exact arv) (λargs lv h=>by
 unfold aTy at h;split at h
 case h_2=>cases h
 replace h:=Ia h
 obtain ⟨cs,os,ks,gs,bs,rfl,h⟩:=h;split at h
 ·rename_i dr l
  refine Au (letI a:=dS cs os ks gs bs dr l;.req (Re.q a)<|.br (Bt (fp a)<|.ret) (.ok (sj a).b)<|.ok<|.v<|.bool<|(aq<|M cs<=40/\M os<=40/\M ks<=40/\M gs<=40/\M bs<=40)&&((aq<|(M dr:Y)<=40)&&(aq<|(M l:Y)<=40))) ?_;obtain ⟨hk,rfl⟩:=h
  have E1:kM (dS cs os ks gs bs dr l):=⟨rfl,Sh _,by show (M l:Y)<=17592186044416;omega,rfl⟩
  have hl:DQ (M l) (λk=>tmB<|gx (e:=(.pair (.int ax)<|.pair (.int ax)<|.pair (.int .u16)<|.pair AO Ai)) l k)=l.all tmB:=qJ (f:=tmB)
  rw [<-hl];refine ⟨⟨E1,rfl,rfl⟩,?_⟩;obtain ⟨_,_,q⟩:=at1 _ E1
  have q:(fp (dS cs os ks gs bs dr l)=.exit 0/\_)\/(fp (dS cs os ks gs bs dr l)=.ret/\(sj<|dS cs os ks gs bs dr l).b=X/\∃j:aD,(j:Y)<(M l:Y)/\tmB (gx (e:=(.pair (.int ax)<|.pair (.int ax)<|.pair (.int .u16)<|.pair AO Ai)) l j)=X):=q
  rcases q with ⟨q1,q2⟩ |⟨q1,q2,j,q3,q4⟩
  ·rw [q1,show DQ (M l) (λk=>tmB<|gx (e:=(.pair (.int ax)<|.pair (.int ax)<|.pair (.int .u16)<|.pair AO Ai)) l k)=U from Dq.2 q2]
   exact ⟨λc=>EU,λ_=>rfl⟩
  ·rw [q1,q2,P1 j q3 q4]
   exact ⟨λ_=>rfl,λc=>EU⟩
 ·cases h)
def ah6 {cs:aL}{os:aF}{ks:aR}{gs:aG}{bs:aS}{dr:aC}(h:H3 cs os ks gs bs dr=0):letI a:=newP cs os ks gs bs dr;DG a [] 0/\a.tk=0:=by
 have hp:newP cs os ks gs bs dr=_:=AE zd
 have htk:(newP cs os ks gs bs dr).tk=0:=by rw [hp]
 have hlk:(newP cs os ks gs bs dr).lk=[]:=by rw [hp]
 refine ⟨⟨XA h,⟨ah4 h,λy hy=>(by cases hy)⟩,?_,?_⟩,htk⟩
 ·rw [hlk,htk];decide
 ·rw [htk];decide
def aUE:aE->T LV
 | .agg a::r=>s5 a λcs os ks gs bs=>(match r with
  | [.xl (.int J) dr,.xl (.pair (.int ax) (.pair (.int ax) (.pair (.int .u16) (.pair (.pair (.int J) (.pair (.int J) (.pair (.int J) (.pair (.int J) (.int J))))) (.pair .bool (.pair (.int J) (.pair (.int J) (.int J)))))))) ops,.xl (.pair (.int ax) (.int ax)) ag]=> .req (M ops<=17592186044416/\agB ag) (.ok U)
  |_=> .no)
 |_=> .no
def adD:=uS f3 aUE
def aDg (cs:aL) (os:aF) (ks:aR) (gs:aG) (bs:aS) (dr:aC) (ops:List<|Int×(Int×(Int×(Le×Dm)))) (ag:aVt):Mw:=(⟨ag,X,U,0,0,ops,(M ops:Y),0,newP cs os ks gs bs dr,([]:aM)⟩:Mw)
def ahH:aO:=[zi,ak1,iv,zn,gM,PA]
def akA:VV 3 adD:=vm func3 ahH kN (L:=(λi=>if i=10 then S0.lp else Ap i)) (λb hb=>by
 rw [show BD _=[rk] by kernel_rfl] at hb
 simp only [B9,Bx,By] at hb;subst hb;exact aqy) (λargs lv h=>by
 unfold aUE at h;split at h
 case h_2=>cases h
 replace h:=Ia h
 obtain ⟨cs,os,ks,gs,bs,rfl,h⟩:=h;split at h
 ·rename_i dr ops ag
  refine Au (letI a:=aDg cs os ks gs bs dr ops ag;.req (M ops<=17592186044416)<|.br (!(ops.all tmB&&(aq (M cs<=40/\M os<=40/\M ks<=40/\M gs<=40/\M bs<=40)&&(aq ((M dr:Y)<=40)&&aq ((M ops:Y)<=40))))) (.ok U)<|.req (M dr<=1000)<|.br ((H3 cs os ks gs bs dr) !=0) (.ok U)<|.r0 Le<|.req (S0.q a)<|.br (Bt (tE a)<|.ret) (.ok (aIw a).b)<|.ok U) ?_;obtain ⟨⟨h1,h2⟩,rfl⟩:=h;refine ⟨h1,λ_=>rfl,λc1=>?_⟩
  simp only [IQ,AV,Aa] at c1;obtain ⟨c2,_,k1,k2⟩:=c1;refine ⟨A0,λ_=>rfl,λc3=>?_⟩
  obtain ⟨hD,htk⟩:=ah6<|Dy c3
  have hE:lg (aDg cs os ks gs bs dr ops ag):=⟨rfl,⟨rfl,rfl⟩,hD,(by show (newP cs os ks gs bs dr).tk<=150/\(newP cs os ks gs bs dr).tk<=0/\(0:Y)<=0;omega),Cz _,⟨rfl,(by show (M ops:Y)<=100;omega)⟩,aqp.1 c2,h2⟩
  obtain ⟨_,_,q⟩:=avr _ hE
  have q:tE (aDg cs os ks gs bs dr ops ag)=.exit 0:=q
  refine ⟨A9,⟨hE,rfl,rfl⟩,λc=>?_,λ_=>rfl⟩
  rw [q] at c;cases c
 ·cases h)
end Go.Proofs.YtepoohnehmfflaaGreatDoor
namespace Go.Sx
open Go Go.RowKit Go.Proofs.YtepoohnehmfflaaGreatDoor
def mb:Ty->Nat
 | .int k=>k.bits / 8
 | .bool=>1
 | .str=>16
 | .sl _=>24
 | .pair a b=>mb a+mb b
def JZ:(t:Ty)->t.D->Prop
 | .int k,n=>(Lit.int k n).wf=U
 | .bool,_=>True
 | .str,s=>s.size<=maxLen
 | .sl e,l=>(M l<=maxLen/\M l*mb e<=reachBytes)/\∀d,d∈l->JZ e d
 | .pair a b,d=>JZ a d.1/\JZ b d.2
def X1 (P:aQ):aD->aVT->Bool
 |_,[]=>U
 |o,f::fs=>aq (f.offset=o)&&X1 P (o+P.cellsOf f.type) fs
def Lz (P:aQ):aD->aT->Bool
 |0,_=>X
 |m+1,t=>match P.underlying t with
  |some (.int _) |some .bool|some .string=>aq (P.cellsOf t=1)
  |some (.struct fs)=>X1 P 0 fs.toList&&aq (P.cellsOf t=((fs.toList.map (·.type)).map P.cellsOf).sum)&&fs.toList.all (λf=>Lz P m f.type)
  |some (.array n e)=>aq (P.cellsOf t=((au n e).map P.cellsOf).sum)&&Lz P m e
  |some (.slice e)=>aq (P.cellsOf t=1)&&aq (1<=P.cellsOf e)&&(Ii P m e).any (λty=>ty.n==P.cellsOf e&&aq (mb ty<=P.bytesOf e))&&Lz P m e
  |_=>X
variable {H : Type} {enc : TypeId × Value -> H} {P : Program} {w : World} {base : Nat} {spare : Nat -> Bool} {held : Bool} {β : Nat -> Loc}
def Good (enc:TypeId×Value->H) (P:aQ) (w:aP) (base:aD) (spare:aD->aN) (held:aN) (t:aT) (cs:aV):Prop:=∃n x,DataW.trod enc P w base spare held n t cs=ai x/\∀k,k∈x.1.weights P t->k<=reachBytes
def rL {e:aT}{d:DataW H}{k:aD}(hk:k∈d.weights P e):∀ {l:List<|DataW H}{i:aD},l[i]? =ai d->k∈DataW.weightsAll P e l
 | [],_,h=>As
 |x::l,0,h=>by
  simp only [DataW.weightsAll,BZ]
  grind
 |x::l,i+1,h=>by
  simp only [DataW.weightsAll,BZ];exact .inr<|rL hk h
def aFE {t:aT}{d:DataW H}{k:aD}(hk:k∈d.weights P t):∀ {ts:bu}{l:List<|DataW H}{i:aD},ts[i]? =ai t->l[i]? =ai d->k∈DataW.weightsEach P ts l
 | [],_,_,h,_=>As
 |_::_,[],_,_,h=>As
 |u::ts,x::l,0,h1,h2=>by
  simp only [DataW.weightsEach,BZ]
  grind
 |u::ts,x::l,i+1,h1,h2=>by
  simp only [DataW.weightsEach,BZ];exact .inr<|aFE hk h1 h2
def aFF:∀ {ts us:bu}{ds gs:List<|DataW H},M ds=M ts->∀k,k∈DataW.weightsEach P ts ds->k∈DataW.weightsEach P (ts++us) (ds++gs)
 | [],_,[],_,_,_,h=>by simp [DataW.weightsEach] at h
 | [],_,_::_,_,h,_,_=>As
 |_::_,_,[],_,h,_,_=>As
 |t::ts,us,d::ds,gs,h,k,hk=>by
  simp only [DataW.weightsEach,BZ,KJ] at hk|-;rcases hk with hk|hk
  ·grind
  ·exact .inr<|aFF A8 k hk
def aED:∀ {ts:bu}{vs:aV}{ds:List<|DataW H}{ps:aVz},DataW.TrodAll enc P w base spare held ts vs ds ps->M ds=M ts
 | [],[],[],_,_=>rfl
 | [],_::_,_,_,h=>As
 | [],[],_::_,_,h=>As
 |_::_,[],_,_,h=>As
 |_::_,_::_,[],_,h=>As
 |_::_,_::_,_::_,_,h=>by
  obtain ⟨_,_,_,h2,_⟩:=h
  simp [aED h2]
def RL.append' {Z:aD->Prop}:∀ {l1 l2:aE}{y1 y2:aV},RL β Z w l1 y1->RL β Z w l2 y2->RL β Z w (l1++l2) (y1++y2)
 | [],l2,y1,y2,h1,h2=>by simp only [RL] at h1;subst h1;exact h2
 |x::xs,l2,y1,y2,h1,h2=>by
  obtain ⟨y,zs,rfl,h3,h4⟩:=h1;exact ⟨y,zs++y2,rfl,h3,RL.append' h4 h2⟩
def wW {Z:aD->Prop}:∀(t:Ty) (d:t.D) (cs:aV) (b o:aD),RL β Z w (Br t d) cs->(∀(j:aD) v,cs[j]? =ai v->w.cell? ⟨b,o+j,ak⟩=ai v)->RD Z w t d b o
 | .int k,d,cs,b,o,h,hc=>by
  exact yK
 | .bool,d,cs,b,o,h,hc=>by
  exact yK
 | .str,d,cs,b,o,h,hc=>by
  exact yK
 | .sl e,d,cs,b,o,h,hc=>by
  obtain ⟨y,zs,rfl,⟨a,cap,rfl,h2,h3⟩,_⟩:=h;simp only [RD];exact ⟨a,cap,hc 0 _ rfl,h2,h3⟩
 | .pair p q,d,cs,b,o,h,hc=>by
  simp only [Br] at h
  have hl:=RL.length h
  have h1:=h.take_drop 0 p.n
  have h2:RL β Z w ((Br p d.1++Br q d.2).drop p.n) (cs.drop p.n):=by
   refine RL.CW (by simp [hl,KT]) λi z hz=>?_
   rw [FM] at hz|-;exact RL.get _ _ h hz
  have t1:((Br p d.1++Br q d.2).drop 0).take p.n=Br p d.1:=by
   rw [CT,List.take_append_of_le_length yt,DS yt]
  have t2:(Br p d.1++Br q d.2).drop p.n=Br q d.2:=by
   rw [aM2 yt,Ei A8,EG]
  rw [t1,CT] at h1;rw [t2] at h2;simp only [RD];refine ⟨wW p d.1 _ b o h1 λj v hv=>?_,wW q d.2 _ b (o+p.n) h2 λj v hv=>?_⟩
  ·exact aNJ
  ·rw [FM] at hv
   grind
def rH {Z:aD->Prop}{r:aT->Option Ty}{sz:aT->aD}{Gd:aT->aV->Prop}:∀(ts:bu) (ty:Ty) (cs:aV),V4 r ts=ai ty->
  (∀t∈ts,∀ty c,r t=ai ty->Gd t c->∃d:ty.D,RL β Z w (Br ty d) c/\JZ ty d)->M cs=(ts.map sz).sum->(∀pre t post,ts=pre++t::post->Gd t ((cs.drop (pre.map sz).sum).take<|sz t))->∃d:ty.D,RL β Z w (Br ty d) cs/\JZ ty d
 | [],ty,cs,h,_,_,_=>by simp [V4] at h
 | [t],ty,cs,h,ih,hl,hg=>by
  have:=ih t AI ty _ h<|hg [] t [] rfl
  have e:(cs.drop (List.map sz []).sum).take (sz t)=cs:=by
   grind
  rw [e] at this;exact this
 | t::u::ts,ty,cs,h,ih,hl,hg=>by
  simp only [V4] at h;split at h
  ·rename_i a b ha hb
   simp only [Ah] at h;subst h;obtain ⟨d1,a1,a2⟩:=ih t AI a _ ha<|hg [] t (u::ts) rfl
   obtain ⟨d2,b1,b2⟩:=rH (sz:=sz) (Gd:=Gd) (u::ts) b (cs.drop<|sz t) hb (λt' ht=>ih t' A8) A8 (λpre t' post e=>by
    have:=hg (t::pre) t' post (by rw [e];rfl)
    simpa using this)
   refine ⟨(d1,d2),?_,by simp only [JZ];exact ⟨a2,b2⟩⟩
   have:=RL.append' a1 b1
   simp only [Br];exact QR
  ·cases h
def sO:∀(fs:aVT) (o:aD),X1 P o fs=U->∀pre f post,fs=pre++f::post->f.offset=o+((pre.map (·.type)).map P.cellsOf).sum
 | [],o,_,pre,f,post,e=>by cases pre<;>cases e
 |g::fs,o,h,[],f,post,e=>by
  simp only [X1,AV,Aa] at h
  grind
 |g::fs,o,h,p::pre,f,post,e=>by
  simp only [X1,AV,Aa] at h;simp only [KJ,Ht] at e
  have:=sO fs _ h.2 pre f post e.2
  grind
def fX {Z:aD->Prop}(hZ:∀b,b<w.heap.size->Z b):∀(m:aD) (t:aT) (ty:Ty),Lz P m t=U->Ii P m t=ai ty->∀cs,Good enc P w base spare held t cs->∃d:ty.D,RL β Z w (Br ty d) cs/\JZ ty d
 |0,t,_,h,_,_,_=>As
 | m + 1,t,ty,h,hty,cs,⟨n,x,hx,hwt⟩=>by
  simp only [Lz] at h;simp only [Ii] at hty;split at h
  ·rename_i k hu
   obtain ⟨z,rfl,_,hw⟩:=DataW.trod_int hu hx;simp only [hu,Ah] at hty;subst hty;exact ⟨z,z8,hw⟩
  ·rename_i hu
   obtain ⟨z,rfl,_⟩:=DataW.trod_bool hu hx;simp only [hu,Ah] at hty;subst hty;exact ⟨z,z8,an⟩
  ·rename_i hu
   obtain ⟨z,rfl,_,hs⟩:=DataW.trod_string hu hx;simp only [hu,Ah] at hty;subst hty;exact ⟨z,z8,hs⟩
  ·rename_i fs hu
   simp only [AV,Aa,BH] at h;obtain ⟨⟨h1,h2⟩,h3⟩:=h;obtain ⟨xs,n',_,rfl,hl,hxl,hf⟩:=DataW.trod_struct hu hx;simp only [DataW.weights,hu] at hwt;simp only [hu] at hty;refine rH (Gd:=Good enc P w base spare held) (sz:=P.cellsOf) (fs.toList.map (·.type)) ty cs hty (λt' ht ty' c hty' hc=>?_) o6 λpre t' post e=>?_
   ·obtain ⟨f,hf1,rfl⟩:=F4.1 ht
    exact fX hZ m f.type ty' (h3 f hf1) hty' c hc
   ·obtain ⟨fpre,frest,e1,e2,e3⟩:=List.map_eq_append_iff.1 e
    obtain ⟨f,fpost,rfl,e4,e5⟩:=List.map_eq_cons_iff.1 e3
    have ho:=sO fs.toList 0 h1 fpre f fpost e1
    have hi:fs[M fpre]? =ai f:=by
     exact aNQ
    have hg:=hf _ f hi
    have hlt:M fpre<fs.size:=(Ho.1 hi).1
    rw [ho,F5] at hg;refine ⟨n',xs[M fpre]' A0,?_,λk hk=>?_⟩
    ·rw [<-e2,<-e4,hg,Dg]
    ·rw [<-e4] at hk
     exact hwt k<|aFE hk (i:=M fpre) (by rw [e1];simp) yg
  ·rename_i n0 e hu
   simp only [AV,Aa] at h;obtain ⟨h2,h3⟩:=h;obtain ⟨xs,n',_,rfl,hl,hxl,hf⟩:=DataW.trod_array hu hx;simp only [DataW.weights,hu] at hwt;simp only [hu] at hty;refine rH (Gd:=Good enc P w base spare held) (sz:=P.cellsOf) (au n0 e) ty cs hty (λt' ht ty' c hty' hc=>?_) o6 λpre t' post e'=>?_
   ·rw [(Sg.1 ht).2] at hc hty'
    exact fX hZ m e ty' h3 hty' c hc
   ·obtain ⟨c1,c2,c3⟩:=aM3.1 e'
    have ht':t'=e:=by
     have:t'∈au n0 e:=by rw [e'];simp
     exact (Sg.1 this).2
    have hlen:M pre<n0:=by
     have:=B0 M e'
     simp at this;omega
    have hg:=hf (M pre) hlen
    refine ⟨n',xs[M pre]' A0,?_,λk hk=>?_⟩
    ·have hs:(pre.map P.cellsOf).sum=M pre*P.cellsOf e:=by rw [c2];simp
     rw [hs,ht',hg,Dg]
    ·rw [ht'] at hk
     exact hwt k<|rL hk (i:=M pre) yg
  ·rename_i e hu
   simp only [AV,Aa] at h;obtain ⟨⟨⟨h1,h2⟩,h4⟩,h3⟩:=h;simp only [hu,Option.map_eq_some_iff] at hty;obtain ⟨te,hte,rfl⟩:=hty;rw [hte] at h4;simp only [Option.any_some,AV,Aa,Cy] at h4;obtain ⟨h4,h5⟩:=h4;rcases DataW.trod_slice hu hx with ⟨rfl,_⟩ |⟨a,len,cap,elems,rest,n',_,rfl,rfl,hb,hlc,hm,hlen,hel,_,_⟩
   ·refine ⟨([]:List te.D),?_,⟨N9 _,AI⟩,λd hd=>Vf⟩
    simp only [Br,RL,R]
    grind
   ·simp only [DataW.weights,hu] at hwt
    have hroom:=hwt _<|List.mem_cons_self ..
    have each:∀i,∃d:te.D,i<len->∃c,w.cells? base (a.add<|i*P.cellsOf e) (P.cellsOf e)=ai c/\RL β Z w (Br te d) c/\JZ te d:=λi=>by
     by_cases hi:i<len
     ·have he:=hel i hi
      rw [Dg A0] at he;obtain ⟨c,hc,ht⟩:=Option.bind_eq_some_iff.1 he
      obtain ⟨d,l1,l2⟩:=fX hZ m e te h3 hte c ⟨n',_,ht,λk hk=>hwt k (by
       simp only [B9,BZ];exact .inr<|.inl<|rL hk (i:=i) yg)⟩
      exact ⟨d,λ_=>⟨c,hc,l1,l2⟩⟩
     ·exact ⟨te.dflt,λh=>absurd h hi⟩
    have ⟨g,hg⟩:=xr each
    have hlg:M ((av len).map g)=len:=AI
    refine ⟨(av len).map g,?_,⟨by rw [hlg];omega,by rw [hlg];exact Hq (Nat.mul_le_mul DC h5) hroom⟩,λd hd=>?_⟩
    ·simp only [Br,RL,R]
     refine ⟨_,[],rfl,⟨ai a,cap,by rw [hlg],by rw [hlg];omega,λhn=>?_⟩,rfl⟩
     rw [hlg] at hn;obtain ⟨c0,hc0,hr0,_⟩:=hg 0 hn;obtain ⟨_,hcl0,hat0⟩:=World.cells?_some hc0
     have hcell0:∃z,w.cell? ((a.add<|0*P.cellsOf e).add 0)=ai z:=by
      grind
     obtain ⟨z0,hz0⟩:=hcell0;obtain ⟨b,off,spot⟩:=a
     have hsp:spot=none:=by
      cases spot with
      |none=>rfl
      |some q=>
       unfold World.cell? at hz0;split at hz0
       ·simp [Addr.add] at hz0
       ·cases hz0
     subst hsp
     have hbl:b<w.heap.size:=by
      simp only [addr_add] at hz0;unfold World.cell? at hz0;split at hz0
      ·rename_i hh;exact (Ho.1 hh).1
      ·cases hz0
     refine ⟨b,off,rfl,hZ b hbl,λi d hd=>?_⟩
     have hi:i<len:=by
      have:=(EF.1 hd).1
      rwa [hlg] at this
     have hdd:d=g i:=by
      rw [Dh,y6 hi] at hd
      simpa using hd.symm
     subst hdd;obtain ⟨c,hc,hr,_⟩:=hg i hi;obtain ⟨_,hcl,hat⟩:=World.cells?_some hc;refine wW te (g i) c b _ hr λj v hv=>?_
     have hj:j<P.cellsOf e:=by
      have:=(EF.1 hv).1
      omega
     have:=hat j hj
     rw [hv] at this;rw [h4]
     simpa [addr_add,Hp] using this
    ·obtain ⟨i,hi,rfl⟩:=F4.1 hd
     obtain ⟨_,_,_,hw⟩:=hg i<|by simpa using hi
     exact hw
  ·cases h
def KE (P:aQ) (m:aD) (t:aT) (l:aE):Prop:=∃(ty:Ty) (d:ty.D),Ii P m t=ai ty/\l=Br ty d/\JZ ty d
def hU {P:aQ}{m:aD}{t:aT}{l:aE}{ty:Ty}(ht:Ii P m t=ai ty) (h:KE P m t l):∃d:ty.D,l=Br ty d/\JZ ty d:=by
 obtain ⟨ty',d,h1,h2,h3⟩:=h
 grind
def apH {Z:aD->Prop}(hZ:∀b,b<w.heap.size->Z b) (m:aD) (t:aT) (hs:Lz P m t=U) (ht:(Ii P m t).isSome=U) (cs:aV) (hg:Good enc P w base spare held t cs):∃l,RL β Z w l cs/\AT 0 l/\KE P m t l:=by
 obtain ⟨ty,hty⟩:=Zo.1 ht;obtain ⟨d,h1,h2⟩:=fX (β:=β) hZ m t ty hs hty cs hg;exact ⟨Br ty d,h1,NZ 0 ty d,ty,d,hty,rfl,h2⟩
end Go.Sx
namespace Go.Sx
open Go Go.RowKit Go.Proofs.YtepoohnehmfflaaGreatDoor Go.ChangeShapes Go.WideShapes
variable {H : Type} {enc : TypeId × Value -> H} {P : Program} {β : Nat -> Loc} {Z : Nat -> Prop}
def ade (hl:laidOutB P=U) {W W':aP}(hb:Below W.heap.size W W'):∀(ts:bu) (vs:aV) (ds:List<|DataW H) (ps:aVz),ts.all (λt=>P.readableRec t&&aq (t<P.types.size))=U->
  DataW.TrodAll enc P W 0 (λ_=>U) U ts vs ds ps->(∀x∈ps,x.block<W.heap.size)->DataW.TrodAll enc P W' 0 (λb=>aq<|b<W.heap.size) U ts vs ds ps
 | [],vs,ds,ps,_,h,_=>by
  cases vs<;>cases ds<;>first|exact h|exact h.elim
 | t::ts,vs,ds,ps,hr,h,hlt=>by
  cases vs with
  |nil=>cases ds<;>exact h.elim
  | cons v vs=>
   cases ds with
   |nil=>exact h.elim
   |cons d ds=>
    obtain ⟨p,q,h1,h2,rfl⟩:=h;simp only [It,AV,Aa] at hr;refine ⟨p,q,Below.trod hl hr.1.1 hr.1.2 h1 hb λx hx=>hlt x A8,?_,rfl⟩
    exact ade hl hb ts vs ds q A8 h2 λx hx=>hlt x A8
def apN {fn:aVw}{s:ChangeSpec}{tb:aT}{apart:aN}{W W':aP}{args:aY}{ds gs:List<|DataW H}{before:aVz}
  (hl:laidOutB P=U) (hr:fn.params.toList.all (λt=>P.readableRec t&&aq (t<P.types.size))=U) (hres:fn.resultTypes=#[tb]) (hb:P.underlying tb=ai .bool) (hvars:s.vars=[])
  (hfn:(s.fn H ds).results=[.lit<|.bool U]/\(s.fn H ds).args=ds/\(s.fn H ds).vars=[])
  (hW:DataW.Whole enc P fn.params.toList s.vars apart W args.toList ds gs before) (hB:Below W.heap.size W W'):s.post enc P fn apart U X X W args (.bool U) W':=by
 have hW':=hW
 obtain ⟨p,q,hA,hV,rfl,hfz,hnd⟩:=hW
 have hg:gs=[]/\q=[]:=by
  rw [hvars] at hV;cases gs with
  |nil=>exact ⟨rfl,hV⟩
  |cons g r=>exact hV.elim
 obtain ⟨rfl,rfl⟩:=hg
 have hlt:∀x∈p,x.block<W.heap.size:=λx hx=>hW'.lt x A8
 refine ⟨ds,[],p++[],[],p,[],hW',?_,?_,?_,hB.frame _,λh=>As⟩
 ·rw [Ge,hfn.1,hres]
  exact trodAll_mk1<|shut_bool hb U
 ·rw [Ge,hfn.2.1]
  exact ade hl hB _ _ _ _ hr hA hlt
 ·rw [Ge,hfn.2.2,hvars]
  rfl
def pLV (P:aQ) (t:aT) (l:aE):LV:=
 match P.underlying t with
 |some (.struct _)=>K2 l
 |some (.array _ _)=> .junk
 |_=>match l with
  | [x]=>x
  |_=> .junk
def cell_of {w:aP}{b0:aD}{r:Reach}{m:aD}{t:aT}(hs:Lz P m t=U) {v:aW}(hv:Value.okWide P w r b0 t v) (h1:∀fs,P.underlying t=ai (.struct fs)->False) (h2:∀n e,P.underlying t=ai (.array n e)->False):v.cells.toList=[v]:=by
 cases m with
 |zero=>cases hs
 | succ m=>
  simp only [Lz] at hs;split at hs
  ·rename_i k hu
   obtain ⟨n,rfl⟩:=okWide_int hu hv;rfl
  ·rename_i hu
   obtain ⟨n,rfl⟩:=okWide_bool hu hv;rfl
  ·rename_i hu
   obtain ⟨n,rfl⟩:=okWide_string hu hv;rfl
  ·rename_i fs hu
   grind
  ·rename_i n e hu
   grind
  ·rename_i e hu
   obtain ⟨a,l,c,rfl⟩:=okWide_slice hu hv;rfl
  ·cases hs
def aey {w:aP}{base b0:aD}{spare:aD->aN}{held:aN}{r:Reach}(hZ:∀b,b<w.heap.size->Z b) {m:aD}{t:aT}(hs:Lz P m t=U) (ht:(Ii P m t).isSome=U) {v:aW}{d:DataW H}{p:aVz}(hv:Value.okWide P w r b0 t v) (h:DataW.Trod enc P w base spare held t v d p) (hwt:∀k,k∈d.weights P t->k<=reachBytes):
  ∃l,okV 0 (pLV P t l)/\R β Z w (pLV P t l) v/\KE P m t l:=by
 obtain ⟨fuel,hf⟩:=h;obtain ⟨l,h1,h2,h3⟩:=apH (β:=β) hZ m t hs ht v.cells.toList ⟨fuel,_,hf,hwt⟩;refine ⟨l,?_,?_,h3⟩
 ·unfold pLV
  split
  ·exact Qi h2
  ·trivial
  ·split
   ·exact h2.1
   ·trivial
 ·unfold pLV
  split
  ·rename_i fs hu
   obtain ⟨cs,rfl,_⟩:=okWide_struct hu hv;exact WE h1
  ·exact Dx
  ·split
   ·rename_i x
    obtain ⟨y,zs,e1,e2,rfl⟩:=h1
    have hc:=cell_of hs hv A8 A8
    grind
   ·exact Dx
def S7 (P:aQ):bu->aVS->List LV
 |t::ts,l::ls=>pLV P t l::S7 P ts ls
 |_,_=>[]
def XD (P:aQ) (m:aD):bu->aVS->Prop
 | [],ls=>ls=[]
 |t::ts,ls=>∃l r,ls=l::r/\KE P m t l/\XD P m ts r
def aEG {w:aP}{base b0:aD}{spare:aD->aN}{held:aN}{r:Reach}(hZ:∀b,b<w.heap.size->Z b) {m:aD}:∀(ts:bu) (vs:aV) (ds:List<|DataW H) (ps:aVz),ts.all (λt=>Lz P m t&&(Ii P m t).isSome)=U->
  (∀(j:aD) t v,ts[j]? =ai t->vs[j]? =ai v->Value.okWide P w r b0 t v)->DataW.TrodAll enc P w base spare held ts vs ds ps->(∀k,k∈DataW.weightsEach P ts ds->k<=reachBytes)->∃ls,AT 0 (S7 P ts ls)/\RL β Z w (S7 P ts ls) vs/\XD P m ts ls
 | [],vs,ds,ps,_,_,h,_=>by
  cases vs with
  |nil=>exact ⟨[],an,by simp [S7,RL],rfl⟩
  |cons _ _=>cases ds<;>exact h.elim
 | t::ts,vs,ds,ps,hs,hv,h,hwt=>by
  cases vs with
  |nil=>cases ds<;>exact h.elim
  | cons v vs=>
   cases ds with
   |nil=>exact h.elim
   |cons d ds=>
    obtain ⟨p,q,h1,h2,rfl⟩:=h;simp only [It,AV] at hs;simp only [DataW.weightsEach,BZ] at hwt;obtain ⟨l,a1,a2,a3⟩:=aey (β:=β) hZ hs.1.1 hs.1.2 (hv 0 t v rfl rfl) h1 λk hk=>hwt k<|.inl hk
    obtain ⟨ls,b1,b2,b3⟩:=aEG hZ ts vs ds q hs.2 (λj t' v' e1 e2=>hv (j+1) t' v' A8 A8) h2 λk hk=>hwt k<|.inr hk
    exact ⟨l::ls,⟨a1,b1⟩,⟨v,vs,rfl,a2,b2⟩,l,ls,rfl,a3,b3⟩
def aeT {G:B5}{f:bh}{fn:aVw}{S:aE->T LV}{s:ChangeSpec}{tb:aT}{apart:aN}{m:aD}{W:aP}{base:aD}{args:aY}{ds gs:List<|DataW H}{before:aVz}
  (hv:Valid P G f S) (hl:laidOutB P=U) (hr:fn.params.toList.all (λt=>P.readableRec t&&aq (t<P.types.size))=U) (hres:fn.resultTypes=#[tb]) (hb:P.underlying tb=ai .bool) (hvars:s.vars=[])
  (hfn:(s.fn H ds).results=[.lit<|.bool U]/\(s.fn H ds).args=ds/\(s.fn H ds).vars=[]) (hs:fn.params.toList.all (λt=>Lz P m t&&(Ii P m t).isSome)=U)
  (hS:∀ls,XD P m fn.params.toList ls->(S<|S7 P fn.params.toList ls).all (λx=>x=.v (.bool U)))
  (hg:QC G (λb=>b<W.heap.size) W)
  (hval:∀(j:aD) t v,fn.params[j]? =ai t->args[j]? =ai v->Value.okWide P W .any base t v)
  (hW:DataW.Whole enc P fn.params.toList s.vars apart W args.toList ds gs before) {us:bu} (hz:(DataW.weightsEach P (fn.params.toList++us)<|ds++gs).all (·<=reachBytes)=U):
  Calls P f args W λe W'=>∃v,e=.returned v/\s.post enc P fn apart U X X W args v W':=by
 have hA:∃p,DataW.TrodAll enc P W 0 (λ_=>U) U fn.params.toList args.toList ds p:=by
  obtain ⟨p,q,hA,_⟩:=hW
  grind
 obtain ⟨p,hA⟩:=hA;obtain ⟨ls,h1,h2,h3⟩:=aEG (β:=β0) (Z:=λb=>b<W.heap.size) (λ_ h=>h) fn.params.toList args.toList ds p hs (λj t v e1 e2=>hval j t v A8 A8) hA λk hk=>Ct<|BH.1 hz k<|aFF (aED hA) k hk
 refine (hv _ args W _ _ (λ_ h=>h) hg h1 h2<|hS ls h3).mono λe W' ⟨hB,v,he,_,hR⟩=>⟨v,he,?_⟩
 rw [hR];exact apN hl hr hres hb hvars hfn hW hB
end Go.Sx
namespace Go.Sx
open Go Go.RowKit Go.Proofs.YtepoohnehmfflaaGreatDoor
variable {H : Type} {enc : TypeId × Value -> H} {P : Program} {w : World} {base : Nat} {spare : Nat -> Bool} {held : Bool}
def Pb {H:Type}:aD->DataW H->List Value
 |0,_=>[]
 |_+1,.lit (.int k n)=>[ah k n]
 |_+1,.lit (.bool b)=>[.bool b]
 |m+1,.agg l=>l.flatMap (Pb m)
 |_,_=>[]
def Wz (P:aQ):aD->aT->Bool
 |0,_=>X
 |m+1,t=>match P.underlying t with
  |some (.int _) |some .bool=>U
  |some (.struct fs)=>X1 P 0 fs.toList&&aq (P.cellsOf t=((fs.toList.map (·.type)).map P.cellsOf).sum)&&fs.toList.all (λf=>Wz P m f.type)
  |some (.array n e)=>aq (P.cellsOf t=((au n e).map P.cellsOf).sum)&&Wz P m e
  |_=>X
def rU {sz:aT->aD}{g:DataW H->aV}{Tr:aT->aV->DataW H->Prop}:∀(ts:bu) (cs:aV) (ds:List<|DataW H),
  (∀t∈ts,∀c d,Tr t c d->g d=c)->M ds=M ts->M cs=(ts.map sz).sum->(∀pre t post,ts=pre++t::post->∃d,ds[M pre]? =ai d/\Tr t ((cs.drop (pre.map sz).sum).take<|sz t) d)->ds.flatMap g=cs
 | [],cs,ds,_,h0,hl,_=>by
  grind
 |t::ts,cs,[],_,h0,_,_=>A8
 | t::ts,cs,d::ds,ih,h0,hl,hg=>by
  obtain ⟨d',e1,e2⟩:=hg [] t ts rfl
  simp at e1
  subst e1
  have r:=rU (sz:=sz) (g:=g) (Tr:=Tr) ts (cs.drop<|sz t) ds (λt' ht=>ih t' A8) A8 A8 (λpre t' post e=>by
   obtain ⟨q,q1,q2⟩:=hg (t::pre) t' post A8;refine ⟨q,A8,?_⟩
   simpa using q2)
  rw [mq,r,ih t AI _ _ e2]
  simp
def tA:∀(m:aD) (t:aT),Wz P m t=U->∀(n:aD) (cs:aV) (x:DataW H×List MemPlace),DataW.trod enc P w base spare held n t cs=ai x->Pb m x.1=cs
 |0,t,h,_,_,_,_=>As
 | m +1,t,h,n,cs,x,hx=>by
  simp only [Wz] at h;split at h
  ·rename_i k hu
   obtain ⟨z,rfl,rfl,hw⟩:=DataW.trod_int hu hx;rfl
  ·rename_i hu
   obtain ⟨z,rfl,rfl⟩:=DataW.trod_bool hu hx;rfl
  ·rename_i fs hu
   simp only [AV,Aa,BH] at h;obtain ⟨⟨h1,h2⟩,h3⟩:=h;obtain ⟨xs,n',_,rfl,hl,hxl,hf⟩:=DataW.trod_struct hu hx;simp only [Pb];refine rU (sz:=P.cellsOf) (Tr:=λt c d=>∃y,DataW.trod enc P w base spare held n' t c=ai y/\y.1=d) (fs.toList.map (·.type)) cs _ (λt' ht c d hc=>?_) (by simp [hxl]) o6 λpre t' post e=>?_
   ·obtain ⟨f,hf1,rfl⟩:=F4.1 ht
    obtain ⟨y,hy,rfl⟩:=hc;exact tA m f.type (h3 f hf1) n' c y hy
   ·obtain ⟨fpre,frest,e1,e2,e3⟩:=List.map_eq_append_iff.1 e
    obtain ⟨f,fpost,rfl,e4,e5⟩:=List.map_eq_cons_iff.1 e3
    have ho:=sO fs.toList 0 h1 fpre f fpost e1
    have hi:fs[M fpre]? =ai f:=by
     exact aNQ
    have hg:=hf _ f hi
    have hlt:M fpre<fs.size:=(Ho.1 hi).1
    refine ⟨(xs[M fpre]' A0).1,?_,xs[M fpre]' A0,?_,rfl⟩
    ·grind
    ·grind
  ·rename_i n0 e hu
   simp only [AV,Aa] at h;obtain ⟨h2,h3⟩:=h;obtain ⟨xs,n',_,rfl,hl,hxl,hf⟩:=DataW.trod_array hu hx;simp only [Pb];refine rU (sz:=P.cellsOf) (Tr:=λt c d=>∃y,DataW.trod enc P w base spare held n' t c=ai y/\y.1=d) (au n0 e) cs _ (λt' ht c d hc=>?_) (by simp [hxl]) o6 λpre t' post e'=>?_
   ·rw [(Sg.1 ht).2] at hc
    obtain ⟨y,hy,rfl⟩:=hc;exact tA m e h3 n' c y hy
   ·obtain ⟨c1,c2,c3⟩:=aM3.1 e'
    have ht':t'=e:=by
     grind
    have hlen:M pre<n0:=by
     have:=B0 M e'
     simp at this;omega
    have hs:(pre.map P.cellsOf).sum=M pre*P.cellsOf e:=by rw [c2];simp
    refine ⟨(xs[M pre]' A0).1,?_,xs[M pre]' A0,?_,rfl⟩
    ·grind
    ·grind
  ·cases h
def aeG {W:aP}{name:aVQ}{d:DataW Unit}{rest:aVL}{g:aD}{t:aT}{m:aD}(hg:P.globalNamed name=ai g) (hty:(P.globals[g]?).map (·.type)=ai t) (hp:Wz P m t=U)
  (h:laidMet P ((name,d)::rest) W):(∀i,W.cell? ⟨g,i,ak⟩=(Pb m d)[i]?)/\((Pb m d)≠ []->g<W.heap.size):=by
 obtain ⟨ps,⟨g',t',cs,fuel,p,q,hg',ht',hvar,hd,_,_⟩,_⟩:=h;obtain rfl:=EE<|hg.symm.trans hg';obtain rfl:=EE<|hty.symm.trans ht'
 have hf:=tA m t hp fuel _ _ hd
 have hcell:∀i,W.cell? ⟨g,i,ak⟩=(Pb m d)[i]? :=λi=>by
  rw [World.var?_cell hg hvar i,hf];simp
 refine ⟨hcell,λhne=>?_⟩
 have h0:=hcell 0
 cases hh:(Pb m d)[0]? with
 |none=>exact absurd (List.getElem?_eq_none_iff.1 hh) A8
 |some z=>
  rw [hh] at h0;unfold World.cell? at h0;split at h0
  ·grind
  ·cases h0
end Go.Sx
namespace Go.Proofs.YtepoohnehmfflaaGreatDoor
set_option maxRecDepth 100000
set_option maxHeartbeats 4000000
open Go.Proofs.Tryz
open Go.Sx Go.ChangeShapes Go.WideShapes Go.ChangeAt Go.RowKit
def own:ownKnob prog.godebug=none:=AX
def laidOut:laidOutB prog=true:=AX
def aE6 {P:aQ}{x:String×DataW Unit}{r:aVL}{W:aP}(h:laidMet P (x::r) W):laidMet P r W:=by
 obtain ⟨n,d⟩:=x;obtain ⟨ps,⟨g,t,cs,fuel,p,q,h1,h2,h3,h4,h5,rfl⟩,hn,hm⟩:=h;exact ⟨q,h5,(xi.1 hn).2.1,λb off hb=>hm b off<|List.mem_append_right _ hb⟩
def wD {W:aP}{name:aVQ}{d:DataW Unit}{rest:aVL}{g:aD}{t:aT}{n:aD}{f:aD->aW}(hg:prog.globalNamed name=ai g) (hty:(prog.globals[g]?).map (·.type)=ai t) (hp:Wz prog 4 t=U) (h:laidMet prog ((name,d)::rest) W) (key:Pb 4 d=(av<|n+1).map f):g<W.heap.size/\∀j,j<n+1->W.cell? ⟨g,j,ak⟩=ai (f j):=by
 obtain ⟨h1,h2⟩:=aeG (m:=4) hg hty hp h;refine ⟨h2 (by rw [key];intro h0;exact absurd (B0 M h0) AI),λj hj=>?_⟩
 rw [h1 j,key,Dh,y6 hj];rfl
def apu {W:aP}(h:laidMetH prog [("chargepark/charger.afterwards",Rows.laid_chargepark_charger_afterwards),("chargepark/ramp.happens",Rows.laid_chargepark_ramp_happens),("chargepark/vault.widths",Rows.laid_chargepark_vault_widths)] W):QC AU (λb=>b<W.heap.size) W:=by
 have h:laidMet prog [("chargepark/charger.afterwards",Rows.laid_chargepark_charger_afterwards),("chargepark/ramp.happens",Rows.laid_chargepark_ramp_happens),("chargepark/vault.widths",Rows.laid_chargepark_vault_widths)] W:=h
 have a1:=wD (t:=245) (n:=59) (f:=λj=> ah J<|Wp j) (g:=0) AX AX AX h AX
 have a2:=wD (t:=273) (n:=7) (f:=λj=> ah J<|Uo j) (g:=2) AX AX AX (aE6 h) AX
 have a3:=wD (t:=254) (n:=4) (f:=λj=> ah J<|aD8 j) (g:=1) AX AX AX (aE6<|aE6 h) AX
 intro g n f hg;unfold AU at hg;split at hg
 ·cases hg;exact a2
 ·cases hg;exact a1
 ·cases hg;exact a3
 ·cases hg
def aFi {H:Type}{enc:TypeId×Value->H}{P:aQ}{w:aP}{base:aD}{spare:aD->aN}{held:aN}:∀ {ts:bu}{vs:aV}{ds:List<|DataW H}{ps:aVz},DataW.TrodAll enc P w base spare held ts vs ds ps->M ds=M ts
 | [],[],[],_,_=>rfl
 | [],_::_,_,_,h=>As
 | [],[],_::_,_,h=>As
 |_::_,[],_,_,h=>As
 |_::_,_::_,[],_,h=>As
 |_::_,_::_,_::_,_,h=>by
  obtain ⟨_,_,_,h2,_⟩:=h
  simp [aFi h2]
def put (vs:aY):Obj->Obj
 | .cells _ t frozen=> .cells vs t frozen
 |o=>o
def laidWorld (os:Os):aP:=
 {World.holding prog os ⟨#[],#[],[]⟩ with heap:=(((World.holding prog os ⟨#[],#[],[]⟩).heap.modify 2<|put ((av 8).map λj=> ah J<|Uo j).toArray).modify 0<|put ((av 60).map λj=> ah J<|Wp j).toArray).modify 1<|put ((av 5).map λj=> ah J<|aD8 j).toArray}
namespace TopDoubledMessages
def wf_u8 {d:(Ty.int ax).D}(h:JZ (.int ax) d):(0:Y)<=d/\d<=(255:Y):=by
 simp only [JZ,Lit.wf,AV] at h;exact ⟨Ct h.1,Ct h.2⟩
def awt {l:List ((.pair (.int ax)<|.pair (.int ax)<|.pair (.int .u16)<|.pair AO Ai):Ty).D}(h:JZ (.sl<|.pair (.int ax)<|.pair (.int ax)<|.pair (.int .u16)<|.pair AO Ai) l):M l<=17592186044416:=by
 have h2:M l*mb (.pair (.int ax)<|.pair (.int ax)<|.pair (.int .u16)<|.pair AO Ai)<=reachBytes:=h.1.2
 have e:mb (.pair (.int ax)<|.pair (.int ax)<|.pair (.int .u16)<|.pair AO Ai)=69:=Ac
 rw [e] at h2;unfold reachBytes at h2;omega
def akN {l:aVt}(h:JZ (.sl<|.pair (.int ax)<|.int ax) l):agB l:=λx hx=>⟨wf_u8 (h.2 x hx).1,wf_u8 (h.2 x hx).2⟩
def opened (ls:aVS) (h:XD prog 8 f3.params.toList ls):(adD<|S7 prog f3.params.toList ls).all (λx=>x=.v (.bool U)):=by
 rw [Tryz.params3] at h|-;simp only [XD] at h;obtain ⟨l0,_,rfl,h0,l1,_,rfl,h1,l2,_,rfl,h2,l3,_,rfl,h3,rfl⟩:=h;obtain ⟨d0,rfl,w0⟩:=hU (ty:=(.pair (.sl Ae)<|.pair (.sl .str)<|.pair (.sl Ak)<|.pair (.sl Af)<|.sl Al)) AX h0;obtain ⟨d1,rfl,w1⟩:=hU (ty:=(.sl<|.int J)) AX h1;obtain ⟨d2,rfl,w2⟩:=hU (ty:=(.sl<|.pair (.int ax)<|.pair (.int ax)<|.pair (.int .u16)<|.pair AO Ai)) AX h2;obtain ⟨d3,rfl,w3⟩:=hU (ty:=(.sl<|.pair (.int ax)<|.int ax)) AX h3;simp only [S7,pLV,Tryz.underlying30,Tryz.underlying31,Tryz.underlying29,Tryz.underlying28];refine aFq (t':=T.req (M d2<=17592186044416/\agB d3)<|T.ok<|LV.v<|Value.bool U) AX ?_;exact ⟨⟨awt w2,akN w3⟩,rfl⟩
def contract (H:Type) (enc:TypeId×Value->H) (W:aP) (base:aD) (args:aY) (ds gs:List<|DataW H) (before:aVz)
  (hval:∀(j:aD) t v,f3.params[j]? =ai t->args[j]? =ai v->Value.okWide prog W .any base t v)
  (hW:DataW.Whole enc prog f3.params.toList Rows.topDoubledMessagesSpec.vars X W args.toList ds gs before) (hL:laidMetH prog Rows.topDoubledMessagesRow.laid W) {us:bu} (hz:(DataW.weightsEach prog (f3.params.toList++us)<|ds++gs).all (·<=reachBytes)=U):
  Calls prog 3 args W λe W'=>∃v,e=.returned v/\Rows.topDoubledMessagesSpec.post enc prog f3 X U X X W args v W':=by
 refine aeT (m:=8) (tb:=4) akA laidOut AX AX Tryz.underlying4 rfl ?_ AX opened (apu hL) hval hW hz;obtain ⟨p,q,hA,_⟩:=hW
 have hl:=aFi hA
 rw [Tryz.params3] at hl
 match ds,hl with
 | [_,_,_,_],_=>exact ⟨rfl,rfl,rfl⟩
def laid_met (os:Os):laidMet prog Rows.topDoubledMessagesRow.laid ((laidWorld os).forCall (λ_ _=>0) ⟨#[],#[.agg #[.slice ak 0 0,.slice ak 0 0,.slice ak 0 0,.slice ak 0 0,.slice ak 0 0],.slice ak 0 0,.slice ak 0 0,.slice ak 0 0],[]⟩).memory:=
 laidMet_of_run' 8 AX AX
def reads (os:Os) {H:Type}(enc:TypeId×Value->H):∃places,DataW.whole enc prog ((laidWorld os).forCall (λ_ _=>0) ⟨#[],#[.agg #[.slice ak 0 0,.slice ak 0 0,.slice ak 0 0,.slice ak 0 0,.slice ak 0 0],.slice ak 0 0,.slice ak 0 0,.slice ak 0 0],[]⟩).memory f3.params.toList Rows.topDoubledMessagesSpec.vars X #[.agg #[.slice ak 0 0,.slice ak 0 0,.slice ak 0 0,.slice ak 0 0,.slice ak 0 0],.slice ak 0 0,.slice ak 0 0,.slice ak 0 0].toList 8=ai ([.agg [.nil,.nil,.nil,.nil,.nil],.nil,.nil,.nil],[],places):=
 ⟨[],AX⟩
def lifted (os:Os) (started:os.Started) (H:Type) (enc:TypeId×Value->H) (F:Stop.Interp):
  ReturnsInHanded {} Tryz.checked os 3 .any ((OpenSpec.ofChange Rows.topDoubledMessagesSpec).preRow enc prog f3 Rows.topDoubledMessagesRow.domain X Rows.topDoubledMessagesRow.laid) (((OpenSpec.ofChange Rows.topDoubledMessagesSpec).at F).post enc prog f3 X U X X):=by
 obtain ⟨places,hx⟩:=reads os enc
 refine returnsInHanded_of_row (C:=Tryz.checked) (s:=OpenSpec.ofChange Rows.topDoubledMessagesSpec) own started AX func3
  (witness_row_at (enc:=enc) (C:=Tryz.checked) X (laidWorld os) #[.agg #[.slice ak 0 0,.slice ak 0 0,.slice ak 0 0,.slice ak 0 0,.slice ak 0 0],.slice ak 0 0,.slice ak 0 0,.slice ak 0 0] rfl AX AX AX
   (OpenSpec.preRow_of_cond 8 hx AX (λk hk=>NG) AX<|laid_met os)) ?_
 intro W base args ds gs before hval hW _ _ hz hL _ _;exact contract H enc W base args ds gs before hval hW hL hz
def said:Rows.TopDoubledMessagesSaid:=
 OpenClaim.holds_of_cond 3 f3 rfl rfl rfl rfl rfl rfl rfl ⟨rfl,rfl,rfl,rfl,rfl⟩ rfl rfl rfl rfl rfl AX func3 AX
  (Ct AX) (by unfold Func.isWrapper;first|(rw [AD<|by decide+kernel];kernel_rfl) |(rw [AE<|by decide+kernel];exact ⟨rfl,rfl⟩))
  (λos started H enc _ F=>by rw [OpenClaim.pre_eq_preRow];exact lifted os started H enc F)
def plain (f:bh) (fn:aVw) (hf:Tryz.pinned.checked.prog.funcNamed "chargepark/chargeparktop.TopDoubledMessages"=ai f) (hfn:Tryz.pinned.checked.prog.funcs[f]? =ai fn):
  U=Tryz.pinned.checked.prog.looks []/\∀(j:aD) t,fn.params[j]? =ai t->Tryz.pinned.checked.prog.wantsStandIn t=false:=by
 obtain rfl:f=3:=EE ((show prog.funcNamed "chargepark/chargeparktop.TopDoubledMessages"=ai 3 by kernel_rfl).symm.trans hf) |>.symm
 obtain rfl:fn=f3:=(EE<|func3.symm.trans hfn).symm;refine ⟨AX,λj t ht=>?_⟩
 have h:f3.params.toList.all (λt=>!prog.wantsStandIn t)=true:=AX
 have:=BH.1 h t<|by simpa using Array.mem_of_getElem? ht
 show prog.wantsStandIn t=X
 simpa using this
def card:Rows.TopDoubledMessagesCardSaid:=
 Claim7.holds_tied_plain_at .later [] _ _ _ _ said (λ_ h=>As) AX (λ_ h=>As) topDoubledMessages_row_tie rfl ⟨rfl,rfl⟩ AX rfl plain AX
end TopDoubledMessages
theorem topDoubledMessages_card:Rows.TopDoubledMessagesCardSaid:=TopDoubledMessages.card
end Go.Proofs.YtepoohnehmfflaaGreatDoor
end
