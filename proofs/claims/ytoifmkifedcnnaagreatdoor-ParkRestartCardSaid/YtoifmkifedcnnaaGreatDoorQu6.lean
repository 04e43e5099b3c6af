/- ParkRestart returns true for all arguments. -/
import Derived.Test.YtoifmkifedcnnaaGreatDoorQu5
set_option linter.defProp false
set_option linter.unusedVariables false
set_option linter.unusedSimpArgs false
noncomputable section
open List renaming length→M,length→aa,replicate→aq,range→au
open Bool renaming true→U,true→ae,false→X,false→af
open Go.Value renaming int→ag
open Option renaming some→ah,none→aj
open Go.IntKind renaming i64→J,i64→ai,u8→aw,u32→ax
open True renaming intro→ak
open Decidable renaming decide→an
open ByteArray renaming mk→av
open Go.Region renaming ready→ay,wanted→az
open Go.Instr renaming findNow→aA
namespace Go.Proofs.YtoifmkifedcnnaaGreatDoor
set_option maxRecDepth 100000
set_option maxHeartbeats 4000000
open Go.Proofs.Tryz
open Go.Sx
variable {p : PK}
def vK {T:Y}{n:aWe}{t:Y}{l:aWn}(h:∀x∈l,TL n t x):below n l=U/\below n (frm T l)=true:=
 ⟨BO.2 λx hx=>Cg (h x hx).2.2.2,BO.2 λx hx=>Cg (h x (TM.1 hx).1).2.2.2⟩
structure TU (T:Y) (p:PK):Prop where
 jp:JP p
 tg:TG p
 up:p.up=U
 tk:T<=p.tk
 kn:E9 p.EP p.gs (DO p.gs (frm T p.ls) p.tk)=U
def TG.tu (h:TG p) (hJ:JP p) (hu:p.up=U):TU p.tk p:=by
 refine ⟨hJ,h,hu,Co _,?_⟩
 have e:frm p.tk p.ls=[]:=List.filter_eq_nil_iff.2 λx hx=>by
  have:=(h.sg.ls.2 x hx).1
  rw [Aa];omega
 rw [e]
 have hs:=aAh hJ.1.1
 have hl:M (Bv p.gs)=M p.gs:=Iu
 refine fM hs hs (K7.refl _) (λk hk=>sF hs A0) (λk hk=>⟨(Oj hs rfl A0 A0).1,?_⟩) h.kt
 have h0:=sF hs (k:=k) A0
 have e1:gi (Bv p.gs) k=Cw (AG p.gs k):=Of A0 A0
 have e2:gi (H3 (M p.gs) [] p.tk) k=0:=LY
 rw [WS A0 A0,e1,e2];rw [e1] at h0;unfold mx;split<;>omega
def TU.dec {T:Y}(h:TU T p) {t':Y}(ht:p.tk<=t'):E9 p.EP p.gs (DO p.gs (frm T p.AM.ls) t')=true:=by
 have hd:=h.tg.dec h.jp
 have hs:=aAh h.jp.1.1
 have b0:=vK (T:=T) h.tg.sg.ls.2
 have b1:=vK (T:=T) hd.ls.2
 have v0:=aBE (T:=T) h.jp.2.2
 have v1:=aBE (T:=T) hd.ls.1
 have hx:=vT h.jp
 by_cases c:p.dE=0
 ·obtain ⟨V,M,_⟩:=aBO c
  refine aow V hs (K7.refl _) M v0 b0.2 v1 b1.2 (λx hx'=>?_) (λx hx'=>?_) h.kn ht
  ·obtain ⟨q1,q2⟩:=TM.1 hx'
   have:=(h.tg.sg.ls.2 x q1).1
   exact ⟨A0,λq=>by rw [hx];exact CS.2 ⟨q1,Cg q⟩⟩
  ·obtain ⟨q1,q2⟩:=TM.1 hx'
   have q1:x∈p.AM.ls:=q1
   unfold PK.AM at q1;rw [AE yz,AE A0] at q1;rcases sv _ (At _) x q1 with q|q
   ·have q:x∈Dn p.ls p.tk:=q
    rw [hx] at q;exact .inl<|TM.2 ⟨(CS.1 q).1,q2⟩
   ·exact .inr q
 ·refine fM hs hs (K7.refl _) (λk hk=>Oj hs v0 A0 A0) (λk hk=>⟨(Oj hs v1 A0 A0).1,qq v0 b0.2 v1 b1.2 (λx hx' ha=>?_) A0 A0⟩) h.kn
  obtain ⟨q1,q2⟩:=TM.1 hx'
  have q1:x∈p.AM.ls:=q1
  unfold PK.AM at q1;rw [AE yz,AD c] at q1
  have q1:x∈Dn p.ls p.tk:=q1
  rw [hx] at q1
  have q3:=(CS.1 q1).1
  have:=(h.tg.sg.ls.2 x q3).1
  exact ⟨TM.2 ⟨q3,q2⟩,aH5 ht A0 ha⟩
def TU.tick {T:Y}(h:TU T p) (ht:p.tk<1000000):TU T p.Bh:=by
 obtain ⟨e1,e2,e3,e4,e5,e6,e7,e8,e9,e10,e11,e12,e13,e14⟩:=KO p;obtain ⟨he,eP,_,_,etk⟩:=aHg h.jp ht
 have hJ:=h.jp.step he
 rw [eP] at hJ
 have eg:p.Bh.gs=p.gs:=e4
 have eT:p.Bh.tg=p.tg:=e14
 have ea:p.Bh.EP=p.EP:=by
  show E0 p.Bh.cs p.Bh.tg (M p.Bh.tg)=_
  rw [eT];exact (rJ h.jp.1.1).ask h.jp.1.1.FE
 refine ⟨hJ,h.tg.tick h.jp,e7.trans h.up,by have:=h.tk;omega,?_⟩
 rw [ea,eg,etk];exact h.dec A0
def ajm:wt 12=13:=Ab
def TU.last {T:Y}(h:TU T p) (ht:p.tk<1000000) (hT:T+22<=p.tk):∀k:aWe,k<M p.cs->(Ae p.Bh.cs k).2.2.1=gi p.tg k:=by
 obtain ⟨e1,e2,e3,e4,e5,e6,e7,e8,e9,e10,e11,e12,e13,e14⟩:=KO p
 have hv:=h.jp.1.1
 have hd:=h.tg.dec h.jp
 have hs:=aAh hv
 have b1:=vK (T:=T) hd.ls.2
 have v1:=aBE (T:=T) hd.ls.1
 have gl:=(DK.1 hv.site).1.2.2.2.2.1
 have htk:=hv.tk
 have ec:p.Bh.cs=DG p.gs p.tg (DO p.gs p.AM.ls<|p.tk+1) p.cs (M p.tg):=by
  have a1:p.Ay.CR.cs=p.cs:=e1
  have a2:p.Ay.CR.tg=p.tg:=e14
  have a3:p.Ay.CR.gs=p.gs:=e4
  have a4:p.Ay.CR.tk=p.tk:=e6
  have a5:p.Ay.CR.up=p.up:=e7
  have a6:p.Ay.CR.ls=p.AM.ls:=rfl
  show (if p.Ay.CR.up=X then p.Ay.CR.cs else DG p.Ay.CR.gs p.Ay.CR.tg p.Ay.CR.rsA p.Ay.CR.cs (M p.Ay.CR.tg))=_
  rw [a5,AE yz];unfold PK.rsA Jy
  rw [a1,a2,a3,a4,a6,AD (by
   rw [AD];unfold Kz;rw [show B4 p.AM.ls=U from hd.ls.1,BV.2 A0,BV.2 A0,show below (M p.gs) p.AM.ls=U from b1.1];rfl)]
 rw [ec]
 have hb:∀k:aWe,k<M p.gs->0<=gi (DO p.gs p.AM.ls<|p.tk+1) k/\gi (DO p.gs p.AM.ls<|p.tk+1) k<=80:=λk hk=>Oj hs hd.ls.1 A0 A0
 intro k hk;refine aI3 hv.site (λk hk=>?_) hv.FE Iu hb (fM hs hs (K7.refl _) (λk hk=>Oj hs v1 A0 A0) (λk hk=>⟨(hb k hk).1,qq v1 b1.2 hd.ls.1 b1.1 (λx hx ha=>⟨TM.2 ⟨hx,?_⟩,ha⟩) A0 A0⟩)<|h.dec (t':=p.tk+1) A0) _ yg k (by rw [hv.FE];exact hk)
 ·exact hv.tg k (by rw [hv.FE];exact hk)
 ·have q:=(hd.ls.2 x hx).2.1
  unfold H4 DH at ha;rw [q,ajm] at ha;simp only [AY,Aa] at ha;omega
def TU.Ef {T:Y}:∀(n:aWe) {p:PK}{l:Y},TU T p->p.tk+n<1000000->
  (Cc n p l).2.2=U/\TU T (Cc n p l).1/\(1<=n->T+23<=p.tk+n->∀k:aWe,k<M (Cc n p l).1.cs->(Ae (Cc n p l).1.cs k).2.2.1=gi (Cc n p l).1.tg k)
 |0,p,l,h,_=>⟨rfl,h,λh=>A0⟩
 | n+1,p,l,h,ht=>by
  obtain ⟨he,e2,e3,hl,htk⟩:=aHg h.jp A0;rw [Cc,AD ⟨he,hl⟩,e2]
  have h2:=h.tick A0
  obtain ⟨a1,a2,a3⟩:=TU.Ef n (l:=if M (Cn p Cz)>0 then gi (Cn p Cz) 0 else l) h2 A0
  refine ⟨a1,a2,λ_ hT=>?_⟩
  by_cases c:n=0
  ·subst c
   show ∀k:aWe,k<M p.Bh.cs->(Ae p.Bh.cs k).2.2.1=gi p.Bh.tg k
   rw [show p.Bh.tg=p.tg from (KO p).2.2.2.2.2.2.2.2.2.2.2.2.2,(rJ h.jp.1.1).1];exact h.last A0 A0
  ·exact a3 A0 A0
def aor {p:PK}(h:TG p) (hJ:JP p) (hu:p.up=X) (ht:p.tk<=1000):p.F9=0:=by
 obtain ⟨vl,g,h1,h2⟩:=h.sg.vl;obtain ⟨l1,l2⟩:=h1.ld
 have l1:C2 p.se p.fl=0:=l1
 have l2:Ad p.se p.fl=vl:=l2
 have hn:1<=p.nx/\p.nx<=16*p.tk+1:=h.sg.nx
 have htk:=hJ.1.1.tk
 have hx:Cm vl p.tk=0:=AD (by unfold JF;rw [h1.lv,BV.2 A0];rfl)
 unfold PK.F9 ID;rw [AE (by rw [hu];decide),l1,l2,hx,AE Ab,AE Ab,AE Ab]
 split
 ·rfl
 ·have hm:Ag vl ((M vl:Y)-1)∈vl:=J8 A0 A0
  have b2:(Ag vl<|(M vl:Y)-1).1<p.nx:=(h2 _ hm).1
  exact AE A0
end Go.Proofs.YtoifmkifedcnnaaGreatDoor
namespace Go.Proofs.YtoifmkifedcnnaaGreatDoor
set_option maxRecDepth 100000
set_option maxHeartbeats 4000000
open Go.Proofs.Tryz
open Go.Sx
structure Nk where
 e:Y
 b:aWo
 (last n i:Y)
 (p r:PK)
def aG9:=bN f15 0
def zK (s:Nk):T (Rd Nk):=letI a:=(M (Cn s.p Cz):Y);.br (an<|s.i<s.n) (.req (JP s.p)<|.br (((BC s.p Cz) !=0) ||(a !=(M (An s.p Cz).ca:Y))) (.so (.ret) {s with e:=s.last,b:=X,r:=s.p})<|.br (an<|a>0) (.req (0<=(0:Y)/\0<a)<|.nx {s with last:=gi (Cn s.p Cz) (0:Y),i:=AA<|s.i+1,p:=An s.p Cz})<|.nx {s with i:=AA<|s.i+1,p:=An s.p Cz})<|.so (.exit 0) s
def ko (s:Nk):Prop:=s.i=0/\s.n<=1000/\JP s.p
def jm (s:Nk):Prop:=0<=s.i/\s.n<=1000/\JP s.p
def uh (s:Nk):aWe:=(s.n-s.i).toNat
def acW (x:Ex) (s s':Nk):Prop:=True
def akt:∀s,ko s->jm s:=by
 exact mQ
def axj:Da jm uh acW zK:=by
 intro s hI;obtain ⟨h0,h1,h2⟩:=hI;refine AH (λc1=>AH (λc2=>trivial) λc2=>AH (λc3=>?_) λc3=>?_) λc1=>trivial
 all_goals have c1:s.i<s.n:=A8
 all_goals rw [AJ (x:=s.i+1)]
 all_goals exact ⟨⟨A8,h1,h2.step<|Dz (Ga.1 c2).1⟩,by simp only [uh];omega⟩
def Pb:AS Nk:=⟨0,43,[2,4,5,6,7,11,12],[.ps 4 0 Af,.ps 4 1 .str,.ps 4 2 Al,.ps 4 3 Ah,.ps 4 4 Am,.ps 4 7 AQ,.ps 4 9<|.int aw,.ps 4 10 Ap,.ps 4 12 B7,.ps 4 13 AQ,.ps 4 14 B9,.ps 4 15 BS,.ps 4 16 Aw,.ps 4 17 BP,.ps 4 18 A7,.ps 4 19 A7],λs=>[.own 0 0,.own 1 0,s.e,s.b,s.last,s.n,s.i],λs=>[pB s.p,pB s.r],λv b=>⟨AK v 2,DQ v 3,AK v 4,AK v 5,AK v 6,rQ b 0,rQ b 1⟩,zK,λs r=> {r with n:=s.n},λs=>s,λ_ s=>s,[.ret,.exit 0],ko,jm,uh⟩
abbrev Sy:=Pb.run
abbrev fW:=Pb.As
def ayC:Rq jm zK:=by
 intro s hI;refine ⟨λc1=>⟨?_,λ_=>trivial,λc2=>⟨λc3=>⟨?_,ak⟩,λ_=>trivial⟩⟩,λ_=>trivial⟩
 all_goals ((obtain ⟨h0,h1,h2⟩:=hI;first|exact h2|(simp only [Aa] at c3;omega)))
def vp:aWp:=[Wu]
def aRR:Pb.Ok:={}
def aR3:Pb.Pf (acW):=⟨akt,λs h=>rfl,axj,ayC⟩
def aqe:SA 0 aG9 Pb:=s1 aRR aR3 vp kN
def aql:Rs ko fW Sy (λs:Nk=>Cc (s.n-s.i).toNat s.p s.last) (λx s' (v:PK×Int×Bool)=>(x=.exit 0/\(s'.p,s'.last,U)=v)\/(x=.ret/\(s'.r,s'.e,s'.b)=v)):=DU aRR aR3 (λs hI=>by
  obtain ⟨h0,h1,h2⟩:=hI;refine AH (λc1=>?_) λc1=>?_
  ·have c1:s.i<s.n:=A8
   have e:(s.n-s.i).toNat=(s.n-(s.i+1)).toNat+1:=A0
   rw [AJ (x:=s.i+1),e,Cc];refine AH (λc2=>?_) λc2=>?_
   ·have hc:¬(BC s.p Cz=0/\M (Cn s.p Cz)=M (An s.p Cz).ca):=λh=>by
     rw [h.1,h.2] at c2
     simp at c2
    rw [AE hc];exact .inr ⟨rfl,rfl⟩
   ·have hc:BC s.p Cz=0/\M (Cn s.p Cz)=M (An s.p Cz).ca:=by
     grind
    rw [AD hc];refine AH (λc3=>?_) λc3=>?_
    ·have c3:M (Cn s.p Cz)>0:=A8
     rw [AD c3];rfl
    ·have c3:¬(M<|Cn s.p Cz)>0:=A8
     rw [AE c3];rfl
  ·have c1:s.n<=s.i:=A8
   rw [show (s.n-s.i).toNat=0 by omega]
   exact .inl ⟨rfl,rfl⟩)
def aUh:aWf->T LV
 | [x_p,.v (ag J many)]=>(match N1 x_p with
  |some p=> .req (JP p/\many<=1000) (.ok<|.AO [(Cc many.toNat p 0).1,(Cc many.toNat p 0).2.1,(Cc many.toNat p 0).2.2])
  |none=> .no)
 |_=> .no
def MI (p:PK) (many:Y):Nk:=(⟨0,X,0,many,0,p,⟨([]:aWl),([]:aWg),([]:aWr),([]:aWh),([]:aWs),0,X,([]:aWn),0,([]:aWd),([]:aWJ),0,([]:aWE),([]:aWn),([]:aWY),([]:aW2),([]:aWB),([]:aWN),([]:aWd),([]:aWd)⟩⟩:Nk)
def agm (p:PK) (many:Y):letI a:=Sy<|MI p many;Bl prog AV (vp) kN (λi=>if i=3 then Pb.lp else Ak i) f15 [p,many]=.req (Pb.q<|MI p many) (.br (Bb (fW<|MI p many)<|.ret) (.ok<|.AO [a.r,a.e,a.b])<|.ok<|.AO [a.p,a.last,U]):=AU
def ajg:=vm (S:=aUh) func15 vp kN (L:=(λi=>if i=3 then Pb.lp else Ak i)) (λb hb=>by
 rw [show BD _=[aG9] by kernel_rfl] at hb
 simp only [BA,Bu,Bs] at hb;subst hb;exact aqe) (λargs lv h=>by
 refine ⟨?_⟩;unfold aUh at h;split at h
 ·split at h
  case h_2=>cases h
  rename_i p hp;obtain rfl:=WV hp;simp only [canL,canX];rw [agm];rename_i many _;obtain ⟨⟨hJ,hm⟩,rfl⟩:=h
  have hE:ko (MI p many):=⟨rfl,hm,hJ⟩
  have e:(many-0).toNat=many.toNat:=AI
  have q:(fW (MI p many)=.exit 0/\((Sy<|MI p many).p,(Sy<|MI p many).last,U)=Cc many.toNat p 0)\/(fW (MI p many)=.ret/\((Sy<|MI p many).r,(Sy<|MI p many).e,(Sy<|MI p many).b)=Cc many.toNat p 0):=by
   rw [<-e];exact aql _ hE
  refine ⟨⟨hE,rfl,rfl⟩,λc=>?_,λc=>?_⟩
  ·rcases q with ⟨x1,_⟩ |⟨_,x2⟩
   ·rw [x1] at c
    cases c
   ·rw [<-x2]
    rfl
  ·rcases q with ⟨_,x2⟩ |⟨x1,_⟩
   ·rw [<-x2]
    rfl
   ·rw [x1] at c
    cases c
 ·cases h)
def aTa:aWf->T LV:=λ_=> .no
def awW:VV 1000022 aTa:=by
 exact yF
structure HF where
 DB:aWl->aWg->aWr->aWh->aWs->aWd->Int
 newP:aWl->aWg->aWr->aWh->aWs->aWd->PK
 BC:PK->EV->Int
 An:PK->EV->PK
 Cn:PK->EV->List Int
 Cc:aWe->PK->Y->PK×Int×Bool
 JP:PK->Prop
def hdF:HF:=⟨DB,newP,BC,An,Cn,Cc,JP⟩
def aqF (F:HF):aWf->T LV
 | [x_p,x_ev]=>(match N1 x_p with
  |some p=>(match ng x_ev with
  |some ev=> .req (F.JP p) (.ok<|.AO [F.An p<|EW.ev ev,.xl A7<|F.Cn p<|EW.ev ev,F.BC p<|EW.ev ev])
  |none=> .no)
  |none=> .no)
 |_=> .no
def awG (F:HF):aWf->T LV:=K9 prog f9.params.toList<|aqF F
def awJ (F:HF):aWf->T LV
 | [.agg [.xl (.pair .str (.pair (.int J) (.pair (.int J) (.pair (.int J) (.pair (.pair (.int J) (.int J)) (.pair (.int J) (.pair (.int J) (.pair (.int J) (.pair (.int J) (.int J)))))))))) cs,.xl (.str) os,.xl (.pair .str (.pair (.int J) (.pair (.int J) (.int J)))) ks,.xl (.pair .str (.pair (.int J) (.pair (.int J) (.pair (.int J) (.pair (.int J) (.pair (.int J) (.pair (.int J) (.int J)))))))) gs,.xl (.pair .str (.int J)) bs],.xl (.int J) dr]=> .req (M dr<=1000) (.ok<|.AO [F.newP cs os ks gs bs dr,F.DB cs os ks gs bs dr])
 |_=> .no
def aib (F:HF):aWf->T LV:=K9 prog f13.params.toList<|awJ F
def awI (F:HF):aWf->T LV
 | [x_p,.v (ag J many)]=>(match N1 x_p with
  |some p=> .req (F.JP p/\many<=1000) (.ok<|.AO [(F.Cc many.toNat p 0).1,(F.Cc many.toNat p 0).2.1,(F.Cc many.toNat p 0).2.2])
  |none=> .no)
 |_=> .no
def aiY (F:HF):aWf->T LV:=K9 prog f15.params.toList<|awI F
def bS:aWl:=letI a:=((bC 32).getD (0:Y).toNat<|Ty.dflt Af);(bC 32).set (0:Y).toNat (a.1,(a.2.1,((5:Y),a.2.2.2)))
def hN (F:HF):PK:=F.newP (((bC 32).drop 0).take 1) bO ([]:aWr) bG ([]:aWs)<|[(0:Y)]
def hA (F:HF):PK×Int×Bool:=F.Cc (1:Y).toNat (hN F) 0
def hB (F:HF):PK:=F.An (hA F).1<|EW.ev<|⟨2,0,0,0,1,20,1000000000,0,U,0,500,1⟩
def hC (F:HF):PK×Int×Bool:=F.Cc (1:Y).toNat (hB F) 0
def hD (F:HF):PK×Int×Bool:=F.Cc (60:Y).toNat (hC F).1 0
def hX (F:HF):PK:=F.An (hD F).1<|EW.ev<|⟨5,0,0,0,0,0,0,0,X,0,0,0⟩
def hL (F:HF):PK×Int×Bool:=F.Cc (24:Y).toNat (hX F) 0
def aaZ (F:HF):hA F=F.Cc 1 (hN F) 0:=rfl
def aaY (F:HF):hB F=F.An (hA F).1 evP:=rfl
def aaW (F:HF):hC F=F.Cc 1 (hB F) 0:=rfl
def aaV (F:HF):hD F=F.Cc 60 (hC F).1 0:=rfl
def aaU (F:HF):hX F=F.An (hD F).1 E7:=rfl
def am4 (F:HF):hL F=F.Cc 24 (hX F) 0:=rfl
def acU:aWf->T LV
 | []=> .ok U
 |_=> .no
def XM:aWp:=[Wu,zU,ajg,awW]
def uk:B1:=kI XM<|la 9 func30 aIA<|la 11 func46 TP<|la 6 func46 Qd<|la 3 func73 Ot<|la 2 func45 NT<|la 1 func44 MO<|la 2 func53 LO<|la 9 func30 Cu<|l0 XM
def nV (F:HF):aWR:=DL [(9,awG F),(13,aib F),(15,aiY F),(1000022,aTa)]
def aLh (F:HF):aW5:=inl prog AV (nV F) (CV 30 9 9 (UP.lp)<|CV 46 21 11 (PW.lp)<|CV 46 21 6 (Pd.lp)<|CV 73 21 3 (Pc.lp)<|CV 45 20 2 (Ri.lp)<|CV 44 20 1 (Pt.lp)<|CV 53 19 2 (RE.lp)<|CV 30 0 9 (Gu.lp)<|E5 prog AV (nV F) 20 2) 9
def agC (F:HF):letI a:=(EW.ev<|⟨2,0,0,0,1,20,1000000000,0,U,0,500,1⟩);letI b:=(hA F);Bl prog AV (nV F) (aLh F) Ak f4 []=.req (0+1<=M (bC 32)) (.req (M ([(0:Y)])<=1000)<|.req (F.JP ((hN F))/\(1:Y)<=1000)<|.req (F.JP b.1)<|.req (F.JP ((hB F))/\(1:Y)<=1000)<|.req (F.JP ((hC F)).1/\(60:Y)<=1000)<|.req (F.JP ((hD F)).1)<|.req (F.JP ((hX F))/\(24:Y)<=1000)<|.req (0<=(0:Y)/\(0:Y)<((1:aWe):Y))<|.req ((0:Y).toNat<M (bC 32))<|.req (0+1<=M bS)<|.req (M ([(0:Y)])<=1000)<|.ok<|.v<|.bool<|(((F.DB (((bC 32).drop 0).take 1) bO ([]:aWr) bG ([]:aWs)<|[(0:Y)])==0)&&(((F.BC b.1 a)==0)&&(((F.BC ((hD F)).1<|EW.ev<|⟨5,0,0,0,0,0,0,0,X,0,0,0⟩)==0)&&(((F.DB ((bS.drop 0).take 1) bO ([]:aWr) bG ([]:aWs)<|[(0:Y)])==13)&&(b.2.2&&(((hC F)).2.2&&(((hD F)).2.2&&(((hL F)).2.2&&((M (F.Cn b.1 a):Y)==0)))))))))&&((b.2.1==0)&&((b.1.tk==1)&&((((hC F)).2.1==6)&&((((hD F)).2.1==20)&&(((hL F)).2.1==6)))))):=AU
def agu:XM=nV hdF:=AU
def agt:uk=aLh hdF:=AU
def amR:letI a:=(EW.ev<|⟨2,0,0,0,1,20,1000000000,0,U,0,500,1⟩);letI b:=(hA hdF);letI c:=(hD hdF);Bl prog AV (XM) uk Ak f4 []=.req (0+1<=M (bC 32)) (.req (M ([(0:Y)])<=1000)<|.req (hdF.JP ((hN hdF))/\(1:Y)<=1000)<|.req (hdF.JP b.1)<|.req (hdF.JP ((hB hdF))/\(1:Y)<=1000)<|.req (hdF.JP ((hC hdF)).1/\(60:Y)<=1000)<|.req (hdF.JP c.1)<|.req (hdF.JP ((hX hdF))/\(24:Y)<=1000)<|.req (0<=(0:Y)/\(0:Y)<((1:aWe):Y))<|.req ((0:Y).toNat<M (bC 32))<|.req (0+1<=M (bS))<|.req (M ([(0:Y)])<=1000)<|.ok<|.v<|.bool<|(((hdF.DB (((bC 32).drop 0).take 1) (bO) ([]:aWr) (bG) ([]:aWs)<|[(0:Y)])==0)&&(((hdF.BC b.1 a)==0)&&(((hdF.BC c.1<|EW.ev<|⟨5,0,0,0,0,0,0,0,X,0,0,0⟩)==0)&&(((hdF.DB (((bS).drop 0).take 1) (bO) ([]:aWr) (bG) ([]:aWs)<|[(0:Y)])==13)&&(b.2.2&&(((hC hdF)).2.2&&(c.2.2&&(((hL hdF)).2.2&&((M (hdF.Cn b.1 a):Y)==0)))))))))&&((b.2.1==0)&&((b.1.tk==1)&&((((hC hdF)).2.1==6)&&((c.2.1==20)&&(((hL hdF)).2.1==6)))))):=by
 rw [agu,agt];exact agC hdF
def aLS:=vo (S:=acU) func4 XM uk (λargs lv h=>by
 refine ⟨?_⟩;unfold acU at h;split at h
 ·simp only [canL]
  rw [amR];obtain rfl:=h;simp only [show hdF.DB=DB from rfl,show hdF.newP=newP from rfl,show hdF.BC=BC from rfl,show hdF.An=An from rfl,show hdF.Cn=Cn from rfl,show hdF.Cc=Cc from rfl,show hdF.JP=JP from rfl];obtain ⟨p1,p3,p4,p6,a1,a2,a3,a4,a5,a6,a7,a8⟩:=am3
  have eN:(hN hdF)=newP (bC 32) bO [] bG [] [0]:=rfl
  have t1:hdF.Cc=Cc:=rfl
  have t2:hdF.An=An:=rfl
  have eA:hA hdF=(p1,0,U):=by rw [aaZ,t1,eN];exact a1
  have eB:hB hdF=An p1 evP:=by rw [aaY,t2,eA]
  have eC:hC hdF=(p3,6,U):=by rw [aaW,t1,eB];exact a5
  have eD:hD hdF=(p4,20,U):=by rw [aaV,t1,eC];exact a6
  have eX:hX hdF=An p4 E7:=by rw [aaU,t2,eD]
  have eL:hL hdF=(p6,6,U):=by rw [am4,t1,eX];exact a8
  have jN:JP (hN hdF):=by rw [eN];exact ua aBJ.1
  have jA:JP (hA hdF).1:=by rw [aaZ,t1];exact jN.Ef _ _
  have sA:BC (hA hdF).1 evP=0:=by rw [eA];exact a3
  have jB:JP (hB hdF):=by rw [aaY,t2];exact jA.step sA
  have jC:JP (hC hdF).1:=by rw [aaW,t1];exact jB.Ef _ _
  have jD:JP (hD hdF).1:=by rw [aaV,t1];exact jC.Ef _ _
  have sD:BC (hD hdF).1 E7=0:=by rw [eD];exact a7
  have jX:JP (hX hdF):=by rw [aaU,t2];exact jD.step sD
  have n1:DB (((bC 32).drop 0).take 1) bO [] bG [] [(0:Y)]=0:=aBJ.1
  have n2:DB ((bS.drop 0).take 1) bO [] bG [] [(0:Y)]=13:=aBJ.2
  have b3:BC p1 (EW.ev ⟨2,0,0,0,1,20,1000000000,0,U,0,500,1⟩)=0:=a3
  have b4:Cn p1 (EW.ev ⟨2,0,0,0,1,20,1000000000,0,U,0,500,1⟩)=[]:=a4
  have b7:BC p4 (EW.ev ⟨5,0,0,0,0,0,0,0,X,0,0,0⟩)=0:=a7
  refine ⟨Ab,Ab,⟨jN,Ab⟩,jA,⟨jB,Ab⟩,⟨jC,Ab⟩,jD,⟨jX,Ab⟩,Ab,Ab,Ab,Ab,?_⟩
  show LV.v (.bool _)=_
  simp only [n1,n2,eA,eC,eD,eL,a2,b3,b4,b7,Bt];rfl
 ·cases h)
def opN (k:Y) (l:aWe):Y:=if (l:Y)>0 then (AA k).tmod l else 0
def opE (p:PK) (x1 x2 x3 y1 y2 y3 y4 y5:Y) (z1:aWo) (z2 z3 z4:Y):EW:=
 if x1.tmod 14=6\/x1.tmod 14=7 then ⟨2,opN x2<|M p.ca,0,y1,y2,y3,y4,y5,z1,z2,z3,z4⟩
 else if x1.tmod 14=8 then ⟨3,opN x2<|M p.ca,0,0,0,0,0,0,X,0,0,0⟩
 else if x1.tmod 14=9 then ⟨4,opN x2<|M p.ca,0,0,0,0,0,0,X,0,0,0⟩
 else if x1.tmod 14=10 then ⟨5,0,0,0,0,0,0,0,X,0,0,0⟩
 else if x1.tmod 14=11 then ⟨6,0,0,0,0,0,0,0,X,0,0,0⟩
 else if x1.tmod 14=12 then ⟨7,opN x2<|M p.ca,0,0,0,0,0,0,X,0,0,0⟩
 else if x1.tmod 14=13 then ⟨8,opN x2<|M p.tg,(AA x3).tmod 100,0,0,0,0,0,X,0,0,0⟩
 else ⟨1,0,0,0,0,0,0,0,X,0,0,0⟩
def opT (x1 x3:Y):Y:=if 6<=x1.tmod 14/\x1.tmod 14<=13 then 1 else AA (1+(AA x3).tmod 12)
def aUP:aWf->T LV
 | [x_p,.v (.agg ⟨[ag aw x1,ag aw x2,ag .u16 x3,ag J y1,ag J y2,ag J y3,ag J y4,ag J y5,.bool z1,ag J z2,ag J z3,ag J z4]⟩)]=>(match N1 x_p with
  |some p=> .tu #[opE p x1 x2 x3 y1 y2 y3 y4 y5 z1 z2 z3 z4,opT x1 x3]
  |none=> .no)
 |_=> .no
def aTC:aWp:=[]
def agH (p:PK) (x1 x2 x3 y1 y2 y3 y4 y5:Y) (z1:aWo) (z2 z3 z4:Y):letI a:=x1.tmod 14;letI c:=(M p.tg:Y);letI d:=(AA x3).tmod 100;letI e:=(M p.ca:Y);letI f:=AA<|1+((AA x3).tmod 12);letI b:=(AA x2).tmod e;Bl prog AV (aTC) kN Ak f17 [p,.v<|.agg #[ag aw x1,ag aw x2,ag .u16 x3,y1,y2,y3,y4,y5,z1,z2,z3,z4]]=.br (an<|e>0) (.req (e≠0)<|.req ((14:Y)≠0)<|.br (a==6) (.tu #[.agg #[(2:Y),b,(0:Y),y1,y2,y3,y4,y5,z1,z2,z3,z4],(1:Y)])<|.br (a==7) (.tu #[.agg #[(2:Y),b,(0:Y),y1,y2,y3,y4,y5,z1,z2,z3,z4],(1:Y)])<|.br (a==8) (.tu #[.agg #[(3:Y),b,(0:Y),(0:Y),(0:Y),(0:Y),(0:Y),(0:Y),X,(0:Y),(0:Y),(0:Y)],(1:Y)])<|.br (a==9) (.tu #[.agg #[(4:Y),b,(0:Y),(0:Y),(0:Y),(0:Y),(0:Y),(0:Y),X,(0:Y),(0:Y),(0:Y)],(1:Y)])<|.br (a==10) (.tu #[.agg #[(5:Y),(0:Y),(0:Y),(0:Y),(0:Y),(0:Y),(0:Y),(0:Y),X,(0:Y),(0:Y),(0:Y)],(1:Y)])<|.br (a==11) (.tu #[.agg #[(6:Y),(0:Y),(0:Y),(0:Y),(0:Y),(0:Y),(0:Y),(0:Y),X,(0:Y),(0:Y),(0:Y)],(1:Y)])<|.br (a==12) (.tu #[.agg #[(7:Y),b,(0:Y),(0:Y),(0:Y),(0:Y),(0:Y),(0:Y),X,(0:Y),(0:Y),(0:Y)],(1:Y)])<|.br (a==13) (.br (an<|c>0) (.req (c≠0)<|.req ((100:Y)≠0)<|.tu #[.agg #[(8:Y),(AA x2).tmod c,d,(0:Y),(0:Y),(0:Y),(0:Y),(0:Y),X,(0:Y),(0:Y),(0:Y)],(1:Y)])<|.req ((100:Y)≠0)<|.tu #[.agg #[(8:Y),(0:Y),d,(0:Y),(0:Y),(0:Y),(0:Y),(0:Y),X,(0:Y),(0:Y),(0:Y)],(1:Y)])<|.req ((12:Y)≠0)<|.tu #[.agg #[(1:Y),(0:Y),(0:Y),(0:Y),(0:Y),(0:Y),(0:Y),(0:Y),X,(0:Y),(0:Y),(0:Y)],f]) (.req ((14:Y)≠0)<|.br (a==6) (.tu #[.agg #[(2:Y),(0:Y),(0:Y),y1,y2,y3,y4,y5,z1,z2,z3,z4],(1:Y)])<|.br (a==7) (.tu #[.agg #[(2:Y),(0:Y),(0:Y),y1,y2,y3,y4,y5,z1,z2,z3,z4],(1:Y)])<|.br (a==8) (.tu #[.agg #[(3:Y),(0:Y),(0:Y),(0:Y),(0:Y),(0:Y),(0:Y),(0:Y),X,(0:Y),(0:Y),(0:Y)],(1:Y)])<|.br (a==9) (.tu #[.agg #[(4:Y),(0:Y),(0:Y),(0:Y),(0:Y),(0:Y),(0:Y),(0:Y),X,(0:Y),(0:Y),(0:Y)],(1:Y)])<|.br (a==10) (.tu #[.agg #[(5:Y),(0:Y),(0:Y),(0:Y),(0:Y),(0:Y),(0:Y),(0:Y),X,(0:Y),(0:Y),(0:Y)],(1:Y)])<|.br (a==11) (.tu #[.agg #[(6:Y),(0:Y),(0:Y),(0:Y),(0:Y),(0:Y),(0:Y),(0:Y),X,(0:Y),(0:Y),(0:Y)],(1:Y)])<|.br (a==12) (.tu #[.agg #[(7:Y),(0:Y),(0:Y),(0:Y),(0:Y),(0:Y),(0:Y),(0:Y),X,(0:Y),(0:Y),(0:Y)],(1:Y)])<|.br (a==13) (.br (an<|c>0) (.req (c≠0)<|.req ((100:Y)≠0)<|.tu #[.agg #[(8:Y),(AA x2).tmod c,d,(0:Y),(0:Y),(0:Y),(0:Y),(0:Y),X,(0:Y),(0:Y),(0:Y)],(1:Y)])<|.req ((100:Y)≠0)<|.tu #[.agg #[(8:Y),(0:Y),d,(0:Y),(0:Y),(0:Y),(0:Y),(0:Y),X,(0:Y),(0:Y),(0:Y)],(1:Y)])<|.req ((12:Y)≠0)<|.tu #[.agg #[(1:Y),(0:Y),(0:Y),(0:Y),(0:Y),(0:Y),(0:Y),(0:Y),X,(0:Y),(0:Y),(0:Y)],f]):=AU
def aVL:=vo (S:=aUP) func17 aTC kN (λargs lv h=>by
 refine ⟨?_⟩;unfold aUP at h;split at h
 ·split at h
  case h_2=>cases h
  rename_i p hp;obtain rfl:=WV hp;simp only [canL,canX];rw [agH];obtain rfl:=h
  repeat' (first|(refine And.intro (λc=>?_) λc=>?_) |(refine And.intro A8 ?_))
  all_goals simp_all [T.all,opE,opT,opN]
  all_goals omega
 ·cases h)
def aqn {p:PK}(hJ:JP p) {ev:EW}(h1:ev.ek=1) (h2:p.tk<=1000):BC p ev.ev=0:=by
 rw [(aCp (QP.2 hJ.1.1) h1).1];exact AE A0
def aHf {p:PK}(hJ:JP p) {ev:EW}(he:BC p ev.ev=0):(An p ev.ev).tk=p.tk\/(ev.ek=1/\(An p ev.ev).tk=p.tk+1):=by
 have hv:=QP.2 hJ.1.1
 by_cases c1:ev.ek=1
 ·obtain ⟨a,b⟩:=aCp hv c1
  rw [(b<|a.symm.trans he).1];exact .inr ⟨c1,aOU⟩
 left
 by_cases c2:ev.ek=2
 ·obtain ⟨a,b⟩:=aLQ hv c2;rw [(b<|a.symm.trans he).1];rfl
 by_cases c3:ev.ek=3
 ·obtain ⟨a,b⟩:=aLP hv c3;rw [(b<|a.symm.trans he).1];rfl
 by_cases c4:ev.ek=4
 ·obtain ⟨a,b⟩:=aLO hv c4;rw [(b<|a.symm.trans he).1];rfl
 by_cases c5:ev.ek=5
 ·obtain ⟨a,b⟩:=aCo hv c5;rw [(b<|a.symm.trans he).1];rfl
 by_cases c6:ev.ek=6
 ·obtain ⟨a,b⟩:=aCn hv c6;rw [(b<|a.symm.trans he).1];rfl
 by_cases c7:ev.ek=7
 ·obtain ⟨a,b⟩:=aLN hv c7;rw [(b<|a.symm.trans he).1];rfl
 by_cases c8:ev.ek=8
 ·obtain ⟨a,b⟩:=aLM hv c8;rw [(b<|a.symm.trans he).1];rfl
 ·rw [aLL hv ⟨c1,c2,c3,c4,c5,c6,c7,c8⟩] at he
  cases he
def agQ (x1 x3:Y):opT x1 x3<=12:=by
 unfold opT;split
 ·decide
 ·have h1:=Int.tmod_lt_of_pos (AA x3) (show (0:Y)<12 by decide)
  have h2:=Int.lt_tmod_of_pos (AA x3) (show (0:Y)<12 by decide)
  rw [AJ];omega
variable {p : PK}
def EL:EV:=⟨6,0,0,(0,0,0,0,0),(X,0,0,0)⟩
def fU {l:aWn}{t:Y}(h:B4 l=U) (ht:0<=t/\t<=1000000):JF l t=true:=aP6
def atI (hJ:JP p) (h:LG p) (hu:p.up=X) (ht:p.tk<=1000):BC p EL=0/\(An p EL).up=U/\C2 p.se p.fl=0/\Cm (Ad p.se p.fl) p.tk=0/\(An p EL).ls=BB (Ad p.se p.fl) p.tk/\(∀x∈Ad p.se p.fl,x.1<(An p EL).nx)/\∀l∈p.lk,l.2∈Ad p.se p.fl:=by
 have hs:=aor h.tg hJ hu ht
 obtain ⟨e6,e7⟩:=aCn (ev:=⟨6,0,0,0,0,0,0,0,X,0,0,0⟩) (QP.2 hJ.1.1) rfl
 have he:BC p EL=0:=e6.trans hs
 have eP:An p EL=p.Qz:=(e7 hs).1
 have g2:=h.tg.step hJ he
 obtain ⟨k,v1,v2⟩:=h.tg.vl;obtain ⟨k',w1,w2⟩:=g2.vl;rw [eP] at w2;refine ⟨he,nG,v1.ld.1,AD<|fU v1.lv hJ.1.1.tk,nG,λx hx=>?_,λl hl=>(h.lx.lk l hl).1⟩
 rw [eP];exact (w2 x hx).1
def agw (hJ:JP p) (h:LG p):Cm p.ls p.tk=0/\∀x∈BB p.ls p.tk,x∈BB (Ad p.se p.fl) p.tk:=by
 refine ⟨AD<|fU hJ.2.2 hJ.1.1.tk,λx hx=>?_⟩
 obtain ⟨k,v1,v2⟩:=h.tg.vl;unfold BB at hx|-;rw [AD<|fU hJ.2.2 hJ.1.1.tk] at hx;rw [AD<|fU v1.lv hJ.1.1.tk];obtain ⟨h1,h2⟩:=CS.1 hx;cases hu:p.up
 ·rw [h.lx.dn hu] at h1;cases h1
 ·exact CS.2 ⟨(h.lx.up hu).2 x h1<|D5 h2,h2⟩
def ata (hJ:JP p) (hu:p.up=U):BC p E7=0/\An p E7=p.Ni:=by
 have he:BC p E7=0:=((aCo (ev:=⟨5,0,0,0,0,0,0,0,X,0,0,0⟩) (QP.2 hJ.1.1) rfl).1).trans<|AE (by rw [hu];decide)
 exact ⟨he,aPW⟩
def aFk (hJ:JP p) (h:LG p) (hu:p.up=X) (ht:p.tk<=150):(BC p EL=0/\C2 p.se p.fl=0/\(An p EL).up=U)/\Cm (Ad p.se p.fl) p.tk=0/\((M (An p EL).ls:Y)<=1000/\(An p EL).ls=BB (Ad p.se p.fl) p.tk)/\M (BB (Ad p.se p.fl) p.tk)<=1000/\M (Ad p.se p.fl)<=1000/\
  (M p.lk<=10000/\∀x∈p.lk,x.2∈Ad p.se p.fl/\x.2.1<(An p EL).nx)/\∀x∈Ad p.se p.fl,x.1<(An p EL).nx:=by
 obtain ⟨a1,a2,a3,a4,a5,a6,a7⟩:=atI hJ h hu A0;obtain ⟨k,v1,v2⟩:=h.tg.vl
 have l1:=(GH v1.lv).1
 have l2:=pW (l:=Ad p.se p.fl) (t:=p.tk)
 have l3:=hJ.1.2.lk
 exact ⟨⟨a1,a3,a2⟩,a4,⟨by rw [a5];omega,a5⟩,A0,A0,⟨A0,λx hx=>⟨a7 x hx,a6 _<|a7 x hx⟩⟩,a6⟩
end Go.Proofs.YtoifmkifedcnnaaGreatDoor
namespace Go.Proofs.YtoifmkifedcnnaaGreatDoor
set_option maxRecDepth 100000
set_option maxHeartbeats 4000000
open Go.Proofs.Tryz
open Go.Sx
def aUq:aWf->T LV
 | [x_p,x_r,.xl (.int J) dw]=>(match N1 x_p with
  |some p=>(match N1 x_r with
  |some r=> .ok U
  |none=> .no)
  |none=> .no)
 |_=> .no
def aTB:aWp:=[]
def agr (p r:PK) (dw:aWd):Bl prog AV (aTB) kN Ak f7 [p,r,.xl A7 dw]=.ok true:=AU
def iL:=vo (S:=aUq) func7 aTB kN (λargs lv h=>by
 refine ⟨?_⟩;unfold aUq at h;split at h
 ·split at h
  case h_2=>cases h
  rename_i p hp;obtain rfl:=WV hp;split at h
  case h_2=>cases h
  rename_i r hr;obtain rfl:=WV hr;simp only [canL,canX];rw [agr];obtain rfl:=h;rfl
 ·cases h)
structure Mf where
 b:aWo
 many:Y
 ops:List (Int×(Int×(Int×(Le×Dm))))
 (n i m k:Y)
 (r p:PK)
 ev:EW
def ao7 (s:Mf):aWf:=[.fn 7 [],.own 0 0,s.b,.own 1 0,s.many,.own 2 0,.xl (.pair (.int aw)<|.pair (.int aw)<|.pair (.int .u16)<|.pair AQ Aw) s.ops,s.n,s.i,s.m,s.k]
def ao2 (s:Mf):aWi:=[pB s.r,pB s.p,⟨[s.ev.ek,s.ev.en,s.ev.em,s.ev.c1,s.ev.c2,s.ev.c3,s.ev.c4,s.ev.c5,s.ev.d1,s.ev.d2,s.ev.d3,s.ev.d4],61,.cl,X⟩]
def aHB:=lN (bN f6 0) 0
def iC (s:Mf):T (Rd Mf):=letI a:=AA<|s.many+1;letI c:=EW.ev s.ev;.br (an<|s.k<s.m) (.br (s.ev.ek==1) (.br (an<|a>150) (.so (.exit 2) {s with many:=a})<|.req (JP s.p)<|.br ((BC s.p c) !=0) (.br (s.ev.ek==1) (.so (.ret) {s with b:=X,many:=a,r:=s.p})<|.so (.exit 2) {s with many:=a})<|.br (!U) (.so (.ret) {s with b:=X,many:=a,r:=s.p})<|.nx {s with many:=a,k:=AA<|s.k+1,p:=An s.p c})<|.req (JP s.p)<|.br ((BC s.p c) !=0) (.br (s.ev.ek==1) (.so (.ret) {s with b:=X,r:=s.p})<|.so (.exit 2) s)<|.br (!U) (.so (.ret) {s with b:=X,r:=s.p})<|.nx {s with k:=AA<|s.k+1,p:=An s.p c})<|.so (.exit 2) s
def ZX (s:Mf):Prop:=s.k=0/\s.many<=12*s.i/\JP s.p/\LG s.p/\(s.p.tk<=150/\s.p.tk<=s.many/\0<=s.many)/\s.m<=12/\(0<=s.i/\s.i<=1000)
def Y9 (s:Mf):Prop:=(0<=s.k/\(s.k<=s.m\/s.k=0))/\s.many<=12*s.i+s.k/\JP s.p/\LG s.p/\(s.p.tk<=150/\s.p.tk<=s.many/\0<=s.many)/\s.m<=12/\(0<=s.i/\s.i<=1000)
def gQ (s:Mf):aWe:=(s.m-s.k).toNat
def jg (x:Ex) (s s':Mf):Prop:=x=.exit 2/\JP s'.p/\LG s'.p/\(s'.p.tk<=150/\s'.p.tk<=s'.many/\0<=s'.many)/\s'.many<=12*s'.i+12
def alM:∀s,ZX s->Y9 s:=by
 rintro s ⟨h0,h1,h2⟩
 exact ⟨A0,A0,h2⟩
def az1:Da Y9 gQ jg iC:=by
 intro s hI;unfold iC;dsimp only [T.rd,T.rl,T.rv];obtain ⟨⟨h0,h0'⟩,h1,hJ,hm,⟨t1,t2,t3⟩,h3,h4⟩:=hI
 have w:AA (s.many+1)=s.many+1:=AJ
 have wk:AA (s.k+1)=s.k+1:=AJ
 rw [w,wk];refine AH (λc1=>?_) λc1=>⟨rfl,hJ,hm,⟨t1,t2,t3⟩,by simp only [DC] at c1;omega⟩
 simp only [Aa] at c1;refine AH (λc2=>?_) λc2=>?_
 ·have c2:s.ev.ek=1:=eq_of_beq c2
  refine AH (λc3=>⟨rfl,hJ,hm,⟨t1,AZ,AZ⟩,AZ⟩) λc3=>?_
  have c3:¬s.many+1>150:=KF c3
  refine AH (λc4=>absurd (aqn hJ c2 A0)<|Dv.1 c4) λc4=>?_
  have c4:BC s.p s.ev.ev=0:=Dz c4
  refine AH (λc5=>by cases c5) λ_=>?_
  have hk:=aHf hJ c4
  exact ⟨⟨⟨AZ,AZ⟩,AZ,hJ.step c4,hm.step hJ A0 c4,⟨AZ,AZ,AZ⟩,h3,h4⟩,by simp only [gQ];omega⟩
 ·have c2:¬s.ev.ek=1:=CQ.1 c2
  refine AH (λc4=>AH (λc5=>absurd (eq_of_beq c5) c2) λ_=>⟨rfl,hJ,hm,⟨t1,t2,t3⟩,A0⟩) λc4=>?_
  have c4:BC s.p s.ev.ev=0:=Dz c4
  refine AH (λc5=>by cases c5) λ_=>?_
  have hk:=aHf hJ c4
  exact ⟨⟨⟨AZ,AZ⟩,AZ,hJ.step c4,hm.step hJ A0 c4,⟨AZ,AZ,t3⟩,h3,h4⟩,by simp only [gQ];omega⟩
def S0:AS Mf:=⟨0,75,[3,8,9,10,12,15,29,30,31,41,42],[],ao7,ao2,λv b=>⟨DQ v 2,AK v 4,Ar (.pair (.int aw)<|.pair (.int aw)<|.pair (.int .u16)<|.pair AQ Aw)<|v.getD 6 .junk,AK v 7,AK v 8,AK v 9,AK v 10,rQ b 0,rQ b 1,rE b 0 2⟩,iC,λs r=> {s with b:=r.b,many:=r.many,k:=r.k,r:=r.r,p:=r.p},λs=>s,λ_ s=>s,[.exit 2,.ret],ZX,Y9,gQ⟩
abbrev oN:=S0.run
abbrev sQ:=S0.As
def ayW:Rq Y9 iC:=by
 intro s hI;refine ⟨λc1=>⟨λc2=>⟨λ_=>trivial,λc3=>⟨?_,λc4=>⟨λ_=>trivial,λ_=>trivial⟩,λc4=>⟨λ_=>trivial,λ_=>trivial⟩⟩⟩,λc2=>⟨?_,λc7=>⟨λ_=>trivial,λ_=>trivial⟩,λc7=>⟨λ_=>trivial,λ_=>trivial⟩⟩⟩,λ_=>trivial⟩
 all_goals ((exact hI.2.2.1))
def vk:aWp:=[iL,Wu,zU,aVL]
def aSM:S0.Ok:={}
def aQe:S0.Pf (jg):=⟨alM,λs h=>rfl,az1,ayW⟩
def as8:SA 0 aHB S0:=s1 aSM aQe vk kN
def atQ:Fi ZX Y9 jg sQ oN:=AS.fin aSM aQe
structure Js where
 b:aWo
 many:Y
 ops:List (Int×(Int×(Int×(Le×Dm))))
 (n i:Y)
 (r p:PK)
def ao6 (s:Js):aWf:=[.fn 7 [],.own 0 0,s.b,.own 1 0,s.many,.xl (.pair (.int aw)<|.pair (.int aw)<|.pair (.int .u16)<|.pair AQ Aw) s.ops,s.n,s.i]
def ao1 (s:Js):aWi:=[pB s.r,pB s.p]
def qj:=bN f6 0
def Oc (s:Js):Mf:=(⟨s.b,s.many,s.ops,s.n,s.i,opT (gx (e:=.pair (.int aw)<|.pair (.int aw)<|.pair (.int .u16)<|.pair AQ Aw) s.ops s.i).1 (gx (e:=.pair (.int aw)<|.pair (.int aw)<|.pair (.int .u16)<|.pair AQ Aw) s.ops s.i).2.2.1,0,s.r,s.p,opE s.p (gx (e:=.pair (.int aw)<|.pair (.int aw)<|.pair (.int .u16)<|.pair AQ Aw) s.ops s.i).1 (gx (e:=.pair (.int aw)<|.pair (.int aw)<|.pair (.int .u16)<|.pair AQ Aw) s.ops s.i).2.1 (gx (e:=.pair (.int aw)<|.pair (.int aw)<|.pair (.int .u16)<|.pair AQ Aw) s.ops s.i).2.2.1 (gx (e:=.pair (.int aw)<|.pair (.int aw)<|.pair (.int .u16)<|.pair AQ Aw) s.ops s.i).2.2.2.1.1 (gx (e:=.pair (.int aw)<|.pair (.int aw)<|.pair (.int .u16)<|.pair AQ Aw) s.ops s.i).2.2.2.1.2.1 (gx (e:=.pair (.int aw)<|.pair (.int aw)<|.pair (.int .u16)<|.pair AQ Aw) s.ops s.i).2.2.2.1.2.2.1 (gx (e:=.pair (.int aw)<|.pair (.int aw)<|.pair (.int .u16)<|.pair AQ Aw) s.ops s.i).2.2.2.1.2.2.2.1 (gx (e:=.pair (.int aw)<|.pair (.int aw)<|.pair (.int .u16)<|.pair AQ Aw) s.ops s.i).2.2.2.1.2.2.2.2 (gx (e:=.pair (.int aw)<|.pair (.int aw)<|.pair (.int .u16)<|.pair AQ Aw) s.ops s.i).2.2.2.2.1 (gx (e:=.pair (.int aw)<|.pair (.int aw)<|.pair (.int .u16)<|.pair AQ Aw) s.ops s.i).2.2.2.2.2.1 (gx (e:=.pair (.int aw)<|.pair (.int aw)<|.pair (.int .u16)<|.pair AQ Aw) s.ops s.i).2.2.2.2.2.2.1 (gx (e:=.pair (.int aw)<|.pair (.int aw)<|.pair (.int .u16)<|.pair AQ Aw) s.ops s.i).2.2.2.2.2.2.2⟩:Mf)
def iB (s:Js):T (Rd Js):=letI a:=oN<|Oc s;.br (an<|s.i<s.n) (.ix s.i (M s.ops)<|.req (S0.q<|Oc s)<|.br (Bb (sQ<|Oc s)<|.exit 2) (.nx {s with b:=a.b,many:=a.many,i:=AA<|s.i+1,r:=a.r,p:=a.p})<|.so (.ret) {s with b:=a.b,many:=a.many,r:=a.r,p:=a.p})<|.so (.exit 0) s
def ZW (s:Js):Prop:=s.i=0/\s.many=0/\JP s.p/\LG s.p/\(s.p.tk<=150/\s.p.tk<=s.many/\0<=s.many)/\(s.n=(M s.ops:Y)/\s.n<=1000)
def U0 (s:Js):Prop:=(0<=s.i/\s.i<=s.n)/\s.many<=12*s.i/\JP s.p/\LG s.p/\(s.p.tk<=150/\s.p.tk<=s.many/\0<=s.many)/\(s.n=(M s.ops:Y)/\s.n<=1000)
def u9 (s:Js):aWe:=(s.n-s.i).toNat
def aC0 (x:Ex) (s s':Js):Prop:=x=.exit 0/\JP s'.p/\LG s'.p/\s'.p.tk<=150
def alL:∀s,ZW s->U0 s:=by
 rintro s ⟨h0,h1,h2,h3,h4,h5⟩
 exact ⟨A0,A0,h2,h3,h4,h5⟩
def aQu {s:Js}(hI:U0 s) (c1:s.i<s.n):jg (sQ<|Oc s) (Oc s) (oN<|Oc s)/\ZX (Oc s):=by
 obtain ⟨⟨h0,h1⟩,h2,hJ,hm,ht,h3⟩:=id hI
 have hE:ZX (Oc s):=⟨rfl,h2,hJ,hm,ht,agQ _ _,⟨h0,by show s.i<=1000;omega⟩⟩
 obtain ⟨_,_,q⟩:=atQ _ hE;exact ⟨q,hE⟩
def az0:Da U0 u9 aC0 iB:=by
 intro s hI;unfold iB;dsimp only [T.rd,T.rl,T.rv];obtain ⟨⟨h0,h1⟩,h2,hJ,hm,ht,h3⟩:=id hI;refine AH (λc1=>?_) λc1=>⟨rfl,hJ,hm,ht.1⟩
 have c1:s.i<s.n:=AX
 obtain ⟨x1,x2,x3,x4,x5⟩:=(aQu hI c1).1;rw [AJ (x:=s.i+1)];refine AH (λc2=>?_) λc2=>?_
 ·have x5:(oN<|Oc s).many<=12*s.i+12:=x5
  exact ⟨⟨⟨AZ,AZ⟩,AZ,x2,x3,x4,h3⟩,by simp only [u9];omega⟩
 ·rw [x1] at c2
  cases c2
def Rz:AS Js:=⟨0,75,[3,8,9,10,12,29,30,31],[.ps 8 0 Af,.ps 8 1 .str,.ps 8 2 Al,.ps 8 3 Ah,.ps 8 4 Am,.ps 8 7 AQ,.ps 8 9<|.int aw,.ps 8 10 Ap,.ps 8 12 B7,.ps 8 13 AQ,.ps 8 14 B9,.ps 8 15 BS,.ps 8 16 Aw,.ps 8 17 BP,.ps 8 18 A7,.ps 8 19 A7],ao6,ao1,λv b=>⟨DQ v 2,AK v 4,Ar (.pair (.int aw)<|.pair (.int aw)<|.pair (.int .u16)<|.pair AQ Aw)<|v.getD 5 .junk,AK v 6,AK v 7,rQ b 0,rQ b 1⟩,iB,λs r=> {r with ops:=s.ops,n:=s.n},λs=>s,λ_ s=>s,[.ret,.exit 0],ZW,U0,u9⟩
abbrev dW:=Rz.run
abbrev sP:=Rz.As
def ayV:Rq U0 iB:=by
 intro s hI;refine ⟨λc1=>⟨?_,?_,λ_=>trivial,λ_=>trivial⟩,λ_=>trivial⟩
 all_goals ((obtain ⟨⟨h0,h1⟩,h2,hJ,hm,ht,h3⟩:=id hI;simp only [Aa] at c1;first|omega|exact ⟨(aQu hI c1).2,rfl,rfl⟩))
def aSL:Rz.Ok:={}
def aQd:Rz.Pf (aC0):=⟨alL,λs h=>rfl,az0,ayV⟩
def as7:SA 0 qj Rz:=AS.snd aSL aQd (ov (Γ:=vk) (K:=G9) (L:=(λi=>if i=10 then S0.lp else Ak i)) (gk vk) kN.h qj (λb hb=>by
 rw [show BD _=[aHB] by kernel_rfl] at hb
 simp only [BA,Bu,Bs] at hb;subst hb;exact as8)) λs=>AU
def aHk:Fi ZW U0 aC0 sP dW:=AS.fin aSL aQd
def plS (cs:aWl) (os:aWg) (ks:aWr) (gs:aWh) (bs:aWs) (dr:aWd) (ops:List<|(Int×(Int×(Int×(Le×Dm))))):Js:=⟨X,0,ops,(M ops:Y),0,PK0,newP cs os ks gs bs dr⟩
def Dy (cs:aWl) (os:aWg) (ks:aWr) (gs:aWh) (bs:aWs) (dr:aWd) (ops:List<|(Int×(Int×(Int×(Le×Dm))))):PK:=if DB cs os ks gs bs dr≠0 then newP cs os ks gs bs dr else (dW<|plS cs os ks gs bs dr ops).p
def plE {cs:aWl}{os:aWg}{ks:aWr}{gs:aWh}{bs:aWs}{dr:aWd}{ops:List<|(Int×(Int×(Int×(Le×Dm))))}(c:DB cs os ks gs bs dr=0) (h2:M ops<=1000):ZW (plS cs os ks gs bs dr ops):=by
 have hp:newP cs os ks gs bs dr=_:=AE VY
 refine ⟨rfl,rfl,ua c,agN c,?_,⟨rfl,by show (M ops:Y)<=1000;omega⟩⟩
 show (newP cs os ks gs bs dr).tk<=150/\(newP cs os ks gs bs dr).tk<=0/\(0:Y)<=0
 rw [hp];exact ⟨by show (0:Y)<=150;decide,Co _,Co _⟩
def az2 {cs:aWl}{os:aWg}{ks:aWr}{gs:aWh}{bs:aWs}{dr:aWd}{ops:List<|(Int×(Int×(Int×(Le×Dm))))}(c:DB cs os ks gs bs dr=0) (h2:M ops<=1000):letI a:=Dy cs os ks gs bs dr ops;JP a/\LG a/\a.tk<=150:=by
 obtain ⟨_,_,_,q⟩:=aHk _<|plE c h2;rw [show Dy cs os ks gs bs dr ops=_ from AE VY];exact q
def aUo:aWf->T LV
 | .agg a::r=>s5 a λcs os ks gs bs=>(match r with
  | [.xl (.int J) dr,.xl (.pair (.int aw) (.pair (.int aw) (.pair (.int .u16) (.pair (.pair (.int J) (.pair (.int J) (.pair (.int J) (.pair (.int J) (.int J))))) (.pair .bool (.pair (.int J) (.pair (.int J) (.int J)))))))) ops,.fn 7 []]=> .req (M dr<=1000/\M ops<=1000) (.ok<|.AO [Dy cs os ks gs bs dr ops,U])
  |_=> .no)
 |_=> .no
def aD6 (cs:aWl) (os:aWg) (ks:aWr) (gs:aWh) (bs:aWs) (dr:aWd) (ops:List<|Int×(Int×(Int×(Le×Dm)))):Js:=(⟨X,0,ops,(M ops:Y),0,⟨([]:aWl),([]:aWg),([]:aWr),([]:aWh),([]:aWs),0,X,([]:aWn),0,([]:aWd),([]:aWJ),0,([]:aWE),([]:aWn),([]:aWY),([]:aW2),([]:aWB),([]:aWN),([]:aWd),([]:aWd)⟩,newP cs os ks gs bs dr⟩:Js)
def aiE:aWp:=[iL,Wu,zU,aVL]
def aVa:=vm (S:=aUo) func6 aiE kN (L:=(λi=>if i=6 then Rz.lp else Ak i)) (λb hb=>by
 rw [show BD _=[qj] by kernel_rfl] at hb
 simp only [BA,Bu,Bs] at hb;subst hb;exact as7) (λargs lv h=>by
 unfold aUo at h;split at h
 case h_2=>cases h
 replace h:=IT h
 obtain ⟨cs,os,ks,gs,bs,rfl,h⟩:=h;split at h
 ·rename_i dr ops
  refine Aq (letI a:=aD6 cs os ks gs bs dr ops;.req (M dr<=1000)<|.br ((DB cs os ks gs bs dr) !=0) (.ok<|.AO [((newP cs os ks gs bs dr)),U])<|.req (Rz.q a)<|.br (Bb (sP a)<|.ret) (.ok<|.AO [((dW a).r),(dW a).b])<|.ok<|.AO [((dW a).p),U]) ?_;obtain ⟨⟨h1,h2⟩,rfl⟩:=h;refine ⟨h1,λc=>?_,λc=>?_⟩
  ·have c:=Dv.1 c
   rw [show Dy cs os ks gs bs dr ops=newP cs os ks gs bs dr from AD c];rfl
  have c:=Dz c
  have hE:ZW (aD6 cs os ks gs bs dr ops):=plE c h2
  obtain ⟨_,_,q,_⟩:=aHk _ hE
  have q:sP (aD6 cs os ks gs bs dr ops)=.exit 0:=q
  refine ⟨⟨hE,rfl,rfl⟩,λc2=>?_,λ_=>?_⟩
  ·rw [q] at c2
   cases c2
  ·rw [show Dy cs os ks gs bs dr ops=_ from AE VY]
   rfl
 ·cases h)
def aUk:aWf->T LV
 | .agg a::r=>s5 a λcs os ks gs bs=>(match r with
  | []=> .ok (an<|M cs<=40/\M os<=40/\M ks<=40/\M gs<=40/\M bs<=40)
  |_=> .no)
 |_=> .no
def XL:aWp:=[]
def aVY:=vo (S:=aUk) func16 XL kN (λargs lv h=>by
 unfold aUk at h;split at h
 case h_2=>cases h
 replace h:=IT h
 obtain ⟨cs,os,ks,gs,bs,rfl,h⟩:=h;split at h
 ·refine Aq (.ok<|.v<|.bool<|(an<|(M cs:Y)<=40)&&((an<|(M os:Y)<=40)&&((an<|(M ks:Y)<=40)&&((an<|(M gs:Y)<=40)&&(an<|(M bs:Y)<=40))))) ?_
  obtain rfl:=h;refine B3 (λz=>LV.v<|.bool z) ?_
  rw [Ip];simp only [AY,Aa];omega
 ·cases h)
structure Mr where
 (a b:aWn)
 b0:aWo
 i:Y
def aGE:=bN f11 0
def iS (s:Mr):T (Rd Mr):=letI c:=Ag s.a s.i;letI d:=Ag s.b s.i;.br (an<|s.i<(M s.a:Y)) (.ix s.i (M s.a)<|.ix s.i (M s.b)<|.br (!((c.1==d.1)&&((c.2.1==d.2.1)&&((c.2.2.1==d.2.2.1)&&((c.2.2.2.1==d.2.2.2.1)&&(c.2.2.2.2==d.2.2.2.2)))))) (.so (.ret) {s with b0:=X})<|.nx {s with i:=AA<|s.i+1})<|.so (.exit 0) s
def Tk (s:Mr) (j:Y):aWo:=Ag s.a j==Ag s.b j
def aCS (s:Mr):Prop:=s.i=0/\0<=(M s.a:Y)/\(M s.a:Y)<=1000/\M s.a=M s.b
def Yl (s:Mr):Prop:=0<=s.i/\s.i<=(M s.a:Y)/\(M s.a:Y)<=1000/\(M s.a=M s.b)/\∀j:aWe,(j:Y)<s.i->Tk s j=U
def tm (s:Mr):aWe:=((M s.a:Y)-s.i).toNat
def aBq (x:Ex) (s s':Mr):Prop:=(x=.exit 0/\∀j:aWe,(j:Y)<(M s'.a:Y)->Tk s' j=U)\/(x=.ret/\s'.b0=X/\∃j:aWe,(j:Y)<(M s'.a:Y)/\Tk s' j=X)
def ak8:∀s,aCS s->Yl s:=by
 exact KH
def ayt:Da Yl tm aBq iS:=by
 intro s hI;unfold iS;dsimp only [T.rd,T.rl,T.rv];obtain ⟨h0,h1,h2,h3,h4⟩:=hI;refine AH (λc1=>AH (λc2=>?_) λc2=>?_) λc1=>?_
 ·have c1:s.i<(M s.a:Y):=AX
  refine .inr ⟨rfl,rfl,s.i.toNat,AZ,?_⟩;rw [CP A0]
  have hg:Tk s s.i=false:=aOF
  exact hg
 ·have c1:s.i<(M s.a:Y):=AX
  have hg:Tk s s.i=true:=aOF
  rw [AJ (x:=s.i+1)];refine ⟨⟨AZ,AZ,h2,h3,λj hj=>?_⟩,by simp only [tm];omega⟩
  by_cases hji:(j:Y)<s.i
  ·exact h4 j hji
  ·exact aNB
 ·have c1:(M s.a:Y)<=s.i:=AX
  exact VH
def Ry:AS Mr:=⟨0,26,[0,1,4,5],[],λs=>[s.a,s.b,s.b0,s.i],λ_=>[],λv b=>⟨Az AQ v 0,Az AQ v 1,DQ v 2,AK v 3⟩,iS,λs r=> {r with a:=s.a,b:=s.b},λs=>s,λ_ s=>s,[.ret,.exit 0],aCS,Yl,tm⟩
abbrev aHo:=Ry.run
abbrev aIT:=Ry.As
def ayK:Rq Yl iS:=by
 exact xN
def aR9:Ry.Ok:={}
def aR8:Ry.Pf (aBq):=⟨ak8,λs h=>rfl,ayt,ayK⟩
def arw:SA 0 aGE Ry:=s1 aR9 aR8 XL kN
def at7:Fi aCS Yl aBq aIT aHo:=AS.fin aR9 aR8
def aIv:aWf->T LV
 | [.xl (.pair (.int J) (.pair (.int J) (.pair (.int J) (.pair (.int J) (.int J))))) a,.xl (.pair (.int J) (.pair (.int J) (.pair (.int J) (.pair (.int J) (.int J))))) b]=> .req ((M a:Y)<=1000/\a=b) (.ok U)
 |_=> .no
def aPl:=vm (S:=aIv) func11 XL kN (L:=(λi=>if i=4 then Ry.lp else Ak i)) (λb hb=>by
 rw [show BD _=[aGE] by kernel_rfl] at hb
 simp only [BA,Bu,Bs] at hb;subst hb;exact arw) (λargs lv h=>by
 unfold aIv at h;split at h
 ·rename_i a b
  refine Aq (.br ((M a:Y) !=(M b:Y)) (.ok X)<|.req (Ry.q (⟨a,b,X,0⟩:Mr))<|.br (Bb (aIT (⟨a,b,X,0⟩:Mr))<|.ret) (.ok (aHo (⟨a,b,X,0⟩:Mr)).b0)<|.ok U) ?_;obtain ⟨⟨hl,rfl⟩,rfl⟩:=h;refine ⟨λc=>absurd c AI,λc=>?_⟩
  refine Jx ⟨⟨rfl,SY _,hl,rfl⟩,rfl,rfl⟩ λhE=>?_
  obtain ⟨s',_,hq⟩:=at7 _ hE.1;rcases hq with ⟨q1,q2⟩ |⟨q1,q2,j,q3,q4⟩
  ·rw [q1]
   exact ⟨λh=>Ao,λ_=>rfl⟩
  ·have q4:(Ag a j==Ag a j)=false:=q4
   simp at q4
 ·cases h)
structure Np where
 b0:aWo
 l:aWn
 (n i W8 Vz Wt Ws WM:Y)
def aGr:=bN f12 0
def iw (s:Np):T (Rd Np):=letI a:=Ag s.l s.i;.br (an<|s.i<s.n) (.ix s.i (M s.l)<|.br ((a.1==s.W8)&&((a.2.1==s.Vz)&&((a.2.2.1==s.Wt)&&((a.2.2.2.1==s.Ws)&&(a.2.2.2.2==s.WM))))) (.so (.ret) {s with b0:=U})<|.nx {s with i:=AA<|s.i+1})<|.so (.exit 0) s
def aCF (s:Np):Prop:=s.i=0/\s.n=(M s.l:Y)/\M s.l<=1000/\(s.W8,s.Vz,s.Wt,s.Ws,s.WM)∈s.l
def ZM (s:Np):Prop:=(0<=s.i/\s.i<=s.n)/\s.n=(M s.l:Y)/\M s.l<=1000/\∃j:aWe,s.i<=(j:Y)/\j<M s.l/\Ag s.l j=(s.W8,s.Vz,s.Wt,s.Ws,s.WM)
def vH (s:Np):aWe:=(s.n-s.i).toNat
def aBk (x:Ex) (s s':Np):Prop:=x=.ret/\s'.b0=U
def amy:∀s,aCF s->ZM s:=by
 rintro s ⟨h0,h1,h2,h3⟩
 refine ⟨⟨A0,A0⟩,h1,h2,?_⟩;obtain ⟨j,hj,e⟩:=HG.1 h3;exact ⟨j,A0,hj,by rw [La bH];simpa using e⟩
def ajT:Da ZM vH aBk iw:=by
 intro s hI;unfold iw;dsimp only [T.rd,T.rl,T.rv];obtain ⟨⟨h0,h1⟩,h2,h3,j,j1,j2,j3⟩:=hI;refine AH (λc1=>?_) λc1=>?_
 ·rw [AJ (x:=s.i+1)]
  have c1:s.i<s.n:=AX
  refine AH (λc2=>⟨rfl,rfl⟩) λc2=>?_
  refine ⟨⟨⟨AZ,AZ⟩,h2,h3,j,?_,j2,j3⟩,by simp only [vH];omega⟩
  show s.i+1<=(j:Y)
  by_cases e:s.i=(j:Y)
  ·rw [e,j3] at c2
   simp at c2
  ·omega
 ·have c1:s.n<=s.i:=AX
  omega
def Rl:AS Np:=⟨0,17,[3,4,7,8,9],[],λs=>[.own 0 0,s.b0,s.l,s.n,s.i],λs=>[⟨[s.W8,s.Vz,s.Wt,s.Ws,s.WM],65,.cl,X⟩],λv b=>⟨DQ v 1,Az AQ v 2,AK v 3,AK v 4,Aj b 0 0,Aj b 0 1,Aj b 0 2,Aj b 0 3,Aj b 0 4⟩,iw,λs r=> {s with b0:=r.b0,i:=r.i},λs=>s,λ_ s=>s,[.ret,.exit 0],aCF,ZM,vH⟩
abbrev aI0:=Rl.run
abbrev aJf:=Rl.As
def azF:Rq ZM iw:=by
 intro s hI;refine ⟨λc1=>⟨?_,λ_=>trivial,λ_=>trivial⟩,λ_=>trivial⟩
 ·(obtain ⟨⟨h0,h1⟩,h2,h3,_⟩:=hI;simp only [Aa] at c1;omega)
def aS9:Rl.Ok:={}
def aRj:Rl.Pf (aBk):=⟨amy,λs h=>rfl,ajT,azF⟩
def ar6:SA 0 aGr Rl:=s1 aS9 aRj XL kN
def avY:Fi aCF ZM aBk aJf aI0:=AS.fin aS9 aRj
def aKe:aWf->T LV
 | [.xl (.pair (.int J) (.pair (.int J) (.pair (.int J) (.pair (.int J) (.int J))))) l,.v (.agg ⟨[ag J nu,ag J co,ag J am,ag J fr,ag J tk]⟩)]=> .req (M l<=1000/\(nu,co,am,fr,tk)∈l) (.ok U)
 |_=> .no
def aPt:=vm (S:=aKe) func12 XL kN (L:=(λi=>if i=2 then Rl.lp else Ak i)) (λb hb=>by
 rw [show BD _=[aGr] by kernel_rfl] at hb
 simp only [BA,Bu,Bs] at hb;subst hb;exact ar6) (λargs lv h=>by
 unfold aKe at h;split at h
 ·rename_i l nu co am fr tk
  refine Aq (letI a:=(M l:Y);.req (Rl.q (⟨X,l,a,0,nu,co,am,fr,tk⟩:Np))<|.br (Bb (aJf (⟨X,l,a,0,nu,co,am,fr,tk⟩:Np))<|.ret) (.ok (aI0 (⟨X,l,a,0,nu,co,am,fr,tk⟩:Np)).b0)<|.ok X) ?_;obtain ⟨⟨h1,h2⟩,rfl⟩:=h;refine Jx ⟨⟨rfl,rfl,h1,h2⟩,rfl,rfl⟩ λhE=>?_
  obtain ⟨_,_,q⟩:=avY _ hE.1;rw [q.1,q.2];exact ⟨λ_=>rfl,λh=>Ao⟩
 ·cases h)
structure Md where
 (b b1:aWo)
 (hl al hd:aWn)
 (n i:Y)
 (p r:PK)
def aHA:=bN f3 0
def iA (s:Md):T (Rd Md):=
 .br (an<|s.i<s.n) (.ix s.i (M s.hd)<|.req (M s.al<=1000/\(Ag s.hd s.i)∈s.al)<|.br (!U) (.so (.ret) {s with b:=X})<|.nx {s with i:=AA<|s.i+1}) (.so (.exit 0) s)
def ZV (s:Md):Prop:=s.i=0/\s.n=(M s.hd:Y)/\M s.hd<=1000/\M s.al<=1000/\∀x∈s.hd,x∈s.al
def Y8 (s:Md):Prop:=(0<=s.i/\s.i<=s.n)/\s.n=(M s.hd:Y)/\M s.hd<=1000/\M s.al<=1000/\∀x∈s.hd,x∈s.al
def u7 (s:Md):aWe:=(s.n-s.i).toNat
def aBz (x:Ex) (s s':Md):Prop:=x=.exit 0
def alK:∀s,ZV s->Y8 s:=by
 exact xz
def azX:Da Y8 u7 aBz iA:=by
 intro s hI;unfold iA;dsimp only [T.rd,T.rl,T.rv];obtain ⟨⟨h0,h1⟩,h2,h3,h4,h5⟩:=hI;refine AH (λc1=>?_) λc1=>rfl
 have c1:s.i<s.n:=AX
 rw [AJ (x:=s.i+1)];exact AH (λc2=>by cases c2) λc2=>⟨⟨⟨AZ,AZ⟩,h2,h3,h4,h5⟩,by simp only [u7];omega⟩
def Pl:AS Md:=⟨0,183,[6,7,8,15,18,20,136,137,138],[],λs=>[s.b,s.b1,.own 0 0,.own 1 0,s.hl,s.al,s.hd,s.n,s.i],λs=>[pB s.p,pB s.r],λv b=>⟨DQ v 0,DQ v 1,Az AQ v 4,Az AQ v 5,Az AQ v 6,AK v 7,AK v 8,rQ b 0,rQ b 1⟩,iA,λs r=> {s with b:=r.b,i:=r.i},λs=>s,λ_ s=>s,[.ret,.exit 0],ZV,Y8,u7⟩
abbrev dV:=Pl.run
abbrev df:=Pl.As
def ayU:Rq Y8 iA:=by
 intro s hI;refine ⟨λc1=>⟨?_,?_,λ_=>trivial,λ_=>trivial⟩,λ_=>trivial⟩
 all_goals ((obtain ⟨⟨h0,h1⟩,h2,h3,h4,h5⟩:=hI;simp only [Aa] at c1;first|omega|exact ⟨h4,h5 _<|J8 A0 A0⟩))
def XK:aWp:=[aLS,aVa,iL,zX,Wu,XT,aPl,aPt,aVY]
def uj:B1:=kI XK<|l0 XK
def aSK:Pl.Ok:={}
def aQc:Pl.Pf (aBz):=⟨alK,λs h=>rfl,azX,ayU⟩
def as6:SA 0 aHA Pl:=s1 aSK aQc XK uj
def aHj:Fi ZV Y8 aBz df dV:=AS.fin aSK aQc
structure Mc where
 (b b1:aWo)
 hl:aWn
 lk:aWN
 (n i:Y)
 p:PK
def aH9:=bN f3 1
def iW (s:Mc):T (Rd Mc):=
 .br (an<|s.i<s.n) (.ix s.i (M s.lk)<|.req (M s.hl<=1000/\(Ea s.lk s.i).2∈s.hl)<|.br ((!U) ||(an<|(Ea s.lk s.i).2.1>=s.p.nx)) (.so (.ret) {s with b:=X})<|.nx {s with i:=AA<|s.i+1}) (.so (.exit 2) s)
def ZU (s:Mc):Prop:=s.i=0/\s.n=(M s.lk:Y)/\M s.lk<=10000/\M s.hl<=1000/\∀x∈s.lk,x.2∈s.hl/\x.2.1<s.p.nx
def Y7 (s:Mc):Prop:=(0<=s.i/\s.i<=s.n)/\s.n=(M s.lk:Y)/\M s.lk<=10000/\M s.hl<=1000/\∀x∈s.lk,x.2∈s.hl/\x.2.1<s.p.nx
def u6 (s:Mc):aWe:=(s.n-s.i).toNat
def aBy (x:Ex) (s s':Mc):Prop:=x=.exit 2
def alJ:∀s,ZU s->Y7 s:=by
 exact xz
def aIg {l:aWN}{i:Y}(h0:0<=i) (h:i<(M l:Y)):Ea l i∈l:=by
 unfold Ea;rw [Lc A0];exact GZ _
def azW:Da Y7 u6 aBy iW:=by
 intro s hI;unfold iW;dsimp only [T.rd,T.rl,T.rv];obtain ⟨⟨h0,h1⟩,h2,h3,h4,h5⟩:=hI;refine AH (λc1=>?_) λc1=>rfl
 have c1:s.i<s.n:=AX
 rw [AJ (x:=s.i+1)];refine AH (λc2=>?_) λc2=>⟨⟨⟨AZ,AZ⟩,h2,h3,h4,h5⟩,by simp only [u6];omega⟩
 have:=(h5 _<|aIg h0 A0).2
 simp only [Bool.not_true,D4,Aa] at c2;omega
def Pk:AS Mc:=⟨0,183,[6,7,15,18,148,149,150],[],λs=>[s.b,s.b1,.own 0 0,s.hl,s.lk,s.n,s.i],λs=>[pB s.p],λv b=>⟨DQ v 0,DQ v 1,Az AQ v 3,Az BP v 4,AK v 5,AK v 6,rQ b 0⟩,iW,λs r=> {s with b:=r.b,i:=r.i},λs=>s,λ_ s=>s,[.ret,.exit 2],ZU,Y7,u6⟩
abbrev dU:=Pk.run
abbrev dd:=Pk.As
def ayT:Rq Y7 iW:=by
 intro s hI;refine ⟨λc1=>⟨?_,?_,λ_=>trivial,λ_=>trivial⟩,λ_=>trivial⟩
 all_goals ((obtain ⟨⟨h0,h1⟩,h2,h3,h4,h5⟩:=hI;simp only [Aa] at c1;first|omega|exact ⟨h4,(h5 _<|aIg h0 A0).1⟩))
def aSJ:Pk.Ok:={}
def aQb:Pk.Pf (aBy):=⟨alJ,λs h=>rfl,azW,ayT⟩
def as5:SA 0 aH9 Pk:=s1 aSJ aQb XK uj
def aHi:Fi ZU Y7 aBy dd dU:=AS.fin aSJ aQb
structure Mv where
 (b b1:aWo)
 hd:aWn
 (n i:Y)
 p:PK
def aGI:=bN f3 2
def iV (s:Mv):T (Rd Mv):=
 .br (an<|s.i<s.n) (.ix s.i (M s.hd)<|.br (an<|(Ag s.hd s.i).1>=s.p.nx) (.so (.ret) {s with b:=X})<|.nx {s with i:=AA<|s.i+1}) (.so (.exit 4) s)
def ZT (s:Mv):Prop:=s.i=0/\s.n=(M s.hd:Y)/\M s.hd<=1000/\∀x∈s.hd,x.1<s.p.nx
def Y6 (s:Mv):Prop:=(0<=s.i/\s.i<=s.n)/\s.n=(M s.hd:Y)/\M s.hd<=1000/\∀x∈s.hd,x.1<s.p.nx
def u0 (s:Mv):aWe:=(s.n-s.i).toNat
def aBx (x:Ex) (s s':Mv):Prop:=x=.exit 4
def alI:∀s,ZT s->Y6 s:=by
 exact xz
def azV:Da Y6 u0 aBx iV:=by
 intro s hI;unfold iV;dsimp only [T.rd,T.rl,T.rv];obtain ⟨⟨h0,h1⟩,h2,h3,h5⟩:=hI;refine AH (λc1=>?_) λc1=>rfl
 have c1:s.i<s.n:=AX
 rw [AJ (x:=s.i+1)];refine AH (λc2=>?_) λc2=>⟨⟨⟨AZ,AZ⟩,h2,h3,h5⟩,by simp only [u0];omega⟩
 have:=h5 _<|J8 (l:=s.hd) h0 A0
 have c2:=D5 c2
 omega
def Pj:AS Mv:=⟨0,183,[6,7,15,169,170,171],[],λs=>[s.b,s.b1,.own 0 0,s.hd,s.n,s.i],λs=>[pB s.p],λv b=>⟨DQ v 0,DQ v 1,Az AQ v 3,AK v 4,AK v 5,rQ b 0⟩,iV,λs r=> {s with b:=r.b,i:=r.i},λs=>s,λ_ s=>s,[.ret,.exit 4],ZT,Y6,u0⟩
abbrev rD:=Pj.run
abbrev dc:=Pj.As
def ayS:Rq Y6 iV:=by
 intro s hI;refine ⟨λc1=>⟨?_,λ_=>trivial,λ_=>trivial⟩,λ_=>trivial⟩
 ·(obtain ⟨⟨h0,h1⟩,h2,h3,h5⟩:=hI;simp only [Aa] at c1;omega)
def aRG:Pj.Ok:={}
def aQa:Pj.Pf (aBx):=⟨alI,λs h=>rfl,azV,ayS⟩
def as4:SA 0 aGI Pj:=s1 aRG aQa XK uj
def aHh:Fi ZT Y6 aBx dc rD:=AS.fin aRG aQa
def aUB:aWf->T LV
 | .agg a::r=>s5 a λcs os ks gs bs=>(match r with
  | [.xl (.int J) dr,.xl (.pair (.int aw) (.pair (.int aw) (.pair (.int .u16) (.pair (.pair (.int J) (.pair (.int J) (.pair (.int J) (.pair (.int J) (.int J))))) (.pair .bool (.pair (.int J) (.pair (.int J) (.int J)))))))) ops]=> .ok U
  |_=> .no)
 |_=> .no
def acR:=uS f3 aUB
def ot (cs:aWl) (os:aWg) (ks:aWr) (gs:aWh) (bs:aWs) (dr:aWd) (ops:List<|Int×(Int×(Int×(Le×Dm)))):Md:=letI a:=Dy cs os ks gs bs dr ops;letI b:=An a E7;(⟨X,U,Ad b.se b.fl,BB (Ad b.se b.fl) b.tk,BB a.ls a.tk,(M (BB a.ls a.tk):Y),0,b,An b EL⟩:Md)
def oq (cs:aWl) (os:aWg) (ks:aWr) (gs:aWh) (bs:aWs) (dr:aWd) (ops:List<|Int×(Int×(Int×(Le×Dm)))):Mc:=letI a:=An (Dy cs os ks gs bs dr ops) E7;(⟨(dV<|ot cs os ks gs bs dr ops).b,U,Ad a.se a.fl,a.lk,(M a.lk:Y),0,An a EL⟩:Mc)
def aDR (cs:aWl) (os:aWg) (ks:aWr) (gs:aWh) (bs:aWs) (dr:aWd) (ops:List<|Int×(Int×(Int×(Le×Dm)))):Mv:=letI a:=An (Dy cs os ks gs bs dr ops) E7;(⟨(dU<|oq cs os ks gs bs dr ops).b,U,Ad a.se a.fl,(M (Ad a.se a.fl):Y),0,An a EL⟩:Mv)
def oo (cs:aWl) (os:aWg) (ks:aWr) (gs:aWh) (bs:aWs) (dr:aWd) (ops:List<|Int×(Int×(Int×(Le×Dm)))):Md:=letI a:=Dy cs os ks gs bs dr ops;(⟨X,U,Ad a.se a.fl,BB (Ad a.se a.fl) a.tk,BB a.ls a.tk,(M (BB a.ls a.tk):Y),0,a,An a EL⟩:Md)
def oh (cs:aWl) (os:aWg) (ks:aWr) (gs:aWh) (bs:aWs) (dr:aWd) (ops:List<|Int×(Int×(Int×(Le×Dm)))):Mc:=letI a:=Dy cs os ks gs bs dr ops;(⟨(dV<|oo cs os ks gs bs dr ops).b,U,Ad a.se a.fl,a.lk,(M a.lk:Y),0,An a EL⟩:Mc)
def aDQ (cs:aWl) (os:aWg) (ks:aWr) (gs:aWh) (bs:aWs) (dr:aWd) (ops:List<|Int×(Int×(Int×(Le×Dm)))):Mv:=letI a:=Dy cs os ks gs bs dr ops;(⟨(dU<|oh cs os ks gs bs dr ops).b,U,Ad a.se a.fl,(M (Ad a.se a.fl):Y),0,An a EL⟩:Mv)
def vj:aWp:=[aLS,aVa,iL,zX,Wu,XT,aPl,aPt,aVY]
def ah2:B1:=kI vj<|l0 vj
def akd:VV 3 acR:=vm func3 vj ah2 (L:=(λi=>if i=21 then Pl.lp else if i=27 then Pk.lp else if i=33 then Pj.lp else Ak i)) (λb hb=>by
 rw [show BD _=[aHA,aH9,aGI] by kernel_rfl] at hb
 simp only [BA,Bu,Bs] at hb;rcases hb with rfl|rfl|rfl
 ·exact as6
 ·exact as5
 ·exact as4) (λargs lv h=>by
 unfold aUB at h;split at h
 case h_2=>cases h
 replace h:=IT h
 obtain ⟨cs,os,ks,gs,bs,rfl,h⟩:=h;split at h
 ·rename_i dr ops
  refine Aq (letI a:=Dy cs os ks gs bs dr ops;letI d:=An a E7;letI e:=ot cs os ks gs bs dr ops;letI f:=oq cs os ks gs bs dr ops;letI g:=aDR cs os ks gs bs dr ops;letI j:=oo cs os ks gs bs dr ops;letI k:=oh cs os ks gs bs dr ops;letI l:=aDQ cs os ks gs bs dr ops;.br (!((an<|M cs<=40/\M os<=40/\M ks<=40/\M gs<=40/\M bs<=40)&&((an<|(M dr:Y)<=40)&&(an<|(M ops:Y)<=40)))) (.ok U)<|.req (M dr<=1000/\M ops<=1000)<|.br (!U) (.ok X)<|.br ((M a.tg:Y)==0) (.ok U)<|.req (Cm a.ls a.tk=0)<|.br a.up (.req (JP a)<|.br (((BC a E7) !=0) ||(d.up ||((M d.ls:Y) !=0))) (.ok X)<|.req (JP d)<|.req (BJ d.fl)<|.req (Cm (Ad d.se d.fl) d.tk=0)<|.br ((BC d EL) !=0) (.ok X)<|.br ((C2 d.se d.fl) !=0) (.ok X)<|.br (!(An d EL).up) (.ok X)<|.req ((M (An d EL).ls:Y)<=1000/\(An d EL).ls=(BB (Ad d.se d.fl) d.tk))<|.br (!U) (.ok X)<|.req (Pl.q e)<|.br (Bb (df e)<|.ret) (.ok (dV e).b)<|.req (Pk.q f)<|.br (Bb (dd f)<|.ret) (.ok (dU f).b)<|.req (Pj.q g)<|.br (Bb (dc g)<|.ret) (.ok (rD g).b)<|.ok U)<|.req (JP a)<|.req (BJ a.fl)<|.req (Cm (Ad a.se a.fl) a.tk=0)<|.br ((BC a EL) !=0) (.ok X)<|.br ((C2 a.se a.fl) !=0) (.ok X)<|.br (!(An a EL).up) (.ok X)<|.req ((M (An a EL).ls:Y)<=1000/\(An a EL).ls=(BB (Ad a.se a.fl) a.tk))<|.br (!U) (.ok X)<|.req (Pl.q j)<|.br (Bb (df j)<|.ret) (.ok (dV j).b)<|.req (Pk.q k)<|.br (Bb (dd k)<|.ret) (.ok (dU k).b)<|.req (Pj.q l)<|.br (Bb (dc l)<|.ret) (.ok (rD l).b)<|.ok U) ?_;obtain rfl:=h;refine ⟨λ_=>rfl,λc1=>?_⟩
  simp only [IK,AY,Aa] at c1;obtain ⟨_,k1,k2⟩:=c1;refine ⟨⟨A0,A0⟩,λc=>Em,λ_=>⟨λ_=>rfl,λc3=>?_⟩⟩
  have hn:DB cs os ks gs bs dr=0:=Zf λhc=>by
   rw [show Dy cs os ks gs bs dr ops=newP cs os ks gs bs dr from AD hc,show newP cs os ks gs bs dr=PK0 from AD hc] at c3;cases c3
  obtain ⟨hJ,hf,ht⟩:=az2 hn (ops:=ops) A0;obtain ⟨x0,x1⟩:=agw hJ hf
  have xl:M (BB (Dy cs os ks gs bs dr ops).ls (Dy cs os ks gs bs dr ops).tk)<=1000:=HJ pW (by have:=hJ.1.2.ls;omega)
  refine ⟨x0,λc4=>⟨hJ,?_⟩,λc4=>?_⟩
  ·obtain ⟨e5,eP⟩:=ata hJ c4
   have hJ2:=hJ.step e5
   have hf2:=hf.step hJ A0 e5
   have hu2:(An (Dy cs os ks gs bs dr ops) E7).up=false:=nG
   have ht2:(An (Dy cs os ks gs bs dr ops) E7).tk<=150:=by rw [eP];exact ht
   have x1:∀x∈BB (Dy cs os ks gs bs dr ops).ls (Dy cs os ks gs bs dr ops).tk,x∈BB (Ad (An (Dy cs os ks gs bs dr ops) E7).se (An (Dy cs os ks gs bs dr ops) E7).fl) (An (Dy cs os ks gs bs dr ops) E7).tk:=by rw [eP];exact x1
   have e6:M (An (Dy cs os ks gs bs dr ops) E7).ls=0:=nG
   refine ⟨λc5=>?_,λ_=>⟨hJ2,?_⟩⟩
   ·have c5:((BC (Dy cs os ks gs bs dr ops) E7 !=0) ||((An (Dy cs os ks gs bs dr ops) E7).up ||((M (An (Dy cs os ks gs bs dr ops) E7).ls:Y) !=0)))=true:=c5
    rw [e5,hu2,e6] at c5;cases c5
   obtain ⟨⟨r1,r2,r3⟩,r4,r5,r6,r7,⟨r8,r9⟩,r10⟩:=aFk hJ2 hf2 hu2 ht2
   have h0:ZV (ot cs os ks gs bs dr ops):=⟨rfl,rfl,xl,r6,x1⟩
   have h1:ZU (oq cs os ks gs bs dr ops):=⟨rfl,rfl,r8,r7,r9⟩
   have h2:ZT (aDR cs os ks gs bs dr ops):=⟨rfl,rfl,r7,r10⟩
   obtain ⟨_,_,q0⟩:=aHj _ h0
   have q0:df (ot cs os ks gs bs dr ops)=.exit 0:=q0
   obtain ⟨_,_,q1⟩:=aHi _ h1
   have q1:dd (oq cs os ks gs bs dr ops)=.exit 2:=q1
   obtain ⟨_,_,q2⟩:=aHh _ h2
   have q2:dc (aDR cs os ks gs bs dr ops)=.exit 4:=q2
   exact ⟨hJ2.2.1.1.2.2,r4,λc=>absurd r1<|Dv.1 c,λ_=>⟨λc=>absurd r2<|Dv.1 c,λ_=>⟨λc=>aPC,λ_=>⟨r5,λc=>Em,λ_=>⟨⟨h0,rfl,rfl⟩,λc=>(by rw [q0] at c;cases c),λ_=>⟨⟨h1,rfl,rfl⟩,λc=>(by rw [q1] at c;cases c),λ_=>⟨⟨h2,rfl,rfl⟩,λc=>(by rw [q2] at c;cases c),λ_=>rfl⟩⟩⟩⟩⟩⟩⟩
  ·have hJ2:=hJ
   have hf2:=hf
   have hu2:(Dy cs os ks gs bs dr ops).up=false:=c4
   have ht2:=ht
   refine ⟨hJ2,?_⟩;obtain ⟨⟨r1,r2,r3⟩,r4,r5,r6,r7,⟨r8,r9⟩,r10⟩:=aFk hJ2 hf2 hu2 ht2
   have h0:ZV (oo cs os ks gs bs dr ops):=⟨rfl,rfl,xl,r6,x1⟩
   have h1:ZU (oh cs os ks gs bs dr ops):=⟨rfl,rfl,r8,r7,r9⟩
   have h2:ZT (aDQ cs os ks gs bs dr ops):=⟨rfl,rfl,r7,r10⟩
   obtain ⟨_,_,q0⟩:=aHj _ h0
   have q0:df (oo cs os ks gs bs dr ops)=.exit 0:=q0
   obtain ⟨_,_,q1⟩:=aHi _ h1
   have q1:dd (oh cs os ks gs bs dr ops)=.exit 2:=q1
   obtain ⟨_,_,q2⟩:=aHh _ h2
   have q2:dc (aDQ cs os ks gs bs dr ops)=.exit 4:=q2
   exact ⟨hJ2.2.1.1.2.2,r4,λc=>absurd r1<|Dv.1 c,λ_=>⟨λc=>absurd r2<|Dv.1 c,λ_=>⟨λc=>aPC,λ_=>⟨r5,λc=>Em,λ_=>⟨⟨h0,rfl,rfl⟩,λc=>(by rw [q0] at c;cases c),λ_=>⟨⟨h1,rfl,rfl⟩,λc=>(by rw [q1] at c;cases c),λ_=>⟨⟨h2,rfl,rfl⟩,λc=>(by rw [q2] at c;cases c),λ_=>rfl⟩⟩⟩⟩⟩⟩⟩
 ·cases h)
end Go.Proofs.YtoifmkifedcnnaaGreatDoor
namespace Go.Sx
open Go Go.RowKit Go.Proofs.YtoifmkifedcnnaaGreatDoor
def mb:Ty->Nat
 | .int k=>k.bits / 8
 | .bool=>1
 | .str=>16
 | .sl _=>24
 | .pair a b=>mb a+mb b
def wfD:(t:Ty)->t.D->Prop
 | .int k,n=>(Lit.int k n).wf=U
 | .bool,_=>True
 | .str,s=>s.size<=maxLen
 | .sl e,l=>(M l<=maxLen/\M l*mb e<=reachBytes)/\∀d,d∈l->wfD e d
 | .pair a b,d=>wfD a d.1/\wfD b d.2
def Wl (P:aWt):aWe->aXk->Bool
 |_,[]=>U
 |o,f::fs=>an (f.offset=o)&&Wl P (o+P.cellsOf f.type) fs
def Lp (P:aWt):aWe->aWu->Bool
 |0,_=>X
 |m+1,t=>match P.underlying t with
  |some (.int _) |some .bool|some .string=>an (P.cellsOf t=1)
  |some (.struct fs)=>Wl P 0 fs.toList&&an (P.cellsOf t=((fs.toList.map (·.type)).map P.cellsOf).sum)&&fs.toList.all (λf=>Lp P m f.type)
  |some (.array n e)=>an (P.cellsOf t=((aq n e).map P.cellsOf).sum)&&Lp P m e
  |some (.slice e)=>an (P.cellsOf t=1)&&an (1<=P.cellsOf e)&&(Ib P m e).any (λty=>ty.n==P.cellsOf e&&an (mb ty<=P.bytesOf e))&&Lp P m e
  |_=>X
variable {H : Type} {enc : TypeId × Value -> H} {P : Program} {w : World} {base : Nat} {spare : Nat -> Bool} {held : Bool} {β : Nat -> Loc}
def Good (enc:TypeId×Value->H) (P:aWt) (w:aWq) (base:aWe) (spare:aWe->aWo) (held:aWo) (t:aWu) (cs:aWv):Prop:=∃n x,DataW.trod enc P w base spare held n t cs=ah x/\∀k,k∈x.1.weights P t->k<=reachBytes
def qI {e:aWu}{d:DataW H}{k:aWe}(hk:k∈d.weights P e):∀ {l:List<|DataW H}{i:aWe},l[i]? =ah d->k∈DataW.weightsAll P e l
 | [],_,h=>Ao
 |x::l,0,h=>by
  simp only [DataW.weightsAll,BX]
  grind
 |x::l,i+1,h=>by
  simp only [DataW.weightsAll,BX];exact .inr<|qI hk h
def aEu {t:aWu}{d:DataW H}{k:aWe}(hk:k∈d.weights P t):∀ {ts:aWK}{l:List<|DataW H}{i:aWe},ts[i]? =ah t->l[i]? =ah d->k∈DataW.weightsEach P ts l
 | [],_,_,h,_=>Ao
 |_::_,[],_,_,h=>Ao
 |u::ts,x::l,0,h1,h2=>by
  simp only [DataW.weightsEach,BX]
  grind
 |u::ts,x::l,i+1,h1,h2=>by
  simp only [DataW.weightsEach,BX];exact .inr<|aEu hk h1 h2
def aEv:∀ {ts us:aWK}{ds gs:List<|DataW H},M ds=M ts->∀k,k∈DataW.weightsEach P ts ds->k∈DataW.weightsEach P (ts++us) (ds++gs)
 | [],_,[],_,_,_,h=>by simp [DataW.weightsEach] at h
 | [],_,_::_,_,h,_,_=>Ao
 |_::_,_,[],_,h,_,_=>Ao
 |t::ts,us,d::ds,gs,h,k,hk=>by
  simp only [DataW.weightsEach,BX,KG] at hk|-;rcases hk with hk|hk
  ·grind
  ·exact .inr<|aEv A8 k hk
def adN:∀ {ts:aWK}{vs:aWv}{ds:List<|DataW H}{ps:aW1},DataW.TrodAll enc P w base spare held ts vs ds ps->M ds=M ts
 | [],[],[],_,_=>rfl
 | [],_::_,_,_,h=>Ao
 | [],[],_::_,_,h=>Ao
 |_::_,[],_,_,h=>Ao
 |_::_,_::_,[],_,h=>Ao
 |_::_,_::_,_::_,_,h=>by
  obtain ⟨_,_,_,h2,_⟩:=h
  simp [adN h2]
def RL.append' {Z:aWe->Prop}:∀ {l1 l2:aWf}{y1 y2:aWv},RL β Z w l1 y1->RL β Z w l2 y2->RL β Z w (l1++l2) (y1++y2)
 | [],l2,y1,y2,h1,h2=>by simp only [RL] at h1;subst h1;exact h2
 |x::xs,l2,y1,y2,h1,h2=>by
  obtain ⟨y,zs,rfl,h3,h4⟩:=h1;exact ⟨y,zs++y2,rfl,h3,RL.append' h4 h2⟩
def vU {Z:aWe->Prop}:∀(t:Ty) (d:t.D) (cs:aWv) (b o:aWe),RL β Z w (Bq t d) cs->(∀(j:aWe) v,cs[j]? =ah v->w.cell? ⟨b,o+j,aj⟩=ah v)->RD Z w t d b o
 | .int k,d,cs,b,o,h,hc=>by
  exact y6
 | .bool,d,cs,b,o,h,hc=>by
  exact y6
 | .str,d,cs,b,o,h,hc=>by
  exact y6
 | .sl e,d,cs,b,o,h,hc=>by
  obtain ⟨y,zs,rfl,⟨a,cap,rfl,h2,h3⟩,_⟩:=h;simp only [RD];exact ⟨a,cap,hc 0 _ rfl,h2,h3⟩
 | .pair p q,d,cs,b,o,h,hc=>by
  simp only [Bq] at h
  have hl:=RL.length h
  have h1:=h.take_drop 0 p.n
  have h2:RL β Z w ((Bq p d.1++Bq q d.2).drop p.n) (cs.drop p.n):=by
   refine RL.CU (by simp [hl,KJ]) λi z hz=>?_
   rw [FP] at hz|-;exact RL.get _ _ h hz
  have t1:((Bq p d.1++Bq q d.2).drop 0).take p.n=Bq p d.1:=by
   rw [CT,List.take_append_of_le_length yb,De yb]
  have t2:(Bq p d.1++Bq q d.2).drop p.n=Bq q d.2:=by
   rw [aM6 yb,F6 A8,EX]
  rw [t1,CT] at h1;rw [t2] at h2;simp only [RD];refine ⟨vU p d.1 _ b o h1 λj v hv=>?_,vU q d.2 _ b (o+p.n) h2 λj v hv=>?_⟩
  ·exact aNe
  ·rw [FP] at hv
   grind
def qe {Z:aWe->Prop}{r:aWu->Option Ty}{sz:aWu->aWe}{Gd:aWu->aWv->Prop}:∀(ts:aWK) (ty:Ty) (cs:aWv),V4 r ts=ah ty->
  (∀t∈ts,∀ty c,r t=ah ty->Gd t c->∃d:ty.D,RL β Z w (Bq ty d) c/\wfD ty d)->M cs=(ts.map sz).sum->(∀pre t post,ts=pre++t::post->Gd t ((cs.drop (pre.map sz).sum).take<|sz t))->∃d:ty.D,RL β Z w (Bq ty d) cs/\wfD ty d
 | [],ty,cs,h,_,_,_=>by simp [V4] at h
 | [t],ty,cs,h,ih,hl,hg=>by
  have:=ih t AI ty _ h<|hg [] t [] rfl
  have e:(cs.drop (List.map sz []).sum).take (sz t)=cs:=by
   grind
  rw [e] at this;exact this
 | t::u::ts,ty,cs,h,ih,hl,hg=>by
  simp only [V4] at h;split at h
  ·rename_i a b ha hb
   simp only [Ai] at h;subst h;obtain ⟨d1,a1,a2⟩:=ih t AI a _ ha<|hg [] t (u::ts) rfl
   obtain ⟨d2,b1,b2⟩:=qe (sz:=sz) (Gd:=Gd) (u::ts) b (cs.drop<|sz t) hb (λt' ht=>ih t' A8) A8 (λpre t' post e=>by
    have:=hg (t::pre) t' post (by rw [e];rfl)
    simpa using this)
   refine ⟨(d1,d2),?_,by simp only [wfD];exact ⟨a2,b2⟩⟩
   have:=RL.append' a1 b1
   simp only [Bq];exact QF
  ·cases h
def s8:∀(fs:aXk) (o:aWe),Wl P o fs=U->∀pre f post,fs=pre++f::post->f.offset=o+((pre.map (·.type)).map P.cellsOf).sum
 | [],o,_,pre,f,post,e=>by cases pre<;>cases e
 |g::fs,o,h,[],f,post,e=>by
  simp only [Wl,AY,Aa] at h
  grind
 |g::fs,o,h,p::pre,f,post,e=>by
  simp only [Wl,AY,Aa] at h;simp only [KG,Ho] at e
  have:=s8 fs _ h.2 pre f post e.2
  grind
def fJ {Z:aWe->Prop}(hZ:∀b,b<w.heap.size->Z b):∀(m:aWe) (t:aWu) (ty:Ty),Lp P m t=U->Ib P m t=ah ty->∀cs,Good enc P w base spare held t cs->∃d:ty.D,RL β Z w (Bq ty d) cs/\wfD ty d
 |0,t,_,h,_,_,_=>Ao
 | m + 1,t,ty,h,hty,cs,⟨n,x,hx,hwt⟩=>by
  simp only [Lp] at h;simp only [Ib] at hty;split at h
  ·rename_i k hu
   obtain ⟨z,rfl,_,hw⟩:=DataW.trod_int hu hx;simp only [hu,Ai] at hty;subst hty;exact ⟨z,yu,hw⟩
  ·rename_i hu
   obtain ⟨z,rfl,_⟩:=DataW.trod_bool hu hx;simp only [hu,Ai] at hty;subst hty;exact ⟨z,yu,ak⟩
  ·rename_i hu
   obtain ⟨z,rfl,_,hs⟩:=DataW.trod_string hu hx;simp only [hu,Ai] at hty;subst hty;exact ⟨z,yu,hs⟩
  ·rename_i fs hu
   simp only [AY,Aa,BO] at h;obtain ⟨⟨h1,h2⟩,h3⟩:=h;obtain ⟨xs,n',_,rfl,hl,hxl,hf⟩:=DataW.trod_struct hu hx;simp only [DataW.weights,hu] at hwt;simp only [hu] at hty;refine qe (Gd:=Good enc P w base spare held) (sz:=P.cellsOf) (fs.toList.map (·.type)) ty cs hty (λt' ht ty' c hty' hc=>?_) nH λpre t' post e=>?_
   ·obtain ⟨f,hf1,rfl⟩:=F5.1 ht
    exact fJ hZ m f.type ty' (h3 f hf1) hty' c hc
   ·obtain ⟨fpre,frest,e1,e2,e3⟩:=List.map_eq_append_iff.1 e
    obtain ⟨f,fpost,rfl,e4,e5⟩:=List.map_eq_cons_iff.1 e3
    have ho:=s8 fs.toList 0 h1 fpre f fpost e1
    have hi:fs[M fpre]? =ah f:=by
     exact aNy
    have hg:=hf _ f hi
    have hlt:M fpre<fs.size:=(Hk.1 hi).1
    rw [ho,Ek] at hg;refine ⟨n',xs[M fpre]' A0,?_,λk hk=>?_⟩
    ·rw [<-e2,<-e4,hg,Dg]
    ·rw [<-e4] at hk
     exact hwt k<|aEu hk (i:=M fpre) (by rw [e1];simp) yP
  ·rename_i n0 e hu
   simp only [AY,Aa] at h;obtain ⟨h2,h3⟩:=h;obtain ⟨xs,n',_,rfl,hl,hxl,hf⟩:=DataW.trod_array hu hx;simp only [DataW.weights,hu] at hwt;simp only [hu] at hty;refine qe (Gd:=Good enc P w base spare held) (sz:=P.cellsOf) (aq n0 e) ty cs hty (λt' ht ty' c hty' hc=>?_) nH λpre t' post e'=>?_
   ·rw [(SX.1 ht).2] at hc hty'
    exact fJ hZ m e ty' h3 hty' c hc
   ·obtain ⟨c1,c2,c3⟩:=aM7.1 e'
    have ht':t'=e:=by
     have:t'∈aq n0 e:=by rw [e'];simp
     exact (SX.1 this).2
    have hlen:M pre<n0:=by
     have:=B3 M e'
     simp at this;omega
    have hg:=hf (M pre) hlen
    refine ⟨n',xs[M pre]' A0,?_,λk hk=>?_⟩
    ·have hs:(pre.map P.cellsOf).sum=M pre*P.cellsOf e:=by rw [c2];simp
     rw [hs,ht',hg,Dg]
    ·rw [ht'] at hk
     exact hwt k<|qI hk (i:=M pre) yP
  ·rename_i e hu
   simp only [AY,Aa] at h;obtain ⟨⟨⟨h1,h2⟩,h4⟩,h3⟩:=h;simp only [hu,Option.map_eq_some_iff] at hty;obtain ⟨te,hte,rfl⟩:=hty;rw [hte] at h4;simp only [Option.any_some,AY,Aa,D3] at h4;obtain ⟨h4,h5⟩:=h4;rcases DataW.trod_slice hu hx with ⟨rfl,_⟩ |⟨a,len,cap,elems,rest,n',_,rfl,rfl,hb,hlc,hm,hlen,hel,_,_⟩
   ·refine ⟨([]:List te.D),?_,⟨NA _,AI⟩,λd hd=>Vh⟩
    simp only [Bq,RL,R]
    grind
   ·simp only [DataW.weights,hu] at hwt
    have hroom:=hwt _<|List.mem_cons_self ..
    have each:∀i,∃d:te.D,i<len->∃c,w.cells? base (a.add<|i*P.cellsOf e) (P.cellsOf e)=ah c/\RL β Z w (Bq te d) c/\wfD te d:=λi=>by
     by_cases hi:i<len
     ·have he:=hel i hi
      rw [Dg A0] at he;obtain ⟨c,hc,ht⟩:=Option.bind_eq_some_iff.1 he
      obtain ⟨d,l1,l2⟩:=fJ hZ m e te h3 hte c ⟨n',_,ht,λk hk=>hwt k (by
       simp only [BA,BX];exact .inr<|.inl<|qI hk (i:=i) yP)⟩
      exact ⟨d,λ_=>⟨c,hc,l1,l2⟩⟩
     ·exact ⟨te.dflt,λh=>absurd h hi⟩
    have ⟨g,hg⟩:=xG each
    have hlg:M ((au len).map g)=len:=AI
    refine ⟨(au len).map g,?_,⟨by rw [hlg];omega,by rw [hlg];exact HJ (Nat.mul_le_mul DD h5) hroom⟩,λd hd=>?_⟩
    ·simp only [Bq,RL,R]
     refine ⟨_,[],rfl,⟨ah a,cap,by rw [hlg],by rw [hlg];omega,λhn=>?_⟩,rfl⟩
     rw [hlg] at hn;obtain ⟨c0,hc0,hr0,_⟩:=hg 0 hn;obtain ⟨_,hcl0,hat0⟩:=World.cells?_some hc0
     have hcell0:∃z,w.cell? ((a.add<|0*P.cellsOf e).add 0)=ah z:=by
      grind
     obtain ⟨z0,hz0⟩:=hcell0;obtain ⟨b,off,spot⟩:=a
     have hsp:spot=none:=by
      cases spot with
      |none=>rfl
      |some q=>
       unfold World.cell? at hz0;split at hz0
       ·simp [Addr.add] at hz0
       ·cases hz0
     subst hsp
     have hbl:b<w.heap.size:=by
      simp only [addr_add] at hz0;unfold World.cell? at hz0;split at hz0
      ·rename_i hh;exact (Hk.1 hh).1
      ·cases hz0
     refine ⟨b,off,rfl,hZ b hbl,λi d hd=>?_⟩
     have hi:i<len:=by
      have:=(EE.1 hd).1
      rwa [hlg] at this
     have hdd:d=g i:=by
      rw [Df,xW hi] at hd
      simpa using hd.symm
     subst hdd;obtain ⟨c,hc,hr,_⟩:=hg i hi;obtain ⟨_,hcl,hat⟩:=World.cells?_some hc;refine vU te (g i) c b _ hr λj v hv=>?_
     have hj:j<P.cellsOf e:=by
      have:=(EE.1 hv).1
      omega
     have:=hat j hj
     rw [hv] at this;rw [h4]
     simpa [addr_add,Hp] using this
    ·obtain ⟨i,hi,rfl⟩:=F5.1 hd
     obtain ⟨_,_,_,hw⟩:=hg i<|by simpa using hi
     exact hw
  ·cases h
def K6 (P:aWt) (m:aWe) (t:aWu) (l:aWf):Prop:=∃(ty:Ty) (d:ty.D),Ib P m t=ah ty/\l=Bq ty d/\wfD ty d
def tC {P:aWt}{m:aWe}{t:aWu}{l:aWf}{ty:Ty}(ht:Ib P m t=ah ty) (h:K6 P m t l):∃d:ty.D,l=Bq ty d/\wfD ty d:=by
 obtain ⟨ty',d,h1,h2,h3⟩:=h
 grind
def apA {Z:aWe->Prop}(hZ:∀b,b<w.heap.size->Z b) (m:aWe) (t:aWu) (hs:Lp P m t=U) (ht:(Ib P m t).isSome=U) (cs:aWv) (hg:Good enc P w base spare held t cs):∃l,RL β Z w l cs/\AT 0 l/\K6 P m t l:=by
 obtain ⟨ty,hty⟩:=Zh.1 ht;obtain ⟨d,h1,h2⟩:=fJ (β:=β) hZ m t ty hs hty cs hg;exact ⟨Bq ty d,h1,NV 0 ty d,ty,d,hty,rfl,h2⟩
end Go.Sx
namespace Go.Sx
open Go Go.RowKit Go.Proofs.YtoifmkifedcnnaaGreatDoor Go.ChangeShapes Go.WideShapes
variable {H : Type} {enc : TypeId × Value -> H} {P : Program} {β : Nat -> Loc} {Z : Nat -> Prop}
def ad1 (hl:laidOutB P=U) {W W':aWq}(hb:Below W.heap.size W W'):∀(ts:aWK) (vs:aWv) (ds:List<|DataW H) (ps:aW1),ts.all (λt=>P.readableRec t&&an (t<P.types.size))=U->
  DataW.TrodAll enc P W 0 (λ_=>U) U ts vs ds ps->(∀x∈ps,x.block<W.heap.size)->DataW.TrodAll enc P W' 0 (λb=>an<|b<W.heap.size) U ts vs ds ps
 | [],vs,ds,ps,_,h,_=>by
  cases vs<;>cases ds<;>first|exact h|exact h.elim
 | t::ts,vs,ds,ps,hr,h,hlt=>by
  cases vs with
  |nil=>cases ds<;>exact h.elim
  | cons v vs=>
   cases ds with
   |nil=>exact h.elim
   |cons d ds=>
    obtain ⟨p,q,h1,h2,rfl⟩:=h;simp only [Io,AY,Aa] at hr;refine ⟨p,q,Below.trod hl hr.1.1 hr.1.2 h1 hb λx hx=>hlt x A8,?_,rfl⟩
    exact ad1 hl hb ts vs ds q A8 h2 λx hx=>hlt x A8
def apO {fn:aWX}{s:ChangeSpec}{tb:aWu}{apart:aWo}{W W':aWq}{args:aWz}{ds gs:List<|DataW H}{before:aW1}
  (hl:laidOutB P=U) (hr:fn.params.toList.all (λt=>P.readableRec t&&an (t<P.types.size))=U) (hres:fn.resultTypes=#[tb]) (hb:P.underlying tb=ah .bool) (hvars:s.vars=[])
  (hfn:(s.fn H ds).results=[.lit<|.bool U]/\(s.fn H ds).args=ds/\(s.fn H ds).vars=[])
  (hW:DataW.Whole enc P fn.params.toList s.vars apart W args.toList ds gs before) (hB:Below W.heap.size W W'):s.post enc P fn apart U X X W args (.bool U) W':=by
 have hW':=hW
 obtain ⟨p,q,hA,hV,rfl,hfz,hnd⟩:=hW
 have hg:gs=[]/\q=[]:=by
  rw [hvars] at hV;cases gs with
  |nil=>exact ⟨rfl,hV⟩
  |cons g r=>exact hV.elim
 obtain ⟨rfl,rfl⟩:=hg
 have hlt:∀x∈p,x.block<W.heap.size:=λx hx=>hW'.lt x A8
 refine ⟨ds,[],p++[],[],p,[],hW',?_,?_,?_,hB.frame _,λh=>Ao⟩
 ·rw [Gb,hfn.1,hres]
  exact trodAll_mk1<|shut_bool hb U
 ·rw [Gb,hfn.2.1]
  exact ad1 hl hB _ _ _ _ hr hA hlt
 ·rw [Gb,hfn.2.2,hvars]
  rfl
def pLV (P:aWt) (t:aWu) (l:aWf):LV:=
 match P.underlying t with
 |some (.struct _)=>Ju l
 |some (.array _ _)=> .junk
 |_=>match l with
  | [x]=>x
  |_=> .junk
def cell_of {w:aWq}{b0:aWe}{r:Reach}{m:aWe}{t:aWu}(hs:Lp P m t=U) {v:aWx}(hv:Value.okWide P w r b0 t v) (h1:∀fs,P.underlying t=ah (.struct fs)->False) (h2:∀n e,P.underlying t=ah (.array n e)->False):v.cells.toList=[v]:=by
 cases m with
 |zero=>cases hs
 | succ m=>
  simp only [Lp] at hs;split at hs
  ·rename_i k hu
   obtain ⟨n,rfl⟩:=okWide_int hu hv;rfl
  ·rename_i hu
   obtain ⟨n,rfl⟩:=okWide_bool hu hv;rfl
  ·rename_i hu
   obtain ⟨n,rfl⟩:=okWide_string hu hv;rfl
  ·rename_i fs hu
   grind
  ·rename_i n e hu
   grind
  ·rename_i e hu
   obtain ⟨a,l,c,rfl⟩:=okWide_slice hu hv;rfl
  ·cases hs
def aeY {w:aWq}{base b0:aWe}{spare:aWe->aWo}{held:aWo}{r:Reach}(hZ:∀b,b<w.heap.size->Z b) {m:aWe}{t:aWu}(hs:Lp P m t=U) (ht:(Ib P m t).isSome=U) {v:aWx}{d:DataW H}{p:aW1}(hv:Value.okWide P w r b0 t v) (h:DataW.Trod enc P w base spare held t v d p) (hwt:∀k,k∈d.weights P t->k<=reachBytes):
  ∃l,okV 0 (pLV P t l)/\R β Z w (pLV P t l) v/\K6 P m t l:=by
 obtain ⟨fuel,hf⟩:=h;obtain ⟨l,h1,h2,h3⟩:=apA (β:=β) hZ m t hs ht v.cells.toList ⟨fuel,_,hf,hwt⟩;refine ⟨l,?_,?_,h3⟩
 ·unfold pLV
  split
  ·exact QT h2
  ·trivial
  ·split
   ·exact h2.1
   ·trivial
 ·unfold pLV
  split
  ·rename_i fs hu
   obtain ⟨cs,rfl,_⟩:=okWide_struct hu hv;exact W9 h1
  ·exact Dw
  ·split
   ·rename_i x
    obtain ⟨y,zs,e1,e2,rfl⟩:=h1
    have hc:=cell_of hs hv A8 A8
    grind
   ·exact Dw
def S4 (P:aWt):aWK->aXj->List LV
 |t::ts,l::ls=>pLV P t l::S4 P ts ls
 |_,_=>[]
def XI (P:aWt) (m:aWe):aWK->aXj->Prop
 | [],ls=>ls=[]
 |t::ts,ls=>∃l r,ls=l::r/\K6 P m t l/\XI P m ts r
def adR {w:aWq}{base b0:aWe}{spare:aWe->aWo}{held:aWo}{r:Reach}(hZ:∀b,b<w.heap.size->Z b) {m:aWe}:∀(ts:aWK) (vs:aWv) (ds:List<|DataW H) (ps:aW1),ts.all (λt=>Lp P m t&&(Ib P m t).isSome)=U->
  (∀(j:aWe) t v,ts[j]? =ah t->vs[j]? =ah v->Value.okWide P w r b0 t v)->DataW.TrodAll enc P w base spare held ts vs ds ps->(∀k,k∈DataW.weightsEach P ts ds->k<=reachBytes)->∃ls,AT 0 (S4 P ts ls)/\RL β Z w (S4 P ts ls) vs/\XI P m ts ls
 | [],vs,ds,ps,_,_,h,_=>by
  cases vs with
  |nil=>exact ⟨[],ak,by simp [S4,RL],rfl⟩
  |cons _ _=>cases ds<;>exact h.elim
 | t::ts,vs,ds,ps,hs,hv,h,hwt=>by
  cases vs with
  |nil=>cases ds<;>exact h.elim
  | cons v vs=>
   cases ds with
   |nil=>exact h.elim
   |cons d ds=>
    obtain ⟨p,q,h1,h2,rfl⟩:=h;simp only [Io,AY] at hs;simp only [DataW.weightsEach,BX] at hwt;obtain ⟨l,a1,a2,a3⟩:=aeY (β:=β) hZ hs.1.1 hs.1.2 (hv 0 t v rfl rfl) h1 λk hk=>hwt k<|.inl hk
    obtain ⟨ls,b1,b2,b3⟩:=adR hZ ts vs ds q hs.2 (λj t' v' e1 e2=>hv (j+1) t' v' A8 A8) h2 λk hk=>hwt k<|.inr hk
    exact ⟨l::ls,⟨a1,b1⟩,⟨v,vs,rfl,a2,b2⟩,l,ls,rfl,a3,b3⟩
def adw {G:B5}{f:aWF}{fn:aWX}{S:aWf->T LV}{s:ChangeSpec}{tb:aWu}{apart:aWo}{m:aWe}{W:aWq}{base:aWe}{args:aWz}{ds gs:List<|DataW H}{before:aW1}
  (hv:Valid P G f S) (hl:laidOutB P=U) (hr:fn.params.toList.all (λt=>P.readableRec t&&an (t<P.types.size))=U) (hres:fn.resultTypes=#[tb]) (hb:P.underlying tb=ah .bool) (hvars:s.vars=[])
  (hfn:(s.fn H ds).results=[.lit<|.bool U]/\(s.fn H ds).args=ds/\(s.fn H ds).vars=[]) (hs:fn.params.toList.all (λt=>Lp P m t&&(Ib P m t).isSome)=U)
  (hS:∀ls,XI P m fn.params.toList ls->(S<|S4 P fn.params.toList ls).all (λx=>x=.v (.bool U)))
  (hg:Q1 G (λb=>b<W.heap.size) W)
  (hval:∀(j:aWe) t v,fn.params[j]? =ah t->args[j]? =ah v->Value.okWide P W .any base t v)
  (hW:DataW.Whole enc P fn.params.toList s.vars apart W args.toList ds gs before) {us:aWK} (hz:(DataW.weightsEach P (fn.params.toList++us)<|ds++gs).all (·<=reachBytes)=U):
  Calls P f args W λe W'=>∃v,e=.returned v/\s.post enc P fn apart U X X W args v W':=by
 have hA:∃p,DataW.TrodAll enc P W 0 (λ_=>U) U fn.params.toList args.toList ds p:=by
  obtain ⟨p,q,hA,_⟩:=hW
  grind
 obtain ⟨p,hA⟩:=hA;obtain ⟨ls,h1,h2,h3⟩:=adR (β:=β0) (Z:=λb=>b<W.heap.size) (λ_ h=>h) fn.params.toList args.toList ds p hs (λj t v e1 e2=>hval j t v A8 A8) hA λk hk=>D5<|BO.1 hz k<|aEv (adN hA) k hk
 refine (hv _ args W _ _ (λ_ h=>h) hg h1 h2<|hS ls h3).mono λe W' ⟨hB,v,he,_,hR⟩=>⟨v,he,?_⟩
 rw [hR];exact apO hl hr hres hb hvars hfn hW hB
end Go.Sx
namespace Go.Sx
open Go Go.RowKit Go.Proofs.YtoifmkifedcnnaaGreatDoor
variable {H : Type} {enc : TypeId × Value -> H} {P : Program} {w : World} {base : Nat} {spare : Nat -> Bool} {held : Bool}
def PE {H:Type}:aWe->DataW H->List Value
 |0,_=>[]
 |_+1,.lit (.int k n)=>[ag k n]
 |_+1,.lit (.bool b)=>[.bool b]
 |m+1,.agg l=>l.flatMap (PE m)
 |_,_=>[]
def Wj (P:aWt):aWe->aWu->Bool
 |0,_=>X
 |m+1,t=>match P.underlying t with
  |some (.int _) |some .bool=>U
  |some (.struct fs)=>Wl P 0 fs.toList&&an (P.cellsOf t=((fs.toList.map (·.type)).map P.cellsOf).sum)&&fs.toList.all (λf=>Wj P m f.type)
  |some (.array n e)=>an (P.cellsOf t=((aq n e).map P.cellsOf).sum)&&Wj P m e
  |_=>X
def qv {sz:aWu->aWe}{g:DataW H->aWv}{Tr:aWu->aWv->DataW H->Prop}:∀(ts:aWK) (cs:aWv) (ds:List<|DataW H),
  (∀t∈ts,∀c d,Tr t c d->g d=c)->M ds=M ts->M cs=(ts.map sz).sum->(∀pre t post,ts=pre++t::post->∃d,ds[M pre]? =ah d/\Tr t ((cs.drop (pre.map sz).sum).take<|sz t) d)->ds.flatMap g=cs
 | [],cs,ds,_,h0,hl,_=>by
  grind
 |t::ts,cs,[],_,h0,_,_=>A8
 | t::ts,cs,d::ds,ih,h0,hl,hg=>by
  obtain ⟨d',e1,e2⟩:=hg [] t ts rfl
  simp at e1
  subst e1
  have r:=qv (sz:=sz) (g:=g) (Tr:=Tr) ts (cs.drop<|sz t) ds (λt' ht=>ih t' A8) A8 A8 (λpre t' post e=>by
   obtain ⟨q,q1,q2⟩:=hg (t::pre) t' post A8;refine ⟨q,A8,?_⟩
   simpa using q2)
  rw [lO,r,ih t AI _ _ e2]
  simp
def sK:∀(m:aWe) (t:aWu),Wj P m t=U->∀(n:aWe) (cs:aWv) (x:DataW H×List MemPlace),DataW.trod enc P w base spare held n t cs=ah x->PE m x.1=cs
 |0,t,h,_,_,_,_=>Ao
 | m +1,t,h,n,cs,x,hx=>by
  simp only [Wj] at h;split at h
  ·rename_i k hu
   obtain ⟨z,rfl,rfl,hw⟩:=DataW.trod_int hu hx;rfl
  ·rename_i hu
   obtain ⟨z,rfl,rfl⟩:=DataW.trod_bool hu hx;rfl
  ·rename_i fs hu
   simp only [AY,Aa,BO] at h;obtain ⟨⟨h1,h2⟩,h3⟩:=h;obtain ⟨xs,n',_,rfl,hl,hxl,hf⟩:=DataW.trod_struct hu hx;simp only [PE];refine qv (sz:=P.cellsOf) (Tr:=λt c d=>∃y,DataW.trod enc P w base spare held n' t c=ah y/\y.1=d) (fs.toList.map (·.type)) cs _ (λt' ht c d hc=>?_) (by simp [hxl]) nH λpre t' post e=>?_
   ·obtain ⟨f,hf1,rfl⟩:=F5.1 ht
    obtain ⟨y,hy,rfl⟩:=hc;exact sK m f.type (h3 f hf1) n' c y hy
   ·obtain ⟨fpre,frest,e1,e2,e3⟩:=List.map_eq_append_iff.1 e
    obtain ⟨f,fpost,rfl,e4,e5⟩:=List.map_eq_cons_iff.1 e3
    have ho:=s8 fs.toList 0 h1 fpre f fpost e1
    have hi:fs[M fpre]? =ah f:=by
     exact aNy
    have hg:=hf _ f hi
    have hlt:M fpre<fs.size:=(Hk.1 hi).1
    refine ⟨(xs[M fpre]' A0).1,?_,xs[M fpre]' A0,?_,rfl⟩
    ·grind
    ·grind
  ·rename_i n0 e hu
   simp only [AY,Aa] at h;obtain ⟨h2,h3⟩:=h;obtain ⟨xs,n',_,rfl,hl,hxl,hf⟩:=DataW.trod_array hu hx;simp only [PE];refine qv (sz:=P.cellsOf) (Tr:=λt c d=>∃y,DataW.trod enc P w base spare held n' t c=ah y/\y.1=d) (aq n0 e) cs _ (λt' ht c d hc=>?_) (by simp [hxl]) nH λpre t' post e'=>?_
   ·rw [(SX.1 ht).2] at hc
    obtain ⟨y,hy,rfl⟩:=hc;exact sK m e h3 n' c y hy
   ·obtain ⟨c1,c2,c3⟩:=aM7.1 e'
    have ht':t'=e:=by
     grind
    have hlen:M pre<n0:=by
     have:=B3 M e'
     simp at this;omega
    have hs:(pre.map P.cellsOf).sum=M pre*P.cellsOf e:=by rw [c2];simp
    refine ⟨(xs[M pre]' A0).1,?_,xs[M pre]' A0,?_,rfl⟩
    ·grind
    ·grind
  ·cases h
def adk {W:aWq}{name:aXh}{d:DataW Unit}{rest:aXc}{g:aWe}{t:aWu}{m:aWe}(hg:P.globalNamed name=ah g) (hty:(P.globals[g]?).map (·.type)=ah t) (hp:Wj P m t=U)
  (h:laidMet P ((name,d)::rest) W):(∀i,W.cell? ⟨g,i,aj⟩=(PE m d)[i]?)/\((PE m d)≠ []->g<W.heap.size):=by
 obtain ⟨ps,⟨g',t',cs,fuel,p,q,hg',ht',hvar,hd,_,_⟩,_⟩:=h;obtain rfl:=EF<|hg.symm.trans hg';obtain rfl:=EF<|hty.symm.trans ht'
 have hf:=sK m t hp fuel _ _ hd
 have hcell:∀i,W.cell? ⟨g,i,aj⟩=(PE m d)[i]? :=λi=>by
  rw [World.var?_cell hg hvar i,hf];simp
 refine ⟨hcell,λhne=>?_⟩
 have h0:=hcell 0
 cases hh:(PE m d)[0]? with
 |none=>exact absurd (List.getElem?_eq_none_iff.1 hh) A8
 |some z=>
  rw [hh] at h0;unfold World.cell? at h0;split at h0
  ·grind
  ·cases h0
end Go.Sx
namespace Go.Proofs.YtoifmkifedcnnaaGreatDoor
set_option maxRecDepth 100000
set_option maxHeartbeats 4000000
open Go.Proofs.Tryz
open Go.Sx Go.ChangeShapes Go.WideShapes Go.ChangeAt Go.RowKit
def own:ownKnob prog.godebug=none:=AU
def laidOut:laidOutB prog=true:=AU
def aDs {P:aWt}{x:String×DataW Unit}{r:aXc}{W:aWq}(h:laidMet P (x::r) W):laidMet P r W:=by
 obtain ⟨n,d⟩:=x;obtain ⟨ps,⟨g,t,cs,fuel,p,q,h1,h2,h3,h4,h5,rfl⟩,hn,hm⟩:=h;exact ⟨q,h5,(xb.1 hn).2.1,λb off hb=>hm b off<|List.mem_append_right _ hb⟩
def vi {W:aWq}{name:aXh}{d:DataW Unit}{rest:aXc}{g:aWe}{t:aWu}{n:aWe}{f:aWe->aWx}(hg:prog.globalNamed name=ah g) (hty:(prog.globals[g]?).map (·.type)=ah t) (hp:Wj prog 4 t=U) (h:laidMet prog ((name,d)::rest) W) (key:PE 4 d=(au<|n+1).map f):g<W.heap.size/\∀j,j<n+1->W.cell? ⟨g,j,aj⟩=ah (f j):=by
 obtain ⟨h1,h2⟩:=adk (m:=4) hg hty hp h;refine ⟨h2 (by rw [key];intro h0;exact absurd (B3 M h0) AI),λj hj=>?_⟩
 rw [h1 j,key,Df,xW hj];rfl
def aq0 {W:aWq}(h:laidMetH prog [("chargepark/charger.afterwards",Rows.laid_chargepark_charger_afterwards),("chargepark/ramp.happens",Rows.laid_chargepark_ramp_happens),("chargepark/vault.widths",Rows.laid_chargepark_vault_widths)] W):Q1 AV (λb=>b<W.heap.size) W:=by
 have h:laidMet prog [("chargepark/charger.afterwards",Rows.laid_chargepark_charger_afterwards),("chargepark/ramp.happens",Rows.laid_chargepark_ramp_happens),("chargepark/vault.widths",Rows.laid_chargepark_vault_widths)] W:=h
 have a1:=vi (t:=249) (n:=59) (f:=λj=> ag J<|X7 j) (g:=1) AU AU AU h AU
 have a2:=vi (t:=283) (n:=7) (f:=λj=> ag J<|Uj j) (g:=2) AU AU AU (aDs h) AU
 have a3:=vi (t:=152) (n:=4) (f:=λj=> ag J<|aCm j) (g:=0) AU AU AU (aDs<|aDs h) AU
 intro g n f hg;unfold AV at hg;split at hg
 ·cases hg;exact a2
 ·cases hg;exact a1
 ·cases hg;exact a3
 ·cases hg
def aFB {H:Type}{enc:TypeId×Value->H}{P:aWt}{w:aWq}{base:aWe}{spare:aWe->aWo}{held:aWo}:∀ {ts:aWK}{vs:aWv}{ds:List<|DataW H}{ps:aW1},DataW.TrodAll enc P w base spare held ts vs ds ps->M ds=M ts
 | [],[],[],_,_=>rfl
 | [],_::_,_,_,h=>Ao
 | [],[],_::_,_,h=>Ao
 |_::_,[],_,_,h=>Ao
 |_::_,_::_,[],_,h=>Ao
 |_::_,_::_,_::_,_,h=>by
  obtain ⟨_,_,_,h2,_⟩:=h
  simp [aFB h2]
def put (vs:aWz):Obj->Obj
 | .cells _ t frozen=> .cells vs t frozen
 |o=>o
def laidWorld (os:Os):aWq:=
 {World.holding prog os ⟨#[],#[],[]⟩ with heap:=(((World.holding prog os ⟨#[],#[],[]⟩).heap.modify 2<|put ((au 8).map λj=> ag J<|Uj j).toArray).modify 1<|put ((au 60).map λj=> ag J<|X7 j).toArray).modify 0<|put ((au 5).map λj=> ag J<|aCm j).toArray}
namespace ParkRestart
def opened (ls:aXj) (h:XI prog 8 f3.params.toList ls):(acR<|S4 prog f3.params.toList ls).all (λx=>x=.v (.bool U)):=by
 rw [Tryz.params3] at h|-;simp only [XI] at h;obtain ⟨l0,_,rfl,h0,l1,_,rfl,h1,l2,_,rfl,h2,rfl⟩:=h;obtain ⟨d0,rfl,w0⟩:=tC (ty:=(.pair (.sl Af)<|.pair (.sl .str)<|.pair (.sl Al)<|.pair (.sl Ah)<|.sl Am)) AU h0;obtain ⟨d1,rfl,w1⟩:=tC (ty:=(.sl<|.int J)) AU h1;obtain ⟨d2,rfl,w2⟩:=tC (ty:=(.sl<|.pair (.int aw)<|.pair (.int aw)<|.pair (.int .u16)<|.pair AQ Aw)) AU h2;simp only [S4,pLV,Tryz.underlying30,Tryz.underlying29,Tryz.underlying28];refine aF4 (t':=T.ok<|LV.v<|Value.bool U) AU ?_;exact rfl
def contract (H:Type) (enc:TypeId×Value->H) (W:aWq) (base:aWe) (args:aWz) (ds gs:List<|DataW H) (before:aW1)
  (hval:∀(j:aWe) t v,f3.params[j]? =ah t->args[j]? =ah v->Value.okWide prog W .any base t v)
  (hW:DataW.Whole enc prog f3.params.toList Rows.parkRestartSpec.vars X W args.toList ds gs before) (hL:laidMetH prog Rows.parkRestartRow.laid W) {us:aWK} (hz:(DataW.weightsEach prog (f3.params.toList++us)<|ds++gs).all (·<=reachBytes)=U):
  Calls prog 3 args W λe W'=>∃v,e=.returned v/\Rows.parkRestartSpec.post enc prog f3 X U X X W args v W':=by
 refine adw (m:=8) (tb:=4) akd laidOut AU AU Tryz.underlying4 rfl ?_ AU opened (aq0 hL) hval hW hz;obtain ⟨p,q,hA,_⟩:=hW
 have hl:=aFB hA
 rw [Tryz.params3] at hl
 match ds,hl with
 | [_,_,_],_=>exact ⟨rfl,rfl,rfl⟩
def laid_met (os:Os):laidMet prog Rows.parkRestartRow.laid ((laidWorld os).forCall (λ_ _=>0) ⟨#[],#[.agg #[.slice aj 0 0,.slice aj 0 0,.slice aj 0 0,.slice aj 0 0,.slice aj 0 0],.slice aj 0 0,.slice aj 0 0],[]⟩).memory:=
 laidMet_of_run' 8 AU AU
def reads (os:Os) {H:Type}(enc:TypeId×Value->H):∃places,DataW.whole enc prog ((laidWorld os).forCall (λ_ _=>0) ⟨#[],#[.agg #[.slice aj 0 0,.slice aj 0 0,.slice aj 0 0,.slice aj 0 0,.slice aj 0 0],.slice aj 0 0,.slice aj 0 0],[]⟩).memory f3.params.toList Rows.parkRestartSpec.vars X #[.agg #[.slice aj 0 0,.slice aj 0 0,.slice aj 0 0,.slice aj 0 0,.slice aj 0 0],.slice aj 0 0,.slice aj 0 0].toList 8=ah ([.agg [.nil,.nil,.nil,.nil,.nil],.nil,.nil],[],places):=
 ⟨[],AU⟩
def lifted (os:Os) (started:os.Started) (H:Type) (enc:TypeId×Value->H) (F:Stop.Interp):
  ReturnsInHanded {} Tryz.checked os 3 .any ((OpenSpec.ofChange Rows.parkRestartSpec).preRow enc prog f3 Rows.parkRestartRow.domain X Rows.parkRestartRow.laid) (((OpenSpec.ofChange Rows.parkRestartSpec).at F).post enc prog f3 X U X X):=by
 obtain ⟨places,hx⟩:=reads os enc
 refine returnsInHanded_of_row (C:=Tryz.checked) (s:=OpenSpec.ofChange Rows.parkRestartSpec) own started AU func3
  (witness_row_at (enc:=enc) (C:=Tryz.checked) X (laidWorld os) #[.agg #[.slice aj 0 0,.slice aj 0 0,.slice aj 0 0,.slice aj 0 0,.slice aj 0 0],.slice aj 0 0,.slice aj 0 0] rfl AU AU AU
   (OpenSpec.preRow_of_cond 8 hx AU (λk hk=>NG) AU<|laid_met os)) ?_
 intro W base args ds gs before hval hW _ _ hz hL _ _;exact contract H enc W base args ds gs before hval hW hL hz
def said:Rows.ParkRestartSaid:=
 OpenClaim.holds_of_cond 3 f3 rfl rfl rfl rfl rfl rfl rfl ⟨rfl,rfl,rfl,rfl,rfl⟩ rfl rfl rfl rfl rfl AU func3 AU
  (D5 AU) (by unfold Func.isWrapper;first|(rw [AD<|by decide+kernel];kernel_rfl) |(rw [AE<|by decide+kernel];exact ⟨rfl,rfl⟩))
  (λos started H enc _ F=>by rw [OpenClaim.pre_eq_preRow];exact lifted os started H enc F)
def plain (f:aWF) (fn:aWX) (hf:Tryz.pinned.checked.prog.funcNamed "chargepark/chargeparklaw44.ParkRestart"=ah f) (hfn:Tryz.pinned.checked.prog.funcs[f]? =ah fn):
  U=Tryz.pinned.checked.prog.looks []/\∀(j:aWe) t,fn.params[j]? =ah t->Tryz.pinned.checked.prog.wantsStandIn t=false:=by
 obtain rfl:f=3:=EF ((show prog.funcNamed "chargepark/chargeparklaw44.ParkRestart"=ah 3 by kernel_rfl).symm.trans hf) |>.symm
 obtain rfl:fn=f3:=(EF<|func3.symm.trans hfn).symm;refine ⟨AU,λj t ht=>?_⟩
 have h:f3.params.toList.all (λt=>!prog.wantsStandIn t)=true:=AU
 have:=BO.1 h t<|by simpa using Array.mem_of_getElem? ht
 show prog.wantsStandIn t=X
 simpa using this
def card:Rows.ParkRestartCardSaid:=
 Claim7.holds_tied_plain_at .later [] _ _ _ _ said (λ_ h=>Ao) AU (λ_ h=>Ao) parkRestart_row_tie rfl ⟨rfl,rfl⟩ AU rfl plain AU
end ParkRestart
theorem parkRestart_card:Rows.ParkRestartCardSaid:=ParkRestart.card
end Go.Proofs.YtoifmkifedcnnaaGreatDoor
end
