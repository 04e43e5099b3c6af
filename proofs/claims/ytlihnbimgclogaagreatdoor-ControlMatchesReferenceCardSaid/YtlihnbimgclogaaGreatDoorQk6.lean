/- ControlMatchesReference returns true for all arguments: both functions return what the reference returns. Conditions: none; the table ramp.happens holds what its text says. -/
import Derived.Test.YtlihnbimgclogaaGreatDoorQk5
noncomputable section
namespace Go.Proofs.YtlihnbimgclogaaGreatDoor
open Go.Sx
def aaQ (s:nK):Prop:=s.i=0∧s.bP=[]∧(s.k=(s.m.length:Int)∧s.k≤16)∧(s.c3=s.m∧s.yg=s.tick)∧((s.kR.length:Int)≤1000∧0≤s.tick∧s.tick≤1000000)∧(s.rs.length=s.m.length∧s.offers.length=s.m.length∧s.fE.length=s.m.length∧s.next.length=s.m.length)∧dcK s.m s.rs s.offers∧1≤s.n-(s.bP.length:Int)∧s.n-(s.bP.length:Int)≤999900
def II (s:nK):Prop:=letI a:=(s.bP.length:Int);(0≤s.i∧s.i≤s.k)∧(∀j,0≤j→j<s.i→gi s.fE j=Xj (bG s.m j) (jd s.rs j) (gi s.offers j)∧jd s.next j=(Xj (bG s.m j) (jd s.rs j) (gi s.offers j),nxS (bG s.m j) (jd s.rs j) (gi s.offers j)))∧s.bP=dcL s.m s.kR s.tick (s.n-a) (Hf s.m s.rs s.offers s.m.length) s.i.toNat∧(s.k=(s.m.length:Int)∧s.k≤16)∧(s.c3=s.m∧s.yg=s.tick)∧((s.kR.length:Int)≤1000∧0≤s.tick∧s.tick≤1000000)∧(s.rs.length=s.m.length∧s.offers.length=s.m.length∧s.fE.length=s.m.length∧s.next.length=s.m.length)∧dcK s.m s.rs s.offers∧1≤s.n-a∧s.n-a≤999900
def BR (s:nK):Nat:=(s.k-s.i).toNat
def akj (x:Ex) (s s':nK):Prop:=x=.exit 0∧s'.fE=Hf s'.m s'.rs s'.offers s'.m.length∧s'.next=dcR s'.m s'.rs s'.offers s'.m.length∧s'.bP=dcL s'.m s'.kR s'.tick (s'.n-(s'.bP.length:Int)) (Hf s'.m s'.rs s'.offers s'.m.length) s'.m.length
theorem aNU:∀s,aaQ s→II s:=by
 intro s h;obtain ⟨h0,h1,h2⟩:=h;exact ⟨by omega,λj j0 j1=>by omega,by rw [h0,h1];rfl,h2⟩
theorem aAn (s:nK) (hI:II s) (e:Int) (w:Bool) (x:Int) (y:Int) (he:nE (bG s.m s.i).2.2.1 (bG s.m s.i).2.2.2.1 (bG s.m s.i).2.2.2.2.1 (bG s.m s.i).2.2.2.2.2.1 (bG s.m s.i).2.2.2.2.2.2.1 (jd s.rs s.i).1 (jd s.rs s.i).2 (gi s.offers s.i)=e) (hw:nwB s.c3 s.kR s.yg s.i (nA (bG s.m s.i).2.2.1 (bG s.m s.i).2.2.2.1 (bG s.m s.i).2.2.2.2.1 (bG s.m s.i).2.2.2.2.2.1 (bG s.m s.i).2.2.2.2.2.2.1 (jd s.rs s.i).1 (jd s.rs s.i).2 (gi s.offers s.i))=w) (hx:nA (bG s.m s.i).2.2.1 (bG s.m s.i).2.2.2.1 (bG s.m s.i).2.2.2.2.1 (bG s.m s.i).2.2.2.2.2.1 (bG s.m s.i).2.2.2.2.2.2.1 (jd s.rs s.i).1 (jd s.rs s.i).2 (gi s.offers s.i)=x) (hy:nS (bG s.m s.i).2.2.1 (bG s.m s.i).2.2.2.1 (bG s.m s.i).2.2.2.2.1 (bG s.m s.i).2.2.2.2.2.1 (bG s.m s.i).2.2.2.2.2.2.1 (jd s.rs s.i).1 (jd s.rs s.i).2 (gi s.offers s.i)=y):bJ (λs'=>II s'∧BR s'<BR s) (λx s'=>akj x s s') ((Ub s e w x y).rd s):=by
 unfold Ub;dsimp only [T.rd,T.rl];obtain ⟨⟨h0,h1⟩,hA,hL,⟨h2,h3⟩,⟨h4,h5⟩,h6,⟨h7,h8,h9,h10⟩,hk,h11⟩:=hI
 have hll:s.bP.length≤s.i.toNat:=(by rw [hL];exact yc)
 refine ai (λc1=>?_) (λc1=>?_)
 ·refine ai (λc2=>?_) (λc2=>?_)
  ·have c1:s.i<s.k:=by simpa using c1
   have hm:s.i<(s.m.length:Int):=by omega
   exact absurd (he.symm.trans (aMK (hk s.i h0 hm))) (by simpa using c2)
  ·refine ai (λc3=>?_) (λc3=>?_)
   ·have c1:s.i<s.k:=by simpa using c1
    have hm:s.i<(s.m.length:Int):=by omega
    have hx':Xj (bG s.m s.i) (jd s.rs s.i) (gi s.offers s.i)=x:=hx
    have hy':nxS (bG s.m s.i) (jd s.rs s.i) (gi s.offers s.i)=y:=hy
    have hA':∀j,0≤j→j<s.i+1→gi (s.fE.set s.i.toNat x) j=Xj (bG s.m j) (jd s.rs j) (gi s.offers j)∧jd (s.next.set s.i.toNat (x,y)) j=(Xj (bG s.m j) (jd s.rs j) (gi s.offers j),nxS (bG s.m j) (jd s.rs j) (gi s.offers j)):=λj j0 j1=>by
     rw [mW h0 (by omega) j0,ahl h0 (by omega) j0]
     by_cases e:j=s.i
     ·subst e
      rw [if_pos rfl,if_pos rfl,hx',hy'];exact ⟨rfl,rfl⟩
     ·rw [if_neg e,if_neg e]
      exact hA j j0 (by omega)
    have hs:s.i.toNat+1=(s.i+1).toNat:=by omega
    have hg:gi (Hf s.m s.rs s.offers s.m.length) (s.i.toNat:Nat)=x:=by rw [Int.toNat_of_nonneg h0,Hf,lq h0 hm,hx']
    have hw':nwB s.m s.kR s.tick (s.i.toNat:Nat) x=w:=by rw [Int.toNat_of_nonneg h0,←hw,h4,h5];rw [←hx]
    rw [aH (x:=s.i+1),aH (x:=s.n+1)]
    have hn:s.n+1-((List.length (s.bP++[(s.n,s.i,x,s.tick,12)]):Nat):Int)=s.n-(s.bP.length:Int):=by
     rw [List.length_append]
     show s.n+1-((s.bP.length+1:Nat):Int)=_
     omega
    refine ⟨⟨⟨by simp only;omega,by simp only;omega⟩,hA',?_,⟨h2,h3⟩,⟨h4,h5⟩,h6,⟨h7,h8,by simp only [List.length_set];exact h9,by simp only [List.length_set];exact h10⟩,hk,by simp only;rw [hn];exact h11⟩,by simp only [BR];omega⟩
    simp only;rw [hn,←hs,dcL,←hL,hg,hw',c3,if_pos rfl,Int.toNat_of_nonneg h0,show s.n-(s.bP.length:Int)+(s.bP.length:Int)=s.n by omega]
   ·have c1:s.i<s.k:=by simpa using c1
    have hm:s.i<(s.m.length:Int):=by omega
    have hx':Xj (bG s.m s.i) (jd s.rs s.i) (gi s.offers s.i)=x:=hx
    have hy':nxS (bG s.m s.i) (jd s.rs s.i) (gi s.offers s.i)=y:=hy
    have hA':∀j,0≤j→j<s.i+1→gi (s.fE.set s.i.toNat x) j=Xj (bG s.m j) (jd s.rs j) (gi s.offers j)∧jd (s.next.set s.i.toNat (x,y)) j=(Xj (bG s.m j) (jd s.rs j) (gi s.offers j),nxS (bG s.m j) (jd s.rs j) (gi s.offers j)):=λj j0 j1=>by
     rw [mW h0 (by omega) j0,ahl h0 (by omega) j0]
     by_cases e:j=s.i
     ·subst e
      rw [if_pos rfl,if_pos rfl,hx',hy'];exact ⟨rfl,rfl⟩
     ·rw [if_neg e,if_neg e]
      exact hA j j0 (by omega)
    have hs:s.i.toNat+1=(s.i+1).toNat:=by omega
    have hg:gi (Hf s.m s.rs s.offers s.m.length) (s.i.toNat:Nat)=x:=by rw [Int.toNat_of_nonneg h0,Hf,lq h0 hm,hx']
    have hw':nwB s.m s.kR s.tick (s.i.toNat:Nat) x=w:=by rw [Int.toNat_of_nonneg h0,←hw,h4,h5];rw [←hx]
    rw [aH (x:=s.i+1)];refine ⟨⟨⟨by simp only;omega,by simp only;omega⟩,hA',?_,⟨h2,h3⟩,⟨h4,h5⟩,h6,⟨h7,h8,by simp only [List.length_set];exact h9,by simp only [List.length_set];exact h10⟩,hk,h11⟩,by simp only [BR];omega⟩
    simp only;rw [←hs,dcL,←hL,hg,hw',c3,if_neg (by decide),List.append_nil]
 ·have c1:s.k≤s.i:=by simpa using c1
  have hi:s.i.toNat=s.m.length:=by omega
  refine ⟨rfl,kP (by rw [h9];exact dH.symm) λj j0 j1=>?_,azi (by rw [h10,AL]) λj j0 j1=>?_,by have hL':=hL;rw [hi] at hL';exact hL'⟩
  ·rw [Hf,dH] at j1
   rw [Hf,lq j0 j1];exact (hA j j0 (by omega)).1
  ·rw [AL] at j1
   rw [aIN j0 j1];exact (hA j j0 (by omega)).2
theorem aIL (s:nK) (hI:II s):bJ (λs'=>II s'∧BR s'<BR s) (λx s'=>akj x s s') (arU s):=aAn s hI _ _ _ _ rfl rfl rfl rfl
def JO:bK nK:=⟨0,108,[2,4,5,12,13,14,15,16,17,19,20,21,57,58,59],[.nl 21 63 kY],aQS,aPA,λv b=>⟨aU yu (v.getD 0 .junk),gI (v.getD 1 .junk),gI (v.getD 2 .junk),gI (v.getD 6 .junk),aU aSg (v.getD 8 .junk),aU dP (v.getD 12 .junk),gI (v.getD 13 .junk),gI (v.getD 14 .junk),aU dY (bn (aT b 0) 0),aU .str (bn (aT b 0) 1),aU fC (bn (aT b 0) 2),aU dP (bn (aT b 0) 3),aU fD (bn (aT b 0) 4),aU kY (bn (aT b 0) 5),aU jr (bn (aT b 0) 6),gI (bn (aT b 0) 7),aU aSg (bn (aT b 0) 8),iW aSg (aT b 1),iW yu (aT b 2),iW kY (aT b 3)⟩,afJ,λs r=> {r with rs:=s.rs,tick:=s.tick,offers:=s.offers,m:=s.m,k:=s.k,adt:=s.adt,c1:=s.c1,c2:=s.c2,c3:=s.c3,c4:=s.c4,kR:=s.kR,Hg:=s.Hg,yg:=s.yg,WI:=s.WI},λs=>s,λ_ s=>s,[.ret,.exit 0],aaQ,II,BR⟩
abbrev iR:=JO.run
abbrev WE:=JO.jf
abbrev aKm:=JO.q
theorem aGs (s:nK) (hI:II s):(afJ s).all (λ_=>True):=by
 refine ⟨λc1=>⟨?_,?_,?_,λc2=>⟨aSf,aSf,aSf,trivial⟩,λc2=>⟨?_,?_,?_,?_,?_,λc3=>⟨?_,?_,?_,?_,trivial⟩,λc3=>⟨?_,?_,aSf,trivial⟩⟩⟩,λc1=>⟨aSf,aSf,aSf,trivial⟩⟩
 all_goals ((obtain ⟨⟨h0,h1⟩,hA,hL,⟨h2,h3⟩,⟨h4,h5⟩,h6,⟨h7,h8,h9,h10⟩,hk,h11⟩:=hI;have hll:s.bP.length≤s.i.toNat:=(by rw [hL];exact yc);(try simp only [decide_eq_true_eq] at c1);have hl3:s.c3.length=s.m.length:=congrArg List.length h4;first|omega|exact ⟨rfl,by simp⟩ |(refine ⟨by omega,?_,?_⟩<;>simp only [List.length_cons,List.length_nil]<;>omega)))
def ac3:Specs:=aW [(19,CO),(35,aey),(36,aeA),(37,aek),(38,aeB)]
theorem ara:∀g S,ac3 g=some S→Valid Tryz.prog aP g S:=aS (l:=[(19,CO),(35,aey),(36,aeA),(37,aek),(38,aeB)]) ⟨aa5,aEu,aEw,aEi,aEx,trivial⟩
theorem ace:JO.Ok:={}
theorem abN:JO.Pf (akj):=⟨aNU,λs h=>rfl,aIL,aGs⟩
theorem awq:bC Tryz.prog aP (AN 0) (.loop FH) JO.lp:=bK.snd ace abN (aQ (Γ:=ac3) (K:=dR) (L:=ay) ara aA FH (λb hb=>by rw [show ax FH=[] by kernel_rfl] at hb;cases hb)) (λs=>by kernel_rfl)
theorem aAm (s:nK) (hE:aaQ s):∃s',II s'∧akj (WE s) s' (iR s):=bK.fin ace abN s hE
theorem aAl (s:nK) (hE:aaQ s):(λ(x:Ex) (s':nK) (v:Int)=>s'.n-(s'.bP.length:Int)=v) (WE s) (iR s) ((λs:nK=>s.n-(s.bP.length:Int)) s):=by
 exact bK.mD ace abN (λs:nK=>s.n-(s.bP.length:Int)) (λx s' v=>s'.n-(s'.bP.length:Int)=v) (λs hI=>by
  show bJ _ _ (arU s)
  unfold arU afJ Ub;dsimp only [T.rd,T.rl];obtain ⟨⟨h0,h1⟩,hA,hL,⟨h2,h3⟩,⟨h4,h5⟩,h6,⟨h7,h8,h9,h10⟩,hk,h11⟩:=hI
  have hll:s.bP.length≤s.i.toNat:=(by rw [hL];exact yc)
  refine ai (λc1=>?_) (λc1=>?_)
  ·refine ai (λc2=>?_) (λc2=>?_)
   ·rfl
   ·refine ai (λc3=>?_) (λc3=>?_)
    ·have c1:s.i<s.k:=by simpa using c1
     rw [aH (x:=s.n+1)]
     show s.n+1-((List.length (s.bP++[_]):Nat):Int)=s.n-(s.bP.length:Int)
     rw [List.length_append]
     show s.n+1-((s.bP.length+1:Nat):Int)=_
     omega
    ·rfl
  ·rfl) s hE
def aak:List LV→T LV
 | [.agg [.xl (.pair .str (.pair (.int .i64) (.pair (.int .i64) (.pair (.int .i64) (.pair (.pair (.int .i64) (.int .i64)) (.pair (.int .i64) (.pair (.int .i64) (.pair (.int .i64) (.pair (.int .i64) (.int .i64)))))))))) cs,.xl (.str) os,.xl (.pair .str (.pair (.int .i64) (.pair (.int .i64) (.int .i64)))) ks,.xl (.pair .str (.pair (.int .i64) (.pair (.int .i64) (.pair (.int .i64) (.pair (.int .i64) (.pair (.int .i64) (.pair (.int .i64) (.int .i64)))))))) gs,.xl (.pair .str (.int .i64)) bs],.xl (.pair (.int .i64) (.pair (.int .i64) (.pair (.int .i64) (.pair (.int .i64) (.int .i64))))) l,.xl (.pair (.int .i64) (.int .i64)) rs,.xl (.pair .bool (.pair (.int .i64) (.pair (.int .i64) (.int .i64)))) d,.v (.int .i64 t),.v (.int .i64 n)]=> .req (kX d t∧d.length≤100) (.ok (.iU [.xl aSg (deA cs os ks gs bs l rs d t n),.xl yu (deR cs os ks gs bs l rs d t n),.xl kY (deL cs os ks gs bs l rs d t n),.v (.int .i64 (deE cs os ks gs bs l rs d t n))]))
 |_=> .no
def FX:List LV→T LV:=gZ Tryz.prog Tryz.f14.params.toList aak
def gu (cs:List Cd) (os:List ByteArray) (ks:List Ko) (gs:List Ch) (bs:List Ba) (l:List Le) (rs:List Ra) (d:List Dm) (t n:Int):nK:=letI a:=Uz cs os ks gs bs l d t (iK d t);(⟨rs,t,n,(0:Int),a,gs,(gs.length:Int),(0:Int),cs,os,ks,gs,bs,l,d,t,(iK d t),(List.replicate (List.length a:Int).toNat (0:Int)),(List.replicate (List.length a:Int).toNat ((0:Int),(0:Int))),([]:List Le)⟩:nK)
theorem ap5 (cs:List Cd) (os:List ByteArray) (ks:List Ko) (gs:List Ch) (bs:List Ba) (l:List Le) (rs:List Ra) (d:List Dm) (t n:Int):letI a:=(List.length (Uz cs os ks gs bs l d t (iK d t)):Int);letI c:=gu cs os ks gs bs l rs d t n;letI b:=iR c;cO Tryz.prog aP (ac3) dR (λi=>if i=11 then JO.lp else ay i) Tryz.f14 [.agg [.xl dY cs,.xl .str os,.xl fC ks,.xl dP gs,.xl fD bs],.xl kY l,.xl yu rs,.xl jr d,.v (.int .i64 t),.v (.int .i64 n)]=.req (kX d t∧d.length≤100) (.br (!(P6 cs os ks gs bs l rs d t n)) (.ok (.iU [.xl aSg ([]:List Int),.xl yu ([]:List Ra),.xl kY ([]:List Le),.v (.int .i64 1)])) (.req (d.length=gs.length∧sQ cs os ks gs bs (mG gs) (qj gs d) (iK d t)=true∧Ho l (gs.length:Int) t=true∧sQ cs os ks gs bs (qw gs l t) (zW cs os ks gs bs (mG gs) (qj gs d) (iK d t)) (iK d t)=true) (.br ((0:Int) !=0) (.ok (.iU [.xl aSg ([]:List Int),.xl yu ([]:List Ra),.xl kY ([]:List Le),.v (.int .i64 1)])) (.req (0≤a∧a≤a∧8*a≤2^48∧a<2^63) (.req (0≤a∧a≤a∧16*a≤2^48∧a<2^63) (.req (0=0∧a.toNat=List.length (List.replicate a.toNat (0:Int))) (.req (0=0∧a.toNat=List.length (List.replicate a.toNat ((0:Int),(0:Int)))) (.req (0=0∧0=List.length ([]:List Le)) (.req (aKm c) (.br (iV (WE c) (.ret)) (.ok (.iU [.xl aSg ([]:List Int),.xl yu ([]:List Ra),.xl kY ([]:List Le),.v (.int .i64 b.t15)])) (.req (0+(List.length b.fE)≤List.length b.fE) (.req (0+(List.length b.next)≤List.length b.next) (.req (0+(List.length b.bP)≤List.length b.bP) (.ok (.iU [.xl aSg ((b.fE.drop 0).take (List.length b.fE)),.xl yu ((b.next.drop 0).take (List.length b.next)),.xl kY ((b.bP.drop 0).take (List.length b.bP)),.v (.int .i64 0)]))))))))))))))):=by kernel_rfl
theorem aeX:Valid Tryz.prog aP 14 FX:=aI Tryz.func14 rfl ara aA (L:=(λi=>if i=11 then JO.lp else ay i)) (λb hb=>by
 rw [show ax _=[FH] by kernel_rfl] at hb
 simp only [List.mem_cons,List.not_mem_nil,or_false] at hb;subst hb;exact awq) (λargs lv h=>by
 unfold aak at h;split at h
 ·simp only [canL,canX]
  rw [ap5];rename_i cs os ks gs bs l rs d t n;obtain ⟨hw,rfl⟩:=h;refine ⟨hw,λc=>?_,λc=>?_⟩
  ·unfold deA deR deL deE
   rw [ntW c];rfl
  have c:=Qe c
  have V:=Xo c
  have ol:(Uz cs os ks gs bs l d t (iK d t)).length=gs.length:=(apI V).1
  have hE:aaQ (gu cs os ks gs bs l rs d t n):=⟨rfl,rfl,⟨rfl,by have:=V.gl;show (gs.length:Int)≤16;omega⟩,aSf,⟨by have:=(zu V.les).1;show (l.length:Int)≤1000;omega,V.tb⟩,⟨V.rl,ol,by show (List.replicate _ (0:Int)).length=gs.length;rw [List.length_replicate];omega,by show (List.replicate _ ((0:Int),(0:Int))).length=gs.length;rw [List.length_replicate];omega⟩,aIM V,by have:=V.nb;show 1≤n-(0:Int);omega,by have:=V.nb;show n-(0:Int)≤999900;omega⟩
  obtain ⟨_,_,q1,q2,q3,q4⟩:=aAm _ hE
  have hn:=aAl _ hE
  have hn:(iR (gu cs os ks gs bs l rs d t n)).n-((iR (gu cs os ks gs bs l rs d t n)).bP.length:Int)=n:=hn.trans (Int.sub_zero n)
  have q2:(iR (gu cs os ks gs bs l rs d t n)).fE=deA cs os ks gs bs l rs d t n:=q2.trans (by unfold deA;rw [if_pos c];rfl)
  have q3:(iR (gu cs os ks gs bs l rs d t n)).next=deR cs os ks gs bs l rs d t n:=q3.trans (by unfold deR;rw [if_pos c];rfl)
  rw [hn] at q4
  have q4:(iR (gu cs os ks gs bs l rs d t n)).bP=deL cs os ks gs bs l rs d t n:=q4.trans (by unfold deL;rw [if_pos c];rfl)
  have gl:=V.gl
  refine ⟨⟨V.dl,aAT V.si,aiS V,aBp V⟩,λc2=>absurd c2 (by decide),λ_=>?_⟩
  refine ⟨by rw [ol];omega,by rw [ol];omega,⟨rfl,by simp⟩,⟨rfl,by simp⟩,aSf,⟨hE,rfl,rfl⟩,?_⟩
  rw [q1];refine ⟨λh=>(by cases h),λ_=>⟨by omega,by omega,by omega,?_⟩⟩
  show LV.iU [LV.xl _ _,LV.xl _ _,LV.xl _ _,_]=_
  rw [List.drop_zero,List.take_length,List.drop_zero,List.take_length,List.drop_zero,List.take_length,q2,q3,q4];unfold deE;rw [if_pos c]
 ·cases h)
structure qf where
 l:List ByteArray
 k:Int
 i:Int
 bT:Value
 iL:Value
 fB:Value
 fP:Value
 kQ:Value
 aj:List Cd
 aF:List ByteArray
 ak:Value
 aN:Value
 gs:List Ch
def aQr (s:qf):List LV:=[.own 0 0,.own 1 0,.xl .str s.l,.v (.int .i64 s.k),.v (.int .i64 s.i)]
def aO9 (s:qf):List aZ:=[⟨[.v (s.bT),.v (s.iL),.v (s.fB),.v (s.fP),.v (s.kQ)],28,.cl,false⟩,⟨[.xl dY s.aj,.xl .str s.aF,.v (s.ak),.os 2 8 0 (s.gs.length),.v (s.aN)],28,.cl,false⟩,⟨[],58,.vec dP s.gs,false⟩]
def EY:Code:=((ax (Tryz.f33.body.getD .skip))[0]?).getD .skip
def afu (s:qf):T (Rd qf):=
 .br (decide (s.i<s.k)) (.req (0≤s.i∧s.i<(s.l.length:Int)) (.req (0+(s.gs.length)=s.gs.length∧((s.gs.length+List.length ([((gS s.l s.i),((0:Int),((1:Int),((6:Int),((10:Int),((1:Int),((0:Int),(0:Int))))))))]):Nat):Int)*72≤2^47∧((s.gs.length+List.length ([((gS s.l s.i),((0:Int),((1:Int),((6:Int),((10:Int),((1:Int),((0:Int),(0:Int))))))))]):Nat):Int)<2^62) (.req (0=0∧(s.gs.length+List.length ([((gS s.l s.i),((0:Int),((1:Int),((6:Int),((10:Int),((1:Int),((0:Int),(0:Int))))))))]))=List.length (s.gs++([((gS s.l s.i),((0:Int),((1:Int),((6:Int),((10:Int),((1:Int),((0:Int),(0:Int))))))))]))) (.ok (.next {s with i:=(aSe (s.i+1)),gs:=(s.gs++([((gS s.l s.i),((0:Int),((1:Int),((6:Int),((10:Int),((1:Int),((0:Int),(0:Int))))))))]))}))))) (.rl s.gs (.ok (.stop (.exit 0) s)))
abbrev aCL (s:qf):=(afu s).rd s
def pkG:List Ch:=[(ByteArray.mk #[120],0,1,6,10,1,0,0),(ByteArray.mk #[121],0,1,6,10,1,0,0)]
def pkC (n:Int):List Cd:=[(ByteArray.mk #[102],-1,n,100,(0,0),0,0,0,0,0)]
def pkS:List ByteArray:=[ByteArray.mk #[120],ByteArray.mk #[121]]
def akB (s:qf):Prop:=s.i=0∧s.gs=[]∧s.l=pkS∧s.k=2
def SK (s:qf):Prop:=(0≤s.i∧s.i≤2)∧s.gs=pkG.take s.i.toNat∧s.l=pkS∧s.k=2
def Vj (s:qf):Nat:=(2-s.i).toNat
def atu (x:Ex) (_ s':qf):Prop:=x=.exit 0∧s'.gs=pkG
theorem aMy:∀s,akB s→SK s:=by
 intro s h;obtain ⟨h0,h1,h2⟩:=h;exact ⟨by omega,by rw [h0,h1];rfl,h2⟩
theorem aG7 (s:qf) (hI:SK s):bJ (λs'=>SK s'∧Vj s'<Vj s) (λx s'=>atu x s s') (aCL s):=by
 unfold aCL afu;dsimp only [T.rd,T.rl];obtain ⟨⟨h0,h1⟩,h2,h3,h4⟩:=hI;refine ai (λc1=>?_) (λc1=>?_)
 ·have c1:s.i<2:=by simpa [h4] using c1
  rw [aH (x:=s.i+1)];refine ⟨⟨⟨by simp only;omega,by simp only;omega⟩,?_,h3,h4⟩,by simp only [Vj];omega⟩
  simp only;rw [h2,h3];rcases (by omega:s.i=0∨s.i=1) with e|e<;>rw [e]<;>rfl
 ·have c1:2≤s.i:=by simpa [h4] using c1
  refine ⟨rfl,?_⟩;rw [h2,show s.i.toNat=2 by omega]
  rfl
def Ju:bK qf:=⟨0,27,[2,3,12,13,14],[.nc 1 3 58 dP],aQr,aO9,λv b=>⟨aU .str (v.getD 2 .junk),gI (v.getD 3 .junk),gI (v.getD 4 .junk),gAn (bn (aT b 0) 0),gAn (bn (aT b 0) 1),gAn (bn (aT b 0) 2),gAn (bn (aT b 0) 3),gAn (bn (aT b 0) 4),aU dY (bn (aT b 1) 0),aU .str (bn (aT b 1) 1),gAn (bn (aT b 1) 2),gAn (bn (aT b 1) 4),iW dP (aT b 2)⟩,afu,λs r=> {r with l:=s.l,k:=s.k,bT:=s.bT,iL:=s.iL,fB:=s.fB,fP:=s.fP,kQ:=s.kQ,aj:=s.aj,aF:=s.aF,ak:=s.ak,aN:=s.aN},λs=>s,λ_ s=>s,[.exit 0],akB,SK,Vj⟩
abbrev Ad:=Ju.run
abbrev azT:=Ju.jf
abbrev aJX:=Ju.q
theorem aF1 (s:qf) (hI:SK s):(afu s).all (λ_=>True):=by
 refine ⟨λc1=>⟨?_,?_,?_,trivial⟩,λc1=>⟨aSf,trivial⟩⟩
 all_goals ((obtain ⟨⟨h0,h1⟩,h2,h3,h4⟩:=hI;simp only [decide_eq_true_eq] at c1;have hl:s.l.length=2:=(by rw [h3];rfl);have hg:s.gs.length≤2:=(by rw [h2,List.length_take];show min _ 2≤2;omega);first|omega|(refine ⟨by omega,?_,?_⟩<;>simp only [List.length_cons,List.length_nil]<;>omega) |exact ⟨rfl,by simp⟩))
def ac9:Specs:=aW []
theorem ark:∀g S,ac9 g=some S→Valid Tryz.prog aP g S:=aS (l:=[]) trivial
theorem apk:Ju.Ok:={}
theorem an4:Ju.Pf (atu):=⟨aMy,λ_ _=>rfl,aG7,aF1⟩
theorem av1:bC Tryz.prog aP (AN 0) (.loop EY) Ju.lp:=bK.snd apk an4 (aQ (Γ:=ac9) (K:=dR) (L:=ay) ark aA EY (λb hb=>by rw [show ax EY=[] by kernel_rfl] at hb;cases hb)) (λs=>by kernel_rfl)
theorem axj (s:qf) (hE:akB s):∃s',SK s'∧atu (azT s) s' (Ad s):=bK.fin apk an4 s hE
def ajG:List LV→T LV
 | [.v (.int .i64 n)]=> .ok (.agg [.xl dY (pkC n),.xl .str ([(ByteArray.mk #[111])]),.xl fC ([]:List Ko),.xl dP pkG,.xl fD ([]:List Ba)])
 |_=> .no
def aei:List LV→T LV:=gZ Tryz.prog Tryz.f33.params.toList ajG
theorem ayr (n:Int):letI b:=((ByteArray.mk #[102]),((-1:Int),(n,((100:Int),(((0:Int),(0:Int)),((0:Int),((0:Int),((0:Int),((0:Int),(0:Int))))))))));letI d:=ByteArray.mk #[120];letI e:=ByteArray.mk #[121];letI f:=ByteArray.mk #[111];letI c:=(List.length ([d,e]):Int);letI a:=(Ad (⟨([d,e]),c,(0:Int),(.slice none 0 0),(.slice none 0 0),(.slice none 0 0),(.slice none 0 0),(.slice none 0 0),([b]),([f]),(.slice none 0 0),(.slice none 0 0),([]:List Ch)⟩:qf));cO Tryz.prog aP (ac9) dR (λi=>if i=3 then Ju.lp else ay i) Tryz.f33 [.v (.int .i64 n)]=.req (0=0∧0=List.length ([]:List Ch)) (.req (aJX (⟨([d,e]),c,(0:Int),(.slice none 0 0),(.slice none 0 0),(.slice none 0 0),(.slice none 0 0),(.slice none 0 0),([b]),([f]),(.slice none 0 0),(.slice none 0 0),([]:List Ch)⟩:qf)) (.req (0+(List.length a.gs)≤List.length a.gs) (.ok (.agg [.xl dY ([b]),.xl .str ([f]),.xl fC ([]:List Ko),.xl dP ((a.gs.drop 0).take (List.length a.gs)),.xl fD ([]:List Ba)])))):=by kernel_rfl
theorem aEg:Valid Tryz.prog aP 33 aei:=aI Tryz.func33 rfl ark aA (L:=(λi=>if i=3 then Ju.lp else ay i)) (λb hb=>by
 rw [show ax _=[EY] by kernel_rfl] at hb
 simp only [List.mem_cons,List.not_mem_nil,or_false] at hb;subst hb;exact av1) (λargs lv h=>by
 unfold ajG at h;split at h
 ·simp only [canL,canX]
  rw [ayr];rename_i n;obtain rfl:=h
  have hE:akB ⟨([(ByteArray.mk #[120]),(ByteArray.mk #[121])]),(List.length ([(ByteArray.mk #[120]),(ByteArray.mk #[121])]):Int),0,.slice none 0 0,.slice none 0 0,.slice none 0 0,.slice none 0 0,.slice none 0 0,[((ByteArray.mk #[102]),-1,n,100,(0,0),0,0,0,0,0)],[(ByteArray.mk #[111])],.slice none 0 0,.slice none 0 0,[]⟩:=⟨rfl,rfl,rfl,rfl⟩
  obtain ⟨_,_,q1,q2⟩:=axj _ hE
  have q2:(Ad ⟨([(ByteArray.mk #[120]),(ByteArray.mk #[121])]),(List.length ([(ByteArray.mk #[120]),(ByteArray.mk #[121])]):Int),0,.slice none 0 0,.slice none 0 0,.slice none 0 0,.slice none 0 0,.slice none 0 0,[((ByteArray.mk #[102]),-1,n,100,(0,0),0,0,0,0,0)],[(ByteArray.mk #[111])],.slice none 0 0,.slice none 0 0,[]⟩).gs=pkG:=q2
  refine ⟨aSf,⟨hE,rfl,rfl⟩,by omega,?_⟩
  rw [List.drop_zero,List.take_length,q2];rfl
 ·cases h)
def aah:List LV→T LV
 | []=> .ok (.v (.bool true))
 |_=> .no
def WV:List LV→T LV:=gZ Tryz.prog Tryz.f11.params.toList aah
def arF:Specs:=aW [(14,FX),(16,FU),(19,CO),(33,aei)]
theorem aH9:∀g S,arF g=some S→Valid Tryz.prog aP g S:=aS (l:=[(14,FX),(16,FU),(19,CO),(33,aei)]) ⟨aeX,aeU,aa5,aEg,trivial⟩
theorem ap2:letI c:=(true,((0:Int),((50:Int),(1:Int))));letI d:=(true,((0:Int),((0:Int),(2:Int))));letI e:=ByteArray.mk #[111];letI f:=(pkC (10:Int));letI a:=(kX ([d,c]) (40:Int)∧([d,c]).length≤100);letI b:=(List.length (deR f ([e]) ([]:List Ko) pkG ([]:List Ba) ([]:List Le) ([((0:Int),(9:Int)),((0:Int),(9:Int))]) ([d,c]) (40:Int) (7:Int)):Int);(cO Tryz.prog aP (arF) dR ay Tryz.f11 []).red=.req a (.req a (.req (0≤(0:Int)∧(0:Int)≤(1:Int)∧(1:Int)≤(List.length ([((0:Int),(9:Int)),((0:Int),(9:Int))]):Int)) (.req a (.req ((List.length (deA f ([e]) ([]:List Ko) pkG ([]:List Ba) ([]:List Le) ([((0:Int),(9:Int)),((0:Int),(9:Int))]) ([d,c]) (40:Int) (7:Int)):Int)≤1000) (.req (0≤(1:Int)∧1<b) (.req (0≤(0:Int)∧0<b) (.req (0≤(0:Int)∧0<(List.length (deL f ([e]) ([]:List Ko) pkG ([]:List Ba) ([]:List Le) ([((0:Int),(9:Int)),((0:Int),(9:Int))]) ([d,c]) (40:Int) (7:Int)):Int)) (.req ((List.length (deA (pkC (20:Int)) ([e]) ([]:List Ko) pkG ([]:List Ba) ([((3:Int),((1:Int),((20:Int),((30:Int),(12:Int)))))]) ([((0:Int),(9:Int)),((0:Int),(9:Int))]) ([d,c]) (40:Int) (7:Int)):Int)≤1000) (.req a (.req ((List.length (iK ([d,c]) (40:Int)):Int)≤1000) (.ok (.v (.bool true))))))))))))):=by kernel_rfl
theorem auY:Valid Tryz.prog aP 11 WV:=aI Tryz.func11 rfl aH9 aA (bf (by kernel_rfl)) (λargs lv h=>by
 unfold aah at h;split at h
 ·simp only [canL]
  refine @T.KU _ _ _ ?_;rw [ap2];exact ⟨(by first|decide+kernel|(unfold kX;decide+kernel)),(by first|decide+kernel|(unfold kX;decide+kernel)),(by first|decide+kernel|(unfold kX;decide+kernel)),(by first|decide+kernel|(unfold kX;decide+kernel)),(by first|decide+kernel|(unfold kX;decide+kernel)),(by first|decide+kernel|(unfold kX;decide+kernel)),(by first|decide+kernel|(unfold kX;decide+kernel)),(by first|decide+kernel|(unfold kX;decide+kernel)),(by first|decide+kernel|(unfold kX;decide+kernel)),(by first|decide+kernel|(unfold kX;decide+kernel)),(by first|decide+kernel|(unfold kX;decide+kernel)),h⟩
 ·cases h)
structure qV where
 a:List Ra
 b:List Ra
 r:Bool
 i:Int
def aPW (s:qV):List LV:=[.xl yu s.a,.xl yu s.b,.v (.bool s.r),.v (.int .i64 s.i)]
def aOE (s:qV):List aZ:=[]
def Eu:Code:=((ax (Tryz.f17.body.getD .skip))[0]?).getD .skip
def aff (s:qV):T (Rd qV):=
 .br (decide (s.i<(s.a.length:Int))) (.req (0≤s.i∧s.i<(s.a.length:Int)) (.req (0≤s.i∧s.i<(s.b.length:Int)) (.br (!(((jd s.a s.i).1==(jd s.b s.i).1)&&((jd s.a s.i).2==(jd s.b s.i).2))) (.ok (.stop (.ret) {s with r:=false})) (.ok (.next {s with i:=(aSe (s.i+1))}))))) (.ok (.stop (.exit 0) s))
abbrev aCw (s:qV):=(aff s).rd s
def O3 (s:qV) (j:Int):Bool:=jd s.a j==jd s.b j
def aum (s:qV):Prop:=s.i=0∧0≤(s.a.length:Int)∧(s.a.length:Int)≤1000∧s.a.length=s.b.length
def RZ (s:qV):Prop:=0≤s.i∧s.i≤(s.a.length:Int)∧(s.a.length:Int)≤1000∧(s.a.length=s.b.length)∧∀j:Nat,(j:Int)<s.i→O3 s j=true
def UQ (s:qV):Nat:=((s.a.length:Int)-s.i).toNat
def atd (x:Ex) (s s':qV):Prop:=(x=.exit 0∧∀j:Nat,(j:Int)<(s'.a.length:Int)→O3 s' j=true)∨(x=.ret∧s'.r=false∧∃j:Nat,(j:Int)<(s'.a.length:Int)∧O3 s' j=false)
theorem aLw:∀s,aum s→RZ s:=by
 intro s h;obtain ⟨h0,h1,h2,h3⟩:=h;exact ⟨by omega,by omega,h2,h3,λj hj=>by omega⟩
theorem aFb (s:qV) (hI:RZ s):bJ (λs'=>RZ s'∧UQ s'<UQ s) (λx s'=>atd x s s') (aCw s):=by
 unfold aCw aff;dsimp only [T.rd,T.rl];obtain ⟨h0,h1,h2,h3,h4⟩:=hI;refine ai (λc1=>ai (λc2=>?_) (λc2=>?_)) (λc1=>?_)
 ·have c1:s.i<(s.a.length:Int):=by simpa using c1
  refine .inr ⟨rfl,rfl,s.i.toNat,by simp only;omega,?_⟩
  rw [Int.toNat_of_nonneg (by omega)]
  have hg:O3 s s.i=false:=by unfold O3;(first|(have c2:(!(jd s.a s.i==jd s.b s.i))=false:=c2;simpa using c2) |(have c2:(!(jd s.a s.i==jd s.b s.i))=true:=c2;simpa using c2))
  exact hg
 ·have c1:s.i<(s.a.length:Int):=by simpa using c1
  have hg:O3 s s.i=true:=by unfold O3;(first|(have c2:(!(jd s.a s.i==jd s.b s.i))=false:=c2;simpa using c2) |(have c2:(!(jd s.a s.i==jd s.b s.i))=true:=c2;simpa using c2))
  rw [aH (x:=s.i+1)];refine ⟨⟨by simp only;omega,by simp only;omega,h2,h3,λj hj=>?_⟩,by simp only [UQ];omega⟩
  by_cases hji:(j:Int)<s.i
  ·exact h4 j hji
  ·have:(j:Int)=s.i:=by simp only at hj;omega
   rw [this];exact hg
 ·have c1:(s.a.length:Int)≤s.i:=by simpa using c1
  exact .inl ⟨rfl,λj hj=>h4 j (by omega)⟩
def I4:bK qV:=⟨0,26,[0,1,4,5],[],aPW,aOE,λv b=>⟨aU yu (v.getD 0 .junk),aU yu (v.getD 1 .junk),vW (v.getD 2 .junk),gI (v.getD 3 .junk)⟩,aff,λs r=> {r with a:=s.a,b:=s.b},λs=>s,λ_ s=>s,[.ret,.exit 0],aum,RZ,UQ⟩
abbrev afY:=I4.run
abbrev ah6:=I4.jf
abbrev aJs:=I4.q
theorem aFw (s:qV) (hI:RZ s):(aff s).all (λ_=>True):=by
 refine ⟨λc1=>⟨?_,?_,λ_=>trivial,λ_=>trivial⟩,λ_=>trivial⟩
 all_goals ((obtain ⟨h0,h1,h2,h3,h4⟩:=hI;simp at c1;omega))
def NC:Specs:=aW []
theorem Wl:∀g S,NC g=some S→Valid Tryz.prog aP g S:=aS (l:=[]) trivial
theorem aoP:I4.Ok:={}
theorem anA:I4.Pf (atd):=⟨aLw,λs h=>rfl,aFb,aFw⟩
theorem avu:bC Tryz.prog aP (AN 0) (.loop Eu) I4.lp:=bK.snd aoP anA (aQ (Γ:=NC) (K:=dR) (L:=ay) Wl aA Eu (λb hb=>by rw [show ax Eu=[] by kernel_rfl] at hb;cases hb)) (λs=>by kernel_rfl)
theorem awL (s:qV) (hE:aum s):∃s',RZ s'∧atd (ah6 s) s' (afY s):=bK.fin aoP anA s hE
def ai4:List LV→T LV
 | [.xl (.pair (.int .i64) (.int .i64)) a,.xl (.pair (.int .i64) (.int .i64)) b]=> .req ((a.length:Int)≤1000) (.ok (.v (.bool (a==b))))
 |_=> .no
def adM:List LV→T LV:=gZ Tryz.prog Tryz.f17.params.toList ai4
theorem axP (a b:List Ra):cO Tryz.prog aP (NC) dR (λi=>if i=4 then I4.lp else ay i) Tryz.f17 [.xl yu a,.xl yu b]=.br ((a.length:Int) !=(b.length:Int)) (.ok (.v (.bool false))) (.req (aJs (⟨a,b,false,(0:Int)⟩:qV)) (.br (iV (ah6 (⟨a,b,false,(0:Int)⟩:qV)) (.ret)) (.ok (.v (.bool (afY (⟨a,b,false,(0:Int)⟩:qV)).r))) (.ok (.v (.bool true))))):=by kernel_rfl
theorem aDL:Valid Tryz.prog aP 17 adM:=aI Tryz.func17 rfl Wl aA (L:=(λi=>if i=4 then I4.lp else ay i)) (λb hb=>by
 rw [show ax _=[Eu] by kernel_rfl] at hb
 simp only [List.mem_cons,List.not_mem_nil,or_false] at hb;subst hb;exact avu) (λargs lv h=>by
 unfold ai4 at h;split at h
 ·simp only [canL,canX]
  rw [axP];rename_i a b;obtain ⟨hl,rfl⟩:=h;refine ⟨λc=>congrArg (λz=>LV.v (.bool z)) ?_,λc=>?_⟩
  ·have c:¬a.length=b.length:=by simp at c;omega
   rw [eq_comm,beq_eq_false_iff_ne];exact λe=>c (by rw [e])
  ·have c:a.length=b.length:=by simp at c;omega
   refine lK ⟨⟨rfl,Int.natCast_nonneg _,hl,c⟩,rfl,rfl⟩ (λhE=>?_)
   obtain ⟨s',_,hq⟩:=awL _ hE.1;rcases hq with ⟨q1,q2⟩ |⟨q1,q2,j,q3,q4⟩
   ·have e:(a==b)=true:=by
     rw [beq_iff_eq];refine List.ext_getElem c λj h1 h2=>?_
     have:(jd a j==jd b j)=true:=q2 j (by show (j:Int)<(a.length:Int);omega)
     rw [NE (by simpa using h1),NE (by simpa using h2)] at this
     simpa using this
    rw [q1,e];exact ⟨λh=>(by cases h),λ_=>rfl⟩
   ·have e:(a==b)=false:=by
     rw [beq_eq_false_iff_ne]
     rintro rfl
     have q4:(jd a j==jd a j)=false:=q4
     simp at q4
    rw [q1,q2,e];exact ⟨λ_=>rfl,λh=>by cases h⟩
 ·cases h)
structure qW where
 a:List Le
 b:List Le
 r:Bool
 i:Int
def aPX (s:qW):List LV:=[.xl kY s.a,.xl kY s.b,.v (.bool s.r),.v (.int .i64 s.i)]
def aOF (s:qW):List aZ:=[]
def Ew:Code:=((ax (Tryz.f18.body.getD .skip))[0]?).getD .skip
def afg (s:qW):T (Rd qW):=
 .br (decide (s.i<(s.a.length:Int))) (.req (0≤s.i∧s.i<(s.a.length:Int)) (.req (0≤s.i∧s.i<(s.b.length:Int)) (.br (!(((gV s.a s.i).1==(gV s.b s.i).1)&&(((gV s.a s.i).2.1==(gV s.b s.i).2.1)&&(((gV s.a s.i).2.2.1==(gV s.b s.i).2.2.1)&&(((gV s.a s.i).2.2.2.1==(gV s.b s.i).2.2.2.1)&&((gV s.a s.i).2.2.2.2==(gV s.b s.i).2.2.2.2)))))) (.ok (.stop (.ret) {s with r:=false})) (.ok (.next {s with i:=(aSe (s.i+1))}))))) (.ok (.stop (.exit 0) s))
abbrev aCx (s:qW):=(afg s).rd s
def O4 (s:qW) (j:Int):Bool:=gV s.a j==gV s.b j
def aun (s:qW):Prop:=s.i=0∧0≤(s.a.length:Int)∧(s.a.length:Int)≤1000∧s.a.length=s.b.length
def Sj (s:qW):Prop:=0≤s.i∧s.i≤(s.a.length:Int)∧(s.a.length:Int)≤1000∧(s.a.length=s.b.length)∧∀j:Nat,(j:Int)<s.i→O4 s j=true
def UR (s:qW):Nat:=((s.a.length:Int)-s.i).toNat
def ate (x:Ex) (s s':qW):Prop:=(x=.exit 0∧∀j:Nat,(j:Int)<(s'.a.length:Int)→O4 s' j=true)∨(x=.ret∧s'.r=false∧∃j:Nat,(j:Int)<(s'.a.length:Int)∧O4 s' j=false)
theorem aLx:∀s,aun s→Sj s:=by
 intro s h;obtain ⟨h0,h1,h2,h3⟩:=h;exact ⟨by omega,by omega,h2,h3,λj hj=>by omega⟩
theorem aFc (s:qW) (hI:Sj s):bJ (λs'=>Sj s'∧UR s'<UR s) (λx s'=>ate x s s') (aCx s):=by
 unfold aCx afg;dsimp only [T.rd,T.rl];obtain ⟨h0,h1,h2,h3,h4⟩:=hI;refine ai (λc1=>ai (λc2=>?_) (λc2=>?_)) (λc1=>?_)
 ·have c1:s.i<(s.a.length:Int):=by simpa using c1
  refine .inr ⟨rfl,rfl,s.i.toNat,by simp only;omega,?_⟩
  rw [Int.toNat_of_nonneg (by omega)]
  have hg:O4 s s.i=false:=by unfold O4;(first|(have c2:(!(gV s.a s.i==gV s.b s.i))=false:=c2;simpa using c2) |(have c2:(!(gV s.a s.i==gV s.b s.i))=true:=c2;simpa using c2))
  exact hg
 ·have c1:s.i<(s.a.length:Int):=by simpa using c1
  have hg:O4 s s.i=true:=by unfold O4;(first|(have c2:(!(gV s.a s.i==gV s.b s.i))=false:=c2;simpa using c2) |(have c2:(!(gV s.a s.i==gV s.b s.i))=true:=c2;simpa using c2))
  rw [aH (x:=s.i+1)];refine ⟨⟨by simp only;omega,by simp only;omega,h2,h3,λj hj=>?_⟩,by simp only [UR];omega⟩
  by_cases hji:(j:Int)<s.i
  ·exact h4 j hji
  ·have:(j:Int)=s.i:=by simp only at hj;omega
   rw [this];exact hg
 ·have c1:(s.a.length:Int)≤s.i:=by simpa using c1
  exact .inl ⟨rfl,λj hj=>h4 j (by omega)⟩
def I5:bK qW:=⟨0,26,[0,1,4,5],[],aPX,aOF,λv b=>⟨aU kY (v.getD 0 .junk),aU kY (v.getD 1 .junk),vW (v.getD 2 .junk),gI (v.getD 3 .junk)⟩,afg,λs r=> {r with a:=s.a,b:=s.b},λs=>s,λ_ s=>s,[.ret,.exit 0],aun,Sj,UR⟩
abbrev afZ:=I5.run
abbrev ah7:=I5.jf
abbrev aJt:=I5.q
theorem aFx (s:qW) (hI:Sj s):(afg s).all (λ_=>True):=by
 refine ⟨λc1=>⟨?_,?_,λ_=>trivial,λ_=>trivial⟩,λ_=>trivial⟩
 all_goals ((obtain ⟨h0,h1,h2,h3,h4⟩:=hI;simp at c1;omega))
theorem aoQ:I5.Ok:={}
theorem anB:I5.Pf (ate):=⟨aLx,λs h=>rfl,aFc,aFx⟩
theorem avv:bC Tryz.prog aP (AN 0) (.loop Ew) I5.lp:=bK.snd aoQ anB (aQ (Γ:=NC) (K:=dR) (L:=ay) Wl aA Ew (λb hb=>by rw [show ax Ew=[] by kernel_rfl] at hb;cases hb)) (λs=>by kernel_rfl)
theorem awM (s:qW) (hE:aun s):∃s',Sj s'∧ate (ah7 s) s' (afZ s):=bK.fin aoQ anB s hE
def ai5:List LV→T LV
 | [.xl (.pair (.int .i64) (.pair (.int .i64) (.pair (.int .i64) (.pair (.int .i64) (.int .i64))))) a,.xl (.pair (.int .i64) (.pair (.int .i64) (.pair (.int .i64) (.pair (.int .i64) (.int .i64))))) b]=> .req ((a.length:Int)≤1000) (.ok (.v (.bool (a==b))))
 |_=> .no
def adN:List LV→T LV:=gZ Tryz.prog Tryz.f18.params.toList ai5
theorem axQ (a b:List Le):cO Tryz.prog aP (NC) dR (λi=>if i=4 then I5.lp else ay i) Tryz.f18 [.xl kY a,.xl kY b]=.br ((a.length:Int) !=(b.length:Int)) (.ok (.v (.bool false))) (.req (aJt (⟨a,b,false,(0:Int)⟩:qW)) (.br (iV (ah7 (⟨a,b,false,(0:Int)⟩:qW)) (.ret)) (.ok (.v (.bool (afZ (⟨a,b,false,(0:Int)⟩:qW)).r))) (.ok (.v (.bool true))))):=by kernel_rfl
theorem aDM:Valid Tryz.prog aP 18 adN:=aI Tryz.func18 rfl Wl aA (L:=(λi=>if i=4 then I5.lp else ay i)) (λb hb=>by
 rw [show ax _=[Ew] by kernel_rfl] at hb
 simp only [List.mem_cons,List.not_mem_nil,or_false] at hb;subst hb;exact avv) (λargs lv h=>by
 unfold ai5 at h;split at h
 ·simp only [canL,canX]
  rw [axQ];rename_i a b;obtain ⟨hl,rfl⟩:=h;refine ⟨λc=>congrArg (λz=>LV.v (.bool z)) ?_,λc=>?_⟩
  ·have c:¬a.length=b.length:=by simp at c;omega
   rw [eq_comm,beq_eq_false_iff_ne];exact λe=>c (by rw [e])
  ·have c:a.length=b.length:=by simp at c;omega
   refine lK ⟨⟨rfl,Int.natCast_nonneg _,hl,c⟩,rfl,rfl⟩ (λhE=>?_)
   obtain ⟨s',_,hq⟩:=awM _ hE.1;rcases hq with ⟨q1,q2⟩ |⟨q1,q2,j,q3,q4⟩
   ·have e:(a==b)=true:=by
     rw [beq_iff_eq];refine List.ext_getElem c λj h1 h2=>?_
     have:(gV a j==gV b j)=true:=q2 j (by show (j:Int)<(a.length:Int);omega)
     rw [G6 (by simpa using h1),G6 (by simpa using h2)] at this
     simpa using this
    rw [q1,e];exact ⟨λh=>(by cases h),λ_=>rfl⟩
   ·have e:(a==b)=false:=by
     rw [beq_eq_false_iff_ne]
     rintro rfl
     have q4:(gV a j==gV a j)=false:=q4
     simp at q4
    rw [q1,q2,e];exact ⟨λ_=>rfl,λh=>by cases h⟩
 ·cases h)
def wxB (x:Dm):Bool:=!((decide (x.2.1<(-2000000000))) ||((decide (x.2.1>2000000000)) ||((decide (x.2.2.1<(-2000000000))) ||(decide (x.2.2.1>2000000000)))))
def wdB (d:List Dm) (t:Int):Bool:=Gi d.length (λj=>wxB (jG d j))&&((decide (t≥(-2000000000)))&&((decide (t≤2000000000))&&(decide ((d.length:Int)≤100))))
theorem aDA {d:List Dm}{t:Int}(h:wdB d t=true):kX d t∧d.length≤100:=by
 unfold wdB at h;rw [Bool.and_eq_true,Bool.and_eq_true,Bool.and_eq_true,decide_eq_true_eq,decide_eq_true_eq,decide_eq_true_eq] at h;obtain ⟨h1,h2,h3,h4⟩:=h;refine ⟨⟨λx hx=>?_,by omega,by omega⟩,by omega⟩
 obtain ⟨k,hk,rfl⟩:=List.mem_iff_getElem.1 hx
 have:=gm.1 h1 k (by omega)
 unfold wxB jG at this;rw [yA (by simpa using hk)] at this
 simp only [Bool.not_eq_true',Bool.or_eq_false_iff,decide_eq_false_iff_not,Int.toNat_natCast] at this;omega
structure rC where
 d:List Dm
 tick:Int
 t4:Bool
 t7:List Dm
 t8:Int
 t9:Int
def aQA (s:rC):List LV:=[.xl jr s.d,.v (.int .i64 s.tick),.v (.bool s.t4),.xl jr s.t7,.v (.int .i64 s.t8),.v (.int .i64 s.t9)]
def aPi (_:rC):List aZ:=[]
def Ff:Code:=((ax (Tryz.f13.body.getD .skip))[0]?).getD .skip
def afw (s:rC):T (Rd rC):=
 .br (decide (s.t9<s.t8)) (.req (0≤s.t9∧s.t9<(s.t7.length:Int)) (.br ((decide ((jG s.t7 s.t9).2.1<(-2000000000))) ||((decide ((jG s.t7 s.t9).2.1>2000000000)) ||((decide ((jG s.t7 s.t9).2.2.1<(-2000000000))) ||(decide ((jG s.t7 s.t9).2.2.1>2000000000))))) (.ok (.stop (.ret) {s with t4:=false})) (.ok (.next {s with t9:=(aSe (s.t9+1))})))) (.ok (.stop (.exit 0) s))
abbrev aCN (s:rC):=(afw s).rd s
def O8 (s:rC) (j:Int):Bool:=wxB (jG s.t7 j)
def akD (s:rC):Prop:=s.t9=0∧0≤s.t8∧s.t8≤9223372036854775807∧s.t8=(s.t7.length:Int)
def SY (s:rC):Prop:=0≤s.t9∧s.t9≤s.t8∧s.t8≤9223372036854775807∧(s.t8=(s.t7.length:Int))∧∀j:Nat,(j:Int)<s.t9→O8 s j=true
def Vr (s:rC):Nat:=(s.t8-s.t9).toNat
def atD (x:Ex) (_ s':rC):Prop:=(x=.exit 0∧∀j:Nat,(j:Int)<s'.t8→O8 s' j=true)∨(x=.ret∧s'.t4=false∧∃j:Nat,(j:Int)<s'.t8∧O8 s' j=false)
theorem aMN:∀s,akD s→SY s:=by
 intro s h;obtain ⟨h0,h1,h2,h3⟩:=h;exact ⟨by omega,by omega,h2,h3,λj hj=>by omega⟩
theorem aHI (s:rC) (hI:SY s):bJ (λs'=>SY s'∧Vr s'<Vr s) (λx s'=>atD x s s') (aCN s):=by
 unfold aCN afw;dsimp only [T.rd,T.rl];obtain ⟨h0,h1,h2,h3,h4⟩:=hI;refine ai (λc1=>ai (λc2=>?_) (λc2=>?_)) (λc1=>?_)
 ·have c1:s.t9<s.t8:=by simpa using c1
  refine .inr ⟨rfl,rfl,s.t9.toNat,by simp only;omega,?_⟩
  rw [Int.toNat_of_nonneg (by omega)]
  have hg:O8 s s.t9=false:=by unfold O8;unfold wxB;rw [c2];rfl
  exact hg
 ·have c1:s.t9<s.t8:=by simpa using c1
  have hg:O8 s s.t9=true:=by unfold O8;unfold wxB;rw [c2];rfl
  rw [aH (x:=s.t9+1)];refine ⟨⟨by simp only;omega,by simp only;omega,h2,h3,λj hj=>?_⟩,by simp only [Vr];omega⟩
  by_cases hji:(j:Int)<s.t9
  ·exact h4 j hji
  ·have:(j:Int)=s.t9:=by simp only at hj;omega
   rw [this];exact hg
 ·have c1:s.t8≤s.t9:=by simpa using c1
  exact .inl ⟨rfl,λj hj=>h4 j (by omega)⟩
def JC:bK rC:=⟨0,43,[0,1,4,7,8,9],[],aQA,aPi,λv _=>⟨aU jr (v.getD 0 .junk),gI (v.getD 1 .junk),vW (v.getD 2 .junk),aU jr (v.getD 3 .junk),gI (v.getD 4 .junk),gI (v.getD 5 .junk)⟩,afw,λs r=> {r with d:=s.d,tick:=s.tick,t7:=s.t7,t8:=s.t8},λs=>s,λ_ s=>s,[.ret,.exit 0],akD,SY,Vr⟩
abbrev agc:=JC.run
abbrev aij:=JC.jf
abbrev aJ5:=JC.q
theorem aGa (s:rC) (hI:SY s):(afw s).all (λ_=>True):=by
 refine ⟨λc1=>⟨?_,λ_=>trivial,λ_=>trivial⟩,λ_=>trivial⟩
 ·(obtain ⟨h0,h1,h2,h3,h4⟩:=hI;simp at c1;omega)
def ac7:Specs:=aW []
theorem arh:∀g S,ac7 g=some S→Valid Tryz.prog aP g S:=aS (l:=[]) trivial
theorem apm:JC.Ok:={}
theorem an6:JC.Pf (atD):=⟨aMN,λ_ _=>rfl,aHI,aGa⟩
theorem av9:bC Tryz.prog aP (AN 0) (.loop Ff) JC.lp:=bK.snd apm an6 (aQ (Γ:=ac7) (K:=dR) (L:=ay) arh aA Ff (λb hb=>by rw [show ax Ff=[] by kernel_rfl] at hb;cases hb)) (λs=>by kernel_rfl)
theorem ayZ (s:rC) (hE:akD s):∃s',SY s'∧atD (aij s) s' (agc s):=bK.fin apm an6 s hE
def ajK:List LV→T LV
 | [.xl (.pair .bool (.pair (.int .i64) (.pair (.int .i64) (.int .i64)))) d,.v (.int .i64 t)]=> .req ((d.length:Int)≤9223372036854775807) (.ok (.v (.bool (wdB d t))))
 |_=> .no
def ael:List LV→T LV:=gZ Tryz.prog Tryz.f13.params.toList ajK
theorem ayv (d:List Dm) (t:Int):letI a:=(d.length:Int);cO Tryz.prog aP (ac7) dR (λi=>if i=2 then JC.lp else ay i) Tryz.f13 [.xl jr d,.v (.int .i64 t)]=.req (aJ5 (⟨d,t,false,d,a,(0:Int)⟩:rC)) (.br (iV (aij (⟨d,t,false,d,a,(0:Int)⟩:rC)) (.ret)) (.ok (.v (.bool (agc (⟨d,t,false,d,a,(0:Int)⟩:rC)).t4))) (.ok (.v (.bool ((decide (t≥(-2000000000)))&&((decide (t≤2000000000))&&(decide (a≤100)))))))):=by kernel_rfl
theorem aEj:Valid Tryz.prog aP 13 ael:=aI Tryz.func13 rfl arh aA (L:=(λi=>if i=2 then JC.lp else ay i)) (λb hb=>by
 rw [show ax _=[Ff] by kernel_rfl] at hb
 simp only [List.mem_cons,List.not_mem_nil,or_false] at hb;subst hb;exact av9) (λargs lv h=>by
 unfold ajK at h;split at h
 ·simp only [canL,canX]
  rw [ayv];rename_i d t;obtain ⟨hl,rfl⟩:=h
  have hE:akD ⟨d,t,false,d,(d.length:Int),0⟩:=⟨rfl,Int.natCast_nonneg _,hl,rfl⟩
  refine ⟨⟨hE,rfl,rfl⟩,?_⟩;obtain ⟨_,_,q⟩:=ayZ _ hE;rcases q with ⟨q1,q2⟩ |⟨q1,q2,j,j1,j2⟩
  ·rw [q1]
   refine ⟨λh=>(by cases h),λ_=>congrArg (λz=>LV.v (.bool z)) ?_⟩
   have hr:Gi d.length (λj=>wxB (jG d j))=true:=gm.2 (λj hj=>q2 j hj)
   unfold wdB;rw [hr];rfl
  ·rw [q1]
   refine ⟨λ_=>congrArg (λz=>LV.v (.bool z)) ?_,λh=>by cases h⟩
   refine q2.trans ?_;unfold wdB
   have e:Gi d.length (λj=>wxB (jG d j))=false:=by
    cases hq:Gi d.length (λj=>wxB (jG d j)) with
    |false=>rfl
    |true=>
     have h:=gm.1 hq j j1
     exact (show true=wxB (jG d j) from h.symm).trans j2
   rw [e];rfl
 ·cases h)
def aC6:List LV→T LV
 | [.agg [.xl (.pair .str (.pair (.int .i64) (.pair (.int .i64) (.pair (.int .i64) (.pair (.pair (.int .i64) (.int .i64)) (.pair (.int .i64) (.pair (.int .i64) (.pair (.int .i64) (.pair (.int .i64) (.int .i64)))))))))) cs,.xl (.str) os,.xl (.pair .str (.pair (.int .i64) (.pair (.int .i64) (.int .i64)))) ks,.xl (.pair .str (.pair (.int .i64) (.pair (.int .i64) (.pair (.int .i64) (.pair (.int .i64) (.pair (.int .i64) (.pair (.int .i64) (.int .i64)))))))) gs,.xl (.pair .str (.int .i64)) bs],.xl (.pair (.int .i64) (.pair (.int .i64) (.pair (.int .i64) (.pair (.int .i64) (.int .i64))))) l,.xl (.pair (.int .i64) (.int .i64)) rs,.xl (.pair .bool (.pair (.int .i64) (.pair (.int .i64) (.int .i64)))) d,.v (.int .i64 t),.v (.int .i64 n)]=> .req (Qd (gG cs os ks gs bs)) (.ok (.v (.bool true)))
 |_=> .no
def aN5:List LV→T LV:=gZ Tryz.prog Tryz.f3.params.toList aC6
def arE:Specs:=aW [(11,WV),(12,ad8),(13,ael),(14,FX),(15,ad9),(16,FU),(17,adM),(18,adN),(19,CO),(20,CJ)]
theorem aH8:∀g S,arE g=some S→Valid Tryz.prog aP g S:=aS (l:=[(11,WV),(12,ad8),(13,ael),(14,FX),(15,ad9),(16,FU),(17,adM),(18,adN),(19,CO),(20,CJ)]) ⟨auY,aD6,aEj,aeX,aD7,aeU,aDL,aDM,aa5,aa4,trivial⟩
theorem aMJ (cs:List Cd) (os:List ByteArray) (ks:List Ko) (gs:List Ch) (bs:List Ba) (l:List Le) (rs:List Ra) (d:List Dm) (t n:Int):letI a:=deA cs os ks gs bs l rs d t n;letI b:=deR cs os ks gs bs l rs d t n;letI c:=deL cs os ks gs bs l rs d t n;letI e:=kX d t∧d.length≤100;letI f:=deE cs os ks gs bs l rs d t n;cO Tryz.prog aP (arE) dR ay Tryz.f3 [.agg [.xl dY cs,.xl .str os,.xl fC ks,.xl dP gs,.xl fD bs],.xl kY l,.xl yu rs,.xl jr d,.v (.int .i64 t),.v (.int .i64 n)]=.br (!(arS cs os ks gs bs l rs d)) (.ok (.v (.bool true))) (.req ((d.length:Int)≤9223372036854775807) (.br (!(wdB d t)) (.ok (.v (.bool true))) (.req e (.req (Qd (gG cs os ks gs bs)∧(l.length:Int)≤1000) (.br true (.req ((List.length a:Int)≤1000) (.br (a==a) (.req ((List.length b:Int)≤1000) (.br (b==b) (.req ((List.length c:Int)≤1000) (.br (c==c) (.br (f==f) (.req e (.req e (.req ((List.length (iK d t):Int)≤1000) (.ok (.v (.bool ((iK d t)==(iK d t)))))))) (.ok (.v (.bool false)))) (.ok (.v (.bool false))))) (.ok (.v (.bool false))))) (.ok (.v (.bool false))))) (.ok (.v (.bool false)))))))):=by kernel_rfl
theorem aRc:Valid Tryz.prog aP 3 aN5:=aI Tryz.func3 rfl aH8 aA (bf (by kernel_rfl)) (λargs lv h=>by
 unfold aC6 at h;split at h
 ·simp only [canL,canX]
  rw [aMJ];rename_i cs os ks gs bs l rs d t n;obtain ⟨hn,rfl⟩:=h;refine ⟨λc=>rfl,λc=>?_⟩
  have hl:=aNC c
  have hd40:d.length≤40:=by
   have c:=Qe c
   unfold arS at c;simp only [Bool.and_eq_true,decide_eq_true_eq] at c;omega
  refine ⟨by omega,λc2=>rfl,λc2=>?_⟩
  obtain ⟨hw,hd⟩:=aDA (Qe c2)
  have la:(deA cs os ks gs bs l rs d t n).length≤16:=by
   unfold deA;split
   ·rename_i cv
    have:=(Xo cv).gl
    rw [Hf,dH];omega
   ·simp
  have lr:(deR cs os ks gs bs l rs d t n).length≤16:=by
   unfold deR;split
   ·rename_i cv
    have:=(Xo cv).gl
    rw [AL];omega
   ·simp
  have ll:(deL cs os ks gs bs l rs d t n).length≤16:=by
   unfold deL;split
   ·rename_i cv
    have:=(Xo cv).gl
    have:=yc (gs:=gs) (l:=l) (t:=t) (n:=n) (am:=Hf gs rs (ofL cs os ks gs bs l d t) gs.length) (k:=gs.length)
    omega
   ·simp
  refine ⟨⟨hw,hd⟩,⟨hn,hl⟩,λ_=>⟨by omega,λ_=>⟨by omega,λ_=>⟨by omega,λ_=>⟨λ_=>⟨⟨hw,hd⟩,⟨hw,hd⟩,by rw [YM];omega,?_⟩,λh=>absurd h (by simp)⟩,λh=>absurd h (by simp)⟩,λh=>absurd h (by simp)⟩,λh=>absurd h (by simp)⟩,λh=>by cases h⟩
  exact congrArg (λz=>LV.v (.bool z)) (by simp)
 ·cases h)
end Go.Proofs.YtlihnbimgclogaaGreatDoor
namespace Go.Sx
open Go Go.RowKit Go.Proofs.YtlihnbimgclogaaGreatDoor
def mb:Ty→Nat
 | .int k=>k.bits / 8
 | .bool=>1
 | .str=>16
 | .sl _=>24
 | .pair a b=>mb a+mb b
def wfD:(t:Ty)→t.D→Prop
 | .int k,n=>(Lit.int k n).wf=true
 | .bool,_=>True
 | .str,s=>s.size≤maxLen
 | .sl e,l=>(List.length l≤maxLen∧List.length l*mb e≤reachBytes)∧∀d,d∈l→wfD e d
 | .pair a b,d=>wfD a d.1∧wfD b d.2
def GI (P:Program):Nat→List Field→Bool
 |_,[]=>true
 |o,f::fs=>decide (f.offset=o)&&GI P (o+P.cellsOf f.type) fs
def Ll (P:Program):Nat→TypeId→Bool
 |0,_=>false
 |m+1,t=>match P.underlying t with
  |some (.int _) |some .bool|some .string=>decide (P.cellsOf t=1)
  |some (.struct fs)=>GI P 0 fs.toList&&decide (P.cellsOf t=((fs.toList.map (·.type)).map P.cellsOf).sum)&&fs.toList.all (λf=>Ll P m f.type)
  |some (.array n e)=>decide (P.cellsOf t=((List.replicate n e).map P.cellsOf).sum)&&Ll P m e
  |some (.slice e)=>decide (P.cellsOf t=1)&&decide (1≤P.cellsOf e)&&(AV P m e).any (λty=>ty.n==P.cellsOf e&&decide (mb ty≤P.bytesOf e))&&Ll P m e
  |_=>false
variable {H : Type} {enc : TypeId × Value → H} {P : Program} {w : World} {base : Nat} {spare : Nat → Bool} {held : Bool} {β : Nat → Loc}
def Good (enc:TypeId×Value→H) (P:Program) (w:World) (base:Nat) (spare:Nat→Bool) (held:Bool) (t:TypeId) (cs:List Value):Prop:=∃n x,DataW.trod enc P w base spare held n t cs=some x∧∀k,k∈x.1.weights P t→k≤reachBytes
theorem KX {e:TypeId}{d:DataW H}{k:Nat}(hk:k∈d.weights P e):∀ {l:List (DataW H)}{i:Nat},l[i]? =some d→k∈DataW.weightsAll P e l
 | [],_,h=>by cases h
 |x::l,0,h=>by
  simp only [List.getElem?_cons_zero,Option.some.injEq] at h;subst h;simp only [DataW.weightsAll,List.mem_append];exact .inl hk
 |x::l,i+1,h=>by
  simp only [List.getElem?_cons_succ] at h;simp only [DataW.weightsAll,List.mem_append];exact .inr (KX hk h)
theorem Qr {t:TypeId}{d:DataW H}{k:Nat}(hk:k∈d.weights P t):∀ {ts:List TypeId}{l:List (DataW H)}{i:Nat},ts[i]? =some t→l[i]? =some d→k∈DataW.weightsEach P ts l
 | [],_,_,h,_=>by cases h
 |_::_,[],_,_,h=>by cases h
 |u::ts,x::l,0,h1,h2=>by
  simp only [List.getElem?_cons_zero,Option.some.injEq] at h1 h2;subst h1;subst h2;simp only [DataW.weightsEach,List.mem_append];exact .inl hk
 |u::ts,x::l,i+1,h1,h2=>by
  simp only [List.getElem?_cons_succ] at h1 h2;simp only [DataW.weightsEach,List.mem_append];exact .inr (Qr hk h1 h2)
theorem Qs:∀ {ts us:List TypeId}{ds gs:List (DataW H)},ds.length=ts.length→∀k,k∈DataW.weightsEach P ts ds→k∈DataW.weightsEach P (ts++us) (ds++gs)
 | [],_,[],_,_,_,h=>by simp [DataW.weightsEach] at h
 | [],_,_::_,_,h,_,_=>by cases h
 |_::_,_,[],_,h,_,_=>by cases h
 |t::ts,us,d::ds,gs,h,k,hk=>by
  simp only [DataW.weightsEach,List.mem_append,List.cons_append] at hk⊢;rcases hk with hk|hk
  ·exact .inl hk
  ·exact .inr (Qs (by simpa using h) k hk)
theorem HY:∀ {ts:List TypeId}{vs:List Value}{ds:List (DataW H)}{ps:List MemPlace},DataW.TrodAll enc P w base spare held ts vs ds ps→ds.length=ts.length
 | [],[],[],_,_=>rfl
 | [],_::_,_,_,h=>by cases h
 | [],[],_::_,_,h=>by cases h
 |_::_,[],_,_,h=>by cases h
 |_::_,_::_,[],_,h=>by cases h
 |_::_,_::_,_::_,_,h=>by
  obtain ⟨_,_,_,h2,_⟩:=h
  simp [HY h2]
theorem RL.append' {Z:Nat→Prop}:∀ {l1 l2:List LV}{y1 y2:List Value},RL β Z w l1 y1→RL β Z w l2 y2→RL β Z w (l1++l2) (y1++y2)
 | [],l2,y1,y2,h1,h2=>by simp only [RL] at h1;subst h1;exact h2
 |x::xs,l2,y1,y2,h1,h2=>by
  simp only [RL,List.cons_append] at h1⊢;obtain ⟨y,zs,rfl,h3,h4⟩:=h1;exact ⟨y,zs++y2,rfl,h3,RL.append' h4 h2⟩
theorem adg {Z:Nat→Prop}:∀(t:Ty) (d:t.D) (cs:List Value) (b o:Nat),RL β Z w (iq t d) cs→(∀(j:Nat) v,cs[j]? =some v→w.cell? ⟨b,o+j,none⟩=some v)→RD Z w t d b o
 | .int k,d,cs,b,o,h,hc=>by
  simp only [iq,RL,R] at h;obtain ⟨y,zs,rfl,rfl,_⟩:=h;simp only [RD];exact hc 0 _ rfl
 | .bool,d,cs,b,o,h,hc=>by
  simp only [iq,RL,R] at h;obtain ⟨y,zs,rfl,rfl,_⟩:=h;simp only [RD];exact hc 0 _ rfl
 | .str,d,cs,b,o,h,hc=>by
  simp only [iq,RL,R] at h;obtain ⟨y,zs,rfl,rfl,_⟩:=h;simp only [RD];exact hc 0 _ rfl
 | .sl e,d,cs,b,o,h,hc=>by
  simp only [iq,RL,R] at h;obtain ⟨y,zs,rfl,⟨a,cap,rfl,h2,h3⟩,_⟩:=h;simp only [RD];exact ⟨a,cap,hc 0 _ rfl,h2,h3⟩
 | .pair p q,d,cs,b,o,h,hc=>by
  simp only [iq] at h
  have hl:=RL.length h
  simp only [List.length_append,dM] at hl
  have h1:=h.take_drop 0 p.n
  have h2:RL β Z w ((iq p d.1++iq q d.2).drop p.n) (cs.drop p.n):=by
   refine RL.dO (by simp [hl,dM]) λi z hz=>?_
   rw [List.getElem?_drop] at hz⊢;exact RL.get _ _ h hz
  have t1:((iq p d.1++iq q d.2).drop 0).take p.n=iq p d.1:=by
   rw [List.drop_zero,List.take_append_of_le_length (by rw [dM];exact Nat.le_refl _),List.take_of_length_le (by rw [dM];exact Nat.le_refl _)]
  have t2:(iq p d.1++iq q d.2).drop p.n=iq q d.2:=by
   rw [List.drop_append_of_le_length (by rw [dM];exact Nat.le_refl _),List.drop_eq_nil_of_le (by rw [dM];exact Nat.le_refl _),List.nil_append]
  rw [t1,List.drop_zero] at h1;rw [t2] at h2;simp only [RD];refine ⟨adg p d.1 _ b o h1 (λj v hv=>?_),adg q d.2 _ b (o+p.n) h2 (λj v hv=>?_)⟩
  ·rw [List.getElem?_take] at hv
   split at hv
   ·exact hc j v hv
   ·cases hv
  ·rw [List.getElem?_drop] at hv
   have:=hc (p.n+j) v hv
   rwa [←Nat.add_assoc] at this
theorem LY {Z:Nat→Prop}{r:TypeId→Option Ty}{sz:TypeId→Nat}{Gd:TypeId→List Value→Prop}:∀(ts:List TypeId) (ty:Ty) (cs:List Value),aa6 r ts=some ty→
  (∀t∈ts,∀ty c,r t=some ty→Gd t c→∃d:ty.D,RL β Z w (iq ty d) c∧wfD ty d)→cs.length=(ts.map sz).sum→(∀pre t post,ts=pre++t::post→Gd t ((cs.drop (pre.map sz).sum).take (sz t)))→∃d:ty.D,RL β Z w (iq ty d) cs∧wfD ty d
 | [],ty,cs,h,_,_,_=>by simp [aa6] at h
 | [t],ty,cs,h,ih,hl,hg=>by
  simp only [aa6] at h
  have:=ih t (by simp) ty _ h (hg [] t [] rfl)
  have e:(cs.drop (List.map sz []).sum).take (sz t)=cs:=by
   simp at hl⊢
   exact List.take_of_length_le (by omega)
  rw [e] at this;exact this
 | t::u::ts,ty,cs,h,ih,hl,hg=>by
  simp only [aa6] at h;split at h
  ·rename_i a b ha hb
   simp only [Option.some.injEq] at h;subst h;obtain ⟨d1,a1,a2⟩:=ih t (by simp) a _ ha (hg [] t (u::ts) rfl)
   obtain ⟨d2,b1,b2⟩:=LY (sz:=sz) (Gd:=Gd) (u::ts) b (cs.drop (sz t)) hb (λt' ht=>ih t' (by simp at ht⊢;exact .inr ht)) (by simp at hl⊢;omega) (λpre t' post e=>by
    have:=hg (t::pre) t' post (by rw [e];rfl)
    rw [List.drop_drop]
    simpa using this)
   refine ⟨(d1,d2),?_,by simp only [wfD];exact ⟨a2,b2⟩⟩
   have:=RL.append' a1 b1
   simp only [iq]
   simpa using this
  ·cases h
theorem Uy:∀(fs:List Field) (o:Nat),GI P o fs=true→∀pre f post,fs=pre++f::post→f.offset=o+((pre.map (·.type)).map P.cellsOf).sum
 | [],o,_,pre,f,post,e=>by cases pre<;>cases e
 |g::fs,o,h,[],f,post,e=>by
  simp only [GI,Bool.and_eq_true,decide_eq_true_eq] at h;simp only [List.nil_append,List.cons.injEq] at e;rw [←e.1];simpa using h.1
 |g::fs,o,h,p::pre,f,post,e=>by
  simp only [GI,Bool.and_eq_true,decide_eq_true_eq] at h;simp only [List.cons_append,List.cons.injEq] at e
  have:=Uy fs _ h.2 pre f post e.2
  rw [this,←e.1];simp;omega
theorem Kv {Z:Nat→Prop}(hZ:∀b,b<w.heap.size→Z b):∀(m:Nat) (t:TypeId) (ty:Ty),Ll P m t=true→AV P m t=some ty→∀cs,Good enc P w base spare held t cs→∃d:ty.D,RL β Z w (iq ty d) cs∧wfD ty d
 |0,t,_,h,_,_,_=>by cases h
 | m + 1,t,ty,h,hty,cs,⟨n,x,hx,hwt⟩=>by
  simp only [Ll] at h;simp only [AV] at hty;split at h
  ·rename_i k hu
   obtain ⟨z,rfl,_,hw⟩:=DataW.trod_int hu hx;simp only [hu,Option.some.injEq] at hty;subst hty;exact ⟨z,by simp [iq,RL,R],hw⟩
  ·rename_i hu
   obtain ⟨z,rfl,_⟩:=DataW.trod_bool hu hx;simp only [hu,Option.some.injEq] at hty;subst hty;exact ⟨z,by simp [iq,RL,R],trivial⟩
  ·rename_i hu
   obtain ⟨z,rfl,_,hs⟩:=DataW.trod_string hu hx;simp only [hu,Option.some.injEq] at hty;subst hty;exact ⟨z,by simp [iq,RL,R],hs⟩
  ·rename_i fs hu
   simp only [Bool.and_eq_true,decide_eq_true_eq,List.all_eq_true] at h;obtain ⟨⟨h1,h2⟩,h3⟩:=h;obtain ⟨xs,n',_,rfl,hl,hxl,hf⟩:=DataW.trod_struct hu hx;simp only [DataW.weights,hu] at hwt;simp only [hu] at hty;refine LY (Gd:=Good enc P w base spare held) (sz:=P.cellsOf) (fs.toList.map (·.type)) ty cs hty (λt' ht ty' c hty' hc=>?_) (by rw [hl,h2]) (λpre t' post e=>?_)
   ·obtain ⟨f,hf1,rfl⟩:=List.mem_map.1 ht
    exact Kv hZ m f.type ty' (h3 f hf1) hty' c hc
   ·obtain ⟨fpre,frest,e1,e2,e3⟩:=List.map_eq_append_iff.1 e
    obtain ⟨f,fpost,rfl,e4,e5⟩:=List.map_eq_cons_iff.1 e3
    have ho:=Uy fs.toList 0 h1 fpre f fpost e1
    have hi:fs[fpre.length]? =some f:=by
     have:fs.toList[fpre.length]? =some f:=by rw [e1];simp
     simpa using this
    have hg:=hf _ f hi
    have hlt:fpre.length<fs.size:=(Array.getElem?_eq_some_iff.1 hi).1
    rw [ho,Nat.zero_add] at hg;refine ⟨n',xs[fpre.length]'(by omega),?_,λk hk=>?_⟩
    ·rw [←e2,←e4,hg,List.getElem?_eq_getElem]
    ·rw [←e4] at hk
     exact hwt k (Qr hk (i:=fpre.length) (by rw [e1];simp) (by rw [List.getElem?_map,List.getElem?_eq_getElem (by omega)];rfl))
  ·rename_i n0 e hu
   simp only [Bool.and_eq_true,decide_eq_true_eq] at h;obtain ⟨h2,h3⟩:=h;obtain ⟨xs,n',_,rfl,hl,hxl,hf⟩:=DataW.trod_array hu hx;simp only [DataW.weights,hu] at hwt;simp only [hu] at hty;refine LY (Gd:=Good enc P w base spare held) (sz:=P.cellsOf) (List.replicate n0 e) ty cs hty (λt' ht ty' c hty' hc=>?_) (by rw [hl,h2]) (λpre t' post e'=>?_)
   ·rw [(List.mem_replicate.1 ht).2] at hc hty'
    exact Kv hZ m e ty' h3 hty' c hc
   ·obtain ⟨c1,c2,c3⟩:=List.replicate_eq_append_iff.1 e'
    have ht':t'=e:=by
     have:t'∈List.replicate n0 e:=by rw [e'];simp
     exact (List.mem_replicate.1 this).2
    have hlen:pre.length<n0:=by
     have:=congrArg List.length e'
     simp at this;omega
    have hg:=hf pre.length hlen
    refine ⟨n',xs[pre.length]'(by omega),?_,λk hk=>?_⟩
    ·have hs:(pre.map P.cellsOf).sum=pre.length*P.cellsOf e:=by rw [c2];simp
     rw [hs,ht',hg,List.getElem?_eq_getElem]
    ·rw [ht'] at hk
     exact hwt k (KX hk (i:=pre.length) (by rw [List.getElem?_map,List.getElem?_eq_getElem (by omega)];rfl))
  ·rename_i e hu
   simp only [Bool.and_eq_true,decide_eq_true_eq] at h;obtain ⟨⟨⟨h1,h2⟩,h4⟩,h3⟩:=h;simp only [hu,Option.map_eq_some_iff] at hty;obtain ⟨te,hte,rfl⟩:=hty;rw [hte] at h4;simp only [Option.any_some,Bool.and_eq_true,decide_eq_true_eq,beq_iff_eq] at h4;obtain ⟨h4,h5⟩:=h4;rcases DataW.trod_slice hu hx with ⟨rfl,_⟩ |⟨a,len,cap,elems,rest,n',_,rfl,rfl,hb,hlc,hm,hlen,hel,_,_⟩
   ·refine ⟨([]:List te.D),?_,⟨Nat.zero_le _,by simp⟩,λd hd=>by cases hd⟩
    simp only [iq,RL,R];exact ⟨_,[],rfl,⟨none,0,rfl,Nat.le_refl _,λh=>absurd h (Nat.lt_irrefl 0)⟩,rfl⟩
   ·simp only [DataW.weights,hu] at hwt
    have hroom:=hwt _ (List.mem_cons_self ..)
    have each:∀i,∃d:te.D,i<len→∃c,w.cells? base (a.add (i*P.cellsOf e)) (P.cellsOf e)=some c∧RL β Z w (iq te d) c∧wfD te d:=λi=>by
     by_cases hi:i<len
     ·have he:=hel i hi
      rw [List.getElem?_eq_getElem (by omega)] at he
      obtain ⟨c,hc,ht⟩:=Option.bind_eq_some_iff.1 he
      obtain ⟨d,l1,l2⟩:=Kv hZ m e te h3 hte c ⟨n',_,ht,λk hk=>hwt k (by
       simp only [List.mem_cons,List.mem_append];exact .inr (.inl (KX hk (i:=i) (by rw [List.getElem?_map,List.getElem?_eq_getElem (by omega)];rfl))))⟩
      exact ⟨d,λ_=>⟨c,hc,l1,l2⟩⟩
     ·exact ⟨te.dflt,λh=>absurd h hi⟩
    have ⟨g,hg⟩:=Classical.axiomOfChoice each
    have hlg:List.length ((List.range len).map g)=len:=by simp
    refine ⟨(List.range len).map g,?_,⟨by rw [hlg];omega,by rw [hlg];exact Nat.le_trans (Nat.mul_le_mul (by simp;omega) h5) hroom⟩,λd hd=>?_⟩
    ·simp only [iq,RL,R]
     refine ⟨_,[],rfl,⟨some a,cap,by rw [hlg],by rw [hlg];omega,λhn=>?_⟩,rfl⟩
     rw [hlg] at hn;obtain ⟨c0,hc0,hr0,_⟩:=hg 0 hn;obtain ⟨_,hcl0,hat0⟩:=World.cells?_some hc0
     have hcell0:∃z,w.cell? ((a.add (0*P.cellsOf e)).add 0)=some z:=by
      rw [hat0 0 (by omega)];exact ⟨_,List.getElem?_eq_getElem (by omega)⟩
     obtain ⟨z0,hz0⟩:=hcell0;obtain ⟨b,off,spot⟩:=a
     have hsp:spot=none:=by
      cases spot with
      |none=>rfl
      |some q=>
       unfold World.cell? at hz0;split at hz0
       ·simp [Addr.add] at hz0
       ·cases hz0
     subst hsp
     have hbl:b<w.heap.size:=by
      simp only [addr_add] at hz0;unfold World.cell? at hz0;split at hz0
      ·rename_i hh;exact (Array.getElem?_eq_some_iff.1 hh).1
      ·cases hz0
     refine ⟨b,off,rfl,hZ b hbl,λi d hd=>?_⟩
     have hi:i<len:=by
      have:=(List.getElem?_eq_some_iff.1 hd).1
      rwa [hlg] at this
     have hdd:d=g i:=by
      rw [List.getElem?_map,List.getElem?_range hi] at hd
      simpa using hd.symm
     subst hdd;obtain ⟨c,hc,hr,_⟩:=hg i hi;obtain ⟨_,hcl,hat⟩:=World.cells?_some hc;refine adg te (g i) c b _ hr (λj v hv=>?_)
     have hj:j<P.cellsOf e:=by
      have:=(List.getElem?_eq_some_iff.1 hv).1
      omega
     have:=hat j hj
     rw [hv] at this;rw [h4]
     simpa [addr_add,Nat.add_assoc] using this
    ·obtain ⟨i,hi,rfl⟩:=List.mem_map.1 hd
     obtain ⟨_,_,_,hw⟩:=hg i (by simpa using hi)
     exact hw
  ·cases h
def shp (P:Program) (m:Nat) (t:TypeId) (l:List LV):Prop:=∃(ty:Ty) (d:ty.D),AV P m t=some ty∧l=iq ty d∧wfD ty d
theorem Gn {P:Program}{m:Nat}{t:TypeId}{l:List LV}{ty:Ty}(ht:AV P m t=some ty) (h:shp P m t l):∃d:ty.D,l=iq ty d∧wfD ty d:=by
 obtain ⟨ty',d,h1,h2,h3⟩:=h;obtain rfl:=Option.some.inj (ht.symm.trans h1);exact ⟨d,h2,h3⟩
theorem aoy {Z:Nat→Prop}(hZ:∀b,b<w.heap.size→Z b) (m:Nat) (t:TypeId) (hs:Ll P m t=true) (ht:(AV P m t).isSome=true) (cs:List Value) (hg:Good enc P w base spare held t cs):∃l,RL β Z w l cs∧dQ 0 l∧shp P m t l:=by
 obtain ⟨ty,hty⟩:=Option.isSome_iff_exists.1 ht;obtain ⟨d,h1,h2⟩:=Kv (β:=β) hZ m t ty hs hty cs hg;exact ⟨iq ty d,h1,qF 0 ty d,ty,d,hty,rfl,h2⟩
end Go.Sx
namespace Go.Sx
open Go Go.RowKit Go.Proofs.YtlihnbimgclogaaGreatDoor Go.ChangeShapes Go.WideShapes
variable {H : Type} {enc : TypeId × Value → H} {P : Program} {β : Nat → Loc} {Z : Nat → Prop}
theorem A8 (hl:laidOutB P=true) {W W':World}(hb:Below W.heap.size W W'):∀(ts:List TypeId) (vs:List Value) (ds:List (DataW H)) (ps:List MemPlace),ts.all (λt=>P.readableRec t&&decide (t<P.types.size))=true→
  DataW.TrodAll enc P W 0 (λ_=>true) true ts vs ds ps→(∀x∈ps,x.block<W.heap.size)→DataW.TrodAll enc P W' 0 (λb=>decide (b<W.heap.size)) true ts vs ds ps
 | [],vs,ds,ps,_,h,_=>by
  cases vs<;>cases ds<;>first|exact h|exact h.elim
 | t::ts,vs,ds,ps,hr,h,hlt=>by
  cases vs with
  |nil=>cases ds<;>exact h.elim
  | cons v vs=>
   cases ds with
   |nil=>exact h.elim
   |cons d ds=>
    obtain ⟨p,q,h1,h2,rfl⟩:=h;simp only [List.all_cons,Bool.and_eq_true,decide_eq_true_eq] at hr;refine ⟨p,q,Below.trod hl hr.1.1 hr.1.2 h1 hb (λx hx=>hlt x (by simp [hx])),?_,rfl⟩
    exact A8 hl hb ts vs ds q (by simpa using hr.2) h2 (λx hx=>hlt x (by simp [hx]))
theorem aqr {fn:Func}{s:ChangeSpec}{tb:TypeId}{apart:Bool}{W W':World}{args:Array Value}{ds gs:List (DataW H)}{before:List MemPlace}
  (hl:laidOutB P=true) (hr:fn.params.toList.all (λt=>P.readableRec t&&decide (t<P.types.size))=true) (hres:fn.resultTypes=#[tb]) (hb:P.underlying tb=some .bool) (hvars:s.vars=[])
  (hfn:(s.fn H ds).results=[.lit (.bool true)]∧(s.fn H ds).args=ds∧(s.fn H ds).vars=[])
  (hW:DataW.Whole enc P fn.params.toList s.vars apart W args.toList ds gs before) (hB:Below W.heap.size W W'):s.post enc P fn apart true false false W args (.bool true) W':=by
 have hW':=hW
 obtain ⟨p,q,hA,hV,rfl,hfz,hnd⟩:=hW
 have hg:gs=[]∧q=[]:=by
  rw [hvars] at hV;cases gs with
  |nil=>exact ⟨rfl,hV⟩
  |cons g r=>exact hV.elim
 obtain ⟨rfl,rfl⟩:=hg
 have hlt:∀x∈p,x.block<W.heap.size:=λx hx=>hW'.lt x (by simp [hx])
 refine ⟨ds,[],p++[],[],p,[],hW',?_,?_,?_,hB.frame _,λh=>by cases h⟩
 ·rw [List.append_nil,hfn.1,hres]
  exact trodAll_mk1 (shut_bool hb true)
 ·rw [List.append_nil,hfn.2.1]
  exact A8 hl hB _ _ _ _ hr hA hlt
 ·rw [List.append_nil,hfn.2.2,hvars]
  rfl
def pLV (P:Program) (t:TypeId) (l:List LV):LV:=
 match P.underlying t with
 |some (.struct _)=>vC l
 |some (.array _ _)=> .junk
 |_=>match l with
  | [x]=>x
  |_=> .junk
theorem cell_of {w:World}{b0:Nat}{r:Reach}{m:Nat}{t:TypeId}(hs:Ll P m t=true) {v:Value}(hv:Value.okWide P w r b0 t v) (h1:∀fs,P.underlying t=some (.struct fs)→False) (h2:∀n e,P.underlying t=some (.array n e)→False):v.cells.toList=[v]:=by
 cases m with
 |zero=>cases hs
 | succ m=>
  simp only [Ll] at hs;split at hs
  ·rename_i k hu
   obtain ⟨n,rfl⟩:=okWide_int hu hv;rfl
  ·rename_i hu
   obtain ⟨n,rfl⟩:=okWide_bool hu hv;rfl
  ·rename_i hu
   obtain ⟨n,rfl⟩:=okWide_string hu hv;rfl
  ·rename_i fs hu
   exact (h1 fs hu).elim
  ·rename_i n e hu
   exact (h2 n e hu).elim
  ·rename_i e hu
   obtain ⟨a,l,c,rfl⟩:=okWide_slice hu hv;rfl
  ·cases hs
theorem abS {w:World}{base b0:Nat}{spare:Nat→Bool}{held:Bool}{r:Reach}(hZ:∀b,b<w.heap.size→Z b) {m:Nat}{t:TypeId}(hs:Ll P m t=true) (ht:(AV P m t).isSome=true) {v:Value}{d:DataW H}{p:List MemPlace}(hv:Value.okWide P w r b0 t v) (h:DataW.Trod enc P w base spare held t v d p) (hwt:∀k,k∈d.weights P t→k≤reachBytes):
  ∃l,okV 0 (pLV P t l)∧R β Z w (pLV P t l) v∧shp P m t l:=by
 obtain ⟨fuel,hf⟩:=h;obtain ⟨l,h1,h2,h3⟩:=aoy (β:=β) hZ m t hs ht v.cells.toList ⟨fuel,_,hf,hwt⟩;refine ⟨l,?_,?_,h3⟩
 ·unfold pLV
  split
  ·exact qL h2
  ·trivial
  ·split
   ·exact h2.1
   ·trivial
 ·unfold pLV
  split
  ·rename_i fs hu
   obtain ⟨cs,rfl,_⟩:=okWide_struct hu hv;exact vz h1
  ·simp only [R]
  ·split
   ·rename_i x
    simp only [RL] at h1;obtain ⟨y,zs,e1,e2,rfl⟩:=h1
    have hc:=cell_of hs hv (by assumption) (by assumption)
    have:v=y:=by rw [hc] at e1;simpa using e1
    rw [this];exact e2
   ·simp only [R]
def abP (P:Program):List TypeId→List (List LV)→List LV
 |t::ts,l::ls=>pLV P t l::abP P ts ls
 |_,_=>[]
def Ls (P:Program) (m:Nat):List TypeId→List (List LV)→Prop
 | [],ls=>ls=[]
 |t::ts,ls=>∃l r,ls=l::r∧shp P m t l∧Ls P m ts r
theorem H9 {w:World}{base b0:Nat}{spare:Nat→Bool}{held:Bool}{r:Reach}(hZ:∀b,b<w.heap.size→Z b) {m:Nat}:∀(ts:List TypeId) (vs:List Value) (ds:List (DataW H)) (ps:List MemPlace),ts.all (λt=>Ll P m t&&(AV P m t).isSome)=true→
  (∀(j:Nat) t v,ts[j]? =some t→vs[j]? =some v→Value.okWide P w r b0 t v)→DataW.TrodAll enc P w base spare held ts vs ds ps→(∀k,k∈DataW.weightsEach P ts ds→k≤reachBytes)→∃ls,dQ 0 (abP P ts ls)∧RL β Z w (abP P ts ls) vs∧Ls P m ts ls
 | [],vs,ds,ps,_,_,h,_=>by
  cases vs with
  |nil=>exact ⟨[],trivial,by simp [abP,RL],rfl⟩
  |cons _ _=>cases ds<;>exact h.elim
 | t::ts,vs,ds,ps,hs,hv,h,hwt=>by
  cases vs with
  |nil=>cases ds<;>exact h.elim
  | cons v vs=>
   cases ds with
   |nil=>exact h.elim
   |cons d ds=>
    obtain ⟨p,q,h1,h2,rfl⟩:=h;simp only [List.all_cons,Bool.and_eq_true] at hs;simp only [DataW.weightsEach,List.mem_append] at hwt;obtain ⟨l,a1,a2,a3⟩:=abS (β:=β) hZ hs.1.1 hs.1.2 (hv 0 t v rfl rfl) h1 (λk hk=>hwt k (.inl hk))
    obtain ⟨ls,b1,b2,b3⟩:=H9 hZ ts vs ds q hs.2 (λj t' v' e1 e2=>hv (j+1) t' v' (by simpa using e1) (by simpa using e2)) h2 (λk hk=>hwt k (.inr hk))
    exact ⟨l::ls,⟨a1,b1⟩,⟨v,vs,rfl,a2,b2⟩,l,ls,rfl,a3,b3⟩
theorem V6 {G:dI}{f:FuncId}{fn:Func}{S:List LV→T LV}{s:ChangeSpec}{tb:TypeId}{apart:Bool}{m:Nat}{W:World}{base:Nat}{args:Array Value}{ds gs:List (DataW H)}{before:List MemPlace}
  (hv:Valid P G f S) (hl:laidOutB P=true) (hr:fn.params.toList.all (λt=>P.readableRec t&&decide (t<P.types.size))=true) (hres:fn.resultTypes=#[tb]) (hb:P.underlying tb=some .bool) (hvars:s.vars=[])
  (hfn:(s.fn H ds).results=[.lit (.bool true)]∧(s.fn H ds).args=ds∧(s.fn H ds).vars=[]) (hs:fn.params.toList.all (λt=>Ll P m t&&(AV P m t).isSome)=true)
  (hS:∀ls,Ls P m fn.params.toList ls→(S (abP P fn.params.toList ls)).all (λx=>x=.v (.bool true)))
  (hg:aaD G (λb=>b<W.heap.size) W)
  (hval:∀(j:Nat) t v,fn.params[j]? =some t→args[j]? =some v→Value.okWide P W .any base t v)
  (hW:DataW.Whole enc P fn.params.toList s.vars apart W args.toList ds gs before) {us:List TypeId} (hz:(DataW.weightsEach P (fn.params.toList++us) (ds++gs)).all (·≤reachBytes)=true):
  Calls P f args W λe W'=>∃v,e=.returned v∧s.post enc P fn apart true false false W args v W':=by
 have hA:∃p,DataW.TrodAll enc P W 0 (λ_=>true) true fn.params.toList args.toList ds p:=by
  obtain ⟨p,q,hA,_⟩:=hW;exact ⟨p,hA⟩
 obtain ⟨p,hA⟩:=hA;obtain ⟨ls,h1,h2,h3⟩:=H9 (β:=β0) (Z:=λb=>b<W.heap.size) (λ_ h=>h) fn.params.toList args.toList ds p hs (λj t v e1 e2=>hval j t v (by simpa using e1) (by simpa using e2)) hA (λk hk=>of_decide_eq_true (List.all_eq_true.1 hz k (Qs (HY hA) k hk)))
 refine (hv _ args W _ _ (λ_ h=>h) hg h1 h2 (hS ls h3)).mono λe W' ⟨hB,v,he,_,hR⟩=>⟨v,he,?_⟩
 simp only [R] at hR;rw [hR];exact aqr hl hr hres hb hvars hfn hW hB
end Go.Sx
namespace Go.Sx
open Go Go.RowKit Go.Proofs.YtlihnbimgclogaaGreatDoor
variable {H : Type} {enc : TypeId × Value → H} {P : Program} {w : World} {base : Nat} {spare : Nat → Bool} {held : Bool}
def Iz {H:Type}:Nat→DataW H→List Value
 |0,_=>[]
 |_+1,.lit (.int k n)=>[.int k n]
 |_+1,.lit (.bool b)=>[.bool b]
 |m+1,.agg l=>l.flatMap (Iz m)
 |_,_=>[]
def LP (P:Program):Nat→TypeId→Bool
 |0,_=>false
 |m+1,t=>match P.underlying t with
  |some (.int _) |some .bool=>true
  |some (.struct fs)=>GI P 0 fs.toList&&decide (P.cellsOf t=((fs.toList.map (·.type)).map P.cellsOf).sum)&&fs.toList.all (λf=>LP P m f.type)
  |some (.array n e)=>decide (P.cellsOf t=((List.replicate n e).map P.cellsOf).sum)&&LP P m e
  |_=>false
theorem NJ {sz:TypeId→Nat}{g:DataW H→List Value}{Tr:TypeId→List Value→DataW H→Prop}:∀(ts:List TypeId) (cs:List Value) (ds:List (DataW H)),
  (∀t∈ts,∀c d,Tr t c d→g d=c)→ds.length=ts.length→cs.length=(ts.map sz).sum→(∀pre t post,ts=pre++t::post→∃d,ds[pre.length]? =some d∧Tr t ((cs.drop (pre.map sz).sum).take (sz t)) d)→ds.flatMap g=cs
 | [],cs,ds,_,h0,hl,_=>by
  have:cs=[]:=by simpa using hl
  have h2:ds=[]:=by simpa using h0
  rw [this,h2];rfl
 |t::ts,cs,[],_,h0,_,_=>by simp at h0
 | t::ts,cs,d::ds,ih,h0,hl,hg=>by
  obtain ⟨d',e1,e2⟩:=hg [] t ts rfl
  simp at e1
  subst e1
  have r:=NJ (sz:=sz) (g:=g) (Tr:=Tr) ts (cs.drop (sz t)) ds (λt' ht=>ih t' (by simp [ht])) (by simpa using h0) (by simp at hl⊢;omega) (λpre t' post e=>by
   obtain ⟨q,q1,q2⟩:=hg (t::pre) t' post (by rw [e];rfl)
   refine ⟨q,by simpa using q1,?_⟩
   rw [List.drop_drop]
   simpa using q2)
  rw [List.flatMap_cons,r,ih t (by simp) _ _ e2]
  simp
theorem Wx:∀(m:Nat) (t:TypeId),LP P m t=true→∀(n:Nat) (cs:List Value) (x:DataW H×List MemPlace),DataW.trod enc P w base spare held n t cs=some x→Iz m x.1=cs
 |0,t,h,_,_,_,_=>by cases h
 | m +1,t,h,n,cs,x,hx=>by
  simp only [LP] at h;split at h
  ·rename_i k hu
   obtain ⟨z,rfl,rfl,hw⟩:=DataW.trod_int hu hx;rfl
  ·rename_i hu
   obtain ⟨z,rfl,rfl⟩:=DataW.trod_bool hu hx;rfl
  ·rename_i fs hu
   simp only [Bool.and_eq_true,decide_eq_true_eq,List.all_eq_true] at h;obtain ⟨⟨h1,h2⟩,h3⟩:=h;obtain ⟨xs,n',_,rfl,hl,hxl,hf⟩:=DataW.trod_struct hu hx;simp only [Iz];refine NJ (sz:=P.cellsOf) (Tr:=λt c d=>∃y,DataW.trod enc P w base spare held n' t c=some y∧y.1=d) (fs.toList.map (·.type)) cs _ (λt' ht c d hc=>?_) (by simp [hxl]) (by rw [hl,h2]) (λpre t' post e=>?_)
   ·obtain ⟨f,hf1,rfl⟩:=List.mem_map.1 ht
    obtain ⟨y,hy,rfl⟩:=hc;exact Wx m f.type (h3 f hf1) n' c y hy
   ·obtain ⟨fpre,frest,e1,e2,e3⟩:=List.map_eq_append_iff.1 e
    obtain ⟨f,fpost,rfl,e4,e5⟩:=List.map_eq_cons_iff.1 e3
    have ho:=Uy fs.toList 0 h1 fpre f fpost e1
    have hi:fs[fpre.length]? =some f:=by
     have:fs.toList[fpre.length]? =some f:=by rw [e1];simp
     simpa using this
    have hg:=hf _ f hi
    have hlt:fpre.length<fs.size:=(Array.getElem?_eq_some_iff.1 hi).1
    rw [ho,Nat.zero_add] at hg;refine ⟨(xs[fpre.length]'(by omega)).1,?_,xs[fpre.length]'(by omega),?_,rfl⟩
    ·rw [←e2,List.length_map,List.getElem?_map,List.getElem?_eq_getElem (by omega)];rfl
    ·rw [←e2,←e4,hg,List.getElem?_eq_getElem]
  ·rename_i n0 e hu
   simp only [Bool.and_eq_true,decide_eq_true_eq] at h;obtain ⟨h2,h3⟩:=h;obtain ⟨xs,n',_,rfl,hl,hxl,hf⟩:=DataW.trod_array hu hx;simp only [Iz];refine NJ (sz:=P.cellsOf) (Tr:=λt c d=>∃y,DataW.trod enc P w base spare held n' t c=some y∧y.1=d) (List.replicate n0 e) cs _ (λt' ht c d hc=>?_) (by simp [hxl]) (by rw [hl,h2]) (λpre t' post e'=>?_)
   ·rw [(List.mem_replicate.1 ht).2] at hc
    obtain ⟨y,hy,rfl⟩:=hc;exact Wx m e h3 n' c y hy
   ·obtain ⟨c1,c2,c3⟩:=List.replicate_eq_append_iff.1 e'
    have ht':t'=e:=by
     have:t'∈List.replicate n0 e:=by rw [e'];simp
     exact (List.mem_replicate.1 this).2
    have hlen:pre.length<n0:=by
     have:=congrArg List.length e'
     simp at this;omega
    have hg:=hf pre.length hlen
    have hs:(pre.map P.cellsOf).sum=pre.length*P.cellsOf e:=by rw [c2];simp
    refine ⟨(xs[pre.length]'(by omega)).1,?_,xs[pre.length]'(by omega),?_,rfl⟩
    ·rw [List.getElem?_map,List.getElem?_eq_getElem (by omega)];rfl
    ·rw [hs,ht',hg,List.getElem?_eq_getElem]
  ·cases h
theorem Ql {W:World}{name:String}{d:DataW Unit}{rest:List (String×DataW Unit)}{g:Nat}{t:TypeId}{m:Nat}(hg:P.globalNamed name=some g) (hty:(P.globals[g]?).map (·.type)=some t) (hp:LP P m t=true)
  (h:laidMet P ((name,d)::rest) W):(∀i,W.cell? ⟨g,i,none⟩=(Iz m d)[i]?)∧((Iz m d)≠ []→g<W.heap.size):=by
 obtain ⟨ps,⟨g',t',cs,fuel,p,q,hg',ht',hvar,hd,_,_⟩,_⟩:=h;obtain rfl:=Option.some.inj (hg.symm.trans hg');obtain rfl:=Option.some.inj (hty.symm.trans ht')
 have hf:=Wx m t hp fuel _ _ hd
 simp only at hf
 have hcell:∀i,W.cell? ⟨g,i,none⟩=(Iz m d)[i]? :=λi=>by
  rw [World.var?_cell hg hvar i,hf];simp
 refine ⟨hcell,λhne=>?_⟩
 have h0:=hcell 0
 cases hh:(Iz m d)[0]? with
 |none=>exact absurd (List.getElem?_eq_none_iff.1 hh) (by have:=List.length_pos_iff.2 hne;omega)
 |some z=>
  rw [hh] at h0;unfold World.cell? at h0;split at h0
  ·rename_i hb;exact (Array.getElem?_eq_some_iff.1 hb).1
  ·cases h0
end Go.Sx
namespace Go.Proofs.YtlihnbimgclogaaGreatDoor
open Go.Sx Go.ChangeShapes Go.WideShapes Go.ChangeAt Go.RowKit
theorem own:ownKnob Tryz.prog.godebug=none:=by kernel_rfl
theorem laidOut:laidOutB Tryz.prog=true:=by kernel_rfl
theorem aRw:Tryz.prog.globalNamed "chargepark/ramp.happens"=some 0:=by kernel_rfl
theorem aNA:(Tryz.prog.globals[0]?).map (·.type)=some 130:=by kernel_rfl
theorem arn {W:World}(h:laidMetH Tryz.prog [("chargepark/ramp.happens",Rows.laid_chargepark_ramp_happens)] W):aaD aP (λb=>b<W.heap.size) W:=by
 obtain ⟨h1,h2⟩:=Ql (m:=4) aRw aNA (by kernel_rfl) (show laidMet Tryz.prog [("chargepark/ramp.happens",Rows.laid_chargepark_ramp_happens)] W from h)
 intro g n f hg;unfold aP at hg;split at hg
 ·simp only [Option.some.injEq,Prod.mk.injEq] at hg
  obtain ⟨rfl,rfl⟩:=hg;refine ⟨h2 (by decide),λj hj=>?_⟩
  rw [h1 j]
  match j,hj with
  |0,_=>rfl
  |1,_=>rfl
  |2,_=>rfl
  |3,_=>rfl
  |4,_=>rfl
  |5,_=>rfl
  |6,_=>rfl
  |7,_=>rfl
 ·cases hg
theorem Ri {H:Type}{enc:TypeId×Value→H}{P:Program}{w:World}{base:Nat}{spare:Nat→Bool}{held:Bool}:∀ {ts:List TypeId}{vs:List Value}{ds:List (DataW H)}{ps:List MemPlace},DataW.TrodAll enc P w base spare held ts vs ds ps→ds.length=ts.length
 | [],[],[],_,_=>rfl
 | [],_::_,_,_,h=>by cases h
 | [],[],_::_,_,h=>by cases h
 |_::_,[],_,_,h=>by cases h
 |_::_,_::_,[],_,h=>by cases h
 |_::_,_::_,_::_,_,h=>by
  obtain ⟨_,_,_,h2,_⟩:=h
  simp [Ri h2]
def laidWorld (os:Os):World:=
 { World.holding Tryz.prog os ⟨#[],#[],[]⟩ with heap:=(World.holding Tryz.prog os ⟨#[],#[],[]⟩).heap.modify 0 fun
   | .cells _ t frozen=> .cells #[.int .i64 1,.int .i64 1,.int .i64 1,.int .i64 0,.int .i64 2,.int .i64 2,.int .i64 3,.int .i64 3] t frozen
   |o=>o}
theorem auN {cs:List Cd}{os:List ByteArray}{ks:List Ko}{gs:List Ch}{bs:List Ba}(h1:wfD (.sl dY) cs) (h2:wfD (.sl .str) os) (h3:wfD (.sl fC) ks) (h4:wfD (.sl dP) gs) (h5:wfD (.sl fD) bs):Qd (gG cs os ks gs bs):=by
 intro w hw
 have key:∀n:Nat,n≤maxLen→(n:Int)≤9223372036854775807:=λn h=>by
  unfold maxLen at h;omega
 refine key _ ?_;unfold gG at hw;simp only [List.mem_append,List.mem_map] at hw;rcases hw with (((⟨x,hx,rfl⟩ |hx) |⟨x,hx,rfl⟩) |⟨x,hx,rfl⟩) |⟨x,hx,rfl⟩
 ·exact (h1.2 x hx).1
 ·exact h2.2 w hx
 ·exact (h3.2 x hx).1
 ·exact (h4.2 x hx).1
 ·exact (h5.2 x hx).1
namespace ControlMatchesReference
set_option maxRecDepth 100000 in
theorem opened (ls:List (List LV)) (h:Ls Tryz.prog 8 Tryz.f3.params.toList ls):(aN5 (abP Tryz.prog Tryz.f3.params.toList ls)).all (λx=>x=.v (.bool true)):=by
 rw [Tryz.params3] at h⊢;simp only [Ls] at h;obtain ⟨l0,_,rfl,h0,l1,_,rfl,h1,l2,_,rfl,h2,l3,_,rfl,h3,l4,_,rfl,h4,l5,_,rfl,h5,rfl⟩:=h;obtain ⟨d0,rfl,w0⟩:=Gn (ty:=(.pair (.sl dY) (.pair (.sl .str) (.pair (.sl fC) (.pair (.sl dP) (.sl fD)))))) (by kernel_rfl) h0
 obtain ⟨d1,rfl,w1⟩:=Gn (ty:=(.sl kY)) (by kernel_rfl) h1
 obtain ⟨d2,rfl,w2⟩:=Gn (ty:=(.sl yu)) (by kernel_rfl) h2
 obtain ⟨d3,rfl,w3⟩:=Gn (ty:=(.sl jr)) (by kernel_rfl) h3
 obtain ⟨d4,rfl,w4⟩:=Gn (ty:=(.int .i64)) (by kernel_rfl) h4
 obtain ⟨d5,rfl,w5⟩:=Gn (ty:=(.int .i64)) (by kernel_rfl) h5
 simp only [abP,pLV,Tryz.underlying31,Tryz.underlying29,Tryz.underlying30,Tryz.underlying28,Tryz.underlying3];refine alF (t':=T.req (Qd (gG d0.1 d0.2.1 d0.2.2.1 d0.2.2.2.1 d0.2.2.2.2)) (T.ok (LV.v (Value.bool true)))) (by kernel_rfl) ?_
 exact ⟨(auN w0.1 w0.2.1 w0.2.2.1 w0.2.2.2.1 w0.2.2.2.2),rfl⟩
set_option maxRecDepth 100000 in
theorem contract (H:Type) (enc:TypeId×Value→H) (W:World) (base:Nat) (args:Array Value) (ds gs:List (DataW H)) (before:List MemPlace)
  (hval:∀(j:Nat) t v,Tryz.f3.params[j]? =some t→args[j]? =some v→Value.okWide Tryz.prog W .any base t v)
  (hW:DataW.Whole enc Tryz.prog Tryz.f3.params.toList Rows.controlMatchesReferenceSpec.vars false W args.toList ds gs before) (hL:laidMetH Tryz.prog Rows.controlMatchesReferenceRow.laid W) {us:List TypeId} (hz:(DataW.weightsEach Tryz.prog (Tryz.f3.params.toList++us) (ds++gs)).all (·≤reachBytes)=true):
  Calls Tryz.prog 3 args W λe W'=>∃v,e=.returned v∧Rows.controlMatchesReferenceSpec.post enc Tryz.prog Tryz.f3 false true false false W args v W':=by
 refine V6 (m:=8) (tb:=4) aRc laidOut (by kernel_rfl) (by kernel_rfl) Tryz.underlying4 rfl ?_ (by kernel_rfl) opened (arn hL) hval hW hz
 obtain ⟨p,q,hA,_⟩:=hW
 have hl:=Ri hA
 rw [Tryz.params3] at hl
 match ds,hl with
 | [_,_,_,_,_,_],_=>exact ⟨rfl,rfl,rfl⟩
theorem laid_met (os:Os):laidMet Tryz.prog Rows.controlMatchesReferenceRow.laid ((laidWorld os).forCall (λ_ _=>0) ⟨#[],#[.agg #[.slice none 0 0,.slice none 0 0,.slice none 0 0,.slice none 0 0,.slice none 0 0],.slice none 0 0,.slice none 0 0,.slice none 0 0,.int .i64 0,.int .i64 0],[]⟩).memory:=
 laidMet_of_run' 8 (by kernel_rfl) (by kernel_rfl)
theorem reads (os:Os) {H:Type}(enc:TypeId×Value→H):∃places,DataW.whole enc Tryz.prog ((laidWorld os).forCall (λ_ _=>0) ⟨#[],#[.agg #[.slice none 0 0,.slice none 0 0,.slice none 0 0,.slice none 0 0,.slice none 0 0],.slice none 0 0,.slice none 0 0,.slice none 0 0,.int .i64 0,.int .i64 0],[]⟩).memory Tryz.f3.params.toList Rows.controlMatchesReferenceSpec.vars false #[.agg #[.slice none 0 0,.slice none 0 0,.slice none 0 0,.slice none 0 0,.slice none 0 0],.slice none 0 0,.slice none 0 0,.slice none 0 0,.int .i64 0,.int .i64 0].toList 8=some ([.agg [.nil,.nil,.nil,.nil,.nil],.nil,.nil,.nil,.lit (.int .i64 0),.lit (.int .i64 0)],[],places):=
 ⟨[],by kernel_rfl⟩
set_option maxRecDepth 100000 in
theorem lifted (os:Os) (started:os.Started) (H:Type) (enc:TypeId×Value→H) (F:Stop.Interp):
  ReturnsInHanded {} Tryz.checked os 3 .any ((OpenSpec.ofChange Rows.controlMatchesReferenceSpec).preRow enc Tryz.prog Tryz.f3 Rows.controlMatchesReferenceRow.domain false Rows.controlMatchesReferenceRow.laid) (((OpenSpec.ofChange Rows.controlMatchesReferenceSpec).at F).post enc Tryz.prog Tryz.f3 false true false false):=by
 obtain ⟨places,hx⟩:=reads os enc
 refine returnsInHanded_of_row (C:=Tryz.checked) (s:=OpenSpec.ofChange Rows.controlMatchesReferenceSpec) own started (by kernel_rfl) Tryz.func3
  (witness_row_at (enc:=enc) (C:=Tryz.checked) false (laidWorld os) #[.agg #[.slice none 0 0,.slice none 0 0,.slice none 0 0,.slice none 0 0,.slice none 0 0],.slice none 0 0,.slice none 0 0,.slice none 0 0,.int .i64 0,.int .i64 0] rfl (by kernel_rfl) (by kernel_rfl) (by kernel_rfl)
   (OpenSpec.preRow_of_cond 8 hx (by kernel_rfl) (λk hk=>by cases hk) (by kernel_rfl) (laid_met os))) ?_
 intro W base args ds gs before hval hW _ _ hz hL _ _;exact contract H enc W base args ds gs before hval hW hL hz
theorem said:Rows.ControlMatchesReferenceSaid:=
 OpenClaim.holds_of_cond 3 Tryz.f3 rfl rfl rfl rfl rfl rfl rfl ⟨rfl,rfl,rfl,rfl,rfl⟩ rfl rfl rfl rfl rfl (by kernel_rfl) Tryz.func3 (by kernel_rfl)
  (of_decide_eq_true (by kernel_rfl)) (by unfold Func.isWrapper;first|(rw [if_pos (by decide+kernel)];kernel_rfl) |(rw [if_neg (by decide+kernel)];exact ⟨rfl,rfl⟩))
  (λos started H enc _ F=>by rw [OpenClaim.pre_eq_preRow];exact lifted os started H enc F)
theorem plain (f:FuncId) (fn:Func) (hf:Tryz.pinned.checked.prog.funcNamed "chargepark/chargeparklaw25.ControlMatchesReference"=some f) (hfn:Tryz.pinned.checked.prog.funcs[f]? =some fn):
  false=Tryz.pinned.checked.prog.looks []∧∀(j:Nat) t,fn.params[j]? =some t→Tryz.pinned.checked.prog.wantsStandIn t=false:=by
 obtain rfl:f=3:=Option.some.inj ((show Tryz.prog.funcNamed "chargepark/chargeparklaw25.ControlMatchesReference"=some 3 by kernel_rfl).symm.trans hf) |>.symm
 obtain rfl:fn=Tryz.f3:=(Option.some.inj (Tryz.func3.symm.trans hfn)).symm;refine ⟨by kernel_rfl,λj t ht=>?_⟩
 have h:Tryz.f3.params.toList.all (λt=>!Tryz.prog.wantsStandIn t)=true:=by kernel_rfl
 have:=List.all_eq_true.1 h t (by simpa using Array.mem_of_getElem? ht)
 show Tryz.prog.wantsStandIn t=false
 simpa using this
theorem card:Rows.ControlMatchesReferenceCardSaid:=
 Claim7.holds_tied_plain_at .later [] _ _ _ _ said (λ_ h=>by cases h) (by kernel_rfl) (λ_ h=>by cases h) controlMatchesReference_row_tie rfl ⟨rfl,rfl⟩ (by kernel_rfl) rfl plain (by kernel_rfl)
end ControlMatchesReference
theorem controlMatchesReference_card:Rows.ControlMatchesReferenceCardSaid:=ControlMatchesReference.card
end Go.Proofs.YtlihnbimgclogaaGreatDoor
end
