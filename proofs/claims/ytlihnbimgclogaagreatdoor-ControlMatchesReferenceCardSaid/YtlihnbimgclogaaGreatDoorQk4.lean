/- Helpers for ControlMatchesReference. Conditions: none. -/
import Derived.Test.YtlihnbimgclogaaGreatDoorQk3
noncomputable section
namespace Go.Proofs.YtlihnbimgclogaaGreatDoor
open Go.Sx
def wF (s:lQ):pW:=(⟨s.al,s.mo,s.od,s.rows,s.level,(0:Int),s.cs,s.os,s.ks,s.gs,s.bs,s.out⟩:pW)
def XB (s:lQ):T (Rd lQ):=
 .br (decide (s.level≤80)) (.rl s.out (.req (aJu (wF s)) (.rl (Du (wF s)).out (.ok (.next {s with level:=(aSe (s.level+1)),out:=(Du (wF s)).out}))))) (.rl s.out (.ok (.stop (.exit 0) s)))
abbrev aht (s:lQ):=(XB s).rd s
def akp (s:lQ):Prop:=s.level=1∧aam s.rows s.gs s.al s.mo s.od∧FZ s.gs s.out
def Sl (s:lQ):Prop:=(1≤s.level∧s.level≤81)∧aam s.rows s.gs s.al s.mo s.od∧FZ s.gs s.out
def UU (s:lQ):Nat:=(81-s.level).toNat
def aC9 (_:Ex) (_ _:lQ):Prop:=True
theorem aLz:∀s,akp s→Sl s:=by
 intro s h;obtain ⟨h0,h1⟩:=h;exact ⟨by omega,h1⟩
theorem abl (s:lQ) (hI:Sl s) (c1:s.level≤80):ako (wF s):=⟨rfl,⟨hI.1.1,c1⟩,hI.2.1,hI.2.2⟩
theorem aFe (s:lQ) (hI:Sl s):bJ (λs'=>Sl s'∧UU s'<UU s) (λx s'=>aC9 x s s') (aht s):=by
 unfold aht XB;dsimp only [T.rd,T.rl]
 have hin:=λc1=>abl s hI c1
 obtain ⟨⟨h0,h1⟩,hR,hO⟩:=hI;refine ai (λc1=>?_) (λc1=>trivial)
 have c1:s.level≤80:=by simpa using c1
 have q2:=(agp _ (hin c1)).2
 have q2:(Du (wF s)).out=Xi s.rows s.gs s.al s.mo s.level s.out s.od:=q2
 rw [aH (x:=s.level+1)];refine ⟨⟨⟨by simp only;omega,by simp only;omega⟩,hR,?_⟩,by simp only [UU];omega⟩
 simp only;rw [q2];exact anc hO
def I7:bK lQ:=⟨0,118,[1,2,3,4,10,12,13],[],aPZ,aOH,λv b=>⟨aU aSg (v.getD 0 .junk),aU aSg (v.getD 1 .junk),aU aSg (v.getD 2 .junk),aU wE (v.getD 4 .junk),gI (v.getD 6 .junk),aU dY (bn (aT b 0) 0),aU .str (bn (aT b 0) 1),aU fC (bn (aT b 0) 2),aU dP (bn (aT b 0) 3),aU fD (bn (aT b 0) 4),iW aSg (aT b 1)⟩,XB,λs r=> {r with al:=s.al,mo:=s.mo,od:=s.od,rows:=s.rows,cs:=s.cs,os:=s.os,ks:=s.ks,gs:=s.gs,bs:=s.bs},λs=>s,λ_ s=>s,[.exit 0],akp,Sl,UU⟩
abbrev zX:=I7.run
abbrev azB:=I7.jf
abbrev aJv:=I7.q
theorem aFz (s:lQ) (hI:Sl s):(XB s).all (λ_=>True):=by
 refine ⟨λc1=>⟨aSf,?_,aSf,trivial⟩,λc1=>⟨aSf,trivial⟩⟩
 ·exact ⟨abl s hI (by simpa using c1),rfl,rfl⟩
theorem aoS:I7.Ok:={}
theorem anD:I7.Pf (aC9):=⟨aLz,λ_ _=>rfl,aFe,aFz⟩
theorem avx:bC Tryz.prog aP (AN 0) (.loop NZ) I7.lp:=bK.snd aoS anD (aQ (Γ:=ahg) (K:=dR) (L:=(λi=>if i=9 then PI.lp else ay i)) aq5 aA NZ (λb hb=>by
 rw [show ax _=[Ey] by kernel_rfl] at hb
 simp only [List.mem_cons,List.not_mem_nil,or_false] at hb;subst hb;exact avw)) (λs=>by kernel_rfl)
theorem awN (s:lQ) (hE:akp s):(λ(x:Ex) (s':lQ) (v:List Int)=>x=.exit 0∧s'.out=v) (azB s) (zX s) ((λs:lQ=>rfL s.rows s.gs s.al s.mo s.od (81-s.level).toNat s.level s.out) s):=by
 exact bK.mD aoS anD (λs:lQ=>rfL s.rows s.gs s.al s.mo s.od (81-s.level).toNat s.level s.out) (λx s' v=>x=.exit 0∧s'.out=v) (λs hI=>by
  show bJ _ _ (aht s)
  unfold aht XB;dsimp only [T.rd,T.rl]
  have hin:=λc1=>abl s hI c1
  obtain ⟨⟨h0,h1⟩,hR,hO⟩:=hI;refine ai (λc1=>?_) (λc1=>?_)
  ·have c1:s.level≤80:=by simpa using c1
   have q2:=(agp _ (hin c1)).2
   have q2:(Du (wF s)).out=Xi s.rows s.gs s.al s.mo s.level s.out s.od:=q2
   rw [aH (x:=s.level+1)]
   show rfL _ _ _ _ _ _ _ _=rfL _ _ _ _ _ _ _ _
   simp only;rw [q2,show (81-s.level).toNat=(81-(s.level+1)).toNat+1 by omega,rfL]
  ·have c1:80<s.level:=by simpa using c1
   refine ⟨rfl,?_⟩;rw [show (81-s.level).toNat=0 by omega]
   rfl) s hE
def Z4:List LV→T LV
 | [.agg [.xl (.pair .str (.pair (.int .i64) (.pair (.int .i64) (.pair (.int .i64) (.pair (.pair (.int .i64) (.int .i64)) (.pair (.int .i64) (.pair (.int .i64) (.pair (.int .i64) (.pair (.int .i64) (.int .i64)))))))))) cs,.xl (.str) os,.xl (.pair .str (.pair (.int .i64) (.pair (.int .i64) (.int .i64)))) ks,.xl (.pair .str (.pair (.int .i64) (.pair (.int .i64) (.pair (.int .i64) (.pair (.int .i64) (.pair (.int .i64) (.pair (.int .i64) (.int .i64)))))))) gs,.xl (.pair .str (.int .i64)) bs],.xl (.int .i64) al,.xl (.int .i64) mo,.xl (.int .i64) od]=> .req (Qd (gG cs os ks gs bs)∧(al.length:Int)≤1000∧(mo.length:Int)≤1000∧(gs.length:Int)≤1000) (.ok (.iU [.xl aSg (uP cs os ks gs bs al mo od),.v (.int .i64 (shE cs os ks gs bs al mo od))]))
 |_=> .no
def FT:List LV→T LV:=gZ Tryz.prog Tryz.f39.params.toList Z4
theorem apS (cs:List Cd) (os:List ByteArray) (ks:List Ko) (gs:List Ch) (bs:List Ba) (al mo od:List Int):letI b:=(gs.length:Int);letI c:=(List.replicate b.toNat (0:Int));letI a:=(zX (⟨al,mo,od,(iG cs os ks gs bs),(1:Int),cs,os,ks,gs,bs,c⟩:lQ));cO Tryz.prog aP (ahg) dR (λi=>if i=6 then I7.lp else ay i) Tryz.f39 [.agg [.xl dY cs,.xl .str os,.xl fC ks,.xl dP gs,.xl fD bs],.xl aSg al,.xl aSg mo,.xl aSg od]=.req (Qd (gG cs os ks gs bs)) (.br ((BL cs os ks gs bs) !=0) (.ok (.iU [.xl aSg ([]:List Int),.v (.int .i64 1)])) (.req ((al.length:Int)≤1000) (.br (!(al.all pV&&((al.length:Int)==b))) (.ok (.iU [.xl aSg ([]:List Int),.v (.int .i64 1)])) (.req ((mo.length:Int)≤1000) (.br (!(mo.all pV&&((mo.length:Int)==b))) (.ok (.iU [.xl aSg ([]:List Int),.v (.int .i64 1)])) (.req (b≤1000) (.br (!(ak5 od b)) (.ok (.iU [.xl aSg ([]:List Int),.v (.int .i64 1)])) (.req (0≤b∧b≤b∧8*b≤2^48∧b<2^63) (.req (0=0∧b.toNat=List.length c) (.req (aJv (⟨al,mo,od,(iG cs os ks gs bs),(1:Int),cs,os,ks,gs,bs,c⟩:lQ)) (.req (0+(List.length a.out)≤List.length a.out) (.ok (.iU [.xl aSg ((a.out.drop 0).take (List.length a.out)),.v (.int .i64 0)]))))))))))))):=by kernel_rfl
theorem aeT:Valid Tryz.prog aP 39 FT:=aI Tryz.func39 rfl aq5 aA (L:=(λi=>if i=6 then I7.lp else ay i)) (λb hb=>by
 rw [show ax _=[NZ] by kernel_rfl] at hb
 simp only [List.mem_cons,List.not_mem_nil,or_false] at hb;subst hb;exact avx) (λargs lv h=>by
 unfold Z4 at h;split at h
 ·simp only [canL,canX]
  rw [apS];rename_i cs os ks gs bs al mo od;obtain ⟨⟨hn,hal,hml,hgl⟩,rfl⟩:=h
  have no:sQ cs os ks gs bs al mo od=false→LV.iU [.xl aSg ([]:List Int),.v (.int .i64 1)]=LV.iU [.xl aSg (uP cs os ks gs bs al mo od),.v (.int .i64 (shE cs os ks gs bs al mo od))]:=λh=>by
   unfold uP shE;rw [h];rfl
  refine ⟨hn,λc1=>no ?_,λc1=>⟨hal,λc2=>no ?_,λc2=>⟨hml,λc3=>no ?_,λc3=>⟨hgl,λc4=>no ?_,λc4=>?_⟩⟩⟩⟩
  ·rw [Bool.eq_false_iff]
   intro h
   have:=(iJ.1 h).1
   unfold BL at c1;rw [if_pos this] at c1;cases c1
  ·rw [Bool.eq_false_iff]
   intro h;obtain ⟨_,h1,h2,h3,h4,h5⟩:=iJ.1 h;rw [h3,h1] at c2
   simp at c2
  ·rw [Bool.eq_false_iff]
   intro h;obtain ⟨_,h1,h2,h3,h4,h5⟩:=iJ.1 h;rw [h4,h2] at c3
   simp at c3
  ·rw [Bool.eq_false_iff]
   intro h;obtain ⟨_,h1,h2,h3,h4,h5⟩:=iJ.1 h;rw [agA,h5] at c4;cases c4
  ·have hv:fH cs os ks gs bs=true:=by
    cases e:fH cs os ks gs bs with
    |true=>rfl
    |false=>unfold BL at c1;rw [e] at c1;cases c1
   have c2:=nf c2
   have c3:=nf c3
   have c4:=nf c4
   rw [agA] at c4;rw [Bool.and_eq_true,beq_iff_eq] at c2 c3
   have hk:sQ cs os ks gs bs al mo od=true:=iJ.2 ⟨hv,by omega,by omega,c2.1,c3.1,c4⟩
   have hR:aam (iG cs os ks gs bs) gs al mo od:=by unfold iG;rw [if_pos hv];exact aMa hk
   have hE:akp ⟨al,mo,od,(iG cs os ks gs bs),(1:Int),cs,os,ks,gs,bs,(List.replicate (gs.length:Int).toNat (0:Int))⟩:=⟨rfl,hR,by rw [Int.toNat_natCast];exact aGU⟩
   obtain ⟨q1,q2⟩:=awN _ hE
   have q2:(zX ⟨al,mo,od,(iG cs os ks gs bs),(1:Int),cs,os,ks,gs,bs,(List.replicate (gs.length:Int).toNat (0:Int))⟩).out=uP cs os ks gs bs al mo od:=by
    rw [q2];unfold uP rfO iG;rw [if_pos hk];simp only;rw [if_pos hv,Int.toNat_natCast];rfl
   refine ⟨⟨by omega,by omega,by omega,by omega⟩,⟨rfl,by rw [List.length_replicate]⟩,⟨hE,rfl,rfl⟩,by omega,?_⟩
   show LV.iU [LV.xl _ _,_]=_
   rw [List.drop_zero,List.take_length,q2];unfold shE;rw [if_pos hk]
 ·cases h)
structure qc where
 i:Int
 aj:List Cd
 aF:List ByteArray
 ak:List Ko
 af:List Ch
 aN:List Ba
 out:List Int
def aQh (s:qc):List LV:=[.own 0 0,.os 1 1 0 (s.out.length),.v (.int .i64 s.i)]
def aOZ (s:qc):List aZ:=[⟨[.xl dY s.aj,.xl .str s.aF,.xl fC s.ak,.xl dP s.af,.xl fD s.aN],28,.cl,false⟩,⟨[],3,.vec aSg s.out,false⟩]
def EQ:Code:=((ax (Tryz.f29.body.getD .skip))[0]?).getD .skip
def afn (s:qc):T (Rd qc):=
 .br (decide (s.i<(s.af.length:Int))) (.req (0≤s.i∧s.i<(s.af.length:Int)) (.req (0+(s.out.length)=s.out.length∧((s.out.length+List.length ([(bG s.af s.i).2.2.2.2.2.2.1]):Nat):Int)*8≤2^47∧((s.out.length+List.length ([(bG s.af s.i).2.2.2.2.2.2.1]):Nat):Int)<2^62) (.req (0=0∧(s.out.length+List.length ([(bG s.af s.i).2.2.2.2.2.2.1]))=List.length (s.out++([(bG s.af s.i).2.2.2.2.2.2.1]))) (.ok (.next {s with i:=(aSe (s.i+1)),out:=(s.out++([(bG s.af s.i).2.2.2.2.2.2.1]))}))))) (.rl s.out (.ok (.stop (.exit 0) s)))
abbrev aCE (s:qc):=(afn s).rd s
def akw (s:qc):Prop:=s.i=0∧s.out=[]∧(s.af.length:Int)≤1000
def SC (s:qc):Prop:=(0≤s.i∧s.i≤(s.af.length:Int))∧s.out=sW s.i.toNat (λj=>CV (bG s.af j))∧(s.af.length:Int)≤1000
def Va (s:qc):Nat:=((s.af.length:Int)-s.i).toNat
def atm (x:Ex) (_ s':qc):Prop:=x=.exit 0∧s'.out=mG s'.af
theorem aMd:∀s,akw s→SC s:=by
 intro s h;obtain ⟨h0,h1,h2⟩:=h;exact ⟨by omega,by rw [h0,h1];rfl,h2⟩
theorem aGX (s:qc) (hI:SC s):bJ (λs'=>SC s'∧Va s'<Va s) (λx s'=>atm x s s') (aCE s):=by
 unfold aCE afn;dsimp only [T.rd,T.rl];obtain ⟨⟨h0,h1⟩,hb,h2⟩:=hI;refine ai (λc1=>?_) (λc1=>?_)
 ·have c1:s.i<(s.af.length:Int):=by simpa using c1
  rw [aH (x:=s.i+1)];refine ⟨⟨⟨by simp only;omega,by simp only;omega⟩,?_,h2⟩,by simp only [Va];omega⟩
  simp only;rw [show (s.i+1).toNat=s.i.toNat+1 by omega,tJ,←hb,Int.toNat_of_nonneg h0]
  rfl
 ·have c1:(s.af.length:Int)≤s.i:=by simpa using c1
  refine ⟨rfl,?_⟩;rw [hb,show s.i.toNat=s.af.length by omega]
  rfl
def Jm:bK qc:=⟨0,22,[1,3,4],[.nl 3 3 aSg],aQh,aOZ,λv b=>⟨gI (v.getD 2 .junk),aU dY (bn (aT b 0) 0),aU .str (bn (aT b 0) 1),aU fC (bn (aT b 0) 2),aU dP (bn (aT b 0) 3),aU fD (bn (aT b 0) 4),iW aSg (aT b 1)⟩,afn,λs r=> {r with aj:=s.aj,aF:=s.aF,ak:=s.ak,af:=s.af,aN:=s.aN},λs=>s,λ_ s=>s,[.exit 0],akw,SC,Va⟩
abbrev Aa:=Jm.run
abbrev azN:=Jm.jf
abbrev aJN:=Jm.q
theorem aFR (s:qc) (hI:SC s):(afn s).all (λ_=>True):=by
 refine ⟨λc1=>⟨?_,?_,?_,trivial⟩,λc1=>⟨aSf,trivial⟩⟩
 all_goals ((obtain ⟨⟨h0,h1⟩,hb,h2⟩:=hI;have hbl:s.out.length=s.i.toNat:=(by rw [hb,dH]);simp only [decide_eq_true_eq] at c1;first|omega|(refine ⟨by omega,?_,?_⟩<;>simp only [List.length_cons,List.length_nil]<;>omega) |exact ⟨rfl,by simp⟩))
def ac8:Specs:=aW []
theorem arj:∀g S,ac8 g=some S→Valid Tryz.prog aP g S:=aS (l:=[]) trivial
theorem apa:Jm.Ok:={}
theorem anV:Jm.Pf (atm):=⟨aMd,λ_ _=>rfl,aGX,aFR⟩
theorem avQ:bC Tryz.prog aP (AN 0) (.loop EQ) Jm.lp:=bK.snd apa anV (aQ (Γ:=ac8) (K:=dR) (L:=ay) arj aA EQ (λb hb=>by rw [show ax EQ=[] by kernel_rfl] at hb;cases hb)) (λs=>by kernel_rfl)
theorem axa (s:qc) (hE:akw s):∃s',SC s'∧atm (azN s) s' (Aa s):=bK.fin apa anV s hE
def ajw:List LV→T LV
 | [.agg [.xl (.pair .str (.pair (.int .i64) (.pair (.int .i64) (.pair (.int .i64) (.pair (.pair (.int .i64) (.int .i64)) (.pair (.int .i64) (.pair (.int .i64) (.pair (.int .i64) (.pair (.int .i64) (.int .i64)))))))))) _,.xl (.str) _,.xl (.pair .str (.pair (.int .i64) (.pair (.int .i64) (.int .i64)))) _,.xl (.pair .str (.pair (.int .i64) (.pair (.int .i64) (.pair (.int .i64) (.pair (.int .i64) (.pair (.int .i64) (.pair (.int .i64) (.int .i64)))))))) gs,.xl (.pair .str (.int .i64)) _]]=> .req ((gs.length:Int)≤1000) (.ok (.xl aSg (mG gs)))
 |_=> .no
def aea:List LV→T LV:=gZ Tryz.prog Tryz.f29.params.toList ajw
theorem ayh (cs:List Cd) (os:List ByteArray) (ks:List Ko) (gs:List Ch) (bs:List Ba):letI a:=(Aa (⟨(0:Int),cs,os,ks,gs,bs,([]:List Int)⟩:qc));cO Tryz.prog aP (ac8) dR (λi=>if i=3 then Jm.lp else ay i) Tryz.f29 [.agg [.xl dY cs,.xl .str os,.xl fC ks,.xl dP gs,.xl fD bs]]=.req (0=0∧0=List.length ([]:List Int)) (.req (aJN (⟨(0:Int),cs,os,ks,gs,bs,([]:List Int)⟩:qc)) (.req (0+(List.length a.out)≤List.length a.out) (.ok (.xl aSg ((a.out.drop 0).take (List.length a.out)))))):=by kernel_rfl
theorem aD8:Valid Tryz.prog aP 29 aea:=aI Tryz.func29 rfl arj aA (L:=(λi=>if i=3 then Jm.lp else ay i)) (λb hb=>by
 rw [show ax _=[EQ] by kernel_rfl] at hb
 simp only [List.mem_cons,List.not_mem_nil,or_false] at hb;subst hb;exact avQ) (λargs lv h=>by
 unfold ajw at h;split at h
 ·simp only [canL,canX]
  rw [ayh];rename_i cs os ks gs bs;obtain ⟨hn,rfl⟩:=h
  have hE:akw ⟨0,cs,os,ks,gs,bs,[]⟩:=⟨rfl,rfl,hn⟩
  obtain ⟨_,_,q1,q2⟩:=axa _ hE
  have q2:(Aa ⟨0,cs,os,ks,gs,bs,[]⟩).out=mG gs:=q2
  refine ⟨aSf,⟨hE,rfl,rfl⟩,by omega,?_⟩
  show LV.xl _ _=_
  rw [List.drop_zero,List.take_length,q2]
 ·cases h)
theorem aMK {ph mn mx st fb a s want:Int}(h:okB ph mn mx st fb a s want=true):nE ph mn mx st fb a s want=0:=by rw [nE,if_pos h]
structure oC where
 d:List Dm
 tick:Int
 i:Int
 aj:List Cd
 aF:List ByteArray
 ak:List Ko
 af:List Ch
 aN:List Ba
 most:List Int
def aPV (s:oC):List LV:=[.xl jr s.d,.v (.int .i64 s.tick),.own 0 0,.os 1 1 0 (s.most.length),.v (.int .i64 s.i)]
def aOD (s:oC):List aZ:=[⟨[.xl dY s.aj,.xl .str s.aF,.xl fC s.ak,.xl dP s.af,.xl fD s.aN],28,.cl,false⟩,⟨[],3,.vec aSg s.most,false⟩]
def Et:Code:=((ax (Tryz.f40.body.getD .skip))[0]?).getD .skip
def afe (s:oC):T (Rd oC):=
 .br (decide (s.i<(s.af.length:Int))) (.req (0≤s.i∧s.i<(s.d.length:Int)) (.br (jG s.d s.i).1 (.req (0≤s.i∧s.i<(s.af.length:Int)) (.req (0+(s.most.length)=s.most.length∧((s.most.length+List.length ([(bG s.af s.i).2.2.2.2.1]):Nat):Int)*8≤2^47∧((s.most.length+List.length ([(bG s.af s.i).2.2.2.2.1]):Nat):Int)<2^62) (.req (0=0∧(s.most.length+List.length ([(bG s.af s.i).2.2.2.2.1]))=List.length (s.most++([(bG s.af s.i).2.2.2.2.1]))) (.ok (.next {s with i:=(aSe (s.i+1)),most:=(s.most++([(bG s.af s.i).2.2.2.2.1]))}))))) (.req (0+(s.most.length)=s.most.length∧((s.most.length+List.length ([(0:Int)]):Nat):Int)*8≤2^47∧((s.most.length+List.length ([(0:Int)]):Nat):Int)<2^62) (.req (0=0∧(s.most.length+List.length ([(0:Int)]))=List.length (s.most++([(0:Int)]))) (.ok (.next {s with i:=(aSe (s.i+1)),most:=(s.most++([(0:Int)]))})))))) (.rl s.most (.ok (.stop (.exit 0) s)))
abbrev aCv (s:oC):=(afe s).rd s
def akn (s:oC):Prop:=s.i=0∧s.most=[]∧(s.af.length:Int)≤1000∧s.d.length=s.af.length
def RY (s:oC):Prop:=(0≤s.i∧s.i≤(s.af.length:Int))∧s.most=sW s.i.toNat (λj=>if (jG s.d j).1=true then (bG s.af j).2.2.2.2.1 else 0)∧(s.af.length:Int)≤1000∧s.d.length=s.af.length
def MC (s:oC):Nat:=((s.af.length:Int)-s.i).toNat
def atc (x:Ex) (_ s':oC):Prop:=x=.exit 0∧s'.most=qj s'.af s'.d
theorem aLv:∀s,akn s→RY s:=by
 intro s h;obtain ⟨h0,h1,h2⟩:=h;exact ⟨by omega,by rw [h0,h1];rfl,h2⟩
theorem aFa (s:oC) (hI:RY s):bJ (λs'=>RY s'∧MC s'<MC s) (λx s'=>atc x s s') (aCv s):=by
 unfold aCv afe;dsimp only [T.rd,T.rl];obtain ⟨⟨h0,h1⟩,hm,h3,h4⟩:=hI
 have hml:s.most.length=s.i.toNat:=(by rw [hm,dH])
 refine ai (λc1=>?_) (λc1=>?_)
 ·refine ai (λc2=>?_) (λc2=>?_)
  ·have c1:s.i<(s.af.length:Int):=by simpa using c1
   rw [aH (x:=s.i+1)];refine ⟨⟨⟨by simp only;omega,by simp only;omega⟩,?_,h3,h4⟩,by simp only [MC];omega⟩
   simp only;rw [show (s.i+1).toNat=s.i.toNat+1 by omega,tJ,←hm,Int.toNat_of_nonneg h0,if_pos (show (jG s.d s.i).1=true from c2)]
  ·have c1:s.i<(s.af.length:Int):=by simpa using c1
   rw [aH (x:=s.i+1)];refine ⟨⟨⟨by simp only;omega,by simp only;omega⟩,?_,h3,h4⟩,by simp only [MC];omega⟩
   simp only;rw [show (s.i+1).toNat=s.i.toNat+1 by omega,tJ,←hm,Int.toNat_of_nonneg h0,if_neg (show ¬(jG s.d s.i).1=true by rw [c2];decide)]
 ·have c1:(s.af.length:Int)≤s.i:=by simpa using c1
  refine ⟨rfl,?_⟩;rw [hm,show s.i.toNat=s.af.length by omega]
  rfl
def IZ:bK oC:=⟨0,47,[1,2,3,7,8],[.nl 7 3 aSg],aPV,aOD,λv b=>⟨aU jr (v.getD 0 .junk),gI (v.getD 1 .junk),gI (v.getD 4 .junk),aU dY (bn (aT b 0) 0),aU .str (bn (aT b 0) 1),aU fC (bn (aT b 0) 2),aU dP (bn (aT b 0) 3),aU fD (bn (aT b 0) 4),iW aSg (aT b 1)⟩,afe,λs r=> {r with d:=s.d,tick:=s.tick,aj:=s.aj,aF:=s.aF,ak:=s.ak,af:=s.af,aN:=s.aN},λs=>s,λ_ s=>s,[.exit 0],akn,RY,MC⟩
abbrev uX:=IZ.run
abbrev azz:=IZ.jf
abbrev aJr:=IZ.q
theorem aFv (s:oC) (hI:RY s):(afe s).all (λ_=>True):=by
 refine ⟨λc1=>⟨?_,λc2=>⟨?_,?_,?_,trivial⟩,λc2=>⟨?_,?_,trivial⟩⟩,λc1=>⟨aSf,trivial⟩⟩
 all_goals ((obtain ⟨⟨h0,h1⟩,hm,h3,h4⟩:=hI;have hml:s.most.length=s.i.toNat:=(by rw [hm,dH]);(try simp only [decide_eq_true_eq] at c1);first|omega|(refine ⟨by omega,?_,?_⟩<;>simp only [List.length_cons,List.length_nil]<;>omega) |exact ⟨rfl,by simp⟩))
def ac6:Specs:=aW [(20,CJ),(29,aea),(39,FT)]
theorem arf:∀g S,ac6 g=some S→Valid Tryz.prog aP g S:=aS (l:=[(20,CJ),(29,aea),(39,FT)]) ⟨aa4,aD8,aeT,trivial⟩
theorem aoO:IZ.Ok:={}
theorem anz:IZ.Pf (atc):=⟨aLv,λ_ _=>rfl,aFa,aFv⟩
theorem avt:bC Tryz.prog aP (AN 0) (.loop Et) IZ.lp:=bK.snd aoO anz (aQ (Γ:=ac6) (K:=dR) (L:=ay) arf aA Et (λb hb=>by rw [show ax Et=[] by kernel_rfl] at hb;cases hb)) (λs=>by kernel_rfl)
theorem awK (s:oC) (hE:akn s):∃s',RY s'∧atc (azz s) s' (uX s):=bK.fin aoO anz s hE
structure pF where
 l:List Le
 qH:Int
 iP:Int
 tick:Int
 t8:Bool
 i:Int
def aQf (s:pF):List LV:=[.xl kY s.l,.v (.int .i64 s.qH),.v (.int .i64 s.iP),.v (.int .i64 s.tick),.v (.bool s.t8),.v (.int .i64 s.i)]
def aOX (_:pF):List aZ:=[]
def EO:Code:=((ax (Tryz.f42.body.getD .skip))[0]?).getD .skip
def XL (s:pF):T (Rd pF):=
 .br (decide (s.i≥0)) (.req (0≤s.i∧s.i<(s.l.length:Int)) (.br ((gV s.l s.i).2.1==s.qH) (.req (0≤s.i∧s.i<(s.l.length:Int)) (.br ((gV s.l s.i).2.2.1==s.iP) (.req (0≤s.i∧s.i<(s.l.length:Int)) (.ok (.stop (.ret) {s with t8:=(decide ((gV s.l s.i).2.2.2.1>(aSe (s.tick-6))))}))) (.ok (.stop (.ret) {s with t8:=false})))) (.ok (.next {s with i:=(aSe (s.i-1))})))) (.ok (.stop (.exit 0) s))
abbrev ahD (s:pF):=(XL s).rd s
def aku (s:pF):Prop:=s.i=(s.l.length:Int)-1∧(s.l.length:Int)≤1000∧0≤s.tick∧s.tick≤1000000
def aaw (s:pF):Prop:=(-1≤s.i∧s.i<(s.l.length:Int))∧(s.l.length:Int)≤1000∧0≤s.tick∧s.tick≤1000000
def U9 (s:pF):Nat:=(s.i+1).toNat
def aDj (_:Ex) (_ _:pF):Prop:=True
theorem aL9:∀s,aku s→aaw s:=by
 intro s h;obtain ⟨h0,h1⟩:=h;exact ⟨by omega,h1⟩
theorem aGR (s:pF) (hI:aaw s):bJ (λs'=>aaw s'∧U9 s'<U9 s) (λx s'=>aDj x s s') (ahD s):=by
 unfold ahD XL;dsimp only [T.rd,T.rl];obtain ⟨⟨h0,h1⟩,h2⟩:=hI;refine ai (λc1=>?_) (λc1=>?_)
 ·refine ai (λc2=>?_) (λc2=>?_)
  ·refine ai (λc3=>?_) (λc3=>?_)
   ·trivial
   ·trivial
  ·have c1:0≤s.i:=by simpa using c1
   rw [aH (x:=s.i-1)];exact ⟨⟨⟨by simp only;omega,by simp only;omega⟩,h2⟩,by simp only [U9];omega⟩
 ·trivial
def Jk:bK pF:=⟨0,41,[0,1,2,3,8,9],[],aQf,aOX,λv _=>⟨aU kY (v.getD 0 .junk),gI (v.getD 1 .junk),gI (v.getD 2 .junk),gI (v.getD 3 .junk),vW (v.getD 4 .junk),gI (v.getD 5 .junk)⟩,XL,λs r=> {r with l:=s.l,qH:=s.qH,iP:=s.iP,tick:=s.tick},λs=>s,λ_ s=>s,[.ret,.exit 0],aku,aaw,U9⟩
abbrev af6:=Jk.run
abbrev aid:=Jk.jf
abbrev aJL:=Jk.q
theorem aFP (s:pF) (hI:aaw s):(XL s).all (λ_=>True):=by
 refine ⟨λc1=>⟨?_,λc2=>⟨?_,λc3=>⟨?_,trivial⟩,λ_=>trivial⟩,λ_=>trivial⟩,λ_=>trivial⟩
 all_goals ((obtain ⟨⟨h0,h1⟩,h2⟩:=hI;simp only [decide_eq_true_eq,ge_iff_le] at c1;omega))
def ac5:Specs:=aW []
theorem ard:∀g S,ac5 g=some S→Valid Tryz.prog aP g S:=aS (l:=[]) trivial
theorem ao8:Jk.Ok:={}
theorem anT:Jk.Pf (aDj):=⟨aL9,λ_ _=>rfl,aGR,aFP⟩
theorem avO:bC Tryz.prog aP (AN 0) (.loop EO) Jk.lp:=bK.snd ao8 anT (aQ (Γ:=ac5) (K:=dR) (L:=ay) ard aA EO (λb hb=>by rw [show ax EO=[] by kernel_rfl] at hb;cases hb)) (λs=>by kernel_rfl)
theorem aw5 (s:pF) (hE:aku s):(λ(x:Ex) (s':pF) (v:Bool)=>(x=.ret∧s'.t8=v)∨(x=.exit 0∧v=false)) (aid s) (af6 s) ((λs:pF=>!L9 s.iP s.tick ((s.l.take (s.i+1).toNat).reverse.find? (λx=>x.2.1==s.qH))) s):=by
 exact bK.mD ao8 anT (λs:pF=>!L9 s.iP s.tick ((s.l.take (s.i+1).toNat).reverse.find? (λx=>x.2.1==s.qH))) (λx s' v=>(x=.ret∧s'.t8=v)∨(x=.exit 0∧v=false)) (λs hI=>by
  show bJ _ _ (ahD s)
  unfold ahD XL;dsimp only [T.rd,T.rl];obtain ⟨⟨h0,h1⟩,h2⟩:=hI;refine ai (λc1=>?_) (λc1=>?_)
  ·refine ai (λc2=>?_) (λc2=>?_)
   ·refine ai (λc3=>?_) (λc3=>?_)
    ·have c1:0≤s.i:=by simpa using c1
     have e:=(o9 c1 (show s.i<(s.l.length:Int) by omega)).2
     refine .inl ⟨rfl,?_⟩;rw [e,List.reverse_append]
     show _=(!L9 s.iP s.tick (List.find? _ (gV s.l s.i::_)))
     rw [List.find?_cons_of_pos (by exact c2)]
     simp only [L9];rw [aH (x:=s.tick-6),show ((gV s.l s.i).2.2.1 !=s.iP)=false by rw [bne,c3];rfl,Bool.false_or]
     by_cases q:(gV s.l s.i).2.2.2.1≤s.tick-6
     ·rw [decide_eq_true q,decide_eq_false (by omega)]
      rfl
     ·rw [decide_eq_false q,decide_eq_true (by omega)]
      rfl
    ·have c1:0≤s.i:=by simpa using c1
     have e:=(o9 c1 (show s.i<(s.l.length:Int) by omega)).2
     refine .inl ⟨rfl,?_⟩;rw [e,List.reverse_append]
     show _=(!L9 s.iP s.tick (List.find? _ (gV s.l s.i::_)))
     rw [List.find?_cons_of_pos (by exact c2)]
     simp only [L9];rw [show ((gV s.l s.i).2.2.1 !=s.iP)=true by rw [bne,c3];rfl,Bool.true_or]
     rfl
   ·have c1:0≤s.i:=by simpa using c1
    have e:=(o9 c1 (show s.i<(s.l.length:Int) by omega)).2
    show (!L9 _ _ _)=(!L9 _ _ _)
    simp only;rw [aH (x:=s.i-1),e,List.reverse_append]
    show _=(!L9 s.iP s.tick (List.find? _ (gV s.l s.i::_)))
    rw [List.find?_cons_of_neg (by rw [c2];decide),show (s.i-1+1).toNat=s.i.toNat by omega]
    rfl
  ·have c1:s.i<0:=by simpa using c1
   refine .inr ⟨rfl,?_⟩;rw [show (s.i+1).toNat=0 by omega]
   rfl) s hE
def ajt:List LV→T LV
 | [.xl (.pair (.int .i64) (.pair (.int .i64) (.pair (.int .i64) (.pair (.int .i64) (.int .i64))))) l,.v (.int .i64 co),.v (.int .i64 am),.v (.int .i64 t)]=> .req ((l.length:Int)≤1000∧0≤t∧t≤1000000) (.ok (.v (.bool (!L9 am t (l.reverse.find? (λx=>x.2.1==co))))))
 |_=> .no
def ad7:List LV→T LV:=gZ Tryz.prog Tryz.f42.params.toList ajt
theorem aye (l:List Le) (co am t:Int):letI a:=(aSe ((l.length:Int)-1));cO Tryz.prog aP (ac5) dR (λi=>if i=2 then Jk.lp else ay i) Tryz.f42 [.xl kY l,.v (.int .i64 co),.v (.int .i64 am),.v (.int .i64 t)]=.req (aJL (⟨l,co,am,t,false,a⟩:pF)) (.br (iV (aid (⟨l,co,am,t,false,a⟩:pF)) (.ret)) (.ok (.v (.bool (af6 (⟨l,co,am,t,false,a⟩:pF)).t8))) (.ok (.v (.bool false)))):=by kernel_rfl
theorem aD5:Valid Tryz.prog aP 42 ad7:=aI Tryz.func42 rfl ard aA (L:=(λi=>if i=2 then Jk.lp else ay i)) (λb hb=>by
 rw [show ax _=[EO] by kernel_rfl] at hb
 simp only [List.mem_cons,List.not_mem_nil,or_false] at hb;subst hb;exact avO) (λargs lv h=>by
 unfold ajt at h;split at h
 ·simp only [canL,canX]
  rw [aye];rename_i l co am t;obtain ⟨⟨hl,ht⟩,rfl⟩:=h
  have ew:aSe ((l.length:Int)-1)=(l.length:Int)-1:=aH
  have hE:aku ⟨l,co,am,t,false,aSe ((l.length:Int)-1)⟩:=⟨ew,hl,ht⟩
  have ev:L9 am t ((l.take (aSe ((l.length:Int)-1)+1).toNat).reverse.find? (λx=>x.2.1==co))=L9 am t (l.reverse.find? (λx=>x.2.1==co)):=by
   rw [ew,show ((l.length:Int)-1+1).toNat=l.length by omega,List.take_length]
  refine ⟨⟨hE,rfl,rfl⟩,?_⟩;rcases aw5 _ hE with ⟨q1,q2⟩ |⟨q1,q2⟩<;>rw [q1]
  ·exact ⟨λ_=>congrArg (λz=>LV.v (.bool z)) (q2.trans (congrArg (λz=>!z) ev)),λh=>by cases h⟩
  ·exact ⟨λh=>(by cases h),λ_=>congrArg (λz=>LV.v (.bool z)) (q2.symm.trans (congrArg (λz=>!z) ev))⟩
 ·cases h)
def ajz:List LV→T LV
 | [.v (.agg ⟨[.string _,.int .i64 _,.int .i64 ph,.int .i64 mn,.int .i64 mx,.int .i64 st,.int .i64 fb,.int .i64 _]⟩),.v (.agg ⟨[.int .i64 a,.int .i64 si]⟩),.v (.int .i64 want)]=> .ok (.v (.tuple #[.agg #[.int .i64 (nA ph mn mx st fb a si want),.int .i64 (nS ph mn mx st fb a si want)],.int .i64 (nE ph mn mx st fb a si want)]))
 |_=> .no
def aec:List LV→T LV:=gZ Tryz.prog Tryz.f41.params.toList ajz
def arH:Specs:=aW [(51,OE),(83,OG)]
theorem aIa:∀g S,arH g=some S→Valid Tryz.prog aP g S:=aS (l:=[(51,OE),(83,OG)]) ⟨amg,amh,trivial⟩
theorem ayk (nm:ByteArray) (at_ ph mn mx st fb ow a si want:Int):letI b:=wz mn mx st want;cO Tryz.prog aP (arH) dR ay Tryz.f41 [.v (.agg #[.string nm,.int .i64 at_,.int .i64 ph,.int .i64 mn,.int .i64 mx,.int .i64 st,.int .i64 fb,.int .i64 ow]),.v (.agg #[.int .i64 a,.int .i64 si]),.v (.int .i64 want)]=.br ((!(P8 ph mn mx st fb a si)) ||((decide (want<0)) ||(decide (want>80)))) (.ok (.v (.tuple #[.agg #[.int .i64 0,.int .i64 0],.int .i64 1]))) (.req (Qk mn mx st) (.br ((a==0)&&((decide (b>0))&&(decide (si≥5)))) (.ok (.v (.tuple #[.agg #[.int .i64 mn,.int .i64 0],.int .i64 0]))) (.br (a==0) (.ok (.v (.tuple #[.agg #[.int .i64 0,.int .i64 (if (1000000:Int)<(aSe (si+1)) then 1000000 else aSe (si+1))],.int .i64 0]))) (.br (b==0) (.ok (.v (.tuple #[.agg #[.int .i64 0,.int .i64 0],.int .i64 0]))) (.ok (.v (.tuple #[.agg #[.int .i64 (if (aSe (a+st))<b then aSe (a+st) else wz mn mx st want),.int .i64 (if (1000000:Int)<(aSe (si+1)) then 1000000 else aSe (si+1))],.int .i64 0]))))))):=by kernel_rfl
theorem aEa:Valid Tryz.prog aP 41 aec:=aI Tryz.func41 rfl aIa aA (bf (by kernel_rfl)) (λargs lv h=>by
 unfold ajz at h;split at h
 ·simp only [canL,canX]
  rw [ayk];rename_i nm at_ ph mn mx st fb ow a si want;obtain rfl:=h
  by_cases hk:okB ph mn mx st fb a si want=true
  ·obtain ⟨k1,k2,k3,k4,k5⟩:=agC hk
   have w1:aSe (si+1)=si+1:=aH
   have w2:aSe (a+st)=a+st:=aH
   have lb:=MX (a:=want) k2.1 k2.2.1 k2.2.2.1 k2.2.2.2.1
   simp only [T.all,nA,nS,nE,k1,w1,w2,hk,V7,if_true]
   by_cases c1:a=0<;>by_cases c2:wz mn mx st want=0<;>by_cases c3:5≤si<;>simp [c1,c2,c3,k2]
   all_goals omega
  ·have hn:(!P8 ph mn mx st fb a si ||(decide (want<0) ||decide (want>80)))=true:=agD hk
   simp only [T.all,nA,nS,nE,hk,hn]
   simp
 ·cases h)
def ajr:List LV→T LV
 | [.agg [.xl (.pair .str (.pair (.int .i64) (.pair (.int .i64) (.pair (.int .i64) (.pair (.pair (.int .i64) (.int .i64)) (.pair (.int .i64) (.pair (.int .i64) (.pair (.int .i64) (.pair (.int .i64) (.int .i64)))))))))) cs,.xl (.str) os,.xl (.pair .str (.pair (.int .i64) (.pair (.int .i64) (.int .i64)))) ks,.xl (.pair .str (.pair (.int .i64) (.pair (.int .i64) (.pair (.int .i64) (.pair (.int .i64) (.pair (.int .i64) (.pair (.int .i64) (.int .i64)))))))) gs,.xl (.pair .str (.int .i64)) bs],.xl (.pair .bool (.pair (.int .i64) (.pair (.int .i64) (.int .i64)))) d,.v (.int .i64 t)]=> .req (Qd (gG cs os ks gs bs)∧Si cs os ks gs bs d∧kX d t∧d.length≤100) (.ok (.xl aSg (Qa cs os ks gs bs d t)))
 |_=> .no
def ad5:List LV→T LV:=gZ Tryz.prog Tryz.f40.params.toList ajr
theorem ayc (cs:List Cd) (os:List ByteArray) (ks:List Ko) (gs:List Ch) (bs:List Ba) (d:List Dm) (t:Int):letI a:=(uX (⟨d,t,(0:Int),cs,os,ks,gs,bs,([]:List Int)⟩:oC));letI b:=(a.most.drop 0).take (List.length a.most);cO Tryz.prog aP (ac6) dR (λi=>if i=3 then IZ.lp else ay i) Tryz.f40 [.agg [.xl dY cs,.xl .str os,.xl fC ks,.xl dP gs,.xl fD bs],.xl jr d,.v (.int .i64 t)]=.req (0=0∧0=List.length ([]:List Int)) (.req (aJr (⟨d,t,(0:Int),cs,os,ks,gs,bs,([]:List Int)⟩:oC)) (.req ((gs.length:Int)≤1000) (.req (kX d t∧d.length≤100) (.req (0+(List.length a.most)≤List.length a.most) (.req (Qd (gG cs os ks gs bs)∧(List.length (mG gs):Int)≤1000∧(List.length b:Int)≤1000∧(gs.length:Int)≤1000) (.ok (.xl aSg (uP cs os ks gs bs (mG gs) b (iK d t))))))))):=by kernel_rfl
theorem aD3:Valid Tryz.prog aP 40 ad5:=aI Tryz.func40 rfl arf aA (L:=(λi=>if i=3 then IZ.lp else ay i)) (λb hb=>by
 rw [show ax _=[Et] by kernel_rfl] at hb
 simp only [List.mem_cons,List.not_mem_nil,or_false] at hb;subst hb;exact avt) (λargs lv h=>by
 unfold ajr at h;split at h
 ·simp only [canL,canX]
  rw [ayc];rename_i cs os ks gs bs d t;obtain ⟨⟨hn,hs,hw⟩,rfl⟩:=h
  have gl:=(fK.1 hs.site).1.2.2.2.2.1
  have hE:akn ⟨d,t,0,cs,os,ks,gs,bs,[]⟩:=⟨rfl,rfl,by show (gs.length:Int)≤1000;omega,hs.dl⟩
  obtain ⟨_,_,_,q1⟩:=awK _ hE
  have q1:(uX ⟨d,t,0,cs,os,ks,gs,bs,[]⟩).most=qj gs d:=q1
  have e1:(mG gs).length=gs.length:=dH
  have e2:(qj gs d).length=gs.length:=dH
  refine ⟨aSf,⟨hE,rfl,rfl⟩,by omega,hw,by omega,?_⟩
  rw [q1,List.drop_zero,List.take_length];refine ⟨⟨hn,by rw [e1];omega,by rw [e2];omega,by omega⟩,?_⟩
  rw [←amS];rfl
 ·cases h)
def ajD:List LV→T LV
 | [.v (.int .i64 n)]=> .ok (.v (.bool (inB n 0 1000000)))
 |_=> .no
def aef:List LV→T LV:=gZ Tryz.prog Tryz.f153.params.toList ajD
def arL:Specs:=aW []
theorem aIe:∀g S,arL g=some S→Valid Tryz.prog aP g S:=aS (l:=[]) trivial
theorem ayo (n:Int):cO Tryz.prog aP (arL) dR ay Tryz.f153 [.v (.int .i64 n)]=.ok (.v (.bool ((decide (n≥0))&&(decide (n≤1000000))))):=by kernel_rfl
theorem aEd:Valid Tryz.prog aP 153 aef:=aI Tryz.func153 rfl aIe aA (bf (by kernel_rfl)) (λargs lv h=>by
 unfold ajD at h;split at h
 ·simp only [canL,canX]
  rw [ayo];exact h
 ·cases h)
def ajC:List LV→T LV
 | [.v (.int .i64 n)]=> .ok (.v (.tuple #[.int .i64 (wtA n),.int .i64 (wtE n)]))
 |_=> .no
def aee:List LV→T LV:=gZ Tryz.prog Tryz.f135.params.toList ajC
def arK:Specs:=aW [(153,aef)]
theorem aId:∀g S,arK g=some S→Valid Tryz.prog aP g S:=aS (l:=[(153,aef)]) ⟨aEd,trivial⟩
theorem ayn (n:Int):cO Tryz.prog aP (arK) dR ay Tryz.f135 [.v (.int .i64 n)]=.br (!(inB n 0 1000000)) (.ok (.v (.tuple #[.int .i64 0,.int .i64 1]))) (.req ((999800:Int)≠0) (.ok (.v (.tuple #[.int .i64 (aSe ((aSe ((aSe (n*1000000))+999799)).tdiv 999800)),.int .i64 0])))):=by kernel_rfl
theorem aEc:Valid Tryz.prog aP 135 aee:=aI Tryz.func135 rfl aId aA (bf (by kernel_rfl)) (λargs lv h=>by
 unfold ajC at h;split at h
 ·simp only [canL,canX]
  rw [ayn];rename_i n;obtain rfl:=h;unfold wtA wtE;refine ⟨λc=>?_,λc=>⟨by decide,?_⟩⟩
  ·rw [ntW c]
   rfl
  ·have c:=Qe c
   have hb:=dV.1 c
   rw [if_pos c,if_pos c,aH (x:=n*1000000),aH (x:=n*1000000+999799),Int.tdiv_eq_ediv_of_nonneg (by omega),aH]
   rfl
 ·cases h)
def ajB:List LV→T LV
 | [.v (.agg ⟨[.int .i64 nu,.int .i64 co,.int .i64 am,.int .i64 fr,.int .i64 tk]⟩)]=> .req ((0≤fr∧fr≤1000000)∧0≤tk∧tk≤1000000) (.ok (.v (.int .i64 (Qj (nu,co,am,fr,tk)))))
 |_=> .no
def aed:List LV→T LV:=gZ Tryz.prog Tryz.f107.params.toList ajB
def arJ:Specs:=aW [(135,aee)]
theorem aIc:∀g S,arJ g=some S→Valid Tryz.prog aP g S:=aS (l:=[(135,aee)]) ⟨aEc,trivial⟩
theorem aym (nu co am fr tk:Int):cO Tryz.prog aP (arJ) dR ay Tryz.f107 [.v (.agg #[.int .i64 nu,.int .i64 co,.int .i64 am,.int .i64 fr,.int .i64 tk])]=.ok (.v (.int .i64 (aSe ((aSe (fr+10))+(wtA tk))))):=by kernel_rfl
theorem aEb:Valid Tryz.prog aP 107 aed:=aI Tryz.func107 rfl aIc aA (bf (by kernel_rfl)) (λargs lv h=>by
 unfold ajB at h;split at h
 ·simp only [canL,canX]
  rw [aym];rename_i nu co am fr tk;obtain ⟨⟨hf,ht⟩,rfl⟩:=h
  have c:inB tk 0 1000000=true:=dV.2 ht
  have hw:=al1 ht.1
  have ea:wtA tk=wt tk:=by unfold wtA;rw [if_pos c]
  rw [ea,aH (x:=fr+10),aH];rfl
 ·cases h)
structure lu where
 l:List Le
 jD:Int
 tick:Int
 e:Int
 i:Int
 bT:List Cd
 iL:List ByteArray
 fB:List Ko
 fP:List Ch
 kQ:List Ba
 out:List Int
def aQe (s:lu):List LV:=[.xl kY s.l,.v (.int .i64 s.jD),.v (.int .i64 s.tick),.v (.slice none 0 0),.v (.int .i64 s.e),.os 1 1 0 (s.out.length),.v (.int .i64 s.i)]
def aOW (s:lu):List aZ:=[⟨[.xl dY s.bT,.xl .str s.iL,.xl fC s.fB,.xl dP s.fP,.xl fD s.kQ],28,.cl,false⟩,⟨[],3,.vec aSg s.out,false⟩]
def ZB:Code:=((ax (Tryz.f60.body.getD .skip))[0]?).getD .skip
def XK (s:lu):T (Rd lu):=
 .br (decide (s.i<(s.l.length:Int))) (.req (0≤s.i∧s.i<(s.l.length:Int)) (.br (decide ((gV s.l s.i).2.1≥s.jD)) (.rl s.out (.ok (.stop (.ret) {s with e:=(1:Int)}))) (.req (0≤s.i∧s.i<(s.l.length:Int)) (.br (decide ((gV s.l s.i).2.2.2.1≤s.tick)) (.req (0≤s.i∧s.i<(s.l.length:Int)) (.req ((0≤(gV s.l s.i).2.2.2.1∧(gV s.l s.i).2.2.2.1≤1000000)∧0≤(gV s.l s.i).2.2.2.2∧(gV s.l s.i).2.2.2.2≤1000000) (.br (decide (s.tick<(Qj (gV s.l s.i)))) (.req (0≤s.i∧s.i<(s.l.length:Int)) (.req (0≤s.i∧s.i<(s.l.length:Int)) (.req (0≤(gV s.l s.i).2.1∧(gV s.l s.i).2.1<((s.out.length:Nat):Int)) (.req (0≤s.i∧s.i<(s.l.length:Int)) (.req ((gV s.l s.i).2.1.toNat<s.out.length) (.req (0≤(gV s.l s.i).2.1∧(gV s.l s.i).2.1<((s.out.length:Nat):Int)) (.req ((gV s.l s.i).2.1.toNat<s.out.length) (.req (0=0∧(s.out.length)=List.length (s.out.set (gV s.l s.i).2.1.toNat (if (s.out.getD (gV s.l s.i).2.1.toNat (Ty.dflt aSg))<(gV s.l s.i).2.2.1 then (gV s.l s.i).2.2.1 else (s.out.getD (gV s.l s.i).2.1.toNat (Ty.dflt aSg))))) (.ok (.next {s with i:=(aSe (s.i+1)),out:=(s.out.set (gV s.l s.i).2.1.toNat (if (s.out.getD (gV s.l s.i).2.1.toNat (Ty.dflt aSg))<(gV s.l s.i).2.2.1 then (gV s.l s.i).2.2.1 else (s.out.getD (gV s.l s.i).2.1.toNat (Ty.dflt aSg))))})))))))))) (.rl s.out (.ok (.next {s with i:=(aSe (s.i+1))})))))) (.rl s.out (.ok (.next {s with i:=(aSe (s.i+1))}))))))) (.rl s.out (.ok (.stop (.exit 0) s)))
abbrev ahC (s:lu):=(XK s).rd s
def akt (s:lu):Prop:=s.i=0∧(s.l.length:Int)≤1000∧(∀x∈s.l,leV x=true∧x.2.1<(s.out.length:Int))∧s.jD=(s.out.length:Int)
def aav (s:lu):Prop:=(0≤s.i∧s.i≤(s.l.length:Int))∧(s.l.length:Int)≤1000∧(∀x∈s.l,leV x=true∧x.2.1<(s.out.length:Int))∧s.jD=(s.out.length:Int)
def GL (s:lu):Nat:=((s.l.length:Int)-s.i).toNat
def aDi (x:Ex) (_ _:lu):Prop:=x=.exit 0
theorem aL7:∀s,akt s→aav s:=by
 intro s h;obtain ⟨h0,h1⟩:=h;exact ⟨by omega,h1⟩
theorem aGO (s:lu) (hI:aav s):bJ (λs'=>aav s'∧GL s'<GL s) (λx s'=>aDi x s s') (ahC s):=by
 unfold ahC XK;dsimp only [T.rd,T.rl];obtain ⟨⟨h0,h1⟩,h2,h3,h4⟩:=hI;refine ai (λc1=>?_) (λc1=>?_)
 ·refine ai (λc2=>?_) (λc2=>?_)
  ·have c1:s.i<(s.l.length:Int):=by simpa using c1
   have hv:=h3 _ (mr h0 c1)
   exact absurd (of_decide_eq_true c2) (by omega)
  ·refine ai (λc3=>?_) (λc3=>?_)
   ·refine ai (λc4=>?_) (λc4=>?_)
    ·have c1:s.i<(s.l.length:Int):=by simpa using c1
     have hv:=h3 _ (mr h0 c1)
     rw [aH (x:=s.i+1)];exact ⟨⟨⟨by simp only;omega,by simp only;omega⟩,h2,λx hx=>by simp only [List.length_set];exact h3 x hx,by simp only [List.length_set];exact h4⟩,by simp only [GL];omega⟩
    ·have c1:s.i<(s.l.length:Int):=by simpa using c1
     have hv:=h3 _ (mr h0 c1)
     rw [aH (x:=s.i+1)];exact ⟨⟨⟨by simp only;omega,by simp only;omega⟩,h2,h3,h4⟩,by simp only [GL];omega⟩
   ·have c1:s.i<(s.l.length:Int):=by simpa using c1
    have hv:=h3 _ (mr h0 c1)
    rw [aH (x:=s.i+1)];exact ⟨⟨⟨by simp only;omega,by simp only;omega⟩,h2,h3,h4⟩,by simp only [GL];omega⟩
 ·exact rfl
def PN:bK lu:=⟨1,82,[0,1,2,6,7,8,9],[],aQe,aOW,λv b=>⟨aU kY (v.getD 0 .junk),gI (v.getD 1 .junk),gI (v.getD 2 .junk),gI (v.getD 4 .junk),gI (v.getD 6 .junk),aU dY (bn (aT b 0) 0),aU .str (bn (aT b 0) 1),aU fC (bn (aT b 0) 2),aU dP (bn (aT b 0) 3),aU fD (bn (aT b 0) 4),iW aSg (aT b 1)⟩,XK,λs r=> {r with l:=s.l,jD:=s.jD,tick:=s.tick,bT:=s.bT,iL:=s.iL,fB:=s.fB,fP:=s.fP,kQ:=s.kQ},λs=>s,λ_ s=>s,[.ret,.exit 0],akt,aav,GL⟩
abbrev lY:=PN.run
abbrev aic:=PN.jf
abbrev aJJ:=PN.q
def xX:Specs:=aW [(50,OD),(107,aed)]
theorem zB:∀g S,xX g=some S→Valid Tryz.prog aP g S:=aS (l:=[(50,OD),(107,aed)]) ⟨amf,aEb,trivial⟩
def acT:Hand:=inl Tryz.prog aP xX (jT Tryz.prog aP (xX) 20 2) 9
theorem aqM:dn Tryz.prog aP acT:=bV zB (dD zB) 9
theorem aFO (s:lu) (hI:aav s):(XK s).all (λ_=>True):=by
 refine ⟨λc1=>⟨?_,λc2=>⟨aSf,trivial⟩,λc2=>⟨?_,λc3=>⟨?_,?_,λc4=>⟨?_,?_,?_,?_,?_,?_,?_,?_,trivial⟩,λc4=>⟨aSf,trivial⟩⟩,λc3=>⟨aSf,trivial⟩⟩⟩,λc1=>⟨aSf,trivial⟩⟩
 all_goals ((obtain ⟨⟨h0,h1⟩,h2,h3,h4⟩:=hI;simp only [decide_eq_true_eq] at c1;have hv:=(h3 _ (mr h0 c1)).2;have hl:=V5.1 (h3 _ (mr h0 c1)).1;first|omega|exact ⟨rfl,by simp⟩))
theorem ao7:PN.Ok:={}
theorem anS:PN.Pf (aDi):=⟨aL7,λ_ _=>rfl,aGO,aFO⟩
theorem avN:bC Tryz.prog aP (AN 1) (.loop ZB) PN.lp:=bK.snd ao7 anS (bI (Γ:=xX) (K:=acT) (L:=(ql Tryz.prog aP xX acT 20 2)) zB aqM ZB (λb _=>dA zB aqM 20 2 b)) (λs=>by kernel_rfl)
theorem aw3 (s:lu) (hE:akt s):(λ(x:Ex) (s':lu) (v:List Int)=>x=.exit 0∧s'.out=v) (aic s) (lY s) ((λs:lu=>((s.l.drop s.i.toNat).filter (AZ s.tick)).foldl kpA s.out) s):=by
 exact bK.mD ao7 anS (λs:lu=>((s.l.drop s.i.toNat).filter (AZ s.tick)).foldl kpA s.out) (λx s' v=>x=.exit 0∧s'.out=v) (λs hI=>by
  show bJ _ _ (ahC s)
  unfold ahC XK;dsimp only [T.rd,T.rl];obtain ⟨⟨h0,h1⟩,h2,h3,h4⟩:=hI;refine ai (λc1=>?_) (λc1=>?_)
  ·refine ai (λc2=>?_) (λc2=>?_)
   ·have c1:s.i<(s.l.length:Int):=by simpa using c1
    have hv:=h3 _ (mr h0 c1)
    exact absurd (of_decide_eq_true c2) (by omega)
   ·refine ai (λc3=>?_) (λc3=>?_)
    ·refine ai (λc4=>?_) (λc4=>?_)
     ·have c1:s.i<(s.l.length:Int):=by simpa using c1
      have hv:=h3 _ (mr h0 c1)
      have e:=(o9 h0 c1).1
      rw [aH (x:=s.i+1)]
      show List.foldl _ _ _=List.foldl _ _ _
      have hb:AZ s.tick (gV s.l s.i)=true:=by
       unfold AZ;rw [c3,decide_eq_true (p:=Qj _>_) (of_decide_eq_true c4)];rfl
      simp only;rw [e,List.filter_cons,if_pos hb,List.foldl_cons];rfl
     ·have c1:s.i<(s.l.length:Int):=by simpa using c1
      have hv:=h3 _ (mr h0 c1)
      have e:=(o9 h0 c1).1
      rw [aH (x:=s.i+1)]
      show List.foldl _ _ _=List.foldl _ _ _
      have hb:¬AZ s.tick (gV s.l s.i)=true:=by
       unfold AZ;rw [decide_eq_false (p:=Qj _>_) (of_decide_eq_false c4),Bool.and_false]
       decide
      simp only;rw [e,List.filter_cons,if_neg hb]
    ·have c1:s.i<(s.l.length:Int):=by simpa using c1
     have hv:=h3 _ (mr h0 c1)
     have e:=(o9 h0 c1).1
     rw [aH (x:=s.i+1)]
     show List.foldl _ _ _=List.foldl _ _ _
     have hb:¬AZ s.tick (gV s.l s.i)=true:=by
      unfold AZ;rw [c3,Bool.false_and]
      decide
     simp only;rw [e,List.filter_cons,if_neg hb]
  ·have c1:(s.l.length:Int)≤s.i:=by simpa using c1
   refine ⟨rfl,?_⟩;rw [List.drop_eq_nil_of_le (by omega)]
   rfl) s hE
structure ji where
 i:Int
 aj:List Cd
 aF:List ByteArray
 ak:List Ko
 af:List Ch
 aN:List Ba
 out:List Int
def aQd (s:ji):List LV:=[.own 0 0,.os 1 1 0 (s.out.length),.v (.int .i64 s.i)]
def aOV (s:ji):List aZ:=[⟨[.xl dY s.aj,.xl .str s.aF,.xl fC s.ak,.xl dP s.af,.xl fD s.aN],28,.cl,false⟩,⟨[],3,.vec aSg s.out,false⟩]
def EN:Code:=((ax (Tryz.f26.body.getD .skip))[0]?).getD .skip
def XJ (s:ji):T (Rd ji):=
 .br (decide (s.i<((s.out.length:Nat):Int))) (.req (0≤s.i∧s.i<((s.out.length:Nat):Int)) (.req (0≤s.i∧s.i<(s.af.length:Int)) (.req (s.i.toNat<s.out.length) (.req (0≤s.i∧s.i<((s.out.length:Nat):Int)) (.req (s.i.toNat<s.out.length) (.req (0=0∧(s.out.length)=List.length (s.out.set s.i.toNat (if (s.out.getD s.i.toNat (Ty.dflt aSg))<(bG s.af s.i).2.2.2.2.2.2.1 then (bG s.af s.i).2.2.2.2.2.2.1 else (s.out.getD s.i.toNat (Ty.dflt aSg))))) (.ok (.next {s with i:=(aSe (s.i+1)),out:=(s.out.set s.i.toNat (if (s.out.getD s.i.toNat (Ty.dflt aSg))<(bG s.af s.i).2.2.2.2.2.2.1 then (bG s.af s.i).2.2.2.2.2.2.1 else (s.out.getD s.i.toNat (Ty.dflt aSg))))})))))))) (.rl s.out (.ok (.stop (.exit 0) s)))
abbrev ahB (s:ji):=(XJ s).rd s
def aks (s:ji):Prop:=s.i=0∧s.out.length=s.af.length∧(s.out.length:Int)≤1000
def aau (s:ji):Prop:=(0≤s.i∧s.i≤(s.out.length:Int))∧s.out.length=s.af.length∧(s.out.length:Int)≤1000
def U8 (s:ji):Nat:=((s.out.length:Int)-s.i).toNat
def aDh (_:Ex) (_ _:ji):Prop:=True
theorem aL6:∀s,aks s→aau s:=by
 intro s h;obtain ⟨h0,h1⟩:=h;exact ⟨by omega,h1⟩
theorem aGN (s:ji) (hI:aau s):bJ (λs'=>aau s'∧U8 s'<U8 s) (λx s'=>aDh x s s') (ahB s):=by
 unfold ahB XJ;dsimp only [T.rd,T.rl];obtain ⟨⟨h0,h1⟩,h2,h3⟩:=hI;refine ai (λc1=>?_) (λc1=>trivial)
 have c1:s.i<(s.out.length:Int):=by simpa using c1
 rw [aH (x:=s.i+1)];exact ⟨⟨⟨by simp only;omega,by simp only [List.length_set];omega⟩,by simp only [List.length_set];exact h2,by simp only [List.length_set];exact h3⟩,by simp only [U8,List.length_set];omega⟩
def Jj:bK ji:=⟨0,40,[3,7,9],[.nl 7 3 aSg],aQd,aOV,λv b=>⟨gI (v.getD 2 .junk),aU dY (bn (aT b 0) 0),aU .str (bn (aT b 0) 1),aU fC (bn (aT b 0) 2),aU dP (bn (aT b 0) 3),aU fD (bn (aT b 0) 4),iW aSg (aT b 1)⟩,XJ,λs r=> {r with aj:=s.aj,aF:=s.aF,ak:=s.ak,af:=s.af,aN:=s.aN},λs=>s,λ_ s=>s,[.exit 0],aks,aau,U8⟩
abbrev lm:=Jj.run
abbrev azL:=Jj.jf
abbrev aeM:=Jj.q
theorem aFN (s:ji) (hI:aau s):(XJ s).all (λ_=>True):=by
 refine ⟨λc1=>⟨?_,?_,?_,?_,?_,?_,trivial⟩,λc1=>⟨aSf,trivial⟩⟩
 all_goals ((obtain ⟨⟨h0,h1⟩,h2,h3⟩:=hI;simp only [decide_eq_true_eq] at c1;first|omega|exact ⟨rfl,by simp⟩))
def acS:Hand:=inl Tryz.prog aP xX (dK 60 1 5 (PN.lp) (jT Tryz.prog aP (xX) 20 2)) 9
theorem aqL:dn Tryz.prog aP acS:=bV zB (bg Tryz.func60 rfl (by kernel_rfl) avN (dD zB)) 9
theorem ao6:Jj.Ok:={}
theorem anR:Jj.Pf (aDh):=⟨aL6,λ_ _=>rfl,aGN,aFN⟩
theorem avM:bC Tryz.prog aP (AN 0) (.loop EN) Jj.lp:=bK.snd ao6 anR (aQ (Γ:=xX) (K:=acS) (L:=ay) zB aqL EN (λb hb=>by rw [show ax EN=[] by kernel_rfl] at hb;cases hb)) (λs=>by kernel_rfl)
theorem aw2 (s:ji) (hE:aks s):(λ(x:Ex) (s':ji) (v:List Int)=>x=.exit 0∧s'.out=v) (azL s) (lm s) ((λs:ji=>sW s.out.length (λj=>if j<s.i then gi s.out j else mx (gi s.out j) (CV (bG s.af j)))) s):=by
 exact bK.mD ao6 anR (λs:ji=>sW s.out.length (λj=>if j<s.i then gi s.out j else mx (gi s.out j) (CV (bG s.af j)))) (λx s' v=>x=.exit 0∧s'.out=v) (λs hI=>by
  show bJ _ _ (ahB s)
  unfold ahB XJ;dsimp only [T.rd,T.rl];obtain ⟨⟨h0,h1⟩,h2,h3⟩:=hI;refine ai (λc1=>?_) (λc1=>?_)
  ·have c1:s.i<(s.out.length:Int):=by simpa using c1
   rw [aH (x:=s.i+1)]
   show sW (List.length (s.out.set _ _)) _=sW _ _
   rw [List.length_set];refine kP (by rw [dH,dH]) λj j0 j1=>?_
   rw [dH] at j1;rw [lq j0 j1,lq j0 j1];simp only;rw [mW h0 (by omega) j0]
   by_cases e:j=s.i
   ·subst e
    rw [if_pos (show s.i<s.i+1 by omega),if_pos rfl,if_neg (show ¬s.i<s.i by omega)]
    rfl
   ·rw [if_neg e]
    by_cases q:j<s.i
    ·rw [if_pos q,if_pos (show j<s.i+1 by omega)]
    ·rw [if_neg q,if_neg (show ¬j<s.i+1 by omega)]
  ·have c1:(s.out.length:Int)≤s.i:=by simpa using c1
   refine ⟨rfl,kP dH.symm λj j0 j1=>?_⟩
   rw [dH] at j1;rw [lq j0 j1,if_pos (show j<s.i by omega)]) s hE
def ajx:List LV→T LV
 | [.agg [.xl (.pair .str (.pair (.int .i64) (.pair (.int .i64) (.pair (.int .i64) (.pair (.pair (.int .i64) (.int .i64)) (.pair (.int .i64) (.pair (.int .i64) (.pair (.int .i64) (.pair (.int .i64) (.int .i64)))))))))) _,.xl (.str) _,.xl (.pair .str (.pair (.int .i64) (.pair (.int .i64) (.int .i64)))) _,.xl (.pair .str (.pair (.int .i64) (.pair (.int .i64) (.pair (.int .i64) (.pair (.int .i64) (.pair (.int .i64) (.pair (.int .i64) (.int .i64)))))))) gs,.xl (.pair .str (.int .i64)) _],.xl (.pair (.int .i64) (.pair (.int .i64) (.pair (.int .i64) (.pair (.int .i64) (.int .i64))))) l,.v (.int .i64 t)]=> .req (Ho l (gs.length:Int) t=true) (.ok (.xl aSg (qw gs l t)))
 |_=> .no
def aeb:List LV→T LV:=gZ Tryz.prog Tryz.f26.params.toList ajx
theorem ayi (cs:List Cd) (os:List ByteArray) (ks:List Ko) (gs:List Ch) (bs:List Ba) (l:List Le) (t:Int):letI b:=(lm (⟨(0:Int),cs,os,ks,gs,bs,([]:List Int)⟩:ji));letI c:=(gs.length:Int);letI e:=(List.replicate c.toNat (0:Int));letI f:=(aeM (⟨(0:Int),cs,os,ks,gs,bs,([]:List Int)⟩:ji));letI g:=List.length b.out;letI a:=(lY (⟨l,c,t,(0:Int),(0:Int),cs,os,ks,gs,bs,e⟩:lu));letI d:=(lm (⟨(0:Int),cs,os,ks,gs,bs,a.out⟩:ji));cO Tryz.prog aP (xX) acS (λi=>if i=3 then Jj.lp else ay i) Tryz.f26 [.agg [.xl dY cs,.xl .str os,.xl fC ks,.xl dP gs,.xl fD bs],.xl kY l,.v (.int .i64 t)]=.req ((l.length:Int)≤1000) (.br ((!(rM l)) ||((decide (c<0)) ||((decide (c>16)) ||((decide (t<0)) ||(decide (t>1100000)))))) (.req (0=0∧0=List.length ([]:List Int)) (.req f (.req (0+g≤List.length b.out) (.ok (.xl aSg ((b.out.drop 0).take g)))))) (.req (0≤c∧c≤c∧8*c≤2^48∧c<2^63) (.req (0=0∧c.toNat=List.length e) (.req (aJJ (⟨l,c,t,(0:Int),(0:Int),cs,os,ks,gs,bs,e⟩:lu)) (.br (iV (aic (⟨l,c,t,(0:Int),(0:Int),cs,os,ks,gs,bs,e⟩:lu)) (.ret)) (.req (0=0∧0=List.length ([]:List Int)) (.req f (.req (0+g≤List.length b.out) (.ok (.xl aSg ((b.out.drop 0).take g)))))) (.rl a.out (.req (aeM (⟨(0:Int),cs,os,ks,gs,bs,a.out⟩:ji)) (.req (0+(List.length d.out)≤List.length d.out) (.ok (.xl aSg ((d.out.drop 0).take (List.length d.out)))))))))))):=by kernel_rfl
theorem aD9:Valid Tryz.prog aP 26 aeb:=aI Tryz.func26 rfl zB aqL (L:=(λi=>if i=3 then Jj.lp else ay i)) (λb hb=>by
 rw [show ax _=[EN] by kernel_rfl] at hb
 simp only [List.mem_cons,List.not_mem_nil,or_false] at hb;subst hb;exact avM) (λargs lv h=>by
 unfold ajx at h;split at h
 ·simp only [canL,canX]
  rw [ayi];rename_i cs os ks gs bs l t;obtain ⟨ho,rfl⟩:=h
  have ho':=ho
  unfold Ho at ho';rw [Bool.and_eq_true] at ho'
  have c:=ho'.1
  have hb:=List.all_eq_true.1 ho'.2
  rw [Bool.and_eq_true,Bool.and_eq_true,dV,dV] at c;obtain ⟨hv,hn,ht⟩:=c
  have hl:=zu hv
  have hr:(!rM l ||(decide ((gs.length:Int)<0) ||(decide ((gs.length:Int)>16) ||(decide (t<0) ||decide (t>1100000)))))=false:=by
   rw [aze,azf,hv,dV.2 hn,dV.2 ht];rfl
  rw [hr];refine ⟨by omega,λh=>(by cases h),λ_=>⟨by omega,⟨rfl,by simp⟩,?_⟩⟩
  have hE:akt ⟨l,(gs.length:Int),t,0,0,cs,os,ks,gs,bs,List.replicate (gs.length:Int).toNat 0⟩:=⟨rfl,by simp only;omega,λx hx=>⟨hl.2 x hx,by
   have:=of_decide_eq_true (hb x hx)
   simp only [List.length_replicate];omega⟩,by simp⟩
  obtain ⟨q1,q2⟩:=aw3 _ hE
  have q2:(lY ⟨l,(gs.length:Int),t,0,0,cs,os,ks,gs,bs,List.replicate (gs.length:Int).toNat 0⟩).out=ZR gs.length l t:=q2.trans (by show List.foldl kpA (List.replicate (gs.length:Int).toNat 0) _=_;rw [Int.toNat_natCast];rfl)
  refine ⟨⟨hE,rfl,rfl⟩,?_⟩;rw [q1];refine ⟨λh=>(by cases h),λ_=>?_⟩
  have hol:(lY ⟨l,(gs.length:Int),t,0,0,cs,os,ks,gs,bs,List.replicate (gs.length:Int).toNat 0⟩).out.length=gs.length:=by rw [q2,zH]
  have hE2:aks ⟨0,cs,os,ks,gs,bs,(lY ⟨l,(gs.length:Int),t,0,0,cs,os,ks,gs,bs,List.replicate (gs.length:Int).toNat 0⟩).out⟩:=⟨rfl,hol,by show ((lY ⟨l,(gs.length:Int),t,0,0,cs,os,ks,gs,bs,List.replicate (gs.length:Int).toNat 0⟩).out.length:Int)≤1000;omega⟩
  obtain ⟨_,q4⟩:=aw2 _ hE2
  have q4:(lm ⟨0,cs,os,ks,gs,bs,(lY ⟨l,(gs.length:Int),t,0,0,cs,os,ks,gs,bs,List.replicate (gs.length:Int).toNat 0⟩).out⟩).out=qw gs l t:=q4.trans (by
   show sW (lY ⟨l,(gs.length:Int),t,0,0,cs,os,ks,gs,bs,List.replicate (gs.length:Int).toNat 0⟩).out.length _=_
   rw [hol];refine kP (by unfold qw;rw [dH,dH]) λj j0 j1=>?_
   unfold qw at j1⊢;rw [dH] at j1;rw [lq j0 j1,lq j0 j1];simp only;rw [if_neg (show ¬j<0 by omega),q2]
   unfold mx;split<;>split<;>omega)
  refine ⟨aSf,⟨hE2,rfl,rfl⟩,by omega,?_⟩
  show LV.xl _ _=_
  rw [List.drop_zero,List.take_length,q4]
 ·cases h)
section
variable {P : List Int → Bool} {tp : Int → Int}
end
section
variable {cs : List Cd} {os : List ByteArray} {ks : List Ko} {gs : List Ch} {bs : List Ba} {l : List Le} {rs : List Ra} {d : List Dm} {t n : Int}
theorem adn {w:List Int}{k:Nat}{j:Int}(h0:0≤j) (h1:j<(k:Int)):gi (Hf gs rs w k) j=Xj (bG gs j) (jd rs j) (gi w j):=lq h0 h1
theorem aNC (h:(!arS cs os ks gs bs l rs d)=false):(l.length:Int)≤1000:=by
 have h:=Qe h
 unfold arS at h;simp only [Bool.and_eq_true,decide_eq_true_eq] at h;omega
end
def aju:List LV→T LV
 | [.agg [.xl (.pair .str (.pair (.int .i64) (.pair (.int .i64) (.pair (.int .i64) (.pair (.pair (.int .i64) (.int .i64)) (.pair (.int .i64) (.pair (.int .i64) (.pair (.int .i64) (.pair (.int .i64) (.int .i64)))))))))) cs,.xl (.str) os,.xl (.pair .str (.pair (.int .i64) (.pair (.int .i64) (.int .i64)))) ks,.xl (.pair .str (.pair (.int .i64) (.pair (.int .i64) (.pair (.int .i64) (.pair (.int .i64) (.pair (.int .i64) (.pair (.int .i64) (.int .i64)))))))) gs,.xl (.pair .str (.int .i64)) bs],.xl (.pair (.int .i64) (.pair (.int .i64) (.pair (.int .i64) (.pair (.int .i64) (.int .i64))))) l,.xl (.pair (.int .i64) (.int .i64)) rs,.xl (.pair .bool (.pair (.int .i64) (.pair (.int .i64) (.int .i64)))) d]=> .ok (.v (.bool (arS cs os ks gs bs l rs d)))
 |_=> .no
def ad8:List LV→T LV:=gZ Tryz.prog Tryz.f12.params.toList aju
def arM:Specs:=aW [(34,adT)]
theorem aIf:∀g S,arM g=some S→Valid Tryz.prog aP g S:=aS (l:=[(34,adT)]) ⟨aDS,trivial⟩
theorem ayf (cs:List Cd) (os:List ByteArray) (ks:List Ko) (gs:List Ch) (bs:List Ba) (l:List Le) (rs:List Ra) (d:List Dm):cO Tryz.prog aP (arM) dR ay Tryz.f12 [.agg [.xl dY cs,.xl .str os,.xl fC ks,.xl dP gs,.xl fD bs],.xl kY l,.xl yu rs,.xl jr d]=.ok (.v (.bool ((decide (cs.length≤40∧os.length≤40∧ks.length≤40∧gs.length≤40∧bs.length≤40))&&((decide ((l.length:Int)≤100))&&((decide ((rs.length:Int)≤40))&&(decide ((d.length:Int)≤40))))))):=by kernel_rfl
theorem aD6:Valid Tryz.prog aP 12 ad8:=aI Tryz.func12 rfl aIf aA (bf (by kernel_rfl)) (λargs lv h=>by
 unfold aju at h;split at h
 ·simp only [canL,canX]
  rw [ayf];exact h
 ·cases h)
structure oI where
 m:List Le
 fJ:List Ra
 d:List Dm
 r:Bool
 n:Int
 i:Int
 aj:List Cd
 aF:List ByteArray
 ak:List Ko
 af:List Ch
 aN:List Ba
def aQL (s:oI):List LV:=[.xl kY s.m,.xl yu s.fJ,.xl jr s.d,.own 0 0,.v (.bool s.r),.v (.int .i64 s.n),.v (.int .i64 s.i)]
def aPt (s:oI):List aZ:=[⟨[.xl dY s.aj,.xl .str s.aF,.xl fC s.ak,.xl dP s.af,.xl fD s.aN],28,.cl,false⟩]
def Fv:Code:=((ax (Tryz.f22.body.getD .skip))[0]?).getD .skip
def afD (s:oI):T (Rd oI):=
 .br (decide (s.i<(s.m.length:Int))) (.req (0≤s.i∧s.i<(s.m.length:Int)) (.br (decide ((gV s.m s.i).2.1≥s.n)) (.ok (.stop (.ret) {s with r:=false})) (.ok (.next {s with i:=(aSe (s.i+1))})))) (.ok (.stop (.exit 0) s))
abbrev aCU (s:oI):=(afD s).rd s
def Pj (s:oI) (j:Int):Bool:=decide ((gV s.m j).2.1<s.n)
def akJ (s:oI):Prop:=s.i=0∧0≤(s.m.length:Int)∧(s.m.length:Int)≤1000∧True
def Tq (s:oI):Prop:=0≤s.i∧s.i≤(s.m.length:Int)∧(s.m.length:Int)≤1000∧(True)∧∀j:Nat,(j:Int)<s.i→Pj s j=true
def VE (s:oI):Nat:=((s.m.length:Int)-s.i).toNat
def atM (x:Ex) (_ s':oI):Prop:=(x=.exit 0∧∀j:Nat,(j:Int)<(s'.m.length:Int)→Pj s' j=true)∨(x=.ret∧s'.r=false∧∃j:Nat,(j:Int)<(s'.m.length:Int)∧Pj s' j=false)
theorem aNM:∀s,akJ s→Tq s:=by
 intro s h;obtain ⟨h0,h1,h2,h3⟩:=h;exact ⟨by omega,by omega,h2,h3,λj hj=>by omega⟩
theorem aIB (s:oI) (hI:Tq s):bJ (λs'=>Tq s'∧VE s'<VE s) (λx s'=>atM x s s') (aCU s):=by
 unfold aCU afD;dsimp only [T.rd,T.rl];obtain ⟨h0,h1,h2,h3,h4⟩:=hI;refine ai (λc1=>ai (λc2=>?_) (λc2=>?_)) (λc1=>?_)
 ·have c1:s.i<(s.m.length:Int):=by simpa using c1
  refine .inr ⟨rfl,rfl,s.i.toNat,by simp only;omega,?_⟩
  rw [Int.toNat_of_nonneg (by omega)]
  have hg:Pj s s.i=false:=by unfold Pj;(simp only [decide_eq_true_eq,decide_eq_false_iff_not] at c2⊢;omega)
  exact hg
 ·have c1:s.i<(s.m.length:Int):=by simpa using c1
  have hg:Pj s s.i=true:=by unfold Pj;(simp only [decide_eq_true_eq,decide_eq_false_iff_not] at c2⊢;omega)
  rw [aH (x:=s.i+1)];refine ⟨⟨by simp only;omega,by simp only;omega,h2,h3,λj hj=>?_⟩,by simp only [VE];omega⟩
  by_cases hji:(j:Int)<s.i
  ·exact h4 j hji
  ·have:(j:Int)=s.i:=by simp only at hj;omega
   rw [this];exact hg
 ·have c1:(s.m.length:Int)≤s.i:=by simpa using c1
  exact .inl ⟨rfl,λj hj=>h4 j (by omega)⟩
def JI:bK oI:=⟨0,119,[1,2,3,6,12,13,14],[],aQL,aPt,λv b=>⟨aU kY (v.getD 0 .junk),aU yu (v.getD 1 .junk),aU jr (v.getD 2 .junk),vW (v.getD 4 .junk),gI (v.getD 5 .junk),gI (v.getD 6 .junk),aU dY (bn (aT b 0) 0),aU .str (bn (aT b 0) 1),aU fC (bn (aT b 0) 2),aU dP (bn (aT b 0) 3),aU fD (bn (aT b 0) 4)⟩,afD,λs r=> {r with m:=s.m,fJ:=s.fJ,d:=s.d,n:=s.n,aj:=s.aj,aF:=s.aF,ak:=s.ak,af:=s.af,aN:=s.aN},λs=>s,λ_ s=>s,[.ret,.exit 0],akJ,Tq,VE⟩
abbrev Af:=JI.run
abbrev aip:=JI.jf
abbrev aKf:=JI.q
theorem aGl (s:oI) (hI:Tq s):(afD s).all (λ_=>True):=by
 refine ⟨λc1=>⟨?_,λ_=>trivial,λ_=>trivial⟩,λ_=>trivial⟩
 ·(obtain ⟨h0,h1,h2,h3,h4⟩:=hI;simp at c1;omega)
def Wu:Specs:=aW [(49,Ox),(50,OD),(51,OE)]
theorem acZ:∀g S,Wu g=some S→Valid Tryz.prog aP g S:=aS (l:=[(49,Ox),(50,OD),(51,OE)]) ⟨al9,amf,amg,trivial⟩
theorem apv:JI.Ok:={}
theorem aoe:JI.Pf (atM):=⟨aNM,λ_ _=>rfl,aIB,aGl⟩
theorem awj:bC Tryz.prog aP (AN 0) (.loop Fv) JI.lp:=bK.snd apv aoe (aQ (Γ:=Wu) (K:=dR) (L:=ay) acZ aA Fv (λb hb=>by rw [show ax Fv=[] by kernel_rfl] at hb;cases hb)) (λs=>by kernel_rfl)
theorem aAd (s:oI) (hE:akJ s):∃s',Tq s'∧atM (aip s) s' (Af s):=bK.fin apv aoe s hE
structure rF where
 rs:List Ra
 d:List Dm
 r:Bool
 n:Int
 i:Int
 aj:List Cd
 aF:List ByteArray
 ak:List Ko
 af:List Ch
 aN:List Ba
def aQK (s:rF):List LV:=[.xl yu s.rs,.xl jr s.d,.own 0 0,.v (.bool s.r),.v (.int .i64 s.n),.v (.int .i64 s.i)]
def aPs (s:rF):List aZ:=[⟨[.xl dY s.aj,.xl .str s.aF,.xl fC s.ak,.xl dP s.af,.xl fD s.aN],28,.cl,false⟩]
def Fq:Code:=((ax (Tryz.f22.body.getD .skip))[1]?).getD .skip
def afC (s:rF):T (Rd rF):=
 .br (decide (s.i<s.n)) (.req (0≤s.i∧s.i<(s.d.length:Int)) (.req (0≤s.i∧s.i<(s.af.length:Int)) (.req (0≤s.i∧s.i<(s.rs.length:Int)) (.br ((!(P8 (bG s.af s.i).2.2.1 (bG s.af s.i).2.2.2.1 (bG s.af s.i).2.2.2.2.1 (bG s.af s.i).2.2.2.2.2.1 (bG s.af s.i).2.2.2.2.2.2.1 (jd s.rs s.i).1 (jd s.rs s.i).2)) ||((decide ((jG s.d s.i).2.1<0)) ||((decide ((jG s.d s.i).2.1>1000000000)) ||((decide ((jG s.d s.i).2.2.1<0)) ||((decide ((jG s.d s.i).2.2.1>1000000)) ||((decide ((jG s.d s.i).2.2.2<1)) ||(decide ((jG s.d s.i).2.2.2>9)))))))) (.ok (.stop (.ret) {s with r:=false})) (.ok (.next {s with i:=(aSe (s.i+1))})))))) (.ok (.stop (.exit 2) s))
abbrev aCT (s:rF):=(afC s).rd s
def Ph (s:rF) (j:Int):Bool:=YF (bG s.af j) (jd s.rs j)&&dmV (jG s.d j)
def akI (s:rF):Prop:=s.i=0∧0≤s.n∧s.n≤1000∧s.n=(s.af.length:Int)∧s.rs.length=s.af.length∧s.d.length=s.af.length
def Tn (s:rF):Prop:=0≤s.i∧s.i≤s.n∧s.n≤1000∧(s.n=(s.af.length:Int)∧s.rs.length=s.af.length∧s.d.length=s.af.length)∧∀j:Nat,(j:Int)<s.i→Ph s j=true
def VD (s:rF):Nat:=(s.n-s.i).toNat
def atL (x:Ex) (_ s':rF):Prop:=(x=.exit 2∧∀j:Nat,(j:Int)<s'.n→Ph s' j=true)∨(x=.ret∧s'.r=false∧∃j:Nat,(j:Int)<s'.n∧Ph s' j=false)
theorem aNL:∀s,akI s→Tn s:=by
 intro s h;obtain ⟨h0,h1,h2,h3⟩:=h;exact ⟨by omega,by omega,h2,h3,λj hj=>by omega⟩
theorem aIA (s:rF) (hI:Tn s):bJ (λs'=>Tn s'∧VD s'<VD s) (λx s'=>atL x s s') (aCT s):=by
 unfold aCT afC;dsimp only [T.rd,T.rl];obtain ⟨h0,h1,h2,h3,h4⟩:=hI;refine ai (λc1=>ai (λc2=>?_) (λc2=>?_)) (λc1=>?_)
 ·have c1:s.i<s.n:=by simpa using c1
  refine .inr ⟨rfl,rfl,s.i.toNat,by simp only;omega,?_⟩
  rw [Int.toNat_of_nonneg (by omega)]
  have hg:Ph s s.i=false:=by unfold Ph;(rw [vbE] at c2;first|exact Qe c2|exact ntW c2)
  exact hg
 ·have c1:s.i<s.n:=by simpa using c1
  have hg:Ph s s.i=true:=by unfold Ph;(rw [vbE] at c2;first|exact Qe c2|exact ntW c2)
  rw [aH (x:=s.i+1)];refine ⟨⟨by simp only;omega,by simp only;omega,h2,h3,λj hj=>?_⟩,by simp only [VD];omega⟩
  by_cases hji:(j:Int)<s.i
  ·exact h4 j hji
  ·have:(j:Int)=s.i:=by simp only at hj;omega
   rw [this];exact hg
 ·have c1:s.n≤s.i:=by simpa using c1
  exact .inl ⟨rfl,λj hj=>h4 j (by omega)⟩
def JH:bK rF:=⟨0,119,[2,3,6,12,13,15],[],aQK,aPs,λv b=>⟨aU yu (v.getD 0 .junk),aU jr (v.getD 1 .junk),vW (v.getD 3 .junk),gI (v.getD 4 .junk),gI (v.getD 5 .junk),aU dY (bn (aT b 0) 0),aU .str (bn (aT b 0) 1),aU fC (bn (aT b 0) 2),aU dP (bn (aT b 0) 3),aU fD (bn (aT b 0) 4)⟩,afC,λs r=> {r with rs:=s.rs,d:=s.d,n:=s.n,aj:=s.aj,aF:=s.aF,ak:=s.ak,af:=s.af,aN:=s.aN},λs=>s,λ_ s=>s,[.ret,.exit 2],akI,Tn,VD⟩
abbrev agj:=JH.run
abbrev aio:=JH.jf
abbrev aKe:=JH.q
theorem aGk (s:rF) (hI:Tn s):(afC s).all (λ_=>True):=by
 refine ⟨λc1=>⟨?_,?_,?_,λ_=>trivial,λ_=>trivial⟩,λ_=>trivial⟩
 all_goals ((obtain ⟨h0,h1,h2,h3,h4⟩:=hI;obtain ⟨h3,h5,h6⟩:=h3;simp at c1;omega))
theorem apu:JH.Ok:={}
theorem aod:JH.Pf (atL):=⟨aNL,λ_ _=>rfl,aIA,aGk⟩
theorem awi:bC Tryz.prog aP (AN 0) (.loop Fq) JH.lp:=bK.snd apu aod (aQ (Γ:=Wu) (K:=dR) (L:=ay) acZ aA Fq (λb hb=>by rw [show ax Fq=[] by kernel_rfl] at hb;cases hb)) (λs=>by kernel_rfl)
theorem aAc (s:rF) (hE:akI s):∃s',Tn s'∧atL (aio s) s' (agj s):=bK.fin apu aod s hE
def ajq:List LV→T LV
 | [.agg [.xl (.pair .str (.pair (.int .i64) (.pair (.int .i64) (.pair (.int .i64) (.pair (.pair (.int .i64) (.int .i64)) (.pair (.int .i64) (.pair (.int .i64) (.pair (.int .i64) (.pair (.int .i64) (.int .i64)))))))))) cs,.xl (.str) os,.xl (.pair .str (.pair (.int .i64) (.pair (.int .i64) (.int .i64)))) ks,.xl (.pair .str (.pair (.int .i64) (.pair (.int .i64) (.pair (.int .i64) (.pair (.int .i64) (.pair (.int .i64) (.pair (.int .i64) (.int .i64)))))))) gs,.xl (.pair .str (.int .i64)) bs],.xl (.pair (.int .i64) (.pair (.int .i64) (.pair (.int .i64) (.pair (.int .i64) (.int .i64))))) l,.xl (.pair (.int .i64) (.int .i64)) rs,.xl (.pair .bool (.pair (.int .i64) (.pair (.int .i64) (.int .i64)))) d,.v (.int .i64 t),.v (.int .i64 n)]=> .req (Qd (gG cs os ks gs bs)∧(l.length:Int)≤1000) (.ok (.v (.bool (P6 cs os ks gs bs l rs d t n))))
 |_=> .no
def ad4:List LV→T LV:=gZ Tryz.prog Tryz.f22.params.toList ajq
theorem ayb (cs:List Cd) (os:List ByteArray) (ks:List Ko) (gs:List Ch) (bs:List Ba) (l:List Le) (rs:List Ra) (d:List Dm) (t n:Int):letI b:=(gs.length:Int);letI a:=(Af (⟨l,rs,d,false,b,(0:Int),cs,os,ks,gs,bs⟩:oI));cO Tryz.prog aP (Wu) dR (λi=>if i=5 then JI.lp else if i=10 then JH.lp else ay i) Tryz.f22 [.agg [.xl dY cs,.xl .str os,.xl fC ks,.xl dP gs,.xl fD bs],.xl kY l,.xl yu rs,.xl jr d,.v (.int .i64 t),.v (.int .i64 n)]=.req (Qd (gG cs os ks gs bs)) (.br (!(fH cs os ks gs bs)) (.ok (.v (.bool false))) (.req ((l.length:Int)≤1000) (.br ((!(rM l)) ||(((rs.length:Int) !=b) ||(((d.length:Int) !=b) ||((decide (t<0)) ||((decide (t>1000000)) ||((decide (n<1)) ||(decide (n>999900)))))))) (.ok (.v (.bool false))) (.req (aKf (⟨l,rs,d,false,b,(0:Int),cs,os,ks,gs,bs⟩:oI)) (.br (iV (aip (⟨l,rs,d,false,b,(0:Int),cs,os,ks,gs,bs⟩:oI)) (.ret)) (.ok (.v (.bool a.r))) (.req (aKe (⟨rs,d,a.r,b,(0:Int),cs,os,ks,gs,bs⟩:rF)) (.br (iV (aio (⟨rs,d,a.r,b,(0:Int),cs,os,ks,gs,bs⟩:rF)) (.ret)) (.ok (.v (.bool (agj (⟨rs,d,a.r,b,(0:Int),cs,os,ks,gs,bs⟩:rF)).r))) (.ok (.v (.bool true)))))))))):=by kernel_rfl
theorem aD2:Valid Tryz.prog aP 22 ad4:=aI Tryz.func22 rfl acZ aA (L:=(λi=>if i=5 then JI.lp else if i=10 then JH.lp else ay i)) (λb hb=>by
 rw [show ax _=[Fv,Fq] by kernel_rfl] at hb
 simp only [List.mem_cons,List.not_mem_nil,or_false] at hb;rcases hb with rfl|rfl
 ·exact awj
 ·exact awi) (λargs lv h=>by
 unfold ajq at h;split at h
 ·simp only [canL,canX]
  rw [ayb];rename_i cs os ks gs bs l rs d t n;obtain ⟨⟨hn,hl⟩,rfl⟩:=h
  have bad:P6 cs os ks gs bs l rs d t n=false→LV.v (.bool false)=LV.v (.bool (P6 cs os ks gs bs l rs d t n)):=λh=>by rw [h]
  refine ⟨hn,λc=>bad (by unfold P6;rw [ntW c];rfl),λc=>⟨hl,?_⟩⟩
  have c:=Qe c
  rw [neN,neN,aze,azf,←Bool.not_and,←Bool.not_and,←Bool.not_and,←Bool.not_and];refine ⟨λc2=>bad ?_,λc2=>?_⟩
  ·unfold P6
   rw [c,Bool.true_and,←Bool.and_assoc,ntW c2,Bool.false_and]
  have c2:=Qe c2
  have c2':=c2
  simp only [Bool.and_eq_true,decide_eq_true_eq] at c2'
  have hg:=(fK.1 c).1.2.2.2.2.1
  have hE:akJ ⟨l,rs,d,false,(gs.length:Int),0,cs,os,ks,gs,bs⟩:=⟨rfl,by simp only;omega,hl,trivial⟩
  have ev:P6 cs os ks gs bs l rs d t n=(below gs.length l&&Gi gs.length (λj=>YF (bG gs j) (jd rs j)&&dmV (jG d j))):=by
   unfold P6;rw [c,Bool.true_and,←Bool.and_assoc,c2,Bool.true_and]
  refine ⟨⟨hE,rfl,rfl⟩,?_⟩;obtain ⟨_,_,hq⟩:=aAd _ hE
  have eb:below gs.length l=Gi l.length (λj=>decide ((gV l j).2.1<(gs.length:Int))):=by
   rw [Bool.eq_iff_iff,gm];exact (jm (d:=(0,0,0,0,0)) (p:=λx:Le=>decide (x.2.1<(gs.length:Int)))).symm
  rcases hq with ⟨q1,q2⟩ |⟨q1,q2,j,q3,q4⟩<;>rw [q1]
  rotate_left
  ·rw [q2]
   exact ⟨λ_=>bad (by rw [ev,eb,vN (n:=l.length) (f:=λj=>decide ((gV l j).2.1<(gs.length:Int))) j q3 q4];rfl),λh=>by cases h⟩
  refine ⟨λh=>(by cases h),λ_=>?_⟩
  have g0:below gs.length l=true:=by rw [eb];exact gm.2 q2
  have hE2:akI ⟨rs,d,(Af ⟨l,rs,d,false,(gs.length:Int),0,cs,os,ks,gs,bs⟩).r,(gs.length:Int),0,cs,os,ks,gs,bs⟩:=⟨rfl,by simp only;omega,by simp only;omega,rfl,c2'.2.1,c2'.2.2.1⟩
  refine ⟨⟨hE2,rfl,rfl⟩,?_⟩;obtain ⟨_,_,hq⟩:=aAc _ hE2;rcases hq with ⟨q5,q6⟩ |⟨q5,q6,j,q7,q8⟩<;>rw [q5]
  ·exact ⟨λh=>(by cases h),λ_=>by rw [ev,g0,(gm (f:=λj=>YF (bG gs j) (jd rs j)&&dmV (jG d j))).2 q6];rfl⟩
  ·rw [q6]
   exact ⟨λ_=>bad (by rw [ev,vN (n:=gs.length) (f:=λj=>YF (bG gs j) (jd rs j)&&dmV (jG d j)) j q7 q8,Bool.and_false]),λh=>by cases h⟩
 ·cases h)
structure jI where
 l:List Le
 fJ:List Ra
 tick:Int
 number:Int
 offered:List Int
 i:Int
 aj:List Cd
 aF:List ByteArray
 ak:List Ko
 af:List Ch
 aN:List Ba
 iP:List Int
 next:List Ra
 bP:List Le
def aQg (s:jI):List LV:=[.xl kY s.l,.xl yu s.fJ,.v (.int .i64 s.tick),.v (.int .i64 s.number),.own 0 0,.xl aSg s.offered,.os 1 1 0 (s.iP.length),.os 2 2 0 (s.next.length),.os 3 5 0 (s.bP.length),.v (.int .i64 s.i)]
def aOY (s:jI):List aZ:=[⟨[.xl dY s.aj,.xl .str s.aF,.xl fC s.ak,.xl dP s.af,.xl fD s.aN],28,.cl,false⟩,⟨[],3,.vec aSg s.iP,false⟩,⟨[],53,.vec yu s.next,false⟩,⟨[],63,.vec kY s.bP,false⟩]
def EP:Code:=((ax (Tryz.f15.body.getD .skip))[0]?).getD .skip
def aa7 (s:jI) (x:Int) (y:Int):T (Rd jI):=
 .br (decide (s.i<(s.af.length:Int))) (.req (0≤s.i∧s.i<(s.af.length:Int)) (.req (0≤s.i∧s.i<(s.fJ.length:Int)) (.req (0≤s.i∧s.i<(s.offered.length:Int)) (.req (0+(s.next.length)=s.next.length∧((s.next.length+List.length ([(x,y)]):Nat):Int)*16≤2^47∧((s.next.length+List.length ([(x,y)]):Nat):Int)<2^62) (.req (0+(s.iP.length)=s.iP.length∧((s.iP.length+List.length ([x]):Nat):Int)*8≤2^47∧((s.iP.length+List.length ([x]):Nat):Int)<2^62) (.br (decide (x>(bG s.af s.i).2.2.2.2.2.2.1)) (.req ((s.l.length:Int)≤1000∧0≤s.tick∧s.tick≤1000000) (.br (!(!L9 x s.tick (s.l.reverse.find? (λx=>x.2.1==s.i)))) (.req (0+(s.bP.length)=s.bP.length∧((s.bP.length+List.length ([((aSe (s.number+((s.bP.length:Nat):Int))),(s.i,(x,(s.tick,(12:Int)))))]):Nat):Int)*40≤2^47∧((s.bP.length+List.length ([((aSe (s.number+((s.bP.length:Nat):Int))),(s.i,(x,(s.tick,(12:Int)))))]):Nat):Int)<2^62) (.req (0=0∧(s.iP.length+List.length ([x]))=List.length (s.iP++([x]))) (.req (0=0∧(s.next.length+List.length ([(x,y)]))=List.length (s.next++([(x,y)]))) (.req (0=0∧(s.bP.length+List.length ([((aSe (s.number+((s.bP.length:Nat):Int))),(s.i,(x,(s.tick,(12:Int)))))]))=List.length (s.bP++([((aSe (s.number+((s.bP.length:Nat):Int))),(s.i,(x,(s.tick,(12:Int)))))]))) (.ok (.next {s with i:=(aSe (s.i+1)),iP:=(s.iP++([x])),next:=(s.next++([(x,y)])),bP:=(s.bP++([((aSe (s.number+((s.bP.length:Nat):Int))),(s.i,(x,(s.tick,(12:Int)))))]))})))))) (.req (0=0∧(s.iP.length+List.length ([x]))=List.length (s.iP++([x]))) (.req (0=0∧(s.next.length+List.length ([(x,y)]))=List.length (s.next++([(x,y)]))) (.rl s.bP (.ok (.next {s with i:=(aSe (s.i+1)),iP:=(s.iP++([x])),next:=(s.next++([(x,y)]))}))))))) (.req (0=0∧(s.iP.length+List.length ([x]))=List.length (s.iP++([x]))) (.req (0=0∧(s.next.length+List.length ([(x,y)]))=List.length (s.next++([(x,y)]))) (.rl s.bP (.ok (.next {s with i:=(aSe (s.i+1)),iP:=(s.iP++([x])),next:=(s.next++([(x,y)]))}))))))))))) (.rl s.iP (.rl s.next (.rl s.bP (.ok (.stop (.exit 0) s)))))
abbrev amw (s:jI):=letI a:=bG s.af s.i;letI b:=jd s.fJ s.i;aa7 s (nA a.2.2.1 a.2.2.2.1 a.2.2.2.2.1 a.2.2.2.2.2.1 a.2.2.2.2.2.2.1 b.1 b.2 (gi s.offered s.i)) (nS a.2.2.1 a.2.2.2.1 a.2.2.2.2.1 a.2.2.2.2.2.1 a.2.2.2.2.2.2.1 b.1 b.2 (gi s.offered s.i))
abbrev aNF (s:jI):=(amw s).rd s
def akv (s:jI):Prop:=s.i=0∧s.iP=[]∧s.next=[]∧s.bP=[]∧((s.af.length:Int)≤16∧s.fJ.length=s.af.length∧s.offered.length=s.af.length)∧((s.l.length:Int)≤1000∧0≤s.tick∧s.tick≤1000000)∧1≤s.number∧s.number≤999900
def IG (s:jI):Prop:=(0≤s.i∧s.i≤(s.af.length:Int))∧s.iP=Hf s.af s.fJ s.offered s.i.toNat∧s.next=dcR s.af s.fJ s.offered s.i.toNat∧s.bP=dcL s.af s.l s.tick s.number (Hf s.af s.fJ s.offered s.af.length) s.i.toNat∧((s.af.length:Int)≤16∧s.fJ.length=s.af.length∧s.offered.length=s.af.length)∧((s.l.length:Int)≤1000∧0≤s.tick∧s.tick≤1000000)∧1≤s.number∧s.number≤999900
def zh (s:jI):Nat:=((s.af.length:Int)-s.i).toNat
def akg (x:Ex) (_ s':jI):Prop:=x=.exit 0∧s'.iP=Hf s'.af s'.fJ s'.offered s'.af.length∧s'.next=dcR s'.af s'.fJ s'.offered s'.af.length∧s'.bP=dcL s'.af s'.l s'.tick s'.number (Hf s'.af s'.fJ s'.offered s'.af.length) s'.af.length
theorem aMc:∀s,akv s→IG s:=by
 intro s h;obtain ⟨h0,h1,h2,h3,h4⟩:=h;exact ⟨by omega,by rw [h0,h1];rfl,by rw [h0,h2];rfl,by rw [h0,h3];rfl,h4⟩
theorem aw9 (s:jI) (hI:IG s) (x:Int) (y:Int) (hx:nA (bG s.af s.i).2.2.1 (bG s.af s.i).2.2.2.1 (bG s.af s.i).2.2.2.2.1 (bG s.af s.i).2.2.2.2.2.1 (bG s.af s.i).2.2.2.2.2.2.1 (jd s.fJ s.i).1 (jd s.fJ s.i).2 (gi s.offered s.i)=x) (hy:nS (bG s.af s.i).2.2.1 (bG s.af s.i).2.2.2.1 (bG s.af s.i).2.2.2.2.1 (bG s.af s.i).2.2.2.2.2.1 (bG s.af s.i).2.2.2.2.2.2.1 (jd s.fJ s.i).1 (jd s.fJ s.i).2 (gi s.offered s.i)=y):bJ (λs'=>IG s'∧zh s'<zh s) (λx s'=>akg x s s') ((aa7 s x y).rd s):=by
 unfold aa7;dsimp only [T.rd,T.rl];obtain ⟨⟨h0,h1⟩,hA,hR,hL,⟨h2,h3,h4⟩,⟨h5,h6,h7⟩,h8,h9⟩:=hI
 have hal:s.iP.length=s.i.toNat:=(by rw [hA];exact dH)
 have hrl:s.next.length=s.i.toNat:=(by rw [hR];exact AL)
 have hll:s.bP.length≤s.i.toNat:=(by rw [hL];exact yc)
 refine ai (λc1=>?_) (λc1=>?_)
 ·refine ai (λc2=>?_) (λc2=>?_)
  ·refine ai (λc3=>?_) (λc3=>?_)
   ·have c1:s.i<(s.af.length:Int):=by simpa using c1
    have hx':Xj (bG s.af s.i) (jd s.fJ s.i) (gi s.offered s.i)=x:=hx
    have hy':nxS (bG s.af s.i) (jd s.fJ s.i) (gi s.offered s.i)=y:=hy
    have hs:(s.i+1).toNat=s.i.toNat+1:=by omega
    have eA:Hf s.af s.fJ s.offered (s.i+1).toNat=s.iP++[x]:=by
     rw [hs,hA];unfold Hf;rw [tJ,Int.toNat_of_nonneg h0,hx']
    have eR:dcR s.af s.fJ s.offered (s.i+1).toNat=s.next++[(x,y)]:=by
     rw [hs,hR];unfold dcR;rw [List.range_succ,List.map_append]
     show _++[(Xj (bG s.af (s.i.toNat:Nat)) (jd s.fJ (s.i.toNat:Nat)) (gi s.offered (s.i.toNat:Nat)),nxS (bG s.af (s.i.toNat:Nat)) (jd s.fJ (s.i.toNat:Nat)) (gi s.offered (s.i.toNat:Nat)))]=_
     rw [Int.toNat_of_nonneg h0,hx',hy']
    have gA:gi (Hf s.af s.fJ s.offered s.af.length) (s.i.toNat:Nat)=x:=by rw [Int.toNat_of_nonneg h0,adn h0 c1,hx']
    rw [aH (x:=s.i+1)];rw [aH (x:=s.number+(s.bP.length:Int))]
    have hb:nwB s.af s.l s.tick (s.i.toNat:Nat) x=true:=by
     unfold nwB
     have c2:x>CV (bG s.af s.i):=of_decide_eq_true c2
     rw [Int.toNat_of_nonneg h0,decide_eq_false (by omega)]
     simpa using c3
    refine ⟨⟨⟨by simp only;omega,by simp only;omega⟩,eA.symm,eR.symm,?_,⟨h2,h3,h4⟩,⟨h5,h6,h7⟩,h8,h9⟩,by simp only [zh];omega⟩
    simp only;rw [hs,dcL,←hL,gA,hb,if_pos rfl,Int.toNat_of_nonneg h0]
   ·have c1:s.i<(s.af.length:Int):=by simpa using c1
    have hx':Xj (bG s.af s.i) (jd s.fJ s.i) (gi s.offered s.i)=x:=hx
    have hy':nxS (bG s.af s.i) (jd s.fJ s.i) (gi s.offered s.i)=y:=hy
    have hs:(s.i+1).toNat=s.i.toNat+1:=by omega
    have eA:Hf s.af s.fJ s.offered (s.i+1).toNat=s.iP++[x]:=by
     rw [hs,hA];unfold Hf;rw [tJ,Int.toNat_of_nonneg h0,hx']
    have eR:dcR s.af s.fJ s.offered (s.i+1).toNat=s.next++[(x,y)]:=by
     rw [hs,hR];unfold dcR;rw [List.range_succ,List.map_append]
     show _++[(Xj (bG s.af (s.i.toNat:Nat)) (jd s.fJ (s.i.toNat:Nat)) (gi s.offered (s.i.toNat:Nat)),nxS (bG s.af (s.i.toNat:Nat)) (jd s.fJ (s.i.toNat:Nat)) (gi s.offered (s.i.toNat:Nat)))]=_
     rw [Int.toNat_of_nonneg h0,hx',hy']
    have gA:gi (Hf s.af s.fJ s.offered s.af.length) (s.i.toNat:Nat)=x:=by rw [Int.toNat_of_nonneg h0,adn h0 c1,hx']
    rw [aH (x:=s.i+1)]
    have hb:nwB s.af s.l s.tick (s.i.toNat:Nat) x=false:=by
     unfold nwB
     have c3:L9 x s.tick (s.l.reverse.find? (λx=>x.2.1==s.i))=false:=by simpa using c3
     rw [Int.toNat_of_nonneg h0,c3,Bool.and_false]
    refine ⟨⟨⟨by simp only;omega,by simp only;omega⟩,eA.symm,eR.symm,?_,⟨h2,h3,h4⟩,⟨h5,h6,h7⟩,h8,h9⟩,by simp only [zh];omega⟩
    simp only;rw [hs,dcL,←hL,gA,hb,if_neg (by decide),List.append_nil]
  ·have c1:s.i<(s.af.length:Int):=by simpa using c1
   have hx':Xj (bG s.af s.i) (jd s.fJ s.i) (gi s.offered s.i)=x:=hx
   have hy':nxS (bG s.af s.i) (jd s.fJ s.i) (gi s.offered s.i)=y:=hy
   have hs:(s.i+1).toNat=s.i.toNat+1:=by omega
   have eA:Hf s.af s.fJ s.offered (s.i+1).toNat=s.iP++[x]:=by
    rw [hs,hA];unfold Hf;rw [tJ,Int.toNat_of_nonneg h0,hx']
   have eR:dcR s.af s.fJ s.offered (s.i+1).toNat=s.next++[(x,y)]:=by
    rw [hs,hR];unfold dcR;rw [List.range_succ,List.map_append]
    show _++[(Xj (bG s.af (s.i.toNat:Nat)) (jd s.fJ (s.i.toNat:Nat)) (gi s.offered (s.i.toNat:Nat)),nxS (bG s.af (s.i.toNat:Nat)) (jd s.fJ (s.i.toNat:Nat)) (gi s.offered (s.i.toNat:Nat)))]=_
    rw [Int.toNat_of_nonneg h0,hx',hy']
   have gA:gi (Hf s.af s.fJ s.offered s.af.length) (s.i.toNat:Nat)=x:=by rw [Int.toNat_of_nonneg h0,adn h0 c1,hx']
   rw [aH (x:=s.i+1)]
   have hb:nwB s.af s.l s.tick (s.i.toNat:Nat) x=false:=by
    unfold nwB
    have c2:¬x>CV (bG s.af s.i):=of_decide_eq_false c2
    rw [Int.toNat_of_nonneg h0,decide_eq_true (by omega)]
    rfl
   refine ⟨⟨⟨by simp only;omega,by simp only;omega⟩,eA.symm,eR.symm,?_,⟨h2,h3,h4⟩,⟨h5,h6,h7⟩,h8,h9⟩,by simp only [zh];omega⟩
   simp only;rw [hs,dcL,←hL,gA,hb,if_neg (by decide),List.append_nil]
 ·have c1:(s.af.length:Int)≤s.i:=by simpa using c1
  have hi:s.i.toNat=s.af.length:=by omega
  exact ⟨rfl,by rw [hA,hi],by rw [hR,hi],by rw [hi] at hL;exact hL⟩
theorem aGW (s:jI) (hI:IG s):bJ (λs'=>IG s'∧zh s'<zh s) (λx s'=>akg x s s') (aNF s):=aw9 s hI _ _ rfl rfl
def Jl:bK jI:=⟨0,112,[1,2,4,5,6,16,18,19,20,21],[.nl 18 3 aSg,.nl 19 53 yu,.nl 20 63 kY],aQg,aOY,λv b=>⟨aU kY (v.getD 0 .junk),aU yu (v.getD 1 .junk),gI (v.getD 2 .junk),gI (v.getD 3 .junk),aU aSg (v.getD 5 .junk),gI (v.getD 9 .junk),aU dY (bn (aT b 0) 0),aU .str (bn (aT b 0) 1),aU fC (bn (aT b 0) 2),aU dP (bn (aT b 0) 3),aU fD (bn (aT b 0) 4),iW aSg (aT b 1),iW yu (aT b 2),iW kY (aT b 3)⟩,amw,λs r=> {r with l:=s.l,fJ:=s.fJ,tick:=s.tick,number:=s.number,offered:=s.offered,aj:=s.aj,aF:=s.aF,ak:=s.ak,af:=s.af,aN:=s.aN},λs=>s,λ_ s=>s,[.exit 0],akv,IG,zh⟩
abbrev jO:=Jl.run
abbrev azM:=Jl.jf
abbrev aJM:=Jl.q
theorem aFQ (s:jI) (hI:IG s):(amw s).all (λ_=>True):=by
 refine ⟨λc1=>⟨?_,?_,?_,?_,?_,λc2=>⟨?_,λc3=>⟨?_,?_,?_,?_,trivial⟩,λc3=>⟨?_,?_,aSf,trivial⟩⟩,λc2=>⟨?_,?_,aSf,trivial⟩⟩,λc1=>⟨aSf,aSf,aSf,trivial⟩⟩
 all_goals ((obtain ⟨⟨h0,h1⟩,hA,hR,hL,⟨h2,h3,h4⟩,⟨h5,h6,h7⟩,h8,h9⟩:=hI;have hal:s.iP.length=s.i.toNat:=(by rw [hA];exact dH);have hrl:s.next.length=s.i.toNat:=(by rw [hR];exact AL);have hll:s.bP.length≤s.i.toNat:=(by rw [hL];exact yc);(try simp only [decide_eq_true_eq] at c1);first|omega|exact ⟨h5,h6,h7⟩ |(refine ⟨by omega,?_,?_⟩<;>simp only [List.length_cons,List.length_nil]<;>omega) |exact ⟨rfl,by simp⟩))
def ac4:Specs:=aW [(20,CJ),(22,ad4),(26,aeb),(39,FT),(40,ad5),(41,aec),(42,ad7)]
theorem arb:∀g S,ac4 g=some S→Valid Tryz.prog aP g S:=aS (l:=[(20,CJ),(22,ad4),(26,aeb),(39,FT),(40,ad5),(41,aec),(42,ad7)]) ⟨aa4,aD2,aD9,aeT,aD3,aEa,aD5,trivial⟩
theorem ao9:Jl.Ok:={}
theorem anU:Jl.Pf (akg):=⟨aMc,λ_ _=>rfl,aGW,aFQ⟩
theorem avP:bC Tryz.prog aP (AN 0) (.loop EP) Jl.lp:=bK.snd ao9 anU (aQ (Γ:=ac4) (K:=dR) (L:=ay) arb aA EP (λb hb=>by rw [show ax EP=[] by kernel_rfl] at hb;cases hb)) (λs=>by kernel_rfl)
theorem aw8 (s:jI) (hE:akv s):∃s',IG s'∧akg (azM s) s' (jO s):=bK.fin ao9 anU s hE
def ajv:List LV→T LV
 | [.agg [.xl (.pair .str (.pair (.int .i64) (.pair (.int .i64) (.pair (.int .i64) (.pair (.pair (.int .i64) (.int .i64)) (.pair (.int .i64) (.pair (.int .i64) (.pair (.int .i64) (.pair (.int .i64) (.int .i64)))))))))) cs,.xl (.str) os,.xl (.pair .str (.pair (.int .i64) (.pair (.int .i64) (.int .i64)))) ks,.xl (.pair .str (.pair (.int .i64) (.pair (.int .i64) (.pair (.int .i64) (.pair (.int .i64) (.pair (.int .i64) (.pair (.int .i64) (.int .i64)))))))) gs,.xl (.pair .str (.int .i64)) bs],.xl (.pair (.int .i64) (.pair (.int .i64) (.pair (.int .i64) (.pair (.int .i64) (.int .i64))))) l,.xl (.pair (.int .i64) (.int .i64)) rs,.xl (.pair .bool (.pair (.int .i64) (.pair (.int .i64) (.int .i64)))) d,.v (.int .i64 t),.v (.int .i64 n)]=> .req (Qd (gG cs os ks gs bs)∧(l.length:Int)≤1000) (.ok (.iU [.xl aSg (deA cs os ks gs bs l rs d t n),.xl yu (deR cs os ks gs bs l rs d t n),.xl kY (deL cs os ks gs bs l rs d t n),.v (.int .i64 (deE cs os ks gs bs l rs d t n))]))
 |_=> .no
def ad9:List LV→T LV:=gZ Tryz.prog Tryz.f15.params.toList ajv
theorem ayg (cs:List Cd) (os:List ByteArray) (ks:List Ko) (gs:List Ch) (bs:List Ba) (l:List Le) (rs:List Ra) (d:List Dm) (t n:Int):letI b:=uP cs os ks gs bs (qw gs l t) (Qa cs os ks gs bs d t) (iK d t);letI c:=gG cs os ks gs bs;letI a:=(jO (⟨l,rs,t,n,b,(0:Int),cs,os,ks,gs,bs,([]:List Int),([]:List Ra),([]:List Le)⟩:jI));cO Tryz.prog aP (ac4) dR (λi=>if i=8 then Jl.lp else ay i) Tryz.f15 [.agg [.xl dY cs,.xl .str os,.xl fC ks,.xl dP gs,.xl fD bs],.xl kY l,.xl yu rs,.xl jr d,.v (.int .i64 t),.v (.int .i64 n)]=.req (Qd c∧(l.length:Int)≤1000) (.br (!(P6 cs os ks gs bs l rs d t n)) (.ok (.iU [.xl aSg ([]:List Int),.xl yu ([]:List Ra),.xl kY ([]:List Le),.v (.int .i64 1)])) (.req (Ho l (gs.length:Int) t=true) (.req (Qd c∧Si cs os ks gs bs d∧kX d t∧d.length≤100) (.req (kX d t∧d.length≤100) (.req (Qd c∧(List.length (qw gs l t):Int)≤1000∧(List.length (Qa cs os ks gs bs d t):Int)≤1000∧(gs.length:Int)≤1000) (.req (0=0∧0=List.length ([]:List Int)) (.req (0=0∧0=List.length ([]:List Ra)) (.req (0=0∧0=List.length ([]:List Le)) (.req (aJM (⟨l,rs,t,n,b,(0:Int),cs,os,ks,gs,bs,([]:List Int),([]:List Ra),([]:List Le)⟩:jI)) (.req (0+(List.length a.iP)≤List.length a.iP) (.req (0+(List.length a.next)≤List.length a.next) (.req (0+(List.length a.bP)≤List.length a.bP) (.ok (.iU [.xl aSg ((a.iP.drop 0).take (List.length a.iP)),.xl yu ((a.next.drop 0).take (List.length a.next)),.xl kY ((a.bP.drop 0).take (List.length a.bP)),.v (.int .i64 0)])))))))))))))):=by kernel_rfl
theorem aD7:Valid Tryz.prog aP 15 ad9:=aI Tryz.func15 rfl arb aA (L:=(λi=>if i=8 then Jl.lp else ay i)) (λb hb=>by
 rw [show ax _=[EP] by kernel_rfl] at hb
 simp only [List.mem_cons,List.not_mem_nil,or_false] at hb;subst hb;exact avP) (λargs lv h=>by
 unfold ajv at h;split at h
 ·simp only [canL,canX]
  rw [ayg];rename_i cs os ks gs bs l rs d t n;obtain ⟨⟨hn,hl⟩,rfl⟩:=h;refine ⟨⟨hn,hl⟩,λc=>?_,λc=>?_⟩
  ·unfold deA deR deL deE
   rw [ntW c];rfl
  have c:=Qe c
  have V:=Xo c
  have hw:=aKN V
  have gl:=V.gl
  have la:(qw gs l t).length=gs.length:=dH
  have lt_:(Qa cs os ks gs bs d t).length=gs.length:=(amk V.si).1
  rw [show uP cs os ks gs bs (qw gs l t) (Qa cs os ks gs bs d t) (iK d t)=ofL cs os ks gs bs l d t from amS.symm]
  have hE:akv ⟨l,rs,t,n,ofL cs os ks gs bs l d t,0,cs,os,ks,gs,bs,[],[],[]⟩:=⟨rfl,rfl,rfl,rfl,⟨by show (gs.length:Int)≤16;omega,V.rl,(apI V).1⟩,⟨hl,V.tb⟩,V.nb⟩
  obtain ⟨_,_,_,q1,q2,q3⟩:=aw8 _ hE
  have q1:(jO ⟨l,rs,t,n,ofL cs os ks gs bs l d t,0,cs,os,ks,gs,bs,[],[],[]⟩).iP=deA cs os ks gs bs l rs d t n:=q1.trans (by unfold deA;rw [if_pos c];rfl)
  have q2:(jO ⟨l,rs,t,n,ofL cs os ks gs bs l d t,0,cs,os,ks,gs,bs,[],[],[]⟩).next=deR cs os ks gs bs l rs d t n:=q2.trans (by unfold deR;rw [if_pos c];rfl)
  have q3:(jO ⟨l,rs,t,n,ofL cs os ks gs bs l d t,0,cs,os,ks,gs,bs,[],[],[]⟩).bP=deL cs os ks gs bs l rs d t n:=q3.trans (by unfold deL;rw [if_pos c];rfl)
  refine ⟨aiS V,⟨hn,V.si,hw.1,by omega⟩,⟨hw.1,by omega⟩,⟨hn,by omega,by omega,by omega⟩,aSf,aSf,aSf,⟨hE,rfl,rfl⟩,by omega,by omega,by omega,?_⟩
  show LV.iU [LV.xl _ _,LV.xl _ _,LV.xl _ _,_]=_
  rw [List.drop_zero,List.take_length,List.drop_zero,List.take_length,List.drop_zero,List.take_length,q1,q2,q3];unfold deE;rw [if_pos c]
 ·cases h)
def asV:List LV→T LV
 | [.v (.int .i64 r),.v (.int .i64 m)]=> .req ((0≤r∧r≤1000000)∧0≤m∧m≤3000000) (.ok (.v (.int .i64 (m*r / 1000000))))
 |_=> .no
def asC:List LV→T LV:=gZ Tryz.prog Tryz.f156.params.toList asV
def arw:Specs:=aW []
theorem aBV:∀g S,arw g=some S→Valid Tryz.prog aP g S:=aS (l:=[]) trivial
theorem aHB (r m:Int):cO Tryz.prog aP (arw) dR ay Tryz.f156 [.v (.int .i64 r),.v (.int .i64 m)]=.req ((1000000:Int)≠0) (.ok (.v (.int .i64 (aSe ((aSe (m*r)).tdiv 1000000))))):=by kernel_rfl
theorem aK6:Valid Tryz.prog aP 156 asC:=aI Tryz.func156 rfl aBV aA (bf (by kernel_rfl)) (λargs lv h=>by
 unfold asV at h;split at h
 ·simp only [canL,canX]
  rw [aHB];rename_i r m;obtain ⟨⟨hr,hm⟩,rfl⟩:=h
  have h1:=aRm (a:=m) (b:=r) hm.1 hm.2 hr.1 hr.2
  have h2:0≤m*r / 1000000∧m*r / 1000000≤m*r:=by omega
  refine ⟨by omega,congrArg (λz=>LV.v (.int .i64 z)) ?_⟩
  rw [aH (x:=m*r),Int.tdiv_eq_ediv_of_nonneg h1.1,aH]
 ·cases h)
def ajT:List LV→T LV
 | [.v (.int .i64 n)]=> .ok (.v (.bool (inB n 0 1000000)))
 |_=> .no
def aeu:List LV→T LV:=gZ Tryz.prog Tryz.f154.params.toList ajT
theorem ayE (n:Int):cO Tryz.prog aP (arw) dR ay Tryz.f154 [.v (.int .i64 n)]=.ok (.v (.bool ((decide (n≥0))&&(decide (n≤1000000))))):=by kernel_rfl
theorem aEq:Valid Tryz.prog aP 154 aeu:=aI Tryz.func154 rfl aBV aA (bf (by kernel_rfl)) (λargs lv h=>by
 unfold ajT at h;split at h
 ·simp only [canL,canX]
  rw [ayE];exact h
 ·cases h)
structure uM where
 low:Int
 high:Int
 r:Int
 n:Int
def aQC (s:uM):List LV:=[.v (.int .i64 s.low),.v (.int .i64 s.high),.fn 162 [.own 1 0,.own 0 0,.own 2 0]]
def aPk (s:uM):List aZ:=[⟨[.v (.int .i64 s.r)],202,.cl,false⟩,⟨[.fn 156 []],203,.cl,false⟩,⟨[.v (.int .i64 s.n)],3,.cl,false⟩]
def ZF:Code:=((ax (Tryz.f161.body.getD .skip))[0]?).getD .skip
def afy (s:uM):T (Rd uM):=
 .br (decide (s.low<s.high)) (.req ((2:Int)≠0) (.req ((0≤s.r∧s.r≤1000000)∧0≤(aSe (s.low+(aSe ((aSe (s.high-s.low)).tdiv 2))))∧(aSe (s.low+(aSe ((aSe (s.high-s.low)).tdiv 2))))≤3000000) (.br (decide (((aSe (s.low+(aSe ((aSe (s.high-s.low)).tdiv 2))))*s.r / 1000000)≥s.n)) (.ok (.next {s with high:=(aSe (s.low+(aSe ((aSe (s.high-s.low)).tdiv 2))))})) (.ok (.next {s with low:=(aSe ((aSe (s.low+(aSe ((aSe (s.high-s.low)).tdiv 2))))+1))}))))) (.ok (.stop (.exit 0) s))
abbrev aCP (s:uM):=(afy s).rd s
def akF (s:uM):Prop:=s.low=0∧s.high=2*s.n+2∧s.r=999800∧0≤s.n∧s.n≤1000000
def Tc (s:uM):Prop:=(0≤s.low∧s.low≤wt s.n)∧(wt s.n≤s.high∧s.high≤2*s.n+2)∧s.r=999800∧0≤s.n∧s.n≤1000000
def ML (s:uM):Nat:=(s.high-s.low).toNat
def atF (x:Ex) (_ s':uM):Prop:=x=.exit 0∧s'.low=wt s'.n
theorem aMP:∀s,akF s→Tc s:=by
 intro s h;obtain ⟨h0,h1,h2,h3,h4⟩:=h
 have:=al1 h3
 exact ⟨by omega,by omega,h2,h3,h4⟩
theorem aHL (s:uM) (hI:Tc s):bJ (λs'=>Tc s'∧ML s'<ML s) (λx s'=>atF x s s') (aCP s):=by
 unfold aCP afy;dsimp only [T.rd,T.rl];obtain ⟨⟨h0,h1⟩,⟨h2,h3⟩,h4,h5,h6⟩:=hI;refine ai (λc1=>?_) (λc1=>?_)
 ·have c1:s.low<s.high:=by simpa using c1
  have hd:(s.high-s.low).tdiv 2=(s.high-s.low) / 2:=Int.tdiv_eq_ediv_of_nonneg (by omega)
  have hm:aSe (s.low+aSe ((aSe (s.high-s.low)).tdiv 2))=s.low+(s.high-s.low) / 2:=by
   rw [aH (x:=s.high-s.low),hd,aH (x:=(s.high-s.low) / 2),aH]
  rw [hm];refine ai (λc2=>?_) (λc2=>?_)
  ·rw [decide_eq_true_eq,h4,al0] at c2
   exact ⟨⟨⟨h0,h1⟩,⟨by simp only;omega,by simp only;omega⟩,h4,h5,h6⟩,by simp only [ML];omega⟩
  ·rw [decide_eq_false_iff_not,h4,al0] at c2
   rw [aH (x:=s.low+(s.high-s.low) / 2+1)];exact ⟨⟨⟨by simp only;omega,by simp only;omega⟩,⟨h2,h3⟩,h4,h5,h6⟩,by simp only [ML];omega⟩
 ·have c1:s.high≤s.low:=by simpa using c1
  exact ⟨rfl,by omega⟩
def PV:bK uM:=⟨3,24,[0,1,2],[],aQC,aPk,λv b=>⟨gI (v.getD 0 .junk),gI (v.getD 1 .junk),gI (bn (aT b 0) 0),gI (bn (aT b 2) 0)⟩,afy,λs r=> {r with r:=s.r,n:=s.n},λs=>s,λ_ s=>s,[.exit 0],akF,Tc,ML⟩
abbrev agf:=PV.run
abbrev az1:=PV.jf
abbrev aJ7:=PV.q
def Io:Specs:=aW [(154,aeu),(156,asC)]
theorem Nq:∀g S,Io g=some S→Valid Tryz.prog aP g S:=aS (l:=[(154,aeu),(156,asC)]) ⟨aEq,aK6,trivial⟩
def aqQ:Hand:=inl Tryz.prog aP Io (jT Tryz.prog aP (Io) 20 2) 9
theorem aBy:dn Tryz.prog aP aqQ:=bV Nq (dD Nq) 9
theorem aGc (s:uM) (hI:Tc s):(afy s).all (λ_=>True):=by
 refine ⟨λc1=>⟨?_,?_,λ_=>trivial,λ_=>trivial⟩,λ_=>trivial⟩
 all_goals ((obtain ⟨⟨h0,h1⟩,⟨h2,h3⟩,h4,h5,h6⟩:=hI;simp only [decide_eq_true_eq] at c1;first|decide|(have hd:(s.high-s.low).tdiv 2=(s.high-s.low) / 2:=Int.tdiv_eq_ediv_of_nonneg (by omega);have hm:aSe (s.low+aSe ((aSe (s.high-s.low)).tdiv 2))=s.low+(s.high-s.low) / 2:=(by rw [aH (x:=s.high-s.low),hd,aH (x:=(s.high-s.low) / 2),aH]);rw [hm];omega)))
theorem apo:PV.Ok:={}
theorem an8:PV.Pf (atF):=⟨aMP,λ_ _=>rfl,aHL,aGc⟩
theorem awd:bC Tryz.prog aP (AN 3) (.loop ZF) PV.lp:=bK.snd apo an8 (bI (Γ:=Io) (K:=aqQ) (L:=(ql Tryz.prog aP Io aqQ 20 2)) Nq aBy ZF (λb _=>dA Nq aBy 20 2 b)) (λs=>by kernel_rfl)
theorem ay2 (s:uM) (hE:akF s):∃s',Tc s'∧atF (az1 s) s' (agf s):=bK.fin apo an8 s hE
def aiW:List LV→T LV
 | [.v (.int .i64 n)]=> .ok (.v (.tuple #[.int .i64 (wtA n),.int .i64 (wtE n)]))
 |_=> .no
def adI:List LV→T LV:=gZ Tryz.prog Tryz.f136.params.toList aiW
def aBI:Hand:=inl Tryz.prog aP Io (dK 161 3 1 (PV.lp) (jT Tryz.prog aP (Io) 20 2)) 9
theorem aM3:dn Tryz.prog aP aBI:=bV Nq (bg Tryz.func161 rfl (by kernel_rfl) awd (dD Nq)) 9
theorem axH (n:Int):cO Tryz.prog aP (Io) aBI ay Tryz.f136 [.v (.int .i64 n)]=.br (!(inB n 0 1000000)) (.ok (.v (.tuple #[.int .i64 0,.int .i64 1]))) (.req (aJ7 (⟨(0:Int),(aSe ((aSe (2*n))+2)),(999800:Int),n⟩:uM)) (.ok (.v (.tuple #[.int .i64 (agf (⟨(0:Int),(aSe ((aSe (2*n))+2)),(999800:Int),n⟩:uM)).low,.int .i64 0])))):=by kernel_rfl
theorem aDH:Valid Tryz.prog aP 136 adI:=aI Tryz.func136 rfl Nq aM3 (bf (by kernel_rfl)) (λargs lv h=>by
 unfold aiW at h;split at h
 ·simp only [canL,canX]
  rw [axH];rename_i n;obtain rfl:=h;refine ⟨λc=>?_,λc=>?_⟩
  ·have c:inB n 0 1000000=false:=ntW c
   unfold wtA wtE;rw [c];rfl
  ·have c:inB n 0 1000000=true:=Qe c
   have hb:=dV.1 c
   have hE:akF ⟨0,aSe (aSe (2*n)+2),999800,n⟩:=⟨rfl,by
    show aSe (aSe (2*n)+2)=2*n+2
    rw [aH (x:=2*n),aH],rfl,hb.1,hb.2⟩
   obtain ⟨_,_,_,q⟩:=ay2 _ hE;refine ⟨⟨hE,rfl,rfl⟩,?_⟩;rw [q];unfold wtA wtE;rw [if_pos c,if_pos c];exact rfl
 ·cases h)
def asR:List LV→T LV
 | [.v (.int .i64 n),.v (.int .i64 a),.v (.int .i64 b)]=> .ok (.v (.bool (inB n a b)))
 |_=> .no
def ZW:List LV→T LV:=gZ Tryz.prog Tryz.f108.params.toList asR
def arv:Specs:=aW []
theorem aBU:∀g S,arv g=some S→Valid Tryz.prog aP g S:=aS (l:=[]) trivial
theorem aHy (n a b:Int):cO Tryz.prog aP (arv) dR ay Tryz.f108 [.v (.int .i64 n),.v (.int .i64 a),.v (.int .i64 b)]=.ok (.v (.bool ((decide (n≥a))&&(decide (n≤b))))):=by kernel_rfl
theorem aAP:Valid Tryz.prog aP 108 ZW:=aI Tryz.func108 rfl aBU aA (bf (by kernel_rfl)) (λargs lv h=>by
 unfold asR at h;split at h
 ·simp only [canL,canX]
  rw [aHy];exact h
 ·cases h)
def ajP:List LV→T LV
 | [.v (.agg ⟨[.int .i64 nu,.int .i64 co,.int .i64 am,.int .i64 fr,.int .i64 tk]⟩)]=> .ok (.v (.bool (leV (nu,co,am,fr,tk))))
 |_=> .no
def aeo:List LV→T LV:=gZ Tryz.prog Tryz.f63.params.toList ajP
def aB7:Specs:=aW [(108,ZW)]
theorem aNh:∀g S,aB7 g=some S→Valid Tryz.prog aP g S:=aS (l:=[(108,ZW)]) ⟨aAP,trivial⟩
theorem ayA (nu co am fr tk:Int):cO Tryz.prog aP (aB7) dR ay Tryz.f63 [.v (.agg #[.int .i64 nu,.int .i64 co,.int .i64 am,.int .i64 fr,.int .i64 tk])]=.ok (.v (.bool ((inB nu (1:Int) (1000000:Int))&&((inB co (0:Int) (15:Int))&&((inB am (0:Int) (80:Int))&&((inB fr (0:Int) (1000000:Int))&&(inB tk (1:Int) (1000:Int)))))))):=by kernel_rfl
theorem aEm:Valid Tryz.prog aP 63 aeo:=aI Tryz.func63 rfl aNh aA (bf (by kernel_rfl)) (λargs lv h=>by
 unfold ajP at h;split at h
 ·simp only [canL,canX]
  rw [ayA];exact h
 ·cases h)
def asT:List LV→T LV
 | [.v (.agg ⟨[.int .i64 nu,.int .i64 co,.int .i64 am,.int .i64 fr,.int .i64 tk]⟩),.v (.agg ⟨[.int .i64 nu2,.int .i64 co2,.int .i64 am2,.int .i64 fr2,.int .i64 tk2]⟩)]=> .ok (.v (.bool (Zl (nu,co,am,fr,tk) (nu2,co2,am2,fr2,tk2))))
 |_=> .no
def asA:List LV→T LV:=gZ Tryz.prog Tryz.f64.params.toList asT
theorem aHz (nu co am fr tk nu2 co2 am2 fr2 tk2:Int):cO Tryz.prog aP (arv) dR ay Tryz.f64 [.v (.agg #[.int .i64 nu,.int .i64 co,.int .i64 am,.int .i64 fr,.int .i64 tk]),.v (.agg #[.int .i64 nu2,.int .i64 co2,.int .i64 am2,.int .i64 fr2,.int .i64 tk2])]=.ok (.v (.bool ((decide (nu2>nu))&&(decide (fr2≥fr))))):=by kernel_rfl
theorem aK4:Valid Tryz.prog aP 64 asA:=aI Tryz.func64 rfl aBU aA (bf (by kernel_rfl)) (λargs lv h=>by
 unfold asT at h;split at h
 ·simp only [canL,canX]
  rw [aHz];exact h
 ·cases h)
def ajQ:List LV→T LV
 | [.v (.agg ⟨[.int .i64 nu,.int .i64 co,.int .i64 am,.int .i64 fr,.int .i64 tk]⟩)]=> .req ((0≤fr∧fr≤1000000)∧0≤tk∧tk≤1000000) (.ok (.v (.int .i64 (Qj (nu,co,am,fr,tk)))))
 |_=> .no
def aep:List LV→T LV:=gZ Tryz.prog Tryz.f109.params.toList ajQ
def aB6:Specs:=aW [(136,adI)]
theorem aNg:∀g S,aB6 g=some S→Valid Tryz.prog aP g S:=aS (l:=[(136,adI)]) ⟨aDH,trivial⟩
theorem ayB (nu co am fr tk:Int):cO Tryz.prog aP (aB6) dR ay Tryz.f109 [.v (.agg #[.int .i64 nu,.int .i64 co,.int .i64 am,.int .i64 fr,.int .i64 tk])]=.br ((wtE tk) !=0) (.ok (.v (.int .i64 fr))) (.ok (.v (.int .i64 (aSe ((aSe (fr+10))+(wtA tk)))))):=by kernel_rfl
theorem aEn:Valid Tryz.prog aP 109 aep:=aI Tryz.func109 rfl aNg aA (bf (by kernel_rfl)) (λargs lv h=>by
 unfold ajQ at h;split at h
 ·simp only [canL,canX]
  rw [ayB];rename_i nu co am fr tk;obtain ⟨⟨hf,ht⟩,rfl⟩:=h
  have c:inB tk 0 1000000=true:=dV.2 ht
  have hw:=al1 ht.1
  have ea:wtA tk=wt tk:=by unfold wtA;rw [if_pos c]
  have ee:wtE tk=0:=by unfold wtE;rw [if_pos c]
  rw [ea,ee,aH (x:=fr+10),aH];exact ⟨λh=>(by cases h),λ_=>rfl⟩
 ·cases h)
structure sH where
 l:List Le
 r:Bool
 m:List Le
 n:Int
 i:Int
def aQB (s:sH):List LV:=[.xl kY s.l,.v (.bool s.r),.xl kY s.m,.v (.int .i64 s.n),.v (.int .i64 s.i)]
def aPj (_:sH):List aZ:=[]
def Fg:Code:=((ax (Tryz.f62.body.getD .skip))[0]?).getD .skip
def afx (s:sH):T (Rd sH):=
 .br (decide (s.i<s.n)) (.req (0≤s.i∧s.i<(s.m.length:Int)) (.br (!(leV (gV s.m s.i))) (.ok (.stop (.ret) {s with r:=false})) (.br (decide (s.i>0)) (.req (0≤(aSe (s.i-1))∧(aSe (s.i-1))<(s.l.length:Int)) (.br (!(Zl (gV s.l (aSe (s.i-1))) (gV s.m s.i))) (.ok (.stop (.ret) {s with r:=false})) (.ok (.next {s with i:=(aSe (s.i+1))})))) (.ok (.next {s with i:=(aSe (s.i+1))}))))) (.ok (.stop (.exit 0) s))
abbrev aCO (s:sH):=(afx s).rd s
def akE (s:sH):Prop:=s.i=0∧s.n=(s.l.length:Int)∧s.n≤1000∧s.m=s.l
def S9 (s:sH):Prop:=(0≤s.i∧s.i≤s.n)∧s.n=(s.l.length:Int)∧s.n≤1000∧s.m=s.l∧∀j:Nat,(j:Int)<s.i→lG s.l j=true
def MK (s:sH):Nat:=(s.n-s.i).toNat
def atE (x:Ex) (_ s':sH):Prop:=(x=.exit 0∧∀j:Nat,(j:Int)<s'.n→lG s'.l j=true)∨(x=.ret∧s'.r=false∧∃j:Nat,(j:Int)<s'.n∧lG s'.l j=false)
theorem aMO:∀s,akE s→S9 s:=by
 intro s h;obtain ⟨h0,h2,h3,h4⟩:=h;exact ⟨by omega,h2,h3,h4,λj hj=>by omega⟩
theorem aHJ (s:sH) (hI:S9 s):bJ (λs'=>S9 s'∧MK s'<MK s) (λx s'=>atE x s s') (aCO s):=by
 unfold aCO afx;dsimp only [T.rd,T.rl];obtain ⟨⟨h0,h1⟩,h2,h3,h4,hA⟩:=hI;refine ai (λc1=>?_) (λc1=>?_)
 ·refine ai (λc2=>?_) (λc2=>?_)
  ·have c1:s.i<s.n:=by simpa using c1
   rw [h4] at c2;refine .inr ⟨rfl,rfl,s.i.toNat,by simp only;omega,?_⟩
   rw [Int.toNat_of_nonneg h0]
   show lG s.l s.i=false
   unfold lG;rw [ntW c2];rfl
  ·refine ai (λc3=>?_) (λc3=>?_)
   ·refine ai (λc4=>?_) (λc4=>?_)
    ·have c1:s.i<s.n:=by simpa using c1
     rw [h4] at c2
     have c3:0<s.i:=by simpa using c3
     rw [aH (x:=s.i-1),h4] at c4;refine .inr ⟨rfl,rfl,s.i.toNat,by simp only;omega,?_⟩
     rw [Int.toNat_of_nonneg h0]
     show lG s.l s.i=false
     unfold lG;rw [Qe c2,decide_eq_false (by omega),ntW c4]
     rfl
    ·have c1:s.i<s.n:=by simpa using c1
     rw [h4] at c2
     have c3:0<s.i:=by simpa using c3
     rw [aH (x:=s.i-1),h4] at c4
     have hg:lG s.l s.i=true:=by unfold lG;rw [Qe c2,decide_eq_false (by omega),Qe c4];rfl
     rw [aH (x:=s.i+1)]
     exact ⟨⟨⟨by simp only;omega,by simp only;omega⟩,h2,h3,h4,λj hj=>by
      by_cases e:(j:Int)<s.i
      ·exact hA j e
      ·have e:(j:Int)=s.i:=by simp only at hj;omega
       show lG s.l j=true
       rw [e];exact hg⟩,by simp only [MK];omega⟩
   ·have c1:s.i<s.n:=by simpa using c1
    rw [h4] at c2
    have hg:lG s.l s.i=true:=by unfold lG;rw [Qe c2,decide_eq_true (by simp at c3;omega)];rfl
    rw [aH (x:=s.i+1)]
    exact ⟨⟨⟨by simp only;omega,by simp only;omega⟩,h2,h3,h4,λj hj=>by
     by_cases e:(j:Int)<s.i
     ·exact hA j e
     ·have e:(j:Int)=s.i:=by simp only at hj;omega
      show lG s.l j=true
      rw [e];exact hg⟩,by simp only [MK];omega⟩
 ·have c1:s.n≤s.i:=by simpa using c1
  exact .inl ⟨rfl,λj hj=>hA j (by omega)⟩
def JD:bK sH:=⟨0,33,[0,2,8,9,10],[],aQB,aPj,λv _=>⟨aU kY (v.getD 0 .junk),vW (v.getD 1 .junk),aU kY (v.getD 2 .junk),gI (v.getD 3 .junk),gI (v.getD 4 .junk)⟩,afx,λs r=> {r with l:=s.l,m:=s.m,n:=s.n},λs=>s,λ_ s=>s,[.ret,.exit 0],akE,S9,MK⟩
abbrev agd:=JD.run
abbrev aik:=JD.jf
abbrev aJ6:=JD.q
theorem aGb (s:sH) (hI:S9 s):(afx s).all (λ_=>True):=by
 refine ⟨λc1=>⟨?_,λ_=>trivial,λc2=>⟨λc3=>⟨?_,λ_=>trivial,λ_=>trivial⟩,λ_=>trivial⟩⟩,λ_=>trivial⟩
 all_goals ((obtain ⟨⟨h0,h1⟩,h2,h3,h4,hA⟩:=hI;simp only [decide_eq_true_eq] at c1;have hl:s.m.length=s.l.length:=congrArg List.length h4;first|omega|(simp only [decide_eq_true_eq,gt_iff_lt] at c3;rw [aH (x:=s.i-1)];omega)))
def aru:Specs:=aW [(63,aeo),(64,asA)]
theorem aBT:∀g S,aru g=some S→Valid Tryz.prog aP g S:=aS (l:=[(63,aeo),(64,asA)]) ⟨aEm,aK4,trivial⟩
theorem apn:JD.Ok:={}
theorem an7:JD.Pf (atE):=⟨aMO,λ_ _=>rfl,aHJ,aGb⟩
theorem awc:bC Tryz.prog aP (AN 0) (.loop Fg) JD.lp:=bK.snd apn an7 (aQ (Γ:=aru) (K:=dR) (L:=ay) aBT aA Fg (λb hb=>by rw [show ax Fg=[] by kernel_rfl] at hb;cases hb)) (λs=>by kernel_rfl)
theorem ay0 (s:sH) (hE:akE s):∃s',S9 s'∧atE (aik s) s' (agd s):=bK.fin apn an7 s hE
def ajM:List LV→T LV
 | [.xl (.pair (.int .i64) (.pair (.int .i64) (.pair (.int .i64) (.pair (.int .i64) (.int .i64))))) l]=> .ok (.v (.bool (rM l)))
 |_=> .no
def OH:List LV→T LV:=gZ Tryz.prog Tryz.f62.params.toList ajM
theorem ayx (l:List Le):letI a:=(l.length:Int);cO Tryz.prog aP (aru) dR (λi=>if i=4 then JD.lp else ay i) Tryz.f62 [.xl kY l]=.br (decide (a>64)) (.ok (.v (.bool false))) (.req (aJ6 (⟨l,false,l,a,(0:Int)⟩:sH)) (.br (iV (aik (⟨l,false,l,a,(0:Int)⟩:sH)) (.ret)) (.ok (.v (.bool (agd (⟨l,false,l,a,(0:Int)⟩:sH)).r))) (.ok (.v (.bool true))))):=by kernel_rfl
theorem ami:Valid Tryz.prog aP 62 OH:=aI Tryz.func62 rfl aBT aA (L:=(λi=>if i=4 then JD.lp else ay i)) (λb hb=>by
 rw [show ax _=[Fg] by kernel_rfl] at hb
 simp only [List.mem_cons,List.not_mem_nil,or_false] at hb;subst hb;exact awc) (λargs lv h=>by
 unfold ajM at h;split at h
 ·simp only [canL,canX]
  rw [ayx];rename_i l;obtain rfl:=h;refine ⟨λc=>congrArg (λz=>LV.v (.bool z)) ?_,λc=>?_⟩
  ·have c:64<(l.length:Int):=by simpa using c
   unfold rM;rw [decide_eq_false (by omega)]
   rfl
  ·have c:(l.length:Int)≤64:=by simpa using c
   have hE:akE ⟨l,false,l,(l.length:Int),0⟩:=⟨rfl,rfl,by simp only;omega,rfl⟩
   refine ⟨⟨hE,rfl,rfl⟩,?_⟩;obtain ⟨_,_,hq⟩:=ay0 _ hE;rcases hq with ⟨q1,q2⟩ |⟨q1,q2,j,q3,q4⟩<;>rw [q1]
   ·have e:Gi l.length (lG l)=true:=gm.2 (λj hj=>q2 j (by show (j:Int)<(l.length:Int);omega))
    unfold rM;rw [decide_eq_true (by omega),e]
    exact ⟨λh=>(by cases h),λ_=>rfl⟩
   ·have e:Gi l.length (lG l)=false:=vN j (by have q3:(j:Int)<(l.length:Int):=q3;omega) q4
    rw [q2];unfold rM;rw [decide_eq_true (by omega),e]
    exact ⟨λ_=>rfl,λh=>by cases h⟩
 ·cases h)
structure sJ where
 l:List Le
 jD:Int
 tick:Int
 e:Int
 m:List Le
 k:Int
 i:Int
def aQX (s:sJ):List LV:=[.xl kY s.l,.v (.int .i64 s.jD),.v (.int .i64 s.tick),.v (.slice none 0 0),.v (.int .i64 s.e),.xl kY s.m,.v (.int .i64 s.k),.v (.int .i64 s.i)]
def aPF (_:sJ):List aZ:=[]
def FN:Code:=((ax (Tryz.f66.body.getD .skip))[0]?).getD .skip
def afL (s:sJ):T (Rd sJ):=
 .br (decide (s.i<s.k)) (.req (0≤s.i∧s.i<(s.m.length:Int)) (.br (decide ((gV s.m s.i).2.1≥s.jD)) (.ok (.stop (.ret) {s with e:=(1:Int)})) (.ok (.next {s with i:=(aSe (s.i+1))})))) (.ok (.stop (.exit 0) s))
abbrev aC1 (s:sJ):=(afL s).rd s
def akT (s:sJ):Prop:=s.i=0∧s.k=(s.m.length:Int)∧s.k≤1000
def TG (s:sJ):Prop:=(0≤s.i∧s.i≤s.k)∧s.k=(s.m.length:Int)∧s.k≤1000∧∀x∈s.m.take s.i.toNat,x.2.1<s.jD
def VN (s:sJ):Nat:=(s.k-s.i).toNat
def atV (x:Ex) (_ s':sJ):Prop:=(x=.exit 0∧below s'.jD s'.m=true)∨(x=.ret∧s'.e=1∧below s'.jD s'.m=false)
theorem aN4:∀s,akT s→TG s:=by
 intro s h;obtain ⟨h0,h1,h2⟩:=h;exact ⟨by omega,h1,h2,by rw [h0];intro x hx;cases hx⟩
theorem aI5 (s:sJ) (hI:TG s):bJ (λs'=>TG s'∧VN s'<VN s) (λx s'=>atV x s s') (aC1 s):=by
 unfold aC1 afL;dsimp only [T.rd,T.rl];obtain ⟨⟨h0,h1⟩,h2,h3,h4⟩:=hI;refine ai (λc1=>?_) (λc1=>?_)
 ·have c1:s.i<s.k:=by simpa using c1
  refine ai (λc2=>?_) (λc2=>?_)
  ·refine .inr ⟨rfl,rfl,?_⟩
   unfold below;rw [List.all_eq_false];exact ⟨gV s.m s.i,mr h0 (by simp only;omega),by simpa using c2⟩
  ·rw [aH (x:=s.i+1)]
   refine ⟨⟨⟨by simp only;omega,by simp only;omega⟩,h2,h3,λx hx=>?_⟩,by simp only [VN];omega⟩
   rw [(o9 h0 (by simp only;omega)).2,List.mem_append,List.mem_singleton] at hx
   rcases hx with hx|rfl
   ·exact h4 x hx
   ·simpa using c2
 ·have c1:s.k≤s.i:=by simpa using c1
  refine .inl ⟨rfl,?_⟩;rw [List.take_of_length_le (by omega)] at h4
  unfold below;rw [List.all_eq_true];exact λx hx=>decide_eq_true (h4 x hx)
def JS:bK sJ:=⟨0,48,[0,1,2,6,7,26,27,28],[],aQX,aPF,λv _=>⟨aU kY (v.getD 0 .junk),gI (v.getD 1 .junk),gI (v.getD 2 .junk),gI (v.getD 4 .junk),aU kY (v.getD 5 .junk),gI (v.getD 6 .junk),gI (v.getD 7 .junk)⟩,afL,λs r=> {r with l:=s.l,jD:=s.jD,tick:=s.tick,m:=s.m,k:=s.k},λs=>s,λ_ s=>s,[.ret,.exit 0],akT,TG,VN⟩
abbrev agn:=JS.run
abbrev aiu:=JS.jf
abbrev aKr:=JS.q
theorem aGx (s:sJ) (hI:TG s):(afL s).all (λ_=>True):=by
 refine ⟨λc1=>⟨?_,λ_=>trivial,λ_=>trivial⟩,λ_=>trivial⟩
 ·(obtain ⟨⟨h0,h1⟩,h2,h3,h4⟩:=hI;simp only [decide_eq_true_eq] at c1;omega)
def DY:Specs:=aW [(62,OH),(108,ZW),(109,aep)]
theorem Ii:∀g S,DY g=some S→Valid Tryz.prog aP g S:=aS (l:=[(62,OH),(108,ZW),(109,aep)]) ⟨ami,aAP,aEn,trivial⟩
def ag1:Hand:=inl Tryz.prog aP DY (jT Tryz.prog aP (DY) 20 2) 9
theorem aqA:dn Tryz.prog aP ag1:=bV Ii (dD Ii) 9
theorem apF:JS.Ok:={}
theorem aoo:JS.Pf (atV):=⟨aN4,λ_ _=>rfl,aI5,aGx⟩
theorem awv:bC Tryz.prog aP (AN 0) (.loop FN) JS.lp:=bK.snd apF aoo (aQ (Γ:=DY) (K:=ag1) (L:=ay) Ii aqA FN (λb hb=>by rw [show ax FN=[] by kernel_rfl] at hb;cases hb)) (λs=>by kernel_rfl)
theorem aAC (s:sJ) (hE:akT s):∃s',TG s'∧atV (aiu s) s' (agn s):=bK.fin apF aoo s hE
def am4:Array Tmp×Code×Code:=((lF (Tryz.f66.body.getD .skip))[0]?).getD (#[],.skip,.skip)
def aLR:Array Tmp:=am4.1
def aMk:Code:=am4.2.1
def aMf:Code:=am4.2.2
structure nN where
 m:List Le
 k:Int
 i:Int
 o:List Int
 q:List Le
 t:Int
 st:LS
def aQW (s:nN):List LV:=[.yt 5,.own 4 0,.xl kY s.m,.v (.int .i64 s.k),.v (.int .i64 s.i)]
def aPE (s:nN):List aZ:=[⟨[],3,.vec aSg s.o,false⟩,⟨[.os 0 1 0 (s.o.length)],35,.cl,false⟩,⟨[.fn 110 [.own 1 0]],160,.cl,false⟩,⟨[.xl kY s.q],29,.cl,false⟩,⟨[.v (.int .i64 s.t)],3,.cl,false⟩,⟨[.junk,.junk,.junk,.junk,.junk,.junk,.junk,.junk,.junk,.junk,.junk,.own 2 0,.junk,.junk,.junk,.junk,.junk,.junk,.junk,.junk,.junk,.junk,.junk,.junk,.junk,.junk,.junk,.junk,.junk,.junk,.junk,.junk,.junk,.junk,.junk,.junk,.junk,.junk,.junk,.junk,.junk,.junk,.junk,.junk,.junk,.junk,.junk,.junk],0,.ni aLR aMk aMf s.st,false⟩]
def ZL:Code:=((ax (Tryz.f137.body.getD .skip))[0]?).getD .skip
def X7 (s:nN):T (Rd nN):=
 .br (decide (s.i<s.k)) (.req (0≤s.i∧s.i<(s.m.length:Int)) (.br (decide ((gV s.m s.i).2.2.2.1>s.t)) (.rl s.o (.ok (.stop (.exit 0) s))) (.req ((0≤(gV s.m s.i).2.2.2.1∧(gV s.m s.i).2.2.2.1≤1000000)∧0≤(gV s.m s.i).2.2.2.2∧(gV s.m s.i).2.2.2.2≤1000000) (.br (decide ((Qj (gV s.m s.i))≤s.t)) (.rl s.o (.ok (.next {s with i:=(aSe (s.i+1))}))) (.req (0≤(gV s.m s.i).2.1∧(gV s.m s.i).2.1<((s.o.length:Nat):Int)) (.req ((gV s.m s.i).2.1.toNat<s.o.length) (.req (0≤(gV s.m s.i).2.1∧(gV s.m s.i).2.1<((s.o.length:Nat):Int)) (.req ((gV s.m s.i).2.1.toNat<s.o.length) (.req (0=0∧(s.o.length)=List.length (s.o.set (gV s.m s.i).2.1.toNat (if (s.o.getD (gV s.m s.i).2.1.toNat (Ty.dflt aSg))<(gV s.m s.i).2.2.1 then (gV s.m s.i).2.2.1 else (s.o.getD (gV s.m s.i).2.1.toNat (Ty.dflt aSg))))) (.ok (.next {s with i:=(aSe (s.i+1)),o:=(s.o.set (gV s.m s.i).2.1.toNat (if (s.o.getD (gV s.m s.i).2.1.toNat (Ty.dflt aSg))<(gV s.m s.i).2.2.1 then (gV s.m s.i).2.2.1 else (s.o.getD (gV s.m s.i).2.1.toNat (Ty.dflt aSg))))}))))))))))) (.rl s.o (.ok (.stop (.exit 0) s)))
abbrev ahU (s:nN):=(X7 s).rd s
def akS (s:nN):Prop:=s.st=.ready∧s.i=0∧s.k=(s.m.length:Int)∧s.k≤1000∧(∀x∈s.m,leV x=true∧x.2.1<(s.o.length:Int))∧s.m.Pairwise (λa b=>a.1<b.1∧a.2.2.2.1≤b.2.2.2.1)
def aaC (s:nN):Prop:=s.st=.ready∧(0≤s.i∧s.i≤s.k)∧s.k=(s.m.length:Int)∧s.k≤1000∧(∀x∈s.m,leV x=true∧x.2.1<(s.o.length:Int))∧s.m.Pairwise (λa b=>a.1<b.1∧a.2.2.2.1≤b.2.2.2.1)
def MP (s:nN):Nat:=(s.k-s.i).toNat
def aDq (x:Ex) (_ _:nN):Prop:=x=.exit 0
theorem aN3:∀s,akS s→aaC s:=by
 intro s h;obtain ⟨h0,h1,h2⟩:=h;exact ⟨h0,by omega,h2⟩
theorem aI4 (s:nN) (hI:aaC s):bJ (λs'=>aaC s'∧MP s'<MP s) (λx s'=>aDq x s s') (ahU s):=by
 unfold ahU X7;dsimp only [T.rd,T.rl];obtain ⟨hs,⟨h0,h1⟩,h2,h3,h4,h5⟩:=hI;refine ai (λc1=>?_) (λc1=>rfl)
 have c1:s.i<s.k:=by simpa using c1
 rw [aH (x:=s.i+1)];refine ai (λc2=>rfl) (λc2=>ai (λc3=>?_) (λc3=>?_))
 ·exact ⟨⟨hs,⟨by simp only;omega,by simp only;omega⟩,h2,h3,h4,h5⟩,by simp only [MP];omega⟩
 ·exact ⟨⟨hs,⟨by simp only;omega,by simp only;omega⟩,h2,h3,λx hx=>by simp only [List.length_set];exact h4 x hx,h5⟩,by simp only [MP];omega⟩
def PZ:bK nN:=⟨6,27,[0,2,6,7,8],[],aQW,aPE,λv b=>⟨aU kY (v.getD 2 .junk),gI (v.getD 3 .junk),gI (v.getD 4 .junk),iW aSg (aT b 0),aU kY (bn (aT b 3) 0),gI (bn (aT b 4) 0),.ready⟩,X7,λs r=> {r with m:=s.m,k:=s.k,q:=s.q,t:=s.t,st:=s.st},λs=> {s with st:=.ready},λx s=> {s with st:=(match x with| .exit 0=> .ready|_=> .ready)},[.exit 0],akS,aaC,MP⟩
abbrev Ai:=PZ.run
abbrev az8:=PZ.jf
abbrev aKq:=PZ.q
theorem aGw (s:nN) (hI:aaC s):(X7 s).all (λ_=>True):=by
 refine ⟨λc1=>⟨?_,λc2=>⟨aSf,trivial⟩,λc2=>⟨?_,λc3=>⟨aSf,trivial⟩,λc3=>⟨?_,?_,?_,?_,?_,trivial⟩⟩⟩,λc1=>⟨aSf,trivial⟩⟩
 all_goals ((obtain ⟨hs,⟨h0,h1⟩,h2,h3,h4,h5⟩:=hI;simp only [decide_eq_true_eq] at c1;have hv:=(h4 _ (mr h0 (show s.i<s.m.length by omega))).2;have hl:=V5.1 (h4 _ (mr h0 (show s.i<s.m.length by omega))).1;first|omega|exact ⟨rfl,by simp⟩))
theorem apE:PZ.Ok:={}
theorem aon:PZ.Pf (aDq):=⟨aN3,λs h=>by
 obtain ⟨m,k,i,o,q,t,st⟩:=s
 have e:st=.ready:=h.1
 subst e;rfl,aI4,aGw⟩
theorem awu:bC Tryz.prog aP (AN 6) (.loop ZL) PZ.lp:=bK.snd apE aon (bI (Γ:=DY) (K:=ag1) (L:=(ql Tryz.prog aP DY ag1 20 2)) Ii aqA ZL (λb _=>dA Ii aqA 20 2 b)) (λs=>by kernel_rfl)
theorem aAB (s:nN) (hE:akS s):(λ(x:Ex) (s':nN) (v:List Int)=>x=.exit 0∧s'.o=v) (az8 s) (Ai s) ((λs:nN=>((s.m.drop s.i.toNat).filter (AZ s.t)).foldl kpA s.o) s):=by
 exact bK.mD apE aon (λs:nN=>((s.m.drop s.i.toNat).filter (AZ s.t)).foldl kpA s.o) (λx s' v=>x=.exit 0∧s'.o=v) (λs hI=>by
  show bJ _ _ (ahU s)
  unfold ahU X7;dsimp only [T.rd,T.rl];obtain ⟨hs,⟨h0,h1⟩,h2,h3,h4,h5⟩:=hI;refine ai (λc1=>?_) (λc1=>?_)
  ·have c1:s.i<s.k:=by simpa using c1
   have e:=(o9 h0 (show s.i<(s.m.length:Int) by omega)).1
   rw [aH (x:=s.i+1)];refine ai (λc2=>?_) (λc2=>ai (λc3=>?_) (λc3=>?_))
   ·refine ⟨rfl,?_⟩
    have c2:(gV s.m s.i).2.2.2.1>s.t:=by simpa using c2
    have hp:(s.m.drop s.i.toNat).Pairwise (λa b=>a.1<b.1∧a.2.2.2.1≤b.2.2.2.1):=List.Pairwise.sublist (List.drop_sublist _ _) h5
    rw [e,List.pairwise_cons] at hp;rw [List.filter_eq_nil_iff.2]
    ·rfl
    ·rw [e]
     intro x hx;unfold AZ;rw [decide_eq_false,Bool.false_and]
     ·decide
     ·rcases List.mem_cons.1 hx with rfl|hx
      ·omega
      ·have:=(hp.1 x hx).2
       omega
   ·show List.foldl _ _ _=List.foldl _ _ _
    have c3:Qj (gV s.m s.i)≤s.t:=by simpa using c3
    have hb:¬AZ s.t (gV s.m s.i)=true:=by
     unfold AZ;rw [decide_eq_false (p:=Qj _>_) (by omega),Bool.and_false]
     decide
    simp only;rw [e,List.filter_cons,if_neg hb]
   ·show List.foldl _ _ _=List.foldl _ _ _
    have c2:(gV s.m s.i).2.2.2.1≤s.t:=by simpa using c2
    have c3:s.t<Qj (gV s.m s.i):=by simpa using c3
    have hb:AZ s.t (gV s.m s.i)=true:=by
     unfold AZ;rw [decide_eq_true c2,decide_eq_true c3];rfl
    simp only;rw [e,List.filter_cons,if_pos hb,List.foldl_cons];rfl
  ·have c1:s.k≤s.i:=by simpa using c1
   refine ⟨rfl,?_⟩;rw [List.drop_eq_nil_of_le (by omega)]
   rfl) s hE
def akb:List LV→T LV
 | [.xl (.pair (.int .i64) (.pair (.int .i64) (.pair (.int .i64) (.pair (.int .i64) (.int .i64))))) l,.v (.int .i64 n),.v (.int .i64 t)]=> .ok (.iU [.xl aSg (qO l n t),.v (.int .i64 (ZT l n t))])
 |_=> .no
def aeH:List LV→T LV:=gZ Tryz.prog Tryz.f66.params.toList akb
def aBH:Hand:=inl Tryz.prog aP DY (dK 137 6 1 (PZ.lp) (jT Tryz.prog aP (DY) 20 2)) 9
theorem aM2:dn Tryz.prog aP aBH:=bV Ii (bg Tryz.func137 rfl (by kernel_rfl) awu (dD Ii)) 9
theorem ayT (l:List Le) (n t:Int):letI b:=(List.replicate n.toNat (0:Int));letI c:=(l.length:Int);letI a:=(Ai (⟨l,c,(0:Int),b,l,t,.ready⟩:nN));cO Tryz.prog aP (DY) aBH (λi=>if i=4 then JS.lp else ay i) Tryz.f66 [.xl kY l,.v (.int .i64 n),.v (.int .i64 t)]=.br ((!(rM l)) ||((!(inB n (0:Int) (16:Int))) ||(!(inB t (0:Int) (1100000:Int))))) (.ok (.iU [.xl aSg ([]:List Int),.v (.int .i64 1)])) (.req (aKr (⟨l,n,t,(0:Int),l,c,(0:Int)⟩:sJ)) (.br (iV (aiu (⟨l,n,t,(0:Int),l,c,(0:Int)⟩:sJ)) (.ret)) (.ok (.iU [.xl aSg ([]:List Int),.v (.int .i64 (agn (⟨l,n,t,(0:Int),l,c,(0:Int)⟩:sJ)).e)])) (.req (0≤n∧n≤n∧8*n≤2^48∧n<2^63) (.req (0=0∧n.toNat=List.length b) (.req (aKq (⟨l,c,(0:Int),b,l,t,.ready⟩:nN)) (.req (0+(List.length a.o)≤List.length a.o) (.ok (.iU [.xl aSg ((a.o.drop 0).take (List.length a.o)),.v (.int .i64 0)])))))))):=by kernel_rfl
theorem aED:Valid Tryz.prog aP 66 aeH:=aI Tryz.func66 rfl Ii aM2 (L:=(λi=>if i=4 then JS.lp else ay i)) (λb hb=>by
 rw [show ax _=[FN] by kernel_rfl] at hb
 simp only [List.mem_cons,List.not_mem_nil,or_false] at hb;subst hb;exact awv) (λargs lv h=>by
 unfold akb at h;split at h
 ·simp only [canL,canX]
  rw [ayT];rename_i l n t;obtain rfl:=h
  have bad:Ho l n t=false→LV.iU [.xl aSg ([]:List Int),.v (.int .i64 1)]=LV.iU [.xl aSg (qO l n t),.v (.int .i64 (ZT l n t))]:=λc=>by
   unfold qO ZT;rw [c];rfl
  refine ⟨λc=>bad ?_,λc=>?_⟩
  ·unfold Ho
   cases e1:rM l<;>cases e2:inB n 0 16<;>cases e3:inB t 0 1100000<;>simp_all
  have c:(rM l&&(inB n 0 16&&inB t 0 1100000))=true:=by cases e1:rM l<;>cases e2:inB n 0 16<;>cases e3:inB t 0 1100000<;>simp_all
  have c':=c
  rw [Bool.and_eq_true,Bool.and_eq_true,dV,dV] at c';obtain ⟨hv,hn,ht⟩:=c'
  have hl:=zu hv
  have hE:akT ⟨l,n,t,0,l,(l.length:Int),0⟩:=⟨rfl,rfl,by simp only;omega⟩
  refine ⟨⟨hE,rfl,rfl⟩,?_⟩;obtain ⟨_,_,hq⟩:=aAC _ hE;rcases hq with ⟨q1,q2⟩ |⟨q1,q2,q3⟩<;>rw [q1]
  ·refine ⟨λh=>(by cases h),λ_=>?_⟩
   have q2:below n l=true:=q2
   have hE2:akS ⟨l,(l.length:Int),0,List.replicate n.toNat 0,l,t,.ready⟩:=⟨rfl,rfl,rfl,by simp only;omega,λx hx=>⟨hl.2 x hx,by
    have:=of_decide_eq_true (List.all_eq_true.1 q2 x hx)
    simp only [List.length_replicate];omega⟩,alm hv⟩
   obtain ⟨_,q4⟩:=aAB _ hE2
   have q4:(Ai ⟨l,(l.length:Int),0,List.replicate n.toNat 0,l,t,.ready⟩).o=ZR n.toNat l t:=q4
   refine ⟨by omega,⟨rfl,by simp⟩,⟨hE2,rfl,rfl⟩,by omega,?_⟩
   show LV.iU [LV.xl _ _,_]=_
   rw [List.drop_zero,List.take_length,q4];unfold qO ZT Ho;rw [c,q2];rfl
  ·have q3:below n l=false:=q3
   rw [q2];exact ⟨λ_=>bad (by unfold Ho;rw [q3,Bool.and_false]),λh=>by cases h⟩
 ·cases h)
def ajL:List LV→T LV
 | [.v (.agg ⟨[.string _,.int .i64 _,.int .i64 _,.int .i64 mi,.int .i64 ma,.int .i64 st,.int .i64 _,.int .i64 _]⟩)]=> .ok (.v (.int .i64 (zn mi ma st)))
 |_=> .no
def aem:List LV→T LV:=gZ Tryz.prog Tryz.f28.params.toList ajL
def aIh:Specs:=aW []
theorem aNv:∀g S,aIh g=some S→Valid Tryz.prog aP g S:=aS (l:=[]) trivial
theorem ayw (nm:ByteArray) (at_ ph mi ma st fb ow:Int):cO Tryz.prog aP (aIh) dR ay Tryz.f28 [.v (.agg #[.string nm,.int .i64 at_,.int .i64 ph,.int .i64 mi,.int .i64 ma,.int .i64 st,.int .i64 fb,.int .i64 ow])]=.br ((decide (mi<1)) ||((decide (mi>ma)) ||((decide (ma>80)) ||((decide (st<1)) ||(decide (st>80)))))) (.ok (.v (.int .i64 0))) (.req (st≠0) (.ok (.v (.int .i64 (aSe ((aSe ((aSe (ma-mi)).tdiv st))+2)))))):=by kernel_rfl
theorem aEk:Valid Tryz.prog aP 28 aem:=aI Tryz.func28 rfl aNv aA (bf (by kernel_rfl)) (λargs lv h=>by
 unfold ajL at h;split at h
 ·simp only [canL,canX]
  rw [ayw];rename_i mi ma st _ _;obtain rfl:=h;refine ⟨λc=>congrArg (λz=>LV.v (.int .i64 z)) ?_,λc=>⟨?_,congrArg (λz=>LV.v (.int .i64 z)) ?_⟩⟩
  ·have:lH mi ma st=false:=by
    rw [Bool.eq_false_iff];intro h;have:=fZ.1 h;simp at c;omega
   rw [DL this]
  ·simp at c;omega
  ·have hh:lH mi ma st=true:=fZ.2 (by simp at c;omega)
   obtain ⟨h1,h2,h3,h4,h5⟩:=fZ.1 hh
   have:=Cc (x:=ma-mi) (st:=st) (by omega) (by omega)
   rw [aH (x:=ma-mi),Int.tdiv_eq_ediv_of_nonneg (by omega),aH (x:=(ma-mi) / st),aH]
   simp [zn,hh]
 ·cases h)
def aj9:List LV→T LV
 | [.v (.agg ⟨[.string _,.int .i64 _,.int .i64 _,.int .i64 mi,.int .i64 _,.int .i64 st,.int .i64 _,.int .i64 _]⟩),.v (.int .i64 k)]=> .req ((1≤mi∧mi≤80∧1≤st∧st≤80)∧0≤k∧k≤1000) (.ok (.v (.int .i64 (CW mi st k))))
 |_=> .no
def uF:List LV→T LV:=gZ Tryz.prog Tryz.f61.params.toList aj9
theorem ayS (nm:ByteArray) (at_ ph mi ma st fb ow k:Int):cO Tryz.prog aP (aIh) dR ay Tryz.f61 [.v (.agg #[.string nm,.int .i64 at_,.int .i64 ph,.int .i64 mi,.int .i64 ma,.int .i64 st,.int .i64 fb,.int .i64 ow]),.v (.int .i64 k)]=.br (k==0) (.ok (.v (.int .i64 0))) (.ok (.v (.int .i64 (aSe (mi+(aSe ((aSe (k-1))*st))))))):=by kernel_rfl
theorem La:Valid Tryz.prog aP 61 uF:=aI Tryz.func61 rfl aNv aA (bf (by kernel_rfl)) (λargs lv h=>by
 unfold aj9 at h;split at h
 ·simp only [canL,canX]
  rw [ayS];rename_i mi _ st _ _ k;obtain ⟨⟨⟨h1,h2,h3,h4⟩,h5,h6⟩,rfl⟩:=h;refine ⟨λc=>congrArg (λz=>LV.v (.int .i64 z)) ?_,λc=>congrArg (λz=>LV.v (.int .i64 z)) ?_⟩
  ·have c:k=0:=by simpa using c
   simp [CW,c]
  ·have c:k≠0:=by simpa using c
   have:=ap8 (a:=k-1) (b:=st) (by omega) (by omega) (by omega) (by omega)
   rw [aH (x:=k-1),aH (x:=(k-1)*st),aH]
   simp [CW,c]
 ·cases h)
def ajO:List LV→T LV
 | [.v (.agg ⟨[.string _,.int .i64 _,.int .i64 _,.int .i64 mi,.int .i64 ma,.int .i64 st,.int .i64 _,.int .i64 _]⟩),.v (.int .i64 a)]=> .req (a≤9223372036854775807) (.ok (.v (.int .i64 (Y1 mi ma st a))))
 |_=> .no
def uz:List LV→T LV:=gZ Tryz.prog Tryz.f96.params.toList ajO
def aNy:Specs:=aW [(28,aem)]
theorem aRv:∀g S,aNy g=some S→Valid Tryz.prog aP g S:=aS (l:=[(28,aem)]) ⟨aEk,trivial⟩
theorem ayz (nm:ByteArray) (at_ ph mi ma st fb ow a:Int):letI b:=(aSe ((aSe (a-mi)).tdiv st))+1;letI c:=zn mi ma st;cO Tryz.prog aP (aNy) dR ay Tryz.f96 [.v (.agg #[.string nm,.int .i64 at_,.int .i64 ph,.int .i64 mi,.int .i64 ma,.int .i64 st,.int .i64 fb,.int .i64 ow]),.v (.int .i64 a)]=.br ((c==0) ||(decide (a<0))) (.ok (.v (.int .i64 (-1)))) (.br (decide (a<mi)) (.ok (.v (.int .i64 0))) (.req (st≠0) (.ok (.v (.int .i64 (if (aSe b)<(aSe (c-1)) then aSe b else aSe (c-1))))))):=by kernel_rfl
theorem KY:Valid Tryz.prog aP 96 uz:=aI Tryz.func96 rfl aRv aA (bf (by kernel_rfl)) (λargs lv h=>by
 unfold ajO at h;split at h
 ·simp only [canL,canX]
  rw [ayz];rename_i mi ma st _ _ a;obtain ⟨ha,rfl⟩:=h
  have hb:=VX (mi:=mi) (ma:=ma) (st:=st)
  refine ⟨λc=>congrArg (λz=>LV.v (.int .i64 z)) ?_,λc=>⟨λc2=>congrArg (λz=>LV.v (.int .i64 z)) ?_,λc2=>?_⟩⟩
  ·have c:lH mi ma st=false∨a<0:=by
    simp at c
    rcases c with c|c
    ·left
     cases e:lH mi ma st with
     |false=>rfl
     |true=>have:=VW e;omega
    ·exact .inr c
   simp only [Y1,if_pos c]
  all_goals
   simp at c c2
   have hh:lH mi ma st=true:=by
    cases e:lH mi ma st with
    |true=>rfl
    |false=>exact absurd (DL e) c.1
   have hn:¬(lH mi ma st=false∨a<0):=by simp [hh];omega
   have:=fZ.1 hh
  ·simp only [Y1,if_neg hn,if_pos c2]
  ·have:=Cc (x:=a-mi) (st:=st) (by omega) (by omega)
   refine ⟨by omega,congrArg (λz=>LV.v (.int .i64 z)) ?_⟩
   rw [aH (x:=a-mi),Int.tdiv_eq_ediv_of_nonneg (by omega),aH (x:=(a-mi) / st),aH (x:=(a-mi) / st+1),aH (x:=zn mi ma st-1)]
   simp only [Y1,if_neg hn,if_neg (show ¬a<mi by omega)]
   split<;>omega
 ·cases h)
def Rz:List LV→T LV
 | [.v (.string w)]=> .ok (.v (.bool (isIn IC w)))
 |_=> .no
def zK:List LV→T LV:=gZ Tryz.prog Tryz.f165.params.toList Rz
def ac2:Specs:=aW []
theorem als:∀g S,ac2 g=some S→Valid Tryz.prog aP g S:=aS (l:=[]) trivial
theorem ale (w:ByteArray):cO Tryz.prog aP (ac2) dR ay Tryz.f165 [.v (.string w)]=.br (w.toList==(ByteArray.mk #[108,105,109,105,116]).toList) (.ok (.v (.bool true))) (.br (w.toList==(ByteArray.mk #[110,101,117,116,114,97,108]).toList) (.ok (.v (.bool true))) (.br (w.toList==(ByteArray.mk #[102,117,115,101]).toList) (.ok (.v (.bool true))) (.br (w.toList==(ByteArray.mk #[116,104,101,114,109,97,108]).toList) (.ok (.v (.bool true))) (.br (w.toList==(ByteArray.mk #[102,114,111,109]).toList) (.ok (.v (.bool true))) (.br (w.toList==(ByteArray.mk #[97,116]).toList) (.ok (.v (.bool true))) (.br (w.toList==(ByteArray.mk #[112,104,97,115,101,115]).toList) (.ok (.v (.bool true))) (.br (w.toList==(ByteArray.mk #[97,109,112,115]).toList) (.ok (.v (.bool true))) (.br (w.toList==(ByteArray.mk #[102,97,108,108,98,97,99,107]).toList) (.ok (.v (.bool true))) (.br (w.toList==(ByteArray.mk #[111,119,110,101,114]).toList) (.ok (.v (.bool true))) (.br (w.toList==(ByteArray.mk #[99,97,114,100]).toList) (.ok (.v (.bool true))) (.br (w.toList==(ByteArray.mk #[114,97,110,107]).toList) (.ok (.v (.bool true))) (.br (w.toList==(ByteArray.mk #[99,104,97,114,103,101,114]).toList) (.ok (.v (.bool true))) (.ok (.v (.bool false))))))))))))))):=by kernel_rfl
theorem Xq:Valid Tryz.prog aP 165 zK:=aI Tryz.func165 rfl als aA (bf (by kernel_rfl)) (λargs lv h=>by
 unfold Rz at h;split at h
 ·simp only [canL,canX]
  rw [ale];obtain rfl:=h;simp only [xu];unfold isIn IC;simp only [List.any_cons,List.any_nil];refine ⟨λc0=>by simp [c0,T.all],λc0=>?_⟩
  rw [c0,Bool.false_or];refine ⟨λc1=>by simp [c1,T.all],λc1=>?_⟩
  rw [c1,Bool.false_or];refine ⟨λc2=>by simp [c2,T.all],λc2=>?_⟩
  rw [c2,Bool.false_or];refine ⟨λc3=>by simp [c3,T.all],λc3=>?_⟩
  rw [c3,Bool.false_or];refine ⟨λc4=>by simp [c4,T.all],λc4=>?_⟩
  rw [c4,Bool.false_or];refine ⟨λc5=>by simp [c5,T.all],λc5=>?_⟩
  rw [c5,Bool.false_or];refine ⟨λc6=>by simp [c6,T.all],λc6=>?_⟩
  rw [c6,Bool.false_or];refine ⟨λc7=>by simp [c7,T.all],λc7=>?_⟩
  rw [c7,Bool.false_or];refine ⟨λc8=>by simp [c8,T.all],λc8=>?_⟩
  rw [c8,Bool.false_or];refine ⟨λc9=>by simp [c9,T.all],λc9=>?_⟩
  rw [c9,Bool.false_or];refine ⟨λc10=>by simp [c10,T.all],λc10=>?_⟩
  rw [c10,Bool.false_or];refine ⟨λc11=>by simp [c11,T.all],λc11=>?_⟩
  rw [c11,Bool.false_or];refine ⟨λc12=>by simp [c12,T.all],λc12=>?_⟩
  rw [c12,Bool.false_or];rfl
 ·cases h)
def aae:List LV→T LV
 | [.v (.string w)]=> .ok (.v (.bool (isIn qN w)))
 |_=> .no
def FW:List LV→T LV:=gZ Tryz.prog Tryz.f166.params.toList aae
theorem apZ (w:ByteArray):cO Tryz.prog aP (ac2) dR ay Tryz.f166 [.v (.string w)]=.br (w.toList==(ByteArray.mk #[115,116,97,114,116]).toList) (.ok (.v (.bool true))) (.br (w.toList==(ByteArray.mk #[101,110,101,114,103,121]).toList) (.ok (.v (.bool true))) (.br (w.toList==(ByteArray.mk #[116,105,109,101]).toList) (.ok (.v (.bool true))) (.br (w.toList==(ByteArray.mk #[105,100,108,101]).toList) (.ok (.v (.bool true))) (.br (w.toList==(ByteArray.mk #[99,97,112]).toList) (.ok (.v (.bool true))) (.br (w.toList==(ByteArray.mk #[116,97,120]).toList) (.ok (.v (.bool true))) (.ok (.v (.bool false)))))))):=by kernel_rfl
theorem aeW:Valid Tryz.prog aP 166 FW:=aI Tryz.func166 rfl als aA (bf (by kernel_rfl)) (λargs lv h=>by
 unfold aae at h;split at h
 ·simp only [canL,canX]
  rw [apZ];obtain rfl:=h;simp only [xu];unfold isIn qN;simp only [List.any_cons,List.any_nil];refine ⟨λc0=>by simp [c0,T.all],λc0=>?_⟩
  rw [c0,Bool.false_or];refine ⟨λc1=>by simp [c1,T.all],λc1=>?_⟩
  rw [c1,Bool.false_or];refine ⟨λc2=>by simp [c2,T.all],λc2=>?_⟩
  rw [c2,Bool.false_or];refine ⟨λc3=>by simp [c3,T.all],λc3=>?_⟩
  rw [c3,Bool.false_or];refine ⟨λc4=>by simp [c4,T.all],λc4=>?_⟩
  rw [c4,Bool.false_or];refine ⟨λc5=>by simp [c5,T.all],λc5=>?_⟩
  rw [c5,Bool.false_or];rfl
 ·cases h)
def aac:List LV→T LV
 | [.v (.string w)]=> .ok (.v (.bool (isIn words w)))
 |_=> .no
def FV:List LV→T LV:=gZ Tryz.prog Tryz.f169.params.toList aac
theorem apX (w:ByteArray):cO Tryz.prog aP (ac2) dR ay Tryz.f169 [.v (.string w)]=.br (w.toList==(ByteArray.mk #[111,110]).toList) (.ok (.v (.bool true))) (.br (w.toList==(ByteArray.mk #[119,111,114,107]).toList) (.ok (.v (.bool true))) (.br (w.toList==(ByteArray.mk #[115,97,116,117,114,100,97,121]).toList) (.ok (.v (.bool true))) (.br (w.toList==(ByteArray.mk #[115,117,110,100,97,121]).toList) (.ok (.v (.bool true))) (.br (w.toList==(ByteArray.mk #[98,101,116,119,101,101,110]).toList) (.ok (.v (.bool true))) (.br (w.toList==(ByteArray.mk #[112,101,114]).toList) (.ok (.v (.bool true))) (.br (w.toList==(ByteArray.mk #[102,114,101,101]).toList) (.ok (.v (.bool true))) (.ok (.v (.bool false))))))))):=by kernel_rfl
theorem aeV:Valid Tryz.prog aP 169 FV:=aI Tryz.func169 rfl als aA (bf (by kernel_rfl)) (λargs lv h=>by
 unfold aac at h;split at h
 ·simp only [canL,canX]
  rw [apX];obtain rfl:=h;simp only [xu];unfold isIn words;simp only [List.any_cons,List.any_nil];refine ⟨λc0=>by simp [c0,T.all],λc0=>?_⟩
  rw [c0,Bool.false_or];refine ⟨λc1=>by simp [c1,T.all],λc1=>?_⟩
  rw [c1,Bool.false_or];refine ⟨λc2=>by simp [c2,T.all],λc2=>?_⟩
  rw [c2,Bool.false_or];refine ⟨λc3=>by simp [c3,T.all],λc3=>?_⟩
  rw [c3,Bool.false_or];refine ⟨λc4=>by simp [c4,T.all],λc4=>?_⟩
  rw [c4,Bool.false_or];refine ⟨λc5=>by simp [c5,T.all],λc5=>?_⟩
  rw [c5,Bool.false_or];refine ⟨λc6=>by simp [c6,T.all],λc6=>?_⟩
  rw [c6,Bool.false_or];rfl
 ·cases h)
def ajS:List LV→T LV
 | [.v (.string w)]=> .ok (.v (.int .i64 (alo 1 kinds w)))
 |_=> .no
def aes:List LV→T LV:=gZ Tryz.prog Tryz.f168.params.toList ajS
theorem ayD (w:ByteArray):cO Tryz.prog aP (ac2) dR ay Tryz.f168 [.v (.string w)]=.br (w.toList==(ByteArray.mk #[102,101,101,100,101,114]).toList) (.ok (.v (.int .i64 1))) (.br (w.toList==(ByteArray.mk #[99,97,98,108,101]).toList) (.ok (.v (.int .i64 2))) (.br (w.toList==(ByteArray.mk #[111,119,110,101,114]).toList) (.ok (.v (.int .i64 3))) (.br (w.toList==(ByteArray.mk #[99,111,110,116,114,97,99,116]).toList) (.ok (.v (.int .i64 4))) (.br (w.toList==(ByteArray.mk #[99,104,97,114,103,101,114]).toList) (.ok (.v (.int .i64 5))) (.br (w.toList==(ByteArray.mk #[98,97,121]).toList) (.ok (.v (.int .i64 6))) (.br (w.toList==(ByteArray.mk #[116,97,114,105,102,102]).toList) (.ok (.v (.int .i64 7))) (.ok (.v (.int .i64 0))))))))):=by kernel_rfl
theorem aEp:Valid Tryz.prog aP 168 aes:=aI Tryz.func168 rfl als aA (bf (by kernel_rfl)) (λargs lv h=>by
 unfold ajS at h;split at h
 ·simp only [canL,canX]
  rw [ayD];obtain rfl:=h;simp only [xu];simp only [alo,kinds];refine ⟨λc0=>by rw [if_pos c0];rfl,λc0=>?_⟩
  rw [if_neg (by simp [c0])]
  refine ⟨λc1=>by rw [if_pos c1];rfl,λc1=>?_⟩
  rw [if_neg (by simp [c1])]
  refine ⟨λc2=>by rw [if_pos c2];rfl,λc2=>?_⟩
  rw [if_neg (by simp [c2])]
  refine ⟨λc3=>by rw [if_pos c3];rfl,λc3=>?_⟩
  rw [if_neg (by simp [c3])]
  refine ⟨λc4=>by rw [if_pos c4];rfl,λc4=>?_⟩
  rw [if_neg (by simp [c4])]
  refine ⟨λc5=>by rw [if_pos c5];rfl,λc5=>?_⟩
  rw [if_neg (by simp [c5])]
  refine ⟨λc6=>by rw [if_pos c6];rfl,λc6=>?_⟩
  rw [if_neg (by simp [c6])]
  rfl
 ·cases h)
def aad:List LV→T LV
 | [.v (.string w)]=> .ok (.v (.bool (JW w)))
 |_=> .no
def WT:List LV→T LV:=gZ Tryz.prog Tryz.f164.params.toList aad
def aNx:Specs:=aW [(165,zK),(166,FW),(168,aes),(169,FV)]
theorem aRu:∀g S,aNx g=some S→Valid Tryz.prog aP g S:=aS (l:=[(165,zK),(166,FW),(168,aes),(169,FV)]) ⟨Xq,aeW,aEp,aeV,trivial⟩
theorem apY (w:ByteArray):cO Tryz.prog aP (aNx) dR ay Tryz.f164 [.v (.string w)]=.ok (.v (.bool (((alo 1 kinds w) !=0) ||((isIn IC w) ||((isIn qN w) ||(isIn words w)))))):=by kernel_rfl
theorem auW:Valid Tryz.prog aP 164 WT:=aI Tryz.func164 rfl aRu aA (bf (by kernel_rfl)) (λargs lv h=>by
 unfold aad at h;split at h
 ·simp only [canL,canX]
  rw [apY];obtain rfl:=h
  show LV.v (.bool _)=_
  rw [Y3 1 kinds _ (by decide)]
  rfl
 ·cases h)
structure zO where
 text:ByteArray
 r:Bool
 i:Int
def aR0 (s:zO):List LV:=[.v (.string s.text),.v (.bool s.r),.v (.int .i64 s.i)]
def aRM (_:zO):List aZ:=[]
def KR:Code:=((ax (Tryz.f163.body.getD .skip))[0]?).getD .skip
def au5 (s:zO):T (Rd zO):=
 .br (decide (s.i<(s.text.size:Int))) (.req (0≤s.i∧s.i<(s.text.size:Int)) (.br (if decide ((wo s.text s.i)≥97) then !(decide ((wo s.text s.i)≤122))&&(if decide ((wo s.text s.i)≥48) then !(decide ((wo s.text s.i)≤57))&&(!((wo s.text s.i)==95)) else !((wo s.text s.i)==95)) else if decide ((wo s.text s.i)≥48) then !(decide ((wo s.text s.i)≤57))&&(!((wo s.text s.i)==95)) else !((wo s.text s.i)==95)) (.ok (.stop (.ret) {s with r:=false})) (.ok (.next {s with i:=(aSe (s.i+1))})))) (.ok (.stop (.exit 0) s))
abbrev aNG (s:zO):=(au5 s).rd s
def Qn (s:zO) (j:Int):Bool:=decide (j<1) ||(chB (wo s.text j))
def aAL (s:zO):Prop:=s.i=1∧1≤(s.text.size:Int)∧(s.text.size:Int)≤1000∧True
def alM (s:zO):Prop:=1≤s.i∧s.i≤(s.text.size:Int)∧(s.text.size:Int)≤1000∧(True)∧∀j:Nat,(j:Int)<s.i→Qn s j=true
def agO (s:zO):Nat:=((s.text.size:Int)-s.i).toNat
def aJa (x:Ex) (_ s':zO):Prop:=(x=.exit 0∧∀j:Nat,(j:Int)<(s'.text.size:Int)→Qn s' j=true)∨(x=.ret∧s'.r=false∧∃j:Nat,(j:Int)<(s'.text.size:Int)∧Qn s' j=false)
theorem aRr:∀s,aAL s→alM s:=by
 intro s h;obtain ⟨h0,h1,h2,h3⟩:=h;exact ⟨by omega,by omega,h2,h3,λj hj=>by unfold Qn;rw [decide_eq_true (by omega)];rfl⟩
theorem aNc (s:zO) (hI:alM s):bJ (λs'=>alM s'∧agO s'<agO s) (λx s'=>aJa x s s') (aNG s):=by
 unfold aNG au5;dsimp only [T.rd,T.rl];obtain ⟨h0,h1,h2,h3,h4⟩:=hI;refine ai (λc1=>ai (λc2=>?_) (λc2=>?_)) (λc1=>?_)
 ·have c1:s.i<(s.text.size:Int):=by simpa using c1
  refine .inr ⟨rfl,rfl,s.i.toNat,by simp only;omega,?_⟩
  rw [Int.toNat_of_nonneg (by omega)]
  have hg:Qn s s.i=false:=by unfold Qn;(simp only [show decide (s.i<1)=false from decide_eq_false (by omega),Bool.false_or];(simp only [chB,chA];revert c2;generalize wo s.text s.i=b;intro c2;by_cases h1:b≥97<;>by_cases h2:b≤122<;>by_cases h3:b≥48<;>by_cases h4:b≤57<;>simp_all))
  exact hg
 ·have c1:s.i<(s.text.size:Int):=by simpa using c1
  have hg:Qn s s.i=true:=by unfold Qn;(simp only [show decide (s.i<1)=false from decide_eq_false (by omega),Bool.false_or];(simp only [chB,chA];revert c2;generalize wo s.text s.i=b;intro c2;by_cases h1:b≥97<;>by_cases h2:b≤122<;>by_cases h3:b≥48<;>by_cases h4:b≤57<;>simp_all))
  rw [aH (x:=s.i+1)];refine ⟨⟨by simp only;omega,by simp only;omega,h2,h3,λj hj=>?_⟩,by simp only [agO];omega⟩
  by_cases hji:(j:Int)<s.i
  ·exact h4 j hji
  ·have:(j:Int)=s.i:=by simp only at hj;omega
   rw [this];exact hg
 ·have c1:(s.text.size:Int)≤s.i:=by simpa using c1
  exact .inl ⟨rfl,λj hj=>h4 j (by omega)⟩
def aaU:bK zO:=⟨0,51,[0,2,3],[],aR0,aRM,λv _=>⟨gSr (v.getD 0 .junk),vW (v.getD 1 .junk),gI (v.getD 2 .junk)⟩,au5,λs r=> {r with text:=s.text},λs=>s,λ_ s=>s,[.ret,.exit 0],aAL,alM,agO⟩
abbrev Un:=aaU.run
abbrev arY:=aaU.jf
abbrev aOl:=aaU.q
theorem aLM (s:zO) (hI:alM s):(au5 s).all (λ_=>True):=by
 refine ⟨λc1=>⟨?_,λ_=>trivial,λ_=>trivial⟩,λ_=>trivial⟩
 ·(obtain ⟨h0,h1,h2,h3,h4⟩:=hI;simp at c1;omega)
theorem aBm:aaU.Ok:={}
theorem aA8:aaU.Pf (aJa):=⟨aRr,λ_ _=>rfl,aNc,aLM⟩
theorem aEU:bC Tryz.prog aP (AN 0) (.loop KR) aaU.lp:=bK.snd aBm aA8 (aQ (Γ:=ac2) (K:=dR) (L:=ay) als aA KR (λb hb=>by rw [show ax KR=[] by kernel_rfl] at hb;cases hb)) (λs=>by kernel_rfl)
theorem aH2 (s:zO) (hE:aAL s):∃s',alM s'∧aJa (arY s) s' (Un s):=bK.fin aBm aA8 s hE
def aai:List LV→T LV
 | [.v (.string w)]=> .ok (.v (.bool (gwB w)))
 |_=> .no
def WW:List LV→T LV:=gZ Tryz.prog Tryz.f163.params.toList aai
theorem ap3 (w:ByteArray):letI a:=(w.size:Int);cO Tryz.prog aP (ac2) dR (λi=>if i=4 then aaU.lp else ay i) Tryz.f163 [.v (.string w)]=.br (decide (a<1)) (.ok (.v (.bool false))) (.br (decide (a>12)) (.ok (.v (.bool false))) (.req (0≤(0:Int)∧(0:Int)<a) (.br (decide ((wo w (0:Int))<97)) (.ok (.v (.bool false))) (.req (0≤(0:Int)∧(0:Int)<a) (.br (decide ((wo w (0:Int))>122)) (.ok (.v (.bool false))) (.req (aOl (⟨w,false,(1:Int)⟩:zO)) (.br (iV (arY (⟨w,false,(1:Int)⟩:zO)) (.ret)) (.ok (.v (.bool (Un (⟨w,false,(1:Int)⟩:zO)).r))) (.ok (.v (.bool true)))))))))):=by kernel_rfl
theorem auZ:Valid Tryz.prog aP 163 WW:=aI Tryz.func163 rfl als aA (L:=(λi=>if i=4 then aaU.lp else ay i)) (λb hb=>by
 rw [show ax _=[KR] by kernel_rfl] at hb
 simp only [List.mem_cons,List.not_mem_nil,or_false] at hb;subst hb;exact aEU) (λargs lv h=>by
 unfold aai at h;split at h
 ·simp only [canL,canX]
  rw [ap3];rename_i w;obtain rfl:=h
  have bad:¬(((1≤w.size∧w.size≤12)∧(97≤wo w 0∧wo w 0≤122)))→LV.v (.bool false)=LV.v (.bool (gwB w)):=λhn=>congrArg (λz=>LV.v (.bool z)) (by
   rw [eq_comm,Bool.eq_false_iff];intro h;simp only [gwB,chA,Bool.and_eq_true,decide_eq_true_eq] at h;exact hn ⟨h.1,by omega,by omega⟩)
  refine ⟨λc=>bad (by simp at c;omega),λc=>⟨λc2=>bad (by simp at c2;omega),λc2=>⟨by simp at c;omega,λc3=>bad (by simp at c3;omega),λc3=>⟨by simp at c;omega,λc4=>bad (by simp at c4;omega),λc4=>?_⟩⟩⟩⟩
  simp only [decide_eq_false_iff_not] at c c2 c3 c4
  have hE:aAL ⟨w,false,1⟩:=⟨rfl,by simp only;omega,by simp only;omega,trivial⟩
  have key:gwB w=(List.range w.size).all λi=>i==0 ||chB (wo w i):=by
   simp only [gwB,chA];rw [decide_eq_true (by omega),decide_eq_true (by omega),decide_eq_true (by omega)]
   rfl
  obtain ⟨s',_,hq⟩:=aH2 _ hE;refine ⟨⟨hE,rfl,rfl⟩,?_⟩;rw [key];rcases hq with ⟨h1,h2⟩ |⟨h1,h2,j,h3,h4⟩
  ·rw [h1]
   refine ⟨λh=>(by cases h),λ_=>congrArg (λz=>LV.v (.bool z)) ?_⟩
   rw [eq_comm,List.all_eq_true];intro i hi
   have:=h2 i (by show (i:Int)<(w.size:Int);have:=List.mem_range.1 hi;omega)
   simp only [Qn] at this;rw [show (Un ⟨w,false,1⟩).text=w from rfl] at this;rw [Bool.or_eq_true] at this;rcases this with h|h
   ·have:i=0:=by simp at h;omega
    simp [this]
   ·rw [h];simp
  ·rw [h1,h2]
   refine ⟨λ_=>congrArg (λz=>LV.v (.bool z)) ?_,λh=>by cases h⟩
   rw [eq_comm,Bool.eq_false_iff];intro hx;rw [List.all_eq_true] at hx
   have h3:(j:Int)<(w.size:Int):=h3
   have:=hx j (List.mem_range.2 (by omega))
   simp only [Qn] at h4;rw [show (Un ⟨w,false,1⟩).text=w from rfl] at h4;rw [Bool.or_eq_false_iff] at h4
   have h5:=h4.1
   simp at h5
   rw [h4.2] at this
   simp at this
   omega
 ·cases h)
def aaj:List LV→T LV
 | [.v (.string w)]=> .ok (.v (.bool (nameB w)))
 |_=> .no
def WX:List LV→T LV:=gZ Tryz.prog Tryz.f159.params.toList aaj
def aNw:Specs:=aW [(163,WW),(164,WT)]
theorem aRt:∀g S,aNw g=some S→Valid Tryz.prog aP g S:=aS (l:=[(163,WW),(164,WT)]) ⟨auZ,auW,trivial⟩
theorem ap4 (w:ByteArray):cO Tryz.prog aP (aNw) dR ay Tryz.f159 [.v (.string w)]=.ok (.v (.bool ((gwB w)&&(!(JW w))))):=by kernel_rfl
theorem au0:Valid Tryz.prog aP 159 WX:=aI Tryz.func159 rfl aRt aA (bf (by kernel_rfl)) (λargs lv h=>by
 unfold aaj at h;split at h
 ·simp only [canL,canX]
  rw [ap4];exact h
 ·cases h)
def ajV:List LV→T LV
 | [.v (.string w)]=> .ok (.v (.bool (nameB w)))
 |_=> .no
def aev:List LV→T LV:=gZ Tryz.prog Tryz.f99.params.toList ajV
def azh:Specs:=aW [(159,WX),(165,zK),(166,FW),(169,FV)]
theorem aH7:∀g S,azh g=some S→Valid Tryz.prog aP g S:=aS (l:=[(159,WX),(165,zK),(166,FW),(169,FV)]) ⟨au0,Xq,aeW,aeV,trivial⟩
def aNb:Hand:=inl Tryz.prog aP azh (jT Tryz.prog aP (azh) 20 2) 9
theorem aRq:dn Tryz.prog aP aNb:=bV aH7 (dD aH7) 9
theorem ayG (w:ByteArray):cO Tryz.prog aP (azh) aNb ay Tryz.f99 [.v (.string w)]=.br (((1:Int) !=1) ||((!(ByteArray.empty.toList==(ByteArray.mk #[]).toList)) ||((0:Int) !=0))) (.ok (.v (.bool false))) (.br (((2:Int) !=2) ||((decide ((3:Int)<1)) ||((decide ((3:Int)>7)) ||(!(nameB w))))) (.br (!false) (.ok (.v (.bool false))) (.ok (.v (.bool true)))) (.br (!true) (.ok (.v (.bool false))) (.ok (.v (.bool true))))):=by kernel_rfl
theorem aEr:Valid Tryz.prog aP 99 aev:=aI Tryz.func99 rfl aH7 aRq (bf (by kernel_rfl)) (λargs lv h=>by
 unfold ajV at h;split at h
 ·simp only [canL,canX]
  rw [ayG];rename_i w;obtain rfl:=h;refine ⟨λc=>?_,λ_=>?_⟩
  ·exfalso
   rw [xu] at c
   revert c
   decide
  ·cases nameB w<;>simp [T.all]
 ·cases h)
def aag:List LV→T LV
 | [.v (.agg ⟨[.int .i64 a,.int .i64 b]⟩),.v (.int .i64 n)]=> .ok (.v (.bool (inB n a b)))
 |_=> .no
def yh:List LV→T LV:=gZ Tryz.prog Tryz.f127.params.toList aag
def azg:Specs:=aW []
theorem aH6:∀g S,azg g=some S→Valid Tryz.prog aP g S:=aS (l:=[]) trivial
theorem ap1 (a b n:Int):cO Tryz.prog aP (azg) dR ay Tryz.f127 [.v (.agg #[.int .i64 a,.int .i64 b]),.v (.int .i64 n)]=.ok (.v (.bool ((decide (n≥a))&&(decide (n≤b))))):=by kernel_rfl
theorem TS:Valid Tryz.prog aP 127 yh:=aI Tryz.func127 rfl aH6 aA (bf (by kernel_rfl)) (λargs lv h=>by
 unfold aag at h;split at h
 ·simp only [canL,canX]
  rw [ap1];exact h
 ·cases h)
def ajW:List LV→T LV
 | [.v (.agg ⟨[.int .i64 am,.int .i64 mo,.int .i64 _,.int .i64 _,.int .i64 _]⟩)]=> .ok (.v (.bool (decide (mo>am))))
 |_=> .no
def aew:List LV→T LV:=gZ Tryz.prog Tryz.f150.params.toList ajW
theorem ayH (am mo ga lo de:Int):cO Tryz.prog aP (azg) dR ay Tryz.f150 [.v (.agg #[.int .i64 am,.int .i64 mo,.int .i64 ga,.int .i64 lo,.int .i64 de])]=.ok (.v (.bool (decide (mo>am)))):=by kernel_rfl
theorem aEs:Valid Tryz.prog aP 150 aew:=aI Tryz.func150 rfl aH6 aA (bf (by kernel_rfl)) (λargs lv h=>by
 unfold ajW at h;split at h
 ·simp only [canL,canX]
  rw [ayH];exact h
 ·cases h)
def ajX:List LV→T LV
 | [.v (.agg ⟨[.string _,.int .i64 _,.int .i64 _,.int .i64 mi,.int .i64 ma,.int .i64 _,.int .i64 fb,.int .i64 _]⟩)]=> .ok (.v (.bool (decide (mi≤ma)&&((fb==0) ||inB fb mi ma))))
 |_=> .no
def aex:List LV→T LV:=gZ Tryz.prog Tryz.f151.params.toList ajX
theorem ayI (nm:ByteArray) (at_ ph mi ma st fb ow:Int):cO Tryz.prog aP (azg) dR ay Tryz.f151 [.v (.agg #[.string nm,.int .i64 at_,.int .i64 ph,.int .i64 mi,.int .i64 ma,.int .i64 st,.int .i64 fb,.int .i64 ow])]=.ok (.v (.bool ((decide (mi≤ma))&&((fb==0) ||((decide (fb≥mi))&&(decide (fb≤ma))))))):=by kernel_rfl
theorem aEt:Valid Tryz.prog aP 151 aex:=aI Tryz.func151 rfl aH6 aA (bf (by kernel_rfl)) (λargs lv h=>by
 unfold ajX at h;split at h
 ·simp only [canL,canX]
  rw [ayI];exact h
 ·cases h)
def aiY:List LV→T LV
 | [.v (.agg ⟨[.string nm,.int .i64 up_,.int .i64 li,.int .i64 ne,.int .i64 ra,.int .i64 he,.int .i64 am,.int .i64 mo,.int .i64 ga,.int .i64 lo,.int .i64 de]⟩),.v (.int .i64 i)]=> .req (0≤i) (.ok (.v (.bool (IB i (nm,up_,li,ne,(ra,he),am,mo,ga,lo,de)))))
 |_=> .no
def adK:List LV→T LV:=gZ Tryz.prog Tryz.f126.params.toList aiY
def aCk:Specs:=aW [(127,yh),(150,aew)]
theorem aNu:∀g S,aCk g=some S→Valid Tryz.prog aP g S:=aS (l:=[(127,yh),(150,aew)]) ⟨TS,aEs,trivial⟩
theorem axJ (nm:ByteArray) (up_ li ne ra he am mo ga lo de i:Int):cO Tryz.prog aP (aCk) dR ay Tryz.f126 [.v (.agg #[.string nm,.int .i64 up_,.int .i64 li,.int .i64 ne,.int .i64 ra,.int .i64 he,.int .i64 am,.int .i64 mo,.int .i64 ga,.int .i64 lo,.int .i64 de]),.v (.int .i64 i)]=.br (if i==0 then (up_ !=(-1)) ||((decide (i>0))&&((decide (up_<0)) ||(decide (up_≥i)))) else (decide (i>0))&&((decide (up_<0)) ||(decide (up_≥i)))) (.ok (.v (.bool false))) (.br ((!(inB li (1:Int) (1000:Int))) ||(!(inB ne (1:Int) (1000:Int)))) (.ok (.v (.bool false))) (.br ((!((ra==0)&&(he==0)))&&(!(inB ra (1:Int) (1000:Int)) ||(!(inB he (0:Int) (1000000:Int))))) (.ok (.v (.bool false))) (.br ((am==0)&&((mo==0)&&((ga==0)&&((lo==0)&&(de==0))))) (.ok (.v (.bool true))) (.ok (.v (.bool ((inB am (0:Int) (200000:Int))&&((inB mo (0:Int) (200000:Int))&&((inB ga (0:Int) (1000:Int))&&((inB lo (0:Int) (1000:Int))&&((inB de (1:Int) (1000000:Int))&&(decide (mo>am))))))))))))):=by kernel_rfl
theorem aDJ:Valid Tryz.prog aP 126 adK:=aI Tryz.func126 rfl aNu aA (bf (by kernel_rfl)) (λargs lv h=>by
 unfold aiY at h;split at h
 ·simp only [canL,canX]
  rw [axJ];obtain ⟨hi,h⟩:=h;exact aIV (K:=λz=>LV.v (.bool z)=lv) hi h
 ·cases h)
def aiZ:List LV→T LV
 | [.agg [.xl (.pair .str (.pair (.int .i64) (.pair (.int .i64) (.pair (.int .i64) (.pair (.pair (.int .i64) (.int .i64)) (.pair (.int .i64) (.pair (.int .i64) (.pair (.int .i64) (.pair (.int .i64) (.int .i64)))))))))) cs,.xl (.str) os,.xl (.pair .str (.pair (.int .i64) (.pair (.int .i64) (.int .i64)))) _,.xl (.pair .str (.pair (.int .i64) (.pair (.int .i64) (.pair (.int .i64) (.pair (.int .i64) (.pair (.int .i64) (.pair (.int .i64) (.int .i64)))))))) _,.xl (.pair .str (.int .i64)) _],.v (.agg ⟨[.string nm,.int .i64 at_,.int .i64 ph,.int .i64 mi,.int .i64 ma,.int .i64 st,.int .i64 fb,.int .i64 ow]⟩)]=> .req ((cs.length:Int)≤1000∧(os.length:Int)≤1000) (.ok (.v (.bool (JZ cs.length os.length (nm,at_,ph,mi,ma,st,fb,ow)))))
 |_=> .no
def adL:List LV→T LV:=gZ Tryz.prog Tryz.f128.params.toList aiZ
def aCj:Specs:=aW [(127,yh),(151,aex)]
theorem aNt:∀g S,aCj g=some S→Valid Tryz.prog aP g S:=aS (l:=[(127,yh),(151,aex)]) ⟨TS,aEt,trivial⟩
theorem axK (cs:List Cd) (os:List ByteArray) (ks:List Ko) (gs:List Ch) (bs:List Ba) (nm:ByteArray) (at_ ph mi ma st fb ow:Int):cO Tryz.prog aP (aCj) dR ay Tryz.f128 [.agg [.xl dY cs,.xl .str os,.xl fC ks,.xl dP gs,.xl fD bs],.v (.agg #[.string nm,.int .i64 at_,.int .i64 ph,.int .i64 mi,.int .i64 ma,.int .i64 st,.int .i64 fb,.int .i64 ow])]=.ok (.v (.bool ((inB at_ (0:Int) (aSe ((cs.length:Int)-1)))&&((inB ow (0:Int) (aSe ((os.length:Int)-1)))&&((inB ph (1:Int) (7:Int))&&((inB mi (1:Int) (80:Int))&&((inB ma (1:Int) (80:Int))&&((inB st (1:Int) (80:Int))&&((inB fb (0:Int) (80:Int))&&(decide (mi≤ma)&&((fb==0) ||inB fb mi ma))))))))))):=by kernel_rfl
theorem aDK:Valid Tryz.prog aP 128 adL:=aI Tryz.func128 rfl aNt aA (bf (by kernel_rfl)) (λargs lv h=>by
 unfold aiZ at h;split at h
 ·simp only [canL,canX]
  rw [axK];rename_i cs os _ _ _ _ at_ ph mi ma st fb ow;obtain ⟨⟨h1,h2⟩,rfl⟩:=h;refine congrArg (λz=>LV.v (.bool z)) ?_
  rw [aH (x:=(cs.length:Int)-1),aH (x:=(os.length:Int)-1)];unfold JZ chW;rw [Bool.eq_iff_iff];simp only [Bool.and_eq_true,Bool.or_eq_true,dV,decide_eq_true_eq,beq_iff_eq];omega
 ·cases h)
structure jS where
 l:List Cd
 n:Int
 i:Int
 aj:List Cd
 aF:List ByteArray
 ak:List Ko
 af:List Ch
 aN:List Ba
 out:List ByteArray
def aQz (s:jS):List LV:=[.own 0 0,.os 1 1 0 (s.out.length),.xl dY s.l,.v (.int .i64 s.n),.v (.int .i64 s.i)]
def aPh (s:jS):List aZ:=[⟨[.xl dY s.aj,.xl .str s.aF,.xl fC s.ak,.xl dP s.af,.xl fD s.aN],28,.cl,false⟩,⟨[],9,.vec .str s.out,false⟩]
def Fe:Code:=((ax (Tryz.f98.body.getD .skip))[0]?).getD .skip
def XW (s:jS):T (Rd jS):=
 .br (decide (s.i<s.n)) (.req (0≤s.i∧s.i<(s.l.length:Int)) (.req (0+(s.out.length)=s.out.length∧((s.out.length+List.length ([(iw s.l s.i).1]):Nat):Int)*16≤2^47∧((s.out.length+List.length ([(iw s.l s.i).1]):Nat):Int)<2^62) (.req (0=0∧(s.out.length+List.length ([(iw s.l s.i).1]))=List.length (s.out++([(iw s.l s.i).1]))) (.ok (.next {s with i:=(aSe (s.i+1)),out:=(s.out++([(iw s.l s.i).1]))}))))) (.rl s.out (.ok (.stop (.exit 0) s)))
abbrev ahM (s:jS):=(XW s).rd s
def aaO (s:jS):Prop:=s.i=0∧s.n=(s.l.length:Int)∧s.n≤1000∧(s.out.length:Int)≤10000
def SX (s:jS):Prop:=0≤s.i∧s.i≤s.n∧s.n=(s.l.length:Int)∧s.n≤1000∧(s.out.length:Int)≤10000+s.i
def Vq (s:jS):Nat:=(s.n-s.i).toNat
def atC (x:Ex) (_ s':jS):Prop:=x=.exit 0∧s'.i=s'.n
theorem aMI:∀s,aaO s→SX s:=by
 intro s h;obtain ⟨h0,h1,h2,h3⟩:=h;exact ⟨by omega,by omega,h1,h2,by omega⟩
theorem aHj (s:jS) (hI:SX s):bJ (λs'=>SX s'∧Vq s'<Vq s) (λx s'=>atC x s s') (ahM s):=by
 unfold ahM XW;dsimp only [T.rd,T.rl];obtain ⟨h0,h1,h2,h3,h4⟩:=hI;refine ai (λc1=>?_) (λc1=>?_)
 ·have c1:s.i<s.n:=by simpa using c1
  rw [aH (x:=s.i+1)];exact ⟨⟨by simp only;omega,by simp only;omega,h2,h3,by simp only [List.length_append,List.length_cons,List.length_nil];omega⟩,by simp only [Vq];omega⟩
 ·have c1:s.n≤s.i:=by simpa using c1
  exact ⟨rfl,by omega⟩
def JB:bK jS:=⟨0,80,[1,3,15,16,17],[.nl 3 9 .str],aQz,aPh,λv b=>⟨aU dY (v.getD 2 .junk),gI (v.getD 3 .junk),gI (v.getD 4 .junk),aU dY (bn (aT b 0) 0),aU .str (bn (aT b 0) 1),aU fC (bn (aT b 0) 2),aU dP (bn (aT b 0) 3),aU fD (bn (aT b 0) 4),iW .str (aT b 1)⟩,XW,λs r=> {r with l:=s.l,n:=s.n,aj:=s.aj,aF:=s.aF,ak:=s.ak,af:=s.af,aN:=s.aN},λs=>s,λ_ s=>s,[.exit 0],aaO,SX,Vq⟩
abbrev ja:=JB.run
abbrev az0:=JB.jf
abbrev aJ4:=JB.q
theorem aF9 (s:jS) (hI:SX s):(XW s).all (λ_=>True):=by
 refine ⟨λc1=>⟨?_,?_,?_,trivial⟩,λc1=>⟨aSf,trivial⟩⟩
 all_goals ((obtain ⟨h0,h1,h2,h3,h4⟩:=hI;(try simp only [decide_eq_true_eq] at c1);first|omega|(refine ⟨by omega,?_,?_⟩<;>simp only [List.length_cons,List.length_nil]<;>omega) |(simp only [List.length_append,List.length_cons,List.length_nil];omega) |exact ⟨rfl,by simp⟩ |exact ⟨rfl,rfl⟩))
def ND:Specs:=aW []
theorem QY:∀g S,ND g=some S→Valid Tryz.prog aP g S:=aS (l:=[]) trivial
theorem ab7:JB.Ok:={}
theorem abJ:JB.Pf (atC):=⟨aMI,λ_ _=>rfl,aHj,aF9⟩
theorem av8:bC Tryz.prog aP (AN 0) (.loop Fe) JB.lp:=bK.snd ab7 abJ (aQ (Γ:=ND) (K:=dR) (L:=ay) QY aA Fe (λb hb=>by rw [show ax Fe=[] by kernel_rfl] at hb;cases hb)) (λs=>by kernel_rfl)
theorem axE (s:jS) (hE:aaO s):∃s',SX s'∧atC (az0 s) s' (ja s):=bK.fin ab7 abJ s hE
theorem axD (s:jS) (hE:aaO s):(ja s).out=s.out++s.l.map (·.1):=by
 have hk:=bK.yx ab7 abJ (λs=>s.out++(s.l.drop s.i.toNat).map (·.1)) (λs hI=>by
  obtain ⟨h0,h1,h2,h3,h4⟩:=hI
  show bJ _ _ (ahM s)
  unfold ahM XW;dsimp only [T.rd,T.rl];refine ai (λc1=>?_) (λc1=>?_)
  ·have c1:s.i<s.n:=by simpa using c1
   rw [aH (x:=s.i+1)]
   show _++_=_++_
   simp only;rw [(Zi h0 (show s.i<s.l.length by omega)).1]
   simp
  ·rfl) s hE
 obtain ⟨s',hI,q1,q2⟩:=axE s hE
 have q3:(ja s).i=(ja s).n:=q2
 have hn:(ja s).n=(s.l.length:Int):=hE.2.1
 have hl:(ja s).l=s.l:=rfl
 rw [q3,hn,hl,List.drop_eq_nil_of_le (by omega),hE.1] at hk
 simpa using hk
structure kU where
 l:List ByteArray
 n:Int
 i:Int
 aj:List Cd
 aF:List ByteArray
 ak:List Ko
 af:List Ch
 aN:List Ba
 out:List ByteArray
def aQy (s:kU):List LV:=[.own 0 0,.os 1 1 0 (s.out.length),.xl .str s.l,.v (.int .i64 s.n),.v (.int .i64 s.i)]
def aPg (s:kU):List aZ:=[⟨[.xl dY s.aj,.xl .str s.aF,.xl fC s.ak,.xl dP s.af,.xl fD s.aN],28,.cl,false⟩,⟨[],9,.vec .str s.out,false⟩]
def Fb:Code:=((ax (Tryz.f98.body.getD .skip))[1]?).getD .skip
def XV (s:kU):T (Rd kU):=
 .br (decide (s.i<s.n)) (.req (0≤s.i∧s.i<(s.l.length:Int)) (.req (0+(s.out.length)=s.out.length∧((s.out.length+List.length ([(gS s.l s.i)]):Nat):Int)*16≤2^47∧((s.out.length+List.length ([(gS s.l s.i)]):Nat):Int)<2^62) (.req (0=0∧(s.out.length+List.length ([(gS s.l s.i)]))=List.length (s.out++([(gS s.l s.i)]))) (.ok (.next {s with i:=(aSe (s.i+1)),out:=(s.out++([(gS s.l s.i)]))}))))) (.rl s.out (.ok (.stop (.exit 2) s)))
abbrev ahL (s:kU):=(XV s).rd s
def aaN (s:kU):Prop:=s.i=0∧s.n=(s.l.length:Int)∧s.n≤1000∧(s.out.length:Int)≤10000
def SV (s:kU):Prop:=0≤s.i∧s.i≤s.n∧s.n=(s.l.length:Int)∧s.n≤1000∧(s.out.length:Int)≤10000+s.i
def Vp (s:kU):Nat:=(s.n-s.i).toNat
def atA (x:Ex) (_ s':kU):Prop:=x=.exit 2∧s'.i=s'.n
theorem aMH:∀s,aaN s→SV s:=by
 intro s h;obtain ⟨h0,h1,h2,h3⟩:=h;exact ⟨by omega,by omega,h1,h2,by omega⟩
theorem aHi (s:kU) (hI:SV s):bJ (λs'=>SV s'∧Vp s'<Vp s) (λx s'=>atA x s s') (ahL s):=by
 unfold ahL XV;dsimp only [T.rd,T.rl];obtain ⟨h0,h1,h2,h3,h4⟩:=hI;refine ai (λc1=>?_) (λc1=>?_)
 ·have c1:s.i<s.n:=by simpa using c1
  rw [aH (x:=s.i+1)];exact ⟨⟨by simp only;omega,by simp only;omega,h2,h3,by simp only [List.length_append,List.length_cons,List.length_nil];omega⟩,by simp only [Vp];omega⟩
 ·have c1:s.n≤s.i:=by simpa using c1
  exact ⟨rfl,by omega⟩
def JA:bK kU:=⟨0,80,[1,3,28,29,30],[],aQy,aPg,λv b=>⟨aU .str (v.getD 2 .junk),gI (v.getD 3 .junk),gI (v.getD 4 .junk),aU dY (bn (aT b 0) 0),aU .str (bn (aT b 0) 1),aU fC (bn (aT b 0) 2),aU dP (bn (aT b 0) 3),aU fD (bn (aT b 0) 4),iW .str (aT b 1)⟩,XV,λs r=> {r with l:=s.l,n:=s.n,aj:=s.aj,aF:=s.aF,ak:=s.ak,af:=s.af,aN:=s.aN},λs=>s,λ_ s=>s,[.exit 2],aaN,SV,Vp⟩
abbrev jw:=JA.run
abbrev azZ:=JA.jf
abbrev aJ3:=JA.q
theorem aF8 (s:kU) (hI:SV s):(XV s).all (λ_=>True):=by
 refine ⟨λc1=>⟨?_,?_,?_,trivial⟩,λc1=>⟨aSf,trivial⟩⟩
 all_goals ((obtain ⟨h0,h1,h2,h3,h4⟩:=hI;(try simp only [decide_eq_true_eq] at c1);first|omega|(refine ⟨by omega,?_,?_⟩<;>simp only [List.length_cons,List.length_nil]<;>omega) |(simp only [List.length_append,List.length_cons,List.length_nil];omega) |exact ⟨rfl,by simp⟩ |exact ⟨rfl,rfl⟩))
theorem ab6:JA.Ok:={}
theorem abI:JA.Pf (atA):=⟨aMH,λ_ _=>rfl,aHi,aF8⟩
theorem av7:bC Tryz.prog aP (AN 0) (.loop Fb) JA.lp:=bK.snd ab6 abI (aQ (Γ:=ND) (K:=dR) (L:=ay) QY aA Fb (λb hb=>by rw [show ax Fb=[] by kernel_rfl] at hb;cases hb)) (λs=>by kernel_rfl)
theorem axC (s:kU) (hE:aaN s):∃s',SV s'∧atA (azZ s) s' (jw s):=bK.fin ab6 abI s hE
theorem axB (s:kU) (hE:aaN s):(jw s).out=s.out++s.l:=by
 have hk:=bK.yx ab6 abI (λs=>s.out++(s.l.drop s.i.toNat)) (λs hI=>by
  obtain ⟨h0,h1,h2,h3,h4⟩:=hI
  show bJ _ _ (ahL s)
  unfold ahL XV;dsimp only [T.rd,T.rl];refine ai (λc1=>?_) (λc1=>?_)
  ·have c1:s.i<s.n:=by simpa using c1
   rw [aH (x:=s.i+1)]
   show _++_=_++_
   simp only;rw [(xY h0 (show s.i<s.l.length by omega)).1]
   simp
  ·rfl) s hE
 obtain ⟨s',hI,q1,q2⟩:=axC s hE
 have q3:(jw s).i=(jw s).n:=q2
 have hn:(jw s).n=(s.l.length:Int):=hE.2.1
 have hl:(jw s).l=s.l:=rfl
 rw [q3,hn,hl,List.drop_eq_nil_of_le (by omega),hE.1] at hk
 simpa using hk
structure lU where
 l:List Ko
 n:Int
 i:Int
 aj:List Cd
 aF:List ByteArray
 ak:List Ko
 af:List Ch
 aN:List Ba
 out:List ByteArray
def aQx (s:lU):List LV:=[.own 0 0,.os 1 1 0 (s.out.length),.xl fC s.l,.v (.int .i64 s.n),.v (.int .i64 s.i)]
def aPf (s:lU):List aZ:=[⟨[.xl dY s.aj,.xl .str s.aF,.xl fC s.ak,.xl dP s.af,.xl fD s.aN],28,.cl,false⟩,⟨[],9,.vec .str s.out,false⟩]
def Fa:Code:=((ax (Tryz.f98.body.getD .skip))[2]?).getD .skip
def XU (s:lU):T (Rd lU):=
 .br (decide (s.i<s.n)) (.req (0≤s.i∧s.i<(s.l.length:Int)) (.req (0+(s.out.length)=s.out.length∧((s.out.length+List.length ([(pU s.l s.i).1]):Nat):Int)*16≤2^47∧((s.out.length+List.length ([(pU s.l s.i).1]):Nat):Int)<2^62) (.req (0=0∧(s.out.length+List.length ([(pU s.l s.i).1]))=List.length (s.out++([(pU s.l s.i).1]))) (.ok (.next {s with i:=(aSe (s.i+1)),out:=(s.out++([(pU s.l s.i).1]))}))))) (.rl s.out (.ok (.stop (.exit 4) s)))
abbrev ahK (s:lU):=(XU s).rd s
def aaM (s:lU):Prop:=s.i=0∧s.n=(s.l.length:Int)∧s.n≤1000∧(s.out.length:Int)≤10000
def SS (s:lU):Prop:=0≤s.i∧s.i≤s.n∧s.n=(s.l.length:Int)∧s.n≤1000∧(s.out.length:Int)≤10000+s.i
def Vo (s:lU):Nat:=(s.n-s.i).toNat
def atz (x:Ex) (_ s':lU):Prop:=x=.exit 4∧s'.i=s'.n
theorem aMG:∀s,aaM s→SS s:=by
 intro s h;obtain ⟨h0,h1,h2,h3⟩:=h;exact ⟨by omega,by omega,h1,h2,by omega⟩
theorem aHh (s:lU) (hI:SS s):bJ (λs'=>SS s'∧Vo s'<Vo s) (λx s'=>atz x s s') (ahK s):=by
 unfold ahK XU;dsimp only [T.rd,T.rl];obtain ⟨h0,h1,h2,h3,h4⟩:=hI;refine ai (λc1=>?_) (λc1=>?_)
 ·have c1:s.i<s.n:=by simpa using c1
  rw [aH (x:=s.i+1)];exact ⟨⟨by simp only;omega,by simp only;omega,h2,h3,by simp only [List.length_append,List.length_cons,List.length_nil];omega⟩,by simp only [Vo];omega⟩
 ·have c1:s.n≤s.i:=by simpa using c1
  exact ⟨rfl,by omega⟩
def Jz:bK lU:=⟨0,80,[1,3,41,42,43],[],aQx,aPf,λv b=>⟨aU fC (v.getD 2 .junk),gI (v.getD 3 .junk),gI (v.getD 4 .junk),aU dY (bn (aT b 0) 0),aU .str (bn (aT b 0) 1),aU fC (bn (aT b 0) 2),aU dP (bn (aT b 0) 3),aU fD (bn (aT b 0) 4),iW .str (aT b 1)⟩,XU,λs r=> {r with l:=s.l,n:=s.n,aj:=s.aj,aF:=s.aF,ak:=s.ak,af:=s.af,aN:=s.aN},λs=>s,λ_ s=>s,[.exit 4],aaM,SS,Vo⟩
abbrev jY:=Jz.run
abbrev azY:=Jz.jf
abbrev aJ2:=Jz.q
theorem aF7 (s:lU) (hI:SS s):(XU s).all (λ_=>True):=by
 refine ⟨λc1=>⟨?_,?_,?_,trivial⟩,λc1=>⟨aSf,trivial⟩⟩
 all_goals ((obtain ⟨h0,h1,h2,h3,h4⟩:=hI;(try simp only [decide_eq_true_eq] at c1);first|omega|(refine ⟨by omega,?_,?_⟩<;>simp only [List.length_cons,List.length_nil]<;>omega) |(simp only [List.length_append,List.length_cons,List.length_nil];omega) |exact ⟨rfl,by simp⟩ |exact ⟨rfl,rfl⟩))
theorem ab5:Jz.Ok:={}
theorem abH:Jz.Pf (atz):=⟨aMG,λ_ _=>rfl,aHh,aF7⟩
theorem av6:bC Tryz.prog aP (AN 0) (.loop Fa) Jz.lp:=bK.snd ab5 abH (aQ (Γ:=ND) (K:=dR) (L:=ay) QY aA Fa (λb hb=>by rw [show ax Fa=[] by kernel_rfl] at hb;cases hb)) (λs=>by kernel_rfl)
theorem axA (s:lU) (hE:aaM s):∃s',SS s'∧atz (azY s) s' (jY s):=bK.fin ab5 abH s hE
theorem axz (s:lU) (hE:aaM s):(jY s).out=s.out++s.l.map (·.1):=by
 have hk:=bK.yx ab5 abH (λs=>s.out++(s.l.drop s.i.toNat).map (·.1)) (λs hI=>by
  obtain ⟨h0,h1,h2,h3,h4⟩:=hI
  show bJ _ _ (ahK s)
  unfold ahK XU;dsimp only [T.rd,T.rl];refine ai (λc1=>?_) (λc1=>?_)
  ·have c1:s.i<s.n:=by simpa using c1
   rw [aH (x:=s.i+1)]
   show _++_=_++_
   simp only;rw [(NF h0 (show s.i<s.l.length by omega)).1]
   simp
  ·rfl) s hE
 obtain ⟨s',hI,q1,q2⟩:=axA s hE
 have q3:(jY s).i=(jY s).n:=q2
 have hn:(jY s).n=(s.l.length:Int):=hE.2.1
 have hl:(jY s).l=s.l:=rfl
 rw [q3,hn,hl,List.drop_eq_nil_of_le (by omega),hE.1] at hk
 simpa using hk
structure nJ where
 l:List Ch
 n:Int
 i:Int
 aj:List Cd
 aF:List ByteArray
 ak:List Ko
 af:List Ch
 aN:List Ba
 out:List ByteArray
def aQw (s:nJ):List LV:=[.own 0 0,.os 1 1 0 (s.out.length),.xl dP s.l,.v (.int .i64 s.n),.v (.int .i64 s.i)]
def aPe (s:nJ):List aZ:=[⟨[.xl dY s.aj,.xl .str s.aF,.xl fC s.ak,.xl dP s.af,.xl fD s.aN],28,.cl,false⟩,⟨[],9,.vec .str s.out,false⟩]
def E8:Code:=((ax (Tryz.f98.body.getD .skip))[3]?).getD .skip
def XT (s:nJ):T (Rd nJ):=
 .br (decide (s.i<s.n)) (.req (0≤s.i∧s.i<(s.l.length:Int)) (.req (0+(s.out.length)=s.out.length∧((s.out.length+List.length ([(bG s.l s.i).1]):Nat):Int)*16≤2^47∧((s.out.length+List.length ([(bG s.l s.i).1]):Nat):Int)<2^62) (.req (0=0∧(s.out.length+List.length ([(bG s.l s.i).1]))=List.length (s.out++([(bG s.l s.i).1]))) (.ok (.next {s with i:=(aSe (s.i+1)),out:=(s.out++([(bG s.l s.i).1]))}))))) (.rl s.out (.ok (.stop (.exit 6) s)))
abbrev ahJ (s:nJ):=(XT s).rd s
def aaL (s:nJ):Prop:=s.i=0∧s.n=(s.l.length:Int)∧s.n≤1000∧(s.out.length:Int)≤10000
def SQ (s:nJ):Prop:=0≤s.i∧s.i≤s.n∧s.n=(s.l.length:Int)∧s.n≤1000∧(s.out.length:Int)≤10000+s.i
def Vm (s:nJ):Nat:=(s.n-s.i).toNat
def aty (x:Ex) (_ s':nJ):Prop:=x=.exit 6∧s'.i=s'.n
theorem aMF:∀s,aaL s→SQ s:=by
 intro s h;obtain ⟨h0,h1,h2,h3⟩:=h;exact ⟨by omega,by omega,h1,h2,by omega⟩
theorem aHg (s:nJ) (hI:SQ s):bJ (λs'=>SQ s'∧Vm s'<Vm s) (λx s'=>aty x s s') (ahJ s):=by
 unfold ahJ XT;dsimp only [T.rd,T.rl];obtain ⟨h0,h1,h2,h3,h4⟩:=hI;refine ai (λc1=>?_) (λc1=>?_)
 ·have c1:s.i<s.n:=by simpa using c1
  rw [aH (x:=s.i+1)];exact ⟨⟨by simp only;omega,by simp only;omega,h2,h3,by simp only [List.length_append,List.length_cons,List.length_nil];omega⟩,by simp only [Vm];omega⟩
 ·have c1:s.n≤s.i:=by simpa using c1
  exact ⟨rfl,by omega⟩
def Jy:bK nJ:=⟨0,80,[1,3,54,55,56],[],aQw,aPe,λv b=>⟨aU dP (v.getD 2 .junk),gI (v.getD 3 .junk),gI (v.getD 4 .junk),aU dY (bn (aT b 0) 0),aU .str (bn (aT b 0) 1),aU fC (bn (aT b 0) 2),aU dP (bn (aT b 0) 3),aU fD (bn (aT b 0) 4),iW .str (aT b 1)⟩,XT,λs r=> {r with l:=s.l,n:=s.n,aj:=s.aj,aF:=s.aF,ak:=s.ak,af:=s.af,aN:=s.aN},λs=>s,λ_ s=>s,[.exit 6],aaL,SQ,Vm⟩
abbrev lZ:=Jy.run
abbrev azX:=Jy.jf
abbrev aJ1:=Jy.q
theorem aF6 (s:nJ) (hI:SQ s):(XT s).all (λ_=>True):=by
 refine ⟨λc1=>⟨?_,?_,?_,trivial⟩,λc1=>⟨aSf,trivial⟩⟩
 all_goals ((obtain ⟨h0,h1,h2,h3,h4⟩:=hI;(try simp only [decide_eq_true_eq] at c1);first|omega|(refine ⟨by omega,?_,?_⟩<;>simp only [List.length_cons,List.length_nil]<;>omega) |(simp only [List.length_append,List.length_cons,List.length_nil];omega) |exact ⟨rfl,by simp⟩ |exact ⟨rfl,rfl⟩))
theorem ab4:Jy.Ok:={}
theorem abG:Jy.Pf (aty):=⟨aMF,λ_ _=>rfl,aHg,aF6⟩
theorem av5:bC Tryz.prog aP (AN 0) (.loop E8) Jy.lp:=bK.snd ab4 abG (aQ (Γ:=ND) (K:=dR) (L:=ay) QY aA E8 (λb hb=>by rw [show ax E8=[] by kernel_rfl] at hb;cases hb)) (λs=>by kernel_rfl)
theorem axy (s:nJ) (hE:aaL s):∃s',SQ s'∧aty (azX s) s' (lZ s):=bK.fin ab4 abG s hE
theorem axx (s:nJ) (hE:aaL s):(lZ s).out=s.out++s.l.map (·.1):=by
 have hk:=bK.yx ab4 abG (λs=>s.out++(s.l.drop s.i.toNat).map (·.1)) (λs hI=>by
  obtain ⟨h0,h1,h2,h3,h4⟩:=hI
  show bJ _ _ (ahJ s)
  unfold ahJ XT;dsimp only [T.rd,T.rl];refine ai (λc1=>?_) (λc1=>?_)
  ·have c1:s.i<s.n:=by simpa using c1
   rw [aH (x:=s.i+1)]
   show _++_=_++_
   simp only;rw [(Zh h0 (show s.i<s.l.length by omega)).1]
   simp
  ·rfl) s hE
 obtain ⟨s',hI,q1,q2⟩:=axy s hE
 have q3:(lZ s).i=(lZ s).n:=q2
 have hn:(lZ s).n=(s.l.length:Int):=hE.2.1
 have hl:(lZ s).l=s.l:=rfl
 rw [q3,hn,hl,List.drop_eq_nil_of_le (by omega),hE.1] at hk
 simpa using hk
structure pI where
 l:List Ba
 n:Int
 i:Int
 out:List ByteArray
def aQv (s:pI):List LV:=[.os 0 1 0 (s.out.length),.xl fD s.l,.v (.int .i64 s.n),.v (.int .i64 s.i)]
def aPd (s:pI):List aZ:=[⟨[],9,.vec .str s.out,false⟩]
def E5:Code:=((ax (Tryz.f98.body.getD .skip))[4]?).getD .skip
def XR (s:pI):T (Rd pI):=
 .br (decide (s.i<s.n)) (.req (0≤s.i∧s.i<(s.l.length:Int)) (.req (0+(s.out.length)=s.out.length∧((s.out.length+List.length ([(Gj s.l s.i).1]):Nat):Int)*16≤2^47∧((s.out.length+List.length ([(Gj s.l s.i).1]):Nat):Int)<2^62) (.req (0=0∧(s.out.length+List.length ([(Gj s.l s.i).1]))=List.length (s.out++([(Gj s.l s.i).1]))) (.ok (.next {s with i:=(aSe (s.i+1)),out:=(s.out++([(Gj s.l s.i).1]))}))))) (.rl s.out (.ok (.stop (.exit 8) s)))
abbrev ahI (s:pI):=(XR s).rd s
def aaK (s:pI):Prop:=s.i=0∧s.n=(s.l.length:Int)∧s.n≤1000∧(s.out.length:Int)≤10000
def SN (s:pI):Prop:=0≤s.i∧s.i≤s.n∧s.n=(s.l.length:Int)∧s.n≤1000∧(s.out.length:Int)≤10000+s.i
def Vl (s:pI):Nat:=(s.n-s.i).toNat
def atx (x:Ex) (_ s':pI):Prop:=x=.exit 8∧s'.i=s'.n
theorem aME:∀s,aaK s→SN s:=by
 intro s h;obtain ⟨h0,h1,h2,h3⟩:=h;exact ⟨by omega,by omega,h1,h2,by omega⟩
theorem aHf (s:pI) (hI:SN s):bJ (λs'=>SN s'∧Vl s'<Vl s) (λx s'=>atx x s s') (ahI s):=by
 unfold ahI XR;dsimp only [T.rd,T.rl];obtain ⟨h0,h1,h2,h3,h4⟩:=hI;refine ai (λc1=>?_) (λc1=>?_)
 ·have c1:s.i<s.n:=by simpa using c1
  rw [aH (x:=s.i+1)];exact ⟨⟨by simp only;omega,by simp only;omega,h2,h3,by simp only [List.length_append,List.length_cons,List.length_nil];omega⟩,by simp only [Vl];omega⟩
 ·have c1:s.n≤s.i:=by simpa using c1
  exact ⟨rfl,by omega⟩
def Jw:bK pI:=⟨0,80,[3,67,68,69],[],aQv,aPd,λv b=>⟨aU fD (v.getD 1 .junk),gI (v.getD 2 .junk),gI (v.getD 3 .junk),iW .str (aT b 0)⟩,XR,λs r=> {r with l:=s.l,n:=s.n},λs=>s,λ_ s=>s,[.exit 8],aaK,SN,Vl⟩
abbrev oZ:=Jw.run
abbrev azW:=Jw.jf
abbrev aJ0:=Jw.q
theorem aF5 (s:pI) (hI:SN s):(XR s).all (λ_=>True):=by
 refine ⟨λc1=>⟨?_,?_,?_,trivial⟩,λc1=>⟨aSf,trivial⟩⟩
 all_goals ((obtain ⟨h0,h1,h2,h3,h4⟩:=hI;(try simp only [decide_eq_true_eq] at c1);first|omega|(refine ⟨by omega,?_,?_⟩<;>simp only [List.length_cons,List.length_nil]<;>omega) |(simp only [List.length_append,List.length_cons,List.length_nil];omega) |exact ⟨rfl,by simp⟩ |exact ⟨rfl,rfl⟩))
theorem ab3:Jw.Ok:={}
theorem abE:Jw.Pf (atx):=⟨aME,λ_ _=>rfl,aHf,aF5⟩
theorem av4:bC Tryz.prog aP (AN 0) (.loop E5) Jw.lp:=bK.snd ab3 abE (aQ (Γ:=ND) (K:=dR) (L:=ay) QY aA E5 (λb hb=>by rw [show ax E5=[] by kernel_rfl] at hb;cases hb)) (λs=>by kernel_rfl)
theorem axw (s:pI) (hE:aaK s):∃s',SN s'∧atx (azW s) s' (oZ s):=bK.fin ab3 abE s hE
theorem axv (s:pI) (hE:aaK s):(oZ s).out=s.out++s.l.map (·.1):=by
 have hk:=bK.yx ab3 abE (λs=>s.out++(s.l.drop s.i.toNat).map (·.1)) (λs hI=>by
  obtain ⟨h0,h1,h2,h3,h4⟩:=hI
  show bJ _ _ (ahI s)
  unfold ahI XR;dsimp only [T.rd,T.rl];refine ai (λc1=>?_) (λc1=>?_)
  ·have c1:s.i<s.n:=by simpa using c1
   rw [aH (x:=s.i+1)]
   show _++_=_++_
   simp only;rw [(Zj h0 (show s.i<s.l.length by omega)).1]
   simp
  ·rfl) s hE
 obtain ⟨s',hI,q1,q2⟩:=axw s hE
 have q3:(oZ s).i=(oZ s).n:=q2
 have hn:(oZ s).n=(s.l.length:Int):=hE.2.1
 have hl:(oZ s).l=s.l:=rfl
 rw [q3,hn,hl,List.drop_eq_nil_of_le (by omega),hE.1] at hk
 simpa using hk
def ajI:List LV→T LV
 | [.agg [.xl (.pair .str (.pair (.int .i64) (.pair (.int .i64) (.pair (.int .i64) (.pair (.pair (.int .i64) (.int .i64)) (.pair (.int .i64) (.pair (.int .i64) (.pair (.int .i64) (.pair (.int .i64) (.int .i64)))))))))) cs,.xl (.str) os,.xl (.pair .str (.pair (.int .i64) (.pair (.int .i64) (.int .i64)))) ks,.xl (.pair .str (.pair (.int .i64) (.pair (.int .i64) (.pair (.int .i64) (.pair (.int .i64) (.pair (.int .i64) (.pair (.int .i64) (.int .i64)))))))) gs,.xl (.pair .str (.int .i64)) bs]]=> .req ((cs.length:Int)≤1000∧(os.length:Int)≤1000∧(ks.length:Int)≤1000∧(gs.length:Int)≤1000∧(bs.length:Int)≤1000) (.ok (.xl .str (gG cs os ks gs bs)))
 |_=> .no
def aej:List LV→T LV:=gZ Tryz.prog Tryz.f98.params.toList ajI
theorem ayt (cs:List Cd) (os:List ByteArray) (ks:List Ko) (gs:List Ch) (bs:List Ba):letI c:=(ja (⟨cs,(cs.length:Int),(0:Int),cs,os,ks,gs,bs,([]:List ByteArray)⟩:jS));letI d:=(jw (⟨os,(os.length:Int),(0:Int),cs,os,ks,gs,bs,c.out⟩:kU));letI a:=(jY (⟨ks,(ks.length:Int),(0:Int),cs,os,ks,gs,bs,d.out⟩:lU));letI e:=(lZ (⟨gs,(gs.length:Int),(0:Int),cs,os,ks,gs,bs,a.out⟩:nJ));letI b:=(oZ (⟨bs,(bs.length:Int),(0:Int),e.out⟩:pI));cO Tryz.prog aP (ND) dR (λi=>if i=3 then JB.lp else if i=8 then JA.lp else if i=13 then Jz.lp else if i=18 then Jy.lp else if i=23 then Jw.lp else ay i) Tryz.f98 [.agg [.xl dY cs,.xl .str os,.xl fC ks,.xl dP gs,.xl fD bs]]=.req (0=0∧0=List.length ([]:List ByteArray)) (.req (aJ4 (⟨cs,(cs.length:Int),(0:Int),cs,os,ks,gs,bs,([]:List ByteArray)⟩:jS)) (.rl c.out (.req (aJ3 (⟨os,(os.length:Int),(0:Int),cs,os,ks,gs,bs,c.out⟩:kU)) (.rl d.out (.req (aJ2 (⟨ks,(ks.length:Int),(0:Int),cs,os,ks,gs,bs,d.out⟩:lU)) (.rl a.out (.req (aJ1 (⟨gs,(gs.length:Int),(0:Int),cs,os,ks,gs,bs,a.out⟩:nJ)) (.rl e.out (.req (aJ0 (⟨bs,(bs.length:Int),(0:Int),e.out⟩:pI)) (.req (0+(List.length b.out)≤List.length b.out) (.ok (.xl .str ((b.out.drop 0).take (List.length b.out)))))))))))))):=by kernel_rfl
theorem aEh:Valid Tryz.prog aP 98 aej:=aI Tryz.func98 rfl QY aA (L:=(λi=>if i=3 then JB.lp else if i=8 then JA.lp else if i=13 then Jz.lp else if i=18 then Jy.lp else if i=23 then Jw.lp else ay i)) (λb hb=>by
 rw [show ax _=[Fe,Fb,Fa,E8,E5] by kernel_rfl] at hb
 simp only [List.mem_cons,List.not_mem_nil,or_false] at hb;rcases hb with rfl|rfl|rfl|rfl|rfl
 ·exact av8
 ·exact av7
 ·exact av6
 ·exact av5
 ·exact av4) (λargs lv h=>by
 unfold ajI at h;split at h
 ·simp only [canL,canX]
  rw [ayt];rename_i cs os ks gs bs;obtain ⟨⟨hc,ho,hk,hg,hb⟩,rfl⟩:=h
  have hE0:aaO ⟨cs,(cs.length:Int),(0:Int),cs,os,ks,gs,bs,([]:List ByteArray)⟩:=⟨rfl,rfl,hc,by simp only;decide⟩
  have o0:=axD _ hE0
  refine ⟨aSf,⟨hE0,rfl,rfl⟩,?_⟩;generalize (ja ⟨cs,(cs.length:Int),(0:Int),cs,os,ks,gs,bs,([]:List ByteArray)⟩).out=r0 at*
  have o0:r0=([]:List ByteArray)++cs.map (·.1):=o0
  have l0:(r0.length:Int)≤1000:=by rw [o0];simp only [List.length_append,List.length_map,List.length_nil];omega
  have hE1:aaN ⟨os,(os.length:Int),(0:Int),cs,os,ks,gs,bs,r0⟩:=⟨rfl,rfl,ho,by simp only;omega⟩
  have o1:=axB _ hE1
  refine ⟨aSf,⟨hE1,rfl,rfl⟩,?_⟩;generalize (jw ⟨os,(os.length:Int),(0:Int),cs,os,ks,gs,bs,r0⟩).out=r1 at*
  have o1:r1=r0++os:=o1
  have l1:(r1.length:Int)≤2000:=by rw [o1];simp only [List.length_append];omega
  have hE2:aaM ⟨ks,(ks.length:Int),(0:Int),cs,os,ks,gs,bs,r1⟩:=⟨rfl,rfl,hk,by simp only;omega⟩
  have o2:=axz _ hE2
  refine ⟨aSf,⟨hE2,rfl,rfl⟩,?_⟩;generalize (jY ⟨ks,(ks.length:Int),(0:Int),cs,os,ks,gs,bs,r1⟩).out=r2 at*
  have o2:r2=r1++ks.map (·.1):=o2
  have l2:(r2.length:Int)≤3000:=by rw [o2];simp only [List.length_append,List.length_map];omega
  have hE3:aaL ⟨gs,(gs.length:Int),(0:Int),cs,os,ks,gs,bs,r2⟩:=⟨rfl,rfl,hg,by simp only;omega⟩
  have o3:=axx _ hE3
  refine ⟨aSf,⟨hE3,rfl,rfl⟩,?_⟩;generalize (lZ ⟨gs,(gs.length:Int),(0:Int),cs,os,ks,gs,bs,r2⟩).out=r3 at*
  have o3:r3=r2++gs.map (·.1):=o3
  have l3:(r3.length:Int)≤4000:=by rw [o3];simp only [List.length_append,List.length_map];omega
  have hE4:aaK ⟨bs,(bs.length:Int),(0:Int),r3⟩:=⟨rfl,rfl,hb,by simp only;omega⟩
  have o4:=axv _ hE4
  refine ⟨aSf,⟨hE4,rfl,rfl⟩,?_⟩;generalize (oZ ⟨bs,(bs.length:Int),(0:Int),r3⟩).out=r4 at*
  have o4:r4=r3++bs.map (·.1):=o4
  have l4:(r4.length:Int)≤5000:=by rw [o4];simp only [List.length_append,List.length_map];omega
  refine ⟨by omega,?_⟩
  show LV.xl _ _=_
  rw [List.drop_zero,List.take_of_length_le (by omega),o4,o3,o2,o1,o0,List.nil_append]
  rfl
 ·cases h)
structure jU where
 r:Bool
 l:List Cd
 n:Int
 i:Int
 aj:List Cd
 aF:List ByteArray
 ak:List Ko
 af:List Ch
 aN:List Ba
def aPJ (s:jU):List LV:=[.own 0 0,.v (.bool s.r),.xl dY s.l,.v (.int .i64 s.n),.v (.int .i64 s.i)]
def aOr (s:jU):List aZ:=[⟨[.xl dY s.aj,.xl .str s.aF,.xl fC s.ak,.xl dP s.af,.xl fD s.aN],28,.cl,false⟩]
def Ei:Code:=((ax (Tryz.f100.body.getD .skip))[0]?).getD .skip
def ae7 (s:jU):T (Rd jU):=
 .br (decide (s.i<s.n)) (.req (0≤s.i∧s.i<(s.l.length:Int)) (.req (0≤s.i) (.br (!(IB s.i (iw s.l s.i))) (.ok (.stop (.ret) {s with r:=false})) (.ok (.next {s with i:=(aSe (s.i+1))}))))) (.ok (.stop (.exit 0) s))
abbrev aCo (s:jU):=(ae7 s).rd s
def OX (s:jU) (j:Int):Bool:=IB j (iw s.l j)
def aug (s:jU):Prop:=s.i=0∧0≤s.n∧s.n≤1000∧s.n=(s.l.length:Int)
def RP (s:jU):Prop:=0≤s.i∧s.i≤s.n∧s.n≤1000∧(s.n=(s.l.length:Int))∧∀j:Nat,(j:Int)<s.i→OX s j=true
def UF (s:jU):Nat:=(s.n-s.i).toNat
def as3 (x:Ex) (_ s':jU):Prop:=(x=.exit 0∧∀j:Nat,(j:Int)<s'.n→OX s' j=true)∨(x=.ret∧s'.r=false∧∃j:Nat,(j:Int)<s'.n∧OX s' j=false)
theorem aKR:∀s,aug s→RP s:=by
 intro s h;obtain ⟨h0,h1,h2,h3⟩:=h;exact ⟨by omega,by omega,h2,h3,λj hj=>by omega⟩
theorem aDE (s:jU) (hI:RP s):bJ (λs'=>RP s'∧UF s'<UF s) (λx s'=>as3 x s s') (aCo s):=by
 unfold aCo ae7;dsimp only [T.rd,T.rl];obtain ⟨h0,h1,h2,h3,h4⟩:=hI;refine ai (λc1=>ai (λc2=>?_) (λc2=>?_)) (λc1=>?_)
 ·have c1:s.i<s.n:=by simpa using c1
  refine .inr ⟨rfl,rfl,s.i.toNat,by simp only;omega,?_⟩
  rw [Int.toNat_of_nonneg (by omega)]
  have hg:OX s s.i=false:=by unfold OX;(first|(have c2:(!(IB s.i (iw s.l s.i)))=false:=c2;simpa using c2) |(have c2:(!(IB s.i (iw s.l s.i)))=true:=c2;simpa using c2))
  exact hg
 ·have c1:s.i<s.n:=by simpa using c1
  have hg:OX s s.i=true:=by unfold OX;(first|(have c2:(!(IB s.i (iw s.l s.i)))=false:=c2;simpa using c2) |(have c2:(!(IB s.i (iw s.l s.i)))=true:=c2;simpa using c2))
  rw [aH (x:=s.i+1)];refine ⟨⟨by simp only;omega,by simp only;omega,h2,h3,λj hj=>?_⟩,by simp only [UF];omega⟩
  by_cases hji:(j:Int)<s.i
  ·exact h4 j hji
  ·have:(j:Int)=s.i:=by simp only at hj;omega
   rw [this];exact hg
 ·have c1:s.n≤s.i:=by simpa using c1
  exact .inl ⟨rfl,λj hj=>h4 j (by omega)⟩
def IQ:bK jU:=⟨0,95,[1,2,13,14,15],[],aPJ,aOr,λv b=>⟨vW (v.getD 1 .junk),aU dY (v.getD 2 .junk),gI (v.getD 3 .junk),gI (v.getD 4 .junk),aU dY (bn (aT b 0) 0),aU .str (bn (aT b 0) 1),aU fC (bn (aT b 0) 2),aU dP (bn (aT b 0) 3),aU fD (bn (aT b 0) 4)⟩,ae7,λs r=> {r with l:=s.l,n:=s.n,aj:=s.aj,aF:=s.aF,ak:=s.ak,af:=s.af,aN:=s.aN},λs=>s,λ_ s=>s,[.ret,.exit 0],aug,RP,UF⟩
abbrev oV:=IQ.run
abbrev ahY:=IQ.jf
abbrev aJg:=IQ.q
theorem aFj (s:jU) (hI:RP s):(ae7 s).all (λ_=>True):=by
 refine ⟨λc1=>⟨?_,?_,λ_=>trivial,λ_=>trivial⟩,λ_=>trivial⟩
 all_goals ((obtain ⟨h0,h1,h2,h3,h4⟩:=hI;simp at c1;omega))
def Q5:Specs:=aW [(126,adK),(127,yh),(128,adL)]
theorem Y8:∀g S,Q5 g=some S→Valid Tryz.prog aP g S:=aS (l:=[(126,adK),(127,yh),(128,adL)]) ⟨aDJ,TS,aDK,trivial⟩
theorem aoF:IQ.Ok:={}
theorem ano:IQ.Pf (as3):=⟨aKR,λ_ _=>rfl,aDE,aFj⟩
theorem avi:bC Tryz.prog aP (AN 0) (.loop Ei) IQ.lp:=bK.snd aoF ano (aQ (Γ:=Q5) (K:=dR) (L:=ay) Y8 aA Ei (λb hb=>by rw [show ax Ei=[] by kernel_rfl] at hb;cases hb)) (λs=>by kernel_rfl)
theorem auR (s:jU) (hE:aug s):∃s',RP s'∧as3 (ahY s) s' (oV s):=bK.fin aoF ano s hE
structure lN where
 r:Bool
 l:List Ko
 n:Int
 i:Int
 aj:List Cd
 aF:List ByteArray
 ak:List Ko
 af:List Ch
 aN:List Ba
 cards:List Int
def aPI (s:lN):List LV:=[.own 0 0,.v (.bool s.r),.om 1,.xl fC s.l,.v (.int .i64 s.n),.v (.int .i64 s.i)]
def aOq (s:lN):List aZ:=[⟨[.xl dY s.aj,.xl .str s.aF,.xl fC s.ak,.xl dP s.af,.xl fD s.aN],28,.cl,false⟩,⟨[],183,.st aSg s.cards,false⟩]
def Eh:Code:=((ax (Tryz.f100.body.getD .skip))[1]?).getD .skip
def ae6 (s:lN):T (Rd lN):=
 .br (decide (s.i<s.n)) (.req (0≤s.i∧s.i<(s.l.length:Int)) (.br ((!(inB (pU s.l s.i).2.1 (0:Int) (aSe ((s.aF.length:Int)-1)))) ||((!(inB (pU s.l s.i).2.2.1 (1:Int) (9:Int))) ||((!(inB (pU s.l s.i).2.2.2 (1:Int) (1000000:Int))) ||(List.contains s.cards (pU s.l s.i).2.2.2)))) (.ok (.stop (.ret) {s with r:=false})) (.req (List.contains s.cards (pU s.l s.i).2.2.2=false) (.ok (.next {s with i:=(aSe (s.i+1)),cards:=(s.cards++[(pU s.l s.i).2.2.2])}))))) (.ok (.stop (.exit 2) s))
abbrev aCn (s:lN):=(ae6 s).rd s
def OW (s:lN) (j:Int):Bool:=koV s.aF.length (pU s.l j)&&!(((s.l.take j.toNat).map (·.2.2.2)).contains (pU s.l j).2.2.2)
def auf (s:lN):Prop:=s.i=0∧s.cards=[]∧s.n=(s.l.length:Int)∧s.n≤1000∧(s.aF.length:Int)≤1000
def RN (s:lN):Prop:=0≤s.i∧s.i≤s.n∧s.n=(s.l.length:Int)∧s.n≤1000∧((s.aF.length:Int)≤1000)∧s.cards=(s.l.take s.i.toNat).map (·.2.2.2)∧∀j:Nat,(j:Int)<s.i→OW s j=true
def UE (s:lN):Nat:=(s.n-s.i).toNat
def as2 (x:Ex) (_ s':lN):Prop:=(x=.exit 2∧∀j:Nat,(j:Int)<s'.n→OW s' j=true)∨(x=.ret∧s'.r=false∧∃j:Nat,(j:Int)<s'.n∧OW s' j=false)
theorem aKQ:∀s,auf s→RN s:=by
 intro s h;obtain ⟨h0,h1,h2,h3,h4⟩:=h;exact ⟨by omega,by omega,h2,h3,h4,by rw [h0,h1];rfl,λj hj=>by omega⟩
theorem aDD (s:lN) (hI:RN s):bJ (λs'=>RN s'∧UE s'<UE s) (λx s'=>as2 x s s') (aCn s):=by
 unfold aCn ae6;dsimp only [T.rd,T.rl];obtain ⟨h0,h1,h2,h3,h4,h5,h6⟩:=hI;refine ai (λc1=>ai (λc2=>?_) (λc2=>?_)) (λc1=>?_)
 ·have c1:s.i<s.n:=by simpa using c1
  refine .inr ⟨rfl,rfl,s.i.toNat,by simp only;omega,?_⟩
  rw [Int.toNat_of_nonneg h0]
  have hg:OW s s.i=false:=by
   unfold OW
   (rw [aH,h5] at c2;unfold koV;revert c2;generalize inB (pU s.l s.i).2.1 _ _=a;generalize inB (pU s.l s.i).2.2.1 _ _=b;generalize inB (pU s.l s.i).2.2.2 _ _=c;generalize List.contains (α:=Int) _ _=d;cases a<;>cases b<;>cases c<;>cases d<;>simp)
  exact hg
 ·have c1:s.i<s.n:=by simpa using c1
  have hg:OW s s.i=true:=by
   unfold OW
   (rw [aH,h5] at c2;unfold koV;revert c2;generalize inB (pU s.l s.i).2.1 _ _=a;generalize inB (pU s.l s.i).2.2.1 _ _=b;generalize inB (pU s.l s.i).2.2.2 _ _=c;generalize List.contains (α:=Int) _ _=d;cases a<;>cases b<;>cases c<;>cases d<;>simp)
  rw [aH (x:=s.i+1)];refine ⟨⟨by simp only;omega,by simp only;omega,h2,h3,h4,?_,λj hj=>?_⟩,by simp only [UE];omega⟩
  ·simp only
   rw [(NF h0 (show s.i<s.l.length by omega)).2,h5]
   try rw [List.map_append]
   try rfl
  ·by_cases hji:(j:Int)<s.i
   ·exact h6 j hji
   ·have:(j:Int)=s.i:=by simp only at hj;omega
    rw [this];exact hg
 ·have c1:s.n≤s.i:=by simpa using c1
  exact .inl ⟨rfl,λj hj=>h6 j (by omega)⟩
def IL:bK lN:=⟨0,95,[1,2,5,27,28,29],[],aPI,aOq,λv b=>⟨vW (v.getD 1 .junk),aU fC (v.getD 3 .junk),gI (v.getD 4 .junk),gI (v.getD 5 .junk),aU dY (bn (aT b 0) 0),aU .str (bn (aT b 0) 1),aU fC (bn (aT b 0) 2),aU dP (bn (aT b 0) 3),aU fD (bn (aT b 0) 4),gSe aSg (aT b 1)⟩,ae6,λs r=> {r with l:=s.l,n:=s.n,aj:=s.aj,aF:=s.aF,ak:=s.ak,af:=s.af,aN:=s.aN},λs=>s,λ_ s=>s,[.ret,.exit 2],auf,RN,UE⟩
abbrev uU:=IL.run
abbrev ahX:=IL.jf
abbrev aJf:=IL.q
theorem aFi (s:lN) (hI:RN s):(ae6 s).all (λ_=>True):=by
 refine ⟨λc1=>⟨?_,λ_=>trivial,λc2=>⟨?_,trivial⟩⟩,λ_=>trivial⟩
 all_goals ((obtain ⟨h0,h1,h2,h3,h4,h5,h6⟩:=hI;first|(simp at c1;omega) |(simp only [Bool.or_eq_false_iff] at c2;exact c2.2.2.2)))
theorem aoE:IL.Ok:={}
theorem ann:IL.Pf (as2):=⟨aKQ,λ_ _=>rfl,aDD,aFi⟩
theorem avh:bC Tryz.prog aP (AN 0) (.loop Eh) IL.lp:=bK.snd aoE ann (aQ (Γ:=Q5) (K:=dR) (L:=ay) Y8 aA Eh (λb hb=>by rw [show ax Eh=[] by kernel_rfl] at hb;cases hb)) (λs=>by kernel_rfl)
theorem auQ (s:lN) (hE:auf s):∃s',RN s'∧as2 (ahX s) s' (uU s):=bK.fin aoE ann s hE
structure oq where
 r:Bool
 l:List Ch
 n:Int
 i:Int
 aj:List Cd
 aF:List ByteArray
 ak:List Ko
 af:List Ch
 aN:List Ba
def aPH (s:oq):List LV:=[.own 0 0,.v (.bool s.r),.xl dP s.l,.v (.int .i64 s.n),.v (.int .i64 s.i)]
def aOp (s:oq):List aZ:=[⟨[.xl dY s.aj,.xl .str s.aF,.xl fC s.ak,.xl dP s.af,.xl fD s.aN],28,.cl,false⟩]
def Eg:Code:=((ax (Tryz.f100.body.getD .skip))[2]?).getD .skip
def ae5 (s:oq):T (Rd oq):=
 .br (decide (s.i<s.n)) (.req (0≤s.i∧s.i<(s.l.length:Int)) (.req ((s.aj.length:Int)≤1000∧(s.aF.length:Int)≤1000) (.br (!(JZ s.aj.length s.aF.length (bG s.l s.i))) (.ok (.stop (.ret) {s with r:=false})) (.ok (.next {s with i:=(aSe (s.i+1))}))))) (.ok (.stop (.exit 4) s))
abbrev aCm (s:oq):=(ae5 s).rd s
def OV (s:oq) (j:Int):Bool:=JZ s.aj.length s.aF.length (bG s.l j)
def aue (s:oq):Prop:=s.i=0∧0≤s.n∧s.n≤1000∧s.n=(s.l.length:Int)∧(s.aj.length:Int)≤1000∧(s.aF.length:Int)≤1000
def RJ (s:oq):Prop:=0≤s.i∧s.i≤s.n∧s.n≤1000∧(s.n=(s.l.length:Int)∧(s.aj.length:Int)≤1000∧(s.aF.length:Int)≤1000)∧∀j:Nat,(j:Int)<s.i→OV s j=true
def UD (s:oq):Nat:=(s.n-s.i).toNat
def as1 (x:Ex) (_ s':oq):Prop:=(x=.exit 4∧∀j:Nat,(j:Int)<s'.n→OV s' j=true)∨(x=.ret∧s'.r=false∧∃j:Nat,(j:Int)<s'.n∧OV s' j=false)
theorem aKP:∀s,aue s→RJ s:=by
 intro s h;obtain ⟨h0,h1,h2,h3⟩:=h;exact ⟨by omega,by omega,h2,h3,λj hj=>by omega⟩
theorem aDC (s:oq) (hI:RJ s):bJ (λs'=>RJ s'∧UD s'<UD s) (λx s'=>as1 x s s') (aCm s):=by
 unfold aCm ae5;dsimp only [T.rd,T.rl];obtain ⟨h0,h1,h2,h3,h4⟩:=hI;refine ai (λc1=>ai (λc2=>?_) (λc2=>?_)) (λc1=>?_)
 ·have c1:s.i<s.n:=by simpa using c1
  refine .inr ⟨rfl,rfl,s.i.toNat,by simp only;omega,?_⟩
  rw [Int.toNat_of_nonneg (by omega)]
  have hg:OV s s.i=false:=by unfold OV;(first|(have c2:(!(JZ s.aj.length s.aF.length (bG s.l s.i)))=false:=c2;simpa using c2) |(have c2:(!(JZ s.aj.length s.aF.length (bG s.l s.i)))=true:=c2;simpa using c2))
  exact hg
 ·have c1:s.i<s.n:=by simpa using c1
  have hg:OV s s.i=true:=by unfold OV;(first|(have c2:(!(JZ s.aj.length s.aF.length (bG s.l s.i)))=false:=c2;simpa using c2) |(have c2:(!(JZ s.aj.length s.aF.length (bG s.l s.i)))=true:=c2;simpa using c2))
  rw [aH (x:=s.i+1)];refine ⟨⟨by simp only;omega,by simp only;omega,h2,h3,λj hj=>?_⟩,by simp only [UD];omega⟩
  by_cases hji:(j:Int)<s.i
  ·exact h4 j hji
  ·have:(j:Int)=s.i:=by simp only at hj;omega
   rw [this];exact hg
 ·have c1:s.n≤s.i:=by simpa using c1
  exact .inl ⟨rfl,λj hj=>h4 j (by omega)⟩
def IK:bK oq:=⟨0,95,[1,2,67,68,69],[],aPH,aOp,λv b=>⟨vW (v.getD 1 .junk),aU dP (v.getD 2 .junk),gI (v.getD 3 .junk),gI (v.getD 4 .junk),aU dY (bn (aT b 0) 0),aU .str (bn (aT b 0) 1),aU fC (bn (aT b 0) 2),aU dP (bn (aT b 0) 3),aU fD (bn (aT b 0) 4)⟩,ae5,λs r=> {r with l:=s.l,n:=s.n,aj:=s.aj,aF:=s.aF,ak:=s.ak,af:=s.af,aN:=s.aN},λs=>s,λ_ s=>s,[.ret,.exit 4],aue,RJ,UD⟩
abbrev Dp:=IK.run
abbrev ahW:=IK.jf
abbrev aJe:=IK.q
theorem aFh (s:oq) (hI:RJ s):(ae5 s).all (λ_=>True):=by
 refine ⟨λc1=>⟨?_,?_,λ_=>trivial,λ_=>trivial⟩,λ_=>trivial⟩
 all_goals ((obtain ⟨h0,h1,h2,h3,h4⟩:=hI;simp at c1;first|omega|exact h3.2))
theorem aoD:IK.Ok:={}
theorem anm:IK.Pf (as1):=⟨aKP,λ_ _=>rfl,aDC,aFh⟩
theorem avg:bC Tryz.prog aP (AN 0) (.loop Eg) IK.lp:=bK.snd aoD anm (aQ (Γ:=Q5) (K:=dR) (L:=ay) Y8 aA Eg (λb hb=>by rw [show ax Eg=[] by kernel_rfl] at hb;cases hb)) (λs=>by kernel_rfl)
theorem auP (s:oq) (hE:aue s):∃s',RJ s'∧as1 (ahW s) s' (Dp s):=bK.fin aoD anm s hE
structure qQ where
 r:Bool
 l:List Ba
 n:Int
 i:Int
 aj:List Cd
 aF:List ByteArray
 ak:List Ko
 af:List Ch
 aN:List Ba
def aPG (s:qQ):List LV:=[.own 0 0,.v (.bool s.r),.xl fD s.l,.v (.int .i64 s.n),.v (.int .i64 s.i)]
def aOo (s:qQ):List aZ:=[⟨[.xl dY s.aj,.xl .str s.aF,.xl fC s.ak,.xl dP s.af,.xl fD s.aN],28,.cl,false⟩]
def Ef:Code:=((ax (Tryz.f100.body.getD .skip))[3]?).getD .skip
def ae4 (s:qQ):T (Rd qQ):=
 .br (decide (s.i<s.n)) (.req (0≤s.i∧s.i<(s.l.length:Int)) (.br (!(inB (Gj s.l s.i).2 (0:Int) (aSe ((s.af.length:Int)-1)))) (.ok (.stop (.ret) {s with r:=false})) (.ok (.next {s with i:=(aSe (s.i+1))})))) (.ok (.stop (.exit 6) s))
abbrev aCl (s:qQ):=(ae4 s).rd s
def OU (s:qQ) (j:Int):Bool:=inB (Gj s.l j).2 0 (aSe ((s.af.length:Int)-1))
def aud (s:qQ):Prop:=s.i=0∧0≤s.n∧s.n≤1000∧s.n=(s.l.length:Int)
def RI (s:qQ):Prop:=0≤s.i∧s.i≤s.n∧s.n≤1000∧(s.n=(s.l.length:Int))∧∀j:Nat,(j:Int)<s.i→OU s j=true
def UC (s:qQ):Nat:=(s.n-s.i).toNat
def asZ (x:Ex) (_ s':qQ):Prop:=(x=.exit 6∧∀j:Nat,(j:Int)<s'.n→OU s' j=true)∨(x=.ret∧s'.r=false∧∃j:Nat,(j:Int)<s'.n∧OU s' j=false)
theorem aKO:∀s,aud s→RI s:=by
 intro s h;obtain ⟨h0,h1,h2,h3⟩:=h;exact ⟨by omega,by omega,h2,h3,λj hj=>by omega⟩
theorem aDB (s:qQ) (hI:RI s):bJ (λs'=>RI s'∧UC s'<UC s) (λx s'=>asZ x s s') (aCl s):=by
 unfold aCl ae4;dsimp only [T.rd,T.rl];obtain ⟨h0,h1,h2,h3,h4⟩:=hI;refine ai (λc1=>ai (λc2=>?_) (λc2=>?_)) (λc1=>?_)
 ·have c1:s.i<s.n:=by simpa using c1
  refine .inr ⟨rfl,rfl,s.i.toNat,by simp only;omega,?_⟩
  rw [Int.toNat_of_nonneg (by omega)]
  have hg:OU s s.i=false:=by unfold OU;(first|(have c2:(!(inB (Gj s.l s.i).2 0 (aSe ((s.af.length:Int)-1))))=false:=c2;simpa using c2) |(have c2:(!(inB (Gj s.l s.i).2 0 (aSe ((s.af.length:Int)-1))))=true:=c2;simpa using c2))
  exact hg
 ·have c1:s.i<s.n:=by simpa using c1
  have hg:OU s s.i=true:=by unfold OU;(first|(have c2:(!(inB (Gj s.l s.i).2 0 (aSe ((s.af.length:Int)-1))))=false:=c2;simpa using c2) |(have c2:(!(inB (Gj s.l s.i).2 0 (aSe ((s.af.length:Int)-1))))=true:=c2;simpa using c2))
  rw [aH (x:=s.i+1)];refine ⟨⟨by simp only;omega,by simp only;omega,h2,h3,λj hj=>?_⟩,by simp only [UC];omega⟩
  by_cases hji:(j:Int)<s.i
  ·exact h4 j hji
  ·have:(j:Int)=s.i:=by simp only at hj;omega
   rw [this];exact hg
 ·have c1:s.n≤s.i:=by simpa using c1
  exact .inl ⟨rfl,λj hj=>h4 j (by omega)⟩
def IJ:bK qQ:=⟨0,95,[1,2,79,80,81],[],aPG,aOo,λv b=>⟨vW (v.getD 1 .junk),aU fD (v.getD 2 .junk),gI (v.getD 3 .junk),gI (v.getD 4 .junk),aU dY (bn (aT b 0) 0),aU .str (bn (aT b 0) 1),aU fC (bn (aT b 0) 2),aU dP (bn (aT b 0) 3),aU fD (bn (aT b 0) 4)⟩,ae4,λs r=> {r with l:=s.l,n:=s.n,aj:=s.aj,aF:=s.aF,ak:=s.ak,af:=s.af,aN:=s.aN},λs=>s,λ_ s=>s,[.ret,.exit 6],aud,RI,UC⟩
abbrev afW:=IJ.run
abbrev ahV:=IJ.jf
abbrev aJd:=IJ.q
theorem aFg (s:qQ) (hI:RI s):(ae4 s).all (λ_=>True):=by
 refine ⟨λc1=>⟨?_,λ_=>trivial,λ_=>trivial⟩,λ_=>trivial⟩
 ·(obtain ⟨h0,h1,h2,h3,h4⟩:=hI;simp at c1;omega)
theorem aoC:IJ.Ok:={}
theorem anl:IJ.Pf (asZ):=⟨aKO,λ_ _=>rfl,aDB,aFg⟩
theorem avf:bC Tryz.prog aP (AN 0) (.loop Ef) IJ.lp:=bK.snd aoC anl (aQ (Γ:=Q5) (K:=dR) (L:=ay) Y8 aA Ef (λb hb=>by rw [show ax Ef=[] by kernel_rfl] at hb;cases hb)) (λs=>by kernel_rfl)
theorem auO (s:qQ) (hE:aud s):∃s',RI s'∧asZ (ahV s) s' (afW s):=bK.fin aoC anl s hE
def aiX:List LV→T LV
 | [.agg [.xl (.pair .str (.pair (.int .i64) (.pair (.int .i64) (.pair (.int .i64) (.pair (.pair (.int .i64) (.int .i64)) (.pair (.int .i64) (.pair (.int .i64) (.pair (.int .i64) (.pair (.int .i64) (.int .i64)))))))))) cs,.xl (.str) os,.xl (.pair .str (.pair (.int .i64) (.pair (.int .i64) (.int .i64)))) ks,.xl (.pair .str (.pair (.int .i64) (.pair (.int .i64) (.pair (.int .i64) (.pair (.int .i64) (.pair (.int .i64) (.pair (.int .i64) (.int .i64)))))))) gs,.xl (.pair .str (.int .i64)) bs]]=> .req ((cs.length:Int)≤1000∧(os.length:Int)≤1000∧(ks.length:Int)≤1000∧(gs.length:Int)≤1000∧(bs.length:Int)≤1000) (.ok (.v (.bool (vpB cs os ks gs bs))))
 |_=> .no
def adJ:List LV→T LV:=gZ Tryz.prog Tryz.f100.params.toList aiX
theorem axI (cs:List Cd) (os:List ByteArray) (ks:List Ko) (gs:List Ch) (bs:List Ba):letI d:=(cs.length:Int);letI e:=(ks.length:Int);letI f:=(gs.length:Int);letI g:=(bs.length:Int);letI b:=(oV (⟨false,cs,d,(0:Int),cs,os,ks,gs,bs⟩:jU));letI a:=(uU (⟨b.r,ks,e,(0:Int),cs,os,ks,gs,bs,([]:List Int)⟩:lN));letI c:=(Dp (⟨a.r,gs,f,(0:Int),cs,os,ks,gs,bs⟩:oq));cO Tryz.prog aP (Q5) dR (λi=>if i=2 then IQ.lp else if i=9 then IL.lp else if i=16 then IK.lp else if i=22 then IJ.lp else ay i) Tryz.f100 [.agg [.xl dY cs,.xl .str os,.xl fC ks,.xl dP gs,.xl fD bs]]=.req (aJg (⟨false,cs,d,(0:Int),cs,os,ks,gs,bs⟩:jU)) (.br (iV (ahY (⟨false,cs,d,(0:Int),cs,os,ks,gs,bs⟩:jU)) (.ret)) (.ok (.v (.bool b.r))) (.req (aJf (⟨b.r,ks,e,(0:Int),cs,os,ks,gs,bs,([]:List Int)⟩:lN)) (.br (iV (ahX (⟨b.r,ks,e,(0:Int),cs,os,ks,gs,bs,([]:List Int)⟩:lN)) (.ret)) (.ok (.v (.bool a.r))) (.req (aJe (⟨a.r,gs,f,(0:Int),cs,os,ks,gs,bs⟩:oq)) (.br (iV (ahW (⟨a.r,gs,f,(0:Int),cs,os,ks,gs,bs⟩:oq)) (.ret)) (.ok (.v (.bool c.r))) (.req (aJd (⟨c.r,bs,g,(0:Int),cs,os,ks,gs,bs⟩:qQ)) (.br (iV (ahV (⟨c.r,bs,g,(0:Int),cs,os,ks,gs,bs⟩:qQ)) (.ret)) (.ok (.v (.bool (afW (⟨c.r,bs,g,(0:Int),cs,os,ks,gs,bs⟩:qQ)).r))) (.ok (.v (.bool true)))))))))):=by kernel_rfl
theorem aDI:Valid Tryz.prog aP 100 adJ:=aI Tryz.func100 rfl Y8 aA (L:=(λi=>if i=2 then IQ.lp else if i=9 then IL.lp else if i=16 then IK.lp else if i=22 then IJ.lp else ay i)) (λb hb=>by
 rw [show ax _=[Ei,Eh,Eg,Ef] by kernel_rfl] at hb
 simp only [List.mem_cons,List.not_mem_nil,or_false] at hb;rcases hb with rfl|rfl|rfl|rfl
 ·exact avi
 ·exact avh
 ·exact avg
 ·exact avf) (λargs lv h=>by
 unfold aiX at h;split at h
 ·simp only [canL,canX]
  rw [axI];rename_i cs os ks gs bs;obtain ⟨⟨hc,ho,hk,hg,hb⟩,rfl⟩:=h;refine lK ⟨⟨rfl,by simp only;omega,hc,rfl⟩,rfl,rfl⟩ (λhE0=>?_)
  obtain ⟨s',_,hq⟩:=auR _ hE0.1;rcases hq with ⟨q1,q2⟩ |⟨q1,q2,j,q3,q4⟩
  rotate_left
  ·rw [q1,q2]
   refine ⟨λ_=>congrArg (λz=>LV.v (.bool z)) ?_,λh=>by cases h⟩
   unfold vpB;rw [vN (f:=λj=>IB j (iw cs j)) j q3 q4]
   rfl
  rw [q1];refine ⟨λh=>(by cases h),λ_=>?_⟩
  have g0:Gi cs.length (λj=>IB j (iw cs j))=true:=gm.2 q2
  refine lK ⟨⟨rfl,rfl,rfl,hk,ho⟩,rfl,rfl⟩ (λhE1=>?_)
  obtain ⟨s',_,hq⟩:=auQ _ hE1.1;rcases hq with ⟨q1,q2⟩ |⟨q1,q2,j,q3,q4⟩
  rotate_left
  ·rw [q1,q2]
   refine ⟨λ_=>congrArg (λz=>LV.v (.bool z)) ?_,λh=>by cases h⟩
   unfold vpB
   have hn:(ks.all (koV os.length)&&once (ks.map (·.2.2.2)))=false:=by
    rw [Bool.eq_false_iff];intro hx
    have:=(nC (d:=(emp,0,0,0))).2 hx j q3
    exact Bool.noConfusion (this.symm.trans q4)
   rw [g0,Bool.true_and,←Bool.and_assoc,hn];rfl
  rw [q1];refine ⟨λh=>(by cases h),λ_=>?_⟩
  have g1:(ks.all (koV os.length)&&once (ks.map (·.2.2.2)))=true:=(nC (d:=(emp,0,0,0))).1 q2
  refine lK ⟨⟨rfl,by simp only;omega,hg,rfl,hc,ho⟩,rfl,rfl⟩ (λhE2=>?_)
  obtain ⟨s',_,hq⟩:=auP _ hE2.1;rcases hq with ⟨q1,q2⟩ |⟨q1,q2,j,q3,q4⟩
  rotate_left
  ·rw [q1,q2]
   refine ⟨λ_=>congrArg (λz=>LV.v (.bool z)) ?_,λh=>by cases h⟩
   unfold vpB
   have hn:gs.all (JZ cs.length os.length)=false:=by
    rw [Bool.eq_false_iff];intro hx
    have:=(jm (d:=(emp,0,0,0,0,0,0,0))).2 hx j q3
    exact Bool.noConfusion (this.symm.trans q4)
   rw [g0,Bool.true_and,←Bool.and_assoc,g1,hn];rfl
  rw [q1];refine ⟨λh=>(by cases h),λ_=>?_⟩
  have g2:gs.all (JZ cs.length os.length)=true:=(jm (d:=(emp,0,0,0,0,0,0,0))).1 q2
  have hw:=aH (x:=(gs.length:Int)-1)
  refine lK ⟨⟨rfl,by simp only;omega,hb,rfl⟩,rfl,rfl⟩ (λhE3=>?_)
  obtain ⟨s',_,hq⟩:=auO _ hE3.1;rcases hq with ⟨q1,q2⟩ |⟨q1,q2,j,q3,q4⟩
  rotate_left
  ·rw [q1,q2]
   refine ⟨λ_=>congrArg (λz=>LV.v (.bool z)) ?_,λh=>by cases h⟩
   unfold vpB
   have hn:bs.all (λb=>inB b.2 0 ((gs.length:Int)-1))=false:=by
    rw [Bool.eq_false_iff];intro hx
    have:=(jm (d:=(emp,0))).2 hx j q3
    have q4:inB (Gj bs j).2 0 (aSe ((gs.length:Int)-1))=false:=q4
    rw [hw] at q4;exact Bool.noConfusion (this.symm.trans q4)
   rw [g0,Bool.true_and,←Bool.and_assoc,g1,g2,hn];rfl
  rw [q1];refine ⟨λh=>(by cases h),λ_=>?_⟩
  have g3:bs.all (λb=>inB b.2 0 ((gs.length:Int)-1))=true:=(jm (d:=(emp,0))).1 (λj hj=>by
   have:inB (Gj bs j).2 0 (aSe ((gs.length:Int)-1))=true:=q2 j hj
   rw [hw] at this;exact this)
  refine congrArg (λz=>LV.v (.bool z)) ?_
  unfold vpB;rw [g0,Bool.true_and,←Bool.and_assoc,g1,g2,g3];rfl
 ·cases h)
structure zN where
 r:Bool
 l:List ByteArray
 n:Int
 i:Int
 aj:List Cd
 aF:List ByteArray
 ak:List Ko
 af:List Ch
 aN:List Ba
 seen:List ByteArray
def aRW (s:zN):List LV:=[.own 0 0,.v (.bool s.r),.om 1,.xl .str s.l,.v (.int .i64 s.n),.v (.int .i64 s.i)]
def aRI (s:zN):List aZ:=[⟨[.xl dY s.aj,.xl .str s.aF,.xl fC s.ak,.xl dP s.af,.xl fD s.aN],28,.cl,false⟩,⟨[],149,.st .str s.seen,false⟩]
def KP:Code:=((ax (Tryz.f53.body.getD .skip))[0]?).getD .skip
def au3 (s:zN):T (Rd zN):=
 .br (decide (s.i<s.n)) (.req (0≤s.i∧s.i<(s.l.length:Int)) (.br ((!(nameB (gS s.l s.i))) ||(List.contains s.seen (gS s.l s.i))) (.ok (.stop (.ret) {s with r:=false})) (.req (List.contains s.seen (gS s.l s.i)=false) (.ok (.next {s with i:=(aSe (s.i+1)),seen:=(s.seen++[(gS s.l s.i)])}))))) (.ok (.stop (.exit 0) s))
abbrev aND (s:zN):=(au3 s).rd s
def aeL (s:zN) (j:Int):Bool:=nameB (gS s.l j)&&!(((s.l.take j.toNat).map id).contains (gS s.l j))
def aJh (s:zN):Prop:=s.i=0∧s.seen=[]∧s.n=(s.l.length:Int)∧s.n≤1000∧True
def alJ (s:zN):Prop:=0≤s.i∧s.i≤s.n∧s.n=(s.l.length:Int)∧s.n≤1000∧(True)∧s.seen=(s.l.take s.i.toNat).map id∧∀j:Nat,(j:Int)<s.i→aeL s j=true
def agK (s:zN):Nat:=(s.n-s.i).toNat
def aI7 (x:Ex) (_ s':zN):Prop:=(x=.exit 0∧∀j:Nat,(j:Int)<s'.n→aeL s' j=true)∨(x=.ret∧s'.r=false∧∃j:Nat,(j:Int)<s'.n∧aeL s' j=false)
theorem aRd:∀s,aJh s→alJ s:=by
 intro s h;obtain ⟨h0,h1,h2,h3,h4⟩:=h;exact ⟨by omega,by omega,h2,h3,h4,by rw [h0,h1];rfl,λj hj=>by omega⟩
theorem aLe (s:zN) (hI:alJ s):bJ (λs'=>alJ s'∧agK s'<agK s) (λx s'=>aI7 x s s') (aND s):=by
 unfold aND au3;dsimp only [T.rd,T.rl];obtain ⟨h0,h1,h2,h3,h4,h5,h6⟩:=hI;refine ai (λc1=>ai (λc2=>?_) (λc2=>?_)) (λc1=>?_)
 ·have c1:s.i<s.n:=by simpa using c1
  refine .inr ⟨rfl,rfl,s.i.toNat,by simp only;omega,?_⟩
  rw [Int.toNat_of_nonneg h0]
  have hg:aeL s s.i=false:=by
   unfold aeL
   (rw [h5] at c2;revert c2;generalize nameB _=a;generalize List.contains (α:=ByteArray) _ _=d;cases a<;>cases d<;>simp)
  exact hg
 ·have c1:s.i<s.n:=by simpa using c1
  have hg:aeL s s.i=true:=by
   unfold aeL
   (rw [h5] at c2;revert c2;generalize nameB _=a;generalize List.contains (α:=ByteArray) _ _=d;cases a<;>cases d<;>simp)
  rw [aH (x:=s.i+1)];refine ⟨⟨by simp only;omega,by simp only;omega,h2,h3,h4,?_,λj hj=>?_⟩,by simp only [agK];omega⟩
  ·simp only
   rw [(xY h0 (show s.i<s.l.length by omega)).2,h5]
   try rw [List.map_append]
   try rfl
  ·by_cases hji:(j:Int)<s.i
   ·exact h6 j hji
   ·have:(j:Int)=s.i:=by simp only at hj;omega
    rw [this];exact hg
 ·have c1:s.n≤s.i:=by simpa using c1
  exact .inl ⟨rfl,λj hj=>h6 j (by omega)⟩
def aaS:bK zN:=⟨0,61,[1,2,3,42,43,44],[],aRW,aRI,λv b=>⟨vW (v.getD 1 .junk),aU .str (v.getD 3 .junk),gI (v.getD 4 .junk),gI (v.getD 5 .junk),aU dY (bn (aT b 0) 0),aU .str (bn (aT b 0) 1),aU fC (bn (aT b 0) 2),aU dP (bn (aT b 0) 3),aU fD (bn (aT b 0) 4),gSe .str (aT b 1)⟩,au3,λs r=> {r with l:=s.l,n:=s.n,aj:=s.aj,aF:=s.aF,ak:=s.ak,af:=s.af,aN:=s.aN},λs=>s,λ_ s=>s,[.ret,.exit 0],aJh,alJ,agK⟩
abbrev amX:=aaS.run
abbrev arW:=aaS.jf
abbrev aOi:=aaS.q
theorem aLI (s:zN) (hI:alJ s):(au3 s).all (λ_=>True):=by
 refine ⟨λc1=>⟨?_,λ_=>trivial,λc2=>⟨?_,trivial⟩⟩,λ_=>trivial⟩
 all_goals ((obtain ⟨h0,h1,h2,h3,h4,h5,h6⟩:=hI;first|(simp at c1;omega) |(simp only [Bool.or_eq_false_iff] at c2;exact c2.2)))
def arG:Specs:=aW [(98,aej),(99,aev),(100,adJ)]
theorem aB2:∀g S,arG g=some S→Valid Tryz.prog aP g S:=aS (l:=[(98,aej),(99,aev),(100,adJ)]) ⟨aEh,aEr,aDI,trivial⟩
theorem aBj:aaS.Ok:={}
theorem aA5:aaS.Pf (aI7):=⟨aRd,λ_ _=>rfl,aLe,aLI⟩
theorem aER:bC Tryz.prog aP (AN 0) (.loop KP) aaS.lp:=bK.snd aBj aA5 (aQ (Γ:=arG) (K:=dR) (L:=ay) aB2 aA KP (λb hb=>by rw [show ax KP=[] by kernel_rfl] at hb;cases hb)) (λs=>by kernel_rfl)
theorem aEK (s:zN) (hE:aJh s):∃s',alJ s'∧aI7 (arW s) s' (amX s):=bK.fin aBj aA5 s hE
def ai0:List LV→T LV
 | [.agg [.xl (.pair .str (.pair (.int .i64) (.pair (.int .i64) (.pair (.int .i64) (.pair (.pair (.int .i64) (.int .i64)) (.pair (.int .i64) (.pair (.int .i64) (.pair (.int .i64) (.pair (.int .i64) (.int .i64)))))))))) cs,.xl (.str) os,.xl (.pair .str (.pair (.int .i64) (.pair (.int .i64) (.int .i64)))) ks,.xl (.pair .str (.pair (.int .i64) (.pair (.int .i64) (.pair (.int .i64) (.pair (.int .i64) (.pair (.int .i64) (.pair (.int .i64) (.int .i64)))))))) gs,.xl (.pair .str (.int .i64)) bs]]=> .ok (.v (.bool (fH cs os ks gs bs)))
 |_=> .no
def Ot:List LV→T LV:=gZ Tryz.prog Tryz.f53.params.toList ai0
theorem axL (cs:List Cd) (os:List ByteArray) (ks:List Ko) (gs:List Ch) (bs:List Ba):letI b:=gG cs os ks gs bs;letI c:=(List.length b:Int);letI d:=(cs.length:Int);letI a:=(d≤1000∧(os.length:Int)≤1000∧(ks.length:Int)≤1000∧(gs.length:Int)≤1000∧(bs.length:Int)≤1000);cO Tryz.prog aP (arG) dR (λi=>if i=5 then aaS.lp else ay i) Tryz.f53 [.agg [.xl dY cs,.xl .str os,.xl fC ks,.xl dP gs,.xl fD bs]]=.br ((decide (d<1)) ||((decide (d>16)) ||((decide ((os.length:Int)>8)) ||((decide ((ks.length:Int)>32)) ||((decide ((gs.length:Int)>16)) ||(decide ((bs.length:Int)>24))))))) (.ok (.v (.bool false))) (.req a (.req (aOi (⟨false,b,c,(0:Int),cs,os,ks,gs,bs,([]:List ByteArray)⟩:zN)) (.br (iV (arW (⟨false,b,c,(0:Int),cs,os,ks,gs,bs,([]:List ByteArray)⟩:zN)) (.ret)) (.ok (.v (.bool (amX (⟨false,b,c,(0:Int),cs,os,ks,gs,bs,([]:List ByteArray)⟩:zN)).r))) (.req a (.ok (.v (.bool (vpB cs os ks gs bs)))))))):=by kernel_rfl
theorem al6:Valid Tryz.prog aP 53 Ot:=aI Tryz.func53 rfl aB2 aA (L:=(λi=>if i=5 then aaS.lp else ay i)) (λb hb=>by
 rw [show ax _=[KP] by kernel_rfl] at hb
 simp only [List.mem_cons,List.not_mem_nil,or_false] at hb;subst hb;exact aER) (λargs lv h=>by
 unfold ai0 at h;split at h
 ·simp only [canL,canX]
  rw [axL];rename_i cs os ks gs bs;obtain rfl:=h;refine ⟨λc=>congrArg (λz=>LV.v (.bool z)) ?_,λc=>?_⟩
  ·rw [eq_comm,Bool.eq_false_iff]
   intro hx;unfold fH at hx;rw [Bool.and_eq_true,decide_eq_true_eq] at hx;simp only [Bool.or_eq_true,decide_eq_true_eq] at c;omega
  have hd:1≤cs.length∧cs.length≤16∧os.length≤8∧ks.length≤32∧gs.length≤16∧bs.length≤24:=by
   simp only [Bool.or_eq_false_iff,decide_eq_false_iff_not] at c;omega
  have hs:fH cs os ks gs bs=(((gG cs os ks gs bs).all nameB&&once (gG cs os ks gs bs))&&vpB cs os ks gs bs):=by
   unfold fH;rw [decide_eq_true hd,Bool.true_and,Bool.and_assoc]
  have hl:((gG cs os ks gs bs).length:Int)≤1000:=by
   unfold gG;simp only [List.length_append,List.length_map];omega
  rw [hs]
  have hr:(cs.length:Int)≤1000∧(os.length:Int)≤1000∧(ks.length:Int)≤1000∧(gs.length:Int)≤1000∧(bs.length:Int)≤1000:=by omega
  refine ⟨hr,?_⟩;generalize gG cs os ks gs bs=l at*;refine lK ⟨⟨rfl,rfl,rfl,hl,trivial⟩,rfl,rfl⟩ (λhE=>?_)
  obtain ⟨s',_,hq⟩:=aEK _ hE.1;rcases hq with ⟨q1,q2⟩ |⟨q1,q2,j,q3,q4⟩
  ·rw [q1]
   have hk:=(nC (d:=emp) (p:=nameB) (k:=id)).1 q2
   rw [List.map_id] at hk;refine ⟨λh=>(by cases h),λ_=>⟨hr,?_⟩⟩
   rw [hk,Bool.true_and];rfl
  ·rw [q1,q2]
   refine ⟨λ_=>congrArg (λz=>LV.v (.bool z)) ?_,λh=>by cases h⟩
   have hn:(l.all nameB&&once l)=false:=by
    rw [Bool.eq_false_iff];intro hx
    have:=(nC (d:=emp) (p:=nameB) (k:=id)).2 (by rw [List.map_id];exact hx) j q3
    exact Bool.noConfusion (this.symm.trans q4)
   rw [hn];rfl
 ·cases h)
def ajF:List LV→T LV
 | [.agg [.xl (.pair .str (.pair (.int .i64) (.pair (.int .i64) (.pair (.int .i64) (.pair (.pair (.int .i64) (.int .i64)) (.pair (.int .i64) (.pair (.int .i64) (.pair (.int .i64) (.pair (.int .i64) (.int .i64)))))))))) cs,.xl (.str) os,.xl (.pair .str (.pair (.int .i64) (.pair (.int .i64) (.int .i64)))) ks,.xl (.pair .str (.pair (.int .i64) (.pair (.int .i64) (.pair (.int .i64) (.pair (.int .i64) (.pair (.int .i64) (.pair (.int .i64) (.int .i64)))))))) gs,.xl (.pair .str (.int .i64)) bs],.v (.int .i64 c)]=> .ok (.fn 129 [.xq 1 (λj=>([.v (.int .i64 c)]:List LV).getD j .junk),.xq 5 (λj=>([.xl dY cs,.xl .str os,.xl fC ks,.xl dP gs,.xl fD bs]:List LV).getD j .junk)])
 |_=> .no
def aeh:List LV→T LV:=gZ Tryz.prog Tryz.f104.params.toList ajF
def D5:Specs:=aW []
theorem Ik:∀g S,D5 g=some S→Valid Tryz.prog aP g S:=aS (l:=[]) trivial
def ag3:Hand:=inl Tryz.prog aP D5 (jT Tryz.prog aP (D5) 20 2) 9
theorem aqC:dn Tryz.prog aP ag3:=bV Ik (dD Ik) 9
theorem ayq (cs:List Cd) (os:List ByteArray) (ks:List Ko) (gs:List Ch) (bs:List Ba) (c:Int):cO Tryz.prog aP (D5) ag3 ay Tryz.f104 [.agg [.xl dY cs,.xl .str os,.xl fC ks,.xl dP gs,.xl fD bs],.v (.int .i64 c)]=.ok (.fn 129 [.xq 1 (λj=>([.v (.int .i64 c)]:List LV).getD j .junk),.xq 5 (λj=>([.xl dY cs,.xl .str os,.xl fC ks,.xl dP gs,.xl fD bs]:List LV).getD j .junk)]):=by kernel_rfl
theorem aEf:Valid Tryz.prog aP 104 aeh:=aI Tryz.func104 rfl Ik aqC (bf (by kernel_rfl)) (λargs lv h=>by
 unfold ajF at h;split at h
 ·simp only [canL,canX]
  rw [ayq];exact h
 ·cases h)
def am6:Array Tmp×Code×Code:=((lF (Tryz.f103.body.getD .skip))[0]?).getD (#[],.skip,.skip)
def aLT:Array Tmp:=am6.1
def aMm:Code:=am6.2.1
def aMh:Code:=am6.2.2
structure sG where
 cs:List Cd
 os:List ByteArray
 ks:List Ko
 gs:List Ch
 bs:List Ba
 c:Int
 b0:Int
 b1:Bool
 st:LS
def aQq (s:sG):List LV:=[.yt 2,.xq 5 (λj=>([.xl dY s.cs,.xl .str s.os,.xl fC s.ks,.xl dP s.gs,.xl fD s.bs]:List LV).getD j .junk),.v (.int .i64 s.c)]
def aO8 (s:sG):List aZ:=[⟨[.v (.int .i64 s.b0)],3,.cl,false⟩,⟨[.v (.bool s.b1)],4,.cl,false⟩,⟨[.junk,.junk,.junk,.own 0 0,.own 1 0,.v (.tuple #[]),.junk,.v (.tuple #[]),.v (.tuple #[]),.v (.tuple #[]),.v (.tuple #[])],0,.ni aLT aMm aMh s.st,false⟩]
def ZC:Code:=((ax (Tryz.f129.body.getD .skip))[0]?).getD .skip
def Qx (s:sG):T (Rd sG):=
 .br (decide (s.c≥0)) (.br (s.c==s.b0) (.ok (.stop (.ret) {s with b1:=true,st:=(.done (.ret))})) (.req (0≤s.c∧s.c<(s.cs.length:Int)) (.ok (.next {s with c:=(iw s.cs s.c).2.1})))) (.ok (.stop (.exit 0) s))
abbrev Q9 (s:sG):=(Qx s).rd s
def auD (s:sG):Prop:=s.st=.ready∧upB s.cs=true∧s.c<(s.cs.length:Int)∧s.b1=false
def aay (s:sG):Prop:=s.st=.ready∧upB s.cs=true∧s.c<(s.cs.length:Int)
def Vh (s:sG):Nat:=(s.c+1).toNat
def aDm (x:Ex) (s s':sG):Prop:=(x=.ret∧s'.b1=true∧Kw s.cs s.b0 s.c=true)∨(x=.exit 0∧Kw s.cs s.b0 s.c=false)
theorem aMx:∀s,auD s→aay s:=by
 intro s h;obtain ⟨h0,h1,h2,h3⟩:=h;exact ⟨h0,h1,h2⟩
theorem ang (s:sG) (hI:aay s):bJ (λs'=>aay s'∧Vh s'<Vh s) (λx s'=>aDm x s s') (Q9 s):=by
 unfold Q9 Qx;dsimp only [T.rd,T.rl];obtain ⟨h0,h1,h2⟩:=hI
 have hp:=abU (o:=s.b0) h1 h2
 refine ai (λc1=>ai (λc2=>?_) (λc2=>?_)) (λc1=>?_)
 ·have c1:0≤s.c:=by simpa using c1
  exact .inl ⟨rfl,rfl,by rw [hp,if_pos c1,c2];rfl⟩
 ·have c1:0≤s.c:=by simpa using c1
  have:=TU h1 c1 h2
  exact ⟨⟨h0,h1,by simp only;omega⟩,by simp only [Vh];omega⟩
 ·have c1:¬(0≤s.c):=by simpa using c1
  exact .inr ⟨rfl,by rw [hp,if_neg c1]⟩
def PU:bK sG:=⟨3,18,[0,2,4],[],aQq,aO8,λv b=>⟨aU dY (pR (v.getD 1 .junk) 0),aU .str (pR (v.getD 1 .junk) 1),aU fC (pR (v.getD 1 .junk) 2),aU dP (pR (v.getD 1 .junk) 3),aU fD (pR (v.getD 1 .junk) 4),gI (v.getD 2 .junk),gI (bn (aT b 0) 0),vW (bn (aT b 1) 0),.ready⟩,Qx,λs r=> {r with cs:=s.cs,os:=s.os,ks:=s.ks,gs:=s.gs,bs:=s.bs,b0:=s.b0},λs=> {s with st:=.ready},λx s=> {s with st:=(match x with| .ret=>(.done (.ret)) | .exit 0=> .ready|_=> .ready)},[.ret,.exit 0],auD,aay,Vh⟩
abbrev Um:=PU.run
abbrev WB:=PU.jf
abbrev aJW:=PU.q
theorem aF0 (s:sG) (hI:aay s):(Qx s).all (λ_=>True):=by
 refine ⟨λc1=>⟨λ_=>trivial,λc2=>⟨?_,trivial⟩⟩,λ_=>trivial⟩
 ·(obtain ⟨h0,h1,h2⟩:=hI;simp at c1 h2;exact ⟨c1,h2⟩)
theorem abZ:PU.Ok:={}
theorem abB:PU.Pf (aDm):=⟨aMx,λs h=>by
 obtain ⟨cs,os,ks,gs,bs,c,b0,b1,st⟩:=s
 have e:st=.ready:=h.1
 subst e;rfl,ang,aF0⟩
theorem avZ:bC Tryz.prog aP (AN 3) (.loop ZC) PU.lp:=bK.snd abZ abB (bI (Γ:=D5) (K:=ag3) (L:=(ql Tryz.prog aP D5 ag3 20 2)) Ik aqC ZC (λb _=>dA Ik aqC 20 2 b)) (λs=>by kernel_rfl)
theorem aG6 (s:sG) (hE:auD s):(WB s=.ret∧(Um s).b1=true∧Kw s.cs s.b0 s.c=true)∨(WB s=.exit 0∧Kw s.cs s.b0 s.c=false):=by
 have hk:=bK.yx abZ abB (λs=>Kw s.cs s.b0 s.c) (λs hI=>by
  obtain ⟨h0,h1,h2⟩:=hI
  have hp:=abU (o:=s.b0) h1 h2
  show bJ _ _ (Q9 s)
  unfold Q9 Qx;dsimp only [T.rd,T.rl];refine ai (λc1=>ai (λc2=>rfl) (λc2=>?_)) (λc1=>rfl)
  have c1:0≤s.c:=by simpa using c1
  show Kw _ _ _=Kw _ _ _
  rw [hp,if_pos c1,c2,Bool.false_or]) s hE
 have hk:Kw s.cs s.b0 (Um s).c=Kw s.cs s.b0 s.c:=hk
 obtain ⟨s',hI,hf⟩:=bK.end_ abZ abB s hE
 have hq:=AU (ang s' hI) hf
 have hc:=AU (Pn:=λ_=>True) (Ps:=λ_ r=>r.cs=s'.cs∧r.b0=s'.b0∧r.c=s'.c) (r:=Q9 s') (by
   unfold Q9 Qx;dsimp only [T.rd,T.rl];exact ai (λ_=>ai (λ_=>⟨rfl,rfl,rfl⟩) (λ_=>trivial)) (λ_=>⟨rfl,rfl,rfl⟩)) hf
 obtain ⟨hc1,hc3,hc2⟩:=hc
 have e1:s.cs=s'.cs:=hc1
 have e2:s.b0=s'.b0:=hc3
 rw [←hk,hc2,e1,e2];exact hq
def asU:List LV→T LV
 | [.fn 129 [.xq 1 q0,.xq 5 q1],.v (.int .i64 o)]=>(match ([q0 0]:List LV) with
  | [.v (.int .i64 c)]=>(match ([q1 0,q1 1,q1 2,q1 3,q1 4]:List LV) with
  | [.xl (.pair .str (.pair (.int .i64) (.pair (.int .i64) (.pair (.int .i64) (.pair (.pair (.int .i64) (.int .i64)) (.pair (.int .i64) (.pair (.int .i64) (.pair (.int .i64) (.pair (.int .i64) (.int .i64)))))))))) cs,.xl (.str) _,.xl (.pair .str (.pair (.int .i64) (.pair (.int .i64) (.int .i64)))) _,.xl (.pair .str (.pair (.int .i64) (.pair (.int .i64) (.pair (.int .i64) (.pair (.int .i64) (.pair (.int .i64) (.pair (.int .i64) (.int .i64)))))))) _,.xl (.pair .str (.int .i64)) _]=> .req (upB cs=true∧c<(cs.length:Int)) (.ok (.v (.bool (Kw cs o c))))
  |_=> .no)
  |_=> .no)
 |_=> .no
def asB:List LV→T LV:=gZ Tryz.prog Tryz.f103.params.toList asU
def aBP:Hand:=inl Tryz.prog aP D5 (dK 129 3 1 (PU.lp) (jT Tryz.prog aP (D5) 20 2)) 9
theorem aNa:dn Tryz.prog aP aBP:=bV Ik (bg Tryz.func129 rfl (by kernel_rfl) avZ (dD Ik)) 9
theorem aHA (c:Int) (cs:List Cd) (os:List ByteArray) (ks:List Ko) (gs:List Ch) (bs:List Ba) (o:Int):cO Tryz.prog aP (D5) aBP ay Tryz.f103 [.fn 129 [.xq 1 (λj=>([.v (.int .i64 c)]:List LV).getD j .junk),.xq 5 (λj=>([.xl dY cs,.xl .str os,.xl fC ks,.xl dP gs,.xl fD bs]:List LV).getD j .junk)],.v (.int .i64 o)]=.req (aJW (⟨cs,os,ks,gs,bs,c,o,false,.ready⟩:sG)) (.br (iV (WB (⟨cs,os,ks,gs,bs,c,o,false,.ready⟩:sG)) (.ret)) (.ok (.v (.bool (Um (⟨cs,os,ks,gs,bs,c,o,false,.ready⟩:sG)).b1))) (.ok (.v (.bool false)))):=by kernel_rfl
theorem aK5:Valid Tryz.prog aP 103 asB:=aI Tryz.func103 rfl Ik aNa (bf (by kernel_rfl)) (λargs lv h=>by
 unfold asU at h;split at h
 ·split at h
  case h_2=>cases h
  rename_i heq0;split at h
  case h_2=>cases h
  rename_i heq1;simp only [canL,canX];rw [rU (n:=1) heq0];simp only [canL,canX];rw [rU (n:=5) heq1];simp only [canL,canX];rw [aHA];obtain ⟨⟨hu,hc⟩,rfl⟩:=h;refine lK ⟨⟨rfl,hu,hc,rfl⟩,rfl,rfl⟩ (λhE=>?_)
  rcases aG6 _ hE.1 with ⟨h1,h2,h3⟩ |⟨h1,h2⟩
  ·rw [h1,h2]
   exact ⟨λ_=>congrArg (λz=>LV.v (.bool z)) h3.symm,λh=>by cases h⟩
  ·rw [h1]
   exact ⟨λh=>(by cases h),λ_=>congrArg (λz=>LV.v (.bool z)) h2.symm⟩
 ·cases h)
structure yN where
 l:List Ch
 n:Int
 i:Int
 bT:List Cd
 iL:List ByteArray
 fB:List Ko
 fP:List Ch
 kQ:List Ba
 b1:Int
 out:List Int
def aR2 (s:yN):List LV:=[.fn 102 [.own 0 0,.own 1 0],.os 2 1 0 (s.out.length),.xl dP s.l,.v (.int .i64 s.n),.v (.int .i64 s.i)]
def aRO (s:yN):List aZ:=[⟨[.xl dY s.bT,.xl .str s.iL,.xl fC s.fB,.xl dP s.fP,.xl fD s.kQ],28,.cl,false⟩,⟨[.v (.int .i64 s.b1)],3,.cl,false⟩,⟨[],3,.vec aSg s.out,false⟩]
def KT:Code:=((ax (Tryz.f55.body.getD .skip))[0]?).getD .skip
def au7 (s:yN):T (Rd yN):=
 .br (decide (s.i<s.n)) (.req (0≤s.i∧s.i<(s.l.length:Int)) (.req (upB s.bT=true∧(bG s.l s.i).2.1<(s.bT.length:Int)) (.br (Kw s.bT s.b1 (bG s.l s.i).2.1) (.req (0+(s.out.length)=s.out.length∧((s.out.length+List.length ([s.i]):Nat):Int)*8≤2^47∧((s.out.length+List.length ([s.i]):Nat):Int)<2^62) (.req (0=0∧(s.out.length+List.length ([s.i]))=List.length (s.out++([s.i]))) (.ok (.next {s with i:=(aSe (s.i+1)),out:=(s.out++([s.i]))})))) (.rl s.out (.ok (.next {s with i:=(aSe (s.i+1))})))))) (.rl s.out (.ok (.stop (.exit 0) s)))
abbrev aNI (s:yN):=(au7 s).rd s
def aAM (s:yN):Prop:=s.i=0∧s.out=[]∧s.n=(s.l.length:Int)∧s.n≤1000∧upB s.bT=true∧atB s.bT s.l=true
def alO (s:yN):Prop:=(0≤s.i∧s.i≤s.n)∧s.out=uw s.bT s.l s.b1 s.i.toNat∧s.n=(s.l.length:Int)∧s.n≤1000∧upB s.bT=true∧atB s.bT s.l=true
def YU (s:yN):Nat:=(s.n-s.i).toNat
def aJc (x:Ex) (_ s':yN):Prop:=x=.exit 0∧s'.out=uw s'.bT s'.l s'.b1 s'.l.length
theorem aRy:∀s,aAM s→alO s:=by
 intro s h;obtain ⟨h0,h1,h2,h3,h4,h5⟩:=h;exact ⟨⟨by omega,by omega⟩,by rw [h0,h1];rfl,h2,h3,h4,h5⟩
theorem aNZ (s:yN) (hI:alO s):bJ (λs'=>alO s'∧YU s'<YU s) (λx s'=>aJc x s s') (aNI s):=by
 unfold aNI au7;dsimp only [T.rd,T.rl];obtain ⟨⟨h0,h1⟩,h2,h3,h4,h5,h6⟩:=hI;refine ai (λc1=>?_) (λc1=>?_)
 ·have c1:s.i<s.n:=by simpa using c1
  have hs:=alC (cs:=s.bT) (gs:=s.l) (o:=s.b1) (k:=s.i.toNat)
  rw [show s.i.toNat+1=(s.i+1).toNat by omega,Int.toNat_of_nonneg h0] at hs
  rw [aH (x:=s.i+1)];refine ai (λc2=>?_) (λc2=>?_)
  ·refine ⟨⟨⟨by simp only;omega,by simp only;omega⟩,?_,h3,h4,h5,h6⟩,by simp only [YU];omega⟩
   simp only;rw [hs,if_pos c2,h2]
  ·refine ⟨⟨⟨by simp only;omega,by simp only;omega⟩,?_,h3,h4,h5,h6⟩,by simp only [YU];omega⟩
   simp only;rw [hs,if_neg (by rw [c2];simp),h2,List.append_nil]
 ·have c1:s.n≤s.i:=by simpa using c1
  exact ⟨rfl,by rw [h2,show s.i.toNat=s.l.length by omega]⟩
def aaV:bK yN:=⟨0,42,[6,7,26,27,28],[.nl 7 3 aSg],aR2,aRO,λv b=>⟨aU dP (v.getD 2 .junk),gI (v.getD 3 .junk),gI (v.getD 4 .junk),aU dY (bn (aT b 0) 0),aU .str (bn (aT b 0) 1),aU fC (bn (aT b 0) 2),aU dP (bn (aT b 0) 3),aU fD (bn (aT b 0) 4),gI (bn (aT b 1) 0),iW aSg (aT b 2)⟩,au7,λs r=> {r with l:=s.l,n:=s.n,bT:=s.bT,iL:=s.iL,fB:=s.fB,fP:=s.fP,kQ:=s.kQ,b1:=s.b1},λs=>s,λ_ s=>s,[.exit 0],aAM,alO,YU⟩
abbrev Gu:=aaV.run
abbrev aIw:=aaV.jf
abbrev aOn:=aaV.q
theorem aLO (s:yN) (hI:alO s):(au7 s).all (λ_=>True):=by
 refine ⟨λc1=>⟨?_,?_,λc2=>⟨?_,?_,trivial⟩,λc2=>⟨aSf,trivial⟩⟩,λc1=>⟨aSf,trivial⟩⟩
 all_goals ((obtain ⟨⟨h0,h1⟩,h2,h3,h4,h5,h6⟩:=hI;have hol:s.out.length≤s.i.toNat:=(by rw [h2];exact Og);(try simp only [decide_eq_true_eq] at c1);first|omega|exact ⟨h5,ase h6 h0 (by omega)⟩ |(refine ⟨by omega,?_,?_⟩<;>simp only [List.length_cons,List.length_nil]<;>omega) |exact ⟨rfl,by simp⟩ |exact ⟨rfl,rfl⟩))
def Zf:Specs:=aW [(53,Ot),(103,asB),(104,aeh)]
theorem ahd:∀g S,Zf g=some S→Valid Tryz.prog aP g S:=aS (l:=[(53,Ot),(103,asB),(104,aeh)]) ⟨al6,aK5,aEf,trivial⟩
def aqX:Hand:=inl Tryz.prog aP Zf (jT Tryz.prog aP (Zf) 20 2) 9
theorem aBF:dn Tryz.prog aP aqX:=bV ahd (dD ahd) 9
theorem aBo:aaV.Ok:={}
theorem aBa:aaV.Pf (aJc):=⟨aRy,λ_ _=>rfl,aNZ,aLO⟩
theorem aEW:bC Tryz.prog aP (AN 0) (.loop KT) aaV.lp:=bK.snd aBo aBa (aQ (Γ:=Zf) (K:=aqX) (L:=ay) ahd aBF KT (λb hb=>by rw [show ax KT=[] by kernel_rfl] at hb;cases hb)) (λs=>by kernel_rfl)
theorem aIW (s:yN) (hE:aAM s):∃s',alO s'∧aJc (aIw s) s' (Gu s):=bK.fin aBo aBa s hE
def aal:List LV→T LV
 | [.agg [.xl (.pair .str (.pair (.int .i64) (.pair (.int .i64) (.pair (.int .i64) (.pair (.pair (.int .i64) (.int .i64)) (.pair (.int .i64) (.pair (.int .i64) (.pair (.int .i64) (.pair (.int .i64) (.int .i64)))))))))) cs,.xl (.str) os,.xl (.pair .str (.pair (.int .i64) (.pair (.int .i64) (.int .i64)))) ks,.xl (.pair .str (.pair (.int .i64) (.pair (.int .i64) (.pair (.int .i64) (.pair (.int .i64) (.pair (.int .i64) (.pair (.int .i64) (.int .i64)))))))) gs,.xl (.pair .str (.int .i64)) bs],.v (.int .i64 o)]=> .ok (.iU [.xl aSg (dF cs os ks gs bs o),.v (.int .i64 (aIZ cs os ks gs bs o))])
 |_=> .no
def WY:List LV→T LV:=gZ Tryz.prog Tryz.f55.params.toList aal
theorem ap6 (cs:List Cd) (os:List ByteArray) (ks:List Ko) (gs:List Ch) (bs:List Ba) (o:Int):letI a:=(Gu (⟨gs,(gs.length:Int),(0:Int),cs,os,ks,gs,bs,o,([]:List Int)⟩:yN));cO Tryz.prog aP (Zf) aqX (λi=>if i=6 then aaV.lp else ay i) Tryz.f55 [.agg [.xl dY cs,.xl .str os,.xl fC ks,.xl dP gs,.xl fD bs],.v (.int .i64 o)]=.br ((!(fH cs os ks gs bs)) ||((decide (o<0)) ||(decide (o≥(cs.length:Int))))) (.ok (.iU [.xl aSg ([]:List Int),.v (.int .i64 1)])) (.req (0=0∧0=List.length ([]:List Int)) (.req (aOn (⟨gs,(gs.length:Int),(0:Int),cs,os,ks,gs,bs,o,([]:List Int)⟩:yN)) (.req (0+(List.length a.out)≤List.length a.out) (.ok (.iU [.xl aSg ((a.out.drop 0).take (List.length a.out)),.v (.int .i64 0)]))))):=by kernel_rfl
theorem au1:Valid Tryz.prog aP 55 WY:=aI Tryz.func55 rfl ahd aBF (L:=(λi=>if i=6 then aaV.lp else ay i)) (λb hb=>by
 rw [show ax _=[KT] by kernel_rfl] at hb
 simp only [List.mem_cons,List.not_mem_nil,or_false] at hb;subst hb;exact aEW) (λargs lv h=>by
 unfold aal at h;split at h
 ·simp only [canL,canX]
  rw [ap6];rename_i cs os ks gs bs o;obtain rfl:=h;refine ⟨λc=>?_,λc=>?_⟩
  ·have hn:¬(fH cs os ks gs bs=true∧0≤o∧o<(cs.length:Int)):=by
    rintro ⟨h1,h2,h3⟩
    rw [h1] at c
    simp at c
    omega
   show LV.iU _=_
   unfold dF aIZ;rw [if_neg hn,if_neg hn]
  ·simp only [Bool.or_eq_false_iff,Bool.not_eq_false',decide_eq_false_iff_not] at c
   have hp:fH cs os ks gs bs=true∧0≤o∧o<(cs.length:Int):=⟨c.1,by omega,by omega⟩
   have hl:=(fK.1 c.1).1
   have hE:aAM ⟨gs,(gs.length:Int),(0:Int),cs,os,ks,gs,bs,o,([]:List Int)⟩:=⟨rfl,rfl,rfl,by simp only;omega,Yt c.1,Yv c.1⟩
   obtain ⟨s',_,q1,q2⟩:=aIW _ hE
   have q2:(Gu ⟨gs,(gs.length:Int),(0:Int),cs,os,ks,gs,bs,o,([]:List Int)⟩).out=uw cs gs o gs.length:=q2
   refine ⟨aSf,⟨hE,rfl,rfl⟩,by omega,?_⟩
   show LV.iU [LV.xl _ _,_]=_
   rw [List.drop_zero,List.take_length,q2];unfold dF aIZ;rw [if_pos hp,if_pos hp]
 ·cases h)
def aj3:List LV→T LV
 | [.v (.agg ⟨[.int .i64 am,.int .i64 mo,.int .i64 ga,.int .i64 lo,.int .i64 de]⟩)]=> .ok (.v (.bool (J3 (am,mo,ga,lo,de))))
 |_=> .no
def aeD:List LV→T LV:=gZ Tryz.prog Tryz.f130.params.toList aj3
def QZ:Specs:=aW []
theorem Y7:∀g S,QZ g=some S→Valid Tryz.prog aP g S:=aS (l:=[]) trivial
def aBO:Hand:=inl Tryz.prog aP QZ (jT Tryz.prog aP (QZ) 20 2) 9
theorem aM9:dn Tryz.prog aP aBO:=bV Y7 (dD Y7) 9
theorem ayO (am mo ga lo de:Int):cO Tryz.prog aP (QZ) aBO ay Tryz.f130 [.v (.agg #[.int .i64 am,.int .i64 mo,.int .i64 ga,.int .i64 lo,.int .i64 de])]=.br ((am==0)&&((mo==0)&&((ga==0)&&((lo==0)&&(de==0))))) (.ok (.v (.bool true))) (.br ((decide (am≥0))&&(decide (am≤200000))) (.br (decide (mo>am)) (.br (decide (mo≤200000)) (.br ((decide (ga≥0))&&(decide (ga≤1000))) (.br ((decide (lo≥0))&&(decide (lo≤1000))) (.ok (.v (.bool ((decide (de≥1))&&(decide (de≤1000000)))))) (.ok (.v (.bool false)))) (.ok (.v (.bool false)))) (.ok (.v (.bool false)))) (.ok (.v (.bool false)))) (.ok (.v (.bool false)))):=by kernel_rfl
theorem aEz:Valid Tryz.prog aP 130 aeD:=aI Tryz.func130 rfl Y7 aM9 (bf (by kernel_rfl)) (λargs lv h=>by
 unfold aj3 at h;split at h
 ·simp only [canL,canX]
  rw [ayO];rename_i am mo ga lo de;obtain rfl:=h;unfold J3 cbZ;simp only;refine ⟨λc=>by rw [c];rfl,λc=>?_⟩
  rw [c,Bool.false_or];unfold inB;refine ⟨λc1=>⟨λc2=>⟨λc3=>⟨λc4=>⟨λc5=>?_,λc5=>?_⟩,λc4=>?_⟩,λc3=>?_⟩,λc2=>?_⟩,λc1=>?_⟩
  all_goals refine congrArg (λz=>LV.v (.bool z)) ?_
  all_goals
   rw [Bool.eq_iff_iff];simp only [Bool.and_eq_true,Bool.and_eq_false_iff,decide_eq_true_eq,decide_eq_false_iff_not,Bool.false_eq_true] at*
   constructor<;>intro hz<;>first|exact hz.elim|(exfalso;omega) |omega
 ·cases h)
def aiV:List LV→T LV
 | [.xq 6 q0]=>(match ([q0 0,q0 1,q0 2,q0 3,q0 4,q0 5]:List LV) with
  | [.v (.int .i64 _),.v (.int .i64 _),.v (.int .i64 _),.v (.int .i64 lo),.v (.int .i64 de),.v (.int .i64 _)]=> .ok (.v (.int .i64 (if de<lo then de else lo)))
  |_=> .no)
 |_=> .no
def adH:List LV→T LV:=gZ Tryz.prog Tryz.f132.params.toList aiV
theorem axG (am mo ga lo de now:Int):cO Tryz.prog aP (QZ) dR ay Tryz.f132 [.xq 6 (λj=>([.v (.int .i64 am),.v (.int .i64 mo),.v (.int .i64 ga),.v (.int .i64 lo),.v (.int .i64 de),.v (.int .i64 now)]:List LV).getD j .junk)]=.ok (.v (.int .i64 (if de<lo then de else lo))):=by kernel_rfl
theorem aDG:Valid Tryz.prog aP 132 adH:=aI Tryz.func132 rfl Y7 aA (bf (by kernel_rfl)) (λargs lv h=>by
 unfold aiV at h;split at h
 ·split at h
  case h_2=>cases h
  rename_i heq0;simp only [canL,canX];rw [rU (n:=6) heq0];simp only [canL,canX];rw [axG];exact h
 ·cases h)
def aiU:List LV→T LV
 | [.xq 6 q0]=>(match ([q0 0,q0 1,q0 2,q0 3,q0 4,q0 5]:List LV) with
  | [.v (.int .i64 am),.v (.int .i64 mo),.v (.int .i64 ga),.v (.int .i64 lo),.v (.int .i64 de),.v (.int .i64 _)]=> .ok (.v (.bool (cbZ (am,mo,ga,lo,de))))
  |_=> .no)
 |_=> .no
def adG:List LV→T LV:=gZ Tryz.prog Tryz.f131.params.toList aiU
theorem axF (am mo ga lo de now:Int):cO Tryz.prog aP (QZ) dR ay Tryz.f131 [.xq 6 (λj=>([.v (.int .i64 am),.v (.int .i64 mo),.v (.int .i64 ga),.v (.int .i64 lo),.v (.int .i64 de),.v (.int .i64 now)]:List LV).getD j .junk)]=.ok (.v (.bool ((am==0)&&((mo==0)&&((ga==0)&&((lo==0)&&(de==0))))))):=by kernel_rfl
theorem aDF:Valid Tryz.prog aP 131 adG:=aI Tryz.func131 rfl Y7 aA (bf (by kernel_rfl)) (λargs lv h=>by
 unfold aiU at h;split at h
 ·split at h
  case h_2=>cases h
  rename_i heq0;simp only [canL,canX];rw [rU (n:=6) heq0];simp only [canL,canX];rw [axF];exact h
 ·cases h)
structure CQ where
 low:Int
 high:Int
 Cm:Int
 WJ:Int
 WM:Int
 WL:Int
 adz:Int
 Oj:Int
 b11:Int
 b12:Int
 b13:Int
 b14:Int
 ady:Int
 b3:Int
def aR1 (s:CQ):List LV:=[.v (.int .i64 s.low),.v (.int .i64 s.high),.fn 134 [.own 2 0,.own 3 0]]
def aRN (s:CQ):List aZ:=[⟨[.v (.int .i64 s.Cm),.v (.int .i64 s.WJ),.v (.int .i64 s.WM),.v (.int .i64 s.WL),.v (.int .i64 s.adz)],103,.cl,false⟩,⟨[.v (.int .i64 s.Oj),.v (.int .i64 s.b11),.v (.int .i64 s.b12),.v (.int .i64 s.b13),.v (.int .i64 s.b14),.v (.int .i64 s.ady)],190,.cl,false⟩,⟨[.own 1 0],188,.cl,false⟩,⟨[.v (.int .i64 s.b3)],3,.cl,false⟩]
def aiP:Code:=((ax (Tryz.f133.body.getD .skip))[0]?).getD .skip
def au6 (s:CQ):T (Rd CQ):=
 .br (decide (s.low<s.high)) (.req ((2:Int)≠0) (.br (decide ((aSe ((aSe (s.b12*(aSe (s.low+(aSe ((aSe ((aSe (s.high-s.low))+1)).tdiv 2))))))*(aSe (s.low+(aSe ((aSe ((aSe (s.high-s.low))+1)).tdiv 2))))))≤s.b3)) (.ok (.next {s with low:=(aSe (s.low+(aSe ((aSe ((aSe (s.high-s.low))+1)).tdiv 2))))})) (.ok (.next {s with high:=(aSe ((aSe (s.low+(aSe ((aSe ((aSe (s.high-s.low))+1)).tdiv 2))))-1))})))) (.ok (.stop (.exit 0) s))
abbrev aNH (s:CQ):=(au6 s).rd s
def aKc (s:CQ):Prop:=s.low=0∧s.high=1000∧(0≤s.b12∧s.b12≤1000)∧0≤s.b3
def alN (s:CQ):Prop:=(0≤s.low∧s.low≤s.high∧s.high≤1000)∧s.b12*s.low*s.low≤s.b3∧(∀a:Int,s.high<a→a≤1000→¬s.b12*a*a≤s.b3)∧(0≤s.b12∧s.b12≤1000)∧0≤s.b3
def YT (s:CQ):Nat:=(s.high-s.low).toNat
def aJb (x:Ex) (_ s':CQ):Prop:=x=.exit 0∧s'.low=prm s'.b12 s'.b3
theorem aRs:∀s,aKc s→alN s:=by
 intro s h;obtain ⟨h0,h1,h2,h3⟩:=h;exact ⟨by omega,by rw [h0];simpa using h3,λa h h2=>by omega,h2,h3⟩
theorem aNd (s:CQ) (hI:alN s):bJ (λs'=>alN s'∧YT s'<YT s) (λx s'=>aJb x s s') (aNH s):=by
 unfold aNH au6;dsimp only [T.rd,T.rl];obtain ⟨⟨h0,h1,h2⟩,h3,h4,⟨h5,h6⟩,h7⟩:=hI
 have em:s.low<s.high→aSe (s.low+aSe ((aSe (aSe (s.high-s.low)+1)).tdiv 2))=s.low+(s.high-s.low+1) / 2:=λc=>by
  rw [aH (x:=s.high-s.low),aH (x:=s.high-s.low+1),Int.tdiv_eq_ediv_of_nonneg (by omega),aH (x:=(s.high-s.low+1) / 2),aH]
 refine ai (λc1=>?_) (λc1=>?_)
 ·have c1:s.low<s.high:=by simpa using c1
  rw [em c1]
  have hm1:s.low<s.low+(s.high-s.low+1) / 2:=by omega
  have hm2:s.low+(s.high-s.low+1) / 2≤s.high:=by omega
  generalize s.low+(s.high-s.low+1) / 2=m at hm1 hm2⊢;obtain ⟨⟨b1,b2⟩,b3,b4⟩:=amD h5 h6 (m:=m) (by omega) (by omega)
  rw [aH (x:=s.b12*m),aH (x:=s.b12*m*m),aH (x:=m-1)];refine ai (λc2=>?_) (λc2=>?_)
  ·have c2:s.b12*m*m≤s.b3:=by simpa using c2
   exact ⟨⟨⟨by simp only;omega,by simp only;omega,h2⟩,c2,h4,⟨h5,h6⟩,h7⟩,by simp only [YT];omega⟩
  ·have c2:¬s.b12*m*m≤s.b3:=by simpa using c2
   refine ⟨⟨⟨h0,by simp only;omega,by simp only;omega⟩,h3,λa ha hk=>?_,⟨h5,h6⟩,h7⟩,by simp only [YT];omega⟩
   have:=afP h5 (a:=m) (b:=a) (by omega) (by simp only at ha;omega)
   simp only;omega
 ·have c1:s.high≤s.low:=by simpa using c1
  refine ⟨rfl,(Uu (k:=1000) h0 (by omega) (.inr h3) (λa ha hk=>h4 a (by omega) (by omega))).symm⟩
def aeQ:bK CQ:=⟨4,25,[0,1,2],[],aR1,aRN,λv b=>⟨gI (v.getD 0 .junk),gI (v.getD 1 .junk),gI (bn (aT b 0) 0),gI (bn (aT b 0) 1),gI (bn (aT b 0) 2),gI (bn (aT b 0) 3),gI (bn (aT b 0) 4),gI (bn (aT b 1) 0),gI (bn (aT b 1) 1),gI (bn (aT b 1) 2),gI (bn (aT b 1) 3),gI (bn (aT b 1) 4),gI (bn (aT b 1) 5),gI (bn (aT b 3) 0)⟩,au6,λs r=> {r with Cm:=s.Cm,WJ:=s.WJ,WM:=s.WM,WL:=s.WL,adz:=s.adz,Oj:=s.Oj,b11:=s.b11,b12:=s.b12,b13:=s.b13,b14:=s.b14,ady:=s.ady,b3:=s.b3},λs=>s,λ_ s=>s,[.exit 0],aKc,alN,YT⟩
abbrev amZ:=aeQ.run
abbrev aIv:=aeQ.jf
abbrev aOm:=aeQ.q
def Ir:Specs:=aW [(130,aeD),(131,adG),(132,adH)]
theorem Nu:∀g S,Ir g=some S→Valid Tryz.prog aP g S:=aS (l:=[(130,aeD),(131,adG),(132,adH)]) ⟨aEz,aDF,aDG,trivial⟩
def aqW:Hand:=inl Tryz.prog aP Ir (jT Tryz.prog aP (Ir) 20 2) 9
theorem aBE:dn Tryz.prog aP aqW:=bV Nu (dD Nu) 9
theorem aLN (s:CQ) (_:alN s):(au6 s).all (λ_=>True):=by
 refine ⟨λc1=>⟨?_,λ_=>trivial,λ_=>trivial⟩,λ_=>trivial⟩
 ·(first|decide|omega)
theorem aBn:aeQ.Ok:={}
theorem aA9:aeQ.Pf (aJb):=⟨aRs,λ_ _=>rfl,aNd,aLN⟩
theorem aEV:bC Tryz.prog aP (AN 4) (.loop aiP) aeQ.lp:=bK.snd aBn aA9 (bI (Γ:=Ir) (K:=aqW) (L:=(ql Tryz.prog aP Ir aqW 20 2)) Nu aBE aiP (λb _=>dA Nu aBE 20 2 b)) (λs=>by kernel_rfl)
theorem aH5 (s:CQ) (hE:aKc s):∃s',alN s'∧aJb (aIv s) s' (amZ s):=bK.fin aBn aA9 s hE
def ajE:List LV→T LV
 | [.v (.agg ⟨[.int .i64 am,.int .i64 mo,.int .i64 ga,.int .i64 lo,.int .i64 de]⟩)]=> .ok (.v (.tuple #[.int .i64 (BN (am,mo,ga,lo,de)),.int .i64 (pmE (am,mo,ga,lo,de))]))
 |_=> .no
def aeg:List LV→T LV:=gZ Tryz.prog Tryz.f105.params.toList ajE
def aBN:Hand:=inl Tryz.prog aP Ir (dK 133 4 1 (aeQ.lp) (jT Tryz.prog aP (Ir) 20 2)) 9
theorem aM8:dn Tryz.prog aP aBN:=bV Nu (bg Tryz.func133 rfl (by kernel_rfl) aEV (dD Nu)) 9
theorem ayp (am mo ga lo de:Int):letI a:=aSe ((if de<lo then de else lo)*(aSe (mo-am)));cO Tryz.prog aP (Ir) aBN ay Tryz.f105 [.v (.agg #[.int .i64 am,.int .i64 mo,.int .i64 ga,.int .i64 lo,.int .i64 de])]=.br (!(J3 (am,mo,ga,lo,de))) (.ok (.v (.tuple #[.int .i64 0,.int .i64 1]))) (.br (cbZ (am,mo,ga,lo,de)) (.ok (.v (.tuple #[.int .i64 1000,.int .i64 0]))) (.req (aOm (⟨(0:Int),(1000:Int),am,mo,ga,lo,de,am,mo,ga,lo,de,(0:Int),a⟩:CQ)) (.ok (.v (.tuple #[.int .i64 (amZ (⟨(0:Int),(1000:Int),am,mo,ga,lo,de,am,mo,ga,lo,de,(0:Int),a⟩:CQ)).low,.int .i64 0]))))):=by kernel_rfl
theorem aEe:Valid Tryz.prog aP 105 aeg:=aI Tryz.func105 rfl Nu aM8 (bf (by kernel_rfl)) (λargs lv h=>by
 unfold ajE at h;split at h
 ·simp only [canL,canX]
  rw [ayp];rename_i am mo ga lo de;obtain rfl:=h;refine ⟨λc=>?_,λc=>⟨λc2=>?_,λc2=>?_⟩⟩
  ·have c:J3 (am,mo,ga,lo,de)=false:=by simpa using c
   simp [T.all,BN,pmE,c]
  ·have c:J3 (am,mo,ga,lo,de)=true:=by simpa using c
   simp [T.all,BN,pmE,c,c2]
  ·have c:J3 (am,mo,ga,lo,de)=true:=by simpa using c
   obtain ⟨⟨h1,h2,h3⟩,⟨h4,h5⟩,⟨h6,h7⟩,h8,h9⟩:=ar7 c c2;simp only at h1 h2 h3 h4 h5 h6 h7 h8 h9
   have hm:0≤(if de<lo then de else lo)∧(if de<lo then de else lo)≤1000:=by split<;>omega
   have e:BN (am,mo,ga,lo,de)=prm ga ((if de<lo then de else lo)*(mo-am)):=by
    unfold BN;rw [if_pos c,if_neg (by rw [c2];simp)]
   have e2:pmE (am,mo,ga,lo,de)=0:=by
    unfold pmE;rw [if_pos c]
   rw [e,e2,aH (x:=mo-am)];generalize (if de<lo then de else lo)=mn at hm⊢
   have a1:0≤mn*(mo-am):=Int.mul_nonneg hm.1 (by omega)
   have a2:mn*(mo-am)≤1000*(mo-am):=Int.mul_le_mul_of_nonneg_right hm.2 (by omega)
   rw [aH (x:=mn*(mo-am))];refine lK ⟨⟨rfl,rfl,⟨h4,h5⟩,a1⟩,rfl,rfl⟩ (λhE=>?_)
   obtain ⟨s',_,q1,q2⟩:=aH5 _ hE.1
   show LV.v (.tuple #[.int .i64 _,_])=_
   rw [q2];rfl
 ·cases h)
structure pJ where
 first:Int
 l:List Int
 n:Int
 i:Int
def aQD (s:pJ):List LV:=[.v (.int .i64 s.first),.xl aSg s.l,.v (.int .i64 s.n),.v (.int .i64 s.i)]
def aPl (_:pJ):List aZ:=[]
def Fh:Code:=((ax (Tryz.f106.body.getD .skip))[0]?).getD .skip
def XY (s:pJ):T (Rd pJ):=
 .br (decide (s.i<s.n)) (.req (0≤s.i∧s.i<(s.l.length:Int)) (.ok (.next {s with first:=(if (gi s.l s.i)<s.first then (gi s.l s.i) else s.first),i:=(aSe (s.i+1))}))) (.ok (.stop (.exit 0) s))
abbrev ahN (s:pJ):=(XY s).rd s
def akG (s:pJ):Prop:=s.i=0∧s.n=(s.l.length:Int)∧s.n≤1000
def Td (s:pJ):Prop:=0≤s.i∧s.i≤s.n∧s.n=(s.l.length:Int)∧s.n≤1000
def Vt (s:pJ):Nat:=(s.n-s.i).toNat
def atG (x:Ex) (_ s':pJ):Prop:=x=.exit 0∧s'.i=s'.n
theorem aMQ:∀s,akG s→Td s:=by
 intro s h;obtain ⟨h0,h1,h2⟩:=h;exact ⟨by omega,by omega,h1,h2⟩
theorem aHM (s:pJ) (hI:Td s):bJ (λs'=>Td s'∧Vt s'<Vt s) (λx s'=>atG x s s') (ahN s):=by
 unfold ahN XY;dsimp only [T.rd,T.rl];obtain ⟨h0,h1,h2,h3⟩:=hI;refine ai (λc1=>?_) (λc1=>?_)
 ·have c1:s.i<s.n:=by simpa using c1
  rw [aH (x:=s.i+1)];exact ⟨⟨by simp only;omega,by simp only;omega,h2,h3⟩,by simp only [Vt];omega⟩
 ·have c1:s.n≤s.i:=by simpa using c1
  exact ⟨rfl,by omega⟩
def JE:bK pJ:=⟨0,18,[0,7,8,9],[],aQD,aPl,λv _=>⟨gI (v.getD 0 .junk),aU aSg (v.getD 1 .junk),gI (v.getD 2 .junk),gI (v.getD 3 .junk)⟩,XY,λs r=> {r with l:=s.l,n:=s.n},λs=>s,λ_ s=>s,[.exit 0],akG,Td,Vt⟩
abbrev Dv:=JE.run
abbrev az2:=JE.jf
abbrev aJ8:=JE.q
theorem aGd (s:pJ) (hI:Td s):(XY s).all (λ_=>True):=by
 refine ⟨λc1=>⟨?_,trivial⟩,λ_=>trivial⟩
 ·(obtain ⟨h0,h1,h2,h3⟩:=hI;simp at c1;omega)
def ahk:Specs:=aW []
theorem aq9:∀g S,ahk g=some S→Valid Tryz.prog aP g S:=aS (l:=[]) trivial
theorem ab8:JE.Ok:={}
theorem abK:JE.Pf (atG):=⟨aMQ,λ_ _=>rfl,aHM,aGd⟩
theorem awe:bC Tryz.prog aP (AN 0) (.loop Fh) JE.lp:=bK.snd ab8 abK (aQ (Γ:=ahk) (K:=dR) (L:=ay) aq9 aA Fh (λb hb=>by rw [show ax Fh=[] by kernel_rfl] at hb;cases hb)) (λs=>by kernel_rfl)
theorem ay3 (s:pJ) (hE:akG s):∃s',Td s'∧atG (az2 s) s' (Dv s):=bK.fin ab8 abK s hE
theorem aqk (s:pJ) (hE:akG s):(λs:pJ=>lsF s.first (s.l.drop s.i.toNat)) (Dv s)=(λs:pJ=>lsF s.first (s.l.drop s.i.toNat)) s:=by
 exact bK.yx ab8 abK (λs:pJ=>lsF s.first (s.l.drop s.i.toNat)) (λs hI=>by
  show bJ _ _ (ahN s)
  unfold ahN XY;dsimp only [T.rd,T.rl];obtain ⟨h0,h1,h2,h3⟩:=hI;refine ai (λc1=>?_) (λc1=>rfl)
  have c1:s.i<s.n:=by simpa using c1
  rw [aH (x:=s.i+1)]
  show lsF _ _=lsF _ _
  rw [(gi_step h0 (show s.i<s.l.length by omega)).1]
  rfl) s hE
def ajR:List LV→T LV
 | [.v (.int .i64 f),.xl (.int .i64) l]=> .req ((l.length:Int)≤1000) (.ok (.v (.int .i64 (lsF f l))))
 |_=> .no
def aer:List LV→T LV:=gZ Tryz.prog Tryz.f106.params.toList ajR
theorem ayC (f:Int) (l:List Int):cO Tryz.prog aP (ahk) dR (λi=>if i=2 then JE.lp else ay i) Tryz.f106 [.v (.int .i64 f),.xl aSg l]=.req (aJ8 (⟨f,l,(l.length:Int),(0:Int)⟩:pJ)) (.ok (.v (.int .i64 (Dv (⟨f,l,(l.length:Int),(0:Int)⟩:pJ)).first))):=by kernel_rfl
theorem aEo:Valid Tryz.prog aP 106 aer:=aI Tryz.func106 rfl aq9 aA (L:=(λi=>if i=2 then JE.lp else ay i)) (λb hb=>by
 rw [show ax _=[Fh] by kernel_rfl] at hb
 simp only [List.mem_cons,List.not_mem_nil,or_false] at hb;subst hb;exact awe) (λargs lv h=>by
 unfold ajR at h;split at h
 ·simp only [canL,canX]
  rw [ayC];rename_i f l;obtain ⟨hl,rfl⟩:=h;refine lK ⟨⟨rfl,rfl,hl⟩,rfl,rfl⟩ (λhE=>?_)
  obtain ⟨s',_,q1,q2⟩:=ay3 _ hE.1
  have q3:=aqk _ hE.1
  simp only at q3;rw [q2] at q3
  have e:(Dv ⟨f,l,(l.length:Int),(0:Int)⟩).n=(l.length:Int):=rfl
  have e2:(Dv ⟨f,l,(l.length:Int),(0:Int)⟩).l=l:=rfl
  rw [e,e2,List.drop_eq_nil_of_le (by omega)] at q3
  exact congrArg (λz=>LV.v (.int .i64 z)) q3
 ·cases h)
def ajN:List LV→T LV
 | [.v (.agg ⟨[.string nm,.int .i64 up_,.int .i64 li,.int .i64 ne,.int .i64 ra,.int .i64 he,.int .i64 am,.int .i64 mo,.int .i64 ga,.int .i64 lo,.int .i64 de]⟩)]=> .ok (.v (.int .i64 (dS (nm,up_,li,ne,(ra,he),am,mo,ga,lo,de))))
 |_=> .no
def aen:List LV→T LV:=gZ Tryz.prog Tryz.f58.params.toList ajN
def aCi:Specs:=aW [(105,aeg),(106,aer)]
theorem aNs:∀g S,aCi g=some S→Valid Tryz.prog aP g S:=aS (l:=[(105,aeg),(106,aer)]) ⟨aEe,aEo,trivial⟩
theorem ayy (nm:ByteArray) (up_ li ne ra he am mo ga lo de:Int):letI a:=(BN (am,mo,ga,lo,de));cO Tryz.prog aP (aCi) dR ay Tryz.f58 [.v (.agg #[.string nm,.int .i64 up_,.int .i64 li,.int .i64 ne,.int .i64 ra,.int .i64 he,.int .i64 am,.int .i64 mo,.int .i64 ga,.int .i64 lo,.int .i64 de])]=.br ((pmE (am,mo,ga,lo,de)) !=0) (.br (ra==0) (.req ((List.length ([ne,(0:Int)]):Int)≤1000) (.ok (.v (.int .i64 (lsF li ([ne,(0:Int)])))))) (.req ((List.length ([ne,(0:Int),ra]):Int)≤1000) (.ok (.v (.int .i64 (lsF li ([ne,(0:Int),ra]))))))) (.br (ra==0) (.req ((List.length ([ne,a]):Int)≤1000) (.ok (.v (.int .i64 (lsF li ([ne,a])))))) (.req ((List.length ([ne,a,ra]):Int)≤1000) (.ok (.v (.int .i64 (lsF li ([ne,a,ra]))))))):=by kernel_rfl
theorem aEl:Valid Tryz.prog aP 58 aen:=aI Tryz.func58 rfl aNs aA (bf (by kernel_rfl)) (λargs lv h=>by
 unfold ajN at h;split at h
 ·simp only [canL,canX]
  rw [ayy];rename_i nm up_ li ne ra he am mo ga lo de;obtain rfl:=h;unfold dS;simp only;refine ⟨λc=>?_,λc=>?_⟩
  ·have e:BN (am,mo,ga,lo,de)=0:=by
    rw [axk] at c
    have c:J3 (am,mo,ga,lo,de)=false:=by simpa using c
    unfold BN;rw [c];rfl
   rw [e];refine ⟨λc2=>⟨by simp,?_⟩,λc2=>⟨by simp,?_⟩⟩
   ·rw [if_pos (by simpa using c2)];rfl
   ·rw [if_neg (by simpa using c2)];rfl
  ·refine ⟨λc2=>⟨by simp,?_⟩,λc2=>⟨by simp,?_⟩⟩
   ·rw [if_pos (by simpa using c2)];rfl
   ·rw [if_neg (by simpa using c2)];rfl
 ·cases h)
def ai7:List LV→T LV
 | [.v (.int .i64 k),.xq 5 q0,.xq 2 q1]=>(match ([q0 0,q0 1,q0 2,q0 3,q0 4]:List LV) with
  | [.xl (.pair .str (.pair (.int .i64) (.pair (.int .i64) (.pair (.int .i64) (.pair (.pair (.int .i64) (.int .i64)) (.pair (.int .i64) (.pair (.int .i64) (.pair (.int .i64) (.pair (.int .i64) (.int .i64)))))))))) _,.xl (.str) _,.xl (.pair .str (.pair (.int .i64) (.pair (.int .i64) (.int .i64)))) _,.xl (.pair .str (.pair (.int .i64) (.pair (.int .i64) (.pair (.int .i64) (.pair (.int .i64) (.pair (.int .i64) (.pair (.int .i64) (.int .i64)))))))) gs,.xl (.pair .str (.int .i64)) _]=>(match ([q1 0,q1 1]:List LV) with
  | [.v (.int .i64 _),.v (.int .i64 p)]=> .req ((0≤k∧k<(gs.length:Int))∧0≤p) (.ok (.v (.bool (usA (bG gs k).2.2.1 p))))
  |_=> .no)
  |_=> .no)
 |_=> .no
def Oy:List LV→T LV:=gZ Tryz.prog Tryz.f57.params.toList ai7
theorem axS (k:Int) (cs:List Cd) (os:List ByteArray) (ks:List Ko) (gs:List Ch) (bs:List Ba) (c p:Int):cO Tryz.prog aP (ahk) dR ay Tryz.f57 [.v (.int .i64 k),.xq 5 (λj=>([.xl dY cs,.xl .str os,.xl fC ks,.xl dP gs,.xl fD bs]:List LV).getD j .junk),.xq 2 (λj=>([.v (.int .i64 c),.v (.int .i64 p)]:List LV).getD j .junk)]=.req (0≤k∧k<(gs.length:Int)) (.req (0≤p) (.ok (.v (.bool ((aN1 .i64 (bG gs k).2.2.1 (aSe ((1:Int)*2^(min p.toNat 64)))) !=0))))):=by kernel_rfl
theorem ama:Valid Tryz.prog aP 57 Oy:=aI Tryz.func57 rfl aq9 aA (bf (by kernel_rfl)) (λargs lv h=>by
 unfold ai7 at h;split at h
 ·split at h
  case h_2=>cases h
  rename_i heq0;split at h
  case h_2=>cases h
  rename_i heq1;simp only [canL,canX];rw [rU (n:=5) heq0];simp only [canL,canX];rw [rU (n:=2) heq1];simp only [canL,canX];rw [axS];obtain ⟨⟨h1,h2⟩,h3⟩:=h;exact ⟨h1,h2,h3⟩
 ·cases h)
structure lW where
 cs:List Cd
 os:List ByteArray
 ks:List Ko
 gs:List Ch
 bs:List Ba
 c:Int
 p:Int
 l:List Int
 n:Int
 i:Int
 out:List Int
def aQV (s:lW):List LV:=[.fn 57 [.xq 5 (λj=>([.xl dY s.cs,.xl .str s.os,.xl fC s.ks,.xl dP s.gs,.xl fD s.bs]:List LV).getD j .junk),.xq 2 (λj=>([.v (.int .i64 s.c),.v (.int .i64 s.p)]:List LV).getD j .junk)],.os 0 1 0 (s.out.length),.xl aSg s.l,.v (.int .i64 s.n),.v (.int .i64 s.i)]
def aPD (s:lW):List aZ:=[⟨[],3,.vec aSg s.out,false⟩]
def FM:Code:=((ax (Tryz.f56.body.getD .skip))[0]?).getD .skip
def X6 (s:lW):T (Rd lW):=
 .br (decide (s.i<s.n)) (.req (0≤s.i∧s.i<(s.l.length:Int)) (.req ((0≤(gi s.l s.i)∧(gi s.l s.i)<(s.gs.length:Int))∧0≤s.p) (.br (usA (bG s.gs (gi s.l s.i)).2.2.1 s.p) (.req (0+(s.out.length)=s.out.length∧((s.out.length+List.length ([(gi s.l s.i)]):Nat):Int)*8≤2^47∧((s.out.length+List.length ([(gi s.l s.i)]):Nat):Int)<2^62) (.req (0=0∧(s.out.length+List.length ([(gi s.l s.i)]))=List.length (s.out++([(gi s.l s.i)]))) (.ok (.next {s with i:=(aSe (s.i+1)),out:=(s.out++([(gi s.l s.i)]))})))) (.rl s.out (.ok (.next {s with i:=(aSe (s.i+1))})))))) (.rl s.out (.ok (.stop (.exit 0) s)))
abbrev ahT (s:lW):=(X6 s).rd s
def aaR (s:lW):Prop:=s.i=0∧s.out=[]∧s.n=(s.l.length:Int)∧s.n≤1000∧0≤s.p∧∀k∈s.l,0≤k∧k<(s.gs.length:Int)
def TF (s:lW):Prop:=(0≤s.i∧s.i≤s.n)∧(s.out.length:Int)≤s.i∧s.n=(s.l.length:Int)∧s.n≤1000∧0≤s.p∧∀k∈s.l,0≤k∧k<(s.gs.length:Int)
def MO (s:lW):Nat:=(s.n-s.i).toNat
def atU (x:Ex) (_ s':lW):Prop:=x=.exit 0∧s'.i=s'.n
theorem aNX:∀s,aaR s→TF s:=by
 intro s h;obtain ⟨h0,h1,h2,h3,h4,h5⟩:=h;exact ⟨by omega,by rw [h1];simp;omega,h2,h3,h4,h5⟩
theorem aIT (s:lW) (hI:TF s):bJ (λs'=>TF s'∧MO s'<MO s) (λx s'=>atU x s s') (ahT s):=by
 unfold ahT X6;dsimp only [T.rd,T.rl];obtain ⟨⟨h0,h1⟩,h2,h3,h4,h5,h6⟩:=hI;refine ai (λc1=>?_) (λc1=>?_)
 ·have c1:s.i<s.n:=by simpa using c1
  rw [aH (x:=s.i+1)];refine ai (λc2=>?_) (λc2=>?_)
  ·exact ⟨⟨⟨by simp only;omega,by simp only;omega⟩,by simp only [List.length_append,List.length_cons,List.length_nil];omega,h3,h4,h5,h6⟩,by simp only [MO];omega⟩
  ·exact ⟨⟨⟨by simp only;omega,by simp only;omega⟩,by simp only;omega,h3,h4,h5,h6⟩,by simp only [MO];omega⟩
 ·have c1:s.n≤s.i:=by simpa using c1
  exact ⟨rfl,by omega⟩
def JR:bK lW:=⟨0,23,[1,5,8,9,10],[.nl 5 3 aSg],aQV,aPD,λv b=>⟨aU dY (pR (gFn (v.getD 0 .junk) 0) 0),aU .str (pR (gFn (v.getD 0 .junk) 0) 1),aU fC (pR (gFn (v.getD 0 .junk) 0) 2),aU dP (pR (gFn (v.getD 0 .junk) 0) 3),aU fD (pR (gFn (v.getD 0 .junk) 0) 4),gI (pR (gFn (v.getD 0 .junk) 1) 0),gI (pR (gFn (v.getD 0 .junk) 1) 1),aU aSg (v.getD 2 .junk),gI (v.getD 3 .junk),gI (v.getD 4 .junk),iW aSg (aT b 0)⟩,X6,λs r=> {r with cs:=s.cs,os:=s.os,ks:=s.ks,gs:=s.gs,bs:=s.bs,c:=s.c,p:=s.p,l:=s.l,n:=s.n},λs=>s,λ_ s=>s,[.exit 0],aaR,TF,MO⟩
abbrev sU:=JR.run
abbrev az7:=JR.jf
abbrev aKp:=JR.q
theorem aGv (s:lW) (hI:TF s):(X6 s).all (λ_=>True):=by
 refine ⟨λc1=>⟨?_,?_,λc2=>⟨?_,?_,trivial⟩,λc2=>⟨aSf,trivial⟩⟩,λc1=>⟨aSf,trivial⟩⟩
 all_goals ((obtain ⟨⟨h0,h1⟩,h2,h3,h4,h5,h6⟩:=hI;(try simp only [decide_eq_true_eq] at c1);first|omega|(refine ⟨h6 _ ?_,h5⟩;rw [jA (by omega)];exact List.getElem_mem _) |(refine ⟨by omega,?_,?_⟩<;>simp only [List.length_cons,List.length_nil]<;>omega) |exact ⟨rfl,by simp⟩ |exact ⟨rfl,rfl⟩))
def arD:Specs:=aW [(57,Oy)]
theorem aB1:∀g S,arD g=some S→Valid Tryz.prog aP g S:=aS (l:=[(57,Oy)]) ⟨ama,trivial⟩
theorem acf:JR.Ok:={}
theorem abO:JR.Pf (atU):=⟨aNX,λ_ _=>rfl,aIT,aGv⟩
theorem awt:bC Tryz.prog aP (AN 0) (.loop FM) JR.lp:=bK.snd acf abO (aQ (Γ:=arD) (K:=dR) (L:=ay) aB1 aA FM (λb hb=>by rw [show ax FM=[] by kernel_rfl] at hb;cases hb)) (λs=>by kernel_rfl)
theorem aAt (s:lW) (hE:aaR s):∃s',TF s'∧atU (az7 s) s' (sU s):=bK.fin acf abO s hE
theorem ar6 (s:lW) (hE:aaR s):(λs:lW=>s.out++iY s.gs s.p (s.l.drop s.i.toNat)) (sU s)=(λs:lW=>s.out++iY s.gs s.p (s.l.drop s.i.toNat)) s:=by
 exact bK.yx acf abO (λs:lW=>s.out++iY s.gs s.p (s.l.drop s.i.toNat)) (λs hI=>by
  show bJ _ _ (ahT s)
  unfold ahT X6;dsimp only [T.rd,T.rl];obtain ⟨⟨h0,h1⟩,h2,h3,h4,h5,h6⟩:=hI;refine ai (λc1=>?_) (λc1=>rfl)
  have c1:s.i<s.n:=by simpa using c1
  rw [aH (x:=s.i+1)];refine ai (λc2=>?_) (λc2=>?_)
  ·show _++iY _ _ _=_++iY _ _ _
   rw [(gi_step h0 (show s.i<s.l.length by omega)).1]
   simp [iY,c2]
  ·show _++iY _ _ _=_++iY _ _ _
   rw [(gi_step h0 (show s.i<s.l.length by omega)).1]
   simp [iY,c2]) s hE
theorem aAs (s:lW) (hE:aaR s):(sU s).out=iY s.gs s.p s.l:=by
 obtain ⟨s',_,q1,q2⟩:=aAt s hE
 have q3:=ar6 s hE
 obtain ⟨h0,h1,h2,h3⟩:=hE;simp only at q3;rw [q2,show (sU s).n=s.n from rfl,show (sU s).l=s.l from rfl,List.drop_eq_nil_of_le (by omega),h0,h1] at q3
 simpa [iY] using q3
def aj8:List LV→T LV
 | [.xl (.int .i64) l,.fn 57 [.xq 5 q0,.xq 2 q1]]=>(match ([q0 0,q0 1,q0 2,q0 3,q0 4]:List LV) with
  | [.xl (.pair .str (.pair (.int .i64) (.pair (.int .i64) (.pair (.int .i64) (.pair (.pair (.int .i64) (.int .i64)) (.pair (.int .i64) (.pair (.int .i64) (.pair (.int .i64) (.pair (.int .i64) (.int .i64)))))))))) _,.xl (.str) _,.xl (.pair .str (.pair (.int .i64) (.pair (.int .i64) (.int .i64)))) _,.xl (.pair .str (.pair (.int .i64) (.pair (.int .i64) (.pair (.int .i64) (.pair (.int .i64) (.pair (.int .i64) (.pair (.int .i64) (.int .i64)))))))) gs,.xl (.pair .str (.int .i64)) _]=>(match ([q1 0,q1 1]:List LV) with
  | [.v (.int .i64 _),.v (.int .i64 p)]=> .req (Zv gs p l) (.ok (.xl aSg (iY gs p l)))
  |_=> .no)
  |_=> .no)
 |_=> .no
def aeG:List LV→T LV:=gZ Tryz.prog Tryz.f56.params.toList aj8
theorem ayR (l:List Int) (cs:List Cd) (os:List ByteArray) (ks:List Ko) (gs:List Ch) (bs:List Ba) (c p:Int):letI a:=(sU (⟨cs,os,ks,gs,bs,c,p,l,(l.length:Int),(0:Int),([]:List Int)⟩:lW));cO Tryz.prog aP (arD) dR (λi=>if i=3 then JR.lp else ay i) Tryz.f56 [.xl aSg l,.fn 57 [.xq 5 (λj=>([.xl dY cs,.xl .str os,.xl fC ks,.xl dP gs,.xl fD bs]:List LV).getD j .junk),.xq 2 (λj=>([.v (.int .i64 c),.v (.int .i64 p)]:List LV).getD j .junk)]]=.req (0=0∧0=List.length ([]:List Int)) (.req (aKp (⟨cs,os,ks,gs,bs,c,p,l,(l.length:Int),(0:Int),([]:List Int)⟩:lW)) (.req (0+(List.length a.out)≤List.length a.out) (.ok (.xl aSg ((a.out.drop 0).take (List.length a.out)))))):=by kernel_rfl
theorem aEC:Valid Tryz.prog aP 56 aeG:=aI Tryz.func56 rfl aB1 aA (L:=(λi=>if i=3 then JR.lp else ay i)) (λb hb=>by
 rw [show ax _=[FM] by kernel_rfl] at hb
 simp only [List.mem_cons,List.not_mem_nil,or_false] at hb;subst hb;exact awt) (λargs lv h=>by
 unfold aj8 at h;split at h
 ·split at h
  case h_2=>cases h
  rename_i heq0;split at h
  case h_2=>cases h
  rename_i heq1;simp only [canL,canX];rw [rU (n:=5) heq0];simp only [canL,canX];rw [rU (n:=2) heq1];simp only [canL,canX];rw [ayR];obtain ⟨⟨hp,hl,hm⟩,rfl⟩:=h;refine ⟨aSf,lK ⟨⟨rfl,rfl,rfl,by simp only;omega,hp,hm⟩,rfl,rfl⟩ (λhE=>⟨by omega,?_⟩)⟩
  show LV.xl _ _=_
  rw [List.drop_zero,List.take_length,aAs _ hE.1]
 ·cases h)
def am5:Array Tmp×Code×Code:=((lF (Tryz.f24.body.getD .skip))[0]?).getD (#[],.skip,.skip)
def aLS:Array Tmp:=am5.1
def aMl:Code:=am5.2.1
def aMg:Code:=am5.2.2
structure yM where
 n:Int
 c:Int
 ah:List Cd
 aO:List ByteArray
 aG:List Ko
 au:List Ch
 bD:List Ba
 below:List Int
 di:List Cd
 gB:List ByteArray
 dG:List Ko
 dN:List Ch
 jF:List Ba
 rows:List Rw
 st:LS
def aRX (s:yM):List LV:=[.yt 4,.v (.int .i64 s.n),.v (.int .i64 s.c)]
def aRJ (s:yM):List aZ:=[⟨[.xl dY s.ah,.xl .str s.aO,.xl fC s.aG,.xl dP s.au,.xl fD s.bD],28,.cl,true⟩,⟨[.os 5 2 0 (s.rows.length)],49,.cl,false⟩,⟨[.xl aSg s.below],35,.cl,false⟩,⟨[.xl dY s.di,.xl .str s.gB,.xl fC s.dG,.xl dP s.dN,.xl fD s.jF],28,.cl,false⟩,⟨[.junk,.own 0 0,.junk,.junk,.own 1 0,.own 2 0,.v (.tuple #[]),.v (.tuple #[]),.junk,.junk,.junk,.junk,.junk,.v (.tuple #[]),.v (.tuple #[]),.v (.tuple #[]),.v (.tuple #[]),.v (.tuple #[]),.v (.tuple #[]),.v (.tuple #[]),.v (.tuple #[]),.v (.tuple #[]),.v (.tuple #[]),.junk,.v (.tuple #[]),.v (.tuple #[]),.v (.tuple #[]),.v (.tuple #[]),.v (.tuple #[]),.v (.tuple #[]),.v (.tuple #[]),.v (.tuple #[]),.v (.tuple #[]),.v (.tuple #[]),.v (.tuple #[]),.v (.tuple #[]),.v (.tuple #[]),.v (.tuple #[]),.v (.tuple #[]),.v (.tuple #[]),.v (.tuple #[]),.v (.tuple #[]),.junk],0,.ni aLS aMl aMg s.st,false⟩,⟨[],107,.vec wE s.rows,false⟩]
def aiN:Code:=((ax (Tryz.f101.body.getD .skip))[0]?).getD .skip
set_option maxHeartbeats 4000000 in
def au4 (s:yM):T (Rd yM):=
 .br (decide (s.c<s.n)) (.req (Zv s.au (0:Int) (dF s.ah s.aO s.aG s.au s.bD s.c)) (.br (decide ((List.length (iY s.au (0:Int) (dF s.ah s.aO s.aG s.au s.bD s.c)):Int)>0)) (.req (0≤s.c∧s.c<(s.ah.length:Int)) (.req (0+(s.rows.length)=s.rows.length∧((s.rows.length+List.length ([((dS (iw s.ah s.c)),iY s.au (0:Int) (dF s.ah s.aO s.aG s.au s.bD s.c))]):Nat):Int)*32≤2^47∧((s.rows.length+List.length ([((dS (iw s.ah s.c)),iY s.au (0:Int) (dF s.ah s.aO s.aG s.au s.bD s.c))]):Nat):Int)<2^62) (.req (Zv s.au (1:Int) (dF s.ah s.aO s.aG s.au s.bD s.c)) (.br (decide ((List.length (iY s.au (1:Int) (dF s.ah s.aO s.aG s.au s.bD s.c)):Int)>0)) (.req (0≤s.c∧s.c<(s.ah.length:Int)) (.req (0+(s.rows.length+List.length ([((dS (iw s.ah s.c)),iY s.au (0:Int) (dF s.ah s.aO s.aG s.au s.bD s.c))]))=List.length (s.rows++([((dS (iw s.ah s.c)),iY s.au (0:Int) (dF s.ah s.aO s.aG s.au s.bD s.c))]))∧((s.rows.length+List.length ([((dS (iw s.ah s.c)),iY s.au (0:Int) (dF s.ah s.aO s.aG s.au s.bD s.c))])+List.length ([((dS (iw s.ah s.c)),iY s.au (1:Int) (dF s.ah s.aO s.aG s.au s.bD s.c))]):Nat):Int)*32≤2^47∧((s.rows.length+List.length ([((dS (iw s.ah s.c)),iY s.au (0:Int) (dF s.ah s.aO s.aG s.au s.bD s.c))])+List.length ([((dS (iw s.ah s.c)),iY s.au (1:Int) (dF s.ah s.aO s.aG s.au s.bD s.c))]):Nat):Int)<2^62) (.req (Zv s.au (2:Int) (dF s.ah s.aO s.aG s.au s.bD s.c)) (.br (decide ((List.length (iY s.au (2:Int) (dF s.ah s.aO s.aG s.au s.bD s.c)):Int)>0)) (.req (0≤s.c∧s.c<(s.ah.length:Int)) (.req (0+(s.rows.length+List.length ([((dS (iw s.ah s.c)),iY s.au (0:Int) (dF s.ah s.aO s.aG s.au s.bD s.c))])+List.length ([((dS (iw s.ah s.c)),iY s.au (1:Int) (dF s.ah s.aO s.aG s.au s.bD s.c))]))=List.length ((s.rows++([((dS (iw s.ah s.c)),iY s.au (0:Int) (dF s.ah s.aO s.aG s.au s.bD s.c))]))++([((dS (iw s.ah s.c)),iY s.au (1:Int) (dF s.ah s.aO s.aG s.au s.bD s.c))]))∧((s.rows.length+List.length ([((dS (iw s.ah s.c)),iY s.au (0:Int) (dF s.ah s.aO s.aG s.au s.bD s.c))])+List.length ([((dS (iw s.ah s.c)),iY s.au (1:Int) (dF s.ah s.aO s.aG s.au s.bD s.c))])+List.length ([((dS (iw s.ah s.c)),iY s.au (2:Int) (dF s.ah s.aO s.aG s.au s.bD s.c))]):Nat):Int)*32≤2^47∧((s.rows.length+List.length ([((dS (iw s.ah s.c)),iY s.au (0:Int) (dF s.ah s.aO s.aG s.au s.bD s.c))])+List.length ([((dS (iw s.ah s.c)),iY s.au (1:Int) (dF s.ah s.aO s.aG s.au s.bD s.c))])+List.length ([((dS (iw s.ah s.c)),iY s.au (2:Int) (dF s.ah s.aO s.aG s.au s.bD s.c))]):Nat):Int)<2^62) (.req (0=0∧(s.rows.length+List.length ([((dS (iw s.ah s.c)),iY s.au (0:Int) (dF s.ah s.aO s.aG s.au s.bD s.c))])+List.length ([((dS (iw s.ah s.c)),iY s.au (1:Int) (dF s.ah s.aO s.aG s.au s.bD s.c))])+List.length ([((dS (iw s.ah s.c)),iY s.au (2:Int) (dF s.ah s.aO s.aG s.au s.bD s.c))]))=List.length (((s.rows++([((dS (iw s.ah s.c)),iY s.au (0:Int) (dF s.ah s.aO s.aG s.au s.bD s.c))]))++([((dS (iw s.ah s.c)),iY s.au (1:Int) (dF s.ah s.aO s.aG s.au s.bD s.c))]))++([((dS (iw s.ah s.c)),iY s.au (2:Int) (dF s.ah s.aO s.aG s.au s.bD s.c))]))) (.ok (.next {s with c:=(aSe (s.c+1)),below:=(dF s.ah s.aO s.aG s.au s.bD s.c),rows:=(((s.rows++([((dS (iw s.ah s.c)),iY s.au (0:Int) (dF s.ah s.aO s.aG s.au s.bD s.c))]))++([((dS (iw s.ah s.c)),iY s.au (1:Int) (dF s.ah s.aO s.aG s.au s.bD s.c))]))++([((dS (iw s.ah s.c)),iY s.au (2:Int) (dF s.ah s.aO s.aG s.au s.bD s.c))]))}))))) (.req (0=0∧(s.rows.length+List.length ([((dS (iw s.ah s.c)),iY s.au (0:Int) (dF s.ah s.aO s.aG s.au s.bD s.c))])+List.length ([((dS (iw s.ah s.c)),iY s.au (1:Int) (dF s.ah s.aO s.aG s.au s.bD s.c))]))=List.length ((s.rows++([((dS (iw s.ah s.c)),iY s.au (0:Int) (dF s.ah s.aO s.aG s.au s.bD s.c))]))++([((dS (iw s.ah s.c)),iY s.au (1:Int) (dF s.ah s.aO s.aG s.au s.bD s.c))]))) (.ok (.next {s with c:=(aSe (s.c+1)),below:=(dF s.ah s.aO s.aG s.au s.bD s.c),rows:=((s.rows++([((dS (iw s.ah s.c)),iY s.au (0:Int) (dF s.ah s.aO s.aG s.au s.bD s.c))]))++([((dS (iw s.ah s.c)),iY s.au (1:Int) (dF s.ah s.aO s.aG s.au s.bD s.c))]))}))))))) (.req (Zv s.au (2:Int) (dF s.ah s.aO s.aG s.au s.bD s.c)) (.br (decide ((List.length (iY s.au (2:Int) (dF s.ah s.aO s.aG s.au s.bD s.c)):Int)>0)) (.req (0≤s.c∧s.c<(s.ah.length:Int)) (.req (0+(s.rows.length+List.length ([((dS (iw s.ah s.c)),iY s.au (0:Int) (dF s.ah s.aO s.aG s.au s.bD s.c))]))=List.length (s.rows++([((dS (iw s.ah s.c)),iY s.au (0:Int) (dF s.ah s.aO s.aG s.au s.bD s.c))]))∧((s.rows.length+List.length ([((dS (iw s.ah s.c)),iY s.au (0:Int) (dF s.ah s.aO s.aG s.au s.bD s.c))])+List.length ([((dS (iw s.ah s.c)),iY s.au (2:Int) (dF s.ah s.aO s.aG s.au s.bD s.c))]):Nat):Int)*32≤2^47∧((s.rows.length+List.length ([((dS (iw s.ah s.c)),iY s.au (0:Int) (dF s.ah s.aO s.aG s.au s.bD s.c))])+List.length ([((dS (iw s.ah s.c)),iY s.au (2:Int) (dF s.ah s.aO s.aG s.au s.bD s.c))]):Nat):Int)<2^62) (.req (0=0∧(s.rows.length+List.length ([((dS (iw s.ah s.c)),iY s.au (0:Int) (dF s.ah s.aO s.aG s.au s.bD s.c))])+List.length ([((dS (iw s.ah s.c)),iY s.au (2:Int) (dF s.ah s.aO s.aG s.au s.bD s.c))]))=List.length ((s.rows++([((dS (iw s.ah s.c)),iY s.au (0:Int) (dF s.ah s.aO s.aG s.au s.bD s.c))]))++([((dS (iw s.ah s.c)),iY s.au (2:Int) (dF s.ah s.aO s.aG s.au s.bD s.c))]))) (.ok (.next {s with c:=(aSe (s.c+1)),below:=(dF s.ah s.aO s.aG s.au s.bD s.c),rows:=((s.rows++([((dS (iw s.ah s.c)),iY s.au (0:Int) (dF s.ah s.aO s.aG s.au s.bD s.c))]))++([((dS (iw s.ah s.c)),iY s.au (2:Int) (dF s.ah s.aO s.aG s.au s.bD s.c))]))}))))) (.req (0=0∧(s.rows.length+List.length ([((dS (iw s.ah s.c)),iY s.au (0:Int) (dF s.ah s.aO s.aG s.au s.bD s.c))]))=List.length (s.rows++([((dS (iw s.ah s.c)),iY s.au (0:Int) (dF s.ah s.aO s.aG s.au s.bD s.c))]))) (.ok (.next {s with c:=(aSe (s.c+1)),below:=(dF s.ah s.aO s.aG s.au s.bD s.c),rows:=(s.rows++([((dS (iw s.ah s.c)),iY s.au (0:Int) (dF s.ah s.aO s.aG s.au s.bD s.c))]))}))))))))) (.req (Zv s.au (1:Int) (dF s.ah s.aO s.aG s.au s.bD s.c)) (.br (decide ((List.length (iY s.au (1:Int) (dF s.ah s.aO s.aG s.au s.bD s.c)):Int)>0)) (.req (0≤s.c∧s.c<(s.ah.length:Int)) (.req (0+(s.rows.length)=s.rows.length∧((s.rows.length+List.length ([((dS (iw s.ah s.c)),iY s.au (1:Int) (dF s.ah s.aO s.aG s.au s.bD s.c))]):Nat):Int)*32≤2^47∧((s.rows.length+List.length ([((dS (iw s.ah s.c)),iY s.au (1:Int) (dF s.ah s.aO s.aG s.au s.bD s.c))]):Nat):Int)<2^62) (.req (Zv s.au (2:Int) (dF s.ah s.aO s.aG s.au s.bD s.c)) (.br (decide ((List.length (iY s.au (2:Int) (dF s.ah s.aO s.aG s.au s.bD s.c)):Int)>0)) (.req (0≤s.c∧s.c<(s.ah.length:Int)) (.req (0+(s.rows.length+List.length ([((dS (iw s.ah s.c)),iY s.au (1:Int) (dF s.ah s.aO s.aG s.au s.bD s.c))]))=List.length (s.rows++([((dS (iw s.ah s.c)),iY s.au (1:Int) (dF s.ah s.aO s.aG s.au s.bD s.c))]))∧((s.rows.length+List.length ([((dS (iw s.ah s.c)),iY s.au (1:Int) (dF s.ah s.aO s.aG s.au s.bD s.c))])+List.length ([((dS (iw s.ah s.c)),iY s.au (2:Int) (dF s.ah s.aO s.aG s.au s.bD s.c))]):Nat):Int)*32≤2^47∧((s.rows.length+List.length ([((dS (iw s.ah s.c)),iY s.au (1:Int) (dF s.ah s.aO s.aG s.au s.bD s.c))])+List.length ([((dS (iw s.ah s.c)),iY s.au (2:Int) (dF s.ah s.aO s.aG s.au s.bD s.c))]):Nat):Int)<2^62) (.req (0=0∧(s.rows.length+List.length ([((dS (iw s.ah s.c)),iY s.au (1:Int) (dF s.ah s.aO s.aG s.au s.bD s.c))])+List.length ([((dS (iw s.ah s.c)),iY s.au (2:Int) (dF s.ah s.aO s.aG s.au s.bD s.c))]))=List.length ((s.rows++([((dS (iw s.ah s.c)),iY s.au (1:Int) (dF s.ah s.aO s.aG s.au s.bD s.c))]))++([((dS (iw s.ah s.c)),iY s.au (2:Int) (dF s.ah s.aO s.aG s.au s.bD s.c))]))) (.ok (.next {s with c:=(aSe (s.c+1)),below:=(dF s.ah s.aO s.aG s.au s.bD s.c),rows:=((s.rows++([((dS (iw s.ah s.c)),iY s.au (1:Int) (dF s.ah s.aO s.aG s.au s.bD s.c))]))++([((dS (iw s.ah s.c)),iY s.au (2:Int) (dF s.ah s.aO s.aG s.au s.bD s.c))]))}))))) (.req (0=0∧(s.rows.length+List.length ([((dS (iw s.ah s.c)),iY s.au (1:Int) (dF s.ah s.aO s.aG s.au s.bD s.c))]))=List.length (s.rows++([((dS (iw s.ah s.c)),iY s.au (1:Int) (dF s.ah s.aO s.aG s.au s.bD s.c))]))) (.ok (.next {s with c:=(aSe (s.c+1)),below:=(dF s.ah s.aO s.aG s.au s.bD s.c),rows:=(s.rows++([((dS (iw s.ah s.c)),iY s.au (1:Int) (dF s.ah s.aO s.aG s.au s.bD s.c))]))}))))))) (.req (Zv s.au (2:Int) (dF s.ah s.aO s.aG s.au s.bD s.c)) (.br (decide ((List.length (iY s.au (2:Int) (dF s.ah s.aO s.aG s.au s.bD s.c)):Int)>0)) (.req (0≤s.c∧s.c<(s.ah.length:Int)) (.req (0+(s.rows.length)=s.rows.length∧((s.rows.length+List.length ([((dS (iw s.ah s.c)),iY s.au (2:Int) (dF s.ah s.aO s.aG s.au s.bD s.c))]):Nat):Int)*32≤2^47∧((s.rows.length+List.length ([((dS (iw s.ah s.c)),iY s.au (2:Int) (dF s.ah s.aO s.aG s.au s.bD s.c))]):Nat):Int)<2^62) (.req (0=0∧(s.rows.length+List.length ([((dS (iw s.ah s.c)),iY s.au (2:Int) (dF s.ah s.aO s.aG s.au s.bD s.c))]))=List.length (s.rows++([((dS (iw s.ah s.c)),iY s.au (2:Int) (dF s.ah s.aO s.aG s.au s.bD s.c))]))) (.ok (.next {s with c:=(aSe (s.c+1)),below:=(dF s.ah s.aO s.aG s.au s.bD s.c),rows:=(s.rows++([((dS (iw s.ah s.c)),iY s.au (2:Int) (dF s.ah s.aO s.aG s.au s.bD s.c))]))}))))) (.rl s.rows (.ok (.next {s with c:=(aSe (s.c+1)),below:=(dF s.ah s.aO s.aG s.au s.bD s.c)}))))))))) (.rl s.rows (.ok (.stop (.exit 0) s)))
abbrev aNE (s:yM):=(au4 s).rd s
def aAJ (s:yM):Prop:=s.st=.ready∧s.c=0∧s.rows=[]∧fH s.ah s.aO s.aG s.au s.bD=true∧s.n=(s.ah.length:Int)
def alK (s:yM):Prop:=s.st=.ready∧(0≤s.c∧s.c≤s.n)∧s.rows=jZ s.ah s.au s.c.toNat∧fH s.ah s.aO s.aG s.au s.bD=true∧s.n=(s.ah.length:Int)
def agL (s:yM):Nat:=(s.n-s.c).toNat
def aI8 (x:Ex) (_ s':yM):Prop:=x=.exit 0∧s'.rows=jZ s'.ah s'.au s'.ah.length
theorem aRe:∀s,aAJ s→alK s:=by
 intro s h;obtain ⟨h0,h1,h2,h3,h4⟩:=h;exact ⟨h0,by omega,by rw [h1,h2];rfl,h3,h4⟩
theorem aLo (s:yM) (hI:alK s):bJ (λs'=>alK s'∧agL s'<agL s) (λx s'=>aI8 x s s') (aNE s):=by
 unfold aNE au4;dsimp only [T.rd,T.rl];obtain ⟨h0,⟨h1,h2⟩,h3,h4,h5⟩:=hI;refine ai (λc1=>?_) (λc1=>?_)
 rotate_left
 ·have c1:s.n≤s.c:=by simpa using c1
  exact ⟨rfl,by rw [h3,show s.c.toNat=s.ah.length by omega]⟩
 have c1:s.c<s.n:=by simpa using c1
 have hl:=(fK.1 h4).1
 rw [aH (x:=s.c+1)]
 have eb:dF s.ah s.aO s.aG s.au s.bD s.c=uw s.ah s.au s.c s.au.length:=by
  unfold dF;rw [if_pos ⟨h4,h1,by omega⟩]
 rw [eb]
 have fin:∀r:List Rw,r=jZ s.ah s.au s.c.toNat++(rowP s.ah s.au s.c 0++rowP s.ah s.au s.c 1++rowP s.ah s.au s.c 2)→r=jZ s.ah s.au (s.c+1).toNat:=λr hr=>by
  rw [hr,show (s.c+1).toNat=s.c.toNat+1 by omega,jZ,Int.toNat_of_nonneg h1]
  rfl
 refine ai (λc2=>?_) (λc2=>?_)<;>refine ai (λc3=>?_) (λc3=>?_)<;>refine ai (λc4=>?_) (λc4=>?_)
 all_goals
  refine ⟨⟨h0,⟨by simp only;omega,by simp only;omega⟩,?_,h4,h5⟩,by simp only [agL];omega⟩
  simp only [decide_eq_true_eq,decide_eq_false_iff_not] at c2 c3 c4;refine fin _ ?_;simp only [h3,rowP]
  first|rw [if_pos (by omega)] |rw [if_neg (by omega)]
  first|rw [if_pos (by omega)] |rw [if_neg (by omega)]
  first|rw [if_pos (by omega)] |rw [if_neg (by omega)]
  simp only [List.append_assoc,List.nil_append,List.append_nil]
def aeP:bK yM:=⟨5,22,[0,7,8],[.nc 1 0 107 wE,.pc 2 0 aSg,.pk 0],aRX,aRJ,λv b=>⟨gI (v.getD 1 .junk),gI (v.getD 2 .junk),aU dY (bn (aT b 0) 0),aU .str (bn (aT b 0) 1),aU fC (bn (aT b 0) 2),aU dP (bn (aT b 0) 3),aU fD (bn (aT b 0) 4),aU aSg (bn (aT b 2) 0),aU dY (bn (aT b 3) 0),aU .str (bn (aT b 3) 1),aU fC (bn (aT b 3) 2),aU dP (bn (aT b 3) 3),aU fD (bn (aT b 3) 4),iW wE (aT b 5),.ready⟩,au4,λs r=> {r with n:=s.n,ah:=s.ah,aO:=s.aO,aG:=s.aG,au:=s.au,bD:=s.bD,di:=s.di,gB:=s.gB,dG:=s.dG,dN:=s.dN,jF:=s.jF,st:=s.st},λs=> {s with st:=.ready},λx s=> {s with st:=(match x with| .exit 0=> .ready|_=> .ready)},[.exit 0],aAJ,alK,agL⟩
abbrev Gt:=aeP.run
abbrev aIt:=aeP.jf
abbrev aOj:=aeP.q
def Iq:Specs:=aW [(53,Ot),(55,WY),(56,aeG),(57,Oy),(58,aen)]
theorem Ns:∀g S,Iq g=some S→Valid Tryz.prog aP g S:=aS (l:=[(53,Ot),(55,WY),(56,aeG),(57,Oy),(58,aen)]) ⟨al6,au1,aEC,ama,aEl,trivial⟩
def aqV:Hand:=inl Tryz.prog aP Iq (jT Tryz.prog aP (Iq) 20 2) 9
theorem aBD:dn Tryz.prog aP aqV:=bV Ns (dD Ns) 9
theorem aLJ (s:yM) (hI:alK s):(au4 s).all (λ_=>True):=by
 refine ⟨λc1=>⟨?_,λc2=>⟨?_,?_,?_,λc3=>⟨?_,?_,?_,λc4=>⟨?_,?_,?_,trivial⟩,λc4=>⟨?_,trivial⟩⟩,λc3=>⟨?_,λc5=>⟨?_,?_,?_,trivial⟩,λc5=>⟨?_,trivial⟩⟩⟩,λc2=>⟨?_,λc6=>⟨?_,?_,?_,λc7=>⟨?_,?_,?_,trivial⟩,λc7=>⟨?_,trivial⟩⟩,λc6=>⟨?_,λc8=>⟨?_,?_,?_,trivial⟩,λc8=>⟨aSf,trivial⟩⟩⟩⟩,λc1=>⟨aSf,trivial⟩⟩
 all_goals ((obtain ⟨h0,⟨h1,h2⟩,h3,h4,h5⟩:=hI;have hl:=(fK.1 h4).1;(try simp only [decide_eq_true_eq] at c1);have hr:s.rows.length≤3*s.c.toNat:=(by rw [h3];exact wJ);have eb:dF s.ah s.aO s.aG s.au s.bD s.c=uw s.ah s.au s.c s.au.length:=(by unfold dF;rw [if_pos ⟨h4,h1,by omega⟩]);first|omega|((try simp only);rw [eb];refine ⟨by decide,Nat.le_trans Og (by omega),λk hk=>ZM hk⟩) |(refine ⟨by omega,?_,?_⟩<;>simp only [List.length_cons,List.length_nil]<;>omega) |(simp only [List.length_append,List.length_cons,List.length_nil];omega) |exact ⟨rfl,by simp⟩ |exact ⟨rfl,rfl⟩))
theorem aBk:aeP.Ok:={}
theorem aA6:aeP.Pf (aI8):=⟨aRe,λs h=>by
 obtain ⟨n,c,ah,aO,aG,au,bD,below,di,gB,dG,dN,jF,rows,st⟩:=s
 have e:st=.ready:=h.1
 subst e;rfl,aLo,aLJ⟩
theorem aES:bC Tryz.prog aP (AN 5) (.loop aiN) aeP.lp:=bK.snd aBk aA6 (bI (Γ:=Iq) (K:=aqV) (L:=(ql Tryz.prog aP Iq aqV 20 2)) Ns aBD aiN (λb _=>dA Ns aBD 20 2 b)) (λs=>by kernel_rfl)
theorem aE3 (s:yM) (hE:aAJ s):∃s',alK s'∧aI8 (aIt s) s' (Gt s):=bK.fin aBk aA6 s hE
def ai8:List LV→T LV
 | [.agg [.xl (.pair .str (.pair (.int .i64) (.pair (.int .i64) (.pair (.int .i64) (.pair (.pair (.int .i64) (.int .i64)) (.pair (.int .i64) (.pair (.int .i64) (.pair (.int .i64) (.pair (.int .i64) (.int .i64)))))))))) cs,.xl (.str) os,.xl (.pair .str (.pair (.int .i64) (.pair (.int .i64) (.int .i64)))) ks,.xl (.pair .str (.pair (.int .i64) (.pair (.int .i64) (.pair (.int .i64) (.pair (.int .i64) (.pair (.int .i64) (.pair (.int .i64) (.int .i64)))))))) gs,.xl (.pair .str (.int .i64)) bs]]=> .ok (.iU [.xl wE (iG cs os ks gs bs),.v (.int .i64 (BL cs os ks gs bs))])
 |_=> .no
def qx:List LV→T LV:=gZ Tryz.prog Tryz.f24.params.toList ai8
def aBM:Hand:=inl Tryz.prog aP Iq (dK 101 5 1 (aeP.lp) (jT Tryz.prog aP (Iq) 20 2)) 9
theorem aM7:dn Tryz.prog aP aBM:=bV Ns (bg Tryz.func101 rfl (by kernel_rfl) aES (dD Ns)) 9
theorem axT (cs:List Cd) (os:List ByteArray) (ks:List Ko) (gs:List Ch) (bs:List Ba):letI a:=(Gt (⟨(cs.length:Int),(0:Int),cs,os,ks,gs,bs,([]:List Int),cs,os,ks,gs,bs,([]:List Rw),.ready⟩:yM));cO Tryz.prog aP (Iq) aBM ay Tryz.f24 [.agg [.xl dY cs,.xl .str os,.xl fC ks,.xl dP gs,.xl fD bs]]=.br (!(fH cs os ks gs bs)) (.ok (.iU [.xl wE ([]:List Rw),.v (.int .i64 1)])) (.req (0=0∧0=List.length ([]:List Rw)) (.req (aOj (⟨(cs.length:Int),(0:Int),cs,os,ks,gs,bs,([]:List Int),cs,os,ks,gs,bs,([]:List Rw),.ready⟩:yM)) (.req (0+(List.length a.rows)≤List.length a.rows) (.ok (.iU [.xl wE ((a.rows.drop 0).take (List.length a.rows)),.v (.int .i64 0)]))))):=by kernel_rfl
theorem Gl:Valid Tryz.prog aP 24 qx:=aI Tryz.func24 rfl Ns aM7 (bf (by kernel_rfl)) (λargs lv h=>by
 unfold ai8 at h;split at h
 ·simp only [canL,canX]
  rw [axT];rename_i cs os ks gs bs;obtain rfl:=h;refine ⟨λc=>?_,λc=>?_⟩
  ·have c:fH cs os ks gs bs=false:=by simpa using c
   show LV.iU _=_
   unfold iG BL;rw [c];rfl
  ·have c:fH cs os ks gs bs=true:=by simpa using c
   have hE:aAJ ⟨(cs.length:Int),(0:Int),cs,os,ks,gs,bs,([]:List Int),cs,os,ks,gs,bs,([]:List (Int×(List Int))),.ready⟩:=⟨rfl,rfl,rfl,c,rfl⟩
   obtain ⟨s',_,q1,q2⟩:=aE3 _ hE
   have q2:(Gt ⟨(cs.length:Int),(0:Int),cs,os,ks,gs,bs,([]:List Int),cs,os,ks,gs,bs,([]:List (Int×(List Int))),.ready⟩).rows=jZ cs gs cs.length:=q2
   refine ⟨aSf,⟨hE,rfl,rfl⟩,by omega,?_⟩
   show LV.iU [LV.xl _ _,_]=_
   rw [List.drop_zero,List.take_length,q2];unfold iG BL;rw [if_pos c,if_pos c]
 ·cases h)
def asX:List LV→T LV
 | [.v (.int .i64 n),.v (.int .i64 a),.v (.int .i64 b)]=> .ok (.v (.bool (inB n a b)))
 |_=> .no
def ZX:List LV→T LV:=gZ Tryz.prog Tryz.f68.params.toList asX
def aB5:Specs:=aW []
theorem aNf:∀g S,aB5 g=some S→Valid Tryz.prog aP g S:=aS (l:=[]) trivial
theorem aHD (n a b:Int):cO Tryz.prog aP (aB5) dR ay Tryz.f68 [.v (.int .i64 n),.v (.int .i64 a),.v (.int .i64 b)]=.ok (.v (.bool ((decide (n≥a))&&(decide (n≤b))))):=by kernel_rfl
theorem aAQ:Valid Tryz.prog aP 68 ZX:=aI Tryz.func68 rfl aNf aA (bf (by kernel_rfl)) (λargs lv h=>by
 unfold asX at h;split at h
 ·simp only [canL,canX]
  rw [aHD];exact h
 ·cases h)
def asF:List LV→T LV
 | [.v (.agg ⟨[.bool wa,.int .i64 ow,.int .i64 le,.int .i64 ra]⟩)]=> .ok (.v (.bool (dmV (wa,ow,le,ra))))
 |_=> .no
def asn:List LV→T LV:=gZ Tryz.prog Tryz.f70.params.toList asF
def aB4:Specs:=aW [(68,ZX)]
theorem aNe:∀g S,aB4 g=some S→Valid Tryz.prog aP g S:=aS (l:=[(68,ZX)]) ⟨aAQ,trivial⟩
theorem aHl (wa:Bool) (ow le ra:Int):cO Tryz.prog aP (aB4) dR ay Tryz.f70 [.v (.agg #[.bool wa,.int .i64 ow,.int .i64 le,.int .i64 ra])]=.ok (.v (.bool ((inB ow (0:Int) (1000000000:Int))&&((inB le (0:Int) (1000000:Int))&&(inB ra (1:Int) (9:Int)))))):=by kernel_rfl
theorem aKS:Valid Tryz.prog aP 70 asn:=aI Tryz.func70 rfl aNe aA (bf (by kernel_rfl)) (λargs lv h=>by
 unfold asF at h;split at h
 ·simp only [canL,canX]
  rw [aHl];exact h
 ·cases h)
structure oJ where
 cs:List Cd
 os:List ByteArray
 ks:List Ko
 gs:List Ch
 bs:List Ba
 l:List Le
 d:List Dm
 t:Int
 od:List Int
 fJ:List Ra
 r:Bool
 n:Int
 m:List Le
 k:Int
 i:Int
def aQN (s:oJ):List LV:=[.xq 9 (λj=>([.xl dY s.cs,.xl .str s.os,.xl fC s.ks,.xl dP s.gs,.xl fD s.bs,.xl kY s.l,.xl jr s.d,.v (.int .i64 s.t),.xl aSg s.od]:List LV).getD j .junk),.xl yu s.fJ,.v (.bool s.r),.v (.int .i64 s.n),.xl kY s.m,.v (.int .i64 s.k),.v (.int .i64 s.i)]
def aPv (_:oJ):List aZ:=[]
def FB:Code:=((ax (Tryz.f35.body.getD .skip))[0]?).getD .skip
def afF (s:oJ):T (Rd oJ):=
 .br (decide (s.i<s.k)) (.req (0≤s.i∧s.i<(s.m.length:Int)) (.br (decide ((gV s.m s.i).2.1≥s.n)) (.ok (.stop (.ret) {s with r:=false})) (.ok (.next {s with i:=(aSe (s.i+1))})))) (.ok (.stop (.exit 0) s))
abbrev aCW (s:oJ):=(afF s).rd s
def Pm (s:oJ) (j:Int):Bool:=decide ((gV s.m j).2.1<s.n)
def akL (s:oJ):Prop:=s.i=0∧0≤s.k∧s.k≤1000∧s.k=(s.m.length:Int)
def Tv (s:oJ):Prop:=0≤s.i∧s.i≤s.k∧s.k≤1000∧(s.k=(s.m.length:Int))∧∀j:Nat,(j:Int)<s.i→Pm s j=true
def VG (s:oJ):Nat:=(s.k-s.i).toNat
def atO (x:Ex) (_ s':oJ):Prop:=(x=.exit 0∧∀j:Nat,(j:Int)<s'.k→Pm s' j=true)∨(x=.ret∧s'.r=false∧∃j:Nat,(j:Int)<s'.k∧Pm s' j=false)
theorem aNO:∀s,akL s→Tv s:=by
 intro s h;obtain ⟨h0,h1,h2,h3⟩:=h;exact ⟨by omega,by omega,h2,h3,λj hj=>by omega⟩
theorem aID (s:oJ) (hI:Tv s):bJ (λs'=>Tv s'∧VG s'<VG s) (λx s'=>atO x s s') (aCW s):=by
 unfold aCW afF;dsimp only [T.rd,T.rl];obtain ⟨h0,h1,h2,h3,h4⟩:=hI;refine ai (λc1=>ai (λc2=>?_) (λc2=>?_)) (λc1=>?_)
 ·have c1:s.i<s.k:=by simpa using c1
  refine .inr ⟨rfl,rfl,s.i.toNat,by simp only;omega,?_⟩
  rw [Int.toNat_of_nonneg (by omega)]
  have hg:Pm s s.i=false:=by unfold Pm;(simp only [decide_eq_true_eq,decide_eq_false_iff_not] at c2⊢;omega)
  exact hg
 ·have c1:s.i<s.k:=by simpa using c1
  have hg:Pm s s.i=true:=by unfold Pm;(simp only [decide_eq_true_eq,decide_eq_false_iff_not] at c2⊢;omega)
  rw [aH (x:=s.i+1)];refine ⟨⟨by simp only;omega,by simp only;omega,h2,h3,λj hj=>?_⟩,by simp only [VG];omega⟩
  by_cases hji:(j:Int)<s.i
  ·exact h4 j hji
  ·have:(j:Int)=s.i:=by simp only at hj;omega
   rw [this];exact hg
 ·have c1:s.k≤s.i:=by simpa using c1
  exact .inl ⟨rfl,λj hj=>h4 j (by omega)⟩
def JK:bK oJ:=⟨0,108,[0,1,6,9,67,68,69],[],aQN,aPv,λv _=>⟨aU dY (pR (v.getD 0 .junk) 0),aU .str (pR (v.getD 0 .junk) 1),aU fC (pR (v.getD 0 .junk) 2),aU dP (pR (v.getD 0 .junk) 3),aU fD (pR (v.getD 0 .junk) 4),aU kY (pR (v.getD 0 .junk) 5),aU jr (pR (v.getD 0 .junk) 6),gI (pR (v.getD 0 .junk) 7),aU aSg (pR (v.getD 0 .junk) 8),aU yu (v.getD 1 .junk),vW (v.getD 2 .junk),gI (v.getD 3 .junk),aU kY (v.getD 4 .junk),gI (v.getD 5 .junk),gI (v.getD 6 .junk)⟩,afF,λs r=> {r with cs:=s.cs,os:=s.os,ks:=s.ks,gs:=s.gs,bs:=s.bs,l:=s.l,d:=s.d,t:=s.t,od:=s.od,fJ:=s.fJ,n:=s.n,m:=s.m,k:=s.k},λs=>s,λ_ s=>s,[.ret,.exit 0],akL,Tv,VG⟩
abbrev Ag:=JK.run
abbrev air:=JK.jf
abbrev aKh:=JK.q
theorem aGn (s:oJ) (hI:Tv s):(afF s).all (λ_=>True):=by
 refine ⟨λc1=>⟨?_,λ_=>trivial,λ_=>trivial⟩,λ_=>trivial⟩
 ·(obtain ⟨h0,h1,h2,h3,h4⟩:=hI;simp at c1;omega)
def ahe:Specs:=aW [(24,qx),(62,OH),(68,ZX),(69,ZV),(70,asn)]
theorem aq3:∀g S,ahe g=some S→Valid Tryz.prog aP g S:=aS (l:=[(24,qx),(62,OH),(68,ZX),(69,ZV),(70,asn)]) ⟨Gl,ami,aAQ,aAO,aKS,trivial⟩
theorem apx:JK.Ok:={}
theorem aog:JK.Pf (atO):=⟨aNO,λ_ _=>rfl,aID,aGn⟩
theorem awl:bC Tryz.prog aP (AN 0) (.loop FB) JK.lp:=bK.snd apx aog (aQ (Γ:=ahe) (K:=dR) (L:=ay) aq3 aA FB (λb hb=>by rw [show ax FB=[] by kernel_rfl] at hb;cases hb)) (λs=>by kernel_rfl)
theorem aAf (s:oJ) (hE:akL s):∃s',Tv s'∧atO (air s) s' (Ag s):=bK.fin apx aog s hE
structure rG where
 cs:List Cd
 os:List ByteArray
 ks:List Ko
 gs:List Ch
 bs:List Ba
 l:List Le
 d:List Dm
 t:Int
 od:List Int
 rs:List Ra
 r:Bool
 m:List Ch
 k:Int
 i:Int
def aQM (s:rG):List LV:=[.xq 9 (λj=>([.xl dY s.cs,.xl .str s.os,.xl fC s.ks,.xl dP s.gs,.xl fD s.bs,.xl kY s.l,.xl jr s.d,.v (.int .i64 s.t),.xl aSg s.od]:List LV).getD j .junk),.xl yu s.rs,.v (.bool s.r),.xl dP s.m,.v (.int .i64 s.k),.v (.int .i64 s.i)]
def aPu (_:rG):List aZ:=[]
def Fz:Code:=((ax (Tryz.f35.body.getD .skip))[1]?).getD .skip
def afE (s:rG):T (Rd rG):=
 .br (decide (s.i<s.k)) (.req (0≤s.i∧s.i<(s.m.length:Int)) (.req (0≤s.i∧s.i<(s.rs.length:Int)) (.br (!(P8 (bG s.m s.i).2.2.1 (bG s.m s.i).2.2.2.1 (bG s.m s.i).2.2.2.2.1 (bG s.m s.i).2.2.2.2.2.1 (bG s.m s.i).2.2.2.2.2.2.1 (jd s.rs s.i).1 (jd s.rs s.i).2)) (.ok (.stop (.ret) {s with r:=false})) (.req (0≤s.i∧s.i<(s.d.length:Int)) (.br (!(dmV (jG s.d s.i))) (.ok (.stop (.ret) {s with r:=false})) (.ok (.next {s with i:=(aSe (s.i+1))}))))))) (.ok (.stop (.exit 2) s))
abbrev aCV (s:rG):=(afE s).rd s
def Gf (s:rG) (j:Int):Bool:=YF (bG s.m j) (jd s.rs j)&&dmV (jG s.d j)
def akK (s:rG):Prop:=s.i=0∧0≤s.k∧s.k≤1000∧s.k=(s.m.length:Int)∧s.rs.length=s.m.length∧s.d.length=s.m.length
def Tt (s:rG):Prop:=0≤s.i∧s.i≤s.k∧s.k≤1000∧(s.k=(s.m.length:Int)∧s.rs.length=s.m.length∧s.d.length=s.m.length)∧∀j:Nat,(j:Int)<s.i→Gf s j=true
def VF (s:rG):Nat:=(s.k-s.i).toNat
def atN (x:Ex) (_ s':rG):Prop:=(x=.exit 2∧∀j:Nat,(j:Int)<s'.k→Gf s' j=true)∨(x=.ret∧s'.r=false∧∃j:Nat,(j:Int)<s'.k∧Gf s' j=false)
theorem aNN:∀s,akK s→Tt s:=by
 intro s h;obtain ⟨h0,h1,h2,h3⟩:=h;exact ⟨by omega,by omega,h2,h3,λj hj=>by omega⟩
theorem aIC (s:rG) (hI:Tt s):bJ (λs'=>Tt s'∧VF s'<VF s) (λx s'=>atN x s s') (aCV s):=by
 unfold aCV afE;dsimp only [T.rd,T.rl];obtain ⟨h0,h1,h2,h3,h4⟩:=hI;refine ai (λc1=>ai (λc2=>?_) (λc2=>ai (λc3=>?_) (λc3=>?_))) (λc1=>?_)
 ·have c1:s.i<s.k:=by simpa using c1
  refine .inr ⟨rfl,rfl,s.i.toNat,by simp only;omega,?_⟩
  rw [Int.toNat_of_nonneg (by omega)]
  have hg:Gf s s.i=false:=by unfold Gf;(unfold YF CV;simp_all)
  exact hg
 ·have c1:s.i<s.k:=by simpa using c1
  refine .inr ⟨rfl,rfl,s.i.toNat,by simp only;omega,?_⟩
  rw [Int.toNat_of_nonneg (by omega)]
  have hg:Gf s s.i=false:=by unfold Gf;(unfold YF CV;simp_all)
  exact hg
 ·have c1:s.i<s.k:=by simpa using c1
  have hg:Gf s s.i=true:=by unfold Gf;(unfold YF CV;simp_all)
  rw [aH (x:=s.i+1)];refine ⟨⟨by simp only;omega,by simp only;omega,h2,h3,λj hj=>?_⟩,by simp only [VF];omega⟩
  by_cases hji:(j:Int)<s.i
  ·exact h4 j hji
  ·have:(j:Int)=s.i:=by simp only at hj;omega
   rw [this];exact hg
 ·have c1:s.k≤s.i:=by simpa using c1
  exact .inl ⟨rfl,λj hj=>h4 j (by omega)⟩
def JJ:bK rG:=⟨0,108,[0,1,6,82,83,84],[],aQM,aPu,λv _=>⟨aU dY (pR (v.getD 0 .junk) 0),aU .str (pR (v.getD 0 .junk) 1),aU fC (pR (v.getD 0 .junk) 2),aU dP (pR (v.getD 0 .junk) 3),aU fD (pR (v.getD 0 .junk) 4),aU kY (pR (v.getD 0 .junk) 5),aU jr (pR (v.getD 0 .junk) 6),gI (pR (v.getD 0 .junk) 7),aU aSg (pR (v.getD 0 .junk) 8),aU yu (v.getD 1 .junk),vW (v.getD 2 .junk),aU dP (v.getD 3 .junk),gI (v.getD 4 .junk),gI (v.getD 5 .junk)⟩,afE,λs r=> {r with cs:=s.cs,os:=s.os,ks:=s.ks,gs:=s.gs,bs:=s.bs,l:=s.l,d:=s.d,t:=s.t,od:=s.od,rs:=s.rs,m:=s.m,k:=s.k},λs=>s,λ_ s=>s,[.ret,.exit 2],akK,Tt,VF⟩
abbrev agk:=JJ.run
abbrev aiq:=JJ.jf
abbrev aKg:=JJ.q
theorem aGm (s:rG) (hI:Tt s):(afE s).all (λ_=>True):=by
 refine ⟨λc1=>⟨?_,?_,λ_=>trivial,λc2=>⟨?_,λ_=>trivial,λ_=>trivial⟩⟩,λ_=>trivial⟩
 all_goals ((obtain ⟨h0,h1,h2,h3,h4⟩:=hI;obtain ⟨h3,h5,h6⟩:=h3;simp at c1;omega))
theorem apw:JJ.Ok:={}
theorem aof:JJ.Pf (atN):=⟨aNN,λ_ _=>rfl,aIC,aGm⟩
theorem awk:bC Tryz.prog aP (AN 0) (.loop Fz) JJ.lp:=bK.snd apw aof (aQ (Γ:=ahe) (K:=dR) (L:=ay) aq3 aA Fz (λb hb=>by rw [show ax Fz=[] by kernel_rfl] at hb;cases hb)) (λs=>by kernel_rfl)
theorem aAe (s:rG) (hE:akK s):∃s',Tt s'∧atN (aiq s) s' (agk s):=bK.fin apw aof s hE
def ajY:List LV→T LV
 | [.xq 9 q0,.xl (.pair (.int .i64) (.int .i64)) rs,.v (.int .i64 n)]=>(match ([q0 0,q0 1,q0 2,q0 3,q0 4,q0 5,q0 6,q0 7,q0 8]:List LV) with
  | [.xl (.pair .str (.pair (.int .i64) (.pair (.int .i64) (.pair (.int .i64) (.pair (.pair (.int .i64) (.int .i64)) (.pair (.int .i64) (.pair (.int .i64) (.pair (.int .i64) (.pair (.int .i64) (.int .i64)))))))))) cs,.xl (.str) os,.xl (.pair .str (.pair (.int .i64) (.pair (.int .i64) (.int .i64)))) ks,.xl (.pair .str (.pair (.int .i64) (.pair (.int .i64) (.pair (.int .i64) (.pair (.int .i64) (.pair (.int .i64) (.pair (.int .i64) (.int .i64)))))))) gs,.xl (.pair .str (.int .i64)) bs,.xl (.pair (.int .i64) (.pair (.int .i64) (.pair (.int .i64) (.pair (.int .i64) (.int .i64))))) l,.xl (.pair .bool (.pair (.int .i64) (.pair (.int .i64) (.int .i64)))) d,.v (.int .i64 t),.xl (.int .i64) _]=> .ok (.v (.bool (P6 cs os ks gs bs l rs d t n)))
  |_=> .no)
 |_=> .no
def aey:List LV→T LV:=gZ Tryz.prog Tryz.f35.params.toList ajY
theorem ayJ (cs:List Cd) (os:List ByteArray) (ks:List Ko) (gs:List Ch) (bs:List Ba) (l:List Le) (d:List Dm) (t:Int) (od:List Int) (rs:List Ra) (n:Int):letI b:=(gs.length:Int);letI c:=(l.length:Int);letI a:=(Ag (⟨cs,os,ks,gs,bs,l,d,t,od,rs,false,b,l,c,(0:Int)⟩:oJ));cO Tryz.prog aP (ahe) dR (λi=>if i=8 then JK.lp else if i=14 then JJ.lp else ay i) Tryz.f35 [.xq 9 (λj=>([.xl dY cs,.xl .str os,.xl fC ks,.xl dP gs,.xl fD bs,.xl kY l,.xl jr d,.v (.int .i64 t),.xl aSg od]:List LV).getD j .junk),.xl yu rs,.v (.int .i64 n)]=.br (((BL cs os ks gs bs) !=0) ||(!(rM l))) (.ok (.v (.bool false))) (.br (((rs.length:Int) !=b) ||(((d.length:Int) !=b) ||((!(inB t (0:Int) (1000000:Int))) ||(!(inB n (1:Int) (999900:Int)))))) (.ok (.v (.bool false))) (.req (aKh (⟨cs,os,ks,gs,bs,l,d,t,od,rs,false,b,l,c,(0:Int)⟩:oJ)) (.br (iV (air (⟨cs,os,ks,gs,bs,l,d,t,od,rs,false,b,l,c,(0:Int)⟩:oJ)) (.ret)) (.ok (.v (.bool a.r))) (.req (aKg (⟨cs,os,ks,gs,bs,l,d,t,od,rs,a.r,gs,b,(0:Int)⟩:rG)) (.br (iV (aiq (⟨cs,os,ks,gs,bs,l,d,t,od,rs,a.r,gs,b,(0:Int)⟩:rG)) (.ret)) (.ok (.v (.bool (agk (⟨cs,os,ks,gs,bs,l,d,t,od,rs,a.r,gs,b,(0:Int)⟩:rG)).r))) (.ok (.v (.bool true)))))))):=by kernel_rfl
theorem aEu:Valid Tryz.prog aP 35 aey:=aI Tryz.func35 rfl aq3 aA (L:=(λi=>if i=8 then JK.lp else if i=14 then JJ.lp else ay i)) (λb hb=>by
 rw [show ax _=[FB,Fz] by kernel_rfl] at hb
 simp only [List.mem_cons,List.not_mem_nil,or_false] at hb;rcases hb with rfl|rfl
 ·exact awl
 ·exact awk) (λargs lv h=>by
 unfold ajY at h;split at h
 ·split at h
  case h_2=>cases h
  rename_i heq0;simp only [canL,canX];rw [rU (n:=9) heq0];simp only [canL,canX];rw [ayJ];rename_i rs n _ cs os ks gs bs l d t od;obtain rfl:=h
  have e0:((BL cs os ks gs bs !=0) || !rM l)=!(fH cs os ks gs bs&&rM l):=by
   unfold BL;cases fH cs os ks gs bs<;>cases rM l<;>rfl
  have e1:(((rs.length:Int) !=(gs.length:Int)) ||(((d.length:Int) !=(gs.length:Int)) ||(!inB t 0 1000000 || !inB n 1 999900)))=!(decide (rs.length=gs.length)&&(decide (d.length=gs.length)&&(inB t 0 1000000&&inB n 1 999900))):=by
   rw [neN,neN,Bool.not_and,Bool.not_and,Bool.not_and]
  rw [e0,e1]
  have bad:P6 cs os ks gs bs l rs d t n=false→LV.v (.bool false)=LV.v (.bool (P6 cs os ks gs bs l rs d t n)):=λh=>by rw [h]
  refine ⟨λc=>bad (by unfold P6;rw [ntW c];rfl),λc=>⟨λc2=>bad (by unfold P6;rw [ntW c2,Bool.false_and,Bool.and_false]),λc2=>?_⟩⟩
  have c:=Qe c
  have c2:=Qe c2
  have c':=c
  have c2':=c2
  simp only [Bool.and_eq_true,decide_eq_true_eq] at c' c2'
  have hl:=zu c'.2
  have hg:=(fK.1 c'.1).1.2.2.2.2.1
  have hE:akL ⟨cs,os,ks,gs,bs,l,d,t,od,rs,false,(gs.length:Int),l,(l.length:Int),0⟩:=⟨rfl,by simp only;omega,by simp only;omega,rfl⟩
  have ev:P6 cs os ks gs bs l rs d t n=(below gs.length l&&Gi gs.length (λj=>YF (bG gs j) (jd rs j)&&dmV (jG d j))):=by
   unfold P6;rw [c,c2,Bool.true_and,Bool.true_and]
  refine ⟨⟨hE,rfl,rfl⟩,?_⟩;obtain ⟨_,_,hq⟩:=aAf _ hE
  have eb:below gs.length l=Gi l.length (λj=>decide ((gV l j).2.1<(gs.length:Int))):=by
   rw [Bool.eq_iff_iff,gm];exact (jm (d:=(0,0,0,0,0)) (p:=λx:Le=>decide (x.2.1<(gs.length:Int)))).symm
  rcases hq with ⟨q1,q2⟩ |⟨q1,q2,j,q3,q4⟩<;>rw [q1]
  rotate_left
  ·rw [q2]
   exact ⟨λ_=>bad (by rw [ev,eb,vN (f:=λj=>decide ((gV l j).2.1<(gs.length:Int))) j q3 q4];rfl),λh=>by cases h⟩
  refine ⟨λh=>(by cases h),λ_=>?_⟩
  have g0:below gs.length l=true:=by rw [eb];exact gm.2 q2
  have hE2:akK ⟨cs,os,ks,gs,bs,l,d,t,od,rs,(Ag ⟨cs,os,ks,gs,bs,l,d,t,od,rs,false,(gs.length:Int),l,(l.length:Int),0⟩).r,gs,(gs.length:Int),0⟩:=⟨rfl,by simp only;omega,by simp only;omega,rfl,c2'.1,c2'.2.1⟩
  refine ⟨⟨hE2,rfl,rfl⟩,?_⟩;obtain ⟨_,_,hq⟩:=aAe _ hE2;rcases hq with ⟨q5,q6⟩ |⟨q5,q6,j,q7,q8⟩<;>rw [q5]
  ·exact ⟨λh=>(by cases h),λ_=>by rw [ev,g0,(gm (f:=λj=>YF (bG gs j) (jd rs j)&&dmV (jG d j))).2 q6];rfl⟩
  ·rw [q6]
   exact ⟨λ_=>bad (by rw [ev,vN (f:=λj=>YF (bG gs j) (jd rs j)&&dmV (jG d j)) j q7 q8,Bool.and_false]),λh=>by cases h⟩
 ·cases h)
structure rD where
 n:Int
 r:Bool
 l:List Int
 m:Int
 k:Int
 seen:List Bool
def aQE (s:rD):List LV:=[.v (.int .i64 s.n),.v (.bool s.r),.os 0 1 0 (s.seen.length),.xl aSg s.l,.v (.int .i64 s.m),.v (.int .i64 s.k)]
def aPm (s:rD):List aZ:=[⟨[],4,.vec .bool s.seen,false⟩]
def Fj:Code:=((ax (Tryz.f94.body.getD .skip))[0]?).getD .skip
def afz (s:rD):T (Rd rD):=
 .br (decide (s.k<s.m)) (.req (0≤s.k∧s.k<(s.l.length:Int)) (.br (decide ((gi s.l s.k)<0)) (.rl s.seen (.ok (.stop (.ret) {s with r:=false}))) (.br (decide ((gi s.l s.k)≥s.n)) (.rl s.seen (.ok (.stop (.ret) {s with r:=false}))) (.req (0≤(gi s.l s.k)∧(gi s.l s.k)<((s.seen.length:Nat):Int)) (.req ((gi s.l s.k).toNat<s.seen.length) (.br (s.seen.getD (gi s.l s.k).toNat (Ty.dflt .bool)) (.rl s.seen (.ok (.stop (.ret) {s with r:=false}))) (.req (0≤(gi s.l s.k)∧(gi s.l s.k)<((s.seen.length:Nat):Int)) (.req ((gi s.l s.k).toNat<s.seen.length) (.req (0=0∧(s.seen.length)=List.length (s.seen.set (gi s.l s.k).toNat true)) (.ok (.next {s with k:=(aSe (s.k+1)),seen:=(s.seen.set (gi s.l s.k).toNat true)}))))))))))) (.rl s.seen (.ok (.stop (.exit 0) s)))
abbrev aCQ (s:rD):=(afz s).rd s
def F9 (s:rD) (j:Int):Bool:=YD s.n (gi s.l j)&&!(((s.l.take j.toNat).map id).contains (id (gi s.l j)))
def auE (s:rD):Prop:=s.k=0∧s.seen=List.replicate s.seen.length false∧s.m=(s.l.length:Int)∧s.m≤1000∧s.n=(s.seen.length:Int)
def Tf (s:rD):Prop:=(0≤s.k∧s.k≤s.m)∧(∀j:Nat,j<s.seen.length→s.seen.getD j false=(s.l.take s.k.toNat).contains (j:Int))∧(∀j:Nat,(j:Int)<s.k→F9 s j=true)∧s.m=(s.l.length:Int)∧s.m≤1000∧s.n=(s.seen.length:Int)
def Vu (s:rD):Nat:=(s.m-s.k).toNat
def aki (x:Ex) (_ s':rD):Prop:=(x=.exit 0∧∀j:Nat,(j:Int)<s'.m→F9 s' j=true)∨(x=.ret∧s'.r=false∧∃j:Nat,(j:Int)<s'.m∧F9 s' j=false)
theorem aMV:∀s,auE s→Tf s:=by
 intro s h;obtain ⟨h0,h1,h2,h3,h4⟩:=h;refine ⟨by omega,λj hj=>?_,λj hj=>by omega,h2,h3,h4⟩
 rw [h1,h0]
 simp [List.getD,List.getElem?_replicate]
 split<;>rfl
theorem aHQ (s:rD) (hI:Tf s):bJ (λs'=>Tf s'∧Vu s'<Vu s) (λx s'=>aki x s s') (aCQ s):=by
 unfold aCQ afz;dsimp only [T.rd,T.rl];obtain ⟨⟨h0,h1⟩,h2,h3,h4,h5,h6⟩:=hI;refine ai (λc1=>?_) (λc1=>?_)
 rotate_left
 ·have c1:s.m≤s.k:=by simpa using c1
  exact .inl ⟨rfl,λj hj=>h3 j (by omega)⟩
 have c1:s.k<s.m:=by simpa using c1
 have bad:F9 s s.k=false→aki .ret s {s with r:=false}:=λhg=> .inr ⟨rfl,rfl,s.k.toNat,by simp only;omega,by rw [Int.toNat_of_nonneg h0];exact hg⟩
 refine ai (λc2=>bad ?_) (λc2=>ai (λc3=>bad ?_) (λc3=>ai (λc4=>bad ?_) (λc4=>?_)))
 ·unfold F9 YD
  simp only [decide_eq_true_eq] at c2;rw [decide_eq_false (by omega)]
  rfl
 ·unfold F9 YD
  simp only [decide_eq_true_eq] at c3;rw [decide_eq_false (p:=gi s.l s.k<s.n) (by omega),Bool.and_false]
  rfl
 all_goals
  have c2:0≤gi s.l s.k:=by simpa using c2
  have c3:gi s.l s.k<s.n:=by simpa using c3
  have e:=h2 (gi s.l s.k).toNat (by omega)
  rw [Int.toNat_of_nonneg c2] at e
 ·have c4:s.seen.getD (gi s.l s.k).toNat false=true:=c4
  unfold F9;rw [List.map_id,id,←e,c4]
  simp
 ·have c4:s.seen.getD (gi s.l s.k).toNat false=false:=c4
  have hg:F9 s s.k=true:=by
   unfold F9;rw [List.map_id,id,←e,c4,Dy.2 ⟨c2,c3⟩];rfl
  rw [aH (x:=s.k+1)];refine ⟨⟨⟨by simp only;omega,by simp only;omega⟩,λj hj=>?_,λj hj=>?_,h4,h5,by simp only [List.length_set];exact h6⟩,by simp only [Vu];omega⟩
  ·simp only [List.length_set] at hj
   simp only;rw [(gi_step h0 (show s.k<s.l.length by omega)).2,List.contains_append,←h2 j hj]
   by_cases hj2:(gi s.l s.k).toNat=j
   ·subst hj2
    rw [Int.toNat_of_nonneg c2]
    simp [List.getD,hj]
   ·have:¬(j:Int)=gi s.l s.k:=by omega
    simp [List.getD,List.getElem?_set_ne hj2,this]
  ·by_cases hji:(j:Int)<s.k
   ·exact h3 j hji
   ·have:(j:Int)=s.k:=by simp only at hj;omega
    rw [this];exact hg
def JF:bK rD:=⟨0,37,[1,4,5,14,15,16],[],aQE,aPm,λv b=>⟨gI (v.getD 0 .junk),vW (v.getD 1 .junk),aU aSg (v.getD 3 .junk),gI (v.getD 4 .junk),gI (v.getD 5 .junk),iW .bool (aT b 0)⟩,afz,λs r=> {r with n:=s.n,l:=s.l,m:=s.m},λs=>s,λ_ s=>s,[.ret,.exit 0],auE,Tf,Vu⟩
abbrev agh:=JF.run
abbrev ail:=JF.jf
abbrev aJ9:=JF.q
theorem aGe (s:rD) (hI:Tf s):(afz s).all (λ_=>True):=by
 refine ⟨λc1=>⟨?_,λc2=>⟨aSf,trivial⟩,λc2=>⟨λc3=>⟨aSf,trivial⟩,λc3=>⟨?_,?_,λc4=>⟨aSf,trivial⟩,λc4=>⟨?_,?_,?_,trivial⟩⟩⟩⟩,λc1=>⟨aSf,trivial⟩⟩
 iterate 5 · (obtain ⟨⟨h0,h1⟩,h2,h3,h4,h5,h6⟩:=hI;simp only [decide_eq_true_eq,decide_eq_false_iff_not] at*;omega)
 ·exact ⟨rfl,by simp⟩
def arC:Specs:=aW []
theorem aB0:∀g S,arC g=some S→Valid Tryz.prog aP g S:=aS (l:=[]) trivial
theorem apq:JF.Ok:={}
theorem an9:JF.Pf (aki):=⟨aMV,λ_ _=>rfl,aHQ,aGe⟩
theorem awf:bC Tryz.prog aP (AN 0) (.loop Fj) JF.lp:=bK.snd apq an9 (aQ (Γ:=arC) (K:=dR) (L:=ay) aB0 aA Fj (λb hb=>by rw [show ax Fj=[] by kernel_rfl] at hb;cases hb)) (λs=>by kernel_rfl)
theorem ay9 (s:rD) (hE:auE s):∃s',Tf s'∧aki (ail s) s' (agh s):=bK.fin apq an9 s hE
def ajU:List LV→T LV
 | [.xl (.int .i64) l,.v (.int .i64 n)]=> .req (n≤1000) (.ok (.v (.bool (oh l n))))
 |_=> .no
def uD:List LV→T LV:=gZ Tryz.prog Tryz.f94.params.toList ajU
theorem ayF (l:List Int) (n:Int):letI a:=List.replicate n.toNat false;letI b:=(l.length:Int);cO Tryz.prog aP (arC) dR (λi=>if i=5 then JF.lp else ay i) Tryz.f94 [.xl aSg l,.v (.int .i64 n)]=.br (b !=n) (.ok (.v (.bool false))) (.req (0≤n∧n≤n∧1*n≤2^48∧n<2^63) (.req (0=0∧n.toNat=List.length a) (.req (aJ9 (⟨n,false,l,b,(0:Int),a⟩:rD)) (.br (iV (ail (⟨n,false,l,b,(0:Int),a⟩:rD)) (.ret)) (.ok (.v (.bool (agh (⟨n,false,l,b,(0:Int),a⟩:rD)).r))) (.ok (.v (.bool true))))))):=by kernel_rfl
theorem KZ:Valid Tryz.prog aP 94 uD:=aI Tryz.func94 rfl aB0 aA (L:=(λi=>if i=5 then JF.lp else ay i)) (λb hb=>by
 rw [show ax _=[Fj] by kernel_rfl] at hb
 simp only [List.mem_cons,List.not_mem_nil,or_false] at hb;subst hb;exact awf) (λargs lv h=>by
 unfold ajU at h;split at h
 ·simp only [canL,canX]
  rw [ayF];rename_i l n;obtain ⟨hl,rfl⟩:=h;refine ⟨λc=>congrArg (λz=>LV.v (.bool z)) ?_,λc=>?_⟩
  ·have c:¬(l.length:Int)=n:=by simpa using c
   unfold oh;rw [decide_eq_false c];rfl
  ·have c:(l.length:Int)=n:=by simpa using c
   unfold oh;rw [decide_eq_true c,Bool.true_and];refine ⟨by omega,⟨rfl,by simp⟩,lK ⟨⟨rfl,by simp,rfl,by simp only;omega,by simp only [List.length_replicate];omega⟩,rfl,rfl⟩ (λhE=>?_)⟩
   obtain ⟨s',_,hq⟩:=ay9 _ hE.1;rcases hq with ⟨q1,q2⟩ |⟨q1,q2,j,q3,q4⟩
   ·rw [q1]
    have hk:=(nC (d:=(0:Int)) (p:=YD n) (k:=id)).1 q2
    rw [List.map_id] at hk;rw [hk];exact ⟨λh=>(by cases h),λ_=>rfl⟩
   ·rw [q1,q2]
    refine ⟨λ_=>congrArg (λz=>LV.v (.bool z)) ?_,λh=>by cases h⟩
    rw [eq_comm,Bool.eq_false_iff];intro hx
    have:=(nC (d:=(0:Int)) (p:=YD n) (k:=id)).2 (by rw [List.map_id];exact hx) j q3
    exact Bool.noConfusion (this.symm.trans q4)
 ·cases h)
structure lC where
 r:Bool
 l:List Int
 n:Int
 i:Int
 bT:List Cd
 iL:List ByteArray
 fB:List Ko
 fP:List Ch
 kQ:List Ba
def aQI (s:lC):List LV:=[.fn 92 [],.v (.bool s.r),.xl aSg s.l,.v (.int .i64 s.n),.v (.int .i64 s.i)]
def aPq (s:lC):List aZ:=[⟨[.xl dY s.bT,.xl .str s.iL,.xl fC s.fB,.xl dP s.fP,.xl fD s.kQ],28,.cl,false⟩]
def ZH:Code:=((ax (Tryz.f93.body.getD .skip))[0]?).getD .skip
def afA (s:lC):T (Rd lC):=
 .br (decide (s.i<s.n)) (.req (0≤s.i∧s.i<(s.l.length:Int)) (.br (!((decide ((gi s.l s.i)≥0))&&(decide ((gi s.l s.i)≤80)))) (.ok (.stop (.ret) {s with r:=false})) (.ok (.next {s with i:=(aSe (s.i+1))})))) (.ok (.stop (.exit 0) s))
abbrev aCR (s:lC):=(afA s).rd s
def O9 (s:lC) (j:Int):Bool:=pV (gi s.l j)
def akH (s:lC):Prop:=s.i=0∧0≤s.n∧s.n≤1000∧s.n=(s.l.length:Int)
def Tj (s:lC):Prop:=0≤s.i∧s.i≤s.n∧s.n≤1000∧(s.n=(s.l.length:Int))∧∀j:Nat,(j:Int)<s.i→O9 s j=true
def VA (s:lC):Nat:=(s.n-s.i).toNat
def atJ (x:Ex) (_ s':lC):Prop:=(x=.exit 0∧∀j:Nat,(j:Int)<s'.n→O9 s' j=true)∨(x=.ret∧s'.r=false∧∃j:Nat,(j:Int)<s'.n∧O9 s' j=false)
theorem aNJ:∀s,akH s→Tj s:=by
 intro s h;obtain ⟨h0,h1,h2,h3⟩:=h;exact ⟨by omega,by omega,h2,h3,λj hj=>by omega⟩
theorem aIy (s:lC) (hI:Tj s):bJ (λs'=>Tj s'∧VA s'<VA s) (λx s'=>atJ x s s') (aCR s):=by
 unfold aCR afA;dsimp only [T.rd,T.rl];obtain ⟨h0,h1,h2,h3,h4⟩:=hI;refine ai (λc1=>ai (λc2=>?_) (λc2=>?_)) (λc1=>?_)
 ·have c1:s.i<s.n:=by simpa using c1
  refine .inr ⟨rfl,rfl,s.i.toNat,by simp only;omega,?_⟩
  rw [Int.toNat_of_nonneg (by omega)]
  have hg:O9 s s.i=false:=by unfold O9;(first|(have c2:(!(pV (gi s.l s.i)))=false:=c2;simpa using c2) |(have c2:(!(pV (gi s.l s.i)))=true:=c2;simpa using c2))
  exact hg
 ·have c1:s.i<s.n:=by simpa using c1
  have hg:O9 s s.i=true:=by unfold O9;(first|(have c2:(!(pV (gi s.l s.i)))=false:=c2;simpa using c2) |(have c2:(!(pV (gi s.l s.i)))=true:=c2;simpa using c2))
  rw [aH (x:=s.i+1)];refine ⟨⟨by simp only;omega,by simp only;omega,h2,h3,λj hj=>?_⟩,by simp only [VA];omega⟩
  by_cases hji:(j:Int)<s.i
  ·exact h4 j hji
  ·have:(j:Int)=s.i:=by simp only at hj;omega
   rw [this];exact hg
 ·have c1:s.n≤s.i:=by simpa using c1
  exact .inl ⟨rfl,λj hj=>h4 j (by omega)⟩
def yD:bK lC:=⟨1,18,[1,4,7,8,9],[],aQI,aPq,λv b=>⟨vW (v.getD 1 .junk),aU aSg (v.getD 2 .junk),gI (v.getD 3 .junk),gI (v.getD 4 .junk),aU dY (bn (aT b 0) 0),aU .str (bn (aT b 0) 1),aU fC (bn (aT b 0) 2),aU dP (bn (aT b 0) 3),aU fD (bn (aT b 0) 4)⟩,afA,λs r=> {r with l:=s.l,n:=s.n,bT:=s.bT,iL:=s.iL,fB:=s.fB,fP:=s.fP,kQ:=s.kQ},λs=>s,λ_ s=>s,[.ret,.exit 0],akH,Tj,VA⟩
abbrev xH:=yD.run
abbrev AB:=yD.jf
abbrev aeO:=yD.q
def Bl:Specs:=aW [(24,qx),(61,uF),(94,uD),(96,uz)]
theorem DW:∀g S,Bl g=some S→Valid Tryz.prog aP g S:=aS (l:=[(24,qx),(61,uF),(94,uD),(96,uz)]) ⟨Gl,La,KZ,KY,trivial⟩
def aqU:Hand:=inl Tryz.prog aP Bl (jT Tryz.prog aP (Bl) 20 2) 9
theorem aBC:dn Tryz.prog aP aqU:=bV DW (dD DW) 9
theorem aGi (s:lC) (hI:Tj s):(afA s).all (λ_=>True):=by
 refine ⟨λc1=>⟨?_,λ_=>trivial,λ_=>trivial⟩,λ_=>trivial⟩
 ·(obtain ⟨h0,h1,h2,h3,h4⟩:=hI;simp at c1;omega)
theorem aps:yD.Ok:={}
theorem aob:yD.Pf (atJ):=⟨aNJ,λ_ _=>rfl,aIy,aGi⟩
theorem zT:bC Tryz.prog aP (AN 1) (.loop ZH) yD.lp:=bK.snd aps aob (bI (Γ:=Bl) (K:=aqU) (L:=(ql Tryz.prog aP Bl aqU 20 2)) DW aBC ZH (λb _=>dA DW aBC 20 2 b)) (λs=>by kernel_rfl)
theorem aAa (s:lC) (hE:akH s):∃s',Tj s'∧atJ (AB s) s' (xH s):=bK.fin aps aob s hE
theorem aiv (s:lC) (hE:akH s):(AB s=.exit 0∧s.l.all pV=true)∨(AB s=.ret∧(xH s).r=false∧s.l.all pV=false):=by
 obtain ⟨s',hI,hq⟩:=aAa s hE;obtain ⟨h0,h1,h2,h3⟩:=hE
 have el:(xH s).l=s.l:=rfl
 have en:(xH s).n=s.n:=rfl
 rcases hq with ⟨q1,q2⟩ |⟨q1,q2,j,q3,q4⟩
 ·refine .inl ⟨q1,(jm (d:=(0:Int))).1 λj hj=>?_⟩
  have:=q2 j (by rw [en];omega)
  exact this
 ·refine .inr ⟨q1,q2,?_⟩
  rw [Bool.eq_false_iff];intro hx
  have:=(jm (d:=(0:Int))).2 hx j (by rw [en] at q3;omega)
  exact Bool.noConfusion (this.symm.trans q4)
structure jo where
 alive:List Int
 i:Int
 rows:List Rw
 rn:Int
 ri:Int
 l:List Int
 n:Int
 k:Int
 di:List Cd
 gB:List ByteArray
 dG:List Ko
 dN:List Ch
 jF:List Ba
 BG:List Cd
 BD:List ByteArray
 BF:List Ko
 gQ:List Ch
 BH:List Ba
 bY:List Rw
 bH:List Int
 kL:List Int
 kK:List Int
 kJ:List Int
 kH:List Int
 kG:List Int
 kF:List Int
 kE:List Int
 kD:List Int
 kC:List Int
 kz:List Int
 fA:List Int
 eY:List Int
 eX:List Int
 eU:List Int
 eP:List Int
 eG:List Int
 sums:List Int
 levels:List Int
def aQu (s:jo):List LV:=[.xl aSg s.alive,.own 1 0,.v (.int .i64 s.i),.xl wE s.rows,.v (.int .i64 s.rn),.v (.int .i64 s.ri),.xl aSg s.l,.v (.int .i64 s.n),.v (.int .i64 s.k)]
def aPc (s:jo):List aZ:=[⟨[.xl dY s.di,.xl .str s.gB,.xl fC s.dG,.xl dP s.dN,.xl fD s.jF],28,.cl,false⟩,⟨[.xl dY s.BG,.xl .str s.BD,.xl fC s.BF,.xl dP s.gQ,.xl fD s.BH,.xl wE s.bY,.os 2 1 0 (s.kL.length),.os 3 1 0 (s.kK.length),.os 4 1 0 (s.kJ.length),.os 5 1 0 (s.kH.length),.os 6 1 0 (s.kG.length),.os 7 1 0 (s.kF.length),.os 8 1 0 (s.kE.length),.os 9 1 0 (s.kD.length),.os 10 1 0 (s.kC.length),.os 11 1 0 (s.kz.length),.os 12 1 0 (s.fA.length),.os 13 1 0 (s.eY.length),.os 14 1 0 (s.eX.length),.os 15 1 0 (s.eU.length),.os 16 1 0 (s.eP.length),.os 17 1 0 (s.eG.length),.os 18 1 0 (s.sums.length),.xl aSg s.bH,.os 19 1 0 (s.levels.length)],148,.cl,false⟩,⟨[],3,.vec aSg s.kL,false⟩,⟨[],3,.vec aSg s.kK,false⟩,⟨[],3,.vec aSg s.kJ,false⟩,⟨[],3,.vec aSg s.kH,false⟩,⟨[],3,.vec aSg s.kG,false⟩,⟨[],3,.vec aSg s.kF,false⟩,⟨[],3,.vec aSg s.kE,false⟩,⟨[],3,.vec aSg s.kD,false⟩,⟨[],3,.vec aSg s.kC,false⟩,⟨[],3,.vec aSg s.kz,false⟩,⟨[],3,.vec aSg s.fA,false⟩,⟨[],3,.vec aSg s.eY,false⟩,⟨[],3,.vec aSg s.eX,false⟩,⟨[],3,.vec aSg s.eU,false⟩,⟨[],3,.vec aSg s.eP,false⟩,⟨[],3,.vec aSg s.eG,false⟩,⟨[],3,.vec aSg s.sums,false⟩,⟨[],3,.vec aSg s.levels,false⟩]
def Ob:Code:=((ax (((ax (Tryz.f95.body.getD .skip))[0]?).getD .skip))[0]?).getD .skip
end Go.Proofs.YtlihnbimgclogaaGreatDoor
end
