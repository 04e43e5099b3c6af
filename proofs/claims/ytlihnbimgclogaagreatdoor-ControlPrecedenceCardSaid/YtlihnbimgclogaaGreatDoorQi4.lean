/- ControlPrecedence returns true for all arguments: if one demand gets a lesser rank or a lesser slack, the target of its charger does not get less. Conditions: none; the table ramp.happens holds what its text says. -/
import Derived.Test.YtlihnbimgclogaaGreatDoorQi3
namespace Go.Proofs.YtlihnbimgclogaaGreatDoor
open Go.Sx
theorem amD (s:iV) (hE:UU s):∃s',MG s'∧ajA (aop s) s' (gQ s):=bT.fin V3 VI s hE
theorem amB (s:iV) (hE:UU s):(gQ s).out=s.out++s.l.map (·.1):=by
 have hk:=bT.uN V3 VI (fun s=>s.out++(s.l.drop s.i.toNat).map (·.1)) (fun s hI=>by
  obtain ⟨h0,h1,h2,h3,h4⟩:=hI
  show bQ _ _ (aaR s)
  unfold aaR QO
  dsimp only [T.rd,T.rl]
  refine ax (fun c1=>?_) (fun c1=>?_)
  ·have c1:s.i<s.n:=by simpa using c1
   rw [aN (x:=s.i+1) (by omega) (by omega)]
   show _++_=_++_
   simp only
   rw [(S9 h0 (show s.i<s.l.length by omega)).1]
   simp
  ·rfl) s hE
 obtain ⟨s',hI,q1,q2⟩:=amD s hE
 have q3:(gQ s).i=(gQ s).n:=q2
 have hn:(gQ s).n=(s.l.length:Int):=hE.2.1
 have hl:(gQ s).l=s.l:=rfl
 rw [q3,hn,hl,List.drop_eq_nil_of_le (by omega),hE.1] at hk
 simpa using hk
structure jD where
 l:List ByteArray
 n:Int
 i:Int
 ak:List Cd
 aC:List ByteArray
 aj:List Ko
 au:List Ch
 aK:List Ba
 out:List ByteArray
def aBL (s:jD):List LV:=[.own 0 0,.os 1 1 0 (List.length s.out),.xl .str s.l,.v (.int .i64 s.n),.v (.int .i64 s.i)]
def aAO (s:jD):List aT:=[⟨[.xl dZ s.ak,.xl .str s.aC,.xl eP s.aj,.xl dR s.au,.xl eU s.aK],28,.cl,false⟩,⟨[],9,.vec .str s.out,false⟩]
noncomputable def Bd:Code:=((aG (Tryz.f98.body.getD .skip))[1]?).getD .skip
def QN (s:jD):T (Rd jD):=
 .br (decide (s.i<s.n)) (.req (0≤s.i∧s.i<(List.length s.l:Int)) (.req (0+(List.length s.out)=List.length s.out∧((List.length s.out+List.length ([(gS s.l s.i)]):Nat):Int)*16≤2^47∧((List.length s.out+List.length ([(gS s.l s.i)]):Nat):Int)<2^62) (.req (0=0∧(List.length s.out+List.length ([(gS s.l s.i)]))=List.length (s.out++([(gS s.l s.i)]))) (.ok (.next {s with i:=(IntKind.i64.wrap (s.i+1)),out:=(s.out++([(gS s.l s.i)]))}))))) (.rl s.out (.ok (.stop (.exit 2) s)))
abbrev aaQ (s:jD):=(QN s).rd s
def UR (s:jD):Prop:=s.i=0∧s.n=(s.l.length:Int)∧s.n≤1000∧(s.out.length:Int)≤10000
def MF (s:jD):Prop:=0≤s.i∧s.i≤s.n∧s.n=(s.l.length:Int)∧s.n≤1000∧(s.out.length:Int)≤10000+s.i
def OE (s:jD):Nat:=(s.n-s.i).toNat
def ajz (x:Ex) (_ s':jD):Prop:=x=.exit 2∧s'.i=s'.n
theorem ayO:∀s,UR s→MF s:=by
 intro s h
 obtain ⟨h0,h1,h2,h3⟩:=h
 exact ⟨by omega,by omega,h1,h2,by omega⟩
theorem aut (s:jD) (hI:MF s):bQ (fun s'=>MF s'∧OE s'<OE s) (fun x s'=>ajz x s s') (aaQ s):=by
 unfold aaQ QN
 dsimp only [T.rd,T.rl]
 obtain ⟨h0,h1,h2,h3,h4⟩:=hI
 refine ax (fun c1=>?_) (fun c1=>?_)
 ·have c1:s.i<s.n:=by simpa using c1
  rw [aN (x:=s.i+1) (by omega) (by omega)]
  exact ⟨⟨by simp only;omega,by simp only;omega,h2,h3,by simp only [List.length_append,List.length_cons,List.length_nil];omega⟩,by simp only [OE];omega⟩
 ·have c1:s.n≤s.i:=by simpa using c1
  exact ⟨rfl,by omega⟩
def EL:bT jD:=⟨0,80,[1,3,28,29,30],[],aBL,aAO,fun v b=>⟨aS .str (v.getD 2 .junk),gI (v.getD 3 .junk),gI (v.getD 4 .junk),aS dZ (aZ (aP b 0) 0),aS .str (aZ (aP b 0) 1),aS eP (aZ (aP b 0) 2),aS dR (aZ (aP b 0) 3),aS eU (aZ (aP b 0) 4),jy .str (aP b 1)⟩,QN,fun s r=> {r with l:=s.l,n:=s.n,ak:=s.ak,aC:=s.aC,aj:=s.aj,au:=s.au,aK:=s.aK},fun s=>s,fun _ s=>s,[.exit 2],UR,MF,OE⟩
abbrev iC:=EL.run
abbrev aoo:=EL.kG
abbrev awN:=EL.q
theorem atr (s:jD) (hI:MF s):(QN s).all (fun _=>True):=by
 refine ⟨fun c1=>⟨?_,?_,?_,trivial⟩,fun c1=>⟨⟨rfl,rfl⟩,trivial⟩⟩
 all_goals ((obtain ⟨h0,h1,h2,h3,h4⟩:=hI;(try simp only [decide_eq_true_eq] at c1);first|omega|(refine ⟨by omega,?_,?_⟩<;>simp only [List.length_cons,List.length_nil]<;>omega) |(simp only [List.length_append,List.length_cons,List.length_nil];omega) |exact ⟨rfl,by simp⟩ |exact ⟨rfl,rfl⟩))
theorem VZ:EL.Ok:=⟨fun s=>by kernel_rfl,fun s=>by kernel_rfl,fun s=>rfl,fun s t r=>rfl,fun s=>rfl,fun s=>by kernel_rfl⟩
theorem VH:EL.Pf (ajz):=⟨ayO,fun _ _=>rfl,aut,atr⟩
theorem alf:bC Tryz.prog aQ (AN 0) (.loop Bd) EL.lp:=bT.snd VZ VH (aV (Γ:=Il) (K:=fC) (L:=aF) KQ aH Bd (fun b hb=>by rw [show aG Bd=[] by kernel_rfl] at hb;cases hb)) (fun s=>by kernel_rfl)
theorem amz (s:jD) (hE:UR s):∃s',MF s'∧ajz (aoo s) s' (iC s):=bT.fin VZ VH s hE
theorem amy (s:jD) (hE:UR s):(iC s).out=s.out++s.l:=by
 have hk:=bT.uN VZ VH (fun s=>s.out++(s.l.drop s.i.toNat)) (fun s hI=>by
  obtain ⟨h0,h1,h2,h3,h4⟩:=hI
  show bQ _ _ (aaQ s)
  unfold aaQ QN
  dsimp only [T.rd,T.rl]
  refine ax (fun c1=>?_) (fun c1=>?_)
  ·have c1:s.i<s.n:=by simpa using c1
   rw [aN (x:=s.i+1) (by omega) (by omega)]
   show _++_=_++_
   simp only
   rw [(uy h0 (show s.i<s.l.length by omega)).1]
   simp
  ·rfl) s hE
 obtain ⟨s',hI,q1,q2⟩:=amz s hE
 have q3:(iC s).i=(iC s).n:=q2
 have hn:(iC s).n=(s.l.length:Int):=hE.2.1
 have hl:(iC s).l=s.l:=rfl
 rw [q3,hn,hl,List.drop_eq_nil_of_le (by omega),hE.1] at hk
 simpa using hk
structure jR where
 l:List Ko
 n:Int
 i:Int
 ak:List Cd
 aC:List ByteArray
 aj:List Ko
 au:List Ch
 aK:List Ba
 out:List ByteArray
def aBK (s:jR):List LV:=[.own 0 0,.os 1 1 0 (List.length s.out),.xl eP s.l,.v (.int .i64 s.n),.v (.int .i64 s.i)]
def aAN (s:jR):List aT:=[⟨[.xl dZ s.ak,.xl .str s.aC,.xl eP s.aj,.xl dR s.au,.xl eU s.aK],28,.cl,false⟩,⟨[],9,.vec .str s.out,false⟩]
noncomputable def Bc:Code:=((aG (Tryz.f98.body.getD .skip))[2]?).getD .skip
def QM (s:jR):T (Rd jR):=
 .br (decide (s.i<s.n)) (.req (0≤s.i∧s.i<(List.length s.l:Int)) (.req (0+(List.length s.out)=List.length s.out∧((List.length s.out+List.length ([(ng s.l s.i).1]):Nat):Int)*16≤2^47∧((List.length s.out+List.length ([(ng s.l s.i).1]):Nat):Int)<2^62) (.req (0=0∧(List.length s.out+List.length ([(ng s.l s.i).1]))=List.length (s.out++([(ng s.l s.i).1]))) (.ok (.next {s with i:=(IntKind.i64.wrap (s.i+1)),out:=(s.out++([(ng s.l s.i).1]))}))))) (.rl s.out (.ok (.stop (.exit 4) s)))
abbrev aaP (s:jR):=(QM s).rd s
def UQ (s:jR):Prop:=s.i=0∧s.n=(s.l.length:Int)∧s.n≤1000∧(s.out.length:Int)≤10000
def MC (s:jR):Prop:=0≤s.i∧s.i≤s.n∧s.n=(s.l.length:Int)∧s.n≤1000∧(s.out.length:Int)≤10000+s.i
def OD (s:jR):Nat:=(s.n-s.i).toNat
def ajy (x:Ex) (_ s':jR):Prop:=x=.exit 4∧s'.i=s'.n
theorem ayN:∀s,UQ s→MC s:=by
 intro s h
 obtain ⟨h0,h1,h2,h3⟩:=h
 exact ⟨by omega,by omega,h1,h2,by omega⟩
theorem aus (s:jR) (hI:MC s):bQ (fun s'=>MC s'∧OD s'<OD s) (fun x s'=>ajy x s s') (aaP s):=by
 unfold aaP QM
 dsimp only [T.rd,T.rl]
 obtain ⟨h0,h1,h2,h3,h4⟩:=hI
 refine ax (fun c1=>?_) (fun c1=>?_)
 ·have c1:s.i<s.n:=by simpa using c1
  rw [aN (x:=s.i+1) (by omega) (by omega)]
  exact ⟨⟨by simp only;omega,by simp only;omega,h2,h3,by simp only [List.length_append,List.length_cons,List.length_nil];omega⟩,by simp only [OD];omega⟩
 ·have c1:s.n≤s.i:=by simpa using c1
  exact ⟨rfl,by omega⟩
def EK:bT jR:=⟨0,80,[1,3,41,42,43],[],aBK,aAN,fun v b=>⟨aS eP (v.getD 2 .junk),gI (v.getD 3 .junk),gI (v.getD 4 .junk),aS dZ (aZ (aP b 0) 0),aS .str (aZ (aP b 0) 1),aS eP (aZ (aP b 0) 2),aS dR (aZ (aP b 0) 3),aS eU (aZ (aP b 0) 4),jy .str (aP b 1)⟩,QM,fun s r=> {r with l:=s.l,n:=s.n,ak:=s.ak,aC:=s.aC,aj:=s.aj,au:=s.au,aK:=s.aK},fun s=>s,fun _ s=>s,[.exit 4],UQ,MC,OD⟩
abbrev jc:=EK.run
abbrev aon:=EK.kG
abbrev awM:=EK.q
theorem atq (s:jR) (hI:MC s):(QM s).all (fun _=>True):=by
 refine ⟨fun c1=>⟨?_,?_,?_,trivial⟩,fun c1=>⟨⟨rfl,rfl⟩,trivial⟩⟩
 all_goals ((obtain ⟨h0,h1,h2,h3,h4⟩:=hI;(try simp only [decide_eq_true_eq] at c1);first|omega|(refine ⟨by omega,?_,?_⟩<;>simp only [List.length_cons,List.length_nil]<;>omega) |(simp only [List.length_append,List.length_cons,List.length_nil];omega) |exact ⟨rfl,by simp⟩ |exact ⟨rfl,rfl⟩))
theorem VY:EK.Ok:=⟨fun s=>by kernel_rfl,fun s=>by kernel_rfl,fun s=>rfl,fun s t r=>rfl,fun s=>rfl,fun s=>by kernel_rfl⟩
theorem VG:EK.Pf (ajy):=⟨ayN,fun _ _=>rfl,aus,atq⟩
theorem ale:bC Tryz.prog aQ (AN 0) (.loop Bc) EK.lp:=bT.snd VY VG (aV (Γ:=Il) (K:=fC) (L:=aF) KQ aH Bc (fun b hb=>by rw [show aG Bc=[] by kernel_rfl] at hb;cases hb)) (fun s=>by kernel_rfl)
theorem amx (s:jR) (hE:UQ s):∃s',MC s'∧ajy (aon s) s' (jc s):=bT.fin VY VG s hE
theorem amw (s:jR) (hE:UQ s):(jc s).out=s.out++s.l.map (·.1):=by
 have hk:=bT.uN VY VG (fun s=>s.out++(s.l.drop s.i.toNat).map (·.1)) (fun s hI=>by
  obtain ⟨h0,h1,h2,h3,h4⟩:=hI
  show bQ _ _ (aaP s)
  unfold aaP QM
  dsimp only [T.rd,T.rl]
  refine ax (fun c1=>?_) (fun c1=>?_)
  ·have c1:s.i<s.n:=by simpa using c1
   rw [aN (x:=s.i+1) (by omega) (by omega)]
   show _++_=_++_
   simp only
   rw [(Ip h0 (show s.i<s.l.length by omega)).1]
   simp
  ·rfl) s hE
 obtain ⟨s',hI,q1,q2⟩:=amx s hE
 have q3:(jc s).i=(jc s).n:=q2
 have hn:(jc s).n=(s.l.length:Int):=hE.2.1
 have hl:(jc s).l=s.l:=rfl
 rw [q3,hn,hl,List.drop_eq_nil_of_le (by omega),hE.1] at hk
 simpa using hk
structure kS where
 l:List Ch
 n:Int
 i:Int
 ak:List Cd
 aC:List ByteArray
 aj:List Ko
 au:List Ch
 aK:List Ba
 out:List ByteArray
def aBJ (s:kS):List LV:=[.own 0 0,.os 1 1 0 (List.length s.out),.xl dR s.l,.v (.int .i64 s.n),.v (.int .i64 s.i)]
def aAM (s:kS):List aT:=[⟨[.xl dZ s.ak,.xl .str s.aC,.xl eP s.aj,.xl dR s.au,.xl eU s.aK],28,.cl,false⟩,⟨[],9,.vec .str s.out,false⟩]
noncomputable def A8:Code:=((aG (Tryz.f98.body.getD .skip))[3]?).getD .skip
def QL (s:kS):T (Rd kS):=
 .br (decide (s.i<s.n)) (.req (0≤s.i∧s.i<(List.length s.l:Int)) (.req (0+(List.length s.out)=List.length s.out∧((List.length s.out+List.length ([(bF s.l s.i).1]):Nat):Int)*16≤2^47∧((List.length s.out+List.length ([(bF s.l s.i).1]):Nat):Int)<2^62) (.req (0=0∧(List.length s.out+List.length ([(bF s.l s.i).1]))=List.length (s.out++([(bF s.l s.i).1]))) (.ok (.next {s with i:=(IntKind.i64.wrap (s.i+1)),out:=(s.out++([(bF s.l s.i).1]))}))))) (.rl s.out (.ok (.stop (.exit 6) s)))
abbrev aaO (s:kS):=(QL s).rd s
def UO (s:kS):Prop:=s.i=0∧s.n=(s.l.length:Int)∧s.n≤1000∧(s.out.length:Int)≤10000
def MB (s:kS):Prop:=0≤s.i∧s.i≤s.n∧s.n=(s.l.length:Int)∧s.n≤1000∧(s.out.length:Int)≤10000+s.i
def OC (s:kS):Nat:=(s.n-s.i).toNat
def ajx (x:Ex) (_ s':kS):Prop:=x=.exit 6∧s'.i=s'.n
theorem ayM:∀s,UO s→MB s:=by
 intro s h
 obtain ⟨h0,h1,h2,h3⟩:=h
 exact ⟨by omega,by omega,h1,h2,by omega⟩
theorem aur (s:kS) (hI:MB s):bQ (fun s'=>MB s'∧OC s'<OC s) (fun x s'=>ajx x s s') (aaO s):=by
 unfold aaO QL
 dsimp only [T.rd,T.rl]
 obtain ⟨h0,h1,h2,h3,h4⟩:=hI
 refine ax (fun c1=>?_) (fun c1=>?_)
 ·have c1:s.i<s.n:=by simpa using c1
  rw [aN (x:=s.i+1) (by omega) (by omega)]
  exact ⟨⟨by simp only;omega,by simp only;omega,h2,h3,by simp only [List.length_append,List.length_cons,List.length_nil];omega⟩,by simp only [OC];omega⟩
 ·have c1:s.n≤s.i:=by simpa using c1
  exact ⟨rfl,by omega⟩
def EJ:bT kS:=⟨0,80,[1,3,54,55,56],[],aBJ,aAM,fun v b=>⟨aS dR (v.getD 2 .junk),gI (v.getD 3 .junk),gI (v.getD 4 .junk),aS dZ (aZ (aP b 0) 0),aS .str (aZ (aP b 0) 1),aS eP (aZ (aP b 0) 2),aS dR (aZ (aP b 0) 3),aS eU (aZ (aP b 0) 4),jy .str (aP b 1)⟩,QL,fun s r=> {r with l:=s.l,n:=s.n,ak:=s.ak,aC:=s.aC,aj:=s.aj,au:=s.au,aK:=s.aK},fun s=>s,fun _ s=>s,[.exit 6],UO,MB,OC⟩
abbrev jU:=EJ.run
abbrev aom:=EJ.kG
abbrev awL:=EJ.q
theorem atp (s:kS) (hI:MB s):(QL s).all (fun _=>True):=by
 refine ⟨fun c1=>⟨?_,?_,?_,trivial⟩,fun c1=>⟨⟨rfl,rfl⟩,trivial⟩⟩
 all_goals ((obtain ⟨h0,h1,h2,h3,h4⟩:=hI;(try simp only [decide_eq_true_eq] at c1);first|omega|(refine ⟨by omega,?_,?_⟩<;>simp only [List.length_cons,List.length_nil]<;>omega) |(simp only [List.length_append,List.length_cons,List.length_nil];omega) |exact ⟨rfl,by simp⟩ |exact ⟨rfl,rfl⟩))
theorem VX:EJ.Ok:=⟨fun s=>by kernel_rfl,fun s=>by kernel_rfl,fun s=>rfl,fun s t r=>rfl,fun s=>rfl,fun s=>by kernel_rfl⟩
theorem VF:EJ.Pf (ajx):=⟨ayM,fun _ _=>rfl,aur,atp⟩
theorem ald:bC Tryz.prog aQ (AN 0) (.loop A8) EJ.lp:=bT.snd VX VF (aV (Γ:=Il) (K:=fC) (L:=aF) KQ aH A8 (fun b hb=>by rw [show aG A8=[] by kernel_rfl] at hb;cases hb)) (fun s=>by kernel_rfl)
theorem amv (s:kS) (hE:UO s):∃s',MB s'∧ajx (aom s) s' (jU s):=bT.fin VX VF s hE
theorem amu (s:kS) (hE:UO s):(jU s).out=s.out++s.l.map (·.1):=by
 have hk:=bT.uN VX VF (fun s=>s.out++(s.l.drop s.i.toNat).map (·.1)) (fun s hI=>by
  obtain ⟨h0,h1,h2,h3,h4⟩:=hI
  show bQ _ _ (aaO s)
  unfold aaO QL
  dsimp only [T.rd,T.rl]
  refine ax (fun c1=>?_) (fun c1=>?_)
  ·have c1:s.i<s.n:=by simpa using c1
   rw [aN (x:=s.i+1) (by omega) (by omega)]
   show _++_=_++_
   simp only
   rw [(SY h0 (show s.i<s.l.length by omega)).1]
   simp
  ·rfl) s hE
 obtain ⟨s',hI,q1,q2⟩:=amv s hE
 have q3:(jU s).i=(jU s).n:=q2
 have hn:(jU s).n=(s.l.length:Int):=hE.2.1
 have hl:(jU s).l=s.l:=rfl
 rw [q3,hn,hl,List.drop_eq_nil_of_le (by omega),hE.1] at hk
 simpa using hk
structure mO where
 l:List Ba
 n:Int
 i:Int
 out:List ByteArray
def aBI (s:mO):List LV:=[.os 0 1 0 (List.length s.out),.xl eU s.l,.v (.int .i64 s.n),.v (.int .i64 s.i)]
def aAL (s:mO):List aT:=[⟨[],9,.vec .str s.out,false⟩]
noncomputable def A7:Code:=((aG (Tryz.f98.body.getD .skip))[4]?).getD .skip
def QK (s:mO):T (Rd mO):=
 .br (decide (s.i<s.n)) (.req (0≤s.i∧s.i<(List.length s.l:Int)) (.req (0+(List.length s.out)=List.length s.out∧((List.length s.out+List.length ([(Cc s.l s.i).1]):Nat):Int)*16≤2^47∧((List.length s.out+List.length ([(Cc s.l s.i).1]):Nat):Int)<2^62) (.req (0=0∧(List.length s.out+List.length ([(Cc s.l s.i).1]))=List.length (s.out++([(Cc s.l s.i).1]))) (.ok (.next {s with i:=(IntKind.i64.wrap (s.i+1)),out:=(s.out++([(Cc s.l s.i).1]))}))))) (.rl s.out (.ok (.stop (.exit 8) s)))
abbrev aaN (s:mO):=(QK s).rd s
def UN (s:mO):Prop:=s.i=0∧s.n=(s.l.length:Int)∧s.n≤1000∧(s.out.length:Int)≤10000
def Me (s:mO):Prop:=0≤s.i∧s.i≤s.n∧s.n=(s.l.length:Int)∧s.n≤1000∧(s.out.length:Int)≤10000+s.i
def OB (s:mO):Nat:=(s.n-s.i).toNat
def ajw (x:Ex) (_ s':mO):Prop:=x=.exit 8∧s'.i=s'.n
theorem ayL:∀s,UN s→Me s:=by
 intro s h
 obtain ⟨h0,h1,h2,h3⟩:=h
 exact ⟨by omega,by omega,h1,h2,by omega⟩
theorem auq (s:mO) (hI:Me s):bQ (fun s'=>Me s'∧OB s'<OB s) (fun x s'=>ajw x s s') (aaN s):=by
 unfold aaN QK
 dsimp only [T.rd,T.rl]
 obtain ⟨h0,h1,h2,h3,h4⟩:=hI
 refine ax (fun c1=>?_) (fun c1=>?_)
 ·have c1:s.i<s.n:=by simpa using c1
  rw [aN (x:=s.i+1) (by omega) (by omega)]
  exact ⟨⟨by simp only;omega,by simp only;omega,h2,h3,by simp only [List.length_append,List.length_cons,List.length_nil];omega⟩,by simp only [OB];omega⟩
 ·have c1:s.n≤s.i:=by simpa using c1
  exact ⟨rfl,by omega⟩
def EI:bT mO:=⟨0,80,[3,67,68,69],[],aBI,aAL,fun v b=>⟨aS eU (v.getD 1 .junk),gI (v.getD 2 .junk),gI (v.getD 3 .junk),jy .str (aP b 0)⟩,QK,fun s r=> {r with l:=s.l,n:=s.n},fun s=>s,fun _ s=>s,[.exit 8],UN,Me,OB⟩
abbrev mg:=EI.run
abbrev aol:=EI.kG
abbrev awK:=EI.q
theorem ato (s:mO) (hI:Me s):(QK s).all (fun _=>True):=by
 refine ⟨fun c1=>⟨?_,?_,?_,trivial⟩,fun c1=>⟨⟨rfl,rfl⟩,trivial⟩⟩
 all_goals ((obtain ⟨h0,h1,h2,h3,h4⟩:=hI;(try simp only [decide_eq_true_eq] at c1);first|omega|(refine ⟨by omega,?_,?_⟩<;>simp only [List.length_cons,List.length_nil]<;>omega) |(simp only [List.length_append,List.length_cons,List.length_nil];omega) |exact ⟨rfl,by simp⟩ |exact ⟨rfl,rfl⟩))
theorem VW:EI.Ok:=⟨fun s=>by kernel_rfl,fun s=>by kernel_rfl,fun s=>rfl,fun s t r=>rfl,fun s=>rfl,fun s=>by kernel_rfl⟩
theorem VE:EI.Pf (ajw):=⟨ayL,fun _ _=>rfl,auq,ato⟩
theorem alc:bC Tryz.prog aQ (AN 0) (.loop A7) EI.lp:=bT.snd VW VE (aV (Γ:=Il) (K:=fC) (L:=aF) KQ aH A7 (fun b hb=>by rw [show aG A7=[] by kernel_rfl] at hb;cases hb)) (fun s=>by kernel_rfl)
theorem ams (s:mO) (hE:UN s):∃s',Me s'∧ajw (aol s) s' (mg s):=bT.fin VW VE s hE
theorem amr (s:mO) (hE:UN s):(mg s).out=s.out++s.l.map (·.1):=by
 have hk:=bT.uN VW VE (fun s=>s.out++(s.l.drop s.i.toNat).map (·.1)) (fun s hI=>by
  obtain ⟨h0,h1,h2,h3,h4⟩:=hI
  show bQ _ _ (aaN s)
  unfold aaN QK
  dsimp only [T.rd,T.rl]
  refine ax (fun c1=>?_) (fun c1=>?_)
  ·have c1:s.i<s.n:=by simpa using c1
   rw [aN (x:=s.i+1) (by omega) (by omega)]
   show _++_=_++_
   simp only
   rw [(Tc h0 (show s.i<s.l.length by omega)).1]
   simp
  ·rfl) s hE
 obtain ⟨s',hI,q1,q2⟩:=ams s hE
 have q3:(mg s).i=(mg s).n:=q2
 have hn:(mg s).n=(s.l.length:Int):=hE.2.1
 have hl:(mg s).l=s.l:=rfl
 rw [q3,hn,hl,List.drop_eq_nil_of_le (by omega),hE.1] at hk
 simpa using hk
def ab6:List LV→T LV
 | [.agg [.xl (.pair .str (.pair (.int .i64) (.pair (.int .i64) (.pair (.int .i64) (.pair (.pair (.int .i64) (.int .i64)) (.pair (.int .i64) (.pair (.int .i64) (.pair (.int .i64) (.pair (.int .i64) (.int .i64)))))))))) cs,.xl (.str) os,.xl (.pair .str (.pair (.int .i64) (.pair (.int .i64) (.int .i64)))) ks,.xl (.pair .str (.pair (.int .i64) (.pair (.int .i64) (.pair (.int .i64) (.pair (.int .i64) (.pair (.int .i64) (.pair (.int .i64) (.int .i64)))))))) gs,.xl (.pair .str (.int .i64)) bs]]=> .req ((List.length cs:Int)≤1000∧(List.length os:Int)≤1000∧(List.length ks:Int)≤1000∧(List.length gs:Int)≤1000∧(List.length bs:Int)≤1000) (.ok (.xl .str (gK cs os ks gs bs)))
 |_=> .no
noncomputable def XW:List LV→T LV:=gZ Tryz.prog Tryz.f98.params.toList ab6
theorem am8 (cs:List Cd) (os:List ByteArray) (ks:List Ko) (gs:List Ch) (bs:List Ba):bY Tryz.prog aQ (Il) fC (fun i=>if i=3 then EM.lp else if i=8 then EL.lp else if i=13 then EK.lp else if i=18 then EJ.lp else if i=23 then EI.lp else aF i) Tryz.f98 [.agg [.xl dZ cs,.xl .str os,.xl eP ks,.xl dR gs,.xl eU bs]]=.req (0=0∧0=List.length ([]:List ByteArray)) (.req (awO (⟨cs,(List.length cs:Int),(0:Int),cs,os,ks,gs,bs,([]:List ByteArray)⟩:iV)) (.rl (gQ (⟨cs,(List.length cs:Int),(0:Int),cs,os,ks,gs,bs,([]:List ByteArray)⟩:iV)).out (.req (awN (⟨os,(List.length os:Int),(0:Int),cs,os,ks,gs,bs,(gQ (⟨cs,(List.length cs:Int),(0:Int),cs,os,ks,gs,bs,([]:List ByteArray)⟩:iV)).out⟩:jD)) (.rl (iC (⟨os,(List.length os:Int),(0:Int),cs,os,ks,gs,bs,(gQ (⟨cs,(List.length cs:Int),(0:Int),cs,os,ks,gs,bs,([]:List ByteArray)⟩:iV)).out⟩:jD)).out (.req (awM (⟨ks,(List.length ks:Int),(0:Int),cs,os,ks,gs,bs,(iC (⟨os,(List.length os:Int),(0:Int),cs,os,ks,gs,bs,(gQ (⟨cs,(List.length cs:Int),(0:Int),cs,os,ks,gs,bs,([]:List ByteArray)⟩:iV)).out⟩:jD)).out⟩:jR)) (.rl (jc (⟨ks,(List.length ks:Int),(0:Int),cs,os,ks,gs,bs,(iC (⟨os,(List.length os:Int),(0:Int),cs,os,ks,gs,bs,(gQ (⟨cs,(List.length cs:Int),(0:Int),cs,os,ks,gs,bs,([]:List ByteArray)⟩:iV)).out⟩:jD)).out⟩:jR)).out (.req (awL (⟨gs,(List.length gs:Int),(0:Int),cs,os,ks,gs,bs,(jc (⟨ks,(List.length ks:Int),(0:Int),cs,os,ks,gs,bs,(iC (⟨os,(List.length os:Int),(0:Int),cs,os,ks,gs,bs,(gQ (⟨cs,(List.length cs:Int),(0:Int),cs,os,ks,gs,bs,([]:List ByteArray)⟩:iV)).out⟩:jD)).out⟩:jR)).out⟩:kS)) (.rl (jU (⟨gs,(List.length gs:Int),(0:Int),cs,os,ks,gs,bs,(jc (⟨ks,(List.length ks:Int),(0:Int),cs,os,ks,gs,bs,(iC (⟨os,(List.length os:Int),(0:Int),cs,os,ks,gs,bs,(gQ (⟨cs,(List.length cs:Int),(0:Int),cs,os,ks,gs,bs,([]:List ByteArray)⟩:iV)).out⟩:jD)).out⟩:jR)).out⟩:kS)).out (.req (awK (⟨bs,(List.length bs:Int),(0:Int),(jU (⟨gs,(List.length gs:Int),(0:Int),cs,os,ks,gs,bs,(jc (⟨ks,(List.length ks:Int),(0:Int),cs,os,ks,gs,bs,(iC (⟨os,(List.length os:Int),(0:Int),cs,os,ks,gs,bs,(gQ (⟨cs,(List.length cs:Int),(0:Int),cs,os,ks,gs,bs,([]:List ByteArray)⟩:iV)).out⟩:jD)).out⟩:jR)).out⟩:kS)).out⟩:mO)) (.req (0+(List.length (mg (⟨bs,(List.length bs:Int),(0:Int),(jU (⟨gs,(List.length gs:Int),(0:Int),cs,os,ks,gs,bs,(jc (⟨ks,(List.length ks:Int),(0:Int),cs,os,ks,gs,bs,(iC (⟨os,(List.length os:Int),(0:Int),cs,os,ks,gs,bs,(gQ (⟨cs,(List.length cs:Int),(0:Int),cs,os,ks,gs,bs,([]:List ByteArray)⟩:iV)).out⟩:jD)).out⟩:jR)).out⟩:kS)).out⟩:mO)).out)≤List.length (mg (⟨bs,(List.length bs:Int),(0:Int),(jU (⟨gs,(List.length gs:Int),(0:Int),cs,os,ks,gs,bs,(jc (⟨ks,(List.length ks:Int),(0:Int),cs,os,ks,gs,bs,(iC (⟨os,(List.length os:Int),(0:Int),cs,os,ks,gs,bs,(gQ (⟨cs,(List.length cs:Int),(0:Int),cs,os,ks,gs,bs,([]:List ByteArray)⟩:iV)).out⟩:jD)).out⟩:jR)).out⟩:kS)).out⟩:mO)).out) (.ok (.xl .str (((mg (⟨bs,(List.length bs:Int),(0:Int),(jU (⟨gs,(List.length gs:Int),(0:Int),cs,os,ks,gs,bs,(jc (⟨ks,(List.length ks:Int),(0:Int),cs,os,ks,gs,bs,(iC (⟨os,(List.length os:Int),(0:Int),cs,os,ks,gs,bs,(gQ (⟨cs,(List.length cs:Int),(0:Int),cs,os,ks,gs,bs,([]:List ByteArray)⟩:iV)).out⟩:jD)).out⟩:jR)).out⟩:kS)).out⟩:mO)).out.drop 0).take (List.length (mg (⟨bs,(List.length bs:Int),(0:Int),(jU (⟨gs,(List.length gs:Int),(0:Int),cs,os,ks,gs,bs,(jc (⟨ks,(List.length ks:Int),(0:Int),cs,os,ks,gs,bs,(iC (⟨os,(List.length os:Int),(0:Int),cs,os,ks,gs,bs,(gQ (⟨cs,(List.length cs:Int),(0:Int),cs,os,ks,gs,bs,([]:List ByteArray)⟩:iV)).out⟩:jD)).out⟩:jR)).out⟩:kS)).out⟩:mO)).out)))))))))))))):=by kernel_rfl
theorem arW:Valid Tryz.prog aQ 98 XW:=aI Tryz.func98 rfl KQ aH (L:=(fun i=>if i=3 then EM.lp else if i=8 then EL.lp else if i=13 then EK.lp else if i=18 then EJ.lp else if i=23 then EI.lp else aF i)) (fun b hb=>by
 rw [show aG _=[Be,Bd,Bc,A8,A7] by kernel_rfl] at hb
 simp only [List.mem_cons,List.not_mem_nil,or_false] at hb
 rcases hb with rfl|rfl|rfl|rfl|rfl
 ·exact alg
 ·exact alf
 ·exact ale
 ·exact ald
 ·exact alc) (fun args lv h=>by
 unfold ab6 at h
 split at h
 ·simp only [canL,canX]
  rw [am8]
  rename_i cs os ks gs bs
  obtain ⟨⟨hc,ho,hk,hg,hb⟩,rfl⟩:=h
  have hE0:UU ⟨cs,(List.length cs:Int),(0:Int),cs,os,ks,gs,bs,([]:List ByteArray)⟩:=⟨rfl,rfl,hc,by simp only;decide⟩
  have o0:=amB _ hE0
  refine ⟨⟨rfl,rfl⟩,⟨hE0,rfl,rfl⟩,?_⟩
  generalize (gQ ⟨cs,(List.length cs:Int),(0:Int),cs,os,ks,gs,bs,([]:List ByteArray)⟩).out=r0 at*
  have o0:r0=([]:List ByteArray)++cs.map (·.1):=o0
  have l0:(List.length r0:Int)≤1000:=by rw [o0];simp only [List.length_append,List.length_map,List.length_nil];omega
  have hE1:UR ⟨os,(List.length os:Int),(0:Int),cs,os,ks,gs,bs,r0⟩:=⟨rfl,rfl,ho,by simp only;omega⟩
  have o1:=amy _ hE1
  refine ⟨⟨rfl,rfl⟩,⟨hE1,rfl,rfl⟩,?_⟩
  generalize (iC ⟨os,(List.length os:Int),(0:Int),cs,os,ks,gs,bs,r0⟩).out=r1 at*
  have o1:r1=r0++os:=o1
  have l1:(List.length r1:Int)≤2000:=by rw [o1];simp only [List.length_append];omega
  have hE2:UQ ⟨ks,(List.length ks:Int),(0:Int),cs,os,ks,gs,bs,r1⟩:=⟨rfl,rfl,hk,by simp only;omega⟩
  have o2:=amw _ hE2
  refine ⟨⟨rfl,rfl⟩,⟨hE2,rfl,rfl⟩,?_⟩
  generalize (jc ⟨ks,(List.length ks:Int),(0:Int),cs,os,ks,gs,bs,r1⟩).out=r2 at*
  have o2:r2=r1++ks.map (·.1):=o2
  have l2:(List.length r2:Int)≤3000:=by rw [o2];simp only [List.length_append,List.length_map];omega
  have hE3:UO ⟨gs,(List.length gs:Int),(0:Int),cs,os,ks,gs,bs,r2⟩:=⟨rfl,rfl,hg,by simp only;omega⟩
  have o3:=amu _ hE3
  refine ⟨⟨rfl,rfl⟩,⟨hE3,rfl,rfl⟩,?_⟩
  generalize (jU ⟨gs,(List.length gs:Int),(0:Int),cs,os,ks,gs,bs,r2⟩).out=r3 at*
  have o3:r3=r2++gs.map (·.1):=o3
  have l3:(List.length r3:Int)≤4000:=by rw [o3];simp only [List.length_append,List.length_map];omega
  have hE4:UN ⟨bs,(List.length bs:Int),(0:Int),r3⟩:=⟨rfl,rfl,hb,by simp only;omega⟩
  have o4:=amr _ hE4
  refine ⟨⟨rfl,rfl⟩,⟨hE4,rfl,rfl⟩,?_⟩
  generalize (mg ⟨bs,(List.length bs:Int),(0:Int),r3⟩).out=r4 at*
  have o4:r4=r3++bs.map (·.1):=o4
  have l4:(List.length r4:Int)≤5000:=by rw [o4];simp only [List.length_append,List.length_map];omega
  refine ⟨by omega,?_⟩
  show LV.xl _ _=_
  rw [List.drop_zero,List.take_of_length_le (by omega),o4,o3,o2,o1,o0,List.nil_append]
  rfl
 ·cases h)
end Go.Proofs.YtlihnbimgclogaaGreatDoor
namespace Go.Proofs.YtlihnbimgclogaaGreatDoor
open Go.Sx
structure iW where
 r:Bool
 l:List Cd
 n:Int
 i:Int
 ak:List Cd
 aC:List ByteArray
 aj:List Ko
 au:List Ch
 aK:List Ba
def aBi (s:iW):List LV:=[.own 0 0,.v (.bool s.r),.xl dZ s.l,.v (.int .i64 s.n),.v (.int .i64 s.i)]
def aAl (s:iW):List aT:=[⟨[.xl dZ s.ak,.xl .str s.aC,.xl eP s.aj,.xl dR s.au,.xl eU s.aK],28,.cl,false⟩]
noncomputable def Am:Code:=((aG (Tryz.f100.body.getD .skip))[0]?).getD .skip
def YL (s:iW):T (Rd iW):=
 .br (decide (s.i<s.n)) (.req (0≤s.i∧s.i<(List.length s.l:Int)) (.req (0≤s.i) (.br (!(Eb s.i (fZ s.l s.i))) (.ok (.stop (.ret) {s with r:=false})) (.ok (.next {s with i:=(IntKind.i64.wrap (s.i+1))}))))) (.ok (.stop (.exit 0) s))
abbrev aqC (s:iW):=(YL s).rd s
def Jj (s:iW) (j:Int):Bool:=Eb j (fZ s.l j)
def ajX (s:iW):Prop:=s.i=0∧0≤s.n∧s.n≤1000∧s.n=(s.l.length:Int)
def LM (s:iW):Prop:=0≤s.i∧s.i≤s.n∧s.n≤1000∧(s.n=(s.l.length:Int))∧∀j:Nat,(j:Int)<s.i→Jj s j=true
def Ob (s:iW):Nat:=(s.n-s.i).toNat
def ajk (x:Ex) (_ s':iW):Prop:=(x=.exit 0∧∀j:Nat,(j:Int)<s'.n→Jj s' j=true)∨(x=.ret∧s'.r=false∧∃j:Nat,(j:Int)<s'.n∧Jj s' j=false)
theorem axw:∀s,ajX s→LM s:=by
 intro s h
 obtain ⟨h0,h1,h2,h3⟩:=h
 exact ⟨by omega,by omega,h2,h3,fun j hj=>by omega⟩
theorem arB (s:iW) (hI:LM s):bQ (fun s'=>LM s'∧Ob s'<Ob s) (fun x s'=>ajk x s s') (aqC s):=by
 unfold aqC YL
 dsimp only [T.rd,T.rl]
 obtain ⟨h0,h1,h2,h3,h4⟩:=hI
 refine ax (fun c1=>ax (fun c2=>?_) (fun c2=>?_)) (fun c1=>?_)
 ·have c1:s.i<s.n:=by simpa using c1
  refine .inr ⟨rfl,rfl,s.i.toNat,by simp only;omega,?_⟩
  rw [Int.toNat_of_nonneg (by omega)]
  have hg:Jj s s.i=false:=by unfold Jj;(first|(have c2:(!(Eb s.i (fZ s.l s.i)))=false:=c2;simpa using c2) |(have c2:(!(Eb s.i (fZ s.l s.i)))=true:=c2;simpa using c2))
  exact hg
 ·have c1:s.i<s.n:=by simpa using c1
  have hg:Jj s s.i=true:=by unfold Jj;(first|(have c2:(!(Eb s.i (fZ s.l s.i)))=false:=c2;simpa using c2) |(have c2:(!(Eb s.i (fZ s.l s.i)))=true:=c2;simpa using c2))
  rw [aN (x:=s.i+1) (by omega) (by omega)]
  refine ⟨⟨by simp only;omega,by simp only;omega,h2,h3,fun j hj=>?_⟩,by simp only [Ob];omega⟩
  by_cases hji:(j:Int)<s.i
  ·exact h4 j hji
  ·have:(j:Int)=s.i:=by simp only at hj;omega
   rw [this];exact hg
 ·have c1:s.n≤s.i:=by simpa using c1
  exact .inl ⟨rfl,fun j hj=>h4 j (by omega)⟩
def Eh:bT iW:=⟨0,95,[1,2,13,14,15],[],aBi,aAl,fun v b=>⟨x9 (v.getD 1 .junk),aS dZ (v.getD 2 .junk),gI (v.getD 3 .junk),gI (v.getD 4 .junk),aS dZ (aZ (aP b 0) 0),aS .str (aZ (aP b 0) 1),aS eP (aZ (aP b 0) 2),aS dR (aZ (aP b 0) 3),aS eU (aZ (aP b 0) 4)⟩,YL,fun s r=> {r with l:=s.l,n:=s.n,ak:=s.ak,aC:=s.aC,aj:=s.aj,au:=s.au,aK:=s.aK},fun s=>s,fun _ s=>s,[.ret,.exit 0],ajX,LM,Ob⟩
abbrev l7:=Eh.run
abbrev aa3:=Eh.kG
abbrev awj:=Eh.q
theorem asV (s:iW) (hI:LM s):(YL s).all (fun _=>True):=by
 refine ⟨fun c1=>⟨?_,?_,fun _=>trivial,fun _=>trivial⟩,fun _=>trivial⟩
 all_goals ((obtain ⟨h0,h1,h2,h3,h4⟩:=hI;simp at c1;omega))
noncomputable def KU:Specs:=bg [(126,XE),(127,uG),(128,XF)]
theorem SK:∀g S,KU g=some S→Valid Tryz.prog aQ g S:=aU (l:=[(126,XE),(127,uG),(128,XF)]) ⟨arG,Ns,arH,trivial⟩
theorem af2:Eh.Ok:=⟨fun s=>by kernel_rfl,fun s=>by kernel_rfl,fun s=>rfl,fun s t r=>rfl,fun s=>rfl,fun s=>by kernel_rfl⟩
theorem ae2:Eh.Pf (ajk):=⟨axw,fun _ _=>rfl,arB,asV⟩
theorem akO:bC Tryz.prog aQ (AN 0) (.loop Am) Eh.lp:=bT.snd af2 ae2 (aV (Γ:=KU) (K:=fC) (L:=aF) SK aH Am (fun b hb=>by rw [show aG Am=[] by kernel_rfl] at hb;cases hb)) (fun s=>by kernel_rfl)
theorem akr (s:iW) (hE:ajX s):∃s',LM s'∧ajk (aa3 s) s' (l7 s):=bT.fin af2 ae2 s hE
structure jO where
 r:Bool
 l:List Ko
 n:Int
 i:Int
 ak:List Cd
 aC:List ByteArray
 aj:List Ko
 au:List Ch
 aK:List Ba
 cards:List Int
def aBh (s:jO):List LV:=[.own 0 0,.v (.bool s.r),.om 1,.xl eP s.l,.v (.int .i64 s.n),.v (.int .i64 s.i)]
def aAk (s:jO):List aT:=[⟨[.xl dZ s.ak,.xl .str s.aC,.xl eP s.aj,.xl dR s.au,.xl eU s.aK],28,.cl,false⟩,⟨[],183,.st (.int .i64) s.cards,false⟩]
noncomputable def Ak:Code:=((aG (Tryz.f100.body.getD .skip))[1]?).getD .skip
def YK (s:jO):T (Rd jO):=
 .br (decide (s.i<s.n)) (.req (0≤s.i∧s.i<(List.length s.l:Int)) (.br ((!(inB (ng s.l s.i).2.1 (0:Int) (IntKind.i64.wrap ((List.length s.aC:Int)-1)))) ||((!(inB (ng s.l s.i).2.2.1 (1:Int) (9:Int))) ||((!(inB (ng s.l s.i).2.2.2 (1:Int) (1000000:Int))) ||(List.contains s.cards (ng s.l s.i).2.2.2)))) (.ok (.stop (.ret) {s with r:=false})) (.req (List.contains s.cards (ng s.l s.i).2.2.2=false) (.ok (.next {s with i:=(IntKind.i64.wrap (s.i+1)),cards:=(s.cards++[(ng s.l s.i).2.2.2])}))))) (.ok (.stop (.exit 2) s))
abbrev aqB (s:jO):=(YK s).rd s
def Ji (s:jO) (j:Int):Bool:=koV s.aC.length (ng s.l j)&&!(((s.l.take j.toNat).map (·.2.2.2)).contains (ng s.l j).2.2.2)
def ajW (s:jO):Prop:=s.i=0∧s.cards=[]∧s.n=(s.l.length:Int)∧s.n≤1000∧(s.aC.length:Int)≤1000
def LK (s:jO):Prop:=0≤s.i∧s.i≤s.n∧s.n=(s.l.length:Int)∧s.n≤1000∧((s.aC.length:Int)≤1000)∧s.cards=(s.l.take s.i.toNat).map (·.2.2.2)∧∀j:Nat,(j:Int)<s.i→Ji s j=true
def Oa (s:jO):Nat:=(s.n-s.i).toNat
def ajj (x:Ex) (_ s':jO):Prop:=(x=.exit 2∧∀j:Nat,(j:Int)<s'.n→Ji s' j=true)∨(x=.ret∧s'.r=false∧∃j:Nat,(j:Int)<s'.n∧Ji s' j=false)
theorem axv:∀s,ajW s→LK s:=by
 intro s h
 obtain ⟨h0,h1,h2,h3,h4⟩:=h
 exact ⟨by omega,by omega,h2,h3,h4,by rw [h0,h1];rfl,fun j hj=>by omega⟩
theorem arA (s:jO) (hI:LK s):bQ (fun s'=>LK s'∧Oa s'<Oa s) (fun x s'=>ajj x s s') (aqB s):=by
 unfold aqB YK
 dsimp only [T.rd,T.rl]
 obtain ⟨h0,h1,h2,h3,h4,h5,h6⟩:=hI
 refine ax (fun c1=>ax (fun c2=>?_) (fun c2=>?_)) (fun c1=>?_)
 ·have c1:s.i<s.n:=by simpa using c1
  refine .inr ⟨rfl,rfl,s.i.toNat,by simp only;omega,?_⟩
  rw [Int.toNat_of_nonneg h0]
  have hg:Ji s s.i=false:=by
   unfold Ji
   (rw [aN (by omega) (by omega),h5] at c2;unfold koV;revert c2;generalize inB (ng s.l s.i).2.1 _ _=a;generalize inB (ng s.l s.i).2.2.1 _ _=b;generalize inB (ng s.l s.i).2.2.2 _ _=c;generalize List.contains (α:=Int) _ _=d;cases a<;>cases b<;>cases c<;>cases d<;>simp)
  exact hg
 ·have c1:s.i<s.n:=by simpa using c1
  have hg:Ji s s.i=true:=by
   unfold Ji
   (rw [aN (by omega) (by omega),h5] at c2;unfold koV;revert c2;generalize inB (ng s.l s.i).2.1 _ _=a;generalize inB (ng s.l s.i).2.2.1 _ _=b;generalize inB (ng s.l s.i).2.2.2 _ _=c;generalize List.contains (α:=Int) _ _=d;cases a<;>cases b<;>cases c<;>cases d<;>simp)
  rw [aN (x:=s.i+1) (by omega) (by omega)]
  refine ⟨⟨by simp only;omega,by simp only;omega,h2,h3,h4,?_,fun j hj=>?_⟩,by simp only [Oa];omega⟩
  ·simp only
   rw [(Ip h0 (show s.i<s.l.length by omega)).2,h5]
   try rw [List.map_append]
   try rfl
  ·by_cases hji:(j:Int)<s.i
   ·exact h6 j hji
   ·have:(j:Int)=s.i:=by simp only at hj;omega
    rw [this];exact hg
 ·have c1:s.n≤s.i:=by simpa using c1
  exact .inl ⟨rfl,fun j hj=>h6 j (by omega)⟩
def Eg:bT jO:=⟨0,95,[1,2,5,27,28,29],[],aBh,aAk,fun v b=>⟨x9 (v.getD 1 .junk),aS eP (v.getD 3 .junk),gI (v.getD 4 .junk),gI (v.getD 5 .junk),aS dZ (aZ (aP b 0) 0),aS .str (aZ (aP b 0) 1),aS eP (aZ (aP b 0) 2),aS dR (aZ (aP b 0) 3),aS eU (aZ (aP b 0) 4),gSe (.int .i64) (aP b 1)⟩,YK,fun s r=> {r with l:=s.l,n:=s.n,ak:=s.ak,aC:=s.aC,aj:=s.aj,au:=s.au,aK:=s.aK},fun s=>s,fun _ s=>s,[.ret,.exit 2],ajW,LK,Oa⟩
abbrev qI:=Eg.run
abbrev aa2:=Eg.kG
abbrev awi:=Eg.q
theorem asU (s:jO) (hI:LK s):(YK s).all (fun _=>True):=by
 refine ⟨fun c1=>⟨?_,fun _=>trivial,fun c2=>⟨?_,trivial⟩⟩,fun _=>trivial⟩
 all_goals ((obtain ⟨h0,h1,h2,h3,h4,h5,h6⟩:=hI;first|(simp at c1;omega) |(simp only [Bool.or_eq_false_iff] at c2;exact c2.2.2.2)))
theorem af0:Eg.Ok:=⟨fun s=>by kernel_rfl,fun s=>by kernel_rfl,fun s=>rfl,fun s t r=>rfl,fun s=>rfl,fun s=>by kernel_rfl⟩
theorem ae1:Eg.Pf (ajj):=⟨axv,fun _ _=>rfl,arA,asU⟩
theorem akN:bC Tryz.prog aQ (AN 0) (.loop Ak) Eg.lp:=bT.snd af0 ae1 (aV (Γ:=KU) (K:=fC) (L:=aF) SK aH Ak (fun b hb=>by rw [show aG Ak=[] by kernel_rfl] at hb;cases hb)) (fun s=>by kernel_rfl)
theorem akq (s:jO) (hE:ajW s):∃s',LK s'∧ajj (aa2 s) s' (qI s):=bT.fin af0 ae1 s hE
structure lG where
 r:Bool
 l:List Ch
 n:Int
 i:Int
 ak:List Cd
 aC:List ByteArray
 aj:List Ko
 au:List Ch
 aK:List Ba
def aBg (s:lG):List LV:=[.own 0 0,.v (.bool s.r),.xl dR s.l,.v (.int .i64 s.n),.v (.int .i64 s.i)]
def aAj (s:lG):List aT:=[⟨[.xl dZ s.ak,.xl .str s.aC,.xl eP s.aj,.xl dR s.au,.xl eU s.aK],28,.cl,false⟩]
noncomputable def Aj:Code:=((aG (Tryz.f100.body.getD .skip))[2]?).getD .skip
def YJ (s:lG):T (Rd lG):=
 .br (decide (s.i<s.n)) (.req (0≤s.i∧s.i<(List.length s.l:Int)) (.req ((List.length s.ak:Int)≤1000∧(List.length s.aC:Int)≤1000) (.br (!(FU s.ak.length s.aC.length (bF s.l s.i))) (.ok (.stop (.ret) {s with r:=false})) (.ok (.next {s with i:=(IntKind.i64.wrap (s.i+1))}))))) (.ok (.stop (.exit 4) s))
abbrev aqA (s:lG):=(YJ s).rd s
def Jh (s:lG) (j:Int):Bool:=FU s.ak.length s.aC.length (bF s.l j)
def ajV (s:lG):Prop:=s.i=0∧0≤s.n∧s.n≤1000∧s.n=(s.l.length:Int)∧(s.ak.length:Int)≤1000∧(s.aC.length:Int)≤1000
def LJ (s:lG):Prop:=0≤s.i∧s.i≤s.n∧s.n≤1000∧(s.n=(s.l.length:Int)∧(s.ak.length:Int)≤1000∧(s.aC.length:Int)≤1000)∧∀j:Nat,(j:Int)<s.i→Jh s j=true
def N9 (s:lG):Nat:=(s.n-s.i).toNat
def aji (x:Ex) (_ s':lG):Prop:=(x=.exit 4∧∀j:Nat,(j:Int)<s'.n→Jh s' j=true)∨(x=.ret∧s'.r=false∧∃j:Nat,(j:Int)<s'.n∧Jh s' j=false)
theorem axu:∀s,ajV s→LJ s:=by
 intro s h
 obtain ⟨h0,h1,h2,h3⟩:=h
 exact ⟨by omega,by omega,h2,h3,fun j hj=>by omega⟩
theorem arz (s:lG) (hI:LJ s):bQ (fun s'=>LJ s'∧N9 s'<N9 s) (fun x s'=>aji x s s') (aqA s):=by
 unfold aqA YJ
 dsimp only [T.rd,T.rl]
 obtain ⟨h0,h1,h2,h3,h4⟩:=hI
 refine ax (fun c1=>ax (fun c2=>?_) (fun c2=>?_)) (fun c1=>?_)
 ·have c1:s.i<s.n:=by simpa using c1
  refine .inr ⟨rfl,rfl,s.i.toNat,by simp only;omega,?_⟩
  rw [Int.toNat_of_nonneg (by omega)]
  have hg:Jh s s.i=false:=by unfold Jh;(first|(have c2:(!(FU s.ak.length s.aC.length (bF s.l s.i)))=false:=c2;simpa using c2) |(have c2:(!(FU s.ak.length s.aC.length (bF s.l s.i)))=true:=c2;simpa using c2))
  exact hg
 ·have c1:s.i<s.n:=by simpa using c1
  have hg:Jh s s.i=true:=by unfold Jh;(first|(have c2:(!(FU s.ak.length s.aC.length (bF s.l s.i)))=false:=c2;simpa using c2) |(have c2:(!(FU s.ak.length s.aC.length (bF s.l s.i)))=true:=c2;simpa using c2))
  rw [aN (x:=s.i+1) (by omega) (by omega)]
  refine ⟨⟨by simp only;omega,by simp only;omega,h2,h3,fun j hj=>?_⟩,by simp only [N9];omega⟩
  by_cases hji:(j:Int)<s.i
  ·exact h4 j hji
  ·have:(j:Int)=s.i:=by simp only at hj;omega
   rw [this];exact hg
 ·have c1:s.n≤s.i:=by simpa using c1
  exact .inl ⟨rfl,fun j hj=>h4 j (by omega)⟩
def Ef:bT lG:=⟨0,95,[1,2,67,68,69],[],aBg,aAj,fun v b=>⟨x9 (v.getD 1 .junk),aS dR (v.getD 2 .junk),gI (v.getD 3 .junk),gI (v.getD 4 .junk),aS dZ (aZ (aP b 0) 0),aS .str (aZ (aP b 0) 1),aS eP (aZ (aP b 0) 2),aS dR (aZ (aP b 0) 3),aS eU (aZ (aP b 0) 4)⟩,YJ,fun s r=> {r with l:=s.l,n:=s.n,ak:=s.ak,aC:=s.aC,aj:=s.aj,au:=s.au,aK:=s.aK},fun s=>s,fun _ s=>s,[.ret,.exit 4],ajV,LJ,N9⟩
abbrev zk:=Ef.run
abbrev aa1:=Ef.kG
abbrev awh:=Ef.q
theorem asT (s:lG) (hI:LJ s):(YJ s).all (fun _=>True):=by
 refine ⟨fun c1=>⟨?_,?_,fun _=>trivial,fun _=>trivial⟩,fun _=>trivial⟩
 all_goals ((obtain ⟨h0,h1,h2,h3,h4⟩:=hI;simp at c1;first|omega|exact h3.2))
theorem afZ:Ef.Ok:=⟨fun s=>by kernel_rfl,fun s=>by kernel_rfl,fun s=>rfl,fun s t r=>rfl,fun s=>rfl,fun s=>by kernel_rfl⟩
theorem ae0:Ef.Pf (aji):=⟨axu,fun _ _=>rfl,arz,asT⟩
theorem akM:bC Tryz.prog aQ (AN 0) (.loop Aj) Ef.lp:=bT.snd afZ ae0 (aV (Γ:=KU) (K:=fC) (L:=aF) SK aH Aj (fun b hb=>by rw [show aG Aj=[] by kernel_rfl] at hb;cases hb)) (fun s=>by kernel_rfl)
theorem akp (s:lG) (hE:ajV s):∃s',LJ s'∧aji (aa1 s) s' (zk s):=bT.fin afZ ae0 s hE
structure oG where
 r:Bool
 l:List Ba
 n:Int
 i:Int
 ak:List Cd
 aC:List ByteArray
 aj:List Ko
 au:List Ch
 aK:List Ba
def aBf (s:oG):List LV:=[.own 0 0,.v (.bool s.r),.xl eU s.l,.v (.int .i64 s.n),.v (.int .i64 s.i)]
def aAi (s:oG):List aT:=[⟨[.xl dZ s.ak,.xl .str s.aC,.xl eP s.aj,.xl dR s.au,.xl eU s.aK],28,.cl,false⟩]
noncomputable def Ai:Code:=((aG (Tryz.f100.body.getD .skip))[3]?).getD .skip
def YI (s:oG):T (Rd oG):=
 .br (decide (s.i<s.n)) (.req (0≤s.i∧s.i<(List.length s.l:Int)) (.br (!(inB (Cc s.l s.i).2 (0:Int) (IntKind.i64.wrap ((List.length s.au:Int)-1)))) (.ok (.stop (.ret) {s with r:=false})) (.ok (.next {s with i:=(IntKind.i64.wrap (s.i+1))})))) (.ok (.stop (.exit 6) s))
abbrev aqz (s:oG):=(YI s).rd s
def Jg (s:oG) (j:Int):Bool:=inB (Cc s.l j).2 0 (IntKind.i64.wrap ((List.length s.au:Int)-1))
def ajU (s:oG):Prop:=s.i=0∧0≤s.n∧s.n≤1000∧s.n=(s.l.length:Int)
def LH (s:oG):Prop:=0≤s.i∧s.i≤s.n∧s.n≤1000∧(s.n=(s.l.length:Int))∧∀j:Nat,(j:Int)<s.i→Jg s j=true
def N8 (s:oG):Nat:=(s.n-s.i).toNat
def ajh (x:Ex) (_ s':oG):Prop:=(x=.exit 6∧∀j:Nat,(j:Int)<s'.n→Jg s' j=true)∨(x=.ret∧s'.r=false∧∃j:Nat,(j:Int)<s'.n∧Jg s' j=false)
theorem axt:∀s,ajU s→LH s:=by
 intro s h
 obtain ⟨h0,h1,h2,h3⟩:=h
 exact ⟨by omega,by omega,h2,h3,fun j hj=>by omega⟩
theorem arx (s:oG) (hI:LH s):bQ (fun s'=>LH s'∧N8 s'<N8 s) (fun x s'=>ajh x s s') (aqz s):=by
 unfold aqz YI
 dsimp only [T.rd,T.rl]
 obtain ⟨h0,h1,h2,h3,h4⟩:=hI
 refine ax (fun c1=>ax (fun c2=>?_) (fun c2=>?_)) (fun c1=>?_)
 ·have c1:s.i<s.n:=by simpa using c1
  refine .inr ⟨rfl,rfl,s.i.toNat,by simp only;omega,?_⟩
  rw [Int.toNat_of_nonneg (by omega)]
  have hg:Jg s s.i=false:=by unfold Jg;(first|(have c2:(!(inB (Cc s.l s.i).2 0 (IntKind.i64.wrap ((List.length s.au:Int)-1))))=false:=c2;simpa using c2) |(have c2:(!(inB (Cc s.l s.i).2 0 (IntKind.i64.wrap ((List.length s.au:Int)-1))))=true:=c2;simpa using c2))
  exact hg
 ·have c1:s.i<s.n:=by simpa using c1
  have hg:Jg s s.i=true:=by unfold Jg;(first|(have c2:(!(inB (Cc s.l s.i).2 0 (IntKind.i64.wrap ((List.length s.au:Int)-1))))=false:=c2;simpa using c2) |(have c2:(!(inB (Cc s.l s.i).2 0 (IntKind.i64.wrap ((List.length s.au:Int)-1))))=true:=c2;simpa using c2))
  rw [aN (x:=s.i+1) (by omega) (by omega)]
  refine ⟨⟨by simp only;omega,by simp only;omega,h2,h3,fun j hj=>?_⟩,by simp only [N8];omega⟩
  by_cases hji:(j:Int)<s.i
  ·exact h4 j hji
  ·have:(j:Int)=s.i:=by simp only at hj;omega
   rw [this];exact hg
 ·have c1:s.n≤s.i:=by simpa using c1
  exact .inl ⟨rfl,fun j hj=>h4 j (by omega)⟩
def Ee:bT oG:=⟨0,95,[1,2,79,80,81],[],aBf,aAi,fun v b=>⟨x9 (v.getD 1 .junk),aS eU (v.getD 2 .junk),gI (v.getD 3 .junk),gI (v.getD 4 .junk),aS dZ (aZ (aP b 0) 0),aS .str (aZ (aP b 0) 1),aS eP (aZ (aP b 0) 2),aS dR (aZ (aP b 0) 3),aS eU (aZ (aP b 0) 4)⟩,YI,fun s r=> {r with l:=s.l,n:=s.n,ak:=s.ak,aC:=s.aC,aj:=s.aj,au:=s.au,aK:=s.aK},fun s=>s,fun _ s=>s,[.ret,.exit 6],ajU,LH,N8⟩
abbrev Zt:=Ee.run
abbrev aa0:=Ee.kG
abbrev awg:=Ee.q
theorem asR (s:oG) (hI:LH s):(YI s).all (fun _=>True):=by
 refine ⟨fun c1=>⟨?_,fun _=>trivial,fun _=>trivial⟩,fun _=>trivial⟩
 ·(obtain ⟨h0,h1,h2,h3,h4⟩:=hI;simp at c1;omega)
theorem afY:Ee.Ok:=⟨fun s=>by kernel_rfl,fun s=>by kernel_rfl,fun s=>rfl,fun s t r=>rfl,fun s=>rfl,fun s=>by kernel_rfl⟩
theorem aeZ:Ee.Pf (ajh):=⟨axt,fun _ _=>rfl,arx,asR⟩
theorem akL:bC Tryz.prog aQ (AN 0) (.loop Ai) Ee.lp:=bT.snd afY aeZ (aV (Γ:=KU) (K:=fC) (L:=aF) SK aH Ai (fun b hb=>by rw [show aG Ai=[] by kernel_rfl] at hb;cases hb)) (fun s=>by kernel_rfl)
theorem ako (s:oG) (hE:ajU s):∃s',LH s'∧ajh (aa0 s) s' (Zt s):=bT.fin afY aeZ s hE
def abH:List LV→T LV
 | [.agg [.xl (.pair .str (.pair (.int .i64) (.pair (.int .i64) (.pair (.int .i64) (.pair (.pair (.int .i64) (.int .i64)) (.pair (.int .i64) (.pair (.int .i64) (.pair (.int .i64) (.pair (.int .i64) (.int .i64)))))))))) cs,.xl (.str) os,.xl (.pair .str (.pair (.int .i64) (.pair (.int .i64) (.int .i64)))) ks,.xl (.pair .str (.pair (.int .i64) (.pair (.int .i64) (.pair (.int .i64) (.pair (.int .i64) (.pair (.int .i64) (.pair (.int .i64) (.int .i64)))))))) gs,.xl (.pair .str (.int .i64)) bs]]=> .req ((List.length cs:Int)≤1000∧(List.length os:Int)≤1000∧(List.length ks:Int)≤1000∧(List.length gs:Int)≤1000∧(List.length bs:Int)≤1000) (.ok (.v (.bool (U4 cs os ks gs bs))))
 |_=> .no
noncomputable def XD:List LV→T LV:=gZ Tryz.prog Tryz.f100.params.toList abH
theorem amI (cs:List Cd) (os:List ByteArray) (ks:List Ko) (gs:List Ch) (bs:List Ba):bY Tryz.prog aQ (KU) fC (fun i=>if i=2 then Eh.lp else if i=9 then Eg.lp else if i=16 then Ef.lp else if i=22 then Ee.lp else aF i) Tryz.f100 [.agg [.xl dZ cs,.xl .str os,.xl eP ks,.xl dR gs,.xl eU bs]]=.req (awj (⟨false,cs,(List.length cs:Int),(0:Int),cs,os,ks,gs,bs⟩:iW)) (.br (iQ (aa3 (⟨false,cs,(List.length cs:Int),(0:Int),cs,os,ks,gs,bs⟩:iW)) (.ret)) (.ok (.v (.bool (l7 (⟨false,cs,(List.length cs:Int),(0:Int),cs,os,ks,gs,bs⟩:iW)).r))) (.req (awi (⟨(l7 (⟨false,cs,(List.length cs:Int),(0:Int),cs,os,ks,gs,bs⟩:iW)).r,ks,(List.length ks:Int),(0:Int),cs,os,ks,gs,bs,([]:List Int)⟩:jO)) (.br (iQ (aa2 (⟨(l7 (⟨false,cs,(List.length cs:Int),(0:Int),cs,os,ks,gs,bs⟩:iW)).r,ks,(List.length ks:Int),(0:Int),cs,os,ks,gs,bs,([]:List Int)⟩:jO)) (.ret)) (.ok (.v (.bool (qI (⟨(l7 (⟨false,cs,(List.length cs:Int),(0:Int),cs,os,ks,gs,bs⟩:iW)).r,ks,(List.length ks:Int),(0:Int),cs,os,ks,gs,bs,([]:List Int)⟩:jO)).r))) (.req (awh (⟨(qI (⟨(l7 (⟨false,cs,(List.length cs:Int),(0:Int),cs,os,ks,gs,bs⟩:iW)).r,ks,(List.length ks:Int),(0:Int),cs,os,ks,gs,bs,([]:List Int)⟩:jO)).r,gs,(List.length gs:Int),(0:Int),cs,os,ks,gs,bs⟩:lG)) (.br (iQ (aa1 (⟨(qI (⟨(l7 (⟨false,cs,(List.length cs:Int),(0:Int),cs,os,ks,gs,bs⟩:iW)).r,ks,(List.length ks:Int),(0:Int),cs,os,ks,gs,bs,([]:List Int)⟩:jO)).r,gs,(List.length gs:Int),(0:Int),cs,os,ks,gs,bs⟩:lG)) (.ret)) (.ok (.v (.bool (zk (⟨(qI (⟨(l7 (⟨false,cs,(List.length cs:Int),(0:Int),cs,os,ks,gs,bs⟩:iW)).r,ks,(List.length ks:Int),(0:Int),cs,os,ks,gs,bs,([]:List Int)⟩:jO)).r,gs,(List.length gs:Int),(0:Int),cs,os,ks,gs,bs⟩:lG)).r))) (.req (awg (⟨(zk (⟨(qI (⟨(l7 (⟨false,cs,(List.length cs:Int),(0:Int),cs,os,ks,gs,bs⟩:iW)).r,ks,(List.length ks:Int),(0:Int),cs,os,ks,gs,bs,([]:List Int)⟩:jO)).r,gs,(List.length gs:Int),(0:Int),cs,os,ks,gs,bs⟩:lG)).r,bs,(List.length bs:Int),(0:Int),cs,os,ks,gs,bs⟩:oG)) (.br (iQ (aa0 (⟨(zk (⟨(qI (⟨(l7 (⟨false,cs,(List.length cs:Int),(0:Int),cs,os,ks,gs,bs⟩:iW)).r,ks,(List.length ks:Int),(0:Int),cs,os,ks,gs,bs,([]:List Int)⟩:jO)).r,gs,(List.length gs:Int),(0:Int),cs,os,ks,gs,bs⟩:lG)).r,bs,(List.length bs:Int),(0:Int),cs,os,ks,gs,bs⟩:oG)) (.ret)) (.ok (.v (.bool (Zt (⟨(zk (⟨(qI (⟨(l7 (⟨false,cs,(List.length cs:Int),(0:Int),cs,os,ks,gs,bs⟩:iW)).r,ks,(List.length ks:Int),(0:Int),cs,os,ks,gs,bs,([]:List Int)⟩:jO)).r,gs,(List.length gs:Int),(0:Int),cs,os,ks,gs,bs⟩:lG)).r,bs,(List.length bs:Int),(0:Int),cs,os,ks,gs,bs⟩:oG)).r))) (.ok (.v (.bool true)))))))))):=by kernel_rfl
theorem arF:Valid Tryz.prog aQ 100 XD:=aI Tryz.func100 rfl SK aH (L:=(fun i=>if i=2 then Eh.lp else if i=9 then Eg.lp else if i=16 then Ef.lp else if i=22 then Ee.lp else aF i)) (fun b hb=>by
 rw [show aG _=[Am,Ak,Aj,Ai] by kernel_rfl] at hb
 simp only [List.mem_cons,List.not_mem_nil,or_false] at hb
 rcases hb with rfl|rfl|rfl|rfl
 ·exact akO
 ·exact akN
 ·exact akM
 ·exact akL) (fun args lv h=>by
 unfold abH at h
 split at h
 ·simp only [canL,canX]
  rw [amI]
  rename_i cs os ks gs bs
  obtain ⟨⟨hc,ho,hk,hg,hb⟩,rfl⟩:=h
  refine nP ⟨⟨rfl,by simp only;omega,hc,rfl⟩,rfl,rfl⟩ (fun hE0=>?_)
  obtain ⟨s',_,hq⟩:=akr _ hE0.1
  rcases hq with ⟨q1,q2⟩ |⟨q1,q2,j,q3,q4⟩
  rotate_left
  ·rw [q1,q2]
   refine ⟨fun _=>congrArg (fun z=>LV.v (.bool z)) ?_,fun h=>by cases h⟩
   unfold U4
   rw [tZ (f:=fun j=>Eb j (fZ cs j)) j q3 q4]
   rfl
  rw [q1]
  refine ⟨fun h=>(by cases h),fun _=>?_⟩
  have g0:JK cs.length (fun j=>Eb j (fZ cs j))=true:=gm.2 q2
  refine nP ⟨⟨rfl,rfl,rfl,hk,ho⟩,rfl,rfl⟩ (fun hE1=>?_)
  obtain ⟨s',_,hq⟩:=akq _ hE1.1
  rcases hq with ⟨q1,q2⟩ |⟨q1,q2,j,q3,q4⟩
  rotate_left
  ·rw [q1,q2]
   refine ⟨fun _=>congrArg (fun z=>LV.v (.bool z)) ?_,fun h=>by cases h⟩
   unfold U4
   have hn:(ks.all (koV os.length)&&once (ks.map (·.2.2.2)))=false:=by
    rw [Bool.eq_false_iff];intro hx
    have:=(kM (d:=(emp,0,0,0))).2 hx j q3
    exact Bool.noConfusion (this.symm.trans q4)
   rw [g0,Bool.true_and,←Bool.and_assoc,hn]
   rfl
  rw [q1]
  refine ⟨fun h=>(by cases h),fun _=>?_⟩
  have g1:(ks.all (koV os.length)&&once (ks.map (·.2.2.2)))=true:=(kM (d:=(emp,0,0,0))).1 q2
  refine nP ⟨⟨rfl,by simp only;omega,hg,rfl,hc,ho⟩,rfl,rfl⟩ (fun hE2=>?_)
  obtain ⟨s',_,hq⟩:=akp _ hE2.1
  rcases hq with ⟨q1,q2⟩ |⟨q1,q2,j,q3,q4⟩
  rotate_left
  ·rw [q1,q2]
   refine ⟨fun _=>congrArg (fun z=>LV.v (.bool z)) ?_,fun h=>by cases h⟩
   unfold U4
   have hn:gs.all (FU cs.length os.length)=false:=by
    rw [Bool.eq_false_iff];intro hx
    have:=(jG (d:=(emp,0,0,0,0,0,0,0))).2 hx j q3
    exact Bool.noConfusion (this.symm.trans q4)
   rw [g0,Bool.true_and,←Bool.and_assoc,g1,hn]
   rfl
  rw [q1]
  refine ⟨fun h=>(by cases h),fun _=>?_⟩
  have g2:gs.all (FU cs.length os.length)=true:=(jG (d:=(emp,0,0,0,0,0,0,0))).1 q2
  have hw:=aN (x:=(List.length gs:Int)-1) (by omega) (by omega)
  refine nP ⟨⟨rfl,by simp only;omega,hb,rfl⟩,rfl,rfl⟩ (fun hE3=>?_)
  obtain ⟨s',_,hq⟩:=ako _ hE3.1
  rcases hq with ⟨q1,q2⟩ |⟨q1,q2,j,q3,q4⟩
  rotate_left
  ·rw [q1,q2]
   refine ⟨fun _=>congrArg (fun z=>LV.v (.bool z)) ?_,fun h=>by cases h⟩
   unfold U4
   have hn:bs.all (fun b=>inB b.2 0 ((gs.length:Int)-1))=false:=by
    rw [Bool.eq_false_iff];intro hx
    have:=(jG (d:=(emp,0))).2 hx j q3
    have q4:inB (Cc bs j).2 0 (IntKind.i64.wrap ((List.length gs:Int)-1))=false:=q4
    rw [hw] at q4
    exact Bool.noConfusion (this.symm.trans q4)
   rw [g0,Bool.true_and,←Bool.and_assoc,g1,g2,hn]
   rfl
  rw [q1]
  refine ⟨fun h=>(by cases h),fun _=>?_⟩
  have g3:bs.all (fun b=>inB b.2 0 ((gs.length:Int)-1))=true:=(jG (d:=(emp,0))).1 (fun j hj=>by
   have:inB (Cc bs j).2 0 (IntKind.i64.wrap ((List.length gs:Int)-1))=true:=q2 j hj
   rw [hw] at this
   exact this)
  refine congrArg (fun z=>LV.v (.bool z)) ?_
  unfold U4
  rw [g0,Bool.true_and,←Bool.and_assoc,g1,g2,g3]
  rfl
 ·cases h)
end Go.Proofs.YtlihnbimgclogaaGreatDoor
namespace Go.Proofs.YtlihnbimgclogaaGreatDoor
open Go.Sx
structure wE where
 r:Bool
 l:List ByteArray
 n:Int
 i:Int
 ak:List Cd
 aC:List ByteArray
 aj:List Ko
 au:List Ch
 aK:List Ba
 seen:List ByteArray
def aCT (s:wE):List LV:=[.own 0 0,.v (.bool s.r),.om 1,.xl .str s.l,.v (.int .i64 s.n),.v (.int .i64 s.i)]
def aCL (s:wE):List aT:=[⟨[.xl dZ s.ak,.xl .str s.aC,.xl eP s.aj,.xl dR s.au,.xl eU s.aK],28,.cl,false⟩,⟨[],149,.st .str s.seen,false⟩]
noncomputable def FW:Code:=((aG (Tryz.f53.body.getD .skip))[0]?).getD .skip
def akD (s:wE):T (Rd wE):=
 .br (decide (s.i<s.n)) (.req (0≤s.i∧s.i<(List.length s.l:Int)) (.br ((!(nameB (gS s.l s.i))) ||(List.contains s.seen (gS s.l s.i))) (.ok (.stop (.ret) {s with r:=false})) (.req (List.contains s.seen (gS s.l s.i)=false) (.ok (.next {s with i:=(IntKind.i64.wrap (s.i+1)),seen:=(s.seen++[(gS s.l s.i)])}))))) (.ok (.stop (.exit 0) s))
abbrev azG (s:wE):=(akD s).rd s
def Yr (s:wE) (j:Int):Bool:=nameB (gS s.l j)&&!(((s.l.take j.toNat).map id).contains (gS s.l j))
def awk (s:wE):Prop:=s.i=0∧s.seen=[]∧s.n=(s.l.length:Int)∧s.n≤1000∧True
def adY (s:wE):Prop:=0≤s.i∧s.i≤s.n∧s.n=(s.l.length:Int)∧s.n≤1000∧(True)∧s.seen=(s.l.take s.i.toNat).map id∧∀j:Nat,(j:Int)<s.i→Yr s j=true
def ZT (s:wE):Nat:=(s.n-s.i).toNat
def av7 (x:Ex) (_ s':wE):Prop:=(x=.exit 0∧∀j:Nat,(j:Int)<s'.n→Yr s' j=true)∨(x=.ret∧s'.r=false∧∃j:Nat,(j:Int)<s'.n∧Yr s' j=false)
theorem aCk:∀s,awk s→adY s:=by
 intro s h
 obtain ⟨h0,h1,h2,h3,h4⟩:=h
 exact ⟨by omega,by omega,h2,h3,h4,by rw [h0,h1];rfl,fun j hj=>by omega⟩
theorem axO (s:wE) (hI:adY s):bQ (fun s'=>adY s'∧ZT s'<ZT s) (fun x s'=>av7 x s s') (azG s):=by
 unfold azG akD
 dsimp only [T.rd,T.rl]
 obtain ⟨h0,h1,h2,h3,h4,h5,h6⟩:=hI
 refine ax (fun c1=>ax (fun c2=>?_) (fun c2=>?_)) (fun c1=>?_)
 ·have c1:s.i<s.n:=by simpa using c1
  refine .inr ⟨rfl,rfl,s.i.toNat,by simp only;omega,?_⟩
  rw [Int.toNat_of_nonneg h0]
  have hg:Yr s s.i=false:=by
   unfold Yr
   (rw [h5] at c2;revert c2;generalize nameB _=a;generalize List.contains (α:=ByteArray) _ _=d;cases a<;>cases d<;>simp)
  exact hg
 ·have c1:s.i<s.n:=by simpa using c1
  have hg:Yr s s.i=true:=by
   unfold Yr
   (rw [h5] at c2;revert c2;generalize nameB _=a;generalize List.contains (α:=ByteArray) _ _=d;cases a<;>cases d<;>simp)
  rw [aN (x:=s.i+1) (by omega) (by omega)]
  refine ⟨⟨by simp only;omega,by simp only;omega,h2,h3,h4,?_,fun j hj=>?_⟩,by simp only [ZT];omega⟩
  ·simp only
   rw [(uy h0 (show s.i<s.l.length by omega)).2,h5]
   try rw [List.map_append]
   try rfl
  ·by_cases hji:(j:Int)<s.i
   ·exact h6 j hji
   ·have:(j:Int)=s.i:=by simp only at hj;omega
    rw [this];exact hg
 ·have c1:s.n≤s.i:=by simpa using c1
  exact .inl ⟨rfl,fun j hj=>h6 j (by omega)⟩
def UZ:bT wE:=⟨0,61,[1,2,3,42,43,44],[],aCT,aCL,fun v b=>⟨x9 (v.getD 1 .junk),aS .str (v.getD 3 .junk),gI (v.getD 4 .junk),gI (v.getD 5 .junk),aS dZ (aZ (aP b 0) 0),aS .str (aZ (aP b 0) 1),aS eP (aZ (aP b 0) 2),aS dR (aZ (aP b 0) 3),aS eU (aZ (aP b 0) 4),gSe .str (aP b 1)⟩,akD,fun s r=> {r with l:=s.l,n:=s.n,ak:=s.ak,aC:=s.aC,aj:=s.aj,au:=s.au,aK:=s.aK},fun s=>s,fun _ s=>s,[.ret,.exit 0],awk,adY,ZT⟩
abbrev aeJ:=UZ.run
abbrev aip:=UZ.kG
abbrev aAc:=UZ.q
theorem ax5 (s:wE) (hI:adY s):(akD s).all (fun _=>True):=by
 refine ⟨fun c1=>⟨?_,fun _=>trivial,fun c2=>⟨?_,trivial⟩⟩,fun _=>trivial⟩
 all_goals ((obtain ⟨h0,h1,h2,h3,h4,h5,h6⟩:=hI;first|(simp at c1;omega) |(simp only [Bool.or_eq_false_iff] at c2;exact c2.2)))
noncomputable def aib:Specs:=bg [(98,XW),(99,Ya),(100,XD)]
theorem aqj:∀g S,aib g=some S→Valid Tryz.prog aQ g S:=aU (l:=[(98,XW),(99,Ya),(100,XD)]) ⟨arW,ar8,arF,trivial⟩
theorem apz:UZ.Ok:=⟨fun s=>by kernel_rfl,fun s=>by kernel_rfl,fun s=>rfl,fun s t r=>rfl,fun s=>rfl,fun s=>by kernel_rfl⟩
theorem apr:UZ.Pf (av7):=⟨aCk,fun _ _=>rfl,axO,ax5⟩
theorem asz:bC Tryz.prog aQ (AN 0) (.loop FW) UZ.lp:=bT.snd apz apr (aV (Γ:=aib) (K:=fC) (L:=aF) aqj aH FW (fun b hb=>by rw [show aG FW=[] by kernel_rfl] at hb;cases hb)) (fun s=>by kernel_rfl)
theorem asv (s:wE) (hE:awk s):∃s',adY s'∧av7 (aip s) s' (aeJ s):=bT.fin apz apr s hE
def abK:List LV→T LV
 | [.agg [.xl (.pair .str (.pair (.int .i64) (.pair (.int .i64) (.pair (.int .i64) (.pair (.pair (.int .i64) (.int .i64)) (.pair (.int .i64) (.pair (.int .i64) (.pair (.int .i64) (.pair (.int .i64) (.int .i64)))))))))) cs,.xl (.str) os,.xl (.pair .str (.pair (.int .i64) (.pair (.int .i64) (.int .i64)))) ks,.xl (.pair .str (.pair (.int .i64) (.pair (.int .i64) (.pair (.int .i64) (.pair (.int .i64) (.pair (.int .i64) (.pair (.int .i64) (.int .i64)))))))) gs,.xl (.pair .str (.int .i64)) bs]]=> .ok (.v (.bool (fV cs os ks gs bs)))
 |_=> .no
noncomputable def I4:List LV→T LV:=gZ Tryz.prog Tryz.f53.params.toList abK
theorem amM (cs:List Cd) (os:List ByteArray) (ks:List Ko) (gs:List Ch) (bs:List Ba):bY Tryz.prog aQ (aib) fC (fun i=>if i=5 then UZ.lp else aF i) Tryz.f53 [.agg [.xl dZ cs,.xl .str os,.xl eP ks,.xl dR gs,.xl eU bs]]=.br ((decide ((List.length cs:Int)<1)) ||((decide ((List.length cs:Int)>16)) ||((decide ((List.length os:Int)>8)) ||((decide ((List.length ks:Int)>32)) ||((decide ((List.length gs:Int)>16)) ||(decide ((List.length bs:Int)>24))))))) (.ok (.v (.bool false))) (.req ((List.length cs:Int)≤1000∧(List.length os:Int)≤1000∧(List.length ks:Int)≤1000∧(List.length gs:Int)≤1000∧(List.length bs:Int)≤1000) (.req (aAc (⟨false,(gK cs os ks gs bs),(List.length (gK cs os ks gs bs):Int),(0:Int),cs,os,ks,gs,bs,([]:List ByteArray)⟩:wE)) (.br (iQ (aip (⟨false,(gK cs os ks gs bs),(List.length (gK cs os ks gs bs):Int),(0:Int),cs,os,ks,gs,bs,([]:List ByteArray)⟩:wE)) (.ret)) (.ok (.v (.bool (aeJ (⟨false,(gK cs os ks gs bs),(List.length (gK cs os ks gs bs):Int),(0:Int),cs,os,ks,gs,bs,([]:List ByteArray)⟩:wE)).r))) (.req ((List.length cs:Int)≤1000∧(List.length os:Int)≤1000∧(List.length ks:Int)≤1000∧(List.length gs:Int)≤1000∧(List.length bs:Int)≤1000) (.ok (.v (.bool (U4 cs os ks gs bs)))))))):=by kernel_rfl
theorem aei:Valid Tryz.prog aQ 53 I4:=aI Tryz.func53 rfl aqj aH (L:=(fun i=>if i=5 then UZ.lp else aF i)) (fun b hb=>by
 rw [show aG _=[FW] by kernel_rfl] at hb
 simp only [List.mem_cons,List.not_mem_nil,or_false] at hb
 subst hb
 exact asz) (fun args lv h=>by
 unfold abK at h
 split at h
 ·simp only [canL,canX]
  rw [amM]
  rename_i cs os ks gs bs
  obtain rfl:=h
  refine ⟨fun c=>congrArg (fun z=>LV.v (.bool z)) ?_,fun c=>?_⟩
  ·rw [eq_comm,Bool.eq_false_iff]
   intro hx
   unfold fV at hx
   rw [Bool.and_eq_true,decide_eq_true_eq] at hx
   simp only [Bool.or_eq_true,decide_eq_true_eq] at c
   omega
  have hd:1≤cs.length∧cs.length≤16∧os.length≤8∧ks.length≤32∧gs.length≤16∧bs.length≤24:=by
   simp only [Bool.or_eq_false_iff,decide_eq_false_iff_not] at c
   omega
  have hs:fV cs os ks gs bs=(((gK cs os ks gs bs).all nameB&&once (gK cs os ks gs bs))&&U4 cs os ks gs bs):=by
   unfold fV
   rw [decide_eq_true hd,Bool.true_and,Bool.and_assoc]
  have hl:((gK cs os ks gs bs).length:Int)≤1000:=by
   unfold gK
   simp only [List.length_append,List.length_map]
   omega
  rw [hs]
  have hr:(List.length cs:Int)≤1000∧(List.length os:Int)≤1000∧(List.length ks:Int)≤1000∧(List.length gs:Int)≤1000∧(List.length bs:Int)≤1000:=by omega
  refine ⟨hr,?_⟩
  generalize gK cs os ks gs bs=l at*
  refine nP ⟨⟨rfl,rfl,rfl,hl,trivial⟩,rfl,rfl⟩ (fun hE=>?_)
  obtain ⟨s',_,hq⟩:=asv _ hE.1
  rcases hq with ⟨q1,q2⟩ |⟨q1,q2,j,q3,q4⟩
  ·rw [q1]
   have hk:=(kM (d:=emp) (p:=nameB) (k:=id)).1 q2
   rw [List.map_id] at hk
   refine ⟨fun h=>(by cases h),fun _=>⟨hr,?_⟩⟩
   rw [hk,Bool.true_and]
   rfl
  ·rw [q1,q2]
   refine ⟨fun _=>congrArg (fun z=>LV.v (.bool z)) ?_,fun h=>by cases h⟩
   have hn:(l.all nameB&&once l)=false:=by
    rw [Bool.eq_false_iff];intro hx
    have:=(kM (d:=emp) (p:=nameB) (k:=id)).2 (by rw [List.map_id];exact hx) j q3
    exact Bool.noConfusion (this.symm.trans q4)
   rw [hn]
   rfl
 ·cases h)
end Go.Proofs.YtlihnbimgclogaaGreatDoor
namespace Go.Proofs.YtlihnbimgclogaaGreatDoor
open Go.Sx
def ab3:List LV→T LV
 | [.agg [.xl (.pair .str (.pair (.int .i64) (.pair (.int .i64) (.pair (.int .i64) (.pair (.pair (.int .i64) (.int .i64)) (.pair (.int .i64) (.pair (.int .i64) (.pair (.int .i64) (.pair (.int .i64) (.int .i64)))))))))) cs,.xl (.str) os,.xl (.pair .str (.pair (.int .i64) (.pair (.int .i64) (.int .i64)))) ks,.xl (.pair .str (.pair (.int .i64) (.pair (.int .i64) (.pair (.int .i64) (.pair (.int .i64) (.pair (.int .i64) (.pair (.int .i64) (.int .i64)))))))) gs,.xl (.pair .str (.int .i64)) bs],.v (.int .i64 c)]=> .ok (.fn 129 [.xq 1 (fun j=>([.v (.int .i64 c)]:List LV).getD j .junk),.xq 5 (fun j=>([.xl dZ cs,.xl .str os,.xl eP ks,.xl dR gs,.xl eU bs]:List LV).getD j .junk)])
 |_=> .no
noncomputable def XU:List LV→T LV:=gZ Tryz.prog Tryz.f104.params.toList ab3
noncomputable def zX:Specs:=bg []
theorem DW:∀g S,zX g=some S→Valid Tryz.prog aQ g S:=aU (l:=[]) trivial
noncomputable def aan:Hand:=inl Tryz.prog aQ zX (lX Tryz.prog aQ (zX) 20 2) 9
theorem ahC:dF Tryz.prog aQ aan:=bU DW (dS DW) 9
theorem am5 (cs:List Cd) (os:List ByteArray) (ks:List Ko) (gs:List Ch) (bs:List Ba) (c:Int):bY Tryz.prog aQ (zX) aan aF Tryz.f104 [.agg [.xl dZ cs,.xl .str os,.xl eP ks,.xl dR gs,.xl eU bs],.v (.int .i64 c)]=.ok (.fn 129 [.xq 1 (fun j=>([.v (.int .i64 c)]:List LV).getD j .junk),.xq 5 (fun j=>([.xl dZ cs,.xl .str os,.xl eP ks,.xl dR gs,.xl eU bs]:List LV).getD j .junk)]):=by kernel_rfl
theorem arU:Valid Tryz.prog aQ 104 XU:=aI Tryz.func104 rfl DW ahC (aY (by kernel_rfl)) (fun args lv h=>by
 unfold ab3 at h
 split at h
 ·simp only [canL,canX]
  rw [am5]
  exact h
 ·cases h)
noncomputable def aeR:Array Tmp×Code×Code:=((jJ (Tryz.f103.body.getD .skip))[0]?).getD (#[],.skip,.skip)
noncomputable def ayf:Array Tmp:=aeR.1
noncomputable def ayy:Code:=aeR.2.1
noncomputable def ayt:Code:=aeR.2.2
structure o8 where
 cs:List Cd
 os:List ByteArray
 ks:List Ko
 gs:List Ch
 bs:List Ba
 c:Int
 b0:Int
 b1:Bool
 st:LS
def aBD (s:o8):List LV:=[.uI 2,.xq 5 (fun j=>([.xl dZ s.cs,.xl .str s.os,.xl eP s.ks,.xl dR s.gs,.xl eU s.bs]:List LV).getD j .junk),.v (.int .i64 s.c)]
noncomputable def aAG (s:o8):List aT:=[⟨[.v (.int .i64 s.b0)],3,.cl,false⟩,⟨[.v (.bool s.b1)],4,.cl,false⟩,⟨[.junk,.junk,.junk,.own 0 0,.own 1 0,.v (.tuple #[]),.junk,.v (.tuple #[]),.v (.tuple #[]),.v (.tuple #[]),.v (.tuple #[])],0,.kL ayf ayy ayt s.st,false⟩]
noncomputable def TK:Code:=((aG (Tryz.f129.body.getD .skip))[0]?).getD .skip
def J4 (s:o8):T (Rd o8):=
 .br (decide (s.c≥0)) (.br (s.c==s.b0) (.ok (.stop (.ret) {s with b1:=true,st:=(.done (.ret))})) (.req (0≤s.c∧s.c<(List.length s.cs:Int)) (.ok (.next {s with c:=(fZ s.cs s.c).2.1})))) (.ok (.stop (.exit 0) s))
abbrev KX (s:o8):=(J4 s).rd s
def ake (s:o8):Prop:=s.st=.ready∧upB s.cs=true∧s.c<(s.cs.length:Int)∧s.b1=false
def UE (s:o8):Prop:=s.st=.ready∧upB s.cs=true∧s.c<(s.cs.length:Int)
def Oy (s:o8):Nat:=(s.c+1).toNat
def ark (x:Ex) (s s':o8):Prop:=(x=.ret∧s'.b1=true∧U5 s.cs s.b0 s.c=true)∨(x=.exit 0∧U5 s.cs s.b0 s.c=false)
theorem ayB:∀s,ake s→UE s:=by
 intro s h
 obtain ⟨h0,h1,h2,h3⟩:=h
 exact ⟨h0,h1,h2⟩
theorem aeV (s:o8) (hI:UE s):bQ (fun s'=>UE s'∧Oy s'<Oy s) (fun x s'=>ark x s s') (KX s):=by
 unfold KX J4
 dsimp only [T.rd,T.rl]
 obtain ⟨h0,h1,h2⟩:=hI
 have hp:=afX (o:=s.b0) h1 h2
 refine ax (fun c1=>ax (fun c2=>?_) (fun c2=>?_)) (fun c1=>?_)
 ·have c1:0≤s.c:=by simpa using c1
  exact .inl ⟨rfl,rfl,by rw [hp,if_pos c1,c2];rfl⟩
 ·have c1:0≤s.c:=by simpa using c1
  have:=Vf h1 c1 h2
  exact ⟨⟨h0,h1,by simp only;omega⟩,by simp only [Oy];omega⟩
 ·have c1:¬(0≤s.c):=by simpa using c1
  exact .inr ⟨rfl,by rw [hp,if_neg c1]⟩
noncomputable def JA:bT o8:=⟨3,18,[0,2,4],[],aBD,aAG,fun v b=>⟨aS dZ (mZ (v.getD 1 .junk) 0),aS .str (mZ (v.getD 1 .junk) 1),aS eP (mZ (v.getD 1 .junk) 2),aS dR (mZ (v.getD 1 .junk) 3),aS eU (mZ (v.getD 1 .junk) 4),gI (v.getD 2 .junk),gI (aZ (aP b 0) 0),x9 (aZ (aP b 1) 0),.ready⟩,J4,fun s r=> {r with cs:=s.cs,os:=s.os,ks:=s.ks,gs:=s.gs,bs:=s.bs,b0:=s.b0},fun s=> {s with st:=.ready},fun x s=> {s with st:=(match x with| .ret=>(.done (.ret)) | .exit 0=> .ready|_=> .ready)},[.ret,.exit 0],ake,UE,Oy⟩
noncomputable abbrev NK:=JA.run
noncomputable abbrev PN:=JA.kG
abbrev awG:=JA.q
theorem ath (s:o8) (hI:UE s):(J4 s).all (fun _=>True):=by
 refine ⟨fun c1=>⟨fun _=>trivial,fun c2=>⟨?_,trivial⟩⟩,fun _=>trivial⟩
 ·(obtain ⟨h0,h1,h2⟩:=hI;simp at c1 h2;exact ⟨c1,h2⟩)
theorem VS:JA.Ok:=⟨fun s=>by kernel_rfl,fun s=>by kernel_rfl,fun s=>rfl,fun s t r=>rfl,fun s=>rfl,fun s=>by kernel_rfl⟩
theorem VA:JA.Pf (ark):=⟨ayB,fun s h=>by
 obtain ⟨cs,os,ks,gs,bs,c,b0,b1,st⟩:=s
 have e:st=.ready:=h.1
 subst e
 rfl,aeV,ath⟩
theorem ak8:bC Tryz.prog aQ (AN 3) (.loop TK) JA.lp:=bT.snd VS VA (bH (Γ:=zX) (K:=aan) (L:=(tH Tryz.prog aQ zX aan 20 2)) DW ahC TK (fun b _=>dU DW ahC 20 2 b)) (fun s=>by kernel_rfl)
theorem aud (s:o8) (hE:ake s):(PN s=.ret∧(NK s).b1=true∧U5 s.cs s.b0 s.c=true)∨(PN s=.exit 0∧U5 s.cs s.b0 s.c=false):=by
 have hk:=bT.uN VS VA (fun s=>U5 s.cs s.b0 s.c) (fun s hI=>by
  obtain ⟨h0,h1,h2⟩:=hI
  have hp:=afX (o:=s.b0) h1 h2
  show bQ _ _ (KX s)
  unfold KX J4
  dsimp only [T.rd,T.rl]
  refine ax (fun c1=>ax (fun c2=>rfl) (fun c2=>?_)) (fun c1=>rfl)
  have c1:0≤s.c:=by simpa using c1
  show U5 _ _ _=U5 _ _ _
  rw [hp,if_pos c1,c2,Bool.false_or]) s hE
 have hk:U5 s.cs s.b0 (NK s).c=U5 s.cs s.b0 s.c:=hk
 obtain ⟨s',hI,hf⟩:=bT.end_ VS VA s hE
 have hq:=xI (aeV s' hI) hf
 have hc:=xI (Pn:=fun _=>True) (Ps:=fun _ r=>r.cs=s'.cs∧r.b0=s'.b0∧r.c=s'.c) (r:=KX s') (by
   unfold KX J4
   dsimp only [T.rd,T.rl]
   exact ax (fun _=>ax (fun _=>⟨rfl,rfl,rfl⟩) (fun _=>trivial)) (fun _=>⟨rfl,rfl,rfl⟩)) hf
 obtain ⟨hc1,hc3,hc2⟩:=hc
 have e1:s.cs=s'.cs:=hc1
 have e2:s.b0=s'.b0:=hc3
 rw [←hk,hc2,e1,e2]
 exact hq
def ajc:List LV→T LV
 | [.fn 129 [.xq 1 q0,.xq 5 q1],.v (.int .i64 o)]=>(match ([q0 0]:List LV) with
  | [.v (.int .i64 c)]=>(match ([q1 0,q1 1,q1 2,q1 3,q1 4]:List LV) with
  | [.xl (.pair .str (.pair (.int .i64) (.pair (.int .i64) (.pair (.int .i64) (.pair (.pair (.int .i64) (.int .i64)) (.pair (.int .i64) (.pair (.int .i64) (.pair (.int .i64) (.pair (.int .i64) (.int .i64)))))))))) cs,.xl (.str) _,.xl (.pair .str (.pair (.int .i64) (.pair (.int .i64) (.int .i64)))) _,.xl (.pair .str (.pair (.int .i64) (.pair (.int .i64) (.pair (.int .i64) (.pair (.int .i64) (.pair (.int .i64) (.pair (.int .i64) (.int .i64)))))))) _,.xl (.pair .str (.int .i64)) _]=> .req (upB cs=true∧c<(List.length cs:Int)) (.ok (.v (.bool (U5 cs o c))))
  |_=> .no)
  |_=> .no)
 |_=> .no
noncomputable def aiV:List LV→T LV:=gZ Tryz.prog Tryz.f103.params.toList ajc
noncomputable def ap6:Hand:=inl Tryz.prog aQ zX (kH 129 3 1 (JA.lp) (lX Tryz.prog aQ (zX) 20 2)) 9
theorem azg:dF Tryz.prog aQ ap6:=bU DW (dO Tryz.func129 rfl (by kernel_rfl) ak8 (dS DW)) 9
theorem auK (c:Int) (cs:List Cd) (os:List ByteArray) (ks:List Ko) (gs:List Ch) (bs:List Ba) (o:Int):bY Tryz.prog aQ (zX) ap6 aF Tryz.f103 [.fn 129 [.xq 1 (fun j=>([.v (.int .i64 c)]:List LV).getD j .junk),.xq 5 (fun j=>([.xl dZ cs,.xl .str os,.xl eP ks,.xl dR gs,.xl eU bs]:List LV).getD j .junk)],.v (.int .i64 o)]=.req (awG (⟨cs,os,ks,gs,bs,c,o,false,.ready⟩:o8)) (.br (iQ (PN (⟨cs,os,ks,gs,bs,c,o,false,.ready⟩:o8)) (.ret)) (.ok (.v (.bool (NK (⟨cs,os,ks,gs,bs,c,o,false,.ready⟩:o8)).b1))) (.ok (.v (.bool false)))):=by kernel_rfl
theorem axI:Valid Tryz.prog aQ 103 aiV:=aI Tryz.func103 rfl DW azg (aY (by kernel_rfl)) (fun args lv h=>by
 unfold ajc at h
 split at h
 ·split at h
  case h_2=>cases h
  rename_i heq0
  split at h
  case h_2=>cases h
  rename_i heq1
  simp only [canL,canX]
  rw [oU (n:=1) heq0]
  simp only [canL,canX]
  rw [oU (n:=5) heq1]
  simp only [canL,canX]
  rw [auK]
  obtain ⟨⟨hu,hc⟩,rfl⟩:=h
  refine nP ⟨⟨rfl,hu,hc,rfl⟩,rfl,rfl⟩ (fun hE=>?_)
  rcases aud _ hE.1 with ⟨h1,h2,h3⟩ |⟨h1,h2⟩
  ·rw [h1,h2]
   exact ⟨fun _=>congrArg (fun z=>LV.v (.bool z)) h3.symm,fun h=>by cases h⟩
  ·rw [h1]
   exact ⟨fun h=>(by cases h),fun _=>congrArg (fun z=>LV.v (.bool z)) h2.symm⟩
 ·cases h)
end Go.Proofs.YtlihnbimgclogaaGreatDoor
namespace Go.Proofs.YtlihnbimgclogaaGreatDoor
open Go.Sx
structure uZ where
 l:List Ch
 n:Int
 i:Int
 bK:List Cd
 iT:List ByteArray
 fM:List Ko
 gu:List Ch
 mM:List Ba
 b1:Int
 out:List Int
def aCZ (s:uZ):List LV:=[.fn 102 [.own 0 0,.own 1 0],.os 2 1 0 (List.length s.out),.xl dR s.l,.v (.int .i64 s.n),.v (.int .i64 s.i)]
def aCR (s:uZ):List aT:=[⟨[.xl dZ s.bK,.xl .str s.iT,.xl eP s.fM,.xl dR s.gu,.xl eU s.mM],28,.cl,false⟩,⟨[.v (.int .i64 s.b1)],3,.cl,false⟩,⟨[],3,.vec (.int .i64) s.out,false⟩]
noncomputable def FZ:Code:=((aG (Tryz.f55.body.getD .skip))[0]?).getD .skip
def akH (s:uZ):T (Rd uZ):=
 .br (decide (s.i<s.n)) (.req (0≤s.i∧s.i<(List.length s.l:Int)) (.req (upB s.bK=true∧(bF s.l s.i).2.1<(List.length s.bK:Int)) (.br (U5 s.bK s.b1 (bF s.l s.i).2.1) (.req (0+(List.length s.out)=List.length s.out∧((List.length s.out+List.length ([s.i]):Nat):Int)*8≤2^47∧((List.length s.out+List.length ([s.i]):Nat):Int)<2^62) (.req (0=0∧(List.length s.out+List.length ([s.i]))=List.length (s.out++([s.i]))) (.ok (.next {s with i:=(IntKind.i64.wrap (s.i+1)),out:=(s.out++([s.i]))})))) (.rl s.out (.ok (.next {s with i:=(IntKind.i64.wrap (s.i+1))})))))) (.rl s.out (.ok (.stop (.exit 0) s)))
abbrev azK (s:uZ):=(akH s).rd s
def apc (s:uZ):Prop:=s.i=0∧s.out=[]∧s.n=(s.l.length:Int)∧s.n≤1000∧upB s.bK=true∧atB s.bK s.l=true
def ad4 (s:uZ):Prop:=(0≤s.i∧s.i≤s.n)∧s.out=sS s.bK s.l s.b1 s.i.toNat∧s.n=(s.l.length:Int)∧s.n≤1000∧upB s.bK=true∧atB s.bK s.l=true
def RZ (s:uZ):Nat:=(s.n-s.i).toNat
def awe (x:Ex) (_ s':uZ):Prop:=x=.exit 0∧s'.out=sS s'.bK s'.l s'.b1 s'.l.length
theorem aCG:∀s,apc s→ad4 s:=by
 intro s h
 obtain ⟨h0,h1,h2,h3,h4,h5⟩:=h
 exact ⟨⟨by omega,by omega⟩,by rw [h0,h1];rfl,h2,h3,h4,h5⟩
theorem az2 (s:uZ) (hI:ad4 s):bQ (fun s'=>ad4 s'∧RZ s'<RZ s) (fun x s'=>awe x s s') (azK s):=by
 unfold azK akH
 dsimp only [T.rd,T.rl]
 obtain ⟨⟨h0,h1⟩,h2,h3,h4,h5,h6⟩:=hI
 refine ax (fun c1=>?_) (fun c1=>?_)
 ·have c1:s.i<s.n:=by simpa using c1
  have hs:=adR (cs:=s.bK) (gs:=s.l) (o:=s.b1) (k:=s.i.toNat)
  rw [show s.i.toNat+1=(s.i+1).toNat by omega,Int.toNat_of_nonneg h0] at hs
  rw [aN (x:=s.i+1) (by omega) (by omega)]
  refine ax (fun c2=>?_) (fun c2=>?_)
  ·refine ⟨⟨⟨by simp only;omega,by simp only;omega⟩,?_,h3,h4,h5,h6⟩,by simp only [RZ];omega⟩
   simp only
   rw [hs,if_pos c2,h2]
  ·refine ⟨⟨⟨by simp only;omega,by simp only;omega⟩,?_,h3,h4,h5,h6⟩,by simp only [RZ];omega⟩
   simp only
   rw [hs,if_neg (by rw [c2];simp),h2,List.append_nil]
 ·have c1:s.n≤s.i:=by simpa using c1
  exact ⟨rfl,by rw [h2,show s.i.toNat=s.l.length by omega]⟩
def U3:bT uZ:=⟨0,42,[6,7,26,27,28],[.nl 7 3 (.int .i64)],aCZ,aCR,fun v b=>⟨aS dR (v.getD 2 .junk),gI (v.getD 3 .junk),gI (v.getD 4 .junk),aS dZ (aZ (aP b 0) 0),aS .str (aZ (aP b 0) 1),aS eP (aZ (aP b 0) 2),aS dR (aZ (aP b 0) 3),aS eU (aZ (aP b 0) 4),gI (aZ (aP b 1) 0),jy (.int .i64) (aP b 2)⟩,akH,fun s r=> {r with l:=s.l,n:=s.n,bK:=s.bK,iT:=s.iT,fM:=s.fM,gu:=s.gu,mM:=s.mM,b1:=s.b1},fun s=>s,fun _ s=>s,[.exit 0],apc,ad4,RZ⟩
abbrev CG:=U3.run
abbrev avv:=U3.kG
abbrev aAh:=U3.q
theorem ayb (s:uZ) (hI:ad4 s):(akH s).all (fun _=>True):=by
 refine ⟨fun c1=>⟨?_,?_,fun c2=>⟨?_,?_,trivial⟩,fun c2=>⟨⟨rfl,rfl⟩,trivial⟩⟩,fun c1=>⟨⟨rfl,rfl⟩,trivial⟩⟩
 all_goals ((obtain ⟨⟨h0,h1⟩,h2,h3,h4,h5,h6⟩:=hI;have hol:s.out.length≤s.i.toNat:=(by rw [h2];exact IL);(try simp only [decide_eq_true_eq] at c1);first|omega|exact ⟨h5,av1 h6 h0 (by omega)⟩ |(refine ⟨by omega,?_,?_⟩<;>simp only [List.length_cons,List.length_nil]<;>omega) |exact ⟨rfl,by simp⟩ |exact ⟨rfl,rfl⟩))
noncomputable def SV:Specs:=bg [(53,I4),(103,aiV),(104,XU)]
theorem aau:∀g S,SV g=some S→Valid Tryz.prog aQ g S:=aU (l:=[(53,I4),(103,aiV),(104,XU)]) ⟨aei,axI,arU,trivial⟩
noncomputable def ahO:Hand:=inl Tryz.prog aQ SV (lX Tryz.prog aQ (SV) 20 2) 9
theorem apW:dF Tryz.prog aQ ahO:=bU aau (dS aau) 9
theorem apE:U3.Ok:=⟨fun s=>by kernel_rfl,fun s=>by kernel_rfl,fun s=>rfl,fun s t r=>rfl,fun s=>rfl,fun s=>by kernel_rfl⟩
theorem apw:U3.Pf (awe):=⟨aCG,fun _ _=>rfl,az2,ayb⟩
theorem asE:bC Tryz.prog aQ (AN 0) (.loop FZ) U3.lp:=bT.snd apE apw (aV (Γ:=SV) (K:=ahO) (L:=aF) aau apW FZ (fun b hb=>by rw [show aG FZ=[] by kernel_rfl] at hb;cases hb)) (fun s=>by kernel_rfl)
theorem avV (s:uZ) (hE:apc s):∃s',ad4 s'∧awe (avv s) s' (CG s):=bT.fin apE apw s hE
def Ux:List LV→T LV
 | [.agg [.xl (.pair .str (.pair (.int .i64) (.pair (.int .i64) (.pair (.int .i64) (.pair (.pair (.int .i64) (.int .i64)) (.pair (.int .i64) (.pair (.int .i64) (.pair (.int .i64) (.pair (.int .i64) (.int .i64)))))))))) cs,.xl (.str) os,.xl (.pair .str (.pair (.int .i64) (.pair (.int .i64) (.int .i64)))) ks,.xl (.pair .str (.pair (.int .i64) (.pair (.int .i64) (.pair (.int .i64) (.pair (.int .i64) (.pair (.int .i64) (.pair (.int .i64) (.int .i64)))))))) gs,.xl (.pair .str (.int .i64)) bs],.v (.int .i64 o)]=> .ok (.iG [.xl (.int .i64) (bV cs os ks gs bs o),.v (.int .i64 (avY cs os ks gs bs o))])
 |_=> .no
noncomputable def Qh:List LV→T LV:=gZ Tryz.prog Tryz.f55.params.toList Ux
theorem ag9 (cs:List Cd) (os:List ByteArray) (ks:List Ko) (gs:List Ch) (bs:List Ba) (o:Int):bY Tryz.prog aQ (SV) ahO (fun i=>if i=6 then U3.lp else aF i) Tryz.f55 [.agg [.xl dZ cs,.xl .str os,.xl eP ks,.xl dR gs,.xl eU bs],.v (.int .i64 o)]=.br ((!(fV cs os ks gs bs)) ||((decide (o<0)) ||(decide (o≥(List.length cs:Int))))) (.ok (.iG [.xl (.int .i64) ([]:List Int),.v (.int .i64 1)])) (.req (0=0∧0=List.length ([]:List Int)) (.req (aAh (⟨gs,(List.length gs:Int),(0:Int),cs,os,ks,gs,bs,o,([]:List Int)⟩:uZ)) (.req (0+(List.length (CG (⟨gs,(List.length gs:Int),(0:Int),cs,os,ks,gs,bs,o,([]:List Int)⟩:uZ)).out)≤List.length (CG (⟨gs,(List.length gs:Int),(0:Int),cs,os,ks,gs,bs,o,([]:List Int)⟩:uZ)).out) (.ok (.iG [.xl (.int .i64) (((CG (⟨gs,(List.length gs:Int),(0:Int),cs,os,ks,gs,bs,o,([]:List Int)⟩:uZ)).out.drop 0).take (List.length (CG (⟨gs,(List.length gs:Int),(0:Int),cs,os,ks,gs,bs,o,([]:List Int)⟩:uZ)).out)),.v (.int .i64 0)]))))):=by kernel_rfl
theorem akA:Valid Tryz.prog aQ 55 Qh:=aI Tryz.func55 rfl aau apW (L:=(fun i=>if i=6 then U3.lp else aF i)) (fun b hb=>by
 rw [show aG _=[FZ] by kernel_rfl] at hb
 simp only [List.mem_cons,List.not_mem_nil,or_false] at hb
 subst hb
 exact asE) (fun args lv h=>by
 unfold Ux at h
 split at h
 ·simp only [canL,canX]
  rw [ag9]
  rename_i cs os ks gs bs o
  obtain rfl:=h
  refine ⟨fun c=>?_,fun c=>?_⟩
  ·have hn:¬(fV cs os ks gs bs=true∧0≤o∧o<(cs.length:Int)):=by
    rintro ⟨h1,h2,h3⟩
    rw [h1] at c
    simp at c
    omega
   show LV.iG _=_
   unfold bV avY
   rw [if_neg hn,if_neg hn]
  ·simp only [Bool.or_eq_false_iff,Bool.not_eq_false',decide_eq_false_iff_not] at c
   have hp:fV cs os ks gs bs=true∧0≤o∧o<(cs.length:Int):=⟨c.1,by omega,by omega⟩
   have hl:=(gX.1 c.1).1
   have hE:apc ⟨gs,(List.length gs:Int),(0:Int),cs,os,ks,gs,bs,o,([]:List Int)⟩:=⟨rfl,rfl,rfl,by simp only;omega,aey c.1,aeA c.1⟩
   obtain ⟨s',_,q1,q2⟩:=avV _ hE
   have q2:(CG ⟨gs,(List.length gs:Int),(0:Int),cs,os,ks,gs,bs,o,([]:List Int)⟩).out=sS cs gs o gs.length:=q2
   refine ⟨⟨rfl,rfl⟩,⟨hE,rfl,rfl⟩,by omega,?_⟩
   show LV.iG [LV.xl _ _,_]=_
   rw [List.drop_zero,List.take_length,q2]
   unfold bV avY
   rw [if_pos hp,if_pos hp]
 ·cases h)
end Go.Proofs.YtlihnbimgclogaaGreatDoor
namespace Go.Proofs.YtlihnbimgclogaaGreatDoor
open Go.Sx
def acB:List LV→T LV
 | [.v (.agg ⟨[.int .i64 am,.int .i64 mo,.int .i64 ga,.int .i64 lo,.int .i64 de]⟩)]=> .ok (.v (.bool (PX (am,mo,ga,lo,de))))
 |_=> .no
noncomputable def Yj:List LV→T LV:=gZ Tryz.prog Tryz.f130.params.toList acB
noncomputable def KT:Specs:=bg []
theorem SI:∀g S,KT g=some S→Valid Tryz.prog aQ g S:=aU (l:=[]) trivial
noncomputable def ap5:Hand:=inl Tryz.prog aQ KT (lX Tryz.prog aQ (KT) 20 2) 9
theorem azf:dF Tryz.prog aQ ap5:=bU SI (dS SI) 9
theorem anx (am mo ga lo de:Int):bY Tryz.prog aQ (KT) ap5 aF Tryz.f130 [.v (.agg #[.int .i64 am,.int .i64 mo,.int .i64 ga,.int .i64 lo,.int .i64 de])]=.br ((am==0)&&((mo==0)&&((ga==0)&&((lo==0)&&(de==0))))) (.ok (.v (.bool true))) (.br ((decide (am≥0))&&(decide (am≤200000))) (.br (decide (mo>am)) (.br (decide (mo≤200000)) (.br ((decide (ga≥0))&&(decide (ga≤1000))) (.br ((decide (lo≥0))&&(decide (lo≤1000))) (.ok (.v (.bool ((decide (de≥1))&&(decide (de≤1000000)))))) (.ok (.v (.bool false)))) (.ok (.v (.bool false)))) (.ok (.v (.bool false)))) (.ok (.v (.bool false)))) (.ok (.v (.bool false)))):=by kernel_rfl
theorem asj:Valid Tryz.prog aQ 130 Yj:=aI Tryz.func130 rfl SI azf (aY (by kernel_rfl)) (fun args lv h=>by
 unfold acB at h
 split at h
 ·simp only [canL,canX]
  rw [anx]
  rename_i am mo ga lo de
  obtain rfl:=h
  unfold PX cbZ
  simp only
  refine ⟨fun c=>by rw [c];rfl,fun c=>?_⟩
  rw [c,Bool.false_or]
  unfold inB
  refine ⟨fun c1=>⟨fun c2=>⟨fun c3=>⟨fun c4=>⟨fun c5=>?_,fun c5=>?_⟩,fun c4=>?_⟩,fun c3=>?_⟩,fun c2=>?_⟩,fun c1=>?_⟩
  all_goals refine congrArg (fun z=>LV.v (.bool z)) ?_
  all_goals
   rw [Bool.eq_iff_iff]
   simp only [Bool.and_eq_true,Bool.and_eq_false_iff,decide_eq_true_eq,decide_eq_false_iff_not,Bool.false_eq_true] at*
   constructor<;>intro hz<;>first|exact hz.elim|(exfalso;omega) |omega
 ·cases h)
def abE:List LV→T LV
 | [.xq 6 q0]=>(match ([q0 0,q0 1,q0 2,q0 3,q0 4,q0 5]:List LV) with
  | [.v (.int .i64 _),.v (.int .i64 _),.v (.int .i64 _),.v (.int .i64 lo),.v (.int .i64 de),.v (.int .i64 _)]=> .ok (.v (.int .i64 (if de<lo then de else lo)))
  |_=> .no)
 |_=> .no
noncomputable def XB:List LV→T LV:=gZ Tryz.prog Tryz.f132.params.toList abE
theorem amG (am mo ga lo de now:Int):bY Tryz.prog aQ (KT) fC aF Tryz.f132 [.xq 6 (fun j=>([.v (.int .i64 am),.v (.int .i64 mo),.v (.int .i64 ga),.v (.int .i64 lo),.v (.int .i64 de),.v (.int .i64 now)]:List LV).getD j .junk)]=.ok (.v (.int .i64 (if de<lo then de else lo))):=by kernel_rfl
theorem arD:Valid Tryz.prog aQ 132 XB:=aI Tryz.func132 rfl SI aH (aY (by kernel_rfl)) (fun args lv h=>by
 unfold abE at h
 split at h
 ·split at h
  case h_2=>cases h
  rename_i heq0
  simp only [canL,canX]
  rw [oU (n:=6) heq0]
  simp only [canL,canX]
  rw [amG]
  exact h
 ·cases h)
def abD:List LV→T LV
 | [.xq 6 q0]=>(match ([q0 0,q0 1,q0 2,q0 3,q0 4,q0 5]:List LV) with
  | [.v (.int .i64 am),.v (.int .i64 mo),.v (.int .i64 ga),.v (.int .i64 lo),.v (.int .i64 de),.v (.int .i64 _)]=> .ok (.v (.bool (cbZ (am,mo,ga,lo,de))))
  |_=> .no)
 |_=> .no
noncomputable def XA:List LV→T LV:=gZ Tryz.prog Tryz.f131.params.toList abD
theorem amF (am mo ga lo de now:Int):bY Tryz.prog aQ (KT) fC aF Tryz.f131 [.xq 6 (fun j=>([.v (.int .i64 am),.v (.int .i64 mo),.v (.int .i64 ga),.v (.int .i64 lo),.v (.int .i64 de),.v (.int .i64 now)]:List LV).getD j .junk)]=.ok (.v (.bool ((am==0)&&((mo==0)&&((ga==0)&&((lo==0)&&(de==0))))))):=by kernel_rfl
theorem arC:Valid Tryz.prog aQ 131 XA:=aI Tryz.func131 rfl SI aH (aY (by kernel_rfl)) (fun args lv h=>by
 unfold abD at h
 split at h
 ·split at h
  case h_2=>cases h
  rename_i heq0
  simp only [canL,canX]
  rw [oU (n:=6) heq0]
  simp only [canL,canX]
  rw [amF]
  exact h
 ·cases h)
structure yU where
 low:Int
 high:Int
 yP:Int
 P5:Int
 P7:Int
 P6:Int
 Xp:Int
 IV:Int
 b11:Int
 b12:Int
 b13:Int
 b14:Int
 Xo:Int
 b3:Int
def aCY (s:yU):List LV:=[.v (.int .i64 s.low),.v (.int .i64 s.high),.fn 134 [.own 2 0,.own 3 0]]
def aCQ (s:yU):List aT:=[⟨[.v (.int .i64 s.yP),.v (.int .i64 s.P5),.v (.int .i64 s.P7),.v (.int .i64 s.P6),.v (.int .i64 s.Xp)],103,.cl,false⟩,⟨[.v (.int .i64 s.IV),.v (.int .i64 s.b11),.v (.int .i64 s.b12),.v (.int .i64 s.b13),.v (.int .i64 s.b14),.v (.int .i64 s.Xo)],190,.cl,false⟩,⟨[.own 1 0],188,.cl,false⟩,⟨[.v (.int .i64 s.b3)],3,.cl,false⟩]
noncomputable def abz:Code:=((aG (Tryz.f133.body.getD .skip))[0]?).getD .skip
def akG (s:yU):T (Rd yU):=
 .br (decide (s.low<s.high)) (.req ((2:Int)≠0) (.br (decide ((IntKind.i64.wrap ((IntKind.i64.wrap (s.b12*(IntKind.i64.wrap (s.low+(IntKind.i64.wrap ((IntKind.i64.wrap ((IntKind.i64.wrap (s.high-s.low))+1)).tdiv 2))))))*(IntKind.i64.wrap (s.low+(IntKind.i64.wrap ((IntKind.i64.wrap ((IntKind.i64.wrap (s.high-s.low))+1)).tdiv 2))))))≤s.b3)) (.ok (.next {s with low:=(IntKind.i64.wrap (s.low+(IntKind.i64.wrap ((IntKind.i64.wrap ((IntKind.i64.wrap (s.high-s.low))+1)).tdiv 2))))})) (.ok (.next {s with high:=(IntKind.i64.wrap ((IntKind.i64.wrap (s.low+(IntKind.i64.wrap ((IntKind.i64.wrap ((IntKind.i64.wrap (s.high-s.low))+1)).tdiv 2))))-1))})))) (.ok (.stop (.exit 0) s))
abbrev azJ (s:yU):=(akG s).rd s
def awW (s:yU):Prop:=s.low=0∧s.high=1000∧(0≤s.b12∧s.b12≤1000)∧0≤s.b3
def ad3 (s:yU):Prop:=(0≤s.low∧s.low≤s.high∧s.high≤1000)∧s.b12*s.low*s.low≤s.b3∧(∀a:Int,s.high<a→a≤1000→¬s.b12*a*a≤s.b3)∧(0≤s.b12∧s.b12≤1000)∧0≤s.b3
def RY (s:yU):Nat:=(s.high-s.low).toNat
def awd (x:Ex) (_ s':yU):Prop:=x=.exit 0∧s'.low=prm s'.b12 s'.b3
theorem aCz:∀s,awW s→ad3 s:=by
 intro s h
 obtain ⟨h0,h1,h2,h3⟩:=h
 exact ⟨by omega,by rw [h0];simpa using h3,fun a h h2=>by omega,h2,h3⟩
theorem azk (s:yU) (hI:ad3 s):bQ (fun s'=>ad3 s'∧RY s'<RY s) (fun x s'=>awd x s s') (azJ s):=by
 unfold azJ akG
 dsimp only [T.rd,T.rl]
 obtain ⟨⟨h0,h1,h2⟩,h3,h4,⟨h5,h6⟩,h7⟩:=hI
 have em:s.low<s.high→IntKind.i64.wrap (s.low+IntKind.i64.wrap ((IntKind.i64.wrap (IntKind.i64.wrap (s.high-s.low)+1)).tdiv 2))=s.low+(s.high-s.low+1) / 2:=fun c=>by
  rw [aN (x:=s.high-s.low) (by omega) (by omega),aN (x:=s.high-s.low+1) (by omega) (by omega),Int.tdiv_eq_ediv_of_nonneg (by omega),aN (x:=(s.high-s.low+1) / 2) (by omega) (by omega),aN (by omega) (by omega)]
 refine ax (fun c1=>?_) (fun c1=>?_)
 ·have c1:s.low<s.high:=by simpa using c1
  rw [em c1]
  have hm1:s.low<s.low+(s.high-s.low+1) / 2:=by omega
  have hm2:s.low+(s.high-s.low+1) / 2≤s.high:=by omega
  generalize s.low+(s.high-s.low+1) / 2=m at hm1 hm2⊢
  obtain ⟨⟨b1,b2⟩,b3,b4⟩:=axS h5 h6 (m:=m) (by omega) (by omega)
  rw [aN (x:=s.b12*m) (by omega) (by omega),aN (x:=s.b12*m*m) (by omega) (by omega),aN (x:=m-1) (by omega) (by omega)]
  refine ax (fun c2=>?_) (fun c2=>?_)
  ·have c2:s.b12*m*m≤s.b3:=by simpa using c2
   exact ⟨⟨⟨by simp only;omega,by simp only;omega,h2⟩,c2,h4,⟨h5,h6⟩,h7⟩,by simp only [RY];omega⟩
  ·have c2:¬s.b12*m*m≤s.b3:=by simpa using c2
   refine ⟨⟨⟨h0,by simp only;omega,by simp only;omega⟩,h3,fun a ha hk=>?_,⟨h5,h6⟩,h7⟩,by simp only [RY];omega⟩
   have:=akK h5 (a:=m) (b:=a) (by omega) (by simp only at ha;omega)
   simp only
   omega
 ·have c1:s.high≤s.low:=by simpa using c1
  refine ⟨rfl,(ZK (k:=1000) h0 (by omega) (.inr h3) (fun a ha hk=>h4 a (by omega) (by omega))).symm⟩
def Yw:bT yU:=⟨4,25,[0,1,2],[],aCY,aCQ,fun v b=>⟨gI (v.getD 0 .junk),gI (v.getD 1 .junk),gI (aZ (aP b 0) 0),gI (aZ (aP b 0) 1),gI (aZ (aP b 0) 2),gI (aZ (aP b 0) 3),gI (aZ (aP b 0) 4),gI (aZ (aP b 1) 0),gI (aZ (aP b 1) 1),gI (aZ (aP b 1) 2),gI (aZ (aP b 1) 3),gI (aZ (aP b 1) 4),gI (aZ (aP b 1) 5),gI (aZ (aP b 3) 0)⟩,akG,fun s r=> {r with yP:=s.yP,P5:=s.P5,P7:=s.P7,P6:=s.P6,Xp:=s.Xp,IV:=s.IV,b11:=s.b11,b12:=s.b12,b13:=s.b13,b14:=s.b14,Xo:=s.Xo,b3:=s.b3},fun s=>s,fun _ s=>s,[.exit 0],awW,ad3,RY⟩
abbrev aeL:=Yw.run
abbrev avu:=Yw.kG
abbrev aAg:=Yw.q
noncomputable def D6:Specs:=bg [(130,Yj),(131,XA),(132,XB)]
theorem Ih:∀g S,D6 g=some S→Valid Tryz.prog aQ g S:=aU (l:=[(130,Yj),(131,XA),(132,XB)]) ⟨asj,arC,arD,trivial⟩
noncomputable def ahN:Hand:=inl Tryz.prog aQ D6 (lX Tryz.prog aQ (D6) 20 2) 9
theorem apV:dF Tryz.prog aQ ahN:=bU Ih (dS Ih) 9
theorem aya (s:yU) (_:ad3 s):(akG s).all (fun _=>True):=by
 refine ⟨fun c1=>⟨?_,fun _=>trivial,fun _=>trivial⟩,fun _=>trivial⟩
 ·(first|decide|omega)
theorem apD:Yw.Ok:=⟨fun s=>by kernel_rfl,fun s=>by kernel_rfl,fun s=>rfl,fun s t r=>rfl,fun s=>rfl,fun s=>by kernel_rfl⟩
theorem apv:Yw.Pf (awd):=⟨aCz,fun _ _=>rfl,azk,aya⟩
theorem asD:bC Tryz.prog aQ (AN 4) (.loop abz) Yw.lp:=bT.snd apD apv (bH (Γ:=D6) (K:=ahN) (L:=(tH Tryz.prog aQ D6 ahN 20 2)) Ih apV abz (fun b _=>dU Ih apV 20 2 b)) (fun s=>by kernel_rfl)
theorem ave (s:yU) (hE:awW s):∃s',ad3 s'∧awd (avu s) s' (aeL s):=bT.fin apD apv s hE
def ab2:List LV→T LV
 | [.v (.agg ⟨[.int .i64 am,.int .i64 mo,.int .i64 ga,.int .i64 lo,.int .i64 de]⟩)]=> .ok (.v (.tuple #[.int .i64 (pmA (am,mo,ga,lo,de)),.int .i64 (pmE (am,mo,ga,lo,de))]))
 |_=> .no
noncomputable def XT:List LV→T LV:=gZ Tryz.prog Tryz.f105.params.toList ab2
noncomputable def ap4:Hand:=inl Tryz.prog aQ D6 (kH 133 4 1 (Yw.lp) (lX Tryz.prog aQ (D6) 20 2)) 9
theorem aze:dF Tryz.prog aQ ap4:=bU Ih (dO Tryz.func133 rfl (by kernel_rfl) asD (dS Ih)) 9
theorem am4 (am mo ga lo de:Int):bY Tryz.prog aQ (D6) ap4 aF Tryz.f105 [.v (.agg #[.int .i64 am,.int .i64 mo,.int .i64 ga,.int .i64 lo,.int .i64 de])]=.br (!(PX (am,mo,ga,lo,de))) (.ok (.v (.tuple #[.int .i64 0,.int .i64 1]))) (.br (cbZ (am,mo,ga,lo,de)) (.ok (.v (.tuple #[.int .i64 1000,.int .i64 0]))) (.req (aAg (⟨(0:Int),(1000:Int),am,mo,ga,lo,de,am,mo,ga,lo,de,(0:Int),(IntKind.i64.wrap ((if de<lo then de else lo)*(IntKind.i64.wrap (mo-am))))⟩:yU)) (.ok (.v (.tuple #[.int .i64 (aeL (⟨(0:Int),(1000:Int),am,mo,ga,lo,de,am,mo,ga,lo,de,(0:Int),(IntKind.i64.wrap ((if de<lo then de else lo)*(IntKind.i64.wrap (mo-am))))⟩:yU)).low,.int .i64 0]))))):=by kernel_rfl
theorem arT:Valid Tryz.prog aQ 105 XT:=aI Tryz.func105 rfl Ih aze (aY (by kernel_rfl)) (fun args lv h=>by
 unfold ab2 at h
 split at h
 ·simp only [canL,canX]
  rw [am4]
  rename_i am mo ga lo de
  obtain rfl:=h
  refine ⟨fun c=>?_,fun c=>⟨fun c2=>?_,fun c2=>?_⟩⟩
  ·have c:PX (am,mo,ga,lo,de)=false:=by simpa using c
   simp [T.all,pmA,pmE,c]
  ·have c:PX (am,mo,ga,lo,de)=true:=by simpa using c
   simp [T.all,pmA,pmE,c,c2]
  ·have c:PX (am,mo,ga,lo,de)=true:=by simpa using c
   obtain ⟨⟨h1,h2,h3⟩,⟨h4,h5⟩,⟨h6,h7⟩,h8,h9⟩:=avU c c2
   simp only at h1 h2 h3 h4 h5 h6 h7 h8 h9
   have hm:0≤(if de<lo then de else lo)∧(if de<lo then de else lo)≤1000:=by split<;>omega
   have e:pmA (am,mo,ga,lo,de)=prm ga ((if de<lo then de else lo)*(mo-am)):=by
    unfold pmA
    rw [if_pos c,if_neg (by rw [c2];simp)]
   have e2:pmE (am,mo,ga,lo,de)=0:=by
    unfold pmE
    rw [if_pos c]
   rw [e,e2,aN (x:=mo-am) (by omega) (by omega)]
   generalize (if de<lo then de else lo)=mn at hm⊢
   have a1:0≤mn*(mo-am):=Int.mul_nonneg hm.1 (by omega)
   have a2:mn*(mo-am)≤1000*(mo-am):=Int.mul_le_mul_of_nonneg_right hm.2 (by omega)
   rw [aN (x:=mn*(mo-am)) (by omega) (by omega)]
   refine nP ⟨⟨rfl,rfl,⟨h4,h5⟩,a1⟩,rfl,rfl⟩ (fun hE=>?_)
   obtain ⟨s',_,q1,q2⟩:=ave _ hE.1
   show LV.v (.tuple #[.int .i64 _,_])=_
   rw [q2]
   rfl
 ·cases h)
end Go.Proofs.YtlihnbimgclogaaGreatDoor
namespace Go.Proofs.YtlihnbimgclogaaGreatDoor
open Go.Sx
structure mP where
 first:Int
 l:List Int
 n:Int
 i:Int
def aBQ (s:mP):List LV:=[.v (.int .i64 s.first),.xl (.int .i64) s.l,.v (.int .i64 s.n),.v (.int .i64 s.i)]
def aAT (_:mP):List aT:=[]
noncomputable def Bh:Code:=((aG (Tryz.f106.body.getD .skip))[0]?).getD .skip
def QR (s:mP):T (Rd mP):=
 .br (decide (s.i<s.n)) (.req (0≤s.i∧s.i<(List.length s.l:Int)) (.ok (.next {s with first:=(if (gi s.l s.i)<s.first then (gi s.l s.i) else s.first),i:=(IntKind.i64.wrap (s.i+1))}))) (.ok (.stop (.exit 0) s))
abbrev aaS (s:mP):=(QR s).rd s
def acX (s:mP):Prop:=s.i=0∧s.n=(s.l.length:Int)∧s.n≤1000
def MK (s:mP):Prop:=0≤s.i∧s.i≤s.n∧s.n=(s.l.length:Int)∧s.n≤1000
def OH (s:mP):Nat:=(s.n-s.i).toNat
def ajE (x:Ex) (_ s':mP):Prop:=x=.exit 0∧s'.i=s'.n
theorem ayV:∀s,acX s→MK s:=by
 intro s h
 obtain ⟨h0,h1,h2⟩:=h
 exact ⟨by omega,by omega,h1,h2⟩
theorem auW (s:mP) (hI:MK s):bQ (fun s'=>MK s'∧OH s'<OH s) (fun x s'=>ajE x s s') (aaS s):=by
 unfold aaS QR
 dsimp only [T.rd,T.rl]
 obtain ⟨h0,h1,h2,h3⟩:=hI
 refine ax (fun c1=>?_) (fun c1=>?_)
 ·have c1:s.i<s.n:=by simpa using c1
  rw [aN (x:=s.i+1) (by omega) (by omega)]
  exact ⟨⟨by simp only;omega,by simp only;omega,h2,h3⟩,by simp only [OH];omega⟩
 ·have c1:s.n≤s.i:=by simpa using c1
  exact ⟨rfl,by omega⟩
def EP:bT mP:=⟨0,18,[0,7,8,9],[],aBQ,aAT,fun v _=>⟨gI (v.getD 0 .junk),aS (.int .i64) (v.getD 1 .junk),gI (v.getD 2 .junk),gI (v.getD 3 .junk)⟩,QR,fun s r=> {r with l:=s.l,n:=s.n},fun s=>s,fun _ s=>s,[.exit 0],acX,MK,OH⟩
abbrev zq:=EP.run
abbrev aos:=EP.kG
abbrev awS:=EP.q
theorem atx (s:mP) (hI:MK s):(QR s).all (fun _=>True):=by
 refine ⟨fun c1=>⟨?_,trivial⟩,fun _=>trivial⟩
 ·(obtain ⟨h0,h1,h2,h3⟩:=hI;simp at c1;omega)
noncomputable def aaz:Specs:=bg []
theorem ahU:∀g S,aaz g=some S→Valid Tryz.prog aQ g S:=aU (l:=[]) trivial
theorem V4:EP.Ok:=⟨fun s=>by kernel_rfl,fun s=>by kernel_rfl,fun s=>rfl,fun s t r=>rfl,fun s=>rfl,fun s=>by kernel_rfl⟩
theorem VJ:EP.Pf (ajE):=⟨ayV,fun _ _=>rfl,auW,atx⟩
theorem alk:bC Tryz.prog aQ (AN 0) (.loop Bh) EP.lp:=bT.snd V4 VJ (aV (Γ:=aaz) (K:=fC) (L:=aF) ahU aH Bh (fun b hb=>by rw [show aG Bh=[] by kernel_rfl] at hb;cases hb)) (fun s=>by kernel_rfl)
theorem anM (s:mP) (hE:acX s):∃s',MK s'∧ajE (aos s) s' (zq s):=bT.fin V4 VJ s hE
theorem ahj (s:mP) (hE:acX s):(fun s:mP=>Wu s.first (s.l.drop s.i.toNat)) (zq s)=(fun s:mP=>Wu s.first (s.l.drop s.i.toNat)) s:=by
 exact bT.uN V4 VJ (fun s:mP=>Wu s.first (s.l.drop s.i.toNat)) (fun s hI=>by
  show bQ _ _ (aaS s)
  unfold aaS QR
  dsimp only [T.rd,T.rl]
  obtain ⟨h0,h1,h2,h3⟩:=hI
  refine ax (fun c1=>?_) (fun c1=>rfl)
  have c1:s.i<s.n:=by simpa using c1
  rw [aN (x:=s.i+1) (by omega) (by omega)]
  show Wu _ _=Wu _ _
  rw [(gi_step h0 (show s.i<s.l.length by omega)).1]
  rfl) s hE
def aci:List LV→T LV
 | [.v (.int .i64 f),.xl (.int .i64) l]=> .req ((List.length l:Int)≤1000) (.ok (.v (.int .i64 (Wu f l))))
 |_=> .no
noncomputable def X6:List LV→T LV:=gZ Tryz.prog Tryz.f106.params.toList aci
theorem ani (f:Int) (l:List Int):bY Tryz.prog aQ (aaz) fC (fun i=>if i=2 then EP.lp else aF i) Tryz.f106 [.v (.int .i64 f),.xl (.int .i64) l]=.req (awS (⟨f,l,(List.length l:Int),(0:Int)⟩:mP)) (.ok (.v (.int .i64 (zq (⟨f,l,(List.length l:Int),(0:Int)⟩:mP)).first))):=by kernel_rfl
theorem ar4:Valid Tryz.prog aQ 106 X6:=aI Tryz.func106 rfl ahU aH (L:=(fun i=>if i=2 then EP.lp else aF i)) (fun b hb=>by
 rw [show aG _=[Bh] by kernel_rfl] at hb
 simp only [List.mem_cons,List.not_mem_nil,or_false] at hb
 subst hb
 exact alk) (fun args lv h=>by
 unfold aci at h
 split at h
 ·simp only [canL,canX]
  rw [ani]
  rename_i f l
  obtain ⟨hl,rfl⟩:=h
  refine nP ⟨⟨rfl,rfl,hl⟩,rfl,rfl⟩ (fun hE=>?_)
  obtain ⟨s',_,q1,q2⟩:=anM _ hE.1
  have q3:=ahj _ hE.1
  simp only at q3
  rw [q2] at q3
  have e:(zq ⟨f,l,(List.length l:Int),(0:Int)⟩).n=(List.length l:Int):=rfl
  have e2:(zq ⟨f,l,(List.length l:Int),(0:Int)⟩).l=l:=rfl
  rw [e,e2,List.drop_eq_nil_of_le (by omega)] at q3
  exact congrArg (fun z=>LV.v (.int .i64 z)) q3
 ·cases h)
def ace:List LV→T LV
 | [.v (.agg ⟨[.string nm,.int .i64 up_,.int .i64 li,.int .i64 ne,.int .i64 ra,.int .i64 he,.int .i64 am,.int .i64 mo,.int .i64 ga,.int .i64 lo,.int .i64 de]⟩)]=> .ok (.v (.int .i64 (dP (nm,up_,li,ne,(ra,he),am,mo,ga,lo,de))))
 |_=> .no
noncomputable def X3:List LV→T LV:=gZ Tryz.prog Tryz.f58.params.toList ace
noncomputable def aqw:Specs:=bg [(105,XT),(106,X6)]
theorem azv:∀g S,aqw g=some S→Valid Tryz.prog aQ g S:=aU (l:=[(105,XT),(106,X6)]) ⟨arT,ar4,trivial⟩
theorem ane (nm:ByteArray) (up_ li ne ra he am mo ga lo de:Int):bY Tryz.prog aQ (aqw) fC aF Tryz.f58 [.v (.agg #[.string nm,.int .i64 up_,.int .i64 li,.int .i64 ne,.int .i64 ra,.int .i64 he,.int .i64 am,.int .i64 mo,.int .i64 ga,.int .i64 lo,.int .i64 de])]=.br ((pmE (am,mo,ga,lo,de)) !=0) (.br (ra==0) (.req ((List.length ([ne,(0:Int)]):Int)≤1000) (.ok (.v (.int .i64 (Wu li ([ne,(0:Int)])))))) (.req ((List.length ([ne,(0:Int),ra]):Int)≤1000) (.ok (.v (.int .i64 (Wu li ([ne,(0:Int),ra]))))))) (.br (ra==0) (.req ((List.length ([ne,(pmA (am,mo,ga,lo,de))]):Int)≤1000) (.ok (.v (.int .i64 (Wu li ([ne,(pmA (am,mo,ga,lo,de))])))))) (.req ((List.length ([ne,(pmA (am,mo,ga,lo,de)),ra]):Int)≤1000) (.ok (.v (.int .i64 (Wu li ([ne,(pmA (am,mo,ga,lo,de)),ra]))))))):=by kernel_rfl
theorem ar0:Valid Tryz.prog aQ 58 X3:=aI Tryz.func58 rfl azv aH (aY (by kernel_rfl)) (fun args lv h=>by
 unfold ace at h
 split at h
 ·simp only [canL,canX]
  rw [ane]
  rename_i nm up_ li ne ra he am mo ga lo de
  obtain rfl:=h
  unfold dP
  simp only
  refine ⟨fun c=>?_,fun c=>?_⟩
  ·have e:pmA (am,mo,ga,lo,de)=0:=by
    rw [ama] at c
    have c:PX (am,mo,ga,lo,de)=false:=by simpa using c
    unfold pmA
    rw [c]
    rfl
   rw [e]
   refine ⟨fun c2=>⟨by simp,?_⟩,fun c2=>⟨by simp,?_⟩⟩
   ·rw [if_pos (by simpa using c2)];rfl
   ·rw [if_neg (by simpa using c2)];rfl
  ·refine ⟨fun c2=>⟨by simp,?_⟩,fun c2=>⟨by simp,?_⟩⟩
   ·rw [if_pos (by simpa using c2)];rfl
   ·rw [if_neg (by simpa using c2)];rfl
 ·cases h)
def abO:List LV→T LV
 | [.v (.int .i64 k),.xq 5 q0,.xq 2 q1]=>(match ([q0 0,q0 1,q0 2,q0 3,q0 4]:List LV) with
  | [.xl (.pair .str (.pair (.int .i64) (.pair (.int .i64) (.pair (.int .i64) (.pair (.pair (.int .i64) (.int .i64)) (.pair (.int .i64) (.pair (.int .i64) (.pair (.int .i64) (.pair (.int .i64) (.int .i64)))))))))) _,.xl (.str) _,.xl (.pair .str (.pair (.int .i64) (.pair (.int .i64) (.int .i64)))) _,.xl (.pair .str (.pair (.int .i64) (.pair (.int .i64) (.pair (.int .i64) (.pair (.int .i64) (.pair (.int .i64) (.pair (.int .i64) (.int .i64)))))))) gs,.xl (.pair .str (.int .i64)) _]=>(match ([q1 0,q1 1]:List LV) with
  | [.v (.int .i64 _),.v (.int .i64 p)]=> .req ((0≤k∧k<(List.length gs:Int))∧0≤p) (.ok (.v (.bool (usA (bF gs k).2.2.1 p))))
  |_=> .no)
  |_=> .no)
 |_=> .no
noncomputable def I7:List LV→T LV:=gZ Tryz.prog Tryz.f57.params.toList abO
theorem amQ (k:Int) (cs:List Cd) (os:List ByteArray) (ks:List Ko) (gs:List Ch) (bs:List Ba) (c p:Int):bY Tryz.prog aQ (aaz) fC aF Tryz.f57 [.v (.int .i64 k),.xq 5 (fun j=>([.xl dZ cs,.xl .str os,.xl eP ks,.xl dR gs,.xl eU bs]:List LV).getD j .junk),.xq 2 (fun j=>([.v (.int .i64 c),.v (.int .i64 p)]:List LV).getD j .junk)]=.req (0≤k∧k<(List.length gs:Int)) (.req (0≤p) (.ok (.v (.bool ((az3 .i64 (bF gs k).2.2.1 (IntKind.i64.wrap ((1:Int)*2^(min p.toNat 64)))) !=0))))):=by kernel_rfl
theorem aek:Valid Tryz.prog aQ 57 I7:=aI Tryz.func57 rfl ahU aH (aY (by kernel_rfl)) (fun args lv h=>by
 unfold abO at h
 split at h
 ·split at h
  case h_2=>cases h
  rename_i heq0
  split at h
  case h_2=>cases h
  rename_i heq1
  simp only [canL,canX]
  rw [oU (n:=5) heq0]
  simp only [canL,canX]
  rw [oU (n:=2) heq1]
  simp only [canL,canX]
  rw [amQ]
  obtain ⟨⟨h1,h2⟩,h3⟩:=h
  exact ⟨h1,h2,h3⟩
 ·cases h)
structure jS where
 cs:List Cd
 os:List ByteArray
 ks:List Ko
 gs:List Ch
 bs:List Ba
 c:Int
 p:Int
 l:List Int
 n:Int
 i:Int
 out:List Int
def aB8 (s:jS):List LV:=[.fn 57 [.xq 5 (fun j=>([.xl dZ s.cs,.xl .str s.os,.xl eP s.ks,.xl dR s.gs,.xl eU s.bs]:List LV).getD j .junk),.xq 2 (fun j=>([.v (.int .i64 s.c),.v (.int .i64 s.p)]:List LV).getD j .junk)],.os 0 1 0 (List.length s.out),.xl (.int .i64) s.l,.v (.int .i64 s.n),.v (.int .i64 s.i)]
def aBb (s:jS):List aT:=[⟨[],3,.vec (.int .i64) s.out,false⟩]
noncomputable def BH:Code:=((aG (Tryz.f56.body.getD .skip))[0]?).getD .skip
def QX (s:jS):T (Rd jS):=
 .br (decide (s.i<s.n)) (.req (0≤s.i∧s.i<(List.length s.l:Int)) (.req ((0≤(gi s.l s.i)∧(gi s.l s.i)<(List.length s.gs:Int))∧0≤s.p) (.br (usA (bF s.gs (gi s.l s.i)).2.2.1 s.p) (.req (0+(List.length s.out)=List.length s.out∧((List.length s.out+List.length ([(gi s.l s.i)]):Nat):Int)*8≤2^47∧((List.length s.out+List.length ([(gi s.l s.i)]):Nat):Int)<2^62) (.req (0=0∧(List.length s.out+List.length ([(gi s.l s.i)]))=List.length (s.out++([(gi s.l s.i)]))) (.ok (.next {s with i:=(IntKind.i64.wrap (s.i+1)),out:=(s.out++([(gi s.l s.i)]))})))) (.rl s.out (.ok (.next {s with i:=(IntKind.i64.wrap (s.i+1))})))))) (.rl s.out (.ok (.stop (.exit 0) s)))
abbrev aaY (s:jS):=(QX s).rd s
def UY (s:jS):Prop:=s.i=0∧s.out=[]∧s.n=(s.l.length:Int)∧s.n≤1000∧0≤s.p∧∀k∈s.l,0≤k∧k<(s.gs.length:Int)
def Nb (s:jS):Prop:=(0≤s.i∧s.i≤s.n)∧(s.out.length:Int)≤s.i∧s.n=(s.l.length:Int)∧s.n≤1000∧0≤s.p∧∀k∈s.l,0≤k∧k<(s.gs.length:Int)
def Hl (s:jS):Nat:=(s.n-s.i).toNat
def ajP (x:Ex) (_ s':jS):Prop:=x=.exit 0∧s'.i=s'.n
theorem az0:∀s,UY s→Nb s:=by
 intro s h
 obtain ⟨h0,h1,h2,h3,h4,h5⟩:=h
 exact ⟨by omega,by rw [h1];simp;omega,h2,h3,h4,h5⟩
theorem avR (s:jS) (hI:Nb s):bQ (fun s'=>Nb s'∧Hl s'<Hl s) (fun x s'=>ajP x s s') (aaY s):=by
 unfold aaY QX
 dsimp only [T.rd,T.rl]
 obtain ⟨⟨h0,h1⟩,h2,h3,h4,h5,h6⟩:=hI
 refine ax (fun c1=>?_) (fun c1=>?_)
 ·have c1:s.i<s.n:=by simpa using c1
  rw [aN (x:=s.i+1) (by omega) (by omega)]
  refine ax (fun c2=>?_) (fun c2=>?_)
  ·exact ⟨⟨⟨by simp only;omega,by simp only;omega⟩,by simp only [List.length_append,List.length_cons,List.length_nil];omega,h3,h4,h5,h6⟩,by simp only [Hl];omega⟩
  ·exact ⟨⟨⟨by simp only;omega,by simp only;omega⟩,by simp only;omega,h3,h4,h5,h6⟩,by simp only [Hl];omega⟩
 ·have c1:s.n≤s.i:=by simpa using c1
  exact ⟨rfl,by omega⟩
def Fa:bT jS:=⟨0,23,[1,5,8,9,10],[.nl 5 3 (.int .i64)],aB8,aBb,fun v b=>⟨aS dZ (mZ (gFn (v.getD 0 .junk) 0) 0),aS .str (mZ (gFn (v.getD 0 .junk) 0) 1),aS eP (mZ (gFn (v.getD 0 .junk) 0) 2),aS dR (mZ (gFn (v.getD 0 .junk) 0) 3),aS eU (mZ (gFn (v.getD 0 .junk) 0) 4),gI (mZ (gFn (v.getD 0 .junk) 1) 0),gI (mZ (gFn (v.getD 0 .junk) 1) 1),aS (.int .i64) (v.getD 2 .junk),gI (v.getD 3 .junk),gI (v.getD 4 .junk),jy (.int .i64) (aP b 0)⟩,QX,fun s r=> {r with cs:=s.cs,os:=s.os,ks:=s.ks,gs:=s.gs,bs:=s.bs,c:=s.c,p:=s.p,l:=s.l,n:=s.n},fun s=>s,fun _ s=>s,[.exit 0],UY,Nb,Hl⟩
abbrev pG:=Fa.run
abbrev aoz:=Fa.kG
abbrev aw9:=Fa.q
theorem atQ (s:jS) (hI:Nb s):(QX s).all (fun _=>True):=by
 refine ⟨fun c1=>⟨?_,?_,fun c2=>⟨?_,?_,trivial⟩,fun c2=>⟨⟨rfl,rfl⟩,trivial⟩⟩,fun c1=>⟨⟨rfl,rfl⟩,trivial⟩⟩
 all_goals ((obtain ⟨⟨h0,h1⟩,h2,h3,h4,h5,h6⟩:=hI;(try simp only [decide_eq_true_eq] at c1);first|omega|(refine ⟨h6 _ ?_,h5⟩;rw [o6 (by omega)];exact List.getElem_mem _) |(refine ⟨by omega,?_,?_⟩<;>simp only [List.length_cons,List.length_nil]<;>omega) |exact ⟨rfl,by simp⟩ |exact ⟨rfl,rfl⟩))
noncomputable def aia:Specs:=bg [(57,I7)]
theorem aqi:∀g S,aia g=some S→Valid Tryz.prog aQ g S:=aU (l:=[(57,I7)]) ⟨aek,trivial⟩
theorem V6:Fa.Ok:=⟨fun s=>by kernel_rfl,fun s=>by kernel_rfl,fun s=>rfl,fun s t r=>rfl,fun s=>rfl,fun s=>by kernel_rfl⟩
theorem VL:Fa.Pf (ajP):=⟨az0,fun _ _=>rfl,avR,atQ⟩
theorem alD:bC Tryz.prog aQ (AN 0) (.loop BH) Fa.lp:=bT.snd V6 VL (aV (Γ:=aia) (K:=fC) (L:=aF) aqi aH BH (fun b hb=>by rw [show aG BH=[] by kernel_rfl] at hb;cases hb)) (fun s=>by kernel_rfl)
theorem aoV (s:jS) (hE:UY s):∃s',Nb s'∧ajP (aoz s) s' (pG s):=bT.fin V6 VL s hE
theorem aiA (s:jS) (hE:UY s):(fun s:jS=>s.out++gY s.gs s.p (s.l.drop s.i.toNat)) (pG s)=(fun s:jS=>s.out++gY s.gs s.p (s.l.drop s.i.toNat)) s:=by
 exact bT.uN V6 VL (fun s:jS=>s.out++gY s.gs s.p (s.l.drop s.i.toNat)) (fun s hI=>by
  show bQ _ _ (aaY s)
  unfold aaY QX
  dsimp only [T.rd,T.rl]
  obtain ⟨⟨h0,h1⟩,h2,h3,h4,h5,h6⟩:=hI
  refine ax (fun c1=>?_) (fun c1=>rfl)
  have c1:s.i<s.n:=by simpa using c1
  rw [aN (x:=s.i+1) (by omega) (by omega)]
  refine ax (fun c2=>?_) (fun c2=>?_)
  ·show _++gY _ _ _=_++gY _ _ _
   rw [(gi_step h0 (show s.i<s.l.length by omega)).1]
   simp [gY,c2]
  ·show _++gY _ _ _=_++gY _ _ _
   rw [(gi_step h0 (show s.i<s.l.length by omega)).1]
   simp [gY,c2]) s hE
theorem aoU (s:jS) (hE:UY s):(pG s).out=gY s.gs s.p s.l:=by
 obtain ⟨s',_,q1,q2⟩:=aoV s hE
 have q3:=aiA s hE
 obtain ⟨h0,h1,h2,h3⟩:=hE
 simp only at q3
 rw [q2,show (pG s).n=s.n from rfl,show (pG s).l=s.l from rfl,List.drop_eq_nil_of_le (by omega),h0,h1] at q3
 simpa [gY] using q3
def acE:List LV→T LV
 | [.xl (.int .i64) l,.fn 57 [.xq 5 q0,.xq 2 q1]]=>(match ([q0 0,q0 1,q0 2,q0 3,q0 4]:List LV) with
  | [.xl (.pair .str (.pair (.int .i64) (.pair (.int .i64) (.pair (.int .i64) (.pair (.pair (.int .i64) (.int .i64)) (.pair (.int .i64) (.pair (.int .i64) (.pair (.int .i64) (.pair (.int .i64) (.int .i64)))))))))) _,.xl (.str) _,.xl (.pair .str (.pair (.int .i64) (.pair (.int .i64) (.int .i64)))) _,.xl (.pair .str (.pair (.int .i64) (.pair (.int .i64) (.pair (.int .i64) (.pair (.int .i64) (.pair (.int .i64) (.pair (.int .i64) (.int .i64)))))))) gs,.xl (.pair .str (.int .i64)) _]=>(match ([q1 0,q1 1]:List LV) with
  | [.v (.int .i64 _),.v (.int .i64 p)]=> .req (TB gs p l) (.ok (.xl (.int .i64) (gY gs p l)))
  |_=> .no)
  |_=> .no)
 |_=> .no
noncomputable def Ym:List LV→T LV:=gZ Tryz.prog Tryz.f56.params.toList acE
theorem anB (l:List Int) (cs:List Cd) (os:List ByteArray) (ks:List Ko) (gs:List Ch) (bs:List Ba) (c p:Int):bY Tryz.prog aQ (aia) fC (fun i=>if i=3 then Fa.lp else aF i) Tryz.f56 [.xl (.int .i64) l,.fn 57 [.xq 5 (fun j=>([.xl dZ cs,.xl .str os,.xl eP ks,.xl dR gs,.xl eU bs]:List LV).getD j .junk),.xq 2 (fun j=>([.v (.int .i64 c),.v (.int .i64 p)]:List LV).getD j .junk)]]=.req (0=0∧0=List.length ([]:List Int)) (.req (aw9 (⟨cs,os,ks,gs,bs,c,p,l,(List.length l:Int),(0:Int),([]:List Int)⟩:jS)) (.req (0+(List.length (pG (⟨cs,os,ks,gs,bs,c,p,l,(List.length l:Int),(0:Int),([]:List Int)⟩:jS)).out)≤List.length (pG (⟨cs,os,ks,gs,bs,c,p,l,(List.length l:Int),(0:Int),([]:List Int)⟩:jS)).out) (.ok (.xl (.int .i64) (((pG (⟨cs,os,ks,gs,bs,c,p,l,(List.length l:Int),(0:Int),([]:List Int)⟩:jS)).out.drop 0).take (List.length (pG (⟨cs,os,ks,gs,bs,c,p,l,(List.length l:Int),(0:Int),([]:List Int)⟩:jS)).out)))))):=by kernel_rfl
theorem aso:Valid Tryz.prog aQ 56 Ym:=aI Tryz.func56 rfl aqi aH (L:=(fun i=>if i=3 then Fa.lp else aF i)) (fun b hb=>by
 rw [show aG _=[BH] by kernel_rfl] at hb
 simp only [List.mem_cons,List.not_mem_nil,or_false] at hb
 subst hb
 exact alD) (fun args lv h=>by
 unfold acE at h
 split at h
 ·split at h
  case h_2=>cases h
  rename_i heq0
  split at h
  case h_2=>cases h
  rename_i heq1
  simp only [canL,canX]
  rw [oU (n:=5) heq0]
  simp only [canL,canX]
  rw [oU (n:=2) heq1]
  simp only [canL,canX]
  rw [anB]
  obtain ⟨⟨hp,hl,hm⟩,rfl⟩:=h
  refine ⟨⟨rfl,rfl⟩,nP ⟨⟨rfl,rfl,rfl,by simp only;omega,hp,hm⟩,rfl,rfl⟩ (fun hE=>⟨by omega,?_⟩)⟩
  show LV.xl _ _=_
  rw [List.drop_zero,List.take_length,aoU _ hE.1]
 ·cases h)
end Go.Proofs.YtlihnbimgclogaaGreatDoor
namespace Go.Proofs.YtlihnbimgclogaaGreatDoor
open Go.Sx
noncomputable def aeQ:Array Tmp×Code×Code:=((jJ (Tryz.f24.body.getD .skip))[0]?).getD (#[],.skip,.skip)
noncomputable def aye:Array Tmp:=aeQ.1
noncomputable def ayx:Code:=aeQ.2.1
noncomputable def ays:Code:=aeQ.2.2
structure uY where
 n:Int
 c:Int
 af:List Cd
 aJ:List ByteArray
 aB:List Ko
 ah:List Ch
 aW:List Ba
 below:List Int
 bP:List Cd
 dY:List ByteArray
 bW:List Ko
 dh:List Ch
 iH:List Ba
 rows:List Rw
 st:LS
def aCU (s:uY):List LV:=[.uI 4,.v (.int .i64 s.n),.v (.int .i64 s.c)]
noncomputable def aCM (s:uY):List aT:=[⟨[.xl dZ s.af,.xl .str s.aJ,.xl eP s.aB,.xl dR s.ah,.xl eU s.aW],28,.cl,true⟩,⟨[.os 5 2 0 (List.length s.rows)],49,.cl,false⟩,⟨[.xl (.int .i64) s.below],35,.cl,false⟩,⟨[.xl dZ s.bP,.xl .str s.dY,.xl eP s.bW,.xl dR s.dh,.xl eU s.iH],28,.cl,false⟩,⟨[.junk,.own 0 0,.junk,.junk,.own 1 0,.own 2 0,.v (.tuple #[]),.v (.tuple #[]),.junk,.junk,.junk,.junk,.junk,.v (.tuple #[]),.v (.tuple #[]),.v (.tuple #[]),.v (.tuple #[]),.v (.tuple #[]),.v (.tuple #[]),.v (.tuple #[]),.v (.tuple #[]),.v (.tuple #[]),.v (.tuple #[]),.junk,.v (.tuple #[]),.v (.tuple #[]),.v (.tuple #[]),.v (.tuple #[]),.v (.tuple #[]),.v (.tuple #[]),.v (.tuple #[]),.v (.tuple #[]),.v (.tuple #[]),.v (.tuple #[]),.v (.tuple #[]),.v (.tuple #[]),.v (.tuple #[]),.v (.tuple #[]),.v (.tuple #[]),.v (.tuple #[]),.v (.tuple #[]),.v (.tuple #[]),.junk],0,.kL aye ayx ays s.st,false⟩,⟨[],107,.vec Fp s.rows,false⟩]
noncomputable def abx:Code:=((aG (Tryz.f101.body.getD .skip))[0]?).getD .skip
set_option maxHeartbeats 4000000 in
def akE (s:uY):T (Rd uY):=
 .br (decide (s.c<s.n)) (.req (TB s.ah (0:Int) (bV s.af s.aJ s.aB s.ah s.aW s.c)) (.br (decide ((List.length (gY s.ah (0:Int) (bV s.af s.aJ s.aB s.ah s.aW s.c)):Int)>0)) (.req (0≤s.c∧s.c<(List.length s.af:Int)) (.req (0+(List.length s.rows)=List.length s.rows∧((List.length s.rows+List.length ([((dP (fZ s.af s.c)),gY s.ah (0:Int) (bV s.af s.aJ s.aB s.ah s.aW s.c))]):Nat):Int)*32≤2^47∧((List.length s.rows+List.length ([((dP (fZ s.af s.c)),gY s.ah (0:Int) (bV s.af s.aJ s.aB s.ah s.aW s.c))]):Nat):Int)<2^62) (.req (TB s.ah (1:Int) (bV s.af s.aJ s.aB s.ah s.aW s.c)) (.br (decide ((List.length (gY s.ah (1:Int) (bV s.af s.aJ s.aB s.ah s.aW s.c)):Int)>0)) (.req (0≤s.c∧s.c<(List.length s.af:Int)) (.req (0+(List.length s.rows+List.length ([((dP (fZ s.af s.c)),gY s.ah (0:Int) (bV s.af s.aJ s.aB s.ah s.aW s.c))]))=List.length (s.rows++([((dP (fZ s.af s.c)),gY s.ah (0:Int) (bV s.af s.aJ s.aB s.ah s.aW s.c))]))∧((List.length s.rows+List.length ([((dP (fZ s.af s.c)),gY s.ah (0:Int) (bV s.af s.aJ s.aB s.ah s.aW s.c))])+List.length ([((dP (fZ s.af s.c)),gY s.ah (1:Int) (bV s.af s.aJ s.aB s.ah s.aW s.c))]):Nat):Int)*32≤2^47∧((List.length s.rows+List.length ([((dP (fZ s.af s.c)),gY s.ah (0:Int) (bV s.af s.aJ s.aB s.ah s.aW s.c))])+List.length ([((dP (fZ s.af s.c)),gY s.ah (1:Int) (bV s.af s.aJ s.aB s.ah s.aW s.c))]):Nat):Int)<2^62) (.req (TB s.ah (2:Int) (bV s.af s.aJ s.aB s.ah s.aW s.c)) (.br (decide ((List.length (gY s.ah (2:Int) (bV s.af s.aJ s.aB s.ah s.aW s.c)):Int)>0)) (.req (0≤s.c∧s.c<(List.length s.af:Int)) (.req (0+(List.length s.rows+List.length ([((dP (fZ s.af s.c)),gY s.ah (0:Int) (bV s.af s.aJ s.aB s.ah s.aW s.c))])+List.length ([((dP (fZ s.af s.c)),gY s.ah (1:Int) (bV s.af s.aJ s.aB s.ah s.aW s.c))]))=List.length ((s.rows++([((dP (fZ s.af s.c)),gY s.ah (0:Int) (bV s.af s.aJ s.aB s.ah s.aW s.c))]))++([((dP (fZ s.af s.c)),gY s.ah (1:Int) (bV s.af s.aJ s.aB s.ah s.aW s.c))]))∧((List.length s.rows+List.length ([((dP (fZ s.af s.c)),gY s.ah (0:Int) (bV s.af s.aJ s.aB s.ah s.aW s.c))])+List.length ([((dP (fZ s.af s.c)),gY s.ah (1:Int) (bV s.af s.aJ s.aB s.ah s.aW s.c))])+List.length ([((dP (fZ s.af s.c)),gY s.ah (2:Int) (bV s.af s.aJ s.aB s.ah s.aW s.c))]):Nat):Int)*32≤2^47∧((List.length s.rows+List.length ([((dP (fZ s.af s.c)),gY s.ah (0:Int) (bV s.af s.aJ s.aB s.ah s.aW s.c))])+List.length ([((dP (fZ s.af s.c)),gY s.ah (1:Int) (bV s.af s.aJ s.aB s.ah s.aW s.c))])+List.length ([((dP (fZ s.af s.c)),gY s.ah (2:Int) (bV s.af s.aJ s.aB s.ah s.aW s.c))]):Nat):Int)<2^62) (.req (0=0∧(List.length s.rows+List.length ([((dP (fZ s.af s.c)),gY s.ah (0:Int) (bV s.af s.aJ s.aB s.ah s.aW s.c))])+List.length ([((dP (fZ s.af s.c)),gY s.ah (1:Int) (bV s.af s.aJ s.aB s.ah s.aW s.c))])+List.length ([((dP (fZ s.af s.c)),gY s.ah (2:Int) (bV s.af s.aJ s.aB s.ah s.aW s.c))]))=List.length (((s.rows++([((dP (fZ s.af s.c)),gY s.ah (0:Int) (bV s.af s.aJ s.aB s.ah s.aW s.c))]))++([((dP (fZ s.af s.c)),gY s.ah (1:Int) (bV s.af s.aJ s.aB s.ah s.aW s.c))]))++([((dP (fZ s.af s.c)),gY s.ah (2:Int) (bV s.af s.aJ s.aB s.ah s.aW s.c))]))) (.ok (.next {s with c:=(IntKind.i64.wrap (s.c+1)),below:=(bV s.af s.aJ s.aB s.ah s.aW s.c),rows:=(((s.rows++([((dP (fZ s.af s.c)),gY s.ah (0:Int) (bV s.af s.aJ s.aB s.ah s.aW s.c))]))++([((dP (fZ s.af s.c)),gY s.ah (1:Int) (bV s.af s.aJ s.aB s.ah s.aW s.c))]))++([((dP (fZ s.af s.c)),gY s.ah (2:Int) (bV s.af s.aJ s.aB s.ah s.aW s.c))]))}))))) (.req (0=0∧(List.length s.rows+List.length ([((dP (fZ s.af s.c)),gY s.ah (0:Int) (bV s.af s.aJ s.aB s.ah s.aW s.c))])+List.length ([((dP (fZ s.af s.c)),gY s.ah (1:Int) (bV s.af s.aJ s.aB s.ah s.aW s.c))]))=List.length ((s.rows++([((dP (fZ s.af s.c)),gY s.ah (0:Int) (bV s.af s.aJ s.aB s.ah s.aW s.c))]))++([((dP (fZ s.af s.c)),gY s.ah (1:Int) (bV s.af s.aJ s.aB s.ah s.aW s.c))]))) (.ok (.next {s with c:=(IntKind.i64.wrap (s.c+1)),below:=(bV s.af s.aJ s.aB s.ah s.aW s.c),rows:=((s.rows++([((dP (fZ s.af s.c)),gY s.ah (0:Int) (bV s.af s.aJ s.aB s.ah s.aW s.c))]))++([((dP (fZ s.af s.c)),gY s.ah (1:Int) (bV s.af s.aJ s.aB s.ah s.aW s.c))]))}))))))) (.req (TB s.ah (2:Int) (bV s.af s.aJ s.aB s.ah s.aW s.c)) (.br (decide ((List.length (gY s.ah (2:Int) (bV s.af s.aJ s.aB s.ah s.aW s.c)):Int)>0)) (.req (0≤s.c∧s.c<(List.length s.af:Int)) (.req (0+(List.length s.rows+List.length ([((dP (fZ s.af s.c)),gY s.ah (0:Int) (bV s.af s.aJ s.aB s.ah s.aW s.c))]))=List.length (s.rows++([((dP (fZ s.af s.c)),gY s.ah (0:Int) (bV s.af s.aJ s.aB s.ah s.aW s.c))]))∧((List.length s.rows+List.length ([((dP (fZ s.af s.c)),gY s.ah (0:Int) (bV s.af s.aJ s.aB s.ah s.aW s.c))])+List.length ([((dP (fZ s.af s.c)),gY s.ah (2:Int) (bV s.af s.aJ s.aB s.ah s.aW s.c))]):Nat):Int)*32≤2^47∧((List.length s.rows+List.length ([((dP (fZ s.af s.c)),gY s.ah (0:Int) (bV s.af s.aJ s.aB s.ah s.aW s.c))])+List.length ([((dP (fZ s.af s.c)),gY s.ah (2:Int) (bV s.af s.aJ s.aB s.ah s.aW s.c))]):Nat):Int)<2^62) (.req (0=0∧(List.length s.rows+List.length ([((dP (fZ s.af s.c)),gY s.ah (0:Int) (bV s.af s.aJ s.aB s.ah s.aW s.c))])+List.length ([((dP (fZ s.af s.c)),gY s.ah (2:Int) (bV s.af s.aJ s.aB s.ah s.aW s.c))]))=List.length ((s.rows++([((dP (fZ s.af s.c)),gY s.ah (0:Int) (bV s.af s.aJ s.aB s.ah s.aW s.c))]))++([((dP (fZ s.af s.c)),gY s.ah (2:Int) (bV s.af s.aJ s.aB s.ah s.aW s.c))]))) (.ok (.next {s with c:=(IntKind.i64.wrap (s.c+1)),below:=(bV s.af s.aJ s.aB s.ah s.aW s.c),rows:=((s.rows++([((dP (fZ s.af s.c)),gY s.ah (0:Int) (bV s.af s.aJ s.aB s.ah s.aW s.c))]))++([((dP (fZ s.af s.c)),gY s.ah (2:Int) (bV s.af s.aJ s.aB s.ah s.aW s.c))]))}))))) (.req (0=0∧(List.length s.rows+List.length ([((dP (fZ s.af s.c)),gY s.ah (0:Int) (bV s.af s.aJ s.aB s.ah s.aW s.c))]))=List.length (s.rows++([((dP (fZ s.af s.c)),gY s.ah (0:Int) (bV s.af s.aJ s.aB s.ah s.aW s.c))]))) (.ok (.next {s with c:=(IntKind.i64.wrap (s.c+1)),below:=(bV s.af s.aJ s.aB s.ah s.aW s.c),rows:=(s.rows++([((dP (fZ s.af s.c)),gY s.ah (0:Int) (bV s.af s.aJ s.aB s.ah s.aW s.c))]))}))))))))) (.req (TB s.ah (1:Int) (bV s.af s.aJ s.aB s.ah s.aW s.c)) (.br (decide ((List.length (gY s.ah (1:Int) (bV s.af s.aJ s.aB s.ah s.aW s.c)):Int)>0)) (.req (0≤s.c∧s.c<(List.length s.af:Int)) (.req (0+(List.length s.rows)=List.length s.rows∧((List.length s.rows+List.length ([((dP (fZ s.af s.c)),gY s.ah (1:Int) (bV s.af s.aJ s.aB s.ah s.aW s.c))]):Nat):Int)*32≤2^47∧((List.length s.rows+List.length ([((dP (fZ s.af s.c)),gY s.ah (1:Int) (bV s.af s.aJ s.aB s.ah s.aW s.c))]):Nat):Int)<2^62) (.req (TB s.ah (2:Int) (bV s.af s.aJ s.aB s.ah s.aW s.c)) (.br (decide ((List.length (gY s.ah (2:Int) (bV s.af s.aJ s.aB s.ah s.aW s.c)):Int)>0)) (.req (0≤s.c∧s.c<(List.length s.af:Int)) (.req (0+(List.length s.rows+List.length ([((dP (fZ s.af s.c)),gY s.ah (1:Int) (bV s.af s.aJ s.aB s.ah s.aW s.c))]))=List.length (s.rows++([((dP (fZ s.af s.c)),gY s.ah (1:Int) (bV s.af s.aJ s.aB s.ah s.aW s.c))]))∧((List.length s.rows+List.length ([((dP (fZ s.af s.c)),gY s.ah (1:Int) (bV s.af s.aJ s.aB s.ah s.aW s.c))])+List.length ([((dP (fZ s.af s.c)),gY s.ah (2:Int) (bV s.af s.aJ s.aB s.ah s.aW s.c))]):Nat):Int)*32≤2^47∧((List.length s.rows+List.length ([((dP (fZ s.af s.c)),gY s.ah (1:Int) (bV s.af s.aJ s.aB s.ah s.aW s.c))])+List.length ([((dP (fZ s.af s.c)),gY s.ah (2:Int) (bV s.af s.aJ s.aB s.ah s.aW s.c))]):Nat):Int)<2^62) (.req (0=0∧(List.length s.rows+List.length ([((dP (fZ s.af s.c)),gY s.ah (1:Int) (bV s.af s.aJ s.aB s.ah s.aW s.c))])+List.length ([((dP (fZ s.af s.c)),gY s.ah (2:Int) (bV s.af s.aJ s.aB s.ah s.aW s.c))]))=List.length ((s.rows++([((dP (fZ s.af s.c)),gY s.ah (1:Int) (bV s.af s.aJ s.aB s.ah s.aW s.c))]))++([((dP (fZ s.af s.c)),gY s.ah (2:Int) (bV s.af s.aJ s.aB s.ah s.aW s.c))]))) (.ok (.next {s with c:=(IntKind.i64.wrap (s.c+1)),below:=(bV s.af s.aJ s.aB s.ah s.aW s.c),rows:=((s.rows++([((dP (fZ s.af s.c)),gY s.ah (1:Int) (bV s.af s.aJ s.aB s.ah s.aW s.c))]))++([((dP (fZ s.af s.c)),gY s.ah (2:Int) (bV s.af s.aJ s.aB s.ah s.aW s.c))]))}))))) (.req (0=0∧(List.length s.rows+List.length ([((dP (fZ s.af s.c)),gY s.ah (1:Int) (bV s.af s.aJ s.aB s.ah s.aW s.c))]))=List.length (s.rows++([((dP (fZ s.af s.c)),gY s.ah (1:Int) (bV s.af s.aJ s.aB s.ah s.aW s.c))]))) (.ok (.next {s with c:=(IntKind.i64.wrap (s.c+1)),below:=(bV s.af s.aJ s.aB s.ah s.aW s.c),rows:=(s.rows++([((dP (fZ s.af s.c)),gY s.ah (1:Int) (bV s.af s.aJ s.aB s.ah s.aW s.c))]))}))))))) (.req (TB s.ah (2:Int) (bV s.af s.aJ s.aB s.ah s.aW s.c)) (.br (decide ((List.length (gY s.ah (2:Int) (bV s.af s.aJ s.aB s.ah s.aW s.c)):Int)>0)) (.req (0≤s.c∧s.c<(List.length s.af:Int)) (.req (0+(List.length s.rows)=List.length s.rows∧((List.length s.rows+List.length ([((dP (fZ s.af s.c)),gY s.ah (2:Int) (bV s.af s.aJ s.aB s.ah s.aW s.c))]):Nat):Int)*32≤2^47∧((List.length s.rows+List.length ([((dP (fZ s.af s.c)),gY s.ah (2:Int) (bV s.af s.aJ s.aB s.ah s.aW s.c))]):Nat):Int)<2^62) (.req (0=0∧(List.length s.rows+List.length ([((dP (fZ s.af s.c)),gY s.ah (2:Int) (bV s.af s.aJ s.aB s.ah s.aW s.c))]))=List.length (s.rows++([((dP (fZ s.af s.c)),gY s.ah (2:Int) (bV s.af s.aJ s.aB s.ah s.aW s.c))]))) (.ok (.next {s with c:=(IntKind.i64.wrap (s.c+1)),below:=(bV s.af s.aJ s.aB s.ah s.aW s.c),rows:=(s.rows++([((dP (fZ s.af s.c)),gY s.ah (2:Int) (bV s.af s.aJ s.aB s.ah s.aW s.c))]))}))))) (.rl s.rows (.ok (.next {s with c:=(IntKind.i64.wrap (s.c+1)),below:=(bV s.af s.aJ s.aB s.ah s.aW s.c)}))))))))) (.rl s.rows (.ok (.stop (.exit 0) s)))
abbrev azH (s:uY):=(akE s).rd s
def ao9 (s:uY):Prop:=s.st=.ready∧s.c=0∧s.rows=[]∧fV s.af s.aJ s.aB s.ah s.aW=true∧s.n=(s.af.length:Int)
def adZ (s:uY):Prop:=s.st=.ready∧(0≤s.c∧s.c≤s.n)∧s.rows=jV s.af s.ah s.c.toNat∧fV s.af s.aJ s.aB s.ah s.aW=true∧s.n=(s.af.length:Int)
def ZU (s:uY):Nat:=(s.n-s.c).toNat
def av8 (x:Ex) (_ s':uY):Prop:=x=.exit 0∧s'.rows=jV s'.af s'.ah s'.af.length
theorem aCl:∀s,ao9 s→adZ s:=by
 intro s h
 obtain ⟨h0,h1,h2,h3,h4⟩:=h
 exact ⟨h0,by omega,by rw [h1,h2];rfl,h3,h4⟩
theorem axY (s:uY) (hI:adZ s):bQ (fun s'=>adZ s'∧ZU s'<ZU s) (fun x s'=>av8 x s s') (azH s):=by
 unfold azH akE
 dsimp only [T.rd,T.rl]
 obtain ⟨h0,⟨h1,h2⟩,h3,h4,h5⟩:=hI
 refine ax (fun c1=>?_) (fun c1=>?_)
 rotate_left
 ·have c1:s.n≤s.c:=by simpa using c1
  exact ⟨rfl,by rw [h3,show s.c.toNat=s.af.length by omega]⟩
 have c1:s.c<s.n:=by simpa using c1
 have hl:=(gX.1 h4).1
 rw [aN (x:=s.c+1) (by omega) (by omega)]
 have eb:bV s.af s.aJ s.aB s.ah s.aW s.c=sS s.af s.ah s.c s.ah.length:=by
  unfold bV
  rw [if_pos ⟨h4,h1,by omega⟩]
 rw [eb]
 have fin:∀r:List Rw,r=jV s.af s.ah s.c.toNat++(rowP s.af s.ah s.c 0++rowP s.af s.ah s.c 1++rowP s.af s.ah s.c 2)→r=jV s.af s.ah (s.c+1).toNat:=fun r hr=>by
  rw [hr,show (s.c+1).toNat=s.c.toNat+1 by omega,jV,Int.toNat_of_nonneg h1]
  rfl
 refine ax (fun c2=>?_) (fun c2=>?_)<;>refine ax (fun c3=>?_) (fun c3=>?_)<;>refine ax (fun c4=>?_) (fun c4=>?_)
 all_goals
  refine ⟨⟨h0,⟨by simp only;omega,by simp only;omega⟩,?_,h4,h5⟩,by simp only [ZU];omega⟩
  simp only [decide_eq_true_eq,decide_eq_false_iff_not] at c2 c3 c4
  refine fin _ ?_
  simp only [h3,rowP]
  first|rw [if_pos (by omega)] |rw [if_neg (by omega)]
  first|rw [if_pos (by omega)] |rw [if_neg (by omega)]
  first|rw [if_pos (by omega)] |rw [if_neg (by omega)]
  simp only [List.append_assoc,List.nil_append,List.append_nil]
noncomputable def Yv:bT uY:=⟨5,22,[0,7,8],[.nc 1 0 107 Fp,.pc 2 0 (.int .i64),.pk 0],aCU,aCM,fun v b=>⟨gI (v.getD 1 .junk),gI (v.getD 2 .junk),aS dZ (aZ (aP b 0) 0),aS .str (aZ (aP b 0) 1),aS eP (aZ (aP b 0) 2),aS dR (aZ (aP b 0) 3),aS eU (aZ (aP b 0) 4),aS (.int .i64) (aZ (aP b 2) 0),aS dZ (aZ (aP b 3) 0),aS .str (aZ (aP b 3) 1),aS eP (aZ (aP b 3) 2),aS dR (aZ (aP b 3) 3),aS eU (aZ (aP b 3) 4),jy Fp (aP b 5),.ready⟩,akE,fun s r=> {r with n:=s.n,af:=s.af,aJ:=s.aJ,aB:=s.aB,ah:=s.ah,aW:=s.aW,bP:=s.bP,dY:=s.dY,bW:=s.bW,dh:=s.dh,iH:=s.iH,st:=s.st},fun s=> {s with st:=.ready},fun x s=> {s with st:=(match x with| .exit 0=> .ready|_=> .ready)},[.exit 0],ao9,adZ,ZU⟩
noncomputable abbrev CB:=Yv.run
noncomputable abbrev avs:=Yv.kG
abbrev aAd:=Yv.q
noncomputable def D5:Specs:=bg [(53,I4),(55,Qh),(56,Ym),(57,I7),(58,X3)]
theorem Ig:∀g S,D5 g=some S→Valid Tryz.prog aQ g S:=aU (l:=[(53,I4),(55,Qh),(56,Ym),(57,I7),(58,X3)]) ⟨aei,akA,aso,aek,ar0,trivial⟩
noncomputable def ahM:Hand:=inl Tryz.prog aQ D5 (lX Tryz.prog aQ (D5) 20 2) 9
theorem apU:dF Tryz.prog aQ ahM:=bU Ig (dS Ig) 9
theorem ax6 (s:uY) (hI:adZ s):(akE s).all (fun _=>True):=by
 refine ⟨fun c1=>⟨?_,fun c2=>⟨?_,?_,?_,fun c3=>⟨?_,?_,?_,fun c4=>⟨?_,?_,?_,trivial⟩,fun c4=>⟨?_,trivial⟩⟩,fun c3=>⟨?_,fun c5=>⟨?_,?_,?_,trivial⟩,fun c5=>⟨?_,trivial⟩⟩⟩,fun c2=>⟨?_,fun c6=>⟨?_,?_,?_,fun c7=>⟨?_,?_,?_,trivial⟩,fun c7=>⟨?_,trivial⟩⟩,fun c6=>⟨?_,fun c8=>⟨?_,?_,?_,trivial⟩,fun c8=>⟨⟨rfl,rfl⟩,trivial⟩⟩⟩⟩,fun c1=>⟨⟨rfl,rfl⟩,trivial⟩⟩
 all_goals ((obtain ⟨h0,⟨h1,h2⟩,h3,h4,h5⟩:=hI;have hl:=(gX.1 h4).1;(try simp only [decide_eq_true_eq] at c1);have hr:s.rows.length≤3*s.c.toNat:=(by rw [h3];exact zx);have eb:bV s.af s.aJ s.aB s.ah s.aW s.c=sS s.af s.ah s.c s.ah.length:=(by unfold bV;rw [if_pos ⟨h4,h1,by omega⟩]);first|omega|((try simp only);rw [eb];refine ⟨by decide,Nat.le_trans IL (by omega),fun k hk=>TV hk⟩) |(refine ⟨by omega,?_,?_⟩<;>simp only [List.length_cons,List.length_nil]<;>omega) |(simp only [List.length_append,List.length_cons,List.length_nil];omega) |exact ⟨rfl,by simp⟩ |exact ⟨rfl,rfl⟩))
theorem apA:Yv.Ok:=⟨fun s=>by kernel_rfl,fun s=>by kernel_rfl,fun s=>rfl,fun s t r=>rfl,fun s=>rfl,fun s=>by kernel_rfl⟩
theorem aps:Yv.Pf (av8):=⟨aCl,fun s h=>by
 obtain ⟨n,c,af,aJ,aB,ah,aW,below,bP,dY,bW,dh,iH,rows,st⟩:=s
 have e:st=.ready:=h.1
 subst e
 rfl,axY,ax6⟩
theorem asA:bC Tryz.prog aQ (AN 5) (.loop abx) Yv.lp:=bT.snd apA aps (bH (Γ:=D5) (K:=ahM) (L:=(tH Tryz.prog aQ D5 ahM 20 2)) Ig apU abx (fun b _=>dU Ig apU 20 2 b)) (fun s=>by kernel_rfl)
theorem asK (s:uY) (hE:ao9 s):∃s',adZ s'∧av8 (avs s) s' (CB s):=bT.fin apA aps s hE
def abP:List LV→T LV
 | [.agg [.xl (.pair .str (.pair (.int .i64) (.pair (.int .i64) (.pair (.int .i64) (.pair (.pair (.int .i64) (.int .i64)) (.pair (.int .i64) (.pair (.int .i64) (.pair (.int .i64) (.pair (.int .i64) (.int .i64)))))))))) cs,.xl (.str) os,.xl (.pair .str (.pair (.int .i64) (.pair (.int .i64) (.int .i64)))) ks,.xl (.pair .str (.pair (.int .i64) (.pair (.int .i64) (.pair (.int .i64) (.pair (.int .i64) (.pair (.int .i64) (.pair (.int .i64) (.int .i64)))))))) gs,.xl (.pair .str (.int .i64)) bs]]=> .ok (.iG [.xl Fp (iD cs os ks gs bs),.v (.int .i64 (NP cs os ks gs bs))])
 |_=> .no
noncomputable def nR:List LV→T LV:=gZ Tryz.prog Tryz.f24.params.toList abP
noncomputable def ap3:Hand:=inl Tryz.prog aQ D5 (kH 101 5 1 (Yv.lp) (lX Tryz.prog aQ (D5) 20 2)) 9
theorem azd:dF Tryz.prog aQ ap3:=bU Ig (dO Tryz.func101 rfl (by kernel_rfl) asA (dS Ig)) 9
theorem amR (cs:List Cd) (os:List ByteArray) (ks:List Ko) (gs:List Ch) (bs:List Ba):bY Tryz.prog aQ (D5) ap3 aF Tryz.f24 [.agg [.xl dZ cs,.xl .str os,.xl eP ks,.xl dR gs,.xl eU bs]]=.br (!(fV cs os ks gs bs)) (.ok (.iG [.xl Fp ([]:List Rw),.v (.int .i64 1)])) (.req (0=0∧0=List.length ([]:List Rw)) (.req (aAd (⟨(List.length cs:Int),(0:Int),cs,os,ks,gs,bs,([]:List Int),cs,os,ks,gs,bs,([]:List Rw),.ready⟩:uY)) (.req (0+(List.length (CB (⟨(List.length cs:Int),(0:Int),cs,os,ks,gs,bs,([]:List Int),cs,os,ks,gs,bs,([]:List Rw),.ready⟩:uY)).rows)≤List.length (CB (⟨(List.length cs:Int),(0:Int),cs,os,ks,gs,bs,([]:List Int),cs,os,ks,gs,bs,([]:List Rw),.ready⟩:uY)).rows) (.ok (.iG [.xl Fp (((CB (⟨(List.length cs:Int),(0:Int),cs,os,ks,gs,bs,([]:List Int),cs,os,ks,gs,bs,([]:List Rw),.ready⟩:uY)).rows.drop 0).take (List.length (CB (⟨(List.length cs:Int),(0:Int),cs,os,ks,gs,bs,([]:List Int),cs,os,ks,gs,bs,([]:List Rw),.ready⟩:uY)).rows)),.v (.int .i64 0)]))))):=by kernel_rfl
theorem Cf:Valid Tryz.prog aQ 24 nR:=aI Tryz.func24 rfl Ig azd (aY (by kernel_rfl)) (fun args lv h=>by
 unfold abP at h
 split at h
 ·simp only [canL,canX]
  rw [amR]
  rename_i cs os ks gs bs
  obtain rfl:=h
  refine ⟨fun c=>?_,fun c=>?_⟩
  ·have c:fV cs os ks gs bs=false:=by simpa using c
   show LV.iG _=_
   unfold iD NP
   rw [c]
   rfl
  ·have c:fV cs os ks gs bs=true:=by simpa using c
   have hE:ao9 ⟨(List.length cs:Int),(0:Int),cs,os,ks,gs,bs,([]:List Int),cs,os,ks,gs,bs,([]:List (Int×(List Int))),.ready⟩:=⟨rfl,rfl,rfl,c,rfl⟩
   obtain ⟨s',_,q1,q2⟩:=asK _ hE
   have q2:(CB ⟨(List.length cs:Int),(0:Int),cs,os,ks,gs,bs,([]:List Int),cs,os,ks,gs,bs,([]:List (Int×(List Int))),.ready⟩).rows=jV cs gs cs.length:=q2
   refine ⟨⟨rfl,rfl⟩,⟨hE,rfl,rfl⟩,by omega,?_⟩
   show LV.iG [LV.xl _ _,_]=_
   rw [List.drop_zero,List.take_length,q2]
   unfold iD NP
   rw [if_pos c,if_pos c]
 ·cases h)
end Go.Proofs.YtlihnbimgclogaaGreatDoor
namespace Go.Proofs.YtlihnbimgclogaaGreatDoor
open Go.Sx
def ajf:List LV→T LV
 | [.v (.int .i64 n),.v (.int .i64 a),.v (.int .i64 b)]=> .ok (.v (.bool (inB n a b)))
 |_=> .no
noncomputable def Ui:List LV→T LV:=gZ Tryz.prog Tryz.f68.params.toList ajf
noncomputable def aqm:Specs:=bg []
theorem azm:∀g S,aqm g=some S→Valid Tryz.prog aQ g S:=aU (l:=[]) trivial
theorem auN (n a b:Int):bY Tryz.prog aQ (aqm) fC aF Tryz.f68 [.v (.int .i64 n),.v (.int .i64 a),.v (.int .i64 b)]=.ok (.v (.bool ((decide (n≥a))&&(decide (n≤b))))):=by kernel_rfl
theorem apj:Valid Tryz.prog aQ 68 Ui:=aI Tryz.func68 rfl azm aH (aY (by kernel_rfl)) (fun args lv h=>by
 unfold ajf at h
 split at h
 ·simp only [canL,canX]
  rw [auN]
  exact h
 ·cases h)
def aiZ:List LV→T LV
 | [.v (.agg ⟨[.bool wa,.int .i64 ow,.int .i64 le,.int .i64 ra]⟩)]=> .ok (.v (.bool (Tz (wa,ow,le,ra))))
 |_=> .no
noncomputable def aiK:List LV→T LV:=gZ Tryz.prog Tryz.f70.params.toList aiZ
noncomputable def aql:Specs:=bg [(68,Ui)]
theorem azl:∀g S,aql g=some S→Valid Tryz.prog aQ g S:=aU (l:=[(68,Ui)]) ⟨apj,trivial⟩
theorem auw (wa:Bool) (ow le ra:Int):bY Tryz.prog aQ (aql) fC aF Tryz.f70 [.v (.agg #[.bool wa,.int .i64 ow,.int .i64 le,.int .i64 ra])]=.ok (.v (.bool ((inB ow (0:Int) (1000000000:Int))&&((inB le (0:Int) (1000000:Int))&&(inB ra (1:Int) (9:Int)))))):=by kernel_rfl
theorem axx:Valid Tryz.prog aQ 70 aiK:=aI Tryz.func70 rfl azl aH (aY (by kernel_rfl)) (fun args lv h=>by
 unfold aiZ at h
 split at h
 ·simp only [canL,canX]
  rw [auw]
  exact h
 ·cases h)
structure lK where
 cs:List Cd
 os:List ByteArray
 ks:List Ko
 gs:List Ch
 bs:List Ba
 l:List Le
 d:List Dm
 t:Int
 od:List Int
 Gw:List Ra
 r:Bool
 n:Int
 m:List Le
 k:Int
 i:Int
def aB0 (s:lK):List LV:=[.xq 9 (fun j=>([.xl dZ s.cs,.xl .str s.os,.xl eP s.ks,.xl dR s.gs,.xl eU s.bs,.xl oO s.l,.xl pV s.d,.v (.int .i64 s.t),.xl (.int .i64) s.od]:List LV).getD j .junk),.xl JI s.Gw,.v (.bool s.r),.v (.int .i64 s.n),.xl oO s.m,.v (.int .i64 s.k),.v (.int .i64 s.i)]
def aA3 (_:lK):List aT:=[]
noncomputable def Bz:Code:=((aG (Tryz.f35.body.getD .skip))[0]?).getD .skip
def Za (s:lK):T (Rd lK):=
 .br (decide (s.i<s.k)) (.req (0≤s.i∧s.i<(List.length s.m:Int)) (.br (decide ((kC s.m s.i).2.1≥s.n)) (.ok (.stop (.ret) {s with r:=false})) (.ok (.next {s with i:=(IntKind.i64.wrap (s.i+1))})))) (.ok (.stop (.exit 0) s))
abbrev aq0 (s:lK):=(Za s).rd s
def Ju (s:lK) (j:Int):Bool:=decide ((kC s.m j).2.1<s.n)
def ac4 (s:lK):Prop:=s.i=0∧0≤s.k∧s.k≤1000∧s.k=(s.m.length:Int)
def MV (s:lK):Prop:=0≤s.i∧s.i≤s.k∧s.k≤1000∧(s.k=(s.m.length:Int))∧∀j:Nat,(j:Int)<s.i→Ju s j=true
def OX (s:lK):Nat:=(s.k-s.i).toNat
def ajK (x:Ex) (_ s':lK):Prop:=(x=.exit 0∧∀j:Nat,(j:Int)<s'.k→Ju s' j=true)∨(x=.ret∧s'.r=false∧∃j:Nat,(j:Int)<s'.k∧Ju s' j=false)
theorem azQ:∀s,ac4 s→MV s:=by
 intro s h
 obtain ⟨h0,h1,h2,h3⟩:=h
 exact ⟨by omega,by omega,h2,h3,fun j hj=>by omega⟩
theorem avD (s:lK) (hI:MV s):bQ (fun s'=>MV s'∧OX s'<OX s) (fun x s'=>ajK x s s') (aq0 s):=by
 unfold aq0 Za
 dsimp only [T.rd,T.rl]
 obtain ⟨h0,h1,h2,h3,h4⟩:=hI
 refine ax (fun c1=>ax (fun c2=>?_) (fun c2=>?_)) (fun c1=>?_)
 ·have c1:s.i<s.k:=by simpa using c1
  refine .inr ⟨rfl,rfl,s.i.toNat,by simp only;omega,?_⟩
  rw [Int.toNat_of_nonneg (by omega)]
  have hg:Ju s s.i=false:=by unfold Ju;(simp only [decide_eq_true_eq,decide_eq_false_iff_not] at c2⊢;omega)
  exact hg
 ·have c1:s.i<s.k:=by simpa using c1
  have hg:Ju s s.i=true:=by unfold Ju;(simp only [decide_eq_true_eq,decide_eq_false_iff_not] at c2⊢;omega)
  rw [aN (x:=s.i+1) (by omega) (by omega)]
  refine ⟨⟨by simp only;omega,by simp only;omega,h2,h3,fun j hj=>?_⟩,by simp only [OX];omega⟩
  by_cases hji:(j:Int)<s.i
  ·exact h4 j hji
  ·have:(j:Int)=s.i:=by simp only at hj;omega
   rw [this];exact hg
 ·have c1:s.k≤s.i:=by simpa using c1
  exact .inl ⟨rfl,fun j hj=>h4 j (by omega)⟩
def EW:bT lK:=⟨0,108,[0,1,6,9,67,68,69],[],aB0,aA3,fun v _=>⟨aS dZ (mZ (v.getD 0 .junk) 0),aS .str (mZ (v.getD 0 .junk) 1),aS eP (mZ (v.getD 0 .junk) 2),aS dR (mZ (v.getD 0 .junk) 3),aS eU (mZ (v.getD 0 .junk) 4),aS oO (mZ (v.getD 0 .junk) 5),aS pV (mZ (v.getD 0 .junk) 6),gI (mZ (v.getD 0 .junk) 7),aS (.int .i64) (mZ (v.getD 0 .junk) 8),aS JI (v.getD 1 .junk),x9 (v.getD 2 .junk),gI (v.getD 3 .junk),aS oO (v.getD 4 .junk),gI (v.getD 5 .junk),gI (v.getD 6 .junk)⟩,Za,fun s r=> {r with cs:=s.cs,os:=s.os,ks:=s.ks,gs:=s.gs,bs:=s.bs,l:=s.l,d:=s.d,t:=s.t,od:=s.od,Gw:=s.Gw,n:=s.n,m:=s.m,k:=s.k},fun s=>s,fun _ s=>s,[.ret,.exit 0],ac4,MV,OX⟩
abbrev wQ:=EW.run
abbrev abk:=EW.kG
abbrev aw1:=EW.q
theorem atI (s:lK) (hI:MV s):(Za s).all (fun _=>True):=by
 refine ⟨fun c1=>⟨?_,fun _=>trivial,fun _=>trivial⟩,fun _=>trivial⟩
 ·(obtain ⟨h0,h1,h2,h3,h4⟩:=hI;simp at c1;omega)
noncomputable def aaw:Specs:=bg [(24,nR),(62,Jc),(68,Ui),(69,Uf),(70,aiK)]
theorem ahR:∀g S,aaw g=some S→Valid Tryz.prog aQ g S:=aU (l:=[(24,nR),(62,Jc),(68,Ui),(69,Uf),(70,aiK)]) ⟨Cf,aep,apj,apf,axx,trivial⟩
theorem agD:EW.Ok:=⟨fun s=>by kernel_rfl,fun s=>by kernel_rfl,fun s=>rfl,fun s t r=>rfl,fun s=>rfl,fun s=>by kernel_rfl⟩
theorem afz:EW.Pf (ajK):=⟨azQ,fun _ _=>rfl,avD,atI⟩
theorem als:bC Tryz.prog aQ (AN 0) (.loop Bz) EW.lp:=bT.snd agD afz (aV (Γ:=aaw) (K:=fC) (L:=aF) ahR aH Bz (fun b hb=>by rw [show aG Bz=[] by kernel_rfl] at hb;cases hb)) (fun s=>by kernel_rfl)
theorem aoH (s:lK) (hE:ac4 s):∃s',MV s'∧ajK (abk s) s' (wQ s):=bT.fin agD afz s hE
structure oN where
 cs:List Cd
 os:List ByteArray
 ks:List Ko
 gs:List Ch
 bs:List Ba
 l:List Le
 d:List Dm
 t:Int
 od:List Int
 rs:List Ra
 r:Bool
 m:List Ch
 k:Int
 i:Int
def aBZ (s:oN):List LV:=[.xq 9 (fun j=>([.xl dZ s.cs,.xl .str s.os,.xl eP s.ks,.xl dR s.gs,.xl eU s.bs,.xl oO s.l,.xl pV s.d,.v (.int .i64 s.t),.xl (.int .i64) s.od]:List LV).getD j .junk),.xl JI s.rs,.v (.bool s.r),.xl dR s.m,.v (.int .i64 s.k),.v (.int .i64 s.i)]
def aA2 (_:oN):List aT:=[]
noncomputable def Bv:Code:=((aG (Tryz.f35.body.getD .skip))[1]?).getD .skip
def Y9 (s:oN):T (Rd oN):=
 .br (decide (s.i<s.k)) (.req (0≤s.i∧s.i<(List.length s.m:Int)) (.req (0≤s.i∧s.i<(List.length s.rs:Int)) (.br (!(Kq (bF s.m s.i).2.2.1 (bF s.m s.i).2.2.2.1 (bF s.m s.i).2.2.2.2.1 (bF s.m s.i).2.2.2.2.2.1 (bF s.m s.i).2.2.2.2.2.2.1 (lU s.rs s.i).1 (lU s.rs s.i).2)) (.ok (.stop (.ret) {s with r:=false})) (.req (0≤s.i∧s.i<(List.length s.d:Int)) (.br (!(Tz (iR s.d s.i))) (.ok (.stop (.ret) {s with r:=false})) (.ok (.next {s with i:=(IntKind.i64.wrap (s.i+1))}))))))) (.ok (.stop (.exit 2) s))
abbrev aqZ (s:oN):=(Y9 s).rd s
def BZ (s:oN) (j:Int):Bool:=RI (bF s.m j) (lU s.rs j)&&Tz (iR s.d j)
def ac3 (s:oN):Prop:=s.i=0∧0≤s.k∧s.k≤1000∧s.k=(s.m.length:Int)∧s.rs.length=s.m.length∧s.d.length=s.m.length
def MS (s:oN):Prop:=0≤s.i∧s.i≤s.k∧s.k≤1000∧(s.k=(s.m.length:Int)∧s.rs.length=s.m.length∧s.d.length=s.m.length)∧∀j:Nat,(j:Int)<s.i→BZ s j=true
def OW (s:oN):Nat:=(s.k-s.i).toNat
def ajJ (x:Ex) (_ s':oN):Prop:=(x=.exit 2∧∀j:Nat,(j:Int)<s'.k→BZ s' j=true)∨(x=.ret∧s'.r=false∧∃j:Nat,(j:Int)<s'.k∧BZ s' j=false)
theorem azP:∀s,ac3 s→MS s:=by
 intro s h
 obtain ⟨h0,h1,h2,h3⟩:=h
 exact ⟨by omega,by omega,h2,h3,fun j hj=>by omega⟩
theorem avC (s:oN) (hI:MS s):bQ (fun s'=>MS s'∧OW s'<OW s) (fun x s'=>ajJ x s s') (aqZ s):=by
 unfold aqZ Y9
 dsimp only [T.rd,T.rl]
 obtain ⟨h0,h1,h2,h3,h4⟩:=hI
 refine ax (fun c1=>ax (fun c2=>?_) (fun c2=>ax (fun c3=>?_) (fun c3=>?_))) (fun c1=>?_)
 ·have c1:s.i<s.k:=by simpa using c1
  refine .inr ⟨rfl,rfl,s.i.toNat,by simp only;omega,?_⟩
  rw [Int.toNat_of_nonneg (by omega)]
  have hg:BZ s s.i=false:=by unfold BZ;(unfold RI Dh;simp_all)
  exact hg
 ·have c1:s.i<s.k:=by simpa using c1
  refine .inr ⟨rfl,rfl,s.i.toNat,by simp only;omega,?_⟩
  rw [Int.toNat_of_nonneg (by omega)]
  have hg:BZ s s.i=false:=by unfold BZ;(unfold RI Dh;simp_all)
  exact hg
 ·have c1:s.i<s.k:=by simpa using c1
  have hg:BZ s s.i=true:=by unfold BZ;(unfold RI Dh;simp_all)
  rw [aN (x:=s.i+1) (by omega) (by omega)]
  refine ⟨⟨by simp only;omega,by simp only;omega,h2,h3,fun j hj=>?_⟩,by simp only [OW];omega⟩
  by_cases hji:(j:Int)<s.i
  ·exact h4 j hji
  ·have:(j:Int)=s.i:=by simp only at hj;omega
   rw [this];exact hg
 ·have c1:s.k≤s.i:=by simpa using c1
  exact .inl ⟨rfl,fun j hj=>h4 j (by omega)⟩
def EU:bT oN:=⟨0,108,[0,1,6,82,83,84],[],aBZ,aA2,fun v _=>⟨aS dZ (mZ (v.getD 0 .junk) 0),aS .str (mZ (v.getD 0 .junk) 1),aS eP (mZ (v.getD 0 .junk) 2),aS dR (mZ (v.getD 0 .junk) 3),aS eU (mZ (v.getD 0 .junk) 4),aS oO (mZ (v.getD 0 .junk) 5),aS pV (mZ (v.getD 0 .junk) 6),gI (mZ (v.getD 0 .junk) 7),aS (.int .i64) (mZ (v.getD 0 .junk) 8),aS JI (v.getD 1 .junk),x9 (v.getD 2 .junk),aS dR (v.getD 3 .junk),gI (v.getD 4 .junk),gI (v.getD 5 .junk)⟩,Y9,fun s r=> {r with cs:=s.cs,os:=s.os,ks:=s.ks,gs:=s.gs,bs:=s.bs,l:=s.l,d:=s.d,t:=s.t,od:=s.od,rs:=s.rs,m:=s.m,k:=s.k},fun s=>s,fun _ s=>s,[.ret,.exit 2],ac3,MS,OW⟩
abbrev ZF:=EU.run
abbrev abj:=EU.kG
abbrev aw0:=EU.q
theorem atH (s:oN) (hI:MS s):(Y9 s).all (fun _=>True):=by
 refine ⟨fun c1=>⟨?_,?_,fun _=>trivial,fun c2=>⟨?_,fun _=>trivial,fun _=>trivial⟩⟩,fun _=>trivial⟩
 all_goals ((obtain ⟨h0,h1,h2,h3,h4⟩:=hI;obtain ⟨h3,h5,h6⟩:=h3;simp at c1;omega))
theorem agC:EU.Ok:=⟨fun s=>by kernel_rfl,fun s=>by kernel_rfl,fun s=>rfl,fun s t r=>rfl,fun s=>rfl,fun s=>by kernel_rfl⟩
theorem afy:EU.Pf (ajJ):=⟨azP,fun _ _=>rfl,avC,atH⟩
theorem alr:bC Tryz.prog aQ (AN 0) (.loop Bv) EU.lp:=bT.snd agC afy (aV (Γ:=aaw) (K:=fC) (L:=aF) ahR aH Bv (fun b hb=>by rw [show aG Bv=[] by kernel_rfl] at hb;cases hb)) (fun s=>by kernel_rfl)
theorem aoG (s:oN) (hE:ac3 s):∃s',MS s'∧ajJ (abj s) s' (ZF s):=bT.fin agC afy s hE
def acu:List LV→T LV
 | [.xq 9 q0,.xl (.pair (.int .i64) (.int .i64)) rs,.v (.int .i64 n)]=>(match ([q0 0,q0 1,q0 2,q0 3,q0 4,q0 5,q0 6,q0 7,q0 8]:List LV) with
  | [.xl (.pair .str (.pair (.int .i64) (.pair (.int .i64) (.pair (.int .i64) (.pair (.pair (.int .i64) (.int .i64)) (.pair (.int .i64) (.pair (.int .i64) (.pair (.int .i64) (.pair (.int .i64) (.int .i64)))))))))) cs,.xl (.str) os,.xl (.pair .str (.pair (.int .i64) (.pair (.int .i64) (.int .i64)))) ks,.xl (.pair .str (.pair (.int .i64) (.pair (.int .i64) (.pair (.int .i64) (.pair (.int .i64) (.pair (.int .i64) (.pair (.int .i64) (.int .i64)))))))) gs,.xl (.pair .str (.int .i64)) bs,.xl (.pair (.int .i64) (.pair (.int .i64) (.pair (.int .i64) (.pair (.int .i64) (.int .i64))))) l,.xl (.pair .bool (.pair (.int .i64) (.pair (.int .i64) (.int .i64)))) d,.v (.int .i64 t),.xl (.int .i64) _]=> .ok (.v (.bool (JG cs os ks gs bs l rs d t n)))
  |_=> .no)
 |_=> .no
noncomputable def Yd:List LV→T LV:=gZ Tryz.prog Tryz.f35.params.toList acu
theorem anq (cs:List Cd) (os:List ByteArray) (ks:List Ko) (gs:List Ch) (bs:List Ba) (l:List Le) (d:List Dm) (t:Int) (od:List Int) (rs:List Ra) (n:Int):bY Tryz.prog aQ (aaw) fC (fun i=>if i=8 then EW.lp else if i=14 then EU.lp else aF i) Tryz.f35 [.xq 9 (fun j=>([.xl dZ cs,.xl .str os,.xl eP ks,.xl dR gs,.xl eU bs,.xl oO l,.xl pV d,.v (.int .i64 t),.xl (.int .i64) od]:List LV).getD j .junk),.xl JI rs,.v (.int .i64 n)]=.br (((NP cs os ks gs bs) !=0) ||(!(pK l))) (.ok (.v (.bool false))) (.br (((List.length rs:Int) !=(List.length gs:Int)) ||(((List.length d:Int) !=(List.length gs:Int)) ||((!(inB t (0:Int) (1000000:Int))) ||(!(inB n (1:Int) (999900:Int)))))) (.ok (.v (.bool false))) (.req (aw1 (⟨cs,os,ks,gs,bs,l,d,t,od,rs,false,(List.length gs:Int),l,(List.length l:Int),(0:Int)⟩:lK)) (.br (iQ (abk (⟨cs,os,ks,gs,bs,l,d,t,od,rs,false,(List.length gs:Int),l,(List.length l:Int),(0:Int)⟩:lK)) (.ret)) (.ok (.v (.bool (wQ (⟨cs,os,ks,gs,bs,l,d,t,od,rs,false,(List.length gs:Int),l,(List.length l:Int),(0:Int)⟩:lK)).r))) (.req (aw0 (⟨cs,os,ks,gs,bs,l,d,t,od,rs,(wQ (⟨cs,os,ks,gs,bs,l,d,t,od,rs,false,(List.length gs:Int),l,(List.length l:Int),(0:Int)⟩:lK)).r,gs,(List.length gs:Int),(0:Int)⟩:oN)) (.br (iQ (abj (⟨cs,os,ks,gs,bs,l,d,t,od,rs,(wQ (⟨cs,os,ks,gs,bs,l,d,t,od,rs,false,(List.length gs:Int),l,(List.length l:Int),(0:Int)⟩:lK)).r,gs,(List.length gs:Int),(0:Int)⟩:oN)) (.ret)) (.ok (.v (.bool (ZF (⟨cs,os,ks,gs,bs,l,d,t,od,rs,(wQ (⟨cs,os,ks,gs,bs,l,d,t,od,rs,false,(List.length gs:Int),l,(List.length l:Int),(0:Int)⟩:lK)).r,gs,(List.length gs:Int),(0:Int)⟩:oN)).r))) (.ok (.v (.bool true)))))))):=by kernel_rfl
theorem asb:Valid Tryz.prog aQ 35 Yd:=aI Tryz.func35 rfl ahR aH (L:=(fun i=>if i=8 then EW.lp else if i=14 then EU.lp else aF i)) (fun b hb=>by
 rw [show aG _=[Bz,Bv] by kernel_rfl] at hb
 simp only [List.mem_cons,List.not_mem_nil,or_false] at hb
 rcases hb with rfl|rfl
 ·exact als
 ·exact alr) (fun args lv h=>by
 unfold acu at h
 split at h
 ·split at h
  case h_2=>cases h
  rename_i heq0
  simp only [canL,canX]
  rw [oU (n:=9) heq0]
  simp only [canL,canX]
  rw [anq]
  rename_i rs n _ cs os ks gs bs l d t od
  obtain rfl:=h
  have e0:((NP cs os ks gs bs !=0) || !pK l)=!(fV cs os ks gs bs&&pK l):=by
   unfold NP
   cases fV cs os ks gs bs<;>cases pK l<;>rfl
  have e1:(((List.length rs:Int) !=(List.length gs:Int)) ||(((List.length d:Int) !=(List.length gs:Int)) ||(!inB t 0 1000000 || !inB n 1 999900)))=!(decide (rs.length=gs.length)&&(decide (d.length=gs.length)&&(inB t 0 1000000&&inB n 1 999900))):=by
   rw [neN,neN,Bool.not_and,Bool.not_and,Bool.not_and]
  rw [e0,e1]
  have bad:JG cs os ks gs bs l rs d t n=false→LV.v (.bool false)=LV.v (.bool (JG cs os ks gs bs l rs d t n)):=fun h=>by rw [h]
  refine ⟨fun c=>bad (by unfold JG;rw [ntW c];rfl),fun c=>⟨fun c2=>bad (by unfold JG;rw [ntW c2,Bool.false_and,Bool.and_false]),fun c2=>?_⟩⟩
  have c:=RX c
  have c2:=RX c2
  have c':=c
  have c2':=c2
  simp only [Bool.and_eq_true,decide_eq_true_eq] at c' c2'
  have hl:=zK c'.2
  have hg:=(gX.1 c'.1).1.2.2.2.2.1
  have hE:ac4 ⟨cs,os,ks,gs,bs,l,d,t,od,rs,false,(List.length gs:Int),l,(List.length l:Int),0⟩:=⟨rfl,by simp only;omega,by simp only;omega,rfl⟩
  have ev:JG cs os ks gs bs l rs d t n=(below gs.length l&&JK gs.length (fun j=>RI (bF gs j) (lU rs j)&&Tz (iR d j))):=by
   unfold JG
   rw [c,c2,Bool.true_and,Bool.true_and]
  refine ⟨⟨hE,rfl,rfl⟩,?_⟩
  obtain ⟨_,_,hq⟩:=aoH _ hE
  have eb:below gs.length l=JK l.length (fun j=>decide ((kC l j).2.1<(gs.length:Int))):=by
   rw [Bool.eq_iff_iff,gm]
   exact (jG (d:=(0,0,0,0,0)) (p:=fun x:Le=>decide (x.2.1<(gs.length:Int)))).symm
  rcases hq with ⟨q1,q2⟩ |⟨q1,q2,j,q3,q4⟩<;>rw [q1]
  rotate_left
  ·rw [q2]
   exact ⟨fun _=>bad (by rw [ev,eb,tZ (f:=fun j=>decide ((kC l j).2.1<(gs.length:Int))) j q3 q4];rfl),fun h=>by cases h⟩
  refine ⟨fun h=>(by cases h),fun _=>?_⟩
  have g0:below gs.length l=true:=by rw [eb];exact gm.2 q2
  have hE2:ac3 ⟨cs,os,ks,gs,bs,l,d,t,od,rs,(wQ ⟨cs,os,ks,gs,bs,l,d,t,od,rs,false,(List.length gs:Int),l,(List.length l:Int),0⟩).r,gs,(List.length gs:Int),0⟩:=⟨rfl,by simp only;omega,by simp only;omega,rfl,c2'.1,c2'.2.1⟩
  refine ⟨⟨hE2,rfl,rfl⟩,?_⟩
  obtain ⟨_,_,hq⟩:=aoG _ hE2
  rcases hq with ⟨q5,q6⟩ |⟨q5,q6,j,q7,q8⟩<;>rw [q5]
  ·exact ⟨fun h=>(by cases h),fun _=>by rw [ev,g0,(gm (f:=fun j=>RI (bF gs j) (lU rs j)&&Tz (iR d j))).2 q6];rfl⟩
  ·rw [q6]
   exact ⟨fun _=>bad (by rw [ev,tZ (f:=fun j=>RI (bF gs j) (lU rs j)&&Tz (iR d j)) j q7 q8,Bool.and_false]),fun h=>by cases h⟩
 ·cases h)
end Go.Proofs.YtlihnbimgclogaaGreatDoor
namespace Go.Proofs.YtlihnbimgclogaaGreatDoor
open Go.Sx
structure oK where
 n:Int
 r:Bool
 l:List Int
 m:Int
 k:Int
 seen:List Bool
def aBR (s:oK):List LV:=[.v (.int .i64 s.n),.v (.bool s.r),.os 0 1 0 (List.length s.seen),.xl (.int .i64) s.l,.v (.int .i64 s.m),.v (.int .i64 s.k)]
def aAU (s:oK):List aT:=[⟨[],4,.vec .bool s.seen,false⟩]
noncomputable def Bj:Code:=((aG (Tryz.f94.body.getD .skip))[0]?).getD .skip
def Y4 (s:oK):T (Rd oK):=
 .br (decide (s.k<s.m)) (.req (0≤s.k∧s.k<(List.length s.l:Int)) (.br (decide ((gi s.l s.k)<0)) (.rl s.seen (.ok (.stop (.ret) {s with r:=false}))) (.br (decide ((gi s.l s.k)≥s.n)) (.rl s.seen (.ok (.stop (.ret) {s with r:=false}))) (.req (0≤(gi s.l s.k)∧(gi s.l s.k)<((List.length s.seen:Nat):Int)) (.req ((gi s.l s.k).toNat<List.length s.seen) (.br (s.seen.getD (gi s.l s.k).toNat (Ty.dflt .bool)) (.rl s.seen (.ok (.stop (.ret) {s with r:=false}))) (.req (0≤(gi s.l s.k)∧(gi s.l s.k)<((List.length s.seen:Nat):Int)) (.req ((gi s.l s.k).toNat<List.length s.seen) (.req (0=0∧(List.length s.seen)=List.length (s.seen.set (gi s.l s.k).toNat true)) (.ok (.next {s with k:=(IntKind.i64.wrap (s.k+1)),seen:=(s.seen.set (gi s.l s.k).toNat true)}))))))))))) (.rl s.seen (.ok (.stop (.exit 0) s)))
abbrev aqU (s:oK):=(Y4 s).rd s
def BX (s:oK) (j:Int):Bool:=RG s.n (gi s.l j)&&!(((s.l.take j.toNat).map id).contains (id (gi s.l j)))
def akf (s:oK):Prop:=s.k=0∧s.seen=List.replicate s.seen.length false∧s.m=(s.l.length:Int)∧s.m≤1000∧s.n=(s.seen.length:Int)
def ML (s:oK):Prop:=(0≤s.k∧s.k≤s.m)∧(∀j:Nat,j<s.seen.length→s.seen.getD j false=(s.l.take s.k.toNat).contains (j:Int))∧(∀j:Nat,(j:Int)<s.k→BX s j=true)∧s.m=(s.l.length:Int)∧s.m≤1000∧s.n=(s.seen.length:Int)
def OI (s:oK):Nat:=(s.m-s.k).toNat
def acM (x:Ex) (_ s':oK):Prop:=(x=.exit 0∧∀j:Nat,(j:Int)<s'.m→BX s' j=true)∨(x=.ret∧s'.r=false∧∃j:Nat,(j:Int)<s'.m∧BX s' j=false)
theorem ay0:∀s,akf s→ML s:=by
 intro s h
 obtain ⟨h0,h1,h2,h3,h4⟩:=h
 refine ⟨by omega,fun j hj=>?_,fun j hj=>by omega,h2,h3,h4⟩
 rw [h1,h0]
 simp [List.getD,List.getElem?_replicate]
 split<;>rfl
theorem au1 (s:oK) (hI:ML s):bQ (fun s'=>ML s'∧OI s'<OI s) (fun x s'=>acM x s s') (aqU s):=by
 unfold aqU Y4
 dsimp only [T.rd,T.rl]
 obtain ⟨⟨h0,h1⟩,h2,h3,h4,h5,h6⟩:=hI
 refine ax (fun c1=>?_) (fun c1=>?_)
 rotate_left
 ·have c1:s.m≤s.k:=by simpa using c1
  exact .inl ⟨rfl,fun j hj=>h3 j (by omega)⟩
 have c1:s.k<s.m:=by simpa using c1
 have bad:BX s s.k=false→acM .ret s {s with r:=false}:=fun hg=> .inr ⟨rfl,rfl,s.k.toNat,by simp only;omega,by rw [Int.toNat_of_nonneg h0];exact hg⟩
 refine ax (fun c2=>bad ?_) (fun c2=>ax (fun c3=>bad ?_) (fun c3=>ax (fun c4=>bad ?_) (fun c4=>?_)))
 ·unfold BX RG
  simp only [decide_eq_true_eq] at c2
  rw [decide_eq_false (by omega)]
  rfl
 ·unfold BX RG
  simp only [decide_eq_true_eq] at c3
  rw [decide_eq_false (p:=gi s.l s.k<s.n) (by omega),Bool.and_false]
  rfl
 all_goals
  have c2:0≤gi s.l s.k:=by simpa using c2
  have c3:gi s.l s.k<s.n:=by simpa using c3
  have e:=h2 (gi s.l s.k).toNat (by omega)
  rw [Int.toNat_of_nonneg c2] at e
 ·have c4:s.seen.getD (gi s.l s.k).toNat false=true:=c4
  unfold BX
  rw [List.map_id,id,←e,c4]
  simp
 ·have c4:s.seen.getD (gi s.l s.k).toNat false=false:=c4
  have hg:BX s s.k=true:=by
   unfold BX
   rw [List.map_id,id,←e,c4,zy.2 ⟨c2,c3⟩]
   rfl
  rw [aN (x:=s.k+1) (by omega) (by omega)]
  refine ⟨⟨⟨by simp only;omega,by simp only;omega⟩,fun j hj=>?_,fun j hj=>?_,h4,h5,by simp only [List.length_set];exact h6⟩,by simp only [OI];omega⟩
  ·simp only [List.length_set] at hj
   simp only
   rw [(gi_step h0 (show s.k<s.l.length by omega)).2,List.contains_append,←h2 j hj]
   by_cases hj2:(gi s.l s.k).toNat=j
   ·subst hj2
    rw [Int.toNat_of_nonneg c2]
    simp [List.getD,hj]
   ·have:¬(j:Int)=gi s.l s.k:=by omega
    simp [List.getD,List.getElem?_set_ne hj2,this]
  ·by_cases hji:(j:Int)<s.k
   ·exact h3 j hji
   ·have:(j:Int)=s.k:=by simp only at hj;omega
    rw [this];exact hg
def EQ:bT oK:=⟨0,37,[1,4,5,14,15,16],[],aBR,aAU,fun v b=>⟨gI (v.getD 0 .junk),x9 (v.getD 1 .junk),aS (.int .i64) (v.getD 3 .junk),gI (v.getD 4 .junk),gI (v.getD 5 .junk),jy .bool (aP b 0)⟩,Y4,fun s r=> {r with n:=s.n,l:=s.l,m:=s.m},fun s=>s,fun _ s=>s,[.ret,.exit 0],akf,ML,OI⟩
abbrev ZB:=EQ.run
abbrev abe:=EQ.kG
abbrev awT:=EQ.q
theorem aty (s:oK) (hI:ML s):(Y4 s).all (fun _=>True):=by
 refine ⟨fun c1=>⟨?_,fun c2=>⟨⟨rfl,rfl⟩,trivial⟩,fun c2=>⟨fun c3=>⟨⟨rfl,rfl⟩,trivial⟩,fun c3=>⟨?_,?_,fun c4=>⟨⟨rfl,rfl⟩,trivial⟩,fun c4=>⟨?_,?_,?_,trivial⟩⟩⟩⟩,fun c1=>⟨⟨rfl,rfl⟩,trivial⟩⟩
 iterate 5 · (obtain ⟨⟨h0,h1⟩,h2,h3,h4,h5,h6⟩:=hI;simp only [decide_eq_true_eq,decide_eq_false_iff_not] at*;omega)
 ·exact ⟨rfl,by simp⟩
noncomputable def ah9:Specs:=bg []
theorem aqh:∀g S,ah9 g=some S→Valid Tryz.prog aQ g S:=aU (l:=[]) trivial
theorem agu:EQ.Ok:=⟨fun s=>by kernel_rfl,fun s=>by kernel_rfl,fun s=>rfl,fun s t r=>rfl,fun s=>rfl,fun s=>by kernel_rfl⟩
theorem afq:EQ.Pf (acM):=⟨ay0,fun _ _=>rfl,au1,aty⟩
theorem alm:bC Tryz.prog aQ (AN 0) (.loop Bj) EQ.lp:=bT.snd agu afq (aV (Γ:=ah9) (K:=fC) (L:=aF) aqh aH Bj (fun b hb=>by rw [show aG Bj=[] by kernel_rfl] at hb;cases hb)) (fun s=>by kernel_rfl)
theorem anS (s:oK) (hE:akf s):∃s',ML s'∧acM (abe s) s' (ZB s):=bT.fin agu afq s hE
def acn:List LV→T LV
 | [.xl (.int .i64) l,.v (.int .i64 n)]=> .req (n≤1000) (.ok (.v (.bool (mF l n))))
 |_=> .no
noncomputable def qp:List LV→T LV:=gZ Tryz.prog Tryz.f94.params.toList acn
theorem anl (l:List Int) (n:Int):bY Tryz.prog aQ (ah9) fC (fun i=>if i=5 then EQ.lp else aF i) Tryz.f94 [.xl (.int .i64) l,.v (.int .i64 n)]=.br ((List.length l:Int) !=n) (.ok (.v (.bool false))) (.req (0≤n∧n≤n∧1*n≤2^48∧n<2^63) (.req (0=0∧n.toNat=List.length (List.replicate n.toNat false)) (.req (awT (⟨n,false,l,(List.length l:Int),(0:Int),(List.replicate n.toNat false)⟩:oK)) (.br (iQ (abe (⟨n,false,l,(List.length l:Int),(0:Int),(List.replicate n.toNat false)⟩:oK)) (.ret)) (.ok (.v (.bool (ZB (⟨n,false,l,(List.length l:Int),(0:Int),(List.replicate n.toNat false)⟩:oK)).r))) (.ok (.v (.bool true))))))):=by kernel_rfl
theorem Gf:Valid Tryz.prog aQ 94 qp:=aI Tryz.func94 rfl aqh aH (L:=(fun i=>if i=5 then EQ.lp else aF i)) (fun b hb=>by
 rw [show aG _=[Bj] by kernel_rfl] at hb
 simp only [List.mem_cons,List.not_mem_nil,or_false] at hb
 subst hb
 exact alm) (fun args lv h=>by
 unfold acn at h
 split at h
 ·simp only [canL,canX]
  rw [anl]
  rename_i l n
  obtain ⟨hl,rfl⟩:=h
  refine ⟨fun c=>congrArg (fun z=>LV.v (.bool z)) ?_,fun c=>?_⟩
  ·have c:¬(List.length l:Int)=n:=by simpa using c
   unfold mF
   rw [decide_eq_false c]
   rfl
  ·have c:(List.length l:Int)=n:=by simpa using c
   unfold mF
   rw [decide_eq_true c,Bool.true_and]
   refine ⟨by omega,⟨rfl,by simp⟩,nP ⟨⟨rfl,by simp,rfl,by simp only;omega,by simp only [List.length_replicate];omega⟩,rfl,rfl⟩ (fun hE=>?_)⟩
   obtain ⟨s',_,hq⟩:=anS _ hE.1
   rcases hq with ⟨q1,q2⟩ |⟨q1,q2,j,q3,q4⟩
   ·rw [q1]
    have hk:=(kM (d:=(0:Int)) (p:=RG n) (k:=id)).1 q2
    rw [List.map_id] at hk
    rw [hk]
    exact ⟨fun h=>(by cases h),fun _=>rfl⟩
   ·rw [q1,q2]
    refine ⟨fun _=>congrArg (fun z=>LV.v (.bool z)) ?_,fun h=>by cases h⟩
    rw [eq_comm,Bool.eq_false_iff]
    intro hx
    have:=(kM (d:=(0:Int)) (p:=RG n) (k:=id)).2 (by rw [List.map_id];exact hx) j q3
    exact Bool.noConfusion (this.symm.trans q4)
 ·cases h)
end Go.Proofs.YtlihnbimgclogaaGreatDoor
namespace Go.Proofs.YtlihnbimgclogaaGreatDoor
open Go.Sx
structure jH where
 r:Bool
 l:List Int
 n:Int
 i:Int
 bK:List Cd
 iT:List ByteArray
 fM:List Ko
 gu:List Ch
 mM:List Ba
def aBV (s:jH):List LV:=[.fn 92 [],.v (.bool s.r),.xl (.int .i64) s.l,.v (.int .i64 s.n),.v (.int .i64 s.i)]
def aAY (s:jH):List aT:=[⟨[.xl dZ s.bK,.xl .str s.iT,.xl eP s.fM,.xl dR s.gu,.xl eU s.mM],28,.cl,false⟩]
noncomputable def TP:Code:=((aG (Tryz.f93.body.getD .skip))[0]?).getD .skip
def Y5 (s:jH):T (Rd jH):=
 .br (decide (s.i<s.n)) (.req (0≤s.i∧s.i<(List.length s.l:Int)) (.br (!((decide ((gi s.l s.i)≥0))&&(decide ((gi s.l s.i)≤80)))) (.ok (.stop (.ret) {s with r:=false})) (.ok (.next {s with i:=(IntKind.i64.wrap (s.i+1))})))) (.ok (.stop (.exit 0) s))
abbrev aqV (s:jH):=(Y5 s).rd s
def Jq (s:jH) (j:Int):Bool:=uD (gi s.l j)
def ac0 (s:jH):Prop:=s.i=0∧0≤s.n∧s.n≤1000∧s.n=(s.l.length:Int)
def MO (s:jH):Prop:=0≤s.i∧s.i≤s.n∧s.n≤1000∧(s.n=(s.l.length:Int))∧∀j:Nat,(j:Int)<s.i→Jq s j=true
def OQ (s:jH):Nat:=(s.n-s.i).toNat
def ajF (x:Ex) (_ s':jH):Prop:=(x=.exit 0∧∀j:Nat,(j:Int)<s'.n→Jq s' j=true)∨(x=.ret∧s'.r=false∧∃j:Nat,(j:Int)<s'.n∧Jq s' j=false)
theorem azL:∀s,ac0 s→MO s:=by
 intro s h
 obtain ⟨h0,h1,h2,h3⟩:=h
 exact ⟨by omega,by omega,h2,h3,fun j hj=>by omega⟩
theorem avx (s:jH) (hI:MO s):bQ (fun s'=>MO s'∧OQ s'<OQ s) (fun x s'=>ajF x s s') (aqV s):=by
 unfold aqV Y5
 dsimp only [T.rd,T.rl]
 obtain ⟨h0,h1,h2,h3,h4⟩:=hI
 refine ax (fun c1=>ax (fun c2=>?_) (fun c2=>?_)) (fun c1=>?_)
 ·have c1:s.i<s.n:=by simpa using c1
  refine .inr ⟨rfl,rfl,s.i.toNat,by simp only;omega,?_⟩
  rw [Int.toNat_of_nonneg (by omega)]
  have hg:Jq s s.i=false:=by unfold Jq;(first|(have c2:(!(uD (gi s.l s.i)))=false:=c2;simpa using c2) |(have c2:(!(uD (gi s.l s.i)))=true:=c2;simpa using c2))
  exact hg
 ·have c1:s.i<s.n:=by simpa using c1
  have hg:Jq s s.i=true:=by unfold Jq;(first|(have c2:(!(uD (gi s.l s.i)))=false:=c2;simpa using c2) |(have c2:(!(uD (gi s.l s.i)))=true:=c2;simpa using c2))
  rw [aN (x:=s.i+1) (by omega) (by omega)]
  refine ⟨⟨by simp only;omega,by simp only;omega,h2,h3,fun j hj=>?_⟩,by simp only [OQ];omega⟩
  by_cases hji:(j:Int)<s.i
  ·exact h4 j hji
  ·have:(j:Int)=s.i:=by simp only at hj;omega
   rw [this];exact hg
 ·have c1:s.n≤s.i:=by simpa using c1
  exact .inl ⟨rfl,fun j hj=>h4 j (by omega)⟩
def uQ:bT jH:=⟨1,18,[1,4,7,8,9],[],aBV,aAY,fun v b=>⟨x9 (v.getD 1 .junk),aS (.int .i64) (v.getD 2 .junk),gI (v.getD 3 .junk),gI (v.getD 4 .junk),aS dZ (aZ (aP b 0) 0),aS .str (aZ (aP b 0) 1),aS eP (aZ (aP b 0) 2),aS dR (aZ (aP b 0) 3),aS eU (aZ (aP b 0) 4)⟩,Y5,fun s r=> {r with l:=s.l,n:=s.n,bK:=s.bK,iT:=s.iT,fM:=s.fM,gu:=s.gu,mM:=s.mM},fun s=>s,fun _ s=>s,[.ret,.exit 0],ac0,MO,OQ⟩
abbrev tY:=uQ.run
abbrev xB:=uQ.kG
abbrev Yu:=uQ.q
noncomputable def xZ:Specs:=bg [(24,nR),(61,qw),(94,qp),(96,qo)]
theorem zS:∀g S,xZ g=some S→Valid Tryz.prog aQ g S:=aU (l:=[(24,nR),(61,qw),(94,qp),(96,qo)]) ⟨Cf,Gg,Gf,F9,trivial⟩
noncomputable def ahL:Hand:=inl Tryz.prog aQ xZ (lX Tryz.prog aQ (xZ) 20 2) 9
theorem apT:dF Tryz.prog aQ ahL:=bU zS (dS zS) 9
theorem atD (s:jH) (hI:MO s):(Y5 s).all (fun _=>True):=by
 refine ⟨fun c1=>⟨?_,fun _=>trivial,fun _=>trivial⟩,fun _=>trivial⟩
 ·(obtain ⟨h0,h1,h2,h3,h4⟩:=hI;simp at c1;omega)
theorem agy:uQ.Ok:=⟨fun s=>by kernel_rfl,fun s=>by kernel_rfl,fun s=>rfl,fun s t r=>rfl,fun s=>rfl,fun s=>by kernel_rfl⟩
theorem afu:uQ.Pf (ajF):=⟨azL,fun _ _=>rfl,avx,atD⟩
theorem wJ:bC Tryz.prog aQ (AN 1) (.loop TP) uQ.lp:=bT.snd agy afu (bH (Γ:=xZ) (K:=ahL) (L:=(tH Tryz.prog aQ xZ ahL 20 2)) zS apT TP (fun b _=>dU zS apT 20 2 b)) (fun s=>by kernel_rfl)
theorem aoC (s:jH) (hE:ac0 s):∃s',MO s'∧ajF (xB s) s' (tY s):=bT.fin agy afu s hE
theorem abo (s:jH) (hE:ac0 s):(xB s=.exit 0∧s.l.all uD=true)∨(xB s=.ret∧(tY s).r=false∧s.l.all uD=false):=by
 obtain ⟨s',hI,hq⟩:=aoC s hE
 obtain ⟨h0,h1,h2,h3⟩:=hE
 have el:(tY s).l=s.l:=rfl
 have en:(tY s).n=s.n:=rfl
 rcases hq with ⟨q1,q2⟩ |⟨q1,q2,j,q3,q4⟩
 ·refine .inl ⟨q1,(jG (d:=(0:Int))).1 fun j hj=>?_⟩
  have:=q2 j (by rw [en];omega)
  exact this
 ·refine .inr ⟨q1,q2,?_⟩
  rw [Bool.eq_false_iff]
  intro hx
  have:=(jG (d:=(0:Int))).2 hx j (by rw [en] at q3;omega)
  exact Bool.noConfusion (this.symm.trans q4)
structure iq where
 alive:List Int
 i:Int
 rows:List Rw
 rn:Int
 ri:Int
 l:List Int
 n:Int
 k:Int
 bP:List Cd
 dY:List ByteArray
 bW:List Ko
 dh:List Ch
 iH:List Ba
 yu:List Cd
 yj:List ByteArray
 yt:List Ko
 fA:List Ch
 yw:List Ba
 bI:List Rw
 bf:List Int
 jr:List Int
 jq:List Int
 jo:List Int
 jm:List Int
 jl:List Int
 jk:List Int
 ji:List Int
 jh:List Int
 jg:List Int
 jf:List Int
 dN:List Int
 dM:List Int
 dL:List Int
 dK:List Int
 dJ:List Int
 dI:List Int
 sums:List Int
 levels:List Int
def aBH (s:iq):List LV:=[.xl (.int .i64) s.alive,.own 1 0,.v (.int .i64 s.i),.xl Fp s.rows,.v (.int .i64 s.rn),.v (.int .i64 s.ri),.xl (.int .i64) s.l,.v (.int .i64 s.n),.v (.int .i64 s.k)]
def aAK (s:iq):List aT:=[⟨[.xl dZ s.bP,.xl .str s.dY,.xl eP s.bW,.xl dR s.dh,.xl eU s.iH],28,.cl,false⟩,⟨[.xl dZ s.yu,.xl .str s.yj,.xl eP s.yt,.xl dR s.fA,.xl eU s.yw,.xl Fp s.bI,.os 2 1 0 (List.length s.jr),.os 3 1 0 (List.length s.jq),.os 4 1 0 (List.length s.jo),.os 5 1 0 (List.length s.jm),.os 6 1 0 (List.length s.jl),.os 7 1 0 (List.length s.jk),.os 8 1 0 (List.length s.ji),.os 9 1 0 (List.length s.jh),.os 10 1 0 (List.length s.jg),.os 11 1 0 (List.length s.jf),.os 12 1 0 (List.length s.dN),.os 13 1 0 (List.length s.dM),.os 14 1 0 (List.length s.dL),.os 15 1 0 (List.length s.dK),.os 16 1 0 (List.length s.dJ),.os 17 1 0 (List.length s.dI),.os 18 1 0 (List.length s.sums),.xl (.int .i64) s.bf,.os 19 1 0 (List.length s.levels)],148,.cl,false⟩,⟨[],3,.vec (.int .i64) s.jr,false⟩,⟨[],3,.vec (.int .i64) s.jq,false⟩,⟨[],3,.vec (.int .i64) s.jo,false⟩,⟨[],3,.vec (.int .i64) s.jm,false⟩,⟨[],3,.vec (.int .i64) s.jl,false⟩,⟨[],3,.vec (.int .i64) s.jk,false⟩,⟨[],3,.vec (.int .i64) s.ji,false⟩,⟨[],3,.vec (.int .i64) s.jh,false⟩,⟨[],3,.vec (.int .i64) s.jg,false⟩,⟨[],3,.vec (.int .i64) s.jf,false⟩,⟨[],3,.vec (.int .i64) s.dN,false⟩,⟨[],3,.vec (.int .i64) s.dM,false⟩,⟨[],3,.vec (.int .i64) s.dL,false⟩,⟨[],3,.vec (.int .i64) s.dK,false⟩,⟨[],3,.vec (.int .i64) s.dJ,false⟩,⟨[],3,.vec (.int .i64) s.dI,false⟩,⟨[],3,.vec (.int .i64) s.sums,false⟩,⟨[],3,.vec (.int .i64) s.levels,false⟩]
noncomputable def IJ:Code:=((aG (((aG (Tryz.f95.body.getD .skip))[0]?).getD .skip))[0]?).getD .skip
set_option maxHeartbeats 4000000 in
def QJ (s:iq):T (Rd iq):=
 .br (decide (s.k<s.n)) (.req (0≤s.k∧s.k<(List.length s.l:Int)) (.req (0≤(gi s.l s.k)∧(gi s.l s.k)<(16:Int)) (.br ((gi s.l s.k)==0) (.req (0+(List.length s.jr)=List.length s.jr∧((List.length s.jr+List.length ([s.i]):Nat):Int)*8≤2^47∧((List.length s.jr+List.length ([s.i]):Nat):Int)<2^62) (.req (0≤s.i∧s.i<((List.length s.sums:Nat):Int)) (.req (0≤(0:Int)∧0<(List.length s.alive:Int)) (.req (s.i.toNat<List.length s.sums) (.req (0≤s.i∧s.i<((List.length s.sums:Nat):Int)) (.req (s.i.toNat<List.length s.sums) (.req (0=0∧(List.length s.jr+List.length ([s.i]))=List.length (s.jr++([s.i]))) (.rl s.jq (.rl s.jo (.rl s.jm (.rl s.jl (.rl s.jk (.rl s.ji (.rl s.jh (.rl s.jg (.rl s.jf (.rl s.dN (.rl s.dM (.rl s.dL (.rl s.dK (.rl s.dJ (.rl s.dI (.req (0=0∧(List.length s.sums)=List.length (s.sums.set s.i.toNat (IntKind.i64.wrap ((s.sums.getD s.i.toNat (Ty.dflt (.int .i64)))+(gi s.alive (0:Int)))))) (.rl s.levels (.ok (.next {s with k:=(IntKind.i64.wrap (s.k+1)),jr:=(s.jr++([s.i])),sums:=(s.sums.set s.i.toNat (IntKind.i64.wrap ((s.sums.getD s.i.toNat (Ty.dflt (.int .i64)))+(gi s.alive (0:Int)))))})))))))))))))))))))))))))) (.br ((gi s.l s.k)==1) (.req (0+(List.length s.jq)=List.length s.jq∧((List.length s.jq+List.length ([s.i]):Nat):Int)*8≤2^47∧((List.length s.jq+List.length ([s.i]):Nat):Int)<2^62) (.req (0≤s.i∧s.i<((List.length s.sums:Nat):Int)) (.req (0≤(1:Int)∧1<(List.length s.alive:Int)) (.req (s.i.toNat<List.length s.sums) (.req (0≤s.i∧s.i<((List.length s.sums:Nat):Int)) (.req (s.i.toNat<List.length s.sums) (.rl s.jr (.req (0=0∧(List.length s.jq+List.length ([s.i]))=List.length (s.jq++([s.i]))) (.rl s.jo (.rl s.jm (.rl s.jl (.rl s.jk (.rl s.ji (.rl s.jh (.rl s.jg (.rl s.jf (.rl s.dN (.rl s.dM (.rl s.dL (.rl s.dK (.rl s.dJ (.rl s.dI (.req (0=0∧(List.length s.sums)=List.length (s.sums.set s.i.toNat (IntKind.i64.wrap ((s.sums.getD s.i.toNat (Ty.dflt (.int .i64)))+(gi s.alive (1:Int)))))) (.rl s.levels (.ok (.next {s with k:=(IntKind.i64.wrap (s.k+1)),jq:=(s.jq++([s.i])),sums:=(s.sums.set s.i.toNat (IntKind.i64.wrap ((s.sums.getD s.i.toNat (Ty.dflt (.int .i64)))+(gi s.alive (1:Int)))))})))))))))))))))))))))))))) (.br ((gi s.l s.k)==2) (.req (0+(List.length s.jo)=List.length s.jo∧((List.length s.jo+List.length ([s.i]):Nat):Int)*8≤2^47∧((List.length s.jo+List.length ([s.i]):Nat):Int)<2^62) (.req (0≤s.i∧s.i<((List.length s.sums:Nat):Int)) (.req (0≤(2:Int)∧2<(List.length s.alive:Int)) (.req (s.i.toNat<List.length s.sums) (.req (0≤s.i∧s.i<((List.length s.sums:Nat):Int)) (.req (s.i.toNat<List.length s.sums) (.rl s.jr (.rl s.jq (.req (0=0∧(List.length s.jo+List.length ([s.i]))=List.length (s.jo++([s.i]))) (.rl s.jm (.rl s.jl (.rl s.jk (.rl s.ji (.rl s.jh (.rl s.jg (.rl s.jf (.rl s.dN (.rl s.dM (.rl s.dL (.rl s.dK (.rl s.dJ (.rl s.dI (.req (0=0∧(List.length s.sums)=List.length (s.sums.set s.i.toNat (IntKind.i64.wrap ((s.sums.getD s.i.toNat (Ty.dflt (.int .i64)))+(gi s.alive (2:Int)))))) (.rl s.levels (.ok (.next {s with k:=(IntKind.i64.wrap (s.k+1)),jo:=(s.jo++([s.i])),sums:=(s.sums.set s.i.toNat (IntKind.i64.wrap ((s.sums.getD s.i.toNat (Ty.dflt (.int .i64)))+(gi s.alive (2:Int)))))})))))))))))))))))))))))))) (.br ((gi s.l s.k)==3) (.req (0+(List.length s.jm)=List.length s.jm∧((List.length s.jm+List.length ([s.i]):Nat):Int)*8≤2^47∧((List.length s.jm+List.length ([s.i]):Nat):Int)<2^62) (.req (0≤s.i∧s.i<((List.length s.sums:Nat):Int)) (.req (0≤(3:Int)∧3<(List.length s.alive:Int)) (.req (s.i.toNat<List.length s.sums) (.req (0≤s.i∧s.i<((List.length s.sums:Nat):Int)) (.req (s.i.toNat<List.length s.sums) (.rl s.jr (.rl s.jq (.rl s.jo (.req (0=0∧(List.length s.jm+List.length ([s.i]))=List.length (s.jm++([s.i]))) (.rl s.jl (.rl s.jk (.rl s.ji (.rl s.jh (.rl s.jg (.rl s.jf (.rl s.dN (.rl s.dM (.rl s.dL (.rl s.dK (.rl s.dJ (.rl s.dI (.req (0=0∧(List.length s.sums)=List.length (s.sums.set s.i.toNat (IntKind.i64.wrap ((s.sums.getD s.i.toNat (Ty.dflt (.int .i64)))+(gi s.alive (3:Int)))))) (.rl s.levels (.ok (.next {s with k:=(IntKind.i64.wrap (s.k+1)),jm:=(s.jm++([s.i])),sums:=(s.sums.set s.i.toNat (IntKind.i64.wrap ((s.sums.getD s.i.toNat (Ty.dflt (.int .i64)))+(gi s.alive (3:Int)))))})))))))))))))))))))))))))) (.br ((gi s.l s.k)==4) (.req (0+(List.length s.jl)=List.length s.jl∧((List.length s.jl+List.length ([s.i]):Nat):Int)*8≤2^47∧((List.length s.jl+List.length ([s.i]):Nat):Int)<2^62) (.req (0≤s.i∧s.i<((List.length s.sums:Nat):Int)) (.req (0≤(4:Int)∧4<(List.length s.alive:Int)) (.req (s.i.toNat<List.length s.sums) (.req (0≤s.i∧s.i<((List.length s.sums:Nat):Int)) (.req (s.i.toNat<List.length s.sums) (.rl s.jr (.rl s.jq (.rl s.jo (.rl s.jm (.req (0=0∧(List.length s.jl+List.length ([s.i]))=List.length (s.jl++([s.i]))) (.rl s.jk (.rl s.ji (.rl s.jh (.rl s.jg (.rl s.jf (.rl s.dN (.rl s.dM (.rl s.dL (.rl s.dK (.rl s.dJ (.rl s.dI (.req (0=0∧(List.length s.sums)=List.length (s.sums.set s.i.toNat (IntKind.i64.wrap ((s.sums.getD s.i.toNat (Ty.dflt (.int .i64)))+(gi s.alive (4:Int)))))) (.rl s.levels (.ok (.next {s with k:=(IntKind.i64.wrap (s.k+1)),jl:=(s.jl++([s.i])),sums:=(s.sums.set s.i.toNat (IntKind.i64.wrap ((s.sums.getD s.i.toNat (Ty.dflt (.int .i64)))+(gi s.alive (4:Int)))))})))))))))))))))))))))))))) (.br ((gi s.l s.k)==5) (.req (0+(List.length s.jk)=List.length s.jk∧((List.length s.jk+List.length ([s.i]):Nat):Int)*8≤2^47∧((List.length s.jk+List.length ([s.i]):Nat):Int)<2^62) (.req (0≤s.i∧s.i<((List.length s.sums:Nat):Int)) (.req (0≤(5:Int)∧5<(List.length s.alive:Int)) (.req (s.i.toNat<List.length s.sums) (.req (0≤s.i∧s.i<((List.length s.sums:Nat):Int)) (.req (s.i.toNat<List.length s.sums) (.rl s.jr (.rl s.jq (.rl s.jo (.rl s.jm (.rl s.jl (.req (0=0∧(List.length s.jk+List.length ([s.i]))=List.length (s.jk++([s.i]))) (.rl s.ji (.rl s.jh (.rl s.jg (.rl s.jf (.rl s.dN (.rl s.dM (.rl s.dL (.rl s.dK (.rl s.dJ (.rl s.dI (.req (0=0∧(List.length s.sums)=List.length (s.sums.set s.i.toNat (IntKind.i64.wrap ((s.sums.getD s.i.toNat (Ty.dflt (.int .i64)))+(gi s.alive (5:Int)))))) (.rl s.levels (.ok (.next {s with k:=(IntKind.i64.wrap (s.k+1)),jk:=(s.jk++([s.i])),sums:=(s.sums.set s.i.toNat (IntKind.i64.wrap ((s.sums.getD s.i.toNat (Ty.dflt (.int .i64)))+(gi s.alive (5:Int)))))})))))))))))))))))))))))))) (.br ((gi s.l s.k)==6) (.req (0+(List.length s.ji)=List.length s.ji∧((List.length s.ji+List.length ([s.i]):Nat):Int)*8≤2^47∧((List.length s.ji+List.length ([s.i]):Nat):Int)<2^62) (.req (0≤s.i∧s.i<((List.length s.sums:Nat):Int)) (.req (0≤(6:Int)∧6<(List.length s.alive:Int)) (.req (s.i.toNat<List.length s.sums) (.req (0≤s.i∧s.i<((List.length s.sums:Nat):Int)) (.req (s.i.toNat<List.length s.sums) (.rl s.jr (.rl s.jq (.rl s.jo (.rl s.jm (.rl s.jl (.rl s.jk (.req (0=0∧(List.length s.ji+List.length ([s.i]))=List.length (s.ji++([s.i]))) (.rl s.jh (.rl s.jg (.rl s.jf (.rl s.dN (.rl s.dM (.rl s.dL (.rl s.dK (.rl s.dJ (.rl s.dI (.req (0=0∧(List.length s.sums)=List.length (s.sums.set s.i.toNat (IntKind.i64.wrap ((s.sums.getD s.i.toNat (Ty.dflt (.int .i64)))+(gi s.alive (6:Int)))))) (.rl s.levels (.ok (.next {s with k:=(IntKind.i64.wrap (s.k+1)),ji:=(s.ji++([s.i])),sums:=(s.sums.set s.i.toNat (IntKind.i64.wrap ((s.sums.getD s.i.toNat (Ty.dflt (.int .i64)))+(gi s.alive (6:Int)))))})))))))))))))))))))))))))) (.br ((gi s.l s.k)==7) (.req (0+(List.length s.jh)=List.length s.jh∧((List.length s.jh+List.length ([s.i]):Nat):Int)*8≤2^47∧((List.length s.jh+List.length ([s.i]):Nat):Int)<2^62) (.req (0≤s.i∧s.i<((List.length s.sums:Nat):Int)) (.req (0≤(7:Int)∧7<(List.length s.alive:Int)) (.req (s.i.toNat<List.length s.sums) (.req (0≤s.i∧s.i<((List.length s.sums:Nat):Int)) (.req (s.i.toNat<List.length s.sums) (.rl s.jr (.rl s.jq (.rl s.jo (.rl s.jm (.rl s.jl (.rl s.jk (.rl s.ji (.req (0=0∧(List.length s.jh+List.length ([s.i]))=List.length (s.jh++([s.i]))) (.rl s.jg (.rl s.jf (.rl s.dN (.rl s.dM (.rl s.dL (.rl s.dK (.rl s.dJ (.rl s.dI (.req (0=0∧(List.length s.sums)=List.length (s.sums.set s.i.toNat (IntKind.i64.wrap ((s.sums.getD s.i.toNat (Ty.dflt (.int .i64)))+(gi s.alive (7:Int)))))) (.rl s.levels (.ok (.next {s with k:=(IntKind.i64.wrap (s.k+1)),jh:=(s.jh++([s.i])),sums:=(s.sums.set s.i.toNat (IntKind.i64.wrap ((s.sums.getD s.i.toNat (Ty.dflt (.int .i64)))+(gi s.alive (7:Int)))))})))))))))))))))))))))))))) (.br ((gi s.l s.k)==8) (.req (0+(List.length s.jg)=List.length s.jg∧((List.length s.jg+List.length ([s.i]):Nat):Int)*8≤2^47∧((List.length s.jg+List.length ([s.i]):Nat):Int)<2^62) (.req (0≤s.i∧s.i<((List.length s.sums:Nat):Int)) (.req (0≤(8:Int)∧8<(List.length s.alive:Int)) (.req (s.i.toNat<List.length s.sums) (.req (0≤s.i∧s.i<((List.length s.sums:Nat):Int)) (.req (s.i.toNat<List.length s.sums) (.rl s.jr (.rl s.jq (.rl s.jo (.rl s.jm (.rl s.jl (.rl s.jk (.rl s.ji (.rl s.jh (.req (0=0∧(List.length s.jg+List.length ([s.i]))=List.length (s.jg++([s.i]))) (.rl s.jf (.rl s.dN (.rl s.dM (.rl s.dL (.rl s.dK (.rl s.dJ (.rl s.dI (.req (0=0∧(List.length s.sums)=List.length (s.sums.set s.i.toNat (IntKind.i64.wrap ((s.sums.getD s.i.toNat (Ty.dflt (.int .i64)))+(gi s.alive (8:Int)))))) (.rl s.levels (.ok (.next {s with k:=(IntKind.i64.wrap (s.k+1)),jg:=(s.jg++([s.i])),sums:=(s.sums.set s.i.toNat (IntKind.i64.wrap ((s.sums.getD s.i.toNat (Ty.dflt (.int .i64)))+(gi s.alive (8:Int)))))})))))))))))))))))))))))))) (.br ((gi s.l s.k)==9) (.req (0+(List.length s.jf)=List.length s.jf∧((List.length s.jf+List.length ([s.i]):Nat):Int)*8≤2^47∧((List.length s.jf+List.length ([s.i]):Nat):Int)<2^62) (.req (0≤s.i∧s.i<((List.length s.sums:Nat):Int)) (.req (0≤(9:Int)∧9<(List.length s.alive:Int)) (.req (s.i.toNat<List.length s.sums) (.req (0≤s.i∧s.i<((List.length s.sums:Nat):Int)) (.req (s.i.toNat<List.length s.sums) (.rl s.jr (.rl s.jq (.rl s.jo (.rl s.jm (.rl s.jl (.rl s.jk (.rl s.ji (.rl s.jh (.rl s.jg (.req (0=0∧(List.length s.jf+List.length ([s.i]))=List.length (s.jf++([s.i]))) (.rl s.dN (.rl s.dM (.rl s.dL (.rl s.dK (.rl s.dJ (.rl s.dI (.req (0=0∧(List.length s.sums)=List.length (s.sums.set s.i.toNat (IntKind.i64.wrap ((s.sums.getD s.i.toNat (Ty.dflt (.int .i64)))+(gi s.alive (9:Int)))))) (.rl s.levels (.ok (.next {s with k:=(IntKind.i64.wrap (s.k+1)),jf:=(s.jf++([s.i])),sums:=(s.sums.set s.i.toNat (IntKind.i64.wrap ((s.sums.getD s.i.toNat (Ty.dflt (.int .i64)))+(gi s.alive (9:Int)))))})))))))))))))))))))))))))) (.br ((gi s.l s.k)==10) (.req (0+(List.length s.dN)=List.length s.dN∧((List.length s.dN+List.length ([s.i]):Nat):Int)*8≤2^47∧((List.length s.dN+List.length ([s.i]):Nat):Int)<2^62) (.req (0≤s.i∧s.i<((List.length s.sums:Nat):Int)) (.req (0≤(10:Int)∧10<(List.length s.alive:Int)) (.req (s.i.toNat<List.length s.sums) (.req (0≤s.i∧s.i<((List.length s.sums:Nat):Int)) (.req (s.i.toNat<List.length s.sums) (.rl s.jr (.rl s.jq (.rl s.jo (.rl s.jm (.rl s.jl (.rl s.jk (.rl s.ji (.rl s.jh (.rl s.jg (.rl s.jf (.req (0=0∧(List.length s.dN+List.length ([s.i]))=List.length (s.dN++([s.i]))) (.rl s.dM (.rl s.dL (.rl s.dK (.rl s.dJ (.rl s.dI (.req (0=0∧(List.length s.sums)=List.length (s.sums.set s.i.toNat (IntKind.i64.wrap ((s.sums.getD s.i.toNat (Ty.dflt (.int .i64)))+(gi s.alive (10:Int)))))) (.rl s.levels (.ok (.next {s with k:=(IntKind.i64.wrap (s.k+1)),dN:=(s.dN++([s.i])),sums:=(s.sums.set s.i.toNat (IntKind.i64.wrap ((s.sums.getD s.i.toNat (Ty.dflt (.int .i64)))+(gi s.alive (10:Int)))))})))))))))))))))))))))))))) (.br ((gi s.l s.k)==11) (.req (0+(List.length s.dM)=List.length s.dM∧((List.length s.dM+List.length ([s.i]):Nat):Int)*8≤2^47∧((List.length s.dM+List.length ([s.i]):Nat):Int)<2^62) (.req (0≤s.i∧s.i<((List.length s.sums:Nat):Int)) (.req (0≤(11:Int)∧11<(List.length s.alive:Int)) (.req (s.i.toNat<List.length s.sums) (.req (0≤s.i∧s.i<((List.length s.sums:Nat):Int)) (.req (s.i.toNat<List.length s.sums) (.rl s.jr (.rl s.jq (.rl s.jo (.rl s.jm (.rl s.jl (.rl s.jk (.rl s.ji (.rl s.jh (.rl s.jg (.rl s.jf (.rl s.dN (.req (0=0∧(List.length s.dM+List.length ([s.i]))=List.length (s.dM++([s.i]))) (.rl s.dL (.rl s.dK (.rl s.dJ (.rl s.dI (.req (0=0∧(List.length s.sums)=List.length (s.sums.set s.i.toNat (IntKind.i64.wrap ((s.sums.getD s.i.toNat (Ty.dflt (.int .i64)))+(gi s.alive (11:Int)))))) (.rl s.levels (.ok (.next {s with k:=(IntKind.i64.wrap (s.k+1)),dM:=(s.dM++([s.i])),sums:=(s.sums.set s.i.toNat (IntKind.i64.wrap ((s.sums.getD s.i.toNat (Ty.dflt (.int .i64)))+(gi s.alive (11:Int)))))})))))))))))))))))))))))))) (.br ((gi s.l s.k)==12) (.req (0+(List.length s.dL)=List.length s.dL∧((List.length s.dL+List.length ([s.i]):Nat):Int)*8≤2^47∧((List.length s.dL+List.length ([s.i]):Nat):Int)<2^62) (.req (0≤s.i∧s.i<((List.length s.sums:Nat):Int)) (.req (0≤(12:Int)∧12<(List.length s.alive:Int)) (.req (s.i.toNat<List.length s.sums) (.req (0≤s.i∧s.i<((List.length s.sums:Nat):Int)) (.req (s.i.toNat<List.length s.sums) (.rl s.jr (.rl s.jq (.rl s.jo (.rl s.jm (.rl s.jl (.rl s.jk (.rl s.ji (.rl s.jh (.rl s.jg (.rl s.jf (.rl s.dN (.rl s.dM (.req (0=0∧(List.length s.dL+List.length ([s.i]))=List.length (s.dL++([s.i]))) (.rl s.dK (.rl s.dJ (.rl s.dI (.req (0=0∧(List.length s.sums)=List.length (s.sums.set s.i.toNat (IntKind.i64.wrap ((s.sums.getD s.i.toNat (Ty.dflt (.int .i64)))+(gi s.alive (12:Int)))))) (.rl s.levels (.ok (.next {s with k:=(IntKind.i64.wrap (s.k+1)),dL:=(s.dL++([s.i])),sums:=(s.sums.set s.i.toNat (IntKind.i64.wrap ((s.sums.getD s.i.toNat (Ty.dflt (.int .i64)))+(gi s.alive (12:Int)))))})))))))))))))))))))))))))) (.br ((gi s.l s.k)==13) (.req (0+(List.length s.dK)=List.length s.dK∧((List.length s.dK+List.length ([s.i]):Nat):Int)*8≤2^47∧((List.length s.dK+List.length ([s.i]):Nat):Int)<2^62) (.req (0≤s.i∧s.i<((List.length s.sums:Nat):Int)) (.req (0≤(13:Int)∧13<(List.length s.alive:Int)) (.req (s.i.toNat<List.length s.sums) (.req (0≤s.i∧s.i<((List.length s.sums:Nat):Int)) (.req (s.i.toNat<List.length s.sums) (.rl s.jr (.rl s.jq (.rl s.jo (.rl s.jm (.rl s.jl (.rl s.jk (.rl s.ji (.rl s.jh (.rl s.jg (.rl s.jf (.rl s.dN (.rl s.dM (.rl s.dL (.req (0=0∧(List.length s.dK+List.length ([s.i]))=List.length (s.dK++([s.i]))) (.rl s.dJ (.rl s.dI (.req (0=0∧(List.length s.sums)=List.length (s.sums.set s.i.toNat (IntKind.i64.wrap ((s.sums.getD s.i.toNat (Ty.dflt (.int .i64)))+(gi s.alive (13:Int)))))) (.rl s.levels (.ok (.next {s with k:=(IntKind.i64.wrap (s.k+1)),dK:=(s.dK++([s.i])),sums:=(s.sums.set s.i.toNat (IntKind.i64.wrap ((s.sums.getD s.i.toNat (Ty.dflt (.int .i64)))+(gi s.alive (13:Int)))))})))))))))))))))))))))))))) (.br ((gi s.l s.k)==14) (.req (0+(List.length s.dJ)=List.length s.dJ∧((List.length s.dJ+List.length ([s.i]):Nat):Int)*8≤2^47∧((List.length s.dJ+List.length ([s.i]):Nat):Int)<2^62) (.req (0≤s.i∧s.i<((List.length s.sums:Nat):Int)) (.req (0≤(14:Int)∧14<(List.length s.alive:Int)) (.req (s.i.toNat<List.length s.sums) (.req (0≤s.i∧s.i<((List.length s.sums:Nat):Int)) (.req (s.i.toNat<List.length s.sums) (.rl s.jr (.rl s.jq (.rl s.jo (.rl s.jm (.rl s.jl (.rl s.jk (.rl s.ji (.rl s.jh (.rl s.jg (.rl s.jf (.rl s.dN (.rl s.dM (.rl s.dL (.rl s.dK (.req (0=0∧(List.length s.dJ+List.length ([s.i]))=List.length (s.dJ++([s.i]))) (.rl s.dI (.req (0=0∧(List.length s.sums)=List.length (s.sums.set s.i.toNat (IntKind.i64.wrap ((s.sums.getD s.i.toNat (Ty.dflt (.int .i64)))+(gi s.alive (14:Int)))))) (.rl s.levels (.ok (.next {s with k:=(IntKind.i64.wrap (s.k+1)),dJ:=(s.dJ++([s.i])),sums:=(s.sums.set s.i.toNat (IntKind.i64.wrap ((s.sums.getD s.i.toNat (Ty.dflt (.int .i64)))+(gi s.alive (14:Int)))))})))))))))))))))))))))))))) (.req (0+(List.length s.dI)=List.length s.dI∧((List.length s.dI+List.length ([s.i]):Nat):Int)*8≤2^47∧((List.length s.dI+List.length ([s.i]):Nat):Int)<2^62) (.req (0≤s.i∧s.i<((List.length s.sums:Nat):Int)) (.req (0≤(15:Int)∧15<(List.length s.alive:Int)) (.req (s.i.toNat<List.length s.sums) (.req (0≤s.i∧s.i<((List.length s.sums:Nat):Int)) (.req (s.i.toNat<List.length s.sums) (.rl s.jr (.rl s.jq (.rl s.jo (.rl s.jm (.rl s.jl (.rl s.jk (.rl s.ji (.rl s.jh (.rl s.jg (.rl s.jf (.rl s.dN (.rl s.dM (.rl s.dL (.rl s.dK (.rl s.dJ (.req (0=0∧(List.length s.dI+List.length ([s.i]))=List.length (s.dI++([s.i]))) (.req (0=0∧(List.length s.sums)=List.length (s.sums.set s.i.toNat (IntKind.i64.wrap ((s.sums.getD s.i.toNat (Ty.dflt (.int .i64)))+(gi s.alive (15:Int)))))) (.rl s.levels (.ok (.next {s with k:=(IntKind.i64.wrap (s.k+1)),dI:=(s.dI++([s.i])),sums:=(s.sums.set s.i.toNat (IntKind.i64.wrap ((s.sums.getD s.i.toNat (Ty.dflt (.int .i64)))+(gi s.alive (15:Int)))))}))))))))))))))))))))))))))))))))))))))))))) (.rl s.jr (.rl s.jq (.rl s.jo (.rl s.jm (.rl s.jl (.rl s.jk (.rl s.ji (.rl s.jh (.rl s.jg (.rl s.jf (.rl s.dN (.rl s.dM (.rl s.dL (.rl s.dK (.rl s.dJ (.rl s.dI (.rl s.sums (.rl s.levels (.ok (.stop (.exit 2) s))))))))))))))))))))
abbrev aaM (s:iq):=(QJ s).rd s
def fF (s:iq):List (List Int):=[s.jr,s.jq,s.jo,s.jm,s.jl,s.jk,s.ji,s.jh,s.jg,s.jf,s.dN,s.dM,s.dL,s.dK,s.dJ,s.dI]
def UM (s:iq):Prop:=s.k=0∧(∀o∈fF s,(o.length:Int)≤1000000)∧(0≤gi s.sums s.i∧gi s.sums s.i≤1000)∧s.n=(s.l.length:Int)∧s.n≤1000∧(∀m∈s.l,0≤m∧m<16∧m<(s.alive.length:Int))∧(∀a∈s.alive,0≤a∧a≤80)∧(0≤s.i∧s.i<(s.sums.length:Int))
def uP (s:iq):Prop:=(0≤s.k∧s.k≤s.n)∧(∀o∈fF s,(o.length:Int)≤1000000+s.k)∧(0≤gi s.sums s.i∧gi s.sums s.i≤1000+80*s.k)∧s.n=(s.l.length:Int)∧s.n≤1000∧(∀m∈s.l,0≤m∧m<16∧m<(s.alive.length:Int))∧(∀a∈s.alive,0≤a∧a≤80)∧(0≤s.i∧s.i<(s.sums.length:Int))
def vM (s:iq):Nat:=(s.n-s.k).toNat
def ajv (x:Ex) (_ s':iq):Prop:=x=.exit 2∧s'.k=s'.n
theorem ayK:∀s,UM s→uP s:=by
 intro s h
 obtain ⟨h0,h1,h2,h3⟩:=h
 exact ⟨by have:=h3.1;omega,fun o ho=>by have:=h1 o ho;omega,by omega,h3⟩
theorem gq (s:iq) (hI:uP s) (c1:s.k<s.n):0≤gi s.l s.k∧gi s.l s.k<16∧gi s.l s.k<(s.alive.length:Int):=by
 obtain ⟨⟨h0,h1⟩,h2,h3,h4,h5,h6,h7,h8⟩:=hI
 exact h6 _ (by rw [o6 (by omega)];exact List.getElem_mem _)
theorem agS (s s':iq) (j:Nat) (hI:uP s) (c1:s.k<s.n) (em:gi s.l s.k=(j:Int)) (hO:fF s'=(fF s).modify j (·++[s.i])) (hs:s'.sums=s.sums.set s.i.toNat (IntKind.i64.wrap (s.sums.getD s.i.toNat 0+gi s.alive (j:Int)))) (hk:s'.k=IntKind.i64.wrap (s.k+1)) (hn:s'.n=s.n) (hl:s'.l=s.l) (ha:s'.alive=s.alive) (hi:s'.i=s.i):
  (uP s'∧vM s'<vM s)∧(fun s:iq=>(uT s.i (fF s) (s.l.drop s.k.toNat),s.sums.set s.i.toNat (s.sums.getD s.i.toNat 0+smA s.alive (s.l.drop s.k.toNat)))) s'=(fun s:iq=>(uT s.i (fF s) (s.l.drop s.k.toNat),s.sums.set s.i.toNat (s.sums.getD s.i.toNat 0+smA s.alive (s.l.drop s.k.toNat)))) s:=by
 have hm:=gq s hI c1
 obtain ⟨⟨h0,h1⟩,h2,⟨h3,h3'⟩,h4,h5,h6,h7,h8⟩:=hI
 rw [aN (x:=s.k+1) (by omega) (by omega)] at hk
 have hav:=h7 (gi s.alive (j:Int)) (by rw [o6 (by omega)];exact List.getElem_mem _)
 have hgi:gi s.sums s.i=s.sums.getD s.i.toNat 0:=rfl
 rw [aN (x:=s.sums.getD s.i.toNat 0+gi s.alive (j:Int)) (by omega) (by omega)] at hs
 have hs2:gi s'.sums s'.i=s.sums.getD s.i.toNat 0+gi s.alive (j:Int):=by
  rw [hi,hs]
  show List.getD _ _ _=_
  simp [List.getD,show s.i.toNat<s.sums.length by omega]
 refine ⟨⟨⟨⟨by omega,by omega⟩,fun o ho=>?_,⟨by rw [hs2];omega,by rw [hs2];omega⟩,by rw [hn,hl];exact h4,by omega,by rw [hl,ha];exact h6,by rw [ha];exact h7,⟨by rw [hi];omega,by rw [hi,hs,List.length_set];omega⟩⟩,by simp only [vM];omega⟩,?_⟩
 ·rw [hO] at ho
  obtain ⟨k,hk2,rfl⟩:=List.mem_iff_getElem.1 ho
  rw [List.length_modify] at hk2
  have:=h2 (fF s)[k] (List.getElem_mem _)
  rw [List.getElem_modify]
  split
  ·simp only [List.length_append,List.length_cons,List.length_nil];omega
  ·omega
 ·simp only
  rw [hO,hs,hl,ha,hi,hk,(gi_step h0 (show s.k<s.l.length by omega)).1,wU,Rh,em,Int.toNat_natCast,Rk (by omega)]
theorem iO (s s':iq) (j:Nat) (hI:uP s) (c1:s.k<s.n) (em:gi s.l s.k=(j:Int)) (hO:fF s'=(fF s).modify j (·++[s.i])) (hs:s'.sums=s.sums.set s.i.toNat (IntKind.i64.wrap (s.sums.getD s.i.toNat 0+gi s.alive (j:Int)))) (hk:s'.k=IntKind.i64.wrap (s.k+1)) (hn:s'.n=s.n) (hl:s'.l=s.l) (ha:s'.alive=s.alive) (hi:s'.i=s.i):bQ (fun s'=>uP s'∧vM s'<vM s) (fun x s'=>ajv x s s') (.next s'):=(agS s s' j hI c1 em hO hs hk hn hl ha hi).1
theorem iM (s s':iq) (j:Nat) (hI:uP s) (c1:s.k<s.n) (em:gi s.l s.k=(j:Int)) (hO:fF s'=(fF s).modify j (·++[s.i])) (hs:s'.sums=s.sums.set s.i.toNat (IntKind.i64.wrap (s.sums.getD s.i.toNat 0+gi s.alive (j:Int)))) (hk:s'.k=IntKind.i64.wrap (s.k+1)) (hn:s'.n=s.n) (hl:s'.l=s.l) (ha:s'.alive=s.alive) (hi:s'.i=s.i):bQ (fun s'=>(fun s:iq=>(uT s.i (fF s) (s.l.drop s.k.toNat),s.sums.set s.i.toNat (s.sums.getD s.i.toNat 0+smA s.alive (s.l.drop s.k.toNat)))) s'=(fun s:iq=>(uT s.i (fF s) (s.l.drop s.k.toNat),s.sums.set s.i.toNat (s.sums.getD s.i.toNat 0+smA s.alive (s.l.drop s.k.toNat)))) s) (fun _ s'=>(fun s:iq=>(uT s.i (fF s) (s.l.drop s.k.toNat),s.sums.set s.i.toNat (s.sums.getD s.i.toNat 0+smA s.alive (s.l.drop s.k.toNat)))) s'=(fun s:iq=>(uT s.i (fF s) (s.l.drop s.k.toNat),s.sums.set s.i.toNat (s.sums.getD s.i.toNat 0+smA s.alive (s.l.drop s.k.toNat)))) s) (.next s'):=(agS s s' j hI c1 em hO hs hk hn hl ha hi).2
theorem agU (s : iq) (hI:uP s):bQ (fun s'=>uP s'∧vM s'<vM s) (fun x s'=>ajv x s s') (aaM s):=by
 unfold aaM QJ
 dsimp only [T.rd,T.rl]
 refine ax (fun c1=>?_) (fun c1=>?_)
 ·refine ax (fun c2=>?_) (fun c2=>?_)
  ·have em:gi s.l s.k=0:=by simpa using c2
   exact iO s _ 0 hI (by simpa using c1) em rfl rfl rfl rfl rfl rfl rfl
  ·refine ax (fun c3=>?_) (fun c3=>?_)
   ·have em:gi s.l s.k=1:=by simpa using c3
    exact iO s _ 1 hI (by simpa using c1) em rfl rfl rfl rfl rfl rfl rfl
   ·refine ax (fun c4=>?_) (fun c4=>?_)
    ·have em:gi s.l s.k=2:=by simpa using c4
     exact iO s _ 2 hI (by simpa using c1) em rfl rfl rfl rfl rfl rfl rfl
    ·refine ax (fun c5=>?_) (fun c5=>?_)
     ·have em:gi s.l s.k=3:=by simpa using c5
      exact iO s _ 3 hI (by simpa using c1) em rfl rfl rfl rfl rfl rfl rfl
     ·refine ax (fun c6=>?_) (fun c6=>?_)
      ·have em:gi s.l s.k=4:=by simpa using c6
       exact iO s _ 4 hI (by simpa using c1) em rfl rfl rfl rfl rfl rfl rfl
      ·refine ax (fun c7=>?_) (fun c7=>?_)
       ·have em:gi s.l s.k=5:=by simpa using c7
        exact iO s _ 5 hI (by simpa using c1) em rfl rfl rfl rfl rfl rfl rfl
       ·refine ax (fun c8=>?_) (fun c8=>?_)
        ·have em:gi s.l s.k=6:=by simpa using c8
         exact iO s _ 6 hI (by simpa using c1) em rfl rfl rfl rfl rfl rfl rfl
        ·refine ax (fun c9=>?_) (fun c9=>?_)
         ·have em:gi s.l s.k=7:=by simpa using c9
          exact iO s _ 7 hI (by simpa using c1) em rfl rfl rfl rfl rfl rfl rfl
         ·refine ax (fun c10=>?_) (fun c10=>?_)
          ·have em:gi s.l s.k=8:=by simpa using c10
           exact iO s _ 8 hI (by simpa using c1) em rfl rfl rfl rfl rfl rfl rfl
          ·refine ax (fun c11=>?_) (fun c11=>?_)
           ·have em:gi s.l s.k=9:=by simpa using c11
            exact iO s _ 9 hI (by simpa using c1) em rfl rfl rfl rfl rfl rfl rfl
           ·refine ax (fun c12=>?_) (fun c12=>?_)
            ·have em:gi s.l s.k=10:=by simpa using c12
             exact iO s _ 10 hI (by simpa using c1) em rfl rfl rfl rfl rfl rfl rfl
            ·refine ax (fun c13=>?_) (fun c13=>?_)
             ·have em:gi s.l s.k=11:=by simpa using c13
              exact iO s _ 11 hI (by simpa using c1) em rfl rfl rfl rfl rfl rfl rfl
             ·refine ax (fun c14=>?_) (fun c14=>?_)
              ·have em:gi s.l s.k=12:=by simpa using c14
               exact iO s _ 12 hI (by simpa using c1) em rfl rfl rfl rfl rfl rfl rfl
              ·refine ax (fun c15=>?_) (fun c15=>?_)
               ·have em:gi s.l s.k=13:=by simpa using c15
                exact iO s _ 13 hI (by simpa using c1) em rfl rfl rfl rfl rfl rfl rfl
               ·refine ax (fun c16=>?_) (fun c16=>?_)
                ·have em:gi s.l s.k=14:=by simpa using c16
                 exact iO s _ 14 hI (by simpa using c1) em rfl rfl rfl rfl rfl rfl rfl
                ·have em:gi s.l s.k=15:=by
                  have hm:=gq s hI (by simpa using c1)
                  simp only [beq_eq_false_iff_ne,ne_eq] at c2 c3 c4 c5 c6 c7 c8 c9 c10 c11 c12 c13 c14 c15 c16
                  omega
                 exact iO s _ 15 hI (by simpa using c1) em rfl rfl rfl rfl rfl rfl rfl
 ·have c1:s.n≤s.k:=by simpa using c1
  have h0:=hI.1
  exact ⟨rfl,by omega⟩
def Nq:bT iq:=⟨1,67,[2,7,8,23,24,25,31,32,33],[.ns 7 6 3 (.int .i64),.ns 7 7 3 (.int .i64),.ns 7 8 3 (.int .i64),.ns 7 9 3 (.int .i64),.ns 7 10 3 (.int .i64),.ns 7 11 3 (.int .i64),.ns 7 12 3 (.int .i64),.ns 7 13 3 (.int .i64),.ns 7 14 3 (.int .i64),.ns 7 15 3 (.int .i64),.ns 7 16 3 (.int .i64),.ns 7 17 3 (.int .i64),.ns 7 18 3 (.int .i64),.ns 7 19 3 (.int .i64),.ns 7 20 3 (.int .i64),.ns 7 21 3 (.int .i64)],aBH,aAK,fun v b=>⟨aS (.int .i64) (v.getD 0 .junk),gI (v.getD 2 .junk),aS Fp (v.getD 3 .junk),gI (v.getD 4 .junk),gI (v.getD 5 .junk),aS (.int .i64) (v.getD 6 .junk),gI (v.getD 7 .junk),gI (v.getD 8 .junk),aS dZ (aZ (aP b 0) 0),aS .str (aZ (aP b 0) 1),aS eP (aZ (aP b 0) 2),aS dR (aZ (aP b 0) 3),aS eU (aZ (aP b 0) 4),aS dZ (aZ (aP b 1) 0),aS .str (aZ (aP b 1) 1),aS eP (aZ (aP b 1) 2),aS dR (aZ (aP b 1) 3),aS eU (aZ (aP b 1) 4),aS Fp (aZ (aP b 1) 5),aS (.int .i64) (aZ (aP b 1) 23),jy (.int .i64) (aP b 2),jy (.int .i64) (aP b 3),jy (.int .i64) (aP b 4),jy (.int .i64) (aP b 5),jy (.int .i64) (aP b 6),jy (.int .i64) (aP b 7),jy (.int .i64) (aP b 8),jy (.int .i64) (aP b 9),jy (.int .i64) (aP b 10),jy (.int .i64) (aP b 11),jy (.int .i64) (aP b 12),jy (.int .i64) (aP b 13),jy (.int .i64) (aP b 14),jy (.int .i64) (aP b 15),jy (.int .i64) (aP b 16),jy (.int .i64) (aP b 17),jy (.int .i64) (aP b 18),jy (.int .i64) (aP b 19)⟩,QJ,fun s r=> {r with alive:=s.alive,i:=s.i,rows:=s.rows,rn:=s.rn,ri:=s.ri,l:=s.l,n:=s.n,bP:=s.bP,dY:=s.dY,bW:=s.bW,dh:=s.dh,iH:=s.iH,yu:=s.yu,yj:=s.yj,yt:=s.yt,fA:=s.fA,yw:=s.yw,bI:=s.bI,bf:=s.bf,levels:=s.levels},fun s=>s,fun _ s=>s,[.exit 2],UM,uP,vM⟩
abbrev bG:=Nq.run
abbrev awJ:=Nq.q
noncomputable def aam:Hand:=inl Tryz.prog aQ xZ (kH 93 1 2 (uQ.lp) (lX Tryz.prog aQ (xZ) 20 2)) 9
theorem ahB:dF Tryz.prog aQ aam:=bU zS (dO Tryz.func93 rfl (by kernel_rfl) wJ (dS zS)) 9
set_option maxRecDepth 100000 in
set_option maxHeartbeats 4000000 in
theorem atn (s:iq) (hI:uP s):(QJ s).all (fun _=>True):=by
 refine ⟨fun c1=>⟨?_,?_,fun c2=>⟨?_,?_,?_,?_,?_,?_,?_,⟨rfl,rfl⟩,⟨rfl,rfl⟩,⟨rfl,rfl⟩,⟨rfl,rfl⟩,⟨rfl,rfl⟩,⟨rfl,rfl⟩,⟨rfl,rfl⟩,⟨rfl,rfl⟩,⟨rfl,rfl⟩,⟨rfl,rfl⟩,⟨rfl,rfl⟩,⟨rfl,rfl⟩,⟨rfl,rfl⟩,⟨rfl,rfl⟩,⟨rfl,rfl⟩,?_,⟨rfl,rfl⟩,trivial⟩,fun c2=>⟨fun c3=>⟨?_,?_,?_,?_,?_,?_,⟨rfl,rfl⟩,?_,⟨rfl,rfl⟩,⟨rfl,rfl⟩,⟨rfl,rfl⟩,⟨rfl,rfl⟩,⟨rfl,rfl⟩,⟨rfl,rfl⟩,⟨rfl,rfl⟩,⟨rfl,rfl⟩,⟨rfl,rfl⟩,⟨rfl,rfl⟩,⟨rfl,rfl⟩,⟨rfl,rfl⟩,⟨rfl,rfl⟩,⟨rfl,rfl⟩,?_,⟨rfl,rfl⟩,trivial⟩,fun c3=>⟨fun c4=>⟨?_,?_,?_,?_,?_,?_,⟨rfl,rfl⟩,⟨rfl,rfl⟩,?_,⟨rfl,rfl⟩,⟨rfl,rfl⟩,⟨rfl,rfl⟩,⟨rfl,rfl⟩,⟨rfl,rfl⟩,⟨rfl,rfl⟩,⟨rfl,rfl⟩,⟨rfl,rfl⟩,⟨rfl,rfl⟩,⟨rfl,rfl⟩,⟨rfl,rfl⟩,⟨rfl,rfl⟩,⟨rfl,rfl⟩,?_,⟨rfl,rfl⟩,trivial⟩,fun c4=>⟨fun c5=>⟨?_,?_,?_,?_,?_,?_,⟨rfl,rfl⟩,⟨rfl,rfl⟩,⟨rfl,rfl⟩,?_,⟨rfl,rfl⟩,⟨rfl,rfl⟩,⟨rfl,rfl⟩,⟨rfl,rfl⟩,⟨rfl,rfl⟩,⟨rfl,rfl⟩,⟨rfl,rfl⟩,⟨rfl,rfl⟩,⟨rfl,rfl⟩,⟨rfl,rfl⟩,⟨rfl,rfl⟩,⟨rfl,rfl⟩,?_,⟨rfl,rfl⟩,trivial⟩,fun c5=>⟨fun c6=>⟨?_,?_,?_,?_,?_,?_,⟨rfl,rfl⟩,⟨rfl,rfl⟩,⟨rfl,rfl⟩,⟨rfl,rfl⟩,?_,⟨rfl,rfl⟩,⟨rfl,rfl⟩,⟨rfl,rfl⟩,⟨rfl,rfl⟩,⟨rfl,rfl⟩,⟨rfl,rfl⟩,⟨rfl,rfl⟩,⟨rfl,rfl⟩,⟨rfl,rfl⟩,⟨rfl,rfl⟩,⟨rfl,rfl⟩,?_,⟨rfl,rfl⟩,trivial⟩,fun c6=>⟨fun c7=>⟨?_,?_,?_,?_,?_,?_,⟨rfl,rfl⟩,⟨rfl,rfl⟩,⟨rfl,rfl⟩,⟨rfl,rfl⟩,⟨rfl,rfl⟩,?_,⟨rfl,rfl⟩,⟨rfl,rfl⟩,⟨rfl,rfl⟩,⟨rfl,rfl⟩,⟨rfl,rfl⟩,⟨rfl,rfl⟩,⟨rfl,rfl⟩,⟨rfl,rfl⟩,⟨rfl,rfl⟩,⟨rfl,rfl⟩,?_,⟨rfl,rfl⟩,trivial⟩,fun c7=>⟨fun c8=>⟨?_,?_,?_,?_,?_,?_,⟨rfl,rfl⟩,⟨rfl,rfl⟩,⟨rfl,rfl⟩,⟨rfl,rfl⟩,⟨rfl,rfl⟩,⟨rfl,rfl⟩,?_,⟨rfl,rfl⟩,⟨rfl,rfl⟩,⟨rfl,rfl⟩,⟨rfl,rfl⟩,⟨rfl,rfl⟩,⟨rfl,rfl⟩,⟨rfl,rfl⟩,⟨rfl,rfl⟩,⟨rfl,rfl⟩,?_,⟨rfl,rfl⟩,trivial⟩,fun c8=>⟨fun c9=>⟨?_,?_,?_,?_,?_,?_,⟨rfl,rfl⟩,⟨rfl,rfl⟩,⟨rfl,rfl⟩,⟨rfl,rfl⟩,⟨rfl,rfl⟩,⟨rfl,rfl⟩,⟨rfl,rfl⟩,?_,⟨rfl,rfl⟩,⟨rfl,rfl⟩,⟨rfl,rfl⟩,⟨rfl,rfl⟩,⟨rfl,rfl⟩,⟨rfl,rfl⟩,⟨rfl,rfl⟩,⟨rfl,rfl⟩,?_,⟨rfl,rfl⟩,trivial⟩,fun c9=>⟨fun c10=>⟨?_,?_,?_,?_,?_,?_,⟨rfl,rfl⟩,⟨rfl,rfl⟩,⟨rfl,rfl⟩,⟨rfl,rfl⟩,⟨rfl,rfl⟩,⟨rfl,rfl⟩,⟨rfl,rfl⟩,⟨rfl,rfl⟩,?_,⟨rfl,rfl⟩,⟨rfl,rfl⟩,⟨rfl,rfl⟩,⟨rfl,rfl⟩,⟨rfl,rfl⟩,⟨rfl,rfl⟩,⟨rfl,rfl⟩,?_,⟨rfl,rfl⟩,trivial⟩,fun c10=>⟨fun c11=>⟨?_,?_,?_,?_,?_,?_,⟨rfl,rfl⟩,⟨rfl,rfl⟩,⟨rfl,rfl⟩,⟨rfl,rfl⟩,⟨rfl,rfl⟩,⟨rfl,rfl⟩,⟨rfl,rfl⟩,⟨rfl,rfl⟩,⟨rfl,rfl⟩,?_,⟨rfl,rfl⟩,⟨rfl,rfl⟩,⟨rfl,rfl⟩,⟨rfl,rfl⟩,⟨rfl,rfl⟩,⟨rfl,rfl⟩,?_,⟨rfl,rfl⟩,trivial⟩,fun c11=>⟨fun c12=>⟨?_,?_,?_,?_,?_,?_,⟨rfl,rfl⟩,⟨rfl,rfl⟩,⟨rfl,rfl⟩,⟨rfl,rfl⟩,⟨rfl,rfl⟩,⟨rfl,rfl⟩,⟨rfl,rfl⟩,⟨rfl,rfl⟩,⟨rfl,rfl⟩,⟨rfl,rfl⟩,?_,⟨rfl,rfl⟩,⟨rfl,rfl⟩,⟨rfl,rfl⟩,⟨rfl,rfl⟩,⟨rfl,rfl⟩,?_,⟨rfl,rfl⟩,trivial⟩,fun c12=>⟨fun c13=>⟨?_,?_,?_,?_,?_,?_,⟨rfl,rfl⟩,⟨rfl,rfl⟩,⟨rfl,rfl⟩,⟨rfl,rfl⟩,⟨rfl,rfl⟩,⟨rfl,rfl⟩,⟨rfl,rfl⟩,⟨rfl,rfl⟩,⟨rfl,rfl⟩,⟨rfl,rfl⟩,⟨rfl,rfl⟩,?_,⟨rfl,rfl⟩,⟨rfl,rfl⟩,⟨rfl,rfl⟩,⟨rfl,rfl⟩,?_,⟨rfl,rfl⟩,trivial⟩,fun c13=>⟨fun c14=>⟨?_,?_,?_,?_,?_,?_,⟨rfl,rfl⟩,⟨rfl,rfl⟩,⟨rfl,rfl⟩,⟨rfl,rfl⟩,⟨rfl,rfl⟩,⟨rfl,rfl⟩,⟨rfl,rfl⟩,⟨rfl,rfl⟩,⟨rfl,rfl⟩,⟨rfl,rfl⟩,⟨rfl,rfl⟩,⟨rfl,rfl⟩,?_,⟨rfl,rfl⟩,⟨rfl,rfl⟩,⟨rfl,rfl⟩,?_,⟨rfl,rfl⟩,trivial⟩,fun c14=>⟨fun c15=>⟨?_,?_,?_,?_,?_,?_,⟨rfl,rfl⟩,⟨rfl,rfl⟩,⟨rfl,rfl⟩,⟨rfl,rfl⟩,⟨rfl,rfl⟩,⟨rfl,rfl⟩,⟨rfl,rfl⟩,⟨rfl,rfl⟩,⟨rfl,rfl⟩,⟨rfl,rfl⟩,⟨rfl,rfl⟩,⟨rfl,rfl⟩,⟨rfl,rfl⟩,?_,⟨rfl,rfl⟩,⟨rfl,rfl⟩,?_,⟨rfl,rfl⟩,trivial⟩,fun c15=>⟨fun c16=>⟨?_,?_,?_,?_,?_,?_,⟨rfl,rfl⟩,⟨rfl,rfl⟩,⟨rfl,rfl⟩,⟨rfl,rfl⟩,⟨rfl,rfl⟩,⟨rfl,rfl⟩,⟨rfl,rfl⟩,⟨rfl,rfl⟩,⟨rfl,rfl⟩,⟨rfl,rfl⟩,⟨rfl,rfl⟩,⟨rfl,rfl⟩,⟨rfl,rfl⟩,⟨rfl,rfl⟩,?_,⟨rfl,rfl⟩,?_,⟨rfl,rfl⟩,trivial⟩,fun c16=>⟨?_,?_,?_,?_,?_,?_,⟨rfl,rfl⟩,⟨rfl,rfl⟩,⟨rfl,rfl⟩,⟨rfl,rfl⟩,⟨rfl,rfl⟩,⟨rfl,rfl⟩,⟨rfl,rfl⟩,⟨rfl,rfl⟩,⟨rfl,rfl⟩,⟨rfl,rfl⟩,⟨rfl,rfl⟩,⟨rfl,rfl⟩,⟨rfl,rfl⟩,⟨rfl,rfl⟩,⟨rfl,rfl⟩,?_,?_,⟨rfl,rfl⟩,trivial⟩⟩⟩⟩⟩⟩⟩⟩⟩⟩⟩⟩⟩⟩⟩⟩,fun c1=>⟨⟨rfl,rfl⟩,⟨rfl,rfl⟩,⟨rfl,rfl⟩,⟨rfl,rfl⟩,⟨rfl,rfl⟩,⟨rfl,rfl⟩,⟨rfl,rfl⟩,⟨rfl,rfl⟩,⟨rfl,rfl⟩,⟨rfl,rfl⟩,⟨rfl,rfl⟩,⟨rfl,rfl⟩,⟨rfl,rfl⟩,⟨rfl,rfl⟩,⟨rfl,rfl⟩,⟨rfl,rfl⟩,⟨rfl,rfl⟩,⟨rfl,rfl⟩,trivial⟩⟩
 ·(obtain ⟨h0,h2,h3,h4,h5,h6,h7,h8⟩:=hI;simp only [decide_eq_true_eq] at c1;omega)
 ·exact ⟨(gq s hI (by simpa using c1)).1,(gq s hI (by simpa using c1)).2.1⟩
 ·(have:=hI.2.1 s.jr (by simp [fF]);have:=hI.1;have:=hI.2.2.2.1;have:=hI.2.2.2.2.1;simp only [List.length_cons,List.length_nil];omega)
 ·(obtain ⟨h0,h2,h3,h4,h5,h6,h7,h8⟩:=hI;simp only [decide_eq_true_eq] at c1;omega)
 ·(have em:=eq_of_beq c2;have hm:=gq s hI (by simpa using c1);omega)
 iterate 3 · (obtain ⟨h0,h2,h3,h4,h5,h6,h7,h8⟩:=hI;simp only [decide_eq_true_eq] at c1;omega)
 iterate 2 · exact ⟨rfl,by simp⟩
 ·(have:=hI.2.1 s.jq (by simp [fF]);have:=hI.1;have:=hI.2.2.2.1;have:=hI.2.2.2.2.1;simp only [List.length_cons,List.length_nil];omega)
 ·(obtain ⟨h0,h2,h3,h4,h5,h6,h7,h8⟩:=hI;simp only [decide_eq_true_eq] at c1;omega)
 ·(have em:=eq_of_beq c3;have hm:=gq s hI (by simpa using c1);omega)
 iterate 3 · (obtain ⟨h0,h2,h3,h4,h5,h6,h7,h8⟩:=hI;simp only [decide_eq_true_eq] at c1;omega)
 iterate 2 · exact ⟨rfl,by simp⟩
 ·(have:=hI.2.1 s.jo (by simp [fF]);have:=hI.1;have:=hI.2.2.2.1;have:=hI.2.2.2.2.1;simp only [List.length_cons,List.length_nil];omega)
 ·(obtain ⟨h0,h2,h3,h4,h5,h6,h7,h8⟩:=hI;simp only [decide_eq_true_eq] at c1;omega)
 ·(have em:=eq_of_beq c4;have hm:=gq s hI (by simpa using c1);omega)
 iterate 3 · (obtain ⟨h0,h2,h3,h4,h5,h6,h7,h8⟩:=hI;simp only [decide_eq_true_eq] at c1;omega)
 iterate 2 · exact ⟨rfl,by simp⟩
 ·(have:=hI.2.1 s.jm (by simp [fF]);have:=hI.1;have:=hI.2.2.2.1;have:=hI.2.2.2.2.1;simp only [List.length_cons,List.length_nil];omega)
 ·(obtain ⟨h0,h2,h3,h4,h5,h6,h7,h8⟩:=hI;simp only [decide_eq_true_eq] at c1;omega)
 ·(have em:=eq_of_beq c5;have hm:=gq s hI (by simpa using c1);omega)
 iterate 3 · (obtain ⟨h0,h2,h3,h4,h5,h6,h7,h8⟩:=hI;simp only [decide_eq_true_eq] at c1;omega)
 iterate 2 · exact ⟨rfl,by simp⟩
 ·(have:=hI.2.1 s.jl (by simp [fF]);have:=hI.1;have:=hI.2.2.2.1;have:=hI.2.2.2.2.1;simp only [List.length_cons,List.length_nil];omega)
 ·(obtain ⟨h0,h2,h3,h4,h5,h6,h7,h8⟩:=hI;simp only [decide_eq_true_eq] at c1;omega)
 ·(have em:=eq_of_beq c6;have hm:=gq s hI (by simpa using c1);omega)
 iterate 3 · (obtain ⟨h0,h2,h3,h4,h5,h6,h7,h8⟩:=hI;simp only [decide_eq_true_eq] at c1;omega)
 iterate 2 · exact ⟨rfl,by simp⟩
 ·(have:=hI.2.1 s.jk (by simp [fF]);have:=hI.1;have:=hI.2.2.2.1;have:=hI.2.2.2.2.1;simp only [List.length_cons,List.length_nil];omega)
 ·(obtain ⟨h0,h2,h3,h4,h5,h6,h7,h8⟩:=hI;simp only [decide_eq_true_eq] at c1;omega)
 ·(have em:=eq_of_beq c7;have hm:=gq s hI (by simpa using c1);omega)
 iterate 3 · (obtain ⟨h0,h2,h3,h4,h5,h6,h7,h8⟩:=hI;simp only [decide_eq_true_eq] at c1;omega)
 iterate 2 · exact ⟨rfl,by simp⟩
 ·(have:=hI.2.1 s.ji (by simp [fF]);have:=hI.1;have:=hI.2.2.2.1;have:=hI.2.2.2.2.1;simp only [List.length_cons,List.length_nil];omega)
 ·(obtain ⟨h0,h2,h3,h4,h5,h6,h7,h8⟩:=hI;simp only [decide_eq_true_eq] at c1;omega)
 ·(have em:=eq_of_beq c8;have hm:=gq s hI (by simpa using c1);omega)
 iterate 3 · (obtain ⟨h0,h2,h3,h4,h5,h6,h7,h8⟩:=hI;simp only [decide_eq_true_eq] at c1;omega)
 iterate 2 · exact ⟨rfl,by simp⟩
 ·(have:=hI.2.1 s.jh (by simp [fF]);have:=hI.1;have:=hI.2.2.2.1;have:=hI.2.2.2.2.1;simp only [List.length_cons,List.length_nil];omega)
 ·(obtain ⟨h0,h2,h3,h4,h5,h6,h7,h8⟩:=hI;simp only [decide_eq_true_eq] at c1;omega)
 ·(have em:=eq_of_beq c9;have hm:=gq s hI (by simpa using c1);omega)
 iterate 3 · (obtain ⟨h0,h2,h3,h4,h5,h6,h7,h8⟩:=hI;simp only [decide_eq_true_eq] at c1;omega)
 iterate 2 · exact ⟨rfl,by simp⟩
 ·(have:=hI.2.1 s.jg (by simp [fF]);have:=hI.1;have:=hI.2.2.2.1;have:=hI.2.2.2.2.1;simp only [List.length_cons,List.length_nil];omega)
 ·(obtain ⟨h0,h2,h3,h4,h5,h6,h7,h8⟩:=hI;simp only [decide_eq_true_eq] at c1;omega)
 ·(have em:=eq_of_beq c10;have hm:=gq s hI (by simpa using c1);omega)
 iterate 3 · (obtain ⟨h0,h2,h3,h4,h5,h6,h7,h8⟩:=hI;simp only [decide_eq_true_eq] at c1;omega)
 iterate 2 · exact ⟨rfl,by simp⟩
 ·(have:=hI.2.1 s.jf (by simp [fF]);have:=hI.1;have:=hI.2.2.2.1;have:=hI.2.2.2.2.1;simp only [List.length_cons,List.length_nil];omega)
 ·(obtain ⟨h0,h2,h3,h4,h5,h6,h7,h8⟩:=hI;simp only [decide_eq_true_eq] at c1;omega)
 ·(have em:=eq_of_beq c11;have hm:=gq s hI (by simpa using c1);omega)
 iterate 3 · (obtain ⟨h0,h2,h3,h4,h5,h6,h7,h8⟩:=hI;simp only [decide_eq_true_eq] at c1;omega)
 iterate 2 · exact ⟨rfl,by simp⟩
 ·(have:=hI.2.1 s.dN (by simp [fF]);have:=hI.1;have:=hI.2.2.2.1;have:=hI.2.2.2.2.1;simp only [List.length_cons,List.length_nil];omega)
 ·(obtain ⟨h0,h2,h3,h4,h5,h6,h7,h8⟩:=hI;simp only [decide_eq_true_eq] at c1;omega)
 ·(have em:=eq_of_beq c12;have hm:=gq s hI (by simpa using c1);omega)
 iterate 3 · (obtain ⟨h0,h2,h3,h4,h5,h6,h7,h8⟩:=hI;simp only [decide_eq_true_eq] at c1;omega)
 iterate 2 · exact ⟨rfl,by simp⟩
 ·(have:=hI.2.1 s.dM (by simp [fF]);have:=hI.1;have:=hI.2.2.2.1;have:=hI.2.2.2.2.1;simp only [List.length_cons,List.length_nil];omega)
 ·(obtain ⟨h0,h2,h3,h4,h5,h6,h7,h8⟩:=hI;simp only [decide_eq_true_eq] at c1;omega)
 ·(have em:=eq_of_beq c13;have hm:=gq s hI (by simpa using c1);omega)
 iterate 3 · (obtain ⟨h0,h2,h3,h4,h5,h6,h7,h8⟩:=hI;simp only [decide_eq_true_eq] at c1;omega)
 iterate 2 · exact ⟨rfl,by simp⟩
 ·(have:=hI.2.1 s.dL (by simp [fF]);have:=hI.1;have:=hI.2.2.2.1;have:=hI.2.2.2.2.1;simp only [List.length_cons,List.length_nil];omega)
 ·(obtain ⟨h0,h2,h3,h4,h5,h6,h7,h8⟩:=hI;simp only [decide_eq_true_eq] at c1;omega)
 ·(have em:=eq_of_beq c14;have hm:=gq s hI (by simpa using c1);omega)
 iterate 3 · (obtain ⟨h0,h2,h3,h4,h5,h6,h7,h8⟩:=hI;simp only [decide_eq_true_eq] at c1;omega)
 iterate 2 · exact ⟨rfl,by simp⟩
 ·(have:=hI.2.1 s.dK (by simp [fF]);have:=hI.1;have:=hI.2.2.2.1;have:=hI.2.2.2.2.1;simp only [List.length_cons,List.length_nil];omega)
 ·(obtain ⟨h0,h2,h3,h4,h5,h6,h7,h8⟩:=hI;simp only [decide_eq_true_eq] at c1;omega)
 ·(have em:=eq_of_beq c15;have hm:=gq s hI (by simpa using c1);omega)
 iterate 3 · (obtain ⟨h0,h2,h3,h4,h5,h6,h7,h8⟩:=hI;simp only [decide_eq_true_eq] at c1;omega)
 iterate 2 · exact ⟨rfl,by simp⟩
 ·(have:=hI.2.1 s.dJ (by simp [fF]);have:=hI.1;have:=hI.2.2.2.1;have:=hI.2.2.2.2.1;simp only [List.length_cons,List.length_nil];omega)
 ·(obtain ⟨h0,h2,h3,h4,h5,h6,h7,h8⟩:=hI;simp only [decide_eq_true_eq] at c1;omega)
 ·(have em:=eq_of_beq c16;have hm:=gq s hI (by simpa using c1);omega)
 iterate 3 · (obtain ⟨h0,h2,h3,h4,h5,h6,h7,h8⟩:=hI;simp only [decide_eq_true_eq] at c1;omega)
 iterate 2 · exact ⟨rfl,by simp⟩
 ·(have:=hI.2.1 s.dI (by simp [fF]);have:=hI.1;have:=hI.2.2.2.1;have:=hI.2.2.2.2.1;simp only [List.length_cons,List.length_nil];omega)
 ·(obtain ⟨h0,h2,h3,h4,h5,h6,h7,h8⟩:=hI;simp only [decide_eq_true_eq] at c1;omega)
 ·(have hm:=gq s hI (by simpa using c1);simp only [beq_eq_false_iff_ne,ne_eq] at c2 c3 c4 c5 c6 c7 c8 c9 c10 c11 c12 c13 c14 c15 c16;omega)
 iterate 3 · (obtain ⟨h0,h2,h3,h4,h5,h6,h7,h8⟩:=hI;simp only [decide_eq_true_eq] at c1;omega)
 iterate 2 · exact ⟨rfl,by simp⟩
theorem VU:Nq.Ok:=⟨fun s=>by kernel_rfl,fun s=>by kernel_rfl,fun s=>rfl,fun s t r=>rfl,fun s=>rfl,fun s=>by kernel_rfl⟩
theorem VD:Nq.Pf (ajv):=⟨ayK,fun _ _=>rfl,agU,atn⟩
set_option maxRecDepth 100000 in
set_option maxHeartbeats 4000000 in
theorem alb:bC Tryz.prog aQ (AN 1) (.loop IJ) Nq.lp:=bT.snd VU VD (bH (Γ:=xZ) (K:=aam) (L:=(tH Tryz.prog aQ xZ aam 20 2)) zS ahB IJ (fun b _=>dU zS ahB 20 2 b)) (fun s=>by kernel_rfl)
theorem agT (s : iq) (hE:UM s):(fun s:iq=>(uT s.i (fF s) (s.l.drop s.k.toNat),s.sums.set s.i.toNat (s.sums.getD s.i.toNat 0+smA s.alive (s.l.drop s.k.toNat)))) (bG s)=(fun s:iq=>(uT s.i (fF s) (s.l.drop s.k.toNat),s.sums.set s.i.toNat (s.sums.getD s.i.toNat 0+smA s.alive (s.l.drop s.k.toNat)))) s:=by
 exact bT.uN VU VD (fun s:iq=>(uT s.i (fF s) (s.l.drop s.k.toNat),s.sums.set s.i.toNat (s.sums.getD s.i.toNat 0+smA s.alive (s.l.drop s.k.toNat)))) (fun s hI=>by
  show bQ _ _ (aaM s)
  unfold aaM QJ
  dsimp only [T.rd,T.rl]
  refine ax (fun c1=>?_) (fun c1=>?_)
  ·refine ax (fun c2=>?_) (fun c2=>?_)
   ·have em:gi s.l s.k=0:=by simpa using c2
    exact iM s _ 0 hI (by simpa using c1) em rfl rfl rfl rfl rfl rfl rfl
   ·refine ax (fun c3=>?_) (fun c3=>?_)
    ·have em:gi s.l s.k=1:=by simpa using c3
     exact iM s _ 1 hI (by simpa using c1) em rfl rfl rfl rfl rfl rfl rfl
    ·refine ax (fun c4=>?_) (fun c4=>?_)
     ·have em:gi s.l s.k=2:=by simpa using c4
      exact iM s _ 2 hI (by simpa using c1) em rfl rfl rfl rfl rfl rfl rfl
     ·refine ax (fun c5=>?_) (fun c5=>?_)
      ·have em:gi s.l s.k=3:=by simpa using c5
       exact iM s _ 3 hI (by simpa using c1) em rfl rfl rfl rfl rfl rfl rfl
      ·refine ax (fun c6=>?_) (fun c6=>?_)
       ·have em:gi s.l s.k=4:=by simpa using c6
        exact iM s _ 4 hI (by simpa using c1) em rfl rfl rfl rfl rfl rfl rfl
       ·refine ax (fun c7=>?_) (fun c7=>?_)
        ·have em:gi s.l s.k=5:=by simpa using c7
         exact iM s _ 5 hI (by simpa using c1) em rfl rfl rfl rfl rfl rfl rfl
        ·refine ax (fun c8=>?_) (fun c8=>?_)
         ·have em:gi s.l s.k=6:=by simpa using c8
          exact iM s _ 6 hI (by simpa using c1) em rfl rfl rfl rfl rfl rfl rfl
         ·refine ax (fun c9=>?_) (fun c9=>?_)
          ·have em:gi s.l s.k=7:=by simpa using c9
           exact iM s _ 7 hI (by simpa using c1) em rfl rfl rfl rfl rfl rfl rfl
          ·refine ax (fun c10=>?_) (fun c10=>?_)
           ·have em:gi s.l s.k=8:=by simpa using c10
            exact iM s _ 8 hI (by simpa using c1) em rfl rfl rfl rfl rfl rfl rfl
           ·refine ax (fun c11=>?_) (fun c11=>?_)
            ·have em:gi s.l s.k=9:=by simpa using c11
             exact iM s _ 9 hI (by simpa using c1) em rfl rfl rfl rfl rfl rfl rfl
            ·refine ax (fun c12=>?_) (fun c12=>?_)
             ·have em:gi s.l s.k=10:=by simpa using c12
              exact iM s _ 10 hI (by simpa using c1) em rfl rfl rfl rfl rfl rfl rfl
             ·refine ax (fun c13=>?_) (fun c13=>?_)
              ·have em:gi s.l s.k=11:=by simpa using c13
               exact iM s _ 11 hI (by simpa using c1) em rfl rfl rfl rfl rfl rfl rfl
              ·refine ax (fun c14=>?_) (fun c14=>?_)
               ·have em:gi s.l s.k=12:=by simpa using c14
                exact iM s _ 12 hI (by simpa using c1) em rfl rfl rfl rfl rfl rfl rfl
               ·refine ax (fun c15=>?_) (fun c15=>?_)
                ·have em:gi s.l s.k=13:=by simpa using c15
                 exact iM s _ 13 hI (by simpa using c1) em rfl rfl rfl rfl rfl rfl rfl
                ·refine ax (fun c16=>?_) (fun c16=>?_)
                 ·have em:gi s.l s.k=14:=by simpa using c16
                  exact iM s _ 14 hI (by simpa using c1) em rfl rfl rfl rfl rfl rfl rfl
                 ·have em:gi s.l s.k=15:=by
                   have hm:=gq s hI (by simpa using c1)
                   simp only [beq_eq_false_iff_ne,ne_eq] at c2 c3 c4 c5 c6 c7 c8 c9 c10 c11 c12 c13 c14 c15 c16
                   omega
                  exact iM s _ 15 hI (by simpa using c1) em rfl rfl rfl rfl rfl rfl rfl
  ·rfl) s hE
theorem amq (s:iq) (hE:UM s):fF (bG s)=uT s.i (fF s) s.l∧(bG s).sums=s.sums.set s.i.toNat (s.sums.getD s.i.toNat 0+smA s.alive s.l):=by
 have q3:=agT s hE
 obtain ⟨hI2,hf⟩:=bT.inv VU VD (fun s=>by kernel_rfl) s hE
 have hI2:uP (bG s):=hI2
 have hq:=xI (agU _ hI2) hf
 have q2:(bG s).k=(bG s).n:=hq.2
 obtain ⟨h0,h1,h2,h3,h4,h5,h6,h7⟩:=hE
 obtain ⟨g0,g1,g2,g3,g4,g5,g6,g7⟩:=hI2
 have el:(bG s).l=s.l:=rfl
 have en:(bG s).n=s.n:=rfl
 have ei:(bG s).i=s.i:=rfl
 have ea:(bG s).alive=s.alive:=rfl
 simp only at q3
 rw [q2,en,el,ei,ea,List.drop_eq_nil_of_le (by omega),h0,show (0:Int).toNat=0 from rfl,List.drop_zero] at q3
 have e1:=congrArg Prod.fst q3
 have e2:=congrArg Prod.snd q3
 simp only at e1 e2
 refine ⟨e1,?_⟩
 rw [←e2]
 exact (aeG (by rw [ei] at g7;omega)).symm
structure gW where
 alive:List Int
 rows:List Rw
 rn:Int
 ri:Int
 bP:List Cd
 dY:List ByteArray
 bW:List Ko
 dh:List Ch
 iH:List Ba
 yu:List Cd
 yj:List ByteArray
 yt:List Ko
 fA:List Ch
 yw:List Ba
 bI:List Rw
 bf:List Int
 jr:List Int
 jq:List Int
 jo:List Int
 jm:List Int
 jl:List Int
 jk:List Int
 ji:List Int
 jh:List Int
 jg:List Int
 jf:List Int
 dN:List Int
 dM:List Int
 dL:List Int
 dK:List Int
 dJ:List Int
 dI:List Int
 sums:List Int
 levels:List Int
def aBG (s:gW):List LV:=[.xl (.int .i64) s.alive,.own 1 0,.xl Fp s.rows,.v (.int .i64 s.rn),.v (.int .i64 s.ri)]
def aAJ (s:gW):List aT:=[⟨[.xl dZ s.bP,.xl .str s.dY,.xl eP s.bW,.xl dR s.dh,.xl eU s.iH],28,.cl,false⟩,⟨[.xl dZ s.yu,.xl .str s.yj,.xl eP s.yt,.xl dR s.fA,.xl eU s.yw,.xl Fp s.bI,.os 2 1 0 (List.length s.jr),.os 3 1 0 (List.length s.jq),.os 4 1 0 (List.length s.jo),.os 5 1 0 (List.length s.jm),.os 6 1 0 (List.length s.jl),.os 7 1 0 (List.length s.jk),.os 8 1 0 (List.length s.ji),.os 9 1 0 (List.length s.jh),.os 10 1 0 (List.length s.jg),.os 11 1 0 (List.length s.jf),.os 12 1 0 (List.length s.dN),.os 13 1 0 (List.length s.dM),.os 14 1 0 (List.length s.dL),.os 15 1 0 (List.length s.dK),.os 16 1 0 (List.length s.dJ),.os 17 1 0 (List.length s.dI),.os 18 1 0 (List.length s.sums),.xl (.int .i64) s.bf,.os 19 1 0 (List.length s.levels)],148,.cl,false⟩,⟨[],3,.vec (.int .i64) s.jr,false⟩,⟨[],3,.vec (.int .i64) s.jq,false⟩,⟨[],3,.vec (.int .i64) s.jo,false⟩,⟨[],3,.vec (.int .i64) s.jm,false⟩,⟨[],3,.vec (.int .i64) s.jl,false⟩,⟨[],3,.vec (.int .i64) s.jk,false⟩,⟨[],3,.vec (.int .i64) s.ji,false⟩,⟨[],3,.vec (.int .i64) s.jh,false⟩,⟨[],3,.vec (.int .i64) s.jg,false⟩,⟨[],3,.vec (.int .i64) s.jf,false⟩,⟨[],3,.vec (.int .i64) s.dN,false⟩,⟨[],3,.vec (.int .i64) s.dM,false⟩,⟨[],3,.vec (.int .i64) s.dL,false⟩,⟨[],3,.vec (.int .i64) s.dK,false⟩,⟨[],3,.vec (.int .i64) s.dJ,false⟩,⟨[],3,.vec (.int .i64) s.dI,false⟩,⟨[],3,.vec (.int .i64) s.sums,false⟩,⟨[],3,.vec (.int .i64) s.levels,false⟩]
noncomputable def TL:Code:=((aG (Tryz.f95.body.getD .skip))[0]?).getD .skip
def bM (s:gW):iq:=(⟨s.alive,s.ri,s.rows,s.rn,s.ri,(qW s.rows s.ri).2,(List.length (qW s.rows s.ri).2:Int),(0:Int),s.bP,s.dY,s.bW,s.dh,s.iH,s.yu,s.yj,s.yt,s.fA,s.yw,s.bI,s.bf,s.jr,s.jq,s.jo,s.jm,s.jl,s.jk,s.ji,s.jh,s.jg,s.jf,s.dN,s.dM,s.dL,s.dK,s.dJ,s.dI,s.sums,s.levels⟩:iq)
def QI (s:gW):T (Rd gW):=
 .br (decide (s.ri<s.rn)) (.req (0≤s.ri∧s.ri<(List.length s.rows:Int)) (.rl s.jr (.rl s.jq (.rl s.jo (.rl s.jm (.rl s.jl (.rl s.jk (.rl s.ji (.rl s.jh (.rl s.jg (.rl s.jf (.rl s.dN (.rl s.dM (.rl s.dL (.rl s.dK (.rl s.dJ (.rl s.dI (.rl s.sums (.rl s.levels (.req (awJ (bM s)) (.rl (bG (bM s)).jr (.rl (bG (bM s)).jq (.rl (bG (bM s)).jo (.rl (bG (bM s)).jm (.rl (bG (bM s)).jl (.rl (bG (bM s)).jk (.rl (bG (bM s)).ji (.rl (bG (bM s)).jh (.rl (bG (bM s)).jg (.rl (bG (bM s)).jf (.rl (bG (bM s)).dN (.rl (bG (bM s)).dM (.rl (bG (bM s)).dL (.rl (bG (bM s)).dK (.rl (bG (bM s)).dJ (.rl (bG (bM s)).dI (.rl (bG (bM s)).sums (.rl s.levels (.ok (.next {s with ri:=(IntKind.i64.wrap (s.ri+1)),jr:=(bG (bM s)).jr,jq:=(bG (bM s)).jq,jo:=(bG (bM s)).jo,jm:=(bG (bM s)).jm,jl:=(bG (bM s)).jl,jk:=(bG (bM s)).jk,ji:=(bG (bM s)).ji,jh:=(bG (bM s)).jh,jg:=(bG (bM s)).jg,jf:=(bG (bM s)).jf,dN:=(bG (bM s)).dN,dM:=(bG (bM s)).dM,dL:=(bG (bM s)).dL,dK:=(bG (bM s)).dK,dJ:=(bG (bM s)).dJ,dI:=(bG (bM s)).dI,sums:=(bG (bM s)).sums})))))))))))))))))))))))))))))))))))))))) (.rl s.jr (.rl s.jq (.rl s.jo (.rl s.jm (.rl s.jl (.rl s.jk (.rl s.ji (.rl s.jh (.rl s.jg (.rl s.jf (.rl s.dN (.rl s.dM (.rl s.dL (.rl s.dK (.rl s.dJ (.rl s.dI (.rl s.sums (.rl s.levels (.ok (.stop (.exit 0) s))))))))))))))))))))
abbrev aaL (s:gW):=(QI s).rd s
def kQ (s:gW):List (List Int):=[s.jr,s.jq,s.jo,s.jm,s.jl,s.jk,s.ji,s.jh,s.jg,s.jf,s.dN,s.dM,s.dL,s.dK,s.dJ,s.dI]
def Nl (s:gW):Prop:=s.ri=0∧(∀o∈kQ s,o=[])∧s.sums=List.replicate s.rows.length 0∧s.rn=(s.rows.length:Int)∧s.rn≤1000∧(∀r∈s.rows,(r.2.length:Int)≤1000∧∀m∈r.2,0≤m∧m<16∧m<(s.alive.length:Int))∧(∀a∈s.alive,0≤a∧a≤80)∧s.sums.length=s.rows.length
def uO (s:gW):Prop:=(0≤s.ri∧s.ri≤s.rn)∧(∀o∈kQ s,(o.length:Int)≤1000*s.ri)∧(∀k:Nat,s.ri≤(k:Int)→s.sums.getD k 0=0)∧s.rn=(s.rows.length:Int)∧s.rn≤1000∧(∀r∈s.rows,(r.2.length:Int)≤1000∧∀m∈r.2,0≤m∧m<16∧m<(s.alive.length:Int))∧(∀a∈s.alive,0≤a∧a≤80)∧s.sums.length=s.rows.length
def vK (s:gW):Nat:=(s.rn-s.ri).toNat
def acL (x:Ex) (_ s':gW):Prop:=x=.exit 0∧s'.ri=s'.rn
theorem ayJ:∀s,Nl s→uO s:=by
 intro s h
 obtain ⟨h0,h1,h2,h3⟩:=h
 refine ⟨by have:=h3.1;omega,fun o ho=>by rw [h1 o ho];simp;omega,fun k _=>?_,h3⟩
 rw [h2]
 simp only [List.getD,List.getElem?_replicate]
 split<;>rfl
theorem agR (s:gW) (hI:uO s) (c1:s.ri<s.rn):UM (bM s):=by
 obtain ⟨⟨h0,h1⟩,h2,h3,h4,h5,h6,h7,h8⟩:=hI
 have hr:=h6 (qW s.rows s.ri) (by rw [C9 (by omega)];exact List.getElem_mem _)
 refine ⟨rfl,fun o ho=>?_,?_,rfl,hr.1,hr.2,h7,h0,?_⟩
 ·have:=h2 o ho
  omega
 ·have:=h3 s.ri.toNat (by omega)
  show 0≤s.sums.getD s.ri.toNat 0∧s.sums.getD s.ri.toNat 0≤1000
  omega
 ·show s.ri<(s.sums.length:Int)
  omega
theorem agP (s s':gW) (hI:uO s) (c1:s.ri<s.rn) (hO:kQ s'=fF (bG (bM s))) (hs:s'.sums=(bG (bM s)).sums) (hk:s'.ri=IntKind.i64.wrap (s.ri+1)) (hn:s'.rn=s.rn) (hl:s'.rows=s.rows) (ha:s'.alive=s.alive):
  (uO s'∧vK s'<vK s)∧(fun s:gW=>(Qy (kQ s) s.ri (s.rows.drop s.ri.toNat),Qx s.alive s.sums s.ri (s.rows.drop s.ri.toNat))) s'=(fun s:gW=>(Qy (kQ s) s.ri (s.rows.drop s.ri.toNat),Qx s.alive s.sums s.ri (s.rows.drop s.ri.toNat))) s:=by
 obtain ⟨r1,r2⟩:=amq _ (agR s hI c1)
 obtain ⟨⟨h0,h1⟩,h2,h3,h4,h5,h6,h7,h8⟩:=hI
 have hr:=h6 (qW s.rows s.ri) (by rw [C9 (by omega)];exact List.getElem_mem _)
 rw [aN (x:=s.ri+1) (by omega) (by omega)] at hk
 have r1:fF (bG (bM s))=uT s.ri (kQ s) (qW s.rows s.ri).2:=r1
 have r2:(bG (bM s)).sums=s.sums.set s.ri.toNat (s.sums.getD s.ri.toNat 0+smA s.alive (qW s.rows s.ri).2):=r2
 refine ⟨⟨⟨⟨by omega,by omega⟩,fun o ho=>?_,fun k hk2=>?_,by rw [hn,hl];exact h4,by omega,by rw [hl,ha];exact h6,by rw [ha];exact h7,by rw [hs,r2,List.length_set,hl];exact h8⟩,by simp only [vK];omega⟩,?_⟩
 ·rw [hO,r1] at ho
  have:=ZJ h2 o ho
  have:=hr.1
  rw [hk]
  omega
 ·rw [hs,r2]
  have:=h3 k (by omega)
  simp only [List.getD] at this⊢
  rw [List.getElem?_set_ne (by omega)]
  exact this
 ·simp only
  rw [hO,hs,hl,ha,r1,r2,hk,(aii h0 (show s.ri<s.rows.length by omega)).1]
  rfl
theorem amn (s s':gW) (hI:uO s) (c1:s.ri<s.rn) (hO:kQ s'=fF (bG (bM s))) (hs:s'.sums=(bG (bM s)).sums) (hk:s'.ri=IntKind.i64.wrap (s.ri+1)) (hn:s'.rn=s.rn) (hl:s'.rows=s.rows) (ha:s'.alive=s.alive):bQ (fun s'=>uO s'∧vK s'<vK s) (fun x s'=>acL x s s') (.next s'):=(agP s s' hI c1 hO hs hk hn hl ha).1
theorem amm (s s':gW) (hI:uO s) (c1:s.ri<s.rn) (hO:kQ s'=fF (bG (bM s))) (hs:s'.sums=(bG (bM s)).sums) (hk:s'.ri=IntKind.i64.wrap (s.ri+1)) (hn:s'.rn=s.rn) (hl:s'.rows=s.rows) (ha:s'.alive=s.alive):bQ (fun s'=>(fun s:gW=>(Qy (kQ s) s.ri (s.rows.drop s.ri.toNat),Qx s.alive s.sums s.ri (s.rows.drop s.ri.toNat))) s'=(fun s:gW=>(Qy (kQ s) s.ri (s.rows.drop s.ri.toNat),Qx s.alive s.sums s.ri (s.rows.drop s.ri.toNat))) s) (fun _ s'=>(fun s:gW=>(Qy (kQ s) s.ri (s.rows.drop s.ri.toNat),Qx s.alive s.sums s.ri (s.rows.drop s.ri.toNat))) s'=(fun s:gW=>(Qy (kQ s) s.ri (s.rows.drop s.ri.toNat),Qx s.alive s.sums s.ri (s.rows.drop s.ri.toNat))) s) (.next s'):=(agP s s' hI c1 hO hs hk hn hl ha).2
theorem aup (s:gW) (hI:uO s):bQ (fun s'=>uO s'∧vK s'<vK s) (fun x s'=>acL x s s') (aaL s):=by
 unfold aaL QI
 dsimp only [T.rd,T.rl]
 refine ax (fun c1=>?_) (fun c1=>?_)
 ·exact amn s _ hI (by simpa using c1) rfl rfl rfl rfl rfl rfl
 ·have c1:s.rn≤s.ri:=by simpa using c1
  have h0:=hI.1
  exact ⟨rfl,by omega⟩
def wH:bT gW:=⟨1,67,[2,7,23,24,25],[.ns 7 6 3 (.int .i64),.ns 7 7 3 (.int .i64),.ns 7 8 3 (.int .i64),.ns 7 9 3 (.int .i64),.ns 7 10 3 (.int .i64),.ns 7 11 3 (.int .i64),.ns 7 12 3 (.int .i64),.ns 7 13 3 (.int .i64),.ns 7 14 3 (.int .i64),.ns 7 15 3 (.int .i64),.ns 7 16 3 (.int .i64),.ns 7 17 3 (.int .i64),.ns 7 18 3 (.int .i64),.ns 7 19 3 (.int .i64),.ns 7 20 3 (.int .i64),.ns 7 21 3 (.int .i64)],aBG,aAJ,fun v b=>⟨aS (.int .i64) (v.getD 0 .junk),aS Fp (v.getD 2 .junk),gI (v.getD 3 .junk),gI (v.getD 4 .junk),aS dZ (aZ (aP b 0) 0),aS .str (aZ (aP b 0) 1),aS eP (aZ (aP b 0) 2),aS dR (aZ (aP b 0) 3),aS eU (aZ (aP b 0) 4),aS dZ (aZ (aP b 1) 0),aS .str (aZ (aP b 1) 1),aS eP (aZ (aP b 1) 2),aS dR (aZ (aP b 1) 3),aS eU (aZ (aP b 1) 4),aS Fp (aZ (aP b 1) 5),aS (.int .i64) (aZ (aP b 1) 23),jy (.int .i64) (aP b 2),jy (.int .i64) (aP b 3),jy (.int .i64) (aP b 4),jy (.int .i64) (aP b 5),jy (.int .i64) (aP b 6),jy (.int .i64) (aP b 7),jy (.int .i64) (aP b 8),jy (.int .i64) (aP b 9),jy (.int .i64) (aP b 10),jy (.int .i64) (aP b 11),jy (.int .i64) (aP b 12),jy (.int .i64) (aP b 13),jy (.int .i64) (aP b 14),jy (.int .i64) (aP b 15),jy (.int .i64) (aP b 16),jy (.int .i64) (aP b 17),jy (.int .i64) (aP b 18),jy (.int .i64) (aP b 19)⟩,QI,fun s r=> {r with alive:=s.alive,rows:=s.rows,rn:=s.rn,bP:=s.bP,dY:=s.dY,bW:=s.bW,dh:=s.dh,iH:=s.iH,yu:=s.yu,yj:=s.yj,yt:=s.yt,fA:=s.fA,yw:=s.yw,bI:=s.bI,bf:=s.bf,levels:=s.levels},fun s=>s,fun _ s=>s,[.exit 0],Nl,uO,vK⟩
abbrev ay:=wH.run
abbrev aok:=wH.kG
abbrev Qk:=wH.q
theorem atm (s:gW) (hI:uO s):(QI s).all (fun _=>True):=by
 refine ⟨fun c1=>⟨?_,⟨rfl,rfl⟩,⟨rfl,rfl⟩,⟨rfl,rfl⟩,⟨rfl,rfl⟩,⟨rfl,rfl⟩,⟨rfl,rfl⟩,⟨rfl,rfl⟩,⟨rfl,rfl⟩,⟨rfl,rfl⟩,⟨rfl,rfl⟩,⟨rfl,rfl⟩,⟨rfl,rfl⟩,⟨rfl,rfl⟩,⟨rfl,rfl⟩,⟨rfl,rfl⟩,⟨rfl,rfl⟩,⟨rfl,rfl⟩,⟨rfl,rfl⟩,?_,⟨rfl,rfl⟩,⟨rfl,rfl⟩,⟨rfl,rfl⟩,⟨rfl,rfl⟩,⟨rfl,rfl⟩,⟨rfl,rfl⟩,⟨rfl,rfl⟩,⟨rfl,rfl⟩,⟨rfl,rfl⟩,⟨rfl,rfl⟩,⟨rfl,rfl⟩,⟨rfl,rfl⟩,⟨rfl,rfl⟩,⟨rfl,rfl⟩,⟨rfl,rfl⟩,⟨rfl,rfl⟩,⟨rfl,rfl⟩,⟨rfl,rfl⟩,trivial⟩,fun c1=>⟨⟨rfl,rfl⟩,⟨rfl,rfl⟩,⟨rfl,rfl⟩,⟨rfl,rfl⟩,⟨rfl,rfl⟩,⟨rfl,rfl⟩,⟨rfl,rfl⟩,⟨rfl,rfl⟩,⟨rfl,rfl⟩,⟨rfl,rfl⟩,⟨rfl,rfl⟩,⟨rfl,rfl⟩,⟨rfl,rfl⟩,⟨rfl,rfl⟩,⟨rfl,rfl⟩,⟨rfl,rfl⟩,⟨rfl,rfl⟩,⟨rfl,rfl⟩,trivial⟩⟩
 ·(obtain ⟨h0,h2,h3,h4,h5,h6,h7,h8⟩:=hI;simp only [decide_eq_true_eq] at c1;omega)
 ·exact ⟨agR s hI (by simpa using c1),rfl,rfl⟩
theorem VT:wH.Ok:=⟨fun s=>by kernel_rfl,fun s=>by kernel_rfl,fun s=>rfl,fun s t r=>rfl,fun s=>rfl,fun s=>by kernel_rfl⟩
theorem VB:wH.Pf (acL):=⟨ayJ,fun _ _=>rfl,aup,atm⟩
theorem zf:bC Tryz.prog aQ (AN 1) (.loop TL) wH.lp:=bT.snd VT VB (bH (Γ:=xZ) (K:=aam) (L:=(adQ (fun i=>if i=6 then Nq.lp else aF i))) zS ahB TL (fun b hb=>by
 rw [show aG _=[IJ] by kernel_rfl] at hb
 simp only [List.mem_cons,List.not_mem_nil,or_false] at hb
 subst hb
 exact alb)) (fun s=>by kernel_rfl)
theorem amo (s:gW) (hE:Nl s):∃s',uO s'∧acL (aok s) s' (ay s):=bT.fin VT VB s hE
theorem agQ (s:gW) (hE:Nl s):(fun s:gW=>(Qy (kQ s) s.ri (s.rows.drop s.ri.toNat),Qx s.alive s.sums s.ri (s.rows.drop s.ri.toNat))) (ay s)=(fun s:gW=>(Qy (kQ s) s.ri (s.rows.drop s.ri.toNat),Qx s.alive s.sums s.ri (s.rows.drop s.ri.toNat))) s:=by
 exact bT.uN VT VB (fun s:gW=>(Qy (kQ s) s.ri (s.rows.drop s.ri.toNat),Qx s.alive s.sums s.ri (s.rows.drop s.ri.toNat))) (fun s hI=>by
  show bQ _ _ (aaL s)
  unfold aaL QI
  dsimp only [T.rd,T.rl]
  refine ax (fun c1=>?_) (fun c1=>?_)
  ·exact amm s _ hI (by simpa using c1) rfl rfl rfl rfl rfl rfl
  ·rfl) s hE
theorem aml (s:gW) (hE:Nl s):kQ (ay s)=Qy (kQ s) 0 s.rows∧(ay s).sums=Qx s.alive s.sums 0 s.rows:=by
 have q3:=agQ s hE
 obtain ⟨s',hI,q1,q2⟩:=amo s hE
 obtain ⟨h0,h1,h2,h3,h4,h5⟩:=hE
 have el:(ay s).rows=s.rows:=rfl
 have en:(ay s).rn=s.rn:=rfl
 have ea:(ay s).alive=s.alive:=rfl
 simp only at q3
 rw [q2,en,el,ea,List.drop_eq_nil_of_le (by omega),h0] at q3
 exact ⟨congrArg Prod.fst q3,congrArg Prod.snd q3⟩
end Go.Proofs.YtlihnbimgclogaaGreatDoor
namespace Go.Proofs.YtlihnbimgclogaaGreatDoor
open Go.Sx
structure oL where
 r:Bool
 l:List Int
 n:Int
 i:Int
 bP:List Cd
 dY:List ByteArray
 bW:List Ko
 dh:List Ch
 iH:List Ba
 yu:List Cd
 yj:List ByteArray
 yt:List Ko
 fA:List Ch
 yw:List Ba
 bI:List Rw
 jr:List Int
 jq:List Int
 jo:List Int
 jm:List Int
 jl:List Int
 jk:List Int
 ji:List Int
 jh:List Int
 jg:List Int
 jf:List Int
 dN:List Int
 dM:List Int
 dL:List Int
 dK:List Int
 dJ:List Int
 dI:List Int
 bf:List Int
 sums:List Int
 levels:List Int
 qm:ByteArray
 Xl:Int
 ql:Int
 aiB:Int
 aiC:Int
 Xi:Int
 lq:Int
 mJ:Int
 more:Int
def aBW (s:oL):List LV:=[.fn 124 [.own 4 0,.own 6 0],.v (.bool s.r),.xl (.int .i64) s.l,.v (.int .i64 s.n),.v (.int .i64 s.i)]
def aAZ (s:oL):List aT:=[⟨[.xl dZ s.bP,.xl .str s.dY,.xl eP s.bW,.xl dR s.dh,.xl eU s.iH],28,.cl,false⟩,⟨[.xl dZ s.yu,.xl .str s.yj,.xl eP s.yt,.xl dR s.fA,.xl eU s.yw,.xl Fp s.bI,.xl (.int .i64) s.jr,.xl (.int .i64) s.jq,.xl (.int .i64) s.jo,.xl (.int .i64) s.jm,.xl (.int .i64) s.jl,.xl (.int .i64) s.jk,.xl (.int .i64) s.ji,.xl (.int .i64) s.jh,.xl (.int .i64) s.jg,.xl (.int .i64) s.jf,.xl (.int .i64) s.dN,.xl (.int .i64) s.dM,.xl (.int .i64) s.dL,.xl (.int .i64) s.dK,.xl (.int .i64) s.dJ,.xl (.int .i64) s.dI,.os 2 1 0 (List.length s.sums),.xl (.int .i64) s.bf,.os 3 1 0 (List.length s.levels)],148,.cl,false⟩,⟨[],3,.vec (.int .i64) s.sums,false⟩,⟨[],3,.vec (.int .i64) s.levels,false⟩,⟨[.own 1 0],144,.cl,false⟩,⟨[.v (.string s.qm),.v (.int .i64 s.Xl),.v (.int .i64 s.ql),.v (.int .i64 s.aiB),.v (.int .i64 s.aiC),.v (.int .i64 s.Xi),.v (.int .i64 s.lq),.v (.int .i64 s.mJ)],58,.cl,false⟩,⟨[.v (.int .i64 s.more)],3,.cl,false⟩]
noncomputable def TQ:Code:=((aG (Tryz.f93.body.getD .skip))[0]?).getD .skip
def Y6 (s:oL):T (Rd oL):=
 .br (decide (s.i<s.n)) (.req (0≤s.i∧s.i<(List.length s.l:Int)) (.req (0≤(gi s.l s.i)∧(gi s.l s.i)<((List.length s.sums:Nat):Int)) (.req ((gi s.l s.i).toNat<List.length s.sums) (.req (0≤(gi s.l s.i)∧(gi s.l s.i)<(List.length s.bI:Int)) (.br (!(decide ((IntKind.i64.wrap ((s.sums.getD (gi s.l s.i).toNat (Ty.dflt (.int .i64)))+s.more))≤(qW s.bI (gi s.l s.i)).1))) (.rl s.sums (.rl s.levels (.ok (.stop (.ret) {s with r:=false})))) (.rl s.sums (.rl s.levels (.ok (.next {s with i:=(IntKind.i64.wrap (s.i+1))}))))))))) (.rl s.sums (.rl s.levels (.ok (.stop (.exit 0) s))))
abbrev aqW (s:oL):=(Y6 s).rd s
def Jr (s:oL) (j:Int):Bool:=zZ s.bI s.sums s.more (gi s.l j)
def UW (s:oL):Prop:=s.i=0∧0≤s.n∧s.n≤1000∧s.n=(s.l.length:Int)∧(∀r∈s.l,0≤r∧r<(s.bI.length:Int))∧s.sums.length=s.bI.length∧(∀k:Nat,0≤s.sums.getD k 0∧s.sums.getD k 0≤2000)∧(0≤s.more∧s.more≤10000)
def MP (s:oL):Prop:=0≤s.i∧s.i≤s.n∧s.n≤1000∧(s.n=(s.l.length:Int)∧(∀r∈s.l,0≤r∧r<(s.bI.length:Int))∧s.sums.length=s.bI.length∧(∀k:Nat,0≤s.sums.getD k 0∧s.sums.getD k 0≤2000)∧(0≤s.more∧s.more≤10000))∧∀j:Nat,(j:Int)<s.i→Jr s j=true
def OT (s:oL):Nat:=(s.n-s.i).toNat
def ajG (x:Ex) (_ s':oL):Prop:=(x=.exit 0∧∀j:Nat,(j:Int)<s'.n→Jr s' j=true)∨(x=.ret∧s'.r=false∧∃j:Nat,(j:Int)<s'.n∧Jr s' j=false)
theorem azM:∀s,UW s→MP s:=by
 intro s h
 obtain ⟨h0,h1,h2,h3⟩:=h
 exact ⟨by omega,by omega,h2,h3,fun j hj=>by omega⟩
theorem avy (s:oL) (hI:MP s):bQ (fun s'=>MP s'∧OT s'<OT s) (fun x s'=>ajG x s s') (aqW s):=by
 unfold aqW Y6
 dsimp only [T.rd,T.rl]
 obtain ⟨h0,h1,h2,h3,h4⟩:=hI
 refine ax (fun c1=>ax (fun c2=>?_) (fun c2=>?_)) (fun c1=>?_)
 ·have c1:s.i<s.n:=by simpa using c1
  refine .inr ⟨rfl,rfl,s.i.toNat,by simp only;omega,?_⟩
  rw [Int.toNat_of_nonneg (by omega)]
  have hg:Jr s s.i=false:=by unfold Jr;(obtain ⟨e0,e1,e2,e3,e4⟩:=h3;have hb:=e3 (gi s.l s.i).toNat;have c2:=c2;rw [aN (x:=s.sums.getD (gi s.l s.i).toNat (Ty.dflt (.int .i64))+s.more) (by show _≤s.sums.getD (gi s.l s.i).toNat 0+s.more;omega) (by show s.sums.getD (gi s.l s.i).toNat 0+s.more≤_;omega)] at c2;unfold zZ;first|(have c3:(!(decide (s.sums.getD (gi s.l s.i).toNat 0+s.more≤(qW s.bI (gi s.l s.i)).1)))=true:=c2;simpa using c3) |(have c3:(!(decide (s.sums.getD (gi s.l s.i).toNat 0+s.more≤(qW s.bI (gi s.l s.i)).1)))=false:=c2;simpa using c3))
  exact hg
 ·have c1:s.i<s.n:=by simpa using c1
  have hg:Jr s s.i=true:=by unfold Jr;(obtain ⟨e0,e1,e2,e3,e4⟩:=h3;have hb:=e3 (gi s.l s.i).toNat;have c2:=c2;rw [aN (x:=s.sums.getD (gi s.l s.i).toNat (Ty.dflt (.int .i64))+s.more) (by show _≤s.sums.getD (gi s.l s.i).toNat 0+s.more;omega) (by show s.sums.getD (gi s.l s.i).toNat 0+s.more≤_;omega)] at c2;unfold zZ;first|(have c3:(!(decide (s.sums.getD (gi s.l s.i).toNat 0+s.more≤(qW s.bI (gi s.l s.i)).1)))=true:=c2;simpa using c3) |(have c3:(!(decide (s.sums.getD (gi s.l s.i).toNat 0+s.more≤(qW s.bI (gi s.l s.i)).1)))=false:=c2;simpa using c3))
  rw [aN (x:=s.i+1) (by omega) (by omega)]
  refine ⟨⟨by simp only;omega,by simp only;omega,h2,h3,fun j hj=>?_⟩,by simp only [OT];omega⟩
  by_cases hji:(j:Int)<s.i
  ·exact h4 j hji
  ·have:(j:Int)=s.i:=by simp only at hj;omega
   rw [this];exact hg
 ·have c1:s.n≤s.i:=by simpa using c1
  exact .inl ⟨rfl,fun j hj=>h4 j (by omega)⟩
def yg:bT oL:=⟨7,18,[1,4,7,8,9],[],aBW,aAZ,fun v b=>⟨x9 (v.getD 1 .junk),aS (.int .i64) (v.getD 2 .junk),gI (v.getD 3 .junk),gI (v.getD 4 .junk),aS dZ (aZ (aP b 0) 0),aS .str (aZ (aP b 0) 1),aS eP (aZ (aP b 0) 2),aS dR (aZ (aP b 0) 3),aS eU (aZ (aP b 0) 4),aS dZ (aZ (aP b 1) 0),aS .str (aZ (aP b 1) 1),aS eP (aZ (aP b 1) 2),aS dR (aZ (aP b 1) 3),aS eU (aZ (aP b 1) 4),aS Fp (aZ (aP b 1) 5),aS (.int .i64) (aZ (aP b 1) 6),aS (.int .i64) (aZ (aP b 1) 7),aS (.int .i64) (aZ (aP b 1) 8),aS (.int .i64) (aZ (aP b 1) 9),aS (.int .i64) (aZ (aP b 1) 10),aS (.int .i64) (aZ (aP b 1) 11),aS (.int .i64) (aZ (aP b 1) 12),aS (.int .i64) (aZ (aP b 1) 13),aS (.int .i64) (aZ (aP b 1) 14),aS (.int .i64) (aZ (aP b 1) 15),aS (.int .i64) (aZ (aP b 1) 16),aS (.int .i64) (aZ (aP b 1) 17),aS (.int .i64) (aZ (aP b 1) 18),aS (.int .i64) (aZ (aP b 1) 19),aS (.int .i64) (aZ (aP b 1) 20),aS (.int .i64) (aZ (aP b 1) 21),aS (.int .i64) (aZ (aP b 1) 23),jy (.int .i64) (aP b 2),jy (.int .i64) (aP b 3),gSr (aZ (aP b 5) 0),gI (aZ (aP b 5) 1),gI (aZ (aP b 5) 2),gI (aZ (aP b 5) 3),gI (aZ (aP b 5) 4),gI (aZ (aP b 5) 5),gI (aZ (aP b 5) 6),gI (aZ (aP b 5) 7),gI (aZ (aP b 6) 0)⟩,Y6,fun s r=> {r with l:=s.l,n:=s.n,bP:=s.bP,dY:=s.dY,bW:=s.bW,dh:=s.dh,iH:=s.iH,yu:=s.yu,yj:=s.yj,yt:=s.yt,fA:=s.fA,yw:=s.yw,bI:=s.bI,jr:=s.jr,jq:=s.jq,jo:=s.jo,jm:=s.jm,jl:=s.jl,jk:=s.jk,ji:=s.ji,jh:=s.jh,jg:=s.jg,jf:=s.jf,dN:=s.dN,dM:=s.dM,dL:=s.dL,dK:=s.dK,dJ:=s.dJ,dI:=s.dI,bf:=s.bf,sums:=s.sums,levels:=s.levels,qm:=s.qm,Xl:=s.Xl,ql:=s.ql,aiB:=s.aiB,aiC:=s.aiC,Xi:=s.Xi,lq:=s.lq,mJ:=s.mJ,more:=s.more},fun s=>s,fun _ s=>s,[.ret,.exit 0],UW,MP,OT⟩
abbrev FC:=yg.run
abbrev FP:=yg.kG
abbrev awX:=yg.q
noncomputable def zW:Specs:=bg [(24,nR),(61,qw),(94,qp),(96,qo)]
theorem DV:∀g S,zW g=some S→Valid Tryz.prog aQ g S:=aU (l:=[(24,nR),(61,qw),(94,qp),(96,qo)]) ⟨Cf,Gg,Gf,F9,trivial⟩
noncomputable def ahK:Hand:=inl Tryz.prog aQ zW (kH 95 1 3 (wH.lp) (kH 93 1 2 (uQ.lp) (lX Tryz.prog aQ (zW) 20 2))) 9
theorem apS:dF Tryz.prog aQ ahK:=bU DV (dO Tryz.func95 rfl (by kernel_rfl) zf (dO Tryz.func93 rfl (by kernel_rfl) wJ (dS DV))) 9
theorem atE (s:oL) (hI:MP s):(Y6 s).all (fun _=>True):=by
 refine ⟨fun c1=>⟨?_,?_,?_,?_,fun c2=>⟨⟨rfl,rfl⟩,⟨rfl,rfl⟩,trivial⟩,fun c2=>⟨⟨rfl,rfl⟩,⟨rfl,rfl⟩,trivial⟩⟩,fun c1=>⟨⟨rfl,rfl⟩,⟨rfl,rfl⟩,trivial⟩⟩
 all_goals ((obtain ⟨h0,h1,h2,⟨e0,e1,e2,e3,e4⟩,h4⟩:=hI;simp only [decide_eq_true_eq] at c1;have hm:=e1 (gi s.l s.i) (qg (by omega) (by omega));omega))
theorem agz:yg.Ok:=⟨fun s=>by kernel_rfl,fun s=>by kernel_rfl,fun s=>rfl,fun s t r=>rfl,fun s=>rfl,fun s=>by kernel_rfl⟩
theorem afv:yg.Pf (ajG):=⟨azM,fun _ _=>rfl,avy,atE⟩
theorem Fq:bC Tryz.prog aQ (AN 7) (.loop TQ) yg.lp:=bT.snd agz afv (bH (Γ:=zW) (K:=ahK) (L:=(tH Tryz.prog aQ zW ahK 20 2)) DV apS TQ (fun b _=>dU DV apS 20 2 b)) (fun s=>by kernel_rfl)
theorem aoD (s:oL) (hE:UW s):∃s',MP s'∧ajG (FP s) s' (FC s):=bT.fin agz afv s hE
theorem qY (s:oL) (hE:UW s):(FP s=.exit 0∧s.l.all (zZ s.bI s.sums s.more)=true)∨(FP s=.ret∧(FC s).r=false∧s.l.all (zZ s.bI s.sums s.more)=false):=by
 obtain ⟨s',hI,hq⟩:=aoD s hE
 obtain ⟨h0,h1,h2,h3,_⟩:=hE
 have en:(FC s).n=s.n:=rfl
 rcases hq with ⟨q1,q2⟩ |⟨q1,q2,j,q3,q4⟩
 ·exact .inl ⟨q1,(jG (d:=(0:Int))).1 fun j hj=>q2 j (by rw [en];omega)⟩
 ·refine .inr ⟨q1,q2,?_⟩
  rw [Bool.eq_false_iff]
  intro hx
  have:=(jG (d:=(0:Int))).2 hx j (by rw [en] at q3;omega)
  exact Bool.noConfusion (this.symm.trans q4)
structure sW where
 PW:Int
 level:Int
 l:List Int
 n:Int
 i:Int
 bP:List Cd
 dY:List ByteArray
 bW:List Ko
 dh:List Ch
 iH:List Ba
 yu:List Cd
 yj:List ByteArray
 yt:List Ko
 fA:List Ch
 yw:List Ba
 bI:List Rw
 jr:List Int
 jq:List Int
 jo:List Int
 jm:List Int
 jl:List Int
 jk:List Int
 ji:List Int
 jh:List Int
 jg:List Int
 jf:List Int
 dN:List Int
 dM:List Int
 dL:List Int
 dK:List Int
 dJ:List Int
 dI:List Int
 bf:List Int
 sums:List Int
 levels:List Int
 more:Int
def aCV (s:sW):List LV:=[.v (.int .i64 s.PW),.own 4 0,.v (.int .i64 s.level),.own 5 0,.xl (.int .i64) s.l,.v (.int .i64 s.n),.v (.int .i64 s.i)]
def aCN (s:sW):List aT:=[⟨[.xl dZ s.bP,.xl .str s.dY,.xl eP s.bW,.xl dR s.dh,.xl eU s.iH],28,.cl,false⟩,⟨[.xl dZ s.yu,.xl .str s.yj,.xl eP s.yt,.xl dR s.fA,.xl eU s.yw,.xl Fp s.bI,.xl (.int .i64) s.jr,.xl (.int .i64) s.jq,.xl (.int .i64) s.jo,.xl (.int .i64) s.jm,.xl (.int .i64) s.jl,.xl (.int .i64) s.jk,.xl (.int .i64) s.ji,.xl (.int .i64) s.jh,.xl (.int .i64) s.jg,.xl (.int .i64) s.jf,.xl (.int .i64) s.dN,.xl (.int .i64) s.dM,.xl (.int .i64) s.dL,.xl (.int .i64) s.dK,.xl (.int .i64) s.dJ,.xl (.int .i64) s.dI,.os 2 1 0 (List.length s.sums),.xl (.int .i64) s.bf,.os 3 1 0 (List.length s.levels)],148,.cl,false⟩,⟨[],3,.vec (.int .i64) s.sums,false⟩,⟨[],3,.vec (.int .i64) s.levels,false⟩,⟨[.own 1 0],144,.cl,false⟩,⟨[.v (.int .i64 s.more)],3,.cl,false⟩]
noncomputable def aby:Code:=((aG (Tryz.f97.body.getD .skip))[0]?).getD .skip
def aes (s:sW):T (Rd sW):=
 .br (decide (s.i<s.n)) (.req (0≤s.i∧s.i<(List.length s.l:Int)) (.req (0≤(gi s.l s.i)∧(gi s.l s.i)<((List.length s.sums:Nat):Int)) (.req ((gi s.l s.i).toNat<List.length s.sums) (.req (0≤(gi s.l s.i)∧(gi s.l s.i)<((List.length s.sums:Nat):Int)) (.req ((gi s.l s.i).toNat<List.length s.sums) (.req (0=0∧(List.length s.sums)=List.length (s.sums.set (gi s.l s.i).toNat (IntKind.i64.wrap ((s.sums.getD (gi s.l s.i).toNat (Ty.dflt (.int .i64)))+s.more)))) (.rl s.levels (.ok (.next {s with i:=(IntKind.i64.wrap (s.i+1)),sums:=(s.sums.set (gi s.l s.i).toNat (IntKind.i64.wrap ((s.sums.getD (gi s.l s.i).toNat (Ty.dflt (.int .i64)))+s.more)))}))))))))) (.rl s.sums (.rl s.levels (.ok (.stop (.exit 0) s))))
abbrev an7 (s:sW):=(aes s).rd s
def ad5 (s:sW):Prop:=s.i=0∧(∀k:Nat,0≤s.sums.getD k 0∧s.sums.getD k 0≤2000)∧s.n=(s.l.length:Int)∧s.n≤1000∧(∀r∈s.l,0≤r∧r<(s.sums.length:Int))∧(0≤s.more∧s.more≤10000)
def ad1 (s:sW):Prop:=(0≤s.i∧s.i≤s.n)∧(∀k:Nat,0≤s.sums.getD k 0∧s.sums.getD k 0≤2000+10000*s.i)∧s.n=(s.l.length:Int)∧s.n≤1000∧(∀r∈s.l,0≤r∧r<(s.sums.length:Int))∧(0≤s.more∧s.more≤10000)
def ZV (s:sW):Nat:=(s.n-s.i).toNat
def av9 (x:Ex) (_ s':sW):Prop:=x=.exit 0∧s'.i=s'.n
theorem aCm:∀s,ad5 s→ad1 s:=by
 intro s h
 obtain ⟨h0,h1,h2,h3⟩:=h
 exact ⟨by omega,fun k=>by have:=h1 k;omega,h2,h3⟩
theorem ax4 (s:sW) (hI:ad1 s):bQ (fun s'=>ad1 s'∧ZV s'<ZV s) (fun x s'=>av9 x s s') (an7 s):=by
 unfold an7 aes
 dsimp only [T.rd,T.rl]
 obtain ⟨⟨h0,h1⟩,h2,h3,h4,h5,h6⟩:=hI
 refine ax (fun c1=>?_) (fun c1=>?_)
 ·have c1:s.i<s.n:=by simpa using c1
  have hb:=h2 (gi s.l s.i).toNat
  rw [aN (x:=s.i+1) (by omega) (by omega),aN (x:=s.sums.getD (gi s.l s.i).toNat (Ty.dflt (.int .i64))+s.more) (by show _≤s.sums.getD (gi s.l s.i).toNat 0+s.more;omega) (by show s.sums.getD (gi s.l s.i).toNat 0+s.more≤_;omega)]
  refine ⟨⟨⟨by simp only;omega,by simp only;omega⟩,fun k=>?_,h3,h4,fun r hr=>by simp only [List.length_set];exact h5 r hr,h6⟩,by simp only [ZV];omega⟩
  simp only
  have hk:=h2 k
  rw [qh]
  split
  ·show 0≤s.sums.getD (gi s.l s.i).toNat 0+s.more∧s.sums.getD (gi s.l s.i).toNat 0+s.more≤_
   omega
  ·omega
 ·have c1:s.n≤s.i:=by simpa using c1
  exact ⟨rfl,by omega⟩
def Ql:bT sW:=⟨4,90,[1,2,6,7,66,67,68],[],aCV,aCN,fun v b=>⟨gI (v.getD 0 .junk),gI (v.getD 2 .junk),aS (.int .i64) (v.getD 4 .junk),gI (v.getD 5 .junk),gI (v.getD 6 .junk),aS dZ (aZ (aP b 0) 0),aS .str (aZ (aP b 0) 1),aS eP (aZ (aP b 0) 2),aS dR (aZ (aP b 0) 3),aS eU (aZ (aP b 0) 4),aS dZ (aZ (aP b 1) 0),aS .str (aZ (aP b 1) 1),aS eP (aZ (aP b 1) 2),aS dR (aZ (aP b 1) 3),aS eU (aZ (aP b 1) 4),aS Fp (aZ (aP b 1) 5),aS (.int .i64) (aZ (aP b 1) 6),aS (.int .i64) (aZ (aP b 1) 7),aS (.int .i64) (aZ (aP b 1) 8),aS (.int .i64) (aZ (aP b 1) 9),aS (.int .i64) (aZ (aP b 1) 10),aS (.int .i64) (aZ (aP b 1) 11),aS (.int .i64) (aZ (aP b 1) 12),aS (.int .i64) (aZ (aP b 1) 13),aS (.int .i64) (aZ (aP b 1) 14),aS (.int .i64) (aZ (aP b 1) 15),aS (.int .i64) (aZ (aP b 1) 16),aS (.int .i64) (aZ (aP b 1) 17),aS (.int .i64) (aZ (aP b 1) 18),aS (.int .i64) (aZ (aP b 1) 19),aS (.int .i64) (aZ (aP b 1) 20),aS (.int .i64) (aZ (aP b 1) 21),aS (.int .i64) (aZ (aP b 1) 23),jy (.int .i64) (aP b 2),jy (.int .i64) (aP b 3),gI (aZ (aP b 5) 0)⟩,aes,fun s r=> {r with PW:=s.PW,level:=s.level,l:=s.l,n:=s.n,bP:=s.bP,dY:=s.dY,bW:=s.bW,dh:=s.dh,iH:=s.iH,yu:=s.yu,yj:=s.yj,yt:=s.yt,fA:=s.fA,yw:=s.yw,bI:=s.bI,jr:=s.jr,jq:=s.jq,jo:=s.jo,jm:=s.jm,jl:=s.jl,jk:=s.jk,ji:=s.ji,jh:=s.jh,jg:=s.jg,jf:=s.jf,dN:=s.dN,dM:=s.dM,dL:=s.dL,dK:=s.dK,dJ:=s.dJ,dI:=s.dI,bf:=s.bf,levels:=s.levels,more:=s.more},fun s=>s,fun _ s=>s,[.exit 0],ad5,ad1,ZV⟩
abbrev kF:=Ql.run
abbrev avt:=Ql.kG
abbrev arv:=Ql.q
noncomputable def ahJ:Hand:=inl Tryz.prog aQ zW (kH 93 7 2 (yg.lp) (kH 95 1 3 (wH.lp) (kH 93 1 2 (uQ.lp) (lX Tryz.prog aQ (zW) 20 2)))) 9
theorem apR:dF Tryz.prog aQ ahJ:=bU DV (dO Tryz.func93 rfl (by kernel_rfl) Fq (dO Tryz.func95 rfl (by kernel_rfl) zf (dO Tryz.func93 rfl (by kernel_rfl) wJ (dS DV)))) 9
theorem ax7 (s:sW) (hI:ad1 s):(aes s).all (fun _=>True):=by
 refine ⟨fun c1=>⟨?_,?_,?_,?_,?_,?_,⟨rfl,rfl⟩,trivial⟩,fun c1=>⟨⟨rfl,rfl⟩,⟨rfl,rfl⟩,trivial⟩⟩
 all_goals ((obtain ⟨⟨h0,h1⟩,h2,h3,h4,h5,h6⟩:=hI;(try simp only [decide_eq_true_eq] at c1);first|(have hm:=h5 (gi s.l s.i) (qg (by omega) (by omega));omega) |exact ⟨rfl,by simp⟩ |exact ⟨rfl,rfl⟩))
theorem agc:Ql.Ok:=⟨fun s=>by kernel_rfl,fun s=>by kernel_rfl,fun s=>rfl,fun s t r=>rfl,fun s=>rfl,fun s=>by kernel_rfl⟩
theorem afb:Ql.Pf (av9):=⟨aCm,fun _ _=>rfl,ax4,ax7⟩
theorem Vl:bC Tryz.prog aQ (AN 4) (.loop aby) Ql.lp:=bT.snd agc afb (bH (Γ:=zW) (K:=ahJ) (L:=(tH Tryz.prog aQ zW ahJ 20 2)) DV apR aby (fun b _=>dU DV apR 20 2 b)) (fun s=>by kernel_rfl)
theorem asQ (s:sW) (hE:ad5 s):∃s',ad1 s'∧av9 (avt s) s' (kF s):=bT.fin agc afb s hE
theorem alS (s:sW) (hE:ad5 s):(fun s:sW=>yQ s.sums s.more (s.l.drop s.i.toNat)) (kF s)=(fun s:sW=>yQ s.sums s.more (s.l.drop s.i.toNat)) s:=by
 exact bT.uN agc afb (fun s:sW=>yQ s.sums s.more (s.l.drop s.i.toNat)) (fun s hI=>by
  show bQ _ _ (an7 s)
  unfold an7 aes
  dsimp only [T.rd,T.rl]
  obtain ⟨⟨h0,h1⟩,h2,h3,h4,h5,h6⟩:=hI
  refine ax (fun c1=>?_) (fun c1=>rfl)
  have c1:s.i<s.n:=by simpa using c1
  have hb:=h2 (gi s.l s.i).toNat
  rw [aN (x:=s.i+1) (by omega) (by omega),aN (x:=s.sums.getD (gi s.l s.i).toNat (Ty.dflt (.int .i64))+s.more) (by show _≤s.sums.getD (gi s.l s.i).toNat 0+s.more;omega) (by show s.sums.getD (gi s.l s.i).toNat 0+s.more≤_;omega)]
  show yQ _ _ _=yQ _ _ _
  rw [(gi_step h0 (show s.i<s.l.length by omega)).1]
  rfl) s hE
theorem aeM (s:sW) (hE:ad5 s):(kF s).sums=yQ s.sums s.more s.l:=by
 have q3:=alS s hE
 obtain ⟨s',hI,q1,q2⟩:=asQ s hE
 obtain ⟨h0,h1,h2,h3⟩:=hE
 simp only at q3
 rw [q2,show (kF s).n=s.n from rfl,show (kF s).l=s.l from rfl,show (kF s).more=s.more from rfl,List.drop_eq_nil_of_le (by omega),h0] at q3
 exact q3
end Go.Proofs.YtlihnbimgclogaaGreatDoor
namespace Go.Proofs.YtlihnbimgclogaaGreatDoor
open Go.Sx
structure fP where
 most:List Int
 order:List Int
 n:Int
 level:Int
 some:Bool
 l:List Int
 m:Int
 k:Int
 ak:List Cd
 aC:List ByteArray
 aj:List Ko
 au:List Ch
 aK:List Ba
 yu:List Cd
 yj:List ByteArray
 yt:List Ko
 fA:List Ch
 yw:List Ba
 bI:List Rw
 jr:List Int
 jq:List Int
 jo:List Int
 jm:List Int
 jl:List Int
 jk:List Int
 ji:List Int
 jh:List Int
 jg:List Int
 jf:List Int
 dN:List Int
 dM:List Int
 dL:List Int
 dK:List Int
 dJ:List Int
 dI:List Int
 bf:List Int
 sums:List Int
 levels:List Int
def aBo (s:fP):List LV:=[.xl (.int .i64) s.most,.xl (.int .i64) s.order,.own 0 0,.v (.int .i64 s.n),.own 1 0,.v (.int .i64 s.level),.v (.bool s.some),.xl (.int .i64) s.l,.v (.int .i64 s.m),.v (.int .i64 s.k)]
def aAr (s:fP):List aT:=[⟨[.xl dZ s.ak,.xl .str s.aC,.xl eP s.aj,.xl dR s.au,.xl eU s.aK],28,.cl,false⟩,⟨[.xl dZ s.yu,.xl .str s.yj,.xl eP s.yt,.xl dR s.fA,.xl eU s.yw,.xl Fp s.bI,.xl (.int .i64) s.jr,.xl (.int .i64) s.jq,.xl (.int .i64) s.jo,.xl (.int .i64) s.jm,.xl (.int .i64) s.jl,.xl (.int .i64) s.jk,.xl (.int .i64) s.ji,.xl (.int .i64) s.jh,.xl (.int .i64) s.jg,.xl (.int .i64) s.jf,.xl (.int .i64) s.dN,.xl (.int .i64) s.dM,.xl (.int .i64) s.dL,.xl (.int .i64) s.dK,.xl (.int .i64) s.dJ,.xl (.int .i64) s.dI,.os 2 1 0 (List.length s.sums),.xl (.int .i64) s.bf,.os 3 1 0 (List.length s.levels)],148,.cl,false⟩,⟨[],3,.vec (.int .i64) s.sums,false⟩,⟨[],3,.vec (.int .i64) s.levels,false⟩]
noncomputable def Aq:Code:=((aG (((aG (Tryz.f52.body.getD .skip))[0]?).getD .skip))[0]?).getD .skip
def tN (s:fP):oL:=(⟨false,(([s.jr,s.jq,s.jo,s.jm,s.jl,s.jk,s.ji,s.jh,s.jg,s.jf,s.dN,s.dM,s.dL,s.dK,s.dJ,s.dI]:List (List Int)).getD (gi s.l s.k).toNat []),(List.length (([s.jr,s.jq,s.jo,s.jm,s.jl,s.jk,s.ji,s.jh,s.jg,s.jf,s.dN,s.dM,s.dL,s.dK,s.dJ,s.dI]:List (List Int)).getD (gi s.l s.k).toNat []):Int),(0:Int),s.ak,s.aC,s.aj,s.au,s.aK,s.yu,s.yj,s.yt,s.fA,s.yw,s.bI,s.jr,s.jq,s.jo,s.jm,s.jl,s.jk,s.ji,s.jh,s.jg,s.jf,s.dN,s.dM,s.dL,s.dK,s.dJ,s.dI,s.bf,s.sums,s.levels,(bF s.fA (gi s.l s.k)).1,(bF s.fA (gi s.l s.k)).2.1,(bF s.fA (gi s.l s.k)).2.2.1,(bF s.fA (gi s.l s.k)).2.2.2.1,(bF s.fA (gi s.l s.k)).2.2.2.2.1,(bF s.fA (gi s.l s.k)).2.2.2.2.2.1,(bF s.fA (gi s.l s.k)).2.2.2.2.2.2.1,(bF s.fA (gi s.l s.k)).2.2.2.2.2.2.2,(IntKind.i64.wrap ((if (gi s.bf (gi s.l s.k))<(Ce (bF s.fA (gi s.l s.k)).2.2.2.1 (bF s.fA (gi s.l s.k)).2.2.2.2.2.1 (IntKind.i64.wrap ((s.levels.getD (gi s.l s.k).toNat (Ty.dflt (.int .i64)))+1))) then Ce (bF s.fA (gi s.l s.k)).2.2.2.1 (bF s.fA (gi s.l s.k)).2.2.2.2.2.1 (IntKind.i64.wrap ((s.levels.getD (gi s.l s.k).toNat (Ty.dflt (.int .i64)))+1)) else (gi s.bf (gi s.l s.k)))-(if (gi s.bf (gi s.l s.k))<(Ce (bF s.fA (gi s.l s.k)).2.2.2.1 (bF s.fA (gi s.l s.k)).2.2.2.2.2.1 (IntKind.i64.wrap ((IntKind.i64.wrap ((s.levels.getD (gi s.l s.k).toNat (Ty.dflt (.int .i64)))+1))-1))) then Ce (bF s.fA (gi s.l s.k)).2.2.2.1 (bF s.fA (gi s.l s.k)).2.2.2.2.2.1 (IntKind.i64.wrap ((IntKind.i64.wrap ((s.levels.getD (gi s.l s.k).toNat (Ty.dflt (.int .i64)))+1))-1)) else (gi s.bf (gi s.l s.k)))))⟩:oL)
def lY (s:fP):sW:=(⟨(gi s.l s.k),(IntKind.i64.wrap ((s.levels.getD (gi s.l s.k).toNat (Ty.dflt (.int .i64)))+1)),(([s.jr,s.jq,s.jo,s.jm,s.jl,s.jk,s.ji,s.jh,s.jg,s.jf,s.dN,s.dM,s.dL,s.dK,s.dJ,s.dI]:List (List Int)).getD (gi s.l s.k).toNat []),(List.length (([s.jr,s.jq,s.jo,s.jm,s.jl,s.jk,s.ji,s.jh,s.jg,s.jf,s.dN,s.dM,s.dL,s.dK,s.dJ,s.dI]:List (List Int)).getD (gi s.l s.k).toNat []):Int),(0:Int),s.ak,s.aC,s.aj,s.au,s.aK,s.yu,s.yj,s.yt,s.fA,s.yw,s.bI,s.jr,s.jq,s.jo,s.jm,s.jl,s.jk,s.ji,s.jh,s.jg,s.jf,s.dN,s.dM,s.dL,s.dK,s.dJ,s.dI,s.bf,s.sums,s.levels,(IntKind.i64.wrap ((if (gi s.bf (gi s.l s.k))<(Ce (bF s.fA (gi s.l s.k)).2.2.2.1 (bF s.fA (gi s.l s.k)).2.2.2.2.2.1 (IntKind.i64.wrap ((s.levels.getD (gi s.l s.k).toNat (Ty.dflt (.int .i64)))+1))) then Ce (bF s.fA (gi s.l s.k)).2.2.2.1 (bF s.fA (gi s.l s.k)).2.2.2.2.2.1 (IntKind.i64.wrap ((s.levels.getD (gi s.l s.k).toNat (Ty.dflt (.int .i64)))+1)) else (gi s.bf (gi s.l s.k)))-(if (gi s.bf (gi s.l s.k))<(Ce (bF s.fA (gi s.l s.k)).2.2.2.1 (bF s.fA (gi s.l s.k)).2.2.2.2.2.1 (IntKind.i64.wrap ((IntKind.i64.wrap ((s.levels.getD (gi s.l s.k).toNat (Ty.dflt (.int .i64)))+1))-1))) then Ce (bF s.fA (gi s.l s.k)).2.2.2.1 (bF s.fA (gi s.l s.k)).2.2.2.2.2.1 (IntKind.i64.wrap ((IntKind.i64.wrap ((s.levels.getD (gi s.l s.k).toNat (Ty.dflt (.int .i64)))+1))-1)) else (gi s.bf (gi s.l s.k)))))⟩:sW)
def QC (s:fP):T (Rd fP):=
 .br (decide (s.k<s.m)) (.req (0≤s.k∧s.k<(List.length s.l:Int)) (.req (0≤(gi s.l s.k)∧(gi s.l s.k)<((List.length s.levels:Nat):Int)) (.req ((gi s.l s.k).toNat<List.length s.levels) (.br ((s.levels.getD (gi s.l s.k).toNat (Ty.dflt (.int .i64))) !=(IntKind.i64.wrap (s.level-1))) (.rl s.sums (.rl s.levels (.ok (.next {s with k:=(IntKind.i64.wrap (s.k+1))})))) (.req (0≤(gi s.l s.k)∧(gi s.l s.k)<(List.length s.au:Int)) (.req (0≤(gi s.l s.k)∧(gi s.l s.k)<(List.length s.most:Int)) (.req ((gi s.most (gi s.l s.k))≤9223372036854775807) (.br (decide ((SA (bF s.au (gi s.l s.k)).2.2.2.1 (bF s.au (gi s.l s.k)).2.2.2.2.1 (bF s.au (gi s.l s.k)).2.2.2.2.2.1 (gi s.most (gi s.l s.k)))<s.level)) (.rl s.sums (.rl s.levels (.ok (.next {s with k:=(IntKind.i64.wrap (s.k+1))})))) (.req (0≤(gi s.l s.k)∧(gi s.l s.k)<(List.length s.fA:Int)) (.req (0≤(gi s.l s.k)∧(gi s.l s.k)<((List.length s.levels:Nat):Int)) (.req ((gi s.l s.k).toNat<List.length s.levels) (.req (0≤(gi s.l s.k)∧(gi s.l s.k)<(List.length s.bf:Int)) (.req ((1≤(bF s.fA (gi s.l s.k)).2.2.2.1∧(bF s.fA (gi s.l s.k)).2.2.2.1≤80∧1≤(bF s.fA (gi s.l s.k)).2.2.2.2.2.1∧(bF s.fA (gi s.l s.k)).2.2.2.2.2.1≤80)∧0≤(IntKind.i64.wrap ((s.levels.getD (gi s.l s.k).toNat (Ty.dflt (.int .i64)))+1))∧(IntKind.i64.wrap ((s.levels.getD (gi s.l s.k).toNat (Ty.dflt (.int .i64)))+1))≤1000) (.req (0≤(gi s.l s.k)∧(gi s.l s.k)<(List.length s.bf:Int)) (.req ((1≤(bF s.fA (gi s.l s.k)).2.2.2.1∧(bF s.fA (gi s.l s.k)).2.2.2.1≤80∧1≤(bF s.fA (gi s.l s.k)).2.2.2.2.2.1∧(bF s.fA (gi s.l s.k)).2.2.2.2.2.1≤80)∧0≤(IntKind.i64.wrap ((IntKind.i64.wrap ((s.levels.getD (gi s.l s.k).toNat (Ty.dflt (.int .i64)))+1))-1))∧(IntKind.i64.wrap ((IntKind.i64.wrap ((s.levels.getD (gi s.l s.k).toNat (Ty.dflt (.int .i64)))+1))-1))≤1000) (.req (0≤(gi s.l s.k)∧(gi s.l s.k)<(16:Int)) (.rl s.sums (.rl s.levels (.req (awX (tN s)) (.br (iQ (FP (tN s)) (.ret)) (.br (!(FC (tN s)).r) (.br false (.rl s.sums (.rl s.levels (.ok (.next {s with some:=true,k:=(IntKind.i64.wrap (s.k+1))})))) (.rl s.sums (.rl s.levels (.ok (.next {s with k:=(IntKind.i64.wrap (s.k+1))}))))) (.req (0≤(gi s.l s.k)∧(gi s.l s.k)<(16:Int)) (.rl s.sums (.rl s.levels (.req (arv (lY s)) (.req (0≤(gi s.l s.k)∧(gi s.l s.k)<((List.length s.levels:Nat):Int)) (.req ((gi s.l s.k).toNat<List.length s.levels) (.br true (.rl (kF (lY s)).sums (.req (0=0∧(List.length s.levels)=List.length (s.levels.set (gi s.l s.k).toNat (IntKind.i64.wrap ((s.levels.getD (gi s.l s.k).toNat (Ty.dflt (.int .i64)))+1)))) (.ok (.next {s with some:=true,k:=(IntKind.i64.wrap (s.k+1)),sums:=(kF (lY s)).sums,levels:=(s.levels.set (gi s.l s.k).toNat (IntKind.i64.wrap ((s.levels.getD (gi s.l s.k).toNat (Ty.dflt (.int .i64)))+1)))})))) (.rl (kF (lY s)).sums (.req (0=0∧(List.length s.levels)=List.length (s.levels.set (gi s.l s.k).toNat (IntKind.i64.wrap ((s.levels.getD (gi s.l s.k).toNat (Ty.dflt (.int .i64)))+1)))) (.ok (.next {s with k:=(IntKind.i64.wrap (s.k+1)),sums:=(kF (lY s)).sums,levels:=(s.levels.set (gi s.l s.k).toNat (IntKind.i64.wrap ((s.levels.getD (gi s.l s.k).toNat (Ty.dflt (.int .i64)))+1)))})))))))))))) (.br (!true) (.br false (.rl s.sums (.rl s.levels (.ok (.next {s with some:=true,k:=(IntKind.i64.wrap (s.k+1))})))) (.rl s.sums (.rl s.levels (.ok (.next {s with k:=(IntKind.i64.wrap (s.k+1))}))))) (.req (0≤(gi s.l s.k)∧(gi s.l s.k)<(16:Int)) (.rl s.sums (.rl s.levels (.req (arv (lY s)) (.req (0≤(gi s.l s.k)∧(gi s.l s.k)<((List.length s.levels:Nat):Int)) (.req ((gi s.l s.k).toNat<List.length s.levels) (.br true (.rl (kF (lY s)).sums (.req (0=0∧(List.length s.levels)=List.length (s.levels.set (gi s.l s.k).toNat (IntKind.i64.wrap ((s.levels.getD (gi s.l s.k).toNat (Ty.dflt (.int .i64)))+1)))) (.ok (.next {s with some:=true,k:=(IntKind.i64.wrap (s.k+1)),sums:=(kF (lY s)).sums,levels:=(s.levels.set (gi s.l s.k).toNat (IntKind.i64.wrap ((s.levels.getD (gi s.l s.k).toNat (Ty.dflt (.int .i64)))+1)))})))) (.rl (kF (lY s)).sums (.req (0=0∧(List.length s.levels)=List.length (s.levels.set (gi s.l s.k).toNat (IntKind.i64.wrap ((s.levels.getD (gi s.l s.k).toNat (Ty.dflt (.int .i64)))+1)))) (.ok (.next {s with k:=(IntKind.i64.wrap (s.k+1)),sums:=(kF (lY s)).sums,levels:=(s.levels.set (gi s.l s.k).toNat (IntKind.i64.wrap ((s.levels.getD (gi s.l s.k).toNat (Ty.dflt (.int .i64)))+1)))})))))))))))))))))))))))))))))))) (.rl s.sums (.rl s.levels (.ok (.stop (.exit 2) s))))
abbrev aaF (s:fP):=(QC s).rd s
def gV (s:fP):List (List Int):=[s.jr,s.jq,s.jo,s.jm,s.jl,s.jk,s.ji,s.jh,s.jg,s.jf,s.dN,s.dM,s.dL,s.dK,s.dJ,s.dI]
def Nk (s:fP):Prop:=s.k=0∧(s.m=(s.l.length:Int)∧s.m≤1000∧1≤s.level∧s.level≤81)∧s.fA=s.au∧OkT (gV s) s.bI s.fA s.bf s.most s.l∧OkS s.bI s.l s.sums s.levels
def nI (s:fP):Prop:=(0≤s.k∧s.k≤s.m)∧(s.m=(s.l.length:Int)∧s.m≤1000∧1≤s.level∧s.level≤81)∧s.fA=s.au∧OkT (gV s) s.bI s.fA s.bf s.most s.l∧OkS s.bI s.l s.sums s.levels
def vJ (s:fP):Nat:=(s.m-s.k).toNat
def acI (x:Ex) (_ s':fP):Prop:=x=.exit 2∧s'.k=s'.m
theorem axW:∀s,Nk s→nI s:=by
 intro s h
 obtain ⟨h0,h1⟩:=h
 exact ⟨by have:=h1.1;omega,h1⟩
theorem uJ (s:fP) (hI:nI s) (c1:s.k<s.m):gi s.l s.k∈s.l∧(0≤gi s.l s.k∧gi s.l s.k<16)∧gi s.l s.k<(s.fA.length:Int)∧gi s.l s.k<(s.au.length:Int)∧gi s.l s.k<(s.bf.length:Int)∧gi s.l s.k<(s.most.length:Int)∧gi s.l s.k<(s.levels.length:Int)∧(0≤gi s.most (gi s.l s.k)∧gi s.most (gi s.l s.k)≤80)∧(0≤gi s.bf (gi s.l s.k)∧gi s.bf (gi s.l s.k)≤80):=by
 obtain ⟨⟨h0,h1⟩,⟨h2,h3,h4,h5⟩,h6,hT,hS⟩:=hI
 have hm:gi s.l s.k∈s.l:=qg h0 (by omega)
 obtain ⟨o1,o2,o3,o4⟩:=hT.ord _ hm
 exact ⟨hm,o1,o2,by rw [←h6];exact o2,o3,o4,hS.uU _ hm,hT.mo _ (qg o1.1 o4),hT.al _ (qg o1.1 o3)⟩
theorem su {s:fP}(hI:nI s) (c2:((s.levels.getD (gi s.l s.k).toNat (Ty.dflt (.int .i64))) !=(IntKind.i64.wrap (s.level-1)))=false):s.levels.getD (gi s.l s.k).toNat 0=s.level-1:=by
 obtain ⟨_,⟨h2,h3,h4,h5⟩,_⟩:=hI
 have c2:((s.levels.getD (gi s.l s.k).toNat 0) !=(IntKind.i64.wrap (s.level-1)))=false:=c2
 rw [aN (x:=s.level-1) (by omega) (by omega)] at c2
 simpa using c2
theorem Rj {s:fP}(hI:nI s) (c2:s.levels.getD (gi s.l s.k).toNat 0=s.level-1):IntKind.i64.wrap ((s.levels.getD (gi s.l s.k).toNat (Ty.dflt (.int .i64)))+1)=s.level∧IntKind.i64.wrap ((IntKind.i64.wrap ((s.levels.getD (gi s.l s.k).toNat (Ty.dflt (.int .i64)))+1))-1)=s.level-1:=by
 obtain ⟨_,⟨h2,h3,h4,h5⟩,_⟩:=hI
 have e:IntKind.i64.wrap ((s.levels.getD (gi s.l s.k).toNat (Ty.dflt (.int .i64)))+1)=s.level:=by
  have:(s.levels.getD (gi s.l s.k).toNat (Ty.dflt (.int .i64)))=s.level-1:=c2
  rw [this,aN (x:=s.level-1+1) (by omega) (by omega)]
  omega
 refine ⟨e,?_⟩
 rw [e,aN (by omega) (by omega)]
theorem kK {s:fP}(hI:nI s) (c1:s.k<s.m) (c2:s.levels.getD (gi s.l s.k).toNat 0=s.level-1):(tN s).more=KC s.fA s.bf (gi s.l s.k) s.level∧(lY s).more=KC s.fA s.bf (gi s.l s.k) s.level∧0≤KC s.fA s.bf (gi s.l s.k) s.level∧KC s.fA s.bf (gi s.l s.k) s.level≤10000:=by
 have hx:=uJ s hI c1
 obtain ⟨w1,w2⟩:=Rj hI c2
 obtain ⟨_,⟨h2,h3,h4,h5⟩,h6,hT,hS⟩:=hI
 have hb:=ahb (gs:=s.fA) (alive:=s.bf) (k:=s.level) (hT.has _ hx.1) hx.2.2.2.2.2.2.2.2 h4 h5
 have e:(tN s).more=KC s.fA s.bf (gi s.l s.k) s.level:=by
  unfold tN
  simp only [w2]
  simp only [w1]
  show IntKind.i64.wrap (KC s.fA s.bf (gi s.l s.k) s.level)=_
  rw [aN (by omega) (by omega)]
 exact ⟨e,e,hb⟩
theorem apn {s:fP}(hI:nI s) (c1:s.k<s.m):((gV s).getD (gi s.l s.k).toNat []).Nodup∧(((gV s).getD (gi s.l s.k).toNat []).length:Int)≤1000∧∀r∈(gV s).getD (gi s.l s.k).toNat [],0≤r∧r<(s.bI.length:Int):=by
 have hx:=uJ s hI c1
 obtain ⟨_,_,_,hT,_⟩:=hI
 refine hT.row _ ?_
 have hl:=hT.ol
 rw [List.getD_eq_getElem?_getD,List.getElem?_eq_getElem (by omega),Option.getD_some]
 exact List.getElem_mem _
theorem tV {s:fP}(hI:nI s) (c1:s.k<s.m) (c2:s.levels.getD (gi s.l s.k).toNat 0=s.level-1):UW (tN s):=by
 obtain ⟨m1,m2,m3⟩:=kK hI c1 c2
 obtain ⟨o1,o2,o3⟩:=apn hI c1
 obtain ⟨_,_,_,hT,hS⟩:=hI
 exact ⟨rfl,Int.natCast_nonneg _,o2,rfl,o3,hS.len,hS.bd,by rw [m1];exact m3⟩
theorem NJ {s:fP}(hI:nI s) (c1:s.k<s.m) (c2:s.levels.getD (gi s.l s.k).toNat 0=s.level-1):ad5 (lY s):=by
 obtain ⟨m1,m2,m3⟩:=kK hI c1 c2
 obtain ⟨o1,o2,o3⟩:=apn hI c1
 obtain ⟨_,_,_,hT,hS⟩:=hI
 refine ⟨rfl,hS.bd,rfl,o2,fun r hr=>?_,by rw [m2];exact m3⟩
 have:=o3 r hr
 have hl:=hS.len
 show 0≤r∧r<(s.sums.length:Int)
 omega
theorem aeD (s s':fP) (hI:nI s) (c1:s.k<s.m) (ht:(s'.sums,s'.levels,s'.some)=CJ (gV s) s.bI s.fA s.bf s.most s.level (s.sums,s.levels,s.some) (gi s.l s.k)) (hk:s'.k=IntKind.i64.wrap (s.k+1))
  (h_m:s'.m=s.m) (h_l:s'.l=s.l) (h_v:s'.level=s.level) (h_g:s'.fA=s.fA) (h_c:s'.au=s.au) (h_r:s'.bI=s.bI) (h_a:s'.bf=s.bf) (h_w:s'.most=s.most) (h_O:gV s'=gV s):
  (nI s'∧vJ s'<vJ s)∧(fun s:fP=>swp (gV s) s.bI s.fA s.bf s.most s.level (s.sums,s.levels,s.some) (s.l.drop s.k.toNat)) s'=(fun s:fP=>swp (gV s) s.bI s.fA s.bf s.most s.level (s.sums,s.levels,s.some) (s.l.drop s.k.toNat)) s:=by
 have hx:=uJ s hI c1
 obtain ⟨⟨h0,h1⟩,⟨h2,h3,h4,h5⟩,h6,hT,hS⟩:=hI
 rw [aN (x:=s.k+1) (by omega) (by omega)] at hk
 have e1:s'.sums=(CJ (gV s) s.bI s.fA s.bf s.most s.level (s.sums,s.levels,s.some) (gi s.l s.k)).1:=congrArg (·.1) ht
 have e2:s'.levels=(CJ (gV s) s.bI s.fA s.bf s.most s.level (s.sums,s.levels,s.some) (gi s.l s.k)).2.1:=congrArg (·.2.1) ht
 refine ⟨⟨⟨⟨by omega,by omega⟩,⟨by rw [h_m,h_l];exact h2,by omega,by omega,by omega⟩,by rw [h_g,h_c];exact h6,by rw [h_O,h_r,h_g,h_a,h_w,h_l];exact hT,?_⟩,by simp only [vJ];omega⟩,?_⟩
 ·rw [h_r,h_l,e1,e2]
  exact aeN hT hS hx.1 h4 h5
 ·simp only
  rw [h_O,h_r,h_g,h_a,h_w,h_v,h_l,ht,hk,(gi_step h0 (show s.k<s.l.length by omega)).1]
  rfl
theorem FB (s s':fP) (hI:nI s) (c1:s.k<s.m) (ht:(s'.sums,s'.levels,s'.some)=CJ (gV s) s.bI s.fA s.bf s.most s.level (s.sums,s.levels,s.some) (gi s.l s.k)) (hk:s'.k=IntKind.i64.wrap (s.k+1))
  (h_m:s'.m=s.m) (h_l:s'.l=s.l) (h_v:s'.level=s.level) (h_g:s'.fA=s.fA) (h_c:s'.au=s.au) (h_r:s'.bI=s.bI) (h_a:s'.bf=s.bf) (h_w:s'.most=s.most) (h_O:gV s'=gV s):bQ (fun s'=>nI s'∧vJ s'<vJ s) (fun x s'=>acI x s s') (.next s'):=(aeD s s' hI c1 ht hk h_m h_l h_v h_g h_c h_r h_a h_w h_O).1
theorem Fz (s s':fP) (hI:nI s) (c1:s.k<s.m) (ht:(s'.sums,s'.levels,s'.some)=CJ (gV s) s.bI s.fA s.bf s.most s.level (s.sums,s.levels,s.some) (gi s.l s.k)) (hk:s'.k=IntKind.i64.wrap (s.k+1))
  (h_m:s'.m=s.m) (h_l:s'.l=s.l) (h_v:s'.level=s.level) (h_g:s'.fA=s.fA) (h_c:s'.au=s.au) (h_r:s'.bI=s.bI) (h_a:s'.bf=s.bf) (h_w:s'.most=s.most) (h_O:gV s'=gV s):bQ (fun s'=>(fun s:fP=>swp (gV s) s.bI s.fA s.bf s.most s.level (s.sums,s.levels,s.some) (s.l.drop s.k.toNat)) s'=(fun s:fP=>swp (gV s) s.bI s.fA s.bf s.most s.level (s.sums,s.levels,s.some) (s.l.drop s.k.toNat)) s) (fun _ s'=>(fun s:fP=>swp (gV s) s.bI s.fA s.bf s.most s.level (s.sums,s.levels,s.some) (s.l.drop s.k.toNat)) s'=(fun s:fP=>swp (gV s) s.bI s.fA s.bf s.most s.level (s.sums,s.levels,s.some) (s.l.drop s.k.toNat)) s) (.next s'):=(aeD s s' hI c1 ht hk h_m h_l h_v h_g h_c h_r h_a h_w h_O).2
theorem asH (s:fP) (hI:nI s):bQ (fun s'=>nI s'∧vJ s'<vJ s) (fun x s'=>acI x s s') (aaF s):=by
 unfold aaF QC
 dsimp only [T.rd,T.rl]
 refine ax (fun c1=>?_) (fun c1=>?_)
 ·refine ax (fun c2=>?_) (fun c2=>?_)
  ·have c1:s.k<s.m:=by simpa using c1
   have hn:¬(s.levels.getD (gi s.l s.k).toNat 0=s.level-1∧s.level≤xU s.fA (gi s.l s.k) (gi s.most (gi s.l s.k))):=fun h=>by
    obtain ⟨_,⟨h2,h3,h4,h5⟩,_⟩:=hI
    have c2:((s.levels.getD (gi s.l s.k).toNat 0) !=(IntKind.i64.wrap (s.level-1)))=true:=c2
    rw [aN (x:=s.level-1) (by omega) (by omega)] at c2
    have c2:¬s.levels.getD (gi s.l s.k).toNat 0=s.level-1:=by simpa using c2
    exact c2 h.1
   exact FB s _ hI (by simpa using c1) (by unfold CJ;rw [if_neg hn]) rfl rfl rfl rfl rfl rfl rfl rfl rfl rfl
  ·refine ax (fun c3=>?_) (fun c3=>?_)
   ·have c1:s.k<s.m:=by simpa using c1
    have hn:¬(s.levels.getD (gi s.l s.k).toNat 0=s.level-1∧s.level≤xU s.fA (gi s.l s.k) (gi s.most (gi s.l s.k))):=fun h=>by
     obtain ⟨_,_,h6,_⟩:=hI
     simp only [decide_eq_true_eq] at c3
     rw [←h6] at c3
     have:=h.2
     unfold xU at this
     omega
    exact FB s _ hI (by simpa using c1) (by unfold CJ;rw [if_neg hn]) rfl rfl rfl rfl rfl rfl rfl rfl rfl rfl
   ·refine ax (fun c4=>?_) (fun c4=>?_)
    ·refine ax (fun c5=>?_) (fun c5=>?_)
     ·refine ax (fun c6=>?_) (fun c6=>?_)
      ·cases c6
      ·have c1:s.k<s.m:=by simpa using c1
       have c2:=su hI c2
       have hp:s.levels.getD (gi s.l s.k).toNat 0=s.level-1∧s.level≤xU s.fA (gi s.l s.k) (gi s.most (gi s.l s.k)):=by
        refine ⟨c2,?_⟩
        have h6:=hI.2.2.1
        simp only [decide_eq_false_iff_not] at c3
        rw [←h6] at c3
        unfold xU
        omega
       have hE:=tV hI c1 c2
       obtain ⟨m1,m2,_⟩:=kK hI c1 c2
       rcases qY _ hE with ⟨q1,q2⟩ |⟨q1,q2,q3⟩
       ·rw [q1] at c4
        cases c4
       ·rw [m1] at q3
        have q3:((gV s).getD (gi s.l s.k).toNat []).all (zZ s.bI s.sums (KC s.fA s.bf (gi s.l s.k) s.level))=false:=q3
        exact FB s _ hI (by simpa using c1) (by unfold CJ;rw [if_pos hp,if_neg (by rw [q3];simp)]) rfl rfl rfl rfl rfl rfl rfl rfl rfl rfl
     ·refine ax (fun c6=>?_) (fun c6=>?_)
      ·have c1:s.k<s.m:=by simpa using c1
       have c2:=su hI c2
       have hp:s.levels.getD (gi s.l s.k).toNat 0=s.level-1∧s.level≤xU s.fA (gi s.l s.k) (gi s.most (gi s.l s.k)):=by
        refine ⟨c2,?_⟩
        have h6:=hI.2.2.1
        simp only [decide_eq_false_iff_not] at c3
        rw [←h6] at c3
        unfold xU
        omega
       have hE:=tV hI c1 c2
       obtain ⟨m1,m2,_⟩:=kK hI c1 c2
       rcases qY _ hE with ⟨q1,q2⟩ |⟨q1,q2,q3⟩
       ·rw [q1] at c4
        cases c4
       ·rw [q2] at c5
        cases c5
      ·have c1:s.k<s.m:=by simpa using c1
       have c2:=su hI c2
       have hp:s.levels.getD (gi s.l s.k).toNat 0=s.level-1∧s.level≤xU s.fA (gi s.l s.k) (gi s.most (gi s.l s.k)):=by
        refine ⟨c2,?_⟩
        have h6:=hI.2.2.1
        simp only [decide_eq_false_iff_not] at c3
        rw [←h6] at c3
        unfold xU
        omega
       have hE:=tV hI c1 c2
       obtain ⟨m1,m2,_⟩:=kK hI c1 c2
       rcases qY _ hE with ⟨q1,q2⟩ |⟨q1,q2,q3⟩
       ·rw [q1] at c4
        cases c4
       ·rw [q2] at c5
        cases c5
    ·refine ax (fun c5=>?_) (fun c5=>?_)
     ·refine ax (fun c6=>?_) (fun c6=>?_)
      ·cases c5
      ·cases c5
     ·refine ax (fun c6=>?_) (fun c6=>?_)
      ·have c1:s.k<s.m:=by simpa using c1
       have c2:=su hI c2
       have hp:s.levels.getD (gi s.l s.k).toNat 0=s.level-1∧s.level≤xU s.fA (gi s.l s.k) (gi s.most (gi s.l s.k)):=by
        refine ⟨c2,?_⟩
        have h6:=hI.2.2.1
        simp only [decide_eq_false_iff_not] at c3
        rw [←h6] at c3
        unfold xU
        omega
       have hE:=tV hI c1 c2
       obtain ⟨m1,m2,_⟩:=kK hI c1 c2
       have hR:=NJ hI c1 c2
       rcases qY _ hE with ⟨q1,q2⟩ |⟨q1,q2,q3⟩
       ·rw [m1] at q2
        have q2:((gV s).getD (gi s.l s.k).toNat []).all (zZ s.bI s.sums (KC s.fA s.bf (gi s.l s.k) s.level))=true:=q2
        have r1:=aeM _ hR
        rw [m2] at r1
        have r1:(kF (lY s)).sums=yQ s.sums (KC s.fA s.bf (gi s.l s.k) s.level) ((gV s).getD (gi s.l s.k).toNat []):=r1
        have w1:=(Rj hI c2).1
        exact FB s _ hI (by simpa using c1) (by unfold CJ;rw [if_pos hp,if_pos q2,←r1,←w1]) rfl rfl rfl rfl rfl rfl rfl rfl rfl rfl
       ·rw [q1] at c4
        cases c4
      ·cases c6
 ·have c1:s.m≤s.k:=by simpa using c1
  have h0:=hI.1
  exact ⟨rfl,by omega⟩
def Jy:bT fP:=⟨0,129,[2,3,4,12,14,15,16,66,67,68],[],aBo,aAr,fun v b=>⟨aS (.int .i64) (v.getD 0 .junk),aS (.int .i64) (v.getD 1 .junk),gI (v.getD 3 .junk),gI (v.getD 5 .junk),x9 (v.getD 6 .junk),aS (.int .i64) (v.getD 7 .junk),gI (v.getD 8 .junk),gI (v.getD 9 .junk),aS dZ (aZ (aP b 0) 0),aS .str (aZ (aP b 0) 1),aS eP (aZ (aP b 0) 2),aS dR (aZ (aP b 0) 3),aS eU (aZ (aP b 0) 4),aS dZ (aZ (aP b 1) 0),aS .str (aZ (aP b 1) 1),aS eP (aZ (aP b 1) 2),aS dR (aZ (aP b 1) 3),aS eU (aZ (aP b 1) 4),aS Fp (aZ (aP b 1) 5),aS (.int .i64) (aZ (aP b 1) 6),aS (.int .i64) (aZ (aP b 1) 7),aS (.int .i64) (aZ (aP b 1) 8),aS (.int .i64) (aZ (aP b 1) 9),aS (.int .i64) (aZ (aP b 1) 10),aS (.int .i64) (aZ (aP b 1) 11),aS (.int .i64) (aZ (aP b 1) 12),aS (.int .i64) (aZ (aP b 1) 13),aS (.int .i64) (aZ (aP b 1) 14),aS (.int .i64) (aZ (aP b 1) 15),aS (.int .i64) (aZ (aP b 1) 16),aS (.int .i64) (aZ (aP b 1) 17),aS (.int .i64) (aZ (aP b 1) 18),aS (.int .i64) (aZ (aP b 1) 19),aS (.int .i64) (aZ (aP b 1) 20),aS (.int .i64) (aZ (aP b 1) 21),aS (.int .i64) (aZ (aP b 1) 23),jy (.int .i64) (aP b 2),jy (.int .i64) (aP b 3)⟩,QC,fun s r=> {r with most:=s.most,order:=s.order,n:=s.n,level:=s.level,l:=s.l,m:=s.m,ak:=s.ak,aC:=s.aC,aj:=s.aj,au:=s.au,aK:=s.aK,yu:=s.yu,yj:=s.yj,yt:=s.yt,fA:=s.fA,yw:=s.yw,bI:=s.bI,jr:=s.jr,jq:=s.jq,jo:=s.jo,jm:=s.jm,jl:=s.jl,jk:=s.jk,ji:=s.ji,jh:=s.jh,jg:=s.jg,jf:=s.jf,dN:=s.dN,dM:=s.dM,dL:=s.dL,dK:=s.dK,dJ:=s.dJ,dI:=s.dI,bf:=s.bf},fun s=>s,fun _ s=>s,[.exit 2],Nk,nI,vJ⟩
abbrev eu:=Jy.run
abbrev aob:=Jy.kG
abbrev awo:=Jy.q
set_option maxRecDepth 100000 in
set_option maxHeartbeats 4000000 in
theorem as2 (s:fP) (hI:nI s):(QC s).all (fun _=>True):=by
 refine ⟨fun c1=>⟨?_,?_,?_,fun c2=>⟨⟨rfl,rfl⟩,⟨rfl,rfl⟩,trivial⟩,fun c2=>⟨?_,?_,?_,fun c3=>⟨⟨rfl,rfl⟩,⟨rfl,rfl⟩,trivial⟩,fun c3=>⟨?_,?_,?_,?_,?_,?_,?_,?_,⟨rfl,rfl⟩,⟨rfl,rfl⟩,?_,fun c4=>⟨fun c5=>⟨fun c6=>⟨⟨rfl,rfl⟩,⟨rfl,rfl⟩,trivial⟩,fun c6=>⟨⟨rfl,rfl⟩,⟨rfl,rfl⟩,trivial⟩⟩,fun c5=>⟨?_,⟨rfl,rfl⟩,⟨rfl,rfl⟩,?_,?_,?_,fun c7=>⟨⟨rfl,rfl⟩,?_,trivial⟩,fun c7=>⟨⟨rfl,rfl⟩,?_,trivial⟩⟩⟩,fun c4=>⟨fun c8=>⟨fun c9=>⟨⟨rfl,rfl⟩,⟨rfl,rfl⟩,trivial⟩,fun c9=>⟨⟨rfl,rfl⟩,⟨rfl,rfl⟩,trivial⟩⟩,fun c8=>⟨?_,⟨rfl,rfl⟩,⟨rfl,rfl⟩,?_,?_,?_,fun c10=>⟨⟨rfl,rfl⟩,?_,trivial⟩,fun c10=>⟨⟨rfl,rfl⟩,?_,trivial⟩⟩⟩⟩⟩⟩,fun c1=>⟨⟨rfl,rfl⟩,⟨rfl,rfl⟩,trivial⟩⟩
 ·(have:=hI.1;have:=hI.2.1.1;simp only [decide_eq_true_eq] at c1;omega)
 iterate 9 · (have hx:=uJ s hI (by simpa using c1);omega)
 ·(have hx:=uJ s hI (by simpa using c1);obtain ⟨w1,w2⟩:=Rj hI (su hI c2);have hh:=fK.1 (hI.2.2.2.1.has _ hx.1);have hb:=hI.2.1;(first|rw [w2] |rw [w1]);omega)
 ·(have hx:=uJ s hI (by simpa using c1);omega)
 ·(have hx:=uJ s hI (by simpa using c1);obtain ⟨w1,w2⟩:=Rj hI (su hI c2);have hh:=fK.1 (hI.2.2.2.1.has _ hx.1);have hb:=hI.2.1;(first|rw [w2] |rw [w1]);omega)
 ·(have hx:=uJ s hI (by simpa using c1);omega)
 ·exact ⟨tV hI (by simpa using c1) (su hI c2),rfl,rfl⟩
 ·(have hx:=uJ s hI (by simpa using c1);omega)
 ·exact ⟨NJ hI (by simpa using c1) (su hI c2),rfl,rfl⟩
 iterate 2 · (have hx:=uJ s hI (by simpa using c1);omega)
 iterate 2 · exact ⟨rfl,by simp⟩
 ·(have hx:=uJ s hI (by simpa using c1);omega)
 ·exact ⟨NJ hI (by simpa using c1) (su hI c2),rfl,rfl⟩
 iterate 2 · (have hx:=uJ s hI (by simpa using c1);omega)
 iterate 2 · exact ⟨rfl,by simp⟩
noncomputable def aay:Specs:=bg [(24,nR),(61,qw),(94,qp),(96,qo)]
theorem ahT:∀g S,aay g=some S→Valid Tryz.prog aQ g S:=aU (l:=[(24,nR),(61,qw),(94,qp),(96,qo)]) ⟨Cf,Gg,Gf,F9,trivial⟩
noncomputable def ap2:Hand:=inl Tryz.prog aQ aay (kH 97 4 8 (Ql.lp) (kH 93 7 2 (yg.lp) (kH 95 1 3 (wH.lp) (kH 93 1 2 (uQ.lp) (lX Tryz.prog aQ (aay) 20 2))))) 9
theorem azc:dF Tryz.prog aQ ap2:=bU ahT (dO Tryz.func97 rfl (by kernel_rfl) Vl (dO Tryz.func93 rfl (by kernel_rfl) Fq (dO Tryz.func95 rfl (by kernel_rfl) zf (dO Tryz.func93 rfl (by kernel_rfl) wJ (dS ahT))))) 9
theorem VR:Jy.Ok:=⟨fun s=>by kernel_rfl,fun s=>by kernel_rfl,fun s=>rfl,fun s t r=>rfl,fun s=>rfl,fun s=>by kernel_rfl⟩
theorem Vz:Jy.Pf (acI):=⟨axW,fun _ _=>rfl,asH,as2⟩
set_option maxRecDepth 100000 in
set_option maxHeartbeats 4000000 in
theorem akT:bC Tryz.prog aQ (AN 0) (.loop Aq) Jy.lp:=bT.snd VR Vz (aV (Γ:=aay) (K:=ap2) (L:=aF) ahT azc Aq (fun b hb=>by rw [show aG Aq=[] by kernel_rfl] at hb;cases hb)) (fun s=>by kernel_rfl)
theorem alJ (s:fP) (hE:Nk s):∃s',nI s'∧acI (aob s) s' (eu s):=bT.fin VR Vz s hE
theorem aeE (s:fP) (hE:Nk s):(fun s:fP=>swp (gV s) s.bI s.fA s.bf s.most s.level (s.sums,s.levels,s.some) (s.l.drop s.k.toNat)) (eu s)=(fun s:fP=>swp (gV s) s.bI s.fA s.bf s.most s.level (s.sums,s.levels,s.some) (s.l.drop s.k.toNat)) s:=by
 exact bT.uN VR Vz (fun s:fP=>swp (gV s) s.bI s.fA s.bf s.most s.level (s.sums,s.levels,s.some) (s.l.drop s.k.toNat)) (fun s hI=>by
  show bQ _ _ (aaF s)
  unfold aaF QC
  dsimp only [T.rd,T.rl]
  refine ax (fun c1=>?_) (fun c1=>?_)
  ·refine ax (fun c2=>?_) (fun c2=>?_)
   ·have c1:s.k<s.m:=by simpa using c1
    have hn:¬(s.levels.getD (gi s.l s.k).toNat 0=s.level-1∧s.level≤xU s.fA (gi s.l s.k) (gi s.most (gi s.l s.k))):=fun h=>by
     obtain ⟨_,⟨h2,h3,h4,h5⟩,_⟩:=hI
     have c2:((s.levels.getD (gi s.l s.k).toNat 0) !=(IntKind.i64.wrap (s.level-1)))=true:=c2
     rw [aN (x:=s.level-1) (by omega) (by omega)] at c2
     have c2:¬s.levels.getD (gi s.l s.k).toNat 0=s.level-1:=by simpa using c2
     exact c2 h.1
    exact Fz s _ hI (by simpa using c1) (by unfold CJ;rw [if_neg hn]) rfl rfl rfl rfl rfl rfl rfl rfl rfl rfl
   ·refine ax (fun c3=>?_) (fun c3=>?_)
    ·have c1:s.k<s.m:=by simpa using c1
     have hn:¬(s.levels.getD (gi s.l s.k).toNat 0=s.level-1∧s.level≤xU s.fA (gi s.l s.k) (gi s.most (gi s.l s.k))):=fun h=>by
      obtain ⟨_,_,h6,_⟩:=hI
      simp only [decide_eq_true_eq] at c3
      rw [←h6] at c3
      have:=h.2
      unfold xU at this
      omega
     exact Fz s _ hI (by simpa using c1) (by unfold CJ;rw [if_neg hn]) rfl rfl rfl rfl rfl rfl rfl rfl rfl rfl
    ·refine ax (fun c4=>?_) (fun c4=>?_)
     ·refine ax (fun c5=>?_) (fun c5=>?_)
      ·refine ax (fun c6=>?_) (fun c6=>?_)
       ·cases c6
       ·have c1:s.k<s.m:=by simpa using c1
        have c2:=su hI c2
        have hp:s.levels.getD (gi s.l s.k).toNat 0=s.level-1∧s.level≤xU s.fA (gi s.l s.k) (gi s.most (gi s.l s.k)):=by
         refine ⟨c2,?_⟩
         have h6:=hI.2.2.1
         simp only [decide_eq_false_iff_not] at c3
         rw [←h6] at c3
         unfold xU
         omega
        have hE:=tV hI c1 c2
        obtain ⟨m1,m2,_⟩:=kK hI c1 c2
        rcases qY _ hE with ⟨q1,q2⟩ |⟨q1,q2,q3⟩
        ·rw [q1] at c4
         cases c4
        ·rw [m1] at q3
         have q3:((gV s).getD (gi s.l s.k).toNat []).all (zZ s.bI s.sums (KC s.fA s.bf (gi s.l s.k) s.level))=false:=q3
         exact Fz s _ hI (by simpa using c1) (by unfold CJ;rw [if_pos hp,if_neg (by rw [q3];simp)]) rfl rfl rfl rfl rfl rfl rfl rfl rfl rfl
      ·refine ax (fun c6=>?_) (fun c6=>?_)
       ·have c1:s.k<s.m:=by simpa using c1
        have c2:=su hI c2
        have hp:s.levels.getD (gi s.l s.k).toNat 0=s.level-1∧s.level≤xU s.fA (gi s.l s.k) (gi s.most (gi s.l s.k)):=by
         refine ⟨c2,?_⟩
         have h6:=hI.2.2.1
         simp only [decide_eq_false_iff_not] at c3
         rw [←h6] at c3
         unfold xU
         omega
        have hE:=tV hI c1 c2
        obtain ⟨m1,m2,_⟩:=kK hI c1 c2
        rcases qY _ hE with ⟨q1,q2⟩ |⟨q1,q2,q3⟩
        ·rw [q1] at c4
         cases c4
        ·rw [q2] at c5
         cases c5
       ·have c1:s.k<s.m:=by simpa using c1
        have c2:=su hI c2
        have hp:s.levels.getD (gi s.l s.k).toNat 0=s.level-1∧s.level≤xU s.fA (gi s.l s.k) (gi s.most (gi s.l s.k)):=by
         refine ⟨c2,?_⟩
         have h6:=hI.2.2.1
         simp only [decide_eq_false_iff_not] at c3
         rw [←h6] at c3
         unfold xU
         omega
        have hE:=tV hI c1 c2
        obtain ⟨m1,m2,_⟩:=kK hI c1 c2
        rcases qY _ hE with ⟨q1,q2⟩ |⟨q1,q2,q3⟩
        ·rw [q1] at c4
         cases c4
        ·rw [q2] at c5
         cases c5
     ·refine ax (fun c5=>?_) (fun c5=>?_)
      ·refine ax (fun c6=>?_) (fun c6=>?_)
       ·cases c5
       ·cases c5
      ·refine ax (fun c6=>?_) (fun c6=>?_)
       ·have c1:s.k<s.m:=by simpa using c1
        have c2:=su hI c2
        have hp:s.levels.getD (gi s.l s.k).toNat 0=s.level-1∧s.level≤xU s.fA (gi s.l s.k) (gi s.most (gi s.l s.k)):=by
         refine ⟨c2,?_⟩
         have h6:=hI.2.2.1
         simp only [decide_eq_false_iff_not] at c3
         rw [←h6] at c3
         unfold xU
         omega
        have hE:=tV hI c1 c2
        obtain ⟨m1,m2,_⟩:=kK hI c1 c2
        have hR:=NJ hI c1 c2
        rcases qY _ hE with ⟨q1,q2⟩ |⟨q1,q2,q3⟩
        ·rw [m1] at q2
         have q2:((gV s).getD (gi s.l s.k).toNat []).all (zZ s.bI s.sums (KC s.fA s.bf (gi s.l s.k) s.level))=true:=q2
         have r1:=aeM _ hR
         rw [m2] at r1
         have r1:(kF (lY s)).sums=yQ s.sums (KC s.fA s.bf (gi s.l s.k) s.level) ((gV s).getD (gi s.l s.k).toNat []):=r1
         have w1:=(Rj hI c2).1
         exact Fz s _ hI (by simpa using c1) (by unfold CJ;rw [if_pos hp,if_pos q2,←r1,←w1]) rfl rfl rfl rfl rfl rfl rfl rfl rfl rfl
        ·rw [q1] at c4
         cases c4
       ·cases c6
  ·rfl) s hE
theorem alI (s:fP) (hE:Nk s):((eu s).sums,(eu s).levels,(eu s).some)=swp (gV s) s.bI s.fA s.bf s.most s.level (s.sums,s.levels,s.some) s.l:=by
 have q3:=aeE s hE
 obtain ⟨s',hI,q1,q2⟩:=alJ s hE
 obtain ⟨h0,h1,_⟩:=hE
 simp only at q3
 rw [q2,show (eu s).m=s.m from rfl,show (eu s).l=s.l from rfl,List.drop_eq_nil_of_le (by omega),h0] at q3
 exact q3
end Go.Proofs.YtlihnbimgclogaaGreatDoor
namespace Go.Proofs.YtlihnbimgclogaaGreatDoor
open Go.Sx
structure lH where
 most:List Int
 order:List Int
 n:Int
 level:Int
 ak:List Cd
 aC:List ByteArray
 aj:List Ko
 au:List Ch
 aK:List Ba
 yu:List Cd
 yj:List ByteArray
 yt:List Ko
 fA:List Ch
 yw:List Ba
 bI:List Rw
 jr:List Int
 jq:List Int
 jo:List Int
 jm:List Int
 jl:List Int
 jk:List Int
 ji:List Int
 jh:List Int
 jg:List Int
 jf:List Int
 dN:List Int
 dM:List Int
 dL:List Int
 dK:List Int
 dJ:List Int
 dI:List Int
 bf:List Int
 sums:List Int
 levels:List Int
def aBn (s:lH):List LV:=[.xl (.int .i64) s.most,.xl (.int .i64) s.order,.own 0 0,.v (.int .i64 s.n),.own 1 0,.v (.int .i64 s.level)]
def aAq (s:lH):List aT:=[⟨[.xl dZ s.ak,.xl .str s.aC,.xl eP s.aj,.xl dR s.au,.xl eU s.aK],28,.cl,false⟩,⟨[.xl dZ s.yu,.xl .str s.yj,.xl eP s.yt,.xl dR s.fA,.xl eU s.yw,.xl Fp s.bI,.xl (.int .i64) s.jr,.xl (.int .i64) s.jq,.xl (.int .i64) s.jo,.xl (.int .i64) s.jm,.xl (.int .i64) s.jl,.xl (.int .i64) s.jk,.xl (.int .i64) s.ji,.xl (.int .i64) s.jh,.xl (.int .i64) s.jg,.xl (.int .i64) s.jf,.xl (.int .i64) s.dN,.xl (.int .i64) s.dM,.xl (.int .i64) s.dL,.xl (.int .i64) s.dK,.xl (.int .i64) s.dJ,.xl (.int .i64) s.dI,.os 2 1 0 (List.length s.sums),.xl (.int .i64) s.bf,.os 3 1 0 (List.length s.levels)],148,.cl,false⟩,⟨[],3,.vec (.int .i64) s.sums,false⟩,⟨[],3,.vec (.int .i64) s.levels,false⟩]
noncomputable def IG:Code:=((aG (Tryz.f52.body.getD .skip))[0]?).getD .skip
def gB (s:lH):fP:=(⟨s.most,s.order,s.n,s.level,false,s.order,(List.length s.order:Int),(0:Int),s.ak,s.aC,s.aj,s.au,s.aK,s.yu,s.yj,s.yt,s.fA,s.yw,s.bI,s.jr,s.jq,s.jo,s.jm,s.jl,s.jk,s.ji,s.jh,s.jg,s.jf,s.dN,s.dM,s.dL,s.dK,s.dJ,s.dI,s.bf,s.sums,s.levels⟩:fP)
def QB (s:lH):T (Rd lH):=
 .rl s.sums (.rl s.levels (.req (awo (gB s)) (.br (!(eu (gB s)).some) (.rl (eu (gB s)).sums (.rl (eu (gB s)).levels (.ok (.stop (.exit 0) {s with sums:=(eu (gB s)).sums,levels:=(eu (gB s)).levels})))) (.rl (eu (gB s)).sums (.rl (eu (gB s)).levels (.ok (.next {s with level:=(IntKind.i64.wrap (s.level+1)),sums:=(eu (gB s)).sums,levels:=(eu (gB s)).levels})))))))
abbrev aaE (s:lH):=(QB s).rd s
def sV (s:lH):List (List Int):=[s.jr,s.jq,s.jo,s.jm,s.jl,s.jk,s.ji,s.jh,s.jg,s.jf,s.dN,s.dM,s.dL,s.dK,s.dJ,s.dI]
def acQ (s:lH):Prop:=s.level=1∧(s.order.length:Int)≤1000∧s.fA=s.au∧OkT (sV s) s.bI s.fA s.bf s.most s.order∧OkS s.bI s.order s.sums s.levels
def Jd (s:lH):Prop:=(1≤s.level∧s.level≤81)∧(s.order.length:Int)≤1000∧s.fA=s.au∧OkT (sV s) s.bI s.fA s.bf s.most s.order∧OkS s.bI s.order s.sums s.levels
def Oe (s:lH):Nat:=(82-s.level).toNat
def arb (x:Ex) (_ _:lH):Prop:=x=.exit 0
theorem axV:∀s,acQ s→Jd s:=by
 intro s h
 obtain ⟨h0,h1⟩:=h
 exact ⟨by omega,h1⟩
theorem aeB (s:lH) (hI:Jd s):Nk (gB s):=by
 obtain ⟨⟨h0,h1⟩,h2,h3,hT,hS⟩:=hI
 exact ⟨rfl,⟨rfl,h2,h0,h1⟩,h3,hT,hS⟩
theorem apm (s:lH) (hI:Jd s):((eu (gB s)).sums,(eu (gB s)).levels,(eu (gB s)).some)=swp (sV s) s.bI s.fA s.bf s.most s.level (s.sums,s.levels,false) s.order:=alI _ (aeB s hI)
theorem asG (s:lH) (hI:Jd s):bQ (fun s'=>Jd s'∧Oe s'<Oe s) (fun x s'=>arb x s s') (aaE s):=by
 unfold aaE QB
 dsimp only [T.rd,T.rl]
 have hr:=apm s hI
 obtain ⟨⟨h0,h1⟩,h2,h3,hT,hS⟩:=hI
 refine ax (fun c1=>rfl) (fun c1=>?_)
 have c1:(eu (gB s)).some=true:=by simpa using c1
 have hk:=Vj hT h0 h1 s.order (s.sums,s.levels,false) (fun _ h=>h) hS
 have hs:=y9 (O:=sV s) (rows:=s.bI) (gs:=s.fA) (alive:=s.bf) (most:=s.most) (level:=s.level) s.order (s.sums,s.levels,false)
 rw [←hr] at hk hs
 have h80:s.level≤80:=by
  rcases hs c1 with h|h
  ·cases h
  ·exact h
 rw [aN (x:=s.level+1) (by omega) (by omega)]
 exact ⟨⟨⟨by simp only;omega,by simp only;omega⟩,h2,h3,hT,hk⟩,by simp only [Oe];omega⟩
def Jw:bT lH:=⟨0,129,[2,3,4,12,14,15],[.ps 14 6 (.int .i64),.ps 14 7 (.int .i64),.ps 14 8 (.int .i64),.ps 14 9 (.int .i64),.ps 14 10 (.int .i64),.ps 14 11 (.int .i64),.ps 14 12 (.int .i64),.ps 14 13 (.int .i64),.ps 14 14 (.int .i64),.ps 14 15 (.int .i64),.ps 14 16 (.int .i64),.ps 14 17 (.int .i64),.ps 14 18 (.int .i64),.ps 14 19 (.int .i64),.ps 14 20 (.int .i64),.ps 14 21 (.int .i64)],aBn,aAq,fun v b=>⟨aS (.int .i64) (v.getD 0 .junk),aS (.int .i64) (v.getD 1 .junk),gI (v.getD 3 .junk),gI (v.getD 5 .junk),aS dZ (aZ (aP b 0) 0),aS .str (aZ (aP b 0) 1),aS eP (aZ (aP b 0) 2),aS dR (aZ (aP b 0) 3),aS eU (aZ (aP b 0) 4),aS dZ (aZ (aP b 1) 0),aS .str (aZ (aP b 1) 1),aS eP (aZ (aP b 1) 2),aS dR (aZ (aP b 1) 3),aS eU (aZ (aP b 1) 4),aS Fp (aZ (aP b 1) 5),aS (.int .i64) (aZ (aP b 1) 6),aS (.int .i64) (aZ (aP b 1) 7),aS (.int .i64) (aZ (aP b 1) 8),aS (.int .i64) (aZ (aP b 1) 9),aS (.int .i64) (aZ (aP b 1) 10),aS (.int .i64) (aZ (aP b 1) 11),aS (.int .i64) (aZ (aP b 1) 12),aS (.int .i64) (aZ (aP b 1) 13),aS (.int .i64) (aZ (aP b 1) 14),aS (.int .i64) (aZ (aP b 1) 15),aS (.int .i64) (aZ (aP b 1) 16),aS (.int .i64) (aZ (aP b 1) 17),aS (.int .i64) (aZ (aP b 1) 18),aS (.int .i64) (aZ (aP b 1) 19),aS (.int .i64) (aZ (aP b 1) 20),aS (.int .i64) (aZ (aP b 1) 21),aS (.int .i64) (aZ (aP b 1) 23),jy (.int .i64) (aP b 2),jy (.int .i64) (aP b 3)⟩,QB,fun s r=> {r with most:=s.most,order:=s.order,n:=s.n,ak:=s.ak,aC:=s.aC,aj:=s.aj,au:=s.au,aK:=s.aK,yu:=s.yu,yj:=s.yj,yt:=s.yt,fA:=s.fA,yw:=s.yw,bI:=s.bI,jr:=s.jr,jq:=s.jq,jo:=s.jo,jm:=s.jm,jl:=s.jl,jk:=s.jk,ji:=s.ji,jh:=s.jh,jg:=s.jg,jf:=s.jf,dN:=s.dN,dM:=s.dM,dL:=s.dL,dK:=s.dK,dJ:=s.dJ,dI:=s.dI,bf:=s.bf},fun s=>s,fun _ s=>s,[.exit 0],acQ,Jd,Oe⟩
abbrev iL:=Jw.run
abbrev Qj:=Jw.q
theorem as1 (s:lH) (hI:Jd s):(QB s).all (fun _=>True):=by
 refine ⟨⟨rfl,rfl⟩,⟨rfl,rfl⟩,?_,fun c1=>⟨⟨rfl,rfl⟩,⟨rfl,rfl⟩,trivial⟩,fun c1=>⟨⟨rfl,rfl⟩,⟨rfl,rfl⟩,trivial⟩⟩
 ·exact ⟨aeB s hI,rfl,rfl⟩
noncomputable def SS:Specs:=bg [(24,nR),(61,qw),(94,qp),(96,qo)]
theorem aat:∀g S,SS g=some S→Valid Tryz.prog aQ g S:=aU (l:=[(24,nR),(61,qw),(94,qp),(96,qo)]) ⟨Cf,Gg,Gf,F9,trivial⟩
noncomputable def ahI:Hand:=inl Tryz.prog aQ SS (kH 97 4 8 (Ql.lp) (kH 93 7 2 (yg.lp) (kH 95 1 3 (wH.lp) (kH 93 1 2 (uQ.lp) (lX Tryz.prog aQ (SS) 20 2))))) 9
theorem apQ:dF Tryz.prog aQ ahI:=bU aat (dO Tryz.func97 rfl (by kernel_rfl) Vl (dO Tryz.func93 rfl (by kernel_rfl) Fq (dO Tryz.func95 rfl (by kernel_rfl) zf (dO Tryz.func93 rfl (by kernel_rfl) wJ (dS aat))))) 9
theorem af6:Jw.Ok:=⟨fun s=>by kernel_rfl,fun s=>by kernel_rfl,fun s=>rfl,fun s t r=>rfl,fun s=>rfl,fun s=>by kernel_rfl⟩
theorem ae5:Jw.Pf (arb):=⟨axV,fun _ _=>rfl,asG,as1⟩
theorem akS:bC Tryz.prog aQ (AN 0) (.loop IG) Jw.lp:=bT.snd af6 ae5 (aV (Γ:=SS) (K:=ahI) (L:=(fun i=>if i=13 then Jy.lp else aF i)) aat apQ IG (fun b hb=>by
 rw [show aG _=[Aq] by kernel_rfl] at hb
 simp only [List.mem_cons,List.not_mem_nil,or_false] at hb
 subst hb
 exact akT)) (fun s=>by kernel_rfl)
theorem alH (s:lH) (hE:acQ s):(iL s).levels=shl (sV s) s.bI s.fA s.bf s.most s.order 81 1 s.sums s.levels:=by
 have hk:=bT.xO af6 ae5 (V:=fun s:lH=>shl (sV s) s.bI s.fA s.bf s.most s.order (82-s.level).toNat s.level s.sums s.levels) (K:=fun _ s' v=>s'.levels=v) (fun s hI=>by
  have hr:=apm s hI
  have hs:=y9 (O:=sV s) (rows:=s.bI) (gs:=s.fA) (alive:=s.bf) (most:=s.most) (level:=s.level) s.order (s.sums,s.levels,false)
  obtain ⟨⟨h0,h1⟩,h2,h3,hT,hS⟩:=hI
  rw [←hr] at hs
  have hf:(82-s.level).toNat=(81-s.level).toNat+1:=by omega
  show bQ _ _ (aaE s)
  unfold aaE QB
  dsimp only [T.rd,T.rl]
  refine ax (fun c1=>?_) (fun c1=>?_)
  ·have c1:(eu (gB s)).some=false:=by simpa using c1
   show (eu (gB s)).levels=shl _ _ _ _ _ _ _ _ _ _
   rw [hf,shl,←hr,if_neg (by simp only [c1];simp)]
  ·have c1:(eu (gB s)).some=true:=by simpa using c1
   have h80:s.level≤80:=by
    rcases hs c1 with h|h
    ·cases h
    ·exact h
   rw [aN (x:=s.level+1) (by omega) (by omega)]
   show shl (sV s) s.bI s.fA s.bf s.most s.order (82-(s.level+1)).toNat (s.level+1) (eu (gB s)).sums (eu (gB s)).levels=shl (sV s) s.bI s.fA s.bf s.most s.order (82-s.level).toNat s.level s.sums s.levels
   rw [hf,show 82-(s.level+1)=81-s.level by omega]
   conv=>rhs;rw [shl,←hr]
   simp only [c1,if_true]) s hE
 rw [hk,hE.1]
 rfl
structure qx where
 l:List Ch
 m:Int
 k:Int
 yu:List Cd
 yj:List ByteArray
 yt:List Ko
 fA:List Ch
 yw:List Ba
 bI:List Rw
 jr:List Int
 jq:List Int
 jo:List Int
 jm:List Int
 jl:List Int
 jk:List Int
 ji:List Int
 jh:List Int
 jg:List Int
 jf:List Int
 dN:List Int
 dM:List Int
 dL:List Int
 dK:List Int
 dJ:List Int
 dI:List Int
 bf:List Int
 out:List Int
 sums:List Int
 levels:List Int
def aBm (s:qx):List LV:=[.own 0 0,.os 1 1 0 (List.length s.out),.xl dR s.l,.v (.int .i64 s.m),.v (.int .i64 s.k)]
def aAp (s:qx):List aT:=[⟨[.xl dZ s.yu,.xl .str s.yj,.xl eP s.yt,.xl dR s.fA,.xl eU s.yw,.xl Fp s.bI,.xl (.int .i64) s.jr,.xl (.int .i64) s.jq,.xl (.int .i64) s.jo,.xl (.int .i64) s.jm,.xl (.int .i64) s.jl,.xl (.int .i64) s.jk,.xl (.int .i64) s.ji,.xl (.int .i64) s.jh,.xl (.int .i64) s.jg,.xl (.int .i64) s.jf,.xl (.int .i64) s.dN,.xl (.int .i64) s.dM,.xl (.int .i64) s.dL,.xl (.int .i64) s.dK,.xl (.int .i64) s.dJ,.xl (.int .i64) s.dI,.os 2 1 0 (List.length s.sums),.xl (.int .i64) s.bf,.os 3 1 0 (List.length s.levels)],148,.cl,false⟩,⟨[],3,.vec (.int .i64) s.out,false⟩,⟨[],3,.vec (.int .i64) s.sums,false⟩,⟨[],3,.vec (.int .i64) s.levels,false⟩]
noncomputable def Ap:Code:=((aG (Tryz.f52.body.getD .skip))[1]?).getD .skip
def YO (s:qx):T (Rd qx):=
 .br (decide (s.k<s.m)) (.req (0≤s.k∧s.k<(List.length s.l:Int)) (.req (0≤s.k∧s.k<((List.length s.levels:Nat):Int)) (.req (s.k.toNat<List.length s.levels) (.req ((1≤(bF s.l s.k).2.2.2.1∧(bF s.l s.k).2.2.2.1≤80∧1≤(bF s.l s.k).2.2.2.2.2.1∧(bF s.l s.k).2.2.2.2.2.1≤80)∧0≤(s.levels.getD s.k.toNat (Ty.dflt (.int .i64)))∧(s.levels.getD s.k.toNat (Ty.dflt (.int .i64)))≤1000) (.req (0≤s.k∧s.k<((List.length s.out:Nat):Int)) (.req (s.k.toNat<List.length s.out) (.req (0=0∧(List.length s.out)=List.length (s.out.set s.k.toNat (Ce (bF s.l s.k).2.2.2.1 (bF s.l s.k).2.2.2.2.2.1 (s.levels.getD s.k.toNat (Ty.dflt (.int .i64)))))) (.rl s.sums (.rl s.levels (.ok (.next {s with k:=(IntKind.i64.wrap (s.k+1)),out:=(s.out.set s.k.toNat (Ce (bF s.l s.k).2.2.2.1 (bF s.l s.k).2.2.2.2.2.1 (s.levels.getD s.k.toNat (Ty.dflt (.int .i64)))))}))))))))))) (.rl s.out (.rl s.sums (.rl s.levels (.ok (.stop (.exit 4) s)))))
abbrev aqF (s:qx):=(YO s).rd s
def acP (s:qx):Prop:=s.k=0∧s.out=List.replicate s.l.length 0∧(s.m=(s.l.length:Int)∧s.m≤1000∧s.levels.length=s.l.length)∧(∀k:Int,0≤k→k<s.m→mG (bF s.l k).2.2.2.1 (bF s.l k).2.2.2.2.1 (bF s.l k).2.2.2.2.2.1=true)∧(∀k:Nat,0≤s.levels.getD k 0∧s.levels.getD k 0≤80)
def LU (s:qx):Prop:=(0≤s.k∧s.k≤s.m)∧s.out=Xt s.l s.levels s.k.toNat++List.replicate (s.l.length-s.k.toNat) 0∧(s.m=(s.l.length:Int)∧s.m≤1000∧s.levels.length=s.l.length)∧(∀k:Int,0≤k→k<s.m→mG (bF s.l k).2.2.2.1 (bF s.l k).2.2.2.2.1 (bF s.l k).2.2.2.2.2.1=true)∧(∀k:Nat,0≤s.levels.getD k 0∧s.levels.getD k 0≤80)
def Oc (s:qx):Nat:=(s.m-s.k).toNat
def ajl (x:Ex) (_ s':qx):Prop:=x=.exit 4∧s'.out=ni s'.l s'.levels
theorem axU:∀s,acP s→LU s:=by
 intro s h
 obtain ⟨h0,h1,h2⟩:=h
 exact ⟨by have:=h2.1;omega,by rw [h0,h1];rfl,h2⟩
theorem asF (s:qx) (hI:LU s):bQ (fun s'=>LU s'∧Oc s'<Oc s) (fun x s'=>ajl x s s') (aqF s):=by
 unfold aqF YO
 dsimp only [T.rd,T.rl]
 obtain ⟨⟨h0,h1⟩,h2,⟨h3,h4,h5⟩,h6,h7⟩:=hI
 refine ax (fun c1=>?_) (fun c1=>?_)
 ·have c1:s.k<s.m:=by simpa using c1
  rw [aN (x:=s.k+1) (by omega) (by omega)]
  refine ⟨⟨⟨by simp only;omega,by simp only;omega⟩,?_,⟨h3,h4,h5⟩,h6,h7⟩,by simp only [Oc];omega⟩
  simp only
  have e:s.l.length-s.k.toNat=(s.l.length-(s.k+1).toNat)+1:=by omega
  have hs:=Zr (xs:=Xt s.l s.levels s.k.toNat) (r:=s.l.length-(s.k+1).toNat) (v:=xH s.l s.k (s.levels.getD s.k.toNat 0))
  rw [vY] at hs
  rw [h2,e,show (s.k+1).toNat=s.k.toNat+1 by omega,adT,Int.toNat_of_nonneg h0]
  rw [show (s.k+1).toNat=s.k.toNat+1 by omega] at hs
  exact hs
 ·have c1:s.m≤s.k:=by simpa using c1
  refine ⟨rfl,?_⟩
  rw [h2,show s.k.toNat=s.l.length by omega,Nat.sub_self,List.replicate_zero,List.append_nil]
  rfl
def Ej:bT qx:=⟨0,129,[14,19,108,109,110],[],aBm,aAp,fun v b=>⟨aS dR (v.getD 2 .junk),gI (v.getD 3 .junk),gI (v.getD 4 .junk),aS dZ (aZ (aP b 0) 0),aS .str (aZ (aP b 0) 1),aS eP (aZ (aP b 0) 2),aS dR (aZ (aP b 0) 3),aS eU (aZ (aP b 0) 4),aS Fp (aZ (aP b 0) 5),aS (.int .i64) (aZ (aP b 0) 6),aS (.int .i64) (aZ (aP b 0) 7),aS (.int .i64) (aZ (aP b 0) 8),aS (.int .i64) (aZ (aP b 0) 9),aS (.int .i64) (aZ (aP b 0) 10),aS (.int .i64) (aZ (aP b 0) 11),aS (.int .i64) (aZ (aP b 0) 12),aS (.int .i64) (aZ (aP b 0) 13),aS (.int .i64) (aZ (aP b 0) 14),aS (.int .i64) (aZ (aP b 0) 15),aS (.int .i64) (aZ (aP b 0) 16),aS (.int .i64) (aZ (aP b 0) 17),aS (.int .i64) (aZ (aP b 0) 18),aS (.int .i64) (aZ (aP b 0) 19),aS (.int .i64) (aZ (aP b 0) 20),aS (.int .i64) (aZ (aP b 0) 21),aS (.int .i64) (aZ (aP b 0) 23),jy (.int .i64) (aP b 1),jy (.int .i64) (aP b 2),jy (.int .i64) (aP b 3)⟩,YO,fun s r=> {r with l:=s.l,m:=s.m,yu:=s.yu,yj:=s.yj,yt:=s.yt,fA:=s.fA,yw:=s.yw,bI:=s.bI,jr:=s.jr,jq:=s.jq,jo:=s.jo,jm:=s.jm,jl:=s.jl,jk:=s.jk,ji:=s.ji,jh:=s.jh,jg:=s.jg,jf:=s.jf,dN:=s.dN,dM:=s.dM,dL:=s.dL,dK:=s.dK,dJ:=s.dJ,dI:=s.dI,bf:=s.bf,sums:=s.sums,levels:=s.levels},fun s=>s,fun _ s=>s,[.exit 4],acP,LU,Oc⟩
abbrev ig:=Ej.run
abbrev aoa:=Ej.kG
abbrev Qi:=Ej.q
theorem asZ (s:qx) (hI:LU s):(YO s).all (fun _=>True):=by
 refine ⟨fun c1=>⟨?_,?_,?_,?_,?_,?_,?_,⟨rfl,rfl⟩,⟨rfl,rfl⟩,trivial⟩,fun c1=>⟨⟨rfl,rfl⟩,⟨rfl,rfl⟩,⟨rfl,rfl⟩,trivial⟩⟩
 iterate 3 · (obtain ⟨⟨h0,h1⟩,h2,⟨h3,h4,h5⟩,h6,h7⟩:=hI;(try simp only [decide_eq_true_eq] at c1);have hl:s.out.length=s.l.length:=(by rw [h2,List.length_append,vY,List.length_replicate];omega);first|omega|exact ⟨rfl,by simp⟩ |exact ⟨rfl,rfl⟩)
 ·(have hh:=fK.1 (hI.2.2.2.1 s.k hI.1.1 (by simpa using c1));have hb:=hI.2.2.2.2 s.k.toNat;refine ⟨by omega,?_⟩;show 0≤s.levels.getD s.k.toNat 0∧s.levels.getD s.k.toNat 0≤1000;omega)
 iterate 3 · (obtain ⟨⟨h0,h1⟩,h2,⟨h3,h4,h5⟩,h6,h7⟩:=hI;(try simp only [decide_eq_true_eq] at c1);have hl:s.out.length=s.l.length:=(by rw [h2,List.length_append,vY,List.length_replicate];omega);first|omega|exact ⟨rfl,by simp⟩ |exact ⟨rfl,rfl⟩)
theorem af5:Ej.Ok:=⟨fun s=>by kernel_rfl,fun s=>by kernel_rfl,fun s=>rfl,fun s t r=>rfl,fun s=>rfl,fun s=>by kernel_rfl⟩
theorem ae4:Ej.Pf (ajl):=⟨axU,fun _ _=>rfl,asF,asZ⟩
theorem akR:bC Tryz.prog aQ (AN 0) (.loop Ap) Ej.lp:=bT.snd af5 ae4 (aV (Γ:=SS) (K:=ahI) (L:=aF) aat apQ Ap (fun b hb=>by rw [show aG Ap=[] by kernel_rfl] at hb;cases hb)) (fun s=>by kernel_rfl)
theorem alG (s:qx) (hE:acP s):∃s',LU s'∧ajl (aoa s) s' (ig s):=bT.fin af5 ae4 s hE
end Go.Proofs.YtlihnbimgclogaaGreatDoor
namespace Go.Proofs.YtlihnbimgclogaaGreatDoor
open Go.Sx
def abM:List LV→T LV
 | [.agg [.xl (.pair .str (.pair (.int .i64) (.pair (.int .i64) (.pair (.int .i64) (.pair (.pair (.int .i64) (.int .i64)) (.pair (.int .i64) (.pair (.int .i64) (.pair (.int .i64) (.pair (.int .i64) (.int .i64)))))))))) cs,.xl (.str) os,.xl (.pair .str (.pair (.int .i64) (.pair (.int .i64) (.int .i64)))) ks,.xl (.pair .str (.pair (.int .i64) (.pair (.int .i64) (.pair (.int .i64) (.pair (.int .i64) (.pair (.int .i64) (.pair (.int .i64) (.int .i64)))))))) gs,.xl (.pair .str (.int .i64)) bs],.xl (.int .i64) al,.xl (.int .i64) mo,.xl (.int .i64) od]=> .ok (.iG [.xl (.int .i64) (xK cs os ks gs bs al mo od),.v (.int .i64 (shE cs os ks gs bs al mo od))])
 |_=> .no
noncomputable def yS:List LV→T LV:=gZ Tryz.prog Tryz.f52.params.toList abM
def aA (cs:List Cd) (os:List ByteArray) (ks:List Ko) (gs:List Ch) (bs:List Ba) (al _ _:List Int):gW:=(⟨al,(iD cs os ks gs bs),(List.length (iD cs os ks gs bs):Int),(0:Int),cs,os,ks,gs,bs,cs,os,ks,gs,bs,(iD cs os ks gs bs),al,([]:List Int),([]:List Int),([]:List Int),([]:List Int),([]:List Int),([]:List Int),([]:List Int),([]:List Int),([]:List Int),([]:List Int),([]:List Int),([]:List Int),([]:List Int),([]:List Int),([]:List Int),([]:List Int),(List.replicate (List.length (iD cs os ks gs bs):Int).toNat (0:Int)),(List.replicate (List.length al:Int).toNat (0:Int))⟩:gW)
def fB (cs:List Cd) (os:List ByteArray) (ks:List Ko) (gs:List Ch) (bs:List Ba) (al mo od:List Int):lH:=(⟨mo,od,(List.length gs:Int),(1:Int),cs,os,ks,gs,bs,cs,os,ks,gs,bs,(iD cs os ks gs bs),(((ay (aA cs os ks gs bs al mo od)).jr.drop 0).take (List.length (ay (aA cs os ks gs bs al mo od)).jr)),(((ay (aA cs os ks gs bs al mo od)).jq.drop 0).take (List.length (ay (aA cs os ks gs bs al mo od)).jq)),(((ay (aA cs os ks gs bs al mo od)).jo.drop 0).take (List.length (ay (aA cs os ks gs bs al mo od)).jo)),(((ay (aA cs os ks gs bs al mo od)).jm.drop 0).take (List.length (ay (aA cs os ks gs bs al mo od)).jm)),(((ay (aA cs os ks gs bs al mo od)).jl.drop 0).take (List.length (ay (aA cs os ks gs bs al mo od)).jl)),(((ay (aA cs os ks gs bs al mo od)).jk.drop 0).take (List.length (ay (aA cs os ks gs bs al mo od)).jk)),(((ay (aA cs os ks gs bs al mo od)).ji.drop 0).take (List.length (ay (aA cs os ks gs bs al mo od)).ji)),(((ay (aA cs os ks gs bs al mo od)).jh.drop 0).take (List.length (ay (aA cs os ks gs bs al mo od)).jh)),(((ay (aA cs os ks gs bs al mo od)).jg.drop 0).take (List.length (ay (aA cs os ks gs bs al mo od)).jg)),(((ay (aA cs os ks gs bs al mo od)).jf.drop 0).take (List.length (ay (aA cs os ks gs bs al mo od)).jf)),(((ay (aA cs os ks gs bs al mo od)).dN.drop 0).take (List.length (ay (aA cs os ks gs bs al mo od)).dN)),(((ay (aA cs os ks gs bs al mo od)).dM.drop 0).take (List.length (ay (aA cs os ks gs bs al mo od)).dM)),(((ay (aA cs os ks gs bs al mo od)).dL.drop 0).take (List.length (ay (aA cs os ks gs bs al mo od)).dL)),(((ay (aA cs os ks gs bs al mo od)).dK.drop 0).take (List.length (ay (aA cs os ks gs bs al mo od)).dK)),(((ay (aA cs os ks gs bs al mo od)).dJ.drop 0).take (List.length (ay (aA cs os ks gs bs al mo od)).dJ)),(((ay (aA cs os ks gs bs al mo od)).dI.drop 0).take (List.length (ay (aA cs os ks gs bs al mo od)).dI)),al,(ay (aA cs os ks gs bs al mo od)).sums,(List.replicate (List.length al:Int).toNat (0:Int))⟩:lH)
def fU (cs:List Cd) (os:List ByteArray) (ks:List Ko) (gs:List Ch) (bs:List Ba) (al mo od:List Int):qx:=(⟨gs,(List.length gs:Int),(0:Int),cs,os,ks,gs,bs,(iD cs os ks gs bs),(((ay (aA cs os ks gs bs al mo od)).jr.drop 0).take (List.length (ay (aA cs os ks gs bs al mo od)).jr)),(((ay (aA cs os ks gs bs al mo od)).jq.drop 0).take (List.length (ay (aA cs os ks gs bs al mo od)).jq)),(((ay (aA cs os ks gs bs al mo od)).jo.drop 0).take (List.length (ay (aA cs os ks gs bs al mo od)).jo)),(((ay (aA cs os ks gs bs al mo od)).jm.drop 0).take (List.length (ay (aA cs os ks gs bs al mo od)).jm)),(((ay (aA cs os ks gs bs al mo od)).jl.drop 0).take (List.length (ay (aA cs os ks gs bs al mo od)).jl)),(((ay (aA cs os ks gs bs al mo od)).jk.drop 0).take (List.length (ay (aA cs os ks gs bs al mo od)).jk)),(((ay (aA cs os ks gs bs al mo od)).ji.drop 0).take (List.length (ay (aA cs os ks gs bs al mo od)).ji)),(((ay (aA cs os ks gs bs al mo od)).jh.drop 0).take (List.length (ay (aA cs os ks gs bs al mo od)).jh)),(((ay (aA cs os ks gs bs al mo od)).jg.drop 0).take (List.length (ay (aA cs os ks gs bs al mo od)).jg)),(((ay (aA cs os ks gs bs al mo od)).jf.drop 0).take (List.length (ay (aA cs os ks gs bs al mo od)).jf)),(((ay (aA cs os ks gs bs al mo od)).dN.drop 0).take (List.length (ay (aA cs os ks gs bs al mo od)).dN)),(((ay (aA cs os ks gs bs al mo od)).dM.drop 0).take (List.length (ay (aA cs os ks gs bs al mo od)).dM)),(((ay (aA cs os ks gs bs al mo od)).dL.drop 0).take (List.length (ay (aA cs os ks gs bs al mo od)).dL)),(((ay (aA cs os ks gs bs al mo od)).dK.drop 0).take (List.length (ay (aA cs os ks gs bs al mo od)).dK)),(((ay (aA cs os ks gs bs al mo od)).dJ.drop 0).take (List.length (ay (aA cs os ks gs bs al mo od)).dJ)),(((ay (aA cs os ks gs bs al mo od)).dI.drop 0).take (List.length (ay (aA cs os ks gs bs al mo od)).dI)),al,(List.replicate (List.length gs:Int).toNat (0:Int)),(iL (fB cs os ks gs bs al mo od)).sums,(iL (fB cs os ks gs bs al mo od)).levels⟩:qx)
noncomputable def aax:Specs:=bg [(24,nR),(61,qw),(94,qp),(96,qo)]
theorem ahS:∀g S,aax g=some S→Valid Tryz.prog aQ g S:=aU (l:=[(24,nR),(61,qw),(94,qp),(96,qo)]) ⟨Cf,Gg,Gf,F9,trivial⟩
noncomputable def ap1:Hand:=inl Tryz.prog aQ aax (kH 97 4 8 (Ql.lp) (kH 93 7 2 (yg.lp) (kH 95 1 3 (wH.lp) (kH 93 1 2 (uQ.lp) (lX Tryz.prog aQ (aax) 20 2))))) 9
theorem azb:dF Tryz.prog aQ ap1:=bU ahS (dO Tryz.func97 rfl (by kernel_rfl) Vl (dO Tryz.func93 rfl (by kernel_rfl) Fq (dO Tryz.func95 rfl (by kernel_rfl) zf (dO Tryz.func93 rfl (by kernel_rfl) wJ (dS ahS))))) 9
end Go.Proofs.YtlihnbimgclogaaGreatDoor
