/- ControlLeases returns true for all arguments: the new leases have increasing numbers, each charger gets at most one, and they can be granted after earlier ones as far as there is room. Conditions: none; the table ramp.happens holds what its text says. -/
import Derived.Test.YtlihnbimgclogaaGreatDoorQf3
namespace Go.Proofs.YtlihnbimgclogaaGreatDoor
open Go.Sx
theorem ard:Valid Tryz.prog aP 98 Xi:=aH Tryz.func98 rfl J8 aG (L:=(fun i=>if i=3 then En.lp else if i=8 then Em.lp else if i=13 then Ej.lp else if i=18 then Ei.lp else if i=23 then Eh.lp else aC i)) (fun b hb=>by
 rw [show aF _=[AB,AA,Az,Aw,Au] by kernel_rfl] at hb
 simp only [List.mem_cons,List.not_mem_nil,or_false] at hb
 rcases hb with rfl|rfl|rfl|rfl|rfl
 ·exact akG
 ·exact akF
 ·exact akE
 ·exact akD
 ·exact akC) (fun args lv h=>by
 unfold abj at h
 split at h
 ·simp only [canL,canX]
  rw [amq]
  rename_i cs os ks gs bs
  obtain ⟨⟨hc,ho,hk,hg,hb⟩,rfl⟩:=h
  have hE0:Ug ⟨cs,(List.length cs:Int),(0:Int),cs,os,ks,gs,bs,([]:List ByteArray)⟩:=⟨rfl,rfl,hc,by simp only;decide⟩
  have o0:=alV _ hE0
  refine ⟨⟨rfl,rfl⟩,⟨hE0,rfl,rfl⟩,?_⟩
  generalize (gG ⟨cs,(List.length cs:Int),(0:Int),cs,os,ks,gs,bs,([]:List ByteArray)⟩).out=r0 at*
  have o0:r0=([]:List ByteArray)++cs.map (·.1):=o0
  have l0:(List.length r0:Int)≤1000:=by rw [o0];simp only [List.length_append,List.length_map,List.length_nil];omega
  have hE1:Uf ⟨os,(List.length os:Int),(0:Int),cs,os,ks,gs,bs,r0⟩:=⟨rfl,rfl,ho,by simp only;omega⟩
  have o1:=alT _ hE1
  refine ⟨⟨rfl,rfl⟩,⟨hE1,rfl,rfl⟩,?_⟩
  generalize (iw ⟨os,(List.length os:Int),(0:Int),cs,os,ks,gs,bs,r0⟩).out=r1 at*
  have o1:r1=r0++os:=o1
  have l1:(List.length r1:Int)≤2000:=by rw [o1];simp only [List.length_append];omega
  have hE2:Ue ⟨ks,(List.length ks:Int),(0:Int),cs,os,ks,gs,bs,r1⟩:=⟨rfl,rfl,hk,by simp only;omega⟩
  have o2:=alR _ hE2
  refine ⟨⟨rfl,rfl⟩,⟨hE2,rfl,rfl⟩,?_⟩
  generalize (iU ⟨ks,(List.length ks:Int),(0:Int),cs,os,ks,gs,bs,r1⟩).out=r2 at*
  have o2:r2=r1++ks.map (·.1):=o2
  have l2:(List.length r2:Int)≤3000:=by rw [o2];simp only [List.length_append,List.length_map];omega
  have hE3:Ud ⟨gs,(List.length gs:Int),(0:Int),cs,os,ks,gs,bs,r2⟩:=⟨rfl,rfl,hg,by simp only;omega⟩
  have o3:=alP _ hE3
  refine ⟨⟨rfl,rfl⟩,⟨hE3,rfl,rfl⟩,?_⟩
  generalize (jO ⟨gs,(List.length gs:Int),(0:Int),cs,os,ks,gs,bs,r2⟩).out=r3 at*
  have o3:r3=r2++gs.map (·.1):=o3
  have l3:(List.length r3:Int)≤4000:=by rw [o3];simp only [List.length_append,List.length_map];omega
  have hE4:Uc ⟨bs,(List.length bs:Int),(0:Int),r3⟩:=⟨rfl,rfl,hb,by simp only;omega⟩
  have o4:=alN _ hE4
  refine ⟨⟨rfl,rfl⟩,⟨hE4,rfl,rfl⟩,?_⟩
  generalize (lS ⟨bs,(List.length bs:Int),(0:Int),r3⟩).out=r4 at*
  have o4:r4=r3++bs.map (·.1):=o4
  have l4:(List.length r4:Int)≤5000:=by rw [o4];simp only [List.length_append,List.length_map];omega
  refine ⟨by omega,?_⟩
  show LV.xl _ _=_
  rw [List.drop_zero,List.take_of_length_le (by omega),o4,o3,o2,o1,o0,List.nil_append]
  rfl
 ·cases h)
end Go.Proofs.YtlihnbimgclogaaGreatDoor
namespace Go.Proofs.YtlihnbimgclogaaGreatDoor
open Go.Sx
structure iP where
 r:Bool
 l:List Cd
 n:Int
 i:Int
 aj:List Cd
 aB:List ByteArray
 ai:List Ko
 ak:List Ch
 aJ:List Ba
def aAA (s:iP):List LV:=[.own 0 0,.v (.bool s.r),.xl dW s.l,.v (.int .i64 s.n),.v (.int .i64 s.i)]
def azE (s:iP):List aT:=[⟨[.xl dW s.aj,.xl .str s.aB,.xl eu s.ai,.xl dQ s.ak,.xl eG s.aJ],28,.cl,false⟩]
noncomputable def zW:Code:=((aF (Tryz.f100.body.getD .skip))[0]?).getD .skip
def X4 (s:iP):T (Rd iP):=
 .br (decide (s.i<s.n)) (.req (0≤s.i∧s.i<(List.length s.l:Int)) (.req (0≤s.i) (.br (!(DI s.i (fP s.l s.i))) (.ok (.stop (.ret) {s with r:=false})) (.ok (.next {s with i:=(IntKind.i64.wrap (s.i+1))}))))) (.ok (.stop (.exit 0) s))
abbrev apX (s:iP):=(X4 s).rd s
def IZ (s:iP) (j:Int):Bool:=DI j (fP s.l j)
def ajp (s:iP):Prop:=s.i=0∧0≤s.n∧s.n≤1000∧s.n=(s.l.length:Int)
def KP (s:iP):Prop:=0≤s.i∧s.i≤s.n∧s.n≤1000∧(s.n=(s.l.length:Int))∧∀j:Nat,(j:Int)<s.i→IZ s j=true
def Nq (s:iP):Nat:=(s.n-s.i).toNat
def aiN (x:Ex) (_ s':iP):Prop:=(x=.exit 0∧∀j:Nat,(j:Int)<s'.n→IZ s' j=true)∨(x=.ret∧s'.r=false∧∃j:Nat,(j:Int)<s'.n∧IZ s' j=false)
theorem awO:∀s,ajp s→KP s:=by
 intro s h
 obtain ⟨h0,h1,h2,h3⟩:=h
 exact ⟨by omega,by omega,h2,h3,fun j hj=>by omega⟩
theorem aqR (s:iP) (hI:KP s):bM (fun s'=>KP s'∧Nq s'<Nq s) (fun x s'=>aiN x s s') (apX s):=by
 unfold apX X4
 dsimp only [T.rd,T.rl]
 obtain ⟨h0,h1,h2,h3,h4⟩:=hI
 refine au (fun c1=>au (fun c2=>?_) (fun c2=>?_)) (fun c1=>?_)
 ·have c1:s.i<s.n:=by simpa using c1
  refine .inr ⟨rfl,rfl,s.i.toNat,by simp only;omega,?_⟩
  rw [Int.toNat_of_nonneg (by omega)]
  have hg:IZ s s.i=false:=by unfold IZ;(first|(have c2:(!(DI s.i (fP s.l s.i)))=false:=c2;simpa using c2) |(have c2:(!(DI s.i (fP s.l s.i)))=true:=c2;simpa using c2))
  exact hg
 ·have c1:s.i<s.n:=by simpa using c1
  have hg:IZ s s.i=true:=by unfold IZ;(first|(have c2:(!(DI s.i (fP s.l s.i)))=false:=c2;simpa using c2) |(have c2:(!(DI s.i (fP s.l s.i)))=true:=c2;simpa using c2))
  rw [aK (x:=s.i+1) (by omega) (by omega)]
  refine ⟨⟨by simp only;omega,by simp only;omega,h2,h3,fun j hj=>?_⟩,by simp only [Nq];omega⟩
  by_cases hji:(j:Int)<s.i
  ·exact h4 j hji
  ·have:(j:Int)=s.i:=by simp only at hj;omega
   rw [this];exact hg
 ·have c1:s.n≤s.i:=by simpa using c1
  exact .inl ⟨rfl,fun j hj=>h4 j (by omega)⟩
def DU:bQ iP:=⟨0,95,[1,2,13,14,15],[],aAA,azE,fun v b=>⟨vH (v.getD 1 .junk),aQ dW (v.getD 2 .junk),gI (v.getD 3 .junk),gI (v.getD 4 .junk),aQ dW (aY (aO b 0) 0),aQ .str (aY (aO b 0) 1),aQ eu (aY (aO b 0) 2),aQ dQ (aY (aO b 0) 3),aQ eG (aY (aO b 0) 4)⟩,X4,fun s r=> {r with l:=s.l,n:=s.n,aj:=s.aj,aB:=s.aB,ai:=s.ai,ak:=s.ak,aJ:=s.aJ},fun s=>s,fun _ s=>s,[.ret,.exit 0],ajp,KP,Nq⟩
abbrev lN:=DU.run
abbrev aaj:=DU.jZ
abbrev avE:=DU.q
theorem ar8 (s:iP) (hI:KP s):(X4 s).all (fun _=>True):=by
 refine ⟨fun c1=>⟨?_,?_,fun _=>trivial,fun _=>trivial⟩,fun _=>trivial⟩
 all_goals ((obtain ⟨h0,h1,h2,h3,h4⟩:=hI;simp at c1;omega))
noncomputable def Kq:Specs:=bf [(126,WT),(127,uj),(128,WU)]
theorem Ru:∀g S,Kq g=some S→Valid Tryz.prog aP g S:=aS (l:=[(126,WT),(127,uj),(128,WU)]) ⟨aqW,MC,aqX,trivial⟩
theorem afp:DU.Ok:=⟨fun s=>by kernel_rfl,fun s=>by kernel_rfl,fun s=>rfl,fun s t r=>rfl,fun s=>rfl,fun s=>by kernel_rfl⟩
theorem aep:DU.Pf (aiN):=⟨awO,fun _ _=>rfl,aqR,ar8⟩
theorem ake:bg Tryz.prog aP (AN 0) (.loop zW) DU.lp:=bQ.snd afp aep (aU (Γ:=Kq) (K:=eY) (L:=aC) Ru aG zW (fun b hb=>by rw [show aF zW=[] by kernel_rfl] at hb;cases hb)) (fun s=>by kernel_rfl)
theorem ajP (s:iP) (hE:ajp s):∃s',KP s'∧aiN (aaj s) s' (lN s):=bQ.fin afp aep s hE
structure jG where
 r:Bool
 l:List Ko
 n:Int
 i:Int
 aj:List Cd
 aB:List ByteArray
 ai:List Ko
 ak:List Ch
 aJ:List Ba
 cards:List Int
def aAz (s:jG):List LV:=[.own 0 0,.v (.bool s.r),.om 1,.xl eu s.l,.v (.int .i64 s.n),.v (.int .i64 s.i)]
def azD (s:jG):List aT:=[⟨[.xl dW s.aj,.xl .str s.aB,.xl eu s.ai,.xl dQ s.ak,.xl eG s.aJ],28,.cl,false⟩,⟨[],183,.st (.int .i64) s.cards,false⟩]
noncomputable def zV:Code:=((aF (Tryz.f100.body.getD .skip))[1]?).getD .skip
def X3 (s:jG):T (Rd jG):=
 .br (decide (s.i<s.n)) (.req (0≤s.i∧s.i<(List.length s.l:Int)) (.br ((!(inB (mM s.l s.i).2.1 (0:Int) (IntKind.i64.wrap ((List.length s.aB:Int)-1)))) ||((!(inB (mM s.l s.i).2.2.1 (1:Int) (9:Int))) ||((!(inB (mM s.l s.i).2.2.2 (1:Int) (1000000:Int))) ||(List.contains s.cards (mM s.l s.i).2.2.2)))) (.ok (.stop (.ret) {s with r:=false})) (.req (List.contains s.cards (mM s.l s.i).2.2.2=false) (.ok (.next {s with i:=(IntKind.i64.wrap (s.i+1)),cards:=(s.cards++[(mM s.l s.i).2.2.2])}))))) (.ok (.stop (.exit 2) s))
abbrev apW (s:jG):=(X3 s).rd s
def IY (s:jG) (j:Int):Bool:=koV s.aB.length (mM s.l j)&&!(((s.l.take j.toNat).map (·.2.2.2)).contains (mM s.l j).2.2.2)
def ajo (s:jG):Prop:=s.i=0∧s.cards=[]∧s.n=(s.l.length:Int)∧s.n≤1000∧(s.aB.length:Int)≤1000
def KO (s:jG):Prop:=0≤s.i∧s.i≤s.n∧s.n=(s.l.length:Int)∧s.n≤1000∧((s.aB.length:Int)≤1000)∧s.cards=(s.l.take s.i.toNat).map (·.2.2.2)∧∀j:Nat,(j:Int)<s.i→IY s j=true
def Np (s:jG):Nat:=(s.n-s.i).toNat
def aiM (x:Ex) (_ s':jG):Prop:=(x=.exit 2∧∀j:Nat,(j:Int)<s'.n→IY s' j=true)∨(x=.ret∧s'.r=false∧∃j:Nat,(j:Int)<s'.n∧IY s' j=false)
theorem awN:∀s,ajo s→KO s:=by
 intro s h
 obtain ⟨h0,h1,h2,h3,h4⟩:=h
 exact ⟨by omega,by omega,h2,h3,h4,by rw [h0,h1];rfl,fun j hj=>by omega⟩
theorem aqQ (s:jG) (hI:KO s):bM (fun s'=>KO s'∧Np s'<Np s) (fun x s'=>aiM x s s') (apW s):=by
 unfold apW X3
 dsimp only [T.rd,T.rl]
 obtain ⟨h0,h1,h2,h3,h4,h5,h6⟩:=hI
 refine au (fun c1=>au (fun c2=>?_) (fun c2=>?_)) (fun c1=>?_)
 ·have c1:s.i<s.n:=by simpa using c1
  refine .inr ⟨rfl,rfl,s.i.toNat,by simp only;omega,?_⟩
  rw [Int.toNat_of_nonneg h0]
  have hg:IY s s.i=false:=by
   unfold IY
   (rw [aK (by omega) (by omega),h5] at c2;unfold koV;revert c2;generalize inB (mM s.l s.i).2.1 _ _=a;generalize inB (mM s.l s.i).2.2.1 _ _=b;generalize inB (mM s.l s.i).2.2.2 _ _=c;generalize List.contains (α:=Int) _ _=d;cases a<;>cases b<;>cases c<;>cases d<;>simp)
  exact hg
 ·have c1:s.i<s.n:=by simpa using c1
  have hg:IY s s.i=true:=by
   unfold IY
   (rw [aK (by omega) (by omega),h5] at c2;unfold koV;revert c2;generalize inB (mM s.l s.i).2.1 _ _=a;generalize inB (mM s.l s.i).2.2.1 _ _=b;generalize inB (mM s.l s.i).2.2.2 _ _=c;generalize List.contains (α:=Int) _ _=d;cases a<;>cases b<;>cases c<;>cases d<;>simp)
  rw [aK (x:=s.i+1) (by omega) (by omega)]
  refine ⟨⟨by simp only;omega,by simp only;omega,h2,h3,h4,?_,fun j hj=>?_⟩,by simp only [Np];omega⟩
  ·simp only
   rw [(HY h0 (show s.i<s.l.length by omega)).2,h5]
   try rw [List.map_append]
   try rfl
  ·by_cases hji:(j:Int)<s.i
   ·exact h6 j hji
   ·have:(j:Int)=s.i:=by simp only at hj;omega
    rw [this];exact hg
 ·have c1:s.n≤s.i:=by simpa using c1
  exact .inl ⟨rfl,fun j hj=>h6 j (by omega)⟩
def DT:bQ jG:=⟨0,95,[1,2,5,27,28,29],[],aAz,azD,fun v b=>⟨vH (v.getD 1 .junk),aQ eu (v.getD 3 .junk),gI (v.getD 4 .junk),gI (v.getD 5 .junk),aQ dW (aY (aO b 0) 0),aQ .str (aY (aO b 0) 1),aQ eu (aY (aO b 0) 2),aQ dQ (aY (aO b 0) 3),aQ eG (aY (aO b 0) 4),gSe (.int .i64) (aO b 1)⟩,X3,fun s r=> {r with l:=s.l,n:=s.n,aj:=s.aj,aB:=s.aB,ai:=s.ai,ak:=s.ak,aJ:=s.aJ},fun s=>s,fun _ s=>s,[.ret,.exit 2],ajo,KO,Np⟩
abbrev qx:=DT.run
abbrev aai:=DT.jZ
abbrev avD:=DT.q
theorem ar7 (s:jG) (hI:KO s):(X3 s).all (fun _=>True):=by
 refine ⟨fun c1=>⟨?_,fun _=>trivial,fun c2=>⟨?_,trivial⟩⟩,fun _=>trivial⟩
 all_goals ((obtain ⟨h0,h1,h2,h3,h4,h5,h6⟩:=hI;first|(simp at c1;omega) |(simp only [Bool.or_eq_false_iff] at c2;exact c2.2.2.2)))
theorem afo:DT.Ok:=⟨fun s=>by kernel_rfl,fun s=>by kernel_rfl,fun s=>rfl,fun s t r=>rfl,fun s=>rfl,fun s=>by kernel_rfl⟩
theorem aeo:DT.Pf (aiM):=⟨awN,fun _ _=>rfl,aqQ,ar7⟩
theorem akd:bg Tryz.prog aP (AN 0) (.loop zV) DT.lp:=bQ.snd afo aeo (aU (Γ:=Kq) (K:=eY) (L:=aC) Ru aG zV (fun b hb=>by rw [show aF zV=[] by kernel_rfl] at hb;cases hb)) (fun s=>by kernel_rfl)
theorem ajO (s:jG) (hE:ajo s):∃s',KO s'∧aiM (aai s) s' (qx s):=bQ.fin afo aeo s hE
structure kZ where
 r:Bool
 l:List Ch
 n:Int
 i:Int
 aj:List Cd
 aB:List ByteArray
 ai:List Ko
 ak:List Ch
 aJ:List Ba
def aAy (s:kZ):List LV:=[.own 0 0,.v (.bool s.r),.xl dQ s.l,.v (.int .i64 s.n),.v (.int .i64 s.i)]
def azC (s:kZ):List aT:=[⟨[.xl dW s.aj,.xl .str s.aB,.xl eu s.ai,.xl dQ s.ak,.xl eG s.aJ],28,.cl,false⟩]
noncomputable def zU:Code:=((aF (Tryz.f100.body.getD .skip))[2]?).getD .skip
def X0 (s:kZ):T (Rd kZ):=
 .br (decide (s.i<s.n)) (.req (0≤s.i∧s.i<(List.length s.l:Int)) (.req ((List.length s.aj:Int)≤1000∧(List.length s.aB:Int)≤1000) (.br (!(Fh s.aj.length s.aB.length (bC s.l s.i))) (.ok (.stop (.ret) {s with r:=false})) (.ok (.next {s with i:=(IntKind.i64.wrap (s.i+1))}))))) (.ok (.stop (.exit 4) s))
abbrev apV (s:kZ):=(X0 s).rd s
def IX (s:kZ) (j:Int):Bool:=Fh s.aj.length s.aB.length (bC s.l j)
def ajn (s:kZ):Prop:=s.i=0∧0≤s.n∧s.n≤1000∧s.n=(s.l.length:Int)∧(s.aj.length:Int)≤1000∧(s.aB.length:Int)≤1000
def KN (s:kZ):Prop:=0≤s.i∧s.i≤s.n∧s.n≤1000∧(s.n=(s.l.length:Int)∧(s.aj.length:Int)≤1000∧(s.aB.length:Int)≤1000)∧∀j:Nat,(j:Int)<s.i→IX s j=true
def Nl (s:kZ):Nat:=(s.n-s.i).toNat
def aiL (x:Ex) (_ s':kZ):Prop:=(x=.exit 4∧∀j:Nat,(j:Int)<s'.n→IX s' j=true)∨(x=.ret∧s'.r=false∧∃j:Nat,(j:Int)<s'.n∧IX s' j=false)
theorem awM:∀s,ajn s→KN s:=by
 intro s h
 obtain ⟨h0,h1,h2,h3⟩:=h
 exact ⟨by omega,by omega,h2,h3,fun j hj=>by omega⟩
theorem aqP (s:kZ) (hI:KN s):bM (fun s'=>KN s'∧Nl s'<Nl s) (fun x s'=>aiL x s s') (apV s):=by
 unfold apV X0
 dsimp only [T.rd,T.rl]
 obtain ⟨h0,h1,h2,h3,h4⟩:=hI
 refine au (fun c1=>au (fun c2=>?_) (fun c2=>?_)) (fun c1=>?_)
 ·have c1:s.i<s.n:=by simpa using c1
  refine .inr ⟨rfl,rfl,s.i.toNat,by simp only;omega,?_⟩
  rw [Int.toNat_of_nonneg (by omega)]
  have hg:IX s s.i=false:=by unfold IX;(first|(have c2:(!(Fh s.aj.length s.aB.length (bC s.l s.i)))=false:=c2;simpa using c2) |(have c2:(!(Fh s.aj.length s.aB.length (bC s.l s.i)))=true:=c2;simpa using c2))
  exact hg
 ·have c1:s.i<s.n:=by simpa using c1
  have hg:IX s s.i=true:=by unfold IX;(first|(have c2:(!(Fh s.aj.length s.aB.length (bC s.l s.i)))=false:=c2;simpa using c2) |(have c2:(!(Fh s.aj.length s.aB.length (bC s.l s.i)))=true:=c2;simpa using c2))
  rw [aK (x:=s.i+1) (by omega) (by omega)]
  refine ⟨⟨by simp only;omega,by simp only;omega,h2,h3,fun j hj=>?_⟩,by simp only [Nl];omega⟩
  by_cases hji:(j:Int)<s.i
  ·exact h4 j hji
  ·have:(j:Int)=s.i:=by simp only at hj;omega
   rw [this];exact hg
 ·have c1:s.n≤s.i:=by simpa using c1
  exact .inl ⟨rfl,fun j hj=>h4 j (by omega)⟩
def DR:bQ kZ:=⟨0,95,[1,2,67,68,69],[],aAy,azC,fun v b=>⟨vH (v.getD 1 .junk),aQ dQ (v.getD 2 .junk),gI (v.getD 3 .junk),gI (v.getD 4 .junk),aQ dW (aY (aO b 0) 0),aQ .str (aY (aO b 0) 1),aQ eu (aY (aO b 0) 2),aQ dQ (aY (aO b 0) 3),aQ eG (aY (aO b 0) 4)⟩,X0,fun s r=> {r with l:=s.l,n:=s.n,aj:=s.aj,aB:=s.aB,ai:=s.ai,ak:=s.ak,aJ:=s.aJ},fun s=>s,fun _ s=>s,[.ret,.exit 4],ajn,KN,Nl⟩
abbrev yV:=DR.run
abbrev aah:=DR.jZ
abbrev avC:=DR.q
theorem ar6 (s:kZ) (hI:KN s):(X0 s).all (fun _=>True):=by
 refine ⟨fun c1=>⟨?_,?_,fun _=>trivial,fun _=>trivial⟩,fun _=>trivial⟩
 all_goals ((obtain ⟨h0,h1,h2,h3,h4⟩:=hI;simp at c1;first|omega|exact h3.2))
theorem afn:DR.Ok:=⟨fun s=>by kernel_rfl,fun s=>by kernel_rfl,fun s=>rfl,fun s t r=>rfl,fun s=>rfl,fun s=>by kernel_rfl⟩
theorem aen:DR.Pf (aiL):=⟨awM,fun _ _=>rfl,aqP,ar6⟩
theorem akc:bg Tryz.prog aP (AN 0) (.loop zU) DR.lp:=bQ.snd afn aen (aU (Γ:=Kq) (K:=eY) (L:=aC) Ru aG zU (fun b hb=>by rw [show aF zU=[] by kernel_rfl] at hb;cases hb)) (fun s=>by kernel_rfl)
theorem ajN (s:kZ) (hE:ajn s):∃s',KN s'∧aiL (aah s) s' (yV s):=bQ.fin afn aen s hE
structure nX where
 r:Bool
 l:List Ba
 n:Int
 i:Int
 aj:List Cd
 aB:List ByteArray
 ai:List Ko
 ak:List Ch
 aJ:List Ba
def aAx (s:nX):List LV:=[.own 0 0,.v (.bool s.r),.xl eG s.l,.v (.int .i64 s.n),.v (.int .i64 s.i)]
def azB (s:nX):List aT:=[⟨[.xl dW s.aj,.xl .str s.aB,.xl eu s.ai,.xl dQ s.ak,.xl eG s.aJ],28,.cl,false⟩]
noncomputable def zT:Code:=((aF (Tryz.f100.body.getD .skip))[3]?).getD .skip
def XZ (s:nX):T (Rd nX):=
 .br (decide (s.i<s.n)) (.req (0≤s.i∧s.i<(List.length s.l:Int)) (.br (!(inB (BG s.l s.i).2 (0:Int) (IntKind.i64.wrap ((List.length s.ak:Int)-1)))) (.ok (.stop (.ret) {s with r:=false})) (.ok (.next {s with i:=(IntKind.i64.wrap (s.i+1))})))) (.ok (.stop (.exit 6) s))
abbrev apU (s:nX):=(XZ s).rd s
def IW (s:nX) (j:Int):Bool:=inB (BG s.l j).2 0 (IntKind.i64.wrap ((List.length s.ak:Int)-1))
def ajm (s:nX):Prop:=s.i=0∧0≤s.n∧s.n≤1000∧s.n=(s.l.length:Int)
def KL (s:nX):Prop:=0≤s.i∧s.i≤s.n∧s.n≤1000∧(s.n=(s.l.length:Int))∧∀j:Nat,(j:Int)<s.i→IW s j=true
def Nk (s:nX):Nat:=(s.n-s.i).toNat
def aiK (x:Ex) (_ s':nX):Prop:=(x=.exit 6∧∀j:Nat,(j:Int)<s'.n→IW s' j=true)∨(x=.ret∧s'.r=false∧∃j:Nat,(j:Int)<s'.n∧IW s' j=false)
theorem awL:∀s,ajm s→KL s:=by
 intro s h
 obtain ⟨h0,h1,h2,h3⟩:=h
 exact ⟨by omega,by omega,h2,h3,fun j hj=>by omega⟩
theorem aqO (s:nX) (hI:KL s):bM (fun s'=>KL s'∧Nk s'<Nk s) (fun x s'=>aiK x s s') (apU s):=by
 unfold apU XZ
 dsimp only [T.rd,T.rl]
 obtain ⟨h0,h1,h2,h3,h4⟩:=hI
 refine au (fun c1=>au (fun c2=>?_) (fun c2=>?_)) (fun c1=>?_)
 ·have c1:s.i<s.n:=by simpa using c1
  refine .inr ⟨rfl,rfl,s.i.toNat,by simp only;omega,?_⟩
  rw [Int.toNat_of_nonneg (by omega)]
  have hg:IW s s.i=false:=by unfold IW;(first|(have c2:(!(inB (BG s.l s.i).2 0 (IntKind.i64.wrap ((List.length s.ak:Int)-1))))=false:=c2;simpa using c2) |(have c2:(!(inB (BG s.l s.i).2 0 (IntKind.i64.wrap ((List.length s.ak:Int)-1))))=true:=c2;simpa using c2))
  exact hg
 ·have c1:s.i<s.n:=by simpa using c1
  have hg:IW s s.i=true:=by unfold IW;(first|(have c2:(!(inB (BG s.l s.i).2 0 (IntKind.i64.wrap ((List.length s.ak:Int)-1))))=false:=c2;simpa using c2) |(have c2:(!(inB (BG s.l s.i).2 0 (IntKind.i64.wrap ((List.length s.ak:Int)-1))))=true:=c2;simpa using c2))
  rw [aK (x:=s.i+1) (by omega) (by omega)]
  refine ⟨⟨by simp only;omega,by simp only;omega,h2,h3,fun j hj=>?_⟩,by simp only [Nk];omega⟩
  by_cases hji:(j:Int)<s.i
  ·exact h4 j hji
  ·have:(j:Int)=s.i:=by simp only at hj;omega
   rw [this];exact hg
 ·have c1:s.n≤s.i:=by simpa using c1
  exact .inl ⟨rfl,fun j hj=>h4 j (by omega)⟩
def DN:bQ nX:=⟨0,95,[1,2,79,80,81],[],aAx,azB,fun v b=>⟨vH (v.getD 1 .junk),aQ eG (v.getD 2 .junk),gI (v.getD 3 .junk),gI (v.getD 4 .junk),aQ dW (aY (aO b 0) 0),aQ .str (aY (aO b 0) 1),aQ eu (aY (aO b 0) 2),aQ dQ (aY (aO b 0) 3),aQ eG (aY (aO b 0) 4)⟩,XZ,fun s r=> {r with l:=s.l,n:=s.n,aj:=s.aj,aB:=s.aB,ai:=s.ai,ak:=s.ak,aJ:=s.aJ},fun s=>s,fun _ s=>s,[.ret,.exit 6],ajm,KL,Nk⟩
abbrev YH:=DN.run
abbrev aag:=DN.jZ
abbrev avA:=DN.q
theorem ar5 (s:nX) (hI:KL s):(XZ s).all (fun _=>True):=by
 refine ⟨fun c1=>⟨?_,fun _=>trivial,fun _=>trivial⟩,fun _=>trivial⟩
 ·(obtain ⟨h0,h1,h2,h3,h4⟩:=hI;simp at c1;omega)
theorem afm:DN.Ok:=⟨fun s=>by kernel_rfl,fun s=>by kernel_rfl,fun s=>rfl,fun s t r=>rfl,fun s=>rfl,fun s=>by kernel_rfl⟩
theorem aem:DN.Pf (aiK):=⟨awL,fun _ _=>rfl,aqO,ar5⟩
theorem akb:bg Tryz.prog aP (AN 0) (.loop zT) DN.lp:=bQ.snd afm aem (aU (Γ:=Kq) (K:=eY) (L:=aC) Ru aG zT (fun b hb=>by rw [show aF zT=[] by kernel_rfl] at hb;cases hb)) (fun s=>by kernel_rfl)
theorem ajM (s:nX) (hE:ajm s):∃s',KL s'∧aiK (aag s) s' (YH s):=bQ.fin afm aem s hE
def aaS:List LV→T LV
 | [.agg [.xl (.pair .str (.pair (.int .i64) (.pair (.int .i64) (.pair (.int .i64) (.pair (.pair (.int .i64) (.int .i64)) (.pair (.int .i64) (.pair (.int .i64) (.pair (.int .i64) (.pair (.int .i64) (.int .i64)))))))))) cs,.xl (.str) os,.xl (.pair .str (.pair (.int .i64) (.pair (.int .i64) (.int .i64)))) ks,.xl (.pair .str (.pair (.int .i64) (.pair (.int .i64) (.pair (.int .i64) (.pair (.int .i64) (.pair (.int .i64) (.pair (.int .i64) (.int .i64)))))))) gs,.xl (.pair .str (.int .i64)) bs]]=> .req ((List.length cs:Int)≤1000∧(List.length os:Int)≤1000∧(List.length ks:Int)≤1000∧(List.length gs:Int)≤1000∧(List.length bs:Int)≤1000) (.ok (.v (.bool (Us cs os ks gs bs))))
 |_=> .no
noncomputable def WS:List LV→T LV:=gW Tryz.prog Tryz.f100.params.toList aaS
theorem al1 (cs:List Cd) (os:List ByteArray) (ks:List Ko) (gs:List Ch) (bs:List Ba):bW Tryz.prog aP (Kq) eY (fun i=>if i=2 then DU.lp else if i=9 then DT.lp else if i=16 then DR.lp else if i=22 then DN.lp else aC i) Tryz.f100 [.agg [.xl dW cs,.xl .str os,.xl eu ks,.xl dQ gs,.xl eG bs]]=.req (avE (⟨false,cs,(List.length cs:Int),(0:Int),cs,os,ks,gs,bs⟩:iP)) (.br (ig (aaj (⟨false,cs,(List.length cs:Int),(0:Int),cs,os,ks,gs,bs⟩:iP)) (.ret)) (.ok (.v (.bool (lN (⟨false,cs,(List.length cs:Int),(0:Int),cs,os,ks,gs,bs⟩:iP)).r))) (.req (avD (⟨(lN (⟨false,cs,(List.length cs:Int),(0:Int),cs,os,ks,gs,bs⟩:iP)).r,ks,(List.length ks:Int),(0:Int),cs,os,ks,gs,bs,([]:List Int)⟩:jG)) (.br (ig (aai (⟨(lN (⟨false,cs,(List.length cs:Int),(0:Int),cs,os,ks,gs,bs⟩:iP)).r,ks,(List.length ks:Int),(0:Int),cs,os,ks,gs,bs,([]:List Int)⟩:jG)) (.ret)) (.ok (.v (.bool (qx (⟨(lN (⟨false,cs,(List.length cs:Int),(0:Int),cs,os,ks,gs,bs⟩:iP)).r,ks,(List.length ks:Int),(0:Int),cs,os,ks,gs,bs,([]:List Int)⟩:jG)).r))) (.req (avC (⟨(qx (⟨(lN (⟨false,cs,(List.length cs:Int),(0:Int),cs,os,ks,gs,bs⟩:iP)).r,ks,(List.length ks:Int),(0:Int),cs,os,ks,gs,bs,([]:List Int)⟩:jG)).r,gs,(List.length gs:Int),(0:Int),cs,os,ks,gs,bs⟩:kZ)) (.br (ig (aah (⟨(qx (⟨(lN (⟨false,cs,(List.length cs:Int),(0:Int),cs,os,ks,gs,bs⟩:iP)).r,ks,(List.length ks:Int),(0:Int),cs,os,ks,gs,bs,([]:List Int)⟩:jG)).r,gs,(List.length gs:Int),(0:Int),cs,os,ks,gs,bs⟩:kZ)) (.ret)) (.ok (.v (.bool (yV (⟨(qx (⟨(lN (⟨false,cs,(List.length cs:Int),(0:Int),cs,os,ks,gs,bs⟩:iP)).r,ks,(List.length ks:Int),(0:Int),cs,os,ks,gs,bs,([]:List Int)⟩:jG)).r,gs,(List.length gs:Int),(0:Int),cs,os,ks,gs,bs⟩:kZ)).r))) (.req (avA (⟨(yV (⟨(qx (⟨(lN (⟨false,cs,(List.length cs:Int),(0:Int),cs,os,ks,gs,bs⟩:iP)).r,ks,(List.length ks:Int),(0:Int),cs,os,ks,gs,bs,([]:List Int)⟩:jG)).r,gs,(List.length gs:Int),(0:Int),cs,os,ks,gs,bs⟩:kZ)).r,bs,(List.length bs:Int),(0:Int),cs,os,ks,gs,bs⟩:nX)) (.br (ig (aag (⟨(yV (⟨(qx (⟨(lN (⟨false,cs,(List.length cs:Int),(0:Int),cs,os,ks,gs,bs⟩:iP)).r,ks,(List.length ks:Int),(0:Int),cs,os,ks,gs,bs,([]:List Int)⟩:jG)).r,gs,(List.length gs:Int),(0:Int),cs,os,ks,gs,bs⟩:kZ)).r,bs,(List.length bs:Int),(0:Int),cs,os,ks,gs,bs⟩:nX)) (.ret)) (.ok (.v (.bool (YH (⟨(yV (⟨(qx (⟨(lN (⟨false,cs,(List.length cs:Int),(0:Int),cs,os,ks,gs,bs⟩:iP)).r,ks,(List.length ks:Int),(0:Int),cs,os,ks,gs,bs,([]:List Int)⟩:jG)).r,gs,(List.length gs:Int),(0:Int),cs,os,ks,gs,bs⟩:kZ)).r,bs,(List.length bs:Int),(0:Int),cs,os,ks,gs,bs⟩:nX)).r))) (.ok (.v (.bool true)))))))))):=by kernel_rfl
theorem aqV:Valid Tryz.prog aP 100 WS:=aH Tryz.func100 rfl Ru aG (L:=(fun i=>if i=2 then DU.lp else if i=9 then DT.lp else if i=16 then DR.lp else if i=22 then DN.lp else aC i)) (fun b hb=>by
 rw [show aF _=[zW,zV,zU,zT] by kernel_rfl] at hb
 simp only [List.mem_cons,List.not_mem_nil,or_false] at hb
 rcases hb with rfl|rfl|rfl|rfl
 ·exact ake
 ·exact akd
 ·exact akc
 ·exact akb) (fun args lv h=>by
 unfold aaS at h
 split at h
 ·simp only [canL,canX]
  rw [al1]
  rename_i cs os ks gs bs
  obtain ⟨⟨hc,ho,hk,hg,hb⟩,rfl⟩:=h
  refine nD ⟨⟨rfl,by simp only;omega,hc,rfl⟩,rfl,rfl⟩ (fun hE0=>?_)
  obtain ⟨s',_,hq⟩:=ajP _ hE0.1
  rcases hq with ⟨q1,q2⟩ |⟨q1,q2,j,q3,q4⟩
  rotate_left
  ·rw [q1,q2]
   refine ⟨fun _=>congrArg (fun z=>LV.v (.bool z)) ?_,fun h=>by cases h⟩
   unfold Us
   rw [sU (f:=fun j=>DI j (fP cs j)) j q3 q4]
   rfl
  rw [q1]
  refine ⟨fun h=>(by cases h),fun _=>?_⟩
  have g0:Jr cs.length (fun j=>DI j (fP cs j))=true:=fM.2 q2
  refine nD ⟨⟨rfl,rfl,rfl,hk,ho⟩,rfl,rfl⟩ (fun hE1=>?_)
  obtain ⟨s',_,hq⟩:=ajO _ hE1.1
  rcases hq with ⟨q1,q2⟩ |⟨q1,q2,j,q3,q4⟩
  rotate_left
  ·rw [q1,q2]
   refine ⟨fun _=>congrArg (fun z=>LV.v (.bool z)) ?_,fun h=>by cases h⟩
   unfold Us
   have hn:(ks.all (koV os.length)&&once (ks.map (·.2.2.2)))=false:=by
    rw [Bool.eq_false_iff];intro hx
    have:=(kE (d:=(emp,0,0,0))).2 hx j q3
    exact Bool.noConfusion (this.symm.trans q4)
   rw [g0,Bool.true_and,←Bool.and_assoc,hn]
   rfl
  rw [q1]
  refine ⟨fun h=>(by cases h),fun _=>?_⟩
  have g1:(ks.all (koV os.length)&&once (ks.map (·.2.2.2)))=true:=(kE (d:=(emp,0,0,0))).1 q2
  refine nD ⟨⟨rfl,by simp only;omega,hg,rfl,hc,ho⟩,rfl,rfl⟩ (fun hE2=>?_)
  obtain ⟨s',_,hq⟩:=ajN _ hE2.1
  rcases hq with ⟨q1,q2⟩ |⟨q1,q2,j,q3,q4⟩
  rotate_left
  ·rw [q1,q2]
   refine ⟨fun _=>congrArg (fun z=>LV.v (.bool z)) ?_,fun h=>by cases h⟩
   unfold Us
   have hn:gs.all (Fh cs.length os.length)=false:=by
    rw [Bool.eq_false_iff];intro hx
    have:=(jw (d:=(emp,0,0,0,0,0,0,0))).2 hx j q3
    exact Bool.noConfusion (this.symm.trans q4)
   rw [g0,Bool.true_and,←Bool.and_assoc,g1,hn]
   rfl
  rw [q1]
  refine ⟨fun h=>(by cases h),fun _=>?_⟩
  have g2:gs.all (Fh cs.length os.length)=true:=(jw (d:=(emp,0,0,0,0,0,0,0))).1 q2
  have hw:=aK (x:=(List.length gs:Int)-1) (by omega) (by omega)
  refine nD ⟨⟨rfl,by simp only;omega,hb,rfl⟩,rfl,rfl⟩ (fun hE3=>?_)
  obtain ⟨s',_,hq⟩:=ajM _ hE3.1
  rcases hq with ⟨q1,q2⟩ |⟨q1,q2,j,q3,q4⟩
  rotate_left
  ·rw [q1,q2]
   refine ⟨fun _=>congrArg (fun z=>LV.v (.bool z)) ?_,fun h=>by cases h⟩
   unfold Us
   have hn:bs.all (fun b=>inB b.2 0 ((gs.length:Int)-1))=false:=by
    rw [Bool.eq_false_iff];intro hx
    have:=(jw (d:=(emp,0))).2 hx j q3
    have q4:inB (BG bs j).2 0 (IntKind.i64.wrap ((List.length gs:Int)-1))=false:=q4
    rw [hw] at q4
    exact Bool.noConfusion (this.symm.trans q4)
   rw [g0,Bool.true_and,←Bool.and_assoc,g1,g2,hn]
   rfl
  rw [q1]
  refine ⟨fun h=>(by cases h),fun _=>?_⟩
  have g3:bs.all (fun b=>inB b.2 0 ((gs.length:Int)-1))=true:=(jw (d:=(emp,0))).1 (fun j hj=>by
   have:inB (BG bs j).2 0 (IntKind.i64.wrap ((List.length gs:Int)-1))=true:=q2 j hj
   rw [hw] at this
   exact this)
  refine congrArg (fun z=>LV.v (.bool z)) ?_
  unfold Us
  rw [g0,Bool.true_and,←Bool.and_assoc,g1,g2,g3]
  rfl
 ·cases h)
end Go.Proofs.YtlihnbimgclogaaGreatDoor
namespace Go.Proofs.YtlihnbimgclogaaGreatDoor
open Go.Sx
structure vW where
 r:Bool
 l:List ByteArray
 n:Int
 i:Int
 aj:List Cd
 aB:List ByteArray
 ai:List Ko
 ak:List Ch
 aJ:List Ba
 seen:List ByteArray
def aCa (s:vW):List LV:=[.own 0 0,.v (.bool s.r),.om 1,.xl .str s.l,.v (.int .i64 s.n),.v (.int .i64 s.i)]
def aB2 (s:vW):List aT:=[⟨[.xl dW s.aj,.xl .str s.aB,.xl eu s.ai,.xl dQ s.ak,.xl eG s.aJ],28,.cl,false⟩,⟨[],149,.st .str s.seen,false⟩]
noncomputable def Fp:Code:=((aF (Tryz.f53.body.getD .skip))[0]?).getD .skip
def aj0 (s:vW):T (Rd vW):=
 .br (decide (s.i<s.n)) (.req (0≤s.i∧s.i<(List.length s.l:Int)) (.br ((!(nameB (gS s.l s.i))) ||(List.contains s.seen (gS s.l s.i))) (.ok (.stop (.ret) {s with r:=false})) (.req (List.contains s.seen (gS s.l s.i)=false) (.ok (.next {s with i:=(IntKind.i64.wrap (s.i+1)),seen:=(s.seen++[(gS s.l s.i)])}))))) (.ok (.stop (.exit 0) s))
abbrev ayX (s:vW):=(aj0 s).rd s
def XI (s:vW) (j:Int):Bool:=nameB (gS s.l j)&&!(((s.l.take j.toNat).map id).contains (gS s.l j))
def avF (s:vW):Prop:=s.i=0∧s.seen=[]∧s.n=(s.l.length:Int)∧s.n≤1000∧True
def adg (s:vW):Prop:=0≤s.i∧s.i≤s.n∧s.n=(s.l.length:Int)∧s.n≤1000∧(True)∧s.seen=(s.l.take s.i.toNat).map id∧∀j:Nat,(j:Int)<s.i→XI s j=true
def Y8 (s:vW):Nat:=(s.n-s.i).toNat
def avu (x:Ex) (_ s':vW):Prop:=(x=.exit 0∧∀j:Nat,(j:Int)<s'.n→XI s' j=true)∨(x=.ret∧s'.r=false∧∃j:Nat,(j:Int)<s'.n∧XI s' j=false)
theorem aBC:∀s,avF s→adg s:=by
 intro s h
 obtain ⟨h0,h1,h2,h3,h4⟩:=h
 exact ⟨by omega,by omega,h2,h3,h4,by rw [h0,h1];rfl,fun j hj=>by omega⟩
theorem aw7 (s:vW) (hI:adg s):bM (fun s'=>adg s'∧Y8 s'<Y8 s) (fun x s'=>avu x s s') (ayX s):=by
 unfold ayX aj0
 dsimp only [T.rd,T.rl]
 obtain ⟨h0,h1,h2,h3,h4,h5,h6⟩:=hI
 refine au (fun c1=>au (fun c2=>?_) (fun c2=>?_)) (fun c1=>?_)
 ·have c1:s.i<s.n:=by simpa using c1
  refine .inr ⟨rfl,rfl,s.i.toNat,by simp only;omega,?_⟩
  rw [Int.toNat_of_nonneg h0]
  have hg:XI s s.i=false:=by
   unfold XI
   (rw [h5] at c2;revert c2;generalize nameB _=a;generalize List.contains (α:=ByteArray) _ _=d;cases a<;>cases d<;>simp)
  exact hg
 ·have c1:s.i<s.n:=by simpa using c1
  have hg:XI s s.i=true:=by
   unfold XI
   (rw [h5] at c2;revert c2;generalize nameB _=a;generalize List.contains (α:=ByteArray) _ _=d;cases a<;>cases d<;>simp)
  rw [aK (x:=s.i+1) (by omega) (by omega)]
  refine ⟨⟨by simp only;omega,by simp only;omega,h2,h3,h4,?_,fun j hj=>?_⟩,by simp only [Y8];omega⟩
  ·simp only
   rw [(tV h0 (show s.i<s.l.length by omega)).2,h5]
   try rw [List.map_append]
   try rfl
  ·by_cases hji:(j:Int)<s.i
   ·exact h6 j hji
   ·have:(j:Int)=s.i:=by simp only at hj;omega
    rw [this];exact hg
 ·have c1:s.n≤s.i:=by simpa using c1
  exact .inl ⟨rfl,fun j hj=>h6 j (by omega)⟩
def Ul:bQ vW:=⟨0,61,[1,2,3,42,43,44],[],aCa,aB2,fun v b=>⟨vH (v.getD 1 .junk),aQ .str (v.getD 3 .junk),gI (v.getD 4 .junk),gI (v.getD 5 .junk),aQ dW (aY (aO b 0) 0),aQ .str (aY (aO b 0) 1),aQ eu (aY (aO b 0) 2),aQ dQ (aY (aO b 0) 3),aQ eG (aY (aO b 0) 4),gSe .str (aO b 1)⟩,aj0,fun s r=> {r with l:=s.l,n:=s.n,aj:=s.aj,aB:=s.aB,ai:=s.ai,ak:=s.ak,aJ:=s.aJ},fun s=>s,fun _ s=>s,[.ret,.exit 0],avF,adg,Y8⟩
abbrev ad6:=Ul.run
abbrev ahM:=Ul.jZ
abbrev azv:=Ul.q
theorem axo (s:vW) (hI:adg s):(aj0 s).all (fun _=>True):=by
 refine ⟨fun c1=>⟨?_,fun _=>trivial,fun c2=>⟨?_,trivial⟩⟩,fun _=>trivial⟩
 all_goals ((obtain ⟨h0,h1,h2,h3,h4,h5,h6⟩:=hI;first|(simp at c1;omega) |(simp only [Bool.or_eq_false_iff] at c2;exact c2.2)))
noncomputable def ahB:Specs:=bf [(98,Xi),(99,Xr),(100,WS)]
theorem apE:∀g S,ahB g=some S→Valid Tryz.prog aP g S:=aS (l:=[(98,Xi),(99,Xr),(100,WS)]) ⟨ard,arp,aqV,trivial⟩
theorem aoT:Ul.Ok:=⟨fun s=>by kernel_rfl,fun s=>by kernel_rfl,fun s=>rfl,fun s t r=>rfl,fun s=>rfl,fun s=>by kernel_rfl⟩
theorem aoM:Ul.Pf (avu):=⟨aBC,fun _ _=>rfl,aw7,axo⟩
theorem arM:bg Tryz.prog aP (AN 0) (.loop Fp) Ul.lp:=bQ.snd aoT aoM (aU (Γ:=ahB) (K:=eY) (L:=aC) apE aG Fp (fun b hb=>by rw [show aF Fp=[] by kernel_rfl] at hb;cases hb)) (fun s=>by kernel_rfl)
theorem arI (s:vW) (hE:avF s):∃s',adg s'∧avu (ahM s) s' (ad6 s):=bQ.fin aoT aoM s hE
def aaV:List LV→T LV
 | [.agg [.xl (.pair .str (.pair (.int .i64) (.pair (.int .i64) (.pair (.int .i64) (.pair (.pair (.int .i64) (.int .i64)) (.pair (.int .i64) (.pair (.int .i64) (.pair (.int .i64) (.pair (.int .i64) (.int .i64)))))))))) cs,.xl (.str) os,.xl (.pair .str (.pair (.int .i64) (.pair (.int .i64) (.int .i64)))) ks,.xl (.pair .str (.pair (.int .i64) (.pair (.int .i64) (.pair (.int .i64) (.pair (.int .i64) (.pair (.int .i64) (.pair (.int .i64) (.int .i64)))))))) gs,.xl (.pair .str (.int .i64)) bs]]=> .ok (.v (.bool (fO cs os ks gs bs)))
 |_=> .no
noncomputable def Iw:List LV→T LV:=gW Tryz.prog Tryz.f53.params.toList aaV
theorem al4 (cs:List Cd) (os:List ByteArray) (ks:List Ko) (gs:List Ch) (bs:List Ba):bW Tryz.prog aP (ahB) eY (fun i=>if i=5 then Ul.lp else aC i) Tryz.f53 [.agg [.xl dW cs,.xl .str os,.xl eu ks,.xl dQ gs,.xl eG bs]]=.br ((decide ((List.length cs:Int)<1)) ||((decide ((List.length cs:Int)>16)) ||((decide ((List.length os:Int)>8)) ||((decide ((List.length ks:Int)>32)) ||((decide ((List.length gs:Int)>16)) ||(decide ((List.length bs:Int)>24))))))) (.ok (.v (.bool false))) (.req ((List.length cs:Int)≤1000∧(List.length os:Int)≤1000∧(List.length ks:Int)≤1000∧(List.length gs:Int)≤1000∧(List.length bs:Int)≤1000) (.req (azv (⟨false,(gB cs os ks gs bs),(List.length (gB cs os ks gs bs):Int),(0:Int),cs,os,ks,gs,bs,([]:List ByteArray)⟩:vW)) (.br (ig (ahM (⟨false,(gB cs os ks gs bs),(List.length (gB cs os ks gs bs):Int),(0:Int),cs,os,ks,gs,bs,([]:List ByteArray)⟩:vW)) (.ret)) (.ok (.v (.bool (ad6 (⟨false,(gB cs os ks gs bs),(List.length (gB cs os ks gs bs):Int),(0:Int),cs,os,ks,gs,bs,([]:List ByteArray)⟩:vW)).r))) (.req ((List.length cs:Int)≤1000∧(List.length os:Int)≤1000∧(List.length ks:Int)≤1000∧(List.length gs:Int)≤1000∧(List.length bs:Int)≤1000) (.ok (.v (.bool (Us cs os ks gs bs)))))))):=by kernel_rfl
theorem adz:Valid Tryz.prog aP 53 Iw:=aH Tryz.func53 rfl apE aG (L:=(fun i=>if i=5 then Ul.lp else aC i)) (fun b hb=>by
 rw [show aF _=[Fp] by kernel_rfl] at hb
 simp only [List.mem_cons,List.not_mem_nil,or_false] at hb
 subst hb
 exact arM) (fun args lv h=>by
 unfold aaV at h
 split at h
 ·simp only [canL,canX]
  rw [al4]
  rename_i cs os ks gs bs
  obtain rfl:=h
  refine ⟨fun c=>congrArg (fun z=>LV.v (.bool z)) ?_,fun c=>?_⟩
  ·rw [eq_comm,Bool.eq_false_iff]
   intro hx
   unfold fO at hx
   rw [Bool.and_eq_true,decide_eq_true_eq] at hx
   simp only [Bool.or_eq_true,decide_eq_true_eq] at c
   omega
  have hd:1≤cs.length∧cs.length≤16∧os.length≤8∧ks.length≤32∧gs.length≤16∧bs.length≤24:=by
   simp only [Bool.or_eq_false_iff,decide_eq_false_iff_not] at c
   omega
  have hs:fO cs os ks gs bs=(((gB cs os ks gs bs).all nameB&&once (gB cs os ks gs bs))&&Us cs os ks gs bs):=by
   unfold fO
   rw [decide_eq_true hd,Bool.true_and,Bool.and_assoc]
  have hl:((gB cs os ks gs bs).length:Int)≤1000:=by
   unfold gB
   simp only [List.length_append,List.length_map]
   omega
  rw [hs]
  have hr:(List.length cs:Int)≤1000∧(List.length os:Int)≤1000∧(List.length ks:Int)≤1000∧(List.length gs:Int)≤1000∧(List.length bs:Int)≤1000:=by omega
  refine ⟨hr,?_⟩
  generalize gB cs os ks gs bs=l at*
  refine nD ⟨⟨rfl,rfl,rfl,hl,trivial⟩,rfl,rfl⟩ (fun hE=>?_)
  obtain ⟨s',_,hq⟩:=arI _ hE.1
  rcases hq with ⟨q1,q2⟩ |⟨q1,q2,j,q3,q4⟩
  ·rw [q1]
   have hk:=(kE (d:=emp) (p:=nameB) (k:=id)).1 q2
   rw [List.map_id] at hk
   refine ⟨fun h=>(by cases h),fun _=>⟨hr,?_⟩⟩
   rw [hk,Bool.true_and]
   rfl
  ·rw [q1,q2]
   refine ⟨fun _=>congrArg (fun z=>LV.v (.bool z)) ?_,fun h=>by cases h⟩
   have hn:(l.all nameB&&once l)=false:=by
    rw [Bool.eq_false_iff];intro hx
    have:=(kE (d:=emp) (p:=nameB) (k:=id)).2 (by rw [List.map_id];exact hx) j q3
    exact Bool.noConfusion (this.symm.trans q4)
   rw [hn]
   rfl
 ·cases h)
end Go.Proofs.YtlihnbimgclogaaGreatDoor
namespace Go.Proofs.YtlihnbimgclogaaGreatDoor
open Go.Sx
def abf:List LV→T LV
 | [.agg [.xl (.pair .str (.pair (.int .i64) (.pair (.int .i64) (.pair (.int .i64) (.pair (.pair (.int .i64) (.int .i64)) (.pair (.int .i64) (.pair (.int .i64) (.pair (.int .i64) (.pair (.int .i64) (.int .i64)))))))))) cs,.xl (.str) os,.xl (.pair .str (.pair (.int .i64) (.pair (.int .i64) (.int .i64)))) ks,.xl (.pair .str (.pair (.int .i64) (.pair (.int .i64) (.pair (.int .i64) (.pair (.int .i64) (.pair (.int .i64) (.pair (.int .i64) (.int .i64)))))))) gs,.xl (.pair .str (.int .i64)) bs],.v (.int .i64 c)]=> .ok (.fn 129 [.xq 1 (fun j=>([.v (.int .i64 c)]:List LV).getD j .junk),.xq 5 (fun j=>([.xl dW cs,.xl .str os,.xl eu ks,.xl dQ gs,.xl eG bs]:List LV).getD j .junk)])
 |_=> .no
noncomputable def Xg:List LV→T LV:=gW Tryz.prog Tryz.f104.params.toList abf
noncomputable def zI:Specs:=bf []
theorem Dq:∀g S,zI g=some S→Valid Tryz.prog aP g S:=aS (l:=[]) trivial
noncomputable def Zt:Hand:=inl Tryz.prog aP zI (lJ Tryz.prog aP (zI) 20 2) 9
theorem ag2:dM Tryz.prog aP Zt:=bT Dq (dP Dq) 9
theorem amm (cs:List Cd) (os:List ByteArray) (ks:List Ko) (gs:List Ch) (bs:List Ba) (c:Int):bW Tryz.prog aP (zI) Zt aC Tryz.f104 [.agg [.xl dW cs,.xl .str os,.xl eu ks,.xl dQ gs,.xl eG bs],.v (.int .i64 c)]=.ok (.fn 129 [.xq 1 (fun j=>([.v (.int .i64 c)]:List LV).getD j .junk),.xq 5 (fun j=>([.xl dW cs,.xl .str os,.xl eu ks,.xl dQ gs,.xl eG bs]:List LV).getD j .junk)]):=by kernel_rfl
theorem ara:Valid Tryz.prog aP 104 Xg:=aH Tryz.func104 rfl Dq ag2 (aW (by kernel_rfl)) (fun args lv h=>by
 unfold abf at h
 split at h
 ·simp only [canL,canX]
  rw [amm]
  exact h
 ·cases h)
noncomputable def aee:Array Tmp×Code×Code:=((jD (Tryz.f103.body.getD .skip))[0]?).getD (#[],.skip,.skip)
noncomputable def axy:Array Tmp:=aee.1
noncomputable def axR:Code:=aee.2.1
noncomputable def axM:Code:=aee.2.2
structure oP where
 cs:List Cd
 os:List ByteArray
 ks:List Ko
 gs:List Ch
 bs:List Ba
 c:Int
 b0:Int
 b1:Bool
 st:LS
def aAV (s:oP):List LV:=[.um 2,.xq 5 (fun j=>([.xl dW s.cs,.xl .str s.os,.xl eu s.ks,.xl dQ s.gs,.xl eG s.bs]:List LV).getD j .junk),.v (.int .i64 s.c)]
noncomputable def azZ (s:oP):List aT:=[⟨[.v (.int .i64 s.b0)],3,.cl,false⟩,⟨[.v (.bool s.b1)],4,.cl,false⟩,⟨[.junk,.junk,.junk,.own 0 0,.own 1 0,.v (.tuple #[]),.junk,.v (.tuple #[]),.v (.tuple #[]),.v (.tuple #[]),.v (.tuple #[])],0,.kD axy axR axM s.st,false⟩]
noncomputable def Sz:Code:=((aF (Tryz.f129.body.getD .skip))[0]?).getD .skip
def JG (s:oP):T (Rd oP):=
 .br (decide (s.c≥0)) (.br (s.c==s.b0) (.ok (.stop (.ret) {s with b1:=true,st:=(.done (.ret))})) (.req (0≤s.c∧s.c<(List.length s.cs:Int)) (.ok (.next {s with c:=(fP s.cs s.c).2.1})))) (.ok (.stop (.exit 0) s))
abbrev Kt (s:oP):=(JG s).rd s
def ajD (s:oP):Prop:=s.st=.ready∧upB s.cs=true∧s.c<(s.cs.length:Int)∧s.b1=false
def TQ (s:oP):Prop:=s.st=.ready∧upB s.cs=true∧s.c<(s.cs.length:Int)
def NJ (s:oP):Nat:=(s.c+1).toNat
def aqD (x:Ex) (s s':oP):Prop:=(x=.ret∧s'.b1=true∧Ut s.cs s.b0 s.c=true)∨(x=.exit 0∧Ut s.cs s.b0 s.c=false)
theorem axU:∀s,ajD s→TQ s:=by
 intro s h
 obtain ⟨h0,h1,h2,h3⟩:=h
 exact ⟨h0,h1,h2⟩
theorem aei (s:oP) (hI:TQ s):bM (fun s'=>TQ s'∧NJ s'<NJ s) (fun x s'=>aqD x s s') (Kt s):=by
 unfold Kt JG
 dsimp only [T.rd,T.rl]
 obtain ⟨h0,h1,h2⟩:=hI
 have hp:=afl (o:=s.b0) h1 h2
 refine au (fun c1=>au (fun c2=>?_) (fun c2=>?_)) (fun c1=>?_)
 ·have c1:0≤s.c:=by simpa using c1
  exact .inl ⟨rfl,rfl,by rw [hp,if_pos c1,c2];rfl⟩
 ·have c1:0≤s.c:=by simpa using c1
  have:=UC h1 c1 h2
  exact ⟨⟨h0,h1,by simp only;omega⟩,by simp only [NJ];omega⟩
 ·have c1:¬(0≤s.c):=by simpa using c1
  exact .inr ⟨rfl,by rw [hp,if_neg c1]⟩
noncomputable def Jj:bQ oP:=⟨3,18,[0,2,4],[],aAV,azZ,fun v b=>⟨aQ dW (mJ (v.getD 1 .junk) 0),aQ .str (mJ (v.getD 1 .junk) 1),aQ eu (mJ (v.getD 1 .junk) 2),aQ dQ (mJ (v.getD 1 .junk) 3),aQ eG (mJ (v.getD 1 .junk) 4),gI (v.getD 2 .junk),gI (aY (aO b 0) 0),vH (aY (aO b 1) 0),.ready⟩,JG,fun s r=> {r with cs:=s.cs,os:=s.os,ks:=s.ks,gs:=s.gs,bs:=s.bs,b0:=s.b0},fun s=> {s with st:=.ready},fun x s=> {s with st:=(match x with| .ret=>(.done (.ret)) | .exit 0=> .ready|_=> .ready)},[.ret,.exit 0],ajD,TQ,NJ⟩
noncomputable abbrev MS:=Jj.run
noncomputable abbrev OW:=Jj.jZ
abbrev avZ:=Jj.q
theorem asz (s:oP) (hI:TQ s):(JG s).all (fun _=>True):=by
 refine ⟨fun c1=>⟨fun _=>trivial,fun c2=>⟨?_,trivial⟩⟩,fun _=>trivial⟩
 ·(obtain ⟨h0,h1,h2⟩:=hI;simp at c1 h2;exact ⟨c1,h2⟩)
theorem Vf:Jj.Ok:=⟨fun s=>by kernel_rfl,fun s=>by kernel_rfl,fun s=>rfl,fun s t r=>rfl,fun s=>rfl,fun s=>by kernel_rfl⟩
theorem UW:Jj.Pf (aqD):=⟨axU,fun s h=>by
 obtain ⟨cs,os,ks,gs,bs,c,b0,b1,st⟩:=s
 have e:st=.ready:=h.1
 subst e
 rfl,aei,asz⟩
theorem aky:bg Tryz.prog aP (AN 3) (.loop Sz) Jj.lp:=bQ.snd Vf UW (bF (Γ:=zI) (K:=Zt) (L:=(sH Tryz.prog aP zI Zt 20 2)) Dq ag2 Sz (fun b _=>dR Dq ag2 20 2 b)) (fun s=>by kernel_rfl)
theorem ato (s:oP) (hE:ajD s):(OW s=.ret∧(MS s).b1=true∧Ut s.cs s.b0 s.c=true)∨(OW s=.exit 0∧Ut s.cs s.b0 s.c=false):=by
 have hk:=bQ.uy Vf UW (fun s=>Ut s.cs s.b0 s.c) (fun s hI=>by
  obtain ⟨h0,h1,h2⟩:=hI
  have hp:=afl (o:=s.b0) h1 h2
  show bM _ _ (Kt s)
  unfold Kt JG
  dsimp only [T.rd,T.rl]
  refine au (fun c1=>au (fun c2=>rfl) (fun c2=>?_)) (fun c1=>rfl)
  have c1:0≤s.c:=by simpa using c1
  show Ut _ _ _=Ut _ _ _
  rw [hp,if_pos c1,c2,Bool.false_or]) s hE
 have hk:Ut s.cs s.b0 (MS s).c=Ut s.cs s.b0 s.c:=hk
 obtain ⟨s',hI,hf⟩:=bQ.end_ Vf UW s hE
 have hq:=xh (aei s' hI) hf
 have hc:=xh (Pn:=fun _=>True) (Ps:=fun _ r=>r.cs=s'.cs∧r.b0=s'.b0∧r.c=s'.c) (r:=Kt s') (by
   unfold Kt JG
   dsimp only [T.rd,T.rl]
   exact au (fun _=>au (fun _=>⟨rfl,rfl,rfl⟩) (fun _=>trivial)) (fun _=>⟨rfl,rfl,rfl⟩)) hf
 obtain ⟨hc1,hc3,hc2⟩:=hc
 have e1:s.cs=s'.cs:=hc1
 have e2:s.b0=s'.b0:=hc3
 rw [←hk,hc2,e1,e2]
 exact hq
def aiE:List LV→T LV
 | [.fn 129 [.xq 1 q0,.xq 5 q1],.v (.int .i64 o)]=>(match ([q0 0]:List LV) with
  | [.v (.int .i64 c)]=>(match ([q1 0,q1 1,q1 2,q1 3,q1 4]:List LV) with
  | [.xl (.pair .str (.pair (.int .i64) (.pair (.int .i64) (.pair (.int .i64) (.pair (.pair (.int .i64) (.int .i64)) (.pair (.int .i64) (.pair (.int .i64) (.pair (.int .i64) (.pair (.int .i64) (.int .i64)))))))))) cs,.xl (.str) _,.xl (.pair .str (.pair (.int .i64) (.pair (.int .i64) (.int .i64)))) _,.xl (.pair .str (.pair (.int .i64) (.pair (.int .i64) (.pair (.int .i64) (.pair (.int .i64) (.pair (.int .i64) (.pair (.int .i64) (.int .i64)))))))) _,.xl (.pair .str (.int .i64)) _]=> .req (upB cs=true∧c<(List.length cs:Int)) (.ok (.v (.bool (Ut cs o c))))
  |_=> .no)
  |_=> .no)
 |_=> .no
noncomputable def aim:List LV→T LV:=gW Tryz.prog Tryz.f103.params.toList aiE
noncomputable def apr:Hand:=inl Tryz.prog aP zI (ku 129 3 1 (Jj.lp) (lJ Tryz.prog aP (zI) 20 2)) 9
theorem ayw:dM Tryz.prog aP apr:=bT Dq (dL Tryz.func129 rfl (by kernel_rfl) aky (dP Dq)) 9
theorem atY (c:Int) (cs:List Cd) (os:List ByteArray) (ks:List Ko) (gs:List Ch) (bs:List Ba) (o:Int):bW Tryz.prog aP (zI) apr aC Tryz.f103 [.fn 129 [.xq 1 (fun j=>([.v (.int .i64 c)]:List LV).getD j .junk),.xq 5 (fun j=>([.xl dW cs,.xl .str os,.xl eu ks,.xl dQ gs,.xl eG bs]:List LV).getD j .junk)],.v (.int .i64 o)]=.req (avZ (⟨cs,os,ks,gs,bs,c,o,false,.ready⟩:oP)) (.br (ig (OW (⟨cs,os,ks,gs,bs,c,o,false,.ready⟩:oP)) (.ret)) (.ok (.v (.bool (MS (⟨cs,os,ks,gs,bs,c,o,false,.ready⟩:oP)).b1))) (.ok (.v (.bool false)))):=by kernel_rfl
theorem awZ:Valid Tryz.prog aP 103 aim:=aH Tryz.func103 rfl Dq ayw (aW (by kernel_rfl)) (fun args lv h=>by
 unfold aiE at h
 split at h
 ·split at h
  case h_2=>cases h
  rename_i heq0
  split at h
  case h_2=>cases h
  rename_i heq1
  simp only [canL,canX]
  rw [oH (n:=1) heq0]
  simp only [canL,canX]
  rw [oH (n:=5) heq1]
  simp only [canL,canX]
  rw [atY]
  obtain ⟨⟨hu,hc⟩,rfl⟩:=h
  refine nD ⟨⟨rfl,hu,hc,rfl⟩,rfl,rfl⟩ (fun hE=>?_)
  rcases ato _ hE.1 with ⟨h1,h2,h3⟩ |⟨h1,h2⟩
  ·rw [h1,h2]
   exact ⟨fun _=>congrArg (fun z=>LV.v (.bool z)) h3.symm,fun h=>by cases h⟩
  ·rw [h1]
   exact ⟨fun h=>(by cases h),fun _=>congrArg (fun z=>LV.v (.bool z)) h2.symm⟩
 ·cases h)
end Go.Proofs.YtlihnbimgclogaaGreatDoor
namespace Go.Proofs.YtlihnbimgclogaaGreatDoor
open Go.Sx
structure uM where
 l:List Ch
 n:Int
 i:Int
 bJ:List Cd
 iL:List ByteArray
 fG:List Ko
 fV:List Ch
 lZ:List Ba
 b1:Int
 out:List Int
def aCg (s:uM):List LV:=[.fn 102 [.own 0 0,.own 1 0],.os 2 1 0 (List.length s.out),.xl dQ s.l,.v (.int .i64 s.n),.v (.int .i64 s.i)]
def aB8 (s:uM):List aT:=[⟨[.xl dW s.bJ,.xl .str s.iL,.xl eu s.fG,.xl dQ s.fV,.xl eG s.lZ],28,.cl,false⟩,⟨[.v (.int .i64 s.b1)],3,.cl,false⟩,⟨[],3,.vec (.int .i64) s.out,false⟩]
noncomputable def Fz:Code:=((aF (Tryz.f55.body.getD .skip))[0]?).getD .skip
def aj6 (s:uM):T (Rd uM):=
 .br (decide (s.i<s.n)) (.req (0≤s.i∧s.i<(List.length s.l:Int)) (.req (upB s.bJ=true∧(bC s.l s.i).2.1<(List.length s.bJ:Int)) (.br (Ut s.bJ s.b1 (bC s.l s.i).2.1) (.req (0+(List.length s.out)=List.length s.out∧((List.length s.out+List.length ([s.i]):Nat):Int)*8≤2^47∧((List.length s.out+List.length ([s.i]):Nat):Int)<2^62) (.req (0=0∧(List.length s.out+List.length ([s.i]))=List.length (s.out++([s.i]))) (.ok (.next {s with i:=(IntKind.i64.wrap (s.i+1)),out:=(s.out++([s.i]))})))) (.rl s.out (.ok (.next {s with i:=(IntKind.i64.wrap (s.i+1))})))))) (.rl s.out (.ok (.stop (.exit 0) s)))
abbrev ay2 (s:uM):=(aj6 s).rd s
def aox (s:uM):Prop:=s.i=0∧s.out=[]∧s.n=(s.l.length:Int)∧s.n≤1000∧upB s.bJ=true∧atB s.bJ s.l=true
def adm (s:uM):Prop:=(0≤s.i∧s.i≤s.n)∧s.out=rW s.bJ s.l s.b1 s.i.toNat∧s.n=(s.l.length:Int)∧s.n≤1000∧upB s.bJ=true∧atB s.bJ s.l=true
def QY (s:uM):Nat:=(s.n-s.i).toNat
def avz (x:Ex) (_ s':uM):Prop:=x=.exit 0∧s'.out=rW s'.bJ s'.l s'.b1 s'.l.length
theorem aBY:∀s,aox s→adm s:=by
 intro s h
 obtain ⟨h0,h1,h2,h3,h4,h5⟩:=h
 exact ⟨⟨by omega,by omega⟩,by rw [h0,h1];rfl,h2,h3,h4,h5⟩
theorem azk (s:uM) (hI:adm s):bM (fun s'=>adm s'∧QY s'<QY s) (fun x s'=>avz x s s') (ay2 s):=by
 unfold ay2 aj6
 dsimp only [T.rd,T.rl]
 obtain ⟨⟨h0,h1⟩,h2,h3,h4,h5,h6⟩:=hI
 refine au (fun c1=>?_) (fun c1=>?_)
 ·have c1:s.i<s.n:=by simpa using c1
  have hs:=ac7 (cs:=s.bJ) (gs:=s.l) (o:=s.b1) (k:=s.i.toNat)
  rw [show s.i.toNat+1=(s.i+1).toNat by omega,Int.toNat_of_nonneg h0] at hs
  rw [aK (x:=s.i+1) (by omega) (by omega)]
  refine au (fun c2=>?_) (fun c2=>?_)
  ·refine ⟨⟨⟨by simp only;omega,by simp only;omega⟩,?_,h3,h4,h5,h6⟩,by simp only [QY];omega⟩
   simp only
   rw [hs,if_pos c2,h2]
  ·refine ⟨⟨⟨by simp only;omega,by simp only;omega⟩,?_,h3,h4,h5,h6⟩,by simp only [QY];omega⟩
   simp only
   rw [hs,if_neg (by rw [c2];simp),h2,List.append_nil]
 ·have c1:s.n≤s.i:=by simpa using c1
  exact ⟨rfl,by rw [h2,show s.i.toNat=s.l.length by omega]⟩
def Ur:bQ uM:=⟨0,42,[6,7,26,27,28],[.nl 7 3 (.int .i64)],aCg,aB8,fun v b=>⟨aQ dQ (v.getD 2 .junk),gI (v.getD 3 .junk),gI (v.getD 4 .junk),aQ dW (aY (aO b 0) 0),aQ .str (aY (aO b 0) 1),aQ eu (aY (aO b 0) 2),aQ dQ (aY (aO b 0) 3),aQ eG (aY (aO b 0) 4),gI (aY (aO b 1) 0),jk (.int .i64) (aO b 2)⟩,aj6,fun s r=> {r with l:=s.l,n:=s.n,bJ:=s.bJ,iL:=s.iL,fG:=s.fG,fV:=s.fV,lZ:=s.lZ,b1:=s.b1},fun s=>s,fun _ s=>s,[.exit 0],aox,adm,QY⟩
abbrev BO:=Ur.run
abbrev auS:=Ur.jZ
abbrev azA:=Ur.q
theorem axu (s:uM) (hI:adm s):(aj6 s).all (fun _=>True):=by
 refine ⟨fun c1=>⟨?_,?_,fun c2=>⟨?_,?_,trivial⟩,fun c2=>⟨⟨rfl,rfl⟩,trivial⟩⟩,fun c1=>⟨⟨rfl,rfl⟩,trivial⟩⟩
 all_goals ((obtain ⟨⟨h0,h1⟩,h2,h3,h4,h5,h6⟩:=hI;have hol:s.out.length≤s.i.toNat:=(by rw [h2];exact Il);(try simp only [decide_eq_true_eq] at c1);first|omega|exact ⟨h5,avo h6 h0 (by omega)⟩ |(refine ⟨by omega,?_,?_⟩<;>simp only [List.length_cons,List.length_nil]<;>omega) |exact ⟨rfl,by simp⟩ |exact ⟨rfl,rfl⟩))
noncomputable def RH:Specs:=bf [(53,Iw),(103,aim),(104,Xg)]
theorem ZA:∀g S,RH g=some S→Valid Tryz.prog aP g S:=aS (l:=[(53,Iw),(103,aim),(104,Xg)]) ⟨adz,awZ,ara,trivial⟩
noncomputable def ahe:Hand:=inl Tryz.prog aP RH (lJ Tryz.prog aP (RH) 20 2) 9
theorem apf:dM Tryz.prog aP ahe:=bT ZA (dP ZA) 9
theorem aoY:Ur.Ok:=⟨fun s=>by kernel_rfl,fun s=>by kernel_rfl,fun s=>rfl,fun s t r=>rfl,fun s=>rfl,fun s=>by kernel_rfl⟩
theorem aoR:Ur.Pf (avz):=⟨aBY,fun _ _=>rfl,azk,axu⟩
theorem arR:bg Tryz.prog aP (AN 0) (.loop Fz) Ur.lp:=bQ.snd aoY aoR (aU (Γ:=RH) (K:=ahe) (L:=aC) ZA apf Fz (fun b hb=>by rw [show aF Fz=[] by kernel_rfl] at hb;cases hb)) (fun s=>by kernel_rfl)
theorem avj (s:uM) (hE:aox s):∃s',adm s'∧avz (auS s) s' (BO s):=bQ.fin aoY aoR s hE
def TI:List LV→T LV
 | [.agg [.xl (.pair .str (.pair (.int .i64) (.pair (.int .i64) (.pair (.int .i64) (.pair (.pair (.int .i64) (.int .i64)) (.pair (.int .i64) (.pair (.int .i64) (.pair (.int .i64) (.pair (.int .i64) (.int .i64)))))))))) cs,.xl (.str) os,.xl (.pair .str (.pair (.int .i64) (.pair (.int .i64) (.int .i64)))) ks,.xl (.pair .str (.pair (.int .i64) (.pair (.int .i64) (.pair (.int .i64) (.pair (.int .i64) (.pair (.int .i64) (.pair (.int .i64) (.int .i64)))))))) gs,.xl (.pair .str (.int .i64)) bs],.v (.int .i64 o)]=> .ok (.gV [.xl (.int .i64) (bU cs os ks gs bs o),.v (.int .i64 (avm cs os ks gs bs o))])
 |_=> .no
noncomputable def Pz:List LV→T LV:=gW Tryz.prog Tryz.f55.params.toList TI
theorem agy (cs:List Cd) (os:List ByteArray) (ks:List Ko) (gs:List Ch) (bs:List Ba) (o:Int):bW Tryz.prog aP (RH) ahe (fun i=>if i=6 then Ur.lp else aC i) Tryz.f55 [.agg [.xl dW cs,.xl .str os,.xl eu ks,.xl dQ gs,.xl eG bs],.v (.int .i64 o)]=.br ((!(fO cs os ks gs bs)) ||((decide (o<0)) ||(decide (o≥(List.length cs:Int))))) (.ok (.gV [.xl (.int .i64) ([]:List Int),.v (.int .i64 1)])) (.req (0=0∧0=List.length ([]:List Int)) (.req (azA (⟨gs,(List.length gs:Int),(0:Int),cs,os,ks,gs,bs,o,([]:List Int)⟩:uM)) (.req (0+(List.length (BO (⟨gs,(List.length gs:Int),(0:Int),cs,os,ks,gs,bs,o,([]:List Int)⟩:uM)).out)≤List.length (BO (⟨gs,(List.length gs:Int),(0:Int),cs,os,ks,gs,bs,o,([]:List Int)⟩:uM)).out) (.ok (.gV [.xl (.int .i64) (((BO (⟨gs,(List.length gs:Int),(0:Int),cs,os,ks,gs,bs,o,([]:List Int)⟩:uM)).out.drop 0).take (List.length (BO (⟨gs,(List.length gs:Int),(0:Int),cs,os,ks,gs,bs,o,([]:List Int)⟩:uM)).out)),.v (.int .i64 0)]))))):=by kernel_rfl
theorem ajY:Valid Tryz.prog aP 55 Pz:=aH Tryz.func55 rfl ZA apf (L:=(fun i=>if i=6 then Ur.lp else aC i)) (fun b hb=>by
 rw [show aF _=[Fz] by kernel_rfl] at hb
 simp only [List.mem_cons,List.not_mem_nil,or_false] at hb
 subst hb
 exact arR) (fun args lv h=>by
 unfold TI at h
 split at h
 ·simp only [canL,canX]
  rw [agy]
  rename_i cs os ks gs bs o
  obtain rfl:=h
  refine ⟨fun c=>?_,fun c=>?_⟩
  ·have hn:¬(fO cs os ks gs bs=true∧0≤o∧o<(cs.length:Int)):=by
    rintro ⟨h1,h2,h3⟩
    rw [h1] at c
    simp at c
    omega
   show LV.gV _=_
   unfold bU avm
   rw [if_neg hn,if_neg hn]
  ·simp only [Bool.or_eq_false_iff,Bool.not_eq_false',decide_eq_false_iff_not] at c
   have hp:fO cs os ks gs bs=true∧0≤o∧o<(cs.length:Int):=⟨c.1,by omega,by omega⟩
   have hl:=(gm.1 c.1).1
   have hE:aox ⟨gs,(List.length gs:Int),(0:Int),cs,os,ks,gs,bs,o,([]:List Int)⟩:=⟨rfl,rfl,rfl,by simp only;omega,adT c.1,adV c.1⟩
   obtain ⟨s',_,q1,q2⟩:=avj _ hE
   have q2:(BO ⟨gs,(List.length gs:Int),(0:Int),cs,os,ks,gs,bs,o,([]:List Int)⟩).out=rW cs gs o gs.length:=q2
   refine ⟨⟨rfl,rfl⟩,⟨hE,rfl,rfl⟩,by omega,?_⟩
   show LV.gV [LV.xl _ _,_]=_
   rw [List.drop_zero,List.take_length,q2]
   unfold bU avm
   rw [if_pos hp,if_pos hp]
 ·cases h)
end Go.Proofs.YtlihnbimgclogaaGreatDoor
namespace Go.Proofs.YtlihnbimgclogaaGreatDoor
open Go.Sx
def abH:List LV→T LV
 | [.v (.agg ⟨[.int .i64 am,.int .i64 mo,.int .i64 ga,.int .i64 lo,.int .i64 de]⟩)]=> .ok (.v (.bool (O5 (am,mo,ga,lo,de))))
 |_=> .no
noncomputable def XA:List LV→T LV:=gW Tryz.prog Tryz.f130.params.toList abH
noncomputable def J9:Specs:=bf []
theorem Rt:∀g S,J9 g=some S→Valid Tryz.prog aP g S:=aS (l:=[]) trivial
noncomputable def apq:Hand:=inl Tryz.prog aP J9 (lJ Tryz.prog aP (J9) 20 2) 9
theorem ayv:dM Tryz.prog aP apq:=bT Rt (dP Rt) 9
theorem amR (am mo ga lo de:Int):bW Tryz.prog aP (J9) apq aC Tryz.f130 [.v (.agg #[.int .i64 am,.int .i64 mo,.int .i64 ga,.int .i64 lo,.int .i64 de])]=.br ((am==0)&&((mo==0)&&((ga==0)&&((lo==0)&&(de==0))))) (.ok (.v (.bool true))) (.br ((decide (am≥0))&&(decide (am≤200000))) (.br (decide (mo>am)) (.br (decide (mo≤200000)) (.br ((decide (ga≥0))&&(decide (ga≤1000))) (.br ((decide (lo≥0))&&(decide (lo≤1000))) (.ok (.v (.bool ((decide (de≥1))&&(decide (de≤1000000)))))) (.ok (.v (.bool false)))) (.ok (.v (.bool false)))) (.ok (.v (.bool false)))) (.ok (.v (.bool false)))) (.ok (.v (.bool false)))):=by kernel_rfl
theorem arA:Valid Tryz.prog aP 130 XA:=aH Tryz.func130 rfl Rt ayv (aW (by kernel_rfl)) (fun args lv h=>by
 unfold abH at h
 split at h
 ·simp only [canL,canX]
  rw [amR]
  rename_i am mo ga lo de
  obtain rfl:=h
  unfold O5 cbZ
  simp only
  refine ⟨fun c=>by rw [c];rfl,fun c=>?_⟩
  rw [c,Bool.false_or]
  unfold inB
  refine ⟨fun c1=>⟨fun c2=>⟨fun c3=>⟨fun c4=>⟨fun c5=>?_,fun c5=>?_⟩,fun c4=>?_⟩,fun c3=>?_⟩,fun c2=>?_⟩,fun c1=>?_⟩
  all_goals refine congrArg (fun z=>LV.v (.bool z)) ?_
  all_goals
   rw [Bool.eq_iff_iff]
   simp only [Bool.and_eq_true,Bool.and_eq_false_iff,decide_eq_true_eq,decide_eq_false_iff_not,Bool.false_eq_true] at*
   constructor<;>intro hz<;>first|exact hz.elim|(exfalso;omega) |omega
 ·cases h)
def aaQ:List LV→T LV
 | [.xq 6 q0]=>(match ([q0 0,q0 1,q0 2,q0 3,q0 4,q0 5]:List LV) with
  | [.v (.int .i64 _),.v (.int .i64 _),.v (.int .i64 _),.v (.int .i64 lo),.v (.int .i64 de),.v (.int .i64 _)]=> .ok (.v (.int .i64 (if de<lo then de else lo)))
  |_=> .no)
 |_=> .no
noncomputable def WQ:List LV→T LV:=gW Tryz.prog Tryz.f132.params.toList aaQ
theorem alZ (am mo ga lo de now:Int):bW Tryz.prog aP (J9) eY aC Tryz.f132 [.xq 6 (fun j=>([.v (.int .i64 am),.v (.int .i64 mo),.v (.int .i64 ga),.v (.int .i64 lo),.v (.int .i64 de),.v (.int .i64 now)]:List LV).getD j .junk)]=.ok (.v (.int .i64 (if de<lo then de else lo))):=by kernel_rfl
theorem aqT:Valid Tryz.prog aP 132 WQ:=aH Tryz.func132 rfl Rt aG (aW (by kernel_rfl)) (fun args lv h=>by
 unfold aaQ at h
 split at h
 ·split at h
  case h_2=>cases h
  rename_i heq0
  simp only [canL,canX]
  rw [oH (n:=6) heq0]
  simp only [canL,canX]
  rw [alZ]
  exact h
 ·cases h)
def aaP:List LV→T LV
 | [.xq 6 q0]=>(match ([q0 0,q0 1,q0 2,q0 3,q0 4,q0 5]:List LV) with
  | [.v (.int .i64 am),.v (.int .i64 mo),.v (.int .i64 ga),.v (.int .i64 lo),.v (.int .i64 de),.v (.int .i64 _)]=> .ok (.v (.bool (cbZ (am,mo,ga,lo,de))))
  |_=> .no)
 |_=> .no
noncomputable def WO:List LV→T LV:=gW Tryz.prog Tryz.f131.params.toList aaP
theorem alY (am mo ga lo de now:Int):bW Tryz.prog aP (J9) eY aC Tryz.f131 [.xq 6 (fun j=>([.v (.int .i64 am),.v (.int .i64 mo),.v (.int .i64 ga),.v (.int .i64 lo),.v (.int .i64 de),.v (.int .i64 now)]:List LV).getD j .junk)]=.ok (.v (.bool ((am==0)&&((mo==0)&&((ga==0)&&((lo==0)&&(de==0))))))):=by kernel_rfl
theorem aqS:Valid Tryz.prog aP 131 WO:=aH Tryz.func131 rfl Rt aG (aW (by kernel_rfl)) (fun args lv h=>by
 unfold aaP at h
 split at h
 ·split at h
  case h_2=>cases h
  rename_i heq0
  simp only [canL,canX]
  rw [oH (n:=6) heq0]
  simp only [canL,canX]
  rw [alY]
  exact h
 ·cases h)
structure yJ where
 low:Int
 high:Int
 yE:Int
 O8:Int
 Pg:Int
 O9:Int
 WE:Int
 Io:Int
 b11:Int
 b12:Int
 b13:Int
 b14:Int
 WC:Int
 b3:Int
def aCf (s:yJ):List LV:=[.v (.int .i64 s.low),.v (.int .i64 s.high),.fn 134 [.own 2 0,.own 3 0]]
def aB7 (s:yJ):List aT:=[⟨[.v (.int .i64 s.yE),.v (.int .i64 s.O8),.v (.int .i64 s.Pg),.v (.int .i64 s.O9),.v (.int .i64 s.WE)],103,.cl,false⟩,⟨[.v (.int .i64 s.Io),.v (.int .i64 s.b11),.v (.int .i64 s.b12),.v (.int .i64 s.b13),.v (.int .i64 s.b14),.v (.int .i64 s.WC)],190,.cl,false⟩,⟨[.own 1 0],188,.cl,false⟩,⟨[.v (.int .i64 s.b3)],3,.cl,false⟩]
noncomputable def aaL:Code:=((aF (Tryz.f133.body.getD .skip))[0]?).getD .skip
def aj3 (s:yJ):T (Rd yJ):=
 .br (decide (s.low<s.high)) (.req ((2:Int)≠0) (.br (decide ((IntKind.i64.wrap ((IntKind.i64.wrap (s.b12*(IntKind.i64.wrap (s.low+(IntKind.i64.wrap ((IntKind.i64.wrap ((IntKind.i64.wrap (s.high-s.low))+1)).tdiv 2))))))*(IntKind.i64.wrap (s.low+(IntKind.i64.wrap ((IntKind.i64.wrap ((IntKind.i64.wrap (s.high-s.low))+1)).tdiv 2))))))≤s.b3)) (.ok (.next {s with low:=(IntKind.i64.wrap (s.low+(IntKind.i64.wrap ((IntKind.i64.wrap ((IntKind.i64.wrap (s.high-s.low))+1)).tdiv 2))))})) (.ok (.next {s with high:=(IntKind.i64.wrap ((IntKind.i64.wrap (s.low+(IntKind.i64.wrap ((IntKind.i64.wrap ((IntKind.i64.wrap (s.high-s.low))+1)).tdiv 2))))-1))})))) (.ok (.stop (.exit 0) s))
abbrev ay1 (s:yJ):=(aj3 s).rd s
def awh (s:yJ):Prop:=s.low=0∧s.high=1000∧(0≤s.b12∧s.b12≤1000)∧0≤s.b3
def adl (s:yJ):Prop:=(0≤s.low∧s.low≤s.high∧s.high≤1000)∧s.b12*s.low*s.low≤s.b3∧(∀a:Int,s.high<a→a≤1000→¬s.b12*a*a≤s.b3)∧(0≤s.b12∧s.b12≤1000)∧0≤s.b3
def QX (s:yJ):Nat:=(s.high-s.low).toNat
def avy (x:Ex) (_ s':yJ):Prop:=x=.exit 0∧s'.low=prm s'.b12 s'.b3
theorem aBR:∀s,awh s→adl s:=by
 intro s h
 obtain ⟨h0,h1,h2,h3⟩:=h
 exact ⟨by omega,by rw [h0];simpa using h3,fun a h h2=>by omega,h2,h3⟩
theorem ayA (s:yJ) (hI:adl s):bM (fun s'=>adl s'∧QX s'<QX s) (fun x s'=>avy x s s') (ay1 s):=by
 unfold ay1 aj3
 dsimp only [T.rd,T.rl]
 obtain ⟨⟨h0,h1,h2⟩,h3,h4,⟨h5,h6⟩,h7⟩:=hI
 have em:s.low<s.high→IntKind.i64.wrap (s.low+IntKind.i64.wrap ((IntKind.i64.wrap (IntKind.i64.wrap (s.high-s.low)+1)).tdiv 2))=s.low+(s.high-s.low+1) / 2:=fun c=>by
  rw [aK (x:=s.high-s.low) (by omega) (by omega),aK (x:=s.high-s.low+1) (by omega) (by omega),Int.tdiv_eq_ediv_of_nonneg (by omega),aK (x:=(s.high-s.low+1) / 2) (by omega) (by omega),aK (by omega) (by omega)]
 refine au (fun c1=>?_) (fun c1=>?_)
 ·have c1:s.low<s.high:=by simpa using c1
  rw [em c1]
  have hm1:s.low<s.low+(s.high-s.low+1) / 2:=by omega
  have hm2:s.low+(s.high-s.low+1) / 2≤s.high:=by omega
  generalize s.low+(s.high-s.low+1) / 2=m at hm1 hm2⊢
  obtain ⟨⟨b1,b2⟩,b3,b4⟩:=axb h5 h6 (m:=m) (by omega) (by omega)
  rw [aK (x:=s.b12*m) (by omega) (by omega),aK (x:=s.b12*m*m) (by omega) (by omega),aK (x:=m-1) (by omega) (by omega)]
  refine au (fun c2=>?_) (fun c2=>?_)
  ·have c2:s.b12*m*m≤s.b3:=by simpa using c2
   exact ⟨⟨⟨by simp only;omega,by simp only;omega,h2⟩,c2,h4,⟨h5,h6⟩,h7⟩,by simp only [QX];omega⟩
  ·have c2:¬s.b12*m*m≤s.b3:=by simpa using c2
   refine ⟨⟨⟨h0,by simp only;omega,by simp only;omega⟩,h3,fun a ha hk=>?_,⟨h5,h6⟩,h7⟩,by simp only [QX];omega⟩
   have:=aj9 h5 (a:=m) (b:=a) (by omega) (by simp only at ha;omega)
   simp only
   omega
 ·have c1:s.high≤s.low:=by simpa using c1
  refine ⟨rfl,(YX (k:=1000) h0 (by omega) (.inr h3) (fun a ha hk=>h4 a (by omega) (by omega))).symm⟩
def XM:bQ yJ:=⟨4,25,[0,1,2],[],aCf,aB7,fun v b=>⟨gI (v.getD 0 .junk),gI (v.getD 1 .junk),gI (aY (aO b 0) 0),gI (aY (aO b 0) 1),gI (aY (aO b 0) 2),gI (aY (aO b 0) 3),gI (aY (aO b 0) 4),gI (aY (aO b 1) 0),gI (aY (aO b 1) 1),gI (aY (aO b 1) 2),gI (aY (aO b 1) 3),gI (aY (aO b 1) 4),gI (aY (aO b 1) 5),gI (aY (aO b 3) 0)⟩,aj3,fun s r=> {r with yE:=s.yE,O8:=s.O8,Pg:=s.Pg,O9:=s.O9,WE:=s.WE,Io:=s.Io,b11:=s.b11,b12:=s.b12,b13:=s.b13,b14:=s.b14,WC:=s.WC,b3:=s.b3},fun s=>s,fun _ s=>s,[.exit 0],awh,adl,QX⟩
abbrev ad8:=XM.run
abbrev auR:=XM.jZ
abbrev azz:=XM.q
noncomputable def Dx:Specs:=bf [(130,XA),(131,WO),(132,WQ)]
theorem Hr:∀g S,Dx g=some S→Valid Tryz.prog aP g S:=aS (l:=[(130,XA),(131,WO),(132,WQ)]) ⟨arA,aqS,aqT,trivial⟩
noncomputable def ahd:Hand:=inl Tryz.prog aP Dx (lJ Tryz.prog aP (Dx) 20 2) 9
theorem ape:dM Tryz.prog aP ahd:=bT Hr (dP Hr) 9
theorem axt (s:yJ) (_:adl s):(aj3 s).all (fun _=>True):=by
 refine ⟨fun c1=>⟨?_,fun _=>trivial,fun _=>trivial⟩,fun _=>trivial⟩
 ·(first|decide|omega)
theorem aoX:XM.Ok:=⟨fun s=>by kernel_rfl,fun s=>by kernel_rfl,fun s=>rfl,fun s t r=>rfl,fun s=>rfl,fun s=>by kernel_rfl⟩
theorem aoQ:XM.Pf (avy):=⟨aBR,fun _ _=>rfl,ayA,axt⟩
theorem arQ:bg Tryz.prog aP (AN 4) (.loop aaL) XM.lp:=bQ.snd aoX aoQ (bF (Γ:=Dx) (K:=ahd) (L:=(sH Tryz.prog aP Dx ahd 20 2)) Hr ape aaL (fun b _=>dR Hr ape 20 2 b)) (fun s=>by kernel_rfl)
theorem auC (s:yJ) (hE:awh s):∃s',adl s'∧avy (auR s) s' (ad8 s):=bQ.fin aoX aoQ s hE
def abe:List LV→T LV
 | [.v (.agg ⟨[.int .i64 am,.int .i64 mo,.int .i64 ga,.int .i64 lo,.int .i64 de]⟩)]=> .ok (.v (.tuple #[.int .i64 (pmA (am,mo,ga,lo,de)),.int .i64 (pmE (am,mo,ga,lo,de))]))
 |_=> .no
noncomputable def Xf:List LV→T LV:=gW Tryz.prog Tryz.f105.params.toList abe
noncomputable def apo:Hand:=inl Tryz.prog aP Dx (ku 133 4 1 (XM.lp) (lJ Tryz.prog aP (Dx) 20 2)) 9
theorem ayu:dM Tryz.prog aP apo:=bT Hr (dL Tryz.func133 rfl (by kernel_rfl) arQ (dP Hr)) 9
theorem aml (am mo ga lo de:Int):bW Tryz.prog aP (Dx) apo aC Tryz.f105 [.v (.agg #[.int .i64 am,.int .i64 mo,.int .i64 ga,.int .i64 lo,.int .i64 de])]=.br (!(O5 (am,mo,ga,lo,de))) (.ok (.v (.tuple #[.int .i64 0,.int .i64 1]))) (.br (cbZ (am,mo,ga,lo,de)) (.ok (.v (.tuple #[.int .i64 1000,.int .i64 0]))) (.req (azz (⟨(0:Int),(1000:Int),am,mo,ga,lo,de,am,mo,ga,lo,de,(0:Int),(IntKind.i64.wrap ((if de<lo then de else lo)*(IntKind.i64.wrap (mo-am))))⟩:yJ)) (.ok (.v (.tuple #[.int .i64 (ad8 (⟨(0:Int),(1000:Int),am,mo,ga,lo,de,am,mo,ga,lo,de,(0:Int),(IntKind.i64.wrap ((if de<lo then de else lo)*(IntKind.i64.wrap (mo-am))))⟩:yJ)).low,.int .i64 0]))))):=by kernel_rfl
theorem aq9:Valid Tryz.prog aP 105 Xf:=aH Tryz.func105 rfl Hr ayu (aW (by kernel_rfl)) (fun args lv h=>by
 unfold abe at h
 split at h
 ·simp only [canL,canX]
  rw [aml]
  rename_i am mo ga lo de
  obtain rfl:=h
  refine ⟨fun c=>?_,fun c=>⟨fun c2=>?_,fun c2=>?_⟩⟩
  ·have c:O5 (am,mo,ga,lo,de)=false:=by simpa using c
   simp [T.all,pmA,pmE,c]
  ·have c:O5 (am,mo,ga,lo,de)=true:=by simpa using c
   simp [T.all,pmA,pmE,c,c2]
  ·have c:O5 (am,mo,ga,lo,de)=true:=by simpa using c
   obtain ⟨⟨h1,h2,h3⟩,⟨h4,h5⟩,⟨h6,h7⟩,h8,h9⟩:=avi c c2
   simp only at h1 h2 h3 h4 h5 h6 h7 h8 h9
   have hm:0≤(if de<lo then de else lo)∧(if de<lo then de else lo)≤1000:=by split<;>omega
   have e:pmA (am,mo,ga,lo,de)=prm ga ((if de<lo then de else lo)*(mo-am)):=by
    unfold pmA
    rw [if_pos c,if_neg (by rw [c2];simp)]
   have e2:pmE (am,mo,ga,lo,de)=0:=by
    unfold pmE
    rw [if_pos c]
   rw [e,e2,aK (x:=mo-am) (by omega) (by omega)]
   generalize (if de<lo then de else lo)=mn at hm⊢
   have a1:0≤mn*(mo-am):=Int.mul_nonneg hm.1 (by omega)
   have a2:mn*(mo-am)≤1000*(mo-am):=Int.mul_le_mul_of_nonneg_right hm.2 (by omega)
   rw [aK (x:=mn*(mo-am)) (by omega) (by omega)]
   refine nD ⟨⟨rfl,rfl,⟨h4,h5⟩,a1⟩,rfl,rfl⟩ (fun hE=>?_)
   obtain ⟨s',_,q1,q2⟩:=auC _ hE.1
   show LV.v (.tuple #[.int .i64 _,_])=_
   rw [q2]
   rfl
 ·cases h)
end Go.Proofs.YtlihnbimgclogaaGreatDoor
namespace Go.Proofs.YtlihnbimgclogaaGreatDoor
open Go.Sx
structure l9 where
 first:Int
 l:List Int
 n:Int
 i:Int
def aA7 (s:l9):List LV:=[.v (.int .i64 s.first),.xl (.int .i64) s.l,.v (.int .i64 s.n),.v (.int .i64 s.i)]
def aAb (_:l9):List aT:=[]
noncomputable def AO:Code:=((aF (Tryz.f106.body.getD .skip))[0]?).getD .skip
def Qn (s:l9):T (Rd l9):=
 .br (decide (s.i<s.n)) (.req (0≤s.i∧s.i<(List.length s.l:Int)) (.ok (.next {s with first:=(if (gi s.l s.i)<s.first then (gi s.l s.i) else s.first),i:=(IntKind.i64.wrap (s.i+1))}))) (.ok (.stop (.exit 0) s))
abbrev Z5 (s:l9):=(Qn s).rd s
def ab4 (s:l9):Prop:=s.i=0∧s.n=(s.l.length:Int)∧s.n≤1000
def LC (s:l9):Prop:=0≤s.i∧s.i≤s.n∧s.n=(s.l.length:Int)∧s.n≤1000
def NU (s:l9):Nat:=(s.n-s.i).toNat
def ai6 (x:Ex) (_ s':l9):Prop:=x=.exit 0∧s'.i=s'.n
theorem aya:∀s,ab4 s→LC s:=by
 intro s h
 obtain ⟨h0,h1,h2⟩:=h
 exact ⟨by omega,by omega,h1,h2⟩
theorem auh (s:l9) (hI:LC s):bM (fun s'=>LC s'∧NU s'<NU s) (fun x s'=>ai6 x s s') (Z5 s):=by
 unfold Z5 Qn
 dsimp only [T.rd,T.rl]
 obtain ⟨h0,h1,h2,h3⟩:=hI
 refine au (fun c1=>?_) (fun c1=>?_)
 ·have c1:s.i<s.n:=by simpa using c1
  rw [aK (x:=s.i+1) (by omega) (by omega)]
  exact ⟨⟨by simp only;omega,by simp only;omega,h2,h3⟩,by simp only [NU];omega⟩
 ·have c1:s.n≤s.i:=by simpa using c1
  exact ⟨rfl,by omega⟩
def Ep:bQ l9:=⟨0,18,[0,7,8,9],[],aA7,aAb,fun v _=>⟨gI (v.getD 0 .junk),aQ (.int .i64) (v.getD 1 .junk),gI (v.getD 2 .junk),gI (v.getD 3 .junk)⟩,Qn,fun s r=> {r with l:=s.l,n:=s.n},fun s=>s,fun _ s=>s,[.exit 0],ab4,LC,NU⟩
abbrev yZ:=Ep.run
abbrev anP:=Ep.jZ
abbrev awd:=Ep.q
theorem asL (s:l9) (hI:LC s):(Qn s).all (fun _=>True):=by
 refine ⟨fun c1=>⟨?_,trivial⟩,fun _=>trivial⟩
 ·(obtain ⟨h0,h1,h2,h3⟩:=hI;simp at c1;omega)
noncomputable def ZF:Specs:=bf []
theorem ahl:∀g S,ZF g=some S→Valid Tryz.prog aP g S:=aS (l:=[]) trivial
theorem Vp:Ep.Ok:=⟨fun s=>by kernel_rfl,fun s=>by kernel_rfl,fun s=>rfl,fun s t r=>rfl,fun s=>rfl,fun s=>by kernel_rfl⟩
theorem U4:Ep.Pf (ai6):=⟨aya,fun _ _=>rfl,auh,asL⟩
theorem akJ:bg Tryz.prog aP (AN 0) (.loop AO) Ep.lp:=bQ.snd Vp U4 (aU (Γ:=ZF) (K:=eY) (L:=aC) ahl aG AO (fun b hb=>by rw [show aF AO=[] by kernel_rfl] at hb;cases hb)) (fun s=>by kernel_rfl)
theorem am5 (s:l9) (hE:ab4 s):∃s',LC s'∧ai6 (anP s) s' (yZ s):=bQ.fin Vp U4 s hE
theorem agI (s:l9) (hE:ab4 s):(fun s:l9=>VG s.first (s.l.drop s.i.toNat)) (yZ s)=(fun s:l9=>VG s.first (s.l.drop s.i.toNat)) s:=by
 exact bQ.uy Vp U4 (fun s:l9=>VG s.first (s.l.drop s.i.toNat)) (fun s hI=>by
  show bM _ _ (Z5 s)
  unfold Z5 Qn
  dsimp only [T.rd,T.rl]
  obtain ⟨h0,h1,h2,h3⟩:=hI
  refine au (fun c1=>?_) (fun c1=>rfl)
  have c1:s.i<s.n:=by simpa using c1
  rw [aK (x:=s.i+1) (by omega) (by omega)]
  show VG _ _=VG _ _
  rw [(gi_step h0 (show s.i<s.l.length by omega)).1]
  rfl) s hE
def abr:List LV→T LV
 | [.v (.int .i64 f),.xl (.int .i64) l]=> .req ((List.length l:Int)≤1000) (.ok (.v (.int .i64 (VG f l))))
 |_=> .no
noncomputable def Xn:List LV→T LV:=gW Tryz.prog Tryz.f106.params.toList abr
theorem amz (f:Int) (l:List Int):bW Tryz.prog aP (ZF) eY (fun i=>if i=2 then Ep.lp else aC i) Tryz.f106 [.v (.int .i64 f),.xl (.int .i64) l]=.req (awd (⟨f,l,(List.length l:Int),(0:Int)⟩:l9)) (.ok (.v (.int .i64 (yZ (⟨f,l,(List.length l:Int),(0:Int)⟩:l9)).first))):=by kernel_rfl
theorem ark:Valid Tryz.prog aP 106 Xn:=aH Tryz.func106 rfl ahl aG (L:=(fun i=>if i=2 then Ep.lp else aC i)) (fun b hb=>by
 rw [show aF _=[AO] by kernel_rfl] at hb
 simp only [List.mem_cons,List.not_mem_nil,or_false] at hb
 subst hb
 exact akJ) (fun args lv h=>by
 unfold abr at h
 split at h
 ·simp only [canL,canX]
  rw [amz]
  rename_i f l
  obtain ⟨hl,rfl⟩:=h
  refine nD ⟨⟨rfl,rfl,hl⟩,rfl,rfl⟩ (fun hE=>?_)
  obtain ⟨s',_,q1,q2⟩:=am5 _ hE.1
  have q3:=agI _ hE.1
  simp only at q3
  rw [q2] at q3
  have e:(yZ ⟨f,l,(List.length l:Int),(0:Int)⟩).n=(List.length l:Int):=rfl
  have e2:(yZ ⟨f,l,(List.length l:Int),(0:Int)⟩).l=l:=rfl
  rw [e,e2,List.drop_eq_nil_of_le (by omega)] at q3
  exact congrArg (fun z=>LV.v (.int .i64 z)) q3
 ·cases h)
def abn:List LV→T LV
 | [.v (.agg ⟨[.string nm,.int .i64 xC,.int .i64 li,.int .i64 ne,.int .i64 ra,.int .i64 he,.int .i64 am,.int .i64 mo,.int .i64 ga,.int .i64 lo,.int .i64 de]⟩)]=> .ok (.v (.int .i64 (dN (nm,xC,li,ne,(ra,he),am,mo,ga,lo,de))))
 |_=> .no
noncomputable def Xl:List LV→T LV:=gW Tryz.prog Tryz.f58.params.toList abn
noncomputable def apR:Specs:=bf [(105,Xf),(106,Xn)]
theorem ayM:∀g S,apR g=some S→Valid Tryz.prog aP g S:=aS (l:=[(105,Xf),(106,Xn)]) ⟨aq9,ark,trivial⟩
theorem amv (nm:ByteArray) (xC li ne ra he am mo ga lo de:Int):bW Tryz.prog aP (apR) eY aC Tryz.f58 [.v (.agg #[.string nm,.int .i64 xC,.int .i64 li,.int .i64 ne,.int .i64 ra,.int .i64 he,.int .i64 am,.int .i64 mo,.int .i64 ga,.int .i64 lo,.int .i64 de])]=.br ((pmE (am,mo,ga,lo,de)) !=0) (.br (ra==0) (.req ((List.length ([ne,(0:Int)]):Int)≤1000) (.ok (.v (.int .i64 (VG li ([ne,(0:Int)])))))) (.req ((List.length ([ne,(0:Int),ra]):Int)≤1000) (.ok (.v (.int .i64 (VG li ([ne,(0:Int),ra]))))))) (.br (ra==0) (.req ((List.length ([ne,(pmA (am,mo,ga,lo,de))]):Int)≤1000) (.ok (.v (.int .i64 (VG li ([ne,(pmA (am,mo,ga,lo,de))])))))) (.req ((List.length ([ne,(pmA (am,mo,ga,lo,de)),ra]):Int)≤1000) (.ok (.v (.int .i64 (VG li ([ne,(pmA (am,mo,ga,lo,de)),ra]))))))):=by kernel_rfl
theorem ari:Valid Tryz.prog aP 58 Xl:=aH Tryz.func58 rfl ayM aG (aW (by kernel_rfl)) (fun args lv h=>by
 unfold abn at h
 split at h
 ·simp only [canL,canX]
  rw [amv]
  rename_i nm xC li ne ra he am mo ga lo de
  obtain rfl:=h
  unfold dN
  simp only
  refine ⟨fun c=>?_,fun c=>?_⟩
  ·have e:pmA (am,mo,ga,lo,de)=0:=by
    rw [alA] at c
    have c:O5 (am,mo,ga,lo,de)=false:=by simpa using c
    unfold pmA
    rw [c]
    rfl
   rw [e]
   refine ⟨fun c2=>⟨by simp,?_⟩,fun c2=>⟨by simp,?_⟩⟩
   ·rw [if_pos (by simpa using c2)];rfl
   ·rw [if_neg (by simpa using c2)];rfl
  ·refine ⟨fun c2=>⟨by simp,?_⟩,fun c2=>⟨by simp,?_⟩⟩
   ·rw [if_pos (by simpa using c2)];rfl
   ·rw [if_neg (by simpa using c2)];rfl
 ·cases h)
def aaZ:List LV→T LV
 | [.v (.int .i64 k),.xq 5 q0,.xq 2 q1]=>(match ([q0 0,q0 1,q0 2,q0 3,q0 4]:List LV) with
  | [.xl (.pair .str (.pair (.int .i64) (.pair (.int .i64) (.pair (.int .i64) (.pair (.pair (.int .i64) (.int .i64)) (.pair (.int .i64) (.pair (.int .i64) (.pair (.int .i64) (.pair (.int .i64) (.int .i64)))))))))) _,.xl (.str) _,.xl (.pair .str (.pair (.int .i64) (.pair (.int .i64) (.int .i64)))) _,.xl (.pair .str (.pair (.int .i64) (.pair (.int .i64) (.pair (.int .i64) (.pair (.int .i64) (.pair (.int .i64) (.pair (.int .i64) (.int .i64)))))))) gs,.xl (.pair .str (.int .i64)) _]=>(match ([q1 0,q1 1]:List LV) with
  | [.v (.int .i64 _),.v (.int .i64 p)]=> .req ((0≤k∧k<(List.length gs:Int))∧0≤p) (.ok (.v (.bool (usA (bC gs k).2.2.1 p))))
  |_=> .no)
  |_=> .no)
 |_=> .no
noncomputable def IA:List LV→T LV:=gW Tryz.prog Tryz.f57.params.toList aaZ
theorem al8 (k:Int) (cs:List Cd) (os:List ByteArray) (ks:List Ko) (gs:List Ch) (bs:List Ba) (c p:Int):bW Tryz.prog aP (ZF) eY aC Tryz.f57 [.v (.int .i64 k),.xq 5 (fun j=>([.xl dW cs,.xl .str os,.xl eu ks,.xl dQ gs,.xl eG bs]:List LV).getD j .junk),.xq 2 (fun j=>([.v (.int .i64 c),.v (.int .i64 p)]:List LV).getD j .junk)]=.req (0≤k∧k<(List.length gs:Int)) (.req (0≤p) (.ok (.v (.bool ((azl .i64 (bC gs k).2.2.1 (IntKind.i64.wrap ((1:Int)*2^(min p.toNat 64)))) !=0))))):=by kernel_rfl
theorem adC:Valid Tryz.prog aP 57 IA:=aH Tryz.func57 rfl ahl aG (aW (by kernel_rfl)) (fun args lv h=>by
 unfold aaZ at h
 split at h
 ·split at h
  case h_2=>cases h
  rename_i heq0
  split at h
  case h_2=>cases h
  rename_i heq1
  simp only [canL,canX]
  rw [oH (n:=5) heq0]
  simp only [canL,canX]
  rw [oH (n:=2) heq1]
  simp only [canL,canX]
  rw [al8]
  obtain ⟨⟨h1,h2⟩,h3⟩:=h
  exact ⟨h1,h2,h3⟩
 ·cases h)
structure jK where
 cs:List Cd
 os:List ByteArray
 ks:List Ko
 gs:List Ch
 bs:List Ba
 c:Int
 p:Int
 l:List Int
 n:Int
 i:Int
 out:List Int
def aBr (s:jK):List LV:=[.fn 57 [.xq 5 (fun j=>([.xl dW s.cs,.xl .str s.os,.xl eu s.ks,.xl dQ s.gs,.xl eG s.bs]:List LV).getD j .junk),.xq 2 (fun j=>([.v (.int .i64 s.c),.v (.int .i64 s.p)]:List LV).getD j .junk)],.os 0 1 0 (List.length s.out),.xl (.int .i64) s.l,.v (.int .i64 s.n),.v (.int .i64 s.i)]
def aAu (s:jK):List aT:=[⟨[],3,.vec (.int .i64) s.out,false⟩]
noncomputable def Bf:Code:=((aF (Tryz.f56.body.getD .skip))[0]?).getD .skip
def Qu (s:jK):T (Rd jK):=
 .br (decide (s.i<s.n)) (.req (0≤s.i∧s.i<(List.length s.l:Int)) (.req ((0≤(gi s.l s.i)∧(gi s.l s.i)<(List.length s.gs:Int))∧0≤s.p) (.br (usA (bC s.gs (gi s.l s.i)).2.2.1 s.p) (.req (0+(List.length s.out)=List.length s.out∧((List.length s.out+List.length ([(gi s.l s.i)]):Nat):Int)*8≤2^47∧((List.length s.out+List.length ([(gi s.l s.i)]):Nat):Int)<2^62) (.req (0=0∧(List.length s.out+List.length ([(gi s.l s.i)]))=List.length (s.out++([(gi s.l s.i)]))) (.ok (.next {s with i:=(IntKind.i64.wrap (s.i+1)),out:=(s.out++([(gi s.l s.i)]))})))) (.rl s.out (.ok (.next {s with i:=(IntKind.i64.wrap (s.i+1))})))))) (.rl s.out (.ok (.stop (.exit 0) s)))
abbrev aae (s:jK):=(Qu s).rd s
def Uk (s:jK):Prop:=s.i=0∧s.out=[]∧s.n=(s.l.length:Int)∧s.n≤1000∧0≤s.p∧∀k∈s.l,0≤k∧k<(s.gs.length:Int)
def LZ (s:jK):Prop:=(0≤s.i∧s.i≤s.n)∧(s.out.length:Int)≤s.i∧s.n=(s.l.length:Int)∧s.n≤1000∧0≤s.p∧∀k∈s.l,0≤k∧k<(s.gs.length:Int)
def GI (s:jK):Nat:=(s.n-s.i).toNat
def ajh (x:Ex) (_ s':jK):Prop:=x=.exit 0∧s'.i=s'.n
theorem azi:∀s,Uk s→LZ s:=by
 intro s h
 obtain ⟨h0,h1,h2,h3,h4,h5⟩:=h
 exact ⟨by omega,by rw [h1];simp;omega,h2,h3,h4,h5⟩
theorem avf (s:jK) (hI:LZ s):bM (fun s'=>LZ s'∧GI s'<GI s) (fun x s'=>ajh x s s') (aae s):=by
 unfold aae Qu
 dsimp only [T.rd,T.rl]
 obtain ⟨⟨h0,h1⟩,h2,h3,h4,h5,h6⟩:=hI
 refine au (fun c1=>?_) (fun c1=>?_)
 ·have c1:s.i<s.n:=by simpa using c1
  rw [aK (x:=s.i+1) (by omega) (by omega)]
  refine au (fun c2=>?_) (fun c2=>?_)
  ·exact ⟨⟨⟨by simp only;omega,by simp only;omega⟩,by simp only [List.length_append,List.length_cons,List.length_nil];omega,h3,h4,h5,h6⟩,by simp only [GI];omega⟩
  ·exact ⟨⟨⟨by simp only;omega,by simp only;omega⟩,by simp only;omega,h3,h4,h5,h6⟩,by simp only [GI];omega⟩
 ·have c1:s.n≤s.i:=by simpa using c1
  exact ⟨rfl,by omega⟩
def EJ:bQ jK:=⟨0,23,[1,5,8,9,10],[.nl 5 3 (.int .i64)],aBr,aAu,fun v b=>⟨aQ dW (mJ (gFn (v.getD 0 .junk) 0) 0),aQ .str (mJ (gFn (v.getD 0 .junk) 0) 1),aQ eu (mJ (gFn (v.getD 0 .junk) 0) 2),aQ dQ (mJ (gFn (v.getD 0 .junk) 0) 3),aQ eG (mJ (gFn (v.getD 0 .junk) 0) 4),gI (mJ (gFn (v.getD 0 .junk) 1) 0),gI (mJ (gFn (v.getD 0 .junk) 1) 1),aQ (.int .i64) (v.getD 2 .junk),gI (v.getD 3 .junk),gI (v.getD 4 .junk),jk (.int .i64) (aO b 0)⟩,Qu,fun s r=> {r with cs:=s.cs,os:=s.os,ks:=s.ks,gs:=s.gs,bs:=s.bs,c:=s.c,p:=s.p,l:=s.l,n:=s.n},fun s=>s,fun _ s=>s,[.exit 0],Uk,LZ,GI⟩
abbrev o5:=EJ.run
abbrev anW:=EJ.jZ
abbrev awu:=EJ.q
theorem as6 (s:jK) (hI:LZ s):(Qu s).all (fun _=>True):=by
 refine ⟨fun c1=>⟨?_,?_,fun c2=>⟨?_,?_,trivial⟩,fun c2=>⟨⟨rfl,rfl⟩,trivial⟩⟩,fun c1=>⟨⟨rfl,rfl⟩,trivial⟩⟩
 all_goals ((obtain ⟨⟨h0,h1⟩,h2,h3,h4,h5,h6⟩:=hI;(try simp only [decide_eq_true_eq] at c1);first|omega|(refine ⟨h6 _ ?_,h5⟩;rw [oN (by omega)];exact List.getElem_mem _) |(refine ⟨by omega,?_,?_⟩<;>simp only [List.length_cons,List.length_nil]<;>omega) |exact ⟨rfl,by simp⟩ |exact ⟨rfl,rfl⟩))
noncomputable def ahA:Specs:=bf [(57,IA)]
theorem apD:∀g S,ahA g=some S→Valid Tryz.prog aP g S:=aS (l:=[(57,IA)]) ⟨adC,trivial⟩
theorem Vr:EJ.Ok:=⟨fun s=>by kernel_rfl,fun s=>by kernel_rfl,fun s=>rfl,fun s t r=>rfl,fun s=>rfl,fun s=>by kernel_rfl⟩
theorem U6:EJ.Pf (ajh):=⟨azi,fun _ _=>rfl,avf,as6⟩
theorem akZ:bg Tryz.prog aP (AN 0) (.loop Bf) EJ.lp:=bQ.snd Vr U6 (aU (Γ:=ahA) (K:=eY) (L:=aC) apD aG Bf (fun b hb=>by rw [show aF Bf=[] by kernel_rfl] at hb;cases hb)) (fun s=>by kernel_rfl)
theorem aoh (s:jK) (hE:Uk s):∃s',LZ s'∧ajh (anW s) s' (o5 s):=bQ.fin Vr U6 s hE
theorem ahZ (s:jK) (hE:Uk s):(fun s:jK=>s.out++gU s.gs s.p (s.l.drop s.i.toNat)) (o5 s)=(fun s:jK=>s.out++gU s.gs s.p (s.l.drop s.i.toNat)) s:=by
 exact bQ.uy Vr U6 (fun s:jK=>s.out++gU s.gs s.p (s.l.drop s.i.toNat)) (fun s hI=>by
  show bM _ _ (aae s)
  unfold aae Qu
  dsimp only [T.rd,T.rl]
  obtain ⟨⟨h0,h1⟩,h2,h3,h4,h5,h6⟩:=hI
  refine au (fun c1=>?_) (fun c1=>rfl)
  have c1:s.i<s.n:=by simpa using c1
  rw [aK (x:=s.i+1) (by omega) (by omega)]
  refine au (fun c2=>?_) (fun c2=>?_)
  ·show _++gU _ _ _=_++gU _ _ _
   rw [(gi_step h0 (show s.i<s.l.length by omega)).1]
   simp [gU,c2]
  ·show _++gU _ _ _=_++gU _ _ _
   rw [(gi_step h0 (show s.i<s.l.length by omega)).1]
   simp [gU,c2]) s hE
theorem aog (s:jK) (hE:Uk s):(o5 s).out=gU s.gs s.p s.l:=by
 obtain ⟨s',_,q1,q2⟩:=aoh s hE
 have q3:=ahZ s hE
 obtain ⟨h0,h1,h2,h3⟩:=hE
 simp only at q3
 rw [q2,show (o5 s).n=s.n from rfl,show (o5 s).l=s.l from rfl,List.drop_eq_nil_of_le (by omega),h0,h1] at q3
 simpa [gU] using q3
def abK:List LV→T LV
 | [.xl (.int .i64) l,.fn 57 [.xq 5 q0,.xq 2 q1]]=>(match ([q0 0,q0 1,q0 2,q0 3,q0 4]:List LV) with
  | [.xl (.pair .str (.pair (.int .i64) (.pair (.int .i64) (.pair (.int .i64) (.pair (.pair (.int .i64) (.int .i64)) (.pair (.int .i64) (.pair (.int .i64) (.pair (.int .i64) (.pair (.int .i64) (.int .i64)))))))))) _,.xl (.str) _,.xl (.pair .str (.pair (.int .i64) (.pair (.int .i64) (.int .i64)))) _,.xl (.pair .str (.pair (.int .i64) (.pair (.int .i64) (.pair (.int .i64) (.pair (.int .i64) (.pair (.int .i64) (.pair (.int .i64) (.int .i64)))))))) gs,.xl (.pair .str (.int .i64)) _]=>(match ([q1 0,q1 1]:List LV) with
  | [.v (.int .i64 _),.v (.int .i64 p)]=> .req (RZ gs p l) (.ok (.xl (.int .i64) (gU gs p l)))
  |_=> .no)
  |_=> .no)
 |_=> .no
noncomputable def XD:List LV→T LV:=gW Tryz.prog Tryz.f56.params.toList abK
theorem amU (l:List Int) (cs:List Cd) (os:List ByteArray) (ks:List Ko) (gs:List Ch) (bs:List Ba) (c p:Int):bW Tryz.prog aP (ahA) eY (fun i=>if i=3 then EJ.lp else aC i) Tryz.f56 [.xl (.int .i64) l,.fn 57 [.xq 5 (fun j=>([.xl dW cs,.xl .str os,.xl eu ks,.xl dQ gs,.xl eG bs]:List LV).getD j .junk),.xq 2 (fun j=>([.v (.int .i64 c),.v (.int .i64 p)]:List LV).getD j .junk)]]=.req (0=0∧0=List.length ([]:List Int)) (.req (awu (⟨cs,os,ks,gs,bs,c,p,l,(List.length l:Int),(0:Int),([]:List Int)⟩:jK)) (.req (0+(List.length (o5 (⟨cs,os,ks,gs,bs,c,p,l,(List.length l:Int),(0:Int),([]:List Int)⟩:jK)).out)≤List.length (o5 (⟨cs,os,ks,gs,bs,c,p,l,(List.length l:Int),(0:Int),([]:List Int)⟩:jK)).out) (.ok (.xl (.int .i64) (((o5 (⟨cs,os,ks,gs,bs,c,p,l,(List.length l:Int),(0:Int),([]:List Int)⟩:jK)).out.drop 0).take (List.length (o5 (⟨cs,os,ks,gs,bs,c,p,l,(List.length l:Int),(0:Int),([]:List Int)⟩:jK)).out)))))):=by kernel_rfl
theorem arD:Valid Tryz.prog aP 56 XD:=aH Tryz.func56 rfl apD aG (L:=(fun i=>if i=3 then EJ.lp else aC i)) (fun b hb=>by
 rw [show aF _=[Bf] by kernel_rfl] at hb
 simp only [List.mem_cons,List.not_mem_nil,or_false] at hb
 subst hb
 exact akZ) (fun args lv h=>by
 unfold abK at h
 split at h
 ·split at h
  case h_2=>cases h
  rename_i heq0
  split at h
  case h_2=>cases h
  rename_i heq1
  simp only [canL,canX]
  rw [oH (n:=5) heq0]
  simp only [canL,canX]
  rw [oH (n:=2) heq1]
  simp only [canL,canX]
  rw [amU]
  obtain ⟨⟨hp,hl,hm⟩,rfl⟩:=h
  refine ⟨⟨rfl,rfl⟩,nD ⟨⟨rfl,rfl,rfl,by simp only;omega,hp,hm⟩,rfl,rfl⟩ (fun hE=>⟨by omega,?_⟩)⟩
  show LV.xl _ _=_
  rw [List.drop_zero,List.take_length,aog _ hE.1]
 ·cases h)
end Go.Proofs.YtlihnbimgclogaaGreatDoor
namespace Go.Proofs.YtlihnbimgclogaaGreatDoor
open Go.Sx
noncomputable def aed:Array Tmp×Code×Code:=((jD (Tryz.f24.body.getD .skip))[0]?).getD (#[],.skip,.skip)
noncomputable def axx:Array Tmp:=aed.1
noncomputable def axQ:Code:=aed.2.1
noncomputable def axL:Code:=aed.2.2
structure uK where
 n:Int
 c:Int
 af:List Cd
 aI:List ByteArray
 aA:List Ko
 ah:List Ch
 aV:List Ba
 below:List Int
 bP:List Cd
 dV:List ByteArray
 bV:List Ko
 cu:List Ch
 iD:List Ba
 rows:List Rw
 st:LS
def aCb (s:uK):List LV:=[.um 4,.v (.int .i64 s.n),.v (.int .i64 s.c)]
noncomputable def aB3 (s:uK):List aT:=[⟨[.xl dW s.af,.xl .str s.aI,.xl eu s.aA,.xl dQ s.ah,.xl eG s.aV],28,.cl,true⟩,⟨[.os 5 2 0 (List.length s.rows)],49,.cl,false⟩,⟨[.xl (.int .i64) s.below],35,.cl,false⟩,⟨[.xl dW s.bP,.xl .str s.dV,.xl eu s.bV,.xl dQ s.cu,.xl eG s.iD],28,.cl,false⟩,⟨[.junk,.own 0 0,.junk,.junk,.own 1 0,.own 2 0,.v (.tuple #[]),.v (.tuple #[]),.junk,.junk,.junk,.junk,.junk,.v (.tuple #[]),.v (.tuple #[]),.v (.tuple #[]),.v (.tuple #[]),.v (.tuple #[]),.v (.tuple #[]),.v (.tuple #[]),.v (.tuple #[]),.v (.tuple #[]),.v (.tuple #[]),.junk,.v (.tuple #[]),.v (.tuple #[]),.v (.tuple #[]),.v (.tuple #[]),.v (.tuple #[]),.v (.tuple #[]),.v (.tuple #[]),.v (.tuple #[]),.v (.tuple #[]),.v (.tuple #[]),.v (.tuple #[]),.v (.tuple #[]),.v (.tuple #[]),.v (.tuple #[]),.v (.tuple #[]),.v (.tuple #[]),.v (.tuple #[]),.v (.tuple #[]),.junk],0,.kD axx axQ axL s.st,false⟩,⟨[],107,.vec ER s.rows,false⟩]
noncomputable def aaJ:Code:=((aF (Tryz.f101.body.getD .skip))[0]?).getD .skip
set_option maxHeartbeats 4000000 in
def aj1 (s:uK):T (Rd uK):=
 .br (decide (s.c<s.n)) (.req (RZ s.ah (0:Int) (bU s.af s.aI s.aA s.ah s.aV s.c)) (.br (decide ((List.length (gU s.ah (0:Int) (bU s.af s.aI s.aA s.ah s.aV s.c)):Int)>0)) (.req (0≤s.c∧s.c<(List.length s.af:Int)) (.req (0+(List.length s.rows)=List.length s.rows∧((List.length s.rows+List.length ([((dN (fP s.af s.c)),gU s.ah (0:Int) (bU s.af s.aI s.aA s.ah s.aV s.c))]):Nat):Int)*32≤2^47∧((List.length s.rows+List.length ([((dN (fP s.af s.c)),gU s.ah (0:Int) (bU s.af s.aI s.aA s.ah s.aV s.c))]):Nat):Int)<2^62) (.req (RZ s.ah (1:Int) (bU s.af s.aI s.aA s.ah s.aV s.c)) (.br (decide ((List.length (gU s.ah (1:Int) (bU s.af s.aI s.aA s.ah s.aV s.c)):Int)>0)) (.req (0≤s.c∧s.c<(List.length s.af:Int)) (.req (0+(List.length s.rows+List.length ([((dN (fP s.af s.c)),gU s.ah (0:Int) (bU s.af s.aI s.aA s.ah s.aV s.c))]))=List.length (s.rows++([((dN (fP s.af s.c)),gU s.ah (0:Int) (bU s.af s.aI s.aA s.ah s.aV s.c))]))∧((List.length s.rows+List.length ([((dN (fP s.af s.c)),gU s.ah (0:Int) (bU s.af s.aI s.aA s.ah s.aV s.c))])+List.length ([((dN (fP s.af s.c)),gU s.ah (1:Int) (bU s.af s.aI s.aA s.ah s.aV s.c))]):Nat):Int)*32≤2^47∧((List.length s.rows+List.length ([((dN (fP s.af s.c)),gU s.ah (0:Int) (bU s.af s.aI s.aA s.ah s.aV s.c))])+List.length ([((dN (fP s.af s.c)),gU s.ah (1:Int) (bU s.af s.aI s.aA s.ah s.aV s.c))]):Nat):Int)<2^62) (.req (RZ s.ah (2:Int) (bU s.af s.aI s.aA s.ah s.aV s.c)) (.br (decide ((List.length (gU s.ah (2:Int) (bU s.af s.aI s.aA s.ah s.aV s.c)):Int)>0)) (.req (0≤s.c∧s.c<(List.length s.af:Int)) (.req (0+(List.length s.rows+List.length ([((dN (fP s.af s.c)),gU s.ah (0:Int) (bU s.af s.aI s.aA s.ah s.aV s.c))])+List.length ([((dN (fP s.af s.c)),gU s.ah (1:Int) (bU s.af s.aI s.aA s.ah s.aV s.c))]))=List.length ((s.rows++([((dN (fP s.af s.c)),gU s.ah (0:Int) (bU s.af s.aI s.aA s.ah s.aV s.c))]))++([((dN (fP s.af s.c)),gU s.ah (1:Int) (bU s.af s.aI s.aA s.ah s.aV s.c))]))∧((List.length s.rows+List.length ([((dN (fP s.af s.c)),gU s.ah (0:Int) (bU s.af s.aI s.aA s.ah s.aV s.c))])+List.length ([((dN (fP s.af s.c)),gU s.ah (1:Int) (bU s.af s.aI s.aA s.ah s.aV s.c))])+List.length ([((dN (fP s.af s.c)),gU s.ah (2:Int) (bU s.af s.aI s.aA s.ah s.aV s.c))]):Nat):Int)*32≤2^47∧((List.length s.rows+List.length ([((dN (fP s.af s.c)),gU s.ah (0:Int) (bU s.af s.aI s.aA s.ah s.aV s.c))])+List.length ([((dN (fP s.af s.c)),gU s.ah (1:Int) (bU s.af s.aI s.aA s.ah s.aV s.c))])+List.length ([((dN (fP s.af s.c)),gU s.ah (2:Int) (bU s.af s.aI s.aA s.ah s.aV s.c))]):Nat):Int)<2^62) (.req (0=0∧(List.length s.rows+List.length ([((dN (fP s.af s.c)),gU s.ah (0:Int) (bU s.af s.aI s.aA s.ah s.aV s.c))])+List.length ([((dN (fP s.af s.c)),gU s.ah (1:Int) (bU s.af s.aI s.aA s.ah s.aV s.c))])+List.length ([((dN (fP s.af s.c)),gU s.ah (2:Int) (bU s.af s.aI s.aA s.ah s.aV s.c))]))=List.length (((s.rows++([((dN (fP s.af s.c)),gU s.ah (0:Int) (bU s.af s.aI s.aA s.ah s.aV s.c))]))++([((dN (fP s.af s.c)),gU s.ah (1:Int) (bU s.af s.aI s.aA s.ah s.aV s.c))]))++([((dN (fP s.af s.c)),gU s.ah (2:Int) (bU s.af s.aI s.aA s.ah s.aV s.c))]))) (.ok (.next {s with c:=(IntKind.i64.wrap (s.c+1)),below:=(bU s.af s.aI s.aA s.ah s.aV s.c),rows:=(((s.rows++([((dN (fP s.af s.c)),gU s.ah (0:Int) (bU s.af s.aI s.aA s.ah s.aV s.c))]))++([((dN (fP s.af s.c)),gU s.ah (1:Int) (bU s.af s.aI s.aA s.ah s.aV s.c))]))++([((dN (fP s.af s.c)),gU s.ah (2:Int) (bU s.af s.aI s.aA s.ah s.aV s.c))]))}))))) (.req (0=0∧(List.length s.rows+List.length ([((dN (fP s.af s.c)),gU s.ah (0:Int) (bU s.af s.aI s.aA s.ah s.aV s.c))])+List.length ([((dN (fP s.af s.c)),gU s.ah (1:Int) (bU s.af s.aI s.aA s.ah s.aV s.c))]))=List.length ((s.rows++([((dN (fP s.af s.c)),gU s.ah (0:Int) (bU s.af s.aI s.aA s.ah s.aV s.c))]))++([((dN (fP s.af s.c)),gU s.ah (1:Int) (bU s.af s.aI s.aA s.ah s.aV s.c))]))) (.ok (.next {s with c:=(IntKind.i64.wrap (s.c+1)),below:=(bU s.af s.aI s.aA s.ah s.aV s.c),rows:=((s.rows++([((dN (fP s.af s.c)),gU s.ah (0:Int) (bU s.af s.aI s.aA s.ah s.aV s.c))]))++([((dN (fP s.af s.c)),gU s.ah (1:Int) (bU s.af s.aI s.aA s.ah s.aV s.c))]))}))))))) (.req (RZ s.ah (2:Int) (bU s.af s.aI s.aA s.ah s.aV s.c)) (.br (decide ((List.length (gU s.ah (2:Int) (bU s.af s.aI s.aA s.ah s.aV s.c)):Int)>0)) (.req (0≤s.c∧s.c<(List.length s.af:Int)) (.req (0+(List.length s.rows+List.length ([((dN (fP s.af s.c)),gU s.ah (0:Int) (bU s.af s.aI s.aA s.ah s.aV s.c))]))=List.length (s.rows++([((dN (fP s.af s.c)),gU s.ah (0:Int) (bU s.af s.aI s.aA s.ah s.aV s.c))]))∧((List.length s.rows+List.length ([((dN (fP s.af s.c)),gU s.ah (0:Int) (bU s.af s.aI s.aA s.ah s.aV s.c))])+List.length ([((dN (fP s.af s.c)),gU s.ah (2:Int) (bU s.af s.aI s.aA s.ah s.aV s.c))]):Nat):Int)*32≤2^47∧((List.length s.rows+List.length ([((dN (fP s.af s.c)),gU s.ah (0:Int) (bU s.af s.aI s.aA s.ah s.aV s.c))])+List.length ([((dN (fP s.af s.c)),gU s.ah (2:Int) (bU s.af s.aI s.aA s.ah s.aV s.c))]):Nat):Int)<2^62) (.req (0=0∧(List.length s.rows+List.length ([((dN (fP s.af s.c)),gU s.ah (0:Int) (bU s.af s.aI s.aA s.ah s.aV s.c))])+List.length ([((dN (fP s.af s.c)),gU s.ah (2:Int) (bU s.af s.aI s.aA s.ah s.aV s.c))]))=List.length ((s.rows++([((dN (fP s.af s.c)),gU s.ah (0:Int) (bU s.af s.aI s.aA s.ah s.aV s.c))]))++([((dN (fP s.af s.c)),gU s.ah (2:Int) (bU s.af s.aI s.aA s.ah s.aV s.c))]))) (.ok (.next {s with c:=(IntKind.i64.wrap (s.c+1)),below:=(bU s.af s.aI s.aA s.ah s.aV s.c),rows:=((s.rows++([((dN (fP s.af s.c)),gU s.ah (0:Int) (bU s.af s.aI s.aA s.ah s.aV s.c))]))++([((dN (fP s.af s.c)),gU s.ah (2:Int) (bU s.af s.aI s.aA s.ah s.aV s.c))]))}))))) (.req (0=0∧(List.length s.rows+List.length ([((dN (fP s.af s.c)),gU s.ah (0:Int) (bU s.af s.aI s.aA s.ah s.aV s.c))]))=List.length (s.rows++([((dN (fP s.af s.c)),gU s.ah (0:Int) (bU s.af s.aI s.aA s.ah s.aV s.c))]))) (.ok (.next {s with c:=(IntKind.i64.wrap (s.c+1)),below:=(bU s.af s.aI s.aA s.ah s.aV s.c),rows:=(s.rows++([((dN (fP s.af s.c)),gU s.ah (0:Int) (bU s.af s.aI s.aA s.ah s.aV s.c))]))}))))))))) (.req (RZ s.ah (1:Int) (bU s.af s.aI s.aA s.ah s.aV s.c)) (.br (decide ((List.length (gU s.ah (1:Int) (bU s.af s.aI s.aA s.ah s.aV s.c)):Int)>0)) (.req (0≤s.c∧s.c<(List.length s.af:Int)) (.req (0+(List.length s.rows)=List.length s.rows∧((List.length s.rows+List.length ([((dN (fP s.af s.c)),gU s.ah (1:Int) (bU s.af s.aI s.aA s.ah s.aV s.c))]):Nat):Int)*32≤2^47∧((List.length s.rows+List.length ([((dN (fP s.af s.c)),gU s.ah (1:Int) (bU s.af s.aI s.aA s.ah s.aV s.c))]):Nat):Int)<2^62) (.req (RZ s.ah (2:Int) (bU s.af s.aI s.aA s.ah s.aV s.c)) (.br (decide ((List.length (gU s.ah (2:Int) (bU s.af s.aI s.aA s.ah s.aV s.c)):Int)>0)) (.req (0≤s.c∧s.c<(List.length s.af:Int)) (.req (0+(List.length s.rows+List.length ([((dN (fP s.af s.c)),gU s.ah (1:Int) (bU s.af s.aI s.aA s.ah s.aV s.c))]))=List.length (s.rows++([((dN (fP s.af s.c)),gU s.ah (1:Int) (bU s.af s.aI s.aA s.ah s.aV s.c))]))∧((List.length s.rows+List.length ([((dN (fP s.af s.c)),gU s.ah (1:Int) (bU s.af s.aI s.aA s.ah s.aV s.c))])+List.length ([((dN (fP s.af s.c)),gU s.ah (2:Int) (bU s.af s.aI s.aA s.ah s.aV s.c))]):Nat):Int)*32≤2^47∧((List.length s.rows+List.length ([((dN (fP s.af s.c)),gU s.ah (1:Int) (bU s.af s.aI s.aA s.ah s.aV s.c))])+List.length ([((dN (fP s.af s.c)),gU s.ah (2:Int) (bU s.af s.aI s.aA s.ah s.aV s.c))]):Nat):Int)<2^62) (.req (0=0∧(List.length s.rows+List.length ([((dN (fP s.af s.c)),gU s.ah (1:Int) (bU s.af s.aI s.aA s.ah s.aV s.c))])+List.length ([((dN (fP s.af s.c)),gU s.ah (2:Int) (bU s.af s.aI s.aA s.ah s.aV s.c))]))=List.length ((s.rows++([((dN (fP s.af s.c)),gU s.ah (1:Int) (bU s.af s.aI s.aA s.ah s.aV s.c))]))++([((dN (fP s.af s.c)),gU s.ah (2:Int) (bU s.af s.aI s.aA s.ah s.aV s.c))]))) (.ok (.next {s with c:=(IntKind.i64.wrap (s.c+1)),below:=(bU s.af s.aI s.aA s.ah s.aV s.c),rows:=((s.rows++([((dN (fP s.af s.c)),gU s.ah (1:Int) (bU s.af s.aI s.aA s.ah s.aV s.c))]))++([((dN (fP s.af s.c)),gU s.ah (2:Int) (bU s.af s.aI s.aA s.ah s.aV s.c))]))}))))) (.req (0=0∧(List.length s.rows+List.length ([((dN (fP s.af s.c)),gU s.ah (1:Int) (bU s.af s.aI s.aA s.ah s.aV s.c))]))=List.length (s.rows++([((dN (fP s.af s.c)),gU s.ah (1:Int) (bU s.af s.aI s.aA s.ah s.aV s.c))]))) (.ok (.next {s with c:=(IntKind.i64.wrap (s.c+1)),below:=(bU s.af s.aI s.aA s.ah s.aV s.c),rows:=(s.rows++([((dN (fP s.af s.c)),gU s.ah (1:Int) (bU s.af s.aI s.aA s.ah s.aV s.c))]))}))))))) (.req (RZ s.ah (2:Int) (bU s.af s.aI s.aA s.ah s.aV s.c)) (.br (decide ((List.length (gU s.ah (2:Int) (bU s.af s.aI s.aA s.ah s.aV s.c)):Int)>0)) (.req (0≤s.c∧s.c<(List.length s.af:Int)) (.req (0+(List.length s.rows)=List.length s.rows∧((List.length s.rows+List.length ([((dN (fP s.af s.c)),gU s.ah (2:Int) (bU s.af s.aI s.aA s.ah s.aV s.c))]):Nat):Int)*32≤2^47∧((List.length s.rows+List.length ([((dN (fP s.af s.c)),gU s.ah (2:Int) (bU s.af s.aI s.aA s.ah s.aV s.c))]):Nat):Int)<2^62) (.req (0=0∧(List.length s.rows+List.length ([((dN (fP s.af s.c)),gU s.ah (2:Int) (bU s.af s.aI s.aA s.ah s.aV s.c))]))=List.length (s.rows++([((dN (fP s.af s.c)),gU s.ah (2:Int) (bU s.af s.aI s.aA s.ah s.aV s.c))]))) (.ok (.next {s with c:=(IntKind.i64.wrap (s.c+1)),below:=(bU s.af s.aI s.aA s.ah s.aV s.c),rows:=(s.rows++([((dN (fP s.af s.c)),gU s.ah (2:Int) (bU s.af s.aI s.aA s.ah s.aV s.c))]))}))))) (.rl s.rows (.ok (.next {s with c:=(IntKind.i64.wrap (s.c+1)),below:=(bU s.af s.aI s.aA s.ah s.aV s.c)}))))))))) (.rl s.rows (.ok (.stop (.exit 0) s)))
abbrev ayY (s:uK):=(aj1 s).rd s
def aou (s:uK):Prop:=s.st=.ready∧s.c=0∧s.rows=[]∧fO s.af s.aI s.aA s.ah s.aV=true∧s.n=(s.af.length:Int)
def adh (s:uK):Prop:=s.st=.ready∧(0≤s.c∧s.c≤s.n)∧s.rows=jC s.af s.ah s.c.toNat∧fO s.af s.aI s.aA s.ah s.aV=true∧s.n=(s.af.length:Int)
def Y9 (s:uK):Nat:=(s.n-s.c).toNat
def avv (x:Ex) (_ s':uK):Prop:=x=.exit 0∧s'.rows=jC s'.af s'.ah s'.af.length
theorem aBD:∀s,aou s→adh s:=by
 intro s h
 obtain ⟨h0,h1,h2,h3,h4⟩:=h
 exact ⟨h0,by omega,by rw [h1,h2];rfl,h3,h4⟩
theorem axh (s:uK) (hI:adh s):bM (fun s'=>adh s'∧Y9 s'<Y9 s) (fun x s'=>avv x s s') (ayY s):=by
 unfold ayY aj1
 dsimp only [T.rd,T.rl]
 obtain ⟨h0,⟨h1,h2⟩,h3,h4,h5⟩:=hI
 refine au (fun c1=>?_) (fun c1=>?_)
 rotate_left
 ·have c1:s.n≤s.c:=by simpa using c1
  exact ⟨rfl,by rw [h3,show s.c.toNat=s.af.length by omega]⟩
 have c1:s.c<s.n:=by simpa using c1
 have hl:=(gm.1 h4).1
 rw [aK (x:=s.c+1) (by omega) (by omega)]
 have eb:bU s.af s.aI s.aA s.ah s.aV s.c=rW s.af s.ah s.c s.ah.length:=by
  unfold bU
  rw [if_pos ⟨h4,h1,by omega⟩]
 rw [eb]
 have fin:∀r:List Rw,r=jC s.af s.ah s.c.toNat++(rowP s.af s.ah s.c 0++rowP s.af s.ah s.c 1++rowP s.af s.ah s.c 2)→r=jC s.af s.ah (s.c+1).toNat:=fun r hr=>by
  rw [hr,show (s.c+1).toNat=s.c.toNat+1 by omega,jC,Int.toNat_of_nonneg h1]
  rfl
 refine au (fun c2=>?_) (fun c2=>?_)<;>refine au (fun c3=>?_) (fun c3=>?_)<;>refine au (fun c4=>?_) (fun c4=>?_)
 all_goals
  refine ⟨⟨h0,⟨by simp only;omega,by simp only;omega⟩,?_,h4,h5⟩,by simp only [Y9];omega⟩
  simp only [decide_eq_true_eq,decide_eq_false_iff_not] at c2 c3 c4
  refine fin _ ?_
  simp only [h3,rowP]
  first|rw [if_pos (by omega)] |rw [if_neg (by omega)]
  first|rw [if_pos (by omega)] |rw [if_neg (by omega)]
  first|rw [if_pos (by omega)] |rw [if_neg (by omega)]
  simp only [List.append_assoc,List.nil_append,List.append_nil]
noncomputable def XL:bQ uK:=⟨5,22,[0,7,8],[.nc 1 0 107 ER,.pc 2 0 (.int .i64),.pk 0],aCb,aB3,fun v b=>⟨gI (v.getD 1 .junk),gI (v.getD 2 .junk),aQ dW (aY (aO b 0) 0),aQ .str (aY (aO b 0) 1),aQ eu (aY (aO b 0) 2),aQ dQ (aY (aO b 0) 3),aQ eG (aY (aO b 0) 4),aQ (.int .i64) (aY (aO b 2) 0),aQ dW (aY (aO b 3) 0),aQ .str (aY (aO b 3) 1),aQ eu (aY (aO b 3) 2),aQ dQ (aY (aO b 3) 3),aQ eG (aY (aO b 3) 4),jk ER (aO b 5),.ready⟩,aj1,fun s r=> {r with n:=s.n,af:=s.af,aI:=s.aI,aA:=s.aA,ah:=s.ah,aV:=s.aV,bP:=s.bP,dV:=s.dV,bV:=s.bV,cu:=s.cu,iD:=s.iD,st:=s.st},fun s=> {s with st:=.ready},fun x s=> {s with st:=(match x with| .exit 0=> .ready|_=> .ready)},[.exit 0],aou,adh,Y9⟩
noncomputable abbrev BN:=XL.run
noncomputable abbrev auP:=XL.jZ
abbrev azw:=XL.q
noncomputable def Dw:Specs:=bf [(53,Iw),(55,Pz),(56,XD),(57,IA),(58,Xl)]
theorem Hq:∀g S,Dw g=some S→Valid Tryz.prog aP g S:=aS (l:=[(53,Iw),(55,Pz),(56,XD),(57,IA),(58,Xl)]) ⟨adz,ajY,arD,adC,ari,trivial⟩
noncomputable def ahc:Hand:=inl Tryz.prog aP Dw (lJ Tryz.prog aP (Dw) 20 2) 9
theorem apd:dM Tryz.prog aP ahc:=bT Hq (dP Hq) 9
theorem axp (s:uK) (hI:adh s):(aj1 s).all (fun _=>True):=by
 refine ⟨fun c1=>⟨?_,fun c2=>⟨?_,?_,?_,fun c3=>⟨?_,?_,?_,fun c4=>⟨?_,?_,?_,trivial⟩,fun c4=>⟨?_,trivial⟩⟩,fun c3=>⟨?_,fun c5=>⟨?_,?_,?_,trivial⟩,fun c5=>⟨?_,trivial⟩⟩⟩,fun c2=>⟨?_,fun c6=>⟨?_,?_,?_,fun c7=>⟨?_,?_,?_,trivial⟩,fun c7=>⟨?_,trivial⟩⟩,fun c6=>⟨?_,fun c8=>⟨?_,?_,?_,trivial⟩,fun c8=>⟨⟨rfl,rfl⟩,trivial⟩⟩⟩⟩,fun c1=>⟨⟨rfl,rfl⟩,trivial⟩⟩
 all_goals ((obtain ⟨h0,⟨h1,h2⟩,h3,h4,h5⟩:=hI;have hl:=(gm.1 h4).1;(try simp only [decide_eq_true_eq] at c1);have hr:s.rows.length≤3*s.c.toNat:=(by rw [h3];exact uS);have eb:bU s.af s.aI s.aA s.ah s.aV s.c=rW s.af s.ah s.c s.ah.length:=(by unfold bU;rw [if_pos ⟨h4,h1,by omega⟩]);first|omega|((try simp only);rw [eb];refine ⟨by decide,Nat.le_trans Il (by omega),fun k hk=>SL hk⟩) |(refine ⟨by omega,?_,?_⟩<;>simp only [List.length_cons,List.length_nil]<;>omega) |(simp only [List.length_append,List.length_cons,List.length_nil];omega) |exact ⟨rfl,by simp⟩ |exact ⟨rfl,rfl⟩))
theorem aoU:XL.Ok:=⟨fun s=>by kernel_rfl,fun s=>by kernel_rfl,fun s=>rfl,fun s t r=>rfl,fun s=>rfl,fun s=>by kernel_rfl⟩
theorem aoN:XL.Pf (avv):=⟨aBD,fun s h=>by
 obtain ⟨n,c,af,aI,aA,ah,aV,below,bP,dV,bV,cu,iD,rows,st⟩:=s
 have e:st=.ready:=h.1
 subst e
 rfl,axh,axp⟩
theorem arN:bg Tryz.prog aP (AN 5) (.loop aaJ) XL.lp:=bQ.snd aoU aoN (bF (Γ:=Dw) (K:=ahc) (L:=(sH Tryz.prog aP Dw ahc 20 2)) Hq apd aaJ (fun b _=>dR Hq apd 20 2 b)) (fun s=>by kernel_rfl)
theorem arX (s:uK) (hE:aou s):∃s',adh s'∧avv (auP s) s' (BN s):=bQ.fin aoU aoN s hE
def aa0:List LV→T LV
 | [.agg [.xl (.pair .str (.pair (.int .i64) (.pair (.int .i64) (.pair (.int .i64) (.pair (.pair (.int .i64) (.int .i64)) (.pair (.int .i64) (.pair (.int .i64) (.pair (.int .i64) (.pair (.int .i64) (.int .i64)))))))))) cs,.xl (.str) os,.xl (.pair .str (.pair (.int .i64) (.pair (.int .i64) (.int .i64)))) ks,.xl (.pair .str (.pair (.int .i64) (.pair (.int .i64) (.pair (.int .i64) (.pair (.int .i64) (.pair (.int .i64) (.pair (.int .i64) (.int .i64)))))))) gs,.xl (.pair .str (.int .i64)) bs]]=> .ok (.gV [.xl ER (gY cs os ks gs bs),.v (.int .i64 (F5 cs os ks gs bs))])
 |_=> .no
noncomputable def nG:List LV→T LV:=gW Tryz.prog Tryz.f24.params.toList aa0
noncomputable def apn:Hand:=inl Tryz.prog aP Dw (ku 101 5 1 (XL.lp) (lJ Tryz.prog aP (Dw) 20 2)) 9
theorem ayt:dM Tryz.prog aP apn:=bT Hq (dL Tryz.func101 rfl (by kernel_rfl) arN (dP Hq)) 9
theorem al9 (cs:List Cd) (os:List ByteArray) (ks:List Ko) (gs:List Ch) (bs:List Ba):bW Tryz.prog aP (Dw) apn aC Tryz.f24 [.agg [.xl dW cs,.xl .str os,.xl eu ks,.xl dQ gs,.xl eG bs]]=.br (!(fO cs os ks gs bs)) (.ok (.gV [.xl ER ([]:List Rw),.v (.int .i64 1)])) (.req (0=0∧0=List.length ([]:List Rw)) (.req (azw (⟨(List.length cs:Int),(0:Int),cs,os,ks,gs,bs,([]:List Int),cs,os,ks,gs,bs,([]:List Rw),.ready⟩:uK)) (.req (0+(List.length (BN (⟨(List.length cs:Int),(0:Int),cs,os,ks,gs,bs,([]:List Int),cs,os,ks,gs,bs,([]:List Rw),.ready⟩:uK)).rows)≤List.length (BN (⟨(List.length cs:Int),(0:Int),cs,os,ks,gs,bs,([]:List Int),cs,os,ks,gs,bs,([]:List Rw),.ready⟩:uK)).rows) (.ok (.gV [.xl ER (((BN (⟨(List.length cs:Int),(0:Int),cs,os,ks,gs,bs,([]:List Int),cs,os,ks,gs,bs,([]:List Rw),.ready⟩:uK)).rows.drop 0).take (List.length (BN (⟨(List.length cs:Int),(0:Int),cs,os,ks,gs,bs,([]:List Int),cs,os,ks,gs,bs,([]:List Rw),.ready⟩:uK)).rows)),.v (.int .i64 0)]))))):=by kernel_rfl
theorem BI:Valid Tryz.prog aP 24 nG:=aH Tryz.func24 rfl Hq ayt (aW (by kernel_rfl)) (fun args lv h=>by
 unfold aa0 at h
 split at h
 ·simp only [canL,canX]
  rw [al9]
  rename_i cs os ks gs bs
  obtain rfl:=h
  refine ⟨fun c=>?_,fun c=>?_⟩
  ·have c:fO cs os ks gs bs=false:=by simpa using c
   show LV.gV _=_
   unfold gY F5
   rw [c]
   rfl
  ·have c:fO cs os ks gs bs=true:=by simpa using c
   have hE:aou ⟨(List.length cs:Int),(0:Int),cs,os,ks,gs,bs,([]:List Int),cs,os,ks,gs,bs,([]:List (Int×(List Int))),.ready⟩:=⟨rfl,rfl,rfl,c,rfl⟩
   obtain ⟨s',_,q1,q2⟩:=arX _ hE
   have q2:(BN ⟨(List.length cs:Int),(0:Int),cs,os,ks,gs,bs,([]:List Int),cs,os,ks,gs,bs,([]:List (Int×(List Int))),.ready⟩).rows=jC cs gs cs.length:=q2
   refine ⟨⟨rfl,rfl⟩,⟨hE,rfl,rfl⟩,by omega,?_⟩
   show LV.gV [LV.xl _ _,_]=_
   rw [List.drop_zero,List.take_length,q2]
   unfold gY F5
   rw [if_pos c,if_pos c]
 ·cases h)
end Go.Proofs.YtlihnbimgclogaaGreatDoor
namespace Go.Proofs.YtlihnbimgclogaaGreatDoor
open Go.Sx
def aiI:List LV→T LV
 | [.v (.int .i64 n),.v (.int .i64 a),.v (.int .i64 b)]=> .ok (.v (.bool (inB n a b)))
 |_=> .no
noncomputable def Tj:List LV→T LV:=gW Tryz.prog Tryz.f68.params.toList aiI
noncomputable def apH:Specs:=bf []
theorem ayC:∀g S,apH g=some S→Valid Tryz.prog aP g S:=aS (l:=[]) trivial
theorem at7 (n a b:Int):bW Tryz.prog aP (apH) eY aC Tryz.f68 [.v (.int .i64 n),.v (.int .i64 a),.v (.int .i64 b)]=.ok (.v (.bool ((decide (n≥a))&&(decide (n≤b))))):=by kernel_rfl
theorem aoE:Valid Tryz.prog aP 68 Tj:=aH Tryz.func68 rfl ayC aG (aW (by kernel_rfl)) (fun args lv h=>by
 unfold aiI at h
 split at h
 ·simp only [canL,canX]
  rw [at7]
  exact h
 ·cases h)
def air:List LV→T LV
 | [.v (.agg ⟨[.bool wa,.int .i64 ow,.int .i64 le,.int .i64 ra]⟩)]=> .ok (.v (.bool (Uw (wa,ow,le,ra))))
 |_=> .no
noncomputable def aia:List LV→T LV:=gW Tryz.prog Tryz.f70.params.toList air
noncomputable def apG:Specs:=bf [(68,Tj)]
theorem ayB:∀g S,apG g=some S→Valid Tryz.prog aP g S:=aS (l:=[(68,Tj)]) ⟨aoE,trivial⟩
theorem atK (wa:Bool) (ow le ra:Int):bW Tryz.prog aP (apG) eY aC Tryz.f70 [.v (.agg #[.bool wa,.int .i64 ow,.int .i64 le,.int .i64 ra])]=.ok (.v (.bool ((inB ow (0:Int) (1000000000:Int))&&((inB le (0:Int) (1000000:Int))&&(inB ra (1:Int) (9:Int)))))):=by kernel_rfl
theorem awP:Valid Tryz.prog aP 70 aia:=aH Tryz.func70 rfl ayB aG (aW (by kernel_rfl)) (fun args lv h=>by
 unfold air at h
 split at h
 ·simp only [canL,canX]
  rw [atK]
  exact h
 ·cases h)
structure lu where
 cs:List Cd
 os:List ByteArray
 ks:List Ko
 gs:List Ch
 bs:List Ba
 l:List Le
 d:List Dm
 t:Int
 od:List Int
 F7:List Ra
 r:Bool
 n:Int
 m:List Le
 k:Int
 i:Int
def aBj (s:lu):List LV:=[.xq 9 (fun j=>([.xl dW s.cs,.xl .str s.os,.xl eu s.ks,.xl dQ s.gs,.xl eG s.bs,.xl jL s.l,.xl rE s.d,.v (.int .i64 s.t),.xl (.int .i64) s.od]:List LV).getD j .junk),.xl FQ s.F7,.v (.bool s.r),.v (.int .i64 s.n),.xl jL s.m,.v (.int .i64 s.k),.v (.int .i64 s.i)]
def aAm (_:lu):List aT:=[]
noncomputable def AZ:Code:=((aF (Tryz.f35.body.getD .skip))[0]?).getD .skip
def Yr (s:lu):T (Rd lu):=
 .br (decide (s.i<s.k)) (.req (0≤s.i∧s.i<(List.length s.m:Int)) (.br (decide ((bI s.m s.i).2.1≥s.n)) (.ok (.stop (.ret) {s with r:=false})) (.ok (.next {s with i:=(IntKind.i64.wrap (s.i+1))})))) (.ok (.stop (.exit 0) s))
abbrev aqk (s:lu):=(Yr s).rd s
def Je (s:lu) (j:Int):Bool:=decide ((bI s.m j).2.1<s.n)
def ace (s:lu):Prop:=s.i=0∧0≤s.k∧s.k≤1000∧s.k=(s.m.length:Int)
def LQ (s:lu):Prop:=0≤s.i∧s.i≤s.k∧s.k≤1000∧(s.k=(s.m.length:Int))∧∀j:Nat,(j:Int)<s.i→Je s j=true
def Oc (s:lu):Nat:=(s.k-s.i).toNat
def ajc (x:Ex) (_ s':lu):Prop:=(x=.exit 0∧∀j:Nat,(j:Int)<s'.k→Je s' j=true)∨(x=.ret∧s'.r=false∧∃j:Nat,(j:Int)<s'.k∧Je s' j=false)
theorem ay8:∀s,ace s→LQ s:=by
 intro s h
 obtain ⟨h0,h1,h2,h3⟩:=h
 exact ⟨by omega,by omega,h2,h3,fun j hj=>by omega⟩
theorem auZ (s:lu) (hI:LQ s):bM (fun s'=>LQ s'∧Oc s'<Oc s) (fun x s'=>ajc x s s') (aqk s):=by
 unfold aqk Yr
 dsimp only [T.rd,T.rl]
 obtain ⟨h0,h1,h2,h3,h4⟩:=hI
 refine au (fun c1=>au (fun c2=>?_) (fun c2=>?_)) (fun c1=>?_)
 ·have c1:s.i<s.k:=by simpa using c1
  refine .inr ⟨rfl,rfl,s.i.toNat,by simp only;omega,?_⟩
  rw [Int.toNat_of_nonneg (by omega)]
  have hg:Je s s.i=false:=by unfold Je;(simp only [decide_eq_true_eq,decide_eq_false_iff_not] at c2⊢;omega)
  exact hg
 ·have c1:s.i<s.k:=by simpa using c1
  have hg:Je s s.i=true:=by unfold Je;(simp only [decide_eq_true_eq,decide_eq_false_iff_not] at c2⊢;omega)
  rw [aK (x:=s.i+1) (by omega) (by omega)]
  refine ⟨⟨by simp only;omega,by simp only;omega,h2,h3,fun j hj=>?_⟩,by simp only [Oc];omega⟩
  by_cases hji:(j:Int)<s.i
  ·exact h4 j hji
  ·have:(j:Int)=s.i:=by simp only at hj;omega
   rw [this];exact hg
 ·have c1:s.k≤s.i:=by simpa using c1
  exact .inl ⟨rfl,fun j hj=>h4 j (by omega)⟩
def EC:bQ lu:=⟨0,108,[0,1,6,9,67,68,69],[],aBj,aAm,fun v _=>⟨aQ dW (mJ (v.getD 0 .junk) 0),aQ .str (mJ (v.getD 0 .junk) 1),aQ eu (mJ (v.getD 0 .junk) 2),aQ dQ (mJ (v.getD 0 .junk) 3),aQ eG (mJ (v.getD 0 .junk) 4),aQ jL (mJ (v.getD 0 .junk) 5),aQ rE (mJ (v.getD 0 .junk) 6),gI (mJ (v.getD 0 .junk) 7),aQ (.int .i64) (mJ (v.getD 0 .junk) 8),aQ FQ (v.getD 1 .junk),vH (v.getD 2 .junk),gI (v.getD 3 .junk),aQ jL (v.getD 4 .junk),gI (v.getD 5 .junk),gI (v.getD 6 .junk)⟩,Yr,fun s r=> {r with cs:=s.cs,os:=s.os,ks:=s.ks,gs:=s.gs,bs:=s.bs,l:=s.l,d:=s.d,t:=s.t,od:=s.od,F7:=s.F7,n:=s.n,m:=s.m,k:=s.k},fun s=>s,fun _ s=>s,[.ret,.exit 0],ace,LQ,Oc⟩
abbrev wF:=EC.run
abbrev aax:=EC.jZ
abbrev awm:=EC.q
theorem asX (s:lu) (hI:LQ s):(Yr s).all (fun _=>True):=by
 refine ⟨fun c1=>⟨?_,fun _=>trivial,fun _=>trivial⟩,fun _=>trivial⟩
 ·(obtain ⟨h0,h1,h2,h3,h4⟩:=hI;simp at c1;omega)
noncomputable def ZB:Specs:=bf [(24,nG),(62,yI),(68,Tj),(69,Tc),(70,aia)]
theorem ahi:∀g S,ZB g=some S→Valid Tryz.prog aP g S:=aS (l:=[(24,nG),(62,yI),(68,Tj),(69,Tc),(70,aia)]) ⟨BI,UB,aoE,aoA,awP,trivial⟩
theorem afW:EC.Ok:=⟨fun s=>by kernel_rfl,fun s=>by kernel_rfl,fun s=>rfl,fun s t r=>rfl,fun s=>rfl,fun s=>by kernel_rfl⟩
theorem aeY:EC.Pf (ajc):=⟨ay8,fun _ _=>rfl,auZ,asX⟩
theorem akR:bg Tryz.prog aP (AN 0) (.loop AZ) EC.lp:=bQ.snd afW aeY (aU (Γ:=ZB) (K:=eY) (L:=aC) ahi aG AZ (fun b hb=>by rw [show aF AZ=[] by kernel_rfl] at hb;cases hb)) (fun s=>by kernel_rfl)
theorem an4 (s:lu) (hE:ace s):∃s',LQ s'∧ajc (aax s) s' (wF s):=bQ.fin afW aeY s hE
structure oz where
 cs:List Cd
 os:List ByteArray
 ks:List Ko
 gs:List Ch
 bs:List Ba
 l:List Le
 d:List Dm
 t:Int
 od:List Int
 rs:List Ra
 r:Bool
 m:List Ch
 k:Int
 i:Int
def aBi (s:oz):List LV:=[.xq 9 (fun j=>([.xl dW s.cs,.xl .str s.os,.xl eu s.ks,.xl dQ s.gs,.xl eG s.bs,.xl jL s.l,.xl rE s.d,.v (.int .i64 s.t),.xl (.int .i64) s.od]:List LV).getD j .junk),.xl FQ s.rs,.v (.bool s.r),.xl dQ s.m,.v (.int .i64 s.k),.v (.int .i64 s.i)]
def aAl (_:oz):List aT:=[]
noncomputable def AY:Code:=((aF (Tryz.f35.body.getD .skip))[1]?).getD .skip
def Yq (s:oz):T (Rd oz):=
 .br (decide (s.i<s.k)) (.req (0≤s.i∧s.i<(List.length s.m:Int)) (.req (0≤s.i∧s.i<(List.length s.rs:Int)) (.br (!(Jt (bC s.m s.i).2.2.1 (bC s.m s.i).2.2.2.1 (bC s.m s.i).2.2.2.2.1 (bC s.m s.i).2.2.2.2.2.1 (bC s.m s.i).2.2.2.2.2.2.1 (lH s.rs s.i).1 (lH s.rs s.i).2)) (.ok (.stop (.ret) {s with r:=false})) (.req (0≤s.i∧s.i<(List.length s.d:Int)) (.br (!(Uw (su s.d s.i))) (.ok (.stop (.ret) {s with r:=false})) (.ok (.next {s with i:=(IntKind.i64.wrap (s.i+1))}))))))) (.ok (.stop (.exit 2) s))
abbrev aqj (s:oz):=(Yq s).rd s
def BD (s:oz) (j:Int):Bool:=QN (bC s.m j) (lH s.rs j)&&Uw (su s.d j)
def acd (s:oz):Prop:=s.i=0∧0≤s.k∧s.k≤1000∧s.k=(s.m.length:Int)∧s.rs.length=s.m.length∧s.d.length=s.m.length
def LP (s:oz):Prop:=0≤s.i∧s.i≤s.k∧s.k≤1000∧(s.k=(s.m.length:Int)∧s.rs.length=s.m.length∧s.d.length=s.m.length)∧∀j:Nat,(j:Int)<s.i→BD s j=true
def Ob (s:oz):Nat:=(s.k-s.i).toNat
def ajb (x:Ex) (_ s':oz):Prop:=(x=.exit 2∧∀j:Nat,(j:Int)<s'.k→BD s' j=true)∨(x=.ret∧s'.r=false∧∃j:Nat,(j:Int)<s'.k∧BD s' j=false)
theorem ay7:∀s,acd s→LP s:=by
 intro s h
 obtain ⟨h0,h1,h2,h3⟩:=h
 exact ⟨by omega,by omega,h2,h3,fun j hj=>by omega⟩
theorem auY (s:oz) (hI:LP s):bM (fun s'=>LP s'∧Ob s'<Ob s) (fun x s'=>ajb x s s') (aqj s):=by
 unfold aqj Yq
 dsimp only [T.rd,T.rl]
 obtain ⟨h0,h1,h2,h3,h4⟩:=hI
 refine au (fun c1=>au (fun c2=>?_) (fun c2=>au (fun c3=>?_) (fun c3=>?_))) (fun c1=>?_)
 ·have c1:s.i<s.k:=by simpa using c1
  refine .inr ⟨rfl,rfl,s.i.toNat,by simp only;omega,?_⟩
  rw [Int.toNat_of_nonneg (by omega)]
  have hg:BD s s.i=false:=by unfold BD;(unfold QN wS;simp_all)
  exact hg
 ·have c1:s.i<s.k:=by simpa using c1
  refine .inr ⟨rfl,rfl,s.i.toNat,by simp only;omega,?_⟩
  rw [Int.toNat_of_nonneg (by omega)]
  have hg:BD s s.i=false:=by unfold BD;(unfold QN wS;simp_all)
  exact hg
 ·have c1:s.i<s.k:=by simpa using c1
  have hg:BD s s.i=true:=by unfold BD;(unfold QN wS;simp_all)
  rw [aK (x:=s.i+1) (by omega) (by omega)]
  refine ⟨⟨by simp only;omega,by simp only;omega,h2,h3,fun j hj=>?_⟩,by simp only [Ob];omega⟩
  by_cases hji:(j:Int)<s.i
  ·exact h4 j hji
  ·have:(j:Int)=s.i:=by simp only at hj;omega
   rw [this];exact hg
 ·have c1:s.k≤s.i:=by simpa using c1
  exact .inl ⟨rfl,fun j hj=>h4 j (by omega)⟩
def Ez:bQ oz:=⟨0,108,[0,1,6,82,83,84],[],aBi,aAl,fun v _=>⟨aQ dW (mJ (v.getD 0 .junk) 0),aQ .str (mJ (v.getD 0 .junk) 1),aQ eu (mJ (v.getD 0 .junk) 2),aQ dQ (mJ (v.getD 0 .junk) 3),aQ eG (mJ (v.getD 0 .junk) 4),aQ jL (mJ (v.getD 0 .junk) 5),aQ rE (mJ (v.getD 0 .junk) 6),gI (mJ (v.getD 0 .junk) 7),aQ (.int .i64) (mJ (v.getD 0 .junk) 8),aQ FQ (v.getD 1 .junk),vH (v.getD 2 .junk),aQ dQ (v.getD 3 .junk),gI (v.getD 4 .junk),gI (v.getD 5 .junk)⟩,Yq,fun s r=> {r with cs:=s.cs,os:=s.os,ks:=s.ks,gs:=s.gs,bs:=s.bs,l:=s.l,d:=s.d,t:=s.t,od:=s.od,rs:=s.rs,m:=s.m,k:=s.k},fun s=>s,fun _ s=>s,[.ret,.exit 2],acd,LP,Ob⟩
abbrev YS:=Ez.run
abbrev aaw:=Ez.jZ
abbrev awl:=Ez.q
theorem asW (s:oz) (hI:LP s):(Yq s).all (fun _=>True):=by
 refine ⟨fun c1=>⟨?_,?_,fun _=>trivial,fun c2=>⟨?_,fun _=>trivial,fun _=>trivial⟩⟩,fun _=>trivial⟩
 all_goals ((obtain ⟨h0,h1,h2,h3,h4⟩:=hI;obtain ⟨h3,h5,h6⟩:=h3;simp at c1;omega))
theorem afV:Ez.Ok:=⟨fun s=>by kernel_rfl,fun s=>by kernel_rfl,fun s=>rfl,fun s t r=>rfl,fun s=>rfl,fun s=>by kernel_rfl⟩
theorem aeX:Ez.Pf (ajb):=⟨ay7,fun _ _=>rfl,auY,asW⟩
theorem akQ:bg Tryz.prog aP (AN 0) (.loop AY) Ez.lp:=bQ.snd afV aeX (aU (Γ:=ZB) (K:=eY) (L:=aC) ahi aG AY (fun b hb=>by rw [show aF AY=[] by kernel_rfl] at hb;cases hb)) (fun s=>by kernel_rfl)
theorem an3 (s:oz) (hE:acd s):∃s',LP s'∧ajb (aaw s) s' (YS s):=bQ.fin afV aeX s hE
def abA:List LV→T LV
 | [.xq 9 q0,.xl (.pair (.int .i64) (.int .i64)) rs,.v (.int .i64 n)]=>(match ([q0 0,q0 1,q0 2,q0 3,q0 4,q0 5,q0 6,q0 7,q0 8]:List LV) with
  | [.xl (.pair .str (.pair (.int .i64) (.pair (.int .i64) (.pair (.int .i64) (.pair (.pair (.int .i64) (.int .i64)) (.pair (.int .i64) (.pair (.int .i64) (.pair (.int .i64) (.pair (.int .i64) (.int .i64)))))))))) cs,.xl (.str) os,.xl (.pair .str (.pair (.int .i64) (.pair (.int .i64) (.int .i64)))) ks,.xl (.pair .str (.pair (.int .i64) (.pair (.int .i64) (.pair (.int .i64) (.pair (.int .i64) (.pair (.int .i64) (.pair (.int .i64) (.int .i64)))))))) gs,.xl (.pair .str (.int .i64)) bs,.xl (.pair (.int .i64) (.pair (.int .i64) (.pair (.int .i64) (.pair (.int .i64) (.int .i64))))) l,.xl (.pair .bool (.pair (.int .i64) (.pair (.int .i64) (.int .i64)))) d,.v (.int .i64 t),.xl (.int .i64) _]=> .ok (.v (.bool (FH cs os ks gs bs l rs d t n)))
  |_=> .no)
 |_=> .no
noncomputable def Xv:List LV→T LV:=gW Tryz.prog Tryz.f35.params.toList abA
theorem amK (cs:List Cd) (os:List ByteArray) (ks:List Ko) (gs:List Ch) (bs:List Ba) (l:List Le) (d:List Dm) (t:Int) (od:List Int) (rs:List Ra) (n:Int):bW Tryz.prog aP (ZB) eY (fun i=>if i=8 then EC.lp else if i=14 then Ez.lp else aC i) Tryz.f35 [.xq 9 (fun j=>([.xl dW cs,.xl .str os,.xl eu ks,.xl dQ gs,.xl eG bs,.xl jL l,.xl rE d,.v (.int .i64 t),.xl (.int .i64) od]:List LV).getD j .junk),.xl FQ rs,.v (.int .i64 n)]=.br (((F5 cs os ks gs bs) !=0) ||(!(jY l))) (.ok (.v (.bool false))) (.br (((List.length rs:Int) !=(List.length gs:Int)) ||(((List.length d:Int) !=(List.length gs:Int)) ||((!(inB t (0:Int) (1000000:Int))) ||(!(inB n (1:Int) (999900:Int)))))) (.ok (.v (.bool false))) (.req (awm (⟨cs,os,ks,gs,bs,l,d,t,od,rs,false,(List.length gs:Int),l,(List.length l:Int),(0:Int)⟩:lu)) (.br (ig (aax (⟨cs,os,ks,gs,bs,l,d,t,od,rs,false,(List.length gs:Int),l,(List.length l:Int),(0:Int)⟩:lu)) (.ret)) (.ok (.v (.bool (wF (⟨cs,os,ks,gs,bs,l,d,t,od,rs,false,(List.length gs:Int),l,(List.length l:Int),(0:Int)⟩:lu)).r))) (.req (awl (⟨cs,os,ks,gs,bs,l,d,t,od,rs,(wF (⟨cs,os,ks,gs,bs,l,d,t,od,rs,false,(List.length gs:Int),l,(List.length l:Int),(0:Int)⟩:lu)).r,gs,(List.length gs:Int),(0:Int)⟩:oz)) (.br (ig (aaw (⟨cs,os,ks,gs,bs,l,d,t,od,rs,(wF (⟨cs,os,ks,gs,bs,l,d,t,od,rs,false,(List.length gs:Int),l,(List.length l:Int),(0:Int)⟩:lu)).r,gs,(List.length gs:Int),(0:Int)⟩:oz)) (.ret)) (.ok (.v (.bool (YS (⟨cs,os,ks,gs,bs,l,d,t,od,rs,(wF (⟨cs,os,ks,gs,bs,l,d,t,od,rs,false,(List.length gs:Int),l,(List.length l:Int),(0:Int)⟩:lu)).r,gs,(List.length gs:Int),(0:Int)⟩:oz)).r))) (.ok (.v (.bool true)))))))):=by kernel_rfl
theorem aru:Valid Tryz.prog aP 35 Xv:=aH Tryz.func35 rfl ahi aG (L:=(fun i=>if i=8 then EC.lp else if i=14 then Ez.lp else aC i)) (fun b hb=>by
 rw [show aF _=[AZ,AY] by kernel_rfl] at hb
 simp only [List.mem_cons,List.not_mem_nil,or_false] at hb
 rcases hb with rfl|rfl
 ·exact akR
 ·exact akQ) (fun args lv h=>by
 unfold abA at h
 split at h
 ·split at h
  case h_2=>cases h
  rename_i heq0
  simp only [canL,canX]
  rw [oH (n:=9) heq0]
  simp only [canL,canX]
  rw [amK]
  rename_i rs n _ cs os ks gs bs l d t od
  obtain rfl:=h
  have e0:((F5 cs os ks gs bs !=0) || !jY l)=!(fO cs os ks gs bs&&jY l):=by
   unfold F5
   cases fO cs os ks gs bs<;>cases jY l<;>rfl
  have e1:(((List.length rs:Int) !=(List.length gs:Int)) ||(((List.length d:Int) !=(List.length gs:Int)) ||(!inB t 0 1000000 || !inB n 1 999900)))=!(decide (rs.length=gs.length)&&(decide (d.length=gs.length)&&(inB t 0 1000000&&inB n 1 999900))):=by
   rw [neN,neN,Bool.not_and,Bool.not_and,Bool.not_and]
  rw [e0,e1]
  have bad:FH cs os ks gs bs l rs d t n=false→LV.v (.bool false)=LV.v (.bool (FH cs os ks gs bs l rs d t n)):=fun h=>by rw [h]
  refine ⟨fun c=>bad (by unfold FH;rw [ntW c];rfl),fun c=>⟨fun c2=>bad (by unfold FH;rw [ntW c2,Bool.false_and,Bool.and_false]),fun c2=>?_⟩⟩
  have c:=PS c
  have c2:=PS c2
  have c':=c
  have c2':=c2
  simp only [Bool.and_eq_true,decide_eq_true_eq] at c' c2'
  have hl:=pM c'.2
  have hg:=(gm.1 c'.1).1.2.2.2.2.1
  have hE:ace ⟨cs,os,ks,gs,bs,l,d,t,od,rs,false,(List.length gs:Int),l,(List.length l:Int),0⟩:=⟨rfl,by simp only;omega,by simp only;omega,rfl⟩
  have ev:FH cs os ks gs bs l rs d t n=(below gs.length l&&Jr gs.length (fun j=>QN (bC gs j) (lH rs j)&&Uw (su d j))):=by
   unfold FH
   rw [c,c2,Bool.true_and,Bool.true_and]
  refine ⟨⟨hE,rfl,rfl⟩,?_⟩
  obtain ⟨_,_,hq⟩:=an4 _ hE
  have eb:below gs.length l=Jr l.length (fun j=>decide ((bI l j).2.1<(gs.length:Int))):=by
   rw [Bool.eq_iff_iff,fM]
   exact (jw (d:=(0,0,0,0,0)) (p:=fun x:Le=>decide (x.2.1<(gs.length:Int)))).symm
  rcases hq with ⟨q1,q2⟩ |⟨q1,q2,j,q3,q4⟩<;>rw [q1]
  rotate_left
  ·rw [q2]
   exact ⟨fun _=>bad (by rw [ev,eb,sU (f:=fun j=>decide ((bI l j).2.1<(gs.length:Int))) j q3 q4];rfl),fun h=>by cases h⟩
  refine ⟨fun h=>(by cases h),fun _=>?_⟩
  have g0:below gs.length l=true:=by rw [eb];exact fM.2 q2
  have hE2:acd ⟨cs,os,ks,gs,bs,l,d,t,od,rs,(wF ⟨cs,os,ks,gs,bs,l,d,t,od,rs,false,(List.length gs:Int),l,(List.length l:Int),0⟩).r,gs,(List.length gs:Int),0⟩:=⟨rfl,by simp only;omega,by simp only;omega,rfl,c2'.1,c2'.2.1⟩
  refine ⟨⟨hE2,rfl,rfl⟩,?_⟩
  obtain ⟨_,_,hq⟩:=an3 _ hE2
  rcases hq with ⟨q5,q6⟩ |⟨q5,q6,j,q7,q8⟩<;>rw [q5]
  ·exact ⟨fun h=>(by cases h),fun _=>by rw [ev,g0,(fM (f:=fun j=>QN (bC gs j) (lH rs j)&&Uw (su d j))).2 q6];rfl⟩
  ·rw [q6]
   exact ⟨fun _=>bad (by rw [ev,sU (f:=fun j=>QN (bC gs j) (lH rs j)&&Uw (su d j)) j q7 q8,Bool.and_false]),fun h=>by cases h⟩
 ·cases h)
end Go.Proofs.YtlihnbimgclogaaGreatDoor
namespace Go.Proofs.YtlihnbimgclogaaGreatDoor
open Go.Sx
structure oh where
 n:Int
 r:Bool
 l:List Int
 m:Int
 k:Int
 seen:List Bool
def aA9 (s:oh):List LV:=[.v (.int .i64 s.n),.v (.bool s.r),.os 0 1 0 (List.length s.seen),.xl (.int .i64) s.l,.v (.int .i64 s.m),.v (.int .i64 s.k)]
def aAd (s:oh):List aT:=[⟨[],4,.vec .bool s.seen,false⟩]
noncomputable def AQ:Code:=((aF (Tryz.f94.body.getD .skip))[0]?).getD .skip
def Yl (s:oh):T (Rd oh):=
 .br (decide (s.k<s.m)) (.req (0≤s.k∧s.k<(List.length s.l:Int)) (.br (decide ((gi s.l s.k)<0)) (.rl s.seen (.ok (.stop (.ret) {s with r:=false}))) (.br (decide ((gi s.l s.k)≥s.n)) (.rl s.seen (.ok (.stop (.ret) {s with r:=false}))) (.req (0≤(gi s.l s.k)∧(gi s.l s.k)<((List.length s.seen:Nat):Int)) (.req ((gi s.l s.k).toNat<List.length s.seen) (.br (s.seen.getD (gi s.l s.k).toNat (Ty.dflt .bool)) (.rl s.seen (.ok (.stop (.ret) {s with r:=false}))) (.req (0≤(gi s.l s.k)∧(gi s.l s.k)<((List.length s.seen:Nat):Int)) (.req ((gi s.l s.k).toNat<List.length s.seen) (.req (0=0∧(List.length s.seen)=List.length (s.seen.set (gi s.l s.k).toNat true)) (.ok (.next {s with k:=(IntKind.i64.wrap (s.k+1)),seen:=(s.seen.set (gi s.l s.k).toNat true)}))))))))))) (.rl s.seen (.ok (.stop (.exit 0) s)))
abbrev aqe (s:oh):=(Yl s).rd s
def BB (s:oh) (j:Int):Bool:=QL s.n (gi s.l j)&&!(((s.l.take j.toNat).map id).contains (id (gi s.l j)))
def ajE (s:oh):Prop:=s.k=0∧s.seen=List.replicate s.seen.length false∧s.m=(s.l.length:Int)∧s.m≤1000∧s.n=(s.seen.length:Int)
def LD (s:oh):Prop:=(0≤s.k∧s.k≤s.m)∧(∀j:Nat,j<s.seen.length→s.seen.getD j false=(s.l.take s.k.toNat).contains (j:Int))∧(∀j:Nat,(j:Int)<s.k→BB s j=true)∧s.m=(s.l.length:Int)∧s.m≤1000∧s.n=(s.seen.length:Int)
def NV (s:oh):Nat:=(s.m-s.k).toNat
def abT (x:Ex) (_ s':oh):Prop:=(x=.exit 0∧∀j:Nat,(j:Int)<s'.m→BB s' j=true)∨(x=.ret∧s'.r=false∧∃j:Nat,(j:Int)<s'.m∧BB s' j=false)
theorem ayg:∀s,ajE s→LD s:=by
 intro s h
 obtain ⟨h0,h1,h2,h3,h4⟩:=h
 refine ⟨by omega,fun j hj=>?_,fun j hj=>by omega,h2,h3,h4⟩
 rw [h1,h0]
 simp [List.getD,List.getElem?_replicate]
 split<;>rfl
theorem aun (s:oh) (hI:LD s):bM (fun s'=>LD s'∧NV s'<NV s) (fun x s'=>abT x s s') (aqe s):=by
 unfold aqe Yl
 dsimp only [T.rd,T.rl]
 obtain ⟨⟨h0,h1⟩,h2,h3,h4,h5,h6⟩:=hI
 refine au (fun c1=>?_) (fun c1=>?_)
 rotate_left
 ·have c1:s.m≤s.k:=by simpa using c1
  exact .inl ⟨rfl,fun j hj=>h3 j (by omega)⟩
 have c1:s.k<s.m:=by simpa using c1
 have bad:BB s s.k=false→abT .ret s {s with r:=false}:=fun hg=> .inr ⟨rfl,rfl,s.k.toNat,by simp only;omega,by rw [Int.toNat_of_nonneg h0];exact hg⟩
 refine au (fun c2=>bad ?_) (fun c2=>au (fun c3=>bad ?_) (fun c3=>au (fun c4=>bad ?_) (fun c4=>?_)))
 ·unfold BB QL
  simp only [decide_eq_true_eq] at c2
  rw [decide_eq_false (by omega)]
  rfl
 ·unfold BB QL
  simp only [decide_eq_true_eq] at c3
  rw [decide_eq_false (p:=gi s.l s.k<s.n) (by omega),Bool.and_false]
  rfl
 all_goals
  have c2:0≤gi s.l s.k:=by simpa using c2
  have c3:gi s.l s.k<s.n:=by simpa using c3
  have e:=h2 (gi s.l s.k).toNat (by omega)
  rw [Int.toNat_of_nonneg c2] at e
 ·have c4:s.seen.getD (gi s.l s.k).toNat false=true:=c4
  unfold BB
  rw [List.map_id,id,←e,c4]
  simp
 ·have c4:s.seen.getD (gi s.l s.k).toNat false=false:=c4
  have hg:BB s s.k=true:=by
   unfold BB
   rw [List.map_id,id,←e,c4,y8.2 ⟨c2,c3⟩]
   rfl
  rw [aK (x:=s.k+1) (by omega) (by omega)]
  refine ⟨⟨⟨by simp only;omega,by simp only;omega⟩,fun j hj=>?_,fun j hj=>?_,h4,h5,by simp only [List.length_set];exact h6⟩,by simp only [NV];omega⟩
  ·simp only [List.length_set] at hj
   simp only
   rw [(gi_step h0 (show s.k<s.l.length by omega)).2,List.contains_append,←h2 j hj]
   by_cases hj2:(gi s.l s.k).toNat=j
   ·subst hj2
    rw [Int.toNat_of_nonneg c2]
    simp [List.getD,hj]
   ·have:¬(j:Int)=gi s.l s.k:=by omega
    simp [List.getD,List.getElem?_set_ne hj2,this]
  ·by_cases hji:(j:Int)<s.k
   ·exact h3 j hji
   ·have:(j:Int)=s.k:=by simp only at hj;omega
    rw [this];exact hg
def Et:bQ oh:=⟨0,37,[1,4,5,14,15,16],[],aA9,aAd,fun v b=>⟨gI (v.getD 0 .junk),vH (v.getD 1 .junk),aQ (.int .i64) (v.getD 3 .junk),gI (v.getD 4 .junk),gI (v.getD 5 .junk),jk .bool (aO b 0)⟩,Yl,fun s r=> {r with n:=s.n,l:=s.l,m:=s.m},fun s=>s,fun _ s=>s,[.ret,.exit 0],ajE,LD,NV⟩
abbrev YP:=Et.run
abbrev aas:=Et.jZ
abbrev awe:=Et.q
theorem asN (s:oh) (hI:LD s):(Yl s).all (fun _=>True):=by
 refine ⟨fun c1=>⟨?_,fun c2=>⟨⟨rfl,rfl⟩,trivial⟩,fun c2=>⟨fun c3=>⟨⟨rfl,rfl⟩,trivial⟩,fun c3=>⟨?_,?_,fun c4=>⟨⟨rfl,rfl⟩,trivial⟩,fun c4=>⟨?_,?_,?_,trivial⟩⟩⟩⟩,fun c1=>⟨⟨rfl,rfl⟩,trivial⟩⟩
 iterate 5 · (obtain ⟨⟨h0,h1⟩,h2,h3,h4,h5,h6⟩:=hI;simp only [decide_eq_true_eq,decide_eq_false_iff_not] at*;omega)
 ·exact ⟨rfl,by simp⟩
noncomputable def ahz:Specs:=bf []
theorem apC:∀g S,ahz g=some S→Valid Tryz.prog aP g S:=aS (l:=[]) trivial
theorem afN:Et.Ok:=⟨fun s=>by kernel_rfl,fun s=>by kernel_rfl,fun s=>rfl,fun s t r=>rfl,fun s=>rfl,fun s=>by kernel_rfl⟩
theorem aeP:Et.Pf (abT):=⟨ayg,fun _ _=>rfl,aun,asN⟩
theorem akL:bg Tryz.prog aP (AN 0) (.loop AQ) Et.lp:=bQ.snd afN aeP (aU (Γ:=ahz) (K:=eY) (L:=aC) apC aG AQ (fun b hb=>by rw [show aF AQ=[] by kernel_rfl] at hb;cases hb)) (fun s=>by kernel_rfl)
theorem ane (s:oh) (hE:ajE s):∃s',LD s'∧abT (aas s) s' (YP s):=bQ.fin afN aeP s hE
def abv:List LV→T LV
 | [.xl (.int .i64) l,.v (.int .i64 n)]=> .req (n≤1000) (.ok (.v (.bool (lW l n))))
 |_=> .no
noncomputable def qf:List LV→T LV:=gW Tryz.prog Tryz.f94.params.toList abv
theorem amF (l:List Int) (n:Int):bW Tryz.prog aP (ahz) eY (fun i=>if i=5 then Et.lp else aC i) Tryz.f94 [.xl (.int .i64) l,.v (.int .i64 n)]=.br ((List.length l:Int) !=n) (.ok (.v (.bool false))) (.req (0≤n∧n≤n∧1*n≤2^48∧n<2^63) (.req (0=0∧n.toNat=List.length (List.replicate n.toNat false)) (.req (awe (⟨n,false,l,(List.length l:Int),(0:Int),(List.replicate n.toNat false)⟩:oh)) (.br (ig (aas (⟨n,false,l,(List.length l:Int),(0:Int),(List.replicate n.toNat false)⟩:oh)) (.ret)) (.ok (.v (.bool (YP (⟨n,false,l,(List.length l:Int),(0:Int),(List.replicate n.toNat false)⟩:oh)).r))) (.ok (.v (.bool true))))))):=by kernel_rfl
theorem FK:Valid Tryz.prog aP 94 qf:=aH Tryz.func94 rfl apC aG (L:=(fun i=>if i=5 then Et.lp else aC i)) (fun b hb=>by
 rw [show aF _=[AQ] by kernel_rfl] at hb
 simp only [List.mem_cons,List.not_mem_nil,or_false] at hb
 subst hb
 exact akL) (fun args lv h=>by
 unfold abv at h
 split at h
 ·simp only [canL,canX]
  rw [amF]
  rename_i l n
  obtain ⟨hl,rfl⟩:=h
  refine ⟨fun c=>congrArg (fun z=>LV.v (.bool z)) ?_,fun c=>?_⟩
  ·have c:¬(List.length l:Int)=n:=by simpa using c
   unfold lW
   rw [decide_eq_false c]
   rfl
  ·have c:(List.length l:Int)=n:=by simpa using c
   unfold lW
   rw [decide_eq_true c,Bool.true_and]
   refine ⟨by omega,⟨rfl,by simp⟩,nD ⟨⟨rfl,by simp,rfl,by simp only;omega,by simp only [List.length_replicate];omega⟩,rfl,rfl⟩ (fun hE=>?_)⟩
   obtain ⟨s',_,hq⟩:=ane _ hE.1
   rcases hq with ⟨q1,q2⟩ |⟨q1,q2,j,q3,q4⟩
   ·rw [q1]
    have hk:=(kE (d:=(0:Int)) (p:=QL n) (k:=id)).1 q2
    rw [List.map_id] at hk
    rw [hk]
    exact ⟨fun h=>(by cases h),fun _=>rfl⟩
   ·rw [q1,q2]
    refine ⟨fun _=>congrArg (fun z=>LV.v (.bool z)) ?_,fun h=>by cases h⟩
    rw [eq_comm,Bool.eq_false_iff]
    intro hx
    have:=(kE (d:=(0:Int)) (p:=QL n) (k:=id)).2 (by rw [List.map_id];exact hx) j q3
    exact Bool.noConfusion (this.symm.trans q4)
 ·cases h)
end Go.Proofs.YtlihnbimgclogaaGreatDoor
namespace Go.Proofs.YtlihnbimgclogaaGreatDoor
open Go.Sx
structure jA where
 r:Bool
 l:List Int
 n:Int
 i:Int
 bJ:List Cd
 iL:List ByteArray
 fG:List Ko
 fV:List Ch
 lZ:List Ba
def aBe (s:jA):List LV:=[.fn 92 [],.v (.bool s.r),.xl (.int .i64) s.l,.v (.int .i64 s.n),.v (.int .i64 s.i)]
def aAh (s:jA):List aT:=[⟨[.xl dW s.bJ,.xl .str s.iL,.xl eu s.fG,.xl dQ s.fV,.xl eG s.lZ],28,.cl,false⟩]
noncomputable def SE:Code:=((aF (Tryz.f93.body.getD .skip))[0]?).getD .skip
def Ym (s:jA):T (Rd jA):=
 .br (decide (s.i<s.n)) (.req (0≤s.i∧s.i<(List.length s.l:Int)) (.br (!((decide ((gi s.l s.i)≥0))&&(decide ((gi s.l s.i)≤80)))) (.ok (.stop (.ret) {s with r:=false})) (.ok (.next {s with i:=(IntKind.i64.wrap (s.i+1))})))) (.ok (.stop (.exit 0) s))
abbrev aqf (s:jA):=(Ym s).rd s
def Ja (s:jA) (j:Int):Bool:=ug (gi s.l j)
def ab7 (s:jA):Prop:=s.i=0∧0≤s.n∧s.n≤1000∧s.n=(s.l.length:Int)
def LH (s:jA):Prop:=0≤s.i∧s.i≤s.n∧s.n≤1000∧(s.n=(s.l.length:Int))∧∀j:Nat,(j:Int)<s.i→Ja s j=true
def N7 (s:jA):Nat:=(s.n-s.i).toNat
def ai7 (x:Ex) (_ s':jA):Prop:=(x=.exit 0∧∀j:Nat,(j:Int)<s'.n→Ja s' j=true)∨(x=.ret∧s'.r=false∧∃j:Nat,(j:Int)<s'.n∧Ja s' j=false)
theorem ay3:∀s,ab7 s→LH s:=by
 intro s h
 obtain ⟨h0,h1,h2,h3⟩:=h
 exact ⟨by omega,by omega,h2,h3,fun j hj=>by omega⟩
theorem auU (s:jA) (hI:LH s):bM (fun s'=>LH s'∧N7 s'<N7 s) (fun x s'=>ai7 x s s') (aqf s):=by
 unfold aqf Ym
 dsimp only [T.rd,T.rl]
 obtain ⟨h0,h1,h2,h3,h4⟩:=hI
 refine au (fun c1=>au (fun c2=>?_) (fun c2=>?_)) (fun c1=>?_)
 ·have c1:s.i<s.n:=by simpa using c1
  refine .inr ⟨rfl,rfl,s.i.toNat,by simp only;omega,?_⟩
  rw [Int.toNat_of_nonneg (by omega)]
  have hg:Ja s s.i=false:=by unfold Ja;(first|(have c2:(!(ug (gi s.l s.i)))=false:=c2;simpa using c2) |(have c2:(!(ug (gi s.l s.i)))=true:=c2;simpa using c2))
  exact hg
 ·have c1:s.i<s.n:=by simpa using c1
  have hg:Ja s s.i=true:=by unfold Ja;(first|(have c2:(!(ug (gi s.l s.i)))=false:=c2;simpa using c2) |(have c2:(!(ug (gi s.l s.i)))=true:=c2;simpa using c2))
  rw [aK (x:=s.i+1) (by omega) (by omega)]
  refine ⟨⟨by simp only;omega,by simp only;omega,h2,h3,fun j hj=>?_⟩,by simp only [N7];omega⟩
  by_cases hji:(j:Int)<s.i
  ·exact h4 j hji
  ·have:(j:Int)=s.i:=by simp only at hj;omega
   rw [this];exact hg
 ·have c1:s.n≤s.i:=by simpa using c1
  exact .inl ⟨rfl,fun j hj=>h4 j (by omega)⟩
def uG:bQ jA:=⟨1,18,[1,4,7,8,9],[],aBe,aAh,fun v b=>⟨vH (v.getD 1 .junk),aQ (.int .i64) (v.getD 2 .junk),gI (v.getD 3 .junk),gI (v.getD 4 .junk),aQ dW (aY (aO b 0) 0),aQ .str (aY (aO b 0) 1),aQ eu (aY (aO b 0) 2),aQ dQ (aY (aO b 0) 3),aQ eG (aY (aO b 0) 4)⟩,Ym,fun s r=> {r with l:=s.l,n:=s.n,bJ:=s.bJ,iL:=s.iL,fG:=s.fG,fV:=s.fV,lZ:=s.lZ},fun s=>s,fun _ s=>s,[.ret,.exit 0],ab7,LH,N7⟩
abbrev sS:=uG.run
abbrev wW:=uG.jZ
abbrev XK:=uG.q
noncomputable def xO:Specs:=bf [(24,nG),(61,qg),(94,qf),(96,qc)]
theorem zC:∀g S,xO g=some S→Valid Tryz.prog aP g S:=aS (l:=[(24,nG),(61,qg),(94,qf),(96,qc)]) ⟨BI,FM,FK,FI,trivial⟩
noncomputable def ahb:Hand:=inl Tryz.prog aP xO (lJ Tryz.prog aP (xO) 20 2) 9
theorem apc:dM Tryz.prog aP ahb:=bT zC (dP zC) 9
theorem asR (s:jA) (hI:LH s):(Ym s).all (fun _=>True):=by
 refine ⟨fun c1=>⟨?_,fun _=>trivial,fun _=>trivial⟩,fun _=>trivial⟩
 ·(obtain ⟨h0,h1,h2,h3,h4⟩:=hI;simp at c1;omega)
theorem afR:uG.Ok:=⟨fun s=>by kernel_rfl,fun s=>by kernel_rfl,fun s=>rfl,fun s t r=>rfl,fun s=>rfl,fun s=>by kernel_rfl⟩
theorem aeT:uG.Pf (ai7):=⟨ay3,fun _ _=>rfl,auU,asR⟩
theorem wo:bg Tryz.prog aP (AN 1) (.loop SE) uG.lp:=bQ.snd afR aeT (bF (Γ:=xO) (K:=ahb) (L:=(sH Tryz.prog aP xO ahb 20 2)) zC apc SE (fun b _=>dR zC apc 20 2 b)) (fun s=>by kernel_rfl)
theorem anZ (s:jA) (hE:ab7 s):∃s',LH s'∧ai7 (wW s) s' (sS s):=bQ.fin afR aeT s hE
theorem aaB (s:jA) (hE:ab7 s):(wW s=.exit 0∧s.l.all ug=true)∨(wW s=.ret∧(sS s).r=false∧s.l.all ug=false):=by
 obtain ⟨s',hI,hq⟩:=anZ s hE
 obtain ⟨h0,h1,h2,h3⟩:=hE
 have el:(sS s).l=s.l:=rfl
 have en:(sS s).n=s.n:=rfl
 rcases hq with ⟨q1,q2⟩ |⟨q1,q2,j,q3,q4⟩
 ·refine .inl ⟨q1,(jw (d:=(0:Int))).1 fun j hj=>?_⟩
  have:=q2 j (by rw [en];omega)
  exact this
 ·refine .inr ⟨q1,q2,?_⟩
  rw [Bool.eq_false_iff]
  intro hx
  have:=(jw (d:=(0:Int))).2 hx j (by rw [en] at q3;omega)
  exact Bool.noConfusion (this.symm.trans q4)
structure gZ where
 alive:List Int
 i:Int
 rows:List Rw
 rn:Int
 ri:Int
 l:List Int
 n:Int
 k:Int
 bP:List Cd
 dV:List ByteArray
 bV:List Ko
 cu:List Ch
 iD:List Ba
 xY:List Cd
 xW:List ByteArray
 xX:List Ko
 eP:List Ch
 xZ:List Ba
 bG:List Rw
 aZ:List Int
 jg:List Int
 jf:List Int
 je:List Int
 jd:List Int
 jc:List Int
 jb:List Int
 ja:List Int
 iZ:List Int
 iY:List Int
 iW:List Int
 dK:List Int
 dJ:List Int
 dI:List Int
 dH:List Int
 dG:List Int
 dF:List Int
 sums:List Int
 levels:List Int
def aAZ (s:gZ):List LV:=[.xl (.int .i64) s.alive,.own 1 0,.v (.int .i64 s.i),.xl ER s.rows,.v (.int .i64 s.rn),.v (.int .i64 s.ri),.xl (.int .i64) s.l,.v (.int .i64 s.n),.v (.int .i64 s.k)]
def az3 (s:gZ):List aT:=[⟨[.xl dW s.bP,.xl .str s.dV,.xl eu s.bV,.xl dQ s.cu,.xl eG s.iD],28,.cl,false⟩,⟨[.xl dW s.xY,.xl .str s.xW,.xl eu s.xX,.xl dQ s.eP,.xl eG s.xZ,.xl ER s.bG,.os 2 1 0 (List.length s.jg),.os 3 1 0 (List.length s.jf),.os 4 1 0 (List.length s.je),.os 5 1 0 (List.length s.jd),.os 6 1 0 (List.length s.jc),.os 7 1 0 (List.length s.jb),.os 8 1 0 (List.length s.ja),.os 9 1 0 (List.length s.iZ),.os 10 1 0 (List.length s.iY),.os 11 1 0 (List.length s.iW),.os 12 1 0 (List.length s.dK),.os 13 1 0 (List.length s.dJ),.os 14 1 0 (List.length s.dI),.os 15 1 0 (List.length s.dH),.os 16 1 0 (List.length s.dG),.os 17 1 0 (List.length s.dF),.os 18 1 0 (List.length s.sums),.xl (.int .i64) s.aZ,.os 19 1 0 (List.length s.levels)],148,.cl,false⟩,⟨[],3,.vec (.int .i64) s.jg,false⟩,⟨[],3,.vec (.int .i64) s.jf,false⟩,⟨[],3,.vec (.int .i64) s.je,false⟩,⟨[],3,.vec (.int .i64) s.jd,false⟩,⟨[],3,.vec (.int .i64) s.jc,false⟩,⟨[],3,.vec (.int .i64) s.jb,false⟩,⟨[],3,.vec (.int .i64) s.ja,false⟩,⟨[],3,.vec (.int .i64) s.iZ,false⟩,⟨[],3,.vec (.int .i64) s.iY,false⟩,⟨[],3,.vec (.int .i64) s.iW,false⟩,⟨[],3,.vec (.int .i64) s.dK,false⟩,⟨[],3,.vec (.int .i64) s.dJ,false⟩,⟨[],3,.vec (.int .i64) s.dI,false⟩,⟨[],3,.vec (.int .i64) s.dH,false⟩,⟨[],3,.vec (.int .i64) s.dG,false⟩,⟨[],3,.vec (.int .i64) s.dF,false⟩,⟨[],3,.vec (.int .i64) s.sums,false⟩,⟨[],3,.vec (.int .i64) s.levels,false⟩]
noncomputable def Ij:Code:=((aF (((aF (Tryz.f95.body.getD .skip))[0]?).getD .skip))[0]?).getD .skip
set_option maxHeartbeats 4000000 in
def Qh (s:gZ):T (Rd gZ):=
 .br (decide (s.k<s.n)) (.req (0≤s.k∧s.k<(List.length s.l:Int)) (.req (0≤(gi s.l s.k)∧(gi s.l s.k)<(16:Int)) (.br ((gi s.l s.k)==0) (.req (0+(List.length s.jg)=List.length s.jg∧((List.length s.jg+List.length ([s.i]):Nat):Int)*8≤2^47∧((List.length s.jg+List.length ([s.i]):Nat):Int)<2^62) (.req (0≤s.i∧s.i<((List.length s.sums:Nat):Int)) (.req (0≤(0:Int)∧0<(List.length s.alive:Int)) (.req (s.i.toNat<List.length s.sums) (.req (0≤s.i∧s.i<((List.length s.sums:Nat):Int)) (.req (s.i.toNat<List.length s.sums) (.req (0=0∧(List.length s.jg+List.length ([s.i]))=List.length (s.jg++([s.i]))) (.rl s.jf (.rl s.je (.rl s.jd (.rl s.jc (.rl s.jb (.rl s.ja (.rl s.iZ (.rl s.iY (.rl s.iW (.rl s.dK (.rl s.dJ (.rl s.dI (.rl s.dH (.rl s.dG (.rl s.dF (.req (0=0∧(List.length s.sums)=List.length (s.sums.set s.i.toNat (IntKind.i64.wrap ((s.sums.getD s.i.toNat (Ty.dflt (.int .i64)))+(gi s.alive (0:Int)))))) (.rl s.levels (.ok (.next {s with k:=(IntKind.i64.wrap (s.k+1)),jg:=(s.jg++([s.i])),sums:=(s.sums.set s.i.toNat (IntKind.i64.wrap ((s.sums.getD s.i.toNat (Ty.dflt (.int .i64)))+(gi s.alive (0:Int)))))})))))))))))))))))))))))))) (.br ((gi s.l s.k)==1) (.req (0+(List.length s.jf)=List.length s.jf∧((List.length s.jf+List.length ([s.i]):Nat):Int)*8≤2^47∧((List.length s.jf+List.length ([s.i]):Nat):Int)<2^62) (.req (0≤s.i∧s.i<((List.length s.sums:Nat):Int)) (.req (0≤(1:Int)∧1<(List.length s.alive:Int)) (.req (s.i.toNat<List.length s.sums) (.req (0≤s.i∧s.i<((List.length s.sums:Nat):Int)) (.req (s.i.toNat<List.length s.sums) (.rl s.jg (.req (0=0∧(List.length s.jf+List.length ([s.i]))=List.length (s.jf++([s.i]))) (.rl s.je (.rl s.jd (.rl s.jc (.rl s.jb (.rl s.ja (.rl s.iZ (.rl s.iY (.rl s.iW (.rl s.dK (.rl s.dJ (.rl s.dI (.rl s.dH (.rl s.dG (.rl s.dF (.req (0=0∧(List.length s.sums)=List.length (s.sums.set s.i.toNat (IntKind.i64.wrap ((s.sums.getD s.i.toNat (Ty.dflt (.int .i64)))+(gi s.alive (1:Int)))))) (.rl s.levels (.ok (.next {s with k:=(IntKind.i64.wrap (s.k+1)),jf:=(s.jf++([s.i])),sums:=(s.sums.set s.i.toNat (IntKind.i64.wrap ((s.sums.getD s.i.toNat (Ty.dflt (.int .i64)))+(gi s.alive (1:Int)))))})))))))))))))))))))))))))) (.br ((gi s.l s.k)==2) (.req (0+(List.length s.je)=List.length s.je∧((List.length s.je+List.length ([s.i]):Nat):Int)*8≤2^47∧((List.length s.je+List.length ([s.i]):Nat):Int)<2^62) (.req (0≤s.i∧s.i<((List.length s.sums:Nat):Int)) (.req (0≤(2:Int)∧2<(List.length s.alive:Int)) (.req (s.i.toNat<List.length s.sums) (.req (0≤s.i∧s.i<((List.length s.sums:Nat):Int)) (.req (s.i.toNat<List.length s.sums) (.rl s.jg (.rl s.jf (.req (0=0∧(List.length s.je+List.length ([s.i]))=List.length (s.je++([s.i]))) (.rl s.jd (.rl s.jc (.rl s.jb (.rl s.ja (.rl s.iZ (.rl s.iY (.rl s.iW (.rl s.dK (.rl s.dJ (.rl s.dI (.rl s.dH (.rl s.dG (.rl s.dF (.req (0=0∧(List.length s.sums)=List.length (s.sums.set s.i.toNat (IntKind.i64.wrap ((s.sums.getD s.i.toNat (Ty.dflt (.int .i64)))+(gi s.alive (2:Int)))))) (.rl s.levels (.ok (.next {s with k:=(IntKind.i64.wrap (s.k+1)),je:=(s.je++([s.i])),sums:=(s.sums.set s.i.toNat (IntKind.i64.wrap ((s.sums.getD s.i.toNat (Ty.dflt (.int .i64)))+(gi s.alive (2:Int)))))})))))))))))))))))))))))))) (.br ((gi s.l s.k)==3) (.req (0+(List.length s.jd)=List.length s.jd∧((List.length s.jd+List.length ([s.i]):Nat):Int)*8≤2^47∧((List.length s.jd+List.length ([s.i]):Nat):Int)<2^62) (.req (0≤s.i∧s.i<((List.length s.sums:Nat):Int)) (.req (0≤(3:Int)∧3<(List.length s.alive:Int)) (.req (s.i.toNat<List.length s.sums) (.req (0≤s.i∧s.i<((List.length s.sums:Nat):Int)) (.req (s.i.toNat<List.length s.sums) (.rl s.jg (.rl s.jf (.rl s.je (.req (0=0∧(List.length s.jd+List.length ([s.i]))=List.length (s.jd++([s.i]))) (.rl s.jc (.rl s.jb (.rl s.ja (.rl s.iZ (.rl s.iY (.rl s.iW (.rl s.dK (.rl s.dJ (.rl s.dI (.rl s.dH (.rl s.dG (.rl s.dF (.req (0=0∧(List.length s.sums)=List.length (s.sums.set s.i.toNat (IntKind.i64.wrap ((s.sums.getD s.i.toNat (Ty.dflt (.int .i64)))+(gi s.alive (3:Int)))))) (.rl s.levels (.ok (.next {s with k:=(IntKind.i64.wrap (s.k+1)),jd:=(s.jd++([s.i])),sums:=(s.sums.set s.i.toNat (IntKind.i64.wrap ((s.sums.getD s.i.toNat (Ty.dflt (.int .i64)))+(gi s.alive (3:Int)))))})))))))))))))))))))))))))) (.br ((gi s.l s.k)==4) (.req (0+(List.length s.jc)=List.length s.jc∧((List.length s.jc+List.length ([s.i]):Nat):Int)*8≤2^47∧((List.length s.jc+List.length ([s.i]):Nat):Int)<2^62) (.req (0≤s.i∧s.i<((List.length s.sums:Nat):Int)) (.req (0≤(4:Int)∧4<(List.length s.alive:Int)) (.req (s.i.toNat<List.length s.sums) (.req (0≤s.i∧s.i<((List.length s.sums:Nat):Int)) (.req (s.i.toNat<List.length s.sums) (.rl s.jg (.rl s.jf (.rl s.je (.rl s.jd (.req (0=0∧(List.length s.jc+List.length ([s.i]))=List.length (s.jc++([s.i]))) (.rl s.jb (.rl s.ja (.rl s.iZ (.rl s.iY (.rl s.iW (.rl s.dK (.rl s.dJ (.rl s.dI (.rl s.dH (.rl s.dG (.rl s.dF (.req (0=0∧(List.length s.sums)=List.length (s.sums.set s.i.toNat (IntKind.i64.wrap ((s.sums.getD s.i.toNat (Ty.dflt (.int .i64)))+(gi s.alive (4:Int)))))) (.rl s.levels (.ok (.next {s with k:=(IntKind.i64.wrap (s.k+1)),jc:=(s.jc++([s.i])),sums:=(s.sums.set s.i.toNat (IntKind.i64.wrap ((s.sums.getD s.i.toNat (Ty.dflt (.int .i64)))+(gi s.alive (4:Int)))))})))))))))))))))))))))))))) (.br ((gi s.l s.k)==5) (.req (0+(List.length s.jb)=List.length s.jb∧((List.length s.jb+List.length ([s.i]):Nat):Int)*8≤2^47∧((List.length s.jb+List.length ([s.i]):Nat):Int)<2^62) (.req (0≤s.i∧s.i<((List.length s.sums:Nat):Int)) (.req (0≤(5:Int)∧5<(List.length s.alive:Int)) (.req (s.i.toNat<List.length s.sums) (.req (0≤s.i∧s.i<((List.length s.sums:Nat):Int)) (.req (s.i.toNat<List.length s.sums) (.rl s.jg (.rl s.jf (.rl s.je (.rl s.jd (.rl s.jc (.req (0=0∧(List.length s.jb+List.length ([s.i]))=List.length (s.jb++([s.i]))) (.rl s.ja (.rl s.iZ (.rl s.iY (.rl s.iW (.rl s.dK (.rl s.dJ (.rl s.dI (.rl s.dH (.rl s.dG (.rl s.dF (.req (0=0∧(List.length s.sums)=List.length (s.sums.set s.i.toNat (IntKind.i64.wrap ((s.sums.getD s.i.toNat (Ty.dflt (.int .i64)))+(gi s.alive (5:Int)))))) (.rl s.levels (.ok (.next {s with k:=(IntKind.i64.wrap (s.k+1)),jb:=(s.jb++([s.i])),sums:=(s.sums.set s.i.toNat (IntKind.i64.wrap ((s.sums.getD s.i.toNat (Ty.dflt (.int .i64)))+(gi s.alive (5:Int)))))})))))))))))))))))))))))))) (.br ((gi s.l s.k)==6) (.req (0+(List.length s.ja)=List.length s.ja∧((List.length s.ja+List.length ([s.i]):Nat):Int)*8≤2^47∧((List.length s.ja+List.length ([s.i]):Nat):Int)<2^62) (.req (0≤s.i∧s.i<((List.length s.sums:Nat):Int)) (.req (0≤(6:Int)∧6<(List.length s.alive:Int)) (.req (s.i.toNat<List.length s.sums) (.req (0≤s.i∧s.i<((List.length s.sums:Nat):Int)) (.req (s.i.toNat<List.length s.sums) (.rl s.jg (.rl s.jf (.rl s.je (.rl s.jd (.rl s.jc (.rl s.jb (.req (0=0∧(List.length s.ja+List.length ([s.i]))=List.length (s.ja++([s.i]))) (.rl s.iZ (.rl s.iY (.rl s.iW (.rl s.dK (.rl s.dJ (.rl s.dI (.rl s.dH (.rl s.dG (.rl s.dF (.req (0=0∧(List.length s.sums)=List.length (s.sums.set s.i.toNat (IntKind.i64.wrap ((s.sums.getD s.i.toNat (Ty.dflt (.int .i64)))+(gi s.alive (6:Int)))))) (.rl s.levels (.ok (.next {s with k:=(IntKind.i64.wrap (s.k+1)),ja:=(s.ja++([s.i])),sums:=(s.sums.set s.i.toNat (IntKind.i64.wrap ((s.sums.getD s.i.toNat (Ty.dflt (.int .i64)))+(gi s.alive (6:Int)))))})))))))))))))))))))))))))) (.br ((gi s.l s.k)==7) (.req (0+(List.length s.iZ)=List.length s.iZ∧((List.length s.iZ+List.length ([s.i]):Nat):Int)*8≤2^47∧((List.length s.iZ+List.length ([s.i]):Nat):Int)<2^62) (.req (0≤s.i∧s.i<((List.length s.sums:Nat):Int)) (.req (0≤(7:Int)∧7<(List.length s.alive:Int)) (.req (s.i.toNat<List.length s.sums) (.req (0≤s.i∧s.i<((List.length s.sums:Nat):Int)) (.req (s.i.toNat<List.length s.sums) (.rl s.jg (.rl s.jf (.rl s.je (.rl s.jd (.rl s.jc (.rl s.jb (.rl s.ja (.req (0=0∧(List.length s.iZ+List.length ([s.i]))=List.length (s.iZ++([s.i]))) (.rl s.iY (.rl s.iW (.rl s.dK (.rl s.dJ (.rl s.dI (.rl s.dH (.rl s.dG (.rl s.dF (.req (0=0∧(List.length s.sums)=List.length (s.sums.set s.i.toNat (IntKind.i64.wrap ((s.sums.getD s.i.toNat (Ty.dflt (.int .i64)))+(gi s.alive (7:Int)))))) (.rl s.levels (.ok (.next {s with k:=(IntKind.i64.wrap (s.k+1)),iZ:=(s.iZ++([s.i])),sums:=(s.sums.set s.i.toNat (IntKind.i64.wrap ((s.sums.getD s.i.toNat (Ty.dflt (.int .i64)))+(gi s.alive (7:Int)))))})))))))))))))))))))))))))) (.br ((gi s.l s.k)==8) (.req (0+(List.length s.iY)=List.length s.iY∧((List.length s.iY+List.length ([s.i]):Nat):Int)*8≤2^47∧((List.length s.iY+List.length ([s.i]):Nat):Int)<2^62) (.req (0≤s.i∧s.i<((List.length s.sums:Nat):Int)) (.req (0≤(8:Int)∧8<(List.length s.alive:Int)) (.req (s.i.toNat<List.length s.sums) (.req (0≤s.i∧s.i<((List.length s.sums:Nat):Int)) (.req (s.i.toNat<List.length s.sums) (.rl s.jg (.rl s.jf (.rl s.je (.rl s.jd (.rl s.jc (.rl s.jb (.rl s.ja (.rl s.iZ (.req (0=0∧(List.length s.iY+List.length ([s.i]))=List.length (s.iY++([s.i]))) (.rl s.iW (.rl s.dK (.rl s.dJ (.rl s.dI (.rl s.dH (.rl s.dG (.rl s.dF (.req (0=0∧(List.length s.sums)=List.length (s.sums.set s.i.toNat (IntKind.i64.wrap ((s.sums.getD s.i.toNat (Ty.dflt (.int .i64)))+(gi s.alive (8:Int)))))) (.rl s.levels (.ok (.next {s with k:=(IntKind.i64.wrap (s.k+1)),iY:=(s.iY++([s.i])),sums:=(s.sums.set s.i.toNat (IntKind.i64.wrap ((s.sums.getD s.i.toNat (Ty.dflt (.int .i64)))+(gi s.alive (8:Int)))))})))))))))))))))))))))))))) (.br ((gi s.l s.k)==9) (.req (0+(List.length s.iW)=List.length s.iW∧((List.length s.iW+List.length ([s.i]):Nat):Int)*8≤2^47∧((List.length s.iW+List.length ([s.i]):Nat):Int)<2^62) (.req (0≤s.i∧s.i<((List.length s.sums:Nat):Int)) (.req (0≤(9:Int)∧9<(List.length s.alive:Int)) (.req (s.i.toNat<List.length s.sums) (.req (0≤s.i∧s.i<((List.length s.sums:Nat):Int)) (.req (s.i.toNat<List.length s.sums) (.rl s.jg (.rl s.jf (.rl s.je (.rl s.jd (.rl s.jc (.rl s.jb (.rl s.ja (.rl s.iZ (.rl s.iY (.req (0=0∧(List.length s.iW+List.length ([s.i]))=List.length (s.iW++([s.i]))) (.rl s.dK (.rl s.dJ (.rl s.dI (.rl s.dH (.rl s.dG (.rl s.dF (.req (0=0∧(List.length s.sums)=List.length (s.sums.set s.i.toNat (IntKind.i64.wrap ((s.sums.getD s.i.toNat (Ty.dflt (.int .i64)))+(gi s.alive (9:Int)))))) (.rl s.levels (.ok (.next {s with k:=(IntKind.i64.wrap (s.k+1)),iW:=(s.iW++([s.i])),sums:=(s.sums.set s.i.toNat (IntKind.i64.wrap ((s.sums.getD s.i.toNat (Ty.dflt (.int .i64)))+(gi s.alive (9:Int)))))})))))))))))))))))))))))))) (.br ((gi s.l s.k)==10) (.req (0+(List.length s.dK)=List.length s.dK∧((List.length s.dK+List.length ([s.i]):Nat):Int)*8≤2^47∧((List.length s.dK+List.length ([s.i]):Nat):Int)<2^62) (.req (0≤s.i∧s.i<((List.length s.sums:Nat):Int)) (.req (0≤(10:Int)∧10<(List.length s.alive:Int)) (.req (s.i.toNat<List.length s.sums) (.req (0≤s.i∧s.i<((List.length s.sums:Nat):Int)) (.req (s.i.toNat<List.length s.sums) (.rl s.jg (.rl s.jf (.rl s.je (.rl s.jd (.rl s.jc (.rl s.jb (.rl s.ja (.rl s.iZ (.rl s.iY (.rl s.iW (.req (0=0∧(List.length s.dK+List.length ([s.i]))=List.length (s.dK++([s.i]))) (.rl s.dJ (.rl s.dI (.rl s.dH (.rl s.dG (.rl s.dF (.req (0=0∧(List.length s.sums)=List.length (s.sums.set s.i.toNat (IntKind.i64.wrap ((s.sums.getD s.i.toNat (Ty.dflt (.int .i64)))+(gi s.alive (10:Int)))))) (.rl s.levels (.ok (.next {s with k:=(IntKind.i64.wrap (s.k+1)),dK:=(s.dK++([s.i])),sums:=(s.sums.set s.i.toNat (IntKind.i64.wrap ((s.sums.getD s.i.toNat (Ty.dflt (.int .i64)))+(gi s.alive (10:Int)))))})))))))))))))))))))))))))) (.br ((gi s.l s.k)==11) (.req (0+(List.length s.dJ)=List.length s.dJ∧((List.length s.dJ+List.length ([s.i]):Nat):Int)*8≤2^47∧((List.length s.dJ+List.length ([s.i]):Nat):Int)<2^62) (.req (0≤s.i∧s.i<((List.length s.sums:Nat):Int)) (.req (0≤(11:Int)∧11<(List.length s.alive:Int)) (.req (s.i.toNat<List.length s.sums) (.req (0≤s.i∧s.i<((List.length s.sums:Nat):Int)) (.req (s.i.toNat<List.length s.sums) (.rl s.jg (.rl s.jf (.rl s.je (.rl s.jd (.rl s.jc (.rl s.jb (.rl s.ja (.rl s.iZ (.rl s.iY (.rl s.iW (.rl s.dK (.req (0=0∧(List.length s.dJ+List.length ([s.i]))=List.length (s.dJ++([s.i]))) (.rl s.dI (.rl s.dH (.rl s.dG (.rl s.dF (.req (0=0∧(List.length s.sums)=List.length (s.sums.set s.i.toNat (IntKind.i64.wrap ((s.sums.getD s.i.toNat (Ty.dflt (.int .i64)))+(gi s.alive (11:Int)))))) (.rl s.levels (.ok (.next {s with k:=(IntKind.i64.wrap (s.k+1)),dJ:=(s.dJ++([s.i])),sums:=(s.sums.set s.i.toNat (IntKind.i64.wrap ((s.sums.getD s.i.toNat (Ty.dflt (.int .i64)))+(gi s.alive (11:Int)))))})))))))))))))))))))))))))) (.br ((gi s.l s.k)==12) (.req (0+(List.length s.dI)=List.length s.dI∧((List.length s.dI+List.length ([s.i]):Nat):Int)*8≤2^47∧((List.length s.dI+List.length ([s.i]):Nat):Int)<2^62) (.req (0≤s.i∧s.i<((List.length s.sums:Nat):Int)) (.req (0≤(12:Int)∧12<(List.length s.alive:Int)) (.req (s.i.toNat<List.length s.sums) (.req (0≤s.i∧s.i<((List.length s.sums:Nat):Int)) (.req (s.i.toNat<List.length s.sums) (.rl s.jg (.rl s.jf (.rl s.je (.rl s.jd (.rl s.jc (.rl s.jb (.rl s.ja (.rl s.iZ (.rl s.iY (.rl s.iW (.rl s.dK (.rl s.dJ (.req (0=0∧(List.length s.dI+List.length ([s.i]))=List.length (s.dI++([s.i]))) (.rl s.dH (.rl s.dG (.rl s.dF (.req (0=0∧(List.length s.sums)=List.length (s.sums.set s.i.toNat (IntKind.i64.wrap ((s.sums.getD s.i.toNat (Ty.dflt (.int .i64)))+(gi s.alive (12:Int)))))) (.rl s.levels (.ok (.next {s with k:=(IntKind.i64.wrap (s.k+1)),dI:=(s.dI++([s.i])),sums:=(s.sums.set s.i.toNat (IntKind.i64.wrap ((s.sums.getD s.i.toNat (Ty.dflt (.int .i64)))+(gi s.alive (12:Int)))))})))))))))))))))))))))))))) (.br ((gi s.l s.k)==13) (.req (0+(List.length s.dH)=List.length s.dH∧((List.length s.dH+List.length ([s.i]):Nat):Int)*8≤2^47∧((List.length s.dH+List.length ([s.i]):Nat):Int)<2^62) (.req (0≤s.i∧s.i<((List.length s.sums:Nat):Int)) (.req (0≤(13:Int)∧13<(List.length s.alive:Int)) (.req (s.i.toNat<List.length s.sums) (.req (0≤s.i∧s.i<((List.length s.sums:Nat):Int)) (.req (s.i.toNat<List.length s.sums) (.rl s.jg (.rl s.jf (.rl s.je (.rl s.jd (.rl s.jc (.rl s.jb (.rl s.ja (.rl s.iZ (.rl s.iY (.rl s.iW (.rl s.dK (.rl s.dJ (.rl s.dI (.req (0=0∧(List.length s.dH+List.length ([s.i]))=List.length (s.dH++([s.i]))) (.rl s.dG (.rl s.dF (.req (0=0∧(List.length s.sums)=List.length (s.sums.set s.i.toNat (IntKind.i64.wrap ((s.sums.getD s.i.toNat (Ty.dflt (.int .i64)))+(gi s.alive (13:Int)))))) (.rl s.levels (.ok (.next {s with k:=(IntKind.i64.wrap (s.k+1)),dH:=(s.dH++([s.i])),sums:=(s.sums.set s.i.toNat (IntKind.i64.wrap ((s.sums.getD s.i.toNat (Ty.dflt (.int .i64)))+(gi s.alive (13:Int)))))})))))))))))))))))))))))))) (.br ((gi s.l s.k)==14) (.req (0+(List.length s.dG)=List.length s.dG∧((List.length s.dG+List.length ([s.i]):Nat):Int)*8≤2^47∧((List.length s.dG+List.length ([s.i]):Nat):Int)<2^62) (.req (0≤s.i∧s.i<((List.length s.sums:Nat):Int)) (.req (0≤(14:Int)∧14<(List.length s.alive:Int)) (.req (s.i.toNat<List.length s.sums) (.req (0≤s.i∧s.i<((List.length s.sums:Nat):Int)) (.req (s.i.toNat<List.length s.sums) (.rl s.jg (.rl s.jf (.rl s.je (.rl s.jd (.rl s.jc (.rl s.jb (.rl s.ja (.rl s.iZ (.rl s.iY (.rl s.iW (.rl s.dK (.rl s.dJ (.rl s.dI (.rl s.dH (.req (0=0∧(List.length s.dG+List.length ([s.i]))=List.length (s.dG++([s.i]))) (.rl s.dF (.req (0=0∧(List.length s.sums)=List.length (s.sums.set s.i.toNat (IntKind.i64.wrap ((s.sums.getD s.i.toNat (Ty.dflt (.int .i64)))+(gi s.alive (14:Int)))))) (.rl s.levels (.ok (.next {s with k:=(IntKind.i64.wrap (s.k+1)),dG:=(s.dG++([s.i])),sums:=(s.sums.set s.i.toNat (IntKind.i64.wrap ((s.sums.getD s.i.toNat (Ty.dflt (.int .i64)))+(gi s.alive (14:Int)))))})))))))))))))))))))))))))) (.req (0+(List.length s.dF)=List.length s.dF∧((List.length s.dF+List.length ([s.i]):Nat):Int)*8≤2^47∧((List.length s.dF+List.length ([s.i]):Nat):Int)<2^62) (.req (0≤s.i∧s.i<((List.length s.sums:Nat):Int)) (.req (0≤(15:Int)∧15<(List.length s.alive:Int)) (.req (s.i.toNat<List.length s.sums) (.req (0≤s.i∧s.i<((List.length s.sums:Nat):Int)) (.req (s.i.toNat<List.length s.sums) (.rl s.jg (.rl s.jf (.rl s.je (.rl s.jd (.rl s.jc (.rl s.jb (.rl s.ja (.rl s.iZ (.rl s.iY (.rl s.iW (.rl s.dK (.rl s.dJ (.rl s.dI (.rl s.dH (.rl s.dG (.req (0=0∧(List.length s.dF+List.length ([s.i]))=List.length (s.dF++([s.i]))) (.req (0=0∧(List.length s.sums)=List.length (s.sums.set s.i.toNat (IntKind.i64.wrap ((s.sums.getD s.i.toNat (Ty.dflt (.int .i64)))+(gi s.alive (15:Int)))))) (.rl s.levels (.ok (.next {s with k:=(IntKind.i64.wrap (s.k+1)),dF:=(s.dF++([s.i])),sums:=(s.sums.set s.i.toNat (IntKind.i64.wrap ((s.sums.getD s.i.toNat (Ty.dflt (.int .i64)))+(gi s.alive (15:Int)))))}))))))))))))))))))))))))))))))))))))))))))) (.rl s.jg (.rl s.jf (.rl s.je (.rl s.jd (.rl s.jc (.rl s.jb (.rl s.ja (.rl s.iZ (.rl s.iY (.rl s.iW (.rl s.dK (.rl s.dJ (.rl s.dI (.rl s.dH (.rl s.dG (.rl s.dF (.rl s.sums (.rl s.levels (.ok (.stop (.exit 2) s))))))))))))))))))))
abbrev ZU (s:gZ):=(Qh s).rd s
def fC (s:gZ):List (List Int):=[s.jg,s.jf,s.je,s.jd,s.jc,s.jb,s.ja,s.iZ,s.iY,s.iW,s.dK,s.dJ,s.dI,s.dH,s.dG,s.dF]
def Ub (s:gZ):Prop:=s.k=0∧(∀o∈fC s,(o.length:Int)≤1000000)∧(0≤gi s.sums s.i∧gi s.sums s.i≤1000)∧s.n=(s.l.length:Int)∧s.n≤1000∧(∀m∈s.l,0≤m∧m<16∧m<(s.alive.length:Int))∧(∀a∈s.alive,0≤a∧a≤80)∧(0≤s.i∧s.i<(s.sums.length:Int))
def uF (s:gZ):Prop:=(0≤s.k∧s.k≤s.n)∧(∀o∈fC s,(o.length:Int)≤1000000+s.k)∧(0≤gi s.sums s.i∧gi s.sums s.i≤1000+80*s.k)∧s.n=(s.l.length:Int)∧s.n≤1000∧(∀m∈s.l,0≤m∧m<16∧m<(s.alive.length:Int))∧(∀a∈s.alive,0≤a∧a≤80)∧(0≤s.i∧s.i<(s.sums.length:Int))
def vg (s:gZ):Nat:=(s.n-s.k).toNat
def aiY (x:Ex) (_ s':gZ):Prop:=x=.exit 2∧s'.k=s'.n
theorem axZ:∀s,Ub s→uF s:=by
 intro s h
 obtain ⟨h0,h1,h2,h3⟩:=h
 exact ⟨by have:=h3.1;omega,fun o ho=>by have:=h1 o ho;omega,by omega,h3⟩
theorem fQ (s:gZ) (hI:uF s) (c1:s.k<s.n):0≤gi s.l s.k∧gi s.l s.k<16∧gi s.l s.k<(s.alive.length:Int):=by
 obtain ⟨⟨h0,h1⟩,h2,h3,h4,h5,h6,h7,h8⟩:=hI
 exact h6 _ (by rw [oN (by omega)];exact List.getElem_mem _)
theorem agf (s s':gZ) (j:Nat) (hI:uF s) (c1:s.k<s.n) (em:gi s.l s.k=(j:Int)) (hO:fC s'=(fC s).modify j (·++[s.i])) (hs:s'.sums=s.sums.set s.i.toNat (IntKind.i64.wrap (s.sums.getD s.i.toNat 0+gi s.alive (j:Int)))) (hk:s'.k=IntKind.i64.wrap (s.k+1)) (hn:s'.n=s.n) (hl:s'.l=s.l) (ha:s'.alive=s.alive) (hi:s'.i=s.i):
  (uF s'∧vg s'<vg s)∧(fun s:gZ=>(uI s.i (fC s) (s.l.drop s.k.toNat),s.sums.set s.i.toNat (s.sums.getD s.i.toNat 0+smA s.alive (s.l.drop s.k.toNat)))) s'=(fun s:gZ=>(uI s.i (fC s) (s.l.drop s.k.toNat),s.sums.set s.i.toNat (s.sums.getD s.i.toNat 0+smA s.alive (s.l.drop s.k.toNat)))) s:=by
 have hm:=fQ s hI c1
 obtain ⟨⟨h0,h1⟩,h2,⟨h3,h3'⟩,h4,h5,h6,h7,h8⟩:=hI
 rw [aK (x:=s.k+1) (by omega) (by omega)] at hk
 have hav:=h7 (gi s.alive (j:Int)) (by rw [oN (by omega)];exact List.getElem_mem _)
 have hgi:gi s.sums s.i=s.sums.getD s.i.toNat 0:=rfl
 rw [aK (x:=s.sums.getD s.i.toNat 0+gi s.alive (j:Int)) (by omega) (by omega)] at hs
 have hs2:gi s'.sums s'.i=s.sums.getD s.i.toNat 0+gi s.alive (j:Int):=by
  rw [hi,hs]
  show List.getD _ _ _=_
  simp [List.getD,show s.i.toNat<s.sums.length by omega]
 refine ⟨⟨⟨⟨by omega,by omega⟩,fun o ho=>?_,⟨by rw [hs2];omega,by rw [hs2];omega⟩,by rw [hn,hl];exact h4,by omega,by rw [hl,ha];exact h6,by rw [ha];exact h7,⟨by rw [hi];omega,by rw [hi,hs,List.length_set];omega⟩⟩,by simp only [vg];omega⟩,?_⟩
 ·rw [hO] at ho
  obtain ⟨k,hk2,rfl⟩:=List.mem_iff_getElem.1 ho
  rw [List.length_modify] at hk2
  have:=h2 (fC s)[k] (List.getElem_mem _)
  rw [List.getElem_modify]
  split
  ·simp only [List.length_append,List.length_cons,List.length_nil];omega
  ·omega
 ·simp only
  rw [hO,hs,hl,ha,hi,hk,(gi_step h0 (show s.k<s.l.length by omega)).1,wI,QA,em,Int.toNat_natCast,QD (by omega)]
theorem iJ (s s':gZ) (j:Nat) (hI:uF s) (c1:s.k<s.n) (em:gi s.l s.k=(j:Int)) (hO:fC s'=(fC s).modify j (·++[s.i])) (hs:s'.sums=s.sums.set s.i.toNat (IntKind.i64.wrap (s.sums.getD s.i.toNat 0+gi s.alive (j:Int)))) (hk:s'.k=IntKind.i64.wrap (s.k+1)) (hn:s'.n=s.n) (hl:s'.l=s.l) (ha:s'.alive=s.alive) (hi:s'.i=s.i):bM (fun s'=>uF s'∧vg s'<vg s) (fun x s'=>aiY x s s') (.next s'):=(agf s s' j hI c1 em hO hs hk hn hl ha hi).1
theorem iI (s s':gZ) (j:Nat) (hI:uF s) (c1:s.k<s.n) (em:gi s.l s.k=(j:Int)) (hO:fC s'=(fC s).modify j (·++[s.i])) (hs:s'.sums=s.sums.set s.i.toNat (IntKind.i64.wrap (s.sums.getD s.i.toNat 0+gi s.alive (j:Int)))) (hk:s'.k=IntKind.i64.wrap (s.k+1)) (hn:s'.n=s.n) (hl:s'.l=s.l) (ha:s'.alive=s.alive) (hi:s'.i=s.i):bM (fun s'=>(fun s:gZ=>(uI s.i (fC s) (s.l.drop s.k.toNat),s.sums.set s.i.toNat (s.sums.getD s.i.toNat 0+smA s.alive (s.l.drop s.k.toNat)))) s'=(fun s:gZ=>(uI s.i (fC s) (s.l.drop s.k.toNat),s.sums.set s.i.toNat (s.sums.getD s.i.toNat 0+smA s.alive (s.l.drop s.k.toNat)))) s) (fun _ s'=>(fun s:gZ=>(uI s.i (fC s) (s.l.drop s.k.toNat),s.sums.set s.i.toNat (s.sums.getD s.i.toNat 0+smA s.alive (s.l.drop s.k.toNat)))) s'=(fun s:gZ=>(uI s.i (fC s) (s.l.drop s.k.toNat),s.sums.set s.i.toNat (s.sums.getD s.i.toNat 0+smA s.alive (s.l.drop s.k.toNat)))) s) (.next s'):=(agf s s' j hI c1 em hO hs hk hn hl ha hi).2
theorem agi (s : gZ) (hI:uF s):bM (fun s'=>uF s'∧vg s'<vg s) (fun x s'=>aiY x s s') (ZU s):=by
 unfold ZU Qh
 dsimp only [T.rd,T.rl]
 refine au (fun c1=>?_) (fun c1=>?_)
 ·refine au (fun c2=>?_) (fun c2=>?_)
  ·have em:gi s.l s.k=0:=by simpa using c2
   exact iJ s _ 0 hI (by simpa using c1) em rfl rfl rfl rfl rfl rfl rfl
  ·refine au (fun c3=>?_) (fun c3=>?_)
   ·have em:gi s.l s.k=1:=by simpa using c3
    exact iJ s _ 1 hI (by simpa using c1) em rfl rfl rfl rfl rfl rfl rfl
   ·refine au (fun c4=>?_) (fun c4=>?_)
    ·have em:gi s.l s.k=2:=by simpa using c4
     exact iJ s _ 2 hI (by simpa using c1) em rfl rfl rfl rfl rfl rfl rfl
    ·refine au (fun c5=>?_) (fun c5=>?_)
     ·have em:gi s.l s.k=3:=by simpa using c5
      exact iJ s _ 3 hI (by simpa using c1) em rfl rfl rfl rfl rfl rfl rfl
     ·refine au (fun c6=>?_) (fun c6=>?_)
      ·have em:gi s.l s.k=4:=by simpa using c6
       exact iJ s _ 4 hI (by simpa using c1) em rfl rfl rfl rfl rfl rfl rfl
      ·refine au (fun c7=>?_) (fun c7=>?_)
       ·have em:gi s.l s.k=5:=by simpa using c7
        exact iJ s _ 5 hI (by simpa using c1) em rfl rfl rfl rfl rfl rfl rfl
       ·refine au (fun c8=>?_) (fun c8=>?_)
        ·have em:gi s.l s.k=6:=by simpa using c8
         exact iJ s _ 6 hI (by simpa using c1) em rfl rfl rfl rfl rfl rfl rfl
        ·refine au (fun c9=>?_) (fun c9=>?_)
         ·have em:gi s.l s.k=7:=by simpa using c9
          exact iJ s _ 7 hI (by simpa using c1) em rfl rfl rfl rfl rfl rfl rfl
         ·refine au (fun c10=>?_) (fun c10=>?_)
          ·have em:gi s.l s.k=8:=by simpa using c10
           exact iJ s _ 8 hI (by simpa using c1) em rfl rfl rfl rfl rfl rfl rfl
          ·refine au (fun c11=>?_) (fun c11=>?_)
           ·have em:gi s.l s.k=9:=by simpa using c11
            exact iJ s _ 9 hI (by simpa using c1) em rfl rfl rfl rfl rfl rfl rfl
           ·refine au (fun c12=>?_) (fun c12=>?_)
            ·have em:gi s.l s.k=10:=by simpa using c12
             exact iJ s _ 10 hI (by simpa using c1) em rfl rfl rfl rfl rfl rfl rfl
            ·refine au (fun c13=>?_) (fun c13=>?_)
             ·have em:gi s.l s.k=11:=by simpa using c13
              exact iJ s _ 11 hI (by simpa using c1) em rfl rfl rfl rfl rfl rfl rfl
             ·refine au (fun c14=>?_) (fun c14=>?_)
              ·have em:gi s.l s.k=12:=by simpa using c14
               exact iJ s _ 12 hI (by simpa using c1) em rfl rfl rfl rfl rfl rfl rfl
              ·refine au (fun c15=>?_) (fun c15=>?_)
               ·have em:gi s.l s.k=13:=by simpa using c15
                exact iJ s _ 13 hI (by simpa using c1) em rfl rfl rfl rfl rfl rfl rfl
               ·refine au (fun c16=>?_) (fun c16=>?_)
                ·have em:gi s.l s.k=14:=by simpa using c16
                 exact iJ s _ 14 hI (by simpa using c1) em rfl rfl rfl rfl rfl rfl rfl
                ·have em:gi s.l s.k=15:=by
                  have hm:=fQ s hI (by simpa using c1)
                  simp only [beq_eq_false_iff_ne,ne_eq] at c2 c3 c4 c5 c6 c7 c8 c9 c10 c11 c12 c13 c14 c15 c16
                  omega
                 exact iJ s _ 15 hI (by simpa using c1) em rfl rfl rfl rfl rfl rfl rfl
 ·have c1:s.n≤s.k:=by simpa using c1
  have h0:=hI.1
  exact ⟨rfl,by omega⟩
def MB:bQ gZ:=⟨1,67,[2,7,8,23,24,25,31,32,33],[.ns 7 6 3 (.int .i64),.ns 7 7 3 (.int .i64),.ns 7 8 3 (.int .i64),.ns 7 9 3 (.int .i64),.ns 7 10 3 (.int .i64),.ns 7 11 3 (.int .i64),.ns 7 12 3 (.int .i64),.ns 7 13 3 (.int .i64),.ns 7 14 3 (.int .i64),.ns 7 15 3 (.int .i64),.ns 7 16 3 (.int .i64),.ns 7 17 3 (.int .i64),.ns 7 18 3 (.int .i64),.ns 7 19 3 (.int .i64),.ns 7 20 3 (.int .i64),.ns 7 21 3 (.int .i64)],aAZ,az3,fun v b=>⟨aQ (.int .i64) (v.getD 0 .junk),gI (v.getD 2 .junk),aQ ER (v.getD 3 .junk),gI (v.getD 4 .junk),gI (v.getD 5 .junk),aQ (.int .i64) (v.getD 6 .junk),gI (v.getD 7 .junk),gI (v.getD 8 .junk),aQ dW (aY (aO b 0) 0),aQ .str (aY (aO b 0) 1),aQ eu (aY (aO b 0) 2),aQ dQ (aY (aO b 0) 3),aQ eG (aY (aO b 0) 4),aQ dW (aY (aO b 1) 0),aQ .str (aY (aO b 1) 1),aQ eu (aY (aO b 1) 2),aQ dQ (aY (aO b 1) 3),aQ eG (aY (aO b 1) 4),aQ ER (aY (aO b 1) 5),aQ (.int .i64) (aY (aO b 1) 23),jk (.int .i64) (aO b 2),jk (.int .i64) (aO b 3),jk (.int .i64) (aO b 4),jk (.int .i64) (aO b 5),jk (.int .i64) (aO b 6),jk (.int .i64) (aO b 7),jk (.int .i64) (aO b 8),jk (.int .i64) (aO b 9),jk (.int .i64) (aO b 10),jk (.int .i64) (aO b 11),jk (.int .i64) (aO b 12),jk (.int .i64) (aO b 13),jk (.int .i64) (aO b 14),jk (.int .i64) (aO b 15),jk (.int .i64) (aO b 16),jk (.int .i64) (aO b 17),jk (.int .i64) (aO b 18),jk (.int .i64) (aO b 19)⟩,Qh,fun s r=> {r with alive:=s.alive,i:=s.i,rows:=s.rows,rn:=s.rn,ri:=s.ri,l:=s.l,n:=s.n,bP:=s.bP,dV:=s.dV,bV:=s.bV,cu:=s.cu,iD:=s.iD,xY:=s.xY,xW:=s.xW,xX:=s.xX,eP:=s.eP,xZ:=s.xZ,bG:=s.bG,aZ:=s.aZ,levels:=s.levels},fun s=>s,fun _ s=>s,[.exit 2],Ub,uF,vg⟩
abbrev bD:=MB.run
abbrev av3:=MB.q
noncomputable def Zr:Hand:=inl Tryz.prog aP xO (ku 93 1 2 (uG.lp) (lJ Tryz.prog aP (xO) 20 2)) 9
theorem ag1:dM Tryz.prog aP Zr:=bT zC (dL Tryz.func93 rfl (by kernel_rfl) wo (dP zC)) 9
set_option maxRecDepth 100000 in
set_option maxHeartbeats 4000000 in
theorem asD (s:gZ) (hI:uF s):(Qh s).all (fun _=>True):=by
 refine ⟨fun c1=>⟨?_,?_,fun c2=>⟨?_,?_,?_,?_,?_,?_,?_,⟨rfl,rfl⟩,⟨rfl,rfl⟩,⟨rfl,rfl⟩,⟨rfl,rfl⟩,⟨rfl,rfl⟩,⟨rfl,rfl⟩,⟨rfl,rfl⟩,⟨rfl,rfl⟩,⟨rfl,rfl⟩,⟨rfl,rfl⟩,⟨rfl,rfl⟩,⟨rfl,rfl⟩,⟨rfl,rfl⟩,⟨rfl,rfl⟩,⟨rfl,rfl⟩,?_,⟨rfl,rfl⟩,trivial⟩,fun c2=>⟨fun c3=>⟨?_,?_,?_,?_,?_,?_,⟨rfl,rfl⟩,?_,⟨rfl,rfl⟩,⟨rfl,rfl⟩,⟨rfl,rfl⟩,⟨rfl,rfl⟩,⟨rfl,rfl⟩,⟨rfl,rfl⟩,⟨rfl,rfl⟩,⟨rfl,rfl⟩,⟨rfl,rfl⟩,⟨rfl,rfl⟩,⟨rfl,rfl⟩,⟨rfl,rfl⟩,⟨rfl,rfl⟩,⟨rfl,rfl⟩,?_,⟨rfl,rfl⟩,trivial⟩,fun c3=>⟨fun c4=>⟨?_,?_,?_,?_,?_,?_,⟨rfl,rfl⟩,⟨rfl,rfl⟩,?_,⟨rfl,rfl⟩,⟨rfl,rfl⟩,⟨rfl,rfl⟩,⟨rfl,rfl⟩,⟨rfl,rfl⟩,⟨rfl,rfl⟩,⟨rfl,rfl⟩,⟨rfl,rfl⟩,⟨rfl,rfl⟩,⟨rfl,rfl⟩,⟨rfl,rfl⟩,⟨rfl,rfl⟩,⟨rfl,rfl⟩,?_,⟨rfl,rfl⟩,trivial⟩,fun c4=>⟨fun c5=>⟨?_,?_,?_,?_,?_,?_,⟨rfl,rfl⟩,⟨rfl,rfl⟩,⟨rfl,rfl⟩,?_,⟨rfl,rfl⟩,⟨rfl,rfl⟩,⟨rfl,rfl⟩,⟨rfl,rfl⟩,⟨rfl,rfl⟩,⟨rfl,rfl⟩,⟨rfl,rfl⟩,⟨rfl,rfl⟩,⟨rfl,rfl⟩,⟨rfl,rfl⟩,⟨rfl,rfl⟩,⟨rfl,rfl⟩,?_,⟨rfl,rfl⟩,trivial⟩,fun c5=>⟨fun c6=>⟨?_,?_,?_,?_,?_,?_,⟨rfl,rfl⟩,⟨rfl,rfl⟩,⟨rfl,rfl⟩,⟨rfl,rfl⟩,?_,⟨rfl,rfl⟩,⟨rfl,rfl⟩,⟨rfl,rfl⟩,⟨rfl,rfl⟩,⟨rfl,rfl⟩,⟨rfl,rfl⟩,⟨rfl,rfl⟩,⟨rfl,rfl⟩,⟨rfl,rfl⟩,⟨rfl,rfl⟩,⟨rfl,rfl⟩,?_,⟨rfl,rfl⟩,trivial⟩,fun c6=>⟨fun c7=>⟨?_,?_,?_,?_,?_,?_,⟨rfl,rfl⟩,⟨rfl,rfl⟩,⟨rfl,rfl⟩,⟨rfl,rfl⟩,⟨rfl,rfl⟩,?_,⟨rfl,rfl⟩,⟨rfl,rfl⟩,⟨rfl,rfl⟩,⟨rfl,rfl⟩,⟨rfl,rfl⟩,⟨rfl,rfl⟩,⟨rfl,rfl⟩,⟨rfl,rfl⟩,⟨rfl,rfl⟩,⟨rfl,rfl⟩,?_,⟨rfl,rfl⟩,trivial⟩,fun c7=>⟨fun c8=>⟨?_,?_,?_,?_,?_,?_,⟨rfl,rfl⟩,⟨rfl,rfl⟩,⟨rfl,rfl⟩,⟨rfl,rfl⟩,⟨rfl,rfl⟩,⟨rfl,rfl⟩,?_,⟨rfl,rfl⟩,⟨rfl,rfl⟩,⟨rfl,rfl⟩,⟨rfl,rfl⟩,⟨rfl,rfl⟩,⟨rfl,rfl⟩,⟨rfl,rfl⟩,⟨rfl,rfl⟩,⟨rfl,rfl⟩,?_,⟨rfl,rfl⟩,trivial⟩,fun c8=>⟨fun c9=>⟨?_,?_,?_,?_,?_,?_,⟨rfl,rfl⟩,⟨rfl,rfl⟩,⟨rfl,rfl⟩,⟨rfl,rfl⟩,⟨rfl,rfl⟩,⟨rfl,rfl⟩,⟨rfl,rfl⟩,?_,⟨rfl,rfl⟩,⟨rfl,rfl⟩,⟨rfl,rfl⟩,⟨rfl,rfl⟩,⟨rfl,rfl⟩,⟨rfl,rfl⟩,⟨rfl,rfl⟩,⟨rfl,rfl⟩,?_,⟨rfl,rfl⟩,trivial⟩,fun c9=>⟨fun c10=>⟨?_,?_,?_,?_,?_,?_,⟨rfl,rfl⟩,⟨rfl,rfl⟩,⟨rfl,rfl⟩,⟨rfl,rfl⟩,⟨rfl,rfl⟩,⟨rfl,rfl⟩,⟨rfl,rfl⟩,⟨rfl,rfl⟩,?_,⟨rfl,rfl⟩,⟨rfl,rfl⟩,⟨rfl,rfl⟩,⟨rfl,rfl⟩,⟨rfl,rfl⟩,⟨rfl,rfl⟩,⟨rfl,rfl⟩,?_,⟨rfl,rfl⟩,trivial⟩,fun c10=>⟨fun c11=>⟨?_,?_,?_,?_,?_,?_,⟨rfl,rfl⟩,⟨rfl,rfl⟩,⟨rfl,rfl⟩,⟨rfl,rfl⟩,⟨rfl,rfl⟩,⟨rfl,rfl⟩,⟨rfl,rfl⟩,⟨rfl,rfl⟩,⟨rfl,rfl⟩,?_,⟨rfl,rfl⟩,⟨rfl,rfl⟩,⟨rfl,rfl⟩,⟨rfl,rfl⟩,⟨rfl,rfl⟩,⟨rfl,rfl⟩,?_,⟨rfl,rfl⟩,trivial⟩,fun c11=>⟨fun c12=>⟨?_,?_,?_,?_,?_,?_,⟨rfl,rfl⟩,⟨rfl,rfl⟩,⟨rfl,rfl⟩,⟨rfl,rfl⟩,⟨rfl,rfl⟩,⟨rfl,rfl⟩,⟨rfl,rfl⟩,⟨rfl,rfl⟩,⟨rfl,rfl⟩,⟨rfl,rfl⟩,?_,⟨rfl,rfl⟩,⟨rfl,rfl⟩,⟨rfl,rfl⟩,⟨rfl,rfl⟩,⟨rfl,rfl⟩,?_,⟨rfl,rfl⟩,trivial⟩,fun c12=>⟨fun c13=>⟨?_,?_,?_,?_,?_,?_,⟨rfl,rfl⟩,⟨rfl,rfl⟩,⟨rfl,rfl⟩,⟨rfl,rfl⟩,⟨rfl,rfl⟩,⟨rfl,rfl⟩,⟨rfl,rfl⟩,⟨rfl,rfl⟩,⟨rfl,rfl⟩,⟨rfl,rfl⟩,⟨rfl,rfl⟩,?_,⟨rfl,rfl⟩,⟨rfl,rfl⟩,⟨rfl,rfl⟩,⟨rfl,rfl⟩,?_,⟨rfl,rfl⟩,trivial⟩,fun c13=>⟨fun c14=>⟨?_,?_,?_,?_,?_,?_,⟨rfl,rfl⟩,⟨rfl,rfl⟩,⟨rfl,rfl⟩,⟨rfl,rfl⟩,⟨rfl,rfl⟩,⟨rfl,rfl⟩,⟨rfl,rfl⟩,⟨rfl,rfl⟩,⟨rfl,rfl⟩,⟨rfl,rfl⟩,⟨rfl,rfl⟩,⟨rfl,rfl⟩,?_,⟨rfl,rfl⟩,⟨rfl,rfl⟩,⟨rfl,rfl⟩,?_,⟨rfl,rfl⟩,trivial⟩,fun c14=>⟨fun c15=>⟨?_,?_,?_,?_,?_,?_,⟨rfl,rfl⟩,⟨rfl,rfl⟩,⟨rfl,rfl⟩,⟨rfl,rfl⟩,⟨rfl,rfl⟩,⟨rfl,rfl⟩,⟨rfl,rfl⟩,⟨rfl,rfl⟩,⟨rfl,rfl⟩,⟨rfl,rfl⟩,⟨rfl,rfl⟩,⟨rfl,rfl⟩,⟨rfl,rfl⟩,?_,⟨rfl,rfl⟩,⟨rfl,rfl⟩,?_,⟨rfl,rfl⟩,trivial⟩,fun c15=>⟨fun c16=>⟨?_,?_,?_,?_,?_,?_,⟨rfl,rfl⟩,⟨rfl,rfl⟩,⟨rfl,rfl⟩,⟨rfl,rfl⟩,⟨rfl,rfl⟩,⟨rfl,rfl⟩,⟨rfl,rfl⟩,⟨rfl,rfl⟩,⟨rfl,rfl⟩,⟨rfl,rfl⟩,⟨rfl,rfl⟩,⟨rfl,rfl⟩,⟨rfl,rfl⟩,⟨rfl,rfl⟩,?_,⟨rfl,rfl⟩,?_,⟨rfl,rfl⟩,trivial⟩,fun c16=>⟨?_,?_,?_,?_,?_,?_,⟨rfl,rfl⟩,⟨rfl,rfl⟩,⟨rfl,rfl⟩,⟨rfl,rfl⟩,⟨rfl,rfl⟩,⟨rfl,rfl⟩,⟨rfl,rfl⟩,⟨rfl,rfl⟩,⟨rfl,rfl⟩,⟨rfl,rfl⟩,⟨rfl,rfl⟩,⟨rfl,rfl⟩,⟨rfl,rfl⟩,⟨rfl,rfl⟩,⟨rfl,rfl⟩,?_,?_,⟨rfl,rfl⟩,trivial⟩⟩⟩⟩⟩⟩⟩⟩⟩⟩⟩⟩⟩⟩⟩⟩,fun c1=>⟨⟨rfl,rfl⟩,⟨rfl,rfl⟩,⟨rfl,rfl⟩,⟨rfl,rfl⟩,⟨rfl,rfl⟩,⟨rfl,rfl⟩,⟨rfl,rfl⟩,⟨rfl,rfl⟩,⟨rfl,rfl⟩,⟨rfl,rfl⟩,⟨rfl,rfl⟩,⟨rfl,rfl⟩,⟨rfl,rfl⟩,⟨rfl,rfl⟩,⟨rfl,rfl⟩,⟨rfl,rfl⟩,⟨rfl,rfl⟩,⟨rfl,rfl⟩,trivial⟩⟩
 ·(obtain ⟨h0,h2,h3,h4,h5,h6,h7,h8⟩:=hI;simp only [decide_eq_true_eq] at c1;omega)
 ·exact ⟨(fQ s hI (by simpa using c1)).1,(fQ s hI (by simpa using c1)).2.1⟩
 ·(have:=hI.2.1 s.jg (by simp [fC]);have:=hI.1;have:=hI.2.2.2.1;have:=hI.2.2.2.2.1;simp only [List.length_cons,List.length_nil];omega)
 ·(obtain ⟨h0,h2,h3,h4,h5,h6,h7,h8⟩:=hI;simp only [decide_eq_true_eq] at c1;omega)
 ·(have em:=eq_of_beq c2;have hm:=fQ s hI (by simpa using c1);omega)
 iterate 3 · (obtain ⟨h0,h2,h3,h4,h5,h6,h7,h8⟩:=hI;simp only [decide_eq_true_eq] at c1;omega)
 iterate 2 · exact ⟨rfl,by simp⟩
 ·(have:=hI.2.1 s.jf (by simp [fC]);have:=hI.1;have:=hI.2.2.2.1;have:=hI.2.2.2.2.1;simp only [List.length_cons,List.length_nil];omega)
 ·(obtain ⟨h0,h2,h3,h4,h5,h6,h7,h8⟩:=hI;simp only [decide_eq_true_eq] at c1;omega)
 ·(have em:=eq_of_beq c3;have hm:=fQ s hI (by simpa using c1);omega)
 iterate 3 · (obtain ⟨h0,h2,h3,h4,h5,h6,h7,h8⟩:=hI;simp only [decide_eq_true_eq] at c1;omega)
 iterate 2 · exact ⟨rfl,by simp⟩
 ·(have:=hI.2.1 s.je (by simp [fC]);have:=hI.1;have:=hI.2.2.2.1;have:=hI.2.2.2.2.1;simp only [List.length_cons,List.length_nil];omega)
 ·(obtain ⟨h0,h2,h3,h4,h5,h6,h7,h8⟩:=hI;simp only [decide_eq_true_eq] at c1;omega)
 ·(have em:=eq_of_beq c4;have hm:=fQ s hI (by simpa using c1);omega)
 iterate 3 · (obtain ⟨h0,h2,h3,h4,h5,h6,h7,h8⟩:=hI;simp only [decide_eq_true_eq] at c1;omega)
 iterate 2 · exact ⟨rfl,by simp⟩
 ·(have:=hI.2.1 s.jd (by simp [fC]);have:=hI.1;have:=hI.2.2.2.1;have:=hI.2.2.2.2.1;simp only [List.length_cons,List.length_nil];omega)
 ·(obtain ⟨h0,h2,h3,h4,h5,h6,h7,h8⟩:=hI;simp only [decide_eq_true_eq] at c1;omega)
 ·(have em:=eq_of_beq c5;have hm:=fQ s hI (by simpa using c1);omega)
 iterate 3 · (obtain ⟨h0,h2,h3,h4,h5,h6,h7,h8⟩:=hI;simp only [decide_eq_true_eq] at c1;omega)
 iterate 2 · exact ⟨rfl,by simp⟩
 ·(have:=hI.2.1 s.jc (by simp [fC]);have:=hI.1;have:=hI.2.2.2.1;have:=hI.2.2.2.2.1;simp only [List.length_cons,List.length_nil];omega)
 ·(obtain ⟨h0,h2,h3,h4,h5,h6,h7,h8⟩:=hI;simp only [decide_eq_true_eq] at c1;omega)
 ·(have em:=eq_of_beq c6;have hm:=fQ s hI (by simpa using c1);omega)
 iterate 3 · (obtain ⟨h0,h2,h3,h4,h5,h6,h7,h8⟩:=hI;simp only [decide_eq_true_eq] at c1;omega)
 iterate 2 · exact ⟨rfl,by simp⟩
 ·(have:=hI.2.1 s.jb (by simp [fC]);have:=hI.1;have:=hI.2.2.2.1;have:=hI.2.2.2.2.1;simp only [List.length_cons,List.length_nil];omega)
 ·(obtain ⟨h0,h2,h3,h4,h5,h6,h7,h8⟩:=hI;simp only [decide_eq_true_eq] at c1;omega)
 ·(have em:=eq_of_beq c7;have hm:=fQ s hI (by simpa using c1);omega)
 iterate 3 · (obtain ⟨h0,h2,h3,h4,h5,h6,h7,h8⟩:=hI;simp only [decide_eq_true_eq] at c1;omega)
 iterate 2 · exact ⟨rfl,by simp⟩
 ·(have:=hI.2.1 s.ja (by simp [fC]);have:=hI.1;have:=hI.2.2.2.1;have:=hI.2.2.2.2.1;simp only [List.length_cons,List.length_nil];omega)
 ·(obtain ⟨h0,h2,h3,h4,h5,h6,h7,h8⟩:=hI;simp only [decide_eq_true_eq] at c1;omega)
 ·(have em:=eq_of_beq c8;have hm:=fQ s hI (by simpa using c1);omega)
 iterate 3 · (obtain ⟨h0,h2,h3,h4,h5,h6,h7,h8⟩:=hI;simp only [decide_eq_true_eq] at c1;omega)
 iterate 2 · exact ⟨rfl,by simp⟩
 ·(have:=hI.2.1 s.iZ (by simp [fC]);have:=hI.1;have:=hI.2.2.2.1;have:=hI.2.2.2.2.1;simp only [List.length_cons,List.length_nil];omega)
 ·(obtain ⟨h0,h2,h3,h4,h5,h6,h7,h8⟩:=hI;simp only [decide_eq_true_eq] at c1;omega)
 ·(have em:=eq_of_beq c9;have hm:=fQ s hI (by simpa using c1);omega)
 iterate 3 · (obtain ⟨h0,h2,h3,h4,h5,h6,h7,h8⟩:=hI;simp only [decide_eq_true_eq] at c1;omega)
 iterate 2 · exact ⟨rfl,by simp⟩
 ·(have:=hI.2.1 s.iY (by simp [fC]);have:=hI.1;have:=hI.2.2.2.1;have:=hI.2.2.2.2.1;simp only [List.length_cons,List.length_nil];omega)
 ·(obtain ⟨h0,h2,h3,h4,h5,h6,h7,h8⟩:=hI;simp only [decide_eq_true_eq] at c1;omega)
 ·(have em:=eq_of_beq c10;have hm:=fQ s hI (by simpa using c1);omega)
 iterate 3 · (obtain ⟨h0,h2,h3,h4,h5,h6,h7,h8⟩:=hI;simp only [decide_eq_true_eq] at c1;omega)
 iterate 2 · exact ⟨rfl,by simp⟩
 ·(have:=hI.2.1 s.iW (by simp [fC]);have:=hI.1;have:=hI.2.2.2.1;have:=hI.2.2.2.2.1;simp only [List.length_cons,List.length_nil];omega)
 ·(obtain ⟨h0,h2,h3,h4,h5,h6,h7,h8⟩:=hI;simp only [decide_eq_true_eq] at c1;omega)
 ·(have em:=eq_of_beq c11;have hm:=fQ s hI (by simpa using c1);omega)
 iterate 3 · (obtain ⟨h0,h2,h3,h4,h5,h6,h7,h8⟩:=hI;simp only [decide_eq_true_eq] at c1;omega)
 iterate 2 · exact ⟨rfl,by simp⟩
 ·(have:=hI.2.1 s.dK (by simp [fC]);have:=hI.1;have:=hI.2.2.2.1;have:=hI.2.2.2.2.1;simp only [List.length_cons,List.length_nil];omega)
 ·(obtain ⟨h0,h2,h3,h4,h5,h6,h7,h8⟩:=hI;simp only [decide_eq_true_eq] at c1;omega)
 ·(have em:=eq_of_beq c12;have hm:=fQ s hI (by simpa using c1);omega)
 iterate 3 · (obtain ⟨h0,h2,h3,h4,h5,h6,h7,h8⟩:=hI;simp only [decide_eq_true_eq] at c1;omega)
 iterate 2 · exact ⟨rfl,by simp⟩
 ·(have:=hI.2.1 s.dJ (by simp [fC]);have:=hI.1;have:=hI.2.2.2.1;have:=hI.2.2.2.2.1;simp only [List.length_cons,List.length_nil];omega)
 ·(obtain ⟨h0,h2,h3,h4,h5,h6,h7,h8⟩:=hI;simp only [decide_eq_true_eq] at c1;omega)
 ·(have em:=eq_of_beq c13;have hm:=fQ s hI (by simpa using c1);omega)
 iterate 3 · (obtain ⟨h0,h2,h3,h4,h5,h6,h7,h8⟩:=hI;simp only [decide_eq_true_eq] at c1;omega)
 iterate 2 · exact ⟨rfl,by simp⟩
 ·(have:=hI.2.1 s.dI (by simp [fC]);have:=hI.1;have:=hI.2.2.2.1;have:=hI.2.2.2.2.1;simp only [List.length_cons,List.length_nil];omega)
 ·(obtain ⟨h0,h2,h3,h4,h5,h6,h7,h8⟩:=hI;simp only [decide_eq_true_eq] at c1;omega)
 ·(have em:=eq_of_beq c14;have hm:=fQ s hI (by simpa using c1);omega)
 iterate 3 · (obtain ⟨h0,h2,h3,h4,h5,h6,h7,h8⟩:=hI;simp only [decide_eq_true_eq] at c1;omega)
 iterate 2 · exact ⟨rfl,by simp⟩
 ·(have:=hI.2.1 s.dH (by simp [fC]);have:=hI.1;have:=hI.2.2.2.1;have:=hI.2.2.2.2.1;simp only [List.length_cons,List.length_nil];omega)
 ·(obtain ⟨h0,h2,h3,h4,h5,h6,h7,h8⟩:=hI;simp only [decide_eq_true_eq] at c1;omega)
 ·(have em:=eq_of_beq c15;have hm:=fQ s hI (by simpa using c1);omega)
 iterate 3 · (obtain ⟨h0,h2,h3,h4,h5,h6,h7,h8⟩:=hI;simp only [decide_eq_true_eq] at c1;omega)
 iterate 2 · exact ⟨rfl,by simp⟩
 ·(have:=hI.2.1 s.dG (by simp [fC]);have:=hI.1;have:=hI.2.2.2.1;have:=hI.2.2.2.2.1;simp only [List.length_cons,List.length_nil];omega)
 ·(obtain ⟨h0,h2,h3,h4,h5,h6,h7,h8⟩:=hI;simp only [decide_eq_true_eq] at c1;omega)
 ·(have em:=eq_of_beq c16;have hm:=fQ s hI (by simpa using c1);omega)
 iterate 3 · (obtain ⟨h0,h2,h3,h4,h5,h6,h7,h8⟩:=hI;simp only [decide_eq_true_eq] at c1;omega)
 iterate 2 · exact ⟨rfl,by simp⟩
 ·(have:=hI.2.1 s.dF (by simp [fC]);have:=hI.1;have:=hI.2.2.2.1;have:=hI.2.2.2.2.1;simp only [List.length_cons,List.length_nil];omega)
 ·(obtain ⟨h0,h2,h3,h4,h5,h6,h7,h8⟩:=hI;simp only [decide_eq_true_eq] at c1;omega)
 ·(have hm:=fQ s hI (by simpa using c1);simp only [beq_eq_false_iff_ne,ne_eq] at c2 c3 c4 c5 c6 c7 c8 c9 c10 c11 c12 c13 c14 c15 c16;omega)
 iterate 3 · (obtain ⟨h0,h2,h3,h4,h5,h6,h7,h8⟩:=hI;simp only [decide_eq_true_eq] at c1;omega)
 iterate 2 · exact ⟨rfl,by simp⟩
theorem Vh:MB.Ok:=⟨fun s=>by kernel_rfl,fun s=>by kernel_rfl,fun s=>rfl,fun s t r=>rfl,fun s=>rfl,fun s=>by kernel_rfl⟩
theorem UY:MB.Pf (aiY):=⟨axZ,fun _ _=>rfl,agi,asD⟩
set_option maxRecDepth 100000 in
set_option maxHeartbeats 4000000 in
theorem akB:bg Tryz.prog aP (AN 1) (.loop Ij) MB.lp:=bQ.snd Vh UY (bF (Γ:=xO) (K:=Zr) (L:=(sH Tryz.prog aP xO Zr 20 2)) zC ag1 Ij (fun b _=>dR zC ag1 20 2 b)) (fun s=>by kernel_rfl)
theorem agh (s : gZ) (hE:Ub s):(fun s:gZ=>(uI s.i (fC s) (s.l.drop s.k.toNat),s.sums.set s.i.toNat (s.sums.getD s.i.toNat 0+smA s.alive (s.l.drop s.k.toNat)))) (bD s)=(fun s:gZ=>(uI s.i (fC s) (s.l.drop s.k.toNat),s.sums.set s.i.toNat (s.sums.getD s.i.toNat 0+smA s.alive (s.l.drop s.k.toNat)))) s:=by
 exact bQ.uy Vh UY (fun s:gZ=>(uI s.i (fC s) (s.l.drop s.k.toNat),s.sums.set s.i.toNat (s.sums.getD s.i.toNat 0+smA s.alive (s.l.drop s.k.toNat)))) (fun s hI=>by
  show bM _ _ (ZU s)
  unfold ZU Qh
  dsimp only [T.rd,T.rl]
  refine au (fun c1=>?_) (fun c1=>?_)
  ·refine au (fun c2=>?_) (fun c2=>?_)
   ·have em:gi s.l s.k=0:=by simpa using c2
    exact iI s _ 0 hI (by simpa using c1) em rfl rfl rfl rfl rfl rfl rfl
   ·refine au (fun c3=>?_) (fun c3=>?_)
    ·have em:gi s.l s.k=1:=by simpa using c3
     exact iI s _ 1 hI (by simpa using c1) em rfl rfl rfl rfl rfl rfl rfl
    ·refine au (fun c4=>?_) (fun c4=>?_)
     ·have em:gi s.l s.k=2:=by simpa using c4
      exact iI s _ 2 hI (by simpa using c1) em rfl rfl rfl rfl rfl rfl rfl
     ·refine au (fun c5=>?_) (fun c5=>?_)
      ·have em:gi s.l s.k=3:=by simpa using c5
       exact iI s _ 3 hI (by simpa using c1) em rfl rfl rfl rfl rfl rfl rfl
      ·refine au (fun c6=>?_) (fun c6=>?_)
       ·have em:gi s.l s.k=4:=by simpa using c6
        exact iI s _ 4 hI (by simpa using c1) em rfl rfl rfl rfl rfl rfl rfl
       ·refine au (fun c7=>?_) (fun c7=>?_)
        ·have em:gi s.l s.k=5:=by simpa using c7
         exact iI s _ 5 hI (by simpa using c1) em rfl rfl rfl rfl rfl rfl rfl
        ·refine au (fun c8=>?_) (fun c8=>?_)
         ·have em:gi s.l s.k=6:=by simpa using c8
          exact iI s _ 6 hI (by simpa using c1) em rfl rfl rfl rfl rfl rfl rfl
         ·refine au (fun c9=>?_) (fun c9=>?_)
          ·have em:gi s.l s.k=7:=by simpa using c9
           exact iI s _ 7 hI (by simpa using c1) em rfl rfl rfl rfl rfl rfl rfl
          ·refine au (fun c10=>?_) (fun c10=>?_)
           ·have em:gi s.l s.k=8:=by simpa using c10
            exact iI s _ 8 hI (by simpa using c1) em rfl rfl rfl rfl rfl rfl rfl
           ·refine au (fun c11=>?_) (fun c11=>?_)
            ·have em:gi s.l s.k=9:=by simpa using c11
             exact iI s _ 9 hI (by simpa using c1) em rfl rfl rfl rfl rfl rfl rfl
            ·refine au (fun c12=>?_) (fun c12=>?_)
             ·have em:gi s.l s.k=10:=by simpa using c12
              exact iI s _ 10 hI (by simpa using c1) em rfl rfl rfl rfl rfl rfl rfl
             ·refine au (fun c13=>?_) (fun c13=>?_)
              ·have em:gi s.l s.k=11:=by simpa using c13
               exact iI s _ 11 hI (by simpa using c1) em rfl rfl rfl rfl rfl rfl rfl
              ·refine au (fun c14=>?_) (fun c14=>?_)
               ·have em:gi s.l s.k=12:=by simpa using c14
                exact iI s _ 12 hI (by simpa using c1) em rfl rfl rfl rfl rfl rfl rfl
               ·refine au (fun c15=>?_) (fun c15=>?_)
                ·have em:gi s.l s.k=13:=by simpa using c15
                 exact iI s _ 13 hI (by simpa using c1) em rfl rfl rfl rfl rfl rfl rfl
                ·refine au (fun c16=>?_) (fun c16=>?_)
                 ·have em:gi s.l s.k=14:=by simpa using c16
                  exact iI s _ 14 hI (by simpa using c1) em rfl rfl rfl rfl rfl rfl rfl
                 ·have em:gi s.l s.k=15:=by
                   have hm:=fQ s hI (by simpa using c1)
                   simp only [beq_eq_false_iff_ne,ne_eq] at c2 c3 c4 c5 c6 c7 c8 c9 c10 c11 c12 c13 c14 c15 c16
                   omega
                  exact iI s _ 15 hI (by simpa using c1) em rfl rfl rfl rfl rfl rfl rfl
  ·rfl) s hE
theorem alM (s:gZ) (hE:Ub s):fC (bD s)=uI s.i (fC s) s.l∧(bD s).sums=s.sums.set s.i.toNat (s.sums.getD s.i.toNat 0+smA s.alive s.l):=by
 have q3:=agh s hE
 obtain ⟨hI2,hf⟩:=bQ.inv Vh UY (fun s=>by kernel_rfl) s hE
 have hI2:uF (bD s):=hI2
 have hq:=xh (agi _ hI2) hf
 have q2:(bD s).k=(bD s).n:=hq.2
 obtain ⟨h0,h1,h2,h3,h4,h5,h6,h7⟩:=hE
 obtain ⟨g0,g1,g2,g3,g4,g5,g6,g7⟩:=hI2
 have el:(bD s).l=s.l:=rfl
 have en:(bD s).n=s.n:=rfl
 have ei:(bD s).i=s.i:=rfl
 have ea:(bD s).alive=s.alive:=rfl
 simp only at q3
 rw [q2,en,el,ei,ea,List.drop_eq_nil_of_le (by omega),h0,show (0:Int).toNat=0 from rfl,List.drop_zero] at q3
 have e1:=congrArg Prod.fst q3
 have e2:=congrArg Prod.snd q3
 simp only at e1 e2
 refine ⟨e1,?_⟩
 rw [←e2]
 exact (ad3 (by rw [ei] at g7;omega)).symm
structure gQ where
 alive:List Int
 rows:List Rw
 rn:Int
 ri:Int
 bP:List Cd
 dV:List ByteArray
 bV:List Ko
 cu:List Ch
 iD:List Ba
 xY:List Cd
 xW:List ByteArray
 xX:List Ko
 eP:List Ch
 xZ:List Ba
 bG:List Rw
 aZ:List Int
 jg:List Int
 jf:List Int
 je:List Int
 jd:List Int
 jc:List Int
 jb:List Int
 ja:List Int
 iZ:List Int
 iY:List Int
 iW:List Int
 dK:List Int
 dJ:List Int
 dI:List Int
 dH:List Int
 dG:List Int
 dF:List Int
 sums:List Int
 levels:List Int
def aAY (s:gQ):List LV:=[.xl (.int .i64) s.alive,.own 1 0,.xl ER s.rows,.v (.int .i64 s.rn),.v (.int .i64 s.ri)]
def az2 (s:gQ):List aT:=[⟨[.xl dW s.bP,.xl .str s.dV,.xl eu s.bV,.xl dQ s.cu,.xl eG s.iD],28,.cl,false⟩,⟨[.xl dW s.xY,.xl .str s.xW,.xl eu s.xX,.xl dQ s.eP,.xl eG s.xZ,.xl ER s.bG,.os 2 1 0 (List.length s.jg),.os 3 1 0 (List.length s.jf),.os 4 1 0 (List.length s.je),.os 5 1 0 (List.length s.jd),.os 6 1 0 (List.length s.jc),.os 7 1 0 (List.length s.jb),.os 8 1 0 (List.length s.ja),.os 9 1 0 (List.length s.iZ),.os 10 1 0 (List.length s.iY),.os 11 1 0 (List.length s.iW),.os 12 1 0 (List.length s.dK),.os 13 1 0 (List.length s.dJ),.os 14 1 0 (List.length s.dI),.os 15 1 0 (List.length s.dH),.os 16 1 0 (List.length s.dG),.os 17 1 0 (List.length s.dF),.os 18 1 0 (List.length s.sums),.xl (.int .i64) s.aZ,.os 19 1 0 (List.length s.levels)],148,.cl,false⟩,⟨[],3,.vec (.int .i64) s.jg,false⟩,⟨[],3,.vec (.int .i64) s.jf,false⟩,⟨[],3,.vec (.int .i64) s.je,false⟩,⟨[],3,.vec (.int .i64) s.jd,false⟩,⟨[],3,.vec (.int .i64) s.jc,false⟩,⟨[],3,.vec (.int .i64) s.jb,false⟩,⟨[],3,.vec (.int .i64) s.ja,false⟩,⟨[],3,.vec (.int .i64) s.iZ,false⟩,⟨[],3,.vec (.int .i64) s.iY,false⟩,⟨[],3,.vec (.int .i64) s.iW,false⟩,⟨[],3,.vec (.int .i64) s.dK,false⟩,⟨[],3,.vec (.int .i64) s.dJ,false⟩,⟨[],3,.vec (.int .i64) s.dI,false⟩,⟨[],3,.vec (.int .i64) s.dH,false⟩,⟨[],3,.vec (.int .i64) s.dG,false⟩,⟨[],3,.vec (.int .i64) s.dF,false⟩,⟨[],3,.vec (.int .i64) s.sums,false⟩,⟨[],3,.vec (.int .i64) s.levels,false⟩]
noncomputable def SA:Code:=((aF (Tryz.f95.body.getD .skip))[0]?).getD .skip
def bK (s:gQ):gZ:=(⟨s.alive,s.ri,s.rows,s.rn,s.ri,(qK s.rows s.ri).2,(List.length (qK s.rows s.ri).2:Int),(0:Int),s.bP,s.dV,s.bV,s.cu,s.iD,s.xY,s.xW,s.xX,s.eP,s.xZ,s.bG,s.aZ,s.jg,s.jf,s.je,s.jd,s.jc,s.jb,s.ja,s.iZ,s.iY,s.iW,s.dK,s.dJ,s.dI,s.dH,s.dG,s.dF,s.sums,s.levels⟩:gZ)
def Qg (s:gQ):T (Rd gQ):=
 .br (decide (s.ri<s.rn)) (.req (0≤s.ri∧s.ri<(List.length s.rows:Int)) (.rl s.jg (.rl s.jf (.rl s.je (.rl s.jd (.rl s.jc (.rl s.jb (.rl s.ja (.rl s.iZ (.rl s.iY (.rl s.iW (.rl s.dK (.rl s.dJ (.rl s.dI (.rl s.dH (.rl s.dG (.rl s.dF (.rl s.sums (.rl s.levels (.req (av3 (bK s)) (.rl (bD (bK s)).jg (.rl (bD (bK s)).jf (.rl (bD (bK s)).je (.rl (bD (bK s)).jd (.rl (bD (bK s)).jc (.rl (bD (bK s)).jb (.rl (bD (bK s)).ja (.rl (bD (bK s)).iZ (.rl (bD (bK s)).iY (.rl (bD (bK s)).iW (.rl (bD (bK s)).dK (.rl (bD (bK s)).dJ (.rl (bD (bK s)).dI (.rl (bD (bK s)).dH (.rl (bD (bK s)).dG (.rl (bD (bK s)).dF (.rl (bD (bK s)).sums (.rl s.levels (.ok (.next {s with ri:=(IntKind.i64.wrap (s.ri+1)),jg:=(bD (bK s)).jg,jf:=(bD (bK s)).jf,je:=(bD (bK s)).je,jd:=(bD (bK s)).jd,jc:=(bD (bK s)).jc,jb:=(bD (bK s)).jb,ja:=(bD (bK s)).ja,iZ:=(bD (bK s)).iZ,iY:=(bD (bK s)).iY,iW:=(bD (bK s)).iW,dK:=(bD (bK s)).dK,dJ:=(bD (bK s)).dJ,dI:=(bD (bK s)).dI,dH:=(bD (bK s)).dH,dG:=(bD (bK s)).dG,dF:=(bD (bK s)).dF,sums:=(bD (bK s)).sums})))))))))))))))))))))))))))))))))))))))) (.rl s.jg (.rl s.jf (.rl s.je (.rl s.jd (.rl s.jc (.rl s.jb (.rl s.ja (.rl s.iZ (.rl s.iY (.rl s.iW (.rl s.dK (.rl s.dJ (.rl s.dI (.rl s.dH (.rl s.dG (.rl s.dF (.rl s.sums (.rl s.levels (.ok (.stop (.exit 0) s))))))))))))))))))))
abbrev ZT (s:gQ):=(Qg s).rd s
def kG (s:gQ):List (List Int):=[s.jg,s.jf,s.je,s.jd,s.jc,s.jb,s.ja,s.iZ,s.iY,s.iW,s.dK,s.dJ,s.dI,s.dH,s.dG,s.dF]
def Md (s:gQ):Prop:=s.ri=0∧(∀o∈kG s,o=[])∧s.sums=List.replicate s.rows.length 0∧s.rn=(s.rows.length:Int)∧s.rn≤1000∧(∀r∈s.rows,(r.2.length:Int)≤1000∧∀m∈r.2,0≤m∧m<16∧m<(s.alive.length:Int))∧(∀a∈s.alive,0≤a∧a≤80)∧s.sums.length=s.rows.length
def uD (s:gQ):Prop:=(0≤s.ri∧s.ri≤s.rn)∧(∀o∈kG s,(o.length:Int)≤1000*s.ri)∧(∀k:Nat,s.ri≤(k:Int)→s.sums.getD k 0=0)∧s.rn=(s.rows.length:Int)∧s.rn≤1000∧(∀r∈s.rows,(r.2.length:Int)≤1000∧∀m∈r.2,0≤m∧m<16∧m<(s.alive.length:Int))∧(∀a∈s.alive,0≤a∧a≤80)∧s.sums.length=s.rows.length
def ve (s:gQ):Nat:=(s.rn-s.ri).toNat
def abR (x:Ex) (_ s':gQ):Prop:=x=.exit 0∧s'.ri=s'.rn
theorem axY:∀s,Md s→uD s:=by
 intro s h
 obtain ⟨h0,h1,h2,h3⟩:=h
 refine ⟨by have:=h3.1;omega,fun o ho=>by rw [h1 o ho];simp;omega,fun k _=>?_,h3⟩
 rw [h2]
 simp only [List.getD,List.getElem?_replicate]
 split<;>rfl
theorem agd (s:gQ) (hI:uD s) (c1:s.ri<s.rn):Ub (bK s):=by
 obtain ⟨⟨h0,h1⟩,h2,h3,h4,h5,h6,h7,h8⟩:=hI
 have hr:=h6 (qK s.rows s.ri) (by rw [Cj (by omega)];exact List.getElem_mem _)
 refine ⟨rfl,fun o ho=>?_,?_,rfl,hr.1,hr.2,h7,h0,?_⟩
 ·have:=h2 o ho
  omega
 ·have:=h3 s.ri.toNat (by omega)
  show 0≤s.sums.getD s.ri.toNat 0∧s.sums.getD s.ri.toNat 0≤1000
  omega
 ·show s.ri<(s.sums.length:Int)
  omega
theorem agb (s s':gQ) (hI:uD s) (c1:s.ri<s.rn) (hO:kG s'=fC (bD (bK s))) (hs:s'.sums=(bD (bK s)).sums) (hk:s'.ri=IntKind.i64.wrap (s.ri+1)) (hn:s'.rn=s.rn) (hl:s'.rows=s.rows) (ha:s'.alive=s.alive):
  (uD s'∧ve s'<ve s)∧(fun s:gQ=>(P6 (kG s) s.ri (s.rows.drop s.ri.toNat),P5 s.alive s.sums s.ri (s.rows.drop s.ri.toNat))) s'=(fun s:gQ=>(P6 (kG s) s.ri (s.rows.drop s.ri.toNat),P5 s.alive s.sums s.ri (s.rows.drop s.ri.toNat))) s:=by
 obtain ⟨r1,r2⟩:=alM _ (agd s hI c1)
 obtain ⟨⟨h0,h1⟩,h2,h3,h4,h5,h6,h7,h8⟩:=hI
 have hr:=h6 (qK s.rows s.ri) (by rw [Cj (by omega)];exact List.getElem_mem _)
 rw [aK (x:=s.ri+1) (by omega) (by omega)] at hk
 have r1:fC (bD (bK s))=uI s.ri (kG s) (qK s.rows s.ri).2:=r1
 have r2:(bD (bK s)).sums=s.sums.set s.ri.toNat (s.sums.getD s.ri.toNat 0+smA s.alive (qK s.rows s.ri).2):=r2
 refine ⟨⟨⟨⟨by omega,by omega⟩,fun o ho=>?_,fun k hk2=>?_,by rw [hn,hl];exact h4,by omega,by rw [hl,ha];exact h6,by rw [ha];exact h7,by rw [hs,r2,List.length_set,hl];exact h8⟩,by simp only [ve];omega⟩,?_⟩
 ·rw [hO,r1] at ho
  have:=YW h2 o ho
  have:=hr.1
  rw [hk]
  omega
 ·rw [hs,r2]
  have:=h3 k (by omega)
  simp only [List.getD] at this⊢
  rw [List.getElem?_set_ne (by omega)]
  exact this
 ·simp only
  rw [hO,hs,hl,ha,r1,r2,hk,(ahF h0 (show s.ri<s.rows.length by omega)).1]
  rfl
theorem alK (s s':gQ) (hI:uD s) (c1:s.ri<s.rn) (hO:kG s'=fC (bD (bK s))) (hs:s'.sums=(bD (bK s)).sums) (hk:s'.ri=IntKind.i64.wrap (s.ri+1)) (hn:s'.rn=s.rn) (hl:s'.rows=s.rows) (ha:s'.alive=s.alive):bM (fun s'=>uD s'∧ve s'<ve s) (fun x s'=>abR x s s') (.next s'):=(agb s s' hI c1 hO hs hk hn hl ha).1
theorem alJ (s s':gQ) (hI:uD s) (c1:s.ri<s.rn) (hO:kG s'=fC (bD (bK s))) (hs:s'.sums=(bD (bK s)).sums) (hk:s'.ri=IntKind.i64.wrap (s.ri+1)) (hn:s'.rn=s.rn) (hl:s'.rows=s.rows) (ha:s'.alive=s.alive):bM (fun s'=>(fun s:gQ=>(P6 (kG s) s.ri (s.rows.drop s.ri.toNat),P5 s.alive s.sums s.ri (s.rows.drop s.ri.toNat))) s'=(fun s:gQ=>(P6 (kG s) s.ri (s.rows.drop s.ri.toNat),P5 s.alive s.sums s.ri (s.rows.drop s.ri.toNat))) s) (fun _ s'=>(fun s:gQ=>(P6 (kG s) s.ri (s.rows.drop s.ri.toNat),P5 s.alive s.sums s.ri (s.rows.drop s.ri.toNat))) s'=(fun s:gQ=>(P6 (kG s) s.ri (s.rows.drop s.ri.toNat),P5 s.alive s.sums s.ri (s.rows.drop s.ri.toNat))) s) (.next s'):=(agb s s' hI c1 hO hs hk hn hl ha).2
theorem atD (s:gQ) (hI:uD s):bM (fun s'=>uD s'∧ve s'<ve s) (fun x s'=>abR x s s') (ZT s):=by
 unfold ZT Qg
 dsimp only [T.rd,T.rl]
 refine au (fun c1=>?_) (fun c1=>?_)
 ·exact alK s _ hI (by simpa using c1) rfl rfl rfl rfl rfl rfl
 ·have c1:s.rn≤s.ri:=by simpa using c1
  have h0:=hI.1
  exact ⟨rfl,by omega⟩
def vZ:bQ gQ:=⟨1,67,[2,7,23,24,25],[.ns 7 6 3 (.int .i64),.ns 7 7 3 (.int .i64),.ns 7 8 3 (.int .i64),.ns 7 9 3 (.int .i64),.ns 7 10 3 (.int .i64),.ns 7 11 3 (.int .i64),.ns 7 12 3 (.int .i64),.ns 7 13 3 (.int .i64),.ns 7 14 3 (.int .i64),.ns 7 15 3 (.int .i64),.ns 7 16 3 (.int .i64),.ns 7 17 3 (.int .i64),.ns 7 18 3 (.int .i64),.ns 7 19 3 (.int .i64),.ns 7 20 3 (.int .i64),.ns 7 21 3 (.int .i64)],aAY,az2,fun v b=>⟨aQ (.int .i64) (v.getD 0 .junk),aQ ER (v.getD 2 .junk),gI (v.getD 3 .junk),gI (v.getD 4 .junk),aQ dW (aY (aO b 0) 0),aQ .str (aY (aO b 0) 1),aQ eu (aY (aO b 0) 2),aQ dQ (aY (aO b 0) 3),aQ eG (aY (aO b 0) 4),aQ dW (aY (aO b 1) 0),aQ .str (aY (aO b 1) 1),aQ eu (aY (aO b 1) 2),aQ dQ (aY (aO b 1) 3),aQ eG (aY (aO b 1) 4),aQ ER (aY (aO b 1) 5),aQ (.int .i64) (aY (aO b 1) 23),jk (.int .i64) (aO b 2),jk (.int .i64) (aO b 3),jk (.int .i64) (aO b 4),jk (.int .i64) (aO b 5),jk (.int .i64) (aO b 6),jk (.int .i64) (aO b 7),jk (.int .i64) (aO b 8),jk (.int .i64) (aO b 9),jk (.int .i64) (aO b 10),jk (.int .i64) (aO b 11),jk (.int .i64) (aO b 12),jk (.int .i64) (aO b 13),jk (.int .i64) (aO b 14),jk (.int .i64) (aO b 15),jk (.int .i64) (aO b 16),jk (.int .i64) (aO b 17),jk (.int .i64) (aO b 18),jk (.int .i64) (aO b 19)⟩,Qg,fun s r=> {r with alive:=s.alive,rows:=s.rows,rn:=s.rn,bP:=s.bP,dV:=s.dV,bV:=s.bV,cu:=s.cu,iD:=s.iD,xY:=s.xY,xW:=s.xW,xX:=s.xX,eP:=s.eP,xZ:=s.xZ,bG:=s.bG,aZ:=s.aZ,levels:=s.levels},fun s=>s,fun _ s=>s,[.exit 0],Md,uD,ve⟩
abbrev ax:=vZ.run
abbrev anI:=vZ.jZ
abbrev PG:=vZ.q
theorem asC (s:gQ) (hI:uD s):(Qg s).all (fun _=>True):=by
 refine ⟨fun c1=>⟨?_,⟨rfl,rfl⟩,⟨rfl,rfl⟩,⟨rfl,rfl⟩,⟨rfl,rfl⟩,⟨rfl,rfl⟩,⟨rfl,rfl⟩,⟨rfl,rfl⟩,⟨rfl,rfl⟩,⟨rfl,rfl⟩,⟨rfl,rfl⟩,⟨rfl,rfl⟩,⟨rfl,rfl⟩,⟨rfl,rfl⟩,⟨rfl,rfl⟩,⟨rfl,rfl⟩,⟨rfl,rfl⟩,⟨rfl,rfl⟩,⟨rfl,rfl⟩,?_,⟨rfl,rfl⟩,⟨rfl,rfl⟩,⟨rfl,rfl⟩,⟨rfl,rfl⟩,⟨rfl,rfl⟩,⟨rfl,rfl⟩,⟨rfl,rfl⟩,⟨rfl,rfl⟩,⟨rfl,rfl⟩,⟨rfl,rfl⟩,⟨rfl,rfl⟩,⟨rfl,rfl⟩,⟨rfl,rfl⟩,⟨rfl,rfl⟩,⟨rfl,rfl⟩,⟨rfl,rfl⟩,⟨rfl,rfl⟩,⟨rfl,rfl⟩,trivial⟩,fun c1=>⟨⟨rfl,rfl⟩,⟨rfl,rfl⟩,⟨rfl,rfl⟩,⟨rfl,rfl⟩,⟨rfl,rfl⟩,⟨rfl,rfl⟩,⟨rfl,rfl⟩,⟨rfl,rfl⟩,⟨rfl,rfl⟩,⟨rfl,rfl⟩,⟨rfl,rfl⟩,⟨rfl,rfl⟩,⟨rfl,rfl⟩,⟨rfl,rfl⟩,⟨rfl,rfl⟩,⟨rfl,rfl⟩,⟨rfl,rfl⟩,⟨rfl,rfl⟩,trivial⟩⟩
 ·(obtain ⟨h0,h2,h3,h4,h5,h6,h7,h8⟩:=hI;simp only [decide_eq_true_eq] at c1;omega)
 ·exact ⟨agd s hI (by simpa using c1),rfl,rfl⟩
theorem Vg:vZ.Ok:=⟨fun s=>by kernel_rfl,fun s=>by kernel_rfl,fun s=>rfl,fun s t r=>rfl,fun s=>rfl,fun s=>by kernel_rfl⟩
theorem UX:vZ.Pf (abR):=⟨axY,fun _ _=>rfl,atD,asC⟩
theorem yR:bg Tryz.prog aP (AN 1) (.loop SA) vZ.lp:=bQ.snd Vg UX (bF (Γ:=xO) (K:=Zr) (L:=(ac6 (fun i=>if i=6 then MB.lp else aC i))) zC ag1 SA (fun b hb=>by
 rw [show aF _=[Ij] by kernel_rfl] at hb
 simp only [List.mem_cons,List.not_mem_nil,or_false] at hb
 subst hb
 exact akB)) (fun s=>by kernel_rfl)
theorem alL (s:gQ) (hE:Md s):∃s',uD s'∧abR (anI s) s' (ax s):=bQ.fin Vg UX s hE
theorem agc (s:gQ) (hE:Md s):(fun s:gQ=>(P6 (kG s) s.ri (s.rows.drop s.ri.toNat),P5 s.alive s.sums s.ri (s.rows.drop s.ri.toNat))) (ax s)=(fun s:gQ=>(P6 (kG s) s.ri (s.rows.drop s.ri.toNat),P5 s.alive s.sums s.ri (s.rows.drop s.ri.toNat))) s:=by
 exact bQ.uy Vg UX (fun s:gQ=>(P6 (kG s) s.ri (s.rows.drop s.ri.toNat),P5 s.alive s.sums s.ri (s.rows.drop s.ri.toNat))) (fun s hI=>by
  show bM _ _ (ZT s)
  unfold ZT Qg
  dsimp only [T.rd,T.rl]
  refine au (fun c1=>?_) (fun c1=>?_)
  ·exact alJ s _ hI (by simpa using c1) rfl rfl rfl rfl rfl rfl
  ·rfl) s hE
theorem alI (s:gQ) (hE:Md s):kG (ax s)=P6 (kG s) 0 s.rows∧(ax s).sums=P5 s.alive s.sums 0 s.rows:=by
 have q3:=agc s hE
 obtain ⟨s',hI,q1,q2⟩:=alL s hE
 obtain ⟨h0,h1,h2,h3,h4,h5⟩:=hE
 have el:(ax s).rows=s.rows:=rfl
 have en:(ax s).rn=s.rn:=rfl
 have ea:(ax s).alive=s.alive:=rfl
 simp only at q3
 rw [q2,en,el,ea,List.drop_eq_nil_of_le (by omega),h0] at q3
 exact ⟨congrArg Prod.fst q3,congrArg Prod.snd q3⟩
end Go.Proofs.YtlihnbimgclogaaGreatDoor
namespace Go.Proofs.YtlihnbimgclogaaGreatDoor
open Go.Sx
structure oq where
 r:Bool
 l:List Int
 n:Int
 i:Int
 bP:List Cd
 dV:List ByteArray
 bV:List Ko
 cu:List Ch
 iD:List Ba
 xY:List Cd
 xW:List ByteArray
 xX:List Ko
 eP:List Ch
 xZ:List Ba
 bG:List Rw
 jg:List Int
 jf:List Int
 je:List Int
 jd:List Int
 jc:List Int
 jb:List Int
 ja:List Int
 iZ:List Int
 iY:List Int
 iW:List Int
 dK:List Int
 dJ:List Int
 dI:List Int
 dH:List Int
 dG:List Int
 dF:List Int
 aZ:List Int
 sums:List Int
 levels:List Int
 pY:ByteArray
 Wy:Int
 pX:Int
 ah0:Int
 ah1:Int
 Wu:Int
 kT:Int
 lY:Int
 more:Int
def aBf (s:oq):List LV:=[.fn 124 [.own 4 0,.own 6 0],.v (.bool s.r),.xl (.int .i64) s.l,.v (.int .i64 s.n),.v (.int .i64 s.i)]
def aAi (s:oq):List aT:=[⟨[.xl dW s.bP,.xl .str s.dV,.xl eu s.bV,.xl dQ s.cu,.xl eG s.iD],28,.cl,false⟩,⟨[.xl dW s.xY,.xl .str s.xW,.xl eu s.xX,.xl dQ s.eP,.xl eG s.xZ,.xl ER s.bG,.xl (.int .i64) s.jg,.xl (.int .i64) s.jf,.xl (.int .i64) s.je,.xl (.int .i64) s.jd,.xl (.int .i64) s.jc,.xl (.int .i64) s.jb,.xl (.int .i64) s.ja,.xl (.int .i64) s.iZ,.xl (.int .i64) s.iY,.xl (.int .i64) s.iW,.xl (.int .i64) s.dK,.xl (.int .i64) s.dJ,.xl (.int .i64) s.dI,.xl (.int .i64) s.dH,.xl (.int .i64) s.dG,.xl (.int .i64) s.dF,.os 2 1 0 (List.length s.sums),.xl (.int .i64) s.aZ,.os 3 1 0 (List.length s.levels)],148,.cl,false⟩,⟨[],3,.vec (.int .i64) s.sums,false⟩,⟨[],3,.vec (.int .i64) s.levels,false⟩,⟨[.own 1 0],144,.cl,false⟩,⟨[.v (.string s.pY),.v (.int .i64 s.Wy),.v (.int .i64 s.pX),.v (.int .i64 s.ah0),.v (.int .i64 s.ah1),.v (.int .i64 s.Wu),.v (.int .i64 s.kT),.v (.int .i64 s.lY)],58,.cl,false⟩,⟨[.v (.int .i64 s.more)],3,.cl,false⟩]
noncomputable def SG:Code:=((aF (Tryz.f93.body.getD .skip))[0]?).getD .skip
def Yn (s:oq):T (Rd oq):=
 .br (decide (s.i<s.n)) (.req (0≤s.i∧s.i<(List.length s.l:Int)) (.req (0≤(gi s.l s.i)∧(gi s.l s.i)<((List.length s.sums:Nat):Int)) (.req ((gi s.l s.i).toNat<List.length s.sums) (.req (0≤(gi s.l s.i)∧(gi s.l s.i)<(List.length s.bG:Int)) (.br (!(decide ((IntKind.i64.wrap ((s.sums.getD (gi s.l s.i).toNat (Ty.dflt (.int .i64)))+s.more))≤(qK s.bG (gi s.l s.i)).1))) (.rl s.sums (.rl s.levels (.ok (.stop (.ret) {s with r:=false})))) (.rl s.sums (.rl s.levels (.ok (.next {s with i:=(IntKind.i64.wrap (s.i+1))}))))))))) (.rl s.sums (.rl s.levels (.ok (.stop (.exit 0) s))))
abbrev aqg (s:oq):=(Yn s).rd s
def Jb (s:oq) (j:Int):Bool:=zJ s.bG s.sums s.more (gi s.l j)
def Ui (s:oq):Prop:=s.i=0∧0≤s.n∧s.n≤1000∧s.n=(s.l.length:Int)∧(∀r∈s.l,0≤r∧r<(s.bG.length:Int))∧s.sums.length=s.bG.length∧(∀k:Nat,0≤s.sums.getD k 0∧s.sums.getD k 0≤2000)∧(0≤s.more∧s.more≤10000)
def LJ (s:oq):Prop:=0≤s.i∧s.i≤s.n∧s.n≤1000∧(s.n=(s.l.length:Int)∧(∀r∈s.l,0≤r∧r<(s.bG.length:Int))∧s.sums.length=s.bG.length∧(∀k:Nat,0≤s.sums.getD k 0∧s.sums.getD k 0≤2000)∧(0≤s.more∧s.more≤10000))∧∀j:Nat,(j:Int)<s.i→Jb s j=true
def N8 (s:oq):Nat:=(s.n-s.i).toNat
def ai8 (x:Ex) (_ s':oq):Prop:=(x=.exit 0∧∀j:Nat,(j:Int)<s'.n→Jb s' j=true)∨(x=.ret∧s'.r=false∧∃j:Nat,(j:Int)<s'.n∧Jb s' j=false)
theorem ay4:∀s,Ui s→LJ s:=by
 intro s h
 obtain ⟨h0,h1,h2,h3⟩:=h
 exact ⟨by omega,by omega,h2,h3,fun j hj=>by omega⟩
theorem auV (s:oq) (hI:LJ s):bM (fun s'=>LJ s'∧N8 s'<N8 s) (fun x s'=>ai8 x s s') (aqg s):=by
 unfold aqg Yn
 dsimp only [T.rd,T.rl]
 obtain ⟨h0,h1,h2,h3,h4⟩:=hI
 refine au (fun c1=>au (fun c2=>?_) (fun c2=>?_)) (fun c1=>?_)
 ·have c1:s.i<s.n:=by simpa using c1
  refine .inr ⟨rfl,rfl,s.i.toNat,by simp only;omega,?_⟩
  rw [Int.toNat_of_nonneg (by omega)]
  have hg:Jb s s.i=false:=by unfold Jb;(obtain ⟨e0,e1,e2,e3,e4⟩:=h3;have hb:=e3 (gi s.l s.i).toNat;have c2:=c2;rw [aK (x:=s.sums.getD (gi s.l s.i).toNat (Ty.dflt (.int .i64))+s.more) (by show _≤s.sums.getD (gi s.l s.i).toNat 0+s.more;omega) (by show s.sums.getD (gi s.l s.i).toNat 0+s.more≤_;omega)] at c2;unfold zJ;first|(have c3:(!(decide (s.sums.getD (gi s.l s.i).toNat 0+s.more≤(qK s.bG (gi s.l s.i)).1)))=true:=c2;simpa using c3) |(have c3:(!(decide (s.sums.getD (gi s.l s.i).toNat 0+s.more≤(qK s.bG (gi s.l s.i)).1)))=false:=c2;simpa using c3))
  exact hg
 ·have c1:s.i<s.n:=by simpa using c1
  have hg:Jb s s.i=true:=by unfold Jb;(obtain ⟨e0,e1,e2,e3,e4⟩:=h3;have hb:=e3 (gi s.l s.i).toNat;have c2:=c2;rw [aK (x:=s.sums.getD (gi s.l s.i).toNat (Ty.dflt (.int .i64))+s.more) (by show _≤s.sums.getD (gi s.l s.i).toNat 0+s.more;omega) (by show s.sums.getD (gi s.l s.i).toNat 0+s.more≤_;omega)] at c2;unfold zJ;first|(have c3:(!(decide (s.sums.getD (gi s.l s.i).toNat 0+s.more≤(qK s.bG (gi s.l s.i)).1)))=true:=c2;simpa using c3) |(have c3:(!(decide (s.sums.getD (gi s.l s.i).toNat 0+s.more≤(qK s.bG (gi s.l s.i)).1)))=false:=c2;simpa using c3))
  rw [aK (x:=s.i+1) (by omega) (by omega)]
  refine ⟨⟨by simp only;omega,by simp only;omega,h2,h3,fun j hj=>?_⟩,by simp only [N8];omega⟩
  by_cases hji:(j:Int)<s.i
  ·exact h4 j hji
  ·have:(j:Int)=s.i:=by simp only at hj;omega
   rw [this];exact hg
 ·have c1:s.n≤s.i:=by simpa using c1
  exact .inl ⟨rfl,fun j hj=>h4 j (by omega)⟩
def xQ:bQ oq:=⟨7,18,[1,4,7,8,9],[],aBf,aAi,fun v b=>⟨vH (v.getD 1 .junk),aQ (.int .i64) (v.getD 2 .junk),gI (v.getD 3 .junk),gI (v.getD 4 .junk),aQ dW (aY (aO b 0) 0),aQ .str (aY (aO b 0) 1),aQ eu (aY (aO b 0) 2),aQ dQ (aY (aO b 0) 3),aQ eG (aY (aO b 0) 4),aQ dW (aY (aO b 1) 0),aQ .str (aY (aO b 1) 1),aQ eu (aY (aO b 1) 2),aQ dQ (aY (aO b 1) 3),aQ eG (aY (aO b 1) 4),aQ ER (aY (aO b 1) 5),aQ (.int .i64) (aY (aO b 1) 6),aQ (.int .i64) (aY (aO b 1) 7),aQ (.int .i64) (aY (aO b 1) 8),aQ (.int .i64) (aY (aO b 1) 9),aQ (.int .i64) (aY (aO b 1) 10),aQ (.int .i64) (aY (aO b 1) 11),aQ (.int .i64) (aY (aO b 1) 12),aQ (.int .i64) (aY (aO b 1) 13),aQ (.int .i64) (aY (aO b 1) 14),aQ (.int .i64) (aY (aO b 1) 15),aQ (.int .i64) (aY (aO b 1) 16),aQ (.int .i64) (aY (aO b 1) 17),aQ (.int .i64) (aY (aO b 1) 18),aQ (.int .i64) (aY (aO b 1) 19),aQ (.int .i64) (aY (aO b 1) 20),aQ (.int .i64) (aY (aO b 1) 21),aQ (.int .i64) (aY (aO b 1) 23),jk (.int .i64) (aO b 2),jk (.int .i64) (aO b 3),gSr (aY (aO b 5) 0),gI (aY (aO b 5) 1),gI (aY (aO b 5) 2),gI (aY (aO b 5) 3),gI (aY (aO b 5) 4),gI (aY (aO b 5) 5),gI (aY (aO b 5) 6),gI (aY (aO b 5) 7),gI (aY (aO b 6) 0)⟩,Yn,fun s r=> {r with l:=s.l,n:=s.n,bP:=s.bP,dV:=s.dV,bV:=s.bV,cu:=s.cu,iD:=s.iD,xY:=s.xY,xW:=s.xW,xX:=s.xX,eP:=s.eP,xZ:=s.xZ,bG:=s.bG,jg:=s.jg,jf:=s.jf,je:=s.je,jd:=s.jd,jc:=s.jc,jb:=s.jb,ja:=s.ja,iZ:=s.iZ,iY:=s.iY,iW:=s.iW,dK:=s.dK,dJ:=s.dJ,dI:=s.dI,dH:=s.dH,dG:=s.dG,dF:=s.dF,aZ:=s.aZ,sums:=s.sums,levels:=s.levels,pY:=s.pY,Wy:=s.Wy,pX:=s.pX,ah0:=s.ah0,ah1:=s.ah1,Wu:=s.Wu,kT:=s.kT,lY:=s.lY,more:=s.more},fun s=>s,fun _ s=>s,[.ret,.exit 0],Ui,LJ,N8⟩
abbrev EW:=xQ.run
abbrev Ff:=xQ.jZ
abbrev awi:=xQ.q
noncomputable def zH:Specs:=bf [(24,nG),(61,qg),(94,qf),(96,qc)]
theorem Dp:∀g S,zH g=some S→Valid Tryz.prog aP g S:=aS (l:=[(24,nG),(61,qg),(94,qf),(96,qc)]) ⟨BI,FM,FK,FI,trivial⟩
noncomputable def aha:Hand:=inl Tryz.prog aP zH (ku 95 1 3 (vZ.lp) (ku 93 1 2 (uG.lp) (lJ Tryz.prog aP (zH) 20 2))) 9
theorem apb:dM Tryz.prog aP aha:=bT Dp (dL Tryz.func95 rfl (by kernel_rfl) yR (dL Tryz.func93 rfl (by kernel_rfl) wo (dP Dp))) 9
theorem asT (s:oq) (hI:LJ s):(Yn s).all (fun _=>True):=by
 refine ⟨fun c1=>⟨?_,?_,?_,?_,fun c2=>⟨⟨rfl,rfl⟩,⟨rfl,rfl⟩,trivial⟩,fun c2=>⟨⟨rfl,rfl⟩,⟨rfl,rfl⟩,trivial⟩⟩,fun c1=>⟨⟨rfl,rfl⟩,⟨rfl,rfl⟩,trivial⟩⟩
 all_goals ((obtain ⟨h0,h1,h2,⟨e0,e1,e2,e3,e4⟩,h4⟩:=hI;simp only [decide_eq_true_eq] at c1;have hm:=e1 (gi s.l s.i) (pR (by omega) (by omega));omega))
theorem afS:xQ.Ok:=⟨fun s=>by kernel_rfl,fun s=>by kernel_rfl,fun s=>rfl,fun s t r=>rfl,fun s=>rfl,fun s=>by kernel_rfl⟩
theorem aeU:xQ.Pf (ai8):=⟨ay4,fun _ _=>rfl,auV,asT⟩
theorem ES:bg Tryz.prog aP (AN 7) (.loop SG) xQ.lp:=bQ.snd afS aeU (bF (Γ:=zH) (K:=aha) (L:=(sH Tryz.prog aP zH aha 20 2)) Dp apb SG (fun b _=>dR Dp apb 20 2 b)) (fun s=>by kernel_rfl)
theorem an0 (s:oq) (hE:Ui s):∃s',LJ s'∧ai8 (Ff s) s' (EW s):=bQ.fin afS aeU s hE
theorem qM (s:oq) (hE:Ui s):(Ff s=.exit 0∧s.l.all (zJ s.bG s.sums s.more)=true)∨(Ff s=.ret∧(EW s).r=false∧s.l.all (zJ s.bG s.sums s.more)=false):=by
 obtain ⟨s',hI,hq⟩:=an0 s hE
 obtain ⟨h0,h1,h2,h3,_⟩:=hE
 have en:(EW s).n=s.n:=rfl
 rcases hq with ⟨q1,q2⟩ |⟨q1,q2,j,q3,q4⟩
 ·exact .inl ⟨q1,(jw (d:=(0:Int))).1 fun j hj=>q2 j (by rw [en];omega)⟩
 ·refine .inr ⟨q1,q2,?_⟩
  rw [Bool.eq_false_iff]
  intro hx
  have:=(jw (d:=(0:Int))).2 hx j (by rw [en] at q3;omega)
  exact Bool.noConfusion (this.symm.trans q4)
structure rZ where
 O3:Int
 level:Int
 l:List Int
 n:Int
 i:Int
 bP:List Cd
 dV:List ByteArray
 bV:List Ko
 cu:List Ch
 iD:List Ba
 xY:List Cd
 xW:List ByteArray
 xX:List Ko
 eP:List Ch
 xZ:List Ba
 bG:List Rw
 jg:List Int
 jf:List Int
 je:List Int
 jd:List Int
 jc:List Int
 jb:List Int
 ja:List Int
 iZ:List Int
 iY:List Int
 iW:List Int
 dK:List Int
 dJ:List Int
 dI:List Int
 dH:List Int
 dG:List Int
 dF:List Int
 aZ:List Int
 sums:List Int
 levels:List Int
 more:Int
def aCc (s:rZ):List LV:=[.v (.int .i64 s.O3),.own 4 0,.v (.int .i64 s.level),.own 5 0,.xl (.int .i64) s.l,.v (.int .i64 s.n),.v (.int .i64 s.i)]
def aB4 (s:rZ):List aT:=[⟨[.xl dW s.bP,.xl .str s.dV,.xl eu s.bV,.xl dQ s.cu,.xl eG s.iD],28,.cl,false⟩,⟨[.xl dW s.xY,.xl .str s.xW,.xl eu s.xX,.xl dQ s.eP,.xl eG s.xZ,.xl ER s.bG,.xl (.int .i64) s.jg,.xl (.int .i64) s.jf,.xl (.int .i64) s.je,.xl (.int .i64) s.jd,.xl (.int .i64) s.jc,.xl (.int .i64) s.jb,.xl (.int .i64) s.ja,.xl (.int .i64) s.iZ,.xl (.int .i64) s.iY,.xl (.int .i64) s.iW,.xl (.int .i64) s.dK,.xl (.int .i64) s.dJ,.xl (.int .i64) s.dI,.xl (.int .i64) s.dH,.xl (.int .i64) s.dG,.xl (.int .i64) s.dF,.os 2 1 0 (List.length s.sums),.xl (.int .i64) s.aZ,.os 3 1 0 (List.length s.levels)],148,.cl,false⟩,⟨[],3,.vec (.int .i64) s.sums,false⟩,⟨[],3,.vec (.int .i64) s.levels,false⟩,⟨[.own 1 0],144,.cl,false⟩,⟨[.v (.int .i64 s.more)],3,.cl,false⟩]
noncomputable def aaK:Code:=((aF (Tryz.f97.body.getD .skip))[0]?).getD .skip
def adN (s:rZ):T (Rd rZ):=
 .br (decide (s.i<s.n)) (.req (0≤s.i∧s.i<(List.length s.l:Int)) (.req (0≤(gi s.l s.i)∧(gi s.l s.i)<((List.length s.sums:Nat):Int)) (.req ((gi s.l s.i).toNat<List.length s.sums) (.req (0≤(gi s.l s.i)∧(gi s.l s.i)<((List.length s.sums:Nat):Int)) (.req ((gi s.l s.i).toNat<List.length s.sums) (.req (0=0∧(List.length s.sums)=List.length (s.sums.set (gi s.l s.i).toNat (IntKind.i64.wrap ((s.sums.getD (gi s.l s.i).toNat (Ty.dflt (.int .i64)))+s.more)))) (.rl s.levels (.ok (.next {s with i:=(IntKind.i64.wrap (s.i+1)),sums:=(s.sums.set (gi s.l s.i).toNat (IntKind.i64.wrap ((s.sums.getD (gi s.l s.i).toNat (Ty.dflt (.int .i64)))+s.more)))}))))))))) (.rl s.sums (.rl s.levels (.ok (.stop (.exit 0) s))))
abbrev anu (s:rZ):=(adN s).rd s
def adn (s:rZ):Prop:=s.i=0∧(∀k:Nat,0≤s.sums.getD k 0∧s.sums.getD k 0≤2000)∧s.n=(s.l.length:Int)∧s.n≤1000∧(∀r∈s.l,0≤r∧r<(s.sums.length:Int))∧(0≤s.more∧s.more≤10000)
def adi (s:rZ):Prop:=(0≤s.i∧s.i≤s.n)∧(∀k:Nat,0≤s.sums.getD k 0∧s.sums.getD k 0≤2000+10000*s.i)∧s.n=(s.l.length:Int)∧s.n≤1000∧(∀r∈s.l,0≤r∧r<(s.sums.length:Int))∧(0≤s.more∧s.more≤10000)
def Za (s:rZ):Nat:=(s.n-s.i).toNat
def avw (x:Ex) (_ s':rZ):Prop:=x=.exit 0∧s'.i=s'.n
theorem aBE:∀s,adn s→adi s:=by
 intro s h
 obtain ⟨h0,h1,h2,h3⟩:=h
 exact ⟨by omega,fun k=>by have:=h1 k;omega,h2,h3⟩
theorem axn (s:rZ) (hI:adi s):bM (fun s'=>adi s'∧Za s'<Za s) (fun x s'=>avw x s s') (anu s):=by
 unfold anu adN
 dsimp only [T.rd,T.rl]
 obtain ⟨⟨h0,h1⟩,h2,h3,h4,h5,h6⟩:=hI
 refine au (fun c1=>?_) (fun c1=>?_)
 ·have c1:s.i<s.n:=by simpa using c1
  have hb:=h2 (gi s.l s.i).toNat
  rw [aK (x:=s.i+1) (by omega) (by omega),aK (x:=s.sums.getD (gi s.l s.i).toNat (Ty.dflt (.int .i64))+s.more) (by show _≤s.sums.getD (gi s.l s.i).toNat 0+s.more;omega) (by show s.sums.getD (gi s.l s.i).toNat 0+s.more≤_;omega)]
  refine ⟨⟨⟨by simp only;omega,by simp only;omega⟩,fun k=>?_,h3,h4,fun r hr=>by simp only [List.length_set];exact h5 r hr,h6⟩,by simp only [Za];omega⟩
  simp only
  have hk:=h2 k
  rw [pU]
  split
  ·show 0≤s.sums.getD (gi s.l s.i).toNat 0+s.more∧s.sums.getD (gi s.l s.i).toNat 0+s.more≤_
   omega
  ·omega
 ·have c1:s.n≤s.i:=by simpa using c1
  exact ⟨rfl,by omega⟩
def PK:bQ rZ:=⟨4,90,[1,2,6,7,66,67,68],[],aCc,aB4,fun v b=>⟨gI (v.getD 0 .junk),gI (v.getD 2 .junk),aQ (.int .i64) (v.getD 4 .junk),gI (v.getD 5 .junk),gI (v.getD 6 .junk),aQ dW (aY (aO b 0) 0),aQ .str (aY (aO b 0) 1),aQ eu (aY (aO b 0) 2),aQ dQ (aY (aO b 0) 3),aQ eG (aY (aO b 0) 4),aQ dW (aY (aO b 1) 0),aQ .str (aY (aO b 1) 1),aQ eu (aY (aO b 1) 2),aQ dQ (aY (aO b 1) 3),aQ eG (aY (aO b 1) 4),aQ ER (aY (aO b 1) 5),aQ (.int .i64) (aY (aO b 1) 6),aQ (.int .i64) (aY (aO b 1) 7),aQ (.int .i64) (aY (aO b 1) 8),aQ (.int .i64) (aY (aO b 1) 9),aQ (.int .i64) (aY (aO b 1) 10),aQ (.int .i64) (aY (aO b 1) 11),aQ (.int .i64) (aY (aO b 1) 12),aQ (.int .i64) (aY (aO b 1) 13),aQ (.int .i64) (aY (aO b 1) 14),aQ (.int .i64) (aY (aO b 1) 15),aQ (.int .i64) (aY (aO b 1) 16),aQ (.int .i64) (aY (aO b 1) 17),aQ (.int .i64) (aY (aO b 1) 18),aQ (.int .i64) (aY (aO b 1) 19),aQ (.int .i64) (aY (aO b 1) 20),aQ (.int .i64) (aY (aO b 1) 21),aQ (.int .i64) (aY (aO b 1) 23),jk (.int .i64) (aO b 2),jk (.int .i64) (aO b 3),gI (aY (aO b 5) 0)⟩,adN,fun s r=> {r with O3:=s.O3,level:=s.level,l:=s.l,n:=s.n,bP:=s.bP,dV:=s.dV,bV:=s.bV,cu:=s.cu,iD:=s.iD,xY:=s.xY,xW:=s.xW,xX:=s.xX,eP:=s.eP,xZ:=s.xZ,bG:=s.bG,jg:=s.jg,jf:=s.jf,je:=s.je,jd:=s.jd,jc:=s.jc,jb:=s.jb,ja:=s.ja,iZ:=s.iZ,iY:=s.iY,iW:=s.iW,dK:=s.dK,dJ:=s.dJ,dI:=s.dI,dH:=s.dH,dG:=s.dG,dF:=s.dF,aZ:=s.aZ,levels:=s.levels,more:=s.more},fun s=>s,fun _ s=>s,[.exit 0],adn,adi,Za⟩
abbrev jX:=PK.run
abbrev auQ:=PK.jZ
abbrev aqL:=PK.q
noncomputable def ag9:Hand:=inl Tryz.prog aP zH (ku 93 7 2 (xQ.lp) (ku 95 1 3 (vZ.lp) (ku 93 1 2 (uG.lp) (lJ Tryz.prog aP (zH) 20 2)))) 9
theorem apa:dM Tryz.prog aP ag9:=bT Dp (dL Tryz.func93 rfl (by kernel_rfl) ES (dL Tryz.func95 rfl (by kernel_rfl) yR (dL Tryz.func93 rfl (by kernel_rfl) wo (dP Dp)))) 9
theorem axq (s:rZ) (hI:adi s):(adN s).all (fun _=>True):=by
 refine ⟨fun c1=>⟨?_,?_,?_,?_,?_,?_,⟨rfl,rfl⟩,trivial⟩,fun c1=>⟨⟨rfl,rfl⟩,⟨rfl,rfl⟩,trivial⟩⟩
 all_goals ((obtain ⟨⟨h0,h1⟩,h2,h3,h4,h5,h6⟩:=hI;(try simp only [decide_eq_true_eq] at c1);first|(have hm:=h5 (gi s.l s.i) (pR (by omega) (by omega));omega) |exact ⟨rfl,by simp⟩ |exact ⟨rfl,rfl⟩))
theorem afy:PK.Ok:=⟨fun s=>by kernel_rfl,fun s=>by kernel_rfl,fun s=>rfl,fun s t r=>rfl,fun s=>rfl,fun s=>by kernel_rfl⟩
theorem aeA:PK.Pf (avw):=⟨aBE,fun _ _=>rfl,axn,axq⟩
theorem UI:bg Tryz.prog aP (AN 4) (.loop aaK) PK.lp:=bQ.snd afy aeA (bF (Γ:=zH) (K:=ag9) (L:=(sH Tryz.prog aP zH ag9 20 2)) Dp apa aaK (fun b _=>dR Dp apa 20 2 b)) (fun s=>by kernel_rfl)
theorem ar4 (s:rZ) (hE:adn s):∃s',adi s'∧avw (auQ s) s' (jX s):=bQ.fin afy aeA s hE
theorem ale (s:rZ) (hE:adn s):(fun s:rZ=>yG s.sums s.more (s.l.drop s.i.toNat)) (jX s)=(fun s:rZ=>yG s.sums s.more (s.l.drop s.i.toNat)) s:=by
 exact bQ.uy afy aeA (fun s:rZ=>yG s.sums s.more (s.l.drop s.i.toNat)) (fun s hI=>by
  show bM _ _ (anu s)
  unfold anu adN
  dsimp only [T.rd,T.rl]
  obtain ⟨⟨h0,h1⟩,h2,h3,h4,h5,h6⟩:=hI
  refine au (fun c1=>?_) (fun c1=>rfl)
  have c1:s.i<s.n:=by simpa using c1
  have hb:=h2 (gi s.l s.i).toNat
  rw [aK (x:=s.i+1) (by omega) (by omega),aK (x:=s.sums.getD (gi s.l s.i).toNat (Ty.dflt (.int .i64))+s.more) (by show _≤s.sums.getD (gi s.l s.i).toNat 0+s.more;omega) (by show s.sums.getD (gi s.l s.i).toNat 0+s.more≤_;omega)]
  show yG _ _ _=yG _ _ _
  rw [(gi_step h0 (show s.i<s.l.length by omega)).1]
  rfl) s hE
theorem ad9 (s:rZ) (hE:adn s):(jX s).sums=yG s.sums s.more s.l:=by
 have q3:=ale s hE
 obtain ⟨s',hI,q1,q2⟩:=ar4 s hE
 obtain ⟨h0,h1,h2,h3⟩:=hE
 simp only at q3
 rw [q2,show (jX s).n=s.n from rfl,show (jX s).l=s.l from rfl,show (jX s).more=s.more from rfl,List.drop_eq_nil_of_le (by omega),h0] at q3
 exact q3
end Go.Proofs.YtlihnbimgclogaaGreatDoor
namespace Go.Proofs.YtlihnbimgclogaaGreatDoor
open Go.Sx
structure fH where
 most:List Int
 order:List Int
 n:Int
 level:Int
 some:Bool
 l:List Int
 m:Int
 k:Int
 aj:List Cd
 aB:List ByteArray
 ai:List Ko
 ak:List Ch
 aJ:List Ba
 xY:List Cd
 xW:List ByteArray
 xX:List Ko
 eP:List Ch
 xZ:List Ba
 bG:List Rw
 jg:List Int
 jf:List Int
 je:List Int
 jd:List Int
 jc:List Int
 jb:List Int
 ja:List Int
 iZ:List Int
 iY:List Int
 iW:List Int
 dK:List Int
 dJ:List Int
 dI:List Int
 dH:List Int
 dG:List Int
 dF:List Int
 aZ:List Int
 sums:List Int
 levels:List Int
def aAG (s:fH):List LV:=[.xl (.int .i64) s.most,.xl (.int .i64) s.order,.own 0 0,.v (.int .i64 s.n),.own 1 0,.v (.int .i64 s.level),.v (.bool s.some),.xl (.int .i64) s.l,.v (.int .i64 s.m),.v (.int .i64 s.k)]
def azK (s:fH):List aT:=[⟨[.xl dW s.aj,.xl .str s.aB,.xl eu s.ai,.xl dQ s.ak,.xl eG s.aJ],28,.cl,false⟩,⟨[.xl dW s.xY,.xl .str s.xW,.xl eu s.xX,.xl dQ s.eP,.xl eG s.xZ,.xl ER s.bG,.xl (.int .i64) s.jg,.xl (.int .i64) s.jf,.xl (.int .i64) s.je,.xl (.int .i64) s.jd,.xl (.int .i64) s.jc,.xl (.int .i64) s.jb,.xl (.int .i64) s.ja,.xl (.int .i64) s.iZ,.xl (.int .i64) s.iY,.xl (.int .i64) s.iW,.xl (.int .i64) s.dK,.xl (.int .i64) s.dJ,.xl (.int .i64) s.dI,.xl (.int .i64) s.dH,.xl (.int .i64) s.dG,.xl (.int .i64) s.dF,.os 2 1 0 (List.length s.sums),.xl (.int .i64) s.aZ,.os 3 1 0 (List.length s.levels)],148,.cl,false⟩,⟨[],3,.vec (.int .i64) s.sums,false⟩,⟨[],3,.vec (.int .i64) s.levels,false⟩]
noncomputable def zY:Code:=((aF (((aF (Tryz.f52.body.getD .skip))[0]?).getD .skip))[0]?).getD .skip
def sN (s:fH):oq:=(⟨false,(([s.jg,s.jf,s.je,s.jd,s.jc,s.jb,s.ja,s.iZ,s.iY,s.iW,s.dK,s.dJ,s.dI,s.dH,s.dG,s.dF]:List (List Int)).getD (gi s.l s.k).toNat []),(List.length (([s.jg,s.jf,s.je,s.jd,s.jc,s.jb,s.ja,s.iZ,s.iY,s.iW,s.dK,s.dJ,s.dI,s.dH,s.dG,s.dF]:List (List Int)).getD (gi s.l s.k).toNat []):Int),(0:Int),s.aj,s.aB,s.ai,s.ak,s.aJ,s.xY,s.xW,s.xX,s.eP,s.xZ,s.bG,s.jg,s.jf,s.je,s.jd,s.jc,s.jb,s.ja,s.iZ,s.iY,s.iW,s.dK,s.dJ,s.dI,s.dH,s.dG,s.dF,s.aZ,s.sums,s.levels,(bC s.eP (gi s.l s.k)).1,(bC s.eP (gi s.l s.k)).2.1,(bC s.eP (gi s.l s.k)).2.2.1,(bC s.eP (gi s.l s.k)).2.2.2.1,(bC s.eP (gi s.l s.k)).2.2.2.2.1,(bC s.eP (gi s.l s.k)).2.2.2.2.2.1,(bC s.eP (gi s.l s.k)).2.2.2.2.2.2.1,(bC s.eP (gi s.l s.k)).2.2.2.2.2.2.2,(IntKind.i64.wrap ((if (gi s.aZ (gi s.l s.k))<(BH (bC s.eP (gi s.l s.k)).2.2.2.1 (bC s.eP (gi s.l s.k)).2.2.2.2.2.1 (IntKind.i64.wrap ((s.levels.getD (gi s.l s.k).toNat (Ty.dflt (.int .i64)))+1))) then BH (bC s.eP (gi s.l s.k)).2.2.2.1 (bC s.eP (gi s.l s.k)).2.2.2.2.2.1 (IntKind.i64.wrap ((s.levels.getD (gi s.l s.k).toNat (Ty.dflt (.int .i64)))+1)) else (gi s.aZ (gi s.l s.k)))-(if (gi s.aZ (gi s.l s.k))<(BH (bC s.eP (gi s.l s.k)).2.2.2.1 (bC s.eP (gi s.l s.k)).2.2.2.2.2.1 (IntKind.i64.wrap ((IntKind.i64.wrap ((s.levels.getD (gi s.l s.k).toNat (Ty.dflt (.int .i64)))+1))-1))) then BH (bC s.eP (gi s.l s.k)).2.2.2.1 (bC s.eP (gi s.l s.k)).2.2.2.2.2.1 (IntKind.i64.wrap ((IntKind.i64.wrap ((s.levels.getD (gi s.l s.k).toNat (Ty.dflt (.int .i64)))+1))-1)) else (gi s.aZ (gi s.l s.k)))))⟩:oq)
def lK (s:fH):rZ:=(⟨(gi s.l s.k),(IntKind.i64.wrap ((s.levels.getD (gi s.l s.k).toNat (Ty.dflt (.int .i64)))+1)),(([s.jg,s.jf,s.je,s.jd,s.jc,s.jb,s.ja,s.iZ,s.iY,s.iW,s.dK,s.dJ,s.dI,s.dH,s.dG,s.dF]:List (List Int)).getD (gi s.l s.k).toNat []),(List.length (([s.jg,s.jf,s.je,s.jd,s.jc,s.jb,s.ja,s.iZ,s.iY,s.iW,s.dK,s.dJ,s.dI,s.dH,s.dG,s.dF]:List (List Int)).getD (gi s.l s.k).toNat []):Int),(0:Int),s.aj,s.aB,s.ai,s.ak,s.aJ,s.xY,s.xW,s.xX,s.eP,s.xZ,s.bG,s.jg,s.jf,s.je,s.jd,s.jc,s.jb,s.ja,s.iZ,s.iY,s.iW,s.dK,s.dJ,s.dI,s.dH,s.dG,s.dF,s.aZ,s.sums,s.levels,(IntKind.i64.wrap ((if (gi s.aZ (gi s.l s.k))<(BH (bC s.eP (gi s.l s.k)).2.2.2.1 (bC s.eP (gi s.l s.k)).2.2.2.2.2.1 (IntKind.i64.wrap ((s.levels.getD (gi s.l s.k).toNat (Ty.dflt (.int .i64)))+1))) then BH (bC s.eP (gi s.l s.k)).2.2.2.1 (bC s.eP (gi s.l s.k)).2.2.2.2.2.1 (IntKind.i64.wrap ((s.levels.getD (gi s.l s.k).toNat (Ty.dflt (.int .i64)))+1)) else (gi s.aZ (gi s.l s.k)))-(if (gi s.aZ (gi s.l s.k))<(BH (bC s.eP (gi s.l s.k)).2.2.2.1 (bC s.eP (gi s.l s.k)).2.2.2.2.2.1 (IntKind.i64.wrap ((IntKind.i64.wrap ((s.levels.getD (gi s.l s.k).toNat (Ty.dflt (.int .i64)))+1))-1))) then BH (bC s.eP (gi s.l s.k)).2.2.2.1 (bC s.eP (gi s.l s.k)).2.2.2.2.2.1 (IntKind.i64.wrap ((IntKind.i64.wrap ((s.levels.getD (gi s.l s.k).toNat (Ty.dflt (.int .i64)))+1))-1)) else (gi s.aZ (gi s.l s.k)))))⟩:rZ)
def P9 (s:fH):T (Rd fH):=
 .br (decide (s.k<s.m)) (.req (0≤s.k∧s.k<(List.length s.l:Int)) (.req (0≤(gi s.l s.k)∧(gi s.l s.k)<((List.length s.levels:Nat):Int)) (.req ((gi s.l s.k).toNat<List.length s.levels) (.br ((s.levels.getD (gi s.l s.k).toNat (Ty.dflt (.int .i64))) !=(IntKind.i64.wrap (s.level-1))) (.rl s.sums (.rl s.levels (.ok (.next {s with k:=(IntKind.i64.wrap (s.k+1))})))) (.req (0≤(gi s.l s.k)∧(gi s.l s.k)<(List.length s.ak:Int)) (.req (0≤(gi s.l s.k)∧(gi s.l s.k)<(List.length s.most:Int)) (.req ((gi s.most (gi s.l s.k))≤9223372036854775807) (.br (decide ((Ri (bC s.ak (gi s.l s.k)).2.2.2.1 (bC s.ak (gi s.l s.k)).2.2.2.2.1 (bC s.ak (gi s.l s.k)).2.2.2.2.2.1 (gi s.most (gi s.l s.k)))<s.level)) (.rl s.sums (.rl s.levels (.ok (.next {s with k:=(IntKind.i64.wrap (s.k+1))})))) (.req (0≤(gi s.l s.k)∧(gi s.l s.k)<(List.length s.eP:Int)) (.req (0≤(gi s.l s.k)∧(gi s.l s.k)<((List.length s.levels:Nat):Int)) (.req ((gi s.l s.k).toNat<List.length s.levels) (.req (0≤(gi s.l s.k)∧(gi s.l s.k)<(List.length s.aZ:Int)) (.req ((1≤(bC s.eP (gi s.l s.k)).2.2.2.1∧(bC s.eP (gi s.l s.k)).2.2.2.1≤80∧1≤(bC s.eP (gi s.l s.k)).2.2.2.2.2.1∧(bC s.eP (gi s.l s.k)).2.2.2.2.2.1≤80)∧0≤(IntKind.i64.wrap ((s.levels.getD (gi s.l s.k).toNat (Ty.dflt (.int .i64)))+1))∧(IntKind.i64.wrap ((s.levels.getD (gi s.l s.k).toNat (Ty.dflt (.int .i64)))+1))≤1000) (.req (0≤(gi s.l s.k)∧(gi s.l s.k)<(List.length s.aZ:Int)) (.req ((1≤(bC s.eP (gi s.l s.k)).2.2.2.1∧(bC s.eP (gi s.l s.k)).2.2.2.1≤80∧1≤(bC s.eP (gi s.l s.k)).2.2.2.2.2.1∧(bC s.eP (gi s.l s.k)).2.2.2.2.2.1≤80)∧0≤(IntKind.i64.wrap ((IntKind.i64.wrap ((s.levels.getD (gi s.l s.k).toNat (Ty.dflt (.int .i64)))+1))-1))∧(IntKind.i64.wrap ((IntKind.i64.wrap ((s.levels.getD (gi s.l s.k).toNat (Ty.dflt (.int .i64)))+1))-1))≤1000) (.req (0≤(gi s.l s.k)∧(gi s.l s.k)<(16:Int)) (.rl s.sums (.rl s.levels (.req (awi (sN s)) (.br (ig (Ff (sN s)) (.ret)) (.br (!(EW (sN s)).r) (.br false (.rl s.sums (.rl s.levels (.ok (.next {s with some:=true,k:=(IntKind.i64.wrap (s.k+1))})))) (.rl s.sums (.rl s.levels (.ok (.next {s with k:=(IntKind.i64.wrap (s.k+1))}))))) (.req (0≤(gi s.l s.k)∧(gi s.l s.k)<(16:Int)) (.rl s.sums (.rl s.levels (.req (aqL (lK s)) (.req (0≤(gi s.l s.k)∧(gi s.l s.k)<((List.length s.levels:Nat):Int)) (.req ((gi s.l s.k).toNat<List.length s.levels) (.br true (.rl (jX (lK s)).sums (.req (0=0∧(List.length s.levels)=List.length (s.levels.set (gi s.l s.k).toNat (IntKind.i64.wrap ((s.levels.getD (gi s.l s.k).toNat (Ty.dflt (.int .i64)))+1)))) (.ok (.next {s with some:=true,k:=(IntKind.i64.wrap (s.k+1)),sums:=(jX (lK s)).sums,levels:=(s.levels.set (gi s.l s.k).toNat (IntKind.i64.wrap ((s.levels.getD (gi s.l s.k).toNat (Ty.dflt (.int .i64)))+1)))})))) (.rl (jX (lK s)).sums (.req (0=0∧(List.length s.levels)=List.length (s.levels.set (gi s.l s.k).toNat (IntKind.i64.wrap ((s.levels.getD (gi s.l s.k).toNat (Ty.dflt (.int .i64)))+1)))) (.ok (.next {s with k:=(IntKind.i64.wrap (s.k+1)),sums:=(jX (lK s)).sums,levels:=(s.levels.set (gi s.l s.k).toNat (IntKind.i64.wrap ((s.levels.getD (gi s.l s.k).toNat (Ty.dflt (.int .i64)))+1)))})))))))))))) (.br (!true) (.br false (.rl s.sums (.rl s.levels (.ok (.next {s with some:=true,k:=(IntKind.i64.wrap (s.k+1))})))) (.rl s.sums (.rl s.levels (.ok (.next {s with k:=(IntKind.i64.wrap (s.k+1))}))))) (.req (0≤(gi s.l s.k)∧(gi s.l s.k)<(16:Int)) (.rl s.sums (.rl s.levels (.req (aqL (lK s)) (.req (0≤(gi s.l s.k)∧(gi s.l s.k)<((List.length s.levels:Nat):Int)) (.req ((gi s.l s.k).toNat<List.length s.levels) (.br true (.rl (jX (lK s)).sums (.req (0=0∧(List.length s.levels)=List.length (s.levels.set (gi s.l s.k).toNat (IntKind.i64.wrap ((s.levels.getD (gi s.l s.k).toNat (Ty.dflt (.int .i64)))+1)))) (.ok (.next {s with some:=true,k:=(IntKind.i64.wrap (s.k+1)),sums:=(jX (lK s)).sums,levels:=(s.levels.set (gi s.l s.k).toNat (IntKind.i64.wrap ((s.levels.getD (gi s.l s.k).toNat (Ty.dflt (.int .i64)))+1)))})))) (.rl (jX (lK s)).sums (.req (0=0∧(List.length s.levels)=List.length (s.levels.set (gi s.l s.k).toNat (IntKind.i64.wrap ((s.levels.getD (gi s.l s.k).toNat (Ty.dflt (.int .i64)))+1)))) (.ok (.next {s with k:=(IntKind.i64.wrap (s.k+1)),sums:=(jX (lK s)).sums,levels:=(s.levels.set (gi s.l s.k).toNat (IntKind.i64.wrap ((s.levels.getD (gi s.l s.k).toNat (Ty.dflt (.int .i64)))+1)))})))))))))))))))))))))))))))))))) (.rl s.sums (.rl s.levels (.ok (.stop (.exit 2) s))))
abbrev ZL (s:fH):=(P9 s).rd s
def gK (s:fH):List (List Int):=[s.jg,s.jf,s.je,s.jd,s.jc,s.jb,s.ja,s.iZ,s.iY,s.iW,s.dK,s.dJ,s.dI,s.dH,s.dG,s.dF]
def Mc (s:fH):Prop:=s.k=0∧(s.m=(s.l.length:Int)∧s.m≤1000∧1≤s.level∧s.level≤81)∧s.eP=s.ak∧OkT (gK s) s.bG s.eP s.aZ s.most s.l∧OkS s.bG s.l s.sums s.levels
def mX (s:fH):Prop:=(0≤s.k∧s.k≤s.m)∧(s.m=(s.l.length:Int)∧s.m≤1000∧1≤s.level∧s.level≤81)∧s.eP=s.ak∧OkT (gK s) s.bG s.eP s.aZ s.most s.l∧OkS s.bG s.l s.sums s.levels
def uZ (s:fH):Nat:=(s.m-s.k).toNat
def abO (x:Ex) (_ s':fH):Prop:=x=.exit 2∧s'.k=s'.m
theorem axf:∀s,Mc s→mX s:=by
 intro s h
 obtain ⟨h0,h1⟩:=h
 exact ⟨by have:=h1.1;omega,h1⟩
theorem uo (s:fH) (hI:mX s) (c1:s.k<s.m):gi s.l s.k∈s.l∧(0≤gi s.l s.k∧gi s.l s.k<16)∧gi s.l s.k<(s.eP.length:Int)∧gi s.l s.k<(s.ak.length:Int)∧gi s.l s.k<(s.aZ.length:Int)∧gi s.l s.k<(s.most.length:Int)∧gi s.l s.k<(s.levels.length:Int)∧(0≤gi s.most (gi s.l s.k)∧gi s.most (gi s.l s.k)≤80)∧(0≤gi s.aZ (gi s.l s.k)∧gi s.aZ (gi s.l s.k)≤80):=by
 obtain ⟨⟨h0,h1⟩,⟨h2,h3,h4,h5⟩,h6,hT,hS⟩:=hI
 have hm:gi s.l s.k∈s.l:=pR h0 (by omega)
 obtain ⟨o1,o2,o3,o4⟩:=hT.ord _ hm
 exact ⟨hm,o1,o2,by rw [←h6];exact o2,o3,o4,hS.kY _ hm,hT.mo _ (pR o1.1 o4),hT.al _ (pR o1.1 o3)⟩
theorem rJ {s:fH}(hI:mX s) (c2:((s.levels.getD (gi s.l s.k).toNat (Ty.dflt (.int .i64))) !=(IntKind.i64.wrap (s.level-1)))=false):s.levels.getD (gi s.l s.k).toNat 0=s.level-1:=by
 obtain ⟨_,⟨h2,h3,h4,h5⟩,_⟩:=hI
 have c2:((s.levels.getD (gi s.l s.k).toNat 0) !=(IntKind.i64.wrap (s.level-1)))=false:=c2
 rw [aK (x:=s.level-1) (by omega) (by omega)] at c2
 simpa using c2
theorem QC {s:fH}(hI:mX s) (c2:s.levels.getD (gi s.l s.k).toNat 0=s.level-1):IntKind.i64.wrap ((s.levels.getD (gi s.l s.k).toNat (Ty.dflt (.int .i64)))+1)=s.level∧IntKind.i64.wrap ((IntKind.i64.wrap ((s.levels.getD (gi s.l s.k).toNat (Ty.dflt (.int .i64)))+1))-1)=s.level-1:=by
 obtain ⟨_,⟨h2,h3,h4,h5⟩,_⟩:=hI
 have e:IntKind.i64.wrap ((s.levels.getD (gi s.l s.k).toNat (Ty.dflt (.int .i64)))+1)=s.level:=by
  have:(s.levels.getD (gi s.l s.k).toNat (Ty.dflt (.int .i64)))=s.level-1:=c2
  rw [this,aK (x:=s.level-1+1) (by omega) (by omega)]
  omega
 refine ⟨e,?_⟩
 rw [e,aK (by omega) (by omega)]
theorem kC {s:fH}(hI:mX s) (c1:s.k<s.m) (c2:s.levels.getD (gi s.l s.k).toNat 0=s.level-1):(sN s).more=JU s.eP s.aZ (gi s.l s.k) s.level∧(lK s).more=JU s.eP s.aZ (gi s.l s.k) s.level∧0≤JU s.eP s.aZ (gi s.l s.k) s.level∧JU s.eP s.aZ (gi s.l s.k) s.level≤10000:=by
 have hx:=uo s hI c1
 obtain ⟨w1,w2⟩:=QC hI c2
 obtain ⟨_,⟨h2,h3,h4,h5⟩,h6,hT,hS⟩:=hI
 have hb:=agA (gs:=s.eP) (alive:=s.aZ) (k:=s.level) (hT.has _ hx.1) hx.2.2.2.2.2.2.2.2 h4 h5
 have e:(sN s).more=JU s.eP s.aZ (gi s.l s.k) s.level:=by
  unfold sN
  simp only [w2]
  simp only [w1]
  show IntKind.i64.wrap (JU s.eP s.aZ (gi s.l s.k) s.level)=_
  rw [aK (by omega) (by omega)]
 exact ⟨e,e,hb⟩
theorem aoI {s:fH}(hI:mX s) (c1:s.k<s.m):((gK s).getD (gi s.l s.k).toNat []).Nodup∧(((gK s).getD (gi s.l s.k).toNat []).length:Int)≤1000∧∀r∈(gK s).getD (gi s.l s.k).toNat [],0≤r∧r<(s.bG.length:Int):=by
 have hx:=uo s hI c1
 obtain ⟨_,_,_,hT,_⟩:=hI
 refine hT.row _ ?_
 have hl:=hT.ol
 rw [List.getD_eq_getElem?_getD,List.getElem?_eq_getElem (by omega),Option.getD_some]
 exact List.getElem_mem _
theorem sO {s:fH}(hI:mX s) (c1:s.k<s.m) (c2:s.levels.getD (gi s.l s.k).toNat 0=s.level-1):Ui (sN s):=by
 obtain ⟨m1,m2,m3⟩:=kC hI c1 c2
 obtain ⟨o1,o2,o3⟩:=aoI hI c1
 obtain ⟨_,_,_,hT,hS⟩:=hI
 exact ⟨rfl,Int.natCast_nonneg _,o2,rfl,o3,hS.len,hS.bd,by rw [m1];exact m3⟩
theorem MR {s:fH}(hI:mX s) (c1:s.k<s.m) (c2:s.levels.getD (gi s.l s.k).toNat 0=s.level-1):adn (lK s):=by
 obtain ⟨m1,m2,m3⟩:=kC hI c1 c2
 obtain ⟨o1,o2,o3⟩:=aoI hI c1
 obtain ⟨_,_,_,hT,hS⟩:=hI
 refine ⟨rfl,hS.bd,rfl,o2,fun r hr=>?_,by rw [m2];exact m3⟩
 have:=o3 r hr
 have hl:=hS.len
 show 0≤r∧r<(s.sums.length:Int)
 omega
theorem adY (s s':fH) (hI:mX s) (c1:s.k<s.m) (ht:(s'.sums,s'.levels,s'.some)=BP (gK s) s.bG s.eP s.aZ s.most s.level (s.sums,s.levels,s.some) (gi s.l s.k)) (hk:s'.k=IntKind.i64.wrap (s.k+1))
  (h_m:s'.m=s.m) (h_l:s'.l=s.l) (h_v:s'.level=s.level) (h_g:s'.eP=s.eP) (h_c:s'.ak=s.ak) (h_r:s'.bG=s.bG) (h_a:s'.aZ=s.aZ) (h_w:s'.most=s.most) (h_O:gK s'=gK s):
  (mX s'∧uZ s'<uZ s)∧(fun s:fH=>swp (gK s) s.bG s.eP s.aZ s.most s.level (s.sums,s.levels,s.some) (s.l.drop s.k.toNat)) s'=(fun s:fH=>swp (gK s) s.bG s.eP s.aZ s.most s.level (s.sums,s.levels,s.some) (s.l.drop s.k.toNat)) s:=by
 have hx:=uo s hI c1
 obtain ⟨⟨h0,h1⟩,⟨h2,h3,h4,h5⟩,h6,hT,hS⟩:=hI
 rw [aK (x:=s.k+1) (by omega) (by omega)] at hk
 have e1:s'.sums=(BP (gK s) s.bG s.eP s.aZ s.most s.level (s.sums,s.levels,s.some) (gi s.l s.k)).1:=congrArg (·.1) ht
 have e2:s'.levels=(BP (gK s) s.bG s.eP s.aZ s.most s.level (s.sums,s.levels,s.some) (gi s.l s.k)).2.1:=congrArg (·.2.1) ht
 refine ⟨⟨⟨⟨by omega,by omega⟩,⟨by rw [h_m,h_l];exact h2,by omega,by omega,by omega⟩,by rw [h_g,h_c];exact h6,by rw [h_O,h_r,h_g,h_a,h_w,h_l];exact hT,?_⟩,by simp only [uZ];omega⟩,?_⟩
 ·rw [h_r,h_l,e1,e2]
  exact aea hT hS hx.1 h4 h5
 ·simp only
  rw [h_O,h_r,h_g,h_a,h_w,h_v,h_l,ht,hk,(gi_step h0 (show s.k<s.l.length by omega)).1]
  rfl
theorem EU (s s':fH) (hI:mX s) (c1:s.k<s.m) (ht:(s'.sums,s'.levels,s'.some)=BP (gK s) s.bG s.eP s.aZ s.most s.level (s.sums,s.levels,s.some) (gi s.l s.k)) (hk:s'.k=IntKind.i64.wrap (s.k+1))
  (h_m:s'.m=s.m) (h_l:s'.l=s.l) (h_v:s'.level=s.level) (h_g:s'.eP=s.eP) (h_c:s'.ak=s.ak) (h_r:s'.bG=s.bG) (h_a:s'.aZ=s.aZ) (h_w:s'.most=s.most) (h_O:gK s'=gK s):bM (fun s'=>mX s'∧uZ s'<uZ s) (fun x s'=>abO x s s') (.next s'):=(adY s s' hI c1 ht hk h_m h_l h_v h_g h_c h_r h_a h_w h_O).1
theorem ET (s s':fH) (hI:mX s) (c1:s.k<s.m) (ht:(s'.sums,s'.levels,s'.some)=BP (gK s) s.bG s.eP s.aZ s.most s.level (s.sums,s.levels,s.some) (gi s.l s.k)) (hk:s'.k=IntKind.i64.wrap (s.k+1))
  (h_m:s'.m=s.m) (h_l:s'.l=s.l) (h_v:s'.level=s.level) (h_g:s'.eP=s.eP) (h_c:s'.ak=s.ak) (h_r:s'.bG=s.bG) (h_a:s'.aZ=s.aZ) (h_w:s'.most=s.most) (h_O:gK s'=gK s):bM (fun s'=>(fun s:fH=>swp (gK s) s.bG s.eP s.aZ s.most s.level (s.sums,s.levels,s.some) (s.l.drop s.k.toNat)) s'=(fun s:fH=>swp (gK s) s.bG s.eP s.aZ s.most s.level (s.sums,s.levels,s.some) (s.l.drop s.k.toNat)) s) (fun _ s'=>(fun s:fH=>swp (gK s) s.bG s.eP s.aZ s.most s.level (s.sums,s.levels,s.some) (s.l.drop s.k.toNat)) s'=(fun s:fH=>swp (gK s) s.bG s.eP s.aZ s.most s.level (s.sums,s.levels,s.some) (s.l.drop s.k.toNat)) s) (.next s'):=(adY s s' hI c1 ht hk h_m h_l h_v h_g h_c h_r h_a h_w h_O).2
theorem arU (s:fH) (hI:mX s):bM (fun s'=>mX s'∧uZ s'<uZ s) (fun x s'=>abO x s s') (ZL s):=by
 unfold ZL P9
 dsimp only [T.rd,T.rl]
 refine au (fun c1=>?_) (fun c1=>?_)
 ·refine au (fun c2=>?_) (fun c2=>?_)
  ·have c1:s.k<s.m:=by simpa using c1
   have hn:¬(s.levels.getD (gi s.l s.k).toNat 0=s.level-1∧s.level≤xJ s.eP (gi s.l s.k) (gi s.most (gi s.l s.k))):=fun h=>by
    obtain ⟨_,⟨h2,h3,h4,h5⟩,_⟩:=hI
    have c2:((s.levels.getD (gi s.l s.k).toNat 0) !=(IntKind.i64.wrap (s.level-1)))=true:=c2
    rw [aK (x:=s.level-1) (by omega) (by omega)] at c2
    have c2:¬s.levels.getD (gi s.l s.k).toNat 0=s.level-1:=by simpa using c2
    exact c2 h.1
   exact EU s _ hI (by simpa using c1) (by unfold BP;rw [if_neg hn]) rfl rfl rfl rfl rfl rfl rfl rfl rfl rfl
  ·refine au (fun c3=>?_) (fun c3=>?_)
   ·have c1:s.k<s.m:=by simpa using c1
    have hn:¬(s.levels.getD (gi s.l s.k).toNat 0=s.level-1∧s.level≤xJ s.eP (gi s.l s.k) (gi s.most (gi s.l s.k))):=fun h=>by
     obtain ⟨_,_,h6,_⟩:=hI
     simp only [decide_eq_true_eq] at c3
     rw [←h6] at c3
     have:=h.2
     unfold xJ at this
     omega
    exact EU s _ hI (by simpa using c1) (by unfold BP;rw [if_neg hn]) rfl rfl rfl rfl rfl rfl rfl rfl rfl rfl
   ·refine au (fun c4=>?_) (fun c4=>?_)
    ·refine au (fun c5=>?_) (fun c5=>?_)
     ·refine au (fun c6=>?_) (fun c6=>?_)
      ·cases c6
      ·have c1:s.k<s.m:=by simpa using c1
       have c2:=rJ hI c2
       have hp:s.levels.getD (gi s.l s.k).toNat 0=s.level-1∧s.level≤xJ s.eP (gi s.l s.k) (gi s.most (gi s.l s.k)):=by
        refine ⟨c2,?_⟩
        have h6:=hI.2.2.1
        simp only [decide_eq_false_iff_not] at c3
        rw [←h6] at c3
        unfold xJ
        omega
       have hE:=sO hI c1 c2
       obtain ⟨m1,m2,_⟩:=kC hI c1 c2
       rcases qM _ hE with ⟨q1,q2⟩ |⟨q1,q2,q3⟩
       ·rw [q1] at c4
        cases c4
       ·rw [m1] at q3
        have q3:((gK s).getD (gi s.l s.k).toNat []).all (zJ s.bG s.sums (JU s.eP s.aZ (gi s.l s.k) s.level))=false:=q3
        exact EU s _ hI (by simpa using c1) (by unfold BP;rw [if_pos hp,if_neg (by rw [q3];simp)]) rfl rfl rfl rfl rfl rfl rfl rfl rfl rfl
     ·refine au (fun c6=>?_) (fun c6=>?_)
      ·have c1:s.k<s.m:=by simpa using c1
       have c2:=rJ hI c2
       have hp:s.levels.getD (gi s.l s.k).toNat 0=s.level-1∧s.level≤xJ s.eP (gi s.l s.k) (gi s.most (gi s.l s.k)):=by
        refine ⟨c2,?_⟩
        have h6:=hI.2.2.1
        simp only [decide_eq_false_iff_not] at c3
        rw [←h6] at c3
        unfold xJ
        omega
       have hE:=sO hI c1 c2
       obtain ⟨m1,m2,_⟩:=kC hI c1 c2
       rcases qM _ hE with ⟨q1,q2⟩ |⟨q1,q2,q3⟩
       ·rw [q1] at c4
        cases c4
       ·rw [q2] at c5
        cases c5
      ·have c1:s.k<s.m:=by simpa using c1
       have c2:=rJ hI c2
       have hp:s.levels.getD (gi s.l s.k).toNat 0=s.level-1∧s.level≤xJ s.eP (gi s.l s.k) (gi s.most (gi s.l s.k)):=by
        refine ⟨c2,?_⟩
        have h6:=hI.2.2.1
        simp only [decide_eq_false_iff_not] at c3
        rw [←h6] at c3
        unfold xJ
        omega
       have hE:=sO hI c1 c2
       obtain ⟨m1,m2,_⟩:=kC hI c1 c2
       rcases qM _ hE with ⟨q1,q2⟩ |⟨q1,q2,q3⟩
       ·rw [q1] at c4
        cases c4
       ·rw [q2] at c5
        cases c5
    ·refine au (fun c5=>?_) (fun c5=>?_)
     ·refine au (fun c6=>?_) (fun c6=>?_)
      ·cases c5
      ·cases c5
     ·refine au (fun c6=>?_) (fun c6=>?_)
      ·have c1:s.k<s.m:=by simpa using c1
       have c2:=rJ hI c2
       have hp:s.levels.getD (gi s.l s.k).toNat 0=s.level-1∧s.level≤xJ s.eP (gi s.l s.k) (gi s.most (gi s.l s.k)):=by
        refine ⟨c2,?_⟩
        have h6:=hI.2.2.1
        simp only [decide_eq_false_iff_not] at c3
        rw [←h6] at c3
        unfold xJ
        omega
       have hE:=sO hI c1 c2
       obtain ⟨m1,m2,_⟩:=kC hI c1 c2
       have hR:=MR hI c1 c2
       rcases qM _ hE with ⟨q1,q2⟩ |⟨q1,q2,q3⟩
       ·rw [m1] at q2
        have q2:((gK s).getD (gi s.l s.k).toNat []).all (zJ s.bG s.sums (JU s.eP s.aZ (gi s.l s.k) s.level))=true:=q2
        have r1:=ad9 _ hR
        rw [m2] at r1
        have r1:(jX (lK s)).sums=yG s.sums (JU s.eP s.aZ (gi s.l s.k) s.level) ((gK s).getD (gi s.l s.k).toNat []):=r1
        have w1:=(QC hI c2).1
        exact EU s _ hI (by simpa using c1) (by unfold BP;rw [if_pos hp,if_pos q2,←r1,←w1]) rfl rfl rfl rfl rfl rfl rfl rfl rfl rfl
       ·rw [q1] at c4
        cases c4
      ·cases c6
 ·have c1:s.m≤s.k:=by simpa using c1
  have h0:=hI.1
  exact ⟨rfl,by omega⟩
def Jh:bQ fH:=⟨0,129,[2,3,4,12,14,15,16,66,67,68],[],aAG,azK,fun v b=>⟨aQ (.int .i64) (v.getD 0 .junk),aQ (.int .i64) (v.getD 1 .junk),gI (v.getD 3 .junk),gI (v.getD 5 .junk),vH (v.getD 6 .junk),aQ (.int .i64) (v.getD 7 .junk),gI (v.getD 8 .junk),gI (v.getD 9 .junk),aQ dW (aY (aO b 0) 0),aQ .str (aY (aO b 0) 1),aQ eu (aY (aO b 0) 2),aQ dQ (aY (aO b 0) 3),aQ eG (aY (aO b 0) 4),aQ dW (aY (aO b 1) 0),aQ .str (aY (aO b 1) 1),aQ eu (aY (aO b 1) 2),aQ dQ (aY (aO b 1) 3),aQ eG (aY (aO b 1) 4),aQ ER (aY (aO b 1) 5),aQ (.int .i64) (aY (aO b 1) 6),aQ (.int .i64) (aY (aO b 1) 7),aQ (.int .i64) (aY (aO b 1) 8),aQ (.int .i64) (aY (aO b 1) 9),aQ (.int .i64) (aY (aO b 1) 10),aQ (.int .i64) (aY (aO b 1) 11),aQ (.int .i64) (aY (aO b 1) 12),aQ (.int .i64) (aY (aO b 1) 13),aQ (.int .i64) (aY (aO b 1) 14),aQ (.int .i64) (aY (aO b 1) 15),aQ (.int .i64) (aY (aO b 1) 16),aQ (.int .i64) (aY (aO b 1) 17),aQ (.int .i64) (aY (aO b 1) 18),aQ (.int .i64) (aY (aO b 1) 19),aQ (.int .i64) (aY (aO b 1) 20),aQ (.int .i64) (aY (aO b 1) 21),aQ (.int .i64) (aY (aO b 1) 23),jk (.int .i64) (aO b 2),jk (.int .i64) (aO b 3)⟩,P9,fun s r=> {r with most:=s.most,order:=s.order,n:=s.n,level:=s.level,l:=s.l,m:=s.m,aj:=s.aj,aB:=s.aB,ai:=s.ai,ak:=s.ak,aJ:=s.aJ,xY:=s.xY,xW:=s.xW,xX:=s.xX,eP:=s.eP,xZ:=s.xZ,bG:=s.bG,jg:=s.jg,jf:=s.jf,je:=s.je,jd:=s.jd,jc:=s.jc,jb:=s.jb,ja:=s.ja,iZ:=s.iZ,iY:=s.iY,iW:=s.iW,dK:=s.dK,dJ:=s.dJ,dI:=s.dI,dH:=s.dH,dG:=s.dG,dF:=s.dF,aZ:=s.aZ},fun s=>s,fun _ s=>s,[.exit 2],Mc,mX,uZ⟩
abbrev dX:=Jh.run
abbrev anz:=Jh.jZ
abbrev avJ:=Jh.q
set_option maxRecDepth 100000 in
set_option maxHeartbeats 4000000 in
theorem asf (s:fH) (hI:mX s):(P9 s).all (fun _=>True):=by
 refine ⟨fun c1=>⟨?_,?_,?_,fun c2=>⟨⟨rfl,rfl⟩,⟨rfl,rfl⟩,trivial⟩,fun c2=>⟨?_,?_,?_,fun c3=>⟨⟨rfl,rfl⟩,⟨rfl,rfl⟩,trivial⟩,fun c3=>⟨?_,?_,?_,?_,?_,?_,?_,?_,⟨rfl,rfl⟩,⟨rfl,rfl⟩,?_,fun c4=>⟨fun c5=>⟨fun c6=>⟨⟨rfl,rfl⟩,⟨rfl,rfl⟩,trivial⟩,fun c6=>⟨⟨rfl,rfl⟩,⟨rfl,rfl⟩,trivial⟩⟩,fun c5=>⟨?_,⟨rfl,rfl⟩,⟨rfl,rfl⟩,?_,?_,?_,fun c7=>⟨⟨rfl,rfl⟩,?_,trivial⟩,fun c7=>⟨⟨rfl,rfl⟩,?_,trivial⟩⟩⟩,fun c4=>⟨fun c8=>⟨fun c9=>⟨⟨rfl,rfl⟩,⟨rfl,rfl⟩,trivial⟩,fun c9=>⟨⟨rfl,rfl⟩,⟨rfl,rfl⟩,trivial⟩⟩,fun c8=>⟨?_,⟨rfl,rfl⟩,⟨rfl,rfl⟩,?_,?_,?_,fun c10=>⟨⟨rfl,rfl⟩,?_,trivial⟩,fun c10=>⟨⟨rfl,rfl⟩,?_,trivial⟩⟩⟩⟩⟩⟩,fun c1=>⟨⟨rfl,rfl⟩,⟨rfl,rfl⟩,trivial⟩⟩
 ·(have:=hI.1;have:=hI.2.1.1;simp only [decide_eq_true_eq] at c1;omega)
 iterate 9 · (have hx:=uo s hI (by simpa using c1);omega)
 ·(have hx:=uo s hI (by simpa using c1);obtain ⟨w1,w2⟩:=QC hI (rJ hI c2);have hh:=fF.1 (hI.2.2.2.1.has _ hx.1);have hb:=hI.2.1;(first|rw [w2] |rw [w1]);omega)
 ·(have hx:=uo s hI (by simpa using c1);omega)
 ·(have hx:=uo s hI (by simpa using c1);obtain ⟨w1,w2⟩:=QC hI (rJ hI c2);have hh:=fF.1 (hI.2.2.2.1.has _ hx.1);have hb:=hI.2.1;(first|rw [w2] |rw [w1]);omega)
 ·(have hx:=uo s hI (by simpa using c1);omega)
 ·exact ⟨sO hI (by simpa using c1) (rJ hI c2),rfl,rfl⟩
 ·(have hx:=uo s hI (by simpa using c1);omega)
 ·exact ⟨MR hI (by simpa using c1) (rJ hI c2),rfl,rfl⟩
 iterate 2 · (have hx:=uo s hI (by simpa using c1);omega)
 iterate 2 · exact ⟨rfl,by simp⟩
 ·(have hx:=uo s hI (by simpa using c1);omega)
 ·exact ⟨MR hI (by simpa using c1) (rJ hI c2),rfl,rfl⟩
 iterate 2 · (have hx:=uo s hI (by simpa using c1);omega)
 iterate 2 · exact ⟨rfl,by simp⟩
noncomputable def ZE:Specs:=bf [(24,nG),(61,qg),(94,qf),(96,qc)]
theorem ahk:∀g S,ZE g=some S→Valid Tryz.prog aP g S:=aS (l:=[(24,nG),(61,qg),(94,qf),(96,qc)]) ⟨BI,FM,FK,FI,trivial⟩
noncomputable def apm:Hand:=inl Tryz.prog aP ZE (ku 97 4 8 (PK.lp) (ku 93 7 2 (xQ.lp) (ku 95 1 3 (vZ.lp) (ku 93 1 2 (uG.lp) (lJ Tryz.prog aP (ZE) 20 2))))) 9
theorem ays:dM Tryz.prog aP apm:=bT ahk (dL Tryz.func97 rfl (by kernel_rfl) UI (dL Tryz.func93 rfl (by kernel_rfl) ES (dL Tryz.func95 rfl (by kernel_rfl) yR (dL Tryz.func93 rfl (by kernel_rfl) wo (dP ahk))))) 9
theorem Ve:Jh.Ok:=⟨fun s=>by kernel_rfl,fun s=>by kernel_rfl,fun s=>rfl,fun s t r=>rfl,fun s=>rfl,fun s=>by kernel_rfl⟩
theorem UU:Jh.Pf (abO):=⟨axf,fun _ _=>rfl,arU,asf⟩
set_option maxRecDepth 100000 in
set_option maxHeartbeats 4000000 in
theorem akj:bg Tryz.prog aP (AN 0) (.loop zY) Jh.lp:=bQ.snd Ve UU (aU (Γ:=ZE) (K:=apm) (L:=aC) ahk ays zY (fun b hb=>by rw [show aF zY=[] by kernel_rfl] at hb;cases hb)) (fun s=>by kernel_rfl)
theorem ak5 (s:fH) (hE:Mc s):∃s',mX s'∧abO (anz s) s' (dX s):=bQ.fin Ve UU s hE
theorem adZ (s:fH) (hE:Mc s):(fun s:fH=>swp (gK s) s.bG s.eP s.aZ s.most s.level (s.sums,s.levels,s.some) (s.l.drop s.k.toNat)) (dX s)=(fun s:fH=>swp (gK s) s.bG s.eP s.aZ s.most s.level (s.sums,s.levels,s.some) (s.l.drop s.k.toNat)) s:=by
 exact bQ.uy Ve UU (fun s:fH=>swp (gK s) s.bG s.eP s.aZ s.most s.level (s.sums,s.levels,s.some) (s.l.drop s.k.toNat)) (fun s hI=>by
  show bM _ _ (ZL s)
  unfold ZL P9
  dsimp only [T.rd,T.rl]
  refine au (fun c1=>?_) (fun c1=>?_)
  ·refine au (fun c2=>?_) (fun c2=>?_)
   ·have c1:s.k<s.m:=by simpa using c1
    have hn:¬(s.levels.getD (gi s.l s.k).toNat 0=s.level-1∧s.level≤xJ s.eP (gi s.l s.k) (gi s.most (gi s.l s.k))):=fun h=>by
     obtain ⟨_,⟨h2,h3,h4,h5⟩,_⟩:=hI
     have c2:((s.levels.getD (gi s.l s.k).toNat 0) !=(IntKind.i64.wrap (s.level-1)))=true:=c2
     rw [aK (x:=s.level-1) (by omega) (by omega)] at c2
     have c2:¬s.levels.getD (gi s.l s.k).toNat 0=s.level-1:=by simpa using c2
     exact c2 h.1
    exact ET s _ hI (by simpa using c1) (by unfold BP;rw [if_neg hn]) rfl rfl rfl rfl rfl rfl rfl rfl rfl rfl
   ·refine au (fun c3=>?_) (fun c3=>?_)
    ·have c1:s.k<s.m:=by simpa using c1
     have hn:¬(s.levels.getD (gi s.l s.k).toNat 0=s.level-1∧s.level≤xJ s.eP (gi s.l s.k) (gi s.most (gi s.l s.k))):=fun h=>by
      obtain ⟨_,_,h6,_⟩:=hI
      simp only [decide_eq_true_eq] at c3
      rw [←h6] at c3
      have:=h.2
      unfold xJ at this
      omega
     exact ET s _ hI (by simpa using c1) (by unfold BP;rw [if_neg hn]) rfl rfl rfl rfl rfl rfl rfl rfl rfl rfl
    ·refine au (fun c4=>?_) (fun c4=>?_)
     ·refine au (fun c5=>?_) (fun c5=>?_)
      ·refine au (fun c6=>?_) (fun c6=>?_)
       ·cases c6
       ·have c1:s.k<s.m:=by simpa using c1
        have c2:=rJ hI c2
        have hp:s.levels.getD (gi s.l s.k).toNat 0=s.level-1∧s.level≤xJ s.eP (gi s.l s.k) (gi s.most (gi s.l s.k)):=by
         refine ⟨c2,?_⟩
         have h6:=hI.2.2.1
         simp only [decide_eq_false_iff_not] at c3
         rw [←h6] at c3
         unfold xJ
         omega
        have hE:=sO hI c1 c2
        obtain ⟨m1,m2,_⟩:=kC hI c1 c2
        rcases qM _ hE with ⟨q1,q2⟩ |⟨q1,q2,q3⟩
        ·rw [q1] at c4
         cases c4
        ·rw [m1] at q3
         have q3:((gK s).getD (gi s.l s.k).toNat []).all (zJ s.bG s.sums (JU s.eP s.aZ (gi s.l s.k) s.level))=false:=q3
         exact ET s _ hI (by simpa using c1) (by unfold BP;rw [if_pos hp,if_neg (by rw [q3];simp)]) rfl rfl rfl rfl rfl rfl rfl rfl rfl rfl
      ·refine au (fun c6=>?_) (fun c6=>?_)
       ·have c1:s.k<s.m:=by simpa using c1
        have c2:=rJ hI c2
        have hp:s.levels.getD (gi s.l s.k).toNat 0=s.level-1∧s.level≤xJ s.eP (gi s.l s.k) (gi s.most (gi s.l s.k)):=by
         refine ⟨c2,?_⟩
         have h6:=hI.2.2.1
         simp only [decide_eq_false_iff_not] at c3
         rw [←h6] at c3
         unfold xJ
         omega
        have hE:=sO hI c1 c2
        obtain ⟨m1,m2,_⟩:=kC hI c1 c2
        rcases qM _ hE with ⟨q1,q2⟩ |⟨q1,q2,q3⟩
        ·rw [q1] at c4
         cases c4
        ·rw [q2] at c5
         cases c5
       ·have c1:s.k<s.m:=by simpa using c1
        have c2:=rJ hI c2
        have hp:s.levels.getD (gi s.l s.k).toNat 0=s.level-1∧s.level≤xJ s.eP (gi s.l s.k) (gi s.most (gi s.l s.k)):=by
         refine ⟨c2,?_⟩
         have h6:=hI.2.2.1
         simp only [decide_eq_false_iff_not] at c3
         rw [←h6] at c3
         unfold xJ
         omega
        have hE:=sO hI c1 c2
        obtain ⟨m1,m2,_⟩:=kC hI c1 c2
        rcases qM _ hE with ⟨q1,q2⟩ |⟨q1,q2,q3⟩
        ·rw [q1] at c4
         cases c4
        ·rw [q2] at c5
         cases c5
     ·refine au (fun c5=>?_) (fun c5=>?_)
      ·refine au (fun c6=>?_) (fun c6=>?_)
       ·cases c5
       ·cases c5
      ·refine au (fun c6=>?_) (fun c6=>?_)
       ·have c1:s.k<s.m:=by simpa using c1
        have c2:=rJ hI c2
        have hp:s.levels.getD (gi s.l s.k).toNat 0=s.level-1∧s.level≤xJ s.eP (gi s.l s.k) (gi s.most (gi s.l s.k)):=by
         refine ⟨c2,?_⟩
         have h6:=hI.2.2.1
         simp only [decide_eq_false_iff_not] at c3
         rw [←h6] at c3
         unfold xJ
         omega
        have hE:=sO hI c1 c2
        obtain ⟨m1,m2,_⟩:=kC hI c1 c2
        have hR:=MR hI c1 c2
        rcases qM _ hE with ⟨q1,q2⟩ |⟨q1,q2,q3⟩
        ·rw [m1] at q2
         have q2:((gK s).getD (gi s.l s.k).toNat []).all (zJ s.bG s.sums (JU s.eP s.aZ (gi s.l s.k) s.level))=true:=q2
         have r1:=ad9 _ hR
         rw [m2] at r1
         have r1:(jX (lK s)).sums=yG s.sums (JU s.eP s.aZ (gi s.l s.k) s.level) ((gK s).getD (gi s.l s.k).toNat []):=r1
         have w1:=(QC hI c2).1
         exact ET s _ hI (by simpa using c1) (by unfold BP;rw [if_pos hp,if_pos q2,←r1,←w1]) rfl rfl rfl rfl rfl rfl rfl rfl rfl rfl
        ·rw [q1] at c4
         cases c4
       ·cases c6
  ·rfl) s hE
theorem ak4 (s:fH) (hE:Mc s):((dX s).sums,(dX s).levels,(dX s).some)=swp (gK s) s.bG s.eP s.aZ s.most s.level (s.sums,s.levels,s.some) s.l:=by
 have q3:=adZ s hE
 obtain ⟨s',hI,q1,q2⟩:=ak5 s hE
 obtain ⟨h0,h1,_⟩:=hE
 simp only at q3
 rw [q2,show (dX s).m=s.m from rfl,show (dX s).l=s.l from rfl,List.drop_eq_nil_of_le (by omega),h0] at q3
 exact q3
end Go.Proofs.YtlihnbimgclogaaGreatDoor
namespace Go.Proofs.YtlihnbimgclogaaGreatDoor
open Go.Sx
structure lg where
 most:List Int
 order:List Int
 n:Int
 level:Int
 aj:List Cd
 aB:List ByteArray
 ai:List Ko
 ak:List Ch
 aJ:List Ba
 xY:List Cd
 xW:List ByteArray
 xX:List Ko
 eP:List Ch
 xZ:List Ba
 bG:List Rw
 jg:List Int
 jf:List Int
 je:List Int
 jd:List Int
 jc:List Int
 jb:List Int
 ja:List Int
 iZ:List Int
 iY:List Int
 iW:List Int
 dK:List Int
 dJ:List Int
 dI:List Int
 dH:List Int
 dG:List Int
 dF:List Int
 aZ:List Int
 sums:List Int
 levels:List Int
def aAF (s:lg):List LV:=[.xl (.int .i64) s.most,.xl (.int .i64) s.order,.own 0 0,.v (.int .i64 s.n),.own 1 0,.v (.int .i64 s.level)]
def azJ (s:lg):List aT:=[⟨[.xl dW s.aj,.xl .str s.aB,.xl eu s.ai,.xl dQ s.ak,.xl eG s.aJ],28,.cl,false⟩,⟨[.xl dW s.xY,.xl .str s.xW,.xl eu s.xX,.xl dQ s.eP,.xl eG s.xZ,.xl ER s.bG,.xl (.int .i64) s.jg,.xl (.int .i64) s.jf,.xl (.int .i64) s.je,.xl (.int .i64) s.jd,.xl (.int .i64) s.jc,.xl (.int .i64) s.jb,.xl (.int .i64) s.ja,.xl (.int .i64) s.iZ,.xl (.int .i64) s.iY,.xl (.int .i64) s.iW,.xl (.int .i64) s.dK,.xl (.int .i64) s.dJ,.xl (.int .i64) s.dI,.xl (.int .i64) s.dH,.xl (.int .i64) s.dG,.xl (.int .i64) s.dF,.os 2 1 0 (List.length s.sums),.xl (.int .i64) s.aZ,.os 3 1 0 (List.length s.levels)],148,.cl,false⟩,⟨[],3,.vec (.int .i64) s.sums,false⟩,⟨[],3,.vec (.int .i64) s.levels,false⟩]
noncomputable def Ih:Code:=((aF (Tryz.f52.body.getD .skip))[0]?).getD .skip
def fZ (s:lg):fH:=(⟨s.most,s.order,s.n,s.level,false,s.order,(List.length s.order:Int),(0:Int),s.aj,s.aB,s.ai,s.ak,s.aJ,s.xY,s.xW,s.xX,s.eP,s.xZ,s.bG,s.jg,s.jf,s.je,s.jd,s.jc,s.jb,s.ja,s.iZ,s.iY,s.iW,s.dK,s.dJ,s.dI,s.dH,s.dG,s.dF,s.aZ,s.sums,s.levels⟩:fH)
def P8 (s:lg):T (Rd lg):=
 .rl s.sums (.rl s.levels (.req (avJ (fZ s)) (.br (!(dX (fZ s)).some) (.rl (dX (fZ s)).sums (.rl (dX (fZ s)).levels (.ok (.stop (.exit 0) {s with sums:=(dX (fZ s)).sums,levels:=(dX (fZ s)).levels})))) (.rl (dX (fZ s)).sums (.rl (dX (fZ s)).levels (.ok (.next {s with level:=(IntKind.i64.wrap (s.level+1)),sums:=(dX (fZ s)).sums,levels:=(dX (fZ s)).levels})))))))
abbrev ZK (s:lg):=(P8 s).rd s
def rY (s:lg):List (List Int):=[s.jg,s.jf,s.je,s.jd,s.jc,s.jb,s.ja,s.iZ,s.iY,s.iW,s.dK,s.dJ,s.dI,s.dH,s.dG,s.dF]
def abX (s:lg):Prop:=s.level=1∧(s.order.length:Int)≤1000∧s.eP=s.ak∧OkT (rY s) s.bG s.eP s.aZ s.most s.order∧OkS s.bG s.order s.sums s.levels
def IQ (s:lg):Prop:=(1≤s.level∧s.level≤81)∧(s.order.length:Int)≤1000∧s.eP=s.ak∧OkT (rY s) s.bG s.eP s.aZ s.most s.order∧OkS s.bG s.order s.sums s.levels
def Ns (s:lg):Nat:=(82-s.level).toNat
def aqx (x:Ex) (_ _:lg):Prop:=x=.exit 0
theorem axe:∀s,abX s→IQ s:=by
 intro s h
 obtain ⟨h0,h1⟩:=h
 exact ⟨by omega,h1⟩
theorem adW (s:lg) (hI:IQ s):Mc (fZ s):=by
 obtain ⟨⟨h0,h1⟩,h2,h3,hT,hS⟩:=hI
 exact ⟨rfl,⟨rfl,h2,h0,h1⟩,h3,hT,hS⟩
theorem aoH (s:lg) (hI:IQ s):((dX (fZ s)).sums,(dX (fZ s)).levels,(dX (fZ s)).some)=swp (rY s) s.bG s.eP s.aZ s.most s.level (s.sums,s.levels,false) s.order:=ak4 _ (adW s hI)
theorem arT (s:lg) (hI:IQ s):bM (fun s'=>IQ s'∧Ns s'<Ns s) (fun x s'=>aqx x s s') (ZK s):=by
 unfold ZK P8
 dsimp only [T.rd,T.rl]
 have hr:=aoH s hI
 obtain ⟨⟨h0,h1⟩,h2,h3,hT,hS⟩:=hI
 refine au (fun c1=>rfl) (fun c1=>?_)
 have c1:(dX (fZ s)).some=true:=by simpa using c1
 have hk:=UG hT h0 h1 s.order (s.sums,s.levels,false) (fun _ h=>h) hS
 have hs:=yQ (O:=rY s) (rows:=s.bG) (gs:=s.eP) (alive:=s.aZ) (most:=s.most) (level:=s.level) s.order (s.sums,s.levels,false)
 rw [←hr] at hk hs
 have h80:s.level≤80:=by
  rcases hs c1 with h|h
  ·cases h
  ·exact h
 rw [aK (x:=s.level+1) (by omega) (by omega)]
 exact ⟨⟨⟨by simp only;omega,by simp only;omega⟩,h2,h3,hT,hk⟩,by simp only [Ns];omega⟩
def Jg:bQ lg:=⟨0,129,[2,3,4,12,14,15],[.ps 14 6 (.int .i64),.ps 14 7 (.int .i64),.ps 14 8 (.int .i64),.ps 14 9 (.int .i64),.ps 14 10 (.int .i64),.ps 14 11 (.int .i64),.ps 14 12 (.int .i64),.ps 14 13 (.int .i64),.ps 14 14 (.int .i64),.ps 14 15 (.int .i64),.ps 14 16 (.int .i64),.ps 14 17 (.int .i64),.ps 14 18 (.int .i64),.ps 14 19 (.int .i64),.ps 14 20 (.int .i64),.ps 14 21 (.int .i64)],aAF,azJ,fun v b=>⟨aQ (.int .i64) (v.getD 0 .junk),aQ (.int .i64) (v.getD 1 .junk),gI (v.getD 3 .junk),gI (v.getD 5 .junk),aQ dW (aY (aO b 0) 0),aQ .str (aY (aO b 0) 1),aQ eu (aY (aO b 0) 2),aQ dQ (aY (aO b 0) 3),aQ eG (aY (aO b 0) 4),aQ dW (aY (aO b 1) 0),aQ .str (aY (aO b 1) 1),aQ eu (aY (aO b 1) 2),aQ dQ (aY (aO b 1) 3),aQ eG (aY (aO b 1) 4),aQ ER (aY (aO b 1) 5),aQ (.int .i64) (aY (aO b 1) 6),aQ (.int .i64) (aY (aO b 1) 7),aQ (.int .i64) (aY (aO b 1) 8),aQ (.int .i64) (aY (aO b 1) 9),aQ (.int .i64) (aY (aO b 1) 10),aQ (.int .i64) (aY (aO b 1) 11),aQ (.int .i64) (aY (aO b 1) 12),aQ (.int .i64) (aY (aO b 1) 13),aQ (.int .i64) (aY (aO b 1) 14),aQ (.int .i64) (aY (aO b 1) 15),aQ (.int .i64) (aY (aO b 1) 16),aQ (.int .i64) (aY (aO b 1) 17),aQ (.int .i64) (aY (aO b 1) 18),aQ (.int .i64) (aY (aO b 1) 19),aQ (.int .i64) (aY (aO b 1) 20),aQ (.int .i64) (aY (aO b 1) 21),aQ (.int .i64) (aY (aO b 1) 23),jk (.int .i64) (aO b 2),jk (.int .i64) (aO b 3)⟩,P8,fun s r=> {r with most:=s.most,order:=s.order,n:=s.n,aj:=s.aj,aB:=s.aB,ai:=s.ai,ak:=s.ak,aJ:=s.aJ,xY:=s.xY,xW:=s.xW,xX:=s.xX,eP:=s.eP,xZ:=s.xZ,bG:=s.bG,jg:=s.jg,jf:=s.jf,je:=s.je,jd:=s.jd,jc:=s.jc,jb:=s.jb,ja:=s.ja,iZ:=s.iZ,iY:=s.iY,iW:=s.iW,dK:=s.dK,dJ:=s.dJ,dI:=s.dI,dH:=s.dH,dG:=s.dG,dF:=s.dF,aZ:=s.aZ},fun s=>s,fun _ s=>s,[.exit 0],abX,IQ,Ns⟩
abbrev iH:=Jg.run
abbrev PE:=Jg.q
theorem ase (s:lg) (hI:IQ s):(P8 s).all (fun _=>True):=by
 refine ⟨⟨rfl,rfl⟩,⟨rfl,rfl⟩,?_,fun c1=>⟨⟨rfl,rfl⟩,⟨rfl,rfl⟩,trivial⟩,fun c1=>⟨⟨rfl,rfl⟩,⟨rfl,rfl⟩,trivial⟩⟩
 ·exact ⟨adW s hI,rfl,rfl⟩
noncomputable def RG:Specs:=bf [(24,nG),(61,qg),(94,qf),(96,qc)]
theorem Zz:∀g S,RG g=some S→Valid Tryz.prog aP g S:=aS (l:=[(24,nG),(61,qg),(94,qf),(96,qc)]) ⟨BI,FM,FK,FI,trivial⟩
noncomputable def ag8:Hand:=inl Tryz.prog aP RG (ku 97 4 8 (PK.lp) (ku 93 7 2 (xQ.lp) (ku 95 1 3 (vZ.lp) (ku 93 1 2 (uG.lp) (lJ Tryz.prog aP (RG) 20 2))))) 9
theorem ao9:dM Tryz.prog aP ag8:=bT Zz (dL Tryz.func97 rfl (by kernel_rfl) UI (dL Tryz.func93 rfl (by kernel_rfl) ES (dL Tryz.func95 rfl (by kernel_rfl) yR (dL Tryz.func93 rfl (by kernel_rfl) wo (dP Zz))))) 9
theorem afs:Jg.Ok:=⟨fun s=>by kernel_rfl,fun s=>by kernel_rfl,fun s=>rfl,fun s t r=>rfl,fun s=>rfl,fun s=>by kernel_rfl⟩
theorem aeu:Jg.Pf (aqx):=⟨axe,fun _ _=>rfl,arT,ase⟩
theorem aki:bg Tryz.prog aP (AN 0) (.loop Ih) Jg.lp:=bQ.snd afs aeu (aU (Γ:=RG) (K:=ag8) (L:=(fun i=>if i=13 then Jh.lp else aC i)) Zz ao9 Ih (fun b hb=>by
 rw [show aF _=[zY] by kernel_rfl] at hb
 simp only [List.mem_cons,List.not_mem_nil,or_false] at hb
 subst hb
 exact akj)) (fun s=>by kernel_rfl)
theorem ak3 (s:lg) (hE:abX s):(iH s).levels=shl (rY s) s.bG s.eP s.aZ s.most s.order 81 1 s.sums s.levels:=by
 have hk:=bQ.xB afs aeu (V:=fun s:lg=>shl (rY s) s.bG s.eP s.aZ s.most s.order (82-s.level).toNat s.level s.sums s.levels) (K:=fun _ s' v=>s'.levels=v) (fun s hI=>by
  have hr:=aoH s hI
  have hs:=yQ (O:=rY s) (rows:=s.bG) (gs:=s.eP) (alive:=s.aZ) (most:=s.most) (level:=s.level) s.order (s.sums,s.levels,false)
  obtain ⟨⟨h0,h1⟩,h2,h3,hT,hS⟩:=hI
  rw [←hr] at hs
  have hf:(82-s.level).toNat=(81-s.level).toNat+1:=by omega
  show bM _ _ (ZK s)
  unfold ZK P8
  dsimp only [T.rd,T.rl]
  refine au (fun c1=>?_) (fun c1=>?_)
  ·have c1:(dX (fZ s)).some=false:=by simpa using c1
   show (dX (fZ s)).levels=shl _ _ _ _ _ _ _ _ _ _
   rw [hf,shl,←hr,if_neg (by simp only [c1];simp)]
  ·have c1:(dX (fZ s)).some=true:=by simpa using c1
   have h80:s.level≤80:=by
    rcases hs c1 with h|h
    ·cases h
    ·exact h
   rw [aK (x:=s.level+1) (by omega) (by omega)]
   show shl (rY s) s.bG s.eP s.aZ s.most s.order (82-(s.level+1)).toNat (s.level+1) (dX (fZ s)).sums (dX (fZ s)).levels=shl (rY s) s.bG s.eP s.aZ s.most s.order (82-s.level).toNat s.level s.sums s.levels
   rw [hf,show 82-(s.level+1)=81-s.level by omega]
   conv=>rhs;rw [shl,←hr]
   simp only [c1,if_true]) s hE
 rw [hk,hE.1]
 rfl
structure qh where
 l:List Ch
 m:Int
 k:Int
 xY:List Cd
 xW:List ByteArray
 xX:List Ko
 eP:List Ch
 xZ:List Ba
 bG:List Rw
 jg:List Int
 jf:List Int
 je:List Int
 jd:List Int
 jc:List Int
 jb:List Int
 ja:List Int
 iZ:List Int
 iY:List Int
 iW:List Int
 dK:List Int
 dJ:List Int
 dI:List Int
 dH:List Int
 dG:List Int
 dF:List Int
 aZ:List Int
 out:List Int
 sums:List Int
 levels:List Int
def aAE (s:qh):List LV:=[.own 0 0,.os 1 1 0 (List.length s.out),.xl dQ s.l,.v (.int .i64 s.m),.v (.int .i64 s.k)]
def azI (s:qh):List aT:=[⟨[.xl dW s.xY,.xl .str s.xW,.xl eu s.xX,.xl dQ s.eP,.xl eG s.xZ,.xl ER s.bG,.xl (.int .i64) s.jg,.xl (.int .i64) s.jf,.xl (.int .i64) s.je,.xl (.int .i64) s.jd,.xl (.int .i64) s.jc,.xl (.int .i64) s.jb,.xl (.int .i64) s.ja,.xl (.int .i64) s.iZ,.xl (.int .i64) s.iY,.xl (.int .i64) s.iW,.xl (.int .i64) s.dK,.xl (.int .i64) s.dJ,.xl (.int .i64) s.dI,.xl (.int .i64) s.dH,.xl (.int .i64) s.dG,.xl (.int .i64) s.dF,.os 2 1 0 (List.length s.sums),.xl (.int .i64) s.aZ,.os 3 1 0 (List.length s.levels)],148,.cl,false⟩,⟨[],3,.vec (.int .i64) s.out,false⟩,⟨[],3,.vec (.int .i64) s.sums,false⟩,⟨[],3,.vec (.int .i64) s.levels,false⟩]
noncomputable def zX:Code:=((aF (Tryz.f52.body.getD .skip))[1]?).getD .skip
def X7 (s:qh):T (Rd qh):=
 .br (decide (s.k<s.m)) (.req (0≤s.k∧s.k<(List.length s.l:Int)) (.req (0≤s.k∧s.k<((List.length s.levels:Nat):Int)) (.req (s.k.toNat<List.length s.levels) (.req ((1≤(bC s.l s.k).2.2.2.1∧(bC s.l s.k).2.2.2.1≤80∧1≤(bC s.l s.k).2.2.2.2.2.1∧(bC s.l s.k).2.2.2.2.2.1≤80)∧0≤(s.levels.getD s.k.toNat (Ty.dflt (.int .i64)))∧(s.levels.getD s.k.toNat (Ty.dflt (.int .i64)))≤1000) (.req (0≤s.k∧s.k<((List.length s.out:Nat):Int)) (.req (s.k.toNat<List.length s.out) (.req (0=0∧(List.length s.out)=List.length (s.out.set s.k.toNat (BH (bC s.l s.k).2.2.2.1 (bC s.l s.k).2.2.2.2.2.1 (s.levels.getD s.k.toNat (Ty.dflt (.int .i64)))))) (.rl s.sums (.rl s.levels (.ok (.next {s with k:=(IntKind.i64.wrap (s.k+1)),out:=(s.out.set s.k.toNat (BH (bC s.l s.k).2.2.2.1 (bC s.l s.k).2.2.2.2.2.1 (s.levels.getD s.k.toNat (Ty.dflt (.int .i64)))))}))))))))))) (.rl s.out (.rl s.sums (.rl s.levels (.ok (.stop (.exit 4) s)))))
abbrev ap0 (s:qh):=(X7 s).rd s
def abW (s:qh):Prop:=s.k=0∧s.out=List.replicate s.l.length 0∧(s.m=(s.l.length:Int)∧s.m≤1000∧s.levels.length=s.l.length)∧(∀k:Int,0≤k→k<s.m→lX (bC s.l k).2.2.2.1 (bC s.l k).2.2.2.2.1 (bC s.l k).2.2.2.2.2.1=true)∧(∀k:Nat,0≤s.levels.getD k 0∧s.levels.getD k 0≤80)
def KT (s:qh):Prop:=(0≤s.k∧s.k≤s.m)∧s.out=WI s.l s.levels s.k.toNat++List.replicate (s.l.length-s.k.toNat) 0∧(s.m=(s.l.length:Int)∧s.m≤1000∧s.levels.length=s.l.length)∧(∀k:Int,0≤k→k<s.m→lX (bC s.l k).2.2.2.1 (bC s.l k).2.2.2.2.1 (bC s.l k).2.2.2.2.2.1=true)∧(∀k:Nat,0≤s.levels.getD k 0∧s.levels.getD k 0≤80)
def Nr (s:qh):Nat:=(s.m-s.k).toNat
def aiO (x:Ex) (_ s':qh):Prop:=x=.exit 4∧s'.out=oI s'.l s'.levels
theorem axd:∀s,abW s→KT s:=by
 intro s h
 obtain ⟨h0,h1,h2⟩:=h
 exact ⟨by have:=h2.1;omega,by rw [h0,h1];rfl,h2⟩
theorem arS (s:qh) (hI:KT s):bM (fun s'=>KT s'∧Nr s'<Nr s) (fun x s'=>aiO x s s') (ap0 s):=by
 unfold ap0 X7
 dsimp only [T.rd,T.rl]
 obtain ⟨⟨h0,h1⟩,h2,⟨h3,h4,h5⟩,h6,h7⟩:=hI
 refine au (fun c1=>?_) (fun c1=>?_)
 ·have c1:s.k<s.m:=by simpa using c1
  rw [aK (x:=s.k+1) (by omega) (by omega)]
  refine ⟨⟨⟨by simp only;omega,by simp only;omega⟩,?_,⟨h3,h4,h5⟩,h6,h7⟩,by simp only [Nr];omega⟩
  simp only
  have e:s.l.length-s.k.toNat=(s.l.length-(s.k+1).toNat)+1:=by omega
  have hs:=YG (xs:=WI s.l s.levels s.k.toNat) (r:=s.l.length-(s.k+1).toNat) (v:=xg s.l s.k (s.levels.getD s.k.toNat 0))
  rw [vN] at hs
  rw [h2,e,show (s.k+1).toNat=s.k.toNat+1 by omega,ac9,Int.toNat_of_nonneg h0]
  rw [show (s.k+1).toNat=s.k.toNat+1 by omega] at hs
  exact hs
 ·have c1:s.m≤s.k:=by simpa using c1
  refine ⟨rfl,?_⟩
  rw [h2,show s.k.toNat=s.l.length by omega,Nat.sub_self,List.replicate_zero,List.append_nil]
  rfl
def DW:bQ qh:=⟨0,129,[14,19,108,109,110],[],aAE,azI,fun v b=>⟨aQ dQ (v.getD 2 .junk),gI (v.getD 3 .junk),gI (v.getD 4 .junk),aQ dW (aY (aO b 0) 0),aQ .str (aY (aO b 0) 1),aQ eu (aY (aO b 0) 2),aQ dQ (aY (aO b 0) 3),aQ eG (aY (aO b 0) 4),aQ ER (aY (aO b 0) 5),aQ (.int .i64) (aY (aO b 0) 6),aQ (.int .i64) (aY (aO b 0) 7),aQ (.int .i64) (aY (aO b 0) 8),aQ (.int .i64) (aY (aO b 0) 9),aQ (.int .i64) (aY (aO b 0) 10),aQ (.int .i64) (aY (aO b 0) 11),aQ (.int .i64) (aY (aO b 0) 12),aQ (.int .i64) (aY (aO b 0) 13),aQ (.int .i64) (aY (aO b 0) 14),aQ (.int .i64) (aY (aO b 0) 15),aQ (.int .i64) (aY (aO b 0) 16),aQ (.int .i64) (aY (aO b 0) 17),aQ (.int .i64) (aY (aO b 0) 18),aQ (.int .i64) (aY (aO b 0) 19),aQ (.int .i64) (aY (aO b 0) 20),aQ (.int .i64) (aY (aO b 0) 21),aQ (.int .i64) (aY (aO b 0) 23),jk (.int .i64) (aO b 1),jk (.int .i64) (aO b 2),jk (.int .i64) (aO b 3)⟩,X7,fun s r=> {r with l:=s.l,m:=s.m,xY:=s.xY,xW:=s.xW,xX:=s.xX,eP:=s.eP,xZ:=s.xZ,bG:=s.bG,jg:=s.jg,jf:=s.jf,je:=s.je,jd:=s.jd,jc:=s.jc,jb:=s.jb,ja:=s.ja,iZ:=s.iZ,iY:=s.iY,iW:=s.iW,dK:=s.dK,dJ:=s.dJ,dI:=s.dI,dH:=s.dH,dG:=s.dG,dF:=s.dF,aZ:=s.aZ,sums:=s.sums,levels:=s.levels},fun s=>s,fun _ s=>s,[.exit 4],abW,KT,Nr⟩
abbrev gX:=DW.run
abbrev anx:=DW.jZ
abbrev PD:=DW.q
theorem asc (s:qh) (hI:KT s):(X7 s).all (fun _=>True):=by
 refine ⟨fun c1=>⟨?_,?_,?_,?_,?_,?_,?_,⟨rfl,rfl⟩,⟨rfl,rfl⟩,trivial⟩,fun c1=>⟨⟨rfl,rfl⟩,⟨rfl,rfl⟩,⟨rfl,rfl⟩,trivial⟩⟩
 iterate 3 · (obtain ⟨⟨h0,h1⟩,h2,⟨h3,h4,h5⟩,h6,h7⟩:=hI;(try simp only [decide_eq_true_eq] at c1);have hl:s.out.length=s.l.length:=(by rw [h2,List.length_append,vN,List.length_replicate];omega);first|omega|exact ⟨rfl,by simp⟩ |exact ⟨rfl,rfl⟩)
 ·(have hh:=fF.1 (hI.2.2.2.1 s.k hI.1.1 (by simpa using c1));have hb:=hI.2.2.2.2 s.k.toNat;refine ⟨by omega,?_⟩;show 0≤s.levels.getD s.k.toNat 0∧s.levels.getD s.k.toNat 0≤1000;omega)
 iterate 3 · (obtain ⟨⟨h0,h1⟩,h2,⟨h3,h4,h5⟩,h6,h7⟩:=hI;(try simp only [decide_eq_true_eq] at c1);have hl:s.out.length=s.l.length:=(by rw [h2,List.length_append,vN,List.length_replicate];omega);first|omega|exact ⟨rfl,by simp⟩ |exact ⟨rfl,rfl⟩)
theorem afr:DW.Ok:=⟨fun s=>by kernel_rfl,fun s=>by kernel_rfl,fun s=>rfl,fun s t r=>rfl,fun s=>rfl,fun s=>by kernel_rfl⟩
theorem aes:DW.Pf (aiO):=⟨axd,fun _ _=>rfl,arS,asc⟩
theorem akh:bg Tryz.prog aP (AN 0) (.loop zX) DW.lp:=bQ.snd afr aes (aU (Γ:=RG) (K:=ag8) (L:=aC) Zz ao9 zX (fun b hb=>by rw [show aF zX=[] by kernel_rfl] at hb;cases hb)) (fun s=>by kernel_rfl)
theorem ak2 (s:qh) (hE:abW s):∃s',KT s'∧aiO (anx s) s' (gX s):=bQ.fin afr aes s hE
end Go.Proofs.YtlihnbimgclogaaGreatDoor
namespace Go.Proofs.YtlihnbimgclogaaGreatDoor
open Go.Sx
def aaX:List LV→T LV
 | [.agg [.xl (.pair .str (.pair (.int .i64) (.pair (.int .i64) (.pair (.int .i64) (.pair (.pair (.int .i64) (.int .i64)) (.pair (.int .i64) (.pair (.int .i64) (.pair (.int .i64) (.pair (.int .i64) (.int .i64)))))))))) cs,.xl (.str) os,.xl (.pair .str (.pair (.int .i64) (.pair (.int .i64) (.int .i64)))) ks,.xl (.pair .str (.pair (.int .i64) (.pair (.int .i64) (.pair (.int .i64) (.pair (.int .i64) (.pair (.int .i64) (.pair (.int .i64) (.int .i64)))))))) gs,.xl (.pair .str (.int .i64)) bs],.xl (.int .i64) al,.xl (.int .i64) mo,.xl (.int .i64) od]=> .ok (.gV [.xl (.int .i64) (xH cs os ks gs bs al mo od),.v (.int .i64 (shE cs os ks gs bs al mo od))])
 |_=> .no
noncomputable def Iy:List LV→T LV:=gW Tryz.prog Tryz.f52.params.toList aaX
def ay (cs:List Cd) (os:List ByteArray) (ks:List Ko) (gs:List Ch) (bs:List Ba) (al _ _:List Int):gQ:=(⟨al,(gY cs os ks gs bs),(List.length (gY cs os ks gs bs):Int),(0:Int),cs,os,ks,gs,bs,cs,os,ks,gs,bs,(gY cs os ks gs bs),al,([]:List Int),([]:List Int),([]:List Int),([]:List Int),([]:List Int),([]:List Int),([]:List Int),([]:List Int),([]:List Int),([]:List Int),([]:List Int),([]:List Int),([]:List Int),([]:List Int),([]:List Int),([]:List Int),(List.replicate (List.length (gY cs os ks gs bs):Int).toNat (0:Int)),(List.replicate (List.length al:Int).toNat (0:Int))⟩:gQ)
def eX (cs:List Cd) (os:List ByteArray) (ks:List Ko) (gs:List Ch) (bs:List Ba) (al mo od:List Int):lg:=(⟨mo,od,(List.length gs:Int),(1:Int),cs,os,ks,gs,bs,cs,os,ks,gs,bs,(gY cs os ks gs bs),(((ax (ay cs os ks gs bs al mo od)).jg.drop 0).take (List.length (ax (ay cs os ks gs bs al mo od)).jg)),(((ax (ay cs os ks gs bs al mo od)).jf.drop 0).take (List.length (ax (ay cs os ks gs bs al mo od)).jf)),(((ax (ay cs os ks gs bs al mo od)).je.drop 0).take (List.length (ax (ay cs os ks gs bs al mo od)).je)),(((ax (ay cs os ks gs bs al mo od)).jd.drop 0).take (List.length (ax (ay cs os ks gs bs al mo od)).jd)),(((ax (ay cs os ks gs bs al mo od)).jc.drop 0).take (List.length (ax (ay cs os ks gs bs al mo od)).jc)),(((ax (ay cs os ks gs bs al mo od)).jb.drop 0).take (List.length (ax (ay cs os ks gs bs al mo od)).jb)),(((ax (ay cs os ks gs bs al mo od)).ja.drop 0).take (List.length (ax (ay cs os ks gs bs al mo od)).ja)),(((ax (ay cs os ks gs bs al mo od)).iZ.drop 0).take (List.length (ax (ay cs os ks gs bs al mo od)).iZ)),(((ax (ay cs os ks gs bs al mo od)).iY.drop 0).take (List.length (ax (ay cs os ks gs bs al mo od)).iY)),(((ax (ay cs os ks gs bs al mo od)).iW.drop 0).take (List.length (ax (ay cs os ks gs bs al mo od)).iW)),(((ax (ay cs os ks gs bs al mo od)).dK.drop 0).take (List.length (ax (ay cs os ks gs bs al mo od)).dK)),(((ax (ay cs os ks gs bs al mo od)).dJ.drop 0).take (List.length (ax (ay cs os ks gs bs al mo od)).dJ)),(((ax (ay cs os ks gs bs al mo od)).dI.drop 0).take (List.length (ax (ay cs os ks gs bs al mo od)).dI)),(((ax (ay cs os ks gs bs al mo od)).dH.drop 0).take (List.length (ax (ay cs os ks gs bs al mo od)).dH)),(((ax (ay cs os ks gs bs al mo od)).dG.drop 0).take (List.length (ax (ay cs os ks gs bs al mo od)).dG)),(((ax (ay cs os ks gs bs al mo od)).dF.drop 0).take (List.length (ax (ay cs os ks gs bs al mo od)).dF)),al,(ax (ay cs os ks gs bs al mo od)).sums,(List.replicate (List.length al:Int).toNat (0:Int))⟩:lg)
def fK (cs:List Cd) (os:List ByteArray) (ks:List Ko) (gs:List Ch) (bs:List Ba) (al mo od:List Int):qh:=(⟨gs,(List.length gs:Int),(0:Int),cs,os,ks,gs,bs,(gY cs os ks gs bs),(((ax (ay cs os ks gs bs al mo od)).jg.drop 0).take (List.length (ax (ay cs os ks gs bs al mo od)).jg)),(((ax (ay cs os ks gs bs al mo od)).jf.drop 0).take (List.length (ax (ay cs os ks gs bs al mo od)).jf)),(((ax (ay cs os ks gs bs al mo od)).je.drop 0).take (List.length (ax (ay cs os ks gs bs al mo od)).je)),(((ax (ay cs os ks gs bs al mo od)).jd.drop 0).take (List.length (ax (ay cs os ks gs bs al mo od)).jd)),(((ax (ay cs os ks gs bs al mo od)).jc.drop 0).take (List.length (ax (ay cs os ks gs bs al mo od)).jc)),(((ax (ay cs os ks gs bs al mo od)).jb.drop 0).take (List.length (ax (ay cs os ks gs bs al mo od)).jb)),(((ax (ay cs os ks gs bs al mo od)).ja.drop 0).take (List.length (ax (ay cs os ks gs bs al mo od)).ja)),(((ax (ay cs os ks gs bs al mo od)).iZ.drop 0).take (List.length (ax (ay cs os ks gs bs al mo od)).iZ)),(((ax (ay cs os ks gs bs al mo od)).iY.drop 0).take (List.length (ax (ay cs os ks gs bs al mo od)).iY)),(((ax (ay cs os ks gs bs al mo od)).iW.drop 0).take (List.length (ax (ay cs os ks gs bs al mo od)).iW)),(((ax (ay cs os ks gs bs al mo od)).dK.drop 0).take (List.length (ax (ay cs os ks gs bs al mo od)).dK)),(((ax (ay cs os ks gs bs al mo od)).dJ.drop 0).take (List.length (ax (ay cs os ks gs bs al mo od)).dJ)),(((ax (ay cs os ks gs bs al mo od)).dI.drop 0).take (List.length (ax (ay cs os ks gs bs al mo od)).dI)),(((ax (ay cs os ks gs bs al mo od)).dH.drop 0).take (List.length (ax (ay cs os ks gs bs al mo od)).dH)),(((ax (ay cs os ks gs bs al mo od)).dG.drop 0).take (List.length (ax (ay cs os ks gs bs al mo od)).dG)),(((ax (ay cs os ks gs bs al mo od)).dF.drop 0).take (List.length (ax (ay cs os ks gs bs al mo od)).dF)),al,(List.replicate (List.length gs:Int).toNat (0:Int)),(iH (eX cs os ks gs bs al mo od)).sums,(iH (eX cs os ks gs bs al mo od)).levels⟩:qh)
noncomputable def ZC:Specs:=bf [(24,nG),(61,qg),(94,qf),(96,qc)]
theorem ahj:∀g S,ZC g=some S→Valid Tryz.prog aP g S:=aS (l:=[(24,nG),(61,qg),(94,qf),(96,qc)]) ⟨BI,FM,FK,FI,trivial⟩
noncomputable def apl:Hand:=inl Tryz.prog aP ZC (ku 97 4 8 (PK.lp) (ku 93 7 2 (xQ.lp) (ku 95 1 3 (vZ.lp) (ku 93 1 2 (uG.lp) (lJ Tryz.prog aP (ZC) 20 2))))) 9
theorem ayr:dM Tryz.prog aP apl:=bT ahj (dL Tryz.func97 rfl (by kernel_rfl) UI (dL Tryz.func93 rfl (by kernel_rfl) ES (dL Tryz.func95 rfl (by kernel_rfl) yR (dL Tryz.func93 rfl (by kernel_rfl) wo (dP ahj))))) 9
theorem al6 (cs:List Cd) (os:List ByteArray) (ks:List Ko) (gs:List Ch) (bs:List Ba) (al mo od:List Int):bW Tryz.prog aP (ZC) apl (fun i=>if i=11 then Jg.lp else if i=21 then DW.lp else aC i) Tryz.f52 [.agg [.xl dW cs,.xl .str os,.xl eu ks,.xl dQ gs,.xl eG bs],.xl (.int .i64) al,.xl (.int .i64) mo,.xl (.int .i64) od]=.br ((F5 cs os ks gs bs) !=0) (.ok (.gV [.xl (.int .i64) ([]:List Int),.v (.int .i64 1)])) (.br ((List.length al:Int) !=(List.length gs:Int)) (.ok (.gV [.xl (.int .i64) ([]:List Int),.v (.int .i64 1)])) (.br ((List.length mo:Int) !=(List.length gs:Int)) (.ok (.gV [.xl (.int .i64) ([]:List Int),.v (.int .i64 1)])) (.req (XK (⟨false,al,(List.length al:Int),(0:Int),cs,os,ks,gs,bs⟩:jA)) (.br (ig (wW (⟨false,al,(List.length al:Int),(0:Int),cs,os,ks,gs,bs⟩:jA)) (.ret)) (.br (!(sS (⟨false,al,(List.length al:Int),(0:Int),cs,os,ks,gs,bs⟩:jA)).r) (.ok (.gV [.xl (.int .i64) ([]:List Int),.v (.int .i64 1)])) (.req (XK (⟨false,mo,(List.length mo:Int),(0:Int),cs,os,ks,gs,bs⟩:jA)) (.br (ig (wW (⟨false,mo,(List.length mo:Int),(0:Int),cs,os,ks,gs,bs⟩:jA)) (.ret)) (.br (!(sS (⟨false,mo,(List.length mo:Int),(0:Int),cs,os,ks,gs,bs⟩:jA)).r) (.ok (.gV [.xl (.int .i64) ([]:List Int),.v (.int .i64 1)])) (.req ((List.length gs:Int)≤1000) (.br (!(lW od (List.length gs:Int))) (.ok (.gV [.xl (.int .i64) ([]:List Int),.v (.int .i64 1)])) (.req (0≤(List.length (gY cs os ks gs bs):Int)∧(List.length (gY cs os ks gs bs):Int)≤(List.length (gY cs os ks gs bs):Int)∧8*(List.length (gY cs os ks gs bs):Int)≤2^48∧(List.length (gY cs os ks gs bs):Int)<2^63) (.req (0≤(List.length al:Int)∧(List.length al:Int)≤(List.length al:Int)∧8*(List.length al:Int)≤2^48∧(List.length al:Int)<2^63) (.req (0=0∧0=List.length ([]:List Int)) (.req (0=0∧0=List.length ([]:List Int)) (.req (0=0∧0=List.length ([]:List Int)) (.req (0=0∧0=List.length ([]:List Int)) (.req (0=0∧0=List.length ([]:List Int)) (.req (0=0∧0=List.length ([]:List Int)) (.req (0=0∧0=List.length ([]:List Int)) (.req (0=0∧0=List.length ([]:List Int)) (.req (0=0∧0=List.length ([]:List Int)) (.req (0=0∧0=List.length ([]:List Int)) (.req (0=0∧0=List.length ([]:List Int)) (.req (0=0∧0=List.length ([]:List Int)) (.req (0=0∧0=List.length ([]:List Int)) (.req (0=0∧0=List.length ([]:List Int)) (.req (0=0∧0=List.length ([]:List Int)) (.req (0=0∧0=List.length ([]:List Int)) (.req (0=0∧(List.length (gY cs os ks gs bs):Int).toNat=List.length (List.replicate (List.length (gY cs os ks gs bs):Int).toNat (0:Int))) (.req (0=0∧(List.length al:Int).toNat=List.length (List.replicate (List.length al:Int).toNat (0:Int))) (.req (PG (ay cs os ks gs bs al mo od)) (.req (0+(List.length (ax (ay cs os ks gs bs al mo od)).jg)≤List.length (ax (ay cs os ks gs bs al mo od)).jg) (.req (0+(List.length (ax (ay cs os ks gs bs al mo od)).jf)≤List.length (ax (ay cs os ks gs bs al mo od)).jf) (.req (0+(List.length (ax (ay cs os ks gs bs al mo od)).je)≤List.length (ax (ay cs os ks gs bs al mo od)).je) (.req (0+(List.length (ax (ay cs os ks gs bs al mo od)).jd)≤List.length (ax (ay cs os ks gs bs al mo od)).jd) (.req (0+(List.length (ax (ay cs os ks gs bs al mo od)).jc)≤List.length (ax (ay cs os ks gs bs al mo od)).jc) (.req (0+(List.length (ax (ay cs os ks gs bs al mo od)).jb)≤List.length (ax (ay cs os ks gs bs al mo od)).jb) (.req (0+(List.length (ax (ay cs os ks gs bs al mo od)).ja)≤List.length (ax (ay cs os ks gs bs al mo od)).ja) (.req (0+(List.length (ax (ay cs os ks gs bs al mo od)).iZ)≤List.length (ax (ay cs os ks gs bs al mo od)).iZ) (.req (0+(List.length (ax (ay cs os ks gs bs al mo od)).iY)≤List.length (ax (ay cs os ks gs bs al mo od)).iY) (.req (0+(List.length (ax (ay cs os ks gs bs al mo od)).iW)≤List.length (ax (ay cs os ks gs bs al mo od)).iW) (.req (0+(List.length (ax (ay cs os ks gs bs al mo od)).dK)≤List.length (ax (ay cs os ks gs bs al mo od)).dK) (.req (0+(List.length (ax (ay cs os ks gs bs al mo od)).dJ)≤List.length (ax (ay cs os ks gs bs al mo od)).dJ) (.req (0+(List.length (ax (ay cs os ks gs bs al mo od)).dI)≤List.length (ax (ay cs os ks gs bs al mo od)).dI) (.req (0+(List.length (ax (ay cs os ks gs bs al mo od)).dH)≤List.length (ax (ay cs os ks gs bs al mo od)).dH) (.req (0+(List.length (ax (ay cs os ks gs bs al mo od)).dG)≤List.length (ax (ay cs os ks gs bs al mo od)).dG) (.req (0+(List.length (ax (ay cs os ks gs bs al mo od)).dF)≤List.length (ax (ay cs os ks gs bs al mo od)).dF) (.rl (ax (ay cs os ks gs bs al mo od)).sums (.rl (List.replicate (List.length al:Int).toNat (0:Int)) (.req (PE (eX cs os ks gs bs al mo od)) (.req (0≤(List.length gs:Int)∧(List.length gs:Int)≤(List.length gs:Int)∧8*(List.length gs:Int)≤2^48∧(List.length gs:Int)<2^63) (.req (0=0∧(List.length gs:Int).toNat=List.length (List.replicate (List.length gs:Int).toNat (0:Int))) (.rl (iH (eX cs os ks gs bs al mo od)).sums (.rl (iH (eX cs os ks gs bs al mo od)).levels (.req (PD (fK cs os ks gs bs al mo od)) (.req (0+(List.length (gX (fK cs os ks gs bs al mo od)).out)≤List.length (gX (fK cs os ks gs bs al mo od)).out) (.ok (.gV [.xl (.int .i64) (((gX (fK cs os ks gs bs al mo od)).out.drop 0).take (List.length (gX (fK cs os ks gs bs al mo od)).out)),.v (.int .i64 0)]))))))))))))))))))))))))))))))))))))))))))))))))))) (.br (!true) (.ok (.gV [.xl (.int .i64) ([]:List Int),.v (.int .i64 1)])) (.req ((List.length gs:Int)≤1000) (.br (!(lW od (List.length gs:Int))) (.ok (.gV [.xl (.int .i64) ([]:List Int),.v (.int .i64 1)])) (.req (0≤(List.length (gY cs os ks gs bs):Int)∧(List.length (gY cs os ks gs bs):Int)≤(List.length (gY cs os ks gs bs):Int)∧8*(List.length (gY cs os ks gs bs):Int)≤2^48∧(List.length (gY cs os ks gs bs):Int)<2^63) (.req (0≤(List.length al:Int)∧(List.length al:Int)≤(List.length al:Int)∧8*(List.length al:Int)≤2^48∧(List.length al:Int)<2^63) (.req (0=0∧0=List.length ([]:List Int)) (.req (0=0∧0=List.length ([]:List Int)) (.req (0=0∧0=List.length ([]:List Int)) (.req (0=0∧0=List.length ([]:List Int)) (.req (0=0∧0=List.length ([]:List Int)) (.req (0=0∧0=List.length ([]:List Int)) (.req (0=0∧0=List.length ([]:List Int)) (.req (0=0∧0=List.length ([]:List Int)) (.req (0=0∧0=List.length ([]:List Int)) (.req (0=0∧0=List.length ([]:List Int)) (.req (0=0∧0=List.length ([]:List Int)) (.req (0=0∧0=List.length ([]:List Int)) (.req (0=0∧0=List.length ([]:List Int)) (.req (0=0∧0=List.length ([]:List Int)) (.req (0=0∧0=List.length ([]:List Int)) (.req (0=0∧0=List.length ([]:List Int)) (.req (0=0∧(List.length (gY cs os ks gs bs):Int).toNat=List.length (List.replicate (List.length (gY cs os ks gs bs):Int).toNat (0:Int))) (.req (0=0∧(List.length al:Int).toNat=List.length (List.replicate (List.length al:Int).toNat (0:Int))) (.req (PG (ay cs os ks gs bs al mo od)) (.req (0+(List.length (ax (ay cs os ks gs bs al mo od)).jg)≤List.length (ax (ay cs os ks gs bs al mo od)).jg) (.req (0+(List.length (ax (ay cs os ks gs bs al mo od)).jf)≤List.length (ax (ay cs os ks gs bs al mo od)).jf) (.req (0+(List.length (ax (ay cs os ks gs bs al mo od)).je)≤List.length (ax (ay cs os ks gs bs al mo od)).je) (.req (0+(List.length (ax (ay cs os ks gs bs al mo od)).jd)≤List.length (ax (ay cs os ks gs bs al mo od)).jd) (.req (0+(List.length (ax (ay cs os ks gs bs al mo od)).jc)≤List.length (ax (ay cs os ks gs bs al mo od)).jc) (.req (0+(List.length (ax (ay cs os ks gs bs al mo od)).jb)≤List.length (ax (ay cs os ks gs bs al mo od)).jb) (.req (0+(List.length (ax (ay cs os ks gs bs al mo od)).ja)≤List.length (ax (ay cs os ks gs bs al mo od)).ja) (.req (0+(List.length (ax (ay cs os ks gs bs al mo od)).iZ)≤List.length (ax (ay cs os ks gs bs al mo od)).iZ) (.req (0+(List.length (ax (ay cs os ks gs bs al mo od)).iY)≤List.length (ax (ay cs os ks gs bs al mo od)).iY) (.req (0+(List.length (ax (ay cs os ks gs bs al mo od)).iW)≤List.length (ax (ay cs os ks gs bs al mo od)).iW) (.req (0+(List.length (ax (ay cs os ks gs bs al mo od)).dK)≤List.length (ax (ay cs os ks gs bs al mo od)).dK) (.req (0+(List.length (ax (ay cs os ks gs bs al mo od)).dJ)≤List.length (ax (ay cs os ks gs bs al mo od)).dJ) (.req (0+(List.length (ax (ay cs os ks gs bs al mo od)).dI)≤List.length (ax (ay cs os ks gs bs al mo od)).dI) (.req (0+(List.length (ax (ay cs os ks gs bs al mo od)).dH)≤List.length (ax (ay cs os ks gs bs al mo od)).dH) (.req (0+(List.length (ax (ay cs os ks gs bs al mo od)).dG)≤List.length (ax (ay cs os ks gs bs al mo od)).dG) (.req (0+(List.length (ax (ay cs os ks gs bs al mo od)).dF)≤List.length (ax (ay cs os ks gs bs al mo od)).dF) (.rl (ax (ay cs os ks gs bs al mo od)).sums (.rl (List.replicate (List.length al:Int).toNat (0:Int)) (.req (PE (eX cs os ks gs bs al mo od)) (.req (0≤(List.length gs:Int)∧(List.length gs:Int)≤(List.length gs:Int)∧8*(List.length gs:Int)≤2^48∧(List.length gs:Int)<2^63) (.req (0=0∧(List.length gs:Int).toNat=List.length (List.replicate (List.length gs:Int).toNat (0:Int))) (.rl (iH (eX cs os ks gs bs al mo od)).sums (.rl (iH (eX cs os ks gs bs al mo od)).levels (.req (PD (fK cs os ks gs bs al mo od)) (.req (0+(List.length (gX (fK cs os ks gs bs al mo od)).out)≤List.length (gX (fK cs os ks gs bs al mo od)).out) (.ok (.gV [.xl (.int .i64) (((gX (fK cs os ks gs bs al mo od)).out.drop 0).take (List.length (gX (fK cs os ks gs bs al mo od)).out)),.v (.int .i64 0)])))))))))))))))))))))))))))))))))))))))))))))))))))))) (.br (!true) (.ok (.gV [.xl (.int .i64) ([]:List Int),.v (.int .i64 1)])) (.req (XK (⟨false,mo,(List.length mo:Int),(0:Int),cs,os,ks,gs,bs⟩:jA)) (.br (ig (wW (⟨false,mo,(List.length mo:Int),(0:Int),cs,os,ks,gs,bs⟩:jA)) (.ret)) (.br (!(sS (⟨false,mo,(List.length mo:Int),(0:Int),cs,os,ks,gs,bs⟩:jA)).r) (.ok (.gV [.xl (.int .i64) ([]:List Int),.v (.int .i64 1)])) (.req ((List.length gs:Int)≤1000) (.br (!(lW od (List.length gs:Int))) (.ok (.gV [.xl (.int .i64) ([]:List Int),.v (.int .i64 1)])) (.req (0≤(List.length (gY cs os ks gs bs):Int)∧(List.length (gY cs os ks gs bs):Int)≤(List.length (gY cs os ks gs bs):Int)∧8*(List.length (gY cs os ks gs bs):Int)≤2^48∧(List.length (gY cs os ks gs bs):Int)<2^63) (.req (0≤(List.length al:Int)∧(List.length al:Int)≤(List.length al:Int)∧8*(List.length al:Int)≤2^48∧(List.length al:Int)<2^63) (.req (0=0∧0=List.length ([]:List Int)) (.req (0=0∧0=List.length ([]:List Int)) (.req (0=0∧0=List.length ([]:List Int)) (.req (0=0∧0=List.length ([]:List Int)) (.req (0=0∧0=List.length ([]:List Int)) (.req (0=0∧0=List.length ([]:List Int)) (.req (0=0∧0=List.length ([]:List Int)) (.req (0=0∧0=List.length ([]:List Int)) (.req (0=0∧0=List.length ([]:List Int)) (.req (0=0∧0=List.length ([]:List Int)) (.req (0=0∧0=List.length ([]:List Int)) (.req (0=0∧0=List.length ([]:List Int)) (.req (0=0∧0=List.length ([]:List Int)) (.req (0=0∧0=List.length ([]:List Int)) (.req (0=0∧0=List.length ([]:List Int)) (.req (0=0∧0=List.length ([]:List Int)) (.req (0=0∧(List.length (gY cs os ks gs bs):Int).toNat=List.length (List.replicate (List.length (gY cs os ks gs bs):Int).toNat (0:Int))) (.req (0=0∧(List.length al:Int).toNat=List.length (List.replicate (List.length al:Int).toNat (0:Int))) (.req (PG (ay cs os ks gs bs al mo od)) (.req (0+(List.length (ax (ay cs os ks gs bs al mo od)).jg)≤List.length (ax (ay cs os ks gs bs al mo od)).jg) (.req (0+(List.length (ax (ay cs os ks gs bs al mo od)).jf)≤List.length (ax (ay cs os ks gs bs al mo od)).jf) (.req (0+(List.length (ax (ay cs os ks gs bs al mo od)).je)≤List.length (ax (ay cs os ks gs bs al mo od)).je) (.req (0+(List.length (ax (ay cs os ks gs bs al mo od)).jd)≤List.length (ax (ay cs os ks gs bs al mo od)).jd) (.req (0+(List.length (ax (ay cs os ks gs bs al mo od)).jc)≤List.length (ax (ay cs os ks gs bs al mo od)).jc) (.req (0+(List.length (ax (ay cs os ks gs bs al mo od)).jb)≤List.length (ax (ay cs os ks gs bs al mo od)).jb) (.req (0+(List.length (ax (ay cs os ks gs bs al mo od)).ja)≤List.length (ax (ay cs os ks gs bs al mo od)).ja) (.req (0+(List.length (ax (ay cs os ks gs bs al mo od)).iZ)≤List.length (ax (ay cs os ks gs bs al mo od)).iZ) (.req (0+(List.length (ax (ay cs os ks gs bs al mo od)).iY)≤List.length (ax (ay cs os ks gs bs al mo od)).iY) (.req (0+(List.length (ax (ay cs os ks gs bs al mo od)).iW)≤List.length (ax (ay cs os ks gs bs al mo od)).iW) (.req (0+(List.length (ax (ay cs os ks gs bs al mo od)).dK)≤List.length (ax (ay cs os ks gs bs al mo od)).dK) (.req (0+(List.length (ax (ay cs os ks gs bs al mo od)).dJ)≤List.length (ax (ay cs os ks gs bs al mo od)).dJ) (.req (0+(List.length (ax (ay cs os ks gs bs al mo od)).dI)≤List.length (ax (ay cs os ks gs bs al mo od)).dI) (.req (0+(List.length (ax (ay cs os ks gs bs al mo od)).dH)≤List.length (ax (ay cs os ks gs bs al mo od)).dH) (.req (0+(List.length (ax (ay cs os ks gs bs al mo od)).dG)≤List.length (ax (ay cs os ks gs bs al mo od)).dG) (.req (0+(List.length (ax (ay cs os ks gs bs al mo od)).dF)≤List.length (ax (ay cs os ks gs bs al mo od)).dF) (.rl (ax (ay cs os ks gs bs al mo od)).sums (.rl (List.replicate (List.length al:Int).toNat (0:Int)) (.req (PE (eX cs os ks gs bs al mo od)) (.req (0≤(List.length gs:Int)∧(List.length gs:Int)≤(List.length gs:Int)∧8*(List.length gs:Int)≤2^48∧(List.length gs:Int)<2^63) (.req (0=0∧(List.length gs:Int).toNat=List.length (List.replicate (List.length gs:Int).toNat (0:Int))) (.rl (iH (eX cs os ks gs bs al mo od)).sums (.rl (iH (eX cs os ks gs bs al mo od)).levels (.req (PD (fK cs os ks gs bs al mo od)) (.req (0+(List.length (gX (fK cs os ks gs bs al mo od)).out)≤List.length (gX (fK cs os ks gs bs al mo od)).out) (.ok (.gV [.xl (.int .i64) (((gX (fK cs os ks gs bs al mo od)).out.drop 0).take (List.length (gX (fK cs os ks gs bs al mo od)).out)),.v (.int .i64 0)]))))))))))))))))))))))))))))))))))))))))))))))))))) (.br (!true) (.ok (.gV [.xl (.int .i64) ([]:List Int),.v (.int .i64 1)])) (.req ((List.length gs:Int)≤1000) (.br (!(lW od (List.length gs:Int))) (.ok (.gV [.xl (.int .i64) ([]:List Int),.v (.int .i64 1)])) (.req (0≤(List.length (gY cs os ks gs bs):Int)∧(List.length (gY cs os ks gs bs):Int)≤(List.length (gY cs os ks gs bs):Int)∧8*(List.length (gY cs os ks gs bs):Int)≤2^48∧(List.length (gY cs os ks gs bs):Int)<2^63) (.req (0≤(List.length al:Int)∧(List.length al:Int)≤(List.length al:Int)∧8*(List.length al:Int)≤2^48∧(List.length al:Int)<2^63) (.req (0=0∧0=List.length ([]:List Int)) (.req (0=0∧0=List.length ([]:List Int)) (.req (0=0∧0=List.length ([]:List Int)) (.req (0=0∧0=List.length ([]:List Int)) (.req (0=0∧0=List.length ([]:List Int)) (.req (0=0∧0=List.length ([]:List Int)) (.req (0=0∧0=List.length ([]:List Int)) (.req (0=0∧0=List.length ([]:List Int)) (.req (0=0∧0=List.length ([]:List Int)) (.req (0=0∧0=List.length ([]:List Int)) (.req (0=0∧0=List.length ([]:List Int)) (.req (0=0∧0=List.length ([]:List Int)) (.req (0=0∧0=List.length ([]:List Int)) (.req (0=0∧0=List.length ([]:List Int)) (.req (0=0∧0=List.length ([]:List Int)) (.req (0=0∧0=List.length ([]:List Int)) (.req (0=0∧(List.length (gY cs os ks gs bs):Int).toNat=List.length (List.replicate (List.length (gY cs os ks gs bs):Int).toNat (0:Int))) (.req (0=0∧(List.length al:Int).toNat=List.length (List.replicate (List.length al:Int).toNat (0:Int))) (.req (PG (ay cs os ks gs bs al mo od)) (.req (0+(List.length (ax (ay cs os ks gs bs al mo od)).jg)≤List.length (ax (ay cs os ks gs bs al mo od)).jg) (.req (0+(List.length (ax (ay cs os ks gs bs al mo od)).jf)≤List.length (ax (ay cs os ks gs bs al mo od)).jf) (.req (0+(List.length (ax (ay cs os ks gs bs al mo od)).je)≤List.length (ax (ay cs os ks gs bs al mo od)).je) (.req (0+(List.length (ax (ay cs os ks gs bs al mo od)).jd)≤List.length (ax (ay cs os ks gs bs al mo od)).jd) (.req (0+(List.length (ax (ay cs os ks gs bs al mo od)).jc)≤List.length (ax (ay cs os ks gs bs al mo od)).jc) (.req (0+(List.length (ax (ay cs os ks gs bs al mo od)).jb)≤List.length (ax (ay cs os ks gs bs al mo od)).jb) (.req (0+(List.length (ax (ay cs os ks gs bs al mo od)).ja)≤List.length (ax (ay cs os ks gs bs al mo od)).ja) (.req (0+(List.length (ax (ay cs os ks gs bs al mo od)).iZ)≤List.length (ax (ay cs os ks gs bs al mo od)).iZ) (.req (0+(List.length (ax (ay cs os ks gs bs al mo od)).iY)≤List.length (ax (ay cs os ks gs bs al mo od)).iY) (.req (0+(List.length (ax (ay cs os ks gs bs al mo od)).iW)≤List.length (ax (ay cs os ks gs bs al mo od)).iW) (.req (0+(List.length (ax (ay cs os ks gs bs al mo od)).dK)≤List.length (ax (ay cs os ks gs bs al mo od)).dK) (.req (0+(List.length (ax (ay cs os ks gs bs al mo od)).dJ)≤List.length (ax (ay cs os ks gs bs al mo od)).dJ) (.req (0+(List.length (ax (ay cs os ks gs bs al mo od)).dI)≤List.length (ax (ay cs os ks gs bs al mo od)).dI) (.req (0+(List.length (ax (ay cs os ks gs bs al mo od)).dH)≤List.length (ax (ay cs os ks gs bs al mo od)).dH) (.req (0+(List.length (ax (ay cs os ks gs bs al mo od)).dG)≤List.length (ax (ay cs os ks gs bs al mo od)).dG) (.req (0+(List.length (ax (ay cs os ks gs bs al mo od)).dF)≤List.length (ax (ay cs os ks gs bs al mo od)).dF) (.rl (ax (ay cs os ks gs bs al mo od)).sums (.rl (List.replicate (List.length al:Int).toNat (0:Int)) (.req (PE (eX cs os ks gs bs al mo od)) (.req (0≤(List.length gs:Int)∧(List.length gs:Int)≤(List.length gs:Int)∧8*(List.length gs:Int)≤2^48∧(List.length gs:Int)<2^63) (.req (0=0∧(List.length gs:Int).toNat=List.length (List.replicate (List.length gs:Int).toNat (0:Int))) (.rl (iH (eX cs os ks gs bs al mo od)).sums (.rl (iH (eX cs os ks gs bs al mo od)).levels (.req (PD (fK cs os ks gs bs al mo od)) (.req (0+(List.length (gX (fK cs os ks gs bs al mo od)).out)≤List.length (gX (fK cs os ks gs bs al mo od)).out) (.ok (.gV [.xl (.int .i64) (((gX (fK cs os ks gs bs al mo od)).out.drop 0).take (List.length (gX (fK cs os ks gs bs al mo od)).out)),.v (.int .i64 0)])))))))))))))))))))))))))))))))))))))))))))))))))))))))))):=by kernel_rfl
theorem adA:Valid Tryz.prog aP 52 Iy:=aH Tryz.func52 rfl ahj ayr (L:=(fun i=>if i=11 then Jg.lp else if i=21 then DW.lp else aC i)) (fun b hb=>by
 rw [show aF _=[Ih,zX] by kernel_rfl] at hb
 simp only [List.mem_cons,List.not_mem_nil,or_false] at hb
 rcases hb with rfl|rfl
 ·exact aki
 ·exact akh) (fun args lv h=>by
 unfold aaX at h
 split at h
 ·simp only [canL,canX]
  rw [al6]
  rename_i cs os ks gs bs al mo od
  obtain rfl:=h
  have err:qU cs os ks gs bs al mo od=false→LV.gV [.xl (.int .i64) ([]:List Int),.v (.int .i64 1)]=LV.gV [.xl (.int .i64) (xH cs os ks gs bs al mo od),.v (.int .i64 (shE cs os ks gs bs al mo od))]:=fun h=>by
   unfold xH shE
   rw [h]
   rfl
  have no_:∀ {p:Prop},¬p→(qU cs os ks gs bs al mo od=true→p)→qU cs os ks gs bs al mo od=false:=fun h1 h2=>by
   rw [Bool.eq_false_iff];exact fun h=>h1 (h2 h)
  refine ⟨fun c=>err (no_ (p:=fO cs os ks gs bs=true) (fun h=>?_) (fun h=>(iK.1 h).1)),fun c=>?_⟩
  ·unfold F5 at c
   rw [h] at c
   simp at c
  have hv:fO cs os ks gs bs=true:=by
   cases e:fO cs os ks gs bs with
   |true=>rfl
   |false=>unfold F5 at c;rw [e] at c;simp at c
  have hl:=(gm.1 hv).1
  refine ⟨fun c2=>err (no_ (p:=al.length=gs.length) (by simp at c2;omega) (fun h=>(iK.1 h).2.1)),fun c2=>?_⟩
  refine ⟨fun c3=>err (no_ (p:=mo.length=gs.length) (by simp at c3;omega) (fun h=>(iK.1 h).2.2.1)),fun c3=>?_⟩
  have c2:al.length=gs.length:=by simp at c2;omega
  have c3:mo.length=gs.length:=by simp at c3;omega
  refine nD ⟨⟨rfl,by simp only;omega,by simp only;omega,rfl⟩,rfl,rfl⟩ (fun hE1=>?_)
  rcases aaB _ hE1.1 with ⟨q1,q2⟩ |⟨q1,q2,q3⟩
  rotate_left
  ·rw [q1,q2]
   refine ⟨fun _=>⟨fun _=>err (no_ (p:=al.all ug=true) (by have q3:al.all ug=false:=q3;rw [q3];simp) (fun h=>(iK.1 h).2.2.2.1)),fun h=>by cases h⟩,fun h=>by cases h⟩
  rw [q1]
  refine ⟨fun h=>(by cases h),fun _=>⟨fun h=>(by cases h),fun _=>?_⟩⟩
  have q2:al.all ug=true:=q2
  refine nD ⟨⟨rfl,by simp only;omega,by simp only;omega,rfl⟩,rfl,rfl⟩ (fun hE2=>?_)
  rcases aaB _ hE2.1 with ⟨p1,p2⟩ |⟨p1,p2,p3⟩
  rotate_left
  ·rw [p1,p2]
   refine ⟨fun _=>⟨fun _=>err (no_ (p:=mo.all ug=true) (by have p3:mo.all ug=false:=p3;rw [p3];simp) (fun h=>(iK.1 h).2.2.2.2.1)),fun h=>by cases h⟩,fun h=>by cases h⟩
  rw [p1]
  refine ⟨fun h=>(by cases h),fun _=>⟨fun h=>(by cases h),fun _=>?_⟩⟩
  have p2:mo.all ug=true:=p2
  refine ⟨by omega,fun c4=>err (no_ (p:=lW od (gs.length:Int)=true) (by simp at c4;rw [c4];simp) (fun h=>(iK.1 h).2.2.2.2.2)),fun c4=>?_⟩
  have c4:lW od (gs.length:Int)=true:=by simpa using c4
  have hok:qU cs os ks gs bs al mo od=true:=iK.2 ⟨hv,c2,c3,q2,p2,c4⟩
  obtain ⟨hT,hS⟩:=axW hok
  have er:gY cs os ks gs bs=jC cs gs cs.length:=by unfold gY;rw [if_pos hv]
  have hrl:=uS (cs:=cs) (gs:=gs) (k:=cs.length)
  have hod:od.length=gs.length:=by
   unfold lW at c4
   simp only [Bool.and_eq_true,decide_eq_true_eq] at c4
   omega
  have hrn:(List.length (gY cs os ks gs bs):Int)≤1000:=by rw [er];omega
  refine ⟨by omega,by omega,⟨rfl,rfl⟩,⟨rfl,rfl⟩,⟨rfl,rfl⟩,⟨rfl,rfl⟩,⟨rfl,rfl⟩,⟨rfl,rfl⟩,⟨rfl,rfl⟩,⟨rfl,rfl⟩,⟨rfl,rfl⟩,⟨rfl,rfl⟩,⟨rfl,rfl⟩,⟨rfl,rfl⟩,⟨rfl,rfl⟩,⟨rfl,rfl⟩,⟨rfl,rfl⟩,⟨rfl,rfl⟩,⟨rfl,by simp⟩,⟨rfl,by simp⟩,?_⟩
  have hN:Md (ay cs os ks gs bs al mo od):=by
   refine ⟨rfl,fun o ho=>?_,rfl,rfl,hrn,fun r hr=>?_,hT.al,by show List.length (List.replicate _ _)=List.length (gY cs os ks gs bs);simp⟩
   ·simpa [kG,ay] using ho
   ·have hr:r∈jC cs gs cs.length:=by rw [←er];exact hr
    obtain ⟨m1,m2,m3,m4⟩:=row_mem hr
    refine ⟨by omega,fun m hm=>?_⟩
    have:=m2 m hm
    show 0≤m∧m<16∧m<(al.length:Int)
    omega
  obtain ⟨nr1,nr2⟩:=alI _ hN
  have nr1:kG (ax (ay cs os ks gs bs al mo od))=OL (jC cs gs cs.length):=by rw [nr1,←er];rfl
  have nr2:(ax (ay cs os ks gs bs al mo od)).sums=SM al (jC cs gs cs.length):=by rw [nr2,←er];rfl
  refine ⟨⟨hN,rfl,rfl⟩,by omega,by omega,by omega,by omega,by omega,by omega,by omega,by omega,by omega,by omega,by omega,by omega,by omega,by omega,by omega,by omega,⟨rfl,rfl⟩,⟨rfl,rfl⟩,?_⟩
  have eO:rY (eX cs os ks gs bs al mo od)=kG (ax (ay cs os ks gs bs al mo od)):=by
   unfold rY kG eX
   simp only [List.drop_zero,List.take_length]
  have hSh:abX (eX cs os ks gs bs al mo od):=by
   refine ⟨rfl,by show (od.length:Int)≤1000;omega,rfl,?_,?_⟩
   ·show OkT (rY (eX cs os ks gs bs al mo od)) (gY cs os ks gs bs) gs al mo od
    rw [eO,nr1,er]
    exact hT
   ·show OkS (gY cs os ks gs bs) od (ax (ay cs os ks gs bs al mo od)).sums _
    rw [nr2,er]
    exact hS
  have sr:=ak3 _ hSh
  have sr:(iH (eX cs os ks gs bs al mo od)).levels=shV (jC cs gs cs.length) gs al mo od:=by
   rw [sr]
   show shl (rY (eX cs os ks gs bs al mo od)) (gY cs os ks gs bs) gs al mo od 81 1 (ax (ay cs os ks gs bs al mo od)).sums _=_
   rw [eO,nr1,nr2,er]
   rfl
  obtain ⟨sl,sb⟩:=adX hT 81 1 _ _ (by omega) (by omega) hS
  refine ⟨⟨hSh,rfl,rfl⟩,by omega,⟨rfl,by simp⟩,⟨rfl,rfl⟩,⟨rfl,rfl⟩,?_⟩
  have hX:abW (fK cs os ks gs bs al mo od):=by
   refine ⟨rfl,rfl,⟨rfl,by show (gs.length:Int)≤1000;omega,?_⟩,fun k h0 h1=>?_,?_⟩
   ·show (iH (eX cs os ks gs bs al mo od)).levels.length=gs.length
    rw [sr]
    exact sl.trans (by rw [List.length_replicate];exact c2)
   ·have:=rH hv h0 h1
    unfold Fh chW at this
    simp only [Bool.and_eq_true,dZ] at this
    show lX (bC gs k).2.2.2.1 (bC gs k).2.2.2.2.1 (bC gs k).2.2.2.2.2.1=true
    exact fF.2 (by omega)
   ·show ∀k:Nat,0≤(iH (eX cs os ks gs bs al mo od)).levels.getD k 0∧(iH (eX cs os ks gs bs al mo od)).levels.getD k 0≤80
    rw [sr]
    exact sb
  refine ⟨⟨hX,rfl,rfl⟩,by omega,?_⟩
  obtain ⟨s',_,_,x2⟩:=ak2 _ hX
  have x2:(gX (fK cs os ks gs bs al mo od)).out=oI gs (iH (eX cs os ks gs bs al mo od)).levels:=x2
  show LV.gV [LV.xl _ _,_]=_
  rw [List.drop_zero,List.take_length,x2,sr]
  unfold xH shE
  rw [if_pos hok,if_pos hok]
 ·cases h)
end Go.Proofs.YtlihnbimgclogaaGreatDoor
namespace Go.Proofs.YtlihnbimgclogaaGreatDoor
open Go.Sx
structure mW where
 m:List Ch
 k:Int
 i:Int
 out:List Int
def aBp (s:mW):List LV:=[.os 0 1 0 (List.length s.out),.xl dQ s.m,.v (.int .i64 s.k),.v (.int .i64 s.i)]
def aAs (s:mW):List aT:=[⟨[],3,.vec (.int .i64) s.out,false⟩]
noncomputable def Bd:Code:=((aF (Tryz.f72.body.getD .skip))[0]?).getD .skip
def Yx (s:mW):T (Rd mW):=
 .br (decide (s.i<s.k)) (.req (0≤s.i∧s.i<(List.length s.m:Int)) (.req (0≤s.i∧s.i<((List.length s.out:Nat):Int)) (.req (s.i.toNat<List.length s.out) (.req (0=0∧(List.length s.out)=List.length (s.out.set s.i.toNat (bC s.m s.i).2.2.2.2.2.2.1)) (.ok (.next {s with i:=(IntKind.i64.wrap (s.i+1)),out:=(s.out.set s.i.toNat (bC s.m s.i).2.2.2.2.2.2.1)})))))) (.rl s.out (.ok (.stop (.exit 0) s)))
abbrev aqo (s:mW):=(Yx s).rd s
def acj (s:mW):Prop:=s.i=0∧s.k=(List.length s.m:Int)∧s.k≤1000∧s.out.length=s.m.length∧(∀j,0≤j→j<s.k→gi s.out j=0)∧True
def LY (s:mW):Prop:=(0≤s.i∧s.i≤s.k)∧s.k=(List.length s.m:Int)∧s.k≤1000∧s.out.length=s.m.length∧(∀j,0≤j→j<s.k→gi s.out j=if j<s.i then wS (bC s.m j) else 0)∧True
def Oi (s:mW):Nat:=(s.k-s.i).toNat
def ajg (x:Ex) (_ s':mW):Prop:=x=.exit 0∧s'.out=zn s'.m.length (fun j=>wS (bC s'.m j))
theorem azg:∀s,acj s→LY s:=by
 intro s h
 obtain ⟨h0,h2,h3,h4,h5,h6⟩:=h
 exact ⟨by omega,h2,h3,h4,fun j j0 j1=>by rw [h5 j j0 j1,if_neg (by omega)],h6⟩
theorem avc (s:mW) (hI:LY s):bM (fun s'=>LY s'∧Oi s'<Oi s) (fun x s'=>ajg x s s') (aqo s):=by
 unfold aqo Yx
 dsimp only [T.rd,T.rl]
 obtain ⟨⟨h0,h1⟩,h2,h3,h4,h5,h6⟩:=hI
 refine au (fun c1=>?_) (fun c1=>?_)
 ·have c1:s.i<s.k:=by simpa using c1
  rw [aK (x:=s.i+1) (by omega) (by omega)]
  refine ⟨⟨⟨by simp only;omega,by simp only;omega⟩,h2,h3,by simp only [List.length_set];exact h4,fun j j0 j1=>?_,h6⟩,by simp only [Oi];omega⟩
  simp only
  have hi:=h5 s.i h0 c1
  rw [if_neg (show ¬s.i<s.i by omega)] at hi
  rw [pO h0 (by rw [h4];omega) j0]
  by_cases e:j=s.i
  ·subst e
   rw [if_pos rfl,if_pos (show s.i<s.i+1 by omega)]
   rfl
  ·rw [if_neg e,h5 j j0 j1]
   by_cases q:j<s.i
   ·rw [if_pos q,if_pos (show j<s.i+1 by omega)]
   ·rw [if_neg q,if_neg (show ¬j<s.i+1 by omega)]
 ·have c1:s.k≤s.i:=by simpa using c1
  refine ⟨rfl,?_⟩
  refine Ht (by rw [eU];exact h4) fun j j0 j1=>?_
  rw [eU] at j1
  rw [o7 j0 j1,h5 j j0 (by omega),if_pos (show j<s.i by omega)]
def EH:bQ mW:=⟨0,31,[3,17,18,19],[],aBp,aAs,fun v b=>⟨aQ dQ (v.getD 1 .junk),gI (v.getD 2 .junk),gI (v.getD 3 .junk),jk (.int .i64) (aO b 0)⟩,Yx,fun s r=> {r with m:=s.m,k:=s.k},fun s=>s,fun _ s=>s,[.exit 0],acj,LY,Oi⟩
abbrev wG:=EH.run
abbrev anV:=EH.jZ
abbrev aws:=EH.q
theorem as4 (s:mW) (hI:LY s):(Yx s).all (fun _=>True):=by
 refine ⟨fun c1=>⟨?_,?_,?_,?_,trivial⟩,fun c1=>⟨⟨rfl,rfl⟩,trivial⟩⟩
 all_goals ((obtain ⟨⟨h0,h1⟩,h2,h3,h4,h5,h6⟩:=hI;(try simp only [decide_eq_true_eq] at c1);first|omega|exact ⟨rfl,by simp⟩ |(omega)))
noncomputable def ahs:Specs:=bf []
theorem apv:∀g S,ahs g=some S→Valid Tryz.prog aP g S:=aS (l:=[]) trivial
theorem af2:EH.Ok:=⟨fun s=>by kernel_rfl,fun s=>by kernel_rfl,fun s=>rfl,fun s t r=>rfl,fun s=>rfl,fun s=>by kernel_rfl⟩
theorem ae3:EH.Pf (ajg):=⟨azg,fun _ _=>rfl,avc,as4⟩
theorem akX:bg Tryz.prog aP (AN 0) (.loop Bd) EH.lp:=bQ.snd af2 ae3 (aU (Γ:=ahs) (K:=eY) (L:=aC) apv aG Bd (fun b hb=>by rw [show aF Bd=[] by kernel_rfl] at hb;cases hb)) (fun s=>by kernel_rfl)
theorem aoc (s:mW) (hE:acj s):∃s',LY s'∧ajg (anV s) s' (wG s):=bQ.fin af2 ae3 s hE
def abG:List LV→T LV
 | [.xq 9 q0]=>(match ([q0 0,q0 1,q0 2,q0 3,q0 4,q0 5,q0 6,q0 7,q0 8]:List LV) with
  | [.xl (.pair .str (.pair (.int .i64) (.pair (.int .i64) (.pair (.int .i64) (.pair (.pair (.int .i64) (.int .i64)) (.pair (.int .i64) (.pair (.int .i64) (.pair (.int .i64) (.pair (.int .i64) (.int .i64)))))))))) _,.xl (.str) _,.xl (.pair .str (.pair (.int .i64) (.pair (.int .i64) (.int .i64)))) _,.xl (.pair .str (.pair (.int .i64) (.pair (.int .i64) (.pair (.int .i64) (.pair (.int .i64) (.pair (.int .i64) (.pair (.int .i64) (.int .i64)))))))) gs,.xl (.pair .str (.int .i64)) _,.xl (.pair (.int .i64) (.pair (.int .i64) (.pair (.int .i64) (.pair (.int .i64) (.int .i64))))) _,.xl (.pair .bool (.pair (.int .i64) (.pair (.int .i64) (.int .i64)))) _,.v (.int .i64 _),.xl (.int .i64) _]=> .req ((List.length gs:Int)≤1000) (.ok (.xl (.int .i64) (mO gs)))
  |_=> .no)
 |_=> .no
noncomputable def Xz:List LV→T LV:=gW Tryz.prog Tryz.f72.params.toList abG
theorem amQ (cs:List Cd) (os:List ByteArray) (ks:List Ko) (gs:List Ch) (bs:List Ba) (l:List Le) (d:List Dm) (t:Int) (od:List Int):bW Tryz.prog aP (ahs) eY (fun i=>if i=3 then EH.lp else aC i) Tryz.f72 [.xq 9 (fun j=>([.xl dW cs,.xl .str os,.xl eu ks,.xl dQ gs,.xl eG bs,.xl jL l,.xl rE d,.v (.int .i64 t),.xl (.int .i64) od]:List LV).getD j .junk)]=.req (0≤(List.length gs:Int)∧(List.length gs:Int)≤(List.length gs:Int)∧8*(List.length gs:Int)≤2^48∧(List.length gs:Int)<2^63) (.req (0=0∧(List.length gs:Int).toNat=List.length (List.replicate (List.length gs:Int).toNat (0:Int))) (.req (aws (⟨gs,(List.length gs:Int),(0:Int),(List.replicate (List.length gs:Int).toNat (0:Int))⟩:mW)) (.req (0+(List.length (wG (⟨gs,(List.length gs:Int),(0:Int),(List.replicate (List.length gs:Int).toNat (0:Int))⟩:mW)).out)≤List.length (wG (⟨gs,(List.length gs:Int),(0:Int),(List.replicate (List.length gs:Int).toNat (0:Int))⟩:mW)).out) (.ok (.xl (.int .i64) (((wG (⟨gs,(List.length gs:Int),(0:Int),(List.replicate (List.length gs:Int).toNat (0:Int))⟩:mW)).out.drop 0).take (List.length (wG (⟨gs,(List.length gs:Int),(0:Int),(List.replicate (List.length gs:Int).toNat (0:Int))⟩:mW)).out))))))):=by kernel_rfl
theorem arz:Valid Tryz.prog aP 72 Xz:=aH Tryz.func72 rfl apv aG (L:=(fun i=>if i=3 then EH.lp else aC i)) (fun b hb=>by
 rw [show aF _=[Bd] by kernel_rfl] at hb
 simp only [List.mem_cons,List.not_mem_nil,or_false] at hb
 subst hb
 exact akX) (fun args lv h=>by
 unfold abG at h
 split at h
 ·split at h
  case h_2=>cases h
  rename_i heq0
  simp only [canL,canX]
  rw [oH (n:=9) heq0]
  simp only [canL,canX]
  rw [amQ]
  rename_i cs os ks gs bs l d t od
  obtain ⟨hn,rfl⟩:=h
  have hE:acj ⟨gs,(List.length gs:Int),0,List.replicate (List.length gs:Int).toNat 0⟩:=⟨rfl,rfl,hn,by simp,fun j _ _=>vF,trivial⟩
  obtain ⟨_,_,q1,q2⟩:=aoc _ hE
  have q2:(wG ⟨gs,(List.length gs:Int),0,List.replicate (List.length gs:Int).toNat 0⟩).out=mO gs:=q2
  refine ⟨by omega,⟨rfl,by simp⟩,⟨hE,rfl,rfl⟩,by omega,?_⟩
  show LV.xl _ _=_
  rw [List.drop_zero,List.take_length,q2]
 ·cases h)
structure lC where
 cs:List Cd
 os:List ByteArray
 ks:List Ko
 gs:List Ch
 bs:List Ba
 l:List Le
 d:List Dm
 t:Int
 od:List Int
 m:List Ch
 k:Int
 i:Int
 wanted:List Int
def aBk (s:lC):List LV:=[.xq 9 (fun j=>([.xl dW s.cs,.xl .str s.os,.xl eu s.ks,.xl dQ s.gs,.xl eG s.bs,.xl jL s.l,.xl rE s.d,.v (.int .i64 s.t),.xl (.int .i64) s.od]:List LV).getD j .junk),.os 0 1 0 (List.length s.wanted),.xl dQ s.m,.v (.int .i64 s.k),.v (.int .i64 s.i)]
def aAn (s:lC):List aT:=[⟨[],3,.vec (.int .i64) s.wanted,false⟩]
noncomputable def A7:Code:=((aF (Tryz.f71.body.getD .skip))[0]?).getD .skip
def Yt (s:lC):T (Rd lC):=
 .br (decide (s.i<s.k)) (.req (0≤s.i∧s.i<(List.length s.m:Int)) (.req (0≤s.i∧s.i<(List.length s.d:Int)) (.br (su s.d s.i).1 (.req (0≤s.i∧s.i<((List.length s.wanted:Nat):Int)) (.req (s.i.toNat<List.length s.wanted) (.req (0=0∧(List.length s.wanted)=List.length (s.wanted.set s.i.toNat (bC s.m s.i).2.2.2.2.1)) (.ok (.next {s with i:=(IntKind.i64.wrap (s.i+1)),wanted:=(s.wanted.set s.i.toNat (bC s.m s.i).2.2.2.2.1)}))))) (.rl s.wanted (.ok (.next {s with i:=(IntKind.i64.wrap (s.i+1))})))))) (.rl s.wanted (.ok (.stop (.exit 0) s)))
abbrev aql (s:lC):=(Yt s).rd s
def acf (s:lC):Prop:=s.i=0∧s.k=(List.length s.m:Int)∧s.k≤1000∧s.wanted.length=s.m.length∧(∀j,0≤j→j<s.k→gi s.wanted j=0)∧s.d.length=s.m.length
def LU (s:lC):Prop:=(0≤s.i∧s.i≤s.k)∧s.k=(List.length s.m:Int)∧s.k≤1000∧s.wanted.length=s.m.length∧(∀j,0≤j→j<s.k→gi s.wanted j=if j<s.i then if (su s.d j).1=true then (bC s.m j).2.2.2.2.1 else 0 else 0)∧s.d.length=s.m.length
def GH (s:lC):Nat:=(s.k-s.i).toNat
def ajd (x:Ex) (_ s':lC):Prop:=x=.exit 0∧s'.wanted=zn s'.m.length (fun j=>if (su s'.d j).1=true then (bC s'.m j).2.2.2.2.1 else 0)
theorem ay9:∀s,acf s→LU s:=by
 intro s h
 obtain ⟨h0,h2,h3,h4,h5,h6⟩:=h
 exact ⟨by omega,h2,h3,h4,fun j j0 j1=>by rw [h5 j j0 j1,if_neg (by omega)],h6⟩
end Go.Proofs.YtlihnbimgclogaaGreatDoor
