/- ControlTargets returns true for all arguments: no current is greater than the target, and all currents together are permitted beside what may be alive. Conditions: none; the table ramp.happens holds what its text says. -/
import Derived.Test.YtlihnbimgclogaaGreatDoorQd3
namespace Go.Proofs.YtlihnbimgclogaaGreatDoor
open Go.Sx
theorem aok (cs:List Cd) (os:List ByteArray) (ks:List Ko) (gs:List Ch) (bs:List Ba):bT Tryz.prog aP (Ip) eu (fun i=>if i=3 then EM.lp else if i=8 then EL.lp else if i=13 then EK.lp else if i=18 then EJ.lp else if i=23 then EI.lp else aB i) Tryz.f98 [.agg [.xl dX cs,.xl .str os,.xl dY ks,.xl dS gs,.xl dZ bs]]=.req (0=0∧0=List.length ([]:List ByteArray)) (.req (ayo (⟨cs,(List.length cs:Int),(0:Int),cs,os,ks,gs,bs,([]:List ByteArray)⟩:iR)) (.rl (gK (⟨cs,(List.length cs:Int),(0:Int),cs,os,ks,gs,bs,([]:List ByteArray)⟩:iR)).out (.req (ayn (⟨os,(List.length os:Int),(0:Int),cs,os,ks,gs,bs,(gK (⟨cs,(List.length cs:Int),(0:Int),cs,os,ks,gs,bs,([]:List ByteArray)⟩:iR)).out⟩:jB)) (.rl (iw (⟨os,(List.length os:Int),(0:Int),cs,os,ks,gs,bs,(gK (⟨cs,(List.length cs:Int),(0:Int),cs,os,ks,gs,bs,([]:List ByteArray)⟩:iR)).out⟩:jB)).out (.req (aym (⟨ks,(List.length ks:Int),(0:Int),cs,os,ks,gs,bs,(iw (⟨os,(List.length os:Int),(0:Int),cs,os,ks,gs,bs,(gK (⟨cs,(List.length cs:Int),(0:Int),cs,os,ks,gs,bs,([]:List ByteArray)⟩:iR)).out⟩:jB)).out⟩:jT)) (.rl (ja (⟨ks,(List.length ks:Int),(0:Int),cs,os,ks,gs,bs,(iw (⟨os,(List.length os:Int),(0:Int),cs,os,ks,gs,bs,(gK (⟨cs,(List.length cs:Int),(0:Int),cs,os,ks,gs,bs,([]:List ByteArray)⟩:iR)).out⟩:jB)).out⟩:jT)).out (.req (ayl (⟨gs,(List.length gs:Int),(0:Int),cs,os,ks,gs,bs,(ja (⟨ks,(List.length ks:Int),(0:Int),cs,os,ks,gs,bs,(iw (⟨os,(List.length os:Int),(0:Int),cs,os,ks,gs,bs,(gK (⟨cs,(List.length cs:Int),(0:Int),cs,os,ks,gs,bs,([]:List ByteArray)⟩:iR)).out⟩:jB)).out⟩:jT)).out⟩:kS)) (.rl (jX (⟨gs,(List.length gs:Int),(0:Int),cs,os,ks,gs,bs,(ja (⟨ks,(List.length ks:Int),(0:Int),cs,os,ks,gs,bs,(iw (⟨os,(List.length os:Int),(0:Int),cs,os,ks,gs,bs,(gK (⟨cs,(List.length cs:Int),(0:Int),cs,os,ks,gs,bs,([]:List ByteArray)⟩:iR)).out⟩:jB)).out⟩:jT)).out⟩:kS)).out (.req (ayk (⟨bs,(List.length bs:Int),(0:Int),(jX (⟨gs,(List.length gs:Int),(0:Int),cs,os,ks,gs,bs,(ja (⟨ks,(List.length ks:Int),(0:Int),cs,os,ks,gs,bs,(iw (⟨os,(List.length os:Int),(0:Int),cs,os,ks,gs,bs,(gK (⟨cs,(List.length cs:Int),(0:Int),cs,os,ks,gs,bs,([]:List ByteArray)⟩:iR)).out⟩:jB)).out⟩:jT)).out⟩:kS)).out⟩:mQ)) (.req (0+(List.length (mg (⟨bs,(List.length bs:Int),(0:Int),(jX (⟨gs,(List.length gs:Int),(0:Int),cs,os,ks,gs,bs,(ja (⟨ks,(List.length ks:Int),(0:Int),cs,os,ks,gs,bs,(iw (⟨os,(List.length os:Int),(0:Int),cs,os,ks,gs,bs,(gK (⟨cs,(List.length cs:Int),(0:Int),cs,os,ks,gs,bs,([]:List ByteArray)⟩:iR)).out⟩:jB)).out⟩:jT)).out⟩:kS)).out⟩:mQ)).out)≤List.length (mg (⟨bs,(List.length bs:Int),(0:Int),(jX (⟨gs,(List.length gs:Int),(0:Int),cs,os,ks,gs,bs,(ja (⟨ks,(List.length ks:Int),(0:Int),cs,os,ks,gs,bs,(iw (⟨os,(List.length os:Int),(0:Int),cs,os,ks,gs,bs,(gK (⟨cs,(List.length cs:Int),(0:Int),cs,os,ks,gs,bs,([]:List ByteArray)⟩:iR)).out⟩:jB)).out⟩:jT)).out⟩:kS)).out⟩:mQ)).out) (.ok (.xl .str (((mg (⟨bs,(List.length bs:Int),(0:Int),(jX (⟨gs,(List.length gs:Int),(0:Int),cs,os,ks,gs,bs,(ja (⟨ks,(List.length ks:Int),(0:Int),cs,os,ks,gs,bs,(iw (⟨os,(List.length os:Int),(0:Int),cs,os,ks,gs,bs,(gK (⟨cs,(List.length cs:Int),(0:Int),cs,os,ks,gs,bs,([]:List ByteArray)⟩:iR)).out⟩:jB)).out⟩:jT)).out⟩:kS)).out⟩:mQ)).out.drop 0).take (List.length (mg (⟨bs,(List.length bs:Int),(0:Int),(jX (⟨gs,(List.length gs:Int),(0:Int),cs,os,ks,gs,bs,(ja (⟨ks,(List.length ks:Int),(0:Int),cs,os,ks,gs,bs,(iw (⟨os,(List.length os:Int),(0:Int),cs,os,ks,gs,bs,(gK (⟨cs,(List.length cs:Int),(0:Int),cs,os,ks,gs,bs,([]:List ByteArray)⟩:iR)).out⟩:jB)).out⟩:jT)).out⟩:kS)).out⟩:mQ)).out)))))))))))))):=by kernel_rfl
theorem atw:Valid Tryz.prog aP 98 X0:=aH Tryz.func98 rfl KN aF (L:=(fun i=>if i=3 then EM.lp else if i=8 then EL.lp else if i=13 then EK.lp else if i=18 then EJ.lp else if i=23 then EI.lp else aB i)) (fun b hb=>by
 rw [show aC _=[Bh,Bg,Bf,Be,Bd] by kernel_rfl] at hb
 simp only [List.mem_cons,List.not_mem_nil,or_false] at hb
 rcases hb with rfl|rfl|rfl|rfl|rfl
 ·exact ami
 ·exact amh
 ·exact amg
 ·exact amf
 ·exact ame) (fun args lv h=>by
 unfold acu at h
 split at h
 ·simp only [canL,canX]
  rw [aok]
  rename_i cs os ks gs bs
  obtain ⟨⟨hc,ho,hk,hg,hb⟩,rfl⟩:=h
  have hE0:UX ⟨cs,(List.length cs:Int),(0:Int),cs,os,ks,gs,bs,([]:List ByteArray)⟩:=⟨rfl,rfl,hc,by simp only;decide⟩
  have o0:=anL _ hE0
  refine ⟨⟨rfl,rfl⟩,⟨hE0,rfl,rfl⟩,?_⟩
  generalize (gK ⟨cs,(List.length cs:Int),(0:Int),cs,os,ks,gs,bs,([]:List ByteArray)⟩).out=r0 at*
  have o0:r0=([]:List ByteArray)++cs.map (·.1):=o0
  have l0:(List.length r0:Int)≤1000:=by rw [o0];simp only [List.length_append,List.length_map,List.length_nil];omega
  have hE1:UW ⟨os,(List.length os:Int),(0:Int),cs,os,ks,gs,bs,r0⟩:=⟨rfl,rfl,ho,by simp only;omega⟩
  have o1:=anJ _ hE1
  refine ⟨⟨rfl,rfl⟩,⟨hE1,rfl,rfl⟩,?_⟩
  generalize (iw ⟨os,(List.length os:Int),(0:Int),cs,os,ks,gs,bs,r0⟩).out=r1 at*
  have o1:r1=r0++os:=o1
  have l1:(List.length r1:Int)≤2000:=by rw [o1];simp only [List.length_append];omega
  have hE2:UU ⟨ks,(List.length ks:Int),(0:Int),cs,os,ks,gs,bs,r1⟩:=⟨rfl,rfl,hk,by simp only;omega⟩
  have o2:=anH _ hE2
  refine ⟨⟨rfl,rfl⟩,⟨hE2,rfl,rfl⟩,?_⟩
  generalize (ja ⟨ks,(List.length ks:Int),(0:Int),cs,os,ks,gs,bs,r1⟩).out=r2 at*
  have o2:r2=r1++ks.map (·.1):=o2
  have l2:(List.length r2:Int)≤3000:=by rw [o2];simp only [List.length_append,List.length_map];omega
  have hE3:UR ⟨gs,(List.length gs:Int),(0:Int),cs,os,ks,gs,bs,r2⟩:=⟨rfl,rfl,hg,by simp only;omega⟩
  have o3:=anF _ hE3
  refine ⟨⟨rfl,rfl⟩,⟨hE3,rfl,rfl⟩,?_⟩
  generalize (jX ⟨gs,(List.length gs:Int),(0:Int),cs,os,ks,gs,bs,r2⟩).out=r3 at*
  have o3:r3=r2++gs.map (·.1):=o3
  have l3:(List.length r3:Int)≤4000:=by rw [o3];simp only [List.length_append,List.length_map];omega
  have hE4:UQ ⟨bs,(List.length bs:Int),(0:Int),r3⟩:=⟨rfl,rfl,hb,by simp only;omega⟩
  have o4:=anD _ hE4
  refine ⟨⟨rfl,rfl⟩,⟨hE4,rfl,rfl⟩,?_⟩
  generalize (mg ⟨bs,(List.length bs:Int),(0:Int),r3⟩).out=r4 at*
  have o4:r4=r3++bs.map (·.1):=o4
  have l4:(List.length r4:Int)≤5000:=by rw [o4];simp only [List.length_append,List.length_map];omega
  refine ⟨by omega,?_⟩
  show LV.xl _ _=_
  rw [List.drop_zero,List.take_of_length_le (by omega),o4,o3,o2,o1,o0,List.nil_append]
  rfl
 ·cases h)
end Go.Proofs.YtlihnbimgclogaaGreatDoor
namespace Go.Proofs.YtlihnbimgclogaaGreatDoor
open Go.Sx
structure iU where
 r:Bool
 l:List Cd
 n:Int
 i:Int
 ah:List Cd
 aA:List ByteArray
 ai:List Ko
 ak:List Ch
 aJ:List Ba
def aCV (s:iU):List LV:=[.own 0 0,.v (.bool s.r),.xl dX s.l,.v (.int .i64 s.n),.v (.int .i64 s.i)]
def aBU (s:iU):List aU:=[⟨[.xl dX s.ah,.xl .str s.aA,.xl dY s.ai,.xl dS s.ak,.xl dZ s.aJ],28,.cl,false⟩]
noncomputable def Am:Code:=((aC (Tryz.f100.body.getD .skip))[0]?).getD .skip
def YO (s:iU):T (Rd iU):=
 .br (decide (s.i<s.n)) (.req (0≤s.i∧s.i<(List.length s.l:Int)) (.req (0≤s.i) (.br (!(D8 s.i (fO s.l s.i))) (.ok (.stop (.ret) {s with r:=false})) (.ok (.next {s with i:=(IntKind.i64.wrap (s.i+1))}))))) (.ok (.stop (.exit 0) s))
abbrev arX (s:iU):=(YO s).rd s
def Jl (s:iU) (j:Int):Bool:=D8 j (fO s.l j)
def akR (s:iU):Prop:=s.i=0∧0≤s.n∧s.n≤1000∧s.n=(s.l.length:Int)
def Lu (s:iU):Prop:=0≤s.i∧s.i≤s.n∧s.n≤1000∧(s.n=(s.l.length:Int))∧∀j:Nat,(j:Int)<s.i→Jl s j=true
def NW (s:iU):Nat:=(s.n-s.i).toNat
def akd (x:Ex) (_ s':iU):Prop:=(x=.exit 0∧∀j:Nat,(j:Int)<s'.n→Jl s' j=true)∨(x=.ret∧s'.r=false∧∃j:Nat,(j:Int)<s'.n∧Jl s' j=false)
theorem ay0:∀s,akR s→Lu s:=by
 intro s h
 obtain ⟨h0,h1,h2,h3⟩:=h
 exact ⟨by omega,by omega,h2,h3,fun j hj=>by omega⟩
theorem as4 (s:iU) (hI:Lu s):bJ (fun s'=>Lu s'∧NW s'<NW s) (fun x s'=>akd x s s') (arX s):=by
 unfold arX YO
 dsimp only [T.rd,T.rl]
 obtain ⟨h0,h1,h2,h3,h4⟩:=hI
 refine au (fun c1=>au (fun c2=>?_) (fun c2=>?_)) (fun c1=>?_)
 ·have c1:s.i<s.n:=by simpa using c1
  refine .inr ⟨rfl,rfl,s.i.toNat,by simp only;omega,?_⟩
  rw [Int.toNat_of_nonneg (by omega)]
  have hg:Jl s s.i=false:=by unfold Jl;(first|(have c2:(!(D8 s.i (fO s.l s.i)))=false:=c2;simpa using c2) |(have c2:(!(D8 s.i (fO s.l s.i)))=true:=c2;simpa using c2))
  exact hg
 ·have c1:s.i<s.n:=by simpa using c1
  have hg:Jl s s.i=true:=by unfold Jl;(first|(have c2:(!(D8 s.i (fO s.l s.i)))=false:=c2;simpa using c2) |(have c2:(!(D8 s.i (fO s.l s.i)))=true:=c2;simpa using c2))
  rw [aK (x:=s.i+1) (by omega) (by omega)]
  refine ⟨⟨by simp only;omega,by simp only;omega,h2,h3,fun j hj=>?_⟩,by simp only [NW];omega⟩
  by_cases hji:(j:Int)<s.i
  ·exact h4 j hji
  ·have:(j:Int)=s.i:=by simp only at hj;omega
   rw [this];exact hg
 ·have c1:s.n≤s.i:=by simpa using c1
  exact .inl ⟨rfl,fun j hj=>h4 j (by omega)⟩
def Ee:bK iU:=⟨0,95,[1,2,13,14,15],[],aCV,aBU,fun v b=>⟨vg (v.getD 1 .junk),aQ dX (v.getD 2 .junk),gI (v.getD 3 .junk),gI (v.getD 4 .junk),aQ dX (aX (aO b 0) 0),aQ .str (aX (aO b 0) 1),aQ dY (aX (aO b 0) 2),aQ dS (aX (aO b 0) 3),aQ dZ (aX (aO b 0) 4)⟩,YO,fun s r=> {r with l:=s.l,n:=s.n,ah:=s.ah,aA:=s.aA,ai:=s.ai,ak:=s.ak,aJ:=s.aJ},fun s=>s,fun _ s=>s,[.ret,.exit 0],akR,Lu,NW⟩
abbrev l7:=Ee.run
abbrev abe:=Ee.jJ
abbrev axS:=Ee.q
theorem auv (s:iU) (hI:Lu s):(YO s).all (fun _=>True):=by
 refine ⟨fun c1=>⟨?_,?_,fun _=>trivial,fun _=>trivial⟩,fun _=>trivial⟩
 all_goals ((obtain ⟨h0,h1,h2,h3,h4⟩:=hI;simp at c1;omega))
noncomputable def KP:Specs:=aZ [(126,XD),(127,uG),(128,XE)]
theorem SL:∀g S,KP g=some S→Valid Tryz.prog aP g S:=aS (l:=[(126,XD),(127,uG),(128,XE)]) ⟨as9,Nk,ata,trivial⟩
theorem agG:Ee.Ok:=⟨fun s=>by kernel_rfl,fun s=>by kernel_rfl,fun s=>rfl,fun s t r=>rfl,fun s=>rfl,fun s=>by kernel_rfl⟩
theorem afx:Ee.Pf (akd):=⟨ay0,fun _ _=>rfl,as4,auv⟩
theorem alM:bg Tryz.prog aP (AN 0) (.loop Am) Ee.lp:=bK.snd agG afx (aT (Γ:=KP) (K:=eu) (L:=aB) SL aF Am (fun b hb=>by rw [show aC Am=[] by kernel_rfl] at hb;cases hb)) (fun s=>by kernel_rfl)
theorem alm (s:iU) (hE:akR s):∃s',Lu s'∧akd (abe s) s' (l7 s):=bK.fin agG afx s hE
structure jQ where
 r:Bool
 l:List Ko
 n:Int
 i:Int
 ah:List Cd
 aA:List ByteArray
 ai:List Ko
 ak:List Ch
 aJ:List Ba
 cards:List Int
def aCU (s:jQ):List LV:=[.own 0 0,.v (.bool s.r),.om 1,.xl dY s.l,.v (.int .i64 s.n),.v (.int .i64 s.i)]
def aBT (s:jQ):List aU:=[⟨[.xl dX s.ah,.xl .str s.aA,.xl dY s.ai,.xl dS s.ak,.xl dZ s.aJ],28,.cl,false⟩,⟨[],183,.st (.int .i64) s.cards,false⟩]
noncomputable def Ak:Code:=((aC (Tryz.f100.body.getD .skip))[1]?).getD .skip
def YN (s:jQ):T (Rd jQ):=
 .br (decide (s.i<s.n)) (.req (0≤s.i∧s.i<(List.length s.l:Int)) (.br ((!(inB (nD s.l s.i).2.1 (0:Int) (IntKind.i64.wrap ((List.length s.aA:Int)-1)))) ||((!(inB (nD s.l s.i).2.2.1 (1:Int) (9:Int))) ||((!(inB (nD s.l s.i).2.2.2 (1:Int) (1000000:Int))) ||(List.contains s.cards (nD s.l s.i).2.2.2)))) (.ok (.stop (.ret) {s with r:=false})) (.req (List.contains s.cards (nD s.l s.i).2.2.2=false) (.ok (.next {s with i:=(IntKind.i64.wrap (s.i+1)),cards:=(s.cards++[(nD s.l s.i).2.2.2])}))))) (.ok (.stop (.exit 2) s))
abbrev arW (s:jQ):=(YN s).rd s
def Jk (s:jQ) (j:Int):Bool:=koV s.aA.length (nD s.l j)&&!(((s.l.take j.toNat).map (·.2.2.2)).contains (nD s.l j).2.2.2)
def akQ (s:jQ):Prop:=s.i=0∧s.cards=[]∧s.n=(s.l.length:Int)∧s.n≤1000∧(s.aA.length:Int)≤1000
def Ls (s:jQ):Prop:=0≤s.i∧s.i≤s.n∧s.n=(s.l.length:Int)∧s.n≤1000∧((s.aA.length:Int)≤1000)∧s.cards=(s.l.take s.i.toNat).map (·.2.2.2)∧∀j:Nat,(j:Int)<s.i→Jk s j=true
def NV (s:jQ):Nat:=(s.n-s.i).toNat
def akc (x:Ex) (_ s':jQ):Prop:=(x=.exit 2∧∀j:Nat,(j:Int)<s'.n→Jk s' j=true)∨(x=.ret∧s'.r=false∧∃j:Nat,(j:Int)<s'.n∧Jk s' j=false)
theorem ayZ:∀s,akQ s→Ls s:=by
 intro s h
 obtain ⟨h0,h1,h2,h3,h4⟩:=h
 exact ⟨by omega,by omega,h2,h3,h4,by rw [h0,h1];rfl,fun j hj=>by omega⟩
theorem as3 (s:jQ) (hI:Ls s):bJ (fun s'=>Ls s'∧NV s'<NV s) (fun x s'=>akc x s s') (arW s):=by
 unfold arW YN
 dsimp only [T.rd,T.rl]
 obtain ⟨h0,h1,h2,h3,h4,h5,h6⟩:=hI
 refine au (fun c1=>au (fun c2=>?_) (fun c2=>?_)) (fun c1=>?_)
 ·have c1:s.i<s.n:=by simpa using c1
  refine .inr ⟨rfl,rfl,s.i.toNat,by simp only;omega,?_⟩
  rw [Int.toNat_of_nonneg h0]
  have hg:Jk s s.i=false:=by
   unfold Jk
   (rw [aK (by omega) (by omega),h5] at c2;unfold koV;revert c2;generalize inB (nD s.l s.i).2.1 _ _=a;generalize inB (nD s.l s.i).2.2.1 _ _=b;generalize inB (nD s.l s.i).2.2.2 _ _=c;generalize List.contains (α:=Int) _ _=d;cases a<;>cases b<;>cases c<;>cases d<;>simp)
  exact hg
 ·have c1:s.i<s.n:=by simpa using c1
  have hg:Jk s s.i=true:=by
   unfold Jk
   (rw [aK (by omega) (by omega),h5] at c2;unfold koV;revert c2;generalize inB (nD s.l s.i).2.1 _ _=a;generalize inB (nD s.l s.i).2.2.1 _ _=b;generalize inB (nD s.l s.i).2.2.2 _ _=c;generalize List.contains (α:=Int) _ _=d;cases a<;>cases b<;>cases c<;>cases d<;>simp)
  rw [aK (x:=s.i+1) (by omega) (by omega)]
  refine ⟨⟨by simp only;omega,by simp only;omega,h2,h3,h4,?_,fun j hj=>?_⟩,by simp only [NV];omega⟩
  ·simp only
   rw [(Iq h0 (show s.i<s.l.length by omega)).2,h5]
   try rw [List.map_append]
   try rfl
  ·by_cases hji:(j:Int)<s.i
   ·exact h6 j hji
   ·have:(j:Int)=s.i:=by simp only at hj;omega
    rw [this];exact hg
 ·have c1:s.n≤s.i:=by simpa using c1
  exact .inl ⟨rfl,fun j hj=>h6 j (by omega)⟩
def Ed:bK jQ:=⟨0,95,[1,2,5,27,28,29],[],aCU,aBT,fun v b=>⟨vg (v.getD 1 .junk),aQ dY (v.getD 3 .junk),gI (v.getD 4 .junk),gI (v.getD 5 .junk),aQ dX (aX (aO b 0) 0),aQ .str (aX (aO b 0) 1),aQ dY (aX (aO b 0) 2),aQ dS (aX (aO b 0) 3),aQ dZ (aX (aO b 0) 4),gSe (.int .i64) (aO b 1)⟩,YN,fun s r=> {r with l:=s.l,n:=s.n,ah:=s.ah,aA:=s.aA,ai:=s.ai,ak:=s.ak,aJ:=s.aJ},fun s=>s,fun _ s=>s,[.ret,.exit 2],akQ,Ls,NV⟩
abbrev qN:=Ed.run
abbrev abd:=Ed.jJ
abbrev axR:=Ed.q
theorem auu (s:jQ) (hI:Ls s):(YN s).all (fun _=>True):=by
 refine ⟨fun c1=>⟨?_,fun _=>trivial,fun c2=>⟨?_,trivial⟩⟩,fun _=>trivial⟩
 all_goals ((obtain ⟨h0,h1,h2,h3,h4,h5,h6⟩:=hI;first|(simp at c1;omega) |(simp only [Bool.or_eq_false_iff] at c2;exact c2.2.2.2)))
theorem agF:Ed.Ok:=⟨fun s=>by kernel_rfl,fun s=>by kernel_rfl,fun s=>rfl,fun s t r=>rfl,fun s=>rfl,fun s=>by kernel_rfl⟩
theorem afw:Ed.Pf (akc):=⟨ayZ,fun _ _=>rfl,as3,auu⟩
theorem alL:bg Tryz.prog aP (AN 0) (.loop Ak) Ed.lp:=bK.snd agF afw (aT (Γ:=KP) (K:=eu) (L:=aB) SL aF Ak (fun b hb=>by rw [show aC Ak=[] by kernel_rfl] at hb;cases hb)) (fun s=>by kernel_rfl)
theorem alk (s:jQ) (hE:akQ s):∃s',Ls s'∧akc (abd s) s' (qN s):=bK.fin agF afw s hE
structure lJ where
 r:Bool
 l:List Ch
 n:Int
 i:Int
 ah:List Cd
 aA:List ByteArray
 ai:List Ko
 ak:List Ch
 aJ:List Ba
def aCT (s:lJ):List LV:=[.own 0 0,.v (.bool s.r),.xl dS s.l,.v (.int .i64 s.n),.v (.int .i64 s.i)]
def aBS (s:lJ):List aU:=[⟨[.xl dX s.ah,.xl .str s.aA,.xl dY s.ai,.xl dS s.ak,.xl dZ s.aJ],28,.cl,false⟩]
noncomputable def Aj:Code:=((aC (Tryz.f100.body.getD .skip))[2]?).getD .skip
def YM (s:lJ):T (Rd lJ):=
 .br (decide (s.i<s.n)) (.req (0≤s.i∧s.i<(List.length s.l:Int)) (.req ((List.length s.ah:Int)≤1000∧(List.length s.aA:Int)≤1000) (.br (!(FW s.ah.length s.aA.length (bC s.l s.i))) (.ok (.stop (.ret) {s with r:=false})) (.ok (.next {s with i:=(IntKind.i64.wrap (s.i+1))}))))) (.ok (.stop (.exit 4) s))
abbrev arV (s:lJ):=(YM s).rd s
def Jj (s:lJ) (j:Int):Bool:=FW s.ah.length s.aA.length (bC s.l j)
def akP (s:lJ):Prop:=s.i=0∧0≤s.n∧s.n≤1000∧s.n=(s.l.length:Int)∧(s.ah.length:Int)≤1000∧(s.aA.length:Int)≤1000
def Lr (s:lJ):Prop:=0≤s.i∧s.i≤s.n∧s.n≤1000∧(s.n=(s.l.length:Int)∧(s.ah.length:Int)≤1000∧(s.aA.length:Int)≤1000)∧∀j:Nat,(j:Int)<s.i→Jj s j=true
def NU (s:lJ):Nat:=(s.n-s.i).toNat
def akb (x:Ex) (_ s':lJ):Prop:=(x=.exit 4∧∀j:Nat,(j:Int)<s'.n→Jj s' j=true)∨(x=.ret∧s'.r=false∧∃j:Nat,(j:Int)<s'.n∧Jj s' j=false)
theorem ayY:∀s,akP s→Lr s:=by
 intro s h
 obtain ⟨h0,h1,h2,h3⟩:=h
 exact ⟨by omega,by omega,h2,h3,fun j hj=>by omega⟩
theorem as2 (s:lJ) (hI:Lr s):bJ (fun s'=>Lr s'∧NU s'<NU s) (fun x s'=>akb x s s') (arV s):=by
 unfold arV YM
 dsimp only [T.rd,T.rl]
 obtain ⟨h0,h1,h2,h3,h4⟩:=hI
 refine au (fun c1=>au (fun c2=>?_) (fun c2=>?_)) (fun c1=>?_)
 ·have c1:s.i<s.n:=by simpa using c1
  refine .inr ⟨rfl,rfl,s.i.toNat,by simp only;omega,?_⟩
  rw [Int.toNat_of_nonneg (by omega)]
  have hg:Jj s s.i=false:=by unfold Jj;(first|(have c2:(!(FW s.ah.length s.aA.length (bC s.l s.i)))=false:=c2;simpa using c2) |(have c2:(!(FW s.ah.length s.aA.length (bC s.l s.i)))=true:=c2;simpa using c2))
  exact hg
 ·have c1:s.i<s.n:=by simpa using c1
  have hg:Jj s s.i=true:=by unfold Jj;(first|(have c2:(!(FW s.ah.length s.aA.length (bC s.l s.i)))=false:=c2;simpa using c2) |(have c2:(!(FW s.ah.length s.aA.length (bC s.l s.i)))=true:=c2;simpa using c2))
  rw [aK (x:=s.i+1) (by omega) (by omega)]
  refine ⟨⟨by simp only;omega,by simp only;omega,h2,h3,fun j hj=>?_⟩,by simp only [NU];omega⟩
  by_cases hji:(j:Int)<s.i
  ·exact h4 j hji
  ·have:(j:Int)=s.i:=by simp only at hj;omega
   rw [this];exact hg
 ·have c1:s.n≤s.i:=by simpa using c1
  exact .inl ⟨rfl,fun j hj=>h4 j (by omega)⟩
def Ec:bK lJ:=⟨0,95,[1,2,67,68,69],[],aCT,aBS,fun v b=>⟨vg (v.getD 1 .junk),aQ dS (v.getD 2 .junk),gI (v.getD 3 .junk),gI (v.getD 4 .junk),aQ dX (aX (aO b 0) 0),aQ .str (aX (aO b 0) 1),aQ dY (aX (aO b 0) 2),aQ dS (aX (aO b 0) 3),aQ dZ (aX (aO b 0) 4)⟩,YM,fun s r=> {r with l:=s.l,n:=s.n,ah:=s.ah,aA:=s.aA,ai:=s.ai,ak:=s.ak,aJ:=s.aJ},fun s=>s,fun _ s=>s,[.ret,.exit 4],akP,Lr,NU⟩
abbrev zx:=Ec.run
abbrev abb:=Ec.jJ
abbrev axQ:=Ec.q
theorem aut (s:lJ) (hI:Lr s):(YM s).all (fun _=>True):=by
 refine ⟨fun c1=>⟨?_,?_,fun _=>trivial,fun _=>trivial⟩,fun _=>trivial⟩
 all_goals ((obtain ⟨h0,h1,h2,h3,h4⟩:=hI;simp at c1;first|omega|exact h3.2))
theorem agE:Ec.Ok:=⟨fun s=>by kernel_rfl,fun s=>by kernel_rfl,fun s=>rfl,fun s t r=>rfl,fun s=>rfl,fun s=>by kernel_rfl⟩
theorem afv:Ec.Pf (akb):=⟨ayY,fun _ _=>rfl,as2,aut⟩
theorem alK:bg Tryz.prog aP (AN 0) (.loop Aj) Ec.lp:=bK.snd agE afv (aT (Γ:=KP) (K:=eu) (L:=aB) SL aF Aj (fun b hb=>by rw [show aC Aj=[] by kernel_rfl] at hb;cases hb)) (fun s=>by kernel_rfl)
theorem alj (s:lJ) (hE:akP s):∃s',Lr s'∧akb (abb s) s' (zx s):=bK.fin agE afv s hE
structure oH where
 r:Bool
 l:List Ba
 n:Int
 i:Int
 ah:List Cd
 aA:List ByteArray
 ai:List Ko
 ak:List Ch
 aJ:List Ba
def aCS (s:oH):List LV:=[.own 0 0,.v (.bool s.r),.xl dZ s.l,.v (.int .i64 s.n),.v (.int .i64 s.i)]
def aBR (s:oH):List aU:=[⟨[.xl dX s.ah,.xl .str s.aA,.xl dY s.ai,.xl dS s.ak,.xl dZ s.aJ],28,.cl,false⟩]
noncomputable def Ai:Code:=((aC (Tryz.f100.body.getD .skip))[3]?).getD .skip
def YL (s:oH):T (Rd oH):=
 .br (decide (s.i<s.n)) (.req (0≤s.i∧s.i<(List.length s.l:Int)) (.br (!(inB (Ce s.l s.i).2 (0:Int) (IntKind.i64.wrap ((List.length s.ak:Int)-1)))) (.ok (.stop (.ret) {s with r:=false})) (.ok (.next {s with i:=(IntKind.i64.wrap (s.i+1))})))) (.ok (.stop (.exit 6) s))
abbrev arU (s:oH):=(YL s).rd s
def Ji (s:oH) (j:Int):Bool:=inB (Ce s.l j).2 0 (IntKind.i64.wrap ((List.length s.ak:Int)-1))
def akO (s:oH):Prop:=s.i=0∧0≤s.n∧s.n≤1000∧s.n=(s.l.length:Int)
def Lp (s:oH):Prop:=0≤s.i∧s.i≤s.n∧s.n≤1000∧(s.n=(s.l.length:Int))∧∀j:Nat,(j:Int)<s.i→Ji s j=true
def NT (s:oH):Nat:=(s.n-s.i).toNat
def aj9 (x:Ex) (_ s':oH):Prop:=(x=.exit 6∧∀j:Nat,(j:Int)<s'.n→Ji s' j=true)∨(x=.ret∧s'.r=false∧∃j:Nat,(j:Int)<s'.n∧Ji s' j=false)
theorem ayX:∀s,akO s→Lp s:=by
 intro s h
 obtain ⟨h0,h1,h2,h3⟩:=h
 exact ⟨by omega,by omega,h2,h3,fun j hj=>by omega⟩
theorem as1 (s:oH) (hI:Lp s):bJ (fun s'=>Lp s'∧NT s'<NT s) (fun x s'=>aj9 x s s') (arU s):=by
 unfold arU YL
 dsimp only [T.rd,T.rl]
 obtain ⟨h0,h1,h2,h3,h4⟩:=hI
 refine au (fun c1=>au (fun c2=>?_) (fun c2=>?_)) (fun c1=>?_)
 ·have c1:s.i<s.n:=by simpa using c1
  refine .inr ⟨rfl,rfl,s.i.toNat,by simp only;omega,?_⟩
  rw [Int.toNat_of_nonneg (by omega)]
  have hg:Ji s s.i=false:=by unfold Ji;(first|(have c2:(!(inB (Ce s.l s.i).2 0 (IntKind.i64.wrap ((List.length s.ak:Int)-1))))=false:=c2;simpa using c2) |(have c2:(!(inB (Ce s.l s.i).2 0 (IntKind.i64.wrap ((List.length s.ak:Int)-1))))=true:=c2;simpa using c2))
  exact hg
 ·have c1:s.i<s.n:=by simpa using c1
  have hg:Ji s s.i=true:=by unfold Ji;(first|(have c2:(!(inB (Ce s.l s.i).2 0 (IntKind.i64.wrap ((List.length s.ak:Int)-1))))=false:=c2;simpa using c2) |(have c2:(!(inB (Ce s.l s.i).2 0 (IntKind.i64.wrap ((List.length s.ak:Int)-1))))=true:=c2;simpa using c2))
  rw [aK (x:=s.i+1) (by omega) (by omega)]
  refine ⟨⟨by simp only;omega,by simp only;omega,h2,h3,fun j hj=>?_⟩,by simp only [NT];omega⟩
  by_cases hji:(j:Int)<s.i
  ·exact h4 j hji
  ·have:(j:Int)=s.i:=by simp only at hj;omega
   rw [this];exact hg
 ·have c1:s.n≤s.i:=by simpa using c1
  exact .inl ⟨rfl,fun j hj=>h4 j (by omega)⟩
def Eb:bK oH:=⟨0,95,[1,2,79,80,81],[],aCS,aBR,fun v b=>⟨vg (v.getD 1 .junk),aQ dZ (v.getD 2 .junk),gI (v.getD 3 .junk),gI (v.getD 4 .junk),aQ dX (aX (aO b 0) 0),aQ .str (aX (aO b 0) 1),aQ dY (aX (aO b 0) 2),aQ dS (aX (aO b 0) 3),aQ dZ (aX (aO b 0) 4)⟩,YL,fun s r=> {r with l:=s.l,n:=s.n,ah:=s.ah,aA:=s.aA,ai:=s.ai,ak:=s.ak,aJ:=s.aJ},fun s=>s,fun _ s=>s,[.ret,.exit 6],akO,Lp,NT⟩
abbrev Zv:=Eb.run
abbrev aa9:=Eb.jJ
abbrev axP:=Eb.q
theorem aus (s:oH) (hI:Lp s):(YL s).all (fun _=>True):=by
 refine ⟨fun c1=>⟨?_,fun _=>trivial,fun _=>trivial⟩,fun _=>trivial⟩
 ·(obtain ⟨h0,h1,h2,h3,h4⟩:=hI;simp at c1;omega)
theorem agD:Eb.Ok:=⟨fun s=>by kernel_rfl,fun s=>by kernel_rfl,fun s=>rfl,fun s t r=>rfl,fun s=>rfl,fun s=>by kernel_rfl⟩
theorem afu:Eb.Pf (aj9):=⟨ayX,fun _ _=>rfl,as1,aus⟩
theorem alJ:bg Tryz.prog aP (AN 0) (.loop Ai) Eb.lp:=bK.snd agD afu (aT (Γ:=KP) (K:=eu) (L:=aB) SL aF Ai (fun b hb=>by rw [show aC Ai=[] by kernel_rfl] at hb;cases hb)) (fun s=>by kernel_rfl)
theorem ali (s:oH) (hE:akO s):∃s',Lp s'∧aj9 (aa9 s) s' (Zv s):=bK.fin agD afu s hE
def abT:List LV→T LV
 | [.agg [.xl (.pair .str (.pair (.int .i64) (.pair (.int .i64) (.pair (.int .i64) (.pair (.pair (.int .i64) (.int .i64)) (.pair (.int .i64) (.pair (.int .i64) (.pair (.int .i64) (.pair (.int .i64) (.int .i64)))))))))) cs,.xl (.str) os,.xl (.pair .str (.pair (.int .i64) (.pair (.int .i64) (.int .i64)))) ks,.xl (.pair .str (.pair (.int .i64) (.pair (.int .i64) (.pair (.int .i64) (.pair (.int .i64) (.pair (.int .i64) (.pair (.int .i64) (.int .i64)))))))) gs,.xl (.pair .str (.int .i64)) bs]]=> .req ((List.length cs:Int)≤1000∧(List.length os:Int)≤1000∧(List.length ks:Int)≤1000∧(List.length gs:Int)≤1000∧(List.length bs:Int)≤1000) (.ok (.v (.bool (U6 cs os ks gs bs))))
 |_=> .no
noncomputable def XC:List LV→T LV:=gB Tryz.prog Tryz.f100.params.toList abT
theorem anR (cs:List Cd) (os:List ByteArray) (ks:List Ko) (gs:List Ch) (bs:List Ba):bT Tryz.prog aP (KP) eu (fun i=>if i=2 then Ee.lp else if i=9 then Ed.lp else if i=16 then Ec.lp else if i=22 then Eb.lp else aB i) Tryz.f100 [.agg [.xl dX cs,.xl .str os,.xl dY ks,.xl dS gs,.xl dZ bs]]=.req (axS (⟨false,cs,(List.length cs:Int),(0:Int),cs,os,ks,gs,bs⟩:iU)) (.br (iy (abe (⟨false,cs,(List.length cs:Int),(0:Int),cs,os,ks,gs,bs⟩:iU)) (.ret)) (.ok (.v (.bool (l7 (⟨false,cs,(List.length cs:Int),(0:Int),cs,os,ks,gs,bs⟩:iU)).r))) (.req (axR (⟨(l7 (⟨false,cs,(List.length cs:Int),(0:Int),cs,os,ks,gs,bs⟩:iU)).r,ks,(List.length ks:Int),(0:Int),cs,os,ks,gs,bs,([]:List Int)⟩:jQ)) (.br (iy (abd (⟨(l7 (⟨false,cs,(List.length cs:Int),(0:Int),cs,os,ks,gs,bs⟩:iU)).r,ks,(List.length ks:Int),(0:Int),cs,os,ks,gs,bs,([]:List Int)⟩:jQ)) (.ret)) (.ok (.v (.bool (qN (⟨(l7 (⟨false,cs,(List.length cs:Int),(0:Int),cs,os,ks,gs,bs⟩:iU)).r,ks,(List.length ks:Int),(0:Int),cs,os,ks,gs,bs,([]:List Int)⟩:jQ)).r))) (.req (axQ (⟨(qN (⟨(l7 (⟨false,cs,(List.length cs:Int),(0:Int),cs,os,ks,gs,bs⟩:iU)).r,ks,(List.length ks:Int),(0:Int),cs,os,ks,gs,bs,([]:List Int)⟩:jQ)).r,gs,(List.length gs:Int),(0:Int),cs,os,ks,gs,bs⟩:lJ)) (.br (iy (abb (⟨(qN (⟨(l7 (⟨false,cs,(List.length cs:Int),(0:Int),cs,os,ks,gs,bs⟩:iU)).r,ks,(List.length ks:Int),(0:Int),cs,os,ks,gs,bs,([]:List Int)⟩:jQ)).r,gs,(List.length gs:Int),(0:Int),cs,os,ks,gs,bs⟩:lJ)) (.ret)) (.ok (.v (.bool (zx (⟨(qN (⟨(l7 (⟨false,cs,(List.length cs:Int),(0:Int),cs,os,ks,gs,bs⟩:iU)).r,ks,(List.length ks:Int),(0:Int),cs,os,ks,gs,bs,([]:List Int)⟩:jQ)).r,gs,(List.length gs:Int),(0:Int),cs,os,ks,gs,bs⟩:lJ)).r))) (.req (axP (⟨(zx (⟨(qN (⟨(l7 (⟨false,cs,(List.length cs:Int),(0:Int),cs,os,ks,gs,bs⟩:iU)).r,ks,(List.length ks:Int),(0:Int),cs,os,ks,gs,bs,([]:List Int)⟩:jQ)).r,gs,(List.length gs:Int),(0:Int),cs,os,ks,gs,bs⟩:lJ)).r,bs,(List.length bs:Int),(0:Int),cs,os,ks,gs,bs⟩:oH)) (.br (iy (aa9 (⟨(zx (⟨(qN (⟨(l7 (⟨false,cs,(List.length cs:Int),(0:Int),cs,os,ks,gs,bs⟩:iU)).r,ks,(List.length ks:Int),(0:Int),cs,os,ks,gs,bs,([]:List Int)⟩:jQ)).r,gs,(List.length gs:Int),(0:Int),cs,os,ks,gs,bs⟩:lJ)).r,bs,(List.length bs:Int),(0:Int),cs,os,ks,gs,bs⟩:oH)) (.ret)) (.ok (.v (.bool (Zv (⟨(zx (⟨(qN (⟨(l7 (⟨false,cs,(List.length cs:Int),(0:Int),cs,os,ks,gs,bs⟩:iU)).r,ks,(List.length ks:Int),(0:Int),cs,os,ks,gs,bs,([]:List Int)⟩:jQ)).r,gs,(List.length gs:Int),(0:Int),cs,os,ks,gs,bs⟩:lJ)).r,bs,(List.length bs:Int),(0:Int),cs,os,ks,gs,bs⟩:oH)).r))) (.ok (.v (.bool true)))))))))):=by kernel_rfl
theorem as8:Valid Tryz.prog aP 100 XC:=aH Tryz.func100 rfl SL aF (L:=(fun i=>if i=2 then Ee.lp else if i=9 then Ed.lp else if i=16 then Ec.lp else if i=22 then Eb.lp else aB i)) (fun b hb=>by
 rw [show aC _=[Am,Ak,Aj,Ai] by kernel_rfl] at hb
 simp only [List.mem_cons,List.not_mem_nil,or_false] at hb
 rcases hb with rfl|rfl|rfl|rfl
 ·exact alM
 ·exact alL
 ·exact alK
 ·exact alJ) (fun args lv h=>by
 unfold abT at h
 split at h
 ·simp only [canL,canX]
  rw [anR]
  rename_i cs os ks gs bs
  obtain ⟨⟨hc,ho,hk,hg,hb⟩,rfl⟩:=h
  refine mP ⟨⟨rfl,by simp only;omega,hc,rfl⟩,rfl,rfl⟩ (fun hE0=>?_)
  obtain ⟨s',_,hq⟩:=alm _ hE0.1
  rcases hq with ⟨q1,q2⟩ |⟨q1,q2,j,q3,q4⟩
  rotate_left
  ·rw [q1,q2]
   refine ⟨fun _=>congrArg (fun z=>LV.v (.bool z)) ?_,fun h=>by cases h⟩
   unfold U6
   rw [tN (f:=fun j=>D8 j (fO cs j)) j q3 q4]
   rfl
  rw [q1]
  refine ⟨fun h=>(by cases h),fun _=>?_⟩
  have g0:JL cs.length (fun j=>D8 j (fO cs j))=true:=fU.2 q2
  refine mP ⟨⟨rfl,rfl,rfl,hk,ho⟩,rfl,rfl⟩ (fun hE1=>?_)
  obtain ⟨s',_,hq⟩:=alk _ hE1.1
  rcases hq with ⟨q1,q2⟩ |⟨q1,q2,j,q3,q4⟩
  rotate_left
  ·rw [q1,q2]
   refine ⟨fun _=>congrArg (fun z=>LV.v (.bool z)) ?_,fun h=>by cases h⟩
   unfold U6
   have hn:(ks.all (koV os.length)&&once (ks.map (·.2.2.2)))=false:=by
    rw [Bool.eq_false_iff];intro hx
    have:=(kN (d:=(emp,0,0,0))).2 hx j q3
    exact Bool.noConfusion (this.symm.trans q4)
   rw [g0,Bool.true_and,←Bool.and_assoc,hn]
   rfl
  rw [q1]
  refine ⟨fun h=>(by cases h),fun _=>?_⟩
  have g1:(ks.all (koV os.length)&&once (ks.map (·.2.2.2)))=true:=(kN (d:=(emp,0,0,0))).1 q2
  refine mP ⟨⟨rfl,by simp only;omega,hg,rfl,hc,ho⟩,rfl,rfl⟩ (fun hE2=>?_)
  obtain ⟨s',_,hq⟩:=alj _ hE2.1
  rcases hq with ⟨q1,q2⟩ |⟨q1,q2,j,q3,q4⟩
  rotate_left
  ·rw [q1,q2]
   refine ⟨fun _=>congrArg (fun z=>LV.v (.bool z)) ?_,fun h=>by cases h⟩
   unfold U6
   have hn:gs.all (FW cs.length os.length)=false:=by
    rw [Bool.eq_false_iff];intro hx
    have:=(iO (d:=(emp,0,0,0,0,0,0,0))).2 hx j q3
    exact Bool.noConfusion (this.symm.trans q4)
   rw [g0,Bool.true_and,←Bool.and_assoc,g1,hn]
   rfl
  rw [q1]
  refine ⟨fun h=>(by cases h),fun _=>?_⟩
  have g2:gs.all (FW cs.length os.length)=true:=(iO (d:=(emp,0,0,0,0,0,0,0))).1 q2
  have hw:=aK (x:=(List.length gs:Int)-1) (by omega) (by omega)
  refine mP ⟨⟨rfl,by simp only;omega,hb,rfl⟩,rfl,rfl⟩ (fun hE3=>?_)
  obtain ⟨s',_,hq⟩:=ali _ hE3.1
  rcases hq with ⟨q1,q2⟩ |⟨q1,q2,j,q3,q4⟩
  rotate_left
  ·rw [q1,q2]
   refine ⟨fun _=>congrArg (fun z=>LV.v (.bool z)) ?_,fun h=>by cases h⟩
   unfold U6
   have hn:bs.all (fun b=>inB b.2 0 ((gs.length:Int)-1))=false:=by
    rw [Bool.eq_false_iff];intro hx
    have:=(iO (d:=(emp,0))).2 hx j q3
    have q4:inB (Ce bs j).2 0 (IntKind.i64.wrap ((List.length gs:Int)-1))=false:=q4
    rw [hw] at q4
    exact Bool.noConfusion (this.symm.trans q4)
   rw [g0,Bool.true_and,←Bool.and_assoc,g1,g2,hn]
   rfl
  rw [q1]
  refine ⟨fun h=>(by cases h),fun _=>?_⟩
  have g3:bs.all (fun b=>inB b.2 0 ((gs.length:Int)-1))=true:=(iO (d:=(emp,0))).1 (fun j hj=>by
   have:inB (Ce bs j).2 0 (IntKind.i64.wrap ((List.length gs:Int)-1))=true:=q2 j hj
   rw [hw] at this
   exact this)
  refine congrArg (fun z=>LV.v (.bool z)) ?_
  unfold U6
  rw [g0,Bool.true_and,←Bool.and_assoc,g1,g2,g3]
  rfl
 ·cases h)
end Go.Proofs.YtlihnbimgclogaaGreatDoor
namespace Go.Proofs.YtlihnbimgclogaaGreatDoor
open Go.Sx
structure wL where
 r:Bool
 l:List ByteArray
 n:Int
 i:Int
 ah:List Cd
 aA:List ByteArray
 ai:List Ko
 ak:List Ch
 aJ:List Ba
 seen:List ByteArray
def aEA (s:wL):List LV:=[.own 0 0,.v (.bool s.r),.om 1,.xl .str s.l,.v (.int .i64 s.n),.v (.int .i64 s.i)]
def aEs (s:wL):List aU:=[⟨[.xl dX s.ah,.xl .str s.aA,.xl dY s.ai,.xl dS s.ak,.xl dZ s.aJ],28,.cl,false⟩,⟨[],149,.st .str s.seen,false⟩]
noncomputable def FY:Code:=((aC (Tryz.f53.body.getD .skip))[0]?).getD .skip
def alB (s:wL):T (Rd wL):=
 .br (decide (s.i<s.n)) (.req (0≤s.i∧s.i<(List.length s.l:Int)) (.br ((!(nameB (gS s.l s.i))) ||(List.contains s.seen (gS s.l s.i))) (.ok (.stop (.ret) {s with r:=false})) (.req (List.contains s.seen (gS s.l s.i)=false) (.ok (.next {s with i:=(IntKind.i64.wrap (s.i+1)),seen:=(s.seen++[(gS s.l s.i)])}))))) (.ok (.stop (.exit 0) s))
abbrev aBd (s:wL):=(alB s).rd s
def Yu (s:wL) (j:Int):Bool:=nameB (gS s.l j)&&!(((s.l.take j.toNat).map id).contains (gS s.l j))
def axT (s:wL):Prop:=s.i=0∧s.seen=[]∧s.n=(s.l.length:Int)∧s.n≤1000∧True
def ael (s:wL):Prop:=0≤s.i∧s.i≤s.n∧s.n=(s.l.length:Int)∧s.n≤1000∧(True)∧s.seen=(s.l.take s.i.toNat).map id∧∀j:Nat,(j:Int)<s.i→Yu s j=true
def Z4 (s:wL):Nat:=(s.n-s.i).toNat
def axJ (x:Ex) (_ s':wL):Prop:=(x=.exit 0∧∀j:Nat,(j:Int)<s'.n→Yu s' j=true)∨(x=.ret∧s'.r=false∧∃j:Nat,(j:Int)<s'.n∧Yu s' j=false)
theorem aD1:∀s,axT s→ael s:=by
 intro s h
 obtain ⟨h0,h1,h2,h3,h4⟩:=h
 exact ⟨by omega,by omega,h2,h3,h4,by rw [h0,h1];rfl,fun j hj=>by omega⟩
theorem azi (s:wL) (hI:ael s):bJ (fun s'=>ael s'∧Z4 s'<Z4 s) (fun x s'=>axJ x s s') (aBd s):=by
 unfold aBd alB
 dsimp only [T.rd,T.rl]
 obtain ⟨h0,h1,h2,h3,h4,h5,h6⟩:=hI
 refine au (fun c1=>au (fun c2=>?_) (fun c2=>?_)) (fun c1=>?_)
 ·have c1:s.i<s.n:=by simpa using c1
  refine .inr ⟨rfl,rfl,s.i.toNat,by simp only;omega,?_⟩
  rw [Int.toNat_of_nonneg h0]
  have hg:Yu s s.i=false:=by
   unfold Yu
   (rw [h5] at c2;revert c2;generalize nameB _=a;generalize List.contains (α:=ByteArray) _ _=d;cases a<;>cases d<;>simp)
  exact hg
 ·have c1:s.i<s.n:=by simpa using c1
  have hg:Yu s s.i=true:=by
   unfold Yu
   (rw [h5] at c2;revert c2;generalize nameB _=a;generalize List.contains (α:=ByteArray) _ _=d;cases a<;>cases d<;>simp)
  rw [aK (x:=s.i+1) (by omega) (by omega)]
  refine ⟨⟨by simp only;omega,by simp only;omega,h2,h3,h4,?_,fun j hj=>?_⟩,by simp only [Z4];omega⟩
  ·simp only
   rw [(uq h0 (show s.i<s.l.length by omega)).2,h5]
   try rw [List.map_append]
   try rfl
  ·by_cases hji:(j:Int)<s.i
   ·exact h6 j hji
   ·have:(j:Int)=s.i:=by simp only at hj;omega
    rw [this];exact hg
 ·have c1:s.n≤s.i:=by simpa using c1
  exact .inl ⟨rfl,fun j hj=>h6 j (by omega)⟩
def U1:bK wL:=⟨0,61,[1,2,3,42,43,44],[],aEA,aEs,fun v b=>⟨vg (v.getD 1 .junk),aQ .str (v.getD 3 .junk),gI (v.getD 4 .junk),gI (v.getD 5 .junk),aQ dX (aX (aO b 0) 0),aQ .str (aX (aO b 0) 1),aQ dY (aX (aO b 0) 2),aQ dS (aX (aO b 0) 3),aQ dZ (aX (aO b 0) 4),gSe .str (aO b 1)⟩,alB,fun s r=> {r with l:=s.l,n:=s.n,ah:=s.ah,aA:=s.aA,ai:=s.ai,ak:=s.ak,aJ:=s.aJ},fun s=>s,fun _ s=>s,[.ret,.exit 0],axT,ael,Z4⟩
abbrev afe:=U1.run
abbrev ai9:=U1.jJ
abbrev aBL:=U1.q
theorem azA (s:wL) (hI:ael s):(alB s).all (fun _=>True):=by
 refine ⟨fun c1=>⟨?_,fun _=>trivial,fun c2=>⟨?_,trivial⟩⟩,fun _=>trivial⟩
 all_goals ((obtain ⟨h0,h1,h2,h3,h4,h5,h6⟩:=hI;first|(simp at c1;omega) |(simp only [Bool.or_eq_false_iff] at c2;exact c2.2)))
noncomputable def aiV:Specs:=aZ [(98,X0),(99,Yd),(100,XC)]
theorem arF:∀g S,aiV g=some S→Valid Tryz.prog aP g S:=aS (l:=[(98,X0),(99,Yd),(100,XC)]) ⟨atw,atI,as8,trivial⟩
theorem aqL:U1.Ok:=⟨fun s=>by kernel_rfl,fun s=>by kernel_rfl,fun s=>rfl,fun s t r=>rfl,fun s=>rfl,fun s=>by kernel_rfl⟩
theorem aqE:U1.Pf (axJ):=⟨aD1,fun _ _=>rfl,azi,azA⟩
theorem aua:bg Tryz.prog aP (AN 0) (.loop FY) U1.lp:=bK.snd aqL aqE (aT (Γ:=aiV) (K:=eu) (L:=aB) arF aF FY (fun b hb=>by rw [show aC FY=[] by kernel_rfl] at hb;cases hb)) (fun s=>by kernel_rfl)
theorem atZ (s:wL) (hE:axT s):∃s',ael s'∧axJ (ai9 s) s' (afe s):=bK.fin aqL aqE s hE
def abW:List LV→T LV
 | [.agg [.xl (.pair .str (.pair (.int .i64) (.pair (.int .i64) (.pair (.int .i64) (.pair (.pair (.int .i64) (.int .i64)) (.pair (.int .i64) (.pair (.int .i64) (.pair (.int .i64) (.pair (.int .i64) (.int .i64)))))))))) cs,.xl (.str) os,.xl (.pair .str (.pair (.int .i64) (.pair (.int .i64) (.int .i64)))) ks,.xl (.pair .str (.pair (.int .i64) (.pair (.int .i64) (.pair (.int .i64) (.pair (.int .i64) (.pair (.int .i64) (.pair (.int .i64) (.int .i64)))))))) gs,.xl (.pair .str (.int .i64)) bs]]=> .ok (.v (.bool (fM cs os ks gs bs)))
 |_=> .no
noncomputable def IZ:List LV→T LV:=gB Tryz.prog Tryz.f53.params.toList abW
theorem anU (cs:List Cd) (os:List ByteArray) (ks:List Ko) (gs:List Ch) (bs:List Ba):bT Tryz.prog aP (aiV) eu (fun i=>if i=5 then U1.lp else aB i) Tryz.f53 [.agg [.xl dX cs,.xl .str os,.xl dY ks,.xl dS gs,.xl dZ bs]]=.br ((decide ((List.length cs:Int)<1)) ||((decide ((List.length cs:Int)>16)) ||((decide ((List.length os:Int)>8)) ||((decide ((List.length ks:Int)>32)) ||((decide ((List.length gs:Int)>16)) ||(decide ((List.length bs:Int)>24))))))) (.ok (.v (.bool false))) (.req ((List.length cs:Int)≤1000∧(List.length os:Int)≤1000∧(List.length ks:Int)≤1000∧(List.length gs:Int)≤1000∧(List.length bs:Int)≤1000) (.req (aBL (⟨false,(gJ cs os ks gs bs),(List.length (gJ cs os ks gs bs):Int),(0:Int),cs,os,ks,gs,bs,([]:List ByteArray)⟩:wL)) (.br (iy (ai9 (⟨false,(gJ cs os ks gs bs),(List.length (gJ cs os ks gs bs):Int),(0:Int),cs,os,ks,gs,bs,([]:List ByteArray)⟩:wL)) (.ret)) (.ok (.v (.bool (afe (⟨false,(gJ cs os ks gs bs),(List.length (gJ cs os ks gs bs):Int),(0:Int),cs,os,ks,gs,bs,([]:List ByteArray)⟩:wL)).r))) (.req ((List.length cs:Int)≤1000∧(List.length os:Int)≤1000∧(List.length ks:Int)≤1000∧(List.length gs:Int)≤1000∧(List.length bs:Int)≤1000) (.ok (.v (.bool (U6 cs os ks gs bs)))))))):=by kernel_rfl
theorem aeI:Valid Tryz.prog aP 53 IZ:=aH Tryz.func53 rfl arF aF (L:=(fun i=>if i=5 then U1.lp else aB i)) (fun b hb=>by
 rw [show aC _=[FY] by kernel_rfl] at hb
 simp only [List.mem_cons,List.not_mem_nil,or_false] at hb
 subst hb
 exact aua) (fun args lv h=>by
 unfold abW at h
 split at h
 ·simp only [canL,canX]
  rw [anU]
  rename_i cs os ks gs bs
  obtain rfl:=h
  refine ⟨fun c=>congrArg (fun z=>LV.v (.bool z)) ?_,fun c=>?_⟩
  ·rw [eq_comm,Bool.eq_false_iff]
   intro hx
   unfold fM at hx
   rw [Bool.and_eq_true,decide_eq_true_eq] at hx
   simp only [Bool.or_eq_true,decide_eq_true_eq] at c
   omega
  have hd:1≤cs.length∧cs.length≤16∧os.length≤8∧ks.length≤32∧gs.length≤16∧bs.length≤24:=by
   simp only [Bool.or_eq_false_iff,decide_eq_false_iff_not] at c
   omega
  have hs:fM cs os ks gs bs=(((gJ cs os ks gs bs).all nameB&&once (gJ cs os ks gs bs))&&U6 cs os ks gs bs):=by
   unfold fM
   rw [decide_eq_true hd,Bool.true_and,Bool.and_assoc]
  have hl:((gJ cs os ks gs bs).length:Int)≤1000:=by
   unfold gJ
   simp only [List.length_append,List.length_map]
   omega
  rw [hs]
  have hr:(List.length cs:Int)≤1000∧(List.length os:Int)≤1000∧(List.length ks:Int)≤1000∧(List.length gs:Int)≤1000∧(List.length bs:Int)≤1000:=by omega
  refine ⟨hr,?_⟩
  generalize gJ cs os ks gs bs=l at*
  refine mP ⟨⟨rfl,rfl,rfl,hl,trivial⟩,rfl,rfl⟩ (fun hE=>?_)
  obtain ⟨s',_,hq⟩:=atZ _ hE.1
  rcases hq with ⟨q1,q2⟩ |⟨q1,q2,j,q3,q4⟩
  ·rw [q1]
   have hk:=(kN (d:=emp) (p:=nameB) (k:=id)).1 q2
   rw [List.map_id] at hk
   refine ⟨fun h=>(by cases h),fun _=>⟨hr,?_⟩⟩
   rw [hk,Bool.true_and]
   rfl
  ·rw [q1,q2]
   refine ⟨fun _=>congrArg (fun z=>LV.v (.bool z)) ?_,fun h=>by cases h⟩
   have hn:(l.all nameB&&once l)=false:=by
    rw [Bool.eq_false_iff];intro hx
    have:=(kN (d:=emp) (p:=nameB) (k:=id)).2 (by rw [List.map_id];exact hx) j q3
    exact Bool.noConfusion (this.symm.trans q4)
   rw [hn]
   rfl
 ·cases h)
end Go.Proofs.YtlihnbimgclogaaGreatDoor
namespace Go.Proofs.YtlihnbimgclogaaGreatDoor
open Go.Sx
def acp:List LV→T LV
 | [.agg [.xl (.pair .str (.pair (.int .i64) (.pair (.int .i64) (.pair (.int .i64) (.pair (.pair (.int .i64) (.int .i64)) (.pair (.int .i64) (.pair (.int .i64) (.pair (.int .i64) (.pair (.int .i64) (.int .i64)))))))))) cs,.xl (.str) os,.xl (.pair .str (.pair (.int .i64) (.pair (.int .i64) (.int .i64)))) ks,.xl (.pair .str (.pair (.int .i64) (.pair (.int .i64) (.pair (.int .i64) (.pair (.int .i64) (.pair (.int .i64) (.pair (.int .i64) (.int .i64)))))))) gs,.xl (.pair .str (.int .i64)) bs],.v (.int .i64 c)]=> .ok (.fn 129 [.xq 1 (fun j=>([.v (.int .i64 c)]:List LV).getD j .junk),.xq 5 (fun j=>([.xl dX cs,.xl .str os,.xl dY ks,.xl dS gs,.xl dZ bs]:List LV).getD j .junk)])
 |_=> .no
noncomputable def XY:List LV→T LV:=gB Tryz.prog Tryz.f104.params.toList acp
noncomputable def zY:Specs:=aZ []
theorem DT:∀g S,zY g=some S→Valid Tryz.prog aP g S:=aS (l:=[]) trivial
noncomputable def aas:Hand:=inl Tryz.prog aP zY (lm Tryz.prog aP (zY) 20 2) 9
theorem aii:dD Tryz.prog aP aas:=bP DT (dR DT) 9
theorem aoh (cs:List Cd) (os:List ByteArray) (ks:List Ko) (gs:List Ch) (bs:List Ba) (c:Int):bT Tryz.prog aP (zY) aas aB Tryz.f104 [.agg [.xl dX cs,.xl .str os,.xl dY ks,.xl dS gs,.xl dZ bs],.v (.int .i64 c)]=.ok (.fn 129 [.xq 1 (fun j=>([.v (.int .i64 c)]:List LV).getD j .junk),.xq 5 (fun j=>([.xl dX cs,.xl .str os,.xl dY ks,.xl dS gs,.xl dZ bs]:List LV).getD j .junk)]):=by kernel_rfl
theorem atu:Valid Tryz.prog aP 104 XY:=aH Tryz.func104 rfl DT aii (aW (by kernel_rfl)) (fun args lv h=>by
 unfold acp at h
 split at h
 ·simp only [canL,canX]
  rw [aoh]
  exact h
 ·cases h)
noncomputable def afm:Array Tmp×Code×Code:=((jL (Tryz.f103.body.getD .skip))[0]?).getD (#[],.skip,.skip)
noncomputable def azL:Array Tmp:=afm.1
noncomputable def az6:Code:=afm.2.1
noncomputable def az1:Code:=afm.2.2
structure pJ where
 cs:List Cd
 os:List ByteArray
 ks:List Ko
 gs:List Ch
 bs:List Ba
 c:Int
 b0:Int
 b1:Bool
 st:LS
def aDk (s:pJ):List LV:=[.uI 2,.xq 5 (fun j=>([.xl dX s.cs,.xl .str s.os,.xl dY s.ks,.xl dS s.gs,.xl dZ s.bs]:List LV).getD j .junk),.v (.int .i64 s.c)]
noncomputable def aCj (s:pJ):List aU:=[⟨[.v (.int .i64 s.b0)],3,.cl,false⟩,⟨[.v (.bool s.b1)],4,.cl,false⟩,⟨[.junk,.junk,.junk,.own 0 0,.own 1 0,.v (.tuple #[]),.junk,.v (.tuple #[]),.v (.tuple #[]),.v (.tuple #[]),.v (.tuple #[])],0,.kM azL az6 az1 s.st,false⟩]
noncomputable def TJ:Code:=((aC (Tryz.f129.body.getD .skip))[0]?).getD .skip
def J5 (s:pJ):T (Rd pJ):=
 .br (decide (s.c≥0)) (.br (s.c==s.b0) (.ok (.stop (.ret) {s with b1:=true,st:=(.done (.ret))})) (.req (0≤s.c∧s.c<(List.length s.cs:Int)) (.ok (.next {s with c:=(fO s.cs s.c).2.1})))) (.ok (.stop (.exit 0) s))
abbrev KR (s:pJ):=(J5 s).rd s
def ak7 (s:pJ):Prop:=s.st=.ready∧upB s.cs=true∧s.c<(s.cs.length:Int)∧s.b1=false
def UG (s:pJ):Prop:=s.st=.ready∧upB s.cs=true∧s.c<(s.cs.length:Int)
def Ot (s:pJ):Nat:=(s.c+1).toNat
def asO (x:Ex) (s s':pJ):Prop:=(x=.ret∧s'.b1=true∧U7 s.cs s.b0 s.c=true)∨(x=.exit 0∧U7 s.cs s.b0 s.c=false)
theorem az9:∀s,ak7 s→UG s:=by
 intro s h
 obtain ⟨h0,h1,h2,h3⟩:=h
 exact ⟨h0,h1,h2⟩
theorem afq (s:pJ) (hI:UG s):bJ (fun s'=>UG s'∧Ot s'<Ot s) (fun x s'=>asO x s s') (KR s):=by
 unfold KR J5
 dsimp only [T.rd,T.rl]
 obtain ⟨h0,h1,h2⟩:=hI
 have hp:=agC (o:=s.b0) h1 h2
 refine au (fun c1=>au (fun c2=>?_) (fun c2=>?_)) (fun c1=>?_)
 ·have c1:0≤s.c:=by simpa using c1
  exact .inl ⟨rfl,rfl,by rw [hp,if_pos c1,c2];rfl⟩
 ·have c1:0≤s.c:=by simpa using c1
  have:=Vh h1 c1 h2
  exact ⟨⟨h0,h1,by simp only;omega⟩,by simp only [Ot];omega⟩
 ·have c1:¬(0≤s.c):=by simpa using c1
  exact .inr ⟨rfl,by rw [hp,if_neg c1]⟩
noncomputable def JE:bK pJ:=⟨3,18,[0,2,4],[],aDk,aCj,fun v b=>⟨aQ dX (nC (v.getD 1 .junk) 0),aQ .str (nC (v.getD 1 .junk) 1),aQ dY (nC (v.getD 1 .junk) 2),aQ dS (nC (v.getD 1 .junk) 3),aQ dZ (nC (v.getD 1 .junk) 4),gI (v.getD 2 .junk),gI (aX (aO b 0) 0),vg (aX (aO b 1) 0),.ready⟩,J5,fun s r=> {r with cs:=s.cs,os:=s.os,ks:=s.ks,gs:=s.gs,bs:=s.bs,b0:=s.b0},fun s=> {s with st:=.ready},fun x s=> {s with st:=(match x with| .ret=>(.done (.ret)) | .exit 0=> .ready|_=> .ready)},[.ret,.exit 0],ak7,UG,Ot⟩
noncomputable abbrev NF:=JE.run
noncomputable abbrev PI:=JE.jJ
abbrev ayg:=JE.q
theorem auV (s:pJ) (hI:UG s):(J5 s).all (fun _=>True):=by
 refine ⟨fun c1=>⟨fun _=>trivial,fun c2=>⟨?_,trivial⟩⟩,fun _=>trivial⟩
 ·(obtain ⟨h0,h1,h2⟩:=hI;simp at c1 h2;exact ⟨c1,h2⟩)
theorem VU:JE.Ok:=⟨fun s=>by kernel_rfl,fun s=>by kernel_rfl,fun s=>rfl,fun s t r=>rfl,fun s=>rfl,fun s=>by kernel_rfl⟩
theorem VB:JE.Pf (asO):=⟨az9,fun s h=>by
 obtain ⟨cs,os,ks,gs,bs,c,b0,b1,st⟩:=s
 have e:st=.ready:=h.1
 subst e
 rfl,afq,auV⟩
theorem ama:bg Tryz.prog aP (AN 3) (.loop TJ) JE.lp:=bK.snd VU VB (bF (Γ:=zY) (K:=aas) (L:=(rY Tryz.prog aP zY aas 20 2)) DT aii TJ (fun b _=>dU DT aii 20 2 b)) (fun s=>by kernel_rfl)
theorem avL (s:pJ) (hE:ak7 s):(PI s=.ret∧(NF s).b1=true∧U7 s.cs s.b0 s.c=true)∨(PI s=.exit 0∧U7 s.cs s.b0 s.c=false):=by
 have hk:=bK.uO VU VB (fun s=>U7 s.cs s.b0 s.c) (fun s hI=>by
  obtain ⟨h0,h1,h2⟩:=hI
  have hp:=agC (o:=s.b0) h1 h2
  show bJ _ _ (KR s)
  unfold KR J5
  dsimp only [T.rd,T.rl]
  refine au (fun c1=>au (fun c2=>rfl) (fun c2=>?_)) (fun c1=>rfl)
  have c1:0≤s.c:=by simpa using c1
  show U7 _ _ _=U7 _ _ _
  rw [hp,if_pos c1,c2,Bool.false_or]) s hE
 have hk:U7 s.cs s.b0 (NF s).c=U7 s.cs s.b0 s.c:=hk
 obtain ⟨s',hI,hf⟩:=bK.end_ VU VB s hE
 have hq:=xP (afq s' hI) hf
 have hc:=xP (Pn:=fun _=>True) (Ps:=fun _ r=>r.cs=s'.cs∧r.b0=s'.b0∧r.c=s'.c) (r:=KR s') (by
   unfold KR J5
   dsimp only [T.rd,T.rl]
   exact au (fun _=>au (fun _=>⟨rfl,rfl,rfl⟩) (fun _=>trivial)) (fun _=>⟨rfl,rfl,rfl⟩)) hf
 obtain ⟨hc1,hc3,hc2⟩:=hc
 have e1:s.cs=s'.cs:=hc1
 have e2:s.b0=s'.b0:=hc3
 rw [←hk,hc2,e1,e2]
 exact hq
def aj2:List LV→T LV
 | [.fn 129 [.xq 1 q0,.xq 5 q1],.v (.int .i64 o)]=>(match ([q0 0]:List LV) with
  | [.v (.int .i64 c)]=>(match ([q1 0,q1 1,q1 2,q1 3,q1 4]:List LV) with
  | [.xl (.pair .str (.pair (.int .i64) (.pair (.int .i64) (.pair (.int .i64) (.pair (.pair (.int .i64) (.int .i64)) (.pair (.int .i64) (.pair (.int .i64) (.pair (.int .i64) (.pair (.int .i64) (.int .i64)))))))))) cs,.xl (.str) _,.xl (.pair .str (.pair (.int .i64) (.pair (.int .i64) (.int .i64)))) _,.xl (.pair .str (.pair (.int .i64) (.pair (.int .i64) (.pair (.int .i64) (.pair (.int .i64) (.pair (.int .i64) (.pair (.int .i64) (.int .i64)))))))) _,.xl (.pair .str (.int .i64)) _]=> .req (upB cs=true∧c<(List.length cs:Int)) (.ok (.v (.bool (U7 cs o c))))
  |_=> .no)
  |_=> .no)
 |_=> .no
noncomputable def ajL:List LV→T LV:=gB Tryz.prog Tryz.f103.params.toList aj2
noncomputable def arn:Hand:=inl Tryz.prog aP zY (kE 129 3 1 (JE.lp) (lm Tryz.prog aP (zY) 20 2)) 9
theorem aAL:dD Tryz.prog aP arn:=bP DT (dF Tryz.func129 rfl (by kernel_rfl) ama (dR DT)) 9
theorem awj (c:Int) (cs:List Cd) (os:List ByteArray) (ks:List Ko) (gs:List Ch) (bs:List Ba) (o:Int):bT Tryz.prog aP (zY) arn aB Tryz.f103 [.fn 129 [.xq 1 (fun j=>([.v (.int .i64 c)]:List LV).getD j .junk),.xq 5 (fun j=>([.xl dX cs,.xl .str os,.xl dY ks,.xl dS gs,.xl dZ bs]:List LV).getD j .junk)],.v (.int .i64 o)]=.req (ayg (⟨cs,os,ks,gs,bs,c,o,false,.ready⟩:pJ)) (.br (iy (PI (⟨cs,os,ks,gs,bs,c,o,false,.ready⟩:pJ)) (.ret)) (.ok (.v (.bool (NF (⟨cs,os,ks,gs,bs,c,o,false,.ready⟩:pJ)).b1))) (.ok (.v (.bool false)))):=by kernel_rfl
theorem azc:Valid Tryz.prog aP 103 ajL:=aH Tryz.func103 rfl DT aAL (aW (by kernel_rfl)) (fun args lv h=>by
 unfold aj2 at h
 split at h
 ·split at h
  case h_2=>cases h
  rename_i heq0
  split at h
  case h_2=>cases h
  rename_i heq1
  simp only [canL,canX]
  rw [o7 (n:=1) heq0]
  simp only [canL,canX]
  rw [o7 (n:=5) heq1]
  simp only [canL,canX]
  rw [awj]
  obtain ⟨⟨hu,hc⟩,rfl⟩:=h
  refine mP ⟨⟨rfl,hu,hc,rfl⟩,rfl,rfl⟩ (fun hE=>?_)
  rcases avL _ hE.1 with ⟨h1,h2,h3⟩ |⟨h1,h2⟩
  ·rw [h1,h2]
   exact ⟨fun _=>congrArg (fun z=>LV.v (.bool z)) h3.symm,fun h=>by cases h⟩
  ·rw [h1]
   exact ⟨fun h=>(by cases h),fun _=>congrArg (fun z=>LV.v (.bool z)) h2.symm⟩
 ·cases h)
end Go.Proofs.YtlihnbimgclogaaGreatDoor
namespace Go.Proofs.YtlihnbimgclogaaGreatDoor
open Go.Sx
structure ve where
 l:List Ch
 n:Int
 i:Int
 bD:List Cd
 fP:List ByteArray
 dO:List Ko
 dV:List Ch
 jw:List Ba
 b1:Int
 out:List Int
def aEG (s:ve):List LV:=[.fn 102 [.own 0 0,.own 1 0],.os 2 1 0 (List.length s.out),.xl dS s.l,.v (.int .i64 s.n),.v (.int .i64 s.i)]
def aEy (s:ve):List aU:=[⟨[.xl dX s.bD,.xl .str s.fP,.xl dY s.dO,.xl dS s.dV,.xl dZ s.jw],28,.cl,false⟩,⟨[.v (.int .i64 s.b1)],3,.cl,false⟩,⟨[],3,.vec (.int .i64) s.out,false⟩]
noncomputable def F6:Code:=((aC (Tryz.f55.body.getD .skip))[0]?).getD .skip
def alF (s:ve):T (Rd ve):=
 .br (decide (s.i<s.n)) (.req (0≤s.i∧s.i<(List.length s.l:Int)) (.req (upB s.bD=true∧(bC s.l s.i).2.1<(List.length s.bD:Int)) (.br (U7 s.bD s.b1 (bC s.l s.i).2.1) (.req (0+(List.length s.out)=List.length s.out∧((List.length s.out+List.length ([s.i]):Nat):Int)*8≤2^47∧((List.length s.out+List.length ([s.i]):Nat):Int)<2^62) (.req (0=0∧(List.length s.out+List.length ([s.i]))=List.length (s.out++([s.i]))) (.ok (.next {s with i:=(IntKind.i64.wrap (s.i+1)),out:=(s.out++([s.i]))})))) (.rl s.out (.ok (.next {s with i:=(IntKind.i64.wrap (s.i+1))})))))) (.rl s.out (.ok (.stop (.exit 0) s)))
abbrev aBh (s:ve):=(alF s).rd s
def aqr (s:ve):Prop:=s.i=0∧s.out=[]∧s.n=(s.l.length:Int)∧s.n≤1000∧upB s.bD=true∧atB s.bD s.l=true
def aer (s:ve):Prop:=(0≤s.i∧s.i≤s.n)∧s.out=sQ s.bD s.l s.b1 s.i.toNat∧s.n=(s.l.length:Int)∧s.n≤1000∧upB s.bD=true∧atB s.bD s.l=true
def RZ (s:ve):Nat:=(s.n-s.i).toNat
def axO (x:Ex) (_ s':ve):Prop:=x=.exit 0∧s'.out=sQ s'.bD s'.l s'.b1 s'.l.length
theorem aEo:∀s,aqr s→aer s:=by
 intro s h
 obtain ⟨h0,h1,h2,h3,h4,h5⟩:=h
 exact ⟨⟨by omega,by omega⟩,by rw [h0,h1];rfl,h2,h3,h4,h5⟩
theorem aBA (s:ve) (hI:aer s):bJ (fun s'=>aer s'∧RZ s'<RZ s) (fun x s'=>axO x s s') (aBh s):=by
 unfold aBh alF
 dsimp only [T.rd,T.rl]
 obtain ⟨⟨h0,h1⟩,h2,h3,h4,h5,h6⟩:=hI
 refine au (fun c1=>?_) (fun c1=>?_)
 ·have c1:s.i<s.n:=by simpa using c1
  have hs:=aed (cs:=s.bD) (gs:=s.l) (o:=s.b1) (k:=s.i.toNat)
  rw [show s.i.toNat+1=(s.i+1).toNat by omega,Int.toNat_of_nonneg h0] at hs
  rw [aK (x:=s.i+1) (by omega) (by omega)]
  refine au (fun c2=>?_) (fun c2=>?_)
  ·refine ⟨⟨⟨by simp only;omega,by simp only;omega⟩,?_,h3,h4,h5,h6⟩,by simp only [RZ];omega⟩
   simp only
   rw [hs,if_pos c2,h2]
  ·refine ⟨⟨⟨by simp only;omega,by simp only;omega⟩,?_,h3,h4,h5,h6⟩,by simp only [RZ];omega⟩
   simp only
   rw [hs,if_neg (by rw [c2];simp),h2,List.append_nil]
 ·have c1:s.n≤s.i:=by simpa using c1
  exact ⟨rfl,by rw [h2,show s.i.toNat=s.l.length by omega]⟩
def U5:bK ve:=⟨0,42,[6,7,26,27,28],[.nl 7 3 (.int .i64)],aEG,aEy,fun v b=>⟨aQ dS (v.getD 2 .junk),gI (v.getD 3 .junk),gI (v.getD 4 .junk),aQ dX (aX (aO b 0) 0),aQ .str (aX (aO b 0) 1),aQ dY (aX (aO b 0) 2),aQ dS (aX (aO b 0) 3),aQ dZ (aX (aO b 0) 4),gI (aX (aO b 1) 0),iT (.int .i64) (aO b 2)⟩,alF,fun s r=> {r with l:=s.l,n:=s.n,bD:=s.bD,fP:=s.fP,dO:=s.dO,dV:=s.dV,jw:=s.jw,b1:=s.b1},fun s=>s,fun _ s=>s,[.exit 0],aqr,aer,RZ⟩
abbrev CG:=U5.run
abbrev aw7:=U5.jJ
abbrev aBQ:=U5.q
theorem azG (s:ve) (hI:aer s):(alF s).all (fun _=>True):=by
 refine ⟨fun c1=>⟨?_,?_,fun c2=>⟨?_,?_,trivial⟩,fun c2=>⟨⟨rfl,rfl⟩,trivial⟩⟩,fun c1=>⟨⟨rfl,rfl⟩,trivial⟩⟩
 all_goals ((obtain ⟨⟨h0,h1⟩,h2,h3,h4,h5,h6⟩:=hI;have hol:s.out.length≤s.i.toNat:=(by rw [h2];exact IQ);(try simp only [decide_eq_true_eq] at c1);first|omega|exact ⟨h5,axD h6 h0 (by omega)⟩ |(refine ⟨by omega,?_,?_⟩<;>simp only [List.length_cons,List.length_nil]<;>omega) |exact ⟨rfl,by simp⟩ |exact ⟨rfl,rfl⟩))
noncomputable def SY:Specs:=aZ [(53,IZ),(103,ajL),(104,XY)]
theorem aaB:∀g S,SY g=some S→Valid Tryz.prog aP g S:=aS (l:=[(53,IZ),(103,ajL),(104,XY)]) ⟨aeI,azc,atu,trivial⟩
noncomputable def aiw:Hand:=inl Tryz.prog aP SY (lm Tryz.prog aP (SY) 20 2) 9
theorem aq9:dD Tryz.prog aP aiw:=bP aaB (dR aaB) 9
theorem aqQ:U5.Ok:=⟨fun s=>by kernel_rfl,fun s=>by kernel_rfl,fun s=>rfl,fun s t r=>rfl,fun s=>rfl,fun s=>by kernel_rfl⟩
theorem aqJ:U5.Pf (axO):=⟨aEo,fun _ _=>rfl,aBA,azG⟩
theorem auf:bg Tryz.prog aP (AN 0) (.loop F6) U5.lp:=bK.snd aqQ aqJ (aT (Γ:=SY) (K:=aiw) (L:=aB) aaB aq9 F6 (fun b hb=>by rw [show aC F6=[] by kernel_rfl] at hb;cases hb)) (fun s=>by kernel_rfl)
theorem axy (s:ve) (hE:aqr s):∃s',aer s'∧axO (aw7 s) s' (CG s):=bK.fin aqQ aqJ s hE
def Ux:List LV→T LV
 | [.agg [.xl (.pair .str (.pair (.int .i64) (.pair (.int .i64) (.pair (.int .i64) (.pair (.pair (.int .i64) (.int .i64)) (.pair (.int .i64) (.pair (.int .i64) (.pair (.int .i64) (.pair (.int .i64) (.int .i64)))))))))) cs,.xl (.str) os,.xl (.pair .str (.pair (.int .i64) (.pair (.int .i64) (.int .i64)))) ks,.xl (.pair .str (.pair (.int .i64) (.pair (.int .i64) (.pair (.int .i64) (.pair (.int .i64) (.pair (.int .i64) (.pair (.int .i64) (.int .i64)))))))) gs,.xl (.pair .str (.int .i64)) bs],.v (.int .i64 o)]=> .ok (.iF [.xl (.int .i64) (bU cs os ks gs bs o),.v (.int .i64 (axB cs os ks gs bs o))])
 |_=> .no
noncomputable def Qg:List LV→T LV:=gB Tryz.prog Tryz.f55.params.toList Ux
theorem ahN (cs:List Cd) (os:List ByteArray) (ks:List Ko) (gs:List Ch) (bs:List Ba) (o:Int):bT Tryz.prog aP (SY) aiw (fun i=>if i=6 then U5.lp else aB i) Tryz.f55 [.agg [.xl dX cs,.xl .str os,.xl dY ks,.xl dS gs,.xl dZ bs],.v (.int .i64 o)]=.br ((!(fM cs os ks gs bs)) ||((decide (o<0)) ||(decide (o≥(List.length cs:Int))))) (.ok (.iF [.xl (.int .i64) ([]:List Int),.v (.int .i64 1)])) (.req (0=0∧0=List.length ([]:List Int)) (.req (aBQ (⟨gs,(List.length gs:Int),(0:Int),cs,os,ks,gs,bs,o,([]:List Int)⟩:ve)) (.req (0+(List.length (CG (⟨gs,(List.length gs:Int),(0:Int),cs,os,ks,gs,bs,o,([]:List Int)⟩:ve)).out)≤List.length (CG (⟨gs,(List.length gs:Int),(0:Int),cs,os,ks,gs,bs,o,([]:List Int)⟩:ve)).out) (.ok (.iF [.xl (.int .i64) (((CG (⟨gs,(List.length gs:Int),(0:Int),cs,os,ks,gs,bs,o,([]:List Int)⟩:ve)).out.drop 0).take (List.length (CG (⟨gs,(List.length gs:Int),(0:Int),cs,os,ks,gs,bs,o,([]:List Int)⟩:ve)).out)),.v (.int .i64 0)]))))):=by kernel_rfl
theorem alz:Valid Tryz.prog aP 55 Qg:=aH Tryz.func55 rfl aaB aq9 (L:=(fun i=>if i=6 then U5.lp else aB i)) (fun b hb=>by
 rw [show aC _=[F6] by kernel_rfl] at hb
 simp only [List.mem_cons,List.not_mem_nil,or_false] at hb
 subst hb
 exact auf) (fun args lv h=>by
 unfold Ux at h
 split at h
 ·simp only [canL,canX]
  rw [ahN]
  rename_i cs os ks gs bs o
  obtain rfl:=h
  refine ⟨fun c=>?_,fun c=>?_⟩
  ·have hn:¬(fM cs os ks gs bs=true∧0≤o∧o<(cs.length:Int)):=by
    rintro ⟨h1,h2,h3⟩
    rw [h1] at c
    simp at c
    omega
   show LV.iF _=_
   unfold bU axB
   rw [if_neg hn,if_neg hn]
  ·simp only [Bool.or_eq_false_iff,Bool.not_eq_false',decide_eq_false_iff_not] at c
   have hp:fM cs os ks gs bs=true∧0≤o∧o<(cs.length:Int):=⟨c.1,by omega,by omega⟩
   have hl:=(gq.1 c.1).1
   have hE:aqr ⟨gs,(List.length gs:Int),(0:Int),cs,os,ks,gs,bs,o,([]:List Int)⟩:=⟨rfl,rfl,rfl,by simp only;omega,aeZ c.1,ae1 c.1⟩
   obtain ⟨s',_,q1,q2⟩:=axy _ hE
   have q2:(CG ⟨gs,(List.length gs:Int),(0:Int),cs,os,ks,gs,bs,o,([]:List Int)⟩).out=sQ cs gs o gs.length:=q2
   refine ⟨⟨rfl,rfl⟩,⟨hE,rfl,rfl⟩,by omega,?_⟩
   show LV.iF [LV.xl _ _,_]=_
   rw [List.drop_zero,List.take_length,q2]
   unfold bU axB
   rw [if_pos hp,if_pos hp]
 ·cases h)
end Go.Proofs.YtlihnbimgclogaaGreatDoor
namespace Go.Proofs.YtlihnbimgclogaaGreatDoor
open Go.Sx
def acS:List LV→T LV
 | [.v (.agg ⟨[.int .i64 am,.int .i64 mo,.int .i64 ga,.int .i64 lo,.int .i64 de]⟩)]=> .ok (.v (.bool (PV (am,mo,ga,lo,de))))
 |_=> .no
noncomputable def Yl:List LV→T LV:=gB Tryz.prog Tryz.f130.params.toList acS
noncomputable def KO:Specs:=aZ []
theorem SK:∀g S,KO g=some S→Valid Tryz.prog aP g S:=aS (l:=[]) trivial
noncomputable def arl:Hand:=inl Tryz.prog aP KO (lm Tryz.prog aP (KO) 20 2) 9
theorem aAK:dD Tryz.prog aP arl:=bP SK (dR SK) 9
theorem aoH (am mo ga lo de:Int):bT Tryz.prog aP (KO) arl aB Tryz.f130 [.v (.agg #[.int .i64 am,.int .i64 mo,.int .i64 ga,.int .i64 lo,.int .i64 de])]=.br ((am==0)&&((mo==0)&&((ga==0)&&((lo==0)&&(de==0))))) (.ok (.v (.bool true))) (.br ((decide (am≥0))&&(decide (am≤200000))) (.br (decide (mo>am)) (.br (decide (mo≤200000)) (.br ((decide (ga≥0))&&(decide (ga≤1000))) (.br ((decide (lo≥0))&&(decide (lo≤1000))) (.ok (.v (.bool ((decide (de≥1))&&(decide (de≤1000000)))))) (.ok (.v (.bool false)))) (.ok (.v (.bool false)))) (.ok (.v (.bool false)))) (.ok (.v (.bool false)))) (.ok (.v (.bool false)))):=by kernel_rfl
theorem atQ:Valid Tryz.prog aP 130 Yl:=aH Tryz.func130 rfl SK aAK (aW (by kernel_rfl)) (fun args lv h=>by
 unfold acS at h
 split at h
 ·simp only [canL,canX]
  rw [aoH]
  rename_i am mo ga lo de
  obtain rfl:=h
  unfold PV cbZ
  simp only
  refine ⟨fun c=>by rw [c];rfl,fun c=>?_⟩
  rw [c,Bool.false_or]
  unfold inB
  refine ⟨fun c1=>⟨fun c2=>⟨fun c3=>⟨fun c4=>⟨fun c5=>?_,fun c5=>?_⟩,fun c4=>?_⟩,fun c3=>?_⟩,fun c2=>?_⟩,fun c1=>?_⟩
  all_goals refine congrArg (fun z=>LV.v (.bool z)) ?_
  all_goals
   rw [Bool.eq_iff_iff]
   simp only [Bool.and_eq_true,Bool.and_eq_false_iff,decide_eq_true_eq,decide_eq_false_iff_not,Bool.false_eq_true] at*
   constructor<;>intro hz<;>first|exact hz.elim|(exfalso;omega) |omega
 ·cases h)
def abR:List LV→T LV
 | [.xq 6 q0]=>(match ([q0 0,q0 1,q0 2,q0 3,q0 4,q0 5]:List LV) with
  | [.v (.int .i64 _),.v (.int .i64 _),.v (.int .i64 _),.v (.int .i64 lo),.v (.int .i64 de),.v (.int .i64 _)]=> .ok (.v (.int .i64 (if de<lo then de else lo)))
  |_=> .no)
 |_=> .no
noncomputable def XA:List LV→T LV:=gB Tryz.prog Tryz.f132.params.toList abR
theorem anP (am mo ga lo de now:Int):bT Tryz.prog aP (KO) eu aB Tryz.f132 [.xq 6 (fun j=>([.v (.int .i64 am),.v (.int .i64 mo),.v (.int .i64 ga),.v (.int .i64 lo),.v (.int .i64 de),.v (.int .i64 now)]:List LV).getD j .junk)]=.ok (.v (.int .i64 (if de<lo then de else lo))):=by kernel_rfl
theorem as6:Valid Tryz.prog aP 132 XA:=aH Tryz.func132 rfl SK aF (aW (by kernel_rfl)) (fun args lv h=>by
 unfold abR at h
 split at h
 ·split at h
  case h_2=>cases h
  rename_i heq0
  simp only [canL,canX]
  rw [o7 (n:=6) heq0]
  simp only [canL,canX]
  rw [anP]
  exact h
 ·cases h)
def abQ:List LV→T LV
 | [.xq 6 q0]=>(match ([q0 0,q0 1,q0 2,q0 3,q0 4,q0 5]:List LV) with
  | [.v (.int .i64 am),.v (.int .i64 mo),.v (.int .i64 ga),.v (.int .i64 lo),.v (.int .i64 de),.v (.int .i64 _)]=> .ok (.v (.bool (cbZ (am,mo,ga,lo,de))))
  |_=> .no)
 |_=> .no
noncomputable def Xz:List LV→T LV:=gB Tryz.prog Tryz.f131.params.toList abQ
theorem anO (am mo ga lo de now:Int):bT Tryz.prog aP (KO) eu aB Tryz.f131 [.xq 6 (fun j=>([.v (.int .i64 am),.v (.int .i64 mo),.v (.int .i64 ga),.v (.int .i64 lo),.v (.int .i64 de),.v (.int .i64 now)]:List LV).getD j .junk)]=.ok (.v (.bool ((am==0)&&((mo==0)&&((ga==0)&&((lo==0)&&(de==0))))))):=by kernel_rfl
theorem as5:Valid Tryz.prog aP 131 Xz:=aH Tryz.func131 rfl SK aF (aW (by kernel_rfl)) (fun args lv h=>by
 unfold abQ at h
 split at h
 ·split at h
  case h_2=>cases h
  rename_i heq0
  simp only [canL,canX]
  rw [o7 (n:=6) heq0]
  simp only [canL,canX]
  rw [anO]
  exact h
 ·cases h)
structure y8 where
 low:Int
 high:Int
 yV:Int
 PY:Int
 P5:Int
 PZ:Int
 Xt:Int
 IU:Int
 b11:Int
 b12:Int
 b13:Int
 b14:Int
 Xr:Int
 b3:Int
def aEF (s:y8):List LV:=[.v (.int .i64 s.low),.v (.int .i64 s.high),.fn 134 [.own 2 0,.own 3 0]]
def aEx (s:y8):List aU:=[⟨[.v (.int .i64 s.yV),.v (.int .i64 s.PY),.v (.int .i64 s.P5),.v (.int .i64 s.PZ),.v (.int .i64 s.Xt)],103,.cl,false⟩,⟨[.v (.int .i64 s.IU),.v (.int .i64 s.b11),.v (.int .i64 s.b12),.v (.int .i64 s.b13),.v (.int .i64 s.b14),.v (.int .i64 s.Xr)],190,.cl,false⟩,⟨[.own 1 0],188,.cl,false⟩,⟨[.v (.int .i64 s.b3)],3,.cl,false⟩]
noncomputable def abL:Code:=((aC (Tryz.f133.body.getD .skip))[0]?).getD .skip
def alE (s:y8):T (Rd y8):=
 .br (decide (s.low<s.high)) (.req ((2:Int)≠0) (.br (decide ((IntKind.i64.wrap ((IntKind.i64.wrap (s.b12*(IntKind.i64.wrap (s.low+(IntKind.i64.wrap ((IntKind.i64.wrap ((IntKind.i64.wrap (s.high-s.low))+1)).tdiv 2))))))*(IntKind.i64.wrap (s.low+(IntKind.i64.wrap ((IntKind.i64.wrap ((IntKind.i64.wrap (s.high-s.low))+1)).tdiv 2))))))≤s.b3)) (.ok (.next {s with low:=(IntKind.i64.wrap (s.low+(IntKind.i64.wrap ((IntKind.i64.wrap ((IntKind.i64.wrap (s.high-s.low))+1)).tdiv 2))))})) (.ok (.next {s with high:=(IntKind.i64.wrap ((IntKind.i64.wrap (s.low+(IntKind.i64.wrap ((IntKind.i64.wrap ((IntKind.i64.wrap (s.high-s.low))+1)).tdiv 2))))-1))})))) (.ok (.stop (.exit 0) s))
abbrev aBg (s:y8):=(alE s).rd s
def ayw (s:y8):Prop:=s.low=0∧s.high=1000∧(0≤s.b12∧s.b12≤1000)∧0≤s.b3
def aep (s:y8):Prop:=(0≤s.low∧s.low≤s.high∧s.high≤1000)∧s.b12*s.low*s.low≤s.b3∧(∀a:Int,s.high<a→a≤1000→¬s.b12*a*a≤s.b3)∧(0≤s.b12∧s.b12≤1000)∧0≤s.b3
def RY (s:y8):Nat:=(s.high-s.low).toNat
def axN (x:Ex) (_ s':y8):Prop:=x=.exit 0∧s'.low=prm s'.b12 s'.b3
theorem aEh:∀s,ayw s→aep s:=by
 intro s h
 obtain ⟨h0,h1,h2,h3⟩:=h
 exact ⟨by omega,by rw [h0];simpa using h3,fun a h h2=>by omega,h2,h3⟩
theorem aAQ (s:y8) (hI:aep s):bJ (fun s'=>aep s'∧RY s'<RY s) (fun x s'=>axN x s s') (aBg s):=by
 unfold aBg alE
 dsimp only [T.rd,T.rl]
 obtain ⟨⟨h0,h1,h2⟩,h3,h4,⟨h5,h6⟩,h7⟩:=hI
 have em:s.low<s.high→IntKind.i64.wrap (s.low+IntKind.i64.wrap ((IntKind.i64.wrap (IntKind.i64.wrap (s.high-s.low)+1)).tdiv 2))=s.low+(s.high-s.low+1) / 2:=fun c=>by
  rw [aK (x:=s.high-s.low) (by omega) (by omega),aK (x:=s.high-s.low+1) (by omega) (by omega),Int.tdiv_eq_ediv_of_nonneg (by omega),aK (x:=(s.high-s.low+1) / 2) (by omega) (by omega),aK (by omega) (by omega)]
 refine au (fun c1=>?_) (fun c1=>?_)
 ·have c1:s.low<s.high:=by simpa using c1
  rw [em c1]
  have hm1:s.low<s.low+(s.high-s.low+1) / 2:=by omega
  have hm2:s.low+(s.high-s.low+1) / 2≤s.high:=by omega
  generalize s.low+(s.high-s.low+1) / 2=m at hm1 hm2⊢
  obtain ⟨⟨b1,b2⟩,b3,b4⟩:=azm h5 h6 (m:=m) (by omega) (by omega)
  rw [aK (x:=s.b12*m) (by omega) (by omega),aK (x:=s.b12*m*m) (by omega) (by omega),aK (x:=m-1) (by omega) (by omega)]
  refine au (fun c2=>?_) (fun c2=>?_)
  ·have c2:s.b12*m*m≤s.b3:=by simpa using c2
   exact ⟨⟨⟨by simp only;omega,by simp only;omega,h2⟩,c2,h4,⟨h5,h6⟩,h7⟩,by simp only [RY];omega⟩
  ·have c2:¬s.b12*m*m≤s.b3:=by simpa using c2
   refine ⟨⟨⟨h0,by simp only;omega,by simp only;omega⟩,h3,fun a ha hk=>?_,⟨h5,h6⟩,h7⟩,by simp only [RY];omega⟩
   have:=alI h5 (a:=m) (b:=a) (by omega) (by simp only at ha;omega)
   simp only
   omega
 ·have c1:s.high≤s.low:=by simpa using c1
  refine ⟨rfl,(ZO (k:=1000) h0 (by omega) (.inr h3) (fun a ha hk=>h4 a (by omega) (by omega))).symm⟩
def Yz:bK y8:=⟨4,25,[0,1,2],[],aEF,aEx,fun v b=>⟨gI (v.getD 0 .junk),gI (v.getD 1 .junk),gI (aX (aO b 0) 0),gI (aX (aO b 0) 1),gI (aX (aO b 0) 2),gI (aX (aO b 0) 3),gI (aX (aO b 0) 4),gI (aX (aO b 1) 0),gI (aX (aO b 1) 1),gI (aX (aO b 1) 2),gI (aX (aO b 1) 3),gI (aX (aO b 1) 4),gI (aX (aO b 1) 5),gI (aX (aO b 3) 0)⟩,alE,fun s r=> {r with yV:=s.yV,PY:=s.PY,P5:=s.P5,PZ:=s.PZ,Xt:=s.Xt,IU:=s.IU,b11:=s.b11,b12:=s.b12,b13:=s.b13,b14:=s.b14,Xr:=s.Xr,b3:=s.b3},fun s=>s,fun _ s=>s,[.exit 0],ayw,aep,RY⟩
abbrev afg:=Yz.run
abbrev aw6:=Yz.jJ
abbrev aBP:=Yz.q
noncomputable def DY:Specs:=aZ [(130,Yl),(131,Xz),(132,XA)]
theorem Ik:∀g S,DY g=some S→Valid Tryz.prog aP g S:=aS (l:=[(130,Yl),(131,Xz),(132,XA)]) ⟨atQ,as5,as6,trivial⟩
noncomputable def aiv:Hand:=inl Tryz.prog aP DY (lm Tryz.prog aP (DY) 20 2) 9
theorem aq8:dD Tryz.prog aP aiv:=bP Ik (dR Ik) 9
theorem azF (s:y8) (_:aep s):(alE s).all (fun _=>True):=by
 refine ⟨fun c1=>⟨?_,fun _=>trivial,fun _=>trivial⟩,fun _=>trivial⟩
 ·(first|decide|omega)
theorem aqP:Yz.Ok:=⟨fun s=>by kernel_rfl,fun s=>by kernel_rfl,fun s=>rfl,fun s t r=>rfl,fun s=>rfl,fun s=>by kernel_rfl⟩
theorem aqI:Yz.Pf (axN):=⟨aEh,fun _ _=>rfl,aAQ,azF⟩
theorem aue:bg Tryz.prog aP (AN 4) (.loop abL) Yz.lp:=bK.snd aqP aqI (bF (Γ:=DY) (K:=aiv) (L:=(rY Tryz.prog aP DY aiv 20 2)) Ik aq8 abL (fun b _=>dU Ik aq8 20 2 b)) (fun s=>by kernel_rfl)
theorem awO (s:y8) (hE:ayw s):∃s',aep s'∧axN (aw6 s) s' (afg s):=bK.fin aqP aqI s hE
def aco:List LV→T LV
 | [.v (.agg ⟨[.int .i64 am,.int .i64 mo,.int .i64 ga,.int .i64 lo,.int .i64 de]⟩)]=> .ok (.v (.tuple #[.int .i64 (pmA (am,mo,ga,lo,de)),.int .i64 (pmE (am,mo,ga,lo,de))]))
 |_=> .no
noncomputable def XW:List LV→T LV:=gB Tryz.prog Tryz.f105.params.toList aco
noncomputable def ark:Hand:=inl Tryz.prog aP DY (kE 133 4 1 (Yz.lp) (lm Tryz.prog aP (DY) 20 2)) 9
theorem aAJ:dD Tryz.prog aP ark:=bP Ik (dF Tryz.func133 rfl (by kernel_rfl) aue (dR Ik)) 9
theorem aog (am mo ga lo de:Int):bT Tryz.prog aP (DY) ark aB Tryz.f105 [.v (.agg #[.int .i64 am,.int .i64 mo,.int .i64 ga,.int .i64 lo,.int .i64 de])]=.br (!(PV (am,mo,ga,lo,de))) (.ok (.v (.tuple #[.int .i64 0,.int .i64 1]))) (.br (cbZ (am,mo,ga,lo,de)) (.ok (.v (.tuple #[.int .i64 1000,.int .i64 0]))) (.req (aBP (⟨(0:Int),(1000:Int),am,mo,ga,lo,de,am,mo,ga,lo,de,(0:Int),(IntKind.i64.wrap ((if de<lo then de else lo)*(IntKind.i64.wrap (mo-am))))⟩:y8)) (.ok (.v (.tuple #[.int .i64 (afg (⟨(0:Int),(1000:Int),am,mo,ga,lo,de,am,mo,ga,lo,de,(0:Int),(IntKind.i64.wrap ((if de<lo then de else lo)*(IntKind.i64.wrap (mo-am))))⟩:y8)).low,.int .i64 0]))))):=by kernel_rfl
theorem att:Valid Tryz.prog aP 105 XW:=aH Tryz.func105 rfl Ik aAJ (aW (by kernel_rfl)) (fun args lv h=>by
 unfold aco at h
 split at h
 ·simp only [canL,canX]
  rw [aog]
  rename_i am mo ga lo de
  obtain rfl:=h
  refine ⟨fun c=>?_,fun c=>⟨fun c2=>?_,fun c2=>?_⟩⟩
  ·have c:PV (am,mo,ga,lo,de)=false:=by simpa using c
   simp [T.all,pmA,pmE,c]
  ·have c:PV (am,mo,ga,lo,de)=true:=by simpa using c
   simp [T.all,pmA,pmE,c,c2]
  ·have c:PV (am,mo,ga,lo,de)=true:=by simpa using c
   obtain ⟨⟨h1,h2,h3⟩,⟨h4,h5⟩,⟨h6,h7⟩,h8,h9⟩:=axx c c2
   simp only at h1 h2 h3 h4 h5 h6 h7 h8 h9
   have hm:0≤(if de<lo then de else lo)∧(if de<lo then de else lo)≤1000:=by split<;>omega
   have e:pmA (am,mo,ga,lo,de)=prm ga ((if de<lo then de else lo)*(mo-am)):=by
    unfold pmA
    rw [if_pos c,if_neg (by rw [c2];simp)]
   have e2:pmE (am,mo,ga,lo,de)=0:=by
    unfold pmE
    rw [if_pos c]
   rw [e,e2,aK (x:=mo-am) (by omega) (by omega)]
   generalize (if de<lo then de else lo)=mn at hm⊢
   have a1:0≤mn*(mo-am):=Int.mul_nonneg hm.1 (by omega)
   have a2:mn*(mo-am)≤1000*(mo-am):=Int.mul_le_mul_of_nonneg_right hm.2 (by omega)
   rw [aK (x:=mn*(mo-am)) (by omega) (by omega)]
   refine mP ⟨⟨rfl,rfl,⟨h4,h5⟩,a1⟩,rfl,rfl⟩ (fun hE=>?_)
   obtain ⟨s',_,q1,q2⟩:=awO _ hE.1
   show LV.v (.tuple #[.int .i64 _,_])=_
   rw [q2]
   rfl
 ·cases h)
end Go.Proofs.YtlihnbimgclogaaGreatDoor
namespace Go.Proofs.YtlihnbimgclogaaGreatDoor
open Go.Sx
structure mV where
 first:Int
 l:List Int
 n:Int
 i:Int
def aDx (s:mV):List LV:=[.v (.int .i64 s.first),.xl (.int .i64) s.l,.v (.int .i64 s.n),.v (.int .i64 s.i)]
def aCw (_:mV):List aU:=[]
noncomputable def Bo:Code:=((aC (Tryz.f106.body.getD .skip))[0]?).getD .skip
def QR (s:mV):T (Rd mV):=
 .br (decide (s.i<s.n)) (.req (0≤s.i∧s.i<(List.length s.l:Int)) (.ok (.next {s with first:=(if (gi s.l s.i)<s.first then (gi s.l s.i) else s.first),i:=(IntKind.i64.wrap (s.i+1))}))) (.ok (.stop (.exit 0) s))
abbrev aa1 (s:mV):=(QR s).rd s
def adi (s:mV):Prop:=s.i=0∧s.n=(s.l.length:Int)∧s.n≤1000
def MF (s:mV):Prop:=0≤s.i∧s.i≤s.n∧s.n=(s.l.length:Int)∧s.n≤1000
def OC (s:mV):Nat:=(s.n-s.i).toNat
def aky (x:Ex) (_ s':mV):Prop:=x=.exit 0∧s'.i=s'.n
theorem aAr:∀s,adi s→MF s:=by
 intro s h
 obtain ⟨h0,h1,h2⟩:=h
 exact ⟨by omega,by omega,h1,h2⟩
theorem aww (s:mV) (hI:MF s):bJ (fun s'=>MF s'∧OC s'<OC s) (fun x s'=>aky x s s') (aa1 s):=by
 unfold aa1 QR
 dsimp only [T.rd,T.rl]
 obtain ⟨h0,h1,h2,h3⟩:=hI
 refine au (fun c1=>?_) (fun c1=>?_)
 ·have c1:s.i<s.n:=by simpa using c1
  rw [aK (x:=s.i+1) (by omega) (by omega)]
  exact ⟨⟨by simp only;omega,by simp only;omega,h2,h3⟩,by simp only [OC];omega⟩
 ·have c1:s.n≤s.i:=by simpa using c1
  exact ⟨rfl,by omega⟩
def EP:bK mV:=⟨0,18,[0,7,8,9],[],aDx,aCw,fun v _=>⟨gI (v.getD 0 .junk),aQ (.int .i64) (v.getD 1 .junk),gI (v.getD 2 .junk),gI (v.getD 3 .junk)⟩,QR,fun s r=> {r with l:=s.l,n:=s.n},fun s=>s,fun _ s=>s,[.exit 0],adi,MF,OC⟩
abbrev zB:=EP.run
abbrev apH:=EP.jJ
abbrev ays:=EP.q
theorem au8 (s:mV) (hI:MF s):(QR s).all (fun _=>True):=by
 refine ⟨fun c1=>⟨?_,trivial⟩,fun _=>trivial⟩
 ·(obtain ⟨h0,h1,h2,h3⟩:=hI;simp at c1;omega)
noncomputable def aaF:Specs:=aZ []
theorem aiD:∀g S,aaF g=some S→Valid Tryz.prog aP g S:=aS (l:=[]) trivial
theorem V6:EP.Ok:=⟨fun s=>by kernel_rfl,fun s=>by kernel_rfl,fun s=>rfl,fun s t r=>rfl,fun s=>rfl,fun s=>by kernel_rfl⟩
theorem VK:EP.Pf (aky):=⟨aAr,fun _ _=>rfl,aww,au8⟩
theorem amm:bg Tryz.prog aP (AN 0) (.loop Bo) EP.lp:=bK.snd V6 VK (aT (Γ:=aaF) (K:=eu) (L:=aB) aiD aF Bo (fun b hb=>by rw [show aC Bo=[] by kernel_rfl] at hb;cases hb)) (fun s=>by kernel_rfl)
theorem aoV (s:mV) (hE:adi s):∃s',MF s'∧aky (apH s) s' (zB s):=bK.fin V6 VK s hE
theorem ahX (s:mV) (hE:adi s):(fun s:mV=>Wv s.first (s.l.drop s.i.toNat)) (zB s)=(fun s:mV=>Wv s.first (s.l.drop s.i.toNat)) s:=by
 exact bK.uO V6 VK (fun s:mV=>Wv s.first (s.l.drop s.i.toNat)) (fun s hI=>by
  show bJ _ _ (aa1 s)
  unfold aa1 QR
  dsimp only [T.rd,T.rl]
  obtain ⟨h0,h1,h2,h3⟩:=hI
  refine au (fun c1=>?_) (fun c1=>rfl)
  have c1:s.i<s.n:=by simpa using c1
  rw [aK (x:=s.i+1) (by omega) (by omega)]
  show Wv _ _=Wv _ _
  rw [(gi_step h0 (show s.i<s.l.length by omega)).1]
  rfl) s hE
def acE:List LV→T LV
 | [.v (.int .i64 f),.xl (.int .i64) l]=> .req ((List.length l:Int)≤1000) (.ok (.v (.int .i64 (Wv f l))))
 |_=> .no
noncomputable def X9:List LV→T LV:=gB Tryz.prog Tryz.f106.params.toList acE
theorem aot (f:Int) (l:List Int):bT Tryz.prog aP (aaF) eu (fun i=>if i=2 then EP.lp else aB i) Tryz.f106 [.v (.int .i64 f),.xl (.int .i64) l]=.req (ays (⟨f,l,(List.length l:Int),(0:Int)⟩:mV)) (.ok (.v (.int .i64 (zB (⟨f,l,(List.length l:Int),(0:Int)⟩:mV)).first))):=by kernel_rfl
theorem atE:Valid Tryz.prog aP 106 X9:=aH Tryz.func106 rfl aiD aF (L:=(fun i=>if i=2 then EP.lp else aB i)) (fun b hb=>by
 rw [show aC _=[Bo] by kernel_rfl] at hb
 simp only [List.mem_cons,List.not_mem_nil,or_false] at hb
 subst hb
 exact amm) (fun args lv h=>by
 unfold acE at h
 split at h
 ·simp only [canL,canX]
  rw [aot]
  rename_i f l
  obtain ⟨hl,rfl⟩:=h
  refine mP ⟨⟨rfl,rfl,hl⟩,rfl,rfl⟩ (fun hE=>?_)
  obtain ⟨s',_,q1,q2⟩:=aoV _ hE.1
  have q3:=ahX _ hE.1
  simp only at q3
  rw [q2] at q3
  have e:(zB ⟨f,l,(List.length l:Int),(0:Int)⟩).n=(List.length l:Int):=rfl
  have e2:(zB ⟨f,l,(List.length l:Int),(0:Int)⟩).l=l:=rfl
  rw [e,e2,List.drop_eq_nil_of_le (by omega)] at q3
  exact congrArg (fun z=>LV.v (.int .i64 z)) q3
 ·cases h)
def acA:List LV→T LV
 | [.v (.agg ⟨[.string nm,.int .i64 xZ,.int .i64 li,.int .i64 ne,.int .i64 ra,.int .i64 he,.int .i64 am,.int .i64 mo,.int .i64 ga,.int .i64 lo,.int .i64 de]⟩)]=> .ok (.v (.int .i64 (dP (nm,xZ,li,ne,(ra,he),am,mo,ga,lo,de))))
 |_=> .no
noncomputable def X6:List LV→T LV:=gB Tryz.prog Tryz.f58.params.toList acA
noncomputable def arR:Specs:=aZ [(105,XW),(106,X9)]
theorem aA1:∀g S,arR g=some S→Valid Tryz.prog aP g S:=aS (l:=[(105,XW),(106,X9)]) ⟨att,atE,trivial⟩
theorem aop (nm:ByteArray) (xZ li ne ra he am mo ga lo de:Int):bT Tryz.prog aP (arR) eu aB Tryz.f58 [.v (.agg #[.string nm,.int .i64 xZ,.int .i64 li,.int .i64 ne,.int .i64 ra,.int .i64 he,.int .i64 am,.int .i64 mo,.int .i64 ga,.int .i64 lo,.int .i64 de])]=.br ((pmE (am,mo,ga,lo,de)) !=0) (.br (ra==0) (.req ((List.length ([ne,(0:Int)]):Int)≤1000) (.ok (.v (.int .i64 (Wv li ([ne,(0:Int)])))))) (.req ((List.length ([ne,(0:Int),ra]):Int)≤1000) (.ok (.v (.int .i64 (Wv li ([ne,(0:Int),ra]))))))) (.br (ra==0) (.req ((List.length ([ne,(pmA (am,mo,ga,lo,de))]):Int)≤1000) (.ok (.v (.int .i64 (Wv li ([ne,(pmA (am,mo,ga,lo,de))])))))) (.req ((List.length ([ne,(pmA (am,mo,ga,lo,de)),ra]):Int)≤1000) (.ok (.v (.int .i64 (Wv li ([ne,(pmA (am,mo,ga,lo,de)),ra]))))))):=by kernel_rfl
theorem atA:Valid Tryz.prog aP 58 X6:=aH Tryz.func58 rfl aA1 aF (aW (by kernel_rfl)) (fun args lv h=>by
 unfold acA at h
 split at h
 ·simp only [canL,canX]
  rw [aop]
  rename_i nm xZ li ne ra he am mo ga lo de
  obtain rfl:=h
  unfold dP
  simp only
  refine ⟨fun c=>?_,fun c=>?_⟩
  ·have e:pmA (am,mo,ga,lo,de)=0:=by
    rw [ann] at c
    have c:PV (am,mo,ga,lo,de)=false:=by simpa using c
    unfold pmA
    rw [c]
    rfl
   rw [e]
   refine ⟨fun c2=>⟨by simp,?_⟩,fun c2=>⟨by simp,?_⟩⟩
   ·rw [if_pos (by simpa using c2)];rfl
   ·rw [if_neg (by simpa using c2)];rfl
  ·refine ⟨fun c2=>⟨by simp,?_⟩,fun c2=>⟨by simp,?_⟩⟩
   ·rw [if_pos (by simpa using c2)];rfl
   ·rw [if_neg (by simpa using c2)];rfl
 ·cases h)
def ab2:List LV→T LV
 | [.v (.int .i64 k),.xq 5 q0,.xq 2 q1]=>(match ([q0 0,q0 1,q0 2,q0 3,q0 4]:List LV) with
  | [.xl (.pair .str (.pair (.int .i64) (.pair (.int .i64) (.pair (.int .i64) (.pair (.pair (.int .i64) (.int .i64)) (.pair (.int .i64) (.pair (.int .i64) (.pair (.int .i64) (.pair (.int .i64) (.int .i64)))))))))) _,.xl (.str) _,.xl (.pair .str (.pair (.int .i64) (.pair (.int .i64) (.int .i64)))) _,.xl (.pair .str (.pair (.int .i64) (.pair (.int .i64) (.pair (.int .i64) (.pair (.int .i64) (.pair (.int .i64) (.pair (.int .i64) (.int .i64)))))))) gs,.xl (.pair .str (.int .i64)) _]=>(match ([q1 0,q1 1]:List LV) with
  | [.v (.int .i64 _),.v (.int .i64 p)]=> .req ((0≤k∧k<(List.length gs:Int))∧0≤p) (.ok (.v (.bool (usA (bC gs k).2.2.1 p))))
  |_=> .no)
  |_=> .no)
 |_=> .no
noncomputable def I5:List LV→T LV:=gB Tryz.prog Tryz.f57.params.toList ab2
theorem anZ (k:Int) (cs:List Cd) (os:List ByteArray) (ks:List Ko) (gs:List Ch) (bs:List Ba) (c p:Int):bT Tryz.prog aP (aaF) eu aB Tryz.f57 [.v (.int .i64 k),.xq 5 (fun j=>([.xl dX cs,.xl .str os,.xl dY ks,.xl dS gs,.xl dZ bs]:List LV).getD j .junk),.xq 2 (fun j=>([.v (.int .i64 c),.v (.int .i64 p)]:List LV).getD j .junk)]=.req (0≤k∧k<(List.length gs:Int)) (.req (0≤p) (.ok (.v (.bool ((aBB .i64 (bC gs k).2.2.1 (IntKind.i64.wrap ((1:Int)*2^(min p.toNat 64)))) !=0))))):=by kernel_rfl
theorem aeK:Valid Tryz.prog aP 57 I5:=aH Tryz.func57 rfl aiD aF (aW (by kernel_rfl)) (fun args lv h=>by
 unfold ab2 at h
 split at h
 ·split at h
  case h_2=>cases h
  rename_i heq0
  split at h
  case h_2=>cases h
  rename_i heq1
  simp only [canL,canX]
  rw [o7 (n:=5) heq0]
  simp only [canL,canX]
  rw [o7 (n:=2) heq1]
  simp only [canL,canX]
  rw [anZ]
  obtain ⟨⟨h1,h2⟩,h3⟩:=h
  exact ⟨h1,h2,h3⟩
 ·cases h)
structure jU where
 cs:List Cd
 os:List ByteArray
 ks:List Ko
 gs:List Ch
 bs:List Ba
 c:Int
 p:Int
 l:List Int
 n:Int
 i:Int
 out:List Int
def aDQ (s:jU):List LV:=[.fn 57 [.xq 5 (fun j=>([.xl dX s.cs,.xl .str s.os,.xl dY s.ks,.xl dS s.gs,.xl dZ s.bs]:List LV).getD j .junk),.xq 2 (fun j=>([.v (.int .i64 s.c),.v (.int .i64 s.p)]:List LV).getD j .junk)],.os 0 1 0 (List.length s.out),.xl (.int .i64) s.l,.v (.int .i64 s.n),.v (.int .i64 s.i)]
def aCP (s:jU):List aU:=[⟨[],3,.vec (.int .i64) s.out,false⟩]
noncomputable def BM:Code:=((aC (Tryz.f56.body.getD .skip))[0]?).getD .skip
def QX (s:jU):T (Rd jU):=
 .br (decide (s.i<s.n)) (.req (0≤s.i∧s.i<(List.length s.l:Int)) (.req ((0≤(gi s.l s.i)∧(gi s.l s.i)<(List.length s.gs:Int))∧0≤s.p) (.br (usA (bC s.gs (gi s.l s.i)).2.2.1 s.p) (.req (0+(List.length s.out)=List.length s.out∧((List.length s.out+List.length ([(gi s.l s.i)]):Nat):Int)*8≤2^47∧((List.length s.out+List.length ([(gi s.l s.i)]):Nat):Int)<2^62) (.req (0=0∧(List.length s.out+List.length ([(gi s.l s.i)]))=List.length (s.out++([(gi s.l s.i)]))) (.ok (.next {s with i:=(IntKind.i64.wrap (s.i+1)),out:=(s.out++([(gi s.l s.i)]))})))) (.rl s.out (.ok (.next {s with i:=(IntKind.i64.wrap (s.i+1))})))))) (.rl s.out (.ok (.stop (.exit 0) s)))
abbrev aa7 (s:jU):=(QX s).rd s
def U0 (s:jU):Prop:=s.i=0∧s.out=[]∧s.n=(s.l.length:Int)∧s.n≤1000∧0≤s.p∧∀k∈s.l,0≤k∧k<(s.gs.length:Int)
def MW (s:jU):Prop:=(0≤s.i∧s.i≤s.n)∧(s.out.length:Int)≤s.i∧s.n=(s.l.length:Int)∧s.n≤1000∧0≤s.p∧∀k∈s.l,0≤k∧k<(s.gs.length:Int)
def Hr (s:jU):Nat:=(s.n-s.i).toNat
def akK (x:Ex) (_ s':jU):Prop:=x=.exit 0∧s'.i=s'.n
theorem aBy:∀s,U0 s→MW s:=by
 intro s h
 obtain ⟨h0,h1,h2,h3,h4,h5⟩:=h
 exact ⟨by omega,by rw [h1];simp;omega,h2,h3,h4,h5⟩
theorem axu (s:jU) (hI:MW s):bJ (fun s'=>MW s'∧Hr s'<Hr s) (fun x s'=>akK x s s') (aa7 s):=by
 unfold aa7 QX
 dsimp only [T.rd,T.rl]
 obtain ⟨⟨h0,h1⟩,h2,h3,h4,h5,h6⟩:=hI
 refine au (fun c1=>?_) (fun c1=>?_)
 ·have c1:s.i<s.n:=by simpa using c1
  rw [aK (x:=s.i+1) (by omega) (by omega)]
  refine au (fun c2=>?_) (fun c2=>?_)
  ·exact ⟨⟨⟨by simp only;omega,by simp only;omega⟩,by simp only [List.length_append,List.length_cons,List.length_nil];omega,h3,h4,h5,h6⟩,by simp only [Hr];omega⟩
  ·exact ⟨⟨⟨by simp only;omega,by simp only;omega⟩,by simp only;omega,h3,h4,h5,h6⟩,by simp only [Hr];omega⟩
 ·have c1:s.n≤s.i:=by simpa using c1
  exact ⟨rfl,by omega⟩
def Fb:bK jU:=⟨0,23,[1,5,8,9,10],[.nl 5 3 (.int .i64)],aDQ,aCP,fun v b=>⟨aQ dX (nC (gFn (v.getD 0 .junk) 0) 0),aQ .str (nC (gFn (v.getD 0 .junk) 0) 1),aQ dY (nC (gFn (v.getD 0 .junk) 0) 2),aQ dS (nC (gFn (v.getD 0 .junk) 0) 3),aQ dZ (nC (gFn (v.getD 0 .junk) 0) 4),gI (nC (gFn (v.getD 0 .junk) 1) 0),gI (nC (gFn (v.getD 0 .junk) 1) 1),aQ (.int .i64) (v.getD 2 .junk),gI (v.getD 3 .junk),gI (v.getD 4 .junk),iT (.int .i64) (aO b 0)⟩,QX,fun s r=> {r with cs:=s.cs,os:=s.os,ks:=s.ks,gs:=s.gs,bs:=s.bs,c:=s.c,p:=s.p,l:=s.l,n:=s.n},fun s=>s,fun _ s=>s,[.exit 0],U0,MW,Hr⟩
abbrev pV:=Fb.run
abbrev apO:=Fb.jJ
abbrev ayK:=Fb.q
theorem avr (s:jU) (hI:MW s):(QX s).all (fun _=>True):=by
 refine ⟨fun c1=>⟨?_,?_,fun c2=>⟨?_,?_,trivial⟩,fun c2=>⟨⟨rfl,rfl⟩,trivial⟩⟩,fun c1=>⟨⟨rfl,rfl⟩,trivial⟩⟩
 all_goals ((obtain ⟨⟨h0,h1⟩,h2,h3,h4,h5,h6⟩:=hI;(try simp only [decide_eq_true_eq] at c1);first|omega|(refine ⟨h6 _ ?_,h5⟩;rw [pG (by omega)];exact List.getElem_mem _) |(refine ⟨by omega,?_,?_⟩<;>simp only [List.length_cons,List.length_nil]<;>omega) |exact ⟨rfl,by simp⟩ |exact ⟨rfl,rfl⟩))
noncomputable def aiU:Specs:=aZ [(57,I5)]
theorem arE:∀g S,aiU g=some S→Valid Tryz.prog aP g S:=aS (l:=[(57,I5)]) ⟨aeK,trivial⟩
theorem V8:Fb.Ok:=⟨fun s=>by kernel_rfl,fun s=>by kernel_rfl,fun s=>rfl,fun s t r=>rfl,fun s=>rfl,fun s=>by kernel_rfl⟩
theorem VN:Fb.Pf (akK):=⟨aBy,fun _ _=>rfl,axu,avr⟩
theorem amH:bg Tryz.prog aP (AN 0) (.loop BM) Fb.lp:=bK.snd V8 VN (aT (Γ:=aiU) (K:=eu) (L:=aB) arE aF BM (fun b hb=>by rw [show aC BM=[] by kernel_rfl] at hb;cases hb)) (fun s=>by kernel_rfl)
theorem aqb (s:jU) (hE:U0 s):∃s',MW s'∧akK (apO s) s' (pV s):=bK.fin V8 VN s hE
theorem ajo (s:jU) (hE:U0 s):(fun s:jU=>s.out++gW s.gs s.p (s.l.drop s.i.toNat)) (pV s)=(fun s:jU=>s.out++gW s.gs s.p (s.l.drop s.i.toNat)) s:=by
 exact bK.uO V8 VN (fun s:jU=>s.out++gW s.gs s.p (s.l.drop s.i.toNat)) (fun s hI=>by
  show bJ _ _ (aa7 s)
  unfold aa7 QX
  dsimp only [T.rd,T.rl]
  obtain ⟨⟨h0,h1⟩,h2,h3,h4,h5,h6⟩:=hI
  refine au (fun c1=>?_) (fun c1=>rfl)
  have c1:s.i<s.n:=by simpa using c1
  rw [aK (x:=s.i+1) (by omega) (by omega)]
  refine au (fun c2=>?_) (fun c2=>?_)
  ·show _++gW _ _ _=_++gW _ _ _
   rw [(gi_step h0 (show s.i<s.l.length by omega)).1]
   simp [gW,c2]
  ·show _++gW _ _ _=_++gW _ _ _
   rw [(gi_step h0 (show s.i<s.l.length by omega)).1]
   simp [gW,c2]) s hE
theorem aqa (s:jU) (hE:U0 s):(pV s).out=gW s.gs s.p s.l:=by
 obtain ⟨s',_,q1,q2⟩:=aqb s hE
 have q3:=ajo s hE
 obtain ⟨h0,h1,h2,h3⟩:=hE
 simp only at q3
 rw [q2,show (pV s).n=s.n from rfl,show (pV s).l=s.l from rfl,List.drop_eq_nil_of_le (by omega),h0,h1] at q3
 simpa [gW] using q3
def acV:List LV→T LV
 | [.xl (.int .i64) l,.fn 57 [.xq 5 q0,.xq 2 q1]]=>(match ([q0 0,q0 1,q0 2,q0 3,q0 4]:List LV) with
  | [.xl (.pair .str (.pair (.int .i64) (.pair (.int .i64) (.pair (.int .i64) (.pair (.pair (.int .i64) (.int .i64)) (.pair (.int .i64) (.pair (.int .i64) (.pair (.int .i64) (.pair (.int .i64) (.int .i64)))))))))) _,.xl (.str) _,.xl (.pair .str (.pair (.int .i64) (.pair (.int .i64) (.int .i64)))) _,.xl (.pair .str (.pair (.int .i64) (.pair (.int .i64) (.pair (.int .i64) (.pair (.int .i64) (.pair (.int .i64) (.pair (.int .i64) (.int .i64)))))))) gs,.xl (.pair .str (.int .i64)) _]=>(match ([q1 0,q1 1]:List LV) with
  | [.v (.int .i64 _),.v (.int .i64 p)]=> .req (Tz gs p l) (.ok (.xl (.int .i64) (gW gs p l)))
  |_=> .no)
  |_=> .no)
 |_=> .no
noncomputable def Yo:List LV→T LV:=gB Tryz.prog Tryz.f56.params.toList acV
theorem aoK (l:List Int) (cs:List Cd) (os:List ByteArray) (ks:List Ko) (gs:List Ch) (bs:List Ba) (c p:Int):bT Tryz.prog aP (aiU) eu (fun i=>if i=3 then Fb.lp else aB i) Tryz.f56 [.xl (.int .i64) l,.fn 57 [.xq 5 (fun j=>([.xl dX cs,.xl .str os,.xl dY ks,.xl dS gs,.xl dZ bs]:List LV).getD j .junk),.xq 2 (fun j=>([.v (.int .i64 c),.v (.int .i64 p)]:List LV).getD j .junk)]]=.req (0=0∧0=List.length ([]:List Int)) (.req (ayK (⟨cs,os,ks,gs,bs,c,p,l,(List.length l:Int),(0:Int),([]:List Int)⟩:jU)) (.req (0+(List.length (pV (⟨cs,os,ks,gs,bs,c,p,l,(List.length l:Int),(0:Int),([]:List Int)⟩:jU)).out)≤List.length (pV (⟨cs,os,ks,gs,bs,c,p,l,(List.length l:Int),(0:Int),([]:List Int)⟩:jU)).out) (.ok (.xl (.int .i64) (((pV (⟨cs,os,ks,gs,bs,c,p,l,(List.length l:Int),(0:Int),([]:List Int)⟩:jU)).out.drop 0).take (List.length (pV (⟨cs,os,ks,gs,bs,c,p,l,(List.length l:Int),(0:Int),([]:List Int)⟩:jU)).out)))))):=by kernel_rfl
theorem atU:Valid Tryz.prog aP 56 Yo:=aH Tryz.func56 rfl arE aF (L:=(fun i=>if i=3 then Fb.lp else aB i)) (fun b hb=>by
 rw [show aC _=[BM] by kernel_rfl] at hb
 simp only [List.mem_cons,List.not_mem_nil,or_false] at hb
 subst hb
 exact amH) (fun args lv h=>by
 unfold acV at h
 split at h
 ·split at h
  case h_2=>cases h
  rename_i heq0
  split at h
  case h_2=>cases h
  rename_i heq1
  simp only [canL,canX]
  rw [o7 (n:=5) heq0]
  simp only [canL,canX]
  rw [o7 (n:=2) heq1]
  simp only [canL,canX]
  rw [aoK]
  obtain ⟨⟨hp,hl,hm⟩,rfl⟩:=h
  refine ⟨⟨rfl,rfl⟩,mP ⟨⟨rfl,rfl,rfl,by simp only;omega,hp,hm⟩,rfl,rfl⟩ (fun hE=>⟨by omega,?_⟩)⟩
  show LV.xl _ _=_
  rw [List.drop_zero,List.take_length,aqa _ hE.1]
 ·cases h)
end Go.Proofs.YtlihnbimgclogaaGreatDoor
namespace Go.Proofs.YtlihnbimgclogaaGreatDoor
open Go.Sx
noncomputable def afl:Array Tmp×Code×Code:=((jL (Tryz.f24.body.getD .skip))[0]?).getD (#[],.skip,.skip)
noncomputable def azK:Array Tmp:=afl.1
noncomputable def az5:Code:=afl.2.1
noncomputable def az0:Code:=afl.2.2
structure uZ where
 n:Int
 c:Int
 af:List Cd
 aI:List ByteArray
 aG:List Ko
 aj:List Ch
 aV:List Ba
 below:List Int
 bQ:List Cd
 eP:List ByteArray
 bV:List Ko
 cu:List Ch
 iG:List Ba
 rows:List Rw
 st:LS
def aEB (s:uZ):List LV:=[.uI 4,.v (.int .i64 s.n),.v (.int .i64 s.c)]
noncomputable def aEt (s:uZ):List aU:=[⟨[.xl dX s.af,.xl .str s.aI,.xl dY s.aG,.xl dS s.aj,.xl dZ s.aV],28,.cl,true⟩,⟨[.os 5 2 0 (List.length s.rows)],49,.cl,false⟩,⟨[.xl (.int .i64) s.below],35,.cl,false⟩,⟨[.xl dX s.bQ,.xl .str s.eP,.xl dY s.bV,.xl dS s.cu,.xl dZ s.iG],28,.cl,false⟩,⟨[.junk,.own 0 0,.junk,.junk,.own 1 0,.own 2 0,.v (.tuple #[]),.v (.tuple #[]),.junk,.junk,.junk,.junk,.junk,.v (.tuple #[]),.v (.tuple #[]),.v (.tuple #[]),.v (.tuple #[]),.v (.tuple #[]),.v (.tuple #[]),.v (.tuple #[]),.v (.tuple #[]),.v (.tuple #[]),.v (.tuple #[]),.junk,.v (.tuple #[]),.v (.tuple #[]),.v (.tuple #[]),.v (.tuple #[]),.v (.tuple #[]),.v (.tuple #[]),.v (.tuple #[]),.v (.tuple #[]),.v (.tuple #[]),.v (.tuple #[]),.v (.tuple #[]),.v (.tuple #[]),.v (.tuple #[]),.v (.tuple #[]),.v (.tuple #[]),.v (.tuple #[]),.v (.tuple #[]),.v (.tuple #[]),.junk],0,.kM azK az5 az0 s.st,false⟩,⟨[],107,.vec zl s.rows,false⟩]
noncomputable def abJ:Code:=((aC (Tryz.f101.body.getD .skip))[0]?).getD .skip
set_option maxHeartbeats 4000000 in
def alC (s:uZ):T (Rd uZ):=
 .br (decide (s.c<s.n)) (.req (Tz s.aj (0:Int) (bU s.af s.aI s.aG s.aj s.aV s.c)) (.br (decide ((List.length (gW s.aj (0:Int) (bU s.af s.aI s.aG s.aj s.aV s.c)):Int)>0)) (.req (0≤s.c∧s.c<(List.length s.af:Int)) (.req (0+(List.length s.rows)=List.length s.rows∧((List.length s.rows+List.length ([((dP (fO s.af s.c)),gW s.aj (0:Int) (bU s.af s.aI s.aG s.aj s.aV s.c))]):Nat):Int)*32≤2^47∧((List.length s.rows+List.length ([((dP (fO s.af s.c)),gW s.aj (0:Int) (bU s.af s.aI s.aG s.aj s.aV s.c))]):Nat):Int)<2^62) (.req (Tz s.aj (1:Int) (bU s.af s.aI s.aG s.aj s.aV s.c)) (.br (decide ((List.length (gW s.aj (1:Int) (bU s.af s.aI s.aG s.aj s.aV s.c)):Int)>0)) (.req (0≤s.c∧s.c<(List.length s.af:Int)) (.req (0+(List.length s.rows+List.length ([((dP (fO s.af s.c)),gW s.aj (0:Int) (bU s.af s.aI s.aG s.aj s.aV s.c))]))=List.length (s.rows++([((dP (fO s.af s.c)),gW s.aj (0:Int) (bU s.af s.aI s.aG s.aj s.aV s.c))]))∧((List.length s.rows+List.length ([((dP (fO s.af s.c)),gW s.aj (0:Int) (bU s.af s.aI s.aG s.aj s.aV s.c))])+List.length ([((dP (fO s.af s.c)),gW s.aj (1:Int) (bU s.af s.aI s.aG s.aj s.aV s.c))]):Nat):Int)*32≤2^47∧((List.length s.rows+List.length ([((dP (fO s.af s.c)),gW s.aj (0:Int) (bU s.af s.aI s.aG s.aj s.aV s.c))])+List.length ([((dP (fO s.af s.c)),gW s.aj (1:Int) (bU s.af s.aI s.aG s.aj s.aV s.c))]):Nat):Int)<2^62) (.req (Tz s.aj (2:Int) (bU s.af s.aI s.aG s.aj s.aV s.c)) (.br (decide ((List.length (gW s.aj (2:Int) (bU s.af s.aI s.aG s.aj s.aV s.c)):Int)>0)) (.req (0≤s.c∧s.c<(List.length s.af:Int)) (.req (0+(List.length s.rows+List.length ([((dP (fO s.af s.c)),gW s.aj (0:Int) (bU s.af s.aI s.aG s.aj s.aV s.c))])+List.length ([((dP (fO s.af s.c)),gW s.aj (1:Int) (bU s.af s.aI s.aG s.aj s.aV s.c))]))=List.length ((s.rows++([((dP (fO s.af s.c)),gW s.aj (0:Int) (bU s.af s.aI s.aG s.aj s.aV s.c))]))++([((dP (fO s.af s.c)),gW s.aj (1:Int) (bU s.af s.aI s.aG s.aj s.aV s.c))]))∧((List.length s.rows+List.length ([((dP (fO s.af s.c)),gW s.aj (0:Int) (bU s.af s.aI s.aG s.aj s.aV s.c))])+List.length ([((dP (fO s.af s.c)),gW s.aj (1:Int) (bU s.af s.aI s.aG s.aj s.aV s.c))])+List.length ([((dP (fO s.af s.c)),gW s.aj (2:Int) (bU s.af s.aI s.aG s.aj s.aV s.c))]):Nat):Int)*32≤2^47∧((List.length s.rows+List.length ([((dP (fO s.af s.c)),gW s.aj (0:Int) (bU s.af s.aI s.aG s.aj s.aV s.c))])+List.length ([((dP (fO s.af s.c)),gW s.aj (1:Int) (bU s.af s.aI s.aG s.aj s.aV s.c))])+List.length ([((dP (fO s.af s.c)),gW s.aj (2:Int) (bU s.af s.aI s.aG s.aj s.aV s.c))]):Nat):Int)<2^62) (.req (0=0∧(List.length s.rows+List.length ([((dP (fO s.af s.c)),gW s.aj (0:Int) (bU s.af s.aI s.aG s.aj s.aV s.c))])+List.length ([((dP (fO s.af s.c)),gW s.aj (1:Int) (bU s.af s.aI s.aG s.aj s.aV s.c))])+List.length ([((dP (fO s.af s.c)),gW s.aj (2:Int) (bU s.af s.aI s.aG s.aj s.aV s.c))]))=List.length (((s.rows++([((dP (fO s.af s.c)),gW s.aj (0:Int) (bU s.af s.aI s.aG s.aj s.aV s.c))]))++([((dP (fO s.af s.c)),gW s.aj (1:Int) (bU s.af s.aI s.aG s.aj s.aV s.c))]))++([((dP (fO s.af s.c)),gW s.aj (2:Int) (bU s.af s.aI s.aG s.aj s.aV s.c))]))) (.ok (.next {s with c:=(IntKind.i64.wrap (s.c+1)),below:=(bU s.af s.aI s.aG s.aj s.aV s.c),rows:=(((s.rows++([((dP (fO s.af s.c)),gW s.aj (0:Int) (bU s.af s.aI s.aG s.aj s.aV s.c))]))++([((dP (fO s.af s.c)),gW s.aj (1:Int) (bU s.af s.aI s.aG s.aj s.aV s.c))]))++([((dP (fO s.af s.c)),gW s.aj (2:Int) (bU s.af s.aI s.aG s.aj s.aV s.c))]))}))))) (.req (0=0∧(List.length s.rows+List.length ([((dP (fO s.af s.c)),gW s.aj (0:Int) (bU s.af s.aI s.aG s.aj s.aV s.c))])+List.length ([((dP (fO s.af s.c)),gW s.aj (1:Int) (bU s.af s.aI s.aG s.aj s.aV s.c))]))=List.length ((s.rows++([((dP (fO s.af s.c)),gW s.aj (0:Int) (bU s.af s.aI s.aG s.aj s.aV s.c))]))++([((dP (fO s.af s.c)),gW s.aj (1:Int) (bU s.af s.aI s.aG s.aj s.aV s.c))]))) (.ok (.next {s with c:=(IntKind.i64.wrap (s.c+1)),below:=(bU s.af s.aI s.aG s.aj s.aV s.c),rows:=((s.rows++([((dP (fO s.af s.c)),gW s.aj (0:Int) (bU s.af s.aI s.aG s.aj s.aV s.c))]))++([((dP (fO s.af s.c)),gW s.aj (1:Int) (bU s.af s.aI s.aG s.aj s.aV s.c))]))}))))))) (.req (Tz s.aj (2:Int) (bU s.af s.aI s.aG s.aj s.aV s.c)) (.br (decide ((List.length (gW s.aj (2:Int) (bU s.af s.aI s.aG s.aj s.aV s.c)):Int)>0)) (.req (0≤s.c∧s.c<(List.length s.af:Int)) (.req (0+(List.length s.rows+List.length ([((dP (fO s.af s.c)),gW s.aj (0:Int) (bU s.af s.aI s.aG s.aj s.aV s.c))]))=List.length (s.rows++([((dP (fO s.af s.c)),gW s.aj (0:Int) (bU s.af s.aI s.aG s.aj s.aV s.c))]))∧((List.length s.rows+List.length ([((dP (fO s.af s.c)),gW s.aj (0:Int) (bU s.af s.aI s.aG s.aj s.aV s.c))])+List.length ([((dP (fO s.af s.c)),gW s.aj (2:Int) (bU s.af s.aI s.aG s.aj s.aV s.c))]):Nat):Int)*32≤2^47∧((List.length s.rows+List.length ([((dP (fO s.af s.c)),gW s.aj (0:Int) (bU s.af s.aI s.aG s.aj s.aV s.c))])+List.length ([((dP (fO s.af s.c)),gW s.aj (2:Int) (bU s.af s.aI s.aG s.aj s.aV s.c))]):Nat):Int)<2^62) (.req (0=0∧(List.length s.rows+List.length ([((dP (fO s.af s.c)),gW s.aj (0:Int) (bU s.af s.aI s.aG s.aj s.aV s.c))])+List.length ([((dP (fO s.af s.c)),gW s.aj (2:Int) (bU s.af s.aI s.aG s.aj s.aV s.c))]))=List.length ((s.rows++([((dP (fO s.af s.c)),gW s.aj (0:Int) (bU s.af s.aI s.aG s.aj s.aV s.c))]))++([((dP (fO s.af s.c)),gW s.aj (2:Int) (bU s.af s.aI s.aG s.aj s.aV s.c))]))) (.ok (.next {s with c:=(IntKind.i64.wrap (s.c+1)),below:=(bU s.af s.aI s.aG s.aj s.aV s.c),rows:=((s.rows++([((dP (fO s.af s.c)),gW s.aj (0:Int) (bU s.af s.aI s.aG s.aj s.aV s.c))]))++([((dP (fO s.af s.c)),gW s.aj (2:Int) (bU s.af s.aI s.aG s.aj s.aV s.c))]))}))))) (.req (0=0∧(List.length s.rows+List.length ([((dP (fO s.af s.c)),gW s.aj (0:Int) (bU s.af s.aI s.aG s.aj s.aV s.c))]))=List.length (s.rows++([((dP (fO s.af s.c)),gW s.aj (0:Int) (bU s.af s.aI s.aG s.aj s.aV s.c))]))) (.ok (.next {s with c:=(IntKind.i64.wrap (s.c+1)),below:=(bU s.af s.aI s.aG s.aj s.aV s.c),rows:=(s.rows++([((dP (fO s.af s.c)),gW s.aj (0:Int) (bU s.af s.aI s.aG s.aj s.aV s.c))]))}))))))))) (.req (Tz s.aj (1:Int) (bU s.af s.aI s.aG s.aj s.aV s.c)) (.br (decide ((List.length (gW s.aj (1:Int) (bU s.af s.aI s.aG s.aj s.aV s.c)):Int)>0)) (.req (0≤s.c∧s.c<(List.length s.af:Int)) (.req (0+(List.length s.rows)=List.length s.rows∧((List.length s.rows+List.length ([((dP (fO s.af s.c)),gW s.aj (1:Int) (bU s.af s.aI s.aG s.aj s.aV s.c))]):Nat):Int)*32≤2^47∧((List.length s.rows+List.length ([((dP (fO s.af s.c)),gW s.aj (1:Int) (bU s.af s.aI s.aG s.aj s.aV s.c))]):Nat):Int)<2^62) (.req (Tz s.aj (2:Int) (bU s.af s.aI s.aG s.aj s.aV s.c)) (.br (decide ((List.length (gW s.aj (2:Int) (bU s.af s.aI s.aG s.aj s.aV s.c)):Int)>0)) (.req (0≤s.c∧s.c<(List.length s.af:Int)) (.req (0+(List.length s.rows+List.length ([((dP (fO s.af s.c)),gW s.aj (1:Int) (bU s.af s.aI s.aG s.aj s.aV s.c))]))=List.length (s.rows++([((dP (fO s.af s.c)),gW s.aj (1:Int) (bU s.af s.aI s.aG s.aj s.aV s.c))]))∧((List.length s.rows+List.length ([((dP (fO s.af s.c)),gW s.aj (1:Int) (bU s.af s.aI s.aG s.aj s.aV s.c))])+List.length ([((dP (fO s.af s.c)),gW s.aj (2:Int) (bU s.af s.aI s.aG s.aj s.aV s.c))]):Nat):Int)*32≤2^47∧((List.length s.rows+List.length ([((dP (fO s.af s.c)),gW s.aj (1:Int) (bU s.af s.aI s.aG s.aj s.aV s.c))])+List.length ([((dP (fO s.af s.c)),gW s.aj (2:Int) (bU s.af s.aI s.aG s.aj s.aV s.c))]):Nat):Int)<2^62) (.req (0=0∧(List.length s.rows+List.length ([((dP (fO s.af s.c)),gW s.aj (1:Int) (bU s.af s.aI s.aG s.aj s.aV s.c))])+List.length ([((dP (fO s.af s.c)),gW s.aj (2:Int) (bU s.af s.aI s.aG s.aj s.aV s.c))]))=List.length ((s.rows++([((dP (fO s.af s.c)),gW s.aj (1:Int) (bU s.af s.aI s.aG s.aj s.aV s.c))]))++([((dP (fO s.af s.c)),gW s.aj (2:Int) (bU s.af s.aI s.aG s.aj s.aV s.c))]))) (.ok (.next {s with c:=(IntKind.i64.wrap (s.c+1)),below:=(bU s.af s.aI s.aG s.aj s.aV s.c),rows:=((s.rows++([((dP (fO s.af s.c)),gW s.aj (1:Int) (bU s.af s.aI s.aG s.aj s.aV s.c))]))++([((dP (fO s.af s.c)),gW s.aj (2:Int) (bU s.af s.aI s.aG s.aj s.aV s.c))]))}))))) (.req (0=0∧(List.length s.rows+List.length ([((dP (fO s.af s.c)),gW s.aj (1:Int) (bU s.af s.aI s.aG s.aj s.aV s.c))]))=List.length (s.rows++([((dP (fO s.af s.c)),gW s.aj (1:Int) (bU s.af s.aI s.aG s.aj s.aV s.c))]))) (.ok (.next {s with c:=(IntKind.i64.wrap (s.c+1)),below:=(bU s.af s.aI s.aG s.aj s.aV s.c),rows:=(s.rows++([((dP (fO s.af s.c)),gW s.aj (1:Int) (bU s.af s.aI s.aG s.aj s.aV s.c))]))}))))))) (.req (Tz s.aj (2:Int) (bU s.af s.aI s.aG s.aj s.aV s.c)) (.br (decide ((List.length (gW s.aj (2:Int) (bU s.af s.aI s.aG s.aj s.aV s.c)):Int)>0)) (.req (0≤s.c∧s.c<(List.length s.af:Int)) (.req (0+(List.length s.rows)=List.length s.rows∧((List.length s.rows+List.length ([((dP (fO s.af s.c)),gW s.aj (2:Int) (bU s.af s.aI s.aG s.aj s.aV s.c))]):Nat):Int)*32≤2^47∧((List.length s.rows+List.length ([((dP (fO s.af s.c)),gW s.aj (2:Int) (bU s.af s.aI s.aG s.aj s.aV s.c))]):Nat):Int)<2^62) (.req (0=0∧(List.length s.rows+List.length ([((dP (fO s.af s.c)),gW s.aj (2:Int) (bU s.af s.aI s.aG s.aj s.aV s.c))]))=List.length (s.rows++([((dP (fO s.af s.c)),gW s.aj (2:Int) (bU s.af s.aI s.aG s.aj s.aV s.c))]))) (.ok (.next {s with c:=(IntKind.i64.wrap (s.c+1)),below:=(bU s.af s.aI s.aG s.aj s.aV s.c),rows:=(s.rows++([((dP (fO s.af s.c)),gW s.aj (2:Int) (bU s.af s.aI s.aG s.aj s.aV s.c))]))}))))) (.rl s.rows (.ok (.next {s with c:=(IntKind.i64.wrap (s.c+1)),below:=(bU s.af s.aI s.aG s.aj s.aV s.c)}))))))))) (.rl s.rows (.ok (.stop (.exit 0) s)))
abbrev aBe (s:uZ):=(alC s).rd s
def aqn (s:uZ):Prop:=s.st=.ready∧s.c=0∧s.rows=[]∧fM s.af s.aI s.aG s.aj s.aV=true∧s.n=(s.af.length:Int)
def aem (s:uZ):Prop:=s.st=.ready∧(0≤s.c∧s.c≤s.n)∧s.rows=jc s.af s.aj s.c.toNat∧fM s.af s.aI s.aG s.aj s.aV=true∧s.n=(s.af.length:Int)
def Z5 (s:uZ):Nat:=(s.n-s.c).toNat
def axK (x:Ex) (_ s':uZ):Prop:=x=.exit 0∧s'.rows=jc s'.af s'.aj s'.af.length
theorem aD2:∀s,aqn s→aem s:=by
 intro s h
 obtain ⟨h0,h1,h2,h3,h4⟩:=h
 exact ⟨h0,by omega,by rw [h1,h2];rfl,h3,h4⟩
theorem azs (s:uZ) (hI:aem s):bJ (fun s'=>aem s'∧Z5 s'<Z5 s) (fun x s'=>axK x s s') (aBe s):=by
 unfold aBe alC
 dsimp only [T.rd,T.rl]
 obtain ⟨h0,⟨h1,h2⟩,h3,h4,h5⟩:=hI
 refine au (fun c1=>?_) (fun c1=>?_)
 rotate_left
 ·have c1:s.n≤s.c:=by simpa using c1
  exact ⟨rfl,by rw [h3,show s.c.toNat=s.af.length by omega]⟩
 have c1:s.c<s.n:=by simpa using c1
 have hl:=(gq.1 h4).1
 rw [aK (x:=s.c+1) (by omega) (by omega)]
 have eb:bU s.af s.aI s.aG s.aj s.aV s.c=sQ s.af s.aj s.c s.aj.length:=by
  unfold bU
  rw [if_pos ⟨h4,h1,by omega⟩]
 rw [eb]
 have fin:∀r:List Rw,r=jc s.af s.aj s.c.toNat++(rowP s.af s.aj s.c 0++rowP s.af s.aj s.c 1++rowP s.af s.aj s.c 2)→r=jc s.af s.aj (s.c+1).toNat:=fun r hr=>by
  rw [hr,show (s.c+1).toNat=s.c.toNat+1 by omega,jc,Int.toNat_of_nonneg h1]
  rfl
 refine au (fun c2=>?_) (fun c2=>?_)<;>refine au (fun c3=>?_) (fun c3=>?_)<;>refine au (fun c4=>?_) (fun c4=>?_)
 all_goals
  refine ⟨⟨h0,⟨by simp only;omega,by simp only;omega⟩,?_,h4,h5⟩,by simp only [Z5];omega⟩
  simp only [decide_eq_true_eq,decide_eq_false_iff_not] at c2 c3 c4
  refine fin _ ?_
  simp only [h3,rowP]
  first|rw [if_pos (by omega)] |rw [if_neg (by omega)]
  first|rw [if_pos (by omega)] |rw [if_neg (by omega)]
  first|rw [if_pos (by omega)] |rw [if_neg (by omega)]
  simp only [List.append_assoc,List.nil_append,List.append_nil]
noncomputable def Yy:bK uZ:=⟨5,22,[0,7,8],[.nc 1 0 107 zl,.pc 2 0 (.int .i64),.pk 0],aEB,aEt,fun v b=>⟨gI (v.getD 1 .junk),gI (v.getD 2 .junk),aQ dX (aX (aO b 0) 0),aQ .str (aX (aO b 0) 1),aQ dY (aX (aO b 0) 2),aQ dS (aX (aO b 0) 3),aQ dZ (aX (aO b 0) 4),aQ (.int .i64) (aX (aO b 2) 0),aQ dX (aX (aO b 3) 0),aQ .str (aX (aO b 3) 1),aQ dY (aX (aO b 3) 2),aQ dS (aX (aO b 3) 3),aQ dZ (aX (aO b 3) 4),iT zl (aO b 5),.ready⟩,alC,fun s r=> {r with n:=s.n,af:=s.af,aI:=s.aI,aG:=s.aG,aj:=s.aj,aV:=s.aV,bQ:=s.bQ,eP:=s.eP,bV:=s.bV,cu:=s.cu,iG:=s.iG,st:=s.st},fun s=> {s with st:=.ready},fun x s=> {s with st:=(match x with| .exit 0=> .ready|_=> .ready)},[.exit 0],aqn,aem,Z5⟩
noncomputable abbrev CB:=Yy.run
noncomputable abbrev aw4:=Yy.jJ
abbrev aBM:=Yy.q
noncomputable def DX:Specs:=aZ [(53,IZ),(55,Qg),(56,Yo),(57,I5),(58,X6)]
theorem Ij:∀g S,DX g=some S→Valid Tryz.prog aP g S:=aS (l:=[(53,IZ),(55,Qg),(56,Yo),(57,I5),(58,X6)]) ⟨aeI,alz,atU,aeK,atA,trivial⟩
noncomputable def aiu:Hand:=inl Tryz.prog aP DX (lm Tryz.prog aP (DX) 20 2) 9
theorem aq7:dD Tryz.prog aP aiu:=bP Ij (dR Ij) 9
theorem azB (s:uZ) (hI:aem s):(alC s).all (fun _=>True):=by
 refine ⟨fun c1=>⟨?_,fun c2=>⟨?_,?_,?_,fun c3=>⟨?_,?_,?_,fun c4=>⟨?_,?_,?_,trivial⟩,fun c4=>⟨?_,trivial⟩⟩,fun c3=>⟨?_,fun c5=>⟨?_,?_,?_,trivial⟩,fun c5=>⟨?_,trivial⟩⟩⟩,fun c2=>⟨?_,fun c6=>⟨?_,?_,?_,fun c7=>⟨?_,?_,?_,trivial⟩,fun c7=>⟨?_,trivial⟩⟩,fun c6=>⟨?_,fun c8=>⟨?_,?_,?_,trivial⟩,fun c8=>⟨⟨rfl,rfl⟩,trivial⟩⟩⟩⟩,fun c1=>⟨⟨rfl,rfl⟩,trivial⟩⟩
 all_goals ((obtain ⟨h0,⟨h1,h2⟩,h3,h4,h5⟩:=hI;have hl:=(gq.1 h4).1;(try simp only [decide_eq_true_eq] at c1);have hr:s.rows.length≤3*s.c.toNat:=(by rw [h3];exact vF);have eb:bU s.af s.aI s.aG s.aj s.aV s.c=sQ s.af s.aj s.c s.aj.length:=(by unfold bU;rw [if_pos ⟨h4,h1,by omega⟩]);first|omega|((try simp only);rw [eb];refine ⟨by decide,Nat.le_trans IQ (by omega),fun k hk=>TU hk⟩) |(refine ⟨by omega,?_,?_⟩<;>simp only [List.length_cons,List.length_nil]<;>omega) |(simp only [List.length_append,List.length_cons,List.length_nil];omega) |exact ⟨rfl,by simp⟩ |exact ⟨rfl,rfl⟩))
theorem aqM:Yy.Ok:=⟨fun s=>by kernel_rfl,fun s=>by kernel_rfl,fun s=>rfl,fun s t r=>rfl,fun s=>rfl,fun s=>by kernel_rfl⟩
theorem aqF:Yy.Pf (axK):=⟨aD2,fun s h=>by
 obtain ⟨n,c,af,aI,aG,aj,aV,below,bQ,eP,bV,cu,iG,rows,st⟩:=s
 have e:st=.ready:=h.1
 subst e
 rfl,azs,azB⟩
theorem aub:bg Tryz.prog aP (AN 5) (.loop abJ) Yy.lp:=bK.snd aqM aqF (bF (Γ:=DX) (K:=aiu) (L:=(rY Tryz.prog aP DX aiu 20 2)) Ij aq7 abJ (fun b _=>dU Ij aq7 20 2 b)) (fun s=>by kernel_rfl)
theorem auk (s:uZ) (hE:aqn s):∃s',aem s'∧axK (aw4 s) s' (CB s):=bK.fin aqM aqF s hE
def ab3:List LV→T LV
 | [.agg [.xl (.pair .str (.pair (.int .i64) (.pair (.int .i64) (.pair (.int .i64) (.pair (.pair (.int .i64) (.int .i64)) (.pair (.int .i64) (.pair (.int .i64) (.pair (.int .i64) (.pair (.int .i64) (.int .i64)))))))))) cs,.xl (.str) os,.xl (.pair .str (.pair (.int .i64) (.pair (.int .i64) (.int .i64)))) ks,.xl (.pair .str (.pair (.int .i64) (.pair (.int .i64) (.pair (.int .i64) (.pair (.int .i64) (.pair (.int .i64) (.pair (.int .i64) (.int .i64)))))))) gs,.xl (.pair .str (.int .i64)) bs]]=> .ok (.iF [.xl zl (fQ cs os ks gs bs),.v (.int .i64 (vG cs os ks gs bs))])
 |_=> .no
noncomputable def lC:List LV→T LV:=gB Tryz.prog Tryz.f24.params.toList ab3
noncomputable def arj:Hand:=inl Tryz.prog aP DX (kE 101 5 1 (Yy.lp) (lm Tryz.prog aP (DX) 20 2)) 9
theorem aAI:dD Tryz.prog aP arj:=bP Ij (dF Tryz.func101 rfl (by kernel_rfl) aub (dR Ij)) 9
theorem an0 (cs:List Cd) (os:List ByteArray) (ks:List Ko) (gs:List Ch) (bs:List Ba):bT Tryz.prog aP (DX) arj aB Tryz.f24 [.agg [.xl dX cs,.xl .str os,.xl dY ks,.xl dS gs,.xl dZ bs]]=.br (!(fM cs os ks gs bs)) (.ok (.iF [.xl zl ([]:List Rw),.v (.int .i64 1)])) (.req (0=0∧0=List.length ([]:List Rw)) (.req (aBM (⟨(List.length cs:Int),(0:Int),cs,os,ks,gs,bs,([]:List Int),cs,os,ks,gs,bs,([]:List Rw),.ready⟩:uZ)) (.req (0+(List.length (CB (⟨(List.length cs:Int),(0:Int),cs,os,ks,gs,bs,([]:List Int),cs,os,ks,gs,bs,([]:List Rw),.ready⟩:uZ)).rows)≤List.length (CB (⟨(List.length cs:Int),(0:Int),cs,os,ks,gs,bs,([]:List Int),cs,os,ks,gs,bs,([]:List Rw),.ready⟩:uZ)).rows) (.ok (.iF [.xl zl (((CB (⟨(List.length cs:Int),(0:Int),cs,os,ks,gs,bs,([]:List Int),cs,os,ks,gs,bs,([]:List Rw),.ready⟩:uZ)).rows.drop 0).take (List.length (CB (⟨(List.length cs:Int),(0:Int),cs,os,ks,gs,bs,([]:List Int),cs,os,ks,gs,bs,([]:List Rw),.ready⟩:uZ)).rows)),.v (.int .i64 0)]))))):=by kernel_rfl
theorem yD:Valid Tryz.prog aP 24 lC:=aH Tryz.func24 rfl Ij aAI (aW (by kernel_rfl)) (fun args lv h=>by
 unfold ab3 at h
 split at h
 ·simp only [canL,canX]
  rw [an0]
  rename_i cs os ks gs bs
  obtain rfl:=h
  refine ⟨fun c=>?_,fun c=>?_⟩
  ·have c:fM cs os ks gs bs=false:=by simpa using c
   show LV.iF _=_
   unfold fQ vG
   rw [c]
   rfl
  ·have c:fM cs os ks gs bs=true:=by simpa using c
   have hE:aqn ⟨(List.length cs:Int),(0:Int),cs,os,ks,gs,bs,([]:List Int),cs,os,ks,gs,bs,([]:List (Int×(List Int))),.ready⟩:=⟨rfl,rfl,rfl,c,rfl⟩
   obtain ⟨s',_,q1,q2⟩:=auk _ hE
   have q2:(CB ⟨(List.length cs:Int),(0:Int),cs,os,ks,gs,bs,([]:List Int),cs,os,ks,gs,bs,([]:List (Int×(List Int))),.ready⟩).rows=jc cs gs cs.length:=q2
   refine ⟨⟨rfl,rfl⟩,⟨hE,rfl,rfl⟩,by omega,?_⟩
   show LV.iF [LV.xl _ _,_]=_
   rw [List.drop_zero,List.take_length,q2]
   unfold fQ vG
   rw [if_pos c,if_pos c]
 ·cases h)
end Go.Proofs.YtlihnbimgclogaaGreatDoor
namespace Go.Proofs.YtlihnbimgclogaaGreatDoor
open Go.Sx
def aj7:List LV→T LV
 | [.v (.int .i64 n),.v (.int .i64 a),.v (.int .i64 b)]=> .ok (.v (.bool (inB n a b)))
 |_=> .no
noncomputable def Uh:List LV→T LV:=gB Tryz.prog Tryz.f68.params.toList aj7
noncomputable def arI:Specs:=aZ []
theorem aAS:∀g S,arI g=some S→Valid Tryz.prog aP g S:=aS (l:=[]) trivial
theorem awm (n a b:Int):bT Tryz.prog aP (arI) eu aB Tryz.f68 [.v (.int .i64 n),.v (.int .i64 a),.v (.int .i64 b)]=.ok (.v (.bool ((decide (n≥a))&&(decide (n≤b))))):=by kernel_rfl
theorem aqx:Valid Tryz.prog aP 68 Uh:=aH Tryz.func68 rfl aAS aF (aW (by kernel_rfl)) (fun args lv h=>by
 unfold aj7 at h
 split at h
 ·simp only [canL,canX]
  rw [awm]
  exact h
 ·cases h)
def ajP:List LV→T LV
 | [.v (.agg ⟨[.bool wa,.int .i64 ow,.int .i64 le,.int .i64 ra]⟩)]=> .ok (.v (.bool (U8 (wa,ow,le,ra))))
 |_=> .no
noncomputable def ajA:List LV→T LV:=gB Tryz.prog Tryz.f70.params.toList ajP
noncomputable def arH:Specs:=aZ [(68,Uh)]
theorem aAR:∀g S,arH g=some S→Valid Tryz.prog aP g S:=aS (l:=[(68,Uh)]) ⟨aqx,trivial⟩
theorem av4 (wa:Bool) (ow le ra:Int):bT Tryz.prog aP (arH) eu aB Tryz.f70 [.v (.agg #[.bool wa,.int .i64 ow,.int .i64 le,.int .i64 ra])]=.ok (.v (.bool ((inB ow (0:Int) (1000000000:Int))&&((inB le (0:Int) (1000000:Int))&&(inB ra (1:Int) (9:Int)))))):=by kernel_rfl
theorem ay1:Valid Tryz.prog aP 70 ajA:=aH Tryz.func70 rfl aAR aF (aW (by kernel_rfl)) (fun args lv h=>by
 unfold ajP at h
 split at h
 ·simp only [canL,canX]
  rw [av4]
  exact h
 ·cases h)
structure lS where
 cs:List Cd
 os:List ByteArray
 ks:List Ko
 gs:List Ch
 bs:List Ba
 l:List Le
 d:List Dm
 t:Int
 od:List Int
 GH:List Ra
 r:Bool
 n:Int
 m:List Le
 k:Int
 i:Int
def aDH (s:lS):List LV:=[.xq 9 (fun j=>([.xl dX s.cs,.xl .str s.os,.xl dY s.ks,.xl dS s.gs,.xl dZ s.bs,.xl ng s.l,.xl qG s.d,.v (.int .i64 s.t),.xl (.int .i64) s.od]:List LV).getD j .junk),.xl Fg s.GH,.v (.bool s.r),.v (.int .i64 s.n),.xl ng s.m,.v (.int .i64 s.k),.v (.int .i64 s.i)]
def aCG (_:lS):List aU:=[]
noncomputable def BD:Code:=((aC (Tryz.f35.body.getD .skip))[0]?).getD .skip
def Ze (s:lS):T (Rd lS):=
 .br (decide (s.i<s.k)) (.req (0≤s.i∧s.i<(List.length s.m:Int)) (.br (decide ((gZ s.m s.i).2.1≥s.n)) (.ok (.stop (.ret) {s with r:=false})) (.ok (.next {s with i:=(IntKind.i64.wrap (s.i+1))})))) (.ok (.stop (.exit 0) s))
abbrev ast (s:lS):=(Ze s).rd s
def Jy (s:lS) (j:Int):Bool:=decide ((gZ s.m j).2.1<s.n)
def adq (s:lS):Prop:=s.i=0∧0≤s.k∧s.k≤1000∧s.k=(s.m.length:Int)
def MO (s:lS):Prop:=0≤s.i∧s.i≤s.k∧s.k≤1000∧(s.k=(s.m.length:Int))∧∀j:Nat,(j:Int)<s.i→Jy s j=true
def OT (s:lS):Nat:=(s.k-s.i).toNat
def akE (x:Ex) (_ s':lS):Prop:=(x=.exit 0∧∀j:Nat,(j:Int)<s'.k→Jy s' j=true)∨(x=.ret∧s'.r=false∧∃j:Nat,(j:Int)<s'.k∧Jy s' j=false)
theorem aBn:∀s,adq s→MO s:=by
 intro s h
 obtain ⟨h0,h1,h2,h3⟩:=h
 exact ⟨by omega,by omega,h2,h3,fun j hj=>by omega⟩
theorem axe (s:lS) (hI:MO s):bJ (fun s'=>MO s'∧OT s'<OT s) (fun x s'=>akE x s s') (ast s):=by
 unfold ast Ze
 dsimp only [T.rd,T.rl]
 obtain ⟨h0,h1,h2,h3,h4⟩:=hI
 refine au (fun c1=>au (fun c2=>?_) (fun c2=>?_)) (fun c1=>?_)
 ·have c1:s.i<s.k:=by simpa using c1
  refine .inr ⟨rfl,rfl,s.i.toNat,by simp only;omega,?_⟩
  rw [Int.toNat_of_nonneg (by omega)]
  have hg:Jy s s.i=false:=by unfold Jy;(simp only [decide_eq_true_eq,decide_eq_false_iff_not] at c2⊢;omega)
  exact hg
 ·have c1:s.i<s.k:=by simpa using c1
  have hg:Jy s s.i=true:=by unfold Jy;(simp only [decide_eq_true_eq,decide_eq_false_iff_not] at c2⊢;omega)
  rw [aK (x:=s.i+1) (by omega) (by omega)]
  refine ⟨⟨by simp only;omega,by simp only;omega,h2,h3,fun j hj=>?_⟩,by simp only [OT];omega⟩
  by_cases hji:(j:Int)<s.i
  ·exact h4 j hji
  ·have:(j:Int)=s.i:=by simp only at hj;omega
   rw [this];exact hg
 ·have c1:s.k≤s.i:=by simpa using c1
  exact .inl ⟨rfl,fun j hj=>h4 j (by omega)⟩
def EW:bK lS:=⟨0,108,[0,1,6,9,67,68,69],[],aDH,aCG,fun v _=>⟨aQ dX (nC (v.getD 0 .junk) 0),aQ .str (nC (v.getD 0 .junk) 1),aQ dY (nC (v.getD 0 .junk) 2),aQ dS (nC (v.getD 0 .junk) 3),aQ dZ (nC (v.getD 0 .junk) 4),aQ ng (nC (v.getD 0 .junk) 5),aQ qG (nC (v.getD 0 .junk) 6),gI (nC (v.getD 0 .junk) 7),aQ (.int .i64) (nC (v.getD 0 .junk) 8),aQ Fg (v.getD 1 .junk),vg (v.getD 2 .junk),gI (v.getD 3 .junk),aQ ng (v.getD 4 .junk),gI (v.getD 5 .junk),gI (v.getD 6 .junk)⟩,Ze,fun s r=> {r with cs:=s.cs,os:=s.os,ks:=s.ks,gs:=s.gs,bs:=s.bs,l:=s.l,d:=s.d,t:=s.t,od:=s.od,GH:=s.GH,n:=s.n,m:=s.m,k:=s.k},fun s=>s,fun _ s=>s,[.ret,.exit 0],adq,MO,OT⟩
abbrev wY:=EW.run
abbrev abw:=EW.jJ
abbrev ayB:=EW.q
theorem avi (s:lS) (hI:MO s):(Ze s).all (fun _=>True):=by
 refine ⟨fun c1=>⟨?_,fun _=>trivial,fun _=>trivial⟩,fun _=>trivial⟩
 ·(obtain ⟨h0,h1,h2,h3,h4⟩:=hI;simp at c1;omega)
noncomputable def aaC:Specs:=aZ [(24,lC),(62,Jc),(68,Uh),(69,Ue),(70,ajA)]
theorem aiA:∀g S,aaC g=some S→Valid Tryz.prog aP g S:=aS (l:=[(24,lC),(62,Jc),(68,Uh),(69,Ue),(70,ajA)]) ⟨yD,aeQ,aqx,aqu,ay1,trivial⟩
theorem ahh:EW.Ok:=⟨fun s=>by kernel_rfl,fun s=>by kernel_rfl,fun s=>rfl,fun s t r=>rfl,fun s=>rfl,fun s=>by kernel_rfl⟩
theorem aga:EW.Pf (akE):=⟨aBn,fun _ _=>rfl,axe,avi⟩
theorem amv:bg Tryz.prog aP (AN 0) (.loop BD) EW.lp:=bK.snd ahh aga (aT (Γ:=aaC) (K:=eu) (L:=aB) aiA aF BD (fun b hb=>by rw [show aC BD=[] by kernel_rfl] at hb;cases hb)) (fun s=>by kernel_rfl)
theorem apW (s:lS) (hE:adq s):∃s',MO s'∧akE (abw s) s' (wY s):=bK.fin ahh aga s hE
structure oP where
 cs:List Cd
 os:List ByteArray
 ks:List Ko
 gs:List Ch
 bs:List Ba
 l:List Le
 d:List Dm
 t:Int
 od:List Int
 rs:List Ra
 r:Bool
 m:List Ch
 k:Int
 i:Int
def aDG (s:oP):List LV:=[.xq 9 (fun j=>([.xl dX s.cs,.xl .str s.os,.xl dY s.ks,.xl dS s.gs,.xl dZ s.bs,.xl ng s.l,.xl qG s.d,.v (.int .i64 s.t),.xl (.int .i64) s.od]:List LV).getD j .junk),.xl Fg s.rs,.v (.bool s.r),.xl dS s.m,.v (.int .i64 s.k),.v (.int .i64 s.i)]
def aCF (_:oP):List aU:=[]
noncomputable def BB:Code:=((aC (Tryz.f35.body.getD .skip))[1]?).getD .skip
def Zd (s:oP):T (Rd oP):=
 .br (decide (s.i<s.k)) (.req (0≤s.i∧s.i<(List.length s.m:Int)) (.req (0≤s.i∧s.i<(List.length s.rs:Int)) (.br (!(JO (bC s.m s.i).2.2.1 (bC s.m s.i).2.2.2.1 (bC s.m s.i).2.2.2.2.1 (bC s.m s.i).2.2.2.2.2.1 (bC s.m s.i).2.2.2.2.2.2.1 (kJ s.rs s.i).1 (kJ s.rs s.i).2)) (.ok (.stop (.ret) {s with r:=false})) (.req (0≤s.i∧s.i<(List.length s.d:Int)) (.br (!(U8 (qI s.d s.i))) (.ok (.stop (.ret) {s with r:=false})) (.ok (.next {s with i:=(IntKind.i64.wrap (s.i+1))}))))))) (.ok (.stop (.exit 2) s))
abbrev asr (s:oP):=(Zd s).rd s
def Cb (s:oP) (j:Int):Bool:=RI (bC s.m j) (kJ s.rs j)&&U8 (qI s.d j)
def adp (s:oP):Prop:=s.i=0∧0≤s.k∧s.k≤1000∧s.k=(s.m.length:Int)∧s.rs.length=s.m.length∧s.d.length=s.m.length
def MN (s:oP):Prop:=0≤s.i∧s.i≤s.k∧s.k≤1000∧(s.k=(s.m.length:Int)∧s.rs.length=s.m.length∧s.d.length=s.m.length)∧∀j:Nat,(j:Int)<s.i→Cb s j=true
def OQ (s:oP):Nat:=(s.k-s.i).toNat
def akD (x:Ex) (_ s':oP):Prop:=(x=.exit 2∧∀j:Nat,(j:Int)<s'.k→Cb s' j=true)∨(x=.ret∧s'.r=false∧∃j:Nat,(j:Int)<s'.k∧Cb s' j=false)
theorem aBm:∀s,adp s→MN s:=by
 intro s h
 obtain ⟨h0,h1,h2,h3⟩:=h
 exact ⟨by omega,by omega,h2,h3,fun j hj=>by omega⟩
theorem axd (s:oP) (hI:MN s):bJ (fun s'=>MN s'∧OQ s'<OQ s) (fun x s'=>akD x s s') (asr s):=by
 unfold asr Zd
 dsimp only [T.rd,T.rl]
 obtain ⟨h0,h1,h2,h3,h4⟩:=hI
 refine au (fun c1=>au (fun c2=>?_) (fun c2=>au (fun c3=>?_) (fun c3=>?_))) (fun c1=>?_)
 ·have c1:s.i<s.k:=by simpa using c1
  refine .inr ⟨rfl,rfl,s.i.toNat,by simp only;omega,?_⟩
  rw [Int.toNat_of_nonneg (by omega)]
  have hg:Cb s s.i=false:=by unfold Cb;(unfold RI Ac;simp_all)
  exact hg
 ·have c1:s.i<s.k:=by simpa using c1
  refine .inr ⟨rfl,rfl,s.i.toNat,by simp only;omega,?_⟩
  rw [Int.toNat_of_nonneg (by omega)]
  have hg:Cb s s.i=false:=by unfold Cb;(unfold RI Ac;simp_all)
  exact hg
 ·have c1:s.i<s.k:=by simpa using c1
  have hg:Cb s s.i=true:=by unfold Cb;(unfold RI Ac;simp_all)
  rw [aK (x:=s.i+1) (by omega) (by omega)]
  refine ⟨⟨by simp only;omega,by simp only;omega,h2,h3,fun j hj=>?_⟩,by simp only [OQ];omega⟩
  by_cases hji:(j:Int)<s.i
  ·exact h4 j hji
  ·have:(j:Int)=s.i:=by simp only at hj;omega
   rw [this];exact hg
 ·have c1:s.k≤s.i:=by simpa using c1
  exact .inl ⟨rfl,fun j hj=>h4 j (by omega)⟩
def EU:bK oP:=⟨0,108,[0,1,6,82,83,84],[],aDG,aCF,fun v _=>⟨aQ dX (nC (v.getD 0 .junk) 0),aQ .str (nC (v.getD 0 .junk) 1),aQ dY (nC (v.getD 0 .junk) 2),aQ dS (nC (v.getD 0 .junk) 3),aQ dZ (nC (v.getD 0 .junk) 4),aQ ng (nC (v.getD 0 .junk) 5),aQ qG (nC (v.getD 0 .junk) 6),gI (nC (v.getD 0 .junk) 7),aQ (.int .i64) (nC (v.getD 0 .junk) 8),aQ Fg (v.getD 1 .junk),vg (v.getD 2 .junk),aQ dS (v.getD 3 .junk),gI (v.getD 4 .junk),gI (v.getD 5 .junk)⟩,Zd,fun s r=> {r with cs:=s.cs,os:=s.os,ks:=s.ks,gs:=s.gs,bs:=s.bs,l:=s.l,d:=s.d,t:=s.t,od:=s.od,rs:=s.rs,m:=s.m,k:=s.k},fun s=>s,fun _ s=>s,[.ret,.exit 2],adp,MN,OQ⟩
abbrev ZI:=EU.run
abbrev abv:=EU.jJ
abbrev ayA:=EU.q
theorem avh (s:oP) (hI:MN s):(Zd s).all (fun _=>True):=by
 refine ⟨fun c1=>⟨?_,?_,fun _=>trivial,fun c2=>⟨?_,fun _=>trivial,fun _=>trivial⟩⟩,fun _=>trivial⟩
 all_goals ((obtain ⟨h0,h1,h2,h3,h4⟩:=hI;obtain ⟨h3,h5,h6⟩:=h3;simp at c1;omega))
theorem ahg:EU.Ok:=⟨fun s=>by kernel_rfl,fun s=>by kernel_rfl,fun s=>rfl,fun s t r=>rfl,fun s=>rfl,fun s=>by kernel_rfl⟩
theorem af9:EU.Pf (akD):=⟨aBm,fun _ _=>rfl,axd,avh⟩
theorem amu:bg Tryz.prog aP (AN 0) (.loop BB) EU.lp:=bK.snd ahg af9 (aT (Γ:=aaC) (K:=eu) (L:=aB) aiA aF BB (fun b hb=>by rw [show aC BB=[] by kernel_rfl] at hb;cases hb)) (fun s=>by kernel_rfl)
theorem apV (s:oP) (hE:adp s):∃s',MN s'∧akD (abv s) s' (ZI s):=bK.fin ahg af9 s hE
def acM:List LV→T LV
 | [.xq 9 q0,.xl (.pair (.int .i64) (.int .i64)) rs,.v (.int .i64 n)]=>(match ([q0 0,q0 1,q0 2,q0 3,q0 4,q0 5,q0 6,q0 7,q0 8]:List LV) with
  | [.xl (.pair .str (.pair (.int .i64) (.pair (.int .i64) (.pair (.int .i64) (.pair (.pair (.int .i64) (.int .i64)) (.pair (.int .i64) (.pair (.int .i64) (.pair (.int .i64) (.pair (.int .i64) (.int .i64)))))))))) cs,.xl (.str) os,.xl (.pair .str (.pair (.int .i64) (.pair (.int .i64) (.int .i64)))) ks,.xl (.pair .str (.pair (.int .i64) (.pair (.int .i64) (.pair (.int .i64) (.pair (.int .i64) (.pair (.int .i64) (.pair (.int .i64) (.int .i64)))))))) gs,.xl (.pair .str (.int .i64)) bs,.xl (.pair (.int .i64) (.pair (.int .i64) (.pair (.int .i64) (.pair (.int .i64) (.int .i64))))) l,.xl (.pair .bool (.pair (.int .i64) (.pair (.int .i64) (.int .i64)))) d,.v (.int .i64 t),.xl (.int .i64) _]=> .ok (.v (.bool (Gf cs os ks gs bs l rs d t n)))
  |_=> .no)
 |_=> .no
noncomputable def Yg:List LV→T LV:=gB Tryz.prog Tryz.f35.params.toList acM
theorem aoB (cs:List Cd) (os:List ByteArray) (ks:List Ko) (gs:List Ch) (bs:List Ba) (l:List Le) (d:List Dm) (t:Int) (od:List Int) (rs:List Ra) (n:Int):bT Tryz.prog aP (aaC) eu (fun i=>if i=8 then EW.lp else if i=14 then EU.lp else aB i) Tryz.f35 [.xq 9 (fun j=>([.xl dX cs,.xl .str os,.xl dY ks,.xl dS gs,.xl dZ bs,.xl ng l,.xl qG d,.v (.int .i64 t),.xl (.int .i64) od]:List LV).getD j .junk),.xl Fg rs,.v (.int .i64 n)]=.br (((vG cs os ks gs bs) !=0) ||(!(oV l))) (.ok (.v (.bool false))) (.br (((List.length rs:Int) !=(List.length gs:Int)) ||(((List.length d:Int) !=(List.length gs:Int)) ||((!(inB t (0:Int) (1000000:Int))) ||(!(inB n (1:Int) (999900:Int)))))) (.ok (.v (.bool false))) (.req (ayB (⟨cs,os,ks,gs,bs,l,d,t,od,rs,false,(List.length gs:Int),l,(List.length l:Int),(0:Int)⟩:lS)) (.br (iy (abw (⟨cs,os,ks,gs,bs,l,d,t,od,rs,false,(List.length gs:Int),l,(List.length l:Int),(0:Int)⟩:lS)) (.ret)) (.ok (.v (.bool (wY (⟨cs,os,ks,gs,bs,l,d,t,od,rs,false,(List.length gs:Int),l,(List.length l:Int),(0:Int)⟩:lS)).r))) (.req (ayA (⟨cs,os,ks,gs,bs,l,d,t,od,rs,(wY (⟨cs,os,ks,gs,bs,l,d,t,od,rs,false,(List.length gs:Int),l,(List.length l:Int),(0:Int)⟩:lS)).r,gs,(List.length gs:Int),(0:Int)⟩:oP)) (.br (iy (abv (⟨cs,os,ks,gs,bs,l,d,t,od,rs,(wY (⟨cs,os,ks,gs,bs,l,d,t,od,rs,false,(List.length gs:Int),l,(List.length l:Int),(0:Int)⟩:lS)).r,gs,(List.length gs:Int),(0:Int)⟩:oP)) (.ret)) (.ok (.v (.bool (ZI (⟨cs,os,ks,gs,bs,l,d,t,od,rs,(wY (⟨cs,os,ks,gs,bs,l,d,t,od,rs,false,(List.length gs:Int),l,(List.length l:Int),(0:Int)⟩:lS)).r,gs,(List.length gs:Int),(0:Int)⟩:oP)).r))) (.ok (.v (.bool true)))))))):=by kernel_rfl
theorem atL:Valid Tryz.prog aP 35 Yg:=aH Tryz.func35 rfl aiA aF (L:=(fun i=>if i=8 then EW.lp else if i=14 then EU.lp else aB i)) (fun b hb=>by
 rw [show aC _=[BD,BB] by kernel_rfl] at hb
 simp only [List.mem_cons,List.not_mem_nil,or_false] at hb
 rcases hb with rfl|rfl
 ·exact amv
 ·exact amu) (fun args lv h=>by
 unfold acM at h
 split at h
 ·split at h
  case h_2=>cases h
  rename_i heq0
  simp only [canL,canX]
  rw [o7 (n:=9) heq0]
  simp only [canL,canX]
  rw [aoB]
  rename_i rs n _ cs os ks gs bs l d t od
  obtain rfl:=h
  have e0:((vG cs os ks gs bs !=0) || !oV l)=!(fM cs os ks gs bs&&oV l):=by
   unfold vG
   cases fM cs os ks gs bs<;>cases oV l<;>rfl
  have e1:(((List.length rs:Int) !=(List.length gs:Int)) ||(((List.length d:Int) !=(List.length gs:Int)) ||(!inB t 0 1000000 || !inB n 1 999900)))=!(decide (rs.length=gs.length)&&(decide (d.length=gs.length)&&(inB t 0 1000000&&inB n 1 999900))):=by
   rw [neN,neN,Bool.not_and,Bool.not_and,Bool.not_and]
  rw [e0,e1]
  have bad:Gf cs os ks gs bs l rs d t n=false→LV.v (.bool false)=LV.v (.bool (Gf cs os ks gs bs l rs d t n)):=fun h=>by rw [h]
  refine ⟨fun c=>bad (by unfold Gf;rw [ntW c];rfl),fun c=>⟨fun c2=>bad (by unfold Gf;rw [ntW c2,Bool.false_and,Bool.and_false]),fun c2=>?_⟩⟩
  have c:=NS c
  have c2:=NS c2
  have c':=c
  have c2':=c2
  simp only [Bool.and_eq_true,decide_eq_true_eq] at c' c2'
  have hl:=vT c'.2
  have hg:=(gq.1 c'.1).1.2.2.2.2.1
  have hE:adq ⟨cs,os,ks,gs,bs,l,d,t,od,rs,false,(List.length gs:Int),l,(List.length l:Int),0⟩:=⟨rfl,by simp only;omega,by simp only;omega,rfl⟩
  have ev:Gf cs os ks gs bs l rs d t n=(below gs.length l&&JL gs.length (fun j=>RI (bC gs j) (kJ rs j)&&U8 (qI d j))):=by
   unfold Gf
   rw [c,c2,Bool.true_and,Bool.true_and]
  refine ⟨⟨hE,rfl,rfl⟩,?_⟩
  obtain ⟨_,_,hq⟩:=apW _ hE
  have eb:below gs.length l=JL l.length (fun j=>decide ((gZ l j).2.1<(gs.length:Int))):=by
   rw [Bool.eq_iff_iff,fU]
   exact (iO (d:=(0,0,0,0,0)) (p:=fun x:Le=>decide (x.2.1<(gs.length:Int)))).symm
  rcases hq with ⟨q1,q2⟩ |⟨q1,q2,j,q3,q4⟩<;>rw [q1]
  rotate_left
  ·rw [q2]
   exact ⟨fun _=>bad (by rw [ev,eb,tN (f:=fun j=>decide ((gZ l j).2.1<(gs.length:Int))) j q3 q4];rfl),fun h=>by cases h⟩
  refine ⟨fun h=>(by cases h),fun _=>?_⟩
  have g0:below gs.length l=true:=by rw [eb];exact fU.2 q2
  have hE2:adp ⟨cs,os,ks,gs,bs,l,d,t,od,rs,(wY ⟨cs,os,ks,gs,bs,l,d,t,od,rs,false,(List.length gs:Int),l,(List.length l:Int),0⟩).r,gs,(List.length gs:Int),0⟩:=⟨rfl,by simp only;omega,by simp only;omega,rfl,c2'.1,c2'.2.1⟩
  refine ⟨⟨hE2,rfl,rfl⟩,?_⟩
  obtain ⟨_,_,hq⟩:=apV _ hE2
  rcases hq with ⟨q5,q6⟩ |⟨q5,q6,j,q7,q8⟩<;>rw [q5]
  ·exact ⟨fun h=>(by cases h),fun _=>by rw [ev,g0,(fU (f:=fun j=>RI (bC gs j) (kJ rs j)&&U8 (qI d j))).2 q6];rfl⟩
  ·rw [q6]
   exact ⟨fun _=>bad (by rw [ev,tN (f:=fun j=>RI (bC gs j) (kJ rs j)&&U8 (qI d j)) j q7 q8,Bool.and_false]),fun h=>by cases h⟩
 ·cases h)
end Go.Proofs.YtlihnbimgclogaaGreatDoor
namespace Go.Proofs.YtlihnbimgclogaaGreatDoor
open Go.Sx
structure oM where
 n:Int
 r:Bool
 l:List Int
 m:Int
 k:Int
 seen:List Bool
def aDy (s:oM):List LV:=[.v (.int .i64 s.n),.v (.bool s.r),.os 0 1 0 (List.length s.seen),.xl (.int .i64) s.l,.v (.int .i64 s.m),.v (.int .i64 s.k)]
def aCx (s:oM):List aU:=[⟨[],4,.vec .bool s.seen,false⟩]
noncomputable def Bq:Code:=((aC (Tryz.f94.body.getD .skip))[0]?).getD .skip
def Y8 (s:oM):T (Rd oM):=
 .br (decide (s.k<s.m)) (.req (0≤s.k∧s.k<(List.length s.l:Int)) (.br (decide ((gi s.l s.k)<0)) (.rl s.seen (.ok (.stop (.ret) {s with r:=false}))) (.br (decide ((gi s.l s.k)≥s.n)) (.rl s.seen (.ok (.stop (.ret) {s with r:=false}))) (.req (0≤(gi s.l s.k)∧(gi s.l s.k)<((List.length s.seen:Nat):Int)) (.req ((gi s.l s.k).toNat<List.length s.seen) (.br (s.seen.getD (gi s.l s.k).toNat (Ty.dflt .bool)) (.rl s.seen (.ok (.stop (.ret) {s with r:=false}))) (.req (0≤(gi s.l s.k)∧(gi s.l s.k)<((List.length s.seen:Nat):Int)) (.req ((gi s.l s.k).toNat<List.length s.seen) (.req (0=0∧(List.length s.seen)=List.length (s.seen.set (gi s.l s.k).toNat true)) (.ok (.next {s with k:=(IntKind.i64.wrap (s.k+1)),seen:=(s.seen.set (gi s.l s.k).toNat true)}))))))))))) (.rl s.seen (.ok (.stop (.exit 0) s)))
abbrev asj (s:oM):=(Y8 s).rd s
def BZ (s:oM) (j:Int):Bool:=RG s.n (gi s.l j)&&!(((s.l.take j.toNat).map id).contains (id (gi s.l j)))
def ak8 (s:oM):Prop:=s.k=0∧s.seen=List.replicate s.seen.length false∧s.m=(s.l.length:Int)∧s.m≤1000∧s.n=(s.seen.length:Int)
def MG (s:oM):Prop:=(0≤s.k∧s.k≤s.m)∧(∀j:Nat,j<s.seen.length→s.seen.getD j false=(s.l.take s.k.toNat).contains (j:Int))∧(∀j:Nat,(j:Int)<s.k→BZ s j=true)∧s.m=(s.l.length:Int)∧s.m≤1000∧s.n=(s.seen.length:Int)
def OD (s:oM):Nat:=(s.m-s.k).toNat
def ac3 (x:Ex) (_ s':oM):Prop:=(x=.exit 0∧∀j:Nat,(j:Int)<s'.m→BZ s' j=true)∨(x=.ret∧s'.r=false∧∃j:Nat,(j:Int)<s'.m∧BZ s' j=false)
theorem aAw:∀s,ak8 s→MG s:=by
 intro s h
 obtain ⟨h0,h1,h2,h3,h4⟩:=h
 refine ⟨by omega,fun j hj=>?_,fun j hj=>by omega,h2,h3,h4⟩
 rw [h1,h0]
 simp [List.getD,List.getElem?_replicate]
 split<;>rfl
theorem awC (s:oM) (hI:MG s):bJ (fun s'=>MG s'∧OD s'<OD s) (fun x s'=>ac3 x s s') (asj s):=by
 unfold asj Y8
 dsimp only [T.rd,T.rl]
 obtain ⟨⟨h0,h1⟩,h2,h3,h4,h5,h6⟩:=hI
 refine au (fun c1=>?_) (fun c1=>?_)
 rotate_left
 ·have c1:s.m≤s.k:=by simpa using c1
  exact .inl ⟨rfl,fun j hj=>h3 j (by omega)⟩
 have c1:s.k<s.m:=by simpa using c1
 have bad:BZ s s.k=false→ac3 .ret s {s with r:=false}:=fun hg=> .inr ⟨rfl,rfl,s.k.toNat,by simp only;omega,by rw [Int.toNat_of_nonneg h0];exact hg⟩
 refine au (fun c2=>bad ?_) (fun c2=>au (fun c3=>bad ?_) (fun c3=>au (fun c4=>bad ?_) (fun c4=>?_)))
 ·unfold BZ RG
  simp only [decide_eq_true_eq] at c2
  rw [decide_eq_false (by omega)]
  rfl
 ·unfold BZ RG
  simp only [decide_eq_true_eq] at c3
  rw [decide_eq_false (p:=gi s.l s.k<s.n) (by omega),Bool.and_false]
  rfl
 all_goals
  have c2:0≤gi s.l s.k:=by simpa using c2
  have c3:gi s.l s.k<s.n:=by simpa using c3
  have e:=h2 (gi s.l s.k).toNat (by omega)
  rw [Int.toNat_of_nonneg c2] at e
 ·have c4:s.seen.getD (gi s.l s.k).toNat false=true:=c4
  unfold BZ
  rw [List.map_id,id,←e,c4]
  simp
 ·have c4:s.seen.getD (gi s.l s.k).toNat false=false:=c4
  have hg:BZ s s.k=true:=by
   unfold BZ
   rw [List.map_id,id,←e,c4,zD.2 ⟨c2,c3⟩]
   rfl
  rw [aK (x:=s.k+1) (by omega) (by omega)]
  refine ⟨⟨⟨by simp only;omega,by simp only;omega⟩,fun j hj=>?_,fun j hj=>?_,h4,h5,by simp only [List.length_set];exact h6⟩,by simp only [OD];omega⟩
  ·simp only [List.length_set] at hj
   simp only
   rw [(gi_step h0 (show s.k<s.l.length by omega)).2,List.contains_append,←h2 j hj]
   by_cases hj2:(gi s.l s.k).toNat=j
   ·subst hj2
    rw [Int.toNat_of_nonneg c2]
    simp [List.getD,hj]
   ·have:¬(j:Int)=gi s.l s.k:=by omega
    simp [List.getD,List.getElem?_set_ne hj2,this]
  ·by_cases hji:(j:Int)<s.k
   ·exact h3 j hji
   ·have:(j:Int)=s.k:=by simp only at hj;omega
    rw [this];exact hg
def EQ:bK oM:=⟨0,37,[1,4,5,14,15,16],[],aDy,aCx,fun v b=>⟨gI (v.getD 0 .junk),vg (v.getD 1 .junk),aQ (.int .i64) (v.getD 3 .junk),gI (v.getD 4 .junk),gI (v.getD 5 .junk),iT .bool (aO b 0)⟩,Y8,fun s r=> {r with n:=s.n,l:=s.l,m:=s.m},fun s=>s,fun _ s=>s,[.ret,.exit 0],ak8,MG,OD⟩
abbrev ZF:=EQ.run
abbrev abq:=EQ.jJ
abbrev ayt:=EQ.q
theorem au9 (s:oM) (hI:MG s):(Y8 s).all (fun _=>True):=by
 refine ⟨fun c1=>⟨?_,fun c2=>⟨⟨rfl,rfl⟩,trivial⟩,fun c2=>⟨fun c3=>⟨⟨rfl,rfl⟩,trivial⟩,fun c3=>⟨?_,?_,fun c4=>⟨⟨rfl,rfl⟩,trivial⟩,fun c4=>⟨?_,?_,?_,trivial⟩⟩⟩⟩,fun c1=>⟨⟨rfl,rfl⟩,trivial⟩⟩
 iterate 5 · (obtain ⟨⟨h0,h1⟩,h2,h3,h4,h5,h6⟩:=hI;simp only [decide_eq_true_eq,decide_eq_false_iff_not] at*;omega)
 ·exact ⟨rfl,by simp⟩
noncomputable def aiT:Specs:=aZ []
theorem arD:∀g S,aiT g=some S→Valid Tryz.prog aP g S:=aS (l:=[]) trivial
theorem ag8:EQ.Ok:=⟨fun s=>by kernel_rfl,fun s=>by kernel_rfl,fun s=>rfl,fun s t r=>rfl,fun s=>rfl,fun s=>by kernel_rfl⟩
theorem afZ:EQ.Pf (ac3):=⟨aAw,fun _ _=>rfl,awC,au9⟩
theorem amn:bg Tryz.prog aP (AN 0) (.loop Bq) EQ.lp:=bK.snd ag8 afZ (aT (Γ:=aiT) (K:=eu) (L:=aB) arD aF Bq (fun b hb=>by rw [show aC Bq=[] by kernel_rfl] at hb;cases hb)) (fun s=>by kernel_rfl)
theorem ao1 (s:oM) (hE:ak8 s):∃s',MG s'∧ac3 (abq s) s' (ZF s):=bK.fin ag8 afZ s hE
def acH:List LV→T LV
 | [.xl (.int .i64) l,.v (.int .i64 n)]=> .req (n≤1000) (.ok (.v (.bool (mG l n))))
 |_=> .no
noncomputable def qy:List LV→T LV:=gB Tryz.prog Tryz.f94.params.toList acH
theorem aow (l:List Int) (n:Int):bT Tryz.prog aP (aiT) eu (fun i=>if i=5 then EQ.lp else aB i) Tryz.f94 [.xl (.int .i64) l,.v (.int .i64 n)]=.br ((List.length l:Int) !=n) (.ok (.v (.bool false))) (.req (0≤n∧n≤n∧1*n≤2^48∧n<2^63) (.req (0=0∧n.toNat=List.length (List.replicate n.toNat false)) (.req (ayt (⟨n,false,l,(List.length l:Int),(0:Int),(List.replicate n.toNat false)⟩:oM)) (.br (iy (abq (⟨n,false,l,(List.length l:Int),(0:Int),(List.replicate n.toNat false)⟩:oM)) (.ret)) (.ok (.v (.bool (ZF (⟨n,false,l,(List.length l:Int),(0:Int),(List.replicate n.toNat false)⟩:oM)).r))) (.ok (.v (.bool true))))))):=by kernel_rfl
theorem Gi:Valid Tryz.prog aP 94 qy:=aH Tryz.func94 rfl arD aF (L:=(fun i=>if i=5 then EQ.lp else aB i)) (fun b hb=>by
 rw [show aC _=[Bq] by kernel_rfl] at hb
 simp only [List.mem_cons,List.not_mem_nil,or_false] at hb
 subst hb
 exact amn) (fun args lv h=>by
 unfold acH at h
 split at h
 ·simp only [canL,canX]
  rw [aow]
  rename_i l n
  obtain ⟨hl,rfl⟩:=h
  refine ⟨fun c=>congrArg (fun z=>LV.v (.bool z)) ?_,fun c=>?_⟩
  ·have c:¬(List.length l:Int)=n:=by simpa using c
   unfold mG
   rw [decide_eq_false c]
   rfl
  ·have c:(List.length l:Int)=n:=by simpa using c
   unfold mG
   rw [decide_eq_true c,Bool.true_and]
   refine ⟨by omega,⟨rfl,by simp⟩,mP ⟨⟨rfl,by simp,rfl,by simp only;omega,by simp only [List.length_replicate];omega⟩,rfl,rfl⟩ (fun hE=>?_)⟩
   obtain ⟨s',_,hq⟩:=ao1 _ hE.1
   rcases hq with ⟨q1,q2⟩ |⟨q1,q2,j,q3,q4⟩
   ·rw [q1]
    have hk:=(kN (d:=(0:Int)) (p:=RG n) (k:=id)).1 q2
    rw [List.map_id] at hk
    rw [hk]
    exact ⟨fun h=>(by cases h),fun _=>rfl⟩
   ·rw [q1,q2]
    refine ⟨fun _=>congrArg (fun z=>LV.v (.bool z)) ?_,fun h=>by cases h⟩
    rw [eq_comm,Bool.eq_false_iff]
    intro hx
    have:=(kN (d:=(0:Int)) (p:=RG n) (k:=id)).2 (by rw [List.map_id];exact hx) j q3
    exact Bool.noConfusion (this.symm.trans q4)
 ·cases h)
end Go.Proofs.YtlihnbimgclogaaGreatDoor
namespace Go.Proofs.YtlihnbimgclogaaGreatDoor
open Go.Sx
structure jH where
 r:Bool
 l:List Int
 n:Int
 i:Int
 bD:List Cd
 fP:List ByteArray
 dO:List Ko
 dV:List Ch
 jw:List Ba
def aDC (s:jH):List LV:=[.fn 92 [],.v (.bool s.r),.xl (.int .i64) s.l,.v (.int .i64 s.n),.v (.int .i64 s.i)]
def aCB (s:jH):List aU:=[⟨[.xl dX s.bD,.xl .str s.fP,.xl dY s.dO,.xl dS s.dV,.xl dZ s.jw],28,.cl,false⟩]
noncomputable def TN:Code:=((aC (Tryz.f93.body.getD .skip))[0]?).getD .skip
def Y9 (s:jH):T (Rd jH):=
 .br (decide (s.i<s.n)) (.req (0≤s.i∧s.i<(List.length s.l:Int)) (.br (!((decide ((gi s.l s.i)≥0))&&(decide ((gi s.l s.i)≤80)))) (.ok (.stop (.ret) {s with r:=false})) (.ok (.next {s with i:=(IntKind.i64.wrap (s.i+1))})))) (.ok (.stop (.exit 0) s))
abbrev asl (s:jH):=(Y9 s).rd s
def Jt (s:jH) (j:Int):Bool:=uD (gi s.l j)
def adm (s:jH):Prop:=s.i=0∧0≤s.n∧s.n≤1000∧s.n=(s.l.length:Int)
def MI (s:jH):Prop:=0≤s.i∧s.i≤s.n∧s.n≤1000∧(s.n=(s.l.length:Int))∧∀j:Nat,(j:Int)<s.i→Jt s j=true
def OI (s:jH):Nat:=(s.n-s.i).toNat
def akz (x:Ex) (_ s':jH):Prop:=(x=.exit 0∧∀j:Nat,(j:Int)<s'.n→Jt s' j=true)∨(x=.ret∧s'.r=false∧∃j:Nat,(j:Int)<s'.n∧Jt s' j=false)
theorem aBi:∀s,adm s→MI s:=by
 intro s h
 obtain ⟨h0,h1,h2,h3⟩:=h
 exact ⟨by omega,by omega,h2,h3,fun j hj=>by omega⟩
theorem aw9 (s:jH) (hI:MI s):bJ (fun s'=>MI s'∧OI s'<OI s) (fun x s'=>akz x s s') (asl s):=by
 unfold asl Y9
 dsimp only [T.rd,T.rl]
 obtain ⟨h0,h1,h2,h3,h4⟩:=hI
 refine au (fun c1=>au (fun c2=>?_) (fun c2=>?_)) (fun c1=>?_)
 ·have c1:s.i<s.n:=by simpa using c1
  refine .inr ⟨rfl,rfl,s.i.toNat,by simp only;omega,?_⟩
  rw [Int.toNat_of_nonneg (by omega)]
  have hg:Jt s s.i=false:=by unfold Jt;(first|(have c2:(!(uD (gi s.l s.i)))=false:=c2;simpa using c2) |(have c2:(!(uD (gi s.l s.i)))=true:=c2;simpa using c2))
  exact hg
 ·have c1:s.i<s.n:=by simpa using c1
  have hg:Jt s s.i=true:=by unfold Jt;(first|(have c2:(!(uD (gi s.l s.i)))=false:=c2;simpa using c2) |(have c2:(!(uD (gi s.l s.i)))=true:=c2;simpa using c2))
  rw [aK (x:=s.i+1) (by omega) (by omega)]
  refine ⟨⟨by simp only;omega,by simp only;omega,h2,h3,fun j hj=>?_⟩,by simp only [OI];omega⟩
  by_cases hji:(j:Int)<s.i
  ·exact h4 j hji
  ·have:(j:Int)=s.i:=by simp only at hj;omega
   rw [this];exact hg
 ·have c1:s.n≤s.i:=by simpa using c1
  exact .inl ⟨rfl,fun j hj=>h4 j (by omega)⟩
def uT:bK jH:=⟨1,18,[1,4,7,8,9],[],aDC,aCB,fun v b=>⟨vg (v.getD 1 .junk),aQ (.int .i64) (v.getD 2 .junk),gI (v.getD 3 .junk),gI (v.getD 4 .junk),aQ dX (aX (aO b 0) 0),aQ .str (aX (aO b 0) 1),aQ dY (aX (aO b 0) 2),aQ dS (aX (aO b 0) 3),aQ dZ (aX (aO b 0) 4)⟩,Y9,fun s r=> {r with l:=s.l,n:=s.n,bD:=s.bD,fP:=s.fP,dO:=s.dO,dV:=s.dV,jw:=s.jw},fun s=>s,fun _ s=>s,[.ret,.exit 0],adm,MI,OI⟩
abbrev tK:=uT.run
abbrev xJ:=uT.jJ
abbrev Yx:=uT.q
noncomputable def yw:Specs:=aZ [(24,lC),(61,qA),(94,qy),(96,qx)]
theorem zT:∀g S,yw g=some S→Valid Tryz.prog aP g S:=aS (l:=[(24,lC),(61,qA),(94,qy),(96,qx)]) ⟨yD,Gj,Gi,Gg,trivial⟩
noncomputable def ait:Hand:=inl Tryz.prog aP yw (lm Tryz.prog aP (yw) 20 2) 9
theorem aq6:dD Tryz.prog aP ait:=bP zT (dR zT) 9
theorem avd (s:jH) (hI:MI s):(Y9 s).all (fun _=>True):=by
 refine ⟨fun c1=>⟨?_,fun _=>trivial,fun _=>trivial⟩,fun _=>trivial⟩
 ·(obtain ⟨h0,h1,h2,h3,h4⟩:=hI;simp at c1;omega)
theorem ahc:uT.Ok:=⟨fun s=>by kernel_rfl,fun s=>by kernel_rfl,fun s=>rfl,fun s t r=>rfl,fun s=>rfl,fun s=>by kernel_rfl⟩
theorem af5:uT.Pf (akz):=⟨aBi,fun _ _=>rfl,aw9,avd⟩
theorem wQ:bg Tryz.prog aP (AN 1) (.loop TN) uT.lp:=bK.snd ahc af5 (bF (Γ:=yw) (K:=ait) (L:=(rY Tryz.prog aP yw ait 20 2)) zT aq6 TN (fun b _=>dU zT aq6 20 2 b)) (fun s=>by kernel_rfl)
theorem apR (s:jH) (hE:adm s):∃s',MI s'∧akz (xJ s) s' (tK s):=bK.fin ahc af5 s hE
theorem abA (s:jH) (hE:adm s):(xJ s=.exit 0∧s.l.all uD=true)∨(xJ s=.ret∧(tK s).r=false∧s.l.all uD=false):=by
 obtain ⟨s',hI,hq⟩:=apR s hE
 obtain ⟨h0,h1,h2,h3⟩:=hE
 have el:(tK s).l=s.l:=rfl
 have en:(tK s).n=s.n:=rfl
 rcases hq with ⟨q1,q2⟩ |⟨q1,q2,j,q3,q4⟩
 ·refine .inl ⟨q1,(iO (d:=(0:Int))).1 fun j hj=>?_⟩
  have:=q2 j (by rw [en];omega)
  exact this
 ·refine .inr ⟨q1,q2,?_⟩
  rw [Bool.eq_false_iff]
  intro hx
  have:=(iO (d:=(0:Int))).2 hx j (by rw [en] at q3;omega)
  exact Bool.noConfusion (this.symm.trans q4)
structure ig where
 alive:List Int
 i:Int
 rows:List Rw
 rn:Int
 ri:Int
 l:List Int
 n:Int
 k:Int
 bQ:List Cd
 eP:List ByteArray
 bV:List Ko
 cu:List Ch
 iG:List Ba
 yG:List Cd
 yE:List ByteArray
 yF:List Ko
 eY:List Ch
 yH:List Ba
 bH:List Rw
 bf:List Int
 jq:List Int
 jo:List Int
 jm:List Int
 jl:List Int
 jk:List Int
 ji:List Int
 jh:List Int
 jg:List Int
 jf:List Int
 je:List Int
 dM:List Int
 dL:List Int
 dK:List Int
 dJ:List Int
 dI:List Int
 dH:List Int
 sums:List Int
 levels:List Int
def aDo (s:ig):List LV:=[.xl (.int .i64) s.alive,.own 1 0,.v (.int .i64 s.i),.xl zl s.rows,.v (.int .i64 s.rn),.v (.int .i64 s.ri),.xl (.int .i64) s.l,.v (.int .i64 s.n),.v (.int .i64 s.k)]
def aCn (s:ig):List aU:=[⟨[.xl dX s.bQ,.xl .str s.eP,.xl dY s.bV,.xl dS s.cu,.xl dZ s.iG],28,.cl,false⟩,⟨[.xl dX s.yG,.xl .str s.yE,.xl dY s.yF,.xl dS s.eY,.xl dZ s.yH,.xl zl s.bH,.os 2 1 0 (List.length s.jq),.os 3 1 0 (List.length s.jo),.os 4 1 0 (List.length s.jm),.os 5 1 0 (List.length s.jl),.os 6 1 0 (List.length s.jk),.os 7 1 0 (List.length s.ji),.os 8 1 0 (List.length s.jh),.os 9 1 0 (List.length s.jg),.os 10 1 0 (List.length s.jf),.os 11 1 0 (List.length s.je),.os 12 1 0 (List.length s.dM),.os 13 1 0 (List.length s.dL),.os 14 1 0 (List.length s.dK),.os 15 1 0 (List.length s.dJ),.os 16 1 0 (List.length s.dI),.os 17 1 0 (List.length s.dH),.os 18 1 0 (List.length s.sums),.xl (.int .i64) s.bf,.os 19 1 0 (List.length s.levels)],148,.cl,false⟩,⟨[],3,.vec (.int .i64) s.jq,false⟩,⟨[],3,.vec (.int .i64) s.jo,false⟩,⟨[],3,.vec (.int .i64) s.jm,false⟩,⟨[],3,.vec (.int .i64) s.jl,false⟩,⟨[],3,.vec (.int .i64) s.jk,false⟩,⟨[],3,.vec (.int .i64) s.ji,false⟩,⟨[],3,.vec (.int .i64) s.jh,false⟩,⟨[],3,.vec (.int .i64) s.jg,false⟩,⟨[],3,.vec (.int .i64) s.jf,false⟩,⟨[],3,.vec (.int .i64) s.je,false⟩,⟨[],3,.vec (.int .i64) s.dM,false⟩,⟨[],3,.vec (.int .i64) s.dL,false⟩,⟨[],3,.vec (.int .i64) s.dK,false⟩,⟨[],3,.vec (.int .i64) s.dJ,false⟩,⟨[],3,.vec (.int .i64) s.dI,false⟩,⟨[],3,.vec (.int .i64) s.dH,false⟩,⟨[],3,.vec (.int .i64) s.sums,false⟩,⟨[],3,.vec (.int .i64) s.levels,false⟩]
noncomputable def IK:Code:=((aC (((aC (Tryz.f95.body.getD .skip))[0]?).getD .skip))[0]?).getD .skip
set_option maxHeartbeats 4000000 in
def QJ (s:ig):T (Rd ig):=
 .br (decide (s.k<s.n)) (.req (0≤s.k∧s.k<(List.length s.l:Int)) (.req (0≤(gi s.l s.k)∧(gi s.l s.k)<(16:Int)) (.br ((gi s.l s.k)==0) (.req (0+(List.length s.jq)=List.length s.jq∧((List.length s.jq+List.length ([s.i]):Nat):Int)*8≤2^47∧((List.length s.jq+List.length ([s.i]):Nat):Int)<2^62) (.req (0≤s.i∧s.i<((List.length s.sums:Nat):Int)) (.req (0≤(0:Int)∧0<(List.length s.alive:Int)) (.req (s.i.toNat<List.length s.sums) (.req (0≤s.i∧s.i<((List.length s.sums:Nat):Int)) (.req (s.i.toNat<List.length s.sums) (.req (0=0∧(List.length s.jq+List.length ([s.i]))=List.length (s.jq++([s.i]))) (.rl s.jo (.rl s.jm (.rl s.jl (.rl s.jk (.rl s.ji (.rl s.jh (.rl s.jg (.rl s.jf (.rl s.je (.rl s.dM (.rl s.dL (.rl s.dK (.rl s.dJ (.rl s.dI (.rl s.dH (.req (0=0∧(List.length s.sums)=List.length (s.sums.set s.i.toNat (IntKind.i64.wrap ((s.sums.getD s.i.toNat (Ty.dflt (.int .i64)))+(gi s.alive (0:Int)))))) (.rl s.levels (.ok (.next {s with k:=(IntKind.i64.wrap (s.k+1)),jq:=(s.jq++([s.i])),sums:=(s.sums.set s.i.toNat (IntKind.i64.wrap ((s.sums.getD s.i.toNat (Ty.dflt (.int .i64)))+(gi s.alive (0:Int)))))})))))))))))))))))))))))))) (.br ((gi s.l s.k)==1) (.req (0+(List.length s.jo)=List.length s.jo∧((List.length s.jo+List.length ([s.i]):Nat):Int)*8≤2^47∧((List.length s.jo+List.length ([s.i]):Nat):Int)<2^62) (.req (0≤s.i∧s.i<((List.length s.sums:Nat):Int)) (.req (0≤(1:Int)∧1<(List.length s.alive:Int)) (.req (s.i.toNat<List.length s.sums) (.req (0≤s.i∧s.i<((List.length s.sums:Nat):Int)) (.req (s.i.toNat<List.length s.sums) (.rl s.jq (.req (0=0∧(List.length s.jo+List.length ([s.i]))=List.length (s.jo++([s.i]))) (.rl s.jm (.rl s.jl (.rl s.jk (.rl s.ji (.rl s.jh (.rl s.jg (.rl s.jf (.rl s.je (.rl s.dM (.rl s.dL (.rl s.dK (.rl s.dJ (.rl s.dI (.rl s.dH (.req (0=0∧(List.length s.sums)=List.length (s.sums.set s.i.toNat (IntKind.i64.wrap ((s.sums.getD s.i.toNat (Ty.dflt (.int .i64)))+(gi s.alive (1:Int)))))) (.rl s.levels (.ok (.next {s with k:=(IntKind.i64.wrap (s.k+1)),jo:=(s.jo++([s.i])),sums:=(s.sums.set s.i.toNat (IntKind.i64.wrap ((s.sums.getD s.i.toNat (Ty.dflt (.int .i64)))+(gi s.alive (1:Int)))))})))))))))))))))))))))))))) (.br ((gi s.l s.k)==2) (.req (0+(List.length s.jm)=List.length s.jm∧((List.length s.jm+List.length ([s.i]):Nat):Int)*8≤2^47∧((List.length s.jm+List.length ([s.i]):Nat):Int)<2^62) (.req (0≤s.i∧s.i<((List.length s.sums:Nat):Int)) (.req (0≤(2:Int)∧2<(List.length s.alive:Int)) (.req (s.i.toNat<List.length s.sums) (.req (0≤s.i∧s.i<((List.length s.sums:Nat):Int)) (.req (s.i.toNat<List.length s.sums) (.rl s.jq (.rl s.jo (.req (0=0∧(List.length s.jm+List.length ([s.i]))=List.length (s.jm++([s.i]))) (.rl s.jl (.rl s.jk (.rl s.ji (.rl s.jh (.rl s.jg (.rl s.jf (.rl s.je (.rl s.dM (.rl s.dL (.rl s.dK (.rl s.dJ (.rl s.dI (.rl s.dH (.req (0=0∧(List.length s.sums)=List.length (s.sums.set s.i.toNat (IntKind.i64.wrap ((s.sums.getD s.i.toNat (Ty.dflt (.int .i64)))+(gi s.alive (2:Int)))))) (.rl s.levels (.ok (.next {s with k:=(IntKind.i64.wrap (s.k+1)),jm:=(s.jm++([s.i])),sums:=(s.sums.set s.i.toNat (IntKind.i64.wrap ((s.sums.getD s.i.toNat (Ty.dflt (.int .i64)))+(gi s.alive (2:Int)))))})))))))))))))))))))))))))) (.br ((gi s.l s.k)==3) (.req (0+(List.length s.jl)=List.length s.jl∧((List.length s.jl+List.length ([s.i]):Nat):Int)*8≤2^47∧((List.length s.jl+List.length ([s.i]):Nat):Int)<2^62) (.req (0≤s.i∧s.i<((List.length s.sums:Nat):Int)) (.req (0≤(3:Int)∧3<(List.length s.alive:Int)) (.req (s.i.toNat<List.length s.sums) (.req (0≤s.i∧s.i<((List.length s.sums:Nat):Int)) (.req (s.i.toNat<List.length s.sums) (.rl s.jq (.rl s.jo (.rl s.jm (.req (0=0∧(List.length s.jl+List.length ([s.i]))=List.length (s.jl++([s.i]))) (.rl s.jk (.rl s.ji (.rl s.jh (.rl s.jg (.rl s.jf (.rl s.je (.rl s.dM (.rl s.dL (.rl s.dK (.rl s.dJ (.rl s.dI (.rl s.dH (.req (0=0∧(List.length s.sums)=List.length (s.sums.set s.i.toNat (IntKind.i64.wrap ((s.sums.getD s.i.toNat (Ty.dflt (.int .i64)))+(gi s.alive (3:Int)))))) (.rl s.levels (.ok (.next {s with k:=(IntKind.i64.wrap (s.k+1)),jl:=(s.jl++([s.i])),sums:=(s.sums.set s.i.toNat (IntKind.i64.wrap ((s.sums.getD s.i.toNat (Ty.dflt (.int .i64)))+(gi s.alive (3:Int)))))})))))))))))))))))))))))))) (.br ((gi s.l s.k)==4) (.req (0+(List.length s.jk)=List.length s.jk∧((List.length s.jk+List.length ([s.i]):Nat):Int)*8≤2^47∧((List.length s.jk+List.length ([s.i]):Nat):Int)<2^62) (.req (0≤s.i∧s.i<((List.length s.sums:Nat):Int)) (.req (0≤(4:Int)∧4<(List.length s.alive:Int)) (.req (s.i.toNat<List.length s.sums) (.req (0≤s.i∧s.i<((List.length s.sums:Nat):Int)) (.req (s.i.toNat<List.length s.sums) (.rl s.jq (.rl s.jo (.rl s.jm (.rl s.jl (.req (0=0∧(List.length s.jk+List.length ([s.i]))=List.length (s.jk++([s.i]))) (.rl s.ji (.rl s.jh (.rl s.jg (.rl s.jf (.rl s.je (.rl s.dM (.rl s.dL (.rl s.dK (.rl s.dJ (.rl s.dI (.rl s.dH (.req (0=0∧(List.length s.sums)=List.length (s.sums.set s.i.toNat (IntKind.i64.wrap ((s.sums.getD s.i.toNat (Ty.dflt (.int .i64)))+(gi s.alive (4:Int)))))) (.rl s.levels (.ok (.next {s with k:=(IntKind.i64.wrap (s.k+1)),jk:=(s.jk++([s.i])),sums:=(s.sums.set s.i.toNat (IntKind.i64.wrap ((s.sums.getD s.i.toNat (Ty.dflt (.int .i64)))+(gi s.alive (4:Int)))))})))))))))))))))))))))))))) (.br ((gi s.l s.k)==5) (.req (0+(List.length s.ji)=List.length s.ji∧((List.length s.ji+List.length ([s.i]):Nat):Int)*8≤2^47∧((List.length s.ji+List.length ([s.i]):Nat):Int)<2^62) (.req (0≤s.i∧s.i<((List.length s.sums:Nat):Int)) (.req (0≤(5:Int)∧5<(List.length s.alive:Int)) (.req (s.i.toNat<List.length s.sums) (.req (0≤s.i∧s.i<((List.length s.sums:Nat):Int)) (.req (s.i.toNat<List.length s.sums) (.rl s.jq (.rl s.jo (.rl s.jm (.rl s.jl (.rl s.jk (.req (0=0∧(List.length s.ji+List.length ([s.i]))=List.length (s.ji++([s.i]))) (.rl s.jh (.rl s.jg (.rl s.jf (.rl s.je (.rl s.dM (.rl s.dL (.rl s.dK (.rl s.dJ (.rl s.dI (.rl s.dH (.req (0=0∧(List.length s.sums)=List.length (s.sums.set s.i.toNat (IntKind.i64.wrap ((s.sums.getD s.i.toNat (Ty.dflt (.int .i64)))+(gi s.alive (5:Int)))))) (.rl s.levels (.ok (.next {s with k:=(IntKind.i64.wrap (s.k+1)),ji:=(s.ji++([s.i])),sums:=(s.sums.set s.i.toNat (IntKind.i64.wrap ((s.sums.getD s.i.toNat (Ty.dflt (.int .i64)))+(gi s.alive (5:Int)))))})))))))))))))))))))))))))) (.br ((gi s.l s.k)==6) (.req (0+(List.length s.jh)=List.length s.jh∧((List.length s.jh+List.length ([s.i]):Nat):Int)*8≤2^47∧((List.length s.jh+List.length ([s.i]):Nat):Int)<2^62) (.req (0≤s.i∧s.i<((List.length s.sums:Nat):Int)) (.req (0≤(6:Int)∧6<(List.length s.alive:Int)) (.req (s.i.toNat<List.length s.sums) (.req (0≤s.i∧s.i<((List.length s.sums:Nat):Int)) (.req (s.i.toNat<List.length s.sums) (.rl s.jq (.rl s.jo (.rl s.jm (.rl s.jl (.rl s.jk (.rl s.ji (.req (0=0∧(List.length s.jh+List.length ([s.i]))=List.length (s.jh++([s.i]))) (.rl s.jg (.rl s.jf (.rl s.je (.rl s.dM (.rl s.dL (.rl s.dK (.rl s.dJ (.rl s.dI (.rl s.dH (.req (0=0∧(List.length s.sums)=List.length (s.sums.set s.i.toNat (IntKind.i64.wrap ((s.sums.getD s.i.toNat (Ty.dflt (.int .i64)))+(gi s.alive (6:Int)))))) (.rl s.levels (.ok (.next {s with k:=(IntKind.i64.wrap (s.k+1)),jh:=(s.jh++([s.i])),sums:=(s.sums.set s.i.toNat (IntKind.i64.wrap ((s.sums.getD s.i.toNat (Ty.dflt (.int .i64)))+(gi s.alive (6:Int)))))})))))))))))))))))))))))))) (.br ((gi s.l s.k)==7) (.req (0+(List.length s.jg)=List.length s.jg∧((List.length s.jg+List.length ([s.i]):Nat):Int)*8≤2^47∧((List.length s.jg+List.length ([s.i]):Nat):Int)<2^62) (.req (0≤s.i∧s.i<((List.length s.sums:Nat):Int)) (.req (0≤(7:Int)∧7<(List.length s.alive:Int)) (.req (s.i.toNat<List.length s.sums) (.req (0≤s.i∧s.i<((List.length s.sums:Nat):Int)) (.req (s.i.toNat<List.length s.sums) (.rl s.jq (.rl s.jo (.rl s.jm (.rl s.jl (.rl s.jk (.rl s.ji (.rl s.jh (.req (0=0∧(List.length s.jg+List.length ([s.i]))=List.length (s.jg++([s.i]))) (.rl s.jf (.rl s.je (.rl s.dM (.rl s.dL (.rl s.dK (.rl s.dJ (.rl s.dI (.rl s.dH (.req (0=0∧(List.length s.sums)=List.length (s.sums.set s.i.toNat (IntKind.i64.wrap ((s.sums.getD s.i.toNat (Ty.dflt (.int .i64)))+(gi s.alive (7:Int)))))) (.rl s.levels (.ok (.next {s with k:=(IntKind.i64.wrap (s.k+1)),jg:=(s.jg++([s.i])),sums:=(s.sums.set s.i.toNat (IntKind.i64.wrap ((s.sums.getD s.i.toNat (Ty.dflt (.int .i64)))+(gi s.alive (7:Int)))))})))))))))))))))))))))))))) (.br ((gi s.l s.k)==8) (.req (0+(List.length s.jf)=List.length s.jf∧((List.length s.jf+List.length ([s.i]):Nat):Int)*8≤2^47∧((List.length s.jf+List.length ([s.i]):Nat):Int)<2^62) (.req (0≤s.i∧s.i<((List.length s.sums:Nat):Int)) (.req (0≤(8:Int)∧8<(List.length s.alive:Int)) (.req (s.i.toNat<List.length s.sums) (.req (0≤s.i∧s.i<((List.length s.sums:Nat):Int)) (.req (s.i.toNat<List.length s.sums) (.rl s.jq (.rl s.jo (.rl s.jm (.rl s.jl (.rl s.jk (.rl s.ji (.rl s.jh (.rl s.jg (.req (0=0∧(List.length s.jf+List.length ([s.i]))=List.length (s.jf++([s.i]))) (.rl s.je (.rl s.dM (.rl s.dL (.rl s.dK (.rl s.dJ (.rl s.dI (.rl s.dH (.req (0=0∧(List.length s.sums)=List.length (s.sums.set s.i.toNat (IntKind.i64.wrap ((s.sums.getD s.i.toNat (Ty.dflt (.int .i64)))+(gi s.alive (8:Int)))))) (.rl s.levels (.ok (.next {s with k:=(IntKind.i64.wrap (s.k+1)),jf:=(s.jf++([s.i])),sums:=(s.sums.set s.i.toNat (IntKind.i64.wrap ((s.sums.getD s.i.toNat (Ty.dflt (.int .i64)))+(gi s.alive (8:Int)))))})))))))))))))))))))))))))) (.br ((gi s.l s.k)==9) (.req (0+(List.length s.je)=List.length s.je∧((List.length s.je+List.length ([s.i]):Nat):Int)*8≤2^47∧((List.length s.je+List.length ([s.i]):Nat):Int)<2^62) (.req (0≤s.i∧s.i<((List.length s.sums:Nat):Int)) (.req (0≤(9:Int)∧9<(List.length s.alive:Int)) (.req (s.i.toNat<List.length s.sums) (.req (0≤s.i∧s.i<((List.length s.sums:Nat):Int)) (.req (s.i.toNat<List.length s.sums) (.rl s.jq (.rl s.jo (.rl s.jm (.rl s.jl (.rl s.jk (.rl s.ji (.rl s.jh (.rl s.jg (.rl s.jf (.req (0=0∧(List.length s.je+List.length ([s.i]))=List.length (s.je++([s.i]))) (.rl s.dM (.rl s.dL (.rl s.dK (.rl s.dJ (.rl s.dI (.rl s.dH (.req (0=0∧(List.length s.sums)=List.length (s.sums.set s.i.toNat (IntKind.i64.wrap ((s.sums.getD s.i.toNat (Ty.dflt (.int .i64)))+(gi s.alive (9:Int)))))) (.rl s.levels (.ok (.next {s with k:=(IntKind.i64.wrap (s.k+1)),je:=(s.je++([s.i])),sums:=(s.sums.set s.i.toNat (IntKind.i64.wrap ((s.sums.getD s.i.toNat (Ty.dflt (.int .i64)))+(gi s.alive (9:Int)))))})))))))))))))))))))))))))) (.br ((gi s.l s.k)==10) (.req (0+(List.length s.dM)=List.length s.dM∧((List.length s.dM+List.length ([s.i]):Nat):Int)*8≤2^47∧((List.length s.dM+List.length ([s.i]):Nat):Int)<2^62) (.req (0≤s.i∧s.i<((List.length s.sums:Nat):Int)) (.req (0≤(10:Int)∧10<(List.length s.alive:Int)) (.req (s.i.toNat<List.length s.sums) (.req (0≤s.i∧s.i<((List.length s.sums:Nat):Int)) (.req (s.i.toNat<List.length s.sums) (.rl s.jq (.rl s.jo (.rl s.jm (.rl s.jl (.rl s.jk (.rl s.ji (.rl s.jh (.rl s.jg (.rl s.jf (.rl s.je (.req (0=0∧(List.length s.dM+List.length ([s.i]))=List.length (s.dM++([s.i]))) (.rl s.dL (.rl s.dK (.rl s.dJ (.rl s.dI (.rl s.dH (.req (0=0∧(List.length s.sums)=List.length (s.sums.set s.i.toNat (IntKind.i64.wrap ((s.sums.getD s.i.toNat (Ty.dflt (.int .i64)))+(gi s.alive (10:Int)))))) (.rl s.levels (.ok (.next {s with k:=(IntKind.i64.wrap (s.k+1)),dM:=(s.dM++([s.i])),sums:=(s.sums.set s.i.toNat (IntKind.i64.wrap ((s.sums.getD s.i.toNat (Ty.dflt (.int .i64)))+(gi s.alive (10:Int)))))})))))))))))))))))))))))))) (.br ((gi s.l s.k)==11) (.req (0+(List.length s.dL)=List.length s.dL∧((List.length s.dL+List.length ([s.i]):Nat):Int)*8≤2^47∧((List.length s.dL+List.length ([s.i]):Nat):Int)<2^62) (.req (0≤s.i∧s.i<((List.length s.sums:Nat):Int)) (.req (0≤(11:Int)∧11<(List.length s.alive:Int)) (.req (s.i.toNat<List.length s.sums) (.req (0≤s.i∧s.i<((List.length s.sums:Nat):Int)) (.req (s.i.toNat<List.length s.sums) (.rl s.jq (.rl s.jo (.rl s.jm (.rl s.jl (.rl s.jk (.rl s.ji (.rl s.jh (.rl s.jg (.rl s.jf (.rl s.je (.rl s.dM (.req (0=0∧(List.length s.dL+List.length ([s.i]))=List.length (s.dL++([s.i]))) (.rl s.dK (.rl s.dJ (.rl s.dI (.rl s.dH (.req (0=0∧(List.length s.sums)=List.length (s.sums.set s.i.toNat (IntKind.i64.wrap ((s.sums.getD s.i.toNat (Ty.dflt (.int .i64)))+(gi s.alive (11:Int)))))) (.rl s.levels (.ok (.next {s with k:=(IntKind.i64.wrap (s.k+1)),dL:=(s.dL++([s.i])),sums:=(s.sums.set s.i.toNat (IntKind.i64.wrap ((s.sums.getD s.i.toNat (Ty.dflt (.int .i64)))+(gi s.alive (11:Int)))))})))))))))))))))))))))))))) (.br ((gi s.l s.k)==12) (.req (0+(List.length s.dK)=List.length s.dK∧((List.length s.dK+List.length ([s.i]):Nat):Int)*8≤2^47∧((List.length s.dK+List.length ([s.i]):Nat):Int)<2^62) (.req (0≤s.i∧s.i<((List.length s.sums:Nat):Int)) (.req (0≤(12:Int)∧12<(List.length s.alive:Int)) (.req (s.i.toNat<List.length s.sums) (.req (0≤s.i∧s.i<((List.length s.sums:Nat):Int)) (.req (s.i.toNat<List.length s.sums) (.rl s.jq (.rl s.jo (.rl s.jm (.rl s.jl (.rl s.jk (.rl s.ji (.rl s.jh (.rl s.jg (.rl s.jf (.rl s.je (.rl s.dM (.rl s.dL (.req (0=0∧(List.length s.dK+List.length ([s.i]))=List.length (s.dK++([s.i]))) (.rl s.dJ (.rl s.dI (.rl s.dH (.req (0=0∧(List.length s.sums)=List.length (s.sums.set s.i.toNat (IntKind.i64.wrap ((s.sums.getD s.i.toNat (Ty.dflt (.int .i64)))+(gi s.alive (12:Int)))))) (.rl s.levels (.ok (.next {s with k:=(IntKind.i64.wrap (s.k+1)),dK:=(s.dK++([s.i])),sums:=(s.sums.set s.i.toNat (IntKind.i64.wrap ((s.sums.getD s.i.toNat (Ty.dflt (.int .i64)))+(gi s.alive (12:Int)))))})))))))))))))))))))))))))) (.br ((gi s.l s.k)==13) (.req (0+(List.length s.dJ)=List.length s.dJ∧((List.length s.dJ+List.length ([s.i]):Nat):Int)*8≤2^47∧((List.length s.dJ+List.length ([s.i]):Nat):Int)<2^62) (.req (0≤s.i∧s.i<((List.length s.sums:Nat):Int)) (.req (0≤(13:Int)∧13<(List.length s.alive:Int)) (.req (s.i.toNat<List.length s.sums) (.req (0≤s.i∧s.i<((List.length s.sums:Nat):Int)) (.req (s.i.toNat<List.length s.sums) (.rl s.jq (.rl s.jo (.rl s.jm (.rl s.jl (.rl s.jk (.rl s.ji (.rl s.jh (.rl s.jg (.rl s.jf (.rl s.je (.rl s.dM (.rl s.dL (.rl s.dK (.req (0=0∧(List.length s.dJ+List.length ([s.i]))=List.length (s.dJ++([s.i]))) (.rl s.dI (.rl s.dH (.req (0=0∧(List.length s.sums)=List.length (s.sums.set s.i.toNat (IntKind.i64.wrap ((s.sums.getD s.i.toNat (Ty.dflt (.int .i64)))+(gi s.alive (13:Int)))))) (.rl s.levels (.ok (.next {s with k:=(IntKind.i64.wrap (s.k+1)),dJ:=(s.dJ++([s.i])),sums:=(s.sums.set s.i.toNat (IntKind.i64.wrap ((s.sums.getD s.i.toNat (Ty.dflt (.int .i64)))+(gi s.alive (13:Int)))))})))))))))))))))))))))))))) (.br ((gi s.l s.k)==14) (.req (0+(List.length s.dI)=List.length s.dI∧((List.length s.dI+List.length ([s.i]):Nat):Int)*8≤2^47∧((List.length s.dI+List.length ([s.i]):Nat):Int)<2^62) (.req (0≤s.i∧s.i<((List.length s.sums:Nat):Int)) (.req (0≤(14:Int)∧14<(List.length s.alive:Int)) (.req (s.i.toNat<List.length s.sums) (.req (0≤s.i∧s.i<((List.length s.sums:Nat):Int)) (.req (s.i.toNat<List.length s.sums) (.rl s.jq (.rl s.jo (.rl s.jm (.rl s.jl (.rl s.jk (.rl s.ji (.rl s.jh (.rl s.jg (.rl s.jf (.rl s.je (.rl s.dM (.rl s.dL (.rl s.dK (.rl s.dJ (.req (0=0∧(List.length s.dI+List.length ([s.i]))=List.length (s.dI++([s.i]))) (.rl s.dH (.req (0=0∧(List.length s.sums)=List.length (s.sums.set s.i.toNat (IntKind.i64.wrap ((s.sums.getD s.i.toNat (Ty.dflt (.int .i64)))+(gi s.alive (14:Int)))))) (.rl s.levels (.ok (.next {s with k:=(IntKind.i64.wrap (s.k+1)),dI:=(s.dI++([s.i])),sums:=(s.sums.set s.i.toNat (IntKind.i64.wrap ((s.sums.getD s.i.toNat (Ty.dflt (.int .i64)))+(gi s.alive (14:Int)))))})))))))))))))))))))))))))) (.req (0+(List.length s.dH)=List.length s.dH∧((List.length s.dH+List.length ([s.i]):Nat):Int)*8≤2^47∧((List.length s.dH+List.length ([s.i]):Nat):Int)<2^62) (.req (0≤s.i∧s.i<((List.length s.sums:Nat):Int)) (.req (0≤(15:Int)∧15<(List.length s.alive:Int)) (.req (s.i.toNat<List.length s.sums) (.req (0≤s.i∧s.i<((List.length s.sums:Nat):Int)) (.req (s.i.toNat<List.length s.sums) (.rl s.jq (.rl s.jo (.rl s.jm (.rl s.jl (.rl s.jk (.rl s.ji (.rl s.jh (.rl s.jg (.rl s.jf (.rl s.je (.rl s.dM (.rl s.dL (.rl s.dK (.rl s.dJ (.rl s.dI (.req (0=0∧(List.length s.dH+List.length ([s.i]))=List.length (s.dH++([s.i]))) (.req (0=0∧(List.length s.sums)=List.length (s.sums.set s.i.toNat (IntKind.i64.wrap ((s.sums.getD s.i.toNat (Ty.dflt (.int .i64)))+(gi s.alive (15:Int)))))) (.rl s.levels (.ok (.next {s with k:=(IntKind.i64.wrap (s.k+1)),dH:=(s.dH++([s.i])),sums:=(s.sums.set s.i.toNat (IntKind.i64.wrap ((s.sums.getD s.i.toNat (Ty.dflt (.int .i64)))+(gi s.alive (15:Int)))))}))))))))))))))))))))))))))))))))))))))))))) (.rl s.jq (.rl s.jo (.rl s.jm (.rl s.jl (.rl s.jk (.rl s.ji (.rl s.jh (.rl s.jg (.rl s.jf (.rl s.je (.rl s.dM (.rl s.dL (.rl s.dK (.rl s.dJ (.rl s.dI (.rl s.dH (.rl s.sums (.rl s.levels (.ok (.stop (.exit 2) s))))))))))))))))))))
abbrev aaV (s:ig):=(QJ s).rd s
def fD (s:ig):List (List Int):=[s.jq,s.jo,s.jm,s.jl,s.jk,s.ji,s.jh,s.jg,s.jf,s.je,s.dM,s.dL,s.dK,s.dJ,s.dI,s.dH]
def UO (s:ig):Prop:=s.k=0∧(∀o∈fD s,(o.length:Int)≤1000000)∧(0≤gi s.sums s.i∧gi s.sums s.i≤1000)∧s.n=(s.l.length:Int)∧s.n≤1000∧(∀m∈s.l,0≤m∧m<16∧m<(s.alive.length:Int))∧(∀a∈s.alive,0≤a∧a≤80)∧(0≤s.i∧s.i<(s.sums.length:Int))
def uS (s:ig):Prop:=(0≤s.k∧s.k≤s.n)∧(∀o∈fD s,(o.length:Int)≤1000000+s.k)∧(0≤gi s.sums s.i∧gi s.sums s.i≤1000+80*s.k)∧s.n=(s.l.length:Int)∧s.n≤1000∧(∀m∈s.l,0≤m∧m<16∧m<(s.alive.length:Int))∧(∀a∈s.alive,0≤a∧a≤80)∧(0≤s.i∧s.i<(s.sums.length:Int))
def vP (s:ig):Nat:=(s.n-s.k).toNat
def akp (x:Ex) (_ s':ig):Prop:=x=.exit 2∧s'.k=s'.n
theorem aAe:∀s,UO s→uS s:=by
 intro s h
 obtain ⟨h0,h1,h2,h3⟩:=h
 exact ⟨by have:=h3.1;omega,fun o ho=>by have:=h1 o ho;omega,by omega,h3⟩
theorem fV (s:ig) (hI:uS s) (c1:s.k<s.n):0≤gi s.l s.k∧gi s.l s.k<16∧gi s.l s.k<(s.alive.length:Int):=by
 obtain ⟨⟨h0,h1⟩,h2,h3,h4,h5,h6,h7,h8⟩:=hI
 exact h6 _ (by rw [pG (by omega)];exact List.getElem_mem _)
theorem ahw (s s':ig) (j:Nat) (hI:uS s) (c1:s.k<s.n) (em:gi s.l s.k=(j:Int)) (hO:fD s'=(fD s).modify j (·++[s.i])) (hs:s'.sums=s.sums.set s.i.toNat (IntKind.i64.wrap (s.sums.getD s.i.toNat 0+gi s.alive (j:Int)))) (hk:s'.k=IntKind.i64.wrap (s.k+1)) (hn:s'.n=s.n) (hl:s'.l=s.l) (ha:s'.alive=s.alive) (hi:s'.i=s.i):
  (uS s'∧vP s'<vP s)∧(fun s:ig=>(uV s.i (fD s) (s.l.drop s.k.toNat),s.sums.set s.i.toNat (s.sums.getD s.i.toNat 0+smA s.alive (s.l.drop s.k.toNat)))) s'=(fun s:ig=>(uV s.i (fD s) (s.l.drop s.k.toNat),s.sums.set s.i.toNat (s.sums.getD s.i.toNat 0+smA s.alive (s.l.drop s.k.toNat)))) s:=by
 have hm:=fV s hI c1
 obtain ⟨⟨h0,h1⟩,h2,⟨h3,h3'⟩,h4,h5,h6,h7,h8⟩:=hI
 rw [aK (x:=s.k+1) (by omega) (by omega)] at hk
 have hav:=h7 (gi s.alive (j:Int)) (by rw [pG (by omega)];exact List.getElem_mem _)
 have hgi:gi s.sums s.i=s.sums.getD s.i.toNat 0:=rfl
 rw [aK (x:=s.sums.getD s.i.toNat 0+gi s.alive (j:Int)) (by omega) (by omega)] at hs
 have hs2:gi s'.sums s'.i=s.sums.getD s.i.toNat 0+gi s.alive (j:Int):=by
  rw [hi,hs]
  show List.getD _ _ _=_
  simp [List.getD,show s.i.toNat<s.sums.length by omega]
 refine ⟨⟨⟨⟨by omega,by omega⟩,fun o ho=>?_,⟨by rw [hs2];omega,by rw [hs2];omega⟩,by rw [hn,hl];exact h4,by omega,by rw [hl,ha];exact h6,by rw [ha];exact h7,⟨by rw [hi];omega,by rw [hi,hs,List.length_set];omega⟩⟩,by simp only [vP];omega⟩,?_⟩
 ·rw [hO] at ho
  obtain ⟨k,hk2,rfl⟩:=List.mem_iff_getElem.1 ho
  rw [List.length_modify] at hk2
  have:=h2 (fD s)[k] (List.getElem_mem _)
  rw [List.getElem_modify]
  split
  ·simp only [List.length_append,List.length_cons,List.length_nil];omega
  ·omega
 ·simp only
  rw [hO,hs,hl,ha,hi,hk,(gi_step h0 (show s.k<s.l.length by omega)).1,xh,Rh,em,Int.toNat_natCast,Rk (by omega)]
theorem iM (s s':ig) (j:Nat) (hI:uS s) (c1:s.k<s.n) (em:gi s.l s.k=(j:Int)) (hO:fD s'=(fD s).modify j (·++[s.i])) (hs:s'.sums=s.sums.set s.i.toNat (IntKind.i64.wrap (s.sums.getD s.i.toNat 0+gi s.alive (j:Int)))) (hk:s'.k=IntKind.i64.wrap (s.k+1)) (hn:s'.n=s.n) (hl:s'.l=s.l) (ha:s'.alive=s.alive) (hi:s'.i=s.i):bJ (fun s'=>uS s'∧vP s'<vP s) (fun x s'=>akp x s s') (.next s'):=(ahw s s' j hI c1 em hO hs hk hn hl ha hi).1
theorem iL (s s':ig) (j:Nat) (hI:uS s) (c1:s.k<s.n) (em:gi s.l s.k=(j:Int)) (hO:fD s'=(fD s).modify j (·++[s.i])) (hs:s'.sums=s.sums.set s.i.toNat (IntKind.i64.wrap (s.sums.getD s.i.toNat 0+gi s.alive (j:Int)))) (hk:s'.k=IntKind.i64.wrap (s.k+1)) (hn:s'.n=s.n) (hl:s'.l=s.l) (ha:s'.alive=s.alive) (hi:s'.i=s.i):bJ (fun s'=>(fun s:ig=>(uV s.i (fD s) (s.l.drop s.k.toNat),s.sums.set s.i.toNat (s.sums.getD s.i.toNat 0+smA s.alive (s.l.drop s.k.toNat)))) s'=(fun s:ig=>(uV s.i (fD s) (s.l.drop s.k.toNat),s.sums.set s.i.toNat (s.sums.getD s.i.toNat 0+smA s.alive (s.l.drop s.k.toNat)))) s) (fun _ s'=>(fun s:ig=>(uV s.i (fD s) (s.l.drop s.k.toNat),s.sums.set s.i.toNat (s.sums.getD s.i.toNat 0+smA s.alive (s.l.drop s.k.toNat)))) s'=(fun s:ig=>(uV s.i (fD s) (s.l.drop s.k.toNat),s.sums.set s.i.toNat (s.sums.getD s.i.toNat 0+smA s.alive (s.l.drop s.k.toNat)))) s) (.next s'):=(ahw s s' j hI c1 em hO hs hk hn hl ha hi).2
theorem ahy (s : ig) (hI:uS s):bJ (fun s'=>uS s'∧vP s'<vP s) (fun x s'=>akp x s s') (aaV s):=by
 unfold aaV QJ
 dsimp only [T.rd,T.rl]
 refine au (fun c1=>?_) (fun c1=>?_)
 ·refine au (fun c2=>?_) (fun c2=>?_)
  ·have em:gi s.l s.k=0:=by simpa using c2
   exact iM s _ 0 hI (by simpa using c1) em rfl rfl rfl rfl rfl rfl rfl
  ·refine au (fun c3=>?_) (fun c3=>?_)
   ·have em:gi s.l s.k=1:=by simpa using c3
    exact iM s _ 1 hI (by simpa using c1) em rfl rfl rfl rfl rfl rfl rfl
   ·refine au (fun c4=>?_) (fun c4=>?_)
    ·have em:gi s.l s.k=2:=by simpa using c4
     exact iM s _ 2 hI (by simpa using c1) em rfl rfl rfl rfl rfl rfl rfl
    ·refine au (fun c5=>?_) (fun c5=>?_)
     ·have em:gi s.l s.k=3:=by simpa using c5
      exact iM s _ 3 hI (by simpa using c1) em rfl rfl rfl rfl rfl rfl rfl
     ·refine au (fun c6=>?_) (fun c6=>?_)
      ·have em:gi s.l s.k=4:=by simpa using c6
       exact iM s _ 4 hI (by simpa using c1) em rfl rfl rfl rfl rfl rfl rfl
      ·refine au (fun c7=>?_) (fun c7=>?_)
       ·have em:gi s.l s.k=5:=by simpa using c7
        exact iM s _ 5 hI (by simpa using c1) em rfl rfl rfl rfl rfl rfl rfl
       ·refine au (fun c8=>?_) (fun c8=>?_)
        ·have em:gi s.l s.k=6:=by simpa using c8
         exact iM s _ 6 hI (by simpa using c1) em rfl rfl rfl rfl rfl rfl rfl
        ·refine au (fun c9=>?_) (fun c9=>?_)
         ·have em:gi s.l s.k=7:=by simpa using c9
          exact iM s _ 7 hI (by simpa using c1) em rfl rfl rfl rfl rfl rfl rfl
         ·refine au (fun c10=>?_) (fun c10=>?_)
          ·have em:gi s.l s.k=8:=by simpa using c10
           exact iM s _ 8 hI (by simpa using c1) em rfl rfl rfl rfl rfl rfl rfl
          ·refine au (fun c11=>?_) (fun c11=>?_)
           ·have em:gi s.l s.k=9:=by simpa using c11
            exact iM s _ 9 hI (by simpa using c1) em rfl rfl rfl rfl rfl rfl rfl
           ·refine au (fun c12=>?_) (fun c12=>?_)
            ·have em:gi s.l s.k=10:=by simpa using c12
             exact iM s _ 10 hI (by simpa using c1) em rfl rfl rfl rfl rfl rfl rfl
            ·refine au (fun c13=>?_) (fun c13=>?_)
             ·have em:gi s.l s.k=11:=by simpa using c13
              exact iM s _ 11 hI (by simpa using c1) em rfl rfl rfl rfl rfl rfl rfl
             ·refine au (fun c14=>?_) (fun c14=>?_)
              ·have em:gi s.l s.k=12:=by simpa using c14
               exact iM s _ 12 hI (by simpa using c1) em rfl rfl rfl rfl rfl rfl rfl
              ·refine au (fun c15=>?_) (fun c15=>?_)
               ·have em:gi s.l s.k=13:=by simpa using c15
                exact iM s _ 13 hI (by simpa using c1) em rfl rfl rfl rfl rfl rfl rfl
               ·refine au (fun c16=>?_) (fun c16=>?_)
                ·have em:gi s.l s.k=14:=by simpa using c16
                 exact iM s _ 14 hI (by simpa using c1) em rfl rfl rfl rfl rfl rfl rfl
                ·have em:gi s.l s.k=15:=by
                  have hm:=fV s hI (by simpa using c1)
                  simp only [beq_eq_false_iff_ne,ne_eq] at c2 c3 c4 c5 c6 c7 c8 c9 c10 c11 c12 c13 c14 c15 c16
                  omega
                 exact iM s _ 15 hI (by simpa using c1) em rfl rfl rfl rfl rfl rfl rfl
 ·have c1:s.n≤s.k:=by simpa using c1
  have h0:=hI.1
  exact ⟨rfl,by omega⟩
def Nj:bK ig:=⟨1,67,[2,7,8,23,24,25,31,32,33],[.ns 7 6 3 (.int .i64),.ns 7 7 3 (.int .i64),.ns 7 8 3 (.int .i64),.ns 7 9 3 (.int .i64),.ns 7 10 3 (.int .i64),.ns 7 11 3 (.int .i64),.ns 7 12 3 (.int .i64),.ns 7 13 3 (.int .i64),.ns 7 14 3 (.int .i64),.ns 7 15 3 (.int .i64),.ns 7 16 3 (.int .i64),.ns 7 17 3 (.int .i64),.ns 7 18 3 (.int .i64),.ns 7 19 3 (.int .i64),.ns 7 20 3 (.int .i64),.ns 7 21 3 (.int .i64)],aDo,aCn,fun v b=>⟨aQ (.int .i64) (v.getD 0 .junk),gI (v.getD 2 .junk),aQ zl (v.getD 3 .junk),gI (v.getD 4 .junk),gI (v.getD 5 .junk),aQ (.int .i64) (v.getD 6 .junk),gI (v.getD 7 .junk),gI (v.getD 8 .junk),aQ dX (aX (aO b 0) 0),aQ .str (aX (aO b 0) 1),aQ dY (aX (aO b 0) 2),aQ dS (aX (aO b 0) 3),aQ dZ (aX (aO b 0) 4),aQ dX (aX (aO b 1) 0),aQ .str (aX (aO b 1) 1),aQ dY (aX (aO b 1) 2),aQ dS (aX (aO b 1) 3),aQ dZ (aX (aO b 1) 4),aQ zl (aX (aO b 1) 5),aQ (.int .i64) (aX (aO b 1) 23),iT (.int .i64) (aO b 2),iT (.int .i64) (aO b 3),iT (.int .i64) (aO b 4),iT (.int .i64) (aO b 5),iT (.int .i64) (aO b 6),iT (.int .i64) (aO b 7),iT (.int .i64) (aO b 8),iT (.int .i64) (aO b 9),iT (.int .i64) (aO b 10),iT (.int .i64) (aO b 11),iT (.int .i64) (aO b 12),iT (.int .i64) (aO b 13),iT (.int .i64) (aO b 14),iT (.int .i64) (aO b 15),iT (.int .i64) (aO b 16),iT (.int .i64) (aO b 17),iT (.int .i64) (aO b 18),iT (.int .i64) (aO b 19)⟩,QJ,fun s r=> {r with alive:=s.alive,i:=s.i,rows:=s.rows,rn:=s.rn,ri:=s.ri,l:=s.l,n:=s.n,bQ:=s.bQ,eP:=s.eP,bV:=s.bV,cu:=s.cu,iG:=s.iG,yG:=s.yG,yE:=s.yE,yF:=s.yF,eY:=s.eY,yH:=s.yH,bH:=s.bH,bf:=s.bf,levels:=s.levels},fun s=>s,fun _ s=>s,[.exit 2],UO,uS,vP⟩
abbrev bG:=Nj.run
abbrev ayj:=Nj.q
noncomputable def aar:Hand:=inl Tryz.prog aP yw (kE 93 1 2 (uT.lp) (lm Tryz.prog aP (yw) 20 2)) 9
theorem aif:dD Tryz.prog aP aar:=bP zT (dF Tryz.func93 rfl (by kernel_rfl) wQ (dR zT)) 9
set_option maxRecDepth 100000 in
set_option maxHeartbeats 4000000 in
theorem auZ (s:ig) (hI:uS s):(QJ s).all (fun _=>True):=by
 refine ⟨fun c1=>⟨?_,?_,fun c2=>⟨?_,?_,?_,?_,?_,?_,?_,⟨rfl,rfl⟩,⟨rfl,rfl⟩,⟨rfl,rfl⟩,⟨rfl,rfl⟩,⟨rfl,rfl⟩,⟨rfl,rfl⟩,⟨rfl,rfl⟩,⟨rfl,rfl⟩,⟨rfl,rfl⟩,⟨rfl,rfl⟩,⟨rfl,rfl⟩,⟨rfl,rfl⟩,⟨rfl,rfl⟩,⟨rfl,rfl⟩,⟨rfl,rfl⟩,?_,⟨rfl,rfl⟩,trivial⟩,fun c2=>⟨fun c3=>⟨?_,?_,?_,?_,?_,?_,⟨rfl,rfl⟩,?_,⟨rfl,rfl⟩,⟨rfl,rfl⟩,⟨rfl,rfl⟩,⟨rfl,rfl⟩,⟨rfl,rfl⟩,⟨rfl,rfl⟩,⟨rfl,rfl⟩,⟨rfl,rfl⟩,⟨rfl,rfl⟩,⟨rfl,rfl⟩,⟨rfl,rfl⟩,⟨rfl,rfl⟩,⟨rfl,rfl⟩,⟨rfl,rfl⟩,?_,⟨rfl,rfl⟩,trivial⟩,fun c3=>⟨fun c4=>⟨?_,?_,?_,?_,?_,?_,⟨rfl,rfl⟩,⟨rfl,rfl⟩,?_,⟨rfl,rfl⟩,⟨rfl,rfl⟩,⟨rfl,rfl⟩,⟨rfl,rfl⟩,⟨rfl,rfl⟩,⟨rfl,rfl⟩,⟨rfl,rfl⟩,⟨rfl,rfl⟩,⟨rfl,rfl⟩,⟨rfl,rfl⟩,⟨rfl,rfl⟩,⟨rfl,rfl⟩,⟨rfl,rfl⟩,?_,⟨rfl,rfl⟩,trivial⟩,fun c4=>⟨fun c5=>⟨?_,?_,?_,?_,?_,?_,⟨rfl,rfl⟩,⟨rfl,rfl⟩,⟨rfl,rfl⟩,?_,⟨rfl,rfl⟩,⟨rfl,rfl⟩,⟨rfl,rfl⟩,⟨rfl,rfl⟩,⟨rfl,rfl⟩,⟨rfl,rfl⟩,⟨rfl,rfl⟩,⟨rfl,rfl⟩,⟨rfl,rfl⟩,⟨rfl,rfl⟩,⟨rfl,rfl⟩,⟨rfl,rfl⟩,?_,⟨rfl,rfl⟩,trivial⟩,fun c5=>⟨fun c6=>⟨?_,?_,?_,?_,?_,?_,⟨rfl,rfl⟩,⟨rfl,rfl⟩,⟨rfl,rfl⟩,⟨rfl,rfl⟩,?_,⟨rfl,rfl⟩,⟨rfl,rfl⟩,⟨rfl,rfl⟩,⟨rfl,rfl⟩,⟨rfl,rfl⟩,⟨rfl,rfl⟩,⟨rfl,rfl⟩,⟨rfl,rfl⟩,⟨rfl,rfl⟩,⟨rfl,rfl⟩,⟨rfl,rfl⟩,?_,⟨rfl,rfl⟩,trivial⟩,fun c6=>⟨fun c7=>⟨?_,?_,?_,?_,?_,?_,⟨rfl,rfl⟩,⟨rfl,rfl⟩,⟨rfl,rfl⟩,⟨rfl,rfl⟩,⟨rfl,rfl⟩,?_,⟨rfl,rfl⟩,⟨rfl,rfl⟩,⟨rfl,rfl⟩,⟨rfl,rfl⟩,⟨rfl,rfl⟩,⟨rfl,rfl⟩,⟨rfl,rfl⟩,⟨rfl,rfl⟩,⟨rfl,rfl⟩,⟨rfl,rfl⟩,?_,⟨rfl,rfl⟩,trivial⟩,fun c7=>⟨fun c8=>⟨?_,?_,?_,?_,?_,?_,⟨rfl,rfl⟩,⟨rfl,rfl⟩,⟨rfl,rfl⟩,⟨rfl,rfl⟩,⟨rfl,rfl⟩,⟨rfl,rfl⟩,?_,⟨rfl,rfl⟩,⟨rfl,rfl⟩,⟨rfl,rfl⟩,⟨rfl,rfl⟩,⟨rfl,rfl⟩,⟨rfl,rfl⟩,⟨rfl,rfl⟩,⟨rfl,rfl⟩,⟨rfl,rfl⟩,?_,⟨rfl,rfl⟩,trivial⟩,fun c8=>⟨fun c9=>⟨?_,?_,?_,?_,?_,?_,⟨rfl,rfl⟩,⟨rfl,rfl⟩,⟨rfl,rfl⟩,⟨rfl,rfl⟩,⟨rfl,rfl⟩,⟨rfl,rfl⟩,⟨rfl,rfl⟩,?_,⟨rfl,rfl⟩,⟨rfl,rfl⟩,⟨rfl,rfl⟩,⟨rfl,rfl⟩,⟨rfl,rfl⟩,⟨rfl,rfl⟩,⟨rfl,rfl⟩,⟨rfl,rfl⟩,?_,⟨rfl,rfl⟩,trivial⟩,fun c9=>⟨fun c10=>⟨?_,?_,?_,?_,?_,?_,⟨rfl,rfl⟩,⟨rfl,rfl⟩,⟨rfl,rfl⟩,⟨rfl,rfl⟩,⟨rfl,rfl⟩,⟨rfl,rfl⟩,⟨rfl,rfl⟩,⟨rfl,rfl⟩,?_,⟨rfl,rfl⟩,⟨rfl,rfl⟩,⟨rfl,rfl⟩,⟨rfl,rfl⟩,⟨rfl,rfl⟩,⟨rfl,rfl⟩,⟨rfl,rfl⟩,?_,⟨rfl,rfl⟩,trivial⟩,fun c10=>⟨fun c11=>⟨?_,?_,?_,?_,?_,?_,⟨rfl,rfl⟩,⟨rfl,rfl⟩,⟨rfl,rfl⟩,⟨rfl,rfl⟩,⟨rfl,rfl⟩,⟨rfl,rfl⟩,⟨rfl,rfl⟩,⟨rfl,rfl⟩,⟨rfl,rfl⟩,?_,⟨rfl,rfl⟩,⟨rfl,rfl⟩,⟨rfl,rfl⟩,⟨rfl,rfl⟩,⟨rfl,rfl⟩,⟨rfl,rfl⟩,?_,⟨rfl,rfl⟩,trivial⟩,fun c11=>⟨fun c12=>⟨?_,?_,?_,?_,?_,?_,⟨rfl,rfl⟩,⟨rfl,rfl⟩,⟨rfl,rfl⟩,⟨rfl,rfl⟩,⟨rfl,rfl⟩,⟨rfl,rfl⟩,⟨rfl,rfl⟩,⟨rfl,rfl⟩,⟨rfl,rfl⟩,⟨rfl,rfl⟩,?_,⟨rfl,rfl⟩,⟨rfl,rfl⟩,⟨rfl,rfl⟩,⟨rfl,rfl⟩,⟨rfl,rfl⟩,?_,⟨rfl,rfl⟩,trivial⟩,fun c12=>⟨fun c13=>⟨?_,?_,?_,?_,?_,?_,⟨rfl,rfl⟩,⟨rfl,rfl⟩,⟨rfl,rfl⟩,⟨rfl,rfl⟩,⟨rfl,rfl⟩,⟨rfl,rfl⟩,⟨rfl,rfl⟩,⟨rfl,rfl⟩,⟨rfl,rfl⟩,⟨rfl,rfl⟩,⟨rfl,rfl⟩,?_,⟨rfl,rfl⟩,⟨rfl,rfl⟩,⟨rfl,rfl⟩,⟨rfl,rfl⟩,?_,⟨rfl,rfl⟩,trivial⟩,fun c13=>⟨fun c14=>⟨?_,?_,?_,?_,?_,?_,⟨rfl,rfl⟩,⟨rfl,rfl⟩,⟨rfl,rfl⟩,⟨rfl,rfl⟩,⟨rfl,rfl⟩,⟨rfl,rfl⟩,⟨rfl,rfl⟩,⟨rfl,rfl⟩,⟨rfl,rfl⟩,⟨rfl,rfl⟩,⟨rfl,rfl⟩,⟨rfl,rfl⟩,?_,⟨rfl,rfl⟩,⟨rfl,rfl⟩,⟨rfl,rfl⟩,?_,⟨rfl,rfl⟩,trivial⟩,fun c14=>⟨fun c15=>⟨?_,?_,?_,?_,?_,?_,⟨rfl,rfl⟩,⟨rfl,rfl⟩,⟨rfl,rfl⟩,⟨rfl,rfl⟩,⟨rfl,rfl⟩,⟨rfl,rfl⟩,⟨rfl,rfl⟩,⟨rfl,rfl⟩,⟨rfl,rfl⟩,⟨rfl,rfl⟩,⟨rfl,rfl⟩,⟨rfl,rfl⟩,⟨rfl,rfl⟩,?_,⟨rfl,rfl⟩,⟨rfl,rfl⟩,?_,⟨rfl,rfl⟩,trivial⟩,fun c15=>⟨fun c16=>⟨?_,?_,?_,?_,?_,?_,⟨rfl,rfl⟩,⟨rfl,rfl⟩,⟨rfl,rfl⟩,⟨rfl,rfl⟩,⟨rfl,rfl⟩,⟨rfl,rfl⟩,⟨rfl,rfl⟩,⟨rfl,rfl⟩,⟨rfl,rfl⟩,⟨rfl,rfl⟩,⟨rfl,rfl⟩,⟨rfl,rfl⟩,⟨rfl,rfl⟩,⟨rfl,rfl⟩,?_,⟨rfl,rfl⟩,?_,⟨rfl,rfl⟩,trivial⟩,fun c16=>⟨?_,?_,?_,?_,?_,?_,⟨rfl,rfl⟩,⟨rfl,rfl⟩,⟨rfl,rfl⟩,⟨rfl,rfl⟩,⟨rfl,rfl⟩,⟨rfl,rfl⟩,⟨rfl,rfl⟩,⟨rfl,rfl⟩,⟨rfl,rfl⟩,⟨rfl,rfl⟩,⟨rfl,rfl⟩,⟨rfl,rfl⟩,⟨rfl,rfl⟩,⟨rfl,rfl⟩,⟨rfl,rfl⟩,?_,?_,⟨rfl,rfl⟩,trivial⟩⟩⟩⟩⟩⟩⟩⟩⟩⟩⟩⟩⟩⟩⟩⟩,fun c1=>⟨⟨rfl,rfl⟩,⟨rfl,rfl⟩,⟨rfl,rfl⟩,⟨rfl,rfl⟩,⟨rfl,rfl⟩,⟨rfl,rfl⟩,⟨rfl,rfl⟩,⟨rfl,rfl⟩,⟨rfl,rfl⟩,⟨rfl,rfl⟩,⟨rfl,rfl⟩,⟨rfl,rfl⟩,⟨rfl,rfl⟩,⟨rfl,rfl⟩,⟨rfl,rfl⟩,⟨rfl,rfl⟩,⟨rfl,rfl⟩,⟨rfl,rfl⟩,trivial⟩⟩
 ·(obtain ⟨h0,h2,h3,h4,h5,h6,h7,h8⟩:=hI;simp only [decide_eq_true_eq] at c1;omega)
 ·exact ⟨(fV s hI (by simpa using c1)).1,(fV s hI (by simpa using c1)).2.1⟩
 ·(have:=hI.2.1 s.jq (by simp [fD]);have:=hI.1;have:=hI.2.2.2.1;have:=hI.2.2.2.2.1;simp only [List.length_cons,List.length_nil];omega)
 ·(obtain ⟨h0,h2,h3,h4,h5,h6,h7,h8⟩:=hI;simp only [decide_eq_true_eq] at c1;omega)
 ·(have em:=eq_of_beq c2;have hm:=fV s hI (by simpa using c1);omega)
 iterate 3 · (obtain ⟨h0,h2,h3,h4,h5,h6,h7,h8⟩:=hI;simp only [decide_eq_true_eq] at c1;omega)
 iterate 2 · exact ⟨rfl,by simp⟩
 ·(have:=hI.2.1 s.jo (by simp [fD]);have:=hI.1;have:=hI.2.2.2.1;have:=hI.2.2.2.2.1;simp only [List.length_cons,List.length_nil];omega)
 ·(obtain ⟨h0,h2,h3,h4,h5,h6,h7,h8⟩:=hI;simp only [decide_eq_true_eq] at c1;omega)
 ·(have em:=eq_of_beq c3;have hm:=fV s hI (by simpa using c1);omega)
 iterate 3 · (obtain ⟨h0,h2,h3,h4,h5,h6,h7,h8⟩:=hI;simp only [decide_eq_true_eq] at c1;omega)
 iterate 2 · exact ⟨rfl,by simp⟩
 ·(have:=hI.2.1 s.jm (by simp [fD]);have:=hI.1;have:=hI.2.2.2.1;have:=hI.2.2.2.2.1;simp only [List.length_cons,List.length_nil];omega)
 ·(obtain ⟨h0,h2,h3,h4,h5,h6,h7,h8⟩:=hI;simp only [decide_eq_true_eq] at c1;omega)
 ·(have em:=eq_of_beq c4;have hm:=fV s hI (by simpa using c1);omega)
 iterate 3 · (obtain ⟨h0,h2,h3,h4,h5,h6,h7,h8⟩:=hI;simp only [decide_eq_true_eq] at c1;omega)
 iterate 2 · exact ⟨rfl,by simp⟩
 ·(have:=hI.2.1 s.jl (by simp [fD]);have:=hI.1;have:=hI.2.2.2.1;have:=hI.2.2.2.2.1;simp only [List.length_cons,List.length_nil];omega)
 ·(obtain ⟨h0,h2,h3,h4,h5,h6,h7,h8⟩:=hI;simp only [decide_eq_true_eq] at c1;omega)
 ·(have em:=eq_of_beq c5;have hm:=fV s hI (by simpa using c1);omega)
 iterate 3 · (obtain ⟨h0,h2,h3,h4,h5,h6,h7,h8⟩:=hI;simp only [decide_eq_true_eq] at c1;omega)
 iterate 2 · exact ⟨rfl,by simp⟩
 ·(have:=hI.2.1 s.jk (by simp [fD]);have:=hI.1;have:=hI.2.2.2.1;have:=hI.2.2.2.2.1;simp only [List.length_cons,List.length_nil];omega)
 ·(obtain ⟨h0,h2,h3,h4,h5,h6,h7,h8⟩:=hI;simp only [decide_eq_true_eq] at c1;omega)
 ·(have em:=eq_of_beq c6;have hm:=fV s hI (by simpa using c1);omega)
 iterate 3 · (obtain ⟨h0,h2,h3,h4,h5,h6,h7,h8⟩:=hI;simp only [decide_eq_true_eq] at c1;omega)
 iterate 2 · exact ⟨rfl,by simp⟩
 ·(have:=hI.2.1 s.ji (by simp [fD]);have:=hI.1;have:=hI.2.2.2.1;have:=hI.2.2.2.2.1;simp only [List.length_cons,List.length_nil];omega)
 ·(obtain ⟨h0,h2,h3,h4,h5,h6,h7,h8⟩:=hI;simp only [decide_eq_true_eq] at c1;omega)
 ·(have em:=eq_of_beq c7;have hm:=fV s hI (by simpa using c1);omega)
 iterate 3 · (obtain ⟨h0,h2,h3,h4,h5,h6,h7,h8⟩:=hI;simp only [decide_eq_true_eq] at c1;omega)
 iterate 2 · exact ⟨rfl,by simp⟩
 ·(have:=hI.2.1 s.jh (by simp [fD]);have:=hI.1;have:=hI.2.2.2.1;have:=hI.2.2.2.2.1;simp only [List.length_cons,List.length_nil];omega)
 ·(obtain ⟨h0,h2,h3,h4,h5,h6,h7,h8⟩:=hI;simp only [decide_eq_true_eq] at c1;omega)
 ·(have em:=eq_of_beq c8;have hm:=fV s hI (by simpa using c1);omega)
 iterate 3 · (obtain ⟨h0,h2,h3,h4,h5,h6,h7,h8⟩:=hI;simp only [decide_eq_true_eq] at c1;omega)
 iterate 2 · exact ⟨rfl,by simp⟩
 ·(have:=hI.2.1 s.jg (by simp [fD]);have:=hI.1;have:=hI.2.2.2.1;have:=hI.2.2.2.2.1;simp only [List.length_cons,List.length_nil];omega)
 ·(obtain ⟨h0,h2,h3,h4,h5,h6,h7,h8⟩:=hI;simp only [decide_eq_true_eq] at c1;omega)
 ·(have em:=eq_of_beq c9;have hm:=fV s hI (by simpa using c1);omega)
 iterate 3 · (obtain ⟨h0,h2,h3,h4,h5,h6,h7,h8⟩:=hI;simp only [decide_eq_true_eq] at c1;omega)
 iterate 2 · exact ⟨rfl,by simp⟩
 ·(have:=hI.2.1 s.jf (by simp [fD]);have:=hI.1;have:=hI.2.2.2.1;have:=hI.2.2.2.2.1;simp only [List.length_cons,List.length_nil];omega)
 ·(obtain ⟨h0,h2,h3,h4,h5,h6,h7,h8⟩:=hI;simp only [decide_eq_true_eq] at c1;omega)
 ·(have em:=eq_of_beq c10;have hm:=fV s hI (by simpa using c1);omega)
 iterate 3 · (obtain ⟨h0,h2,h3,h4,h5,h6,h7,h8⟩:=hI;simp only [decide_eq_true_eq] at c1;omega)
 iterate 2 · exact ⟨rfl,by simp⟩
 ·(have:=hI.2.1 s.je (by simp [fD]);have:=hI.1;have:=hI.2.2.2.1;have:=hI.2.2.2.2.1;simp only [List.length_cons,List.length_nil];omega)
 ·(obtain ⟨h0,h2,h3,h4,h5,h6,h7,h8⟩:=hI;simp only [decide_eq_true_eq] at c1;omega)
 ·(have em:=eq_of_beq c11;have hm:=fV s hI (by simpa using c1);omega)
 iterate 3 · (obtain ⟨h0,h2,h3,h4,h5,h6,h7,h8⟩:=hI;simp only [decide_eq_true_eq] at c1;omega)
 iterate 2 · exact ⟨rfl,by simp⟩
 ·(have:=hI.2.1 s.dM (by simp [fD]);have:=hI.1;have:=hI.2.2.2.1;have:=hI.2.2.2.2.1;simp only [List.length_cons,List.length_nil];omega)
 ·(obtain ⟨h0,h2,h3,h4,h5,h6,h7,h8⟩:=hI;simp only [decide_eq_true_eq] at c1;omega)
 ·(have em:=eq_of_beq c12;have hm:=fV s hI (by simpa using c1);omega)
 iterate 3 · (obtain ⟨h0,h2,h3,h4,h5,h6,h7,h8⟩:=hI;simp only [decide_eq_true_eq] at c1;omega)
 iterate 2 · exact ⟨rfl,by simp⟩
 ·(have:=hI.2.1 s.dL (by simp [fD]);have:=hI.1;have:=hI.2.2.2.1;have:=hI.2.2.2.2.1;simp only [List.length_cons,List.length_nil];omega)
 ·(obtain ⟨h0,h2,h3,h4,h5,h6,h7,h8⟩:=hI;simp only [decide_eq_true_eq] at c1;omega)
 ·(have em:=eq_of_beq c13;have hm:=fV s hI (by simpa using c1);omega)
 iterate 3 · (obtain ⟨h0,h2,h3,h4,h5,h6,h7,h8⟩:=hI;simp only [decide_eq_true_eq] at c1;omega)
 iterate 2 · exact ⟨rfl,by simp⟩
 ·(have:=hI.2.1 s.dK (by simp [fD]);have:=hI.1;have:=hI.2.2.2.1;have:=hI.2.2.2.2.1;simp only [List.length_cons,List.length_nil];omega)
 ·(obtain ⟨h0,h2,h3,h4,h5,h6,h7,h8⟩:=hI;simp only [decide_eq_true_eq] at c1;omega)
 ·(have em:=eq_of_beq c14;have hm:=fV s hI (by simpa using c1);omega)
 iterate 3 · (obtain ⟨h0,h2,h3,h4,h5,h6,h7,h8⟩:=hI;simp only [decide_eq_true_eq] at c1;omega)
 iterate 2 · exact ⟨rfl,by simp⟩
 ·(have:=hI.2.1 s.dJ (by simp [fD]);have:=hI.1;have:=hI.2.2.2.1;have:=hI.2.2.2.2.1;simp only [List.length_cons,List.length_nil];omega)
 ·(obtain ⟨h0,h2,h3,h4,h5,h6,h7,h8⟩:=hI;simp only [decide_eq_true_eq] at c1;omega)
 ·(have em:=eq_of_beq c15;have hm:=fV s hI (by simpa using c1);omega)
 iterate 3 · (obtain ⟨h0,h2,h3,h4,h5,h6,h7,h8⟩:=hI;simp only [decide_eq_true_eq] at c1;omega)
 iterate 2 · exact ⟨rfl,by simp⟩
 ·(have:=hI.2.1 s.dI (by simp [fD]);have:=hI.1;have:=hI.2.2.2.1;have:=hI.2.2.2.2.1;simp only [List.length_cons,List.length_nil];omega)
 ·(obtain ⟨h0,h2,h3,h4,h5,h6,h7,h8⟩:=hI;simp only [decide_eq_true_eq] at c1;omega)
 ·(have em:=eq_of_beq c16;have hm:=fV s hI (by simpa using c1);omega)
 iterate 3 · (obtain ⟨h0,h2,h3,h4,h5,h6,h7,h8⟩:=hI;simp only [decide_eq_true_eq] at c1;omega)
 iterate 2 · exact ⟨rfl,by simp⟩
 ·(have:=hI.2.1 s.dH (by simp [fD]);have:=hI.1;have:=hI.2.2.2.1;have:=hI.2.2.2.2.1;simp only [List.length_cons,List.length_nil];omega)
 ·(obtain ⟨h0,h2,h3,h4,h5,h6,h7,h8⟩:=hI;simp only [decide_eq_true_eq] at c1;omega)
 ·(have hm:=fV s hI (by simpa using c1);simp only [beq_eq_false_iff_ne,ne_eq] at c2 c3 c4 c5 c6 c7 c8 c9 c10 c11 c12 c13 c14 c15 c16;omega)
 iterate 3 · (obtain ⟨h0,h2,h3,h4,h5,h6,h7,h8⟩:=hI;simp only [decide_eq_true_eq] at c1;omega)
 iterate 2 · exact ⟨rfl,by simp⟩
theorem VX:Nj.Ok:=⟨fun s=>by kernel_rfl,fun s=>by kernel_rfl,fun s=>rfl,fun s t r=>rfl,fun s=>rfl,fun s=>by kernel_rfl⟩
theorem VE:Nj.Pf (akp):=⟨aAe,fun _ _=>rfl,ahy,auZ⟩
set_option maxRecDepth 100000 in
set_option maxHeartbeats 4000000 in
theorem amd:bg Tryz.prog aP (AN 1) (.loop IK) Nj.lp:=bK.snd VX VE (bF (Γ:=yw) (K:=aar) (L:=(rY Tryz.prog aP yw aar 20 2)) zT aif IK (fun b _=>dU zT aif 20 2 b)) (fun s=>by kernel_rfl)
theorem ahx (s : ig) (hE:UO s):(fun s:ig=>(uV s.i (fD s) (s.l.drop s.k.toNat),s.sums.set s.i.toNat (s.sums.getD s.i.toNat 0+smA s.alive (s.l.drop s.k.toNat)))) (bG s)=(fun s:ig=>(uV s.i (fD s) (s.l.drop s.k.toNat),s.sums.set s.i.toNat (s.sums.getD s.i.toNat 0+smA s.alive (s.l.drop s.k.toNat)))) s:=by
 exact bK.uO VX VE (fun s:ig=>(uV s.i (fD s) (s.l.drop s.k.toNat),s.sums.set s.i.toNat (s.sums.getD s.i.toNat 0+smA s.alive (s.l.drop s.k.toNat)))) (fun s hI=>by
  show bJ _ _ (aaV s)
  unfold aaV QJ
  dsimp only [T.rd,T.rl]
  refine au (fun c1=>?_) (fun c1=>?_)
  ·refine au (fun c2=>?_) (fun c2=>?_)
   ·have em:gi s.l s.k=0:=by simpa using c2
    exact iL s _ 0 hI (by simpa using c1) em rfl rfl rfl rfl rfl rfl rfl
   ·refine au (fun c3=>?_) (fun c3=>?_)
    ·have em:gi s.l s.k=1:=by simpa using c3
     exact iL s _ 1 hI (by simpa using c1) em rfl rfl rfl rfl rfl rfl rfl
    ·refine au (fun c4=>?_) (fun c4=>?_)
     ·have em:gi s.l s.k=2:=by simpa using c4
      exact iL s _ 2 hI (by simpa using c1) em rfl rfl rfl rfl rfl rfl rfl
     ·refine au (fun c5=>?_) (fun c5=>?_)
      ·have em:gi s.l s.k=3:=by simpa using c5
       exact iL s _ 3 hI (by simpa using c1) em rfl rfl rfl rfl rfl rfl rfl
      ·refine au (fun c6=>?_) (fun c6=>?_)
       ·have em:gi s.l s.k=4:=by simpa using c6
        exact iL s _ 4 hI (by simpa using c1) em rfl rfl rfl rfl rfl rfl rfl
       ·refine au (fun c7=>?_) (fun c7=>?_)
        ·have em:gi s.l s.k=5:=by simpa using c7
         exact iL s _ 5 hI (by simpa using c1) em rfl rfl rfl rfl rfl rfl rfl
        ·refine au (fun c8=>?_) (fun c8=>?_)
         ·have em:gi s.l s.k=6:=by simpa using c8
          exact iL s _ 6 hI (by simpa using c1) em rfl rfl rfl rfl rfl rfl rfl
         ·refine au (fun c9=>?_) (fun c9=>?_)
          ·have em:gi s.l s.k=7:=by simpa using c9
           exact iL s _ 7 hI (by simpa using c1) em rfl rfl rfl rfl rfl rfl rfl
          ·refine au (fun c10=>?_) (fun c10=>?_)
           ·have em:gi s.l s.k=8:=by simpa using c10
            exact iL s _ 8 hI (by simpa using c1) em rfl rfl rfl rfl rfl rfl rfl
           ·refine au (fun c11=>?_) (fun c11=>?_)
            ·have em:gi s.l s.k=9:=by simpa using c11
             exact iL s _ 9 hI (by simpa using c1) em rfl rfl rfl rfl rfl rfl rfl
            ·refine au (fun c12=>?_) (fun c12=>?_)
             ·have em:gi s.l s.k=10:=by simpa using c12
              exact iL s _ 10 hI (by simpa using c1) em rfl rfl rfl rfl rfl rfl rfl
             ·refine au (fun c13=>?_) (fun c13=>?_)
              ·have em:gi s.l s.k=11:=by simpa using c13
               exact iL s _ 11 hI (by simpa using c1) em rfl rfl rfl rfl rfl rfl rfl
              ·refine au (fun c14=>?_) (fun c14=>?_)
               ·have em:gi s.l s.k=12:=by simpa using c14
                exact iL s _ 12 hI (by simpa using c1) em rfl rfl rfl rfl rfl rfl rfl
               ·refine au (fun c15=>?_) (fun c15=>?_)
                ·have em:gi s.l s.k=13:=by simpa using c15
                 exact iL s _ 13 hI (by simpa using c1) em rfl rfl rfl rfl rfl rfl rfl
                ·refine au (fun c16=>?_) (fun c16=>?_)
                 ·have em:gi s.l s.k=14:=by simpa using c16
                  exact iL s _ 14 hI (by simpa using c1) em rfl rfl rfl rfl rfl rfl rfl
                 ·have em:gi s.l s.k=15:=by
                   have hm:=fV s hI (by simpa using c1)
                   simp only [beq_eq_false_iff_ne,ne_eq] at c2 c3 c4 c5 c6 c7 c8 c9 c10 c11 c12 c13 c14 c15 c16
                   omega
                  exact iL s _ 15 hI (by simpa using c1) em rfl rfl rfl rfl rfl rfl rfl
  ·rfl) s hE
theorem anC (s:ig) (hE:UO s):fD (bG s)=uV s.i (fD s) s.l∧(bG s).sums=s.sums.set s.i.toNat (s.sums.getD s.i.toNat 0+smA s.alive s.l):=by
 have q3:=ahx s hE
 obtain ⟨hI2,hf⟩:=bK.inv VX VE (fun s=>by kernel_rfl) s hE
 have hI2:uS (bG s):=hI2
 have hq:=xP (ahy _ hI2) hf
 have q2:(bG s).k=(bG s).n:=hq.2
 obtain ⟨h0,h1,h2,h3,h4,h5,h6,h7⟩:=hE
 obtain ⟨g0,g1,g2,g3,g4,g5,g6,g7⟩:=hI2
 have el:(bG s).l=s.l:=rfl
 have en:(bG s).n=s.n:=rfl
 have ei:(bG s).i=s.i:=rfl
 have ea:(bG s).alive=s.alive:=rfl
 simp only at q3
 rw [q2,en,el,ei,ea,List.drop_eq_nil_of_le (by omega),h0,show (0:Int).toNat=0 from rfl,List.drop_zero] at q3
 have e1:=congrArg Prod.fst q3
 have e2:=congrArg Prod.snd q3
 simp only at e1 e2
 refine ⟨e1,?_⟩
 rw [←e2]
 exact (afb (by rw [ei] at g7;omega)).symm
structure gV where
 alive:List Int
 rows:List Rw
 rn:Int
 ri:Int
 bQ:List Cd
 eP:List ByteArray
 bV:List Ko
 cu:List Ch
 iG:List Ba
 yG:List Cd
 yE:List ByteArray
 yF:List Ko
 eY:List Ch
 yH:List Ba
 bH:List Rw
 bf:List Int
 jq:List Int
 jo:List Int
 jm:List Int
 jl:List Int
 jk:List Int
 ji:List Int
 jh:List Int
 jg:List Int
 jf:List Int
 je:List Int
 dM:List Int
 dL:List Int
 dK:List Int
 dJ:List Int
 dI:List Int
 dH:List Int
 sums:List Int
 levels:List Int
def aDn (s:gV):List LV:=[.xl (.int .i64) s.alive,.own 1 0,.xl zl s.rows,.v (.int .i64 s.rn),.v (.int .i64 s.ri)]
def aCm (s:gV):List aU:=[⟨[.xl dX s.bQ,.xl .str s.eP,.xl dY s.bV,.xl dS s.cu,.xl dZ s.iG],28,.cl,false⟩,⟨[.xl dX s.yG,.xl .str s.yE,.xl dY s.yF,.xl dS s.eY,.xl dZ s.yH,.xl zl s.bH,.os 2 1 0 (List.length s.jq),.os 3 1 0 (List.length s.jo),.os 4 1 0 (List.length s.jm),.os 5 1 0 (List.length s.jl),.os 6 1 0 (List.length s.jk),.os 7 1 0 (List.length s.ji),.os 8 1 0 (List.length s.jh),.os 9 1 0 (List.length s.jg),.os 10 1 0 (List.length s.jf),.os 11 1 0 (List.length s.je),.os 12 1 0 (List.length s.dM),.os 13 1 0 (List.length s.dL),.os 14 1 0 (List.length s.dK),.os 15 1 0 (List.length s.dJ),.os 16 1 0 (List.length s.dI),.os 17 1 0 (List.length s.dH),.os 18 1 0 (List.length s.sums),.xl (.int .i64) s.bf,.os 19 1 0 (List.length s.levels)],148,.cl,false⟩,⟨[],3,.vec (.int .i64) s.jq,false⟩,⟨[],3,.vec (.int .i64) s.jo,false⟩,⟨[],3,.vec (.int .i64) s.jm,false⟩,⟨[],3,.vec (.int .i64) s.jl,false⟩,⟨[],3,.vec (.int .i64) s.jk,false⟩,⟨[],3,.vec (.int .i64) s.ji,false⟩,⟨[],3,.vec (.int .i64) s.jh,false⟩,⟨[],3,.vec (.int .i64) s.jg,false⟩,⟨[],3,.vec (.int .i64) s.jf,false⟩,⟨[],3,.vec (.int .i64) s.je,false⟩,⟨[],3,.vec (.int .i64) s.dM,false⟩,⟨[],3,.vec (.int .i64) s.dL,false⟩,⟨[],3,.vec (.int .i64) s.dK,false⟩,⟨[],3,.vec (.int .i64) s.dJ,false⟩,⟨[],3,.vec (.int .i64) s.dI,false⟩,⟨[],3,.vec (.int .i64) s.dH,false⟩,⟨[],3,.vec (.int .i64) s.sums,false⟩,⟨[],3,.vec (.int .i64) s.levels,false⟩]
noncomputable def TK:Code:=((aC (Tryz.f95.body.getD .skip))[0]?).getD .skip
def bM (s:gV):ig:=(⟨s.alive,s.ri,s.rows,s.rn,s.ri,(o5 s.rows s.ri).2,(List.length (o5 s.rows s.ri).2:Int),(0:Int),s.bQ,s.eP,s.bV,s.cu,s.iG,s.yG,s.yE,s.yF,s.eY,s.yH,s.bH,s.bf,s.jq,s.jo,s.jm,s.jl,s.jk,s.ji,s.jh,s.jg,s.jf,s.je,s.dM,s.dL,s.dK,s.dJ,s.dI,s.dH,s.sums,s.levels⟩:ig)
def QI (s:gV):T (Rd gV):=
 .br (decide (s.ri<s.rn)) (.req (0≤s.ri∧s.ri<(List.length s.rows:Int)) (.rl s.jq (.rl s.jo (.rl s.jm (.rl s.jl (.rl s.jk (.rl s.ji (.rl s.jh (.rl s.jg (.rl s.jf (.rl s.je (.rl s.dM (.rl s.dL (.rl s.dK (.rl s.dJ (.rl s.dI (.rl s.dH (.rl s.sums (.rl s.levels (.req (ayj (bM s)) (.rl (bG (bM s)).jq (.rl (bG (bM s)).jo (.rl (bG (bM s)).jm (.rl (bG (bM s)).jl (.rl (bG (bM s)).jk (.rl (bG (bM s)).ji (.rl (bG (bM s)).jh (.rl (bG (bM s)).jg (.rl (bG (bM s)).jf (.rl (bG (bM s)).je (.rl (bG (bM s)).dM (.rl (bG (bM s)).dL (.rl (bG (bM s)).dK (.rl (bG (bM s)).dJ (.rl (bG (bM s)).dI (.rl (bG (bM s)).dH (.rl (bG (bM s)).sums (.rl s.levels (.ok (.next {s with ri:=(IntKind.i64.wrap (s.ri+1)),jq:=(bG (bM s)).jq,jo:=(bG (bM s)).jo,jm:=(bG (bM s)).jm,jl:=(bG (bM s)).jl,jk:=(bG (bM s)).jk,ji:=(bG (bM s)).ji,jh:=(bG (bM s)).jh,jg:=(bG (bM s)).jg,jf:=(bG (bM s)).jf,je:=(bG (bM s)).je,dM:=(bG (bM s)).dM,dL:=(bG (bM s)).dL,dK:=(bG (bM s)).dK,dJ:=(bG (bM s)).dJ,dI:=(bG (bM s)).dI,dH:=(bG (bM s)).dH,sums:=(bG (bM s)).sums})))))))))))))))))))))))))))))))))))))))) (.rl s.jq (.rl s.jo (.rl s.jm (.rl s.jl (.rl s.jk (.rl s.ji (.rl s.jh (.rl s.jg (.rl s.jf (.rl s.je (.rl s.dM (.rl s.dL (.rl s.dK (.rl s.dJ (.rl s.dI (.rl s.dH (.rl s.sums (.rl s.levels (.ok (.stop (.exit 0) s))))))))))))))))))))
abbrev aaU (s:gV):=(QI s).rd s
def kQ (s:gV):List (List Int):=[s.jq,s.jo,s.jm,s.jl,s.jk,s.ji,s.jh,s.jg,s.jf,s.je,s.dM,s.dL,s.dK,s.dJ,s.dI,s.dH]
def Nc (s:gV):Prop:=s.ri=0∧(∀o∈kQ s,o=[])∧s.sums=List.replicate s.rows.length 0∧s.rn=(s.rows.length:Int)∧s.rn≤1000∧(∀r∈s.rows,(r.2.length:Int)≤1000∧∀m∈r.2,0≤m∧m<16∧m<(s.alive.length:Int))∧(∀a∈s.alive,0≤a∧a≤80)∧s.sums.length=s.rows.length
def uQ (s:gV):Prop:=(0≤s.ri∧s.ri≤s.rn)∧(∀o∈kQ s,(o.length:Int)≤1000*s.ri)∧(∀k:Nat,s.ri≤(k:Int)→s.sums.getD k 0=0)∧s.rn=(s.rows.length:Int)∧s.rn≤1000∧(∀r∈s.rows,(r.2.length:Int)≤1000∧∀m∈r.2,0≤m∧m<16∧m<(s.alive.length:Int))∧(∀a∈s.alive,0≤a∧a≤80)∧s.sums.length=s.rows.length
def vO (s:gV):Nat:=(s.rn-s.ri).toNat
def ac2 (x:Ex) (_ s':gV):Prop:=x=.exit 0∧s'.ri=s'.rn
theorem aAd:∀s,Nc s→uQ s:=by
 intro s h
 obtain ⟨h0,h1,h2,h3⟩:=h
 refine ⟨by have:=h3.1;omega,fun o ho=>by rw [h1 o ho];simp;omega,fun k _=>?_,h3⟩
 rw [h2]
 simp only [List.getD,List.getElem?_replicate]
 split<;>rfl
theorem ahv (s:gV) (hI:uQ s) (c1:s.ri<s.rn):UO (bM s):=by
 obtain ⟨⟨h0,h1⟩,h2,h3,h4,h5,h6,h7,h8⟩:=hI
 have hr:=h6 (o5 s.rows s.ri) (by rw [yO (by omega)];exact List.getElem_mem _)
 refine ⟨rfl,fun o ho=>?_,?_,rfl,hr.1,hr.2,h7,h0,?_⟩
 ·have:=h2 o ho
  omega
 ·have:=h3 s.ri.toNat (by omega)
  show 0≤s.sums.getD s.ri.toNat 0∧s.sums.getD s.ri.toNat 0≤1000
  omega
 ·show s.ri<(s.sums.length:Int)
  omega
theorem aht (s s':gV) (hI:uQ s) (c1:s.ri<s.rn) (hO:kQ s'=fD (bG (bM s))) (hs:s'.sums=(bG (bM s)).sums) (hk:s'.ri=IntKind.i64.wrap (s.ri+1)) (hn:s'.rn=s.rn) (hl:s'.rows=s.rows) (ha:s'.alive=s.alive):
  (uQ s'∧vO s'<vO s)∧(fun s:gV=>(Qw (kQ s) s.ri (s.rows.drop s.ri.toNat),Qv s.alive s.sums s.ri (s.rows.drop s.ri.toNat))) s'=(fun s:gV=>(Qw (kQ s) s.ri (s.rows.drop s.ri.toNat),Qv s.alive s.sums s.ri (s.rows.drop s.ri.toNat))) s:=by
 obtain ⟨r1,r2⟩:=anC _ (ahv s hI c1)
 obtain ⟨⟨h0,h1⟩,h2,h3,h4,h5,h6,h7,h8⟩:=hI
 have hr:=h6 (o5 s.rows s.ri) (by rw [yO (by omega)];exact List.getElem_mem _)
 rw [aK (x:=s.ri+1) (by omega) (by omega)] at hk
 have r1:fD (bG (bM s))=uV s.ri (kQ s) (o5 s.rows s.ri).2:=r1
 have r2:(bG (bM s)).sums=s.sums.set s.ri.toNat (s.sums.getD s.ri.toNat 0+smA s.alive (o5 s.rows s.ri).2):=r2
 refine ⟨⟨⟨⟨by omega,by omega⟩,fun o ho=>?_,fun k hk2=>?_,by rw [hn,hl];exact h4,by omega,by rw [hl,ha];exact h6,by rw [ha];exact h7,by rw [hs,r2,List.length_set,hl];exact h8⟩,by simp only [vO];omega⟩,?_⟩
 ·rw [hO,r1] at ho
  have:=ZN h2 o ho
  have:=hr.1
  rw [hk]
  omega
 ·rw [hs,r2]
  have:=h3 k (by omega)
  simp only [List.getD] at this⊢
  rw [List.getElem?_set_ne (by omega)]
  exact this
 ·simp only
  rw [hO,hs,hl,ha,r1,r2,hk,(ai2 h0 (show s.ri<s.rows.length by omega)).1]
  rfl
theorem anA (s s':gV) (hI:uQ s) (c1:s.ri<s.rn) (hO:kQ s'=fD (bG (bM s))) (hs:s'.sums=(bG (bM s)).sums) (hk:s'.ri=IntKind.i64.wrap (s.ri+1)) (hn:s'.rn=s.rn) (hl:s'.rows=s.rows) (ha:s'.alive=s.alive):bJ (fun s'=>uQ s'∧vO s'<vO s) (fun x s'=>ac2 x s s') (.next s'):=(aht s s' hI c1 hO hs hk hn hl ha).1
theorem anz (s s':gV) (hI:uQ s) (c1:s.ri<s.rn) (hO:kQ s'=fD (bG (bM s))) (hs:s'.sums=(bG (bM s)).sums) (hk:s'.ri=IntKind.i64.wrap (s.ri+1)) (hn:s'.rn=s.rn) (hl:s'.rows=s.rows) (ha:s'.alive=s.alive):bJ (fun s'=>(fun s:gV=>(Qw (kQ s) s.ri (s.rows.drop s.ri.toNat),Qv s.alive s.sums s.ri (s.rows.drop s.ri.toNat))) s'=(fun s:gV=>(Qw (kQ s) s.ri (s.rows.drop s.ri.toNat),Qv s.alive s.sums s.ri (s.rows.drop s.ri.toNat))) s) (fun _ s'=>(fun s:gV=>(Qw (kQ s) s.ri (s.rows.drop s.ri.toNat),Qv s.alive s.sums s.ri (s.rows.drop s.ri.toNat))) s'=(fun s:gV=>(Qw (kQ s) s.ri (s.rows.drop s.ri.toNat),Qv s.alive s.sums s.ri (s.rows.drop s.ri.toNat))) s) (.next s'):=(aht s s' hI c1 hO hs hk hn hl ha).2
theorem avW (s:gV) (hI:uQ s):bJ (fun s'=>uQ s'∧vO s'<vO s) (fun x s'=>ac2 x s s') (aaU s):=by
 unfold aaU QI
 dsimp only [T.rd,T.rl]
 refine au (fun c1=>?_) (fun c1=>?_)
 ·exact anA s _ hI (by simpa using c1) rfl rfl rfl rfl rfl rfl
 ·have c1:s.rn≤s.ri:=by simpa using c1
  have h0:=hI.1
  exact ⟨rfl,by omega⟩
def wP:bK gV:=⟨1,67,[2,7,23,24,25],[.ns 7 6 3 (.int .i64),.ns 7 7 3 (.int .i64),.ns 7 8 3 (.int .i64),.ns 7 9 3 (.int .i64),.ns 7 10 3 (.int .i64),.ns 7 11 3 (.int .i64),.ns 7 12 3 (.int .i64),.ns 7 13 3 (.int .i64),.ns 7 14 3 (.int .i64),.ns 7 15 3 (.int .i64),.ns 7 16 3 (.int .i64),.ns 7 17 3 (.int .i64),.ns 7 18 3 (.int .i64),.ns 7 19 3 (.int .i64),.ns 7 20 3 (.int .i64),.ns 7 21 3 (.int .i64)],aDn,aCm,fun v b=>⟨aQ (.int .i64) (v.getD 0 .junk),aQ zl (v.getD 2 .junk),gI (v.getD 3 .junk),gI (v.getD 4 .junk),aQ dX (aX (aO b 0) 0),aQ .str (aX (aO b 0) 1),aQ dY (aX (aO b 0) 2),aQ dS (aX (aO b 0) 3),aQ dZ (aX (aO b 0) 4),aQ dX (aX (aO b 1) 0),aQ .str (aX (aO b 1) 1),aQ dY (aX (aO b 1) 2),aQ dS (aX (aO b 1) 3),aQ dZ (aX (aO b 1) 4),aQ zl (aX (aO b 1) 5),aQ (.int .i64) (aX (aO b 1) 23),iT (.int .i64) (aO b 2),iT (.int .i64) (aO b 3),iT (.int .i64) (aO b 4),iT (.int .i64) (aO b 5),iT (.int .i64) (aO b 6),iT (.int .i64) (aO b 7),iT (.int .i64) (aO b 8),iT (.int .i64) (aO b 9),iT (.int .i64) (aO b 10),iT (.int .i64) (aO b 11),iT (.int .i64) (aO b 12),iT (.int .i64) (aO b 13),iT (.int .i64) (aO b 14),iT (.int .i64) (aO b 15),iT (.int .i64) (aO b 16),iT (.int .i64) (aO b 17),iT (.int .i64) (aO b 18),iT (.int .i64) (aO b 19)⟩,QI,fun s r=> {r with alive:=s.alive,rows:=s.rows,rn:=s.rn,bQ:=s.bQ,eP:=s.eP,bV:=s.bV,cu:=s.cu,iG:=s.iG,yG:=s.yG,yE:=s.yE,yF:=s.yF,eY:=s.eY,yH:=s.yH,bH:=s.bH,bf:=s.bf,levels:=s.levels},fun s=>s,fun _ s=>s,[.exit 0],Nc,uQ,vO⟩
abbrev ax:=wP.run
abbrev apz:=wP.jJ
abbrev Qj:=wP.q
theorem auY (s:gV) (hI:uQ s):(QI s).all (fun _=>True):=by
 refine ⟨fun c1=>⟨?_,⟨rfl,rfl⟩,⟨rfl,rfl⟩,⟨rfl,rfl⟩,⟨rfl,rfl⟩,⟨rfl,rfl⟩,⟨rfl,rfl⟩,⟨rfl,rfl⟩,⟨rfl,rfl⟩,⟨rfl,rfl⟩,⟨rfl,rfl⟩,⟨rfl,rfl⟩,⟨rfl,rfl⟩,⟨rfl,rfl⟩,⟨rfl,rfl⟩,⟨rfl,rfl⟩,⟨rfl,rfl⟩,⟨rfl,rfl⟩,⟨rfl,rfl⟩,?_,⟨rfl,rfl⟩,⟨rfl,rfl⟩,⟨rfl,rfl⟩,⟨rfl,rfl⟩,⟨rfl,rfl⟩,⟨rfl,rfl⟩,⟨rfl,rfl⟩,⟨rfl,rfl⟩,⟨rfl,rfl⟩,⟨rfl,rfl⟩,⟨rfl,rfl⟩,⟨rfl,rfl⟩,⟨rfl,rfl⟩,⟨rfl,rfl⟩,⟨rfl,rfl⟩,⟨rfl,rfl⟩,⟨rfl,rfl⟩,⟨rfl,rfl⟩,trivial⟩,fun c1=>⟨⟨rfl,rfl⟩,⟨rfl,rfl⟩,⟨rfl,rfl⟩,⟨rfl,rfl⟩,⟨rfl,rfl⟩,⟨rfl,rfl⟩,⟨rfl,rfl⟩,⟨rfl,rfl⟩,⟨rfl,rfl⟩,⟨rfl,rfl⟩,⟨rfl,rfl⟩,⟨rfl,rfl⟩,⟨rfl,rfl⟩,⟨rfl,rfl⟩,⟨rfl,rfl⟩,⟨rfl,rfl⟩,⟨rfl,rfl⟩,⟨rfl,rfl⟩,trivial⟩⟩
 ·(obtain ⟨h0,h2,h3,h4,h5,h6,h7,h8⟩:=hI;simp only [decide_eq_true_eq] at c1;omega)
 ·exact ⟨ahv s hI (by simpa using c1),rfl,rfl⟩
theorem VW:wP.Ok:=⟨fun s=>by kernel_rfl,fun s=>by kernel_rfl,fun s=>rfl,fun s t r=>rfl,fun s=>rfl,fun s=>by kernel_rfl⟩
theorem VD:wP.Pf (ac2):=⟨aAd,fun _ _=>rfl,avW,auY⟩
theorem zo:bg Tryz.prog aP (AN 1) (.loop TK) wP.lp:=bK.snd VW VD (bF (Γ:=yw) (K:=aar) (L:=(aec (fun i=>if i=6 then Nj.lp else aB i))) zT aif TK (fun b hb=>by
 rw [show aC _=[IK] by kernel_rfl] at hb
 simp only [List.mem_cons,List.not_mem_nil,or_false] at hb
 subst hb
 exact amd)) (fun s=>by kernel_rfl)
theorem anB (s:gV) (hE:Nc s):∃s',uQ s'∧ac2 (apz s) s' (ax s):=bK.fin VW VD s hE
theorem ahu (s:gV) (hE:Nc s):(fun s:gV=>(Qw (kQ s) s.ri (s.rows.drop s.ri.toNat),Qv s.alive s.sums s.ri (s.rows.drop s.ri.toNat))) (ax s)=(fun s:gV=>(Qw (kQ s) s.ri (s.rows.drop s.ri.toNat),Qv s.alive s.sums s.ri (s.rows.drop s.ri.toNat))) s:=by
 exact bK.uO VW VD (fun s:gV=>(Qw (kQ s) s.ri (s.rows.drop s.ri.toNat),Qv s.alive s.sums s.ri (s.rows.drop s.ri.toNat))) (fun s hI=>by
  show bJ _ _ (aaU s)
  unfold aaU QI
  dsimp only [T.rd,T.rl]
  refine au (fun c1=>?_) (fun c1=>?_)
  ·exact anz s _ hI (by simpa using c1) rfl rfl rfl rfl rfl rfl
  ·rfl) s hE
theorem anx (s:gV) (hE:Nc s):kQ (ax s)=Qw (kQ s) 0 s.rows∧(ax s).sums=Qv s.alive s.sums 0 s.rows:=by
 have q3:=ahu s hE
 obtain ⟨s',hI,q1,q2⟩:=anB s hE
 obtain ⟨h0,h1,h2,h3,h4,h5⟩:=hE
 have el:(ax s).rows=s.rows:=rfl
 have en:(ax s).rn=s.rn:=rfl
 have ea:(ax s).alive=s.alive:=rfl
 simp only at q3
 rw [q2,en,el,ea,List.drop_eq_nil_of_le (by omega),h0] at q3
 exact ⟨congrArg Prod.fst q3,congrArg Prod.snd q3⟩
end Go.Proofs.YtlihnbimgclogaaGreatDoor
namespace Go.Proofs.YtlihnbimgclogaaGreatDoor
open Go.Sx
structure oN where
 r:Bool
 l:List Int
 n:Int
 i:Int
 bQ:List Cd
 eP:List ByteArray
 bV:List Ko
 cu:List Ch
 iG:List Ba
 yG:List Cd
 yE:List ByteArray
 yF:List Ko
 eY:List Ch
 yH:List Ba
 bH:List Rw
 jq:List Int
 jo:List Int
 jm:List Int
 jl:List Int
 jk:List Int
 ji:List Int
 jh:List Int
 jg:List Int
 jf:List Int
 je:List Int
 dM:List Int
 dL:List Int
 dK:List Int
 dJ:List Int
 dI:List Int
 dH:List Int
 bf:List Int
 sums:List Int
 levels:List Int
 qw:ByteArray
 Xo:Int
 qp:Int
 ajp:Int
 ajq:Int
 Xl:Int
 lu:Int
 mM:Int
 more:Int
def aDD (s:oN):List LV:=[.fn 124 [.own 4 0,.own 6 0],.v (.bool s.r),.xl (.int .i64) s.l,.v (.int .i64 s.n),.v (.int .i64 s.i)]
def aCC (s:oN):List aU:=[⟨[.xl dX s.bQ,.xl .str s.eP,.xl dY s.bV,.xl dS s.cu,.xl dZ s.iG],28,.cl,false⟩,⟨[.xl dX s.yG,.xl .str s.yE,.xl dY s.yF,.xl dS s.eY,.xl dZ s.yH,.xl zl s.bH,.xl (.int .i64) s.jq,.xl (.int .i64) s.jo,.xl (.int .i64) s.jm,.xl (.int .i64) s.jl,.xl (.int .i64) s.jk,.xl (.int .i64) s.ji,.xl (.int .i64) s.jh,.xl (.int .i64) s.jg,.xl (.int .i64) s.jf,.xl (.int .i64) s.je,.xl (.int .i64) s.dM,.xl (.int .i64) s.dL,.xl (.int .i64) s.dK,.xl (.int .i64) s.dJ,.xl (.int .i64) s.dI,.xl (.int .i64) s.dH,.os 2 1 0 (List.length s.sums),.xl (.int .i64) s.bf,.os 3 1 0 (List.length s.levels)],148,.cl,false⟩,⟨[],3,.vec (.int .i64) s.sums,false⟩,⟨[],3,.vec (.int .i64) s.levels,false⟩,⟨[.own 1 0],144,.cl,false⟩,⟨[.v (.string s.qw),.v (.int .i64 s.Xo),.v (.int .i64 s.qp),.v (.int .i64 s.ajp),.v (.int .i64 s.ajq),.v (.int .i64 s.Xl),.v (.int .i64 s.lu),.v (.int .i64 s.mM)],58,.cl,false⟩,⟨[.v (.int .i64 s.more)],3,.cl,false⟩]
noncomputable def TP:Code:=((aC (Tryz.f93.body.getD .skip))[0]?).getD .skip
def Za (s:oN):T (Rd oN):=
 .br (decide (s.i<s.n)) (.req (0≤s.i∧s.i<(List.length s.l:Int)) (.req (0≤(gi s.l s.i)∧(gi s.l s.i)<((List.length s.sums:Nat):Int)) (.req ((gi s.l s.i).toNat<List.length s.sums) (.req (0≤(gi s.l s.i)∧(gi s.l s.i)<(List.length s.bH:Int)) (.br (!(decide ((IntKind.i64.wrap ((s.sums.getD (gi s.l s.i).toNat (Ty.dflt (.int .i64)))+s.more))≤(o5 s.bH (gi s.l s.i)).1))) (.rl s.sums (.rl s.levels (.ok (.stop (.ret) {s with r:=false})))) (.rl s.sums (.rl s.levels (.ok (.next {s with i:=(IntKind.i64.wrap (s.i+1))}))))))))) (.rl s.sums (.rl s.levels (.ok (.stop (.exit 0) s))))
abbrev asn (s:oN):=(Za s).rd s
def Ju (s:oN) (j:Int):Bool:=zZ s.bH s.sums s.more (gi s.l j)
def UY (s:oN):Prop:=s.i=0∧0≤s.n∧s.n≤1000∧s.n=(s.l.length:Int)∧(∀r∈s.l,0≤r∧r<(s.bH.length:Int))∧s.sums.length=s.bH.length∧(∀k:Nat,0≤s.sums.getD k 0∧s.sums.getD k 0≤2000)∧(0≤s.more∧s.more≤10000)
def MJ (s:oN):Prop:=0≤s.i∧s.i≤s.n∧s.n≤1000∧(s.n=(s.l.length:Int)∧(∀r∈s.l,0≤r∧r<(s.bH.length:Int))∧s.sums.length=s.bH.length∧(∀k:Nat,0≤s.sums.getD k 0∧s.sums.getD k 0≤2000)∧(0≤s.more∧s.more≤10000))∧∀j:Nat,(j:Int)<s.i→Ju s j=true
def OJ (s:oN):Nat:=(s.n-s.i).toNat
def akA (x:Ex) (_ s':oN):Prop:=(x=.exit 0∧∀j:Nat,(j:Int)<s'.n→Ju s' j=true)∨(x=.ret∧s'.r=false∧∃j:Nat,(j:Int)<s'.n∧Ju s' j=false)
theorem aBj:∀s,UY s→MJ s:=by
 intro s h
 obtain ⟨h0,h1,h2,h3⟩:=h
 exact ⟨by omega,by omega,h2,h3,fun j hj=>by omega⟩
theorem axa (s:oN) (hI:MJ s):bJ (fun s'=>MJ s'∧OJ s'<OJ s) (fun x s'=>akA x s s') (asn s):=by
 unfold asn Za
 dsimp only [T.rd,T.rl]
 obtain ⟨h0,h1,h2,h3,h4⟩:=hI
 refine au (fun c1=>au (fun c2=>?_) (fun c2=>?_)) (fun c1=>?_)
 ·have c1:s.i<s.n:=by simpa using c1
  refine .inr ⟨rfl,rfl,s.i.toNat,by simp only;omega,?_⟩
  rw [Int.toNat_of_nonneg (by omega)]
  have hg:Ju s s.i=false:=by unfold Ju;(obtain ⟨e0,e1,e2,e3,e4⟩:=h3;have hb:=e3 (gi s.l s.i).toNat;have c2:=c2;rw [aK (x:=s.sums.getD (gi s.l s.i).toNat (Ty.dflt (.int .i64))+s.more) (by show _≤s.sums.getD (gi s.l s.i).toNat 0+s.more;omega) (by show s.sums.getD (gi s.l s.i).toNat 0+s.more≤_;omega)] at c2;unfold zZ;first|(have c3:(!(decide (s.sums.getD (gi s.l s.i).toNat 0+s.more≤(o5 s.bH (gi s.l s.i)).1)))=true:=c2;simpa using c3) |(have c3:(!(decide (s.sums.getD (gi s.l s.i).toNat 0+s.more≤(o5 s.bH (gi s.l s.i)).1)))=false:=c2;simpa using c3))
  exact hg
 ·have c1:s.i<s.n:=by simpa using c1
  have hg:Ju s s.i=true:=by unfold Ju;(obtain ⟨e0,e1,e2,e3,e4⟩:=h3;have hb:=e3 (gi s.l s.i).toNat;have c2:=c2;rw [aK (x:=s.sums.getD (gi s.l s.i).toNat (Ty.dflt (.int .i64))+s.more) (by show _≤s.sums.getD (gi s.l s.i).toNat 0+s.more;omega) (by show s.sums.getD (gi s.l s.i).toNat 0+s.more≤_;omega)] at c2;unfold zZ;first|(have c3:(!(decide (s.sums.getD (gi s.l s.i).toNat 0+s.more≤(o5 s.bH (gi s.l s.i)).1)))=true:=c2;simpa using c3) |(have c3:(!(decide (s.sums.getD (gi s.l s.i).toNat 0+s.more≤(o5 s.bH (gi s.l s.i)).1)))=false:=c2;simpa using c3))
  rw [aK (x:=s.i+1) (by omega) (by omega)]
  refine ⟨⟨by simp only;omega,by simp only;omega,h2,h3,fun j hj=>?_⟩,by simp only [OJ];omega⟩
  by_cases hji:(j:Int)<s.i
  ·exact h4 j hji
  ·have:(j:Int)=s.i:=by simp only at hj;omega
   rw [this];exact hg
 ·have c1:s.n≤s.i:=by simpa using c1
  exact .inl ⟨rfl,fun j hj=>h4 j (by omega)⟩
def yA:bK oN:=⟨7,18,[1,4,7,8,9],[],aDD,aCC,fun v b=>⟨vg (v.getD 1 .junk),aQ (.int .i64) (v.getD 2 .junk),gI (v.getD 3 .junk),gI (v.getD 4 .junk),aQ dX (aX (aO b 0) 0),aQ .str (aX (aO b 0) 1),aQ dY (aX (aO b 0) 2),aQ dS (aX (aO b 0) 3),aQ dZ (aX (aO b 0) 4),aQ dX (aX (aO b 1) 0),aQ .str (aX (aO b 1) 1),aQ dY (aX (aO b 1) 2),aQ dS (aX (aO b 1) 3),aQ dZ (aX (aO b 1) 4),aQ zl (aX (aO b 1) 5),aQ (.int .i64) (aX (aO b 1) 6),aQ (.int .i64) (aX (aO b 1) 7),aQ (.int .i64) (aX (aO b 1) 8),aQ (.int .i64) (aX (aO b 1) 9),aQ (.int .i64) (aX (aO b 1) 10),aQ (.int .i64) (aX (aO b 1) 11),aQ (.int .i64) (aX (aO b 1) 12),aQ (.int .i64) (aX (aO b 1) 13),aQ (.int .i64) (aX (aO b 1) 14),aQ (.int .i64) (aX (aO b 1) 15),aQ (.int .i64) (aX (aO b 1) 16),aQ (.int .i64) (aX (aO b 1) 17),aQ (.int .i64) (aX (aO b 1) 18),aQ (.int .i64) (aX (aO b 1) 19),aQ (.int .i64) (aX (aO b 1) 20),aQ (.int .i64) (aX (aO b 1) 21),aQ (.int .i64) (aX (aO b 1) 23),iT (.int .i64) (aO b 2),iT (.int .i64) (aO b 3),gSr (aX (aO b 5) 0),gI (aX (aO b 5) 1),gI (aX (aO b 5) 2),gI (aX (aO b 5) 3),gI (aX (aO b 5) 4),gI (aX (aO b 5) 5),gI (aX (aO b 5) 6),gI (aX (aO b 5) 7),gI (aX (aO b 6) 0)⟩,Za,fun s r=> {r with l:=s.l,n:=s.n,bQ:=s.bQ,eP:=s.eP,bV:=s.bV,cu:=s.cu,iG:=s.iG,yG:=s.yG,yE:=s.yE,yF:=s.yF,eY:=s.eY,yH:=s.yH,bH:=s.bH,jq:=s.jq,jo:=s.jo,jm:=s.jm,jl:=s.jl,jk:=s.jk,ji:=s.ji,jh:=s.jh,jg:=s.jg,jf:=s.jf,je:=s.je,dM:=s.dM,dL:=s.dL,dK:=s.dK,dJ:=s.dJ,dI:=s.dI,dH:=s.dH,bf:=s.bf,sums:=s.sums,levels:=s.levels,qw:=s.qw,Xo:=s.Xo,qp:=s.qp,ajp:=s.ajp,ajq:=s.ajq,Xl:=s.Xl,lu:=s.lu,mM:=s.mM,more:=s.more},fun s=>s,fun _ s=>s,[.ret,.exit 0],UY,MJ,OJ⟩
abbrev FD:=yA.run
abbrev FQ:=yA.jJ
abbrev ayx:=yA.q
noncomputable def zX:Specs:=aZ [(24,lC),(61,qA),(94,qy),(96,qx)]
theorem DR:∀g S,zX g=some S→Valid Tryz.prog aP g S:=aS (l:=[(24,lC),(61,qA),(94,qy),(96,qx)]) ⟨yD,Gj,Gi,Gg,trivial⟩
noncomputable def ais:Hand:=inl Tryz.prog aP zX (kE 95 1 3 (wP.lp) (kE 93 1 2 (uT.lp) (lm Tryz.prog aP (zX) 20 2))) 9
theorem aq5:dD Tryz.prog aP ais:=bP DR (dF Tryz.func95 rfl (by kernel_rfl) zo (dF Tryz.func93 rfl (by kernel_rfl) wQ (dR DR))) 9
theorem ave (s:oN) (hI:MJ s):(Za s).all (fun _=>True):=by
 refine ⟨fun c1=>⟨?_,?_,?_,?_,fun c2=>⟨⟨rfl,rfl⟩,⟨rfl,rfl⟩,trivial⟩,fun c2=>⟨⟨rfl,rfl⟩,⟨rfl,rfl⟩,trivial⟩⟩,fun c1=>⟨⟨rfl,rfl⟩,⟨rfl,rfl⟩,trivial⟩⟩
 all_goals ((obtain ⟨h0,h1,h2,⟨e0,e1,e2,e3,e4⟩,h4⟩:=hI;simp only [decide_eq_true_eq] at c1;have hm:=e1 (gi s.l s.i) (lq (by omega) (by omega));omega))
theorem ahd:yA.Ok:=⟨fun s=>by kernel_rfl,fun s=>by kernel_rfl,fun s=>rfl,fun s t r=>rfl,fun s=>rfl,fun s=>by kernel_rfl⟩
theorem af6:yA.Pf (akA):=⟨aBj,fun _ _=>rfl,axa,ave⟩
theorem Fz:bg Tryz.prog aP (AN 7) (.loop TP) yA.lp:=bK.snd ahd af6 (bF (Γ:=zX) (K:=ais) (L:=(rY Tryz.prog aP zX ais 20 2)) DR aq5 TP (fun b _=>dU DR aq5 20 2 b)) (fun s=>by kernel_rfl)
theorem apS (s:oN) (hE:UY s):∃s',MJ s'∧akA (FQ s) s' (FD s):=bK.fin ahd af6 s hE
theorem rC (s:oN) (hE:UY s):(FQ s=.exit 0∧s.l.all (zZ s.bH s.sums s.more)=true)∨(FQ s=.ret∧(FD s).r=false∧s.l.all (zZ s.bH s.sums s.more)=false):=by
 obtain ⟨s',hI,hq⟩:=apS s hE
 obtain ⟨h0,h1,h2,h3,_⟩:=hE
 have en:(FD s).n=s.n:=rfl
 rcases hq with ⟨q1,q2⟩ |⟨q1,q2,j,q3,q4⟩
 ·exact .inl ⟨q1,(iO (d:=(0:Int))).1 fun j hj=>q2 j (by rw [en];omega)⟩
 ·refine .inr ⟨q1,q2,?_⟩
  rw [Bool.eq_false_iff]
  intro hx
  have:=(iO (d:=(0:Int))).2 hx j (by rw [en] at q3;omega)
  exact Bool.noConfusion (this.symm.trans q4)
structure sV where
 PU:Int
 level:Int
 l:List Int
 n:Int
 i:Int
 bQ:List Cd
 eP:List ByteArray
 bV:List Ko
 cu:List Ch
 iG:List Ba
 yG:List Cd
 yE:List ByteArray
 yF:List Ko
 eY:List Ch
 yH:List Ba
 bH:List Rw
 jq:List Int
 jo:List Int
 jm:List Int
 jl:List Int
 jk:List Int
 ji:List Int
 jh:List Int
 jg:List Int
 jf:List Int
 je:List Int
 dM:List Int
 dL:List Int
 dK:List Int
 dJ:List Int
 dI:List Int
 dH:List Int
 bf:List Int
 sums:List Int
 levels:List Int
 more:Int
def aEC (s:sV):List LV:=[.v (.int .i64 s.PU),.own 4 0,.v (.int .i64 s.level),.own 5 0,.xl (.int .i64) s.l,.v (.int .i64 s.n),.v (.int .i64 s.i)]
def aEu (s:sV):List aU:=[⟨[.xl dX s.bQ,.xl .str s.eP,.xl dY s.bV,.xl dS s.cu,.xl dZ s.iG],28,.cl,false⟩,⟨[.xl dX s.yG,.xl .str s.yE,.xl dY s.yF,.xl dS s.eY,.xl dZ s.yH,.xl zl s.bH,.xl (.int .i64) s.jq,.xl (.int .i64) s.jo,.xl (.int .i64) s.jm,.xl (.int .i64) s.jl,.xl (.int .i64) s.jk,.xl (.int .i64) s.ji,.xl (.int .i64) s.jh,.xl (.int .i64) s.jg,.xl (.int .i64) s.jf,.xl (.int .i64) s.je,.xl (.int .i64) s.dM,.xl (.int .i64) s.dL,.xl (.int .i64) s.dK,.xl (.int .i64) s.dJ,.xl (.int .i64) s.dI,.xl (.int .i64) s.dH,.os 2 1 0 (List.length s.sums),.xl (.int .i64) s.bf,.os 3 1 0 (List.length s.levels)],148,.cl,false⟩,⟨[],3,.vec (.int .i64) s.sums,false⟩,⟨[],3,.vec (.int .i64) s.levels,false⟩,⟨[.own 1 0],144,.cl,false⟩,⟨[.v (.int .i64 s.more)],3,.cl,false⟩]
noncomputable def abK:Code:=((aC (Tryz.f97.body.getD .skip))[0]?).getD .skip
def aeU (s:sV):T (Rd sV):=
 .br (decide (s.i<s.n)) (.req (0≤s.i∧s.i<(List.length s.l:Int)) (.req (0≤(gi s.l s.i)∧(gi s.l s.i)<((List.length s.sums:Nat):Int)) (.req ((gi s.l s.i).toNat<List.length s.sums) (.req (0≤(gi s.l s.i)∧(gi s.l s.i)<((List.length s.sums:Nat):Int)) (.req ((gi s.l s.i).toNat<List.length s.sums) (.req (0=0∧(List.length s.sums)=List.length (s.sums.set (gi s.l s.i).toNat (IntKind.i64.wrap ((s.sums.getD (gi s.l s.i).toNat (Ty.dflt (.int .i64)))+s.more)))) (.rl s.levels (.ok (.next {s with i:=(IntKind.i64.wrap (s.i+1)),sums:=(s.sums.set (gi s.l s.i).toNat (IntKind.i64.wrap ((s.sums.getD (gi s.l s.i).toNat (Ty.dflt (.int .i64)))+s.more)))}))))))))) (.rl s.sums (.rl s.levels (.ok (.stop (.exit 0) s))))
abbrev apj (s:sV):=(aeU s).rd s
def aes (s:sV):Prop:=s.i=0∧(∀k:Nat,0≤s.sums.getD k 0∧s.sums.getD k 0≤2000)∧s.n=(s.l.length:Int)∧s.n≤1000∧(∀r∈s.l,0≤r∧r<(s.sums.length:Int))∧(0≤s.more∧s.more≤10000)
def aen (s:sV):Prop:=(0≤s.i∧s.i≤s.n)∧(∀k:Nat,0≤s.sums.getD k 0∧s.sums.getD k 0≤2000+10000*s.i)∧s.n=(s.l.length:Int)∧s.n≤1000∧(∀r∈s.l,0≤r∧r<(s.sums.length:Int))∧(0≤s.more∧s.more≤10000)
def Z7 (s:sV):Nat:=(s.n-s.i).toNat
def axL (x:Ex) (_ s':sV):Prop:=x=.exit 0∧s'.i=s'.n
theorem aD3:∀s,aes s→aen s:=by
 intro s h
 obtain ⟨h0,h1,h2,h3⟩:=h
 exact ⟨by omega,fun k=>by have:=h1 k;omega,h2,h3⟩
theorem azy (s:sV) (hI:aen s):bJ (fun s'=>aen s'∧Z7 s'<Z7 s) (fun x s'=>axL x s s') (apj s):=by
 unfold apj aeU
 dsimp only [T.rd,T.rl]
 obtain ⟨⟨h0,h1⟩,h2,h3,h4,h5,h6⟩:=hI
 refine au (fun c1=>?_) (fun c1=>?_)
 ·have c1:s.i<s.n:=by simpa using c1
  have hb:=h2 (gi s.l s.i).toNat
  rw [aK (x:=s.i+1) (by omega) (by omega),aK (x:=s.sums.getD (gi s.l s.i).toNat (Ty.dflt (.int .i64))+s.more) (by show _≤s.sums.getD (gi s.l s.i).toNat 0+s.more;omega) (by show s.sums.getD (gi s.l s.i).toNat 0+s.more≤_;omega)]
  refine ⟨⟨⟨by simp only;omega,by simp only;omega⟩,fun k=>?_,h3,h4,fun r hr=>by simp only [List.length_set];exact h5 r hr,h6⟩,by simp only [Z7];omega⟩
  simp only
  have hk:=h2 k
  rw [qm]
  split
  ·show 0≤s.sums.getD (gi s.l s.i).toNat 0+s.more∧s.sums.getD (gi s.l s.i).toNat 0+s.more≤_
   omega
  ·omega
 ·have c1:s.n≤s.i:=by simpa using c1
  exact ⟨rfl,by omega⟩
def Qk:bK sV:=⟨4,90,[1,2,6,7,66,67,68],[],aEC,aEu,fun v b=>⟨gI (v.getD 0 .junk),gI (v.getD 2 .junk),aQ (.int .i64) (v.getD 4 .junk),gI (v.getD 5 .junk),gI (v.getD 6 .junk),aQ dX (aX (aO b 0) 0),aQ .str (aX (aO b 0) 1),aQ dY (aX (aO b 0) 2),aQ dS (aX (aO b 0) 3),aQ dZ (aX (aO b 0) 4),aQ dX (aX (aO b 1) 0),aQ .str (aX (aO b 1) 1),aQ dY (aX (aO b 1) 2),aQ dS (aX (aO b 1) 3),aQ dZ (aX (aO b 1) 4),aQ zl (aX (aO b 1) 5),aQ (.int .i64) (aX (aO b 1) 6),aQ (.int .i64) (aX (aO b 1) 7),aQ (.int .i64) (aX (aO b 1) 8),aQ (.int .i64) (aX (aO b 1) 9),aQ (.int .i64) (aX (aO b 1) 10),aQ (.int .i64) (aX (aO b 1) 11),aQ (.int .i64) (aX (aO b 1) 12),aQ (.int .i64) (aX (aO b 1) 13),aQ (.int .i64) (aX (aO b 1) 14),aQ (.int .i64) (aX (aO b 1) 15),aQ (.int .i64) (aX (aO b 1) 16),aQ (.int .i64) (aX (aO b 1) 17),aQ (.int .i64) (aX (aO b 1) 18),aQ (.int .i64) (aX (aO b 1) 19),aQ (.int .i64) (aX (aO b 1) 20),aQ (.int .i64) (aX (aO b 1) 21),aQ (.int .i64) (aX (aO b 1) 23),iT (.int .i64) (aO b 2),iT (.int .i64) (aO b 3),gI (aX (aO b 5) 0)⟩,aeU,fun s r=> {r with PU:=s.PU,level:=s.level,l:=s.l,n:=s.n,bQ:=s.bQ,eP:=s.eP,bV:=s.bV,cu:=s.cu,iG:=s.iG,yG:=s.yG,yE:=s.yE,yF:=s.yF,eY:=s.eY,yH:=s.yH,bH:=s.bH,jq:=s.jq,jo:=s.jo,jm:=s.jm,jl:=s.jl,jk:=s.jk,ji:=s.ji,jh:=s.jh,jg:=s.jg,jf:=s.jf,je:=s.je,dM:=s.dM,dL:=s.dL,dK:=s.dK,dJ:=s.dJ,dI:=s.dI,dH:=s.dH,bf:=s.bf,levels:=s.levels,more:=s.more},fun s=>s,fun _ s=>s,[.exit 0],aes,aen,Z7⟩
abbrev kH:=Qk.run
abbrev aw5:=Qk.jJ
abbrev asX:=Qk.q
noncomputable def air:Hand:=inl Tryz.prog aP zX (kE 93 7 2 (yA.lp) (kE 95 1 3 (wP.lp) (kE 93 1 2 (uT.lp) (lm Tryz.prog aP (zX) 20 2)))) 9
theorem aq4:dD Tryz.prog aP air:=bP DR (dF Tryz.func93 rfl (by kernel_rfl) Fz (dF Tryz.func95 rfl (by kernel_rfl) zo (dF Tryz.func93 rfl (by kernel_rfl) wQ (dR DR)))) 9
theorem azC (s:sV) (hI:aen s):(aeU s).all (fun _=>True):=by
 refine ⟨fun c1=>⟨?_,?_,?_,?_,?_,?_,⟨rfl,rfl⟩,trivial⟩,fun c1=>⟨⟨rfl,rfl⟩,⟨rfl,rfl⟩,trivial⟩⟩
 all_goals ((obtain ⟨⟨h0,h1⟩,h2,h3,h4,h5,h6⟩:=hI;(try simp only [decide_eq_true_eq] at c1);first|(have hm:=h5 (gi s.l s.i) (lq (by omega) (by omega));omega) |exact ⟨rfl,by simp⟩ |exact ⟨rfl,rfl⟩))
theorem agP:Qk.Ok:=⟨fun s=>by kernel_rfl,fun s=>by kernel_rfl,fun s=>rfl,fun s t r=>rfl,fun s=>rfl,fun s=>by kernel_rfl⟩
theorem afG:Qk.Pf (axL):=⟨aD3,fun _ _=>rfl,azy,azC⟩
theorem Vo:bg Tryz.prog aP (AN 4) (.loop abK) Qk.lp:=bK.snd agP afG (bF (Γ:=zX) (K:=air) (L:=(rY Tryz.prog aP zX air 20 2)) DR aq4 abK (fun b _=>dU DR aq4 20 2 b)) (fun s=>by kernel_rfl)
theorem auq (s:sV) (hE:aes s):∃s',aen s'∧axL (aw5 s) s' (kH s):=bK.fin agP afG s hE
theorem amX (s:sV) (hE:aes s):(fun s:sV=>yY s.sums s.more (s.l.drop s.i.toNat)) (kH s)=(fun s:sV=>yY s.sums s.more (s.l.drop s.i.toNat)) s:=by
 exact bK.uO agP afG (fun s:sV=>yY s.sums s.more (s.l.drop s.i.toNat)) (fun s hI=>by
  show bJ _ _ (apj s)
  unfold apj aeU
  dsimp only [T.rd,T.rl]
  obtain ⟨⟨h0,h1⟩,h2,h3,h4,h5,h6⟩:=hI
  refine au (fun c1=>?_) (fun c1=>rfl)
  have c1:s.i<s.n:=by simpa using c1
  have hb:=h2 (gi s.l s.i).toNat
  rw [aK (x:=s.i+1) (by omega) (by omega),aK (x:=s.sums.getD (gi s.l s.i).toNat (Ty.dflt (.int .i64))+s.more) (by show _≤s.sums.getD (gi s.l s.i).toNat 0+s.more;omega) (by show s.sums.getD (gi s.l s.i).toNat 0+s.more≤_;omega)]
  show yY _ _ _=yY _ _ _
  rw [(gi_step h0 (show s.i<s.l.length by omega)).1]
  rfl) s hE
theorem afh (s:sV) (hE:aes s):(kH s).sums=yY s.sums s.more s.l:=by
 have q3:=amX s hE
 obtain ⟨s',hI,q1,q2⟩:=auq s hE
 obtain ⟨h0,h1,h2,h3⟩:=hE
 simp only at q3
 rw [q2,show (kH s).n=s.n from rfl,show (kH s).l=s.l from rfl,show (kH s).more=s.more from rfl,List.drop_eq_nil_of_le (by omega),h0] at q3
 exact q3
end Go.Proofs.YtlihnbimgclogaaGreatDoor
namespace Go.Proofs.YtlihnbimgclogaaGreatDoor
open Go.Sx
structure fH where
 most:List Int
 order:List Int
 n:Int
 level:Int
 some:Bool
 l:List Int
 m:Int
 k:Int
 ah:List Cd
 aA:List ByteArray
 ai:List Ko
 ak:List Ch
 aJ:List Ba
 yG:List Cd
 yE:List ByteArray
 yF:List Ko
 eY:List Ch
 yH:List Ba
 bH:List Rw
 jq:List Int
 jo:List Int
 jm:List Int
 jl:List Int
 jk:List Int
 ji:List Int
 jh:List Int
 jg:List Int
 jf:List Int
 je:List Int
 dM:List Int
 dL:List Int
 dK:List Int
 dJ:List Int
 dI:List Int
 dH:List Int
 bf:List Int
 sums:List Int
 levels:List Int
def aC1 (s:fH):List LV:=[.xl (.int .i64) s.most,.xl (.int .i64) s.order,.own 0 0,.v (.int .i64 s.n),.own 1 0,.v (.int .i64 s.level),.v (.bool s.some),.xl (.int .i64) s.l,.v (.int .i64 s.m),.v (.int .i64 s.k)]
def aB0 (s:fH):List aU:=[⟨[.xl dX s.ah,.xl .str s.aA,.xl dY s.ai,.xl dS s.ak,.xl dZ s.aJ],28,.cl,false⟩,⟨[.xl dX s.yG,.xl .str s.yE,.xl dY s.yF,.xl dS s.eY,.xl dZ s.yH,.xl zl s.bH,.xl (.int .i64) s.jq,.xl (.int .i64) s.jo,.xl (.int .i64) s.jm,.xl (.int .i64) s.jl,.xl (.int .i64) s.jk,.xl (.int .i64) s.ji,.xl (.int .i64) s.jh,.xl (.int .i64) s.jg,.xl (.int .i64) s.jf,.xl (.int .i64) s.je,.xl (.int .i64) s.dM,.xl (.int .i64) s.dL,.xl (.int .i64) s.dK,.xl (.int .i64) s.dJ,.xl (.int .i64) s.dI,.xl (.int .i64) s.dH,.os 2 1 0 (List.length s.sums),.xl (.int .i64) s.bf,.os 3 1 0 (List.length s.levels)],148,.cl,false⟩,⟨[],3,.vec (.int .i64) s.sums,false⟩,⟨[],3,.vec (.int .i64) s.levels,false⟩]
noncomputable def Aq:Code:=((aC (((aC (Tryz.f52.body.getD .skip))[0]?).getD .skip))[0]?).getD .skip
def tC (s:fH):oN:=(⟨false,(([s.jq,s.jo,s.jm,s.jl,s.jk,s.ji,s.jh,s.jg,s.jf,s.je,s.dM,s.dL,s.dK,s.dJ,s.dI,s.dH]:List (List Int)).getD (gi s.l s.k).toNat []),(List.length (([s.jq,s.jo,s.jm,s.jl,s.jk,s.ji,s.jh,s.jg,s.jf,s.je,s.dM,s.dL,s.dK,s.dJ,s.dI,s.dH]:List (List Int)).getD (gi s.l s.k).toNat []):Int),(0:Int),s.ah,s.aA,s.ai,s.ak,s.aJ,s.yG,s.yE,s.yF,s.eY,s.yH,s.bH,s.jq,s.jo,s.jm,s.jl,s.jk,s.ji,s.jh,s.jg,s.jf,s.je,s.dM,s.dL,s.dK,s.dJ,s.dI,s.dH,s.bf,s.sums,s.levels,(bC s.eY (gi s.l s.k)).1,(bC s.eY (gi s.l s.k)).2.1,(bC s.eY (gi s.l s.k)).2.2.1,(bC s.eY (gi s.l s.k)).2.2.2.1,(bC s.eY (gi s.l s.k)).2.2.2.2.1,(bC s.eY (gi s.l s.k)).2.2.2.2.2.1,(bC s.eY (gi s.l s.k)).2.2.2.2.2.2.1,(bC s.eY (gi s.l s.k)).2.2.2.2.2.2.2,(IntKind.i64.wrap ((if (gi s.bf (gi s.l s.k))<(Cf (bC s.eY (gi s.l s.k)).2.2.2.1 (bC s.eY (gi s.l s.k)).2.2.2.2.2.1 (IntKind.i64.wrap ((s.levels.getD (gi s.l s.k).toNat (Ty.dflt (.int .i64)))+1))) then Cf (bC s.eY (gi s.l s.k)).2.2.2.1 (bC s.eY (gi s.l s.k)).2.2.2.2.2.1 (IntKind.i64.wrap ((s.levels.getD (gi s.l s.k).toNat (Ty.dflt (.int .i64)))+1)) else (gi s.bf (gi s.l s.k)))-(if (gi s.bf (gi s.l s.k))<(Cf (bC s.eY (gi s.l s.k)).2.2.2.1 (bC s.eY (gi s.l s.k)).2.2.2.2.2.1 (IntKind.i64.wrap ((IntKind.i64.wrap ((s.levels.getD (gi s.l s.k).toNat (Ty.dflt (.int .i64)))+1))-1))) then Cf (bC s.eY (gi s.l s.k)).2.2.2.1 (bC s.eY (gi s.l s.k)).2.2.2.2.2.1 (IntKind.i64.wrap ((IntKind.i64.wrap ((s.levels.getD (gi s.l s.k).toNat (Ty.dflt (.int .i64)))+1))-1)) else (gi s.bf (gi s.l s.k)))))⟩:oN)
def lY (s:fH):sV:=(⟨(gi s.l s.k),(IntKind.i64.wrap ((s.levels.getD (gi s.l s.k).toNat (Ty.dflt (.int .i64)))+1)),(([s.jq,s.jo,s.jm,s.jl,s.jk,s.ji,s.jh,s.jg,s.jf,s.je,s.dM,s.dL,s.dK,s.dJ,s.dI,s.dH]:List (List Int)).getD (gi s.l s.k).toNat []),(List.length (([s.jq,s.jo,s.jm,s.jl,s.jk,s.ji,s.jh,s.jg,s.jf,s.je,s.dM,s.dL,s.dK,s.dJ,s.dI,s.dH]:List (List Int)).getD (gi s.l s.k).toNat []):Int),(0:Int),s.ah,s.aA,s.ai,s.ak,s.aJ,s.yG,s.yE,s.yF,s.eY,s.yH,s.bH,s.jq,s.jo,s.jm,s.jl,s.jk,s.ji,s.jh,s.jg,s.jf,s.je,s.dM,s.dL,s.dK,s.dJ,s.dI,s.dH,s.bf,s.sums,s.levels,(IntKind.i64.wrap ((if (gi s.bf (gi s.l s.k))<(Cf (bC s.eY (gi s.l s.k)).2.2.2.1 (bC s.eY (gi s.l s.k)).2.2.2.2.2.1 (IntKind.i64.wrap ((s.levels.getD (gi s.l s.k).toNat (Ty.dflt (.int .i64)))+1))) then Cf (bC s.eY (gi s.l s.k)).2.2.2.1 (bC s.eY (gi s.l s.k)).2.2.2.2.2.1 (IntKind.i64.wrap ((s.levels.getD (gi s.l s.k).toNat (Ty.dflt (.int .i64)))+1)) else (gi s.bf (gi s.l s.k)))-(if (gi s.bf (gi s.l s.k))<(Cf (bC s.eY (gi s.l s.k)).2.2.2.1 (bC s.eY (gi s.l s.k)).2.2.2.2.2.1 (IntKind.i64.wrap ((IntKind.i64.wrap ((s.levels.getD (gi s.l s.k).toNat (Ty.dflt (.int .i64)))+1))-1))) then Cf (bC s.eY (gi s.l s.k)).2.2.2.1 (bC s.eY (gi s.l s.k)).2.2.2.2.2.1 (IntKind.i64.wrap ((IntKind.i64.wrap ((s.levels.getD (gi s.l s.k).toNat (Ty.dflt (.int .i64)))+1))-1)) else (gi s.bf (gi s.l s.k)))))⟩:sV)
def Qz (s:fH):T (Rd fH):=
 .br (decide (s.k<s.m)) (.req (0≤s.k∧s.k<(List.length s.l:Int)) (.req (0≤(gi s.l s.k)∧(gi s.l s.k)<((List.length s.levels:Nat):Int)) (.req ((gi s.l s.k).toNat<List.length s.levels) (.br ((s.levels.getD (gi s.l s.k).toNat (Ty.dflt (.int .i64))) !=(IntKind.i64.wrap (s.level-1))) (.rl s.sums (.rl s.levels (.ok (.next {s with k:=(IntKind.i64.wrap (s.k+1))})))) (.req (0≤(gi s.l s.k)∧(gi s.l s.k)<(List.length s.ak:Int)) (.req (0≤(gi s.l s.k)∧(gi s.l s.k)<(List.length s.most:Int)) (.req ((gi s.most (gi s.l s.k))≤9223372036854775807) (.br (decide ((SB (bC s.ak (gi s.l s.k)).2.2.2.1 (bC s.ak (gi s.l s.k)).2.2.2.2.1 (bC s.ak (gi s.l s.k)).2.2.2.2.2.1 (gi s.most (gi s.l s.k)))<s.level)) (.rl s.sums (.rl s.levels (.ok (.next {s with k:=(IntKind.i64.wrap (s.k+1))})))) (.req (0≤(gi s.l s.k)∧(gi s.l s.k)<(List.length s.eY:Int)) (.req (0≤(gi s.l s.k)∧(gi s.l s.k)<((List.length s.levels:Nat):Int)) (.req ((gi s.l s.k).toNat<List.length s.levels) (.req (0≤(gi s.l s.k)∧(gi s.l s.k)<(List.length s.bf:Int)) (.req ((1≤(bC s.eY (gi s.l s.k)).2.2.2.1∧(bC s.eY (gi s.l s.k)).2.2.2.1≤80∧1≤(bC s.eY (gi s.l s.k)).2.2.2.2.2.1∧(bC s.eY (gi s.l s.k)).2.2.2.2.2.1≤80)∧0≤(IntKind.i64.wrap ((s.levels.getD (gi s.l s.k).toNat (Ty.dflt (.int .i64)))+1))∧(IntKind.i64.wrap ((s.levels.getD (gi s.l s.k).toNat (Ty.dflt (.int .i64)))+1))≤1000) (.req (0≤(gi s.l s.k)∧(gi s.l s.k)<(List.length s.bf:Int)) (.req ((1≤(bC s.eY (gi s.l s.k)).2.2.2.1∧(bC s.eY (gi s.l s.k)).2.2.2.1≤80∧1≤(bC s.eY (gi s.l s.k)).2.2.2.2.2.1∧(bC s.eY (gi s.l s.k)).2.2.2.2.2.1≤80)∧0≤(IntKind.i64.wrap ((IntKind.i64.wrap ((s.levels.getD (gi s.l s.k).toNat (Ty.dflt (.int .i64)))+1))-1))∧(IntKind.i64.wrap ((IntKind.i64.wrap ((s.levels.getD (gi s.l s.k).toNat (Ty.dflt (.int .i64)))+1))-1))≤1000) (.req (0≤(gi s.l s.k)∧(gi s.l s.k)<(16:Int)) (.rl s.sums (.rl s.levels (.req (ayx (tC s)) (.br (iy (FQ (tC s)) (.ret)) (.br (!(FD (tC s)).r) (.br false (.rl s.sums (.rl s.levels (.ok (.next {s with some:=true,k:=(IntKind.i64.wrap (s.k+1))})))) (.rl s.sums (.rl s.levels (.ok (.next {s with k:=(IntKind.i64.wrap (s.k+1))}))))) (.req (0≤(gi s.l s.k)∧(gi s.l s.k)<(16:Int)) (.rl s.sums (.rl s.levels (.req (asX (lY s)) (.req (0≤(gi s.l s.k)∧(gi s.l s.k)<((List.length s.levels:Nat):Int)) (.req ((gi s.l s.k).toNat<List.length s.levels) (.br true (.rl (kH (lY s)).sums (.req (0=0∧(List.length s.levels)=List.length (s.levels.set (gi s.l s.k).toNat (IntKind.i64.wrap ((s.levels.getD (gi s.l s.k).toNat (Ty.dflt (.int .i64)))+1)))) (.ok (.next {s with some:=true,k:=(IntKind.i64.wrap (s.k+1)),sums:=(kH (lY s)).sums,levels:=(s.levels.set (gi s.l s.k).toNat (IntKind.i64.wrap ((s.levels.getD (gi s.l s.k).toNat (Ty.dflt (.int .i64)))+1)))})))) (.rl (kH (lY s)).sums (.req (0=0∧(List.length s.levels)=List.length (s.levels.set (gi s.l s.k).toNat (IntKind.i64.wrap ((s.levels.getD (gi s.l s.k).toNat (Ty.dflt (.int .i64)))+1)))) (.ok (.next {s with k:=(IntKind.i64.wrap (s.k+1)),sums:=(kH (lY s)).sums,levels:=(s.levels.set (gi s.l s.k).toNat (IntKind.i64.wrap ((s.levels.getD (gi s.l s.k).toNat (Ty.dflt (.int .i64)))+1)))})))))))))))) (.br (!true) (.br false (.rl s.sums (.rl s.levels (.ok (.next {s with some:=true,k:=(IntKind.i64.wrap (s.k+1))})))) (.rl s.sums (.rl s.levels (.ok (.next {s with k:=(IntKind.i64.wrap (s.k+1))}))))) (.req (0≤(gi s.l s.k)∧(gi s.l s.k)<(16:Int)) (.rl s.sums (.rl s.levels (.req (asX (lY s)) (.req (0≤(gi s.l s.k)∧(gi s.l s.k)<((List.length s.levels:Nat):Int)) (.req ((gi s.l s.k).toNat<List.length s.levels) (.br true (.rl (kH (lY s)).sums (.req (0=0∧(List.length s.levels)=List.length (s.levels.set (gi s.l s.k).toNat (IntKind.i64.wrap ((s.levels.getD (gi s.l s.k).toNat (Ty.dflt (.int .i64)))+1)))) (.ok (.next {s with some:=true,k:=(IntKind.i64.wrap (s.k+1)),sums:=(kH (lY s)).sums,levels:=(s.levels.set (gi s.l s.k).toNat (IntKind.i64.wrap ((s.levels.getD (gi s.l s.k).toNat (Ty.dflt (.int .i64)))+1)))})))) (.rl (kH (lY s)).sums (.req (0=0∧(List.length s.levels)=List.length (s.levels.set (gi s.l s.k).toNat (IntKind.i64.wrap ((s.levels.getD (gi s.l s.k).toNat (Ty.dflt (.int .i64)))+1)))) (.ok (.next {s with k:=(IntKind.i64.wrap (s.k+1)),sums:=(kH (lY s)).sums,levels:=(s.levels.set (gi s.l s.k).toNat (IntKind.i64.wrap ((s.levels.getD (gi s.l s.k).toNat (Ty.dflt (.int .i64)))+1)))})))))))))))))))))))))))))))))))) (.rl s.sums (.rl s.levels (.ok (.stop (.exit 2) s))))
abbrev aaL (s:fH):=(Qz s).rd s
def gU (s:fH):List (List Int):=[s.jq,s.jo,s.jm,s.jl,s.jk,s.ji,s.jh,s.jg,s.jf,s.je,s.dM,s.dL,s.dK,s.dJ,s.dI,s.dH]
def Nb (s:fH):Prop:=s.k=0∧(s.m=(s.l.length:Int)∧s.m≤1000∧1≤s.level∧s.level≤81)∧s.eY=s.ak∧OkT (gU s) s.bH s.eY s.bf s.most s.l∧OkS s.bH s.l s.sums s.levels
def nK (s:fH):Prop:=(0≤s.k∧s.k≤s.m)∧(s.m=(s.l.length:Int)∧s.m≤1000∧1≤s.level∧s.level≤81)∧s.eY=s.ak∧OkT (gU s) s.bH s.eY s.bf s.most s.l∧OkS s.bH s.l s.sums s.levels
def vN (s:fH):Nat:=(s.m-s.k).toNat
def acZ (x:Ex) (_ s':fH):Prop:=x=.exit 2∧s'.k=s'.m
theorem azq:∀s,Nb s→nK s:=by
 intro s h
 obtain ⟨h0,h1⟩:=h
 exact ⟨by have:=h1.1;omega,h1⟩
theorem uJ (s:fH) (hI:nK s) (c1:s.k<s.m):gi s.l s.k∈s.l∧(0≤gi s.l s.k∧gi s.l s.k<16)∧gi s.l s.k<(s.eY.length:Int)∧gi s.l s.k<(s.ak.length:Int)∧gi s.l s.k<(s.bf.length:Int)∧gi s.l s.k<(s.most.length:Int)∧gi s.l s.k<(s.levels.length:Int)∧(0≤gi s.most (gi s.l s.k)∧gi s.most (gi s.l s.k)≤80)∧(0≤gi s.bf (gi s.l s.k)∧gi s.bf (gi s.l s.k)≤80):=by
 obtain ⟨⟨h0,h1⟩,⟨h2,h3,h4,h5⟩,h6,hT,hS⟩:=hI
 have hm:gi s.l s.k∈s.l:=lq h0 (by omega)
 obtain ⟨o1,o2,o3,o4⟩:=hT.ord _ hm
 exact ⟨hm,o1,o2,by rw [←h6];exact o2,o3,o4,hS.lI _ hm,hT.mo _ (lq o1.1 o4),hT.al _ (lq o1.1 o3)⟩
theorem sD {s:fH}(hI:nK s) (c2:((s.levels.getD (gi s.l s.k).toNat (Ty.dflt (.int .i64))) !=(IntKind.i64.wrap (s.level-1)))=false):s.levels.getD (gi s.l s.k).toNat 0=s.level-1:=by
 obtain ⟨_,⟨h2,h3,h4,h5⟩,_⟩:=hI
 have c2:((s.levels.getD (gi s.l s.k).toNat 0) !=(IntKind.i64.wrap (s.level-1)))=false:=c2
 rw [aK (x:=s.level-1) (by omega) (by omega)] at c2
 simpa using c2
theorem Rj {s:fH}(hI:nK s) (c2:s.levels.getD (gi s.l s.k).toNat 0=s.level-1):IntKind.i64.wrap ((s.levels.getD (gi s.l s.k).toNat (Ty.dflt (.int .i64)))+1)=s.level∧IntKind.i64.wrap ((IntKind.i64.wrap ((s.levels.getD (gi s.l s.k).toNat (Ty.dflt (.int .i64)))+1))-1)=s.level-1:=by
 obtain ⟨_,⟨h2,h3,h4,h5⟩,_⟩:=hI
 have e:IntKind.i64.wrap ((s.levels.getD (gi s.l s.k).toNat (Ty.dflt (.int .i64)))+1)=s.level:=by
  have:(s.levels.getD (gi s.l s.k).toNat (Ty.dflt (.int .i64)))=s.level-1:=c2
  rw [this,aK (x:=s.level-1+1) (by omega) (by omega)]
  omega
 refine ⟨e,?_⟩
 rw [e,aK (by omega) (by omega)]
theorem kL {s:fH}(hI:nK s) (c1:s.k<s.m) (c2:s.levels.getD (gi s.l s.k).toNat 0=s.level-1):(tC s).more=Kz s.eY s.bf (gi s.l s.k) s.level∧(lY s).more=Kz s.eY s.bf (gi s.l s.k) s.level∧0≤Kz s.eY s.bf (gi s.l s.k) s.level∧Kz s.eY s.bf (gi s.l s.k) s.level≤10000:=by
 have hx:=uJ s hI c1
 obtain ⟨w1,w2⟩:=Rj hI c2
 obtain ⟨_,⟨h2,h3,h4,h5⟩,h6,hT,hS⟩:=hI
 have hb:=ahP (gs:=s.eY) (alive:=s.bf) (k:=s.level) (hT.has _ hx.1) hx.2.2.2.2.2.2.2.2 h4 h5
 have e:(tC s).more=Kz s.eY s.bf (gi s.l s.k) s.level:=by
  unfold tC
  simp only [w2]
  simp only [w1]
  show IntKind.i64.wrap (Kz s.eY s.bf (gi s.l s.k) s.level)=_
  rw [aK (by omega) (by omega)]
 exact ⟨e,e,hb⟩
theorem aqB {s:fH}(hI:nK s) (c1:s.k<s.m):((gU s).getD (gi s.l s.k).toNat []).Nodup∧(((gU s).getD (gi s.l s.k).toNat []).length:Int)≤1000∧∀r∈(gU s).getD (gi s.l s.k).toNat [],0≤r∧r<(s.bH.length:Int):=by
 have hx:=uJ s hI c1
 obtain ⟨_,_,_,hT,_⟩:=hI
 refine hT.row _ ?_
 have hl:=hT.ol
 rw [List.getD_eq_getElem?_getD,List.getElem?_eq_getElem (by omega),Option.getD_some]
 exact List.getElem_mem _
theorem tH {s:fH}(hI:nK s) (c1:s.k<s.m) (c2:s.levels.getD (gi s.l s.k).toNat 0=s.level-1):UY (tC s):=by
 obtain ⟨m1,m2,m3⟩:=kL hI c1 c2
 obtain ⟨o1,o2,o3⟩:=aqB hI c1
 obtain ⟨_,_,_,hT,hS⟩:=hI
 exact ⟨rfl,Int.natCast_nonneg _,o2,rfl,o3,hS.len,hS.bd,by rw [m1];exact m3⟩
theorem ND {s:fH}(hI:nK s) (c1:s.k<s.m) (c2:s.levels.getD (gi s.l s.k).toNat 0=s.level-1):aes (lY s):=by
 obtain ⟨m1,m2,m3⟩:=kL hI c1 c2
 obtain ⟨o1,o2,o3⟩:=aqB hI c1
 obtain ⟨_,_,_,hT,hS⟩:=hI
 refine ⟨rfl,hS.bd,rfl,o2,fun r hr=>?_,by rw [m2];exact m3⟩
 have:=o3 r hr
 have hl:=hS.len
 show 0≤r∧r<(s.sums.length:Int)
 omega
theorem ae4 (s s':fH) (hI:nK s) (c1:s.k<s.m) (ht:(s'.sums,s'.levels,s'.some)=CJ (gU s) s.bH s.eY s.bf s.most s.level (s.sums,s.levels,s.some) (gi s.l s.k)) (hk:s'.k=IntKind.i64.wrap (s.k+1))
  (h_m:s'.m=s.m) (h_l:s'.l=s.l) (h_v:s'.level=s.level) (h_g:s'.eY=s.eY) (h_c:s'.ak=s.ak) (h_r:s'.bH=s.bH) (h_a:s'.bf=s.bf) (h_w:s'.most=s.most) (h_O:gU s'=gU s):
  (nK s'∧vN s'<vN s)∧(fun s:fH=>swp (gU s) s.bH s.eY s.bf s.most s.level (s.sums,s.levels,s.some) (s.l.drop s.k.toNat)) s'=(fun s:fH=>swp (gU s) s.bH s.eY s.bf s.most s.level (s.sums,s.levels,s.some) (s.l.drop s.k.toNat)) s:=by
 have hx:=uJ s hI c1
 obtain ⟨⟨h0,h1⟩,⟨h2,h3,h4,h5⟩,h6,hT,hS⟩:=hI
 rw [aK (x:=s.k+1) (by omega) (by omega)] at hk
 have e1:s'.sums=(CJ (gU s) s.bH s.eY s.bf s.most s.level (s.sums,s.levels,s.some) (gi s.l s.k)).1:=congrArg (·.1) ht
 have e2:s'.levels=(CJ (gU s) s.bH s.eY s.bf s.most s.level (s.sums,s.levels,s.some) (gi s.l s.k)).2.1:=congrArg (·.2.1) ht
 refine ⟨⟨⟨⟨by omega,by omega⟩,⟨by rw [h_m,h_l];exact h2,by omega,by omega,by omega⟩,by rw [h_g,h_c];exact h6,by rw [h_O,h_r,h_g,h_a,h_w,h_l];exact hT,?_⟩,by simp only [vN];omega⟩,?_⟩
 ·rw [h_r,h_l,e1,e2]
  exact afi hT hS hx.1 h4 h5
 ·simp only
  rw [h_O,h_r,h_g,h_a,h_w,h_v,h_l,ht,hk,(gi_step h0 (show s.k<s.l.length by omega)).1]
  rfl
theorem FC (s s':fH) (hI:nK s) (c1:s.k<s.m) (ht:(s'.sums,s'.levels,s'.some)=CJ (gU s) s.bH s.eY s.bf s.most s.level (s.sums,s.levels,s.some) (gi s.l s.k)) (hk:s'.k=IntKind.i64.wrap (s.k+1))
  (h_m:s'.m=s.m) (h_l:s'.l=s.l) (h_v:s'.level=s.level) (h_g:s'.eY=s.eY) (h_c:s'.ak=s.ak) (h_r:s'.bH=s.bH) (h_a:s'.bf=s.bf) (h_w:s'.most=s.most) (h_O:gU s'=gU s):bJ (fun s'=>nK s'∧vN s'<vN s) (fun x s'=>acZ x s s') (.next s'):=(ae4 s s' hI c1 ht hk h_m h_l h_v h_g h_c h_r h_a h_w h_O).1
theorem FB (s s':fH) (hI:nK s) (c1:s.k<s.m) (ht:(s'.sums,s'.levels,s'.some)=CJ (gU s) s.bH s.eY s.bf s.most s.level (s.sums,s.levels,s.some) (gi s.l s.k)) (hk:s'.k=IntKind.i64.wrap (s.k+1))
  (h_m:s'.m=s.m) (h_l:s'.l=s.l) (h_v:s'.level=s.level) (h_g:s'.eY=s.eY) (h_c:s'.ak=s.ak) (h_r:s'.bH=s.bH) (h_a:s'.bf=s.bf) (h_w:s'.most=s.most) (h_O:gU s'=gU s):bJ (fun s'=>(fun s:fH=>swp (gU s) s.bH s.eY s.bf s.most s.level (s.sums,s.levels,s.some) (s.l.drop s.k.toNat)) s'=(fun s:fH=>swp (gU s) s.bH s.eY s.bf s.most s.level (s.sums,s.levels,s.some) (s.l.drop s.k.toNat)) s) (fun _ s'=>(fun s:fH=>swp (gU s) s.bH s.eY s.bf s.most s.level (s.sums,s.levels,s.some) (s.l.drop s.k.toNat)) s'=(fun s:fH=>swp (gU s) s.bH s.eY s.bf s.most s.level (s.sums,s.levels,s.some) (s.l.drop s.k.toNat)) s) (.next s'):=(ae4 s s' hI c1 ht hk h_m h_l h_v h_g h_c h_r h_a h_w h_O).2
theorem aui (s:fH) (hI:nK s):bJ (fun s'=>nK s'∧vN s'<vN s) (fun x s'=>acZ x s s') (aaL s):=by
 unfold aaL Qz
 dsimp only [T.rd,T.rl]
 refine au (fun c1=>?_) (fun c1=>?_)
 ·refine au (fun c2=>?_) (fun c2=>?_)
  ·have c1:s.k<s.m:=by simpa using c1
   have hn:¬(s.levels.getD (gi s.l s.k).toNat 0=s.level-1∧s.level≤yh s.eY (gi s.l s.k) (gi s.most (gi s.l s.k))):=fun h=>by
    obtain ⟨_,⟨h2,h3,h4,h5⟩,_⟩:=hI
    have c2:((s.levels.getD (gi s.l s.k).toNat 0) !=(IntKind.i64.wrap (s.level-1)))=true:=c2
    rw [aK (x:=s.level-1) (by omega) (by omega)] at c2
    have c2:¬s.levels.getD (gi s.l s.k).toNat 0=s.level-1:=by simpa using c2
    exact c2 h.1
   exact FC s _ hI (by simpa using c1) (by unfold CJ;rw [if_neg hn]) rfl rfl rfl rfl rfl rfl rfl rfl rfl rfl
  ·refine au (fun c3=>?_) (fun c3=>?_)
   ·have c1:s.k<s.m:=by simpa using c1
    have hn:¬(s.levels.getD (gi s.l s.k).toNat 0=s.level-1∧s.level≤yh s.eY (gi s.l s.k) (gi s.most (gi s.l s.k))):=fun h=>by
     obtain ⟨_,_,h6,_⟩:=hI
     simp only [decide_eq_true_eq] at c3
     rw [←h6] at c3
     have:=h.2
     unfold yh at this
     omega
    exact FC s _ hI (by simpa using c1) (by unfold CJ;rw [if_neg hn]) rfl rfl rfl rfl rfl rfl rfl rfl rfl rfl
   ·refine au (fun c4=>?_) (fun c4=>?_)
    ·refine au (fun c5=>?_) (fun c5=>?_)
     ·refine au (fun c6=>?_) (fun c6=>?_)
      ·cases c6
      ·have c1:s.k<s.m:=by simpa using c1
       have c2:=sD hI c2
       have hp:s.levels.getD (gi s.l s.k).toNat 0=s.level-1∧s.level≤yh s.eY (gi s.l s.k) (gi s.most (gi s.l s.k)):=by
        refine ⟨c2,?_⟩
        have h6:=hI.2.2.1
        simp only [decide_eq_false_iff_not] at c3
        rw [←h6] at c3
        unfold yh
        omega
       have hE:=tH hI c1 c2
       obtain ⟨m1,m2,_⟩:=kL hI c1 c2
       rcases rC _ hE with ⟨q1,q2⟩ |⟨q1,q2,q3⟩
       ·rw [q1] at c4
        cases c4
       ·rw [m1] at q3
        have q3:((gU s).getD (gi s.l s.k).toNat []).all (zZ s.bH s.sums (Kz s.eY s.bf (gi s.l s.k) s.level))=false:=q3
        exact FC s _ hI (by simpa using c1) (by unfold CJ;rw [if_pos hp,if_neg (by rw [q3];simp)]) rfl rfl rfl rfl rfl rfl rfl rfl rfl rfl
     ·refine au (fun c6=>?_) (fun c6=>?_)
      ·have c1:s.k<s.m:=by simpa using c1
       have c2:=sD hI c2
       have hp:s.levels.getD (gi s.l s.k).toNat 0=s.level-1∧s.level≤yh s.eY (gi s.l s.k) (gi s.most (gi s.l s.k)):=by
        refine ⟨c2,?_⟩
        have h6:=hI.2.2.1
        simp only [decide_eq_false_iff_not] at c3
        rw [←h6] at c3
        unfold yh
        omega
       have hE:=tH hI c1 c2
       obtain ⟨m1,m2,_⟩:=kL hI c1 c2
       rcases rC _ hE with ⟨q1,q2⟩ |⟨q1,q2,q3⟩
       ·rw [q1] at c4
        cases c4
       ·rw [q2] at c5
        cases c5
      ·have c1:s.k<s.m:=by simpa using c1
       have c2:=sD hI c2
       have hp:s.levels.getD (gi s.l s.k).toNat 0=s.level-1∧s.level≤yh s.eY (gi s.l s.k) (gi s.most (gi s.l s.k)):=by
        refine ⟨c2,?_⟩
        have h6:=hI.2.2.1
        simp only [decide_eq_false_iff_not] at c3
        rw [←h6] at c3
        unfold yh
        omega
       have hE:=tH hI c1 c2
       obtain ⟨m1,m2,_⟩:=kL hI c1 c2
       rcases rC _ hE with ⟨q1,q2⟩ |⟨q1,q2,q3⟩
       ·rw [q1] at c4
        cases c4
       ·rw [q2] at c5
        cases c5
    ·refine au (fun c5=>?_) (fun c5=>?_)
     ·refine au (fun c6=>?_) (fun c6=>?_)
      ·cases c5
      ·cases c5
     ·refine au (fun c6=>?_) (fun c6=>?_)
      ·have c1:s.k<s.m:=by simpa using c1
       have c2:=sD hI c2
       have hp:s.levels.getD (gi s.l s.k).toNat 0=s.level-1∧s.level≤yh s.eY (gi s.l s.k) (gi s.most (gi s.l s.k)):=by
        refine ⟨c2,?_⟩
        have h6:=hI.2.2.1
        simp only [decide_eq_false_iff_not] at c3
        rw [←h6] at c3
        unfold yh
        omega
       have hE:=tH hI c1 c2
       obtain ⟨m1,m2,_⟩:=kL hI c1 c2
       have hR:=ND hI c1 c2
       rcases rC _ hE with ⟨q1,q2⟩ |⟨q1,q2,q3⟩
       ·rw [m1] at q2
        have q2:((gU s).getD (gi s.l s.k).toNat []).all (zZ s.bH s.sums (Kz s.eY s.bf (gi s.l s.k) s.level))=true:=q2
        have r1:=afh _ hR
        rw [m2] at r1
        have r1:(kH (lY s)).sums=yY s.sums (Kz s.eY s.bf (gi s.l s.k) s.level) ((gU s).getD (gi s.l s.k).toNat []):=r1
        have w1:=(Rj hI c2).1
        exact FC s _ hI (by simpa using c1) (by unfold CJ;rw [if_pos hp,if_pos q2,←r1,←w1]) rfl rfl rfl rfl rfl rfl rfl rfl rfl rfl
       ·rw [q1] at c4
        cases c4
      ·cases c6
 ·have c1:s.m≤s.k:=by simpa using c1
  have h0:=hI.1
  exact ⟨rfl,by omega⟩
def JB:bK fH:=⟨0,129,[2,3,4,12,14,15,16,66,67,68],[],aC1,aB0,fun v b=>⟨aQ (.int .i64) (v.getD 0 .junk),aQ (.int .i64) (v.getD 1 .junk),gI (v.getD 3 .junk),gI (v.getD 5 .junk),vg (v.getD 6 .junk),aQ (.int .i64) (v.getD 7 .junk),gI (v.getD 8 .junk),gI (v.getD 9 .junk),aQ dX (aX (aO b 0) 0),aQ .str (aX (aO b 0) 1),aQ dY (aX (aO b 0) 2),aQ dS (aX (aO b 0) 3),aQ dZ (aX (aO b 0) 4),aQ dX (aX (aO b 1) 0),aQ .str (aX (aO b 1) 1),aQ dY (aX (aO b 1) 2),aQ dS (aX (aO b 1) 3),aQ dZ (aX (aO b 1) 4),aQ zl (aX (aO b 1) 5),aQ (.int .i64) (aX (aO b 1) 6),aQ (.int .i64) (aX (aO b 1) 7),aQ (.int .i64) (aX (aO b 1) 8),aQ (.int .i64) (aX (aO b 1) 9),aQ (.int .i64) (aX (aO b 1) 10),aQ (.int .i64) (aX (aO b 1) 11),aQ (.int .i64) (aX (aO b 1) 12),aQ (.int .i64) (aX (aO b 1) 13),aQ (.int .i64) (aX (aO b 1) 14),aQ (.int .i64) (aX (aO b 1) 15),aQ (.int .i64) (aX (aO b 1) 16),aQ (.int .i64) (aX (aO b 1) 17),aQ (.int .i64) (aX (aO b 1) 18),aQ (.int .i64) (aX (aO b 1) 19),aQ (.int .i64) (aX (aO b 1) 20),aQ (.int .i64) (aX (aO b 1) 21),aQ (.int .i64) (aX (aO b 1) 23),iT (.int .i64) (aO b 2),iT (.int .i64) (aO b 3)⟩,Qz,fun s r=> {r with most:=s.most,order:=s.order,n:=s.n,level:=s.level,l:=s.l,m:=s.m,ah:=s.ah,aA:=s.aA,ai:=s.ai,ak:=s.ak,aJ:=s.aJ,yG:=s.yG,yE:=s.yE,yF:=s.yF,eY:=s.eY,yH:=s.yH,bH:=s.bH,jq:=s.jq,jo:=s.jo,jm:=s.jm,jl:=s.jl,jk:=s.jk,ji:=s.ji,jh:=s.jh,jg:=s.jg,jf:=s.jf,je:=s.je,dM:=s.dM,dL:=s.dL,dK:=s.dK,dJ:=s.dJ,dI:=s.dI,dH:=s.dH,bf:=s.bf},fun s=>s,fun _ s=>s,[.exit 2],Nb,nK,vN⟩
abbrev eU:=JB.run
abbrev apn:=JB.jJ
abbrev axX:=JB.q
set_option maxRecDepth 100000 in
set_option maxHeartbeats 4000000 in
theorem auC (s:fH) (hI:nK s):(Qz s).all (fun _=>True):=by
 refine ⟨fun c1=>⟨?_,?_,?_,fun c2=>⟨⟨rfl,rfl⟩,⟨rfl,rfl⟩,trivial⟩,fun c2=>⟨?_,?_,?_,fun c3=>⟨⟨rfl,rfl⟩,⟨rfl,rfl⟩,trivial⟩,fun c3=>⟨?_,?_,?_,?_,?_,?_,?_,?_,⟨rfl,rfl⟩,⟨rfl,rfl⟩,?_,fun c4=>⟨fun c5=>⟨fun c6=>⟨⟨rfl,rfl⟩,⟨rfl,rfl⟩,trivial⟩,fun c6=>⟨⟨rfl,rfl⟩,⟨rfl,rfl⟩,trivial⟩⟩,fun c5=>⟨?_,⟨rfl,rfl⟩,⟨rfl,rfl⟩,?_,?_,?_,fun c7=>⟨⟨rfl,rfl⟩,?_,trivial⟩,fun c7=>⟨⟨rfl,rfl⟩,?_,trivial⟩⟩⟩,fun c4=>⟨fun c8=>⟨fun c9=>⟨⟨rfl,rfl⟩,⟨rfl,rfl⟩,trivial⟩,fun c9=>⟨⟨rfl,rfl⟩,⟨rfl,rfl⟩,trivial⟩⟩,fun c8=>⟨?_,⟨rfl,rfl⟩,⟨rfl,rfl⟩,?_,?_,?_,fun c10=>⟨⟨rfl,rfl⟩,?_,trivial⟩,fun c10=>⟨⟨rfl,rfl⟩,?_,trivial⟩⟩⟩⟩⟩⟩,fun c1=>⟨⟨rfl,rfl⟩,⟨rfl,rfl⟩,trivial⟩⟩
 ·(have:=hI.1;have:=hI.2.1.1;simp only [decide_eq_true_eq] at c1;omega)
 iterate 9 · (have hx:=uJ s hI (by simpa using c1);omega)
 ·(have hx:=uJ s hI (by simpa using c1);obtain ⟨w1,w2⟩:=Rj hI (sD hI c2);have hh:=fG.1 (hI.2.2.2.1.has _ hx.1);have hb:=hI.2.1;(first|rw [w2] |rw [w1]);omega)
 ·(have hx:=uJ s hI (by simpa using c1);omega)
 ·(have hx:=uJ s hI (by simpa using c1);obtain ⟨w1,w2⟩:=Rj hI (sD hI c2);have hh:=fG.1 (hI.2.2.2.1.has _ hx.1);have hb:=hI.2.1;(first|rw [w2] |rw [w1]);omega)
 ·(have hx:=uJ s hI (by simpa using c1);omega)
 ·exact ⟨tH hI (by simpa using c1) (sD hI c2),rfl,rfl⟩
 ·(have hx:=uJ s hI (by simpa using c1);omega)
 ·exact ⟨ND hI (by simpa using c1) (sD hI c2),rfl,rfl⟩
 iterate 2 · (have hx:=uJ s hI (by simpa using c1);omega)
 iterate 2 · exact ⟨rfl,by simp⟩
 ·(have hx:=uJ s hI (by simpa using c1);omega)
 ·exact ⟨ND hI (by simpa using c1) (sD hI c2),rfl,rfl⟩
 iterate 2 · (have hx:=uJ s hI (by simpa using c1);omega)
 iterate 2 · exact ⟨rfl,by simp⟩
noncomputable def aaE:Specs:=aZ [(24,lC),(61,qA),(94,qy),(96,qx)]
theorem aiC:∀g S,aaE g=some S→Valid Tryz.prog aP g S:=aS (l:=[(24,lC),(61,qA),(94,qy),(96,qx)]) ⟨yD,Gj,Gi,Gg,trivial⟩
noncomputable def ari:Hand:=inl Tryz.prog aP aaE (kE 97 4 8 (Qk.lp) (kE 93 7 2 (yA.lp) (kE 95 1 3 (wP.lp) (kE 93 1 2 (uT.lp) (lm Tryz.prog aP (aaE) 20 2))))) 9
theorem aAH:dD Tryz.prog aP ari:=bP aiC (dF Tryz.func97 rfl (by kernel_rfl) Vo (dF Tryz.func93 rfl (by kernel_rfl) Fz (dF Tryz.func95 rfl (by kernel_rfl) zo (dF Tryz.func93 rfl (by kernel_rfl) wQ (dR aiC))))) 9
theorem VT:JB.Ok:=⟨fun s=>by kernel_rfl,fun s=>by kernel_rfl,fun s=>rfl,fun s t r=>rfl,fun s=>rfl,fun s=>by kernel_rfl⟩
theorem VA:JB.Pf (acZ):=⟨azq,fun _ _=>rfl,aui,auC⟩
set_option maxRecDepth 100000 in
set_option maxHeartbeats 4000000 in
theorem alR:bg Tryz.prog aP (AN 0) (.loop Aq) JB.lp:=bK.snd VT VA (aT (Γ:=aaE) (K:=ari) (L:=aB) aiC aAH Aq (fun b hb=>by rw [show aC Aq=[] by kernel_rfl] at hb;cases hb)) (fun s=>by kernel_rfl)
theorem amO (s:fH) (hE:Nb s):∃s',nK s'∧acZ (apn s) s' (eU s):=bK.fin VT VA s hE
theorem ae5 (s:fH) (hE:Nb s):(fun s:fH=>swp (gU s) s.bH s.eY s.bf s.most s.level (s.sums,s.levels,s.some) (s.l.drop s.k.toNat)) (eU s)=(fun s:fH=>swp (gU s) s.bH s.eY s.bf s.most s.level (s.sums,s.levels,s.some) (s.l.drop s.k.toNat)) s:=by
 exact bK.uO VT VA (fun s:fH=>swp (gU s) s.bH s.eY s.bf s.most s.level (s.sums,s.levels,s.some) (s.l.drop s.k.toNat)) (fun s hI=>by
  show bJ _ _ (aaL s)
  unfold aaL Qz
  dsimp only [T.rd,T.rl]
  refine au (fun c1=>?_) (fun c1=>?_)
  ·refine au (fun c2=>?_) (fun c2=>?_)
   ·have c1:s.k<s.m:=by simpa using c1
    have hn:¬(s.levels.getD (gi s.l s.k).toNat 0=s.level-1∧s.level≤yh s.eY (gi s.l s.k) (gi s.most (gi s.l s.k))):=fun h=>by
     obtain ⟨_,⟨h2,h3,h4,h5⟩,_⟩:=hI
     have c2:((s.levels.getD (gi s.l s.k).toNat 0) !=(IntKind.i64.wrap (s.level-1)))=true:=c2
     rw [aK (x:=s.level-1) (by omega) (by omega)] at c2
     have c2:¬s.levels.getD (gi s.l s.k).toNat 0=s.level-1:=by simpa using c2
     exact c2 h.1
    exact FB s _ hI (by simpa using c1) (by unfold CJ;rw [if_neg hn]) rfl rfl rfl rfl rfl rfl rfl rfl rfl rfl
   ·refine au (fun c3=>?_) (fun c3=>?_)
    ·have c1:s.k<s.m:=by simpa using c1
     have hn:¬(s.levels.getD (gi s.l s.k).toNat 0=s.level-1∧s.level≤yh s.eY (gi s.l s.k) (gi s.most (gi s.l s.k))):=fun h=>by
      obtain ⟨_,_,h6,_⟩:=hI
      simp only [decide_eq_true_eq] at c3
      rw [←h6] at c3
      have:=h.2
      unfold yh at this
      omega
     exact FB s _ hI (by simpa using c1) (by unfold CJ;rw [if_neg hn]) rfl rfl rfl rfl rfl rfl rfl rfl rfl rfl
    ·refine au (fun c4=>?_) (fun c4=>?_)
     ·refine au (fun c5=>?_) (fun c5=>?_)
      ·refine au (fun c6=>?_) (fun c6=>?_)
       ·cases c6
       ·have c1:s.k<s.m:=by simpa using c1
        have c2:=sD hI c2
        have hp:s.levels.getD (gi s.l s.k).toNat 0=s.level-1∧s.level≤yh s.eY (gi s.l s.k) (gi s.most (gi s.l s.k)):=by
         refine ⟨c2,?_⟩
         have h6:=hI.2.2.1
         simp only [decide_eq_false_iff_not] at c3
         rw [←h6] at c3
         unfold yh
         omega
        have hE:=tH hI c1 c2
        obtain ⟨m1,m2,_⟩:=kL hI c1 c2
        rcases rC _ hE with ⟨q1,q2⟩ |⟨q1,q2,q3⟩
        ·rw [q1] at c4
         cases c4
        ·rw [m1] at q3
         have q3:((gU s).getD (gi s.l s.k).toNat []).all (zZ s.bH s.sums (Kz s.eY s.bf (gi s.l s.k) s.level))=false:=q3
         exact FB s _ hI (by simpa using c1) (by unfold CJ;rw [if_pos hp,if_neg (by rw [q3];simp)]) rfl rfl rfl rfl rfl rfl rfl rfl rfl rfl
      ·refine au (fun c6=>?_) (fun c6=>?_)
       ·have c1:s.k<s.m:=by simpa using c1
        have c2:=sD hI c2
        have hp:s.levels.getD (gi s.l s.k).toNat 0=s.level-1∧s.level≤yh s.eY (gi s.l s.k) (gi s.most (gi s.l s.k)):=by
         refine ⟨c2,?_⟩
         have h6:=hI.2.2.1
         simp only [decide_eq_false_iff_not] at c3
         rw [←h6] at c3
         unfold yh
         omega
        have hE:=tH hI c1 c2
        obtain ⟨m1,m2,_⟩:=kL hI c1 c2
        rcases rC _ hE with ⟨q1,q2⟩ |⟨q1,q2,q3⟩
        ·rw [q1] at c4
         cases c4
        ·rw [q2] at c5
         cases c5
       ·have c1:s.k<s.m:=by simpa using c1
        have c2:=sD hI c2
        have hp:s.levels.getD (gi s.l s.k).toNat 0=s.level-1∧s.level≤yh s.eY (gi s.l s.k) (gi s.most (gi s.l s.k)):=by
         refine ⟨c2,?_⟩
         have h6:=hI.2.2.1
         simp only [decide_eq_false_iff_not] at c3
         rw [←h6] at c3
         unfold yh
         omega
        have hE:=tH hI c1 c2
        obtain ⟨m1,m2,_⟩:=kL hI c1 c2
        rcases rC _ hE with ⟨q1,q2⟩ |⟨q1,q2,q3⟩
        ·rw [q1] at c4
         cases c4
        ·rw [q2] at c5
         cases c5
     ·refine au (fun c5=>?_) (fun c5=>?_)
      ·refine au (fun c6=>?_) (fun c6=>?_)
       ·cases c5
       ·cases c5
      ·refine au (fun c6=>?_) (fun c6=>?_)
       ·have c1:s.k<s.m:=by simpa using c1
        have c2:=sD hI c2
        have hp:s.levels.getD (gi s.l s.k).toNat 0=s.level-1∧s.level≤yh s.eY (gi s.l s.k) (gi s.most (gi s.l s.k)):=by
         refine ⟨c2,?_⟩
         have h6:=hI.2.2.1
         simp only [decide_eq_false_iff_not] at c3
         rw [←h6] at c3
         unfold yh
         omega
        have hE:=tH hI c1 c2
        obtain ⟨m1,m2,_⟩:=kL hI c1 c2
        have hR:=ND hI c1 c2
        rcases rC _ hE with ⟨q1,q2⟩ |⟨q1,q2,q3⟩
        ·rw [m1] at q2
         have q2:((gU s).getD (gi s.l s.k).toNat []).all (zZ s.bH s.sums (Kz s.eY s.bf (gi s.l s.k) s.level))=true:=q2
         have r1:=afh _ hR
         rw [m2] at r1
         have r1:(kH (lY s)).sums=yY s.sums (Kz s.eY s.bf (gi s.l s.k) s.level) ((gU s).getD (gi s.l s.k).toNat []):=r1
         have w1:=(Rj hI c2).1
         exact FB s _ hI (by simpa using c1) (by unfold CJ;rw [if_pos hp,if_pos q2,←r1,←w1]) rfl rfl rfl rfl rfl rfl rfl rfl rfl rfl
        ·rw [q1] at c4
         cases c4
       ·cases c6
  ·rfl) s hE
theorem amN (s:fH) (hE:Nb s):((eU s).sums,(eU s).levels,(eU s).some)=swp (gU s) s.bH s.eY s.bf s.most s.level (s.sums,s.levels,s.some) s.l:=by
 have q3:=ae5 s hE
 obtain ⟨s',hI,q1,q2⟩:=amO s hE
 obtain ⟨h0,h1,_⟩:=hE
 simp only at q3
 rw [q2,show (eU s).m=s.m from rfl,show (eU s).l=s.l from rfl,List.drop_eq_nil_of_le (by omega),h0] at q3
 exact q3
end Go.Proofs.YtlihnbimgclogaaGreatDoor
namespace Go.Proofs.YtlihnbimgclogaaGreatDoor
open Go.Sx
structure lK where
 most:List Int
 order:List Int
 n:Int
 level:Int
 ah:List Cd
 aA:List ByteArray
 ai:List Ko
 ak:List Ch
 aJ:List Ba
 yG:List Cd
 yE:List ByteArray
 yF:List Ko
 eY:List Ch
 yH:List Ba
 bH:List Rw
 jq:List Int
 jo:List Int
 jm:List Int
 jl:List Int
 jk:List Int
 ji:List Int
 jh:List Int
 jg:List Int
 jf:List Int
 je:List Int
 dM:List Int
 dL:List Int
 dK:List Int
 dJ:List Int
 dI:List Int
 dH:List Int
 bf:List Int
 sums:List Int
 levels:List Int
def aC0 (s:lK):List LV:=[.xl (.int .i64) s.most,.xl (.int .i64) s.order,.own 0 0,.v (.int .i64 s.n),.own 1 0,.v (.int .i64 s.level)]
def aBZ (s:lK):List aU:=[⟨[.xl dX s.ah,.xl .str s.aA,.xl dY s.ai,.xl dS s.ak,.xl dZ s.aJ],28,.cl,false⟩,⟨[.xl dX s.yG,.xl .str s.yE,.xl dY s.yF,.xl dS s.eY,.xl dZ s.yH,.xl zl s.bH,.xl (.int .i64) s.jq,.xl (.int .i64) s.jo,.xl (.int .i64) s.jm,.xl (.int .i64) s.jl,.xl (.int .i64) s.jk,.xl (.int .i64) s.ji,.xl (.int .i64) s.jh,.xl (.int .i64) s.jg,.xl (.int .i64) s.jf,.xl (.int .i64) s.je,.xl (.int .i64) s.dM,.xl (.int .i64) s.dL,.xl (.int .i64) s.dK,.xl (.int .i64) s.dJ,.xl (.int .i64) s.dI,.xl (.int .i64) s.dH,.os 2 1 0 (List.length s.sums),.xl (.int .i64) s.bf,.os 3 1 0 (List.length s.levels)],148,.cl,false⟩,⟨[],3,.vec (.int .i64) s.sums,false⟩,⟨[],3,.vec (.int .i64) s.levels,false⟩]
noncomputable def II:Code:=((aC (Tryz.f52.body.getD .skip))[0]?).getD .skip
def gm (s:lK):fH:=(⟨s.most,s.order,s.n,s.level,false,s.order,(List.length s.order:Int),(0:Int),s.ah,s.aA,s.ai,s.ak,s.aJ,s.yG,s.yE,s.yF,s.eY,s.yH,s.bH,s.jq,s.jo,s.jm,s.jl,s.jk,s.ji,s.jh,s.jg,s.jf,s.je,s.dM,s.dL,s.dK,s.dJ,s.dI,s.dH,s.bf,s.sums,s.levels⟩:fH)
def Qy (s:lK):T (Rd lK):=
 .rl s.sums (.rl s.levels (.req (axX (gm s)) (.br (!(eU (gm s)).some) (.rl (eU (gm s)).sums (.rl (eU (gm s)).levels (.ok (.stop (.exit 0) {s with sums:=(eU (gm s)).sums,levels:=(eU (gm s)).levels})))) (.rl (eU (gm s)).sums (.rl (eU (gm s)).levels (.ok (.next {s with level:=(IntKind.i64.wrap (s.level+1)),sums:=(eU (gm s)).sums,levels:=(eU (gm s)).levels})))))))
abbrev aaK (s:lK):=(Qy s).rd s
def sU (s:lK):List (List Int):=[s.jq,s.jo,s.jm,s.jl,s.jk,s.ji,s.jh,s.jg,s.jf,s.je,s.dM,s.dL,s.dK,s.dJ,s.dI,s.dH]
def ac7 (s:lK):Prop:=s.level=1∧(s.order.length:Int)≤1000∧s.eY=s.ak∧OkT (sU s) s.bH s.eY s.bf s.most s.order∧OkS s.bH s.order s.sums s.levels
def Jf (s:lK):Prop:=(1≤s.level∧s.level≤81)∧(s.order.length:Int)≤1000∧s.eY=s.ak∧OkT (sU s) s.bH s.eY s.bf s.most s.order∧OkS s.bH s.order s.sums s.levels
def NZ (s:lK):Nat:=(82-s.level).toNat
def asF (x:Ex) (_ _:lK):Prop:=x=.exit 0
theorem azp:∀s,ac7 s→Jf s:=by
 intro s h
 obtain ⟨h0,h1⟩:=h
 exact ⟨by omega,h1⟩
theorem ae2 (s:lK) (hI:Jf s):Nb (gm s):=by
 obtain ⟨⟨h0,h1⟩,h2,h3,hT,hS⟩:=hI
 exact ⟨rfl,⟨rfl,h2,h0,h1⟩,h3,hT,hS⟩
theorem aqA (s:lK) (hI:Jf s):((eU (gm s)).sums,(eU (gm s)).levels,(eU (gm s)).some)=swp (sU s) s.bH s.eY s.bf s.most s.level (s.sums,s.levels,false) s.order:=amN _ (ae2 s hI)
theorem auh (s:lK) (hI:Jf s):bJ (fun s'=>Jf s'∧NZ s'<NZ s) (fun x s'=>asF x s s') (aaK s):=by
 unfold aaK Qy
 dsimp only [T.rd,T.rl]
 have hr:=aqA s hI
 obtain ⟨⟨h0,h1⟩,h2,h3,hT,hS⟩:=hI
 refine au (fun c1=>rfl) (fun c1=>?_)
 have c1:(eU (gm s)).some=true:=by simpa using c1
 have hk:=Vl hT h0 h1 s.order (s.sums,s.levels,false) (fun _ h=>h) hS
 have hs:=zn (O:=sU s) (rows:=s.bH) (gs:=s.eY) (alive:=s.bf) (most:=s.most) (level:=s.level) s.order (s.sums,s.levels,false)
 rw [←hr] at hk hs
 have h80:s.level≤80:=by
  rcases hs c1 with h|h
  ·cases h
  ·exact h
 rw [aK (x:=s.level+1) (by omega) (by omega)]
 exact ⟨⟨⟨by simp only;omega,by simp only;omega⟩,h2,h3,hT,hk⟩,by simp only [NZ];omega⟩
def JA:bK lK:=⟨0,129,[2,3,4,12,14,15],[.ps 14 6 (.int .i64),.ps 14 7 (.int .i64),.ps 14 8 (.int .i64),.ps 14 9 (.int .i64),.ps 14 10 (.int .i64),.ps 14 11 (.int .i64),.ps 14 12 (.int .i64),.ps 14 13 (.int .i64),.ps 14 14 (.int .i64),.ps 14 15 (.int .i64),.ps 14 16 (.int .i64),.ps 14 17 (.int .i64),.ps 14 18 (.int .i64),.ps 14 19 (.int .i64),.ps 14 20 (.int .i64),.ps 14 21 (.int .i64)],aC0,aBZ,fun v b=>⟨aQ (.int .i64) (v.getD 0 .junk),aQ (.int .i64) (v.getD 1 .junk),gI (v.getD 3 .junk),gI (v.getD 5 .junk),aQ dX (aX (aO b 0) 0),aQ .str (aX (aO b 0) 1),aQ dY (aX (aO b 0) 2),aQ dS (aX (aO b 0) 3),aQ dZ (aX (aO b 0) 4),aQ dX (aX (aO b 1) 0),aQ .str (aX (aO b 1) 1),aQ dY (aX (aO b 1) 2),aQ dS (aX (aO b 1) 3),aQ dZ (aX (aO b 1) 4),aQ zl (aX (aO b 1) 5),aQ (.int .i64) (aX (aO b 1) 6),aQ (.int .i64) (aX (aO b 1) 7),aQ (.int .i64) (aX (aO b 1) 8),aQ (.int .i64) (aX (aO b 1) 9),aQ (.int .i64) (aX (aO b 1) 10),aQ (.int .i64) (aX (aO b 1) 11),aQ (.int .i64) (aX (aO b 1) 12),aQ (.int .i64) (aX (aO b 1) 13),aQ (.int .i64) (aX (aO b 1) 14),aQ (.int .i64) (aX (aO b 1) 15),aQ (.int .i64) (aX (aO b 1) 16),aQ (.int .i64) (aX (aO b 1) 17),aQ (.int .i64) (aX (aO b 1) 18),aQ (.int .i64) (aX (aO b 1) 19),aQ (.int .i64) (aX (aO b 1) 20),aQ (.int .i64) (aX (aO b 1) 21),aQ (.int .i64) (aX (aO b 1) 23),iT (.int .i64) (aO b 2),iT (.int .i64) (aO b 3)⟩,Qy,fun s r=> {r with most:=s.most,order:=s.order,n:=s.n,ah:=s.ah,aA:=s.aA,ai:=s.ai,ak:=s.ak,aJ:=s.aJ,yG:=s.yG,yE:=s.yE,yF:=s.yF,eY:=s.eY,yH:=s.yH,bH:=s.bH,jq:=s.jq,jo:=s.jo,jm:=s.jm,jl:=s.jl,jk:=s.jk,ji:=s.ji,jh:=s.jh,jg:=s.jg,jf:=s.jf,je:=s.je,dM:=s.dM,dL:=s.dL,dK:=s.dK,dJ:=s.dJ,dI:=s.dI,dH:=s.dH,bf:=s.bf},fun s=>s,fun _ s=>s,[.exit 0],ac7,Jf,NZ⟩
abbrev iK:=JA.run
abbrev Qi:=JA.q
theorem auB (s:lK) (hI:Jf s):(Qy s).all (fun _=>True):=by
 refine ⟨⟨rfl,rfl⟩,⟨rfl,rfl⟩,?_,fun c1=>⟨⟨rfl,rfl⟩,⟨rfl,rfl⟩,trivial⟩,fun c1=>⟨⟨rfl,rfl⟩,⟨rfl,rfl⟩,trivial⟩⟩
 ·exact ⟨ae2 s hI,rfl,rfl⟩
noncomputable def SX:Specs:=aZ [(24,lC),(61,qA),(94,qy),(96,qx)]
theorem aaA:∀g S,SX g=some S→Valid Tryz.prog aP g S:=aS (l:=[(24,lC),(61,qA),(94,qy),(96,qx)]) ⟨yD,Gj,Gi,Gg,trivial⟩
noncomputable def aiq:Hand:=inl Tryz.prog aP SX (kE 97 4 8 (Qk.lp) (kE 93 7 2 (yA.lp) (kE 95 1 3 (wP.lp) (kE 93 1 2 (uT.lp) (lm Tryz.prog aP (SX) 20 2))))) 9
theorem aq3:dD Tryz.prog aP aiq:=bP aaA (dF Tryz.func97 rfl (by kernel_rfl) Vo (dF Tryz.func93 rfl (by kernel_rfl) Fz (dF Tryz.func95 rfl (by kernel_rfl) zo (dF Tryz.func93 rfl (by kernel_rfl) wQ (dR aaA))))) 9
theorem agJ:JA.Ok:=⟨fun s=>by kernel_rfl,fun s=>by kernel_rfl,fun s=>rfl,fun s t r=>rfl,fun s=>rfl,fun s=>by kernel_rfl⟩
theorem afA:JA.Pf (asF):=⟨azp,fun _ _=>rfl,auh,auB⟩
theorem alQ:bg Tryz.prog aP (AN 0) (.loop II) JA.lp:=bK.snd agJ afA (aT (Γ:=SX) (K:=aiq) (L:=(fun i=>if i=13 then JB.lp else aB i)) aaA aq3 II (fun b hb=>by
 rw [show aC _=[Aq] by kernel_rfl] at hb
 simp only [List.mem_cons,List.not_mem_nil,or_false] at hb
 subst hb
 exact alR)) (fun s=>by kernel_rfl)
theorem amM (s:lK) (hE:ac7 s):(iK s).levels=shl (sU s) s.bH s.eY s.bf s.most s.order 81 1 s.sums s.levels:=by
 have hk:=bK.uy agJ afA (V:=fun s:lK=>shl (sU s) s.bH s.eY s.bf s.most s.order (82-s.level).toNat s.level s.sums s.levels) (K:=fun _ s' v=>s'.levels=v) (fun s hI=>by
  have hr:=aqA s hI
  have hs:=zn (O:=sU s) (rows:=s.bH) (gs:=s.eY) (alive:=s.bf) (most:=s.most) (level:=s.level) s.order (s.sums,s.levels,false)
  obtain ⟨⟨h0,h1⟩,h2,h3,hT,hS⟩:=hI
  rw [←hr] at hs
  have hf:(82-s.level).toNat=(81-s.level).toNat+1:=by omega
  show bJ _ _ (aaK s)
  unfold aaK Qy
  dsimp only [T.rd,T.rl]
  refine au (fun c1=>?_) (fun c1=>?_)
  ·have c1:(eU (gm s)).some=false:=by simpa using c1
   show (eU (gm s)).levels=shl _ _ _ _ _ _ _ _ _ _
   rw [hf,shl,←hr,if_neg (by simp only [c1];simp)]
  ·have c1:(eU (gm s)).some=true:=by simpa using c1
   have h80:s.level≤80:=by
    rcases hs c1 with h|h
    ·cases h
    ·exact h
   rw [aK (x:=s.level+1) (by omega) (by omega)]
   show shl (sU s) s.bH s.eY s.bf s.most s.order (82-(s.level+1)).toNat (s.level+1) (eU (gm s)).sums (eU (gm s)).levels=shl (sU s) s.bH s.eY s.bf s.most s.order (82-s.level).toNat s.level s.sums s.levels
   rw [hf,show 82-(s.level+1)=81-s.level by omega]
   conv=>rhs;rw [shl,←hr]
   simp only [c1,if_true]) s hE
 rw [hk,hE.1]
 rfl
structure qB where
 l:List Ch
 m:Int
 k:Int
 yG:List Cd
 yE:List ByteArray
 yF:List Ko
 eY:List Ch
 yH:List Ba
 bH:List Rw
 jq:List Int
 jo:List Int
 jm:List Int
 jl:List Int
 jk:List Int
 ji:List Int
 jh:List Int
 jg:List Int
 jf:List Int
 je:List Int
 dM:List Int
 dL:List Int
 dK:List Int
 dJ:List Int
 dI:List Int
 dH:List Int
 bf:List Int
 out:List Int
 sums:List Int
 levels:List Int
def aCZ (s:qB):List LV:=[.own 0 0,.os 1 1 0 (List.length s.out),.xl dS s.l,.v (.int .i64 s.m),.v (.int .i64 s.k)]
def aBY (s:qB):List aU:=[⟨[.xl dX s.yG,.xl .str s.yE,.xl dY s.yF,.xl dS s.eY,.xl dZ s.yH,.xl zl s.bH,.xl (.int .i64) s.jq,.xl (.int .i64) s.jo,.xl (.int .i64) s.jm,.xl (.int .i64) s.jl,.xl (.int .i64) s.jk,.xl (.int .i64) s.ji,.xl (.int .i64) s.jh,.xl (.int .i64) s.jg,.xl (.int .i64) s.jf,.xl (.int .i64) s.je,.xl (.int .i64) s.dM,.xl (.int .i64) s.dL,.xl (.int .i64) s.dK,.xl (.int .i64) s.dJ,.xl (.int .i64) s.dI,.xl (.int .i64) s.dH,.os 2 1 0 (List.length s.sums),.xl (.int .i64) s.bf,.os 3 1 0 (List.length s.levels)],148,.cl,false⟩,⟨[],3,.vec (.int .i64) s.out,false⟩,⟨[],3,.vec (.int .i64) s.sums,false⟩,⟨[],3,.vec (.int .i64) s.levels,false⟩]
noncomputable def Ap:Code:=((aC (Tryz.f52.body.getD .skip))[1]?).getD .skip
def YR (s:qB):T (Rd qB):=
 .br (decide (s.k<s.m)) (.req (0≤s.k∧s.k<(List.length s.l:Int)) (.req (0≤s.k∧s.k<((List.length s.levels:Nat):Int)) (.req (s.k.toNat<List.length s.levels) (.req ((1≤(bC s.l s.k).2.2.2.1∧(bC s.l s.k).2.2.2.1≤80∧1≤(bC s.l s.k).2.2.2.2.2.1∧(bC s.l s.k).2.2.2.2.2.1≤80)∧0≤(s.levels.getD s.k.toNat (Ty.dflt (.int .i64)))∧(s.levels.getD s.k.toNat (Ty.dflt (.int .i64)))≤1000) (.req (0≤s.k∧s.k<((List.length s.out:Nat):Int)) (.req (s.k.toNat<List.length s.out) (.req (0=0∧(List.length s.out)=List.length (s.out.set s.k.toNat (Cf (bC s.l s.k).2.2.2.1 (bC s.l s.k).2.2.2.2.2.1 (s.levels.getD s.k.toNat (Ty.dflt (.int .i64)))))) (.rl s.sums (.rl s.levels (.ok (.next {s with k:=(IntKind.i64.wrap (s.k+1)),out:=(s.out.set s.k.toNat (Cf (bC s.l s.k).2.2.2.1 (bC s.l s.k).2.2.2.2.2.1 (s.levels.getD s.k.toNat (Ty.dflt (.int .i64)))))}))))))))))) (.rl s.out (.rl s.sums (.rl s.levels (.ok (.stop (.exit 4) s)))))
abbrev ar0 (s:qB):=(YR s).rd s
def ac6 (s:qB):Prop:=s.k=0∧s.out=List.replicate s.l.length 0∧(s.m=(s.l.length:Int)∧s.m≤1000∧s.levels.length=s.l.length)∧(∀k:Int,0≤k→k<s.m→mJ (bC s.l k).2.2.2.1 (bC s.l k).2.2.2.2.1 (bC s.l k).2.2.2.2.2.1=true)∧(∀k:Nat,0≤s.levels.getD k 0∧s.levels.getD k 0≤80)
def LG (s:qB):Prop:=(0≤s.k∧s.k≤s.m)∧s.out=Xw s.l s.levels s.k.toNat++List.replicate (s.l.length-s.k.toNat) 0∧(s.m=(s.l.length:Int)∧s.m≤1000∧s.levels.length=s.l.length)∧(∀k:Int,0≤k→k<s.m→mJ (bC s.l k).2.2.2.1 (bC s.l k).2.2.2.2.1 (bC s.l k).2.2.2.2.2.1=true)∧(∀k:Nat,0≤s.levels.getD k 0∧s.levels.getD k 0≤80)
def NY (s:qB):Nat:=(s.m-s.k).toNat
def ake (x:Ex) (_ s':qB):Prop:=x=.exit 4∧s'.out=o8 s'.l s'.levels
theorem azo:∀s,ac6 s→LG s:=by
 intro s h
 obtain ⟨h0,h1,h2⟩:=h
 exact ⟨by have:=h2.1;omega,by rw [h0,h1];rfl,h2⟩
theorem aug (s:qB) (hI:LG s):bJ (fun s'=>LG s'∧NY s'<NY s) (fun x s'=>ake x s s') (ar0 s):=by
 unfold ar0 YR
 dsimp only [T.rd,T.rl]
 obtain ⟨⟨h0,h1⟩,h2,⟨h3,h4,h5⟩,h6,h7⟩:=hI
 refine au (fun c1=>?_) (fun c1=>?_)
 ·have c1:s.k<s.m:=by simpa using c1
  rw [aK (x:=s.k+1) (by omega) (by omega)]
  refine ⟨⟨⟨by simp only;omega,by simp only;omega⟩,?_,⟨h3,h4,h5⟩,h6,h7⟩,by simp only [NY];omega⟩
  simp only
  have e:s.l.length-s.k.toNat=(s.l.length-(s.k+1).toNat)+1:=by omega
  have hs:=Zu (xs:=Xw s.l s.levels s.k.toNat) (r:=s.l.length-(s.k+1).toNat) (v:=xO s.l s.k (s.levels.getD s.k.toNat 0))
  rw [wE] at hs
  rw [h2,e,show (s.k+1).toNat=s.k.toNat+1 by omega,aef,Int.toNat_of_nonneg h0]
  rw [show (s.k+1).toNat=s.k.toNat+1 by omega] at hs
  exact hs
 ·have c1:s.m≤s.k:=by simpa using c1
  refine ⟨rfl,?_⟩
  rw [h2,show s.k.toNat=s.l.length by omega,Nat.sub_self,List.replicate_zero,List.append_nil]
  rfl
def Eg:bK qB:=⟨0,129,[14,19,108,109,110],[],aCZ,aBY,fun v b=>⟨aQ dS (v.getD 2 .junk),gI (v.getD 3 .junk),gI (v.getD 4 .junk),aQ dX (aX (aO b 0) 0),aQ .str (aX (aO b 0) 1),aQ dY (aX (aO b 0) 2),aQ dS (aX (aO b 0) 3),aQ dZ (aX (aO b 0) 4),aQ zl (aX (aO b 0) 5),aQ (.int .i64) (aX (aO b 0) 6),aQ (.int .i64) (aX (aO b 0) 7),aQ (.int .i64) (aX (aO b 0) 8),aQ (.int .i64) (aX (aO b 0) 9),aQ (.int .i64) (aX (aO b 0) 10),aQ (.int .i64) (aX (aO b 0) 11),aQ (.int .i64) (aX (aO b 0) 12),aQ (.int .i64) (aX (aO b 0) 13),aQ (.int .i64) (aX (aO b 0) 14),aQ (.int .i64) (aX (aO b 0) 15),aQ (.int .i64) (aX (aO b 0) 16),aQ (.int .i64) (aX (aO b 0) 17),aQ (.int .i64) (aX (aO b 0) 18),aQ (.int .i64) (aX (aO b 0) 19),aQ (.int .i64) (aX (aO b 0) 20),aQ (.int .i64) (aX (aO b 0) 21),aQ (.int .i64) (aX (aO b 0) 23),iT (.int .i64) (aO b 1),iT (.int .i64) (aO b 2),iT (.int .i64) (aO b 3)⟩,YR,fun s r=> {r with l:=s.l,m:=s.m,yG:=s.yG,yE:=s.yE,yF:=s.yF,eY:=s.eY,yH:=s.yH,bH:=s.bH,jq:=s.jq,jo:=s.jo,jm:=s.jm,jl:=s.jl,jk:=s.jk,ji:=s.ji,jh:=s.jh,jg:=s.jg,jf:=s.jf,je:=s.je,dM:=s.dM,dL:=s.dL,dK:=s.dK,dJ:=s.dJ,dI:=s.dI,dH:=s.dH,bf:=s.bf,sums:=s.sums,levels:=s.levels},fun s=>s,fun _ s=>s,[.exit 4],ac6,LG,NY⟩
abbrev gY:=Eg.run
abbrev apm:=Eg.jJ
abbrev Qh:=Eg.q
theorem auA (s:qB) (hI:LG s):(YR s).all (fun _=>True):=by
 refine ⟨fun c1=>⟨?_,?_,?_,?_,?_,?_,?_,⟨rfl,rfl⟩,⟨rfl,rfl⟩,trivial⟩,fun c1=>⟨⟨rfl,rfl⟩,⟨rfl,rfl⟩,⟨rfl,rfl⟩,trivial⟩⟩
 iterate 3 · (obtain ⟨⟨h0,h1⟩,h2,⟨h3,h4,h5⟩,h6,h7⟩:=hI;(try simp only [decide_eq_true_eq] at c1);have hl:s.out.length=s.l.length:=(by rw [h2,List.length_append,wE,List.length_replicate];omega);first|omega|exact ⟨rfl,by simp⟩ |exact ⟨rfl,rfl⟩)
 ·(have hh:=fG.1 (hI.2.2.2.1 s.k hI.1.1 (by simpa using c1));have hb:=hI.2.2.2.2 s.k.toNat;refine ⟨by omega,?_⟩;show 0≤s.levels.getD s.k.toNat 0∧s.levels.getD s.k.toNat 0≤1000;omega)
 iterate 3 · (obtain ⟨⟨h0,h1⟩,h2,⟨h3,h4,h5⟩,h6,h7⟩:=hI;(try simp only [decide_eq_true_eq] at c1);have hl:s.out.length=s.l.length:=(by rw [h2,List.length_append,wE,List.length_replicate];omega);first|omega|exact ⟨rfl,by simp⟩ |exact ⟨rfl,rfl⟩)
theorem agI:Eg.Ok:=⟨fun s=>by kernel_rfl,fun s=>by kernel_rfl,fun s=>rfl,fun s t r=>rfl,fun s=>rfl,fun s=>by kernel_rfl⟩
theorem afz:Eg.Pf (ake):=⟨azo,fun _ _=>rfl,aug,auA⟩
theorem alP:bg Tryz.prog aP (AN 0) (.loop Ap) Eg.lp:=bK.snd agI afz (aT (Γ:=SX) (K:=aiq) (L:=aB) aaA aq3 Ap (fun b hb=>by rw [show aC Ap=[] by kernel_rfl] at hb;cases hb)) (fun s=>by kernel_rfl)
theorem amK (s:qB) (hE:ac6 s):∃s',LG s'∧ake (apm s) s' (gY s):=bK.fin agI afz s hE
end Go.Proofs.YtlihnbimgclogaaGreatDoor
namespace Go.Proofs.YtlihnbimgclogaaGreatDoor
open Go.Sx
def abY:List LV→T LV
 | [.agg [.xl (.pair .str (.pair (.int .i64) (.pair (.int .i64) (.pair (.int .i64) (.pair (.pair (.int .i64) (.int .i64)) (.pair (.int .i64) (.pair (.int .i64) (.pair (.int .i64) (.pair (.int .i64) (.int .i64)))))))))) cs,.xl (.str) os,.xl (.pair .str (.pair (.int .i64) (.pair (.int .i64) (.int .i64)))) ks,.xl (.pair .str (.pair (.int .i64) (.pair (.int .i64) (.pair (.int .i64) (.pair (.int .i64) (.pair (.int .i64) (.pair (.int .i64) (.int .i64)))))))) gs,.xl (.pair .str (.int .i64)) bs],.xl (.int .i64) al,.xl (.int .i64) mo,.xl (.int .i64) od]=> .ok (.iF [.xl (.int .i64) (wS cs os ks gs bs al mo od),.v (.int .i64 (shE cs os ks gs bs al mo od))])
 |_=> .no
noncomputable def y5:List LV→T LV:=gB Tryz.prog Tryz.f52.params.toList abY
def ay (cs:List Cd) (os:List ByteArray) (ks:List Ko) (gs:List Ch) (bs:List Ba) (al _ _:List Int):gV:=(⟨al,(fQ cs os ks gs bs),(List.length (fQ cs os ks gs bs):Int),(0:Int),cs,os,ks,gs,bs,cs,os,ks,gs,bs,(fQ cs os ks gs bs),al,([]:List Int),([]:List Int),([]:List Int),([]:List Int),([]:List Int),([]:List Int),([]:List Int),([]:List Int),([]:List Int),([]:List Int),([]:List Int),([]:List Int),([]:List Int),([]:List Int),([]:List Int),([]:List Int),(List.replicate (List.length (fQ cs os ks gs bs):Int).toNat (0:Int)),(List.replicate (List.length al:Int).toNat (0:Int))⟩:gV)
def fA (cs:List Cd) (os:List ByteArray) (ks:List Ko) (gs:List Ch) (bs:List Ba) (al mo od:List Int):lK:=(⟨mo,od,(List.length gs:Int),(1:Int),cs,os,ks,gs,bs,cs,os,ks,gs,bs,(fQ cs os ks gs bs),(((ax (ay cs os ks gs bs al mo od)).jq.drop 0).take (List.length (ax (ay cs os ks gs bs al mo od)).jq)),(((ax (ay cs os ks gs bs al mo od)).jo.drop 0).take (List.length (ax (ay cs os ks gs bs al mo od)).jo)),(((ax (ay cs os ks gs bs al mo od)).jm.drop 0).take (List.length (ax (ay cs os ks gs bs al mo od)).jm)),(((ax (ay cs os ks gs bs al mo od)).jl.drop 0).take (List.length (ax (ay cs os ks gs bs al mo od)).jl)),(((ax (ay cs os ks gs bs al mo od)).jk.drop 0).take (List.length (ax (ay cs os ks gs bs al mo od)).jk)),(((ax (ay cs os ks gs bs al mo od)).ji.drop 0).take (List.length (ax (ay cs os ks gs bs al mo od)).ji)),(((ax (ay cs os ks gs bs al mo od)).jh.drop 0).take (List.length (ax (ay cs os ks gs bs al mo od)).jh)),(((ax (ay cs os ks gs bs al mo od)).jg.drop 0).take (List.length (ax (ay cs os ks gs bs al mo od)).jg)),(((ax (ay cs os ks gs bs al mo od)).jf.drop 0).take (List.length (ax (ay cs os ks gs bs al mo od)).jf)),(((ax (ay cs os ks gs bs al mo od)).je.drop 0).take (List.length (ax (ay cs os ks gs bs al mo od)).je)),(((ax (ay cs os ks gs bs al mo od)).dM.drop 0).take (List.length (ax (ay cs os ks gs bs al mo od)).dM)),(((ax (ay cs os ks gs bs al mo od)).dL.drop 0).take (List.length (ax (ay cs os ks gs bs al mo od)).dL)),(((ax (ay cs os ks gs bs al mo od)).dK.drop 0).take (List.length (ax (ay cs os ks gs bs al mo od)).dK)),(((ax (ay cs os ks gs bs al mo od)).dJ.drop 0).take (List.length (ax (ay cs os ks gs bs al mo od)).dJ)),(((ax (ay cs os ks gs bs al mo od)).dI.drop 0).take (List.length (ax (ay cs os ks gs bs al mo od)).dI)),(((ax (ay cs os ks gs bs al mo od)).dH.drop 0).take (List.length (ax (ay cs os ks gs bs al mo od)).dH)),al,(ax (ay cs os ks gs bs al mo od)).sums,(List.replicate (List.length al:Int).toNat (0:Int))⟩:lK)
def fK (cs:List Cd) (os:List ByteArray) (ks:List Ko) (gs:List Ch) (bs:List Ba) (al mo od:List Int):qB:=(⟨gs,(List.length gs:Int),(0:Int),cs,os,ks,gs,bs,(fQ cs os ks gs bs),(((ax (ay cs os ks gs bs al mo od)).jq.drop 0).take (List.length (ax (ay cs os ks gs bs al mo od)).jq)),(((ax (ay cs os ks gs bs al mo od)).jo.drop 0).take (List.length (ax (ay cs os ks gs bs al mo od)).jo)),(((ax (ay cs os ks gs bs al mo od)).jm.drop 0).take (List.length (ax (ay cs os ks gs bs al mo od)).jm)),(((ax (ay cs os ks gs bs al mo od)).jl.drop 0).take (List.length (ax (ay cs os ks gs bs al mo od)).jl)),(((ax (ay cs os ks gs bs al mo od)).jk.drop 0).take (List.length (ax (ay cs os ks gs bs al mo od)).jk)),(((ax (ay cs os ks gs bs al mo od)).ji.drop 0).take (List.length (ax (ay cs os ks gs bs al mo od)).ji)),(((ax (ay cs os ks gs bs al mo od)).jh.drop 0).take (List.length (ax (ay cs os ks gs bs al mo od)).jh)),(((ax (ay cs os ks gs bs al mo od)).jg.drop 0).take (List.length (ax (ay cs os ks gs bs al mo od)).jg)),(((ax (ay cs os ks gs bs al mo od)).jf.drop 0).take (List.length (ax (ay cs os ks gs bs al mo od)).jf)),(((ax (ay cs os ks gs bs al mo od)).je.drop 0).take (List.length (ax (ay cs os ks gs bs al mo od)).je)),(((ax (ay cs os ks gs bs al mo od)).dM.drop 0).take (List.length (ax (ay cs os ks gs bs al mo od)).dM)),(((ax (ay cs os ks gs bs al mo od)).dL.drop 0).take (List.length (ax (ay cs os ks gs bs al mo od)).dL)),(((ax (ay cs os ks gs bs al mo od)).dK.drop 0).take (List.length (ax (ay cs os ks gs bs al mo od)).dK)),(((ax (ay cs os ks gs bs al mo od)).dJ.drop 0).take (List.length (ax (ay cs os ks gs bs al mo od)).dJ)),(((ax (ay cs os ks gs bs al mo od)).dI.drop 0).take (List.length (ax (ay cs os ks gs bs al mo od)).dI)),(((ax (ay cs os ks gs bs al mo od)).dH.drop 0).take (List.length (ax (ay cs os ks gs bs al mo od)).dH)),al,(List.replicate (List.length gs:Int).toNat (0:Int)),(iK (fA cs os ks gs bs al mo od)).sums,(iK (fA cs os ks gs bs al mo od)).levels⟩:qB)
noncomputable def aaD:Specs:=aZ [(24,lC),(61,qA),(94,qy),(96,qx)]
theorem aiB:∀g S,aaD g=some S→Valid Tryz.prog aP g S:=aS (l:=[(24,lC),(61,qA),(94,qy),(96,qx)]) ⟨yD,Gj,Gi,Gg,trivial⟩
noncomputable def arh:Hand:=inl Tryz.prog aP aaD (kE 97 4 8 (Qk.lp) (kE 93 7 2 (yA.lp) (kE 95 1 3 (wP.lp) (kE 93 1 2 (uT.lp) (lm Tryz.prog aP (aaD) 20 2))))) 9
theorem aAG:dD Tryz.prog aP arh:=bP aiB (dF Tryz.func97 rfl (by kernel_rfl) Vo (dF Tryz.func93 rfl (by kernel_rfl) Fz (dF Tryz.func95 rfl (by kernel_rfl) zo (dF Tryz.func93 rfl (by kernel_rfl) wQ (dR aiB))))) 9
theorem anW (cs:List Cd) (os:List ByteArray) (ks:List Ko) (gs:List Ch) (bs:List Ba) (al mo od:List Int):bT Tryz.prog aP (aaD) arh (fun i=>if i=11 then JA.lp else if i=21 then Eg.lp else aB i) Tryz.f52 [.agg [.xl dX cs,.xl .str os,.xl dY ks,.xl dS gs,.xl dZ bs],.xl (.int .i64) al,.xl (.int .i64) mo,.xl (.int .i64) od]=.br ((vG cs os ks gs bs) !=0) (.ok (.iF [.xl (.int .i64) ([]:List Int),.v (.int .i64 1)])) (.br ((List.length al:Int) !=(List.length gs:Int)) (.ok (.iF [.xl (.int .i64) ([]:List Int),.v (.int .i64 1)])) (.br ((List.length mo:Int) !=(List.length gs:Int)) (.ok (.iF [.xl (.int .i64) ([]:List Int),.v (.int .i64 1)])) (.req (Yx (⟨false,al,(List.length al:Int),(0:Int),cs,os,ks,gs,bs⟩:jH)) (.br (iy (xJ (⟨false,al,(List.length al:Int),(0:Int),cs,os,ks,gs,bs⟩:jH)) (.ret)) (.br (!(tK (⟨false,al,(List.length al:Int),(0:Int),cs,os,ks,gs,bs⟩:jH)).r) (.ok (.iF [.xl (.int .i64) ([]:List Int),.v (.int .i64 1)])) (.req (Yx (⟨false,mo,(List.length mo:Int),(0:Int),cs,os,ks,gs,bs⟩:jH)) (.br (iy (xJ (⟨false,mo,(List.length mo:Int),(0:Int),cs,os,ks,gs,bs⟩:jH)) (.ret)) (.br (!(tK (⟨false,mo,(List.length mo:Int),(0:Int),cs,os,ks,gs,bs⟩:jH)).r) (.ok (.iF [.xl (.int .i64) ([]:List Int),.v (.int .i64 1)])) (.req ((List.length gs:Int)≤1000) (.br (!(mG od (List.length gs:Int))) (.ok (.iF [.xl (.int .i64) ([]:List Int),.v (.int .i64 1)])) (.req (0≤(List.length (fQ cs os ks gs bs):Int)∧(List.length (fQ cs os ks gs bs):Int)≤(List.length (fQ cs os ks gs bs):Int)∧8*(List.length (fQ cs os ks gs bs):Int)≤2^48∧(List.length (fQ cs os ks gs bs):Int)<2^63) (.req (0≤(List.length al:Int)∧(List.length al:Int)≤(List.length al:Int)∧8*(List.length al:Int)≤2^48∧(List.length al:Int)<2^63) (.req (0=0∧0=List.length ([]:List Int)) (.req (0=0∧0=List.length ([]:List Int)) (.req (0=0∧0=List.length ([]:List Int)) (.req (0=0∧0=List.length ([]:List Int)) (.req (0=0∧0=List.length ([]:List Int)) (.req (0=0∧0=List.length ([]:List Int)) (.req (0=0∧0=List.length ([]:List Int)) (.req (0=0∧0=List.length ([]:List Int)) (.req (0=0∧0=List.length ([]:List Int)) (.req (0=0∧0=List.length ([]:List Int)) (.req (0=0∧0=List.length ([]:List Int)) (.req (0=0∧0=List.length ([]:List Int)) (.req (0=0∧0=List.length ([]:List Int)) (.req (0=0∧0=List.length ([]:List Int)) (.req (0=0∧0=List.length ([]:List Int)) (.req (0=0∧0=List.length ([]:List Int)) (.req (0=0∧(List.length (fQ cs os ks gs bs):Int).toNat=List.length (List.replicate (List.length (fQ cs os ks gs bs):Int).toNat (0:Int))) (.req (0=0∧(List.length al:Int).toNat=List.length (List.replicate (List.length al:Int).toNat (0:Int))) (.req (Qj (ay cs os ks gs bs al mo od)) (.req (0+(List.length (ax (ay cs os ks gs bs al mo od)).jq)≤List.length (ax (ay cs os ks gs bs al mo od)).jq) (.req (0+(List.length (ax (ay cs os ks gs bs al mo od)).jo)≤List.length (ax (ay cs os ks gs bs al mo od)).jo) (.req (0+(List.length (ax (ay cs os ks gs bs al mo od)).jm)≤List.length (ax (ay cs os ks gs bs al mo od)).jm) (.req (0+(List.length (ax (ay cs os ks gs bs al mo od)).jl)≤List.length (ax (ay cs os ks gs bs al mo od)).jl) (.req (0+(List.length (ax (ay cs os ks gs bs al mo od)).jk)≤List.length (ax (ay cs os ks gs bs al mo od)).jk) (.req (0+(List.length (ax (ay cs os ks gs bs al mo od)).ji)≤List.length (ax (ay cs os ks gs bs al mo od)).ji) (.req (0+(List.length (ax (ay cs os ks gs bs al mo od)).jh)≤List.length (ax (ay cs os ks gs bs al mo od)).jh) (.req (0+(List.length (ax (ay cs os ks gs bs al mo od)).jg)≤List.length (ax (ay cs os ks gs bs al mo od)).jg) (.req (0+(List.length (ax (ay cs os ks gs bs al mo od)).jf)≤List.length (ax (ay cs os ks gs bs al mo od)).jf) (.req (0+(List.length (ax (ay cs os ks gs bs al mo od)).je)≤List.length (ax (ay cs os ks gs bs al mo od)).je) (.req (0+(List.length (ax (ay cs os ks gs bs al mo od)).dM)≤List.length (ax (ay cs os ks gs bs al mo od)).dM) (.req (0+(List.length (ax (ay cs os ks gs bs al mo od)).dL)≤List.length (ax (ay cs os ks gs bs al mo od)).dL) (.req (0+(List.length (ax (ay cs os ks gs bs al mo od)).dK)≤List.length (ax (ay cs os ks gs bs al mo od)).dK) (.req (0+(List.length (ax (ay cs os ks gs bs al mo od)).dJ)≤List.length (ax (ay cs os ks gs bs al mo od)).dJ) (.req (0+(List.length (ax (ay cs os ks gs bs al mo od)).dI)≤List.length (ax (ay cs os ks gs bs al mo od)).dI) (.req (0+(List.length (ax (ay cs os ks gs bs al mo od)).dH)≤List.length (ax (ay cs os ks gs bs al mo od)).dH) (.rl (ax (ay cs os ks gs bs al mo od)).sums (.rl (List.replicate (List.length al:Int).toNat (0:Int)) (.req (Qi (fA cs os ks gs bs al mo od)) (.req (0≤(List.length gs:Int)∧(List.length gs:Int)≤(List.length gs:Int)∧8*(List.length gs:Int)≤2^48∧(List.length gs:Int)<2^63) (.req (0=0∧(List.length gs:Int).toNat=List.length (List.replicate (List.length gs:Int).toNat (0:Int))) (.rl (iK (fA cs os ks gs bs al mo od)).sums (.rl (iK (fA cs os ks gs bs al mo od)).levels (.req (Qh (fK cs os ks gs bs al mo od)) (.req (0+(List.length (gY (fK cs os ks gs bs al mo od)).out)≤List.length (gY (fK cs os ks gs bs al mo od)).out) (.ok (.iF [.xl (.int .i64) (((gY (fK cs os ks gs bs al mo od)).out.drop 0).take (List.length (gY (fK cs os ks gs bs al mo od)).out)),.v (.int .i64 0)]))))))))))))))))))))))))))))))))))))))))))))))))))) (.br (!true) (.ok (.iF [.xl (.int .i64) ([]:List Int),.v (.int .i64 1)])) (.req ((List.length gs:Int)≤1000) (.br (!(mG od (List.length gs:Int))) (.ok (.iF [.xl (.int .i64) ([]:List Int),.v (.int .i64 1)])) (.req (0≤(List.length (fQ cs os ks gs bs):Int)∧(List.length (fQ cs os ks gs bs):Int)≤(List.length (fQ cs os ks gs bs):Int)∧8*(List.length (fQ cs os ks gs bs):Int)≤2^48∧(List.length (fQ cs os ks gs bs):Int)<2^63) (.req (0≤(List.length al:Int)∧(List.length al:Int)≤(List.length al:Int)∧8*(List.length al:Int)≤2^48∧(List.length al:Int)<2^63) (.req (0=0∧0=List.length ([]:List Int)) (.req (0=0∧0=List.length ([]:List Int)) (.req (0=0∧0=List.length ([]:List Int)) (.req (0=0∧0=List.length ([]:List Int)) (.req (0=0∧0=List.length ([]:List Int)) (.req (0=0∧0=List.length ([]:List Int)) (.req (0=0∧0=List.length ([]:List Int)) (.req (0=0∧0=List.length ([]:List Int)) (.req (0=0∧0=List.length ([]:List Int)) (.req (0=0∧0=List.length ([]:List Int)) (.req (0=0∧0=List.length ([]:List Int)) (.req (0=0∧0=List.length ([]:List Int)) (.req (0=0∧0=List.length ([]:List Int)) (.req (0=0∧0=List.length ([]:List Int)) (.req (0=0∧0=List.length ([]:List Int)) (.req (0=0∧0=List.length ([]:List Int)) (.req (0=0∧(List.length (fQ cs os ks gs bs):Int).toNat=List.length (List.replicate (List.length (fQ cs os ks gs bs):Int).toNat (0:Int))) (.req (0=0∧(List.length al:Int).toNat=List.length (List.replicate (List.length al:Int).toNat (0:Int))) (.req (Qj (ay cs os ks gs bs al mo od)) (.req (0+(List.length (ax (ay cs os ks gs bs al mo od)).jq)≤List.length (ax (ay cs os ks gs bs al mo od)).jq) (.req (0+(List.length (ax (ay cs os ks gs bs al mo od)).jo)≤List.length (ax (ay cs os ks gs bs al mo od)).jo) (.req (0+(List.length (ax (ay cs os ks gs bs al mo od)).jm)≤List.length (ax (ay cs os ks gs bs al mo od)).jm) (.req (0+(List.length (ax (ay cs os ks gs bs al mo od)).jl)≤List.length (ax (ay cs os ks gs bs al mo od)).jl) (.req (0+(List.length (ax (ay cs os ks gs bs al mo od)).jk)≤List.length (ax (ay cs os ks gs bs al mo od)).jk) (.req (0+(List.length (ax (ay cs os ks gs bs al mo od)).ji)≤List.length (ax (ay cs os ks gs bs al mo od)).ji) (.req (0+(List.length (ax (ay cs os ks gs bs al mo od)).jh)≤List.length (ax (ay cs os ks gs bs al mo od)).jh) (.req (0+(List.length (ax (ay cs os ks gs bs al mo od)).jg)≤List.length (ax (ay cs os ks gs bs al mo od)).jg) (.req (0+(List.length (ax (ay cs os ks gs bs al mo od)).jf)≤List.length (ax (ay cs os ks gs bs al mo od)).jf) (.req (0+(List.length (ax (ay cs os ks gs bs al mo od)).je)≤List.length (ax (ay cs os ks gs bs al mo od)).je) (.req (0+(List.length (ax (ay cs os ks gs bs al mo od)).dM)≤List.length (ax (ay cs os ks gs bs al mo od)).dM) (.req (0+(List.length (ax (ay cs os ks gs bs al mo od)).dL)≤List.length (ax (ay cs os ks gs bs al mo od)).dL) (.req (0+(List.length (ax (ay cs os ks gs bs al mo od)).dK)≤List.length (ax (ay cs os ks gs bs al mo od)).dK) (.req (0+(List.length (ax (ay cs os ks gs bs al mo od)).dJ)≤List.length (ax (ay cs os ks gs bs al mo od)).dJ) (.req (0+(List.length (ax (ay cs os ks gs bs al mo od)).dI)≤List.length (ax (ay cs os ks gs bs al mo od)).dI) (.req (0+(List.length (ax (ay cs os ks gs bs al mo od)).dH)≤List.length (ax (ay cs os ks gs bs al mo od)).dH) (.rl (ax (ay cs os ks gs bs al mo od)).sums (.rl (List.replicate (List.length al:Int).toNat (0:Int)) (.req (Qi (fA cs os ks gs bs al mo od)) (.req (0≤(List.length gs:Int)∧(List.length gs:Int)≤(List.length gs:Int)∧8*(List.length gs:Int)≤2^48∧(List.length gs:Int)<2^63) (.req (0=0∧(List.length gs:Int).toNat=List.length (List.replicate (List.length gs:Int).toNat (0:Int))) (.rl (iK (fA cs os ks gs bs al mo od)).sums (.rl (iK (fA cs os ks gs bs al mo od)).levels (.req (Qh (fK cs os ks gs bs al mo od)) (.req (0+(List.length (gY (fK cs os ks gs bs al mo od)).out)≤List.length (gY (fK cs os ks gs bs al mo od)).out) (.ok (.iF [.xl (.int .i64) (((gY (fK cs os ks gs bs al mo od)).out.drop 0).take (List.length (gY (fK cs os ks gs bs al mo od)).out)),.v (.int .i64 0)])))))))))))))))))))))))))))))))))))))))))))))))))))))) (.br (!true) (.ok (.iF [.xl (.int .i64) ([]:List Int),.v (.int .i64 1)])) (.req (Yx (⟨false,mo,(List.length mo:Int),(0:Int),cs,os,ks,gs,bs⟩:jH)) (.br (iy (xJ (⟨false,mo,(List.length mo:Int),(0:Int),cs,os,ks,gs,bs⟩:jH)) (.ret)) (.br (!(tK (⟨false,mo,(List.length mo:Int),(0:Int),cs,os,ks,gs,bs⟩:jH)).r) (.ok (.iF [.xl (.int .i64) ([]:List Int),.v (.int .i64 1)])) (.req ((List.length gs:Int)≤1000) (.br (!(mG od (List.length gs:Int))) (.ok (.iF [.xl (.int .i64) ([]:List Int),.v (.int .i64 1)])) (.req (0≤(List.length (fQ cs os ks gs bs):Int)∧(List.length (fQ cs os ks gs bs):Int)≤(List.length (fQ cs os ks gs bs):Int)∧8*(List.length (fQ cs os ks gs bs):Int)≤2^48∧(List.length (fQ cs os ks gs bs):Int)<2^63) (.req (0≤(List.length al:Int)∧(List.length al:Int)≤(List.length al:Int)∧8*(List.length al:Int)≤2^48∧(List.length al:Int)<2^63) (.req (0=0∧0=List.length ([]:List Int)) (.req (0=0∧0=List.length ([]:List Int)) (.req (0=0∧0=List.length ([]:List Int)) (.req (0=0∧0=List.length ([]:List Int)) (.req (0=0∧0=List.length ([]:List Int)) (.req (0=0∧0=List.length ([]:List Int)) (.req (0=0∧0=List.length ([]:List Int)) (.req (0=0∧0=List.length ([]:List Int)) (.req (0=0∧0=List.length ([]:List Int)) (.req (0=0∧0=List.length ([]:List Int)) (.req (0=0∧0=List.length ([]:List Int)) (.req (0=0∧0=List.length ([]:List Int)) (.req (0=0∧0=List.length ([]:List Int)) (.req (0=0∧0=List.length ([]:List Int)) (.req (0=0∧0=List.length ([]:List Int)) (.req (0=0∧0=List.length ([]:List Int)) (.req (0=0∧(List.length (fQ cs os ks gs bs):Int).toNat=List.length (List.replicate (List.length (fQ cs os ks gs bs):Int).toNat (0:Int))) (.req (0=0∧(List.length al:Int).toNat=List.length (List.replicate (List.length al:Int).toNat (0:Int))) (.req (Qj (ay cs os ks gs bs al mo od)) (.req (0+(List.length (ax (ay cs os ks gs bs al mo od)).jq)≤List.length (ax (ay cs os ks gs bs al mo od)).jq) (.req (0+(List.length (ax (ay cs os ks gs bs al mo od)).jo)≤List.length (ax (ay cs os ks gs bs al mo od)).jo) (.req (0+(List.length (ax (ay cs os ks gs bs al mo od)).jm)≤List.length (ax (ay cs os ks gs bs al mo od)).jm) (.req (0+(List.length (ax (ay cs os ks gs bs al mo od)).jl)≤List.length (ax (ay cs os ks gs bs al mo od)).jl) (.req (0+(List.length (ax (ay cs os ks gs bs al mo od)).jk)≤List.length (ax (ay cs os ks gs bs al mo od)).jk) (.req (0+(List.length (ax (ay cs os ks gs bs al mo od)).ji)≤List.length (ax (ay cs os ks gs bs al mo od)).ji) (.req (0+(List.length (ax (ay cs os ks gs bs al mo od)).jh)≤List.length (ax (ay cs os ks gs bs al mo od)).jh) (.req (0+(List.length (ax (ay cs os ks gs bs al mo od)).jg)≤List.length (ax (ay cs os ks gs bs al mo od)).jg) (.req (0+(List.length (ax (ay cs os ks gs bs al mo od)).jf)≤List.length (ax (ay cs os ks gs bs al mo od)).jf) (.req (0+(List.length (ax (ay cs os ks gs bs al mo od)).je)≤List.length (ax (ay cs os ks gs bs al mo od)).je) (.req (0+(List.length (ax (ay cs os ks gs bs al mo od)).dM)≤List.length (ax (ay cs os ks gs bs al mo od)).dM) (.req (0+(List.length (ax (ay cs os ks gs bs al mo od)).dL)≤List.length (ax (ay cs os ks gs bs al mo od)).dL) (.req (0+(List.length (ax (ay cs os ks gs bs al mo od)).dK)≤List.length (ax (ay cs os ks gs bs al mo od)).dK) (.req (0+(List.length (ax (ay cs os ks gs bs al mo od)).dJ)≤List.length (ax (ay cs os ks gs bs al mo od)).dJ) (.req (0+(List.length (ax (ay cs os ks gs bs al mo od)).dI)≤List.length (ax (ay cs os ks gs bs al mo od)).dI) (.req (0+(List.length (ax (ay cs os ks gs bs al mo od)).dH)≤List.length (ax (ay cs os ks gs bs al mo od)).dH) (.rl (ax (ay cs os ks gs bs al mo od)).sums (.rl (List.replicate (List.length al:Int).toNat (0:Int)) (.req (Qi (fA cs os ks gs bs al mo od)) (.req (0≤(List.length gs:Int)∧(List.length gs:Int)≤(List.length gs:Int)∧8*(List.length gs:Int)≤2^48∧(List.length gs:Int)<2^63) (.req (0=0∧(List.length gs:Int).toNat=List.length (List.replicate (List.length gs:Int).toNat (0:Int))) (.rl (iK (fA cs os ks gs bs al mo od)).sums (.rl (iK (fA cs os ks gs bs al mo od)).levels (.req (Qh (fK cs os ks gs bs al mo od)) (.req (0+(List.length (gY (fK cs os ks gs bs al mo od)).out)≤List.length (gY (fK cs os ks gs bs al mo od)).out) (.ok (.iF [.xl (.int .i64) (((gY (fK cs os ks gs bs al mo od)).out.drop 0).take (List.length (gY (fK cs os ks gs bs al mo od)).out)),.v (.int .i64 0)]))))))))))))))))))))))))))))))))))))))))))))))))))) (.br (!true) (.ok (.iF [.xl (.int .i64) ([]:List Int),.v (.int .i64 1)])) (.req ((List.length gs:Int)≤1000) (.br (!(mG od (List.length gs:Int))) (.ok (.iF [.xl (.int .i64) ([]:List Int),.v (.int .i64 1)])) (.req (0≤(List.length (fQ cs os ks gs bs):Int)∧(List.length (fQ cs os ks gs bs):Int)≤(List.length (fQ cs os ks gs bs):Int)∧8*(List.length (fQ cs os ks gs bs):Int)≤2^48∧(List.length (fQ cs os ks gs bs):Int)<2^63) (.req (0≤(List.length al:Int)∧(List.length al:Int)≤(List.length al:Int)∧8*(List.length al:Int)≤2^48∧(List.length al:Int)<2^63) (.req (0=0∧0=List.length ([]:List Int)) (.req (0=0∧0=List.length ([]:List Int)) (.req (0=0∧0=List.length ([]:List Int)) (.req (0=0∧0=List.length ([]:List Int)) (.req (0=0∧0=List.length ([]:List Int)) (.req (0=0∧0=List.length ([]:List Int)) (.req (0=0∧0=List.length ([]:List Int)) (.req (0=0∧0=List.length ([]:List Int)) (.req (0=0∧0=List.length ([]:List Int)) (.req (0=0∧0=List.length ([]:List Int)) (.req (0=0∧0=List.length ([]:List Int)) (.req (0=0∧0=List.length ([]:List Int)) (.req (0=0∧0=List.length ([]:List Int)) (.req (0=0∧0=List.length ([]:List Int)) (.req (0=0∧0=List.length ([]:List Int)) (.req (0=0∧0=List.length ([]:List Int)) (.req (0=0∧(List.length (fQ cs os ks gs bs):Int).toNat=List.length (List.replicate (List.length (fQ cs os ks gs bs):Int).toNat (0:Int))) (.req (0=0∧(List.length al:Int).toNat=List.length (List.replicate (List.length al:Int).toNat (0:Int))) (.req (Qj (ay cs os ks gs bs al mo od)) (.req (0+(List.length (ax (ay cs os ks gs bs al mo od)).jq)≤List.length (ax (ay cs os ks gs bs al mo od)).jq) (.req (0+(List.length (ax (ay cs os ks gs bs al mo od)).jo)≤List.length (ax (ay cs os ks gs bs al mo od)).jo) (.req (0+(List.length (ax (ay cs os ks gs bs al mo od)).jm)≤List.length (ax (ay cs os ks gs bs al mo od)).jm) (.req (0+(List.length (ax (ay cs os ks gs bs al mo od)).jl)≤List.length (ax (ay cs os ks gs bs al mo od)).jl) (.req (0+(List.length (ax (ay cs os ks gs bs al mo od)).jk)≤List.length (ax (ay cs os ks gs bs al mo od)).jk) (.req (0+(List.length (ax (ay cs os ks gs bs al mo od)).ji)≤List.length (ax (ay cs os ks gs bs al mo od)).ji) (.req (0+(List.length (ax (ay cs os ks gs bs al mo od)).jh)≤List.length (ax (ay cs os ks gs bs al mo od)).jh) (.req (0+(List.length (ax (ay cs os ks gs bs al mo od)).jg)≤List.length (ax (ay cs os ks gs bs al mo od)).jg) (.req (0+(List.length (ax (ay cs os ks gs bs al mo od)).jf)≤List.length (ax (ay cs os ks gs bs al mo od)).jf) (.req (0+(List.length (ax (ay cs os ks gs bs al mo od)).je)≤List.length (ax (ay cs os ks gs bs al mo od)).je) (.req (0+(List.length (ax (ay cs os ks gs bs al mo od)).dM)≤List.length (ax (ay cs os ks gs bs al mo od)).dM) (.req (0+(List.length (ax (ay cs os ks gs bs al mo od)).dL)≤List.length (ax (ay cs os ks gs bs al mo od)).dL) (.req (0+(List.length (ax (ay cs os ks gs bs al mo od)).dK)≤List.length (ax (ay cs os ks gs bs al mo od)).dK) (.req (0+(List.length (ax (ay cs os ks gs bs al mo od)).dJ)≤List.length (ax (ay cs os ks gs bs al mo od)).dJ) (.req (0+(List.length (ax (ay cs os ks gs bs al mo od)).dI)≤List.length (ax (ay cs os ks gs bs al mo od)).dI) (.req (0+(List.length (ax (ay cs os ks gs bs al mo od)).dH)≤List.length (ax (ay cs os ks gs bs al mo od)).dH) (.rl (ax (ay cs os ks gs bs al mo od)).sums (.rl (List.replicate (List.length al:Int).toNat (0:Int)) (.req (Qi (fA cs os ks gs bs al mo od)) (.req (0≤(List.length gs:Int)∧(List.length gs:Int)≤(List.length gs:Int)∧8*(List.length gs:Int)≤2^48∧(List.length gs:Int)<2^63) (.req (0=0∧(List.length gs:Int).toNat=List.length (List.replicate (List.length gs:Int).toNat (0:Int))) (.rl (iK (fA cs os ks gs bs al mo od)).sums (.rl (iK (fA cs os ks gs bs al mo od)).levels (.req (Qh (fK cs os ks gs bs al mo od)) (.req (0+(List.length (gY (fK cs os ks gs bs al mo od)).out)≤List.length (gY (fK cs os ks gs bs al mo od)).out) (.ok (.iF [.xl (.int .i64) (((gY (fK cs os ks gs bs al mo od)).out.drop 0).take (List.length (gY (fK cs os ks gs bs al mo od)).out)),.v (.int .i64 0)])))))))))))))))))))))))))))))))))))))))))))))))))))))))))):=by kernel_rfl
theorem Vf:Valid Tryz.prog aP 52 y5:=aH Tryz.func52 rfl aiB aAG (L:=(fun i=>if i=11 then JA.lp else if i=21 then Eg.lp else aB i)) (fun b hb=>by
 rw [show aC _=[II,Ap] by kernel_rfl] at hb
 simp only [List.mem_cons,List.not_mem_nil,or_false] at hb
 rcases hb with rfl|rfl
 ·exact alQ
 ·exact alP) (fun args lv h=>by
 unfold abY at h
 split at h
 ·simp only [canL,canX]
  rw [anW]
  rename_i cs os ks gs bs al mo od
  obtain rfl:=h
  have err:qH cs os ks gs bs al mo od=false→LV.iF [.xl (.int .i64) ([]:List Int),.v (.int .i64 1)]=LV.iF [.xl (.int .i64) (wS cs os ks gs bs al mo od),.v (.int .i64 (shE cs os ks gs bs al mo od))]:=fun h=>by
   unfold wS shE
   rw [h]
   rfl
  have no_:∀ {p:Prop},¬p→(qH cs os ks gs bs al mo od=true→p)→qH cs os ks gs bs al mo od=false:=fun h1 h2=>by
   rw [Bool.eq_false_iff];exact fun h=>h1 (h2 h)
  refine ⟨fun c=>err (no_ (p:=fM cs os ks gs bs=true) (fun h=>?_) (fun h=>(iP.1 h).1)),fun c=>?_⟩
  ·unfold vG at c
   rw [h] at c
   simp at c
  have hv:fM cs os ks gs bs=true:=by
   cases e:fM cs os ks gs bs with
   |true=>rfl
   |false=>unfold vG at c;rw [e] at c;simp at c
  have hl:=(gq.1 hv).1
  refine ⟨fun c2=>err (no_ (p:=al.length=gs.length) (by simp at c2;omega) (fun h=>(iP.1 h).2.1)),fun c2=>?_⟩
  refine ⟨fun c3=>err (no_ (p:=mo.length=gs.length) (by simp at c3;omega) (fun h=>(iP.1 h).2.2.1)),fun c3=>?_⟩
  have c2:al.length=gs.length:=by simp at c2;omega
  have c3:mo.length=gs.length:=by simp at c3;omega
  refine mP ⟨⟨rfl,by simp only;omega,by simp only;omega,rfl⟩,rfl,rfl⟩ (fun hE1=>?_)
  rcases abA _ hE1.1 with ⟨q1,q2⟩ |⟨q1,q2,q3⟩
  rotate_left
  ·rw [q1,q2]
   refine ⟨fun _=>⟨fun _=>err (no_ (p:=al.all uD=true) (by have q3:al.all uD=false:=q3;rw [q3];simp) (fun h=>(iP.1 h).2.2.2.1)),fun h=>by cases h⟩,fun h=>by cases h⟩
  rw [q1]
  refine ⟨fun h=>(by cases h),fun _=>⟨fun h=>(by cases h),fun _=>?_⟩⟩
  have q2:al.all uD=true:=q2
  refine mP ⟨⟨rfl,by simp only;omega,by simp only;omega,rfl⟩,rfl,rfl⟩ (fun hE2=>?_)
  rcases abA _ hE2.1 with ⟨p1,p2⟩ |⟨p1,p2,p3⟩
  rotate_left
  ·rw [p1,p2]
   refine ⟨fun _=>⟨fun _=>err (no_ (p:=mo.all uD=true) (by have p3:mo.all uD=false:=p3;rw [p3];simp) (fun h=>(iP.1 h).2.2.2.2.1)),fun h=>by cases h⟩,fun h=>by cases h⟩
  rw [p1]
  refine ⟨fun h=>(by cases h),fun _=>⟨fun h=>(by cases h),fun _=>?_⟩⟩
  have p2:mo.all uD=true:=p2
  refine ⟨by omega,fun c4=>err (no_ (p:=mG od (gs.length:Int)=true) (by simp at c4;rw [c4];simp) (fun h=>(iP.1 h).2.2.2.2.2)),fun c4=>?_⟩
  have c4:mG od (gs.length:Int)=true:=by simpa using c4
  have hok:qH cs os ks gs bs al mo od=true:=iP.2 ⟨hv,c2,c3,q2,p2,c4⟩
  obtain ⟨hT,hS⟩:=aAb hok
  have er:fQ cs os ks gs bs=jc cs gs cs.length:=by unfold fQ;rw [if_pos hv]
  have hrl:=vF (cs:=cs) (gs:=gs) (k:=cs.length)
  have hod:od.length=gs.length:=by
   unfold mG at c4
   simp only [Bool.and_eq_true,decide_eq_true_eq] at c4
   omega
  have hrn:(List.length (fQ cs os ks gs bs):Int)≤1000:=by rw [er];omega
  refine ⟨by omega,by omega,⟨rfl,rfl⟩,⟨rfl,rfl⟩,⟨rfl,rfl⟩,⟨rfl,rfl⟩,⟨rfl,rfl⟩,⟨rfl,rfl⟩,⟨rfl,rfl⟩,⟨rfl,rfl⟩,⟨rfl,rfl⟩,⟨rfl,rfl⟩,⟨rfl,rfl⟩,⟨rfl,rfl⟩,⟨rfl,rfl⟩,⟨rfl,rfl⟩,⟨rfl,rfl⟩,⟨rfl,rfl⟩,⟨rfl,by simp⟩,⟨rfl,by simp⟩,?_⟩
  have hN:Nc (ay cs os ks gs bs al mo od):=by
   refine ⟨rfl,fun o ho=>?_,rfl,rfl,hrn,fun r hr=>?_,hT.al,by show List.length (List.replicate _ _)=List.length (fQ cs os ks gs bs);simp⟩
   ·simpa [kQ,ay] using ho
   ·have hr:r∈jc cs gs cs.length:=by rw [←er];exact hr
    obtain ⟨m1,m2,m3,m4⟩:=row_mem hr
    refine ⟨by omega,fun m hm=>?_⟩
    have:=m2 m hm
    show 0≤m∧m<16∧m<(al.length:Int)
    omega
  obtain ⟨nr1,nr2⟩:=anx _ hN
  have nr1:kQ (ax (ay cs os ks gs bs al mo od))=OL (jc cs gs cs.length):=by rw [nr1,←er];rfl
  have nr2:(ax (ay cs os ks gs bs al mo od)).sums=SM al (jc cs gs cs.length):=by rw [nr2,←er];rfl
  refine ⟨⟨hN,rfl,rfl⟩,by omega,by omega,by omega,by omega,by omega,by omega,by omega,by omega,by omega,by omega,by omega,by omega,by omega,by omega,by omega,by omega,⟨rfl,rfl⟩,⟨rfl,rfl⟩,?_⟩
  have eO:sU (fA cs os ks gs bs al mo od)=kQ (ax (ay cs os ks gs bs al mo od)):=by
   unfold sU kQ fA
   simp only [List.drop_zero,List.take_length]
  have hSh:ac7 (fA cs os ks gs bs al mo od):=by
   refine ⟨rfl,by show (od.length:Int)≤1000;omega,rfl,?_,?_⟩
   ·show OkT (sU (fA cs os ks gs bs al mo od)) (fQ cs os ks gs bs) gs al mo od
    rw [eO,nr1,er]
    exact hT
   ·show OkS (fQ cs os ks gs bs) od (ax (ay cs os ks gs bs al mo od)).sums _
    rw [nr2,er]
    exact hS
  have sr:=amM _ hSh
  have sr:(iK (fA cs os ks gs bs al mo od)).levels=shV (jc cs gs cs.length) gs al mo od:=by
   rw [sr]
   show shl (sU (fA cs os ks gs bs al mo od)) (fQ cs os ks gs bs) gs al mo od 81 1 (ax (ay cs os ks gs bs al mo od)).sums _=_
   rw [eO,nr1,nr2,er]
   rfl
  obtain ⟨sl,sb⟩:=ae3 hT 81 1 _ _ (by omega) (by omega) hS
  refine ⟨⟨hSh,rfl,rfl⟩,by omega,⟨rfl,by simp⟩,⟨rfl,rfl⟩,⟨rfl,rfl⟩,?_⟩
  have hX:ac6 (fK cs os ks gs bs al mo od):=by
   refine ⟨rfl,rfl,⟨rfl,by show (gs.length:Int)≤1000;omega,?_⟩,fun k h0 h1=>?_,?_⟩
   ·show (iK (fA cs os ks gs bs al mo od)).levels.length=gs.length
    rw [sr]
    exact sl.trans (by rw [List.length_replicate];exact c2)
   ·have:=su hv h0 h1
    unfold FW chW at this
    simp only [Bool.and_eq_true,dN] at this
    show mJ (bC gs k).2.2.2.1 (bC gs k).2.2.2.2.1 (bC gs k).2.2.2.2.2.1=true
    exact fG.2 (by omega)
   ·show ∀k:Nat,0≤(iK (fA cs os ks gs bs al mo od)).levels.getD k 0∧(iK (fA cs os ks gs bs al mo od)).levels.getD k 0≤80
    rw [sr]
    exact sb
  refine ⟨⟨hX,rfl,rfl⟩,by omega,?_⟩
  obtain ⟨s',_,_,x2⟩:=amK _ hX
  have x2:(gY (fK cs os ks gs bs al mo od)).out=o8 gs (iK (fA cs os ks gs bs al mo od)).levels:=x2
  show LV.iF [LV.xl _ _,_]=_
  rw [List.drop_zero,List.take_length,x2,sr]
  unfold wS shE
  rw [if_pos hok,if_pos hok]
 ·cases h)
end Go.Proofs.YtlihnbimgclogaaGreatDoor
namespace Go.Proofs.YtlihnbimgclogaaGreatDoor
open Go.Sx
structure nJ where
 m:List Ch
 k:Int
 i:Int
 out:List Int
def aDN (s:nJ):List LV:=[.os 0 1 0 (List.length s.out),.xl dS s.m,.v (.int .i64 s.k),.v (.int .i64 s.i)]
def aCM (s:nJ):List aU:=[⟨[],3,.vec (.int .i64) s.out,false⟩]
noncomputable def BI:Code:=((aC (Tryz.f72.body.getD .skip))[0]?).getD .skip
def Zj (s:nJ):T (Rd nJ):=
 .br (decide (s.i<s.k)) (.req (0≤s.i∧s.i<(List.length s.m:Int)) (.req (0≤s.i∧s.i<((List.length s.out:Nat):Int)) (.req (s.i.toNat<List.length s.out) (.req (0=0∧(List.length s.out)=List.length (s.out.set s.i.toNat (bC s.m s.i).2.2.2.2.2.2.1)) (.ok (.next {s with i:=(IntKind.i64.wrap (s.i+1)),out:=(s.out.set s.i.toNat (bC s.m s.i).2.2.2.2.2.2.1)})))))) (.rl s.out (.ok (.stop (.exit 0) s)))
abbrev asx (s:nJ):=(Zj s).rd s
def adv (s:nJ):Prop:=s.i=0∧s.k=(List.length s.m:Int)∧s.k≤1000∧s.out.length=s.m.length∧(∀j,0≤j→j<s.k→gi s.out j=0)∧True
def MS (s:nJ):Prop:=(0≤s.i∧s.i≤s.k)∧s.k=(List.length s.m:Int)∧s.k≤1000∧s.out.length=s.m.length∧(∀j,0≤j→j<s.k→gi s.out j=if j<s.i then Ac (bC s.m j) else 0)∧True
def OX (s:nJ):Nat:=(s.k-s.i).toNat
def akI (x:Ex) (_ s':nJ):Prop:=x=.exit 0∧s'.out=oz s'.m.length (fun j=>Ac (bC s'.m j))
theorem aBv:∀s,adv s→MS s:=by
 intro s h
 obtain ⟨h0,h2,h3,h4,h5,h6⟩:=h
 exact ⟨by omega,h2,h3,h4,fun j j0 j1=>by rw [h5 j j0 j1,if_neg (by omega)],h6⟩
theorem axq (s:nJ) (hI:MS s):bJ (fun s'=>MS s'∧OX s'<OX s) (fun x s'=>akI x s s') (asx s):=by
 unfold asx Zj
 dsimp only [T.rd,T.rl]
 obtain ⟨⟨h0,h1⟩,h2,h3,h4,h5,h6⟩:=hI
 refine au (fun c1=>?_) (fun c1=>?_)
 ·have c1:s.i<s.k:=by simpa using c1
  rw [aK (x:=s.i+1) (by omega) (by omega)]
  refine ⟨⟨⟨by simp only;omega,by simp only;omega⟩,h2,h3,by simp only [List.length_set];exact h4,fun j j0 j1=>?_,h6⟩,by simp only [OX];omega⟩
  simp only
  have hi:=h5 s.i h0 c1
  rw [if_neg (show ¬s.i<s.i by omega)] at hi
  rw [oZ h0 (by rw [h4];omega) j0]
  by_cases e:j=s.i
  ·subst e
   rw [if_pos rfl,if_pos (show s.i<s.i+1 by omega)]
   rfl
  ·rw [if_neg e,h5 j j0 j1]
   by_cases q:j<s.i
   ·rw [if_pos q,if_pos (show j<s.i+1 by omega)]
   ·rw [if_neg q,if_neg (show ¬j<s.i+1 by omega)]
 ·have c1:s.k≤s.i:=by simpa using c1
  refine ⟨rfl,?_⟩
  refine vZ (by rw [bW];exact h4) fun j j0 j1=>?_
  rw [bW] at j1
  rw [jF j0 j1,h5 j j0 (by omega),if_pos (show j<s.i by omega)]
def E5:bK nJ:=⟨0,31,[3,17,18,19],[],aDN,aCM,fun v b=>⟨aQ dS (v.getD 1 .junk),gI (v.getD 2 .junk),gI (v.getD 3 .junk),iT (.int .i64) (aO b 0)⟩,Zj,fun s r=> {r with m:=s.m,k:=s.k},fun s=>s,fun _ s=>s,[.exit 0],adv,MS,OX⟩
abbrev wZ:=E5.run
abbrev apN:=E5.jJ
abbrev ayH:=E5.q
theorem avo (s:nJ) (hI:MS s):(Zj s).all (fun _=>True):=by
 refine ⟨fun c1=>⟨?_,?_,?_,?_,trivial⟩,fun c1=>⟨⟨rfl,rfl⟩,trivial⟩⟩
 all_goals ((obtain ⟨⟨h0,h1⟩,h2,h3,h4,h5,h6⟩:=hI;(try simp only [decide_eq_true_eq] at c1);first|omega|exact ⟨rfl,by simp⟩ |(omega)))
noncomputable def aiM:Specs:=aZ []
theorem arv:∀g S,aiM g=some S→Valid Tryz.prog aP g S:=aS (l:=[]) trivial
theorem ahm:E5.Ok:=⟨fun s=>by kernel_rfl,fun s=>by kernel_rfl,fun s=>rfl,fun s t r=>rfl,fun s=>rfl,fun s=>by kernel_rfl⟩
theorem agh:E5.Pf (akI):=⟨aBv,fun _ _=>rfl,axq,avo⟩
theorem amD:bg Tryz.prog aP (AN 0) (.loop BI) E5.lp:=bK.snd ahm agh (aT (Γ:=aiM) (K:=eu) (L:=aB) arv aF BI (fun b hb=>by rw [show aC BI=[] by kernel_rfl] at hb;cases hb)) (fun s=>by kernel_rfl)
theorem ap5 (s:nJ) (hE:adv s):∃s',MS s'∧akI (apN s) s' (wZ s):=bK.fin ahm agh s hE
def acR:List LV→T LV
 | [.xq 9 q0]=>(match ([q0 0,q0 1,q0 2,q0 3,q0 4,q0 5,q0 6,q0 7,q0 8]:List LV) with
  | [.xl (.pair .str (.pair (.int .i64) (.pair (.int .i64) (.pair (.int .i64) (.pair (.pair (.int .i64) (.int .i64)) (.pair (.int .i64) (.pair (.int .i64) (.pair (.int .i64) (.pair (.int .i64) (.int .i64)))))))))) _,.xl (.str) _,.xl (.pair .str (.pair (.int .i64) (.pair (.int .i64) (.int .i64)))) _,.xl (.pair .str (.pair (.int .i64) (.pair (.int .i64) (.pair (.int .i64) (.pair (.int .i64) (.pair (.int .i64) (.pair (.int .i64) (.int .i64)))))))) gs,.xl (.pair .str (.int .i64)) _,.xl (.pair (.int .i64) (.pair (.int .i64) (.pair (.int .i64) (.pair (.int .i64) (.int .i64))))) _,.xl (.pair .bool (.pair (.int .i64) (.pair (.int .i64) (.int .i64)))) _,.v (.int .i64 _),.xl (.int .i64) _]=> .req ((List.length gs:Int)≤1000) (.ok (.xl (.int .i64) (mO gs)))
  |_=> .no)
 |_=> .no
noncomputable def Yk:List LV→T LV:=gB Tryz.prog Tryz.f72.params.toList acR
end Go.Proofs.YtlihnbimgclogaaGreatDoor
