/- ControlWishes returns true for all arguments: who does not want gets nothing, and if the greatest levels of all that want are permitted, the targets are these. Conditions: none; the table ramp.happens holds what its text says. -/
import Derived.Test.YtlihnbimgclogaaGreatDoorQe3
namespace Go.Proofs.YtlihnbimgclogaaGreatDoor
open Go.Sx
theorem auV (s:kM) (hI:MW s):(Rt s).all (fun _=>True):=by
 refine ⟨fun c1=>⟨?_,?_,?_,trivial⟩,fun c1=>⟨⟨rfl,rfl⟩,trivial⟩⟩
 all_goals ((obtain ⟨h0,h1,h2,h3,h4⟩:=hI;(try simp only [decide_eq_true_eq] at c1);first|omega|(refine ⟨by omega,?_,?_⟩<;>simp only [List.length_cons,List.length_nil]<;>omega) |(simp only [List.length_append,List.length_cons,List.length_nil];omega) |exact ⟨rfl,by simp⟩ |exact ⟨rfl,rfl⟩))
theorem Wv:EU.Ok:=⟨fun s=>by kernel_rfl,fun s=>by kernel_rfl,fun s=>rfl,fun s t r=>rfl,fun s=>rfl,fun s=>by kernel_rfl⟩
theorem VZ:EU.Pf (akt):=⟨aAf,fun _ _=>rfl,avR,auV⟩
theorem ami:bn Tryz.prog aS (AN 0) (.loop Bl) EU.lp:=bK.snd Wv VZ (aP (Γ:=IQ) (K:=dY) (L:=aC) Lp aF Bl (fun b hb=>by rw [show aB Bl=[] by kernel_rfl] at hb;cases hb)) (fun s=>by kernel_rfl)
theorem anE (s:kM) (hE:Vb s):∃s',MW s'∧akt (apu s) s' (jT s):=bK.fin Wv VZ s hE
theorem anD (s:kM) (hE:Vb s):(jT s).out=s.out++s.l.map (·.1):=by
 have hk:=bK.uS Wv VZ (fun s=>s.out++(s.l.drop s.i.toNat).map (·.1)) (fun s hI=>by
  obtain ⟨h0,h1,h2,h3,h4⟩:=hI
  show bJ _ _ (abb s)
  unfold abb Rt
  dsimp only [T.rd,T.rl]
  refine au (fun c1=>?_) (fun c1=>?_)
  ·have c1:s.i<s.n:=by simpa using c1
   rw [aK (x:=s.i+1) (by omega) (by omega)]
   show _++_=_++_
   simp only
   rw [(TN h0 (show s.i<s.l.length by omega)).1]
   simp
  ·rfl) s hE
 obtain ⟨s',hI,q1,q2⟩:=anE s hE
 have q3:(jT s).i=(jT s).n:=q2
 have hn:(jT s).n=(s.l.length:Int):=hE.2.1
 have hl:(jT s).l=s.l:=rfl
 rw [q3,hn,hl,List.drop_eq_nil_of_le (by omega),hE.1] at hk
 simpa using hk
structure mV where
 l:List Ba
 n:Int
 i:Int
 out:List ByteArray
def aDp (s:mV):List LV:=[.os 0 1 0 (List.length s.out),.xl dX s.l,.v (.int .i64 s.n),.v (.int .i64 s.i)]
def aCo (s:mV):List aU:=[⟨[],9,.vec .str s.out,false⟩]
noncomputable def Bj:Code:=((aB (Tryz.f98.body.getD .skip))[4]?).getD .skip
def Rq (s:mV):T (Rd mV):=
 .br (decide (s.i<s.n)) (.req (0≤s.i∧s.i<(List.length s.l:Int)) (.req (0+(List.length s.out)=List.length s.out∧((List.length s.out+List.length ([(CJ s.l s.i).1]):Nat):Int)*16≤2^47∧((List.length s.out+List.length ([(CJ s.l s.i).1]):Nat):Int)<2^62) (.req (0=0∧(List.length s.out+List.length ([(CJ s.l s.i).1]))=List.length (s.out++([(CJ s.l s.i).1]))) (.ok (.next {s with i:=(IntKind.i64.wrap (s.i+1)),out:=(s.out++([(CJ s.l s.i).1]))}))))) (.rl s.out (.ok (.stop (.exit 8) s)))
abbrev aa9 (s:mV):=(Rq s).rd s
def Va (s:mV):Prop:=s.i=0∧s.n=(s.l.length:Int)∧s.n≤1000∧(s.out.length:Int)≤10000
def MV (s:mV):Prop:=0≤s.i∧s.i≤s.n∧s.n=(s.l.length:Int)∧s.n≤1000∧(s.out.length:Int)≤10000+s.i
def O1 (s:mV):Nat:=(s.n-s.i).toNat
def aks (x:Ex) (_ s':mV):Prop:=x=.exit 8∧s'.i=s'.n
theorem aAe:∀s,Va s→MV s:=by
 intro s h
 obtain ⟨h0,h1,h2,h3⟩:=h
 exact ⟨by omega,by omega,h1,h2,by omega⟩
theorem avQ (s:mV) (hI:MV s):bJ (fun s'=>MV s'∧O1 s'<O1 s) (fun x s'=>aks x s s') (aa9 s):=by
 unfold aa9 Rq
 dsimp only [T.rd,T.rl]
 obtain ⟨h0,h1,h2,h3,h4⟩:=hI
 refine au (fun c1=>?_) (fun c1=>?_)
 ·have c1:s.i<s.n:=by simpa using c1
  rw [aK (x:=s.i+1) (by omega) (by omega)]
  exact ⟨⟨by simp only;omega,by simp only;omega,h2,h3,by simp only [List.length_append,List.length_cons,List.length_nil];omega⟩,by simp only [O1];omega⟩
 ·have c1:s.n≤s.i:=by simpa using c1
  exact ⟨rfl,by omega⟩
def ET:bK mV:=⟨0,80,[3,67,68,69],[],aDp,aCo,fun v b=>⟨aQ dX (v.getD 1 .junk),gI (v.getD 2 .junk),gI (v.getD 3 .junk),iT .str (aO b 0)⟩,Rq,fun s r=> {r with l:=s.l,n:=s.n},fun s=>s,fun _ s=>s,[.exit 8],Va,MV,O1⟩
abbrev mg:=ET.run
abbrev apt:=ET.jG
abbrev ayf:=ET.q
theorem auU (s:mV) (hI:MV s):(Rq s).all (fun _=>True):=by
 refine ⟨fun c1=>⟨?_,?_,?_,trivial⟩,fun c1=>⟨⟨rfl,rfl⟩,trivial⟩⟩
 all_goals ((obtain ⟨h0,h1,h2,h3,h4⟩:=hI;(try simp only [decide_eq_true_eq] at c1);first|omega|(refine ⟨by omega,?_,?_⟩<;>simp only [List.length_cons,List.length_nil]<;>omega) |(simp only [List.length_append,List.length_cons,List.length_nil];omega) |exact ⟨rfl,by simp⟩ |exact ⟨rfl,rfl⟩))
theorem Wu:ET.Ok:=⟨fun s=>by kernel_rfl,fun s=>by kernel_rfl,fun s=>rfl,fun s t r=>rfl,fun s=>rfl,fun s=>by kernel_rfl⟩
theorem VY:ET.Pf (aks):=⟨aAe,fun _ _=>rfl,avQ,auU⟩
theorem amh:bn Tryz.prog aS (AN 0) (.loop Bj) ET.lp:=bK.snd Wu VY (aP (Γ:=IQ) (K:=dY) (L:=aC) Lp aF Bj (fun b hb=>by rw [show aB Bj=[] by kernel_rfl] at hb;cases hb)) (fun s=>by kernel_rfl)
theorem anC (s:mV) (hE:Va s):∃s',MV s'∧aks (apt s) s' (mg s):=bK.fin Wu VY s hE
theorem anB (s:mV) (hE:Va s):(mg s).out=s.out++s.l.map (·.1):=by
 have hk:=bK.uS Wu VY (fun s=>s.out++(s.l.drop s.i.toNat).map (·.1)) (fun s hI=>by
  obtain ⟨h0,h1,h2,h3,h4⟩:=hI
  show bJ _ _ (aa9 s)
  unfold aa9 Rq
  dsimp only [T.rd,T.rl]
  refine au (fun c1=>?_) (fun c1=>?_)
  ·have c1:s.i<s.n:=by simpa using c1
   rw [aK (x:=s.i+1) (by omega) (by omega)]
   show _++_=_++_
   simp only
   rw [(TQ h0 (show s.i<s.l.length by omega)).1]
   simp
  ·rfl) s hE
 obtain ⟨s',hI,q1,q2⟩:=anC s hE
 have q3:(mg s).i=(mg s).n:=q2
 have hn:(mg s).n=(s.l.length:Int):=hE.2.1
 have hl:(mg s).l=s.l:=rfl
 rw [q3,hn,hl,List.drop_eq_nil_of_le (by omega),hE.1] at hk
 simpa using hk
def acF:List LV→T LV
 | [.agg [.xl (.pair .str (.pair (.int .i64) (.pair (.int .i64) (.pair (.int .i64) (.pair (.pair (.int .i64) (.int .i64)) (.pair (.int .i64) (.pair (.int .i64) (.pair (.int .i64) (.pair (.int .i64) (.int .i64)))))))))) cs,.xl (.str) os,.xl (.pair .str (.pair (.int .i64) (.pair (.int .i64) (.int .i64)))) ks,.xl (.pair .str (.pair (.int .i64) (.pair (.int .i64) (.pair (.int .i64) (.pair (.int .i64) (.pair (.int .i64) (.pair (.int .i64) (.int .i64)))))))) gs,.xl (.pair .str (.int .i64)) bs]]=> .req ((List.length cs:Int)≤1000∧(List.length os:Int)≤1000∧(List.length ks:Int)≤1000∧(List.length gs:Int)≤1000∧(List.length bs:Int)≤1000) (.ok (.xl .str (gB cs os ks gs bs)))
 |_=> .no
noncomputable def Yi:List LV→T LV:=gJ Tryz.prog Tryz.f98.params.toList acF
theorem aof (cs:List Cd) (os:List ByteArray) (ks:List Ko) (gs:List Ch) (bs:List Ba):bT Tryz.prog aS (IQ) dY (fun i=>if i=3 then EY.lp else if i=8 then EX.lp else if i=13 then EW.lp else if i=18 then EU.lp else if i=23 then ET.lp else aC i) Tryz.f98 [.agg [.xl dU cs,.xl .str os,.xl dW ks,.xl dM gs,.xl dX bs]]=.req (0=0∧0=List.length ([]:List ByteArray)) (.req (ayj (⟨cs,(List.length cs:Int),(0:Int),cs,os,ks,gs,bs,([]:List ByteArray)⟩:iR)) (.rl (gK (⟨cs,(List.length cs:Int),(0:Int),cs,os,ks,gs,bs,([]:List ByteArray)⟩:iR)).out (.req (ayi (⟨os,(List.length os:Int),(0:Int),cs,os,ks,gs,bs,(gK (⟨cs,(List.length cs:Int),(0:Int),cs,os,ks,gs,bs,([]:List ByteArray)⟩:iR)).out⟩:jy)) (.rl (iq (⟨os,(List.length os:Int),(0:Int),cs,os,ks,gs,bs,(gK (⟨cs,(List.length cs:Int),(0:Int),cs,os,ks,gs,bs,([]:List ByteArray)⟩:iR)).out⟩:jy)).out (.req (ayh (⟨ks,(List.length ks:Int),(0:Int),cs,os,ks,gs,bs,(iq (⟨os,(List.length os:Int),(0:Int),cs,os,ks,gs,bs,(gK (⟨cs,(List.length cs:Int),(0:Int),cs,os,ks,gs,bs,([]:List ByteArray)⟩:iR)).out⟩:jy)).out⟩:jQ)) (.rl (ja (⟨ks,(List.length ks:Int),(0:Int),cs,os,ks,gs,bs,(iq (⟨os,(List.length os:Int),(0:Int),cs,os,ks,gs,bs,(gK (⟨cs,(List.length cs:Int),(0:Int),cs,os,ks,gs,bs,([]:List ByteArray)⟩:iR)).out⟩:jy)).out⟩:jQ)).out (.req (ayg (⟨gs,(List.length gs:Int),(0:Int),cs,os,ks,gs,bs,(ja (⟨ks,(List.length ks:Int),(0:Int),cs,os,ks,gs,bs,(iq (⟨os,(List.length os:Int),(0:Int),cs,os,ks,gs,bs,(gK (⟨cs,(List.length cs:Int),(0:Int),cs,os,ks,gs,bs,([]:List ByteArray)⟩:iR)).out⟩:jy)).out⟩:jQ)).out⟩:kM)) (.rl (jT (⟨gs,(List.length gs:Int),(0:Int),cs,os,ks,gs,bs,(ja (⟨ks,(List.length ks:Int),(0:Int),cs,os,ks,gs,bs,(iq (⟨os,(List.length os:Int),(0:Int),cs,os,ks,gs,bs,(gK (⟨cs,(List.length cs:Int),(0:Int),cs,os,ks,gs,bs,([]:List ByteArray)⟩:iR)).out⟩:jy)).out⟩:jQ)).out⟩:kM)).out (.req (ayf (⟨bs,(List.length bs:Int),(0:Int),(jT (⟨gs,(List.length gs:Int),(0:Int),cs,os,ks,gs,bs,(ja (⟨ks,(List.length ks:Int),(0:Int),cs,os,ks,gs,bs,(iq (⟨os,(List.length os:Int),(0:Int),cs,os,ks,gs,bs,(gK (⟨cs,(List.length cs:Int),(0:Int),cs,os,ks,gs,bs,([]:List ByteArray)⟩:iR)).out⟩:jy)).out⟩:jQ)).out⟩:kM)).out⟩:mV)) (.req (0+(List.length (mg (⟨bs,(List.length bs:Int),(0:Int),(jT (⟨gs,(List.length gs:Int),(0:Int),cs,os,ks,gs,bs,(ja (⟨ks,(List.length ks:Int),(0:Int),cs,os,ks,gs,bs,(iq (⟨os,(List.length os:Int),(0:Int),cs,os,ks,gs,bs,(gK (⟨cs,(List.length cs:Int),(0:Int),cs,os,ks,gs,bs,([]:List ByteArray)⟩:iR)).out⟩:jy)).out⟩:jQ)).out⟩:kM)).out⟩:mV)).out)≤List.length (mg (⟨bs,(List.length bs:Int),(0:Int),(jT (⟨gs,(List.length gs:Int),(0:Int),cs,os,ks,gs,bs,(ja (⟨ks,(List.length ks:Int),(0:Int),cs,os,ks,gs,bs,(iq (⟨os,(List.length os:Int),(0:Int),cs,os,ks,gs,bs,(gK (⟨cs,(List.length cs:Int),(0:Int),cs,os,ks,gs,bs,([]:List ByteArray)⟩:iR)).out⟩:jy)).out⟩:jQ)).out⟩:kM)).out⟩:mV)).out) (.ok (.xl .str (((mg (⟨bs,(List.length bs:Int),(0:Int),(jT (⟨gs,(List.length gs:Int),(0:Int),cs,os,ks,gs,bs,(ja (⟨ks,(List.length ks:Int),(0:Int),cs,os,ks,gs,bs,(iq (⟨os,(List.length os:Int),(0:Int),cs,os,ks,gs,bs,(gK (⟨cs,(List.length cs:Int),(0:Int),cs,os,ks,gs,bs,([]:List ByteArray)⟩:iR)).out⟩:jy)).out⟩:jQ)).out⟩:kM)).out⟩:mV)).out.drop 0).take (List.length (mg (⟨bs,(List.length bs:Int),(0:Int),(jT (⟨gs,(List.length gs:Int),(0:Int),cs,os,ks,gs,bs,(ja (⟨ks,(List.length ks:Int),(0:Int),cs,os,ks,gs,bs,(iq (⟨os,(List.length os:Int),(0:Int),cs,os,ks,gs,bs,(gK (⟨cs,(List.length cs:Int),(0:Int),cs,os,ks,gs,bs,([]:List ByteArray)⟩:iR)).out⟩:jy)).out⟩:jQ)).out⟩:kM)).out⟩:mV)).out)))))))))))))):=by kernel_rfl
theorem atn:Valid Tryz.prog aS 98 Yi:=aH Tryz.func98 rfl Lp aF (L:=(fun i=>if i=3 then EY.lp else if i=8 then EX.lp else if i=13 then EW.lp else if i=18 then EU.lp else if i=23 then ET.lp else aC i)) (fun b hb=>by
 rw [show aB _=[Bv,Bq,Bo,Bl,Bj] by kernel_rfl] at hb
 simp only [List.mem_cons,List.not_mem_nil,or_false] at hb
 rcases hb with rfl|rfl|rfl|rfl|rfl
 ·exact aml
 ·exact amk
 ·exact amj
 ·exact ami
 ·exact amh) (fun args lv h=>by
 unfold acF at h
 split at h
 ·simp only [canL,canX]
  rw [aof]
  rename_i cs os ks gs bs
  obtain ⟨⟨hc,ho,hk,hg,hb⟩,rfl⟩:=h
  have hE0:Vg ⟨cs,(List.length cs:Int),(0:Int),cs,os,ks,gs,bs,([]:List ByteArray)⟩:=⟨rfl,rfl,hc,by simp only;decide⟩
  have o0:=anJ _ hE0
  refine ⟨⟨rfl,rfl⟩,⟨hE0,rfl,rfl⟩,?_⟩
  generalize (gK ⟨cs,(List.length cs:Int),(0:Int),cs,os,ks,gs,bs,([]:List ByteArray)⟩).out=r0 at*
  have o0:r0=([]:List ByteArray)++cs.map (·.1):=o0
  have l0:(List.length r0:Int)≤1000:=by rw [o0];simp only [List.length_append,List.length_map,List.length_nil];omega
  have hE1:Vf ⟨os,(List.length os:Int),(0:Int),cs,os,ks,gs,bs,r0⟩:=⟨rfl,rfl,ho,by simp only;omega⟩
  have o1:=anH _ hE1
  refine ⟨⟨rfl,rfl⟩,⟨hE1,rfl,rfl⟩,?_⟩
  generalize (iq ⟨os,(List.length os:Int),(0:Int),cs,os,ks,gs,bs,r0⟩).out=r1 at*
  have o1:r1=r0++os:=o1
  have l1:(List.length r1:Int)≤2000:=by rw [o1];simp only [List.length_append];omega
  have hE2:Ve ⟨ks,(List.length ks:Int),(0:Int),cs,os,ks,gs,bs,r1⟩:=⟨rfl,rfl,hk,by simp only;omega⟩
  have o2:=anF _ hE2
  refine ⟨⟨rfl,rfl⟩,⟨hE2,rfl,rfl⟩,?_⟩
  generalize (ja ⟨ks,(List.length ks:Int),(0:Int),cs,os,ks,gs,bs,r1⟩).out=r2 at*
  have o2:r2=r1++ks.map (·.1):=o2
  have l2:(List.length r2:Int)≤3000:=by rw [o2];simp only [List.length_append,List.length_map];omega
  have hE3:Vb ⟨gs,(List.length gs:Int),(0:Int),cs,os,ks,gs,bs,r2⟩:=⟨rfl,rfl,hg,by simp only;omega⟩
  have o3:=anD _ hE3
  refine ⟨⟨rfl,rfl⟩,⟨hE3,rfl,rfl⟩,?_⟩
  generalize (jT ⟨gs,(List.length gs:Int),(0:Int),cs,os,ks,gs,bs,r2⟩).out=r3 at*
  have o3:r3=r2++gs.map (·.1):=o3
  have l3:(List.length r3:Int)≤4000:=by rw [o3];simp only [List.length_append,List.length_map];omega
  have hE4:Va ⟨bs,(List.length bs:Int),(0:Int),r3⟩:=⟨rfl,rfl,hb,by simp only;omega⟩
  have o4:=anB _ hE4
  refine ⟨⟨rfl,rfl⟩,⟨hE4,rfl,rfl⟩,?_⟩
  generalize (mg ⟨bs,(List.length bs:Int),(0:Int),r3⟩).out=r4 at*
  have o4:r4=r3++bs.map (·.1):=o4
  have l4:(List.length r4:Int)≤5000:=by rw [o4];simp only [List.length_append,List.length_map];omega
  refine ⟨by omega,?_⟩
  show LV.xl _ _=_
  rw [List.drop_zero,List.take_of_length_le (by omega),o4,o3,o2,o1,o0,List.nil_append]
  rfl
 ·cases h)
end Go.Proofs.YtlihnbimgclogaaGreatDoor
namespace Go.Proofs.YtlihnbimgclogaaGreatDoor
open Go.Sx
structure iU where
 r:Bool
 l:List Cd
 n:Int
 i:Int
 ah:List Cd
 aA:List ByteArray
 aj:List Ko
 ai:List Ch
 aJ:List Ba
def aCW (s:iU):List LV:=[.own 0 0,.v (.bool s.r),.xl dU s.l,.v (.int .i64 s.n),.v (.int .i64 s.i)]
def aBV (s:iU):List aU:=[⟨[.xl dU s.ah,.xl .str s.aA,.xl dW s.aj,.xl dM s.ai,.xl dX s.aJ],28,.cl,false⟩]
noncomputable def Aw:Code:=((aB (Tryz.f100.body.getD .skip))[0]?).getD .skip
def Y5 (s:iU):T (Rd iU):=
 .br (decide (s.i<s.n)) (.req (0≤s.i∧s.i<(List.length s.l:Int)) (.req (0≤s.i) (.br (!(Eh s.i (fO s.l s.i))) (.ok (.stop (.ret) {s with r:=false})) (.ok (.next {s with i:=(IntKind.i64.wrap (s.i+1))}))))) (.ok (.stop (.exit 0) s))
abbrev arQ (s:iU):=(Y5 s).rd s
def JE (s:iU) (j:Int):Bool:=Eh j (fO s.l j)
def akS (s:iU):Prop:=s.i=0∧0≤s.n∧s.n≤1000∧s.n=(s.l.length:Int)
def Me (s:iU):Prop:=0≤s.i∧s.i≤s.n∧s.n≤1000∧(s.n=(s.l.length:Int))∧∀j:Nat,(j:Int)<s.i→JE s j=true
def Oz (s:iU):Nat:=(s.n-s.i).toNat
def ake (x:Ex) (_ s':iU):Prop:=(x=.exit 0∧∀j:Nat,(j:Int)<s'.n→JE s' j=true)∨(x=.ret∧s'.r=false∧∃j:Nat,(j:Int)<s'.n∧JE s' j=false)
theorem ayZ:∀s,akS s→Me s:=by
 intro s h
 obtain ⟨h0,h1,h2,h3⟩:=h
 exact ⟨by omega,by omega,h2,h3,fun j hj=>by omega⟩
theorem asX (s:iU) (hI:Me s):bJ (fun s'=>Me s'∧Oz s'<Oz s) (fun x s'=>ake x s s') (arQ s):=by
 unfold arQ Y5
 dsimp only [T.rd,T.rl]
 obtain ⟨h0,h1,h2,h3,h4⟩:=hI
 refine au (fun c1=>au (fun c2=>?_) (fun c2=>?_)) (fun c1=>?_)
 ·have c1:s.i<s.n:=by simpa using c1
  refine .inr ⟨rfl,rfl,s.i.toNat,by simp only;omega,?_⟩
  rw [Int.toNat_of_nonneg (by omega)]
  have hg:JE s s.i=false:=by unfold JE;(first|(have c2:(!(Eh s.i (fO s.l s.i)))=false:=c2;simpa using c2) |(have c2:(!(Eh s.i (fO s.l s.i)))=true:=c2;simpa using c2))
  exact hg
 ·have c1:s.i<s.n:=by simpa using c1
  have hg:JE s s.i=true:=by unfold JE;(first|(have c2:(!(Eh s.i (fO s.l s.i)))=false:=c2;simpa using c2) |(have c2:(!(Eh s.i (fO s.l s.i)))=true:=c2;simpa using c2))
  rw [aK (x:=s.i+1) (by omega) (by omega)]
  refine ⟨⟨by simp only;omega,by simp only;omega,h2,h3,fun j hj=>?_⟩,by simp only [Oz];omega⟩
  by_cases hji:(j:Int)<s.i
  ·exact h4 j hji
  ·have:(j:Int)=s.i:=by simp only at hj;omega
   rw [this];exact hg
 ·have c1:s.n≤s.i:=by simpa using c1
  exact .inl ⟨rfl,fun j hj=>h4 j (by omega)⟩
def Et:bK iU:=⟨0,95,[1,2,13,14,15],[],aCW,aBV,fun v b=>⟨uT (v.getD 1 .junk),aQ dU (v.getD 2 .junk),gI (v.getD 3 .junk),gI (v.getD 4 .junk),aQ dU (aX (aO b 0) 0),aQ .str (aX (aO b 0) 1),aQ dW (aX (aO b 0) 2),aQ dM (aX (aO b 0) 3),aQ dX (aX (aO b 0) 4)⟩,Y5,fun s r=> {r with l:=s.l,n:=s.n,ah:=s.ah,aA:=s.aA,aj:=s.aj,ai:=s.ai,aJ:=s.aJ},fun s=>s,fun _ s=>s,[.ret,.exit 0],akS,Me,Oz⟩
abbrev l7:=Et.run
abbrev abt:=Et.jG
abbrev axN:=Et.q
theorem auq (s:iU) (hI:Me s):(Y5 s).all (fun _=>True):=by
 refine ⟨fun c1=>⟨?_,?_,fun _=>trivial,fun _=>trivial⟩,fun _=>trivial⟩
 all_goals ((obtain ⟨h0,h1,h2,h3,h4⟩:=hI;simp at c1;omega))
noncomputable def Ls:Specs:=bf [(126,XY),(127,uK),(128,XZ)]
theorem TD:∀g S,Ls g=some S→Valid Tryz.prog aS g S:=aT (l:=[(126,XY),(127,uK),(128,XZ)]) ⟨as3,NM,as4,trivial⟩
theorem agP:Et.Ok:=⟨fun s=>by kernel_rfl,fun s=>by kernel_rfl,fun s=>rfl,fun s t r=>rfl,fun s=>rfl,fun s=>by kernel_rfl⟩
theorem afH:Et.Pf (ake):=⟨ayZ,fun _ _=>rfl,asX,auq⟩
theorem alQ:bn Tryz.prog aS (AN 0) (.loop Aw) Et.lp:=bK.snd agP afH (aP (Γ:=Ls) (K:=dY) (L:=aC) TD aF Aw (fun b hb=>by rw [show aB Aw=[] by kernel_rfl] at hb;cases hb)) (fun s=>by kernel_rfl)
theorem aln (s:iU) (hE:akS s):∃s',Me s'∧ake (abt s) s' (l7 s):=bK.fin agP afH s hE
structure jM where
 r:Bool
 l:List Ko
 n:Int
 i:Int
 ah:List Cd
 aA:List ByteArray
 aj:List Ko
 ai:List Ch
 aJ:List Ba
 cards:List Int
def aCV (s:jM):List LV:=[.own 0 0,.v (.bool s.r),.om 1,.xl dW s.l,.v (.int .i64 s.n),.v (.int .i64 s.i)]
def aBU (s:jM):List aU:=[⟨[.xl dU s.ah,.xl .str s.aA,.xl dW s.aj,.xl dM s.ai,.xl dX s.aJ],28,.cl,false⟩,⟨[],183,.st (.int .i64) s.cards,false⟩]
noncomputable def Au:Code:=((aB (Tryz.f100.body.getD .skip))[1]?).getD .skip
def Y4 (s:jM):T (Rd jM):=
 .br (decide (s.i<s.n)) (.req (0≤s.i∧s.i<(List.length s.l:Int)) (.br ((!(inB (nG s.l s.i).2.1 (0:Int) (IntKind.i64.wrap ((List.length s.aA:Int)-1)))) ||((!(inB (nG s.l s.i).2.2.1 (1:Int) (9:Int))) ||((!(inB (nG s.l s.i).2.2.2 (1:Int) (1000000:Int))) ||(List.contains s.cards (nG s.l s.i).2.2.2)))) (.ok (.stop (.ret) {s with r:=false})) (.req (List.contains s.cards (nG s.l s.i).2.2.2=false) (.ok (.next {s with i:=(IntKind.i64.wrap (s.i+1)),cards:=(s.cards++[(nG s.l s.i).2.2.2])}))))) (.ok (.stop (.exit 2) s))
abbrev arP (s:jM):=(Y4 s).rd s
def JD (s:jM) (j:Int):Bool:=koV s.aA.length (nG s.l j)&&!(((s.l.take j.toNat).map (·.2.2.2)).contains (nG s.l j).2.2.2)
def akR (s:jM):Prop:=s.i=0∧s.cards=[]∧s.n=(s.l.length:Int)∧s.n≤1000∧(s.aA.length:Int)≤1000
def Md (s:jM):Prop:=0≤s.i∧s.i≤s.n∧s.n=(s.l.length:Int)∧s.n≤1000∧((s.aA.length:Int)≤1000)∧s.cards=(s.l.take s.i.toNat).map (·.2.2.2)∧∀j:Nat,(j:Int)<s.i→JD s j=true
def Oy (s:jM):Nat:=(s.n-s.i).toNat
def akd (x:Ex) (_ s':jM):Prop:=(x=.exit 2∧∀j:Nat,(j:Int)<s'.n→JD s' j=true)∨(x=.ret∧s'.r=false∧∃j:Nat,(j:Int)<s'.n∧JD s' j=false)
theorem ayY:∀s,akR s→Md s:=by
 intro s h
 obtain ⟨h0,h1,h2,h3,h4⟩:=h
 exact ⟨by omega,by omega,h2,h3,h4,by rw [h0,h1];rfl,fun j hj=>by omega⟩
theorem asW (s:jM) (hI:Md s):bJ (fun s'=>Md s'∧Oy s'<Oy s) (fun x s'=>akd x s s') (arP s):=by
 unfold arP Y4
 dsimp only [T.rd,T.rl]
 obtain ⟨h0,h1,h2,h3,h4,h5,h6⟩:=hI
 refine au (fun c1=>au (fun c2=>?_) (fun c2=>?_)) (fun c1=>?_)
 ·have c1:s.i<s.n:=by simpa using c1
  refine .inr ⟨rfl,rfl,s.i.toNat,by simp only;omega,?_⟩
  rw [Int.toNat_of_nonneg h0]
  have hg:JD s s.i=false:=by
   unfold JD
   (rw [aK (by omega) (by omega),h5] at c2;unfold koV;revert c2;generalize inB (nG s.l s.i).2.1 _ _=a;generalize inB (nG s.l s.i).2.2.1 _ _=b;generalize inB (nG s.l s.i).2.2.2 _ _=c;generalize List.contains (α:=Int) _ _=d;cases a<;>cases b<;>cases c<;>cases d<;>simp)
  exact hg
 ·have c1:s.i<s.n:=by simpa using c1
  have hg:JD s s.i=true:=by
   unfold JD
   (rw [aK (by omega) (by omega),h5] at c2;unfold koV;revert c2;generalize inB (nG s.l s.i).2.1 _ _=a;generalize inB (nG s.l s.i).2.2.1 _ _=b;generalize inB (nG s.l s.i).2.2.2 _ _=c;generalize List.contains (α:=Int) _ _=d;cases a<;>cases b<;>cases c<;>cases d<;>simp)
  rw [aK (x:=s.i+1) (by omega) (by omega)]
  refine ⟨⟨by simp only;omega,by simp only;omega,h2,h3,h4,?_,fun j hj=>?_⟩,by simp only [Oy];omega⟩
  ·simp only
   rw [(IV h0 (show s.i<s.l.length by omega)).2,h5]
   try rw [List.map_append]
   try rfl
  ·by_cases hji:(j:Int)<s.i
   ·exact h6 j hji
   ·have:(j:Int)=s.i:=by simp only at hj;omega
    rw [this];exact hg
 ·have c1:s.n≤s.i:=by simpa using c1
  exact .inl ⟨rfl,fun j hj=>h6 j (by omega)⟩
def Es:bK jM:=⟨0,95,[1,2,5,27,28,29],[],aCV,aBU,fun v b=>⟨uT (v.getD 1 .junk),aQ dW (v.getD 3 .junk),gI (v.getD 4 .junk),gI (v.getD 5 .junk),aQ dU (aX (aO b 0) 0),aQ .str (aX (aO b 0) 1),aQ dW (aX (aO b 0) 2),aQ dM (aX (aO b 0) 3),aQ dX (aX (aO b 0) 4),gSe (.int .i64) (aO b 1)⟩,Y4,fun s r=> {r with l:=s.l,n:=s.n,ah:=s.ah,aA:=s.aA,aj:=s.aj,ai:=s.ai,aJ:=s.aJ},fun s=>s,fun _ s=>s,[.ret,.exit 2],akR,Md,Oy⟩
abbrev qU:=Es.run
abbrev abr:=Es.jG
abbrev axM:=Es.q
theorem aup (s:jM) (hI:Md s):(Y4 s).all (fun _=>True):=by
 refine ⟨fun c1=>⟨?_,fun _=>trivial,fun c2=>⟨?_,trivial⟩⟩,fun _=>trivial⟩
 all_goals ((obtain ⟨h0,h1,h2,h3,h4,h5,h6⟩:=hI;first|(simp at c1;omega) |(simp only [Bool.or_eq_false_iff] at c2;exact c2.2.2.2)))
theorem agO:Es.Ok:=⟨fun s=>by kernel_rfl,fun s=>by kernel_rfl,fun s=>rfl,fun s t r=>rfl,fun s=>rfl,fun s=>by kernel_rfl⟩
theorem afG:Es.Pf (akd):=⟨ayY,fun _ _=>rfl,asW,aup⟩
theorem alP:bn Tryz.prog aS (AN 0) (.loop Au) Es.lp:=bK.snd agO afG (aP (Γ:=Ls) (K:=dY) (L:=aC) TD aF Au (fun b hb=>by rw [show aB Au=[] by kernel_rfl] at hb;cases hb)) (fun s=>by kernel_rfl)
theorem alm (s:jM) (hE:akR s):∃s',Md s'∧akd (abr s) s' (qU s):=bK.fin agO afG s hE
structure lF where
 r:Bool
 l:List Ch
 n:Int
 i:Int
 ah:List Cd
 aA:List ByteArray
 aj:List Ko
 ai:List Ch
 aJ:List Ba
def aCU (s:lF):List LV:=[.own 0 0,.v (.bool s.r),.xl dM s.l,.v (.int .i64 s.n),.v (.int .i64 s.i)]
def aBT (s:lF):List aU:=[⟨[.xl dU s.ah,.xl .str s.aA,.xl dW s.aj,.xl dM s.ai,.xl dX s.aJ],28,.cl,false⟩]
noncomputable def Ar:Code:=((aB (Tryz.f100.body.getD .skip))[2]?).getD .skip
def Y3 (s:lF):T (Rd lF):=
 .br (decide (s.i<s.n)) (.req (0≤s.i∧s.i<(List.length s.l:Int)) (.req ((List.length s.ah:Int)≤1000∧(List.length s.aA:Int)≤1000) (.br (!(Gi s.ah.length s.aA.length (aW s.l s.i))) (.ok (.stop (.ret) {s with r:=false})) (.ok (.next {s with i:=(IntKind.i64.wrap (s.i+1))}))))) (.ok (.stop (.exit 4) s))
abbrev arO (s:lF):=(Y3 s).rd s
def JC (s:lF) (j:Int):Bool:=Gi s.ah.length s.aA.length (aW s.l j)
def akQ (s:lF):Prop:=s.i=0∧0≤s.n∧s.n≤1000∧s.n=(s.l.length:Int)∧(s.ah.length:Int)≤1000∧(s.aA.length:Int)≤1000
def Mc (s:lF):Prop:=0≤s.i∧s.i≤s.n∧s.n≤1000∧(s.n=(s.l.length:Int)∧(s.ah.length:Int)≤1000∧(s.aA.length:Int)≤1000)∧∀j:Nat,(j:Int)<s.i→JC s j=true
def Ox (s:lF):Nat:=(s.n-s.i).toNat
def akc (x:Ex) (_ s':lF):Prop:=(x=.exit 4∧∀j:Nat,(j:Int)<s'.n→JC s' j=true)∨(x=.ret∧s'.r=false∧∃j:Nat,(j:Int)<s'.n∧JC s' j=false)
theorem ayX:∀s,akQ s→Mc s:=by
 intro s h
 obtain ⟨h0,h1,h2,h3⟩:=h
 exact ⟨by omega,by omega,h2,h3,fun j hj=>by omega⟩
theorem asV (s:lF) (hI:Mc s):bJ (fun s'=>Mc s'∧Ox s'<Ox s) (fun x s'=>akc x s s') (arO s):=by
 unfold arO Y3
 dsimp only [T.rd,T.rl]
 obtain ⟨h0,h1,h2,h3,h4⟩:=hI
 refine au (fun c1=>au (fun c2=>?_) (fun c2=>?_)) (fun c1=>?_)
 ·have c1:s.i<s.n:=by simpa using c1
  refine .inr ⟨rfl,rfl,s.i.toNat,by simp only;omega,?_⟩
  rw [Int.toNat_of_nonneg (by omega)]
  have hg:JC s s.i=false:=by unfold JC;(first|(have c2:(!(Gi s.ah.length s.aA.length (aW s.l s.i)))=false:=c2;simpa using c2) |(have c2:(!(Gi s.ah.length s.aA.length (aW s.l s.i)))=true:=c2;simpa using c2))
  exact hg
 ·have c1:s.i<s.n:=by simpa using c1
  have hg:JC s s.i=true:=by unfold JC;(first|(have c2:(!(Gi s.ah.length s.aA.length (aW s.l s.i)))=false:=c2;simpa using c2) |(have c2:(!(Gi s.ah.length s.aA.length (aW s.l s.i)))=true:=c2;simpa using c2))
  rw [aK (x:=s.i+1) (by omega) (by omega)]
  refine ⟨⟨by simp only;omega,by simp only;omega,h2,h3,fun j hj=>?_⟩,by simp only [Ox];omega⟩
  by_cases hji:(j:Int)<s.i
  ·exact h4 j hji
  ·have:(j:Int)=s.i:=by simp only at hj;omega
   rw [this];exact hg
 ·have c1:s.n≤s.i:=by simpa using c1
  exact .inl ⟨rfl,fun j hj=>h4 j (by omega)⟩
def Ep:bK lF:=⟨0,95,[1,2,67,68,69],[],aCU,aBT,fun v b=>⟨uT (v.getD 1 .junk),aQ dM (v.getD 2 .junk),gI (v.getD 3 .junk),gI (v.getD 4 .junk),aQ dU (aX (aO b 0) 0),aQ .str (aX (aO b 0) 1),aQ dW (aX (aO b 0) 2),aQ dM (aX (aO b 0) 3),aQ dX (aX (aO b 0) 4)⟩,Y3,fun s r=> {r with l:=s.l,n:=s.n,ah:=s.ah,aA:=s.aA,aj:=s.aj,ai:=s.ai,aJ:=s.aJ},fun s=>s,fun _ s=>s,[.ret,.exit 4],akQ,Mc,Ox⟩
abbrev zy:=Ep.run
abbrev abq:=Ep.jG
abbrev axL:=Ep.q
theorem auo (s:lF) (hI:Mc s):(Y3 s).all (fun _=>True):=by
 refine ⟨fun c1=>⟨?_,?_,fun _=>trivial,fun _=>trivial⟩,fun _=>trivial⟩
 all_goals ((obtain ⟨h0,h1,h2,h3,h4⟩:=hI;simp at c1;first|omega|exact h3.2))
theorem agN:Ep.Ok:=⟨fun s=>by kernel_rfl,fun s=>by kernel_rfl,fun s=>rfl,fun s t r=>rfl,fun s=>rfl,fun s=>by kernel_rfl⟩
theorem afF:Ep.Pf (akc):=⟨ayX,fun _ _=>rfl,asV,auo⟩
theorem alO:bn Tryz.prog aS (AN 0) (.loop Ar) Ep.lp:=bK.snd agN afF (aP (Γ:=Ls) (K:=dY) (L:=aC) TD aF Ar (fun b hb=>by rw [show aB Ar=[] by kernel_rfl] at hb;cases hb)) (fun s=>by kernel_rfl)
theorem alk (s:lF) (hE:akQ s):∃s',Mc s'∧akc (abq s) s' (zy s):=bK.fin agN afF s hE
structure oM where
 r:Bool
 l:List Ba
 n:Int
 i:Int
 ah:List Cd
 aA:List ByteArray
 aj:List Ko
 ai:List Ch
 aJ:List Ba
def aCT (s:oM):List LV:=[.own 0 0,.v (.bool s.r),.xl dX s.l,.v (.int .i64 s.n),.v (.int .i64 s.i)]
def aBS (s:oM):List aU:=[⟨[.xl dU s.ah,.xl .str s.aA,.xl dW s.aj,.xl dM s.ai,.xl dX s.aJ],28,.cl,false⟩]
noncomputable def Aq:Code:=((aB (Tryz.f100.body.getD .skip))[3]?).getD .skip
def Y2 (s:oM):T (Rd oM):=
 .br (decide (s.i<s.n)) (.req (0≤s.i∧s.i<(List.length s.l:Int)) (.br (!(inB (CJ s.l s.i).2 (0:Int) (IntKind.i64.wrap ((List.length s.ai:Int)-1)))) (.ok (.stop (.ret) {s with r:=false})) (.ok (.next {s with i:=(IntKind.i64.wrap (s.i+1))})))) (.ok (.stop (.exit 6) s))
abbrev arN (s:oM):=(Y2 s).rd s
def JB (s:oM) (j:Int):Bool:=inB (CJ s.l j).2 0 (IntKind.i64.wrap ((List.length s.ai:Int)-1))
def akP (s:oM):Prop:=s.i=0∧0≤s.n∧s.n≤1000∧s.n=(s.l.length:Int)
def L9 (s:oM):Prop:=0≤s.i∧s.i≤s.n∧s.n≤1000∧(s.n=(s.l.length:Int))∧∀j:Nat,(j:Int)<s.i→JB s j=true
def Ov (s:oM):Nat:=(s.n-s.i).toNat
def akb (x:Ex) (_ s':oM):Prop:=(x=.exit 6∧∀j:Nat,(j:Int)<s'.n→JB s' j=true)∨(x=.ret∧s'.r=false∧∃j:Nat,(j:Int)<s'.n∧JB s' j=false)
theorem ayW:∀s,akP s→L9 s:=by
 intro s h
 obtain ⟨h0,h1,h2,h3⟩:=h
 exact ⟨by omega,by omega,h2,h3,fun j hj=>by omega⟩
theorem asU (s:oM) (hI:L9 s):bJ (fun s'=>L9 s'∧Ov s'<Ov s) (fun x s'=>akb x s s') (arN s):=by
 unfold arN Y2
 dsimp only [T.rd,T.rl]
 obtain ⟨h0,h1,h2,h3,h4⟩:=hI
 refine au (fun c1=>au (fun c2=>?_) (fun c2=>?_)) (fun c1=>?_)
 ·have c1:s.i<s.n:=by simpa using c1
  refine .inr ⟨rfl,rfl,s.i.toNat,by simp only;omega,?_⟩
  rw [Int.toNat_of_nonneg (by omega)]
  have hg:JB s s.i=false:=by unfold JB;(first|(have c2:(!(inB (CJ s.l s.i).2 0 (IntKind.i64.wrap ((List.length s.ai:Int)-1))))=false:=c2;simpa using c2) |(have c2:(!(inB (CJ s.l s.i).2 0 (IntKind.i64.wrap ((List.length s.ai:Int)-1))))=true:=c2;simpa using c2))
  exact hg
 ·have c1:s.i<s.n:=by simpa using c1
  have hg:JB s s.i=true:=by unfold JB;(first|(have c2:(!(inB (CJ s.l s.i).2 0 (IntKind.i64.wrap ((List.length s.ai:Int)-1))))=false:=c2;simpa using c2) |(have c2:(!(inB (CJ s.l s.i).2 0 (IntKind.i64.wrap ((List.length s.ai:Int)-1))))=true:=c2;simpa using c2))
  rw [aK (x:=s.i+1) (by omega) (by omega)]
  refine ⟨⟨by simp only;omega,by simp only;omega,h2,h3,fun j hj=>?_⟩,by simp only [Ov];omega⟩
  by_cases hji:(j:Int)<s.i
  ·exact h4 j hji
  ·have:(j:Int)=s.i:=by simp only at hj;omega
   rw [this];exact hg
 ·have c1:s.n≤s.i:=by simpa using c1
  exact .inl ⟨rfl,fun j hj=>h4 j (by omega)⟩
def Eo:bK oM:=⟨0,95,[1,2,79,80,81],[],aCT,aBS,fun v b=>⟨uT (v.getD 1 .junk),aQ dX (v.getD 2 .junk),gI (v.getD 3 .junk),gI (v.getD 4 .junk),aQ dU (aX (aO b 0) 0),aQ .str (aX (aO b 0) 1),aQ dW (aX (aO b 0) 2),aQ dM (aX (aO b 0) 3),aQ dX (aX (aO b 0) 4)⟩,Y2,fun s r=> {r with l:=s.l,n:=s.n,ah:=s.ah,aA:=s.aA,aj:=s.aj,ai:=s.ai,aJ:=s.aJ},fun s=>s,fun _ s=>s,[.ret,.exit 6],akP,L9,Ov⟩
abbrev ZO:=Eo.run
abbrev abp:=Eo.jG
abbrev axK:=Eo.q
theorem aun (s:oM) (hI:L9 s):(Y2 s).all (fun _=>True):=by
 refine ⟨fun c1=>⟨?_,fun _=>trivial,fun _=>trivial⟩,fun _=>trivial⟩
 ·(obtain ⟨h0,h1,h2,h3,h4⟩:=hI;simp at c1;omega)
theorem agM:Eo.Ok:=⟨fun s=>by kernel_rfl,fun s=>by kernel_rfl,fun s=>rfl,fun s t r=>rfl,fun s=>rfl,fun s=>by kernel_rfl⟩
theorem afE:Eo.Pf (akb):=⟨ayW,fun _ _=>rfl,asU,aun⟩
theorem alN:bn Tryz.prog aS (AN 0) (.loop Aq) Eo.lp:=bK.snd agM afE (aP (Γ:=Ls) (K:=dY) (L:=aC) TD aF Aq (fun b hb=>by rw [show aB Aq=[] by kernel_rfl] at hb;cases hb)) (fun s=>by kernel_rfl)
theorem alj (s:oM) (hE:akP s):∃s',L9 s'∧akb (abp s) s' (ZO s):=bK.fin agM afE s hE
def ab7:List LV→T LV
 | [.agg [.xl (.pair .str (.pair (.int .i64) (.pair (.int .i64) (.pair (.int .i64) (.pair (.pair (.int .i64) (.int .i64)) (.pair (.int .i64) (.pair (.int .i64) (.pair (.int .i64) (.pair (.int .i64) (.int .i64)))))))))) cs,.xl (.str) os,.xl (.pair .str (.pair (.int .i64) (.pair (.int .i64) (.int .i64)))) ks,.xl (.pair .str (.pair (.int .i64) (.pair (.int .i64) (.pair (.int .i64) (.pair (.int .i64) (.pair (.int .i64) (.pair (.int .i64) (.int .i64)))))))) gs,.xl (.pair .str (.int .i64)) bs]]=> .req ((List.length cs:Int)≤1000∧(List.length os:Int)≤1000∧(List.length ks:Int)≤1000∧(List.length gs:Int)≤1000∧(List.length bs:Int)≤1000) (.ok (.v (.bool (Vr cs os ks gs bs))))
 |_=> .no
noncomputable def XW:List LV→T LV:=gJ Tryz.prog Tryz.f100.params.toList ab7
theorem anP (cs:List Cd) (os:List ByteArray) (ks:List Ko) (gs:List Ch) (bs:List Ba):bT Tryz.prog aS (Ls) dY (fun i=>if i=2 then Et.lp else if i=9 then Es.lp else if i=16 then Ep.lp else if i=22 then Eo.lp else aC i) Tryz.f100 [.agg [.xl dU cs,.xl .str os,.xl dW ks,.xl dM gs,.xl dX bs]]=.req (axN (⟨false,cs,(List.length cs:Int),(0:Int),cs,os,ks,gs,bs⟩:iU)) (.br (iw (abt (⟨false,cs,(List.length cs:Int),(0:Int),cs,os,ks,gs,bs⟩:iU)) (.ret)) (.ok (.v (.bool (l7 (⟨false,cs,(List.length cs:Int),(0:Int),cs,os,ks,gs,bs⟩:iU)).r))) (.req (axM (⟨(l7 (⟨false,cs,(List.length cs:Int),(0:Int),cs,os,ks,gs,bs⟩:iU)).r,ks,(List.length ks:Int),(0:Int),cs,os,ks,gs,bs,([]:List Int)⟩:jM)) (.br (iw (abr (⟨(l7 (⟨false,cs,(List.length cs:Int),(0:Int),cs,os,ks,gs,bs⟩:iU)).r,ks,(List.length ks:Int),(0:Int),cs,os,ks,gs,bs,([]:List Int)⟩:jM)) (.ret)) (.ok (.v (.bool (qU (⟨(l7 (⟨false,cs,(List.length cs:Int),(0:Int),cs,os,ks,gs,bs⟩:iU)).r,ks,(List.length ks:Int),(0:Int),cs,os,ks,gs,bs,([]:List Int)⟩:jM)).r))) (.req (axL (⟨(qU (⟨(l7 (⟨false,cs,(List.length cs:Int),(0:Int),cs,os,ks,gs,bs⟩:iU)).r,ks,(List.length ks:Int),(0:Int),cs,os,ks,gs,bs,([]:List Int)⟩:jM)).r,gs,(List.length gs:Int),(0:Int),cs,os,ks,gs,bs⟩:lF)) (.br (iw (abq (⟨(qU (⟨(l7 (⟨false,cs,(List.length cs:Int),(0:Int),cs,os,ks,gs,bs⟩:iU)).r,ks,(List.length ks:Int),(0:Int),cs,os,ks,gs,bs,([]:List Int)⟩:jM)).r,gs,(List.length gs:Int),(0:Int),cs,os,ks,gs,bs⟩:lF)) (.ret)) (.ok (.v (.bool (zy (⟨(qU (⟨(l7 (⟨false,cs,(List.length cs:Int),(0:Int),cs,os,ks,gs,bs⟩:iU)).r,ks,(List.length ks:Int),(0:Int),cs,os,ks,gs,bs,([]:List Int)⟩:jM)).r,gs,(List.length gs:Int),(0:Int),cs,os,ks,gs,bs⟩:lF)).r))) (.req (axK (⟨(zy (⟨(qU (⟨(l7 (⟨false,cs,(List.length cs:Int),(0:Int),cs,os,ks,gs,bs⟩:iU)).r,ks,(List.length ks:Int),(0:Int),cs,os,ks,gs,bs,([]:List Int)⟩:jM)).r,gs,(List.length gs:Int),(0:Int),cs,os,ks,gs,bs⟩:lF)).r,bs,(List.length bs:Int),(0:Int),cs,os,ks,gs,bs⟩:oM)) (.br (iw (abp (⟨(zy (⟨(qU (⟨(l7 (⟨false,cs,(List.length cs:Int),(0:Int),cs,os,ks,gs,bs⟩:iU)).r,ks,(List.length ks:Int),(0:Int),cs,os,ks,gs,bs,([]:List Int)⟩:jM)).r,gs,(List.length gs:Int),(0:Int),cs,os,ks,gs,bs⟩:lF)).r,bs,(List.length bs:Int),(0:Int),cs,os,ks,gs,bs⟩:oM)) (.ret)) (.ok (.v (.bool (ZO (⟨(zy (⟨(qU (⟨(l7 (⟨false,cs,(List.length cs:Int),(0:Int),cs,os,ks,gs,bs⟩:iU)).r,ks,(List.length ks:Int),(0:Int),cs,os,ks,gs,bs,([]:List Int)⟩:jM)).r,gs,(List.length gs:Int),(0:Int),cs,os,ks,gs,bs⟩:lF)).r,bs,(List.length bs:Int),(0:Int),cs,os,ks,gs,bs⟩:oM)).r))) (.ok (.v (.bool true)))))))))):=by kernel_rfl
theorem as2:Valid Tryz.prog aS 100 XW:=aH Tryz.func100 rfl TD aF (L:=(fun i=>if i=2 then Et.lp else if i=9 then Es.lp else if i=16 then Ep.lp else if i=22 then Eo.lp else aC i)) (fun b hb=>by
 rw [show aB _=[Aw,Au,Ar,Aq] by kernel_rfl] at hb
 simp only [List.mem_cons,List.not_mem_nil,or_false] at hb
 rcases hb with rfl|rfl|rfl|rfl
 ·exact alQ
 ·exact alP
 ·exact alO
 ·exact alN) (fun args lv h=>by
 unfold ab7 at h
 split at h
 ·simp only [canL,canX]
  rw [anP]
  rename_i cs os ks gs bs
  obtain ⟨⟨hc,ho,hk,hg,hb⟩,rfl⟩:=h
  refine mQ ⟨⟨rfl,by simp only;omega,hc,rfl⟩,rfl,rfl⟩ (fun hE0=>?_)
  obtain ⟨s',_,hq⟩:=aln _ hE0.1
  rcases hq with ⟨q1,q2⟩ |⟨q1,q2,j,q3,q4⟩
  rotate_left
  ·rw [q1,q2]
   refine ⟨fun _=>congrArg (fun z=>LV.v (.bool z)) ?_,fun h=>by cases h⟩
   unfold Vr
   rw [uh (f:=fun j=>Eh j (fO cs j)) j q3 q4]
   rfl
  rw [q1]
  refine ⟨fun h=>(by cases h),fun _=>?_⟩
  have g0:J6 cs.length (fun j=>Eh j (fO cs j))=true:=fQ.2 q2
  refine mQ ⟨⟨rfl,rfl,rfl,hk,ho⟩,rfl,rfl⟩ (fun hE1=>?_)
  obtain ⟨s',_,hq⟩:=alm _ hE1.1
  rcases hq with ⟨q1,q2⟩ |⟨q1,q2,j,q3,q4⟩
  rotate_left
  ·rw [q1,q2]
   refine ⟨fun _=>congrArg (fun z=>LV.v (.bool z)) ?_,fun h=>by cases h⟩
   unfold Vr
   have hn:(ks.all (koV os.length)&&once (ks.map (·.2.2.2)))=false:=by
    rw [Bool.eq_false_iff];intro hx
    have:=(kH (d:=(emp,0,0,0))).2 hx j q3
    exact Bool.noConfusion (this.symm.trans q4)
   rw [g0,Bool.true_and,←Bool.and_assoc,hn]
   rfl
  rw [q1]
  refine ⟨fun h=>(by cases h),fun _=>?_⟩
  have g1:(ks.all (koV os.length)&&once (ks.map (·.2.2.2)))=true:=(kH (d:=(emp,0,0,0))).1 q2
  refine mQ ⟨⟨rfl,by simp only;omega,hg,rfl,hc,ho⟩,rfl,rfl⟩ (fun hE2=>?_)
  obtain ⟨s',_,hq⟩:=alk _ hE2.1
  rcases hq with ⟨q1,q2⟩ |⟨q1,q2,j,q3,q4⟩
  rotate_left
  ·rw [q1,q2]
   refine ⟨fun _=>congrArg (fun z=>LV.v (.bool z)) ?_,fun h=>by cases h⟩
   unfold Vr
   have hn:gs.all (Gi cs.length os.length)=false:=by
    rw [Bool.eq_false_iff];intro hx
    have:=(iM (d:=(emp,0,0,0,0,0,0,0))).2 hx j q3
    exact Bool.noConfusion (this.symm.trans q4)
   rw [g0,Bool.true_and,←Bool.and_assoc,g1,hn]
   rfl
  rw [q1]
  refine ⟨fun h=>(by cases h),fun _=>?_⟩
  have g2:gs.all (Gi cs.length os.length)=true:=(iM (d:=(emp,0,0,0,0,0,0,0))).1 q2
  have hw:=aK (x:=(List.length gs:Int)-1) (by omega) (by omega)
  refine mQ ⟨⟨rfl,by simp only;omega,hb,rfl⟩,rfl,rfl⟩ (fun hE3=>?_)
  obtain ⟨s',_,hq⟩:=alj _ hE3.1
  rcases hq with ⟨q1,q2⟩ |⟨q1,q2,j,q3,q4⟩
  rotate_left
  ·rw [q1,q2]
   refine ⟨fun _=>congrArg (fun z=>LV.v (.bool z)) ?_,fun h=>by cases h⟩
   unfold Vr
   have hn:bs.all (fun b=>inB b.2 0 ((gs.length:Int)-1))=false:=by
    rw [Bool.eq_false_iff];intro hx
    have:=(iM (d:=(emp,0))).2 hx j q3
    have q4:inB (CJ bs j).2 0 (IntKind.i64.wrap ((List.length gs:Int)-1))=false:=q4
    rw [hw] at q4
    exact Bool.noConfusion (this.symm.trans q4)
   rw [g0,Bool.true_and,←Bool.and_assoc,g1,g2,hn]
   rfl
  rw [q1]
  refine ⟨fun h=>(by cases h),fun _=>?_⟩
  have g3:bs.all (fun b=>inB b.2 0 ((gs.length:Int)-1))=true:=(iM (d:=(emp,0))).1 (fun j hj=>by
   have:inB (CJ bs j).2 0 (IntKind.i64.wrap ((List.length gs:Int)-1))=true:=q2 j hj
   rw [hw] at this
   exact this)
  refine congrArg (fun z=>LV.v (.bool z)) ?_
  unfold Vr
  rw [g0,Bool.true_and,←Bool.and_assoc,g1,g2,g3]
  rfl
 ·cases h)
end Go.Proofs.YtlihnbimgclogaaGreatDoor
namespace Go.Proofs.YtlihnbimgclogaaGreatDoor
open Go.Sx
structure wK where
 r:Bool
 l:List ByteArray
 n:Int
 i:Int
 ah:List Cd
 aA:List ByteArray
 aj:List Ko
 ai:List Ch
 aJ:List Ba
 seen:List ByteArray
def aEz (s:wK):List LV:=[.own 0 0,.v (.bool s.r),.om 1,.xl .str s.l,.v (.int .i64 s.n),.v (.int .i64 s.i)]
def aEr (s:wK):List aU:=[⟨[.xl dU s.ah,.xl .str s.aA,.xl dW s.aj,.xl dM s.ai,.xl dX s.aJ],28,.cl,false⟩,⟨[],149,.st .str s.seen,false⟩]
noncomputable def Gl:Code:=((aB (Tryz.f53.body.getD .skip))[0]?).getD .skip
def alD (s:wK):T (Rd wK):=
 .br (decide (s.i<s.n)) (.req (0≤s.i∧s.i<(List.length s.l:Int)) (.br ((!(nameB (gS s.l s.i))) ||(List.contains s.seen (gS s.l s.i))) (.ok (.stop (.ret) {s with r:=false})) (.req (List.contains s.seen (gS s.l s.i)=false) (.ok (.next {s with i:=(IntKind.i64.wrap (s.i+1)),seen:=(s.seen++[(gS s.l s.i)])}))))) (.ok (.stop (.exit 0) s))
abbrev aBd (s:wK):=(alD s).rd s
def YK (s:wK) (j:Int):Bool:=nameB (gS s.l j)&&!(((s.l.take j.toNat).map id).contains (gS s.l j))
def axO (s:wK):Prop:=s.i=0∧s.seen=[]∧s.n=(s.l.length:Int)∧s.n≤1000∧True
def aeA (s:wK):Prop:=0≤s.i∧s.i≤s.n∧s.n=(s.l.length:Int)∧s.n≤1000∧(True)∧s.seen=(s.l.take s.i.toNat).map id∧∀j:Nat,(j:Int)<s.i→YK s j=true
def aam (s:wK):Nat:=(s.n-s.i).toNat
def axC (x:Ex) (_ s':wK):Prop:=(x=.exit 0∧∀j:Nat,(j:Int)<s'.n→YK s' j=true)∨(x=.ret∧s'.r=false∧∃j:Nat,(j:Int)<s'.n∧YK s' j=false)
theorem aD1:∀s,axO s→aeA s:=by
 intro s h
 obtain ⟨h0,h1,h2,h3,h4⟩:=h
 exact ⟨by omega,by omega,h2,h3,h4,by rw [h0,h1];rfl,fun j hj=>by omega⟩
theorem azh (s:wK) (hI:aeA s):bJ (fun s'=>aeA s'∧aam s'<aam s) (fun x s'=>axC x s s') (aBd s):=by
 unfold aBd alD
 dsimp only [T.rd,T.rl]
 obtain ⟨h0,h1,h2,h3,h4,h5,h6⟩:=hI
 refine au (fun c1=>au (fun c2=>?_) (fun c2=>?_)) (fun c1=>?_)
 ·have c1:s.i<s.n:=by simpa using c1
  refine .inr ⟨rfl,rfl,s.i.toNat,by simp only;omega,?_⟩
  rw [Int.toNat_of_nonneg h0]
  have hg:YK s s.i=false:=by
   unfold YK
   (rw [h5] at c2;revert c2;generalize nameB _=a;generalize List.contains (α:=ByteArray) _ _=d;cases a<;>cases d<;>simp)
  exact hg
 ·have c1:s.i<s.n:=by simpa using c1
  have hg:YK s s.i=true:=by
   unfold YK
   (rw [h5] at c2;revert c2;generalize nameB _=a;generalize List.contains (α:=ByteArray) _ _=d;cases a<;>cases d<;>simp)
  rw [aK (x:=s.i+1) (by omega) (by omega)]
  refine ⟨⟨by simp only;omega,by simp only;omega,h2,h3,h4,?_,fun j hj=>?_⟩,by simp only [aam];omega⟩
  ·simp only
   rw [(uF h0 (show s.i<s.l.length by omega)).2,h5]
   try rw [List.map_append]
   try rfl
  ·by_cases hji:(j:Int)<s.i
   ·exact h6 j hji
   ·have:(j:Int)=s.i:=by simp only at hj;omega
    rw [this];exact hg
 ·have c1:s.n≤s.i:=by simpa using c1
  exact .inl ⟨rfl,fun j hj=>h6 j (by omega)⟩
def Vl:bK wK:=⟨0,61,[1,2,3,42,43,44],[],aEz,aEr,fun v b=>⟨uT (v.getD 1 .junk),aQ .str (v.getD 3 .junk),gI (v.getD 4 .junk),gI (v.getD 5 .junk),aQ dU (aX (aO b 0) 0),aQ .str (aX (aO b 0) 1),aQ dW (aX (aO b 0) 2),aQ dM (aX (aO b 0) 3),aQ dX (aX (aO b 0) 4),gSe .str (aO b 1)⟩,alD,fun s r=> {r with l:=s.l,n:=s.n,ah:=s.ah,aA:=s.aA,aj:=s.aj,ai:=s.ai,aJ:=s.aJ},fun s=>s,fun _ s=>s,[.ret,.exit 0],axO,aeA,aam⟩
abbrev afm:=Vl.run
abbrev ajb:=Vl.jG
abbrev aBK:=Vl.q
theorem azz (s:wK) (hI:aeA s):(alD s).all (fun _=>True):=by
 refine ⟨fun c1=>⟨?_,fun _=>trivial,fun c2=>⟨?_,trivial⟩⟩,fun _=>trivial⟩
 all_goals ((obtain ⟨h0,h1,h2,h3,h4,h5,h6⟩:=hI;first|(simp at c1;omega) |(simp only [Bool.or_eq_false_iff] at c2;exact c2.2)))
noncomputable def ai0:Specs:=bf [(98,Yi),(99,Yt),(100,XW)]
theorem arv:∀g S,ai0 g=some S→Valid Tryz.prog aS g S:=aT (l:=[(98,Yi),(99,Yt),(100,XW)]) ⟨atn,aty,as2,trivial⟩
theorem aqG:Vl.Ok:=⟨fun s=>by kernel_rfl,fun s=>by kernel_rfl,fun s=>rfl,fun s t r=>rfl,fun s=>rfl,fun s=>by kernel_rfl⟩
theorem aqz:Vl.Pf (axC):=⟨aD1,fun _ _=>rfl,azh,azz⟩
theorem atW:bn Tryz.prog aS (AN 0) (.loop Gl) Vl.lp:=bK.snd aqG aqz (aP (Γ:=ai0) (K:=dY) (L:=aC) arv aF Gl (fun b hb=>by rw [show aB Gl=[] by kernel_rfl] at hb;cases hb)) (fun s=>by kernel_rfl)
theorem atS (s:wK) (hE:axO s):∃s',aeA s'∧axC (ajb s) s' (afm s):=bK.fin aqG aqz s hE
def acd:List LV→T LV
 | [.agg [.xl (.pair .str (.pair (.int .i64) (.pair (.int .i64) (.pair (.int .i64) (.pair (.pair (.int .i64) (.int .i64)) (.pair (.int .i64) (.pair (.int .i64) (.pair (.int .i64) (.pair (.int .i64) (.int .i64)))))))))) cs,.xl (.str) os,.xl (.pair .str (.pair (.int .i64) (.pair (.int .i64) (.int .i64)))) ks,.xl (.pair .str (.pair (.int .i64) (.pair (.int .i64) (.pair (.int .i64) (.pair (.int .i64) (.pair (.int .i64) (.pair (.int .i64) (.int .i64)))))))) gs,.xl (.pair .str (.int .i64)) bs]]=> .ok (.v (.bool (fM cs os ks gs bs)))
 |_=> .no
noncomputable def Jm:List LV→T LV:=gJ Tryz.prog Tryz.f53.params.toList acd
theorem anS (cs:List Cd) (os:List ByteArray) (ks:List Ko) (gs:List Ch) (bs:List Ba):bT Tryz.prog aS (ai0) dY (fun i=>if i=5 then Vl.lp else aC i) Tryz.f53 [.agg [.xl dU cs,.xl .str os,.xl dW ks,.xl dM gs,.xl dX bs]]=.br ((decide ((List.length cs:Int)<1)) ||((decide ((List.length cs:Int)>16)) ||((decide ((List.length os:Int)>8)) ||((decide ((List.length ks:Int)>32)) ||((decide ((List.length gs:Int)>16)) ||(decide ((List.length bs:Int)>24))))))) (.ok (.v (.bool false))) (.req ((List.length cs:Int)≤1000∧(List.length os:Int)≤1000∧(List.length ks:Int)≤1000∧(List.length gs:Int)≤1000∧(List.length bs:Int)≤1000) (.req (aBK (⟨false,(gB cs os ks gs bs),(List.length (gB cs os ks gs bs):Int),(0:Int),cs,os,ks,gs,bs,([]:List ByteArray)⟩:wK)) (.br (iw (ajb (⟨false,(gB cs os ks gs bs),(List.length (gB cs os ks gs bs):Int),(0:Int),cs,os,ks,gs,bs,([]:List ByteArray)⟩:wK)) (.ret)) (.ok (.v (.bool (afm (⟨false,(gB cs os ks gs bs),(List.length (gB cs os ks gs bs):Int),(0:Int),cs,os,ks,gs,bs,([]:List ByteArray)⟩:wK)).r))) (.req ((List.length cs:Int)≤1000∧(List.length os:Int)≤1000∧(List.length ks:Int)≤1000∧(List.length gs:Int)≤1000∧(List.length bs:Int)≤1000) (.ok (.v (.bool (Vr cs os ks gs bs)))))))):=by kernel_rfl
theorem aeU:Valid Tryz.prog aS 53 Jm:=aH Tryz.func53 rfl arv aF (L:=(fun i=>if i=5 then Vl.lp else aC i)) (fun b hb=>by
 rw [show aB _=[Gl] by kernel_rfl] at hb
 simp only [List.mem_cons,List.not_mem_nil,or_false] at hb
 subst hb
 exact atW) (fun args lv h=>by
 unfold acd at h
 split at h
 ·simp only [canL,canX]
  rw [anS]
  rename_i cs os ks gs bs
  obtain rfl:=h
  refine ⟨fun c=>congrArg (fun z=>LV.v (.bool z)) ?_,fun c=>?_⟩
  ·rw [eq_comm,Bool.eq_false_iff]
   intro hx
   unfold fM at hx
   rw [Bool.and_eq_true,decide_eq_true_eq] at hx
   simp only [Bool.or_eq_true,decide_eq_true_eq] at c
   omega
  have hd:1≤cs.length∧cs.length≤16∧os.length≤8∧ks.length≤32∧gs.length≤16∧bs.length≤24:=by
   simp only [Bool.or_eq_false_iff,decide_eq_false_iff_not] at c
   omega
  have hs:fM cs os ks gs bs=(((gB cs os ks gs bs).all nameB&&once (gB cs os ks gs bs))&&Vr cs os ks gs bs):=by
   unfold fM
   rw [decide_eq_true hd,Bool.true_and,Bool.and_assoc]
  have hl:((gB cs os ks gs bs).length:Int)≤1000:=by
   unfold gB
   simp only [List.length_append,List.length_map]
   omega
  rw [hs]
  have hr:(List.length cs:Int)≤1000∧(List.length os:Int)≤1000∧(List.length ks:Int)≤1000∧(List.length gs:Int)≤1000∧(List.length bs:Int)≤1000:=by omega
  refine ⟨hr,?_⟩
  generalize gB cs os ks gs bs=l at*
  refine mQ ⟨⟨rfl,rfl,rfl,hl,trivial⟩,rfl,rfl⟩ (fun hE=>?_)
  obtain ⟨s',_,hq⟩:=atS _ hE.1
  rcases hq with ⟨q1,q2⟩ |⟨q1,q2,j,q3,q4⟩
  ·rw [q1]
   have hk:=(kH (d:=emp) (p:=nameB) (k:=id)).1 q2
   rw [List.map_id] at hk
   refine ⟨fun h=>(by cases h),fun _=>⟨hr,?_⟩⟩
   rw [hk,Bool.true_and]
   rfl
  ·rw [q1,q2]
   refine ⟨fun _=>congrArg (fun z=>LV.v (.bool z)) ?_,fun h=>by cases h⟩
   have hn:(l.all nameB&&once l)=false:=by
    rw [Bool.eq_false_iff];intro hx
    have:=(kH (d:=emp) (p:=nameB) (k:=id)).2 (by rw [List.map_id];exact hx) j q3
    exact Bool.noConfusion (this.symm.trans q4)
   rw [hn]
   rfl
 ·cases h)
end Go.Proofs.YtlihnbimgclogaaGreatDoor
namespace Go.Proofs.YtlihnbimgclogaaGreatDoor
open Go.Sx
def acC:List LV→T LV
 | [.agg [.xl (.pair .str (.pair (.int .i64) (.pair (.int .i64) (.pair (.int .i64) (.pair (.pair (.int .i64) (.int .i64)) (.pair (.int .i64) (.pair (.int .i64) (.pair (.int .i64) (.pair (.int .i64) (.int .i64)))))))))) cs,.xl (.str) os,.xl (.pair .str (.pair (.int .i64) (.pair (.int .i64) (.int .i64)))) ks,.xl (.pair .str (.pair (.int .i64) (.pair (.int .i64) (.pair (.int .i64) (.pair (.int .i64) (.pair (.int .i64) (.pair (.int .i64) (.int .i64)))))))) gs,.xl (.pair .str (.int .i64)) bs],.v (.int .i64 c)]=> .ok (.fn 129 [.xq 1 (fun j=>([.v (.int .i64 c)]:List LV).getD j .junk),.xq 5 (fun j=>([.xl dU cs,.xl .str os,.xl dW ks,.xl dM gs,.xl dX bs]:List LV).getD j .junk)])
 |_=> .no
noncomputable def Yg:List LV→T LV:=gJ Tryz.prog Tryz.f104.params.toList acC
noncomputable def Ac:Specs:=bf []
theorem D7:∀g S,Ac g=some S→Valid Tryz.prog aS g S:=aT (l:=[]) trivial
noncomputable def aaI:Hand:=inl Tryz.prog aS Ac (lX Tryz.prog aS (Ac) 20 2) 9
theorem aiq:dL Tryz.prog aS aaI:=bQ D7 (dQ D7) 9
theorem aoc (cs:List Cd) (os:List ByteArray) (ks:List Ko) (gs:List Ch) (bs:List Ba) (c:Int):bT Tryz.prog aS (Ac) aaI aC Tryz.f104 [.agg [.xl dU cs,.xl .str os,.xl dW ks,.xl dM gs,.xl dX bs],.v (.int .i64 c)]=.ok (.fn 129 [.xq 1 (fun j=>([.v (.int .i64 c)]:List LV).getD j .junk),.xq 5 (fun j=>([.xl dU cs,.xl .str os,.xl dW ks,.xl dM gs,.xl dX bs]:List LV).getD j .junk)]):=by kernel_rfl
theorem atj:Valid Tryz.prog aS 104 Yg:=aH Tryz.func104 rfl D7 aiq (aY (by kernel_rfl)) (fun args lv h=>by
 unfold acC at h
 split at h
 ·simp only [canL,canX]
  rw [aoc]
  exact h
 ·cases h)
noncomputable def afu:Array Tmp×Code×Code:=((jI (Tryz.f103.body.getD .skip))[0]?).getD (#[],.skip,.skip)
noncomputable def azK:Array Tmp:=afu.1
noncomputable def az4:Code:=afu.2.1
noncomputable def azZ:Code:=afu.2.2
structure pM where
 cs:List Cd
 os:List ByteArray
 ks:List Ko
 gs:List Ch
 bs:List Ba
 c:Int
 b0:Int
 b1:Bool
 st:LS
def aDk (s:pM):List LV:=[.uN 2,.xq 5 (fun j=>([.xl dU s.cs,.xl .str s.os,.xl dW s.ks,.xl dM s.gs,.xl dX s.bs]:List LV).getD j .junk),.v (.int .i64 s.c)]
noncomputable def aCj (s:pM):List aU:=[⟨[.v (.int .i64 s.b0)],3,.cl,false⟩,⟨[.v (.bool s.b1)],4,.cl,false⟩,⟨[.junk,.junk,.junk,.own 0 0,.own 1 0,.v (.tuple #[]),.junk,.v (.tuple #[]),.v (.tuple #[]),.v (.tuple #[]),.v (.tuple #[])],0,.kG azK az4 azZ s.st,false⟩]
noncomputable def Uh:Code:=((aB (Tryz.f129.body.getD .skip))[0]?).getD .skip
def KE (s:pM):T (Rd pM):=
 .br (decide (s.c≥0)) (.br (s.c==s.b0) (.ok (.stop (.ret) {s with b1:=true,st:=(.done (.ret))})) (.req (0≤s.c∧s.c<(List.length s.cs:Int)) (.ok (.next {s with c:=(fO s.cs s.c).2.1})))) (.ok (.stop (.exit 0) s))
abbrev LC (s:pM):=(KE s).rd s
def ak8 (s:pM):Prop:=s.st=.ready∧upB s.cs=true∧s.c<(s.cs.length:Int)∧s.b1=false
def U1 (s:pM):Prop:=s.st=.ready∧upB s.cs=true∧s.c<(s.cs.length:Int)
def OY (s:pM):Nat:=(s.c+1).toNat
def asG (x:Ex) (s s':pM):Prop:=(x=.ret∧s'.b1=true∧Vt s.cs s.b0 s.c=true)∨(x=.exit 0∧Vt s.cs s.b0 s.c=false)
theorem az7:∀s,ak8 s→U1 s:=by
 intro s h
 obtain ⟨h0,h1,h2,h3⟩:=h
 exact ⟨h0,h1,h2⟩
theorem afy (s:pM) (hI:U1 s):bJ (fun s'=>U1 s'∧OY s'<OY s) (fun x s'=>asG x s s') (LC s):=by
 unfold LC KE
 dsimp only [T.rd,T.rl]
 obtain ⟨h0,h1,h2⟩:=hI
 have hp:=agJ (o:=s.b0) h1 h2
 refine au (fun c1=>au (fun c2=>?_) (fun c2=>?_)) (fun c1=>?_)
 ·have c1:0≤s.c:=by simpa using c1
  exact .inl ⟨rfl,rfl,by rw [hp,if_pos c1,c2];rfl⟩
 ·have c1:0≤s.c:=by simpa using c1
  have:=VF h1 c1 h2
  exact ⟨⟨h0,h1,by simp only;omega⟩,by simp only [OY];omega⟩
 ·have c1:¬(0≤s.c):=by simpa using c1
  exact .inr ⟨rfl,by rw [hp,if_neg c1]⟩
noncomputable def JW:bK pM:=⟨3,18,[0,2,4],[],aDk,aCj,fun v b=>⟨aQ dU (nD (v.getD 1 .junk) 0),aQ .str (nD (v.getD 1 .junk) 1),aQ dW (nD (v.getD 1 .junk) 2),aQ dM (nD (v.getD 1 .junk) 3),aQ dX (nD (v.getD 1 .junk) 4),gI (v.getD 2 .junk),gI (aX (aO b 0) 0),uT (aX (aO b 1) 0),.ready⟩,KE,fun s r=> {r with cs:=s.cs,os:=s.os,ks:=s.ks,gs:=s.gs,bs:=s.bs,b0:=s.b0},fun s=> {s with st:=.ready},fun x s=> {s with st:=(match x with| .ret=>(.done (.ret)) | .exit 0=> .ready|_=> .ready)},[.ret,.exit 0],ak8,U1,OY⟩
noncomputable abbrev Ob:=JW.run
noncomputable abbrev Qh:=JW.jG
abbrev ayb:=JW.q
theorem auP (s:pM) (hI:U1 s):(KE s).all (fun _=>True):=by
 refine ⟨fun c1=>⟨fun _=>trivial,fun c2=>⟨?_,trivial⟩⟩,fun _=>trivial⟩
 ·(obtain ⟨h0,h1,h2⟩:=hI;simp at c1 h2;exact ⟨c1,h2⟩)
theorem Wp:JW.Ok:=⟨fun s=>by kernel_rfl,fun s=>by kernel_rfl,fun s=>rfl,fun s t r=>rfl,fun s=>rfl,fun s=>by kernel_rfl⟩
theorem VU:JW.Pf (asG):=⟨az7,fun s h=>by
 obtain ⟨cs,os,ks,gs,bs,c,b0,b1,st⟩:=s
 have e:st=.ready:=h.1
 subst e
 rfl,afy,auP⟩
theorem amd:bn Tryz.prog aS (AN 3) (.loop Uh) JW.lp:=bK.snd Wp VU (bF (Γ:=Ac) (K:=aaI) (L:=(tN Tryz.prog aS Ac aaI 20 2)) D7 aiq Uh (fun b _=>dR D7 aiq 20 2 b)) (fun s=>by kernel_rfl)
theorem avD (s:pM) (hE:ak8 s):(Qh s=.ret∧(Ob s).b1=true∧Vt s.cs s.b0 s.c=true)∨(Qh s=.exit 0∧Vt s.cs s.b0 s.c=false):=by
 have hk:=bK.uS Wp VU (fun s=>Vt s.cs s.b0 s.c) (fun s hI=>by
  obtain ⟨h0,h1,h2⟩:=hI
  have hp:=agJ (o:=s.b0) h1 h2
  show bJ _ _ (LC s)
  unfold LC KE
  dsimp only [T.rd,T.rl]
  refine au (fun c1=>au (fun c2=>rfl) (fun c2=>?_)) (fun c1=>rfl)
  have c1:0≤s.c:=by simpa using c1
  show Vt _ _ _=Vt _ _ _
  rw [hp,if_pos c1,c2,Bool.false_or]) s hE
 have hk:Vt s.cs s.b0 (Ob s).c=Vt s.cs s.b0 s.c:=hk
 obtain ⟨s',hI,hf⟩:=bK.end_ Wp VU s hE
 have hq:=xO (afy s' hI) hf
 have hc:=xO (Pn:=fun _=>True) (Ps:=fun _ r=>r.cs=s'.cs∧r.b0=s'.b0∧r.c=s'.c) (r:=LC s') (by
   unfold LC KE
   dsimp only [T.rd,T.rl]
   exact au (fun _=>au (fun _=>⟨rfl,rfl,rfl⟩) (fun _=>trivial)) (fun _=>⟨rfl,rfl,rfl⟩)) hf
 obtain ⟨hc1,hc3,hc2⟩:=hc
 have e1:s.cs=s'.cs:=hc1
 have e2:s.b0=s'.b0:=hc3
 rw [←hk,hc2,e1,e2]
 exact hq
def aj1:List LV→T LV
 | [.fn 129 [.xq 1 q0,.xq 5 q1],.v (.int .i64 o)]=>(match ([q0 0]:List LV) with
  | [.v (.int .i64 c)]=>(match ([q1 0,q1 1,q1 2,q1 3,q1 4]:List LV) with
  | [.xl (.pair .str (.pair (.int .i64) (.pair (.int .i64) (.pair (.int .i64) (.pair (.pair (.int .i64) (.int .i64)) (.pair (.int .i64) (.pair (.int .i64) (.pair (.int .i64) (.pair (.int .i64) (.int .i64)))))))))) cs,.xl (.str) _,.xl (.pair .str (.pair (.int .i64) (.pair (.int .i64) (.int .i64)))) _,.xl (.pair .str (.pair (.int .i64) (.pair (.int .i64) (.pair (.int .i64) (.pair (.int .i64) (.pair (.int .i64) (.pair (.int .i64) (.int .i64)))))))) _,.xl (.pair .str (.int .i64)) _]=> .req (upB cs=true∧c<(List.length cs:Int)) (.ok (.v (.bool (Vt cs o c))))
  |_=> .no)
  |_=> .no)
 |_=> .no
noncomputable def ajK:List LV→T LV:=gJ Tryz.prog Tryz.f103.params.toList aj1
noncomputable def ard:Hand:=inl Tryz.prog aS Ac (kD 129 3 1 (JW.lp) (lX Tryz.prog aS (Ac) 20 2)) 9
theorem aAL:dL Tryz.prog aS ard:=bQ D7 (dK Tryz.func129 rfl (by kernel_rfl) amd (dQ D7)) 9
theorem awc (c:Int) (cs:List Cd) (os:List ByteArray) (ks:List Ko) (gs:List Ch) (bs:List Ba) (o:Int):bT Tryz.prog aS (Ac) ard aC Tryz.f103 [.fn 129 [.xq 1 (fun j=>([.v (.int .i64 c)]:List LV).getD j .junk),.xq 5 (fun j=>([.xl dU cs,.xl .str os,.xl dW ks,.xl dM gs,.xl dX bs]:List LV).getD j .junk)],.v (.int .i64 o)]=.req (ayb (⟨cs,os,ks,gs,bs,c,o,false,.ready⟩:pM)) (.br (iw (Qh (⟨cs,os,ks,gs,bs,c,o,false,.ready⟩:pM)) (.ret)) (.ok (.v (.bool (Ob (⟨cs,os,ks,gs,bs,c,o,false,.ready⟩:pM)).b1))) (.ok (.v (.bool false)))):=by kernel_rfl
theorem azb:Valid Tryz.prog aS 103 ajK:=aH Tryz.func103 rfl D7 aAL (aY (by kernel_rfl)) (fun args lv h=>by
 unfold aj1 at h
 split at h
 ·split at h
  case h_2=>cases h
  rename_i heq0
  split at h
  case h_2=>cases h
  rename_i heq1
  simp only [canL,canX]
  rw [o9 (n:=1) heq0]
  simp only [canL,canX]
  rw [o9 (n:=5) heq1]
  simp only [canL,canX]
  rw [awc]
  obtain ⟨⟨hu,hc⟩,rfl⟩:=h
  refine mQ ⟨⟨rfl,hu,hc,rfl⟩,rfl,rfl⟩ (fun hE=>?_)
  rcases avD _ hE.1 with ⟨h1,h2,h3⟩ |⟨h1,h2⟩
  ·rw [h1,h2]
   exact ⟨fun _=>congrArg (fun z=>LV.v (.bool z)) h3.symm,fun h=>by cases h⟩
  ·rw [h1]
   exact ⟨fun h=>(by cases h),fun _=>congrArg (fun z=>LV.v (.bool z)) h2.symm⟩
 ·cases h)
end Go.Proofs.YtlihnbimgclogaaGreatDoor
namespace Go.Proofs.YtlihnbimgclogaaGreatDoor
open Go.Sx
structure vC where
 l:List Ch
 n:Int
 i:Int
 bI:List Cd
 iP:List ByteArray
 fG:List Ko
 fZ:List Ch
 mP:List Ba
 b1:Int
 out:List Int
def aEF (s:vC):List LV:=[.fn 102 [.own 0 0,.own 1 0],.os 2 1 0 (List.length s.out),.xl dM s.l,.v (.int .i64 s.n),.v (.int .i64 s.i)]
def aEx (s:vC):List aU:=[⟨[.xl dU s.bI,.xl .str s.iP,.xl dW s.fG,.xl dM s.fZ,.xl dX s.mP],28,.cl,false⟩,⟨[.v (.int .i64 s.b1)],3,.cl,false⟩,⟨[],3,.vec (.int .i64) s.out,false⟩]
noncomputable def Gp:Code:=((aB (Tryz.f55.body.getD .skip))[0]?).getD .skip
def alH (s:vC):T (Rd vC):=
 .br (decide (s.i<s.n)) (.req (0≤s.i∧s.i<(List.length s.l:Int)) (.req (upB s.bI=true∧(aW s.l s.i).2.1<(List.length s.bI:Int)) (.br (Vt s.bI s.b1 (aW s.l s.i).2.1) (.req (0+(List.length s.out)=List.length s.out∧((List.length s.out+List.length ([s.i]):Nat):Int)*8≤2^47∧((List.length s.out+List.length ([s.i]):Nat):Int)<2^62) (.req (0=0∧(List.length s.out+List.length ([s.i]))=List.length (s.out++([s.i]))) (.ok (.next {s with i:=(IntKind.i64.wrap (s.i+1)),out:=(s.out++([s.i]))})))) (.rl s.out (.ok (.next {s with i:=(IntKind.i64.wrap (s.i+1))})))))) (.rl s.out (.ok (.stop (.exit 0) s)))
abbrev aBh (s:vC):=(alH s).rd s
def aqk (s:vC):Prop:=s.i=0∧s.out=[]∧s.n=(s.l.length:Int)∧s.n≤1000∧upB s.bI=true∧atB s.bI s.l=true
def aeF (s:vC):Prop:=(0≤s.i∧s.i≤s.n)∧s.out=tq s.bI s.l s.b1 s.i.toNat∧s.n=(s.l.length:Int)∧s.n≤1000∧upB s.bI=true∧atB s.bI s.l=true
def Td (s:vC):Nat:=(s.n-s.i).toNat
def axH (x:Ex) (_ s':vC):Prop:=x=.exit 0∧s'.out=tq s'.bI s'.l s'.b1 s'.l.length
theorem aEp:∀s,aqk s→aeF s:=by
 intro s h
 obtain ⟨h0,h1,h2,h3,h4,h5⟩:=h
 exact ⟨⟨by omega,by omega⟩,by rw [h0,h1];rfl,h2,h3,h4,h5⟩
theorem aBz (s:vC) (hI:aeF s):bJ (fun s'=>aeF s'∧Td s'<Td s) (fun x s'=>axH x s s') (aBh s):=by
 unfold aBh alH
 dsimp only [T.rd,T.rl]
 obtain ⟨⟨h0,h1⟩,h2,h3,h4,h5,h6⟩:=hI
 refine au (fun c1=>?_) (fun c1=>?_)
 ·have c1:s.i<s.n:=by simpa using c1
  have hs:=aes (cs:=s.bI) (gs:=s.l) (o:=s.b1) (k:=s.i.toNat)
  rw [show s.i.toNat+1=(s.i+1).toNat by omega,Int.toNat_of_nonneg h0] at hs
  rw [aK (x:=s.i+1) (by omega) (by omega)]
  refine au (fun c2=>?_) (fun c2=>?_)
  ·refine ⟨⟨⟨by simp only;omega,by simp only;omega⟩,?_,h3,h4,h5,h6⟩,by simp only [Td];omega⟩
   simp only
   rw [hs,if_pos c2,h2]
  ·refine ⟨⟨⟨by simp only;omega,by simp only;omega⟩,?_,h3,h4,h5,h6⟩,by simp only [Td];omega⟩
   simp only
   rw [hs,if_neg (by rw [c2];simp),h2,List.append_nil]
 ·have c1:s.n≤s.i:=by simpa using c1
  exact ⟨rfl,by rw [h2,show s.i.toNat=s.l.length by omega]⟩
def Vq:bK vC:=⟨0,42,[6,7,26,27,28],[.nl 7 3 (.int .i64)],aEF,aEx,fun v b=>⟨aQ dM (v.getD 2 .junk),gI (v.getD 3 .junk),gI (v.getD 4 .junk),aQ dU (aX (aO b 0) 0),aQ .str (aX (aO b 0) 1),aQ dW (aX (aO b 0) 2),aQ dM (aX (aO b 0) 3),aQ dX (aX (aO b 0) 4),gI (aX (aO b 1) 0),iT (.int .i64) (aO b 2)⟩,alH,fun s r=> {r with l:=s.l,n:=s.n,bI:=s.bI,iP:=s.iP,fG:=s.fG,fZ:=s.fZ,mP:=s.mP,b1:=s.b1},fun s=>s,fun _ s=>s,[.exit 0],aqk,aeF,Td⟩
abbrev CX:=Vq.run
abbrev aw0:=Vq.jG
abbrev aBP:=Vq.q
theorem azF (s:vC) (hI:aeF s):(alH s).all (fun _=>True):=by
 refine ⟨fun c1=>⟨?_,?_,fun c2=>⟨?_,?_,trivial⟩,fun c2=>⟨⟨rfl,rfl⟩,trivial⟩⟩,fun c1=>⟨⟨rfl,rfl⟩,trivial⟩⟩
 all_goals ((obtain ⟨⟨h0,h1⟩,h2,h3,h4,h5,h6⟩:=hI;have hol:s.out.length≤s.i.toNat:=(by rw [h2];exact Jf);(try simp only [decide_eq_true_eq] at c1);first|omega|exact ⟨h5,axx h6 h0 (by omega)⟩ |(refine ⟨by omega,?_,?_⟩<;>simp only [List.length_cons,List.length_nil]<;>omega) |exact ⟨rfl,by simp⟩ |exact ⟨rfl,rfl⟩))
noncomputable def TL:Specs:=bf [(53,Jm),(103,ajK),(104,Yg)]
theorem aaQ:∀g S,TL g=some S→Valid Tryz.prog aS g S:=aT (l:=[(53,Jm),(103,ajK),(104,Yg)]) ⟨aeU,azb,atj,trivial⟩
noncomputable def aiC:Hand:=inl Tryz.prog aS TL (lX Tryz.prog aS (TL) 20 2) 9
theorem aq2:dL Tryz.prog aS aiC:=bQ aaQ (dQ aaQ) 9
theorem aqL:Vq.Ok:=⟨fun s=>by kernel_rfl,fun s=>by kernel_rfl,fun s=>rfl,fun s t r=>rfl,fun s=>rfl,fun s=>by kernel_rfl⟩
theorem aqE:Vq.Pf (axH):=⟨aEp,fun _ _=>rfl,aBz,azF⟩
theorem at6:bn Tryz.prog aS (AN 0) (.loop Gp) Vq.lp:=bK.snd aqL aqE (aP (Γ:=TL) (K:=aiC) (L:=aC) aaQ aq2 Gp (fun b hb=>by rw [show aB Gp=[] by kernel_rfl] at hb;cases hb)) (fun s=>by kernel_rfl)
theorem axt (s:vC) (hE:aqk s):∃s',aeF s'∧axH (aw0 s) s' (CX s):=bK.fin aqL aqE s hE
def UQ:List LV→T LV
 | [.agg [.xl (.pair .str (.pair (.int .i64) (.pair (.int .i64) (.pair (.int .i64) (.pair (.pair (.int .i64) (.int .i64)) (.pair (.int .i64) (.pair (.int .i64) (.pair (.int .i64) (.pair (.int .i64) (.int .i64)))))))))) cs,.xl (.str) os,.xl (.pair .str (.pair (.int .i64) (.pair (.int .i64) (.int .i64)))) ks,.xl (.pair .str (.pair (.int .i64) (.pair (.int .i64) (.pair (.int .i64) (.pair (.int .i64) (.pair (.int .i64) (.pair (.int .i64) (.int .i64)))))))) gs,.xl (.pair .str (.int .i64)) bs],.v (.int .i64 o)]=> .ok (.iD [.xl (.int .i64) (bU cs os ks gs bs o),.v (.int .i64 (axw cs os ks gs bs o))])
 |_=> .no
noncomputable def QD:List LV→T LV:=gJ Tryz.prog Tryz.f55.params.toList UQ
theorem ahW (cs:List Cd) (os:List ByteArray) (ks:List Ko) (gs:List Ch) (bs:List Ba) (o:Int):bT Tryz.prog aS (TL) aiC (fun i=>if i=6 then Vq.lp else aC i) Tryz.f55 [.agg [.xl dU cs,.xl .str os,.xl dW ks,.xl dM gs,.xl dX bs],.v (.int .i64 o)]=.br ((!(fM cs os ks gs bs)) ||((decide (o<0)) ||(decide (o≥(List.length cs:Int))))) (.ok (.iD [.xl (.int .i64) ([]:List Int),.v (.int .i64 1)])) (.req (0=0∧0=List.length ([]:List Int)) (.req (aBP (⟨gs,(List.length gs:Int),(0:Int),cs,os,ks,gs,bs,o,([]:List Int)⟩:vC)) (.req (0+(List.length (CX (⟨gs,(List.length gs:Int),(0:Int),cs,os,ks,gs,bs,o,([]:List Int)⟩:vC)).out)≤List.length (CX (⟨gs,(List.length gs:Int),(0:Int),cs,os,ks,gs,bs,o,([]:List Int)⟩:vC)).out) (.ok (.iD [.xl (.int .i64) (((CX (⟨gs,(List.length gs:Int),(0:Int),cs,os,ks,gs,bs,o,([]:List Int)⟩:vC)).out.drop 0).take (List.length (CX (⟨gs,(List.length gs:Int),(0:Int),cs,os,ks,gs,bs,o,([]:List Int)⟩:vC)).out)),.v (.int .i64 0)]))))):=by kernel_rfl
theorem alz:Valid Tryz.prog aS 55 QD:=aH Tryz.func55 rfl aaQ aq2 (L:=(fun i=>if i=6 then Vq.lp else aC i)) (fun b hb=>by
 rw [show aB _=[Gp] by kernel_rfl] at hb
 simp only [List.mem_cons,List.not_mem_nil,or_false] at hb
 subst hb
 exact at6) (fun args lv h=>by
 unfold UQ at h
 split at h
 ·simp only [canL,canX]
  rw [ahW]
  rename_i cs os ks gs bs o
  obtain rfl:=h
  refine ⟨fun c=>?_,fun c=>?_⟩
  ·have hn:¬(fM cs os ks gs bs=true∧0≤o∧o<(cs.length:Int)):=by
    rintro ⟨h1,h2,h3⟩
    rw [h1] at c
    simp at c
    omega
   show LV.iD _=_
   unfold bU axw
   rw [if_neg hn,if_neg hn]
  ·simp only [Bool.or_eq_false_iff,Bool.not_eq_false',decide_eq_false_iff_not] at c
   have hp:fM cs os ks gs bs=true∧0≤o∧o<(cs.length:Int):=⟨c.1,by omega,by omega⟩
   have hl:=(fP.1 c.1).1
   have hE:aqk ⟨gs,(List.length gs:Int),(0:Int),cs,os,ks,gs,bs,o,([]:List Int)⟩:=⟨rfl,rfl,rfl,by simp only;omega,afa c.1,afc c.1⟩
   obtain ⟨s',_,q1,q2⟩:=axt _ hE
   have q2:(CX ⟨gs,(List.length gs:Int),(0:Int),cs,os,ks,gs,bs,o,([]:List Int)⟩).out=tq cs gs o gs.length:=q2
   refine ⟨⟨rfl,rfl⟩,⟨hE,rfl,rfl⟩,by omega,?_⟩
   show LV.iD [LV.xl _ _,_]=_
   rw [List.drop_zero,List.take_length,q2]
   unfold bU axw
   rw [if_pos hp,if_pos hp]
 ·cases h)
end Go.Proofs.YtlihnbimgclogaaGreatDoor
namespace Go.Proofs.YtlihnbimgclogaaGreatDoor
open Go.Sx
def ac2:List LV→T LV
 | [.v (.agg ⟨[.int .i64 am,.int .i64 mo,.int .i64 ga,.int .i64 lo,.int .i64 de]⟩)]=> .ok (.v (.bool (Qn (am,mo,ga,lo,de))))
 |_=> .no
noncomputable def YB:List LV→T LV:=gJ Tryz.prog Tryz.f130.params.toList ac2
noncomputable def Lr:Specs:=bf []
theorem TB:∀g S,Lr g=some S→Valid Tryz.prog aS g S:=aT (l:=[]) trivial
noncomputable def arb:Hand:=inl Tryz.prog aS Lr (lX Tryz.prog aS (Lr) 20 2) 9
theorem aAK:dL Tryz.prog aS arb:=bQ TB (dQ TB) 9
theorem aoC (am mo ga lo de:Int):bT Tryz.prog aS (Lr) arb aC Tryz.f130 [.v (.agg #[.int .i64 am,.int .i64 mo,.int .i64 ga,.int .i64 lo,.int .i64 de])]=.br ((am==0)&&((mo==0)&&((ga==0)&&((lo==0)&&(de==0))))) (.ok (.v (.bool true))) (.br ((decide (am≥0))&&(decide (am≤200000))) (.br (decide (mo>am)) (.br (decide (mo≤200000)) (.br ((decide (ga≥0))&&(decide (ga≤1000))) (.br ((decide (lo≥0))&&(decide (lo≤1000))) (.ok (.v (.bool ((decide (de≥1))&&(decide (de≤1000000)))))) (.ok (.v (.bool false)))) (.ok (.v (.bool false)))) (.ok (.v (.bool false)))) (.ok (.v (.bool false)))) (.ok (.v (.bool false)))):=by kernel_rfl
theorem atH:Valid Tryz.prog aS 130 YB:=aH Tryz.func130 rfl TB aAK (aY (by kernel_rfl)) (fun args lv h=>by
 unfold ac2 at h
 split at h
 ·simp only [canL,canX]
  rw [aoC]
  rename_i am mo ga lo de
  obtain rfl:=h
  unfold Qn cbZ
  simp only
  refine ⟨fun c=>by rw [c];rfl,fun c=>?_⟩
  rw [c,Bool.false_or]
  unfold inB
  refine ⟨fun c1=>⟨fun c2=>⟨fun c3=>⟨fun c4=>⟨fun c5=>?_,fun c5=>?_⟩,fun c4=>?_⟩,fun c3=>?_⟩,fun c2=>?_⟩,fun c1=>?_⟩
  all_goals refine congrArg (fun z=>LV.v (.bool z)) ?_
  all_goals
   rw [Bool.eq_iff_iff]
   simp only [Bool.and_eq_true,Bool.and_eq_false_iff,decide_eq_true_eq,decide_eq_false_iff_not,Bool.false_eq_true] at*
   constructor<;>intro hz<;>first|exact hz.elim|(exfalso;omega) |omega
 ·cases h)
def ab5:List LV→T LV
 | [.xq 6 q0]=>(match ([q0 0,q0 1,q0 2,q0 3,q0 4,q0 5]:List LV) with
  | [.v (.int .i64 _),.v (.int .i64 _),.v (.int .i64 _),.v (.int .i64 lo),.v (.int .i64 de),.v (.int .i64 _)]=> .ok (.v (.int .i64 (if de<lo then de else lo)))
  |_=> .no)
 |_=> .no
noncomputable def XU:List LV→T LV:=gJ Tryz.prog Tryz.f132.params.toList ab5
theorem anN (am mo ga lo de now:Int):bT Tryz.prog aS (Lr) dY aC Tryz.f132 [.xq 6 (fun j=>([.v (.int .i64 am),.v (.int .i64 mo),.v (.int .i64 ga),.v (.int .i64 lo),.v (.int .i64 de),.v (.int .i64 now)]:List LV).getD j .junk)]=.ok (.v (.int .i64 (if de<lo then de else lo))):=by kernel_rfl
theorem asZ:Valid Tryz.prog aS 132 XU:=aH Tryz.func132 rfl TB aF (aY (by kernel_rfl)) (fun args lv h=>by
 unfold ab5 at h
 split at h
 ·split at h
  case h_2=>cases h
  rename_i heq0
  simp only [canL,canX]
  rw [o9 (n:=6) heq0]
  simp only [canL,canX]
  rw [anN]
  exact h
 ·cases h)
def ab4:List LV→T LV
 | [.xq 6 q0]=>(match ([q0 0,q0 1,q0 2,q0 3,q0 4,q0 5]:List LV) with
  | [.v (.int .i64 am),.v (.int .i64 mo),.v (.int .i64 ga),.v (.int .i64 lo),.v (.int .i64 de),.v (.int .i64 _)]=> .ok (.v (.bool (cbZ (am,mo,ga,lo,de))))
  |_=> .no)
 |_=> .no
noncomputable def XT:List LV→T LV:=gJ Tryz.prog Tryz.f131.params.toList ab4
theorem anM (am mo ga lo de now:Int):bT Tryz.prog aS (Lr) dY aC Tryz.f131 [.xq 6 (fun j=>([.v (.int .i64 am),.v (.int .i64 mo),.v (.int .i64 ga),.v (.int .i64 lo),.v (.int .i64 de),.v (.int .i64 now)]:List LV).getD j .junk)]=.ok (.v (.bool ((am==0)&&((mo==0)&&((ga==0)&&((lo==0)&&(de==0))))))):=by kernel_rfl
theorem asY:Valid Tryz.prog aS 131 XT:=aH Tryz.func131 rfl TB aF (aY (by kernel_rfl)) (fun args lv h=>by
 unfold ab4 at h
 split at h
 ·split at h
  case h_2=>cases h
  rename_i heq0
  simp only [canL,canX]
  rw [o9 (n:=6) heq0]
  simp only [canL,canX]
  rw [anM]
  exact h
 ·cases h)
structure y9 where
 low:Int
 high:Int
 yV:Int
 Qq:Int
 Qs:Int
 Qr:Int
 XI:Int
 Jg:Int
 b11:Int
 b12:Int
 b13:Int
 b14:Int
 XH:Int
 b3:Int
def aEE (s:y9):List LV:=[.v (.int .i64 s.low),.v (.int .i64 s.high),.fn 134 [.own 2 0,.own 3 0]]
def aEw (s:y9):List aU:=[⟨[.v (.int .i64 s.yV),.v (.int .i64 s.Qq),.v (.int .i64 s.Qs),.v (.int .i64 s.Qr),.v (.int .i64 s.XI)],103,.cl,false⟩,⟨[.v (.int .i64 s.Jg),.v (.int .i64 s.b11),.v (.int .i64 s.b12),.v (.int .i64 s.b13),.v (.int .i64 s.b14),.v (.int .i64 s.XH)],190,.cl,false⟩,⟨[.own 1 0],188,.cl,false⟩,⟨[.v (.int .i64 s.b3)],3,.cl,false⟩]
noncomputable def abY:Code:=((aB (Tryz.f133.body.getD .skip))[0]?).getD .skip
def alG (s:y9):T (Rd y9):=
 .br (decide (s.low<s.high)) (.req ((2:Int)≠0) (.br (decide ((IntKind.i64.wrap ((IntKind.i64.wrap (s.b12*(IntKind.i64.wrap (s.low+(IntKind.i64.wrap ((IntKind.i64.wrap ((IntKind.i64.wrap (s.high-s.low))+1)).tdiv 2))))))*(IntKind.i64.wrap (s.low+(IntKind.i64.wrap ((IntKind.i64.wrap ((IntKind.i64.wrap (s.high-s.low))+1)).tdiv 2))))))≤s.b3)) (.ok (.next {s with low:=(IntKind.i64.wrap (s.low+(IntKind.i64.wrap ((IntKind.i64.wrap ((IntKind.i64.wrap (s.high-s.low))+1)).tdiv 2))))})) (.ok (.next {s with high:=(IntKind.i64.wrap ((IntKind.i64.wrap (s.low+(IntKind.i64.wrap ((IntKind.i64.wrap ((IntKind.i64.wrap (s.high-s.low))+1)).tdiv 2))))-1))})))) (.ok (.stop (.exit 0) s))
abbrev aBg (s:y9):=(alG s).rd s
def ayr (s:y9):Prop:=s.low=0∧s.high=1000∧(0≤s.b12∧s.b12≤1000)∧0≤s.b3
def aeE (s:y9):Prop:=(0≤s.low∧s.low≤s.high∧s.high≤1000)∧s.b12*s.low*s.low≤s.b3∧(∀a:Int,s.high<a→a≤1000→¬s.b12*a*a≤s.b3)∧(0≤s.b12∧s.b12≤1000)∧0≤s.b3
def Tc (s:y9):Nat:=(s.high-s.low).toNat
def axG (x:Ex) (_ s':y9):Prop:=x=.exit 0∧s'.low=prm s'.b12 s'.b3
theorem aEh:∀s,ayr s→aeE s:=by
 intro s h
 obtain ⟨h0,h1,h2,h3⟩:=h
 exact ⟨by omega,by rw [h0];simpa using h3,fun a h h2=>by omega,h2,h3⟩
theorem aAP (s:y9) (hI:aeE s):bJ (fun s'=>aeE s'∧Tc s'<Tc s) (fun x s'=>axG x s s') (aBg s):=by
 unfold aBg alG
 dsimp only [T.rd,T.rl]
 obtain ⟨⟨h0,h1,h2⟩,h3,h4,⟨h5,h6⟩,h7⟩:=hI
 have em:s.low<s.high→IntKind.i64.wrap (s.low+IntKind.i64.wrap ((IntKind.i64.wrap (IntKind.i64.wrap (s.high-s.low)+1)).tdiv 2))=s.low+(s.high-s.low+1) / 2:=fun c=>by
  rw [aK (x:=s.high-s.low) (by omega) (by omega),aK (x:=s.high-s.low+1) (by omega) (by omega),Int.tdiv_eq_ediv_of_nonneg (by omega),aK (x:=(s.high-s.low+1) / 2) (by omega) (by omega),aK (by omega) (by omega)]
 refine au (fun c1=>?_) (fun c1=>?_)
 ·have c1:s.low<s.high:=by simpa using c1
  rw [em c1]
  have hm1:s.low<s.low+(s.high-s.low+1) / 2:=by omega
  have hm2:s.low+(s.high-s.low+1) / 2≤s.high:=by omega
  generalize s.low+(s.high-s.low+1) / 2=m at hm1 hm2⊢
  obtain ⟨⟨b1,b2⟩,b3,b4⟩:=azl h5 h6 (m:=m) (by omega) (by omega)
  rw [aK (x:=s.b12*m) (by omega) (by omega),aK (x:=s.b12*m*m) (by omega) (by omega),aK (x:=m-1) (by omega) (by omega)]
  refine au (fun c2=>?_) (fun c2=>?_)
  ·have c2:s.b12*m*m≤s.b3:=by simpa using c2
   exact ⟨⟨⟨by simp only;omega,by simp only;omega,h2⟩,c2,h4,⟨h5,h6⟩,h7⟩,by simp only [Tc];omega⟩
  ·have c2:¬s.b12*m*m≤s.b3:=by simpa using c2
   refine ⟨⟨⟨h0,by simp only;omega,by simp only;omega⟩,h3,fun a ha hk=>?_,⟨h5,h6⟩,h7⟩,by simp only [Tc];omega⟩
   have:=alK h5 (a:=m) (b:=a) (by omega) (by simp only at ha;omega)
   simp only
   omega
 ·have c1:s.high≤s.low:=by simpa using c1
  refine ⟨rfl,(aaf (k:=1000) h0 (by omega) (.inr h3) (fun a ha hk=>h4 a (by omega) (by omega))).symm⟩
def YO:bK y9:=⟨4,25,[0,1,2],[],aEE,aEw,fun v b=>⟨gI (v.getD 0 .junk),gI (v.getD 1 .junk),gI (aX (aO b 0) 0),gI (aX (aO b 0) 1),gI (aX (aO b 0) 2),gI (aX (aO b 0) 3),gI (aX (aO b 0) 4),gI (aX (aO b 1) 0),gI (aX (aO b 1) 1),gI (aX (aO b 1) 2),gI (aX (aO b 1) 3),gI (aX (aO b 1) 4),gI (aX (aO b 1) 5),gI (aX (aO b 3) 0)⟩,alG,fun s r=> {r with yV:=s.yV,Qq:=s.Qq,Qs:=s.Qs,Qr:=s.Qr,XI:=s.XI,Jg:=s.Jg,b11:=s.b11,b12:=s.b12,b13:=s.b13,b14:=s.b14,XH:=s.XH,b3:=s.b3},fun s=>s,fun _ s=>s,[.exit 0],ayr,aeE,Tc⟩
abbrev afo:=YO.run
abbrev awZ:=YO.jG
abbrev aBO:=YO.q
noncomputable def Ec:Specs:=bf [(130,YB),(131,XT),(132,XU)]
theorem IJ:∀g S,Ec g=some S→Valid Tryz.prog aS g S:=aT (l:=[(130,YB),(131,XT),(132,XU)]) ⟨atH,asY,asZ,trivial⟩
noncomputable def aiB:Hand:=inl Tryz.prog aS Ec (lX Tryz.prog aS (Ec) 20 2) 9
theorem aq1:dL Tryz.prog aS aiB:=bQ IJ (dQ IJ) 9
theorem azE (s:y9) (_:aeE s):(alG s).all (fun _=>True):=by
 refine ⟨fun c1=>⟨?_,fun _=>trivial,fun _=>trivial⟩,fun _=>trivial⟩
 ·(first|decide|omega)
theorem aqK:YO.Ok:=⟨fun s=>by kernel_rfl,fun s=>by kernel_rfl,fun s=>rfl,fun s t r=>rfl,fun s=>rfl,fun s=>by kernel_rfl⟩
theorem aqD:YO.Pf (axG):=⟨aEh,fun _ _=>rfl,aAP,azE⟩
theorem at1:bn Tryz.prog aS (AN 4) (.loop abY) YO.lp:=bK.snd aqK aqD (bF (Γ:=Ec) (K:=aiB) (L:=(tN Tryz.prog aS Ec aiB 20 2)) IJ aq1 abY (fun b _=>dR IJ aq1 20 2 b)) (fun s=>by kernel_rfl)
theorem awK (s:y9) (hE:ayr s):∃s',aeE s'∧axG (awZ s) s' (afo s):=bK.fin aqK aqD s hE
def acB:List LV→T LV
 | [.v (.agg ⟨[.int .i64 am,.int .i64 mo,.int .i64 ga,.int .i64 lo,.int .i64 de]⟩)]=> .ok (.v (.tuple #[.int .i64 (pmA (am,mo,ga,lo,de)),.int .i64 (pmE (am,mo,ga,lo,de))]))
 |_=> .no
noncomputable def Yf:List LV→T LV:=gJ Tryz.prog Tryz.f105.params.toList acB
noncomputable def ara:Hand:=inl Tryz.prog aS Ec (kD 133 4 1 (YO.lp) (lX Tryz.prog aS (Ec) 20 2)) 9
theorem aAJ:dL Tryz.prog aS ara:=bQ IJ (dK Tryz.func133 rfl (by kernel_rfl) at1 (dQ IJ)) 9
theorem aob (am mo ga lo de:Int):bT Tryz.prog aS (Ec) ara aC Tryz.f105 [.v (.agg #[.int .i64 am,.int .i64 mo,.int .i64 ga,.int .i64 lo,.int .i64 de])]=.br (!(Qn (am,mo,ga,lo,de))) (.ok (.v (.tuple #[.int .i64 0,.int .i64 1]))) (.br (cbZ (am,mo,ga,lo,de)) (.ok (.v (.tuple #[.int .i64 1000,.int .i64 0]))) (.req (aBO (⟨(0:Int),(1000:Int),am,mo,ga,lo,de,am,mo,ga,lo,de,(0:Int),(IntKind.i64.wrap ((if de<lo then de else lo)*(IntKind.i64.wrap (mo-am))))⟩:y9)) (.ok (.v (.tuple #[.int .i64 (afo (⟨(0:Int),(1000:Int),am,mo,ga,lo,de,am,mo,ga,lo,de,(0:Int),(IntKind.i64.wrap ((if de<lo then de else lo)*(IntKind.i64.wrap (mo-am))))⟩:y9)).low,.int .i64 0]))))):=by kernel_rfl
theorem ati:Valid Tryz.prog aS 105 Yf:=aH Tryz.func105 rfl IJ aAJ (aY (by kernel_rfl)) (fun args lv h=>by
 unfold acB at h
 split at h
 ·simp only [canL,canX]
  rw [aob]
  rename_i am mo ga lo de
  obtain rfl:=h
  refine ⟨fun c=>?_,fun c=>⟨fun c2=>?_,fun c2=>?_⟩⟩
  ·have c:Qn (am,mo,ga,lo,de)=false:=by simpa using c
   simp [T.all,pmA,pmE,c]
  ·have c:Qn (am,mo,ga,lo,de)=true:=by simpa using c
   simp [T.all,pmA,pmE,c,c2]
  ·have c:Qn (am,mo,ga,lo,de)=true:=by simpa using c
   obtain ⟨⟨h1,h2,h3⟩,⟨h4,h5⟩,⟨h6,h7⟩,h8,h9⟩:=axq c c2
   simp only at h1 h2 h3 h4 h5 h6 h7 h8 h9
   have hm:0≤(if de<lo then de else lo)∧(if de<lo then de else lo)≤1000:=by split<;>omega
   have e:pmA (am,mo,ga,lo,de)=prm ga ((if de<lo then de else lo)*(mo-am)):=by
    unfold pmA
    rw [if_pos c,if_neg (by rw [c2];simp)]
   have e2:pmE (am,mo,ga,lo,de)=0:=by
    unfold pmE
    rw [if_pos c]
   rw [e,e2,aK (x:=mo-am) (by omega) (by omega)]
   generalize (if de<lo then de else lo)=mn at hm⊢
   have a1:0≤mn*(mo-am):=Int.mul_nonneg hm.1 (by omega)
   have a2:mn*(mo-am)≤1000*(mo-am):=Int.mul_le_mul_of_nonneg_right hm.2 (by omega)
   rw [aK (x:=mn*(mo-am)) (by omega) (by omega)]
   refine mQ ⟨⟨rfl,rfl,⟨h4,h5⟩,a1⟩,rfl,rfl⟩ (fun hE=>?_)
   obtain ⟨s',_,q1,q2⟩:=awK _ hE.1
   show LV.v (.tuple #[.int .i64 _,_])=_
   rw [q2]
   rfl
 ·cases h)
end Go.Proofs.YtlihnbimgclogaaGreatDoor
namespace Go.Proofs.YtlihnbimgclogaaGreatDoor
open Go.Sx
structure mW where
 first:Int
 l:List Int
 n:Int
 i:Int
def aDx (s:mW):List LV:=[.v (.int .i64 s.first),.xl (.int .i64) s.l,.v (.int .i64 s.n),.v (.int .i64 s.i)]
def aCw (_:mW):List aU:=[]
noncomputable def BB:Code:=((aB (Tryz.f106.body.getD .skip))[0]?).getD .skip
def Rz (s:mW):T (Rd mW):=
 .br (decide (s.i<s.n)) (.req (0≤s.i∧s.i<(List.length s.l:Int)) (.ok (.next {s with first:=(if (gi s.l s.i)<s.first then (gi s.l s.i) else s.first),i:=(IntKind.i64.wrap (s.i+1))}))) (.ok (.stop (.exit 0) s))
abbrev abg (s:mW):=(Rz s).rd s
def adu (s:mW):Prop:=s.i=0∧s.n=(s.l.length:Int)∧s.n≤1000
def Nj (s:mW):Prop:=0≤s.i∧s.i≤s.n∧s.n=(s.l.length:Int)∧s.n≤1000
def O7 (s:mW):Nat:=(s.n-s.i).toNat
def akA (x:Ex) (_ s':mW):Prop:=x=.exit 0∧s'.i=s'.n
theorem aAq:∀s,adu s→Nj s:=by
 intro s h
 obtain ⟨h0,h1,h2⟩:=h
 exact ⟨by omega,by omega,h1,h2⟩
theorem awp (s:mW) (hI:Nj s):bJ (fun s'=>Nj s'∧O7 s'<O7 s) (fun x s'=>akA x s s') (abg s):=by
 unfold abg Rz
 dsimp only [T.rd,T.rl]
 obtain ⟨h0,h1,h2,h3⟩:=hI
 refine au (fun c1=>?_) (fun c1=>?_)
 ·have c1:s.i<s.n:=by simpa using c1
  rw [aK (x:=s.i+1) (by omega) (by omega)]
  exact ⟨⟨by simp only;omega,by simp only;omega,h2,h3⟩,by simp only [O7];omega⟩
 ·have c1:s.n≤s.i:=by simpa using c1
  exact ⟨rfl,by omega⟩
def E8:bK mW:=⟨0,18,[0,7,8,9],[],aDx,aCw,fun v _=>⟨gI (v.getD 0 .junk),aQ (.int .i64) (v.getD 1 .junk),gI (v.getD 2 .junk),gI (v.getD 3 .junk)⟩,Rz,fun s r=> {r with l:=s.l,n:=s.n},fun s=>s,fun _ s=>s,[.exit 0],adu,Nj,O7⟩
abbrev zC:=E8.run
abbrev apA:=E8.jG
abbrev ayn:=E8.q
theorem au2 (s:mW) (hI:Nj s):(Rz s).all (fun _=>True):=by
 refine ⟨fun c1=>⟨?_,trivial⟩,fun _=>trivial⟩
 ·(obtain ⟨h0,h1,h2,h3⟩:=hI;simp at c1;omega)
noncomputable def aaU:Specs:=bf []
theorem aiI:∀g S,aaU g=some S→Valid Tryz.prog aS g S:=aT (l:=[]) trivial
theorem WB:E8.Ok:=⟨fun s=>by kernel_rfl,fun s=>by kernel_rfl,fun s=>rfl,fun s t r=>rfl,fun s=>rfl,fun s=>by kernel_rfl⟩
theorem V6:E8.Pf (akA):=⟨aAq,fun _ _=>rfl,awp,au2⟩
theorem amq:bn Tryz.prog aS (AN 0) (.loop BB) E8.lp:=bK.snd WB V6 (aP (Γ:=aaU) (K:=dY) (L:=aC) aiI aF BB (fun b hb=>by rw [show aB BB=[] by kernel_rfl] at hb;cases hb)) (fun s=>by kernel_rfl)
theorem aoP (s:mW) (hE:adu s):∃s',Nj s'∧akA (apA s) s' (zC s):=bK.fin WB V6 s hE
theorem ah5 (s:mW) (hE:adu s):(fun s:mW=>WT s.first (s.l.drop s.i.toNat)) (zC s)=(fun s:mW=>WT s.first (s.l.drop s.i.toNat)) s:=by
 exact bK.uS WB V6 (fun s:mW=>WT s.first (s.l.drop s.i.toNat)) (fun s hI=>by
  show bJ _ _ (abg s)
  unfold abg Rz
  dsimp only [T.rd,T.rl]
  obtain ⟨h0,h1,h2,h3⟩:=hI
  refine au (fun c1=>?_) (fun c1=>rfl)
  have c1:s.i<s.n:=by simpa using c1
  rw [aK (x:=s.i+1) (by omega) (by omega)]
  show WT _ _=WT _ _
  rw [(gi_step h0 (show s.i<s.l.length by omega)).1]
  rfl) s hE
def acO:List LV→T LV
 | [.v (.int .i64 f),.xl (.int .i64) l]=> .req ((List.length l:Int)≤1000) (.ok (.v (.int .i64 (WT f l))))
 |_=> .no
noncomputable def Yo:List LV→T LV:=gJ Tryz.prog Tryz.f106.params.toList acO
theorem aoo (f:Int) (l:List Int):bT Tryz.prog aS (aaU) dY (fun i=>if i=2 then E8.lp else aC i) Tryz.f106 [.v (.int .i64 f),.xl (.int .i64) l]=.req (ayn (⟨f,l,(List.length l:Int),(0:Int)⟩:mW)) (.ok (.v (.int .i64 (zC (⟨f,l,(List.length l:Int),(0:Int)⟩:mW)).first))):=by kernel_rfl
theorem atu:Valid Tryz.prog aS 106 Yo:=aH Tryz.func106 rfl aiI aF (L:=(fun i=>if i=2 then E8.lp else aC i)) (fun b hb=>by
 rw [show aB _=[BB] by kernel_rfl] at hb
 simp only [List.mem_cons,List.not_mem_nil,or_false] at hb
 subst hb
 exact amq) (fun args lv h=>by
 unfold acO at h
 split at h
 ·simp only [canL,canX]
  rw [aoo]
  rename_i f l
  obtain ⟨hl,rfl⟩:=h
  refine mQ ⟨⟨rfl,rfl,hl⟩,rfl,rfl⟩ (fun hE=>?_)
  obtain ⟨s',_,q1,q2⟩:=aoP _ hE.1
  have q3:=ah5 _ hE.1
  simp only at q3
  rw [q2] at q3
  have e:(zC ⟨f,l,(List.length l:Int),(0:Int)⟩).n=(List.length l:Int):=rfl
  have e2:(zC ⟨f,l,(List.length l:Int),(0:Int)⟩).l=l:=rfl
  rw [e,e2,List.drop_eq_nil_of_le (by omega)] at q3
  exact congrArg (fun z=>LV.v (.int .i64 z)) q3
 ·cases h)
def acK:List LV→T LV
 | [.v (.agg ⟨[.string nm,.int .i64 vF,.int .i64 li,.int .i64 ne,.int .i64 ra,.int .i64 he,.int .i64 am,.int .i64 mo,.int .i64 ga,.int .i64 lo,.int .i64 de]⟩)]=> .ok (.v (.int .i64 (dO (nm,vF,li,ne,(ra,he),am,mo,ga,lo,de))))
 |_=> .no
noncomputable def Yl:List LV→T LV:=gJ Tryz.prog Tryz.f58.params.toList acK
noncomputable def arI:Specs:=bf [(105,Yf),(106,Yo)]
theorem aA0:∀g S,arI g=some S→Valid Tryz.prog aS g S:=aT (l:=[(105,Yf),(106,Yo)]) ⟨ati,atu,trivial⟩
theorem aok (nm:ByteArray) (vF li ne ra he am mo ga lo de:Int):bT Tryz.prog aS (arI) dY aC Tryz.f58 [.v (.agg #[.string nm,.int .i64 vF,.int .i64 li,.int .i64 ne,.int .i64 ra,.int .i64 he,.int .i64 am,.int .i64 mo,.int .i64 ga,.int .i64 lo,.int .i64 de])]=.br ((pmE (am,mo,ga,lo,de)) !=0) (.br (ra==0) (.req ((List.length ([ne,(0:Int)]):Int)≤1000) (.ok (.v (.int .i64 (WT li ([ne,(0:Int)])))))) (.req ((List.length ([ne,(0:Int),ra]):Int)≤1000) (.ok (.v (.int .i64 (WT li ([ne,(0:Int),ra]))))))) (.br (ra==0) (.req ((List.length ([ne,(pmA (am,mo,ga,lo,de))]):Int)≤1000) (.ok (.v (.int .i64 (WT li ([ne,(pmA (am,mo,ga,lo,de))])))))) (.req ((List.length ([ne,(pmA (am,mo,ga,lo,de)),ra]):Int)≤1000) (.ok (.v (.int .i64 (WT li ([ne,(pmA (am,mo,ga,lo,de)),ra]))))))):=by kernel_rfl
theorem atq:Valid Tryz.prog aS 58 Yl:=aH Tryz.func58 rfl aA0 aF (aY (by kernel_rfl)) (fun args lv h=>by
 unfold acK at h
 split at h
 ·simp only [canL,canX]
  rw [aok]
  rename_i nm vF li ne ra he am mo ga lo de
  obtain rfl:=h
  unfold dO
  simp only
  refine ⟨fun c=>?_,fun c=>?_⟩
  ·have e:pmA (am,mo,ga,lo,de)=0:=by
    rw [anm] at c
    have c:Qn (am,mo,ga,lo,de)=false:=by simpa using c
    unfold pmA
    rw [c]
    rfl
   rw [e]
   refine ⟨fun c2=>⟨by simp,?_⟩,fun c2=>⟨by simp,?_⟩⟩
   ·rw [if_pos (by simpa using c2)];rfl
   ·rw [if_neg (by simpa using c2)];rfl
  ·refine ⟨fun c2=>⟨by simp,?_⟩,fun c2=>⟨by simp,?_⟩⟩
   ·rw [if_pos (by simpa using c2)];rfl
   ·rw [if_neg (by simpa using c2)];rfl
 ·cases h)
def aci:List LV→T LV
 | [.v (.int .i64 k),.xq 5 q0,.xq 2 q1]=>(match ([q0 0,q0 1,q0 2,q0 3,q0 4]:List LV) with
  | [.xl (.pair .str (.pair (.int .i64) (.pair (.int .i64) (.pair (.int .i64) (.pair (.pair (.int .i64) (.int .i64)) (.pair (.int .i64) (.pair (.int .i64) (.pair (.int .i64) (.pair (.int .i64) (.int .i64)))))))))) _,.xl (.str) _,.xl (.pair .str (.pair (.int .i64) (.pair (.int .i64) (.int .i64)))) _,.xl (.pair .str (.pair (.int .i64) (.pair (.int .i64) (.pair (.int .i64) (.pair (.int .i64) (.pair (.int .i64) (.pair (.int .i64) (.int .i64)))))))) gs,.xl (.pair .str (.int .i64)) _]=>(match ([q1 0,q1 1]:List LV) with
  | [.v (.int .i64 _),.v (.int .i64 p)]=> .req ((0≤k∧k<(List.length gs:Int))∧0≤p) (.ok (.v (.bool (usA (aW gs k).2.2.1 p))))
  |_=> .no)
  |_=> .no)
 |_=> .no
noncomputable def Jp:List LV→T LV:=gJ Tryz.prog Tryz.f57.params.toList aci
theorem anX (k:Int) (cs:List Cd) (os:List ByteArray) (ks:List Ko) (gs:List Ch) (bs:List Ba) (c p:Int):bT Tryz.prog aS (aaU) dY aC Tryz.f57 [.v (.int .i64 k),.xq 5 (fun j=>([.xl dU cs,.xl .str os,.xl dW ks,.xl dM gs,.xl dX bs]:List LV).getD j .junk),.xq 2 (fun j=>([.v (.int .i64 c),.v (.int .i64 p)]:List LV).getD j .junk)]=.req (0≤k∧k<(List.length gs:Int)) (.req (0≤p) (.ok (.v (.bool ((aBA .i64 (aW gs k).2.2.1 (IntKind.i64.wrap ((1:Int)*2^(min p.toNat 64)))) !=0))))):=by kernel_rfl
theorem aeW:Valid Tryz.prog aS 57 Jp:=aH Tryz.func57 rfl aiI aF (aY (by kernel_rfl)) (fun args lv h=>by
 unfold aci at h
 split at h
 ·split at h
  case h_2=>cases h
  rename_i heq0
  split at h
  case h_2=>cases h
  rename_i heq1
  simp only [canL,canX]
  rw [o9 (n:=5) heq0]
  simp only [canL,canX]
  rw [o9 (n:=2) heq1]
  simp only [canL,canX]
  rw [anX]
  obtain ⟨⟨h1,h2⟩,h3⟩:=h
  exact ⟨h1,h2,h3⟩
 ·cases h)
structure jR where
 cs:List Cd
 os:List ByteArray
 ks:List Ko
 gs:List Ch
 bs:List Ba
 c:Int
 p:Int
 l:List Int
 n:Int
 i:Int
 out:List Int
def aDP (s:jR):List LV:=[.fn 57 [.xq 5 (fun j=>([.xl dU s.cs,.xl .str s.os,.xl dW s.ks,.xl dM s.gs,.xl dX s.bs]:List LV).getD j .junk),.xq 2 (fun j=>([.v (.int .i64 s.c),.v (.int .i64 s.p)]:List LV).getD j .junk)],.os 0 1 0 (List.length s.out),.xl (.int .i64) s.l,.v (.int .i64 s.n),.v (.int .i64 s.i)]
def aCO (s:jR):List aU:=[⟨[],3,.vec (.int .i64) s.out,false⟩]
noncomputable def BQ:Code:=((aB (Tryz.f56.body.getD .skip))[0]?).getD .skip
def RP (s:jR):T (Rd jR):=
 .br (decide (s.i<s.n)) (.req (0≤s.i∧s.i<(List.length s.l:Int)) (.req ((0≤(gi s.l s.i)∧(gi s.l s.i)<(List.length s.gs:Int))∧0≤s.p) (.br (usA (aW s.gs (gi s.l s.i)).2.2.1 s.p) (.req (0+(List.length s.out)=List.length s.out∧((List.length s.out+List.length ([(gi s.l s.i)]):Nat):Int)*8≤2^47∧((List.length s.out+List.length ([(gi s.l s.i)]):Nat):Int)<2^62) (.req (0=0∧(List.length s.out+List.length ([(gi s.l s.i)]))=List.length (s.out++([(gi s.l s.i)]))) (.ok (.next {s with i:=(IntKind.i64.wrap (s.i+1)),out:=(s.out++([(gi s.l s.i)]))})))) (.rl s.out (.ok (.next {s with i:=(IntKind.i64.wrap (s.i+1))})))))) (.rl s.out (.ok (.stop (.exit 0) s)))
abbrev abn (s:jR):=(RP s).rd s
def Vk (s:jR):Prop:=s.i=0∧s.out=[]∧s.n=(s.l.length:Int)∧s.n≤1000∧0≤s.p∧∀k∈s.l,0≤k∧k<(s.gs.length:Int)
def ND (s:jR):Prop:=(0≤s.i∧s.i≤s.n)∧(s.out.length:Int)≤s.i∧s.n=(s.l.length:Int)∧s.n≤1000∧0≤s.p∧∀k∈s.l,0≤k∧k<(s.gs.length:Int)
def Ib (s:jR):Nat:=(s.n-s.i).toNat
def akL (x:Ex) (_ s':jR):Prop:=x=.exit 0∧s'.i=s'.n
theorem aBx:∀s,Vk s→ND s:=by
 intro s h
 obtain ⟨h0,h1,h2,h3,h4,h5⟩:=h
 exact ⟨by omega,by rw [h1];simp;omega,h2,h3,h4,h5⟩
theorem axn (s:jR) (hI:ND s):bJ (fun s'=>ND s'∧Ib s'<Ib s) (fun x s'=>akL x s s') (abn s):=by
 unfold abn RP
 dsimp only [T.rd,T.rl]
 obtain ⟨⟨h0,h1⟩,h2,h3,h4,h5,h6⟩:=hI
 refine au (fun c1=>?_) (fun c1=>?_)
 ·have c1:s.i<s.n:=by simpa using c1
  rw [aK (x:=s.i+1) (by omega) (by omega)]
  refine au (fun c2=>?_) (fun c2=>?_)
  ·exact ⟨⟨⟨by simp only;omega,by simp only;omega⟩,by simp only [List.length_append,List.length_cons,List.length_nil];omega,h3,h4,h5,h6⟩,by simp only [Ib];omega⟩
  ·exact ⟨⟨⟨by simp only;omega,by simp only;omega⟩,by simp only;omega,h3,h4,h5,h6⟩,by simp only [Ib];omega⟩
 ·have c1:s.n≤s.i:=by simpa using c1
  exact ⟨rfl,by omega⟩
def FB:bK jR:=⟨0,23,[1,5,8,9,10],[.nl 5 3 (.int .i64)],aDP,aCO,fun v b=>⟨aQ dU (nD (gFn (v.getD 0 .junk) 0) 0),aQ .str (nD (gFn (v.getD 0 .junk) 0) 1),aQ dW (nD (gFn (v.getD 0 .junk) 0) 2),aQ dM (nD (gFn (v.getD 0 .junk) 0) 3),aQ dX (nD (gFn (v.getD 0 .junk) 0) 4),gI (nD (gFn (v.getD 0 .junk) 1) 0),gI (nD (gFn (v.getD 0 .junk) 1) 1),aQ (.int .i64) (v.getD 2 .junk),gI (v.getD 3 .junk),gI (v.getD 4 .junk),iT (.int .i64) (aO b 0)⟩,RP,fun s r=> {r with cs:=s.cs,os:=s.os,ks:=s.ks,gs:=s.gs,bs:=s.bs,c:=s.c,p:=s.p,l:=s.l,n:=s.n},fun s=>s,fun _ s=>s,[.exit 0],Vk,ND,Ib⟩
abbrev pX:=FB.run
abbrev apH:=FB.jG
abbrev ayE:=FB.q
theorem avk (s:jR) (hI:ND s):(RP s).all (fun _=>True):=by
 refine ⟨fun c1=>⟨?_,?_,fun c2=>⟨?_,?_,trivial⟩,fun c2=>⟨⟨rfl,rfl⟩,trivial⟩⟩,fun c1=>⟨⟨rfl,rfl⟩,trivial⟩⟩
 all_goals ((obtain ⟨⟨h0,h1⟩,h2,h3,h4,h5,h6⟩:=hI;(try simp only [decide_eq_true_eq] at c1);first|omega|(refine ⟨h6 _ ?_,h5⟩;rw [nH (by omega)];exact List.getElem_mem _) |(refine ⟨by omega,?_,?_⟩<;>simp only [List.length_cons,List.length_nil]<;>omega) |exact ⟨rfl,by simp⟩ |exact ⟨rfl,rfl⟩))
noncomputable def aiZ:Specs:=bf [(57,Jp)]
theorem aru:∀g S,aiZ g=some S→Valid Tryz.prog aS g S:=aT (l:=[(57,Jp)]) ⟨aeW,trivial⟩
theorem WE:FB.Ok:=⟨fun s=>by kernel_rfl,fun s=>by kernel_rfl,fun s=>rfl,fun s t r=>rfl,fun s=>rfl,fun s=>by kernel_rfl⟩
theorem V8:FB.Pf (akL):=⟨aBx,fun _ _=>rfl,axn,avk⟩
theorem amJ:bn Tryz.prog aS (AN 0) (.loop BQ) FB.lp:=bK.snd WE V8 (aP (Γ:=aiZ) (K:=dY) (L:=aC) aru aF BQ (fun b hb=>by rw [show aB BQ=[] by kernel_rfl] at hb;cases hb)) (fun s=>by kernel_rfl)
theorem ap2 (s:jR) (hE:Vk s):∃s',ND s'∧akL (apH s) s' (pX s):=bK.fin WE V8 s hE
theorem ajm (s:jR) (hE:Vk s):(fun s:jR=>s.out++gX s.gs s.p (s.l.drop s.i.toNat)) (pX s)=(fun s:jR=>s.out++gX s.gs s.p (s.l.drop s.i.toNat)) s:=by
 exact bK.uS WE V8 (fun s:jR=>s.out++gX s.gs s.p (s.l.drop s.i.toNat)) (fun s hI=>by
  show bJ _ _ (abn s)
  unfold abn RP
  dsimp only [T.rd,T.rl]
  obtain ⟨⟨h0,h1⟩,h2,h3,h4,h5,h6⟩:=hI
  refine au (fun c1=>?_) (fun c1=>rfl)
  have c1:s.i<s.n:=by simpa using c1
  rw [aK (x:=s.i+1) (by omega) (by omega)]
  refine au (fun c2=>?_) (fun c2=>?_)
  ·show _++gX _ _ _=_++gX _ _ _
   rw [(gi_step h0 (show s.i<s.l.length by omega)).1]
   simp [gX,c2]
  ·show _++gX _ _ _=_++gX _ _ _
   rw [(gi_step h0 (show s.i<s.l.length by omega)).1]
   simp [gX,c2]) s hE
theorem ap1 (s:jR) (hE:Vk s):(pX s).out=gX s.gs s.p s.l:=by
 obtain ⟨s',_,q1,q2⟩:=ap2 s hE
 have q3:=ajm s hE
 obtain ⟨h0,h1,h2,h3⟩:=hE
 simp only at q3
 rw [q2,show (pX s).n=s.n from rfl,show (pX s).l=s.l from rfl,List.drop_eq_nil_of_le (by omega),h0,h1] at q3
 simpa [gX] using q3
def ac5:List LV→T LV
 | [.xl (.int .i64) l,.fn 57 [.xq 5 q0,.xq 2 q1]]=>(match ([q0 0,q0 1,q0 2,q0 3,q0 4]:List LV) with
  | [.xl (.pair .str (.pair (.int .i64) (.pair (.int .i64) (.pair (.int .i64) (.pair (.pair (.int .i64) (.int .i64)) (.pair (.int .i64) (.pair (.int .i64) (.pair (.int .i64) (.pair (.int .i64) (.int .i64)))))))))) _,.xl (.str) _,.xl (.pair .str (.pair (.int .i64) (.pair (.int .i64) (.int .i64)))) _,.xl (.pair .str (.pair (.int .i64) (.pair (.int .i64) (.pair (.int .i64) (.pair (.int .i64) (.pair (.int .i64) (.pair (.int .i64) (.int .i64)))))))) gs,.xl (.pair .str (.int .i64)) _]=>(match ([q1 0,q1 1]:List LV) with
  | [.v (.int .i64 _),.v (.int .i64 p)]=> .req (Ub gs p l) (.ok (.xl (.int .i64) (gX gs p l)))
  |_=> .no)
  |_=> .no)
 |_=> .no
noncomputable def YE:List LV→T LV:=gJ Tryz.prog Tryz.f56.params.toList ac5
theorem aoF (l:List Int) (cs:List Cd) (os:List ByteArray) (ks:List Ko) (gs:List Ch) (bs:List Ba) (c p:Int):bT Tryz.prog aS (aiZ) dY (fun i=>if i=3 then FB.lp else aC i) Tryz.f56 [.xl (.int .i64) l,.fn 57 [.xq 5 (fun j=>([.xl dU cs,.xl .str os,.xl dW ks,.xl dM gs,.xl dX bs]:List LV).getD j .junk),.xq 2 (fun j=>([.v (.int .i64 c),.v (.int .i64 p)]:List LV).getD j .junk)]]=.req (0=0∧0=List.length ([]:List Int)) (.req (ayE (⟨cs,os,ks,gs,bs,c,p,l,(List.length l:Int),(0:Int),([]:List Int)⟩:jR)) (.req (0+(List.length (pX (⟨cs,os,ks,gs,bs,c,p,l,(List.length l:Int),(0:Int),([]:List Int)⟩:jR)).out)≤List.length (pX (⟨cs,os,ks,gs,bs,c,p,l,(List.length l:Int),(0:Int),([]:List Int)⟩:jR)).out) (.ok (.xl (.int .i64) (((pX (⟨cs,os,ks,gs,bs,c,p,l,(List.length l:Int),(0:Int),([]:List Int)⟩:jR)).out.drop 0).take (List.length (pX (⟨cs,os,ks,gs,bs,c,p,l,(List.length l:Int),(0:Int),([]:List Int)⟩:jR)).out)))))):=by kernel_rfl
theorem atK:Valid Tryz.prog aS 56 YE:=aH Tryz.func56 rfl aru aF (L:=(fun i=>if i=3 then FB.lp else aC i)) (fun b hb=>by
 rw [show aB _=[BQ] by kernel_rfl] at hb
 simp only [List.mem_cons,List.not_mem_nil,or_false] at hb
 subst hb
 exact amJ) (fun args lv h=>by
 unfold ac5 at h
 split at h
 ·split at h
  case h_2=>cases h
  rename_i heq0
  split at h
  case h_2=>cases h
  rename_i heq1
  simp only [canL,canX]
  rw [o9 (n:=5) heq0]
  simp only [canL,canX]
  rw [o9 (n:=2) heq1]
  simp only [canL,canX]
  rw [aoF]
  obtain ⟨⟨hp,hl,hm⟩,rfl⟩:=h
  refine ⟨⟨rfl,rfl⟩,mQ ⟨⟨rfl,rfl,rfl,by simp only;omega,hp,hm⟩,rfl,rfl⟩ (fun hE=>⟨by omega,?_⟩)⟩
  show LV.xl _ _=_
  rw [List.drop_zero,List.take_length,ap1 _ hE.1]
 ·cases h)
end Go.Proofs.YtlihnbimgclogaaGreatDoor
namespace Go.Proofs.YtlihnbimgclogaaGreatDoor
open Go.Sx
noncomputable def aft:Array Tmp×Code×Code:=((jI (Tryz.f24.body.getD .skip))[0]?).getD (#[],.skip,.skip)
noncomputable def azJ:Array Tmp:=aft.1
noncomputable def az3:Code:=aft.2.1
noncomputable def azY:Code:=aft.2.2
structure vz where
 n:Int
 c:Int
 af:List Cd
 aI:List ByteArray
 aG:List Ko
 ak:List Ch
 aV:List Ba
 below:List Int
 bP:List Cd
 eu:List ByteArray
 bV:List Ko
 bZ:List Ch
 iE:List Ba
 rows:List Rw
 st:LS
def aEA (s:vz):List LV:=[.uN 4,.v (.int .i64 s.n),.v (.int .i64 s.c)]
noncomputable def aEs (s:vz):List aU:=[⟨[.xl dU s.af,.xl .str s.aI,.xl dW s.aG,.xl dM s.ak,.xl dX s.aV],28,.cl,true⟩,⟨[.os 5 2 0 (List.length s.rows)],49,.cl,false⟩,⟨[.xl (.int .i64) s.below],35,.cl,false⟩,⟨[.xl dU s.bP,.xl .str s.eu,.xl dW s.bV,.xl dM s.bZ,.xl dX s.iE],28,.cl,false⟩,⟨[.junk,.own 0 0,.junk,.junk,.own 1 0,.own 2 0,.v (.tuple #[]),.v (.tuple #[]),.junk,.junk,.junk,.junk,.junk,.v (.tuple #[]),.v (.tuple #[]),.v (.tuple #[]),.v (.tuple #[]),.v (.tuple #[]),.v (.tuple #[]),.v (.tuple #[]),.v (.tuple #[]),.v (.tuple #[]),.v (.tuple #[]),.junk,.v (.tuple #[]),.v (.tuple #[]),.v (.tuple #[]),.v (.tuple #[]),.v (.tuple #[]),.v (.tuple #[]),.v (.tuple #[]),.v (.tuple #[]),.v (.tuple #[]),.v (.tuple #[]),.v (.tuple #[]),.v (.tuple #[]),.v (.tuple #[]),.v (.tuple #[]),.v (.tuple #[]),.v (.tuple #[]),.v (.tuple #[]),.v (.tuple #[]),.junk],0,.kG azJ az3 azY s.st,false⟩,⟨[],107,.vec CQ s.rows,false⟩]
noncomputable def abW:Code:=((aB (Tryz.f101.body.getD .skip))[0]?).getD .skip
set_option maxHeartbeats 4000000 in
def alE (s:vz):T (Rd vz):=
 .br (decide (s.c<s.n)) (.req (Ub s.ak (0:Int) (bU s.af s.aI s.aG s.ak s.aV s.c)) (.br (decide ((List.length (gX s.ak (0:Int) (bU s.af s.aI s.aG s.ak s.aV s.c)):Int)>0)) (.req (0≤s.c∧s.c<(List.length s.af:Int)) (.req (0+(List.length s.rows)=List.length s.rows∧((List.length s.rows+List.length ([((dO (fO s.af s.c)),gX s.ak (0:Int) (bU s.af s.aI s.aG s.ak s.aV s.c))]):Nat):Int)*32≤2^47∧((List.length s.rows+List.length ([((dO (fO s.af s.c)),gX s.ak (0:Int) (bU s.af s.aI s.aG s.ak s.aV s.c))]):Nat):Int)<2^62) (.req (Ub s.ak (1:Int) (bU s.af s.aI s.aG s.ak s.aV s.c)) (.br (decide ((List.length (gX s.ak (1:Int) (bU s.af s.aI s.aG s.ak s.aV s.c)):Int)>0)) (.req (0≤s.c∧s.c<(List.length s.af:Int)) (.req (0+(List.length s.rows+List.length ([((dO (fO s.af s.c)),gX s.ak (0:Int) (bU s.af s.aI s.aG s.ak s.aV s.c))]))=List.length (s.rows++([((dO (fO s.af s.c)),gX s.ak (0:Int) (bU s.af s.aI s.aG s.ak s.aV s.c))]))∧((List.length s.rows+List.length ([((dO (fO s.af s.c)),gX s.ak (0:Int) (bU s.af s.aI s.aG s.ak s.aV s.c))])+List.length ([((dO (fO s.af s.c)),gX s.ak (1:Int) (bU s.af s.aI s.aG s.ak s.aV s.c))]):Nat):Int)*32≤2^47∧((List.length s.rows+List.length ([((dO (fO s.af s.c)),gX s.ak (0:Int) (bU s.af s.aI s.aG s.ak s.aV s.c))])+List.length ([((dO (fO s.af s.c)),gX s.ak (1:Int) (bU s.af s.aI s.aG s.ak s.aV s.c))]):Nat):Int)<2^62) (.req (Ub s.ak (2:Int) (bU s.af s.aI s.aG s.ak s.aV s.c)) (.br (decide ((List.length (gX s.ak (2:Int) (bU s.af s.aI s.aG s.ak s.aV s.c)):Int)>0)) (.req (0≤s.c∧s.c<(List.length s.af:Int)) (.req (0+(List.length s.rows+List.length ([((dO (fO s.af s.c)),gX s.ak (0:Int) (bU s.af s.aI s.aG s.ak s.aV s.c))])+List.length ([((dO (fO s.af s.c)),gX s.ak (1:Int) (bU s.af s.aI s.aG s.ak s.aV s.c))]))=List.length ((s.rows++([((dO (fO s.af s.c)),gX s.ak (0:Int) (bU s.af s.aI s.aG s.ak s.aV s.c))]))++([((dO (fO s.af s.c)),gX s.ak (1:Int) (bU s.af s.aI s.aG s.ak s.aV s.c))]))∧((List.length s.rows+List.length ([((dO (fO s.af s.c)),gX s.ak (0:Int) (bU s.af s.aI s.aG s.ak s.aV s.c))])+List.length ([((dO (fO s.af s.c)),gX s.ak (1:Int) (bU s.af s.aI s.aG s.ak s.aV s.c))])+List.length ([((dO (fO s.af s.c)),gX s.ak (2:Int) (bU s.af s.aI s.aG s.ak s.aV s.c))]):Nat):Int)*32≤2^47∧((List.length s.rows+List.length ([((dO (fO s.af s.c)),gX s.ak (0:Int) (bU s.af s.aI s.aG s.ak s.aV s.c))])+List.length ([((dO (fO s.af s.c)),gX s.ak (1:Int) (bU s.af s.aI s.aG s.ak s.aV s.c))])+List.length ([((dO (fO s.af s.c)),gX s.ak (2:Int) (bU s.af s.aI s.aG s.ak s.aV s.c))]):Nat):Int)<2^62) (.req (0=0∧(List.length s.rows+List.length ([((dO (fO s.af s.c)),gX s.ak (0:Int) (bU s.af s.aI s.aG s.ak s.aV s.c))])+List.length ([((dO (fO s.af s.c)),gX s.ak (1:Int) (bU s.af s.aI s.aG s.ak s.aV s.c))])+List.length ([((dO (fO s.af s.c)),gX s.ak (2:Int) (bU s.af s.aI s.aG s.ak s.aV s.c))]))=List.length (((s.rows++([((dO (fO s.af s.c)),gX s.ak (0:Int) (bU s.af s.aI s.aG s.ak s.aV s.c))]))++([((dO (fO s.af s.c)),gX s.ak (1:Int) (bU s.af s.aI s.aG s.ak s.aV s.c))]))++([((dO (fO s.af s.c)),gX s.ak (2:Int) (bU s.af s.aI s.aG s.ak s.aV s.c))]))) (.ok (.next {s with c:=(IntKind.i64.wrap (s.c+1)),below:=(bU s.af s.aI s.aG s.ak s.aV s.c),rows:=(((s.rows++([((dO (fO s.af s.c)),gX s.ak (0:Int) (bU s.af s.aI s.aG s.ak s.aV s.c))]))++([((dO (fO s.af s.c)),gX s.ak (1:Int) (bU s.af s.aI s.aG s.ak s.aV s.c))]))++([((dO (fO s.af s.c)),gX s.ak (2:Int) (bU s.af s.aI s.aG s.ak s.aV s.c))]))}))))) (.req (0=0∧(List.length s.rows+List.length ([((dO (fO s.af s.c)),gX s.ak (0:Int) (bU s.af s.aI s.aG s.ak s.aV s.c))])+List.length ([((dO (fO s.af s.c)),gX s.ak (1:Int) (bU s.af s.aI s.aG s.ak s.aV s.c))]))=List.length ((s.rows++([((dO (fO s.af s.c)),gX s.ak (0:Int) (bU s.af s.aI s.aG s.ak s.aV s.c))]))++([((dO (fO s.af s.c)),gX s.ak (1:Int) (bU s.af s.aI s.aG s.ak s.aV s.c))]))) (.ok (.next {s with c:=(IntKind.i64.wrap (s.c+1)),below:=(bU s.af s.aI s.aG s.ak s.aV s.c),rows:=((s.rows++([((dO (fO s.af s.c)),gX s.ak (0:Int) (bU s.af s.aI s.aG s.ak s.aV s.c))]))++([((dO (fO s.af s.c)),gX s.ak (1:Int) (bU s.af s.aI s.aG s.ak s.aV s.c))]))}))))))) (.req (Ub s.ak (2:Int) (bU s.af s.aI s.aG s.ak s.aV s.c)) (.br (decide ((List.length (gX s.ak (2:Int) (bU s.af s.aI s.aG s.ak s.aV s.c)):Int)>0)) (.req (0≤s.c∧s.c<(List.length s.af:Int)) (.req (0+(List.length s.rows+List.length ([((dO (fO s.af s.c)),gX s.ak (0:Int) (bU s.af s.aI s.aG s.ak s.aV s.c))]))=List.length (s.rows++([((dO (fO s.af s.c)),gX s.ak (0:Int) (bU s.af s.aI s.aG s.ak s.aV s.c))]))∧((List.length s.rows+List.length ([((dO (fO s.af s.c)),gX s.ak (0:Int) (bU s.af s.aI s.aG s.ak s.aV s.c))])+List.length ([((dO (fO s.af s.c)),gX s.ak (2:Int) (bU s.af s.aI s.aG s.ak s.aV s.c))]):Nat):Int)*32≤2^47∧((List.length s.rows+List.length ([((dO (fO s.af s.c)),gX s.ak (0:Int) (bU s.af s.aI s.aG s.ak s.aV s.c))])+List.length ([((dO (fO s.af s.c)),gX s.ak (2:Int) (bU s.af s.aI s.aG s.ak s.aV s.c))]):Nat):Int)<2^62) (.req (0=0∧(List.length s.rows+List.length ([((dO (fO s.af s.c)),gX s.ak (0:Int) (bU s.af s.aI s.aG s.ak s.aV s.c))])+List.length ([((dO (fO s.af s.c)),gX s.ak (2:Int) (bU s.af s.aI s.aG s.ak s.aV s.c))]))=List.length ((s.rows++([((dO (fO s.af s.c)),gX s.ak (0:Int) (bU s.af s.aI s.aG s.ak s.aV s.c))]))++([((dO (fO s.af s.c)),gX s.ak (2:Int) (bU s.af s.aI s.aG s.ak s.aV s.c))]))) (.ok (.next {s with c:=(IntKind.i64.wrap (s.c+1)),below:=(bU s.af s.aI s.aG s.ak s.aV s.c),rows:=((s.rows++([((dO (fO s.af s.c)),gX s.ak (0:Int) (bU s.af s.aI s.aG s.ak s.aV s.c))]))++([((dO (fO s.af s.c)),gX s.ak (2:Int) (bU s.af s.aI s.aG s.ak s.aV s.c))]))}))))) (.req (0=0∧(List.length s.rows+List.length ([((dO (fO s.af s.c)),gX s.ak (0:Int) (bU s.af s.aI s.aG s.ak s.aV s.c))]))=List.length (s.rows++([((dO (fO s.af s.c)),gX s.ak (0:Int) (bU s.af s.aI s.aG s.ak s.aV s.c))]))) (.ok (.next {s with c:=(IntKind.i64.wrap (s.c+1)),below:=(bU s.af s.aI s.aG s.ak s.aV s.c),rows:=(s.rows++([((dO (fO s.af s.c)),gX s.ak (0:Int) (bU s.af s.aI s.aG s.ak s.aV s.c))]))}))))))))) (.req (Ub s.ak (1:Int) (bU s.af s.aI s.aG s.ak s.aV s.c)) (.br (decide ((List.length (gX s.ak (1:Int) (bU s.af s.aI s.aG s.ak s.aV s.c)):Int)>0)) (.req (0≤s.c∧s.c<(List.length s.af:Int)) (.req (0+(List.length s.rows)=List.length s.rows∧((List.length s.rows+List.length ([((dO (fO s.af s.c)),gX s.ak (1:Int) (bU s.af s.aI s.aG s.ak s.aV s.c))]):Nat):Int)*32≤2^47∧((List.length s.rows+List.length ([((dO (fO s.af s.c)),gX s.ak (1:Int) (bU s.af s.aI s.aG s.ak s.aV s.c))]):Nat):Int)<2^62) (.req (Ub s.ak (2:Int) (bU s.af s.aI s.aG s.ak s.aV s.c)) (.br (decide ((List.length (gX s.ak (2:Int) (bU s.af s.aI s.aG s.ak s.aV s.c)):Int)>0)) (.req (0≤s.c∧s.c<(List.length s.af:Int)) (.req (0+(List.length s.rows+List.length ([((dO (fO s.af s.c)),gX s.ak (1:Int) (bU s.af s.aI s.aG s.ak s.aV s.c))]))=List.length (s.rows++([((dO (fO s.af s.c)),gX s.ak (1:Int) (bU s.af s.aI s.aG s.ak s.aV s.c))]))∧((List.length s.rows+List.length ([((dO (fO s.af s.c)),gX s.ak (1:Int) (bU s.af s.aI s.aG s.ak s.aV s.c))])+List.length ([((dO (fO s.af s.c)),gX s.ak (2:Int) (bU s.af s.aI s.aG s.ak s.aV s.c))]):Nat):Int)*32≤2^47∧((List.length s.rows+List.length ([((dO (fO s.af s.c)),gX s.ak (1:Int) (bU s.af s.aI s.aG s.ak s.aV s.c))])+List.length ([((dO (fO s.af s.c)),gX s.ak (2:Int) (bU s.af s.aI s.aG s.ak s.aV s.c))]):Nat):Int)<2^62) (.req (0=0∧(List.length s.rows+List.length ([((dO (fO s.af s.c)),gX s.ak (1:Int) (bU s.af s.aI s.aG s.ak s.aV s.c))])+List.length ([((dO (fO s.af s.c)),gX s.ak (2:Int) (bU s.af s.aI s.aG s.ak s.aV s.c))]))=List.length ((s.rows++([((dO (fO s.af s.c)),gX s.ak (1:Int) (bU s.af s.aI s.aG s.ak s.aV s.c))]))++([((dO (fO s.af s.c)),gX s.ak (2:Int) (bU s.af s.aI s.aG s.ak s.aV s.c))]))) (.ok (.next {s with c:=(IntKind.i64.wrap (s.c+1)),below:=(bU s.af s.aI s.aG s.ak s.aV s.c),rows:=((s.rows++([((dO (fO s.af s.c)),gX s.ak (1:Int) (bU s.af s.aI s.aG s.ak s.aV s.c))]))++([((dO (fO s.af s.c)),gX s.ak (2:Int) (bU s.af s.aI s.aG s.ak s.aV s.c))]))}))))) (.req (0=0∧(List.length s.rows+List.length ([((dO (fO s.af s.c)),gX s.ak (1:Int) (bU s.af s.aI s.aG s.ak s.aV s.c))]))=List.length (s.rows++([((dO (fO s.af s.c)),gX s.ak (1:Int) (bU s.af s.aI s.aG s.ak s.aV s.c))]))) (.ok (.next {s with c:=(IntKind.i64.wrap (s.c+1)),below:=(bU s.af s.aI s.aG s.ak s.aV s.c),rows:=(s.rows++([((dO (fO s.af s.c)),gX s.ak (1:Int) (bU s.af s.aI s.aG s.ak s.aV s.c))]))}))))))) (.req (Ub s.ak (2:Int) (bU s.af s.aI s.aG s.ak s.aV s.c)) (.br (decide ((List.length (gX s.ak (2:Int) (bU s.af s.aI s.aG s.ak s.aV s.c)):Int)>0)) (.req (0≤s.c∧s.c<(List.length s.af:Int)) (.req (0+(List.length s.rows)=List.length s.rows∧((List.length s.rows+List.length ([((dO (fO s.af s.c)),gX s.ak (2:Int) (bU s.af s.aI s.aG s.ak s.aV s.c))]):Nat):Int)*32≤2^47∧((List.length s.rows+List.length ([((dO (fO s.af s.c)),gX s.ak (2:Int) (bU s.af s.aI s.aG s.ak s.aV s.c))]):Nat):Int)<2^62) (.req (0=0∧(List.length s.rows+List.length ([((dO (fO s.af s.c)),gX s.ak (2:Int) (bU s.af s.aI s.aG s.ak s.aV s.c))]))=List.length (s.rows++([((dO (fO s.af s.c)),gX s.ak (2:Int) (bU s.af s.aI s.aG s.ak s.aV s.c))]))) (.ok (.next {s with c:=(IntKind.i64.wrap (s.c+1)),below:=(bU s.af s.aI s.aG s.ak s.aV s.c),rows:=(s.rows++([((dO (fO s.af s.c)),gX s.ak (2:Int) (bU s.af s.aI s.aG s.ak s.aV s.c))]))}))))) (.rl s.rows (.ok (.next {s with c:=(IntKind.i64.wrap (s.c+1)),below:=(bU s.af s.aI s.aG s.ak s.aV s.c)}))))))))) (.rl s.rows (.ok (.stop (.exit 0) s)))
abbrev aBe (s:vz):=(alE s).rd s
def aqh (s:vz):Prop:=s.st=.ready∧s.c=0∧s.rows=[]∧fM s.af s.aI s.aG s.ak s.aV=true∧s.n=(s.af.length:Int)
def aeB (s:vz):Prop:=s.st=.ready∧(0≤s.c∧s.c≤s.n)∧s.rows=jB s.af s.ak s.c.toNat∧fM s.af s.aI s.aG s.ak s.aV=true∧s.n=(s.af.length:Int)
def aan (s:vz):Nat:=(s.n-s.c).toNat
def axD (x:Ex) (_ s':vz):Prop:=x=.exit 0∧s'.rows=jB s'.af s'.ak s'.af.length
theorem aD2:∀s,aqh s→aeB s:=by
 intro s h
 obtain ⟨h0,h1,h2,h3,h4⟩:=h
 exact ⟨h0,by omega,by rw [h1,h2];rfl,h3,h4⟩
theorem azr (s:vz) (hI:aeB s):bJ (fun s'=>aeB s'∧aan s'<aan s) (fun x s'=>axD x s s') (aBe s):=by
 unfold aBe alE
 dsimp only [T.rd,T.rl]
 obtain ⟨h0,⟨h1,h2⟩,h3,h4,h5⟩:=hI
 refine au (fun c1=>?_) (fun c1=>?_)
 rotate_left
 ·have c1:s.n≤s.c:=by simpa using c1
  exact ⟨rfl,by rw [h3,show s.c.toNat=s.af.length by omega]⟩
 have c1:s.c<s.n:=by simpa using c1
 have hl:=(fP.1 h4).1
 rw [aK (x:=s.c+1) (by omega) (by omega)]
 have eb:bU s.af s.aI s.aG s.ak s.aV s.c=tq s.af s.ak s.c s.ak.length:=by
  unfold bU
  rw [if_pos ⟨h4,h1,by omega⟩]
 rw [eb]
 have fin:∀r:List Rw,r=jB s.af s.ak s.c.toNat++(rowP s.af s.ak s.c 0++rowP s.af s.ak s.c 1++rowP s.af s.ak s.c 2)→r=jB s.af s.ak (s.c+1).toNat:=fun r hr=>by
  rw [hr,show (s.c+1).toNat=s.c.toNat+1 by omega,jB,Int.toNat_of_nonneg h1]
  rfl
 refine au (fun c2=>?_) (fun c2=>?_)<;>refine au (fun c3=>?_) (fun c3=>?_)<;>refine au (fun c4=>?_) (fun c4=>?_)
 all_goals
  refine ⟨⟨h0,⟨by simp only;omega,by simp only;omega⟩,?_,h4,h5⟩,by simp only [aan];omega⟩
  simp only [decide_eq_true_eq,decide_eq_false_iff_not] at c2 c3 c4
  refine fin _ ?_
  simp only [h3,rowP]
  first|rw [if_pos (by omega)] |rw [if_neg (by omega)]
  first|rw [if_pos (by omega)] |rw [if_neg (by omega)]
  first|rw [if_pos (by omega)] |rw [if_neg (by omega)]
  simp only [List.append_assoc,List.nil_append,List.append_nil]
noncomputable def YN:bK vz:=⟨5,22,[0,7,8],[.nc 1 0 107 CQ,.pc 2 0 (.int .i64),.pk 0],aEA,aEs,fun v b=>⟨gI (v.getD 1 .junk),gI (v.getD 2 .junk),aQ dU (aX (aO b 0) 0),aQ .str (aX (aO b 0) 1),aQ dW (aX (aO b 0) 2),aQ dM (aX (aO b 0) 3),aQ dX (aX (aO b 0) 4),aQ (.int .i64) (aX (aO b 2) 0),aQ dU (aX (aO b 3) 0),aQ .str (aX (aO b 3) 1),aQ dW (aX (aO b 3) 2),aQ dM (aX (aO b 3) 3),aQ dX (aX (aO b 3) 4),iT CQ (aO b 5),.ready⟩,alE,fun s r=> {r with n:=s.n,af:=s.af,aI:=s.aI,aG:=s.aG,ak:=s.ak,aV:=s.aV,bP:=s.bP,eu:=s.eu,bV:=s.bV,bZ:=s.bZ,iE:=s.iE,st:=s.st},fun s=> {s with st:=.ready},fun x s=> {s with st:=(match x with| .exit 0=> .ready|_=> .ready)},[.exit 0],aqh,aeB,aan⟩
noncomputable abbrev CW:=YN.run
noncomputable abbrev awX:=YN.jG
abbrev aBL:=YN.q
noncomputable def Eb:Specs:=bf [(53,Jm),(55,QD),(56,YE),(57,Jp),(58,Yl)]
theorem II:∀g S,Eb g=some S→Valid Tryz.prog aS g S:=aT (l:=[(53,Jm),(55,QD),(56,YE),(57,Jp),(58,Yl)]) ⟨aeU,alz,atK,aeW,atq,trivial⟩
noncomputable def aiA:Hand:=inl Tryz.prog aS Eb (lX Tryz.prog aS (Eb) 20 2) 9
theorem aq0:dL Tryz.prog aS aiA:=bQ II (dQ II) 9
theorem azA (s:vz) (hI:aeB s):(alE s).all (fun _=>True):=by
 refine ⟨fun c1=>⟨?_,fun c2=>⟨?_,?_,?_,fun c3=>⟨?_,?_,?_,fun c4=>⟨?_,?_,?_,trivial⟩,fun c4=>⟨?_,trivial⟩⟩,fun c3=>⟨?_,fun c5=>⟨?_,?_,?_,trivial⟩,fun c5=>⟨?_,trivial⟩⟩⟩,fun c2=>⟨?_,fun c6=>⟨?_,?_,?_,fun c7=>⟨?_,?_,?_,trivial⟩,fun c7=>⟨?_,trivial⟩⟩,fun c6=>⟨?_,fun c8=>⟨?_,?_,?_,trivial⟩,fun c8=>⟨⟨rfl,rfl⟩,trivial⟩⟩⟩⟩,fun c1=>⟨⟨rfl,rfl⟩,trivial⟩⟩
 all_goals ((obtain ⟨h0,⟨h1,h2⟩,h3,h4,h5⟩:=hI;have hl:=(fP.1 h4).1;(try simp only [decide_eq_true_eq] at c1);have hr:s.rows.length≤3*s.c.toNat:=(by rw [h3];exact vK);have eb:bU s.af s.aI s.aG s.ak s.aV s.c=tq s.af s.ak s.c s.ak.length:=(by unfold bU;rw [if_pos ⟨h4,h1,by omega⟩]);first|omega|((try simp only);rw [eb];refine ⟨by decide,Nat.le_trans Jf (by omega),fun k hk=>Us hk⟩) |(refine ⟨by omega,?_,?_⟩<;>simp only [List.length_cons,List.length_nil]<;>omega) |(simp only [List.length_append,List.length_cons,List.length_nil];omega) |exact ⟨rfl,by simp⟩ |exact ⟨rfl,rfl⟩))
theorem aqH:YN.Ok:=⟨fun s=>by kernel_rfl,fun s=>by kernel_rfl,fun s=>rfl,fun s t r=>rfl,fun s=>rfl,fun s=>by kernel_rfl⟩
theorem aqA:YN.Pf (axD):=⟨aD2,fun s h=>by
 obtain ⟨n,c,af,aI,aG,ak,aV,below,bP,eu,bV,bZ,iE,rows,st⟩:=s
 have e:st=.ready:=h.1
 subst e
 rfl,azr,azA⟩
theorem atX:bn Tryz.prog aS (AN 5) (.loop abW) YN.lp:=bK.snd aqH aqA (bF (Γ:=Eb) (K:=aiA) (L:=(tN Tryz.prog aS Eb aiA 20 2)) II aq0 abW (fun b _=>dR II aq0 20 2 b)) (fun s=>by kernel_rfl)
theorem aud (s:vz) (hE:aqh s):∃s',aeB s'∧axD (awX s) s' (CW s):=bK.fin aqH aqA s hE
def acj:List LV→T LV
 | [.agg [.xl (.pair .str (.pair (.int .i64) (.pair (.int .i64) (.pair (.int .i64) (.pair (.pair (.int .i64) (.int .i64)) (.pair (.int .i64) (.pair (.int .i64) (.pair (.int .i64) (.pair (.int .i64) (.int .i64)))))))))) cs,.xl (.str) os,.xl (.pair .str (.pair (.int .i64) (.pair (.int .i64) (.int .i64)))) ks,.xl (.pair .str (.pair (.int .i64) (.pair (.int .i64) (.pair (.int .i64) (.pair (.int .i64) (.pair (.int .i64) (.pair (.int .i64) (.int .i64)))))))) gs,.xl (.pair .str (.int .i64)) bs]]=> .ok (.iD [.xl CQ (gQ cs os ks gs bs),.v (.int .i64 (FH cs os ks gs bs))])
 |_=> .no
noncomputable def lg:List LV→T LV:=gJ Tryz.prog Tryz.f24.params.toList acj
noncomputable def aq9:Hand:=inl Tryz.prog aS Eb (kD 101 5 1 (YN.lp) (lX Tryz.prog aS (Eb) 20 2)) 9
theorem aAI:dL Tryz.prog aS aq9:=bQ II (dK Tryz.func101 rfl (by kernel_rfl) atX (dQ II)) 9
theorem anY (cs:List Cd) (os:List ByteArray) (ks:List Ko) (gs:List Ch) (bs:List Ba):bT Tryz.prog aS (Eb) aq9 aC Tryz.f24 [.agg [.xl dU cs,.xl .str os,.xl dW ks,.xl dM gs,.xl dX bs]]=.br (!(fM cs os ks gs bs)) (.ok (.iD [.xl CQ ([]:List Rw),.v (.int .i64 1)])) (.req (0=0∧0=List.length ([]:List Rw)) (.req (aBL (⟨(List.length cs:Int),(0:Int),cs,os,ks,gs,bs,([]:List Int),cs,os,ks,gs,bs,([]:List Rw),.ready⟩:vz)) (.req (0+(List.length (CW (⟨(List.length cs:Int),(0:Int),cs,os,ks,gs,bs,([]:List Int),cs,os,ks,gs,bs,([]:List Rw),.ready⟩:vz)).rows)≤List.length (CW (⟨(List.length cs:Int),(0:Int),cs,os,ks,gs,bs,([]:List Int),cs,os,ks,gs,bs,([]:List Rw),.ready⟩:vz)).rows) (.ok (.iD [.xl CQ (((CW (⟨(List.length cs:Int),(0:Int),cs,os,ks,gs,bs,([]:List Int),cs,os,ks,gs,bs,([]:List Rw),.ready⟩:vz)).rows.drop 0).take (List.length (CW (⟨(List.length cs:Int),(0:Int),cs,os,ks,gs,bs,([]:List Int),cs,os,ks,gs,bs,([]:List Rw),.ready⟩:vz)).rows)),.v (.int .i64 0)]))))):=by kernel_rfl
theorem yC:Valid Tryz.prog aS 24 lg:=aH Tryz.func24 rfl II aAI (aY (by kernel_rfl)) (fun args lv h=>by
 unfold acj at h
 split at h
 ·simp only [canL,canX]
  rw [anY]
  rename_i cs os ks gs bs
  obtain rfl:=h
  refine ⟨fun c=>?_,fun c=>?_⟩
  ·have c:fM cs os ks gs bs=false:=by simpa using c
   show LV.iD _=_
   unfold gQ FH
   rw [c]
   rfl
  ·have c:fM cs os ks gs bs=true:=by simpa using c
   have hE:aqh ⟨(List.length cs:Int),(0:Int),cs,os,ks,gs,bs,([]:List Int),cs,os,ks,gs,bs,([]:List (Int×(List Int))),.ready⟩:=⟨rfl,rfl,rfl,c,rfl⟩
   obtain ⟨s',_,q1,q2⟩:=aud _ hE
   have q2:(CW ⟨(List.length cs:Int),(0:Int),cs,os,ks,gs,bs,([]:List Int),cs,os,ks,gs,bs,([]:List (Int×(List Int))),.ready⟩).rows=jB cs gs cs.length:=q2
   refine ⟨⟨rfl,rfl⟩,⟨hE,rfl,rfl⟩,by omega,?_⟩
   show LV.iD [LV.xl _ _,_]=_
   rw [List.drop_zero,List.take_length,q2]
   unfold gQ FH
   rw [if_pos c,if_pos c]
 ·cases h)
end Go.Proofs.YtlihnbimgclogaaGreatDoor
namespace Go.Proofs.YtlihnbimgclogaaGreatDoor
open Go.Sx
def aj6:List LV→T LV
 | [.v (.int .i64 n),.v (.int .i64 a),.v (.int .i64 b)]=> .ok (.v (.bool (inB n a b)))
 |_=> .no
noncomputable def UC:List LV→T LV:=gJ Tryz.prog Tryz.f68.params.toList aj6
noncomputable def arz:Specs:=bf []
theorem aAR:∀g S,arz g=some S→Valid Tryz.prog aS g S:=aT (l:=[]) trivial
theorem awf (n a b:Int):bT Tryz.prog aS (arz) dY aC Tryz.f68 [.v (.int .i64 n),.v (.int .i64 a),.v (.int .i64 b)]=.ok (.v (.bool ((decide (n≥a))&&(decide (n≤b))))):=by kernel_rfl
theorem aqs:Valid Tryz.prog aS 68 UC:=aH Tryz.func68 rfl aAR aF (aY (by kernel_rfl)) (fun args lv h=>by
 unfold aj6 at h
 split at h
 ·simp only [canL,canX]
  rw [awf]
  exact h
 ·cases h)
def ajO:List LV→T LV
 | [.v (.agg ⟨[.bool wa,.int .i64 ow,.int .i64 le,.int .i64 ra]⟩)]=> .ok (.v (.bool (Vu (wa,ow,le,ra))))
 |_=> .no
noncomputable def ajz:List LV→T LV:=gJ Tryz.prog Tryz.f70.params.toList ajO
noncomputable def arx:Specs:=bf [(68,UC)]
theorem aAQ:∀g S,arx g=some S→Valid Tryz.prog aS g S:=aT (l:=[(68,UC)]) ⟨aqs,trivial⟩
theorem avW (wa:Bool) (ow le ra:Int):bT Tryz.prog aS (arx) dY aC Tryz.f70 [.v (.agg #[.bool wa,.int .i64 ow,.int .i64 le,.int .i64 ra])]=.ok (.v (.bool ((inB ow (0:Int) (1000000000:Int))&&((inB le (0:Int) (1000000:Int))&&(inB ra (1:Int) (9:Int)))))):=by kernel_rfl
theorem ay0:Valid Tryz.prog aS 70 ajz:=aH Tryz.func70 rfl aAQ aF (aY (by kernel_rfl)) (fun args lv h=>by
 unfold ajO at h
 split at h
 ·simp only [canL,canX]
  rw [avW]
  exact h
 ·cases h)
structure lK where
 cs:List Cd
 os:List ByteArray
 ks:List Ko
 gs:List Ch
 bs:List Ba
 l:List Le
 d:List Dm
 t:Int
 od:List Int
 G6:List Ra
 r:Bool
 n:Int
 m:List Le
 k:Int
 i:Int
def aDH (s:lK):List LV:=[.xq 9 (fun j=>([.xl dU s.cs,.xl .str s.os,.xl dW s.ks,.xl dM s.gs,.xl dX s.bs,.xl nC s.l,.xl pU s.d,.v (.int .i64 s.t),.xl (.int .i64) s.od]:List LV).getD j .junk),.xl GI s.G6,.v (.bool s.r),.v (.int .i64 s.n),.xl nC s.m,.v (.int .i64 s.k),.v (.int .i64 s.i)]
def aCG (_:lK):List aU:=[]
noncomputable def BJ:Code:=((aB (Tryz.f35.body.getD .skip))[0]?).getD .skip
def Zw (s:lK):T (Rd lK):=
 .br (decide (s.i<s.k)) (.req (0≤s.i∧s.i<(List.length s.m:Int)) (.br (decide ((iH s.m s.i).2.1≥s.n)) (.ok (.stop (.ret) {s with r:=false})) (.ok (.next {s with i:=(IntKind.i64.wrap (s.i+1))})))) (.ok (.stop (.exit 0) s))
abbrev asj (s:lK):=(Zw s).rd s
def JQ (s:lK) (j:Int):Bool:=decide ((iH s.m j).2.1<s.n)
def adB (s:lK):Prop:=s.i=0∧0≤s.k∧s.k≤1000∧s.k=(s.m.length:Int)
def Nv (s:lK):Prop:=0≤s.i∧s.i≤s.k∧s.k≤1000∧(s.k=(s.m.length:Int))∧∀j:Nat,(j:Int)<s.i→JQ s j=true
def Px (s:lK):Nat:=(s.k-s.i).toNat
def akG (x:Ex) (_ s':lK):Prop:=(x=.exit 0∧∀j:Nat,(j:Int)<s'.k→JQ s' j=true)∨(x=.ret∧s'.r=false∧∃j:Nat,(j:Int)<s'.k∧JQ s' j=false)
theorem aBn:∀s,adB s→Nv s:=by
 intro s h
 obtain ⟨h0,h1,h2,h3⟩:=h
 exact ⟨by omega,by omega,h2,h3,fun j hj=>by omega⟩
theorem aw7 (s:lK) (hI:Nv s):bJ (fun s'=>Nv s'∧Px s'<Px s) (fun x s'=>akG x s s') (asj s):=by
 unfold asj Zw
 dsimp only [T.rd,T.rl]
 obtain ⟨h0,h1,h2,h3,h4⟩:=hI
 refine au (fun c1=>au (fun c2=>?_) (fun c2=>?_)) (fun c1=>?_)
 ·have c1:s.i<s.k:=by simpa using c1
  refine .inr ⟨rfl,rfl,s.i.toNat,by simp only;omega,?_⟩
  rw [Int.toNat_of_nonneg (by omega)]
  have hg:JQ s s.i=false:=by unfold JQ;(simp only [decide_eq_true_eq,decide_eq_false_iff_not] at c2⊢;omega)
  exact hg
 ·have c1:s.i<s.k:=by simpa using c1
  have hg:JQ s s.i=true:=by unfold JQ;(simp only [decide_eq_true_eq,decide_eq_false_iff_not] at c2⊢;omega)
  rw [aK (x:=s.i+1) (by omega) (by omega)]
  refine ⟨⟨by simp only;omega,by simp only;omega,h2,h3,fun j hj=>?_⟩,by simp only [Px];omega⟩
  by_cases hji:(j:Int)<s.i
  ·exact h4 j hji
  ·have:(j:Int)=s.i:=by simp only at hj;omega
   rw [this];exact hg
 ·have c1:s.k≤s.i:=by simpa using c1
  exact .inl ⟨rfl,fun j hj=>h4 j (by omega)⟩
def Fh:bK lK:=⟨0,108,[0,1,6,9,67,68,69],[],aDH,aCG,fun v _=>⟨aQ dU (nD (v.getD 0 .junk) 0),aQ .str (nD (v.getD 0 .junk) 1),aQ dW (nD (v.getD 0 .junk) 2),aQ dM (nD (v.getD 0 .junk) 3),aQ dX (nD (v.getD 0 .junk) 4),aQ nC (nD (v.getD 0 .junk) 5),aQ pU (nD (v.getD 0 .junk) 6),gI (nD (v.getD 0 .junk) 7),aQ (.int .i64) (nD (v.getD 0 .junk) 8),aQ GI (v.getD 1 .junk),uT (v.getD 2 .junk),gI (v.getD 3 .junk),aQ nC (v.getD 4 .junk),gI (v.getD 5 .junk),gI (v.getD 6 .junk)⟩,Zw,fun s r=> {r with cs:=s.cs,os:=s.os,ks:=s.ks,gs:=s.gs,bs:=s.bs,l:=s.l,d:=s.d,t:=s.t,od:=s.od,G6:=s.G6,n:=s.n,m:=s.m,k:=s.k},fun s=>s,fun _ s=>s,[.ret,.exit 0],adB,Nv,Px⟩
abbrev wX:=Fh.run
abbrev abJ:=Fh.jG
abbrev ayw:=Fh.q
theorem avc (s:lK) (hI:Nv s):(Zw s).all (fun _=>True):=by
 refine ⟨fun c1=>⟨?_,fun _=>trivial,fun _=>trivial⟩,fun _=>trivial⟩
 ·(obtain ⟨h0,h1,h2,h3,h4⟩:=hI;simp at c1;omega)
noncomputable def aaR:Specs:=bf [(24,lg),(62,Ju),(68,UC),(69,Uz),(70,ajz)]
theorem aiF:∀g S,aaR g=some S→Valid Tryz.prog aS g S:=aT (l:=[(24,lg),(62,Ju),(68,UC),(69,Uz),(70,ajz)]) ⟨yC,ae1,aqs,aqo,ay0,trivial⟩
theorem ahp:Fh.Ok:=⟨fun s=>by kernel_rfl,fun s=>by kernel_rfl,fun s=>rfl,fun s t r=>rfl,fun s=>rfl,fun s=>by kernel_rfl⟩
theorem agl:Fh.Pf (akG):=⟨aBn,fun _ _=>rfl,aw7,avc⟩
theorem amy:bn Tryz.prog aS (AN 0) (.loop BJ) Fh.lp:=bK.snd ahp agl (aP (Γ:=aaR) (K:=dY) (L:=aC) aiF aF BJ (fun b hb=>by rw [show aB BJ=[] by kernel_rfl] at hb;cases hb)) (fun s=>by kernel_rfl)
theorem apP (s:lK) (hE:adB s):∃s',Nv s'∧akG (abJ s) s' (wX s):=bK.fin ahp agl s hE
structure oZ where
 cs:List Cd
 os:List ByteArray
 ks:List Ko
 gs:List Ch
 bs:List Ba
 l:List Le
 d:List Dm
 t:Int
 od:List Int
 rs:List Ra
 r:Bool
 m:List Ch
 k:Int
 i:Int
def aDG (s:oZ):List LV:=[.xq 9 (fun j=>([.xl dU s.cs,.xl .str s.os,.xl dW s.ks,.xl dM s.gs,.xl dX s.bs,.xl nC s.l,.xl pU s.d,.v (.int .i64 s.t),.xl (.int .i64) s.od]:List LV).getD j .junk),.xl GI s.rs,.v (.bool s.r),.xl dM s.m,.v (.int .i64 s.k),.v (.int .i64 s.i)]
def aCF (_:oZ):List aU:=[]
noncomputable def BI:Code:=((aB (Tryz.f35.body.getD .skip))[1]?).getD .skip
def Zv (s:oZ):T (Rd oZ):=
 .br (decide (s.i<s.k)) (.req (0≤s.i∧s.i<(List.length s.m:Int)) (.req (0≤s.i∧s.i<(List.length s.rs:Int)) (.br (!(J8 (aW s.m s.i).2.2.1 (aW s.m s.i).2.2.2.1 (aW s.m s.i).2.2.2.2.1 (aW s.m s.i).2.2.2.2.2.1 (aW s.m s.i).2.2.2.2.2.2.1 (lU s.rs s.i).1 (lU s.rs s.i).2)) (.ok (.stop (.ret) {s with r:=false})) (.req (0≤s.i∧s.i<(List.length s.d:Int)) (.br (!(Vu (lV s.d s.i))) (.ok (.stop (.ret) {s with r:=false})) (.ok (.next {s with i:=(IntKind.i64.wrap (s.i+1))}))))))) (.ok (.stop (.exit 2) s))
abbrev asi (s:oZ):=(Zv s).rd s
def CB (s:oZ) (j:Int):Bool:=SK (aW s.m j) (lU s.rs j)&&Vu (lV s.d j)
def adA (s:oZ):Prop:=s.i=0∧0≤s.k∧s.k≤1000∧s.k=(s.m.length:Int)∧s.rs.length=s.m.length∧s.d.length=s.m.length
def Nu (s:oZ):Prop:=0≤s.i∧s.i≤s.k∧s.k≤1000∧(s.k=(s.m.length:Int)∧s.rs.length=s.m.length∧s.d.length=s.m.length)∧∀j:Nat,(j:Int)<s.i→CB s j=true
def Pv (s:oZ):Nat:=(s.k-s.i).toNat
def akF (x:Ex) (_ s':oZ):Prop:=(x=.exit 2∧∀j:Nat,(j:Int)<s'.k→CB s' j=true)∨(x=.ret∧s'.r=false∧∃j:Nat,(j:Int)<s'.k∧CB s' j=false)
theorem aBm:∀s,adA s→Nu s:=by
 intro s h
 obtain ⟨h0,h1,h2,h3⟩:=h
 exact ⟨by omega,by omega,h2,h3,fun j hj=>by omega⟩
theorem aw6 (s:oZ) (hI:Nu s):bJ (fun s'=>Nu s'∧Pv s'<Pv s) (fun x s'=>akF x s s') (asi s):=by
 unfold asi Zv
 dsimp only [T.rd,T.rl]
 obtain ⟨h0,h1,h2,h3,h4⟩:=hI
 refine au (fun c1=>au (fun c2=>?_) (fun c2=>au (fun c3=>?_) (fun c3=>?_))) (fun c1=>?_)
 ·have c1:s.i<s.k:=by simpa using c1
  refine .inr ⟨rfl,rfl,s.i.toNat,by simp only;omega,?_⟩
  rw [Int.toNat_of_nonneg (by omega)]
  have hg:CB s s.i=false:=by unfold CB;(unfold SK Af;simp_all)
  exact hg
 ·have c1:s.i<s.k:=by simpa using c1
  refine .inr ⟨rfl,rfl,s.i.toNat,by simp only;omega,?_⟩
  rw [Int.toNat_of_nonneg (by omega)]
  have hg:CB s s.i=false:=by unfold CB;(unfold SK Af;simp_all)
  exact hg
 ·have c1:s.i<s.k:=by simpa using c1
  have hg:CB s s.i=true:=by unfold CB;(unfold SK Af;simp_all)
  rw [aK (x:=s.i+1) (by omega) (by omega)]
  refine ⟨⟨by simp only;omega,by simp only;omega,h2,h3,fun j hj=>?_⟩,by simp only [Pv];omega⟩
  by_cases hji:(j:Int)<s.i
  ·exact h4 j hji
  ·have:(j:Int)=s.i:=by simp only at hj;omega
   rw [this];exact hg
 ·have c1:s.k≤s.i:=by simpa using c1
  exact .inl ⟨rfl,fun j hj=>h4 j (by omega)⟩
def Fg:bK oZ:=⟨0,108,[0,1,6,82,83,84],[],aDG,aCF,fun v _=>⟨aQ dU (nD (v.getD 0 .junk) 0),aQ .str (nD (v.getD 0 .junk) 1),aQ dW (nD (v.getD 0 .junk) 2),aQ dM (nD (v.getD 0 .junk) 3),aQ dX (nD (v.getD 0 .junk) 4),aQ nC (nD (v.getD 0 .junk) 5),aQ pU (nD (v.getD 0 .junk) 6),gI (nD (v.getD 0 .junk) 7),aQ (.int .i64) (nD (v.getD 0 .junk) 8),aQ GI (v.getD 1 .junk),uT (v.getD 2 .junk),aQ dM (v.getD 3 .junk),gI (v.getD 4 .junk),gI (v.getD 5 .junk)⟩,Zv,fun s r=> {r with cs:=s.cs,os:=s.os,ks:=s.ks,gs:=s.gs,bs:=s.bs,l:=s.l,d:=s.d,t:=s.t,od:=s.od,rs:=s.rs,m:=s.m,k:=s.k},fun s=>s,fun _ s=>s,[.ret,.exit 2],adA,Nu,Pv⟩
abbrev Z8:=Fg.run
abbrev abI:=Fg.jG
abbrev ayv:=Fg.q
theorem avb (s:oZ) (hI:Nu s):(Zv s).all (fun _=>True):=by
 refine ⟨fun c1=>⟨?_,?_,fun _=>trivial,fun c2=>⟨?_,fun _=>trivial,fun _=>trivial⟩⟩,fun _=>trivial⟩
 all_goals ((obtain ⟨h0,h1,h2,h3,h4⟩:=hI;obtain ⟨h3,h5,h6⟩:=h3;simp at c1;omega))
theorem aho:Fg.Ok:=⟨fun s=>by kernel_rfl,fun s=>by kernel_rfl,fun s=>rfl,fun s t r=>rfl,fun s=>rfl,fun s=>by kernel_rfl⟩
theorem agk:Fg.Pf (akF):=⟨aBm,fun _ _=>rfl,aw6,avb⟩
theorem amx:bn Tryz.prog aS (AN 0) (.loop BI) Fg.lp:=bK.snd aho agk (aP (Γ:=aaR) (K:=dY) (L:=aC) aiF aF BI (fun b hb=>by rw [show aB BI=[] by kernel_rfl] at hb;cases hb)) (fun s=>by kernel_rfl)
theorem apO (s:oZ) (hE:adA s):∃s',Nu s'∧akF (abI s) s' (Z8 s):=bK.fin aho agk s hE
def acW:List LV→T LV
 | [.xq 9 q0,.xl (.pair (.int .i64) (.int .i64)) rs,.v (.int .i64 n)]=>(match ([q0 0,q0 1,q0 2,q0 3,q0 4,q0 5,q0 6,q0 7,q0 8]:List LV) with
  | [.xl (.pair .str (.pair (.int .i64) (.pair (.int .i64) (.pair (.int .i64) (.pair (.pair (.int .i64) (.int .i64)) (.pair (.int .i64) (.pair (.int .i64) (.pair (.int .i64) (.pair (.int .i64) (.int .i64)))))))))) cs,.xl (.str) os,.xl (.pair .str (.pair (.int .i64) (.pair (.int .i64) (.int .i64)))) ks,.xl (.pair .str (.pair (.int .i64) (.pair (.int .i64) (.pair (.int .i64) (.pair (.int .i64) (.pair (.int .i64) (.pair (.int .i64) (.int .i64)))))))) gs,.xl (.pair .str (.int .i64)) bs,.xl (.pair (.int .i64) (.pair (.int .i64) (.pair (.int .i64) (.pair (.int .i64) (.int .i64))))) l,.xl (.pair .bool (.pair (.int .i64) (.pair (.int .i64) (.int .i64)))) d,.v (.int .i64 t),.xl (.int .i64) _]=> .ok (.v (.bool (Gu cs os ks gs bs l rs d t n)))
  |_=> .no)
 |_=> .no
noncomputable def Yw:List LV→T LV:=gJ Tryz.prog Tryz.f35.params.toList acW
theorem aow (cs:List Cd) (os:List ByteArray) (ks:List Ko) (gs:List Ch) (bs:List Ba) (l:List Le) (d:List Dm) (t:Int) (od:List Int) (rs:List Ra) (n:Int):bT Tryz.prog aS (aaR) dY (fun i=>if i=8 then Fh.lp else if i=14 then Fg.lp else aC i) Tryz.f35 [.xq 9 (fun j=>([.xl dU cs,.xl .str os,.xl dW ks,.xl dM gs,.xl dX bs,.xl nC l,.xl pU d,.v (.int .i64 t),.xl (.int .i64) od]:List LV).getD j .junk),.xl GI rs,.v (.int .i64 n)]=.br (((FH cs os ks gs bs) !=0) ||(!(qx l))) (.ok (.v (.bool false))) (.br (((List.length rs:Int) !=(List.length gs:Int)) ||(((List.length d:Int) !=(List.length gs:Int)) ||((!(inB t (0:Int) (1000000:Int))) ||(!(inB n (1:Int) (999900:Int)))))) (.ok (.v (.bool false))) (.req (ayw (⟨cs,os,ks,gs,bs,l,d,t,od,rs,false,(List.length gs:Int),l,(List.length l:Int),(0:Int)⟩:lK)) (.br (iw (abJ (⟨cs,os,ks,gs,bs,l,d,t,od,rs,false,(List.length gs:Int),l,(List.length l:Int),(0:Int)⟩:lK)) (.ret)) (.ok (.v (.bool (wX (⟨cs,os,ks,gs,bs,l,d,t,od,rs,false,(List.length gs:Int),l,(List.length l:Int),(0:Int)⟩:lK)).r))) (.req (ayv (⟨cs,os,ks,gs,bs,l,d,t,od,rs,(wX (⟨cs,os,ks,gs,bs,l,d,t,od,rs,false,(List.length gs:Int),l,(List.length l:Int),(0:Int)⟩:lK)).r,gs,(List.length gs:Int),(0:Int)⟩:oZ)) (.br (iw (abI (⟨cs,os,ks,gs,bs,l,d,t,od,rs,(wX (⟨cs,os,ks,gs,bs,l,d,t,od,rs,false,(List.length gs:Int),l,(List.length l:Int),(0:Int)⟩:lK)).r,gs,(List.length gs:Int),(0:Int)⟩:oZ)) (.ret)) (.ok (.v (.bool (Z8 (⟨cs,os,ks,gs,bs,l,d,t,od,rs,(wX (⟨cs,os,ks,gs,bs,l,d,t,od,rs,false,(List.length gs:Int),l,(List.length l:Int),(0:Int)⟩:lK)).r,gs,(List.length gs:Int),(0:Int)⟩:oZ)).r))) (.ok (.v (.bool true)))))))):=by kernel_rfl
theorem atC:Valid Tryz.prog aS 35 Yw:=aH Tryz.func35 rfl aiF aF (L:=(fun i=>if i=8 then Fh.lp else if i=14 then Fg.lp else aC i)) (fun b hb=>by
 rw [show aB _=[BJ,BI] by kernel_rfl] at hb
 simp only [List.mem_cons,List.not_mem_nil,or_false] at hb
 rcases hb with rfl|rfl
 ·exact amy
 ·exact amx) (fun args lv h=>by
 unfold acW at h
 split at h
 ·split at h
  case h_2=>cases h
  rename_i heq0
  simp only [canL,canX]
  rw [o9 (n:=9) heq0]
  simp only [canL,canX]
  rw [aow]
  rename_i rs n _ cs os ks gs bs l d t od
  obtain rfl:=h
  have e0:((FH cs os ks gs bs !=0) || !qx l)=!(fM cs os ks gs bs&&qx l):=by
   unfold FH
   cases fM cs os ks gs bs<;>cases qx l<;>rfl
  have e1:(((List.length rs:Int) !=(List.length gs:Int)) ||(((List.length d:Int) !=(List.length gs:Int)) ||(!inB t 0 1000000 || !inB n 1 999900)))=!(decide (rs.length=gs.length)&&(decide (d.length=gs.length)&&(inB t 0 1000000&&inB n 1 999900))):=by
   rw [neN,neN,Bool.not_and,Bool.not_and,Bool.not_and]
  rw [e0,e1]
  have bad:Gu cs os ks gs bs l rs d t n=false→LV.v (.bool false)=LV.v (.bool (Gu cs os ks gs bs l rs d t n)):=fun h=>by rw [h]
  refine ⟨fun c=>bad (by unfold Gu;rw [ntW c];rfl),fun c=>⟨fun c2=>bad (by unfold Gu;rw [ntW c2,Bool.false_and,Bool.and_false]),fun c2=>?_⟩⟩
  have c:=Ot c
  have c2:=Ot c2
  have c':=c
  have c2':=c2
  simp only [Bool.and_eq_true,decide_eq_true_eq] at c' c2'
  have hl:=zO c'.2
  have hg:=(fP.1 c'.1).1.2.2.2.2.1
  have hE:adB ⟨cs,os,ks,gs,bs,l,d,t,od,rs,false,(List.length gs:Int),l,(List.length l:Int),0⟩:=⟨rfl,by simp only;omega,by simp only;omega,rfl⟩
  have ev:Gu cs os ks gs bs l rs d t n=(below gs.length l&&J6 gs.length (fun j=>SK (aW gs j) (lU rs j)&&Vu (lV d j))):=by
   unfold Gu
   rw [c,c2,Bool.true_and,Bool.true_and]
  refine ⟨⟨hE,rfl,rfl⟩,?_⟩
  obtain ⟨_,_,hq⟩:=apP _ hE
  have eb:below gs.length l=J6 l.length (fun j=>decide ((iH l j).2.1<(gs.length:Int))):=by
   rw [Bool.eq_iff_iff,fQ]
   exact (iM (d:=(0,0,0,0,0)) (p:=fun x:Le=>decide (x.2.1<(gs.length:Int)))).symm
  rcases hq with ⟨q1,q2⟩ |⟨q1,q2,j,q3,q4⟩<;>rw [q1]
  rotate_left
  ·rw [q2]
   exact ⟨fun _=>bad (by rw [ev,eb,uh (f:=fun j=>decide ((iH l j).2.1<(gs.length:Int))) j q3 q4];rfl),fun h=>by cases h⟩
  refine ⟨fun h=>(by cases h),fun _=>?_⟩
  have g0:below gs.length l=true:=by rw [eb];exact fQ.2 q2
  have hE2:adA ⟨cs,os,ks,gs,bs,l,d,t,od,rs,(wX ⟨cs,os,ks,gs,bs,l,d,t,od,rs,false,(List.length gs:Int),l,(List.length l:Int),0⟩).r,gs,(List.length gs:Int),0⟩:=⟨rfl,by simp only;omega,by simp only;omega,rfl,c2'.1,c2'.2.1⟩
  refine ⟨⟨hE2,rfl,rfl⟩,?_⟩
  obtain ⟨_,_,hq⟩:=apO _ hE2
  rcases hq with ⟨q5,q6⟩ |⟨q5,q6,j,q7,q8⟩<;>rw [q5]
  ·exact ⟨fun h=>(by cases h),fun _=>by rw [ev,g0,(fQ (f:=fun j=>SK (aW gs j) (lU rs j)&&Vu (lV d j))).2 q6];rfl⟩
  ·rw [q6]
   exact ⟨fun _=>bad (by rw [ev,uh (f:=fun j=>SK (aW gs j) (lU rs j)&&Vu (lV d j)) j q7 q8,Bool.and_false]),fun h=>by cases h⟩
 ·cases h)
end Go.Proofs.YtlihnbimgclogaaGreatDoor
namespace Go.Proofs.YtlihnbimgclogaaGreatDoor
open Go.Sx
structure oU where
 n:Int
 r:Bool
 l:List Int
 m:Int
 k:Int
 seen:List Bool
def aDy (s:oU):List LV:=[.v (.int .i64 s.n),.v (.bool s.r),.os 0 1 0 (List.length s.seen),.xl (.int .i64) s.l,.v (.int .i64 s.m),.v (.int .i64 s.k)]
def aCx (s:oU):List aU:=[⟨[],4,.vec .bool s.seen,false⟩]
noncomputable def BD:Code:=((aB (Tryz.f94.body.getD .skip))[0]?).getD .skip
def Zp (s:oU):T (Rd oU):=
 .br (decide (s.k<s.m)) (.req (0≤s.k∧s.k<(List.length s.l:Int)) (.br (decide ((gi s.l s.k)<0)) (.rl s.seen (.ok (.stop (.ret) {s with r:=false}))) (.br (decide ((gi s.l s.k)≥s.n)) (.rl s.seen (.ok (.stop (.ret) {s with r:=false}))) (.req (0≤(gi s.l s.k)∧(gi s.l s.k)<((List.length s.seen:Nat):Int)) (.req ((gi s.l s.k).toNat<List.length s.seen) (.br (s.seen.getD (gi s.l s.k).toNat (Ty.dflt .bool)) (.rl s.seen (.ok (.stop (.ret) {s with r:=false}))) (.req (0≤(gi s.l s.k)∧(gi s.l s.k)<((List.length s.seen:Nat):Int)) (.req ((gi s.l s.k).toNat<List.length s.seen) (.req (0=0∧(List.length s.seen)=List.length (s.seen.set (gi s.l s.k).toNat true)) (.ok (.next {s with k:=(IntKind.i64.wrap (s.k+1)),seen:=(s.seen.set (gi s.l s.k).toNat true)}))))))))))) (.rl s.seen (.ok (.stop (.exit 0) s)))
abbrev asb (s:oU):=(Zp s).rd s
def Cm (s:oU) (j:Int):Bool:=SH s.n (gi s.l j)&&!(((s.l.take j.toNat).map id).contains (id (gi s.l j)))
def ak9 (s:oU):Prop:=s.k=0∧s.seen=List.replicate s.seen.length false∧s.m=(s.l.length:Int)∧s.m≤1000∧s.n=(s.seen.length:Int)
def Nk (s:oU):Prop:=(0≤s.k∧s.k≤s.m)∧(∀j:Nat,j<s.seen.length→s.seen.getD j false=(s.l.take s.k.toNat).contains (j:Int))∧(∀j:Nat,(j:Int)<s.k→Cm s j=true)∧s.m=(s.l.length:Int)∧s.m≤1000∧s.n=(s.seen.length:Int)
def O8 (s:oU):Nat:=(s.m-s.k).toNat
def adf (x:Ex) (_ s':oU):Prop:=(x=.exit 0∧∀j:Nat,(j:Int)<s'.m→Cm s' j=true)∨(x=.ret∧s'.r=false∧∃j:Nat,(j:Int)<s'.m∧Cm s' j=false)
theorem aAv:∀s,ak9 s→Nk s:=by
 intro s h
 obtain ⟨h0,h1,h2,h3,h4⟩:=h
 refine ⟨by omega,fun j hj=>?_,fun j hj=>by omega,h2,h3,h4⟩
 rw [h1,h0]
 simp [List.getD,List.getElem?_replicate]
 split<;>rfl
theorem awu (s:oU) (hI:Nk s):bJ (fun s'=>Nk s'∧O8 s'<O8 s) (fun x s'=>adf x s s') (asb s):=by
 unfold asb Zp
 dsimp only [T.rd,T.rl]
 obtain ⟨⟨h0,h1⟩,h2,h3,h4,h5,h6⟩:=hI
 refine au (fun c1=>?_) (fun c1=>?_)
 rotate_left
 ·have c1:s.m≤s.k:=by simpa using c1
  exact .inl ⟨rfl,fun j hj=>h3 j (by omega)⟩
 have c1:s.k<s.m:=by simpa using c1
 have bad:Cm s s.k=false→adf .ret s {s with r:=false}:=fun hg=> .inr ⟨rfl,rfl,s.k.toNat,by simp only;omega,by rw [Int.toNat_of_nonneg h0];exact hg⟩
 refine au (fun c2=>bad ?_) (fun c2=>au (fun c3=>bad ?_) (fun c3=>au (fun c4=>bad ?_) (fun c4=>?_)))
 ·unfold Cm SH
  simp only [decide_eq_true_eq] at c2
  rw [decide_eq_false (by omega)]
  rfl
 ·unfold Cm SH
  simp only [decide_eq_true_eq] at c3
  rw [decide_eq_false (p:=gi s.l s.k<s.n) (by omega),Bool.and_false]
  rfl
 all_goals
  have c2:0≤gi s.l s.k:=by simpa using c2
  have c3:gi s.l s.k<s.n:=by simpa using c3
  have e:=h2 (gi s.l s.k).toNat (by omega)
  rw [Int.toNat_of_nonneg c2] at e
 ·have c4:s.seen.getD (gi s.l s.k).toNat false=true:=c4
  unfold Cm
  rw [List.map_id,id,←e,c4]
  simp
 ·have c4:s.seen.getD (gi s.l s.k).toNat false=false:=c4
  have hg:Cm s s.k=true:=by
   unfold Cm
   rw [List.map_id,id,←e,c4,zF.2 ⟨c2,c3⟩]
   rfl
  rw [aK (x:=s.k+1) (by omega) (by omega)]
  refine ⟨⟨⟨by simp only;omega,by simp only;omega⟩,fun j hj=>?_,fun j hj=>?_,h4,h5,by simp only [List.length_set];exact h6⟩,by simp only [O8];omega⟩
  ·simp only [List.length_set] at hj
   simp only
   rw [(gi_step h0 (show s.k<s.l.length by omega)).2,List.contains_append,←h2 j hj]
   by_cases hj2:(gi s.l s.k).toNat=j
   ·subst hj2
    rw [Int.toNat_of_nonneg c2]
    simp [List.getD,hj]
   ·have:¬(j:Int)=gi s.l s.k:=by omega
    simp [List.getD,List.getElem?_set_ne hj2,this]
  ·by_cases hji:(j:Int)<s.k
   ·exact h3 j hji
   ·have:(j:Int)=s.k:=by simp only at hj;omega
    rw [this];exact hg
def Fa:bK oU:=⟨0,37,[1,4,5,14,15,16],[],aDy,aCx,fun v b=>⟨gI (v.getD 0 .junk),uT (v.getD 1 .junk),aQ (.int .i64) (v.getD 3 .junk),gI (v.getD 4 .junk),gI (v.getD 5 .junk),iT .bool (aO b 0)⟩,Zp,fun s r=> {r with n:=s.n,l:=s.l,m:=s.m},fun s=>s,fun _ s=>s,[.ret,.exit 0],ak9,Nk,O8⟩
abbrev Z4:=Fa.run
abbrev abD:=Fa.jG
abbrev ayo:=Fa.q
theorem au3 (s:oU) (hI:Nk s):(Zp s).all (fun _=>True):=by
 refine ⟨fun c1=>⟨?_,fun c2=>⟨⟨rfl,rfl⟩,trivial⟩,fun c2=>⟨fun c3=>⟨⟨rfl,rfl⟩,trivial⟩,fun c3=>⟨?_,?_,fun c4=>⟨⟨rfl,rfl⟩,trivial⟩,fun c4=>⟨?_,?_,?_,trivial⟩⟩⟩⟩,fun c1=>⟨⟨rfl,rfl⟩,trivial⟩⟩
 iterate 5 · (obtain ⟨⟨h0,h1⟩,h2,h3,h4,h5,h6⟩:=hI;simp only [decide_eq_true_eq,decide_eq_false_iff_not] at*;omega)
 ·exact ⟨rfl,by simp⟩
noncomputable def aiY:Specs:=bf []
theorem ars:∀g S,aiY g=some S→Valid Tryz.prog aS g S:=aT (l:=[]) trivial
theorem ahg:Fa.Ok:=⟨fun s=>by kernel_rfl,fun s=>by kernel_rfl,fun s=>rfl,fun s t r=>rfl,fun s=>rfl,fun s=>by kernel_rfl⟩
theorem aga:Fa.Pf (adf):=⟨aAv,fun _ _=>rfl,awu,au3⟩
theorem amr:bn Tryz.prog aS (AN 0) (.loop BD) Fa.lp:=bK.snd ahg aga (aP (Γ:=aiY) (K:=dY) (L:=aC) ars aF BD (fun b hb=>by rw [show aB BD=[] by kernel_rfl] at hb;cases hb)) (fun s=>by kernel_rfl)
theorem aoV (s:oU) (hE:ak9 s):∃s',Nk s'∧adf (abD s) s' (Z4 s):=bK.fin ahg aga s hE
def acR:List LV→T LV
 | [.xl (.int .i64) l,.v (.int .i64 n)]=> .req (n≤1000) (.ok (.v (.bool (mG l n))))
 |_=> .no
noncomputable def qH:List LV→T LV:=gJ Tryz.prog Tryz.f94.params.toList acR
theorem aor (l:List Int) (n:Int):bT Tryz.prog aS (aiY) dY (fun i=>if i=5 then Fa.lp else aC i) Tryz.f94 [.xl (.int .i64) l,.v (.int .i64 n)]=.br ((List.length l:Int) !=n) (.ok (.v (.bool false))) (.req (0≤n∧n≤n∧1*n≤2^48∧n<2^63) (.req (0=0∧n.toNat=List.length (List.replicate n.toNat false)) (.req (ayo (⟨n,false,l,(List.length l:Int),(0:Int),(List.replicate n.toNat false)⟩:oU)) (.br (iw (abD (⟨n,false,l,(List.length l:Int),(0:Int),(List.replicate n.toNat false)⟩:oU)) (.ret)) (.ok (.v (.bool (Z4 (⟨n,false,l,(List.length l:Int),(0:Int),(List.replicate n.toNat false)⟩:oU)).r))) (.ok (.v (.bool true))))))):=by kernel_rfl
theorem Gw:Valid Tryz.prog aS 94 qH:=aH Tryz.func94 rfl ars aF (L:=(fun i=>if i=5 then Fa.lp else aC i)) (fun b hb=>by
 rw [show aB _=[BD] by kernel_rfl] at hb
 simp only [List.mem_cons,List.not_mem_nil,or_false] at hb
 subst hb
 exact amr) (fun args lv h=>by
 unfold acR at h
 split at h
 ·simp only [canL,canX]
  rw [aor]
  rename_i l n
  obtain ⟨hl,rfl⟩:=h
  refine ⟨fun c=>congrArg (fun z=>LV.v (.bool z)) ?_,fun c=>?_⟩
  ·have c:¬(List.length l:Int)=n:=by simpa using c
   unfold mG
   rw [decide_eq_false c]
   rfl
  ·have c:(List.length l:Int)=n:=by simpa using c
   unfold mG
   rw [decide_eq_true c,Bool.true_and]
   refine ⟨by omega,⟨rfl,by simp⟩,mQ ⟨⟨rfl,by simp,rfl,by simp only;omega,by simp only [List.length_replicate];omega⟩,rfl,rfl⟩ (fun hE=>?_)⟩
   obtain ⟨s',_,hq⟩:=aoV _ hE.1
   rcases hq with ⟨q1,q2⟩ |⟨q1,q2,j,q3,q4⟩
   ·rw [q1]
    have hk:=(kH (d:=(0:Int)) (p:=SH n) (k:=id)).1 q2
    rw [List.map_id] at hk
    rw [hk]
    exact ⟨fun h=>(by cases h),fun _=>rfl⟩
   ·rw [q1,q2]
    refine ⟨fun _=>congrArg (fun z=>LV.v (.bool z)) ?_,fun h=>by cases h⟩
    rw [eq_comm,Bool.eq_false_iff]
    intro hx
    have:=(kH (d:=(0:Int)) (p:=SH n) (k:=id)).2 (by rw [List.map_id];exact hx) j q3
    exact Bool.noConfusion (this.symm.trans q4)
 ·cases h)
end Go.Proofs.YtlihnbimgclogaaGreatDoor
namespace Go.Proofs.YtlihnbimgclogaaGreatDoor
open Go.Sx
structure jE where
 r:Bool
 l:List Int
 n:Int
 i:Int
 bI:List Cd
 iP:List ByteArray
 fG:List Ko
 fZ:List Ch
 mP:List Ba
def aDC (s:jE):List LV:=[.fn 92 [],.v (.bool s.r),.xl (.int .i64) s.l,.v (.int .i64 s.n),.v (.int .i64 s.i)]
def aCB (s:jE):List aU:=[⟨[.xl dU s.bI,.xl .str s.iP,.xl dW s.fG,.xl dM s.fZ,.xl dX s.mP],28,.cl,false⟩]
noncomputable def Ul:Code:=((aB (Tryz.f93.body.getD .skip))[0]?).getD .skip
def Zq (s:jE):T (Rd jE):=
 .br (decide (s.i<s.n)) (.req (0≤s.i∧s.i<(List.length s.l:Int)) (.br (!((decide ((gi s.l s.i)≥0))&&(decide ((gi s.l s.i)≤80)))) (.ok (.stop (.ret) {s with r:=false})) (.ok (.next {s with i:=(IntKind.i64.wrap (s.i+1))})))) (.ok (.stop (.exit 0) s))
abbrev asc (s:jE):=(Zq s).rd s
def JL (s:jE) (j:Int):Bool:=uI (gi s.l j)
def adx (s:jE):Prop:=s.i=0∧0≤s.n∧s.n≤1000∧s.n=(s.l.length:Int)
def Np (s:jE):Prop:=0≤s.i∧s.i≤s.n∧s.n≤1000∧(s.n=(s.l.length:Int))∧∀j:Nat,(j:Int)<s.i→JL s j=true
def Pj (s:jE):Nat:=(s.n-s.i).toNat
def akB (x:Ex) (_ s':jE):Prop:=(x=.exit 0∧∀j:Nat,(j:Int)<s'.n→JL s' j=true)∨(x=.ret∧s'.r=false∧∃j:Nat,(j:Int)<s'.n∧JL s' j=false)
theorem aBi:∀s,adx s→Np s:=by
 intro s h
 obtain ⟨h0,h1,h2,h3⟩:=h
 exact ⟨by omega,by omega,h2,h3,fun j hj=>by omega⟩
theorem aw2 (s:jE) (hI:Np s):bJ (fun s'=>Np s'∧Pj s'<Pj s) (fun x s'=>akB x s s') (asc s):=by
 unfold asc Zq
 dsimp only [T.rd,T.rl]
 obtain ⟨h0,h1,h2,h3,h4⟩:=hI
 refine au (fun c1=>au (fun c2=>?_) (fun c2=>?_)) (fun c1=>?_)
 ·have c1:s.i<s.n:=by simpa using c1
  refine .inr ⟨rfl,rfl,s.i.toNat,by simp only;omega,?_⟩
  rw [Int.toNat_of_nonneg (by omega)]
  have hg:JL s s.i=false:=by unfold JL;(first|(have c2:(!(uI (gi s.l s.i)))=false:=c2;simpa using c2) |(have c2:(!(uI (gi s.l s.i)))=true:=c2;simpa using c2))
  exact hg
 ·have c1:s.i<s.n:=by simpa using c1
  have hg:JL s s.i=true:=by unfold JL;(first|(have c2:(!(uI (gi s.l s.i)))=false:=c2;simpa using c2) |(have c2:(!(uI (gi s.l s.i)))=true:=c2;simpa using c2))
  rw [aK (x:=s.i+1) (by omega) (by omega)]
  refine ⟨⟨by simp only;omega,by simp only;omega,h2,h3,fun j hj=>?_⟩,by simp only [Pj];omega⟩
  by_cases hji:(j:Int)<s.i
  ·exact h4 j hji
  ·have:(j:Int)=s.i:=by simp only at hj;omega
   rw [this];exact hg
 ·have c1:s.n≤s.i:=by simpa using c1
  exact .inl ⟨rfl,fun j hj=>h4 j (by omega)⟩
def ve:bK jE:=⟨1,18,[1,4,7,8,9],[],aDC,aCB,fun v b=>⟨uT (v.getD 1 .junk),aQ (.int .i64) (v.getD 2 .junk),gI (v.getD 3 .junk),gI (v.getD 4 .junk),aQ dU (aX (aO b 0) 0),aQ .str (aX (aO b 0) 1),aQ dW (aX (aO b 0) 2),aQ dM (aX (aO b 0) 3),aQ dX (aX (aO b 0) 4)⟩,Zq,fun s r=> {r with l:=s.l,n:=s.n,bI:=s.bI,iP:=s.iP,fG:=s.fG,fZ:=s.fZ,mP:=s.mP},fun s=>s,fun _ s=>s,[.ret,.exit 0],adx,Np,Pj⟩
abbrev ug:=ve.run
abbrev xI:=ve.jG
abbrev YM:=ve.q
noncomputable def yu:Specs:=bf [(24,lg),(61,nY),(94,qH),(96,qG)]
theorem zW:∀g S,yu g=some S→Valid Tryz.prog aS g S:=aT (l:=[(24,lg),(61,nY),(94,qH),(96,qG)]) ⟨yC,CO,Gw,Gv,trivial⟩
noncomputable def aiz:Hand:=inl Tryz.prog aS yu (lX Tryz.prog aS (yu) 20 2) 9
theorem aqZ:dL Tryz.prog aS aiz:=bQ zW (dQ zW) 9
theorem au7 (s:jE) (hI:Np s):(Zq s).all (fun _=>True):=by
 refine ⟨fun c1=>⟨?_,fun _=>trivial,fun _=>trivial⟩,fun _=>trivial⟩
 ·(obtain ⟨h0,h1,h2,h3,h4⟩:=hI;simp at c1;omega)
theorem ahk:ve.Ok:=⟨fun s=>by kernel_rfl,fun s=>by kernel_rfl,fun s=>rfl,fun s t r=>rfl,fun s=>rfl,fun s=>by kernel_rfl⟩
theorem agf:ve.Pf (akB):=⟨aBi,fun _ _=>rfl,aw2,au7⟩
theorem wP:bn Tryz.prog aS (AN 1) (.loop Ul) ve.lp:=bK.snd ahk agf (bF (Γ:=yu) (K:=aiz) (L:=(tN Tryz.prog aS yu aiz 20 2)) zW aqZ Ul (fun b _=>dR zW aqZ 20 2 b)) (fun s=>by kernel_rfl)
theorem apK (s:jE) (hE:adx s):∃s',Np s'∧akB (xI s) s' (ug s):=bK.fin ahk agf s hE
theorem abN (s:jE) (hE:adx s):(xI s=.exit 0∧s.l.all uI=true)∨(xI s=.ret∧(ug s).r=false∧s.l.all uI=false):=by
 obtain ⟨s',hI,hq⟩:=apK s hE
 obtain ⟨h0,h1,h2,h3⟩:=hE
 have el:(ug s).l=s.l:=rfl
 have en:(ug s).n=s.n:=rfl
 rcases hq with ⟨q1,q2⟩ |⟨q1,q2,j,q3,q4⟩
 ·refine .inl ⟨q1,(iM (d:=(0:Int))).1 fun j hj=>?_⟩
  have:=q2 j (by rw [en];omega)
  exact this
 ·refine .inr ⟨q1,q2,?_⟩
  rw [Bool.eq_false_iff]
  intro hx
  have:=(iM (d:=(0:Int))).2 hx j (by rw [en] at q3;omega)
  exact Bool.noConfusion (this.symm.trans q4)
structure gZ where
 alive:List Int
 i:Int
 rows:List Rw
 rn:Int
 ri:Int
 l:List Int
 n:Int
 k:Int
 bP:List Cd
 eu:List ByteArray
 bV:List Ko
 bZ:List Ch
 iE:List Ba
 yF:List Cd
 yD:List ByteArray
 yE:List Ko
 eX:List Ch
 yG:List Ba
 bG:List Rw
 bg:List Int
 jo:List Int
 jm:List Int
 jl:List Int
 jk:List Int
 ji:List Int
 jh:List Int
 jg:List Int
 jf:List Int
 je:List Int
 jd:List Int
 dJ:List Int
 dI:List Int
 dH:List Int
 dG:List Int
 dF:List Int
 dD:List Int
 sums:List Int
 levels:List Int
def aDo (s:gZ):List LV:=[.xl (.int .i64) s.alive,.own 1 0,.v (.int .i64 s.i),.xl CQ s.rows,.v (.int .i64 s.rn),.v (.int .i64 s.ri),.xl (.int .i64) s.l,.v (.int .i64 s.n),.v (.int .i64 s.k)]
def aCn (s:gZ):List aU:=[⟨[.xl dU s.bP,.xl .str s.eu,.xl dW s.bV,.xl dM s.bZ,.xl dX s.iE],28,.cl,false⟩,⟨[.xl dU s.yF,.xl .str s.yD,.xl dW s.yE,.xl dM s.eX,.xl dX s.yG,.xl CQ s.bG,.os 2 1 0 (List.length s.jo),.os 3 1 0 (List.length s.jm),.os 4 1 0 (List.length s.jl),.os 5 1 0 (List.length s.jk),.os 6 1 0 (List.length s.ji),.os 7 1 0 (List.length s.jh),.os 8 1 0 (List.length s.jg),.os 9 1 0 (List.length s.jf),.os 10 1 0 (List.length s.je),.os 11 1 0 (List.length s.jd),.os 12 1 0 (List.length s.dJ),.os 13 1 0 (List.length s.dI),.os 14 1 0 (List.length s.dH),.os 15 1 0 (List.length s.dG),.os 16 1 0 (List.length s.dF),.os 17 1 0 (List.length s.dD),.os 18 1 0 (List.length s.sums),.xl (.int .i64) s.bg,.os 19 1 0 (List.length s.levels)],148,.cl,false⟩,⟨[],3,.vec (.int .i64) s.jo,false⟩,⟨[],3,.vec (.int .i64) s.jm,false⟩,⟨[],3,.vec (.int .i64) s.jl,false⟩,⟨[],3,.vec (.int .i64) s.jk,false⟩,⟨[],3,.vec (.int .i64) s.ji,false⟩,⟨[],3,.vec (.int .i64) s.jh,false⟩,⟨[],3,.vec (.int .i64) s.jg,false⟩,⟨[],3,.vec (.int .i64) s.jf,false⟩,⟨[],3,.vec (.int .i64) s.je,false⟩,⟨[],3,.vec (.int .i64) s.jd,false⟩,⟨[],3,.vec (.int .i64) s.dJ,false⟩,⟨[],3,.vec (.int .i64) s.dI,false⟩,⟨[],3,.vec (.int .i64) s.dH,false⟩,⟨[],3,.vec (.int .i64) s.dG,false⟩,⟨[],3,.vec (.int .i64) s.dF,false⟩,⟨[],3,.vec (.int .i64) s.dD,false⟩,⟨[],3,.vec (.int .i64) s.sums,false⟩,⟨[],3,.vec (.int .i64) s.levels,false⟩]
noncomputable def Jd:Code:=((aB (((aB (Tryz.f95.body.getD .skip))[0]?).getD .skip))[0]?).getD .skip
set_option maxHeartbeats 4000000 in
def Ro (s:gZ):T (Rd gZ):=
 .br (decide (s.k<s.n)) (.req (0≤s.k∧s.k<(List.length s.l:Int)) (.req (0≤(gi s.l s.k)∧(gi s.l s.k)<(16:Int)) (.br ((gi s.l s.k)==0) (.req (0+(List.length s.jo)=List.length s.jo∧((List.length s.jo+List.length ([s.i]):Nat):Int)*8≤2^47∧((List.length s.jo+List.length ([s.i]):Nat):Int)<2^62) (.req (0≤s.i∧s.i<((List.length s.sums:Nat):Int)) (.req (0≤(0:Int)∧0<(List.length s.alive:Int)) (.req (s.i.toNat<List.length s.sums) (.req (0≤s.i∧s.i<((List.length s.sums:Nat):Int)) (.req (s.i.toNat<List.length s.sums) (.req (0=0∧(List.length s.jo+List.length ([s.i]))=List.length (s.jo++([s.i]))) (.rl s.jm (.rl s.jl (.rl s.jk (.rl s.ji (.rl s.jh (.rl s.jg (.rl s.jf (.rl s.je (.rl s.jd (.rl s.dJ (.rl s.dI (.rl s.dH (.rl s.dG (.rl s.dF (.rl s.dD (.req (0=0∧(List.length s.sums)=List.length (s.sums.set s.i.toNat (IntKind.i64.wrap ((s.sums.getD s.i.toNat (Ty.dflt (.int .i64)))+(gi s.alive (0:Int)))))) (.rl s.levels (.ok (.next {s with k:=(IntKind.i64.wrap (s.k+1)),jo:=(s.jo++([s.i])),sums:=(s.sums.set s.i.toNat (IntKind.i64.wrap ((s.sums.getD s.i.toNat (Ty.dflt (.int .i64)))+(gi s.alive (0:Int)))))})))))))))))))))))))))))))) (.br ((gi s.l s.k)==1) (.req (0+(List.length s.jm)=List.length s.jm∧((List.length s.jm+List.length ([s.i]):Nat):Int)*8≤2^47∧((List.length s.jm+List.length ([s.i]):Nat):Int)<2^62) (.req (0≤s.i∧s.i<((List.length s.sums:Nat):Int)) (.req (0≤(1:Int)∧1<(List.length s.alive:Int)) (.req (s.i.toNat<List.length s.sums) (.req (0≤s.i∧s.i<((List.length s.sums:Nat):Int)) (.req (s.i.toNat<List.length s.sums) (.rl s.jo (.req (0=0∧(List.length s.jm+List.length ([s.i]))=List.length (s.jm++([s.i]))) (.rl s.jl (.rl s.jk (.rl s.ji (.rl s.jh (.rl s.jg (.rl s.jf (.rl s.je (.rl s.jd (.rl s.dJ (.rl s.dI (.rl s.dH (.rl s.dG (.rl s.dF (.rl s.dD (.req (0=0∧(List.length s.sums)=List.length (s.sums.set s.i.toNat (IntKind.i64.wrap ((s.sums.getD s.i.toNat (Ty.dflt (.int .i64)))+(gi s.alive (1:Int)))))) (.rl s.levels (.ok (.next {s with k:=(IntKind.i64.wrap (s.k+1)),jm:=(s.jm++([s.i])),sums:=(s.sums.set s.i.toNat (IntKind.i64.wrap ((s.sums.getD s.i.toNat (Ty.dflt (.int .i64)))+(gi s.alive (1:Int)))))})))))))))))))))))))))))))) (.br ((gi s.l s.k)==2) (.req (0+(List.length s.jl)=List.length s.jl∧((List.length s.jl+List.length ([s.i]):Nat):Int)*8≤2^47∧((List.length s.jl+List.length ([s.i]):Nat):Int)<2^62) (.req (0≤s.i∧s.i<((List.length s.sums:Nat):Int)) (.req (0≤(2:Int)∧2<(List.length s.alive:Int)) (.req (s.i.toNat<List.length s.sums) (.req (0≤s.i∧s.i<((List.length s.sums:Nat):Int)) (.req (s.i.toNat<List.length s.sums) (.rl s.jo (.rl s.jm (.req (0=0∧(List.length s.jl+List.length ([s.i]))=List.length (s.jl++([s.i]))) (.rl s.jk (.rl s.ji (.rl s.jh (.rl s.jg (.rl s.jf (.rl s.je (.rl s.jd (.rl s.dJ (.rl s.dI (.rl s.dH (.rl s.dG (.rl s.dF (.rl s.dD (.req (0=0∧(List.length s.sums)=List.length (s.sums.set s.i.toNat (IntKind.i64.wrap ((s.sums.getD s.i.toNat (Ty.dflt (.int .i64)))+(gi s.alive (2:Int)))))) (.rl s.levels (.ok (.next {s with k:=(IntKind.i64.wrap (s.k+1)),jl:=(s.jl++([s.i])),sums:=(s.sums.set s.i.toNat (IntKind.i64.wrap ((s.sums.getD s.i.toNat (Ty.dflt (.int .i64)))+(gi s.alive (2:Int)))))})))))))))))))))))))))))))) (.br ((gi s.l s.k)==3) (.req (0+(List.length s.jk)=List.length s.jk∧((List.length s.jk+List.length ([s.i]):Nat):Int)*8≤2^47∧((List.length s.jk+List.length ([s.i]):Nat):Int)<2^62) (.req (0≤s.i∧s.i<((List.length s.sums:Nat):Int)) (.req (0≤(3:Int)∧3<(List.length s.alive:Int)) (.req (s.i.toNat<List.length s.sums) (.req (0≤s.i∧s.i<((List.length s.sums:Nat):Int)) (.req (s.i.toNat<List.length s.sums) (.rl s.jo (.rl s.jm (.rl s.jl (.req (0=0∧(List.length s.jk+List.length ([s.i]))=List.length (s.jk++([s.i]))) (.rl s.ji (.rl s.jh (.rl s.jg (.rl s.jf (.rl s.je (.rl s.jd (.rl s.dJ (.rl s.dI (.rl s.dH (.rl s.dG (.rl s.dF (.rl s.dD (.req (0=0∧(List.length s.sums)=List.length (s.sums.set s.i.toNat (IntKind.i64.wrap ((s.sums.getD s.i.toNat (Ty.dflt (.int .i64)))+(gi s.alive (3:Int)))))) (.rl s.levels (.ok (.next {s with k:=(IntKind.i64.wrap (s.k+1)),jk:=(s.jk++([s.i])),sums:=(s.sums.set s.i.toNat (IntKind.i64.wrap ((s.sums.getD s.i.toNat (Ty.dflt (.int .i64)))+(gi s.alive (3:Int)))))})))))))))))))))))))))))))) (.br ((gi s.l s.k)==4) (.req (0+(List.length s.ji)=List.length s.ji∧((List.length s.ji+List.length ([s.i]):Nat):Int)*8≤2^47∧((List.length s.ji+List.length ([s.i]):Nat):Int)<2^62) (.req (0≤s.i∧s.i<((List.length s.sums:Nat):Int)) (.req (0≤(4:Int)∧4<(List.length s.alive:Int)) (.req (s.i.toNat<List.length s.sums) (.req (0≤s.i∧s.i<((List.length s.sums:Nat):Int)) (.req (s.i.toNat<List.length s.sums) (.rl s.jo (.rl s.jm (.rl s.jl (.rl s.jk (.req (0=0∧(List.length s.ji+List.length ([s.i]))=List.length (s.ji++([s.i]))) (.rl s.jh (.rl s.jg (.rl s.jf (.rl s.je (.rl s.jd (.rl s.dJ (.rl s.dI (.rl s.dH (.rl s.dG (.rl s.dF (.rl s.dD (.req (0=0∧(List.length s.sums)=List.length (s.sums.set s.i.toNat (IntKind.i64.wrap ((s.sums.getD s.i.toNat (Ty.dflt (.int .i64)))+(gi s.alive (4:Int)))))) (.rl s.levels (.ok (.next {s with k:=(IntKind.i64.wrap (s.k+1)),ji:=(s.ji++([s.i])),sums:=(s.sums.set s.i.toNat (IntKind.i64.wrap ((s.sums.getD s.i.toNat (Ty.dflt (.int .i64)))+(gi s.alive (4:Int)))))})))))))))))))))))))))))))) (.br ((gi s.l s.k)==5) (.req (0+(List.length s.jh)=List.length s.jh∧((List.length s.jh+List.length ([s.i]):Nat):Int)*8≤2^47∧((List.length s.jh+List.length ([s.i]):Nat):Int)<2^62) (.req (0≤s.i∧s.i<((List.length s.sums:Nat):Int)) (.req (0≤(5:Int)∧5<(List.length s.alive:Int)) (.req (s.i.toNat<List.length s.sums) (.req (0≤s.i∧s.i<((List.length s.sums:Nat):Int)) (.req (s.i.toNat<List.length s.sums) (.rl s.jo (.rl s.jm (.rl s.jl (.rl s.jk (.rl s.ji (.req (0=0∧(List.length s.jh+List.length ([s.i]))=List.length (s.jh++([s.i]))) (.rl s.jg (.rl s.jf (.rl s.je (.rl s.jd (.rl s.dJ (.rl s.dI (.rl s.dH (.rl s.dG (.rl s.dF (.rl s.dD (.req (0=0∧(List.length s.sums)=List.length (s.sums.set s.i.toNat (IntKind.i64.wrap ((s.sums.getD s.i.toNat (Ty.dflt (.int .i64)))+(gi s.alive (5:Int)))))) (.rl s.levels (.ok (.next {s with k:=(IntKind.i64.wrap (s.k+1)),jh:=(s.jh++([s.i])),sums:=(s.sums.set s.i.toNat (IntKind.i64.wrap ((s.sums.getD s.i.toNat (Ty.dflt (.int .i64)))+(gi s.alive (5:Int)))))})))))))))))))))))))))))))) (.br ((gi s.l s.k)==6) (.req (0+(List.length s.jg)=List.length s.jg∧((List.length s.jg+List.length ([s.i]):Nat):Int)*8≤2^47∧((List.length s.jg+List.length ([s.i]):Nat):Int)<2^62) (.req (0≤s.i∧s.i<((List.length s.sums:Nat):Int)) (.req (0≤(6:Int)∧6<(List.length s.alive:Int)) (.req (s.i.toNat<List.length s.sums) (.req (0≤s.i∧s.i<((List.length s.sums:Nat):Int)) (.req (s.i.toNat<List.length s.sums) (.rl s.jo (.rl s.jm (.rl s.jl (.rl s.jk (.rl s.ji (.rl s.jh (.req (0=0∧(List.length s.jg+List.length ([s.i]))=List.length (s.jg++([s.i]))) (.rl s.jf (.rl s.je (.rl s.jd (.rl s.dJ (.rl s.dI (.rl s.dH (.rl s.dG (.rl s.dF (.rl s.dD (.req (0=0∧(List.length s.sums)=List.length (s.sums.set s.i.toNat (IntKind.i64.wrap ((s.sums.getD s.i.toNat (Ty.dflt (.int .i64)))+(gi s.alive (6:Int)))))) (.rl s.levels (.ok (.next {s with k:=(IntKind.i64.wrap (s.k+1)),jg:=(s.jg++([s.i])),sums:=(s.sums.set s.i.toNat (IntKind.i64.wrap ((s.sums.getD s.i.toNat (Ty.dflt (.int .i64)))+(gi s.alive (6:Int)))))})))))))))))))))))))))))))) (.br ((gi s.l s.k)==7) (.req (0+(List.length s.jf)=List.length s.jf∧((List.length s.jf+List.length ([s.i]):Nat):Int)*8≤2^47∧((List.length s.jf+List.length ([s.i]):Nat):Int)<2^62) (.req (0≤s.i∧s.i<((List.length s.sums:Nat):Int)) (.req (0≤(7:Int)∧7<(List.length s.alive:Int)) (.req (s.i.toNat<List.length s.sums) (.req (0≤s.i∧s.i<((List.length s.sums:Nat):Int)) (.req (s.i.toNat<List.length s.sums) (.rl s.jo (.rl s.jm (.rl s.jl (.rl s.jk (.rl s.ji (.rl s.jh (.rl s.jg (.req (0=0∧(List.length s.jf+List.length ([s.i]))=List.length (s.jf++([s.i]))) (.rl s.je (.rl s.jd (.rl s.dJ (.rl s.dI (.rl s.dH (.rl s.dG (.rl s.dF (.rl s.dD (.req (0=0∧(List.length s.sums)=List.length (s.sums.set s.i.toNat (IntKind.i64.wrap ((s.sums.getD s.i.toNat (Ty.dflt (.int .i64)))+(gi s.alive (7:Int)))))) (.rl s.levels (.ok (.next {s with k:=(IntKind.i64.wrap (s.k+1)),jf:=(s.jf++([s.i])),sums:=(s.sums.set s.i.toNat (IntKind.i64.wrap ((s.sums.getD s.i.toNat (Ty.dflt (.int .i64)))+(gi s.alive (7:Int)))))})))))))))))))))))))))))))) (.br ((gi s.l s.k)==8) (.req (0+(List.length s.je)=List.length s.je∧((List.length s.je+List.length ([s.i]):Nat):Int)*8≤2^47∧((List.length s.je+List.length ([s.i]):Nat):Int)<2^62) (.req (0≤s.i∧s.i<((List.length s.sums:Nat):Int)) (.req (0≤(8:Int)∧8<(List.length s.alive:Int)) (.req (s.i.toNat<List.length s.sums) (.req (0≤s.i∧s.i<((List.length s.sums:Nat):Int)) (.req (s.i.toNat<List.length s.sums) (.rl s.jo (.rl s.jm (.rl s.jl (.rl s.jk (.rl s.ji (.rl s.jh (.rl s.jg (.rl s.jf (.req (0=0∧(List.length s.je+List.length ([s.i]))=List.length (s.je++([s.i]))) (.rl s.jd (.rl s.dJ (.rl s.dI (.rl s.dH (.rl s.dG (.rl s.dF (.rl s.dD (.req (0=0∧(List.length s.sums)=List.length (s.sums.set s.i.toNat (IntKind.i64.wrap ((s.sums.getD s.i.toNat (Ty.dflt (.int .i64)))+(gi s.alive (8:Int)))))) (.rl s.levels (.ok (.next {s with k:=(IntKind.i64.wrap (s.k+1)),je:=(s.je++([s.i])),sums:=(s.sums.set s.i.toNat (IntKind.i64.wrap ((s.sums.getD s.i.toNat (Ty.dflt (.int .i64)))+(gi s.alive (8:Int)))))})))))))))))))))))))))))))) (.br ((gi s.l s.k)==9) (.req (0+(List.length s.jd)=List.length s.jd∧((List.length s.jd+List.length ([s.i]):Nat):Int)*8≤2^47∧((List.length s.jd+List.length ([s.i]):Nat):Int)<2^62) (.req (0≤s.i∧s.i<((List.length s.sums:Nat):Int)) (.req (0≤(9:Int)∧9<(List.length s.alive:Int)) (.req (s.i.toNat<List.length s.sums) (.req (0≤s.i∧s.i<((List.length s.sums:Nat):Int)) (.req (s.i.toNat<List.length s.sums) (.rl s.jo (.rl s.jm (.rl s.jl (.rl s.jk (.rl s.ji (.rl s.jh (.rl s.jg (.rl s.jf (.rl s.je (.req (0=0∧(List.length s.jd+List.length ([s.i]))=List.length (s.jd++([s.i]))) (.rl s.dJ (.rl s.dI (.rl s.dH (.rl s.dG (.rl s.dF (.rl s.dD (.req (0=0∧(List.length s.sums)=List.length (s.sums.set s.i.toNat (IntKind.i64.wrap ((s.sums.getD s.i.toNat (Ty.dflt (.int .i64)))+(gi s.alive (9:Int)))))) (.rl s.levels (.ok (.next {s with k:=(IntKind.i64.wrap (s.k+1)),jd:=(s.jd++([s.i])),sums:=(s.sums.set s.i.toNat (IntKind.i64.wrap ((s.sums.getD s.i.toNat (Ty.dflt (.int .i64)))+(gi s.alive (9:Int)))))})))))))))))))))))))))))))) (.br ((gi s.l s.k)==10) (.req (0+(List.length s.dJ)=List.length s.dJ∧((List.length s.dJ+List.length ([s.i]):Nat):Int)*8≤2^47∧((List.length s.dJ+List.length ([s.i]):Nat):Int)<2^62) (.req (0≤s.i∧s.i<((List.length s.sums:Nat):Int)) (.req (0≤(10:Int)∧10<(List.length s.alive:Int)) (.req (s.i.toNat<List.length s.sums) (.req (0≤s.i∧s.i<((List.length s.sums:Nat):Int)) (.req (s.i.toNat<List.length s.sums) (.rl s.jo (.rl s.jm (.rl s.jl (.rl s.jk (.rl s.ji (.rl s.jh (.rl s.jg (.rl s.jf (.rl s.je (.rl s.jd (.req (0=0∧(List.length s.dJ+List.length ([s.i]))=List.length (s.dJ++([s.i]))) (.rl s.dI (.rl s.dH (.rl s.dG (.rl s.dF (.rl s.dD (.req (0=0∧(List.length s.sums)=List.length (s.sums.set s.i.toNat (IntKind.i64.wrap ((s.sums.getD s.i.toNat (Ty.dflt (.int .i64)))+(gi s.alive (10:Int)))))) (.rl s.levels (.ok (.next {s with k:=(IntKind.i64.wrap (s.k+1)),dJ:=(s.dJ++([s.i])),sums:=(s.sums.set s.i.toNat (IntKind.i64.wrap ((s.sums.getD s.i.toNat (Ty.dflt (.int .i64)))+(gi s.alive (10:Int)))))})))))))))))))))))))))))))) (.br ((gi s.l s.k)==11) (.req (0+(List.length s.dI)=List.length s.dI∧((List.length s.dI+List.length ([s.i]):Nat):Int)*8≤2^47∧((List.length s.dI+List.length ([s.i]):Nat):Int)<2^62) (.req (0≤s.i∧s.i<((List.length s.sums:Nat):Int)) (.req (0≤(11:Int)∧11<(List.length s.alive:Int)) (.req (s.i.toNat<List.length s.sums) (.req (0≤s.i∧s.i<((List.length s.sums:Nat):Int)) (.req (s.i.toNat<List.length s.sums) (.rl s.jo (.rl s.jm (.rl s.jl (.rl s.jk (.rl s.ji (.rl s.jh (.rl s.jg (.rl s.jf (.rl s.je (.rl s.jd (.rl s.dJ (.req (0=0∧(List.length s.dI+List.length ([s.i]))=List.length (s.dI++([s.i]))) (.rl s.dH (.rl s.dG (.rl s.dF (.rl s.dD (.req (0=0∧(List.length s.sums)=List.length (s.sums.set s.i.toNat (IntKind.i64.wrap ((s.sums.getD s.i.toNat (Ty.dflt (.int .i64)))+(gi s.alive (11:Int)))))) (.rl s.levels (.ok (.next {s with k:=(IntKind.i64.wrap (s.k+1)),dI:=(s.dI++([s.i])),sums:=(s.sums.set s.i.toNat (IntKind.i64.wrap ((s.sums.getD s.i.toNat (Ty.dflt (.int .i64)))+(gi s.alive (11:Int)))))})))))))))))))))))))))))))) (.br ((gi s.l s.k)==12) (.req (0+(List.length s.dH)=List.length s.dH∧((List.length s.dH+List.length ([s.i]):Nat):Int)*8≤2^47∧((List.length s.dH+List.length ([s.i]):Nat):Int)<2^62) (.req (0≤s.i∧s.i<((List.length s.sums:Nat):Int)) (.req (0≤(12:Int)∧12<(List.length s.alive:Int)) (.req (s.i.toNat<List.length s.sums) (.req (0≤s.i∧s.i<((List.length s.sums:Nat):Int)) (.req (s.i.toNat<List.length s.sums) (.rl s.jo (.rl s.jm (.rl s.jl (.rl s.jk (.rl s.ji (.rl s.jh (.rl s.jg (.rl s.jf (.rl s.je (.rl s.jd (.rl s.dJ (.rl s.dI (.req (0=0∧(List.length s.dH+List.length ([s.i]))=List.length (s.dH++([s.i]))) (.rl s.dG (.rl s.dF (.rl s.dD (.req (0=0∧(List.length s.sums)=List.length (s.sums.set s.i.toNat (IntKind.i64.wrap ((s.sums.getD s.i.toNat (Ty.dflt (.int .i64)))+(gi s.alive (12:Int)))))) (.rl s.levels (.ok (.next {s with k:=(IntKind.i64.wrap (s.k+1)),dH:=(s.dH++([s.i])),sums:=(s.sums.set s.i.toNat (IntKind.i64.wrap ((s.sums.getD s.i.toNat (Ty.dflt (.int .i64)))+(gi s.alive (12:Int)))))})))))))))))))))))))))))))) (.br ((gi s.l s.k)==13) (.req (0+(List.length s.dG)=List.length s.dG∧((List.length s.dG+List.length ([s.i]):Nat):Int)*8≤2^47∧((List.length s.dG+List.length ([s.i]):Nat):Int)<2^62) (.req (0≤s.i∧s.i<((List.length s.sums:Nat):Int)) (.req (0≤(13:Int)∧13<(List.length s.alive:Int)) (.req (s.i.toNat<List.length s.sums) (.req (0≤s.i∧s.i<((List.length s.sums:Nat):Int)) (.req (s.i.toNat<List.length s.sums) (.rl s.jo (.rl s.jm (.rl s.jl (.rl s.jk (.rl s.ji (.rl s.jh (.rl s.jg (.rl s.jf (.rl s.je (.rl s.jd (.rl s.dJ (.rl s.dI (.rl s.dH (.req (0=0∧(List.length s.dG+List.length ([s.i]))=List.length (s.dG++([s.i]))) (.rl s.dF (.rl s.dD (.req (0=0∧(List.length s.sums)=List.length (s.sums.set s.i.toNat (IntKind.i64.wrap ((s.sums.getD s.i.toNat (Ty.dflt (.int .i64)))+(gi s.alive (13:Int)))))) (.rl s.levels (.ok (.next {s with k:=(IntKind.i64.wrap (s.k+1)),dG:=(s.dG++([s.i])),sums:=(s.sums.set s.i.toNat (IntKind.i64.wrap ((s.sums.getD s.i.toNat (Ty.dflt (.int .i64)))+(gi s.alive (13:Int)))))})))))))))))))))))))))))))) (.br ((gi s.l s.k)==14) (.req (0+(List.length s.dF)=List.length s.dF∧((List.length s.dF+List.length ([s.i]):Nat):Int)*8≤2^47∧((List.length s.dF+List.length ([s.i]):Nat):Int)<2^62) (.req (0≤s.i∧s.i<((List.length s.sums:Nat):Int)) (.req (0≤(14:Int)∧14<(List.length s.alive:Int)) (.req (s.i.toNat<List.length s.sums) (.req (0≤s.i∧s.i<((List.length s.sums:Nat):Int)) (.req (s.i.toNat<List.length s.sums) (.rl s.jo (.rl s.jm (.rl s.jl (.rl s.jk (.rl s.ji (.rl s.jh (.rl s.jg (.rl s.jf (.rl s.je (.rl s.jd (.rl s.dJ (.rl s.dI (.rl s.dH (.rl s.dG (.req (0=0∧(List.length s.dF+List.length ([s.i]))=List.length (s.dF++([s.i]))) (.rl s.dD (.req (0=0∧(List.length s.sums)=List.length (s.sums.set s.i.toNat (IntKind.i64.wrap ((s.sums.getD s.i.toNat (Ty.dflt (.int .i64)))+(gi s.alive (14:Int)))))) (.rl s.levels (.ok (.next {s with k:=(IntKind.i64.wrap (s.k+1)),dF:=(s.dF++([s.i])),sums:=(s.sums.set s.i.toNat (IntKind.i64.wrap ((s.sums.getD s.i.toNat (Ty.dflt (.int .i64)))+(gi s.alive (14:Int)))))})))))))))))))))))))))))))) (.req (0+(List.length s.dD)=List.length s.dD∧((List.length s.dD+List.length ([s.i]):Nat):Int)*8≤2^47∧((List.length s.dD+List.length ([s.i]):Nat):Int)<2^62) (.req (0≤s.i∧s.i<((List.length s.sums:Nat):Int)) (.req (0≤(15:Int)∧15<(List.length s.alive:Int)) (.req (s.i.toNat<List.length s.sums) (.req (0≤s.i∧s.i<((List.length s.sums:Nat):Int)) (.req (s.i.toNat<List.length s.sums) (.rl s.jo (.rl s.jm (.rl s.jl (.rl s.jk (.rl s.ji (.rl s.jh (.rl s.jg (.rl s.jf (.rl s.je (.rl s.jd (.rl s.dJ (.rl s.dI (.rl s.dH (.rl s.dG (.rl s.dF (.req (0=0∧(List.length s.dD+List.length ([s.i]))=List.length (s.dD++([s.i]))) (.req (0=0∧(List.length s.sums)=List.length (s.sums.set s.i.toNat (IntKind.i64.wrap ((s.sums.getD s.i.toNat (Ty.dflt (.int .i64)))+(gi s.alive (15:Int)))))) (.rl s.levels (.ok (.next {s with k:=(IntKind.i64.wrap (s.k+1)),dD:=(s.dD++([s.i])),sums:=(s.sums.set s.i.toNat (IntKind.i64.wrap ((s.sums.getD s.i.toNat (Ty.dflt (.int .i64)))+(gi s.alive (15:Int)))))}))))))))))))))))))))))))))))))))))))))))))) (.rl s.jo (.rl s.jm (.rl s.jl (.rl s.jk (.rl s.ji (.rl s.jh (.rl s.jg (.rl s.jf (.rl s.je (.rl s.jd (.rl s.dJ (.rl s.dI (.rl s.dH (.rl s.dG (.rl s.dF (.rl s.dD (.rl s.sums (.rl s.levels (.ok (.stop (.exit 2) s))))))))))))))))))))
abbrev aa8 (s:gZ):=(Ro s).rd s
def fD (s:gZ):List (List Int):=[s.jo,s.jm,s.jl,s.jk,s.ji,s.jh,s.jg,s.jf,s.je,s.jd,s.dJ,s.dI,s.dH,s.dG,s.dF,s.dD]
def U9 (s:gZ):Prop:=s.k=0∧(∀o∈fD s,(o.length:Int)≤1000000)∧(0≤gi s.sums s.i∧gi s.sums s.i≤1000)∧s.n=(s.l.length:Int)∧s.n≤1000∧(∀m∈s.l,0≤m∧m<16∧m<(s.alive.length:Int))∧(∀a∈s.alive,0≤a∧a≤80)∧(0≤s.i∧s.i<(s.sums.length:Int))
def uZ (s:gZ):Prop:=(0≤s.k∧s.k≤s.n)∧(∀o∈fD s,(o.length:Int)≤1000000+s.k)∧(0≤gi s.sums s.i∧gi s.sums s.i≤1000+80*s.k)∧s.n=(s.l.length:Int)∧s.n≤1000∧(∀m∈s.l,0≤m∧m<16∧m<(s.alive.length:Int))∧(∀a∈s.alive,0≤a∧a≤80)∧(0≤s.i∧s.i<(s.sums.length:Int))
def vV (s:gZ):Nat:=(s.n-s.k).toNat
def akr (x:Ex) (_ s':gZ):Prop:=x=.exit 2∧s'.k=s'.n
theorem aAd:∀s,U9 s→uZ s:=by
 intro s h
 obtain ⟨h0,h1,h2,h3⟩:=h
 exact ⟨by have:=h3.1;omega,fun o ho=>by have:=h1 o ho;omega,by omega,h3⟩
theorem fU (s:gZ) (hI:uZ s) (c1:s.k<s.n):0≤gi s.l s.k∧gi s.l s.k<16∧gi s.l s.k<(s.alive.length:Int):=by
 obtain ⟨⟨h0,h1⟩,h2,h3,h4,h5,h6,h7,h8⟩:=hI
 exact h6 _ (by rw [nH (by omega)];exact List.getElem_mem _)
theorem ahE (s s':gZ) (j:Nat) (hI:uZ s) (c1:s.k<s.n) (em:gi s.l s.k=(j:Int)) (hO:fD s'=(fD s).modify j (·++[s.i])) (hs:s'.sums=s.sums.set s.i.toNat (IntKind.i64.wrap (s.sums.getD s.i.toNat 0+gi s.alive (j:Int)))) (hk:s'.k=IntKind.i64.wrap (s.k+1)) (hn:s'.n=s.n) (hl:s'.l=s.l) (ha:s'.alive=s.alive) (hi:s'.i=s.i):
  (uZ s'∧vV s'<vV s)∧(fun s:gZ=>(vk s.i (fD s) (s.l.drop s.k.toNat),s.sums.set s.i.toNat (s.sums.getD s.i.toNat 0+smA s.alive (s.l.drop s.k.toNat)))) s'=(fun s:gZ=>(vk s.i (fD s) (s.l.drop s.k.toNat),s.sums.set s.i.toNat (s.sums.getD s.i.toNat 0+smA s.alive (s.l.drop s.k.toNat)))) s:=by
 have hm:=fU s hI c1
 obtain ⟨⟨h0,h1⟩,h2,⟨h3,h3'⟩,h4,h5,h6,h7,h8⟩:=hI
 rw [aK (x:=s.k+1) (by omega) (by omega)] at hk
 have hav:=h7 (gi s.alive (j:Int)) (by rw [nH (by omega)];exact List.getElem_mem _)
 have hgi:gi s.sums s.i=s.sums.getD s.i.toNat 0:=rfl
 rw [aK (x:=s.sums.getD s.i.toNat 0+gi s.alive (j:Int)) (by omega) (by omega)] at hs
 have hs2:gi s'.sums s'.i=s.sums.getD s.i.toNat 0+gi s.alive (j:Int):=by
  rw [hi,hs]
  show List.getD _ _ _=_
  simp [List.getD,show s.i.toNat<s.sums.length by omega]
 refine ⟨⟨⟨⟨by omega,by omega⟩,fun o ho=>?_,⟨by rw [hs2];omega,by rw [hs2];omega⟩,by rw [hn,hl];exact h4,by omega,by rw [hl,ha];exact h6,by rw [ha];exact h7,⟨by rw [hi];omega,by rw [hi,hs,List.length_set];omega⟩⟩,by simp only [vV];omega⟩,?_⟩
 ·rw [hO] at ho
  obtain ⟨k,hk2,rfl⟩:=List.mem_iff_getElem.1 ho
  rw [List.length_modify] at hk2
  have:=h2 (fD s)[k] (List.getElem_mem _)
  rw [List.getElem_modify]
  split
  ·simp only [List.length_append,List.length_cons,List.length_nil];omega
  ·omega
 ·simp only
  rw [hO,hs,hl,ha,hi,hk,(gi_step h0 (show s.k<s.l.length by omega)).1,xg,Sj,em,Int.toNat_natCast,Sr (by omega)]
theorem iL (s s':gZ) (j:Nat) (hI:uZ s) (c1:s.k<s.n) (em:gi s.l s.k=(j:Int)) (hO:fD s'=(fD s).modify j (·++[s.i])) (hs:s'.sums=s.sums.set s.i.toNat (IntKind.i64.wrap (s.sums.getD s.i.toNat 0+gi s.alive (j:Int)))) (hk:s'.k=IntKind.i64.wrap (s.k+1)) (hn:s'.n=s.n) (hl:s'.l=s.l) (ha:s'.alive=s.alive) (hi:s'.i=s.i):bJ (fun s'=>uZ s'∧vV s'<vV s) (fun x s'=>akr x s s') (.next s'):=(ahE s s' j hI c1 em hO hs hk hn hl ha hi).1
theorem iK (s s':gZ) (j:Nat) (hI:uZ s) (c1:s.k<s.n) (em:gi s.l s.k=(j:Int)) (hO:fD s'=(fD s).modify j (·++[s.i])) (hs:s'.sums=s.sums.set s.i.toNat (IntKind.i64.wrap (s.sums.getD s.i.toNat 0+gi s.alive (j:Int)))) (hk:s'.k=IntKind.i64.wrap (s.k+1)) (hn:s'.n=s.n) (hl:s'.l=s.l) (ha:s'.alive=s.alive) (hi:s'.i=s.i):bJ (fun s'=>(fun s:gZ=>(vk s.i (fD s) (s.l.drop s.k.toNat),s.sums.set s.i.toNat (s.sums.getD s.i.toNat 0+smA s.alive (s.l.drop s.k.toNat)))) s'=(fun s:gZ=>(vk s.i (fD s) (s.l.drop s.k.toNat),s.sums.set s.i.toNat (s.sums.getD s.i.toNat 0+smA s.alive (s.l.drop s.k.toNat)))) s) (fun _ s'=>(fun s:gZ=>(vk s.i (fD s) (s.l.drop s.k.toNat),s.sums.set s.i.toNat (s.sums.getD s.i.toNat 0+smA s.alive (s.l.drop s.k.toNat)))) s'=(fun s:gZ=>(vk s.i (fD s) (s.l.drop s.k.toNat),s.sums.set s.i.toNat (s.sums.getD s.i.toNat 0+smA s.alive (s.l.drop s.k.toNat)))) s) (.next s'):=(ahE s s' j hI c1 em hO hs hk hn hl ha hi).2
theorem ahG (s : gZ) (hI:uZ s):bJ (fun s'=>uZ s'∧vV s'<vV s) (fun x s'=>akr x s s') (aa8 s):=by
 unfold aa8 Ro
 dsimp only [T.rd,T.rl]
 refine au (fun c1=>?_) (fun c1=>?_)
 ·refine au (fun c2=>?_) (fun c2=>?_)
  ·have em:gi s.l s.k=0:=by simpa using c2
   exact iL s _ 0 hI (by simpa using c1) em rfl rfl rfl rfl rfl rfl rfl
  ·refine au (fun c3=>?_) (fun c3=>?_)
   ·have em:gi s.l s.k=1:=by simpa using c3
    exact iL s _ 1 hI (by simpa using c1) em rfl rfl rfl rfl rfl rfl rfl
   ·refine au (fun c4=>?_) (fun c4=>?_)
    ·have em:gi s.l s.k=2:=by simpa using c4
     exact iL s _ 2 hI (by simpa using c1) em rfl rfl rfl rfl rfl rfl rfl
    ·refine au (fun c5=>?_) (fun c5=>?_)
     ·have em:gi s.l s.k=3:=by simpa using c5
      exact iL s _ 3 hI (by simpa using c1) em rfl rfl rfl rfl rfl rfl rfl
     ·refine au (fun c6=>?_) (fun c6=>?_)
      ·have em:gi s.l s.k=4:=by simpa using c6
       exact iL s _ 4 hI (by simpa using c1) em rfl rfl rfl rfl rfl rfl rfl
      ·refine au (fun c7=>?_) (fun c7=>?_)
       ·have em:gi s.l s.k=5:=by simpa using c7
        exact iL s _ 5 hI (by simpa using c1) em rfl rfl rfl rfl rfl rfl rfl
       ·refine au (fun c8=>?_) (fun c8=>?_)
        ·have em:gi s.l s.k=6:=by simpa using c8
         exact iL s _ 6 hI (by simpa using c1) em rfl rfl rfl rfl rfl rfl rfl
        ·refine au (fun c9=>?_) (fun c9=>?_)
         ·have em:gi s.l s.k=7:=by simpa using c9
          exact iL s _ 7 hI (by simpa using c1) em rfl rfl rfl rfl rfl rfl rfl
         ·refine au (fun c10=>?_) (fun c10=>?_)
          ·have em:gi s.l s.k=8:=by simpa using c10
           exact iL s _ 8 hI (by simpa using c1) em rfl rfl rfl rfl rfl rfl rfl
          ·refine au (fun c11=>?_) (fun c11=>?_)
           ·have em:gi s.l s.k=9:=by simpa using c11
            exact iL s _ 9 hI (by simpa using c1) em rfl rfl rfl rfl rfl rfl rfl
           ·refine au (fun c12=>?_) (fun c12=>?_)
            ·have em:gi s.l s.k=10:=by simpa using c12
             exact iL s _ 10 hI (by simpa using c1) em rfl rfl rfl rfl rfl rfl rfl
            ·refine au (fun c13=>?_) (fun c13=>?_)
             ·have em:gi s.l s.k=11:=by simpa using c13
              exact iL s _ 11 hI (by simpa using c1) em rfl rfl rfl rfl rfl rfl rfl
             ·refine au (fun c14=>?_) (fun c14=>?_)
              ·have em:gi s.l s.k=12:=by simpa using c14
               exact iL s _ 12 hI (by simpa using c1) em rfl rfl rfl rfl rfl rfl rfl
              ·refine au (fun c15=>?_) (fun c15=>?_)
               ·have em:gi s.l s.k=13:=by simpa using c15
                exact iL s _ 13 hI (by simpa using c1) em rfl rfl rfl rfl rfl rfl rfl
               ·refine au (fun c16=>?_) (fun c16=>?_)
                ·have em:gi s.l s.k=14:=by simpa using c16
                 exact iL s _ 14 hI (by simpa using c1) em rfl rfl rfl rfl rfl rfl rfl
                ·have em:gi s.l s.k=15:=by
                  have hm:=fU s hI (by simpa using c1)
                  simp only [beq_eq_false_iff_ne,ne_eq] at c2 c3 c4 c5 c6 c7 c8 c9 c10 c11 c12 c13 c14 c15 c16
                  omega
                 exact iL s _ 15 hI (by simpa using c1) em rfl rfl rfl rfl rfl rfl rfl
 ·have c1:s.n≤s.k:=by simpa using c1
  have h0:=hI.1
  exact ⟨rfl,by omega⟩
def NK:bK gZ:=⟨1,67,[2,7,8,23,24,25,31,32,33],[.ns 7 6 3 (.int .i64),.ns 7 7 3 (.int .i64),.ns 7 8 3 (.int .i64),.ns 7 9 3 (.int .i64),.ns 7 10 3 (.int .i64),.ns 7 11 3 (.int .i64),.ns 7 12 3 (.int .i64),.ns 7 13 3 (.int .i64),.ns 7 14 3 (.int .i64),.ns 7 15 3 (.int .i64),.ns 7 16 3 (.int .i64),.ns 7 17 3 (.int .i64),.ns 7 18 3 (.int .i64),.ns 7 19 3 (.int .i64),.ns 7 20 3 (.int .i64),.ns 7 21 3 (.int .i64)],aDo,aCn,fun v b=>⟨aQ (.int .i64) (v.getD 0 .junk),gI (v.getD 2 .junk),aQ CQ (v.getD 3 .junk),gI (v.getD 4 .junk),gI (v.getD 5 .junk),aQ (.int .i64) (v.getD 6 .junk),gI (v.getD 7 .junk),gI (v.getD 8 .junk),aQ dU (aX (aO b 0) 0),aQ .str (aX (aO b 0) 1),aQ dW (aX (aO b 0) 2),aQ dM (aX (aO b 0) 3),aQ dX (aX (aO b 0) 4),aQ dU (aX (aO b 1) 0),aQ .str (aX (aO b 1) 1),aQ dW (aX (aO b 1) 2),aQ dM (aX (aO b 1) 3),aQ dX (aX (aO b 1) 4),aQ CQ (aX (aO b 1) 5),aQ (.int .i64) (aX (aO b 1) 23),iT (.int .i64) (aO b 2),iT (.int .i64) (aO b 3),iT (.int .i64) (aO b 4),iT (.int .i64) (aO b 5),iT (.int .i64) (aO b 6),iT (.int .i64) (aO b 7),iT (.int .i64) (aO b 8),iT (.int .i64) (aO b 9),iT (.int .i64) (aO b 10),iT (.int .i64) (aO b 11),iT (.int .i64) (aO b 12),iT (.int .i64) (aO b 13),iT (.int .i64) (aO b 14),iT (.int .i64) (aO b 15),iT (.int .i64) (aO b 16),iT (.int .i64) (aO b 17),iT (.int .i64) (aO b 18),iT (.int .i64) (aO b 19)⟩,Ro,fun s r=> {r with alive:=s.alive,i:=s.i,rows:=s.rows,rn:=s.rn,ri:=s.ri,l:=s.l,n:=s.n,bP:=s.bP,eu:=s.eu,bV:=s.bV,bZ:=s.bZ,iE:=s.iE,yF:=s.yF,yD:=s.yD,yE:=s.yE,eX:=s.eX,yG:=s.yG,bG:=s.bG,bg:=s.bg,levels:=s.levels},fun s=>s,fun _ s=>s,[.exit 2],U9,uZ,vV⟩
abbrev bD:=NK.run
abbrev aye:=NK.q
noncomputable def aaH:Hand:=inl Tryz.prog aS yu (kD 93 1 2 (ve.lp) (lX Tryz.prog aS (yu) 20 2)) 9
theorem aip:dL Tryz.prog aS aaH:=bQ zW (dK Tryz.func93 rfl (by kernel_rfl) wP (dQ zW)) 9
set_option maxRecDepth 100000 in
set_option maxHeartbeats 4000000 in
theorem auT (s:gZ) (hI:uZ s):(Ro s).all (fun _=>True):=by
 refine ⟨fun c1=>⟨?_,?_,fun c2=>⟨?_,?_,?_,?_,?_,?_,?_,⟨rfl,rfl⟩,⟨rfl,rfl⟩,⟨rfl,rfl⟩,⟨rfl,rfl⟩,⟨rfl,rfl⟩,⟨rfl,rfl⟩,⟨rfl,rfl⟩,⟨rfl,rfl⟩,⟨rfl,rfl⟩,⟨rfl,rfl⟩,⟨rfl,rfl⟩,⟨rfl,rfl⟩,⟨rfl,rfl⟩,⟨rfl,rfl⟩,⟨rfl,rfl⟩,?_,⟨rfl,rfl⟩,trivial⟩,fun c2=>⟨fun c3=>⟨?_,?_,?_,?_,?_,?_,⟨rfl,rfl⟩,?_,⟨rfl,rfl⟩,⟨rfl,rfl⟩,⟨rfl,rfl⟩,⟨rfl,rfl⟩,⟨rfl,rfl⟩,⟨rfl,rfl⟩,⟨rfl,rfl⟩,⟨rfl,rfl⟩,⟨rfl,rfl⟩,⟨rfl,rfl⟩,⟨rfl,rfl⟩,⟨rfl,rfl⟩,⟨rfl,rfl⟩,⟨rfl,rfl⟩,?_,⟨rfl,rfl⟩,trivial⟩,fun c3=>⟨fun c4=>⟨?_,?_,?_,?_,?_,?_,⟨rfl,rfl⟩,⟨rfl,rfl⟩,?_,⟨rfl,rfl⟩,⟨rfl,rfl⟩,⟨rfl,rfl⟩,⟨rfl,rfl⟩,⟨rfl,rfl⟩,⟨rfl,rfl⟩,⟨rfl,rfl⟩,⟨rfl,rfl⟩,⟨rfl,rfl⟩,⟨rfl,rfl⟩,⟨rfl,rfl⟩,⟨rfl,rfl⟩,⟨rfl,rfl⟩,?_,⟨rfl,rfl⟩,trivial⟩,fun c4=>⟨fun c5=>⟨?_,?_,?_,?_,?_,?_,⟨rfl,rfl⟩,⟨rfl,rfl⟩,⟨rfl,rfl⟩,?_,⟨rfl,rfl⟩,⟨rfl,rfl⟩,⟨rfl,rfl⟩,⟨rfl,rfl⟩,⟨rfl,rfl⟩,⟨rfl,rfl⟩,⟨rfl,rfl⟩,⟨rfl,rfl⟩,⟨rfl,rfl⟩,⟨rfl,rfl⟩,⟨rfl,rfl⟩,⟨rfl,rfl⟩,?_,⟨rfl,rfl⟩,trivial⟩,fun c5=>⟨fun c6=>⟨?_,?_,?_,?_,?_,?_,⟨rfl,rfl⟩,⟨rfl,rfl⟩,⟨rfl,rfl⟩,⟨rfl,rfl⟩,?_,⟨rfl,rfl⟩,⟨rfl,rfl⟩,⟨rfl,rfl⟩,⟨rfl,rfl⟩,⟨rfl,rfl⟩,⟨rfl,rfl⟩,⟨rfl,rfl⟩,⟨rfl,rfl⟩,⟨rfl,rfl⟩,⟨rfl,rfl⟩,⟨rfl,rfl⟩,?_,⟨rfl,rfl⟩,trivial⟩,fun c6=>⟨fun c7=>⟨?_,?_,?_,?_,?_,?_,⟨rfl,rfl⟩,⟨rfl,rfl⟩,⟨rfl,rfl⟩,⟨rfl,rfl⟩,⟨rfl,rfl⟩,?_,⟨rfl,rfl⟩,⟨rfl,rfl⟩,⟨rfl,rfl⟩,⟨rfl,rfl⟩,⟨rfl,rfl⟩,⟨rfl,rfl⟩,⟨rfl,rfl⟩,⟨rfl,rfl⟩,⟨rfl,rfl⟩,⟨rfl,rfl⟩,?_,⟨rfl,rfl⟩,trivial⟩,fun c7=>⟨fun c8=>⟨?_,?_,?_,?_,?_,?_,⟨rfl,rfl⟩,⟨rfl,rfl⟩,⟨rfl,rfl⟩,⟨rfl,rfl⟩,⟨rfl,rfl⟩,⟨rfl,rfl⟩,?_,⟨rfl,rfl⟩,⟨rfl,rfl⟩,⟨rfl,rfl⟩,⟨rfl,rfl⟩,⟨rfl,rfl⟩,⟨rfl,rfl⟩,⟨rfl,rfl⟩,⟨rfl,rfl⟩,⟨rfl,rfl⟩,?_,⟨rfl,rfl⟩,trivial⟩,fun c8=>⟨fun c9=>⟨?_,?_,?_,?_,?_,?_,⟨rfl,rfl⟩,⟨rfl,rfl⟩,⟨rfl,rfl⟩,⟨rfl,rfl⟩,⟨rfl,rfl⟩,⟨rfl,rfl⟩,⟨rfl,rfl⟩,?_,⟨rfl,rfl⟩,⟨rfl,rfl⟩,⟨rfl,rfl⟩,⟨rfl,rfl⟩,⟨rfl,rfl⟩,⟨rfl,rfl⟩,⟨rfl,rfl⟩,⟨rfl,rfl⟩,?_,⟨rfl,rfl⟩,trivial⟩,fun c9=>⟨fun c10=>⟨?_,?_,?_,?_,?_,?_,⟨rfl,rfl⟩,⟨rfl,rfl⟩,⟨rfl,rfl⟩,⟨rfl,rfl⟩,⟨rfl,rfl⟩,⟨rfl,rfl⟩,⟨rfl,rfl⟩,⟨rfl,rfl⟩,?_,⟨rfl,rfl⟩,⟨rfl,rfl⟩,⟨rfl,rfl⟩,⟨rfl,rfl⟩,⟨rfl,rfl⟩,⟨rfl,rfl⟩,⟨rfl,rfl⟩,?_,⟨rfl,rfl⟩,trivial⟩,fun c10=>⟨fun c11=>⟨?_,?_,?_,?_,?_,?_,⟨rfl,rfl⟩,⟨rfl,rfl⟩,⟨rfl,rfl⟩,⟨rfl,rfl⟩,⟨rfl,rfl⟩,⟨rfl,rfl⟩,⟨rfl,rfl⟩,⟨rfl,rfl⟩,⟨rfl,rfl⟩,?_,⟨rfl,rfl⟩,⟨rfl,rfl⟩,⟨rfl,rfl⟩,⟨rfl,rfl⟩,⟨rfl,rfl⟩,⟨rfl,rfl⟩,?_,⟨rfl,rfl⟩,trivial⟩,fun c11=>⟨fun c12=>⟨?_,?_,?_,?_,?_,?_,⟨rfl,rfl⟩,⟨rfl,rfl⟩,⟨rfl,rfl⟩,⟨rfl,rfl⟩,⟨rfl,rfl⟩,⟨rfl,rfl⟩,⟨rfl,rfl⟩,⟨rfl,rfl⟩,⟨rfl,rfl⟩,⟨rfl,rfl⟩,?_,⟨rfl,rfl⟩,⟨rfl,rfl⟩,⟨rfl,rfl⟩,⟨rfl,rfl⟩,⟨rfl,rfl⟩,?_,⟨rfl,rfl⟩,trivial⟩,fun c12=>⟨fun c13=>⟨?_,?_,?_,?_,?_,?_,⟨rfl,rfl⟩,⟨rfl,rfl⟩,⟨rfl,rfl⟩,⟨rfl,rfl⟩,⟨rfl,rfl⟩,⟨rfl,rfl⟩,⟨rfl,rfl⟩,⟨rfl,rfl⟩,⟨rfl,rfl⟩,⟨rfl,rfl⟩,⟨rfl,rfl⟩,?_,⟨rfl,rfl⟩,⟨rfl,rfl⟩,⟨rfl,rfl⟩,⟨rfl,rfl⟩,?_,⟨rfl,rfl⟩,trivial⟩,fun c13=>⟨fun c14=>⟨?_,?_,?_,?_,?_,?_,⟨rfl,rfl⟩,⟨rfl,rfl⟩,⟨rfl,rfl⟩,⟨rfl,rfl⟩,⟨rfl,rfl⟩,⟨rfl,rfl⟩,⟨rfl,rfl⟩,⟨rfl,rfl⟩,⟨rfl,rfl⟩,⟨rfl,rfl⟩,⟨rfl,rfl⟩,⟨rfl,rfl⟩,?_,⟨rfl,rfl⟩,⟨rfl,rfl⟩,⟨rfl,rfl⟩,?_,⟨rfl,rfl⟩,trivial⟩,fun c14=>⟨fun c15=>⟨?_,?_,?_,?_,?_,?_,⟨rfl,rfl⟩,⟨rfl,rfl⟩,⟨rfl,rfl⟩,⟨rfl,rfl⟩,⟨rfl,rfl⟩,⟨rfl,rfl⟩,⟨rfl,rfl⟩,⟨rfl,rfl⟩,⟨rfl,rfl⟩,⟨rfl,rfl⟩,⟨rfl,rfl⟩,⟨rfl,rfl⟩,⟨rfl,rfl⟩,?_,⟨rfl,rfl⟩,⟨rfl,rfl⟩,?_,⟨rfl,rfl⟩,trivial⟩,fun c15=>⟨fun c16=>⟨?_,?_,?_,?_,?_,?_,⟨rfl,rfl⟩,⟨rfl,rfl⟩,⟨rfl,rfl⟩,⟨rfl,rfl⟩,⟨rfl,rfl⟩,⟨rfl,rfl⟩,⟨rfl,rfl⟩,⟨rfl,rfl⟩,⟨rfl,rfl⟩,⟨rfl,rfl⟩,⟨rfl,rfl⟩,⟨rfl,rfl⟩,⟨rfl,rfl⟩,⟨rfl,rfl⟩,?_,⟨rfl,rfl⟩,?_,⟨rfl,rfl⟩,trivial⟩,fun c16=>⟨?_,?_,?_,?_,?_,?_,⟨rfl,rfl⟩,⟨rfl,rfl⟩,⟨rfl,rfl⟩,⟨rfl,rfl⟩,⟨rfl,rfl⟩,⟨rfl,rfl⟩,⟨rfl,rfl⟩,⟨rfl,rfl⟩,⟨rfl,rfl⟩,⟨rfl,rfl⟩,⟨rfl,rfl⟩,⟨rfl,rfl⟩,⟨rfl,rfl⟩,⟨rfl,rfl⟩,⟨rfl,rfl⟩,?_,?_,⟨rfl,rfl⟩,trivial⟩⟩⟩⟩⟩⟩⟩⟩⟩⟩⟩⟩⟩⟩⟩⟩,fun c1=>⟨⟨rfl,rfl⟩,⟨rfl,rfl⟩,⟨rfl,rfl⟩,⟨rfl,rfl⟩,⟨rfl,rfl⟩,⟨rfl,rfl⟩,⟨rfl,rfl⟩,⟨rfl,rfl⟩,⟨rfl,rfl⟩,⟨rfl,rfl⟩,⟨rfl,rfl⟩,⟨rfl,rfl⟩,⟨rfl,rfl⟩,⟨rfl,rfl⟩,⟨rfl,rfl⟩,⟨rfl,rfl⟩,⟨rfl,rfl⟩,⟨rfl,rfl⟩,trivial⟩⟩
 ·(obtain ⟨h0,h2,h3,h4,h5,h6,h7,h8⟩:=hI;simp only [decide_eq_true_eq] at c1;omega)
 ·exact ⟨(fU s hI (by simpa using c1)).1,(fU s hI (by simpa using c1)).2.1⟩
 ·(have:=hI.2.1 s.jo (by simp [fD]);have:=hI.1;have:=hI.2.2.2.1;have:=hI.2.2.2.2.1;simp only [List.length_cons,List.length_nil];omega)
 ·(obtain ⟨h0,h2,h3,h4,h5,h6,h7,h8⟩:=hI;simp only [decide_eq_true_eq] at c1;omega)
 ·(have em:=eq_of_beq c2;have hm:=fU s hI (by simpa using c1);omega)
 iterate 3 · (obtain ⟨h0,h2,h3,h4,h5,h6,h7,h8⟩:=hI;simp only [decide_eq_true_eq] at c1;omega)
 iterate 2 · exact ⟨rfl,by simp⟩
 ·(have:=hI.2.1 s.jm (by simp [fD]);have:=hI.1;have:=hI.2.2.2.1;have:=hI.2.2.2.2.1;simp only [List.length_cons,List.length_nil];omega)
 ·(obtain ⟨h0,h2,h3,h4,h5,h6,h7,h8⟩:=hI;simp only [decide_eq_true_eq] at c1;omega)
 ·(have em:=eq_of_beq c3;have hm:=fU s hI (by simpa using c1);omega)
 iterate 3 · (obtain ⟨h0,h2,h3,h4,h5,h6,h7,h8⟩:=hI;simp only [decide_eq_true_eq] at c1;omega)
 iterate 2 · exact ⟨rfl,by simp⟩
 ·(have:=hI.2.1 s.jl (by simp [fD]);have:=hI.1;have:=hI.2.2.2.1;have:=hI.2.2.2.2.1;simp only [List.length_cons,List.length_nil];omega)
 ·(obtain ⟨h0,h2,h3,h4,h5,h6,h7,h8⟩:=hI;simp only [decide_eq_true_eq] at c1;omega)
 ·(have em:=eq_of_beq c4;have hm:=fU s hI (by simpa using c1);omega)
 iterate 3 · (obtain ⟨h0,h2,h3,h4,h5,h6,h7,h8⟩:=hI;simp only [decide_eq_true_eq] at c1;omega)
 iterate 2 · exact ⟨rfl,by simp⟩
 ·(have:=hI.2.1 s.jk (by simp [fD]);have:=hI.1;have:=hI.2.2.2.1;have:=hI.2.2.2.2.1;simp only [List.length_cons,List.length_nil];omega)
 ·(obtain ⟨h0,h2,h3,h4,h5,h6,h7,h8⟩:=hI;simp only [decide_eq_true_eq] at c1;omega)
 ·(have em:=eq_of_beq c5;have hm:=fU s hI (by simpa using c1);omega)
 iterate 3 · (obtain ⟨h0,h2,h3,h4,h5,h6,h7,h8⟩:=hI;simp only [decide_eq_true_eq] at c1;omega)
 iterate 2 · exact ⟨rfl,by simp⟩
 ·(have:=hI.2.1 s.ji (by simp [fD]);have:=hI.1;have:=hI.2.2.2.1;have:=hI.2.2.2.2.1;simp only [List.length_cons,List.length_nil];omega)
 ·(obtain ⟨h0,h2,h3,h4,h5,h6,h7,h8⟩:=hI;simp only [decide_eq_true_eq] at c1;omega)
 ·(have em:=eq_of_beq c6;have hm:=fU s hI (by simpa using c1);omega)
 iterate 3 · (obtain ⟨h0,h2,h3,h4,h5,h6,h7,h8⟩:=hI;simp only [decide_eq_true_eq] at c1;omega)
 iterate 2 · exact ⟨rfl,by simp⟩
 ·(have:=hI.2.1 s.jh (by simp [fD]);have:=hI.1;have:=hI.2.2.2.1;have:=hI.2.2.2.2.1;simp only [List.length_cons,List.length_nil];omega)
 ·(obtain ⟨h0,h2,h3,h4,h5,h6,h7,h8⟩:=hI;simp only [decide_eq_true_eq] at c1;omega)
 ·(have em:=eq_of_beq c7;have hm:=fU s hI (by simpa using c1);omega)
 iterate 3 · (obtain ⟨h0,h2,h3,h4,h5,h6,h7,h8⟩:=hI;simp only [decide_eq_true_eq] at c1;omega)
 iterate 2 · exact ⟨rfl,by simp⟩
 ·(have:=hI.2.1 s.jg (by simp [fD]);have:=hI.1;have:=hI.2.2.2.1;have:=hI.2.2.2.2.1;simp only [List.length_cons,List.length_nil];omega)
 ·(obtain ⟨h0,h2,h3,h4,h5,h6,h7,h8⟩:=hI;simp only [decide_eq_true_eq] at c1;omega)
 ·(have em:=eq_of_beq c8;have hm:=fU s hI (by simpa using c1);omega)
 iterate 3 · (obtain ⟨h0,h2,h3,h4,h5,h6,h7,h8⟩:=hI;simp only [decide_eq_true_eq] at c1;omega)
 iterate 2 · exact ⟨rfl,by simp⟩
 ·(have:=hI.2.1 s.jf (by simp [fD]);have:=hI.1;have:=hI.2.2.2.1;have:=hI.2.2.2.2.1;simp only [List.length_cons,List.length_nil];omega)
 ·(obtain ⟨h0,h2,h3,h4,h5,h6,h7,h8⟩:=hI;simp only [decide_eq_true_eq] at c1;omega)
 ·(have em:=eq_of_beq c9;have hm:=fU s hI (by simpa using c1);omega)
 iterate 3 · (obtain ⟨h0,h2,h3,h4,h5,h6,h7,h8⟩:=hI;simp only [decide_eq_true_eq] at c1;omega)
 iterate 2 · exact ⟨rfl,by simp⟩
 ·(have:=hI.2.1 s.je (by simp [fD]);have:=hI.1;have:=hI.2.2.2.1;have:=hI.2.2.2.2.1;simp only [List.length_cons,List.length_nil];omega)
 ·(obtain ⟨h0,h2,h3,h4,h5,h6,h7,h8⟩:=hI;simp only [decide_eq_true_eq] at c1;omega)
 ·(have em:=eq_of_beq c10;have hm:=fU s hI (by simpa using c1);omega)
 iterate 3 · (obtain ⟨h0,h2,h3,h4,h5,h6,h7,h8⟩:=hI;simp only [decide_eq_true_eq] at c1;omega)
 iterate 2 · exact ⟨rfl,by simp⟩
 ·(have:=hI.2.1 s.jd (by simp [fD]);have:=hI.1;have:=hI.2.2.2.1;have:=hI.2.2.2.2.1;simp only [List.length_cons,List.length_nil];omega)
 ·(obtain ⟨h0,h2,h3,h4,h5,h6,h7,h8⟩:=hI;simp only [decide_eq_true_eq] at c1;omega)
 ·(have em:=eq_of_beq c11;have hm:=fU s hI (by simpa using c1);omega)
 iterate 3 · (obtain ⟨h0,h2,h3,h4,h5,h6,h7,h8⟩:=hI;simp only [decide_eq_true_eq] at c1;omega)
 iterate 2 · exact ⟨rfl,by simp⟩
 ·(have:=hI.2.1 s.dJ (by simp [fD]);have:=hI.1;have:=hI.2.2.2.1;have:=hI.2.2.2.2.1;simp only [List.length_cons,List.length_nil];omega)
 ·(obtain ⟨h0,h2,h3,h4,h5,h6,h7,h8⟩:=hI;simp only [decide_eq_true_eq] at c1;omega)
 ·(have em:=eq_of_beq c12;have hm:=fU s hI (by simpa using c1);omega)
 iterate 3 · (obtain ⟨h0,h2,h3,h4,h5,h6,h7,h8⟩:=hI;simp only [decide_eq_true_eq] at c1;omega)
 iterate 2 · exact ⟨rfl,by simp⟩
 ·(have:=hI.2.1 s.dI (by simp [fD]);have:=hI.1;have:=hI.2.2.2.1;have:=hI.2.2.2.2.1;simp only [List.length_cons,List.length_nil];omega)
 ·(obtain ⟨h0,h2,h3,h4,h5,h6,h7,h8⟩:=hI;simp only [decide_eq_true_eq] at c1;omega)
 ·(have em:=eq_of_beq c13;have hm:=fU s hI (by simpa using c1);omega)
 iterate 3 · (obtain ⟨h0,h2,h3,h4,h5,h6,h7,h8⟩:=hI;simp only [decide_eq_true_eq] at c1;omega)
 iterate 2 · exact ⟨rfl,by simp⟩
 ·(have:=hI.2.1 s.dH (by simp [fD]);have:=hI.1;have:=hI.2.2.2.1;have:=hI.2.2.2.2.1;simp only [List.length_cons,List.length_nil];omega)
 ·(obtain ⟨h0,h2,h3,h4,h5,h6,h7,h8⟩:=hI;simp only [decide_eq_true_eq] at c1;omega)
 ·(have em:=eq_of_beq c14;have hm:=fU s hI (by simpa using c1);omega)
 iterate 3 · (obtain ⟨h0,h2,h3,h4,h5,h6,h7,h8⟩:=hI;simp only [decide_eq_true_eq] at c1;omega)
 iterate 2 · exact ⟨rfl,by simp⟩
 ·(have:=hI.2.1 s.dG (by simp [fD]);have:=hI.1;have:=hI.2.2.2.1;have:=hI.2.2.2.2.1;simp only [List.length_cons,List.length_nil];omega)
 ·(obtain ⟨h0,h2,h3,h4,h5,h6,h7,h8⟩:=hI;simp only [decide_eq_true_eq] at c1;omega)
 ·(have em:=eq_of_beq c15;have hm:=fU s hI (by simpa using c1);omega)
 iterate 3 · (obtain ⟨h0,h2,h3,h4,h5,h6,h7,h8⟩:=hI;simp only [decide_eq_true_eq] at c1;omega)
 iterate 2 · exact ⟨rfl,by simp⟩
 ·(have:=hI.2.1 s.dF (by simp [fD]);have:=hI.1;have:=hI.2.2.2.1;have:=hI.2.2.2.2.1;simp only [List.length_cons,List.length_nil];omega)
 ·(obtain ⟨h0,h2,h3,h4,h5,h6,h7,h8⟩:=hI;simp only [decide_eq_true_eq] at c1;omega)
 ·(have em:=eq_of_beq c16;have hm:=fU s hI (by simpa using c1);omega)
 iterate 3 · (obtain ⟨h0,h2,h3,h4,h5,h6,h7,h8⟩:=hI;simp only [decide_eq_true_eq] at c1;omega)
 iterate 2 · exact ⟨rfl,by simp⟩
 ·(have:=hI.2.1 s.dD (by simp [fD]);have:=hI.1;have:=hI.2.2.2.1;have:=hI.2.2.2.2.1;simp only [List.length_cons,List.length_nil];omega)
 ·(obtain ⟨h0,h2,h3,h4,h5,h6,h7,h8⟩:=hI;simp only [decide_eq_true_eq] at c1;omega)
 ·(have hm:=fU s hI (by simpa using c1);simp only [beq_eq_false_iff_ne,ne_eq] at c2 c3 c4 c5 c6 c7 c8 c9 c10 c11 c12 c13 c14 c15 c16;omega)
 iterate 3 · (obtain ⟨h0,h2,h3,h4,h5,h6,h7,h8⟩:=hI;simp only [decide_eq_true_eq] at c1;omega)
 iterate 2 · exact ⟨rfl,by simp⟩
theorem Ws:NK.Ok:=⟨fun s=>by kernel_rfl,fun s=>by kernel_rfl,fun s=>rfl,fun s t r=>rfl,fun s=>rfl,fun s=>by kernel_rfl⟩
theorem VX:NK.Pf (akr):=⟨aAd,fun _ _=>rfl,ahG,auT⟩
set_option maxRecDepth 100000 in
set_option maxHeartbeats 4000000 in
theorem amg:bn Tryz.prog aS (AN 1) (.loop Jd) NK.lp:=bK.snd Ws VX (bF (Γ:=yu) (K:=aaH) (L:=(tN Tryz.prog aS yu aaH 20 2)) zW aip Jd (fun b _=>dR zW aip 20 2 b)) (fun s=>by kernel_rfl)
theorem ahF (s : gZ) (hE:U9 s):(fun s:gZ=>(vk s.i (fD s) (s.l.drop s.k.toNat),s.sums.set s.i.toNat (s.sums.getD s.i.toNat 0+smA s.alive (s.l.drop s.k.toNat)))) (bD s)=(fun s:gZ=>(vk s.i (fD s) (s.l.drop s.k.toNat),s.sums.set s.i.toNat (s.sums.getD s.i.toNat 0+smA s.alive (s.l.drop s.k.toNat)))) s:=by
 exact bK.uS Ws VX (fun s:gZ=>(vk s.i (fD s) (s.l.drop s.k.toNat),s.sums.set s.i.toNat (s.sums.getD s.i.toNat 0+smA s.alive (s.l.drop s.k.toNat)))) (fun s hI=>by
  show bJ _ _ (aa8 s)
  unfold aa8 Ro
  dsimp only [T.rd,T.rl]
  refine au (fun c1=>?_) (fun c1=>?_)
  ·refine au (fun c2=>?_) (fun c2=>?_)
   ·have em:gi s.l s.k=0:=by simpa using c2
    exact iK s _ 0 hI (by simpa using c1) em rfl rfl rfl rfl rfl rfl rfl
   ·refine au (fun c3=>?_) (fun c3=>?_)
    ·have em:gi s.l s.k=1:=by simpa using c3
     exact iK s _ 1 hI (by simpa using c1) em rfl rfl rfl rfl rfl rfl rfl
    ·refine au (fun c4=>?_) (fun c4=>?_)
     ·have em:gi s.l s.k=2:=by simpa using c4
      exact iK s _ 2 hI (by simpa using c1) em rfl rfl rfl rfl rfl rfl rfl
     ·refine au (fun c5=>?_) (fun c5=>?_)
      ·have em:gi s.l s.k=3:=by simpa using c5
       exact iK s _ 3 hI (by simpa using c1) em rfl rfl rfl rfl rfl rfl rfl
      ·refine au (fun c6=>?_) (fun c6=>?_)
       ·have em:gi s.l s.k=4:=by simpa using c6
        exact iK s _ 4 hI (by simpa using c1) em rfl rfl rfl rfl rfl rfl rfl
       ·refine au (fun c7=>?_) (fun c7=>?_)
        ·have em:gi s.l s.k=5:=by simpa using c7
         exact iK s _ 5 hI (by simpa using c1) em rfl rfl rfl rfl rfl rfl rfl
        ·refine au (fun c8=>?_) (fun c8=>?_)
         ·have em:gi s.l s.k=6:=by simpa using c8
          exact iK s _ 6 hI (by simpa using c1) em rfl rfl rfl rfl rfl rfl rfl
         ·refine au (fun c9=>?_) (fun c9=>?_)
          ·have em:gi s.l s.k=7:=by simpa using c9
           exact iK s _ 7 hI (by simpa using c1) em rfl rfl rfl rfl rfl rfl rfl
          ·refine au (fun c10=>?_) (fun c10=>?_)
           ·have em:gi s.l s.k=8:=by simpa using c10
            exact iK s _ 8 hI (by simpa using c1) em rfl rfl rfl rfl rfl rfl rfl
           ·refine au (fun c11=>?_) (fun c11=>?_)
            ·have em:gi s.l s.k=9:=by simpa using c11
             exact iK s _ 9 hI (by simpa using c1) em rfl rfl rfl rfl rfl rfl rfl
            ·refine au (fun c12=>?_) (fun c12=>?_)
             ·have em:gi s.l s.k=10:=by simpa using c12
              exact iK s _ 10 hI (by simpa using c1) em rfl rfl rfl rfl rfl rfl rfl
             ·refine au (fun c13=>?_) (fun c13=>?_)
              ·have em:gi s.l s.k=11:=by simpa using c13
               exact iK s _ 11 hI (by simpa using c1) em rfl rfl rfl rfl rfl rfl rfl
              ·refine au (fun c14=>?_) (fun c14=>?_)
               ·have em:gi s.l s.k=12:=by simpa using c14
                exact iK s _ 12 hI (by simpa using c1) em rfl rfl rfl rfl rfl rfl rfl
               ·refine au (fun c15=>?_) (fun c15=>?_)
                ·have em:gi s.l s.k=13:=by simpa using c15
                 exact iK s _ 13 hI (by simpa using c1) em rfl rfl rfl rfl rfl rfl rfl
                ·refine au (fun c16=>?_) (fun c16=>?_)
                 ·have em:gi s.l s.k=14:=by simpa using c16
                  exact iK s _ 14 hI (by simpa using c1) em rfl rfl rfl rfl rfl rfl rfl
                 ·have em:gi s.l s.k=15:=by
                   have hm:=fU s hI (by simpa using c1)
                   simp only [beq_eq_false_iff_ne,ne_eq] at c2 c3 c4 c5 c6 c7 c8 c9 c10 c11 c12 c13 c14 c15 c16
                   omega
                  exact iK s _ 15 hI (by simpa using c1) em rfl rfl rfl rfl rfl rfl rfl
  ·rfl) s hE
theorem anA (s:gZ) (hE:U9 s):fD (bD s)=vk s.i (fD s) s.l∧(bD s).sums=s.sums.set s.i.toNat (s.sums.getD s.i.toNat 0+smA s.alive s.l):=by
 have q3:=ahF s hE
 obtain ⟨hI2,hf⟩:=bK.inv Ws VX (fun s=>by kernel_rfl) s hE
 have hI2:uZ (bD s):=hI2
 have hq:=xO (ahG _ hI2) hf
 have q2:(bD s).k=(bD s).n:=hq.2
 obtain ⟨h0,h1,h2,h3,h4,h5,h6,h7⟩:=hE
 obtain ⟨g0,g1,g2,g3,g4,g5,g6,g7⟩:=hI2
 have el:(bD s).l=s.l:=rfl
 have en:(bD s).n=s.n:=rfl
 have ei:(bD s).i=s.i:=rfl
 have ea:(bD s).alive=s.alive:=rfl
 simp only at q3
 rw [q2,en,el,ei,ea,List.drop_eq_nil_of_le (by omega),h0,show (0:Int).toNat=0 from rfl,List.drop_zero] at q3
 have e1:=congrArg Prod.fst q3
 have e2:=congrArg Prod.snd q3
 simp only at e1 e2
 refine ⟨e1,?_⟩
 rw [←e2]
 exact (afj (by rw [ei] at g7;omega)).symm
structure gW where
 alive:List Int
 rows:List Rw
 rn:Int
 ri:Int
 bP:List Cd
 eu:List ByteArray
 bV:List Ko
 bZ:List Ch
 iE:List Ba
 yF:List Cd
 yD:List ByteArray
 yE:List Ko
 eX:List Ch
 yG:List Ba
 bG:List Rw
 bg:List Int
 jo:List Int
 jm:List Int
 jl:List Int
 jk:List Int
 ji:List Int
 jh:List Int
 jg:List Int
 jf:List Int
 je:List Int
 jd:List Int
 dJ:List Int
 dI:List Int
 dH:List Int
 dG:List Int
 dF:List Int
 dD:List Int
 sums:List Int
 levels:List Int
def aDn (s:gW):List LV:=[.xl (.int .i64) s.alive,.own 1 0,.xl CQ s.rows,.v (.int .i64 s.rn),.v (.int .i64 s.ri)]
def aCm (s:gW):List aU:=[⟨[.xl dU s.bP,.xl .str s.eu,.xl dW s.bV,.xl dM s.bZ,.xl dX s.iE],28,.cl,false⟩,⟨[.xl dU s.yF,.xl .str s.yD,.xl dW s.yE,.xl dM s.eX,.xl dX s.yG,.xl CQ s.bG,.os 2 1 0 (List.length s.jo),.os 3 1 0 (List.length s.jm),.os 4 1 0 (List.length s.jl),.os 5 1 0 (List.length s.jk),.os 6 1 0 (List.length s.ji),.os 7 1 0 (List.length s.jh),.os 8 1 0 (List.length s.jg),.os 9 1 0 (List.length s.jf),.os 10 1 0 (List.length s.je),.os 11 1 0 (List.length s.jd),.os 12 1 0 (List.length s.dJ),.os 13 1 0 (List.length s.dI),.os 14 1 0 (List.length s.dH),.os 15 1 0 (List.length s.dG),.os 16 1 0 (List.length s.dF),.os 17 1 0 (List.length s.dD),.os 18 1 0 (List.length s.sums),.xl (.int .i64) s.bg,.os 19 1 0 (List.length s.levels)],148,.cl,false⟩,⟨[],3,.vec (.int .i64) s.jo,false⟩,⟨[],3,.vec (.int .i64) s.jm,false⟩,⟨[],3,.vec (.int .i64) s.jl,false⟩,⟨[],3,.vec (.int .i64) s.jk,false⟩,⟨[],3,.vec (.int .i64) s.ji,false⟩,⟨[],3,.vec (.int .i64) s.jh,false⟩,⟨[],3,.vec (.int .i64) s.jg,false⟩,⟨[],3,.vec (.int .i64) s.jf,false⟩,⟨[],3,.vec (.int .i64) s.je,false⟩,⟨[],3,.vec (.int .i64) s.jd,false⟩,⟨[],3,.vec (.int .i64) s.dJ,false⟩,⟨[],3,.vec (.int .i64) s.dI,false⟩,⟨[],3,.vec (.int .i64) s.dH,false⟩,⟨[],3,.vec (.int .i64) s.dG,false⟩,⟨[],3,.vec (.int .i64) s.dF,false⟩,⟨[],3,.vec (.int .i64) s.dD,false⟩,⟨[],3,.vec (.int .i64) s.sums,false⟩,⟨[],3,.vec (.int .i64) s.levels,false⟩]
noncomputable def Ui:Code:=((aB (Tryz.f95.body.getD .skip))[0]?).getD .skip
def bM (s:gW):gZ:=(⟨s.alive,s.ri,s.rows,s.rn,s.ri,(o7 s.rows s.ri).2,(List.length (o7 s.rows s.ri).2:Int),(0:Int),s.bP,s.eu,s.bV,s.bZ,s.iE,s.yF,s.yD,s.yE,s.eX,s.yG,s.bG,s.bg,s.jo,s.jm,s.jl,s.jk,s.ji,s.jh,s.jg,s.jf,s.je,s.jd,s.dJ,s.dI,s.dH,s.dG,s.dF,s.dD,s.sums,s.levels⟩:gZ)
def Rk (s:gW):T (Rd gW):=
 .br (decide (s.ri<s.rn)) (.req (0≤s.ri∧s.ri<(List.length s.rows:Int)) (.rl s.jo (.rl s.jm (.rl s.jl (.rl s.jk (.rl s.ji (.rl s.jh (.rl s.jg (.rl s.jf (.rl s.je (.rl s.jd (.rl s.dJ (.rl s.dI (.rl s.dH (.rl s.dG (.rl s.dF (.rl s.dD (.rl s.sums (.rl s.levels (.req (aye (bM s)) (.rl (bD (bM s)).jo (.rl (bD (bM s)).jm (.rl (bD (bM s)).jl (.rl (bD (bM s)).jk (.rl (bD (bM s)).ji (.rl (bD (bM s)).jh (.rl (bD (bM s)).jg (.rl (bD (bM s)).jf (.rl (bD (bM s)).je (.rl (bD (bM s)).jd (.rl (bD (bM s)).dJ (.rl (bD (bM s)).dI (.rl (bD (bM s)).dH (.rl (bD (bM s)).dG (.rl (bD (bM s)).dF (.rl (bD (bM s)).dD (.rl (bD (bM s)).sums (.rl s.levels (.ok (.next {s with ri:=(IntKind.i64.wrap (s.ri+1)),jo:=(bD (bM s)).jo,jm:=(bD (bM s)).jm,jl:=(bD (bM s)).jl,jk:=(bD (bM s)).jk,ji:=(bD (bM s)).ji,jh:=(bD (bM s)).jh,jg:=(bD (bM s)).jg,jf:=(bD (bM s)).jf,je:=(bD (bM s)).je,jd:=(bD (bM s)).jd,dJ:=(bD (bM s)).dJ,dI:=(bD (bM s)).dI,dH:=(bD (bM s)).dH,dG:=(bD (bM s)).dG,dF:=(bD (bM s)).dF,dD:=(bD (bM s)).dD,sums:=(bD (bM s)).sums})))))))))))))))))))))))))))))))))))))))) (.rl s.jo (.rl s.jm (.rl s.jl (.rl s.jk (.rl s.ji (.rl s.jh (.rl s.jg (.rl s.jf (.rl s.je (.rl s.jd (.rl s.dJ (.rl s.dI (.rl s.dH (.rl s.dG (.rl s.dF (.rl s.dD (.rl s.sums (.rl s.levels (.ok (.stop (.exit 0) s))))))))))))))))))))
abbrev aa7 (s:gW):=(Rk s).rd s
def kK (s:gW):List (List Int):=[s.jo,s.jm,s.jl,s.jk,s.ji,s.jh,s.jg,s.jf,s.je,s.jd,s.dJ,s.dI,s.dH,s.dG,s.dF,s.dD]
def NI (s:gW):Prop:=s.ri=0∧(∀o∈kK s,o=[])∧s.sums=List.replicate s.rows.length 0∧s.rn=(s.rows.length:Int)∧s.rn≤1000∧(∀r∈s.rows,(r.2.length:Int)≤1000∧∀m∈r.2,0≤m∧m<16∧m<(s.alive.length:Int))∧(∀a∈s.alive,0≤a∧a≤80)∧s.sums.length=s.rows.length
def uY (s:gW):Prop:=(0≤s.ri∧s.ri≤s.rn)∧(∀o∈kK s,(o.length:Int)≤1000*s.ri)∧(∀k:Nat,s.ri≤(k:Int)→s.sums.getD k 0=0)∧s.rn=(s.rows.length:Int)∧s.rn≤1000∧(∀r∈s.rows,(r.2.length:Int)≤1000∧∀m∈r.2,0≤m∧m<16∧m<(s.alive.length:Int))∧(∀a∈s.alive,0≤a∧a≤80)∧s.sums.length=s.rows.length
def vU (s:gW):Nat:=(s.rn-s.ri).toNat
def ade (x:Ex) (_ s':gW):Prop:=x=.exit 0∧s'.ri=s'.rn
theorem aAc:∀s,NI s→uY s:=by
 intro s h
 obtain ⟨h0,h1,h2,h3⟩:=h
 refine ⟨by have:=h3.1;omega,fun o ho=>by rw [h1 o ho];simp;omega,fun k _=>?_,h3⟩
 rw [h2]
 simp only [List.getD,List.getElem?_replicate]
 split<;>rfl
theorem ahD (s:gW) (hI:uY s) (c1:s.ri<s.rn):U9 (bM s):=by
 obtain ⟨⟨h0,h1⟩,h2,h3,h4,h5,h6,h7,h8⟩:=hI
 have hr:=h6 (o7 s.rows s.ri) (by rw [yO (by omega)];exact List.getElem_mem _)
 refine ⟨rfl,fun o ho=>?_,?_,rfl,hr.1,hr.2,h7,h0,?_⟩
 ·have:=h2 o ho
  omega
 ·have:=h3 s.ri.toNat (by omega)
  show 0≤s.sums.getD s.ri.toNat 0∧s.sums.getD s.ri.toNat 0≤1000
  omega
 ·show s.ri<(s.sums.length:Int)
  omega
theorem ahB (s s':gW) (hI:uY s) (c1:s.ri<s.rn) (hO:kK s'=fD (bD (bM s))) (hs:s'.sums=(bD (bM s)).sums) (hk:s'.ri=IntKind.i64.wrap (s.ri+1)) (hn:s'.rn=s.rn) (hl:s'.rows=s.rows) (ha:s'.alive=s.alive):
  (uY s'∧vU s'<vU s)∧(fun s:gW=>(QY (kK s) s.ri (s.rows.drop s.ri.toNat),QX s.alive s.sums s.ri (s.rows.drop s.ri.toNat))) s'=(fun s:gW=>(QY (kK s) s.ri (s.rows.drop s.ri.toNat),QX s.alive s.sums s.ri (s.rows.drop s.ri.toNat))) s:=by
 obtain ⟨r1,r2⟩:=anA _ (ahD s hI c1)
 obtain ⟨⟨h0,h1⟩,h2,h3,h4,h5,h6,h7,h8⟩:=hI
 have hr:=h6 (o7 s.rows s.ri) (by rw [yO (by omega)];exact List.getElem_mem _)
 rw [aK (x:=s.ri+1) (by omega) (by omega)] at hk
 have r1:fD (bD (bM s))=vk s.ri (kK s) (o7 s.rows s.ri).2:=r1
 have r2:(bD (bM s)).sums=s.sums.set s.ri.toNat (s.sums.getD s.ri.toNat 0+smA s.alive (o7 s.rows s.ri).2):=r2
 refine ⟨⟨⟨⟨by omega,by omega⟩,fun o ho=>?_,fun k hk2=>?_,by rw [hn,hl];exact h4,by omega,by rw [hl,ha];exact h6,by rw [ha];exact h7,by rw [hs,r2,List.length_set,hl];exact h8⟩,by simp only [vU];omega⟩,?_⟩
 ·rw [hO,r1] at ho
  have:=aae h2 o ho
  have:=hr.1
  rw [hk]
  omega
 ·rw [hs,r2]
  have:=h3 k (by omega)
  simp only [List.getD] at this⊢
  rw [List.getElem?_set_ne (by omega)]
  exact this
 ·simp only
  rw [hO,hs,hl,ha,r1,r2,hk,(ai4 h0 (show s.ri<s.rows.length by omega)).1]
  rfl
theorem anx (s s':gW) (hI:uY s) (c1:s.ri<s.rn) (hO:kK s'=fD (bD (bM s))) (hs:s'.sums=(bD (bM s)).sums) (hk:s'.ri=IntKind.i64.wrap (s.ri+1)) (hn:s'.rn=s.rn) (hl:s'.rows=s.rows) (ha:s'.alive=s.alive):bJ (fun s'=>uY s'∧vU s'<vU s) (fun x s'=>ade x s s') (.next s'):=(ahB s s' hI c1 hO hs hk hn hl ha).1
theorem anw (s s':gW) (hI:uY s) (c1:s.ri<s.rn) (hO:kK s'=fD (bD (bM s))) (hs:s'.sums=(bD (bM s)).sums) (hk:s'.ri=IntKind.i64.wrap (s.ri+1)) (hn:s'.rn=s.rn) (hl:s'.rows=s.rows) (ha:s'.alive=s.alive):bJ (fun s'=>(fun s:gW=>(QY (kK s) s.ri (s.rows.drop s.ri.toNat),QX s.alive s.sums s.ri (s.rows.drop s.ri.toNat))) s'=(fun s:gW=>(QY (kK s) s.ri (s.rows.drop s.ri.toNat),QX s.alive s.sums s.ri (s.rows.drop s.ri.toNat))) s) (fun _ s'=>(fun s:gW=>(QY (kK s) s.ri (s.rows.drop s.ri.toNat),QX s.alive s.sums s.ri (s.rows.drop s.ri.toNat))) s'=(fun s:gW=>(QY (kK s) s.ri (s.rows.drop s.ri.toNat),QX s.alive s.sums s.ri (s.rows.drop s.ri.toNat))) s) (.next s'):=(ahB s s' hI c1 hO hs hk hn hl ha).2
theorem avP (s:gW) (hI:uY s):bJ (fun s'=>uY s'∧vU s'<vU s) (fun x s'=>ade x s s') (aa7 s):=by
 unfold aa7 Rk
 dsimp only [T.rd,T.rl]
 refine au (fun c1=>?_) (fun c1=>?_)
 ·exact anx s _ hI (by simpa using c1) rfl rfl rfl rfl rfl rfl
 ·have c1:s.rn≤s.ri:=by simpa using c1
  have h0:=hI.1
  exact ⟨rfl,by omega⟩
def wO:bK gW:=⟨1,67,[2,7,23,24,25],[.ns 7 6 3 (.int .i64),.ns 7 7 3 (.int .i64),.ns 7 8 3 (.int .i64),.ns 7 9 3 (.int .i64),.ns 7 10 3 (.int .i64),.ns 7 11 3 (.int .i64),.ns 7 12 3 (.int .i64),.ns 7 13 3 (.int .i64),.ns 7 14 3 (.int .i64),.ns 7 15 3 (.int .i64),.ns 7 16 3 (.int .i64),.ns 7 17 3 (.int .i64),.ns 7 18 3 (.int .i64),.ns 7 19 3 (.int .i64),.ns 7 20 3 (.int .i64),.ns 7 21 3 (.int .i64)],aDn,aCm,fun v b=>⟨aQ (.int .i64) (v.getD 0 .junk),aQ CQ (v.getD 2 .junk),gI (v.getD 3 .junk),gI (v.getD 4 .junk),aQ dU (aX (aO b 0) 0),aQ .str (aX (aO b 0) 1),aQ dW (aX (aO b 0) 2),aQ dM (aX (aO b 0) 3),aQ dX (aX (aO b 0) 4),aQ dU (aX (aO b 1) 0),aQ .str (aX (aO b 1) 1),aQ dW (aX (aO b 1) 2),aQ dM (aX (aO b 1) 3),aQ dX (aX (aO b 1) 4),aQ CQ (aX (aO b 1) 5),aQ (.int .i64) (aX (aO b 1) 23),iT (.int .i64) (aO b 2),iT (.int .i64) (aO b 3),iT (.int .i64) (aO b 4),iT (.int .i64) (aO b 5),iT (.int .i64) (aO b 6),iT (.int .i64) (aO b 7),iT (.int .i64) (aO b 8),iT (.int .i64) (aO b 9),iT (.int .i64) (aO b 10),iT (.int .i64) (aO b 11),iT (.int .i64) (aO b 12),iT (.int .i64) (aO b 13),iT (.int .i64) (aO b 14),iT (.int .i64) (aO b 15),iT (.int .i64) (aO b 16),iT (.int .i64) (aO b 17),iT (.int .i64) (aO b 18),iT (.int .i64) (aO b 19)⟩,Rk,fun s r=> {r with alive:=s.alive,rows:=s.rows,rn:=s.rn,bP:=s.bP,eu:=s.eu,bV:=s.bV,bZ:=s.bZ,iE:=s.iE,yF:=s.yF,yD:=s.yD,yE:=s.yE,eX:=s.eX,yG:=s.yG,bG:=s.bG,bg:=s.bg,levels:=s.levels},fun s=>s,fun _ s=>s,[.exit 0],NI,uY,vU⟩
abbrev ax:=wO.run
abbrev aps:=wO.jG
abbrev QH:=wO.q
theorem auS (s:gW) (hI:uY s):(Rk s).all (fun _=>True):=by
 refine ⟨fun c1=>⟨?_,⟨rfl,rfl⟩,⟨rfl,rfl⟩,⟨rfl,rfl⟩,⟨rfl,rfl⟩,⟨rfl,rfl⟩,⟨rfl,rfl⟩,⟨rfl,rfl⟩,⟨rfl,rfl⟩,⟨rfl,rfl⟩,⟨rfl,rfl⟩,⟨rfl,rfl⟩,⟨rfl,rfl⟩,⟨rfl,rfl⟩,⟨rfl,rfl⟩,⟨rfl,rfl⟩,⟨rfl,rfl⟩,⟨rfl,rfl⟩,⟨rfl,rfl⟩,?_,⟨rfl,rfl⟩,⟨rfl,rfl⟩,⟨rfl,rfl⟩,⟨rfl,rfl⟩,⟨rfl,rfl⟩,⟨rfl,rfl⟩,⟨rfl,rfl⟩,⟨rfl,rfl⟩,⟨rfl,rfl⟩,⟨rfl,rfl⟩,⟨rfl,rfl⟩,⟨rfl,rfl⟩,⟨rfl,rfl⟩,⟨rfl,rfl⟩,⟨rfl,rfl⟩,⟨rfl,rfl⟩,⟨rfl,rfl⟩,⟨rfl,rfl⟩,trivial⟩,fun c1=>⟨⟨rfl,rfl⟩,⟨rfl,rfl⟩,⟨rfl,rfl⟩,⟨rfl,rfl⟩,⟨rfl,rfl⟩,⟨rfl,rfl⟩,⟨rfl,rfl⟩,⟨rfl,rfl⟩,⟨rfl,rfl⟩,⟨rfl,rfl⟩,⟨rfl,rfl⟩,⟨rfl,rfl⟩,⟨rfl,rfl⟩,⟨rfl,rfl⟩,⟨rfl,rfl⟩,⟨rfl,rfl⟩,⟨rfl,rfl⟩,⟨rfl,rfl⟩,trivial⟩⟩
 ·(obtain ⟨h0,h2,h3,h4,h5,h6,h7,h8⟩:=hI;simp only [decide_eq_true_eq] at c1;omega)
 ·exact ⟨ahD s hI (by simpa using c1),rfl,rfl⟩
theorem Wq:wO.Ok:=⟨fun s=>by kernel_rfl,fun s=>by kernel_rfl,fun s=>rfl,fun s t r=>rfl,fun s=>rfl,fun s=>by kernel_rfl⟩
theorem VW:wO.Pf (ade):=⟨aAc,fun _ _=>rfl,avP,auS⟩
theorem zq:bn Tryz.prog aS (AN 1) (.loop Ui) wO.lp:=bK.snd Wq VW (bF (Γ:=yu) (K:=aaH) (L:=(aer (fun i=>if i=6 then NK.lp else aC i))) zW aip Ui (fun b hb=>by
 rw [show aB _=[Jd] by kernel_rfl] at hb
 simp only [List.mem_cons,List.not_mem_nil,or_false] at hb
 subst hb
 exact amg)) (fun s=>by kernel_rfl)
theorem anz (s:gW) (hE:NI s):∃s',uY s'∧ade (aps s) s' (ax s):=bK.fin Wq VW s hE
theorem ahC (s:gW) (hE:NI s):(fun s:gW=>(QY (kK s) s.ri (s.rows.drop s.ri.toNat),QX s.alive s.sums s.ri (s.rows.drop s.ri.toNat))) (ax s)=(fun s:gW=>(QY (kK s) s.ri (s.rows.drop s.ri.toNat),QX s.alive s.sums s.ri (s.rows.drop s.ri.toNat))) s:=by
 exact bK.uS Wq VW (fun s:gW=>(QY (kK s) s.ri (s.rows.drop s.ri.toNat),QX s.alive s.sums s.ri (s.rows.drop s.ri.toNat))) (fun s hI=>by
  show bJ _ _ (aa7 s)
  unfold aa7 Rk
  dsimp only [T.rd,T.rl]
  refine au (fun c1=>?_) (fun c1=>?_)
  ·exact anw s _ hI (by simpa using c1) rfl rfl rfl rfl rfl rfl
  ·rfl) s hE
theorem anv (s:gW) (hE:NI s):kK (ax s)=QY (kK s) 0 s.rows∧(ax s).sums=QX s.alive s.sums 0 s.rows:=by
 have q3:=ahC s hE
 obtain ⟨s',hI,q1,q2⟩:=anz s hE
 obtain ⟨h0,h1,h2,h3,h4,h5⟩:=hE
 have el:(ax s).rows=s.rows:=rfl
 have en:(ax s).rn=s.rn:=rfl
 have ea:(ax s).alive=s.alive:=rfl
 simp only at q3
 rw [q2,en,el,ea,List.drop_eq_nil_of_le (by omega),h0] at q3
 exact ⟨congrArg Prod.fst q3,congrArg Prod.snd q3⟩
end Go.Proofs.YtlihnbimgclogaaGreatDoor
namespace Go.Proofs.YtlihnbimgclogaaGreatDoor
open Go.Sx
structure oV where
 r:Bool
 l:List Int
 n:Int
 i:Int
 bP:List Cd
 eu:List ByteArray
 bV:List Ko
 bZ:List Ch
 iE:List Ba
 yF:List Cd
 yD:List ByteArray
 yE:List Ko
 eX:List Ch
 yG:List Ba
 bG:List Rw
 jo:List Int
 jm:List Int
 jl:List Int
 jk:List Int
 ji:List Int
 jh:List Int
 jg:List Int
 jf:List Int
 je:List Int
 jd:List Int
 dJ:List Int
 dI:List Int
 dH:List Int
 dG:List Int
 dF:List Int
 dD:List Int
 bg:List Int
 sums:List Int
 levels:List Int
 qE:ByteArray
 XE:Int
 qC:Int
 ajn:Int
 ajo:Int
 XB:Int
 kY:Int
 mO:Int
 more:Int
def aDD (s:oV):List LV:=[.fn 124 [.own 4 0,.own 6 0],.v (.bool s.r),.xl (.int .i64) s.l,.v (.int .i64 s.n),.v (.int .i64 s.i)]
def aCC (s:oV):List aU:=[⟨[.xl dU s.bP,.xl .str s.eu,.xl dW s.bV,.xl dM s.bZ,.xl dX s.iE],28,.cl,false⟩,⟨[.xl dU s.yF,.xl .str s.yD,.xl dW s.yE,.xl dM s.eX,.xl dX s.yG,.xl CQ s.bG,.xl (.int .i64) s.jo,.xl (.int .i64) s.jm,.xl (.int .i64) s.jl,.xl (.int .i64) s.jk,.xl (.int .i64) s.ji,.xl (.int .i64) s.jh,.xl (.int .i64) s.jg,.xl (.int .i64) s.jf,.xl (.int .i64) s.je,.xl (.int .i64) s.jd,.xl (.int .i64) s.dJ,.xl (.int .i64) s.dI,.xl (.int .i64) s.dH,.xl (.int .i64) s.dG,.xl (.int .i64) s.dF,.xl (.int .i64) s.dD,.os 2 1 0 (List.length s.sums),.xl (.int .i64) s.bg,.os 3 1 0 (List.length s.levels)],148,.cl,false⟩,⟨[],3,.vec (.int .i64) s.sums,false⟩,⟨[],3,.vec (.int .i64) s.levels,false⟩,⟨[.own 1 0],144,.cl,false⟩,⟨[.v (.string s.qE),.v (.int .i64 s.XE),.v (.int .i64 s.qC),.v (.int .i64 s.ajn),.v (.int .i64 s.ajo),.v (.int .i64 s.XB),.v (.int .i64 s.kY),.v (.int .i64 s.mO)],58,.cl,false⟩,⟨[.v (.int .i64 s.more)],3,.cl,false⟩]
noncomputable def Um:Code:=((aB (Tryz.f93.body.getD .skip))[0]?).getD .skip
def Zr (s:oV):T (Rd oV):=
 .br (decide (s.i<s.n)) (.req (0≤s.i∧s.i<(List.length s.l:Int)) (.req (0≤(gi s.l s.i)∧(gi s.l s.i)<((List.length s.sums:Nat):Int)) (.req ((gi s.l s.i).toNat<List.length s.sums) (.req (0≤(gi s.l s.i)∧(gi s.l s.i)<(List.length s.bG:Int)) (.br (!(decide ((IntKind.i64.wrap ((s.sums.getD (gi s.l s.i).toNat (Ty.dflt (.int .i64)))+s.more))≤(o7 s.bG (gi s.l s.i)).1))) (.rl s.sums (.rl s.levels (.ok (.stop (.ret) {s with r:=false})))) (.rl s.sums (.rl s.levels (.ok (.next {s with i:=(IntKind.i64.wrap (s.i+1))}))))))))) (.rl s.sums (.rl s.levels (.ok (.stop (.exit 0) s))))
abbrev ase (s:oV):=(Zr s).rd s
def JM (s:oV) (j:Int):Bool:=Ad s.bG s.sums s.more (gi s.l j)
def Vh (s:oV):Prop:=s.i=0∧0≤s.n∧s.n≤1000∧s.n=(s.l.length:Int)∧(∀r∈s.l,0≤r∧r<(s.bG.length:Int))∧s.sums.length=s.bG.length∧(∀k:Nat,0≤s.sums.getD k 0∧s.sums.getD k 0≤2000)∧(0≤s.more∧s.more≤10000)
def Nq (s:oV):Prop:=0≤s.i∧s.i≤s.n∧s.n≤1000∧(s.n=(s.l.length:Int)∧(∀r∈s.l,0≤r∧r<(s.bG.length:Int))∧s.sums.length=s.bG.length∧(∀k:Nat,0≤s.sums.getD k 0∧s.sums.getD k 0≤2000)∧(0≤s.more∧s.more≤10000))∧∀j:Nat,(j:Int)<s.i→JM s j=true
def Pm (s:oV):Nat:=(s.n-s.i).toNat
def akC (x:Ex) (_ s':oV):Prop:=(x=.exit 0∧∀j:Nat,(j:Int)<s'.n→JM s' j=true)∨(x=.ret∧s'.r=false∧∃j:Nat,(j:Int)<s'.n∧JM s' j=false)
theorem aBj:∀s,Vh s→Nq s:=by
 intro s h
 obtain ⟨h0,h1,h2,h3⟩:=h
 exact ⟨by omega,by omega,h2,h3,fun j hj=>by omega⟩
theorem aw3 (s:oV) (hI:Nq s):bJ (fun s'=>Nq s'∧Pm s'<Pm s) (fun x s'=>akC x s s') (ase s):=by
 unfold ase Zr
 dsimp only [T.rd,T.rl]
 obtain ⟨h0,h1,h2,h3,h4⟩:=hI
 refine au (fun c1=>au (fun c2=>?_) (fun c2=>?_)) (fun c1=>?_)
 ·have c1:s.i<s.n:=by simpa using c1
  refine .inr ⟨rfl,rfl,s.i.toNat,by simp only;omega,?_⟩
  rw [Int.toNat_of_nonneg (by omega)]
  have hg:JM s s.i=false:=by unfold JM;(obtain ⟨e0,e1,e2,e3,e4⟩:=h3;have hb:=e3 (gi s.l s.i).toNat;have c2:=c2;rw [aK (x:=s.sums.getD (gi s.l s.i).toNat (Ty.dflt (.int .i64))+s.more) (by show _≤s.sums.getD (gi s.l s.i).toNat 0+s.more;omega) (by show s.sums.getD (gi s.l s.i).toNat 0+s.more≤_;omega)] at c2;unfold Ad;first|(have c3:(!(decide (s.sums.getD (gi s.l s.i).toNat 0+s.more≤(o7 s.bG (gi s.l s.i)).1)))=true:=c2;simpa using c3) |(have c3:(!(decide (s.sums.getD (gi s.l s.i).toNat 0+s.more≤(o7 s.bG (gi s.l s.i)).1)))=false:=c2;simpa using c3))
  exact hg
 ·have c1:s.i<s.n:=by simpa using c1
  have hg:JM s s.i=true:=by unfold JM;(obtain ⟨e0,e1,e2,e3,e4⟩:=h3;have hb:=e3 (gi s.l s.i).toNat;have c2:=c2;rw [aK (x:=s.sums.getD (gi s.l s.i).toNat (Ty.dflt (.int .i64))+s.more) (by show _≤s.sums.getD (gi s.l s.i).toNat 0+s.more;omega) (by show s.sums.getD (gi s.l s.i).toNat 0+s.more≤_;omega)] at c2;unfold Ad;first|(have c3:(!(decide (s.sums.getD (gi s.l s.i).toNat 0+s.more≤(o7 s.bG (gi s.l s.i)).1)))=true:=c2;simpa using c3) |(have c3:(!(decide (s.sums.getD (gi s.l s.i).toNat 0+s.more≤(o7 s.bG (gi s.l s.i)).1)))=false:=c2;simpa using c3))
  rw [aK (x:=s.i+1) (by omega) (by omega)]
  refine ⟨⟨by simp only;omega,by simp only;omega,h2,h3,fun j hj=>?_⟩,by simp only [Pm];omega⟩
  by_cases hji:(j:Int)<s.i
  ·exact h4 j hji
  ·have:(j:Int)=s.i:=by simp only at hj;omega
   rw [this];exact hg
 ·have c1:s.n≤s.i:=by simpa using c1
  exact .inl ⟨rfl,fun j hj=>h4 j (by omega)⟩
def yx:bK oV:=⟨7,18,[1,4,7,8,9],[],aDD,aCC,fun v b=>⟨uT (v.getD 1 .junk),aQ (.int .i64) (v.getD 2 .junk),gI (v.getD 3 .junk),gI (v.getD 4 .junk),aQ dU (aX (aO b 0) 0),aQ .str (aX (aO b 0) 1),aQ dW (aX (aO b 0) 2),aQ dM (aX (aO b 0) 3),aQ dX (aX (aO b 0) 4),aQ dU (aX (aO b 1) 0),aQ .str (aX (aO b 1) 1),aQ dW (aX (aO b 1) 2),aQ dM (aX (aO b 1) 3),aQ dX (aX (aO b 1) 4),aQ CQ (aX (aO b 1) 5),aQ (.int .i64) (aX (aO b 1) 6),aQ (.int .i64) (aX (aO b 1) 7),aQ (.int .i64) (aX (aO b 1) 8),aQ (.int .i64) (aX (aO b 1) 9),aQ (.int .i64) (aX (aO b 1) 10),aQ (.int .i64) (aX (aO b 1) 11),aQ (.int .i64) (aX (aO b 1) 12),aQ (.int .i64) (aX (aO b 1) 13),aQ (.int .i64) (aX (aO b 1) 14),aQ (.int .i64) (aX (aO b 1) 15),aQ (.int .i64) (aX (aO b 1) 16),aQ (.int .i64) (aX (aO b 1) 17),aQ (.int .i64) (aX (aO b 1) 18),aQ (.int .i64) (aX (aO b 1) 19),aQ (.int .i64) (aX (aO b 1) 20),aQ (.int .i64) (aX (aO b 1) 21),aQ (.int .i64) (aX (aO b 1) 23),iT (.int .i64) (aO b 2),iT (.int .i64) (aO b 3),gSr (aX (aO b 5) 0),gI (aX (aO b 5) 1),gI (aX (aO b 5) 2),gI (aX (aO b 5) 3),gI (aX (aO b 5) 4),gI (aX (aO b 5) 5),gI (aX (aO b 5) 6),gI (aX (aO b 5) 7),gI (aX (aO b 6) 0)⟩,Zr,fun s r=> {r with l:=s.l,n:=s.n,bP:=s.bP,eu:=s.eu,bV:=s.bV,bZ:=s.bZ,iE:=s.iE,yF:=s.yF,yD:=s.yD,yE:=s.yE,eX:=s.eX,yG:=s.yG,bG:=s.bG,jo:=s.jo,jm:=s.jm,jl:=s.jl,jk:=s.jk,ji:=s.ji,jh:=s.jh,jg:=s.jg,jf:=s.jf,je:=s.je,jd:=s.jd,dJ:=s.dJ,dI:=s.dI,dH:=s.dH,dG:=s.dG,dF:=s.dF,dD:=s.dD,bg:=s.bg,sums:=s.sums,levels:=s.levels,qE:=s.qE,XE:=s.XE,qC:=s.qC,ajn:=s.ajn,ajo:=s.ajo,XB:=s.XB,kY:=s.kY,mO:=s.mO,more:=s.more},fun s=>s,fun _ s=>s,[.ret,.exit 0],Vh,Nq,Pm⟩
abbrev FW:=yx.run
abbrev Gf:=yx.jG
abbrev ays:=yx.q
noncomputable def Aa:Specs:=bf [(24,lg),(61,nY),(94,qH),(96,qG)]
theorem D6:∀g S,Aa g=some S→Valid Tryz.prog aS g S:=aT (l:=[(24,lg),(61,nY),(94,qH),(96,qG)]) ⟨yC,CO,Gw,Gv,trivial⟩
noncomputable def aiy:Hand:=inl Tryz.prog aS Aa (kD 95 1 3 (wO.lp) (kD 93 1 2 (ve.lp) (lX Tryz.prog aS (Aa) 20 2))) 9
theorem aqY:dL Tryz.prog aS aiy:=bQ D6 (dK Tryz.func95 rfl (by kernel_rfl) zq (dK Tryz.func93 rfl (by kernel_rfl) wP (dQ D6))) 9
theorem au8 (s:oV) (hI:Nq s):(Zr s).all (fun _=>True):=by
 refine ⟨fun c1=>⟨?_,?_,?_,?_,fun c2=>⟨⟨rfl,rfl⟩,⟨rfl,rfl⟩,trivial⟩,fun c2=>⟨⟨rfl,rfl⟩,⟨rfl,rfl⟩,trivial⟩⟩,fun c1=>⟨⟨rfl,rfl⟩,⟨rfl,rfl⟩,trivial⟩⟩
 all_goals ((obtain ⟨h0,h1,h2,⟨e0,e1,e2,e3,e4⟩,h4⟩:=hI;simp only [decide_eq_true_eq] at c1;have hm:=e1 (gi s.l s.i) (kX (by omega) (by omega));omega))
theorem ahl:yx.Ok:=⟨fun s=>by kernel_rfl,fun s=>by kernel_rfl,fun s=>rfl,fun s t r=>rfl,fun s=>rfl,fun s=>by kernel_rfl⟩
theorem agh:yx.Pf (akC):=⟨aBj,fun _ _=>rfl,aw3,au8⟩
theorem FT:bn Tryz.prog aS (AN 7) (.loop Um) yx.lp:=bK.snd ahl agh (bF (Γ:=Aa) (K:=aiy) (L:=(tN Tryz.prog aS Aa aiy 20 2)) D6 aqY Um (fun b _=>dR D6 aqY 20 2 b)) (fun s=>by kernel_rfl)
theorem apL (s:oV) (hE:Vh s):∃s',Nq s'∧akC (Gf s) s' (FW s):=bK.fin ahl agh s hE
theorem rH (s:oV) (hE:Vh s):(Gf s=.exit 0∧s.l.all (Ad s.bG s.sums s.more)=true)∨(Gf s=.ret∧(FW s).r=false∧s.l.all (Ad s.bG s.sums s.more)=false):=by
 obtain ⟨s',hI,hq⟩:=apL s hE
 obtain ⟨h0,h1,h2,h3,_⟩:=hE
 have en:(FW s).n=s.n:=rfl
 rcases hq with ⟨q1,q2⟩ |⟨q1,q2,j,q3,q4⟩
 ·exact .inl ⟨q1,(iM (d:=(0:Int))).1 fun j hj=>q2 j (by rw [en];omega)⟩
 ·refine .inr ⟨q1,q2,?_⟩
  rw [Bool.eq_false_iff]
  intro hx
  have:=(iM (d:=(0:Int))).2 hx j (by rw [en] at q3;omega)
  exact Bool.noConfusion (this.symm.trans q4)
structure tH where
 Qm:Int
 level:Int
 l:List Int
 n:Int
 i:Int
 bP:List Cd
 eu:List ByteArray
 bV:List Ko
 bZ:List Ch
 iE:List Ba
 yF:List Cd
 yD:List ByteArray
 yE:List Ko
 eX:List Ch
 yG:List Ba
 bG:List Rw
 jo:List Int
 jm:List Int
 jl:List Int
 jk:List Int
 ji:List Int
 jh:List Int
 jg:List Int
 jf:List Int
 je:List Int
 jd:List Int
 dJ:List Int
 dI:List Int
 dH:List Int
 dG:List Int
 dF:List Int
 dD:List Int
 bg:List Int
 sums:List Int
 levels:List Int
 more:Int
def aEB (s:tH):List LV:=[.v (.int .i64 s.Qm),.own 4 0,.v (.int .i64 s.level),.own 5 0,.xl (.int .i64) s.l,.v (.int .i64 s.n),.v (.int .i64 s.i)]
def aEt (s:tH):List aU:=[⟨[.xl dU s.bP,.xl .str s.eu,.xl dW s.bV,.xl dM s.bZ,.xl dX s.iE],28,.cl,false⟩,⟨[.xl dU s.yF,.xl .str s.yD,.xl dW s.yE,.xl dM s.eX,.xl dX s.yG,.xl CQ s.bG,.xl (.int .i64) s.jo,.xl (.int .i64) s.jm,.xl (.int .i64) s.jl,.xl (.int .i64) s.jk,.xl (.int .i64) s.ji,.xl (.int .i64) s.jh,.xl (.int .i64) s.jg,.xl (.int .i64) s.jf,.xl (.int .i64) s.je,.xl (.int .i64) s.jd,.xl (.int .i64) s.dJ,.xl (.int .i64) s.dI,.xl (.int .i64) s.dH,.xl (.int .i64) s.dG,.xl (.int .i64) s.dF,.xl (.int .i64) s.dD,.os 2 1 0 (List.length s.sums),.xl (.int .i64) s.bg,.os 3 1 0 (List.length s.levels)],148,.cl,false⟩,⟨[],3,.vec (.int .i64) s.sums,false⟩,⟨[],3,.vec (.int .i64) s.levels,false⟩,⟨[.own 1 0],144,.cl,false⟩,⟨[.v (.int .i64 s.more)],3,.cl,false⟩]
noncomputable def abX:Code:=((aB (Tryz.f97.body.getD .skip))[0]?).getD .skip
def ae5 (s:tH):T (Rd tH):=
 .br (decide (s.i<s.n)) (.req (0≤s.i∧s.i<(List.length s.l:Int)) (.req (0≤(gi s.l s.i)∧(gi s.l s.i)<((List.length s.sums:Nat):Int)) (.req ((gi s.l s.i).toNat<List.length s.sums) (.req (0≤(gi s.l s.i)∧(gi s.l s.i)<((List.length s.sums:Nat):Int)) (.req ((gi s.l s.i).toNat<List.length s.sums) (.req (0=0∧(List.length s.sums)=List.length (s.sums.set (gi s.l s.i).toNat (IntKind.i64.wrap ((s.sums.getD (gi s.l s.i).toNat (Ty.dflt (.int .i64)))+s.more)))) (.rl s.levels (.ok (.next {s with i:=(IntKind.i64.wrap (s.i+1)),sums:=(s.sums.set (gi s.l s.i).toNat (IntKind.i64.wrap ((s.sums.getD (gi s.l s.i).toNat (Ty.dflt (.int .i64)))+s.more)))}))))))))) (.rl s.sums (.rl s.levels (.ok (.stop (.exit 0) s))))
abbrev apb (s:tH):=(ae5 s).rd s
def aeG (s:tH):Prop:=s.i=0∧(∀k:Nat,0≤s.sums.getD k 0∧s.sums.getD k 0≤2000)∧s.n=(s.l.length:Int)∧s.n≤1000∧(∀r∈s.l,0≤r∧r<(s.sums.length:Int))∧(0≤s.more∧s.more≤10000)
def aeC (s:tH):Prop:=(0≤s.i∧s.i≤s.n)∧(∀k:Nat,0≤s.sums.getD k 0∧s.sums.getD k 0≤2000+10000*s.i)∧s.n=(s.l.length:Int)∧s.n≤1000∧(∀r∈s.l,0≤r∧r<(s.sums.length:Int))∧(0≤s.more∧s.more≤10000)
def aao (s:tH):Nat:=(s.n-s.i).toNat
def axE (x:Ex) (_ s':tH):Prop:=x=.exit 0∧s'.i=s'.n
theorem aD3:∀s,aeG s→aeC s:=by
 intro s h
 obtain ⟨h0,h1,h2,h3⟩:=h
 exact ⟨by omega,fun k=>by have:=h1 k;omega,h2,h3⟩
theorem azx (s:tH) (hI:aeC s):bJ (fun s'=>aeC s'∧aao s'<aao s) (fun x s'=>axE x s s') (apb s):=by
 unfold apb ae5
 dsimp only [T.rd,T.rl]
 obtain ⟨⟨h0,h1⟩,h2,h3,h4,h5,h6⟩:=hI
 refine au (fun c1=>?_) (fun c1=>?_)
 ·have c1:s.i<s.n:=by simpa using c1
  have hb:=h2 (gi s.l s.i).toNat
  rw [aK (x:=s.i+1) (by omega) (by omega),aK (x:=s.sums.getD (gi s.l s.i).toNat (Ty.dflt (.int .i64))+s.more) (by show _≤s.sums.getD (gi s.l s.i).toNat 0+s.more;omega) (by show s.sums.getD (gi s.l s.i).toNat 0+s.more≤_;omega)]
  refine ⟨⟨⟨by simp only;omega,by simp only;omega⟩,fun k=>?_,h3,h4,fun r hr=>by simp only [List.length_set];exact h5 r hr,h6⟩,by simp only [aao];omega⟩
  simp only
  have hk:=h2 k
  rw [qy]
  split
  ·show 0≤s.sums.getD (gi s.l s.i).toNat 0+s.more∧s.sums.getD (gi s.l s.i).toNat 0+s.more≤_
   omega
  ·omega
 ·have c1:s.n≤s.i:=by simpa using c1
  exact ⟨rfl,by omega⟩
def QI:bK tH:=⟨4,90,[1,2,6,7,66,67,68],[],aEB,aEt,fun v b=>⟨gI (v.getD 0 .junk),gI (v.getD 2 .junk),aQ (.int .i64) (v.getD 4 .junk),gI (v.getD 5 .junk),gI (v.getD 6 .junk),aQ dU (aX (aO b 0) 0),aQ .str (aX (aO b 0) 1),aQ dW (aX (aO b 0) 2),aQ dM (aX (aO b 0) 3),aQ dX (aX (aO b 0) 4),aQ dU (aX (aO b 1) 0),aQ .str (aX (aO b 1) 1),aQ dW (aX (aO b 1) 2),aQ dM (aX (aO b 1) 3),aQ dX (aX (aO b 1) 4),aQ CQ (aX (aO b 1) 5),aQ (.int .i64) (aX (aO b 1) 6),aQ (.int .i64) (aX (aO b 1) 7),aQ (.int .i64) (aX (aO b 1) 8),aQ (.int .i64) (aX (aO b 1) 9),aQ (.int .i64) (aX (aO b 1) 10),aQ (.int .i64) (aX (aO b 1) 11),aQ (.int .i64) (aX (aO b 1) 12),aQ (.int .i64) (aX (aO b 1) 13),aQ (.int .i64) (aX (aO b 1) 14),aQ (.int .i64) (aX (aO b 1) 15),aQ (.int .i64) (aX (aO b 1) 16),aQ (.int .i64) (aX (aO b 1) 17),aQ (.int .i64) (aX (aO b 1) 18),aQ (.int .i64) (aX (aO b 1) 19),aQ (.int .i64) (aX (aO b 1) 20),aQ (.int .i64) (aX (aO b 1) 21),aQ (.int .i64) (aX (aO b 1) 23),iT (.int .i64) (aO b 2),iT (.int .i64) (aO b 3),gI (aX (aO b 5) 0)⟩,ae5,fun s r=> {r with Qm:=s.Qm,level:=s.level,l:=s.l,n:=s.n,bP:=s.bP,eu:=s.eu,bV:=s.bV,bZ:=s.bZ,iE:=s.iE,yF:=s.yF,yD:=s.yD,yE:=s.yE,eX:=s.eX,yG:=s.yG,bG:=s.bG,jo:=s.jo,jm:=s.jm,jl:=s.jl,jk:=s.jk,ji:=s.ji,jh:=s.jh,jg:=s.jg,jf:=s.jf,je:=s.je,jd:=s.jd,dJ:=s.dJ,dI:=s.dI,dH:=s.dH,dG:=s.dG,dF:=s.dF,dD:=s.dD,bg:=s.bg,levels:=s.levels,more:=s.more},fun s=>s,fun _ s=>s,[.exit 0],aeG,aeC,aao⟩
abbrev kz:=QI.run
abbrev awY:=QI.jG
abbrev asO:=QI.q
noncomputable def aix:Hand:=inl Tryz.prog aS Aa (kD 93 7 2 (yx.lp) (kD 95 1 3 (wO.lp) (kD 93 1 2 (ve.lp) (lX Tryz.prog aS (Aa) 20 2)))) 9
theorem aqX:dL Tryz.prog aS aix:=bQ D6 (dK Tryz.func93 rfl (by kernel_rfl) FT (dK Tryz.func95 rfl (by kernel_rfl) zq (dK Tryz.func93 rfl (by kernel_rfl) wP (dQ D6)))) 9
theorem azB (s:tH) (hI:aeC s):(ae5 s).all (fun _=>True):=by
 refine ⟨fun c1=>⟨?_,?_,?_,?_,?_,?_,⟨rfl,rfl⟩,trivial⟩,fun c1=>⟨⟨rfl,rfl⟩,⟨rfl,rfl⟩,trivial⟩⟩
 all_goals ((obtain ⟨⟨h0,h1⟩,h2,h3,h4,h5,h6⟩:=hI;(try simp only [decide_eq_true_eq] at c1);first|(have hm:=h5 (gi s.l s.i) (kX (by omega) (by omega));omega) |exact ⟨rfl,by simp⟩ |exact ⟨rfl,rfl⟩))
theorem agY:QI.Ok:=⟨fun s=>by kernel_rfl,fun s=>by kernel_rfl,fun s=>rfl,fun s t r=>rfl,fun s=>rfl,fun s=>by kernel_rfl⟩
theorem afQ:QI.Pf (axE):=⟨aD3,fun _ _=>rfl,azx,azB⟩
theorem VJ:bn Tryz.prog aS (AN 4) (.loop abX) QI.lp:=bK.snd agY afQ (bF (Γ:=Aa) (K:=aix) (L:=(tN Tryz.prog aS Aa aix 20 2)) D6 aqX abX (fun b _=>dR D6 aqX 20 2 b)) (fun s=>by kernel_rfl)
theorem auj (s:tH) (hE:aeG s):∃s',aeC s'∧axE (awY s) s' (kz s):=bK.fin agY afQ s hE
theorem amZ (s:tH) (hE:aeG s):(fun s:tH=>yY s.sums s.more (s.l.drop s.i.toNat)) (kz s)=(fun s:tH=>yY s.sums s.more (s.l.drop s.i.toNat)) s:=by
 exact bK.uS agY afQ (fun s:tH=>yY s.sums s.more (s.l.drop s.i.toNat)) (fun s hI=>by
  show bJ _ _ (apb s)
  unfold apb ae5
  dsimp only [T.rd,T.rl]
  obtain ⟨⟨h0,h1⟩,h2,h3,h4,h5,h6⟩:=hI
  refine au (fun c1=>?_) (fun c1=>rfl)
  have c1:s.i<s.n:=by simpa using c1
  have hb:=h2 (gi s.l s.i).toNat
  rw [aK (x:=s.i+1) (by omega) (by omega),aK (x:=s.sums.getD (gi s.l s.i).toNat (Ty.dflt (.int .i64))+s.more) (by show _≤s.sums.getD (gi s.l s.i).toNat 0+s.more;omega) (by show s.sums.getD (gi s.l s.i).toNat 0+s.more≤_;omega)]
  show yY _ _ _=yY _ _ _
  rw [(gi_step h0 (show s.i<s.l.length by omega)).1]
  rfl) s hE
theorem afp (s:tH) (hE:aeG s):(kz s).sums=yY s.sums s.more s.l:=by
 have q3:=amZ s hE
 obtain ⟨s',hI,q1,q2⟩:=auj s hE
 obtain ⟨h0,h1,h2,h3⟩:=hE
 simp only at q3
 rw [q2,show (kz s).n=s.n from rfl,show (kz s).l=s.l from rfl,show (kz s).more=s.more from rfl,List.drop_eq_nil_of_le (by omega),h0] at q3
 exact q3
end Go.Proofs.YtlihnbimgclogaaGreatDoor
namespace Go.Proofs.YtlihnbimgclogaaGreatDoor
open Go.Sx
structure fH where
 most:List Int
 order:List Int
 n:Int
 level:Int
 some:Bool
 l:List Int
 m:Int
 k:Int
 ah:List Cd
 aA:List ByteArray
 aj:List Ko
 ai:List Ch
 aJ:List Ba
 yF:List Cd
 yD:List ByteArray
 yE:List Ko
 eX:List Ch
 yG:List Ba
 bG:List Rw
 jo:List Int
 jm:List Int
 jl:List Int
 jk:List Int
 ji:List Int
 jh:List Int
 jg:List Int
 jf:List Int
 je:List Int
 jd:List Int
 dJ:List Int
 dI:List Int
 dH:List Int
 dG:List Int
 dF:List Int
 dD:List Int
 bg:List Int
 sums:List Int
 levels:List Int
def aC2 (s:fH):List LV:=[.xl (.int .i64) s.most,.xl (.int .i64) s.order,.own 0 0,.v (.int .i64 s.n),.own 1 0,.v (.int .i64 s.level),.v (.bool s.some),.xl (.int .i64) s.l,.v (.int .i64 s.m),.v (.int .i64 s.k)]
def aB1 (s:fH):List aU:=[⟨[.xl dU s.ah,.xl .str s.aA,.xl dW s.aj,.xl dM s.ai,.xl dX s.aJ],28,.cl,false⟩,⟨[.xl dU s.yF,.xl .str s.yD,.xl dW s.yE,.xl dM s.eX,.xl dX s.yG,.xl CQ s.bG,.xl (.int .i64) s.jo,.xl (.int .i64) s.jm,.xl (.int .i64) s.jl,.xl (.int .i64) s.jk,.xl (.int .i64) s.ji,.xl (.int .i64) s.jh,.xl (.int .i64) s.jg,.xl (.int .i64) s.jf,.xl (.int .i64) s.je,.xl (.int .i64) s.jd,.xl (.int .i64) s.dJ,.xl (.int .i64) s.dI,.xl (.int .i64) s.dH,.xl (.int .i64) s.dG,.xl (.int .i64) s.dF,.xl (.int .i64) s.dD,.os 2 1 0 (List.length s.sums),.xl (.int .i64) s.bg,.os 3 1 0 (List.length s.levels)],148,.cl,false⟩,⟨[],3,.vec (.int .i64) s.sums,false⟩,⟨[],3,.vec (.int .i64) s.levels,false⟩]
noncomputable def AA:Code:=((aB (((aB (Tryz.f52.body.getD .skip))[0]?).getD .skip))[0]?).getD .skip
def tY (s:fH):oV:=(⟨false,(([s.jo,s.jm,s.jl,s.jk,s.ji,s.jh,s.jg,s.jf,s.je,s.jd,s.dJ,s.dI,s.dH,s.dG,s.dF,s.dD]:List (List Int)).getD (gi s.l s.k).toNat []),(List.length (([s.jo,s.jm,s.jl,s.jk,s.ji,s.jh,s.jg,s.jf,s.je,s.jd,s.dJ,s.dI,s.dH,s.dG,s.dF,s.dD]:List (List Int)).getD (gi s.l s.k).toNat []):Int),(0:Int),s.ah,s.aA,s.aj,s.ai,s.aJ,s.yF,s.yD,s.yE,s.eX,s.yG,s.bG,s.jo,s.jm,s.jl,s.jk,s.ji,s.jh,s.jg,s.jf,s.je,s.jd,s.dJ,s.dI,s.dH,s.dG,s.dF,s.dD,s.bg,s.sums,s.levels,(aW s.eX (gi s.l s.k)).1,(aW s.eX (gi s.l s.k)).2.1,(aW s.eX (gi s.l s.k)).2.2.1,(aW s.eX (gi s.l s.k)).2.2.2.1,(aW s.eX (gi s.l s.k)).2.2.2.2.1,(aW s.eX (gi s.l s.k)).2.2.2.2.2.1,(aW s.eX (gi s.l s.k)).2.2.2.2.2.2.1,(aW s.eX (gi s.l s.k)).2.2.2.2.2.2.2,(IntKind.i64.wrap ((if (gi s.bg (gi s.l s.k))<(BX (aW s.eX (gi s.l s.k)).2.2.2.1 (aW s.eX (gi s.l s.k)).2.2.2.2.2.1 (IntKind.i64.wrap ((s.levels.getD (gi s.l s.k).toNat (Ty.dflt (.int .i64)))+1))) then BX (aW s.eX (gi s.l s.k)).2.2.2.1 (aW s.eX (gi s.l s.k)).2.2.2.2.2.1 (IntKind.i64.wrap ((s.levels.getD (gi s.l s.k).toNat (Ty.dflt (.int .i64)))+1)) else (gi s.bg (gi s.l s.k)))-(if (gi s.bg (gi s.l s.k))<(BX (aW s.eX (gi s.l s.k)).2.2.2.1 (aW s.eX (gi s.l s.k)).2.2.2.2.2.1 (IntKind.i64.wrap ((IntKind.i64.wrap ((s.levels.getD (gi s.l s.k).toNat (Ty.dflt (.int .i64)))+1))-1))) then BX (aW s.eX (gi s.l s.k)).2.2.2.1 (aW s.eX (gi s.l s.k)).2.2.2.2.2.1 (IntKind.i64.wrap ((IntKind.i64.wrap ((s.levels.getD (gi s.l s.k).toNat (Ty.dflt (.int .i64)))+1))-1)) else (gi s.bg (gi s.l s.k)))))⟩:oV)
def lY (s:fH):tH:=(⟨(gi s.l s.k),(IntKind.i64.wrap ((s.levels.getD (gi s.l s.k).toNat (Ty.dflt (.int .i64)))+1)),(([s.jo,s.jm,s.jl,s.jk,s.ji,s.jh,s.jg,s.jf,s.je,s.jd,s.dJ,s.dI,s.dH,s.dG,s.dF,s.dD]:List (List Int)).getD (gi s.l s.k).toNat []),(List.length (([s.jo,s.jm,s.jl,s.jk,s.ji,s.jh,s.jg,s.jf,s.je,s.jd,s.dJ,s.dI,s.dH,s.dG,s.dF,s.dD]:List (List Int)).getD (gi s.l s.k).toNat []):Int),(0:Int),s.ah,s.aA,s.aj,s.ai,s.aJ,s.yF,s.yD,s.yE,s.eX,s.yG,s.bG,s.jo,s.jm,s.jl,s.jk,s.ji,s.jh,s.jg,s.jf,s.je,s.jd,s.dJ,s.dI,s.dH,s.dG,s.dF,s.dD,s.bg,s.sums,s.levels,(IntKind.i64.wrap ((if (gi s.bg (gi s.l s.k))<(BX (aW s.eX (gi s.l s.k)).2.2.2.1 (aW s.eX (gi s.l s.k)).2.2.2.2.2.1 (IntKind.i64.wrap ((s.levels.getD (gi s.l s.k).toNat (Ty.dflt (.int .i64)))+1))) then BX (aW s.eX (gi s.l s.k)).2.2.2.1 (aW s.eX (gi s.l s.k)).2.2.2.2.2.1 (IntKind.i64.wrap ((s.levels.getD (gi s.l s.k).toNat (Ty.dflt (.int .i64)))+1)) else (gi s.bg (gi s.l s.k)))-(if (gi s.bg (gi s.l s.k))<(BX (aW s.eX (gi s.l s.k)).2.2.2.1 (aW s.eX (gi s.l s.k)).2.2.2.2.2.1 (IntKind.i64.wrap ((IntKind.i64.wrap ((s.levels.getD (gi s.l s.k).toNat (Ty.dflt (.int .i64)))+1))-1))) then BX (aW s.eX (gi s.l s.k)).2.2.2.1 (aW s.eX (gi s.l s.k)).2.2.2.2.2.1 (IntKind.i64.wrap ((IntKind.i64.wrap ((s.levels.getD (gi s.l s.k).toNat (Ty.dflt (.int .i64)))+1))-1)) else (gi s.bg (gi s.l s.k)))))⟩:tH)
def Q7 (s:fH):T (Rd fH):=
 .br (decide (s.k<s.m)) (.req (0≤s.k∧s.k<(List.length s.l:Int)) (.req (0≤(gi s.l s.k)∧(gi s.l s.k)<((List.length s.levels:Nat):Int)) (.req ((gi s.l s.k).toNat<List.length s.levels) (.br ((s.levels.getD (gi s.l s.k).toNat (Ty.dflt (.int .i64))) !=(IntKind.i64.wrap (s.level-1))) (.rl s.sums (.rl s.levels (.ok (.next {s with k:=(IntKind.i64.wrap (s.k+1))})))) (.req (0≤(gi s.l s.k)∧(gi s.l s.k)<(List.length s.ai:Int)) (.req (0≤(gi s.l s.k)∧(gi s.l s.k)<(List.length s.most:Int)) (.req ((gi s.most (gi s.l s.k))≤9223372036854775807) (.br (decide ((QN (aW s.ai (gi s.l s.k)).2.2.2.1 (aW s.ai (gi s.l s.k)).2.2.2.2.1 (aW s.ai (gi s.l s.k)).2.2.2.2.2.1 (gi s.most (gi s.l s.k)))<s.level)) (.rl s.sums (.rl s.levels (.ok (.next {s with k:=(IntKind.i64.wrap (s.k+1))})))) (.req (0≤(gi s.l s.k)∧(gi s.l s.k)<(List.length s.eX:Int)) (.req (0≤(gi s.l s.k)∧(gi s.l s.k)<((List.length s.levels:Nat):Int)) (.req ((gi s.l s.k).toNat<List.length s.levels) (.req (0≤(gi s.l s.k)∧(gi s.l s.k)<(List.length s.bg:Int)) (.req ((1≤(aW s.eX (gi s.l s.k)).2.2.2.1∧(aW s.eX (gi s.l s.k)).2.2.2.1≤80∧1≤(aW s.eX (gi s.l s.k)).2.2.2.2.2.1∧(aW s.eX (gi s.l s.k)).2.2.2.2.2.1≤80)∧0≤(IntKind.i64.wrap ((s.levels.getD (gi s.l s.k).toNat (Ty.dflt (.int .i64)))+1))∧(IntKind.i64.wrap ((s.levels.getD (gi s.l s.k).toNat (Ty.dflt (.int .i64)))+1))≤1000) (.req (0≤(gi s.l s.k)∧(gi s.l s.k)<(List.length s.bg:Int)) (.req ((1≤(aW s.eX (gi s.l s.k)).2.2.2.1∧(aW s.eX (gi s.l s.k)).2.2.2.1≤80∧1≤(aW s.eX (gi s.l s.k)).2.2.2.2.2.1∧(aW s.eX (gi s.l s.k)).2.2.2.2.2.1≤80)∧0≤(IntKind.i64.wrap ((IntKind.i64.wrap ((s.levels.getD (gi s.l s.k).toNat (Ty.dflt (.int .i64)))+1))-1))∧(IntKind.i64.wrap ((IntKind.i64.wrap ((s.levels.getD (gi s.l s.k).toNat (Ty.dflt (.int .i64)))+1))-1))≤1000) (.req (0≤(gi s.l s.k)∧(gi s.l s.k)<(16:Int)) (.rl s.sums (.rl s.levels (.req (ays (tY s)) (.br (iw (Gf (tY s)) (.ret)) (.br (!(FW (tY s)).r) (.br false (.rl s.sums (.rl s.levels (.ok (.next {s with some:=true,k:=(IntKind.i64.wrap (s.k+1))})))) (.rl s.sums (.rl s.levels (.ok (.next {s with k:=(IntKind.i64.wrap (s.k+1))}))))) (.req (0≤(gi s.l s.k)∧(gi s.l s.k)<(16:Int)) (.rl s.sums (.rl s.levels (.req (asO (lY s)) (.req (0≤(gi s.l s.k)∧(gi s.l s.k)<((List.length s.levels:Nat):Int)) (.req ((gi s.l s.k).toNat<List.length s.levels) (.br true (.rl (kz (lY s)).sums (.req (0=0∧(List.length s.levels)=List.length (s.levels.set (gi s.l s.k).toNat (IntKind.i64.wrap ((s.levels.getD (gi s.l s.k).toNat (Ty.dflt (.int .i64)))+1)))) (.ok (.next {s with some:=true,k:=(IntKind.i64.wrap (s.k+1)),sums:=(kz (lY s)).sums,levels:=(s.levels.set (gi s.l s.k).toNat (IntKind.i64.wrap ((s.levels.getD (gi s.l s.k).toNat (Ty.dflt (.int .i64)))+1)))})))) (.rl (kz (lY s)).sums (.req (0=0∧(List.length s.levels)=List.length (s.levels.set (gi s.l s.k).toNat (IntKind.i64.wrap ((s.levels.getD (gi s.l s.k).toNat (Ty.dflt (.int .i64)))+1)))) (.ok (.next {s with k:=(IntKind.i64.wrap (s.k+1)),sums:=(kz (lY s)).sums,levels:=(s.levels.set (gi s.l s.k).toNat (IntKind.i64.wrap ((s.levels.getD (gi s.l s.k).toNat (Ty.dflt (.int .i64)))+1)))})))))))))))) (.br (!true) (.br false (.rl s.sums (.rl s.levels (.ok (.next {s with some:=true,k:=(IntKind.i64.wrap (s.k+1))})))) (.rl s.sums (.rl s.levels (.ok (.next {s with k:=(IntKind.i64.wrap (s.k+1))}))))) (.req (0≤(gi s.l s.k)∧(gi s.l s.k)<(16:Int)) (.rl s.sums (.rl s.levels (.req (asO (lY s)) (.req (0≤(gi s.l s.k)∧(gi s.l s.k)<((List.length s.levels:Nat):Int)) (.req ((gi s.l s.k).toNat<List.length s.levels) (.br true (.rl (kz (lY s)).sums (.req (0=0∧(List.length s.levels)=List.length (s.levels.set (gi s.l s.k).toNat (IntKind.i64.wrap ((s.levels.getD (gi s.l s.k).toNat (Ty.dflt (.int .i64)))+1)))) (.ok (.next {s with some:=true,k:=(IntKind.i64.wrap (s.k+1)),sums:=(kz (lY s)).sums,levels:=(s.levels.set (gi s.l s.k).toNat (IntKind.i64.wrap ((s.levels.getD (gi s.l s.k).toNat (Ty.dflt (.int .i64)))+1)))})))) (.rl (kz (lY s)).sums (.req (0=0∧(List.length s.levels)=List.length (s.levels.set (gi s.l s.k).toNat (IntKind.i64.wrap ((s.levels.getD (gi s.l s.k).toNat (Ty.dflt (.int .i64)))+1)))) (.ok (.next {s with k:=(IntKind.i64.wrap (s.k+1)),sums:=(kz (lY s)).sums,levels:=(s.levels.set (gi s.l s.k).toNat (IntKind.i64.wrap ((s.levels.getD (gi s.l s.k).toNat (Ty.dflt (.int .i64)))+1)))})))))))))))))))))))))))))))))))) (.rl s.sums (.rl s.levels (.ok (.stop (.exit 2) s))))
abbrev aa0 (s:fH):=(Q7 s).rd s
def gV (s:fH):List (List Int):=[s.jo,s.jm,s.jl,s.jk,s.ji,s.jh,s.jg,s.jf,s.je,s.jd,s.dJ,s.dI,s.dH,s.dG,s.dF,s.dD]
def NH (s:fH):Prop:=s.k=0∧(s.m=(s.l.length:Int)∧s.m≤1000∧1≤s.level∧s.level≤81)∧s.eX=s.ai∧OkT (gV s) s.bG s.eX s.bg s.most s.l∧OkS s.bG s.l s.sums s.levels
def nO (s:fH):Prop:=(0≤s.k∧s.k≤s.m)∧(s.m=(s.l.length:Int)∧s.m≤1000∧1≤s.level∧s.level≤81)∧s.eX=s.ai∧OkT (gV s) s.bG s.eX s.bg s.most s.l∧OkS s.bG s.l s.sums s.levels
def vT (s:fH):Nat:=(s.m-s.k).toNat
def ac9 (x:Ex) (_ s':fH):Prop:=x=.exit 2∧s'.k=s'.m
theorem azp:∀s,NH s→nO s:=by
 intro s h
 obtain ⟨h0,h1⟩:=h
 exact ⟨by have:=h1.1;omega,h1⟩
theorem uO (s:fH) (hI:nO s) (c1:s.k<s.m):gi s.l s.k∈s.l∧(0≤gi s.l s.k∧gi s.l s.k<16)∧gi s.l s.k<(s.eX.length:Int)∧gi s.l s.k<(s.ai.length:Int)∧gi s.l s.k<(s.bg.length:Int)∧gi s.l s.k<(s.most.length:Int)∧gi s.l s.k<(s.levels.length:Int)∧(0≤gi s.most (gi s.l s.k)∧gi s.most (gi s.l s.k)≤80)∧(0≤gi s.bg (gi s.l s.k)∧gi s.bg (gi s.l s.k)≤80):=by
 obtain ⟨⟨h0,h1⟩,⟨h2,h3,h4,h5⟩,h6,hT,hS⟩:=hI
 have hm:gi s.l s.k∈s.l:=kX h0 (by omega)
 obtain ⟨o1,o2,o3,o4⟩:=hT.ord _ hm
 exact ⟨hm,o1,o2,by rw [←h6];exact o2,o3,o4,hS.lD _ hm,hT.mo _ (kX o1.1 o4),hT.al _ (kX o1.1 o3)⟩
theorem sN {s:fH}(hI:nO s) (c2:((s.levels.getD (gi s.l s.k).toNat (Ty.dflt (.int .i64))) !=(IntKind.i64.wrap (s.level-1)))=false):s.levels.getD (gi s.l s.k).toNat 0=s.level-1:=by
 obtain ⟨_,⟨h2,h3,h4,h5⟩,_⟩:=hI
 have c2:((s.levels.getD (gi s.l s.k).toNat 0) !=(IntKind.i64.wrap (s.level-1)))=false:=c2
 rw [aK (x:=s.level-1) (by omega) (by omega)] at c2
 simpa using c2
theorem Sm {s:fH}(hI:nO s) (c2:s.levels.getD (gi s.l s.k).toNat 0=s.level-1):IntKind.i64.wrap ((s.levels.getD (gi s.l s.k).toNat (Ty.dflt (.int .i64)))+1)=s.level∧IntKind.i64.wrap ((IntKind.i64.wrap ((s.levels.getD (gi s.l s.k).toNat (Ty.dflt (.int .i64)))+1))-1)=s.level-1:=by
 obtain ⟨_,⟨h2,h3,h4,h5⟩,_⟩:=hI
 have e:IntKind.i64.wrap ((s.levels.getD (gi s.l s.k).toNat (Ty.dflt (.int .i64)))+1)=s.level:=by
  have:(s.levels.getD (gi s.l s.k).toNat (Ty.dflt (.int .i64)))=s.level-1:=c2
  rw [this,aK (x:=s.level-1+1) (by omega) (by omega)]
  omega
 refine ⟨e,?_⟩
 rw [e,aK (by omega) (by omega)]
theorem kF {s:fH}(hI:nO s) (c1:s.k<s.m) (c2:s.levels.getD (gi s.l s.k).toNat 0=s.level-1):(tY s).more=KT s.eX s.bg (gi s.l s.k) s.level∧(lY s).more=KT s.eX s.bg (gi s.l s.k) s.level∧0≤KT s.eX s.bg (gi s.l s.k) s.level∧KT s.eX s.bg (gi s.l s.k) s.level≤10000:=by
 have hx:=uO s hI c1
 obtain ⟨w1,w2⟩:=Sm hI c2
 obtain ⟨_,⟨h2,h3,h4,h5⟩,h6,hT,hS⟩:=hI
 have hb:=ahZ (gs:=s.eX) (alive:=s.bg) (k:=s.level) (hT.has _ hx.1) hx.2.2.2.2.2.2.2.2 h4 h5
 have e:(tY s).more=KT s.eX s.bg (gi s.l s.k) s.level:=by
  unfold tY
  simp only [w2]
  simp only [w1]
  show IntKind.i64.wrap (KT s.eX s.bg (gi s.l s.k) s.level)=_
  rw [aK (by omega) (by omega)]
 exact ⟨e,e,hb⟩
theorem aqw {s:fH}(hI:nO s) (c1:s.k<s.m):((gV s).getD (gi s.l s.k).toNat []).Nodup∧(((gV s).getD (gi s.l s.k).toNat []).length:Int)≤1000∧∀r∈(gV s).getD (gi s.l s.k).toNat [],0≤r∧r<(s.bG.length:Int):=by
 have hx:=uO s hI c1
 obtain ⟨_,_,_,hT,_⟩:=hI
 refine hT.row _ ?_
 have hl:=hT.ol
 rw [List.getD_eq_getElem?_getD,List.getElem?_eq_getElem (by omega),Option.getD_some]
 exact List.getElem_mem _
theorem tZ {s:fH}(hI:nO s) (c1:s.k<s.m) (c2:s.levels.getD (gi s.l s.k).toNat 0=s.level-1):Vh (tY s):=by
 obtain ⟨m1,m2,m3⟩:=kF hI c1 c2
 obtain ⟨o1,o2,o3⟩:=aqw hI c1
 obtain ⟨_,_,_,hT,hS⟩:=hI
 exact ⟨rfl,Int.natCast_nonneg _,o2,rfl,o3,hS.len,hS.bd,by rw [m1];exact m3⟩
theorem N9 {s:fH}(hI:nO s) (c1:s.k<s.m) (c2:s.levels.getD (gi s.l s.k).toNat 0=s.level-1):aeG (lY s):=by
 obtain ⟨m1,m2,m3⟩:=kF hI c1 c2
 obtain ⟨o1,o2,o3⟩:=aqw hI c1
 obtain ⟨_,_,_,hT,hS⟩:=hI
 refine ⟨rfl,hS.bd,rfl,o2,fun r hr=>?_,by rw [m2];exact m3⟩
 have:=o3 r hr
 have hl:=hS.len
 show 0≤r∧r<(s.sums.length:Int)
 omega
theorem aff (s s':fH) (hI:nO s) (c1:s.k<s.m) (ht:(s'.sums,s'.levels,s'.some)=CY (gV s) s.bG s.eX s.bg s.most s.level (s.sums,s.levels,s.some) (gi s.l s.k)) (hk:s'.k=IntKind.i64.wrap (s.k+1))
  (h_m:s'.m=s.m) (h_l:s'.l=s.l) (h_v:s'.level=s.level) (h_g:s'.eX=s.eX) (h_c:s'.ai=s.ai) (h_r:s'.bG=s.bG) (h_a:s'.bg=s.bg) (h_w:s'.most=s.most) (h_O:gV s'=gV s):
  (nO s'∧vT s'<vT s)∧(fun s:fH=>swp (gV s) s.bG s.eX s.bg s.most s.level (s.sums,s.levels,s.some) (s.l.drop s.k.toNat)) s'=(fun s:fH=>swp (gV s) s.bG s.eX s.bg s.most s.level (s.sums,s.levels,s.some) (s.l.drop s.k.toNat)) s:=by
 have hx:=uO s hI c1
 obtain ⟨⟨h0,h1⟩,⟨h2,h3,h4,h5⟩,h6,hT,hS⟩:=hI
 rw [aK (x:=s.k+1) (by omega) (by omega)] at hk
 have e1:s'.sums=(CY (gV s) s.bG s.eX s.bg s.most s.level (s.sums,s.levels,s.some) (gi s.l s.k)).1:=congrArg (·.1) ht
 have e2:s'.levels=(CY (gV s) s.bG s.eX s.bg s.most s.level (s.sums,s.levels,s.some) (gi s.l s.k)).2.1:=congrArg (·.2.1) ht
 refine ⟨⟨⟨⟨by omega,by omega⟩,⟨by rw [h_m,h_l];exact h2,by omega,by omega,by omega⟩,by rw [h_g,h_c];exact h6,by rw [h_O,h_r,h_g,h_a,h_w,h_l];exact hT,?_⟩,by simp only [vT];omega⟩,?_⟩
 ·rw [h_r,h_l,e1,e2]
  exact afq hT hS hx.1 h4 h5
 ·simp only
  rw [h_O,h_r,h_g,h_a,h_w,h_v,h_l,ht,hk,(gi_step h0 (show s.k<s.l.length by omega)).1]
  rfl
theorem FV (s s':fH) (hI:nO s) (c1:s.k<s.m) (ht:(s'.sums,s'.levels,s'.some)=CY (gV s) s.bG s.eX s.bg s.most s.level (s.sums,s.levels,s.some) (gi s.l s.k)) (hk:s'.k=IntKind.i64.wrap (s.k+1))
  (h_m:s'.m=s.m) (h_l:s'.l=s.l) (h_v:s'.level=s.level) (h_g:s'.eX=s.eX) (h_c:s'.ai=s.ai) (h_r:s'.bG=s.bG) (h_a:s'.bg=s.bg) (h_w:s'.most=s.most) (h_O:gV s'=gV s):bJ (fun s'=>nO s'∧vT s'<vT s) (fun x s'=>ac9 x s s') (.next s'):=(aff s s' hI c1 ht hk h_m h_l h_v h_g h_c h_r h_a h_w h_O).1
theorem FU (s s':fH) (hI:nO s) (c1:s.k<s.m) (ht:(s'.sums,s'.levels,s'.some)=CY (gV s) s.bG s.eX s.bg s.most s.level (s.sums,s.levels,s.some) (gi s.l s.k)) (hk:s'.k=IntKind.i64.wrap (s.k+1))
  (h_m:s'.m=s.m) (h_l:s'.l=s.l) (h_v:s'.level=s.level) (h_g:s'.eX=s.eX) (h_c:s'.ai=s.ai) (h_r:s'.bG=s.bG) (h_a:s'.bg=s.bg) (h_w:s'.most=s.most) (h_O:gV s'=gV s):bJ (fun s'=>(fun s:fH=>swp (gV s) s.bG s.eX s.bg s.most s.level (s.sums,s.levels,s.some) (s.l.drop s.k.toNat)) s'=(fun s:fH=>swp (gV s) s.bG s.eX s.bg s.most s.level (s.sums,s.levels,s.some) (s.l.drop s.k.toNat)) s) (fun _ s'=>(fun s:fH=>swp (gV s) s.bG s.eX s.bg s.most s.level (s.sums,s.levels,s.some) (s.l.drop s.k.toNat)) s'=(fun s:fH=>swp (gV s) s.bG s.eX s.bg s.most s.level (s.sums,s.levels,s.some) (s.l.drop s.k.toNat)) s) (.next s'):=(aff s s' hI c1 ht hk h_m h_l h_v h_g h_c h_r h_a h_w h_O).2
theorem aub (s:fH) (hI:nO s):bJ (fun s'=>nO s'∧vT s'<vT s) (fun x s'=>ac9 x s s') (aa0 s):=by
 unfold aa0 Q7
 dsimp only [T.rd,T.rl]
 refine au (fun c1=>?_) (fun c1=>?_)
 ·refine au (fun c2=>?_) (fun c2=>?_)
  ·have c1:s.k<s.m:=by simpa using c1
   have hn:¬(s.levels.getD (gi s.l s.k).toNat 0=s.level-1∧s.level≤xW s.eX (gi s.l s.k) (gi s.most (gi s.l s.k))):=fun h=>by
    obtain ⟨_,⟨h2,h3,h4,h5⟩,_⟩:=hI
    have c2:((s.levels.getD (gi s.l s.k).toNat 0) !=(IntKind.i64.wrap (s.level-1)))=true:=c2
    rw [aK (x:=s.level-1) (by omega) (by omega)] at c2
    have c2:¬s.levels.getD (gi s.l s.k).toNat 0=s.level-1:=by simpa using c2
    exact c2 h.1
   exact FV s _ hI (by simpa using c1) (by unfold CY;rw [if_neg hn]) rfl rfl rfl rfl rfl rfl rfl rfl rfl rfl
  ·refine au (fun c3=>?_) (fun c3=>?_)
   ·have c1:s.k<s.m:=by simpa using c1
    have hn:¬(s.levels.getD (gi s.l s.k).toNat 0=s.level-1∧s.level≤xW s.eX (gi s.l s.k) (gi s.most (gi s.l s.k))):=fun h=>by
     obtain ⟨_,_,h6,_⟩:=hI
     simp only [decide_eq_true_eq] at c3
     rw [←h6] at c3
     have:=h.2
     unfold xW at this
     omega
    exact FV s _ hI (by simpa using c1) (by unfold CY;rw [if_neg hn]) rfl rfl rfl rfl rfl rfl rfl rfl rfl rfl
   ·refine au (fun c4=>?_) (fun c4=>?_)
    ·refine au (fun c5=>?_) (fun c5=>?_)
     ·refine au (fun c6=>?_) (fun c6=>?_)
      ·cases c6
      ·have c1:s.k<s.m:=by simpa using c1
       have c2:=sN hI c2
       have hp:s.levels.getD (gi s.l s.k).toNat 0=s.level-1∧s.level≤xW s.eX (gi s.l s.k) (gi s.most (gi s.l s.k)):=by
        refine ⟨c2,?_⟩
        have h6:=hI.2.2.1
        simp only [decide_eq_false_iff_not] at c3
        rw [←h6] at c3
        unfold xW
        omega
       have hE:=tZ hI c1 c2
       obtain ⟨m1,m2,_⟩:=kF hI c1 c2
       rcases rH _ hE with ⟨q1,q2⟩ |⟨q1,q2,q3⟩
       ·rw [q1] at c4
        cases c4
       ·rw [m1] at q3
        have q3:((gV s).getD (gi s.l s.k).toNat []).all (Ad s.bG s.sums (KT s.eX s.bg (gi s.l s.k) s.level))=false:=q3
        exact FV s _ hI (by simpa using c1) (by unfold CY;rw [if_pos hp,if_neg (by rw [q3];simp)]) rfl rfl rfl rfl rfl rfl rfl rfl rfl rfl
     ·refine au (fun c6=>?_) (fun c6=>?_)
      ·have c1:s.k<s.m:=by simpa using c1
       have c2:=sN hI c2
       have hp:s.levels.getD (gi s.l s.k).toNat 0=s.level-1∧s.level≤xW s.eX (gi s.l s.k) (gi s.most (gi s.l s.k)):=by
        refine ⟨c2,?_⟩
        have h6:=hI.2.2.1
        simp only [decide_eq_false_iff_not] at c3
        rw [←h6] at c3
        unfold xW
        omega
       have hE:=tZ hI c1 c2
       obtain ⟨m1,m2,_⟩:=kF hI c1 c2
       rcases rH _ hE with ⟨q1,q2⟩ |⟨q1,q2,q3⟩
       ·rw [q1] at c4
        cases c4
       ·rw [q2] at c5
        cases c5
      ·have c1:s.k<s.m:=by simpa using c1
       have c2:=sN hI c2
       have hp:s.levels.getD (gi s.l s.k).toNat 0=s.level-1∧s.level≤xW s.eX (gi s.l s.k) (gi s.most (gi s.l s.k)):=by
        refine ⟨c2,?_⟩
        have h6:=hI.2.2.1
        simp only [decide_eq_false_iff_not] at c3
        rw [←h6] at c3
        unfold xW
        omega
       have hE:=tZ hI c1 c2
       obtain ⟨m1,m2,_⟩:=kF hI c1 c2
       rcases rH _ hE with ⟨q1,q2⟩ |⟨q1,q2,q3⟩
       ·rw [q1] at c4
        cases c4
       ·rw [q2] at c5
        cases c5
    ·refine au (fun c5=>?_) (fun c5=>?_)
     ·refine au (fun c6=>?_) (fun c6=>?_)
      ·cases c5
      ·cases c5
     ·refine au (fun c6=>?_) (fun c6=>?_)
      ·have c1:s.k<s.m:=by simpa using c1
       have c2:=sN hI c2
       have hp:s.levels.getD (gi s.l s.k).toNat 0=s.level-1∧s.level≤xW s.eX (gi s.l s.k) (gi s.most (gi s.l s.k)):=by
        refine ⟨c2,?_⟩
        have h6:=hI.2.2.1
        simp only [decide_eq_false_iff_not] at c3
        rw [←h6] at c3
        unfold xW
        omega
       have hE:=tZ hI c1 c2
       obtain ⟨m1,m2,_⟩:=kF hI c1 c2
       have hR:=N9 hI c1 c2
       rcases rH _ hE with ⟨q1,q2⟩ |⟨q1,q2,q3⟩
       ·rw [m1] at q2
        have q2:((gV s).getD (gi s.l s.k).toNat []).all (Ad s.bG s.sums (KT s.eX s.bg (gi s.l s.k) s.level))=true:=q2
        have r1:=afp _ hR
        rw [m2] at r1
        have r1:(kz (lY s)).sums=yY s.sums (KT s.eX s.bg (gi s.l s.k) s.level) ((gV s).getD (gi s.l s.k).toNat []):=r1
        have w1:=(Sm hI c2).1
        exact FV s _ hI (by simpa using c1) (by unfold CY;rw [if_pos hp,if_pos q2,←r1,←w1]) rfl rfl rfl rfl rfl rfl rfl rfl rfl rfl
       ·rw [q1] at c4
        cases c4
      ·cases c6
 ·have c1:s.m≤s.k:=by simpa using c1
  have h0:=hI.1
  exact ⟨rfl,by omega⟩
def JU:bK fH:=⟨0,129,[2,3,4,12,14,15,16,66,67,68],[],aC2,aB1,fun v b=>⟨aQ (.int .i64) (v.getD 0 .junk),aQ (.int .i64) (v.getD 1 .junk),gI (v.getD 3 .junk),gI (v.getD 5 .junk),uT (v.getD 6 .junk),aQ (.int .i64) (v.getD 7 .junk),gI (v.getD 8 .junk),gI (v.getD 9 .junk),aQ dU (aX (aO b 0) 0),aQ .str (aX (aO b 0) 1),aQ dW (aX (aO b 0) 2),aQ dM (aX (aO b 0) 3),aQ dX (aX (aO b 0) 4),aQ dU (aX (aO b 1) 0),aQ .str (aX (aO b 1) 1),aQ dW (aX (aO b 1) 2),aQ dM (aX (aO b 1) 3),aQ dX (aX (aO b 1) 4),aQ CQ (aX (aO b 1) 5),aQ (.int .i64) (aX (aO b 1) 6),aQ (.int .i64) (aX (aO b 1) 7),aQ (.int .i64) (aX (aO b 1) 8),aQ (.int .i64) (aX (aO b 1) 9),aQ (.int .i64) (aX (aO b 1) 10),aQ (.int .i64) (aX (aO b 1) 11),aQ (.int .i64) (aX (aO b 1) 12),aQ (.int .i64) (aX (aO b 1) 13),aQ (.int .i64) (aX (aO b 1) 14),aQ (.int .i64) (aX (aO b 1) 15),aQ (.int .i64) (aX (aO b 1) 16),aQ (.int .i64) (aX (aO b 1) 17),aQ (.int .i64) (aX (aO b 1) 18),aQ (.int .i64) (aX (aO b 1) 19),aQ (.int .i64) (aX (aO b 1) 20),aQ (.int .i64) (aX (aO b 1) 21),aQ (.int .i64) (aX (aO b 1) 23),iT (.int .i64) (aO b 2),iT (.int .i64) (aO b 3)⟩,Q7,fun s r=> {r with most:=s.most,order:=s.order,n:=s.n,level:=s.level,l:=s.l,m:=s.m,ah:=s.ah,aA:=s.aA,aj:=s.aj,ai:=s.ai,aJ:=s.aJ,yF:=s.yF,yD:=s.yD,yE:=s.yE,eX:=s.eX,yG:=s.yG,bG:=s.bG,jo:=s.jo,jm:=s.jm,jl:=s.jl,jk:=s.jk,ji:=s.ji,jh:=s.jh,jg:=s.jg,jf:=s.jf,je:=s.je,jd:=s.jd,dJ:=s.dJ,dI:=s.dI,dH:=s.dH,dG:=s.dG,dF:=s.dF,dD:=s.dD,bg:=s.bg},fun s=>s,fun _ s=>s,[.exit 2],NH,nO,vT⟩
abbrev eG:=JU.run
abbrev apf:=JU.jG
abbrev axS:=JU.q
set_option maxRecDepth 100000 in
set_option maxHeartbeats 4000000 in
theorem auw (s:fH) (hI:nO s):(Q7 s).all (fun _=>True):=by
 refine ⟨fun c1=>⟨?_,?_,?_,fun c2=>⟨⟨rfl,rfl⟩,⟨rfl,rfl⟩,trivial⟩,fun c2=>⟨?_,?_,?_,fun c3=>⟨⟨rfl,rfl⟩,⟨rfl,rfl⟩,trivial⟩,fun c3=>⟨?_,?_,?_,?_,?_,?_,?_,?_,⟨rfl,rfl⟩,⟨rfl,rfl⟩,?_,fun c4=>⟨fun c5=>⟨fun c6=>⟨⟨rfl,rfl⟩,⟨rfl,rfl⟩,trivial⟩,fun c6=>⟨⟨rfl,rfl⟩,⟨rfl,rfl⟩,trivial⟩⟩,fun c5=>⟨?_,⟨rfl,rfl⟩,⟨rfl,rfl⟩,?_,?_,?_,fun c7=>⟨⟨rfl,rfl⟩,?_,trivial⟩,fun c7=>⟨⟨rfl,rfl⟩,?_,trivial⟩⟩⟩,fun c4=>⟨fun c8=>⟨fun c9=>⟨⟨rfl,rfl⟩,⟨rfl,rfl⟩,trivial⟩,fun c9=>⟨⟨rfl,rfl⟩,⟨rfl,rfl⟩,trivial⟩⟩,fun c8=>⟨?_,⟨rfl,rfl⟩,⟨rfl,rfl⟩,?_,?_,?_,fun c10=>⟨⟨rfl,rfl⟩,?_,trivial⟩,fun c10=>⟨⟨rfl,rfl⟩,?_,trivial⟩⟩⟩⟩⟩⟩,fun c1=>⟨⟨rfl,rfl⟩,⟨rfl,rfl⟩,trivial⟩⟩
 ·(have:=hI.1;have:=hI.2.1.1;simp only [decide_eq_true_eq] at c1;omega)
 iterate 9 · (have hx:=uO s hI (by simpa using c1);omega)
 ·(have hx:=uO s hI (by simpa using c1);obtain ⟨w1,w2⟩:=Sm hI (sN hI c2);have hh:=dV.1 (hI.2.2.2.1.has _ hx.1);have hb:=hI.2.1;(first|rw [w2] |rw [w1]);omega)
 ·(have hx:=uO s hI (by simpa using c1);omega)
 ·(have hx:=uO s hI (by simpa using c1);obtain ⟨w1,w2⟩:=Sm hI (sN hI c2);have hh:=dV.1 (hI.2.2.2.1.has _ hx.1);have hb:=hI.2.1;(first|rw [w2] |rw [w1]);omega)
 ·(have hx:=uO s hI (by simpa using c1);omega)
 ·exact ⟨tZ hI (by simpa using c1) (sN hI c2),rfl,rfl⟩
 ·(have hx:=uO s hI (by simpa using c1);omega)
 ·exact ⟨N9 hI (by simpa using c1) (sN hI c2),rfl,rfl⟩
 iterate 2 · (have hx:=uO s hI (by simpa using c1);omega)
 iterate 2 · exact ⟨rfl,by simp⟩
 ·(have hx:=uO s hI (by simpa using c1);omega)
 ·exact ⟨N9 hI (by simpa using c1) (sN hI c2),rfl,rfl⟩
 iterate 2 · (have hx:=uO s hI (by simpa using c1);omega)
 iterate 2 · exact ⟨rfl,by simp⟩
noncomputable def aaT:Specs:=bf [(24,lg),(61,nY),(94,qH),(96,qG)]
theorem aiH:∀g S,aaT g=some S→Valid Tryz.prog aS g S:=aT (l:=[(24,lg),(61,nY),(94,qH),(96,qG)]) ⟨yC,CO,Gw,Gv,trivial⟩
noncomputable def aq8:Hand:=inl Tryz.prog aS aaT (kD 97 4 8 (QI.lp) (kD 93 7 2 (yx.lp) (kD 95 1 3 (wO.lp) (kD 93 1 2 (ve.lp) (lX Tryz.prog aS (aaT) 20 2))))) 9
theorem aAH:dL Tryz.prog aS aq8:=bQ aiH (dK Tryz.func97 rfl (by kernel_rfl) VJ (dK Tryz.func93 rfl (by kernel_rfl) FT (dK Tryz.func95 rfl (by kernel_rfl) zq (dK Tryz.func93 rfl (by kernel_rfl) wP (dQ aiH))))) 9
theorem Wn:JU.Ok:=⟨fun s=>by kernel_rfl,fun s=>by kernel_rfl,fun s=>rfl,fun s t r=>rfl,fun s=>rfl,fun s=>by kernel_rfl⟩
theorem VT:JU.Pf (ac9):=⟨azp,fun _ _=>rfl,aub,auw⟩
set_option maxRecDepth 100000 in
set_option maxHeartbeats 4000000 in
theorem alV:bn Tryz.prog aS (AN 0) (.loop AA) JU.lp:=bK.snd Wn VT (aP (Γ:=aaT) (K:=aq8) (L:=aC) aiH aAH AA (fun b hb=>by rw [show aB AA=[] by kernel_rfl] at hb;cases hb)) (fun s=>by kernel_rfl)
theorem amQ (s:fH) (hE:NH s):∃s',nO s'∧ac9 (apf s) s' (eG s):=bK.fin Wn VT s hE
theorem afg (s:fH) (hE:NH s):(fun s:fH=>swp (gV s) s.bG s.eX s.bg s.most s.level (s.sums,s.levels,s.some) (s.l.drop s.k.toNat)) (eG s)=(fun s:fH=>swp (gV s) s.bG s.eX s.bg s.most s.level (s.sums,s.levels,s.some) (s.l.drop s.k.toNat)) s:=by
 exact bK.uS Wn VT (fun s:fH=>swp (gV s) s.bG s.eX s.bg s.most s.level (s.sums,s.levels,s.some) (s.l.drop s.k.toNat)) (fun s hI=>by
  show bJ _ _ (aa0 s)
  unfold aa0 Q7
  dsimp only [T.rd,T.rl]
  refine au (fun c1=>?_) (fun c1=>?_)
  ·refine au (fun c2=>?_) (fun c2=>?_)
   ·have c1:s.k<s.m:=by simpa using c1
    have hn:¬(s.levels.getD (gi s.l s.k).toNat 0=s.level-1∧s.level≤xW s.eX (gi s.l s.k) (gi s.most (gi s.l s.k))):=fun h=>by
     obtain ⟨_,⟨h2,h3,h4,h5⟩,_⟩:=hI
     have c2:((s.levels.getD (gi s.l s.k).toNat 0) !=(IntKind.i64.wrap (s.level-1)))=true:=c2
     rw [aK (x:=s.level-1) (by omega) (by omega)] at c2
     have c2:¬s.levels.getD (gi s.l s.k).toNat 0=s.level-1:=by simpa using c2
     exact c2 h.1
    exact FU s _ hI (by simpa using c1) (by unfold CY;rw [if_neg hn]) rfl rfl rfl rfl rfl rfl rfl rfl rfl rfl
   ·refine au (fun c3=>?_) (fun c3=>?_)
    ·have c1:s.k<s.m:=by simpa using c1
     have hn:¬(s.levels.getD (gi s.l s.k).toNat 0=s.level-1∧s.level≤xW s.eX (gi s.l s.k) (gi s.most (gi s.l s.k))):=fun h=>by
      obtain ⟨_,_,h6,_⟩:=hI
      simp only [decide_eq_true_eq] at c3
      rw [←h6] at c3
      have:=h.2
      unfold xW at this
      omega
     exact FU s _ hI (by simpa using c1) (by unfold CY;rw [if_neg hn]) rfl rfl rfl rfl rfl rfl rfl rfl rfl rfl
    ·refine au (fun c4=>?_) (fun c4=>?_)
     ·refine au (fun c5=>?_) (fun c5=>?_)
      ·refine au (fun c6=>?_) (fun c6=>?_)
       ·cases c6
       ·have c1:s.k<s.m:=by simpa using c1
        have c2:=sN hI c2
        have hp:s.levels.getD (gi s.l s.k).toNat 0=s.level-1∧s.level≤xW s.eX (gi s.l s.k) (gi s.most (gi s.l s.k)):=by
         refine ⟨c2,?_⟩
         have h6:=hI.2.2.1
         simp only [decide_eq_false_iff_not] at c3
         rw [←h6] at c3
         unfold xW
         omega
        have hE:=tZ hI c1 c2
        obtain ⟨m1,m2,_⟩:=kF hI c1 c2
        rcases rH _ hE with ⟨q1,q2⟩ |⟨q1,q2,q3⟩
        ·rw [q1] at c4
         cases c4
        ·rw [m1] at q3
         have q3:((gV s).getD (gi s.l s.k).toNat []).all (Ad s.bG s.sums (KT s.eX s.bg (gi s.l s.k) s.level))=false:=q3
         exact FU s _ hI (by simpa using c1) (by unfold CY;rw [if_pos hp,if_neg (by rw [q3];simp)]) rfl rfl rfl rfl rfl rfl rfl rfl rfl rfl
      ·refine au (fun c6=>?_) (fun c6=>?_)
       ·have c1:s.k<s.m:=by simpa using c1
        have c2:=sN hI c2
        have hp:s.levels.getD (gi s.l s.k).toNat 0=s.level-1∧s.level≤xW s.eX (gi s.l s.k) (gi s.most (gi s.l s.k)):=by
         refine ⟨c2,?_⟩
         have h6:=hI.2.2.1
         simp only [decide_eq_false_iff_not] at c3
         rw [←h6] at c3
         unfold xW
         omega
        have hE:=tZ hI c1 c2
        obtain ⟨m1,m2,_⟩:=kF hI c1 c2
        rcases rH _ hE with ⟨q1,q2⟩ |⟨q1,q2,q3⟩
        ·rw [q1] at c4
         cases c4
        ·rw [q2] at c5
         cases c5
       ·have c1:s.k<s.m:=by simpa using c1
        have c2:=sN hI c2
        have hp:s.levels.getD (gi s.l s.k).toNat 0=s.level-1∧s.level≤xW s.eX (gi s.l s.k) (gi s.most (gi s.l s.k)):=by
         refine ⟨c2,?_⟩
         have h6:=hI.2.2.1
         simp only [decide_eq_false_iff_not] at c3
         rw [←h6] at c3
         unfold xW
         omega
        have hE:=tZ hI c1 c2
        obtain ⟨m1,m2,_⟩:=kF hI c1 c2
        rcases rH _ hE with ⟨q1,q2⟩ |⟨q1,q2,q3⟩
        ·rw [q1] at c4
         cases c4
        ·rw [q2] at c5
         cases c5
     ·refine au (fun c5=>?_) (fun c5=>?_)
      ·refine au (fun c6=>?_) (fun c6=>?_)
       ·cases c5
       ·cases c5
      ·refine au (fun c6=>?_) (fun c6=>?_)
       ·have c1:s.k<s.m:=by simpa using c1
        have c2:=sN hI c2
        have hp:s.levels.getD (gi s.l s.k).toNat 0=s.level-1∧s.level≤xW s.eX (gi s.l s.k) (gi s.most (gi s.l s.k)):=by
         refine ⟨c2,?_⟩
         have h6:=hI.2.2.1
         simp only [decide_eq_false_iff_not] at c3
         rw [←h6] at c3
         unfold xW
         omega
        have hE:=tZ hI c1 c2
        obtain ⟨m1,m2,_⟩:=kF hI c1 c2
        have hR:=N9 hI c1 c2
        rcases rH _ hE with ⟨q1,q2⟩ |⟨q1,q2,q3⟩
        ·rw [m1] at q2
         have q2:((gV s).getD (gi s.l s.k).toNat []).all (Ad s.bG s.sums (KT s.eX s.bg (gi s.l s.k) s.level))=true:=q2
         have r1:=afp _ hR
         rw [m2] at r1
         have r1:(kz (lY s)).sums=yY s.sums (KT s.eX s.bg (gi s.l s.k) s.level) ((gV s).getD (gi s.l s.k).toNat []):=r1
         have w1:=(Sm hI c2).1
         exact FU s _ hI (by simpa using c1) (by unfold CY;rw [if_pos hp,if_pos q2,←r1,←w1]) rfl rfl rfl rfl rfl rfl rfl rfl rfl rfl
        ·rw [q1] at c4
         cases c4
       ·cases c6
  ·rfl) s hE
theorem amP (s:fH) (hE:NH s):((eG s).sums,(eG s).levels,(eG s).some)=swp (gV s) s.bG s.eX s.bg s.most s.level (s.sums,s.levels,s.some) s.l:=by
 have q3:=afg s hE
 obtain ⟨s',hI,q1,q2⟩:=amQ s hE
 obtain ⟨h0,h1,_⟩:=hE
 simp only at q3
 rw [q2,show (eG s).m=s.m from rfl,show (eG s).l=s.l from rfl,List.drop_eq_nil_of_le (by omega),h0] at q3
 exact q3
end Go.Proofs.YtlihnbimgclogaaGreatDoor
namespace Go.Proofs.YtlihnbimgclogaaGreatDoor
open Go.Sx
structure lG where
 most:List Int
 order:List Int
 n:Int
 level:Int
 ah:List Cd
 aA:List ByteArray
 aj:List Ko
 ai:List Ch
 aJ:List Ba
 yF:List Cd
 yD:List ByteArray
 yE:List Ko
 eX:List Ch
 yG:List Ba
 bG:List Rw
 jo:List Int
 jm:List Int
 jl:List Int
 jk:List Int
 ji:List Int
 jh:List Int
 jg:List Int
 jf:List Int
 je:List Int
 jd:List Int
 dJ:List Int
 dI:List Int
 dH:List Int
 dG:List Int
 dF:List Int
 dD:List Int
 bg:List Int
 sums:List Int
 levels:List Int
def aC1 (s:lG):List LV:=[.xl (.int .i64) s.most,.xl (.int .i64) s.order,.own 0 0,.v (.int .i64 s.n),.own 1 0,.v (.int .i64 s.level)]
def aB0 (s:lG):List aU:=[⟨[.xl dU s.ah,.xl .str s.aA,.xl dW s.aj,.xl dM s.ai,.xl dX s.aJ],28,.cl,false⟩,⟨[.xl dU s.yF,.xl .str s.yD,.xl dW s.yE,.xl dM s.eX,.xl dX s.yG,.xl CQ s.bG,.xl (.int .i64) s.jo,.xl (.int .i64) s.jm,.xl (.int .i64) s.jl,.xl (.int .i64) s.jk,.xl (.int .i64) s.ji,.xl (.int .i64) s.jh,.xl (.int .i64) s.jg,.xl (.int .i64) s.jf,.xl (.int .i64) s.je,.xl (.int .i64) s.jd,.xl (.int .i64) s.dJ,.xl (.int .i64) s.dI,.xl (.int .i64) s.dH,.xl (.int .i64) s.dG,.xl (.int .i64) s.dF,.xl (.int .i64) s.dD,.os 2 1 0 (List.length s.sums),.xl (.int .i64) s.bg,.os 3 1 0 (List.length s.levels)],148,.cl,false⟩,⟨[],3,.vec (.int .i64) s.sums,false⟩,⟨[],3,.vec (.int .i64) s.levels,false⟩]
noncomputable def Jb:Code:=((aB (Tryz.f52.body.getD .skip))[0]?).getD .skip
def gm (s:lG):fH:=(⟨s.most,s.order,s.n,s.level,false,s.order,(List.length s.order:Int),(0:Int),s.ah,s.aA,s.aj,s.ai,s.aJ,s.yF,s.yD,s.yE,s.eX,s.yG,s.bG,s.jo,s.jm,s.jl,s.jk,s.ji,s.jh,s.jg,s.jf,s.je,s.jd,s.dJ,s.dI,s.dH,s.dG,s.dF,s.dD,s.bg,s.sums,s.levels⟩:fH)
def Q5 (s:lG):T (Rd lG):=
 .rl s.sums (.rl s.levels (.req (axS (gm s)) (.br (!(eG (gm s)).some) (.rl (eG (gm s)).sums (.rl (eG (gm s)).levels (.ok (.stop (.exit 0) {s with sums:=(eG (gm s)).sums,levels:=(eG (gm s)).levels})))) (.rl (eG (gm s)).sums (.rl (eG (gm s)).levels (.ok (.next {s with level:=(IntKind.i64.wrap (s.level+1)),sums:=(eG (gm s)).sums,levels:=(eG (gm s)).levels})))))))
abbrev aaZ (s:lG):=(Q5 s).rd s
def tC (s:lG):List (List Int):=[s.jo,s.jm,s.jl,s.jk,s.ji,s.jh,s.jg,s.jf,s.je,s.jd,s.dJ,s.dI,s.dH,s.dG,s.dF,s.dD]
def adm (s:lG):Prop:=s.level=1∧(s.order.length:Int)≤1000∧s.eX=s.ai∧OkT (tC s) s.bG s.eX s.bg s.most s.order∧OkS s.bG s.order s.sums s.levels
def Jy (s:lG):Prop:=(1≤s.level∧s.level≤81)∧(s.order.length:Int)≤1000∧s.eX=s.ai∧OkT (tC s) s.bG s.eX s.bg s.most s.order∧OkS s.bG s.order s.sums s.levels
def OB (s:lG):Nat:=(82-s.level).toNat
def asz (x:Ex) (_ _:lG):Prop:=x=.exit 0
theorem azo:∀s,adm s→Jy s:=by
 intro s h
 obtain ⟨h0,h1⟩:=h
 exact ⟨by omega,h1⟩
theorem afd (s:lG) (hI:Jy s):NH (gm s):=by
 obtain ⟨⟨h0,h1⟩,h2,h3,hT,hS⟩:=hI
 exact ⟨rfl,⟨rfl,h2,h0,h1⟩,h3,hT,hS⟩
theorem aqv (s:lG) (hI:Jy s):((eG (gm s)).sums,(eG (gm s)).levels,(eG (gm s)).some)=swp (tC s) s.bG s.eX s.bg s.most s.level (s.sums,s.levels,false) s.order:=amP _ (afd s hI)
theorem aua (s:lG) (hI:Jy s):bJ (fun s'=>Jy s'∧OB s'<OB s) (fun x s'=>asz x s s') (aaZ s):=by
 unfold aaZ Q5
 dsimp only [T.rd,T.rl]
 have hr:=aqv s hI
 obtain ⟨⟨h0,h1⟩,h2,h3,hT,hS⟩:=hI
 refine au (fun c1=>rfl) (fun c1=>?_)
 have c1:(eG (gm s)).some=true:=by simpa using c1
 have hk:=VH hT h0 h1 s.order (s.sums,s.levels,false) (fun _ h=>h) hS
 have hs:=zo (O:=tC s) (rows:=s.bG) (gs:=s.eX) (alive:=s.bg) (most:=s.most) (level:=s.level) s.order (s.sums,s.levels,false)
 rw [←hr] at hk hs
 have h80:s.level≤80:=by
  rcases hs c1 with h|h
  ·cases h
  ·exact h
 rw [aK (x:=s.level+1) (by omega) (by omega)]
 exact ⟨⟨⟨by simp only;omega,by simp only;omega⟩,h2,h3,hT,hk⟩,by simp only [OB];omega⟩
def JS:bK lG:=⟨0,129,[2,3,4,12,14,15],[.ps 14 6 (.int .i64),.ps 14 7 (.int .i64),.ps 14 8 (.int .i64),.ps 14 9 (.int .i64),.ps 14 10 (.int .i64),.ps 14 11 (.int .i64),.ps 14 12 (.int .i64),.ps 14 13 (.int .i64),.ps 14 14 (.int .i64),.ps 14 15 (.int .i64),.ps 14 16 (.int .i64),.ps 14 17 (.int .i64),.ps 14 18 (.int .i64),.ps 14 19 (.int .i64),.ps 14 20 (.int .i64),.ps 14 21 (.int .i64)],aC1,aB0,fun v b=>⟨aQ (.int .i64) (v.getD 0 .junk),aQ (.int .i64) (v.getD 1 .junk),gI (v.getD 3 .junk),gI (v.getD 5 .junk),aQ dU (aX (aO b 0) 0),aQ .str (aX (aO b 0) 1),aQ dW (aX (aO b 0) 2),aQ dM (aX (aO b 0) 3),aQ dX (aX (aO b 0) 4),aQ dU (aX (aO b 1) 0),aQ .str (aX (aO b 1) 1),aQ dW (aX (aO b 1) 2),aQ dM (aX (aO b 1) 3),aQ dX (aX (aO b 1) 4),aQ CQ (aX (aO b 1) 5),aQ (.int .i64) (aX (aO b 1) 6),aQ (.int .i64) (aX (aO b 1) 7),aQ (.int .i64) (aX (aO b 1) 8),aQ (.int .i64) (aX (aO b 1) 9),aQ (.int .i64) (aX (aO b 1) 10),aQ (.int .i64) (aX (aO b 1) 11),aQ (.int .i64) (aX (aO b 1) 12),aQ (.int .i64) (aX (aO b 1) 13),aQ (.int .i64) (aX (aO b 1) 14),aQ (.int .i64) (aX (aO b 1) 15),aQ (.int .i64) (aX (aO b 1) 16),aQ (.int .i64) (aX (aO b 1) 17),aQ (.int .i64) (aX (aO b 1) 18),aQ (.int .i64) (aX (aO b 1) 19),aQ (.int .i64) (aX (aO b 1) 20),aQ (.int .i64) (aX (aO b 1) 21),aQ (.int .i64) (aX (aO b 1) 23),iT (.int .i64) (aO b 2),iT (.int .i64) (aO b 3)⟩,Q5,fun s r=> {r with most:=s.most,order:=s.order,n:=s.n,ah:=s.ah,aA:=s.aA,aj:=s.aj,ai:=s.ai,aJ:=s.aJ,yF:=s.yF,yD:=s.yD,yE:=s.yE,eX:=s.eX,yG:=s.yG,bG:=s.bG,jo:=s.jo,jm:=s.jm,jl:=s.jl,jk:=s.jk,ji:=s.ji,jh:=s.jh,jg:=s.jg,jf:=s.jf,je:=s.je,jd:=s.jd,dJ:=s.dJ,dI:=s.dI,dH:=s.dH,dG:=s.dG,dF:=s.dF,dD:=s.dD,bg:=s.bg},fun s=>s,fun _ s=>s,[.exit 0],adm,Jy,OB⟩
abbrev iJ:=JS.run
abbrev QG:=JS.q
theorem auv (s:lG) (hI:Jy s):(Q5 s).all (fun _=>True):=by
 refine ⟨⟨rfl,rfl⟩,⟨rfl,rfl⟩,?_,fun c1=>⟨⟨rfl,rfl⟩,⟨rfl,rfl⟩,trivial⟩,fun c1=>⟨⟨rfl,rfl⟩,⟨rfl,rfl⟩,trivial⟩⟩
 ·exact ⟨afd s hI,rfl,rfl⟩
noncomputable def TK:Specs:=bf [(24,lg),(61,nY),(94,qH),(96,qG)]
theorem aaP:∀g S,TK g=some S→Valid Tryz.prog aS g S:=aT (l:=[(24,lg),(61,nY),(94,qH),(96,qG)]) ⟨yC,CO,Gw,Gv,trivial⟩
noncomputable def aiw:Hand:=inl Tryz.prog aS TK (kD 97 4 8 (QI.lp) (kD 93 7 2 (yx.lp) (kD 95 1 3 (wO.lp) (kD 93 1 2 (ve.lp) (lX Tryz.prog aS (TK) 20 2))))) 9
theorem aqW:dL Tryz.prog aS aiw:=bQ aaP (dK Tryz.func97 rfl (by kernel_rfl) VJ (dK Tryz.func93 rfl (by kernel_rfl) FT (dK Tryz.func95 rfl (by kernel_rfl) zq (dK Tryz.func93 rfl (by kernel_rfl) wP (dQ aaP))))) 9
theorem agS:JS.Ok:=⟨fun s=>by kernel_rfl,fun s=>by kernel_rfl,fun s=>rfl,fun s t r=>rfl,fun s=>rfl,fun s=>by kernel_rfl⟩
theorem afK:JS.Pf (asz):=⟨azo,fun _ _=>rfl,aua,auv⟩
theorem alU:bn Tryz.prog aS (AN 0) (.loop Jb) JS.lp:=bK.snd agS afK (aP (Γ:=TK) (K:=aiw) (L:=(fun i=>if i=13 then JU.lp else aC i)) aaP aqW Jb (fun b hb=>by
 rw [show aB _=[AA] by kernel_rfl] at hb
 simp only [List.mem_cons,List.not_mem_nil,or_false] at hb
 subst hb
 exact alV)) (fun s=>by kernel_rfl)
theorem amO (s:lG) (hE:adm s):(iJ s).levels=shl (tC s) s.bG s.eX s.bg s.most s.order 81 1 s.sums s.levels:=by
 have hk:=bK.wu agS afK (V:=fun s:lG=>shl (tC s) s.bG s.eX s.bg s.most s.order (82-s.level).toNat s.level s.sums s.levels) (K:=fun _ s' v=>s'.levels=v) (fun s hI=>by
  have hr:=aqv s hI
  have hs:=zo (O:=tC s) (rows:=s.bG) (gs:=s.eX) (alive:=s.bg) (most:=s.most) (level:=s.level) s.order (s.sums,s.levels,false)
  obtain ⟨⟨h0,h1⟩,h2,h3,hT,hS⟩:=hI
  rw [←hr] at hs
  have hf:(82-s.level).toNat=(81-s.level).toNat+1:=by omega
  show bJ _ _ (aaZ s)
  unfold aaZ Q5
  dsimp only [T.rd,T.rl]
  refine au (fun c1=>?_) (fun c1=>?_)
  ·have c1:(eG (gm s)).some=false:=by simpa using c1
   show (eG (gm s)).levels=shl _ _ _ _ _ _ _ _ _ _
   rw [hf,shl,←hr,if_neg (by simp only [c1];simp)]
  ·have c1:(eG (gm s)).some=true:=by simpa using c1
   have h80:s.level≤80:=by
    rcases hs c1 with h|h
    ·cases h
    ·exact h
   rw [aK (x:=s.level+1) (by omega) (by omega)]
   show shl (tC s) s.bG s.eX s.bg s.most s.order (82-(s.level+1)).toNat (s.level+1) (eG (gm s)).sums (eG (gm s)).levels=shl (tC s) s.bG s.eX s.bg s.most s.order (82-s.level).toNat s.level s.sums s.levels
   rw [hf,show 82-(s.level+1)=81-s.level by omega]
   conv=>rhs;rw [shl,←hr]
   simp only [c1,if_true]) s hE
 rw [hk,hE.1]
 rfl
structure qI where
 l:List Ch
 m:Int
 k:Int
 yF:List Cd
 yD:List ByteArray
 yE:List Ko
 eX:List Ch
 yG:List Ba
 bG:List Rw
 jo:List Int
 jm:List Int
 jl:List Int
 jk:List Int
 ji:List Int
 jh:List Int
 jg:List Int
 jf:List Int
 je:List Int
 jd:List Int
 dJ:List Int
 dI:List Int
 dH:List Int
 dG:List Int
 dF:List Int
 dD:List Int
 bg:List Int
 out:List Int
 sums:List Int
 levels:List Int
def aC0 (s:qI):List LV:=[.own 0 0,.os 1 1 0 (List.length s.out),.xl dM s.l,.v (.int .i64 s.m),.v (.int .i64 s.k)]
def aBZ (s:qI):List aU:=[⟨[.xl dU s.yF,.xl .str s.yD,.xl dW s.yE,.xl dM s.eX,.xl dX s.yG,.xl CQ s.bG,.xl (.int .i64) s.jo,.xl (.int .i64) s.jm,.xl (.int .i64) s.jl,.xl (.int .i64) s.jk,.xl (.int .i64) s.ji,.xl (.int .i64) s.jh,.xl (.int .i64) s.jg,.xl (.int .i64) s.jf,.xl (.int .i64) s.je,.xl (.int .i64) s.jd,.xl (.int .i64) s.dJ,.xl (.int .i64) s.dI,.xl (.int .i64) s.dH,.xl (.int .i64) s.dG,.xl (.int .i64) s.dF,.xl (.int .i64) s.dD,.os 2 1 0 (List.length s.sums),.xl (.int .i64) s.bg,.os 3 1 0 (List.length s.levels)],148,.cl,false⟩,⟨[],3,.vec (.int .i64) s.out,false⟩,⟨[],3,.vec (.int .i64) s.sums,false⟩,⟨[],3,.vec (.int .i64) s.levels,false⟩]
noncomputable def Az:Code:=((aB (Tryz.f52.body.getD .skip))[1]?).getD .skip
def Y8 (s:qI):T (Rd qI):=
 .br (decide (s.k<s.m)) (.req (0≤s.k∧s.k<(List.length s.l:Int)) (.req (0≤s.k∧s.k<((List.length s.levels:Nat):Int)) (.req (s.k.toNat<List.length s.levels) (.req ((1≤(aW s.l s.k).2.2.2.1∧(aW s.l s.k).2.2.2.1≤80∧1≤(aW s.l s.k).2.2.2.2.2.1∧(aW s.l s.k).2.2.2.2.2.1≤80)∧0≤(s.levels.getD s.k.toNat (Ty.dflt (.int .i64)))∧(s.levels.getD s.k.toNat (Ty.dflt (.int .i64)))≤1000) (.req (0≤s.k∧s.k<((List.length s.out:Nat):Int)) (.req (s.k.toNat<List.length s.out) (.req (0=0∧(List.length s.out)=List.length (s.out.set s.k.toNat (BX (aW s.l s.k).2.2.2.1 (aW s.l s.k).2.2.2.2.2.1 (s.levels.getD s.k.toNat (Ty.dflt (.int .i64)))))) (.rl s.sums (.rl s.levels (.ok (.next {s with k:=(IntKind.i64.wrap (s.k+1)),out:=(s.out.set s.k.toNat (BX (aW s.l s.k).2.2.2.1 (aW s.l s.k).2.2.2.2.2.1 (s.levels.getD s.k.toNat (Ty.dflt (.int .i64)))))}))))))))))) (.rl s.out (.rl s.sums (.rl s.levels (.ok (.stop (.exit 4) s)))))
abbrev arT (s:qI):=(Y8 s).rd s
def adl (s:qI):Prop:=s.k=0∧s.out=List.replicate s.l.length 0∧(s.m=(s.l.length:Int)∧s.m≤1000∧s.levels.length=s.l.length)∧(∀k:Int,0≤k→k<s.m→kC (aW s.l k).2.2.2.1 (aW s.l k).2.2.2.2.1 (aW s.l k).2.2.2.2.2.1=true)∧(∀k:Nat,0≤s.levels.getD k 0∧s.levels.getD k 0≤80)
def MF (s:qI):Prop:=(0≤s.k∧s.k≤s.m)∧s.out=XL s.l s.levels s.k.toNat++List.replicate (s.l.length-s.k.toNat) 0∧(s.m=(s.l.length:Int)∧s.m≤1000∧s.levels.length=s.l.length)∧(∀k:Int,0≤k→k<s.m→kC (aW s.l k).2.2.2.1 (aW s.l k).2.2.2.2.1 (aW s.l k).2.2.2.2.2.1=true)∧(∀k:Nat,0≤s.levels.getD k 0∧s.levels.getD k 0≤80)
def OA (s:qI):Nat:=(s.m-s.k).toNat
def akf (x:Ex) (_ s':qI):Prop:=x=.exit 4∧s'.out=kZ s'.l s'.levels
theorem azn:∀s,adl s→MF s:=by
 intro s h
 obtain ⟨h0,h1,h2⟩:=h
 exact ⟨by have:=h2.1;omega,by rw [h0,h1];rfl,h2⟩
theorem at7 (s:qI) (hI:MF s):bJ (fun s'=>MF s'∧OA s'<OA s) (fun x s'=>akf x s s') (arT s):=by
 unfold arT Y8
 dsimp only [T.rd,T.rl]
 obtain ⟨⟨h0,h1⟩,h2,⟨h3,h4,h5⟩,h6,h7⟩:=hI
 refine au (fun c1=>?_) (fun c1=>?_)
 ·have c1:s.k<s.m:=by simpa using c1
  rw [aK (x:=s.k+1) (by omega) (by omega)]
  refine ⟨⟨⟨by simp only;omega,by simp only;omega⟩,?_,⟨h3,h4,h5⟩,h6,h7⟩,by simp only [OA];omega⟩
  simp only
  have e:s.l.length-s.k.toNat=(s.l.length-(s.k+1).toNat)+1:=by omega
  have hs:=ZM (xs:=XL s.l s.levels s.k.toNat) (r:=s.l.length-(s.k+1).toNat) (v:=uX s.l s.k (s.levels.getD s.k.toNat 0))
  rw [wE] at hs
  rw [h2,e,show (s.k+1).toNat=s.k.toNat+1 by omega,aev,Int.toNat_of_nonneg h0]
  rw [show (s.k+1).toNat=s.k.toNat+1 by omega] at hs
  exact hs
 ·have c1:s.m≤s.k:=by simpa using c1
  refine ⟨rfl,?_⟩
  rw [h2,show s.k.toNat=s.l.length by omega,Nat.sub_self,List.replicate_zero,List.append_nil]
  rfl
def Ew:bK qI:=⟨0,129,[14,19,108,109,110],[],aC0,aBZ,fun v b=>⟨aQ dM (v.getD 2 .junk),gI (v.getD 3 .junk),gI (v.getD 4 .junk),aQ dU (aX (aO b 0) 0),aQ .str (aX (aO b 0) 1),aQ dW (aX (aO b 0) 2),aQ dM (aX (aO b 0) 3),aQ dX (aX (aO b 0) 4),aQ CQ (aX (aO b 0) 5),aQ (.int .i64) (aX (aO b 0) 6),aQ (.int .i64) (aX (aO b 0) 7),aQ (.int .i64) (aX (aO b 0) 8),aQ (.int .i64) (aX (aO b 0) 9),aQ (.int .i64) (aX (aO b 0) 10),aQ (.int .i64) (aX (aO b 0) 11),aQ (.int .i64) (aX (aO b 0) 12),aQ (.int .i64) (aX (aO b 0) 13),aQ (.int .i64) (aX (aO b 0) 14),aQ (.int .i64) (aX (aO b 0) 15),aQ (.int .i64) (aX (aO b 0) 16),aQ (.int .i64) (aX (aO b 0) 17),aQ (.int .i64) (aX (aO b 0) 18),aQ (.int .i64) (aX (aO b 0) 19),aQ (.int .i64) (aX (aO b 0) 20),aQ (.int .i64) (aX (aO b 0) 21),aQ (.int .i64) (aX (aO b 0) 23),iT (.int .i64) (aO b 1),iT (.int .i64) (aO b 2),iT (.int .i64) (aO b 3)⟩,Y8,fun s r=> {r with l:=s.l,m:=s.m,yF:=s.yF,yD:=s.yD,yE:=s.yE,eX:=s.eX,yG:=s.yG,bG:=s.bG,jo:=s.jo,jm:=s.jm,jl:=s.jl,jk:=s.jk,ji:=s.ji,jh:=s.jh,jg:=s.jg,jf:=s.jf,je:=s.je,jd:=s.jd,dJ:=s.dJ,dI:=s.dI,dH:=s.dH,dG:=s.dG,dF:=s.dF,dD:=s.dD,bg:=s.bg,sums:=s.sums,levels:=s.levels},fun s=>s,fun _ s=>s,[.exit 4],adl,MF,OA⟩
abbrev gY:=Ew.run
abbrev ape:=Ew.jG
abbrev QF:=Ew.q
theorem auu (s:qI) (hI:MF s):(Y8 s).all (fun _=>True):=by
 refine ⟨fun c1=>⟨?_,?_,?_,?_,?_,?_,?_,⟨rfl,rfl⟩,⟨rfl,rfl⟩,trivial⟩,fun c1=>⟨⟨rfl,rfl⟩,⟨rfl,rfl⟩,⟨rfl,rfl⟩,trivial⟩⟩
 iterate 3 · (obtain ⟨⟨h0,h1⟩,h2,⟨h3,h4,h5⟩,h6,h7⟩:=hI;(try simp only [decide_eq_true_eq] at c1);have hl:s.out.length=s.l.length:=(by rw [h2,List.length_append,wE,List.length_replicate];omega);first|omega|exact ⟨rfl,by simp⟩ |exact ⟨rfl,rfl⟩)
 ·(have hh:=dV.1 (hI.2.2.2.1 s.k hI.1.1 (by simpa using c1));have hb:=hI.2.2.2.2 s.k.toNat;refine ⟨by omega,?_⟩;show 0≤s.levels.getD s.k.toNat 0∧s.levels.getD s.k.toNat 0≤1000;omega)
 iterate 3 · (obtain ⟨⟨h0,h1⟩,h2,⟨h3,h4,h5⟩,h6,h7⟩:=hI;(try simp only [decide_eq_true_eq] at c1);have hl:s.out.length=s.l.length:=(by rw [h2,List.length_append,wE,List.length_replicate];omega);first|omega|exact ⟨rfl,by simp⟩ |exact ⟨rfl,rfl⟩)
theorem agR:Ew.Ok:=⟨fun s=>by kernel_rfl,fun s=>by kernel_rfl,fun s=>rfl,fun s t r=>rfl,fun s=>rfl,fun s=>by kernel_rfl⟩
theorem afJ:Ew.Pf (akf):=⟨azn,fun _ _=>rfl,at7,auu⟩
theorem alT:bn Tryz.prog aS (AN 0) (.loop Az) Ew.lp:=bK.snd agR afJ (aP (Γ:=TK) (K:=aiw) (L:=aC) aaP aqW Az (fun b hb=>by rw [show aB Az=[] by kernel_rfl] at hb;cases hb)) (fun s=>by kernel_rfl)
theorem amN (s:qI) (hE:adl s):∃s',MF s'∧akf (ape s) s' (gY s):=bK.fin agR afJ s hE
end Go.Proofs.YtlihnbimgclogaaGreatDoor
namespace Go.Proofs.YtlihnbimgclogaaGreatDoor
open Go.Sx
def acf:List LV→T LV
 | [.agg [.xl (.pair .str (.pair (.int .i64) (.pair (.int .i64) (.pair (.int .i64) (.pair (.pair (.int .i64) (.int .i64)) (.pair (.int .i64) (.pair (.int .i64) (.pair (.int .i64) (.pair (.int .i64) (.int .i64)))))))))) cs,.xl (.str) os,.xl (.pair .str (.pair (.int .i64) (.pair (.int .i64) (.int .i64)))) ks,.xl (.pair .str (.pair (.int .i64) (.pair (.int .i64) (.pair (.int .i64) (.pair (.int .i64) (.pair (.int .i64) (.pair (.int .i64) (.int .i64)))))))) gs,.xl (.pair .str (.int .i64)) bs],.xl (.int .i64) al,.xl (.int .i64) mo,.xl (.int .i64) od]=> .ok (.iD [.xl (.int .i64) (xR cs os ks gs bs al mo od),.v (.int .i64 (shE cs os ks gs bs al mo od))])
 |_=> .no
noncomputable def y5:List LV→T LV:=gJ Tryz.prog Tryz.f52.params.toList acf
def ay (cs:List Cd) (os:List ByteArray) (ks:List Ko) (gs:List Ch) (bs:List Ba) (al _ _:List Int):gW:=(⟨al,(gQ cs os ks gs bs),(List.length (gQ cs os ks gs bs):Int),(0:Int),cs,os,ks,gs,bs,cs,os,ks,gs,bs,(gQ cs os ks gs bs),al,([]:List Int),([]:List Int),([]:List Int),([]:List Int),([]:List Int),([]:List Int),([]:List Int),([]:List Int),([]:List Int),([]:List Int),([]:List Int),([]:List Int),([]:List Int),([]:List Int),([]:List Int),([]:List Int),(List.replicate (List.length (gQ cs os ks gs bs):Int).toNat (0:Int)),(List.replicate (List.length al:Int).toNat (0:Int))⟩:gW)
def eY (cs:List Cd) (os:List ByteArray) (ks:List Ko) (gs:List Ch) (bs:List Ba) (al mo od:List Int):lG:=(⟨mo,od,(List.length gs:Int),(1:Int),cs,os,ks,gs,bs,cs,os,ks,gs,bs,(gQ cs os ks gs bs),(((ax (ay cs os ks gs bs al mo od)).jo.drop 0).take (List.length (ax (ay cs os ks gs bs al mo od)).jo)),(((ax (ay cs os ks gs bs al mo od)).jm.drop 0).take (List.length (ax (ay cs os ks gs bs al mo od)).jm)),(((ax (ay cs os ks gs bs al mo od)).jl.drop 0).take (List.length (ax (ay cs os ks gs bs al mo od)).jl)),(((ax (ay cs os ks gs bs al mo od)).jk.drop 0).take (List.length (ax (ay cs os ks gs bs al mo od)).jk)),(((ax (ay cs os ks gs bs al mo od)).ji.drop 0).take (List.length (ax (ay cs os ks gs bs al mo od)).ji)),(((ax (ay cs os ks gs bs al mo od)).jh.drop 0).take (List.length (ax (ay cs os ks gs bs al mo od)).jh)),(((ax (ay cs os ks gs bs al mo od)).jg.drop 0).take (List.length (ax (ay cs os ks gs bs al mo od)).jg)),(((ax (ay cs os ks gs bs al mo od)).jf.drop 0).take (List.length (ax (ay cs os ks gs bs al mo od)).jf)),(((ax (ay cs os ks gs bs al mo od)).je.drop 0).take (List.length (ax (ay cs os ks gs bs al mo od)).je)),(((ax (ay cs os ks gs bs al mo od)).jd.drop 0).take (List.length (ax (ay cs os ks gs bs al mo od)).jd)),(((ax (ay cs os ks gs bs al mo od)).dJ.drop 0).take (List.length (ax (ay cs os ks gs bs al mo od)).dJ)),(((ax (ay cs os ks gs bs al mo od)).dI.drop 0).take (List.length (ax (ay cs os ks gs bs al mo od)).dI)),(((ax (ay cs os ks gs bs al mo od)).dH.drop 0).take (List.length (ax (ay cs os ks gs bs al mo od)).dH)),(((ax (ay cs os ks gs bs al mo od)).dG.drop 0).take (List.length (ax (ay cs os ks gs bs al mo od)).dG)),(((ax (ay cs os ks gs bs al mo od)).dF.drop 0).take (List.length (ax (ay cs os ks gs bs al mo od)).dF)),(((ax (ay cs os ks gs bs al mo od)).dD.drop 0).take (List.length (ax (ay cs os ks gs bs al mo od)).dD)),al,(ax (ay cs os ks gs bs al mo od)).sums,(List.replicate (List.length al:Int).toNat (0:Int))⟩:lG)
def fK (cs:List Cd) (os:List ByteArray) (ks:List Ko) (gs:List Ch) (bs:List Ba) (al mo od:List Int):qI:=(⟨gs,(List.length gs:Int),(0:Int),cs,os,ks,gs,bs,(gQ cs os ks gs bs),(((ax (ay cs os ks gs bs al mo od)).jo.drop 0).take (List.length (ax (ay cs os ks gs bs al mo od)).jo)),(((ax (ay cs os ks gs bs al mo od)).jm.drop 0).take (List.length (ax (ay cs os ks gs bs al mo od)).jm)),(((ax (ay cs os ks gs bs al mo od)).jl.drop 0).take (List.length (ax (ay cs os ks gs bs al mo od)).jl)),(((ax (ay cs os ks gs bs al mo od)).jk.drop 0).take (List.length (ax (ay cs os ks gs bs al mo od)).jk)),(((ax (ay cs os ks gs bs al mo od)).ji.drop 0).take (List.length (ax (ay cs os ks gs bs al mo od)).ji)),(((ax (ay cs os ks gs bs al mo od)).jh.drop 0).take (List.length (ax (ay cs os ks gs bs al mo od)).jh)),(((ax (ay cs os ks gs bs al mo od)).jg.drop 0).take (List.length (ax (ay cs os ks gs bs al mo od)).jg)),(((ax (ay cs os ks gs bs al mo od)).jf.drop 0).take (List.length (ax (ay cs os ks gs bs al mo od)).jf)),(((ax (ay cs os ks gs bs al mo od)).je.drop 0).take (List.length (ax (ay cs os ks gs bs al mo od)).je)),(((ax (ay cs os ks gs bs al mo od)).jd.drop 0).take (List.length (ax (ay cs os ks gs bs al mo od)).jd)),(((ax (ay cs os ks gs bs al mo od)).dJ.drop 0).take (List.length (ax (ay cs os ks gs bs al mo od)).dJ)),(((ax (ay cs os ks gs bs al mo od)).dI.drop 0).take (List.length (ax (ay cs os ks gs bs al mo od)).dI)),(((ax (ay cs os ks gs bs al mo od)).dH.drop 0).take (List.length (ax (ay cs os ks gs bs al mo od)).dH)),(((ax (ay cs os ks gs bs al mo od)).dG.drop 0).take (List.length (ax (ay cs os ks gs bs al mo od)).dG)),(((ax (ay cs os ks gs bs al mo od)).dF.drop 0).take (List.length (ax (ay cs os ks gs bs al mo od)).dF)),(((ax (ay cs os ks gs bs al mo od)).dD.drop 0).take (List.length (ax (ay cs os ks gs bs al mo od)).dD)),al,(List.replicate (List.length gs:Int).toNat (0:Int)),(iJ (eY cs os ks gs bs al mo od)).sums,(iJ (eY cs os ks gs bs al mo od)).levels⟩:qI)
noncomputable def aaS:Specs:=bf [(24,lg),(61,nY),(94,qH),(96,qG)]
theorem aiG:∀g S,aaS g=some S→Valid Tryz.prog aS g S:=aT (l:=[(24,lg),(61,nY),(94,qH),(96,qG)]) ⟨yC,CO,Gw,Gv,trivial⟩
noncomputable def aq7:Hand:=inl Tryz.prog aS aaS (kD 97 4 8 (QI.lp) (kD 93 7 2 (yx.lp) (kD 95 1 3 (wO.lp) (kD 93 1 2 (ve.lp) (lX Tryz.prog aS (aaS) 20 2))))) 9
theorem aAG:dL Tryz.prog aS aq7:=bQ aiG (dK Tryz.func97 rfl (by kernel_rfl) VJ (dK Tryz.func93 rfl (by kernel_rfl) FT (dK Tryz.func95 rfl (by kernel_rfl) zq (dK Tryz.func93 rfl (by kernel_rfl) wP (dQ aiG))))) 9
theorem anU (cs:List Cd) (os:List ByteArray) (ks:List Ko) (gs:List Ch) (bs:List Ba) (al mo od:List Int):bT Tryz.prog aS (aaS) aq7 (fun i=>if i=11 then JS.lp else if i=21 then Ew.lp else aC i) Tryz.f52 [.agg [.xl dU cs,.xl .str os,.xl dW ks,.xl dM gs,.xl dX bs],.xl (.int .i64) al,.xl (.int .i64) mo,.xl (.int .i64) od]=.br ((FH cs os ks gs bs) !=0) (.ok (.iD [.xl (.int .i64) ([]:List Int),.v (.int .i64 1)])) (.br ((List.length al:Int) !=(List.length gs:Int)) (.ok (.iD [.xl (.int .i64) ([]:List Int),.v (.int .i64 1)])) (.br ((List.length mo:Int) !=(List.length gs:Int)) (.ok (.iD [.xl (.int .i64) ([]:List Int),.v (.int .i64 1)])) (.req (YM (⟨false,al,(List.length al:Int),(0:Int),cs,os,ks,gs,bs⟩:jE)) (.br (iw (xI (⟨false,al,(List.length al:Int),(0:Int),cs,os,ks,gs,bs⟩:jE)) (.ret)) (.br (!(ug (⟨false,al,(List.length al:Int),(0:Int),cs,os,ks,gs,bs⟩:jE)).r) (.ok (.iD [.xl (.int .i64) ([]:List Int),.v (.int .i64 1)])) (.req (YM (⟨false,mo,(List.length mo:Int),(0:Int),cs,os,ks,gs,bs⟩:jE)) (.br (iw (xI (⟨false,mo,(List.length mo:Int),(0:Int),cs,os,ks,gs,bs⟩:jE)) (.ret)) (.br (!(ug (⟨false,mo,(List.length mo:Int),(0:Int),cs,os,ks,gs,bs⟩:jE)).r) (.ok (.iD [.xl (.int .i64) ([]:List Int),.v (.int .i64 1)])) (.req ((List.length gs:Int)≤1000) (.br (!(mG od (List.length gs:Int))) (.ok (.iD [.xl (.int .i64) ([]:List Int),.v (.int .i64 1)])) (.req (0≤(List.length (gQ cs os ks gs bs):Int)∧(List.length (gQ cs os ks gs bs):Int)≤(List.length (gQ cs os ks gs bs):Int)∧8*(List.length (gQ cs os ks gs bs):Int)≤2^48∧(List.length (gQ cs os ks gs bs):Int)<2^63) (.req (0≤(List.length al:Int)∧(List.length al:Int)≤(List.length al:Int)∧8*(List.length al:Int)≤2^48∧(List.length al:Int)<2^63) (.req (0=0∧0=List.length ([]:List Int)) (.req (0=0∧0=List.length ([]:List Int)) (.req (0=0∧0=List.length ([]:List Int)) (.req (0=0∧0=List.length ([]:List Int)) (.req (0=0∧0=List.length ([]:List Int)) (.req (0=0∧0=List.length ([]:List Int)) (.req (0=0∧0=List.length ([]:List Int)) (.req (0=0∧0=List.length ([]:List Int)) (.req (0=0∧0=List.length ([]:List Int)) (.req (0=0∧0=List.length ([]:List Int)) (.req (0=0∧0=List.length ([]:List Int)) (.req (0=0∧0=List.length ([]:List Int)) (.req (0=0∧0=List.length ([]:List Int)) (.req (0=0∧0=List.length ([]:List Int)) (.req (0=0∧0=List.length ([]:List Int)) (.req (0=0∧0=List.length ([]:List Int)) (.req (0=0∧(List.length (gQ cs os ks gs bs):Int).toNat=List.length (List.replicate (List.length (gQ cs os ks gs bs):Int).toNat (0:Int))) (.req (0=0∧(List.length al:Int).toNat=List.length (List.replicate (List.length al:Int).toNat (0:Int))) (.req (QH (ay cs os ks gs bs al mo od)) (.req (0+(List.length (ax (ay cs os ks gs bs al mo od)).jo)≤List.length (ax (ay cs os ks gs bs al mo od)).jo) (.req (0+(List.length (ax (ay cs os ks gs bs al mo od)).jm)≤List.length (ax (ay cs os ks gs bs al mo od)).jm) (.req (0+(List.length (ax (ay cs os ks gs bs al mo od)).jl)≤List.length (ax (ay cs os ks gs bs al mo od)).jl) (.req (0+(List.length (ax (ay cs os ks gs bs al mo od)).jk)≤List.length (ax (ay cs os ks gs bs al mo od)).jk) (.req (0+(List.length (ax (ay cs os ks gs bs al mo od)).ji)≤List.length (ax (ay cs os ks gs bs al mo od)).ji) (.req (0+(List.length (ax (ay cs os ks gs bs al mo od)).jh)≤List.length (ax (ay cs os ks gs bs al mo od)).jh) (.req (0+(List.length (ax (ay cs os ks gs bs al mo od)).jg)≤List.length (ax (ay cs os ks gs bs al mo od)).jg) (.req (0+(List.length (ax (ay cs os ks gs bs al mo od)).jf)≤List.length (ax (ay cs os ks gs bs al mo od)).jf) (.req (0+(List.length (ax (ay cs os ks gs bs al mo od)).je)≤List.length (ax (ay cs os ks gs bs al mo od)).je) (.req (0+(List.length (ax (ay cs os ks gs bs al mo od)).jd)≤List.length (ax (ay cs os ks gs bs al mo od)).jd) (.req (0+(List.length (ax (ay cs os ks gs bs al mo od)).dJ)≤List.length (ax (ay cs os ks gs bs al mo od)).dJ) (.req (0+(List.length (ax (ay cs os ks gs bs al mo od)).dI)≤List.length (ax (ay cs os ks gs bs al mo od)).dI) (.req (0+(List.length (ax (ay cs os ks gs bs al mo od)).dH)≤List.length (ax (ay cs os ks gs bs al mo od)).dH) (.req (0+(List.length (ax (ay cs os ks gs bs al mo od)).dG)≤List.length (ax (ay cs os ks gs bs al mo od)).dG) (.req (0+(List.length (ax (ay cs os ks gs bs al mo od)).dF)≤List.length (ax (ay cs os ks gs bs al mo od)).dF) (.req (0+(List.length (ax (ay cs os ks gs bs al mo od)).dD)≤List.length (ax (ay cs os ks gs bs al mo od)).dD) (.rl (ax (ay cs os ks gs bs al mo od)).sums (.rl (List.replicate (List.length al:Int).toNat (0:Int)) (.req (QG (eY cs os ks gs bs al mo od)) (.req (0≤(List.length gs:Int)∧(List.length gs:Int)≤(List.length gs:Int)∧8*(List.length gs:Int)≤2^48∧(List.length gs:Int)<2^63) (.req (0=0∧(List.length gs:Int).toNat=List.length (List.replicate (List.length gs:Int).toNat (0:Int))) (.rl (iJ (eY cs os ks gs bs al mo od)).sums (.rl (iJ (eY cs os ks gs bs al mo od)).levels (.req (QF (fK cs os ks gs bs al mo od)) (.req (0+(List.length (gY (fK cs os ks gs bs al mo od)).out)≤List.length (gY (fK cs os ks gs bs al mo od)).out) (.ok (.iD [.xl (.int .i64) (((gY (fK cs os ks gs bs al mo od)).out.drop 0).take (List.length (gY (fK cs os ks gs bs al mo od)).out)),.v (.int .i64 0)]))))))))))))))))))))))))))))))))))))))))))))))))))) (.br (!true) (.ok (.iD [.xl (.int .i64) ([]:List Int),.v (.int .i64 1)])) (.req ((List.length gs:Int)≤1000) (.br (!(mG od (List.length gs:Int))) (.ok (.iD [.xl (.int .i64) ([]:List Int),.v (.int .i64 1)])) (.req (0≤(List.length (gQ cs os ks gs bs):Int)∧(List.length (gQ cs os ks gs bs):Int)≤(List.length (gQ cs os ks gs bs):Int)∧8*(List.length (gQ cs os ks gs bs):Int)≤2^48∧(List.length (gQ cs os ks gs bs):Int)<2^63) (.req (0≤(List.length al:Int)∧(List.length al:Int)≤(List.length al:Int)∧8*(List.length al:Int)≤2^48∧(List.length al:Int)<2^63) (.req (0=0∧0=List.length ([]:List Int)) (.req (0=0∧0=List.length ([]:List Int)) (.req (0=0∧0=List.length ([]:List Int)) (.req (0=0∧0=List.length ([]:List Int)) (.req (0=0∧0=List.length ([]:List Int)) (.req (0=0∧0=List.length ([]:List Int)) (.req (0=0∧0=List.length ([]:List Int)) (.req (0=0∧0=List.length ([]:List Int)) (.req (0=0∧0=List.length ([]:List Int)) (.req (0=0∧0=List.length ([]:List Int)) (.req (0=0∧0=List.length ([]:List Int)) (.req (0=0∧0=List.length ([]:List Int)) (.req (0=0∧0=List.length ([]:List Int)) (.req (0=0∧0=List.length ([]:List Int)) (.req (0=0∧0=List.length ([]:List Int)) (.req (0=0∧0=List.length ([]:List Int)) (.req (0=0∧(List.length (gQ cs os ks gs bs):Int).toNat=List.length (List.replicate (List.length (gQ cs os ks gs bs):Int).toNat (0:Int))) (.req (0=0∧(List.length al:Int).toNat=List.length (List.replicate (List.length al:Int).toNat (0:Int))) (.req (QH (ay cs os ks gs bs al mo od)) (.req (0+(List.length (ax (ay cs os ks gs bs al mo od)).jo)≤List.length (ax (ay cs os ks gs bs al mo od)).jo) (.req (0+(List.length (ax (ay cs os ks gs bs al mo od)).jm)≤List.length (ax (ay cs os ks gs bs al mo od)).jm) (.req (0+(List.length (ax (ay cs os ks gs bs al mo od)).jl)≤List.length (ax (ay cs os ks gs bs al mo od)).jl) (.req (0+(List.length (ax (ay cs os ks gs bs al mo od)).jk)≤List.length (ax (ay cs os ks gs bs al mo od)).jk) (.req (0+(List.length (ax (ay cs os ks gs bs al mo od)).ji)≤List.length (ax (ay cs os ks gs bs al mo od)).ji) (.req (0+(List.length (ax (ay cs os ks gs bs al mo od)).jh)≤List.length (ax (ay cs os ks gs bs al mo od)).jh) (.req (0+(List.length (ax (ay cs os ks gs bs al mo od)).jg)≤List.length (ax (ay cs os ks gs bs al mo od)).jg) (.req (0+(List.length (ax (ay cs os ks gs bs al mo od)).jf)≤List.length (ax (ay cs os ks gs bs al mo od)).jf) (.req (0+(List.length (ax (ay cs os ks gs bs al mo od)).je)≤List.length (ax (ay cs os ks gs bs al mo od)).je) (.req (0+(List.length (ax (ay cs os ks gs bs al mo od)).jd)≤List.length (ax (ay cs os ks gs bs al mo od)).jd) (.req (0+(List.length (ax (ay cs os ks gs bs al mo od)).dJ)≤List.length (ax (ay cs os ks gs bs al mo od)).dJ) (.req (0+(List.length (ax (ay cs os ks gs bs al mo od)).dI)≤List.length (ax (ay cs os ks gs bs al mo od)).dI) (.req (0+(List.length (ax (ay cs os ks gs bs al mo od)).dH)≤List.length (ax (ay cs os ks gs bs al mo od)).dH) (.req (0+(List.length (ax (ay cs os ks gs bs al mo od)).dG)≤List.length (ax (ay cs os ks gs bs al mo od)).dG) (.req (0+(List.length (ax (ay cs os ks gs bs al mo od)).dF)≤List.length (ax (ay cs os ks gs bs al mo od)).dF) (.req (0+(List.length (ax (ay cs os ks gs bs al mo od)).dD)≤List.length (ax (ay cs os ks gs bs al mo od)).dD) (.rl (ax (ay cs os ks gs bs al mo od)).sums (.rl (List.replicate (List.length al:Int).toNat (0:Int)) (.req (QG (eY cs os ks gs bs al mo od)) (.req (0≤(List.length gs:Int)∧(List.length gs:Int)≤(List.length gs:Int)∧8*(List.length gs:Int)≤2^48∧(List.length gs:Int)<2^63) (.req (0=0∧(List.length gs:Int).toNat=List.length (List.replicate (List.length gs:Int).toNat (0:Int))) (.rl (iJ (eY cs os ks gs bs al mo od)).sums (.rl (iJ (eY cs os ks gs bs al mo od)).levels (.req (QF (fK cs os ks gs bs al mo od)) (.req (0+(List.length (gY (fK cs os ks gs bs al mo od)).out)≤List.length (gY (fK cs os ks gs bs al mo od)).out) (.ok (.iD [.xl (.int .i64) (((gY (fK cs os ks gs bs al mo od)).out.drop 0).take (List.length (gY (fK cs os ks gs bs al mo od)).out)),.v (.int .i64 0)])))))))))))))))))))))))))))))))))))))))))))))))))))))) (.br (!true) (.ok (.iD [.xl (.int .i64) ([]:List Int),.v (.int .i64 1)])) (.req (YM (⟨false,mo,(List.length mo:Int),(0:Int),cs,os,ks,gs,bs⟩:jE)) (.br (iw (xI (⟨false,mo,(List.length mo:Int),(0:Int),cs,os,ks,gs,bs⟩:jE)) (.ret)) (.br (!(ug (⟨false,mo,(List.length mo:Int),(0:Int),cs,os,ks,gs,bs⟩:jE)).r) (.ok (.iD [.xl (.int .i64) ([]:List Int),.v (.int .i64 1)])) (.req ((List.length gs:Int)≤1000) (.br (!(mG od (List.length gs:Int))) (.ok (.iD [.xl (.int .i64) ([]:List Int),.v (.int .i64 1)])) (.req (0≤(List.length (gQ cs os ks gs bs):Int)∧(List.length (gQ cs os ks gs bs):Int)≤(List.length (gQ cs os ks gs bs):Int)∧8*(List.length (gQ cs os ks gs bs):Int)≤2^48∧(List.length (gQ cs os ks gs bs):Int)<2^63) (.req (0≤(List.length al:Int)∧(List.length al:Int)≤(List.length al:Int)∧8*(List.length al:Int)≤2^48∧(List.length al:Int)<2^63) (.req (0=0∧0=List.length ([]:List Int)) (.req (0=0∧0=List.length ([]:List Int)) (.req (0=0∧0=List.length ([]:List Int)) (.req (0=0∧0=List.length ([]:List Int)) (.req (0=0∧0=List.length ([]:List Int)) (.req (0=0∧0=List.length ([]:List Int)) (.req (0=0∧0=List.length ([]:List Int)) (.req (0=0∧0=List.length ([]:List Int)) (.req (0=0∧0=List.length ([]:List Int)) (.req (0=0∧0=List.length ([]:List Int)) (.req (0=0∧0=List.length ([]:List Int)) (.req (0=0∧0=List.length ([]:List Int)) (.req (0=0∧0=List.length ([]:List Int)) (.req (0=0∧0=List.length ([]:List Int)) (.req (0=0∧0=List.length ([]:List Int)) (.req (0=0∧0=List.length ([]:List Int)) (.req (0=0∧(List.length (gQ cs os ks gs bs):Int).toNat=List.length (List.replicate (List.length (gQ cs os ks gs bs):Int).toNat (0:Int))) (.req (0=0∧(List.length al:Int).toNat=List.length (List.replicate (List.length al:Int).toNat (0:Int))) (.req (QH (ay cs os ks gs bs al mo od)) (.req (0+(List.length (ax (ay cs os ks gs bs al mo od)).jo)≤List.length (ax (ay cs os ks gs bs al mo od)).jo) (.req (0+(List.length (ax (ay cs os ks gs bs al mo od)).jm)≤List.length (ax (ay cs os ks gs bs al mo od)).jm) (.req (0+(List.length (ax (ay cs os ks gs bs al mo od)).jl)≤List.length (ax (ay cs os ks gs bs al mo od)).jl) (.req (0+(List.length (ax (ay cs os ks gs bs al mo od)).jk)≤List.length (ax (ay cs os ks gs bs al mo od)).jk) (.req (0+(List.length (ax (ay cs os ks gs bs al mo od)).ji)≤List.length (ax (ay cs os ks gs bs al mo od)).ji) (.req (0+(List.length (ax (ay cs os ks gs bs al mo od)).jh)≤List.length (ax (ay cs os ks gs bs al mo od)).jh) (.req (0+(List.length (ax (ay cs os ks gs bs al mo od)).jg)≤List.length (ax (ay cs os ks gs bs al mo od)).jg) (.req (0+(List.length (ax (ay cs os ks gs bs al mo od)).jf)≤List.length (ax (ay cs os ks gs bs al mo od)).jf) (.req (0+(List.length (ax (ay cs os ks gs bs al mo od)).je)≤List.length (ax (ay cs os ks gs bs al mo od)).je) (.req (0+(List.length (ax (ay cs os ks gs bs al mo od)).jd)≤List.length (ax (ay cs os ks gs bs al mo od)).jd) (.req (0+(List.length (ax (ay cs os ks gs bs al mo od)).dJ)≤List.length (ax (ay cs os ks gs bs al mo od)).dJ) (.req (0+(List.length (ax (ay cs os ks gs bs al mo od)).dI)≤List.length (ax (ay cs os ks gs bs al mo od)).dI) (.req (0+(List.length (ax (ay cs os ks gs bs al mo od)).dH)≤List.length (ax (ay cs os ks gs bs al mo od)).dH) (.req (0+(List.length (ax (ay cs os ks gs bs al mo od)).dG)≤List.length (ax (ay cs os ks gs bs al mo od)).dG) (.req (0+(List.length (ax (ay cs os ks gs bs al mo od)).dF)≤List.length (ax (ay cs os ks gs bs al mo od)).dF) (.req (0+(List.length (ax (ay cs os ks gs bs al mo od)).dD)≤List.length (ax (ay cs os ks gs bs al mo od)).dD) (.rl (ax (ay cs os ks gs bs al mo od)).sums (.rl (List.replicate (List.length al:Int).toNat (0:Int)) (.req (QG (eY cs os ks gs bs al mo od)) (.req (0≤(List.length gs:Int)∧(List.length gs:Int)≤(List.length gs:Int)∧8*(List.length gs:Int)≤2^48∧(List.length gs:Int)<2^63) (.req (0=0∧(List.length gs:Int).toNat=List.length (List.replicate (List.length gs:Int).toNat (0:Int))) (.rl (iJ (eY cs os ks gs bs al mo od)).sums (.rl (iJ (eY cs os ks gs bs al mo od)).levels (.req (QF (fK cs os ks gs bs al mo od)) (.req (0+(List.length (gY (fK cs os ks gs bs al mo od)).out)≤List.length (gY (fK cs os ks gs bs al mo od)).out) (.ok (.iD [.xl (.int .i64) (((gY (fK cs os ks gs bs al mo od)).out.drop 0).take (List.length (gY (fK cs os ks gs bs al mo od)).out)),.v (.int .i64 0)]))))))))))))))))))))))))))))))))))))))))))))))))))) (.br (!true) (.ok (.iD [.xl (.int .i64) ([]:List Int),.v (.int .i64 1)])) (.req ((List.length gs:Int)≤1000) (.br (!(mG od (List.length gs:Int))) (.ok (.iD [.xl (.int .i64) ([]:List Int),.v (.int .i64 1)])) (.req (0≤(List.length (gQ cs os ks gs bs):Int)∧(List.length (gQ cs os ks gs bs):Int)≤(List.length (gQ cs os ks gs bs):Int)∧8*(List.length (gQ cs os ks gs bs):Int)≤2^48∧(List.length (gQ cs os ks gs bs):Int)<2^63) (.req (0≤(List.length al:Int)∧(List.length al:Int)≤(List.length al:Int)∧8*(List.length al:Int)≤2^48∧(List.length al:Int)<2^63) (.req (0=0∧0=List.length ([]:List Int)) (.req (0=0∧0=List.length ([]:List Int)) (.req (0=0∧0=List.length ([]:List Int)) (.req (0=0∧0=List.length ([]:List Int)) (.req (0=0∧0=List.length ([]:List Int)) (.req (0=0∧0=List.length ([]:List Int)) (.req (0=0∧0=List.length ([]:List Int)) (.req (0=0∧0=List.length ([]:List Int)) (.req (0=0∧0=List.length ([]:List Int)) (.req (0=0∧0=List.length ([]:List Int)) (.req (0=0∧0=List.length ([]:List Int)) (.req (0=0∧0=List.length ([]:List Int)) (.req (0=0∧0=List.length ([]:List Int)) (.req (0=0∧0=List.length ([]:List Int)) (.req (0=0∧0=List.length ([]:List Int)) (.req (0=0∧0=List.length ([]:List Int)) (.req (0=0∧(List.length (gQ cs os ks gs bs):Int).toNat=List.length (List.replicate (List.length (gQ cs os ks gs bs):Int).toNat (0:Int))) (.req (0=0∧(List.length al:Int).toNat=List.length (List.replicate (List.length al:Int).toNat (0:Int))) (.req (QH (ay cs os ks gs bs al mo od)) (.req (0+(List.length (ax (ay cs os ks gs bs al mo od)).jo)≤List.length (ax (ay cs os ks gs bs al mo od)).jo) (.req (0+(List.length (ax (ay cs os ks gs bs al mo od)).jm)≤List.length (ax (ay cs os ks gs bs al mo od)).jm) (.req (0+(List.length (ax (ay cs os ks gs bs al mo od)).jl)≤List.length (ax (ay cs os ks gs bs al mo od)).jl) (.req (0+(List.length (ax (ay cs os ks gs bs al mo od)).jk)≤List.length (ax (ay cs os ks gs bs al mo od)).jk) (.req (0+(List.length (ax (ay cs os ks gs bs al mo od)).ji)≤List.length (ax (ay cs os ks gs bs al mo od)).ji) (.req (0+(List.length (ax (ay cs os ks gs bs al mo od)).jh)≤List.length (ax (ay cs os ks gs bs al mo od)).jh) (.req (0+(List.length (ax (ay cs os ks gs bs al mo od)).jg)≤List.length (ax (ay cs os ks gs bs al mo od)).jg) (.req (0+(List.length (ax (ay cs os ks gs bs al mo od)).jf)≤List.length (ax (ay cs os ks gs bs al mo od)).jf) (.req (0+(List.length (ax (ay cs os ks gs bs al mo od)).je)≤List.length (ax (ay cs os ks gs bs al mo od)).je) (.req (0+(List.length (ax (ay cs os ks gs bs al mo od)).jd)≤List.length (ax (ay cs os ks gs bs al mo od)).jd) (.req (0+(List.length (ax (ay cs os ks gs bs al mo od)).dJ)≤List.length (ax (ay cs os ks gs bs al mo od)).dJ) (.req (0+(List.length (ax (ay cs os ks gs bs al mo od)).dI)≤List.length (ax (ay cs os ks gs bs al mo od)).dI) (.req (0+(List.length (ax (ay cs os ks gs bs al mo od)).dH)≤List.length (ax (ay cs os ks gs bs al mo od)).dH) (.req (0+(List.length (ax (ay cs os ks gs bs al mo od)).dG)≤List.length (ax (ay cs os ks gs bs al mo od)).dG) (.req (0+(List.length (ax (ay cs os ks gs bs al mo od)).dF)≤List.length (ax (ay cs os ks gs bs al mo od)).dF) (.req (0+(List.length (ax (ay cs os ks gs bs al mo od)).dD)≤List.length (ax (ay cs os ks gs bs al mo od)).dD) (.rl (ax (ay cs os ks gs bs al mo od)).sums (.rl (List.replicate (List.length al:Int).toNat (0:Int)) (.req (QG (eY cs os ks gs bs al mo od)) (.req (0≤(List.length gs:Int)∧(List.length gs:Int)≤(List.length gs:Int)∧8*(List.length gs:Int)≤2^48∧(List.length gs:Int)<2^63) (.req (0=0∧(List.length gs:Int).toNat=List.length (List.replicate (List.length gs:Int).toNat (0:Int))) (.rl (iJ (eY cs os ks gs bs al mo od)).sums (.rl (iJ (eY cs os ks gs bs al mo od)).levels (.req (QF (fK cs os ks gs bs al mo od)) (.req (0+(List.length (gY (fK cs os ks gs bs al mo od)).out)≤List.length (gY (fK cs os ks gs bs al mo od)).out) (.ok (.iD [.xl (.int .i64) (((gY (fK cs os ks gs bs al mo od)).out.drop 0).take (List.length (gY (fK cs os ks gs bs al mo od)).out)),.v (.int .i64 0)])))))))))))))))))))))))))))))))))))))))))))))))))))))))))):=by kernel_rfl
end Go.Proofs.YtlihnbimgclogaaGreatDoor
